/- The writer of a node (package node). -/
import Derived.Maps.OwnSet
import Derived.DeepKeys4
import Derived.Test.YtlpdhhhgckpcfaaGreatPageA
namespace Go.Proofs.YtlpdhhhgckpcfaaGreat
set_option linter.unusedSimpArgs false
set_option linter.unusedVariables false
open Go.RowKit
set_option maxHeartbeats 16000000
set_option maxRecDepth 100000
structure Pt where
 i:Int
 c:aO
def s8 (p:Pt):List Value:=[.int .i64 p.i,.int .u64 p.c.n,.string p.c.k,.int .u64 p.c.m]
def cj (l:List Pt):List Value:=l.flatMap s8
theorem yw (l:List Pt):(cj l).length=l.length*4:=by
 induction l with
 | nil=>rfl
 | cons s l ih=>rw[show cj (s::l)=s8 s++cj l from rfl,List.length_append,ih];simp[s8];omega
theorem iM (l l':List Pt):cj (l++l')=cj l++cj l' := by unfold cj;rw[List.flatMap_append]
theorem lr (l:List Pt):∀(i:Nat)(s:Pt),l[i]?=some s->(cj l)[i*4]?=some (.int .i64 s.i)/\(cj l)[i*4+1]?=some (.int .u64 s.c.n)/\(cj l)[i*4+2]?=some (.string s.c.k)/\(cj l)[i*4+3]?=some (.int .u64 s.c.m):=by
 induction l with
 | nil=>intro i s h;simp at h
 | cons a l ih=>
  intro i s h;have e:cj (a::l)=.int .i64 a.i :: .int .u64 a.c.n :: .string a.c.k :: .int .u64 a.c.m::cj l:=rfl;rw[e];cases i with
  | zero=>simp at h;subst h;exact⟨rfl,rfl,rfl,rfl⟩
  | succ i=>
   have:=ih i s (by simpa using h)
   rw[show(i+1)*4=i*4+4 by omega]
   simpa using this
theorem Nb (l:List Pt):∀u,u∈cj l->u.oneCell'=true:=by
 intro u hu;obtain⟨s,_,hs⟩:=List.mem_flatMap.1 hu;simp[s8]at hs;rcases hs with rfl|rfl|rfl|rfl <;> rfl
def fR (d:aR)(id:Int):Nat->List Sl->List Pt
 | _,[]=>[]
 | i,s::l=>⟨d.slot id i,⟨s.r,s.k,0⟩⟩::fR d id (i+1) l
theorem eT {d:aR}{id:Int}:∀(l:List Sl)(i:Nat),(fR d id i l).length=l.length
 | [],_=>rfl
 | s::l,i=>by simp[fR,eT l]
theorem uA {d:aR}{id:Int}:∀(l:List Sl)(i:Nat)(s:Sl),fR d id i (l++[s])=fR d id i l++[⟨d.slot id ((i+l.length:Nat):Int),⟨s.r,s.k,0⟩⟩]
 | [],i,s=>by simp[fR]
 | x::l,i,s=>by
  show _::fR d id (i+1) (l++[s])=_::_
  rw[uA l (i+1) s];simp only[List.length_cons];rw[show i+1+l.length=i+(l.length+1)by omega]
  rfl
def mG (pg:Pg):aO:=cond pg.la ⟨0,⟨#[]⟩,1⟩ ⟨0,pg.hi,0⟩
def bP (d:aR)(id:Int)(pg:Pg):List Pt:=
 fR d id 0 pg.sl++[⟨d.node id 2,mG pg⟩,⟨d.node id 3,⟨pg.ri,⟨#[]⟩,0⟩⟩,⟨d.node id 1,⟨pg.sl.length,⟨#[]⟩,pg.ak⟩⟩]
theorem yx:(Tryz.prog.info? 139).map (fun i=>(i.zero,i.size,i.bytes))=some (some (.agg #[.int .i64 0,.int .u64 0,.string ⟨#[]⟩,.int .u64 0]),4,40):=by kernel_rfl
section
variable {K:aL}{w:World}{F:List aC}{pg:Pg}{a:Option Addr}{cap:Nat}{d:aR}{id:Int}
theorem uB (hd:d.Ok)(hid:0<=id/\id<18446744073709551616)(bZ:0<=pg.ak/\pg.ak<1000000)(hle:(pg.sl.length:Int)<=d.fa)
  (hs:St K w (az (.slice a pg.sl.length cap) 69 2 pg.sl.length (aD pg.sl)::F)) :
  Calls Tryz.prog 89 #[.agg #[.int .i64 d.th,.int .i64 d.sn,.int .i64 d.no,.int .i64 d.ch,.int .i64 d.re,.int .i64 d.fa,.int .u64 d.cl],.int .u64 id,.agg #[.int .i64 (pg).ak,(.slice a pg.sl.length cap),.string (pg).hi,.bool (pg).la,.int .u64 (pg).ri]] w fun e w' => ∃va,e=.returned va /\
   St K w' (az va 139 4 (bP d id pg).length (cj (bP d id pg))::az (.slice a pg.sl.length cap) 69 2 pg.sl.length (aD pg.sl)::F):=by
 obtain⟨n,hn⟩:∃n,n=pg.sl.length:=⟨_,rfl⟩;have rO:=hd.mK;obtain⟨iv,cZ,dc,dg,dh⟩:=info_parts yx;have Qs:=aq3 (fun(i:Int) (w:World)=>zR d hd id i hid.1 hid.2 w)
 have Qh:=aq3 (fun(w:World)=>tN d hd id hid.1 hid.2 w)
 have Qr:=aq3 (fun(w:World)=>qX d hd id hid.1 hid.2 w)
 have Q1:=aq3 (fun(w:World)=>tM d hd id hid.1 hid.2 w)
 obtain⟨o,ho⟩:∃o,o=pg.la:=⟨_,rfl⟩;have hnl:n<=100:=by omega
 rw[←hn]at hs ⊢;rw[←ho];have Hn:=aq3 hn;have Ho:=aq3 ho;clear hn ho hle;have hs:=(hs.made (.cells #[.int .i64 d.th,.int .i64 d.sn,.int .i64 d.no,.int .i64 d.ch,.int .i64 d.re,.int .i64 d.fa,.int .u64 d.cl] 29)).made (.cells #[.int .i64 pg.ak,.slice a n cap,.string pg.hi,.bool o,.int .u64 pg.ri] 43);rw[World.size_alloc]at hs;have hs:=hs.cF (T:=139) (size:=4);go_enter Tryz.func89,Tryz.ntmps89
 go_wp2
 go_loopw [14,7] (fun v14 v7 wr=>∃(k:Nat),k<=n/\v14=.int .i64 k/\St K wr (az v7 139 4 k (cj (fR d id 0 (pg.sl.take k)))::blk (w.heap.size+1) (.cells #[.int .i64 pg.ak,.slice a n cap,.string pg.hi,.bool o,.int .u64 pg.ri] 43)::blk w.heap.size (.cells #[.int .i64 d.th,.int .i64 d.sn,.int .i64 d.no,.int .i64 d.ch,.int .i64 d.re,.int .i64 d.fa,.int .u64 d.cl] 29)::az (.slice a n cap) 69 2 n (aD pg.sl)::F)) (fun v _ _=>n-(intOf v).toNat)
 case atStart=>exact⟨0,by omega,rfl,hs⟩
 case round=>
  clear hs;obtain⟨k,hk,rfl,hs⟩:=hrel;by_cases hlt:k<n
  ·have hl':k<pg.sl.length:=by rw[←Hn.out];exact hlt
   have eY:=(hs.b3).cO (by rw[←Hn.out];omega)
   obtain⟨b1,off1,rfl,_,c0,c1⟩:=eY.2 k pg.sl[k] (aq8 hl');have hnext:cj (fR d id 0 (pg.sl.take (k+1)))=cj (fR d id 0 (pg.sl.take k))++[.int .i64 (d.slot id (k:Int)),.int .u64 pg.sl[k].r,.string pg.sl[k].k,.int .u64 0]:=by
    rw[List.take_succ_eq_append_getElem hl',uA,iM,Nat.zero_add,List.length_take,Nat.min_eq_left (by omega)]
    rfl
   have Hx:=aq3 hnext;generalize pg.sl[k]=u at *;generalize cj (fR d id 0 (pg.sl.take k))=xs at *;have kl:=hs.k2;clear hl' eY hnext;obtain⟨a7,c7,rfl,_,_⟩:=hs.aH;have hs:=hs.made (.cells #[.string u.k,.int .u64 u.r] 69);go_upto_region 5 with(fail)
   refine cP hs ?_
   clear hs c0 c1 kl;intro W hs;have Hs:=aq3 hs;clear hs;refine eK _ 10 ?aS 30 (.cells #[.int .i64 (d.slot id (k:Int)),.int .u64 u.r,.string u.k,.int .u64 0] 139) (fun W=> .slice (some ⟨W.heap.size,0,none⟩) 1 1) rfl rfl (by kernel_rfl) ?hB rfl (fun _ _ _ _ h=>h) ?H ?x8 ?Ah
   case H=>
    intro W2 hb;have hs:=Hs.out.same hb;have kx:=hs.k0;have kl:=hs.b3.k0;simp only[List.take_succ_cons,List.take_zero,List.drop_succ_cons,List.drop_zero,Act.put,List.setIfInBounds_toArray,List.set_cons_zero,List.set_cons_succ,Act.eval];repeat (go_big_quiet_step ((go_at_call 127;exact aX (Qs.out _ _))))
    refine wpQuiet_nil ?_
    rfl
   case hB=>as_aux_lemma=>kernel_rfl
   case x8=>
    intro w';kernel_rfl
   case Ah=>
    intro w0 w5 hb0 hb5;have hs:=((Hs.out.same hb0).made (.cells [.int .i64 (d.slot id (k:Int)),.int .u64 u.r,.string u.k,.int .u64 0].toArray 139)).same (by rw[World.size_alloc];exact hb5)
    have hk:=hs.k0;have Hw:=aq3 (fun(j:Nat) (x:Value) (hu:[Value.int .i64 (d.slot id (k:Int)),.int .u64 u.r,.string u.k,.int .u64 0][j]?=some x)=>(show ∃g off,(some ⟨w0.heap.size,0,none⟩:Option Addr)=some ⟨g,off,none⟩/\w5.cell? ⟨g,off+j,none⟩=some x from⟨_,0,rfl,by rw[Nat.zero_add,hk j];simpa using hu⟩))
    clear hk;have Hr:=aq3 hs.b2;clear hs;simp only[List.drop_succ_cons,List.drop_zero];refine cG _ _ 137 139 _ k 1 1 4 40 xs [.int .i64 (d.slot id (k:Int)),.int .u64 u.r,.string u.k,.int .u64 0] (.agg #[.int .i64 0,.int .u64 0,.string ⟨#[]⟩,.int .u64 0]) iv (some ⟨w0.heap.size,0,none⟩) Hr.out rfl rfl Tryz.underlying137 cZ dc dg dh rfl (by decide) rfl rfl rfl (fun e=>by cases e) Hw.out (fun x hu=>by simp at hu;rcases hu with rfl|rfl|rfl|rfl <;> rfl) (by omega) (by decide) ?_
    clear Hr Hw;intro v' w6 hs;rw[←Hx.out]at hs;go_wp2
    go_roundw
    case rel=>exact⟨k+1,by omega,by go_num,hs.bY.bY⟩
    case measure=>simp[intOf];omega
  ·obtain rfl:k=n:=by omega
   have lQ:pg.sl.take k=pg.sl:=List.take_of_length_le (by rw[←Hn.out];exact Nat.le_refl _)
   rw[lQ]at hs;obtain⟨xs,hxs⟩:∃xs,xs=cj (fR d id 0 pg.sl):=⟨_,rfl⟩;rw[←hxs]at hs;have Hxs:=aq3 hxs.symm;clear hxs lQ hlt hk;have kp:=hs.k1;obtain⟨a7,c7,rfl,_,_⟩:=hs.aH;have kq:=fun(x:Obj)=>(hs.made x).k2
   cases o with
   | true=>
    have hs:=hs.made (.cells #[.int .u64 0,.string ⟨#[]⟩,.int .u64 1] 63);have dB:cj (bP d id pg)=xs++[.int .i64 (d.node id 2),.int .u64 0,.string ⟨#[]⟩,.int .u64 1,.int .i64 (d.node id 3),.int .u64 pg.ri,.string ⟨#[]⟩,.int .u64 0,.int .i64 (d.node id 1),.int .u64 k,.string ⟨#[]⟩,.int .u64 pg.ak]/\(bP d id pg).length=k+3:=by
     unfold bP mG;rw[←Ho.out,iM,Hxs.out,←Hn.out];exact⟨rfl,by simp[eT,←Hn.out]⟩
    have Hf:=aq3 dB;clear dB;go_upto_region 10 with(fail)
    refine cP hs ?_
    clear hs kp kq;intro W hs;have Hs:=aq3 hs;clear hs;refine eK _ 24 ?aSt 64 (.cells [.int .i64 (d.node id 2),.int .u64 0,.string ⟨#[]⟩,.int .u64 1,.int .i64 (d.node id 3),.int .u64 pg.ri,.string ⟨#[]⟩,.int .u64 0,.int .i64 (d.node id 1),.int .u64 k,.string ⟨#[]⟩,.int .u64 pg.ak].toArray 139) (fun W=> .slice (some ⟨W.heap.size,0,none⟩) 3 3) rfl rfl (by kernel_rfl) ?hBt rfl (fun _ _ _ _ h=>h) ?Ht ?halt ?Aht
    case Ht=>
     intro W2 hb;have hs:=Hs.out.same hb;have kx:=hs.k0;have kp:=hs.k2;have kl:=hs.b3.k0;simp only[List.take_succ_cons,List.take_zero,List.drop_succ_cons,List.drop_zero,Act.put,List.setIfInBounds_toArray,List.set_cons_zero,List.set_cons_succ,Act.eval];repeat (go_big_quiet_step (first|(go_at_call 112;exact aX (Qh.out _))|(go_at_call 128;exact aX (Qr.out _))|(go_at_call 129;exact aX (Q1.out _))))
     refine wpQuiet_nil ?_
     rfl
    case hBt=>as_aux_lemma=>kernel_rfl
    case halt=>
     intro w';kernel_rfl
    case Aht=>
     intro w0 w5 hb0 hb5;have hs:=((Hs.out.same hb0).made (.cells [.int .i64 (d.node id 2),.int .u64 0,.string ⟨#[]⟩,.int .u64 1,.int .i64 (d.node id 3),.int .u64 pg.ri,.string ⟨#[]⟩,.int .u64 0,.int .i64 (d.node id 1),.int .u64 k,.string ⟨#[]⟩,.int .u64 pg.ak].toArray 139)).same (by rw[World.size_alloc];exact hb5)
     have hk:=hs.k0;have Hw:=aq3 (fun(j:Nat) (x:Value) (hu:([.int .i64 (d.node id 2),.int .u64 0,.string ⟨#[]⟩,.int .u64 1,.int .i64 (d.node id 3),.int .u64 pg.ri,.string ⟨#[]⟩,.int .u64 0,.int .i64 (d.node id 1),.int .u64 k,.string ⟨#[]⟩,.int .u64 pg.ak]:List Value)[j]?=some x)=>(show ∃g off,(some ⟨w0.heap.size,0,none⟩:Option Addr)=some ⟨g,off,none⟩/\w5.cell? ⟨g,off+j,none⟩=some x from⟨_,0,rfl,by rw[Nat.zero_add,hk j];simpa using hu⟩))
     clear hk;have Hr:=aq3 hs.b2;clear hs;simp only[List.drop_succ_cons,List.drop_zero];refine cG _ _ 137 139 _ k 3 3 4 40 xs [.int .i64 (d.node id 2),.int .u64 0,.string ⟨#[]⟩,.int .u64 1,.int .i64 (d.node id 3),.int .u64 pg.ri,.string ⟨#[]⟩,.int .u64 0,.int .i64 (d.node id 1),.int .u64 k,.string ⟨#[]⟩,.int .u64 pg.ak] (.agg #[.int .i64 0,.int .u64 0,.string ⟨#[]⟩,.int .u64 0]) iv (some ⟨w0.heap.size,0,none⟩) Hr.out rfl rfl Tryz.underlying137 cZ dc dg dh rfl (by decide) rfl rfl rfl (fun e=>by cases e) Hw.out (fun x hu=>by simp at hu;rcases hu with rfl|rfl|rfl|rfl|rfl|rfl|rfl|rfl|rfl|rfl|rfl|rfl <;> rfl) (by omega) (by decide) ?_
     clear Hr Hw;intro v' w6 hs;go_wp2
     go_ret;exact⟨_,rfl,by rw[Hf.out.1,Hf.out.2];exact hs.bY.bY.bY.bY⟩
   | false=>
    have hs:=hs.made (.cells #[.int .u64 0,.string pg.hi,.int .u64 0] 63);have dB:cj (bP d id pg)=xs++[.int .i64 (d.node id 2),.int .u64 0,.string pg.hi,.int .u64 0,.int .i64 (d.node id 3),.int .u64 pg.ri,.string ⟨#[]⟩,.int .u64 0,.int .i64 (d.node id 1),.int .u64 k,.string ⟨#[]⟩,.int .u64 pg.ak]/\(bP d id pg).length=k+3:=by
     unfold bP mG;rw[←Ho.out,iM,Hxs.out,←Hn.out];exact⟨rfl,by simp[eT,←Hn.out]⟩
    have Hf:=aq3 dB;clear dB;go_upto_region 10 with(fail)
    refine cP hs ?_
    clear hs kp kq;intro W hs;have Hs:=aq3 hs;clear hs;refine eK _ 24 ?aSf 64 (.cells [.int .i64 (d.node id 2),.int .u64 0,.string pg.hi,.int .u64 0,.int .i64 (d.node id 3),.int .u64 pg.ri,.string ⟨#[]⟩,.int .u64 0,.int .i64 (d.node id 1),.int .u64 k,.string ⟨#[]⟩,.int .u64 pg.ak].toArray 139) (fun W=> .slice (some ⟨W.heap.size,0,none⟩) 3 3) rfl rfl (by kernel_rfl) ?hBf rfl (fun _ _ _ _ h=>h) ?Hf ?half ?Ahf
    case Hf=>
     intro W2 hb;have hs:=Hs.out.same hb;have kx:=hs.k0;have kp:=hs.k2;have kl:=hs.b3.k0;simp only[List.take_succ_cons,List.take_zero,List.drop_succ_cons,List.drop_zero,Act.put,List.setIfInBounds_toArray,List.set_cons_zero,List.set_cons_succ,Act.eval];repeat (go_big_quiet_step (first|(go_at_call 112;exact aX (Qh.out _))|(go_at_call 128;exact aX (Qr.out _))|(go_at_call 129;exact aX (Q1.out _))))
     refine wpQuiet_nil ?_
     rfl
    case hBf=>as_aux_lemma=>kernel_rfl
    case half=>
     intro w';kernel_rfl
    case Ahf=>
     intro w0 w5 hb0 hb5;have hs:=((Hs.out.same hb0).made (.cells [.int .i64 (d.node id 2),.int .u64 0,.string pg.hi,.int .u64 0,.int .i64 (d.node id 3),.int .u64 pg.ri,.string ⟨#[]⟩,.int .u64 0,.int .i64 (d.node id 1),.int .u64 k,.string ⟨#[]⟩,.int .u64 pg.ak].toArray 139)).same (by rw[World.size_alloc];exact hb5)
     have hk:=hs.k0;have Hw:=aq3 (fun(j:Nat) (x:Value) (hu:([.int .i64 (d.node id 2),.int .u64 0,.string pg.hi,.int .u64 0,.int .i64 (d.node id 3),.int .u64 pg.ri,.string ⟨#[]⟩,.int .u64 0,.int .i64 (d.node id 1),.int .u64 k,.string ⟨#[]⟩,.int .u64 pg.ak]:List Value)[j]?=some x)=>(show ∃g off,(some ⟨w0.heap.size,0,none⟩:Option Addr)=some ⟨g,off,none⟩/\w5.cell? ⟨g,off+j,none⟩=some x from⟨_,0,rfl,by rw[Nat.zero_add,hk j];simpa using hu⟩))
     clear hk;have Hr:=aq3 hs.b2;clear hs;simp only[List.drop_succ_cons,List.drop_zero];refine cG _ _ 137 139 _ k 3 3 4 40 xs [.int .i64 (d.node id 2),.int .u64 0,.string pg.hi,.int .u64 0,.int .i64 (d.node id 3),.int .u64 pg.ri,.string ⟨#[]⟩,.int .u64 0,.int .i64 (d.node id 1),.int .u64 k,.string ⟨#[]⟩,.int .u64 pg.ak] (.agg #[.int .i64 0,.int .u64 0,.string ⟨#[]⟩,.int .u64 0]) iv (some ⟨w0.heap.size,0,none⟩) Hr.out rfl rfl Tryz.underlying137 cZ dc dg dh rfl (by decide) rfl rfl rfl (fun e=>by cases e) Hw.out (fun x hu=>by simp at hu;rcases hu with rfl|rfl|rfl|rfl|rfl|rfl|rfl|rfl|rfl|rfl|rfl|rfl <;> rfl) (by omega) (by decide) ?_
     clear Hr Hw;intro v' w6 hs;go_wp2
     go_ret;exact⟨_,rfl,by rw[Hf.out.1,Hf.out.2];exact hs.bY.bY.bY.bY⟩
end
open Go.RowKit Go.Maps
theorem oo:Maps.Keyed Tryz.prog 139:=Maps.Keyed.of_law (deep_law_laid (by kernel_rfl) (m:=3) (by omega) (of_decide_eq_true (by kernel_rfl)) (by kernel_rfl) (by kernel_rfl))
structure yz (p:Pt):Prop where
 i:(Lit.int .i64 p.i).wf=true
 n:(Lit.int .u64 p.c.n).wf=true
 k:p.c.k.size<=maxLen
 m:(Lit.int .u64 p.c.m).wf=true
def Kk (p:Pt):Value:= .agg #[.int .i64 p.i,.int .u64 p.c.n,.string p.c.k,.int .u64 p.c.m]
theorem Xr {p q:Pt}(h:Kk p=Kk q):p=q:=by
 obtain⟨i,n,k,m⟩:=p;obtain⟨i',n',k',m'⟩:=q;simp[Kk]at h;obtain⟨rfl,rfl,rfl,rfl⟩:=h;rfl
theorem Kl {p:Pt}(h:yz p):∃kl,keyOf Tryz.prog 139 (Kk p)=some kl:=by
 have e0:Tryz.prog.keyType 139=true:=by kernel_rfl
 have e1:(Kk p).formed Tryz.prog 139=true:=by
  unfold Kk Value.formed;rw[Tryz.underlying139];simp only;kernel_rfl
 have hsz:139<Tryz.prog.types.size:=of_decide_eq_true (by kernel_rfl)
 obtain⟨d,hd⟩:∃d,Tryz.prog.types.size=d+2:=⟨Tryz.prog.types.size-2,by omega⟩
 have c0:Tryz.prog.cellsOf 139=4:=by kernel_rfl
 have c1:Tryz.prog.cellsOf 3=1:=by kernel_rfl
 have c2:Tryz.prog.cellsOf 63=3:=by kernel_rfl
 have c3:Tryz.prog.cellsOf 23=1:=by kernel_rfl
 have c4:Tryz.prog.cellsOf 9=1:=by kernel_rfl
 have h0:=h.i;have h1:=h.n;have h2:=h.k;have h3:=h.m;unfold keyOf;rw[Tryz.underlying139];simp only[e0,e1,Bool.and_self,if_true,hd];simp[Program.keyLits,Kk,Value.cells,Tryz.underlying139,Tryz.underlying3,Tryz.underlying63,Tryz.underlying23,Tryz.underlying9,c0,c1,c2,c3,c4,h0,h1,h2,h3];rw[if_pos (fun i hi=>by rcases(show i=0\/i=1\/i=2 by omega)with rfl|rfl|rfl <;> simp)]
 exact⟨_,rfl⟩
abbrev UH:=Unit
def aef (w:World)(b:Nat)(S:List Pt):Prop:=
 ∃(n:Nat) (D:DataW UH),n<=S.length/\w.ownsMap Tryz.prog 139 (plainElem Tryz.prog 4) b n D /\
  ∀p kl,yz p->keyOf Tryz.prog 139 (Kk p)=some kl->(p∈S->D.atKey kl (.lit (.bool false))=.lit (.bool true))/\(p ∉ S->D.atKey kl (.lit (.bool false))=.lit (.bool false))
theorem yA {w w':World}{b n:Nat}{D:DataW UH}(h:w.ownsMap Tryz.prog 139 (plainElem Tryz.prog 4) b n D)(hb:w'.heap[b]?=w.heap[b]?):w'.ownsMap Tryz.prog 139 (plainElem Tryz.prog 4) b n D:=by
 obtain⟨es,clock,h1,F,hs,hD⟩:=h;exact⟨es,clock,by rw[hb];exact h1,F,hs,hD⟩
def lu (b:Nat)(S:List Pt):aC where
 foot:=[b]
 ok:=fun w=>aef w b S
 loc:=fun w w' h ⟨n,D,hn,ho,hk⟩=>⟨n,D,hn,yA ho (h b (by simp)),hk⟩
 dom:=fun w ⟨n,D,hn,ho,hk⟩ b' hb=>by simp at hb;subst hb;exact ho.lt
section
variable {K:aL}{w:World}{F:List aC}{b:Nat}{S:List Pt}{p:Pt}
theorem St.Gu (h:St K w F):St K (w.alloc (.map #[] 0)) (lu w.heap.size []::F):=by
 refine St.vD (ms:=[]) (ms' := [lu w.heap.size []]) (F:=F) h ((eI.refl _ _).alloc _) (fun c hc=>?_) (fun b hb=>?_) (by simp[cR,lu])
 ·simp at hc;subst hc
  exact⟨0,.map [],Nat.le_refl _,World.ownsMap_made w _ _ _,fun p kl _ _=>⟨fun h=>by simp at h,fun _=>rfl⟩⟩
 ·simp[cR,lu]at hb;subst hb;exact .inr (Nat.le_refl _)
theorem qq {v:Value}{x:Bool}{ps:List MemPlace}(h:plainElem (H:=UH) Tryz.prog 4 v=some (.lit (.bool x),ps)):v=.bool x:=by
 cases v with
 | bool y=>
  simp[plainElem,Tryz.underlying4]at h;rw[h.1]
 | _=>simp[plainElem,Tryz.underlying4]at h
theorem St.Gv (h:St K w (lu b S::F))(hp:yz p):∃x:Bool,(Instr.lookup 146 (.map (some b)) (Kk p) false).run Tryz.prog w=.ok (.bool x) w/\(x=true↔p∈S):=by
 obtain⟨n,D,hn,ho,hk⟩:=h.head;obtain⟨kl,qu⟩:=Kl hp;obtain⟨v,ps,hrun,hv⟩:=ho.lookup oo Tryz.underlying146 (z:= .bool false) (by simp[go_sem]) (plainElem_bool Tryz.underlying4 false) qu
 obtain⟨h1,h2⟩:=hk p kl hp qu;by_cases hin:p∈S
 ·rw[h1 hin]at hv
  rw[qq hv]at hrun;exact⟨true,hrun,by simp[hin]⟩
 ·rw[h2 hin]at hv
  rw[qq hv]at hrun;exact⟨false,hrun,by simp[hin]⟩
theorem St.Nc (h:St K w (lu b S::F))(hp:yz p)(hS:S.length<1000000):∃w',(Instr.mapUpdate 146 (.map (some b)) (Kk p) (.bool true)).run Tryz.prog w=.ok () w' /\ St K w' (lu b (p::S)::F):=by
 obtain⟨n,D,hn,ho,hk⟩:=h.head;obtain⟨kl,qu⟩:=Kl hp;obtain⟨w',hrun,ho',hg⟩:=ho.update oo Tryz.underlying146 (by unfold maxLen;omega) qu (plainElem_bool Tryz.underlying4 true)
 refine⟨w',hrun,h.zM (c' := lu b (p::S)) ⟨hg.os,hg.tape,hg.output,hg.size,fun k hk hn=>hg.block k hk (fun e=>hn ?_)⟩ ⟨n+1,_,by simp;omega,ho',fun q kq hq hkq=>?_⟩ rfl⟩
 ·simp[lu];exact aq9 e
 ·by_cases hkk:kq=kl
  ·subst hkk
   have e:Kk q=Kk p:=oo.inj hkq qu;have e2:=Xr e;subst e2;refine⟨fun _=>atKey_put_same ho.isMap (oo.key qu) _ _,fun hn=>absurd (List.mem_cons_self) hn⟩
  ·have hne:q≠p:=fun e=>by
    subst e;rw[qu]at hkq;exact hkk (aq9 hkq).symm
   rw[atKey_put_other hkk];obtain⟨h1,h2⟩:=hk q kq hq hkq;exact⟨fun hin=>h1 (by simpa[hne] using hin),fun hin=>h2 (by simpa[hne] using hin)⟩
theorem yB {ops:Array Oper}{rest:List Oper}{o:Oper}{a:Act}{Q:Exit->Act->World->Prop}(hs:St K w (lu b S::F))(hp:yz p)(hS:S.length<1000000)
  (hg:o.guard=none) (m x v:Operand) (hop:o.op=Op.mapUpdate 146 m x v) (hm:a.eval m=.map (some b)) (hx:a.eval x=Kk p) (hv:a.eval v=.bool true)
  (hK:∀w',St K w' (lu b (p::S)::F)->wpList Tryz.prog ops Q rest (a.put o.dst undef) w'):wpList Tryz.prog ops Q (o::rest) a w:=by
 refine wpList_plain hg fun K' hK' =>?_
 obtain⟨w',hrun,r1⟩:=hs.Nc hp hS;unfold Oper.wp;simp[execOp,hop,hm,hx,hv,hrun,Result.andThen];exact hK' _ _ (hK w' r1)
end
def dZ (b:Nat):Option FV:=some ⟨130, #[.pointer (some ⟨b,0,none⟩)], #[]⟩
def dx (nx pv:Value)(id word:Int)(pg:Pg)(va:Value):List Value:=[nx,.bool true,pv,.int .u64 id,.int .u64 word,.int .i64 (pg).ak,va,.string (pg).hi,.bool (pg).la,.int .u64 (pg).ri]
section
variable {K:aL}{w:World}{F:List aC}{pg:Pg}{id word:Int}
theorem qz {ap ag:Option Addr}{np cp ns cs:Nat}(hs:St K w F) :
  Calls Tryz.prog 90 #[.slice ap np cp,.agg #[.int .u64 id,.int .u64 word,.int .i64 (pg).ak,(.slice ag ns cs),.string (pg).hi,.bool (pg).la,.int .u64 (pg).ri]] w fun e w' => ∃b,e=.returned (.pointer (some ⟨b,0,none⟩)) /\
   St K w' (blk b (.cells (dx (aW (dZ b)) (.slice ap np cp) id word pg (.slice ag ns cs)).toArray 149)::F):=by
 have hs:=hs.pass (.cells #[.int .u64 id,.int .u64 word,.int .i64 (pg).ak,(.slice ag ns cs),.string (pg).hi,.bool (pg).la,.int .u64 (pg).ri] 45);have hs:=hs.made (.cells #[.nilFunc,.bool false,.slice ap np cp,.int .u64 id,.int .u64 word,.int .i64 (pg).ak,(.slice ag ns cs),.string (pg).hi,.bool (pg).la,.int .u64 (pg).ri] 149);rw[World.size_alloc]at hs;go_enter Tryz.func90,Tryz.ntmps90
 go_wp2_with fail
 refine(bH hs (fq _ _ _ _)).mono ?_
 clear hs;rintro e w2 ⟨rfl,hs⟩;have k:=hs.k0;have kf:=hs.f0;have hs:=(hs.aI 0 (.func (.func 130) #[.pointer (some ⟨(w.heap.size+1),0,none⟩)] #[])).aI 1 (.bool true);simp only[List.set_cons_zero,List.set_cons_succ]at hs;go_wp2
 go_ret;exact⟨_,rfl,hs⟩
theorem yC {b bm bc g off m c acc:Nat}{L:List aO}{nx va:Value}{p:Pt}(hm:1<=m)(hmc:m<=c)(ha:acc<=1000000000000)
  (hc0:w.cell? ⟨g,off,none⟩=some (.int .i64 p.i)) (hc1:w.cell? ⟨g,off+1,none⟩=some (.int .u64 p.c.n)) (hc4:w.cell? ⟨g,off+2,none⟩=some (.string p.c.k)) (hc3:w.cell? ⟨g,off+3,none⟩=some (.int .u64 p.c.m))
  (hs:St K w (blk b (.cells (dx nx (.slice (some ⟨g,off,none⟩) m c) id word pg va).toArray 149)::aJ bm bc L acc::F)) :
  Calls Tryz.prog 130 #[.pointer (some ⟨b,0,none⟩),.pointer (some ⟨bm,0,none⟩)] w fun e w' => e=.returned (aW (if m=1 then none else dZ b)) /\
   St K w' (blk b (.cells (dx nx (.slice (some ⟨g,if c=1 then off else off+4,none⟩) (m-1) (c-1)) id word pg va).toArray 149)::aJ bm bc (aP L p.i p.c) (acc+1)::F):=by
 rcases(show(c=1/\m=1)\/(c≠1/\m=1)\/(c≠1/\m≠1)by omega)with⟨rfl,rfl⟩|⟨hx,rfl⟩|⟨hx,hy⟩
 ·simp only[if_true]
  have k:=hs.k0;have kf:=hs.f0;have hs:=hs.made (.cells #[.int .i64 p.i,.int .u64 p.c.n,.string p.c.k,.int .u64 p.c.m] 139);unfold dx at k;go_enter Tryz.func130,Tryz.ntmps130
  go_upto_region 2 with(fail)
  refine cP hs ?_
  clear hs k kf hc0 hc1 hc4 hc3;generalize w.heap.size=bn;intro W hs;have k:=hs.k1;have kf:=hs.f1;unfold dx at k;have hs:=hs.b1.aI 2 (.slice (some ⟨g,off,none⟩) 0 0);simp only[dx,List.set_cons_zero,List.set_cons_succ]at hs;go_upto_region 3 with(fail)
  refine cP hs ?_
  clear hs k kf;intro W2 hs;have kn:=hs.k1;go_wp2_with fail
  refine(m7 (i:=p.i) (c:=p.c) hs.b2 (by omega)).mono ?_
  clear hs kn;rintro e w3 ⟨rfl,hs⟩;have k:=hs.k1;have hs:=hs.b1.b2.tail;go_wp2
  go_ret;exact⟨rfl,hs⟩
 ·have hc2:1<=c:=by omega
  simp only[if_true];rw[if_neg hx];have k:=hs.k0;have kf:=hs.f0;have hs:=hs.made (.cells #[.int .i64 p.i,.int .u64 p.c.n,.string p.c.k,.int .u64 p.c.m] 139);unfold dx at k;go_enter Tryz.func130,Tryz.ntmps130
  go_upto_region 2 with(fail)
  refine cP hs ?_
  clear hs k kf hc0 hc1 hc4 hc3;generalize w.heap.size=bn;intro W hs;have k:=hs.k1;have kf:=hs.f1;unfold dx at k;have hs:=hs.b1.aI 2 (.slice (some ⟨g,off+4,none⟩) 0 (c-1));simp only[dx,List.set_cons_zero,List.set_cons_succ]at hs;go_upto_region 3 with(fail)
  refine cP hs ?_
  clear hs k kf;intro W2 hs;have kn:=hs.k1;go_wp2_with fail
  refine(m7 (i:=p.i) (c:=p.c) hs.b2 (by omega)).mono ?_
  clear hs kn;rintro e w3 ⟨rfl,hs⟩;have k:=hs.k1;have hs:=hs.b1.b2.tail;go_wp2
  go_ret;exact⟨rfl,hs⟩
 ·have hc2:1<=c:=by omega
  rw[if_neg hx,if_neg hy];have k:=hs.k0;have kf:=hs.f0;have hs:=hs.made (.cells #[.int .i64 p.i,.int .u64 p.c.n,.string p.c.k,.int .u64 p.c.m] 139);unfold dx at k;go_enter Tryz.func130,Tryz.ntmps130
  go_upto_region 2 with(fail)
  refine cP hs ?_
  clear hs k kf hc0 hc1 hc4 hc3;generalize w.heap.size=bn;intro W hs;have k:=hs.k1;have kf:=hs.f1;unfold dx at k;have hs:=hs.b1.aI 2 (.slice (some ⟨g,off+4,none⟩) (m-1) (c-1));simp only[dx,List.set_cons_zero,List.set_cons_succ]at hs;go_upto_region 3 with(fail)
  refine cP hs ?_
  clear hs k kf;intro W2 hs;have kn:=hs.k1;go_wp2_with fail
  refine(m7 (i:=p.i) (c:=p.c) hs.b2 (by omega)).mono ?_
  clear hs kn;rintro e w3 ⟨rfl,hs⟩;have k:=hs.k1;have hs:=hs.b1.b2.tail;go_wp2
  go_ret;exact⟨rfl,hs⟩
end
theorem yD:Enters 130:=fun _ _=>rfl
def mH (b:Nat)(id word:Int)(pg:Pg)(va:Value)(g cap:Nat)(ps:List Pt)(k:Nat):aC where
 foot:=[b]
 ok:=fun w=>∃pv,(k<ps.length->pv=.slice (some ⟨g,k*4,none⟩) (ps.length-k) (cap-k))/\w.heap[b]?=some (.cells (dx (aW (if k<ps.length then dZ b else none)) pv id word pg va).toArray 149)
 loc:=by
  rintro w w' h ⟨pv,h1,h2⟩;exact⟨pv,h1,by rw[h b (by simp)];exact h2⟩
 dom:=by
  rintro w ⟨pv,h1,h2⟩ b' hb;simp at hb;subst hb;exact ia h2
section
variable {K:aL}{w:World}{F:List aC}{pg:Pg}{id word:Int}{b g cap k bm bc acc:Nat}{va:Value}{ps:List Pt}{L:List aO}
theorem St.Km (h:St K w (mH b id word pg va g cap ps k::F)):∃pv,(k<ps.length->pv=.slice (some ⟨g,k*4,none⟩) (ps.length-k) (cap-k))/\St K w (blk b (.cells (dx (aW (if k<ps.length then dZ b else none)) pv id word pg va).toArray 149)::F):=by
 obtain⟨pv,h1,h2⟩:=h.head;exact⟨pv,h1,h.zM (c' := blk b (.cells (dx (aW (if k<ps.length then dZ b else none)) pv id word pg va).toArray 149)) (eI.refl _ _) h2 rfl⟩
theorem St.qA {pv:Value}(h:St K w (blk b (.cells (dx (aW (if k<ps.length then dZ b else none)) pv id word pg va).toArray 149)::F))(hp:k<ps.length->pv=.slice (some ⟨g,k*4,none⟩) (ps.length-k) (cap-k)):St K w (mH b id word pg va g cap ps k::F):=
 h.zM (c' := mH b id word pg va g cap ps k) (eI.refl _ _) ⟨pv,hp,h.head⟩ rfl
theorem Cc {p:Pt}(hk:ps[k]?=some p)(ha:acc<=1000000000000)
  (hs:St K w (mH b id word pg va g cap ps k::aJ bm bc L acc::az (.slice (some ⟨g,0,none⟩) ps.length cap) 139 4 ps.length (cj ps)::F)) :
  Calls Tryz.prog 77 #[.pointer (some ⟨b,0,none⟩),.pointer (some ⟨bm,0,none⟩)] w fun e w' => e=.returned (.bool (decide (k+1=ps.length))) /\
   St K w' (mH b id word pg va g cap ps (k+1)::aJ bm bc (aP L p.i p.c) (acc+1)::az (.slice (some ⟨g,0,none⟩) ps.length cap) 139 4 ps.length (cj ps)::F):=by
 have hlt:k<ps.length:=(aq5.1 hk).1;obtain⟨pv,hpv,hs⟩:=hs.Km;rw[if_pos hlt]at hs;have hpv:=hpv hlt;subst hpv;obtain⟨_,cap',hv,hle,_⟩:=hs.b2.aH;have hcap:ps.length<=cap:=by
  have e:cap=cap' := by injection hv
  omega
 obtain⟨r0,r1,r2,r3⟩:=lr ps k p hk;have q:=yC (off:=k*4) (m:=ps.length-k) (c:=cap-k) (p:=p) (by omega) (by omega) ha (hs.b2.bK r0) (hs.b2.bK r1) (hs.b2.bK r2) (hs.b2.bK r3) hs
 have hc:w.cell? ⟨b,0,none⟩=some (aW (dZ b)):=hs.k0 0;refine(lW (α:=Unit) (m:=bm) (f:=⟨130, #[.pointer (some ⟨b,0,none⟩)], #[]⟩) (o:=if ps.length-k=1 then none else dZ b) (nx:=aW (dZ b))
  (tl:=fun _=>(dx (aW (dZ b)) (.slice (some ⟨g,if cap-k=1 then k*4 else k*4+4,none⟩) (ps.length-k-1) (cap-k-1)) id word pg va).tail) (T:=149)
  (F' := fun _=>aJ bm bc (aP L p.i p.c) (acc+1)::az (.slice (some ⟨g,0,none⟩) ps.length cap) 139 4 ps.length (cj ps)::F) yD hc (q.mono fun e w1 ⟨he,h⟩=>⟨(),he,h⟩)).mono ?_
 rintro e w' ⟨_,rfl,hs⟩;refine⟨?_,?_⟩
 ·by_cases h1:ps.length-k=1
  ·rw[if_pos h1,decide_eq_true (by omega)];rfl
  ·rw[if_neg h1,decide_eq_false (by omega)];rfl
 ·have e:(if ps.length-k=1 then none else dZ b)=(if k+1<ps.length then dZ b else none):=by
   by_cases h1:ps.length-k=1
   ·rw[if_pos h1,if_neg (by omega)]
   ·rw[if_neg h1,if_pos (by omega)]
  rw[e]at hs;exact hs.qA (fun h=>by rw[if_neg (by omega),show(k+1)*4=k*4+4 by omega,show ps.length-(k+1)=ps.length-k-1 by omega,show cap-(k+1)=cap-k-1 by omega])
theorem yE {p:Pt}{bw:Nat}(hk:ps[k]?=some p)(ha:acc<=1000000000000)
  (hs:St K w (mH b id word pg va g cap ps k::aJ bm bc L acc::az (.slice (some ⟨g,0,none⟩) ps.length cap) 139 4 ps.length (cj ps)::blk bw (.cells #[.pointer (some ⟨b,0,none⟩)] 147)::F)) :
  Calls Tryz.prog 41 #[.pointer (some ⟨bw,0,none⟩),.pointer (some ⟨bm,0,none⟩)] w fun e w' => e=.returned (.bool (decide (k+1=ps.length))) /\
   St K w' (mH b id word pg va g cap ps (k+1)::aJ bm bc (aP L p.i p.c) (acc+1)::az (.slice (some ⟨g,0,none⟩) ps.length cap) 139 4 ps.length (cj ps)::blk bw (.cells #[.pointer (some ⟨b,0,none⟩)] 147)::F):=by
 have Q:=aq3 (Cc hk ha hs);have kw:=hs.b3.k0;clear hs;go_enter Tryz.func41,Tryz.ntmps41
 go_wp2_with fail
 refine(Q.out).mono ?_
 rintro e w1 ⟨rfl,hs⟩;go_wp2
 go_ret;exact⟨rfl,hs⟩
end
attribute [go_sem] run_makeMap
theorem je {n:Int}(h0:0<=n)(h1:n<18446744073709551616):(Lit.int .u64 n).wf=true:=by
 simp[Lit.wf,IntKind.min,IntKind.max,IntKind.signed,IntKind.bits];omega
theorem Nf {n:Int}(h0 : -9223372036854775808<=n)(h1:n<=9223372036854775807):(Lit.int .i64 n).wf=true:=by
 simp[Lit.wf,IntKind.min,IntKind.max,IntKind.signed,IntKind.bits];omega
section
variable {d:aR}(hd:d.Ok){id:Int}
include hd
theorem s9 {k:Int}(h1:1<=id)(h2:id<=d.no)(hk:0<=k)(hk2:k<d.fa+4):(Lit.int .i64 (d.node id k)).wf=true:=by
 have h:=bV hd h1 h2 hk hk2;have:=hd.eb;exact Nf (by omega) (by omega)
theorem Ce (h1:1<=id)(h2:id<=d.no):∀(l:List Sl)(i:Nat),(i+l.length:Int)<=d.fa->(∀s,s∈l->(0<=s.r/\s.r<18446744073709551616)/\s.k.size<=maxLen)->∀p,p∈fR d id i l->yz p
 | [],_,_,_,p,hp=>by simp[fR]at hp
 | s::l,i,hle,hr,p,hp=>by
  simp only[List.length_cons]at hle;rcases List.mem_cons.1 hp with h|h
  ·subst h
   obtain⟨r1,r2⟩:=hr s (by simp)
   have es:d.slot id i=d.node id (4+(i:Int)):=by
    unfold aR.slot;rw[if_pos ⟨by omega,by omega⟩]
   refine⟨?_,je r1.1 r1.2,r2,(je (n:=0) (by decide) (by decide):_)⟩
   show(Lit.int .i64 (d.slot id i)).wf=true
   rw[es];exact s9 hd h1 h2 (by omega) (by omega)
  ·exact Ce h1 h2 l (i+1) (by omega) (fun s' hs' => hr s' (by simp[hs'])) p h
theorem Cf (h1:1<=id)(h2:id<=d.no){pg:Pg}(po:oW d pg)(bZ:0<=pg.ak/\pg.ak<1000000):∀p,p∈bP d id pg->yz p:=by
 intro p hp;have f1:=hd.fo;have f2:=hd.mK;have hle:=po.le;have z:(Lit.int .u64 0).wf=true:=je (by decide) (by decide)
 have e0:(⟨#[]⟩:ByteArray).size<=maxLen:=by show 0<=maxLen;omega
 rcases List.mem_append.1 hp with h|h
 ·exact Ce hd h1 h2 pg.sl 0 (by omega) (fun s hs=>⟨po.r s hs,po.k s hs⟩) p h
 ·simp only[List.mem_cons,List.not_mem_nil,or_false]at h
  rcases h with h|h|h
  ·subst h
   refine⟨s9 hd h1 h2 (by omega) (by omega),?_,?_,?_⟩ <;> (simp only[mG];cases pg.la)
   ·exact z
   ·exact z
   ·exact po.hi
   ·exact e0
   ·exact z
   ·exact(je (n:=1) (by decide) (by decide):_)
  ·subst h
   exact⟨s9 hd h1 h2 (by omega) (by omega),je po.ri.1 po.ri.2,e0,z⟩
  ·subst h
   exact⟨s9 hd h1 h2 (by omega) (by omega),je (by show(0:Int)<=pg.sl.length;omega) (by show(pg.sl.length:Int)<_;omega),e0,je bZ.1 (by show pg.ak<_;omega)⟩
end
def lz (px py:List Pt)(mid:List Pt):Prop:=mid.Sublist py/\∀p,p∈py->p ∉ px->p∈mid
theorem lz.nil (px:List Pt):lz px [] []:=⟨List.Sublist.refl _,fun p h=>by simp at h⟩
theorem lz.skip {px py mid:List Pt}{p:Pt}(h:lz px py mid)(hp:p∈px):lz px (py++[p]) mid:=
 ⟨h.1.trans (List.sublist_append_left _ _),fun q hq hn=>by
  rcases List.mem_append.1 hq with h1|h1
  ·exact h.2 q h1 hn
  ·simp at h1;subst h1;exact absurd hp hn⟩
theorem lz.take {px py mid:List Pt}{p:Pt}(h:lz px py mid):lz px (py++[p]) (mid++[p]):=
 ⟨List.Sublist.append h.1 (List.Sublist.refl _),fun q hq hn=>by
  rcases List.mem_append.1 hq with h1|h1
  ·exact List.mem_append_left _ (h.2 q h1 hn)
  ·exact List.mem_append_right _ h1⟩
def abj (o:Option Value)(c0 c1:aC):aC:=match o with
 | some _=>c1
 | none=>c0
def nG (K:aL)(REST:List aC)(id word2:Int)(y:Pg)(jM:Option Addr)(c11 n:Nat)(xs lit:List Value)(ρ:Nat->Option Value)(W:World):Prop:=
 ∃(b5:Nat) (a6:Option Addr) (c6:Nat) (aV:Option Addr) (cV mN bw:Nat),
  (∀v,ρ 5=some v->v=.slice (some ⟨b5,0,none⟩) 1 1)/\(∀v,ρ 6=some v->v=.slice a6 (n+1) c6)/\(∀v,ρ 11=some v->v=.agg #[.int .i64 (y).ak,(.slice aV y.sl.length cV),.string (y).hi,.bool (y).la,.int .u64 (y).ri]) /\
  (∀v,ρ 12=some v->v=.agg #[.int .u64 id,.int .u64 word2,.int .i64 (y).ak,(.slice aV y.sl.length cV),.string (y).hi,.bool (y).la,.int .u64 (y).ri])/\(∀v,ρ 13=some v->v=.pointer (some ⟨mN,0,none⟩))/\(∀v,ρ 14=some v->v=.agg #[.pointer (some ⟨mN,0,none⟩)])/\(∀v,ρ 15=some v->v=.pointer (some ⟨bw,0,none⟩))/\(∀v,ρ 16=some v->v=.pointer (some ⟨bw,0,none⟩)) /\
  St K W (dH (ρ 5) (blk b5 (.cells lit.toArray 139))::abj (ρ 6) (az (.slice jM n c11) 139 4 n xs) (az (.slice a6 (n+1) c6) 139 4 (n+1) (xs++lit))::dH (ρ 11) (bu (.slice aV y.sl.length cV) y) ::
   dH (ρ 13) (blk mN (.cells (dx (aW (dZ mN)) (.slice a6 (n+1) c6) id word2 y (.slice aV y.sl.length cV)).toArray 149))::dH (ρ 15) (blk bw (.cells #[.pointer (some ⟨mN,0,none⟩)] 147))::REST)
section
variable {K:aL}{W:World}{REST:List aC}{id word2:Int}{y:Pg}{jM ay:Option Addr}{c11 n cy:Nat}{xs lit:List Value}{ρ:Nat->Option Value}{v v5 v6 v11 v12 v13 v14 v15:Value}
theorem nG.start (hs:St K W (az (.slice jM n c11) 139 4 n xs::REST)):nG K REST id word2 y jM c11 n xs lit (fun _=>none) W:=by
 refine⟨0,none,0,none,0,0,0,?_,?_,?_,?_,?_,?_,?_,?_,?_⟩;iterate 8 (intro v h;cases h)
 exact hs.empty.b1.empty.b1.empty.b1.empty
theorem nG.same {W':World}(h:nG K REST id word2 y jM c11 n xs lit ρ W)(hb:Below W.heap.size W W'):nG K REST id word2 y jM c11 n xs lit ρ W' := by
 obtain⟨b5,a6,c6,aV,cV,mN,bw,e1,e2,e3,e4,e5,e6,e7,e8,hs⟩:=h;exact⟨b5,a6,c6,aV,cV,mN,bw,e1,e2,e3,e4,e5,e6,e7,e8,hs.same hb⟩
theorem nG.rest (h:nG K REST id word2 y jM c11 n xs lit ρ W):St K W REST:=by
 obtain⟨b5,a6,c6,aV,cV,mN,bw,e1,e2,e3,e4,e5,e6,e7,e8,hs⟩:=h;exact hs.tail.tail.tail.tail.tail
theorem nG.e5 (h:nG K REST id word2 y jM c11 n xs lit ρ W)(h5:ρ 5=none):nG K REST id word2 y jM c11 n xs lit (upd ρ 5 (.slice (some ⟨W.heap.size,0,none⟩) 1 1)) (W.alloc (.cells lit.toArray 139)):=by
 obtain⟨b5,a6,c6,aV,cV,mN,bw,e1,e2,e3,e4,e5,e6,e7,e8,hs⟩:=h;rw[h5]at hs;exact⟨W.heap.size,a6,c6,aV,cV,mN,bw,fun v hv=>(aq9 hv).symm,e2,e3,e4,e5,e6,e7,e8,hs.tail.made _⟩
theorem nG.e6 (h:nG K REST id word2 y jM c11 n xs lit ρ W)(h5:ρ 5=some v5)(h6:ρ 6=none)(dS:ρ 13=none):∃(b5:Nat)(R':List aC),v5=.slice (some ⟨b5,0,none⟩) 1 1/\St K W (az (.slice jM n c11) 139 4 n xs::blk b5 (.cells lit.toArray 139)::R') /\
  ∀v' W',St K W' (az v' 139 4 (n+1) (xs++lit)::blk b5 (.cells lit.toArray 139)::R')->nG K REST id word2 y jM c11 n xs lit (upd ρ 6 v') W' := by
 obtain⟨b5,a6,c6,aV,cV,mN,bw,e1,e2,e3,e4,e5,e6,e7,e8,hs⟩:=h;rw[h5,h6,dS]at hs;refine⟨b5,_,e1 v5 h5,hs.b1,fun v' W' hs' =>?_⟩
 obtain⟨a',c',rfl,_,_⟩:=hs'.aH;refine⟨b5,a',c',aV,cV,mN,bw,e1,fun v hv=>(aq9 hv).symm,e3,e4,e5,e6,e7,e8,?_⟩
 show St K W' (dH (ρ 5) _::az _ _ _ _ _::dH (ρ 11) _::dH (ρ 13) _::dH (ρ 15) _::REST)
 rw[h5,dS];exact hs'.b1
theorem nG.e11 (h:nG K (az (.slice ay y.sl.length cy) 69 2 y.sl.length (aD y.sl)::REST) id word2 y jM c11 n xs lit ρ W)(h11:ρ 11=none)(dr:ρ 12=none)(dS:ρ 13=none):∃(R':List aC),St K W (az (.slice ay y.sl.length cy) 69 2 y.sl.length (aD y.sl)::R') /\
  ∀va W',St K W' (az va 69 2 y.sl.length (aD y.sl)::az (.slice ay y.sl.length cy) 69 2 y.sl.length (aD y.sl)::R')->nG K (az (.slice ay y.sl.length cy) 69 2 y.sl.length (aD y.sl)::REST) id word2 y jM c11 n xs lit (upd ρ 11 (.agg #[.int .i64 (y).ak,va,.string (y).hi,.bool (y).la,.int .u64 (y).ri])) W' := by
 obtain⟨b5,a6,c6,aV,cV,mN,bw,e1,e2,e3,e4,e5,e6,e7,e8,hs⟩:=h;rw[h11,dS]at hs;refine⟨_,hs.b5,fun va W' hs' =>?_⟩
 obtain⟨a',c',rfl,_,_⟩:=hs'.aH;refine⟨b5,a6,c6,a',c',mN,bw,e1,e2,fun v hv=>(aq9 hv).symm,fun v hv=>?_,e5,e6,e7,e8,?_⟩
 ·have:ρ 12=some v:=hv
  rw[dr]at this;cases this
 ·show St K W' (dH (ρ 5) _::abj (ρ 6) _ _::bu _ _::dH (ρ 13) _::dH (ρ 15) _::_)
  rw[dS];exact hs'.b4.tail.b1.u5.u2
theorem nG.xh (h:nG K REST id word2 y jM c11 n xs lit ρ W)(h11:ρ 11=some v11):∃(aV:Option Addr)(cV:Nat),v11=.agg #[.int .i64 (y).ak,(.slice aV y.sl.length cV),.string (y).hi,.bool (y).la,.int .u64 (y).ri] /\
  nG K REST id word2 y jM c11 n xs lit (upd ρ 12 (.agg #[.int .u64 id,.int .u64 word2,.int .i64 (y).ak,(.slice aV y.sl.length cV),.string (y).hi,.bool (y).la,.int .u64 (y).ri])) W:=by
 obtain⟨b5,a6,c6,aV,cV,mN,bw,e1,e2,e3,e4,e5,e6,e7,e8,hs⟩:=h;exact⟨aV,cV,e3 v11 h11,b5,a6,c6,aV,cV,mN,bw,e1,e2,e3,fun v hv=>(aq9 hv).symm,e5,e6,e7,e8,hs⟩
theorem nG.Xo (h:nG K REST id word2 y jM c11 n xs lit ρ W)(h6:ρ 6=some v6)(dr:ρ 12=some v12)(dS:ρ 13=none)(iH:ρ 14=none)(cY:ρ 15=none):∃(a6:Option Addr)(c6:Nat)(aV:Option Addr)(cV:Nat)(R':List aC),v6=.slice a6 (n+1) c6 /\
  v12=.agg #[.int .u64 id,.int .u64 word2,.int .i64 (y).ak,(.slice aV y.sl.length cV),.string (y).hi,.bool (y).la,.int .u64 (y).ri]/\St K W R' /\
  ∀b W',St K W' (blk b (.cells (dx (aW (dZ b)) (.slice a6 (n+1) c6) id word2 y (.slice aV y.sl.length cV)).toArray 149)::R')->nG K REST id word2 y jM c11 n xs lit (upd ρ 13 (.pointer (some ⟨b,0,none⟩))) W' := by
 obtain⟨b5,a6,c6,aV,cV,mN,bw,e1,e2,e3,e4,e5,e6,e7,e8,hs⟩:=h;rw[dS,cY]at hs;refine⟨a6,c6,aV,cV,_,e2 v6 h6,e4 v12 dr,hs.b3.tail,fun b W' hs' =>?_⟩
 refine⟨b5,a6,c6,aV,cV,b,bw,e1,e2,e3,e4,fun v hv=>(aq9 hv).symm,fun v hv=>?_,e7,e8,?_⟩
 ·have:ρ 14=some v:=hv
  rw[iH]at this;cases this
 ·show St K W' (dH (ρ 5) _::abj (ρ 6) _ _::dH (ρ 11) _::blk _ (.cells (dx _ _ _ _ _ _).toArray 149)::dH (ρ 15) _::REST)
  rw[cY];exact hs'.u3
theorem nG.Sn (h:nG K REST id word2 y jM c11 n xs lit ρ W)(dS:ρ 13=some v13):∃b:Nat,v13=.pointer (some ⟨b,0,none⟩)/\nG K REST id word2 y jM c11 n xs lit (upd ρ 14 (.agg #[.pointer (some ⟨b,0,none⟩)])) W:=by
 obtain⟨b5,a6,c6,aV,cV,mN,bw,e1,e2,e3,e4,e5,e6,e7,e8,hs⟩:=h;exact⟨mN,e5 v13 dS,b5,a6,c6,aV,cV,mN,bw,e1,e2,e3,e4,e5,fun v hv=>(aq9 hv).symm,e7,e8,hs⟩
theorem nG.Mw (h:nG K REST id word2 y jM c11 n xs lit ρ W)(iH:ρ 14=some v14)(cY:ρ 15=none)(vH:ρ 16=none):∃b:Nat,v14=.agg #[.pointer (some ⟨b,0,none⟩)]/\nG K REST id word2 y jM c11 n xs lit (upd ρ 15 (.pointer (some ⟨W.heap.size,0,none⟩))) (W.alloc (.cells #[.pointer (some ⟨b,0,none⟩)] 147)):=by
 obtain⟨b5,a6,c6,aV,cV,mN,bw,e1,e2,e3,e4,e5,e6,e7,e8,hs⟩:=h;rw[cY]at hs;refine⟨mN,e6 v14 iH,b5,a6,c6,aV,cV,mN,W.heap.size,e1,e2,e3,e4,e5,e6,fun v hv=>(aq9 hv).symm,fun v hv=>?_,?_⟩
 ·have:ρ 16=some v:=hv
  rw[vH]at this;cases this
 ·exact(hs.b4.tail.made _).u4
theorem nG.e16 (h:nG K REST id word2 y jM c11 n xs lit ρ W)(cY:ρ 15=some v15):∃b:Nat,v15=.pointer (some ⟨b,0,none⟩)/\nG K REST id word2 y jM c11 n xs lit (upd ρ 16 (.pointer (some ⟨b,0,none⟩))) W:=by
 obtain⟨b5,a6,c6,aV,cV,mN,bw,e1,e2,e3,e4,e5,e6,e7,e8,hs⟩:=h;exact⟨bw,e7 v15 cY,b5,a6,c6,aV,cV,mN,bw,e1,e2,e3,e4,e5,e6,e7,fun v hv=>(aq9 hv).symm,hs⟩
theorem nG.last (h:nG K REST id word2 y jM c11 n xs lit ρ W)(hall:∀e,e∈[5,6,11,12,13,14,15,16]->(ρ e).isSome=true):∃(b5:Nat)(a6:Option Addr)(c6:Nat)(aV:Option Addr)(cV mN bw:Nat),
  ρ 5=some (.slice (some ⟨b5,0,none⟩) 1 1)/\ρ 6=some (.slice a6 (n+1) c6)/\ρ 11=some (.agg #[.int .i64 (y).ak,(.slice aV y.sl.length cV),.string (y).hi,.bool (y).la,.int .u64 (y).ri])/\ρ 12=some (.agg #[.int .u64 id,.int .u64 word2,.int .i64 (y).ak,(.slice aV y.sl.length cV),.string (y).hi,.bool (y).la,.int .u64 (y).ri])/\ρ 13=some (.pointer (some ⟨mN,0,none⟩))/\ρ 14=some (.agg #[.pointer (some ⟨mN,0,none⟩)])/\ρ 15=some (.pointer (some ⟨bw,0,none⟩))/\ρ 16=some (.pointer (some ⟨bw,0,none⟩)) /\
  St K W (az (.slice a6 (n+1) c6) 139 4 (n+1) (xs++lit)::bu (.slice aV y.sl.length cV) y::blk mN (.cells (dx (aW (dZ mN)) (.slice a6 (n+1) c6) id word2 y (.slice aV y.sl.length cV)).toArray 149)::blk bw (.cells #[.pointer (some ⟨mN,0,none⟩)] 147)::REST):=by
 obtain⟨b5,a6,c6,aV,cV,mN,bw,e1,e2,e3,e4,e5,e6,e7,e8,hs⟩:=h;have g:∀e,e∈[5,6,11,12,13,14,15,16]->∃v,ρ e=some v:=fun e he=>aq6.1 (hall e he)
 obtain⟨v5,h5⟩:=g 5 (by simp)
 obtain⟨v6,h6⟩:=g 6 (by simp)
 obtain⟨v11,h11⟩:=g 11 (by simp)
 obtain⟨v12,dr⟩:=g 12 (by simp)
 obtain⟨v13,dS⟩:=g 13 (by simp)
 obtain⟨v14,iH⟩:=g 14 (by simp)
 obtain⟨v15,cY⟩:=g 15 (by simp)
 obtain⟨v16,vH⟩:=g 16 (by simp)
 rw[h5,h6,h11,dS,cY]at hs;exact⟨b5,a6,c6,aV,cV,mN,bw,by rw[h5,e1 v5 h5],by rw[h6,e2 v6 h6],by rw[h11,e3 v11 h11],by rw[dr,e4 v12 dr],by rw[dS,e5 v13 dS],by rw[iH,e6 v14 iH],by rw[cY,e7 v15 cY],by rw[vH,e8 v16 vH],hs.tail⟩
end
section
variable {K:aL}{w:World}{F:List aC}{x y:Pg}{ax ay:Option Addr}{cx cy:Nat}{d:aR}{id word:Int}
theorem Cg (hd:d.Ok)(h1:1<=id)(h2:id<=d.no)(hw:0<=word/\word<18446744073709551616)(pox:oW d x)(poy:oW d y)(lx:0<=x.ak/\x.ak<1000000)(ly:0<=y.ak/\y.ak<1000000)
  (hs:St K w (az (.slice ax (x).sl.length cx) 69 2 (x).sl.length (aD (x).sl)::az (.slice ay (y).sl.length cy) 69 2 (y).sl.length (aD (y).sl)::F)) :
  Calls Tryz.prog 39 #[.agg #[.int .i64 d.th,.int .i64 d.sn,.int .i64 d.no,.int .i64 d.ch,.int .i64 d.re,.int .i64 d.fa,.int .u64 d.cl],.agg #[.int .u64 id,.int .u64 word,.int .i64 (x).ak,(.slice ax x.sl.length cx),.string (x).hi,.bool (x).la,.int .u64 (x).ri],.agg #[.int .i64 (y).ak,(.slice ay y.sl.length cy),.string (y).hi,.bool (y).la,.int .u64 (y).ri]] w fun e w' => ∃(bw b g cap:Nat) (va:Value) (mid ps:List Pt),e=.returned (.pointer (some ⟨bw,0,none⟩)) /\
   lz (bP d id x) (bP d id y) mid/\ps=⟨d.node id 0,⟨bE word,⟨#[]⟩,0⟩⟩::mid++[⟨d.node id 0,⟨dM (bE word),⟨#[]⟩,0⟩⟩] /\
   St K w' (mH b id (dM (bE word)) y va g cap ps 0::az (.slice (some ⟨g,0,none⟩) ps.length cap) 139 4 ps.length (cj ps)::blk bw (.cells #[.pointer (some ⟨b,0,none⟩)] 147)::bu va y::az (.slice ax (x).sl.length cx) 69 2 (x).sl.length (aD (x).sl)::az (.slice ay (y).sl.length cy) 69 2 (y).sl.length (aD (y).sl)::F):=by
 have f1:=hd.fo;have f2:=hd.mK;have hno:=hd.mJ;have hid:0<=id/\id<18446744073709551616:=by omega
 have hb1:=Gf hw.1 hw.2;have okx:=Cf hd h1 h2 pox lx;have oky:=Cf hd h1 h2 poy ly;have Ss:(bP d id x).length=x.sl.length+3:=by simp[bP,eT]
 have aeg:(bP d id y).length=y.sl.length+3:=by simp[bP,eT]
 have qx:=fun w F (hs:St K w (az (.slice ax (x).sl.length cx) 69 2 (x).sl.length (aD (x).sl)::F))=>uB (cap:=cx) (pg:=x) hd hid lx pox.le hs
 have qy:=fun w F (hs:St K w (az (.slice ay (y).sl.length cy) 69 2 (y).sl.length (aD (y).sl)::F))=>uB (cap:=cy) (pg:=y) hd hid ly poy.le hs
 obtain⟨px,hpx⟩:∃px,px=bP d id x:=⟨_,rfl⟩;obtain⟨py,hpy⟩:∃py,py=bP d id y:=⟨_,rfl⟩;rw[←hpx]at okx Ss qx ⊢;rw[←hpy]at oky aeg qy ⊢;obtain⟨fst,Su⟩:∃fst:Pt,fst=⟨d.node id 0,⟨bE word,⟨#[]⟩,0⟩⟩:=⟨_,rfl⟩;obtain⟨lst,abk⟩:∃lst:Pt,lst=⟨d.node id 0,⟨dM (bE word),⟨#[]⟩,0⟩⟩:=⟨_,rfl⟩;rw[←Su,←abk];have aei:=aq3 Su;have aii:=aq3 abk;clear Su abk;have hlx:=pox.le;have hly:=poy.le;have Qx:=aq3 qx;have Qy:=aq3 qy;have Okx:=aq3 okx;have Oky:=aq3 oky;have Qa:=aq3 (fun w=>iw d hd id hid.1 hid.2 w)
 have Qb:=aq3 (fun w=>Ab word hw.1 hw.2 w)
 have Qe:=aq3 (fun w=>Lv (bE word) hb1.1 hb1.2 w)
 have nx:px.length<=40:=by omega
 have ny:py.length<=40:=by omega
 clear qx qy okx oky hpx hpy Ss aeg hno pox lx ly;have hs:=((hs.made (.cells #[.int .i64 d.th,.int .i64 d.sn,.int .i64 d.no,.int .i64 d.ch,.int .i64 d.re,.int .i64 d.fa,.int .u64 d.cl] 29)).made (.cells #[.int .u64 id,.int .u64 word,.int .i64 (x).ak,(.slice ax x.sl.length cx),.string (x).hi,.bool (x).la,.int .u64 (x).ri] 45)).made (.cells #[.int .i64 (y).ak,(.slice ay y.sl.length cy),.string (y).hi,.bool (y).la,.int .u64 (y).ri] 43);have hs:=hs.Gu;simp only[World.size_alloc]at hs;obtain⟨b0,hb0⟩:∃b0,b0=w.heap.size:=⟨_,rfl⟩;go_enter Tryz.func39,Tryz.ntmps39
 go_upto_region 2 with(fail)
 rw[←hb0]at hs ⊢;refine cP hs ?_
 clear hs hb0;intro W hs;have kh:=hs.k2;have kl:=hs.b3.k0;go_wp2_with fail
 refine(Qx.out _ _ hs.b4).mono ?_
 clear hs kh kl;rintro e w1 ⟨vx,rfl,hs⟩;obtain⟨apx,cpx,rfl,_,_⟩:=hs.aH;have hs:=hs.b2;go_wp2
 go_loopw [23] (fun v23 wr=>∃k:Nat,k<=px.length/\v23=.int .i64 k/\St K wr (lu (b0+1+1+1) (px.take k).reverse::az (.slice apx px.length cpx) 139 4 px.length (cj px)::az (.slice ax (x).sl.length cx) 69 2 (x).sl.length (aD (x).sl) ::
  blk (b0+1+1) (.cells #[.int .i64 (y).ak,(.slice ay y.sl.length cy),.string (y).hi,.bool (y).la,.int .u64 (y).ri] 43)::blk (b0+1) (.cells #[.int .u64 id,.int .u64 word,.int .i64 (x).ak,(.slice ax x.sl.length cx),.string (x).hi,.bool (x).la,.int .u64 (x).ri] 45)::blk b0 (.cells #[.int .i64 d.th,.int .i64 d.sn,.int .i64 d.no,.int .i64 d.ch,.int .i64 d.re,.int .i64 d.fa,.int .u64 d.cl] 29)::az (.slice ay (y).sl.length cy) 69 2 (y).sl.length (aD (y).sl)::F)) (fun v _=>px.length-(intOf v).toNat)
 case atStart=>exact⟨0,by omega,rfl,hs⟩
 case round=>
  clear hs;obtain⟨k,hk,rfl,hs⟩:=hrel;by_cases hlt:k<px.length
  ·obtain⟨u,hu⟩:∃u,px[k]?=some u:=⟨_,aq8 hlt⟩
   obtain⟨r0,r1,r2,r3⟩:=lr px k u hu;obtain⟨g,rfl,c0⟩:=hs.b1.cQ r0;have c1:=hs.b1.bK r1;have c2:=hs.b1.bK r2;have c3:=hs.b1.bK r3;have okp:yz u:=Okx.out u (aq7 hu);have hnext:u::(px.take k).reverse=(px.take (k+1)).reverse:=by
    rw[aq8 hlt]at hu;rw[List.take_succ_eq_append_getElem hlt,aq9 hu];simp
   have hlen:(px.take k).reverse.length<1000000:=by simp;omega
   have Hs:=aq3 (hs.pass (.cells #[.int .i64 u.i,.int .u64 u.c.n,.string u.c.k,.int .u64 u.c.m] 139));have Hx:=aq3 hnext;clear hs hu r0 r1 r2 r3 hnext;go_wp2_with (at_mapUpdate;refine yB Hs.out okp hlen rfl _ _ _ rfl rfl rfl rfl ?_)
   clear Hs c0 c1 c2 c3;intro w2 hs;rw[Hx.out]at hs;go_wp2
   go_roundw
   case rel=>exact⟨k+1,by omega,by go_num,hs⟩
   case measure=>simp[intOf];omega
  ·obtain rfl:k=px.length:=by omega
   rw[List.take_length]at hs;clear hlt hk;have kh:=hs.b4.k0;have kl:=hs.b5.k0;go_wp2_with fail
   refine(bH hs (Qa.out _)).mono ?_
   clear hs kh kl;rintro e w2 ⟨rfl,hs⟩;have kh:=hs.b4.k0;go_wp2_with fail
   refine(mX hs (Qb.out _)).mono ?_
   clear hs kh;rintro e w3 ⟨rfl,hs⟩;have hs:=hs.made (.cells #[.int .i64 (d.node id 0),.int .u64 (bE word),.string ⟨#[]⟩,.int .u64 0] 139);have hs:=hs.lS (n:=1) (size:=4) rfl (by simp[maxLen])
   go_upto_region 9 with(fail)
   refine cP hs ?_
   generalize w3.heap.size=b1;clear hs;intro W3 hs;have kh:=hs.b5.k0;have kl:=hs.b6.k0;have ky:=hs.b4.k0;obtain⟨iv,cZ,dc,dg,dh⟩:=info_parts yx;have hs:=hs.b2.tail;go_wp2_with fail
   refine(Qy.out _ _ hs.b6).mono ?_
   clear hs kh kl ky;rintro e w4 ⟨vy,rfl,hs⟩;obtain⟨apy,cpy,rfl,_,_⟩:=hs.aH;have hs:=hs.b1.b4.b2.b4.b4;have hrow:[Value.int .i64 (d.node id 0),.int .u64 (bE word),.string ⟨#[]⟩,.int .u64 0]=cj [fst]:=by rw[aei.out];rfl
   rw[hrow]at hs;clear hrow aei;go_wp2
   go_loopw [47,11] (fun v47 v11 wr=>∃(k:Nat) (mid:List Pt),k<=py.length/\v47=.int .i64 k/\mid.length<=k/\lz px (py.take k) mid /\
    St K wr (az v11 139 4 (mid.length+1) (cj (fst::mid))::lu (b0+1+1+1) px.reverse::az (.slice apy py.length cpy) 139 4 py.length (cj py)::az (.slice ax (x).sl.length cx) 69 2 (x).sl.length (aD (x).sl)::az (.slice ay (y).sl.length cy) 69 2 (y).sl.length (aD (y).sl) ::
    blk (b0+1+1) (.cells #[.int .i64 (y).ak,(.slice ay y.sl.length cy),.string (y).hi,.bool (y).la,.int .u64 (y).ri] 43)::blk (b0+1) (.cells #[.int .u64 id,.int .u64 word,.int .i64 (x).ak,(.slice ax x.sl.length cx),.string (x).hi,.bool (x).la,.int .u64 (x).ri] 45)::blk b0 (.cells #[.int .i64 d.th,.int .i64 d.sn,.int .i64 d.no,.int .i64 d.ch,.int .i64 d.re,.int .i64 d.fa,.int .u64 d.cl] 29)::F)) (fun v _ _=>py.length-(intOf v).toNat)
   case atStart=>exact⟨0,[],by omega,rfl,by simp,lz.nil _,hs⟩
   case round=>
    clear hs;obtain⟨k,mid,hk,rfl,hmid,hnew,hs⟩:=hrel;by_cases hlt:k<py.length
    ·obtain⟨u,hu⟩:∃u,py[k]?=some u:=⟨_,aq8 hlt⟩
     obtain⟨r0,r1,r2,r3⟩:=lr py k u hu;obtain⟨g,rfl,c0⟩:=hs.b2.cQ r0;have c1:=hs.b2.bK r1;have c2:=hs.b2.bK r2;have c3:=hs.b2.bK r3;have oku:yz u:=Oky.out u (aq7 hu);have lQ:py.take (k+1)=py.take k++[u]:=by
      rw[aq8 hlt]at hu;rw[List.take_succ_eq_append_getElem hlt,aq9 hu]
     obtain⟨jM,c11,rfl,_,_⟩:=hs.aH;have hs:=hs.made (.cells #[.int .i64 u.i,.int .u64 u.c.n,.string u.c.k,.int .u64 u.c.m] 139);obtain⟨xb,rI,hxb⟩:=hs.b2.Gv oku;unfold Kk at rI;have Xt:=aq3 hnew;have Htk:=aq3 lQ;clear hu r0 r1 r2 r3 hnew lQ oku;cases xb with
     | true=>
      have hin:u∈px:=by simpa using hxb.1 rfl
      have Hin:=aq3 hin;clear hxb hin;go_wp2
      go_roundw
      case rel=>exact⟨k+1,mid,by omega,by go_num,by omega,by rw[Htk.out];exact Xt.out.skip Hin.out,hs.tail⟩
      case measure=>simp[intOf];omega
     | false=>
      clear hxb;obtain⟨xs,hxs⟩:∃xs,xs=cj (fst::mid):=⟨_,rfl⟩;have hnext:cj (fst::(mid++[u]))=xs++[.int .i64 u.i,.int .u64 u.c.n,.string u.c.k,.int .u64 u.c.m]:=by
       rw[hxs,show fst::(mid++[u])=(fst::mid)++[u]from rfl,iM]
       rfl
      rw[←hxs]at hs;have Hx:=aq3 hnext;have hs:=hs.made (.cells [.int .i64 u.i,.int .u64 u.c.n,.string u.c.k,.int .u64 u.c.m].toArray 139);have hkk:=hs.k0;rw[World.size_alloc]at hs hkk;have Hw:=aq3 (xc hkk);have Hr:=aq3 hs.b2;clear hs hkk hnext hxs;go_wp2_with (at_builtin;refine cG _ _ 137 139 _ (mid.length+1) 1 1 4 40 xs [.int .i64 u.i,.int .u64 u.c.n,.string u.c.k,.int .u64 u.c.m] (.agg #[.int .i64 0,.int .u64 0,.string ⟨#[]⟩,.int .u64 0]) iv (some ⟨wr.heap.size+1,0,none⟩) Hr.out rfl rfl Tryz.underlying137 cZ dc dg dh rfl (by decide) rfl rfl rfl (fun e=>by cases e) Hw.out (fun x hu=>by simp at hu;rcases hu with rfl|rfl|rfl|rfl <;> rfl) (by omega) (by decide) ?_)
      clear Hr Hw rI c0 c1 c2 c3;intro v' w6 hs;rw[←Hx.out]at hs;go_wp2
      go_roundw
      case rel=>exact⟨k+1,mid++[u],by omega,by go_num,by simp;omega,by rw[Htk.out];exact Xt.out.take,by simpa using hs.bY.bY⟩
      case measure=>simp[intOf];omega
    ·obtain rfl:k=py.length:=by omega
     rw[List.take_length]at hnew;have Xt:=aq3 hnew;clear hlt hk hnew;obtain⟨jM,c11,rfl,_,_⟩:=hs.aH;have kh:=hs.b6.k0;go_wp2_with fail
     refine(mX hs (Qb.out _)).mono ?_
     clear hs kh;rintro e w7 ⟨rfl,hs⟩;go_wp2_with fail
     refine(mX hs (Qe.out _)).mono ?_
     clear hs;rintro e w8 ⟨rfl,hs⟩;have hs:=hs.bY.bY.b5.tail.b2.b1;obtain⟨word2,abm⟩:∃z,z=dM (bE word):=⟨_,rfl⟩;obtain⟨xs,hxs⟩:∃xs,xs=cj (fst::mid):=⟨_,rfl⟩;rw[←hxs]at hs;have Hxs:=aq3 hxs;clear hxs;clear abm;go_upto_region 16 with(fail)
     refine cP hs ?_
     clear hs;intro W hs;have Hs:=aq3 hs;clear hs;refine aT [false,false,false,false,false,true,true,false,false,false,false,true,true,true,true,true,true] [5,6,11,12,13,14,15,16] (fun|6=>[5] | 12=>[11] | 13=>[6,12] | 14=>[13] | 15=>[14] | 16=>[15] | _=>[])
      (nG K (az (.slice ay (y).sl.length cy) 69 2 (y).sl.length (aD (y).sl)::az (.slice ax (x).sl.length cx) 69 2 (x).sl.length (aD (x).sl)::blk (b0+1+1) (.cells #[.int .i64 (y).ak,(.slice ay y.sl.length cy),.string (y).hi,.bool (y).la,.int .u64 (y).ri] 43)::blk (b0+1) (.cells #[.int .u64 id,.int .u64 word,.int .i64 (x).ak,(.slice ax x.sl.length cx),.string (x).hi,.bool (x).la,.int .u64 (x).ri] 45)::F) id (dM (bE word)) y jM c11 (mid.length+1) xs [.int .i64 (d.node id 0),.int .u64 (dM (bE word)),.string ⟨#[]⟩,.int .u64 0])
      (fun W=>(∀k,W.cell? ⟨b0+1+1,k,none⟩=(#[.int .i64 (y).ak,(.slice ay y.sl.length cy),.string (y).hi,.bool (y).la,.int .u64 (y).ri]:Array Value)[k]?)/\(∀k,W.cell? ⟨b0+1,k,none⟩=(#[.int .u64 id,.int .u64 word,.int .i64 (x).ak,(.slice ax x.sl.length cx),.string (x).hi,.bool (x).la,.int .u64 (x).ri]:Array Value)[k]?)) ?aS (by kernel_rfl) ?hB ?H ?iD ?h0 ?hI ?hR ?hE ?hQ
     case hB=>as_aux_lemma=>kernel_rfl
     case H=>
      rintro W2 ⟨k1,k2⟩;simp only[bL];repeat (go_big_quiet_step (fail))
      refine wpQuiet_nil ?_
      rfl
     case iD=>rfl
     case h0=>exact nG.start Hs.out
     case hI=>
      intro ρ W2 h;exact⟨h.rest.k2,h.rest.b3.k0⟩
     case hR=>exact fun ρ W2 W3 h hb=>h.same hb
     case hE=>
      refine⟨?e5,?e6,?e11,?xh,?Xo,?Sn,?Mw,?e16,trivial⟩;case e5=>
       intro o ho ρ W2 h hcl h5 hd af aB;obtain rfl:=aq9 ho;simp only[aj]at aB;subst aB;go_wp2
       exact⟨rfl,_,rfl,h.e5 h5⟩
      case e6=>
       intro o ho ρ W2 h hcl h6 hd af aB;obtain rfl:=aq9 ho;replace aB:af=aj _ ρ [5] _:=aB;obtain⟨v5,h5⟩:=aq6.1 (hd 5 (by show _∈[5];simp))
       have dS:ρ 13=none:=hcl.none (by simp) (show 6∈[6,12]by simp) h6
       obtain⟨b5,R',rfl,hs,hnext⟩:=h.e6 h5 h6 dS;simp only[aj,h5,Option.getD_some,aM,List.getElem?_cons_succ,List.getElem?_cons_zero,Option.bind_some,Act.put,List.setIfInBounds_toArray,List.set_cons_zero,List.set_cons_succ]at aB;subst aB;refine cG _ _ 137 139 _ (mid.length+1) 1 1 4 40 xs [.int .i64 (d.node id 0),.int .u64 (dM (bE word)),.string ⟨#[]⟩,.int .u64 0] (.agg #[.int .i64 0,.int .u64 0,.string ⟨#[]⟩,.int .u64 0]) iv (some ⟨b5,0,none⟩) hs rfl rfl Tryz.underlying137 cZ dc dg dh rfl (by decide) rfl rfl rfl (fun e=>by cases e) (xc hs.k1) (fun x hu=>by simp at hu;rcases hu with rfl|rfl|rfl|rfl <;> rfl) (by omega) (by decide) ?_
       intro v' w' hs';exact⟨rfl,_,rfl,hnext v' w' hs'⟩
      case e11=>
       intro o ho ρ W2 h hcl h11 hd af aB;obtain rfl:=aq9 ho;replace aB:af=aj _ ρ [] _:=aB;have dr:ρ 12=none:=hcl.none (by simp) (show 11∈[11]by simp) h11
       have dS:ρ 13=none:=hcl.none (by simp) (show 12∈[6,12]by simp) dr
       obtain⟨R',hs,hnext⟩:=h.e11 h11 dr dS;simp only[aj]at aB;subst aB;go_wp2_with fail
       refine(nr (cap:=cy) hs (hs.cO (by omega))).mono ?_
       rintro e W3 ⟨va,rfl,hs'⟩;go_wp2
       exact⟨rfl,_,rfl,hnext va W3 hs'⟩
      case xh=>
       intro o ho ρ W2 h hcl dr hd af aB;obtain rfl:=aq9 ho;replace aB:af=aj _ ρ [11] _:=aB;obtain⟨v11,h11⟩:=aq6.1 (hd 11 (by show _∈[11];simp))
       obtain⟨aV,cV,rfl,hn⟩:=h.xh h11;simp only[aj,h11,Option.getD_some,aM,List.getElem?_cons_succ,List.getElem?_cons_zero,Option.bind_some,Act.put,List.setIfInBounds_toArray,List.set_cons_zero,List.set_cons_succ]at aB;subst aB;go_wp2
       exact⟨rfl,_,rfl,hn⟩
      case Xo=>
       intro o ho ρ W2 h hcl dS hd af aB;obtain rfl:=aq9 ho;replace aB:af=aj _ ρ [6,12] _:=aB;obtain⟨v6,h6⟩:=aq6.1 (hd 6 (by show _∈[6,12];simp))
       obtain⟨v12,dr⟩:=aq6.1 (hd 12 (by show _∈[6,12];simp))
       have iH:ρ 14=none:=hcl.none (by simp) (show 13∈[13]by simp) dS
       have cY:ρ 15=none:=hcl.none (by simp) (show 14∈[14]by simp) iH
       obtain⟨a6,c6,aV,cV,R',rfl,rfl,hs,hnext⟩:=h.Xo h6 dr dS iH cY;simp only[aj,h6,dr,Option.getD_some,aM,List.getElem?_cons_succ,List.getElem?_cons_zero,Option.bind_some,Act.put,List.setIfInBounds_toArray,List.set_cons_zero,List.set_cons_succ]at aB;subst aB;go_wp2_with fail
       refine(qz hs).mono ?_
       rintro e W3 ⟨b,rfl,hs'⟩;go_wp2
       exact⟨rfl,_,rfl,hnext b W3 hs'⟩
      case Sn=>
       intro o ho ρ W2 h hcl iH hd af aB;obtain rfl:=aq9 ho;replace aB:af=aj _ ρ [13] _:=aB;obtain⟨v13,dS⟩:=aq6.1 (hd 13 (by show _∈[13];simp))
       obtain⟨b,rfl,hn⟩:=h.Sn dS;simp only[aj,dS,Option.getD_some,aM,List.getElem?_cons_succ,List.getElem?_cons_zero,Option.bind_some,Act.put,List.setIfInBounds_toArray,List.set_cons_zero,List.set_cons_succ]at aB;subst aB;go_wp2
       exact⟨rfl,_,rfl,hn⟩
      case Mw=>
       intro o ho ρ W2 h hcl cY hd af aB;obtain rfl:=aq9 ho;replace aB:af=aj _ ρ [14] _:=aB;obtain⟨v14,iH⟩:=aq6.1 (hd 14 (by show _∈[14];simp))
       have vH:ρ 16=none:=hcl.none (by simp) (show 15∈[15]by simp) cY
       obtain⟨b,rfl,hn⟩:=h.Mw iH cY vH;simp only[aj,iH,Option.getD_some,aM,List.getElem?_cons_succ,List.getElem?_cons_zero,Option.bind_some,Act.put,List.setIfInBounds_toArray,List.set_cons_zero,List.set_cons_succ]at aB;subst aB;go_wp2
       exact⟨rfl,_,rfl,hn⟩
      case e16=>
       intro o ho ρ W2 h hcl vH hd af aB;obtain rfl:=aq9 ho;replace aB:af=aj _ ρ [15] _:=aB;obtain⟨v15,cY⟩:=aq6.1 (hd 15 (by show _∈[15];simp))
       obtain⟨b,rfl,hn⟩:=h.e16 cY;simp only[aj,cY,Option.getD_some,aM,List.getElem?_cons_succ,List.getElem?_cons_zero,Option.bind_some,Act.put,List.setIfInBounds_toArray,List.set_cons_zero,List.set_cons_succ]at aB;subst aB;go_wp2
       exact⟨rfl,_,rfl,hn⟩
     case hQ=>
      intro ρ W2 h hall;obtain⟨b5,a6,c6,aV,cV,mN,bw,h5,h6,h11,dr,dS,iH,cY,vH,hs⟩:=h.last hall;simp only[aj,h5,h6,h11,dr,dS,iH,cY,vH,Option.getD_some,aM,List.getElem?_cons_succ,List.getElem?_cons_zero,Option.bind_some,Act.put,List.setIfInBounds_toArray,List.set_cons_zero,List.set_cons_succ];have e1:xs++[.int .i64 (d.node id 0),.int .u64 (dM (bE word)),.string ⟨#[]⟩,.int .u64 0]=cj (fst::mid++[lst]):=by rw[Hxs.out,iM,aii.out];rfl
      have e2:mid.length+1+1=(fst::mid++[lst]).length:=by simp
      rw[e1,e2]at hs;obtain⟨ps,hps⟩:∃ps,ps=fst::mid++[lst]:=⟨_,rfl⟩;have Sv:ps[0]?=some fst:=by rw[hps];rfl
      have hpl:0<ps.length:=by rw[hps];simp
      rw[←hps]at hs;obtain⟨g,rfl,_⟩:=hs.cQ (lr ps 0 fst Sv).1;have hs:=hs.b2;rw[show dZ mN=(if 0<ps.length then dZ mN else none)from(if_pos hpl).symm]at hs
      have hs:=hs.qA (k:=0) (g:=g) (cap:=c6) (ps:=ps) (fun _=>by rw[Nat.zero_mul,Nat.sub_zero,Nat.sub_zero])
      have hs:=hs.b6.tail.b6.tail.b5.b3.b4.b4.b4;have yF:=aq3 hps;clear Sv hpl e1 e2 hps h5 h6 h11 dr dS iH cY vH hall;go_wp2
      go_ret;exact⟨bw,mN,g,c6,_,mid,ps,rfl,Xt.out,yF.out,hs⟩
end
theorem Gw (tmps:Array Value)(w:World)(b:Nat)(v0 v1 v2 v3 v4 v5 v6:Value)(hp:tmps[2]?=some (.pointer (some ⟨b,0,none⟩)))(hk:∀k,w.cell? ⟨b,k,none⟩=(#[v0,v1,v2,v3,v4,v5,v6]:Array Value)[k]?) :
  (results Tryz.f94 tmps).run Tryz.prog w=.ok (.agg #[v0,v1,v2,v3,v4,v5,v6]) w:=by
 simp[results,Tryz.results94,go_sem,hp,hk]
theorem Ng (tmps:Array Value)(w:World)(b:Nat)(v0 v1 v2 v3 v4 v5 v6:Value)(hp:tmps[2]?=some (.pointer (some ⟨b,0,none⟩)))(hk:∀k,w.cell? ⟨b,k,none⟩=(#[v0,v1,v2,v3,v4,v5,v6]:Array Value)[k]?) :
  (results Tryz.f42 tmps).run Tryz.prog w=.ok (.agg #[v0,v1,v2,v3,v4,v5,v6]) w:=by
 simp[results,Tryz.results42,go_sem,hp,hk]
theorem Nh (tmps:Array Value)(w:World)(b:Nat)(v0 v1 v2 v3 v4 v5 v6:Value)(hp:tmps[2]?=some (.pointer (some ⟨b,0,none⟩)))(hk:∀k,w.cell? ⟨b,k,none⟩=(#[v0,v1,v2,v3,v4,v5,v6]:Array Value)[k]?) :
  (results Tryz.f137 tmps).run Tryz.prog w=.ok (.agg #[v0,v1,v2,v3,v4,v5,v6]) w:=by
 simp[results,Tryz.results137,go_sem,hp,hk]
section
variable {K:aL}{w:World}{F:List aC}{pg:Pg}{id word:Int}{b bw g cap:Nat}{av:Option Addr}{cv:Nat}{ps:List Pt}
theorem xj (hn:pg.sl.length<=1000000)(hs:St K w (mH b id word pg (.slice av pg.sl.length cv) g cap ps ps.length::az (.slice av (pg).sl.length cv) 69 2 (pg).sl.length (aD (pg).sl)::F)) :
  Calls Tryz.prog 94 #[.pointer (some ⟨b,0,none⟩)] w fun e w' => ∃va,e=.returned (.agg #[.int .u64 id,.int .u64 word,.int .i64 (pg).ak,va,.string (pg).hi,.bool (pg).la,.int .u64 (pg).ri]) /\
   St K w' (az va 69 2 pg.sl.length (aD pg.sl)::mH b id word pg (.slice av pg.sl.length cv) g cap ps ps.length::az (.slice av (pg).sl.length cv) 69 2 (pg).sl.length (aD (pg).sl)::F):=by
 obtain⟨pv,hpv,hs⟩:=hs.Km;rw[if_neg (Nat.lt_irrefl _)]at hs;have hcl:∀w' (G:List aC),St K w' (blk b (.cells (dx .nilFunc pv id word pg (.slice av pg.sl.length cv)).toArray 149)::G)->St K w' (mH b id word pg (.slice av pg.sl.length cv) g cap ps ps.length::G):=fun w' G h=>by
  refine St.qA (pv:=pv) ?_ hpv;rw[if_neg (Nat.lt_irrefl _)];exact h
 have Hcl:=aq3 hcl;have hs:St K w (blk b (.cells (dx .nilFunc pv id word pg (.slice av pg.sl.length cv)).toArray 149)::az (.slice av (pg).sl.length cv) 69 2 (pg).sl.length (aD (pg).sl)::F):=hs;clear hcl hpv;have hs:=hs.made (.cells #[.int .u64 0,.int .u64 0,.int .i64 0,.slice none 0 0,.string ⟨#[]⟩,.bool false,.int .u64 0] 45);have Qd:=aq3 (fX (w.alloc (.cells #[.int .u64 0,.int .u64 0,.int .i64 0,.slice none 0 0,.string ⟨#[]⟩,.bool false,.int .u64 0] 45)) b (hs.k1 0) (hs.k1 1));go_enter Tryz.func94,Tryz.ntmps94
 go_wp2_with fail
 refine(Qd.out).mono ?_
 clear Qd;rintro e w1 ⟨rfl,rfl⟩;generalize hb0:w.heap.size=b0;rw[hb0]at hs;go_upto_region 3 with(fail)
 refine cP hs ?_
 clear hs hb0;intro W hs;have k:=hs.k1;unfold dx at k;have hs:=hs.made (.cells #[.int .u64 id,.int .u64 word,.int .i64 (pg).ak,(.slice av pg.sl.length cv),.string (pg).hi,.bool (pg).la,.int .u64 (pg).ri] 45);go_wp2_with fail
 refine(nr (cap:=cv) hs (hs.b3.cO (by omega))).mono ?_
 clear hs k;generalize W.heap.size=b1;rintro e w2 ⟨va,rfl,hs⟩;obtain⟨a2,c2,rfl,_,_⟩:=hs.aH;have hs:=hs.b1;have k1:=hs.k0;have q1:=hs.f0;have hs:=((((hs.aI 2 (.int .i64 pg.ak)).aI 3 (.slice a2 pg.sl.length c2)).aI 4 (.string pg.hi)).aI 5 (.bool pg.la)).aI 6 (.int .u64 pg.ri);simp only[List.set_cons_zero,List.set_cons_succ]at hs;go_upto_region 5 with(fail)
 refine cP hs ?_
 clear hs k1 q1;intro W3 hs;have k1:=hs.k0;have hs:=hs.b2;have k0:=hs.k0;have f0:=hs.f0;have hs:=((((((hs.aI 0 (.int .u64 id)).aI 1 (.int .u64 word)).aI 2 (.int .i64 pg.ak)).aI 3 (.slice a2 pg.sl.length c2)).aI 4 (.string pg.hi)).aI 5 (.bool pg.la)).aI 6 (.int .u64 pg.ri);simp only[List.set_cons_zero,List.set_cons_succ]at hs;go_wp2
 refine bodyPost_ret (Gw _ _ b0 _ _ _ _ _ _ _ rfl hs.k0) rfl ⟨_,rfl,(Hcl.out _ _ hs.tail.tail.b1).b1⟩
theorem yG (hn:pg.sl.length<=1000000)(hs:St K w (mH b id word pg (.slice av pg.sl.length cv) g cap ps ps.length::az (.slice av (pg).sl.length cv) 69 2 (pg).sl.length (aD (pg).sl)::blk bw (.cells #[.pointer (some ⟨b,0,none⟩)] 147)::F)) :
  Calls Tryz.prog 42 #[.pointer (some ⟨bw,0,none⟩)] w fun e w' => ∃va,e=.returned (.agg #[.int .u64 id,.int .u64 word,.int .i64 (pg).ak,va,.string (pg).hi,.bool (pg).la,.int .u64 (pg).ri]) /\
   St K w' (az va 69 2 pg.sl.length (aD pg.sl)::mH b id word pg (.slice av pg.sl.length cv) g cap ps ps.length::az (.slice av (pg).sl.length cv) 69 2 (pg).sl.length (aD (pg).sl)::blk bw (.cells #[.pointer (some ⟨b,0,none⟩)] 147)::F):=by
 have hs:=hs.made (.cells #[.int .u64 0,.int .u64 0,.int .i64 0,.slice none 0 0,.string ⟨#[]⟩,.bool false,.int .u64 0] 45);have kw:=hs.b3.k0;go_enter Tryz.func42,Tryz.ntmps42
 go_wp2_with fail
 refine(xj hn hs.u2).mono ?_
 clear hs kw;generalize w.heap.size=b0;rintro e w1 ⟨va,rfl,hs⟩;obtain⟨a2,c2,rfl,_,_⟩:=hs.aH;have hs:=hs.b3;have k0:=hs.k0;have f0:=hs.f0;have hs:=((((((hs.aI 0 (.int .u64 id)).aI 1 (.int .u64 word)).aI 2 (.int .i64 pg.ak)).aI 3 (.slice a2 pg.sl.length c2)).aI 4 (.string pg.hi)).aI 5 (.bool pg.la)).aI 6 (.int .u64 pg.ri);simp only[List.set_cons_zero,List.set_cons_succ]at hs;go_wp2
 refine bodyPost_ret (Ng _ _ b0 _ _ _ _ _ _ _ rfl hs.k0) rfl ⟨_,rfl,hs.tail⟩
theorem qB (hn:pg.sl.length<=1000000)(hs:St K w (mH b id word pg (.slice av pg.sl.length cv) g cap ps ps.length::az (.slice av (pg).sl.length cv) 69 2 (pg).sl.length (aD (pg).sl)::blk bw (.cells #[.pointer (some ⟨b,0,none⟩)] 145)::F)) :
  Calls Tryz.prog 137 #[.pointer (some ⟨bw,0,none⟩)] w fun e w' => ∃va,e=.returned (.agg #[.int .u64 id,.int .u64 word,.int .i64 (pg).ak,va,.string (pg).hi,.bool (pg).la,.int .u64 (pg).ri]) /\
   St K w' (az va 69 2 pg.sl.length (aD pg.sl)::mH b id word pg (.slice av pg.sl.length cv) g cap ps ps.length::az (.slice av (pg).sl.length cv) 69 2 (pg).sl.length (aD (pg).sl)::blk bw (.cells #[.pointer (some ⟨b,0,none⟩)] 145)::F):=by
 have hs:=hs.made (.cells #[.int .u64 0,.int .u64 0,.int .i64 0,.slice none 0 0,.string ⟨#[]⟩,.bool false,.int .u64 0] 45);have kw:=hs.b3.k0;go_enter Tryz.func137,Tryz.ntmps137
 go_wp2_with fail
 refine(xj hn hs.u2).mono ?_
 clear hs kw;generalize w.heap.size=b0;rintro e w1 ⟨va,rfl,hs⟩;obtain⟨a2,c2,rfl,_,_⟩:=hs.aH;have hs:=hs.b3;have k0:=hs.k0;have f0:=hs.f0;have hs:=((((((hs.aI 0 (.int .u64 id)).aI 1 (.int .u64 word)).aI 2 (.int .i64 pg.ak)).aI 3 (.slice a2 pg.sl.length c2)).aI 4 (.string pg.hi)).aI 5 (.bool pg.la)).aI 6 (.int .u64 pg.ri);simp only[List.set_cons_zero,List.set_cons_succ]at hs;go_wp2
 refine bodyPost_ret (Nh _ _ b0 _ _ _ _ _ _ _ rfl hs.k0) rfl ⟨_,rfl,hs.tail⟩
end
def Zw (o6 o11:Option Value)(b6:Nat)(jM:Option Addr)(c11 n:Nat)(lit xs:List Value):aC:=match o11 with
 | some _=>az (.slice jM (1+n) c11) 139 4 (1+n) (lit++xs)
 | none=>match o6 with
  | some _=>blk b6 (.cells lit.toArray 139)
  | none=>gN
def FrR (K:aL)(REST:List aC)(n:Nat)(lit xs:List Value)(ρ:Nat->Option Value)(W:World):Prop:=
 ∃(b6:Nat) (Ch:Option Addr) (c10:Nat) (jM:Option Addr) (c11:Nat),(∀v,ρ 6=some v->v=.slice (some ⟨b6,0,none⟩) 1 1)/\(∀v,ρ 10=some v->v=.slice Ch n c10)/\(∀v,ρ 11=some v->v=.slice jM (1+n) c11)/\(∀v,ρ 12=some v->v=.slice jM (1+n) c11) /\
  St K W (Zw (ρ 6) (ρ 11) b6 jM c11 n lit xs::dH (ρ 10) (az (.slice Ch n c10) 139 4 n xs)::REST)
section
variable {K:aL}{w:World}{F:List aC}{x:Pg}{ax:Option Addr}{cx:Nat}{d:aR}{id:Int}
theorem rU (hd:d.Ok)(hid:0<=id/\id<18446744073709551616)(lx:0<=x.ak/\x.ak<1000000)(hle:(x.sl.length:Int)<=d.fa)(hs:St K w (az (.slice ax (x).sl.length cx) 69 2 (x).sl.length (aD (x).sl)::F)) :
  Calls Tryz.prog 38 #[.agg #[.int .i64 d.th,.int .i64 d.sn,.int .i64 d.no,.int .i64 d.ch,.int .i64 d.re,.int .i64 d.fa,.int .u64 d.cl],.int .u64 id,.agg #[.int .i64 (x).ak,(.slice ax x.sl.length cx),.string (x).hi,.bool (x).la,.int .u64 (x).ri]] w fun e w' => ∃(bw b g cap:Nat) (va:Value) (ps:List Pt),e=.returned (.pointer (some ⟨bw,0,none⟩))/\ps=⟨d.node id 0,⟨aN 0,⟨#[]⟩,0⟩⟩::bP d id x /\
   St K w' (mH b id (aN 0) x va g cap ps 0::az (.slice (some ⟨g,0,none⟩) ps.length cap) 139 4 ps.length (cj ps)::blk bw (.cells #[.pointer (some ⟨b,0,none⟩)] 145)::bu va x::az (.slice ax (x).sl.length cx) 69 2 (x).sl.length (aD (x).sl)::F):=by
 have f2:=hd.mK;have qx:=fun w F (hs:St K w (az (.slice ax (x).sl.length cx) 69 2 (x).sl.length (aD (x).sl)::F))=>uB (cap:=cx) (pg:=x) hd hid lx hle hs
 have Ss:(bP d id x).length=x.sl.length+3:=by simp[bP,eT]
 obtain⟨px,hpx⟩:∃px,px=bP d id x:=⟨_,rfl⟩;rw[←hpx]at qx Ss ⊢;have Qx:=aq3 qx;have nx:px.length<=40:=by omega
 have Qa:=aq3 (fun w=>iw d hd id hid.1 hid.2 w)
 have Ql:=aq3 (fun w=>tP 0 (by decide) (by decide) w)
 obtain⟨j0,hj0⟩:∃j,j=d.node id 0:=⟨_,rfl⟩;obtain⟨w0,hw0⟩:∃z,z=aN 0:=⟨_,rfl⟩;simp only[←hj0]at Qa;simp only[←hw0]at Ql;rw[←hj0,←hw0];obtain⟨iv,cZ,dc,dg,dh⟩:=info_parts yx;clear qx hpx Ss hj0 hw0;have hs:=(hs.made (.cells #[.int .i64 d.th,.int .i64 d.sn,.int .i64 d.no,.int .i64 d.ch,.int .i64 d.re,.int .i64 d.fa,.int .u64 d.cl] 29)).made (.cells #[.int .i64 (x).ak,(.slice ax x.sl.length cx),.string (x).hi,.bool (x).la,.int .u64 (x).ri] 43);rw[World.size_alloc]at hs;go_enter Tryz.func38,Tryz.ntmps38
 go_wp2_with fail
 refine(mX hs (Ql.out _)).mono ?_
 clear hs;generalize w.heap.size=b0;rintro e w1 ⟨rfl,hs⟩;go_upto_region 2 with(fail)
 go_cut [8] (fun v8 wx=>∃(jM:Option Addr) (c11:Nat),v8=.slice jM (1+px.length) c11/\St K wx (az (.slice jM (1+px.length) c11) 139 4 (1+px.length) ([.int .i64 j0,.int .u64 w0,.string ⟨#[]⟩,.int .u64 0]++cj px)::blk (b0+1) (.cells #[.int .i64 (x).ak,(.slice ax x.sl.length cx),.string (x).hi,.bool (x).la,.int .u64 (x).ri] 43)::az (.slice ax (x).sl.length cx) 69 2 (x).sl.length (aD (x).sl)::F))
 case first=>
  as_aux_lemma=>
  have Hs:=aq3 hs;clear hs;refine aT [false,false,false,false,false,false,true,false,false,false,true,true,true] [6,10,11,12] (fun|11=>[6,10] | 12=>[11] | _=>[])
   (FrR K (blk (b0+1) (.cells #[.int .i64 (x).ak,(.slice ax x.sl.length cx),.string (x).hi,.bool (x).la,.int .u64 (x).ri] 43)::blk b0 (.cells #[.int .i64 d.th,.int .i64 d.sn,.int .i64 d.no,.int .i64 d.ch,.int .i64 d.re,.int .i64 d.fa,.int .u64 d.cl] 29)::az (.slice ax (x).sl.length cx) 69 2 (x).sl.length (aD (x).sl)::F) px.length [.int .i64 j0,.int .u64 w0,.string ⟨#[]⟩,.int .u64 0] (cj px))
   (fun W=>St K W (blk (b0+1) (.cells #[.int .i64 (x).ak,(.slice ax x.sl.length cx),.string (x).hi,.bool (x).la,.int .u64 (x).ri] 43)::blk b0 (.cells #[.int .i64 d.th,.int .i64 d.sn,.int .i64 d.no,.int .i64 d.ch,.int .i64 d.re,.int .i64 d.fa,.int .u64 d.cl] 29)::az (.slice ax (x).sl.length cx) 69 2 (x).sl.length (aD (x).sl)::F)) ?aS (by kernel_rfl) ?hB ?H ?iD ?h0 ?hI ?hR ?hE ?hQ
  case hB=>as_aux_lemma=>kernel_rfl
  case H=>
   intro W2 hs;have kp:=hs.k0;have kl:=hs.k1;clear hs;simp only[bL];repeat (go_big_quiet_step ((go_at_call 69;exact aX (Qa.out _))))
   refine wpQuiet_nil ?_
   rfl
  case iD=>rfl
  case h0=>exact⟨0,none,0,none,0,fun v h=>(by cases h),fun v h=>(by cases h),fun v h=>(by cases h),fun v h=>(by cases h),Hs.out.empty.empty⟩
  case hI=>
   rintro ρ W2 ⟨b6,Ch,c10,jM,c11,e1,e2,e3,e4,hs⟩;exact hs.tail.tail
  case hR=>
   rintro ρ W2 W3 ⟨b6,Ch,c10,jM,c11,e1,e2,e3,e4,hs⟩ hb;exact⟨b6,Ch,c10,jM,c11,e1,e2,e3,e4,hs.same hb⟩
  case hE=>
   refine⟨?e6,?Xu,?e11,?xh,trivial⟩;case e6=>
    intro o ho ρ W2 h hcl h6 hd2 af aB;obtain rfl:=aq9 ho;replace aB:af=aj _ ρ [] _:=aB;have h11:ρ 11=none:=hcl.none (by simp) (show 6∈[6,10]by simp) h6
    obtain⟨b6,Ch,c10,jM,c11,e1,e2,e3,e4,hs⟩:=h;rw[h6,h11]at hs;simp only[aj]at aB;subst aB;go_wp2
    refine⟨rfl,_,rfl,W2.heap.size,Ch,c10,jM,c11,fun v hv=>(aq9 hv).symm,e2,e3,e4,?_⟩
    show St K _ (Zw _ (ρ 11) _ _ _ _ _ _::_)
    rw[h11];exact hs.tail.made _
   case Xu=>
    intro o ho ρ W2 h hcl h10 hd2 af aB;obtain rfl:=aq9 ho;replace aB:af=aj _ ρ [] _:=aB;obtain⟨b6,Ch,c10,jM,c11,e1,e2,e3,e4,hs⟩:=h;rw[h10]at hs;simp only[aj]at aB;subst aB;go_wp2_with fail
    refine(Qx.out _ _ hs.b4).mono ?_
    rintro e W3 ⟨va,rfl,hs'⟩;obtain⟨a2,c2,rfl,_,_⟩:=hs'.aH;go_wp2
    exact⟨rfl,_,rfl,b6,a2,c2,jM,c11,e1,fun v hv=>(aq9 hv).symm,e3,e4,hs'.b3.tail.b1.u4.b1⟩
   case e11=>
    intro o ho ρ W2 h hcl h11 hd2 af aB;obtain rfl:=aq9 ho;replace aB:af=aj _ ρ [6,10] _:=aB;obtain⟨v6,h6⟩:=aq6.1 (hd2 6 (by show _∈[6,10];simp))
    obtain⟨v10,h10⟩:=aq6.1 (hd2 10 (by show _∈[6,10];simp))
    have dr:ρ 12=none:=hcl.none (by simp) (show 11∈[11]by simp) h11
    obtain⟨b6,Ch,c10,jM,c11,e1,e2,e3,e4,hs⟩:=h;obtain rfl:=e1 v6 h6;obtain rfl:=e2 v10 h10;rw[h6,h10,h11]at hs;have hs:St K W2 (blk b6 (.cells ([.int .i64 j0,.int .u64 w0,.string ⟨#[]⟩,.int .u64 0]).toArray 139)::az (.slice Ch px.length c10) 139 4 px.length (cj px)::blk (b0+1) (.cells #[.int .i64 (x).ak,(.slice ax x.sl.length cx),.string (x).hi,.bool (x).la,.int .u64 (x).ri] 43)::blk b0 (.cells #[.int .i64 d.th,.int .i64 d.sn,.int .i64 d.no,.int .i64 d.ch,.int .i64 d.re,.int .i64 d.fa,.int .u64 d.cl] 29)::az (.slice ax (x).sl.length cx) 69 2 (x).sl.length (aD (x).sl)::F):=hs;have hs:=hs.lS (n:=1) (size:=4) rfl (by simp[maxLen])
    have hnw:∀j u,(cj px)[j]?=some u->∃g off,Ch=some ⟨g,off,none⟩/\W2.cell? ⟨g,off+j,none⟩=some u:=fun j u hu=>by
     obtain⟨g,e,c⟩:=hs.b1.cQ hu;exact⟨g,0,e,by rw[Nat.zero_add];exact c⟩
    have hno:Ch=none->px.length=0:=fun e=>by
     cases px with
     | nil=>rfl
     | cons p l=>
      obtain⟨g,off,e2,_⟩:=hnw 0 _ (lr (p::l) 0 p rfl).1;rw[e]at e2;cases e2
    simp only[aj,h6,h10,Option.getD_some,aM,Act.put,ara]at aB;subst aB;refine cG _ _ 137 139 _ 1 px.length c10 4 40 [.int .i64 j0,.int .u64 w0,.string ⟨#[]⟩,.int .u64 0] (cj px) (.agg #[.int .i64 0,.int .u64 0,.string ⟨#[]⟩,.int .u64 0]) iv Ch hs rfl rfl Tryz.underlying137 cZ dc dg dh rfl (by decide) rfl rfl (yw px) hno hnw (Nb px) (by omega) (by decide) ?_
    intro v' w' hs';obtain⟨a2,c2,rfl,_,_⟩:=hs'.aH;refine⟨rfl,_,rfl,b6,Ch,c10,a2,c2,e1,e2,fun v hv=>(aq9 hv).symm,fun v hv=>?_,?_⟩
    ·have:ρ 12=some v:=hv
     rw[dr]at this;cases this
    ·show St K w' (az _ _ _ _ _::dH (ρ 10) _::_)
     rw[h10];exact hs'
   case xh=>
    intro o ho ρ W2 h hcl dr hd2 af aB;obtain rfl:=aq9 ho;replace aB:af=aj _ ρ [11] _:=aB;obtain⟨v11,h11⟩:=aq6.1 (hd2 11 (by show _∈[11];simp))
    obtain⟨b6,Ch,c10,jM,c11,e1,e2,e3,e4,hs⟩:=h;obtain rfl:=e3 v11 h11;simp only[aj,h11,Option.getD_some,aM,Act.put,ara]at aB;subst aB;go_wp2
    exact⟨rfl,_,rfl,b6,Ch,c10,jM,c11,e1,e2,e3,fun v hv=>(aq9 hv).symm,hs⟩
  case hQ=>
   intro ρ W2 h hall;obtain⟨v6,h6⟩:=aq6.1 (hall 6 (by simp))
   obtain⟨v10,h10⟩:=aq6.1 (hall 10 (by simp))
   obtain⟨v11,h11⟩:=aq6.1 (hall 11 (by simp))
   obtain⟨v12,dr⟩:=aq6.1 (hall 12 (by simp))
   obtain⟨b6,Ch,c10,jM,c11,e1,e2,e3,e4,hs⟩:=h;obtain rfl:=e4 v12 dr;rw[h11,h10]at hs;simp only[aj,h6,h10,h11,dr,Option.getD_some,aM,Act.put,ara];clear h6 h10 h11 dr e1 e2 e3 e4 hall;go_wp2
   go_meet;exact⟨_,_,rfl,(hs.b1.tail).b2.tail⟩
 case rest=>
  clear hs;obtain⟨jM,c11,rfl,hs⟩:=hcut;have e1:[.int .i64 j0,.int .u64 w0,.string ⟨#[]⟩,.int .u64 0]++cj px=cj ((⟨j0,⟨w0,⟨#[]⟩,0⟩⟩:Pt)::px):=rfl;have e2:((⟨j0,⟨w0,⟨#[]⟩,0⟩⟩:Pt)::px).length=1+px.length:=by simp;omega
  rw[e1]at hs;have kp:=hs.k1;go_wp2_with fail
  refine(nr (cap:=cx) hs (hs.b2.cO (by omega))).mono ?_
  clear hs kp;rintro e w2 ⟨va,rfl,hs⟩;obtain⟨a2,c2,rfl,_,_⟩:=hs.aH;go_wp2_with fail
  refine(qz hs).mono ?_
  clear hs;rintro e w3 ⟨b,rfl,hs⟩;have hs:=hs.made (.cells #[.pointer (some ⟨b,0,none⟩)] 145);obtain⟨ps,hps⟩:∃ps,ps=(⟨j0,⟨w0,⟨#[]⟩,0⟩⟩:Pt)::px:=⟨_,rfl⟩;rw[←hps]at e2;have Sv:ps[0]?=some ⟨j0,⟨w0,⟨#[]⟩,0⟩⟩:=by rw[hps];rfl
  have hpl:0<ps.length:=by omega
  rw[←hps,←e2]at hs;obtain⟨g,rfl,_⟩:=hs.b3.cQ (lr ps 0 _ Sv).1;have hs:=hs.b1;rw[show dZ b=(if 0<ps.length then dZ b else none)from(if_pos hpl).symm]at hs
  rw[←e2];have Hs:=aq3 (hs.qA (k:=0) (g:=g) (cap:=c11) (ps:=ps) (fun _=>by rw[Nat.zero_mul,Nat.sub_zero,Nat.sub_zero]))
  have yF:=aq3 hps;clear hs Sv hpl e1 e2 hps;go_wp2
  go_ret;exact⟨_,b,g,c11,_,ps,rfl,yF.out,(Hs.out.b4.tail).b3.b1⟩
theorem qC {word:Int}{pg:Pg}{b bw bm bc g cap k acc:Nat}{va:Value}{ps:List Pt}{L:List aO}{p:Pt}(hk:ps[k]?=some p)(ha:acc<=1000000000000)
  (hs:St K w (mH b id word pg va g cap ps k::aJ bm bc L acc::az (.slice (some ⟨g,0,none⟩) ps.length cap) 139 4 ps.length (cj ps)::blk bw (.cells #[.pointer (some ⟨b,0,none⟩)] 145)::F)) :
  Calls Tryz.prog 40 #[.pointer (some ⟨bw,0,none⟩),.pointer (some ⟨bm,0,none⟩)] w fun e w' => e=.returned (.bool (decide (k+1=ps.length))) /\
   St K w' (mH b id word pg va g cap ps (k+1)::aJ bm bc (aP L p.i p.c) (acc+1)::az (.slice (some ⟨g,0,none⟩) ps.length cap) 139 4 ps.length (cj ps)::blk bw (.cells #[.pointer (some ⟨b,0,none⟩)] 145)::F):=by
 have Q:=aq3 (Cc hk ha hs);have kw:=hs.b3.k0;clear hs;go_enter Tryz.func40,Tryz.ntmps40
 go_wp2_with fail
 refine(Q.out).mono ?_
 rintro e w1 ⟨rfl,hs⟩;go_wp2
 go_ret;exact⟨rfl,hs⟩
end
set_option linter.unusedSectionVars false
def fy (L:List aO)(ps:List Pt):List aO:=ps.foldl (fun L p=>aP L p.i p.c) L
theorem jt (L:List aO)(p:Pt)(ps:List Pt):fy L (p::ps)=fy (aP L p.i p.c) ps:=rfl
theorem kL (L:List aO)(ps qs:List Pt):fy L (ps++qs)=fy (fy L ps) qs:=by unfold fy;rw[List.foldl_append]
theorem Cj {L:List aO}{ps:List Pt}{k:Nat}{p:Pt}(h:ps[k]?=some p):fy L (ps.take (k+1))=aP (fy L (ps.take k)) p.i p.c:=by
 have hlt:k<ps.length:=(aq5.1 h).1;rw[aq8 hlt]at h;rw[List.take_succ_eq_append_getElem hlt,aq9 h,kL];rfl
theorem kM:∀(ps:List Pt)(L:List aO),(fy L ps).length=L.length
 | [],L=>rfl
 | p::ps,L=>by rw[jt,kM ps,aY]
theorem iN:∀(ps:List Pt)(L:List aO)(j:Int),(∀p,p∈ps->j≠p.i)->ah (fy L ps) j=ah L j
 | [],L,j,_=>rfl
 | p::ps,L,j,h=>by rw[jt,iN ps _ j (fun q hq=>h q (by simp[hq]))];exact bj (h p (by simp))
theorem xo:∀(ps:List Pt)(L:List aO),(ps.map (·.i)).Nodup->(∀p,p∈ps->0<=p.i/\p.i<L.length)->∀p,p∈ps->ah (fy L ps) p.i=p.c
 | [],L,_,_,p,h=>by simp at h
 | q::ps,L,hn,hr,p,h=>by
  rw[List.map_cons,List.nodup_cons]at hn;rw[jt];rcases List.mem_cons.1 h with h1|h1
  ·subst h1
   rw[iN ps _ _ (fun r hr' e=>hn.1 (List.mem_map.2 ⟨r,hr',e.symm⟩))]
   have:=hr p (by simp)
   exact cB this.1 (by exact_mod_cast this.2)
  ·exact xo ps _ hn.2 (fun r hr' => by rw[aY];exact hr r (by simp[hr'])) p h1
def Holds (L:List aO)(ps:List Pt):Prop:=∀p,p∈ps->ah L p.i=p.c
section
variable {d:aR}(hd:d.Ok){id:Int}(h1:1<=id)(h2:id<=d.no)
include hd h1 h2
omit hd h1 h2 in
theorem l5:∀(l:List Sl)(i:Nat),(i+l.length:Int)<=d.fa->∀p,p∈fR d id i l->∃j:Nat,i<=j/\j<i+l.length/\p.i=d.node id (4+(j:Int))
 | [],_,_,p,hp=>by simp[fR]at hp
 | s::l,i,hle,p,hp=>by
  simp only[List.length_cons]at hle;rcases List.mem_cons.1 hp with h|h
  ·subst h
   refine⟨i,Nat.le_refl _,by simp,?_⟩
   show d.slot id i=_
   unfold aR.slot;rw[if_pos ⟨by omega,by omega⟩]
  ·obtain⟨j,a,b,c⟩:=l5 l (i+1) (by omega) p h
   exact⟨j,by omega,by simp;omega,c⟩
theorem rV:∀(l:List Sl)(i:Nat),(i+l.length:Int)<=d.fa->((fR d id i l).map (·.i)).Nodup
 | [],_,_=>by simp[fR]
 | s::l,i,hle=>by
  simp only[List.length_cons]at hle;show(d.slot id i::(fR d id (i+1) l).map (·.i)).Nodup
  rw[List.nodup_cons];refine⟨fun hm=>?_,rV l (i+1) (by omega)⟩
  obtain⟨p,hp,e⟩:=List.mem_map.1 hm;obtain⟨j,a,b,c⟩:=l5 l (i+1) (by omega) p hp
  have es:d.slot id i=d.node id (4+(i:Int)):=by
   unfold aR.slot;rw[if_pos ⟨by omega,by omega⟩]
  rw[c,es]at e;exact dw hd h1 h2 (by omega) (by omega) (by omega) (by omega) (by omega) e
theorem fJ {pg:Pg}(hle:(pg.sl.length:Int)<=d.fa):∀p,p∈bP d id pg->∃k:Int,1<=k/\k<d.fa+4/\p.i=d.node id k:=by
 intro p hp;have f1:=hd.fo;rcases List.mem_append.1 hp with h|h
 ·obtain⟨j,a,b,c⟩:=l5 pg.sl 0 (by omega) p h
  exact⟨4+(j:Int),by omega,by omega,c⟩
 ·simp only[List.mem_cons,List.not_mem_nil,or_false]at h
  rcases h with h|h|h <;> subst h
  ·exact⟨2,by omega,by omega,rfl⟩
  ·exact⟨3,by omega,by omega,rfl⟩
  ·exact⟨1,by omega,by omega,rfl⟩
theorem nH {pg:Pg}(hle:(pg.sl.length:Int)<=d.fa):((bP d id pg).map (·.i)).Nodup:=by
 have f1:=hd.fo;unfold bP;rw[List.map_append,List.nodup_append];refine⟨rV hd h1 h2 pg.sl 0 (by omega),?_,fun a ha b hb=>?_⟩
 ·have e1:=dw hd h1 h2 (k:=2) (k' := 3) (by omega) (by omega) (by omega) (by omega) (by omega)
  have e2:=dw hd h1 h2 (k:=2) (k' := 1) (by omega) (by omega) (by omega) (by omega) (by omega)
  have e3:=dw hd h1 h2 (k:=3) (k' := 1) (by omega) (by omega) (by omega) (by omega) (by omega)
  simp[e1,e2,e3]
 ·obtain⟨p,hp,rfl⟩:=List.mem_map.1 ha
  obtain⟨j,a1,b1,c⟩:=l5 pg.sl 0 (by omega) p hp
  rw[c];simp only[List.map_cons,List.map_nil,List.mem_cons,List.not_mem_nil,or_false]at hb;rcases hb with rfl|rfl|rfl <;> exact dw hd h1 h2 (by omega) (by omega) (by omega) (by omega) (by omega)
theorem Cl {L:List aO}{pg:Pg}(hlen:(L.length:Int)=d.cells)(hle:(pg.sl.length:Int)<=d.fa)(kN:pg.la=true->pg.hi=⟨#[]⟩):Holds (eZ d id pg L) (bP d id pg):=by
 have f1:=hd.fo;have n1:=bV hd h1 h2 (k:=1) (by omega) (by omega)
 have n2:=bV hd h1 h2 (k:=2) (by omega) (by omega)
 have n3:=bV hd h1 h2 (k:=3) (by omega) (by omega)
 have ne:∀(k:Int) (m:Nat),0<=k->k<=3->0<=m->m<0+pg.sl.length->d.node id k≠d.node id (4+(m:Int)):=fun k m a b _ c=>dw hd h1 h2 a (by omega) (by omega) (by omega) (by omega)
 intro p hp;rcases List.mem_append.1 hp with h|h
 ·have key:∀(l:List Sl) (i:Nat) (L':List aO),(L'.length:Int)=d.cells->(i+l.length:Int)<=d.fa->∀p,p∈fR d id i l->ah (j4 d id i l L') p.i=p.c:=by
   intro l;induction l with
   | nil=>intro i L' _ _ p hp;simp[fR]at hp
   | cons s l ih=>
    intro i L' hl' hle' p hp;simp only[List.length_cons]at hle';show ah (j4 d id (i+1) l (aP L' (d.node id (4+(i:Int))) ⟨s.r,s.k,0⟩)) p.i=p.c
    rcases List.mem_cons.1 hp with h|h
    ·subst h
     have es:d.slot id i=d.node id (4+(i:Int)):=by
      unfold aR.slot;rw[if_pos ⟨by omega,by omega⟩]
     show ah _ (d.slot id i)=_
     rw[es,eP _ _ _ _ (fun k a b=>dw hd h1 h2 (by omega) (by omega) (by omega) (by omega) (by omega))]
     have hi:=bV hd h1 h2 (k:=4+(i:Int)) (by omega) (by omega)
     exact cB hi.2.1 (by omega)
    ·exact ih (i+1) _ (by rw[aY];exact hl') (by omega) p h
  exact key pg.sl 0 _ (by unfold nv;rw[aY,aY,aY];exact hlen) (by omega) p h
 ·simp only[List.mem_cons,List.not_mem_nil,or_false]at h
  unfold eZ;rcases h with h|h|h <;> subst h
  ·show ah _ (d.node id 2)=mG pg
   rw[eP _ _ _ _ (fun k a b=>ne 2 k (by omega) (by omega) a b)]
   unfold nv;rw[bj (dw hd h1 h2 (by omega) (by omega) (by omega) (by omega) (by omega)),cB n2.2.1 (by rw[aY];omega)]
   unfold mG;cases hb:pg.la with
   | true=>rw[kN hb];rfl
   | false=>rfl
  ·show ah _ (d.node id 3)=_
   rw[eP _ _ _ _ (fun k a b=>ne 3 k (by omega) (by omega) a b)]
   unfold nv;rw[cB n3.2.1 (by rw[aY,aY];omega)]
  ·show ah _ (d.node id 1)=_
   rw[eP _ _ _ _ (fun k a b=>ne 1 k (by omega) (by omega) a b)]
   unfold nv;rw[bj (dw hd h1 h2 (by omega) (by omega) (by omega) (by omega) (by omega)),bj (dw hd h1 h2 (by omega) (by omega) (by omega) (by omega) (by omega)),cB n1.2.1 (by omega)]
omit hd h1 h2 in
theorem xp {α β : Type}{f:α -> β}:∀ {l:List α},(l.map f).Nodup->∀ {a b:α},a∈l->b∈l->f a=f b->a=b
 | [],_,a,b,ha,_,_=>by simp at ha
 | c::l,hn,a,b,ha,hb,e=>by
  rw[List.map_cons,List.nodup_cons]at hn;rcases List.mem_cons.1 ha with h|h <;> rcases List.mem_cons.1 hb with h' | h'
  ·rw[h,h']
  ·subst h;exact absurd (List.mem_map.2 ⟨b,h',e.symm⟩) hn.1
  ·subst h';exact absurd (List.mem_map.2 ⟨a,h,e⟩) hn.1
  ·exact xp hn.2 h h' e
theorem Ni {L:List aO}{x y:Pg}{mid:List Pt}{c0 c1:aO}(hx:Holds L (bP d id x))(hnew:lz (bP d id x) (bP d id y) mid)(hlen:(L.length:Int)=d.cells)(Sw:(y.sl.length:Int)<=d.fa) :
  Holds (fy L (⟨d.node id 0,c0⟩::mid++[⟨d.node id 0,c1⟩])) (bP d id y):=by
 intro p hp;have f1:=hd.fo;obtain⟨k,k1,k2,ek⟩:=fJ hd h1 h2 Sw p hp;have hne:p.i≠d.node id 0:=by rw[ek];exact dw hd h1 h2 (by omega) k2 (by omega) (by omega) (by omega)
 have hnd:=nH hd h1 h2 Sw;rw[List.cons_append,jt,kL];show ah (aP _ (d.node id 0) c1) p.i=p.c
 rw[bj hne];by_cases hm:p∈mid
 ·refine xo mid _ (hnd.sublist (hnew.1.map _)) (fun q hq=>?_) p hm
  obtain⟨kq,kq1,kq2,eq⟩:=fJ hd h1 h2 Sw q (hnew.1.subset hq);have:=bV hd h1 h2 (k:=kq) (by omega) kq2
  rw[aY,eq];omega
 ·have hpx:p∈bP d id x:=Classical.byContradiction fun hn=>hm (hnew.2 p hp hn)
  rw[iN mid _ _ (fun q hq e=>hm (by rw[xp hnd hp (hnew.1.subset hq) e];exact hq)),bj hne]
  exact hx p hpx
theorem Nj {L:List aO}{y:Pg}{mid:List Pt}{c0 c1:aO}(hsub:mid.Sublist (bP d id y))(hlen:(L.length:Int)=d.cells)(Sw:(y.sl.length:Int)<=d.fa){k:Nat}(hk:1<=k)(hk2:k<=mid.length+1) :
  ah (fy L (List.take k (⟨d.node id 0,c0⟩::mid++[⟨d.node id 0,c1⟩]))) (d.node id 0)=c0:=by
 have f1:=hd.fo;obtain⟨k,rfl⟩:∃j,k=j+1:=⟨k-1,by omega⟩
 rw[List.cons_append,List.take_succ_cons,List.take_append_of_le_length (by omega),jt]
 rw[iN _ _ _ (fun q hq=>?_)]
 ·have n0:=bV hd h1 h2 (k:=0) (by omega) (by omega)
  show ah (aP L (d.node id 0) c0) (d.node id 0)=c0
  exact cB n0.2.1 (by omega)
 ·obtain⟨kq,kq1,kq2,eq⟩:=fJ hd h1 h2 Sw q (hsub.subset (List.mem_of_mem_take hq))
  rw[eq];exact dw hd h1 h2 (by omega) (by omega) (by omega) kq2 (by omega)
theorem uC {L:List aO}{mid:List Pt}{c0 c1:aO}(hlen:(L.length:Int)=d.cells):ah (fy L (⟨d.node id 0,c0⟩::mid++[⟨d.node id 0,c1⟩])) (d.node id 0)=c1:=by
 have f1:=hd.fo;have n0:=bV hd h1 h2 (k:=0) (by omega) (by omega)
 rw[kL];show ah (aP _ (d.node id 0) c1) (d.node id 0)=c1
 exact cB n0.2.1 (by rw[kM];omega)
end
end Go.Proofs.YtlpdhhhgckpcfaaGreat
