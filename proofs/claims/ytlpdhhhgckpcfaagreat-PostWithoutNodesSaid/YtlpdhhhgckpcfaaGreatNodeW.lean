
/- The writer of a node (package node): the list of its stores. The map of a Rl stores (map[put]bool, made by the call itself), as a part of a world. The writer of a node as a machine (package node): acF, store, Step. adN (package node): the stores that turn a page into another. What a writer of a node holds when it has finished (package node): result, Held. The writer of a new node (package node: akD). What a Rl list makes of the cells (pure). -/
import Derived.Maps.OwnSet
import Derived.DeepKeys4
import Derived.Test.YtlpdhhhgckpcfaaGreatPageA
namespace Go.Proofs.YtlpdhhhgckpcfaaGreat
set_option maxHeartbeats 16000000
open Go.RowKit
set_option maxRecDepth 100000
structure Pt where
 i:Int
 c:aP
def sS (p:Pt):List Value:=[.int .i64 p.i,.int .u64 p.c.n,.string p.c.k,.int .u64 p.c.m]
def ck (l:List Pt):List Value:=l.flatMap sS
theorem x6 (l:List Pt):(ck l).length=l.length*4:=by
 induction l with
 | nil=>rfl
 | cons s l ih=>rw[show ck (s::l)=sS s++ck l from rfl,List.length_append,ih];simp[sS];omega
theorem iH (l l':List Pt):ck (l++l')=ck l++ck l' := by unfold ck;rw[List.flatMap_append]
theorem ld (l:List Pt):∀ (i:Nat)(s:Pt),l[i]?=some s->(ck l)[i*4]?=some (.int .i64 s.i)/\(ck l)[i*4+1]?=some (.int .u64 s.c.n)/\(ck l)[i*4+2]?=some (.string s.c.k)/\(ck l)[i*4+3]?=some (.int .u64 s.c.m):=by
 induction l with
 | nil=>intro i s h;simp at h
 | cons a l ih=>
  intro i s h;have e:ck (a::l)=.int .i64 a.i :: .int .u64 a.c.n :: .string a.c.k :: .int .u64 a.c.m::ck l:=rfl;rw[e];cases i with
  | zero=>simp at h;subst h;exact⟨rfl,rfl,rfl,rfl⟩
  | succ i=>
   have:=ih i s (by simpa using h)
   rw[show(i+1)*4=i*4+4 by omega]
   simpa using this
theorem Mh (l:List Pt):∀ u,u∈ck l->u.oneCell'=true:=by
 intro u hu;obtain⟨s,_,hs⟩:=List.mem_flatMap.1 hu;simp[sS]at hs;rcases hs with rfl|rfl|rfl|rfl <;> rfl
def fS (d:aR)(id:Int):Nat->List Sl->List Pt
 | _,[]=>[]
 | i,s::l=>⟨d.slot id i,⟨s.r,s.k,0⟩⟩::fS d id (i+1) l
theorem eQ {d:aR}{id:Int}:∀ (l:List Sl)(i:Nat),(fS d id i l).length=l.length
 | [],_=>rfl
 | s::l,i=>by simp[fS,eQ l]
theorem uj {d:aR}{id:Int}:∀ (l:List Sl)(i:Nat)(s:Sl),fS d id i (l++[s])=fS d id i l++[⟨d.slot id ((i+l.length:Nat):Int),⟨s.r,s.k,0⟩⟩]
 | [],i,s=>by simp[fS]
 | x::l,i,s=>by
  show _::fS d id (i+1) (l++[s])=_::_
  rw[uj l (i+1) s];simp only[List.length_cons];rw[show i+1+l.length=i+(l.length+1)by omega]
  rfl
def mr (pg:Pg):aP:=cond pg.la ⟨0,⟨#[]⟩,1⟩ ⟨0,pg.hi,0⟩
def bN (d:aR)(id:Int)(pg:Pg):List Pt:=
 fS d id 0 pg.sl++[⟨d.node id 2,mr pg⟩,⟨d.node id 3,⟨pg.ri,⟨#[]⟩,0⟩⟩,⟨d.node id 1,⟨pg.sl.length,⟨#[]⟩,pg.az⟩⟩]
theorem x7:(Tryz.prog.info? 139).map (fun i=>(i.zero,i.size,i.bytes))=some (some (.agg #[.int .i64 0,.int .u64 0,.string ⟨#[]⟩,.int .u64 0]),4,40):=by kernel_rfl
section
variable {K:aK}{w:World}{F:List aB}{pg:Pg}{a:Option Addr}{cap:Nat}{d:aR}{id:Int}
theorem uk (hd:d.Ok)(hid:0<=id/\id<18446744073709551616)(cg:0<=pg.az/\pg.az<1000000)(hle:(pg.sl.length:Int)<=d.fa)
  (hs:St K w (ak (.slice a pg.sl.length cap) 69 2 pg.sl.length (aD pg.sl)::F)) :
  Calls Tryz.prog 89 #[.agg #[.int .i64 d.th,.int .i64 d.sn,.int .i64 d.no,.int .i64 d.ch,.int .i64 d.re,.int .i64 d.fa,.int .u64 d.cl],.int .u64 id,.agg #[.int .i64 (pg).az,(.slice a pg.sl.length cap),.string (pg).hi,.bool (pg).la,.int .u64 (pg).ri]] w fun e w' => ∃ va,e=.returned va /\
   St K w' (ak va 139 4 (bN d id pg).length (ck (bN d id pg))::ak (.slice a pg.sl.length cap) 69 2 pg.sl.length (aD pg.sl)::F):=by
 obtain⟨n,hn⟩:∃ n,n=pg.sl.length:=⟨_,rfl⟩;have sP:=hd.mV;obtain⟨iv,cZ,dc,dg,dh⟩:=info_parts x7;have Qs:=aqo (fun(i:Int) (w:World)=>zz d hd id i hid.1 hid.2 w)
 have Qh:=aqo (fun(w:World)=>tD d hd id hid.1 hid.2 w)
 have Qr:=aqo (fun(w:World)=>qJ d hd id hid.1 hid.2 w)
 have Q1:=aqo (fun(w:World)=>tC d hd id hid.1 hid.2 w)
 obtain⟨o,ho⟩:∃ o,o=pg.la:=⟨_,rfl⟩;have hnl:n<=100:=by omega
 rw[← hn]at hs ⊢;rw[← ho];have Hn:=aqo hn;have Ho:=aqo ho;clear hn ho hle;have hs:=(hs.made (.cells #[.int .i64 d.th,.int .i64 d.sn,.int .i64 d.no,.int .i64 d.ch,.int .i64 d.re,.int .i64 d.fa,.int .u64 d.cl] 29)).made (.cells #[.int .i64 pg.az,.slice a n cap,.string pg.hi,.bool o,.int .u64 pg.ri] 43);rw[World.size_alloc]at hs;have hs:=hs.cD (T:=139) (size:=4);go_enter Tryz.func89,Tryz.ntmps89
 go_wp2
 go_loopw [14,7] (fun v14 v7 wr=>∃ (k:Nat),k<=n/\v14=.int .i64 k/\St K wr (ak v7 139 4 k (ck (fS d id 0 (pg.sl.take k)))::blk (w.heap.size+1) (.cells #[.int .i64 pg.az,.slice a n cap,.string pg.hi,.bool o,.int .u64 pg.ri] 43)::blk w.heap.size (.cells #[.int .i64 d.th,.int .i64 d.sn,.int .i64 d.no,.int .i64 d.ch,.int .i64 d.re,.int .i64 d.fa,.int .u64 d.cl] 29)::ak (.slice a n cap) 69 2 n (aD pg.sl)::F)) (fun v _ _=>n-(intOf v).toNat)
 case atStart=>exact⟨0,by omega,rfl,hs⟩
 case round=>
  clear hs;obtain⟨k,hk,rfl,hs⟩:=hrel;by_cases hlt:k<n
  ·have hl':k<pg.sl.length:=by rw[← Hn.out];exact hlt
   have fj:=(hs.b3).cN (by rw[← Hn.out];omega)
   obtain⟨b1,off1,rfl,_,c0,c1⟩:=fj.2 k pg.sl[k] (aqt hl');have hnext:ck (fS d id 0 (pg.sl.take (k+1)))=ck (fS d id 0 (pg.sl.take k))++[.int .i64 (d.slot id (k:Int)),.int .u64 pg.sl[k].r,.string pg.sl[k].k,.int .u64 0]:=by
    rw[List.take_succ_eq_append_getElem hl',uj,iH,Nat.zero_add,List.length_take,Nat.min_eq_left (by omega)]
    rfl
   have Hx:=aqo hnext;generalize pg.sl[k]=u at *;generalize ck (fS d id 0 (pg.sl.take k))=xs at *;have kl:=hs.k2;clear hl' fj hnext;obtain⟨a7,c7,rfl,_,_⟩:=hs.aF;have hs:=hs.made (.cells #[.string u.k,.int .u64 u.r] 69);go_upto_region 5 with(fail)
   refine cR hs ?_
   clear hs c0 c1 kl;intro W hs;have Hs:=aqo hs;clear hs;refine eI _ 10 ?aS 30 (.cells #[.int .i64 (d.slot id (k:Int)),.int .u64 u.r,.string u.k,.int .u64 0] 139) (fun W=> .slice (some ⟨W.heap.size,0,none⟩) 1 1) rfl rfl (by kernel_rfl) ?hB rfl (fun _ _ _ _ h=>h) ?H ?xJ ?Ah
   case H=>
    intro W2 hb;have hs:=Hs.out.same hb;have kx:=hs.k0;have kl:=hs.b3.k0;simp only[List.take_succ_cons,List.take_zero,List.drop_succ_cons,List.drop_zero,Act.put,List.setIfInBounds_toArray,List.set_cons_zero,List.set_cons_succ,Act.eval];repeat (go_big_quiet_step ((go_at_call 127;exact aW (Qs.out _ _))))
    refine wpQuiet_nil ?_
    rfl
   case hB=>as_aux_lemma=>kernel_rfl
   case xJ=>
    intro w';kernel_rfl
   case Ah=>
    intro w0 w5 hb0 hb5;have hs:=((Hs.out.same hb0).made (.cells [.int .i64 (d.slot id (k:Int)),.int .u64 u.r,.string u.k,.int .u64 0].toArray 139)).same (by rw[World.size_alloc];exact hb5)
    have hk:=hs.k0;have Hw:=aqo (fun(j:Nat) (x:Value) (hu:[Value.int .i64 (d.slot id (k:Int)),.int .u64 u.r,.string u.k,.int .u64 0][j]?=some x)=>(show ∃ g off,(some ⟨w0.heap.size,0,none⟩:Option Addr)=some ⟨g,off,none⟩/\w5.cell? ⟨g,off+j,none⟩=some x from⟨_,0,rfl,by rw[Nat.zero_add,hk j];simpa using hu⟩))
    clear hk;have Hr:=aqo hs.b2;clear hs;simp only[List.drop_succ_cons,List.drop_zero];refine cF _ _ 137 139 _ k 1 1 4 40 xs [.int .i64 (d.slot id (k:Int)),.int .u64 u.r,.string u.k,.int .u64 0] (.agg #[.int .i64 0,.int .u64 0,.string ⟨#[]⟩,.int .u64 0]) iv (some ⟨w0.heap.size,0,none⟩) Hr.out rfl rfl Tryz.underlying137 cZ dc dg dh rfl (by decide) rfl rfl rfl (fun e=>by cases e) Hw.out (fun x hu=>by simp at hu;rcases hu with rfl|rfl|rfl|rfl <;> rfl) (by omega) (by decide) ?_
    clear Hr Hw;intro v' w6 hs;rw[← Hx.out]at hs;go_wp2
    go_roundw
    case rel=>exact⟨k+1,by omega,by go_num,hs.bV.bV⟩
    case measure=>simp[intOf];omega
  ·obtain rfl:k=n:=by omega
   have lJ:pg.sl.take k=pg.sl:=List.take_of_length_le (by rw[← Hn.out];exact Nat.le_refl _)
   rw[lJ]at hs;obtain⟨xs,hxs⟩:∃ xs,xs=ck (fS d id 0 pg.sl):=⟨_,rfl⟩;rw[← hxs]at hs;have Hxs:=aqo hxs.symm;clear hxs lJ hlt hk;have kp:=hs.k1;obtain⟨a7,c7,rfl,_,_⟩:=hs.aF;have kq:=fun(x:Obj)=>(hs.made x).k2
   cases o with
   | true=>
    have hs:=hs.made (.cells #[.int .u64 0,.string ⟨#[]⟩,.int .u64 1] 63);have dG:ck (bN d id pg)=xs++[.int .i64 (d.node id 2),.int .u64 0,.string ⟨#[]⟩,.int .u64 1,.int .i64 (d.node id 3),.int .u64 pg.ri,.string ⟨#[]⟩,.int .u64 0,.int .i64 (d.node id 1),.int .u64 k,.string ⟨#[]⟩,.int .u64 pg.az]/\(bN d id pg).length=k+3:=by
     unfold bN mr;rw[← Ho.out,iH,Hxs.out,← Hn.out];exact⟨rfl,by simp[eQ,← Hn.out]⟩
    have Hf:=aqo dG;clear dG;go_upto_region 10 with(fail)
    refine cR hs ?_
    clear hs kp kq;intro W hs;have Hs:=aqo hs;clear hs;refine eI _ 24 ?aSt 64 (.cells [.int .i64 (d.node id 2),.int .u64 0,.string ⟨#[]⟩,.int .u64 1,.int .i64 (d.node id 3),.int .u64 pg.ri,.string ⟨#[]⟩,.int .u64 0,.int .i64 (d.node id 1),.int .u64 k,.string ⟨#[]⟩,.int .u64 pg.az].toArray 139) (fun W=> .slice (some ⟨W.heap.size,0,none⟩) 3 3) rfl rfl (by kernel_rfl) ?hBt rfl (fun _ _ _ _ h=>h) ?Ht ?halt ?Aht
    case Ht=>
     intro W2 hb;have hs:=Hs.out.same hb;have kx:=hs.k0;have kp:=hs.k2;have kl:=hs.b3.k0;simp only[List.take_succ_cons,List.take_zero,List.drop_succ_cons,List.drop_zero,Act.put,List.setIfInBounds_toArray,List.set_cons_zero,List.set_cons_succ,Act.eval];repeat (go_big_quiet_step (first|(go_at_call 112;exact aW (Qh.out _))|(go_at_call 128;exact aW (Qr.out _))|(go_at_call 129;exact aW (Q1.out _))))
     refine wpQuiet_nil ?_
     rfl
    case hBt=>as_aux_lemma=>kernel_rfl
    case halt=>
     intro w';kernel_rfl
    case Aht=>
     intro w0 w5 hb0 hb5;have hs:=((Hs.out.same hb0).made (.cells [.int .i64 (d.node id 2),.int .u64 0,.string ⟨#[]⟩,.int .u64 1,.int .i64 (d.node id 3),.int .u64 pg.ri,.string ⟨#[]⟩,.int .u64 0,.int .i64 (d.node id 1),.int .u64 k,.string ⟨#[]⟩,.int .u64 pg.az].toArray 139)).same (by rw[World.size_alloc];exact hb5)
     have hk:=hs.k0;have Hw:=aqo (fun(j:Nat) (x:Value) (hu:([.int .i64 (d.node id 2),.int .u64 0,.string ⟨#[]⟩,.int .u64 1,.int .i64 (d.node id 3),.int .u64 pg.ri,.string ⟨#[]⟩,.int .u64 0,.int .i64 (d.node id 1),.int .u64 k,.string ⟨#[]⟩,.int .u64 pg.az]:List Value)[j]?=some x)=>(show ∃ g off,(some ⟨w0.heap.size,0,none⟩:Option Addr)=some ⟨g,off,none⟩/\w5.cell? ⟨g,off+j,none⟩=some x from⟨_,0,rfl,by rw[Nat.zero_add,hk j];simpa using hu⟩))
     clear hk;have Hr:=aqo hs.b2;clear hs;simp only[List.drop_succ_cons,List.drop_zero];refine cF _ _ 137 139 _ k 3 3 4 40 xs [.int .i64 (d.node id 2),.int .u64 0,.string ⟨#[]⟩,.int .u64 1,.int .i64 (d.node id 3),.int .u64 pg.ri,.string ⟨#[]⟩,.int .u64 0,.int .i64 (d.node id 1),.int .u64 k,.string ⟨#[]⟩,.int .u64 pg.az] (.agg #[.int .i64 0,.int .u64 0,.string ⟨#[]⟩,.int .u64 0]) iv (some ⟨w0.heap.size,0,none⟩) Hr.out rfl rfl Tryz.underlying137 cZ dc dg dh rfl (by decide) rfl rfl rfl (fun e=>by cases e) Hw.out (fun x hu=>by simp at hu;rcases hu with rfl|rfl|rfl|rfl|rfl|rfl|rfl|rfl|rfl|rfl|rfl|rfl <;> rfl) (by omega) (by decide) ?_
     clear Hr Hw;intro v' w6 hs;go_wp2
     go_ret;exact⟨_,rfl,by rw[Hf.out.1,Hf.out.2];exact hs.bV.bV.bV.bV⟩
   | false=>
    have hs:=hs.made (.cells #[.int .u64 0,.string pg.hi,.int .u64 0] 63);have dG:ck (bN d id pg)=xs++[.int .i64 (d.node id 2),.int .u64 0,.string pg.hi,.int .u64 0,.int .i64 (d.node id 3),.int .u64 pg.ri,.string ⟨#[]⟩,.int .u64 0,.int .i64 (d.node id 1),.int .u64 k,.string ⟨#[]⟩,.int .u64 pg.az]/\(bN d id pg).length=k+3:=by
     unfold bN mr;rw[← Ho.out,iH,Hxs.out,← Hn.out];exact⟨rfl,by simp[eQ,← Hn.out]⟩
    have Hf:=aqo dG;clear dG;go_upto_region 10 with(fail)
    refine cR hs ?_
    clear hs kp kq;intro W hs;have Hs:=aqo hs;clear hs;refine eI _ 24 ?aSf 64 (.cells [.int .i64 (d.node id 2),.int .u64 0,.string pg.hi,.int .u64 0,.int .i64 (d.node id 3),.int .u64 pg.ri,.string ⟨#[]⟩,.int .u64 0,.int .i64 (d.node id 1),.int .u64 k,.string ⟨#[]⟩,.int .u64 pg.az].toArray 139) (fun W=> .slice (some ⟨W.heap.size,0,none⟩) 3 3) rfl rfl (by kernel_rfl) ?hBf rfl (fun _ _ _ _ h=>h) ?Hf ?half ?Ahf
    case Hf=>
     intro W2 hb;have hs:=Hs.out.same hb;have kx:=hs.k0;have kp:=hs.k2;have kl:=hs.b3.k0;simp only[List.take_succ_cons,List.take_zero,List.drop_succ_cons,List.drop_zero,Act.put,List.setIfInBounds_toArray,List.set_cons_zero,List.set_cons_succ,Act.eval];repeat (go_big_quiet_step (first|(go_at_call 112;exact aW (Qh.out _))|(go_at_call 128;exact aW (Qr.out _))|(go_at_call 129;exact aW (Q1.out _))))
     refine wpQuiet_nil ?_
     rfl
    case hBf=>as_aux_lemma=>kernel_rfl
    case half=>
     intro w';kernel_rfl
    case Ahf=>
     intro w0 w5 hb0 hb5;have hs:=((Hs.out.same hb0).made (.cells [.int .i64 (d.node id 2),.int .u64 0,.string pg.hi,.int .u64 0,.int .i64 (d.node id 3),.int .u64 pg.ri,.string ⟨#[]⟩,.int .u64 0,.int .i64 (d.node id 1),.int .u64 k,.string ⟨#[]⟩,.int .u64 pg.az].toArray 139)).same (by rw[World.size_alloc];exact hb5)
     have hk:=hs.k0;have Hw:=aqo (fun(j:Nat) (x:Value) (hu:([.int .i64 (d.node id 2),.int .u64 0,.string pg.hi,.int .u64 0,.int .i64 (d.node id 3),.int .u64 pg.ri,.string ⟨#[]⟩,.int .u64 0,.int .i64 (d.node id 1),.int .u64 k,.string ⟨#[]⟩,.int .u64 pg.az]:List Value)[j]?=some x)=>(show ∃ g off,(some ⟨w0.heap.size,0,none⟩:Option Addr)=some ⟨g,off,none⟩/\w5.cell? ⟨g,off+j,none⟩=some x from⟨_,0,rfl,by rw[Nat.zero_add,hk j];simpa using hu⟩))
     clear hk;have Hr:=aqo hs.b2;clear hs;simp only[List.drop_succ_cons,List.drop_zero];refine cF _ _ 137 139 _ k 3 3 4 40 xs [.int .i64 (d.node id 2),.int .u64 0,.string pg.hi,.int .u64 0,.int .i64 (d.node id 3),.int .u64 pg.ri,.string ⟨#[]⟩,.int .u64 0,.int .i64 (d.node id 1),.int .u64 k,.string ⟨#[]⟩,.int .u64 pg.az] (.agg #[.int .i64 0,.int .u64 0,.string ⟨#[]⟩,.int .u64 0]) iv (some ⟨w0.heap.size,0,none⟩) Hr.out rfl rfl Tryz.underlying137 cZ dc dg dh rfl (by decide) rfl rfl rfl (fun e=>by cases e) Hw.out (fun x hu=>by simp at hu;rcases hu with rfl|rfl|rfl|rfl|rfl|rfl|rfl|rfl|rfl|rfl|rfl|rfl <;> rfl) (by omega) (by decide) ?_
     clear Hr Hw;intro v' w6 hs;go_wp2
     go_ret;exact⟨_,rfl,by rw[Hf.out.1,Hf.out.2];exact hs.bV.bV.bV.bV⟩
end
open Go.RowKit Go.Maps
theorem nY:Maps.Keyed Tryz.prog 139:=Maps.Keyed.of_law (deep_law_laid (by kernel_rfl) (m:=3) (by omega) (of_decide_eq_true (by kernel_rfl)) (by kernel_rfl) (by kernel_rfl))
structure x8 (p:Pt):Prop where
 i:(Lit.int .i64 p.i).wf=true
 n:(Lit.int .u64 p.c.n).wf=true
 k:p.c.k.size<=maxLen
 m:(Lit.int .u64 p.c.m).wf=true
def Jn (p:Pt):Value:= .agg #[.int .i64 p.i,.int .u64 p.c.n,.string p.c.k,.int .u64 p.c.m]
theorem Wq {p q:Pt}(h:Jn p=Jn q):p=q:=by
 obtain⟨i,n,k,m⟩:=p;obtain⟨i',n',k',m'⟩:=q;simp[Jn]at h;obtain⟨rfl,rfl,rfl,rfl⟩:=h;rfl
theorem Jo {p:Pt}(h:x8 p):∃ kl,keyOf Tryz.prog 139 (Jn p)=some kl:=by
 have e0:Tryz.prog.keyType 139=true:=by kernel_rfl
 have e1:(Jn p).formed Tryz.prog 139=true:=by
  unfold Jn Value.formed;rw[Tryz.underlying139];simp only;kernel_rfl
 have hsz:139<Tryz.prog.types.size:=of_decide_eq_true (by kernel_rfl)
 obtain⟨d,hd⟩:∃ d,Tryz.prog.types.size=d+2:=⟨Tryz.prog.types.size-2,by omega⟩
 have c0:Tryz.prog.cellsOf 139=4:=by kernel_rfl
 have c1:Tryz.prog.cellsOf 3=1:=by kernel_rfl
 have c2:Tryz.prog.cellsOf 63=3:=by kernel_rfl
 have c3:Tryz.prog.cellsOf 23=1:=by kernel_rfl
 have c4:Tryz.prog.cellsOf 9=1:=by kernel_rfl
 have h0:=h.i;have h1:=h.n;have h2:=h.k;have h3:=h.m;unfold keyOf;rw[Tryz.underlying139];simp only[e0,e1,Bool.and_self,if_true,hd];simp[Program.keyLits,Jn,Value.cells,Tryz.underlying139,Tryz.underlying3,Tryz.underlying63,Tryz.underlying23,Tryz.underlying9,c0,c1,c2,c3,c4,h0,h1,h2,h3];rw[if_pos (fun i hi=>by rcases(show i=0\/i=1\/i=2 by omega)with rfl|rfl|rfl <;> simp)]
 exact⟨_,rfl⟩
abbrev UH:=Unit
def adO (w:World)(b:Nat)(S:List Pt):Prop:=
 ∃ (n:Nat) (D:DataW UH),n<=S.length/\w.ownsMap Tryz.prog 139 (plainElem Tryz.prog 4) b n D /\
  ∀ p kl,x8 p->keyOf Tryz.prog 139 (Jn p)=some kl->(p∈S->D.atKey kl (.lit (.bool false))=.lit (.bool true))/\(p ∉ S->D.atKey kl (.lit (.bool false))=.lit (.bool false))
theorem x9 {w w':World}{b n:Nat}{D:DataW UH}(h:w.ownsMap Tryz.prog 139 (plainElem Tryz.prog 4) b n D)(hb:w'.heap[b]?=w.heap[b]?):w'.ownsMap Tryz.prog 139 (plainElem Tryz.prog 4) b n D:=by
 obtain⟨es,clock,h1,F,hs,hD⟩:=h;exact⟨es,clock,by rw[hb];exact h1,F,hs,hD⟩
def lg (b:Nat)(S:List Pt):aB where
 foot:=[b]
 ok:=fun w=>adO w b S
 loc:=fun w w' h ⟨n,D,hn,ho,hk⟩=>⟨n,D,hn,x9 ho (h b (by simp)),hk⟩
 dom:=fun w ⟨n,D,hn,ho,hk⟩ b' hb=>by simp at hb;subst hb;exact ho.lt
section
variable {K:aK}{w:World}{F:List aB}{b:Nat}{S:List Pt}{p:Pt}
theorem St.Gc (h:St K w F):St K (w.alloc (.map #[] 0)) (lg w.heap.size []::F):=by
 refine St.y7 (ms:=[]) (ms' := [lg w.heap.size []]) (F:=F) h ((eG.refl _ _).alloc _) (fun c hc=>?_) (fun b hb=>?_) (by simp[cQ,lg])
 ·simp at hc;subst hc
  exact⟨0,.map [],Nat.le_refl _,World.ownsMap_made w _ _ _,fun p kl _ _=>⟨fun h=>by simp at h,fun _=>rfl⟩⟩
 ·simp[cQ,lg]at hb;subst hb;exact .inr (Nat.le_refl _)
theorem p7 {v:Value}{x:Bool}{ps:List MemPlace}(h:plainElem (H:=UH) Tryz.prog 4 v=some (.lit (.bool x),ps)):v=.bool x:=by
 cases v with
 | bool y=>
  simp[plainElem,Tryz.underlying4]at h;rw[h.1]
 | _=>simp[plainElem,Tryz.underlying4]at h
theorem St.Gd (h:St K w (lg b S::F))(hp:x8 p):∃ x:Bool,(Instr.lookup 146 (.map (some b)) (Jn p) false).run Tryz.prog w=.ok (.bool x) w/\(x=true↔p∈S):=by
 obtain⟨n,D,hn,ho,hk⟩:=h.head;obtain⟨kl,qQ⟩:=Jo hp;obtain⟨v,ps,hrun,hv⟩:=ho.lookup nY Tryz.underlying146 (z:= .bool false) (by simp[go_sem]) (plainElem_bool Tryz.underlying4 false) qQ
 obtain⟨h1,h2⟩:=hk p kl hp qQ;by_cases hin:p∈S
 ·rw[h1 hin]at hv
  rw[p7 hv]at hrun;exact⟨true,hrun,by simp[hin]⟩
 ·rw[h2 hin]at hv
  rw[p7 hv]at hrun;exact⟨false,hrun,by simp[hin]⟩
theorem St.Mi (h:St K w (lg b S::F))(hp:x8 p)(hS:S.length<1000000):∃ w',(Instr.mapUpdate 146 (.map (some b)) (Jn p) (.bool true)).run Tryz.prog w=.ok () w' /\ St K w' (lg b (p::S)::F):=by
 obtain⟨n,D,hn,ho,hk⟩:=h.head;obtain⟨kl,qQ⟩:=Jo hp;obtain⟨w',hrun,ho',hg⟩:=ho.update nY Tryz.underlying146 (by unfold maxLen;omega) qQ (plainElem_bool Tryz.underlying4 true)
 refine⟨w',hrun,h.Ej (c' := lg b (p::S)) ⟨hg.os,hg.tape,hg.output,hg.size,fun k hk hn=>hg.block k hk (fun e=>hn ?_)⟩ ⟨n+1,_,by simp;omega,ho',fun q kq hq hkq=>?_⟩ rfl⟩
 ·simp[lg];exact aqu e
 ·by_cases hkk:kq=kl
  ·subst hkk
   have e:Jn q=Jn p:=nY.inj hkq qQ;have e2:=Wq e;subst e2;refine⟨fun _=>atKey_put_same ho.isMap (nY.key qQ) _ _,fun hn=>absurd (List.mem_cons_self) hn⟩
  ·have hne:q≠p:=fun e=>by
    subst e;rw[qQ]at hkq;exact hkk (aqu hkq).symm
   rw[atKey_put_other hkk];obtain⟨h1,h2⟩:=hk q kq hq hkq;exact⟨fun hin=>h1 (by simpa[hne] using hin),fun hin=>h2 (by simpa[hne] using hin)⟩
theorem ya {ops:Array Oper}{rest:List Oper}{o:Oper}{a:Act}{Q:Exit->Act->World->Prop}(hs:St K w (lg b S::F))(hp:x8 p)(hS:S.length<1000000)
  (hg:o.guard=none) (m x v:Operand) (hop:o.op=Op.mapUpdate 146 m x v) (hm:a.eval m=.map (some b)) (hx:a.eval x=Jn p) (hv:a.eval v=.bool true)
  (hK:∀ w',St K w' (lg b (p::S)::F)->wpList Tryz.prog ops Q rest (a.put o.dst undef) w'):wpList Tryz.prog ops Q (o::rest) a w:=by
 refine wpList_plain hg fun K' hK' =>?_
 obtain⟨w',hrun,r1⟩:=hs.Mi hp hS;unfold Oper.wp;simp[execOp,hop,hm,hx,hv,hrun,Result.andThen];exact hK' _ _ (hK w' r1)
end
def dY (b:Nat):Option FV:=some ⟨130, #[.pointer (some ⟨b,0,none⟩)], #[]⟩
def dx (nx pv:Value)(id word:Int)(pg:Pg)(va:Value):List Value:=[nx,.bool true,pv,.int .u64 id,.int .u64 word,.int .i64 (pg).az,va,.string (pg).hi,.bool (pg).la,.int .u64 (pg).ri]
section
variable {K:aK}{w:World}{F:List aB}{pg:Pg}{id word:Int}
theorem p8 {ap ag:Option Addr}{np cp ns cs:Nat}(hs:St K w F) :
  Calls Tryz.prog 90 #[.slice ap np cp,.agg #[.int .u64 id,.int .u64 word,.int .i64 (pg).az,(.slice ag ns cs),.string (pg).hi,.bool (pg).la,.int .u64 (pg).ri]] w fun e w' => ∃ b,e=.returned (.pointer (some ⟨b,0,none⟩)) /\
   St K w' (blk b (.cells (dx (aX (dY b)) (.slice ap np cp) id word pg (.slice ag ns cs)).toArray 149)::F):=by
 have hs:=hs.pass (.cells #[.int .u64 id,.int .u64 word,.int .i64 (pg).az,(.slice ag ns cs),.string (pg).hi,.bool (pg).la,.int .u64 (pg).ri] 45);have hs:=hs.made (.cells #[.nilFunc,.bool false,.slice ap np cp,.int .u64 id,.int .u64 word,.int .i64 (pg).az,(.slice ag ns cs),.string (pg).hi,.bool (pg).la,.int .u64 (pg).ri] 149);rw[World.size_alloc]at hs;go_enter Tryz.func90,Tryz.ntmps90
 go_wp2_with fail
 refine(bE hs (fk _ _ _ _)).mono ?_
 clear hs;rintro e w2 ⟨rfl,hs⟩;have k:=hs.k0;have kf:=hs.f0;have hs:=(hs.aI 0 (.func (.func 130) #[.pointer (some ⟨(w.heap.size+1),0,none⟩)] #[])).aI 1 (.bool true);simp only[List.set_cons_zero,List.set_cons_succ]at hs;go_wp2
 go_ret;exact⟨_,rfl,hs⟩
theorem yb {b bm bc g off m c acc:Nat}{L:List aP}{nx va:Value}{p:Pt}(hm:1<=m)(hmc:m<=c)(ha:acc<=1000000000000)
  (hc0:w.cell? ⟨g,off,none⟩=some (.int .i64 p.i)) (hc1:w.cell? ⟨g,off+1,none⟩=some (.int .u64 p.c.n)) (hc4:w.cell? ⟨g,off+2,none⟩=some (.string p.c.k)) (hc3:w.cell? ⟨g,off+3,none⟩=some (.int .u64 p.c.m))
  (hs:St K w (blk b (.cells (dx nx (.slice (some ⟨g,off,none⟩) m c) id word pg va).toArray 149)::aJ bm bc L acc::F)) :
  Calls Tryz.prog 130 #[.pointer (some ⟨b,0,none⟩),.pointer (some ⟨bm,0,none⟩)] w fun e w' => e=.returned (aX (if m=1 then none else dY b)) /\
   St K w' (blk b (.cells (dx nx (.slice (some ⟨g,if c=1 then off else off+4,none⟩) (m-1) (c-1)) id word pg va).toArray 149)::aJ bm bc (aN L p.i p.c) (acc+1)::F):=by
 rcases(show(c=1/\m=1)\/(c≠1/\m=1)\/(c≠1/\m≠1)by omega)with⟨rfl,rfl⟩|⟨hx,rfl⟩|⟨hx,hy⟩
 ·simp only[if_true]
  have k:=hs.k0;have kf:=hs.f0;have hs:=hs.made (.cells #[.int .i64 p.i,.int .u64 p.c.n,.string p.c.k,.int .u64 p.c.m] 139);unfold dx at k;go_enter Tryz.func130,Tryz.ntmps130
  go_upto_region 2 with(fail)
  refine cR hs ?_
  clear hs k kf hc0 hc1 hc4 hc3;generalize w.heap.size=bn;intro W hs;have k:=hs.k1;have kf:=hs.f1;unfold dx at k;have hs:=hs.b1.aI 2 (.slice (some ⟨g,off,none⟩) 0 0);simp only[dx,List.set_cons_zero,List.set_cons_succ]at hs;go_upto_region 3 with(fail)
  refine cR hs ?_
  clear hs k kf;intro W2 hs;have kn:=hs.k1;go_wp2_with fail
  refine(mZ (i:=p.i) (c:=p.c) hs.b2 (by omega)).mono ?_
  clear hs kn;rintro e w3 ⟨rfl,hs⟩;have k:=hs.k1;have hs:=hs.b1.b2.tail;go_wp2
  go_ret;exact⟨rfl,hs⟩
 ·have hc2:1<=c:=by omega
  simp only[if_true];rw[if_neg hx];have k:=hs.k0;have kf:=hs.f0;have hs:=hs.made (.cells #[.int .i64 p.i,.int .u64 p.c.n,.string p.c.k,.int .u64 p.c.m] 139);unfold dx at k;go_enter Tryz.func130,Tryz.ntmps130
  go_upto_region 2 with(fail)
  refine cR hs ?_
  clear hs k kf hc0 hc1 hc4 hc3;generalize w.heap.size=bn;intro W hs;have k:=hs.k1;have kf:=hs.f1;unfold dx at k;have hs:=hs.b1.aI 2 (.slice (some ⟨g,off+4,none⟩) 0 (c-1));simp only[dx,List.set_cons_zero,List.set_cons_succ]at hs;go_upto_region 3 with(fail)
  refine cR hs ?_
  clear hs k kf;intro W2 hs;have kn:=hs.k1;go_wp2_with fail
  refine(mZ (i:=p.i) (c:=p.c) hs.b2 (by omega)).mono ?_
  clear hs kn;rintro e w3 ⟨rfl,hs⟩;have k:=hs.k1;have hs:=hs.b1.b2.tail;go_wp2
  go_ret;exact⟨rfl,hs⟩
 ·have hc2:1<=c:=by omega
  rw[if_neg hx,if_neg hy];have k:=hs.k0;have kf:=hs.f0;have hs:=hs.made (.cells #[.int .i64 p.i,.int .u64 p.c.n,.string p.c.k,.int .u64 p.c.m] 139);unfold dx at k;go_enter Tryz.func130,Tryz.ntmps130
  go_upto_region 2 with(fail)
  refine cR hs ?_
  clear hs k kf hc0 hc1 hc4 hc3;generalize w.heap.size=bn;intro W hs;have k:=hs.k1;have kf:=hs.f1;unfold dx at k;have hs:=hs.b1.aI 2 (.slice (some ⟨g,off+4,none⟩) (m-1) (c-1));simp only[dx,List.set_cons_zero,List.set_cons_succ]at hs;go_upto_region 3 with(fail)
  refine cR hs ?_
  clear hs k kf;intro W2 hs;have kn:=hs.k1;go_wp2_with fail
  refine(mZ (i:=p.i) (c:=p.c) hs.b2 (by omega)).mono ?_
  clear hs kn;rintro e w3 ⟨rfl,hs⟩;have k:=hs.k1;have hs:=hs.b1.b2.tail;go_wp2
  go_ret;exact⟨rfl,hs⟩
end
theorem yc:Enters 130:=fun _ _=>rfl
def mz (b:Nat)(id word:Int)(pg:Pg)(va:Value)(g cap:Nat)(ps:List Pt)(k:Nat):aB where
 foot:=[b]
 ok:=fun w=>∃ pv,(k<ps.length->pv=.slice (some ⟨g,k*4,none⟩) (ps.length-k) (cap-k))/\w.heap[b]?=some (.cells (dx (aX (if k<ps.length then dY b else none)) pv id word pg va).toArray 149)
 loc:=by
  rintro w w' h ⟨pv,h1,h2⟩;exact⟨pv,h1,by rw[h b (by simp)];exact h2⟩
 dom:=by
  rintro w ⟨pv,h1,h2⟩ b' hb;simp at hb;subst hb;exact gY h2
section
variable {K:aK}{w:World}{F:List aB}{pg:Pg}{id word:Int}{b g cap k bm bc acc:Nat}{va:Value}{ps:List Pt}{L:List aP}
theorem St.Jp (h:St K w (mz b id word pg va g cap ps k::F)):∃ pv,(k<ps.length->pv=.slice (some ⟨g,k*4,none⟩) (ps.length-k) (cap-k))/\St K w (blk b (.cells (dx (aX (if k<ps.length then dY b else none)) pv id word pg va).toArray 149)::F):=by
 obtain⟨pv,h1,h2⟩:=h.head;exact⟨pv,h1,h.Ej (c' := blk b (.cells (dx (aX (if k<ps.length then dY b else none)) pv id word pg va).toArray 149)) (eG.refl _ _) h2 rfl⟩
theorem St.p9 {pv:Value}(h:St K w (blk b (.cells (dx (aX (if k<ps.length then dY b else none)) pv id word pg va).toArray 149)::F))(hp:k<ps.length->pv=.slice (some ⟨g,k*4,none⟩) (ps.length-k) (cap-k)):St K w (mz b id word pg va g cap ps k::F):=
 h.Ej (c' := mz b id word pg va g cap ps k) (eG.refl _ _) ⟨pv,hp,h.head⟩ rfl
theorem Be {p:Pt}(hk:ps[k]?=some p)(ha:acc<=1000000000000)
  (hs:St K w (mz b id word pg va g cap ps k::aJ bm bc L acc::ak (.slice (some ⟨g,0,none⟩) ps.length cap) 139 4 ps.length (ck ps)::F)) :
  Calls Tryz.prog 77 #[.pointer (some ⟨b,0,none⟩),.pointer (some ⟨bm,0,none⟩)] w fun e w' => e=.returned (.bool (decide (k+1=ps.length))) /\
   St K w' (mz b id word pg va g cap ps (k+1)::aJ bm bc (aN L p.i p.c) (acc+1)::ak (.slice (some ⟨g,0,none⟩) ps.length cap) 139 4 ps.length (ck ps)::F):=by
 have hlt:k<ps.length:=(aqq.1 hk).1;obtain⟨pv,hpv,hs⟩:=hs.Jp;rw[if_pos hlt]at hs;have hpv:=hpv hlt;subst hpv;obtain⟨_,cap',hv,hle,_⟩:=hs.b2.aF;have hcap:ps.length<=cap:=by
  have e:cap=cap' := by injection hv
  omega
 obtain⟨r0,r1,r2,r3⟩:=ld ps k p hk;have q:=yb (off:=k*4) (m:=ps.length-k) (c:=cap-k) (p:=p) (by omega) (by omega) ha (hs.b2.bJ r0) (hs.b2.bJ r1) (hs.b2.bJ r2) (hs.b2.bJ r3) hs
 have hc:w.cell? ⟨b,0,none⟩=some (aX (dY b)):=hs.k0 0;refine(lR (α:=Unit) (m:=bm) (f:=⟨130, #[.pointer (some ⟨b,0,none⟩)], #[]⟩) (o:=if ps.length-k=1 then none else dY b) (nx:=aX (dY b))
  (tl:=fun _=>(dx (aX (dY b)) (.slice (some ⟨g,if cap-k=1 then k*4 else k*4+4,none⟩) (ps.length-k-1) (cap-k-1)) id word pg va).tail) (T:=149)
  (F' := fun _=>aJ bm bc (aN L p.i p.c) (acc+1)::ak (.slice (some ⟨g,0,none⟩) ps.length cap) 139 4 ps.length (ck ps)::F) yc hc (q.mono fun e w1 ⟨he,h⟩=>⟨(),he,h⟩)).mono ?_
 rintro e w' ⟨_,rfl,hs⟩;refine⟨?_,?_⟩
 ·by_cases h1:ps.length-k=1
  ·rw[if_pos h1,decide_eq_true (by omega)];rfl
  ·rw[if_neg h1,decide_eq_false (by omega)];rfl
 ·have e:(if ps.length-k=1 then none else dY b)=(if k+1<ps.length then dY b else none):=by
   by_cases h1:ps.length-k=1
   ·rw[if_pos h1,if_neg (by omega)]
   ·rw[if_neg h1,if_pos (by omega)]
  rw[e]at hs;exact hs.p9 (fun h=>by rw[if_neg (by omega),show(k+1)*4=k*4+4 by omega,show ps.length-(k+1)=ps.length-k-1 by omega,show cap-(k+1)=cap-k-1 by omega])
theorem ye {p:Pt}{bw:Nat}(hk:ps[k]?=some p)(ha:acc<=1000000000000)
  (hs:St K w (mz b id word pg va g cap ps k::aJ bm bc L acc::ak (.slice (some ⟨g,0,none⟩) ps.length cap) 139 4 ps.length (ck ps)::blk bw (.cells #[.pointer (some ⟨b,0,none⟩)] 147)::F)) :
  Calls Tryz.prog 41 #[.pointer (some ⟨bw,0,none⟩),.pointer (some ⟨bm,0,none⟩)] w fun e w' => e=.returned (.bool (decide (k+1=ps.length))) /\
   St K w' (mz b id word pg va g cap ps (k+1)::aJ bm bc (aN L p.i p.c) (acc+1)::ak (.slice (some ⟨g,0,none⟩) ps.length cap) 139 4 ps.length (ck ps)::blk bw (.cells #[.pointer (some ⟨b,0,none⟩)] 147)::F):=by
 have Q:=aqo (Be hk ha hs);have kw:=hs.b3.k0;clear hs;go_enter Tryz.func41,Tryz.ntmps41
 go_wp2_with fail
 refine(Q.out).mono ?_
 rintro e w1 ⟨rfl,hs⟩;go_wp2
 go_ret;exact⟨rfl,hs⟩
end
attribute [go_sem] run_makeMap
theorem iX {n:Int}(h0:0<=n)(h1:n<18446744073709551616):(Lit.int .u64 n).wf=true:=by
 simp[Lit.wf,IntKind.min,IntKind.max,IntKind.signed,IntKind.bits];omega
theorem Mj {n:Int}(h0 : -9223372036854775808<=n)(h1:n<=9223372036854775807):(Lit.int .i64 n).wf=true:=by
 simp[Lit.wf,IntKind.min,IntKind.max,IntKind.signed,IntKind.bits];omega
section
variable {d:aR}(hd:d.Ok){id:Int}
include hd
theorem sU {k:Int}(h1:1<=id)(h2:id<=d.no)(hk:0<=k)(hk2:k<d.fa+4):(Lit.int .i64 (d.node id k)).wf=true:=by
 have h:=bU hd h1 h2 hk hk2;have:=hd.dL;exact Mj (by omega) (by omega)
theorem Bf (h1:1<=id)(h2:id<=d.no):∀ (l:List Sl)(i:Nat),(i+l.length:Int)<=d.fa->(∀ s,s∈l->(0<=s.r/\s.r<18446744073709551616)/\s.k.size<=maxLen)->∀ p,p∈fS d id i l->x8 p
 | [],_,_,_,p,hp=>by simp[fS]at hp
 | s::l,i,hle,hr,p,hp=>by
  simp only[List.length_cons]at hle;rcases List.mem_cons.1 hp with h|h
  ·subst h
   obtain⟨r1,r2⟩:=hr s (by simp)
   have es:d.slot id i=d.node id (4+(i:Int)):=by
    unfold aR.slot;rw[if_pos ⟨by omega,by omega⟩]
   refine⟨?_,iX r1.1 r1.2,r2,(iX (n:=0) (by decide) (by decide):_)⟩
   show(Lit.int .i64 (d.slot id i)).wf=true
   rw[es];exact sU hd h1 h2 (by omega) (by omega)
  ·exact Bf h1 h2 l (i+1) (by omega) (fun s' hs' => hr s' (by simp[hs'])) p h
theorem Bg (h1:1<=id)(h2:id<=d.no){pg:Pg}(po:oM d pg)(cg:0<=pg.az/\pg.az<1000000):∀ p,p∈bN d id pg->x8 p:=by
 intro p hp;have f1:=hd.fw;have f2:=hd.mV;have hle:=po.le;have z:(Lit.int .u64 0).wf=true:=iX (by decide) (by decide)
 have e0:(⟨#[]⟩:ByteArray).size<=maxLen:=by show 0<=maxLen;omega
 rcases List.mem_append.1 hp with h|h
 ·exact Bf hd h1 h2 pg.sl 0 (by omega) (fun s hs=>⟨po.r s hs,po.k s hs⟩) p h
 ·simp only[List.mem_cons,List.not_mem_nil,or_false]at h
  rcases h with h|h|h
  ·subst h
   refine⟨sU hd h1 h2 (by omega) (by omega),?_,?_,?_⟩ <;> (simp only[mr];cases pg.la)
   ·exact z
   ·exact z
   ·exact po.hi
   ·exact e0
   ·exact z
   ·exact(iX (n:=1) (by decide) (by decide):_)
  ·subst h
   exact⟨sU hd h1 h2 (by omega) (by omega),iX po.ri.1 po.ri.2,e0,z⟩
  ·subst h
   exact⟨sU hd h1 h2 (by omega) (by omega),iX (by show(0:Int)<=pg.sl.length;omega) (by show(pg.sl.length:Int)<_;omega),e0,iX cg.1 (by show pg.az<_;omega)⟩
end
def lh (px py:List Pt)(mid:List Pt):Prop:=mid.Sublist py/\∀ p,p∈py->p ∉ px->p∈mid
theorem lh.nil (px:List Pt):lh px [] []:=⟨List.Sublist.refl _,fun p h=>by simp at h⟩
theorem lh.skip {px py mid:List Pt}{p:Pt}(h:lh px py mid)(hp:p∈px):lh px (py++[p]) mid:=
 ⟨h.1.trans (List.sublist_append_left _ _),fun q hq hn=>by
  rcases List.mem_append.1 hq with h1|h1
  ·exact h.2 q h1 hn
  ·simp at h1;subst h1;exact absurd hp hn⟩
theorem lh.take {px py mid:List Pt}{p:Pt}(h:lh px py mid):lh px (py++[p]) (mid++[p]):=
 ⟨List.Sublist.append h.1 (List.Sublist.refl _),fun q hq hn=>by
  rcases List.mem_append.1 hq with h1|h1
  ·exact List.mem_append_left _ (h.2 q h1 hn)
  ·exact List.mem_append_right _ h1⟩
def aaR (o:Option Value)(c0 c1:aB):aB:=match o with
 | some _=>c1
 | none=>c0
def nC (K:aK)(REST:List aB)(id word2:Int)(y:Pg)(jC:Option Addr)(c11 n:Nat)(xs lit:List Value)(ρ:Nat->Option Value)(W:World):Prop:=
 ∃ (b5:Nat) (a6:Option Addr) (c6:Nat) (aV:Option Addr) (cV mH bw:Nat),
  (∀ v,ρ 5=some v->v=.slice (some ⟨b5,0,none⟩) 1 1)/\(∀ v,ρ 6=some v->v=.slice a6 (n+1) c6)/\(∀ v,ρ 11=some v->v=.agg #[.int .i64 (y).az,(.slice aV y.sl.length cV),.string (y).hi,.bool (y).la,.int .u64 (y).ri]) /\
  (∀ v,ρ 12=some v->v=.agg #[.int .u64 id,.int .u64 word2,.int .i64 (y).az,(.slice aV y.sl.length cV),.string (y).hi,.bool (y).la,.int .u64 (y).ri])/\(∀ v,ρ 13=some v->v=.pointer (some ⟨mH,0,none⟩))/\(∀ v,ρ 14=some v->v=.agg #[.pointer (some ⟨mH,0,none⟩)])/\(∀ v,ρ 15=some v->v=.pointer (some ⟨bw,0,none⟩))/\(∀ v,ρ 16=some v->v=.pointer (some ⟨bw,0,none⟩)) /\
  St K W (dA (ρ 5) (blk b5 (.cells lit.toArray 139))::aaR (ρ 6) (ak (.slice jC n c11) 139 4 n xs) (ak (.slice a6 (n+1) c6) 139 4 (n+1) (xs++lit))::dA (ρ 11) (bq (.slice aV y.sl.length cV) y) ::
   dA (ρ 13) (blk mH (.cells (dx (aX (dY mH)) (.slice a6 (n+1) c6) id word2 y (.slice aV y.sl.length cV)).toArray 149))::dA (ρ 15) (blk bw (.cells #[.pointer (some ⟨mH,0,none⟩)] 147))::REST)
section
variable {K:aK}{W:World}{REST:List aB}{id word2:Int}{y:Pg}{jC ay:Option Addr}{c11 n cy:Nat}{xs lit:List Value}{ρ:Nat->Option Value}{v v5 v6 v11 v12 v13 v14 v15:Value}
theorem nC.start (hs:St K W (ak (.slice jC n c11) 139 4 n xs::REST)):nC K REST id word2 y jC c11 n xs lit (fun _=>none) W:=by
 refine⟨0,none,0,none,0,0,0,?_,?_,?_,?_,?_,?_,?_,?_,?_⟩;iterate 8 (intro v h;cases h)
 exact hs.empty.b1.empty.b1.empty.b1.empty
theorem nC.same {W':World}(h:nC K REST id word2 y jC c11 n xs lit ρ W)(hb:Below W.heap.size W W'):nC K REST id word2 y jC c11 n xs lit ρ W' := by
 obtain⟨b5,a6,c6,aV,cV,mH,bw,e1,e2,e3,e4,e5,e6,e7,e8,hs⟩:=h;exact⟨b5,a6,c6,aV,cV,mH,bw,e1,e2,e3,e4,e5,e6,e7,e8,hs.same hb⟩
theorem nC.rest (h:nC K REST id word2 y jC c11 n xs lit ρ W):St K W REST:=by
 obtain⟨b5,a6,c6,aV,cV,mH,bw,e1,e2,e3,e4,e5,e6,e7,e8,hs⟩:=h;exact hs.tail.tail.tail.tail.tail
theorem nC.e5 (h:nC K REST id word2 y jC c11 n xs lit ρ W)(h5:ρ 5=none):nC K REST id word2 y jC c11 n xs lit (upd ρ 5 (.slice (some ⟨W.heap.size,0,none⟩) 1 1)) (W.alloc (.cells lit.toArray 139)):=by
 obtain⟨b5,a6,c6,aV,cV,mH,bw,e1,e2,e3,e4,e5,e6,e7,e8,hs⟩:=h;rw[h5]at hs;exact⟨W.heap.size,a6,c6,aV,cV,mH,bw,fun v hv=>(aqu hv).symm,e2,e3,e4,e5,e6,e7,e8,hs.tail.made _⟩
theorem nC.e6 (h:nC K REST id word2 y jC c11 n xs lit ρ W)(h5:ρ 5=some v5)(h6:ρ 6=none)(dS:ρ 13=none):∃ (b5:Nat)(R':List aB),v5=.slice (some ⟨b5,0,none⟩) 1 1/\St K W (ak (.slice jC n c11) 139 4 n xs::blk b5 (.cells lit.toArray 139)::R') /\
  ∀ v' W',St K W' (ak v' 139 4 (n+1) (xs++lit)::blk b5 (.cells lit.toArray 139)::R')->nC K REST id word2 y jC c11 n xs lit (upd ρ 6 v') W' := by
 obtain⟨b5,a6,c6,aV,cV,mH,bw,e1,e2,e3,e4,e5,e6,e7,e8,hs⟩:=h;rw[h5,h6,dS]at hs;refine⟨b5,_,e1 v5 h5,hs.b1,fun v' W' hs' =>?_⟩
 obtain⟨a',c',rfl,_,_⟩:=hs'.aF;refine⟨b5,a',c',aV,cV,mH,bw,e1,fun v hv=>(aqu hv).symm,e3,e4,e5,e6,e7,e8,?_⟩
 show St K W' (dA (ρ 5) _::ak _ _ _ _ _::dA (ρ 11) _::dA (ρ 13) _::dA (ρ 15) _::REST)
 rw[h5,dS];exact hs'.b1
theorem nC.e11 (h:nC K (ak (.slice ay y.sl.length cy) 69 2 y.sl.length (aD y.sl)::REST) id word2 y jC c11 n xs lit ρ W)(h11:ρ 11=none)(dr:ρ 12=none)(dS:ρ 13=none):∃ (R':List aB),St K W (ak (.slice ay y.sl.length cy) 69 2 y.sl.length (aD y.sl)::R') /\
  ∀ va W',St K W' (ak va 69 2 y.sl.length (aD y.sl)::ak (.slice ay y.sl.length cy) 69 2 y.sl.length (aD y.sl)::R')->nC K (ak (.slice ay y.sl.length cy) 69 2 y.sl.length (aD y.sl)::REST) id word2 y jC c11 n xs lit (upd ρ 11 (.agg #[.int .i64 (y).az,va,.string (y).hi,.bool (y).la,.int .u64 (y).ri])) W' := by
 obtain⟨b5,a6,c6,aV,cV,mH,bw,e1,e2,e3,e4,e5,e6,e7,e8,hs⟩:=h;rw[h11,dS]at hs;refine⟨_,hs.b5,fun va W' hs' =>?_⟩
 obtain⟨a',c',rfl,_,_⟩:=hs'.aF;refine⟨b5,a6,c6,a',c',mH,bw,e1,e2,fun v hv=>(aqu hv).symm,fun v hv=>?_,e5,e6,e7,e8,?_⟩
 ·have:ρ 12=some v:=hv
  rw[dr]at this;cases this
 ·show St K W' (dA (ρ 5) _::aaR (ρ 6) _ _::bq _ _::dA (ρ 13) _::dA (ρ 15) _::_)
  rw[dS];exact hs'.b4.tail.b1.u5.u2
theorem nC.wP (h:nC K REST id word2 y jC c11 n xs lit ρ W)(h11:ρ 11=some v11):∃ (aV:Option Addr)(cV:Nat),v11=.agg #[.int .i64 (y).az,(.slice aV y.sl.length cV),.string (y).hi,.bool (y).la,.int .u64 (y).ri] /\
  nC K REST id word2 y jC c11 n xs lit (upd ρ 12 (.agg #[.int .u64 id,.int .u64 word2,.int .i64 (y).az,(.slice aV y.sl.length cV),.string (y).hi,.bool (y).la,.int .u64 (y).ri])) W:=by
 obtain⟨b5,a6,c6,aV,cV,mH,bw,e1,e2,e3,e4,e5,e6,e7,e8,hs⟩:=h;exact⟨aV,cV,e3 v11 h11,b5,a6,c6,aV,cV,mH,bw,e1,e2,e3,fun v hv=>(aqu hv).symm,e5,e6,e7,e8,hs⟩
theorem nC.Wn (h:nC K REST id word2 y jC c11 n xs lit ρ W)(h6:ρ 6=some v6)(dr:ρ 12=some v12)(dS:ρ 13=none)(iV:ρ 14=none)(cX:ρ 15=none):∃ (a6:Option Addr)(c6:Nat)(aV:Option Addr)(cV:Nat)(R':List aB),v6=.slice a6 (n+1) c6 /\
  v12=.agg #[.int .u64 id,.int .u64 word2,.int .i64 (y).az,(.slice aV y.sl.length cV),.string (y).hi,.bool (y).la,.int .u64 (y).ri]/\St K W R' /\
  ∀ b W',St K W' (blk b (.cells (dx (aX (dY b)) (.slice a6 (n+1) c6) id word2 y (.slice aV y.sl.length cV)).toArray 149)::R')->nC K REST id word2 y jC c11 n xs lit (upd ρ 13 (.pointer (some ⟨b,0,none⟩))) W' := by
 obtain⟨b5,a6,c6,aV,cV,mH,bw,e1,e2,e3,e4,e5,e6,e7,e8,hs⟩:=h;rw[dS,cX]at hs;refine⟨a6,c6,aV,cV,_,e2 v6 h6,e4 v12 dr,hs.b3.tail,fun b W' hs' =>?_⟩
 refine⟨b5,a6,c6,aV,cV,b,bw,e1,e2,e3,e4,fun v hv=>(aqu hv).symm,fun v hv=>?_,e7,e8,?_⟩
 ·have:ρ 14=some v:=hv
  rw[iV]at this;cases this
 ·show St K W' (dA (ρ 5) _::aaR (ρ 6) _ _::dA (ρ 11) _::blk _ (.cells (dx _ _ _ _ _ _).toArray 149)::dA (ρ 15) _::REST)
  rw[cX];exact hs'.u3
theorem nC.Ri (h:nC K REST id word2 y jC c11 n xs lit ρ W)(dS:ρ 13=some v13):∃ b:Nat,v13=.pointer (some ⟨b,0,none⟩)/\nC K REST id word2 y jC c11 n xs lit (upd ρ 14 (.agg #[.pointer (some ⟨b,0,none⟩)])) W:=by
 obtain⟨b5,a6,c6,aV,cV,mH,bw,e1,e2,e3,e4,e5,e6,e7,e8,hs⟩:=h;exact⟨mH,e5 v13 dS,b5,a6,c6,aV,cV,mH,bw,e1,e2,e3,e4,e5,fun v hv=>(aqu hv).symm,e7,e8,hs⟩
theorem nC.Mc (h:nC K REST id word2 y jC c11 n xs lit ρ W)(iV:ρ 14=some v14)(cX:ρ 15=none)(vo:ρ 16=none):∃ b:Nat,v14=.agg #[.pointer (some ⟨b,0,none⟩)]/\nC K REST id word2 y jC c11 n xs lit (upd ρ 15 (.pointer (some ⟨W.heap.size,0,none⟩))) (W.alloc (.cells #[.pointer (some ⟨b,0,none⟩)] 147)):=by
 obtain⟨b5,a6,c6,aV,cV,mH,bw,e1,e2,e3,e4,e5,e6,e7,e8,hs⟩:=h;rw[cX]at hs;refine⟨mH,e6 v14 iV,b5,a6,c6,aV,cV,mH,W.heap.size,e1,e2,e3,e4,e5,e6,fun v hv=>(aqu hv).symm,fun v hv=>?_,?_⟩
 ·have:ρ 16=some v:=hv
  rw[vo]at this;cases this
 ·exact(hs.b4.tail.made _).u4
theorem nC.e16 (h:nC K REST id word2 y jC c11 n xs lit ρ W)(cX:ρ 15=some v15):∃ b:Nat,v15=.pointer (some ⟨b,0,none⟩)/\nC K REST id word2 y jC c11 n xs lit (upd ρ 16 (.pointer (some ⟨b,0,none⟩))) W:=by
 obtain⟨b5,a6,c6,aV,cV,mH,bw,e1,e2,e3,e4,e5,e6,e7,e8,hs⟩:=h;exact⟨bw,e7 v15 cX,b5,a6,c6,aV,cV,mH,bw,e1,e2,e3,e4,e5,e6,e7,fun v hv=>(aqu hv).symm,hs⟩
theorem nC.last (h:nC K REST id word2 y jC c11 n xs lit ρ W)(hall:∀ e,e∈[5,6,11,12,13,14,15,16]->(ρ e).isSome=true):∃ (b5:Nat)(a6:Option Addr)(c6:Nat)(aV:Option Addr)(cV mH bw:Nat),
  ρ 5=some (.slice (some ⟨b5,0,none⟩) 1 1)/\ρ 6=some (.slice a6 (n+1) c6)/\ρ 11=some (.agg #[.int .i64 (y).az,(.slice aV y.sl.length cV),.string (y).hi,.bool (y).la,.int .u64 (y).ri])/\ρ 12=some (.agg #[.int .u64 id,.int .u64 word2,.int .i64 (y).az,(.slice aV y.sl.length cV),.string (y).hi,.bool (y).la,.int .u64 (y).ri])/\ρ 13=some (.pointer (some ⟨mH,0,none⟩))/\ρ 14=some (.agg #[.pointer (some ⟨mH,0,none⟩)])/\ρ 15=some (.pointer (some ⟨bw,0,none⟩))/\ρ 16=some (.pointer (some ⟨bw,0,none⟩)) /\
  St K W (ak (.slice a6 (n+1) c6) 139 4 (n+1) (xs++lit)::bq (.slice aV y.sl.length cV) y::blk mH (.cells (dx (aX (dY mH)) (.slice a6 (n+1) c6) id word2 y (.slice aV y.sl.length cV)).toArray 149)::blk bw (.cells #[.pointer (some ⟨mH,0,none⟩)] 147)::REST):=by
 obtain⟨b5,a6,c6,aV,cV,mH,bw,e1,e2,e3,e4,e5,e6,e7,e8,hs⟩:=h;have g:∀ e,e∈[5,6,11,12,13,14,15,16]->∃ v,ρ e=some v:=fun e he=>aqr.1 (hall e he)
 obtain⟨v5,h5⟩:=g 5 (by simp)
 obtain⟨v6,h6⟩:=g 6 (by simp)
 obtain⟨v11,h11⟩:=g 11 (by simp)
 obtain⟨v12,dr⟩:=g 12 (by simp)
 obtain⟨v13,dS⟩:=g 13 (by simp)
 obtain⟨v14,iV⟩:=g 14 (by simp)
 obtain⟨v15,cX⟩:=g 15 (by simp)
 obtain⟨v16,vo⟩:=g 16 (by simp)
 rw[h5,h6,h11,dS,cX]at hs;exact⟨b5,a6,c6,aV,cV,mH,bw,by rw[h5,e1 v5 h5],by rw[h6,e2 v6 h6],by rw[h11,e3 v11 h11],by rw[dr,e4 v12 dr],by rw[dS,e5 v13 dS],by rw[iV,e6 v14 iV],by rw[cX,e7 v15 cX],by rw[vo,e8 v16 vo],hs.tail⟩
end
section
variable {K:aK}{w:World}{F:List aB}{x y:Pg}{ax ay:Option Addr}{cx cy:Nat}{d:aR}{id word:Int}
theorem Bi (hd:d.Ok)(h1:1<=id)(h2:id<=d.no)(hw:0<=word/\word<18446744073709551616)(pox:oM d x)(poy:oM d y)(lx:0<=x.az/\x.az<1000000)(ly:0<=y.az/\y.az<1000000)
  (hs:St K w (ak (.slice ax (x).sl.length cx) 69 2 (x).sl.length (aD (x).sl)::ak (.slice ay (y).sl.length cy) 69 2 (y).sl.length (aD (y).sl)::F)) :
  Calls Tryz.prog 39 #[.agg #[.int .i64 d.th,.int .i64 d.sn,.int .i64 d.no,.int .i64 d.ch,.int .i64 d.re,.int .i64 d.fa,.int .u64 d.cl],.agg #[.int .u64 id,.int .u64 word,.int .i64 (x).az,(.slice ax x.sl.length cx),.string (x).hi,.bool (x).la,.int .u64 (x).ri],.agg #[.int .i64 (y).az,(.slice ay y.sl.length cy),.string (y).hi,.bool (y).la,.int .u64 (y).ri]] w fun e w' => ∃ (bw b g cap:Nat) (va:Value) (mid ps:List Pt),e=.returned (.pointer (some ⟨bw,0,none⟩)) /\
   lh (bN d id x) (bN d id y) mid/\ps=⟨d.node id 0,⟨bC word,⟨#[]⟩,0⟩⟩::mid++[⟨d.node id 0,⟨dM (bC word),⟨#[]⟩,0⟩⟩] /\
   St K w' (mz b id (dM (bC word)) y va g cap ps 0::ak (.slice (some ⟨g,0,none⟩) ps.length cap) 139 4 ps.length (ck ps)::blk bw (.cells #[.pointer (some ⟨b,0,none⟩)] 147)::bq va y::ak (.slice ax (x).sl.length cx) 69 2 (x).sl.length (aD (x).sl)::ak (.slice ay (y).sl.length cy) 69 2 (y).sl.length (aD (y).sl)::F):=by
 have f1:=hd.fw;have f2:=hd.mV;have hno:=hd.mM;have hid:0<=id/\id<18446744073709551616:=by omega
 have hb1:=Fl hw.1 hw.2;have okx:=Bg hd h1 h2 pox lx;have oky:=Bg hd h1 h2 poy ly;have Rm:(bN d id x).length=x.sl.length+3:=by simp[bN,eQ]
 have adP:(bN d id y).length=y.sl.length+3:=by simp[bN,eQ]
 have qx:=fun w F (hs:St K w (ak (.slice ax (x).sl.length cx) 69 2 (x).sl.length (aD (x).sl)::F))=>uk (cap:=cx) (pg:=x) hd hid lx pox.le hs
 have qy:=fun w F (hs:St K w (ak (.slice ay (y).sl.length cy) 69 2 (y).sl.length (aD (y).sl)::F))=>uk (cap:=cy) (pg:=y) hd hid ly poy.le hs
 obtain⟨px,hpx⟩:∃ px,px=bN d id x:=⟨_,rfl⟩;obtain⟨py,hpy⟩:∃ py,py=bN d id y:=⟨_,rfl⟩;rw[← hpx]at okx Rm qx ⊢;rw[← hpy]at oky adP qy ⊢;obtain⟨fst,Rn⟩:∃ fst:Pt,fst=⟨d.node id 0,⟨bC word,⟨#[]⟩,0⟩⟩:=⟨_,rfl⟩;obtain⟨lst,aaS⟩:∃ lst:Pt,lst=⟨d.node id 0,⟨dM (bC word),⟨#[]⟩,0⟩⟩:=⟨_,rfl⟩;rw[← Rn,← aaS];have adR:=aqo Rn;have ah0:=aqo aaS;clear Rn aaS;have hlx:=pox.le;have hly:=poy.le;have Qx:=aqo qx;have Qy:=aqo qy;have Okx:=aqo okx;have Oky:=aqo oky;have Qa:=aqo (fun w=>iq d hd id hid.1 hid.2 w)
 have Qb:=aqo (fun w=>zK word hw.1 hw.2 w)
 have Qe:=aqo (fun w=>Ky (bC word) hb1.1 hb1.2 w)
 have nx:px.length<=40:=by omega
 have ny:py.length<=40:=by omega
 clear qx qy okx oky hpx hpy Rm adP hno pox lx ly;have hs:=((hs.made (.cells #[.int .i64 d.th,.int .i64 d.sn,.int .i64 d.no,.int .i64 d.ch,.int .i64 d.re,.int .i64 d.fa,.int .u64 d.cl] 29)).made (.cells #[.int .u64 id,.int .u64 word,.int .i64 (x).az,(.slice ax x.sl.length cx),.string (x).hi,.bool (x).la,.int .u64 (x).ri] 45)).made (.cells #[.int .i64 (y).az,(.slice ay y.sl.length cy),.string (y).hi,.bool (y).la,.int .u64 (y).ri] 43);have hs:=hs.Gc;simp only[World.size_alloc]at hs;obtain⟨b0,hb0⟩:∃ b0,b0=w.heap.size:=⟨_,rfl⟩;go_enter Tryz.func39,Tryz.ntmps39
 go_upto_region 2 with(fail)
 rw[← hb0]at hs ⊢;refine cR hs ?_
 clear hs hb0;intro W hs;have kh:=hs.k2;have kl:=hs.b3.k0;go_wp2_with fail
 refine(Qx.out _ _ hs.b4).mono ?_
 clear hs kh kl;rintro e w1 ⟨vx,rfl,hs⟩;obtain⟨apx,cpx,rfl,_,_⟩:=hs.aF;have hs:=hs.b2;go_wp2
 go_loopw [23] (fun v23 wr=>∃ k:Nat,k<=px.length/\v23=.int .i64 k/\St K wr (lg (b0+1+1+1) (px.take k).reverse::ak (.slice apx px.length cpx) 139 4 px.length (ck px)::ak (.slice ax (x).sl.length cx) 69 2 (x).sl.length (aD (x).sl) ::
  blk (b0+1+1) (.cells #[.int .i64 (y).az,(.slice ay y.sl.length cy),.string (y).hi,.bool (y).la,.int .u64 (y).ri] 43)::blk (b0+1) (.cells #[.int .u64 id,.int .u64 word,.int .i64 (x).az,(.slice ax x.sl.length cx),.string (x).hi,.bool (x).la,.int .u64 (x).ri] 45)::blk b0 (.cells #[.int .i64 d.th,.int .i64 d.sn,.int .i64 d.no,.int .i64 d.ch,.int .i64 d.re,.int .i64 d.fa,.int .u64 d.cl] 29)::ak (.slice ay (y).sl.length cy) 69 2 (y).sl.length (aD (y).sl)::F)) (fun v _=>px.length-(intOf v).toNat)
 case atStart=>exact⟨0,by omega,rfl,hs⟩
 case round=>
  clear hs;obtain⟨k,hk,rfl,hs⟩:=hrel;by_cases hlt:k<px.length
  ·obtain⟨u,hu⟩:∃ u,px[k]?=some u:=⟨_,aqt hlt⟩
   obtain⟨r0,r1,r2,r3⟩:=ld px k u hu;obtain⟨g,rfl,c0⟩:=hs.b1.cP r0;have c1:=hs.b1.bJ r1;have c2:=hs.b1.bJ r2;have c3:=hs.b1.bJ r3;have okp:x8 u:=Okx.out u (aqs hu);have hnext:u::(px.take k).reverse=(px.take (k+1)).reverse:=by
    rw[aqt hlt]at hu;rw[List.take_succ_eq_append_getElem hlt,aqu hu];simp
   have hlen:(px.take k).reverse.length<1000000:=by simp;omega
   have Hs:=aqo (hs.pass (.cells #[.int .i64 u.i,.int .u64 u.c.n,.string u.c.k,.int .u64 u.c.m] 139));have Hx:=aqo hnext;clear hs hu r0 r1 r2 r3 hnext;go_wp2_with (at_mapUpdate;refine ya Hs.out okp hlen rfl _ _ _ rfl rfl rfl rfl ?_)
   clear Hs c0 c1 c2 c3;intro w2 hs;rw[Hx.out]at hs;go_wp2
   go_roundw
   case rel=>exact⟨k+1,by omega,by go_num,hs⟩
   case measure=>simp[intOf];omega
  ·obtain rfl:k=px.length:=by omega
   rw[List.take_length]at hs;clear hlt hk;have kh:=hs.b4.k0;have kl:=hs.b5.k0;go_wp2_with fail
   refine(bE hs (Qa.out _)).mono ?_
   clear hs kh kl;rintro e w2 ⟨rfl,hs⟩;have kh:=hs.b4.k0;go_wp2_with fail
   refine(mU hs (Qb.out _)).mono ?_
   clear hs kh;rintro e w3 ⟨rfl,hs⟩;have hs:=hs.made (.cells #[.int .i64 (d.node id 0),.int .u64 (bC word),.string ⟨#[]⟩,.int .u64 0] 139);have hs:=hs.lM (n:=1) (size:=4) rfl (by simp[maxLen])
   go_upto_region 9 with(fail)
   refine cR hs ?_
   generalize w3.heap.size=b1;clear hs;intro W3 hs;have kh:=hs.b5.k0;have kl:=hs.b6.k0;have ky:=hs.b4.k0;obtain⟨iv,cZ,dc,dg,dh⟩:=info_parts x7;have hs:=hs.b2.tail;go_wp2_with fail
   refine(Qy.out _ _ hs.b6).mono ?_
   clear hs kh kl ky;rintro e w4 ⟨vy,rfl,hs⟩;obtain⟨apy,cpy,rfl,_,_⟩:=hs.aF;have hs:=hs.b1.b4.b2.b4.b4;have hrow:[Value.int .i64 (d.node id 0),.int .u64 (bC word),.string ⟨#[]⟩,.int .u64 0]=ck [fst]:=by rw[adR.out];rfl
   rw[hrow]at hs;clear hrow adR;go_wp2
   go_loopw [47,11] (fun v47 v11 wr=>∃ (k:Nat) (mid:List Pt),k<=py.length/\v47=.int .i64 k/\mid.length<=k/\lh px (py.take k) mid /\
    St K wr (ak v11 139 4 (mid.length+1) (ck (fst::mid))::lg (b0+1+1+1) px.reverse::ak (.slice apy py.length cpy) 139 4 py.length (ck py)::ak (.slice ax (x).sl.length cx) 69 2 (x).sl.length (aD (x).sl)::ak (.slice ay (y).sl.length cy) 69 2 (y).sl.length (aD (y).sl) ::
    blk (b0+1+1) (.cells #[.int .i64 (y).az,(.slice ay y.sl.length cy),.string (y).hi,.bool (y).la,.int .u64 (y).ri] 43)::blk (b0+1) (.cells #[.int .u64 id,.int .u64 word,.int .i64 (x).az,(.slice ax x.sl.length cx),.string (x).hi,.bool (x).la,.int .u64 (x).ri] 45)::blk b0 (.cells #[.int .i64 d.th,.int .i64 d.sn,.int .i64 d.no,.int .i64 d.ch,.int .i64 d.re,.int .i64 d.fa,.int .u64 d.cl] 29)::F)) (fun v _ _=>py.length-(intOf v).toNat)
   case atStart=>exact⟨0,[],by omega,rfl,by simp,lh.nil _,hs⟩
   case round=>
    clear hs;obtain⟨k,mid,hk,rfl,hmid,hnew,hs⟩:=hrel;by_cases hlt:k<py.length
    ·obtain⟨u,hu⟩:∃ u,py[k]?=some u:=⟨_,aqt hlt⟩
     obtain⟨r0,r1,r2,r3⟩:=ld py k u hu;obtain⟨g,rfl,c0⟩:=hs.b2.cP r0;have c1:=hs.b2.bJ r1;have c2:=hs.b2.bJ r2;have c3:=hs.b2.bJ r3;have oku:x8 u:=Oky.out u (aqs hu);have lJ:py.take (k+1)=py.take k++[u]:=by
      rw[aqt hlt]at hu;rw[List.take_succ_eq_append_getElem hlt,aqu hu]
     obtain⟨jC,c11,rfl,_,_⟩:=hs.aF;have hs:=hs.made (.cells #[.int .i64 u.i,.int .u64 u.c.n,.string u.c.k,.int .u64 u.c.m] 139);obtain⟨xb,ry,hxb⟩:=hs.b2.Gd oku;unfold Jn at ry;have Ws:=aqo hnew;have Htk:=aqo lJ;clear hu r0 r1 r2 r3 hnew lJ oku;cases xb with
     | true=>
      have hin:u∈px:=by simpa using hxb.1 rfl
      have Hin:=aqo hin;clear hxb hin;go_wp2
      go_roundw
      case rel=>exact⟨k+1,mid,by omega,by go_num,by omega,by rw[Htk.out];exact Ws.out.skip Hin.out,hs.tail⟩
      case measure=>simp[intOf];omega
     | false=>
      clear hxb;obtain⟨xs,hxs⟩:∃ xs,xs=ck (fst::mid):=⟨_,rfl⟩;have hnext:ck (fst::(mid++[u]))=xs++[.int .i64 u.i,.int .u64 u.c.n,.string u.c.k,.int .u64 u.c.m]:=by
       rw[hxs,show fst::(mid++[u])=(fst::mid)++[u]from rfl,iH]
       rfl
      rw[← hxs]at hs;have Hx:=aqo hnext;have hs:=hs.made (.cells [.int .i64 u.i,.int .u64 u.c.n,.string u.c.k,.int .u64 u.c.m].toArray 139);have hkk:=hs.k0;rw[World.size_alloc]at hs hkk;have Hw:=aqo (wL hkk);have Hr:=aqo hs.b2;clear hs hkk hnext hxs;go_wp2_with (at_builtin;refine cF _ _ 137 139 _ (mid.length+1) 1 1 4 40 xs [.int .i64 u.i,.int .u64 u.c.n,.string u.c.k,.int .u64 u.c.m] (.agg #[.int .i64 0,.int .u64 0,.string ⟨#[]⟩,.int .u64 0]) iv (some ⟨wr.heap.size+1,0,none⟩) Hr.out rfl rfl Tryz.underlying137 cZ dc dg dh rfl (by decide) rfl rfl rfl (fun e=>by cases e) Hw.out (fun x hu=>by simp at hu;rcases hu with rfl|rfl|rfl|rfl <;> rfl) (by omega) (by decide) ?_)
      clear Hr Hw ry c0 c1 c2 c3;intro v' w6 hs;rw[← Hx.out]at hs;go_wp2
      go_roundw
      case rel=>exact⟨k+1,mid++[u],by omega,by go_num,by simp;omega,by rw[Htk.out];exact Ws.out.take,by simpa using hs.bV.bV⟩
      case measure=>simp[intOf];omega
    ·obtain rfl:k=py.length:=by omega
     rw[List.take_length]at hnew;have Ws:=aqo hnew;clear hlt hk hnew;obtain⟨jC,c11,rfl,_,_⟩:=hs.aF;have kh:=hs.b6.k0;go_wp2_with fail
     refine(mU hs (Qb.out _)).mono ?_
     clear hs kh;rintro e w7 ⟨rfl,hs⟩;go_wp2_with fail
     refine(mU hs (Qe.out _)).mono ?_
     clear hs;rintro e w8 ⟨rfl,hs⟩;have hs:=hs.bV.bV.b5.tail.b2.b1;obtain⟨word2,aaT⟩:∃ z,z=dM (bC word):=⟨_,rfl⟩;obtain⟨xs,hxs⟩:∃ xs,xs=ck (fst::mid):=⟨_,rfl⟩;rw[← hxs]at hs;have Hxs:=aqo hxs;clear hxs;clear aaT;go_upto_region 16 with(fail)
     refine cR hs ?_
     clear hs;intro W hs;have Hs:=aqo hs;clear hs;refine aT [false,false,false,false,false,true,true,false,false,false,false,true,true,true,true,true,true] [5,6,11,12,13,14,15,16] (fun|6=>[5] | 12=>[11] | 13=>[6,12] | 14=>[13] | 15=>[14] | 16=>[15] | _=>[])
      (nC K (ak (.slice ay (y).sl.length cy) 69 2 (y).sl.length (aD (y).sl)::ak (.slice ax (x).sl.length cx) 69 2 (x).sl.length (aD (x).sl)::blk (b0+1+1) (.cells #[.int .i64 (y).az,(.slice ay y.sl.length cy),.string (y).hi,.bool (y).la,.int .u64 (y).ri] 43)::blk (b0+1) (.cells #[.int .u64 id,.int .u64 word,.int .i64 (x).az,(.slice ax x.sl.length cx),.string (x).hi,.bool (x).la,.int .u64 (x).ri] 45)::F) id (dM (bC word)) y jC c11 (mid.length+1) xs [.int .i64 (d.node id 0),.int .u64 (dM (bC word)),.string ⟨#[]⟩,.int .u64 0])
      (fun W=>(∀ k,W.cell? ⟨b0+1+1,k,none⟩=(#[.int .i64 (y).az,(.slice ay y.sl.length cy),.string (y).hi,.bool (y).la,.int .u64 (y).ri]:Array Value)[k]?)/\(∀ k,W.cell? ⟨b0+1,k,none⟩=(#[.int .u64 id,.int .u64 word,.int .i64 (x).az,(.slice ax x.sl.length cx),.string (x).hi,.bool (x).la,.int .u64 (x).ri]:Array Value)[k]?)) ?aS (by kernel_rfl) ?hB ?H ?iA ?h0 ?hI ?hR ?hE ?hQ
     case hB=>as_aux_lemma=>kernel_rfl
     case H=>
      rintro W2 ⟨k1,k2⟩;simp only[bK];repeat (go_big_quiet_step (fail))
      refine wpQuiet_nil ?_
      rfl
     case iA=>rfl
     case h0=>exact nC.start Hs.out
     case hI=>
      intro ρ W2 h;exact⟨h.rest.k2,h.rest.b3.k0⟩
     case hR=>exact fun ρ W2 W3 h hb=>h.same hb
     case hE=>
      refine⟨?e5,?e6,?e11,?wP,?Wn,?Ri,?Mc,?e16,trivial⟩;case e5=>
       intro o ho ρ W2 h hcl h5 hd af aC;obtain rfl:=aqu ho;simp only[aj]at aC;subst aC;go_wp2
       exact⟨rfl,_,rfl,h.e5 h5⟩
      case e6=>
       intro o ho ρ W2 h hcl h6 hd af aC;obtain rfl:=aqu ho;replace aC:af=aj _ ρ [5] _:=aC;obtain⟨v5,h5⟩:=aqr.1 (hd 5 (by show _∈[5];simp))
       have dS:ρ 13=none:=hcl.none (by simp) (show 6∈[6,12]by simp) h6
       obtain⟨b5,R',rfl,hs,hnext⟩:=h.e6 h5 h6 dS;simp only[aj,h5,Option.getD_some,aL,List.getElem?_cons_succ,List.getElem?_cons_zero,Option.bind_some,Act.put,List.setIfInBounds_toArray,List.set_cons_zero,List.set_cons_succ]at aC;subst aC;refine cF _ _ 137 139 _ (mid.length+1) 1 1 4 40 xs [.int .i64 (d.node id 0),.int .u64 (dM (bC word)),.string ⟨#[]⟩,.int .u64 0] (.agg #[.int .i64 0,.int .u64 0,.string ⟨#[]⟩,.int .u64 0]) iv (some ⟨b5,0,none⟩) hs rfl rfl Tryz.underlying137 cZ dc dg dh rfl (by decide) rfl rfl rfl (fun e=>by cases e) (wL hs.k1) (fun x hu=>by simp at hu;rcases hu with rfl|rfl|rfl|rfl <;> rfl) (by omega) (by decide) ?_
       intro v' w' hs';exact⟨rfl,_,rfl,hnext v' w' hs'⟩
      case e11=>
       intro o ho ρ W2 h hcl h11 hd af aC;obtain rfl:=aqu ho;replace aC:af=aj _ ρ [] _:=aC;have dr:ρ 12=none:=hcl.none (by simp) (show 11∈[11]by simp) h11
       have dS:ρ 13=none:=hcl.none (by simp) (show 12∈[6,12]by simp) dr
       obtain⟨R',hs,hnext⟩:=h.e11 h11 dr dS;simp only[aj]at aC;subst aC;go_wp2_with fail
       refine(nj (cap:=cy) hs (hs.cN (by omega))).mono ?_
       rintro e W3 ⟨va,rfl,hs'⟩;go_wp2
       exact⟨rfl,_,rfl,hnext va W3 hs'⟩
      case wP=>
       intro o ho ρ W2 h hcl dr hd af aC;obtain rfl:=aqu ho;replace aC:af=aj _ ρ [11] _:=aC;obtain⟨v11,h11⟩:=aqr.1 (hd 11 (by show _∈[11];simp))
       obtain⟨aV,cV,rfl,hn⟩:=h.wP h11;simp only[aj,h11,Option.getD_some,aL,List.getElem?_cons_succ,List.getElem?_cons_zero,Option.bind_some,Act.put,List.setIfInBounds_toArray,List.set_cons_zero,List.set_cons_succ]at aC;subst aC;go_wp2
       exact⟨rfl,_,rfl,hn⟩
      case Wn=>
       intro o ho ρ W2 h hcl dS hd af aC;obtain rfl:=aqu ho;replace aC:af=aj _ ρ [6,12] _:=aC;obtain⟨v6,h6⟩:=aqr.1 (hd 6 (by show _∈[6,12];simp))
       obtain⟨v12,dr⟩:=aqr.1 (hd 12 (by show _∈[6,12];simp))
       have iV:ρ 14=none:=hcl.none (by simp) (show 13∈[13]by simp) dS
       have cX:ρ 15=none:=hcl.none (by simp) (show 14∈[14]by simp) iV
       obtain⟨a6,c6,aV,cV,R',rfl,rfl,hs,hnext⟩:=h.Wn h6 dr dS iV cX;simp only[aj,h6,dr,Option.getD_some,aL,List.getElem?_cons_succ,List.getElem?_cons_zero,Option.bind_some,Act.put,List.setIfInBounds_toArray,List.set_cons_zero,List.set_cons_succ]at aC;subst aC;go_wp2_with fail
       refine(p8 hs).mono ?_
       rintro e W3 ⟨b,rfl,hs'⟩;go_wp2
       exact⟨rfl,_,rfl,hnext b W3 hs'⟩
      case Ri=>
       intro o ho ρ W2 h hcl iV hd af aC;obtain rfl:=aqu ho;replace aC:af=aj _ ρ [13] _:=aC;obtain⟨v13,dS⟩:=aqr.1 (hd 13 (by show _∈[13];simp))
       obtain⟨b,rfl,hn⟩:=h.Ri dS;simp only[aj,dS,Option.getD_some,aL,List.getElem?_cons_succ,List.getElem?_cons_zero,Option.bind_some,Act.put,List.setIfInBounds_toArray,List.set_cons_zero,List.set_cons_succ]at aC;subst aC;go_wp2
       exact⟨rfl,_,rfl,hn⟩
      case Mc=>
       intro o ho ρ W2 h hcl cX hd af aC;obtain rfl:=aqu ho;replace aC:af=aj _ ρ [14] _:=aC;obtain⟨v14,iV⟩:=aqr.1 (hd 14 (by show _∈[14];simp))
       have vo:ρ 16=none:=hcl.none (by simp) (show 15∈[15]by simp) cX
       obtain⟨b,rfl,hn⟩:=h.Mc iV cX vo;simp only[aj,iV,Option.getD_some,aL,List.getElem?_cons_succ,List.getElem?_cons_zero,Option.bind_some,Act.put,List.setIfInBounds_toArray,List.set_cons_zero,List.set_cons_succ]at aC;subst aC;go_wp2
       exact⟨rfl,_,rfl,hn⟩
      case e16=>
       intro o ho ρ W2 h hcl vo hd af aC;obtain rfl:=aqu ho;replace aC:af=aj _ ρ [15] _:=aC;obtain⟨v15,cX⟩:=aqr.1 (hd 15 (by show _∈[15];simp))
       obtain⟨b,rfl,hn⟩:=h.e16 cX;simp only[aj,cX,Option.getD_some,aL,List.getElem?_cons_succ,List.getElem?_cons_zero,Option.bind_some,Act.put,List.setIfInBounds_toArray,List.set_cons_zero,List.set_cons_succ]at aC;subst aC;go_wp2
       exact⟨rfl,_,rfl,hn⟩
     case hQ=>
      intro ρ W2 h hall;obtain⟨b5,a6,c6,aV,cV,mH,bw,h5,h6,h11,dr,dS,iV,cX,vo,hs⟩:=h.last hall;simp only[aj,h5,h6,h11,dr,dS,iV,cX,vo,Option.getD_some,aL,List.getElem?_cons_succ,List.getElem?_cons_zero,Option.bind_some,Act.put,List.setIfInBounds_toArray,List.set_cons_zero,List.set_cons_succ];have e1:xs++[.int .i64 (d.node id 0),.int .u64 (dM (bC word)),.string ⟨#[]⟩,.int .u64 0]=ck (fst::mid++[lst]):=by rw[Hxs.out,iH,ah0.out];rfl
      have e2:mid.length+1+1=(fst::mid++[lst]).length:=by simp
      rw[e1,e2]at hs;obtain⟨ps,hps⟩:∃ ps,ps=fst::mid++[lst]:=⟨_,rfl⟩;have Ro:ps[0]?=some fst:=by rw[hps];rfl
      have hpl:0<ps.length:=by rw[hps];simp
      rw[← hps]at hs;obtain⟨g,rfl,_⟩:=hs.cP (ld ps 0 fst Ro).1;have hs:=hs.b2;rw[show dY mH=(if 0<ps.length then dY mH else none)from(if_pos hpl).symm]at hs
      have hs:=hs.p9 (k:=0) (g:=g) (cap:=c6) (ps:=ps) (fun _=>by rw[Nat.zero_mul,Nat.sub_zero,Nat.sub_zero])
      have hs:=hs.b6.tail.b6.tail.b5.b3.b4.b4.b4;have yf:=aqo hps;clear Ro hpl e1 e2 hps h5 h6 h11 dr dS iV cX vo hall;go_wp2
      go_ret;exact⟨bw,mH,g,c6,_,mid,ps,rfl,Ws.out,yf.out,hs⟩
end
theorem Ge (tmps:Array Value)(w:World)(b:Nat)(v0 v1 v2 v3 v4 v5 v6:Value)(hp:tmps[2]?=some (.pointer (some ⟨b,0,none⟩)))(hk:∀ k,w.cell? ⟨b,k,none⟩=(#[v0,v1,v2,v3,v4,v5,v6]:Array Value)[k]?) :
  (results Tryz.f94 tmps).run Tryz.prog w=.ok (.agg #[v0,v1,v2,v3,v4,v5,v6]) w:=by
 simp[results,Tryz.results94,go_sem,hp,hk]
theorem Mk (tmps:Array Value)(w:World)(b:Nat)(v0 v1 v2 v3 v4 v5 v6:Value)(hp:tmps[2]?=some (.pointer (some ⟨b,0,none⟩)))(hk:∀ k,w.cell? ⟨b,k,none⟩=(#[v0,v1,v2,v3,v4,v5,v6]:Array Value)[k]?) :
  (results Tryz.f42 tmps).run Tryz.prog w=.ok (.agg #[v0,v1,v2,v3,v4,v5,v6]) w:=by
 simp[results,Tryz.results42,go_sem,hp,hk]
theorem Ml (tmps:Array Value)(w:World)(b:Nat)(v0 v1 v2 v3 v4 v5 v6:Value)(hp:tmps[2]?=some (.pointer (some ⟨b,0,none⟩)))(hk:∀ k,w.cell? ⟨b,k,none⟩=(#[v0,v1,v2,v3,v4,v5,v6]:Array Value)[k]?) :
  (results Tryz.f137 tmps).run Tryz.prog w=.ok (.agg #[v0,v1,v2,v3,v4,v5,v6]) w:=by
 simp[results,Tryz.results137,go_sem,hp,hk]
section
variable {K:aK}{w:World}{F:List aB}{pg:Pg}{id word:Int}{b bw g cap:Nat}{av:Option Addr}{cv:Nat}{ps:List Pt}
theorem wQ (hn:pg.sl.length<=1000000)(hs:St K w (mz b id word pg (.slice av pg.sl.length cv) g cap ps ps.length::ak (.slice av (pg).sl.length cv) 69 2 (pg).sl.length (aD (pg).sl)::F)) :
  Calls Tryz.prog 94 #[.pointer (some ⟨b,0,none⟩)] w fun e w' => ∃ va,e=.returned (.agg #[.int .u64 id,.int .u64 word,.int .i64 (pg).az,va,.string (pg).hi,.bool (pg).la,.int .u64 (pg).ri]) /\
   St K w' (ak va 69 2 pg.sl.length (aD pg.sl)::mz b id word pg (.slice av pg.sl.length cv) g cap ps ps.length::ak (.slice av (pg).sl.length cv) 69 2 (pg).sl.length (aD (pg).sl)::F):=by
 obtain⟨pv,hpv,hs⟩:=hs.Jp;rw[if_neg (Nat.lt_irrefl _)]at hs;have hcl:∀ w' (G:List aB),St K w' (blk b (.cells (dx .nilFunc pv id word pg (.slice av pg.sl.length cv)).toArray 149)::G)->St K w' (mz b id word pg (.slice av pg.sl.length cv) g cap ps ps.length::G):=fun w' G h=>by
  refine St.p9 (pv:=pv) ?_ hpv;rw[if_neg (Nat.lt_irrefl _)];exact h
 have Hcl:=aqo hcl;have hs:St K w (blk b (.cells (dx .nilFunc pv id word pg (.slice av pg.sl.length cv)).toArray 149)::ak (.slice av (pg).sl.length cv) 69 2 (pg).sl.length (aD (pg).sl)::F):=hs;clear hcl hpv;have hs:=hs.made (.cells #[.int .u64 0,.int .u64 0,.int .i64 0,.slice none 0 0,.string ⟨#[]⟩,.bool false,.int .u64 0] 45);have Qd:=aqo (fY (w.alloc (.cells #[.int .u64 0,.int .u64 0,.int .i64 0,.slice none 0 0,.string ⟨#[]⟩,.bool false,.int .u64 0] 45)) b (hs.k1 0) (hs.k1 1));go_enter Tryz.func94,Tryz.ntmps94
 go_wp2_with fail
 refine(Qd.out).mono ?_
 clear Qd;rintro e w1 ⟨rfl,rfl⟩;generalize hb0:w.heap.size=b0;rw[hb0]at hs;go_upto_region 3 with(fail)
 refine cR hs ?_
 clear hs hb0;intro W hs;have k:=hs.k1;unfold dx at k;have hs:=hs.made (.cells #[.int .u64 id,.int .u64 word,.int .i64 (pg).az,(.slice av pg.sl.length cv),.string (pg).hi,.bool (pg).la,.int .u64 (pg).ri] 45);go_wp2_with fail
 refine(nj (cap:=cv) hs (hs.b3.cN (by omega))).mono ?_
 clear hs k;generalize W.heap.size=b1;rintro e w2 ⟨va,rfl,hs⟩;obtain⟨a2,c2,rfl,_,_⟩:=hs.aF;have hs:=hs.b1;have k1:=hs.k0;have q1:=hs.f0;have hs:=((((hs.aI 2 (.int .i64 pg.az)).aI 3 (.slice a2 pg.sl.length c2)).aI 4 (.string pg.hi)).aI 5 (.bool pg.la)).aI 6 (.int .u64 pg.ri);simp only[List.set_cons_zero,List.set_cons_succ]at hs;go_upto_region 5 with(fail)
 refine cR hs ?_
 clear hs k1 q1;intro W3 hs;have k1:=hs.k0;have hs:=hs.b2;have k0:=hs.k0;have f0:=hs.f0;have hs:=((((((hs.aI 0 (.int .u64 id)).aI 1 (.int .u64 word)).aI 2 (.int .i64 pg.az)).aI 3 (.slice a2 pg.sl.length c2)).aI 4 (.string pg.hi)).aI 5 (.bool pg.la)).aI 6 (.int .u64 pg.ri);simp only[List.set_cons_zero,List.set_cons_succ]at hs;go_wp2
 refine bodyPost_ret (Ge _ _ b0 _ _ _ _ _ _ _ rfl hs.k0) rfl ⟨_,rfl,(Hcl.out _ _ hs.tail.tail.b1).b1⟩
theorem yg (hn:pg.sl.length<=1000000)(hs:St K w (mz b id word pg (.slice av pg.sl.length cv) g cap ps ps.length::ak (.slice av (pg).sl.length cv) 69 2 (pg).sl.length (aD (pg).sl)::blk bw (.cells #[.pointer (some ⟨b,0,none⟩)] 147)::F)) :
  Calls Tryz.prog 42 #[.pointer (some ⟨bw,0,none⟩)] w fun e w' => ∃ va,e=.returned (.agg #[.int .u64 id,.int .u64 word,.int .i64 (pg).az,va,.string (pg).hi,.bool (pg).la,.int .u64 (pg).ri]) /\
   St K w' (ak va 69 2 pg.sl.length (aD pg.sl)::mz b id word pg (.slice av pg.sl.length cv) g cap ps ps.length::ak (.slice av (pg).sl.length cv) 69 2 (pg).sl.length (aD (pg).sl)::blk bw (.cells #[.pointer (some ⟨b,0,none⟩)] 147)::F):=by
 have hs:=hs.made (.cells #[.int .u64 0,.int .u64 0,.int .i64 0,.slice none 0 0,.string ⟨#[]⟩,.bool false,.int .u64 0] 45);have kw:=hs.b3.k0;go_enter Tryz.func42,Tryz.ntmps42
 go_wp2_with fail
 refine(wQ hn hs.u2).mono ?_
 clear hs kw;generalize w.heap.size=b0;rintro e w1 ⟨va,rfl,hs⟩;obtain⟨a2,c2,rfl,_,_⟩:=hs.aF;have hs:=hs.b3;have k0:=hs.k0;have f0:=hs.f0;have hs:=((((((hs.aI 0 (.int .u64 id)).aI 1 (.int .u64 word)).aI 2 (.int .i64 pg.az)).aI 3 (.slice a2 pg.sl.length c2)).aI 4 (.string pg.hi)).aI 5 (.bool pg.la)).aI 6 (.int .u64 pg.ri);simp only[List.set_cons_zero,List.set_cons_succ]at hs;go_wp2
 refine bodyPost_ret (Mk _ _ b0 _ _ _ _ _ _ _ rfl hs.k0) rfl ⟨_,rfl,hs.tail⟩
theorem qa (hn:pg.sl.length<=1000000)(hs:St K w (mz b id word pg (.slice av pg.sl.length cv) g cap ps ps.length::ak (.slice av (pg).sl.length cv) 69 2 (pg).sl.length (aD (pg).sl)::blk bw (.cells #[.pointer (some ⟨b,0,none⟩)] 145)::F)) :
  Calls Tryz.prog 137 #[.pointer (some ⟨bw,0,none⟩)] w fun e w' => ∃ va,e=.returned (.agg #[.int .u64 id,.int .u64 word,.int .i64 (pg).az,va,.string (pg).hi,.bool (pg).la,.int .u64 (pg).ri]) /\
   St K w' (ak va 69 2 pg.sl.length (aD pg.sl)::mz b id word pg (.slice av pg.sl.length cv) g cap ps ps.length::ak (.slice av (pg).sl.length cv) 69 2 (pg).sl.length (aD (pg).sl)::blk bw (.cells #[.pointer (some ⟨b,0,none⟩)] 145)::F):=by
 have hs:=hs.made (.cells #[.int .u64 0,.int .u64 0,.int .i64 0,.slice none 0 0,.string ⟨#[]⟩,.bool false,.int .u64 0] 45);have kw:=hs.b3.k0;go_enter Tryz.func137,Tryz.ntmps137
 go_wp2_with fail
 refine(wQ hn hs.u2).mono ?_
 clear hs kw;generalize w.heap.size=b0;rintro e w1 ⟨va,rfl,hs⟩;obtain⟨a2,c2,rfl,_,_⟩:=hs.aF;have hs:=hs.b3;have k0:=hs.k0;have f0:=hs.f0;have hs:=((((((hs.aI 0 (.int .u64 id)).aI 1 (.int .u64 word)).aI 2 (.int .i64 pg.az)).aI 3 (.slice a2 pg.sl.length c2)).aI 4 (.string pg.hi)).aI 5 (.bool pg.la)).aI 6 (.int .u64 pg.ri);simp only[List.set_cons_zero,List.set_cons_succ]at hs;go_wp2
 refine bodyPost_ret (Ml _ _ b0 _ _ _ _ _ _ _ rfl hs.k0) rfl ⟨_,rfl,hs.tail⟩
end
def Yv (o6 o11:Option Value)(b6:Nat)(jC:Option Addr)(c11 n:Nat)(lit xs:List Value):aB:=match o11 with
 | some _=>ak (.slice jC (1+n) c11) 139 4 (1+n) (lit++xs)
 | none=>match o6 with
  | some _=>blk b6 (.cells lit.toArray 139)
  | none=>gK
def FrR (K:aK)(REST:List aB)(n:Nat)(lit xs:List Value)(ρ:Nat->Option Value)(W:World):Prop:=
 ∃ (b6:Nat) (Bj:Option Addr) (c10:Nat) (jC:Option Addr) (c11:Nat),(∀ v,ρ 6=some v->v=.slice (some ⟨b6,0,none⟩) 1 1)/\(∀ v,ρ 10=some v->v=.slice Bj n c10)/\(∀ v,ρ 11=some v->v=.slice jC (1+n) c11)/\(∀ v,ρ 12=some v->v=.slice jC (1+n) c11) /\
  St K W (Yv (ρ 6) (ρ 11) b6 jC c11 n lit xs::dA (ρ 10) (ak (.slice Bj n c10) 139 4 n xs)::REST)
section
variable {K:aK}{w:World}{F:List aB}{x:Pg}{ax:Option Addr}{cx:Nat}{d:aR}{id:Int}
theorem rJ (hd:d.Ok)(hid:0<=id/\id<18446744073709551616)(lx:0<=x.az/\x.az<1000000)(hle:(x.sl.length:Int)<=d.fa)(hs:St K w (ak (.slice ax (x).sl.length cx) 69 2 (x).sl.length (aD (x).sl)::F)) :
  Calls Tryz.prog 38 #[.agg #[.int .i64 d.th,.int .i64 d.sn,.int .i64 d.no,.int .i64 d.ch,.int .i64 d.re,.int .i64 d.fa,.int .u64 d.cl],.int .u64 id,.agg #[.int .i64 (x).az,(.slice ax x.sl.length cx),.string (x).hi,.bool (x).la,.int .u64 (x).ri]] w fun e w' => ∃ (bw b g cap:Nat) (va:Value) (ps:List Pt),e=.returned (.pointer (some ⟨bw,0,none⟩))/\ps=⟨d.node id 0,⟨aO 0,⟨#[]⟩,0⟩⟩::bN d id x /\
   St K w' (mz b id (aO 0) x va g cap ps 0::ak (.slice (some ⟨g,0,none⟩) ps.length cap) 139 4 ps.length (ck ps)::blk bw (.cells #[.pointer (some ⟨b,0,none⟩)] 145)::bq va x::ak (.slice ax (x).sl.length cx) 69 2 (x).sl.length (aD (x).sl)::F):=by
 have f2:=hd.mV;have qx:=fun w F (hs:St K w (ak (.slice ax (x).sl.length cx) 69 2 (x).sl.length (aD (x).sl)::F))=>uk (cap:=cx) (pg:=x) hd hid lx hle hs
 have Rm:(bN d id x).length=x.sl.length+3:=by simp[bN,eQ]
 obtain⟨px,hpx⟩:∃ px,px=bN d id x:=⟨_,rfl⟩;rw[← hpx]at qx Rm ⊢;have Qx:=aqo qx;have nx:px.length<=40:=by omega
 have Qa:=aqo (fun w=>iq d hd id hid.1 hid.2 w)
 have Ql:=aqo (fun w=>tF 0 (by decide) (by decide) w)
 obtain⟨j0,hj0⟩:∃ j,j=d.node id 0:=⟨_,rfl⟩;obtain⟨w0,hw0⟩:∃ z,z=aO 0:=⟨_,rfl⟩;simp only[← hj0]at Qa;simp only[← hw0]at Ql;rw[← hj0,← hw0];obtain⟨iv,cZ,dc,dg,dh⟩:=info_parts x7;clear qx hpx Rm hj0 hw0;have hs:=(hs.made (.cells #[.int .i64 d.th,.int .i64 d.sn,.int .i64 d.no,.int .i64 d.ch,.int .i64 d.re,.int .i64 d.fa,.int .u64 d.cl] 29)).made (.cells #[.int .i64 (x).az,(.slice ax x.sl.length cx),.string (x).hi,.bool (x).la,.int .u64 (x).ri] 43);rw[World.size_alloc]at hs;go_enter Tryz.func38,Tryz.ntmps38
 go_wp2_with fail
 refine(mU hs (Ql.out _)).mono ?_
 clear hs;generalize w.heap.size=b0;rintro e w1 ⟨rfl,hs⟩;go_upto_region 2 with(fail)
 go_cut [8] (fun v8 wx=>∃ (jC:Option Addr) (c11:Nat),v8=.slice jC (1+px.length) c11/\St K wx (ak (.slice jC (1+px.length) c11) 139 4 (1+px.length) ([.int .i64 j0,.int .u64 w0,.string ⟨#[]⟩,.int .u64 0]++ck px)::blk (b0+1) (.cells #[.int .i64 (x).az,(.slice ax x.sl.length cx),.string (x).hi,.bool (x).la,.int .u64 (x).ri] 43)::ak (.slice ax (x).sl.length cx) 69 2 (x).sl.length (aD (x).sl)::F))
 case first=>
  as_aux_lemma=>
  have Hs:=aqo hs;clear hs;refine aT [false,false,false,false,false,false,true,false,false,false,true,true,true] [6,10,11,12] (fun|11=>[6,10] | 12=>[11] | _=>[])
   (FrR K (blk (b0+1) (.cells #[.int .i64 (x).az,(.slice ax x.sl.length cx),.string (x).hi,.bool (x).la,.int .u64 (x).ri] 43)::blk b0 (.cells #[.int .i64 d.th,.int .i64 d.sn,.int .i64 d.no,.int .i64 d.ch,.int .i64 d.re,.int .i64 d.fa,.int .u64 d.cl] 29)::ak (.slice ax (x).sl.length cx) 69 2 (x).sl.length (aD (x).sl)::F) px.length [.int .i64 j0,.int .u64 w0,.string ⟨#[]⟩,.int .u64 0] (ck px))
   (fun W=>St K W (blk (b0+1) (.cells #[.int .i64 (x).az,(.slice ax x.sl.length cx),.string (x).hi,.bool (x).la,.int .u64 (x).ri] 43)::blk b0 (.cells #[.int .i64 d.th,.int .i64 d.sn,.int .i64 d.no,.int .i64 d.ch,.int .i64 d.re,.int .i64 d.fa,.int .u64 d.cl] 29)::ak (.slice ax (x).sl.length cx) 69 2 (x).sl.length (aD (x).sl)::F)) ?aS (by kernel_rfl) ?hB ?H ?iA ?h0 ?hI ?hR ?hE ?hQ
  case hB=>as_aux_lemma=>kernel_rfl
  case H=>
   intro W2 hs;have kp:=hs.k0;have kl:=hs.k1;clear hs;simp only[bK];repeat (go_big_quiet_step ((go_at_call 69;exact aW (Qa.out _))))
   refine wpQuiet_nil ?_
   rfl
  case iA=>rfl
  case h0=>exact⟨0,none,0,none,0,fun v h=>(by cases h),fun v h=>(by cases h),fun v h=>(by cases h),fun v h=>(by cases h),Hs.out.empty.empty⟩
  case hI=>
   rintro ρ W2 ⟨b6,Bj,c10,jC,c11,e1,e2,e3,e4,hs⟩;exact hs.tail.tail
  case hR=>
   rintro ρ W2 W3 ⟨b6,Bj,c10,jC,c11,e1,e2,e3,e4,hs⟩ hb;exact⟨b6,Bj,c10,jC,c11,e1,e2,e3,e4,hs.same hb⟩
  case hE=>
   refine⟨?e6,?Wu,?e11,?wP,trivial⟩;case e6=>
    intro o ho ρ W2 h hcl h6 hd2 af aC;obtain rfl:=aqu ho;replace aC:af=aj _ ρ [] _:=aC;have h11:ρ 11=none:=hcl.none (by simp) (show 6∈[6,10]by simp) h6
    obtain⟨b6,Bj,c10,jC,c11,e1,e2,e3,e4,hs⟩:=h;rw[h6,h11]at hs;simp only[aj]at aC;subst aC;go_wp2
    refine⟨rfl,_,rfl,W2.heap.size,Bj,c10,jC,c11,fun v hv=>(aqu hv).symm,e2,e3,e4,?_⟩
    show St K _ (Yv _ (ρ 11) _ _ _ _ _ _::_)
    rw[h11];exact hs.tail.made _
   case Wu=>
    intro o ho ρ W2 h hcl h10 hd2 af aC;obtain rfl:=aqu ho;replace aC:af=aj _ ρ [] _:=aC;obtain⟨b6,Bj,c10,jC,c11,e1,e2,e3,e4,hs⟩:=h;rw[h10]at hs;simp only[aj]at aC;subst aC;go_wp2_with fail
    refine(Qx.out _ _ hs.b4).mono ?_
    rintro e W3 ⟨va,rfl,hs'⟩;obtain⟨a2,c2,rfl,_,_⟩:=hs'.aF;go_wp2
    exact⟨rfl,_,rfl,b6,a2,c2,jC,c11,e1,fun v hv=>(aqu hv).symm,e3,e4,hs'.b3.tail.b1.u4.b1⟩
   case e11=>
    intro o ho ρ W2 h hcl h11 hd2 af aC;obtain rfl:=aqu ho;replace aC:af=aj _ ρ [6,10] _:=aC;obtain⟨v6,h6⟩:=aqr.1 (hd2 6 (by show _∈[6,10];simp))
    obtain⟨v10,h10⟩:=aqr.1 (hd2 10 (by show _∈[6,10];simp))
    have dr:ρ 12=none:=hcl.none (by simp) (show 11∈[11]by simp) h11
    obtain⟨b6,Bj,c10,jC,c11,e1,e2,e3,e4,hs⟩:=h;obtain rfl:=e1 v6 h6;obtain rfl:=e2 v10 h10;rw[h6,h10,h11]at hs;have hs:St K W2 (blk b6 (.cells ([.int .i64 j0,.int .u64 w0,.string ⟨#[]⟩,.int .u64 0]).toArray 139)::ak (.slice Bj px.length c10) 139 4 px.length (ck px)::blk (b0+1) (.cells #[.int .i64 (x).az,(.slice ax x.sl.length cx),.string (x).hi,.bool (x).la,.int .u64 (x).ri] 43)::blk b0 (.cells #[.int .i64 d.th,.int .i64 d.sn,.int .i64 d.no,.int .i64 d.ch,.int .i64 d.re,.int .i64 d.fa,.int .u64 d.cl] 29)::ak (.slice ax (x).sl.length cx) 69 2 (x).sl.length (aD (x).sl)::F):=hs;have hs:=hs.lM (n:=1) (size:=4) rfl (by simp[maxLen])
    have hnw:∀ j u,(ck px)[j]?=some u->∃ g off,Bj=some ⟨g,off,none⟩/\W2.cell? ⟨g,off+j,none⟩=some u:=fun j u hu=>by
     obtain⟨g,e,c⟩:=hs.b1.cP hu;exact⟨g,0,e,by rw[Nat.zero_add];exact c⟩
    have hno:Bj=none->px.length=0:=fun e=>by
     cases px with
     | nil=>rfl
     | cons p l=>
      obtain⟨g,off,e2,_⟩:=hnw 0 _ (ld (p::l) 0 p rfl).1;rw[e]at e2;cases e2
    simp only[aj,h6,h10,Option.getD_some,aL,Act.put,aqv]at aC;subst aC;refine cF _ _ 137 139 _ 1 px.length c10 4 40 [.int .i64 j0,.int .u64 w0,.string ⟨#[]⟩,.int .u64 0] (ck px) (.agg #[.int .i64 0,.int .u64 0,.string ⟨#[]⟩,.int .u64 0]) iv Bj hs rfl rfl Tryz.underlying137 cZ dc dg dh rfl (by decide) rfl rfl (x6 px) hno hnw (Mh px) (by omega) (by decide) ?_
    intro v' w' hs';obtain⟨a2,c2,rfl,_,_⟩:=hs'.aF;refine⟨rfl,_,rfl,b6,Bj,c10,a2,c2,e1,e2,fun v hv=>(aqu hv).symm,fun v hv=>?_,?_⟩
    ·have:ρ 12=some v:=hv
     rw[dr]at this;cases this
    ·show St K w' (ak _ _ _ _ _::dA (ρ 10) _::_)
     rw[h10];exact hs'
   case wP=>
    intro o ho ρ W2 h hcl dr hd2 af aC;obtain rfl:=aqu ho;replace aC:af=aj _ ρ [11] _:=aC;obtain⟨v11,h11⟩:=aqr.1 (hd2 11 (by show _∈[11];simp))
    obtain⟨b6,Bj,c10,jC,c11,e1,e2,e3,e4,hs⟩:=h;obtain rfl:=e3 v11 h11;simp only[aj,h11,Option.getD_some,aL,Act.put,aqv]at aC;subst aC;go_wp2
    exact⟨rfl,_,rfl,b6,Bj,c10,jC,c11,e1,e2,e3,fun v hv=>(aqu hv).symm,hs⟩
  case hQ=>
   intro ρ W2 h hall;obtain⟨v6,h6⟩:=aqr.1 (hall 6 (by simp))
   obtain⟨v10,h10⟩:=aqr.1 (hall 10 (by simp))
   obtain⟨v11,h11⟩:=aqr.1 (hall 11 (by simp))
   obtain⟨v12,dr⟩:=aqr.1 (hall 12 (by simp))
   obtain⟨b6,Bj,c10,jC,c11,e1,e2,e3,e4,hs⟩:=h;obtain rfl:=e4 v12 dr;rw[h11,h10]at hs;simp only[aj,h6,h10,h11,dr,Option.getD_some,aL,Act.put,aqv];clear h6 h10 h11 dr e1 e2 e3 e4 hall;go_wp2
   go_meet;exact⟨_,_,rfl,(hs.b1.tail).b2.tail⟩
 case rest=>
  clear hs;obtain⟨jC,c11,rfl,hs⟩:=hcut;have e1:[.int .i64 j0,.int .u64 w0,.string ⟨#[]⟩,.int .u64 0]++ck px=ck ((⟨j0,⟨w0,⟨#[]⟩,0⟩⟩:Pt)::px):=rfl;have e2:((⟨j0,⟨w0,⟨#[]⟩,0⟩⟩:Pt)::px).length=1+px.length:=by simp;omega
  rw[e1]at hs;have kp:=hs.k1;go_wp2_with fail
  refine(nj (cap:=cx) hs (hs.b2.cN (by omega))).mono ?_
  clear hs kp;rintro e w2 ⟨va,rfl,hs⟩;obtain⟨a2,c2,rfl,_,_⟩:=hs.aF;go_wp2_with fail
  refine(p8 hs).mono ?_
  clear hs;rintro e w3 ⟨b,rfl,hs⟩;have hs:=hs.made (.cells #[.pointer (some ⟨b,0,none⟩)] 145);obtain⟨ps,hps⟩:∃ ps,ps=(⟨j0,⟨w0,⟨#[]⟩,0⟩⟩:Pt)::px:=⟨_,rfl⟩;rw[← hps]at e2;have Ro:ps[0]?=some ⟨j0,⟨w0,⟨#[]⟩,0⟩⟩:=by rw[hps];rfl
  have hpl:0<ps.length:=by omega
  rw[← hps,← e2]at hs;obtain⟨g,rfl,_⟩:=hs.b3.cP (ld ps 0 _ Ro).1;have hs:=hs.b1;rw[show dY b=(if 0<ps.length then dY b else none)from(if_pos hpl).symm]at hs
  rw[← e2];have Hs:=aqo (hs.p9 (k:=0) (g:=g) (cap:=c11) (ps:=ps) (fun _=>by rw[Nat.zero_mul,Nat.sub_zero,Nat.sub_zero]))
  have yf:=aqo hps;clear hs Ro hpl e1 e2 hps;go_wp2
  go_ret;exact⟨_,b,g,c11,_,ps,rfl,yf.out,(Hs.out.b4.tail).b3.b1⟩
theorem qd {word:Int}{pg:Pg}{b bw bm bc g cap k acc:Nat}{va:Value}{ps:List Pt}{L:List aP}{p:Pt}(hk:ps[k]?=some p)(ha:acc<=1000000000000)
  (hs:St K w (mz b id word pg va g cap ps k::aJ bm bc L acc::ak (.slice (some ⟨g,0,none⟩) ps.length cap) 139 4 ps.length (ck ps)::blk bw (.cells #[.pointer (some ⟨b,0,none⟩)] 145)::F)) :
  Calls Tryz.prog 40 #[.pointer (some ⟨bw,0,none⟩),.pointer (some ⟨bm,0,none⟩)] w fun e w' => e=.returned (.bool (decide (k+1=ps.length))) /\
   St K w' (mz b id word pg va g cap ps (k+1)::aJ bm bc (aN L p.i p.c) (acc+1)::ak (.slice (some ⟨g,0,none⟩) ps.length cap) 139 4 ps.length (ck ps)::blk bw (.cells #[.pointer (some ⟨b,0,none⟩)] 145)::F):=by
 have Q:=aqo (Be hk ha hs);have kw:=hs.b3.k0;clear hs;go_enter Tryz.func40,Tryz.ntmps40
 go_wp2_with fail
 refine(Q.out).mono ?_
 rintro e w1 ⟨rfl,hs⟩;go_wp2
 go_ret;exact⟨rfl,hs⟩
end
set_option linter.unusedSectionVars false
def fq (L:List aP)(ps:List Pt):List aP:=ps.foldl (fun L p=>aN L p.i p.c) L
theorem ji (L:List aP)(p:Pt)(ps:List Pt):fq L (p::ps)=fq (aN L p.i p.c) ps:=rfl
theorem kF (L:List aP)(ps qs:List Pt):fq L (ps++qs)=fq (fq L ps) qs:=by unfold fq;rw[List.foldl_append]
theorem Bk {L:List aP}{ps:List Pt}{k:Nat}{p:Pt}(h:ps[k]?=some p):fq L (ps.take (k+1))=aN (fq L (ps.take k)) p.i p.c:=by
 have hlt:k<ps.length:=(aqq.1 h).1;rw[aqt hlt]at h;rw[List.take_succ_eq_append_getElem hlt,aqu h,kF];rfl
theorem kG:∀ (ps:List Pt)(L:List aP),(fq L ps).length=L.length
 | [],L=>rfl
 | p::ps,L=>by rw[ji,kG ps,aY]
theorem iI:∀ (ps:List Pt)(L:List aP)(j:Int),(∀ p,p∈ps->j≠p.i)->ah (fq L ps) j=ah L j
 | [],L,j,_=>rfl
 | p::ps,L,j,h=>by rw[ji,iI ps _ j (fun q hq=>h q (by simp[hq]))];exact bg (h p (by simp))
theorem wR:∀ (ps:List Pt)(L:List aP),(ps.map (·.i)).Nodup->(∀ p,p∈ps->0<=p.i/\p.i<L.length)->∀ p,p∈ps->ah (fq L ps) p.i=p.c
 | [],L,_,_,p,h=>by simp at h
 | q::ps,L,hn,hr,p,h=>by
  rw[List.map_cons,List.nodup_cons]at hn;rw[ji];rcases List.mem_cons.1 h with h1|h1
  ·subst h1
   rw[iI ps _ _ (fun r hr' e=>hn.1 (List.mem_map.2 ⟨r,hr',e.symm⟩))]
   have:=hr p (by simp)
   exact b9 this.1 (by exact_mod_cast this.2)
  ·exact wR ps _ hn.2 (fun r hr' => by rw[aY];exact hr r (by simp[hr'])) p h1
def Holds (L:List aP)(ps:List Pt):Prop:=∀ p,p∈ps->ah L p.i=p.c
section
variable {d:aR}(hd:d.Ok){id:Int}(h1:1<=id)(h2:id<=d.no)
include hd h1 h2
omit hd h1 h2 in
theorem lX:∀ (l:List Sl)(i:Nat),(i+l.length:Int)<=d.fa->∀ p,p∈fS d id i l->∃ j:Nat,i<=j/\j<i+l.length/\p.i=d.node id (4+(j:Int))
 | [],_,_,p,hp=>by simp[fS]at hp
 | s::l,i,hle,p,hp=>by
  simp only[List.length_cons]at hle;rcases List.mem_cons.1 hp with h|h
  ·subst h
   refine⟨i,Nat.le_refl _,by simp,?_⟩
   show d.slot id i=_
   unfold aR.slot;rw[if_pos ⟨by omega,by omega⟩]
  ·obtain⟨j,a,b,c⟩:=lX l (i+1) (by omega) p h
   exact⟨j,by omega,by simp;omega,c⟩
theorem rK:∀ (l:List Sl)(i:Nat),(i+l.length:Int)<=d.fa->((fS d id i l).map (·.i)).Nodup
 | [],_,_=>by simp[fS]
 | s::l,i,hle=>by
  simp only[List.length_cons]at hle;show(d.slot id i::(fS d id (i+1) l).map (·.i)).Nodup
  rw[List.nodup_cons];refine⟨fun hm=>?_,rK l (i+1) (by omega)⟩
  obtain⟨p,hp,e⟩:=List.mem_map.1 hm;obtain⟨j,a,b,c⟩:=lX l (i+1) (by omega) p hp
  have es:d.slot id i=d.node id (4+(i:Int)):=by
   unfold aR.slot;rw[if_pos ⟨by omega,by omega⟩]
  rw[c,es]at e;exact dw hd h1 h2 (by omega) (by omega) (by omega) (by omega) (by omega) e
theorem fH {pg:Pg}(hle:(pg.sl.length:Int)<=d.fa):∀ p,p∈bN d id pg->∃ k:Int,1<=k/\k<d.fa+4/\p.i=d.node id k:=by
 intro p hp;have f1:=hd.fw;rcases List.mem_append.1 hp with h|h
 ·obtain⟨j,a,b,c⟩:=lX pg.sl 0 (by omega) p h
  exact⟨4+(j:Int),by omega,by omega,c⟩
 ·simp only[List.mem_cons,List.not_mem_nil,or_false]at h
  rcases h with h|h|h <;> subst h
  ·exact⟨2,by omega,by omega,rfl⟩
  ·exact⟨3,by omega,by omega,rfl⟩
  ·exact⟨1,by omega,by omega,rfl⟩
theorem nD {pg:Pg}(hle:(pg.sl.length:Int)<=d.fa):((bN d id pg).map (·.i)).Nodup:=by
 have f1:=hd.fw;unfold bN;rw[List.map_append,List.nodup_append];refine⟨rK hd h1 h2 pg.sl 0 (by omega),?_,fun a ha b hb=>?_⟩
 ·have e1:=dw hd h1 h2 (k:=2) (k' := 3) (by omega) (by omega) (by omega) (by omega) (by omega)
  have e2:=dw hd h1 h2 (k:=2) (k' := 1) (by omega) (by omega) (by omega) (by omega) (by omega)
  have e3:=dw hd h1 h2 (k:=3) (k' := 1) (by omega) (by omega) (by omega) (by omega) (by omega)
  simp[e1,e2,e3]
 ·obtain⟨p,hp,rfl⟩:=List.mem_map.1 ha
  obtain⟨j,a1,b1,c⟩:=lX pg.sl 0 (by omega) p hp
  rw[c];simp only[List.map_cons,List.map_nil,List.mem_cons,List.not_mem_nil,or_false]at hb;rcases hb with rfl|rfl|rfl <;> exact dw hd h1 h2 (by omega) (by omega) (by omega) (by omega) (by omega)
theorem Bl {L:List aP}{pg:Pg}(hlen:(L.length:Int)=d.cells)(hle:(pg.sl.length:Int)<=d.fa)(lj:pg.la=true->pg.hi=⟨#[]⟩):Holds (eY d id pg L) (bN d id pg):=by
 have f1:=hd.fw;have n1:=bU hd h1 h2 (k:=1) (by omega) (by omega)
 have n2:=bU hd h1 h2 (k:=2) (by omega) (by omega)
 have n3:=bU hd h1 h2 (k:=3) (by omega) (by omega)
 have ne:∀ (k:Int) (m:Nat),0<=k->k<=3->0<=m->m<0+pg.sl.length->d.node id k≠d.node id (4+(m:Int)):=fun k m a b _ c=>dw hd h1 h2 a (by omega) (by omega) (by omega) (by omega)
 intro p hp;rcases List.mem_append.1 hp with h|h
 ·have key:∀ (l:List Sl) (i:Nat) (L':List aP),(L'.length:Int)=d.cells->(i+l.length:Int)<=d.fa->∀ p,p∈fS d id i l->ah (jR d id i l L') p.i=p.c:=by
   intro l;induction l with
   | nil=>intro i L' _ _ p hp;simp[fS]at hp
   | cons s l ih=>
    intro i L' hl' hle' p hp;simp only[List.length_cons]at hle';show ah (jR d id (i+1) l (aN L' (d.node id (4+(i:Int))) ⟨s.r,s.k,0⟩)) p.i=p.c
    rcases List.mem_cons.1 hp with h|h
    ·subst h
     have es:d.slot id i=d.node id (4+(i:Int)):=by
      unfold aR.slot;rw[if_pos ⟨by omega,by omega⟩]
     show ah _ (d.slot id i)=_
     rw[es,eO _ _ _ _ (fun k a b=>dw hd h1 h2 (by omega) (by omega) (by omega) (by omega) (by omega))]
     have hi:=bU hd h1 h2 (k:=4+(i:Int)) (by omega) (by omega)
     exact b9 hi.2.1 (by omega)
    ·exact ih (i+1) _ (by rw[aY];exact hl') (by omega) p h
  exact key pg.sl 0 _ (by unfold nr;rw[aY,aY,aY];exact hlen) (by omega) p h
 ·simp only[List.mem_cons,List.not_mem_nil,or_false]at h
  unfold eY;rcases h with h|h|h <;> subst h
  ·show ah _ (d.node id 2)=mr pg
   rw[eO _ _ _ _ (fun k a b=>ne 2 k (by omega) (by omega) a b)]
   unfold nr;rw[bg (dw hd h1 h2 (by omega) (by omega) (by omega) (by omega) (by omega)),b9 n2.2.1 (by rw[aY];omega)]
   unfold mr;cases hb:pg.la with
   | true=>rw[lj hb];rfl
   | false=>rfl
  ·show ah _ (d.node id 3)=_
   rw[eO _ _ _ _ (fun k a b=>ne 3 k (by omega) (by omega) a b)]
   unfold nr;rw[b9 n3.2.1 (by rw[aY,aY];omega)]
  ·show ah _ (d.node id 1)=_
   rw[eO _ _ _ _ (fun k a b=>ne 1 k (by omega) (by omega) a b)]
   unfold nr;rw[bg (dw hd h1 h2 (by omega) (by omega) (by omega) (by omega) (by omega)),bg (dw hd h1 h2 (by omega) (by omega) (by omega) (by omega) (by omega)),b9 n1.2.1 (by omega)]
omit hd h1 h2 in
theorem wS {α β : Type}{f:α -> β}:∀ {l:List α},(l.map f).Nodup->∀ {a b:α},a∈l->b∈l->f a=f b->a=b
 | [],_,a,b,ha,_,_=>by simp at ha
 | c::l,hn,a,b,ha,hb,e=>by
  rw[List.map_cons,List.nodup_cons]at hn;rcases List.mem_cons.1 ha with h|h <;> rcases List.mem_cons.1 hb with h' | h'
  ·rw[h,h']
  ·subst h;exact absurd (List.mem_map.2 ⟨b,h',e.symm⟩) hn.1
  ·subst h';exact absurd (List.mem_map.2 ⟨a,h,e⟩) hn.1
  ·exact wS hn.2 h h' e
theorem Mm {L:List aP}{x y:Pg}{mid:List Pt}{c0 c1:aP}(hx:Holds L (bN d id x))(hnew:lh (bN d id x) (bN d id y) mid)(hlen:(L.length:Int)=d.cells)(Rp:(y.sl.length:Int)<=d.fa) :
  Holds (fq L (⟨d.node id 0,c0⟩::mid++[⟨d.node id 0,c1⟩])) (bN d id y):=by
 intro p hp;have f1:=hd.fw;obtain⟨k,k1,k2,ek⟩:=fH hd h1 h2 Rp p hp;have hne:p.i≠d.node id 0:=by rw[ek];exact dw hd h1 h2 (by omega) k2 (by omega) (by omega) (by omega)
 have hnd:=nD hd h1 h2 Rp;rw[List.cons_append,ji,kF];show ah (aN _ (d.node id 0) c1) p.i=p.c
 rw[bg hne];by_cases hm:p∈mid
 ·refine wR mid _ (hnd.sublist (hnew.1.map _)) (fun q hq=>?_) p hm
  obtain⟨kq,kq1,kq2,eq⟩:=fH hd h1 h2 Rp q (hnew.1.subset hq);have:=bU hd h1 h2 (k:=kq) (by omega) kq2
  rw[aY,eq];omega
 ·have hpx:p∈bN d id x:=Classical.byContradiction fun hn=>hm (hnew.2 p hp hn)
  rw[iI mid _ _ (fun q hq e=>hm (by rw[wS hnd hp (hnew.1.subset hq) e];exact hq)),bg hne]
  exact hx p hpx
theorem Mn {L:List aP}{y:Pg}{mid:List Pt}{c0 c1:aP}(hsub:mid.Sublist (bN d id y))(hlen:(L.length:Int)=d.cells)(Rp:(y.sl.length:Int)<=d.fa){k:Nat}(hk:1<=k)(hk2:k<=mid.length+1) :
  ah (fq L (List.take k (⟨d.node id 0,c0⟩::mid++[⟨d.node id 0,c1⟩]))) (d.node id 0)=c0:=by
 have f1:=hd.fw;obtain⟨k,rfl⟩:∃ j,k=j+1:=⟨k-1,by omega⟩
 rw[List.cons_append,List.take_succ_cons,List.take_append_of_le_length (by omega),ji]
 rw[iI _ _ _ (fun q hq=>?_)]
 ·have n0:=bU hd h1 h2 (k:=0) (by omega) (by omega)
  show ah (aN L (d.node id 0) c0) (d.node id 0)=c0
  exact b9 n0.2.1 (by omega)
 ·obtain⟨kq,kq1,kq2,eq⟩:=fH hd h1 h2 Rp q (hsub.subset (List.mem_of_mem_take hq))
  rw[eq];exact dw hd h1 h2 (by omega) (by omega) (by omega) kq2 (by omega)
theorem um {L:List aP}{mid:List Pt}{c0 c1:aP}(hlen:(L.length:Int)=d.cells):ah (fq L (⟨d.node id 0,c0⟩::mid++[⟨d.node id 0,c1⟩])) (d.node id 0)=c1:=by
 have f1:=hd.fw;have n0:=bU hd h1 h2 (k:=0) (by omega) (by omega)
 rw[kF];show ah (aN _ (d.node id 0) c1) (d.node id 0)=c1
 exact b9 n0.2.1 (by rw[kG];omega)
end
end Go.Proofs.YtlpdhhhgckpcfaaGreat
