/- The writer of a node (package node). -/
import Derived.Maps.OwnSet
import Derived.DeepKeys4
import Derived.Test.YtlpdhhhgckpcfaaGreatNodeB
namespace Go.Proofs.YtlpdhhhgckpcfaaGreat
set_option linter.unusedSimpArgs false
set_option linter.unusedVariables false
open Go.RowKit
set_option maxHeartbeats 16000000
set_option maxRecDepth 100000
structure Pt where
 i:Int
 c:aQ
def tF (p:Pt):List Value:=[.int .i64 p.i,.int .u64 p.c.n,.string p.c.k,.int .u64 p.c.m]
def cm (l:List Pt):List Value:=l.flatMap tF
theorem yJ (l:List Pt):(cm l).length=l.length*4:=by
 induction l with
 | nil=>rfl
 | cons s l ih=>rw[show cm (s::l)=tF s++cm l from rfl,List.length_append,ih];simp[tF];omega
theorem iQ (l l':List Pt):cm (l++l')=cm l++cm l' := by unfold cm;rw[List.flatMap_append]
theorem lu (l:List Pt):∀(i:Nat)(s:Pt),l[i]?=some s->(cm l)[i*4]?=some (.int .i64 s.i)/\(cm l)[i*4+1]?=some (.int .u64 s.c.n)/\(cm l)[i*4+2]?=some (.string s.c.k)/\(cm l)[i*4+3]?=some (.int .u64 s.c.m):=by
 induction l with
 | nil=>intro i s h;simp at h
 | cons a l ih=>
  intro i s h;have e:cm (a::l)=.int .i64 a.i :: .int .u64 a.c.n :: .string a.c.k :: .int .u64 a.c.m::cm l:=rfl;rw[e];cases i with
  | zero=>simp at h;subst h;exact⟨rfl,rfl,rfl,rfl⟩
  | succ i=>
   have:=ih i s (by simpa using h)
   rw[show(i+1)*4=i*4+4 by omega]
   simpa using this
theorem Nq (l:List Pt):∀u,u∈cm l->u.oneCell'=true:=by
 intro u hu;obtain⟨s,_,c⟩:=List.mem_flatMap.1 hu;simp[tF]at c;rcases c with rfl|rfl|rfl|rfl <;> rfl
def gA (d:aU)(id:Int):Nat->List Sl->List Pt
 | _,[]=>[]
 | i,s::l=>⟨d.slot id i,⟨s.r,s.k,0⟩⟩::gA d id (i+1) l
theorem fe {d:aU}{id:Int}:∀(l:List Sl)(i:Nat),(gA d id i l).length=l.length
 | [],_=>rfl
 | s::l,i=>by simp[gA,fe l]
theorem uM {d:aU}{id:Int}:∀(l:List Sl)(i:Nat)(s:Sl),gA d id i (l++[s])=gA d id i l++[⟨d.slot id ((i+l.length:Nat):Int),⟨s.r,s.k,0⟩⟩]
 | [],i,s=>by simp[gA]
 | x::l,i,s=>by
  show _::gA d id (i+1) (l++[s])=_::_
  rw[uM l (i+1) s];simp only[List.length_cons];rw[show i+1+l.length=i+(l.length+1)by omega]
  rfl
def mI (pg:Pg):aQ:=cond pg.la ⟨0,⟨#[]⟩,1⟩ ⟨0,pg.hi,0⟩
def bQ (d:aU)(id:Int)(pg:Pg):List Pt:=
 gA d id 0 pg.sl++[⟨d.node id 2,mI pg⟩,⟨d.node id 3,⟨pg.ri,⟨#[]⟩,0⟩⟩,⟨d.node id 1,⟨pg.sl.length,⟨#[]⟩,pg.aA⟩⟩]
theorem yK:(Tryz.prog.info? 139).map (fun i=>(i.zero,i.size,i.bytes))=some (some (.agg #[.int .i64 0,.int .u64 0,.string ⟨#[]⟩,.int .u64 0]),4,40):=by kernel_rfl
section
variable {K:aM}{w:World}{F:List aC}{pg:Pg}{a:Option Addr}{cap:Nat}{d:aU}{id:Int}
theorem uN (hd:d.Ok)(hid:0<=id/\id<18446744073709551616)(cj:0<=pg.aA/\pg.aA<1000000)(hle:(pg.sl.length:Int)<=d.fa)
  (c:St K w (az (.slice a pg.sl.length cap) 69 2 pg.sl.length (aF pg.sl)::F)) :
  Calls Tryz.prog 89 #[.agg #[.int .i64 d.th,.int .i64 d.sn,.int .i64 d.no,.int .i64 d.ch,.int .i64 d.re,.int .i64 d.fa,.int .u64 d.cl],.int .u64 id,.agg #[.int .i64 (pg).aA,(.slice a pg.sl.length cap),.string (pg).hi,.bool (pg).la,.int .u64 (pg).ri]] w fun e w' => ∃va,e=.returned va /\
   St K w' (az va 139 4 (bQ d id pg).length (cm (bQ d id pg))::az (.slice a pg.sl.length cap) 69 2 pg.sl.length (aF pg.sl)::F):=by
 obtain⟨n,O⟩:∃n,n=pg.sl.length:=⟨_,rfl⟩;have pQ:=hd.m7;obtain⟨P,Q,R,U,V⟩:=info_parts yK;have Qs:=ass (fun(i:Int) (w:World)=>Ai d hd id i hid.1 hid.2 w)
 have Y:=ass (fun(w:World)=>tY d hd id hid.1 hid.2 w)
 have Z:=ass (fun(w:World)=>qZ d hd id hid.1 hid.2 w)
 have Q1:=ass (fun(w:World)=>tX d hd id hid.1 hid.2 w)
 obtain⟨o,X⟩:∃o,o=pg.la:=⟨_,rfl⟩;have hnl:n<=100:=by omega
 rw[←O]at c ⊢;rw[←X];have A:=ass O;have Ho:=ass X;clear O X hle;have c:=(c.made (.cells #[.int .i64 d.th,.int .i64 d.sn,.int .i64 d.no,.int .i64 d.ch,.int .i64 d.re,.int .i64 d.fa,.int .u64 d.cl] 29)).made (.cells #[.int .i64 pg.aA,.slice a n cap,.string pg.hi,.bool o,.int .u64 pg.ri] 43);rw[World.size_alloc]at c;have c:=c.cJ (T:=139) (size:=4);go_enter Tryz.func89,Tryz.ntmps89
 go_wp2
 go_loopw [14,7] (fun v14 v7 wr=>∃(k:Nat),k<=n/\v14=.int .i64 k/\St K wr (az v7 139 4 k (cm (gA d id 0 (pg.sl.take k)))::blk (w.heap.size+1) (.cells #[.int .i64 pg.aA,.slice a n cap,.string pg.hi,.bool o,.int .u64 pg.ri] 43)::blk w.heap.size (.cells #[.int .i64 d.th,.int .i64 d.sn,.int .i64 d.no,.int .i64 d.ch,.int .i64 d.re,.int .i64 d.fa,.int .u64 d.cl] 29)::az (.slice a n cap) 69 2 n (aF pg.sl)::F)) (fun v _ _=>n-(intOf v).toNat)
 case atStart=>exact⟨0,by omega,rfl,c⟩
 case round=>
  clear c;obtain⟨k,hk,rfl,c⟩:=hrel;by_cases D:k<n
  ·have B:k<pg.sl.length:=by rw[←A.out];exact D
   have fB:=(c.b3).cM (by rw[←A.out];omega)
   obtain⟨b1,off1,rfl,_,c0,c1⟩:=fB.2 k pg.sl[k] (asx B);have f:cm (gA d id 0 (pg.sl.take (k+1)))=cm (gA d id 0 (pg.sl.take k))++[.int .i64 (d.slot id (k:Int)),.int .u64 pg.sl[k].r,.string pg.sl[k].k,.int .u64 0]:=by
    rw[List.take_succ_eq_append_getElem B,uM,iQ,Nat.zero_add,List.length_take,Nat.min_eq_left (by omega)]
    rfl
   have Hx:=ass f;generalize pg.sl[k]=u at *;generalize cm (gA d id 0 (pg.sl.take k))=xs at *;have M:=c.k2;clear B fB f;obtain⟨a7,c7,rfl,_,_⟩:=c.aJ;have c:=c.made (.cells #[.string u.k,.int .u64 u.r] 69);go_upto_region 5 with(fail)
   refine dc c ?_
   clear c c0 c1 M;intro W c;have q:=ass c;clear c;refine eW _ 10 ?aS 30 (.cells #[.int .i64 (d.slot id (k:Int)),.int .u64 u.r,.string u.k,.int .u64 0] 139) (fun W=> .slice (some ⟨W.heap.size,0,none⟩) 1 1) rfl rfl (by kernel_rfl) ?hB rfl (fun _ _ _ _ h=>h) ?H ?yo ?Ah
   case H=>
    intro W2 E;have c:=q.out.same E;have kx:=c.k0;have M:=c.b3.k0;simp only[List.take_succ_cons,List.take_zero,List.drop_succ_cons,List.drop_zero,Act.put,List.setIfInBounds_toArray,List.set_cons_zero,List.set_cons_succ,Act.eval];repeat (go_big_quiet_step ((go_at_call 127;exact aZ (Qs.out _ _))))
    refine wpQuiet_nil ?_
    rfl
   case hB=>as_aux_lemma=>kernel_rfl
   case yo=>
    intro w';kernel_rfl
   case Ah=>
    intro s G l m;have c:=((q.out.same l).made (.cells [.int .i64 (d.slot id (k:Int)),.int .u64 u.r,.string u.k,.int .u64 0].toArray 139)).same (by rw[World.size_alloc];exact m)
    have hk:=c.k0;have t:=ass (fun(j:Nat) (x:Value) (hu:[Value.int .i64 (d.slot id (k:Int)),.int .u64 u.r,.string u.k,.int .u64 0][j]?=some x)=>(show ∃g off,(some ⟨s.heap.size,0,none⟩:Option Addr)=some ⟨g,off,none⟩/\G.cell? ⟨g,off+j,none⟩=some x from⟨_,0,rfl,by rw[Nat.zero_add,hk j];simpa using hu⟩))
    clear hk;have z:=ass c.b2;clear c;simp only[List.drop_succ_cons,List.drop_zero];refine cK _ _ 137 139 _ k 1 1 4 40 xs [.int .i64 (d.slot id (k:Int)),.int .u64 u.r,.string u.k,.int .u64 0] (.agg #[.int .i64 0,.int .u64 0,.string ⟨#[]⟩,.int .u64 0]) P (some ⟨s.heap.size,0,none⟩) z.out rfl rfl Tryz.underlying137 Q R U V rfl (by decide) rfl rfl rfl (fun e=>by cases e) t.out (fun x hu=>by simp at hu;rcases hu with rfl|rfl|rfl|rfl <;> rfl) (by omega) (by decide) ?_
    clear z t;intro v' w6 c;rw[←Hx.out]at c;go_wp2
    go_roundw
    case rel=>exact⟨k+1,by omega,by go_num,c.b9.b9⟩
    case measure=>simp[intOf];omega
  ·obtain rfl:k=n:=by omega
   have kK:pg.sl.take k=pg.sl:=List.take_of_length_le (by rw[←A.out];exact Nat.le_refl _)
   rw[kK]at c;obtain⟨xs,C⟩:∃xs,xs=cm (gA d id 0 pg.sl):=⟨_,rfl⟩;rw[←C]at c;have I:=ass C.symm;clear C kK D hk;have N:=c.k1;obtain⟨a7,c7,rfl,_,_⟩:=c.aJ;have kq:=fun(x:Obj)=>(c.made x).k2
   cases o with
   | true=>
    have c:=c.made (.cells #[.int .u64 0,.string ⟨#[]⟩,.int .u64 1] 63);have J:cm (bQ d id pg)=xs++[.int .i64 (d.node id 2),.int .u64 0,.string ⟨#[]⟩,.int .u64 1,.int .i64 (d.node id 3),.int .u64 pg.ri,.string ⟨#[]⟩,.int .u64 0,.int .i64 (d.node id 1),.int .u64 k,.string ⟨#[]⟩,.int .u64 pg.aA]/\(bQ d id pg).length=k+3:=by
     unfold bQ mI;rw[←Ho.out,iQ,I.out,←A.out];exact⟨rfl,by simp[fe,←A.out]⟩
    have Hf:=ass J;clear J;go_upto_region 10 with(fail)
    refine dc c ?_
    clear c N kq;intro W c;have q:=ass c;clear c;refine eW _ 24 ?aSt 64 (.cells [.int .i64 (d.node id 2),.int .u64 0,.string ⟨#[]⟩,.int .u64 1,.int .i64 (d.node id 3),.int .u64 pg.ri,.string ⟨#[]⟩,.int .u64 0,.int .i64 (d.node id 1),.int .u64 k,.string ⟨#[]⟩,.int .u64 pg.aA].toArray 139) (fun W=> .slice (some ⟨W.heap.size,0,none⟩) 3 3) rfl rfl (by kernel_rfl) ?hBt rfl (fun _ _ _ _ h=>h) ?Ht ?halt ?Aht
    case Ht=>
     intro W2 E;have c:=q.out.same E;have kx:=c.k0;have N:=c.k2;have M:=c.b3.k0;simp only[List.take_succ_cons,List.take_zero,List.drop_succ_cons,List.drop_zero,Act.put,List.setIfInBounds_toArray,List.set_cons_zero,List.set_cons_succ,Act.eval];repeat (go_big_quiet_step (first|(go_at_call 112;exact aZ (Y.out _))|(go_at_call 128;exact aZ (Z.out _))|(go_at_call 129;exact aZ (Q1.out _))))
     refine wpQuiet_nil ?_
     rfl
    case hBt=>as_aux_lemma=>kernel_rfl
    case halt=>
     intro w';kernel_rfl
    case Aht=>
     intro s G l m;have c:=((q.out.same l).made (.cells [.int .i64 (d.node id 2),.int .u64 0,.string ⟨#[]⟩,.int .u64 1,.int .i64 (d.node id 3),.int .u64 pg.ri,.string ⟨#[]⟩,.int .u64 0,.int .i64 (d.node id 1),.int .u64 k,.string ⟨#[]⟩,.int .u64 pg.aA].toArray 139)).same (by rw[World.size_alloc];exact m)
     have hk:=c.k0;have t:=ass (fun(j:Nat) (x:Value) (hu:([.int .i64 (d.node id 2),.int .u64 0,.string ⟨#[]⟩,.int .u64 1,.int .i64 (d.node id 3),.int .u64 pg.ri,.string ⟨#[]⟩,.int .u64 0,.int .i64 (d.node id 1),.int .u64 k,.string ⟨#[]⟩,.int .u64 pg.aA]:List Value)[j]?=some x)=>(show ∃g off,(some ⟨s.heap.size,0,none⟩:Option Addr)=some ⟨g,off,none⟩/\G.cell? ⟨g,off+j,none⟩=some x from⟨_,0,rfl,by rw[Nat.zero_add,hk j];simpa using hu⟩))
     clear hk;have z:=ass c.b2;clear c;simp only[List.drop_succ_cons,List.drop_zero];refine cK _ _ 137 139 _ k 3 3 4 40 xs [.int .i64 (d.node id 2),.int .u64 0,.string ⟨#[]⟩,.int .u64 1,.int .i64 (d.node id 3),.int .u64 pg.ri,.string ⟨#[]⟩,.int .u64 0,.int .i64 (d.node id 1),.int .u64 k,.string ⟨#[]⟩,.int .u64 pg.aA] (.agg #[.int .i64 0,.int .u64 0,.string ⟨#[]⟩,.int .u64 0]) P (some ⟨s.heap.size,0,none⟩) z.out rfl rfl Tryz.underlying137 Q R U V rfl (by decide) rfl rfl rfl (fun e=>by cases e) t.out (fun x hu=>by simp at hu;rcases hu with rfl|rfl|rfl|rfl|rfl|rfl|rfl|rfl|rfl|rfl|rfl|rfl <;> rfl) (by omega) (by decide) ?_
     clear z t;intro v' w6 c;go_wp2
     go_ret;exact⟨_,rfl,by rw[Hf.out.1,Hf.out.2];exact c.b9.b9.b9.b9⟩
   | false=>
    have c:=c.made (.cells #[.int .u64 0,.string pg.hi,.int .u64 0] 63);have J:cm (bQ d id pg)=xs++[.int .i64 (d.node id 2),.int .u64 0,.string pg.hi,.int .u64 0,.int .i64 (d.node id 3),.int .u64 pg.ri,.string ⟨#[]⟩,.int .u64 0,.int .i64 (d.node id 1),.int .u64 k,.string ⟨#[]⟩,.int .u64 pg.aA]/\(bQ d id pg).length=k+3:=by
     unfold bQ mI;rw[←Ho.out,iQ,I.out,←A.out];exact⟨rfl,by simp[fe,←A.out]⟩
    have Hf:=ass J;clear J;go_upto_region 10 with(fail)
    refine dc c ?_
    clear c N kq;intro W c;have q:=ass c;clear c;refine eW _ 24 ?aSf 64 (.cells [.int .i64 (d.node id 2),.int .u64 0,.string pg.hi,.int .u64 0,.int .i64 (d.node id 3),.int .u64 pg.ri,.string ⟨#[]⟩,.int .u64 0,.int .i64 (d.node id 1),.int .u64 k,.string ⟨#[]⟩,.int .u64 pg.aA].toArray 139) (fun W=> .slice (some ⟨W.heap.size,0,none⟩) 3 3) rfl rfl (by kernel_rfl) ?hBf rfl (fun _ _ _ _ h=>h) ?Hf ?half ?Ahf
    case Hf=>
     intro W2 E;have c:=q.out.same E;have kx:=c.k0;have N:=c.k2;have M:=c.b3.k0;simp only[List.take_succ_cons,List.take_zero,List.drop_succ_cons,List.drop_zero,Act.put,List.setIfInBounds_toArray,List.set_cons_zero,List.set_cons_succ,Act.eval];repeat (go_big_quiet_step (first|(go_at_call 112;exact aZ (Y.out _))|(go_at_call 128;exact aZ (Z.out _))|(go_at_call 129;exact aZ (Q1.out _))))
     refine wpQuiet_nil ?_
     rfl
    case hBf=>as_aux_lemma=>kernel_rfl
    case half=>
     intro w';kernel_rfl
    case Ahf=>
     intro s G l m;have c:=((q.out.same l).made (.cells [.int .i64 (d.node id 2),.int .u64 0,.string pg.hi,.int .u64 0,.int .i64 (d.node id 3),.int .u64 pg.ri,.string ⟨#[]⟩,.int .u64 0,.int .i64 (d.node id 1),.int .u64 k,.string ⟨#[]⟩,.int .u64 pg.aA].toArray 139)).same (by rw[World.size_alloc];exact m)
     have hk:=c.k0;have t:=ass (fun(j:Nat) (x:Value) (hu:([.int .i64 (d.node id 2),.int .u64 0,.string pg.hi,.int .u64 0,.int .i64 (d.node id 3),.int .u64 pg.ri,.string ⟨#[]⟩,.int .u64 0,.int .i64 (d.node id 1),.int .u64 k,.string ⟨#[]⟩,.int .u64 pg.aA]:List Value)[j]?=some x)=>(show ∃g off,(some ⟨s.heap.size,0,none⟩:Option Addr)=some ⟨g,off,none⟩/\G.cell? ⟨g,off+j,none⟩=some x from⟨_,0,rfl,by rw[Nat.zero_add,hk j];simpa using hu⟩))
     clear hk;have z:=ass c.b2;clear c;simp only[List.drop_succ_cons,List.drop_zero];refine cK _ _ 137 139 _ k 3 3 4 40 xs [.int .i64 (d.node id 2),.int .u64 0,.string pg.hi,.int .u64 0,.int .i64 (d.node id 3),.int .u64 pg.ri,.string ⟨#[]⟩,.int .u64 0,.int .i64 (d.node id 1),.int .u64 k,.string ⟨#[]⟩,.int .u64 pg.aA] (.agg #[.int .i64 0,.int .u64 0,.string ⟨#[]⟩,.int .u64 0]) P (some ⟨s.heap.size,0,none⟩) z.out rfl rfl Tryz.underlying137 Q R U V rfl (by decide) rfl rfl rfl (fun e=>by cases e) t.out (fun x hu=>by simp at hu;rcases hu with rfl|rfl|rfl|rfl|rfl|rfl|rfl|rfl|rfl|rfl|rfl|rfl <;> rfl) (by omega) (by decide) ?_
     clear z t;intro v' w6 c;go_wp2
     go_ret;exact⟨_,rfl,by rw[Hf.out.1,Hf.out.2];exact c.b9.b9.b9.b9⟩
end
open Go.RowKit Go.Maps
theorem oo:Maps.Keyed Tryz.prog 139:=Maps.Keyed.of_law (deep_law_laid (by kernel_rfl) (m:=3) (by omega) (of_decide_eq_true (by kernel_rfl)) (by kernel_rfl) (by kernel_rfl))
structure yL (p:Pt):Prop where
 i:(Lit.int .i64 p.i).wf=true
 n:(Lit.int .u64 p.c.n).wf=true
 k:p.c.k.size<=maxLen
 m:(Lit.int .u64 p.c.m).wf=true
def Ku (p:Pt):Value:= .agg #[.int .i64 p.i,.int .u64 p.c.n,.string p.c.k,.int .u64 p.c.m]
theorem Zd {p q:Pt}(h:Ku p=Ku q):p=q:=by
 obtain⟨i,n,k,m⟩:=p;obtain⟨c,e,k',f⟩:=q;simp[Ku]at h;obtain⟨rfl,rfl,rfl,rfl⟩:=h;rfl
theorem Kv {p:Pt}(h:yL p):∃c,keyOf Tryz.prog 139 (Ku p)=some c:=by
 have e:Tryz.prog.keyType 139=true:=by kernel_rfl
 have f:(Ku p).formed Tryz.prog 139=true:=by
  unfold Ku Value.formed;rw[Tryz.underlying139];simp only;kernel_rfl
 have j:139<Tryz.prog.types.size:=of_decide_eq_true (by kernel_rfl)
 obtain⟨d,hd⟩:∃d,Tryz.prog.types.size=d+2:=⟨Tryz.prog.types.size-2,by omega⟩
 have l:Tryz.prog.cellsOf 139=4:=by kernel_rfl
 have o:Tryz.prog.cellsOf 3=1:=by kernel_rfl
 have q:Tryz.prog.cellsOf 63=3:=by kernel_rfl
 have r:Tryz.prog.cellsOf 23=1:=by kernel_rfl
 have s:Tryz.prog.cellsOf 9=1:=by kernel_rfl
 have h0:=h.i;have h1:=h.n;have h2:=h.k;have t:=h.m;unfold keyOf;rw[Tryz.underlying139];simp only[e,f,Bool.and_self,if_true,hd];simp[Program.keyLits,Ku,Value.cells,Tryz.underlying139,Tryz.underlying3,Tryz.underlying63,Tryz.underlying23,Tryz.underlying9,l,o,q,r,s,h0,h1,h2,t];rw[if_pos (fun i hi=>by rcases(show i=0\/i=1\/i=2 by omega)with rfl|rfl|rfl <;> simp)]
 exact⟨_,rfl⟩
abbrev UH:=Unit
def aeQ (w:World)(b:Nat)(S:List Pt):Prop:=
 ∃(n:Nat) (D:DataW UH),n<=S.length/\w.ownsMap Tryz.prog 139 (plainElem Tryz.prog 4) b n D /\
  ∀p kl,yL p->keyOf Tryz.prog 139 (Ku p)=some kl->(p∈S->D.atKey kl (.lit (.bool false))=.lit (.bool true))/\(p ∉ S->D.atKey kl (.lit (.bool false))=.lit (.bool false))
theorem yM {w w':World}{b n:Nat}{D:DataW UH}(h:w.ownsMap Tryz.prog 139 (plainElem Tryz.prog 4) b n D)(c:w'.heap[b]?=w.heap[b]?):w'.ownsMap Tryz.prog 139 (plainElem Tryz.prog 4) b n D:=by
 obtain⟨es,clock,h1,F,e,f⟩:=h;exact⟨es,clock,by rw[c];exact h1,F,e,f⟩
def lz (b:Nat)(S:List Pt):aC where
 foot:=[b]
 ok:=fun w=>aeQ w b S
 loc:=fun w w' h ⟨n,D,hn,ho,hk⟩=>⟨n,D,hn,yM ho (h b (by simp)),hk⟩
 dom:=fun w ⟨n,D,hn,ho,hk⟩ b' hb=>by simp at hb;subst hb;exact ho.lt
section
variable {K:aM}{w:World}{F:List aC}{b:Nat}{S:List Pt}{p:Pt}
theorem St.Ii (h:St K w F):St K (w.alloc (.map #[] 0)) (lz w.heap.size []::F):=by
 refine St.zK (ms:=[]) (ms' := [lz w.heap.size []]) (F:=F) h ((eU.refl _ _).alloc _) (fun c hc=>?_) (fun b e=>?_) (by simp[cY,lz])
 ·simp at hc;subst hc
  exact⟨0,.map [],Nat.le_refl _,World.ownsMap_made w _ _ _,fun p f _ _=>⟨fun h=>by simp at h,fun _=>rfl⟩⟩
 ·simp[cY,lz]at e;subst e;exact .inr (Nat.le_refl _)
theorem qB {v:Value}{x:Bool}{ps:List MemPlace}(h:plainElem (H:=UH) Tryz.prog 4 v=some (.lit (.bool x),ps)):v=.bool x:=by
 cases v with
 | bool y=>
  simp[plainElem,Tryz.underlying4]at h;rw[h.1]
 | _=>simp[plainElem,Tryz.underlying4]at h
theorem St.Ij (h:St K w (lz b S::F))(hp:yL p):∃x:Bool,(Instr.lookup 146 (.map (some b)) (Ku p) false).run Tryz.prog w=.ok (.bool x) w/\(x=true↔p∈S):=by
 obtain⟨n,D,m,j,hk⟩:=h.head;obtain⟨l,i⟩:=Kv hp;obtain⟨v,ps,c,f⟩:=j.lookup oo Tryz.underlying146 (z:= .bool false) (by simp[go_sem]) (plainElem_bool Tryz.underlying4 false) i
 obtain⟨h1,h2⟩:=hk p l hp i;by_cases e:p∈S
 ·rw[h1 e]at f
  rw[qB f]at c;exact⟨true,c,by simp[e]⟩
 ·rw[h2 e]at f
  rw[qB f]at c;exact⟨false,c,by simp[e]⟩
theorem St.Nr (h:St K w (lz b S::F))(hp:yL p)(B:S.length<1000000):∃w',(Instr.mapUpdate 146 (.map (some b)) (Ku p) (.bool true)).run Tryz.prog w=.ok () w' /\ St K w' (lz b (p::S)::F):=by
 obtain⟨n,D,o,t,hk⟩:=h.head;obtain⟨z,r⟩:=Kv hp;obtain⟨w',j,s,l⟩:=t.update oo Tryz.underlying146 (by unfold maxLen;omega) r (plainElem_bool Tryz.underlying4 true)
 refine⟨w',j,h.Fx (c' := lz b (p::S)) ⟨l.os,l.tape,l.output,l.size,fun k hk o=>l.block k hk (fun e=>o ?_)⟩ ⟨n+1,_,by simp;omega,s,fun q u A c=>?_⟩ rfl⟩
 ·simp[lz];exact asy e
 ·by_cases f:u=z
  ·subst f
   have e:Ku q=Ku p:=oo.inj c r;have e2:=Zd e;subst e2;refine⟨fun _=>atKey_put_same t.isMap (oo.key r) _ _,fun o=>absurd (List.mem_cons_self) o⟩
  ·have m:q≠p:=fun e=>by
    subst e;rw[r]at c;exact f (asy c).symm
   rw[atKey_put_other f];obtain⟨h1,h2⟩:=hk q u A c;exact⟨fun i=>h1 (by simpa[m] using i),fun i=>h2 (by simpa[m] using i)⟩
theorem yN {ops:Array Oper}{rest:List Oper}{o:Oper}{a:Act}{Q:Exit->Act->World->Prop}(h:St K w (lz b S::F))(hp:yL p)(i:S.length<1000000)
  (j:o.guard=none) (m x v:Operand) (e:o.op=Op.mapUpdate 146 m x v) (hm:a.eval m=.map (some b)) (l:a.eval x=Ku p) (q:a.eval v=.bool true)
  (r:∀w',St K w' (lz b (p::S)::F)->wpList Tryz.prog ops Q rest (a.put o.dst undef) w'):wpList Tryz.prog ops Q (o::rest) a w:=by
 refine wpList_plain j fun s f =>?_
 obtain⟨w',c,r1⟩:=h.Nr hp i;unfold Oper.wp;simp[execOp,e,hm,l,q,c,Result.andThen];exact f _ _ (r w' r1)
end
def eA (b:Nat):Option FV:=some ⟨130, #[.pointer (some ⟨b,0,none⟩)], #[]⟩
def dI (nx pv:Value)(id word:Int)(pg:Pg)(va:Value):List Value:=[nx,.bool true,pv,.int .u64 id,.int .u64 word,.int .i64 (pg).aA,va,.string (pg).hi,.bool (pg).la,.int .u64 (pg).ri]
section
variable {K:aM}{w:World}{F:List aC}{pg:Pg}{id word:Int}
theorem qD {ap f:Option Addr}{i j h cs:Nat}(c:St K w F) :
  Calls Tryz.prog 90 #[.slice ap i j,.agg #[.int .u64 id,.int .u64 word,.int .i64 (pg).aA,(.slice f h cs),.string (pg).hi,.bool (pg).la,.int .u64 (pg).ri]] w fun e w' => ∃b,e=.returned (.pointer (some ⟨b,0,none⟩)) /\
   St K w' (blk b (.cells (dI (aY (eA b)) (.slice ap i j) id word pg (.slice f h cs)).toArray 149)::F):=by
 have c:=c.pass (.cells #[.int .u64 id,.int .u64 word,.int .i64 (pg).aA,(.slice f h cs),.string (pg).hi,.bool (pg).la,.int .u64 (pg).ri] 45);have c:=c.made (.cells #[.nilFunc,.bool false,.slice ap i j,.int .u64 id,.int .u64 word,.int .i64 (pg).aA,(.slice f h cs),.string (pg).hi,.bool (pg).la,.int .u64 (pg).ri] 149);rw[World.size_alloc]at c;go_enter Tryz.func90,Tryz.ntmps90
 go_wp2_with fail
 refine(bJ c (fJ _ _ _ _)).mono ?_
 clear c;rintro e l ⟨rfl,c⟩;have k:=c.k0;have m:=c.f0;have c:=(c.aK 0 (.func (.func 130) #[.pointer (some ⟨(w.heap.size+1),0,none⟩)] #[])).aK 1 (.bool true);simp only[List.set_cons_zero,List.set_cons_succ]at c;go_wp2
 go_ret;exact⟨_,rfl,c⟩
theorem yO {b bm bc g off m c acc:Nat}{L:List aQ}{nx va:Value}{p:Pt}(hm:1<=m)(A:m<=c)(C:acc<=1000000000000)
  (j:w.cell? ⟨g,off,none⟩=some (.int .i64 p.i)) (l:w.cell? ⟨g,off+1,none⟩=some (.int .u64 p.c.n)) (o:w.cell? ⟨g,off+2,none⟩=some (.string p.c.k)) (q:w.cell? ⟨g,off+3,none⟩=some (.int .u64 p.c.m))
  (f:St K w (blk b (.cells (dI nx (.slice (some ⟨g,off,none⟩) m c) id word pg va).toArray 149)::aL bm bc L acc::F)) :
  Calls Tryz.prog 130 #[.pointer (some ⟨b,0,none⟩),.pointer (some ⟨bm,0,none⟩)] w fun e w' => e=.returned (aY (if m=1 then none else eA b)) /\
   St K w' (blk b (.cells (dI nx (.slice (some ⟨g,if c=1 then off else off+4,none⟩) (m-1) (c-1)) id word pg va).toArray 149)::aL bm bc (aR L p.i p.c) (acc+1)::F):=by
 rcases(show(c=1/\m=1)\/(c≠1/\m=1)\/(c≠1/\m≠1)by omega)with⟨rfl,rfl⟩|⟨s,rfl⟩|⟨s,B⟩
 ·simp only[if_true]
  have k:=f.k0;have h:=f.f0;have f:=f.made (.cells #[.int .i64 p.i,.int .u64 p.c.n,.string p.c.k,.int .u64 p.c.m] 139);unfold dI at k;go_enter Tryz.func130,Tryz.ntmps130
  go_upto_region 2 with(fail)
  refine dc f ?_
  clear f k h j l o q;generalize w.heap.size=bn;intro W f;have k:=f.k1;have h:=f.f1;unfold dI at k;have f:=f.b1.aK 2 (.slice (some ⟨g,off,none⟩) 0 0);simp only[dI,List.set_cons_zero,List.set_cons_succ]at f;go_upto_region 3 with(fail)
  refine dc f ?_
  clear f k h;intro u f;have r:=f.k1;go_wp2_with fail
  refine(ng (i:=p.i) (c:=p.c) f.b2 (by omega)).mono ?_
  clear f r;rintro e z ⟨rfl,f⟩;have k:=f.k1;have f:=f.b1.b2.tail;go_wp2
  go_ret;exact⟨rfl,f⟩
 ·have t:1<=c:=by omega
  simp only[if_true];rw[if_neg s];have k:=f.k0;have h:=f.f0;have f:=f.made (.cells #[.int .i64 p.i,.int .u64 p.c.n,.string p.c.k,.int .u64 p.c.m] 139);unfold dI at k;go_enter Tryz.func130,Tryz.ntmps130
  go_upto_region 2 with(fail)
  refine dc f ?_
  clear f k h j l o q;generalize w.heap.size=bn;intro W f;have k:=f.k1;have h:=f.f1;unfold dI at k;have f:=f.b1.aK 2 (.slice (some ⟨g,off+4,none⟩) 0 (c-1));simp only[dI,List.set_cons_zero,List.set_cons_succ]at f;go_upto_region 3 with(fail)
  refine dc f ?_
  clear f k h;intro u f;have r:=f.k1;go_wp2_with fail
  refine(ng (i:=p.i) (c:=p.c) f.b2 (by omega)).mono ?_
  clear f r;rintro e z ⟨rfl,f⟩;have k:=f.k1;have f:=f.b1.b2.tail;go_wp2
  go_ret;exact⟨rfl,f⟩
 ·have t:1<=c:=by omega
  rw[if_neg s,if_neg B];have k:=f.k0;have h:=f.f0;have f:=f.made (.cells #[.int .i64 p.i,.int .u64 p.c.n,.string p.c.k,.int .u64 p.c.m] 139);unfold dI at k;go_enter Tryz.func130,Tryz.ntmps130
  go_upto_region 2 with(fail)
  refine dc f ?_
  clear f k h j l o q;generalize w.heap.size=bn;intro W f;have k:=f.k1;have h:=f.f1;unfold dI at k;have f:=f.b1.aK 2 (.slice (some ⟨g,off+4,none⟩) (m-1) (c-1));simp only[dI,List.set_cons_zero,List.set_cons_succ]at f;go_upto_region 3 with(fail)
  refine dc f ?_
  clear f k h;intro u f;have r:=f.k1;go_wp2_with fail
  refine(ng (i:=p.i) (c:=p.c) f.b2 (by omega)).mono ?_
  clear f r;rintro e z ⟨rfl,f⟩;have k:=f.k1;have f:=f.b1.b2.tail;go_wp2
  go_ret;exact⟨rfl,f⟩
end
theorem yP:Enters 130:=fun _ _=>rfl
def mJ (b:Nat)(id word:Int)(pg:Pg)(va:Value)(g cap:Nat)(ps:List Pt)(k:Nat):aC where
 foot:=[b]
 ok:=fun w=>∃pv,(k<ps.length->pv=.slice (some ⟨g,k*4,none⟩) (ps.length-k) (cap-k))/\w.heap[b]?=some (.cells (dI (aY (if k<ps.length then eA b else none)) pv id word pg va).toArray 149)
 loc:=by
  rintro w w' h ⟨pv,h1,h2⟩;exact⟨pv,h1,by rw[h b (by simp)];exact h2⟩
 dom:=by
  rintro w ⟨pv,h1,h2⟩ b' hb;simp at hb;subst hb;exact iB h2
section
variable {K:aM}{w:World}{F:List aC}{pg:Pg}{id word:Int}{b g cap k bm bc acc:Nat}{va:Value}{ps:List Pt}{L:List aQ}
theorem St.Kw (h:St K w (mJ b id word pg va g cap ps k::F)):∃pv,(k<ps.length->pv=.slice (some ⟨g,k*4,none⟩) (ps.length-k) (cap-k))/\St K w (blk b (.cells (dI (aY (if k<ps.length then eA b else none)) pv id word pg va).toArray 149)::F):=by
 obtain⟨pv,h1,h2⟩:=h.head;exact⟨pv,h1,h.Fx (c' := blk b (.cells (dI (aY (if k<ps.length then eA b else none)) pv id word pg va).toArray 149)) (eU.refl _ _) h2 rfl⟩
theorem St.qE {pv:Value}(h:St K w (blk b (.cells (dI (aY (if k<ps.length then eA b else none)) pv id word pg va).toArray 149)::F))(hp:k<ps.length->pv=.slice (some ⟨g,k*4,none⟩) (ps.length-k) (cap-k)):St K w (mJ b id word pg va g cap ps k::F):=
 h.Fx (c' := mJ b id word pg va g cap ps k) (eU.refl _ _) ⟨pv,hp,h.head⟩ rfl
theorem Cs {p:Pt}(hk:ps[k]?=some p)(u:acc<=1000000000000)
  (j:St K w (mJ b id word pg va g cap ps k::aL bm bc L acc::az (.slice (some ⟨g,0,none⟩) ps.length cap) 139 4 ps.length (cm ps)::F)) :
  Calls Tryz.prog 77 #[.pointer (some ⟨b,0,none⟩),.pointer (some ⟨bm,0,none⟩)] w fun e w' => e=.returned (.bool (decide (k+1=ps.length))) /\
   St K w' (mJ b id word pg va g cap ps (k+1)::aL bm bc (aR L p.i p.c) (acc+1)::az (.slice (some ⟨g,0,none⟩) ps.length cap) 139 4 ps.length (cm ps)::F):=by
 have l:k<ps.length:=(asu.1 hk).1;obtain⟨pv,s,j⟩:=j.Kw;rw[if_pos l]at j;have s:=s l;subst s;obtain⟨_,r,z,hle,_⟩:=j.b2.aJ;have t:ps.length<=cap:=by
  have e:cap=r := by injection z
  omega
 obtain⟨r0,r1,A,B⟩:=lu ps k p hk;have q:=yO (off:=k*4) (m:=ps.length-k) (c:=cap-k) (p:=p) (by omega) (by omega) u (j.b2.bG r0) (j.b2.bG r1) (j.b2.bG A) (j.b2.bG B) j
 have hc:w.cell? ⟨b,0,none⟩=some (aY (eA b)):=j.k0 0;refine(l4 (α:=Unit) (m:=bm) (f:=⟨130, #[.pointer (some ⟨b,0,none⟩)], #[]⟩) (o:=if ps.length-k=1 then none else eA b) (nx:=aY (eA b))
  (tl:=fun _=>(dI (aY (eA b)) (.slice (some ⟨g,if cap-k=1 then k*4 else k*4+4,none⟩) (ps.length-k-1) (cap-k-1)) id word pg va).tail) (T:=149)
  (F' := fun _=>aL bm bc (aR L p.i p.c) (acc+1)::az (.slice (some ⟨g,0,none⟩) ps.length cap) 139 4 ps.length (cm ps)::F) yP hc (q.mono fun e C ⟨he,h⟩=>⟨(),he,h⟩)).mono ?_
 rintro e w' ⟨_,rfl,j⟩;refine⟨?_,?_⟩
 ·by_cases h1:ps.length-k=1
  ·rw[if_pos h1,decide_eq_true (by omega)];rfl
  ·rw[if_neg h1,decide_eq_false (by omega)];rfl
 ·have e:(if ps.length-k=1 then none else eA b)=(if k+1<ps.length then eA b else none):=by
   by_cases h1:ps.length-k=1
   ·rw[if_pos h1,if_neg (by omega)]
   ·rw[if_neg h1,if_pos (by omega)]
  rw[e]at j;exact j.qE (fun h=>by rw[if_neg (by omega),show(k+1)*4=k*4+4 by omega,show ps.length-(k+1)=ps.length-k-1 by omega,show cap-(k+1)=cap-k-1 by omega])
theorem yQ {p:Pt}{bw:Nat}(hk:ps[k]?=some p)(h:acc<=1000000000000)
  (f:St K w (mJ b id word pg va g cap ps k::aL bm bc L acc::az (.slice (some ⟨g,0,none⟩) ps.length cap) 139 4 ps.length (cm ps)::blk bw (.cells #[.pointer (some ⟨b,0,none⟩)] 147)::F)) :
  Calls Tryz.prog 41 #[.pointer (some ⟨bw,0,none⟩),.pointer (some ⟨bm,0,none⟩)] w fun e w' => e=.returned (.bool (decide (k+1=ps.length))) /\
   St K w' (mJ b id word pg va g cap ps (k+1)::aL bm bc (aR L p.i p.c) (acc+1)::az (.slice (some ⟨g,0,none⟩) ps.length cap) 139 4 ps.length (cm ps)::blk bw (.cells #[.pointer (some ⟨b,0,none⟩)] 147)::F):=by
 have Q:=ass (Cs hk h f);have kw:=f.b3.k0;clear f;go_enter Tryz.func41,Tryz.ntmps41
 go_wp2_with fail
 refine(Q.out).mono ?_
 rintro e j ⟨rfl,f⟩;go_wp2
 go_ret;exact⟨rfl,f⟩
end
attribute [go_sem] run_makeMap
theorem ji {n:Int}(h0:0<=n)(h1:n<18446744073709551616):(Lit.int .u64 n).wf=true:=by
 simp[Lit.wf,IntKind.min,IntKind.max,IntKind.signed,IntKind.bits];omega
theorem Ns {n:Int}(h0 : -9223372036854775808<=n)(h1:n<=9223372036854775807):(Lit.int .i64 n).wf=true:=by
 simp[Lit.wf,IntKind.min,IntKind.max,IntKind.signed,IntKind.bits];omega
section
variable {d:aU}(hd:d.Ok){id:Int}
include hd
theorem tG {k:Int}(h1:1<=id)(h2:id<=d.no)(hk:0<=k)(c:k<d.fa+4):(Lit.int .i64 (d.node id k)).wf=true:=by
 have h:=bZ hd h1 h2 hk c;have:=hd.eF;exact Ns (by omega) (by omega)
theorem Ct (h1:1<=id)(h2:id<=d.no):∀(l:List Sl)(i:Nat),(i+l.length:Int)<=d.fa->(∀s,s∈l->(0<=s.r/\s.r<18446744073709551616)/\s.k.size<=maxLen)->∀p,p∈gA d id i l->yL p
 | [],_,_,_,p,hp=>by simp[gA]at hp
 | s::l,i,hle,e,p,hp=>by
  simp only[List.length_cons]at hle;rcases List.mem_cons.1 hp with h|h
  ·subst h
   obtain⟨r1,f⟩:=e s (by simp)
   have es:d.slot id i=d.node id (4+(i:Int)):=by
    unfold aU.slot;rw[if_pos ⟨by omega,by omega⟩]
   refine⟨?_,ji r1.1 r1.2,f,(ji (n:=0) (by decide) (by decide):_)⟩
   show(Lit.int .i64 (d.slot id i)).wf=true
   rw[es];exact tG hd h1 h2 (by omega) (by omega)
  ·exact Ct h1 h2 l (i+1) (by omega) (fun s' c => e s' (by simp[c])) p h
theorem Cu (h1:1<=id)(h2:id<=d.no){pg:Pg}(po:o9 d pg)(f:0<=pg.aA/\pg.aA<1000000):∀p,p∈bQ d id pg->yL p:=by
 intro p hp;have f1:=hd.fy;have f2:=hd.m7;have hle:=po.le;have z:(Lit.int .u64 0).wf=true:=ji (by decide) (by decide)
 have c:(⟨#[]⟩:ByteArray).size<=maxLen:=by show 0<=maxLen;omega
 rcases List.mem_append.1 hp with h|h
 ·exact Ct hd h1 h2 pg.sl 0 (by omega) (fun s e=>⟨po.r s e,po.k s e⟩) p h
 ·simp only[List.mem_cons,List.not_mem_nil,or_false]at h
  rcases h with h|h|h
  ·subst h
   refine⟨tG hd h1 h2 (by omega) (by omega),?_,?_,?_⟩ <;> (simp only[mI];cases pg.la)
   ·exact z
   ·exact z
   ·exact po.hi
   ·exact c
   ·exact z
   ·exact(ji (n:=1) (by decide) (by decide):_)
  ·subst h
   exact⟨tG hd h1 h2 (by omega) (by omega),ji po.ri.1 po.ri.2,c,z⟩
  ·subst h
   exact⟨tG hd h1 h2 (by omega) (by omega),ji (by show(0:Int)<=pg.sl.length;omega) (by show(pg.sl.length:Int)<_;omega),c,ji f.1 (by show pg.aA<_;omega)⟩
end
def lA (px py:List Pt)(mid:List Pt):Prop:=mid.Sublist py/\∀p,p∈py->p ∉ px->p∈mid
theorem lA.nil (c:List Pt):lA c [] []:=⟨List.Sublist.refl _,fun p h=>by simp at h⟩
theorem lA.skip {c e mid:List Pt}{p:Pt}(h:lA c e mid)(hp:p∈c):lA c (e++[p]) mid:=
 ⟨h.1.trans (List.sublist_append_left _ _),fun q i f=>by
  rcases List.mem_append.1 i with h1|h1
  ·exact h.2 q h1 f
  ·simp at h1;subst h1;exact absurd hp f⟩
theorem lA.take {c e mid:List Pt}{p:Pt}(h:lA c e mid):lA c (e++[p]) (mid++[p]):=
 ⟨List.Sublist.append h.1 (List.Sublist.refl _),fun q f i=>by
  rcases List.mem_append.1 f with h1|h1
  ·exact List.mem_append_left _ (h.2 q h1 i)
  ·exact List.mem_append_right _ h1⟩
def abV (o:Option Value)(c0 c1:aC):aC:=match o with
 | some _=>c1
 | none=>c0
def nE (K:aM)(REST:List aC)(id word2:Int)(y:Pg)(jR:Option Addr)(c11 n:Nat)(xs lit:List Value)(ρ:Nat->Option Value)(W:World):Prop:=
 ∃(b5:Nat) (a6:Option Addr) (c6:Nat) (aV:Option Addr) (cV mN bw:Nat),
  (∀v,ρ 5=some v->v=.slice (some ⟨b5,0,none⟩) 1 1)/\(∀v,ρ 6=some v->v=.slice a6 (n+1) c6)/\(∀v,ρ 11=some v->v=.agg #[.int .i64 (y).aA,(.slice aV y.sl.length cV),.string (y).hi,.bool (y).la,.int .u64 (y).ri]) /\
  (∀v,ρ 12=some v->v=.agg #[.int .u64 id,.int .u64 word2,.int .i64 (y).aA,(.slice aV y.sl.length cV),.string (y).hi,.bool (y).la,.int .u64 (y).ri])/\(∀v,ρ 13=some v->v=.pointer (some ⟨mN,0,none⟩))/\(∀v,ρ 14=some v->v=.agg #[.pointer (some ⟨mN,0,none⟩)])/\(∀v,ρ 15=some v->v=.pointer (some ⟨bw,0,none⟩))/\(∀v,ρ 16=some v->v=.pointer (some ⟨bw,0,none⟩)) /\
  St K W (dO (ρ 5) (blk b5 (.cells lit.toArray 139))::abV (ρ 6) (az (.slice jR n c11) 139 4 n xs) (az (.slice a6 (n+1) c6) 139 4 (n+1) (xs++lit))::dO (ρ 11) (bz (.slice aV y.sl.length cV) y) ::
   dO (ρ 13) (blk mN (.cells (dI (aY (eA mN)) (.slice a6 (n+1) c6) id word2 y (.slice aV y.sl.length cV)).toArray 149))::dO (ρ 15) (blk bw (.cells #[.pointer (some ⟨mN,0,none⟩)] 147))::REST)
section
variable {K:aM}{W:World}{REST:List aC}{id word2:Int}{y:Pg}{jR ay:Option Addr}{c11 n cy:Nat}{xs lit:List Value}{ρ:Nat->Option Value}{v v5 v6 v11 v12 v13 v14 v15:Value}
theorem nE.start (c:St K W (az (.slice jR n c11) 139 4 n xs::REST)):nE K REST id word2 y jR c11 n xs lit (fun _=>none) W:=by
 refine⟨0,none,0,none,0,0,0,?_,?_,?_,?_,?_,?_,?_,?_,?_⟩;iterate 8 (intro v h;cases h)
 exact c.empty.b1.empty.b1.empty.b1.empty
theorem nE.same {c:World}(h:nE K REST id word2 y jR c11 n xs lit ρ W)(e:Below W.heap.size W c):nE K REST id word2 y jR c11 n xs lit ρ c := by
 obtain⟨b5,f,i,j,l,m,bw,o,e2,e3,e4,e5,e6,e7,e8,q⟩:=h;exact⟨b5,f,i,j,l,m,bw,o,e2,e3,e4,e5,e6,e7,e8,q.same e⟩
theorem nE.rest (h:nE K REST id word2 y jR c11 n xs lit ρ W):St K W REST:=by
 obtain⟨b5,e,f,i,j,l,bw,m,e2,e3,e4,e5,e6,e7,e8,c⟩:=h;exact c.tail.tail.tail.tail.tail
theorem nE.e5 (h:nE K REST id word2 y jR c11 n xs lit ρ W)(e:ρ 5=none):nE K REST id word2 y jR c11 n xs lit (upd ρ 5 (.slice (some ⟨W.heap.size,0,none⟩) 1 1)) (W.alloc (.cells lit.toArray 139)):=by
 obtain⟨b5,f,i,j,l,m,bw,q,e2,e3,e4,e5,e6,e7,e8,c⟩:=h;rw[e]at c;exact⟨W.heap.size,f,i,j,l,m,bw,fun v o=>(asy o).symm,e2,e3,e4,e5,e6,e7,e8,c.tail.made _⟩
theorem nE.e6 (h:nE K REST id word2 y jR c11 n xs lit ρ W)(f:ρ 5=some v5)(q:ρ 6=none)(j:ρ 13=none):∃(b5:Nat)(l:List aC),v5=.slice (some ⟨b5,0,none⟩) 1 1/\St K W (az (.slice jR n c11) 139 4 n xs::blk b5 (.cells lit.toArray 139)::l) /\
  ∀i e,St K e (az i 139 4 (n+1) (xs++lit)::blk b5 (.cells lit.toArray 139)::l)->nE K REST id word2 y jR c11 n xs lit (upd ρ 6 i) e := by
 obtain⟨b5,A,B,r,s,t,bw,m,e2,e3,e4,e5,e6,e7,e8,o⟩:=h;rw[f,q,j]at o;refine⟨b5,_,m v5 f,o.b1,fun i e c =>?_⟩
 obtain⟨u,c',rfl,_,_⟩:=c.aJ;refine⟨b5,u,c',r,s,t,bw,m,fun v z=>(asy z).symm,e3,e4,e5,e6,e7,e8,?_⟩
 show St K e (dO (ρ 5) _::az _ _ _ _ _::dO (ρ 11) _::dO (ρ 13) _::dO (ρ 15) _::REST)
 rw[f,j];exact c.b1
theorem nE.e11 (h:nE K (az (.slice ay y.sl.length cy) 69 2 y.sl.length (aF y.sl)::REST) id word2 y jR c11 n xs lit ρ W)(f:ρ 11=none)(o:ρ 12=none)(j:ρ 13=none):∃(l:List aC),St K W (az (.slice ay y.sl.length cy) 69 2 y.sl.length (aF y.sl)::l) /\
  ∀va e,St K e (az va 69 2 y.sl.length (aF y.sl)::az (.slice ay y.sl.length cy) 69 2 y.sl.length (aF y.sl)::l)->nE K (az (.slice ay y.sl.length cy) 69 2 y.sl.length (aF y.sl)::REST) id word2 y jR c11 n xs lit (upd ρ 11 (.agg #[.int .i64 (y).aA,va,.string (y).hi,.bool (y).la,.int .u64 (y).ri])) e := by
 obtain⟨b5,q,r,z,A,s,bw,t,e2,e3,e4,e5,e6,e7,e8,m⟩:=h;rw[f,j]at m;refine⟨_,m.b5,fun va e c =>?_⟩
 obtain⟨u,c',rfl,_,_⟩:=c.aJ;refine⟨b5,q,r,u,c',s,bw,t,e2,fun v i=>(asy i).symm,fun v i=>?_,e5,e6,e7,e8,?_⟩
 ·have:ρ 12=some v:=i
  rw[o]at this;cases this
 ·show St K e (dO (ρ 5) _::abV (ρ 6) _ _::bz _ _::dO (ρ 13) _::dO (ρ 15) _::_)
  rw[j];exact c.b4.tail.b1.u5.u2
theorem nE.xB (h:nE K REST id word2 y jR c11 n xs lit ρ W)(f:ρ 11=some v11):∃(c:Option Addr)(e:Nat),v11=.agg #[.int .i64 (y).aA,(.slice c y.sl.length e),.string (y).hi,.bool (y).la,.int .u64 (y).ri] /\
  nE K REST id word2 y jR c11 n xs lit (upd ρ 12 (.agg #[.int .u64 id,.int .u64 word2,.int .i64 (y).aA,(.slice c y.sl.length e),.string (y).hi,.bool (y).la,.int .u64 (y).ri])) W:=by
 obtain⟨b5,i,j,c,e,l,bw,m,e2,e3,e4,e5,e6,e7,e8,o⟩:=h;exact⟨c,e,e3 v11 f,b5,i,j,c,e,l,bw,m,e2,e3,fun v q=>(asy q).symm,e5,e6,e7,e8,o⟩
theorem nE.Za (h:nE K REST id word2 y jR c11 n xs lit ρ W)(s:ρ 6=some v6)(t:ρ 12=some v12)(u:ρ 13=none)(z:ρ 14=none)(o:ρ 15=none):∃(c:Option Addr)(e:Nat)(f:Option Addr)(i:Nat)(q:List aC),v6=.slice c (n+1) e /\
  v12=.agg #[.int .u64 id,.int .u64 word2,.int .i64 (y).aA,(.slice f y.sl.length i),.string (y).hi,.bool (y).la,.int .u64 (y).ri]/\St K W q /\
  ∀b j,St K j (blk b (.cells (dI (aY (eA b)) (.slice c (n+1) e) id word2 y (.slice f y.sl.length i)).toArray 149)::q)->nE K REST id word2 y jR c11 n xs lit (upd ρ 13 (.pointer (some ⟨b,0,none⟩))) j := by
 obtain⟨b5,c,e,f,i,B,bw,A,e2,e3,e4,e5,e6,e7,e8,r⟩:=h;rw[u,o]at r;refine⟨c,e,f,i,_,e2 v6 s,e4 v12 t,r.b3.tail,fun b j l =>?_⟩
 refine⟨b5,c,e,f,i,b,bw,A,e2,e3,e4,fun v m=>(asy m).symm,fun v m=>?_,e7,e8,?_⟩
 ·have:ρ 14=some v:=m
  rw[z]at this;cases this
 ·show St K j (dO (ρ 5) _::abV (ρ 6) _ _::dO (ρ 11) _::blk _ (.cells (dI _ _ _ _ _ _).toArray 149)::dO (ρ 15) _::REST)
  rw[o];exact l.u3
theorem nE.Tr (h:nE K REST id word2 y jR c11 n xs lit ρ W)(e:ρ 13=some v13):∃b:Nat,v13=.pointer (some ⟨b,0,none⟩)/\nE K REST id word2 y jR c11 n xs lit (upd ρ 14 (.agg #[.pointer (some ⟨b,0,none⟩)])) W:=by
 obtain⟨b5,f,i,j,l,c,bw,m,e2,e3,e4,e5,e6,e7,e8,o⟩:=h;exact⟨c,e5 v13 e,b5,f,i,j,l,c,bw,m,e2,e3,e4,e5,fun v q=>(asy q).symm,e7,e8,o⟩
theorem nE.Nj (h:nE K REST id word2 y jR c11 n xs lit ρ W)(i:ρ 14=some v14)(j:ρ 15=none)(l:ρ 16=none):∃b:Nat,v14=.agg #[.pointer (some ⟨b,0,none⟩)]/\nE K REST id word2 y jR c11 n xs lit (upd ρ 15 (.pointer (some ⟨W.heap.size,0,none⟩))) (W.alloc (.cells #[.pointer (some ⟨b,0,none⟩)] 147)):=by
 obtain⟨b5,m,o,q,r,e,bw,s,e2,e3,e4,e5,e6,e7,e8,f⟩:=h;rw[j]at f;refine⟨e,e6 v14 i,b5,m,o,q,r,e,W.heap.size,s,e2,e3,e4,e5,e6,fun v c=>(asy c).symm,fun v c=>?_,?_⟩
 ·have:ρ 16=some v:=c
  rw[l]at this;cases this
 ·exact(f.b4.tail.made _).u4
theorem nE.e16 (h:nE K REST id word2 y jR c11 n xs lit ρ W)(c:ρ 15=some v15):∃b:Nat,v15=.pointer (some ⟨b,0,none⟩)/\nE K REST id word2 y jR c11 n xs lit (upd ρ 16 (.pointer (some ⟨b,0,none⟩))) W:=by
 obtain⟨b5,e,f,i,j,l,bw,m,e2,e3,e4,e5,e6,e7,e8,o⟩:=h;exact⟨bw,e7 v15 c,b5,e,f,i,j,l,bw,m,e2,e3,e4,e5,e6,e7,fun v q=>(asy q).symm,o⟩
theorem nE.last (h:nE K REST id word2 y jR c11 n xs lit ρ W)(l:∀e,e∈[5,6,11,12,13,14,15,16]->(ρ e).isSome=true):∃(b5:Nat)(m:Option Addr)(o:Nat)(i:Option Addr)(j c bw:Nat),
  ρ 5=some (.slice (some ⟨b5,0,none⟩) 1 1)/\ρ 6=some (.slice m (n+1) o)/\ρ 11=some (.agg #[.int .i64 (y).aA,(.slice i y.sl.length j),.string (y).hi,.bool (y).la,.int .u64 (y).ri])/\ρ 12=some (.agg #[.int .u64 id,.int .u64 word2,.int .i64 (y).aA,(.slice i y.sl.length j),.string (y).hi,.bool (y).la,.int .u64 (y).ri])/\ρ 13=some (.pointer (some ⟨c,0,none⟩))/\ρ 14=some (.agg #[.pointer (some ⟨c,0,none⟩)])/\ρ 15=some (.pointer (some ⟨bw,0,none⟩))/\ρ 16=some (.pointer (some ⟨bw,0,none⟩)) /\
  St K W (az (.slice m (n+1) o) 139 4 (n+1) (xs++lit)::bz (.slice i y.sl.length j) y::blk c (.cells (dI (aY (eA c)) (.slice m (n+1) o) id word2 y (.slice i y.sl.length j)).toArray 149)::blk bw (.cells #[.pointer (some ⟨c,0,none⟩)] 147)::REST):=by
 obtain⟨b5,m,o,i,j,c,bw,C,e2,e3,e4,e5,e6,e7,e8,u⟩:=h;have g:∀e,e∈[5,6,11,12,13,14,15,16]->∃v,ρ e=some v:=fun e he=>asv.1 (l e he)
 obtain⟨v5,q⟩:=g 5 (by simp)
 obtain⟨v6,r⟩:=g 6 (by simp)
 obtain⟨v11,f⟩:=g 11 (by simp)
 obtain⟨v12,z⟩:=g 12 (by simp)
 obtain⟨v13,s⟩:=g 13 (by simp)
 obtain⟨v14,A⟩:=g 14 (by simp)
 obtain⟨v15,t⟩:=g 15 (by simp)
 obtain⟨v16,B⟩:=g 16 (by simp)
 rw[q,r,f,s,t]at u;exact⟨b5,m,o,i,j,c,bw,by rw[q,C v5 q],by rw[r,e2 v6 r],by rw[f,e3 v11 f],by rw[z,e4 v12 z],by rw[s,e5 v13 s],by rw[A,e6 v14 A],by rw[t,e7 v15 t],by rw[B,e8 v16 B],u.tail⟩
end
section
variable {K:aM}{w:World}{F:List aC}{x y:Pg}{ax ay:Option Addr}{cx cy:Nat}{d:aU}{id word:Int}
theorem Cv (hd:d.Ok)(h1:1<=id)(h2:id<=d.no)(hw:0<=word/\word<18446744073709551616)(O:o9 d x)(X:o9 d y)(lx:0<=x.aA/\x.aA<1000000)(ly:0<=y.aA/\y.aA<1000000)
  (f:St K w (az (.slice ax (x).sl.length cx) 69 2 (x).sl.length (aF (x).sl)::az (.slice ay (y).sl.length cy) 69 2 (y).sl.length (aF (y).sl)::F)) :
  Calls Tryz.prog 39 #[.agg #[.int .i64 d.th,.int .i64 d.sn,.int .i64 d.no,.int .i64 d.ch,.int .i64 d.re,.int .i64 d.fa,.int .u64 d.cl],.agg #[.int .u64 id,.int .u64 word,.int .i64 (x).aA,(.slice ax x.sl.length cx),.string (x).hi,.bool (x).la,.int .u64 (x).ri],.agg #[.int .i64 (y).aA,(.slice ay y.sl.length cy),.string (y).hi,.bool (y).la,.int .u64 (y).ri]] w fun e w' => ∃(bw b g cap:Nat) (va:Value) (mid ps:List Pt),e=.returned (.pointer (some ⟨bw,0,none⟩)) /\
   lA (bQ d id x) (bQ d id y) mid/\ps=⟨d.node id 0,⟨bH word,⟨#[]⟩,0⟩⟩::mid++[⟨d.node id 0,⟨dW (bH word),⟨#[]⟩,0⟩⟩] /\
   St K w' (mJ b id (dW (bH word)) y va g cap ps 0::az (.slice (some ⟨g,0,none⟩) ps.length cap) 139 4 ps.length (cm ps)::blk bw (.cells #[.pointer (some ⟨b,0,none⟩)] 147)::bz va y::az (.slice ax (x).sl.length cx) 69 2 (x).sl.length (aF (x).sl)::az (.slice ay (y).sl.length cy) 69 2 (y).sl.length (aF (y).sl)::F):=by
 have f1:=hd.fy;have f2:=hd.m7;have hno:=hd.m6;have hid:0<=id/\id<18446744073709551616:=by omega
 have hb1:=Gu hw.1 hw.2;have Y:=Cu hd h1 h2 O lx;have Z:=Cu hd h1 h2 X ly;have Tw:(bQ d id x).length=x.sl.length+3:=by simp[bQ,fe]
 have aeR:(bQ d id y).length=y.sl.length+3:=by simp[bQ,fe]
 have qx:=fun w F (f:St K w (az (.slice ax (x).sl.length cx) 69 2 (x).sl.length (aF (x).sl)::F))=>uN (cap:=cx) (pg:=x) hd hid lx O.le f
 have qy:=fun w F (f:St K w (az (.slice ay (y).sl.length cy) 69 2 (y).sl.length (aF (y).sl)::F))=>uN (cap:=cy) (pg:=y) hd hid ly X.le f
 obtain⟨r,hpx⟩:∃r,r=bQ d id x:=⟨_,rfl⟩;obtain⟨B,hpy⟩:∃B,B=bQ d id y:=⟨_,rfl⟩;rw[←hpx]at Y Tw qx ⊢;rw[←hpy]at Z aeR qy ⊢;obtain⟨fst,Tx⟩:∃fst:Pt,fst=⟨d.node id 0,⟨bH word,⟨#[]⟩,0⟩⟩:=⟨_,rfl⟩;obtain⟨Xu,abW⟩:∃Xu:Pt,Xu=⟨d.node id 0,⟨dW (bH word),⟨#[]⟩,0⟩⟩:=⟨_,rfl⟩;rw[←Tx,←abW];have aeS:=ass Tx;have aiR:=ass abW;clear Tx abW;have hlx:=O.le;have hly:=X.le;have Qx:=ass qx;have Qy:=ass qy;have Okx:=ass Y;have Oky:=ass Z;have Qa:=ass (fun w=>iG d hd id hid.1 hid.2 w)
 have Qb:=ass (fun w=>Aw word hw.1 hw.2 w)
 have Qe:=ass (fun w=>Mk (bH word) hb1.1 hb1.2 w)
 have nx:r.length<=40:=by omega
 have ny:B.length<=40:=by omega
 clear qx qy Y Z hpx hpy Tw aeR hno O lx ly;have f:=((f.made (.cells #[.int .i64 d.th,.int .i64 d.sn,.int .i64 d.no,.int .i64 d.ch,.int .i64 d.re,.int .i64 d.fa,.int .u64 d.cl] 29)).made (.cells #[.int .u64 id,.int .u64 word,.int .i64 (x).aA,(.slice ax x.sl.length cx),.string (x).hi,.bool (x).la,.int .u64 (x).ri] 45)).made (.cells #[.int .i64 (y).aA,(.slice ay y.sl.length cy),.string (y).hi,.bool (y).la,.int .u64 (y).ri] 43);have f:=f.Ii;simp only[World.size_alloc]at f;obtain⟨E,hb0⟩:∃E,E=w.heap.size:=⟨_,rfl⟩;go_enter Tryz.func39,Tryz.ntmps39
 go_upto_region 2 with(fail)
 rw[←hb0]at f ⊢;refine dc f ?_
 clear f hb0;intro W f;have P:=f.k2;have kl:=f.b3.k0;go_wp2_with fail
 refine(Qx.out _ _ f.b4).mono ?_
 clear f P kl;rintro e w1 ⟨vx,rfl,f⟩;obtain⟨apx,cpx,rfl,_,_⟩:=f.aJ;have f:=f.b2;go_wp2
 go_loopw [23] (fun v23 wr=>∃k:Nat,k<=r.length/\v23=.int .i64 k/\St K wr (lz (E+1+1+1) (r.take k).reverse::az (.slice apx r.length cpx) 139 4 r.length (cm r)::az (.slice ax (x).sl.length cx) 69 2 (x).sl.length (aF (x).sl) ::
  blk (E+1+1) (.cells #[.int .i64 (y).aA,(.slice ay y.sl.length cy),.string (y).hi,.bool (y).la,.int .u64 (y).ri] 43)::blk (E+1) (.cells #[.int .u64 id,.int .u64 word,.int .i64 (x).aA,(.slice ax x.sl.length cx),.string (x).hi,.bool (x).la,.int .u64 (x).ri] 45)::blk E (.cells #[.int .i64 d.th,.int .i64 d.sn,.int .i64 d.no,.int .i64 d.ch,.int .i64 d.re,.int .i64 d.fa,.int .u64 d.cl] 29)::az (.slice ay (y).sl.length cy) 69 2 (y).sl.length (aF (y).sl)::F)) (fun v _=>r.length-(intOf v).toNat)
 case atStart=>exact⟨0,by omega,rfl,f⟩
 case round=>
  clear f;obtain⟨k,hk,rfl,f⟩:=hrel;by_cases s:k<r.length
  ·obtain⟨u,hu⟩:∃u,r[k]?=some u:=⟨_,asx s⟩
   obtain⟨r0,r1,r2,r3⟩:=lu r k u hu;obtain⟨g,rfl,c0⟩:=f.b1.cQ r0;have c1:=f.b1.bG r1;have c2:=f.b1.bG r2;have c3:=f.b1.bG r3;have okp:yL u:=Okx.out u (asw hu);have j:u::(r.take k).reverse=(r.take (k+1)).reverse:=by
    rw[asx s]at hu;rw[List.take_succ_eq_append_getElem s,asy hu];simp
   have hlen:(r.take k).reverse.length<1000000:=by simp;omega
   have Hs:=ass (f.pass (.cells #[.int .i64 u.i,.int .u64 u.c.n,.string u.c.k,.int .u64 u.c.m] 139));have Hx:=ass j;clear f hu r0 r1 r2 r3 j;go_wp2_with (at_mapUpdate;refine yN Hs.out okp hlen rfl _ _ _ rfl rfl rfl rfl ?_)
   clear Hs c0 c1 c2 c3;intro w2 f;rw[Hx.out]at f;go_wp2
   go_roundw
   case rel=>exact⟨k+1,by omega,by go_num,f⟩
   case measure=>simp[intOf];omega
  ·obtain rfl:k=r.length:=by omega
   rw[List.take_length]at f;clear s hk;have P:=f.b4.k0;have kl:=f.b5.k0;go_wp2_with fail
   refine(bJ f (Qa.out _)).mono ?_
   clear f P kl;rintro e w2 ⟨rfl,f⟩;have P:=f.b4.k0;go_wp2_with fail
   refine(mZ f (Qb.out _)).mono ?_
   clear f P;rintro e w3 ⟨rfl,f⟩;have f:=f.made (.cells #[.int .i64 (d.node id 0),.int .u64 (bH word),.string ⟨#[]⟩,.int .u64 0] 139);have f:=f.lV (n:=1) (size:=4) rfl (by simp[maxLen])
   go_upto_region 9 with(fail)
   refine dc f ?_
   generalize w3.heap.size=b1;clear f;intro W3 f;have P:=f.b5.k0;have kl:=f.b6.k0;have ky:=f.b4.k0;obtain⟨iv,dm,dr,dw,dx⟩:=info_parts yK;have f:=f.b2.tail;go_wp2_with fail
   refine(Qy.out _ _ f.b6).mono ?_
   clear f P kl ky;rintro e w4 ⟨vy,rfl,f⟩;obtain⟨apy,cpy,rfl,_,_⟩:=f.aJ;have f:=f.b1.b4.b2.b4.b4;have T:[Value.int .i64 (d.node id 0),.int .u64 (bH word),.string ⟨#[]⟩,.int .u64 0]=cm [fst]:=by rw[aeS.out];rfl
   rw[T]at f;clear T aeS;go_wp2
   go_loopw [47,11] (fun v47 v11 wr=>∃(k:Nat) (mid:List Pt),k<=B.length/\v47=.int .i64 k/\mid.length<=k/\lA r (B.take k) mid /\
    St K wr (az v11 139 4 (mid.length+1) (cm (fst::mid))::lz (E+1+1+1) r.reverse::az (.slice apy B.length cpy) 139 4 B.length (cm B)::az (.slice ax (x).sl.length cx) 69 2 (x).sl.length (aF (x).sl)::az (.slice ay (y).sl.length cy) 69 2 (y).sl.length (aF (y).sl) ::
    blk (E+1+1) (.cells #[.int .i64 (y).aA,(.slice ay y.sl.length cy),.string (y).hi,.bool (y).la,.int .u64 (y).ri] 43)::blk (E+1) (.cells #[.int .u64 id,.int .u64 word,.int .i64 (x).aA,(.slice ax x.sl.length cx),.string (x).hi,.bool (x).la,.int .u64 (x).ri] 45)::blk E (.cells #[.int .i64 d.th,.int .i64 d.sn,.int .i64 d.no,.int .i64 d.ch,.int .i64 d.re,.int .i64 d.fa,.int .u64 d.cl] 29)::F)) (fun v _ _=>B.length-(intOf v).toNat)
   case atStart=>exact⟨0,[],by omega,rfl,by simp,lA.nil _,f⟩
   case round=>
    clear f;obtain⟨k,mid,hk,rfl,hmid,t,f⟩:=hrel;by_cases s:k<B.length
    ·obtain⟨u,hu⟩:∃u,B[k]?=some u:=⟨_,asx s⟩
     obtain⟨r0,r1,r2,r3⟩:=lu B k u hu;obtain⟨g,rfl,c0⟩:=f.b2.cQ r0;have c1:=f.b2.bG r1;have c2:=f.b2.bG r2;have c3:=f.b2.bG r3;have oku:yL u:=Oky.out u (asw hu);have kK:B.take (k+1)=B.take k++[u]:=by
      rw[asx s]at hu;rw[List.take_succ_eq_append_getElem s,asy hu]
     obtain⟨jR,c11,rfl,_,_⟩:=f.aJ;have f:=f.made (.cells #[.int .i64 u.i,.int .u64 u.c.n,.string u.c.k,.int .u64 u.c.m] 139);obtain⟨xb,rT,hxb⟩:=f.b2.Ij oku;unfold Ku at rT;have Ze:=ass t;have Htk:=ass kK;clear hu r0 r1 r2 r3 t kK oku;cases xb with
     | true=>
      have hin:u∈r:=by simpa using hxb.1 rfl
      have Hin:=ass hin;clear hxb hin;go_wp2
      go_roundw
      case rel=>exact⟨k+1,mid,by omega,by go_num,by omega,by rw[Htk.out];exact Ze.out.skip Hin.out,f.tail⟩
      case measure=>simp[intOf];omega
     | false=>
      clear hxb;obtain⟨xs,C⟩:∃xs,xs=cm (fst::mid):=⟨_,rfl⟩;have j:cm (fst::(mid++[u]))=xs++[.int .i64 u.i,.int .u64 u.c.n,.string u.c.k,.int .u64 u.c.m]:=by
       rw[C,show fst::(mid++[u])=(fst::mid)++[u]from rfl,iQ]
       rfl
      rw[←C]at f;have Hx:=ass j;have f:=f.made (.cells [.int .i64 u.i,.int .u64 u.c.n,.string u.c.k,.int .u64 u.c.m].toArray 139);have hkk:=f.k0;rw[World.size_alloc]at f hkk;have Hw:=ass (xx hkk);have Hr:=ass f.b2;clear f hkk j C;go_wp2_with (at_builtin;refine cK _ _ 137 139 _ (mid.length+1) 1 1 4 40 xs [.int .i64 u.i,.int .u64 u.c.n,.string u.c.k,.int .u64 u.c.m] (.agg #[.int .i64 0,.int .u64 0,.string ⟨#[]⟩,.int .u64 0]) iv (some ⟨wr.heap.size+1,0,none⟩) Hr.out rfl rfl Tryz.underlying137 dm dr dw dx rfl (by decide) rfl rfl rfl (fun e=>by cases e) Hw.out (fun x hu=>by simp at hu;rcases hu with rfl|rfl|rfl|rfl <;> rfl) (by omega) (by decide) ?_)
      clear Hr Hw rT c0 c1 c2 c3;intro v' w6 f;rw[←Hx.out]at f;go_wp2
      go_roundw
      case rel=>exact⟨k+1,mid++[u],by omega,by go_num,by simp;omega,by rw[Htk.out];exact Ze.out.take,by simpa using f.b9.b9⟩
      case measure=>simp[intOf];omega
    ·obtain rfl:k=B.length:=by omega
     rw[List.take_length]at t;have Ze:=ass t;clear s hk t;obtain⟨jR,c11,rfl,_,_⟩:=f.aJ;have P:=f.b6.k0;go_wp2_with fail
     refine(mZ f (Qb.out _)).mono ?_
     clear f P;rintro e w7 ⟨rfl,f⟩;go_wp2_with fail
     refine(mZ f (Qe.out _)).mono ?_
     clear f;rintro e w8 ⟨rfl,f⟩;have f:=f.b9.b9.b5.tail.b2.b1;obtain⟨word2,abX⟩:∃z,z=dW (bH word):=⟨_,rfl⟩;obtain⟨xs,C⟩:∃xs,xs=cm (fst::mid):=⟨_,rfl⟩;rw[←C]at f;have Hxs:=ass C;clear C;clear abX;go_upto_region 16 with(fail)
     refine dc f ?_
     clear f;intro W f;have Hs:=ass f;clear f;refine aX [false,false,false,false,false,true,true,false,false,false,false,true,true,true,true,true,true] [5,6,11,12,13,14,15,16] (fun|6=>[5] | 12=>[11] | 13=>[6,12] | 14=>[13] | 15=>[14] | 16=>[15] | _=>[])
      (nE K (az (.slice ay (y).sl.length cy) 69 2 (y).sl.length (aF (y).sl)::az (.slice ax (x).sl.length cx) 69 2 (x).sl.length (aF (x).sl)::blk (E+1+1) (.cells #[.int .i64 (y).aA,(.slice ay y.sl.length cy),.string (y).hi,.bool (y).la,.int .u64 (y).ri] 43)::blk (E+1) (.cells #[.int .u64 id,.int .u64 word,.int .i64 (x).aA,(.slice ax x.sl.length cx),.string (x).hi,.bool (x).la,.int .u64 (x).ri] 45)::F) id (dW (bH word)) y jR c11 (mid.length+1) xs [.int .i64 (d.node id 0),.int .u64 (dW (bH word)),.string ⟨#[]⟩,.int .u64 0])
      (fun W=>(∀k,W.cell? ⟨E+1+1,k,none⟩=(#[.int .i64 (y).aA,(.slice ay y.sl.length cy),.string (y).hi,.bool (y).la,.int .u64 (y).ri]:Array Value)[k]?)/\(∀k,W.cell? ⟨E+1,k,none⟩=(#[.int .u64 id,.int .u64 word,.int .i64 (x).aA,(.slice ax x.sl.length cx),.string (x).hi,.bool (x).la,.int .u64 (x).ri]:Array Value)[k]?)) ?aS (by kernel_rfl) ?hB ?H ?ja ?h0 ?hI ?hR ?hE ?hQ
     case hB=>as_aux_lemma=>kernel_rfl
     case H=>
      rintro I ⟨k1,k2⟩;simp only[cG];repeat (go_big_quiet_step (fail))
      refine wpQuiet_nil ?_
      rfl
     case ja=>rfl
     case h0=>exact nE.start Hs.out
     case hI=>
      intro ρ I h;exact⟨h.rest.k2,h.rest.b3.k0⟩
     case hR=>exact fun ρ I W3 h hb=>h.same hb
     case hE=>
      refine⟨?e5,?e6,?e11,?xB,?Za,?Tr,?Nj,?e16,trivial⟩;case e5=>
       intro o D ρ I h q h5 hd af l;obtain rfl:=asy D;simp only[aj]at l;subst l;go_wp2
       exact⟨rfl,_,rfl,h.e5 h5⟩
      case e6=>
       intro o D ρ I h q U hd af l;obtain rfl:=asy D;replace l:af=aj _ ρ [5] _:=l;obtain⟨v5,h5⟩:=asv.1 (hd 5 (by show _∈[5];simp))
       have G:ρ 13=none:=q.none (by simp) (show 6∈[6,12]by simp) U
       obtain⟨b5,R',rfl,f,j⟩:=h.e6 h5 U G;simp only[aj,h5,Option.getD_some,aP,List.getElem?_cons_succ,List.getElem?_cons_zero,Option.bind_some,Act.put,List.setIfInBounds_toArray,List.set_cons_zero,List.set_cons_succ]at l;subst l;refine cK _ _ 137 139 _ (mid.length+1) 1 1 4 40 xs [.int .i64 (d.node id 0),.int .u64 (dW (bH word)),.string ⟨#[]⟩,.int .u64 0] (.agg #[.int .i64 0,.int .u64 0,.string ⟨#[]⟩,.int .u64 0]) iv (some ⟨b5,0,none⟩) f rfl rfl Tryz.underlying137 dm dr dw dx rfl (by decide) rfl rfl rfl (fun e=>by cases e) (xx f.k1) (fun x hu=>by simp at hu;rcases hu with rfl|rfl|rfl|rfl <;> rfl) (by omega) (by decide) ?_
       intro v' w' J;exact⟨rfl,_,rfl,j v' w' J⟩
      case e11=>
       intro o D ρ I h q A hd af l;obtain rfl:=asy D;replace l:af=aj _ ρ [] _:=l;have Q:ρ 12=none:=q.none (by simp) (show 11∈[11]by simp) A
       have G:ρ 13=none:=q.none (by simp) (show 12∈[6,12]by simp) Q
       obtain⟨R',f,j⟩:=h.e11 A Q G;simp only[aj]at l;subst l;go_wp2_with fail
       refine(nr (cap:=cy) f (f.cM (by omega))).mono ?_
       rintro e W3 ⟨va,rfl,J⟩;go_wp2
       exact⟨rfl,_,rfl,j va W3 J⟩
      case xB=>
       intro o D ρ I h q Q hd af l;obtain rfl:=asy D;replace l:af=aj _ ρ [11] _:=l;obtain⟨v11,A⟩:=asv.1 (hd 11 (by show _∈[11];simp))
       obtain⟨aV,cV,rfl,hn⟩:=h.xB A;simp only[aj,A,Option.getD_some,aP,List.getElem?_cons_succ,List.getElem?_cons_zero,Option.bind_some,Act.put,List.setIfInBounds_toArray,List.set_cons_zero,List.set_cons_succ]at l;subst l;go_wp2
       exact⟨rfl,_,rfl,hn⟩
      case Za=>
       intro o D ρ I h q G hd af l;obtain rfl:=asy D;replace l:af=aj _ ρ [6,12] _:=l;obtain⟨v6,U⟩:=asv.1 (hd 6 (by show _∈[6,12];simp))
       obtain⟨v12,Q⟩:=asv.1 (hd 12 (by show _∈[6,12];simp))
       have R:ρ 14=none:=q.none (by simp) (show 13∈[13]by simp) G
       have N:ρ 15=none:=q.none (by simp) (show 14∈[14]by simp) R
       obtain⟨a6,c6,aV,cV,R',rfl,rfl,f,j⟩:=h.Za U Q G R N;simp only[aj,U,Q,Option.getD_some,aP,List.getElem?_cons_succ,List.getElem?_cons_zero,Option.bind_some,Act.put,List.setIfInBounds_toArray,List.set_cons_zero,List.set_cons_succ]at l;subst l;go_wp2_with fail
       refine(qD f).mono ?_
       rintro e W3 ⟨b,rfl,J⟩;go_wp2
       exact⟨rfl,_,rfl,j b W3 J⟩
      case Tr=>
       intro o D ρ I h q R hd af l;obtain rfl:=asy D;replace l:af=aj _ ρ [13] _:=l;obtain⟨v13,G⟩:=asv.1 (hd 13 (by show _∈[13];simp))
       obtain⟨b,rfl,hn⟩:=h.Tr G;simp only[aj,G,Option.getD_some,aP,List.getElem?_cons_succ,List.getElem?_cons_zero,Option.bind_some,Act.put,List.setIfInBounds_toArray,List.set_cons_zero,List.set_cons_succ]at l;subst l;go_wp2
       exact⟨rfl,_,rfl,hn⟩
      case Nj=>
       intro o D ρ I h q N hd af l;obtain rfl:=asy D;replace l:af=aj _ ρ [14] _:=l;obtain⟨v14,R⟩:=asv.1 (hd 14 (by show _∈[14];simp))
       have tC:ρ 16=none:=q.none (by simp) (show 15∈[15]by simp) N
       obtain⟨b,rfl,hn⟩:=h.Nj R N tC;simp only[aj,R,Option.getD_some,aP,List.getElem?_cons_succ,List.getElem?_cons_zero,Option.bind_some,Act.put,List.setIfInBounds_toArray,List.set_cons_zero,List.set_cons_succ]at l;subst l;go_wp2
       exact⟨rfl,_,rfl,hn⟩
      case e16=>
       intro o D ρ I h q tC hd af l;obtain rfl:=asy D;replace l:af=aj _ ρ [15] _:=l;obtain⟨v15,N⟩:=asv.1 (hd 15 (by show _∈[15];simp))
       obtain⟨b,rfl,hn⟩:=h.e16 N;simp only[aj,N,Option.getD_some,aP,List.getElem?_cons_succ,List.getElem?_cons_zero,Option.bind_some,Act.put,List.setIfInBounds_toArray,List.set_cons_zero,List.set_cons_succ]at l;subst l;go_wp2
       exact⟨rfl,_,rfl,hn⟩
     case hQ=>
      intro ρ I h V;obtain⟨b5,a6,c6,aV,cV,mN,bw,h5,U,A,Q,G,R,N,tC,f⟩:=h.last V;simp only[aj,h5,U,A,Q,G,R,N,tC,Option.getD_some,aP,List.getElem?_cons_succ,List.getElem?_cons_zero,Option.bind_some,Act.put,List.setIfInBounds_toArray,List.set_cons_zero,List.set_cons_succ];have e1:xs++[.int .i64 (d.node id 0),.int .u64 (dW (bH word)),.string ⟨#[]⟩,.int .u64 0]=cm (fst::mid++[Xu]):=by rw[Hxs.out,iQ,aiR.out];rfl
      have e2:mid.length+1+1=(fst::mid++[Xu]).length:=by simp
      rw[e1,e2]at f;obtain⟨ps,M⟩:∃ps,ps=fst::mid++[Xu]:=⟨_,rfl⟩;have Ty:ps[0]?=some fst:=by rw[M];rfl
      have hpl:0<ps.length:=by rw[M];simp
      rw[←M]at f;obtain⟨g,rfl,_⟩:=f.cQ (lu ps 0 fst Ty).1;have f:=f.b2;rw[show eA mN=(if 0<ps.length then eA mN else none)from(if_pos hpl).symm]at f
      have f:=f.qE (k:=0) (g:=g) (cap:=c6) (ps:=ps) (fun _=>by rw[Nat.zero_mul,Nat.sub_zero,Nat.sub_zero])
      have f:=f.b6.tail.b6.tail.b5.b3.b4.b4.b4;have yR:=ass M;clear Ty hpl e1 e2 M h5 U A Q G R N tC V;go_wp2
      go_ret;exact⟨bw,mN,g,c6,_,mid,ps,rfl,Ze.out,yR.out,f⟩
end
theorem Ik (tmps:Array Value)(w:World)(b:Nat)(v0 v1 v2 v3 v4 v5 v6:Value)(hp:tmps[2]?=some (.pointer (some ⟨b,0,none⟩)))(hk:∀k,w.cell? ⟨b,k,none⟩=(#[v0,v1,v2,v3,v4,v5,v6]:Array Value)[k]?) :
  (results Tryz.f94 tmps).run Tryz.prog w=.ok (.agg #[v0,v1,v2,v3,v4,v5,v6]) w:=by
 simp[results,Tryz.results94,go_sem,hp,hk]
theorem Nt (tmps:Array Value)(w:World)(b:Nat)(v0 v1 v2 v3 v4 v5 v6:Value)(hp:tmps[2]?=some (.pointer (some ⟨b,0,none⟩)))(hk:∀k,w.cell? ⟨b,k,none⟩=(#[v0,v1,v2,v3,v4,v5,v6]:Array Value)[k]?) :
  (results Tryz.f42 tmps).run Tryz.prog w=.ok (.agg #[v0,v1,v2,v3,v4,v5,v6]) w:=by
 simp[results,Tryz.results42,go_sem,hp,hk]
theorem Nu (tmps:Array Value)(w:World)(b:Nat)(v0 v1 v2 v3 v4 v5 v6:Value)(hp:tmps[2]?=some (.pointer (some ⟨b,0,none⟩)))(hk:∀k,w.cell? ⟨b,k,none⟩=(#[v0,v1,v2,v3,v4,v5,v6]:Array Value)[k]?) :
  (results Tryz.f137 tmps).run Tryz.prog w=.ok (.agg #[v0,v1,v2,v3,v4,v5,v6]) w:=by
 simp[results,Tryz.results137,go_sem,hp,hk]
section
variable {K:aM}{w:World}{F:List aC}{pg:Pg}{id word:Int}{b bw g cap:Nat}{av:Option Addr}{cv:Nat}{ps:List Pt}
theorem xC (t:pg.sl.length<=1000000)(c:St K w (mJ b id word pg (.slice av pg.sl.length cv) g cap ps ps.length::az (.slice av (pg).sl.length cv) 69 2 (pg).sl.length (aF (pg).sl)::F)) :
  Calls Tryz.prog 94 #[.pointer (some ⟨b,0,none⟩)] w fun e w' => ∃va,e=.returned (.agg #[.int .u64 id,.int .u64 word,.int .i64 (pg).aA,va,.string (pg).hi,.bool (pg).la,.int .u64 (pg).ri]) /\
   St K w' (az va 69 2 pg.sl.length (aF pg.sl)::mJ b id word pg (.slice av pg.sl.length cv) g cap ps ps.length::az (.slice av (pg).sl.length cv) 69 2 (pg).sl.length (aF (pg).sl)::F):=by
 obtain⟨pv,l,c⟩:=c.Kw;rw[if_neg (Nat.lt_irrefl _)]at c;have f:∀w' (G:List aC),St K w' (blk b (.cells (dI .nilFunc pv id word pg (.slice av pg.sl.length cv)).toArray 149)::G)->St K w' (mJ b id word pg (.slice av pg.sl.length cv) g cap ps ps.length::G):=fun w' G h=>by
  refine St.qE (pv:=pv) ?_ l;rw[if_neg (Nat.lt_irrefl _)];exact h
 have j:=ass f;have c:St K w (blk b (.cells (dI .nilFunc pv id word pg (.slice av pg.sl.length cv)).toArray 149)::az (.slice av (pg).sl.length cv) 69 2 (pg).sl.length (aF (pg).sl)::F):=c;clear f l;have c:=c.made (.cells #[.int .u64 0,.int .u64 0,.int .i64 0,.slice none 0 0,.string ⟨#[]⟩,.bool false,.int .u64 0] 45);have m:=ass (gG (w.alloc (.cells #[.int .u64 0,.int .u64 0,.int .i64 0,.slice none 0 0,.string ⟨#[]⟩,.bool false,.int .u64 0] 45)) b (c.k1 0) (c.k1 1));go_enter Tryz.func94,Tryz.ntmps94
 go_wp2_with fail
 refine(m.out).mono ?_
 clear m;rintro e u ⟨rfl,rfl⟩;generalize i:w.heap.size=r;rw[i]at c;go_upto_region 3 with(fail)
 refine dc c ?_
 clear c i;intro W c;have k:=c.k1;unfold dI at k;have c:=c.made (.cells #[.int .u64 id,.int .u64 word,.int .i64 (pg).aA,(.slice av pg.sl.length cv),.string (pg).hi,.bool (pg).la,.int .u64 (pg).ri] 45);go_wp2_with fail
 refine(nr (cap:=cv) c (c.b3.cM (by omega))).mono ?_
 clear c k;generalize W.heap.size=b1;rintro e z ⟨va,rfl,c⟩;obtain⟨o,q,rfl,_,_⟩:=c.aJ;have c:=c.b1;have k1:=c.k0;have s:=c.f0;have c:=((((c.aK 2 (.int .i64 pg.aA)).aK 3 (.slice o pg.sl.length q)).aK 4 (.string pg.hi)).aK 5 (.bool pg.la)).aK 6 (.int .u64 pg.ri);simp only[List.set_cons_zero,List.set_cons_succ]at c;go_upto_region 5 with(fail)
 refine dc c ?_
 clear c k1 s;intro A c;have k1:=c.k0;have c:=c.b2;have k0:=c.k0;have f0:=c.f0;have c:=((((((c.aK 0 (.int .u64 id)).aK 1 (.int .u64 word)).aK 2 (.int .i64 pg.aA)).aK 3 (.slice o pg.sl.length q)).aK 4 (.string pg.hi)).aK 5 (.bool pg.la)).aK 6 (.int .u64 pg.ri);simp only[List.set_cons_zero,List.set_cons_succ]at c;go_wp2
 refine bodyPost_ret (Ik _ _ r _ _ _ _ _ _ _ rfl c.k0) rfl ⟨_,rfl,(j.out _ _ c.tail.tail.b1).b1⟩
theorem yS (f:pg.sl.length<=1000000)(c:St K w (mJ b id word pg (.slice av pg.sl.length cv) g cap ps ps.length::az (.slice av (pg).sl.length cv) 69 2 (pg).sl.length (aF (pg).sl)::blk bw (.cells #[.pointer (some ⟨b,0,none⟩)] 147)::F)) :
  Calls Tryz.prog 42 #[.pointer (some ⟨bw,0,none⟩)] w fun e w' => ∃va,e=.returned (.agg #[.int .u64 id,.int .u64 word,.int .i64 (pg).aA,va,.string (pg).hi,.bool (pg).la,.int .u64 (pg).ri]) /\
   St K w' (az va 69 2 pg.sl.length (aF pg.sl)::mJ b id word pg (.slice av pg.sl.length cv) g cap ps ps.length::az (.slice av (pg).sl.length cv) 69 2 (pg).sl.length (aF (pg).sl)::blk bw (.cells #[.pointer (some ⟨b,0,none⟩)] 147)::F):=by
 have c:=c.made (.cells #[.int .u64 0,.int .u64 0,.int .i64 0,.slice none 0 0,.string ⟨#[]⟩,.bool false,.int .u64 0] 45);have kw:=c.b3.k0;go_enter Tryz.func42,Tryz.ntmps42
 go_wp2_with fail
 refine(xC f c.u2).mono ?_
 clear c kw;generalize w.heap.size=h;rintro e l ⟨va,rfl,c⟩;obtain⟨i,j,rfl,_,_⟩:=c.aJ;have c:=c.b3;have k0:=c.k0;have f0:=c.f0;have c:=((((((c.aK 0 (.int .u64 id)).aK 1 (.int .u64 word)).aK 2 (.int .i64 pg.aA)).aK 3 (.slice i pg.sl.length j)).aK 4 (.string pg.hi)).aK 5 (.bool pg.la)).aK 6 (.int .u64 pg.ri);simp only[List.set_cons_zero,List.set_cons_succ]at c;go_wp2
 refine bodyPost_ret (Nt _ _ h _ _ _ _ _ _ _ rfl c.k0) rfl ⟨_,rfl,c.tail⟩
theorem qF (f:pg.sl.length<=1000000)(c:St K w (mJ b id word pg (.slice av pg.sl.length cv) g cap ps ps.length::az (.slice av (pg).sl.length cv) 69 2 (pg).sl.length (aF (pg).sl)::blk bw (.cells #[.pointer (some ⟨b,0,none⟩)] 145)::F)) :
  Calls Tryz.prog 137 #[.pointer (some ⟨bw,0,none⟩)] w fun e w' => ∃va,e=.returned (.agg #[.int .u64 id,.int .u64 word,.int .i64 (pg).aA,va,.string (pg).hi,.bool (pg).la,.int .u64 (pg).ri]) /\
   St K w' (az va 69 2 pg.sl.length (aF pg.sl)::mJ b id word pg (.slice av pg.sl.length cv) g cap ps ps.length::az (.slice av (pg).sl.length cv) 69 2 (pg).sl.length (aF (pg).sl)::blk bw (.cells #[.pointer (some ⟨b,0,none⟩)] 145)::F):=by
 have c:=c.made (.cells #[.int .u64 0,.int .u64 0,.int .i64 0,.slice none 0 0,.string ⟨#[]⟩,.bool false,.int .u64 0] 45);have kw:=c.b3.k0;go_enter Tryz.func137,Tryz.ntmps137
 go_wp2_with fail
 refine(xC f c.u2).mono ?_
 clear c kw;generalize w.heap.size=h;rintro e l ⟨va,rfl,c⟩;obtain⟨i,j,rfl,_,_⟩:=c.aJ;have c:=c.b3;have k0:=c.k0;have f0:=c.f0;have c:=((((((c.aK 0 (.int .u64 id)).aK 1 (.int .u64 word)).aK 2 (.int .i64 pg.aA)).aK 3 (.slice i pg.sl.length j)).aK 4 (.string pg.hi)).aK 5 (.bool pg.la)).aK 6 (.int .u64 pg.ri);simp only[List.set_cons_zero,List.set_cons_succ]at c;go_wp2
 refine bodyPost_ret (Nu _ _ h _ _ _ _ _ _ _ rfl c.k0) rfl ⟨_,rfl,c.tail⟩
end
def aaD (o6 o11:Option Value)(b6:Nat)(jR:Option Addr)(c11 n:Nat)(lit xs:List Value):aC:=match o11 with
 | some _=>az (.slice jR (1+n) c11) 139 4 (1+n) (lit++xs)
 | none=>match o6 with
  | some _=>blk b6 (.cells lit.toArray 139)
  | none=>gW
def FrR (K:aM)(REST:List aC)(n:Nat)(lit xs:List Value)(ρ:Nat->Option Value)(W:World):Prop:=
 ∃(b6:Nat) (Cw:Option Addr) (c10:Nat) (jR:Option Addr) (c11:Nat),(∀v,ρ 6=some v->v=.slice (some ⟨b6,0,none⟩) 1 1)/\(∀v,ρ 10=some v->v=.slice Cw n c10)/\(∀v,ρ 11=some v->v=.slice jR (1+n) c11)/\(∀v,ρ 12=some v->v=.slice jR (1+n) c11) /\
  St K W (aaD (ρ 6) (ρ 11) b6 jR c11 n lit xs::dO (ρ 10) (az (.slice Cw n c10) 139 4 n xs)::REST)
section
variable {K:aM}{w:World}{F:List aC}{x:Pg}{ax:Option Addr}{cx:Nat}{d:aU}{id:Int}
theorem sq (hd:d.Ok)(hid:0<=id/\id<18446744073709551616)(lx:0<=x.aA/\x.aA<1000000)(hle:(x.sl.length:Int)<=d.fa)(f:St K w (az (.slice ax (x).sl.length cx) 69 2 (x).sl.length (aF (x).sl)::F)) :
  Calls Tryz.prog 38 #[.agg #[.int .i64 d.th,.int .i64 d.sn,.int .i64 d.no,.int .i64 d.ch,.int .i64 d.re,.int .i64 d.fa,.int .u64 d.cl],.int .u64 id,.agg #[.int .i64 (x).aA,(.slice ax x.sl.length cx),.string (x).hi,.bool (x).la,.int .u64 (x).ri]] w fun e w' => ∃(bw b g cap:Nat) (va:Value) (ps:List Pt),e=.returned (.pointer (some ⟨bw,0,none⟩))/\ps=⟨d.node id 0,⟨aT 0,⟨#[]⟩,0⟩⟩::bQ d id x /\
   St K w' (mJ b id (aT 0) x va g cap ps 0::az (.slice (some ⟨g,0,none⟩) ps.length cap) 139 4 ps.length (cm ps)::blk bw (.cells #[.pointer (some ⟨b,0,none⟩)] 145)::bz va x::az (.slice ax (x).sl.length cx) 69 2 (x).sl.length (aF (x).sl)::F):=by
 have f2:=hd.m7;have qx:=fun w F (f:St K w (az (.slice ax (x).sl.length cx) 69 2 (x).sl.length (aF (x).sl)::F))=>uN (cap:=cx) (pg:=x) hd hid lx hle f
 have Tw:(bQ d id x).length=x.sl.length+3:=by simp[bQ,fe]
 obtain⟨q,V⟩:∃q,q=bQ d id x:=⟨_,rfl⟩;rw[←V]at qx Tw ⊢;have Qx:=ass qx;have nx:q.length<=40:=by omega
 have Qa:=ass (fun w=>iG d hd id hid.1 hid.2 w)
 have Ql:=ass (fun w=>ua 0 (by decide) (by decide) w)
 obtain⟨J,P⟩:∃j,j=d.node id 0:=⟨_,rfl⟩;obtain⟨M,Q⟩:∃z,z=aT 0:=⟨_,rfl⟩;simp only[←P]at Qa;simp only[←Q]at Ql;rw[←P,←Q];obtain⟨iv,dm,dr,dw,dx⟩:=info_parts yK;clear qx V Tw P Q;have f:=(f.made (.cells #[.int .i64 d.th,.int .i64 d.sn,.int .i64 d.no,.int .i64 d.ch,.int .i64 d.re,.int .i64 d.fa,.int .u64 d.cl] 29)).made (.cells #[.int .i64 (x).aA,(.slice ax x.sl.length cx),.string (x).hi,.bool (x).la,.int .u64 (x).ri] 43);rw[World.size_alloc]at f;go_enter Tryz.func38,Tryz.ntmps38
 go_wp2_with fail
 refine(mZ f (Ql.out _)).mono ?_
 clear f;generalize w.heap.size=R;rintro e w1 ⟨rfl,f⟩;go_upto_region 2 with(fail)
 go_cut [8] (fun v8 wx=>∃(jR:Option Addr) (c11:Nat),v8=.slice jR (1+q.length) c11/\St K wx (az (.slice jR (1+q.length) c11) 139 4 (1+q.length) ([.int .i64 J,.int .u64 M,.string ⟨#[]⟩,.int .u64 0]++cm q)::blk (R+1) (.cells #[.int .i64 (x).aA,(.slice ax x.sl.length cx),.string (x).hi,.bool (x).la,.int .u64 (x).ri] 43)::az (.slice ax (x).sl.length cx) 69 2 (x).sl.length (aF (x).sl)::F))
 case first=>
  as_aux_lemma=>
  have Hs:=ass f;clear f;refine aX [false,false,false,false,false,false,true,false,false,false,true,true,true] [6,10,11,12] (fun|11=>[6,10] | 12=>[11] | _=>[])
   (FrR K (blk (R+1) (.cells #[.int .i64 (x).aA,(.slice ax x.sl.length cx),.string (x).hi,.bool (x).la,.int .u64 (x).ri] 43)::blk R (.cells #[.int .i64 d.th,.int .i64 d.sn,.int .i64 d.no,.int .i64 d.ch,.int .i64 d.re,.int .i64 d.fa,.int .u64 d.cl] 29)::az (.slice ax (x).sl.length cx) 69 2 (x).sl.length (aF (x).sl)::F) q.length [.int .i64 J,.int .u64 M,.string ⟨#[]⟩,.int .u64 0] (cm q))
   (fun W=>St K W (blk (R+1) (.cells #[.int .i64 (x).aA,(.slice ax x.sl.length cx),.string (x).hi,.bool (x).la,.int .u64 (x).ri] 43)::blk R (.cells #[.int .i64 d.th,.int .i64 d.sn,.int .i64 d.no,.int .i64 d.ch,.int .i64 d.re,.int .i64 d.fa,.int .u64 d.cl] 29)::az (.slice ax (x).sl.length cx) 69 2 (x).sl.length (aF (x).sl)::F)) ?aS (by kernel_rfl) ?hB ?H ?ja ?h0 ?hI ?hR ?hE ?hQ
  case hB=>as_aux_lemma=>kernel_rfl
  case H=>
   intro I f;have kp:=f.k0;have kl:=f.k1;clear f;simp only[cG];repeat (go_big_quiet_step ((go_at_call 69;exact aZ (Qa.out _))))
   refine wpQuiet_nil ?_
   rfl
  case ja=>rfl
  case h0=>exact⟨0,none,0,none,0,fun v h=>(by cases h),fun v h=>(by cases h),fun v h=>(by cases h),fun v h=>(by cases h),Hs.out.empty.empty⟩
  case hI=>
   rintro ρ I ⟨b6,B,i,jR,c11,A,e2,e3,e4,f⟩;exact f.tail.tail
  case hR=>
   rintro ρ I W3 ⟨b6,B,i,jR,c11,A,e2,e3,e4,f⟩ hb;exact⟨b6,B,i,jR,c11,A,e2,e3,e4,f.same hb⟩
  case hE=>
   refine⟨?e6,?Zf,?e11,?xB,trivial⟩;case e6=>
    intro o T ρ I h D N C af s;obtain rfl:=asy T;replace s:af=aj _ ρ [] _:=s;have m:ρ 11=none:=D.none (by simp) (show 6∈[6,10]by simp) N
    obtain⟨b6,B,i,jR,c11,A,e2,e3,e4,f⟩:=h;rw[N,m]at f;simp only[aj]at s;subst s;go_wp2
    refine⟨rfl,_,rfl,I.heap.size,B,i,jR,c11,fun v O=>(asy O).symm,e2,e3,e4,?_⟩
    show St K _ (aaD _ (ρ 11) _ _ _ _ _ _::_)
    rw[m];exact f.tail.made _
   case Zf=>
    intro o T ρ I h D r C af s;obtain rfl:=asy T;replace s:af=aj _ ρ [] _:=s;obtain⟨b6,B,i,jR,c11,A,e2,e3,e4,f⟩:=h;rw[r]at f;simp only[aj]at s;subst s;go_wp2_with fail
    refine(Qx.out _ _ f.b4).mono ?_
    rintro e W3 ⟨va,rfl,E⟩;obtain⟨Z,c2,rfl,_,_⟩:=E.aJ;go_wp2
    exact⟨rfl,_,rfl,b6,Z,c2,jR,c11,A,fun v O=>(asy O).symm,e3,e4,E.b3.tail.b1.u4.b1⟩
   case e11=>
    intro o T ρ I h D m C af s;obtain rfl:=asy T;replace s:af=aj _ ρ [6,10] _:=s;obtain⟨v6,N⟩:=asv.1 (C 6 (by show _∈[6,10];simp))
    obtain⟨v10,r⟩:=asv.1 (C 10 (by show _∈[6,10];simp))
    have U:ρ 12=none:=D.none (by simp) (show 11∈[11]by simp) m
    obtain⟨b6,B,i,jR,c11,A,e2,e3,e4,f⟩:=h;obtain rfl:=A v6 N;obtain rfl:=e2 v10 r;rw[N,r,m]at f;have f:St K I (blk b6 (.cells ([.int .i64 J,.int .u64 M,.string ⟨#[]⟩,.int .u64 0]).toArray 139)::az (.slice B q.length i) 139 4 q.length (cm q)::blk (R+1) (.cells #[.int .i64 (x).aA,(.slice ax x.sl.length cx),.string (x).hi,.bool (x).la,.int .u64 (x).ri] 43)::blk R (.cells #[.int .i64 d.th,.int .i64 d.sn,.int .i64 d.no,.int .i64 d.ch,.int .i64 d.re,.int .i64 d.fa,.int .u64 d.cl] 29)::az (.slice ax (x).sl.length cx) 69 2 (x).sl.length (aF (x).sl)::F):=f;have f:=f.lV (n:=1) (size:=4) rfl (by simp[maxLen])
    have X:∀j u,(cm q)[j]?=some u->∃g off,B=some ⟨g,off,none⟩/\I.cell? ⟨g,off+j,none⟩=some u:=fun j u hu=>by
     obtain⟨g,e,c⟩:=f.b1.cQ hu;exact⟨g,0,e,by rw[Nat.zero_add];exact c⟩
    have hno:B=none->q.length=0:=fun e=>by
     cases q with
     | nil=>rfl
     | cons p l=>
      obtain⟨g,off,e2,_⟩:=X 0 _ (lu (p::l) 0 p rfl).1;rw[e]at e2;cases e2
    simp only[aj,N,r,Option.getD_some,aP,Act.put,asz]at s;subst s;refine cK _ _ 137 139 _ 1 q.length i 4 40 [.int .i64 J,.int .u64 M,.string ⟨#[]⟩,.int .u64 0] (cm q) (.agg #[.int .i64 0,.int .u64 0,.string ⟨#[]⟩,.int .u64 0]) iv B f rfl rfl Tryz.underlying137 dm dr dw dx rfl (by decide) rfl rfl (yJ q) hno X (Nq q) (by omega) (by decide) ?_
    intro v' w' E;obtain⟨Z,c2,rfl,_,_⟩:=E.aJ;refine⟨rfl,_,rfl,b6,B,i,Z,c2,A,e2,fun v O=>(asy O).symm,fun v O=>?_,?_⟩
    ·have:ρ 12=some v:=O
     rw[U]at this;cases this
    ·show St K w' (az _ _ _ _ _::dO (ρ 10) _::_)
     rw[r];exact E
   case xB=>
    intro o T ρ I h D U C af s;obtain rfl:=asy T;replace s:af=aj _ ρ [11] _:=s;obtain⟨v11,m⟩:=asv.1 (C 11 (by show _∈[11];simp))
    obtain⟨b6,B,i,jR,c11,A,e2,e3,e4,f⟩:=h;obtain rfl:=e3 v11 m;simp only[aj,m,Option.getD_some,aP,Act.put,asz]at s;subst s;go_wp2
    exact⟨rfl,_,rfl,b6,B,i,jR,c11,A,e2,e3,fun v O=>(asy O).symm,f⟩
  case hQ=>
   intro ρ I h t;obtain⟨v6,N⟩:=asv.1 (t 6 (by simp))
   obtain⟨v10,r⟩:=asv.1 (t 10 (by simp))
   obtain⟨v11,m⟩:=asv.1 (t 11 (by simp))
   obtain⟨v12,U⟩:=asv.1 (t 12 (by simp))
   obtain⟨b6,B,i,jR,c11,A,e2,e3,e4,f⟩:=h;obtain rfl:=e4 v12 U;rw[m,r]at f;simp only[aj,N,r,m,U,Option.getD_some,aP,Act.put,asz];clear N r m U A e2 e3 e4 t;go_wp2
   go_meet;exact⟨_,_,rfl,(f.b1.tail).b2.tail⟩
 case rest=>
  clear f;obtain⟨jR,c11,rfl,f⟩:=hcut;have A:[.int .i64 J,.int .u64 M,.string ⟨#[]⟩,.int .u64 0]++cm q=cm ((⟨J,⟨M,⟨#[]⟩,0⟩⟩:Pt)::q):=rfl;have e2:((⟨J,⟨M,⟨#[]⟩,0⟩⟩:Pt)::q).length=1+q.length:=by simp;omega
  rw[A]at f;have kp:=f.k1;go_wp2_with fail
  refine(nr (cap:=cx) f (f.b2.cM (by omega))).mono ?_
  clear f kp;rintro e w2 ⟨va,rfl,f⟩;obtain⟨Z,c2,rfl,_,_⟩:=f.aJ;go_wp2_with fail
  refine(qD f).mono ?_
  clear f;rintro e w3 ⟨b,rfl,f⟩;have f:=f.made (.cells #[.pointer (some ⟨b,0,none⟩)] 145);obtain⟨ps,G⟩:∃ps,ps=(⟨J,⟨M,⟨#[]⟩,0⟩⟩:Pt)::q:=⟨_,rfl⟩;rw[←G]at e2;have Ty:ps[0]?=some ⟨J,⟨M,⟨#[]⟩,0⟩⟩:=by rw[G];rfl
  have Y:0<ps.length:=by omega
  rw[←G,←e2]at f;obtain⟨g,rfl,_⟩:=f.b3.cQ (lu ps 0 _ Ty).1;have f:=f.b1;rw[show eA b=(if 0<ps.length then eA b else none)from(if_pos Y).symm]at f
  rw[←e2];have Hs:=ass (f.qE (k:=0) (g:=g) (cap:=c11) (ps:=ps) (fun _=>by rw[Nat.zero_mul,Nat.sub_zero,Nat.sub_zero]))
  have yR:=ass G;clear f Ty Y A e2 G;go_wp2
  go_ret;exact⟨_,b,g,c11,_,ps,rfl,yR.out,(Hs.out.b4.tail).b3.b1⟩
theorem qG {word:Int}{pg:Pg}{b bw bm bc g cap k acc:Nat}{va:Value}{ps:List Pt}{L:List aQ}{p:Pt}(hk:ps[k]?=some p)(h:acc<=1000000000000)
  (f:St K w (mJ b id word pg va g cap ps k::aL bm bc L acc::az (.slice (some ⟨g,0,none⟩) ps.length cap) 139 4 ps.length (cm ps)::blk bw (.cells #[.pointer (some ⟨b,0,none⟩)] 145)::F)) :
  Calls Tryz.prog 40 #[.pointer (some ⟨bw,0,none⟩),.pointer (some ⟨bm,0,none⟩)] w fun e w' => e=.returned (.bool (decide (k+1=ps.length))) /\
   St K w' (mJ b id word pg va g cap ps (k+1)::aL bm bc (aR L p.i p.c) (acc+1)::az (.slice (some ⟨g,0,none⟩) ps.length cap) 139 4 ps.length (cm ps)::blk bw (.cells #[.pointer (some ⟨b,0,none⟩)] 145)::F):=by
 have Q:=ass (Cs hk h f);have kw:=f.b3.k0;clear f;go_enter Tryz.func40,Tryz.ntmps40
 go_wp2_with fail
 refine(Q.out).mono ?_
 rintro e j ⟨rfl,f⟩;go_wp2
 go_ret;exact⟨rfl,f⟩
end
set_option linter.unusedSectionVars false
def fN (L:List aQ)(ps:List Pt):List aQ:=ps.foldl (fun L p=>aR L p.i p.c) L
theorem jv (L:List aQ)(p:Pt)(ps:List Pt):fN L (p::ps)=fN (aR L p.i p.c) ps:=rfl
theorem kP (L:List aQ)(ps c:List Pt):fN L (ps++c)=fN (fN L ps) c:=by unfold fN;rw[List.foldl_append]
theorem Cx {L:List aQ}{ps:List Pt}{k:Nat}{p:Pt}(h:ps[k]?=some p):fN L (ps.take (k+1))=aR (fN L (ps.take k)) p.i p.c:=by
 have e:k<ps.length:=(asu.1 h).1;rw[asx e]at h;rw[List.take_succ_eq_append_getElem e,asy h,kP];rfl
theorem kQ:∀(ps:List Pt)(L:List aQ),(fN L ps).length=L.length
 | [],L=>rfl
 | p::ps,L=>by rw[jv,kQ ps,bg]
theorem iR:∀(ps:List Pt)(L:List aQ)(j:Int),(∀p,p∈ps->j≠p.i)->ah (fN L ps) j=ah L j
 | [],L,j,_=>rfl
 | p::ps,L,j,h=>by rw[jv,iR ps _ j (fun q c=>h q (by simp[c]))];exact bu (h p (by simp))
theorem xD:∀(ps:List Pt)(L:List aQ),(ps.map (·.i)).Nodup->(∀p,p∈ps->0<=p.i/\p.i<L.length)->∀p,p∈ps->ah (fN L ps) p.i=p.c
 | [],L,_,_,p,h=>by simp at h
 | q::ps,L,j,l,p,h=>by
  rw[List.map_cons,List.nodup_cons]at j;rw[jv];rcases List.mem_cons.1 h with h1|h1
  ·subst h1
   rw[iR ps _ _ (fun r f e=>j.1 (List.mem_map.2 ⟨r,f,e.symm⟩))]
   have:=l p (by simp)
   exact cD this.1 (by exact_mod_cast this.2)
  ·exact xD ps _ j.2 (fun r f => by rw[bg];exact l r (by simp[f])) p h1
def Holds (L:List aQ)(ps:List Pt):Prop:=∀p,p∈ps->ah L p.i=p.c
section
variable {d:aU}(hd:d.Ok){id:Int}(h1:1<=id)(h2:id<=d.no)
include hd h1 h2
omit hd h1 h2 in
theorem mg:∀(l:List Sl)(i:Nat),(i+l.length:Int)<=d.fa->∀p,p∈gA d id i l->∃j:Nat,i<=j/\j<i+l.length/\p.i=d.node id (4+(j:Int))
 | [],_,_,p,hp=>by simp[gA]at hp
 | s::l,i,hle,p,hp=>by
  simp only[List.length_cons]at hle;rcases List.mem_cons.1 hp with h|h
  ·subst h
   refine⟨i,Nat.le_refl _,by simp,?_⟩
   show d.slot id i=_
   unfold aU.slot;rw[if_pos ⟨by omega,by omega⟩]
  ·obtain⟨j,a,b,c⟩:=mg l (i+1) (by omega) p h
   exact⟨j,by omega,by simp;omega,c⟩
theorem su:∀(l:List Sl)(i:Nat),(i+l.length:Int)<=d.fa->((gA d id i l).map (·.i)).Nodup
 | [],_,_=>by simp[gA]
 | s::l,i,hle=>by
  simp only[List.length_cons]at hle;show(d.slot id i::(gA d id (i+1) l).map (·.i)).Nodup
  rw[List.nodup_cons];refine⟨fun hm=>?_,su l (i+1) (by omega)⟩
  obtain⟨p,hp,e⟩:=List.mem_map.1 hm;obtain⟨j,a,b,c⟩:=mg l (i+1) (by omega) p hp
  have es:d.slot id i=d.node id (4+(i:Int)):=by
   unfold aU.slot;rw[if_pos ⟨by omega,by omega⟩]
  rw[c,es]at e;exact dH hd h1 h2 (by omega) (by omega) (by omega) (by omega) (by omega) e
theorem fZ {pg:Pg}(hle:(pg.sl.length:Int)<=d.fa):∀p,p∈bQ d id pg->∃k:Int,1<=k/\k<d.fa+4/\p.i=d.node id k:=by
 intro p hp;have f1:=hd.fy;rcases List.mem_append.1 hp with h|h
 ·obtain⟨j,a,b,c⟩:=mg pg.sl 0 (by omega) p h
  exact⟨4+(j:Int),by omega,by omega,c⟩
 ·simp only[List.mem_cons,List.not_mem_nil,or_false]at h
  rcases h with h|h|h <;> subst h
  ·exact⟨2,by omega,by omega,rfl⟩
  ·exact⟨3,by omega,by omega,rfl⟩
  ·exact⟨1,by omega,by omega,rfl⟩
theorem nH {pg:Pg}(hle:(pg.sl.length:Int)<=d.fa):((bQ d id pg).map (·.i)).Nodup:=by
 have f1:=hd.fy;unfold bQ;rw[List.map_append,List.nodup_append];refine⟨su hd h1 h2 pg.sl 0 (by omega),?_,fun a f b e=>?_⟩
 ·have h:=dH hd h1 h2 (k:=2) (k' := 3) (by omega) (by omega) (by omega) (by omega) (by omega)
  have e2:=dH hd h1 h2 (k:=2) (k' := 1) (by omega) (by omega) (by omega) (by omega) (by omega)
  have e3:=dH hd h1 h2 (k:=3) (k' := 1) (by omega) (by omega) (by omega) (by omega) (by omega)
  simp[h,e2,e3]
 ·obtain⟨p,hp,rfl⟩:=List.mem_map.1 f
  obtain⟨j,l,b1,c⟩:=mg pg.sl 0 (by omega) p hp
  rw[c];simp only[List.map_cons,List.map_nil,List.mem_cons,List.not_mem_nil,or_false]at e;rcases e with rfl|rfl|rfl <;> exact dH hd h1 h2 (by omega) (by omega) (by omega) (by omega) (by omega)
theorem Cy {L:List aQ}{pg:Pg}(hlen:(L.length:Int)=d.cells)(hle:(pg.sl.length:Int)<=d.fa)(j:pg.la=true->pg.hi=⟨#[]⟩):Holds (fD d id pg L) (bQ d id pg):=by
 have f1:=hd.fy;have n1:=bZ hd h1 h2 (k:=1) (by omega) (by omega)
 have o:=bZ hd h1 h2 (k:=2) (by omega) (by omega)
 have q:=bZ hd h1 h2 (k:=3) (by omega) (by omega)
 have ne:∀(k:Int) (m:Nat),0<=k->k<=3->0<=m->m<0+pg.sl.length->d.node id k≠d.node id (4+(m:Int)):=fun k m a b _ c=>dH hd h1 h2 a (by omega) (by omega) (by omega) (by omega)
 intro p hp;rcases List.mem_append.1 hp with h|h
 ·have key:∀(l:List Sl) (i:Nat) (L':List aQ),(L'.length:Int)=d.cells->(i+l.length:Int)<=d.fa->∀p,p∈gA d id i l->ah (j6 d id i l L') p.i=p.c:=by
   intro l;induction l with
   | nil=>intro i L' _ _ p hp;simp[gA]at hp
   | cons s l ih=>
    intro i L' f e p hp;simp only[List.length_cons]at e;show ah (j6 d id (i+1) l (aR L' (d.node id (4+(i:Int))) ⟨s.r,s.k,0⟩)) p.i=p.c
    rcases List.mem_cons.1 hp with h|h
    ·subst h
     have es:d.slot id i=d.node id (4+(i:Int)):=by
      unfold aU.slot;rw[if_pos ⟨by omega,by omega⟩]
     show ah _ (d.slot id i)=_
     rw[es,eZ _ _ _ _ (fun k a b=>dH hd h1 h2 (by omega) (by omega) (by omega) (by omega) (by omega))]
     have hi:=bZ hd h1 h2 (k:=4+(i:Int)) (by omega) (by omega)
     exact cD hi.2.1 (by omega)
    ·exact ih (i+1) _ (by rw[bg];exact f) (by omega) p h
  exact key pg.sl 0 _ (by unfold nv;rw[bg,bg,bg];exact hlen) (by omega) p h
 ·simp only[List.mem_cons,List.not_mem_nil,or_false]at h
  unfold fD;rcases h with h|h|h <;> subst h
  ·show ah _ (d.node id 2)=mI pg
   rw[eZ _ _ _ _ (fun k a b=>ne 2 k (by omega) (by omega) a b)]
   unfold nv;rw[bu (dH hd h1 h2 (by omega) (by omega) (by omega) (by omega) (by omega)),cD o.2.1 (by rw[bg];omega)]
   unfold mI;cases t:pg.la with
   | true=>rw[j t];rfl
   | false=>rfl
  ·show ah _ (d.node id 3)=_
   rw[eZ _ _ _ _ (fun k a b=>ne 3 k (by omega) (by omega) a b)]
   unfold nv;rw[cD q.2.1 (by rw[bg,bg];omega)]
  ·show ah _ (d.node id 1)=_
   rw[eZ _ _ _ _ (fun k a b=>ne 1 k (by omega) (by omega) a b)]
   unfold nv;rw[bu (dH hd h1 h2 (by omega) (by omega) (by omega) (by omega) (by omega)),bu (dH hd h1 h2 (by omega) (by omega) (by omega) (by omega) (by omega)),cD n1.2.1 (by omega)]
omit hd h1 h2 in
theorem xE {α β : Type}{f:α -> β}:∀ {l:List α},(l.map f).Nodup->∀ {a b:α},a∈l->b∈l->f a=f b->a=b
 | [],_,a,b,m,_,_=>by simp at m
 | c::l,j,a,b,m,o,e=>by
  rw[List.map_cons,List.nodup_cons]at j;rcases List.mem_cons.1 m with h|h <;> rcases List.mem_cons.1 o with i | i
  ·rw[h,i]
  ·subst h;exact absurd (List.mem_map.2 ⟨b,i,e.symm⟩) j.1
  ·subst i;exact absurd (List.mem_map.2 ⟨a,h,e⟩) j.1
  ·exact xE j.2 h i e
theorem Nv {L:List aQ}{x y:Pg}{mid:List Pt}{t s:aQ}(u:Holds L (bQ d id x))(f:lA (bQ d id x) (bQ d id y) mid)(hlen:(L.length:Int)=d.cells)(m:(y.sl.length:Int)<=d.fa) :
  Holds (fN L (⟨d.node id 0,t⟩::mid++[⟨d.node id 0,s⟩])) (bQ d id y):=by
 intro p hp;have f1:=hd.fy;obtain⟨k,k1,k2,z⟩:=fZ hd h1 h2 m p hp;have h:p.i≠d.node id 0:=by rw[z];exact dH hd h1 h2 (by omega) k2 (by omega) (by omega) (by omega)
 have j:=nH hd h1 h2 m;rw[List.cons_append,jv,kP];show ah (aR _ (d.node id 0) s) p.i=p.c
 rw[bu h];by_cases hm:p∈mid
 ·refine xD mid _ (j.sublist (f.1.map _)) (fun q l=>?_) p hm
  obtain⟨A,B,o,eq⟩:=fZ hd h1 h2 m q (f.1.subset l);have:=bZ hd h1 h2 (k:=A) (by omega) o
  rw[bg,eq];omega
 ·have r:p∈bQ d id x:=Classical.byContradiction fun C=>hm (f.2 p hp C)
  rw[iR mid _ _ (fun q l e=>hm (by rw[xE j hp (f.1.subset l) e];exact l)),bu h]
  exact u p r
theorem Nw {L:List aQ}{y:Pg}{mid:List Pt}{e h:aQ}(c:mid.Sublist (bQ d id y))(hlen:(L.length:Int)=d.cells)(i:(y.sl.length:Int)<=d.fa){k:Nat}(hk:1<=k)(l:k<=mid.length+1) :
  ah (fN L (List.take k (⟨d.node id 0,e⟩::mid++[⟨d.node id 0,h⟩]))) (d.node id 0)=e:=by
 have f1:=hd.fy;obtain⟨k,rfl⟩:∃j,k=j+1:=⟨k-1,by omega⟩
 rw[List.cons_append,List.take_succ_cons,List.take_append_of_le_length (by omega),jv]
 rw[iR _ _ _ (fun q m=>?_)]
 ·have n0:=bZ hd h1 h2 (k:=0) (by omega) (by omega)
  show ah (aR L (d.node id 0) e) (d.node id 0)=e
  exact cD n0.2.1 (by omega)
 ·obtain⟨r,o,f,eq⟩:=fZ hd h1 h2 i q (c.subset (List.mem_of_mem_take m))
  rw[eq];exact dH hd h1 h2 (by omega) (by omega) (by omega) f (by omega)
theorem uO {L:List aQ}{mid:List Pt}{e c:aQ}(hlen:(L.length:Int)=d.cells):ah (fN L (⟨d.node id 0,e⟩::mid++[⟨d.node id 0,c⟩])) (d.node id 0)=c:=by
 have f1:=hd.fy;have n0:=bZ hd h1 h2 (k:=0) (by omega) (by omega)
 rw[kP];show ah (aR _ (d.node id 0) c) (d.node id 0)=c
 exact cD n0.2.1 (by rw[kQ];omega)
end
end Go.Proofs.YtlpdhhhgckpcfaaGreat
