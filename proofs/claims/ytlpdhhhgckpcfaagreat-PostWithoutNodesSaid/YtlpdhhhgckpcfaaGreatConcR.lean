
/- agt in a tree that others change (pure): what Read has copied, where Find is. -/
import Derived.Test.YtlpdhhhgckpcfaaGreatTreePut
import Derived.Test.YtlpdhhhgckpcfaaGreatFindLaw
import Derived.Test.YtlpdhhhgckpcfaaGreatNodeOwn
namespace Go.Proofs.YtlpdhhhgckpcfaaGreat
open Go.RowKit
set_option maxRecDepth 100000
def yQ (pg:Pg)(s:mN):Prop:=match s.pc with
 | 1=>True
 | 2=>s.pg=⟨pg.az,[],⟨#[]⟩,false,0⟩/\s.left=pg.sl.length
 | 3=>s.pg=⟨pg.az,[],pg.hi,pg.la,0⟩/\s.left=pg.sl.length
 | 4=>∃ j,j<pg.sl.length/\s.pg=⟨pg.az,pg.sl.take j,pg.hi,pg.la,pg.ri⟩/\s.left=pg.sl.length-j
 | 5=>s.pg=pg
 | _=>False
theorem yR {pg:Pg}{j:Nat}(h:pg.sl.length<=j):(⟨pg.az,pg.sl.take j,pg.hi,pg.la,pg.ri⟩:Pg)=pg:=by
 rw[List.take_of_length_le h]
theorem yQ.step {d:aR}{id:Int}{L:List aP}{pg:Pg}{s:mN}(hp:eA d id L pg)(h:yQ pg s)(h4:s.pc<=4):yQ pg (rdStep d id L s):=by
 have Cw:leftOf d (ah L (d.node id 1))=pg.sl.length:=by
  have:=hp.le;unfold leftOf;rw[hp.n,Int.min_eq_left this];omega
 obtain⟨pc,spg,left,word,tt⟩:=s;match pc,h,h4 with
 | 0,h,_=>exact h.elim
 | 1,_,_=>
  unfold rdStep;simp only[hp.az,Cw];exact⟨rfl,rfl⟩
 | 2,h,_=>
  obtain⟨h1,h2⟩:=h;simp only at h1 h2;subst h1 h2;unfold rdStep Pg.high;simp only[hp.hi,hp.la];exact⟨rfl,rfl⟩
 | 3,h,_=>
  obtain⟨h1,h2⟩:=h;simp only at h1 h2;subst h1 h2;unfold rdStep Pg.right;simp only[hp.ri];by_cases h0:pg.sl.length=0
  ·rw[if_pos h0]
   show _=pg
   have:=yR (pg:=pg) (j:=0) (by omega)
   rw[List.take_zero]at this;exact this
  ·rw[if_neg h0]
   exact⟨0,by omega,rfl,rfl⟩
 | 4,h,_=>
  obtain⟨j,hj,h1,h2⟩:=h;simp only at h1 h2;subst h1 h2;obtain⟨x,hx⟩:∃ x,pg.sl[j]?=some x:=⟨_,aqt hj⟩;obtain⟨e1,e2⟩:=hp.sl _ _ hx;have hlen:(pg.sl.take j).length=j:=by rw[List.length_take];omega
  have dX:(pg.sl.take j)++[⟨x.k,x.r⟩]=pg.sl.take (j+1):=by rw[List.take_add_one,hx];rfl
  unfold rdStep Pg.push;simp only[hlen,e1,e2,dX];by_cases h0:pg.sl.length-j-1=0
  ·rw[if_pos h0]
   exact yR (by omega)
  ·rw[if_neg h0]
   exact⟨j+1,by omega,rfl,by show pg.sl.length-j-1=pg.sl.length-(j+1);omega⟩
 | n+5,h,h4=>exact absurd h4 (by simp)
def uL (pg:Pg)(s:mN):Prop:=match s.pc with
 | 1=>True
 | 2=>s.pg=⟨pg.az,[],⟨#[]⟩,false,0⟩/\s.left=pg.sl.length
 | 3=>s.pg=⟨pg.az,[],pg.hi,pg.la,0⟩/\s.left=pg.sl.length
 | 4=>∃ j,j<pg.sl.length/\s.pg=⟨pg.az,pg.sl.take j,pg.hi,pg.la,pg.ri⟩/\s.left=pg.sl.length-j
 | 6=>s.pg=pg
 | _=>False
def kL (d:aR)(s:mN):Nat:=match s.pc with
 | 1=>d.fa.toNat+3
 | 2=>s.left+2
 | 3=>s.left+1
 | 4=>s.left
 | _=>0
theorem uL.step {d:aR}{id:Int}{L:List aP}{pg:Pg}{s:mN}(hp:eA d id L pg)(h:uL pg s)(h6:s.pc≠6):uL pg (bR d id L s)/\(bR d id L s).word=s.word/\kL d (bR d id L s)<kL d s:=by
 have hle:=hp.le;have Cw:leftOf d (ah L (d.node id 1))=pg.sl.length:=by
  unfold leftOf;rw[hp.n,Int.min_eq_left hle];omega
 obtain⟨pc,spg,left,word,tt⟩:=s;match pc,h,h6 with
 | 0,h,_=>exact h.elim
 | 1,_,_=>
  unfold bR;simp only[hp.az,Cw];exact⟨⟨rfl,rfl⟩,trivial,by simp only[kL];omega⟩
 | 2,h,_=>
  obtain⟨h1,h2⟩:=h;simp only at h1 h2;subst h1 h2;unfold bR Pg.high;simp only[hp.hi,hp.la];exact⟨⟨rfl,rfl⟩,trivial,by simp only[kL];omega⟩
 | 3,h,_=>
  obtain⟨h1,h2⟩:=h;simp only at h1 h2;subst h1 h2;unfold bR Pg.right;simp only[hp.ri];by_cases h0:pg.sl.length=0
  ·rw[if_pos h0]
   refine⟨?_,trivial,by simp only[kL];omega⟩
   show _=pg
   have:=yR (pg:=pg) (j:=0) (by omega)
   rw[List.take_zero]at this;exact this
  ·rw[if_neg h0]
   exact⟨⟨0,by omega,rfl,rfl⟩,trivial,by simp only[kL];omega⟩
 | 4,h,_=>
  obtain⟨j,hj,h1,h2⟩:=h;simp only at h1 h2;subst h1 h2;obtain⟨x,hx⟩:∃ x,pg.sl[j]?=some x:=⟨_,aqt hj⟩;obtain⟨e1,e2⟩:=hp.sl _ _ hx;have hlen:(pg.sl.take j).length=j:=by rw[List.length_take];omega
  have dX:(pg.sl.take j)++[⟨x.k,x.r⟩]=pg.sl.take (j+1):=by rw[List.take_add_one,hx];rfl
  unfold bR Pg.push;simp only[hlen,e1,e2,dX];by_cases h0:pg.sl.length-j-1=0
  ·rw[if_pos h0]
   exact⟨yR (by omega),trivial,by simp only[kL];omega⟩
  ·rw[if_neg h0]
   exact⟨⟨j+1,by omega,rfl,by show pg.sl.length-j-1=pg.sl.length-(j+1);omega⟩,trivial,by simp only[kL];omega⟩
 | 5,h,_=>exact h.elim
 | 6,_,h6=>exact absurd rfl h6
 | n+7,h,_=>exact h.elim
structure ku (c c':Int)(pg lH:Pg):Prop where
 le:c / 4<=c' / 4
 same:c / 4=c' / 4->bY c'=false->bY c=false/\lH=pg
theorem ku.refl (c:Int)(pg:Pg):ku c c pg pg:=⟨Int.le_refl _,fun _ h=>⟨h,rfl⟩⟩
structure RdC (c:Int)(pg:Pg)(s:mN):Prop where
 pc:s.pc<=5
 ok:1<=s.pc->bY s.word=false/\s.word / 4<=c / 4/\(s.word / 4=c / 4->bY c=false->yQ pg s)
theorem aep (c:Int)(pg:Pg):RdC c pg pq:=⟨by decide,fun h=>absurd h (by decide)⟩
theorem mg {v c:Int}(hv:bY v=false)(h:aH v=aH c):v / 4=c / 4/\bY c=false:=by
 unfold aH at h;unfold bY at hv ⊢;have hv' := of_decide_eq_false hv;exact⟨by omega,decide_eq_false (by omega)⟩
theorem sF {v c:Int}(hv:bY v=false)(hc:bY c=false)(h:v / 4=c / 4):aH v=aH c:=by
 unfold aH;unfold bY at hv hc;have hv' := of_decide_eq_false hv;have hc' := of_decide_eq_false hc;omega
theorem RdC.step {d:aR}{id:Int}{L:List aP}{pg:Pg}{s:mN}(hp:bY (ah L (d.node id 0)).n=false->eA d id L pg)(h:RdC (ah L (d.node id 0)).n pg s) :
  ((rdStep d id L s).pc<=5/\RdC (ah L (d.node id 0)).n pg (rdStep d id L s))\/((rdStep d id L s).pc=6/\bY (ah L (d.node id 0)).n=false/\(rdStep d id L s).pg=pg):=by
 have h5:=h.pc;by_cases h0:s.pc=0
 ·obtain⟨pc,spg,left,word,tt⟩:=s
  simp only at h0;subst h0;refine .inl ?_
  unfold rdStep;simp only;cases hc:bY (ah L (d.node id 0)).n with
  | true=>exact⟨by simp,by simp,fun h=>absurd h (by simp)⟩
  | false=>exact⟨by simp,by simp,fun _=>⟨hc,Int.le_refl _,fun _ _=>trivial⟩⟩
 ·obtain⟨q1,q2,q3⟩:=h.ok (by omega)
  by_cases h4:s.pc<=4
  ·have hw:(rdStep d id L s).word=s.word/\1<=(rdStep d id L s).pc/\(rdStep d id L s).pc<=5:=by
    obtain⟨pc,spg,left,word,tt⟩:=s;simp only at h0 h4;rcases(by omega:pc=1\/pc=2\/pc=3\/pc=4)with rfl|rfl|rfl|rfl
    ·exact⟨rfl,by show 1<=2;omega,by show 2<=5;omega⟩
    ·exact⟨rfl,by show 1<=3;omega,by show 3<=5;omega⟩
    ·refine⟨rfl,?_,?_⟩ <;> (simp only[rdStep];split <;> omega)
    ·refine⟨rfl,?_,?_⟩ <;> (simp only[rdStep];split <;> omega)
   refine .inl ⟨hw.2.2,hw.2.2,fun _=>?_⟩
   rw[hw.1];exact⟨q1,q2,fun e1 e2=>(q3 e1 e2).step (hp e2) h4⟩
  ·obtain⟨pc,spg,left,word,tt⟩:=s
   simp only at h0 h4 h5 q1 q2 q3;obtain rfl:pc=5:=by omega
   unfold rdStep;simp only;by_cases hu:aH word=aH (ah L (d.node id 0)).n
   ·rw[if_pos (by rw[hu];exact beq_self_eq_true _)]
    obtain⟨r1,r2⟩:=mg q1 hu;exact .inr ⟨rfl,r2,q3 r1 r2⟩
   ·rw[if_neg (by simpa using hu)]
    exact .inl ⟨by simp,by simp,fun h=>absurd h (by simp)⟩
def fP (d:aR)(s:mN):Nat:=match s.pc with
 | 0=>d.fa.toNat+5
 | 1=>d.fa.toNat+4
 | 2=>s.left+3
 | 3=>s.left+2
 | 4=>s.left+1
 | 5=>1
 | _=>0
def xf (d:aR)(c:Int)(s:mN):Nat:=fP d s+(if s.pc=0\/(s.word / 4=c / 4/\bY c=false)then 0 else d.fa.toNat+5)
theorem Te {d:aR}(hd:d.Ok){id:Int}{L:List aP}{pg:Pg}{s:mN}(hL:bI L)(hok:s.Ok d)(h:RdC (ah L (d.node id 0)).n pg s)(hc:bY (ah L (d.node id 0)).n=false) :
  xf d (ah L (d.node id 0)).n (rdStep d id L s)<xf d (ah L (d.node id 0)).n s:=by
 have h5:=h.pc;have hk:=h.ok;have hl4:=hok.left;have hl:=nW hd (c:=ah L (d.node id 1)) (hL _);have f1:=hd.fw;obtain⟨pc,spg,left,word,tt⟩:=s;simp only at h5 hk hl4;rcases(by omega:pc=0\/pc=1\/pc=2\/pc=3\/pc=4\/pc=5)with rfl|rfl|rfl|rfl|rfl|rfl
 ·simp only[rdStep,hc,xf,fP]
  simp
 ·simp only[rdStep,xf,fP,hc,and_true]
  simp only[show ¬ (2=0)by omega,show ¬ (1=0)by omega,false_or]
  omega
 ·simp only[rdStep,xf,fP,hc,and_true]
  simp only[show ¬ (2=0)by omega,show ¬ (3=0)by omega,false_or]
  omega
 ·simp only[rdStep,xf,hc,and_true]
  by_cases h0:left=0
  ·simp only[if_pos h0,fP,show ¬ (5=0)by omega,show ¬ (3=0)by omega,false_or];omega
  ·simp only[if_neg h0,fP,show ¬ (4=0)by omega,show ¬ (3=0)by omega,false_or];omega
 ·have:=hl4 rfl
  simp only[rdStep,xf,hc,and_true];by_cases h0:left-1=0
  ·simp only[if_pos h0,fP,show ¬ (5=0)by omega,show ¬ (4=0)by omega,false_or];omega
  ·simp only[if_neg h0,fP,show ¬ (4=0)by omega,false_or];omega
 ·obtain⟨q1,_,_⟩:=hk (by omega)
  simp only[rdStep];by_cases hu:aH word=aH (ah L (d.node id 0)).n
  ·rw[if_pos (by rw[hu];exact beq_self_eq_true _)]
   obtain⟨r1,_⟩:=mg q1 hu;simp only[xf,fP,r1,hc,and_true];simp
  ·rw[if_neg (by simpa using hu)]
   have hne:¬ (word / 4=(ah L (d.node id 0)).n / 4):=fun e=>hu (sF q1 hc e)
   simp only[xf,fP,hc,and_true,show ¬ (5=0)by omega,false_or,if_neg hne]
   simp
theorem Xw {d:aR}(hd:d.Ok){id:Int}{L:List aP}{pg:Pg}{s:mN}(hL:bI L)(hok:s.Ok d)(h:RdC (ah L (d.node id 0)).n pg s)(hc:bY (ah L (d.node id 0)).n=true) :
  xf d (ah L (d.node id 0)).n (rdStep d id L s)<=xf d (ah L (d.node id 0)).n s:=by
 have h5:=h.pc;have hk:=h.ok;have hl4:=hok.left;have hl:=nW hd (c:=ah L (d.node id 1)) (hL _);have f1:=hd.fw;obtain⟨pc,spg,left,word,tt⟩:=s;simp only at h5 hk hl4;rcases(by omega:pc=0\/pc=1\/pc=2\/pc=3\/pc=4\/pc=5)with rfl|rfl|rfl|rfl|rfl|rfl
 ·simp only[rdStep,hc,xf,fP]
  simp
 ·simp only[rdStep,xf,fP,hc,Bool.true_eq_false,and_false,or_false]
  simp only[show ¬ (2=0)by omega,show ¬ (1=0)by omega,if_false]
  omega
 ·simp only[rdStep,xf,fP,hc,Bool.true_eq_false,and_false,or_false]
  simp only[show ¬ (2=0)by omega,show ¬ (3=0)by omega,if_false]
  omega
 ·simp only[rdStep,xf,hc,Bool.true_eq_false,and_false,or_false]
  by_cases h0:left=0
  ·simp only[if_pos h0,fP,show ¬ (5=0)by omega,show ¬ (3=0)by omega,if_false];omega
  ·simp only[if_neg h0,fP,show ¬ (4=0)by omega,show ¬ (3=0)by omega,if_false];omega
 ·have:=hl4 rfl
  simp only[rdStep,xf,hc,Bool.true_eq_false,and_false,or_false];by_cases h0:left-1=0
  ·simp only[if_pos h0,fP,show ¬ (5=0)by omega,show ¬ (4=0)by omega,if_false];omega
  ·simp only[if_neg h0,fP,show ¬ (4=0)by omega,if_false];omega
 ·obtain⟨q1,_,_⟩:=hk (by omega)
  simp only[rdStep];by_cases hu:aH word=aH (ah L (d.node id 0)).n
  ·obtain⟨_,r2⟩:=mg q1 hu
   rw[hc]at r2;cases r2
  ·rw[if_neg (by simpa using hu)]
   simp only[xf,fP,hc,Bool.true_eq_false,and_false,or_false,show ¬ (5=0)by omega,if_false]
   simp
structure Tf (d:aR)(L:List aP)(nd:Nd):Prop where
 page:eA d nd.id L nd.pg
 hold:Holds L (bN d nd.id nd.pg)
 k:(ah L (d.node nd.id 0)).k=⟨#[]⟩
 m:(ah L (d.node nd.id 0)).m=0
theorem Tf.frame {d:aR}{L L':List aP}{nd:Nd}(hd:d.Ok)(h1:1<=nd.id)(h2:nd.id<=d.no)(h:Tf d L nd)(he:∀ j:Int,0<=j->j<d.fa+4->ah L' (d.node nd.id j)=ah L (d.node nd.id j)):Tf d L' nd:=by
 have f1:=hd.fw;refine⟨h.page.frame h1 h2 f1 (fun k a b=>he k (by omega) b),h.hold.frame hd h1 h2 h.page.le (fun k a b=>he k (by omega) b),?_,?_⟩
 ·rw[he 0 (by omega) (by omega)];exact h.k
 ·rw[he 0 (by omega) (by omega)];exact h.m
structure dQ (d:aR)(L:List aP)(t:List (List Nd)):Prop where
 sh:rR (ah L 4).n t
 n4:(ah L 4).n<=d.no
 root:∃ nd rest,t[t.length-1]?=some (nd::rest)/\(ah L 0).n=nd.id
 node:∀ (k:Nat) (l:List Nd),t[k]?=some l->∀ nd,nd∈l->bY (ah L (d.node nd.id 0)).n=false->Tf d L nd
 wd:∀ (k:Nat) (l:List Nd),t[k]?=some l->∀ nd,nd∈l->(ah L (d.node nd.id 0)).n%2=0->(ah L (d.node nd.id 0)).n%4=0
theorem dQ.page {d:aR}{L:List aP}{t:List (List Nd)}(h:dQ d L t)(k:Nat)(l:List Nd)(hk:t[k]?=some l)(nd:Nd)(hn:nd∈l)(hc:bY (ah L (d.node nd.id 0)).n=false):eA d nd.id L nd.pg:=(h.node k l hk nd hn hc).page
def Quiet (d:aR)(L:List aP)(t:List (List Nd)):Prop:=∀ (k:Nat) (l:List Nd),t[k]?=some l->∀ nd,nd∈l->bY (ah L (d.node nd.id 0)).n=false
def vT (d:aR)(L:List aP)(t:List (List Nd))(L':List aP)(t':List (List Nd)):Prop:=
 ∀ (k:Nat) (l:List Nd),t[k]?=some l->∀ nd,nd∈l->∃ l' lY,t'[k]?=some l' /\ lY∈l' /\ lY.id=nd.id/\lY.low=nd.low/\ku (ah L (d.node nd.id 0)).n (ah L' (d.node nd.id 0)).n nd.pg lY.pg
theorem vT.refl (d:aR)(L:List aP)(t:List (List Nd)):vT d L t L t:=fun _ l hk nd hn=>⟨l,nd,hk,hn,rfl,rfl,ku.refl _ _⟩
theorem rU (t:List (List Nd)){a b:Nat}(h:a<=b):cS t a<=cS t b:=by
 induction b with
 | zero=>
  obtain rfl:a=0:=by omega
  exact Nat.le_refl _
 | succ b ih=>
  by_cases e:a=b+1
  ·rw[e];exact Nat.le_refl _
  ·refine Nat.le_trans (ih (by omega)) ?_
   unfold cS;rw[List.take_add_one,List.map_append,List.sum_append];exact Nat.le_add_right _ _
def pE (t:List (List Nd))(lo:Nat):Nat:=(t.map List.length).sum-cS t lo
def Gz (d:aR)(L:List aP)(t:List (List Nd))(key:ByteArray)(lo:Nat)(s:pZ)(m:Nat):Prop:=
 (s.pc=0/\(∃ l nd,t[lo]?=some l/\nd∈l)/\pE t lo*bT d+1<=m) \/
 (s.pc=1/\∃ (k i:Nat) (l:List Nd) (nd:Nd),t[k]?=some l/\l[i]?=some nd/\s.id=nd.id/\lo<=k/\s.rd.Ok d/\cE key nd.low=false/\RdC (ah L (d.node nd.id 0)).n nd.pg s.rd /\
  (l.length-i+(cS t k-cS t lo)-1)*bT d+xf d (ah L (d.node nd.id 0)).n s.rd<=m) \/
 s.pc=2
def aer (d:aR)(L:List aP)(t:List (List Nd))(key:ByteArray)(level lo:Nat)(s:pZ):Prop:=
 (s.id=0/\s.pg=Fb/\∃ (k:Nat) (l:List Nd),lo<=k/\k<level/\t[k]?=some l)\/∃ (l:List Nd) (nd:Nd),t[level]?=some l/\nd∈l/\s.id=nd.id/\s.pg=nd.pg/\cE key nd.low=false/\(nd.pg.la || cE key nd.pg.hi)=true/\bY (ah L (d.node nd.id 0)).n=false
section
variable {d:aR}{L:List aP}{t:List (List Nd)}{key:ByteArray}{level lo:Nat}{s:pZ}{m:Nat}
theorem Gz.start (h:∃ l nd,t[lo]?=some l/\nd∈l):Gz d L t key lo fd0 (pE t lo*bT d+1):= .inl ⟨rfl,h,Nat.le_refl _⟩
theorem aes (c:Int):xf d c pq=bT d:=rfl
theorem Gz.still (h:Gz d L t key lo s m)(hQ:Quiet d L t)(h1:s.pc=1):bY (ah L (d.node s.id 0)).n=false:=by
 rcases h with⟨h,_⟩|⟨_,k,i,l,nd,hk,hi,hid,_⟩|h
 ·omega
 ·rw[hid];exact hQ k l hk nd (aqs hi)
 ·omega
theorem Gz.go {N:Int}(ht:rR N t){k i:Nat}{l:List Nd}{nd:Nd}(hk:t[k]?=some l)(hi:l[i]?=some nd)(eJ:cE key nd.low=false)(hlo:lo<=k){s0:pZ}
  (hm:(l.length-i+(cS t k-cS t lo))*bT d<=m):Gz d L t key lo (iF s0 nd.id) m:=by
 have hid:=(ht.nodes k l hk nd (aqs hi)).1.1;have hil:=(aqq.1 hi).1;have e:iF s0 nd.id=⟨1,nd.id,s0.pg,pq⟩:=by unfold iF;rw[if_neg (by omega)]
 rw[e];refine .inr (.inl ⟨rfl,k,i,l,nd,hk,hi,rfl,hlo,aaF d,eJ,aep _ _,?_⟩);rw[aes];have h1:l.length-i+(cS t k-cS t lo)=(l.length-i+(cS t k-cS t lo)-1)+1:=by omega
 rw[h1,Nat.add_mul,Nat.one_mul]at hm;exact hm
theorem Gz.step (hd:d.Ok)(hL:bI L)(ht:dQ d L t)(h:Gz d L t key lo s m)(Ag:s.pc≠2)(hlv:lo<=level) :
  (∃ m',Gz d L t key lo (bX d L key (level:Nat) s) m' /\ m' <= m/\((s.pc=1->bY (ah L (d.node s.id 0)).n=false)->m' + 1<=m))/\s.Ok d/\(s.pc=1->(rdStep d s.id L s.rd).pc=6->tV level (rdStep d s.id L s.rd).pg)/\((bX d L key (level:Nat) s).pc=2->aer d L t key level lo (bX d L key (level:Nat) s)):=by
 have iY:=hd.mM;have hS:=ht.sh;have sZ:=ht.n4;rcases h with⟨h0,⟨l0,nd0,hl0,_⟩,hm⟩|⟨h1,k,i,l,nd,hk,hi,hid,hlo,hok,eJ,hrd,hm⟩|h2
 ·obtain⟨pc,id,pg,rd⟩:=s
  simp only at h0;subst h0;obtain⟨nd,rest,gU,hroot⟩:=ht.root;have qY:=(hS.rows _ _ gU).first nd rfl
  have hid:=(hS.nodes _ _ gU nd List.mem_cons_self).1.1;have e:bX d L key level ⟨0,id,pg,rd⟩=⟨1,nd.id,pg,pq⟩:=by
   show iF _ (ah L 0).n=_
   rw[hroot];unfold iF;rw[if_neg (by omega)]
  refine⟨⟨m-1,?_,by omega,fun _=>by omega⟩,⟨(show(0:Nat)<=2 by omega),fun h=>absurd h (by simp)⟩,fun h=>absurd h (by simp),fun h=>?_⟩
  ·show Gz d L t key lo (iF _ (ah L 0).n) _
   rw[hroot];have anR:=(aqq.1 hl0).1;refine Gz.go hS gU (i:=0) rfl (by rw[qY];exact jK _) (by omega) ?_
   have hne:=hS.ne;have hb:=rS gU;have hle:=Ng t (t.length-1+1);have hmo:=rU t (show lo<=t.length-1 by omega)
   have e:(nd::rest).length-0+(cS t (t.length-1)-cS t lo)<=pE t lo:=by
    unfold pE;simp only[List.length_cons,List.length_nil]at hb ⊢;omega
   have:=Nat.mul_le_mul_right (bT d) e;omega
  ·rw[e]at h
   simp at h
 ·obtain⟨pc,id,pg,rd⟩:=s
  simp only at h1 hid hok hrd hm;subst h1 hid;have hmem:=aqs hi;obtain⟨hN1,hNS⟩:=hS.nodes k l hk nd hmem;have hR:=hS.rows k l hk;have hil:=(aqq.1 hi).1;have ajs:=hrd.pc;have hq:=Te hd hL hok hrd;have hstep:=hrd.step (ht.page k l hk nd hmem);have ajt:0<=nd.pg.ri:=by
   rcases Nat.lt_or_ge (i+1) l.length with hlt|hge
   ·obtain⟨b,hb⟩:∃ b,l[i+1]?=some b:=⟨_,aqt hlt⟩
    rw[(hR.next i nd b hi hb).2.2.1];have:=(hS.nodes k l hk b (aqs hb)).1.1;omega
   ·rw[(hR.last i nd hi (by omega)).2.2];omega
  have hpage:(rdStep d nd.id L rd).pc=6->bY (ah L (d.node nd.id 0)).n=false/\(rdStep d nd.id L rd).pg=nd.pg:=fun h6=>by
   rcases hstep with⟨h5,_⟩|⟨_,q1,q2⟩
   ·omega
   ·exact⟨q1,q2⟩
  have Zj:(rdStep d nd.id L rd).pc=6->tV level (rdStep d nd.id L rd).pg:=fun h6=>by
   rw[(hpage h6).2];exact⟨ajt,fun s hs=>by have:=hNS.rf s hs;omega,fun _=>hNS.j7⟩
  have aeu:(⟨1,nd.id,pg,rd⟩:pZ).Ok d:=⟨by show 1<=2;omega,fun _=>⟨hN1.1,by show nd.id<_;omega,hok,ajs⟩⟩
  rcases hstep with⟨h5,aju⟩|⟨h6,aev,mO⟩
  ·have e:bX d L key level ⟨1,nd.id,pg,rd⟩=⟨1,nd.id,pg,rdStep d nd.id L rd⟩:=by
    show(if _ then _ else _)=_
    rw[if_neg (by show ¬ (rdStep d nd.id L rd).pc=6;omega)]
   rw[e];refine⟨⟨(l.length-i+(cS t k-cS t lo)-1)*bT d+xf d (ah L (d.node nd.id 0)).n (rdStep d nd.id L rd),.inr (.inl ⟨rfl,k,i,l,nd,hk,hi,rfl,hlo,wF hd hL hok,eJ,aju,Nat.le_refl _⟩),?_,fun hQ=>?_⟩,aeu,fun _=>Zj,fun h=>by simp at h⟩
   ·cases hc:bY (ah L (d.node nd.id 0)).n with
    | true=>have:=Xw hd hL hok hrd hc;omega
    | false=>have:=hq hc;omega
   ·have:=hq (hQ rfl)
    omega
  ·have e:bX d L key level ⟨1,nd.id,pg,rd⟩=jr key level nd.id nd.pg:=by
    show(if _ then _ else _)=_
    rw[if_pos h6,mO]
   rw[e];have ak2:=hR.az nd hmem;have hq1:=hq aev;have hmm:(l.length-i+(cS t k-cS t lo)-1)*bT d+1<=m:=by omega
   refine⟨?_,aeu,fun _=>Zj,?_⟩
   ·refine⟨m-1,?_,by omega,fun _=>by omega⟩
    unfold jr;by_cases hlt:nd.pg.az<level
    ·rw[if_pos hlt]
     exact .inr (.inr rfl)
    ·rw[if_neg hlt]
     cases hin:(nd.pg.la || cE key nd.pg.hi)with
     | true=>
      rw[if_pos rfl];by_cases heq:nd.pg.az=level
      ·rw[if_pos heq]
       exact .inr (.inr rfl)
      ·rw[if_neg heq]
       obtain⟨k',rfl⟩:∃ k',k=k' + 1:=⟨k-1,by omega⟩
       obtain⟨l',hk'⟩:∃ l',t[k']?=some l' := ⟨_,aqt (by have:=(aqq.1 hk).1;omega)⟩
       obtain⟨⟨s0,r,fj,hs0⟩,hall⟩:=hS.down k' l' l hk' hk nd hmem;have hpos:0<je nd.pg.sl key:=(lT hNS.j7 (i:=0) (s:=s0) (by rw[fj];rfl)).1 (by rw[hs0];exact eJ)
       have anT:=xP nd.pg.sl key;obtain⟨sv,hsv⟩:∃ sv,nd.pg.sl[je nd.pg.sl key-1]?=some sv:=⟨_,aqt (by omega)⟩
       have hsk:=(lT hNS.j7 (key:=key) hsv).2 (by omega)
       have hcr:kX key nd.pg.sl=sv.r:=by
        unfold kX jQ;rw[if_neg (by omega),show((je nd.pg.sl key:Int)-1).toNat=je nd.pg.sl key-1 by omega,hsv]
       obtain⟨c,hc,abJ,aex⟩:=hall sv (aqs hsv);obtain⟨j,hj⟩:=aqp hc;rw[hcr,← abJ];refine Gz.go hS hk' hj (by rw[aex];exact hsk) (by omega) ?_
       have hb:=rS hk';have hmo:=rU t (show lo<=k' by omega)
       have e2:l'.length-j+(cS t k' - cS t lo)<=l.length-i+(cS t (k' + 1)-cS t lo)-1:=by omega
       exact Nat.le_trans (Nat.mul_le_mul_right _ e2) (by omega)
     | false=>
      rw[if_neg (by simp)]
      simp only[Bool.or_eq_false_iff]at hin;have hlt2:i+1<l.length:=by
       rcases Nat.lt_or_ge (i+1) l.length with h|h
       ·exact h
       ·have:=(hR.last i nd hi (by omega)).1
        rw[hin.1]at this;cases this
      obtain⟨b,hb⟩:∃ b,l[i+1]?=some b:=⟨_,aqt hlt2⟩;obtain⟨_,q2,q3,_⟩:=hR.next i nd b hi hb;rw[q3];refine Gz.go hS hk hb (by rw[← q2];exact hin.2) hlo ?_
      have e2:l.length-(i+1)+(cS t k-cS t lo)<=l.length-i+(cS t k-cS t lo)-1:=by omega
      exact Nat.le_trans (Nat.mul_le_mul_right _ e2) (by omega)
   ·have hgo:∀ (s0:pZ) (id':Int),(iF s0 id').pc≠2:=fun s0 id' => by
     unfold iF;split <;> simp
    unfold jr;by_cases hlt:nd.pg.az<level
    ·rw[if_pos hlt]
     exact fun _=> .inl ⟨rfl,rfl,k,l,hlo,by omega,hk⟩
    ·rw[if_neg hlt]
     cases hin:(nd.pg.la || cE key nd.pg.hi)with
     | true=>
      rw[if_pos rfl];by_cases heq:nd.pg.az=level
      ·rw[if_pos heq]
       obtain rfl:k=level:=by omega
       exact fun _=> .inr ⟨l,nd,hk,hmem,rfl,rfl,eJ,hin,aev⟩
      ·rw[if_neg heq]
       exact fun h=>absurd h (hgo _ _)
     | false=>
      rw[if_neg (by simp)]
      exact fun h=>absurd h (hgo _ _)
 ·exact absurd h2 Ag
end
end Go.Proofs.YtlpdhhhgckpcfaaGreat
