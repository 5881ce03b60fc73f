
/- Lock in a tree that others change (pure). -/
import Derived.Test.YtlpdhhhgckpcfaaGreatConcR
import Derived.Test.YtlpdhhhgckpcfaaGreatLockLaw
namespace Go.Proofs.YtlpdhhhgckpcfaaGreat
open Go.RowKit
set_option maxRecDepth 100000
structure Ib (t:List (List Nd))(key:ByteArray)(level:Nat)(l:List Nd)(i:Nat)(nd:Nd):Prop where
 hl:t[level]?=some l
 hi:l[i]?=some nd
 low:cE key nd.low=false
structure rV (d:aR)(L:List aP)(id word:Int):Prop where
 c:ah L (d.node id 0)=⟨word,⟨#[]⟩,0⟩
 w:word%4=1
 bd:0<=word/\word<18446744073709551616
def qE (d:aR):Nat:=d.fa.toNat+8
def Xy (c:Int)(s:oO):Nat:=if s.pc=0 then 2 else if c=aH s.word then 1 else 3
def Tj (key:ByteArray)(l:List Nd)(i:Nat)(nd:Nd)(q:Nat):Prop:=qT key nd.pg=true\/l.length<=i+1+q
def Ic (d:aR)(L:List aP)(t:List (List Nd))(key:ByteArray)(level lo:Nat)(s:u6)(m:Nat):Prop:=match s.pc with
 | 0=>s.h=mA/\s.fd.pc≠2/\∃ m0,Gz d L t key lo s.fd m0/\m0+qE d<=m
 | 1=>s.h=mA/\∃ l i nd q,Ib t key level l i nd/\s.id=nd.id/\s.aq.pc<=1/\(s.aq.pc=1->s.aq.word%4=1)/\(0<=s.aq.word/\s.aq.word<18446744073709551616)/\Tj key l i nd q/\q*qE d+Xy (ah L (d.node nd.id 0)).n s.aq+(d.fa.toNat+4)<=m
 | 2=>s.h=mA/\∃ l i nd q,Ib t key level l i nd/\s.id=nd.id/\rV d L nd.id s.ow.word/\s.ow.OkO d/\s.ow.pc≠6/\uL nd.pg s.ow/\Tj key l i nd q/\q*qE d+kL d s.ow+1<=m
 | 3=>s.h=mA/\∃ l i nd q,Ib t key level l i nd/\s.id=nd.id/\rV d L nd.id s.ow.word/\s.ow.pg=nd.pg/\qT key nd.pg=false/\Tj key l i nd q/\q*qE d<=m
 | 4=>(∃ l i nd,Ib t key level l i nd/\s.id=nd.id/\(∃ word,s.h=⟨nd.id,word,nd.pg⟩/\rV d L nd.id word)/\qT key nd.pg=true/\nd.id≠0)\/(s.h=mA/\lo<level)
 | _=>False
def jY (s:u6):Bool:=s.pc == 2 || s.pc == 3 || (s.pc == 4 && s.h.id != 0)
section
variable {d:aR}{L L':List aP}{t t':List (List Nd)}{key:ByteArray}{level lo:Nat}{s:u6}{m:Nat}{nd:Nd}
theorem rV.y7 {id word:Int}(h:rV d L id word):bY (ah L (d.node id 0)).n=false:=by
 rw[h.c];unfold bY;have:=h.w;exact decide_eq_false (by show ¬ 2<=word%4;omega)
theorem dQ.bit (hd:d.Ok)(hlen:(L.length:Int)=d.cells)(ht:dQ d L t){k:Nat}{l:List Nd}(hk:t[k]?=some l)(hn:nd∈l){w':Int}(hv:w' / 4=(ah L (d.node nd.id 0)).n / 4)(hc:bY (ah L (d.node nd.id 0)).n=false)(hc':bY w'=false) :
  dQ d (aN L (d.node nd.id 0) ⟨w',⟨#[]⟩,0⟩) t/\vT d L t (aN L (d.node nd.id 0) ⟨w',⟨#[]⟩,0⟩) t /\
  (∀ (k:Nat) (l:List Nd),t[k]?=some l->∀ c,c∈l->(ah (aN L (d.node nd.id 0) ⟨w',⟨#[]⟩,0⟩) (d.node c.id 0)).n / 4=(ah L (d.node c.id 0)).n / 4/\bY (ah (aN L (d.node nd.id 0) ⟨w',⟨#[]⟩,0⟩) (d.node c.id 0)).n=bY (ah L (d.node c.id 0)).n):=by
 have hb:=(ht.sh.nodes k l hk nd hn).1;have sZ:=ht.n4;have f1:=hd.fw;have hpos:=bU hd (id:=nd.id) hb.1 (by omega) (k:=0) (by omega) (by omega)
 have he:ah (aN L (d.node nd.id 0) ⟨w',⟨#[]⟩,0⟩) (d.node nd.id 0)=⟨w',⟨#[]⟩,0⟩:=b9 hpos.2.1 (by omega)
 have ho:∀ c:Nd,1<=c.id->c.id<=d.no->∀ j:Int,0<=j->j<d.fa+4->(c.id≠nd.id\/j≠0)->ah (aN L (d.node nd.id 0) ⟨w',⟨#[]⟩,0⟩) (d.node c.id j)=ah L (d.node c.id j):=by
  intro c c1 c2 j j1 j2 hne;refine bg ?_
  by_cases hci:c.id=nd.id
  ·rw[hci]
   exact dw hd hb.1 (by omega) j1 j2 (by omega) (by omega) (by rcases hne with h|h;exact absurd hci h;exact h)
  ·exact cJ hd c1 c2 hb.1 (by omega) j1 j2 (by omega) (by omega) hci
 have eJ:∀ j:Int,j<8->ah (aN L (d.node nd.id 0) ⟨w',⟨#[]⟩,0⟩) j=ah L j:=fun j hj=>by
  refine bg ?_
  have n0:=(bU hd (id:=nd.id) hb.1 (by omega) (k:=0) (by omega) (by omega)).1
  have hA:=hd.eb;have m3:0<=(nd.id-1)*(d.fa+4):=Int.mul_nonneg (by omega) (by omega)
  omega
 have hw:∀ (k:Nat) (l:List Nd),t[k]?=some l->∀ c,c∈l->(ah (aN L (d.node nd.id 0) ⟨w',⟨#[]⟩,0⟩) (d.node c.id 0)).n / 4=(ah L (d.node c.id 0)).n / 4/\bY (ah (aN L (d.node nd.id 0) ⟨w',⟨#[]⟩,0⟩) (d.node c.id 0)).n=bY (ah L (d.node c.id 0)).n:=by
  intro k l hk c hcm;have hcb:=(ht.sh.nodes k l hk c hcm).1;by_cases hci:c.id=nd.id
  ·rw[hci,he]
   exact⟨hv,by rw[hc];exact hc'⟩
  ·rw[ho c hcb.1 (by omega) 0 (by omega) (by omega) (.inl hci)]
   exact⟨rfl,rfl⟩
 refine⟨⟨by rw[eJ 4 (by omega)];exact ht.sh,by rw[eJ 4 (by omega)];exact ht.n4,by rw[eJ 0 (by omega)];exact ht.root,fun k' l' hk' c hcm hch=>?_,fun k' l' hk' c hcm hev=>?_⟩,fun k' l' hk' c hcm=>⟨l',c,hk',hcm,rfl,rfl,?_⟩,hw⟩
 ·have hcb:=(ht.sh.nodes k' l' hk' c hcm).1
  have hold:=ht.node k' l' hk' c hcm (by rw[← (hw k' l' hk' c hcm).2];exact hch)
  refine⟨hold.page.frame hcb.1 (by omega) f1 (fun j a b=>ho c hcb.1 (by omega) j (by omega) b (.inr (by omega))),hold.hold.frame hd hcb.1 (by omega) hold.page.le (fun j a b=>ho c hcb.1 (by omega) j (by omega) b (.inr (by omega))),?_,?_⟩
  ·by_cases hci:c.id=nd.id
   ·rw[hci,he]
   ·rw[ho c hcb.1 (by omega) 0 (by omega) (by omega) (.inl hci)];exact hold.k
  ·by_cases hci:c.id=nd.id
   ·rw[hci,he]
   ·rw[ho c hcb.1 (by omega) 0 (by omega) (by omega) (.inl hci)];exact hold.m
 ·have hcb:=(ht.sh.nodes k' l' hk' c hcm).1
  by_cases hci:c.id=nd.id
  ·rw[hci,he]at hev ⊢
   simp only at hev ⊢;unfold bY at hc';have:=of_decide_eq_false hc';omega
  ·rw[ho c hcb.1 (by omega) 0 (by omega) (by omega) (.inl hci)]at hev ⊢
   exact ht.wd k' l' hk' c hcm hev
 ·obtain⟨e1,e2⟩:=hw k' l' hk' c hcm
  exact⟨by omega,fun _ h=>⟨by rw[← e2];exact h,rfl⟩⟩
def De (d:aR)(L:List aP)(t:List (List Nd))(level:Nat)(s s':u6)(L1:List aP):Prop:=
 (L1=L/\jY s'=jY s/\(jY s=true->s'.id=s.id)) \/
 (jY s=false/\jY s'=true/\s'.id=s.id/\(∃ l nd,t[level]?=some l/\nd∈l/\nd.id=s.id)/\(ah L (d.node s.id 0)).n%4=0/\L1=aN L (d.node s.id 0) ⟨(ah L (d.node s.id 0)).n+1,⟨#[]⟩,0⟩) \/
 (jY s=true/\jY s'=false/\(∃ l nd,t[level]?=some l/\nd∈l/\nd.id=s.id)/\(ah L (d.node s.id 0)).n%4=1/\L1=aN L (d.node s.id 0) ⟨(ah L (d.node s.id 0)).n-1,⟨#[]⟩,0⟩)
theorem Ic.step (hd:d.Ok)(hL:bI L)(hlen:(L.length:Int)=d.cells)(ht:dQ d L t)(h:Ic d L t key level lo s m)(Ag:s.pc≠4)(hlv:lo<=level) :
  s.Ok d key level L/\s.h=mA/\De d L t level s (aM d key level L s).1 (aM d key level L s).2 /\
  ∃ m',Ic d (aM d key level L s).2 t key level lo (aM d key level L s).1 m' /\ m' <= m /\
   ((s.pc=0->s.fd.pc=1->bY (ah L (d.node s.fd.id 0)).n=false)->(s.pc=1->s.aq.pc=0->(ah L (d.node s.id 0)).n%2=0)->m' + 1<=m):=by
 have iY:=hd.mM;have yB:=hd.mV;have f1:=hd.fw;have sZ:=ht.n4;have aeB:s.pc=0\/s.pc=1\/s.pc=2\/s.pc=3:=by
  by_cases h5:5<=s.pc
  ·obtain⟨pc,fd,id,aq,ow,hh⟩:=s
   obtain⟨n,rfl⟩:∃ n,pc=n+5:=⟨pc-5,by simp only at h5;omega⟩
   exact h.elim
  ·omega
 obtain⟨pc,fd,id,aq,ow,hh⟩:=s;simp only at aeB;clear Ag;rcases aeB with rfl|rfl|rfl|rfl
 ·obtain⟨h1,h2,m0,hf,hm⟩:=h
  simp only at h1 h2 hf;subst h1;obtain⟨⟨m0',g1,g5,g6⟩,g2,g3,g4⟩:=hf.step (level:=level) hd hL ht h2 hlv;have hbd:(bX d L key level fd).pc=2->(0<=(bX d L key level fd).id/\(bX d L key level fd).id<18446744073709551616)/\(bX d L key level fd).pg.sl.length<=1000000:=by
   intro e;rcases g4 e with⟨e1,e2,_⟩|⟨l,nd,hl,hn,e1,e2,_,_,e3⟩
   ·rw[e1,e2]
    exact⟨by omega,by show(0:Nat)<=1000000;omega⟩
   ·have hb:=(ht.sh.nodes level l hl nd hn).1
    have hp:=(ht.page level l hl nd hn e3).le;rw[e1,e2];exact⟨by omega,by omega⟩
  refine⟨⟨Nat.zero_le _,fun _=>⟨g2,h2,g3,hbd⟩,fun h=>by simp at h,fun h=>by simp at h,fun h=>by simp at h,fun h=>by simp at h⟩,rfl,?_⟩
  unfold aM;simp only;by_cases hp:(bX d L key level fd).pc=2
  ·rw[if_pos hp]
   rcases g4 hp with⟨e1,e2,k,l,an2,hk,_⟩|⟨l,nd,hl,hn,e1,e2,e4,e5,e3⟩
   ·rw[if_pos e1]
    refine⟨.inl ⟨rfl,rfl,fun h=>by cases h⟩,0,.inr ⟨rfl,by omega⟩,Nat.zero_le _,fun _ _=>?_⟩
    unfold qE at hm;omega
   ·have hb:=(ht.sh.nodes level l hl nd hn).1
    rw[if_neg (by rw[e1];omega)]
    obtain⟨i,hi⟩:=aqp hn;unfold qE at hm;refine⟨.inl ⟨rfl,rfl,fun h=>by cases h⟩,d.fa.toNat+6,⟨rfl,l,i,nd,0,⟨hl,hi,e4⟩,e1,Nat.zero_le _,fun h=>by simp[mF]at h,⟨by show(0:Int)<=0;omega,by show(0:Int)<_;omega⟩,.inl e5,?_⟩,by omega,fun _ _=>by omega⟩
    show 0*qE d+2+(d.fa.toNat+4)<=d.fa.toNat+6
    omega
  ·rw[if_neg hp]
   refine⟨.inl ⟨rfl,rfl,fun h=>by cases h⟩,_,⟨rfl,hp,m0',g1,Nat.le_refl _⟩,by omega,fun hq _=>?_⟩
   have:=g6 (hq trivial);omega
 ·obtain⟨h1,l,i,nd,q,ha,hid,hp,hw,hb,hq,hm⟩:=h
  simp only at h1 hid hp hw hb hm;subst h1 hid;have hnm:=aqs ha.hi;have hnb:=(ht.sh.nodes level l ha.hl nd hnm).1;have hcb0:0<=(ah L (d.node nd.id 0)).n:=(hL (d.node nd.id 0)).1;have an3:(ah L (d.node nd.id 0)).n<18446744073709551616:=(hL (d.node nd.id 0)).2;have hpos:=bU hd (id:=nd.id) hnb.1 (by omega) (k:=0) (by omega) (by omega)
  have hwd:=ht.wd level l ha.hl nd hnm;refine⟨⟨by show 1<=3;omega,fun h=>by simp at h,fun _=>by simp only;omega,fun _=>⟨⟨by show aq.pc<=2;omega,hb⟩,by show aq.pc≠2;omega⟩,fun h=>by simp at h,fun h=>by simp at h⟩,rfl,?_⟩
  obtain⟨ap,aw⟩:=aq;simp only at hp hw hb;unfold aM;simp only;rcases(by omega:ap=0\/ap=1)with rfl|rfl
  ·have qC:Xy (ah L (d.node nd.id 0)).n ⟨0,aw⟩=2:=rfl
   rw[qC]at hm;unfold bL;simp only;by_cases abM:(ah L (d.node nd.id 0)).n%2=1
   ·simp only[if_pos abM,show ¬ ((0:Nat)=2)by omega,if_false]
    refine⟨.inl ⟨rfl,rfl,fun h=>by cases h⟩,m,⟨rfl,l,i,nd,q,ha,rfl,Nat.zero_le _,fun h=>by simp at h,hb,hq,hm⟩,Nat.le_refl _,fun _ hs=>?_⟩
    have:=hs trivial trivial;omega
   ·simp only[if_neg abM,show ¬ ((1:Nat)=2)by omega,if_false]
    have h4:=hwd (by omega)
    have hlk:=rT h4;have hun:=oG h4;refine⟨.inl ⟨rfl,rfl,fun h=>by cases h⟩,m-1,⟨rfl,l,i,nd,q,ha,rfl,Nat.le_refl _,fun _=>by show aO _%4=1;rw[hlk];omega,by show 0<=aO _/\aO _<18446744073709551616;rw[hlk];exact⟨by omega,by omega⟩,hq,?_⟩,by omega,fun _ _=>by omega⟩
    show q*qE d+Xy (ah L (d.node nd.id 0)).n ⟨1,aO (ah L (d.node nd.id 0)).n⟩+(d.fa.toNat+4)<=m-1
    have:Xy (ah L (d.node nd.id 0)).n ⟨1,aO (ah L (d.node nd.id 0)).n⟩=1:=by
     unfold Xy;rw[if_neg (by show ¬ ((1:Nat)=0);omega),if_pos (by show _=aH (aO _);rw[hlk,hun])]
    omega
  ·have hw4:=hw rfl
   unfold bL;simp only;have hun:aH aw=aw-1:=by unfold aH;omega
   by_cases hsw:bW L (d.node nd.id 0) (aH aw)=true
   ·simp only[if_pos hsw,if_true]
    have hc:(ah L (d.node nd.id 0)).n=aw-1:=by
     unfold bW at hsw;simp only[Bool.and_eq_true,decide_eq_true_eq]at hsw;rw[hsw.2,hun]
    have hq1:Xy (ah L (d.node nd.id 0)).n ⟨1,aw⟩=1:=by
     unfold Xy;rw[if_neg (by show ¬ ((1:Nat)=0);omega),if_pos (by show _=aH aw;rw[hun,hc])]
    rw[hq1]at hm;refine⟨.inr (.inl ⟨rfl,rfl,rfl,⟨l,nd,ha.hl,hnm,rfl⟩,by show(ah L (d.node nd.id 0)).n%4=0;omega,by rw[hc];show _=aN L (d.node nd.id 0) ⟨aw-1+1,⟨#[]⟩,0⟩;rw[show aw-1+1=aw by omega]⟩),q*qE d+(d.fa.toNat+3)+1,⟨rfl,l,i,nd,q,ha,rfl,⟨b9 hpos.2.1 (by omega),hw4,hb⟩,Wm d aw,by show(1:Nat)≠6;omega,trivial,hq,Nat.le_refl _⟩,by omega,fun _ _=>by omega⟩
   ·simp only[if_neg hsw,show ¬ ((0:Nat)=2)by omega,if_false]
    have hc:(ah L (d.node nd.id 0)).n≠aH aw:=fun e=>by
     apply hsw
     unfold bW;rw[decide_eq_true (by omega),decide_eq_true (by omega),decide_eq_true e]
     rfl
    have hq3:Xy (ah L (d.node nd.id 0)).n ⟨1,aw⟩=3:=by
     unfold Xy;rw[if_neg (by show ¬ ((1:Nat)=0);omega),if_neg hc]
    rw[hq3]at hm;refine⟨.inl ⟨rfl,rfl,fun h=>by cases h⟩,m-1,⟨rfl,l,i,nd,q,ha,rfl,Nat.zero_le _,fun h=>by simp at h,hb,hq,?_⟩,by omega,fun _ _=>by omega⟩
    show q*qE d+2+(d.fa.toNat+4)<=m-1
    omega
 ·obtain⟨h1,l,i,nd,q,ha,hid,hlt,hok,h6,hpt,hq,hm⟩:=h
  simp only at h1 hid hlt hok h6 hpt hm;subst h1 hid;have hnm:=aqs ha.hi;have hnb:=(ht.sh.nodes level l ha.hl nd hnm).1;have hpage:=ht.page level l ha.hl nd hnm hlt.y7;obtain⟨p1,p2,p3⟩:=hpt.step hpage h6;have ac8:=ub (id:=nd.id) hd hL hok;refine⟨⟨by show 2<=3;omega,fun h=>by simp at h,fun _=>by simp only;omega,fun h=>by simp at h,fun _=>⟨hok,h6⟩,fun h=>by simp at h⟩,rfl,?_⟩
  unfold aM;simp only;generalize bR d nd.id L ow=o at *;by_cases ho:o.pc=6
  ·rw[if_pos ho]
   have Xz:o.pg=nd.pg:=by
    unfold uL at p1;rw[ho]at p1;exact p1
   by_cases hin:qT key o.pg=true
   ·rw[if_pos hin]
    refine⟨.inl ⟨rfl,by simp[jY];omega,fun _=>rfl⟩,0,.inl ⟨l,i,nd,ha,rfl,⟨o.word,by rw[Xz],by rw[p2];exact hlt⟩,by rw[← Xz];exact hin,by omega⟩,Nat.zero_le _,fun _ _=>by omega⟩
   ·rw[if_neg hin]
    refine⟨.inl ⟨rfl,rfl,fun _=>rfl⟩,q*qE d,⟨rfl,l,i,nd,q,ha,rfl,by rw[p2];exact hlt,Xz,?_,hq,Nat.le_refl _⟩,by omega,fun _ _=>by omega⟩
    rw[← Xz];simpa using hin
  ·rw[if_neg ho]
   exact⟨.inl ⟨rfl,rfl,fun _=>rfl⟩,q*qE d+kL d o+1,⟨rfl,l,i,nd,q,ha,rfl,by rw[p2];exact hlt,ac8,ho,p1,hq,Nat.le_refl _⟩,by omega,fun _ _=>by omega⟩
 ·obtain⟨h1,l,i,nd,q,ha,hid,hlt,mO,hin,hq,hm⟩:=h
  simp only at h1 hid hlt mO hm;subst h1 hid;have hnm:=aqs ha.hi;have hnb:=(ht.sh.nodes level l ha.hl nd hnm).1;have hR:=ht.sh.rows level l ha.hl;have hil:=(aqq.1 ha.hi).1;have Ya:nd.pg.la=false/\cE key nd.pg.hi=false:=by
   unfold qT at hin;simpa using hin
  have hlt2:i+1<l.length:=by
   rcases Nat.lt_or_ge (i+1) l.length with h|h
   ·exact h
   ·have:=(hR.last i nd ha.hi (by omega)).1
    rw[Ya.1]at this;cases this
  obtain⟨b,hb⟩:∃ b,l[i+1]?=some b:=⟨_,aqt hlt2⟩;obtain⟨_,q2,q3,_⟩:=hR.next i nd b ha.hi hb;have hbb:=(ht.sh.nodes level l ha.hl b (aqs hb)).1;have hq1:l.length<=i+1+q:=by
   rcases hq with h|h
   ·rw[hin]at h;cases h
   ·exact h
  obtain⟨q,rfl⟩:∃ k,q=k+1:=⟨q-1,by omega⟩
  have hun:aH ow.word=ow.word-1:=by have:=hlt.w;unfold aH;omega
  have hw4:=hlt.w;refine⟨⟨by show 3<=3;omega,fun h=>by simp at h,fun _=>by simp only;omega,fun h=>by simp at h,fun h=>by simp at h,fun _=>⟨hlt.bd,by rw[mO,q3];omega⟩⟩,rfl,?_⟩
  unfold aM;simp only;refine⟨.inr (.inr ⟨rfl,rfl,⟨l,nd,ha.hl,hnm,rfl⟩,by show(ah L (d.node nd.id 0)).n%4=1;rw[hlt.c];exact hw4,by show aN L (d.node nd.id 0) _=aN L (d.node nd.id 0) ⟨(ah L (d.node nd.id 0)).n-1,⟨#[]⟩,0⟩;rw[hlt.c,hun]⟩),q*qE d+2+(d.fa.toNat+4),⟨rfl,l,i+1,b,q,⟨ha.hl,hb,by rw[← q2];exact Ya.2⟩,by rw[mO,q3],Nat.zero_le _,fun h=>by simp[mF]at h,⟨by show(0:Int)<=0;omega,by show(0:Int)<_;omega⟩,.inr (by omega),Nat.le_refl _⟩,?_,fun _ _=>?_⟩
  ·rw[Nat.add_mul,Nat.one_mul]at hm
   have:qE d=d.fa.toNat+8:=rfl;omega
  ·rw[Nat.add_mul,Nat.one_mul]at hm
   have:qE d=d.fa.toNat+8:=rfl;omega
theorem De.tree {s':u6}{L1:List aP}(hd:d.Ok)(hL:bI L)(hlen:(L.length:Int)=d.cells)(ht:dQ d L t)(h:De d L t level s s' L1) :
  dQ d L1 t/\vT d L t L1 t/\bI L1/\(L1.length:Int)=d.cells/\(∀ (k:Nat) (l:List Nd),t[k]?=some l->∀ nd,nd∈l->(ah L1 (d.node nd.id 0)).n / 4=(ah L (d.node nd.id 0)).n / 4/\bY (ah L1 (d.node nd.id 0)).n=bY (ah L (d.node nd.id 0)).n) /\
  (∀ j:Int,j≠d.node s.id 0->ah L1 j=ah L j):=by
 rcases h with⟨rfl,_⟩|⟨_,_,_,⟨l,nd,hl,hn,hid⟩,h4,rfl⟩|⟨_,_,⟨l,nd,hl,hn,hid⟩,h4,rfl⟩
 ·exact⟨ht,vT.refl _ _ _,hL,hlen,fun _ _ _ _ _=>⟨rfl,rfl⟩,fun _ _=>rfl⟩
 ·rw[← hid]at h4 ⊢
  have hb:=hL (d.node nd.id 0);obtain⟨q1,q2,q3⟩:=ht.bit hd hlen hl hn (w' := (ah L (d.node nd.id 0)).n+1) (by omega) (by unfold bY;exact decide_eq_false (by omega)) (by unfold bY;exact decide_eq_false (by omega))
  refine⟨q1,q2,hL.put ⟨by show 0<=(ah L (d.node nd.id 0)).n+1;have:=hb.1;omega,by show(ah L (d.node nd.id 0)).n+1<_;have:=hb.2;omega⟩,by rw[aY];exact hlen,q3,fun j hj=>bg hj⟩
 ·rw[← hid]at h4 ⊢
  have hb:=hL (d.node nd.id 0);obtain⟨q1,q2,q3⟩:=ht.bit hd hlen hl hn (w' := (ah L (d.node nd.id 0)).n-1) (by omega) (by unfold bY;exact decide_eq_false (by omega)) (by unfold bY;exact decide_eq_false (by omega))
  refine⟨q1,q2,hL.put ⟨by show 0<=(ah L (d.node nd.id 0)).n-1;have:=hb.1;omega,by show(ah L (d.node nd.id 0)).n-1<_;have:=hb.2;omega⟩,by rw[aY];exact hlen,q3,fun j hj=>bg hj⟩
end
end Go.Proofs.YtlpdhhhgckpcfaaGreat
