/- Lock in a tree that others change (. -/
import Derived.Test.YtlpdhhhgckpcfaaGreatInsTree
namespace Go.Proofs.YtlpdhhhgckpcfaaGreat
set_option linter.unusedSimpArgs false
set_option linter.unusedVariables false
open Go.RowKit
set_option maxRecDepth 100000
section
structure Jn (t:List (List Nd))(key:ByteArray)(level:Nat)(l:List Nd)(i:Nat)(nd:Nd):Prop where
 hl:t[level]?=some l
 hi:l[i]?=some nd
 low:cA key nd.low=false
structure sN (d:aU)(L:List aQ)(id word:Int):Prop where
 c:ah L (d.node id 0)=⟨word,⟨#[]⟩,0⟩
 w:word%4=1
 bd:0<=word/\word<18446744073709551616
def kW (d:aU):Nat:=d.fa.toNat+8
def aqQ (c:Int)(s:oG):Nat:=if s.pc=0 then 2 else if c=aH s.word then 1 else 3
def Vu (key:ByteArray)(l:List Nd)(i:Nat)(nd:Nd)(q:Nat):Prop:=rC key nd.pg=true\/l.length<=i+1+q
def vD (d:aU)(L:List aQ)(t:List (List Nd))(key:ByteArray)(level lo:Nat)(s:xI)(m:Nat):Prop:=match s.pc with
 | 0=>s.h=oq/\s.fd.pc≠2/\∃m0,vC d L t key lo s.fd m0/\m0+kW d<=m
 | 1=>s.h=oq/\∃l i nd q,Jn t key level l i nd/\s.id=nd.id/\s.aq.pc<=1/\(s.aq.pc=1->s.aq.word%4=1)/\(0<=s.aq.word/\s.aq.word<18446744073709551616)/\Vu key l i nd q/\q*kW d+aqQ (ah L (d.node nd.id 0)).n s.aq+(d.fa.toNat+4)<=m
 | 2=>s.h=oq/\∃l i nd q,Jn t key level l i nd/\s.id=nd.id/\sN d L nd.id s.ow.word/\s.ow.OkO d/\s.ow.pc≠6/\vA nd.pg s.ow/\Vu key l i nd q/\q*kW d+kV d s.ow+1<=m
 | 3=>s.h=oq/\∃l i nd q,Jn t key level l i nd/\s.id=nd.id/\sN d L nd.id s.ow.word/\s.ow.pg=nd.pg/\rC key nd.pg=false/\Vu key l i nd q/\q*kW d<=m
 | 4=>(∃l i nd,Jn t key level l i nd/\s.id=nd.id/\(∃word,s.h=⟨nd.id,word,nd.pg⟩/\sN d L nd.id word)/\rC key nd.pg=true/\nd.id≠0)\/(s.h=oq/\lo<level)
 | _=>False
def jJ (s:xI):Bool:=s.pc == 2 || s.pc == 3 || (s.pc == 4 && s.h.id != 0)
section
variable {d:aU}{L L':List aQ}{t t':List (List Nd)}{key:ByteArray}{level lo:Nat}{s:xI}{m:Nat}{nd:Nd}
theorem sN.zK {id word:Int}(h:sN d L id word):cg (ah L (d.node id 0)).n=false:=by
 rw[h.c];unfold cg;have:=h.w;exact decide_eq_false (by show ¬ 2<=word%4;omega)
theorem dP.bit (r:d.Ok)(hlen:(L.length:Int)=d.cells)(p:dP d L t){k:Nat}{l:List Nd}(hk:t[k]?=some l)(G:nd∈l){w':Int}(H:w' / 4=(ah L (d.node nd.id 0)).n / 4)(hc:cg (ah L (d.node nd.id 0)).n=false)(u:cg w'=false) :
  dP d (aR L (d.node nd.id 0) ⟨w',⟨#[]⟩,0⟩) t/\vB d L t (aR L (d.node nd.id 0) ⟨w',⟨#[]⟩,0⟩) t /\
  (∀(k:Nat) (l:List Nd),t[k]?=some l->∀c,c∈l->(ah (aR L (d.node nd.id 0) ⟨w',⟨#[]⟩,0⟩) (d.node c.id 0)).n / 4=(ah L (d.node c.id 0)).n / 4/\cg (ah (aR L (d.node nd.id 0) ⟨w',⟨#[]⟩,0⟩) (d.node c.id 0)).n=cg (ah L (d.node c.id 0)).n):=by
 have y:=(p.sh.nodes k l hk nd G).1;have M:=p.n4;have f1:=r.fy;have x:=bZ r (id:=nd.id) y.1 (by omega) (k:=0) (by omega) (by omega)
 have he:ah (aR L (d.node nd.id 0) ⟨w',⟨#[]⟩,0⟩) (d.node nd.id 0)=⟨w',⟨#[]⟩,0⟩:=cD x.2.1 (by omega)
 have v:∀c:Nd,1<=c.id->c.id<=d.no->∀j:Int,0<=j->j<d.fa+4->(c.id≠nd.id\/j≠0)->ah (aR L (d.node nd.id 0) ⟨w',⟨#[]⟩,0⟩) (d.node c.id j)=ah L (d.node c.id j):=by
  intro c I J j D E z;refine bu ?_
  by_cases e:c.id=nd.id
  ·rw[e]
   exact dH r y.1 (by omega) D E (by omega) (by omega) (by rcases z with h|h;exact absurd e h;exact h)
  ·exact cO r I J y.1 (by omega) D E (by omega) (by omega) e
 have A:∀j:Int,j<8->ah (aR L (d.node nd.id 0) ⟨w',⟨#[]⟩,0⟩) j=ah L j:=fun j N=>by
  refine bu ?_
  have n0:=(bZ r (id:=nd.id) y.1 (by omega) (k:=0) (by omega) (by omega)).1
  have O:=r.eN;have P:0<=(nd.id-1)*(d.fa+4):=Int.mul_nonneg (by omega) (by omega)
  omega
 have hw:∀(k:Nat) (l:List Nd),t[k]?=some l->∀c,c∈l->(ah (aR L (d.node nd.id 0) ⟨w',⟨#[]⟩,0⟩) (d.node c.id 0)).n / 4=(ah L (d.node c.id 0)).n / 4/\cg (ah (aR L (d.node nd.id 0) ⟨w',⟨#[]⟩,0⟩) (d.node c.id 0)).n=cg (ah L (d.node c.id 0)).n:=by
  intro k l hk c g;have i:=(p.sh.nodes k l hk c g).1;by_cases e:c.id=nd.id
  ·rw[e,he]
   exact⟨H,by rw[hc];exact u⟩
  ·rw[v c i.1 (by omega) 0 (by omega) (by omega) (.inl e)]
   exact⟨rfl,rfl⟩
 refine⟨⟨by rw[A 4 (by omega)];exact p.sh,by rw[A 4 (by omega)];exact p.n4,by rw[A 0 (by omega)];exact p.root,fun k' l' o c g B=>?_,fun k' l' o c g q=>?_⟩,fun k' l' o c g=>⟨l',c,o,g,rfl,rfl,?_⟩,hw⟩
 ·have i:=(p.sh.nodes k' l' o c g).1
  have hold:=p.node k' l' o c g (by rw[←(hw k' l' o c g).2];exact B)
  refine⟨hold.page.frame i.1 (by omega) f1 (fun j a b=>v c i.1 (by omega) j (by omega) b (.inr (by omega))),hold.hold.frame r i.1 (by omega) hold.page.le (fun j a b=>v c i.1 (by omega) j (by omega) b (.inr (by omega))),?_,?_⟩
  ·by_cases e:c.id=nd.id
   ·rw[e,he]
   ·rw[v c i.1 (by omega) 0 (by omega) (by omega) (.inl e)];exact hold.k
  ·by_cases e:c.id=nd.id
   ·rw[e,he]
   ·rw[v c i.1 (by omega) 0 (by omega) (by omega) (.inl e)];exact hold.m
 ·have i:=(p.sh.nodes k' l' o c g).1
  by_cases e:c.id=nd.id
  ·rw[e,he]at q ⊢
   simp only at q ⊢;unfold cg at u;have:=of_decide_eq_false u;omega
  ·rw[v c i.1 (by omega) 0 (by omega) (by omega) (.inl e)]at q ⊢
   exact p.wd k' l' o c g q
 ·obtain⟨Q,e2⟩:=hw k' l' o c g
  exact⟨by omega,fun _ h=>⟨by rw[←e2];exact h,rfl⟩⟩
def Em (d:aU)(L:List aQ)(t:List (List Nd))(level:Nat)(s s':xI)(L1:List aQ):Prop:=
 (L1=L/\jJ s'=jJ s/\(jJ s=true->s'.id=s.id)) \/
 (jJ s=false/\jJ s'=true/\s'.id=s.id/\(∃l nd,t[level]?=some l/\nd∈l/\nd.id=s.id)/\(ah L (d.node s.id 0)).n%4=0/\L1=aR L (d.node s.id 0) ⟨(ah L (d.node s.id 0)).n+1,⟨#[]⟩,0⟩) \/
 (jJ s=true/\jJ s'=false/\(∃l nd,t[level]?=some l/\nd∈l/\nd.id=s.id)/\(ah L (d.node s.id 0)).n%4=1/\L1=aR L (d.node s.id 0) ⟨(ah L (d.node s.id 0)).n-1,⟨#[]⟩,0⟩)
theorem vD.step (J:d.Ok)(U:bL L)(hlen:(L.length:Int)=d.cells)(x:dP d L t)(h:vD d L t key level lo s m)(r7:s.pc≠4)(X:lo<=level) :
  s.Ok d key level L/\s.h=oq/\Em d L t level s (aN d key level L s).1 (aN d key level L s).2 /\
  ∃Y,vD d (aN d key level L s).2 t key level lo (aN d key level L s).1 Y /\ Y <= m /\
   ((s.pc=0->s.fd.pc=1->cg (ah L (d.node s.fd.id 0)).n=false)->(s.pc=1->s.aq.pc=0->(ah L (d.node s.id 0)).n%2=0)->Y + 1<=m):=by
 have jw:=J.m6;have zf:=J.m7;have f1:=J.fy;have rI:=x.n4;have M:s.pc=0\/s.pc=1\/s.pc=2\/s.pc=3:=by
  by_cases h5:5<=s.pc
  ·obtain⟨pc,fd,id,aq,ow,hh⟩:=s
   obtain⟨n,rfl⟩:∃n,pc=n+5:=⟨pc-5,by simp only at h5;omega⟩
   exact h.elim
  ·omega
 obtain⟨pc,fd,id,aq,ow,hh⟩:=s;simp only at M;clear r7;rcases M with rfl|rfl|rfl|rfl
 ·obtain⟨z,Z,m0,hf,hm⟩:=h
  simp only at z Z hf;subst z;obtain⟨⟨m0',g1,g5,g6⟩,g2,g3,g4⟩:=hf.step (level:=level) J U x Z X;have hbd:(bY d L key level fd).pc=2->(0<=(bY d L key level fd).id/\(bY d L key level fd).id<18446744073709551616)/\(bY d L key level fd).pg.sl.length<=1000000:=by
   intro e;rcases g4 e with⟨D,e2,_⟩|⟨l,nd,hl,N,D,e2,_,_,e3⟩
   ·rw[D,e2]
    exact⟨by omega,by show(0:Nat)<=1000000;omega⟩
   ·have y:=(x.sh.nodes level l hl nd N).1
    have hp:=(x.page level l hl nd N e3).le;rw[D,e2];exact⟨by omega,by omega⟩
  refine⟨⟨Nat.zero_le _,fun _=>⟨g2,Z,g3,hbd⟩,fun h=>by simp at h,fun h=>by simp at h,fun h=>by simp at h,fun h=>by simp at h⟩,rfl,?_⟩
  unfold aN;simp only;by_cases hp:(bY d L key level fd).pc=2
  ·rw[if_pos hp]
   rcases g4 hp with⟨D,e2,k,l,apJ,hk,_⟩|⟨l,nd,hl,N,D,e2,e4,e5,e3⟩
   ·rw[if_pos D]
    refine⟨.inl ⟨rfl,rfl,fun h=>by cases h⟩,0,.inr ⟨rfl,by omega⟩,Nat.zero_le _,fun _ _=>?_⟩
    unfold kW at hm;omega
   ·have y:=(x.sh.nodes level l hl nd N).1
    rw[if_neg (by rw[D];omega)]
    obtain⟨i,hi⟩:=ast N;unfold kW at hm;refine⟨.inl ⟨rfl,rfl,fun h=>by cases h⟩,d.fa.toNat+6,⟨rfl,l,i,nd,0,⟨hl,hi,e4⟩,D,Nat.zero_le _,fun h=>by simp[mL]at h,⟨by show(0:Int)<=0;omega,by show(0:Int)<_;omega⟩,.inl e5,?_⟩,by omega,fun _ _=>by omega⟩
    show 0*kW d+2+(d.fa.toNat+4)<=d.fa.toNat+6
    omega
  ·rw[if_neg hp]
   refine⟨.inl ⟨rfl,rfl,fun h=>by cases h⟩,_,⟨rfl,hp,m0',g1,Nat.le_refl _⟩,by omega,fun A _=>?_⟩
   have:=g6 (A trivial);omega
 ·obtain⟨z,l,i,nd,q,a,hid,hp,hw,y,A,hm⟩:=h
  simp only at z hid hp hw y hm;subst z hid;have j:=asw a.hi;have E:=(x.sh.nodes level l a.hl nd j).1;have hcb0:0<=(ah L (d.node nd.id 0)).n:=(U (d.node nd.id 0)).1;have apK:(ah L (d.node nd.id 0)).n<18446744073709551616:=(U (d.node nd.id 0)).2;have O:=bZ J (id:=nd.id) E.1 (by omega) (k:=0) (by omega) (by omega)
  have hwd:=x.wd level l a.hl nd j;refine⟨⟨by show 1<=3;omega,fun h=>by simp at h,fun _=>by simp only;omega,fun _=>⟨⟨by show aq.pc<=2;omega,y⟩,by show aq.pc≠2;omega⟩,fun h=>by simp at h,fun h=>by simp at h⟩,rfl,?_⟩
  obtain⟨ap,r⟩:=aq;simp only at hp hw y;unfold aN;simp only;rcases(by omega:ap=0\/ap=1)with rfl|rfl
  ·have oZ:aqQ (ah L (d.node nd.id 0)).n ⟨0,r⟩=2:=rfl
   rw[oZ]at hm;unfold bP;simp only;by_cases P:(ah L (d.node nd.id 0)).n%2=1
   ·simp only[if_pos P,show ¬ ((0:Nat)=2)by omega,if_false]
    refine⟨.inl ⟨rfl,rfl,fun h=>by cases h⟩,m,⟨rfl,l,i,nd,q,a,rfl,Nat.zero_le _,fun h=>by simp at h,y,A,hm⟩,Nat.le_refl _,fun _ hs=>?_⟩
    have:=hs trivial trivial;omega
   ·simp only[if_neg P,show ¬ ((1:Nat)=2)by omega,if_false]
    have h4:=hwd (by omega)
    have G:=sK h4;have u:=kU h4;refine⟨.inl ⟨rfl,rfl,fun h=>by cases h⟩,m-1,⟨rfl,l,i,nd,q,a,rfl,Nat.le_refl _,fun _=>by show aT _%4=1;rw[G];omega,by show 0<=aT _/\aT _<18446744073709551616;rw[G];exact⟨by omega,by omega⟩,A,?_⟩,by omega,fun _ _=>by omega⟩
    show q*kW d+aqQ (ah L (d.node nd.id 0)).n ⟨1,aT (ah L (d.node nd.id 0)).n⟩+(d.fa.toNat+4)<=m-1
    have:aqQ (ah L (d.node nd.id 0)).n ⟨1,aT (ah L (d.node nd.id 0)).n⟩=1:=by
     unfold aqQ;rw[if_neg (by show ¬ ((1:Nat)=0);omega),if_pos (by show _=aH (aT _);rw[G,u])]
    omega
  ·have H:=hw rfl
   unfold bP;simp only;have u:aH r=r-1:=by unfold aH;omega
   by_cases v:bU L (d.node nd.id 0) (aH r)=true
   ·simp only[if_pos v,if_true]
    have hc:(ah L (d.node nd.id 0)).n=r-1:=by
     unfold bU at v;simp only[Bool.and_eq_true,decide_eq_true_eq]at v;rw[v.2,u]
    have Q:aqQ (ah L (d.node nd.id 0)).n ⟨1,r⟩=1:=by
     unfold aqQ;rw[if_neg (by show ¬ ((1:Nat)=0);omega),if_pos (by show _=aH r;rw[u,hc])]
    rw[Q]at hm;refine⟨.inr (.inl ⟨rfl,rfl,rfl,⟨l,nd,a.hl,j,rfl⟩,by show(ah L (d.node nd.id 0)).n%4=0;omega,by rw[hc];show _=aR L (d.node nd.id 0) ⟨r-1+1,⟨#[]⟩,0⟩;rw[show r-1+1=r by omega]⟩),q*kW d+(d.fa.toNat+3)+1,⟨rfl,l,i,nd,q,a,rfl,⟨cD O.2.1 (by omega),H,y⟩,Yz d r,by show(1:Nat)≠6;omega,trivial,A,Nat.le_refl _⟩,by omega,fun _ _=>by omega⟩
   ·simp only[if_neg v,show ¬ ((0:Nat)=2)by omega,if_false]
    have hc:(ah L (d.node nd.id 0)).n≠aH r:=fun e=>by
     apply v
     unfold bU;rw[decide_eq_true (by omega),decide_eq_true (by omega),decide_eq_true e]
     rfl
    have hq3:aqQ (ah L (d.node nd.id 0)).n ⟨1,r⟩=3:=by
     unfold aqQ;rw[if_neg (by show ¬ ((1:Nat)=0);omega),if_neg hc]
    rw[hq3]at hm;refine⟨.inl ⟨rfl,rfl,fun h=>by cases h⟩,m-1,⟨rfl,l,i,nd,q,a,rfl,Nat.zero_le _,fun h=>by simp at h,y,A,?_⟩,by omega,fun _ _=>by omega⟩
    show q*kW d+2+(d.fa.toNat+4)<=m-1
    omega
 ·obtain⟨z,l,i,nd,q,a,hid,g,hok,h6,R,A,hm⟩:=h
  simp only at z hid g hok h6 R hm;subst z hid;have j:=asw a.hi;have E:=(x.sh.nodes level l a.hl nd j).1;have I:=x.page level l a.hl nd j g.zK;obtain⟨V,p2,p3⟩:=R.step I h6;have aee:=uF (id:=nd.id) J U hok;refine⟨⟨by show 2<=3;omega,fun h=>by simp at h,fun _=>by simp only;omega,fun h=>by simp at h,fun _=>⟨hok,h6⟩,fun h=>by simp at h⟩,rfl,?_⟩
  unfold aN;simp only;generalize bV d nd.id L ow=o at *;by_cases W:o.pc=6
  ·rw[if_pos W]
   have B:o.pg=nd.pg:=by
    unfold vA at V;rw[W]at V;exact V
   by_cases p:rC key o.pg=true
   ·rw[if_pos p]
    refine⟨.inl ⟨rfl,by simp[jJ];omega,fun _=>rfl⟩,0,.inl ⟨l,i,nd,a,rfl,⟨o.word,by rw[B],by rw[p2];exact g⟩,by rw[←B];exact p,by omega⟩,Nat.zero_le _,fun _ _=>by omega⟩
   ·rw[if_neg p]
    refine⟨.inl ⟨rfl,rfl,fun _=>rfl⟩,q*kW d,⟨rfl,l,i,nd,q,a,rfl,by rw[p2];exact g,B,?_,A,Nat.le_refl _⟩,by omega,fun _ _=>by omega⟩
    rw[←B];simpa using p
  ·rw[if_neg W]
   exact⟨.inl ⟨rfl,rfl,fun _=>rfl⟩,q*kW d+kV d o+1,⟨rfl,l,i,nd,q,a,rfl,by rw[p2];exact g,aee,W,V,A,Nat.le_refl _⟩,by omega,fun _ _=>by omega⟩
 ·obtain⟨z,l,i,nd,q,a,hid,g,lN,p,A,hm⟩:=h
  simp only at z hid g lN hm;subst z hid;have j:=asw a.hi;have E:=(x.sh.nodes level l a.hl nd j).1;have hR:=x.sh.rows level l a.hl;have hil:=(asu.1 a.hi).1;have S:nd.pg.la=false/\cA key nd.pg.hi=false:=by
   unfold rC at p;simpa using p
  have T:i+1<l.length:=by
   rcases Nat.lt_or_ge (i+1) l.length with h|h
   ·exact h
   ·have:=(hR.last i nd a.hi (by omega)).1
    rw[S.1]at this;cases this
  obtain⟨b,y⟩:∃b,l[i+1]?=some b:=⟨_,asx T⟩;obtain⟨_,q2,q3,_⟩:=hR.next i nd b a.hi y;have hbb:=(x.sh.nodes level l a.hl b (asw y)).1;have Q:l.length<=i+1+q:=by
   rcases A with h|h
   ·rw[p]at h;cases h
   ·exact h
  obtain⟨q,rfl⟩:∃k,q=k+1:=⟨q-1,by omega⟩
  have u:aH ow.word=ow.word-1:=by have:=g.w;unfold aH;omega
  have H:=g.w;refine⟨⟨by show 3<=3;omega,fun h=>by simp at h,fun _=>by simp only;omega,fun h=>by simp at h,fun h=>by simp at h,fun _=>⟨g.bd,by rw[lN,q3];omega⟩⟩,rfl,?_⟩
  unfold aN;simp only;refine⟨.inr (.inr ⟨rfl,rfl,⟨l,nd,a.hl,j,rfl⟩,by show(ah L (d.node nd.id 0)).n%4=1;rw[g.c];exact H,by show aR L (d.node nd.id 0) _=aR L (d.node nd.id 0) ⟨(ah L (d.node nd.id 0)).n-1,⟨#[]⟩,0⟩;rw[g.c,u]⟩),q*kW d+2+(d.fa.toNat+4),⟨rfl,l,i+1,b,q,⟨a.hl,y,by rw[←q2];exact S.2⟩,by rw[lN,q3],Nat.zero_le _,fun h=>by simp[mL]at h,⟨by show(0:Int)<=0;omega,by show(0:Int)<_;omega⟩,.inr (by omega),Nat.le_refl _⟩,?_,fun _ _=>?_⟩
  ·rw[Nat.add_mul,Nat.one_mul]at hm
   have:kW d=d.fa.toNat+8:=rfl;omega
  ·rw[Nat.add_mul,Nat.one_mul]at hm
   have:kW d=d.fa.toNat+8:=rfl;omega
theorem Em.tree {s':xI}{L1:List aQ}(u:d.Ok)(a:bL L)(hlen:(L.length:Int)=d.cells)(e:dP d L t)(h:Em d L t level s s' L1) :
  dP d L1 t/\vB d L t L1 t/\bL L1/\(L1.length:Int)=d.cells/\(∀(k:Nat) (l:List Nd),t[k]?=some l->∀nd,nd∈l->(ah L1 (d.node nd.id 0)).n / 4=(ah L (d.node nd.id 0)).n / 4/\cg (ah L1 (d.node nd.id 0)).n=cg (ah L (d.node nd.id 0)).n) /\
  (∀j:Int,j≠d.node s.id 0->ah L1 j=ah L j):=by
 rcases h with⟨rfl,_⟩|⟨_,_,_,⟨l,nd,hl,g,hid⟩,i,rfl⟩|⟨_,_,⟨l,nd,hl,g,hid⟩,i,rfl⟩
 ·exact⟨e,vB.refl _ _ _,a,hlen,fun _ _ _ _ _=>⟨rfl,rfl⟩,fun _ _=>rfl⟩
 ·rw[←hid]at i ⊢
  have c:=a (d.node nd.id 0);obtain⟨o,p,q⟩:=e.bit u hlen hl g (w' := (ah L (d.node nd.id 0)).n+1) (by omega) (by unfold cg;exact decide_eq_false (by omega)) (by unfold cg;exact decide_eq_false (by omega))
  refine⟨o,p,a.put ⟨by show 0<=(ah L (d.node nd.id 0)).n+1;have:=c.1;omega,by show(ah L (d.node nd.id 0)).n+1<_;have:=c.2;omega⟩,by rw[bg];exact hlen,q,fun j r=>bu r⟩
 ·rw[←hid]at i ⊢
  have c:=a (d.node nd.id 0);obtain⟨o,p,q⟩:=e.bit u hlen hl g (w' := (ah L (d.node nd.id 0)).n-1) (by omega) (by unfold cg;exact decide_eq_false (by omega)) (by unfold cg;exact decide_eq_false (by omega))
  refine⟨o,p,a.put ⟨by show 0<=(ah L (d.node nd.id 0)).n-1;have:=c.1;omega,by show(ah L (d.node nd.id 0)).n-1<_;have:=c.2;omega⟩,by rw[bg];exact hlen,q,fun j r=>bu r⟩
end
end
section
section
variable {K:aM}{w:World}{F:List aC}{b bf bm bc acc:Nat}{d:aU}{fr:cC}{fu:Pg}{L:List aQ}{s:gh}{C:List aC}{key:ByteArray}{f:pR}
end
section
variable {d:aU}{L:List aQ}{t:List (List Nd)}{fr:cC}{fu:Pg}{s s':gh}
theorem Jo (e:d.Ok)(K:kF d fr fu)(a:bL L)(h:jd d L fr fu s):bL (bS d L s):=by
 have u:=e.m6;obtain⟨pc,tk,k,ps,sp,id,full⟩:=s;match pc,h with
 | 0,h=>
  obtain⟨_,_,_,o,_⟩:=h;obtain⟨p,seen,ok⟩:=tk;simp only at o;show bL (aG 4 d.no L ⟨p,seen,ok⟩).2
  rcases o with⟨rfl,rfl⟩|⟨rfl,rfl,b1,b2⟩
  ·exact a
  ·unfold aG
   simp only;split
   ·exact bL.put (L:=L) (i:=4) (c:=⟨seen+1,⟨#[]⟩,0⟩) a ⟨by show 0<=seen+1;omega,by show seen+1<_;omega⟩
   ·exact a
 | 1,h=>
  obtain⟨_,_,_,hid,g,hk,_⟩:=h;simp only at g hk hid;show bL (match ps[k]? with|some j=>aR L j.i j.c|none=>L)
  rw[asx hk];refine a.put ?_
  have hm:ps[k]∈ps:=List.getElem_mem hk;generalize ps[k]=q at hm;rw[g]at hm;rcases List.mem_cons.1 hm with rfl|hm
  ·exact⟨by show(0:Int)<=aT 0;decide,by show aT 0<(18446744073709551616:Int);decide⟩
  ·exact pL e (K.Vq.right e) q hm
 | 2,h=>
  obtain⟨_,l,hw,hk,r,_⟩:=h;replace hk:k<ps.length:=hk;show bL (match ps[k]? with|some j=>aR L j.i j.c|none=>L)
  rw[asx hk];refine a.put (Oh e K.hok ?_ hw _ (List.getElem_mem hk));cases sp with
  | false=>exact K.Vq.fit (l rfl)
  | true=>
   obtain⟨_,hid,_⟩:=r rfl;have v:1<=id:=hid.lo;have x:id<=d.no:=hid.hi;exact K.Vq.left (id:=id) e ⟨by omega,by omega⟩
 | n+3,h=>exact a
def En (d:aU)(L:List aQ)(s:gh):Prop:=s.full=false/\(s.pc=0->(ah L 4).n<d.no/\(s.tk.pc=1->s.tk.seen=(ah L 4).n))
def kC (fu:Pg)(s:gh):Nat:=match s.pc with
 | 0=>(fu.sl.length+5)+(fu.sl.length+5)+(2-s.tk.pc)
 | 1=>(s.ps.length-s.k)+(fu.sl.length+5)
 | 2=>s.ps.length-s.k
 | _=>0
theorem xU (d:aU)(id:Int)(pg:Pg):(bQ d id pg).length=pg.sl.length+3:=by simp[bQ,fe]
theorem En.step (p:d.Ok)(hlen:(L.length:Int)=d.cells)(h:En d L s)(hI:jd d L fr fu s)(r:s.pc<=2)(a:ig d fr fu L s s'):En d (bS d L s) s' /\ kC fu s' < kC fu s:=by
 have u:=gu p;obtain⟨pc,tk,k,ps,sp,id,full⟩:=s;simp only at r;obtain⟨l,h0⟩:=h;simp only at l h0;subst l;rcases(by omega:pc=0\/pc=1\/pc=2)with rfl|rfl|rfl
 ·obtain⟨y,z,A,c,_⟩:=hI
  obtain⟨v,o⟩:=h0 rfl;obtain⟨B,seen,ok⟩:=tk;simp only at c o;rcases c with⟨rfl,rfl⟩|⟨rfl,rfl,b1,b2⟩
  ·have e:aG 4 d.no L ⟨0,seen,false⟩=(⟨1,(ah L 4).n,false⟩,L):=by
    show((⟨if d.no<=(ah L 4).n then 2 else 1,(ah L 4).n,false⟩:iJ),L)=_
    rw[if_neg (by omega)]
   have em:bS d L ⟨0,⟨0,seen,false⟩,k,ps,sp,id,false⟩=L:=congrArg Prod.snd e;rw[em];simp only[ig,e]at a;rcases a with⟨_,rfl⟩|⟨q,_⟩|⟨q,_⟩
   ·exact⟨⟨rfl,fun _=>⟨v,fun _=>rfl⟩⟩,by show _+(2-1)<_+(2-0);omega⟩
   ·omega
   ·omega
  ·have g:bU L 4 seen=true:=by
    unfold bU;rw[decide_eq_true (by omega),decide_eq_true (by omega),decide_eq_true (o rfl).symm]
    rfl
   have e:aG 4 d.no L ⟨1,seen,false⟩=(⟨2,seen,true⟩,aR L 4 ⟨seen+1,⟨#[]⟩,0⟩):=by
    show(if bU L 4 seen then _ else _)=_
    rw[if_pos g]
   simp only[ig,e]at a;rcases a with⟨q,_⟩|⟨_,q,_⟩|⟨_,_,rfl⟩
   ·omega
   ·cases q
   ·refine⟨⟨rfl,fun q=>(by cases q)⟩,?_⟩
    show((_::bQ d (seen+1) (cZ fu)).length-0)+(fu.sl.length+5)<(fu.sl.length+5)+(fu.sl.length+5)+(2-1)
    rw[List.length_cons,xU];have:(cZ fu).sl.length<=fu.sl.length:=by
     show(fu.sl.drop _).length<=_
     rw[List.length_drop];omega
    omega
 ·obtain⟨_,_,_,_,_,x,_⟩:=hI
  simp only at x;rcases a with⟨i,rfl⟩|⟨i,j,hw,rfl⟩
  ·exact⟨⟨rfl,fun q=>(by cases q)⟩,by show(ps.length-(k+1))+_<(ps.length-k)+_;omega⟩
  ·refine⟨⟨rfl,fun q=>(by cases q)⟩,?_⟩
   have hl:=hw.len.2;have:(ed fu id).sl.length<=fu.sl.length:=by
    show(fu.sl.take _).length<=_
    rw[List.length_take];omega
   show j.length-0<(ps.length-k)+(fu.sl.length+5)
   simp only at hl;omega
 ·obtain⟨_,_,_,c,_⟩:=hI
  simp only at c;rcases a with⟨i,rfl⟩|⟨i,rfl⟩
  ·exact⟨⟨rfl,fun q=>(by cases q)⟩,by show ps.length-(k+1)<ps.length-k;omega⟩
  ·exact⟨⟨rfl,fun q=>(by cases q)⟩,by show 0<ps.length-k;omega⟩
end
end
section
theorem mA.afH {N:Int}{t:List (List Nd)}{l:List Nd}{nd r:Nd}(h:mA N t)(hl:t[t.length-1]?=some l)(hi:l[0]?=some nd)(I:1<=r.id)(J:r.id<=N)(D:wO t r.id)(u:r.low=⟨#[]⟩)(o:r.pg=⟨t.length,[⟨⟨#[]⟩,nd.id⟩],⟨#[]⟩,true,0⟩):mA N (t++[[r]]):=by
 have P:=h.ne;have j:∀(k:Nat) (x:List Nd),(t++[[r]])[k]?=some x->t[k]?=some x\/(k=t.length/\x=[r]):=by
  intro k x g;rcases Nat.lt_or_ge k t.length with hk|hk
  ·rw[List.getElem?_append_left hk]at g;exact .inl g
  ·rw[List.getElem?_append_right hk]at g
   obtain⟨m,hm⟩:∃m,k-t.length=m:=⟨_,rfl⟩;rw[hm]at g;cases m with
   | zero=>exact .inr ⟨by omega,(asy g).symm⟩
   | succ m=>simp at g
 have n:∀(i:Nat) (a:Nd),[r][i]?=some a->i=0/\a=r:=by
  intro i a c;cases i with
  | zero=>exact⟨rfl,(asy c).symm⟩
  | succ i=>simp at c
 have Q:=(h.rows _ l hl).first nd hi
 have p:∀(k:Nat) (x:List Nd),(t++[[r]])[k]?=some x->∀a,a∈x->(1<=a.id/\a.id<=N)/\Jg a:=by
  intro k x g a c;rcases j k x g with g|⟨rfl,rfl⟩
  ·exact h.nodes k x g a c
  ·obtain rfl:a=r:=by simpa using c
   refine⟨⟨I,J⟩,?_,?_,?_⟩
   ·rw[o];exact List.pairwise_singleton _ _
   ·rw[o]
    intro s A;obtain rfl:s=⟨⟨#[]⟩,nd.id⟩:=by simpa using A
    exact(h.nodes _ l hl nd (asw hi)).1.1
   ·rw[o,u]
    intro s A;obtain rfl:s=⟨⟨#[]⟩,nd.id⟩:=by simpa using A
    exact⟨cS _,fun h=>by cases h⟩
 have M:∀(k1 k2:Nat) (l1 v:List Nd) (i H:Nat) (a b:Nd),(t++[[r]])[k1]?=some l1->(t++[[r]])[k2]?=some v->l1[i]?=some a->v[H]?=some b->a.id=b.id->k1=k2/\i=H := by
  intro k1 k2 l1 v i H a b R O c B e;rcases j k1 l1 R with E | ⟨rfl,rfl⟩
  ·rcases j k2 v O with z | ⟨rfl,rfl⟩
   ·exact h.inj k1 k2 l1 v i H a b E z c B e
   ·obtain⟨rfl,rfl⟩:=n _ _ B
    exact absurd e (D k1 l1 E a (asw c))
  ·obtain⟨rfl,rfl⟩:=n _ _ c
   rcases j k2 v O with z | ⟨rfl,rfl⟩
   ·exact absurd e.symm (D k2 v z b (asw B))
   ·obtain⟨rfl,rfl⟩:=n _ _ B
    exact⟨rfl,rfl⟩
 refine⟨by simp,fun k x g=>?_,p,fun k x y g S a c=>?_,M,Eh (by omega) (fun k x g a c=>(p k x g a c).1) M⟩
 ·rcases j k x g with g|⟨rfl,rfl⟩
  ·exact h.rows k x g
  ·refine⟨by simp,fun a c=>?_,fun a c=>?_,fun i a b c B=>?_,fun i a c hi=>?_⟩
   ·obtain rfl:a=r:=by simpa using c
    rw[o]
   ·rw[←(asy c)];exact u
   ·have:=(n _ _ B).1
    omega
   ·rw[(n _ _ c).2,o];exact⟨rfl,rfl,rfl⟩
 ·rcases j (k+1) y S with G|⟨e,rfl⟩
  ·rcases j k x g with q|⟨rfl,rfl⟩
   ·exact h.down k x y q G a c
   ·have:=(asu.1 G).1
    omega
  ·rcases j k x g with q|⟨rfl,rfl⟩
   ·obtain rfl:a=r:=by simpa using c
    rw[show k=t.length-1 by omega,hl]at q
    obtain rfl:=asy q;refine⟨⟨⟨⟨#[]⟩,nd.id⟩,[],by rw[o],u.symm⟩,fun s A=>?_⟩
    rw[o]at A;obtain rfl:s=⟨⟨#[]⟩,nd.id⟩:=by simpa using A
    exact⟨nd,asw hi,rfl,Q⟩
   ·omega
section
variable {d:aU}{L L':List aQ}{t t':List (List Nd)}
theorem dP.grow (z:d.Ok)(hlen:(L.length:Int)=d.cells)(u:dP d L t){l:List Nd}{nd r:Nd}(hl:t[t.length-1]?=some (nd::l))(p:1<=r.id)(B:r.id<=(ah L 4).n)(D:wO t r.id)(E:r.low=⟨#[]⟩)(G:r.pg=⟨t.length,[⟨⟨#[]⟩,nd.id⟩],⟨#[]⟩,true,0⟩)
  (N:Vp d L r) (hw:(ah L (d.node r.id 0)).n%4=0):dP d (aR L 0 ⟨r.id,⟨#[]⟩,0⟩) (t++[[r]])/\vB d L t (aR L 0 ⟨r.id,⟨#[]⟩,0⟩) (t++[[r]]):=by
 have O:=u.n4;have f1:=z.fy;have P:=gu z;have g:∀id j:Int,1<=id->id<=d.no->0<=j->j<d.fa+4->ah (aR L 0 ⟨r.id,⟨#[]⟩,0⟩) (d.node id j)=ah L (d.node id j):=fun id j a b c e=>bu (by have:=iw z id j a b c e;omega)
 have J:ah (aR L 0 ⟨r.id,⟨#[]⟩,0⟩) 4=ah L 4:=bu (by omega)
 have H:∀(k:Nat) (x:List Nd),(t++[[r]])[k]?=some x->t[k]?=some x\/x=[r]:=by
  intro k x i;rcases Nat.lt_or_ge k t.length with hk|hk
  ·rw[List.getElem?_append_left hk]at i;exact .inl i
  ·rw[List.getElem?_append_right hk]at i
   have:=asw i;exact .inr (by simpa using this)
 have q:∀(k:Nat) (x:List Nd),(t++[[r]])[k]?=some x->∀a,a∈x->(t[k]?=some x\/a=r):=fun k x i a o=>by
  rcases H k x i with h|rfl
  ·exact .inl h
  ·exact .inr (by simpa using o)
 refine⟨⟨by rw[J];exact u.sh.afH hl rfl p B D E G,by rw[J];exact O,⟨r,[],by simp,?_⟩,fun k x i a o I=>?_,fun k x i a o A=>?_⟩,fun k x i a o=>?_⟩
 ·rw[cD (by omega) (by omega)]
 ·rcases q k x i a o with h|rfl
  ·have v:=(u.sh.nodes k x h a o).1
   have M:=fun j=>g a.id j v.1 (by omega)
   exact(u.node k x h a o (by rw[←M 0 (by omega) (by omega)];exact I)).frame z v.1 (by omega) (fun j x y=>M j x y)
  ·exact N.frame z p (by omega) (fun j x y=>g a.id j p (by omega) x y)
 ·rcases q k x i a o with h|rfl
  ·have v:=(u.sh.nodes k x h a o).1
   rw[g a.id 0 v.1 (by omega) (by omega) (by omega)]at A ⊢
   exact u.wd k x h a o A
  ·rw[g a.id 0 p (by omega) (by omega) (by omega)]
   exact hw
 ·have v:=(u.sh.nodes k x i a o).1
  refine⟨x,a,by rw[List.getElem?_append_left (asu.1 i).1];exact i,o,rfl,rfl,?_⟩
  rw[g a.id 0 v.1 (by omega) (by omega) (by omega)]
  exact kB.refl _ _
def SzT (t:List (List Nd)):Prop:=∀(k:Nat) (l:List Nd),t[k]?=some l->∀nd,nd∈l->nd.low.size<=32
theorem SzT.keys {N:Int}(a:mA N t)(n:SzT t){k:Nat}{l:List Nd}(hk:t[k+1]?=some l){nd:Nd}(e:nd∈l):(∀s,s∈nd.pg.sl->s.k.size<=32/\1<=s.r/\s.r<=N)/\nd.pg.hi.size<=32:=by
 have v:=(asu.1 hk).1;obtain⟨l0,h0⟩:∃l0,t[k]?=some l0:=⟨_,asx (by omega)⟩
 have hR:=a.rows _ l hk;refine⟨fun s g =>?_,?_⟩
 ·obtain⟨c,hc,p,e2⟩:=(a.down k l0 l h0 hk nd e).2 s g
  rw[←p,←e2];exact⟨n k l0 h0 c hc,(a.nodes k l0 h0 c hc).1⟩
 ·rcases Bool.eq_false_or_eq_true nd.pg.la with h|h
  ·rw[(hR.xL e h).1];exact Nat.zero_le _
  ·obtain⟨i,hi⟩:=ast e
   have q:=(asu.1 hi).1;rcases Nat.lt_or_ge (i+1) l.length with j|u
   ·obtain⟨b,o⟩:∃b,l[i+1]?=some b:=⟨_,asx j⟩
    rw[(hR.next i nd b hi o).2.1];exact n _ l hk b (asw o)
   ·have:=(hR.last i nd hi (by omega)).1
    rw[h]at this;cases this
theorem fS.afI {N:Int}(a:mA N t){k:Nat}{l:List Nd}(hk:t[k]?=some l){nd:Nd}(c:nd∈l):0<=nd.pg.ri/\nd.pg.ri<=N:=by
 have hR:=a.rows _ l hk;have o:=(a.nodes k l hk nd c).1;rcases Bool.eq_false_or_eq_true nd.pg.la with e|e
 ·rw[(hR.xL c e).2];omega
 ·obtain⟨i,hi⟩:=ast c
  have j:=(asu.1 hi).1;rcases Nat.lt_or_ge (i+1) l.length with g|n
  ·obtain⟨b,h⟩:∃b,l[i+1]?=some b:=⟨_,asx g⟩
   rw[(hR.next i nd b hi h).2.2.1];have:=(a.nodes k l hk b (asw h)).1;omega
  ·have:=(hR.last i nd hi (by omega)).1
   rw[e]at this;cases this
theorem Pa:32<=maxLen:=by decide +kernel
theorem dP.hok (j:d.Ok)(a:dP d L t)(o:SzT t){k:Nat}{l:List Nd}(hk:t[k+1]?=some l){nd:Nd}(c:nd∈l)(hc:cg (ah L (d.node nd.id 0)).n=false){word:Int}(hw:0<=word/\word<18446744073709551616):cC.Ok d ⟨nd.id,word,nd.pg⟩:=by
 have q:=j.m6;have r:=a.n4;have hid:=(a.sh.nodes _ l hk nd c).1;obtain⟨e,g⟩:=o.keys a.sh hk c;have p:=fS.afI a.sh hk c;have hR:=a.sh.rows _ l hk;have u:=hR.aA nd c;have hm:=Pa;have v:t.length<=4096:=by
  refine Nat.le_trans (qK t fun l hl=>?_) (by have:=a.sh.count;omega)
  obtain⟨k,hk⟩:=ast hl;exact(a.sh.rows k l hk).ne
 have x:=(asu.1 hk).1;exact⟨⟨hid.1,by show nd.id<=d.no;omega⟩,hw,⟨(a.node _ l hk nd c hc).page.le,⟨p.1,by show nd.pg.ri<_;omega⟩,fun s i=>by have:=(e s i).2;omega,fun s i=>Nat.le_trans (e s i).1 hm,Nat.le_trans g hm,fun h=>(hR.xL c h).1⟩,by show 0<=nd.pg.aA/\nd.pg.aA<1000000;omega⟩
def mD (t:List (List Nd))(k:Nat)(id:Int):Prop:=∃l nd s,t[k]?=some l/\nd∈l/\s∈nd.pg.sl/\s.r=id
theorem mE {l:List Nd}{i:Nat}{nd a b x:Nd}(hi:l[i]?=some nd):x∈pM l i a b↔x=a\/x=b\/∃j,j≠i/\l[j]?=some x:=by
 have hlen:=(asu.1 hi).1;constructor
 ·intro h
  obtain⟨j,c⟩:=ast h;rw[fO hlen]at c;by_cases e:j<i
  ·rw[if_pos e]at c;exact .inr (.inr ⟨j,by omega,c⟩)
  ·rw[if_neg e]at c
   by_cases g:j=i
   ·rw[if_pos g]at c;exact .inl (asy c).symm
   ·rw[if_neg g]at c
    by_cases k:j=i+1
    ·rw[if_pos k]at c;exact .inr (.inl (asy c).symm)
    ·rw[if_neg k]at c;exact .inr (.inr ⟨j-1,by omega,c⟩)
 ·rintro (rfl|rfl|⟨j,n,c⟩)
  ·exact asw (i:=i) (by rw[fO hlen,if_neg (by omega),if_pos rfl])
  ·exact asw (i:=i+1) (by rw[fO hlen,if_neg (by omega),if_neg (by omega),if_pos rfl])
  ·rcases Nat.lt_or_ge j i with h|h
   ·exact asw (i:=j) (by rw[fO hlen,if_pos h];exact c)
   ·exact asw (i:=j+1) (by rw[fO hlen,if_neg (by omega),if_neg (by omega),if_neg (by omega)];exact c)
theorem nY {l:List Nd}{i:Nat}{nd a x:Nd}(hi:l[i]?=some nd):x∈l.set i a↔x=a\/∃j,j≠i/\l[j]?=some x:=by
 have hlen:=(asu.1 hi).1;constructor
 ·intro h
  obtain⟨j,c⟩:=ast h;rw[List.getElem?_set]at c;split at c
  ·exact .inl (asy c).symm
  ·rename_i e
   exact .inr ⟨j,fun h=>e h.symm,c⟩
 ·rintro (rfl|⟨j,g,c⟩)
  ·exact asw (i:=i) (by rw[List.getElem?_set_self hlen])
  ·exact asw (i:=j) (by rw[List.getElem?_set_ne (fun e=>g e.symm)];exact c)
theorem kX {l:List Sl}{key:ByteArray}{r:Int}{s:Sl}:s∈fc l key r↔s∈l\/s=⟨key,r⟩:=by
 unfold fc;constructor
 ·intro h
  rcases List.mem_append.1 h with h|h
  ·exact .inl (List.mem_of_mem_take h)
  ·rcases List.mem_cons.1 h with h|h
   ·exact .inr h
   ·exact .inl (List.mem_of_mem_drop h)
 ·rintro (h|rfl)
  ·rw[←List.take_append_drop (fR l key) l]at h
   rcases List.mem_append.1 h with h|h
   ·exact List.mem_append_left _ h
   ·exact List.mem_append_right _ (List.mem_cons_of_mem _ h)
  ·exact List.mem_append_right _ List.mem_cons_self
theorem qQ {k i:Nat}{l:List Nd}{nd:Nd}{key:ByteArray}{r n:Int}{sp:Bool}(hk:t[k]?=some l)(hi:l[i]?=some nd)(id:Int):mD (eM t k i l nd (aI nd.pg key r) n sp) k id↔mD t k id\/id=r:=by
 have q:=(asu.1 hk).1;have v:=asw hi;have e:(aI nd.pg key r).sl=fc nd.pg.sl key r:=rfl;constructor
 ·rintro ⟨l',x,s,a,u,c,rfl⟩
  have fin:s∈fc nd.pg.sl key r->mD t k s.r\/s.r=r:=fun h=>by
   rcases kX.1 h with h|rfl
   ·exact .inl ⟨l,nd,s,hk,v,h,rfl⟩
   ·exact .inr rfl
  cases sp with
  | false=>
   have a:(t.set k (l.set i { nd with pg:=aI nd.pg key r }))[k]?=some l' := a;rw[List.getElem?_set_self q]at a;obtain rfl:=asy a;rcases(nY hi).1 u with rfl|⟨j,_,g⟩
   ·exact fin c
   ·exact .inl ⟨l,x,s,hk,asw g,c,rfl⟩
  | true=>
   have a:(t.set k (pM l i { nd with pg:=ed (aI nd.pg key r) n } ⟨n,bM (aI nd.pg key r),cZ (aI nd.pg key r)⟩))[k]?=some l' := a;rw[List.getElem?_set_self q]at a;obtain rfl:=asy a;rcases(mE hi).1 u with rfl|rfl|⟨j,_,g⟩
   ·exact fin (List.mem_of_mem_take c)
   ·exact fin (List.mem_of_mem_drop c)
   ·exact .inl ⟨l,x,s,hk,asw g,c,rfl⟩
 ·intro h
  have fin:(∃s,s∈fc nd.pg.sl key r/\s.r=id)\/(∃j x s,j≠i/\l[j]?=some x/\s∈x.pg.sl/\s.r=id):=by
   rcases h with⟨l',x,s,a,u,c,rfl⟩|rfl
   ·rw[hk]at a
    obtain rfl:=asy a;obtain⟨j,g⟩:=ast u;by_cases e:j=i
    ·subst e
     rw[hi]at g;obtain rfl:=asy g;exact .inl ⟨s,kX.2 (.inl c),rfl⟩
    ·exact .inr ⟨j,x,s,e,g,c,rfl⟩
   ·exact .inl ⟨⟨key,id⟩,kX.2 (.inr rfl),rfl⟩
  cases sp with
  | false=>
   have p:(eM t k i l nd (aI nd.pg key r) n false)[k]?=some (l.set i { nd with pg:=aI nd.pg key r }):=List.getElem?_set_self q;rcases fin with⟨s,c,rfl⟩|⟨j,x,s,o,g,c,rfl⟩
   ·exact⟨_,_,s,p,(nY hi).2 (.inl rfl),c,rfl⟩
   ·exact⟨_,x,s,p,(nY hi).2 (.inr ⟨j,o,g⟩),c,rfl⟩
  | true=>
   have p:(eM t k i l nd (aI nd.pg key r) n true)[k]?=some (pM l i { nd with pg:=ed (aI nd.pg key r) n } ⟨n,bM (aI nd.pg key r),cZ (aI nd.pg key r)⟩):=List.getElem?_set_self q;rcases fin with⟨s,c,rfl⟩|⟨j,x,s,o,g,c,rfl⟩
   ·rw[←List.take_append_drop (gm (fc nd.pg.sl key r).length) (fc nd.pg.sl key r)]at c
    rcases List.mem_append.1 c with c|c
    ·exact⟨_,_,s,p,(mE hi).2 (.inl rfl),c,rfl⟩
    ·exact⟨_,_,s,p,(mE hi).2 (.inr (.inl rfl)),c,rfl⟩
   ·exact⟨_,x,s,p,(mE hi).2 (.inr (.inr ⟨j,o,g⟩)),c,rfl⟩
theorem dD {k i k':Nat}{l:List Nd}{nd:Nd}{fu:Pg}{n:Int}{sp:Bool}(h:k' ≠ k):(eM t k i l nd fu n sp)[k']?=t[k']? := by
 unfold eM;split
 ·exact List.getElem?_set_ne (fun e=>h e.symm)
 ·exact List.getElem?_set_ne (fun e=>h e.symm)
theorem lG {k i:Nat}{l:List Nd}{nd:Nd}{fu:Pg}{n:Int}{sp:Bool}:(eM t k i l nd fu n sp).length=t.length:=by
 unfold eM;split <;> exact List.length_set
end
def small (l:List Nd):Bool:=match l with
 | [nd]=>decide (nd.pg.sl.length<=3)
 | _=>false
def wI (d:aU):Nat:=2*(d.fa.toNat+6)+12
def wC (d:aU)(N:Nat):Nat:=N*bj d+1+kW d+wI d
def gI (d:aU):Nat:=20+wC d 1
def gC (d:aU)(B:Nat):Nat:=B*bj d+1+kW d+gI d
def cU (d:aU)(B:Nat):List (List Nd)->Nat
 | []=>gC d B
 | l::r=>wC d ((l::r).map List.length).sum+if small l then 0 else cU d B r
def cL (t:List (List Nd))(n:Nat):Nat:=if (t[n]?.map small).getD false then 0 else t.length+1-n
theorem jz (t:List (List Nd))(n:Nat):oA t n=((t.drop n).map List.length).sum:=by
 unfold oA gz;conv=>lhs;rw[←List.take_append_drop n t]
 rw[List.map_append,List.sum_append];by_cases h:n<=t.length
 ·rw[List.take_append_of_le_length (by rw[List.length_take];omega),List.take_take,Nat.min_self];omega
 ·rw[List.drop_of_length_le (by omega),List.append_nil,List.take_take,Nat.min_self];simp
theorem drop_cons {t:List (List Nd)}{n:Nat}{l:List Nd}(h:t[n]?=some l):t.drop n=l::t.drop (n+1):=by
 obtain⟨a,c⟩:=asu.1 h;rw[List.drop_eq_getElem_cons a,c]
theorem Lt (d:aU)(B:Nat){t:List (List Nd)}{n:Nat}{l:List Nd}(h:t[n]?=some l):cU d B (t.drop n)=wC d (oA t n)+if small l then 0 else cU d B (t.drop (n+1)):=by
 rw[jz,drop_cons h];rfl
theorem rK {l:List Nd}{i:Nat}{nd:Nd}(h:small l=true)(hi:l[i]?=some nd):nd.pg.sl.length<=3:=by
 unfold small at h;split at h
 ·rename_i x
  cases i with
  | zero=>
   obtain rfl:x=nd:=by simpa using hi
   exact of_decide_eq_true h
  | succ i=>simp at hi
 ·cases h
end
end Go.Proofs.YtlpdhhhgckpcfaaGreat
