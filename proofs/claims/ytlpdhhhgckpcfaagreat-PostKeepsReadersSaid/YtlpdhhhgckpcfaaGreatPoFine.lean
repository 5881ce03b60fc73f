/- Post in a tree (pure): a fine count. -/
import Derived.Test.YtlpdhhhgckpcfaaGreatPoRd
namespace Go.Proofs.YtlpdhhhgckpcfaaGreat
set_option linter.unusedSimpArgs false
set_option linter.unusedVariables false
open Go.RowKit
set_option maxHeartbeats 16000000
set_option maxRecDepth 100000
section
theorem Xo:∀ {l:List Nat}{i a b:Nat},l[i]?=some b->(l.set i a).sum+b=l.sum+a
 | [],i,a,b,h=>by simp at h
 | x::l,0,a,b,h=>by
  obtain rfl:x=b:=by simpa using h
  simp only[List.set_cons_zero,List.sum_cons];omega
 | x::l,i+1,a,b,h=>by
  have:=Xo (l:=l) (i:=i) (a:=a) (b:=b) (by simpa using h)
  simp only[List.set_cons_succ,List.sum_cons];omega
theorem rO (fa:Nat)(a b:List Nd):bX fa (a++b)=bX fa a+bX fa b:=by
 unfold bX;rw[List.filter_append,List.length_append]
theorem kD (fa:Nat)(a:Nd)(m:List Nd):bX fa (a::m)=(if fa<=a.pg.sl.length then 1 else 0)+bX fa m:=by
 unfold bX;rw[List.filter_cons];by_cases e:fa<=a.pg.sl.length
 ·rw[if_pos (decide_eq_true e),if_pos e,List.length_cons];omega
 ·rw[if_neg (by simp[e]),if_neg e];omega
theorem x7 {fa k:Nat}{t:List (List Nd)}{l x:List Nd}(hk:t[k+1]?=some l):fW fa (t.set (k+1) x)+bX fa l=fW fa t+bX fa x:=by
 obtain⟨e,tl,rfl⟩:∃e tl,t=e::tl:=by
  cases t with
  | nil=>simp at hk
  | cons a b=>exact⟨a,b,rfl⟩
 unfold fW;simp only[List.set_cons_succ,List.drop_succ_cons,List.drop_zero,List.map_set];exact Xo (a:=bX fa x) (b:=bX fa l) (by rw[List.getElem?_map];simp at hk;rw[hk];rfl)
section
variable {t:List (List Nd)}{k i:Nat}{l:List Nd}{nd:Nd}{key:ByteArray}{r nw:Int}{sp:Bool}
theorem Jw {fa:Int}(h:4<=fa)(hk:t[k+1]?=some l)(hi:l[i]?=some nd)(hle:(nd.pg.sl.length:Int)<=fa)(a:sp=true->fa<((aI nd.pg key r).sl.length:Int)) :
  fW fa.toNat (eM t (k+1) i l nd (aI nd.pg key r) nw sp)+(if sp then 1 else 0)<=fW fa.toNat t+(if sp then 0 else 1):=by
 have hlen:=(asu.1 hi).1;have hl:bX fa.toNat l=bX fa.toNat (l.take i)+((if fa.toNat<=nd.pg.sl.length then 1 else 0)+bX fa.toNat (l.drop (i+1))):=by
  conv=>lhs;rw[←List.take_append_drop i l,qN hi]
  rw[rO,kD]
 cases sp with
 | false=>
  have e:eM t (k+1) i l nd (aI nd.pg key r) nw false=t.set (k+1) (l.set i { nd with pg:=aI nd.pg key r }):=rfl;rw[e];have f:=x7 (fa:=fa.toNat) (x:=l.set i { nd with pg:=aI nd.pg key r }) hk;have g:bX fa.toNat (l.set i { nd with pg:=aI nd.pg key r })<=bX fa.toNat (l.take i)+(1+bX fa.toNat (l.drop (i+1))):=by
   rw[List.set_eq_take_append_cons_drop,if_pos hlen,rO,kD];split <;> omega
  rw[hl]at f;simp only[Bool.false_eq_true,if_false];omega
 | true=>
  obtain⟨_,_,o,p,q⟩:=Ff (key:=key) (r:=r) (nw:=nw) h hle (a rfl);have e:eM t (k+1) i l nd (aI nd.pg key r) nw true=t.set (k+1) (pM l i { nd with pg:=ed (aI nd.pg key r) nw } ⟨nw,bM (aI nd.pg key r),cZ (aI nd.pg key r)⟩):=rfl;rw[e];have f:=x7 (fa:=fa.toNat) (x:=pM l i { nd with pg:=ed (aI nd.pg key r) nw } ⟨nw,bM (aI nd.pg key r),cZ (aI nd.pg key r)⟩) hk;have g:bX fa.toNat (pM l i { nd with pg:=ed (aI nd.pg key r) nw } ⟨nw,bM (aI nd.pg key r),cZ (aI nd.pg key r)⟩)=bX fa.toNat (l.take i)+(0+(0+bX fa.toNat (l.drop (i+1)))):=by
   unfold pM;rw[rO,kD,kD,if_neg (by show ¬ fa.toNat<=(ed (aI nd.pg key r) nw).sl.length;omega),if_neg (by show ¬ fa.toNat<=(cZ (aI nd.pg key r)).sl.length;omega)]
  rw[if_pos (by omega)]at hl
  rw[g,hl]at f;simp only[if_true];omega
theorem adu {n:Nat}(a:1<=n):Jl t n<=Jl t 1:=by
 have h:∀k,pN t n k<=pN t 1 k:=fun k=>by
  induction k with
  | zero=>exact Nat.le_refl _
  | succ k ih=>
   show pN t n k+(if n<=k then 1+bW t k else 0)<=pN t 1 k+(if 1<=k then 1+bW t k else 0)
   by_cases c:n<=k
   ·rw[if_pos c,if_pos (by omega)];omega
   ·rw[if_neg c];omega
 have:=h (t.length-1);unfold Jl;omega
theorem Mb {n:Nat}(h:t.length=n+1):Jl t n=bW t n:=by
 have h:∀k,k<=n->pN t n k=0:=fun k=>by
  induction k with
  | zero=>intro _;rfl
  | succ k ih=>
   intro hk;show pN t n k+(if n<=k then 1+bW t k else 0)=0
   rw[ih (by omega),if_neg (by omega)]
 unfold Jl;rw[‹t.length=n+1›,Nat.add_sub_cancel,h n (Nat.le_refl _),Nat.zero_add]
theorem Jy {n:Nat}(a:1<=n):∀k,n<k->bW t n<=sH t k
 | 0,h=>by omega
 | k+1,h=>by
  show bW t n<=sH t k+(if 1<=k then bW t k else 0)
  rw[if_pos (by omega)]
  by_cases c:n=k
  ·rw[c];omega
  ·have:=Jy a k (by omega)
   omega
end
def wR (d:aU)(C:Nat)(L:List aQ)(t:List (List Nd))(n:Nat)(s:dS)(m:Nat):Prop:=match s.pc with
 | 0=>∃lo m0,vD d L t s.f.sep n lo s.lk m0/\lo<=n/\((n<t.length/\m0+wI d+C<=m)\/(t.length=n/\m0+gI d+C<=m))
 | 1=>kC s.fu s.ins+5+C<=m
 | 2=>(s.ins.full=false->s.ins.sp=true->2*C+2<=m)/\1<=m
 | 3=>2*C+1<=m
 | 4=>1<=m
 | 5=>gI d+C<=m+s.aq.pc
 | 6=>gI d+C<=m+2
 | 7=>gI d+C<=m+3
 | 8=>wC d 1+1+C<=m
 | 9=>gI d+C<=m+4+s.tk.pc
 | 10=>gI d+C<=m+6+s.k
 | 11=>gI d+C<=m+11
 | 12=>gI d+C<=m+12
 | 13=>1<=m
 | _=>True
section
variable {d:aU}{P:zR}{L:List aQ}{t t':List (List Nd)}{n n' m m' C c:Nat}{s s':dS}{X0:Nat}
theorem Py {fr:cC}{fu:Pg}{ins:gh}(f:d.Ok)(K:kF d fr fu)(g:nM d fr fu ins):kC fu ins<=2*(d.fa.toNat+6)+2:=by
 have hl:=K.Vq.len;have f1:=f.fy;rcases g with⟨e,b1,b2,b3,b4,b5⟩|⟨a,rfl⟩
 ·obtain⟨pc,tk,k,ps,sp,id,full⟩:=ins
  simp only at b1 b2 b3 b4 b5;subst b1 b2 b3 b4;have h:=b5.len;show ps.length-0<=_
  omega
 ·show(fu.sl.length+5)+(fu.sl.length+5)+(2-0)<=_
  omega
theorem wR.step0 (E:d.Ok)(h:iX d P L t n s m)(h0:s.pc=0)(hc:wR d C L t n s c)(x:jm d L s s')(R:iX d P (eQ d L s) t n s' m'):∃c',wR d C (eQ d L s) t n s' c' /\ c' + 1<=c:=by
 have y:=h.base;have G:=h.aA;have e:=h.free;have z:=h.st;have I:=R.st;obtain⟨pc,f,lk,fr,ins,aq,root,word,tk,id,k⟩:=s;simp only at h0;subst h0;obtain⟨aA,sep,ch,po⟩:=f;simp only at G;subst G;obtain⟨_,_,o,_⟩:=z;simp only at o;obtain⟨lo,S,g,p,halt⟩:=hc;have J:∀(k:Nat) (l:List Nd),t[k]?=some l->∀nd,nd∈l->¬ (jJ lk=true/\nd.id=lk.id)->(ah L (d.node nd.id 0)).n%4=0:=e;obtain⟨hok,A,Pc,m',B,T,D⟩:=g.step E y.iq y.fq y.tree o p;have U:m' + 1<=S:=by
  refine D (fun hp M=>?_) (fun hp V=>?_)
  ·have hQ:Quiet d L t:=fun k l hk nd x=>by
    have:=J k l hk nd x (fun⟨a,_⟩=>by
     obtain⟨pc,fd,id,aq,ow,A⟩:=lk;simp only at hp;subst hp;cases a)
    unfold cg;exact decide_eq_false (by omega)
   obtain⟨pc,fd,id,aq,ow,A⟩:=lk;simp only at hp M;subst hp;obtain⟨_,_,m1,W,_⟩:=g;exact W.still hQ M
  ·obtain⟨pc,fd,id,aq,ow,A⟩:=lk
   simp only at hp V;subst hp;obtain⟨_,l,i,nd,q,u,hid,_⟩:=g;simp only at hid ⊢;rw[hid];have:=J n l u.hl nd (asw u.hi) (fun⟨a,_⟩=>by cases a)
   omega
 have hg:gI d=20+wC d 1:=rfl;have hw:wC d 1=1*bj d+1+kW d+wI d:=rfl;have X:wI d=2*(d.fa.toNat+6)+12:=rfl;rcases x with⟨Y,rfl⟩|⟨Y,⟨O,rfl⟩|⟨O,Z,rfl⟩|⟨O,Z,v,hb,rfl⟩⟩
 ·refine⟨c-1,⟨lo,m',B,p,?_⟩,by omega⟩
  rcases halt with⟨a,b⟩|⟨a,b⟩
  ·exact .inl ⟨a,by omega⟩
  ·exact .inr ⟨a,by omega⟩
 ·obtain⟨hT,_⟩:=I
  refine⟨c-1,?_,by omega⟩
  show gI d+C<=c-1+0
  omega
 ·exact⟨1,Nat.le_refl _,by omega⟩
 ·obtain⟨i,l,nd,H,K,_⟩:=I
  have hk:=(asu.1 H.hk).1;have:=Py E K hb;refine⟨c-1,?_,by omega⟩
  show kC _ v + 5+C<=c-1
  omega
theorem wR.Vz (E:d.Ok)(G:P.room=true)(h:iX d P L t n s m)(h0:s.pc=1)(hc:wR d C L t n s c)(y:jm d L s s')(I:iX d P (eQ d L s) t' n' s' m')(J:Jp d t t' n n' s s'):∃c',wR d C (eQ d L s) t' n' s' c' /\ c' + 1+C*fW d.fa.toNat t' <= c+C*fW d.fa.toNat t:=by
 have M:=h.base;have V:=h.nt (.inl (by omega))
 have W:=h.n1;have z:=h.st;have Eu:=I.st;have X:=I.vE;have f1:=E.fy;obtain⟨pc,f,lk,fr,ins,aq,root,word,tk,id,k⟩:=s;simp only at h0;subst h0;obtain⟨i,l,nd,H,K,hI,hF,A,O,R,hR1,Y,g,ei,Z,hm⟩:=z;simp only at hI A O R hR1 g;have hc:kC (dS.fu ⟨1,f,lk,fr,ins,aq,root,word,tk,id,k⟩) ins+5+C<=c:=hc;obtain⟨a,y,u⟩:=y;simp only at y u;have lN:dS.fu ⟨1,f,lk,fr,ins,aq,root,word,tk,id,k⟩=aI nd.pg f.sep f.ch:=by
  show aI fr.pg f.sep f.ch=_
  rw[H.pg]
 have B:En d L ins:=by
  refine⟨O,fun S=>?_⟩
  have T:=g G;have mU:=M.lim.1;have hf:=R (.inl (by omega))
  have h3:1<=cL t n:=by
   unfold cL;rw[H.hk];show 1<=(if small l=true then _ else _)
   cases D:small l with
   | false=>simp only[Bool.false_eq_true,if_false];omega
   | true=>
    have T:=rK D H.hi;have A:(aI nd.pg f.sep f.ch).sl.length=nd.pg.sl.length+1:=dU _ _ _;rw[lN]at hf;omega
  rw[if_pos S]at T;exact⟨by omega,hR1 G S⟩
 obtain⟨⟨vF,ac3⟩,hms⟩:=B.step E M.fq hI A y;rcases u with⟨c1,rfl⟩|⟨c1,rfl⟩
 ·have e:t'=t/\n'=n:=by
   rcases J with⟨e,q,_⟩|⟨_,q,_⟩|⟨q,_⟩
   ·exact⟨e,q (by show(1:Nat)≠3;decide)⟩
   ·exact absurd q (by show ¬ (1:Nat)=2;decide)
   ·exact absurd q (by show ¬ (1:Nat)=12;decide)
  obtain⟨rfl,rfl⟩:=e;refine⟨c-1,?_,by omega⟩
  show kC (dS.fu ⟨1,f,lk,fr,ins,aq,root,word,tk,id,k⟩) a + 5+C<=c-1
  omega
 ·rcases J with⟨e,q,_,q4⟩|⟨_,_,en,p,f2,i2,U,o,H2,rfl,v,hle⟩|⟨q,_⟩
  ·rcases q4 rfl with q|q
   ·exact absurd q (by show ¬ (2:Nat)=1;decide)
   ·rw[vF]at q;cases q
  ·subst en
   simp only at p H2;have Jj:dS.fu ⟨1,f,lk,fr,ins,aq,root,word,tk,id,k⟩=aI o.pg f.sep f.ch:=by
    show aI fr.pg f.sep f.ch=_
    rw[H2.pg]
   rw[Jj]at v ⊢;obtain⟨j,rfl⟩:∃j,n'=j+1:=⟨n' - 1,by omega⟩
   have hF:=Jw (key:=f.sep) (r:=f.ch) (nw:=a.id) (sp:=ins.sp) f1 H2.hk H2.hi hle (fun e=>(v e).2)
   cases x:ins.sp with
   | false=>
    rw[x]at hF p;simp only[Bool.false_eq_true,if_false]at hF;refine⟨1,⟨fun _ e=>?_,Nat.le_refl _⟩,?_⟩
    ·simp only at e
     rw[p]at e;cases e
    ·have:=Nat.mul_le_mul_left C hF
     rw[Nat.mul_add,Nat.mul_add,Nat.mul_one,Nat.mul_zero]at this;show 1+1+C*fW d.fa.toNat (eM t (j+1) i2 U o (aI o.pg f.sep f.ch) a.id false)<=_
     omega
   | true=>
    rw[x]at hF;simp only[if_true]at hF;refine⟨2*C+2,⟨fun _ _=>Nat.le_refl _,by omega⟩,?_⟩
    have:=Nat.mul_le_mul_left C hF;rw[Nat.mul_add,Nat.mul_add,Nat.mul_one,Nat.mul_zero]at this;show 2*C+2+1+C*fW d.fa.toNat (eM t (j+1) i2 U o (aI o.pg f.sep f.ch) a.id true)<=_
    omega
  ·exact absurd q (by show ¬ (1:Nat)=12;decide)
theorem vD.Jz {key:ByteArray}{level lo a:Nat}(h:∃l nd,t[lo]?=some l/\nd∈l)(hm:Jl t lo*bj d+1+kW d<=a):vD d L t key level lo nK a:=
 ⟨rfl,by show(0:Nat)≠2;decide,_,vC.acR h,hm⟩
theorem wR.level (h:sH t t.length<=X0+1)(o:mA (ah L 4).n t)(x:t.length<=7)(p:1<=n)(y:n<=t.length){key:ByteArray}(q:(X0+6)*bj d+1+kW d+wI d<=C)(u:(X0+1)*bj d+1+kW d+gI d<=C)(v:2<=t.length) :
  ∃lo e,vD d L t key n lo nK e/\lo<=n/\((n<t.length/\e+wI d+C<=2*C)\/(t.length=n/\e+gI d+C<=2*C)):=by
 have a:∀k,k<t.length->∃l nd,t[k]?=some l/\nd∈l:=fun k hk=>by
  obtain⟨l,hl⟩:∃l,t[k]?=some l:=⟨_,asx hk⟩;have f:=(o.rows _ l hl).ne;exact⟨l,l[0],hl,List.getElem_mem f⟩
 rcases Nat.lt_or_ge n t.length with c|c
 ·refine⟨n,_,vD.Jz (a n c) (Nat.le_refl _),Nat.le_refl _,.inl ⟨c,?_⟩⟩
  have g:=adu (t:=t) p;rw[ado v]at g;have:=Nat.mul_le_mul_right (bj d) (show Jl t n<=X0+6 by omega)
  omega
 ·refine⟨n-1,_,vD.Jz (a (n-1) (by omega)) (Nat.le_refl _),by omega,.inr ⟨by omega,?_⟩⟩
  have g:=Mb (t:=t) (n:=n-1) (by omega)
  have e2:=Jy (t:=t) (n:=n-1) (by omega) t.length (by omega)
  have:=Nat.mul_le_mul_right (bj d) (show Jl t (n-1)<=X0+1 by omega)
  omega
theorem wR.agz (hd:d.Ok)(hr:P.room=true)(h:iX d P L t n s m)(h0:2<=s.pc)(iy:s.pc<14)(hx:PoX X0 t n s)(h7:t.length<=7)(J:(X0+6)*bj d+1+kW d+wI d<=C)(M:(X0+1)*bj d+1+kW d+gI d<=C)
  (hc:wR d C L t n s c) (g:jm d L s s') (B:s.pc=3->n'=n+1) (D:s.pc≠3->n'=n) (x:s.pc≠12->t'=t) (h':iX d P (eQ d L s) t' n' s' m'):∃c',wR d C (eQ d L s) t' n' s' c' /\ c' + 1<=c:=by
 have O:=h.base;have p:=h.st;have R:=h'.nt;have E := h'.base.tree.sh;have hn1:=h.n1;have S:=fun e=>h.c7 (.inr e)
 have Ji:=(O.iq 4).1;have hg:gI d=20+wC d 1:=rfl;have hw:wC d 1=1*bj d+1+kW d+wI d:=rfl;have hcl:=gu hd;have hlen:=O.fq;obtain⟨pc,f,lk,fr,ins,aq,root,word,tk,id,k⟩:=s;simp only at h0 iy B D x S;rcases(by omega:pc=2\/pc=3\/pc=4\/pc=5\/pc=6\/pc=7\/pc=8\/pc=9\/pc=10\/pc=11\/pc=12\/pc=13)with rfl|rfl|rfl|rfl|rfl|rfl|rfl|rfl|rfl|rfl|rfl|rfl
 ·obtain⟨T,hc2⟩:=hc
  obtain⟨_,agv,hsp,_⟩:=p;rcases g with⟨_,rfl⟩|⟨_,_,rfl⟩|⟨q,q2,rfl⟩
  ·exact⟨0,trivial,by omega⟩
  ·exact⟨0,trivial,by omega⟩
  ·have hs:ins.sp=true:=by
    cases e:ins.sp with
    | true=>rfl
    | false=>
     exfalso
     apply q2
     show(if ins.sp then _ else _:cC).id=0
     rw[e];rfl
   have:=T q hs;exact⟨2*C+1,Nat.le_refl _,by omega⟩
 ·obtain rfl:=g
  obtain rfl:=x (by decide)
  obtain rfl:=B rfl;have U:=R (.inl (Nat.zero_le _));have hc:2*C+1<=c:=hc;refine⟨2*C,?_,by omega⟩
  obtain⟨lo,m0,a,b,e⟩:=wR.level (L:=eQ d L ⟨3,f,lk,fr,ins,aq,root,word,tk,id,k⟩) (key:=(dS.Uv ⟨3,f,lk,fr,ins,aq,root,word,tk,id,k⟩)) (n:=n+1) (by rcases hx.sx (by omega)with h|⟨_,h⟩ <;> omega) E h7 (by omega) U J M (by omega)
  exact⟨lo,m0,a,b,e⟩
 ·obtain rfl:=g
  have hc:1<=c:=hc;exact⟨0,trivial,by omega⟩
 ·have hc:gI d+C<=c+aq.pc:=hc
  obtain⟨hT,o,G,y,H,I,hm⟩:=p;simp only at G y H I hm;obtain⟨ap,u⟩:=aq;simp only at G y H I hm hc;rcases(by omega:ap=0\/ap=1)with rfl|rfl
  ·have z:bP 7 L ⟨0,u⟩=(⟨1,aT (ah L 7).n⟩,L):=by
    show((if (ah L 7).n%2=1 then⟨0,u⟩else⟨1,aT (ah L 7).n⟩:oG),L)=_
    rw[if_neg (by have:=S rfl;omega)]
   simp only[jm,z]at g;rcases g with⟨_,rfl⟩|⟨v,_⟩
   ·refine⟨c-1,?_,by omega⟩
    show gI d+C<=c-1+1
    omega
   ·omega
  ·have V:=y rfl
   have W:aH u=(ah L 7).n:=by rw[V];exact kU (S rfl)
   have A:bU L 7 (aH u)=true:=by
    unfold bU;rw[decide_eq_true (by omega),decide_eq_true (by omega),decide_eq_true W.symm]
    rfl
   have z:bP 7 L ⟨1,u⟩=(⟨2,u⟩,aR L 7 ⟨u,⟨#[]⟩,0⟩):=by
    show(if bU L 7 (aH u)then _ else _)=_
    rw[if_pos A]
   simp only[jm,z]at g;rcases g with⟨v,_⟩|⟨_,rfl⟩
   ·exact absurd rfl v
   ·refine⟨c-1,?_,by omega⟩
    show gI d+C<=c-1+2
    omega
 ·obtain rfl:=g
  have hc:gI d+C<=c+2:=hc;refine⟨c-1,?_,by omega⟩
  show gI d+C<=c-1+3
  omega
 ·have hc:gI d+C<=c+3:=hc
  rcases g with⟨_,rfl⟩|⟨_,rfl⟩
  ·refine⟨c-1,?_,by omega⟩
   show wC d 1+1+C<=c-1
   omega
  ·refine⟨c-1,?_,by omega⟩
   show gI d+C<=c-1+4+0
   omega
 ·obtain rfl:=g
  obtain rfl:=x (by decide)
  obtain rfl:=D (by decide)
  obtain⟨hT,_,X,_⟩:=p;have hc:wC d 1+1+C<=c:=hc;obtain⟨l,hl⟩:∃l,t'[n']?=some l:=⟨_,asx (by omega)⟩
  have Y:=(E.rows _ l hl).ne;refine⟨c-1,⟨n',_,vD.begin ⟨l,l[0],hl,List.getElem_mem Y⟩ (Nat.le_refl _),Nat.le_refl _,.inl ⟨by omega,?_⟩⟩,by omega⟩
  rw[X];omega
 ·have hc:gI d+C<=c+4+tk.pc:=hc
  obtain⟨hT,o,hown,hrt,hok,Z,hm⟩:=p;simp only at hok Z;obtain⟨tp,seen,ok⟩:=tk;simp only at hok Z hc;subst hok;rcases Z with rfl|⟨Et,rfl,ac7⟩
  ·have z:aG 4 d.no L ⟨0,seen,false⟩=(⟨if d.no<=(ah L 4).n then 2 else 1,(ah L 4).n,false⟩,L):=rfl
   simp only[jm,z]at g;rcases g with⟨v,rfl⟩|⟨_,_,rfl⟩|⟨_,v,_⟩
   ·refine⟨c-1,?_,by omega⟩
    show gI d+C<=c-1+4+(if d.no<=(ah L 4).n then 2 else 1)
    split <;> omega
   ·exact⟨1,Nat.le_refl _,by omega⟩
   ·cases v
  ·have o:=o hr
   have ac5:=O.lim.1;have A:bU L 4 seen=true:=by
    unfold bU;rw[decide_eq_true (by omega),decide_eq_true (by omega),decide_eq_true ac7.symm]
    rfl
   have z:aG 4 d.no L ⟨1,seen,false⟩=(⟨2,seen,true⟩,aR L 4 ⟨seen+1,⟨#[]⟩,0⟩):=by
    show(if bU L 4 seen then _ else _)=_
    rw[if_pos A]
   simp only[jm,z]at g;rcases g with⟨v,_⟩|⟨_,v,_⟩|⟨_,_,rfl⟩
   ·omega
   ·cases v
   ·refine⟨c-1,?_,by omega⟩
    show gI d+C<=c-1+6+0
    omega
 ·have hc:gI d+C<=c+6+k:=hc
  obtain⟨_,_,_,_,_,_,_,hk,_⟩:=p;simp only at hk;rcases g with⟨_,rfl⟩|⟨_,rfl⟩
  ·refine⟨c-1,?_,by omega⟩
   show gI d+C<=c-1+6+(k+1)
   omega
  ·refine⟨c-1,?_,by omega⟩
   show gI d+C<=c-1+11
   omega
 ·obtain rfl:=g
  have hc:gI d+C<=c+11:=hc;refine⟨c-1,?_,by omega⟩
  show gI d+C<=c-1+12
  omega
 ·obtain rfl:=g
  have hc:gI d+C<=c+12:=hc;refine⟨c-1,?_,by omega⟩
  show wC d 1+1+C<=c-1
  omega
 ·obtain rfl:=g
  have hc:1<=c:=hc;exact⟨0,trivial,by omega⟩
theorem wR.step (u:d.Ok)(E:P.room=true)(h:iX d P L t n s m)(H:s.pc<14)(G:PoX X0 t n s)(I:t.length<=7)(v:(X0+6)*bj d+1+kW d+wI d<=C)(x:(X0+1)*bj d+1+kW d+gI d<=C)
  (hc:wR d C L t n s c) (y:jm d L s s') (z:iX d P (eQ d L s) t' n' s' m') (a:Jp d t t' n n' s s'):∃c',wR d C (eQ d L s) t' n' s' c' /\ c' + 1+C*fW d.fa.toNat t' <= c+C*fW d.fa.toNat t:=by
 by_cases f:s.pc=1
 ·exact wR.Vz u E h f hc y z a
 ·have J:=G.Ma
  have g:s.pc≠3->n'=n:=fun o=>by
   rcases a with⟨_,q,_⟩|⟨q,_⟩|⟨_,q,_⟩
   ·exact q o
   ·exact absurd q f
   ·exact q
  have A:s.pc=3->n'=n+1:=fun o=>by
   rcases a with⟨_,_,q,_⟩|⟨q,_⟩|⟨q,_⟩
   ·exact q o
   ·exact absurd q f
   ·omega
  have p:s.pc≠12->t'=t:=fun o=>by
   rcases a with⟨q,_⟩|⟨q,_⟩|⟨q,_⟩
   ·exact q
   ·exact absurd q f
   ·exact absurd q o
  have hF:fW d.fa.toNat t'=fW d.fa.toNat t:=by
   rcases a with⟨rfl,_⟩|⟨q,_⟩|⟨_,_,nd,l,r,_,rfl,B,_⟩
   ·rfl
   ·exact absurd q f
   ·have f1:=u.fy
    have:=h.base.tree.sh.ne;unfold fW;rw[List.drop_append_of_le_length (by omega),List.map_append,List.sum_append]
    have e:bX d.fa.toNat [r]=0:=by
     rw[kD,B,if_neg (by show ¬ d.fa.toNat<=1;omega)];rfl
    simp[e]
  rw[hF];by_cases h0:s.pc=0
  ·obtain rfl:=g (by omega)
   obtain rfl:=p (by omega)
   obtain⟨c',D,M⟩:=wR.step0 u h h0 hc y z;exact⟨c',D,by omega⟩
  ·obtain⟨c',D,M⟩:=wR.agz u E h (by omega) H G I v x hc y A g p z
   exact⟨c',D,by omega⟩
end
end
section
def nG (k:Nat):Nat:=if 34<=k then 2 else if 32<=k then 3 else if 28<=k then 4 else if 20<=k then 5 else if 4<=k then 6 else 7
def nS:Nat->Nat
 | 0=>0
 | k+1=>nS k+nG (k+1)
theorem agB:∀k,k<=35->nS k<=183:=by decide +kernel
section
variable {t:List (List Nd)}{N:Int}{l0:List Nd}
theorem abk (f:mA N t)(e:Occ t):∀(q k:Nat)(l:List Nd),t[k]?=some l->k+1+q+1=t.length->2 ^ q+1<=l.length
 | 0,k,l,hk,h=>e.one k l hk (by omega)
 | q+1,k,l,hk,h=>by
  obtain⟨l',a⟩:∃l',t[k+1]?=some l' := ⟨_,asx (by omega)⟩
  have g:=abk f e q (k+1) l' a (by omega)
  have o:=zI f e (Nat.le_refl 4) hk a;rw[Nat.pow_succ];omega
theorem Xp (f:mA N t)(g:Occ t)(h0:t[0]?=some l0)(u:l0.length<=36){k:Nat}(hk:k<=bW t 0)(p:k+1<=l0.length):t.length<=nG k/\t.length<=7:=by
 have q:=f.ne;rcases(by omega:t.length=1\/t.length=2\/3<=t.length)with h|h|h
 ·unfold nG;rw[h];exact⟨by split <;> (try split) <;> (try split) <;> (try split) <;> (try split) <;> omega,by omega⟩
 ·unfold nG;rw[h];exact⟨by split <;> (try split) <;> (try split) <;> (try split) <;> (try split) <;> omega,by omega⟩
 ·obtain⟨l1,o⟩:∃l1,t[1]?=some l1:=⟨_,asx (by omega)⟩
  have a:=abk f g (t.length-3) 1 l1 o (by omega)
  have b:=zI f g (Nat.le_refl 4) h0 o;have c:t.length<=7:=by
   rcases Nat.lt_or_ge 7 t.length with c|c
   ·have:2 ^ 5<=2 ^ (t.length-3):=Nat.pow_le_pow_right (by omega) (by omega)
    omega
   ·exact c
  refine⟨?_,c⟩;rcases(by omega:t.length=3\/t.length=4\/t.length=5\/t.length=6\/t.length=7)with e|e|e|e|e <;> rw[e]at a ⊢ <;> simp only[Nat.reduceSub,Nat.reducePow]at a <;> unfold nG <;> split <;> (try split) <;> (try split) <;> (try split) <;> (try split) <;> omega
theorem aaw {l:List Nd}(h:t[t.length-1]?=some l):bW t (t.length-1)=l.length:=by
 have a:=(asu.1 h).1;unfold bW;rw[h];show(l.filter _).length=_
 rw[List.filter_eq_self.2 (fun nd _=>by unfold mR;rw[List.getElem?_eq_none (by omega)];simp[refsOf])]
theorem Xq (h0:t[0]?=some l0):(fw l0 (t[1]?.getD [])).length<=bW t 0:=by
 unfold fw bW;rw[h0];exact((List.drop_sublist 1 l0).filter _).length_le
theorem Ka (l1:List Nd)(a:0<l0.length):(fw l0 l1).length+1<=l0.length:=by
 have:=List.length_filter_le (fun c:Nd => !decide (c.id∈refsOf l1)) (l0.drop 1)
 unfold fw;rw[List.length_drop]at this;omega
theorem Xr {d:aU}(a:d.fa<=6){S:Nat}(e:(t.map List.length).sum<=S)(B:Nat):∀q n,n+q=t.length->cU d B (t.drop n)<=q*(11*S+51)+(11*B+97)
 | 0,n,h=>by
  rw[List.drop_of_length_le (by omega),Nat.zero_mul,Nat.zero_add]
  exact aba a B
 | q+1,n,h=>by
  obtain⟨l,hl⟩:∃l,t[n]?=some l:=⟨_,asx (by omega)⟩
  have ih:=Xr a e B q (n+1) (by omega)
  have hw:=xZ a (oA t n);have hu:oA t n<=S:=Nat.le_trans (Nat.sub_le _ _) e;rw[Lt d B hl,Nat.succ_mul];have f:(if small l=true then 0 else cU d B (t.drop (n+1)))<=cU d B (t.drop (n+1)):=by split <;> omega
  omega
end
structure Rf (d:aU)(l0:List Nd)(X0 C:Nat):Prop where
 ok:d.Ok
 fa6:d.fa<=6
 no:d.no=300
 x0:1<=X0
 Zt:l0.length<=36
 c:C=11*(X0+6)+53
theorem Rf.le {d:aU}{l0:List Nd}{X0 C:Nat}(h:Rf d l0 X0 C):((X0+6)*bj d+1+kW d+wI d<=C)/\((X0+1)*bj d+1+kW d+gI d<=C):=by
 have f6:=h.fa6;have f1:=h.ok.fy;have a:bj d<=11:=by unfold bj;omega
 have hl:kW d<=14:=by unfold kW;omega
 have hw:wI d<=36:=by unfold wI;omega
 have e:=xZ f6 1;have f:gI d=20+wC d 1:=rfl;have g:=Nat.mul_le_mul_left (X0+6) a;have o:=Nat.mul_le_mul_left (X0+1) a;have:=h.c;omega
structure Rg (d:aU)(ks:List ByteArray)(l0 dz:List Nd)(X0:Nat)(L:List aQ)(t:List (List Nd))(j m:Nat):Prop where
 g:Re d ks l0 L t
 Ma:Occ t
 sx:2<=t.length->sH t t.length<=X0
 tk:fw l0 (t[1]?.getD [])=dz.drop j
 n4:(ah L 4).n+(nS (dz.length-j):Nat)<=283
 wd:∀(k:Nat) (l:List Nd),t[k]?=some l->∀nd,nd∈l->(ah L (d.node nd.id 0)).n+4*m<=9223372036854775808
section
variable {d:aU}{ks:List ByteArray}{l0 dz:List Nd}{X0 C:Nat}{L:List aQ}{t:List (List Nd)}{j m:Nat}{c:Nd}
theorem Rg.wM (hC:Rf d l0 X0 C)(h:Rg d ks l0 dz X0 L t j m):t.length<=nG (dz.length-j)/\t.length<=7:=by
 have f:=h.g.ok.m.sh;have a:=(f.rows _ l0 h.g.r0).ne;have e:(dz.drop j).length=dz.length-j:=List.length_drop;have o:=Xq (t:=t) h.g.r0;have p:=Ka (l0:=l0) (t[1]?.getD []) a;rw[h.tk,e]at o p;exact Xp f h.Ma h.g.r0 hC.Zt o p
theorem Rg.child (h:Rg d ks l0 dz X0 L t j m)(hc:dz[j]?=some c):c∈l0.drop 1/\¬ mD t 1 c.id:=by
 have g:(fw l0 (t[1]?.getD []))[0]?=some c:=by rw[h.tk,List.getElem?_drop];exact hc
 have a:=List.mem_filter.1 (asw g);refine⟨a.1,fun e=>?_⟩
 rw[jA]at e;have f:=a.2;rw[decide_eq_true e]at f;cases f
theorem Rg.begin (hC:Rf d l0 X0 C)(h:Rg d ks l0 dz X0 L t j m)(hm:100000<=m)(hc:dz[j]?=some c) :
  ∃B,iX d (Wx d L t l0 c.id B true ((ah L 4).n+(nG (dz.length-j):Nat))) L t 1 (Ll ⟨1,c.low,c.id,false⟩) m/\PoX X0 t 1 (Ll ⟨1,c.low,c.id,false⟩)/\wR d C L t 1 (Ll ⟨1,c.low,c.id,false⟩) (2*C+if t.length=1 then 493 else 0):=by
 have A:=h.g.ok.m.sh;have X:=hC.ok;have f6:=hC.fa6;have E:=hC.no;have G:=A.ne;have Y:=hC.Zt;obtain⟨Z,H⟩:=h.wM hC;obtain⟨f,I⟩:=h.child hc;have J:=(asu.1 hc).1;obtain⟨q,M⟩:∃q,dz.length-j=q+1:=⟨dz.length-j-1,by omega⟩
 have rI:=h.n4;have O:nS (dz.length-j)=nS q+nG (dz.length-j):=by rw[M];rfl
 have R:=h.g.ok.count;have T:=(h.g.iq 4).1;obtain⟨lt,p⟩:∃lt,t[t.length-1]?=some lt:=⟨_,asx (by omega)⟩
 have U:=List.dg p;have u:oA t 0<=300:=Nat.le_trans (Nat.sub_le _ _) (by omega)
 have D:bj d<=11:=by unfold bj;omega
 have V:=xZ f6 1;have v:2<=l0.length:=by
  have:=List.length_pos_of_mem f;rw[List.length_drop]at this;omega
 have x:Lz d L t l0 (lt.length+2) true ((ah L 4).n+(nG (dz.length-j):Nat)) m:=by
  refine⟨h.g.ok,h.g.iq,h.g.fq,h.g.sz,h.g.r0,by omega,fun _=>⟨by omega,by omega⟩,fun e=>(by cases e),h.g.c7,h.wd,fun l hl=>?_,fun _=>?_,fun _=>?_⟩
  ·rw[p]at hl
   rw[←asy hl];show lt.length+(if 1<t.length then 1 else 0)<=lt.length+2
   split <;> omega
  ·have:=Xr (t:=t) f6 (S:=300) (by omega) (lt.length+2) (t.length-1) 1 (by omega)
   have a:=Nat.mul_le_mul_right (11*300+51) (show t.length-1<=6 by omega)
   omega
  ·have:=Nat.mul_le_mul u D
   unfold kW gI;omega
 refine⟨_,x.start (List.mem_of_mem_drop f),⟨hC.x0,h.Ma,fun a=> .inl (h.sx a),fun a=>absurd a (by decide),fun a=>absurd a (by show ¬ ((0:Nat)=2\/(0:Nat)=3);decide),fun W l hl=>?_,fun a=>?_⟩,?_⟩
 ·rw[Nat.sub_self,h.g.r0]at hl
  rw[←asy hl];exact v
 ·rcases a with⟨a,_⟩|a|⟨a,_⟩
  ·exact absurd a (by show ¬ ((0:Nat)=2\/(0:Nat)=3);decide)
  ·exact absurd a (by show ¬ ((0:Nat)=4);decide)
  ·exact absurd a (by show ¬ ((0:Nat)=14);decide)
 ·obtain⟨y,z⟩:=hC.le
  rcases Nat.lt_or_ge 1 t.length with o|o
  ·rw[if_neg (by omega)]
   exact wR.level (by have:=h.sx o;omega) A H (Nat.le_refl 1) (by omega) y z o
  ·have o:t.length=1:=by omega
   rw[if_pos o];refine⟨0,_,vD.Jz ⟨l0,c,h.g.r0,List.mem_of_mem_drop f⟩ (Nat.le_refl _),by decide,.inr ⟨o,?_⟩⟩
   have e1:=Mb (t:=t) (n:=0) o;have e2:bW t 0<=l0.length:=by
    unfold bW;rw[h.g.r0];exact List.length_filter_le _ _
   have:=Nat.mul_le_mul (show Jl t 0<=36 by omega) D
   unfold kW gI;omega
theorem Rg.finish {L0:List aQ}{t0:List (List Nd)}{G n B:Nat}{s:dS}(hC:Rf d l0 X0 C)(h:Rg d ks l0 dz X0 L0 t0 j G)(hc:dz[j]?=some c)(hI:iX d (Wx d L0 t0 l0 c.id B true ((ah L0 4).n+(nG (dz.length-j):Nat))) L t n s m)(v:PoX X0 t n s)(x:s.pc=14):Rg d ks l0 dz X0 L t (j+1) m/\2<=t.length:=by
 have he:=hI.fin x;have y:s.f.po=true:=he.full rfl;obtain⟨z,H⟩:=h.child hc;have A:eC s=true:=by unfold eC;rw[x,y];simp
 have I:∀a,a∈l0.drop 1->(mD t 1 a.id↔mD t0 1 a.id\/a.id=c.id):=fun a p=>by
  have:mD t 1 a.id↔mD t0 1 a.id\/(eC s=true/\a.id=c.id):=hI.ref a p;rw[this,A];simp
 have J:=(asu.1 hc).1;obtain⟨q,M⟩:∃q,dz.length-j=q+1:=⟨dz.length-j-1,by omega⟩
 have O:nS (dz.length-j)=nS q+nG (dz.length-j):=by rw[M];rfl
 have T:=h.n4;have R:(ah L 4).n<=(ah L0 4).n+(nG (dz.length-j):Nat):=hI.base.lim.2 rfl;refine⟨⟨h.g.next hC.ok he,v.Ma,fun o=>?_,?_,?_,hI.wd⟩,?_⟩
 ·rcases v.sx o with q|⟨q,_⟩
  ·exact q
  ·exfalso
   have D:=v.inn (.inr (.inr ⟨x,y⟩));unfold wQ at q;rw[if_neg (by omega)]at q
   exact q.2 D
 ·have e:fw l0 (t[1]?.getD [])=(fw l0 (t0[1]?.getD [])).filter (fun a => !decide (a.id=c.id)):=by
   unfold fw;rw[List.filter_filter];refine List.filter_congr (fun a p=>?_)
   have E:=I a p;rw[jA,jA]at E;by_cases o:a.id=c.id
   ·rw[decide_eq_true (E.2 (.inr o)),decide_eq_true o];rfl
   ·have S:a.id∈refsOf (t[1]?.getD [])↔a.id∈refsOf (t0[1]?.getD []):=E.trans ⟨fun h=>h.resolve_right o,.inl⟩
    rw[decide_eq_decide.2 S,decide_eq_false o];rfl
  have u:((dz.drop j).map (·.id)).Nodup:=by
   rw[←h.tk];have:=hI.base.tree.sh.ids hI.base.r0;exact this.sublist ((List.filter_sublist.trans (List.drop_sublist 1 l0)).map _)
  rw[e,h.tk,qN hc,List.filter_cons,if_neg (by simp)]
  rw[qN hc,List.map_cons,List.nodup_cons]at u;refine List.filter_eq_self.2 (fun a p=>?_)
  have:a.id≠c.id:=fun e=>u.1 (by rw[←e];exact List.mem_map_of_mem p)
  simp[this]
 ·rw[show dz.length-(j+1)=q by omega]
  omega
 ·obtain⟨l,_,_,hl,_⟩:=he.ent y c z rfl
  have:=(asu.1 hl).1;omega
def PkN (d:aU)(ks:List ByteArray)(l0 dz:List Nd)(X0 C:Nat)(L:List aQ)(t:List (List Nd))(j m Q:Nat):Prop:=
 Rg d ks l0 dz X0 L t j m/\j<=dz.length/\C*(2*(dz.length-j))+C*fW d.fa.toNat t+(if t.length=1 then 493 else 0)<=Q
def PkS (d:aU)(ks:List ByteArray)(l0 dz:List Nd)(X0 C:Nat)(L:List aQ)(t:List (List Nd))(j:Nat)(s:dS)(m Q:Nat):Prop:=
 s.pc<14/\j<dz.length/\∃(L0:List aQ) (t0:List (List Nd)) (m0:Nat) (c0:Nd) (B n c:Nat),Rg d ks l0 dz X0 L0 t0 j m0/\dz[j]?=some c0/\iX d (Wx d L0 t0 l0 c0.id B true ((ah L0 4).n+(nG (dz.length-j):Nat))) L t n s m/\PoX X0 t n s/\wR d C L t n s c /\
  C*(2*(dz.length-(j+1)))+C*fW d.fa.toNat t+c<=Q
theorem PkN.begin {Q:Nat}(hC:Rf d l0 X0 C)(h:PkN d ks l0 dz X0 C L t j m Q)(hm:100000<=m)(hc:dz[j]?=some c):PkS d ks l0 dz X0 C L t j (Ll ⟨1,c.low,c.id,false⟩) m Q:=by
 obtain⟨e,q,f⟩:=h;have a:=(asu.1 hc).1;obtain⟨B,g,o,p⟩:=e.begin hC hm hc;refine⟨by show 0<14;decide,a,L,t,m,c,B,1,_,e,hc,g,o,p,?_⟩
 rw[show dz.length-j=(dz.length-(j+1))+1 by omega,Nat.mul_add,Nat.mul_add]at f
 omega
theorem PkS.base {s:dS}{Q:Nat}(h:PkS d ks l0 dz X0 C L t j s m Q):bL L/\dP d L t/\t[0]?=some l0/\(L.length:Int)=d.cells:=by
 obtain⟨_,_,_,_,_,_,_,_,_,_,_,hI,_⟩:=h;exact⟨hI.base.iq,hI.base.tree,hI.base.r0,hI.base.fq⟩
theorem PkS.step {s:dS}{Q:Nat}(hC:Rf d l0 X0 C)(h:PkS d ks l0 dz X0 C L t j s m Q):dS.Ok d L s/\∀s',jm d L s s' -> ∃t' m' Q',m' + 1=m/\Q' + 1<=Q/\vB d L t (eQ d L s) t' /\
  ((s'.pc<14/\PkS d ks l0 dz X0 C (eQ d L s) t' j s' m' Q')\/(s'.pc=14/\PkN d ks l0 dz X0 C (eQ d L s) t' (j+1) m' Q')):=by
 obtain⟨o,D,L0,t0,E,G,B,n,c,z,hc,hI,p,q,hQ⟩:=h;have H:=hC.no;obtain⟨a,b⟩:=hI.step hC.ok (by omega) o
 refine⟨a,fun s' u=>?_⟩
 obtain⟨t',n',m',f,hm,hE,A⟩:=b s' u;have g := p.step hC.ok rfl hI o u f A;have I:t.length<=7:=(Fb hI.base.tree.sh p.Ma (Nat.le_refl 4) hI.base.r0 hC.Zt).1;obtain⟨v,x⟩:=hC.le;obtain⟨c',y,hle⟩:=wR.step hC.ok rfl hI o p I v x q u f A;refine⟨t',m',C*(2*(dz.length-(j+1)))+C*fW d.fa.toNat t' + c',hm,by omega,hE,?_⟩
 have:=f.agk;by_cases e:s'.pc<14
 ·exact .inl ⟨e,e,D,L0,t0,E,G,B,n',c',z,hc,f,g,y,Nat.le_refl _⟩
 ·obtain⟨J,M⟩:=z.finish hC hc f g (by omega)
  refine .inr ⟨by omega,J,by omega,?_⟩
  rw[if_neg (by omega)]
  omega
theorem PoF.seq {bare:Bool}(u:d.Ok)(B:d.fa<=6)(e:d.no=300)(h:PoF d ks l0 bare L t):∃X0 C,Rf d l0 X0 C/\PkN d ks l0 (fw l0 (t[1]?.getD [])) X0 C L t 0 1000000 9600:=by
 have v:=h.g.ok.m.sh;have D:=v.ne;have x:=(v.rows _ l0 h.g.r0).ne;have y:=h.Zt;have E:=Ka (l0:=l0) (t[1]?.getD []) x;have G:=Xq (t:=t) h.g.r0;have J:=h.Zu;have H:=agB ((fw l0 (t[1]?.getD [])).length-0) (by omega)
 have o:∀X0:Nat,(2<=t.length->sH t t.length<=X0)->Rg d ks l0 (fw l0 (t[1]?.getD [])) X0 L t 0 1000000:=fun X0 z=>
  ⟨h.g,h.Ma,z,List.drop_zero.symm,by omega,fun k l hk nd hm=>by rw[h.wd k l hk nd hm];decide⟩
 rcases Nat.lt_or_ge 1 t.length with a|a
 ·obtain⟨M,p⟩:=Fb v h.Ma (fa:=d.fa.toNat) (by have:=u.fy;omega) h.g.r0 y
  obtain⟨l1,f,O,A,e2,e3⟩:=p a (h.Um a);obtain⟨lt,q⟩:∃lt,t[t.length-1]?=some lt:=⟨_,asx (by omega)⟩
  have e4:=aaw q;have e5:=h.Um a lt q;have e6:=Jy (t:=t) (n:=t.length-1) (by omega) t.length (by omega)
  have I:=Ww l1.length (by omega) (bX d.fa.toNat l1) (by omega) f (by omega) (by omega) (by omega)
  refine⟨l1.length-2*f,_,⟨u,B,e,by omega,y,rfl⟩,o _ (fun _=>by omega),Nat.zero_le _,?_⟩
  rw[if_neg (by omega),←Nat.mul_add,Nat.mul_comm,A]
  refine Nat.le_trans (Nat.le_trans (Nat.mul_le_mul_right _ ?_) I) (by decide)
  split <;> omega
 ·have a:t.length=1:=by omega
  refine⟨1,_,⟨u,B,e,Nat.le_refl _,y,rfl⟩,o 1 (fun R=>by omega),Nat.zero_le _,?_⟩
  rw[if_pos a];have A:fW d.fa.toNat t=0:=by
   unfold fW;rw[List.drop_of_length_le (by omega)];rfl
  rw[A];omega
theorem Pz {l:List Sl}{x:Sl}(a:kY l)(f:x∈l):l[fR l x.k]?=some x/\(l.any fun s=>s.k.toList == x.k.toList)=true:=by
 obtain⟨q,e⟩:=ast f;have g:=jM a (key:=x.k) e;have o:=jN a (key:=x.k) e;simp only[cS,Bool.false_eq_true,false_iff,true_iff]at g o;have p:q=fR l x.k:=by
  rcases qz a (key:=x.k)with h|⟨h,_⟩ <;> omega
 exact⟨by rw[←p,e],List.any_eq_true.2 ⟨x,f,beq_self_eq_true _⟩⟩
theorem Re.slot {L1:List aQ}{key:ByteArray}{i:Nat}{f:pR}(q:mA (ah L1 4).n t)(h0:t[0]?=some l0)(g:l0.flatMap (fun nd=>nd.pg.sl)=cN 0 ks)(D:ks.length<=36)(hk:ks[i]?=some key)(E:aaS d L1 t key 0 0 f) :
  f.pg.sl[fR f.pg.sl key]?=some ⟨key,((i+1:Nat):Int)⟩/\(f.pg.sl.any fun s=>s.k.toList == key.toList)=true/\f.pg.sl.length<=1000:=by
 rcases E with⟨_,_,k,l,_,hk,_⟩|⟨l,nd,hl,x,hid,G,H,y,_⟩
 ·omega
 ·rw[h0]at hl
  obtain rfl:=asy hl;have A:=asw (uZ ks 0 i key hk);rw[←g,Nat.zero_add]at A;obtain⟨B,h,o⟩:=List.mem_flatMap.1 A;have I:=(q.nodes 0 l0 h0 nd x).2;have z := (q.nodes 0 l0 h0 B h).2;obtain⟨p,hp⟩:=ast x;obtain⟨J,a⟩:=ast h;obtain⟨b1,b2⟩:=z.bd _ o;have e:p=J := (q.rows 0 l0 h0).xR hp a H y b1 (by
   cases M:B.pg.la with
   | true=>rfl
   | false=>rw[Bool.false_or];exact b2 M)
  subst e;rw[hp]at a;obtain rfl:=asy a;rw[G];obtain⟨O,R⟩:=Pz I.jP o;refine⟨O,R,?_⟩;have S:nd.pg.sl.length<=(l0.flatMap fun nd=>nd.pg.sl).length:=by
   obtain⟨u,v,e⟩:=List.append_of_mem x;rw[e,List.flatMap_append,List.flatMap_cons,List.length_append,List.length_append];omega
  rw[g,gQ]at S;omega
end
end
section
def PkA (d:aU)(ks:List ByteArray)(l0 dz:List Nd)(X0 C:Nat)(L:List aQ)(t:List (List Nd))(j:Nat)(pv:Value)(CC:List aC)(Q:Nat):Prop:=
 ∃m,990000+Q<=m/\((pv=.pointer none/\CC=[]/\PkN d ks l0 dz X0 C L t j m Q)\/∃(b:Nat) (s:dS) (j':Nat),pv=(.pointer (some ⟨b,0,none⟩))/\fU d b s CC/\j=j' + 1/\PkS d ks l0 dz X0 C L t j' s m Q)
def qV (K:aM)(bf bm bc:Nat)(d:aU)(ks:List ByteArray)(l0 dz:List Nd)(X0 C:Nat)(F:List aC)(j:Nat)(pv:Value)(i Q acc:Nat)(w:World):Prop:=
 ∃(L:List aQ) (t:List (List Nd)) (fs:pR) (kw:ByteArray) (CC:List aC) (x:jO × Value × Value),ks[i]?=some kw/\(∃mm,vC d L t kw 0 fs mm)/\fs.pc≠2/\PkA d ks l0 dz X0 C L t j pv CC Q /\
  St K w (group CC::group (ru bf (aY (kL bf x.1 fs.pc)) x.1 x.2.1 x.2.2 d kw ((0:Nat):Int) fs)::aL bm bc L acc::F)
structure PkF (ks:List ByteArray)(j:Nat)(pg:Pg)(kw:ByteArray):Prop where
 key:ks[j]?=some kw
 slot:pg.sl[fR pg.sl kw]?=some ⟨kw,((j+1:Nat):Int)⟩
 any:(pg.sl.any fun s=>s.k.toList == kw.toList)=true
 len:pg.sl.length<=1000
section
variable {K:aM}{w:World}{F:List aC}{b bf bm bc acc i j Q X0 C:Nat}{d:aU}{ks:List ByteArray}{l0 dz:List Nd}{pv:Value}{L:List aQ}{t:List (List Nd)}{CC:List aC}{kw:ByteArray}
theorem PkA.base (h:PkA d ks l0 dz X0 C L t j pv CC Q):bL L/\dP d L t/\t[0]?=some l0/\l0.flatMap (fun nd=>nd.pg.sl)=cN 0 ks:=by
 obtain⟨m,_,⟨_,_,h,_⟩|⟨b,s,f,_,_,_,h⟩⟩:=h
 ·exact⟨h.g.iq,h.g.ok.m,h.g.r0,h.g.leaves⟩
 ·obtain⟨a,b,c,_⟩:=h.base
  obtain⟨_,_,_,_,_,_,_,_,_,e,_⟩:=h;exact⟨a,b,c,e.g.leaves⟩
theorem qV.same {w':World}(h:qV K bf bm bc d ks l0 dz X0 C F j pv i Q acc w)(a:Below w.heap.size w w'):qV K bf bm bc d ks l0 dz X0 C F j pv i Q acc w' := by
 obtain⟨L,t,e,kw,CC,x,f,g,o,p,q⟩:=h;exact⟨L,t,e,kw,CC,x,f,g,o,p,q.same a⟩
theorem qV.below (h:qV K bf bm bc d ks l0 dz X0 C F j pv i Q acc w){a:World}(hl:(aM.of a).Le K):Below a.heap.size a w:=by
 obtain⟨L,t,f,kw,CC,x,g,o,p,q,e⟩:=h;exact e.below hl
theorem qV.rest (h:qV K bf bm bc d ks l0 dz X0 C F j pv i Q acc w):St K w F:=by
 obtain⟨L,t,e,kw,CC,x,f,g,o,p,a⟩:=h;exact a.tail.tail.tail
theorem qV.new {c:Nd}(hC:Rf d l0 X0 C)(h:qV K bf bm bc d ks l0 dz X0 C F j (.pointer none) i Q acc w)(hc:dz[j]?=some c) :
  Calls Tryz.prog 59 #[.agg #[.int .i64 (d).th,.int .i64 (d).sn,.int .i64 (d).no,.int .i64 (d).ch,.int .i64 (d).re,.int .i64 (d).fa,.int .u64 (d).cl],.int .i64 1,.string c.low,.int .u64 c.id] w fun e w' => ∃b,e=.returned (.pointer (some ⟨b,0,none⟩))/\qV K bf bm bc d ks l0 dz X0 C F (j+1) (.pointer (some ⟨b,0,none⟩)) i Q acc w' := by
 obtain⟨L,t,f,kw,CC,x,g,o,p,⟨m,hm,⟨_,rfl,q⟩|⟨_,_,_,h,_⟩⟩,a⟩:=h
 ·have a:=a.tail
  refine(xO (aA:=1) (ch:=c.id) (sep:=c.low) a).mono ?_
  rintro e w' ⟨b,CC,rfl,u,a⟩;exact⟨b,rfl,L,t,f,kw,CC,x,g,o,p,⟨m,hm,.inr ⟨b,_,j,rfl,u,rfl,q.begin hC (by omega) hc⟩⟩,St.eD.2 a⟩
 ·cases h
theorem qV.post (hC:Rf d l0 X0 C)(V:acc<=1000000)(h:qV K bf bm bc d ks l0 dz X0 C F j (.pointer (some ⟨b,0,none⟩)) i Q acc w) :
  Calls Tryz.prog 60 #[(.pointer (some ⟨b,0,none⟩)),(.pointer (some ⟨bm,0,none⟩))] w fun e w' => ∃(dn:Bool) (Q':Nat),e=.returned (.bool dn)/\Q' + 1<=Q/\qV K bf bm bc d ks l0 dz X0 C F j (if dn then .pointer none else(.pointer (some ⟨b,0,none⟩))) i Q' (acc+1) w' := by
 obtain⟨L,t,u,kw,CC,x,v,⟨W,B⟩,y,⟨m,hm,⟨h,_⟩|⟨D,s,E,G,H,rfl,z⟩⟩,I⟩:=h
 ·cases h
 ·obtain rfl:b=D := by
   have:=asy (Value.pointer.inj G);exact congrArg Addr.block this
  obtain⟨hok,g⟩:=z.step hC;have J:=z.base.1;refine(xN hC.ok J (by omega) hok H (St.eD.1 (I.re [0,2,1] rfl))).mono ?_
  rintro e w' ⟨s',M,rfl,O,o,a⟩;obtain⟨t',m',Q',X,A,R,S⟩:=g s' O;have f := B.env hC.ok R;rcases S with⟨T,p⟩|⟨T,U⟩
  ·refine⟨false,Q',by rw[decide_eq_false (by omega)],A,_,t',u,kw,M,x,v,⟨_,f⟩,y,⟨m',by omega,.inr ⟨b,s',E,rfl,o,rfl,p⟩⟩,(St.eD.2 a).re [0,2,1] rfl⟩
  ·have q:=(St.eD.2 a).tail
   exact⟨true,Q',by rw[decide_eq_true (by omega)],A,_,t',u,kw,[],x,v,⟨_,f⟩,y,⟨m',by omega,.inl ⟨rfl,rfl,U⟩⟩,St.eD.2 (show St K w' ([]++_)from q.re [1,0] rfl)⟩
theorem qV.find (hC:Rf d l0 X0 C)(p:ks.length<=36)(X:acc<=1000000)(h:qV K bf bm bc d ks l0 dz X0 C F j pv i Q acc w) :
  Calls Tryz.prog 49 #[(.pointer (some ⟨bf,0,none⟩)),(.pointer (some ⟨bm,0,none⟩))] w fun e w' => ∃(acc':Nat),acc' <= acc+1/\((e=.returned (.bool false)/\qV K bf bm bc d ks l0 dz X0 C F j pv i Q acc' w') \/
   (e=.returned (.bool true)/\∃(id:Int) (pg:Pg) (rd:lM) (B:jO) (va G:Value) (kw:ByteArray) (L:List aQ) (t:List (List Nd)) (CC:List aC),PkF ks i pg kw/\PkA d ks l0 dz X0 C L t j pv CC Q /\
    St K w' (ru bf .nilFunc B va G d kw ((0:Nat):Int) ⟨2,id,pg,rd⟩++(group CC::aL bm bc L acc' :: F)))):=by
 obtain⟨L,t,g,kw,CC,x,u,⟨Y,H⟩,I,v,J⟩:=h;obtain⟨z,A,h0,y⟩:=v.base;obtain⟨⟨m',D,_⟩,M,O,R⟩:=H.step (level:=0) hC.ok z A I (Nat.le_refl 0);refine(r8 hC.ok z (by omega) M O (St.eD.1 (J.re [1,2,0] rfl))).mono ?_
 rintro e w' ⟨he,o,f⟩;refine⟨uz g.pc acc,by unfold uz;split <;> omega,?_⟩
 by_cases E:2<=(bY d L kw ((0:Nat):Int) g).pc
 ·rw[decide_eq_true E]at he
  have a:(bY d L kw ((0:Nat):Int) g).pc=2:=by
   rcases D with⟨q,_⟩|⟨q,_⟩|q <;> omega
  have S:=R a;generalize bY d L kw ((0:Nat):Int) g=T at *;obtain⟨pc,id,pg,rd⟩:=T;simp only at a;subst a;obtain⟨U,V,W⟩:=Re.slot A.sh h0 y p u S;exact .inr ⟨he,id,pg,rd,o.1,o.2.1,o.2.2,kw,L,t,CC,⟨u,U,V,W⟩,v,St.eD.1 ((St.eD.2 f).re [0,2,1] rfl)⟩
 ·rw[decide_eq_false E]at he
  exact .inl ⟨he,L,t,_,kw,CC,o,u,⟨m',D⟩,by omega,v,(St.eD.2 f).re [2,0,1] rfl⟩
theorem qV.reader (e:PkA d ks l0 dz X0 C L t j pv CC Q)(hk:ks[i]?=some kw)(h:∀B,St K w (ru bf (aY (some (jh bf))) B (.slice none 0 0) (.slice none 0 0) d kw ((0:Nat):Int) Yv++(group CC::aL bm bc L acc::F))):qV K bf bm bc d ks l0 dz X0 C F j pv i Q acc w:=by
 obtain⟨g,f,h0,_⟩:=e.base;have a:=(f.sh.rows _ l0 h0).ne;exact⟨L,t,Yv,kw,CC,(⟨0,0,0,0,0,0⟩,.slice none 0 0,.slice none 0 0),hk,⟨_,vC.start ⟨l0,l0[0],h0,List.getElem_mem a⟩⟩,by decide,e,(St.eD.2 (h _)).re [1,0,2] rfl⟩
theorem qV.over (h:qV K bf bm bc d ks l0 dz X0 C F dz.length (.pointer none) i Q acc w):∃(L:List aQ)(t:List (List Nd)),Re d ks l0 L t/\fw l0 (t[1]?.getD [])=[]/\St K w (aL bm bc L acc::F):=by
 obtain⟨L,t,f,kw,CC,x,o,p,q,⟨m,hm,⟨_,rfl,a⟩|⟨_,_,_,h,_⟩⟩,e⟩:=h
 ·exact⟨L,t,a.1.g,by rw[a.1.tk,List.drop_length],e.tail.tail⟩
 ·cases h
theorem adw {g:Nat}(a:d.Ok)(h:Re d ks l0 L t)(f:K.map g=some (.cells (flat L).toArray 63))(hl:L.length<=1000000) :
  ∀W F,St K W F->Calls Tryz.prog 63 #[.agg #[.int .i64 (d).th,.int .i64 (d).sn,.int .i64 (d).no,.int .i64 (d).ch,.int .i64 (d).re,.int .i64 (d).fa,.int .u64 (d).cl,.slice (some ⟨g,0,none⟩) L.length L.length]] W fun e w' => ∃v,e=.returned v/\St K w' (az v 23 1 ks.length (aO ((cN 0 ks).map (·.r)))::F):=fun W F o=>by
 have q:=sP a h.ok h.r0 f hl o;rw[h.leaves,gQ]at q;exact q
theorem x8 (hk:ks[i]?=some kw):(aO ((cN 0 ks).map (·.r)))[i]?=some (.int .u64 ((i+1:Nat):Int)):=by
 have:=uZ ks 0 i kw hk;rw[Nat.zero_add]at this;simp[aO,this]
end
end
section
def wS (tk:List Nd)(ks:List ByteArray)(e:Nat)(ρ:Nat->Option Value)(v:Value)(cs:List aC):Prop:=
 if e=1 then ∃a c,v=.slice a tk.length c/\cs=[az (.slice a tk.length c) 99 2 tk.length (fE tk)]
 else if e=3 then ∃a c,v=.slice a ks.length c/\cs=[az (.slice a ks.length c) 9 1 ks.length (bO ks)]
 else if e=5 then ∃a c,v=.slice a ks.length c/\cs=[az (.slice a ks.length c) 23 1 ks.length (aO ((cN 0 ks).map (·.r)))]
 else if e=6 then ρ 1=some v/\cs=[]
 else if e=7 then ρ 3=some v/\cs=[]
 else ρ 5=some v/\cs=[]
theorem wS.mono {tk:List Nd}{ks:List ByteArray}{es:List Nat}:Sy es (wS tk ks):=fun e g v cs k u _ hk h=>by
 have hu:∀i x,g i=some x->upd g k u i=some x:=fun i x a=>by
  unfold upd;rw[if_neg (fun e=>by rw[e,hk]at a;cases a)]
  exact a
 unfold wS at h ⊢;split
 ·rename_i f;rw[if_pos f]at h;exact h
 ·rename_i f;rw[if_neg f]at h
  split
  ·rename_i e2;rw[if_pos e2]at h;exact h
  ·rename_i e2;rw[if_neg e2]at h
   split
   ·rename_i e3;rw[if_pos e3]at h;exact h
   ·rename_i e3;rw[if_neg e3]at h
    split
    ·rename_i e4;rw[if_pos e4]at h;exact⟨hu _ _ h.1,h.2⟩
    ·rename_i e4;rw[if_neg e4]at h
     split
     ·rename_i e5;rw[if_pos e5]at h;exact⟨hu _ _ h.1,h.2⟩
     ·rename_i e5;rw[if_neg e5]at h;exact⟨hu _ _ h.1,h.2⟩
theorem mS (a:Option Addr)(len cap:Nat)(f:Nat->ByteArray)(fanout sh:Int)(bare:Bool)(qa:Option Addr)(R ak9:Nat)(P:Nat->Int)(hsh:0<=sh/\sh<18446744073709551616)(w:World)(hz:zh w a len f)(hq:Th .u8 w qa R P) :
  Calls Tryz.prog 9 #[.slice a len cap,.int .i64 fanout,.int .u64 sh,.bool bare,.slice qa R ak9] w fun e w' => e=.returned (.bool true)/\Below w.heap.size w w' := by
 obtain⟨d,hd,pQ,hno,hch,Q1,Q2⟩:=Xj fanout;have hl:=hz.1;have hlp:=hq.1;simp only[maxLen]at hl hlp;have Hz:=ass hz;have Hq:=ass hq;have Hsh:=ass hsh;have QA:=ass (fun(W:World) (cs:List aC) (h:St (aM.of w) W cs)=>Ju h)
 have y:=St.start w;clear hz hsh hq;go_enter Tryz.func9,Tryz.ntmps9
 go_wp2_with fail
 refine(bJ y (Q1.out _)).mono ?_
 clear y;rintro e w1 ⟨rfl,y⟩;have y:=y.made (.cells #[.int .i64 d.th,.int .i64 d.sn,.int .i64 300,.int .i64 d.ch,.int .i64 d.re,.int .i64 d.fa,.int .u64 d.cl] 26);obtain⟨S,hb0⟩:∃b,b=w1.heap.size:=⟨_,rfl⟩;go_upto_region 3 with(fail)
 rw[←hb0]at y ⊢;clear hb0;refine dc y ?_
 clear y;intro w2 y;have y:St (aM.of w) w2 (blk S (.cells (lI d) 26)::[]):=y.Rs (by unfold lI;rw[hno.out])
 have kc:=y.k0;unfold lI at kc;go_wp2_with fail
 refine(Q2.out _ _ _ y).mono ?_
 clear y kc;rintro e w3 ⟨bm,bc,rfl,y⟩;have y:=y.made (.cells #[.int .i64 (d).th,.int .i64 (d).sn,.int .i64 (d).no,.int .i64 (d).ch,.int .i64 (d).re,.int .i64 (d).fa,.int .u64 (d).cl] 29);obtain⟨b1,hb1⟩:∃b,b=w3.heap.size:=⟨_,rfl⟩;go_wp2_with fail
 rw[←hb1]at y ⊢;clear hb1;refine(QA.out _ _ y).mono ?_
 clear y;rintro e w4 ⟨rfl,y⟩;rcases Nat.lt_or_ge 300 R with hl3|hl3
 ·as_aux_lemma=>
  have hgt:decide ((300:Int)<(R:Int))=true:=decide_eq_true (by omega)
  go_wp2_with fail
  refine(QA.out _ _ y).mono ?_
  clear y;rintro e w5 ⟨rfl,y⟩;go_wp2
  go_ret;exact⟨rfl,y.below (aM.Le.refl _)⟩
 have hgt:decide ((300:Int)<(R:Int))=false:=decide_eq_false (by omega)
 have y:St (aM.of w) w4 (aL bm bc (cB d) 0::blk b1 (.cells (lI d) 29)::blk S (.cells (lI d) 26)::[]):=y.b1;have kc:=y.k2;unfold lI at kc;have q:=Pu (a:=a) (len:=len) (cap:=cap) (f:=f) (bare:=bare) Hz.out hd.out pQ.out (by have:=hno.out;omega) Hsh.out y
 have Q:=ass q;clear q y;generalize cB d=L00 at *;go_wp2_with fail
 refine(Q.out).mono ?_
 clear Q kc hgt;rintro e w5 ⟨ks,l0,L,t,rfl,T,y⟩;have HG:=ass T.out.1.g;have kc:=y.k2;unfold lI at kc;have q:=vg (d:=d) y;have Q:=ass q;clear y q;go_wp2_with fail
 refine(Q.out).mono ?_
 clear Q kc;rintro e w7 ⟨g,rfl,hle,hg,y⟩;obtain⟨D,hK2⟩:∃D,D=(aM.of w).add g (.cells (flat L).toArray 63):=⟨_,rfl⟩;rw[←hK2]at hle hg y;clear hK2;have Uh:=ass hle;have Hg:=ass hg;have y:=y.made (.cells #[.int .i64 (d).th,.int .i64 (d).sn,.int .i64 (d).no,.int .i64 (d).ch,.int .i64 (d).re,.int .i64 (d).fa,.int .u64 (d).cl,.slice (some ⟨g,0,none⟩) L.length L.length] 52);obtain⟨Kb,Qf⟩:∃b,b=w7.heap.size:=⟨_,rfl⟩;obtain⟨hl6,q1,q2,_⟩:=Xk hd.out hch.out HG.out T.out.2 hg;have q3:=adw hd.out HG.out hg hl6;obtain⟨n5,hn5⟩:∃n,n=L.length:=⟨_,rfl⟩;have Hn5:=ass hn5;obtain⟨dz,kK⟩:∃tk,tk=fw l0 (t[1]?.getD []):=⟨_,rfl⟩;rw[←kK]at q1;rw[←hn5]at y q1 q2 q3;have Htk:=ass kK;have Qt:=ass q1;have Qk:=ass q2;have Qr:=ass q3;clear q1 q2 q3 hle hg hl6 kK;go_upto_region 8 with(fail)
 rw[←hn5,←Qf];rw[←Qf]at y;clear Qf hn5;refine dc y ?_
 clear y;intro w8 y;have y:St D w8 (blk Kb (.cells (Fs d g n5) 52)::aL bm bc L 0::blk b1 (.cells (lI d) 29)::blk S (.cells (lI d) 26)::[]):=y;have Hs:=ass y;clear y;refine cX [false,true,false,true,false,true,true,true,true] (fun  | _=>none) [1,3,5,6,7,8] (fun|6=>[1] | 7=>[3] | 8=>[5] | _=>[])
  (GR D (blk Kb (.cells (Fs d g n5) 52)::aL bm bc L 0::blk b1 (.cells (lI d) 29)::blk S (.cells (lI d) 26)::[]) [1,3,5,6,7,8] (wS dz ks))
  (fun W=>St D W (blk Kb (.cells (Fs d g n5) 52)::aL bm bc L 0::blk b1 (.cells (lI d) 29)::blk S (.cells (lI d) 26)::[])) ?aqZ (by kernel_rfl) ?ala ?rvH ?agE ?alb ?alc ?ald ?ale ?alf
 case ala=>as_aux_lemma=>kernel_rfl
 case rvH=>
  intro Y y;have kv:=y.k0;unfold Fs at kv;clear y;simp only[cF];repeat (go_big_quiet_step (fail))
  refine wpQuiet_nil ?_
  rfl
 case agE=>rfl
 case alb=>exact GR.start Hs.out
 case alc=>exact fun U Y h=>h.rest
 case ald=>exact fun U Y W3 h hb=>h.same hb
 case ale=>
  refine⟨?alh,?ali,?alj,?alk,?alm,?aln,trivial⟩;case alh=>
   intro o ho U Y h J V E act G;obtain rfl:=asy ho;replace G:act=aj _ U [] _:=G;obtain⟨C,R',hx1,y,A⟩:=h.step wS.mono 1 [] (by decide) (by decide) (by decide) V (by simp)
   simp only[aj]at G;subst G;have Hn:=ass A;clear A hx1 h J E V;go_wp2_with fail
   refine(Qt.out _ _ y).mono ?_
   rintro e W3 ⟨va8,rfl,M⟩;obtain⟨a8,c8,rfl,_,_⟩:=M.aJ;have eT:=ass M;clear y M;go_wp2
   exact⟨rfl,_,rfl,fun u hu=>(by cases hu),Hn.out _ _ W3 ⟨a8,c8,rfl,rfl⟩ eT.out⟩
  case ali=>
   intro o ho U Y h J h3 E act G;obtain rfl:=asy ho;replace G:act=aj _ U [] _:=G;obtain⟨C,R',hx1,y,A⟩:=h.step wS.mono 3 [] (by decide) (by decide) (by decide) h3 (by simp)
   simp only[aj]at G;subst G;have Hn:=ass A;clear A hx1 h J E h3;go_wp2_with fail
   refine(Qk.out _ _ y).mono ?_
   rintro e W3 ⟨va8,rfl,M⟩;obtain⟨a8,c8,rfl,_,_⟩:=M.aJ;have eT:=ass M;clear y M;go_wp2
   exact⟨rfl,_,rfl,fun u hu=>(by cases hu),Hn.out _ _ W3 ⟨a8,c8,rfl,rfl⟩ eT.out⟩
  case alj=>
   intro o ho U Y h J h5 E act G;obtain rfl:=asy ho;replace G:act=aj _ U [] _:=G;obtain⟨C,R',hx1,y,A⟩:=h.step wS.mono 5 [] (by decide) (by decide) (by decide) h5 (by simp)
   simp only[aj]at G;subst G;have Hn:=ass A;clear A hx1 h J E h5;go_wp2_with fail
   refine(Qr.out _ _ y).mono ?_
   rintro e W3 ⟨va8,rfl,M⟩;obtain⟨a8,c8,rfl,_,_⟩:=M.aJ;have eT:=ass M;clear y M;go_wp2
   exact⟨rfl,_,rfl,fun u hu=>(by cases hu),Hn.out _ _ W3 ⟨a8,c8,rfl,rfl⟩ eT.out⟩
  case alk=>
   intro o ho U Y h J h6 E act G;obtain rfl:=asy ho;replace G:act=aj _ U [1] _:=G;obtain⟨v1,V⟩:=asv.1 (E 1 (by show _∈[1];simp))
   obtain⟨Zl,R8,hp8,Wo⟩:=h.at 1 (by simp) V
   simp only[aj,V,Option.getD_some,aP,Act.put,asz]at G;subst G;have H:=ass (h.kE wS.mono 6 (by decide) (by simp) h6 _ (show upd U 6 _ 1=some _/\([]:List aC)=[]from⟨(if_neg (by decide)).trans V,rfl⟩))
   clear h Wo J E h6 V;go_wp2
   exact⟨rfl,_,rfl,fun u hu=>(by cases hu),H.out⟩
  case alm=>
   intro o ho U Y h J h7 E act G;obtain rfl:=asy ho;replace G:act=aj _ U [3] _:=G;obtain⟨v3,h3⟩:=asv.1 (E 3 (by show _∈[3];simp))
   obtain⟨Zl,R8,hp8,Wo⟩:=h.at 3 (by simp) h3
   simp only[aj,h3,Option.getD_some,aP,Act.put,asz]at G;subst G;have H:=ass (h.kE wS.mono 7 (by decide) (by simp) h7 _ (show upd U 7 _ 3=some _/\([]:List aC)=[]from⟨(if_neg (by decide)).trans h3,rfl⟩))
   clear h Wo J E h7 h3;go_wp2
   exact⟨rfl,_,rfl,fun u hu=>(by cases hu),H.out⟩
  case aln=>
   intro o ho U Y h J h8 E act G;obtain rfl:=asy ho;replace G:act=aj _ U [5] _:=G;obtain⟨v5,h5⟩:=asv.1 (E 5 (by show _∈[5];simp))
   obtain⟨Zl,R8,hp8,Wo⟩:=h.at 5 (by simp) h5
   simp only[aj,h5,Option.getD_some,aP,Act.put,asz]at G;subst G;have H:=ass (h.kE wS.mono 8 (by decide) (by simp) h8 _ (show upd U 8 _ 5=some _/\([]:List aC)=[]from⟨(if_neg (by decide)).trans h5,rfl⟩))
   clear h Wo J E h8 h5;go_wp2
   exact⟨rfl,_,rfl,fun u hu=>(by cases hu),H.out⟩
 case alf=>
  intro U Y h hall;obtain⟨C,hC,y⟩:=h.last hall;obtain⟨v1,V,x6,Rh,rfl,e1⟩:=hC 1 (by simp)
  obtain⟨v3,h3,ak,ck,rfl,e3⟩:=hC 3 (by simp)
  obtain⟨v5,h5,ar,cr,rfl,e5⟩:=hC 5 (by simp)
  obtain⟨v6,h6,h6',e6⟩:=hC 6 (by simp)
  obtain⟨v7,h7,h7',e7⟩:=hC 7 (by simp)
  obtain⟨v8,h8,h8',e8⟩:=hC 8 (by simp)
  rw[V]at h6';rw[h3]at h7';rw[h5]at h8';obtain rfl:=asy h6';obtain rfl:=asy h7';obtain rfl:=asy h8';have y:St D Y (C 1++(C 3++(C 5++(C 6++(C 7++(C 8++[])))))++(blk Kb (.cells (Fs d g n5) 52)::aL bm bc L 0::blk b1 (.cells (lI d) 29)::blk S (.cells (lI d) 26)::[])):=y;rw[e1,e3,e5,e6,e7,e8]at y;have y:St D Y (az (.slice x6 dz.length Rh) 99 2 dz.length (fE dz)::az (.slice ak ks.length ck) 9 1 ks.length (bO ks)::az (.slice ar ks.length cr) 23 1 ks.length (aO ((cN 0 ks).map (·.r)))::blk Kb (.cells (Fs d g n5) 52)::aL bm bc L 0::blk b1 (.cells (lI d) 29)::blk S (.cells (lI d) 26)::[]):=y
  simp only[aj,V,h3,h5,h6,h7,h8,Option.getD_some,aP,Act.put,asz];clear h hall V h3 h5 h6 h7 h8 e1 e3 e5 e6 e7 e8 hC h6' h7' h8' Qt Qk Qr;rcases Nat.eq_zero_or_pos ks.length with hk0|hk0
  ·as_aux_lemma=>
   have hk1:((ks.length:Int) == 0)=true:=by rw[hk0];rfl
   go_wp2
   go_ret;exact⟨rfl,y.below Uh.out⟩
  have hk1:((ks.length:Int) == 0)=false:=by rw[beq_eq_false_iff_ne];omega
  obtain⟨X0,C9,HC,HN⟩:∃X0 C,Hid (Rf d l0 X0 C)/\Hid (PkN d ks l0 dz X0 C L t 0 1000000 9600):=by
   obtain⟨X0,C,V,Z⟩:=T.out.1.seq hd.out pQ.out hno.out;rw[←Htk.out]at Z;exact⟨X0,C,ass V,ass Z⟩
  have adx:=ass T.out.2;have Htl:Hid (dz.length<=36):=ass (by
   have V:=T.out.1.Zt;have Z:=Ka (l0:=l0) (t[1]?.getD []) (HG.out.ok.m.sh.rows _ l0 HG.out.r0).ne;rw[←Htk.out]at Z;omega)
  obtain⟨kw0,aax⟩:∃k0,ks[0]?=some k0:=⟨_,asx hk0⟩;have hrow:(bO ks)[0]?=some (.string kw0):=by simp[bO,aax]
  obtain⟨gk,rfl,cz⟩:=(show St D Y (az (.slice ak ks.length ck) 9 1 ks.length (bO ks)::_)from y.b1).cQ hrow
  clear cz;obtain⟨gr,rfl,cz⟩:=(show St D Y (az (.slice ar ks.length cr) 23 1 ks.length (aO ((cN 0 ks).map (·.r)))::_)from y.b2).cQ (x8 aax)
  clear cz;have y:St D Y (aL bm bc L 0::az (.slice (some ⟨gk,0,none⟩) ks.length ck) 9 1 ks.length (bO ks)::az (.slice (some ⟨gr,0,none⟩) ks.length cr) 23 1 ks.length (aO ((cN 0 ks).map (·.r)))::az (.slice x6 dz.length Rh) 99 2 dz.length (fE dz)::blk Kb (.cells (Fs d g n5) 52)::blk b1 (.cells (lI d) 29)::blk S (.cells (lI d) 26)::[]):=y.re [4,1,2,0,3,5,6] rfl
  have agF:=ass aax;have kl:=y.b5.k0;unfold lI at kl;have c0:=(show St D Y (az _ _ _ _ (bO ks)::_)from y.b1).bG hrow
  have y:=St.eD.2 (show St D Y ([]++_)from y)
  have Hs:=ass y;clear y aax hrow T HG;go_upto_region 12 with(fail)
  refine bN 4 (by kernel_rfl) (by as_aux_lemma=>kernel_rfl) ?_
  simp only[List.take_succ_cons,List.take_zero,List.drop_succ_cons,List.drop_zero];repeat (go_big_quiet_step (fail))
  refine wpQuiet_nil ?_
  intro w9 Tb;have q:=pd (d:=d) (key:=kw0) (level:=((0:Nat):Int)) (Hs.out.same Tb);have Q:=ass q;clear q Hs kl c0 Tb;go_wp2_with fail
  refine(Q.out).mono ?_
  clear Q;rintro e w10 ⟨bf,rfl,y⟩;have I:Hid (qV D bf bm bc d ks l0 dz X0 C9 (az (.slice (some ⟨gk,0,none⟩) ks.length ck) 9 1 ks.length (bO ks)::az (.slice (some ⟨gr,0,none⟩) ks.length cr) 23 1 ks.length (aO ((cN 0 ks).map (·.r)))::az (.slice x6 dz.length Rh) 99 2 dz.length (fE dz)::blk Kb (.cells (Fs d g n5) 52)::blk b1 (.cells (lI d) 29)::blk S (.cells (lI d) 26)::[]) 0 (.pointer none) 0 9600 0 w10):=ass (qV.reader ⟨1000000,by omega,.inl ⟨rfl,rfl,HN.out⟩⟩ agF.out y)
  clear y HN agF hk1;go_upto_region 14 with(fail)
  go_cut [22]from 999 to 0 (fun v wx=>v=.int .i64 0/\Hid (qV D bf bm bc d ks l0 dz X0 C9 (az (.slice (some ⟨gk,0,none⟩) ks.length ck) 9 1 ks.length (bO ks)::az (.slice (some ⟨gr,0,none⟩) ks.length cr) 23 1 ks.length (aO ((cN 0 ks).map (·.r)))::az (.slice x6 dz.length Rh) 99 2 dz.length (fE dz)::blk Kb (.cells (Fs d g n5) 52)::blk b1 (.cells (lI d) 29)::blk S (.cells (lI d) 26)::[]) 0 (.pointer none) 0 9600 0 wx))
  case first=>
   as_aux_lemma=>
   go_wp2
   go_meet;exact⟨rfl,I⟩
  case rest=>
  clear I;obtain⟨rfl,I⟩:=hcut;apply_assumption
  go_cut [18,19,20,21,22]from 999 to 0 (fun v18 _ v20 _ _ wx=>v18=.pointer none/\v20=.int .i64 dz.length/\∃acc bf i Q:Nat,acc<=20000/\Hid (qV D bf bm bc d ks l0 dz X0 C9 (az (.slice (some ⟨gk,0,none⟩) ks.length ck) 9 1 ks.length (bO ks)::az (.slice (some ⟨gr,0,none⟩) ks.length cr) 23 1 ks.length (aO ((cN 0 ks).map (·.r)))::az (.slice x6 dz.length Rh) 99 2 dz.length (fE dz)::blk Kb (.cells (Fs d g n5) 52)::blk b1 (.cells (lI d) 29)::blk S (.cells (lI d) 26)::[]) dz.length (.pointer none) i Q acc wx))
  case first=>
   go_wp2
   go_loopw [18,19,20,21,22] (fun v18 v19 v20 v21 v22 wr=>∃(j i bf k Q acc:Nat),(v18=.pointer none\/∃b,v18=(.pointer (some ⟨b,0,none⟩)))/\v19=(.pointer (some ⟨bf,0,none⟩))/\v20=.int .i64 j/\v21=.int .i64 i/\v22=.int .i64 k/\i<ks.length/\k<=20000/\acc<=k/\j<=dz.length/\Hid (Q+((k+1) / 2-(R+1) / 2)<=9600)/\Hid (qV D bf bm bc d ks l0 dz X0 C9 (az (.slice (some ⟨gk,0,none⟩) ks.length ck) 9 1 ks.length (bO ks)::az (.slice (some ⟨gr,0,none⟩) ks.length cr) 23 1 ks.length (aO ((cN 0 ks).map (·.r)))::az (.slice x6 dz.length Rh) 99 2 dz.length (fE dz)::blk Kb (.cells (Fs d g n5) 52)::blk b1 (.cells (lI d) 29)::blk S (.cells (lI d) 26)::[]) j v18 i Q acc wr)) (fun _ _ _ _ v _=>20001-(intOf v).toNat)
   case atStart=>exact⟨0,0,bf,0,9600,0,.inl rfl,rfl,rfl,rfl,rfl,hk0,by omega,by omega,by omega,ass (by omega),I⟩
   case round=>
    clear I;obtain⟨j,i,bf,k,Q,acc,Tv,rfl,rfl,rfl,rfl,hi,hk2,hacc,hjl,HQ,I⟩:=hrel;rcases Nat.lt_or_ge k 20000 with hk|hk
    ·have hks:((k:Nat):Int)<20000:=by omega
     go_upto_region 17 with(fail)
     clear hks;go_cut [100]from 999 to 0 (fun v wx=>∃b:Bool,v=.bool b/\Hid (R<=k->b=decide (k%2=0))/\Hid (qV D bf bm bc d ks l0 dz X0 C9 (az (.slice (some ⟨gk,0,none⟩) ks.length ck) 9 1 ks.length (bO ks)::az (.slice (some ⟨gr,0,none⟩) ks.length cr) 23 1 ks.length (aO ((cN 0 ks).map (·.r)))::az (.slice x6 dz.length Rh) 99 2 dz.length (fE dz)::blk Kb (.cells (Fs d g n5) 52)::blk b1 (.cells (lI d) 29)::blk S (.cells (lI d) 26)::[]) j u18 i Q acc wx))
     case first=>
      as_aux_lemma=>
      have ady:=I.out.below Uh.out;clear Tv;by_cases hkp:k<R
      ·obtain⟨qb,ae6,rfl,Ye,kq,wq⟩:=Hq.out.2 k hkp
       rw[←ady.cell (p:=⟨qb,ae6+k,none⟩) Ye]at kq;generalize P k=pk at *;have wq:=wf_u8 wq;obtain⟨wq1,wq2⟩:=wq;have hge:decide ((R:Int)<=(k:Int))=false:=decide_eq_false (by omega)
       have hlt:decide ((k:Int)<(R:Int))=true:=decide_eq_true (by omega)
       clear ady;go_wp2
       all_goals
        go_meet;exact⟨_,rfl,ass (fun h=>by omega),I⟩
      ·have hm:(k:Int).tmod 2=((k%2:Nat):Int):=by
        rw[Int.tmod_eq_emod_of_nonneg (by omega)]
        rfl
       have hge:decide ((R:Int)<=(k:Int))=true:=decide_eq_true (by omega)
       have hlt:decide ((k:Int)<(R:Int))=false:=decide_eq_false (by omega)
       clear ady;rcases(by omega:k%2=0\/k%2=1)with Z|Z
       ·rw[Z]at hm
        go_wp2
        go_meet;exact⟨true,rfl,ass (fun _=>by rw[Z];rfl),I⟩
       ·rw[Z]at hm
        go_wp2
        go_meet;exact⟨false,rfl,ass (fun _=>by rw[Z];rfl),I⟩
     case rest=>
     clear I;obtain⟨pk,rfl,Hpk,I⟩:=hcut;apply_assumption
     cases pk with
     | true=>
      rcases Tv with rfl|⟨b,rfl⟩
      ·by_cases hjk:j=dz.length
       ·subst hjk
        have Yo:((dz.length:Int) == (dz.length:Int))=true:=beq_self_eq_true _;go_wp2
        go_meet;exact⟨rfl,rfl,acc,bf,i,Q,by omega,I⟩
       ·have Yo:((j:Int) == (dz.length:Int))=false:=by rw[beq_eq_false_iff_ne];omega
        have aq3:j<36:=by have:=Htl.out;omega
        obtain⟨c,hc⟩:∃c,dz[j]?=some c:=⟨_,asx (by omega)⟩
        obtain⟨r0,r1⟩:=Ee dz j c hc;have hr:=I.out.rest;obtain⟨ga,rfl,cz⟩:=(show St D wc (az (.slice x6 dz.length Rh) 99 2 dz.length (fE dz)::_)from hr.b2).cQ r0
        clear cz;have c0:=(show St D wc (az _ _ _ _ (fE dz)::_)from hr.b2).bG r0
        have c1:=(show St D wc (az _ _ _ _ (fE dz)::_)from hr.b2).bG r1
        have kl:=hr.b4.k0;unfold lI at kl;have Hc:=ass hc;clear hr hc r0 r1;go_upto_region 20 with(fail)
        refine bN 11 (by kernel_rfl) (by as_aux_lemma=>kernel_rfl) ?_
        simp only[List.take_succ_cons,List.take_zero,List.drop_succ_cons,List.drop_zero];repeat (go_big_quiet_step (fail))
        refine wpQuiet_nil ?_
        intro w15 Fg;have q:=(I.out.same Fg).new HC.out Hc.out;have O:=ass q;clear q I kl c0 c1 Fg Yo;go_wp2_with fail
        refine(O.out).mono ?_
        clear O;rintro e w16 ⟨b,rfl,hO⟩;have I:=ass hO;clear hO;have q:=I.out.post HC.out (by omega)
        have O:=ass q;clear q I;go_wp2_with fail
        refine(O.out).mono ?_
        clear O;rintro e w11 ⟨dn,Q',rfl,hQ',hS⟩;have HS:=ass hS;have X:Hid (Q' + ((k+1+1) / 2-(R+1) / 2)<=9600):=ass (by have V:=HQ.out;have Z:=Hpk.out;rcases Nat.lt_or_ge k R with h|h;omega;have:=of_decide_eq_true (Z h).symm;omega)
        clear hS hQ' HQ Hpk;cases dn with
        | true=>
         go_wp2
         go_roundw
         case rel=>exact⟨j+1,i,bf,k+1,Q',acc+1,.inl rfl,rfl,by go_num,rfl,by go_num,hi,by omega,by omega,by omega,X,HS⟩
         case measure=>simp[intOf];omega
        | false=>
         go_wp2
         go_roundw
         case rel=>exact⟨j+1,i,bf,k+1,Q',acc+1,.inr ⟨_,rfl⟩,rfl,by go_num,rfl,by go_num,hi,by omega,by omega,by omega,X,HS⟩
         case measure=>simp[intOf];omega
      ·have q:=I.out.post HC.out (by omega)
       have O:=ass q;clear q I;go_wp2_with fail
       refine(O.out).mono ?_
       clear O;rintro e w11 ⟨dn,Q',rfl,hQ',hS⟩;have HS:=ass hS;have X:Hid (Q' + ((k+1+1) / 2-(R+1) / 2)<=9600):=ass (by have V:=HQ.out;have Z:=Hpk.out;rcases Nat.lt_or_ge k R with h|h;omega;have:=of_decide_eq_true (Z h).symm;omega)
       clear hS hQ' HQ Hpk;cases dn with
       | true=>
        go_wp2
        go_roundw
        case rel=>exact⟨j,i,bf,k+1,Q',acc+1,.inl rfl,rfl,rfl,rfl,by go_num,hi,by omega,by omega,hjl,X,HS⟩
        case measure=>simp[intOf];omega
       | false=>
        go_wp2
        go_roundw
        case rel=>exact⟨j,i,bf,k+1,Q',acc+1,.inr ⟨_,rfl⟩,rfl,rfl,rfl,by go_num,hi,by omega,by omega,hjl,X,HS⟩
        case measure=>simp[intOf];omega
     | false=>
      have X:Hid (Q+((k+1+1) / 2-(R+1) / 2)<=9600):=ass (by have V:=HQ.out;have Z:=Hpk.out;rcases Nat.lt_or_ge k R with h|h;omega;have:=of_decide_eq_false (Z h).symm;omega)
      have q:=I.out.find HC.out adx.out (by omega)
      have O:=ass q;clear q I HQ Hpk;go_wp2_with fail
      refine(O.out).mono ?_
      clear O;rintro e w11 ⟨Qj,am6,⟨rfl,hS⟩|⟨rfl,id,pg,rd,B,va,oF,kw2,L2,t2,CC,hF,hA,y⟩⟩
      ·have HS:=ass hS
       clear hS;go_wp2
       go_roundw
       case rel=>exact⟨j,i,bf,k+1,Q,Qj,Tv,rfl,rfl,rfl,by go_num,hi,by omega,by omega,hjl,X,HS⟩
       case measure=>simp[intOf];omega
      ·have T:=ass hF
       have HA:=ass hA;have q:=r9 (s:=(⟨2,id,pg,rd⟩:pR)) rfl (show pg.sl.length<=1000000 by have:=T.out.len;omega) y
       have O:=ass q;clear q y hF hA;go_wp2_with fail
       refine(O.out).mono ?_
       clear O;rintro e w12 ⟨fA,rfl,y⟩;obtain⟨a1,jH,hv,_,_⟩:=(show St D w12 (az fA 69 2 pg.sl.length (aF pg.sl)::_)from y).aJ
       subst hv;have y:=y.made (.cells #[.int .i64 (pg).aA,(.slice a1 pg.sl.length jH),.string (pg).hi,.bool (pg).la,.int .u64 (pg).ri] 43);obtain⟨bq,hbq⟩:∃bq,bq=w12.heap.size:=⟨_,rfl⟩;go_upto_region 26 with(fail)
       rw[←hbq]at y ⊢;clear hbq;refine dc y ?_
       clear y;intro w13 y;have y:St D w13 (blk bq (.cells #[.int .i64 (pg).aA,(.slice a1 pg.sl.length jH),.string (pg).hi,.bool (pg).la,.int .u64 (pg).ri] 43)::bz (.slice a1 pg.sl.length jH) pg::group CC::aL bm bc L2 Qj::az (.slice (some ⟨gk,0,none⟩) ks.length ck) 9 1 ks.length (bO ks)::az (.slice (some ⟨gr,0,none⟩) ks.length cr) 23 1 ks.length (aO ((cN 0 ks).map (·.r)))::az (.slice x6 dz.length Rh) 99 2 dz.length (fE dz)::blk Kb (.cells (Fs d g n5) 52)::blk b1 (.cells (lI d) 29)::blk S (.cells (lI d) 26)::[]):=(y.re [2,3,0,1,4,5] rfl).tail.tail
       have kp:=y.k0;obtain⟨gs,hgs,cz⟩:=(show St D w13 (az (.slice a1 pg.sl.length jH) 69 2 pg.sl.length (aF pg.sl)::_)from y.b1).cQ (fM pg.sl _ _ T.out.slot).2
       subst hgs;clear cz;have c0:=(show St D w13 (az _ _ _ _ (bO ks)::_)from y.b4).bG (show(bO ks)[i]?=some (.string kw2)by simp[bO,T.out.key])
       have fB:=(show St D w13 (az _ _ _ _ (aF pg.sl)::_)from y.b1).cM (by have:=T.out.len;omega)
       have qf:=fun W (hb:Below w13.heap.size w13 W)=>Ds (cap:=jH) (key:=kw2) W (fB.same hb)
       rw[T.out.any]at qf;have QF:=ass (fun wz (hy:∃x:Ext,wz=over w13 x)=>qf wz (Pure.below hy))
       clear qf fB;refine bK (by kernel_rfl) (by kernel_rfl) ?_
       repeat (go_big_quiet_step ((go_at_call 51;exact aZ (QF.out _ ⟨_,rfl⟩))))
       refine wpQuiet_nil ?_
       intro w14 Qf;have y:=y.same Qf;clear kp c0 Qf QF;have kp:=y.k0;have cs:=(show St D w14 (az _ _ _ _ (aF pg.sl)::_)from y.b1).bG (fM pg.sl _ _ T.out.slot).2
       have cr1:=(show St D w14 (az _ _ _ _ (aO ((cN 0 ks).map (·.r)))::_)from y.b5).bG (x8 T.out.key)
       have hlo:fR pg.sl kw2<pg.sl.length:=(asu.1 T.out.slot).1;have hpl:pg.sl.length<=1000:=T.out.len;have z:(((i+1:Nat):Int) != ((i+1:Nat):Int))=false:=by simp
       have Hs:=ass (show St D w14 (group CC::aL bm bc L2 Qj::az (.slice (some ⟨gk,0,none⟩) ks.length ck) 9 1 ks.length (bO ks)::az (.slice (some ⟨gr,0,none⟩) ks.length cr) 23 1 ks.length (aO ((cN 0 ks).map (·.r)))::az (.slice x6 dz.length Rh) 99 2 dz.length (fE dz)::blk Kb (.cells (Fs d g n5) 52)::blk b1 (.cells (lI d) 29)::blk S (.cells (lI d) 26)::[])from y.tail.tail)
       clear y;go_upto_region 27 with(fail)
       refine bK (by kernel_rfl) (by kernel_rfl) ?_
       repeat (go_big_quiet_step (fail))
       refine wpQuiet_nil ?_
       intro w15 Fg;have y:=Hs.out.same Fg;clear kp cs cr1 hlo hpl Fg T Hs;go_upto_region 29 with(fail)
       clear z;go_cut [21]from 999 to 0 (fun v wx=>∃i':Nat,v=.int .i64 i' /\ i' < ks.length/\St D wx (group CC::aL bm bc L2 Qj::az (.slice (some ⟨gk,0,none⟩) ks.length ck) 9 1 ks.length (bO ks)::az (.slice (some ⟨gr,0,none⟩) ks.length cr) 23 1 ks.length (aO ((cN 0 ks).map (·.r)))::az (.slice x6 dz.length Rh) 99 2 dz.length (fE dz)::blk Kb (.cells (Fs d g n5) 52)::blk b1 (.cells (lI d) 29)::blk S (.cells (lI d) 26)::[]))
       case first=>
        as_aux_lemma=>
        have Rc:=adx.out;have hm:((i:Int)+1).tmod (ks.length:Int)=(((i+1)%ks.length:Nat):Int):=by
         rw[Int.tmod_eq_emod_of_nonneg (by omega),Int.natCast_emod,Int.natCast_add]
         rfl
        have hj':(i+1)%ks.length<ks.length:=Nat.mod_lt _ (by omega)
        generalize (i+1)%ks.length=j' at hm hj';have hl0:¬ (ks.length:Int)=0:=by omega
        go_wp2
        go_meet;exact⟨j',rfl,hj',y⟩
       case rest=>
       clear y hi;obtain⟨i',rfl,hi,y⟩:=hcut;apply_assumption
       obtain⟨kw,hkw⟩:∃kw,ks[i']?=some kw:=⟨_,asx hi⟩;have kl:=y.b6.k0;unfold lI at kl;have c0:=(show St D _ (az _ _ _ _ (bO ks)::_)from y.b2).bG (show(bO ks)[i']?=some (.string kw)by simp[bO,hkw])
       have Hs:=ass y;have Hkw:=ass hkw;clear y hkw;go_upto_region 30 with(fail)
       refine bN 5 (by kernel_rfl) (by as_aux_lemma=>kernel_rfl) ?_
       simp only[List.take_succ_cons,List.take_zero,List.drop_succ_cons,List.drop_zero];repeat (go_big_quiet_step (fail))
       refine wpQuiet_nil ?_
       intro w15 Fg;have q:=pd (d:=d) (key:=kw) (level:=((0:Nat):Int)) (Hs.out.same Fg);have O:=ass q;clear q Hs kl c0 Fg;go_wp2_with fail
       refine(O.out).mono ?_
       clear O;rintro e w16 ⟨bf',rfl,y⟩;have HS:Hid (qV D bf' bm bc d ks l0 dz X0 C9 (az (.slice (some ⟨gk,0,none⟩) ks.length ck) 9 1 ks.length (bO ks)::az (.slice (some ⟨gr,0,none⟩) ks.length cr) 23 1 ks.length (aO ((cN 0 ks).map (·.r)))::az (.slice x6 dz.length Rh) 99 2 dz.length (fE dz)::blk Kb (.cells (Fs d g n5) 52)::blk b1 (.cells (lI d) 29)::blk S (.cells (lI d) 26)::[]) j u18 i' Q Qj w16):=ass (qV.reader HA.out Hkw.out y)
       clear y HA Hkw;go_wp2
       go_roundw
       case rel=>exact⟨j,i',bf',k+1,Q,Qj,Tv,rfl,rfl,rfl,by go_num,hi,by omega,by omega,hjl,X,HS⟩
       case measure=>simp[intOf];omega
    ·exfalso
     have:=HQ.out;omega
  case rest=>
  clear I;obtain⟨rfl,rfl,acc,bf,i,Q,hacc,I⟩:=hcut;apply_assumption
  obtain⟨L',t',hG',agG,y⟩:=I.out.over;have HG' := ass hG';have kc:=y.b6.k0;unfold lI at kc;have q:=vg (d:=d) y;have O:=ass q;clear y q I hG';go_wp2_with fail
  refine(O.out).mono ?_
  clear O kc;rintro e w14 ⟨g2,rfl,Bd,hg2,y⟩;obtain⟨K3,hK3⟩:∃K3,K3=D.add g2 (.cells (flat L').toArray 63):=⟨_,rfl⟩;rw[←hK3]at Bd hg2 y;clear hK3;have alB:=ass (Uh.out.trans Bd);obtain⟨_,q1,_,_⟩:=Xk hd.out hch.out HG'.out adx.out hg2;rw[agG]at q1;have Qt:=ass q1;clear q1 hg2 Bd agG;go_wp2_with fail
  refine(Qt.out _ _ y).mono ?_
  clear y Qt;rintro e w15 ⟨vt,rfl,y⟩;obtain⟨at3,ct3,rfl,_,_⟩:=y.aJ;go_wp2
  go_ret;exact⟨rfl,y.below alB.out⟩
end
section
open Go.ChangeShapes Go.WideShapes Go.ChangeAt Go.RowKit
theorem Qo {P:Program}{f:FuncId}{fn:Func}{s:ChangeSpec}{c:OpenClaim}
  (k1:c.wf (OpenSpec.ofChange s)=true) (k2:laidOutB P=true) (S:mapsRowed P=true) (T:fn.params.all (P.readableRec ·)=true) (U:namedTie P c.named s.vars=true) (V:(c.stops == [])=true) (W:(P.stops == [])=true) (X:(c.knobs == [])=true) (Y:(P.stopKnobs == [])=true)
  (a:(c.inPlace == P.inPlace f)=true) (e:(c.unfollowed == P.unfollowed f)=true) (g:(c.recurses == P.recurses f)=true) (h:(c.named == P.varsNamed f)=true)
  (o:(c.maps == (fn.params.toList++s.plain.varTypes P).any (P.mapsRec ·))=true) (p:(c.ifaces == (fn.params.toList++s.plain.varTypes P).any (P.ifacesRec ·))=true) (q:(c.mapsOut == P.mapsAmong fn.resultTypes.toList)=true)
  (u:(c.loops == (fn.params.toList++s.plain.varTypes P).any (P.loopsFrom ·))=true) (v:(c.wideKeys == (fn.params.toList++s.plain.varTypes P++fn.resultTypes.toList).any (P.wideKeysFrom ·))=true)
  (x:s.vars.all (P.varReadable ·)=true) (y:fn.resultTypes.all (fun t=>P.readableRec t && decide (t<P.types.size))=true) (z:(c.ifacesOut == fn.resultTypes.toList.any (P.ifacesRec ·))=true) (A:(c.loopsOut == fn.resultTypes.toList.any (P.loopsFrom ·))=true) (B:(c.plainKeys == P.plainKeys)=true)
  (D:c.shortTexts.isNone=true) (E:P.stopsHeard=true) (G:P.mayEnter=true) (H:(c.lifted == P.liftsFinal)=true) (I:(P.make == some c.make)=true)
  (J:(c.kinds == (if c.domain.isEmpty then []else fn.params.toList.map fun t=>match P.underlying t with|some (.int k)=>some k|_=>none))=true) (M:(c.pinned == c.pinnedBy)=true)
  (O:(c.veiled == (fn.params.toList++s.plain.varTypes P++fn.resultTypes.toList).any (P.veiledRec ·))=true) (R:c.veiledFits P fn.params.toList (fn.params.toList++s.plain.varTypes P++fn.resultTypes.toList)=true):joinedFacts P f fn s c=true:=by
 unfold joinedFacts;simp only[Bool.and_eq_true];exact⟨⟨⟨⟨⟨⟨⟨⟨⟨⟨⟨⟨⟨⟨⟨⟨⟨⟨⟨⟨⟨⟨⟨⟨⟨⟨⟨⟨⟨⟨⟨k1,k2⟩,S⟩,T⟩,U⟩,V⟩,W⟩,X⟩,Y⟩,a⟩,e⟩,g⟩,h⟩,o⟩,p⟩,q⟩,u⟩,v⟩,x⟩,y⟩,z⟩,A⟩,B⟩,D⟩,E⟩,G⟩,H⟩,I⟩,J⟩,M⟩,O⟩,R⟩
theorem vL:mapsRowed Tryz.prog=true:=by kernel_rfl
theorem Kc:(Tryz.prog.stops == [])=true:=by kernel_rfl
theorem vM:(Tryz.prog.stopKnobs == [])=true:=by kernel_rfl
theorem tu:Tryz.prog.stopsHeard=true:=by kernel_rfl
theorem wT:Tryz.prog.mayEnter=true:=by kernel_rfl
theorem tz:Tryz.prog.liftsFinal=false:=by kernel_rfl
end
end Go.Proofs.YtlpdhhhgckpcfaaGreat
