/- Post in a tree (pure): what it keep. -/
import Derived.Test.YtlpdhhhgckpcfaaGreatLockC
namespace Go.Proofs.YtlpdhhhgckpcfaaGreat
set_option linter.unusedSimpArgs false
set_option linter.unusedVariables false
open Go.RowKit
set_option maxRecDepth 100000
section
section
variable {d:aU}{L L':List aQ}{t t':List (List Nd)}
theorem dP.frame (b:d.Ok)(a:dP d L t)(c:∀(k:Nat)(l:List Nd),t[k]?=some l->∀nd,nd∈l->∀j:Int,0<=j->j<d.fa+4->ah L' (d.node nd.id j)=ah L (d.node nd.id j))(h0:(ah L' 0).n=(ah L 0).n)(e:(ah L 4).n<=(ah L' 4).n/\(ah L' 4).n<=d.no) :
  dP d L' t/\vB d L t L' t/\∀(k:Nat) (l:List Nd),t[k]?=some l->∀nd,nd∈l->ah L' (d.node nd.id 0)=ah L (d.node nd.id 0):=by
 have f1:=b.fy;have g:=a.n4;have hw:∀(k:Nat) (l:List Nd),t[k]?=some l->∀nd,nd∈l->ah L' (d.node nd.id 0)=ah L (d.node nd.id 0):=fun k l hk nd hm=>c k l hk nd hm 0 (by omega) (by omega)
 refine⟨⟨a.sh.mono e.1,e.2,?_,fun k l hk nd hm hc=>?_,fun k l hk nd hm he=>?_⟩,fun k l hk nd hm=>⟨l,nd,hk,hm,rfl,rfl,by rw[hw k l hk nd hm];exact kB.refl _ _⟩,hw⟩
 ·rw[h0];exact a.root
 ·have f:=(a.sh.nodes k l hk nd hm).1
  exact(a.node k l hk nd hm (by rw[←hw k l hk nd hm];exact hc)).frame b f.1 (by omega) (c k l hk nd hm)
 ·rw[hw k l hk nd hm]at he ⊢
  exact a.wd k l hk nd hm he
end
structure zR where
 L0:List aQ
 l0:List Nd
 R:Int->Prop
 ch0:Int
 B:Nat
 room:Bool
 T0:Nat
 lim:Int
structure zS (d:aU)(P:zR)(L:List aQ)(t:List (List Nd)):Prop where
 iq:bL L
 fq:(L.length:Int)=d.cells
 tree:dP d L t
 sz:SzT t
 r0:t[0]?=some P.l0
 rest:∀j:Int,j≠0->j≠4->j≠7->(j<d.A\/d.B<=j)->ah L j=ah P.L0 j
 b2:2<=P.B
 noR:P.room=false->d.no<=(ah L 4).n/\t.length=P.T0
 lim:P.lim<=d.no/\(P.room=true->(ah L 4).n<=P.lim)
def eC (s:dS):Bool:=decide (2<=s.f.aA) || s.pc == 3 || s.pc == 4 || (s.pc == 2 && !s.ins.full) || (s.pc == 14 && s.f.po)
def aaX (s:dS)(id:Int):Prop:=match s.pc with
 | 0=>jJ s.lk=true/\id=s.lk.id
 | 1=>id=s.fr.id
 | 2=>id=s.fr.id\/(s.ins.sp=true/\s.ins.full=false/\id=s.ins.id)
 | 3=>id=s.ins.id
 | 4=>id=s.fr.id
 | _=>False
def wP (L:List aQ)(w:Int):Prop:=ah L 7=⟨w,⟨#[]⟩,0⟩/\w%4=1/\0<=w/\w<18446744073709551616
def qR (d:aU)(L:List aQ)(t:List (List Nd))(n:Nat)(id w:Int)(low:ByteArray):Prop:=∃l nd,t[n]?=some l/\nd∈l/\nd.id=id/\nd.low=low/\sN d L id w
def Room (d:aU)(P:zR)(L:List aQ)(x:Nat):Prop:=P.room=true->(ah L 4).n+x<=P.lim
def zC (P:zR)(t:List (List Nd))(x:Nat):Prop:=∀l,t[t.length-1]?=some l->l.length+x<=P.B
def afJ (d:aU)(P:zR)(L:List aQ)(t:List (List Nd))(n:Nat)(s:dS)(m:Nat):Prop:=match s.pc with
 | 0=>Room d P L (cL t n)/\zC P t (if n<t.length then 1 else 0)/\s.lk.pc≠4/\((n<t.length/\∃m0,vD d L t s.f.sep n n s.lk m0/\m0+wI d+(if (t[n]?.map small).getD false then 0 else cU d P.B (t.drop (n+1)))<=m) \/
   (t.length=n/\∃m0,vD d L t s.f.sep n (n-1) s.lk m0/\m0+gI d<=m))
 | 1=>∃i l nd,oW t n i l nd s.fr s.fu/\kF d s.fr s.fu/\jd d L s.fr s.fu s.ins/\qP t s.ins/\s.ins.pc<=2/\s.ins.full=false/\((s.ins.pc<=1\/s.ins.sp=true)->d.fa<(s.fu.sl.length:Int)) /\
   (P.room=true->s.ins.pc=0->s.ins.tk.pc=1->s.ins.tk.seen=(ah L 4).n)/\(P.room=false->(s.ins.pc=0/\s.ins.tk.pc=0)\/(s.ins.pc=2/\s.ins.sp=false)) /\
   Room d P L (if s.ins.pc=0 then cL t n else if s.ins.pc=1\/s.ins.sp=true then cL t (n+1)else 0)/\zC P t 1/\s.fr.word+4*m+4<=9223372036854775809/\kC s.fu s.ins+5+(if d.fa<(s.fu.sl.length:Int)then cU d P.B (t.drop (n+1))else 0)<=m
 | 2=>(∃low,qR d L t n s.fr.id s.left.word low)/\(s.ins.full=true->P.room=false)/\(s.ins.full=false->s.ins.sp=true->qR d L t n s.ins.id (aT 0) (bM s.fu)/\s.ins.id≠s.fr.id/\1<=s.ins.id/\(bM s.fu).size<=32/\s.fu.sl.length<=1000/\Room d P L (cL t (n+1))/\zC P t (if n+1<t.length then 1 else 0)/\P.room=true/\cU d P.B (t.drop (n+1))+2<=m)/\(s.ins.full=true->s.ins.sp=false)/\1<=m
 | 3=>qR d L t n s.ins.id (aT 0) (bM s.fu)/\s.ins.full=false/\s.ins.sp=true/\1<=s.ins.id/\(bM s.fu).size<=32/\s.fu.sl.length<=1000/\Room d P L (cL t (n+1))/\zC P t (if n+1<t.length then 1 else 0)/\P.room=true/\cU d P.B (t.drop (n+1))+1<=m
 | 4=>(∃low,qR d L t n s.fr.id s.fr.word low)/\mD t n s.f.ch/\1<=m
 | 5=>t.length=n/\Room d P L 1/\s.aq.pc<=1/\(s.aq.pc=1->s.aq.word=(ah L 7).n+1)/\0<=s.aq.word/\s.aq.word<18446744073709551616/\gI d<=m+s.aq.pc
 | 6=>t.length=n/\Room d P L 1/\s.aq.pc=2/\wP L s.aq.word/\gI d<=m+2
 | 7=>t.length=n/\Room d P L 1/\s.aq.pc=2/\wP L s.aq.word/\(∃nd l,t[t.length-1]?=some (nd::l)/\s.root=nd.id)/\gI d<=m+3
 | 8=>n+1=t.length/\(t[n]?.map small).getD false=true/\oA t n=1/\P.room=true/\wP L s.word/\wC d 1+1<=m
 | 9=>t.length=n/\Room d P L 1/\wP L s.word/\(∃nd l,t[t.length-1]?=some (nd::l)/\s.root=nd.id)/\s.tk.ok=false/\(s.tk.pc=0\/(P.room=true/\s.tk.pc=1/\s.tk.seen=(ah L 4).n))/\gI d<=m+4+s.tk.pc
 | 10=>t.length=n/\P.room=true/\wP L s.word/\(∃nd l,t[t.length-1]?=some (nd::l)/\s.root=nd.id)/\wO t s.id/\1<=s.id/\s.id<=(ah L 4).n/\s.k<5/\(∀q,q∈(s.ps d).take s.k->ah L q.i=q.c)/\gI d<=m+6+s.k
 | 11=>t.length=n/\P.room=true/\wP L s.word/\(∃nd l,t[t.length-1]?=some (nd::l)/\s.root=nd.id)/\wO t s.id/\1<=s.id/\s.id<=(ah L 4).n/\Ej d L s.id (fH s.f.aA s.root)/\gI d<=m+11
 | 12=>t.length=n/\P.room=true/\wP L s.word/\(∃nd l,t[t.length-1]?=some (nd::l)/\s.root=nd.id)/\wO t s.id/\1<=s.id/\s.id<=(ah L 4).n/\Holds L (bQ d s.id (fH s.f.aA s.root))/\ah L (d.node s.id 0)=⟨0,⟨#[]⟩,0⟩/\gI d<=m+12
 | 13=>P.room=false/\wP L s.word/\1<=m
 | 14=>P.room=true->s.f.po=true
 | _=>False
structure iX (d:aU)(P:zR)(L:List aQ)(t:List (List Nd))(n:Nat)(s:dS)(m:Nat):Prop where
 base:zS d P L t
 n1:1<=n
 aA:s.f.aA=n
 task:s.pc<=1\/(5<=s.pc/\s.pc<=12)->∃l c,t[n-1]?=some l/\c∈l/\c.id=s.f.ch/\c.low=s.f.sep
 ch:n=1->s.f.ch=P.ch0
 ref:∀c,c∈P.l0.drop 1->(mD t 1 c.id↔P.R c.id\/(eC s=true/\c.id=P.ch0))
 free:∀(k:Nat) (l:List Nd),t[k]?=some l->∀nd,nd∈l->¬ aaX s nd.id->(ah L (d.node nd.id 0)).n%4=0
 c7:¬ (6<=s.pc/\s.pc<=13)\/s.pc=5->(ah L 7).n%4=0
 vE:P.room=false->n=1
 wd:∀(k:Nat) (l:List Nd),t[k]?=some l->∀nd,nd∈l->(ah L (d.node nd.id 0)).n+4*m<=9223372036854775808
 st:afJ d P L t n s m
section
variable {d:aU}{P:zR}{L L':List aQ}{t t':List (List Nd)}{n m:Nat}{s s':dS}
theorem zS.next (h:zS d P L t)(f:bL L')(g:(L'.length:Int)=d.cells)(i:dP d L' t')(k:SzT t')(l:t'[0]?=t[0]?)(o:∀j:Int,j≠0->j≠4->j≠7->(j<d.A\/d.B<=j)->ah L' j=ah L j)(p:P.room=false->(ah L' 4).n=(ah L 4).n/\t'.length=t.length)(q:P.room=true->(ah L' 4).n<=P.lim):zS d P L' t' :=
 ⟨f,g,i,k,by rw[l];exact h.r0,fun j a b c e=>(o j a b c e).trans (h.rest j a b c e),h.b2,fun e=>by
  obtain⟨r,u⟩:=p e;rw[r,u];exact h.noR e,⟨h.lim.1,q⟩⟩
theorem nZ (c:d.Ok){id j:Int}(f:1<=id)(e:id<=d.no)(a:0<=j)(b:j<d.fa+4):d.A<=d.node id j/\d.node id j<d.B:=by
 have n0:=(bZ c f e a b).1;have f1:=c.fy;have g:0<=(id-1)*(d.fa+4):=Int.mul_nonneg (by omega) (by omega)
 have h:(id-1)*(d.fa+4)+(d.fa+4)=id*(d.fa+4):=by rw[Int.sub_mul];omega
 have i:id*(d.fa+4)<=d.no*(d.fa+4):=Int.mul_le_mul_of_nonneg_right e (by omega)
 have:d.B=d.A+d.no*(d.fa+4):=rfl;omega
theorem dP.wM (a:dP d L t):(t.length:Int)<=d.no:=by
 have b:=qK t (fun l hl=>by
  obtain⟨k,hk⟩:=ast hl;exact(a.sh.rows k l hk).ne)
 have:=a.sh.count;have:=a.n4;omega
theorem iX.nt (h:iX d P L t n s m)(hp:s.pc<=1\/(5<=s.pc/\s.pc<=12)):n<=t.length:=by
 obtain⟨l,c,hl,_⟩:=h.task hp;have:=(asu.1 hl).1;have:=h.n1;omega
theorem iX.fu (B:d.Ok)(h:iX d P L t n s m)(hp:s.pc<=1\/(5<=s.pc/\s.pc<=12)){L1:List aQ}(j:dP d L1 t){i:Nat}{l:List Nd}{nd:Nd}(b:Jn t s.f.sep n l i nd)(r:rC s.f.sep nd.pg=true)(C:¬ fR nd.pg.sl s.f.sep<iN nd.pg.sl s.f.sep){word:Int}(hok:cC.Ok d ⟨nd.id,word,nd.pg⟩) :
  oW t n i l nd ⟨nd.id,word,nd.pg⟩ (aI nd.pg s.f.sep s.f.ch)/\lB d ⟨nd.id,word,nd.pg⟩ (aI nd.pg s.f.sep s.f.ch):=by
 have D:=h.n1;obtain⟨l0,c,a,hc,E,e2⟩:=h.task hp;have F:=(j.sh.nodes _ l0 a c hc).1;have G:=j.n4;have H:=B.m6;obtain⟨k,rfl⟩:∃k,n=k+1:=⟨n-1,by omega⟩
 rw[Nat.add_sub_cancel]at a;have g:=asw b.hi;have o:=(j.sh.nodes _ l b.hl nd g).2;have u:=(h.base.sz.keys j.sh b.hl g);have p:∀x,x∈nd.pg.sl->x.k≠s.f.sep:=by
  rcases qz (key:=s.f.sep) o.jP with e|⟨e,_⟩
  ·intro x v e3
   obtain⟨q,w⟩:=ast v;have y:=jM o.jP (key:=s.f.sep) w;have z:=jN o.jP (key:=s.f.sep) w;rw[e3]at y z;simp only[cS,Bool.false_eq_true,false_iff,true_iff]at y z;omega
  ·omega
 have I:=h.base.sz _ l0 a c hc;refine⟨⟨b.hl,b.hi,rfl,rfl,⟨rfl,rfl,rfl,rfl,aaf o b.low r p (by omega),fun m l1 hm A=>?_⟩⟩,lB.ins hok.pg (fun x v=>Nat.le_trans (u.1 x v).1 (by decide)) (by rw[←e2];omega) (by omega)⟩
 obtain rfl:m=k:=by omega
 rw[a]at A;obtain rfl:=asy A;exact Vg o (j.sh.down _ _ _ a b.hl nd g) b.low p ⟨c,hc,E,e2⟩
theorem iX.there (h:iX d P L t n s m)(hp:s.pc<=1\/(5<=s.pc/\s.pc<=12)){L1:List aQ}(o:dP d L1 t){i:Nat}{l:List Nd}{nd:Nd}(r:Jn t s.f.sep n l i nd)(z:fR nd.pg.sl s.f.sep<iN nd.pg.sl s.f.sep):mD t n s.f.ch:=by
 have A:=h.n1;obtain⟨l0,c,a,hc,B,e2⟩:=h.task hp;obtain⟨k,rfl⟩:∃k,n=k+1:=⟨n-1,by omega⟩
 rw[Nat.add_sub_cancel]at a;have b:=asw r.hi;have C:=(o.sh.nodes _ l r.hl nd b).2;rcases qz (key:=s.f.sep) C.jP with e|⟨_,x,D,hk⟩
 ·omega
 ·have j:=asw D
  obtain⟨c',v,e3,e4⟩:=(o.sh.down _ _ _ a r.hl nd b).2 x j;obtain⟨p,g⟩:=ast hc;obtain⟨q,u⟩:=ast v;have y:c.low=c'.low:=by rw[e2,e4,hk]
  have w:p=q:=by
   rcases Nat.lt_trichotomy p q with h|h|h
   ·have:=(o.sh.rows _ l0 a).nQ q p c c' g u h
    rw[y,cS]at this;cases this
   ·exact h
   ·have:=(o.sh.rows _ l0 a).nQ p q c' c u g h
    rw[y,cS]at this;cases this
  subst w;rw[g]at u;obtain rfl:=asy u;exact⟨l,nd,x,r.hl,b,j,by rw[←e3,B]⟩
theorem vD.afK {key:ByteArray}{level lo:Nat}{s:xI}{m:Nat}(h:vD d L t key level lo s m):s.pc<=4:=by
 by_cases a:s.pc<=4
 ·exact a
 ·obtain⟨pc,fd,id,aq,ow,b⟩:=s
  obtain⟨n,rfl⟩:∃n,pc=n+5:=⟨pc-5,by simp only at a;omega⟩
  exact h.elim
theorem vD.begin {key:ByteArray}{level lo:Nat}{m:Nat}(h:∃l nd,t[lo]?=some l/\nd∈l)(hm:oA t lo*bj d+1+kW d<=m):vD d L t key level lo nK m:=
 ⟨rfl,by show(0:Nat)≠2;decide,_,vC.start h,hm⟩
end
def Jp (d:aU)(t t':List (List Nd))(n n':Nat)(s s':dS):Prop:=
 (t'=t/\(s.pc≠3->n'=n)/\(s.pc=3->n'=n+1)/\(s.pc=1->s'.pc=1\/s'.ins.full=true)) \/
 (s.pc=1/\s'.pc=2/\n'=n/\s'.ins.sp=s.ins.sp/\s'.ins.full=false/\∃i l nd,oW t n i l nd s.fr s.fu/\t'=eM t n i l nd s.fu s'.ins.id s.ins.sp/\(s.ins.sp=true->wO t s'.ins.id/\d.fa<(s.fu.sl.length:Int))/\(nd.pg.sl.length:Int)<=d.fa) \/
 (s.pc=12/\n'=n/\∃nd l r,t[t.length-1]?=some (nd::l)/\t'=t++[[r]]/\r.pg=⟨t.length,[⟨⟨#[]⟩,nd.id⟩],⟨#[]⟩,true,0⟩/\wO t r.id)
def rL (d:aU)(P:zR)(L:List aQ)(t:List (List Nd))(n:Nat)(s:dS)(m:Nat):Prop:=
 dS.Ok d L s/\∀s',jm d L s s' -> ∃t' n' m',iX d P (eQ d L s) t' n' s' m' /\ m' + 1=m/\vB d L t (eQ d L s) t' /\ Jp d t t' n n' s s'
section
variable {d:aU}{P:zR}{L L':List aQ}{t t':List (List Nd)}{n m:Nat}{s s':dS}
theorem Vv (a:d.Ok)(id:Int):d.node id 0= -1\/(d.A<=d.node id 0/\d.node id 0<d.B):=by
 by_cases h:1<=id/\id<=d.no
 ·exact .inr (nZ a h.1 h.2 (by omega) (by have:=a.fy;omega))
 ·left;unfold aU.node;rw[if_neg h]
theorem aao (h:t.length=n):cL t n=1:=by
 unfold cL;rw[List.getElem?_eq_none (by omega)]
 simp;omega
theorem aap {key:ByteArray}{level:Nat}{x p:xI}{L1:List aQ}(i:d.Ok)(hlen:(L.length:Int)=d.cells)(j:dP d L t)(he:Em d L t level x p L1)(q:∀(k:Nat)(l:List Nd),t[k]?=some l->∀nd,nd∈l->¬ (jJ x=true/\nd.id=x.id)->(ah L (d.node nd.id 0)).n%4=0) :
  ∀(k:Nat) (l:List Nd),t[k]?=some l->∀nd,nd∈l->¬ (jJ p=true/\nd.id=p.id)->(ah L1 (d.node nd.id 0)).n%4=0:=by
 intro k l hk nd hm g;have y:=j.n4;have f1:=i.fy;have v:=(j.sh.nodes k l hk nd hm).1;rcases he with⟨rfl,o,e2⟩|⟨o,e2,e3,⟨l',c,f,hc,hid⟩,w,rfl⟩|⟨o,e2,⟨l',c,f,hc,hid⟩,w,rfl⟩
 ·exact q k l hk nd hm (fun⟨a,b⟩=>g ⟨by rw[o];exact a,by rw[e2 a];exact b⟩)
 ·have r:nd.id≠x.id:=fun e=>g ⟨e2,by rw[e3];exact e⟩
  have u:=(j.sh.nodes _ l' f c hc).1;rw[bu (cO i v.1 (by omega) (by omega) (by omega) (by omega) (by omega) (by omega) (by omega) r)]
  exact q k l hk nd hm (fun⟨a,_⟩=>by rw[o]at a;cases a)
 ·have u:=(j.sh.nodes _ l' f c hc).1
  by_cases e:nd.id=x.id
  ·have h:=bZ i (id:=x.id) (by omega) (by omega) (k:=0) (by omega) (by omega)
   rw[e,cD h.2.1 (by omega)]
   show((ah L (d.node x.id 0)).n-1)%4=0
   omega
  ·rw[bu (cO i v.1 (by omega) (by omega) (by omega) (by omega) (by omega) (by omega) (by omega) e)]
   exact q k l hk nd hm (fun⟨_,b⟩=>e b)
theorem aaY {level:Nat}{x j:xI}{L1:List aQ}(b:d.Ok)(hlen:(L.length:Int)=d.cells)(f:dP d L t)(he:Em d L t level x j L1) :
  ∀(k:Nat) (l:List Nd),t[k]?=some l->∀nd,nd∈l->(ah L1 (d.node nd.id 0)).n<=(ah L (d.node nd.id 0)).n+1:=by
 intro k l hk nd hm;have u:=f.n4;have f1:=b.fy;have o:=(f.sh.nodes k l hk nd hm).1;have key:∀(v:Int),v<=(ah L (d.node x.id 0)).n+1->(∃l' c,t[level]?=some l' /\ c∈l' /\ c.id=x.id)->(ah (aR L (d.node x.id 0) ⟨v,⟨#[]⟩,0⟩) (d.node nd.id 0)).n<=(ah L (d.node nd.id 0)).n+1:=by
  rintro v p ⟨l',c,g,hc,hid⟩;have q:=(f.sh.nodes _ l' g c hc).1;by_cases e:nd.id=x.id
  ·have a:=bZ b (id:=x.id) (by omega) (by omega) (k:=0) (by omega) (by omega)
   rw[e,cD a.2.1 (by omega)]
   exact p
  ·rw[bu (cO b o.1 (by omega) (by omega) (by omega) (by omega) (by omega) (by omega) (by omega) e)]
   omega
 rcases he with⟨rfl,i,e2⟩|⟨i,e2,e3,h,r,rfl⟩|⟨i,e2,h,r,rfl⟩
 ·omega
 ·exact key _ (by omega) h
 ·exact key _ (by omega) h
theorem Pb (c:d.Ok){fr:cC}{fu:Pg}{ins:gh}{nd:Nd}{i:Nat}{l:List Nd}(H:oW t n i l nd fr fu)(K:kF d fr fu)(hold:pO d L fr)(hlen:(L.length:Int)=d.cells)(f:nM d fr fu ins) :
  jd d L fr fu ins/\qP t ins/\ins.pc<=2/\ins.full=false/\((ins.pc<=1\/ins.sp=true)->d.fa<(fu.sl.length:Int))/\((ins.pc=0/\ins.tk.pc=0)\/(ins.pc=2/\ins.sp=false))/\kC fu ins<=2*(d.fa.toNat+6)+2:=by
 have hl:=K.Vq.len;have f1:=c.fy;rcases f with⟨b,b1,b2,b3,b4,b5⟩|⟨a,rfl⟩
 ·obtain⟨pc,tk,k,ps,sp,id,full⟩:=ins
  simp only at b1 b2 b3 b4 b5;subst b1 b2 b3 b4;have g:=b5.len;refine⟨⟨rfl,fun _=>b,b5,by show 0<ps.length;omega,fun e=>(by cases e),_,hlen,hold,fun j _ _=>rfl⟩,fun e=>?_,Nat.le_refl 2,rfl,fun e=>?_,.inr ⟨rfl,rfl⟩,?_⟩
  ·rcases e with e|⟨_,e⟩ <;> cases e
  ·rcases e with e|e
   ·simp at e
   ·cases e
  ·show ps.length-0<=_
   omega
 ·refine⟨⟨rfl,rfl,a,.inl ⟨rfl,rfl⟩,hold⟩,fun e=>?_,Nat.zero_le 2,rfl,fun _=>a,.inl ⟨rfl,rfl⟩,?_⟩
  ·rcases e with e|⟨e,_⟩ <;> cases e
  ·show(fu.sl.length+5)+(fu.sl.length+5)+(2-0)<=_
   omega
theorem iX.step0 (C:d.Ok)(tj:d.no<=900)(h:iX d P L t n s m)(h0:s.pc=0):rL d P L t n s m:=by
 have p:=h.base;have hnt:=h.nt (.inl (by omega))
 have I:=h.n1;have cj:=h.aA;have kI:=h.task (.inl (by omega))
 have x:=h.ch;have X:=h.ref;have S:=h.free;have tq:=h.c7 (.inl (by omega))
 have iY:=h.vE;have hwd:=h.wd;have D:=h.st;have jS:=fun L1 i l nd word a b c e=>iX.fu (L1:=L1) (i:=i) (l:=l) (nd:=nd) (word:=word) C h (.inl (by omega)) a b c e
 have Vw:=fun L1 i l nd=>iX.there (L1:=L1) (i:=i) (l:=l) (nd:=nd) h (.inl (by omega))
 obtain⟨pc,f,lk,fr,ins,aq,root,word,tk,id,k⟩:=s;simp only at h0;subst h0;obtain⟨aA,sep,ch,po⟩:=f;simp only at cj kI x;subst cj;obtain⟨v,ei,hk4,D⟩:=D;simp only at hk4 D jS Vw;have hcm:∃lo J,vD d L t sep n lo lk J/\lo<=n/\((n<t.length/\lo=n/\J+wI d+(if (t[n]?.map small).getD false then 0 else cU d P.B (t.drop (n+1)))<=m)\/(t.length=n/\lo=n-1/\J+gI d<=m)):=by
  rcases D with⟨a,J,b,c⟩|⟨a,J,b,c⟩
  ·exact⟨n,J,b,Nat.le_refl _,.inl ⟨a,rfl,c⟩⟩
  ·exact⟨n-1,J,b,by omega,.inr ⟨a,rfl,c⟩⟩
 clear D;obtain⟨lo,J,T,hlo,halt⟩:=hcm;have rM:∀(k:Nat) (l:List Nd),t[k]?=some l->∀nd,nd∈l->¬ (jJ lk=true/\nd.id=lk.id)->(ah L (d.node nd.id 0)).n%4=0:=S;obtain⟨hok,hh,Pc,Y,M,hm1,hm2⟩:=T.step C p.iq p.fq p.tree hk4 hlo;have hm3:Y + 1<=J:=by
  refine hm2 (fun hp hf=>?_) (fun hp o=>?_)
  ·have hQ:Quiet d L t:=fun k l hk nd Z=>by
    have:=rM k l hk nd Z (fun⟨a,_⟩=>by
     obtain⟨pc,fd,id,aq,ow,hh⟩:=lk;simp only at hp;subst hp;cases a)
    unfold cg;exact decide_eq_false (by omega)
   obtain⟨pc,fd,id,aq,ow,hh⟩:=lk;simp only at hp hf;subst hp;obtain⟨_,_,m1,Qz,_⟩:=T;exact Qz.still hQ hf
  ·obtain⟨pc,fd,id,aq,ow,hh⟩:=lk
   simp only at hp o;subst hp;obtain⟨_,l,i,nd,q,hat,hid,_⟩:=T;simp only at hid ⊢;rw[hid];have:=rM n l hat.hl nd (asw hat.hi) (fun⟨a,_⟩=>by cases a)
   omega
 obtain⟨t1,t2,t3,t4,t5,t6⟩:=Pc.tree C p.iq p.fq p.tree;have zD:=aap (key:=sep) C p.fq p.tree Pc rM;have aku:=M.afK;have gV:∀j:Int,0<=j->(j<d.A\/d.B<=j)->ah (aN d sep (n:Nat) L lk).2 j=ah L j:=fun j a b=>t6 j (by
  rcases Vv C lk.id with e|e <;> omega)
 have hA:=C.eN;have h7:=gV 7 (by omega) (by omega)
 have E:=gV 4 (by omega) (by omega)
 have hrj:∀j:Int,(j<d.A\/d.B<=j)->ah (aN d sep (n:Nat) L lk).2 j=ah L j:=fun j b=>by
  rcases Int.lt_or_le j 0 with hj|hj
  ·rw[ql hj,ql hj]
  ·exact gV j hj b
 have r:zS d P (aN d sep (n:Nat) L lk).2 t:=p.next t3 t4 t1 p.sz rfl (fun j _ _ _ e=>hrj j e) (fun _=>⟨by rw[E],rfl⟩) (fun e=>by rw[E];exact p.lim.2 e)
 have xV:=p.tree.wM;have y:(aN d sep (n:Nat) L lk).1.pc=4->((aN d sep (n:Nat) L lk).1.h=oq/\t.length=n)\/∃l i nd word,Jn t sep n l i nd/\(aN d sep (n:Nat) L lk).1.h=⟨nd.id,word,nd.pg⟩/\sN d (aN d sep (n:Nat) L lk).2 nd.id word/\rC sep nd.pg=true/\1<=nd.id/\cC.Ok d ⟨nd.id,word,nd.pg⟩/\kY nd.pg.sl/\(aN d sep (n:Nat) L lk).1.id=nd.id/\jJ (aN d sep (n:Nat) L lk).1=true:=by
  intro h4;generalize aN d sep (n:Nat) L lk=st at *;obtain⟨⟨Lk,fd',id',aq',ow',hh'⟩,L1⟩:=st;simp only at h4;subst h4;rcases M with⟨l,i,nd,o,hid,⟨word,hw,g⟩,z,hnz⟩|⟨hw,apQ⟩
  ·have u:=asw o.hi
   have hnb:=(p.tree.sh.nodes _ l o.hl nd u);obtain⟨k,rfl⟩:∃k,n=k+1:=⟨n-1,by omega⟩
   refine .inr ⟨l,i,nd,word,o,hw,g,z,hnb.1.1,t1.hok C p.sz o.hl u g.zK g.bd,hnb.2.jP,hid,?_⟩;simp only at hw;subst hw;show(4 == 2 || 4 == 3 || (4 == 4 && nd.id != 0))=true
   simp[hnz]
  ·rcases halt with⟨_,e,_⟩|⟨e,_⟩
   ·omega
   ·exact .inl ⟨hw,e⟩
 clear hm2 hm1;have Vx:∀(k:Nat) (l:List Nd),t[k]?=some l->∀nd,nd∈l->(ah (aN d sep (n:Nat) L lk).2 (d.node nd.id 0)).n+4*(m-1:Nat)<=9223372036854775808:=fun k l hk nd hm=>by
  have h1:=aaY C p.fq p.tree Pc k l hk nd hm;have h2:=hwd k l hk nd hm;have h3:1<=m:=by rcases halt with⟨_,_,e⟩|⟨_,_,e⟩ <;> omega
  omega
 have apR:13<=m:=by
  have h1:12<=wI d:=by unfold wI;omega
  have h2:20<=gI d:=by unfold gI;omega
  rcases halt with⟨_,_,e⟩|⟨_,_,e⟩ <;> omega
 have afL:=Pc;clear Pc;constructor
 ·refine⟨Nat.zero_le _,⟨by show(0:Int)<=n;omega,by show(n:Int)<1000;omega⟩,fun _=>⟨hok,hh,aku,fun h4=>?_⟩,fun h=>by simp at h,fun h=>by simp at h,fun h=>by simp at h,fun h=>by simp at h,fun h=>by simp at h,fun h=>by simp at h,fun h=>by simp at h,fun h=>by simp at h,fun h=>by simp at h⟩
  simp only at h4 ⊢;rcases y h4 with⟨e,_⟩|⟨l,i,nd,word,o,e,g,z,ju,Q,dL,_⟩
  ·rw[e]
   exact⟨Nat.zero_le _,fun h=>absurd rfl h⟩
  ·rw[e]
   have hle:=Q.pg.le;have f2:=C.m7;refine⟨by simp only at hle ⊢;omega,fun _=>⟨Q,dL,fun F=>(jS _ i l nd word t1 o z F Q).2⟩⟩
 ·intro s' Z
  show ∃t' n' Y,iX d P (aN d sep (n:Nat) L lk).2 t' n' s' Y /\ Y + 1=m/\vB d L t (aN d sep (n:Nat) L lk).2 t' /\ Jp d t t' n n' _ s'
  rcases Z with⟨c1,rfl⟩|⟨c1,Z⟩
  ·simp only at c1
   refine⟨t,n,m-1,⟨r,I,rfl,fun _=>kI,x,X,zD,fun _=>by rw[h7];exact tq,iY,Vx,⟨fun e=>by rw[E];exact v e,ei,c1,?_⟩⟩,?_,t2,.inl ⟨rfl,fun _=>rfl,fun h=>by simp at h,fun h=>by simp at h⟩⟩
   ·rcases halt with⟨a,rfl,c⟩|⟨a,rfl,c⟩
    ·exact .inl ⟨a,Y,M,by omega⟩
    ·exact .inr ⟨a,Y,M,by omega⟩
   ·omega
  ·simp only at c1 Z
   have y:=y c1;have hown:jJ (aN d sep (n:Nat) L lk).1=true->(aN d sep (n:Nat) L lk).1.h.id≠0:=fun e=>by
    unfold jJ at e;rw[c1]at e;simpa using e
   rcases Z with⟨N,rfl⟩|⟨N,c3,rfl⟩|⟨N,c3,R,hb,rfl⟩
   ·rcases y with⟨e,hT⟩|⟨l,i,nd,word,o,e,_,_,ju,_⟩
    ·refine⟨t,n,m-1,⟨r,I,rfl,fun _=>kI,x,X,fun k l hk nd hm _=>zD k l hk nd hm (fun hc=>hown hc.1 N),fun _=>by rw[h7];exact tq,iY,Vx,⟨hT,fun er=>?_,Nat.zero_le _,fun e=>absurd e (by show ¬ (0:Nat)=1;decide),by show(0:Int)<=0;decide,by show(0:Int)<_;decide,?_⟩⟩,by omega,t2,.inl ⟨rfl,fun _=>rfl,fun h=>by simp at h,fun h=>by simp at h⟩⟩
     ·have:=v er
      rw[aao hT]at this;rw[E];exact this
     ·show gI d<=m-1+0
      rcases halt with⟨a,_,_⟩|⟨_,_,e⟩ <;> omega
    ·rw[e]at N
     simp only at N;omega
   ·rcases y with⟨e,hT⟩|⟨l,i,nd,word,o,e,g,z,ju,Q,dL,U,_⟩
    ·rw[e]at N;exact absurd rfl N
    ·have u:=asw o.hi
     rw[e]at c3;have afM:=Vw _ i l nd t1 o c3;refine⟨t,n,m-1,⟨r,I,rfl,fun hp=>by simp at hp,x,fun c hc=>?_,fun k l' hk jD hm F=>zD k l' hk jD hm (fun V=>F ?_),fun _=>by rw[h7];exact tq,iY,Vx,⟨⟨nd.low,l,nd,o.hl,u,by rw[e],rfl,by rw[e];exact g⟩,afM,by omega⟩⟩,by omega,t2,.inl ⟨rfl,fun _=>rfl,fun h=>by simp at h,fun h=>by simp at h⟩⟩
     ·constructor
      ·intro G
       rcases(X c hc).1 G with G|⟨_,G⟩
       ·exact .inl G
       ·exact .inr ⟨by simp[eC],G⟩
      ·rintro (G|⟨_,G⟩)
       ·exact(X c hc).2 (.inl G)
       ·by_cases h2:2<=n
        ·exact(X c hc).2 (.inr ⟨by unfold eC;rw[decide_eq_true (by show(2:Int)<=(n:Nat);omega)];rfl,G⟩)
        ·obtain rfl:n=1:=by omega
         rw[G,←x rfl];exact afM
     ·show jD.id=(aN d sep (n:Nat) L lk).1.h.id
      rw[e,V.2,U]
   ·rcases y with⟨e,hT⟩|⟨l,i,nd,word,o,e,g,z,ju,Q,dL,U,_⟩
    ·rw[e]at N;exact absurd rfl N
    ·have u:=asw o.hi
     rw[e]at c3 hb;have hbb:=Q.pg.le;obtain⟨H,akv⟩:=jS _ i l nd word t1 o z c3 Q;have hwn:word+4*(m-1:Nat)+4<=9223372036854775809:=by
      have h1:=Vx n l o.hl nd u;have h2:=hwd n l o.hl nd u;rw[g.c]at h1;have h3:=aaY C p.fq p.tree afL n l o.hl nd u;rw[g.c]at h3;simp only at h1 h3;omega
     have K:kF d ⟨nd.id,word,nd.pg⟩ (aI nd.pg sep ch):=⟨Q,g.w,by show word+4<_;omega,akv⟩
     have hold:pO d (aN d sep (n:Nat) L lk).2 ⟨nd.id,word,nd.pg⟩:=⟨(t1.node n l o.hl nd u g.zK).hold,g.c⟩;obtain⟨g1,g2,g3,g4,g5,O,g7⟩:=Pb C H K hold t4 hb;have htl:=(asu.1 o.hl).1;refine⟨t,n,m-1,⟨r,I,rfl,fun _=>kI,x,X,fun k l' hk jD hm F=>zD k l' hk jD hm (fun V=>F ?_),fun _=>by rw[h7];exact tq,iY,Vx,⟨i,l,nd,?_,?_,?_,g2,g3,g4,?_,fun _ ep e1=>?_,fun _=>O,?_,?_,?_,?_⟩⟩,by omega,t2,.inl ⟨rfl,fun _=>rfl,fun h=>by simp at h,fun h=>by simp at h⟩⟩
     ·show jD.id=(aN d sep (n:Nat) L lk).1.h.id
      rw[e,V.2,U]
     ·show oW t n i l nd (aN d sep (n:Nat) L lk).1.h (aI (aN d sep (n:Nat) L lk).1.h.pg sep ch)
      rw[e];exact H
     ·show kF d (aN d sep (n:Nat) L lk).1.h (aI (aN d sep (n:Nat) L lk).1.h.pg sep ch)
      rw[e];exact K
     ·show jd d _ (aN d sep (n:Nat) L lk).1.h (aI (aN d sep (n:Nat) L lk).1.h.pg sep ch) R
      rw[e];exact g1
     ·show _->d.fa<((aI (aN d sep (n:Nat) L lk).1.h.pg sep ch).sl.length:Int)
      rw[e];exact g5
     ·exfalso
      rcases O with⟨_,O⟩|⟨O,_⟩
      ·simp only at e1;omega
      ·simp only at ep;omega
     ·intro er
      rw[E];rcases O with⟨O,_⟩|⟨O,g6'⟩
      ·simp only[O,if_true]
       exact v er
      ·simp only[O,g6']
       have:=p.lim.2 er;simp;exact this
     ·have:=ei
      rw[if_pos htl]at this;exact this
     ·show(aN d sep (n:Nat) L lk).1.h.word+4*(m-1:Nat)+4<=9223372036854775809
      rw[e];exact hwn
     ·show kC (aI (aN d sep (n:Nat) L lk).1.h.pg sep ch) R + 5+(if d.fa<((aI (aN d sep (n:Nat) L lk).1.h.pg sep ch).sl.length:Int)then _ else 0)<=m-1
      rw[e];simp only;rcases halt with⟨a1,_,a2⟩|⟨a1,_⟩
      ·have hwi:wI d=2*(d.fa.toNat+6)+12:=rfl
       by_cases hf:d.fa<((aI nd.pg sep ch).sl.length:Int)
       ·have W:small l=false:=by
         cases W:small l with
         | false=>rfl
         | true=>
          have h1:=rK W o.hi;have h2:(aI nd.pg sep ch).sl.length=nd.pg.sl.length+1:=dU _ _ _;have:=C.fy;omega
        have e0:¬ (t[n]?.map small).getD false=true:=by
         rw[o.hl];show ¬ small l=true
         rw[W];simp
        rw[if_neg e0]at a2;rw[if_pos hf];omega
       ·rw[if_neg hf]
        omega
      ·omega
end
section
variable {d:aU}{P:zR}{L L':List aQ}{t t':List (List Nd)}{n m:Nat}{s s':dS}
theorem rN {k i k':Nat}{l l':List Nd}{nd c:Nd}{fu:Pg}{id:Int}{sp:Bool}(hk:t[k]?=some l)(hi:l[i]?=some nd)(h:(eM t k i l nd fu id sp)[k']?=some l')(hc:c∈l') :
  (∃l0 a,t[k']?=some l0/\a∈l0/\a.id=c.id/\a.low=c.low)\/(sp=true/\k'=k/\c=⟨id,bM fu,cZ fu⟩):=by
 have f:=(asu.1 hk).1;by_cases e:k'=k
 ·subst e
  cases sp with
  | false=>
   have h:(t.set k' (l.set i { nd with pg:=fu }))[k']?=some l' := h;rw[List.getElem?_set_self f]at h;obtain rfl:=asy h;rcases(nY hi).1 hc with rfl|⟨j,_,b⟩
   ·exact .inl ⟨l,nd,hk,asw hi,rfl,rfl⟩
   ·exact .inl ⟨l,c,hk,asw b,rfl,rfl⟩
  | true=>
   have h:(t.set k' (pM l i { nd with pg:=ed fu id } ⟨id,bM fu,cZ fu⟩))[k']?=some l' := h;rw[List.getElem?_set_self f]at h;obtain rfl:=asy h;rcases(mE hi).1 hc with rfl|rfl|⟨j,_,b⟩
   ·exact .inl ⟨l,nd,hk,asw hi,rfl,rfl⟩
   ·exact .inr ⟨rfl,rfl,rfl⟩
   ·exact .inl ⟨l,c,hk,asw b,rfl,rfl⟩
 ·rw[dD e]at h
  exact .inl ⟨l',c,h,hc,rfl,rfl⟩
theorem Ep {k i:Nat}{l:List Nd}{nd:Nd}{fu:Pg}{id:Int}{sp:Bool}(hk:t[k]?=some l)(hi:l[i]?=some nd):∃l',(eM t k i l nd fu id sp)[k]?=some l' /\ l'.length<=l.length+1/\(∃a,a∈l' /\ a.id=nd.id/\a.low=nd.low)/\(sp=true->(⟨id,bM fu,cZ fu⟩:Nd)∈l'):=by
 have b:=(asu.1 hk).1;have hlen:=(asu.1 hi).1;cases sp with
 | false=>exact⟨l.set i { nd with pg:=fu },List.getElem?_set_self b,by rw[List.length_set];omega,⟨_,(nY hi).2 (.inl rfl),rfl,rfl⟩,fun e=>by cases e⟩
 | true=>exact⟨pM l i { nd with pg:=ed fu id } ⟨id,bM fu,cZ fu⟩,List.getElem?_set_self b,by rw[oy hlen];omega,⟨_,(mE hi).2 (.inl rfl),rfl,rfl⟩,fun _=>(mE hi).2 (.inr (.inl rfl))⟩
theorem Vy {k i:Nat}{l:List Nd}{nd:Nd}{fu:Pg}{id:Int}{sp:Bool}(hk:t[k]?=some l)(hi:l[i]?=some nd)(h:zC P t 1):zC P (eM t k i l nd fu id sp) (if k+1<(eM t k i l nd fu id sp).length then 1 else 0):=by
 have c:=(asu.1 hk).1;intro l' a;rw[lG]at a ⊢;by_cases e:t.length-1=k
 ·obtain⟨f,b,g,_⟩:=Ep (fu:=fu) (id:=id) (sp:=sp) hk hi
  rw[e,b]at a;obtain rfl:=asy a;have:=h l (by rw[e];exact hk)
  rw[if_neg (by omega)]
  omega
 ·rw[dD e]at a
  have:=h l' a;split <;> omega
theorem Pd {k i:Nat}{l:List Nd}{nd:Nd}{fu:Pg}{id:Int}{sp:Bool}:(eM t k i l nd fu id sp).drop (k+1)=t.drop (k+1):=by
 refine List.ext_getElem? (fun j=>?_)
 rw[List.getElem?_drop,List.getElem?_drop];exact dD (by omega)
theorem aaq {k i:Nat}{l:List Nd}{nd:Nd}{fu:Pg}{id:Int}{sp:Bool}:cL (eM t k i l nd fu id sp) (k+1)=cL t (k+1):=by
 unfold cL;rw[lG,dD (by omega)]
theorem xW {fu:Pg}(h:∀s,s∈fu.sl->s.k.size<=32):(bM fu).size<=32:=by
 unfold bM;split
 ·rename_i x y b a
  split
  ·exact Nat.le_trans (xH _ _) (h y (asw a))
  ·exact h y (asw a)
 ·exact Nat.zero_le _
theorem ac0 (g:d.Ok)(hlen:(L.length:Int)=d.cells){fr:cC}{fu:Pg}{x j:gh}(K:kF d fr fu)(hI:jd d L fr fu x)(r:x.pc<=2)(c:ig d fr fu L x j) :
  (x.pc=0->j.pc=1->(ah (bS d L x) 4).n=(ah L 4).n+1)/\((x.pc≠0\/j.pc≠1)->(ah (bS d L x) 4).n=(ah L 4).n):=by
 have q:=gu g;by_cases h0:x.pc=0
 ·obtain⟨pc,tk,k,ps,sp,id,full⟩:=x
  simp only at h0;subst h0;obtain⟨_,_,_,o,_⟩:=hI;obtain⟨u,seen,ok⟩:=tk;simp only at o;rcases o with⟨rfl,rfl⟩|⟨rfl,rfl,b1,b2⟩
  ·refine⟨fun _ i=>?_,fun _=>rfl⟩
   rcases c with⟨_,rfl⟩|⟨_,_,rfl⟩|⟨_,l,_⟩
   ·simp at i
   ·simp at i
   ·cases l
  ·by_cases a:bU L 4 seen=true
   ·have b:(ah L 4).n=seen:=by
     unfold bU at a;simp only[Bool.and_eq_true,decide_eq_true_eq]at a;exact a.2
    have f:aG 4 d.no L ⟨1,seen,false⟩=(⟨2,seen,true⟩,aR L 4 ⟨seen+1,⟨#[]⟩,0⟩):=by
     show(if bU L 4 seen then _ else _)=_
     rw[if_pos a]
    have e2:(ah (bS d L ⟨0,⟨1,seen,false⟩,k,ps,sp,id,full⟩) 4).n=(ah L 4).n+1:=by
     show(ah (aG 4 d.no L ⟨1,seen,false⟩).2 4).n=_
     rw[f];show(ah (aR L 4 ⟨seen+1,⟨#[]⟩,0⟩) 4).n=_
     rw[cD (by omega) (by omega),b]
    refine⟨fun _ _=>e2,fun h=>?_⟩
    exfalso
    simp only[ig,f]at c;rcases c with⟨p,_⟩|⟨_,l,_⟩|⟨_,_,rfl⟩
    ·omega
    ·cases l
    ·rcases h with h|h
     ·exact h rfl
     ·exact h rfl
   ·have f:aG 4 d.no L ⟨1,seen,false⟩=(⟨0,seen,false⟩,L):=by
     show(if bU L 4 seen then _ else _)=_
     rw[if_neg a]
    have e2:bS d L ⟨0,⟨1,seen,false⟩,k,ps,sp,id,full⟩=L:=by
     show(aG 4 d.no L ⟨1,seen,false⟩).2=_
     rw[f]
    rw[e2];refine⟨fun _ i=>?_,fun _=>rfl⟩
    simp only[ig,f]at c;rcases c with⟨_,rfl⟩|⟨p,_⟩|⟨p,_⟩
    ·simp at i
    ·omega
    ·omega
 ·refine⟨fun h=>absurd h h0,fun _=>?_⟩
  rw[fV g K hI (fun e=>absurd e h0) (fun _=>gR g K.hok.id.1 K.hok.id.2) (fun hp=>?_)]
  obtain⟨pc,tk,k,ps,sp,id,full⟩:=x;simp only at hp;subst hp;exact gR g hI.2.2.2.1.lo hI.2.2.2.1.hi
theorem Er (a:d.Ok){fr:cC}{fu:Pg}{x:gh}(K:kF d fr fu)(hI:jd d L fr fu x){j:Int}(b:j≠4)(c:j<d.A\/d.B<=j):ah (bS d L x) j=ah L j:=by
 refine fV a K hI (fun _=>b) (fun _ q p r=>?_) (fun hp q p r=>?_)
 ·have:=nZ a K.hok.id.1 K.hok.id.2 p r
  omega
 ·obtain⟨pc,tk,k,ps,sp,id,full⟩:=x
  simp only at hp;subst hp;have:=nZ (id:=id) a hI.2.2.2.1.lo hI.2.2.2.1.hi p r;show j≠d.node id q
  omega
theorem iX.Vz (E:d.Ok)(tj:d.no<=900)(h:iX d P L t n s m)(h0:s.pc=1):rL d P L t n s m:=by
 have u:=h.base;have hnt:=h.nt (.inl (by omega))
 have W:=h.n1;have cj:=h.aA;have kI:=h.task (.inl (by omega))
 have J:=h.ch;have je:=h.ref;have z:=h.free;have tq:=h.c7 (.inl (by omega))
 have iY:=h.vE;have X:=h.wd;have hst:=h.st;obtain⟨pc,f,lk,fr,ins,aq,root,word,tk,id,k⟩:=s;simp only at h0;subst h0;obtain⟨aA,sep,ch,po⟩:=f;simp only at cj kI J;subst cj;obtain⟨i,l,nd,H,K,hI,hF,w,rD,M,hR1,Y,v,ei,aaZ,hm⟩:=hst;have Pe:dS.fu ⟨1,⟨n,sep,ch,po⟩,lk,fr,ins,aq,root,word,tk,id,k⟩=aI nd.pg sep ch:=by
  show aI fr.pg sep ch=_
  rw[H.pg]
 rw[Pe]at H K hI M hm;simp only at H K hI hF w rD M hR1 Y v aaZ hm;obtain⟨fu,O⟩:∃fu,fu=aI nd.pg sep ch:=⟨_,rfl⟩;have V:aI fr.pg sep ch=fu:=by rw[O,H.pg]
 rw[←O]at H K hI M hm;have xV:=u.tree.wM;have hA:=E.eN;have f1:=E.fy;have jw:=E.m6;have Z:=asw H.hi;have apT:=(u.tree.sh.nodes _ l H.hk nd Z).1;have hid:=H.id;have afN:=K.Vq.len;have amv:6<=m:=by
  have:0<kC fu ins\/kC fu ins=0:=by omega
  have F:1<=kC fu ins:=by
   obtain⟨pc,tk,k,ps,sp,id,full⟩:=ins;simp only at w;rcases(by omega:pc=0\/pc=1\/pc=2)with rfl|rfl|rfl
   ·show 1<=(fu.sl.length+5)+(fu.sl.length+5)+(2-tk.pc)
    omega
   ·obtain⟨_,_,_,_,_,a6,_⟩:=hI
    simp only at a6;show 1<=(ps.length-k)+_
    omega
   ·obtain⟨_,_,_,a4,_⟩:=hI
    simp only at a4;show 1<=ps.length-k
    omega
  omega
 have hsm:d.fa<(fu.sl.length:Int)->small l=false:=fun hf=>by
  cases hsm:small l with
  | false=>rfl
  | true=>
   have Q:=rK hsm H.hi;have w:(aI nd.pg sep ch).sl.length=nd.pg.sl.length+1:=dU _ _ _;rw[O]at hf;omega
 have htl:=(asu.1 H.hk).1;have ac1:d.fa<(fu.sl.length:Int)->cL t n=t.length+1-n:=fun hf=>by
  unfold cL;rw[H.hk];show(if small l=true then _ else _)=_
  rw[hsm hf];rfl
 have apU:cL t (n+1)<=t.length-n:=by
  unfold cL;split <;> omega
 have h40:(0:Int)<=(ah L 4).n:=by omega
 constructor
 ·refine⟨by show 1<=13;decide,⟨by show(0:Int)<=n;omega,by show(n:Int)<1000;omega⟩,fun h=>by simp at h,fun _=>?_,fun h=>by simp at h,fun h=>by simp at h,fun h=>by simp at h,fun h=>by simp at h,fun h=>by simp at h,fun h=>by simp at h,fun h=>by simp at h,fun h=>by simp at h⟩
  show fr.Ok d/\lB d fr (dS.fu _)/\ins.Ok d (dS.fu _)
  rw[Pe,←O];exact⟨K.hok,K.Vq,hI.ok w⟩
 ·rintro s' ⟨o,C,R⟩
  simp only at C R;rw[Pe,←O]at C;show ∃t' n' m',iX d P (bS d L ins) t' n' s' m' /\ m' + 1=m/\vB d L t (bS d L ins) t' /\ Jp d t t' n n' _ s'
  have hI' := oB E u.fq K (by omega) h40 hI w C
  have Lu:=Jo E K u.iq hI;have aa0:((bS d L ins).length:Int)=d.cells:=by rw[xT];exact u.fq
  have pW:∀j:Int,j≠0->j≠4->j≠7->(j<d.A\/d.B<=j)->ah (bS d L ins) j=ah L j:=fun j _ a _ b=>Er E K hI a b
  have h7:ah (bS d L ins) 7=ah L 7:=Er E K hI (by omega) (by omega)
  obtain⟨n4a,y⟩:=ac0 E u.fq K hI w C;have jx:∀(k':Nat) (l':List Nd),t[k']?=some l' -> ∀c,c∈l' -> c.id≠fr.id->ah (bS d L ins) (d.node c.id 0)=ah L (d.node c.id 0):=fun k' l' p c hc S=>by
   have hcb:=(u.tree.sh.nodes k' l' p c hc).1;have:=u.tree.n4;exact hI.other E K hF p hc hcb.1 (by omega) S 0 (by omega) (by omega)
  by_cases hB:P.room=false/\ins.pc=0
  ·-- no number is left
   obtain⟨vP,Lm⟩:=hB;have ac2:ins.tk.pc=0:=by
    rcases Y vP with⟨_,h⟩|⟨h,_⟩
    ·exact h
    ·omega
   obtain⟨q1,q2⟩:=u.noR vP;obtain⟨pc,tk2,k2,ps,sp,T,full⟩:=ins;simp only at Lm ac2;subst Lm;obtain⟨a1,a2,a3,a4,a5⟩:=hI;obtain⟨tp,seen,ok⟩:=tk2;simp only at ac2 a1 a2 a4;subst ac2 a1 a2;have hok:ok=false:=by
    rcases a4 with⟨_,h⟩|⟨h,_⟩
    ·exact h
    ·omega
   subst hok;have G:aG 4 d.no L ⟨0,seen,false⟩=(⟨2,(ah L 4).n,false⟩,L):=by
    show((⟨if d.no<=(ah L 4).n then 2 else 1,(ah L 4).n,false⟩:iJ),L)=_
    rw[if_pos q1]
   have eL:bS d L ⟨0,⟨0,seen,false⟩,k2,ps,false,T,false⟩=L:=rfl;rw[eL];simp only[ig,G]at C;rcases C with⟨c1,_⟩|⟨_,_,rfl⟩|⟨_,c2,_⟩
   ·omega
   ·rcases R with⟨c1,_⟩|⟨_,rfl⟩
    ·simp at c1
    ·have apV:=iY vP
     refine⟨t,n,m-1,⟨u,W,rfl,fun hp=>by simp at hp,J,fun c hc=>?_,fun k l' hk jD hm D=>z k l' hk jD hm (fun N=>D (.inl N)),fun _=>tq,iY,fun k l' hk jD hm=>by have:=X k l' hk jD hm;omega,⟨⟨nd.low,l,nd,H.hk,Z,hid,rfl,a5.2,K.lk,K.hok.word⟩,fun _=>vP,fun e=>by simp at e,fun _=>rfl,by omega⟩⟩,by omega,vB.refl _ _ _,.inl ⟨rfl,fun _=>rfl,fun h=>by simp at h,fun _=> .inr rfl⟩⟩
     have:=je c hc;have e2:eC ⟨2,⟨n,sep,ch,po⟩,lk,fr,⟨3,⟨2,(ah L 4).n,false⟩,k2,ps,false,T,true⟩,aq,root,word,tk,id,k⟩=eC ⟨1,⟨n,sep,ch,po⟩,lk,fr,⟨0,⟨0,seen,false⟩,k2,ps,false,T,false⟩,aq,root,word,tk,id,k⟩:=by simp[eC]
     rw[e2];exact this
   ·cases c2
  ·have hAl:En d L ins:=by
    refine⟨rD,fun Lm=>?_⟩
    have r:P.room=true:=by
     cases r:P.room with
     | true=>rfl
     | false=>exact absurd ⟨r,Lm⟩ hB
    have Q:=v r;have F:=ac1 (M (.inl (by omega)))
    simp only[Lm,if_true]at Q;have mU:=u.lim.1;exact⟨by omega,hR1 r Lm⟩
   obtain⟨⟨vF,ac3⟩,hms⟩:=hAl.step E u.fq hI w C;have ac4:P.room=false->ins.pc=2/\ins.sp=false:=fun e=>by
    rcases Y e with⟨q,_⟩|q
    ·exact absurd ⟨e,q⟩ hB
    ·exact q
   have Ji:P.room=false->(ah (bS d L ins) 4).n=(ah L 4).n:=fun e=>y (.inl (by have:=(ac4 e).1;omega))
   have zQ:(ins.pc=0/\(o.pc=0\/o.pc=1)/\o.sp=false)\/(ins.pc=1/\(o.pc=1\/(o.pc=2/\o.sp=true)))\/(ins.pc=2/\(o.pc=2\/o.pc=3)/\o.sp=ins.sp):=by
    obtain⟨pc,tk2,k2,ps,sp,T,full⟩:=ins;simp only at w;rcases(by omega:pc=0\/pc=1\/pc=2)with rfl|rfl|rfl
    ·left
     have hsp:=hI.1;simp only at hsp;subst hsp;rcases C with⟨_,rfl⟩|⟨_,_,rfl⟩|⟨_,_,rfl⟩
     ·exact⟨rfl,.inl rfl,rfl⟩
     ·cases vF
     ·exact⟨rfl,.inr rfl,rfl⟩
    ·right;left
     rcases C with⟨_,rfl⟩|⟨_,ps',_,rfl⟩
     ·exact⟨rfl,.inl rfl⟩
     ·exact⟨rfl,.inr ⟨rfl,rfl⟩⟩
    ·right;right
     rcases C with⟨_,rfl⟩|⟨_,rfl⟩
     ·exact⟨rfl,.inl rfl,rfl⟩
     ·exact⟨rfl,.inr rfl,rfl⟩
   have aa2:P.room=true->(ah (bS d L ins) 4).n<=P.lim:=fun er=>by
    have r:=v er;have hl2:=u.lim.2 er;by_cases N:ins.pc=0/\o.pc=1
    ·rw[n4a N.1 N.2]
     rw[if_pos N.1,ac1 (M (.inl (by omega)))]at r
     omega
    ·rw[y (by omega)];exact hl2
   by_cases F:o.pc<=2
   ·obtain⟨q1,q2⟩:=Vs E u.fq K u.tree H hI hF w C (.inl F)
    have hF' := qP.step u.tree hI hF w C F;rcases R with⟨_,rfl⟩|⟨c1,_⟩
    ·have hw' := hI'.word E K F
     refine⟨t,n,m-1,⟨u.next Lu aa0 q1 u.sz rfl pW (fun e=>⟨Ji e,rfl⟩) aa2,W,rfl,fun _=>kI,J,je,fun k' l' p c hc D=>?_,fun _=>by rw[h7];exact tq,iY,fun k' l' p c hc=>?_,⟨i,l,nd,?_,?_,?_,hF',F,vF,?_,fun er e0 G=>(ac3 e0).2 G,fun er=> .inr ?_,fun er=>?_,ei,?_,?_⟩⟩,by omega,q2,.inl ⟨rfl,fun _=>rfl,fun h=>by simp at h,fun _=> .inl rfl⟩⟩
     ·rw[jx k' l' p c hc D]
      exact z k' l' p c hc D
     ·by_cases e:c.id=fr.id
      ·rw[e,hw']
       have e2:=(nX K.lk).1;show(if _ then _ else _)+4*((m-1:Nat):Int)<=_
       split <;> omega
      ·rw[jx k' l' p c hc e]
       have:=X k' l' p c hc;omega
     ·show oW t n i l nd fr (aI fr.pg sep ch)
      rw[V];exact H
     ·show kF d fr (aI fr.pg sep ch)
      rw[V];exact K
     ·show jd d _ fr (aI fr.pg sep ch) o
      rw[V];exact hI'
     ·show _->d.fa<((aI fr.pg sep ch).sl.length:Int)
      rw[V];intro hc;rcases zQ with⟨e,_⟩|⟨e,_⟩|⟨e,e2,e3⟩
      ·exact M (.inl (by omega))
      ·exact M (.inl (by omega))
      ·rcases hc with hc|hc
       ·simp only at hc;omega
       ·exact M (.inr (by rw[←e3];exact hc))
     ·have e5:=ac4 er
      rcases zQ with⟨e,_⟩|⟨e,_⟩|⟨e,e2,e3⟩
      ·omega
      ·omega
      ·exact⟨by show o.pc=2;omega,by show o.sp=false;rw[e3];exact e5.2⟩
     ·have r:=v er
      rcases zQ with⟨e,G|G,e2⟩|⟨e,G|⟨G,e2⟩⟩|⟨e,G,e2⟩
      ·rw[y (.inr (by omega))]
       rw[if_pos e]at r;rw[if_pos (by exact G)]
       exact r
      ·rw[n4a e G]
       rw[if_pos e,ac1 (M (.inl (by omega)))]at r
       rw[if_neg (by simp only;omega),if_pos (.inl G)]
       omega
      ·rw[y (.inl (by omega))]
       rw[if_neg (by omega),if_pos (.inl e)]at r
       rw[if_neg (by simp only;omega),if_pos (.inl G)]
       exact r
      ·rw[y (.inl (by omega))]
       rw[if_neg (by omega),if_pos (.inl e)]at r
       rw[if_neg (by simp only;omega),if_pos (.inr e2)]
       exact r
      ·rw[y (.inl (by omega))]
       rw[if_neg (by omega)]at r
       rw[if_neg (by simp only;omega)]
       by_cases hs:ins.sp=true
       ·rw[if_pos (.inr hs)]at r
        rw[if_pos (.inr (by show o.sp=true;rw[e2];exact hs))]
        exact r
       ·rw[if_neg (fun h=>by rcases h with h|h;omega;exact hs h)]at r
        rw[if_neg (fun h=>by rcases h with h|h;(simp only at h;omega);exact hs (by rw[←e2];exact h))]
        exact r
     ·show fr.word+4*((m-1:Nat):Int)+4<=_
      omega
     ·show kC (aI fr.pg sep ch) o + 5+(if d.fa<((aI fr.pg sep ch).sl.length:Int)then _ else 0)<=m-1
      rw[V];omega
    ·omega
   ·have Ou:ins.pc=2/\o.pc=3/\o.sp=ins.sp:=by
     rcases zQ with⟨_,e|e,_⟩|⟨_,e|⟨e,_⟩⟩|⟨a,e|e,b⟩
     ·omega
     ·omega
     ·omega
     ·omega
     ·omega
     ·exact⟨a,e,b⟩
    have hJs:ins.sp=true->d.fa<(fu.sl.length:Int):=fun e=>M (.inr e)
    have afP:ins.sp=true->wO t o.id:=fun e=>by
     have e2:o.id=ins.id:=by
      have hn2:=C;simp only[ig,Ou.1]at hn2;rcases hn2 with⟨_,e⟩|⟨_,e⟩ <;> rw[e]
     rw[e2];exact hF (.inr ⟨Ou.1,e⟩)
    obtain⟨q1,q2⟩:=Vt E u.fq K u.tree H hI hF w C Ou.2.1 vF;have akx:=y (.inl (by omega))
    rcases R with⟨c1,_⟩|⟨_,rfl⟩
    ·omega
    obtain⟨hp2,Ou,afQ⟩:=Ou;have apW:1<=kC fu ins:=by omega
    clear zQ n4a y hms hF hAl ac3 C F;obtain⟨Lk,tk',k',ps',sp',id',Ea⟩:=o;simp only at vF q1 q2 Ou afQ;subst vF Ou afQ;obtain⟨_,⟨g,_⟩|⟨_,g1,g2,g3,g4⟩⟩:=hI'
    ·cases g
    simp only at g1 g2 g3 g4;obtain⟨l',hl',hll,⟨a,ha,ha1,ha2⟩,hb⟩:=Ep (fu:=fu) (id:=id') (sp:=ins.sp) H.hk H.hi;have e4:=zB K.lk K.hok.word.1 K.ver;have hlk:=K.lk;have hfk:∀x,x∈fu.sl->x.k.size<=32:=fun x hx=>by
     rw[O]at hx;obtain⟨l0,c,hl0,hc,G,e2⟩:=kI;obtain⟨k,hk1⟩:∃k,n=k+1:=⟨n-1,by omega⟩
     rcases jY hx with hx|rfl
     ·have hk2:=H.hk
      rw[hk1]at hk2;exact((u.sz.keys u.tree.sh hk2 Z).1 x hx).1
     ·show sep.size<=32
      rw[←e2];exact u.sz _ l0 hl0 c hc
    refine⟨eM t n i l nd fu id' ins.sp,n,m-1,⟨u.next Lu aa0 q1 (fun k' l2 p c hc=>?_) (dD (by omega)) pW (fun e=>⟨Ji e,lG⟩) aa2,W,rfl,fun hp=>by simp at hp,J,fun c hc=>?_,fun k' l2 p c hc D=>?_,fun _=>by rw[h7];exact tq,iY,fun k' l2 p c hc=>?_,⟨⟨a.low,l',a,hl',ha,ha1.trans hid,rfl,?_⟩,fun e=>by simp at e,fun _ I=>?_,fun e=>by simp at e,by omega⟩⟩,by omega,q2,.inr (.inl ⟨rfl,rfl,rfl,rfl,rfl,i,l,nd,by rw[O,←Pe]at H;exact H,by rw[O,←Pe],fun e=>⟨afP e,by rw[O]at hJs;rw[Pe];exact hJs e⟩,by have:=K.hok.pg.le;rw[←H.pg]at this;exact this⟩)⟩
    ·rcases rN H.hk H.hi p hc with⟨l0,U,Q,w,_,h4⟩|⟨I,_,rfl⟩
     ·rw[←h4];exact u.sz _ l0 Q U w
     ·exact xW hfk
    ·have e9:eC ⟨2,⟨n,sep,ch,po⟩,lk,fr,⟨3,tk',k',ps',ins.sp,id',false⟩,aq,root,word,tk,id,k⟩=true:=by simp[eC]
     rw[e9];have r:=je c hc;by_cases e:n=1
     ·subst e
      have e8:eC ⟨1,⟨((1:Nat):Int),sep,ch,po⟩,lk,fr,ins,aq,root,word,tk,id,k⟩=false:=by simp[eC]
      rw[e8]at r;rw[O,qQ H.hk H.hi,r,J rfl];simp
     ·have e7:mD (eM t n i l nd fu id' ins.sp) 1 c.id↔mD t 1 c.id:=by
       unfold mD;rw[dD (fun h=>e h.symm)]
      have e8:eC ⟨1,⟨n,sep,ch,po⟩,lk,fr,ins,aq,root,word,tk,id,k⟩=true:=by
       unfold eC;rw[decide_eq_true (by show(2:Int)<=(n:Nat);omega)]
       rfl
      rw[e7,r,e8]
    ·rcases rN H.hk H.hi p hc with⟨l0,U,Q,w,F,h4⟩|⟨I,_,rfl⟩
     ·have S:U.id≠fr.id:=fun e=>D (.inl (by rw[←F];exact e))
      rw[←F,jx k' l0 Q U w S];exact z k' l0 Q U w S
     ·exact absurd (.inr ⟨I,rfl,rfl⟩) D
    ·rcases rN H.hk H.hi p hc with⟨l0,U,Q,w,F,h4⟩|⟨I,_,rfl⟩
     ·by_cases e:U.id=fr.id
      ·rw[←F,e,g4,e4]
       show fr.word+4+4*((m-1:Nat):Int)<=_
       omega
      ·rw[←F,jx k' l0 Q U w e]
       have:=X k' l0 Q U w;omega
     ·rw[show ah (bS d L ins) (d.node id' 0)=_ from(g2 I).2.2.2]
      show(1:Int)+4*((m-1:Nat):Int)<=_
      have:=K.hok.word;omega
    ·show sN d _ fr.id (dW (bH fr.word))
     exact⟨g4,by rw[e4];omega,by rw[e4];have:=K.ver;have:=K.hok.word;omega⟩
    ·obtain⟨g5,g6,g7⟩:=g2 I
     have hrt:P.room=true:=by
      cases r:P.room with
      | true=>rfl
      | false=>have:=(ac4 r).2;simp only at I;rw[this]at I;cases I
     have r:=v hrt;rw[if_neg (by omega),if_pos (.inr I)]at r
     rw[if_pos (M (.inr I))]at hm;have xJ:((aI fr.pg sep ch).sl.length:Int)<=d.fa+1:=by rw[V];exact afN
     have zf:=E.m7;refine⟨⟨l',_,hl',hb I,rfl,?_,g7.2,by decide,by decide⟩,g6.ne,g6.lo,?_,?_,fun _=>?_,Vy H.hk H.hi ei,hrt,?_⟩
     ·show bM fu=bM (aI fr.pg sep ch)
      rw[V]
     ·show(bM (aI fr.pg sep ch)).size<=32
      rw[V];exact xW hfk
     ·show(aI fr.pg sep ch).sl.length<=1000
      omega
     ·rw[aaq,akx];exact r
     ·rw[Pd];omega
end
section
variable {d:aU}{P:zR}{L L':List aQ}{t t':List (List Nd)}{n m:Nat}{s s':dS}
theorem Wa (g:d.Ok)(a:zS d P L t){id w:Int}{low:ByteArray}(u:qR d L t n id w low) :
  zS d P (aR L (d.node id 0) ⟨aH w,⟨#[]⟩,0⟩) t/\vB d L t (aR L (d.node id 0) ⟨aH w,⟨#[]⟩,0⟩) t /\
  (∀(k:Nat) (l:List Nd),t[k]?=some l->∀c,c∈l->(c.id=id->(ah (aR L (d.node id 0) ⟨aH w,⟨#[]⟩,0⟩) (d.node c.id 0)).n%4=0)/\(c.id≠id->ah (aR L (d.node id 0) ⟨aH w,⟨#[]⟩,0⟩) (d.node c.id 0)=ah L (d.node c.id 0))/\(ah (aR L (d.node id 0) ⟨aH w,⟨#[]⟩,0⟩) (d.node c.id 0)).n<=(ah L (d.node c.id 0)).n) /\
  (∀j:Int,(j<d.A\/d.B<=j)->ah (aR L (d.node id 0) ⟨aH w,⟨#[]⟩,0⟩) j=ah L j)/\1<=id/\id<=d.no:=by
 obtain⟨l,nd,hl,h,hid,_,b⟩:=u;subst hid;have f1:=g.fy;have z:=a.tree.n4;have f:=(a.tree.sh.nodes _ l hl nd h).1;have hw:=b.w;have v:=b.bd;have i:aH w=w-1:=by unfold aH;omega
 have o:=bZ g (id:=nd.id) f.1 (by omega) (k:=0) (by omega) (by omega)
 obtain⟨x,y,C⟩:=a.tree.bit g a.fq hl h (w' := aH w) (by rw[b.c,i];show(w-1) / 4=w / 4;omega) b.zK (by unfold cg;rw[i];exact decide_eq_false (by omega))
 have p:∀j:Int,(j<d.A\/d.B<=j)->ah (aR L (d.node nd.id 0) ⟨aH w,⟨#[]⟩,0⟩) j=ah L j:=fun j D=>bu (by have:=nZ g f.1 (by omega) (j:=0) (by omega) (by omega);omega)
 have E:=g.eN;refine⟨a.next (a.iq.put ⟨by show 0<=aH w;omega,by show aH w<_;omega⟩) (by rw[bg];exact a.fq) x a.sz rfl (fun j _ _ _ e=>p j e) (fun _=>⟨by rw[p 4 (by omega)],rfl⟩) (fun e=>by rw[p 4 (by omega)];exact a.lim.2 e),y,fun k l' hk c hc=>?_,p,f.1,by omega⟩
 have q:=(a.tree.sh.nodes k l' hk c hc).1;have r:ah (aR L (d.node nd.id 0) ⟨aH w,⟨#[]⟩,0⟩) (d.node nd.id 0)=⟨aH w,⟨#[]⟩,0⟩:=cD o.2.1 (by have:=a.fq;omega)
 have e2:c.id≠nd.id->ah (aR L (d.node nd.id 0) ⟨aH w,⟨#[]⟩,0⟩) (d.node c.id 0)=ah L (d.node c.id 0):=fun e=>bu (cO g q.1 (by omega) f.1 (by omega) (by omega) (by omega) (by omega) (by omega) e)
 refine⟨fun e=>?_,e2,?_⟩
 ·rw[e,r];show aH w%4=0;omega
 ·by_cases e:c.id=nd.id
  ·rw[e,r,b.c];show aH w<=w;omega
  ·rw[e2 e];exact Int.le_refl _
theorem qR.other (f:d.Ok)(g:dP d L t){id w id' w':Int}{low:ByteArray}{c:aQ}(h:qR d L t n id w low)(i:1<=id')(j:id' <= d.no)(e:id≠id'):qR d (aR L (d.node id' 0) c) t n id w low:=by
 obtain⟨l,nd,hl,b,hid,k,a⟩:=h;have o:=(g.sh.nodes _ l hl nd b).1;have f1:=f.fy;have p:=g.n4;exact⟨l,nd,hl,b,hid,k,by rw[bu (cO f (by omega) (by omega) i j (by omega) (by omega) (by omega) (by omega) e)];exact a.c,a.w,a.bd⟩
theorem iX.afR (v:d.Ok)(F:d.no<=900)(h:iX d P L t n s m)(h0:s.pc=4)(G:n<1000):rL d P L t n s m:=by
 have y:=h.base;have l:=h.n1;have w:=h.aA;have j:=h.ch;have z:=h.ref;have i:=h.free;have A:=h.c7 (.inl (by omega))
 have B:=h.vE;have o:=h.wd;have p:=h.st;obtain⟨pc,f,lk,fr,ins,aq,root,word,tk,id,k⟩:=s;simp only at h0;subst h0;obtain⟨aA,sep,ch,po⟩:=f;simp only at w j;subst w;obtain⟨⟨low,q⟩,_,hm⟩:=p;simp only at q;obtain⟨r1,C,x,D,H,I⟩:=Wa v y q;have J:=v.eN;have r:0<=fr.word/\fr.word<18446744073709551616:=by obtain⟨_,_,_,_,_,_,u⟩:=q;exact u.bd
 constructor
 ·exact⟨by show 4<=13;decide,⟨by show(0:Int)<=n;omega,by show(n:Int)<1000;omega⟩,fun h=>by simp at h,fun h=>by simp at h,fun h=>by simp at h,fun h=>by simp at h,fun _=>r,fun h=>by simp at h,fun h=>by simp at h,fun h=>by simp at h,fun h=>by simp at h,fun h=>by simp at h⟩
 ·rintro s' rfl
  refine⟨t,n,m-1,⟨r1,l,rfl,fun hp=>by simp at hp,j,fun c hc=>?_,fun k' l' g c hc _=>?_,fun _=>?_,B,fun k' l' g c hc=>?_,fun _=>rfl⟩,by omega,C,.inl ⟨rfl,fun _=>rfl,fun h=>by simp at h,fun h=>by simp at h⟩⟩
  ·have E:eC ⟨14,jF.end ⟨n,sep,ch,po⟩ true,lk,fr,ins,aq,root,word,tk,id,k⟩=true:=by simp[eC,jF.end]
   have e2:eC ⟨4,⟨n,sep,ch,po⟩,lk,fr,ins,aq,root,word,tk,id,k⟩=true:=by simp[eC]
   have:=z c hc;rw[e2]at this;show mD t 1 c.id↔P.R c.id\/(eC ⟨14,jF.end ⟨n,sep,ch,po⟩ true,lk,fr,ins,aq,root,word,tk,id,k⟩=true/\c.id=P.ch0)
   rw[E];exact this
  ·obtain⟨a,b,_⟩:=x k' l' g c hc
   by_cases e:c.id=fr.id
   ·exact a e
   ·show(ah (aR L (d.node fr.id 0) _) _).n%4=0
    rw[b e];exact i k' l' g c hc e
  ·show(ah (aR L (d.node fr.id 0) _) 7).n%4=0
   rw[D 7 (by omega)];exact A
  ·have a:=(x k' l' g c hc).2.2
   have b:=o k' l' g c hc;show(ah (aR L (d.node fr.id 0) ⟨aH fr.word,⟨#[]⟩,0⟩) _).n+4*((m-1:Nat):Int)<=_
   omega
theorem iX.afS (H:d.Ok)(tj:d.no<=900)(h:iX d P L t n s m)(h0:s.pc=3)(Wb:n<999):rL d P L t n s m:=by
 have I:=h.base;have S:=h.n1;have J:=h.aA;have x:=h.ch;have T:=h.ref;have l:=h.free;have U:=h.c7 (.inl (by omega))
 have iY:=h.vE;have y:=h.wd;have z:=h.st;obtain⟨pc,f,lk,fr,ins,aq,root,word,tk,id,k⟩:=s;simp only at h0;subst h0;obtain⟨aA,sep,ch,po⟩:=f;simp only at J x;subst J;obtain⟨u,V,o,W,A,hlen,p,K,C,hm⟩:=z;simp only at u V o W;obtain⟨r1,X,M,N,r5,r6⟩:=Wa H I u;have hA:=H.eN;have v:dS.right ⟨3,⟨n,sep,ch,po⟩,lk,fr,ins,aq,root,word,tk,id,k⟩=⟨ins.id,aT 0,cZ (dS.fu ⟨3,⟨n,sep,ch,po⟩,lk,fr,ins,aq,root,word,tk,id,k⟩)⟩:=by
  show(if ins.sp=true then _ else _)=_
  rw[if_pos o]
 have O:dS.Uv ⟨3,⟨n,sep,ch,po⟩,lk,fr,ins,aq,root,word,tk,id,k⟩=bM (dS.fu ⟨3,⟨n,sep,ch,po⟩,lk,fr,ins,aq,root,word,tk,id,k⟩):=by
  show(if ins.sp=true then _ else _)=_
  rw[if_pos o]
 have D:eQ d L ⟨3,⟨n,sep,ch,po⟩,lk,fr,ins,aq,root,word,tk,id,k⟩=aR L (d.node ins.id 0) ⟨aH (aT 0),⟨#[]⟩,0⟩:=by
  show aR L (d.node (dS.right _).id 0) ⟨aH (dS.right _).word,⟨#[]⟩,0⟩=_
  rw[v]
 obtain⟨fu,Y⟩:∃fu,fu=dS.fu ⟨3,⟨n,sep,ch,po⟩,lk,fr,ins,aq,root,word,tk,id,k⟩:=⟨_,rfl⟩;rw[←Y]at v O u A hlen;constructor
 ·refine⟨by show 3<=13;decide,⟨by show(0:Int)<=n;omega,by show(n:Int)<1000;omega⟩,fun h=>by simp at h,fun h=>by simp at h,fun h=>by simp at h,fun _=>?_,fun h=>by simp at h,fun h=>by simp at h,fun h=>by simp at h,fun h=>by simp at h,fun h=>by simp at h,fun h=>by simp at h⟩
  rw[v];refine⟨⟨by show(0:Int)<=aT 0;decide,by show aT 0<(18446744073709551616:Int);decide⟩,?_⟩
  show(fu.sl.drop _).length<=_
  rw[List.length_drop];omega
 ·rintro s' rfl
  rw[D];obtain⟨l0,j,g,q,Z,E,_⟩:=u;have htl:=(asu.1 g).1;refine⟨t,n+1,m-1,⟨r1,by omega,?_,fun _=>?_,fun h=>by omega,fun c hc=>?_,fun k' l' i c hc _=>?_,fun _=>?_,fun e=>by rw[C]at e;(cases e),fun k' l' i c hc=>?_,⟨fun e=>?_,?_,by show(0:Nat)≠4;decide,?_⟩⟩,by omega,X,.inl ⟨rfl,fun h=>absurd rfl h,fun _=>rfl,fun h=>by simp at h⟩⟩
  ·show(n:Int)+1=((n+1:Nat):Int)
   omega
  ·refine⟨l0,j,by rw[Nat.add_sub_cancel];exact g,q,?_,?_⟩
   ·show j.id=(dS.right _).id
    rw[v];exact Z
   ·show j.low=dS.Uv _
    rw[O];exact E
  ·have e1:∀a b Q,eC ⟨0,⟨(n:Int)+1,a,b,Q⟩,nK,fr,ins,aq,root,word,tk,id,k⟩=true:=fun a b Q=>by
    unfold eC;rw[decide_eq_true (by show(2:Int)<=(n:Int)+1;omega)]
    rfl
   have e2:eC ⟨3,⟨n,sep,ch,po⟩,lk,fr,ins,aq,root,word,tk,id,k⟩=true:=by simp[eC]
   have:=T c hc;rw[e2]at this;show mD t 1 c.id↔P.R c.id\/(eC ⟨0,⟨(n:Int)+1,_,_,_⟩,nK,fr,ins,aq,root,word,tk,id,k⟩=true/\c.id=P.ch0)
   rw[e1];exact this
  ·obtain⟨a,b,_⟩:=M k' l' i c hc
   by_cases e:c.id=ins.id
   ·exact a e
   ·rw[b e]
    exact l k' l' i c hc e
  ·rw[N 7 (by omega)];exact U
  ·have a:=(M k' l' i c hc).2.2
   have b:=y k' l' i c hc;omega
  ·rw[N 4 (by omega)];exact p e
  ·exact K
  ·have F:n+1<t.length\/t.length=n+1:=by omega
   rcases F with r|r
   ·obtain⟨l1,w⟩:∃l1,t[n+1]?=some l1:=⟨_,asx r⟩
    have G:=(I.tree.sh.rows _ l1 w).ne;rw[Lt d P.B w]at hm;refine .inl ⟨r,_,vD.begin ⟨l1,l1[0],w,List.getElem_mem G⟩ (Nat.le_refl _),?_⟩;rw[w];unfold wC at hm;show _+wI d+(if small l1=true then 0 else _)<=_
    omega
   ·refine .inr ⟨r,_,vD.begin ⟨l0,j,by rw[Nat.add_sub_cancel];exact g,q⟩ (Nat.le_refl _),?_⟩
    rw[List.drop_of_length_le (by omega)]at hm
    have hup:oA t n=l0.length:=by
     rw[jz,drop_cons g,List.drop_of_length_le (by omega)]
     simp
    have h2:=K l0 (by rw[r,Nat.add_sub_cancel];exact g)
    have h3:=Nat.mul_le_mul_right (bj d) (show oA t n<=P.B by omega)
    rw[Nat.add_sub_cancel];have h4:cU d P.B []=gC d P.B:=rfl;rw[h4]at hm;unfold gC at hm;omega
theorem iX.afW (G:d.Ok)(tj:d.no<=900)(h:iX d P L t n s m)(h0:s.pc=2)(Wb:n<1000):rL d P L t n s m:=by
 have H:=h.base;have u:=h.n1;have W:=h.aA;have p:=h.ch;have X:=h.ref;have j:=h.free;have Y:=h.c7 (.inl (by omega))
 have Z:=h.vE;have v:=h.wd;have K:=h.st;obtain⟨pc,f,lk,fr,ins,aq,root,word,tk,id,k⟩:=s;simp only at h0;subst h0;obtain⟨aA,sep,ch,po⟩:=f;simp only at W p;subst W;obtain⟨⟨low,I⟩,w,y,z,hm⟩:=K;simp only at I w y z;obtain⟨r1,M,A,J,r5,r6⟩:=Wa G H I;have hA:=G.eN;have jw:=G.m6;have N:(dS.left ⟨2,⟨n,sep,ch,po⟩,lk,fr,ins,aq,root,word,tk,id,k⟩).id=fr.id:=by
  show(if ins.full=true then fr else _).id=_
  split <;> rfl
 have B:eQ d L ⟨2,⟨n,sep,ch,po⟩,lk,fr,ins,aq,root,word,tk,id,k⟩=aR L (d.node fr.id 0) ⟨aH (dS.left ⟨2,⟨n,sep,ch,po⟩,lk,fr,ins,aq,root,word,tk,id,k⟩).word,⟨#[]⟩,0⟩:=by
  show aR L (d.node (dS.left _).id 0) _=_
  rw[N]
 obtain⟨fu,C⟩:∃fu,fu=dS.fu ⟨2,⟨n,sep,ch,po⟩,lk,fr,ins,aq,root,word,tk,id,k⟩:=⟨_,rfl⟩;have O:dS.right ⟨2,⟨n,sep,ch,po⟩,lk,fr,ins,aq,root,word,tk,id,k⟩=if ins.sp=true then⟨ins.id,aT 0,cZ fu⟩else oq:=by rw[C];rfl
 obtain⟨lw,D⟩:∃lw,lw=(dS.left ⟨2,⟨n,sep,ch,po⟩,lk,fr,ins,aq,root,word,tk,id,k⟩).word:=⟨_,rfl⟩;rw[←D]at B I r1 M A J;rw[←C]at y;have Q:0<=lw/\lw<18446744073709551616:=by obtain⟨_,_,_,_,_,_,R⟩:=I;exact R.bd
 have rI:=H.tree.n4;have E:ins.sp=true->ins.full=false:=fun e=>by
  cases hf:ins.full with
  | false=>rfl
  | true=>rw[z hf]at e;cases e
 have zE:ins.sp=true->1<=ins.id/\ins.id<=d.no:=fun e=>by
  obtain⟨⟨l,nd,hl,S,hid,_⟩,_⟩:=y (E e) e;have:=(H.tree.sh.nodes _ l hl nd S).1;omega
 constructor
 ·refine⟨by show 2<=13;decide,⟨by show(0:Int)<=n;omega,by show(n:Int)<1000;omega⟩,fun h=>by simp at h,fun h=>by simp at h,fun _=>?_,fun h=>by simp at h,fun h=>by simp at h,fun h=>by simp at h,fun h=>by simp at h,fun h=>by simp at h,fun h=>by simp at h,fun h=>by simp at h⟩
  rw[←D,O];refine⟨Q,?_⟩;cases o:ins.sp with
  | false=>exact⟨Nat.zero_le _,by show(0:Int)<=0;decide,by show(0:Int)<18446744073709551616;decide⟩
  | true=>
   have h1:=(y (E o) o).2.2.2.2.1;have h2:=zE o;refine⟨?_,by show 0<=ins.id;omega,by show ins.id<_;omega⟩
   show(fu.sl.drop _).length<=_
   rw[List.length_drop];omega
 ·intro s' hn
  rw[B];have dA:∀x:Bool,(ins.full=true\/ins.sp=false)->(x=false->P.room=false)->(x = !ins.full)->∃t' n' m',iX d P (aR L (d.node fr.id 0) ⟨aH lw,⟨#[]⟩,0⟩) t' n' ⟨14,jF.end ⟨n,sep,ch,po⟩ x,lk,fr,ins,aq,root,word,tk,id,k⟩ m' /\ m' + 1=m/\vB d L t (aR L (d.node fr.id 0) ⟨aH lw,⟨#[]⟩,0⟩) t' /\ Jp d t t' n n' ⟨2,⟨n,sep,ch,po⟩,lk,fr,ins,aq,root,word,tk,id,k⟩ ⟨14,jF.end ⟨n,sep,ch,po⟩ x,lk,fr,ins,aq,root,word,tk,id,k⟩:=by
   intro x q zP T;refine⟨t,n,m-1,⟨r1,u,rfl,fun hp=>by simp at hp,p,fun c hc=>?_,fun k' l' g c hc _=>?_,fun _=>?_,Z,fun k' l' g c hc=>?_,fun hr=>?_⟩,by omega,M,.inl ⟨rfl,fun _=>rfl,fun h=>by simp at h,fun h=>by simp at h⟩⟩
   ·have U:eC ⟨14,jF.end ⟨n,sep,ch,po⟩ x,lk,fr,ins,aq,root,word,tk,id,k⟩=eC ⟨2,⟨n,sep,ch,po⟩,lk,fr,ins,aq,root,word,tk,id,k⟩:=by simp[eC,jF.end,T]
    rw[U];exact X c hc
   ·obtain⟨a,b,_⟩:=A k' l' g c hc
    by_cases e:c.id=fr.id
    ·exact a e
    ·rw[b e]
     refine j k' l' g c hc (fun r=>?_)
     rcases r with r|⟨o1,o2,_⟩
     ·exact e r
     ·rcases q with q|q
      ·simp only at o2;rw[o2]at q;cases q
      ·simp only at o1;rw[o1]at q;cases q
   ·rw[J 7 (by omega)];exact Y
   ·have a:=(A k' l' g c hc).2.2
    have b:=v k' l' g c hc;omega
   ·cases x with
    | true=>rfl
    | false=>rw[zP rfl]at hr;cases hr
  rcases hn with⟨i,rfl⟩|⟨i,F,rfl⟩|⟨i,F,rfl⟩
  ·simp only at i
   exact dA false (.inl i) (fun _=>w i) (by rw[i];rfl)
  ·simp only at i
   refine dA true (.inr ?_) (fun e=>by cases e) (by rw[i];rfl)
   cases o:ins.sp with
   | false=>rfl
   | true=>
    rw[O,if_pos o]at F;have:=zE o;simp only at F;omega
  ·simp only at i
   have o:ins.sp=true:=by
    cases o:ins.sp with
    | true=>rfl
    | false=>
     rw[O,if_neg (by rw[o];simp)]at F
     exact absurd rfl F
   obtain⟨g1,g2,g3,g4,g5,g6,g7,g8,g9⟩:=y i o;refine⟨t,n,m-1,⟨r1,u,rfl,fun hp=>by simp at hp,p,fun c hc=>?_,fun k' l' g c hc V=>?_,fun _=>?_,Z,fun k' l' g c hc=>?_,⟨?_,i,o,g3,?_,?_,fun e=>?_,g7,g8,?_⟩⟩,by omega,M,.inl ⟨rfl,fun _=>rfl,fun h=>by simp at h,fun h=>by simp at h⟩⟩
   ·have U:eC ⟨3,⟨n,sep,ch,po⟩,lk,fr,ins,aq,root,word,tk,id,k⟩=true:=by simp[eC]
    have e2:eC ⟨2,⟨n,sep,ch,po⟩,lk,fr,ins,aq,root,word,tk,id,k⟩=true:=by simp[eC,i]
    have:=X c hc;rw[e2]at this;rw[U];exact this
   ·obtain⟨a,b,_⟩:=A k' l' g c hc
    by_cases e:c.id=fr.id
    ·exact a e
    ·rw[b e]
     refine j k' l' g c hc (fun r=>?_)
     rcases r with r|⟨_,_,o3⟩
     ·exact e r
     ·exact V o3
   ·rw[J 7 (by omega)];exact Y
   ·have a:=(A k' l' g c hc).2.2
    have b:=v k' l' g c hc;omega
   ·show qR d _ t n ins.id (aT 0) (bM (dS.fu ⟨2,⟨n,sep,ch,po⟩,lk,fr,ins,aq,root,word,tk,id,k⟩))
    rw[←C];exact g1.other (w' := 0) G H.tree r5 r6 g2
   ·show(bM (dS.fu ⟨2,⟨n,sep,ch,po⟩,lk,fr,ins,aq,root,word,tk,id,k⟩)).size<=32
    rw[←C];exact g4
   ·show(dS.fu ⟨2,⟨n,sep,ch,po⟩,lk,fr,ins,aq,root,word,tk,id,k⟩).sl.length<=1000
    rw[←C];exact g5
   ·rw[J 4 (by omega)];exact g6 e
   ·omega
end
section
variable {d:aU}{P:zR}{L L1:List aQ}{t t':List (List Nd)}{n m:Nat}{s s':dS}
theorem Wd (f:d.Ok)(b:zS d P L t)(g:bL L1)(h:L1.length=L.length)(i:∀(k:Nat)(l:List Nd),t[k]?=some l->∀nd,nd∈l->∀j:Int,0<=j->j<d.fa+4->ah L1 (d.node nd.id j)=ah L (d.node nd.id j))(h0:ah L1 0=ah L 0)
  (o:(ah L 4).n<=(ah L1 4).n/\(ah L1 4).n<=d.no) (p:∀j:Int,j≠0->j≠4->j≠7->(j<d.A\/d.B<=j)->ah L1 j=ah L j) (a:P.room=false->(ah L1 4).n=(ah L 4).n) (c:P.room=true->(ah L1 4).n<=P.lim) :
  zS d P L1 t/\vB d L t L1 t/\∀(k:Nat) (l:List Nd),t[k]?=some l->∀nd,nd∈l->ah L1 (d.node nd.id 0)=ah L (d.node nd.id 0):=by
 obtain⟨q,r,u⟩:=b.tree.frame f i (by rw[h0]) o
 exact⟨b.next g (by rw[h];exact b.fq) q b.sz rfl p (fun e=>⟨a e,rfl⟩) c,r,u⟩
theorem tL (h:5<=s.pc/\s.pc<=13):eC s=decide (2<=s.f.aA):=by
 unfold eC;rw[beq_eq_false_iff_ne.2 (show s.pc≠3 by omega),beq_eq_false_iff_ne.2 (show s.pc≠4 by omega),beq_eq_false_iff_ne.2 (show s.pc≠2 by omega),beq_eq_false_iff_ne.2 (show s.pc≠14 by omega)]
 simp
theorem qT {id:Int}(h:5<=s.pc):¬ aaX s id:=by
 obtain⟨pc,f,lk,fr,ins,aq,root,word,tk,a,k⟩:=s;simp only at h;obtain⟨q,rfl⟩:∃q,pc=q+5:=⟨pc-5,by omega⟩
 exact fun h=>h
theorem Es (h:iX d P L t n s m)(hp:5<=s.pc/\s.pc<=12)(b:5<=s'.pc/\s'.pc<=13)(a:s'.f=s.f)(i:zS d P L1 t)(hw:∀(k:Nat)(l:List Nd),t[k]?=some l->∀nd,nd∈l->ah L1 (d.node nd.id 0)=ah L (d.node nd.id 0))(j:s'.pc=5->(ah L1 7).n%4=0)(g:afJ d P L1 t n s' (m-1)):iX d P L1 t n s' (m-1):=by
 refine⟨i,h.n1,by rw[a];exact h.aA,fun _=>by rw[a];exact h.task (.inr hp),by rw[a];exact h.ch,fun c hc=>?_,fun k l hk nd hm _=>?_,fun e=>j (by omega),h.vE,fun k l hk nd hm=>?_,g⟩
 ·rw[tL b,a,←tL (s:=s) ⟨hp.1,by omega⟩]
  exact h.ref c hc
 ·rw[hw k l hk nd hm]
  exact h.free k l hk nd hm (qT hp.1)
 ·rw[hw k l hk nd hm]
  have:=h.wd k l hk nd hm;omega
theorem Jq (a:zS d P L t):zS d P L t/\vB d L t L t/\∀(k:Nat)(l:List Nd),t[k]?=some l->∀nd,nd∈l->ah L (d.node nd.id 0)=ah L (d.node nd.id 0):=⟨a,vB.refl _ _ _,fun _ _ _ _ _=>rfl⟩
theorem We (o:d.Ok)(f:zS d P L t){j:Int}{c:aQ}(g:(j=7)\/(j=4/\(ah L 4).n<=c.n/\c.n<=P.lim/\P.room=true))(hc:nk c):zS d P (aR L j c) t/\vB d L t (aR L j c) t/\(∀(k:Nat)(l:List Nd),t[k]?=some l->∀nd,nd∈l->ah (aR L j c) (d.node nd.id 0)=ah L (d.node nd.id 0))/\ah (aR L j c) j=c:=by
 have u:=gu o;have hlen:=f.fq;have v:=f.tree.n4;have p:0<=j/\j<8:=by rcases g with h|h <;> omega
 have he:ah (aR L j c) j=c:=cD p.1 (by omega)
 obtain⟨w,x,y⟩:=Wd (L1:=aR L j c) o f (f.iq.put hc) (bg _ _ _) (fun k l hk nd hm i a b=>bu (by
  have q:=(f.tree.sh.nodes k l hk nd hm).1;have:=iw o nd.id i q.1 (by omega) a b
  omega)) (bu (by rcases g with h|h <;> omega)) (by
   rcases g with h|⟨rfl,q,r,_⟩
   ·rw[bu (by omega)];exact⟨Int.le_refl _,v⟩
   ·have:=f.lim.1
    rw[he];exact⟨q,by omega⟩) (fun i h0 z A _=>bu (by rcases g with h|h <;> omega)) (fun e=>by
   rcases g with h|⟨_,_,_,h⟩
   ·rw[bu (by omega)]
   ·rw[h]at e;cases e) (fun e=>by
   rcases g with h|⟨rfl,_,r,_⟩
   ·rw[bu (by omega)];exact f.lim.2 e
   ·rw[he];exact r)
 exact⟨w,x,y,he⟩
theorem iX.afX (F:d.Ok)(h:iX d P L t n s m)(h0:s.pc=5)(O:n<1000):rL d P L t n s m:=by
 have u:=h.base;have hp:5<=s.pc/\s.pc<=12:=by omega
 have w:=h.c7 (.inr h0);have I:=h.aA;have l:=fun L1 s' => Es (L1:=L1) (s' := s') h hp
 have x:=h.st;have p:=u.iq 7;have Q:20<=gI d:=by unfold gI;omega
 obtain⟨pc,f,lk,fr,ins,aq,root,word,tk,id,k⟩:=s;simp only at h0;subst h0;obtain⟨G,b,q,o,g,i,hm⟩:=x;simp only at I q o g i hm;obtain⟨ap,a⟩:=aq;simp only at q o g i hm;constructor
 ·exact⟨by show 5<=13;decide,⟨by show(0:Int)<=f.aA;omega,by show f.aA<1000;omega⟩,fun h=>by simp at h,fun h=>by simp at h,fun h=>by simp at h,fun h=>by simp at h,fun h=>by simp at h,fun _=>⟨⟨by show ap<=2;omega,g,i⟩,by show ap≠2;omega⟩,fun h=>by simp at h,fun h=>by simp at h,fun h=>by simp at h,fun h=>by simp at h⟩
 ·intro s' v
  rcases(by omega:ap=0\/ap=1)with rfl|rfl
  ·have r:bP 7 L ⟨0,a⟩=(⟨1,aT (ah L 7).n⟩,L):=by
    show((if (ah L 7).n%2=1 then⟨0,a⟩else⟨1,aT (ah L 7).n⟩:oG),L)=_
    rw[if_neg (by omega)]
   have e2:eQ d L ⟨5,f,lk,fr,ins,⟨0,a⟩,root,word,tk,id,k⟩=L:=by
    show(bP 7 L ⟨0,a⟩).2=L
    rw[r]
   rw[e2];simp only[jm,r]at v;have y:=sK w;rcases v with⟨_,rfl⟩|⟨H,_⟩
   ·obtain⟨z,A,B⟩:=Jq (d:=d) u
    have J:=p.2;have K:=p.1;refine⟨t,n,m-1,l L _ ⟨by show 5<=5;decide,by show 5<=13;decide⟩ rfl z B (fun _=>w) ⟨G,b,by show 1<=1;decide,fun _=>y,by show 0<=aT _;omega,by show aT _<_;omega,by show gI d<=m-1+1;omega⟩,by omega,A,.inl ⟨rfl,fun _=>rfl,fun h=>by simp at h,fun h=>by simp at h⟩⟩
   ·omega
  ·have C:=o rfl
   have D:aH a=(ah L 7).n:=by rw[C];exact kU w
   have M:=gu F;have hlen:=u.fq;have E:bU L 7 (aH a)=true:=by
    unfold bU;rw[decide_eq_true (by omega),decide_eq_true (by omega),decide_eq_true D.symm]
    rfl
   have r:bP 7 L ⟨1,a⟩=(⟨2,a⟩,aR L 7 ⟨a,⟨#[]⟩,0⟩):=by
    show(if bU L 7 (aH a)then _ else _)=_
    rw[if_pos E]
   have e2:eQ d L ⟨5,f,lk,fr,ins,⟨1,a⟩,root,word,tk,id,k⟩=aR L 7 ⟨a,⟨#[]⟩,0⟩:=by
    show(bP 7 L ⟨1,a⟩).2=_
    rw[r]
   rw[e2];simp only[jm,r]at v;obtain⟨z,A,B,N⟩:=We F u (j:=7) (c:=⟨a,⟨#[]⟩,0⟩) (.inl rfl) ⟨g,i⟩;rcases v with⟨H,_⟩|⟨_,rfl⟩
   ·exact absurd rfl H
   ·refine⟨t,n,m-1,l _ _ ⟨by show 5<=6;decide,by show 6<=13;decide⟩ rfl z B (fun e=>by simp at e) ⟨G,fun e=>by rw[bu (by omega)];exact b e,rfl,⟨N,by show a%4=1;omega,g,i⟩,by omega⟩,by omega,A,.inl ⟨rfl,fun _=>rfl,fun h=>by simp at h,fun h=>by simp at h⟩⟩
theorem iX.ac6 (B:d.Ok)(h:iX d P L t n s m)(h0:s.pc=6\/s.pc=7)(I:n<1000):rL d P L t n s m:=by
 have j:=h.base;have hp:5<=s.pc/\s.pc<=12:=by omega
 have C:=h.aA;have i:=fun L1 s' => Es (L1:=L1) (s' := s') h hp
 have o:=fun k l hk nd hm=>h.free k l hk nd hm (qT hp.1)
 have q:=h.st;have J:20<=gI d:=by unfold gI;omega
 have K:=j.tree.n4;have M:=B.m6;obtain⟨x,y,z⟩:=Jq (d:=d) j;obtain⟨pc,f,lk,fr,ins,aq,root,word,tk,id,k⟩:=s;simp only at h0 C;rcases h0 with rfl|rfl
 ·obtain⟨v,a,u,b,hm⟩:=q
  constructor
  ·exact⟨by show 6<=13;decide,⟨by show(0:Int)<=f.aA;omega,by show f.aA<1000;omega⟩,fun h=>by simp at h,fun h=>by simp at h,fun h=>by simp at h,fun h=>by simp at h,fun h=>by simp at h,fun h=>by simp at h,fun h=>by simp at h,fun h=>by simp at h,fun h=>by simp at h,fun h=>by simp at h⟩
  ·rintro s' rfl
   obtain⟨nd,rest,D,E⟩:=j.tree.root;exact⟨t,n,m-1,i L _ ⟨by show 5<=7;decide,by show 7<=13;decide⟩ rfl x z (fun e=>by simp at e) ⟨v,a,u,b,⟨nd,rest,D,E⟩,by omega⟩,by omega,y,.inl ⟨rfl,fun _=>rfl,fun h=>by simp at h,fun h=>by simp at h⟩⟩
 ·obtain⟨v,a,u,b,⟨nd,rest,c,p⟩,hm⟩:=q
  simp only at p u b;have g:nd∈nd::rest:=List.mem_cons_self;have N:=(j.tree.sh.nodes _ _ c nd g).1;have hw:=o _ _ c nd g;have F:=j.tree.node _ _ c nd g (by unfold cg;exact decide_eq_false (by omega))
  have hl:=(j.tree.sh.rows _ _ c).aA nd g;have w:ah L (d.node nd.id 1)=⟨nd.pg.sl.length,⟨#[]⟩,nd.pg.aA⟩:=F.hold ⟨d.node nd.id 1,⟨nd.pg.sl.length,⟨#[]⟩,nd.pg.aA⟩⟩ (by simp[bQ])
  have G:=j.tree.sh.ne;have r:(ah L (d.node root 1)).m=nd.pg.aA:=by rw[p,w]
  constructor
  ·refine⟨by show 7<=13;decide,⟨by show(0:Int)<=f.aA;omega,by show f.aA<1000;omega⟩,fun h=>by simp at h,fun h=>by simp at h,fun h=>by simp at h,fun h=>by simp at h,fun h=>by simp at h,fun h=>by simp at h,fun _=>⟨⟨by show 0<=root;omega,by show root<_;omega⟩,u,?_⟩,fun h=>by simp at h,fun h=>by simp at h,fun h=>by simp at h⟩
   show 0<=(ah L (d.node root 1)).m/\(ah L (d.node root 1)).m<1000000
   rw[r];omega
  ·intro s' H
   rcases H with⟨A,_⟩|⟨_,rfl⟩
   ·simp only at A
    rw[r]at A;omega
   ·exact⟨t,n,m-1,i L _ ⟨by show 5<=9;decide,by show 9<=13;decide⟩ rfl x z (fun e=>by simp at e) ⟨v,a,b,⟨nd,rest,c,p⟩,rfl,.inl rfl,by show gI d<=m-1+4+0;omega⟩,by omega,y,.inl ⟨rfl,fun _=>rfl,fun h=>by simp at h,fun h=>by simp at h⟩⟩
theorem iX.afY (A:d.Ok)(h:iX d P L t n s m)(h0:s.pc=9)(Q:n<1000):rL d P L t n s m:=by
 have o:=h.base;have hp:5<=s.pc/\s.pc<=12:=by omega
 have I:=h.aA;have i:=fun L1 s' => Es (L1:=L1) (s' := s') h hp
 have B:=h.st;have R:20<=gI d:=by unfold gI;omega
 have S:=o.tree.n4;have T:=A.m6;have U:=(o.iq 4).1;have J:=gu A;have hlen:=o.fq;obtain⟨x,y,z⟩:=Jq (d:=d) o;obtain⟨pc,f,lk,fr,ins,aq,root,word,tk,id,k⟩:=s;simp only at h0 I;subst h0;obtain⟨H,b,a,u,hok,C,hm⟩:=B;simp only at a u hok C hm;obtain⟨V,seen,ok⟩:=tk;simp only at hok C hm;subst hok;rcases C with rfl|⟨w,rfl,D⟩
 ·by_cases g:d.no<=(ah L 4).n
  ·have p:aG 4 d.no L ⟨0,seen,false⟩=(⟨2,(ah L 4).n,false⟩,L):=by
    show((⟨if d.no<=(ah L 4).n then 2 else 1,(ah L 4).n,false⟩:iJ),L)=_
    rw[if_pos g]
   have K:P.room=false:=by
    cases E:P.room with
    | false=>rfl
    | true=>have:=b E;have:=o.lim.1;omega
   constructor
   ·refine⟨by show 9<=13;decide,⟨by show(0:Int)<=f.aA;omega,by show f.aA<1000;omega⟩,fun h=>by simp at h,fun h=>by simp at h,fun h=>by simp at h,fun h=>by simp at h,fun h=>by simp at h,fun h=>by simp at h,fun h=>by simp at h,fun h=>by simp at h,fun _=>⟨by show 0<2;decide,fun e=>by simp at e,fun e=>?_⟩,fun h=>by simp at h⟩
    simp only[p]at e;cases e
   ·intro s' r
    have e2:eQ d L ⟨9,f,lk,fr,ins,aq,root,word,⟨0,seen,false⟩,id,k⟩=L:=rfl;rw[e2];simp only[jm,p]at r;rcases r with⟨v,_⟩|⟨_,_,rfl⟩|⟨_,v,_⟩
    ·omega
    ·exact⟨t,n,m-1,i L _ ⟨by show 5<=13;decide,by show 13<=13;decide⟩ rfl x z (fun e=>by simp at e) ⟨K,a,by omega⟩,by omega,y,.inl ⟨rfl,fun _=>rfl,fun h=>by simp at h,fun h=>by simp at h⟩⟩
    ·cases v
  ·have p:aG 4 d.no L ⟨0,seen,false⟩=(⟨1,(ah L 4).n,false⟩,L):=by
    show((⟨if d.no<=(ah L 4).n then 2 else 1,(ah L 4).n,false⟩:iJ),L)=_
    rw[if_neg g]
   have w:P.room=true:=by
    cases E:P.room with
    | true=>rfl
    | false=>exact absurd (o.noR E).1 g
   constructor
   ·refine⟨by show 9<=13;decide,⟨by show(0:Int)<=f.aA;omega,by show f.aA<1000;omega⟩,fun h=>by simp at h,fun h=>by simp at h,fun h=>by simp at h,fun h=>by simp at h,fun h=>by simp at h,fun h=>by simp at h,fun h=>by simp at h,fun h=>by simp at h,fun _=>⟨by show 0<2;decide,fun e=>by simp at e,fun e=>?_⟩,fun h=>by simp at h⟩
    simp only[p]at e;cases e
   ·intro s' r
    have e2:eQ d L ⟨9,f,lk,fr,ins,aq,root,word,⟨0,seen,false⟩,id,k⟩=L:=rfl;rw[e2];simp only[jm,p]at r;rcases r with⟨_,rfl⟩|⟨v,_⟩|⟨v,_⟩
    ·exact⟨t,n,m-1,i L _ ⟨by show 5<=9;decide,by show 9<=13;decide⟩ rfl x z (fun e=>by simp at e) ⟨H,b,a,u,rfl,.inr ⟨w,rfl,rfl⟩,by show gI d<=m-1+4+1;omega⟩,by omega,y,.inl ⟨rfl,fun _=>rfl,fun h=>by simp at h,fun h=>by simp at h⟩⟩
    ·omega
    ·omega
 ·have F:bU L 4 seen=true:=by
   unfold bU;rw[decide_eq_true (by omega),decide_eq_true (by omega),decide_eq_true D.symm]
   rfl
  have p:aG 4 d.no L ⟨1,seen,false⟩=(⟨2,seen,true⟩,aR L 4 ⟨seen+1,⟨#[]⟩,0⟩):=by
   show(if bU L 4 seen then _ else _)=_
   rw[if_pos F]
  have G:=b w;have M:(ah L 4).n+1<=P.lim:=G;have W:=o.lim.1;constructor
  ·refine⟨by show 9<=13;decide,⟨by show(0:Int)<=f.aA;omega,by show f.aA<1000;omega⟩,fun h=>by simp at h,fun h=>by simp at h,fun h=>by simp at h,fun h=>by simp at h,fun h=>by simp at h,fun h=>by simp at h,fun h=>by simp at h,fun h=>by simp at h,fun _=>⟨by show 1<2;decide,fun _=>⟨by show 0<=seen;omega,by show seen<_;omega⟩,fun _=>?_⟩,fun h=>by simp at h⟩
   simp only[p];omega
  ·intro s' r
   have e2:eQ d L ⟨9,f,lk,fr,ins,aq,root,word,⟨1,seen,false⟩,id,k⟩=aR L 4 ⟨seen+1,⟨#[]⟩,0⟩:=by
    show(aG 4 d.no L ⟨1,seen,false⟩).2=_
    rw[p]
   rw[e2];simp only[jm,p]at r;obtain⟨x,y,z,N⟩:=We A o (j:=4) (c:=⟨seen+1,⟨#[]⟩,0⟩) (.inr ⟨rfl,by show _<=seen+1;omega,by show seen+1<=_;omega,w⟩) ⟨by show 0<=seen+1;omega,by show seen+1<_;omega⟩
   rcases r with⟨v,_⟩|⟨_,v,_⟩|⟨_,_,rfl⟩
   ·omega
   ·cases v
   ·refine⟨t,n,m-1,i _ _ ⟨by show 5<=10;decide,by show 10<=13;decide⟩ rfl x z (fun e=>by simp at e) ⟨H,w,⟨?_,a.2⟩,u,fun k' l hk c hc=>?_,by show 1<=seen+1;omega,?_,by show 0<5;decide,fun q O=>by simp at O,by show gI d<=m-1+6+0;omega⟩,by omega,y,.inl ⟨rfl,fun _=>rfl,fun h=>by simp at h,fun h=>by simp at h⟩⟩
    ·rw[bu (by omega)];exact a.1
    ·have:=(o.tree.sh.nodes k' l hk c hc).1
     show c.id≠seen+1
     omega
    ·rw[N];exact Int.le_refl _
end
section
variable {d:aU}{P:zR}{L L1:List aQ}{t t':List (List Nd)}{n m:Nat}{s s':dS}
theorem aar (b:d.Ok){aA root:Int}(h:0<=root/\root<18446744073709551616):o9 d (fH aA root):=by
 have f1:=b.fy;refine⟨by show((1:Nat):Int)<=d.fa;omega,⟨by show(0:Int)<=0;decide,by show(0:Int)<18446744073709551616;decide⟩,fun x a=>?_,fun x a=>?_,Nat.zero_le _,fun _=>rfl⟩
 ·obtain rfl:x=⟨⟨#[]⟩,root⟩:=by simpa[fH] using a
  exact h
 ·obtain rfl:x=⟨⟨#[]⟩,root⟩:=by simpa[fH] using a
  exact Nat.zero_le _
theorem Ph (a:d.Ok){id:Int}{pg:Pg}(c:1<=id)(f:id<=d.no)(hle:(pg.sl.length:Int)<=d.fa):(∀q,q∈((⟨d.node id 0,⟨aT 0,⟨#[]⟩,0⟩⟩:Pt)::bQ d id pg)->∃k:Int,0<=k/\k<d.fa+4/\q.i=d.node id k)/\(((⟨d.node id 0,⟨aT 0,⟨#[]⟩,0⟩⟩:Pt)::bQ d id pg).map (·.i)).Nodup:=by
 have f1:=a.fy;constructor
 ·intro q b
  rcases List.mem_cons.1 b with rfl|b
  ·exact⟨0,by omega,by omega,rfl⟩
  ·obtain⟨k,k1,k2,e⟩:=fZ a c f hle q b
   exact⟨k,by omega,k2,e⟩
 ·rw[List.map_cons,List.nodup_cons]
  refine⟨fun hm=>?_,nH a c f hle⟩
  obtain⟨q,b,e⟩:=List.mem_map.1 hm;obtain⟨k,k1,k2,e2⟩:=fZ a c f hle q b;exact dH a c f (by omega) k2 (by omega) (by omega) (by omega) (e2.symm.trans e)
theorem aa3 (h:d.Ok)(f:zS d P L t){id j:Int}{c:aQ}(q:1<=id)(r:id<=d.no)(g:0<=j/\j<d.fa+4)(u:wO t id)(hc:nk c) :
  zS d P (aR L (d.node id j) c) t/\vB d L t (aR L (d.node id j) c) t/\(∀(k:Nat) (l:List Nd),t[k]?=some l->∀nd,nd∈l->ah (aR L (d.node id j) c) (d.node nd.id 0)=ah L (d.node nd.id 0))/\ah (aR L (d.node id j) c) (d.node id j)=c/\(∀i:Int,i<8->ah (aR L (d.node id j) c) i=ah L i):=by
 have w:=f.tree.n4;have o:=bZ h q r g.1 g.2;have v:=nZ h q r g.1 g.2;have B:=h.eN;have hlen:=f.fq;have p:∀i:Int,i<8->ah (aR L (d.node id j) c) i=ah L i:=fun i hi=>bu (by omega)
 obtain⟨x,y,z⟩:=Wd (L1:=aR L (d.node id j) c) h f (f.iq.put hc) (bg _ _ _) (fun k l hk nd hm i a b=>bu (by
  have A:=(f.tree.sh.nodes k l hk nd hm).1;exact cO h A.1 (by omega) q r a b g.1 g.2 (u k l hk nd hm))) (p 0 (by omega)) (by rw[p 4 (by omega)];exact⟨Int.le_refl _,w⟩) (fun i _ _ _ hi=>bu (by omega)) (fun _=>by rw[p 4 (by omega)]) (fun e=>by rw[p 4 (by omega)];exact f.lim.2 e)
 exact⟨x,y,z,cD o.2.1 (by omega),p⟩
theorem iX.ac8 (w:d.Ok)(h:iX d P L t n s m)(h0:s.pc=10)(Wb:n<1000):rL d P L t n s m:=by
 have B:=h.base;have hp:5<=s.pc/\s.pc<=12:=by omega
 have W:=h.aA;have o:=fun L1 s' => Es (L1:=L1) (s' := s') h hp
 have C:=h.st;have hg:20<=gI d:=by unfold gI;omega
 have rI:=B.tree.n4;have jw:=w.m6;obtain⟨pc,f,lk,fr,ins,aq,root,word,tk,id,k⟩:=s;simp only at h0 W;subst h0;obtain⟨M,N,b,⟨nd,rest,p,r⟩,l,x,D,hk,g,hm⟩:=C;simp only at b r l x D hk g hm;have X:=(B.tree.sh.nodes _ _ p nd List.mem_cons_self).1;have O:=aar (aA:=f.aA) w (show 0<=root/\root<18446744073709551616 by omega)
 obtain⟨ps,a⟩:∃ps,ps=dS.ps d ⟨10,f,lk,fr,ins,aq,root,word,tk,id,k⟩:=⟨_,rfl⟩;rw[←a]at g;have y:ps=(⟨d.node id 0,⟨aT 0,⟨#[]⟩,0⟩⟩:Pt)::bQ d id (fH f.aA root):=a;have z:ps.length=5:=by rw[y,List.length_cons,xU];rfl
 obtain⟨n1,E⟩:=Ph (pg:=fH f.aA root) w x (by omega) O.le
 rw[←y]at n1 E;have v:k<ps.length:=by omega
 obtain⟨c,Y,cb,ce⟩:=n1 ps[k] (List.getElem_mem v);have F:nk ps[k].c:=by
  have hm:ps[k]∈ps:=List.getElem_mem v;generalize ps[k]=q at hm;rw[y]at hm;rcases List.mem_cons.1 hm with rfl|hm
  ·exact⟨by show(0:Int)<=aT 0;decide,by show aT 0<(18446744073709551616:Int);decide⟩
  ·exact pL w O q hm
 have G:eQ d L ⟨10,f,lk,fr,ins,aq,root,word,tk,id,k⟩=aR L (d.node id c) ps[k].c:=by
  show(match (dS.ps d ⟨10,f,lk,fr,ins,aq,root,word,tk,id,k⟩)[k]? with|some Q=>aR L Q.i Q.c|none=>L)=_
  rw[←a,asx v,←ce]
 obtain⟨R,S,T,Z,H⟩:=aa3 w B x (show id<=d.no by omega) ⟨Y,cb⟩ l F
 have A:∀q,q∈ps.take (k+1)->ah (aR L (d.node id c) ps[k].c) q.i=q.c:=by
  intro q I;obtain⟨i0,u⟩:=ast I;rw[List.getElem?_take]at u;split at u
  ·by_cases e:i0=k
   ·subst e
    rw[asx v]at u;obtain rfl:=asy u;rw[ce];exact Z
   ·have J:q.i≠d.node id c:=by
     rw[List.nodup_iff_pairwise_ne,List.pairwise_map,List.pairwise_iff_getElem]at E;have U:=(asu.1 u);have:=E i0 k U.1 v (by omega)
     rw[U.2,ce]at this;exact this
    rw[bu J];exact g q (asw (i:=i0) (by rw[List.getElem?_take,if_pos (by omega)];exact u))
  ·cases u
 constructor
 ·refine⟨by show 10<=13;decide,⟨by show(0:Int)<=f.aA;omega,by show f.aA<1000;omega⟩,fun h=>by simp at h,fun h=>by simp at h,fun h=>by simp at h,fun h=>by simp at h,fun h=>by simp at h,fun h=>by simp at h,fun h=>by simp at h,fun h=>by simp at h,fun h=>by simp at h,fun _=>⟨?_,by show 0<=id;omega,by show id<_;omega⟩⟩
  rw[←a];exact v
 ·intro s' K
  rw[G];simp only[jm]at K;rw[←a,z]at K;have j:wP (aR L (d.node id c) ps[k].c) word:=⟨by rw[H 7 (by omega)];exact b.1,b.2⟩
  rcases K with⟨V,rfl⟩|⟨V,rfl⟩
  ·refine⟨t,n,m-1,o _ _ ⟨by show 5<=10;decide,by show 10<=13;decide⟩ rfl R T (fun e=>by simp at e) ⟨M,N,j,⟨nd,rest,p,r⟩,l,x,by rw[H 4 (by omega)];exact D,by show k+1<5;omega,?_,by show gI d<=m-1+6+(k+1);omega⟩,by omega,S,.inl ⟨rfl,fun _=>rfl,fun h=>by simp at h,fun h=>by simp at h⟩⟩
   show ∀q,q∈(dS.ps d ⟨10,f,lk,fr,ins,aq,root,word,tk,id,k⟩).take (k+1)->_
   rw[←a];exact A
  ·rw[V,←z,List.take_length]at A
   refine⟨t,n,m-1,o _ _ ⟨by show 5<=11;decide,by show 11<=13;decide⟩ rfl R T (fun e=>by simp at e) ⟨M,N,j,⟨nd,rest,p,r⟩,l,x,by rw[H 4 (by omega)];exact D,⟨fun q I=>A q (by rw[y];exact List.mem_cons_of_mem _ I),A ⟨d.node id 0,⟨aT 0,⟨#[]⟩,0⟩⟩ (by rw[y];exact List.mem_cons_self)⟩,by show gI d<=m-1+11;omega⟩,by omega,S,.inl ⟨rfl,fun _=>rfl,fun h=>by simp at h,fun h=>by simp at h⟩⟩
theorem iX.ac9 (l:d.Ok)(h:iX d P L t n s m)(h0:s.pc=11)(F:n<1000):rL d P L t n s m:=by
 have v:=h.base;have hp:5<=s.pc/\s.pc<=12:=by omega
 have y:=h.aA;have o:=fun L1 s' => Es (L1:=L1) (s' := s') h hp
 have r:=h.st;have G:20<=gI d:=by unfold gI;omega
 have H:=v.tree.n4;have I:=l.m6;have f1:=l.fy;obtain⟨pc,f,lk,fr,ins,aq,root,word,tk,id,k⟩:=s;simp only at h0 y;subst h0;obtain⟨z,A,g,⟨nd,rest,u,p⟩,j,q,w,i,hm⟩:=r;simp only at g p j q w i;obtain⟨B,C,D,E,x⟩:=aa3 (c:=⟨aH (aT 0),⟨#[]⟩,0⟩) l v q (show id<=d.no by omega) ⟨Int.le_refl 0,by omega⟩ j ⟨by show(0:Int)<=aH (aT 0);decide,by show aH (aT 0)<(18446744073709551616:Int);decide⟩
 constructor
 ·exact⟨by show 11<=13;decide,⟨by show(0:Int)<=f.aA;omega,by show f.aA<1000;omega⟩,fun h=>by simp at h,fun h=>by simp at h,fun h=>by simp at h,fun h=>by simp at h,fun h=>by simp at h,fun h=>by simp at h,fun h=>by simp at h,fun h=>by simp at h,fun h=>by simp at h,fun h=>by simp at h⟩
 ·rintro s' rfl
  refine⟨t,n,m-1,o _ _ ⟨by show 5<=12;decide,by show 12<=13;decide⟩ rfl B D (fun e=>by simp at e) ⟨z,A,⟨(x 7 (by omega)).trans g.1,g.2⟩,⟨nd,rest,u,p⟩,j,q,by show id<=(ah (aR L (d.node id 0) _) 4).n;rw[x 4 (by omega)];exact w,?_,?_,by omega⟩,by omega,C,.inl ⟨rfl,fun _=>rfl,fun h=>by simp at h,fun h=>by simp at h⟩⟩
  ·refine i.1.frame l q (by omega) (by show((1:Nat):Int)<=d.fa;omega) (fun k a b=>?_)
   exact bu (dH l q (by omega) (by omega) b (by omega) (by omega) (by omega))
  ·show ah (aR L (d.node id 0) ⟨aH (aT 0),⟨#[]⟩,0⟩) (d.node id 0)=_
   rw[E];rfl
theorem iX.ada (C:d.Ok)(h:iX d P L t n s m)(h0:s.pc=12)(Wb:n<1000):rL d P L t n s m:=by
 have p:=h.base;have S:=h.aA;have T:=h.n1;have U:=h.st;have kI:=h.task (.inr (by omega))
 have D:=h.ch;have je:=h.ref;have y:=fun k l hk nd hm=>h.free k l hk nd hm (qT (by omega))
 have iY:=h.vE;have E:=h.wd;have hg:gI d=20+wC d 1:=rfl;have rI:=p.tree.n4;have jw:=C.m6;have f1:=C.fy;have hcl:=gu C;obtain⟨pc,f,lk,fr,ins,aq,root,word,tk,id,k⟩:=s;simp only at h0 S kI D;subst h0;obtain⟨M,V,q,⟨nd,rest,u,F⟩,z,ju,pq,G,B,hm⟩:=U;simp only at q F z ju pq G B;obtain⟨r,H⟩:∃r:Nd,r=⟨id,⟨#[]⟩,fH f.aA root⟩:=⟨_,rfl⟩;have A:r.pg=⟨t.length,[⟨⟨#[]⟩,nd.id⟩],⟨#[]⟩,true,0⟩:=by
  rw[H];show fH f.aA root=_
  rw[S,F,M];rfl
 have w:r.id=id:=by rw[H]
 have hlen:=p.fq;have xV:=p.tree.wM;have W:Vp d L r:=by
  have hh:Holds L (bQ d r.id r.pg):=by rw[H];exact G
  refine⟨lF hh ?_ ?_ ?_,hh,?_,?_⟩
  ·rw[A];show 0<=(t.length:Int)/\(t.length:Int)<1000000;omega
  ·rw[A];show((1:Nat):Int)<=d.fa;omega
  ·rw[A];exact fun _=>rfl
  ·rw[w,B]
  ·rw[w,B]
 obtain⟨q1,q2⟩:=p.tree.grow C hlen u (r:=r) (by omega) (by omega) (by rw[w];exact z) (by rw[H]) A W (by rw[w,B];rfl)
 rw[w]at q1 q2;have X:eQ d L ⟨12,f,lk,fr,ins,aq,root,word,tk,id,k⟩=aR L 0 ⟨id,⟨#[]⟩,0⟩:=rfl;have g:∀j:Int,j≠0->ah (aR L 0 ⟨id,⟨#[]⟩,0⟩) j=ah L j:=fun j N=>bu N
 have v:∀(k:Nat) (x:List Nd),(t++[[r]])[k]?=some x->∀a,a∈x->(t[k]?=some x\/(k=t.length/\a=r)):=by
  intro k x i a o;rcases Nat.lt_or_ge k t.length with hk|hk
  ·rw[List.getElem?_append_left hk]at i;exact .inl i
  ·have I:=(asu.1 i).1
   rw[List.length_append]at I;simp at I;obtain rfl:k=t.length:=by omega
   rw[List.getElem?_append_right hk,Nat.sub_self]at i;obtain rfl:x=[r]:=by simpa using i.symm
   exact .inr ⟨rfl,by simpa using o⟩
 have O:∀c:Nd,1<=c.id->c.id<=d.no->ah (aR L 0 ⟨id,⟨#[]⟩,0⟩) (d.node c.id 0)=ah L (d.node c.id 0):=fun c a b=>g _ (by have:=iw C c.id 0 a b (by omega) (by omega);omega)
 have Y:=p.tree.sh.ne;have Z:(t++[[r]])[t.length]?=some [r]:=by rw[List.getElem?_append_right (Nat.le_refl _),Nat.sub_self];rfl
 constructor
 ·exact⟨by show 12<=13;decide,⟨by show(0:Int)<=f.aA;omega,by show f.aA<1000;omega⟩,fun h=>by simp at h,fun h=>by simp at h,fun h=>by simp at h,fun h=>by simp at h,fun h=>by simp at h,fun h=>by simp at h,fun h=>by simp at h,fun h=>by simp at h,fun h=>by simp at h,fun h=>by simp at h⟩
 ·rintro s' rfl
  rw[X];refine⟨t++[[r]],n,m-1,⟨p.next (p.iq.put ⟨by show 0<=id;omega,by show id<_;omega⟩) (by rw[bg];exact hlen) q1 (fun k x i a o=>?_) (List.getElem?_append_left Y) (fun j a _ _ _=>g j a) (fun e=>by rw[V]at e;cases e) (fun e=>by rw[g 4 (by omega)];exact p.lim.2 e),T,S,fun _=>?_,D,fun c hc=>?_,fun k' x i a o _=>?_,fun e=>by simp at e,fun e=>(by rw[V]at e;cases e),fun k' x i a o=>?_,⟨by rw[List.length_append,M];rfl,?_,?_,V,⟨by rw[g 7 (by omega)];exact q.1,q.2⟩,by omega⟩⟩,by omega,q2,.inr (.inr ⟨rfl,rfl,nd,rest,r,u,rfl,A,by rw[w];exact z⟩)⟩
  ·rcases v k x i a o with h|⟨_,rfl⟩
   ·exact p.sz k x h a o
   ·rw[H];exact Nat.zero_le _
  ·obtain⟨l,c,hl,hc⟩:=kI
   exact⟨l,c,by rw[List.getElem?_append_left (asu.1 hl).1];exact hl,hc⟩
  ·have e1:eC ⟨8,f,lk,fr,ins,aq,root,word,tk,id,k⟩=eC ⟨12,f,lk,fr,ins,aq,root,word,tk,id,k⟩:=by
    rw[tL (by show 5<=8/\8<=13;decide),tL (by show 5<=12/\12<=13;decide)]
   have e2:mD (t++[[r]]) 1 c.id↔mD t 1 c.id:=by
    constructor
    ·rintro ⟨l,a,x,hl,o,i,J⟩
     rcases v 1 l hl a o with h|⟨h,rfl⟩
     ·exact⟨l,a,x,h,o,i,J⟩
     ·exfalso
      rw[A]at i;obtain rfl:x=⟨⟨#[]⟩,nd.id⟩:=by simpa using i
      simp only at J;have Q:=p.r0;have K:=u;rw[show t.length-1=0 by omega,Q]at K
      have K:=asy K;rw[K]at hc Q;obtain⟨j,N⟩:=ast hc;rw[List.getElem?_drop]at N;have:=(p.tree.sh.inj 0 0 _ _ 0 (1+j) nd c Q Q rfl N J).2;omega
    ·rintro ⟨l,a,x,hl,o,i,J⟩
     exact⟨l,a,x,by rw[List.getElem?_append_left (asu.1 hl).1];exact hl,o,i,J⟩
   rw[e2];show mD t 1 c.id↔P.R c.id\/(eC ⟨8,f,lk,fr,ins,aq,root,word,tk,id,k⟩=true/\c.id=P.ch0)
   rw[e1];exact je c hc
  ·rcases v k' x i a o with h|⟨_,rfl⟩
   ·have hb:=(p.tree.sh.nodes k' x h a o).1
    rw[O a hb.1 (by omega)]
    exact y k' x h a o
   ·rw[O a (by omega) (by omega),w,B];rfl
  ·rcases v k' x i a o with h|⟨_,rfl⟩
   ·have hb:=(p.tree.sh.nodes k' x h a o).1
    rw[O a hb.1 (by omega)]
    have:=E k' x h a o;omega
   ·rw[O a (by omega) (by omega),w,B]
    have K:=E _ _ u nd List.mem_cons_self;have h2:=(p.iq (d.node nd.id 0)).1;show(0:Int)+4*((m-1:Nat):Int)<=_
    omega
  ·show((t++[[r]])[n]?.map small).getD false=true
   rw[←M,Z];show small [r]=true
   show decide (r.pg.sl.length<=3)=true
   rw[A];rfl
  ·show oA (t++[[r]]) n=1
   rw[jz,←M,List.drop_append_of_le_length (Nat.le_refl _),List.drop_length];rfl
theorem iX.af0 (M:d.Ok)(h:iX d P L t n s m)(h0:s.pc=8\/s.pc=13)(T:n<1000):rL d P L t n s m:=by
 have r:=h.base;have C:=h.aA;have u:=h.n1;have v:=h.st;have o:=h.ch;have G:=h.ref;have i:=fun k l hk nd hm=>h.free k l hk nd hm (qT (by omega))
 have H:=h.vE;have x:=h.wd;have I:=fun e=>h.task (.inr e)
 have U:=r.tree.n4;obtain⟨pc,f,lk,fr,ins,aq,root,word,tk,id,k⟩:=s;simp only at h0 C I o;have y:∀ {w:Int},wP L w->zS d P (aR L 7 ⟨aH w,⟨#[]⟩,0⟩) t/\vB d L t (aR L 7 ⟨aH w,⟨#[]⟩,0⟩) t/\(∀(k:Nat) (l:List Nd),t[k]?=some l->∀nd,nd∈l->ah (aR L 7 ⟨aH w,⟨#[]⟩,0⟩) (d.node nd.id 0)=ah L (d.node nd.id 0))/\(ah (aR L 7 ⟨aH w,⟨#[]⟩,0⟩) 7).n%4=0/\(ah (aR L 7 ⟨aH w,⟨#[]⟩,0⟩) 4).n=(ah L 4).n:=by
  rintro w ⟨V,W,X,Y⟩;have N:aH w=w-1:=by unfold aH;omega
  obtain⟨z,A,p,B⟩:=We M r (j:=7) (c:=⟨aH w,⟨#[]⟩,0⟩) (.inl rfl) ⟨by show 0<=aH w;omega,by show aH w<_;omega⟩
  exact⟨z,A,p,by rw[B];show aH w%4=0;omega,by rw[bu (by omega)]⟩
 rcases h0 with rfl|rfl
 ·obtain⟨Z,g,D,O,a,hm⟩:=v
  simp only at a;obtain⟨z,A,p,B,J⟩:=y a;constructor
  ·exact⟨by show 8<=13;decide,⟨by show(0:Int)<=f.aA;omega,by show f.aA<1000;omega⟩,fun h=>by simp at h,fun h=>by simp at h,fun h=>by simp at h,fun h=>by simp at h,fun h=>by simp at h,fun h=>by simp at h,fun h=>by simp at h,fun _=>a.2.2,fun h=>by simp at h,fun h=>by simp at h⟩
  ·rintro s' rfl
   have q:eQ d L ⟨8,f,lk,fr,ins,aq,root,word,tk,id,k⟩=aR L 7 ⟨aH word,⟨#[]⟩,0⟩:=rfl;rw[q];obtain⟨l,hl⟩:∃l,t[n]?=some l:=⟨_,asx (by omega)⟩
   have E:=(r.tree.sh.rows _ l hl).ne;refine⟨t,n,m-1,⟨z,u,C,fun _=>I (by decide),o,fun c hc=>?_,fun k' l' b c hc _=>?_,fun _=>B,H,fun k' l' b c hc=>?_,⟨fun _=>?_,fun l1 K=>?_,by show(0:Nat)≠4;decide,.inl ⟨by omega,_,vD.begin ⟨l,l[0],hl,List.getElem_mem E⟩ (Nat.le_refl _),?_⟩⟩⟩,by omega,A,.inl ⟨rfl,fun _=>rfl,fun h=>by simp at h,fun h=>by simp at h⟩⟩
   ·have F:eC ⟨0,f,nK,fr,ins,aq,root,word,tk,id,k⟩=eC ⟨8,f,lk,fr,ins,aq,root,word,tk,id,k⟩:=by simp[eC]
    rw[F];exact G c hc
   ·rw[p k' l' b c hc];exact i k' l' b c hc
   ·rw[p k' l' b c hc]
    have:=x k' l' b c hc;omega
   ·rw[J]
    unfold cL;rw[if_pos g];simpa using r.lim.2 O
   ·rw[show t.length-1=n by omega]at K
    rw[if_pos (by omega)]
    rw[K]at g;have Q:=r.b2;have:l1.length=1:=by
     have g:small l1=true:=g;unfold small at g;split at g
     ·rfl
     ·cases g
    omega
   ·rw[if_pos g,D]
    unfold wC at hm;omega
 ·obtain⟨S,a,hm⟩:=v
  simp only at a;obtain⟨z,A,p,B,J⟩:=y a;constructor
  ·exact⟨by show 13<=13;decide,⟨by show(0:Int)<=f.aA;omega,by show f.aA<1000;omega⟩,fun h=>by simp at h,fun h=>by simp at h,fun h=>by simp at h,fun h=>by simp at h,fun h=>by simp at h,fun h=>by simp at h,fun h=>by simp at h,fun _=>a.2.2,fun h=>by simp at h,fun h=>by simp at h⟩
  ·rintro s' rfl
   have q:eQ d L ⟨13,f,lk,fr,ins,aq,root,word,tk,id,k⟩=aR L 7 ⟨aH word,⟨#[]⟩,0⟩:=rfl;rw[q];refine⟨t,n,m-1,⟨z,u,C,fun hp=>by simp at hp,o,fun c hc=>?_,fun k' l' b c hc _=>?_,fun _=>B,H,fun k' l' b c hc=>?_,fun e=>?_⟩,by omega,A,.inl ⟨rfl,fun _=>rfl,fun h=>by simp at h,fun h=>by simp at h⟩⟩
   ·have F:eC ⟨14,jF.end f false,lk,fr,ins,aq,root,word,tk,id,k⟩=eC ⟨13,f,lk,fr,ins,aq,root,word,tk,id,k⟩:=by
     simp[eC,jF.end];rfl
    show mD t 1 c.id↔P.R c.id\/(eC ⟨14,jF.end f false,lk,fr,ins,aq,root,word,tk,id,k⟩=true/\c.id=P.ch0)
    rw[F];exact G c hc
   ·rw[p k' l' b c hc];exact i k' l' b c hc
   ·rw[p k' l' b c hc]
    have:=x k' l' b c hc;omega
   ·rw[S]at e;cases e
theorem iX.step (a:d.Ok)(c:d.no<=900)(h:iX d P L t n s m)(h0:s.pc<14):rL d P L t n s m:=by
 have j:=h.base;have q:=j.tree.wM;have o:n<999:=by
  by_cases i:s.pc<=1\/(5<=s.pc/\s.pc<=12)
  ·have:=h.nt i;omega
  ·by_cases g:s.pc=13
   ·have b:=h.st
    have p:=h.vE;obtain⟨pc,f,lk,fr,ins,aq,root,word,tk,id,k⟩:=s;simp only at g;subst g;have:=p b.1;omega
   ·have:∃l,t[n]?=some l:=by
     have b:=h.st;obtain⟨pc,f,lk,fr,ins,aq,root,word,tk,id,k⟩:=s;simp only at i g h0;rcases(by omega:pc=2\/pc=3\/pc=4)with rfl|rfl|rfl
     ·obtain⟨⟨_,l,_,hl,_⟩,_⟩:=b
      exact⟨l,hl⟩
     ·obtain⟨⟨l,_,hl,_⟩,_⟩:=b
      exact⟨l,hl⟩
     ·obtain⟨⟨_,l,_,hl,_⟩,_⟩:=b
      exact⟨l,hl⟩
    obtain⟨l,hl⟩:=this;have:=(asu.1 hl).1;omega
 rcases(by omega:s.pc=0\/s.pc=1\/s.pc=2\/s.pc=3\/s.pc=4\/s.pc=5\/(s.pc=6\/s.pc=7)\/(s.pc=8\/s.pc=13)\/s.pc=9\/s.pc=10\/s.pc=11\/s.pc=12)with e|e|e|e|e|e|e|e|e|e|e|e
 ·exact h.step0 a c e
 ·exact h.Vz a c e
 ·exact h.afW a c e (by omega)
 ·exact h.afS a c e o
 ·exact h.afR a c e (by omega)
 ·exact h.afX a e (by omega)
 ·exact h.ac6 a e (by omega)
 ·exact h.af0 a e (by omega)
 ·exact h.afY a e (by omega)
 ·exact h.ac8 a e (by omega)
 ·exact h.ac9 a e (by omega)
 ·exact h.ada a e (by omega)
end
end
section
def qU (v:Gj):List Value:=[.int .u64 v.st,.string v.k,.bool v.del]
def gZ (vs:List Gj):List Value:=vs.flatMap qU
theorem xX (b:List Gj):∀(i:Nat)(v:Gj),b[i]?=some v->(gZ b)[i*3]?=some (.int .u64 v.st)/\(gZ b)[i*3+1]?=some (.string v.k)/\(gZ b)[i*3+2]?=some (.bool v.del):=by
 induction b with
 | nil=>intro i v h;simp at h
 | cons a b ih=>
  intro i v h;have e:gZ (a::b)=.int .u64 a.st :: .string a.k :: .bool a.del::gZ b:=rfl;rw[e];cases i with
  | zero=>simp at h;subst h;exact⟨rfl,rfl,rfl⟩
  | succ i=>
   have:=ih i v (by simpa using h)
   rw[show(i+1)*3=i*3+3 by omega]
   simpa using this
theorem aas:(Tryz.prog.info? 186).map (fun i=>(i.zero,i.size,i.bytes))=some (some (.agg #[.int .u64 0,.string ⟨#[]⟩,.bool false]),3,32):=by kernel_rfl
def vG (w:World)(a:Option Addr)(vs:List Gj):Prop:=vs.length<=1000000000/\∀(i:Nat) (v:Gj),vs[i]?=some v ->
 ∃b off,a=some ⟨b,off,none⟩/\b<w.heap.size/\w.cell? ⟨b,off+i*3,none⟩=some (.int .u64 v.st)/\w.cell? ⟨b,off+i*3+1,none⟩=some (.string v.k)/\w.cell? ⟨b,off+i*3+2,none⟩=some (.bool v.del)
theorem vG.same {w w':World}{a:Option Addr}{g:List Gj}(h:vG w a g)(f:Below w.heap.size w w'):vG w' a g:=
 ⟨h.1,fun i v j=>by
  obtain⟨b,off,e,c,k,l,o⟩:=h.2 i v j;exact⟨b,off,e,Nat.lt_of_lt_of_le c f.size,by rw[f.cell (p:=⟨b,_,none⟩) c];exact k,by rw[f.cell (p:=⟨b,_,none⟩) c];exact l,by rw[f.cell (p:=⟨b,_,none⟩) c];exact o⟩⟩
theorem St.Wh {K:aM}{w:World}{F:List aC}{a:Option Addr}{n cap:Nat}{T:TypeId}{b:List Gj}(h:St K w (az (.slice a n cap) T 3 n (gZ b)::F))(j:b.length<=1000000000):vG w a b:=by
 refine⟨j,fun i v k=>?_⟩
 obtain⟨r0,r1,l⟩:=xX b i v k;obtain⟨g,e,f⟩:=h.cQ r0;obtain⟨q,c,o⟩:=h.cQ r1;obtain⟨r,e2,p⟩:=h.cQ l;rw[e]at c e2;simp only[Option.some.injEq,Addr.mk.injEq,and_true]at c e2;subst c e2;exact⟨g,0,e,World.block_lt_of_cell? _ _ f,by rw[Nat.zero_add];exact f,by rw[Nat.zero_add];exact o,by rw[Nat.zero_add];exact p⟩
def V9 (N:Int)(vs:List Gj):Prop:=∀(i:Nat) (v:Gj),vs[i]?=some v->0<v.st/\v.st<=N/\(v.del=true->v.k=⟨#[]⟩)/\∀u,vs[i+1]?=some u->u.st<v.st
theorem Jr {a:Option Addr}{cap:Nat}{o:List Gj}{N:Int}(w:World)(h:vG w a o)(E:V9 N o):Calls Tryz.prog 125 #[.slice a o.length cap] w fun e w' => e=.returned (.bool true)/\Below w.heap.size w w' := by
 have hlen:=h.1;have H:=ass h;have F:=ass E;obtain⟨n,y⟩:∃n,n=o.length:=⟨_,rfl⟩;rw[←y]at hlen ⊢;have G:=ass y;clear h y E;go_enter Tryz.func125,Tryz.ntmps125
 go_wp2
 go_loopw [3] (fun v wr=>∃i:Nat,i<=n/\v=.int .i64 i/\Hid (Below w.heap.size w wr)) (fun v _=>n-(intOf v).toNat)
 case atStart=>exact⟨0,by omega,rfl,ass (Below.refl _ _)⟩
 case round=>
  obtain⟨i,hi,rfl,HB⟩:=hrel;by_cases z:i<n
  ·have A:i<o.length:=by rw[←G.out];exact z
   obtain⟨u,hu⟩:∃u,o[i]?=some u:=⟨_,asx A⟩;have g:=H.out.same HB.out;obtain⟨b,off,rfl,W,Q,x,I⟩:=g.2 i u hu;obtain⟨X,Y,l,J⟩:=F.out i u hu;have Z:(u.st == 0)=false:=by simp;omega
   obtain⟨q,f⟩:∃q,q=u.del:=⟨_,rfl⟩;obtain⟨B,r⟩:∃B,B=u.k:=⟨_,rfl⟩;rw[←f]at I l;rw[←r]at x l;rcases Nat.eq_zero_or_pos i with h0|h0
   ·subst h0
    have R:wr.cell? ⟨b,off,none⟩=some (.int .u64 u.st):=by simpa using Q
    have C:wr.cell? ⟨b,off+1,none⟩=some (.string B):=by simpa using x
    have S:wr.cell? ⟨b,off+2,none⟩=some (.bool q):=by simpa using I
    clear J g;rcases Bool.eq_false_or_eq_true q with rfl|rfl
    ·rw[l rfl]at x C
     clear l r f;as_aux_lemma=>
     go_upto_region 6 with(fail)
     refine bK (by kernel_rfl) (by kernel_rfl) ?_
     repeat (go_big_quiet_step (fail))
     refine wpQuiet_nil ?_
     intro D c;go_wp2
     go_roundw
     case rel=>exact⟨1,by omega,by go_num,ass (HB.out.trans (c.mono HB.out.size))⟩
     case measure=>simp[intOf];omega
    ·clear l r f
     as_aux_lemma=>
     go_upto_region 6 with(fail)
     refine bK (by kernel_rfl) (by kernel_rfl) ?_
     repeat (go_big_quiet_step (fail))
     refine wpQuiet_nil ?_
     intro D c;go_wp2
     go_roundw
     case rel=>exact⟨1,by omega,by go_num,ass (HB.out.trans (c.mono HB.out.size))⟩
     case measure=>simp[intOf];omega
   ·obtain⟨j,rfl⟩:∃j,i=j+1:=⟨i-1,by omega⟩
    obtain⟨p,hp⟩:∃p,o[j]?=some p:=⟨_,asx (by have:=G.out;omega)⟩
    obtain⟨b',K,M,T,p0,U,V⟩:=g.2 j p hp;simp only[Option.some.injEq,Addr.mk.injEq,and_true]at M;obtain⟨rfl,rfl⟩:=M;obtain⟨r1,_,_,O⟩:=F.out j p hp;have z2:(p.st != 0)=true:=by simp;omega
    have z3:¬ (p.st<=u.st):=by have:=O u hu;omega
    have hj:((j+1:Nat):Int)-1=j:=by omega
    clear J g O U V hp;rcases Bool.eq_false_or_eq_true q with rfl|rfl
    ·rw[l rfl]at x
     clear l r f;as_aux_lemma=>
     go_upto_region 6 with(fail)
     refine bK (by kernel_rfl) (by kernel_rfl) ?_
     repeat (go_big_quiet_step (fail))
     refine wpQuiet_nil ?_
     intro D c;go_wp2
     go_roundw
     case rel=>exact⟨j+2,by omega,by go_num,ass (HB.out.trans (c.mono HB.out.size))⟩
     case measure=>simp[intOf];omega
    ·clear l r f
     as_aux_lemma=>
     go_upto_region 6 with(fail)
     refine bK (by kernel_rfl) (by kernel_rfl) ?_
     repeat (go_big_quiet_step (fail))
     refine wpQuiet_nil ?_
     intro D c;go_wp2
     go_roundw
     case rel=>exact⟨j+2,by omega,by go_num,ass (HB.out.trans (c.mono HB.out.size))⟩
     case measure=>simp[intOf];omega
  ·obtain rfl:i=n:=by omega
   go_wp2
   go_ret;exact⟨rfl,HB.out⟩
end
end Go.Proofs.YtlpdhhhgckpcfaaGreat
