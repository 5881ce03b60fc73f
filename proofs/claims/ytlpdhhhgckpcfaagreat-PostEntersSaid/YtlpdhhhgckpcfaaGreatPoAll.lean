/- Post in a tree (pure): what it keep. -/
import Derived.Test.YtlpdhhhgckpcfaaGreatConcIT
namespace Go.Proofs.YtlpdhhhgckpcfaaGreat
set_option linter.unusedSimpArgs false
set_option linter.unusedVariables false
open Go.RowKit
set_option maxRecDepth 100000
section
section
variable {d:aR}{L L':List aO}{t t':List (List Nd)}
theorem dQ.frame (hd:d.Ok)(ht:dQ d L t)(hn:∀(k:Nat)(l:List Nd),t[k]?=some l->∀nd,nd∈l->∀j:Int,0<=j->j<d.fa+4->ah L' (d.node nd.id j)=ah L (d.node nd.id j))(h0:(ah L' 0).n=(ah L 0).n)(h4:(ah L 4).n<=(ah L' 4).n/\(ah L' 4).n<=d.no) :
  dQ d L' t/\wA d L t L' t/\∀(k:Nat) (l:List Nd),t[k]?=some l->∀nd,nd∈l->ah L' (d.node nd.id 0)=ah L (d.node nd.id 0):=by
 have f1:=hd.fo;have tz:=ht.n4;have hw:∀(k:Nat) (l:List Nd),t[k]?=some l->∀nd,nd∈l->ah L' (d.node nd.id 0)=ah L (d.node nd.id 0):=fun k l hk nd hm=>hn k l hk nd hm 0 (by omega) (by omega)
 refine⟨⟨ht.sh.mono h4.1,h4.2,?_,fun k l hk nd hm hc=>?_,fun k l hk nd hm he=>?_⟩,fun k l hk nd hm=>⟨l,nd,hk,hm,rfl,rfl,by rw[hw k l hk nd hm];exact kG.refl _ _⟩,hw⟩
 ·rw[h0];exact ht.root
 ·have hb:=(ht.sh.nodes k l hk nd hm).1
  exact(ht.node k l hk nd hm (by rw[←hw k l hk nd hm];exact hc)).frame hd hb.1 (by omega) (hn k l hk nd hm)
 ·rw[hw k l hk nd hm]at he ⊢
  exact ht.wd k l hk nd hm he
end
structure Eu where
 L0:List aO
 l0:List Nd
 R:Int->Prop
 ch0:Int
 B:Nat
 room:Bool
 T0:Nat
 lim:Int
structure zB (d:aR)(P:Eu)(L:List aO)(t:List (List Nd)):Prop where
 gQ:bD L
 eu:(L.length:Int)=d.cells
 tree:dQ d L t
 sz:SzT t
 r0:t[0]?=some P.l0
 rest:∀j:Int,j≠0->j≠4->j≠7->(j<d.A\/d.B<=j)->ah L j=ah P.L0 j
 b2:2<=P.B
 noR:P.room=false->d.no<=(ah L 4).n/\t.length=P.T0
 lim:P.lim<=d.no/\(P.room=true->(ah L 4).n<=P.lim)
def ew (s:eE):Bool:=decide (2<=s.f.ak) || s.pc == 3 || s.pc == 4 || (s.pc == 2 && !s.ins.full) || (s.pc == 14 && s.f.po)
def aan (s:eE)(id:Int):Prop:=match s.pc with
 | 0=>ko s.lk=true/\id=s.lk.id
 | 1=>id=s.fr.id
 | 2=>id=s.fr.id\/(s.ins.sp=true/\s.ins.full=false/\id=s.ins.id)
 | 3=>id=s.ins.id
 | 4=>id=s.fr.id
 | _=>False
def wB (L:List aO)(w:Int):Prop:=ah L 7=⟨w,⟨#[]⟩,0⟩/\w%4=1/\0<=w/\w<18446744073709551616
def qM (d:aR)(L:List aO)(t:List (List Nd))(n:Nat)(id w:Int)(low:ByteArray):Prop:=∃l nd,t[n]?=some l/\nd∈l/\nd.id=id/\nd.low=low/\si d L id w
def Room (d:aR)(P:Eu)(L:List aO)(x:Nat):Prop:=P.room=true->(ah L 4).n+x<=P.lim
def zn (P:Eu)(t:List (List Nd))(x:Nat):Prop:=∀l,t[t.length-1]?=some l->l.length+x<=P.B
def ae3 (d:aR)(P:Eu)(L:List aO)(t:List (List Nd))(n:Nat)(s:eE)(m:Nat):Prop:=match s.pc with
 | 0=>Room d P L (cL t n)/\zn P t (if n<t.length then 1 else 0)/\s.lk.pc≠4/\((n<t.length/\∃m0,Jb d L t s.f.sep n n s.lk m0/\m0+wI d+(if (t[n]?.map small).getD false then 0 else cU d P.B (t.drop (n+1)))<=m) \/
   (t.length=n/\∃m0,Jb d L t s.f.sep n (n-1) s.lk m0/\m0+gI d<=m))
 | 1=>∃i l nd,qK t n i l nd s.fr s.fu/\kT d s.fr s.fu/\iZ d L s.fr s.fu s.ins/\qL t s.ins/\s.ins.pc<=2/\s.ins.full=false/\((s.ins.pc<=1\/s.ins.sp=true)->d.fa<(s.fu.sl.length:Int)) /\
   (P.room=true->s.ins.pc=0->s.ins.tk.pc=1->s.ins.tk.seen=(ah L 4).n)/\(P.room=false->(s.ins.pc=0/\s.ins.tk.pc=0)\/(s.ins.pc=2/\s.ins.sp=false)) /\
   Room d P L (if s.ins.pc=0 then cL t n else if s.ins.pc=1\/s.ins.sp=true then cL t (n+1)else 0)/\zn P t 1/\s.fr.word+4*m+4<=9223372036854775809/\oP s.fu s.ins+5+(if d.fa<(s.fu.sl.length:Int)then cU d P.B (t.drop (n+1))else 0)<=m
 | 2=>(∃low,qM d L t n s.fr.id s.left.word low)/\(s.ins.full=true->P.room=false)/\(s.ins.full=false->s.ins.sp=true->qM d L t n s.ins.id (aN 0) (bN s.fu)/\s.ins.id≠s.fr.id/\1<=s.ins.id/\(bN s.fu).size<=32/\s.fu.sl.length<=1000/\Room d P L (cL t (n+1))/\zn P t (if n+1<t.length then 1 else 0)/\P.room=true/\cU d P.B (t.drop (n+1))+2<=m)/\(s.ins.full=true->s.ins.sp=false)/\1<=m
 | 3=>qM d L t n s.ins.id (aN 0) (bN s.fu)/\s.ins.full=false/\s.ins.sp=true/\1<=s.ins.id/\(bN s.fu).size<=32/\s.fu.sl.length<=1000/\Room d P L (cL t (n+1))/\zn P t (if n+1<t.length then 1 else 0)/\P.room=true/\cU d P.B (t.drop (n+1))+1<=m
 | 4=>(∃low,qM d L t n s.fr.id s.fr.word low)/\1<=m
 | 5=>t.length=n/\Room d P L 1/\s.aq.pc<=1/\(s.aq.pc=1->s.aq.word=(ah L 7).n+1)/\0<=s.aq.word/\s.aq.word<18446744073709551616/\gI d<=m+s.aq.pc
 | 6=>t.length=n/\Room d P L 1/\s.aq.pc=2/\wB L s.aq.word/\gI d<=m+2
 | 7=>t.length=n/\Room d P L 1/\s.aq.pc=2/\wB L s.aq.word/\(∃nd l,t[t.length-1]?=some (nd::l)/\s.root=nd.id)/\gI d<=m+3
 | 8=>n+1=t.length/\(t[n]?.map small).getD false=true/\pP t n=1/\P.room=true/\wB L s.word/\wC d 1+1<=m
 | 9=>t.length=n/\Room d P L 1/\wB L s.word/\(∃nd l,t[t.length-1]?=some (nd::l)/\s.root=nd.id)/\s.tk.ok=false/\(s.tk.pc=0\/(P.room=true/\s.tk.pc=1/\s.tk.seen=(ah L 4).n))/\gI d<=m+4+s.tk.pc
 | 10=>t.length=n/\P.room=true/\wB L s.word/\(∃nd l,t[t.length-1]?=some (nd::l)/\s.root=nd.id)/\Iy t s.id/\1<=s.id/\s.id<=(ah L 4).n/\s.k<5/\(∀q,q∈(s.ps d).take s.k->ah L q.i=q.c)/\gI d<=m+6+s.k
 | 11=>t.length=n/\P.room=true/\wB L s.word/\(∃nd l,t[t.length-1]?=some (nd::l)/\s.root=nd.id)/\Iy t s.id/\1<=s.id/\s.id<=(ah L 4).n/\Ds d L s.id (fk s.f.ak s.root)/\gI d<=m+11
 | 12=>t.length=n/\P.room=true/\wB L s.word/\(∃nd l,t[t.length-1]?=some (nd::l)/\s.root=nd.id)/\Iy t s.id/\1<=s.id/\s.id<=(ah L 4).n/\Holds L (bP d s.id (fk s.f.ak s.root))/\ah L (d.node s.id 0)=⟨0,⟨#[]⟩,0⟩/\gI d<=m+12
 | 13=>P.room=false/\wB L s.word/\1<=m
 | 14=>P.room=true->s.f.po=true
 | _=>False
structure kA (d:aR)(P:Eu)(L:List aO)(t:List (List Nd))(n:Nat)(s:eE)(m:Nat):Prop where
 base:zB d P L t
 n1:1<=n
 ak:s.f.ak=n
 task:s.pc<=1\/(5<=s.pc/\s.pc<=12)->∃l c,t[n-1]?=some l/\c∈l/\c.id=s.f.ch/\c.low=s.f.sep
 ch:n=1->s.f.ch=P.ch0
 ref:∀c,c∈P.l0.drop 1->(pQ t 1 c.id↔P.R c.id\/(ew s=true/\c.id=P.ch0))
 free:∀(k:Nat) (l:List Nd),t[k]?=some l->∀nd,nd∈l->¬ aan s nd.id->(ah L (d.node nd.id 0)).n%4=0
 c7:¬ (6<=s.pc/\s.pc<=13)\/s.pc=5->(ah L 7).n%4=0
 wD:P.room=false->n=1
 wd:∀(k:Nat) (l:List Nd),t[k]?=some l->∀nd,nd∈l->(ah L (d.node nd.id 0)).n+4*m<=9223372036854775808
 st:ae3 d P L t n s m
section
variable {d:aR}{P:Eu}{L L':List aO}{t t':List (List Nd)}{n m:Nat}{s s':eE}
theorem zB.next (h:zB d P L t)(h1:bD L')(h2:(L'.length:Int)=d.cells)(h3:dQ d L' t')(h4:SzT t')(h5:t'[0]?=t[0]?)(h6:∀j:Int,j≠0->j≠4->j≠7->(j<d.A\/d.B<=j)->ah L' j=ah L j)(h7:P.room=false->(ah L' 4).n=(ah L 4).n/\t'.length=t.length)(h8:P.room=true->(ah L' 4).n<=P.lim):zB d P L' t' :=
 ⟨h1,h2,h3,h4,by rw[h5];exact h.r0,fun j a b c e=>(h6 j a b c e).trans (h.rest j a b c e),h.b2,fun e=>by
  obtain⟨q1,q2⟩:=h7 e;rw[q1,q2];exact h.noR e,⟨h.lim.1,h8⟩⟩
theorem nW (hd:d.Ok){id j:Int}(h1:1<=id)(h2:id<=d.no)(a:0<=j)(b:j<d.fa+4):d.A<=d.node id j/\d.node id j<d.B:=by
 have n0:=(bV hd h1 h2 a b).1;have f1:=hd.fo;have m3:0<=(id-1)*(d.fa+4):=Int.mul_nonneg (by omega) (by omega)
 have m4:(id-1)*(d.fa+4)+(d.fa+4)=id*(d.fa+4):=by rw[Int.sub_mul];omega
 have m5:id*(d.fa+4)<=d.no*(d.fa+4):=Int.mul_le_mul_of_nonneg_right h2 (by omega)
 have:d.B=d.A+d.no*(d.fa+4):=rfl;omega
theorem dQ.zh (ht:dQ d L t):(t.length:Int)<=d.no:=by
 have h1:=qG t (fun l hl=>by
  obtain⟨k,hk⟩:=aq4 hl;exact(ht.sh.rows k l hk).ne)
 have:=ht.sh.count;have:=ht.n4;omega
theorem kA.nt (h:kA d P L t n s m)(hp:s.pc<=1\/(5<=s.pc/\s.pc<=12)):n<=t.length:=by
 obtain⟨l,c,hl,_⟩:=h.task hp;have:=(aq5.1 hl).1;have:=h.n1;omega
theorem kA.fu (hd:d.Ok)(h:kA d P L t n s m)(hp:s.pc<=1\/(5<=s.pc/\s.pc<=12)){L1:List aO}(ht:dQ d L1 t){i:Nat}{l:List Nd}{nd:Nd}(ha:Ja t s.f.sep n l i nd)(hin:qE s.f.sep nd.pg=true)(hno:¬ gD nd.pg.sl s.f.sep<iE nd.pg.sl s.f.sep){word:Int}(hok:cm.Ok d ⟨nd.id,word,nd.pg⟩) :
  qK t n i l nd ⟨nd.id,word,nd.pg⟩ (aZ nd.pg s.f.sep s.f.ch)/\lB d ⟨nd.id,word,nd.pg⟩ (aZ nd.pg s.f.sep s.f.ch):=by
 have hn1:=h.n1;obtain⟨l0,c,hl0,hc,e1,e2⟩:=h.task hp;have hcb:=(ht.sh.nodes _ l0 hl0 c hc).1;have tz:=ht.n4;have iX:=hd.mJ;obtain⟨k,rfl⟩:∃k,n=k+1:=⟨n-1,by omega⟩
 rw[Nat.add_sub_cancel]at hl0;have hnm:=aq7 ha.hi;have Ju:=(ht.sh.nodes _ l ha.hl nd hnm).2;have hkz:=(h.base.sz.keys ht.sh ha.hl hnm);have hks:∀x,x∈nd.pg.sl->x.k≠s.f.sep:=by
  rcases sZ (key:=s.f.sep) Ju.jA with e|⟨e,_⟩
  ·intro x hx e3
   obtain⟨q,hq⟩:=aq4 hx;have h3:=jK Ju.jA (key:=s.f.sep) hq;have h4:=jm Ju.jA (key:=s.f.sep) hq;rw[e3]at h3 h4;simp only[dm,Bool.false_eq_true,false_iff,true_iff]at h3 h4;omega
  ·omega
 have hz:=h.base.sz _ l0 hl0 c hc;refine⟨⟨ha.hl,ha.hi,rfl,rfl,⟨rfl,rfl,rfl,rfl,Yx Ju ha.low hin hks (by omega),fun m l1 hm h1=>?_⟩⟩,lB.ins hok.pg (fun x hx=>Nat.le_trans (hkz.1 x hx).1 (by decide)) (by rw[←e2];omega) (by omega)⟩
 obtain rfl:m=k:=by omega
 rw[hl0]at h1;obtain rfl:=aq9 h1;exact Uk Ju (ht.sh.down _ _ _ hl0 ha.hl nd hnm) ha.low hks ⟨c,hc,e1,e2⟩
theorem kA.there (h:kA d P L t n s m)(hp:s.pc<=1\/(5<=s.pc/\s.pc<=12)){L1:List aO}(ht:dQ d L1 t){i:Nat}{l:List Nd}{nd:Nd}(ha:Ja t s.f.sep n l i nd)(aoG:gD nd.pg.sl s.f.sep<iE nd.pg.sl s.f.sep):pQ t n s.f.ch:=by
 have hn1:=h.n1;obtain⟨l0,c,hl0,hc,e1,e2⟩:=h.task hp;obtain⟨k,rfl⟩:∃k,n=k+1:=⟨n-1,by omega⟩
 rw[Nat.add_sub_cancel]at hl0;have hnm:=aq7 ha.hi;have Ju:=(ht.sh.nodes _ l ha.hl nd hnm).2;rcases sZ (key:=s.f.sep) Ju.jA with e|⟨_,x,hx,hk⟩
 ·omega
 ·have hxm:=aq7 hx
  obtain⟨c',hc',e3,e4⟩:=(ht.sh.down _ _ _ hl0 ha.hl nd hnm).2 x hxm;obtain⟨p,hp'⟩:=aq4 hc;obtain⟨q,hq⟩:=aq4 hc';have dW:c.low=c'.low:=by rw[e2,e4,hk]
  have hpq:p=q:=by
   rcases Nat.lt_trichotomy p q with h|h|h
   ·have:=(ht.sh.rows _ l0 hl0).pH q p c c' hp' hq h
    rw[dW,dm]at this;cases this
   ·exact h
   ·have:=(ht.sh.rows _ l0 hl0).pH p q c' c hq hp' h
    rw[dW,dm]at this;cases this
  subst hpq;rw[hp']at hq;obtain rfl:=aq9 hq;exact⟨l,nd,x,ha.hl,hnm,hxm,by rw[←e3,e1]⟩
theorem Jb.ae4 {key:ByteArray}{level lo:Nat}{s:vB}{m:Nat}(h:Jb d L t key level lo s m):s.pc<=4:=by
 by_cases h5:s.pc<=4
 ·exact h5
 ·obtain⟨pc,fd,id,aq,ow,hh⟩:=s
  obtain⟨n,rfl⟩:∃n,pc=n+5:=⟨pc-5,by simp only at h5;omega⟩
  exact h.elim
theorem Jb.begin {key:ByteArray}{level lo:Nat}{m:Nat}(h:∃l nd,t[lo]?=some l/\nd∈l)(hm:pP t lo*bJ d+1+qT d<=m):Jb d L t key level lo oA m:=
 ⟨rfl,by show(0:Nat)≠2;decide,_,Ix.start h,hm⟩
end
def rC (d:aR)(P:Eu)(L:List aO)(t:List (List Nd))(s:eE)(m:Nat):Prop:=
 eE.Ok d L s/\∀s',pJ d L s s' -> ∃t' n' m',kA d P (gK d L s) t' n' s' m' /\ m' + 1<=m/\wA d L t (gK d L s) t'
section
variable {d:aR}{P:Eu}{L L':List aO}{t t':List (List Nd)}{n m:Nat}{s s':eE}
theorem Uv (hd:d.Ok)(id:Int):d.node id 0= -1\/(d.A<=d.node id 0/\d.node id 0<d.B):=by
 by_cases h:1<=id/\id<=d.no
 ·exact .inr (nW hd h.1 h.2 (by omega) (by have:=hd.fo;omega))
 ·left;unfold aR.node;rw[if_neg h]
theorem Ze (h:t.length=n):cL t n=1:=by
 unfold cL;rw[List.getElem?_eq_none (by omega)]
 simp;omega
theorem Zf {key:ByteArray}{level:Nat}{x x':vB}{L1:List aO}(hd:d.Ok)(hlen:(L.length:Int)=d.cells)(ht:dQ d L t)(he:Dv d L t level x x' L1)(hf:∀(k:Nat)(l:List Nd),t[k]?=some l->∀nd,nd∈l->¬ (ko x=true/\nd.id=x.id)->(ah L (d.node nd.id 0)).n%4=0) :
  ∀(k:Nat) (l:List Nd),t[k]?=some l->∀nd,nd∈l->¬ (ko x'=true/\nd.id=x'.id)->(ah L1 (d.node nd.id 0)).n%4=0:=by
 intro k l hk nd hm hno;have tz:=ht.n4;have f1:=hd.fo;have hb:=(ht.sh.nodes k l hk nd hm).1;rcases he with⟨rfl,e1,e2⟩|⟨e1,e2,e3,⟨l',c,hl',hc,hid⟩,h4,rfl⟩|⟨e1,e2,⟨l',c,hl',hc,hid⟩,h4,rfl⟩
 ·exact hf k l hk nd hm (fun⟨a,b⟩=>hno ⟨by rw[e1];exact a,by rw[e2 a];exact b⟩)
 ·have hne:nd.id≠x.id:=fun e=>hno ⟨e2,by rw[e3];exact e⟩
  have hcb:=(ht.sh.nodes _ l' hl' c hc).1;rw[bj (cK hd hb.1 (by omega) (by omega) (by omega) (by omega) (by omega) (by omega) (by omega) hne)]
  exact hf k l hk nd hm (fun⟨a,_⟩=>by rw[e1]at a;cases a)
 ·have hcb:=(ht.sh.nodes _ l' hl' c hc).1
  by_cases e:nd.id=x.id
  ·have hpos:=bV hd (id:=x.id) (by omega) (by omega) (k:=0) (by omega) (by omega)
   rw[e,cB hpos.2.1 (by omega)]
   show((ah L (d.node x.id 0)).n-1)%4=0
   omega
  ·rw[bj (cK hd hb.1 (by omega) (by omega) (by omega) (by omega) (by omega) (by omega) (by omega) e)]
   exact hf k l hk nd hm (fun⟨_,b⟩=>e b)
theorem aao {level:Nat}{x x':vB}{L1:List aO}(hd:d.Ok)(hlen:(L.length:Int)=d.cells)(ht:dQ d L t)(he:Dv d L t level x x' L1) :
  ∀(k:Nat) (l:List Nd),t[k]?=some l->∀nd,nd∈l->(ah L1 (d.node nd.id 0)).n<=(ah L (d.node nd.id 0)).n+1:=by
 intro k l hk nd hm;have tz:=ht.n4;have f1:=hd.fo;have hb:=(ht.sh.nodes k l hk nd hm).1;have key:∀(v:Int),v<=(ah L (d.node x.id 0)).n+1->(∃l' c,t[level]?=some l' /\ c∈l' /\ c.id=x.id)->(ah (aP L (d.node x.id 0) ⟨v,⟨#[]⟩,0⟩) (d.node nd.id 0)).n<=(ah L (d.node nd.id 0)).n+1:=by
  rintro v hv ⟨l',c,hl',hc,hid⟩;have hcb:=(ht.sh.nodes _ l' hl' c hc).1;by_cases e:nd.id=x.id
  ·have hpos:=bV hd (id:=x.id) (by omega) (by omega) (k:=0) (by omega) (by omega)
   rw[e,cB hpos.2.1 (by omega)]
   exact hv
  ·rw[bj (cK hd hb.1 (by omega) (by omega) (by omega) (by omega) (by omega) (by omega) (by omega) e)]
   omega
 rcases he with⟨rfl,e1,e2⟩|⟨e1,e2,e3,h3,h4,rfl⟩|⟨e1,e2,h3,h4,rfl⟩
 ·omega
 ·exact key _ (by omega) h3
 ·exact key _ (by omega) h3
theorem Oh (hd:d.Ok){fr:cm}{fu:Pg}{ins:fT}{nd:Nd}{i:Nat}{l:List Nd}(H:qK t n i l nd fr fu)(K:kT d fr fu)(hold:pK d L fr)(hlen:(L.length:Int)=d.cells)(hb:pz d fr fu ins) :
  iZ d L fr fu ins/\qL t ins/\ins.pc<=2/\ins.full=false/\((ins.pc<=1\/ins.sp=true)->d.fa<(fu.sl.length:Int))/\((ins.pc=0/\ins.tk.pc=0)\/(ins.pc=2/\ins.sp=false))/\oP fu ins<=2*(d.fa.toNat+6)+2:=by
 have hl:=K.Wp.len;have f1:=hd.fo;rcases hb with⟨hfit,b1,b2,b3,b4,b5⟩|⟨hfull,rfl⟩
 ·obtain⟨pc,tk,k,ps,sp,id,full⟩:=ins
  simp only at b1 b2 b3 b4 b5;subst b1 b2 b3 b4;have hpl:=b5.len;refine⟨⟨rfl,fun _=>hfit,b5,by show 0<ps.length;omega,fun e=>(by cases e),_,hlen,hold,fun j _ _=>rfl⟩,fun e=>?_,Nat.le_refl 2,rfl,fun e=>?_,.inr ⟨rfl,rfl⟩,?_⟩
  ·rcases e with e|⟨_,e⟩ <;> cases e
  ·rcases e with e|e
   ·simp at e
   ·cases e
  ·show ps.length-0<=_
   omega
 ·refine⟨⟨rfl,rfl,hfull,.inl ⟨rfl,rfl⟩,hold⟩,fun e=>?_,Nat.zero_le 2,rfl,fun _=>hfull,.inl ⟨rfl,rfl⟩,?_⟩
  ·rcases e with e|⟨e,_⟩ <;> cases e
  ·show(fu.sl.length+5)+(fu.sl.length+5)+(2-0)<=_
   omega
theorem kA.step0 (hd:d.Ok)(sQ:d.no<=900)(h:kA d P L t n s m)(h0:s.pc=0):rC d P L t s m:=by
 have dR:=h.base;have hnt:=h.nt (.inl (by omega))
 have hn1:=h.n1;have bZ:=h.ak;have kH:=h.task (.inl (by omega))
 have hch:=h.ch;have jy:=h.ref;have hfree:=h.free;have wE:=h.c7 (.inl (by omega))
 have iT:=h.wD;have hwd:=h.wd;have hst:=h.st;have lA:=fun L1 i l nd word a b c e=>kA.fu (L1:=L1) (i:=i) (l:=l) (nd:=nd) (word:=word) hd h (.inl (by omega)) a b c e
 have Uw:=fun L1 i l nd=>kA.there (L1:=L1) (i:=i) (l:=l) (nd:=nd) h (.inl (by omega))
 obtain⟨pc,f,lk,fr,ins,aq,root,word,tk,id,k⟩:=s;simp only at h0;subst h0;obtain⟨ak,sep,ch,po⟩:=f;simp only at bZ kH hch;subst bZ;obtain⟨hroom,fU,hk4,hst⟩:=hst;simp only at hk4 hst lA Uw;have hcm:∃lo m0,Jb d L t sep n lo lk m0/\lo<=n/\((n<t.length/\lo=n/\m0+wI d+(if (t[n]?.map small).getD false then 0 else cU d P.B (t.drop (n+1)))<=m)\/(t.length=n/\lo=n-1/\m0+gI d<=m)):=by
  rcases hst with⟨a,m0,b,c⟩|⟨a,m0,b,c⟩
  ·exact⟨n,m0,b,Nat.le_refl _,.inl ⟨a,rfl,c⟩⟩
  ·exact⟨n-1,m0,b,by omega,.inr ⟨a,rfl,c⟩⟩
 clear hst;obtain⟨lo,m0,hlk,hlo,halt⟩:=hcm;have Jd:∀(k:Nat) (l:List Nd),t[k]?=some l->∀nd,nd∈l->¬ (ko lk=true/\nd.id=lk.id)->(ah L (d.node nd.id 0)).n%4=0:=hfree;obtain⟨hok,hh,Ux,m',hl',hm1,hm2⟩:=hlk.step hd dR.gQ dR.eu dR.tree hk4 hlo;have hm3:m' + 1<=m0:=by
  refine hm2 (fun hp hf=>?_) (fun hp ha=>?_)
  ·have hQ:Quiet d L t:=fun k l hk nd hn=>by
    have:=Jd k l hk nd hn (fun⟨a,_⟩=>by
     obtain⟨pc,fd,id,aq,ow,hh⟩:=lk;simp only at hp;subst hp;cases a)
    unfold bW;exact decide_eq_false (by omega)
   obtain⟨pc,fd,id,aq,ow,hh⟩:=lk;simp only at hp hf;subst hp;obtain⟨_,_,m1,Wn,_⟩:=hlk;exact Wn.still hQ hf
  ·obtain⟨pc,fd,id,aq,ow,hh⟩:=lk
   simp only at hp ha;subst hp;obtain⟨_,l,i,nd,q,hat,hid,_⟩:=hlk;simp only at hid ⊢;rw[hid];have:=Jd n l hat.hl nd (aq7 hat.hi) (fun⟨a,_⟩=>by cases a)
   omega
 obtain⟨t1,t2,t3,t4,t5,t6⟩:=Ux.tree hd dR.gQ dR.eu dR.tree;have zo:=Zf (key:=sep) hd dR.eu dR.tree Ux Jd;have ajR:=hl'.ae4;have eH:∀j:Int,0<=j->(j<d.A\/d.B<=j)->ah (aK d sep (n:Nat) L lk).2 j=ah L j:=fun j a b=>t6 j (by
  rcases Uv hd lk.id with e|e <;> omega)
 have hA:=hd.eC;have h7:=eH 7 (by omega) (by omega)
 have h4c:=eH 4 (by omega) (by omega)
 have hrj:∀j:Int,(j<d.A\/d.B<=j)->ah (aK d sep (n:Nat) L lk).2 j=ah L j:=fun j b=>by
  rcases Int.lt_or_le j 0 with hj|hj
  ·rw[qi hj,qi hj]
  ·exact eH j hj b
 have hbase:zB d P (aK d sep (n:Nat) L lk).2 t:=dR.next t3 t4 t1 dR.sz rfl (fun j _ _ _ e=>hrj j e) (fun _=>⟨by rw[h4c],rfl⟩) (fun e=>by rw[h4c];exact dR.lim.2 e)
 have xK:=dR.tree.zh;have hp4:(aK d sep (n:Nat) L lk).1.pc=4->((aK d sep (n:Nat) L lk).1.h=l6/\t.length=n)\/∃l i nd word,Ja t sep n l i nd/\(aK d sep (n:Nat) L lk).1.h=⟨nd.id,word,nd.pg⟩/\si d (aK d sep (n:Nat) L lk).2 nd.id word/\qE sep nd.pg=true/\1<=nd.id/\cm.Ok d ⟨nd.id,word,nd.pg⟩/\kV nd.pg.sl/\(aK d sep (n:Nat) L lk).1.id=nd.id/\ko (aK d sep (n:Nat) L lk).1=true:=by
  intro h4;generalize aK d sep (n:Nat) L lk=st at *;obtain⟨⟨La,fd',id',aq',ow',hh'⟩,L1⟩:=st;simp only at h4;subst h4;rcases hl' with⟨l,i,nd,ha,hid,⟨word,hw,hlt⟩,hin,hnz⟩|⟨hw,aoI⟩
  ·have hnm:=aq7 ha.hi
   have hnb:=(dR.tree.sh.nodes _ l ha.hl nd hnm);obtain⟨k,rfl⟩:∃k,n=k+1:=⟨n-1,by omega⟩
   refine .inr ⟨l,i,nd,word,ha,hw,hlt,hin,hnb.1.1,t1.hok hd dR.sz ha.hl hnm hlt.vD hlt.bd,hnb.2.jA,hid,?_⟩;simp only at hw;subst hw;show(4 == 2 || 4 == 3 || (4 == 4 && nd.id != 0))=true
   simp[hnz]
  ·rcases halt with⟨_,e,_⟩|⟨e,_⟩
   ·omega
   ·exact .inl ⟨hw,e⟩
 clear hm2 hm1;have Uy:∀(k:Nat) (l:List Nd),t[k]?=some l->∀nd,nd∈l->(ah (aK d sep (n:Nat) L lk).2 (d.node nd.id 0)).n+4*(m-1:Nat)<=9223372036854775808:=fun k l hk nd hm=>by
  have h1:=aao hd dR.eu dR.tree Ux k l hk nd hm;have h2:=hwd k l hk nd hm;have h3:1<=m:=by rcases halt with⟨_,_,e⟩|⟨_,_,e⟩ <;> omega
  omega
 have aoJ:13<=m:=by
  have h1:12<=wI d:=by unfold wI;omega
  have h2:20<=gI d:=by unfold gI;omega
  rcases halt with⟨_,_,e⟩|⟨_,_,e⟩ <;> omega
 have ae5:=Ux;clear Ux;constructor
 ·refine⟨Nat.zero_le _,⟨by show(0:Int)<=n;omega,by show(n:Int)<1000;omega⟩,fun _=>⟨hok,hh,ajR,fun h4=>?_⟩,fun h=>by simp at h,fun h=>by simp at h,fun h=>by simp at h,fun h=>by simp at h,fun h=>by simp at h,fun h=>by simp at h,fun h=>by simp at h,fun h=>by simp at h,fun h=>by simp at h⟩
  simp only at h4 ⊢;rcases hp4 h4 with⟨e,_⟩|⟨l,i,nd,word,ha,e,hlt,hin,jB,Dw,dJ,_⟩
  ·rw[e]
   exact⟨Nat.zero_le _,fun h=>absurd rfl h⟩
  ·rw[e]
   have hle:=Dw.pg.le;have f2:=hd.mK;refine⟨by simp only at hle ⊢;omega,fun _=>⟨Dw,dJ,fun hno=>(lA _ i l nd word t1 ha hin hno Dw).2⟩⟩
 ·intro s' hn
  show ∃t' n' m',kA d P (aK d sep (n:Nat) L lk).2 t' n' s' m' /\ m' + 1<=m/\wA d L t (aK d sep (n:Nat) L lk).2 t'
  rcases hn with⟨c1,rfl⟩|⟨c1,hn⟩
  ·simp only at c1
   refine⟨t,n,m-1,⟨hbase,hn1,rfl,fun _=>kH,hch,jy,zo,fun _=>by rw[h7];exact wE,iT,Uy,⟨fun e=>by rw[h4c];exact hroom e,fU,c1,?_⟩⟩,?_,t2⟩
   ·rcases halt with⟨a,rfl,c⟩|⟨a,rfl,c⟩
    ·exact .inl ⟨a,m',hl',by omega⟩
    ·exact .inr ⟨a,m',hl',by omega⟩
   ·omega
  ·simp only at c1 hn
   have hp4:=hp4 c1;have hown:ko (aK d sep (n:Nat) L lk).1=true->(aK d sep (n:Nat) L lk).1.h.id≠0:=fun e=>by
    unfold ko at e;rw[c1]at e;simpa using e
   rcases hn with⟨c2,rfl⟩|⟨c2,c3,rfl⟩|⟨c2,c3,ins',hb,rfl⟩
   ·rcases hp4 with⟨e,hT⟩|⟨l,i,nd,word,ha,e,_,_,jB,_⟩
    ·refine⟨t,n,m-1,⟨hbase,hn1,rfl,fun _=>kH,hch,jy,fun k l hk nd hm _=>zo k l hk nd hm (fun hc=>hown hc.1 c2),fun _=>by rw[h7];exact wE,iT,Uy,⟨hT,fun er=>?_,Nat.zero_le _,fun e=>absurd e (by show ¬ (0:Nat)=1;decide),by show(0:Int)<=0;decide,by show(0:Int)<_;decide,?_⟩⟩,by omega,t2⟩
     ·have:=hroom er
      rw[Ze hT]at this;rw[h4c];exact this
     ·show gI d<=m-1+0
      rcases halt with⟨a,_,_⟩|⟨_,_,e⟩ <;> omega
    ·rw[e]at c2
     simp only at c2;omega
   ·rcases hp4 with⟨e,hT⟩|⟨l,i,nd,word,ha,e,hlt,hin,jB,Dw,dJ,aci,_⟩
    ·rw[e]at c2;exact absurd rfl c2
    ·have hnm:=aq7 ha.hi
     rw[e]at c3;have ajS:=Uw _ i l nd t1 ha c3;refine⟨t,n,m-1,⟨hbase,hn1,rfl,fun hp=>by simp at hp,hch,fun c hc=>?_,fun k l' hk l8 hm hno=>zo k l' hk l8 hm (fun hcc=>hno ?_),fun _=>by rw[h7];exact wE,iT,Uy,⟨⟨nd.low,l,nd,ha.hl,hnm,by rw[e],rfl,by rw[e];exact hlt⟩,by omega⟩⟩,by omega,t2⟩
     ·constructor
      ·intro hx
       rcases(jy c hc).1 hx with hx|⟨_,hx⟩
       ·exact .inl hx
       ·exact .inr ⟨by simp[ew],hx⟩
      ·rintro (hx|⟨_,hx⟩)
       ·exact(jy c hc).2 (.inl hx)
       ·by_cases h2:2<=n
        ·exact(jy c hc).2 (.inr ⟨by unfold ew;rw[decide_eq_true (by show(2:Int)<=(n:Nat);omega)];rfl,hx⟩)
        ·obtain rfl:n=1:=by omega
         rw[hx,←hch rfl];exact ajS
     ·show l8.id=(aK d sep (n:Nat) L lk).1.h.id
      rw[e,hcc.2,aci]
   ·rcases hp4 with⟨e,hT⟩|⟨l,i,nd,word,ha,e,hlt,hin,jB,Dw,dJ,aci,_⟩
    ·rw[e]at c2;exact absurd rfl c2
    ·have hnm:=aq7 ha.hi
     rw[e]at c3 hb;have hbb:=Dw.pg.le;obtain⟨H,ajT⟩:=lA _ i l nd word t1 ha hin c3 Dw;have hwn:word+4*(m-1:Nat)+4<=9223372036854775809:=by
      have h1:=Uy n l ha.hl nd hnm;have h2:=hwd n l ha.hl nd hnm;rw[hlt.c]at h1;have h3:=aao hd dR.eu dR.tree ae5 n l ha.hl nd hnm;rw[hlt.c]at h3;simp only at h1 h3;omega
     have K:kT d ⟨nd.id,word,nd.pg⟩ (aZ nd.pg sep ch):=⟨Dw,hlt.w,by show word+4<_;omega,ajT⟩
     have hold:pK d (aK d sep (n:Nat) L lk).2 ⟨nd.id,word,nd.pg⟩:=⟨(t1.node n l ha.hl nd hnm hlt.vD).hold,hlt.c⟩;obtain⟨g1,g2,g3,g4,g5,g6,g7⟩:=Oh hd H K hold t4 hb;have htl:=(aq5.1 ha.hl).1;refine⟨t,n,m-1,⟨hbase,hn1,rfl,fun _=>kH,hch,jy,fun k l' hk l8 hm hno=>zo k l' hk l8 hm (fun hcc=>hno ?_),fun _=>by rw[h7];exact wE,iT,Uy,⟨i,l,nd,?_,?_,?_,g2,g3,g4,?_,fun _ ep e1=>?_,fun _=>g6,?_,?_,?_,?_⟩⟩,by omega,t2⟩
     ·show l8.id=(aK d sep (n:Nat) L lk).1.h.id
      rw[e,hcc.2,aci]
     ·show qK t n i l nd (aK d sep (n:Nat) L lk).1.h (aZ (aK d sep (n:Nat) L lk).1.h.pg sep ch)
      rw[e];exact H
     ·show kT d (aK d sep (n:Nat) L lk).1.h (aZ (aK d sep (n:Nat) L lk).1.h.pg sep ch)
      rw[e];exact K
     ·show iZ d _ (aK d sep (n:Nat) L lk).1.h (aZ (aK d sep (n:Nat) L lk).1.h.pg sep ch) ins'
      rw[e];exact g1
     ·show _->d.fa<((aZ (aK d sep (n:Nat) L lk).1.h.pg sep ch).sl.length:Int)
      rw[e];exact g5
     ·exfalso
      rcases g6 with⟨_,g6⟩|⟨g6,_⟩
      ·simp only at e1;omega
      ·simp only at ep;omega
     ·intro er
      rw[h4c];rcases g6 with⟨g6,_⟩|⟨g6,g6'⟩
      ·simp only[g6,if_true]
       exact hroom er
      ·simp only[g6,g6']
       have:=dR.lim.2 er;simp;exact this
     ·have:=fU
      rw[if_pos htl]at this;exact this
     ·show(aK d sep (n:Nat) L lk).1.h.word+4*(m-1:Nat)+4<=9223372036854775809
      rw[e];exact hwn
     ·show oP (aZ (aK d sep (n:Nat) L lk).1.h.pg sep ch) ins' + 5+(if d.fa<((aZ (aK d sep (n:Nat) L lk).1.h.pg sep ch).sl.length:Int)then _ else 0)<=m-1
      rw[e];simp only;rcases halt with⟨a1,_,a2⟩|⟨a1,_⟩
      ·have hwi:wI d=2*(d.fa.toNat+6)+12:=rfl
       by_cases hf:d.fa<((aZ nd.pg sep ch).sl.length:Int)
       ·have hsm:small l=false:=by
         cases hsm:small l with
         | false=>rfl
         | true=>
          have h1:=xL hsm ha.hi;have h2:(aZ nd.pg sep ch).sl.length=nd.pg.sl.length+1:=fH _ _ _;have:=hd.fo;omega
        have e0:¬ (t[n]?.map small).getD false=true:=by
         rw[ha.hl];show ¬ small l=true
         rw[hsm];simp
        rw[if_neg e0]at a2;rw[if_pos hf];omega
       ·rw[if_neg hf]
        omega
      ·omega
end
section
variable {d:aR}{P:Eu}{L L':List aO}{t t':List (List Nd)}{n m:Nat}{s s':eE}
theorem rD {k i k':Nat}{l l':List Nd}{nd c:Nd}{fu:Pg}{id:Int}{sp:Bool}(hk:t[k]?=some l)(hi:l[i]?=some nd)(h:(mo t k i l nd fu id sp)[k']?=some l')(hc:c∈l') :
  (∃l0 c0,t[k']?=some l0/\c0∈l0/\c0.id=c.id/\c0.low=c.low)\/(sp=true/\k'=k/\c=⟨id,bN fu,dI fu⟩):=by
 have xG:=(aq5.1 hk).1;by_cases e:k'=k
 ·subst e
  cases sp with
  | false=>
   have h:(t.set k' (l.set i { nd with pg:=fu }))[k']?=some l' := h;rw[List.getElem?_set_self xG]at h;obtain rfl:=aq9 h;rcases(nV hi).1 hc with rfl|⟨j,_,hj⟩
   ·exact .inl ⟨l,nd,hk,aq7 hi,rfl,rfl⟩
   ·exact .inl ⟨l,c,hk,aq7 hj,rfl,rfl⟩
  | true=>
   have h:(t.set k' (wo l i { nd with pg:=fA fu id } ⟨id,bN fu,dI fu⟩))[k']?=some l' := h;rw[List.getElem?_set_self xG]at h;obtain rfl:=aq9 h;rcases(mr hi).1 hc with rfl|rfl|⟨j,_,hj⟩
   ·exact .inl ⟨l,nd,hk,aq7 hi,rfl,rfl⟩
   ·exact .inr ⟨rfl,rfl,rfl⟩
   ·exact .inl ⟨l,c,hk,aq7 hj,rfl,rfl⟩
 ·rw[jh e]at h
  exact .inl ⟨l',c,h,hc,rfl,rfl⟩
theorem Dx {k i:Nat}{l:List Nd}{nd:Nd}{fu:Pg}{id:Int}{sp:Bool}(hk:t[k]?=some l)(hi:l[i]?=some nd):∃l',(mo t k i l nd fu id sp)[k]?=some l' /\ l'.length<=l.length+1/\(∃a,a∈l' /\ a.id=nd.id/\a.low=nd.low)/\(sp=true->(⟨id,bN fu,dI fu⟩:Nd)∈l'):=by
 have xG:=(aq5.1 hk).1;have hlen:=(aq5.1 hi).1;cases sp with
 | false=>exact⟨l.set i { nd with pg:=fu },List.getElem?_set_self xG,by rw[List.length_set];omega,⟨_,(nV hi).2 (.inl rfl),rfl,rfl⟩,fun e=>by cases e⟩
 | true=>exact⟨wo l i { nd with pg:=fA fu id } ⟨id,bN fu,dI fu⟩,List.getElem?_set_self xG,by rw[zf hlen];omega,⟨_,(mr hi).2 (.inl rfl),rfl,rfl⟩,fun _=>(mr hi).2 (.inr (.inl rfl))⟩
theorem Uz {k i:Nat}{l:List Nd}{nd:Nd}{fu:Pg}{id:Int}{sp:Bool}(hk:t[k]?=some l)(hi:l[i]?=some nd)(h:zn P t 1):zn P (mo t k i l nd fu id sp) (if k+1<(mo t k i l nd fu id sp).length then 1 else 0):=by
 have xG:=(aq5.1 hk).1;intro l' hl';rw[uY]at hl' ⊢;by_cases e:t.length-1=k
 ·obtain⟨l2,h1,h2,_⟩:=Dx (fu:=fu) (id:=id) (sp:=sp) hk hi
  rw[e,h1]at hl';obtain rfl:=aq9 hl';have:=h l (by rw[e];exact hk)
  rw[if_neg (by omega)]
  omega
 ·rw[jh e]at hl'
  have:=h l' hl';split <;> omega
theorem Oi {k i:Nat}{l:List Nd}{nd:Nd}{fu:Pg}{id:Int}{sp:Bool}:(mo t k i l nd fu id sp).drop (k+1)=t.drop (k+1):=by
 refine List.ext_getElem? (fun j=>?_)
 rw[List.getElem?_drop,List.getElem?_drop];exact jh (by omega)
theorem Zg {k i:Nat}{l:List Nd}{nd:Nd}{fu:Pg}{id:Int}{sp:Bool}:cL (mo t k i l nd fu id sp) (k+1)=cL t (k+1):=by
 unfold cL;rw[uY,jh (by omega)]
theorem xM {fu:Pg}(h:∀s,s∈fu.sl->s.k.size<=32):(bN fu).size<=32:=by
 unfold bN;split
 ·rename_i x y hx hy
  split
  ·exact Nat.le_trans (xw _ _) (h y (aq7 hy))
  ·exact h y (aq7 hy)
 ·exact Nat.zero_le _
theorem acj (hd:d.Ok)(hlen:(L.length:Int)=d.cells){fr:cm}{fu:Pg}{x x':fT}(K:kT d fr fu)(hI:iZ d L fr fu x)(h2:x.pc<=2)(hn:iC d fr fu L x x') :
  (x.pc=0->x'.pc=1->(ah (bT d L x) 4).n=(ah L 4).n+1)/\((x.pc≠0\/x'.pc≠1)->(ah (bT d L x) 4).n=(ah L 4).n):=by
 have hcl:=gF hd;by_cases h0:x.pc=0
 ·obtain⟨pc,tk,k,ps,sp,id,full⟩:=x
  simp only at h0;subst h0;obtain⟨_,_,_,a4,_⟩:=hI;obtain⟨tp,seen,ok⟩:=tk;simp only at a4;rcases a4 with⟨rfl,rfl⟩|⟨rfl,rfl,b1,b2⟩
  ·refine⟨fun _ h1=>?_,fun _=>rfl⟩
   rcases hn with⟨_,rfl⟩|⟨_,_,rfl⟩|⟨_,c2,_⟩
   ·simp at h1
   ·simp at h1
   ·cases c2
  ·by_cases hsw:bX L 4 seen=true
   ·have hseen:(ah L 4).n=seen:=by
     unfold bX at hsw;simp only[Bool.and_eq_true,decide_eq_true_eq]at hsw;exact hsw.2
    have e1:aF 4 d.no L ⟨1,seen,false⟩=(⟨2,seen,true⟩,aP L 4 ⟨seen+1,⟨#[]⟩,0⟩):=by
     show(if bX L 4 seen then _ else _)=_
     rw[if_pos hsw]
    have e2:(ah (bT d L ⟨0,⟨1,seen,false⟩,k,ps,sp,id,full⟩) 4).n=(ah L 4).n+1:=by
     show(ah (aF 4 d.no L ⟨1,seen,false⟩).2 4).n=_
     rw[e1];show(ah (aP L 4 ⟨seen+1,⟨#[]⟩,0⟩) 4).n=_
     rw[cB (by omega) (by omega),hseen]
    refine⟨fun _ _=>e2,fun h=>?_⟩
    exfalso
    simp only[iC,e1]at hn;rcases hn with⟨c1,_⟩|⟨_,c2,_⟩|⟨_,_,rfl⟩
    ·omega
    ·cases c2
    ·rcases h with h|h
     ·exact h rfl
     ·exact h rfl
   ·have e1:aF 4 d.no L ⟨1,seen,false⟩=(⟨0,seen,false⟩,L):=by
     show(if bX L 4 seen then _ else _)=_
     rw[if_neg hsw]
    have e2:bT d L ⟨0,⟨1,seen,false⟩,k,ps,sp,id,full⟩=L:=by
     show(aF 4 d.no L ⟨1,seen,false⟩).2=_
     rw[e1]
    rw[e2];refine⟨fun _ h1=>?_,fun _=>rfl⟩
    simp only[iC,e1]at hn;rcases hn with⟨_,rfl⟩|⟨c1,_⟩|⟨c1,_⟩
    ·simp at h1
    ·omega
    ·omega
 ·refine⟨fun h=>absurd h h0,fun _=>?_⟩
  rw[fE hd K hI (fun e=>absurd e h0) (fun _=>gH hd K.hok.id.1 K.hok.id.2) (fun hp=>?_)]
  obtain⟨pc,tk,k,ps,sp,id,full⟩:=x;simp only at hp;subst hp;exact gH hd hI.2.2.2.1.lo hI.2.2.2.1.hi
theorem Dy (hd:d.Ok){fr:cm}{fu:Pg}{x:fT}(K:kT d fr fu)(hI:iZ d L fr fu x){j:Int}(h4:j≠4)(hj:j<d.A\/d.B<=j):ah (bT d L x) j=ah L j:=by
 refine fE hd K hI (fun _=>h4) (fun _ q p r=>?_) (fun hp q p r=>?_)
 ·have:=nW hd K.hok.id.1 K.hok.id.2 p r
  omega
 ·obtain⟨pc,tk,k,ps,sp,id,full⟩:=x
  simp only at hp;subst hp;have:=nW (id:=id) hd hI.2.2.2.1.lo hI.2.2.2.1.hi p r;show j≠d.node id q
  omega
theorem kA.ae6 (hd:d.Ok)(sQ:d.no<=900)(h:kA d P L t n s m)(h0:s.pc=1):rC d P L t s m:=by
 have dR:=h.base;have hnt:=h.nt (.inl (by omega))
 have hn1:=h.n1;have bZ:=h.ak;have kH:=h.task (.inl (by omega))
 have hch:=h.ch;have jy:=h.ref;have hfree:=h.free;have wE:=h.c7 (.inl (by omega))
 have iT:=h.wD;have hwd:=h.wd;have hst:=h.st;obtain⟨pc,f,lk,fr,ins,aq,root,word,tk,id,k⟩:=s;simp only at h0;subst h0;obtain⟨ak,sep,ch,po⟩:=f;simp only at bZ kH hch;subst bZ;obtain⟨i,l,nd,H,K,hI,hF,h2,Nu,hJ,hR1,hR0,hroom,fU,ae7,hm⟩:=hst;have ack:eE.fu ⟨1,⟨n,sep,ch,po⟩,lk,fr,ins,aq,root,word,tk,id,k⟩=aZ nd.pg sep ch:=by
  show aZ fr.pg sep ch=_
  rw[H.pg]
 rw[ack]at H K hI hJ hm;simp only at H K hI hF h2 Nu hJ hR1 hR0 hroom ae7 hm;obtain⟨fu,lA⟩:∃fu,fu=aZ nd.pg sep ch:=⟨_,rfl⟩;have sj:aZ fr.pg sep ch=fu:=by rw[lA,H.pg]
 rw[←lA]at H K hI hJ hm;have xK:=dR.tree.zh;have hA:=hd.eC;have f1:=hd.fo;have iX:=hd.mJ;have hnm:=aq7 H.hi;have aoL:=(dR.tree.sh.nodes _ l H.hk nd hnm).1;have hid:=H.id;have ae8:=K.Wp.len;have alF:6<=m:=by
  have:0<oP fu ins\/oP fu ins=0:=by omega
  have h3:1<=oP fu ins:=by
   obtain⟨pc,tk,k,ps,sp,id,full⟩:=ins;simp only at h2;rcases(by omega:pc=0\/pc=1\/pc=2)with rfl|rfl|rfl
   ·show 1<=(fu.sl.length+5)+(fu.sl.length+5)+(2-tk.pc)
    omega
   ·obtain⟨_,_,_,_,_,a6,_⟩:=hI
    simp only at a6;show 1<=(ps.length-k)+_
    omega
   ·obtain⟨_,_,_,a4,_⟩:=hI
    simp only at a4;show 1<=ps.length-k
    omega
  omega
 have hsm:d.fa<(fu.sl.length:Int)->small l=false:=fun hf=>by
  cases hsm:small l with
  | false=>rfl
  | true=>
   have h1:=xL hsm H.hi;have h2:(aZ nd.pg sep ch).sl.length=nd.pg.sl.length+1:=fH _ _ _;rw[lA]at hf;omega
 have htl:=(aq5.1 H.hk).1;have acm:d.fa<(fu.sl.length:Int)->cL t n=t.length+1-n:=fun hf=>by
  unfold cL;rw[H.hk];show(if small l=true then _ else _)=_
  rw[hsm hf];rfl
 have aoM:cL t (n+1)<=t.length-n:=by
  unfold cL;split <;> omega
 have h40:(0:Int)<=(ah L 4).n:=by omega
 constructor
 ·refine⟨by show 1<=13;decide,⟨by show(0:Int)<=n;omega,by show(n:Int)<1000;omega⟩,fun h=>by simp at h,fun _=>?_,fun h=>by simp at h,fun h=>by simp at h,fun h=>by simp at h,fun h=>by simp at h,fun h=>by simp at h,fun h=>by simp at h,fun h=>by simp at h,fun h=>by simp at h⟩
  show fr.Ok d/\lB d fr (eE.fu _)/\ins.Ok d (eE.fu _)
  rw[ack,←lA];exact⟨K.hok,K.Wp,hI.ok h2⟩
 ·rintro s' ⟨ins',hn,hs'⟩
  simp only at hn hs';rw[ack,←lA]at hn;show ∃t' n' m',kA d P (bT d L ins) t' n' s' m' /\ m' + 1<=m/\wA d L t (bT d L ins) t'
  have hI' := oq hd dR.eu K (by omega) h40 hI h2 hn
  have Lh:=Jc hd K dR.gQ hI;have aap:((bT d L ins).length:Int)=d.cells:=by rw[xI];exact dR.eu
  have pV:∀j:Int,j≠0->j≠4->j≠7->(j<d.A\/d.B<=j)->ah (bT d L ins) j=ah L j:=fun j _ a _ b=>Dy hd K hI a b
  have h7:ah (bT d L ins) 7=ah L 7:=Dy hd K hI (by omega) (by omega)
  obtain⟨n4a,n4b⟩:=acj hd dR.eu K hI h2 hn;have ju:∀(k':Nat) (l':List Nd),t[k']?=some l' -> ∀c,c∈l' -> c.id≠fr.id->ah (bT d L ins) (d.node c.id 0)=ah L (d.node c.id 0):=fun k' l' hk' c hc hne=>by
   have hcb:=(dR.tree.sh.nodes k' l' hk' c hc).1;have:=dR.tree.n4;exact hI.other hd K hF hk' hc hcb.1 (by omega) hne 0 (by omega) (by omega)
  by_cases hB:P.room=false/\ins.pc=0
  ·-- no number is left
   obtain⟨vA,Ub⟩:=hB;have acn:ins.tk.pc=0:=by
    rcases hR0 vA with⟨_,h⟩|⟨h,_⟩
    ·exact h
    ·omega
   obtain⟨q1,q2⟩:=dR.noR vA;obtain⟨pc,tk2,k2,ps,sp,id2,full⟩:=ins;simp only at Ub acn;subst Ub;obtain⟨a1,a2,a3,a4,a5⟩:=hI;obtain⟨tp,seen,ok⟩:=tk2;simp only at acn a1 a2 a4;subst acn a1 a2;have hok:ok=false:=by
    rcases a4 with⟨_,h⟩|⟨h,_⟩
    ·exact h
    ·omega
   subst hok;have e1:aF 4 d.no L ⟨0,seen,false⟩=(⟨2,(ah L 4).n,false⟩,L):=by
    show((⟨if d.no<=(ah L 4).n then 2 else 1,(ah L 4).n,false⟩:iB),L)=_
    rw[if_pos q1]
   have eL:bT d L ⟨0,⟨0,seen,false⟩,k2,ps,false,id2,false⟩=L:=rfl;rw[eL];simp only[iC,e1]at hn;rcases hn with⟨c1,_⟩|⟨_,_,rfl⟩|⟨_,c2,_⟩
   ·omega
   ·rcases hs' with⟨c1,_⟩|⟨_,rfl⟩
    ·simp at c1
    ·have aoN:=iT vA
     refine⟨t,n,m-1,⟨dR,hn1,rfl,fun hp=>by simp at hp,hch,fun c hc=>?_,fun k l' hk l8 hm hno=>hfree k l' hk l8 hm (fun hcc=>hno (.inl hcc)),fun _=>wE,iT,fun k l' hk l8 hm=>by have:=hwd k l' hk l8 hm;omega,⟨⟨nd.low,l,nd,H.hk,hnm,hid,rfl,a5.2,K.lk,K.hok.word⟩,fun _=>vA,fun e=>by simp at e,fun _=>rfl,by omega⟩⟩,by omega,wA.refl _ _ _⟩
     have:=jy c hc;have e2:ew ⟨2,⟨n,sep,ch,po⟩,lk,fr,⟨3,⟨2,(ah L 4).n,false⟩,k2,ps,false,id2,true⟩,aq,root,word,tk,id,k⟩=ew ⟨1,⟨n,sep,ch,po⟩,lk,fr,⟨0,⟨0,seen,false⟩,k2,ps,false,id2,false⟩,aq,root,word,tk,id,k⟩:=by simp[ew]
     rw[e2];exact this
   ·cases c2
  ·have hAl:Lg d L ins:=by
    refine⟨Nu,fun Ub=>?_⟩
    have hr:P.room=true:=by
     cases hr:P.room with
     | true=>rfl
     | false=>exact absurd ⟨hr,Ub⟩ hB
    have h1:=hroom hr;have h3:=acm (hJ (.inl (by omega)))
    simp only[Ub,if_true]at h1;have mD:=dR.lim.1;exact⟨by omega,hR1 hr Ub⟩
   obtain⟨⟨Dz,afa⟩,hms⟩:=hAl.step hd dR.eu hI h2 hn;have aco:P.room=false->ins.pc=2/\ins.sp=false:=fun e=>by
    rcases hR0 e with⟨q,_⟩|q
    ·exact absurd ⟨e,q⟩ hB
    ·exact q
   have Oc:P.room=false->(ah (bT d L ins) 4).n=(ah L 4).n:=fun e=>n4b (.inl (by have:=(aco e).1;omega))
   have zA:(ins.pc=0/\(ins'.pc=0\/ins'.pc=1)/\ins'.sp=false)\/(ins.pc=1/\(ins'.pc=1\/(ins'.pc=2/\ins'.sp=true)))\/(ins.pc=2/\(ins'.pc=2\/ins'.pc=3)/\ins'.sp=ins.sp):=by
    obtain⟨pc,tk2,k2,ps,sp,id2,full⟩:=ins;simp only at h2;rcases(by omega:pc=0\/pc=1\/pc=2)with rfl|rfl|rfl
    ·left
     have hsp:=hI.1;simp only at hsp;subst hsp;rcases hn with⟨_,rfl⟩|⟨_,_,rfl⟩|⟨_,_,rfl⟩
     ·exact⟨rfl,.inl rfl,rfl⟩
     ·cases Dz
     ·exact⟨rfl,.inr rfl,rfl⟩
    ·right;left
     rcases hn with⟨_,rfl⟩|⟨_,ps',_,rfl⟩
     ·exact⟨rfl,.inl rfl⟩
     ·exact⟨rfl,.inr ⟨rfl,rfl⟩⟩
    ·right;right
     rcases hn with⟨_,rfl⟩|⟨_,rfl⟩
     ·exact⟨rfl,.inl rfl,rfl⟩
     ·exact⟨rfl,.inr rfl,rfl⟩
   have aar:P.room=true->(ah (bT d L ins) 4).n<=P.lim:=fun er=>by
    have hr:=hroom er;have hl2:=dR.lim.2 er;by_cases hcc:ins.pc=0/\ins'.pc=1
    ·rw[n4a hcc.1 hcc.2]
     rw[if_pos hcc.1,acm (hJ (.inl (by omega)))]at hr
     omega
    ·rw[n4b (by omega)];exact hl2
   by_cases h3:ins'.pc<=2
   ·obtain⟨q1,q2⟩:=Uq hd dR.eu K dR.tree H hI hF h2 hn (.inl h3)
    have hF' := qL.step dR.tree hI hF h2 hn h3;rcases hs' with⟨_,rfl⟩|⟨c1,_⟩
    ·have hw' := hI'.word hd K h3
     refine⟨t,n,m-1,⟨dR.next Lh aap q1 dR.sz rfl pV (fun e=>⟨Oc e,rfl⟩) aar,hn1,rfl,fun _=>kH,hch,jy,fun k' l' hk' c hc hno=>?_,fun _=>by rw[h7];exact wE,iT,fun k' l' hk' c hc=>?_,⟨i,l,nd,?_,?_,?_,hF',h3,Dz,?_,fun er e0 e1=>(afa e0).2 e1,fun er=> .inr ?_,fun er=>?_,fU,?_,?_⟩⟩,by omega,q2⟩
     ·rw[ju k' l' hk' c hc hno]
      exact hfree k' l' hk' c hc hno
     ·by_cases e:c.id=fr.id
      ·rw[e,hw']
       have e2:=(nU K.lk).1;show(if _ then _ else _)+4*((m-1:Nat):Int)<=_
       split <;> omega
      ·rw[ju k' l' hk' c hc e]
       have:=hwd k' l' hk' c hc;omega
     ·show qK t n i l nd fr (aZ fr.pg sep ch)
      rw[sj];exact H
     ·show kT d fr (aZ fr.pg sep ch)
      rw[sj];exact K
     ·show iZ d _ fr (aZ fr.pg sep ch) ins'
      rw[sj];exact hI'
     ·show _->d.fa<((aZ fr.pg sep ch).sl.length:Int)
      rw[sj];intro hc;rcases zA with⟨e,_⟩|⟨e,_⟩|⟨e,e2,e3⟩
      ·exact hJ (.inl (by omega))
      ·exact hJ (.inl (by omega))
      ·rcases hc with hc|hc
       ·simp only at hc;omega
       ·exact hJ (.inr (by rw[←e3];exact hc))
     ·have e5:=aco er
      rcases zA with⟨e,_⟩|⟨e,_⟩|⟨e,e2,e3⟩
      ·omega
      ·omega
      ·exact⟨by show ins'.pc=2;omega,by show ins'.sp=false;rw[e3];exact e5.2⟩
     ·have hr:=hroom er
      rcases zA with⟨e,e1|e1,e2⟩|⟨e,e1|⟨e1,e2⟩⟩|⟨e,e1,e2⟩
      ·rw[n4b (.inr (by omega))]
       rw[if_pos e]at hr;rw[if_pos (by exact e1)]
       exact hr
      ·rw[n4a e e1]
       rw[if_pos e,acm (hJ (.inl (by omega)))]at hr
       rw[if_neg (by simp only;omega),if_pos (.inl e1)]
       omega
      ·rw[n4b (.inl (by omega))]
       rw[if_neg (by omega),if_pos (.inl e)]at hr
       rw[if_neg (by simp only;omega),if_pos (.inl e1)]
       exact hr
      ·rw[n4b (.inl (by omega))]
       rw[if_neg (by omega),if_pos (.inl e)]at hr
       rw[if_neg (by simp only;omega),if_pos (.inr e2)]
       exact hr
      ·rw[n4b (.inl (by omega))]
       rw[if_neg (by omega)]at hr
       rw[if_neg (by simp only;omega)]
       by_cases hs:ins.sp=true
       ·rw[if_pos (.inr hs)]at hr
        rw[if_pos (.inr (by show ins'.sp=true;rw[e2];exact hs))]
        exact hr
       ·rw[if_neg (fun h=>by rcases h with h|h;omega;exact hs h)]at hr
        rw[if_neg (fun h=>by rcases h with h|h;(simp only at h;omega);exact hs (by rw[←e2];exact h))]
        exact hr
     ·show fr.word+4*((m-1:Nat):Int)+4<=_
      omega
     ·show oP (aZ fr.pg sep ch) ins' + 5+(if d.fa<((aZ fr.pg sep ch).sl.length:Int)then _ else 0)<=m-1
      rw[sj];omega
    ·omega
   ·have Ud:ins.pc=2/\ins'.pc=3/\ins'.sp=ins.sp:=by
     rcases zA with⟨_,e|e,_⟩|⟨_,e|⟨e,_⟩⟩|⟨a,e|e,b⟩
     ·omega
     ·omega
     ·omega
     ·omega
     ·omega
     ·exact⟨a,e,b⟩
    obtain⟨q1,q2⟩:=Ur hd dR.eu K dR.tree H hI hF h2 hn Ud.2.1 Dz;have ajW:=n4b (.inl (by omega))
    rcases hs' with⟨c1,_⟩|⟨_,rfl⟩
    ·omega
    obtain⟨hp2,Ud,afb⟩:=Ud;have aoO:1<=oP fu ins:=by omega
    clear zA n4a n4b hms hF hAl afa hn h3;obtain⟨La,tk',k',ps',sp',id',Dm⟩:=ins';simp only at Dz q1 q2 Ud afb;subst Dz Ud afb;obtain⟨_,⟨g,_⟩|⟨_,g1,g2,g3,g4⟩⟩:=hI'
    ·cases g
    simp only at g1 g2 g3 g4;obtain⟨l',hl',hll,⟨a,ha,ha1,ha2⟩,hb⟩:=Dx (fu:=fu) (id:=id') (sp:=ins.sp) H.hk H.hi;have e4:=zl K.lk K.hok.word.1 K.ver;have hlk:=K.lk;have hfk:∀x,x∈fu.sl->x.k.size<=32:=fun x hx=>by
     rw[lA]at hx;obtain⟨l0,c,hl0,hc,e1,e2⟩:=kH;obtain⟨k,hk1⟩:∃k,n=k+1:=⟨n-1,by omega⟩
     rcases jS hx with hx|rfl
     ·have hk2:=H.hk
      rw[hk1]at hk2;exact((dR.sz.keys dR.tree.sh hk2 hnm).1 x hx).1
     ·show sep.size<=32
      rw[←e2];exact dR.sz _ l0 hl0 c hc
    refine⟨mo t n i l nd fu id' ins.sp,n,m-1,⟨dR.next Lh aap q1 (fun k' l2 hk' c hc=>?_) (jh (by omega)) pV (fun e=>⟨Oc e,uY⟩) aar,hn1,rfl,fun hp=>by simp at hp,hch,fun c hc=>?_,fun k' l2 hk' c hc hno=>?_,fun _=>by rw[h7];exact wE,iT,fun k' l2 hk' c hc=>?_,⟨⟨a.low,l',a,hl',ha,ha1.trans hid,rfl,?_⟩,fun e=>by simp at e,fun _ Pk=>?_,fun e=>by simp at e,by omega⟩⟩,by omega,q2⟩
    ·rcases rD H.hk H.hi hk' hc with⟨l0,c0,h1,h2,_,h4⟩|⟨Pk,_,rfl⟩
     ·rw[←h4];exact dR.sz _ l0 h1 c0 h2
     ·exact xM hfk
    ·have e9:ew ⟨2,⟨n,sep,ch,po⟩,lk,fr,⟨3,tk',k',ps',ins.sp,id',false⟩,aq,root,word,tk,id,k⟩=true:=by simp[ew]
     rw[e9];have hr:=jy c hc;by_cases e:n=1
     ·subst e
      have e8:ew ⟨1,⟨((1:Nat):Int),sep,ch,po⟩,lk,fr,ins,aq,root,word,tk,id,k⟩=false:=by simp[ew]
      rw[e8]at hr;rw[lA,Ut H.hk H.hi,hr,hch rfl];simp
     ·have e7:pQ (mo t n i l nd fu id' ins.sp) 1 c.id↔pQ t 1 c.id:=by
       unfold pQ;rw[jh (fun h=>e h.symm)]
      have e8:ew ⟨1,⟨n,sep,ch,po⟩,lk,fr,ins,aq,root,word,tk,id,k⟩=true:=by
       unfold ew;rw[decide_eq_true (by show(2:Int)<=(n:Nat);omega)]
       rfl
      rw[e7,hr,e8]
    ·rcases rD H.hk H.hi hk' hc with⟨l0,c0,h1,h2,h3,h4⟩|⟨Pk,_,rfl⟩
     ·have hne:c0.id≠fr.id:=fun e=>hno (.inl (by rw[←h3];exact e))
      rw[←h3,ju k' l0 h1 c0 h2 hne];exact hfree k' l0 h1 c0 h2 hne
     ·exact absurd (.inr ⟨Pk,rfl,rfl⟩) hno
    ·rcases rD H.hk H.hi hk' hc with⟨l0,c0,h1,h2,h3,h4⟩|⟨Pk,_,rfl⟩
     ·by_cases e:c0.id=fr.id
      ·rw[←h3,e,g4,e4]
       show fr.word+4+4*((m-1:Nat):Int)<=_
       omega
      ·rw[←h3,ju k' l0 h1 c0 h2 e]
       have:=hwd k' l0 h1 c0 h2;omega
     ·rw[show ah (bT d L ins) (d.node id' 0)=_ from(g2 Pk).2.2.2]
      show(1:Int)+4*((m-1:Nat):Int)<=_
      have:=K.hok.word;omega
    ·show si d _ fr.id (dM (bE fr.word))
     exact⟨g4,by rw[e4];omega,by rw[e4];have:=K.ver;have:=K.hok.word;omega⟩
    ·obtain⟨g5,g6,g7⟩:=g2 Pk
     have hrt:P.room=true:=by
      cases hr:P.room with
      | true=>rfl
      | false=>have:=(aco hr).2;simp only at Pk;rw[this]at Pk;cases Pk
     have hr:=hroom hrt;rw[if_neg (by omega),if_pos (.inr Pk)]at hr
     rw[if_pos (hJ (.inr Pk))]at hm;have xx:((aZ fr.pg sep ch).sl.length:Int)<=d.fa+1:=by rw[sj];exact ae8
     have vT:=hd.mK;refine⟨⟨l',_,hl',hb Pk,rfl,?_,g7.2,by decide,by decide⟩,g6.ne,g6.lo,?_,?_,fun _=>?_,Uz H.hk H.hi fU,hrt,?_⟩
     ·show bN fu=bN (aZ fr.pg sep ch)
      rw[sj]
     ·show(bN (aZ fr.pg sep ch)).size<=32
      rw[sj];exact xM hfk
     ·show(aZ fr.pg sep ch).sl.length<=1000
      omega
     ·rw[Zg,ajW];exact hr
     ·rw[Oi];omega
end
section
variable {d:aR}{P:Eu}{L L':List aO}{t t':List (List Nd)}{n m:Nat}{s s':eE}
theorem Va (hd:d.Ok)(hb:zB d P L t){id w:Int}{low:ByteArray}(hh:qM d L t n id w low) :
  zB d P (aP L (d.node id 0) ⟨aG w,⟨#[]⟩,0⟩) t/\wA d L t (aP L (d.node id 0) ⟨aG w,⟨#[]⟩,0⟩) t /\
  (∀(k:Nat) (l:List Nd),t[k]?=some l->∀c,c∈l->(c.id=id->(ah (aP L (d.node id 0) ⟨aG w,⟨#[]⟩,0⟩) (d.node c.id 0)).n%4=0)/\(c.id≠id->ah (aP L (d.node id 0) ⟨aG w,⟨#[]⟩,0⟩) (d.node c.id 0)=ah L (d.node c.id 0))/\(ah (aP L (d.node id 0) ⟨aG w,⟨#[]⟩,0⟩) (d.node c.id 0)).n<=(ah L (d.node c.id 0)).n) /\
  (∀j:Int,(j<d.A\/d.B<=j)->ah (aP L (d.node id 0) ⟨aG w,⟨#[]⟩,0⟩) j=ah L j)/\1<=id/\id<=d.no:=by
 obtain⟨l,nd,hl,hnd,hid,_,hlt⟩:=hh;subst hid;have f1:=hd.fo;have tz:=hb.tree.n4;have hnb:=(hb.tree.sh.nodes _ l hl nd hnd).1;have hw:=hlt.w;have hbd:=hlt.bd;have hun:aG w=w-1:=by unfold aG;omega
 have hpos:=bV hd (id:=nd.id) hnb.1 (by omega) (k:=0) (by omega) (by omega)
 obtain⟨q1,q2,q3⟩:=hb.tree.bit hd hb.eu hl hnd (w' := aG w) (by rw[hlt.c,hun];show(w-1) / 4=w / 4;omega) hlt.vD (by unfold bW;rw[hun];exact decide_eq_false (by omega))
 have pV:∀j:Int,(j<d.A\/d.B<=j)->ah (aP L (d.node nd.id 0) ⟨aG w,⟨#[]⟩,0⟩) j=ah L j:=fun j hj=>bj (by have:=nW hd hnb.1 (by omega) (j:=0) (by omega) (by omega);omega)
 have hA:=hd.eC;refine⟨hb.next (hb.gQ.put ⟨by show 0<=aG w;omega,by show aG w<_;omega⟩) (by rw[aY];exact hb.eu) q1 hb.sz rfl (fun j _ _ _ e=>pV j e) (fun _=>⟨by rw[pV 4 (by omega)],rfl⟩) (fun e=>by rw[pV 4 (by omega)];exact hb.lim.2 e),q2,fun k l' hk c hc=>?_,pV,hnb.1,by omega⟩
 have hcb:=(hb.tree.sh.nodes k l' hk c hc).1;have e1:ah (aP L (d.node nd.id 0) ⟨aG w,⟨#[]⟩,0⟩) (d.node nd.id 0)=⟨aG w,⟨#[]⟩,0⟩:=cB hpos.2.1 (by have:=hb.eu;omega)
 have e2:c.id≠nd.id->ah (aP L (d.node nd.id 0) ⟨aG w,⟨#[]⟩,0⟩) (d.node c.id 0)=ah L (d.node c.id 0):=fun e=>bj (cK hd hcb.1 (by omega) hnb.1 (by omega) (by omega) (by omega) (by omega) (by omega) e)
 refine⟨fun e=>?_,e2,?_⟩
 ·rw[e,e1];show aG w%4=0;omega
 ·by_cases e:c.id=nd.id
  ·rw[e,e1,hlt.c];show aG w<=w;omega
  ·rw[e2 e];exact Int.le_refl _
theorem qM.other (hd:d.Ok)(hb:dQ d L t){id w id' w':Int}{low:ByteArray}{c:aO}(h:qM d L t n id w low)(h1:1<=id')(h2:id' <= d.no)(hne:id≠id'):qM d (aP L (d.node id' 0) c) t n id w low:=by
 obtain⟨l,nd,hl,hnd,hid,dW,hlt⟩:=h;have hnb:=(hb.sh.nodes _ l hl nd hnd).1;have f1:=hd.fo;have tz:=hb.n4;exact⟨l,nd,hl,hnd,hid,dW,by rw[bj (cK hd (by omega) (by omega) h1 h2 (by omega) (by omega) (by omega) (by omega) hne)];exact hlt.c,hlt.w,hlt.bd⟩
theorem kA.afc (hd:d.Ok)(sQ:d.no<=900)(h:kA d P L t n s m)(h0:s.pc=4)(Vb:n<1000):rC d P L t s m:=by
 have dR:=h.base;have hn1:=h.n1;have bZ:=h.ak;have hch:=h.ch;have jy:=h.ref;have hfree:=h.free;have wE:=h.c7 (.inl (by omega))
 have iT:=h.wD;have hwd:=h.wd;have hst:=h.st;obtain⟨pc,f,lk,fr,ins,aq,root,word,tk,id,k⟩:=s;simp only at h0;subst h0;obtain⟨ak,sep,ch,po⟩:=f;simp only at bZ hch;subst bZ;obtain⟨⟨low,hh⟩,hm⟩:=hst;simp only at hh;obtain⟨r1,r2,r3,r4,r5,r6⟩:=Va hd dR hh;have hA:=hd.eC;have hbd:0<=fr.word/\fr.word<18446744073709551616:=by obtain⟨_,_,_,_,_,_,hlt⟩:=hh;exact hlt.bd
 constructor
 ·exact⟨by show 4<=13;decide,⟨by show(0:Int)<=n;omega,by show(n:Int)<1000;omega⟩,fun h=>by simp at h,fun h=>by simp at h,fun h=>by simp at h,fun h=>by simp at h,fun _=>hbd,fun h=>by simp at h,fun h=>by simp at h,fun h=>by simp at h,fun h=>by simp at h,fun h=>by simp at h⟩
 ·rintro s' rfl
  refine⟨t,n,m-1,⟨r1,hn1,rfl,fun hp=>by simp at hp,hch,fun c hc=>?_,fun k' l' hk' c hc _=>?_,fun _=>?_,iT,fun k' l' hk' c hc=>?_,fun _=>rfl⟩,by omega,r2⟩
  ·have e1:ew ⟨14,j8.end ⟨n,sep,ch,po⟩ true,lk,fr,ins,aq,root,word,tk,id,k⟩=true:=by simp[ew,j8.end]
   have e2:ew ⟨4,⟨n,sep,ch,po⟩,lk,fr,ins,aq,root,word,tk,id,k⟩=true:=by simp[ew]
   have:=jy c hc;rw[e2]at this;show pQ t 1 c.id↔P.R c.id\/(ew ⟨14,j8.end ⟨n,sep,ch,po⟩ true,lk,fr,ins,aq,root,word,tk,id,k⟩=true/\c.id=P.ch0)
   rw[e1];exact this
  ·obtain⟨a,b,_⟩:=r3 k' l' hk' c hc
   by_cases e:c.id=fr.id
   ·exact a e
   ·show(ah (aP L (d.node fr.id 0) _) _).n%4=0
    rw[b e];exact hfree k' l' hk' c hc e
  ·show(ah (aP L (d.node fr.id 0) _) 7).n%4=0
   rw[r4 7 (by omega)];exact wE
  ·have a:=(r3 k' l' hk' c hc).2.2
   have b:=hwd k' l' hk' c hc;show(ah (aP L (d.node fr.id 0) ⟨aG fr.word,⟨#[]⟩,0⟩) _).n+4*((m-1:Nat):Int)<=_
   omega
theorem kA.afd (hd:d.Ok)(sQ:d.no<=900)(h:kA d P L t n s m)(h0:s.pc=3)(Vb:n<999):rC d P L t s m:=by
 have dR:=h.base;have hn1:=h.n1;have bZ:=h.ak;have hch:=h.ch;have jy:=h.ref;have hfree:=h.free;have wE:=h.c7 (.inl (by omega))
 have iT:=h.wD;have hwd:=h.wd;have hst:=h.st;obtain⟨pc,f,lk,fr,ins,aq,root,word,tk,id,k⟩:=s;simp only at h0;subst h0;obtain⟨ak,sep,ch,po⟩:=f;simp only at bZ hch;subst bZ;obtain⟨hh,Nu,hsp,jB,hsz,hlen,hroom,fU,hrt,hm⟩:=hst;simp only at hh Nu hsp jB;obtain⟨r1,r2,r3,r4,r5,r6⟩:=Va hd dR hh;have hA:=hd.eC;have mF:eE.right ⟨3,⟨n,sep,ch,po⟩,lk,fr,ins,aq,root,word,tk,id,k⟩=⟨ins.id,aN 0,dI (eE.fu ⟨3,⟨n,sep,ch,po⟩,lk,fr,ins,aq,root,word,tk,id,k⟩)⟩:=by
  show(if ins.sp=true then _ else _)=_
  rw[if_pos hsp]
 have Xk:eE.Yl ⟨3,⟨n,sep,ch,po⟩,lk,fr,ins,aq,root,word,tk,id,k⟩=bN (eE.fu ⟨3,⟨n,sep,ch,po⟩,lk,fr,ins,aq,root,word,tk,id,k⟩):=by
  show(if ins.sp=true then _ else _)=_
  rw[if_pos hsp]
 have hmm:gK d L ⟨3,⟨n,sep,ch,po⟩,lk,fr,ins,aq,root,word,tk,id,k⟩=aP L (d.node ins.id 0) ⟨aG (aN 0),⟨#[]⟩,0⟩:=by
  show aP L (d.node (eE.right _).id 0) ⟨aG (eE.right _).word,⟨#[]⟩,0⟩=_
  rw[mF]
 obtain⟨fu,lA⟩:∃fu,fu=eE.fu ⟨3,⟨n,sep,ch,po⟩,lk,fr,ins,aq,root,word,tk,id,k⟩:=⟨_,rfl⟩;rw[←lA]at mF Xk hh hsz hlen;constructor
 ·refine⟨by show 3<=13;decide,⟨by show(0:Int)<=n;omega,by show(n:Int)<1000;omega⟩,fun h=>by simp at h,fun h=>by simp at h,fun h=>by simp at h,fun _=>?_,fun h=>by simp at h,fun h=>by simp at h,fun h=>by simp at h,fun h=>by simp at h,fun h=>by simp at h,fun h=>by simp at h⟩
  rw[mF];refine⟨⟨by show(0:Int)<=aN 0;decide,by show aN 0<(18446744073709551616:Int);decide⟩,?_⟩
  show(fu.sl.drop _).length<=_
  rw[List.length_drop];omega
 ·rintro s' rfl
  rw[hmm];obtain⟨l0,nd0,hl0,afe,Ya,aff,_⟩:=hh;have htl:=(aq5.1 hl0).1;refine⟨t,n+1,m-1,⟨r1,by omega,?_,fun _=>?_,fun h=>by omega,fun c hc=>?_,fun k' l' hk' c hc _=>?_,fun _=>?_,fun e=>by rw[hrt]at e;(cases e),fun k' l' hk' c hc=>?_,⟨fun e=>?_,?_,by show(0:Nat)≠4;decide,?_⟩⟩,by omega,r2⟩
  ·show(n:Int)+1=((n+1:Nat):Int)
   omega
  ·refine⟨l0,nd0,by rw[Nat.add_sub_cancel];exact hl0,afe,?_,?_⟩
   ·show nd0.id=(eE.right _).id
    rw[mF];exact Ya
   ·show nd0.low=eE.Yl _
    rw[Xk];exact aff
  ·have e1:∀a b c2,ew ⟨0,⟨(n:Int)+1,a,b,c2⟩,oA,fr,ins,aq,root,word,tk,id,k⟩=true:=fun a b c2=>by
    unfold ew;rw[decide_eq_true (by show(2:Int)<=(n:Int)+1;omega)]
    rfl
   have e2:ew ⟨3,⟨n,sep,ch,po⟩,lk,fr,ins,aq,root,word,tk,id,k⟩=true:=by simp[ew]
   have:=jy c hc;rw[e2]at this;show pQ t 1 c.id↔P.R c.id\/(ew ⟨0,⟨(n:Int)+1,_,_,_⟩,oA,fr,ins,aq,root,word,tk,id,k⟩=true/\c.id=P.ch0)
   rw[e1];exact this
  ·obtain⟨a,b,_⟩:=r3 k' l' hk' c hc
   by_cases e:c.id=ins.id
   ·exact a e
   ·rw[b e]
    exact hfree k' l' hk' c hc e
  ·rw[r4 7 (by omega)];exact wE
  ·have a:=(r3 k' l' hk' c hc).2.2
   have b:=hwd k' l' hk' c hc;omega
  ·rw[r4 4 (by omega)];exact hroom e
  ·exact fU
  ·have afg:n+1<t.length\/t.length=n+1:=by omega
   rcases afg with h1|h1
   ·obtain⟨l1,mD⟩:∃l1,t[n+1]?=some l1:=⟨_,aq8 h1⟩
    have hne:=(dR.tree.sh.rows _ l1 mD).ne;rw[Uu d P.B mD]at hm;refine .inl ⟨h1,_,Jb.begin ⟨l1,l1[0],mD,List.getElem_mem hne⟩ (Nat.le_refl _),?_⟩;rw[mD];unfold wC at hm;show _+wI d+(if small l1=true then 0 else _)<=_
    omega
   ·refine .inr ⟨h1,_,Jb.begin ⟨l0,nd0,by rw[Nat.add_sub_cancel];exact hl0,afe⟩ (Nat.le_refl _),?_⟩
    rw[List.drop_of_length_le (by omega)]at hm
    have hup:pP t n=l0.length:=by
     rw[jx,drop_cons hl0,List.drop_of_length_le (by omega)]
     simp
    have h2:=fU l0 (by rw[h1,Nat.add_sub_cancel];exact hl0)
    have h3:=Nat.mul_le_mul_right (bJ d) (show pP t n<=P.B by omega)
    rw[Nat.add_sub_cancel];have h4:cU d P.B []=gC d P.B:=rfl;rw[h4]at hm;unfold gC at hm;omega
theorem kA.afh (hd:d.Ok)(sQ:d.no<=900)(h:kA d P L t n s m)(h0:s.pc=2)(Vb:n<1000):rC d P L t s m:=by
 have dR:=h.base;have hn1:=h.n1;have bZ:=h.ak;have hch:=h.ch;have jy:=h.ref;have hfree:=h.free;have wE:=h.c7 (.inl (by omega))
 have iT:=h.wD;have hwd:=h.wd;have hst:=h.st;obtain⟨pc,f,lk,fr,ins,aq,root,word,tk,id,k⟩:=s;simp only at h0;subst h0;obtain⟨ak,sep,ch,po⟩:=f;simp only at bZ hch;subst bZ;obtain⟨⟨low,hh⟩,hfr,Vc,hfs,hm⟩:=hst;simp only at hh hfr Vc hfs;obtain⟨r1,r2,r3,r4,r5,r6⟩:=Va hd dR hh;have hA:=hd.eC;have iX:=hd.mJ;have ajX:(eE.left ⟨2,⟨n,sep,ch,po⟩,lk,fr,ins,aq,root,word,tk,id,k⟩).id=fr.id:=by
  show(if ins.full=true then fr else _).id=_
  split <;> rfl
 have hmm:gK d L ⟨2,⟨n,sep,ch,po⟩,lk,fr,ins,aq,root,word,tk,id,k⟩=aP L (d.node fr.id 0) ⟨aG (eE.left ⟨2,⟨n,sep,ch,po⟩,lk,fr,ins,aq,root,word,tk,id,k⟩).word,⟨#[]⟩,0⟩:=by
  show aP L (d.node (eE.left _).id 0) _=_
  rw[ajX]
 obtain⟨fu,lA⟩:∃fu,fu=eE.fu ⟨2,⟨n,sep,ch,po⟩,lk,fr,ins,aq,root,word,tk,id,k⟩:=⟨_,rfl⟩;have mF:eE.right ⟨2,⟨n,sep,ch,po⟩,lk,fr,ins,aq,root,word,tk,id,k⟩=if ins.sp=true then⟨ins.id,aN 0,dI fu⟩else l6:=by rw[lA];rfl
 obtain⟨lw,hlw⟩:∃lw,lw=(eE.left ⟨2,⟨n,sep,ch,po⟩,lk,fr,ins,aq,root,word,tk,id,k⟩).word:=⟨_,rfl⟩;rw[←hlw]at hmm hh r1 r2 r3 r4;rw[←lA]at Vc;have hbd:0<=lw/\lw<18446744073709551616:=by obtain⟨_,_,_,_,_,_,hlt⟩:=hh;exact hlt.bd
 have tz:=dR.tree.n4;have hsf:ins.sp=true->ins.full=false:=fun e=>by
  cases hf:ins.full with
  | false=>rfl
  | true=>rw[hfs hf]at e;cases e
 have Oj:ins.sp=true->1<=ins.id/\ins.id<=d.no:=fun e=>by
  obtain⟨⟨l,nd,hl,hnd,hid,_⟩,_⟩:=Vc (hsf e) e;have:=(dR.tree.sh.nodes _ l hl nd hnd).1;omega
 constructor
 ·refine⟨by show 2<=13;decide,⟨by show(0:Int)<=n;omega,by show(n:Int)<1000;omega⟩,fun h=>by simp at h,fun h=>by simp at h,fun _=>?_,fun h=>by simp at h,fun h=>by simp at h,fun h=>by simp at h,fun h=>by simp at h,fun h=>by simp at h,fun h=>by simp at h,fun h=>by simp at h⟩
  rw[←hlw,mF];refine⟨hbd,?_⟩;cases hs:ins.sp with
  | false=>exact⟨Nat.zero_le _,by show(0:Int)<=0;decide,by show(0:Int)<18446744073709551616;decide⟩
  | true=>
   have h1:=(Vc (hsf hs) hs).2.2.2.2.1;have h2:=Oj hs;refine⟨?_,by show 0<=ins.id;omega,by show ins.id<_;omega⟩
   show(fu.sl.drop _).length<=_
   rw[List.length_drop];omega
 ·intro s' hn
  rw[hmm];have dB:∀x:Bool,(ins.full=true\/ins.sp=false)->(x=false->P.room=false)->(x = !ins.full)->∃t' n' m',kA d P (aP L (d.node fr.id 0) ⟨aG lw,⟨#[]⟩,0⟩) t' n' ⟨14,j8.end ⟨n,sep,ch,po⟩ x,lk,fr,ins,aq,root,word,tk,id,k⟩ m' /\ m' + 1<=m/\wA d L t (aP L (d.node fr.id 0) ⟨aG lw,⟨#[]⟩,0⟩) t' := by
   intro x hx Et hxf;refine⟨t,n,m-1,⟨r1,hn1,rfl,fun hp=>by simp at hp,hch,fun c hc=>?_,fun k' l' hk' c hc _=>?_,fun _=>?_,iT,fun k' l' hk' c hc=>?_,fun hr=>?_⟩,by omega,r2⟩
   ·have e1:ew ⟨14,j8.end ⟨n,sep,ch,po⟩ x,lk,fr,ins,aq,root,word,tk,id,k⟩=ew ⟨2,⟨n,sep,ch,po⟩,lk,fr,ins,aq,root,word,tk,id,k⟩:=by simp[ew,j8.end,hxf]
    rw[e1];exact jy c hc
   ·obtain⟨a,b,_⟩:=r3 k' l' hk' c hc
    by_cases e:c.id=fr.id
    ·exact a e
    ·rw[b e]
     refine hfree k' l' hk' c hc (fun ho=>?_)
     rcases ho with ho|⟨o1,o2,_⟩
     ·exact e ho
     ·rcases hx with hx|hx
      ·simp only at o2;rw[o2]at hx;cases hx
      ·simp only at o1;rw[o1]at hx;cases hx
   ·rw[r4 7 (by omega)];exact wE
   ·have a:=(r3 k' l' hk' c hc).2.2
    have b:=hwd k' l' hk' c hc;omega
   ·cases x with
    | true=>rfl
    | false=>rw[Et rfl]at hr;cases hr
  rcases hn with⟨c1,rfl⟩|⟨c1,c2,rfl⟩|⟨c1,c2,rfl⟩
  ·simp only at c1
   exact dB false (.inl c1) (fun _=>hfr c1) (by rw[c1];rfl)
  ·simp only at c1
   refine dB true (.inr ?_) (fun e=>by cases e) (by rw[c1];rfl)
   cases hs:ins.sp with
   | false=>rfl
   | true=>
    rw[mF,if_pos hs]at c2;have:=Oj hs;simp only at c2;omega
  ·simp only at c1
   have hs:ins.sp=true:=by
    cases hs:ins.sp with
    | true=>rfl
    | false=>
     rw[mF,if_neg (by rw[hs];simp)]at c2
     exact absurd rfl c2
   obtain⟨g1,g2,g3,g4,g5,g6,g7,g8,g9⟩:=Vc c1 hs;refine⟨t,n,m-1,⟨r1,hn1,rfl,fun hp=>by simp at hp,hch,fun c hc=>?_,fun k' l' hk' c hc hno=>?_,fun _=>?_,iT,fun k' l' hk' c hc=>?_,⟨?_,c1,hs,g3,?_,?_,fun e=>?_,g7,g8,?_⟩⟩,by omega,r2⟩
   ·have e1:ew ⟨3,⟨n,sep,ch,po⟩,lk,fr,ins,aq,root,word,tk,id,k⟩=true:=by simp[ew]
    have e2:ew ⟨2,⟨n,sep,ch,po⟩,lk,fr,ins,aq,root,word,tk,id,k⟩=true:=by simp[ew,c1]
    have:=jy c hc;rw[e2]at this;rw[e1];exact this
   ·obtain⟨a,b,_⟩:=r3 k' l' hk' c hc
    by_cases e:c.id=fr.id
    ·exact a e
    ·rw[b e]
     refine hfree k' l' hk' c hc (fun ho=>?_)
     rcases ho with ho|⟨_,_,o3⟩
     ·exact e ho
     ·exact hno o3
   ·rw[r4 7 (by omega)];exact wE
   ·have a:=(r3 k' l' hk' c hc).2.2
    have b:=hwd k' l' hk' c hc;omega
   ·show qM d _ t n ins.id (aN 0) (bN (eE.fu ⟨2,⟨n,sep,ch,po⟩,lk,fr,ins,aq,root,word,tk,id,k⟩))
    rw[←lA];exact g1.other (w' := 0) hd dR.tree r5 r6 g2
   ·show(bN (eE.fu ⟨2,⟨n,sep,ch,po⟩,lk,fr,ins,aq,root,word,tk,id,k⟩)).size<=32
    rw[←lA];exact g4
   ·show(eE.fu ⟨2,⟨n,sep,ch,po⟩,lk,fr,ins,aq,root,word,tk,id,k⟩).sl.length<=1000
    rw[←lA];exact g5
   ·rw[r4 4 (by omega)];exact g6 e
   ·omega
end
section
variable {d:aR}{P:Eu}{L L1:List aO}{t t':List (List Nd)}{n m:Nat}{s s':eE}
theorem Vd (hd:d.Ok)(hb:zB d P L t)(h1:bD L1)(h2:L1.length=L.length)(hn:∀(k:Nat)(l:List Nd),t[k]?=some l->∀nd,nd∈l->∀j:Int,0<=j->j<d.fa+4->ah L1 (d.node nd.id j)=ah L (d.node nd.id j))(h0:ah L1 0=ah L 0)
  (h4:(ah L 4).n<=(ah L1 4).n/\(ah L1 4).n<=d.no) (hr:∀j:Int,j≠0->j≠4->j≠7->(j<d.A\/d.B<=j)->ah L1 j=ah L j) (hroom:P.room=false->(ah L1 4).n=(ah L 4).n) (ajY:P.room=true->(ah L1 4).n<=P.lim) :
  zB d P L1 t/\wA d L t L1 t/\∀(k:Nat) (l:List Nd),t[k]?=some l->∀nd,nd∈l->ah L1 (d.node nd.id 0)=ah L (d.node nd.id 0):=by
 obtain⟨q1,q2,q3⟩:=hb.tree.frame hd hn (by rw[h0]) h4
 exact⟨hb.next h1 (by rw[h2];exact hb.eu) q1 hb.sz rfl hr (fun e=>⟨hroom e,rfl⟩) ajY,q2,q3⟩
theorem tA (h:5<=s.pc/\s.pc<=13):ew s=decide (2<=s.f.ak):=by
 unfold ew;rw[beq_eq_false_iff_ne.2 (show s.pc≠3 by omega),beq_eq_false_iff_ne.2 (show s.pc≠4 by omega),beq_eq_false_iff_ne.2 (show s.pc≠2 by omega),beq_eq_false_iff_ne.2 (show s.pc≠14 by omega)]
 simp
theorem qN {id:Int}(h:5<=s.pc):¬ aan s id:=by
 obtain⟨pc,f,lk,fr,ins,aq,root,word,tk,id2,k⟩:=s;simp only at h;obtain⟨q,rfl⟩:∃q,pc=q+5:=⟨pc-5,by omega⟩
 exact fun h=>h
theorem Ea (h:kA d P L t n s m)(hp:5<=s.pc/\s.pc<=12)(hp':5<=s'.pc/\s'.pc<=13)(hf:s'.f=s.f)(hb:zB d P L1 t)(hw:∀(k:Nat)(l:List Nd),t[k]?=some l->∀nd,nd∈l->ah L1 (d.node nd.id 0)=ah L (d.node nd.id 0))(wE:s'.pc=5->(ah L1 7).n%4=0)(hst:ae3 d P L1 t n s' (m-1)):kA d P L1 t n s' (m-1):=by
 refine⟨hb,h.n1,by rw[hf];exact h.ak,fun _=>by rw[hf];exact h.task (.inr hp),by rw[hf];exact h.ch,fun c hc=>?_,fun k l hk nd hm _=>?_,fun e=>wE (by omega),h.wD,fun k l hk nd hm=>?_,hst⟩
 ·rw[tA hp',hf,←tA (s:=s) ⟨hp.1,by omega⟩]
  exact h.ref c hc
 ·rw[hw k l hk nd hm]
  exact h.free k l hk nd hm (qN hp.1)
 ·rw[hw k l hk nd hm]
  have:=h.wd k l hk nd hm;omega
theorem Je (hb:zB d P L t):zB d P L t/\wA d L t L t/\∀(k:Nat)(l:List Nd),t[k]?=some l->∀nd,nd∈l->ah L (d.node nd.id 0)=ah L (d.node nd.id 0):=⟨hb,wA.refl _ _ _,fun _ _ _ _ _=>rfl⟩
theorem Ve (hd:d.Ok)(hb:zB d P L t){j:Int}{c:aO}(hj:(j=7)\/(j=4/\(ah L 4).n<=c.n/\c.n<=P.lim/\P.room=true))(hc:nk c):zB d P (aP L j c) t/\wA d L t (aP L j c) t/\(∀(k:Nat)(l:List Nd),t[k]?=some l->∀nd,nd∈l->ah (aP L j c) (d.node nd.id 0)=ah L (d.node nd.id 0))/\ah (aP L j c) j=c:=by
 have hcl:=gF hd;have hlen:=hb.eu;have tz:=hb.tree.n4;have hjb:0<=j/\j<8:=by rcases hj with h|h <;> omega
 have he:ah (aP L j c) j=c:=cB hjb.1 (by omega)
 obtain⟨q1,q2,q3⟩:=Vd (L1:=aP L j c) hd hb (hb.gQ.put hc) (aY _ _ _) (fun k l hk nd hm i a b=>bj (by
  have h1:=(hb.tree.sh.nodes k l hk nd hm).1;have:=gW hd nd.id i h1.1 (by omega) a b
  omega)) (bj (by rcases hj with h|h <;> omega)) (by
   rcases hj with h|⟨rfl,h1,h2,_⟩
   ·rw[bj (by omega)];exact⟨Int.le_refl _,tz⟩
   ·have:=hb.lim.1
    rw[he];exact⟨h1,by omega⟩) (fun i h0 h4 h7 _=>bj (by rcases hj with h|h <;> omega)) (fun e=>by
   rcases hj with h|⟨_,_,_,h⟩
   ·rw[bj (by omega)]
   ·rw[h]at e;cases e) (fun e=>by
   rcases hj with h|⟨rfl,_,h2,_⟩
   ·rw[bj (by omega)];exact hb.lim.2 e
   ·rw[he];exact h2)
 exact⟨q1,q2,q3,he⟩
theorem kA.afi (hd:d.Ok)(h:kA d P L t n s m)(h0:s.pc=5)(Vb:n<1000):rC d P L t s m:=by
 have dR:=h.base;have hp:5<=s.pc/\s.pc<=12:=by omega
 have wE:=h.c7 (.inr h0);have bZ:=h.ak;have hmid:=fun L1 s' => Ea (L1:=L1) (s' := s') h hp
 have hst:=h.st;have hcb:=dR.gQ 7;have hg:20<=gI d:=by unfold gI;omega
 obtain⟨pc,f,lk,fr,ins,aq,root,word,tk,id,k⟩:=s;simp only at h0;subst h0;obtain⟨hT,hroom,ha1,ha2,hb1,hb2,hm⟩:=hst;simp only at bZ ha1 ha2 hb1 hb2 hm;obtain⟨ap,aw⟩:=aq;simp only at ha1 ha2 hb1 hb2 hm;constructor
 ·exact⟨by show 5<=13;decide,⟨by show(0:Int)<=f.ak;omega,by show f.ak<1000;omega⟩,fun h=>by simp at h,fun h=>by simp at h,fun h=>by simp at h,fun h=>by simp at h,fun h=>by simp at h,fun _=>⟨⟨by show ap<=2;omega,hb1,hb2⟩,by show ap≠2;omega⟩,fun h=>by simp at h,fun h=>by simp at h,fun h=>by simp at h,fun h=>by simp at h⟩
 ·intro s' hn
  rcases(by omega:ap=0\/ap=1)with rfl|rfl
  ·have e1:bM 7 L ⟨0,aw⟩=(⟨1,aN (ah L 7).n⟩,L):=by
    show((if (ah L 7).n%2=1 then⟨0,aw⟩else⟨1,aN (ah L 7).n⟩:oZ),L)=_
    rw[if_neg (by omega)]
   have e2:gK d L ⟨5,f,lk,fr,ins,⟨0,aw⟩,root,word,tk,id,k⟩=L:=by
    show(bM 7 L ⟨0,aw⟩).2=L
    rw[e1]
   rw[e2];simp only[pJ,e1]at hn;have hlk:=jw wE;rcases hn with⟨_,rfl⟩|⟨c1,_⟩
   ·obtain⟨q1,q2,q3⟩:=Je (d:=d) dR
    have hcn:=hcb.2;have aoP:=hcb.1;refine⟨t,n,m-1,hmid L _ ⟨by show 5<=5;decide,by show 5<=13;decide⟩ rfl q1 q3 (fun _=>wE) ⟨hT,hroom,by show 1<=1;decide,fun _=>hlk,by show 0<=aN _;omega,by show aN _<_;omega,by show gI d<=m-1+1;omega⟩,by omega,q2⟩
   ·omega
  ·have haw:=ha2 rfl
   have hun:aG aw=(ah L 7).n:=by rw[haw];exact jq wE
   have hcl:=gF hd;have hlen:=dR.eu;have hsw:bX L 7 (aG aw)=true:=by
    unfold bX;rw[decide_eq_true (by omega),decide_eq_true (by omega),decide_eq_true hun.symm]
    rfl
   have e1:bM 7 L ⟨1,aw⟩=(⟨2,aw⟩,aP L 7 ⟨aw,⟨#[]⟩,0⟩):=by
    show(if bX L 7 (aG aw)then _ else _)=_
    rw[if_pos hsw]
   have e2:gK d L ⟨5,f,lk,fr,ins,⟨1,aw⟩,root,word,tk,id,k⟩=aP L 7 ⟨aw,⟨#[]⟩,0⟩:=by
    show(bM 7 L ⟨1,aw⟩).2=_
    rw[e1]
   rw[e2];simp only[pJ,e1]at hn;obtain⟨q1,q2,q3,q4⟩:=Ve hd dR (j:=7) (c:=⟨aw,⟨#[]⟩,0⟩) (.inl rfl) ⟨hb1,hb2⟩;rcases hn with⟨c1,_⟩|⟨_,rfl⟩
   ·exact absurd rfl c1
   ·refine⟨t,n,m-1,hmid _ _ ⟨by show 5<=6;decide,by show 6<=13;decide⟩ rfl q1 q3 (fun e=>by simp at e) ⟨hT,fun e=>by rw[bj (by omega)];exact hroom e,rfl,⟨q4,by show aw%4=1;omega,hb1,hb2⟩,by omega⟩,by omega,q2⟩
theorem kA.acp (hd:d.Ok)(h:kA d P L t n s m)(h0:s.pc=6\/s.pc=7)(Vb:n<1000):rC d P L t s m:=by
 have dR:=h.base;have hp:5<=s.pc/\s.pc<=12:=by omega
 have bZ:=h.ak;have hmid:=fun L1 s' => Ea (L1:=L1) (s' := s') h hp
 have hfree:=fun k l hk nd hm=>h.free k l hk nd hm (qN hp.1)
 have hst:=h.st;have hg:20<=gI d:=by unfold gI;omega
 have tz:=dR.tree.n4;have iX:=hd.mJ;obtain⟨q1,q2,q3⟩:=Je (d:=d) dR;obtain⟨pc,f,lk,fr,ins,aq,root,word,tk,id,k⟩:=s;simp only at h0 bZ;rcases h0 with rfl|rfl
 ·obtain⟨hT,hroom,ha,hown,hm⟩:=hst
  constructor
  ·exact⟨by show 6<=13;decide,⟨by show(0:Int)<=f.ak;omega,by show f.ak<1000;omega⟩,fun h=>by simp at h,fun h=>by simp at h,fun h=>by simp at h,fun h=>by simp at h,fun h=>by simp at h,fun h=>by simp at h,fun h=>by simp at h,fun h=>by simp at h,fun h=>by simp at h,fun h=>by simp at h⟩
  ·rintro s' rfl
   obtain⟨nd,rest,h1,h2⟩:=dR.tree.root;exact⟨t,n,m-1,hmid L _ ⟨by show 5<=7;decide,by show 7<=13;decide⟩ rfl q1 q3 (fun e=>by simp at e) ⟨hT,hroom,ha,hown,⟨nd,rest,h1,h2⟩,by omega⟩,by omega,q2⟩
 ·obtain⟨hT,hroom,ha,hown,⟨nd,rest,hr1,hr2⟩,hm⟩:=hst
  simp only at hr2 ha hown;have hnd:nd∈nd::rest:=List.mem_cons_self;have hb:=(dR.tree.sh.nodes _ _ hr1 nd hnd).1;have hw:=hfree _ _ hr1 nd hnd;have hN:=dR.tree.node _ _ hr1 nd hnd (by unfold bW;exact decide_eq_false (by omega))
  have hl:=(dR.tree.sh.rows _ _ hr1).ak nd hnd;have hhd:ah L (d.node nd.id 1)=⟨nd.pg.sl.length,⟨#[]⟩,nd.pg.ak⟩:=hN.hold ⟨d.node nd.id 1,⟨nd.pg.sl.length,⟨#[]⟩,nd.pg.ak⟩⟩ (by simp[bP])
  have hne:=dR.tree.sh.ne;have hlm:(ah L (d.node root 1)).m=nd.pg.ak:=by rw[hr2,hhd]
  constructor
  ·refine⟨by show 7<=13;decide,⟨by show(0:Int)<=f.ak;omega,by show f.ak<1000;omega⟩,fun h=>by simp at h,fun h=>by simp at h,fun h=>by simp at h,fun h=>by simp at h,fun h=>by simp at h,fun h=>by simp at h,fun _=>⟨⟨by show 0<=root;omega,by show root<_;omega⟩,ha,?_⟩,fun h=>by simp at h,fun h=>by simp at h,fun h=>by simp at h⟩
   show 0<=(ah L (d.node root 1)).m/\(ah L (d.node root 1)).m<1000000
   rw[hlm];omega
  ·intro s' hn
   rcases hn with⟨c1,_⟩|⟨_,rfl⟩
   ·simp only at c1
    rw[hlm]at c1;omega
   ·exact⟨t,n,m-1,hmid L _ ⟨by show 5<=9;decide,by show 9<=13;decide⟩ rfl q1 q3 (fun e=>by simp at e) ⟨hT,hroom,hown,⟨nd,rest,hr1,hr2⟩,rfl,.inl rfl,by show gI d<=m-1+4+0;omega⟩,by omega,q2⟩
theorem kA.afj (hd:d.Ok)(h:kA d P L t n s m)(h0:s.pc=9)(Vb:n<1000):rC d P L t s m:=by
 have dR:=h.base;have hp:5<=s.pc/\s.pc<=12:=by omega
 have bZ:=h.ak;have hmid:=fun L1 s' => Ea (L1:=L1) (s' := s') h hp
 have hst:=h.st;have hg:20<=gI d:=by unfold gI;omega
 have tz:=dR.tree.n4;have iX:=hd.mJ;have Oc:=(dR.gQ 4).1;have hcl:=gF hd;have hlen:=dR.eu;obtain⟨q1,q2,q3⟩:=Je (d:=d) dR;obtain⟨pc,f,lk,fr,ins,aq,root,word,tk,id,k⟩:=s;simp only at h0 bZ;subst h0;obtain⟨hT,hroom,hown,hrt,hok,lQ,hm⟩:=hst;simp only at hown hrt hok lQ hm;obtain⟨tp,seen,ok⟩:=tk;simp only at hok lQ hm;subst hok;rcases lQ with rfl|⟨Ev,rfl,ajZ⟩
 ·by_cases hfull:d.no<=(ah L 4).n
  ·have e1:aF 4 d.no L ⟨0,seen,false⟩=(⟨2,(ah L 4).n,false⟩,L):=by
    show((⟨if d.no<=(ah L 4).n then 2 else 1,(ah L 4).n,false⟩:iB),L)=_
    rw[if_pos hfull]
   have vA:P.room=false:=by
    cases hr:P.room with
    | false=>rfl
    | true=>have:=hroom hr;have:=dR.lim.1;omega
   constructor
   ·refine⟨by show 9<=13;decide,⟨by show(0:Int)<=f.ak;omega,by show f.ak<1000;omega⟩,fun h=>by simp at h,fun h=>by simp at h,fun h=>by simp at h,fun h=>by simp at h,fun h=>by simp at h,fun h=>by simp at h,fun h=>by simp at h,fun h=>by simp at h,fun _=>⟨by show 0<2;decide,fun e=>by simp at e,fun e=>?_⟩,fun h=>by simp at h⟩
    simp only[e1]at e;cases e
   ·intro s' hn
    have e2:gK d L ⟨9,f,lk,fr,ins,aq,root,word,⟨0,seen,false⟩,id,k⟩=L:=rfl;rw[e2];simp only[pJ,e1]at hn;rcases hn with⟨c1,_⟩|⟨_,_,rfl⟩|⟨_,c1,_⟩
    ·omega
    ·exact⟨t,n,m-1,hmid L _ ⟨by show 5<=13;decide,by show 13<=13;decide⟩ rfl q1 q3 (fun e=>by simp at e) ⟨vA,hown,by omega⟩,by omega,q2⟩
    ·cases c1
  ·have e1:aF 4 d.no L ⟨0,seen,false⟩=(⟨1,(ah L 4).n,false⟩,L):=by
    show((⟨if d.no<=(ah L 4).n then 2 else 1,(ah L 4).n,false⟩:iB),L)=_
    rw[if_neg hfull]
   have Ev:P.room=true:=by
    cases hr:P.room with
    | true=>rfl
    | false=>exact absurd (dR.noR hr).1 hfull
   constructor
   ·refine⟨by show 9<=13;decide,⟨by show(0:Int)<=f.ak;omega,by show f.ak<1000;omega⟩,fun h=>by simp at h,fun h=>by simp at h,fun h=>by simp at h,fun h=>by simp at h,fun h=>by simp at h,fun h=>by simp at h,fun h=>by simp at h,fun h=>by simp at h,fun _=>⟨by show 0<2;decide,fun e=>by simp at e,fun e=>?_⟩,fun h=>by simp at h⟩
    simp only[e1]at e;cases e
   ·intro s' hn
    have e2:gK d L ⟨9,f,lk,fr,ins,aq,root,word,⟨0,seen,false⟩,id,k⟩=L:=rfl;rw[e2];simp only[pJ,e1]at hn;rcases hn with⟨_,rfl⟩|⟨c1,_⟩|⟨c1,_⟩
    ·exact⟨t,n,m-1,hmid L _ ⟨by show 5<=9;decide,by show 9<=13;decide⟩ rfl q1 q3 (fun e=>by simp at e) ⟨hT,hroom,hown,hrt,rfl,.inr ⟨Ev,rfl,rfl⟩,by show gI d<=m-1+4+1;omega⟩,by omega,q2⟩
    ·omega
    ·omega
 ·have hsw:bX L 4 seen=true:=by
   unfold bX;rw[decide_eq_true (by omega),decide_eq_true (by omega),decide_eq_true ajZ.symm]
   rfl
  have e1:aF 4 d.no L ⟨1,seen,false⟩=(⟨2,seen,true⟩,aP L 4 ⟨seen+1,⟨#[]⟩,0⟩):=by
   show(if bX L 4 seen then _ else _)=_
   rw[if_pos hsw]
  have hr1:=hroom Ev;have hr2:(ah L 4).n+1<=P.lim:=hr1;have mD:=dR.lim.1;constructor
  ·refine⟨by show 9<=13;decide,⟨by show(0:Int)<=f.ak;omega,by show f.ak<1000;omega⟩,fun h=>by simp at h,fun h=>by simp at h,fun h=>by simp at h,fun h=>by simp at h,fun h=>by simp at h,fun h=>by simp at h,fun h=>by simp at h,fun h=>by simp at h,fun _=>⟨by show 1<2;decide,fun _=>⟨by show 0<=seen;omega,by show seen<_;omega⟩,fun _=>?_⟩,fun h=>by simp at h⟩
   simp only[e1];omega
  ·intro s' hn
   have e2:gK d L ⟨9,f,lk,fr,ins,aq,root,word,⟨1,seen,false⟩,id,k⟩=aP L 4 ⟨seen+1,⟨#[]⟩,0⟩:=by
    show(aF 4 d.no L ⟨1,seen,false⟩).2=_
    rw[e1]
   rw[e2];simp only[pJ,e1]at hn;obtain⟨q1,q2,q3,q4⟩:=Ve hd dR (j:=4) (c:=⟨seen+1,⟨#[]⟩,0⟩) (.inr ⟨rfl,by show _<=seen+1;omega,by show seen+1<=_;omega,Ev⟩) ⟨by show 0<=seen+1;omega,by show seen+1<_;omega⟩
   rcases hn with⟨c1,_⟩|⟨_,c1,_⟩|⟨_,_,rfl⟩
   ·omega
   ·cases c1
   ·refine⟨t,n,m-1,hmid _ _ ⟨by show 5<=10;decide,by show 10<=13;decide⟩ rfl q1 q3 (fun e=>by simp at e) ⟨hT,Ev,⟨?_,hown.2⟩,hrt,fun k' l hk c hc=>?_,by show 1<=seen+1;omega,?_,by show 0<5;decide,fun q hq=>by simp at hq,by show gI d<=m-1+6+0;omega⟩,by omega,q2⟩
    ·rw[bj (by omega)];exact hown.1
    ·have:=(dR.tree.sh.nodes k' l hk c hc).1
     show c.id≠seen+1
     omega
    ·rw[q4];exact Int.le_refl _
end
section
variable {d:aR}{P:Eu}{L L1:List aO}{t t':List (List Nd)}{n m:Nat}{s s':eE}
theorem Zh (hd:d.Ok){ak root:Int}(h:0<=root/\root<18446744073709551616):oW d (fk ak root):=by
 have f1:=hd.fo;refine⟨by show((1:Nat):Int)<=d.fa;omega,⟨by show(0:Int)<=0;decide,by show(0:Int)<18446744073709551616;decide⟩,fun x hx=>?_,fun x hx=>?_,Nat.zero_le _,fun _=>rfl⟩
 ·obtain rfl:x=⟨⟨#[]⟩,root⟩:=by simpa[fk] using hx
  exact h
 ·obtain rfl:x=⟨⟨#[]⟩,root⟩:=by simpa[fk] using hx
  exact Nat.zero_le _
theorem Ol (hd:d.Ok){id:Int}{pg:Pg}(h1:1<=id)(h2:id<=d.no)(hle:(pg.sl.length:Int)<=d.fa):(∀q,q∈((⟨d.node id 0,⟨aN 0,⟨#[]⟩,0⟩⟩:Pt)::bP d id pg)->∃k:Int,0<=k/\k<d.fa+4/\q.i=d.node id k)/\(((⟨d.node id 0,⟨aN 0,⟨#[]⟩,0⟩⟩:Pt)::bP d id pg).map (·.i)).Nodup:=by
 have f1:=hd.fo;constructor
 ·intro q hq
  rcases List.mem_cons.1 hq with rfl|hq
  ·exact⟨0,by omega,by omega,rfl⟩
  ·obtain⟨k,k1,k2,e⟩:=fJ hd h1 h2 hle q hq
   exact⟨k,by omega,k2,e⟩
 ·rw[List.map_cons,List.nodup_cons]
  refine⟨fun hm=>?_,nH hd h1 h2 hle⟩
  obtain⟨q,hq,e⟩:=List.mem_map.1 hm;obtain⟨k,k1,k2,e2⟩:=fJ hd h1 h2 hle q hq;exact dw hd h1 h2 (by omega) k2 (by omega) (by omega) (by omega) (e2.symm.trans e)
theorem aas (hd:d.Ok)(hb:zB d P L t){id j:Int}{c:aO}(h1:1<=id)(h2:id<=d.no)(hj:0<=j/\j<d.fa+4)(hno:Iy t id)(hc:nk c) :
  zB d P (aP L (d.node id j) c) t/\wA d L t (aP L (d.node id j) c) t/\(∀(k:Nat) (l:List Nd),t[k]?=some l->∀nd,nd∈l->ah (aP L (d.node id j) c) (d.node nd.id 0)=ah L (d.node nd.id 0))/\ah (aP L (d.node id j) c) (d.node id j)=c/\(∀i:Int,i<8->ah (aP L (d.node id j) c) i=ah L i):=by
 have tz:=hb.tree.n4;have hpos:=bV hd h1 h2 hj.1 hj.2;have hmid:=nW hd h1 h2 hj.1 hj.2;have hA:=hd.eC;have hlen:=hb.eu;have dW:∀i:Int,i<8->ah (aP L (d.node id j) c) i=ah L i:=fun i hi=>bj (by omega)
 obtain⟨q1,q2,q3⟩:=Vd (L1:=aP L (d.node id j) c) hd hb (hb.gQ.put hc) (aY _ _ _) (fun k l hk nd hm i a b=>bj (by
  have hn:=(hb.tree.sh.nodes k l hk nd hm).1;exact cK hd hn.1 (by omega) h1 h2 a b hj.1 hj.2 (hno k l hk nd hm))) (dW 0 (by omega)) (by rw[dW 4 (by omega)];exact⟨Int.le_refl _,tz⟩) (fun i _ _ _ hi=>bj (by omega)) (fun _=>by rw[dW 4 (by omega)]) (fun e=>by rw[dW 4 (by omega)];exact hb.lim.2 e)
 exact⟨q1,q2,q3,cB hpos.2.1 (by omega),dW⟩
theorem kA.acr (hd:d.Ok)(h:kA d P L t n s m)(h0:s.pc=10)(Vb:n<1000):rC d P L t s m:=by
 have dR:=h.base;have hp:5<=s.pc/\s.pc<=12:=by omega
 have bZ:=h.ak;have hmid:=fun L1 s' => Ea (L1:=L1) (s' := s') h hp
 have hst:=h.st;have hg:20<=gI d:=by unfold gI;omega
 have tz:=dR.tree.n4;have iX:=hd.mJ;obtain⟨pc,f,lk,fr,ins,aq,root,word,tk,id,k⟩:=s;simp only at h0 bZ;subst h0;obtain⟨hT,Ev,hown,⟨nd,rest,hr1,hr2⟩,hno,jB,oY,hk,hall,hm⟩:=hst;simp only at hown hr2 hno jB oY hk hall hm;have hnd:=(dR.tree.sh.nodes _ _ hr1 nd List.mem_cons_self).1;have kW:=Zh (ak:=f.ak) hd (show 0<=root/\root<18446744073709551616 by omega)
 obtain⟨ps,hps⟩:∃ps,ps=eE.ps d ⟨10,f,lk,fr,ins,aq,root,word,tk,id,k⟩:=⟨_,rfl⟩;rw[←hps]at hall;have Pm:ps=(⟨d.node id 0,⟨aN 0,⟨#[]⟩,0⟩⟩:Pt)::bP d id (fk f.ak root):=hps;have hpl:ps.length=5:=by rw[Pm,List.length_cons,xJ];rfl
 obtain⟨n1,n2⟩:=Ol (pg:=fk f.ak root) hd jB (by omega) kW.le
 rw[←Pm]at n1 n2;have qu:k<ps.length:=by omega
 obtain⟨c,ca,cb,ce⟩:=n1 ps[k] (List.getElem_mem qu);have aj0:nk ps[k].c:=by
  have hm:ps[k]∈ps:=List.getElem_mem qu;generalize ps[k]=q at hm;rw[Pm]at hm;rcases List.mem_cons.1 hm with rfl|hm
  ·exact⟨by show(0:Int)<=aN 0;decide,by show aN 0<(18446744073709551616:Int);decide⟩
  ·exact pI hd kW q hm
 have hmm:gK d L ⟨10,f,lk,fr,ins,aq,root,word,tk,id,k⟩=aP L (d.node id c) ps[k].c:=by
  show(match (eE.ps d ⟨10,f,lk,fr,ins,aq,root,word,tk,id,k⟩)[k]? with|some pt=>aP L pt.i pt.c|none=>L)=_
  rw[←hps,aq8 qu,←ce]
 obtain⟨q1,q2,q3,q4,q5⟩:=aas hd dR jB (show id<=d.no by omega) ⟨ca,cb⟩ hno aj0
 have Zi:∀q,q∈ps.take (k+1)->ah (aP L (d.node id c) ps[k].c) q.i=q.c:=by
  intro q hq;obtain⟨i0,oH⟩:=aq4 hq;rw[List.getElem?_take]at oH;split at oH
  ·by_cases e:i0=k
   ·subst e
    rw[aq8 qu]at oH;obtain rfl:=aq9 oH;rw[ce];exact q4
   ·have hne:q.i≠d.node id c:=by
     rw[List.nodup_iff_pairwise_ne,List.pairwise_map,List.pairwise_iff_getElem]at n2;have Rg:=(aq5.1 oH);have:=n2 i0 k Rg.1 qu (by omega)
     rw[Rg.2,ce]at this;exact this
    rw[bj hne];exact hall q (aq7 (i:=i0) (by rw[List.getElem?_take,if_pos (by omega)];exact oH))
  ·cases oH
 constructor
 ·refine⟨by show 10<=13;decide,⟨by show(0:Int)<=f.ak;omega,by show f.ak<1000;omega⟩,fun h=>by simp at h,fun h=>by simp at h,fun h=>by simp at h,fun h=>by simp at h,fun h=>by simp at h,fun h=>by simp at h,fun h=>by simp at h,fun h=>by simp at h,fun h=>by simp at h,fun _=>⟨?_,by show 0<=id;omega,by show id<_;omega⟩⟩
  rw[←hps];exact qu
 ·intro s' hn
  rw[hmm];simp only[pJ]at hn;rw[←hps,hpl]at hn;have hown':wB (aP L (d.node id c) ps[k].c) word:=⟨by rw[q5 7 (by omega)];exact hown.1,hown.2⟩
  rcases hn with⟨c1,rfl⟩|⟨c1,rfl⟩
  ·refine⟨t,n,m-1,hmid _ _ ⟨by show 5<=10;decide,by show 10<=13;decide⟩ rfl q1 q3 (fun e=>by simp at e) ⟨hT,Ev,hown',⟨nd,rest,hr1,hr2⟩,hno,jB,by rw[q5 4 (by omega)];exact oY,by show k+1<5;omega,?_,by show gI d<=m-1+6+(k+1);omega⟩,by omega,q2⟩
   show ∀q,q∈(eE.ps d ⟨10,f,lk,fr,ins,aq,root,word,tk,id,k⟩).take (k+1)->_
   rw[←hps];exact Zi
  ·rw[c1,←hpl,List.take_length]at Zi
   refine⟨t,n,m-1,hmid _ _ ⟨by show 5<=11;decide,by show 11<=13;decide⟩ rfl q1 q3 (fun e=>by simp at e) ⟨hT,Ev,hown',⟨nd,rest,hr1,hr2⟩,hno,jB,by rw[q5 4 (by omega)];exact oY,⟨fun q hq=>Zi q (by rw[Pm];exact List.mem_cons_of_mem _ hq),Zi ⟨d.node id 0,⟨aN 0,⟨#[]⟩,0⟩⟩ (by rw[Pm];exact List.mem_cons_self)⟩,by show gI d<=m-1+11;omega⟩,by omega,q2⟩
theorem kA.acs (hd:d.Ok)(h:kA d P L t n s m)(h0:s.pc=11)(Vb:n<1000):rC d P L t s m:=by
 have dR:=h.base;have hp:5<=s.pc/\s.pc<=12:=by omega
 have bZ:=h.ak;have hmid:=fun L1 s' => Ea (L1:=L1) (s' := s') h hp
 have hst:=h.st;have hg:20<=gI d:=by unfold gI;omega
 have tz:=dR.tree.n4;have iX:=hd.mJ;have f1:=hd.fo;obtain⟨pc,f,lk,fr,ins,aq,root,word,tk,id,k⟩:=s;simp only at h0 bZ;subst h0;obtain⟨hT,Ev,hown,⟨nd,rest,hr1,hr2⟩,hno,jB,oY,hnew,hm⟩:=hst;simp only at hown hr2 hno jB oY hnew;obtain⟨q1,q2,q3,q4,q5⟩:=aas (c:=⟨aG (aN 0),⟨#[]⟩,0⟩) hd dR jB (show id<=d.no by omega) ⟨Int.le_refl 0,by omega⟩ hno ⟨by show(0:Int)<=aG (aN 0);decide,by show aG (aN 0)<(18446744073709551616:Int);decide⟩
 constructor
 ·exact⟨by show 11<=13;decide,⟨by show(0:Int)<=f.ak;omega,by show f.ak<1000;omega⟩,fun h=>by simp at h,fun h=>by simp at h,fun h=>by simp at h,fun h=>by simp at h,fun h=>by simp at h,fun h=>by simp at h,fun h=>by simp at h,fun h=>by simp at h,fun h=>by simp at h,fun h=>by simp at h⟩
 ·rintro s' rfl
  refine⟨t,n,m-1,hmid _ _ ⟨by show 5<=12;decide,by show 12<=13;decide⟩ rfl q1 q3 (fun e=>by simp at e) ⟨hT,Ev,⟨(q5 7 (by omega)).trans hown.1,hown.2⟩,⟨nd,rest,hr1,hr2⟩,hno,jB,by show id<=(ah (aP L (d.node id 0) _) 4).n;rw[q5 4 (by omega)];exact oY,?_,?_,by omega⟩,by omega,q2⟩
  ·refine hnew.1.frame hd jB (by omega) (by show((1:Nat):Int)<=d.fa;omega) (fun k a b=>?_)
   exact bj (dw hd jB (by omega) (by omega) b (by omega) (by omega) (by omega))
  ·show ah (aP L (d.node id 0) ⟨aG (aN 0),⟨#[]⟩,0⟩) (d.node id 0)=_
   rw[q4];rfl
theorem kA.acu (hd:d.Ok)(h:kA d P L t n s m)(h0:s.pc=12)(Vb:n<1000):rC d P L t s m:=by
 have dR:=h.base;have bZ:=h.ak;have hn1:=h.n1;have hst:=h.st;have kH:=h.task (.inr (by omega))
 have hch:=h.ch;have jy:=h.ref;have hfree:=fun k l hk nd hm=>h.free k l hk nd hm (qN (by omega))
 have iT:=h.wD;have hwd:=h.wd;have hg:gI d=20+wC d 1:=rfl;have tz:=dR.tree.n4;have iX:=hd.mJ;have f1:=hd.fo;have hcl:=gF hd;obtain⟨pc,f,lk,fr,ins,aq,root,word,tk,id,k⟩:=s;simp only at h0 bZ kH hch;subst h0;obtain⟨hT,Ev,hown,⟨nd,rest,hr1,hr2⟩,hno,jB,oY,aat,oC,hm⟩:=hst;simp only at hown hr2 hno jB oY aat oC;obtain⟨r,hr⟩:∃r:Nd,r=⟨id,⟨#[]⟩,fk f.ak root⟩:=⟨_,rfl⟩;have Pm:r.pg=⟨t.length,[⟨⟨#[]⟩,nd.id⟩],⟨#[]⟩,true,0⟩:=by
  rw[hr];show fk f.ak root=_
  rw[bZ,hr2,hT];rfl
 have mF:r.id=id:=by rw[hr]
 have hlen:=dR.eu;have xK:=dR.tree.zh;have hNd:Un d L r:=by
  have hh:Holds L (bP d r.id r.pg):=by rw[hr];exact aat
  refine⟨lF hh ?_ ?_ ?_,hh,?_,?_⟩
  ·rw[Pm];show 0<=(t.length:Int)/\(t.length:Int)<1000000;omega
  ·rw[Pm];show((1:Nat):Int)<=d.fa;omega
  ·rw[Pm];exact fun _=>rfl
  ·rw[mF,oC]
  ·rw[mF,oC]
 obtain⟨q1,q2⟩:=dR.tree.grow hd hlen hr1 (r:=r) (by omega) (by omega) (by rw[mF];exact hno) (by rw[hr]) Pm hNd (by rw[mF,oC];rfl)
 rw[mF]at q1 q2;have hmm:gK d L ⟨12,f,lk,fr,ins,aq,root,word,tk,id,k⟩=aP L 0 ⟨id,⟨#[]⟩,0⟩:=rfl;have hsame:∀j:Int,j≠0->ah (aP L 0 ⟨id,⟨#[]⟩,0⟩) j=ah L j:=fun j hj=>bj hj
 have hat:∀(k:Nat) (x:List Nd),(t++[[r]])[k]?=some x->∀a,a∈x->(t[k]?=some x\/(k=t.length/\a=r)):=by
  intro k x hx a ha;rcases Nat.lt_or_ge k t.length with hk|hk
  ·rw[List.getElem?_append_left hk]at hx;exact .inl hx
  ·have hk2:=(aq5.1 hx).1
   rw[List.length_append]at hk2;simp at hk2;obtain rfl:k=t.length:=by omega
   rw[List.getElem?_append_right hk,Nat.sub_self]at hx;obtain rfl:x=[r]:=by simpa using hx.symm
   exact .inr ⟨rfl,by simpa using ha⟩
 have qF:∀c:Nd,1<=c.id->c.id<=d.no->ah (aP L 0 ⟨id,⟨#[]⟩,0⟩) (d.node c.id 0)=ah L (d.node c.id 0):=fun c a b=>hsame _ (by have:=gW hd c.id 0 a b (by omega) (by omega);omega)
 have hne:=dR.tree.sh.ne;have hT0:(t++[[r]])[t.length]?=some [r]:=by rw[List.getElem?_append_right (Nat.le_refl _),Nat.sub_self];rfl
 constructor
 ·exact⟨by show 12<=13;decide,⟨by show(0:Int)<=f.ak;omega,by show f.ak<1000;omega⟩,fun h=>by simp at h,fun h=>by simp at h,fun h=>by simp at h,fun h=>by simp at h,fun h=>by simp at h,fun h=>by simp at h,fun h=>by simp at h,fun h=>by simp at h,fun h=>by simp at h,fun h=>by simp at h⟩
 ·rintro s' rfl
  rw[hmm];refine⟨t++[[r]],n,m-1,⟨dR.next (dR.gQ.put ⟨by show 0<=id;omega,by show id<_;omega⟩) (by rw[aY];exact hlen) q1 (fun k x hx a ha=>?_) (List.getElem?_append_left hne) (fun j a _ _ _=>hsame j a) (fun e=>by rw[Ev]at e;cases e) (fun e=>by rw[hsame 4 (by omega)];exact dR.lim.2 e),hn1,bZ,fun _=>?_,hch,fun c hc=>?_,fun k' x hx a ha _=>?_,fun e=>by simp at e,fun e=>(by rw[Ev]at e;cases e),fun k' x hx a ha=>?_,⟨by rw[List.length_append,hT];rfl,?_,?_,Ev,⟨by rw[hsame 7 (by omega)];exact hown.1,hown.2⟩,by omega⟩⟩,by omega,q2⟩
  ·rcases hat k x hx a ha with h|⟨_,rfl⟩
   ·exact dR.sz k x h a ha
   ·rw[hr];exact Nat.zero_le _
  ·obtain⟨l,c,hl,hc⟩:=kH
   exact⟨l,c,by rw[List.getElem?_append_left (aq5.1 hl).1];exact hl,hc⟩
  ·have e1:ew ⟨8,f,lk,fr,ins,aq,root,word,tk,id,k⟩=ew ⟨12,f,lk,fr,ins,aq,root,word,tk,id,k⟩:=by
    rw[tA (by show 5<=8/\8<=13;decide),tA (by show 5<=12/\12<=13;decide)]
   have e2:pQ (t++[[r]]) 1 c.id↔pQ t 1 c.id:=by
    constructor
    ·rintro ⟨l,a,x,hl,ha,hx,Et⟩
     rcases hat 1 l hl a ha with h|⟨h,rfl⟩
     ·exact⟨l,a,x,h,ha,hx,Et⟩
     ·exfalso
      rw[Pm]at hx;obtain rfl:x=⟨⟨#[]⟩,nd.id⟩:=by simpa using hx
      simp only at Et;have zv:=dR.r0;have h1:=hr1;rw[show t.length-1=0 by omega,zv]at h1
      have h1:=aq9 h1;rw[h1]at hc zv;obtain⟨j,hj⟩:=aq4 hc;rw[List.getElem?_drop]at hj;have:=(dR.tree.sh.inj 0 0 _ _ 0 (1+j) nd c zv zv rfl hj Et).2;omega
    ·rintro ⟨l,a,x,hl,ha,hx,Et⟩
     exact⟨l,a,x,by rw[List.getElem?_append_left (aq5.1 hl).1];exact hl,ha,hx,Et⟩
   rw[e2];show pQ t 1 c.id↔P.R c.id\/(ew ⟨8,f,lk,fr,ins,aq,root,word,tk,id,k⟩=true/\c.id=P.ch0)
   rw[e1];exact jy c hc
  ·rcases hat k' x hx a ha with h|⟨_,rfl⟩
   ·have hb:=(dR.tree.sh.nodes k' x h a ha).1
    rw[qF a hb.1 (by omega)]
    exact hfree k' x h a ha
   ·rw[qF a (by omega) (by omega),mF,oC];rfl
  ·rcases hat k' x hx a ha with h|⟨_,rfl⟩
   ·have hb:=(dR.tree.sh.nodes k' x h a ha).1
    rw[qF a hb.1 (by omega)]
    have:=hwd k' x h a ha;omega
   ·rw[qF a (by omega) (by omega),mF,oC]
    have h1:=hwd _ _ hr1 nd List.mem_cons_self;have h2:=(dR.gQ (d.node nd.id 0)).1;show(0:Int)+4*((m-1:Nat):Int)<=_
    omega
  ·show((t++[[r]])[n]?.map small).getD false=true
   rw[←hT,hT0];show small [r]=true
   show decide (r.pg.sl.length<=3)=true
   rw[Pm];rfl
  ·show pP (t++[[r]]) n=1
   rw[jx,←hT,List.drop_append_of_le_length (Nat.le_refl _),List.drop_length];rfl
theorem kA.afk (hd:d.Ok)(h:kA d P L t n s m)(h0:s.pc=8\/s.pc=13)(Vb:n<1000):rC d P L t s m:=by
 have dR:=h.base;have bZ:=h.ak;have hn1:=h.n1;have hst:=h.st;have hch:=h.ch;have jy:=h.ref;have hfree:=fun k l hk nd hm=>h.free k l hk nd hm (qN (by omega))
 have iT:=h.wD;have hwd:=h.wd;have kH:=fun e=>h.task (.inr e)
 have tz:=dR.tree.n4;obtain⟨pc,f,lk,fr,ins,aq,root,word,tk,id,k⟩:=s;simp only at h0 bZ kH hch;have hl7:∀ {w:Int},wB L w->zB d P (aP L 7 ⟨aG w,⟨#[]⟩,0⟩) t/\wA d L t (aP L 7 ⟨aG w,⟨#[]⟩,0⟩) t/\(∀(k:Nat) (l:List Nd),t[k]?=some l->∀nd,nd∈l->ah (aP L 7 ⟨aG w,⟨#[]⟩,0⟩) (d.node nd.id 0)=ah L (d.node nd.id 0))/\(ah (aP L 7 ⟨aG w,⟨#[]⟩,0⟩) 7).n%4=0/\(ah (aP L 7 ⟨aG w,⟨#[]⟩,0⟩) 4).n=(ah L 4).n:=by
  rintro w ⟨h1,h2,h3,h4⟩;have hun:aG w=w-1:=by unfold aG;omega
  obtain⟨q1,q2,q3,q4⟩:=Ve hd dR (j:=7) (c:=⟨aG w,⟨#[]⟩,0⟩) (.inl rfl) ⟨by show 0<=aG w;omega,by show aG w<_;omega⟩
  exact⟨q1,q2,q3,by rw[q4];show aG w%4=0;omega,by rw[bj (by omega)]⟩
 rcases h0 with rfl|rfl
 ·obtain⟨hT,hsm,hup,Ev,hown,hm⟩:=hst
  simp only at hown;obtain⟨q1,q2,q3,q4,q5⟩:=hl7 hown;constructor
  ·exact⟨by show 8<=13;decide,⟨by show(0:Int)<=f.ak;omega,by show f.ak<1000;omega⟩,fun h=>by simp at h,fun h=>by simp at h,fun h=>by simp at h,fun h=>by simp at h,fun h=>by simp at h,fun h=>by simp at h,fun h=>by simp at h,fun _=>hown.2.2,fun h=>by simp at h,fun h=>by simp at h⟩
  ·rintro s' rfl
   have hmm:gK d L ⟨8,f,lk,fr,ins,aq,root,word,tk,id,k⟩=aP L 7 ⟨aG word,⟨#[]⟩,0⟩:=rfl;rw[hmm];obtain⟨l,hl⟩:∃l,t[n]?=some l:=⟨_,aq8 (by omega)⟩
   have hne:=(dR.tree.sh.rows _ l hl).ne;refine⟨t,n,m-1,⟨q1,hn1,bZ,fun _=>kH (by decide),hch,fun c hc=>?_,fun k' l' hk' c hc _=>?_,fun _=>q4,iT,fun k' l' hk' c hc=>?_,⟨fun _=>?_,fun l1 mD=>?_,by show(0:Nat)≠4;decide,.inl ⟨by omega,_,Jb.begin ⟨l,l[0],hl,List.getElem_mem hne⟩ (Nat.le_refl _),?_⟩⟩⟩,by omega,q2⟩
   ·have e1:ew ⟨0,f,oA,fr,ins,aq,root,word,tk,id,k⟩=ew ⟨8,f,lk,fr,ins,aq,root,word,tk,id,k⟩:=by simp[ew]
    rw[e1];exact jy c hc
   ·rw[q3 k' l' hk' c hc];exact hfree k' l' hk' c hc
   ·rw[q3 k' l' hk' c hc]
    have:=hwd k' l' hk' c hc;omega
   ·rw[q5]
    unfold cL;rw[if_pos hsm];simpa using dR.lim.2 Ev
   ·rw[show t.length-1=n by omega]at mD
    rw[if_pos (by omega)]
    rw[mD]at hsm;have hb2:=dR.b2;have:l1.length=1:=by
     have hsm:small l1=true:=hsm;unfold small at hsm;split at hsm
     ·rfl
     ·cases hsm
    omega
   ·rw[if_pos hsm,hup]
    unfold wC at hm;omega
 ·obtain⟨vA,hown,hm⟩:=hst
  simp only at hown;obtain⟨q1,q2,q3,q4,q5⟩:=hl7 hown;constructor
  ·exact⟨by show 13<=13;decide,⟨by show(0:Int)<=f.ak;omega,by show f.ak<1000;omega⟩,fun h=>by simp at h,fun h=>by simp at h,fun h=>by simp at h,fun h=>by simp at h,fun h=>by simp at h,fun h=>by simp at h,fun h=>by simp at h,fun _=>hown.2.2,fun h=>by simp at h,fun h=>by simp at h⟩
  ·rintro s' rfl
   have hmm:gK d L ⟨13,f,lk,fr,ins,aq,root,word,tk,id,k⟩=aP L 7 ⟨aG word,⟨#[]⟩,0⟩:=rfl;rw[hmm];refine⟨t,n,m-1,⟨q1,hn1,bZ,fun hp=>by simp at hp,hch,fun c hc=>?_,fun k' l' hk' c hc _=>?_,fun _=>q4,iT,fun k' l' hk' c hc=>?_,fun e=>?_⟩,by omega,q2⟩
   ·have e1:ew ⟨14,j8.end f false,lk,fr,ins,aq,root,word,tk,id,k⟩=ew ⟨13,f,lk,fr,ins,aq,root,word,tk,id,k⟩:=by
     simp[ew,j8.end];rfl
    show pQ t 1 c.id↔P.R c.id\/(ew ⟨14,j8.end f false,lk,fr,ins,aq,root,word,tk,id,k⟩=true/\c.id=P.ch0)
    rw[e1];exact jy c hc
   ·rw[q3 k' l' hk' c hc];exact hfree k' l' hk' c hc
   ·rw[q3 k' l' hk' c hc]
    have:=hwd k' l' hk' c hc;omega
   ·rw[vA]at e;cases e
theorem kA.step (hd:d.Ok)(sQ:d.no<=900)(h:kA d P L t n s m)(h0:s.pc<14):rC d P L t s m:=by
 have hb:=h.base;have xK:=hb.tree.zh;have Vb:n<999:=by
  by_cases h1:s.pc<=1\/(5<=s.pc/\s.pc<=12)
  ·have:=h.nt h1;omega
  ·by_cases dS:s.pc=13
   ·have hst:=h.st
    have h2:=h.wD;obtain⟨pc,f,lk,fr,ins,aq,root,word,tk,id,k⟩:=s;simp only at dS;subst dS;have:=h2 hst.1;omega
   ·have:∃l,t[n]?=some l:=by
     have hst:=h.st;obtain⟨pc,f,lk,fr,ins,aq,root,word,tk,id,k⟩:=s;simp only at h1 dS h0;rcases(by omega:pc=2\/pc=3\/pc=4)with rfl|rfl|rfl
     ·obtain⟨⟨_,l,_,hl,_⟩,_⟩:=hst
      exact⟨l,hl⟩
     ·obtain⟨⟨l,_,hl,_⟩,_⟩:=hst
      exact⟨l,hl⟩
     ·obtain⟨⟨_,l,_,hl,_⟩,_⟩:=hst
      exact⟨l,hl⟩
    obtain⟨l,hl⟩:=this;have:=(aq5.1 hl).1;omega
 rcases(by omega:s.pc=0\/s.pc=1\/s.pc=2\/s.pc=3\/s.pc=4\/s.pc=5\/(s.pc=6\/s.pc=7)\/(s.pc=8\/s.pc=13)\/s.pc=9\/s.pc=10\/s.pc=11\/s.pc=12)with e|e|e|e|e|e|e|e|e|e|e|e
 ·exact h.step0 hd sQ e
 ·exact h.ae6 hd sQ e
 ·exact h.afh hd sQ e (by omega)
 ·exact h.afd hd sQ e Vb
 ·exact h.afc hd sQ e (by omega)
 ·exact h.afi hd e (by omega)
 ·exact h.acp hd e (by omega)
 ·exact h.afk hd e (by omega)
 ·exact h.afj hd e (by omega)
 ·exact h.acr hd e (by omega)
 ·exact h.acs hd e (by omega)
 ·exact h.acu hd e (by omega)
end
end
section
def qO (v:Fs):List Value:=[.int .u64 v.st,.string v.k,.bool v.del]
def gS (vs:List Fs):List Value:=vs.flatMap qO
theorem xN (vs:List Fs):∀(i:Nat)(v:Fs),vs[i]?=some v->(gS vs)[i*3]?=some (.int .u64 v.st)/\(gS vs)[i*3+1]?=some (.string v.k)/\(gS vs)[i*3+2]?=some (.bool v.del):=by
 induction vs with
 | nil=>intro i v h;simp at h
 | cons a vs ih=>
  intro i v h;have e:gS (a::vs)=.int .u64 a.st :: .string a.k :: .bool a.del::gS vs:=rfl;rw[e];cases i with
  | zero=>simp at h;subst h;exact⟨rfl,rfl,rfl⟩
  | succ i=>
   have:=ih i v (by simpa using h)
   rw[show(i+1)*3=i*3+3 by omega]
   simpa using this
theorem Zj:(Tryz.prog.info? 186).map (fun i=>(i.zero,i.size,i.bytes))=some (some (.agg #[.int .u64 0,.string ⟨#[]⟩,.bool false]),3,32):=by kernel_rfl
def uZ (w:World)(a:Option Addr)(vs:List Fs):Prop:=vs.length<=1000000000/\∀(i:Nat) (v:Fs),vs[i]?=some v ->
 ∃b off,a=some ⟨b,off,none⟩/\b<w.heap.size/\w.cell? ⟨b,off+i*3,none⟩=some (.int .u64 v.st)/\w.cell? ⟨b,off+i*3+1,none⟩=some (.string v.k)/\w.cell? ⟨b,off+i*3+2,none⟩=some (.bool v.del)
theorem uZ.same {w w':World}{a:Option Addr}{vs:List Fs}(h:uZ w a vs)(hb:Below w.heap.size w w'):uZ w' a vs:=
 ⟨h.1,fun i v hv=>by
  obtain⟨b,off,e,hlt,c0,c1,c2⟩:=h.2 i v hv;exact⟨b,off,e,Nat.lt_of_lt_of_le hlt hb.size,by rw[hb.cell (p:=⟨b,_,none⟩) hlt];exact c0,by rw[hb.cell (p:=⟨b,_,none⟩) hlt];exact c1,by rw[hb.cell (p:=⟨b,_,none⟩) hlt];exact c2⟩⟩
theorem St.Vf {K:aL}{w:World}{F:List aC}{a:Option Addr}{n cap:Nat}{T:TypeId}{vs:List Fs}(h:St K w (az (.slice a n cap) T 3 n (gS vs)::F))(hn:vs.length<=1000000000):uZ w a vs:=by
 refine⟨hn,fun i v hv=>?_⟩
 obtain⟨r0,r1,r2⟩:=xN vs i v hv;obtain⟨g,e,c0⟩:=h.cQ r0;obtain⟨g1,e1,c1⟩:=h.cQ r1;obtain⟨g2,e2,c2⟩:=h.cQ r2;rw[e]at e1 e2;simp only[Option.some.injEq,Addr.mk.injEq,and_true]at e1 e2;subst e1 e2;exact⟨g,0,e,World.block_lt_of_cell? _ _ c0,by rw[Nat.zero_add];exact c0,by rw[Nat.zero_add];exact c1,by rw[Nat.zero_add];exact c2⟩
def V9 (N:Int)(vs:List Fs):Prop:=∀(i:Nat) (v:Fs),vs[i]?=some v->0<v.st/\v.st<=N/\(v.del=true->v.k=⟨#[]⟩)/\∀u,vs[i+1]?=some u->u.st<v.st
theorem Jf {a:Option Addr}{cap:Nat}{vs:List Fs}{N:Int}(w:World)(h:uZ w a vs)(hv:V9 N vs):Calls Tryz.prog 125 #[.slice a vs.length cap] w fun e w' => e=.returned (.bool true)/\Below w.heap.size w w' := by
 have hlen:=h.1;have H:=aq3 h;have HV:=aq3 hv;obtain⟨n,hn⟩:∃n,n=vs.length:=⟨_,rfl⟩;rw[←hn]at hlen ⊢;have Hn:=aq3 hn;clear h hn hv;go_enter Tryz.func125,Tryz.ntmps125
 go_wp2
 go_loopw [3] (fun v wr=>∃i:Nat,i<=n/\v=.int .i64 i/\Hid (Below w.heap.size w wr)) (fun v _=>n-(intOf v).toNat)
 case atStart=>exact⟨0,by omega,rfl,aq3 (Below.refl _ _)⟩
 case round=>
  obtain⟨i,hi,rfl,HB⟩:=hrel;by_cases hlt:i<n
  ·have hl':i<vs.length:=by rw[←Hn.out];exact hlt
   obtain⟨u,hu⟩:∃u,vs[i]?=some u:=⟨_,aq8 hl'⟩;have hvw:=H.out.same HB.out;obtain⟨b,off,rfl,hb,c0,c1,c2⟩:=hvw.2 i u hu;obtain⟨q1,q2,q3,q4⟩:=HV.out i u hu;have z1:(u.st == 0)=false:=by simp;omega
   obtain⟨de,hde⟩:∃de,de=u.del:=⟨_,rfl⟩;obtain⟨ke,Rm⟩:∃ke,ke=u.k:=⟨_,rfl⟩;rw[←hde]at c2 q3;rw[←Rm]at c1 q3;rcases Nat.eq_zero_or_pos i with h0|h0
   ·subst h0
    have c0':wr.cell? ⟨b,off,none⟩=some (.int .u64 u.st):=by simpa using c0
    have c1':wr.cell? ⟨b,off+1,none⟩=some (.string ke):=by simpa using c1
    have c2':wr.cell? ⟨b,off+2,none⟩=some (.bool de):=by simpa using c2
    clear q4 hvw;rcases Bool.eq_false_or_eq_true de with rfl|rfl
    ·rw[q3 rfl]at c1 c1'
     clear q3 Rm hde;as_aux_lemma=>
     go_upto_region 6 with(fail)
     refine bI (by kernel_rfl) (by kernel_rfl) ?_
     repeat (go_big_quiet_step (fail))
     refine wpQuiet_nil ?_
     intro w2 hb2;go_wp2
     go_roundw
     case rel=>exact⟨1,by omega,by go_num,aq3 (HB.out.trans (hb2.mono HB.out.size))⟩
     case measure=>simp[intOf];omega
    ·clear q3 Rm hde
     as_aux_lemma=>
     go_upto_region 6 with(fail)
     refine bI (by kernel_rfl) (by kernel_rfl) ?_
     repeat (go_big_quiet_step (fail))
     refine wpQuiet_nil ?_
     intro w2 hb2;go_wp2
     go_roundw
     case rel=>exact⟨1,by omega,by go_num,aq3 (HB.out.trans (hb2.mono HB.out.size))⟩
     case measure=>simp[intOf];omega
   ·obtain⟨j,rfl⟩:∃j,i=j+1:=⟨i-1,by omega⟩
    obtain⟨p,hp⟩:∃p,vs[j]?=some p:=⟨_,aq8 (by have:=Hn.out;omega)⟩
    obtain⟨b',off',e',hb',p0,p1,p2⟩:=hvw.2 j p hp;simp only[Option.some.injEq,Addr.mk.injEq,and_true]at e';obtain⟨rfl,rfl⟩:=e';obtain⟨r1,_,_,r4⟩:=HV.out j p hp;have z2:(p.st != 0)=true:=by simp;omega
    have z3:¬ (p.st<=u.st):=by have:=r4 u hu;omega
    have hj:((j+1:Nat):Int)-1=j:=by omega
    clear q4 hvw r4 p1 p2 hp;rcases Bool.eq_false_or_eq_true de with rfl|rfl
    ·rw[q3 rfl]at c1
     clear q3 Rm hde;as_aux_lemma=>
     go_upto_region 6 with(fail)
     refine bI (by kernel_rfl) (by kernel_rfl) ?_
     repeat (go_big_quiet_step (fail))
     refine wpQuiet_nil ?_
     intro w2 hb2;go_wp2
     go_roundw
     case rel=>exact⟨j+2,by omega,by go_num,aq3 (HB.out.trans (hb2.mono HB.out.size))⟩
     case measure=>simp[intOf];omega
    ·clear q3 Rm hde
     as_aux_lemma=>
     go_upto_region 6 with(fail)
     refine bI (by kernel_rfl) (by kernel_rfl) ?_
     repeat (go_big_quiet_step (fail))
     refine wpQuiet_nil ?_
     intro w2 hb2;go_wp2
     go_roundw
     case rel=>exact⟨j+2,by omega,by go_num,aq3 (HB.out.trans (hb2.mono HB.out.size))⟩
     case measure=>simp[intOf];omega
  ·obtain rfl:i=n:=by omega
   go_wp2
   go_ret;exact⟨rfl,HB.out⟩
end
end Go.Proofs.YtlpdhhhgckpcfaaGreat
