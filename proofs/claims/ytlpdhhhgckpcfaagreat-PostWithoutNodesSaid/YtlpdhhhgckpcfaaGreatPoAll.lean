
/- Post in a tree (pure): what it keeps, alone among agw; its Lock. Post in a tree (pure): the steps of its Lock. Post in a tree (pure): the steps of its Insert. Post in a tree (pure): its releases. Post in a tree (pure): a new root; all its steps. Post in a tree (pure): it writes and enters a new root; all its steps. -/
import Derived.Test.YtlpdhhhgckpcfaaGreatPoTree
import Derived.Test.YtlpdhhhgckpcfaaGreatPostMN
namespace Go.Proofs.YtlpdhhhgckpcfaaGreat
open Go.RowKit
set_option maxRecDepth 100000
section
variable {d:aR}{L L':List aP}{t t':List (List Nd)}
theorem dQ.frame (hd:d.Ok)(ht:dQ d L t)(hn:∀ (k:Nat)(l:List Nd),t[k]?=some l->∀ nd,nd∈l->∀ j:Int,0<=j->j<d.fa+4->ah L' (d.node nd.id j)=ah L (d.node nd.id j))(h0:(ah L' 0).n=(ah L 0).n)(h4:(ah L 4).n<=(ah L' 4).n/\(ah L' 4).n<=d.no) :
  dQ d L' t/\vT d L t L' t/\∀ (k:Nat) (l:List Nd),t[k]?=some l->∀ nd,nd∈l->ah L' (d.node nd.id 0)=ah L (d.node nd.id 0):=by
 have f1:=hd.fw;have sZ:=ht.n4;have hw:∀ (k:Nat) (l:List Nd),t[k]?=some l->∀ nd,nd∈l->ah L' (d.node nd.id 0)=ah L (d.node nd.id 0):=fun k l hk nd hm=>hn k l hk nd hm 0 (by omega) (by omega)
 refine⟨⟨ht.sh.mono h4.1,h4.2,?_,fun k l hk nd hm hc=>?_,fun k l hk nd hm he=>?_⟩,fun k l hk nd hm=>⟨l,nd,hk,hm,rfl,rfl,by rw[hw k l hk nd hm];exact ku.refl _ _⟩,hw⟩
 ·rw[h0];exact ht.root
 ·have hb:=(ht.sh.nodes k l hk nd hm).1
  exact(ht.node k l hk nd hm (by rw[← hw k l hk nd hm];exact hc)).frame hd hb.1 (by omega) (hn k l hk nd hm)
 ·rw[hw k l hk nd hm]at he ⊢
  exact ht.wd k l hk nd hm he
end
structure Ed where
 L0:List aP
 l0:List Nd
 R:Int->Prop
 Zl:Int
 B:Nat
 room:Bool
 T0:Nat
 lim:Int
structure ze (d:aR)(P:Ed)(L:List aP)(t:List (List Nd)):Prop where
 iR:bI L
 eW:(L.length:Int)=d.cells
 tree:dQ d L t
 sz:SzT t
 r0:t[0]?=some P.l0
 rest:∀ j:Int,j≠0->j≠4->j≠7->(j<d.A\/d.B<=j)->ah L j=ah P.L0 j
 b2:2<=P.B
 noR:P.room=false->d.no<=(ah L 4).n/\t.length=P.T0
 lim:P.lim<=d.no/\(P.room=true->(ah L 4).n<=P.lim)
def ew (s:eE):Bool:=decide (2<=s.f.az) || s.pc == 3 || s.pc == 4 || (s.pc == 2 && !s.ins.full) || (s.pc == 14 && s.f.po)
def Zn (s:eE)(id:Int):Prop:=match s.pc with
 | 0=>jY s.lk=true/\id=s.lk.id
 | 1=>id=s.fr.id
 | 2=>id=s.fr.id\/(s.ins.sp=true/\s.ins.full=false/\id=s.ins.id)
 | 3=>id=s.ins.id
 | 4=>id=s.fr.id
 | _=>False
def vU (L:List aP)(w:Int):Prop:=ah L 7=⟨w,⟨#[]⟩,0⟩/\w%4=1/\0<=w/\w<18446744073709551616
def qz (d:aR)(L:List aP)(t:List (List Nd))(n:Nat)(id w:Int)(low:ByteArray):Prop:=∃ l nd,t[n]?=some l/\nd∈l/\nd.id=id/\nd.low=low/\rV d L id w
def Room (d:aR)(P:Ed)(L:List aP)(x:Nat):Prop:=P.room=true->(ah L 4).n+x<=P.lim
def yT (P:Ed)(t:List (List Nd))(x:Nat):Prop:=∀ l,t[t.length-1]?=some l->l.length+x<=P.B
def aeF (d:aR)(P:Ed)(L:List aP)(t:List (List Nd))(n:Nat)(s:eE)(m:Nat):Prop:=match s.pc with
 | 0=>Room d P L (cL t n)/\yT P t (if n<t.length then 1 else 0)/\s.lk.pc≠4/\((n<t.length/\∃ m0,Ic d L t s.f.sep n n s.lk m0/\m0+wI d+(if (t[n]?.map small).getD false then 0 else cU d P.B (t.drop (n+1)))<=m) \/
   (t.length=n/\∃ m0,Ic d L t s.f.sep n (n-1) s.lk m0/\m0+gI d<=m))
 | 1=>∃ i l nd,qq t n i l nd s.fr s.fu/\kM d s.fr s.fu/\iT d L s.fr s.fu s.ins/\qu t s.ins/\s.ins.pc<=2/\s.ins.full=false/\((s.ins.pc<=1\/s.ins.sp=true)->d.fa<(s.fu.sl.length:Int)) /\
   (P.room=true->s.ins.pc=0->s.ins.tk.pc=1->s.ins.tk.seen=(ah L 4).n)/\(P.room=false->(s.ins.pc=0/\s.ins.tk.pc=0)\/(s.ins.pc=2/\s.ins.sp=false)) /\
   Room d P L (if s.ins.pc=0 then cL t n else if s.ins.pc=1\/s.ins.sp=true then cL t (n+1)else 0)/\yT P t 1/\s.fr.word+4*m+4<=9223372036854775809/\oH s.fu s.ins+5+(if d.fa<(s.fu.sl.length:Int)then cU d P.B (t.drop (n+1))else 0)<=m
 | 2=>(∃ low,qz d L t n s.fr.id s.left.word low)/\(s.ins.full=true->P.room=false)/\(s.ins.full=false->s.ins.sp=true->qz d L t n s.ins.id (aO 0) (bM s.fu)/\s.ins.id≠s.fr.id/\1<=s.ins.id/\(bM s.fu).size<=32/\s.fu.sl.length<=1000/\Room d P L (cL t (n+1))/\yT P t (if n+1<t.length then 1 else 0)/\P.room=true/\cU d P.B (t.drop (n+1))+2<=m)/\(s.ins.full=true->s.ins.sp=false)/\1<=m
 | 3=>qz d L t n s.ins.id (aO 0) (bM s.fu)/\s.ins.full=false/\s.ins.sp=true/\1<=s.ins.id/\(bM s.fu).size<=32/\s.fu.sl.length<=1000/\Room d P L (cL t (n+1))/\yT P t (if n+1<t.length then 1 else 0)/\P.room=true/\cU d P.B (t.drop (n+1))+1<=m
 | 4=>(∃ low,qz d L t n s.fr.id s.fr.word low)/\1<=m
 | 5=>t.length=n/\Room d P L 1/\s.aq.pc<=1/\(s.aq.pc=1->s.aq.word=(ah L 7).n+1)/\0<=s.aq.word/\s.aq.word<18446744073709551616/\gI d<=m+s.aq.pc
 | 6=>t.length=n/\Room d P L 1/\s.aq.pc=2/\vU L s.aq.word/\gI d<=m+2
 | 7=>t.length=n/\Room d P L 1/\s.aq.pc=2/\vU L s.aq.word/\(∃ nd l,t[t.length-1]?=some (nd::l)/\s.root=nd.id)/\gI d<=m+3
 | 8=>n+1=t.length/\(t[n]?.map small).getD false=true/\pE t n=1/\P.room=true/\vU L s.word/\wC d 1+1<=m
 | 9=>t.length=n/\Room d P L 1/\vU L s.word/\(∃ nd l,t[t.length-1]?=some (nd::l)/\s.root=nd.id)/\s.tk.ok=false/\(s.tk.pc=0\/(P.room=true/\s.tk.pc=1/\s.tk.seen=(ah L 4).n))/\gI d<=m+4+s.tk.pc
 | 10=>t.length=n/\P.room=true/\vU L s.word/\(∃ nd l,t[t.length-1]?=some (nd::l)/\s.root=nd.id)/\Hh t s.id/\1<=s.id/\s.id<=(ah L 4).n/\s.k<5/\(∀ q,q∈(s.ps d).take s.k->ah L q.i=q.c)/\gI d<=m+6+s.k
 | 11=>t.length=n/\P.room=true/\vU L s.word/\(∃ nd l,t[t.length-1]?=some (nd::l)/\s.root=nd.id)/\Hh t s.id/\1<=s.id/\s.id<=(ah L 4).n/\Db d L s.id (fe s.f.az s.root)/\gI d<=m+11
 | 12=>t.length=n/\P.room=true/\vU L s.word/\(∃ nd l,t[t.length-1]?=some (nd::l)/\s.root=nd.id)/\Hh t s.id/\1<=s.id/\s.id<=(ah L 4).n/\Holds L (bN d s.id (fe s.f.az s.root))/\ah L (d.node s.id 0)=⟨0,⟨#[]⟩,0⟩/\gI d<=m+12
 | 13=>P.room=false/\vU L s.word/\1<=m
 | 14=>P.room=true->s.f.po=true
 | _=>False
structure j5 (d:aR)(P:Ed)(L:List aP)(t:List (List Nd))(n:Nat)(s:eE)(m:Nat):Prop where
 base:ze d P L t
 n1:1<=n
 az:s.f.az=n
 task:s.pc<=1\/(5<=s.pc/\s.pc<=12)->∃ l c,t[n-1]?=some l/\c∈l/\c.id=s.f.ch/\c.low=s.f.sep
 ch:n=1->s.f.ch=P.Zl
 ref:∀ c,c∈P.l0.drop 1->(qF t 1 c.id↔P.R c.id\/(ew s=true/\c.id=P.Zl))
 free:∀ (k:Nat) (l:List Nd),t[k]?=some l->∀ nd,nd∈l->¬ Zn s nd.id->(ah L (d.node nd.id 0)).n%4=0
 c7:¬ (6<=s.pc/\s.pc<=13)\/s.pc=5->(ah L 7).n%4=0
 vV:P.room=false->n=1
 wd:∀ (k:Nat) (l:List Nd),t[k]?=some l->∀ nd,nd∈l->(ah L (d.node nd.id 0)).n+4*m<=9223372036854775808
 st:aeF d P L t n s m
section
variable {d:aR}{P:Ed}{L L':List aP}{t t':List (List Nd)}{n m:Nat}{s s':eE}
theorem ze.next (h:ze d P L t)(h1:bI L')(h2:(L'.length:Int)=d.cells)(h3:dQ d L' t')(h4:SzT t')(h5:t'[0]?=t[0]?)(h6:∀ j:Int,j≠0->j≠4->j≠7->(j<d.A\/d.B<=j)->ah L' j=ah L j)(h7:P.room=false->(ah L' 4).n=(ah L 4).n/\t'.length=t.length)(h8:P.room=true->(ah L' 4).n<=P.lim):ze d P L' t' :=
 ⟨h1,h2,h3,h4,by rw[h5];exact h.r0,fun j a b c e=>(h6 j a b c e).trans (h.rest j a b c e),h.b2,fun e=>by
  obtain⟨q1,q2⟩:=h7 e;rw[q1,q2];exact h.noR e,⟨h.lim.1,h8⟩⟩
theorem nQ (hd:d.Ok){id j:Int}(h1:1<=id)(h2:id<=d.no)(a:0<=j)(b:j<d.fa+4):d.A<=d.node id j/\d.node id j<d.B:=by
 have n0:=(bU hd h1 h2 a b).1;have f1:=hd.fw;have m3:0<=(id-1)*(d.fa+4):=Int.mul_nonneg (by omega) (by omega)
 have m4:(id-1)*(d.fa+4)+(d.fa+4)=id*(d.fa+4):=by rw[Int.sub_mul];omega
 have m5:id*(d.fa+4)<=d.no*(d.fa+4):=Int.mul_le_mul_of_nonneg_right h2 (by omega)
 have:d.B=d.A+d.no*(d.fa+4):=rfl;omega
theorem dQ.Cx (ht:dQ d L t):(t.length:Int)<=d.no:=by
 have h1:=qj t (fun l hl=>by
  obtain⟨k,hk⟩:=aqp hl;exact(ht.sh.rows k l hk).ne)
 have:=ht.sh.count;have:=ht.n4;omega
theorem j5.nt (h:j5 d P L t n s m)(hp:s.pc<=1\/(5<=s.pc/\s.pc<=12)):n<=t.length:=by
 obtain⟨l,c,hl,_⟩:=h.task hp;have:=(aqq.1 hl).1;have:=h.n1;omega
theorem j5.fu (hd:d.Ok)(h:j5 d P L t n s m)(hp:s.pc<=1\/(5<=s.pc/\s.pc<=12)){L1:List aP}(ht:dQ d L1 t){i:Nat}{l:List Nd}{nd:Nd}(ha:Ib t s.f.sep n l i nd)(hin:qT s.f.sep nd.pg=true)(hno:¬ gM nd.pg.sl s.f.sep<je nd.pg.sl s.f.sep){word:Int}(hok:cB.Ok d ⟨nd.id,word,nd.pg⟩) :
  qq t n i l nd ⟨nd.id,word,nd.pg⟩ (aZ nd.pg s.f.sep s.f.ch)/\lq d ⟨nd.id,word,nd.pg⟩ (aZ nd.pg s.f.sep s.f.ch):=by
 have hn1:=h.n1;obtain⟨l0,c,hl0,hc,e1,e2⟩:=h.task hp;have hcb:=(ht.sh.nodes _ l0 hl0 c hc).1;have sZ:=ht.n4;have iY:=hd.mM;obtain⟨k,rfl⟩:∃ k,n=k+1:=⟨n-1,by omega⟩
 rw[Nat.add_sub_cancel]at hl0;have hnm:=aqs ha.hi;have Kz:=(ht.sh.nodes _ l ha.hl nd hnm).2;have hkz:=(h.base.sz.keys ht.sh ha.hl hnm);have hks:∀ x,x∈nd.pg.sl->x.k≠s.f.sep:=by
  rcases sM (key:=s.f.sep) Kz.j7 with e|⟨e,_⟩
  ·intro x hx e3
   obtain⟨q,hq⟩:=aqp hx;have h3:=j9 Kz.j7 (key:=s.f.sep) hq;have h4:=lT Kz.j7 (key:=s.f.sep) hq;rw[e3]at h3 h4;simp only[dI,Bool.false_eq_true,false_iff,true_iff]at h3 h4;omega
  ·omega
 have hz:=h.base.sz _ l0 hl0 c hc;refine⟨⟨ha.hl,ha.hi,rfl,rfl,⟨rfl,rfl,rfl,rfl,Xu Kz ha.low hin hks (by omega),fun m l1 hm h1=>?_⟩⟩,lq.ins hok.pg (fun x hx=>Nat.le_trans (hkz.1 x hx).1 (by decide)) (by rw[← e2];omega) (by omega)⟩
 obtain rfl:m=k:=by omega
 rw[hl0]at h1;obtain rfl:=aqu h1;exact Tc Kz (ht.sh.down _ _ _ hl0 ha.hl nd hnm) ha.low hks ⟨c,hc,e1,e2⟩
theorem j5.there (h:j5 d P L t n s m)(hp:s.pc<=1\/(5<=s.pc/\s.pc<=12)){L1:List aP}(ht:dQ d L1 t){i:Nat}{l:List Nd}{nd:Nd}(ha:Ib t s.f.sep n l i nd)(an6:gM nd.pg.sl s.f.sep<je nd.pg.sl s.f.sep):qF t n s.f.ch:=by
 have hn1:=h.n1;obtain⟨l0,c,hl0,hc,e1,e2⟩:=h.task hp;obtain⟨k,rfl⟩:∃ k,n=k+1:=⟨n-1,by omega⟩
 rw[Nat.add_sub_cancel]at hl0;have hnm:=aqs ha.hi;have Kz:=(ht.sh.nodes _ l ha.hl nd hnm).2;rcases sM (key:=s.f.sep) Kz.j7 with e|⟨_,x,hx,hk⟩
 ·omega
 ·have hxm:=aqs hx
  obtain⟨c',hc',e3,e4⟩:=(ht.sh.down _ _ _ hl0 ha.hl nd hnm).2 x hxm;obtain⟨p,hp'⟩:=aqp hc;obtain⟨q,hq⟩:=aqp hc';have eJ:c.low=c'.low:=by rw[e2,e4,hk]
  have hpq:p=q:=by
   rcases Nat.lt_trichotomy p q with h|h|h
   ·have:=(ht.sh.rows _ l0 hl0).qX q p c c' hp' hq h
    rw[eJ,dI]at this;cases this
   ·exact h
   ·have:=(ht.sh.rows _ l0 hl0).qX p q c' c hq hp' h
    rw[eJ,dI]at this;cases this
  subst hpq;rw[hp']at hq;obtain rfl:=aqu hq;exact⟨l,nd,x,ha.hl,hnm,hxm,by rw[← e3,e1]⟩
theorem Ic.aeG {key:ByteArray}{level lo:Nat}{s:u6}{m:Nat}(h:Ic d L t key level lo s m):s.pc<=4:=by
 by_cases h5:s.pc<=4
 ·exact h5
 ·obtain⟨pc,fd,id,aq,ow,hh⟩:=s
  obtain⟨n,rfl⟩:∃ n,pc=n+5:=⟨pc-5,by simp only at h5;omega⟩
  exact h.elim
theorem Ic.begin {key:ByteArray}{level lo:Nat}{m:Nat}(h:∃ l nd,t[lo]?=some l/\nd∈l)(hm:pE t lo*bT d+1+qE d<=m):Ic d L t key level lo oU m:=
 ⟨rfl,by show(0:Nat)≠2;decide,_,Gz.start h,hm⟩
end
def q8 (d:aR)(P:Ed)(L:List aP)(t:List (List Nd))(s:eE)(m:Nat):Prop:=
 eE.Ok d L s/\∀ s',o8 d L s s' -> ∃ t' n' m',j5 d P (gO d L s) t' n' s' m' /\ m' + 1<=m/\vT d L t (gO d L s) t'
section
variable {d:aR}{P:Ed}{L L':List aP}{t t':List (List Nd)}{n m:Nat}{s s':eE}
theorem Tn (hd:d.Ok)(id:Int):d.node id 0= -1\/(d.A<=d.node id 0/\d.node id 0<d.B):=by
 by_cases h:1<=id/\id<=d.no
 ·exact .inr (nQ hd h.1 h.2 (by omega) (by have:=hd.fw;omega))
 ·left;unfold aR.node;rw[if_neg h]
theorem Yb (h:t.length=n):cL t n=1:=by
 unfold cL;rw[List.getElem?_eq_none (by omega)]
 simp;omega
theorem Yc {key:ByteArray}{level:Nat}{x x':u6}{L1:List aP}(hd:d.Ok)(hlen:(L.length:Int)=d.cells)(ht:dQ d L t)(he:De d L t level x x' L1)(hf:∀ (k:Nat)(l:List Nd),t[k]?=some l->∀ nd,nd∈l->¬ (jY x=true/\nd.id=x.id)->(ah L (d.node nd.id 0)).n%4=0) :
  ∀ (k:Nat) (l:List Nd),t[k]?=some l->∀ nd,nd∈l->¬ (jY x'=true/\nd.id=x'.id)->(ah L1 (d.node nd.id 0)).n%4=0:=by
 intro k l hk nd hm hno;have sZ:=ht.n4;have f1:=hd.fw;have hb:=(ht.sh.nodes k l hk nd hm).1;rcases he with⟨rfl,e1,e2⟩|⟨e1,e2,e3,⟨l',c,hl',hc,hid⟩,h4,rfl⟩|⟨e1,e2,⟨l',c,hl',hc,hid⟩,h4,rfl⟩
 ·exact hf k l hk nd hm (fun⟨a,b⟩=>hno ⟨by rw[e1];exact a,by rw[e2 a];exact b⟩)
 ·have hne:nd.id≠x.id:=fun e=>hno ⟨e2,by rw[e3];exact e⟩
  have hcb:=(ht.sh.nodes _ l' hl' c hc).1;rw[bg (cJ hd hb.1 (by omega) (by omega) (by omega) (by omega) (by omega) (by omega) (by omega) hne)]
  exact hf k l hk nd hm (fun⟨a,_⟩=>by rw[e1]at a;cases a)
 ·have hcb:=(ht.sh.nodes _ l' hl' c hc).1
  by_cases e:nd.id=x.id
  ·have hpos:=bU hd (id:=x.id) (by omega) (by omega) (k:=0) (by omega) (by omega)
   rw[e,b9 hpos.2.1 (by omega)]
   show((ah L (d.node x.id 0)).n-1)%4=0
   omega
  ·rw[bg (cJ hd hb.1 (by omega) (by omega) (by omega) (by omega) (by omega) (by omega) (by omega) e)]
   exact hf k l hk nd hm (fun⟨_,b⟩=>e b)
theorem Zo {level:Nat}{x x':u6}{L1:List aP}(hd:d.Ok)(hlen:(L.length:Int)=d.cells)(ht:dQ d L t)(he:De d L t level x x' L1) :
  ∀ (k:Nat) (l:List Nd),t[k]?=some l->∀ nd,nd∈l->(ah L1 (d.node nd.id 0)).n<=(ah L (d.node nd.id 0)).n+1:=by
 intro k l hk nd hm;have sZ:=ht.n4;have f1:=hd.fw;have hb:=(ht.sh.nodes k l hk nd hm).1;have key:∀ (v:Int),v<=(ah L (d.node x.id 0)).n+1->(∃ l' c,t[level]?=some l' /\ c∈l' /\ c.id=x.id)->(ah (aN L (d.node x.id 0) ⟨v,⟨#[]⟩,0⟩) (d.node nd.id 0)).n<=(ah L (d.node nd.id 0)).n+1:=by
  rintro v hv ⟨l',c,hl',hc,hid⟩;have hcb:=(ht.sh.nodes _ l' hl' c hc).1;by_cases e:nd.id=x.id
  ·have hpos:=bU hd (id:=x.id) (by omega) (by omega) (k:=0) (by omega) (by omega)
   rw[e,b9 hpos.2.1 (by omega)]
   exact hv
  ·rw[bg (cJ hd hb.1 (by omega) (by omega) (by omega) (by omega) (by omega) (by omega) (by omega) e)]
   omega
 rcases he with⟨rfl,e1,e2⟩|⟨e1,e2,e3,h3,h4,rfl⟩|⟨e1,e2,h3,h4,rfl⟩
 ·omega
 ·exact key _ (by omega) h3
 ·exact key _ (by omega) h3
theorem Nn (hd:d.Ok){fr:cB}{fu:Pg}{ins:fU}{nd:Nd}{i:Nat}{l:List Nd}(H:qq t n i l nd fr fu)(K:kM d fr fu)(hold:o9 d L fr)(hlen:(L.length:Int)=d.cells)(hb:oX d fr fu ins) :
  iT d L fr fu ins/\qu t ins/\ins.pc<=2/\ins.full=false/\((ins.pc<=1\/ins.sp=true)->d.fa<(fu.sl.length:Int))/\((ins.pc=0/\ins.tk.pc=0)\/(ins.pc=2/\ins.sp=false))/\oH fu ins<=2*(d.fa.toNat+6)+2:=by
 have hl:=K.Vo.len;have f1:=hd.fw;rcases hb with⟨hfit,b1,b2,b3,b4,b5⟩|⟨hfull,rfl⟩
 ·obtain⟨pc,tk,k,ps,sp,id,full⟩:=ins
  simp only at b1 b2 b3 b4 b5;subst b1 b2 b3 b4;have hpl:=b5.len;refine⟨⟨rfl,fun _=>hfit,b5,by show 0<ps.length;omega,fun e=>(by cases e),_,hlen,hold,fun j _ _=>rfl⟩,fun e=>?_,Nat.le_refl 2,rfl,fun e=>?_,.inr ⟨rfl,rfl⟩,?_⟩
  ·rcases e with e|⟨_,e⟩ <;> cases e
  ·rcases e with e|e
   ·simp at e
   ·cases e
  ·show ps.length-0<=_
   omega
 ·refine⟨⟨rfl,rfl,hfull,.inl ⟨rfl,rfl⟩,hold⟩,fun e=>?_,Nat.zero_le 2,rfl,fun _=>hfull,.inl ⟨rfl,rfl⟩,?_⟩
  ·rcases e with e|⟨e,_⟩ <;> cases e
  ·show(fu.sl.length+5)+(fu.sl.length+5)+(2-0)<=_
   omega
theorem j5.step0 (hd:d.Ok)(sG:d.no<=900)(h:j5 d P L t n s m)(h0:s.pc=0):q8 d P L t s m:=by
 have dR:=h.base;have hnt:=h.nt (.inl (by omega))
 have hn1:=h.n1;have cg:=h.az;have kA:=h.task (.inl (by omega))
 have hch:=h.ch;have jn:=h.ref;have hfree:=h.free;have vW:=h.c7 (.inl (by omega))
 have iM:=h.vV;have hwd:=h.wd;have hst:=h.st;have lp:=fun L1 i l nd word a b c e=>j5.fu (L1:=L1) (i:=i) (l:=l) (nd:=nd) (word:=word) hd h (.inl (by omega)) a b c e
 have Tp:=fun L1 i l nd=>j5.there (L1:=L1) (i:=i) (l:=l) (nd:=nd) h (.inl (by omega))
 obtain⟨pc,f,lk,fr,ins,aq,root,word,tk,id,k⟩:=s;simp only at h0;subst h0;obtain⟨az,sep,ch,po⟩:=f;simp only at cg kA hch;subst cg;obtain⟨hroom,gU,hk4,hst⟩:=hst;simp only at hk4 hst lp Tp;have hcm:∃ lo m0,Ic d L t sep n lo lk m0/\lo<=n/\((n<t.length/\lo=n/\m0+wI d+(if (t[n]?.map small).getD false then 0 else cU d P.B (t.drop (n+1)))<=m)\/(t.length=n/\lo=n-1/\m0+gI d<=m)):=by
  rcases hst with⟨a,m0,b,c⟩|⟨a,m0,b,c⟩
  ·exact⟨n,m0,b,Nat.le_refl _,.inl ⟨a,rfl,c⟩⟩
  ·exact⟨n-1,m0,b,by omega,.inr ⟨a,rfl,c⟩⟩
 clear hst;obtain⟨lo,m0,hlk,hlo,halt⟩:=hcm;have Ig:∀ (k:Nat) (l:List Nd),t[k]?=some l->∀ nd,nd∈l->¬ (jY lk=true/\nd.id=lk.id)->(ah L (d.node nd.id 0)).n%4=0:=hfree;obtain⟨hok,hh,Tq,m',hl',hm1,hm2⟩:=hlk.step hd dR.iR dR.eW dR.tree hk4 hlo;have hm3:m' + 1<=m0:=by
  refine hm2 (fun hp hf=>?_) (fun hp ha=>?_)
  ·have hQ:Quiet d L t:=fun k l hk nd hn=>by
    have:=Ig k l hk nd hn (fun⟨a,_⟩=>by
     obtain⟨pc,fd,id,aq,ow,hh⟩:=lk;simp only at hp;subst hp;cases a)
    unfold bY;exact decide_eq_false (by omega)
   obtain⟨pc,fd,id,aq,ow,hh⟩:=lk;simp only at hp hf;subst hp;obtain⟨_,_,m1,Vl,_⟩:=hlk;exact Vl.still hQ hf
  ·obtain⟨pc,fd,id,aq,ow,hh⟩:=lk
   simp only at hp ha;subst hp;obtain⟨_,l,i,nd,q,hat,hid,_⟩:=hlk;simp only at hid ⊢;rw[hid];have:=Ig n l hat.hl nd (aqs hat.hi) (fun⟨a,_⟩=>by cases a)
   omega
 obtain⟨t1,t2,t3,t4,t5,t6⟩:=Tq.tree hd dR.iR dR.eW dR.tree;have yU:=Yc (key:=sep) hd dR.eW dR.tree Tq Ig;have ajx:=hl'.aeG;have eF:∀ j:Int,0<=j->(j<d.A\/d.B<=j)->ah (aM d sep (n:Nat) L lk).2 j=ah L j:=fun j a b=>t6 j (by
  rcases Tn hd lk.id with e|e <;> omega)
 have hA:=hd.eb;have h7:=eF 7 (by omega) (by omega)
 have h4c:=eF 4 (by omega) (by omega)
 have hrj:∀ j:Int,(j<d.A\/d.B<=j)->ah (aM d sep (n:Nat) L lk).2 j=ah L j:=fun j b=>by
  rcases Int.lt_or_le j 0 with hj|hj
  ·rw[pW hj,pW hj]
  ·exact eF j hj b
 have hbase:ze d P (aM d sep (n:Nat) L lk).2 t:=dR.next t3 t4 t1 dR.sz rfl (fun j _ _ _ e=>hrj j e) (fun _=>⟨by rw[h4c],rfl⟩) (fun e=>by rw[h4c];exact dR.lim.2 e)
 have xp:=dR.tree.Cx;have hp4:(aM d sep (n:Nat) L lk).1.pc=4->((aM d sep (n:Nat) L lk).1.h=mA/\t.length=n)\/∃ l i nd word,Ib t sep n l i nd/\(aM d sep (n:Nat) L lk).1.h=⟨nd.id,word,nd.pg⟩/\rV d (aM d sep (n:Nat) L lk).2 nd.id word/\qT sep nd.pg=true/\1<=nd.id/\cB.Ok d ⟨nd.id,word,nd.pg⟩/\kV nd.pg.sl/\(aM d sep (n:Nat) L lk).1.id=nd.id/\jY (aM d sep (n:Nat) L lk).1=true:=by
  intro h4;generalize aM d sep (n:Nat) L lk=st at *;obtain⟨⟨Ke,fd',id',aq',ow',hh'⟩,L1⟩:=st;simp only at h4;subst h4;rcases hl' with⟨l,i,nd,ha,hid,⟨word,hw,hlt⟩,hin,hnz⟩|⟨hw,an8⟩
  ·have hnm:=aqs ha.hi
   have hnb:=(dR.tree.sh.nodes _ l ha.hl nd hnm);obtain⟨k,rfl⟩:∃ k,n=k+1:=⟨n-1,by omega⟩
   refine .inr ⟨l,i,nd,word,ha,hw,hlt,hin,hnb.1.1,t1.hok hd dR.sz ha.hl hnm hlt.y7 hlt.bd,hnb.2.j7,hid,?_⟩;simp only at hw;subst hw;show(4 == 2 || 4 == 3 || (4 == 4 && nd.id != 0))=true
   simp[hnz]
  ·rcases halt with⟨_,e,_⟩|⟨e,_⟩
   ·omega
   ·exact .inl ⟨hw,e⟩
 clear hm2 hm1;have Tr:∀ (k:Nat) (l:List Nd),t[k]?=some l->∀ nd,nd∈l->(ah (aM d sep (n:Nat) L lk).2 (d.node nd.id 0)).n+4*(m-1:Nat)<=9223372036854775808:=fun k l hk nd hm=>by
  have h1:=Zo hd dR.eW dR.tree Tq k l hk nd hm;have h2:=hwd k l hk nd hm;have h3:1<=m:=by rcases halt with⟨_,_,e⟩|⟨_,_,e⟩ <;> omega
  omega
 have an9:13<=m:=by
  have h1:12<=wI d:=by unfold wI;omega
  have h2:20<=gI d:=by unfold gI;omega
  rcases halt with⟨_,_,e⟩|⟨_,_,e⟩ <;> omega
 have aeH:=Tq;clear Tq;constructor
 ·refine⟨Nat.zero_le _,⟨by show(0:Int)<=n;omega,by show(n:Int)<1000;omega⟩,fun _=>⟨hok,hh,ajx,fun h4=>?_⟩,fun h=>by simp at h,fun h=>by simp at h,fun h=>by simp at h,fun h=>by simp at h,fun h=>by simp at h,fun h=>by simp at h,fun h=>by simp at h,fun h=>by simp at h,fun h=>by simp at h⟩
  simp only at h4 ⊢;rcases hp4 h4 with⟨e,_⟩|⟨l,i,nd,word,ha,e,hlt,hin,js,Df,dF,_⟩
  ·rw[e]
   exact⟨Nat.zero_le _,fun h=>absurd rfl h⟩
  ·rw[e]
   have hle:=Df.pg.le;have f2:=hd.mV;refine⟨by simp only at hle ⊢;omega,fun _=>⟨Df,dF,fun hno=>(lp _ i l nd word t1 ha hin hno Df).2⟩⟩
 ·intro s' hn
  show ∃ t' n' m',j5 d P (aM d sep (n:Nat) L lk).2 t' n' s' m' /\ m' + 1<=m/\vT d L t (aM d sep (n:Nat) L lk).2 t'
  rcases hn with⟨c1,rfl⟩|⟨c1,hn⟩
  ·simp only at c1
   refine⟨t,n,m-1,⟨hbase,hn1,rfl,fun _=>kA,hch,jn,yU,fun _=>by rw[h7];exact vW,iM,Tr,⟨fun e=>by rw[h4c];exact hroom e,gU,c1,?_⟩⟩,?_,t2⟩
   ·rcases halt with⟨a,rfl,c⟩|⟨a,rfl,c⟩
    ·exact .inl ⟨a,m',hl',by omega⟩
    ·exact .inr ⟨a,m',hl',by omega⟩
   ·omega
  ·simp only at c1 hn
   have hp4:=hp4 c1;have hown:jY (aM d sep (n:Nat) L lk).1=true->(aM d sep (n:Nat) L lk).1.h.id≠0:=fun e=>by
    unfold jY at e;rw[c1]at e;simpa using e
   rcases hn with⟨c2,rfl⟩|⟨c2,c3,rfl⟩|⟨c2,c3,ins',hb,rfl⟩
   ·rcases hp4 with⟨e,hT⟩|⟨l,i,nd,word,ha,e,_,_,js,_⟩
    ·refine⟨t,n,m-1,⟨hbase,hn1,rfl,fun _=>kA,hch,jn,fun k l hk nd hm _=>yU k l hk nd hm (fun hc=>hown hc.1 c2),fun _=>by rw[h7];exact vW,iM,Tr,⟨hT,fun er=>?_,Nat.zero_le _,fun e=>absurd e (by show ¬ (0:Nat)=1;decide),by show(0:Int)<=0;decide,by show(0:Int)<_;decide,?_⟩⟩,by omega,t2⟩
     ·have:=hroom er
      rw[Yb hT]at this;rw[h4c];exact this
     ·show gI d<=m-1+0
      rcases halt with⟨a,_,_⟩|⟨_,_,e⟩ <;> omega
    ·rw[e]at c2
     simp only at c2;omega
   ·rcases hp4 with⟨e,hT⟩|⟨l,i,nd,word,ha,e,hlt,hin,js,Df,dF,abO,_⟩
    ·rw[e]at c2;exact absurd rfl c2
    ·have hnm:=aqs ha.hi
     rw[e]at c3;have ajy:=Tp _ i l nd t1 ha c3;refine⟨t,n,m-1,⟨hbase,hn1,rfl,fun hp=>by simp at hp,hch,fun c hc=>?_,fun k l' hk lY hm hno=>yU k l' hk lY hm (fun hcc=>hno ?_),fun _=>by rw[h7];exact vW,iM,Tr,⟨⟨nd.low,l,nd,ha.hl,hnm,by rw[e],rfl,by rw[e];exact hlt⟩,by omega⟩⟩,by omega,t2⟩
     ·constructor
      ·intro hx
       rcases(jn c hc).1 hx with hx|⟨_,hx⟩
       ·exact .inl hx
       ·exact .inr ⟨by simp[ew],hx⟩
      ·rintro (hx|⟨_,hx⟩)
       ·exact(jn c hc).2 (.inl hx)
       ·by_cases h2:2<=n
        ·exact(jn c hc).2 (.inr ⟨by unfold ew;rw[decide_eq_true (by show(2:Int)<=(n:Nat);omega)];rfl,hx⟩)
        ·obtain rfl:n=1:=by omega
         rw[hx,← hch rfl];exact ajy
     ·show lY.id=(aM d sep (n:Nat) L lk).1.h.id
      rw[e,hcc.2,abO]
   ·rcases hp4 with⟨e,hT⟩|⟨l,i,nd,word,ha,e,hlt,hin,js,Df,dF,abO,_⟩
    ·rw[e]at c2;exact absurd rfl c2
    ·have hnm:=aqs ha.hi
     rw[e]at c3 hb;have hbb:=Df.pg.le;obtain⟨H,ajz⟩:=lp _ i l nd word t1 ha hin c3 Df;have hwn:word+4*(m-1:Nat)+4<=9223372036854775809:=by
      have h1:=Tr n l ha.hl nd hnm;have h2:=hwd n l ha.hl nd hnm;rw[hlt.c]at h1;have h3:=Zo hd dR.eW dR.tree aeH n l ha.hl nd hnm;rw[hlt.c]at h3;simp only at h1 h3;omega
     have K:kM d ⟨nd.id,word,nd.pg⟩ (aZ nd.pg sep ch):=⟨Df,hlt.w,by show word+4<_;omega,ajz⟩
     have hold:o9 d (aM d sep (n:Nat) L lk).2 ⟨nd.id,word,nd.pg⟩:=⟨(t1.node n l ha.hl nd hnm hlt.y7).hold,hlt.c⟩;obtain⟨g1,g2,g3,g4,g5,g6,g7⟩:=Nn hd H K hold t4 hb;have htl:=(aqq.1 ha.hl).1;refine⟨t,n,m-1,⟨hbase,hn1,rfl,fun _=>kA,hch,jn,fun k l' hk lY hm hno=>yU k l' hk lY hm (fun hcc=>hno ?_),fun _=>by rw[h7];exact vW,iM,Tr,⟨i,l,nd,?_,?_,?_,g2,g3,g4,?_,fun _ ep e1=>?_,fun _=>g6,?_,?_,?_,?_⟩⟩,by omega,t2⟩
     ·show lY.id=(aM d sep (n:Nat) L lk).1.h.id
      rw[e,hcc.2,abO]
     ·show qq t n i l nd (aM d sep (n:Nat) L lk).1.h (aZ (aM d sep (n:Nat) L lk).1.h.pg sep ch)
      rw[e];exact H
     ·show kM d (aM d sep (n:Nat) L lk).1.h (aZ (aM d sep (n:Nat) L lk).1.h.pg sep ch)
      rw[e];exact K
     ·show iT d _ (aM d sep (n:Nat) L lk).1.h (aZ (aM d sep (n:Nat) L lk).1.h.pg sep ch) ins'
      rw[e];exact g1
     ·show _->d.fa<((aZ (aM d sep (n:Nat) L lk).1.h.pg sep ch).sl.length:Int)
      rw[e];exact g5
     ·exfalso
      rcases g6 with⟨_,g6⟩|⟨g6,_⟩
      ·simp only at e1;omega
      ·simp only at ep;omega
     ·intro er
      rw[h4c];rcases g6 with⟨g6,_⟩|⟨g6,g6'⟩
      ·simp only[g6,if_true]
       exact hroom er
      ·simp only[g6,g6']
       have:=dR.lim.2 er;simp;exact this
     ·have:=gU
      rw[if_pos htl]at this;exact this
     ·show(aM d sep (n:Nat) L lk).1.h.word+4*(m-1:Nat)+4<=9223372036854775809
      rw[e];exact hwn
     ·show oH (aZ (aM d sep (n:Nat) L lk).1.h.pg sep ch) ins' + 5+(if d.fa<((aZ (aM d sep (n:Nat) L lk).1.h.pg sep ch).sl.length:Int)then _ else 0)<=m-1
      rw[e];simp only;rcases halt with⟨a1,_,a2⟩|⟨a1,_⟩
      ·have hwi:wI d=2*(d.fa.toNat+6)+12:=rfl
       by_cases hf:d.fa<((aZ nd.pg sep ch).sl.length:Int)
       ·have hsm:small l=false:=by
         cases hsm:small l with
         | false=>rfl
         | true=>
          have h1:=xq hsm ha.hi;have h2:(aZ nd.pg sep ch).sl.length=nd.pg.sl.length+1:=fG _ _ _;have:=hd.fw;omega
        have e0:¬ (t[n]?.map small).getD false=true:=by
         rw[ha.hl];show ¬ small l=true
         rw[hsm];simp
        rw[if_neg e0]at a2;rw[if_pos hf];omega
       ·rw[if_neg hf]
        omega
      ·omega
end
section
variable {d:aR}{P:Ed}{L L':List aP}{t t':List (List Nd)}{n m:Nat}{s s':eE}
theorem rj {k i k':Nat}{l l':List Nd}{nd c:Nd}{fu:Pg}{id:Int}{sp:Bool}(hk:t[k]?=some l)(hi:l[i]?=some nd)(h:(l9 t k i l nd fu id sp)[k']?=some l')(hc:c∈l') :
  (∃ l0 c0,t[k']?=some l0/\c0∈l0/\c0.id=c.id/\c0.low=c.low)\/(sp=true/\k'=k/\c=⟨id,bM fu,dD fu⟩):=by
 have xg:=(aqq.1 hk).1;by_cases e:k'=k
 ·subst e
  cases sp with
  | false=>
   have h:(t.set k' (l.set i { nd with pg:=fu }))[k']?=some l' := h;rw[List.getElem?_set_self xg]at h;obtain rfl:=aqu h;rcases(nP hi).1 hc with rfl|⟨j,_,hj⟩
   ·exact .inl ⟨l,nd,hk,aqs hi,rfl,rfl⟩
   ·exact .inl ⟨l,c,hk,aqs hj,rfl,rfl⟩
  | true=>
   have h:(t.set k' (vQ l i { nd with pg:=fy fu id } ⟨id,bM fu,dD fu⟩))[k']?=some l' := h;rw[List.getElem?_set_self xg]at h;obtain rfl:=aqu h;rcases(mh hi).1 hc with rfl|rfl|⟨j,_,hj⟩
   ·exact .inl ⟨l,nd,hk,aqs hi,rfl,rfl⟩
   ·exact .inr ⟨rfl,rfl,rfl⟩
   ·exact .inl ⟨l,c,hk,aqs hj,rfl,rfl⟩
 ·rw[jb e]at h
  exact .inl ⟨l',c,h,hc,rfl,rfl⟩
theorem Dg {k i:Nat}{l:List Nd}{nd:Nd}{fu:Pg}{id:Int}{sp:Bool}(hk:t[k]?=some l)(hi:l[i]?=some nd):∃ l',(l9 t k i l nd fu id sp)[k]?=some l' /\ l'.length<=l.length+1/\(∃ a,a∈l' /\ a.id=nd.id/\a.low=nd.low)/\(sp=true->(⟨id,bM fu,dD fu⟩:Nd)∈l'):=by
 have xg:=(aqq.1 hk).1;have hlen:=(aqq.1 hi).1;cases sp with
 | false=>exact⟨l.set i { nd with pg:=fu },List.getElem?_set_self xg,by rw[List.length_set];omega,⟨_,(nP hi).2 (.inl rfl),rfl,rfl⟩,fun e=>by cases e⟩
 | true=>exact⟨vQ l i { nd with pg:=fy fu id } ⟨id,bM fu,dD fu⟩,List.getElem?_set_self xg,by rw[yO hlen];omega,⟨_,(mh hi).2 (.inl rfl),rfl,rfl⟩,fun _=>(mh hi).2 (.inr (.inl rfl))⟩
theorem Ts {k i:Nat}{l:List Nd}{nd:Nd}{fu:Pg}{id:Int}{sp:Bool}(hk:t[k]?=some l)(hi:l[i]?=some nd)(h:yT P t 1):yT P (l9 t k i l nd fu id sp) (if k+1<(l9 t k i l nd fu id sp).length then 1 else 0):=by
 have xg:=(aqq.1 hk).1;intro l' hl';rw[uM]at hl' ⊢;by_cases e:t.length-1=k
 ·obtain⟨l2,h1,h2,_⟩:=Dg (fu:=fu) (id:=id) (sp:=sp) hk hi
  rw[e,h1]at hl';obtain rfl:=aqu hl';have:=h l (by rw[e];exact hk)
  rw[if_neg (by omega)]
  omega
 ·rw[jb e]at hl'
  have:=h l' hl';split <;> omega
theorem Np {k i:Nat}{l:List Nd}{nd:Nd}{fu:Pg}{id:Int}{sp:Bool}:(l9 t k i l nd fu id sp).drop (k+1)=t.drop (k+1):=by
 refine List.ext_getElem? (fun j=>?_)
 rw[List.getElem?_drop,List.getElem?_drop];exact jb (by omega)
theorem Yd {k i:Nat}{l:List Nd}{nd:Nd}{fu:Pg}{id:Int}{sp:Bool}:cL (l9 t k i l nd fu id sp) (k+1)=cL t (k+1):=by
 unfold cL;rw[uM,jb (by omega)]
theorem xu {fu:Pg}(h:∀ s,s∈fu.sl->s.k.size<=32):(bM fu).size<=32:=by
 unfold bM;split
 ·rename_i x y hx hy
  split
  ·exact Nat.le_trans (wV _ _) (h y (aqs hy))
  ·exact h y (aqs hy)
 ·exact Nat.zero_le _
theorem abP (hd:d.Ok)(hlen:(L.length:Int)=d.cells){fr:cB}{fu:Pg}{x x':fU}(K:kM d fr fu)(hI:iT d L fr fu x)(h2:x.pc<=2)(hn:iz d fr fu L x x') :
  (x.pc=0->x'.pc=1->(ah (bQ d L x) 4).n=(ah L 4).n+1)/\((x.pc≠0\/x'.pc≠1)->(ah (bQ d L x) 4).n=(ah L 4).n):=by
 have hcl:=gB hd;by_cases h0:x.pc=0
 ·obtain⟨pc,tk,k,ps,sp,id,full⟩:=x
  simp only at h0;subst h0;obtain⟨_,_,_,a4,_⟩:=hI;obtain⟨tp,seen,ok⟩:=tk;simp only at a4;rcases a4 with⟨rfl,rfl⟩|⟨rfl,rfl,b1,b2⟩
  ·refine⟨fun _ h1=>?_,fun _=>rfl⟩
   rcases hn with⟨_,rfl⟩|⟨_,_,rfl⟩|⟨_,c2,_⟩
   ·simp at h1
   ·simp at h1
   ·cases c2
  ·by_cases hsw:bW L 4 seen=true
   ·have hseen:(ah L 4).n=seen:=by
     unfold bW at hsw;simp only[Bool.and_eq_true,decide_eq_true_eq]at hsw;exact hsw.2
    have e1:aG 4 d.no L ⟨1,seen,false⟩=(⟨2,seen,true⟩,aN L 4 ⟨seen+1,⟨#[]⟩,0⟩):=by
     show(if bW L 4 seen then _ else _)=_
     rw[if_pos hsw]
    have e2:(ah (bQ d L ⟨0,⟨1,seen,false⟩,k,ps,sp,id,full⟩) 4).n=(ah L 4).n+1:=by
     show(ah (aG 4 d.no L ⟨1,seen,false⟩).2 4).n=_
     rw[e1];show(ah (aN L 4 ⟨seen+1,⟨#[]⟩,0⟩) 4).n=_
     rw[b9 (by omega) (by omega),hseen]
    refine⟨fun _ _=>e2,fun h=>?_⟩
    exfalso
    simp only[iz,e1]at hn;rcases hn with⟨c1,_⟩|⟨_,c2,_⟩|⟨_,_,rfl⟩
    ·omega
    ·cases c2
    ·rcases h with h|h
     ·exact h rfl
     ·exact h rfl
   ·have e1:aG 4 d.no L ⟨1,seen,false⟩=(⟨0,seen,false⟩,L):=by
     show(if bW L 4 seen then _ else _)=_
     rw[if_neg hsw]
    have e2:bQ d L ⟨0,⟨1,seen,false⟩,k,ps,sp,id,full⟩=L:=by
     show(aG 4 d.no L ⟨1,seen,false⟩).2=_
     rw[e1]
    rw[e2];refine⟨fun _ h1=>?_,fun _=>rfl⟩
    simp only[iz,e1]at hn;rcases hn with⟨_,rfl⟩|⟨c1,_⟩|⟨c1,_⟩
    ·simp at h1
    ·omega
    ·omega
 ·refine⟨fun h=>absurd h h0,fun _=>?_⟩
  rw[fD hd K hI (fun e=>absurd e h0) (fun _=>gF hd K.hok.id.1 K.hok.id.2) (fun hp=>?_)]
  obtain⟨pc,tk,k,ps,sp,id,full⟩:=x;simp only at hp;subst hp;exact gF hd hI.2.2.2.1.lo hI.2.2.2.1.hi
theorem Dh (hd:d.Ok){fr:cB}{fu:Pg}{x:fU}(K:kM d fr fu)(hI:iT d L fr fu x){j:Int}(h4:j≠4)(hj:j<d.A\/d.B<=j):ah (bQ d L x) j=ah L j:=by
 refine fD hd K hI (fun _=>h4) (fun _ q p r=>?_) (fun hp q p r=>?_)
 ·have:=nQ hd K.hok.id.1 K.hok.id.2 p r
  omega
 ·obtain⟨pc,tk,k,ps,sp,id,full⟩:=x
  simp only at hp;subst hp;have:=nQ (id:=id) hd hI.2.2.2.1.lo hI.2.2.2.1.hi p r;show j≠d.node id q
  omega
theorem j5.aeI (hd:d.Ok)(sG:d.no<=900)(h:j5 d P L t n s m)(h0:s.pc=1):q8 d P L t s m:=by
 have dR:=h.base;have hnt:=h.nt (.inl (by omega))
 have hn1:=h.n1;have cg:=h.az;have kA:=h.task (.inl (by omega))
 have hch:=h.ch;have jn:=h.ref;have hfree:=h.free;have vW:=h.c7 (.inl (by omega))
 have iM:=h.vV;have hwd:=h.wd;have hst:=h.st;obtain⟨pc,f,lk,fr,ins,aq,root,word,tk,id,k⟩:=s;simp only at h0;subst h0;obtain⟨az,sep,ch,po⟩:=f;simp only at cg kA hch;subst cg;obtain⟨i,l,nd,H,K,hI,hF,h2,Mw,hJ,hR1,hR0,hroom,gU,aeJ,hm⟩:=hst;have abQ:eE.fu ⟨1,⟨n,sep,ch,po⟩,lk,fr,ins,aq,root,word,tk,id,k⟩=aZ nd.pg sep ch:=by
  show aZ fr.pg sep ch=_
  rw[H.pg]
 rw[abQ]at H K hI hJ hm;simp only at H K hI hF h2 Mw hJ hR1 hR0 hroom aeJ hm;obtain⟨fu,lp⟩:∃ fu,fu=aZ nd.pg sep ch:=⟨_,rfl⟩;have rW:aZ fr.pg sep ch=fu:=by rw[lp,H.pg]
 rw[← lp]at H K hI hJ hm;have xp:=dR.tree.Cx;have hA:=hd.eb;have f1:=hd.fw;have iY:=hd.mM;have hnm:=aqs H.hi;have aob:=(dR.tree.sh.nodes _ l H.hk nd hnm).1;have hid:=H.id;have aeK:=K.Vo.len;have ak7:6<=m:=by
  have:0<oH fu ins\/oH fu ins=0:=by omega
  have h3:1<=oH fu ins:=by
   obtain⟨pc,tk,k,ps,sp,id,full⟩:=ins;simp only at h2;rcases(by omega:pc=0\/pc=1\/pc=2)with rfl|rfl|rfl
   ·show 1<=(fu.sl.length+5)+(fu.sl.length+5)+(2-tk.pc)
    omega
   ·obtain⟨_,_,_,_,_,a6,_⟩:=hI
    simp only at a6;show 1<=(ps.length-k)+_
    omega
   ·obtain⟨_,_,_,a4,_⟩:=hI
    simp only at a4;show 1<=ps.length-k
    omega
  omega
 have hsm:d.fa<(fu.sl.length:Int)->small l=false:=fun hf=>by
  cases hsm:small l with
  | false=>rfl
  | true=>
   have h1:=xq hsm H.hi;have h2:(aZ nd.pg sep ch).sl.length=nd.pg.sl.length+1:=fG _ _ _;rw[lp]at hf;omega
 have htl:=(aqq.1 H.hk).1;have abR:d.fa<(fu.sl.length:Int)->cL t n=t.length+1-n:=fun hf=>by
  unfold cL;rw[H.hk];show(if small l=true then _ else _)=_
  rw[hsm hf];rfl
 have aoc:cL t (n+1)<=t.length-n:=by
  unfold cL;split <;> omega
 have h40:(0:Int)<=(ah L 4).n:=by omega
 constructor
 ·refine⟨by show 1<=13;decide,⟨by show(0:Int)<=n;omega,by show(n:Int)<1000;omega⟩,fun h=>by simp at h,fun _=>?_,fun h=>by simp at h,fun h=>by simp at h,fun h=>by simp at h,fun h=>by simp at h,fun h=>by simp at h,fun h=>by simp at h,fun h=>by simp at h,fun h=>by simp at h⟩
  show fr.Ok d/\lq d fr (eE.fu _)/\ins.Ok d (eE.fu _)
  rw[abQ,← lp];exact⟨K.hok,K.Vo,hI.ok h2⟩
 ·rintro s' ⟨ins',hn,hs'⟩
  simp only at hn hs';rw[abQ,← lp]at hn;show ∃ t' n' m',j5 d P (bQ d L ins) t' n' s' m' /\ m' + 1<=m/\vT d L t (bQ d L ins) t'
  have hI' := nZ hd dR.eW K (by omega) h40 hI h2 hn
  have Kk:=Ie hd K dR.iR hI;have Zp:((bQ d L ins).length:Int)=d.cells:=by rw[xj];exact dR.eW
  have pK:∀ j:Int,j≠0->j≠4->j≠7->(j<d.A\/d.B<=j)->ah (bQ d L ins) j=ah L j:=fun j _ a _ b=>Dh hd K hI a b
  have h7:ah (bQ d L ins) 7=ah L 7:=Dh hd K hI (by omega) (by omega)
  obtain⟨n4a,Zq⟩:=abP hd dR.eW K hI h2 hn;have jk:∀ (k':Nat) (l':List Nd),t[k']?=some l' -> ∀ c,c∈l' -> c.id≠fr.id->ah (bQ d L ins) (d.node c.id 0)=ah L (d.node c.id 0):=fun k' l' hk' c hc hne=>by
   have hcb:=(dR.tree.sh.nodes k' l' hk' c hc).1;have:=dR.tree.n4;exact hI.other hd K hF hk' hc hcb.1 (by omega) hne 0 (by omega) (by omega)
  by_cases hB:P.room=false/\ins.pc=0
  ·-- no number is left
   obtain⟨uZ,Su⟩:=hB;have abS:ins.tk.pc=0:=by
    rcases hR0 uZ with⟨_,h⟩|⟨h,_⟩
    ·exact h
    ·omega
   obtain⟨q1,q2⟩:=dR.noR uZ;obtain⟨pc,tk2,k2,ps,sp,id2,full⟩:=ins;simp only at Su abS;subst Su;obtain⟨a1,a2,a3,a4,a5⟩:=hI;obtain⟨tp,seen,ok⟩:=tk2;simp only at abS a1 a2 a4;subst abS a1 a2;have hok:ok=false:=by
    rcases a4 with⟨_,h⟩|⟨h,_⟩
    ·exact h
    ·omega
   subst hok;have e1:aG 4 d.no L ⟨0,seen,false⟩=(⟨2,(ah L 4).n,false⟩,L):=by
    show((⟨if d.no<=(ah L 4).n then 2 else 1,(ah L 4).n,false⟩:iy),L)=_
    rw[if_pos q1]
   have eL:bQ d L ⟨0,⟨0,seen,false⟩,k2,ps,false,id2,false⟩=L:=rfl;rw[eL];simp only[iz,e1]at hn;rcases hn with⟨c1,_⟩|⟨_,_,rfl⟩|⟨_,c2,_⟩
   ·omega
   ·rcases hs' with⟨c1,_⟩|⟨_,rfl⟩
    ·simp at c1
    ·have aod:=iM uZ
     refine⟨t,n,m-1,⟨dR,hn1,rfl,fun hp=>by simp at hp,hch,fun c hc=>?_,fun k l' hk lY hm hno=>hfree k l' hk lY hm (fun hcc=>hno (.inl hcc)),fun _=>vW,iM,fun k l' hk lY hm=>by have:=hwd k l' hk lY hm;omega,⟨⟨nd.low,l,nd,H.hk,hnm,hid,rfl,a5.2,K.lk,K.hok.word⟩,fun _=>uZ,fun e=>by simp at e,fun _=>rfl,by omega⟩⟩,by omega,vT.refl _ _ _⟩
     have:=jn c hc;have e2:ew ⟨2,⟨n,sep,ch,po⟩,lk,fr,⟨3,⟨2,(ah L 4).n,false⟩,k2,ps,false,id2,true⟩,aq,root,word,tk,id,k⟩=ew ⟨1,⟨n,sep,ch,po⟩,lk,fr,⟨0,⟨0,seen,false⟩,k2,ps,false,id2,false⟩,aq,root,word,tk,id,k⟩:=by simp[ew]
     rw[e2];exact this
   ·cases c2
  ·have hAl:Kj d L ins:=by
    refine⟨Mw,fun Su=>?_⟩
    have hr:P.room=true:=by
     cases hr:P.room with
     | true=>rfl
     | false=>exact absurd ⟨hr,Su⟩ hB
    have h1:=hroom hr;have h3:=abR (hJ (.inl (by omega)))
    simp only[Su,if_true]at h1;have oy:=dR.lim.1;exact⟨by omega,hR1 hr Su⟩
   obtain⟨⟨Di,aeM⟩,hms⟩:=hAl.step hd dR.eW hI h2 hn;have abT:P.room=false->ins.pc=2/\ins.sp=false:=fun e=>by
    rcases hR0 e with⟨q,_⟩|q
    ·exact absurd ⟨e,q⟩ hB
    ·exact q
   have Ni:P.room=false->(ah (bQ d L ins) 4).n=(ah L 4).n:=fun e=>Zq (.inl (by have:=(abT e).1;omega))
   have zb:(ins.pc=0/\(ins'.pc=0\/ins'.pc=1)/\ins'.sp=false)\/(ins.pc=1/\(ins'.pc=1\/(ins'.pc=2/\ins'.sp=true)))\/(ins.pc=2/\(ins'.pc=2\/ins'.pc=3)/\ins'.sp=ins.sp):=by
    obtain⟨pc,tk2,k2,ps,sp,id2,full⟩:=ins;simp only at h2;rcases(by omega:pc=0\/pc=1\/pc=2)with rfl|rfl|rfl
    ·left
     have hsp:=hI.1;simp only at hsp;subst hsp;rcases hn with⟨_,rfl⟩|⟨_,_,rfl⟩|⟨_,_,rfl⟩
     ·exact⟨rfl,.inl rfl,rfl⟩
     ·cases Di
     ·exact⟨rfl,.inr rfl,rfl⟩
    ·right;left
     rcases hn with⟨_,rfl⟩|⟨_,ps',_,rfl⟩
     ·exact⟨rfl,.inl rfl⟩
     ·exact⟨rfl,.inr ⟨rfl,rfl⟩⟩
    ·right;right
     rcases hn with⟨_,rfl⟩|⟨_,rfl⟩
     ·exact⟨rfl,.inl rfl,rfl⟩
     ·exact⟨rfl,.inr rfl,rfl⟩
   have Zr:P.room=true->(ah (bQ d L ins) 4).n<=P.lim:=fun er=>by
    have hr:=hroom er;have hl2:=dR.lim.2 er;by_cases hcc:ins.pc=0/\ins'.pc=1
    ·rw[n4a hcc.1 hcc.2]
     rw[if_pos hcc.1,abR (hJ (.inl (by omega)))]at hr
     omega
    ·rw[Zq (by omega)];exact hl2
   by_cases h3:ins'.pc<=2
   ·obtain⟨q1,q2⟩:=Th hd dR.eW K dR.tree H hI hF h2 hn (.inl h3)
    have hF' := qu.step dR.tree hI hF h2 hn h3;rcases hs' with⟨_,rfl⟩|⟨c1,_⟩
    ·have hw' := hI'.word hd K h3
     refine⟨t,n,m-1,⟨dR.next Kk Zp q1 dR.sz rfl pK (fun e=>⟨Ni e,rfl⟩) Zr,hn1,rfl,fun _=>kA,hch,jn,fun k' l' hk' c hc hno=>?_,fun _=>by rw[h7];exact vW,iM,fun k' l' hk' c hc=>?_,⟨i,l,nd,?_,?_,?_,hF',h3,Di,?_,fun er e0 e1=>(aeM e0).2 e1,fun er=> .inr ?_,fun er=>?_,gU,?_,?_⟩⟩,by omega,q2⟩
     ·rw[jk k' l' hk' c hc hno]
      exact hfree k' l' hk' c hc hno
     ·by_cases e:c.id=fr.id
      ·rw[e,hw']
       have e2:=(nO K.lk).1;show(if _ then _ else _)+4*((m-1:Nat):Int)<=_
       split <;> omega
      ·rw[jk k' l' hk' c hc e]
       have:=hwd k' l' hk' c hc;omega
     ·show qq t n i l nd fr (aZ fr.pg sep ch)
      rw[rW];exact H
     ·show kM d fr (aZ fr.pg sep ch)
      rw[rW];exact K
     ·show iT d _ fr (aZ fr.pg sep ch) ins'
      rw[rW];exact hI'
     ·show _->d.fa<((aZ fr.pg sep ch).sl.length:Int)
      rw[rW];intro hc;rcases zb with⟨e,_⟩|⟨e,_⟩|⟨e,e2,e3⟩
      ·exact hJ (.inl (by omega))
      ·exact hJ (.inl (by omega))
      ·rcases hc with hc|hc
       ·simp only at hc;omega
       ·exact hJ (.inr (by rw[← e3];exact hc))
     ·have e5:=abT er
      rcases zb with⟨e,_⟩|⟨e,_⟩|⟨e,e2,e3⟩
      ·omega
      ·omega
      ·exact⟨by show ins'.pc=2;omega,by show ins'.sp=false;rw[e3];exact e5.2⟩
     ·have hr:=hroom er
      rcases zb with⟨e,e1|e1,e2⟩|⟨e,e1|⟨e1,e2⟩⟩|⟨e,e1,e2⟩
      ·rw[Zq (.inr (by omega))]
       rw[if_pos e]at hr;rw[if_pos (by exact e1)]
       exact hr
      ·rw[n4a e e1]
       rw[if_pos e,abR (hJ (.inl (by omega)))]at hr
       rw[if_neg (by simp only;omega),if_pos (.inl e1)]
       omega
      ·rw[Zq (.inl (by omega))]
       rw[if_neg (by omega),if_pos (.inl e)]at hr
       rw[if_neg (by simp only;omega),if_pos (.inl e1)]
       exact hr
      ·rw[Zq (.inl (by omega))]
       rw[if_neg (by omega),if_pos (.inl e)]at hr
       rw[if_neg (by simp only;omega),if_pos (.inr e2)]
       exact hr
      ·rw[Zq (.inl (by omega))]
       rw[if_neg (by omega)]at hr
       rw[if_neg (by simp only;omega)]
       by_cases hs:ins.sp=true
       ·rw[if_pos (.inr hs)]at hr
        rw[if_pos (.inr (by show ins'.sp=true;rw[e2];exact hs))]
        exact hr
       ·rw[if_neg (fun h=>by rcases h with h|h;omega;exact hs h)]at hr
        rw[if_neg (fun h=>by rcases h with h|h;(simp only at h;omega);exact hs (by rw[← e2];exact h))]
        exact hr
     ·show fr.word+4*((m-1:Nat):Int)+4<=_
      omega
     ·show oH (aZ fr.pg sep ch) ins' + 5+(if d.fa<((aZ fr.pg sep ch).sl.length:Int)then _ else 0)<=m-1
      rw[rW];omega
    ·omega
   ·have Sw:ins.pc=2/\ins'.pc=3/\ins'.sp=ins.sp:=by
     rcases zb with⟨_,e|e,_⟩|⟨_,e|⟨e,_⟩⟩|⟨a,e|e,b⟩
     ·omega
     ·omega
     ·omega
     ·omega
     ·omega
     ·exact⟨a,e,b⟩
    obtain⟨q1,q2⟩:=Ti hd dR.eW K dR.tree H hI hF h2 hn Sw.2.1 Di;have ajC:=Zq (.inl (by omega))
    rcases hs' with⟨c1,_⟩|⟨_,rfl⟩
    ·omega
    obtain⟨hp2,Sw,aeN⟩:=Sw;have aoe:1<=oH fu ins:=by omega
    clear zb n4a Zq hms hF hAl aeM hn h3;obtain⟨Ke,tk',k',ps',sp',id',Cv⟩:=ins';simp only at Di q1 q2 Sw aeN;subst Di Sw aeN;obtain⟨_,⟨g,_⟩|⟨_,g1,g2,g3,g4⟩⟩:=hI'
    ·cases g
    simp only at g1 g2 g3 g4;obtain⟨l',hl',hll,⟨a,ha,ha1,ha2⟩,hb⟩:=Dg (fu:=fu) (id:=id') (sp:=ins.sp) H.hk H.hi;have e4:=yS K.lk K.hok.word.1 K.Zk;have hlk:=K.lk;have hfk:∀ x,x∈fu.sl->x.k.size<=32:=fun x hx=>by
     rw[lp]at hx;obtain⟨l0,c,hl0,hc,e1,e2⟩:=kA;obtain⟨k,hk1⟩:∃ k,n=k+1:=⟨n-1,by omega⟩
     rcases jL hx with hx|rfl
     ·have hk2:=H.hk
      rw[hk1]at hk2;exact((dR.sz.keys dR.tree.sh hk2 hnm).1 x hx).1
     ·show sep.size<=32
      rw[← e2];exact dR.sz _ l0 hl0 c hc
    refine⟨l9 t n i l nd fu id' ins.sp,n,m-1,⟨dR.next Kk Zp q1 (fun k' l2 hk' c hc=>?_) (jb (by omega)) pK (fun e=>⟨Ni e,uM⟩) Zr,hn1,rfl,fun hp=>by simp at hp,hch,fun c hc=>?_,fun k' l2 hk' c hc hno=>?_,fun _=>by rw[h7];exact vW,iM,fun k' l2 hk' c hc=>?_,⟨⟨a.low,l',a,hl',ha,ha1.trans hid,rfl,?_⟩,fun e=>by simp at e,fun _ Og=>?_,fun e=>by simp at e,by omega⟩⟩,by omega,q2⟩
    ·rcases rj H.hk H.hi hk' hc with⟨l0,c0,h1,h2,_,h4⟩|⟨Og,_,rfl⟩
     ·rw[← h4];exact dR.sz _ l0 h1 c0 h2
     ·exact xu hfk
    ·have e9:ew ⟨2,⟨n,sep,ch,po⟩,lk,fr,⟨3,tk',k',ps',ins.sp,id',false⟩,aq,root,word,tk,id,k⟩=true:=by simp[ew]
     rw[e9];have hr:=jn c hc;by_cases e:n=1
     ·subst e
      have e8:ew ⟨1,⟨((1:Nat):Int),sep,ch,po⟩,lk,fr,ins,aq,root,word,tk,id,k⟩=false:=by simp[ew]
      rw[e8]at hr;rw[lp,Tl H.hk H.hi,hr,hch rfl];simp
     ·have e7:qF (l9 t n i l nd fu id' ins.sp) 1 c.id↔qF t 1 c.id:=by
       unfold qF;rw[jb (fun h=>e h.symm)]
      have e8:ew ⟨1,⟨n,sep,ch,po⟩,lk,fr,ins,aq,root,word,tk,id,k⟩=true:=by
       unfold ew;rw[decide_eq_true (by show(2:Int)<=(n:Nat);omega)]
       rfl
      rw[e7,hr,e8]
    ·rcases rj H.hk H.hi hk' hc with⟨l0,c0,h1,h2,h3,h4⟩|⟨Og,_,rfl⟩
     ·have hne:c0.id≠fr.id:=fun e=>hno (.inl (by rw[← h3];exact e))
      rw[← h3,jk k' l0 h1 c0 h2 hne];exact hfree k' l0 h1 c0 h2 hne
     ·exact absurd (.inr ⟨Og,rfl,rfl⟩) hno
    ·rcases rj H.hk H.hi hk' hc with⟨l0,c0,h1,h2,h3,h4⟩|⟨Og,_,rfl⟩
     ·by_cases e:c0.id=fr.id
      ·rw[← h3,e,g4,e4]
       show fr.word+4+4*((m-1:Nat):Int)<=_
       omega
      ·rw[← h3,jk k' l0 h1 c0 h2 e]
       have:=hwd k' l0 h1 c0 h2;omega
     ·rw[show ah (bQ d L ins) (d.node id' 0)=_ from(g2 Og).2.2.2]
      show(1:Int)+4*((m-1:Nat):Int)<=_
      have:=K.hok.word;omega
    ·show rV d _ fr.id (dM (bC fr.word))
     exact⟨g4,by rw[e4];omega,by rw[e4];have:=K.Zk;have:=K.hok.word;omega⟩
    ·obtain⟨g5,g6,g7⟩:=g2 Og
     have hrt:P.room=true:=by
      cases hr:P.room with
      | true=>rfl
      | false=>have:=(abT hr).2;simp only at Og;rw[this]at Og;cases Og
     have hr:=hroom hrt;rw[if_neg (by omega),if_pos (.inr Og)]at hr
     rw[if_pos (hJ (.inr Og))]at hm;have wW:((aZ fr.pg sep ch).sl.length:Int)<=d.fa+1:=by rw[rW];exact aeK
     have yB:=hd.mV;refine⟨⟨l',_,hl',hb Og,rfl,?_,g7.2,by decide,by decide⟩,g6.ne,g6.lo,?_,?_,fun _=>?_,Ts H.hk H.hi gU,hrt,?_⟩
     ·show bM fu=bM (aZ fr.pg sep ch)
      rw[rW]
     ·show(bM (aZ fr.pg sep ch)).size<=32
      rw[rW];exact xu hfk
     ·show(aZ fr.pg sep ch).sl.length<=1000
      omega
     ·rw[Yd,ajC];exact hr
     ·rw[Np];omega
end
section
variable {d:aR}{P:Ed}{L L':List aP}{t t':List (List Nd)}{n m:Nat}{s s':eE}
theorem Tt (hd:d.Ok)(hb:ze d P L t){id w:Int}{low:ByteArray}(hh:qz d L t n id w low) :
  ze d P (aN L (d.node id 0) ⟨aH w,⟨#[]⟩,0⟩) t/\vT d L t (aN L (d.node id 0) ⟨aH w,⟨#[]⟩,0⟩) t /\
  (∀ (k:Nat) (l:List Nd),t[k]?=some l->∀ c,c∈l->(c.id=id->(ah (aN L (d.node id 0) ⟨aH w,⟨#[]⟩,0⟩) (d.node c.id 0)).n%4=0)/\(c.id≠id->ah (aN L (d.node id 0) ⟨aH w,⟨#[]⟩,0⟩) (d.node c.id 0)=ah L (d.node c.id 0))/\(ah (aN L (d.node id 0) ⟨aH w,⟨#[]⟩,0⟩) (d.node c.id 0)).n<=(ah L (d.node c.id 0)).n) /\
  (∀ j:Int,(j<d.A\/d.B<=j)->ah (aN L (d.node id 0) ⟨aH w,⟨#[]⟩,0⟩) j=ah L j)/\1<=id/\id<=d.no:=by
 obtain⟨l,nd,hl,hnd,hid,_,hlt⟩:=hh;subst hid;have f1:=hd.fw;have sZ:=hb.tree.n4;have hnb:=(hb.tree.sh.nodes _ l hl nd hnd).1;have hw:=hlt.w;have hbd:=hlt.bd;have hun:aH w=w-1:=by unfold aH;omega
 have hpos:=bU hd (id:=nd.id) hnb.1 (by omega) (k:=0) (by omega) (by omega)
 obtain⟨q1,q2,q3⟩:=hb.tree.bit hd hb.eW hl hnd (w' := aH w) (by rw[hlt.c,hun];show(w-1) / 4=w / 4;omega) hlt.y7 (by unfold bY;rw[hun];exact decide_eq_false (by omega))
 have pK:∀ j:Int,(j<d.A\/d.B<=j)->ah (aN L (d.node nd.id 0) ⟨aH w,⟨#[]⟩,0⟩) j=ah L j:=fun j hj=>bg (by have:=nQ hd hnb.1 (by omega) (j:=0) (by omega) (by omega);omega)
 have hA:=hd.eb;refine⟨hb.next (hb.iR.put ⟨by show 0<=aH w;omega,by show aH w<_;omega⟩) (by rw[aY];exact hb.eW) q1 hb.sz rfl (fun j _ _ _ e=>pK j e) (fun _=>⟨by rw[pK 4 (by omega)],rfl⟩) (fun e=>by rw[pK 4 (by omega)];exact hb.lim.2 e),q2,fun k l' hk c hc=>?_,pK,hnb.1,by omega⟩
 have hcb:=(hb.tree.sh.nodes k l' hk c hc).1;have e1:ah (aN L (d.node nd.id 0) ⟨aH w,⟨#[]⟩,0⟩) (d.node nd.id 0)=⟨aH w,⟨#[]⟩,0⟩:=b9 hpos.2.1 (by have:=hb.eW;omega)
 have e2:c.id≠nd.id->ah (aN L (d.node nd.id 0) ⟨aH w,⟨#[]⟩,0⟩) (d.node c.id 0)=ah L (d.node c.id 0):=fun e=>bg (cJ hd hcb.1 (by omega) hnb.1 (by omega) (by omega) (by omega) (by omega) (by omega) e)
 refine⟨fun e=>?_,e2,?_⟩
 ·rw[e,e1];show aH w%4=0;omega
 ·by_cases e:c.id=nd.id
  ·rw[e,e1,hlt.c];show aH w<=w;omega
  ·rw[e2 e];exact Int.le_refl _
theorem qz.other (hd:d.Ok)(hb:dQ d L t){id w id' w':Int}{low:ByteArray}{c:aP}(h:qz d L t n id w low)(h1:1<=id')(h2:id' <= d.no)(hne:id≠id'):qz d (aN L (d.node id' 0) c) t n id w low:=by
 obtain⟨l,nd,hl,hnd,hid,eJ,hlt⟩:=h;have hnb:=(hb.sh.nodes _ l hl nd hnd).1;have f1:=hd.fw;have sZ:=hb.n4;exact⟨l,nd,hl,hnd,hid,eJ,by rw[bg (cJ hd (by omega) (by omega) h1 h2 (by omega) (by omega) (by omega) (by omega) hne)];exact hlt.c,hlt.w,hlt.bd⟩
theorem j5.aeO (hd:d.Ok)(sG:d.no<=900)(h:j5 d P L t n s m)(h0:s.pc=4)(Tu:n<1000):q8 d P L t s m:=by
 have dR:=h.base;have hn1:=h.n1;have cg:=h.az;have hch:=h.ch;have jn:=h.ref;have hfree:=h.free;have vW:=h.c7 (.inl (by omega))
 have iM:=h.vV;have hwd:=h.wd;have hst:=h.st;obtain⟨pc,f,lk,fr,ins,aq,root,word,tk,id,k⟩:=s;simp only at h0;subst h0;obtain⟨az,sep,ch,po⟩:=f;simp only at cg hch;subst cg;obtain⟨⟨low,hh⟩,hm⟩:=hst;simp only at hh;obtain⟨r1,r2,r3,r4,r5,r6⟩:=Tt hd dR hh;have hA:=hd.eb;have hbd:0<=fr.word/\fr.word<18446744073709551616:=by obtain⟨_,_,_,_,_,_,hlt⟩:=hh;exact hlt.bd
 constructor
 ·exact⟨by show 4<=13;decide,⟨by show(0:Int)<=n;omega,by show(n:Int)<1000;omega⟩,fun h=>by simp at h,fun h=>by simp at h,fun h=>by simp at h,fun h=>by simp at h,fun _=>hbd,fun h=>by simp at h,fun h=>by simp at h,fun h=>by simp at h,fun h=>by simp at h,fun h=>by simp at h⟩
 ·rintro s' rfl
  refine⟨t,n,m-1,⟨r1,hn1,rfl,fun hp=>by simp at hp,hch,fun c hc=>?_,fun k' l' hk' c hc _=>?_,fun _=>?_,iM,fun k' l' hk' c hc=>?_,fun _=>rfl⟩,by omega,r2⟩
  ·have e1:ew ⟨14,j4.end ⟨n,sep,ch,po⟩ true,lk,fr,ins,aq,root,word,tk,id,k⟩=true:=by simp[ew,j4.end]
   have e2:ew ⟨4,⟨n,sep,ch,po⟩,lk,fr,ins,aq,root,word,tk,id,k⟩=true:=by simp[ew]
   have:=jn c hc;rw[e2]at this;show qF t 1 c.id↔P.R c.id\/(ew ⟨14,j4.end ⟨n,sep,ch,po⟩ true,lk,fr,ins,aq,root,word,tk,id,k⟩=true/\c.id=P.Zl)
   rw[e1];exact this
  ·obtain⟨a,b,_⟩:=r3 k' l' hk' c hc
   by_cases e:c.id=fr.id
   ·exact a e
   ·show(ah (aN L (d.node fr.id 0) _) _).n%4=0
    rw[b e];exact hfree k' l' hk' c hc e
  ·show(ah (aN L (d.node fr.id 0) _) 7).n%4=0
   rw[r4 7 (by omega)];exact vW
  ·have a:=(r3 k' l' hk' c hc).2.2
   have b:=hwd k' l' hk' c hc;show(ah (aN L (d.node fr.id 0) ⟨aH fr.word,⟨#[]⟩,0⟩) _).n+4*((m-1:Nat):Int)<=_
   omega
theorem j5.aeP (hd:d.Ok)(sG:d.no<=900)(h:j5 d P L t n s m)(h0:s.pc=3)(Tu:n<999):q8 d P L t s m:=by
 have dR:=h.base;have hn1:=h.n1;have cg:=h.az;have hch:=h.ch;have jn:=h.ref;have hfree:=h.free;have vW:=h.c7 (.inl (by omega))
 have iM:=h.vV;have hwd:=h.wd;have hst:=h.st;obtain⟨pc,f,lk,fr,ins,aq,root,word,tk,id,k⟩:=s;simp only at h0;subst h0;obtain⟨az,sep,ch,po⟩:=f;simp only at cg hch;subst cg;obtain⟨hh,Mw,hsp,js,hsz,hlen,hroom,gU,hrt,hm⟩:=hst;simp only at hh Mw hsp js;obtain⟨r1,r2,r3,r4,r5,r6⟩:=Tt hd dR hh;have hA:=hd.eb;have mq:eE.right ⟨3,⟨n,sep,ch,po⟩,lk,fr,ins,aq,root,word,tk,id,k⟩=⟨ins.id,aO 0,dD (eE.fu ⟨3,⟨n,sep,ch,po⟩,lk,fr,ins,aq,root,word,tk,id,k⟩)⟩:=by
  show(if ins.sp=true then _ else _)=_
  rw[if_pos hsp]
 have Wh:eE.Xj ⟨3,⟨n,sep,ch,po⟩,lk,fr,ins,aq,root,word,tk,id,k⟩=bM (eE.fu ⟨3,⟨n,sep,ch,po⟩,lk,fr,ins,aq,root,word,tk,id,k⟩):=by
  show(if ins.sp=true then _ else _)=_
  rw[if_pos hsp]
 have hmm:gO d L ⟨3,⟨n,sep,ch,po⟩,lk,fr,ins,aq,root,word,tk,id,k⟩=aN L (d.node ins.id 0) ⟨aH (aO 0),⟨#[]⟩,0⟩:=by
  show aN L (d.node (eE.right _).id 0) ⟨aH (eE.right _).word,⟨#[]⟩,0⟩=_
  rw[mq]
 obtain⟨fu,lp⟩:∃ fu,fu=eE.fu ⟨3,⟨n,sep,ch,po⟩,lk,fr,ins,aq,root,word,tk,id,k⟩:=⟨_,rfl⟩;rw[← lp]at mq Wh hh hsz hlen;constructor
 ·refine⟨by show 3<=13;decide,⟨by show(0:Int)<=n;omega,by show(n:Int)<1000;omega⟩,fun h=>by simp at h,fun h=>by simp at h,fun h=>by simp at h,fun _=>?_,fun h=>by simp at h,fun h=>by simp at h,fun h=>by simp at h,fun h=>by simp at h,fun h=>by simp at h,fun h=>by simp at h⟩
  rw[mq];refine⟨⟨by show(0:Int)<=aO 0;decide,by show aO 0<(18446744073709551616:Int);decide⟩,?_⟩
  show(fu.sl.drop _).length<=_
  rw[List.length_drop];omega
 ·rintro s' rfl
  rw[hmm];obtain⟨l0,nd0,hl0,aeQ,Xb,aeR,_⟩:=hh;have htl:=(aqq.1 hl0).1;refine⟨t,n+1,m-1,⟨r1,by omega,?_,fun _=>?_,fun h=>by omega,fun c hc=>?_,fun k' l' hk' c hc _=>?_,fun _=>?_,fun e=>by rw[hrt]at e;(cases e),fun k' l' hk' c hc=>?_,⟨fun e=>?_,?_,by show(0:Nat)≠4;decide,?_⟩⟩,by omega,r2⟩
  ·show(n:Int)+1=((n+1:Nat):Int)
   omega
  ·refine⟨l0,nd0,by rw[Nat.add_sub_cancel];exact hl0,aeQ,?_,?_⟩
   ·show nd0.id=(eE.right _).id
    rw[mq];exact Xb
   ·show nd0.low=eE.Xj _
    rw[Wh];exact aeR
  ·have e1:∀ a b c2,ew ⟨0,⟨(n:Int)+1,a,b,c2⟩,oU,fr,ins,aq,root,word,tk,id,k⟩=true:=fun a b c2=>by
    unfold ew;rw[decide_eq_true (by show(2:Int)<=(n:Int)+1;omega)]
    rfl
   have e2:ew ⟨3,⟨n,sep,ch,po⟩,lk,fr,ins,aq,root,word,tk,id,k⟩=true:=by simp[ew]
   have:=jn c hc;rw[e2]at this;show qF t 1 c.id↔P.R c.id\/(ew ⟨0,⟨(n:Int)+1,_,_,_⟩,oU,fr,ins,aq,root,word,tk,id,k⟩=true/\c.id=P.Zl)
   rw[e1];exact this
  ·obtain⟨a,b,_⟩:=r3 k' l' hk' c hc
   by_cases e:c.id=ins.id
   ·exact a e
   ·rw[b e]
    exact hfree k' l' hk' c hc e
  ·rw[r4 7 (by omega)];exact vW
  ·have a:=(r3 k' l' hk' c hc).2.2
   have b:=hwd k' l' hk' c hc;omega
  ·rw[r4 4 (by omega)];exact hroom e
  ·exact gU
  ·have aeS:n+1<t.length\/t.length=n+1:=by omega
   rcases aeS with h1|h1
   ·obtain⟨l1,oy⟩:∃ l1,t[n+1]?=some l1:=⟨_,aqt h1⟩
    have hne:=(dR.tree.sh.rows _ l1 oy).ne;rw[Tm d P.B oy]at hm;refine .inl ⟨h1,_,Ic.begin ⟨l1,l1[0],oy,List.getElem_mem hne⟩ (Nat.le_refl _),?_⟩;rw[oy];unfold wC at hm;show _+wI d+(if small l1=true then 0 else _)<=_
    omega
   ·refine .inr ⟨h1,_,Ic.begin ⟨l0,nd0,by rw[Nat.add_sub_cancel];exact hl0,aeQ⟩ (Nat.le_refl _),?_⟩
    rw[List.drop_of_length_le (by omega)]at hm
    have hup:pE t n=l0.length:=by
     rw[jm,drop_cons hl0,List.drop_of_length_le (by omega)]
     simp
    have h2:=gU l0 (by rw[h1,Nat.add_sub_cancel];exact hl0)
    have h3:=Nat.mul_le_mul_right (bT d) (show pE t n<=P.B by omega)
    rw[Nat.add_sub_cancel];have h4:cU d P.B []=gC d P.B:=rfl;rw[h4]at hm;unfold gC at hm;omega
theorem j5.aeT (hd:d.Ok)(sG:d.no<=900)(h:j5 d P L t n s m)(h0:s.pc=2)(Tu:n<1000):q8 d P L t s m:=by
 have dR:=h.base;have hn1:=h.n1;have cg:=h.az;have hch:=h.ch;have jn:=h.ref;have hfree:=h.free;have vW:=h.c7 (.inl (by omega))
 have iM:=h.vV;have hwd:=h.wd;have hst:=h.st;obtain⟨pc,f,lk,fr,ins,aq,root,word,tk,id,k⟩:=s;simp only at h0;subst h0;obtain⟨az,sep,ch,po⟩:=f;simp only at cg hch;subst cg;obtain⟨⟨low,hh⟩,hfr,Tv,hfs,hm⟩:=hst;simp only at hh hfr Tv hfs;obtain⟨r1,r2,r3,r4,r5,r6⟩:=Tt hd dR hh;have hA:=hd.eb;have iY:=hd.mM;have ajD:(eE.left ⟨2,⟨n,sep,ch,po⟩,lk,fr,ins,aq,root,word,tk,id,k⟩).id=fr.id:=by
  show(if ins.full=true then fr else _).id=_
  split <;> rfl
 have hmm:gO d L ⟨2,⟨n,sep,ch,po⟩,lk,fr,ins,aq,root,word,tk,id,k⟩=aN L (d.node fr.id 0) ⟨aH (eE.left ⟨2,⟨n,sep,ch,po⟩,lk,fr,ins,aq,root,word,tk,id,k⟩).word,⟨#[]⟩,0⟩:=by
  show aN L (d.node (eE.left _).id 0) _=_
  rw[ajD]
 obtain⟨fu,lp⟩:∃ fu,fu=eE.fu ⟨2,⟨n,sep,ch,po⟩,lk,fr,ins,aq,root,word,tk,id,k⟩:=⟨_,rfl⟩;have mq:eE.right ⟨2,⟨n,sep,ch,po⟩,lk,fr,ins,aq,root,word,tk,id,k⟩=if ins.sp=true then⟨ins.id,aO 0,dD fu⟩else mA:=by rw[lp];rfl
 obtain⟨lw,hlw⟩:∃ lw,lw=(eE.left ⟨2,⟨n,sep,ch,po⟩,lk,fr,ins,aq,root,word,tk,id,k⟩).word:=⟨_,rfl⟩;rw[← hlw]at hmm hh r1 r2 r3 r4;rw[← lp]at Tv;have hbd:0<=lw/\lw<18446744073709551616:=by obtain⟨_,_,_,_,_,_,hlt⟩:=hh;exact hlt.bd
 have sZ:=dR.tree.n4;have hsf:ins.sp=true->ins.full=false:=fun e=>by
  cases hf:ins.full with
  | false=>rfl
  | true=>rw[hfs hf]at e;cases e
 have Nq:ins.sp=true->1<=ins.id/\ins.id<=d.no:=fun e=>by
  obtain⟨⟨l,nd,hl,hnd,hid,_⟩,_⟩:=Tv (hsf e) e;have:=(dR.tree.sh.nodes _ l hl nd hnd).1;omega
 constructor
 ·refine⟨by show 2<=13;decide,⟨by show(0:Int)<=n;omega,by show(n:Int)<1000;omega⟩,fun h=>by simp at h,fun h=>by simp at h,fun _=>?_,fun h=>by simp at h,fun h=>by simp at h,fun h=>by simp at h,fun h=>by simp at h,fun h=>by simp at h,fun h=>by simp at h,fun h=>by simp at h⟩
  rw[← hlw,mq];refine⟨hbd,?_⟩;cases hs:ins.sp with
  | false=>exact⟨Nat.zero_le _,by show(0:Int)<=0;decide,by show(0:Int)<18446744073709551616;decide⟩
  | true=>
   have h1:=(Tv (hsf hs) hs).2.2.2.2.1;have h2:=Nq hs;refine⟨?_,by show 0<=ins.id;omega,by show ins.id<_;omega⟩
   show(fu.sl.drop _).length<=_
   rw[List.length_drop];omega
 ·intro s' hn
  rw[hmm];have dG:∀ x:Bool,(ins.full=true\/ins.sp=false)->(x=false->P.room=false)->(x = !ins.full)->∃ t' n' m',j5 d P (aN L (d.node fr.id 0) ⟨aH lw,⟨#[]⟩,0⟩) t' n' ⟨14,j4.end ⟨n,sep,ch,po⟩ x,lk,fr,ins,aq,root,word,tk,id,k⟩ m' /\ m' + 1<=m/\vT d L t (aN L (d.node fr.id 0) ⟨aH lw,⟨#[]⟩,0⟩) t' := by
   intro x hx Jv hxf;refine⟨t,n,m-1,⟨r1,hn1,rfl,fun hp=>by simp at hp,hch,fun c hc=>?_,fun k' l' hk' c hc _=>?_,fun _=>?_,iM,fun k' l' hk' c hc=>?_,fun hr=>?_⟩,by omega,r2⟩
   ·have e1:ew ⟨14,j4.end ⟨n,sep,ch,po⟩ x,lk,fr,ins,aq,root,word,tk,id,k⟩=ew ⟨2,⟨n,sep,ch,po⟩,lk,fr,ins,aq,root,word,tk,id,k⟩:=by simp[ew,j4.end,hxf]
    rw[e1];exact jn c hc
   ·obtain⟨a,b,_⟩:=r3 k' l' hk' c hc
    by_cases e:c.id=fr.id
    ·exact a e
    ·rw[b e]
     refine hfree k' l' hk' c hc (fun ho=>?_)
     rcases ho with ho|⟨o1,o2,_⟩
     ·exact e ho
     ·rcases hx with hx|hx
      ·simp only at o2;rw[o2]at hx;cases hx
      ·simp only at o1;rw[o1]at hx;cases hx
   ·rw[r4 7 (by omega)];exact vW
   ·have a:=(r3 k' l' hk' c hc).2.2
    have b:=hwd k' l' hk' c hc;omega
   ·cases x with
    | true=>rfl
    | false=>rw[Jv rfl]at hr;cases hr
  rcases hn with⟨c1,rfl⟩|⟨c1,c2,rfl⟩|⟨c1,c2,rfl⟩
  ·simp only at c1
   exact dG false (.inl c1) (fun _=>hfr c1) (by rw[c1];rfl)
  ·simp only at c1
   refine dG true (.inr ?_) (fun e=>by cases e) (by rw[c1];rfl)
   cases hs:ins.sp with
   | false=>rfl
   | true=>
    rw[mq,if_pos hs]at c2;have:=Nq hs;simp only at c2;omega
  ·simp only at c1
   have hs:ins.sp=true:=by
    cases hs:ins.sp with
    | true=>rfl
    | false=>
     rw[mq,if_neg (by rw[hs];simp)]at c2
     exact absurd rfl c2
   obtain⟨g1,g2,g3,g4,g5,g6,g7,g8,g9⟩:=Tv c1 hs;refine⟨t,n,m-1,⟨r1,hn1,rfl,fun hp=>by simp at hp,hch,fun c hc=>?_,fun k' l' hk' c hc hno=>?_,fun _=>?_,iM,fun k' l' hk' c hc=>?_,⟨?_,c1,hs,g3,?_,?_,fun e=>?_,g7,g8,?_⟩⟩,by omega,r2⟩
   ·have e1:ew ⟨3,⟨n,sep,ch,po⟩,lk,fr,ins,aq,root,word,tk,id,k⟩=true:=by simp[ew]
    have e2:ew ⟨2,⟨n,sep,ch,po⟩,lk,fr,ins,aq,root,word,tk,id,k⟩=true:=by simp[ew,c1]
    have:=jn c hc;rw[e2]at this;rw[e1];exact this
   ·obtain⟨a,b,_⟩:=r3 k' l' hk' c hc
    by_cases e:c.id=fr.id
    ·exact a e
    ·rw[b e]
     refine hfree k' l' hk' c hc (fun ho=>?_)
     rcases ho with ho|⟨_,_,o3⟩
     ·exact e ho
     ·exact hno o3
   ·rw[r4 7 (by omega)];exact vW
   ·have a:=(r3 k' l' hk' c hc).2.2
    have b:=hwd k' l' hk' c hc;omega
   ·show qz d _ t n ins.id (aO 0) (bM (eE.fu ⟨2,⟨n,sep,ch,po⟩,lk,fr,ins,aq,root,word,tk,id,k⟩))
    rw[← lp];exact g1.other (w' := 0) hd dR.tree r5 r6 g2
   ·show(bM (eE.fu ⟨2,⟨n,sep,ch,po⟩,lk,fr,ins,aq,root,word,tk,id,k⟩)).size<=32
    rw[← lp];exact g4
   ·show(eE.fu ⟨2,⟨n,sep,ch,po⟩,lk,fr,ins,aq,root,word,tk,id,k⟩).sl.length<=1000
    rw[← lp];exact g5
   ·rw[r4 4 (by omega)];exact g6 e
   ·omega
end
section
variable {d:aR}{P:Ed}{L L1:List aP}{t t':List (List Nd)}{n m:Nat}{s s':eE}
theorem Tw (hd:d.Ok)(hb:ze d P L t)(h1:bI L1)(h2:L1.length=L.length)(hn:∀ (k:Nat)(l:List Nd),t[k]?=some l->∀ nd,nd∈l->∀ j:Int,0<=j->j<d.fa+4->ah L1 (d.node nd.id j)=ah L (d.node nd.id j))(h0:ah L1 0=ah L 0)
  (h4:(ah L 4).n<=(ah L1 4).n/\(ah L1 4).n<=d.no) (hr:∀ j:Int,j≠0->j≠4->j≠7->(j<d.A\/d.B<=j)->ah L1 j=ah L j) (hroom:P.room=false->(ah L1 4).n=(ah L 4).n) (ajE:P.room=true->(ah L1 4).n<=P.lim) :
  ze d P L1 t/\vT d L t L1 t/\∀ (k:Nat) (l:List Nd),t[k]?=some l->∀ nd,nd∈l->ah L1 (d.node nd.id 0)=ah L (d.node nd.id 0):=by
 obtain⟨q1,q2,q3⟩:=hb.tree.frame hd hn (by rw[h0]) h4
 exact⟨hb.next h1 (by rw[h2];exact hb.eW) q1 hb.sz rfl hr (fun e=>⟨hroom e,rfl⟩) ajE,q2,q3⟩
theorem s5 (h:5<=s.pc/\s.pc<=13):ew s=decide (2<=s.f.az):=by
 unfold ew;rw[beq_eq_false_iff_ne.2 (show s.pc≠3 by omega),beq_eq_false_iff_ne.2 (show s.pc≠4 by omega),beq_eq_false_iff_ne.2 (show s.pc≠2 by omega),beq_eq_false_iff_ne.2 (show s.pc≠14 by omega)]
 simp
theorem qA {id:Int}(h:5<=s.pc):¬ Zn s id:=by
 obtain⟨pc,f,lk,fr,ins,aq,root,word,tk,id2,k⟩:=s;simp only at h;obtain⟨q,rfl⟩:∃ q,pc=q+5:=⟨pc-5,by omega⟩
 exact fun h=>h
theorem Dj (h:j5 d P L t n s m)(hp:5<=s.pc/\s.pc<=12)(hp':5<=s'.pc/\s'.pc<=13)(hf:s'.f=s.f)(hb:ze d P L1 t)(hw:∀ (k:Nat)(l:List Nd),t[k]?=some l->∀ nd,nd∈l->ah L1 (d.node nd.id 0)=ah L (d.node nd.id 0))(vW:s'.pc=5->(ah L1 7).n%4=0)(hst:aeF d P L1 t n s' (m-1)):j5 d P L1 t n s' (m-1):=by
 refine⟨hb,h.n1,by rw[hf];exact h.az,fun _=>by rw[hf];exact h.task (.inr hp),by rw[hf];exact h.ch,fun c hc=>?_,fun k l hk nd hm _=>?_,fun e=>vW (by omega),h.vV,fun k l hk nd hm=>?_,hst⟩
 ·rw[s5 hp',hf,← s5 (s:=s) ⟨hp.1,by omega⟩]
  exact h.ref c hc
 ·rw[hw k l hk nd hm]
  exact h.free k l hk nd hm (qA hp.1)
 ·rw[hw k l hk nd hm]
  have:=h.wd k l hk nd hm;omega
theorem Ih (hb:ze d P L t):ze d P L t/\vT d L t L t/\∀ (k:Nat)(l:List Nd),t[k]?=some l->∀ nd,nd∈l->ah L (d.node nd.id 0)=ah L (d.node nd.id 0):=⟨hb,vT.refl _ _ _,fun _ _ _ _ _=>rfl⟩
theorem Tx (hd:d.Ok)(hb:ze d P L t){j:Int}{c:aP}(hj:(j=7)\/(j=4/\(ah L 4).n<=c.n/\c.n<=P.lim/\P.room=true))(hc:ni c):ze d P (aN L j c) t/\vT d L t (aN L j c) t/\(∀ (k:Nat)(l:List Nd),t[k]?=some l->∀ nd,nd∈l->ah (aN L j c) (d.node nd.id 0)=ah L (d.node nd.id 0))/\ah (aN L j c) j=c:=by
 have hcl:=gB hd;have hlen:=hb.eW;have sZ:=hb.tree.n4;have hjb:0<=j/\j<8:=by rcases hj with h|h <;> omega
 have he:ah (aN L j c) j=c:=b9 hjb.1 (by omega)
 obtain⟨q1,q2,q3⟩:=Tw (L1:=aN L j c) hd hb (hb.iR.put hc) (aY _ _ _) (fun k l hk nd hm i a b=>bg (by
  have h1:=(hb.tree.sh.nodes k l hk nd hm).1;have:=fL hd nd.id i h1.1 (by omega) a b
  omega)) (bg (by rcases hj with h|h <;> omega)) (by
   rcases hj with h|⟨rfl,h1,h2,_⟩
   ·rw[bg (by omega)];exact⟨Int.le_refl _,sZ⟩
   ·have:=hb.lim.1
    rw[he];exact⟨h1,by omega⟩) (fun i h0 h4 h7 _=>bg (by rcases hj with h|h <;> omega)) (fun e=>by
   rcases hj with h|⟨_,_,_,h⟩
   ·rw[bg (by omega)]
   ·rw[h]at e;cases e) (fun e=>by
   rcases hj with h|⟨rfl,_,h2,_⟩
   ·rw[bg (by omega)];exact hb.lim.2 e
   ·rw[he];exact h2)
 exact⟨q1,q2,q3,he⟩
theorem j5.aeU (hd:d.Ok)(h:j5 d P L t n s m)(h0:s.pc=5)(Tu:n<1000):q8 d P L t s m:=by
 have dR:=h.base;have hp:5<=s.pc/\s.pc<=12:=by omega
 have vW:=h.c7 (.inr h0);have cg:=h.az;have hmid:=fun L1 s' => Dj (L1:=L1) (s' := s') h hp
 have hst:=h.st;have hcb:=dR.iR 7;have hg:20<=gI d:=by unfold gI;omega
 obtain⟨pc,f,lk,fr,ins,aq,root,word,tk,id,k⟩:=s;simp only at h0;subst h0;obtain⟨hT,hroom,ha1,ha2,hb1,hb2,hm⟩:=hst;simp only at cg ha1 ha2 hb1 hb2 hm;obtain⟨ap,aw⟩:=aq;simp only at ha1 ha2 hb1 hb2 hm;constructor
 ·exact⟨by show 5<=13;decide,⟨by show(0:Int)<=f.az;omega,by show f.az<1000;omega⟩,fun h=>by simp at h,fun h=>by simp at h,fun h=>by simp at h,fun h=>by simp at h,fun h=>by simp at h,fun _=>⟨⟨by show ap<=2;omega,hb1,hb2⟩,by show ap≠2;omega⟩,fun h=>by simp at h,fun h=>by simp at h,fun h=>by simp at h,fun h=>by simp at h⟩
 ·intro s' hn
  rcases(by omega:ap=0\/ap=1)with rfl|rfl
  ·have e1:bL 7 L ⟨0,aw⟩=(⟨1,aO (ah L 7).n⟩,L):=by
    show((if (ah L 7).n%2=1 then⟨0,aw⟩else⟨1,aO (ah L 7).n⟩:oO),L)=_
    rw[if_neg (by omega)]
   have e2:gO d L ⟨5,f,lk,fr,ins,⟨0,aw⟩,root,word,tk,id,k⟩=L:=by
    show(bL 7 L ⟨0,aw⟩).2=L
    rw[e1]
   rw[e2];simp only[o8,e1]at hn;have hlk:=rT vW;rcases hn with⟨_,rfl⟩|⟨c1,_⟩
   ·obtain⟨q1,q2,q3⟩:=Ih (d:=d) dR
    have hcn:=hcb.2;have aof:=hcb.1;refine⟨t,n,m-1,hmid L _ ⟨by show 5<=5;decide,by show 5<=13;decide⟩ rfl q1 q3 (fun _=>vW) ⟨hT,hroom,by show 1<=1;decide,fun _=>hlk,by show 0<=aO _;omega,by show aO _<_;omega,by show gI d<=m-1+1;omega⟩,by omega,q2⟩
   ·omega
  ·have haw:=ha2 rfl
   have hun:aH aw=(ah L 7).n:=by rw[haw];exact oG vW
   have hcl:=gB hd;have hlen:=dR.eW;have hsw:bW L 7 (aH aw)=true:=by
    unfold bW;rw[decide_eq_true (by omega),decide_eq_true (by omega),decide_eq_true hun.symm]
    rfl
   have e1:bL 7 L ⟨1,aw⟩=(⟨2,aw⟩,aN L 7 ⟨aw,⟨#[]⟩,0⟩):=by
    show(if bW L 7 (aH aw)then _ else _)=_
    rw[if_pos hsw]
   have e2:gO d L ⟨5,f,lk,fr,ins,⟨1,aw⟩,root,word,tk,id,k⟩=aN L 7 ⟨aw,⟨#[]⟩,0⟩:=by
    show(bL 7 L ⟨1,aw⟩).2=_
    rw[e1]
   rw[e2];simp only[o8,e1]at hn;obtain⟨q1,q2,q3,q4⟩:=Tx hd dR (j:=7) (c:=⟨aw,⟨#[]⟩,0⟩) (.inl rfl) ⟨hb1,hb2⟩;rcases hn with⟨c1,_⟩|⟨_,rfl⟩
   ·exact absurd rfl c1
   ·refine⟨t,n,m-1,hmid _ _ ⟨by show 5<=6;decide,by show 6<=13;decide⟩ rfl q1 q3 (fun e=>by simp at e) ⟨hT,fun e=>by rw[bg (by omega)];exact hroom e,rfl,⟨q4,by show aw%4=1;omega,hb1,hb2⟩,by omega⟩,by omega,q2⟩
theorem j5.abU (hd:d.Ok)(h:j5 d P L t n s m)(h0:s.pc=6\/s.pc=7)(Tu:n<1000):q8 d P L t s m:=by
 have dR:=h.base;have hp:5<=s.pc/\s.pc<=12:=by omega
 have cg:=h.az;have hmid:=fun L1 s' => Dj (L1:=L1) (s' := s') h hp
 have hfree:=fun k l hk nd hm=>h.free k l hk nd hm (qA hp.1)
 have hst:=h.st;have hg:20<=gI d:=by unfold gI;omega
 have sZ:=dR.tree.n4;have iY:=hd.mM;obtain⟨q1,q2,q3⟩:=Ih (d:=d) dR;obtain⟨pc,f,lk,fr,ins,aq,root,word,tk,id,k⟩:=s;simp only at h0 cg;rcases h0 with rfl|rfl
 ·obtain⟨hT,hroom,ha,hown,hm⟩:=hst
  constructor
  ·exact⟨by show 6<=13;decide,⟨by show(0:Int)<=f.az;omega,by show f.az<1000;omega⟩,fun h=>by simp at h,fun h=>by simp at h,fun h=>by simp at h,fun h=>by simp at h,fun h=>by simp at h,fun h=>by simp at h,fun h=>by simp at h,fun h=>by simp at h,fun h=>by simp at h,fun h=>by simp at h⟩
  ·rintro s' rfl
   obtain⟨nd,rest,h1,h2⟩:=dR.tree.root;exact⟨t,n,m-1,hmid L _ ⟨by show 5<=7;decide,by show 7<=13;decide⟩ rfl q1 q3 (fun e=>by simp at e) ⟨hT,hroom,ha,hown,⟨nd,rest,h1,h2⟩,by omega⟩,by omega,q2⟩
 ·obtain⟨hT,hroom,ha,hown,⟨nd,rest,hr1,hr2⟩,hm⟩:=hst
  simp only at hr2 ha hown;have hnd:nd∈nd::rest:=List.mem_cons_self;have hb:=(dR.tree.sh.nodes _ _ hr1 nd hnd).1;have hw:=hfree _ _ hr1 nd hnd;have hN:=dR.tree.node _ _ hr1 nd hnd (by unfold bY;exact decide_eq_false (by omega))
  have hl:=(dR.tree.sh.rows _ _ hr1).az nd hnd;have hhd:ah L (d.node nd.id 1)=⟨nd.pg.sl.length,⟨#[]⟩,nd.pg.az⟩:=hN.hold ⟨d.node nd.id 1,⟨nd.pg.sl.length,⟨#[]⟩,nd.pg.az⟩⟩ (by simp[bN])
  have hne:=dR.tree.sh.ne;have hlm:(ah L (d.node root 1)).m=nd.pg.az:=by rw[hr2,hhd]
  constructor
  ·refine⟨by show 7<=13;decide,⟨by show(0:Int)<=f.az;omega,by show f.az<1000;omega⟩,fun h=>by simp at h,fun h=>by simp at h,fun h=>by simp at h,fun h=>by simp at h,fun h=>by simp at h,fun h=>by simp at h,fun _=>⟨⟨by show 0<=root;omega,by show root<_;omega⟩,ha,?_⟩,fun h=>by simp at h,fun h=>by simp at h,fun h=>by simp at h⟩
   show 0<=(ah L (d.node root 1)).m/\(ah L (d.node root 1)).m<1000000
   rw[hlm];omega
  ·intro s' hn
   rcases hn with⟨c1,_⟩|⟨_,rfl⟩
   ·simp only at c1
    rw[hlm]at c1;omega
   ·exact⟨t,n,m-1,hmid L _ ⟨by show 5<=9;decide,by show 9<=13;decide⟩ rfl q1 q3 (fun e=>by simp at e) ⟨hT,hroom,hown,⟨nd,rest,hr1,hr2⟩,rfl,.inl rfl,by show gI d<=m-1+4+0;omega⟩,by omega,q2⟩
theorem j5.aeV (hd:d.Ok)(h:j5 d P L t n s m)(h0:s.pc=9)(Tu:n<1000):q8 d P L t s m:=by
 have dR:=h.base;have hp:5<=s.pc/\s.pc<=12:=by omega
 have cg:=h.az;have hmid:=fun L1 s' => Dj (L1:=L1) (s' := s') h hp
 have hst:=h.st;have hg:20<=gI d:=by unfold gI;omega
 have sZ:=dR.tree.n4;have iY:=hd.mM;have Ni:=(dR.iR 4).1;have hcl:=gB hd;have hlen:=dR.eW;obtain⟨q1,q2,q3⟩:=Ih (d:=d) dR;obtain⟨pc,f,lk,fr,ins,aq,root,word,tk,id,k⟩:=s;simp only at h0 cg;subst h0;obtain⟨hT,hroom,hown,hrt,hok,lJ,hm⟩:=hst;simp only at hown hrt hok lJ hm;obtain⟨tp,seen,ok⟩:=tk;simp only at hok lJ hm;subst hok;rcases lJ with rfl|⟨Ee,rfl,ajF⟩
 ·by_cases hfull:d.no<=(ah L 4).n
  ·have e1:aG 4 d.no L ⟨0,seen,false⟩=(⟨2,(ah L 4).n,false⟩,L):=by
    show((⟨if d.no<=(ah L 4).n then 2 else 1,(ah L 4).n,false⟩:iy),L)=_
    rw[if_pos hfull]
   have uZ:P.room=false:=by
    cases hr:P.room with
    | false=>rfl
    | true=>have:=hroom hr;have:=dR.lim.1;omega
   constructor
   ·refine⟨by show 9<=13;decide,⟨by show(0:Int)<=f.az;omega,by show f.az<1000;omega⟩,fun h=>by simp at h,fun h=>by simp at h,fun h=>by simp at h,fun h=>by simp at h,fun h=>by simp at h,fun h=>by simp at h,fun h=>by simp at h,fun h=>by simp at h,fun _=>⟨by show 0<2;decide,fun e=>by simp at e,fun e=>?_⟩,fun h=>by simp at h⟩
    simp only[e1]at e;cases e
   ·intro s' hn
    have e2:gO d L ⟨9,f,lk,fr,ins,aq,root,word,⟨0,seen,false⟩,id,k⟩=L:=rfl;rw[e2];simp only[o8,e1]at hn;rcases hn with⟨c1,_⟩|⟨_,_,rfl⟩|⟨_,c1,_⟩
    ·omega
    ·exact⟨t,n,m-1,hmid L _ ⟨by show 5<=13;decide,by show 13<=13;decide⟩ rfl q1 q3 (fun e=>by simp at e) ⟨uZ,hown,by omega⟩,by omega,q2⟩
    ·cases c1
  ·have e1:aG 4 d.no L ⟨0,seen,false⟩=(⟨1,(ah L 4).n,false⟩,L):=by
    show((⟨if d.no<=(ah L 4).n then 2 else 1,(ah L 4).n,false⟩:iy),L)=_
    rw[if_neg hfull]
   have Ee:P.room=true:=by
    cases hr:P.room with
    | true=>rfl
    | false=>exact absurd (dR.noR hr).1 hfull
   constructor
   ·refine⟨by show 9<=13;decide,⟨by show(0:Int)<=f.az;omega,by show f.az<1000;omega⟩,fun h=>by simp at h,fun h=>by simp at h,fun h=>by simp at h,fun h=>by simp at h,fun h=>by simp at h,fun h=>by simp at h,fun h=>by simp at h,fun h=>by simp at h,fun _=>⟨by show 0<2;decide,fun e=>by simp at e,fun e=>?_⟩,fun h=>by simp at h⟩
    simp only[e1]at e;cases e
   ·intro s' hn
    have e2:gO d L ⟨9,f,lk,fr,ins,aq,root,word,⟨0,seen,false⟩,id,k⟩=L:=rfl;rw[e2];simp only[o8,e1]at hn;rcases hn with⟨_,rfl⟩|⟨c1,_⟩|⟨c1,_⟩
    ·exact⟨t,n,m-1,hmid L _ ⟨by show 5<=9;decide,by show 9<=13;decide⟩ rfl q1 q3 (fun e=>by simp at e) ⟨hT,hroom,hown,hrt,rfl,.inr ⟨Ee,rfl,rfl⟩,by show gI d<=m-1+4+1;omega⟩,by omega,q2⟩
    ·omega
    ·omega
 ·have hsw:bW L 4 seen=true:=by
   unfold bW;rw[decide_eq_true (by omega),decide_eq_true (by omega),decide_eq_true ajF.symm]
   rfl
  have e1:aG 4 d.no L ⟨1,seen,false⟩=(⟨2,seen,true⟩,aN L 4 ⟨seen+1,⟨#[]⟩,0⟩):=by
   show(if bW L 4 seen then _ else _)=_
   rw[if_pos hsw]
  have hr1:=hroom Ee;have hr2:(ah L 4).n+1<=P.lim:=hr1;have oy:=dR.lim.1;constructor
  ·refine⟨by show 9<=13;decide,⟨by show(0:Int)<=f.az;omega,by show f.az<1000;omega⟩,fun h=>by simp at h,fun h=>by simp at h,fun h=>by simp at h,fun h=>by simp at h,fun h=>by simp at h,fun h=>by simp at h,fun h=>by simp at h,fun h=>by simp at h,fun _=>⟨by show 1<2;decide,fun _=>⟨by show 0<=seen;omega,by show seen<_;omega⟩,fun _=>?_⟩,fun h=>by simp at h⟩
   simp only[e1];omega
  ·intro s' hn
   have e2:gO d L ⟨9,f,lk,fr,ins,aq,root,word,⟨1,seen,false⟩,id,k⟩=aN L 4 ⟨seen+1,⟨#[]⟩,0⟩:=by
    show(aG 4 d.no L ⟨1,seen,false⟩).2=_
    rw[e1]
   rw[e2];simp only[o8,e1]at hn;obtain⟨q1,q2,q3,q4⟩:=Tx hd dR (j:=4) (c:=⟨seen+1,⟨#[]⟩,0⟩) (.inr ⟨rfl,by show _<=seen+1;omega,by show seen+1<=_;omega,Ee⟩) ⟨by show 0<=seen+1;omega,by show seen+1<_;omega⟩
   rcases hn with⟨c1,_⟩|⟨_,c1,_⟩|⟨_,_,rfl⟩
   ·omega
   ·cases c1
   ·refine⟨t,n,m-1,hmid _ _ ⟨by show 5<=10;decide,by show 10<=13;decide⟩ rfl q1 q3 (fun e=>by simp at e) ⟨hT,Ee,⟨?_,hown.2⟩,hrt,fun k' l hk c hc=>?_,by show 1<=seen+1;omega,?_,by show 0<5;decide,fun q hq=>by simp at hq,by show gI d<=m-1+6+0;omega⟩,by omega,q2⟩
    ·rw[bg (by omega)];exact hown.1
    ·have:=(dR.tree.sh.nodes k' l hk c hc).1
     show c.id≠seen+1
     omega
    ·rw[q4];exact Int.le_refl _
end
section
variable {d:aR}{P:Ed}{L L1:List aP}{t t':List (List Nd)}{n m:Nat}{s s':eE}
theorem Ye (hd:d.Ok){az root:Int}(h:0<=root/\root<18446744073709551616):oM d (fe az root):=by
 have f1:=hd.fw;refine⟨by show((1:Nat):Int)<=d.fa;omega,⟨by show(0:Int)<=0;decide,by show(0:Int)<18446744073709551616;decide⟩,fun x hx=>?_,fun x hx=>?_,Nat.zero_le _,fun _=>rfl⟩
 ·obtain rfl:x=⟨⟨#[]⟩,root⟩:=by simpa[fe] using hx
  exact h
 ·obtain rfl:x=⟨⟨#[]⟩,root⟩:=by simpa[fe] using hx
  exact Nat.zero_le _
theorem Nr (hd:d.Ok){id:Int}{pg:Pg}(h1:1<=id)(h2:id<=d.no)(hle:(pg.sl.length:Int)<=d.fa):(∀ q,q∈((⟨d.node id 0,⟨aO 0,⟨#[]⟩,0⟩⟩:Pt)::bN d id pg)->∃ k:Int,0<=k/\k<d.fa+4/\q.i=d.node id k)/\(((⟨d.node id 0,⟨aO 0,⟨#[]⟩,0⟩⟩:Pt)::bN d id pg).map (·.i)).Nodup:=by
 have f1:=hd.fw;constructor
 ·intro q hq
  rcases List.mem_cons.1 hq with rfl|hq
  ·exact⟨0,by omega,by omega,rfl⟩
  ·obtain⟨k,k1,k2,e⟩:=fH hd h1 h2 hle q hq
   exact⟨k,by omega,k2,e⟩
 ·rw[List.map_cons,List.nodup_cons]
  refine⟨fun hm=>?_,nD hd h1 h2 hle⟩
  obtain⟨q,hq,e⟩:=List.mem_map.1 hm;obtain⟨k,k1,k2,e2⟩:=fH hd h1 h2 hle q hq;exact dw hd h1 h2 (by omega) k2 (by omega) (by omega) (by omega) (e2.symm.trans e)
theorem Zs (hd:d.Ok)(hb:ze d P L t){id j:Int}{c:aP}(h1:1<=id)(h2:id<=d.no)(hj:0<=j/\j<d.fa+4)(hno:Hh t id)(hc:ni c) :
  ze d P (aN L (d.node id j) c) t/\vT d L t (aN L (d.node id j) c) t/\(∀ (k:Nat) (l:List Nd),t[k]?=some l->∀ nd,nd∈l->ah (aN L (d.node id j) c) (d.node nd.id 0)=ah L (d.node nd.id 0))/\ah (aN L (d.node id j) c) (d.node id j)=c/\(∀ i:Int,i<8->ah (aN L (d.node id j) c) i=ah L i):=by
 have sZ:=hb.tree.n4;have hpos:=bU hd h1 h2 hj.1 hj.2;have hmid:=nQ hd h1 h2 hj.1 hj.2;have hA:=hd.eb;have hlen:=hb.eW;have eJ:∀ i:Int,i<8->ah (aN L (d.node id j) c) i=ah L i:=fun i hi=>bg (by omega)
 obtain⟨q1,q2,q3⟩:=Tw (L1:=aN L (d.node id j) c) hd hb (hb.iR.put hc) (aY _ _ _) (fun k l hk nd hm i a b=>bg (by
  have hn:=(hb.tree.sh.nodes k l hk nd hm).1;exact cJ hd hn.1 (by omega) h1 h2 a b hj.1 hj.2 (hno k l hk nd hm))) (eJ 0 (by omega)) (by rw[eJ 4 (by omega)];exact⟨Int.le_refl _,sZ⟩) (fun i _ _ _ hi=>bg (by omega)) (fun _=>by rw[eJ 4 (by omega)]) (fun e=>by rw[eJ 4 (by omega)];exact hb.lim.2 e)
 exact⟨q1,q2,q3,b9 hpos.2.1 (by omega),eJ⟩
theorem j5.abV (hd:d.Ok)(h:j5 d P L t n s m)(h0:s.pc=10)(Tu:n<1000):q8 d P L t s m:=by
 have dR:=h.base;have hp:5<=s.pc/\s.pc<=12:=by omega
 have cg:=h.az;have hmid:=fun L1 s' => Dj (L1:=L1) (s' := s') h hp
 have hst:=h.st;have hg:20<=gI d:=by unfold gI;omega
 have sZ:=dR.tree.n4;have iY:=hd.mM;obtain⟨pc,f,lk,fr,ins,aq,root,word,tk,id,k⟩:=s;simp only at h0 cg;subst h0;obtain⟨hT,Ee,hown,⟨nd,rest,hr1,hr2⟩,hno,js,oN,hk,hall,hm⟩:=hst;simp only at hown hr2 hno js oN hk hall hm;have hnd:=(dR.tree.sh.nodes _ _ hr1 nd List.mem_cons_self).1;have mO:=Ye (az:=f.az) hd (show 0<=root/\root<18446744073709551616 by omega)
 obtain⟨ps,hps⟩:∃ ps,ps=eE.ps d ⟨10,f,lk,fr,ins,aq,root,word,tk,id,k⟩:=⟨_,rfl⟩;rw[← hps]at hall;have Oh:ps=(⟨d.node id 0,⟨aO 0,⟨#[]⟩,0⟩⟩:Pt)::bN d id (fe f.az root):=hps;have hpl:ps.length=5:=by rw[Oh,List.length_cons,xo];rfl
 obtain⟨n1,n2⟩:=Nr (pg:=fe f.az root) hd js (by omega) mO.le
 rw[← Oh]at n1 n2;have qQ:k<ps.length:=by omega
 obtain⟨c,ca,cb,ce⟩:=n1 ps[k] (List.getElem_mem qQ);have ajG:ni ps[k].c:=by
  have hm:ps[k]∈ps:=List.getElem_mem qQ;generalize ps[k]=q at hm;rw[Oh]at hm;rcases List.mem_cons.1 hm with rfl|hm
  ·exact⟨by show(0:Int)<=aO 0;decide,by show aO 0<(18446744073709551616:Int);decide⟩
  ·exact o7 hd mO q hm
 have hmm:gO d L ⟨10,f,lk,fr,ins,aq,root,word,tk,id,k⟩=aN L (d.node id c) ps[k].c:=by
  show(match (eE.ps d ⟨10,f,lk,fr,ins,aq,root,word,tk,id,k⟩)[k]? with|some pt=>aN L pt.i pt.c|none=>L)=_
  rw[← hps,aqt qQ,← ce]
 obtain⟨q1,q2,q3,q4,q5⟩:=Zs hd dR js (show id<=d.no by omega) ⟨ca,cb⟩ hno ajG
 have Yf:∀ q,q∈ps.take (k+1)->ah (aN L (d.node id c) ps[k].c) q.i=q.c:=by
  intro q hq;obtain⟨i0,ox⟩:=aqp hq;rw[List.getElem?_take]at ox;split at ox
  ·by_cases e:i0=k
   ·subst e
    rw[aqt qQ]at ox;obtain rfl:=aqu ox;rw[ce];exact q4
   ·have hne:q.i≠d.node id c:=by
     rw[List.nodup_iff_pairwise_ne,List.pairwise_map,List.pairwise_iff_getElem]at n2;have Pn:=(aqq.1 ox);have:=n2 i0 k Pn.1 qQ (by omega)
     rw[Pn.2,ce]at this;exact this
    rw[bg hne];exact hall q (aqs (i:=i0) (by rw[List.getElem?_take,if_pos (by omega)];exact ox))
  ·cases ox
 constructor
 ·refine⟨by show 10<=13;decide,⟨by show(0:Int)<=f.az;omega,by show f.az<1000;omega⟩,fun h=>by simp at h,fun h=>by simp at h,fun h=>by simp at h,fun h=>by simp at h,fun h=>by simp at h,fun h=>by simp at h,fun h=>by simp at h,fun h=>by simp at h,fun h=>by simp at h,fun _=>⟨?_,by show 0<=id;omega,by show id<_;omega⟩⟩
  rw[← hps];exact qQ
 ·intro s' hn
  rw[hmm];simp only[o8]at hn;rw[← hps,hpl]at hn;have hown':vU (aN L (d.node id c) ps[k].c) word:=⟨by rw[q5 7 (by omega)];exact hown.1,hown.2⟩
  rcases hn with⟨c1,rfl⟩|⟨c1,rfl⟩
  ·refine⟨t,n,m-1,hmid _ _ ⟨by show 5<=10;decide,by show 10<=13;decide⟩ rfl q1 q3 (fun e=>by simp at e) ⟨hT,Ee,hown',⟨nd,rest,hr1,hr2⟩,hno,js,by rw[q5 4 (by omega)];exact oN,by show k+1<5;omega,?_,by show gI d<=m-1+6+(k+1);omega⟩,by omega,q2⟩
   show ∀ q,q∈(eE.ps d ⟨10,f,lk,fr,ins,aq,root,word,tk,id,k⟩).take (k+1)->_
   rw[← hps];exact Yf
  ·rw[c1,← hpl,List.take_length]at Yf
   refine⟨t,n,m-1,hmid _ _ ⟨by show 5<=11;decide,by show 11<=13;decide⟩ rfl q1 q3 (fun e=>by simp at e) ⟨hT,Ee,hown',⟨nd,rest,hr1,hr2⟩,hno,js,by rw[q5 4 (by omega)];exact oN,⟨fun q hq=>Yf q (by rw[Oh];exact List.mem_cons_of_mem _ hq),Yf ⟨d.node id 0,⟨aO 0,⟨#[]⟩,0⟩⟩ (by rw[Oh];exact List.mem_cons_self)⟩,by show gI d<=m-1+11;omega⟩,by omega,q2⟩
theorem j5.abW (hd:d.Ok)(h:j5 d P L t n s m)(h0:s.pc=11)(Tu:n<1000):q8 d P L t s m:=by
 have dR:=h.base;have hp:5<=s.pc/\s.pc<=12:=by omega
 have cg:=h.az;have hmid:=fun L1 s' => Dj (L1:=L1) (s' := s') h hp
 have hst:=h.st;have hg:20<=gI d:=by unfold gI;omega
 have sZ:=dR.tree.n4;have iY:=hd.mM;have f1:=hd.fw;obtain⟨pc,f,lk,fr,ins,aq,root,word,tk,id,k⟩:=s;simp only at h0 cg;subst h0;obtain⟨hT,Ee,hown,⟨nd,rest,hr1,hr2⟩,hno,js,oN,hnew,hm⟩:=hst;simp only at hown hr2 hno js oN hnew;obtain⟨q1,q2,q3,q4,q5⟩:=Zs (c:=⟨aH (aO 0),⟨#[]⟩,0⟩) hd dR js (show id<=d.no by omega) ⟨Int.le_refl 0,by omega⟩ hno ⟨by show(0:Int)<=aH (aO 0);decide,by show aH (aO 0)<(18446744073709551616:Int);decide⟩
 constructor
 ·exact⟨by show 11<=13;decide,⟨by show(0:Int)<=f.az;omega,by show f.az<1000;omega⟩,fun h=>by simp at h,fun h=>by simp at h,fun h=>by simp at h,fun h=>by simp at h,fun h=>by simp at h,fun h=>by simp at h,fun h=>by simp at h,fun h=>by simp at h,fun h=>by simp at h,fun h=>by simp at h⟩
 ·rintro s' rfl
  refine⟨t,n,m-1,hmid _ _ ⟨by show 5<=12;decide,by show 12<=13;decide⟩ rfl q1 q3 (fun e=>by simp at e) ⟨hT,Ee,⟨(q5 7 (by omega)).trans hown.1,hown.2⟩,⟨nd,rest,hr1,hr2⟩,hno,js,by show id<=(ah (aN L (d.node id 0) _) 4).n;rw[q5 4 (by omega)];exact oN,?_,?_,by omega⟩,by omega,q2⟩
  ·refine hnew.1.frame hd js (by omega) (by show((1:Nat):Int)<=d.fa;omega) (fun k a b=>?_)
   exact bg (dw hd js (by omega) (by omega) b (by omega) (by omega) (by omega))
  ·show ah (aN L (d.node id 0) ⟨aH (aO 0),⟨#[]⟩,0⟩) (d.node id 0)=_
   rw[q4];rfl
theorem j5.abX (hd:d.Ok)(h:j5 d P L t n s m)(h0:s.pc=12)(Tu:n<1000):q8 d P L t s m:=by
 have dR:=h.base;have cg:=h.az;have hn1:=h.n1;have hst:=h.st;have kA:=h.task (.inr (by omega))
 have hch:=h.ch;have jn:=h.ref;have hfree:=fun k l hk nd hm=>h.free k l hk nd hm (qA (by omega))
 have iM:=h.vV;have hwd:=h.wd;have hg:gI d=20+wC d 1:=rfl;have sZ:=dR.tree.n4;have iY:=hd.mM;have f1:=hd.fw;have hcl:=gB hd;obtain⟨pc,f,lk,fr,ins,aq,root,word,tk,id,k⟩:=s;simp only at h0 cg kA hch;subst h0;obtain⟨hT,Ee,hown,⟨nd,rest,hr1,hr2⟩,hno,js,oN,Zt,qh,hm⟩:=hst;simp only at hown hr2 hno js oN Zt qh;obtain⟨r,hr⟩:∃ r:Nd,r=⟨id,⟨#[]⟩,fe f.az root⟩:=⟨_,rfl⟩;have Oh:r.pg=⟨t.length,[⟨⟨#[]⟩,nd.id⟩],⟨#[]⟩,true,0⟩:=by
  rw[hr];show fe f.az root=_
  rw[cg,hr2,hT];rfl
 have mq:r.id=id:=by rw[hr]
 have hlen:=dR.eW;have xp:=dR.tree.Cx;have hNd:Tf d L r:=by
  have hh:Holds L (bN d r.id r.pg):=by rw[hr];exact Zt
  refine⟨lz hh ?_ ?_ ?_,hh,?_,?_⟩
  ·rw[Oh];show 0<=(t.length:Int)/\(t.length:Int)<1000000;omega
  ·rw[Oh];show((1:Nat):Int)<=d.fa;omega
  ·rw[Oh];exact fun _=>rfl
  ·rw[mq,qh]
  ·rw[mq,qh]
 obtain⟨q1,q2⟩:=dR.tree.grow hd hlen hr1 (r:=r) (by omega) (by omega) (by rw[mq];exact hno) (by rw[hr]) Oh hNd (by rw[mq,qh];rfl)
 rw[mq]at q1 q2;have hmm:gO d L ⟨12,f,lk,fr,ins,aq,root,word,tk,id,k⟩=aN L 0 ⟨id,⟨#[]⟩,0⟩:=rfl;have hsame:∀ j:Int,j≠0->ah (aN L 0 ⟨id,⟨#[]⟩,0⟩) j=ah L j:=fun j hj=>bg hj
 have hat:∀ (k:Nat) (x:List Nd),(t++[[r]])[k]?=some x->∀ a,a∈x->(t[k]?=some x\/(k=t.length/\a=r)):=by
  intro k x hx a ha;rcases Nat.lt_or_ge k t.length with hk|hk
  ·rw[List.getElem?_append_left hk]at hx;exact .inl hx
  ·have hk2:=(aqq.1 hx).1
   rw[List.length_append]at hk2;simp at hk2;obtain rfl:k=t.length:=by omega
   rw[List.getElem?_append_right hk,Nat.sub_self]at hx;obtain rfl:x=[r]:=by simpa using hx.symm
   exact .inr ⟨rfl,by simpa using ha⟩
 have qi:∀ c:Nd,1<=c.id->c.id<=d.no->ah (aN L 0 ⟨id,⟨#[]⟩,0⟩) (d.node c.id 0)=ah L (d.node c.id 0):=fun c a b=>hsame _ (by have:=fL hd c.id 0 a b (by omega) (by omega);omega)
 have hne:=dR.tree.sh.ne;have hT0:(t++[[r]])[t.length]?=some [r]:=by rw[List.getElem?_append_right (Nat.le_refl _),Nat.sub_self];rfl
 constructor
 ·exact⟨by show 12<=13;decide,⟨by show(0:Int)<=f.az;omega,by show f.az<1000;omega⟩,fun h=>by simp at h,fun h=>by simp at h,fun h=>by simp at h,fun h=>by simp at h,fun h=>by simp at h,fun h=>by simp at h,fun h=>by simp at h,fun h=>by simp at h,fun h=>by simp at h,fun h=>by simp at h⟩
 ·rintro s' rfl
  rw[hmm];refine⟨t++[[r]],n,m-1,⟨dR.next (dR.iR.put ⟨by show 0<=id;omega,by show id<_;omega⟩) (by rw[aY];exact hlen) q1 (fun k x hx a ha=>?_) (List.getElem?_append_left hne) (fun j a _ _ _=>hsame j a) (fun e=>by rw[Ee]at e;cases e) (fun e=>by rw[hsame 4 (by omega)];exact dR.lim.2 e),hn1,cg,fun _=>?_,hch,fun c hc=>?_,fun k' x hx a ha _=>?_,fun e=>by simp at e,fun e=>(by rw[Ee]at e;cases e),fun k' x hx a ha=>?_,⟨by rw[List.length_append,hT];rfl,?_,?_,Ee,⟨by rw[hsame 7 (by omega)];exact hown.1,hown.2⟩,by omega⟩⟩,by omega,q2⟩
  ·rcases hat k x hx a ha with h|⟨_,rfl⟩
   ·exact dR.sz k x h a ha
   ·rw[hr];exact Nat.zero_le _
  ·obtain⟨l,c,hl,hc⟩:=kA
   exact⟨l,c,by rw[List.getElem?_append_left (aqq.1 hl).1];exact hl,hc⟩
  ·have e1:ew ⟨8,f,lk,fr,ins,aq,root,word,tk,id,k⟩=ew ⟨12,f,lk,fr,ins,aq,root,word,tk,id,k⟩:=by
    rw[s5 (by show 5<=8/\8<=13;decide),s5 (by show 5<=12/\12<=13;decide)]
   have e2:qF (t++[[r]]) 1 c.id↔qF t 1 c.id:=by
    constructor
    ·rintro ⟨l,a,x,hl,ha,hx,Jv⟩
     rcases hat 1 l hl a ha with h|⟨h,rfl⟩
     ·exact⟨l,a,x,h,ha,hx,Jv⟩
     ·exfalso
      rw[Oh]at hx;obtain rfl:x=⟨⟨#[]⟩,nd.id⟩:=by simpa using hx
      simp only at Jv;have Em:=dR.r0;have h1:=hr1;rw[show t.length-1=0 by omega,Em]at h1
      have h1:=aqu h1;rw[h1]at hc Em;obtain⟨j,hj⟩:=aqp hc;rw[List.getElem?_drop]at hj;have:=(dR.tree.sh.inj 0 0 _ _ 0 (1+j) nd c Em Em rfl hj Jv).2;omega
    ·rintro ⟨l,a,x,hl,ha,hx,Jv⟩
     exact⟨l,a,x,by rw[List.getElem?_append_left (aqq.1 hl).1];exact hl,ha,hx,Jv⟩
   rw[e2];show qF t 1 c.id↔P.R c.id\/(ew ⟨8,f,lk,fr,ins,aq,root,word,tk,id,k⟩=true/\c.id=P.Zl)
   rw[e1];exact jn c hc
  ·rcases hat k' x hx a ha with h|⟨_,rfl⟩
   ·have hb:=(dR.tree.sh.nodes k' x h a ha).1
    rw[qi a hb.1 (by omega)]
    exact hfree k' x h a ha
   ·rw[qi a (by omega) (by omega),mq,qh];rfl
  ·rcases hat k' x hx a ha with h|⟨_,rfl⟩
   ·have hb:=(dR.tree.sh.nodes k' x h a ha).1
    rw[qi a hb.1 (by omega)]
    have:=hwd k' x h a ha;omega
   ·rw[qi a (by omega) (by omega),mq,qh]
    have h1:=hwd _ _ hr1 nd List.mem_cons_self;have h2:=(dR.iR (d.node nd.id 0)).1;show(0:Int)+4*((m-1:Nat):Int)<=_
    omega
  ·show((t++[[r]])[n]?.map small).getD false=true
   rw[← hT,hT0];show small [r]=true
   show decide (r.pg.sl.length<=3)=true
   rw[Oh];rfl
  ·show pE (t++[[r]]) n=1
   rw[jm,← hT,List.drop_append_of_le_length (Nat.le_refl _),List.drop_length];rfl
theorem j5.aeW (hd:d.Ok)(h:j5 d P L t n s m)(h0:s.pc=8\/s.pc=13)(Tu:n<1000):q8 d P L t s m:=by
 have dR:=h.base;have cg:=h.az;have hn1:=h.n1;have hst:=h.st;have hch:=h.ch;have jn:=h.ref;have hfree:=fun k l hk nd hm=>h.free k l hk nd hm (qA (by omega))
 have iM:=h.vV;have hwd:=h.wd;have kA:=fun e=>h.task (.inr e)
 have sZ:=dR.tree.n4;obtain⟨pc,f,lk,fr,ins,aq,root,word,tk,id,k⟩:=s;simp only at h0 cg kA hch;have hl7:∀ {w:Int},vU L w->ze d P (aN L 7 ⟨aH w,⟨#[]⟩,0⟩) t/\vT d L t (aN L 7 ⟨aH w,⟨#[]⟩,0⟩) t/\(∀ (k:Nat) (l:List Nd),t[k]?=some l->∀ nd,nd∈l->ah (aN L 7 ⟨aH w,⟨#[]⟩,0⟩) (d.node nd.id 0)=ah L (d.node nd.id 0))/\(ah (aN L 7 ⟨aH w,⟨#[]⟩,0⟩) 7).n%4=0/\(ah (aN L 7 ⟨aH w,⟨#[]⟩,0⟩) 4).n=(ah L 4).n:=by
  rintro w ⟨h1,h2,h3,h4⟩;have hun:aH w=w-1:=by unfold aH;omega
  obtain⟨q1,q2,q3,q4⟩:=Tx hd dR (j:=7) (c:=⟨aH w,⟨#[]⟩,0⟩) (.inl rfl) ⟨by show 0<=aH w;omega,by show aH w<_;omega⟩
  exact⟨q1,q2,q3,by rw[q4];show aH w%4=0;omega,by rw[bg (by omega)]⟩
 rcases h0 with rfl|rfl
 ·obtain⟨hT,hsm,hup,Ee,hown,hm⟩:=hst
  simp only at hown;obtain⟨q1,q2,q3,q4,q5⟩:=hl7 hown;constructor
  ·exact⟨by show 8<=13;decide,⟨by show(0:Int)<=f.az;omega,by show f.az<1000;omega⟩,fun h=>by simp at h,fun h=>by simp at h,fun h=>by simp at h,fun h=>by simp at h,fun h=>by simp at h,fun h=>by simp at h,fun h=>by simp at h,fun _=>hown.2.2,fun h=>by simp at h,fun h=>by simp at h⟩
  ·rintro s' rfl
   have hmm:gO d L ⟨8,f,lk,fr,ins,aq,root,word,tk,id,k⟩=aN L 7 ⟨aH word,⟨#[]⟩,0⟩:=rfl;rw[hmm];obtain⟨l,hl⟩:∃ l,t[n]?=some l:=⟨_,aqt (by omega)⟩
   have hne:=(dR.tree.sh.rows _ l hl).ne;refine⟨t,n,m-1,⟨q1,hn1,cg,fun _=>kA (by decide),hch,fun c hc=>?_,fun k' l' hk' c hc _=>?_,fun _=>q4,iM,fun k' l' hk' c hc=>?_,⟨fun _=>?_,fun l1 oy=>?_,by show(0:Nat)≠4;decide,.inl ⟨by omega,_,Ic.begin ⟨l,l[0],hl,List.getElem_mem hne⟩ (Nat.le_refl _),?_⟩⟩⟩,by omega,q2⟩
   ·have e1:ew ⟨0,f,oU,fr,ins,aq,root,word,tk,id,k⟩=ew ⟨8,f,lk,fr,ins,aq,root,word,tk,id,k⟩:=by simp[ew]
    rw[e1];exact jn c hc
   ·rw[q3 k' l' hk' c hc];exact hfree k' l' hk' c hc
   ·rw[q3 k' l' hk' c hc]
    have:=hwd k' l' hk' c hc;omega
   ·rw[q5]
    unfold cL;rw[if_pos hsm];simpa using dR.lim.2 Ee
   ·rw[show t.length-1=n by omega]at oy
    rw[if_pos (by omega)]
    rw[oy]at hsm;have hb2:=dR.b2;have:l1.length=1:=by
     have hsm:small l1=true:=hsm;unfold small at hsm;split at hsm
     ·rfl
     ·cases hsm
    omega
   ·rw[if_pos hsm,hup]
    unfold wC at hm;omega
 ·obtain⟨uZ,hown,hm⟩:=hst
  simp only at hown;obtain⟨q1,q2,q3,q4,q5⟩:=hl7 hown;constructor
  ·exact⟨by show 13<=13;decide,⟨by show(0:Int)<=f.az;omega,by show f.az<1000;omega⟩,fun h=>by simp at h,fun h=>by simp at h,fun h=>by simp at h,fun h=>by simp at h,fun h=>by simp at h,fun h=>by simp at h,fun h=>by simp at h,fun _=>hown.2.2,fun h=>by simp at h,fun h=>by simp at h⟩
  ·rintro s' rfl
   have hmm:gO d L ⟨13,f,lk,fr,ins,aq,root,word,tk,id,k⟩=aN L 7 ⟨aH word,⟨#[]⟩,0⟩:=rfl;rw[hmm];refine⟨t,n,m-1,⟨q1,hn1,cg,fun hp=>by simp at hp,hch,fun c hc=>?_,fun k' l' hk' c hc _=>?_,fun _=>q4,iM,fun k' l' hk' c hc=>?_,fun e=>?_⟩,by omega,q2⟩
   ·have e1:ew ⟨14,j4.end f false,lk,fr,ins,aq,root,word,tk,id,k⟩=ew ⟨13,f,lk,fr,ins,aq,root,word,tk,id,k⟩:=by
     simp[ew,j4.end];rfl
    show qF t 1 c.id↔P.R c.id\/(ew ⟨14,j4.end f false,lk,fr,ins,aq,root,word,tk,id,k⟩=true/\c.id=P.Zl)
    rw[e1];exact jn c hc
   ·rw[q3 k' l' hk' c hc];exact hfree k' l' hk' c hc
   ·rw[q3 k' l' hk' c hc]
    have:=hwd k' l' hk' c hc;omega
   ·rw[uZ]at e;cases e
theorem j5.step (hd:d.Ok)(sG:d.no<=900)(h:j5 d P L t n s m)(h0:s.pc<14):q8 d P L t s m:=by
 have hb:=h.base;have xp:=hb.tree.Cx;have Tu:n<999:=by
  by_cases h1:s.pc<=1\/(5<=s.pc/\s.pc<=12)
  ·have:=h.nt h1;omega
  ·by_cases dS:s.pc=13
   ·have hst:=h.st
    have h2:=h.vV;obtain⟨pc,f,lk,fr,ins,aq,root,word,tk,id,k⟩:=s;simp only at dS;subst dS;have:=h2 hst.1;omega
   ·have:∃ l,t[n]?=some l:=by
     have hst:=h.st;obtain⟨pc,f,lk,fr,ins,aq,root,word,tk,id,k⟩:=s;simp only at h1 dS h0;rcases(by omega:pc=2\/pc=3\/pc=4)with rfl|rfl|rfl
     ·obtain⟨⟨_,l,_,hl,_⟩,_⟩:=hst
      exact⟨l,hl⟩
     ·obtain⟨⟨l,_,hl,_⟩,_⟩:=hst
      exact⟨l,hl⟩
     ·obtain⟨⟨_,l,_,hl,_⟩,_⟩:=hst
      exact⟨l,hl⟩
    obtain⟨l,hl⟩:=this;have:=(aqq.1 hl).1;omega
 rcases(by omega:s.pc=0\/s.pc=1\/s.pc=2\/s.pc=3\/s.pc=4\/s.pc=5\/(s.pc=6\/s.pc=7)\/(s.pc=8\/s.pc=13)\/s.pc=9\/s.pc=10\/s.pc=11\/s.pc=12)with e|e|e|e|e|e|e|e|e|e|e|e
 ·exact h.step0 hd sG e
 ·exact h.aeI hd sG e
 ·exact h.aeT hd sG e (by omega)
 ·exact h.aeP hd sG e Tu
 ·exact h.aeO hd sG e (by omega)
 ·exact h.aeU hd e (by omega)
 ·exact h.abU hd e (by omega)
 ·exact h.aeW hd e (by omega)
 ·exact h.aeV hd e (by omega)
 ·exact h.abV hd e (by omega)
 ·exact h.abW hd e (by omega)
 ·exact h.abX hd e (by omega)
end
end Go.Proofs.YtlpdhhhgckpcfaaGreat
