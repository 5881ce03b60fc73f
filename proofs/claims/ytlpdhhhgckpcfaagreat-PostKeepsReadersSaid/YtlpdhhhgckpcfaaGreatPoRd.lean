/- Post in a tree (pure): how it abF,. -/
import Derived.Test.YtlpdhhhgckpcfaaGreatSound
import Derived.Lib.MinMax
namespace Go.Proofs.YtlpdhhhgckpcfaaGreat
set_option linter.unusedSimpArgs false
set_option linter.unusedVariables false
open Go.RowKit
set_option maxHeartbeats 16000000
set_option maxRecDepth 100000
section
section
variable {d:aU}{L L':List aQ}{t t':List (List Nd)}
theorem xZ (e:d.fa<=6)(N:Nat):wC d N<=11*N+51:=by
 have c:bj d<=11:=by unfold bj;omega
 have h:=Nat.mul_le_mul_left N c;unfold wC kW wI;omega
theorem aba (c:d.fa<=6)(B:Nat):gC d B<=11*B+97:=by
 have e:bj d<=11:=by unfold bj;omega
 have h:=Nat.mul_le_mul_left B e;have j:=xZ c 1;unfold gC kW gI;omega
theorem Pr {N:Int}(O:mA N t){k:Nat}{l l':List Nd}(hk:t[k]?=some l)(o:t[k+1]?=some l')(hl:l.length<=2){nd:Nd}(Q:nd∈l'):nd.pg.sl.length<=3:=by
 rcases Nat.lt_or_ge 3 nd.pg.sl.length with h|h
 ·exfalso
  have E:=(O.nodes _ l' o nd Q).2.jP;have G:=(O.down k l l' hk o nd Q).2;have key:∀j,j<nd.pg.sl.length->∃(x:Sl) (p:Nat) (c:Nd),nd.pg.sl[j]?=some x/\l[p]?=some c/\p<2/\c.low=x.k:=fun j V=>by
   have R:nd.pg.sl[j]?=some nd.pg.sl[j]:=asx V;obtain⟨c,hc,_,e⟩:=G _ (asw R);obtain⟨p,hp⟩:=ast hc;have:=(asu.1 hp).1;exact⟨_,p,c,R,hp,by omega,e⟩
  obtain⟨x0,p0,c0,u,S,h0,T⟩:=key 0 (by omega)
  obtain⟨x1,p1,c1,v,z,h1,D⟩:=key 1 (by omega)
  obtain⟨x2,p2,c2,A,B,h2,e2⟩:=key 2 (by omega)
  have H:=kg E u v (by omega)
  have I:=kg E u A (by omega)
  have M:=kg E v A (by omega)
  have ne:∀(p q:Nat) (a b:Nd) (x y:Sl),l[p]?=some a->l[q]?=some b->a.low=x.k->b.low=y.k->cA x.k y.k=true->p≠q:=by
   intro p q a b x y W U D e2 C e;subst e;rw[W]at U;obtain rfl:=asy U;rw[←D,←e2,cS]at C;cases C
  have X:=ne _ _ _ _ _ _ S z T D H;have Y:=ne _ _ _ _ _ _ S B T e2 I;have Z:=ne _ _ _ _ _ _ z B D e2 M;omega
 ·exact h
theorem vJ {k:Nat}{l:List Nd}(hk:t[k]?=some l):oA t k=l.length+oA t (k+1):=by
 rw[jz,jz,drop_cons hk,List.map_cons,List.sum_cons]
theorem abb {N:Int}(o:d.fa<=6)(q:mA N t)(v:∀(k:Nat)(l l':List Nd),t[k]?=some l->t[k+1]?=some l' -> 2*l'.length<=l.length+1)(B:Nat):∀(j k:Nat)(l:List Nd),t[k]?=some l->l.length<=2 ^ (j+1)->cU d B (t.drop (k+1))<=(j+1)*(11*oA t (k+1)+51)+(11*B+97)
 | j,k,l,hk,hl=>by
  have z:=(asu.1 hk).1;rcases Nat.lt_or_ge (k+1) t.length with h|h
  ·obtain⟨l',c⟩:∃l',t[k+1]?=some l' := ⟨_,asx h⟩
   have A:=v k l l' hk c;have x:=(q.rows _ l' c).ne;have hw:=xZ o (oA t (k+1));rw[Lt d B c];cases j with
   | zero=>
    have y:l'.length=1:=by simp at hl;omega
    have u:small l'=true:=by
     match l',y with
     | [nd],_=>exact decide_eq_true (Pr q hk c (by simpa using hl) List.mem_cons_self)
    rw[if_pos u];omega
   | succ j=>
    have ih:=abb o q v B j (k+1) l' c (by rw[Nat.pow_succ]at hl;omega)
    have hu:=vJ c;have hm:(j+1)*(11*oA t (k+1+1)+51)<=(j+1)*(11*oA t (k+1)+51):=Nat.mul_le_mul_left _ (by omega)
    have e:(j+1+1)*(11*oA t (k+1)+51)=(j+1)*(11*oA t (k+1)+51)+(11*oA t (k+1)+51):=Nat.succ_mul _ _;rw[e];split
    ·omega
    ·omega
  ·rw[List.drop_of_length_le h]
   have:=aba o B;show gC d B<=_
   omega
theorem oV.shp {ks:List ByteArray}{ee:Bool}(h:oV d ks ee L t):mA (ah L 4).n t:=h.ok.m.sh
theorem oV.cost {ks:List ByteArray}{ee:Bool}(h:oV d ks ee L t)(c:d.fa<=6)(hk:ks.length<=36):cU d 2 (t.drop 1)<=4940:=by
 obtain⟨l0,h0⟩:∃l0,t[0]?=some l0:=⟨_,asx h.ok.ne⟩;have y:l0.length<=36:=by rcases h.Zt l0 h0 with h|h <;> omega
 have hu:=vJ h0;have hc:=h.ae9;have e:oA t 0=(t.map List.length).sum:=by rw[jz,List.drop_zero]
 have o:=(h.shp.rows _ l0 h0).ne;have q:=fun j u=>abb c h.shp h.half 2 j 0 l0 h0 u
 rcases Nat.lt_or_ge 32 l0.length with v|v
 ·have:=q 5 (by omega)
  simp only[Nat.zero_add]at this hu;omega
 ·rcases Nat.lt_or_ge 16 l0.length with x|x
  ·have:=q 4 (by omega)
   simp only[Nat.zero_add]at this hu;omega
  ·have:=q 3 (by omega)
   simp only[Nat.zero_add]at this hu;omega
def Wx (d:aU)(L:List aQ)(t:List (List Nd))(l0:List Nd)(ch:Int)(B:Nat)(room:Bool)(lim:Int):zR:=⟨L,l0,fun id=>mD t 1 id,ch,B,room,t.length,lim⟩
structure Lz (d:aU)(L:List aQ)(t:List (List Nd))(l0:List Nd)(B:Nat)(room:Bool)(lim:Int)(m:Nat):Prop where
 ok:cT d L t
 iq:bL L
 fq:(L.length:Int)=d.cells
 sz:SzT t
 r0:t[0]?=some l0
 b2:2<=B
 Wy:room=true->(ah L 4).n+(t.length:Int)<=lim/\lim<=d.no
 abc:room=false->d.no<=(ah L 4).n/\lim<=d.no
 c7:(ah L 7).n%4=0
 wd:∀(k:Nat) (l:List Nd),t[k]?=some l->∀nd,nd∈l->(ah L (d.node nd.id 0)).n+4*m<=9223372036854775808
 top:zC (Wx d L t l0 0 B room lim) t (if 1<t.length then 1 else 0)
 cost:(1<t.length->cU d B (t.drop 1)<=m)/\(t.length=1->oA t 0*bj d+1+kW d+gI d<=m)
theorem Lz.start {l0:List Nd}{B:Nat}{room:Bool}{lim:Int}{m:Nat}(h:Lz d L t l0 B room lim m){c:Nd}(hc:c∈l0):iX d (Wx d L t l0 c.id B room lim) L t 1 (Ll ⟨1,c.low,c.id,false⟩) m:=by
 have u:=h.ok.ne;have v:=(h.ok.m.sh.rows _ l0 h.r0).ne;have x:cL t 1<=t.length:=by unfold cL;split <;> omega
 refine⟨⟨h.iq,h.fq,h.ok.m,h.sz,h.r0,fun j _ _ _ _=>rfl,h.b2,fun e=>⟨(h.abc e).1,rfl⟩,?_,fun e=>?_⟩,Nat.le_refl _,rfl,fun _=>⟨l0,c,h.r0,hc,rfl,rfl⟩,fun _=>rfl,fun c' _=>?_,fun k l hk nd y _=>?_,fun _=>h.c7,fun _=>rfl,h.wd,?_⟩
 ·show lim<=d.no
  cases room with
  | true=>exact(h.Wy rfl).2
  | false=>exact(h.abc rfl).2
 ·have:=(h.Wy e).1
  show(ah L 4).n<=lim
  omega
 ·show mD t 1 c'.id↔mD t 1 c'.id\/(eC (Ll ⟨1,c.low,c.id,false⟩)=true/\_)
  have e:eC (Ll ⟨1,c.low,c.id,false⟩)=false:=rfl;rw[e];simp
 ·exact(h.ok.nodes k l hk nd y).free.n
 ·show Room d _ L (cL t 1)/\zC _ t (if 1<t.length then 1 else 0)/\(0:Nat)≠4/\_
  refine⟨fun e=>?_,h.top,by decide,?_⟩
  ·have:=(h.Wy e).1
   show(ah L 4).n+(cL t 1:Nat)<=lim
   omega
  ·rcases Nat.lt_or_ge 1 t.length with o|o
   ·left
    refine⟨o,oA t 1*bj d+1+kW d,vD.begin ?_ (Nat.le_refl _),?_⟩
    ·obtain⟨l1,q⟩:∃l1,t[1]?=some l1:=⟨_,asx o⟩
     obtain⟨a,z⟩:=List.exists_mem_of_ne_nil l1 (fun e=>by have:=(h.ok.m.sh.rows _ l1 q).ne;rw[e]at this;exact absurd this (by decide))
     exact⟨l1,a,q,z⟩
    ·obtain⟨l1,q⟩:∃l1,t[1]?=some l1:=⟨_,asx o⟩
     have:=h.cost.1 o;rw[Lt d B q]at this;show _+wI d+(if (t[1]?.map small).getD false then 0 else cU d B (t.drop 2))<=m
     rw[q];show _+wI d+(if small l1=true then 0 else cU d B (t.drop 2))<=m
     unfold wC at this;omega
   ·right
    refine⟨by show t.length=1;omega,oA t 0*bj d+1+kW d,vD.begin ⟨l0,c,h.r0,hc⟩ (Nat.le_refl _),h.cost.2 (by omega)⟩
theorem jA (id:Int):mD t 1 id↔id∈refsOf (t[1]?.getD []):=by
 unfold mD refsOf;constructor
 ·rintro ⟨l,nd,s,hl,c,e,rfl⟩
  rw[hl];exact List.mem_map.2 ⟨s,List.mem_flatMap.2 ⟨nd,c,e⟩,rfl⟩
 ·intro h
  obtain⟨s,e,rfl⟩:=List.mem_map.1 h;obtain⟨nd,c,e⟩:=List.mem_flatMap.1 e;cases hl:t[1]? with
  | none=>rw[hl]at c;simp at c
  | some l=>
   rw[hl]at c;exact⟨l,nd,s,rfl,c,e,rfl⟩
theorem Xa {l l1 j:List Nd}{c:Nd}(o:(l.map (·.id)).Nodup)(hc:c∈l)(C:¬ c.id∈refsOf l1)(h:∀a,a∈l->(a.id∈refsOf j ↔ a.id∈refsOf l1\/a.id=c.id)) :
  (l.filter fun a => !decide (a.id∈refsOf j)).length+1=(l.filter fun a => !decide (a.id∈refsOf l1)).length:=by
 induction l with
 | nil=>cases hc
 | cons a l ih=>
  rw[List.map_cons,List.nodup_cons]at o;have B:=h a List.mem_cons_self;rcases List.mem_cons.1 hc with e|u
  ·subst e
   have q:(l.filter fun a => !decide (a.id∈refsOf j))=l.filter fun a => !decide (a.id∈refsOf l1):=by
    refine List.filter_congr (fun b v=>?_)
    have y:b.id≠c.id:=fun e=>o.1 (by rw[←e];exact List.mem_map_of_mem v)
    have:=h b (List.mem_cons_of_mem _ v);have x:b.id∈refsOf j ↔ b.id∈refsOf l1:=by
     rw[this];exact⟨fun h=>h.resolve_right y,.inl⟩
    rw[decide_eq_decide.2 x]
   rw[List.filter_cons,List.filter_cons,if_neg (by simp[B.2 (.inr rfl)]),if_pos (by simp[C]),List.length_cons,q]
  ·have z:a.id≠c.id:=fun e=>o.1 (by rw[e];exact List.mem_map_of_mem u)
   have A := ih o.2 u (fun b v=>h b (List.mem_cons_of_mem _ v))
   have x:a.id∈refsOf j ↔ a.id∈refsOf l1:=by
    rw[B];exact⟨fun h=>h.resolve_right z,.inl⟩
   rw[List.filter_cons,List.filter_cons];by_cases hm:a.id∈refsOf l1
   ·rw[if_neg (by simp[x.2 hm]),if_neg (by simp[hm])]
    exact A
   ·rw[if_pos (by simp[mt x.1 hm]),if_pos (by simp[hm]),List.length_cons,List.length_cons]
    omega
theorem aau {l l1 c:List Nd}(h:∀a,a∈l->(a.id∈refsOf c ↔ a.id∈refsOf l1)):(l.filter fun a => !decide (a.id∈refsOf c))=l.filter fun a => !decide (a.id∈refsOf l1):=
 List.filter_congr (fun b e=>by rw[decide_eq_decide.2 (h b e)])
theorem mA.ids {N:Int}(c:mA N t){k:Nat}{l:List Nd}(hk:t[k]?=some l):(l.map (·.id)).Nodup:=by
 rw[List.nodup_iff_pairwise_ne,List.pairwise_map,List.pairwise_iff_getElem];intro i j hi h o e;have:=(c.inj k k l l i j _ _ hk hk (asx hi) (asx h) e).2;omega
structure abe (d:aU)(P:zR)(t0:List (List Nd))(L:List aQ)(t:List (List Nd))(s:dS):Prop where
 base:zS d P L t
 ok:cT d L t
 c7:(ah L 7).n%4=0
 tk:∀c,c∈P.l0.drop 1->c.id=P.ch0->¬ mD t0 1 c.id->(fw P.l0 (t[1]?.getD [])).length+(if s.f.po then 1 else 0)=(fw P.l0 (t0[1]?.getD [])).length
 ent:s.f.po=true->∀c,c∈P.l0.drop 1->c.id=P.ch0->mD t 1 c.id
 full:P.room=true->s.f.po=true
theorem iX.fin {l0:List Nd}{ch:Int}{B:Nat}{room:Bool}{lim:Int}{L0:List aQ}{t0:List (List Nd)}{n m:Nat}{s:dS}(h:iX d (Wx d L0 t0 l0 ch B room lim) L t n s m)(h0:s.pc=14):abe d (Wx d L0 t0 l0 ch B room lim) t0 L t s:=by
 have j:room=true->s.f.po=true:=by
  have v:=h.st;obtain⟨pc,f,lk,fr,ins,aq,root,word,tk,id,k⟩:=s;simp only at h0;subst h0;exact v
 have o:eC s=s.f.po:=by
  have x:=h.aA;have D:=h.vE;obtain⟨pc,f,lk,fr,ins,aq,root,word,tk,id,k⟩:=s;simp only at h0 x j ⊢;subst h0;cases C:room with
  | true=>simp[eC,j C]
  | false=>
   have:n=1:=D C;rw[this]at x;simp[eC,x]
 refine⟨h.base,h.base.tree.ok (fun k l hk nd E=>h.free k l hk nd E (fun e=>?_)),h.c7 (.inl (by omega)),fun c hc hid y=>?_,fun u c hc hid=>?_,j⟩
 ·obtain⟨pc,f,lk,fr,ins,aq,root,word,tk,id,k⟩:=s
  simp only at h0;subst h0;exact e
 ·have q:((l0.drop 1).map (·.id)).Nodup:=by
   have:=h.base.tree.sh.ids h.base.r0;exact this.sublist ((List.drop_sublist 1 l0).map _)
  have z:=h.ref;rw[o]at z;cases u:s.f.po with
  | true=>
   refine Xa (c:=c) q hc (by rw[←jA];exact y) (fun a A=>?_)
   rw[←jA,←jA];have this:mD t 1 a.id↔mD t0 1 a.id\/(s.f.po=true/\a.id=ch):=z a A;rw[u,←(show c.id=ch from hid)]at this
   simpa using this
  | false=>
   show(List.filter _ _).length+0=_
   rw[Nat.add_zero];refine congrArg List.length (aau (fun a A=>?_))
   rw[←jA,←jA];have this:mD t 1 a.id↔mD t0 1 a.id\/(s.f.po=true/\a.id=ch):=z a A;rw[u]at this;simpa using this
 ·have:=(h.ref c hc).2 (.inr ⟨by rw[o];exact u,hid⟩)
  exact this
end
section
variable {d:aU}{L L':List aQ}{t t':List (List Nd)}{ks:List ByteArray}{l0:List Nd}
theorem adp (h:d.Ok)(hlen:(L.length:Int)=d.cells)(y:cT d L t)(B:∀j:Int,nT d j->j≠7->ah L j=aQ.zero)(E:(ah L 7).n%4=0)(C:(ah L 5).n=ks.length)(o:∀l,t[0]?=some l->l.flatMap (fun nd=>nd.pg.sl)=cN 0 ks)(q:(ks.length:Int)<=d.ch):Wn d L t:=by
 have O:=h.eN;have hB:=h.jZ;have hC:=h.oD;have G:=h.eF;have z:∀j:Int,1<=j->j<d.A->j≠4->j≠5->j≠7->ah L j=aQ.zero:=fun j a b c e f=>B j (.inl ⟨a,b,c,e⟩) f
 have r1:=h.re1;refine⟨y,⟨?_,?_,y.n4,by rw[C];exact q,?_,E,fun i a b=> .inl ?_⟩,fun l' u =>?_⟩
 ·rw[z 1 (by omega) (by omega) (by omega) (by omega) (by omega),z 2 (by omega) (by omega) (by omega) (by omega) (by omega)]
 ·rw[z 3 (by omega) (by omega) (by omega) (by omega) (by omega),z 2 (by omega) (by omega) (by omega) (by omega) (by omega)];exact Int.le_refl _
 ·rw[z 6 (by omega) (by omega) (by omega) (by omega) (by omega)];show(0:Int)<=d.re;omega
 ·rw[z i (by omega) b (by omega) (by omega) (by omega)];rfl
 ·rw[o l' u,vI]
  refine⟨fun r H=>?_,?_⟩
  ·obtain⟨j,D,rfl⟩:=List.mem_map.1 H
   have D:=List.mem_range.1 D;have I:=Bi h (c:=((0+j+1:Nat):Int)) (by omega) (by omega)
   refine⟨by omega,by omega,by rw[C];omega,[],?_,by show(0:Int)<=d.re;omega,fun i v M=>by simp at M⟩
   show(ah _ _).n=0
   rw[B _ (.inr (by omega)) (by omega)]
   rfl
  ·rw[List.nodup_iff_pairwise_ne,List.pairwise_map]
   refine List.Pairwise.imp (fun {a b} x=>?_) (List.nodup_iff_pairwise_ne.1 List.nodup_range)
   intro e;exact x (by omega)
structure Re (d:aU)(ks:List ByteArray)(l0:List Nd)(L:List aQ)(t:List (List Nd)):Prop where
 ok:cT d L t
 iq:bL L
 fq:(L.length:Int)=d.cells
 sz:SzT t
 r0:t[0]?=some l0
 zero:∀j:Int,nT d j->j≠7->ah L j=aQ.zero
 c7:(ah L 7).n%4=0
 n5:(ah L 5).n=ks.length
 leaves:l0.flatMap (fun nd=>nd.pg.sl)=cN 0 ks
theorem Re.snd (e:d.Ok)(h:Re d ks l0 L t)(c:(ks.length:Int)<=d.ch):Wn d L t:=
 adp e h.fq h.ok h.zero h.c7 h.n5 (fun l hl=>by rw[h.r0]at hl;obtain rfl:=asy hl;exact h.leaves) c
theorem Re.next {ch:Int}{B:Nat}{room:Bool}{lim:Int}{t0:List (List Nd)}{s:dS}(o:d.Ok)(h:Re d ks l0 L t0)(he:abe d (Wx d L t0 l0 ch B room lim) t0 L' t s):Re d ks l0 L' t:=by
 have v:=o.eN;have hB:=o.jZ;have c:=he.base;have q:∀j:Int,j≠0->j≠4->j≠7->(j<d.A\/d.B<=j)->ah L' j=ah L j:=c.rest;refine⟨he.ok,c.iq,c.fq,c.sz,c.r0,fun j e u=>?_,he.c7,?_,h.leaves⟩
 ·rw[q j (by rcases e with h|h <;> omega) (by rcases e with h|h <;> omega) u (by rcases e with h|h <;> omega)]
  exact h.zero j e u
 ·rw[q 5 (by omega) (by omega) (by omega) (by omega)]
  exact h.n5
theorem cT.bare (c:d.Ok)(hlen:(L.length:Int)=d.cells)(A:cT d L t){l0:List Nd}{nd:Nd}{r:List Nd}(h0:t[0]?=some l0)(u:l0=nd::r)(B:nd.id=1):cT d (aR L 0 ⟨1,⟨#[]⟩,0⟩) [l0]:=by
 have D:=c.eN;have hB:=c.jZ;have C:=c.eF;have hC:=c.oD;have o:∀(k:Nat) (l:List Nd),[l0][k]?=some l->k=0/\l=l0:=fun k l hk=>by
  cases k with
  | zero=>exact⟨rfl,(asy hk).symm⟩
  | succ k=>simp at hk
 obtain⟨a,b,x,e,f,g,i,j⟩:=A;refine⟨Nat.one_pos,fun k l hk=>?_,fun k l hk nd h=>?_,⟨nd,r,by simp[u],?_⟩,fun k l l' hk v =>?_,?_,?_,fun k l hk nd h=>?_⟩
 ·obtain⟨rfl,rfl⟩:=o k l hk
  exact b 0 _ h0
 ·obtain⟨rfl,rfl⟩:=o k l hk
  exact(x 0 _ h0 nd h).frame c (fun q y z=>bu (by have:=iw c nd.id q (x 0 _ h0 nd h).id.1 (x 0 _ h0 nd h).id.2 y z;omega))
 ·rw[cD (by omega) (by omega),B]
 ·have:=(o _ _ v).1;omega
 ·rw[bu (by omega)]
  have:=List.dg h0;simp;omega
 ·rw[bu (by omega)];exact i
 ·obtain⟨rfl,rfl⟩:=o k l hk
  rw[bu (by omega)];exact j 0 _ h0 nd h
structure PoF (d:aU)(ks:List ByteArray)(l0:List Nd)(bare:Bool)(L:List aQ)(t:List (List Nd)):Prop where
 g:Re d ks l0 L t
 Zu:(ah L 4).n<=100
 wM:t.length<=100
 wd:∀(k:Nat) (l:List Nd),t[k]?=some l->∀nd,nd∈l->(ah L (d.node nd.id 0)).n=0
 beg:∃B,2<=B/\zC (Wx d L t l0 0 B true 0) t (if 1<t.length then 1 else 0)/\(1<t.length->cU d B (t.drop 1)<=4940)/\(t.length=1->oA t 0*bj d+1+kW d+gI d<=4940)
 amO:bare=true->t.length=1
 Ma:Occ t
 Um:2<=t.length->∀l,t[t.length-1]?=some l->l.length=1
 Zt:l0.length<=36
theorem oV.Xb (c:d.Ok)(A:d.fa<=6)(h:oV d ks true L t)(hk:ks.length<=36)(bare:Bool):∃l0 t',PoF d ks l0 bare (if bare then aR L 0 ⟨1,⟨#[]⟩,0⟩else L) t' := by
 obtain⟨l0,h0⟩:∃l0,t[0]?=some l0:=⟨_,asx h.ok.ne⟩;have v:l0.length<=36:=by rcases h.Zt l0 h0 with h|h <;> omega
 have T:=c.eN;have hB:=c.jZ;have hC:=c.oD;have D:=c.eF;have E:=h.fq;have G:bj d<=11:=by unfold bj;omega
 have H:=xZ A 1;have x:=(h.shp.rows _ l0 h0).ne;have o:nT d 7:= .inl ⟨by omega,by omega,by omega,by omega⟩
 have I:t.length<=100:=by
  have y:=qK t (fun l hl=>by
   obtain⟨k,hk⟩:=ast hl;exact(h.shp.rows k l hk).ne)
  have:=h.ae9;omega
 have B:∀t2:List (List Nd),oA t2 0<=36->oA t2 0*bj d+1+kW d+gI d<=4940:=fun t2 M=>by
  have:=Nat.mul_le_mul M G;unfold kW gI;omega
 cases bare with
 | false=>
  refine⟨l0,t,⟨h.ok,h.iq,h.fq,h.low,h0,fun j u _=>h.zero j u,by show(ah L 7).n%4=0;rw[h.zero 7 o];rfl,h.n5,h.leaves l0 h0⟩,h.Zu,I,fun k l hk nd O=>?_,⟨2,Nat.le_refl _,fun l hl=>?_,fun _=>h.cost A hk,fun y=>B t ?_⟩,fun e=>(by cases e),⟨h.two,h.one⟩,fun _=>h.Um,v⟩
  ·have hid:=(h.ok.nodes k l hk nd O).id
   show(ah L _).n=0
   rw[h.lat nd.id hid.1 hid.2];rfl
  ·have:=h.Um l hl
   show l.length+(if 1<t.length then 1 else 0)<=2
   split <;> omega
  ·have:=vJ h0
   rw[jz t (0+1),List.drop_of_length_le (by omega)]at this
   simp at this;omega
 | true=>
  obtain⟨nd,r,q⟩:∃nd r,l0=nd::r:=by
   cases l0 with
   | nil=>simp at x
   | cons a r=>exact⟨a,r,rfl⟩
  have Q:=h.id1 l0 h0 nd (by rw[q];rfl)
  have R:=h.ok.bare c h.fq h0 q Q;have C:∀(k:Nat) (l:List Nd),[l0][k]?=some l->k=0/\l=l0:=fun k l hk=>by
   cases k with
   | zero=>exact⟨rfl,(asy hk).symm⟩
   | succ k=>simp at hk
  have hu:oA [l0] 0=l0.length:=by simp[jz]
  have z:bL (aR L 0 ⟨1,⟨#[]⟩,0⟩):=h.iq.put ⟨by decide,by decide⟩
  refine⟨l0,[l0],⟨R,z,by show((aR L 0 _).length:Int)=_;rw[bg];exact h.fq,fun k l hk=>?_,rfl,fun j u _=>?_,?_,?_,h.leaves l0 h0⟩,?_,by show 1<=100;omega,fun k l hk a S=>?_,⟨36,by omega,fun l hl=>?_,fun y=>by simp at y,fun _=>B _ (by omega)⟩,fun _=>rfl,⟨fun k l hk=>by simp at hk,fun k l _ h=>by simp at h⟩,fun h=>by simp at h,v⟩
  ·obtain⟨rfl,rfl⟩:=C k l hk
   exact h.low 0 _ h0
  ·show ah (aR L 0 _) j=_
   rw[bu (by rcases u with h|h <;> omega)];exact h.zero j u
  ·show(ah (aR L 0 _) 7).n%4=0
   rw[bu (by omega),h.zero 7 o];rfl
  ·show(ah (aR L 0 _) 5).n=_
   rw[bu (by omega)];exact h.n5
  ·show(ah (aR L 0 _) 4).n<=100
   rw[bu (by omega)];exact h.Zu
  ·obtain⟨rfl,rfl⟩:=C k l hk
   have hid:=(h.ok.nodes 0 _ h0 a S).id;show(ah (aR L 0 _) _).n=0
   rw[bu (by have:=iw c a.id 0 hid.1 hid.2 (by omega) (by have:=c.fy;omega);omega),h.lat a.id hid.1 hid.2];rfl
  ·obtain rfl:l=l0:=by simpa using hl.symm
   show l.length+(if 1<1 then 1 else 0)<=36
   simp;exact v
structure PoJ (d:aU)(J:List aQ->dS->Nat->Prop):Prop where
 iq:∀L s m,J L s m->bL L/\(L.length:Int)=d.cells/\s.pc<=14
 step:∀L s m,J L s m->s.pc<14->dS.Ok d L s/\∀s',jm d L s s' -> ∃m',J (eQ d L s) s' m' /\ m' + 1<=m
theorem iX.agk {P:zR}{n m:Nat}{s:dS}(h:iX d P L t n s m):s.pc<=14:=by
 have c:=h.st;obtain⟨pc,f,lk,fr,ins,aq,root,word,tk,id,k⟩:=s;by_cases h:pc<=14
 ·exact h
 ·obtain⟨q,rfl⟩:∃q,pc=q+15:=⟨pc-15,by omega⟩
  exact c.elim
theorem akV (c:d.Ok)(e:d.no<=900)(P:zR):PoJ d (fun L s m=>∃t n,iX d P L t n s m) where
 iq:=fun L s m ⟨t,n,h⟩=>⟨h.base.iq,h.base.fq,h.agk⟩
 step:=fun L s m ⟨t,n,h⟩ h0=>by
  obtain⟨j,o⟩:=h.step c e h0;refine⟨j,fun s' q=>?_⟩
  obtain⟨t',n',m',u,v,_⟩:=o s' q;exact⟨m',⟨t',n',u⟩,by omega⟩
end
def mW:Nd:=⟨1,⟨#[]⟩,⟨0,[⟨⟨#[97]⟩,1⟩],⟨#[98]⟩,false,2⟩⟩
def mX:Nd:=⟨2,⟨#[98]⟩,⟨0,[⟨⟨#[98]⟩,2⟩],⟨#[]⟩,true,0⟩⟩
def Fq (d:aU):List aQ:=aR (fD d 2 mX.pg (fD d 1 mW.pg (cB d))) 4 ⟨2,⟨#[]⟩,0⟩
theorem adq:cA ⟨#[]⟩ ⟨#[98]⟩=true/\cA ⟨#[97]⟩ ⟨#[]⟩=false/\cA ⟨#[97]⟩ ⟨#[98]⟩=true/\cA ⟨#[98]⟩ ⟨#[98]⟩=false:=by
 refine⟨?_,?_,?_,?_⟩ <;> simp[cA,ByteArray.toList_eq,Op.bytesLess]
theorem pP (k:Nat)(l:List Nd)(h:[[mW,mX]][k]?=some l):k=0/\l=[mW,mX]:=by
 cases k with
 | zero=>exact⟨rfl,(asy h).symm⟩
 | succ k=>simp at h
theorem jI {nd:Nd}(h:nd∈[mW,mX]):nd=mW\/nd=mX:=by simpa using h
theorem adr {d:aU}(q:d.Ok)(M:d.fa=4)(A:d.no=100):Lz d (Fq d) [[mW,mX]] [mW,mX] 2 true 3 190:=by
 obtain⟨k1,k2,T,U⟩:=adq;obtain⟨p1,p2,V⟩:=iH d q;obtain⟨_,_,B,v⟩:=o8 q;have hA:=q.eN;have hB:=q.jZ;have hC:=q.oD;have W:=q.eF;have f1:=q.fy;have o:pK d [mW,mX]:=by
  refine⟨fun nd h=>?_,fun nd h=>?_,fun nd h=>?_,fun nd h=>?_,fun nd h s u=>?_,?_⟩
  ·rcases jI h with rfl|rfl
   ·exact⟨by decide,by show(1:Int)<=d.no;omega⟩
   ·exact⟨by decide,by show(2:Int)<=d.no;omega⟩
  ·rcases jI h with rfl|rfl
   ·show(1:Int)<=d.fa;omega
   ·show(1:Int)<=d.fa;omega
  ·rcases jI h with rfl|rfl <;> exact⟨by decide,by decide⟩
  ·rcases jI h with rfl|rfl <;> exact⟨by decide,by decide⟩
  ·rcases jI h with rfl|rfl
   ·obtain rfl:s=⟨⟨#[97]⟩,1⟩:=by simpa[mW] using u
    exact⟨by decide,by decide⟩
   ·obtain rfl:s=⟨⟨#[98]⟩,2⟩:=by simpa[mX] using u
    exact⟨by decide,by decide⟩
  ·simp[mW,mX]
 have he:Fq d=aR (bT d (cB d) [mW,mX]) 4 ⟨2,⟨#[]⟩,0⟩:=rfl;have C:((bT d (cB d) [mW,mX]).length:Int)=d.cells:=by rw[jE];exact v
 have x:ah (Fq d) 4=⟨2,⟨#[]⟩,0⟩:=by rw[he];exact cD (by omega) (by omega)
 have O:∀j:Int,j≠4->(∀nd,nd∈[mW,mX]->∀k:Int,1<=k->k<d.fa+4->j≠d.node nd.id k)->ah (Fq d) j=ah (cB d) j:=fun j Q c=>by
  rw[he,bu Q,eH f1 o.le c]
 have hid:∀nd,nd∈[mW,mX]->1<=nd.id/\nd.id<=d.no:=o.id;have R:∀j:Int,j<8->j≠4->ah (Fq d) j=ah (cB d) j:=fun j Q x=>O j x (fun nd c k a b=>by have:=iw q nd.id k (hid nd c).1 (hid nd c).2 (by omega) b;omega)
 have hw:∀nd,nd∈[mW,mX]->ah (Fq d) (d.node nd.id 0)=aQ.zero:=fun nd c=>by
  rw[O _ (by have:=iw q nd.id 0 (hid nd c).1 (hid nd c).2 (by omega) (by omega);omega) (fun D y k a b e=>?_),xP q nd.id (hid nd c).1 (hid nd c).2]
  by_cases e2:nd.id=D.id
  ·rw[←e2]at e
   have q1:=(bZ q (hid nd c).1 (hid nd c).2 (k:=0) (by omega) (by omega)).1
   have q2:=(bZ q (hid nd c).1 (hid nd c).2 (k:=k) (by omega) b).1
   omega
  ·exact cO q (hid nd c).1 (hid nd c).2 (hid D y).1 (hid D y).2 (by omega) (by omega) (by omega) b e2 e
 have E:∀nd,nd∈[mW,mX]->wo d (Fq d) nd:=fun nd c=>by
  have hp:=sG q v o nd c;have X:=nR q v o (fun nd c Y=>by
   rcases jI c with rfl|rfl
   ·cases Y
   ·rfl) nd c
  have z:∀k:Int,1<=k->k<d.fa+4->ah (Fq d) (d.node nd.id k)=ah (bT d (cB d) [mW,mX]) (d.node nd.id k):=fun k a b=>by
   rw[he,bu (by have:=iw q nd.id k (hid nd c).1 (hid nd c).2 (by omega) b;omega)]
  refine⟨hid nd c,hp.frame (hid nd c).1 (hid nd c).2 f1 z,X.frame q (hid nd c).1 (hid nd c).2 (o.le nd c) z,by rw[hw nd c];exact ou.zero,?_,?_,?_⟩
  ·rcases jI c with rfl|rfl <;> exact List.pairwise_singleton _ _
  ·intro s u
   rcases jI c with rfl|rfl
   ·obtain rfl:s=⟨⟨#[97]⟩,1⟩:=by simpa[mW] using u
    decide
   ·obtain rfl:s=⟨⟨#[98]⟩,2⟩:=by simpa[mX] using u
    decide
  ·intro s u
   rcases jI c with rfl|rfl
   ·obtain rfl:s=⟨⟨#[97]⟩,1⟩:=by simpa[mW] using u
    exact⟨k2,fun _=>T⟩
   ·obtain rfl:s=⟨⟨#[98]⟩,2⟩:=by simpa[mX] using u
    exact⟨U,fun h=>by cases h⟩
 have G:fS 0 [mW,mX]:=by
  refine⟨by decide,fun nd c=>?_,fun nd h=>?_,fun i a b H S=>?_,fun i a H hi=>?_⟩
  ·rcases jI c with rfl|rfl <;> rfl
  ·obtain rfl:=asy h;rfl
  ·have:=(asu.1 S).1
   have hi:i=0:=by simp at this;omega
   subst hi;obtain rfl:=asy H;obtain rfl:=asy S;exact⟨rfl,rfl,rfl,k1⟩
  ·obtain rfl:i=1:=by simpa using hi
   obtain rfl:=asy H;exact⟨rfl,rfl,rfl⟩
 have Z:(ah (Fq d) 0).n=1:=by rw[R 0 (by omega) (by omega),V 0 (by omega),if_neg (by omega),if_neg (by omega),if_pos rfl]
 have hok:cT d (Fq d) [[mW,mX]]:=by
  refine⟨by decide,fun k l hk=>?_,fun k l hk nd c=>?_,⟨mW,[mX],rfl,Z⟩,fun k l l' hk I =>?_,?_,?_,fun k l hk nd c=>?_⟩
  ·obtain⟨rfl,rfl⟩:=pP k l hk;exact G
  ·obtain⟨rfl,rfl⟩:=pP k l hk;exact E nd c
  ·have:=(pP _ _ I).1;omega
  ·rw[x];decide
  ·rw[x,A];decide
  ·obtain⟨rfl,rfl⟩:=pP k l hk
   rw[x];rcases jI c with rfl|rfl <;> decide
 have Lu:bL (Fq d):=(oU q o B).put ⟨by decide,by decide⟩
 have Fh:bj d=9:=by unfold bj;rw[M];rfl
 refine⟨hok,Lu,by rw[he,bg];exact C,fun k l hk nd c=>?_,rfl,Nat.le_refl _,fun _=>⟨by rw[x];decide,by omega⟩,fun e=>by(cases e),?_,fun k l hk nd c=>?_,fun l hl=>?_,fun h=>by simp at h,fun _=>?_⟩
 ·obtain⟨rfl,rfl⟩:=pP k l hk
  rcases jI c with rfl|rfl <;> decide
 ·rw[R 7 (by omega) (by omega),vw q 7 (.inl ⟨by omega,by omega,by omega,by omega⟩)];rfl
 ·obtain⟨rfl,rfl⟩:=pP k l hk
  rw[hw nd c];decide
 ·obtain rfl:l=[mW,mX]:=(pP 0 l hl).2
  exact Nat.le_refl 2
 ·have hu:oA [[mW,mX]] 0=2:=by decide
  rw[hu];unfold kW gI wC kW wI;rw[Fh,M];decide
theorem agl {d:aU}(q:d.Ok)(z:d.fa=4)(j:d.no=100):∃J,PoJ d J/\J (Fq d) (Ll ⟨1,⟨#[98]⟩,2,false⟩) 190/\∀L s m,J L s m->s.pc=14->s.f.po=true/\(ah L 0).n=3:=by
 have hB:=adr q z j;refine⟨_,akV q (by omega) (Wx d (Fq d) [[mW,mX]] [mW,mX] 2 2 true 3),⟨_,1,hB.start (c:=mX) (by simp)⟩,fun L s m A B=>?_⟩
 obtain⟨t,n,hI⟩:=A;have hE:=hI.fin B;have u:=hE.full rfl;refine⟨u,?_⟩;obtain⟨l1,C,x,D,_⟩:=hE.ent u mX (by simp[Wx]) rfl
 have G:=(asu.1 D).1;have o:=hE.base.tree;have E:t[0]?=some [mW,mX]:=hE.base.r0;obtain⟨nd,rest,v,h⟩:=o.root;have y:=hE.base.lim.2 rfl;have y:(ah L 4).n<=3:=y;have H:=(o.sh.nodes _ _ v nd List.mem_cons_self).1;have ne:∀(i:Nat) (c:Nd),[mW,mX][i]?=some c->nd.id≠c.id:=fun i c hc e=>by
  have:=(o.sh.inj _ _ _ _ 0 i nd c v E rfl hc e).1;omega
 have n1:nd.id≠1:=ne 0 mW rfl;have I:nd.id≠2:=ne 1 mX rfl;rw[h];omega
end
section
theorem St.aav {K:aM}{w:World}{F:List aC}{g cap n size j:Nat}{T:TypeId}{xs:List Value}(h:St K w (az (.slice (some ⟨g,0,none⟩) n cap) T size n xs::F))(u:Value) :
  St K (w.setCell ⟨g,j,none⟩ u) (az (.slice (some ⟨g,0,none⟩) n cap) T size n (xs.set j u)::F):=by
 refine h.Fx (c' := az (.slice (some ⟨g,0,none⟩) n cap) T size n (xs.set j u)) ((eU.refl _ _).setCell (.inl (by simp[az,Value.ownBlock])) _) ?_ rfl
 obtain⟨hl,k⟩:=h.head;refine⟨by rw[List.length_set];exact hl,?_⟩
 rcases k with⟨e,h0⟩|⟨z,o,cur,e,hB,hc,q,v,x,y⟩
 ·cases e
 ·injection e with c e2 e3
  injection c with c
  injection c with c
  subst c e3;refine .inr ⟨g,cap,cur.setIfInBounds j u,rfl,hB,cP hc j u,q,v,by simpa using x,?_⟩
  rw[Array.toList_setIfInBounds,List.take_set,y]
theorem St.Xd {K:aM}{w:World}{F:List aC}{g cap n size:Nat}{T:TypeId}{xs:List Value}(h:St K w (az (.slice (some ⟨g,0,none⟩) n cap) T size n xs::F))(j:0<n):∀k,w.frozen? ⟨g,k,none⟩=false:=by
 obtain⟨u,e,cur,o,_,_,_,_,_,q⟩:=h.Rv j;injection o with c e2 e3
 injection c with c
 injection c with c
 subst c;exact q.f0
end
section
section
variable {K:aM}{w:World}{F:List aC}{d:aU}{b:Nat}{p:jF}
theorem Ps (c:St K w (blk b (.cells (.nilFunc :: .bool true::bA d p).toArray 167)::F)):Calls Tryz.prog 61 #[(.pointer (some ⟨b,0,none⟩))] w fun e w' => e=.returned (.bool p.po)/\w=w' := by
 have k:=c.k0;have h:=ass (gG w b (k 0) (k 1));unfold bA at k;clear c;go_enter Tryz.func61,Tryz.ntmps61
 go_wp2_with fail
 refine(h.out).mono ?_
 clear h;rintro e j ⟨rfl,rfl⟩;go_wp2
 go_ret;exact⟨rfl,rfl⟩
end
section
variable {w0 w:World}{F:List aC}{a:Option Addr}{len cap:Nat}{f:Nat->ByteArray}{sh:Int}{bare:Bool}{d:aU}{bm bc:Nat}
def agn (K:aM)(bm bc:Nat)(d:aU)(F:List aC)(v:Value)(W:World):Prop:=
 ∃(ks:List ByteArray) (ka:Option Addr) (kc:Nat),v=.slice ka ks.length kc/\Hid (rE 36 ks)/\St K W (az (.slice ka ks.length kc) 9 1 ks.length (bO ks)::aL bm bc (cB d) 0::F)
def ago (K:aM)(bm bc:Nat)(d:aU)(F:List aC)(v u:Value)(W:World):Prop:=
 ∃(ks:List ByteArray) (ka:Option Addr) (kc:Nat) (L:List aQ) (t:List (List Nd)),(v=.slice ka ks.length kc/\u=.int .i64 t.length)/\Hid (rE 36 ks)/\Hid (oV d ks true L t)/\St K W (aL bm bc L 0::az (.slice ka ks.length kc) 9 1 ks.length (bO ks)::F)
theorem Pu (Y:zh w0 a len f)(Z:d.Ok)(E:d.fa<=6)(G:100<=d.no)(I:0<=sh/\sh<18446744073709551616)(j:St (aM.of w0) w (aL bm bc (cB d) 0::F)) :
  Calls Tryz.prog 57 #[.agg #[.int .i64 (d).th,.int .i64 (d).sn,.int .i64 (d).no,.int .i64 (d).ch,.int .i64 (d).re,.int .i64 (d).fa,.int .u64 (d).cl],(.pointer (some ⟨bm,0,none⟩)),.slice a len cap,.int .u64 sh,.bool bare] w fun e w' => ∃(ks:List ByteArray) (l0:List Nd) (L:List aQ) (t:List (List Nd)),
   e=.returned (.tuple #[])/\Hid (PoF d ks l0 bare L t/\ks.length<=36)/\St (aM.of w0) w' (aL bm bc L 0::F):=by
 have Hz:=ass Y;have A:=ass Z;have R:=ass E;have j:=j.made (.cells #[.int .i64 d.th,.int .i64 d.sn,.int .i64 d.no,.int .i64 d.ch,.int .i64 d.re,.int .i64 d.fa,.int .u64 d.cl] 26);obtain⟨z,M⟩:∃b,b=w.heap.size:=⟨_,rfl⟩;clear Y Z E;go_enter Tryz.func57,Tryz.ntmps57
 have S:=ass G;have T:=ass I;clear G I;go_upto_region 1 with(fail)
 rw[←M]at j ⊢;clear M;have j:St (aM.of w0) _ (blk z (.cells #[.int .i64 d.th,.int .i64 d.sn,.int .i64 d.no,.int .i64 d.ch,.int .i64 d.re,.int .i64 d.fa,.int .u64 d.cl] 26)::aL bm bc (cB d) 0::F):=j;refine dc j ?_
 clear j;intro w1 j;have Hs:=ass j;clear j;refine gH [false,false,false,true,false,true] 3 5
  (fun W=>St (aM.of w0) W (blk z (.cells #[.int .i64 d.th,.int .i64 d.sn,.int .i64 d.no,.int .i64 d.ch,.int .i64 d.re,.int .i64 d.fa,.int .u64 d.cl] 26)::aL bm bc (cB d) 0::F))
  (fun v W=>agn (aM.of w0) bm bc d (blk z (.cells #[.int .i64 d.th,.int .i64 d.sn,.int .i64 d.no,.int .i64 d.ch,.int .i64 d.re,.int .i64 d.fa,.int .u64 d.cl] 26)::F) v W)
  (fun v u W=>ago (aM.of w0) bm bc d (blk z (.cells #[.int .i64 d.th,.int .i64 d.sn,.int .i64 d.no,.int .i64 d.ch,.int .i64 d.re,.int .i64 d.fa,.int .u64 d.cl] 26)::F) v u W)
  (fun W=>St (aM.of w0) W (blk z (.cells #[.int .i64 d.th,.int .i64 d.sn,.int .i64 d.no,.int .i64 d.ch,.int .i64 d.re,.int .i64 d.fa,.int .u64 d.cl] 26)::F)) ?aS (by decide) (by kernel_rfl) ?hB ?H ?ja Hs.out ?hI ?hR ?Gm ?vV ?hQ
 case hB=>as_aux_lemma=>kernel_rfl
 case H=>
  intro B j;have kp:=j.k0;clear j;simp only[cG];repeat (go_big_quiet_step (fail))
  refine wpQuiet_nil ?_
  rfl
 case ja=>rfl
 case hI=>exact⟨fun W h=>(St.b1 h).tail,fun v W ⟨_,_,_,_,_,h⟩=>h.tail.tail,fun v u W ⟨_,_,_,_,_,_,_,_,h⟩=>h.tail.tail⟩
 case hR=>exact⟨fun W W' h O=>h.same O,fun v W W' ⟨a,b,c,e,e2,h⟩ O=>⟨a,b,c,e,e2,h.same O⟩,fun v u W W' ⟨a,b,c,x,y,e,e2,e3,h⟩ O=>⟨a,b,c,x,y,e,e2,e3,h.same O⟩⟩
 case Gm=>
  intro rr o U ρ B j hk af Q;obtain rfl:=asy U;subst Q;have V:=ass hk;have j:St (aM.of w0) B (blk z (.cells #[.int .i64 d.th,.int .i64 d.sn,.int .i64 d.no,.int .i64 d.ch,.int .i64 d.re,.int .i64 d.fa,.int .u64 d.cl] 26)::aL bm bc (cB d) 0::F):=j;have qk:=Zo (a:=a) (len:=len) (cap:=cap) (f:=f) (most:=36) Hz.out (by omega) j
  have QK:=ass qk;clear hk qk j;go_wp2_with fail
  refine(QK.out).mono ?_
  clear QK;rintro e w3 ⟨v,ks,rfl,q,j⟩;obtain⟨C,D,rfl,_,_⟩:=j.aJ;have H:=ass j;clear j;go_wp2
  exact⟨rfl,_,rfl,V.out _ _ ⟨ks,C,D,rfl,q,H.out.re [0,2,1] rfl⟩⟩
 case vV=>
  rintro rr o U ρ v B ⟨ks,C,D,rfl,q,j⟩ hk af Q;obtain rfl:=asy U;have V:=ass hk;have j:St (aM.of w0) B (az (.slice C ks.length D) 9 1 ks.length (bO ks)::aL bm bc (cB d) 0::blk z (.cells #[.int .i64 d.th,.int .i64 d.sn,.int .i64 d.no,.int .i64 d.ch,.int .i64 d.re,.int .i64 d.fa,.int .u64 d.cl] 26)::F):=j;have qp:=Vb (ee:=true) A.out S.out ⟨q.out.jP,by have:=q.out.len;omega,q.out.size⟩ (o8 A.out).2.2.1 (o8 A.out).2.2.2 (xP A.out) (vw A.out) T.out j.b1
  have QP:=ass qp;clear hk qp j;simp only[aP,List.getElem?_cons_succ,List.getElem?_cons_zero,Option.bind_some,Act.put,List.setIfInBounds_toArray,List.set_cons_zero,List.set_cons_succ]at Q;subst Q;go_wp2_with fail
  refine(QP.out).mono ?_
  clear QP;rintro e w4 ⟨t,L',rfl,X,j⟩;have H:=ass j;clear j;go_wp2
  exact⟨rfl,_,rfl,V.out _ _ ⟨ks,C,D,L',t,⟨rfl,rfl⟩,q,X,H.out⟩⟩
 case hQ=>
 rintro v u B ⟨ks,C,D,L',t,⟨rfl,rfl⟩,q,X,j⟩;simp only[aP,List.getElem?_cons_succ,List.getElem?_cons_zero,Option.bind_some,Act.put,List.setIfInBounds_toArray,List.set_cons_zero,List.set_cons_succ];clear Hs;have j:St (aM.of w0) B (aL bm bc L' 0::az (.slice C ks.length D) 9 1 ks.length (bO ks)::blk z (.cells #[.int .i64 d.th,.int .i64 d.sn,.int .i64 d.no,.int .i64 d.ch,.int .i64 d.re,.int .i64 d.fa,.int .u64 d.cl] 26)::F):=j;have HF:Hid (∃l0 t',PoF d ks l0 bare (if bare then aR L' 0 ⟨1,⟨#[]⟩,0⟩else L') t'):=ass (X.out.Xb A.out R.out q.out.len bare)
 cases bare with
 | true=>
  go_wp2_with fail
  refine(gM (i:=0) (c:=⟨1,⟨#[]⟩,0⟩) j).mono ?_
  clear j;rintro e w5 ⟨rfl,j⟩;go_wp2
  go_end0
  obtain⟨l0,t',h⟩:=HF.out;exact⟨ks,l0,_,t',rfl,ass ⟨h,q.out.len⟩,j.b9.b9⟩
 | false=>
  go_wp2
  go_end0
  obtain⟨l0,t',h⟩:=HF.out;exact⟨ks,l0,_,t',rfl,ass ⟨h,q.out.len⟩,j.b9.b9⟩
end
section
variable {K:aM}{w:World}{F:List aC}{b bm bc acc m:Nat}{d:aU}{J:List aQ->dS->Nat->Prop}
def Fc (K:aM)(b bm bc:Nat)(d:aU)(J:List aQ->dS->Nat->Prop)(F:List aC)(acc m:Nat)(w:World):Prop:=
 ∃(L:List aQ) (s:dS) (C:List aC),J L s m/\s.pc<14/\fU d b s C/\St K w (C++aL bm bc L acc::F)
def Xe (K:aM)(b bm bc:Nat)(d:aU)(J:List aQ->dS->Nat->Prop)(F:List aC)(acc:Nat)(w:World):Prop:=
 ∃(L:List aQ) (s:dS) (m:Nat),J L s m/\s.pc=14/\St K w (blk b (.cells (.nilFunc :: .bool true::bA d s.f).toArray 167)::aL bm bc L acc::F)
theorem PoJ.go (x:d.Ok)(o:PoJ d J)(y:acc<=1000000000000)(h:Fc K b bm bc d J F acc m w) :
  Calls Tryz.prog 60 #[(.pointer (some ⟨b,0,none⟩)),(.pointer (some ⟨bm,0,none⟩))] w fun e w' => (e=.returned (.bool true)/\Xe K b bm bc d J F (acc+1) w')\/(e=.returned (.bool false)/\∃m',m' + 1<=m/\Fc K b bm bc d J F (acc+1) m' w'):=by
 obtain⟨L,s,C,hI,z,A,B⟩:=h;obtain⟨hok,q⟩:=o.step L s m hI z;refine(xN x (o.iq L s m hI).1 y hok A B).mono ?_
 rintro e w' ⟨s',u,rfl,D,v,j⟩;obtain⟨m',c,hm⟩:=q s' D;have E:=(o.iq _ s' m' c).2.2;by_cases h:14<=s'.pc
 ·have Tr:s'.pc=14:=by omega
  refine .inl ⟨by rw[decide_eq_true h],eQ d L s,s',m',c,Tr,?_⟩
  obtain⟨pc,f,lk,fr,ins,aq,root,word,tk,id,k⟩:=s';simp only at Tr;subst Tr;obtain rfl:u=_:=v;exact j
 ·exact .inr ⟨by rw[decide_eq_false h],m',hm,_,s',u,c,by omega,v,j⟩
theorem Fc.start {f:jF}{L:List aQ}{C:List aC}(h:J L (Ll f) m)(c:fU d b (Ll f) C)(e:St K w (C++aL bm bc L acc::F)):Fc K b bm bc d J F acc m w:=
 ⟨L,Ll f,C,h,by show 0<14;decide,c,e⟩
end
section
variable {K:aM}{w:World}{cs:List aC}
theorem Ju (j:St K w cs):Calls Tryz.prog 56 #[] w fun e w' => e=.returned (.bool true)/\St K w' cs:=by
 obtain⟨d,B,E,G,X,D⟩:∃d:aU,Hid d.Ok/\Hid (d.fa=4)/\Hid (d.no=100)/\Hid (∀w,Calls Tryz.prog 12 #[.int .i64 1,.int .i64 0] w fun e w' => e=.returned (.agg #[.int .i64 (d).th,.int .i64 (d).sn,.int .i64 (d).no,.int .i64 (d).ch,.int .i64 (d).re,.int .i64 (d).fa,.int .u64 (d).cl])/\Below w.heap.size w w')/\Hid (∀w K cs,St K w cs->Calls Tryz.prog 13 #[.agg #[.int .i64 (d).th,.int .i64 (d).sn,.int .i64 (d).no,.int .i64 (d).ch,.int .i64 (d).re,.int .i64 (d).fa,.int .u64 (d).cl]] w fun e H => ∃bm bc,e=.returned (.tuple #[.agg #[.int .i64 (d).th,.int .i64 (d).sn,.int .i64 (d).no,.int .i64 (d).ch,.int .i64 (d).re,.int .i64 (d).fa,.int .u64 (d).cl],(.pointer (some ⟨bm,0,none⟩))])/\St K H (aL bm bc (cB d) 0::cs)):=
  ⟨nc 1 4 1000,ass (Kq 0),ass rfl,ass rfl,ass (fun w=>oM 1 0 w),ass (fun w K cs j=>p8 (Kq 0) j)⟩
 obtain⟨J,Y,z,I⟩:∃J,Hid (PoJ d J)/\Hid (J (Fq d) (Ll ⟨1,⟨#[98]⟩,2,false⟩) 190)/\Hid (∀L s m,J L s m->s.pc=14->s.f.po=true/\(ah L 0).n=3):=by
  obtain⟨J,a,b,c⟩:=agl B.out E.out G.out;exact⟨J,ass a,ass b,ass c⟩
 go_enter Tryz.func56,Tryz.ntmps56
 go_wp2_with fail
 refine(bJ j (X.out _)).mono ?_
 clear j;rintro e Z ⟨rfl,j⟩;obtain⟨b1,x⟩:∃b1,b1=Z.heap.size:=⟨_,rfl⟩;have j:=j.made (.cells #[.int .i64 (d).th,.int .i64 (d).sn,.int .i64 (d).no,.int .i64 (d).ch,.int .i64 (d).re,.int .i64 (d).fa,.int .u64 (d).cl] 26);rw[←x]at j;have M:=ass j;clear j;go_wp2_with fail
 rw[←x];clear x;refine(D.out _ _ _ M.out).mono ?_
 clear M;rintro e w2 ⟨bm,bc,rfl,j⟩;have j:=j.made (.cells #[.int .i64 (d).th,.int .i64 (d).sn,.int .i64 (d).no,.int .i64 (d).ch,.int .i64 (d).re,.int .i64 (d).fa,.int .u64 (d).cl] 29);obtain⟨b2,y⟩:∃b2,b2=w2.heap.size:=⟨_,rfl⟩;rw[←y]at j;go_upto_region 5 with(fail)
 rw[←y];clear y;refine dc j ?_
 clear j;intro S j;have j:St K S (blk b2 (.cells #[.int .i64 (d).th,.int .i64 (d).sn,.int .i64 (d).no,.int .i64 (d).ch,.int .i64 (d).re,.int .i64 (d).fa,.int .u64 (d).cl] 29)::aL bm bc (cB d) 0::blk b1 (.cells #[.int .i64 (d).th,.int .i64 (d).sn,.int .i64 (d).no,.int .i64 (d).ch,.int .i64 (d).re,.int .i64 (d).fa,.int .u64 (d).cl] 26)::cs):=j;have O:=j.k2;have j:=j.made (.cells #[.string ⟨#[97]⟩,.int .u64 1] 69);obtain⟨b3,o⟩:∃b3,b3=S.heap.size:=⟨_,rfl⟩;rw[←o]at j;have j:=j.lV (n:=1) (size:=2) (xs:=aF mW.pg.sl) rfl (by decide)
 have j:St K _ (aL bm bc (cB d) 0::az (.slice (some ⟨b3,0,none⟩) mW.pg.sl.length 1) 69 2 mW.pg.sl.length (aF mW.pg.sl)::blk b2 (.cells #[.int .i64 (d).th,.int .i64 (d).sn,.int .i64 (d).no,.int .i64 (d).ch,.int .i64 (d).re,.int .i64 (d).fa,.int .u64 (d).cl] 29)::blk b1 (.cells #[.int .i64 (d).th,.int .i64 (d).sn,.int .i64 (d).no,.int .i64 (d).ch,.int .i64 (d).re,.int .i64 (d).fa,.int .u64 (d).cl] 26)::cs):=j.re [2,0,1,3] rfl;have q:=xw (pg:=mW.pg) (id:=1) B.out (by decide) (by decide) (by have:=E.out;show(1:Int)<=d.fa;omega) j
 have Q:=ass q;clear q j;go_wp2_with fail
 rw[←o];refine(Q.out).mono ?_
 clear Q O o;rintro e T ⟨rfl,j⟩;have j:St K T (blk b2 (.cells #[.int .i64 (d).th,.int .i64 (d).sn,.int .i64 (d).no,.int .i64 (d).ch,.int .i64 (d).re,.int .i64 (d).fa,.int .u64 (d).cl] 29)::aL bm bc (fD d 1 mW.pg (cB d)) 0::blk b1 (.cells #[.int .i64 (d).th,.int .i64 (d).sn,.int .i64 (d).no,.int .i64 (d).ch,.int .i64 (d).re,.int .i64 (d).fa,.int .u64 (d).cl] 26)::cs):=(j.re [1,2,0,3] rfl).tail;have O:=j.k2;have j:=j.made (.cells #[.string ⟨#[98]⟩,.int .u64 2] 69);obtain⟨b3,o⟩:∃b3,b3=T.heap.size:=⟨_,rfl⟩;rw[←o]at j;have j:=j.lV (n:=1) (size:=2) (xs:=aF mX.pg.sl) rfl (by decide)
 have j:St K _ (aL bm bc (fD d 1 mW.pg (cB d)) 0::az (.slice (some ⟨b3,0,none⟩) mX.pg.sl.length 1) 69 2 mX.pg.sl.length (aF mX.pg.sl)::blk b2 (.cells #[.int .i64 (d).th,.int .i64 (d).sn,.int .i64 (d).no,.int .i64 (d).ch,.int .i64 (d).re,.int .i64 (d).fa,.int .u64 (d).cl] 29)::blk b1 (.cells #[.int .i64 (d).th,.int .i64 (d).sn,.int .i64 (d).no,.int .i64 (d).ch,.int .i64 (d).re,.int .i64 (d).fa,.int .u64 (d).cl] 26)::cs):=j.re [2,0,1,3] rfl;have q:=xw (pg:=mX.pg) (id:=2) B.out (by decide) (by decide) (by have:=E.out;show(1:Int)<=d.fa;omega) j
 have Q:=ass q;clear q j;go_wp2_with fail
 rw[←o];refine(Q.out).mono ?_
 clear Q O o;rintro e w5 ⟨rfl,j⟩;go_wp2_with fail
 refine(gM (i:=4) (c:=⟨2,⟨#[]⟩,0⟩) j).mono ?_
 clear j;rintro e w6 ⟨rfl,j⟩;have j:St K w6 (blk b2 (.cells #[.int .i64 (d).th,.int .i64 (d).sn,.int .i64 (d).no,.int .i64 (d).ch,.int .i64 (d).re,.int .i64 (d).fa,.int .u64 (d).cl] 29)::aL bm bc (Fq d) 0::blk b1 (.cells #[.int .i64 (d).th,.int .i64 (d).sn,.int .i64 (d).no,.int .i64 (d).ch,.int .i64 (d).re,.int .i64 (d).fa,.int .u64 (d).cl] 26)::cs):=(j.re [1,2,0,3] rfl).tail;have kl:=j.k0;have q:=xO (d:=d) (aA:=1) (ch:=2) (sep:=⟨#[98]⟩) j;have Q:=ass q;clear q j;generalize Fq d=L0 at *;go_wp2_with fail
 refine(Q.out).mono ?_
 clear Q kl;rintro e w7 ⟨b,C,rfl,U,j⟩;have u:Fc K b bm bc d J (blk b2 (.cells #[.int .i64 (d).th,.int .i64 (d).sn,.int .i64 (d).no,.int .i64 (d).ch,.int .i64 (d).re,.int .i64 (d).fa,.int .u64 (d).cl] 29)::blk b1 (.cells #[.int .i64 (d).th,.int .i64 (d).sn,.int .i64 (d).no,.int .i64 (d).ch,.int .i64 (d).re,.int .i64 (d).fa,.int .u64 (d).cl] 26)::cs) 0 190 w7:=Fc.start z.out U (j.perm (List.Perm.append_left _ (List.Perm.swap _ _ _)));clear j U;go_upto_region 9 with(fail)
 go_cut [5]from 999 to 0 (fun v R=>v=.int .i64 0/\Fc K b bm bc d J (blk b2 (.cells #[.int .i64 (d).th,.int .i64 (d).sn,.int .i64 (d).no,.int .i64 (d).ch,.int .i64 (d).re,.int .i64 (d).fa,.int .u64 (d).cl] 29)::blk b1 (.cells #[.int .i64 (d).th,.int .i64 (d).sn,.int .i64 (d).no,.int .i64 (d).ch,.int .i64 (d).re,.int .i64 (d).fa,.int .u64 (d).cl] 26)::cs) 0 190 R)
 case first=>
  as_aux_lemma=>
  go_wp2
  go_meet;exact⟨rfl,u⟩
 case rest=>
 clear u;obtain⟨rfl,u⟩:=hcut;apply_assumption
 go_cut [5]from 999 to 0 (fun _ R=>∃acc,Xe K b bm bc d J (blk b2 (.cells #[.int .i64 (d).th,.int .i64 (d).sn,.int .i64 (d).no,.int .i64 (d).ch,.int .i64 (d).re,.int .i64 (d).fa,.int .u64 (d).cl] 29)::blk b1 (.cells #[.int .i64 (d).th,.int .i64 (d).sn,.int .i64 (d).no,.int .i64 (d).ch,.int .i64 (d).re,.int .i64 (d).fa,.int .u64 (d).cl] 26)::cs) acc R)
 case first=>
  as_aux_lemma=>
  go_wp2
  go_loopw [5] (fun vn wr=>∃(n m:Nat),n+m<=190/\vn=.int .i64 n/\Fc K b bm bc d J (blk b2 (.cells #[.int .i64 (d).th,.int .i64 (d).sn,.int .i64 (d).no,.int .i64 (d).ch,.int .i64 (d).re,.int .i64 (d).fa,.int .u64 (d).cl] 29)::blk b1 (.cells #[.int .i64 (d).th,.int .i64 (d).sn,.int .i64 (d).no,.int .i64 (d).ch,.int .i64 (d).re,.int .i64 (d).fa,.int .u64 (d).cl] 26)::cs) n m wr) (fun v _=>200-(intOf v).toNat)
  case atStart=>exact⟨0,190,by omega,rfl,u⟩
  case round=>
   clear u;obtain⟨n,m,hnm,rfl,u⟩:=hrel;have q:=Y.out.go B.out (by omega) u
   have Q:=ass q;clear q u;have hn2:(n:Int)<200:=by omega
   go_wp2_with fail
   refine(Q.out).mono ?_
   clear Q;rintro e w8 (⟨rfl,h⟩|⟨rfl,m',hm,h⟩)
   ·go_wp2
    go_meet;exact⟨_,h⟩
   ·go_wp2
    go_roundw
    case rel=>exact⟨n+1,m',by omega,by go_num,h⟩
    case measure=>simp[intOf];omega
 case rest=>
 clear u;obtain⟨acc,L,s,m,A,iy,j⟩:=hcut;apply_assumption
 obtain⟨V,h3⟩:=I.out L s m A iy;have q:=Ps j;rw[V]at q;have Q:=ass q;have W:=Kf (i:=0) j j.b1.mem;have D:=ass W;have M:=ass j;clear q W j z A V;go_wp2_with fail
 refine(Q.out).mono ?_
 clear Q;rintro e w8 ⟨rfl,rfl⟩;go_wp2_with fail
 refine(D.out).mono ?_
 clear D;rintro e w9 ⟨rfl,j⟩;go_wp2
 go_ret;exact⟨rfl,j.tail.tail.tail.tail⟩
end
end
section
theorem Xf:(Tryz.prog.info? 4).map (fun i=>(i.zero,i.size,i.bytes))=some (some (.bool false),1,1):=by kernel_rfl
theorem Xg:(Tryz.prog.info? 99).map (fun i=>(i.zero,i.size,i.bytes))=some (some (.agg #[.string ⟨#[]⟩,.int .u64 0]),2,24):=by kernel_rfl
section
variable {K:aM}{w:World}{F:List aC}{d:aU}{g:Nat}{L:List aQ}{t:List (List Nd)}{l0 l1:List Nd}
theorem Xh (hd:d.Ok)(ht:cT d L t)(h0:t[0]?=some l0)(h1:t[1]?.getD []=l1)(hg:K.map g=some (.cells (flat L).toArray 63))(hl:L.length<=1000000)(z:St K w F) :
  Calls Tryz.prog 58 #[.agg #[.int .i64 (d).th,.int .i64 (d).sn,.int .i64 (d).no,.int .i64 (d).ch,.int .i64 (d).re,.int .i64 (d).fa,.int .u64 (d).cl,.slice (some ⟨g,0,none⟩) L.length L.length]] w fun e w' => ∃v,e=.returned v/\St K w' (az v 99 2 (fw l0 l1).length (fE (fw l0 l1))::F):=by
 have jw:=hd.m6;have Zg:=hd.Ke;have zf:=hd.m7;have Wi:=ht.ne;obtain⟨iv,dm,dr,dw,dx⟩:=info_parts Xg;have lO:=ass dm;have lQ:=ass dr;have lR:=ass dw;have lS:=ass dx;clear dm dr dw dx;have mU:l1=[]\/t[1]?=some l1:=by
  cases h:t[1]? with
  | none=>rw[h]at h1;exact .inl h1.symm
  | some x=>rw[h]at h1;exact .inr (by rw[←h1];rfl)
 have Z:∀nd,nd∈l0->wo d L nd:=ht.nodes 0 l0 h0;have hn1:∀nd,nd∈l1->wo d L nd/\∀x,x∈nd.pg.sl->1<=x.r/\x.r<=d.no:=fun nd hn=>by
  rcases mU with e|e
  ·rw[e]at hn;cases hn
  ·refine⟨ht.nodes 1 l1 e nd hn,fun x hx=>?_⟩
   obtain⟨c,hc,e1,_⟩:=(ht.down 0 l0 l1 h0 e nd hn).2 x hx;rw[←e1];exact(Z c hc).id
 have agp:l0.length<=4096:=by have:=List.dg h0;have:=ht.count;have:=ht.n4;omega
 have agq:l1.length<=4096:=by
  rcases mU with e|e
  ·rw[e];simp
  ·have:=List.dg e;have:=ht.count;have:=ht.n4;omega
 have Ql0:=ass (fun W cs (h:St K W cs)=>iW (k:=0) hd ht (by omega) hg hl h)
 have Ql1:=ass (fun W cs (h:St K W cs)=>iW (k:=1) hd ht (by omega) hg hl h)
 have Qp0:=ass (fun(nd:Nd) (hn:nd∈l0) W cs (h:St K W cs)=>fT hd (Z nd hn).id.1 (Z nd hn).id.2 (Z nd hn).page hg hl h)
 have Qp1:=ass (fun(nd:Nd) (hn:nd∈l1) W cs (h:St K W cs)=>fT hd (hn1 nd hn).1.id.1 (hn1 nd hn).1.id.2 (hn1 nd hn).1.page hg hl h)
 have abf:iu t 0=l0.map (·.id):=by unfold iu;rw[h0]
 have abg:iu t 1=l1.map (·.id):=by
  unfold iu;rcases mU with e|e
  ·rw[e]at h1
   cases h:t[1]? with
   | none=>rw[e];rfl
   | some x=>rw[h]at h1;rw[e,show x=[]from h1]
  ·rw[e]
 rw[abf,List.length_map]at Ql0;rw[abg,List.length_map]at Ql1;have hR:=(ht.rows 0 l0 h0);have HR:=ass hR;have Hn0:=ass Z;have Hn1:=ass hn1;have z:=z.made (.cells #[.int .i64 (d).th,.int .i64 (d).sn,.int .i64 (d).no,.int .i64 (d).ch,.int .i64 (d).re,.int .i64 (d).fa,.int .u64 (d).cl,.slice (some ⟨g,0,none⟩) L.length L.length] 52);obtain⟨bv,nV⟩:∃bv,bv=w.heap.size:=⟨_,rfl⟩;obtain⟨V,hm0⟩:∃m,m=l0.length:=⟨_,rfl⟩;obtain⟨E,hm1⟩:∃m,m=l1.length:=⟨_,rfl⟩;obtain⟨N,hN⟩:∃N:Nat,d.no=N:=⟨d.no.toNat,by omega⟩
 have Hm0:=ass hm0;have Hm1:=ass hm1;have HN:=ass hN;rw[←hm0]at Ql0 agp;rw[←hm1]at Ql1 agq;obtain⟨ii,agr,ags,agt,agu⟩:=info_parts Xf;have hmk:=Ym 165 4 ii (.bool false) 1 Tryz.underlying165 agr ags agt agu rfl (by decide) (N+1) (by omega) (d.no+1) (by rw[hN];push_cast;rfl)
 generalize L.length=n at *;clear ht hg abf abg hm0 hm1 h0 h1 Wi mU Z hn1 hR hN;go_enter Tryz.func58,Tryz.ntmps58
 have z:=z.made (.cells (Array.replicate (N+1) (.bool false)) 4);rw[World.size_alloc]at z;rw[←nV]at z;have z:=z.Rs (o' := .cells (jG (N+1) []).toArray 4) (by rw[←Ow];simp)
 have z:=z.lV (n:=N+1) (size:=1) (by rw[Vl];omega) (by have:=HN.out;unfold maxLen;omega)
 have kv:=z.b1.k0;go_upto_region 2 with(fail)
 rw[←nV];clear hmk agr ags agt agu;go_wp2_with fail
 refine(Ql1.out _ _ z).mono ?_
 clear z kv Ql1 nV;rintro e w1 ⟨va,rfl,z⟩;obtain⟨a1,jH,rfl,_,_⟩:=z.aJ;have z:=z.b1;go_upto_region 3 with(fail)
 go_cut [5]from 5 to 5 (fun v wx=>v=.int .i64 0/\St K wx (az (.slice (some ⟨bv+1,0,none⟩) (N+1) (N+1)) 4 1 (N+1) (jG (N+1) (refsOf (l1.take 0)))::az (.slice a1 E jH) 23 1 E (aO (l1.map (·.id)))::blk bv (.cells #[.int .i64 (d).th,.int .i64 (d).sn,.int .i64 (d).no,.int .i64 (d).ch,.int .i64 (d).re,.int .i64 (d).fa,.int .u64 (d).cl,.slice (some ⟨g,0,none⟩) n n] 52)::F))
 case first=>
  as_aux_lemma=>
  go_wp2
  go_meet;exact⟨rfl,z⟩
 case rest=>
 clear z;obtain⟨rfl,z⟩:=hcut;apply_assumption
 go_cut [5,6,7]from 999 to 0 (fun _ _ _ wx=>∃(a1:Option Addr),St K wx (az (.slice (some ⟨bv+1,0,none⟩) (N+1) (N+1)) 4 1 (N+1) (jG (N+1) (refsOf l1))::az (.slice a1 E jH) 23 1 E (aO (l1.map (·.id)))::blk bv (.cells #[.int .i64 (d).th,.int .i64 (d).sn,.int .i64 (d).no,.int .i64 (d).ch,.int .i64 (d).re,.int .i64 (d).fa,.int .u64 (d).cl,.slice (some ⟨g,0,none⟩) n n] 52)::F))
 case first=>
  as_aux_lemma=>
  go_wp2
  go_loopw [5] (fun v5 wr=>∃(i:Nat),v5=.int .i64 i/\i<=E /\
   St K wr (az (.slice (some ⟨bv+1,0,none⟩) (N+1) (N+1)) 4 1 (N+1) (jG (N+1) (refsOf (l1.take i)))::az (.slice a1 E jH) 23 1 E (aO (l1.map (·.id)))::blk bv (.cells #[.int .i64 (d).th,.int .i64 (d).sn,.int .i64 (d).no,.int .i64 (d).ch,.int .i64 (d).re,.int .i64 (d).fa,.int .u64 (d).cl,.slice (some ⟨g,0,none⟩) n n] 52)::F)) (fun v5 _=>E-(intOf v5).toNat)
  case atStart=>exact⟨0,rfl,by omega,z⟩
  case round=>
   clear z;obtain⟨i,rfl,hi,z⟩:=hrel;by_cases him:i<E
   ·obtain⟨nd,Q⟩:∃nd,l1[i]?=some nd:=⟨_,asx (by have:=Hm1.out;omega)⟩
    have QN:=ass (Qp1.out nd (asw Q));obtain⟨ga,Pk,_⟩:=(show St K wr (az _ _ _ _ _::_)from z.b1).cQ (show(aO (l1.map (·.id)))[i]?=some (.int .u64 nd.id)by simp[aO,Q])
    subst Pk;have Ot:=ass Q;have hq4:nd.pg.sl.length<=4096:=by have:=(Hn1.out nd (asw Q)).1.page.le;have:=zf;omega
    have hq5:=(Hn1.out nd (asw Q)).2;have Hq5:=ass hq5;have vP:=Ef Q;have Hrf:=ass vP;generalize refsOf (l1.take i)=pS at *;clear Q vP hq5;go_upto_region 6 with(fail)
    have Hs:=ass z;clear z;refine aX [false,false,false,false,false,true,true,true] [5,6,7] (fun|7=>[5,6] | _=>[])
     (tJ K (az (.slice (some ⟨bv+1,0,none⟩) (N+1) (N+1)) 4 1 (N+1) (jG (N+1) pS)::az (.slice (some ⟨ga,0,none⟩) E jH) 23 1 E (aO (l1.map (·.id)))::blk bv (.cells #[.int .i64 (d).th,.int .i64 (d).sn,.int .i64 (d).no,.int .i64 (d).ch,.int .i64 (d).re,.int .i64 (d).fa,.int .u64 (d).cl,.slice (some ⟨g,0,none⟩) n n] 52)::F) nd.pg)
     (fun W=>St K W (az (.slice (some ⟨bv+1,0,none⟩) (N+1) (N+1)) 4 1 (N+1) (jG (N+1) pS)::az (.slice (some ⟨ga,0,none⟩) E jH) 23 1 E (aO (l1.map (·.id)))::blk bv (.cells #[.int .i64 (d).th,.int .i64 (d).sn,.int .i64 (d).no,.int .i64 (d).ch,.int .i64 (d).re,.int .i64 (d).fa,.int .u64 (d).cl,.slice (some ⟨g,0,none⟩) n n] 52)::F)) ?aSb (by kernel_rfl) ?hBb ?Hb ?Im ?h0b ?hIb ?hRb ?hEb ?hQb
    case hBb=>as_aux_lemma=>kernel_rfl
    case Hb=>
     intro O z;have kv:=z.k2;have c0:=(show St K O (az _ _ _ _ _::_)from z.b1).bG (show(aO (l1.map (·.id)))[i]?=some (.int .u64 nd.id)by simp[aO,Ot.out])
     clear z;simp only[cG];repeat (go_big_quiet_step (fail))
     refine wpQuiet_nil ?_
     rfl
    case Im=>rfl
    case h0b=>exact tJ.start Hs.out
    case hIb=>exact fun I O h=>h.rest
    case hRb=>exact fun I O W3 h X=>h.same X
    case hEb=>
     refine⟨?e5b,?e6b,?e7b,trivial⟩;case e5b=>
      intro o ho I O h D M B af Y;obtain rfl:=asy ho;replace Y:af=aj _ I [] _:=Y;have h7:I 7=none:=D.none (by simp) (show 5∈[5,6]by simp) M
      obtain⟨R',z,A⟩:=h.e5 M h7;simp only[aj]at Y;subst Y;have Hn:=ass A;clear A D B M h7 h;go_wp2_with fail
      refine(QN.out _ _ z).mono ?_
      rintro e W3 ⟨va3,rfl,R⟩;obtain⟨a3,c3,rfl,_,_⟩:=R.aJ;have eT:=ass R;clear z R;go_wp2
      exact⟨rfl,_,rfl,Hn.out _ _ W3 eT.out⟩
     case e6b=>
      intro o ho I O h D h6 B af Y;obtain rfl:=asy ho;replace Y:af=aj _ I [] _:=Y;have h7:I 7=none:=D.none (by simp) (show 6∈[5,6]by simp) h6
      have Hn:=ass (h.e6 h6 h7);simp only[aj]at Y;subst Y;clear D B h6 h7 h;go_wp2
      exact⟨rfl,_,rfl,Hn.out⟩
     case e7b=>
      intro o ho I O h D h7 B af Y;obtain rfl:=asy ho;replace Y:af=aj _ I [5,6] _:=Y;obtain⟨v5,M⟩:=asv.1 (B 5 (by show _∈[5,6];simp))
      obtain⟨v6,h6⟩:=asv.1 (B 6 (by show _∈[5,6];simp))
      obtain⟨a3,c3,b3,R',rfl,rfl,z,A⟩:=h.e7 M h6 h7;simp only[aj,M,h6,Option.getD_some,aP,Act.put,asz]at Y;subst Y;have k0:=z.k0;have f0:=z.f0;have z:=((((z.aK 0 (.int .i64 nd.pg.aA)).aK 1 (.slice a3 nd.pg.sl.length c3)).aK 2 (.string nd.pg.hi)).aK 3 (.bool nd.pg.la)).aK 4 (.int .u64 nd.pg.ri);have gJ:=ass z;have Hn:=ass A;clear z A D B h M h6 h7;go_wp2
      exact⟨rfl,undef,rfl,Hn.out _ gJ.out⟩
    case hQb=>
     intro I O h hall;obtain⟨a3,c3,b3,M,h6,⟨v7,h7⟩,z⟩:=h.last hall;simp only[aj,M,h6,h7,Option.getD_some,aP,Act.put,asz];clear h hall M h6 h7;have z:St K O (blk b3 (.cells #[.int .i64 (nd.pg).aA,(.slice a3 nd.pg.sl.length c3),.string (nd.pg).hi,.bool (nd.pg).la,.int .u64 (nd.pg).ri] 43)::bz (.slice a3 nd.pg.sl.length c3) nd.pg::az (.slice (some ⟨bv+1,0,none⟩) (N+1) (N+1)) 4 1 (N+1) (jG (N+1) pS)::az (.slice (some ⟨ga,0,none⟩) E jH) 23 1 E (aO (l1.map (·.id)))::blk bv (.cells #[.int .i64 (d).th,.int .i64 (d).sn,.int .i64 (d).no,.int .i64 (d).ch,.int .i64 (d).re,.int .i64 (d).fa,.int .u64 (d).cl,.slice (some ⟨g,0,none⟩) n n] 52)::F):=z
     obtain⟨q,hq⟩:∃q,q=nd.pg.sl.length:=⟨_,rfl⟩;have Hq:=ass hq;rw[←hq]at hq4;have z:St K O (blk b3 (.cells #[.int .i64 nd.pg.aA,.slice a3 q c3,.string nd.pg.hi,.bool nd.pg.la,.int .u64 nd.pg.ri] 43)::az (.slice a3 q c3) 69 2 q (aF nd.pg.sl)::az (.slice (some ⟨bv+1,0,none⟩) (N+1) (N+1)) 4 1 (N+1) (jG (N+1) pS)::az (.slice (some ⟨ga,0,none⟩) E jH) 23 1 E (aO (l1.map (·.id)))::blk bv (.cells #[.int .i64 (d).th,.int .i64 (d).sn,.int .i64 (d).no,.int .i64 (d).ch,.int .i64 (d).re,.int .i64 (d).fa,.int .u64 (d).cl,.slice (some ⟨g,0,none⟩) n n] 52)::F):=by rw[hq];exact z
     clear hq;go_upto_region 7 with(fail)
     go_wp2
     go_loopw [7] (fun v7 wr=>∃(j:Nat),v7=.int .i64 j/\j<=q /\
      St K wr (blk b3 (.cells #[.int .i64 nd.pg.aA,.slice a3 q c3,.string nd.pg.hi,.bool nd.pg.la,.int .u64 nd.pg.ri] 43)::az (.slice a3 q c3) 69 2 q (aF nd.pg.sl)::az (.slice (some ⟨bv+1,0,none⟩) (N+1) (N+1)) 4 1 (N+1) (jG (N+1) (pS++(nd.pg.sl.take j).map (·.r)))::az (.slice (some ⟨ga,0,none⟩) E jH) 23 1 E (aO (l1.map (·.id)))::blk bv (.cells #[.int .i64 (d).th,.int .i64 (d).sn,.int .i64 (d).no,.int .i64 (d).ch,.int .i64 (d).re,.int .i64 (d).fa,.int .u64 (d).cl,.slice (some ⟨g,0,none⟩) n n] 52)::F)) (fun v7 _=>q-(intOf v7).toNat)
     case atStart=>exact⟨0,rfl,by omega,by rw[List.take_zero,List.map_nil,List.append_nil];exact z⟩
     case round=>
      clear z;obtain⟨j,rfl,hj,z⟩:=hrel;by_cases hjq:j<q
      ·obtain⟨x,hx⟩:∃x,nd.pg.sl[j]?=some x:=⟨_,asx (by have:=Hq.out;omega)⟩
       obtain⟨r0,r1⟩:=fM nd.pg.sl j x hx;obtain⟨g3,hg3,c0⟩:=(show St K wr (az _ _ _ _ _::_)from z.b1).cQ r1
       subst hg3;have zP:=Hq5.out x (asw hx);obtain⟨y,hy⟩:∃y:Nat,x.r=y:=⟨x.r.toNat,by omega⟩
       have hyN:y<N+1:=by have:=HN.out;omega
       have eu:pS++(nd.pg.sl.take (j+1)).map (·.r)=(pS++(nd.pg.sl.take j).map (·.r))++[(y:Int)]:=by rw[List.take_add_one,hx];simp[hy]
       have iU:=ass eu;have kp:=z.k0;have kv:=z.tail.tail.tail.tail.k0;have G:=z.b2;have G:St K wr (az (.slice (some ⟨bv+1,0,none⟩) (N+1) (N+1)) 4 1 (N+1) (jG (N+1) (pS++(nd.pg.sl.take j).map (·.r)))::_):=G
       rw[hy]at c0;have hwr:IntKind.u64.wrap d.no=d.no:=by rw[IntKind.wrap_u64];omega
       have hmin:min (y:Int) d.no=y:=Int.min_eq_left (by have:=HN.out;omega)
       clear r0 r1 eu hx z zP hy;go_upto_region 10 with(fail)
       refine bN 13 (by kernel_rfl) (by as_aux_lemma=>kernel_rfl) ?_
       simp only[List.take_succ_cons,List.take_zero,List.drop_succ_cons,List.drop_zero];repeat (go_big_quiet_step (fail))
       refine wpQuiet_nil ?_
       intro w9 Tb;have G:=G.same Tb;have fz:=G.Xd (by omega)
       have cH:=G.bG (Ls (pS++(nd.pg.sl.take j).map (·.r)) hyN)
       have Cp:=G.aav (j:=y) (.bool true);rw[Vm]at Cp;clear G c0 kp kv Tb;go_upto_region 9 with(fail)
       refine dc Cp ?_
       clear Cp fz cH hwr hmin;intro w3 z;have z:St K w3 (blk b3 (.cells #[.int .i64 nd.pg.aA,.slice (some ⟨g3,0,none⟩) q c3,.string nd.pg.hi,.bool nd.pg.la,.int .u64 nd.pg.ri] 43)::az (.slice (some ⟨g3,0,none⟩) q c3) 69 2 q (aF nd.pg.sl)::az (.slice (some ⟨bv+1,0,none⟩) (N+1) (N+1)) 4 1 (N+1) (jG (N+1) (pS++(nd.pg.sl.take (j+1)).map (·.r)))::az (.slice (some ⟨ga,0,none⟩) E jH) 23 1 E (aO (l1.map (·.id)))::blk bv (.cells #[.int .i64 (d).th,.int .i64 (d).sn,.int .i64 (d).no,.int .i64 (d).ch,.int .i64 (d).re,.int .i64 (d).fa,.int .u64 (d).cl,.slice (some ⟨g,0,none⟩) n n] 52)::F):=by
        rw[iU.out];exact z.u2
       go_wp2
       go_roundw
       case rel=>exact⟨j+1,by go_num,by omega,z⟩
       case measure=>simp[intOf];omega
      ·obtain rfl:j=q:=by omega
       rw[show nd.pg.sl.take j=nd.pg.sl from List.take_of_length_le (by rw[←Hq.out];exact Nat.le_refl _),←Hrf.out]at z
       have kp:=z.k0;have G:=z.tail.tail;clear z;go_wp2
       go_roundw
       case rel=>exact⟨i+1,by go_num,by omega,G⟩
       case measure=>simp[intOf];omega
   ·obtain rfl:i=E:=by omega
    rw[show l1.take i=l1 from List.take_of_length_le (by rw[←Hm1.out];exact Nat.le_refl _)]at z
    go_wp2
    go_meet;exact⟨a1,z⟩
 case rest=>
 clear z;obtain⟨a1,z⟩:=hcut;apply_assumption
 have z:=z.b1.tail;have z:=z.cJ (T:=99) (size:=2);have kv:=z.k2;go_upto_region 12 with(fail)
 go_wp2_with fail
 refine(Ql0.out _ _ z).mono ?_
 clear z kv Ql0;rintro e w2 ⟨va,rfl,z⟩;obtain⟨a0,Jv,rfl,_,_⟩:=z.aJ;have z:=z.b1;go_wp2
 go_loopw [8,10,11] (fun v8 v10 v11 wr=>∃(i:Nat) (lw:ByteArray) (ao:Option Addr) (co:Nat),v8=.slice ao (fw (l0.take i) l1).length co/\v10=.string lw/\v11=.int .i64 i/\i<=V/\Hid (∀c,l0[i]?=some c->c.low=lw) /\
  St K wr (az (.slice ao (fw (l0.take i) l1).length co) 99 2 (fw (l0.take i) l1).length (fE (fw (l0.take i) l1))::az (.slice a0 V Jv) 23 1 V (aO (l0.map (·.id)))::az (.slice (some ⟨bv+1,0,none⟩) (N+1) (N+1)) 4 1 (N+1) (jG (N+1) (refsOf l1))::blk bv (.cells #[.int .i64 (d).th,.int .i64 (d).sn,.int .i64 (d).no,.int .i64 (d).ch,.int .i64 (d).re,.int .i64 (d).fa,.int .u64 (d).cl,.slice (some ⟨g,0,none⟩) n n] 52)::F)) (fun _ _ v11 _=>V-(intOf v11).toNat)
 case atStart=>exact⟨0,⟨#[]⟩,none,0,rfl,rfl,rfl,by omega,ass (fun c hc=>HR.out.first c hc),z⟩
 case round=>
  clear z;obtain⟨i,lw,ao,co,rfl,rfl,rfl,hi,HLw,z⟩:=hrel;have hq:(fw (l0.take i) l1).length<=4096:=by
   unfold fw;refine Nat.le_trans (List.length_filter_le _ _) ?_
   rw[List.length_drop,List.length_take];have:=Hm0.out;omega
  by_cases him:i<V
  ·obtain⟨c,hc⟩:∃c,l0[i]?=some c:=⟨_,asx (by have:=Hm0.out;omega)⟩
   have hcm:=asw hc;have acT:=(Hn0.out c hcm).id;obtain⟨y,hy⟩:∃y:Nat,c.id=y:=⟨c.id.toNat,by omega⟩
   have hyN:y<N+1:=by have:=HN.out;omega
   have QN:=ass (Qp0.out c hcm);obtain⟨ga,Pk,c0⟩:=(show St K wr (az _ _ _ _ _::_)from z.b1).cQ (show(aO (l0.map (·.id)))[i]?=some (.int .u64 y)by simp[aO,hc,hy])
   subst Pk;have Hc:=ass hc;have Hy:=ass hy;have eb:c.low=lw:=HLw.out c hc;have ak0:=ass eb;have abh:=ass (Ox (l1:=l1) hc);have cI:=(show St K wr (az _ _ _ _ _::_)from z.b2).bG (Ls (refsOf l1) hyN)
   obtain⟨bb,hbb⟩:∃bb,bb=decide ((y:Int)∈refsOf l1):=⟨_,rfl⟩;rw[←hbb]at cI;have Hbb:=ass hbb;obtain⟨S,hS⟩:∃S,S=fw (l0.take i) l1:=⟨_,rfl⟩;rw[←hS]at z hq ⊢;have HS:=ass hS;clear hc hcm acT eb hbb hS hy;go_upto_region 17 with(fail)
   go_cut [70]from 61 to 70 (fun v wx=>v=.bool (decide (0<i) && !bb)/\St K wx (az (.slice ao S.length co) 99 2 S.length (fE S)::az (.slice (some ⟨ga,0,none⟩) V Jv) 23 1 V (aO (l0.map (·.id)))::az (.slice (some ⟨bv+1,0,none⟩) (N+1) (N+1)) 4 1 (N+1) (jG (N+1) (refsOf l1))::blk bv (.cells #[.int .i64 (d).th,.int .i64 (d).sn,.int .i64 (d).no,.int .i64 (d).ch,.int .i64 (d).re,.int .i64 (d).fa,.int .u64 (d).cl,.slice (some ⟨g,0,none⟩) n n] 52)::F))
   case first=>
    as_aux_lemma=>
    rcases Nat.eq_zero_or_pos i with rfl|oN
    ·go_wp2
     go_meet;exact⟨rfl,z⟩
    ·have hgi:(0:Int)<i:=by omega
     go_wp2
     go_meet;exact⟨by rw[decide_eq_true oN];rfl,z⟩
   case rest=>
   clear z;obtain⟨rfl,z⟩:=hcut;apply_assumption
   go_cut [8]from 70 to 79 (fun v wx=>∃(ao:Option Addr) (co:Nat),v=.slice ao (fw (l0.take (i+1)) l1).length co/\St K wx (az (.slice ao (fw (l0.take (i+1)) l1).length co) 99 2 (fw (l0.take (i+1)) l1).length (fE (fw (l0.take (i+1)) l1))::az (.slice (some ⟨ga,0,none⟩) V Jv) 23 1 V (aO (l0.map (·.id)))::az (.slice (some ⟨bv+1,0,none⟩) (N+1) (N+1)) 4 1 (N+1) (jG (N+1) (refsOf l1))::blk bv (.cells #[.int .i64 (d).th,.int .i64 (d).sn,.int .i64 (d).no,.int .i64 (d).ch,.int .i64 (d).re,.int .i64 (d).fa,.int .u64 (d).cl,.slice (some ⟨g,0,none⟩) n n] 52)::F))
   case first=>
    as_aux_lemma=>
    have U:=abh.out;rw[Hy.out]at U;rcases Bool.eq_false_or_eq_true (decide (0<i) && !bb)with X|X
    ·have hb2:i > 0/\¬ (y:Int)∈refsOf l1:=by
      rw[Bool.and_eq_true]at X;refine⟨of_decide_eq_true X.1,fun h=>?_⟩
      have h2:=X.2;rw[Hbb.out,decide_eq_true h]at h2;cases h2
     rw[if_pos hb2,←HS.out]at U;have Hst:=ass U;rw[X];clear U X hb2 c0 cI;have c0:=(show St K _ (az _ _ _ _ _::_)from z.b1).bG (show(aO (l0.map (·.id)))[i]?=some (.int .u64 y)by simp[aO,Hc.out,Hy.out])
     go_wp2_with (at_builtin;refine dM _ _ 96 99 _ S.length 2 24 _ [.string lw,.int .u64 y] (.agg #[.string ⟨#[]⟩,.int .u64 0]) iv z rfl rfl Tryz.underlying96 lO.out lQ.out lR.out lS.out rfl (by decide) rfl rfl rfl (fun u hu=>by simp at hu;rcases hu with rfl|rfl <;> rfl) (by omega) (by decide) ?_)
     clear z c0;intro v' w' z;obtain⟨an,cn,hv,_,_⟩:=z.aJ;subst hv;go_wp2
     go_meet;rw[Hst.out,List.length_append,List.length_singleton,Jk,ak0.out,Hy.out];exact⟨an,cn,rfl,z⟩
    ·have hb2:¬ (i > 0/\¬ (y:Int)∈refsOf l1):=fun⟨h1,h2⟩=>by
      rw[decide_eq_true h1,Hbb.out,decide_eq_false h2]at X;cases X
     rw[if_neg hb2,←HS.out]at U;have Hst:=ass U;rw[X];clear U X hb2 c0 cI;go_wp2
     go_meet;rw[Hst.out];exact⟨ao,co,rfl,z⟩
   case rest=>
   clear z;obtain⟨ao,co,rfl,z⟩:=hcut;apply_assumption
   clear HS abh hq;have Hnx:Hid (∀c',l0[i+1]?=some c' -> c'.low=c.pg.hi):=ass (fun c' h=>((HR.out.next i c c' Hc.out h).2.1).symm)
   clear c0 cI;go_upto_region 19 with(fail)
   have Hs:=ass z;clear z;refine cX [false,false,false,false,false,true,true,false] (fun|6=>some (.string c.pg.hi)|_=>none) [5,6] (fun|6=>[5] | _=>[])
    (GR K (az (.slice ao (fw (l0.take (i+1)) l1).length co) 99 2 (fw (l0.take (i+1)) l1).length (fE (fw (l0.take (i+1)) l1))::az (.slice (some ⟨ga,0,none⟩) V Jv) 23 1 V (aO (l0.map (·.id)))::az (.slice (some ⟨bv+1,0,none⟩) (N+1) (N+1)) 4 1 (N+1) (jG (N+1) (refsOf l1))::blk bv (.cells #[.int .i64 (d).th,.int .i64 (d).sn,.int .i64 (d).no,.int .i64 (d).ch,.int .i64 (d).re,.int .i64 (d).fa,.int .u64 (d).cl,.slice (some ⟨g,0,none⟩) n n] 52)::F) [5,6] (vH c.pg (.string c.pg.hi) 5 6))
    (fun W=>St K W (az (.slice ao (fw (l0.take (i+1)) l1).length co) 99 2 (fw (l0.take (i+1)) l1).length (fE (fw (l0.take (i+1)) l1))::az (.slice (some ⟨ga,0,none⟩) V Jv) 23 1 V (aO (l0.map (·.id)))::az (.slice (some ⟨bv+1,0,none⟩) (N+1) (N+1)) 4 1 (N+1) (jG (N+1) (refsOf l1))::blk bv (.cells #[.int .i64 (d).th,.int .i64 (d).sn,.int .i64 (d).no,.int .i64 (d).ch,.int .i64 (d).re,.int .i64 (d).fa,.int .u64 (d).cl,.slice (some ⟨g,0,none⟩) n n] 52)::F)) ?akO (by kernel_rfl) ?adg ?rbH ?Wp ?adh ?adi ?adj ?adk ?adl
   case adg=>as_aux_lemma=>kernel_rfl
   case rbH=>
    intro O z;have kv:=z.tail.tail.tail.k0;have c0:=(show St K O (az _ _ _ _ _::_)from z.b1).bG (show(aO (l0.map (·.id)))[i]?=some (.int .u64 c.id)by simp[aO,Hc.out])
    clear z;simp only[cF];repeat (go_big_quiet_step (fail))
    refine wpQuiet_nil ?_
    rfl
   case Wp=>rfl
   case adh=>exact GR.start Hs.out
   case adi=>exact fun I O h=>h.rest
   case adj=>exact fun I O W3 h X=>h.same X
   case adk=>
    refine⟨?adm,?adn,trivial⟩;case adm=>
     intro o ho I O h D M B act dy;obtain rfl:=asy ho;replace dy:act=aj _ I [] _:=dy;obtain⟨C,R',hx1,z,A⟩:=h.step vH.mono 5 [] (by decide) (by decide) (by decide) M (by simp)
     simp only[aj]at dy;subst dy;have Hn:=ass A;clear A hx1 h D B M;go_wp2_with fail
     refine(QN.out _ _ z).mono ?_
     rintro e W3 ⟨va8,rfl,R⟩;obtain⟨a8,c8,rfl,_,_⟩:=R.aJ;have eT:=ass R;clear z R;go_wp2
     exact⟨rfl,_,rfl,fun u hu=>(by cases hu),Hn.out _ _ W3 ⟨a8,c8,rfl,rfl⟩ eT.out⟩
    case adn=>
     intro o ho I O h D h6 B act dy;obtain rfl:=asy ho;replace dy:act=aj _ I [5] _:=dy;obtain⟨v5,M⟩:=asv.1 (B 5 (by show _∈[5];simp))
     obtain⟨Zl,R8,⟨a8,c8,rfl,rfl⟩,Wo⟩:=h.at 5 (by simp) M
     simp only[aj,M,Option.getD_some,aP,Act.put,asz]at dy;subst dy;have H:=ass (h.kE vH.mono 6 (by decide) (by simp) h6 _ ⟨rfl,rfl⟩)
     clear h Wo D B h6 M;go_wp2
     exact⟨rfl,_,rfl,fun u hu=>asy hu,H.out⟩
   case adl=>
    intro I O h hall;have z:=h.rest;clear h;simp only[aj,Option.getD_some,aP,Act.put,asz];go_wp2
    go_roundw
    case rel=>exact⟨i+1,c.pg.hi,ao,co,rfl,rfl,by go_num,by omega,Hnx,z⟩
    case measure=>simp[intOf];omega
  ·obtain rfl:i=V:=by omega
   have e2:l0.take i=l0:=List.take_of_length_le (by rw[←Hm0.out];exact Nat.le_refl _)
   have E2:=ass e2;clear e2;go_wp2
   go_ret;exact⟨_,rfl,by
    show St K wr (az (.slice ao (fw (l0.take i) l1).length co) 99 2 (fw l0 l1).length (fE (fw l0 l1))::F)
    have h:=z.b9.b9.b9;rw[E2.out]at h ⊢;exact h⟩
end
end
section
def lI (d:aU):Array Value:= #[.int .i64 (d).th,.int .i64 (d).sn,.int .i64 (d).no,.int .i64 (d).ch,.int .i64 (d).re,.int .i64 (d).fa,.int .u64 (d).cl]
def Fs (d:aU)(g n:Nat):Array Value:= #[.int .i64 (d).th,.int .i64 (d).sn,.int .i64 (d).no,.int .i64 (d).ch,.int .i64 (d).re,.int .i64 (d).fa,.int .u64 (d).cl,.slice (some ⟨g,0,none⟩) n n]
theorem vK:∀(ks:List ByteArray)(i:Nat),(cN i ks).map (·.k)=ks
 | [],i=>rfl
 | k::ks,i=>by
  show k::(cN (i+1) ks).map (·.k)=_
  rw[vK ks (i+1)]
def Xi (fa:Int):aU:=⟨1,2,300,100,200,4+fa%3,1000⟩
theorem Fe (fa:Int):(Xi fa).Ok:=by
 have h0:0<=fa%3:=by omega
 have c:fa%3<=2:=by omega
 constructor <;> simp only[Xi] <;> omega
theorem Xj (c:Int):∃d:aU,Hid d.Ok/\Hid (d.fa<=6)/\Hid (d.no=300)/\Hid (d.ch=100)/\Hid (∀w,Calls Tryz.prog 12 #[.int .i64 1,.int .i64 c] w fun e w' => e=.returned (.agg #[.int .i64 d.th,.int .i64 d.sn,.int .i64 100,.int .i64 d.ch,.int .i64 d.re,.int .i64 d.fa,.int .u64 d.cl])/\Below w.heap.size w w') /\
  Hid (∀w K cs,St K w cs->Calls Tryz.prog 13 #[.agg #[.int .i64 (d).th,.int .i64 (d).sn,.int .i64 (d).no,.int .i64 (d).ch,.int .i64 (d).re,.int .i64 (d).fa,.int .u64 (d).cl]] w fun e h => ∃bm bc,e=.returned (.tuple #[.agg #[.int .i64 (d).th,.int .i64 (d).sn,.int .i64 (d).no,.int .i64 (d).ch,.int .i64 (d).re,.int .i64 (d).fa,.int .u64 (d).cl],(.pointer (some ⟨bm,0,none⟩))])/\St K h (aL bm bc (cB d) 0::cs)):=
 ⟨Xi c,ass (Fe c),ass (by show 4+c%3<=6;omega),ass rfl,ass rfl,ass (fun w=>oM 1 c w),ass (fun w K cs j=>p8 (Fe c) j)⟩
section
variable {K:aM}{w:World}{F:List aC}{d:aU}{g:Nat}{L:List aQ}{t:List (List Nd)}{l0:List Nd}{ks:List ByteArray}
theorem Xk (j:d.Ok)(x:d.ch=100)(h:Re d ks l0 L t)(hk:ks.length<=36)(u:K.map g=some (.cells (flat L).toArray 63)) :
  L.length<=1000000/\(∀W F,St K W F->Calls Tryz.prog 58 #[.agg #[.int .i64 (d).th,.int .i64 (d).sn,.int .i64 (d).no,.int .i64 (d).ch,.int .i64 (d).re,.int .i64 (d).fa,.int .u64 (d).cl,.slice (some ⟨g,0,none⟩) L.length L.length]] W fun e w' => ∃v,e=.returned v/\St K w' (az v 99 2 (fw l0 (t[1]?.getD [])).length (fE (fw l0 (t[1]?.getD [])))::F)) /\
  (∀W F,St K W F->Calls Tryz.prog 55 #[.agg #[.int .i64 (d).th,.int .i64 (d).sn,.int .i64 (d).no,.int .i64 (d).ch,.int .i64 (d).re,.int .i64 (d).fa,.int .u64 (d).cl,.slice (some ⟨g,0,none⟩) L.length L.length]] W fun e w' => ∃v,e=.returned v/\St K w' (az v 9 1 ks.length (bO ks)::F)) /\
  (∀W,W.heap[g]?=some (.cells (flat L).toArray 63)->Calls Tryz.prog 24 #[.agg #[.int .i64 (d).th,.int .i64 (d).sn,.int .i64 (d).no,.int .i64 (d).ch,.int .i64 (d).re,.int .i64 (d).fa,.int .u64 (d).cl,.slice (some ⟨g,0,none⟩) L.length L.length]] W fun e w' => e=.returned (.bool true)/\Below W.heap.size W w'):=by
 have y:=j.eF;have hl:L.length<=1000000:=by have:=h.fq;omega
 have c:(l0.flatMap fun nd=>nd.pg.sl).length=ks.length/\(l0.flatMap fun nd=>nd.pg.sl).map (·.k)=ks:=by
  rw[h.leaves];exact⟨gQ ks 0,vK ks 0⟩
 refine⟨hl,fun W F o=>Xh j h.ok h.r0 rfl u hl o,fun W F o=>?_,fun W z=>?_⟩
 ·have q:=Ex j h.ok h.r0 u hl o
  rw[c.1,c.2]at q;exact q
 ·exact(zH (K:=aM.of W) j h.iq h.fq (h.snd j (by omega)) z (St.start W)).mono (fun e w' (h:_/\_)=>(⟨h.1,h.2.below (aM.Le.refl _)⟩:_/\Below W.heap.size W w'))
end
end
section
theorem Xl {t t':List (List Nd)}{n e:Nat}(h:∀j,1<=j->bW t' j<=bW t j+if j=n then e else 0):∀k,sH t' k<=sH t k+if n<k then e else 0
 | 0=>by simp[sH]
 | k+1=>by
  have ih:=Xl h k;show sH t' k+(if 1<=k then bW t' k else 0)<=sH t k+(if 1<=k then bW t k else 0)+_
  by_cases c:1<=k
  ·have:=h k c
   rw[if_pos c,if_pos c];by_cases o:k=n
   ·rw[if_pos o]at this
    rw[if_neg (by omega)]at ih
    rw[if_pos (by omega)]
    omega
   ·rw[if_neg o]at this
    by_cases e2:n<k
    ·rw[if_pos e2]at ih
     rw[if_pos (by omega)]
     omega
    ·rw[if_neg e2]at ih
     omega
  ·rw[if_neg c,if_neg c]
   by_cases e2:n<k
   ·rw[if_pos e2]at ih
    rw[if_pos (by omega)]
    omega
   ·rw[if_neg e2]at ih
    omega
theorem abi {t t':List (List Nd)}{n e q:Nat}(h:∀j,1<=j->bW t' j<=bW t j+if j=n then e else 0)(c:1<=q)(o:q≠n)(x:bW t' q+1<=bW t q):∀k,q<k->sH t' k+1<=sH t k+if n<k then e else 0
 | 0,h0=>by omega
 | k+1,hk=>by
  show sH t' k+(if 1<=k then bW t' k else 0)+1<=sH t k+(if 1<=k then bW t k else 0)+_
  rw[if_pos (by omega),if_pos (by omega)]
  rcases Nat.lt_or_ge q k with u|u
  ·have ih:=abi h c o x k u
   have:=h k (by omega)
   by_cases v:k=n
   ·rw[if_pos v]at this
    rw[if_neg (by omega)]at ih
    rw[if_pos (by omega)]
    omega
   ·rw[if_neg v]at this
    by_cases e2:n<k
    ·rw[if_pos e2]at ih
     rw[if_pos (by omega)]
     omega
    ·rw[if_neg e2]at ih
     omega
  ·obtain rfl:q=k:=by omega
   have ih:=Xl h q;by_cases e2:n<q
   ·rw[if_pos e2]at ih
    rw[if_pos (by omega)]
    omega
   ·rw[if_neg e2]at ih
    omega
def wQ (t:List (List Nd))(n:Nat)(s:dS):Prop:=
 if s.pc=2\/s.pc=3 then s.ins.full=false/\s.ins.sp=true/\¬ mD t (n+1) s.ins.id else 2<=n/\¬ mD t n s.f.ch
structure PoX (X0:Nat)(t:List (List Nd))(n:Nat)(s:dS):Prop where
 x0:1<=X0
 Ma:Occ t
 sx:2<=t.length->sH t t.length<=X0\/(wQ t n s/\sH t t.length<=X0+1)
 nf:2<=n->∀l,t[n-1]?=some l->∀a,l[0]?=some a->a.id≠s.f.ch
 nf2:s.pc=2\/s.pc=3->s.ins.full=false->s.ins.sp=true->∀l,t[n]?=some l->2<=l.length/\∀a,l[0]?=some a->a.id≠s.ins.id
 tw:t.length=n->∀l,t[n-1]?=some l->2<=l.length
 inn:((s.pc=2\/s.pc=3)/\s.ins.full=false)\/s.pc=4\/(s.pc=14/\s.f.po=true)->mD t n s.f.ch
section
variable {t:List (List Nd)}{N:Int}{k i:Nat}{l:List Nd}{nd:Nd}{key:ByteArray}{r nw:Int}{sp:Bool}
theorem zJ (hk:t[k+1]?=some l)(hi:l[i]?=some nd):bW (eM t (k+1) i l nd (aI nd.pg key r) nw sp) k<=bW t k:=by
 have c:(eM t (k+1) i l nd (aI nd.pg key r) nw sp)[k]?=t[k]? := dD (by omega)
 unfold bW mR;rw[c];have mono:∀m:List Nd,(m.filter fun a => !decide (a.id∈refsOf ((eM t (k+1) i l nd (aI nd.pg key r) nw sp)[k+1]?.getD []))).length<=(m.filter fun a => !decide (a.id∈refsOf (t[k+1]?.getD []))).length:=by
  intro m;induction m with
  | nil=>exact Nat.le_refl _
  | cons a m ih=>
   rw[List.filter_cons,List.filter_cons];by_cases h:a.id∈refsOf (t[k+1]?.getD [])
   ·have e:a.id∈refsOf ((eM t (k+1) i l nd (aI nd.pg key r) nw sp)[k+1]?.getD []):=by
     rw[←lH]at h ⊢;exact(qQ hk hi _).2 (.inl h)
    rw[if_neg (by simp[e]),if_neg (by simp[h])]
    exact ih
   ·rw[if_pos (show(!decide (a.id∈refsOf (t[k+1]?.getD [])))=true by simp[h])]
    split
    ·simp only[List.length_cons];omega
    ·simp only[List.length_cons];omega
 exact mono _
theorem Ff {fa:Int}(h:4<=fa)(j:(nd.pg.sl.length:Int)<=fa)(o:fa<((aI nd.pg key r).sl.length:Int)) :
  2<=(ed (aI nd.pg key r) nw).sl.length/\2<=(cZ (aI nd.pg key r)).sl.length/\((ed (aI nd.pg key r) nw).sl.length:Int)<fa/\((cZ (aI nd.pg key r)).sl.length:Int)<fa/\(nd.pg.sl.length:Int)=fa:=by
 have e:(aI nd.pg key r).sl.length=nd.pg.sl.length+1:=dU _ _ _;have c:(ed (aI nd.pg key r) nw).sl.length=min (gm (aI nd.pg key r).sl.length) (aI nd.pg key r).sl.length:=List.length_take;have e2:(cZ (aI nd.pg key r)).sl.length=(aI nd.pg key r).sl.length-gm (aI nd.pg key r).sl.length:=List.length_drop;have e3:gm (aI nd.pg key r).sl.length=(aI nd.pg key r).sl.length-(aI nd.pg key r).sl.length / 2:=rfl;rw[c,e2,e3];omega
theorem Xm {fa:Int}(C:4<=fa)(o:Occ t)(hk:t[k]?=some l)(hi:l[i]?=some nd)(D:(nd.pg.sl.length:Int)<=fa)(E:sp=true->fa<((aI nd.pg key r).sl.length:Int)):Occ (eM t k i l nd (aI nd.pg key r) nw sp):=by
 have x:=(asu.1 hk).1;have hlen:=(asu.1 hi).1;have e:(aI nd.pg key r).sl.length=nd.pg.sl.length+1:=dU _ _ _;refine⟨fun k' l' c j a h u=>?_,fun k' l' c q=>?_⟩
 ·by_cases v:k' + 1=k
  ·subst v
   cases sp with
   | false=>
    have e2:(eM t (k' + 1) i l nd (aI nd.pg key r) nw false)[k' + 1]?=some (l.set i { nd with pg:=aI nd.pg key r }):=List.getElem?_set_self x;rw[e2]at c;obtain rfl:=asy c;rw[List.length_set]at u;by_cases y:i=j
    ·subst y
     rw[List.getElem?_set_self hlen]at h;obtain rfl:=asy h;have:=o.two k' l hk i nd hi u;show 2<=(aI nd.pg key r).sl.length
     omega
    ·rw[List.getElem?_set_ne y]at h
     exact o.two k' l hk j a h u
   | true=>
    obtain⟨G,H,_⟩:=Ff (key:=key) (r:=r) (nw:=nw) C D (E rfl);have e2:(eM t (k' + 1) i l nd (aI nd.pg key r) nw true)[k' + 1]?=some (pM l i { nd with pg:=ed (aI nd.pg key r) nw } ⟨nw,bM (aI nd.pg key r),cZ (aI nd.pg key r)⟩):=List.getElem?_set_self x;rw[e2]at c;obtain rfl:=asy c;rw[oy hlen]at u;rw[fO hlen]at h;by_cases z:j<i
    ·rw[if_pos z]at h
     exact o.two k' l hk j a h (by omega)
    ·rw[if_neg z]at h
     by_cases A:j=i
     ·rw[if_pos A]at h
      obtain rfl:=asy h;exact G
     ·rw[if_neg A]at h
      by_cases B:j=i+1
      ·rw[if_pos B]at h
       obtain rfl:=asy h;exact H
      ·rw[if_neg B]at h
       exact o.two k' l hk (j-1) a h (by omega)
  ·rw[dD v]at c
   exact o.two k' l' c j a h u
 ·rw[lG]at q
  by_cases v:k'=k
  ·subst v
   have:=o.one k' l hk q;cases sp with
   | false=>
    have e2:(eM t k' i l nd (aI nd.pg key r) nw false)[k']?=some (l.set i { nd with pg:=aI nd.pg key r }):=List.getElem?_set_self x;rw[e2]at c;obtain rfl:=asy c;rw[List.length_set];exact this
   | true=>
    have e2:(eM t k' i l nd (aI nd.pg key r) nw true)[k']?=some (pM l i { nd with pg:=ed (aI nd.pg key r) nw } ⟨nw,bM (aI nd.pg key r),cZ (aI nd.pg key r)⟩):=List.getElem?_set_self x;rw[e2]at c;obtain rfl:=asy c;rw[oy hlen];omega
  ·rw[dD v]at c
   exact o.one k' l' c q
end
section
variable {d:aU}{P:zR}{L:List aQ}{t t':List (List Nd)}{n n' m m':Nat}{s s':dS}{X0:Nat}
theorem jm.go (h:jm d L s s')(hp:s.pc<=13):(s.pc≠3->s'.f.ch=s.f.ch) /\
  (s.pc=0->s'.pc=0\/s'.pc=1\/s'.pc=4\/s'.pc=5)/\(s.pc=1->s'.pc=1\/s'.pc=2) /\
  (s.pc=2->s'.ins=s.ins/\((s'.pc=14/\s.ins.full=true)\/(s'.pc=14/\s.ins.full=false/\s.right.id=0)\/(s'.pc=3/\s.ins.full=false))) /\
  (s.pc=3->s'.pc=0/\s'.f.ch=s.right.id)/\(4<=s.pc->s'.pc≠2/\s'.pc≠3/\s'.pc≠4)/\(s.pc=13->s'.f.po=false)/\(5<=s.pc->s'.pc=14->s.pc=13):=by
 obtain⟨pc,f,lk,fr,ins,aq,root,word,tk,id,k⟩:=s;simp only at hp;rcases(by omega:pc=0\/pc=1\/pc=2\/pc=3\/pc=4\/pc=5\/pc=6\/pc=7\/pc=8\/pc=9\/pc=10\/pc=11\/pc=12\/pc=13)with rfl|rfl|rfl|rfl|rfl|rfl|rfl|rfl|rfl|rfl|rfl|rfl|rfl|rfl
 ·rcases h with⟨_,rfl⟩|⟨_,⟨_,rfl⟩|⟨_,_,rfl⟩|⟨_,_,_,_,rfl⟩⟩ <;> simp
 ·obtain⟨_,_,⟨_,rfl⟩|⟨_,rfl⟩⟩:=h <;> simp
 ·rcases h with⟨h,rfl⟩|⟨h,c,rfl⟩|⟨h,c,rfl⟩
  ·simp only at h
   simp[h,jF.end]
  ·simp only at h
   simp[h,c,jF.end]
  ·simp only at h
   simp[h]
 ·obtain rfl:s'=_:=h
  simp
 ·obtain rfl:s'=_:=h
  simp[jF.end]
 ·rcases h with⟨_,rfl⟩|⟨_,rfl⟩ <;> simp
 ·obtain rfl:s'=_:=h
  simp
 ·rcases h with⟨_,rfl⟩|⟨_,rfl⟩ <;> simp
 ·obtain rfl:s'=_:=h
  simp
 ·rcases h with⟨_,rfl⟩|⟨_,_,rfl⟩|⟨_,_,rfl⟩ <;> simp
 ·rcases h with⟨_,rfl⟩|⟨_,rfl⟩ <;> simp
 ·obtain rfl:s'=_:=h
  simp
 ·obtain rfl:s'=_:=h
  simp
 ·obtain rfl:s'=_:=h
  simp[jF.end]
theorem PoX.step (hd:d.Ok)(hr:P.room=true)(h:iX d P L t n s m)(h0:s.pc<14)(u:PoX X0 t n s)(hn:jm d L s s'){L':List aQ}(h':iX d P L' t' n' s' m')(Pv:Jp d t t' n n' s s'):PoX X0 t' n' s' := by
 obtain⟨g1,g2,g3,g4,g5,g6,g7,g8⟩:=hn.go (by omega)
 have hS:=h.base.tree.sh;have hn1:=h.n1;have pQ:=hd.fy;rcases Pv with⟨rfl,e1,e2,e3⟩|⟨p1,p2,en,f1,f2,i,l,nd,H,rfl,E,hle⟩|⟨p12,en,nd,l,r,ei,rfl,hrp,hno⟩
 ·by_cases Q:s.pc=3
  ·-- the next level
   obtain⟨q1,V⟩:=g5 Q;have v:=h.st;have W:s.ins.full=false/\s.ins.sp=true:=by
    obtain⟨pc,f,lk,fr,ins,aq,root,word,tk,id,k⟩:=s;simp only at Q;subst Q;exact⟨v.2.1,v.2.2.1⟩
   have zE:s.right.id=s.ins.id:=by
    unfold dS.right gh.right;rw[W.2];rfl
   rw[e2 Q];rw[zE]at V;have k2:=u.nf2 (.inr Q) W.1 W.2;refine⟨u.x0,u.Ma,fun A=>?_,fun _ l' o a z=>?_,fun hp=>by omega,fun A l' o =>?_,fun hp=>by omega⟩
   ·rcases u.sx A with B|⟨hp,B⟩
    ·exact .inl B
    ·refine .inr ⟨?_,B⟩
     unfold wQ at hp ⊢;rw[if_pos (.inr Q)]at hp;rw[if_neg (by omega),V]
     exact⟨by omega,hp.2.2⟩
   ·rw[Nat.add_sub_cancel]at o
    rw[V];exact(k2 l' o).2 a z
   ·rw[Nat.add_sub_cancel]at o
    exact(k2 l' o).1
  ·have en:=e1 Q
   have C:=g1 Q;rw[en];refine⟨u.x0,u.Ma,fun A=>?_,fun y=>by rw[C];exact u.nf y,fun hp=>?_,u.tw,fun hp=>?_⟩
   ·rcases u.sx A with B|⟨hp,B⟩
    ·exact .inl B
    ·by_cases y:s.pc=2
     ·obtain⟨q1,V⟩:=g4 y
      unfold wQ at hp;rw[if_pos (.inl y)]at hp;rcases V with⟨_,q⟩|⟨_,_,q⟩|⟨q,_⟩
      ·rw[hp.1]at q;cases q
      ·exfalso
       have v:=h.st;have ju:1<=s.ins.id:=by
        obtain⟨pc,f,lk,fr,ins,aq,root,word,tk,id,k⟩:=s;simp only at y;subst y;exact(v.2.2.1 hp.1 hp.2.1).2.2.1
       have zE:s.right.id=s.ins.id:=by
        unfold dS.right gh.right;rw[hp.2.1];rfl
       omega
      ·refine .inr ⟨?_,B⟩
       unfold wQ;rw[if_pos (.inr q),q1];exact hp
     ·by_cases G:s.pc=1
      ·rcases e3 G with q|q
       ·refine .inr ⟨?_,B⟩
        unfold wQ at hp ⊢;rw[if_neg (by omega)]at hp
        rw[if_neg (by omega),C]
        exact hp
       ·exfalso
        have R:=g3 G;rcases R with R|R
        ·have v:=h'.st
         obtain⟨pc,f,lk,fr,ins,aq,root,word,tk,id,k⟩:=s';simp only at R q;subst R;obtain⟨_,_,_,_,_,_,_,_,rD,_⟩:=v;simp only at rD;rw[q]at rD;cases rD
        ·have v:=h'.st
         obtain⟨pc,f,lk,fr,ins,aq,root,word,tk,id,k⟩:=s';simp only at R q;subst R;have:=v.2.1 q;rw[hr]at this;cases this
      ·refine .inr ⟨?_,B⟩
       have ak2:¬ (s'.pc=2\/s'.pc=3):=by
        rcases Nat.lt_or_ge s.pc 4 with S|S
        ·have:=g2 (by omega)
         omega
        ·have:=g6 S
         omega
       unfold wQ at hp ⊢;rw[if_neg (by omega)]at hp
       rw[if_neg ak2,C];exact hp
   ·-- 2 or 3
    rcases Nat.lt_or_ge s.pc 4 with S|S
    ·by_cases y:s.pc=2
     ·rw[(g4 y).1]
      exact u.nf2 (.inl y)
     ·by_cases G:s.pc=1
      ·have R:s'.pc=2:=by have:=g3 G;omega
       intro jS _;rcases e3 G with q|q
       ·omega
       ·rw[q]at jS;cases jS
      ·have:=g2 (by omega)
       omega
    ·have:=g6 S
     omega
   ·rw[C]
    rcases Nat.lt_or_ge s.pc 4 with S|S
    ·by_cases y:s.pc=2
     ·obtain⟨q1,V⟩:=g4 y
      rcases V with⟨q,qf⟩|⟨_,q,_⟩|⟨_,q⟩
      ·exfalso
       have v:=h.st;have agv:s.ins.full=true->P.room=false:=by
        obtain⟨pc,f,lk,fr,ins,aq,root,word,tk,id,k⟩:=s;simp only at y;subst y;exact v.2.1
       have:=agv qf;rw[hr]at this;cases this
      ·exact u.inn (.inl ⟨.inl y,q⟩)
      ·exact u.inn (.inl ⟨.inl y,q⟩)
     ·by_cases G:s.pc=1
      ·exfalso
       rcases hp with⟨_,hf⟩|hp|⟨hp,_⟩
       ·rcases e3 G with q|q
        ·omega
        ·rw[q]at hf;cases hf
       ·have:=g3 G;omega
       ·have:=g3 G;omega
      ·have h00:s.pc=0:=by omega
       rcases g2 h00 with q|q|q|q
       ·exfalso;omega
       ·exfalso;omega
       ·have v:=h'.st
        rw[←en,←C];obtain⟨pc,f,lk,fr,ins,aq,root,word,tk,id,k⟩:=s';simp only at q;subst q;exact v.2.1
       ·exfalso;omega
    ·have h6:=g6 S
     rcases hp with⟨hp,_⟩|hp|⟨hp,Fp⟩
     ·omega
     ·omega
     ·by_cases h44:s.pc=4
      ·exact u.inn (.inr (.inl h44))
      ·exfalso
       have:=g7 (g8 (by omega) hp)
       rw[Fp]at this;cases this
 ·-- the slot is entered
  obtain rfl:=en.symm;have ox:=(asu.1 H.hk).1;have jS:s.fu=aI nd.pg s.f.sep s.f.ch:=by unfold dS.fu;rw[H.pg]
  rw[jS]at E ⊢;have hlen:=(asu.1 H.hi).1;have C:=g1 (by omega)
  have fC:s.ins.sp=true->∀(l1:List Nd),t[n]?=some l1->∀a,a∈l1->a.id≠s'.ins.id:=fun e l1 mU a z=>(E e).1 n l1 mU a z
  obtain⟨k,rfl⟩:∃k,n=k+1:=⟨n-1,by omega⟩
  have X:=Wq (key:=s.f.sep) (r:=s.f.ch) (nw:=s'.ins.id) (sp:=s.ins.sp) hS H.hk H.hi fC;have ads:=zJ (key:=s.f.sep) (r:=s.f.ch) (nw:=s'.ins.id) (sp:=s.ins.sp) H.hk H.hi;have U:∀j,1<=j->bW (eM t (k+1) i l nd (aI nd.pg s.f.sep s.f.ch) s'.ins.id s.ins.sp) j<=bW t j+if j=k+1 then(if s.ins.sp=true then 1 else 0)else 0:=fun j hj=>by
   by_cases Y:j=k+1
   ·rw[if_pos Y,Y,X];exact Nat.le_refl _
   ·rw[if_neg Y]
    by_cases c2:j=k
    ·rw[c2];exact ads
    ·rw[Pq Y (by omega)];exact Nat.le_refl _
  have ak3:=Xm (key:=s.f.sep) (r:=s.f.ch) (nw:=s'.ins.id) (sp:=s.ins.sp) pQ u.Ma H.hk H.hi hle (fun e=>(E e).2)
  have adt:s.ins.sp=true->¬ mD (eM t (k+1) i l nd (aI nd.pg s.f.sep s.f.ch) s'.ins.id s.ins.sp) (k+1+1) s'.ins.id:=fun e D=>by
   obtain⟨l2,b,x,I,hb,M,zP⟩:=D;rw[dD (by omega)]at I
   obtain⟨c,hc,e3,_⟩:=(hS.down (k+1) l l2 H.hk I b hb).2 x M;exact(E e).1 (k+1) l H.hk c hc (by rw[e3,zP])
  have D:mD (eM t (k+1) i l nd (aI nd.pg s.f.sep s.f.ch) s'.ins.id s.ins.sp) (k+1) s.f.ch:=(qQ H.hk H.hi _).2 (.inr rfl);refine⟨u.x0,ak3,fun A=>?_,fun y l' o a z=>?_,fun _ _ e=>?_,fun A l' o =>?_,fun _=>by rw[C];exact D⟩
  ·rw[lG]at A ⊢
   have Px:=Xl U t.length;rw[if_pos ox]at Px;have dA:sH (eM t (k+1) i l nd (aI nd.pg s.f.sep s.f.ch) s'.ins.id s.ins.sp) t.length<=X0+if s.ins.sp=true then 1 else 0:=by
    rcases u.sx A with B|⟨hp,B⟩
    ·omega
    ·unfold wQ at hp
     rw[if_neg (by omega)]at hp
     obtain⟨l0,c,hl0,hc,hc1,_⟩:=h.task (.inl (by omega))
     rw[Nat.add_sub_cancel]at hl0;have hlt:=Po (key:=s.f.sep) (nw:=s'.ins.id) (sp:=s.ins.sp) hS H.hk H.hi hl0 hc hc1 hp.2;have:=abi U (q:=k) (by omega) (by omega) (by omega) t.length (by omega)
     rw[if_pos ox]at this;omega
   by_cases e:s.ins.sp=true
   ·rw[if_pos e]at dA
    refine .inr ⟨?_,dA⟩;unfold wQ;rw[if_pos (.inl p2)];exact⟨f2,by rw[f1];exact e,adt e⟩
   ·rw[if_neg e]at dA
    exact .inl dA
  ·rw[dD (by omega)]at o
   rw[C];exact u.nf y l' o a z
  ·intro l' o
   rw[f1]at e;rw[e]at o;have e2:(eM t (k+1) i l nd (aI nd.pg s.f.sep s.f.ch) s'.ins.id true)[k+1]?=some (pM l i { nd with pg:=ed (aI nd.pg s.f.sep s.f.ch) s'.ins.id } ⟨s'.ins.id,bM (aI nd.pg s.f.sep s.f.ch),cZ (aI nd.pg s.f.sep s.f.ch)⟩):=List.getElem?_set_self ox;rw[e2]at o;obtain rfl:=asy o;refine⟨by rw[oy hlen];omega,fun a z=>?_⟩
   rw[fO hlen]at z;by_cases Y:0<i
   ·rw[if_pos Y]at z
    exact fC e l H.hk a (asw z)
   ·rw[if_neg Y,if_pos (by omega)]at z
    rw[←asy z];exact fC e l H.hk nd (asw H.hi)
  ·rw[lG]at A
   omega
 ·-- a new root
  obtain rfl:=en.symm;have v:=h.st;have A:t.length=n:=by
   obtain⟨pc,f,lk,fr,ins,aq,root,word,tk,id,k⟩:=s;simp only at p12;subst p12;exact v.1
  have htw:=u.tw A;have C:=g1 (by omega)
  have hne:=hS.ne;have I:2<=(nd::l).length:=htw _ (by rw[←A];exact ei)
  have hat:∀(k:Nat) (x:List Nd),(t++[[r]])[k]?=some x->t[k]?=some x\/(k=t.length/\x=[r]):=by
   intro k x u;rcases Nat.lt_or_ge k t.length with hk|hk
   ·rw[List.getElem?_append_left hk]at u;exact .inl u
   ·have hk2:=(asu.1 u).1
    rw[List.length_append]at hk2;simp at hk2;obtain rfl:k=t.length:=by omega
    rw[List.getElem?_append_right hk,Nat.sub_self]at u;exact .inr ⟨rfl,by simpa using u.symm⟩
  have Z:(t++[[r]])[t.length]?=some [r]:=by rw[List.getElem?_append_right (Nat.le_refl _),Nat.sub_self];rfl
  have hrefs:refsOf [r]=[nd.id]:=by simp[refsOf,hrp]
  have h'8:s'.pc≠2/\s'.pc≠3/\s'.pc≠4:=g6 (by omega)
  have aqP:s'.pc≠14:=fun e=>by have:=g8 (by omega) e;omega
  have eb:∀j,j+1<t.length->bW (t++[[r]]) j=bW t j:=fun j hj=>by
   unfold bW mR;rw[List.getElem?_append_left (show j<t.length by omega),List.getElem?_append_left (show j+1<t.length from hj)]
  have agw:bW (t++[[r]]) t.length=1:=by
   unfold bW mR;rw[Z,List.getElem?_eq_none (by rw[List.length_append];simp)]
   simp[refsOf]
  have hold:bW t (t.length-1)=(nd::l).length:=by
   unfold bW mR;rw[ei,List.getElem?_eq_none (by omega)]
   show(List.filter _ (nd::l)).length=_
   rw[List.filter_eq_self.2 (fun a _=>by simp[refsOf])]
  have hnew:bW (t++[[r]]) (t.length-1)+1<=(nd::l).length:=by
   unfold bW mR;rw[List.getElem?_append_left (show t.length-1<t.length by omega),ei,show t.length-1+1=t.length by omega,Z]
   show(List.filter (fun a => !decide (a.id∈refsOf [r])) (nd::l)).length+1<=_
   rw[List.filter_cons,if_neg (by simp[hrefs]),List.length_cons]
   have:=List.length_filter_le (fun a => !decide (a.id∈refsOf [r])) l
   omega
  refine⟨u.x0,⟨fun k x hx' i a z hi=>?_,fun k x hx' hk=>?_⟩,fun _=>?_,fun y l' o a z=>?_,fun hp=>by omega,fun hT' =>?_,fun hp=>by omega⟩
  ·rcases hat _ _ hx' with q|⟨_,rfl⟩
   ·exact u.Ma.two k x q i a z hi
   ·simp at hi
  ·rw[List.length_append,List.length_singleton]at hk
   rcases hat _ _ hx' with q|⟨q,_⟩
   ·rcases Nat.lt_or_ge (k+1) t.length with c|c
    ·exact u.Ma.one k x q c
    ·rw[show k=t.length-1 by omega,ei]at q
     rw[←asy q];exact I
   ·omega
  ·rw[List.length_append,List.length_singleton]
   obtain⟨T,O⟩:∃T,t.length=T+1:=⟨t.length-1,by omega⟩
   have hsT:∀k,k<t.length->sH (t++[[r]]) k=sH t k:=fun k=>by
    induction k with
    | zero=>intro _;rfl
    | succ k ih=>
     intro hk;show sH (t++[[r]]) k+(if 1<=k then bW (t++[[r]]) k else 0)=sH t k+(if 1<=k then bW t k else 0)
     rw[ih (by omega),eb k hk]
   have e1:sH (t++[[r]]) (t.length+1)=sH t T+(if 1<=T then bW (t++[[r]]) T else 0)+1:=by
    rw[O];show sH (t++[[r]]) T+(if 1<=T then bW (t++[[r]]) T else 0)+(if 1<=T+1 then bW (t++[[r]]) (T+1)else 0)=_
    rw[hsT T (by omega),if_pos (show 1<=T+1 by omega),←O,agw]
   have e2:sH t t.length=sH t T+if 1<=T then bW t T else 0:=by rw[O];rfl
   rw[O,Nat.add_sub_cancel]at hold hnew;rcases Nat.eq_zero_or_pos T with c|c
   ·subst c
    rw[e1];left
    show 0+0+1<=X0
    exact u.x0
   ·rw[if_pos (by omega)]at e1 e2
    rcases u.sx (by omega)with B|⟨hp,B⟩
    ·left;omega
    ·right
     refine⟨?_,by omega⟩
     unfold wQ at hp ⊢;rw[if_neg (by omega)]at hp
     rw[if_neg (by omega),C]
     refine⟨hp.1,fun D=>?_⟩
     obtain⟨l2,b,x,agx,hb,M,zP⟩:=D;rw[←A,Z]at agx;obtain rfl:=asy agx;obtain rfl:b=r:=by simpa using hb
     rw[hrp]at M;obtain rfl:x=⟨⟨#[]⟩,nd.id⟩:=by simpa using M
     exact u.nf hp.1 _ (by rw[←A];exact ei) nd rfl zP
  ·rw[List.getElem?_append_left (by omega)]at o
   rw[C];exact u.nf y l' o a z
  ·rw[List.length_append,List.length_singleton]at hT'
   omega
end
end
end Go.Proofs.YtlpdhhhgckpcfaaGreat
