/- Post in a tree (pure): how it aa7,. -/
import Derived.Test.YtlpdhhhgckpcfaaGreatLevA
import Derived.Lib.MinMax
namespace Go.Proofs.YtlpdhhhgckpcfaaGreat
set_option linter.unusedSimpArgs false
set_option linter.unusedVariables false
open Go.RowKit
set_option maxHeartbeats 16000000
set_option maxRecDepth 100000
section
section
variable {d:aR}{L L':List aO}{t t':List (List Nd)}
theorem Vq (hf:d.fa<=6)(N:Nat):wC d N<=11*N+51:=by
 have h1:bJ d<=11:=by unfold bJ;omega
 have h2:=Nat.mul_le_mul_left N h1;unfold wC qT wI;omega
theorem afD (hf:d.fa<=6)(B:Nat):gC d B<=11*B+97:=by
 have h1:bJ d<=11:=by unfold bJ;omega
 have h2:=Nat.mul_le_mul_left B h1;have h3:=Vq hf 1;unfold gC qT gI;omega
theorem Ow {N:Int}(hs:r9 N t){k:Nat}{l l':List Nd}(hk:t[k]?=some l)(hk':t[k+1]?=some l')(hl:l.length<=2){nd:Nd}(hn:nd∈l'):nd.pg.sl.length<=3:=by
 rcases Nat.lt_or_ge 3 nd.pg.sl.length with h|h
 ·exfalso
  have dJ:=(hs.nodes _ l' hk' nd hn).2.jA;have afE:=(hs.down k l l' hk hk' nd hn).2;have key:∀j,j<nd.pg.sl.length->∃(x:Sl) (p:Nat) (c:Nd),nd.pg.sl[j]?=some x/\l[p]?=some c/\p<2/\c.low=x.k:=fun j hj=>by
   have hx:nd.pg.sl[j]?=some nd.pg.sl[j]:=aq8 hj;obtain⟨c,hc,_,e⟩:=afE _ (aq7 hx);obtain⟨p,hp⟩:=aq4 hc;have:=(aq5.1 hp).1;exact⟨_,p,c,hx,hp,by omega,e⟩
  obtain⟨x0,p0,c0,hx0,Ub,h0,e0⟩:=key 0 (by omega)
  obtain⟨x1,p1,c1,hx1,hp1,h1,e1⟩:=key 1 (by omega)
  obtain⟨x2,p2,c2,hx2,hp2,h2,e2⟩:=key 2 (by omega)
  have a01:=kQ dJ hx0 hx1 (by omega)
  have a02:=kQ dJ hx0 hx2 (by omega)
  have a12:=kQ dJ hx1 hx2 (by omega)
  have ne:∀(p q:Nat) (a b:Nd) (x y:Sl),l[p]?=some a->l[q]?=some b->a.low=x.k->b.low=y.k->cA x.k y.k=true->p≠q:=by
   intro p q a b x y ha hb e1 e2 hlt e;subst e;rw[ha]at hb;obtain rfl:=aq9 hb;rw[←e1,←e2,dm]at hlt;cases hlt
  have n01:=ne _ _ _ _ _ _ Ub hp1 e0 e1 a01;have n02:=ne _ _ _ _ _ _ Ub hp2 e0 e2 a02;have n12:=ne _ _ _ _ _ _ hp1 hp2 e1 e2 a12;omega
 ·exact h
theorem vh {k:Nat}{l:List Nd}(hk:t[k]?=some l):pP t k=l.length+pP t (k+1):=by
 rw[jx,jx,drop_cons hk,List.map_cons,List.sum_cons]
theorem aaA {N:Int}(hf:d.fa<=6)(hs:r9 N t)(hh:∀(k:Nat)(l l':List Nd),t[k]?=some l->t[k+1]?=some l' -> 2*l'.length<=l.length+1)(B:Nat):∀(j k:Nat)(l:List Nd),t[k]?=some l->l.length<=2 ^ (j+1)->cU d B (t.drop (k+1))<=(j+1)*(11*pP t (k+1)+51)+(11*B+97)
 | j,k,l,hk,hl=>by
  have qu:=(aq5.1 hk).1;rcases Nat.lt_or_ge (k+1) t.length with h|h
  ·obtain⟨l',hk'⟩:∃l',t[k+1]?=some l' := ⟨_,aq8 h⟩
   have h2:=hh k l l' hk hk';have hne:=(hs.rows _ l' hk').ne;have hw:=Vq hf (pP t (k+1));rw[Uu d B hk'];cases j with
   | zero=>
    have h1:l'.length=1:=by simp at hl;omega
    have hsm:small l'=true:=by
     match l',h1 with
     | [nd],_=>exact decide_eq_true (Ow hs hk hk' (by simpa using hl) List.mem_cons_self)
    rw[if_pos hsm];omega
   | succ j=>
    have ih:=aaA hf hs hh B j (k+1) l' hk' (by rw[Nat.pow_succ]at hl;omega)
    have hu:=vh hk';have hm:(j+1)*(11*pP t (k+1+1)+51)<=(j+1)*(11*pP t (k+1)+51):=Nat.mul_le_mul_left _ (by omega)
    have e:(j+1+1)*(11*pP t (k+1)+51)=(j+1)*(11*pP t (k+1)+51)+(11*pP t (k+1)+51):=Nat.succ_mul _ _;rw[e];split
    ·omega
    ·omega
  ·rw[List.drop_of_length_le h]
   have:=afD hf B;show gC d B<=_
   omega
theorem oO.shp {ks:List ByteArray}{dV:Bool}(h:oO d ks dV L t):r9 (ah L 4).n t:=h.ok.m.sh
theorem oO.cost {ks:List ByteArray}{dV:Bool}(h:oO d ks dV L t)(hf:d.fa<=6)(hk:ks.length<=36):cU d 2 (t.drop 1)<=4940:=by
 obtain⟨l0,h0⟩:∃l0,t[0]?=some l0:=⟨_,aq8 h.ok.ne⟩;have h36:l0.length<=36:=by rcases h.r36 l0 h0 with h|h <;> omega
 have hu:=vh h0;have hc:=h.aex;have hu0:pP t 0=(t.map List.length).sum:=by rw[jx,List.drop_zero]
 have hne:=(h.shp.rows _ l0 h0).ne;have q:=fun j hj=>aaA hf h.shp h.half 2 j 0 l0 h0 hj
 rcases Nat.lt_or_ge 32 l0.length with h1|h1
 ·have:=q 5 (by omega)
  simp only[Nat.zero_add]at this hu;omega
 ·rcases Nat.lt_or_ge 16 l0.length with h2|h2
  ·have:=q 4 (by omega)
   simp only[Nat.zero_add]at this hu;omega
  ·have:=q 3 (by omega)
   simp only[Nat.zero_add]at this hu;omega
def Zk (d:aR)(L:List aO)(t:List (List Nd))(l0:List Nd)(ch:Int)(B:Nat)(room:Bool)(lim:Int):Eu:=⟨L,l0,fun id=>pQ t 1 id,ch,B,room,t.length,lim⟩
structure El (d:aR)(L:List aO)(t:List (List Nd))(l0:List Nd)(B:Nat)(room:Bool)(lim:Int)(m:Nat):Prop where
 ok:cD d L t
 gQ:bD L
 eu:(L.length:Int)=d.cells
 sz:SzT t
 r0:t[0]?=some l0
 b2:2<=B
 Vr:room=true->(ah L 4).n+(t.length:Int)<=lim/\lim<=d.no
 aaB:room=false->d.no<=(ah L 4).n/\lim<=d.no
 c7:(ah L 7).n%4=0
 wd:∀(k:Nat) (l:List Nd),t[k]?=some l->∀nd,nd∈l->(ah L (d.node nd.id 0)).n+4*m<=9223372036854775808
 top:zn (Zk d L t l0 0 B room lim) t (if 1<t.length then 1 else 0)
 cost:(1<t.length->cU d B (t.drop 1)<=m)/\(t.length=1->pP t 0*bJ d+1+qT d+gI d<=m)
theorem El.start {l0:List Nd}{B:Nat}{room:Bool}{lim:Int}{m:Nat}(h:El d L t l0 B room lim m){c:Nd}(hc:c∈l0):kA d (Zk d L t l0 c.id B room lim) L t 1 (Pj ⟨1,c.low,c.id,false⟩) m:=by
 have hne:=h.ok.ne;have hl0:=(h.ok.m.sh.rows _ l0 h.r0).ne;have hcl:cL t 1<=t.length:=by unfold cL;split <;> omega
 refine⟨⟨h.gQ,h.eu,h.ok.m,h.sz,h.r0,fun j _ _ _ _=>rfl,h.b2,fun e=>⟨(h.aaB e).1,rfl⟩,?_,fun e=>?_⟩,Nat.le_refl _,rfl,fun _=>⟨l0,c,h.r0,hc,rfl,rfl⟩,fun _=>rfl,fun c' _=>?_,fun k l hk nd hn _=>?_,fun _=>h.c7,fun _=>rfl,h.wd,?_⟩
 ·show lim<=d.no
  cases room with
  | true=>exact(h.Vr rfl).2
  | false=>exact(h.aaB rfl).2
 ·have:=(h.Vr e).1
  show(ah L 4).n<=lim
  omega
 ·show pQ t 1 c'.id↔pQ t 1 c'.id\/(ew (Pj ⟨1,c.low,c.id,false⟩)=true/\_)
  have e:ew (Pj ⟨1,c.low,c.id,false⟩)=false:=rfl;rw[e];simp
 ·exact(h.ok.nodes k l hk nd hn).free.n
 ·show Room d _ L (cL t 1)/\zn _ t (if 1<t.length then 1 else 0)/\(0:Nat)≠4/\_
  refine⟨fun e=>?_,h.top,by decide,?_⟩
  ·have:=(h.Vr e).1
   show(ah L 4).n+(cL t 1:Nat)<=lim
   omega
  ·rcases Nat.lt_or_ge 1 t.length with h1|h1
   ·left
    refine⟨h1,pP t 1*bJ d+1+qT d,Jb.begin ?_ (Nat.le_refl _),?_⟩
    ·obtain⟨l1,mD⟩:∃l1,t[1]?=some l1:=⟨_,aq8 h1⟩
     obtain⟨a,ha⟩:=List.exists_mem_of_ne_nil l1 (fun e=>by have:=(h.ok.m.sh.rows _ l1 mD).ne;rw[e]at this;exact absurd this (by decide))
     exact⟨l1,a,mD,ha⟩
    ·obtain⟨l1,mD⟩:∃l1,t[1]?=some l1:=⟨_,aq8 h1⟩
     have:=h.cost.1 h1;rw[Uu d B mD]at this;show _+wI d+(if (t[1]?.map small).getD false then 0 else cU d B (t.drop 2))<=m
     rw[mD];show _+wI d+(if small l1=true then 0 else cU d B (t.drop 2))<=m
     unfold wC at this;omega
   ·right
    refine⟨by show t.length=1;omega,pP t 0*bJ d+1+qT d,Jb.begin ⟨l0,c,h.r0,hc⟩ (Nat.le_refl _),h.cost.2 (by omega)⟩
theorem lH (id:Int):pQ t 1 id↔id∈refsOf (t[1]?.getD []):=by
 unfold pQ refsOf;constructor
 ·rintro ⟨l,nd,s,hl,hn,hs,rfl⟩
  rw[hl];exact List.mem_map.2 ⟨s,List.mem_flatMap.2 ⟨nd,hn,hs⟩,rfl⟩
 ·intro h
  obtain⟨s,hs,rfl⟩:=List.mem_map.1 h;obtain⟨nd,hn,hs⟩:=List.mem_flatMap.1 hs;cases hl:t[1]? with
  | none=>rw[hl]at hn;simp at hn
  | some l=>
   rw[hl]at hn;exact⟨l,nd,s,rfl,hn,hs,rfl⟩
theorem Vs {l l1 l1':List Nd}{c:Nd}(hnd:(l.map (·.id)).Nodup)(hc:c∈l)(hn:¬ c.id∈refsOf l1)(h:∀a,a∈l->(a.id∈refsOf l1' ↔ a.id∈refsOf l1\/a.id=c.id)) :
  (l.filter fun a => !decide (a.id∈refsOf l1')).length+1=(l.filter fun a => !decide (a.id∈refsOf l1)).length:=by
 induction l with
 | nil=>cases hc
 | cons a l ih=>
  rw[List.map_cons,List.nodup_cons]at hnd;have ha:=h a List.mem_cons_self;rcases List.mem_cons.1 hc with e|hc'
  ·subst e
   have hsame:(l.filter fun a => !decide (a.id∈refsOf l1'))=l.filter fun a => !decide (a.id∈refsOf l1):=by
    refine List.filter_congr (fun b hb=>?_)
    have hbc:b.id≠c.id:=fun e=>hnd.1 (by rw[←e];exact List.mem_map_of_mem hb)
    have:=h b (List.mem_cons_of_mem _ hb);have h2:b.id∈refsOf l1' ↔ b.id∈refsOf l1:=by
     rw[this];exact⟨fun h=>h.resolve_right hbc,.inl⟩
    rw[decide_eq_decide.2 h2]
   rw[List.filter_cons,List.filter_cons,if_neg (by simp[ha.2 (.inr rfl)]),if_pos (by simp[hn]),List.length_cons,hsame]
  ·have hac:a.id≠c.id:=fun e=>hnd.1 (by rw[e];exact List.mem_map_of_mem hc')
   have ih' := ih hnd.2 hc' (fun b hb=>h b (List.mem_cons_of_mem _ hb))
   have h2:a.id∈refsOf l1' ↔ a.id∈refsOf l1:=by
    rw[ha];exact⟨fun h=>h.resolve_right hac,.inl⟩
   rw[List.filter_cons,List.filter_cons];by_cases hm:a.id∈refsOf l1
   ·rw[if_neg (by simp[h2.2 hm]),if_neg (by simp[hm])]
    exact ih'
   ·rw[if_pos (by simp[mt h2.1 hm]),if_pos (by simp[hm]),List.length_cons,List.length_cons]
    omega
theorem Zl {l l1 l1':List Nd}(h:∀a,a∈l->(a.id∈refsOf l1' ↔ a.id∈refsOf l1)):(l.filter fun a => !decide (a.id∈refsOf l1'))=l.filter fun a => !decide (a.id∈refsOf l1):=
 List.filter_congr (fun b hb=>by rw[decide_eq_decide.2 (h b hb)])
theorem r9.ids {N:Int}(hs:r9 N t){k:Nat}{l:List Nd}(hk:t[k]?=some l):(l.map (·.id)).Nodup:=by
 rw[List.nodup_iff_pairwise_ne,List.pairwise_map,List.pairwise_iff_getElem];intro i j hi hj hij e;have:=(hs.inj k k l l i j _ _ hk hk (aq8 hi) (aq8 hj) e).2;omega
structure aaD (d:aR)(P:Eu)(t0:List (List Nd))(L:List aO)(t:List (List Nd))(s:eE):Prop where
 base:zB d P L t
 ok:cD d L t
 c7:(ah L 7).n%4=0
 tk:∀c,c∈P.l0.drop 1->c.id=P.ch0->¬ pQ t0 1 c.id->(gu P.l0 (t[1]?.getD [])).length+(if s.f.po then 1 else 0)=(gu P.l0 (t0[1]?.getD [])).length
 ent:s.f.po=true->∀c,c∈P.l0.drop 1->c.id=P.ch0->pQ t 1 c.id
 full:P.room=true->s.f.po=true
theorem kA.fin {l0:List Nd}{ch:Int}{B:Nat}{room:Bool}{lim:Int}{L0:List aO}{t0:List (List Nd)}{n m:Nat}{s:eE}(h:kA d (Zk d L0 t0 l0 ch B room lim) L t n s m)(h0:s.pc=14):aaD d (Zk d L0 t0 l0 ch B room lim) t0 L t s:=by
 have hfull:room=true->s.f.po=true:=by
  have hst:=h.st;obtain⟨pc,f,lk,fr,ins,aq,root,word,tk,id,k⟩:=s;simp only at h0;subst h0;exact hst
 have hdn:ew s=s.f.po:=by
  have h1:=h.ak;have h2:=h.wD;obtain⟨pc,f,lk,fr,ins,aq,root,word,tk,id,k⟩:=s;simp only at h0 h1 hfull ⊢;subst h0;cases hr:room with
  | true=>simp[ew,hfull hr]
  | false=>
   have:n=1:=h2 hr;rw[this]at h1;simp[ew,h1]
 refine⟨h.base,h.base.tree.ok (fun k l hk nd hn=>h.free k l hk nd hn (fun e=>?_)),h.c7 (.inl (by omega)),fun c hc hid hno=>?_,fun xO c hc hid=>?_,hfull⟩
 ·obtain⟨pc,f,lk,fr,ins,aq,root,word,tk,id,k⟩:=s
  simp only at h0;subst h0;exact e
 ·have hsub:((l0.drop 1).map (·.id)).Nodup:=by
   have:=h.base.tree.sh.ids h.base.r0;exact this.sublist ((List.drop_sublist 1 l0).map _)
  have jy:=h.ref;rw[hdn]at jy;cases xO:s.f.po with
  | true=>
   refine Vs (c:=c) hsub hc (by rw[←lH];exact hno) (fun a ha=>?_)
   rw[←lH,←lH];have this:pQ t 1 a.id↔pQ t0 1 a.id\/(s.f.po=true/\a.id=ch):=jy a ha;rw[xO,←(show c.id=ch from hid)]at this
   simpa using this
  | false=>
   show(List.filter _ _).length+0=_
   rw[Nat.add_zero];refine congrArg List.length (Zl (fun a ha=>?_))
   rw[←lH,←lH];have this:pQ t 1 a.id↔pQ t0 1 a.id\/(s.f.po=true/\a.id=ch):=jy a ha;rw[xO]at this;simpa using this
 ·have:=(h.ref c hc).2 (.inr ⟨by rw[hdn];exact xO,hid⟩)
  exact this
end
section
variable {d:aR}{L L':List aO}{t t':List (List Nd)}{ks:List ByteArray}{l0:List Nd}
theorem acJ (hd:d.Ok)(hlen:(L.length:Int)=d.cells)(ht:cD d L t)(hz:∀j:Int,nP d j->j≠7->ah L j=aO.zero)(h7:(ah L 7).n%4=0)(h5:(ah L 5).n=ks.length)(hlv:∀l,t[0]?=some l->l.flatMap (fun nd=>nd.pg.sl)=eA 0 ks)(hch:(ks.length:Int)<=d.ch):Vm d L t:=by
 have hA:=hd.eC;have hB:=hd.jU;have hC:=hd.ox;have hcb:=hd.eb;have z:∀j:Int,1<=j->j<d.A->j≠4->j≠5->j≠7->ah L j=aO.zero:=fun j a b c e f=>hz j (.inl ⟨a,b,c,e⟩) f
 have r1:=hd.Zr;refine⟨ht,⟨?_,?_,ht.n4,by rw[h5];exact hch,?_,h7,fun i a b=> .inl ?_⟩,fun l' hl' =>?_⟩
 ·rw[z 1 (by omega) (by omega) (by omega) (by omega) (by omega),z 2 (by omega) (by omega) (by omega) (by omega) (by omega)]
 ·rw[z 3 (by omega) (by omega) (by omega) (by omega) (by omega),z 2 (by omega) (by omega) (by omega) (by omega) (by omega)];exact Int.le_refl _
 ·rw[z 6 (by omega) (by omega) (by omega) (by omega) (by omega)];show(0:Int)<=d.re;omega
 ·rw[z i (by omega) b (by omega) (by omega) (by omega)];rfl
 ·rw[hlv l' hl',vg]
  refine⟨fun r hr=>?_,?_⟩
  ·obtain⟨j,hj,rfl⟩:=List.mem_map.1 hr
   have hj:=List.mem_range.1 hj;have apG:=Aq hd (c:=((0+j+1:Nat):Int)) (by omega) (by omega)
   refine⟨by omega,by omega,by rw[h5];omega,[],?_,by show(0:Int)<=d.re;omega,fun i v hv=>by simp at hv⟩
   show(ah _ _).n=0
   rw[hz _ (.inr (by omega)) (by omega)]
   rfl
  ·rw[List.nodup_iff_pairwise_ne,List.pairwise_map]
   refine List.Pairwise.imp (fun {a b} hab=>?_) (List.nodup_iff_pairwise_ne.1 List.nodup_range)
   intro e;exact hab (by omega)
structure Zn (d:aR)(ks:List ByteArray)(l0:List Nd)(L:List aO)(t:List (List Nd)):Prop where
 ok:cD d L t
 gQ:bD L
 eu:(L.length:Int)=d.cells
 sz:SzT t
 r0:t[0]?=some l0
 zero:∀j:Int,nP d j->j≠7->ah L j=aO.zero
 c7:(ah L 7).n%4=0
 n5:(ah L 5).n=ks.length
 leaves:l0.flatMap (fun nd=>nd.pg.sl)=eA 0 ks
theorem Zn.snd (hd:d.Ok)(h:Zn d ks l0 L t)(hch:(ks.length:Int)<=d.ch):Vm d L t:=
 acJ hd h.eu h.ok h.zero h.c7 h.n5 (fun l hl=>by rw[h.r0]at hl;obtain rfl:=aq9 hl;exact h.leaves) hch
theorem Zn.next {ch:Int}{B:Nat}{room:Bool}{lim:Int}{t0:List (List Nd)}{s:eE}(hd:d.Ok)(h:Zn d ks l0 L t0)(he:aaD d (Zk d L t0 l0 ch B room lim) t0 L' t s):Zn d ks l0 L' t:=by
 have hA:=hd.eC;have hB:=hd.jU;have hb:=he.base;have hr:∀j:Int,j≠0->j≠4->j≠7->(j<d.A\/d.B<=j)->ah L' j=ah L j:=hb.rest;refine⟨he.ok,hb.gQ,hb.eu,hb.sz,hb.r0,fun j hj h7=>?_,he.c7,?_,h.leaves⟩
 ·rw[hr j (by rcases hj with h|h <;> omega) (by rcases hj with h|h <;> omega) h7 (by rcases hj with h|h <;> omega)]
  exact h.zero j hj h7
 ·rw[hr 5 (by omega) (by omega) (by omega) (by omega)]
  exact h.n5
theorem cD.bare (hd:d.Ok)(hlen:(L.length:Int)=d.cells)(ht:cD d L t){l0:List Nd}{nd:Nd}{r:List Nd}(h0:t[0]?=some l0)(hl0:l0=nd::r)(h1:nd.id=1):cD d (aP L 0 ⟨1,⟨#[]⟩,0⟩) [l0]:=by
 have hA:=hd.eC;have hB:=hd.jU;have hcb:=hd.eb;have hC:=hd.ox;have wF:∀(k:Nat) (l:List Nd),[l0][k]?=some l->k=0/\l=l0:=fun k l hk=>by
  cases k with
  | zero=>exact⟨rfl,(aq9 hk).symm⟩
  | succ k=>simp at hk
 obtain⟨a,b,x,e,f,g,i,j⟩:=ht;refine⟨Nat.one_pos,fun k l hk=>?_,fun k l hk nd hn=>?_,⟨nd,r,by simp[hl0],?_⟩,fun k l l' hk hk' =>?_,?_,?_,fun k l hk nd hn=>?_⟩
 ·obtain⟨rfl,rfl⟩:=wF k l hk
  exact b 0 _ h0
 ·obtain⟨rfl,rfl⟩:=wF k l hk
  exact(x 0 _ h0 nd hn).frame hd (fun q y z=>bj (by have:=gW hd nd.id q (x 0 _ h0 nd hn).id.1 (x 0 _ h0 nd hn).id.2 y z;omega))
 ·rw[cB (by omega) (by omega),h1]
 ·have:=(wF _ _ hk').1;omega
 ·rw[bj (by omega)]
  have:=List.cX h0;simp;omega
 ·rw[bj (by omega)];exact i
 ·obtain⟨rfl,rfl⟩:=wF k l hk
  rw[bj (by omega)];exact j 0 _ h0 nd hn
structure PoF (d:aR)(ks:List ByteArray)(l0:List Nd)(bare:Bool)(L:List aO)(t:List (List Nd)):Prop where
 g:Zn d ks l0 L t
 Yi:(ah L 4).n<=100
 zh:t.length<=100
 wd:∀(k:Nat) (l:List Nd),t[k]?=some l->∀nd,nd∈l->(ah L (d.node nd.id 0)).n=0
 beg:∃B,2<=B/\zn (Zk d L t l0 0 B true 0) t (if 1<t.length then 1 else 0)/\(1<t.length->cU d B (t.drop 1)<=4940)/\(t.length=1->pP t 0*bJ d+1+qT d+gI d<=4940)
 al2:bare=true->t.length=1
theorem oO.Vt (hd:d.Ok)(hf:d.fa<=6)(h:oO d ks true L t)(hk:ks.length<=36)(bare:Bool):∃l0 t',PoF d ks l0 bare (if bare then aP L 0 ⟨1,⟨#[]⟩,0⟩else L) t' := by
 obtain⟨l0,h0⟩:∃l0,t[0]?=some l0:=⟨_,aq8 h.ok.ne⟩;have h36:l0.length<=36:=by rcases h.r36 l0 h0 with h|h <;> omega
 have hA:=hd.eC;have hB:=hd.jU;have hC:=hd.ox;have hcb:=hd.eb;have hcl:=h.eu;have Ju:bJ d<=11:=by unfold bJ;omega
 have hw1:=Vq hf 1;have hne:=(h.shp.rows _ l0 h0).ne;have hz7:nP d 7:= .inl ⟨by omega,by omega,by omega,by omega⟩
 have xK:t.length<=100:=by
  have h1:=qG t (fun l hl=>by
   obtain⟨k,hk⟩:=aq4 hl;exact(h.shp.rows k l hk).ne)
  have:=h.aex;omega
 have Vu:∀t2:List (List Nd),pP t2 0<=36->pP t2 0*bJ d+1+qT d+gI d<=4940:=fun t2 h2=>by
  have:=Nat.mul_le_mul h2 Ju;unfold qT gI;omega
 cases bare with
 | false=>
  refine⟨l0,t,⟨h.ok,h.gQ,h.eu,h.low,h0,fun j hj _=>h.zero j hj,by show(ah L 7).n%4=0;rw[h.zero 7 hz7];rfl,h.n5,h.leaves l0 h0⟩,h.Yi,xK,fun k l hk nd hn=>?_,⟨2,Nat.le_refl _,fun l hl=>?_,fun _=>h.cost hf hk,fun h1=>Vu t ?_⟩,fun e=>by cases e⟩
  ·have hid:=(h.ok.nodes k l hk nd hn).id
   show(ah L _).n=0
   rw[h.lat nd.id hid.1 hid.2];rfl
  ·have:=h.ajh l hl
   show l.length+(if 1<t.length then 1 else 0)<=2
   split <;> omega
  ·have:=vh h0
   rw[jx t (0+1),List.drop_of_length_le (by omega)]at this
   simp at this;omega
 | true=>
  obtain⟨nd,r,hl0⟩:∃nd r,l0=nd::r:=by
   cases l0 with
   | nil=>simp at hne
   | cons a r=>exact⟨a,r,rfl⟩
  have jB:=h.id1 l0 h0 nd (by rw[hl0];rfl)
  have hb:=h.ok.bare hd h.eu h0 hl0 jB;have wF:∀(k:Nat) (l:List Nd),[l0][k]?=some l->k=0/\l=l0:=fun k l hk=>by
   cases k with
   | zero=>exact⟨rfl,(aq9 hk).symm⟩
   | succ k=>simp at hk
  have hu:pP [l0] 0=l0.length:=by simp[jx]
  have hcp:bD (aP L 0 ⟨1,⟨#[]⟩,0⟩):=h.gQ.put ⟨by decide,by decide⟩
  refine⟨l0,[l0],⟨hb,hcp,by show((aP L 0 _).length:Int)=_;rw[aY];exact h.eu,fun k l hk=>?_,rfl,fun j hj _=>?_,?_,?_,h.leaves l0 h0⟩,?_,by show 1<=100;omega,fun k l hk a ha=>?_,⟨36,by omega,fun l hl=>?_,fun h1=>by simp at h1,fun _=>Vu _ (by omega)⟩,fun _=>rfl⟩
  ·obtain⟨rfl,rfl⟩:=wF k l hk
   exact h.low 0 _ h0
  ·show ah (aP L 0 _) j=_
   rw[bj (by rcases hj with h|h <;> omega)];exact h.zero j hj
  ·show(ah (aP L 0 _) 7).n%4=0
   rw[bj (by omega),h.zero 7 hz7];rfl
  ·show(ah (aP L 0 _) 5).n=_
   rw[bj (by omega)];exact h.n5
  ·show(ah (aP L 0 _) 4).n<=100
   rw[bj (by omega)];exact h.Yi
  ·obtain⟨rfl,rfl⟩:=wF k l hk
   have hid:=(h.ok.nodes 0 _ h0 a ha).id;show(ah (aP L 0 _) _).n=0
   rw[bj (by have:=gW hd a.id 0 hid.1 hid.2 (by omega) (by have:=hd.fo;omega);omega),h.lat a.id hid.1 hid.2];rfl
  ·obtain rfl:l=l0:=by simpa using hl.symm
   show l.length+(if 1<1 then 1 else 0)<=36
   simp;exact h36
theorem PoF.begin {bare:Bool}(h:PoF d ks l0 bare L t)(hno:300<=d.no):∃B,El d L t l0 B true d.no 4940:=by
 obtain⟨B,b1,b2,b3,b4⟩:=h.beg;refine⟨B,h.g.ok,h.g.gQ,h.g.eu,h.g.sz,h.g.r0,b1,fun _=>⟨?_,Int.le_refl _⟩,fun e=>(by cases e),h.g.c7,fun k l hk nd hm=>?_,b2,b3,b4⟩
 ·have:=h.Yi
  have:=h.zh;omega
 ·rw[h.wd k l hk nd hm]
  decide
structure PoJ (d:aR)(J:List aO->eE->Nat->Prop):Prop where
 gQ:∀L s m,J L s m->bD L/\(L.length:Int)=d.cells/\s.pc<=14
 step:∀L s m,J L s m->s.pc<14->eE.Ok d L s/\∀s',pJ d L s s' -> ∃m',J (gK d L s) s' m' /\ m' + 1<=m
theorem kA.akr {P:Eu}{n m:Nat}{s:eE}(h:kA d P L t n s m):s.pc<=14:=by
 have hst:=h.st;obtain⟨pc,f,lk,fr,ins,aq,root,word,tk,id,k⟩:=s;by_cases h:pc<=14
 ·exact h
 ·obtain⟨q,rfl⟩:∃q,pc=q+15:=⟨pc-15,by omega⟩
  exact hst.elim
theorem afG (hd:d.Ok)(sQ:d.no<=900)(P:Eu):PoJ d (fun L s m=>∃t n,kA d P L t n s m) where
 gQ:=fun L s m ⟨t,n,h⟩=>⟨h.base.gQ,h.base.eu,h.akr⟩
 step:=fun L s m ⟨t,n,h⟩ h0=>by
  obtain⟨h1,h2⟩:=h.step hd sQ h0;refine⟨h1,fun s' hs=>?_⟩
  obtain⟨t',n',m',h3,h4,_⟩:=h2 s' hs;exact⟨m',⟨t',n',h3⟩,h4⟩
def aks (d:aR)(L0:List aO)(t:List (List Nd))(f:j8)(L:List aO)(s:eE)(m:Nat):Prop:=
 (s.pc=0/\s.f=f/\s.lk.pc≠4/\∃m0,Yu d L0 t f.sep 1 s.lk L m0/\m0+2<=m) \/
 (s.pc=4/\s.f=f/\1<=m/\∃nd,nT t f.sep 1 nd/\s.fr=⟨nd.id,aN (lG d L0 nd),nd.pg⟩/\L=qH d L0 nd) \/
 (s.pc=14/\s.f.po=true/\L=L0)
theorem Yu.lat {key:ByteArray}{lv:Nat}{s:vB}{L1:List aO}{m:Nat}(h:Yu d L t key lv s L1 m):L1=L\/∃nd,nT t key lv nd/\L1=qH d L nd:=by
 rcases h with⟨_,_,h,_⟩|⟨_,_,h,_⟩|⟨_,_,nd,n,hc,_,h,_⟩|⟨_,⟨nd,hc,_,h⟩|⟨_,_,h⟩⟩
 ·exact .inl h
 ·exact .inl h
 ·exact .inr ⟨nd,hc,h⟩
 ·exact .inr ⟨nd,hc,h⟩
 ·exact .inl h
theorem akt (hd:d.Ok)(h:Zn d ks l0 L t){c:Nd}(hc:c∈l0)(hin:pQ t 1 c.id)(po:Bool):PoJ d (aks d L t ⟨1,c.low,c.id,po⟩) where
 gQ:=fun L1 s m hJ=>by
  have oC:(L1=L\/∃nd,nT t c.low 1 nd/\L1=qH d L nd)/\s.pc<=14:=by
   rcases hJ with⟨h0,_,_,m0,hI,_⟩|⟨h0,_,_,nd,hcv,_,e⟩|⟨h0,_,e⟩
   ·exact⟨hI.lat,by omega⟩
   ·exact⟨.inr ⟨nd,hcv,e⟩,by omega⟩
   ·exact⟨.inl e,by omega⟩
  obtain⟨rfl|⟨nd,hcv,rfl⟩,iH⟩:=oC
  ·exact⟨h.gQ,h.eu,iH⟩
  ·exact⟨Dn h.gQ (hcv.nd h.ok).free.n,by unfold qH;rw[aY];exact h.eu,iH⟩
 step:=fun L1 s m hJ h0=>by
  obtain⟨l1,b,x,mD,hb,hx,Et⟩:=hin;have ht2:1<t.length:=(aq5.1 mD).1;have hM:=h.ok.m;obtain⟨c',hc',e1,e2⟩:=(hM.sh.down 0 l0 l1 h.r0 mD b hb).2 x hx;have hcc:c'=c:=by
   obtain⟨p,hp⟩:=aq4 hc';obtain⟨q,hq⟩:=aq4 hc;have:=(hM.sh.inj 0 0 l0 l0 p q c' c h.r0 h.r0 hp hq (by rw[e1,Et])).2
   subst this;rw[hp]at hq;exact aq9 hq
  subst hcc;have hfound:∀nd,nT t c'.low 1 nd->gD nd.pg.sl c'.low<iE nd.pg.sl c'.low:=fun nd hcv=>by
   obtain⟨l',i,hl',hi,a1,a2⟩:=hcv;rw[mD]at hl';obtain rfl:=aq9 hl';obtain⟨i',hi'⟩:=aq4 hb;have hN:=h.ok.nodes 1 l1 mD b hb;obtain⟨b1,b2⟩:=hN.bd _ hx;rw[←e2]at b1 b2;have e:i=i' := (h.ok.rows 1 l1 mD).Om hi hi' a1 a2 b1 (by
    cases kN:b.pg.la with
    | true=>rfl
    | false=>rw[Bool.false_or];exact b2 kN)
   subst e;rw[hi]at hi';obtain rfl:=aq9 hi';obtain⟨q,hq⟩:=aq4 hx;have h3:=jK hN.jA (key:=c'.low) hq;have h4:=jm hN.jA (key:=c'.low) hq;rw[←e2]at h3 h4;simp only[dm,Bool.false_eq_true,false_iff,true_iff]at h3 h4;omega
  rcases hJ with⟨g0,hf,pM,m0,hI,hm⟩|⟨g0,hf,hm,nd,hcv,hfr,rfl⟩|⟨g0,_⟩
  ·obtain⟨g1,g2,g3,g4,g5⟩:=hI.step hd h.gQ h.eu h.ok pM
   obtain⟨pc,f,lk,fr,ins,aq,root,word,tk,id,k⟩:=s;simp only at g0 hf pM g2 g3 g5;subst g0 hf;have Ih:(aK d c'.low 1 L1 lk).1.pc=4->∃nd,nT t c'.low 1 nd/\(aK d c'.low 1 L1 lk).1.h=⟨nd.id,aN (lG d L nd),nd.pg⟩/\(aK d c'.low 1 L1 lk).2=qH d L nd:=fun h4=>by
    rcases g5 with⟨a,_⟩|⟨a,_⟩|⟨a,_⟩|⟨_,⟨nd,hcv,q1,q2⟩|⟨q,_⟩⟩
    ·rw[show((1:Nat):Int)=1 from rfl]at a;omega
    ·rw[show((1:Nat):Int)=1 from rfl]at a;omega
    ·rw[show((1:Nat):Int)=1 from rfl]at a;omega
    ·exact⟨nd,hcv,q1,q2⟩
    ·omega
   have aku:(aK d c'.low 1 L1 lk).1.pc<=4:=by
    rcases g5 with⟨a,_⟩|⟨a,_⟩|⟨a,_⟩|⟨a,_⟩ <;> · rw[show((1:Nat):Int)=1 from rfl]at a;omega
   have hnd:∀nd,nT t c'.low 1 nd->nd.id≠0/\kV nd.pg.sl/\nd.pg.sl.length<=1000000/\cm.Ok d ⟨nd.id,aN (lG d L nd),nd.pg⟩:=fun nd hcv=>by
    have hN:=hcv.nd h.ok;obtain⟨l',i,hl',hi,_⟩:=hcv;have:=hd.mK;refine⟨by have:=hN.id.1;omega,hN.jA,by have:=hN.page.le;omega,hM.hok hd h.sz hl' (aq7 hi) hN.free.vD (zi h.gQ hN.free.n)⟩
   refine⟨⟨by show 0<=13;decide,⟨by show(0:Int)<=1;decide,by show(1:Int)<1000;decide⟩,fun _=>⟨g2,g3,aku,fun h4=>?_⟩,fun h=>by simp at h,fun h=>by simp at h,fun h=>by simp at h,fun h=>by simp at h,fun h=>by simp at h,fun h=>by simp at h,fun h=>by simp at h,fun h=>by simp at h,fun h=>by simp at h⟩,fun s' hs=>?_⟩
   ·obtain⟨nd,hcv,q1,_⟩:=Ih h4
    obtain⟨n1,n2,n3,n4⟩:=hnd nd hcv;show(aK d c'.low 1 L1 lk).1.h.pg.sl.length<=1000000/\((aK d c'.low 1 L1 lk).1.h.id≠0->_)
    rw[q1];exact⟨n3,fun _=>⟨n4,n2,fun hno=>absurd (hfound nd hcv) hno⟩⟩
   ·have hmm:gK d L1 ⟨0,⟨1,c'.low,c'.id,po⟩,lk,fr,ins,aq,root,word,tk,id,k⟩=(aK d c'.low 1 L1 lk).2:=rfl
    rw[hmm];rcases hs with⟨e,rfl⟩|⟨e,⟨q,rfl⟩|⟨q,q',rfl⟩|⟨q,q',_⟩⟩
    ·exact⟨m-1,.inl ⟨rfl,rfl,e,m0-1,g5,by omega⟩,by omega⟩
    ·obtain⟨nd,hcv,q1,_⟩:=Ih e
     have q:(aK d c'.low 1 L1 lk).1.h.id=0:=q;rw[q1]at q;exact absurd q (hnd nd hcv).1
    ·obtain⟨nd,hcv,q1,q2⟩:=Ih e
     exact⟨m-1,.inr (.inl ⟨rfl,rfl,by omega,nd,hcv,q1,q2⟩),by omega⟩
    ·obtain⟨nd,hcv,q1,_⟩:=Ih e
     have q' : ¬ gD (aK d c'.low 1 L1 lk).1.h.pg.sl c'.low<iE (aK d c'.low 1 L1 lk).1.h.pg.sl c'.low:=q';rw[q1]at q';exact absurd (hfound nd hcv) q'
  ·obtain⟨pc,f,lk,fr,ins,aq,root,word,tk,id,k⟩:=s
   simp only at g0 hf hfr;subst g0 hf hfr;have hN:=hcv.nd h.ok;refine⟨⟨by show 4<=13;decide,⟨by show(0:Int)<=1;decide,by show(1:Int)<1000;decide⟩,fun h=>by simp at h,fun h=>by simp at h,fun h=>by simp at h,fun h=>by simp at h,fun _=>zi h.gQ hN.free.n,fun h=>by simp at h,fun h=>by simp at h,fun h=>by simp at h,fun h=>by simp at h,fun h=>by simp at h⟩,fun s' hs=>?_⟩
   have hs:s'=_:=hs;subst hs;refine⟨m-1,.inr (.inr ⟨rfl,rfl,?_⟩),by omega⟩
   exact Ot hd h.eu hN.id.1 hN.id.2 hN.free
  ·omega
structure PeR (d:aR)(ks:List ByteArray)(l0:List Nd)(c:Nd)(k0 r:Nat)(L:List aO)(t:List (List Nd)):Prop where
 g:Zn d ks l0 L t
 beg:r=0->(∃B,El d L t l0 B true d.no 4940)/\¬ pQ t 1 c.id/\(gu l0 (t[1]?.getD [])).length=k0
 nxt:1<=r->pQ t 1 c.id/\(gu l0 (t[1]?.getD [])).length+1=k0
theorem PeR.go {c:Nd}{k0 r:Nat}(hd:d.Ok)(hf:d.fa<=6)(hno:d.no=300)(hc:c∈l0.drop 1)(h:PeR d ks l0 c k0 r L t):∃J,PoJ d J/\J L (Pj ⟨1,c.low,c.id,false⟩) 4940/\∀L' s m,J L' s m->s.pc=14->s.f.po=true/\(1<=r->L'=L)/\∃t',PeR d ks l0 c k0 (r+1) L' t' := by
 have hc0:c∈l0:=List.mem_of_mem_drop hc;rcases Nat.eq_zero_or_pos r with h0|h0
 ·obtain⟨⟨B,hB⟩,akv,hk⟩:=h.beg h0
  refine⟨_,afG hd (by omega) (Zk d L t l0 c.id B true d.no),⟨t,1,hB.start hc0⟩,fun L' s m hJ iH=>?_⟩
  obtain⟨t',n,hI⟩:=hJ;have hE:=hI.fin iH;have xO:=hE.full rfl;refine⟨xO,fun h1=>by omega,t',h.g.next hd hE,fun e=>by omega,fun _=>⟨hE.ent xO c hc rfl,?_⟩⟩
  have:=hE.tk c hc rfl akv;rw[xO]at this;rw[←hk];exact this
 ·obtain⟨hin,hk⟩:=h.nxt h0
  refine⟨_,akt hd h.g hc0 hin false,.inl ⟨rfl,rfl,by show(0:Nat)≠4;decide,4938,Yu.start _ ?_,by decide⟩,fun L' s m hJ iH=>?_⟩
  ·have h1:(t.map List.length).sum<=300:=by have:=h.g.ok.count;have:=h.g.ok.n4;omega
   have h2:bJ d<=11:=by unfold bJ;omega
   have:=Nat.mul_le_mul h1 h2;omega
  ·rcases hJ with⟨e,_⟩|⟨e,_⟩|⟨_,xO,rfl⟩
   ·omega
   ·omega
   ·exact⟨xO,fun _=>rfl,t,h.g,fun e=>by omega,fun _=>⟨hin,hk⟩⟩
end
def mU:Nd:=⟨1,⟨#[]⟩,⟨0,[⟨⟨#[97]⟩,1⟩],⟨#[98]⟩,false,2⟩⟩
def mV:Nd:=⟨2,⟨#[98]⟩,⟨0,[⟨⟨#[98]⟩,2⟩],⟨#[]⟩,true,0⟩⟩
def Ew (d:aR):List aO:=aP (eZ d 2 mV.pg (eZ d 1 mU.pg (ck d))) 4 ⟨2,⟨#[]⟩,0⟩
theorem acK:cA ⟨#[]⟩ ⟨#[98]⟩=true/\cA ⟨#[97]⟩ ⟨#[]⟩=false/\cA ⟨#[97]⟩ ⟨#[98]⟩=true/\cA ⟨#[98]⟩ ⟨#[98]⟩=false:=by
 refine⟨?_,?_,?_,?_⟩ <;> simp[cA,ByteArray.toList_eq,Op.bytesLess]
theorem pL (k:Nat)(l:List Nd)(h:[[mU,mV]][k]?=some l):k=0/\l=[mU,mV]:=by
 cases k with
 | zero=>exact⟨rfl,(aq9 h).symm⟩
 | succ k=>simp at h
theorem jF {nd:Nd}(h:nd∈[mU,mV]):nd=mU\/nd=mV:=by simpa using h
theorem acL {d:aR}(hd:d.Ok)(rO:d.fa=4)(hno:d.no=100):El d (Ew d) [[mU,mV]] [mU,mV] 2 true 3 190:=by
 obtain⟨k1,k2,k3,k4⟩:=acK;obtain⟨p1,p2,p3⟩:=iy d hd;obtain⟨_,_,hc0,hl0⟩:=oV hd;have hA:=hd.eC;have hB:=hd.jU;have hC:=hd.ox;have hcb:=hd.eb;have f1:=hd.fo;have hrow:pG d [mU,mV]:=by
  refine⟨fun nd h=>?_,fun nd h=>?_,fun nd h=>?_,fun nd h=>?_,fun nd h s hs=>?_,?_⟩
  ·rcases jF h with rfl|rfl
   ·exact⟨by decide,by show(1:Int)<=d.no;omega⟩
   ·exact⟨by decide,by show(2:Int)<=d.no;omega⟩
  ·rcases jF h with rfl|rfl
   ·show(1:Int)<=d.fa;omega
   ·show(1:Int)<=d.fa;omega
  ·rcases jF h with rfl|rfl <;> exact⟨by decide,by decide⟩
  ·rcases jF h with rfl|rfl <;> exact⟨by decide,by decide⟩
  ·rcases jF h with rfl|rfl
   ·obtain rfl:s=⟨⟨#[97]⟩,1⟩:=by simpa[mU] using hs
    exact⟨by decide,by decide⟩
   ·obtain rfl:s=⟨⟨#[98]⟩,2⟩:=by simpa[mV] using hs
    exact⟨by decide,by decide⟩
  ·simp[mU,mV]
 have he:Ew d=aP (bU d (ck d) [mU,mV]) 4 ⟨2,⟨#[]⟩,0⟩:=rfl;have hpl:((bU d (ck d) [mU,mV]).length:Int)=d.cells:=by rw[jD];exact hl0
 have h4:ah (Ew d) 4=⟨2,⟨#[]⟩,0⟩:=by rw[he];exact cB (by omega) (by omega)
 have ju:∀j:Int,j≠4->(∀nd,nd∈[mU,mV]->∀k:Int,1<=k->k<d.fa+4->j≠d.node nd.id k)->ah (Ew d) j=ah (ck d) j:=fun j hj hn=>by
  rw[he,bj hj,ed f1 hrow.le hn]
 have hid:∀nd,nd∈[mU,mV]->1<=nd.id/\nd.id<=d.no:=hrow.id;have dW:∀j:Int,j<8->j≠4->ah (Ew d) j=ah (ck d) j:=fun j hj h4=>ju j h4 (fun nd hn k a b=>by have:=gW hd nd.id k (hid nd hn).1 (hid nd hn).2 (by omega) b;omega)
 have hw:∀nd,nd∈[mU,mV]->ah (Ew d) (d.node nd.id 0)=aO.zero:=fun nd hn=>by
  rw[ju _ (by have:=gW hd nd.id 0 (hid nd hn).1 (hid nd hn).2 (by omega) (by omega);omega) (fun l8 hn' k a b e=>?_),xD hd nd.id (hid nd hn).1 (hid nd hn).2]
  by_cases e2:nd.id=l8.id
  ·rw[←e2]at e
   have q1:=(bV hd (hid nd hn).1 (hid nd hn).2 (k:=0) (by omega) (by omega)).1
   have q2:=(bV hd (hid nd hn).1 (hid nd hn).2 (k:=k) (by omega) b).1
   omega
  ·exact cK hd (hid nd hn).1 (hid nd hn).2 (hid l8 hn').1 (hid l8 hn').2 (by omega) (by omega) (by omega) b e2 e
 have hnd:∀nd,nd∈[mU,mV]->uM d (Ew d) nd:=fun nd hn=>by
  have hp:=rZ hd hl0 hrow nd hn;have hh:=nO hd hl0 hrow (fun nd hn kN=>by
   rcases jF hn with rfl|rfl
   ·cases kN
   ·rfl) nd hn
  have hfr:∀k:Int,1<=k->k<d.fa+4->ah (Ew d) (d.node nd.id k)=ah (bU d (ck d) [mU,mV]) (d.node nd.id k):=fun k a b=>by
   rw[he,bj (by have:=gW hd nd.id k (hid nd hn).1 (hid nd hn).2 (by omega) b;omega)]
  refine⟨hid nd hn,hp.frame (hid nd hn).1 (hid nd hn).2 f1 hfr,hh.frame hd (hid nd hn).1 (hid nd hn).2 (hrow.le nd hn) hfr,by rw[hw nd hn];exact iQ.zero,?_,?_,?_⟩
  ·rcases jF hn with rfl|rfl <;> exact List.pairwise_singleton _ _
  ·intro s hs
   rcases jF hn with rfl|rfl
   ·obtain rfl:s=⟨⟨#[97]⟩,1⟩:=by simpa[mU] using hs
    decide
   ·obtain rfl:s=⟨⟨#[98]⟩,2⟩:=by simpa[mV] using hs
    decide
  ·intro s hs
   rcases jF hn with rfl|rfl
   ·obtain rfl:s=⟨⟨#[97]⟩,1⟩:=by simpa[mU] using hs
    exact⟨k2,fun _=>k3⟩
   ·obtain rfl:s=⟨⟨#[98]⟩,2⟩:=by simpa[mV] using hs
    exact⟨k4,fun h=>by cases h⟩
 have akw:fL 0 [mU,mV]:=by
  refine⟨by decide,fun nd hn=>?_,fun nd h=>?_,fun i a b ha hb=>?_,fun i a ha hi=>?_⟩
  ·rcases jF hn with rfl|rfl <;> rfl
  ·obtain rfl:=aq9 h;rfl
  ·have:=(aq5.1 hb).1
   have hi:i=0:=by simp at this;omega
   subst hi;obtain rfl:=aq9 ha;obtain rfl:=aq9 hb;exact⟨rfl,rfl,rfl,k1⟩
  ·obtain rfl:i=1:=by simpa using hi
   obtain rfl:=aq9 ha;exact⟨rfl,rfl,rfl⟩
 have e0:(ah (Ew d) 0).n=1:=by rw[dW 0 (by omega) (by omega),p3 0 (by omega),if_neg (by omega),if_neg (by omega),if_pos rfl]
 have hok:cD d (Ew d) [[mU,mV]]:=by
  refine⟨by decide,fun k l hk=>?_,fun k l hk nd hn=>?_,⟨mU,[mV],rfl,e0⟩,fun k l l' hk hk' =>?_,?_,?_,fun k l hk nd hn=>?_⟩
  ·obtain⟨rfl,rfl⟩:=pL k l hk;exact akw
  ·obtain⟨rfl,rfl⟩:=pL k l hk;exact hnd nd hn
  ·have:=(pL _ _ hk').1;omega
  ·rw[h4];decide
  ·rw[h4,hno];decide
  ·obtain⟨rfl,rfl⟩:=pL k l hk
   rw[h4];rcases jF hn with rfl|rfl <;> decide
 have Lh:bD (Ew d):=(oN hd hrow hc0).put ⟨by decide,by decide⟩
 have Ju:bJ d=9:=by unfold bJ;rw[rO];rfl
 refine⟨hok,Lh,by rw[he,aY];exact hpl,fun k l hk nd hn=>?_,rfl,Nat.le_refl _,fun _=>⟨by rw[h4];decide,by omega⟩,fun e=>by(cases e),?_,fun k l hk nd hn=>?_,fun l hl=>?_,fun h=>by simp at h,fun _=>?_⟩
 ·obtain⟨rfl,rfl⟩:=pL k l hk
  rcases jF hn with rfl|rfl <;> decide
 ·rw[dW 7 (by omega) (by omega),uW hd 7 (.inl ⟨by omega,by omega,by omega,by omega⟩)];rfl
 ·obtain⟨rfl,rfl⟩:=pL k l hk
  rw[hw nd hn];decide
 ·obtain rfl:l=[mU,mV]:=(pL 0 l hl).2
  exact Nat.le_refl 2
 ·have hu:pP [[mU,mV]] 0=2:=by decide
  rw[hu];unfold qT gI wC qT wI;rw[Ju,rO];decide
theorem afH {d:aR}(hd:d.Ok)(rO:d.fa=4)(hno:d.no=100):∃J,PoJ d J/\J (Ew d) (Pj ⟨1,⟨#[98]⟩,2,false⟩) 190/\∀L s m,J L s m->s.pc=14->s.f.po=true/\(ah L 0).n=3:=by
 have hB:=acL hd rO hno;refine⟨_,afG hd (by omega) (Zk d (Ew d) [[mU,mV]] [mU,mV] 2 2 true 3),⟨_,1,hB.start (c:=mV) (by simp)⟩,fun L s m hJ iH=>?_⟩
 obtain⟨t,n,hI⟩:=hJ;have hE:=hI.fin iH;have xO:=hE.full rfl;refine⟨xO,?_⟩;obtain⟨l1,apI,x,mD,_⟩:=hE.ent xO mV (by simp[Zk]) rfl
 have h2:=(aq5.1 mD).1;have hM:=hE.base.tree;have zv:t[0]?=some [mU,mV]:=hE.base.r0;obtain⟨nd,rest,fU,hroot⟩:=hM.root;have h4:=hE.base.lim.2 rfl;have h4:(ah L 4).n<=3:=h4;have hb:=(hM.sh.nodes _ _ fU nd List.mem_cons_self).1;have ne:∀(i:Nat) (c:Nd),[mU,mV][i]?=some c->nd.id≠c.id:=fun i c hc e=>by
  have:=(hM.sh.inj _ _ _ _ 0 i nd c fU zv rfl hc e).1;omega
 have n1:nd.id≠1:=ne 0 mU rfl;have n2:nd.id≠2:=ne 1 mV rfl;rw[hroot];omega
end
section
theorem St.Zo {K:aL}{w:World}{F:List aC}{g cap n size j:Nat}{T:TypeId}{xs:List Value}(h:St K w (az (.slice (some ⟨g,0,none⟩) n cap) T size n xs::F))(u:Value) :
  St K (w.setCell ⟨g,j,none⟩ u) (az (.slice (some ⟨g,0,none⟩) n cap) T size n (xs.set j u)::F):=by
 refine h.zM (c' := az (.slice (some ⟨g,0,none⟩) n cap) T size n (xs.set j u)) ((eI.refl _ _).setCell (.inl (by simp[az,Value.ownBlock])) _) ?_ rfl
 obtain⟨hl,k⟩:=h.head;refine⟨by rw[List.length_set];exact hl,?_⟩
 rcases k with⟨hv,h0⟩|⟨g',cap',cur,hv,hB,hc,h1,h2,h3,h4⟩
 ·cases hv
 ·injection hv with e1 e2 e3
  injection e1 with e1
  injection e1 with e1
  subst e1 e3;refine .inr ⟨g,cap,cur.setIfInBounds j u,rfl,hB,cM hc j u,h1,h2,by simpa using h3,?_⟩
  rw[Array.toList_setIfInBounds,List.take_set,h4]
theorem St.Vv {K:aL}{w:World}{F:List aC}{g cap n size:Nat}{T:TypeId}{xs:List Value}(h:St K w (az (.slice (some ⟨g,0,none⟩) n cap) T size n xs::F))(hn:0<n):∀k,w.frozen? ⟨g,k,none⟩=false:=by
 obtain⟨g',cap',cur,hv,_,_,_,_,_,hs⟩:=h.Qo hn;injection hv with e1 e2 e3
 injection e1 with e1
 injection e1 with e1
 subst e1;exact hs.f0
end
section
section
variable {K:aL}{w:World}{F:List aC}{d:aR}{b:Nat}{p:j8}
theorem xP (hs:St K w (blk b (.cells (.nilFunc :: .bool true::bg d p).toArray 167)::F)):Calls Tryz.prog 61 #[(.pointer (some ⟨b,0,none⟩))] w fun e w' => e=.returned (.bool p.po)/\w=w' := by
 have k:=hs.k0;have Qd:=aq3 (fX w b (k 0) (k 1));unfold bg at k;clear hs;go_enter Tryz.func61,Tryz.ntmps61
 go_wp2_with fail
 refine(Qd.out).mono ?_
 clear Qd;rintro e w1 ⟨rfl,rfl⟩;go_wp2
 go_ret;exact⟨rfl,rfl⟩
theorem Ji {xs:List ByteArray}{a a2:Option Addr}{n c c2:Nat}(hn:n=xs.length)(hb:n<=100000000)(hs:St K w (az (.slice a n c) 9 1 n (bO xs)::az (.slice a2 n c2) 9 1 n (bO xs)::F)) :
  Calls Tryz.prog 62 #[.slice a n c,.slice a2 n c2] w fun e w' => e=.returned (.bool true)/\St K w' (az (.slice a n c) 9 1 n (bO xs)::az (.slice a2 n c2) 9 1 n (bO xs)::F):=by
 have Hn:=aq3 hn;clear hn;go_enter Tryz.func62,Tryz.ntmps62
 go_wp2
 go_loopw [5] (fun v wr=>∃k:Nat,k<=n/\v=.int .i64 k/\St K wr (az (.slice a n c) 9 1 n (bO xs)::az (.slice a2 n c2) 9 1 n (bO xs)::F)) (fun v _=>n-(intOf v).toNat)
 case atStart=>exact⟨0,by omega,rfl,hs⟩
 case round=>
  clear hs;obtain⟨k,hk,rfl,hs⟩:=hrel;by_cases hlt:k<n
  ·obtain⟨x,hx⟩:∃x,xs[k]?=some x:=⟨_,aq8 (by have:=Hn.out;omega)⟩
   have h1:(bO xs)[k]?=some (.string x):=by simp[bO,hx]
   obtain⟨g,rfl,c0⟩:=(show St K wr (az _ _ _ _ _::_)from hs).cQ h1
   obtain⟨g2,rfl,c1⟩:=(show St K wr (az _ _ _ _ _::_)from hs.b1).cQ h1
   have q0:=c0;have q1:=c1;clear h1 hx;go_upto_region 6 with(fail)
   refine bI (by kernel_rfl) (by kernel_rfl) ?_
   repeat (go_big_quiet_step (fail))
   refine wpQuiet_nil ?_
   intro w2 hb2;have hs:=hs.same hb2;clear c0 c1 q0 q1 hb2;go_wp2
   go_roundw
   case rel=>exact⟨k+1,by omega,by go_num,hs⟩
   case measure=>simp[intOf];omega
  ·obtain rfl:k=n:=by omega
   go_wp2
   go_ret;exact⟨rfl,hs⟩
theorem Jj (w:World)(g h:Nat)(X:List aO)(hX:X.length<=1048576)(hg:w.heap[g]?=some (.cells (flat X).toArray 63))(hh:w.heap[h]?=some (.cells (flat X).toArray 63)) :
  Calls Tryz.prog 64 #[.slice (some ⟨g,0,none⟩) X.length X.length,.slice (some ⟨h,0,none⟩) X.length X.length] w fun e w' => e=.returned (.bool true)/\Below w.heap.size w w' := by
 obtain⟨n,hn⟩:∃n,n=X.length:=⟨_,rfl⟩;rw[←hn]at hX ⊢;have Hn:=aq3 hn;have Hg:=aq3 hg;have Hh:=aq3 hh;clear hn hg hh;go_enter Tryz.func64,Tryz.ntmps64
 go_wp2
 go_loopw [5] (fun v wr=>∃k:Nat,k<=n/\v=.int .i64 k/\Below w.heap.size w wr) (fun v _=>n-(intOf v).toNat)
 case atStart=>exact⟨0,by omega,rfl,Below.refl _ _⟩
 case round=>
  obtain⟨k,hk,rfl,hb⟩:=hrel;by_cases hlt:k<n
  ·obtain⟨c,hz⟩:∃c,X[k]?=some c:=⟨_,sY (by rw[←Hn.out];exact hlt)⟩
   obtain⟨c0,c1,c2⟩:=rA (cE hb Hg.out) hz;obtain⟨d0,d1,d2⟩:=rA (cE hb Hh.out) hz;clear hz;go_upto_region 6 with(fail)
   refine bI (by kernel_rfl) (by kernel_rfl) ?_
   repeat (go_big_quiet_step (fail))
   refine wpQuiet_nil ?_
   intro w2 hb2;have hb:=hb.trans (hb2.mono hb.size);clear c0 c1 c2 d0 d1 d2 hb2;go_wp2
   go_roundw
   case rel=>exact⟨k+1,by omega,by go_num,hb⟩
   case measure=>simp[intOf];omega
  ·obtain rfl:k=n:=by omega
   go_wp2
   go_ret;exact⟨rfl,hb⟩
end
section
variable {w0 w:World}{F:List aC}{a:Option Addr}{len cap:Nat}{f:Nat->ByteArray}{sh:Int}{bare:Bool}{d:aR}{bm bc:Nat}
def afJ (K:aL)(bm bc:Nat)(d:aR)(F:List aC)(v:Value)(W:World):Prop:=
 ∃(ks:List ByteArray) (ka:Option Addr) (kc:Nat),v=.slice ka ks.length kc/\Hid (ru 36 ks)/\St K W (az (.slice ka ks.length kc) 9 1 ks.length (bO ks)::aJ bm bc (ck d) 0::F)
def afK (K:aL)(bm bc:Nat)(d:aR)(F:List aC)(v u:Value)(W:World):Prop:=
 ∃(ks:List ByteArray) (ka:Option Addr) (kc:Nat) (L:List aO) (t:List (List Nd)),(v=.slice ka ks.length kc/\u=.int .i64 t.length)/\Hid (ru 36 ks)/\Hid (oO d ks true L t)/\St K W (aJ bm bc L 0::az (.slice ka ks.length kc) 9 1 ks.length (bO ks)::F)
theorem Ox (hz:yU w0 a len f)(hd:d.Ok)(hf6:d.fa<=6)(hno:100<=d.no)(hsh:0<=sh/\sh<18446744073709551616)(hs:St (aL.of w0) w (aJ bm bc (ck d) 0::F)) :
  Calls Tryz.prog 57 #[.agg #[.int .i64 (d).th,.int .i64 (d).sn,.int .i64 (d).no,.int .i64 (d).ch,.int .i64 (d).re,.int .i64 (d).fa,.int .u64 (d).cl],(.pointer (some ⟨bm,0,none⟩)),.slice a len cap,.int .u64 sh,.bool bare] w fun e w' => ∃(ks:List ByteArray) (l0:List Nd) (L:List aO) (t:List (List Nd)),
   e=.returned (.tuple #[])/\Hid (PoF d ks l0 bare L t/\ks.length<=36)/\St (aL.of w0) w' (aJ bm bc L 0::F):=by
 have Hz:=aq3 hz;have Hd:=aq3 hd;have Hf6:=aq3 hf6;have hs:=hs.made (.cells #[.int .i64 d.th,.int .i64 d.sn,.int .i64 d.no,.int .i64 d.ch,.int .i64 d.re,.int .i64 d.fa,.int .u64 d.cl] 26);obtain⟨b0,hb0⟩:∃b,b=w.heap.size:=⟨_,rfl⟩;clear hz hd hf6;go_enter Tryz.func57,Tryz.ntmps57
 have Hno:=aq3 hno;have Hsh:=aq3 hsh;clear hno hsh;go_upto_region 1 with(fail)
 rw[←hb0]at hs ⊢;clear hb0;have hs:St (aL.of w0) _ (blk b0 (.cells #[.int .i64 d.th,.int .i64 d.sn,.int .i64 d.no,.int .i64 d.ch,.int .i64 d.re,.int .i64 d.fa,.int .u64 d.cl] 26)::aJ bm bc (ck d) 0::F):=hs;refine cP hs ?_
 clear hs;intro w1 hs;have Hs:=aq3 hs;clear hs;refine fY [false,false,false,true,false,true] 3 5
  (fun W=>St (aL.of w0) W (blk b0 (.cells #[.int .i64 d.th,.int .i64 d.sn,.int .i64 d.no,.int .i64 d.ch,.int .i64 d.re,.int .i64 d.fa,.int .u64 d.cl] 26)::aJ bm bc (ck d) 0::F))
  (fun v W=>afJ (aL.of w0) bm bc d (blk b0 (.cells #[.int .i64 d.th,.int .i64 d.sn,.int .i64 d.no,.int .i64 d.ch,.int .i64 d.re,.int .i64 d.fa,.int .u64 d.cl] 26)::F) v W)
  (fun v u W=>afK (aL.of w0) bm bc d (blk b0 (.cells #[.int .i64 d.th,.int .i64 d.sn,.int .i64 d.no,.int .i64 d.ch,.int .i64 d.re,.int .i64 d.fa,.int .u64 d.cl] 26)::F) v u W)
  (fun W=>St (aL.of w0) W (blk b0 (.cells #[.int .i64 d.th,.int .i64 d.sn,.int .i64 d.no,.int .i64 d.ch,.int .i64 d.re,.int .i64 d.fa,.int .u64 d.cl] 26)::F)) ?aS (by decide) (by kernel_rfl) ?hB ?H ?iD Hs.out ?hI ?hR ?Fx ?vK ?hQ
 case hB=>as_aux_lemma=>kernel_rfl
 case H=>
  intro W2 hs;have kp:=hs.k0;clear hs;simp only[bL];repeat (go_big_quiet_step (fail))
  refine wpQuiet_nil ?_
  rfl
 case iD=>rfl
 case hI=>exact⟨fun W h=>(St.b1 h).tail,fun v W ⟨_,_,_,_,_,h⟩=>h.tail.tail,fun v u W ⟨_,_,_,_,_,_,_,_,h⟩=>h.tail.tail⟩
 case hR=>exact⟨fun W W' h hb=>h.same hb,fun v W W' ⟨a,b,c,e,e2,h⟩ hb=>⟨a,b,c,e,e2,h.same hb⟩,fun v u W W' ⟨a,b,c,x,y,e,e2,e3,h⟩ hb=>⟨a,b,c,x,y,e,e2,e3,h.same hb⟩⟩
 case Fx=>
  intro rj o ho ρ W2 hs hk af aB;obtain rfl:=aq9 ho;subst aB;have Hk:=aq3 hk;have hs:St (aL.of w0) W2 (blk b0 (.cells #[.int .i64 d.th,.int .i64 d.sn,.int .i64 d.no,.int .i64 d.ch,.int .i64 d.re,.int .i64 d.fa,.int .u64 d.cl] 26)::aJ bm bc (ck d) 0::F):=hs;have qk:=Yb (a:=a) (len:=len) (cap:=cap) (f:=f) (most:=36) Hz.out (by omega) hs
  have QK:=aq3 qk;clear hk qk hs;go_wp2_with fail
  refine(QK.out).mono ?_
  clear QK;rintro e w3 ⟨v,ks,rfl,HK,hs⟩;obtain⟨ka,kc,rfl,_,_⟩:=hs.aH;have H:=aq3 hs;clear hs;go_wp2
  exact⟨rfl,_,rfl,Hk.out _ _ ⟨ks,ka,kc,rfl,HK,H.out.re [0,2,1] rfl⟩⟩
 case vK=>
  rintro rj o ho ρ v W2 ⟨ks,ka,kc,rfl,HK,hs⟩ hk af aB;obtain rfl:=aq9 ho;have Hk:=aq3 hk;have hs:St (aL.of w0) W2 (az (.slice ka ks.length kc) 9 1 ks.length (bO ks)::aJ bm bc (ck d) 0::blk b0 (.cells #[.int .i64 d.th,.int .i64 d.sn,.int .i64 d.no,.int .i64 d.ch,.int .i64 d.re,.int .i64 d.fa,.int .u64 d.cl] 26)::F):=hs;have qp:=Ua (dV:=true) Hd.out Hno.out ⟨HK.out.jA,by have:=HK.out.len;omega,HK.out.size⟩ (oV Hd.out).2.2.1 (oV Hd.out).2.2.2 (xD Hd.out) (uW Hd.out) Hsh.out hs.b1
  have QP:=aq3 qp;clear hk qp hs;simp only[aM,List.getElem?_cons_succ,List.getElem?_cons_zero,Option.bind_some,Act.put,List.setIfInBounds_toArray,List.set_cons_zero,List.set_cons_succ]at aB;subst aB;go_wp2_with fail
  refine(QP.out).mono ?_
  clear QP;rintro e w4 ⟨t,L',rfl,HT,hs⟩;have H:=aq3 hs;clear hs;go_wp2
  exact⟨rfl,_,rfl,Hk.out _ _ ⟨ks,ka,kc,L',t,⟨rfl,rfl⟩,HK,HT,H.out⟩⟩
 case hQ=>
 rintro v u W2 ⟨ks,ka,kc,L',t,⟨rfl,rfl⟩,HK,HT,hs⟩;simp only[aM,List.getElem?_cons_succ,List.getElem?_cons_zero,Option.bind_some,Act.put,List.setIfInBounds_toArray,List.set_cons_zero,List.set_cons_succ];clear Hs;have hs:St (aL.of w0) W2 (aJ bm bc L' 0::az (.slice ka ks.length kc) 9 1 ks.length (bO ks)::blk b0 (.cells #[.int .i64 d.th,.int .i64 d.sn,.int .i64 d.no,.int .i64 d.ch,.int .i64 d.re,.int .i64 d.fa,.int .u64 d.cl] 26)::F):=hs;have HF:Hid (∃l0 t',PoF d ks l0 bare (if bare then aP L' 0 ⟨1,⟨#[]⟩,0⟩else L') t'):=aq3 (HT.out.Vt Hd.out Hf6.out HK.out.len bare)
 cases bare with
 | true=>
  go_wp2_with fail
  refine(gy (i:=0) (c:=⟨1,⟨#[]⟩,0⟩) hs).mono ?_
  clear hs;rintro e w5 ⟨rfl,hs⟩;go_wp2
  go_end0
  obtain⟨l0,t',h⟩:=HF.out;exact⟨ks,l0,_,t',rfl,aq3 ⟨h,HK.out.len⟩,hs.bY.bY⟩
 | false=>
  go_wp2
  go_end0
  obtain⟨l0,t',h⟩:=HF.out;exact⟨ks,l0,_,t',rfl,aq3 ⟨h,HK.out.len⟩,hs.bY.bY⟩
end
section
variable {K:aL}{w:World}{F:List aC}{b bm bc acc m:Nat}{d:aR}{J:List aO->eE->Nat->Prop}
def vk (K:aL)(b bm bc:Nat)(d:aR)(J:List aO->eE->Nat->Prop)(F:List aC)(acc m:Nat)(w:World):Prop:=
 ∃(L:List aO) (s:eE) (C:List aC),J L s m/\s.pc<14/\fM d b s C/\St K w (C++aJ bm bc L acc::F)
def Vw (K:aL)(b bm bc:Nat)(d:aR)(J:List aO->eE->Nat->Prop)(F:List aC)(acc:Nat)(w:World):Prop:=
 ∃(L:List aO) (s:eE) (m:Nat),J L s m/\s.pc=14/\St K w (blk b (.cells (.nilFunc :: .bool true::bg d s.f).toArray 167)::aJ bm bc L acc::F)
theorem PoJ.go (hd:d.Ok)(hJ:PoJ d J)(ha:acc<=1000000000000)(h:vk K b bm bc d J F acc m w) :
  Calls Tryz.prog 60 #[(.pointer (some ⟨b,0,none⟩)),(.pointer (some ⟨bm,0,none⟩))] w fun e w' => (e=.returned (.bool true)/\Vw K b bm bc d J F (acc+1) w')\/(e=.returned (.bool false)/\∃m',m' + 1<=m/\vk K b bm bc d J F (acc+1) m' w'):=by
 obtain⟨L,s,C,hI,iH,cS,hs⟩:=h;obtain⟨hok,hst⟩:=hJ.step L s m hI iH;refine(Oa hd (hJ.gQ L s m hI).1 ha hok cS hs).mono ?_
 rintro e w' ⟨s',C',rfl,hn,hr,hs'⟩;obtain⟨m',hI',hm⟩:=hst s' hn;have apK:=(hJ.gQ _ s' m' hI').2.2;by_cases h:14<=s'.pc
 ·have Sn:s'.pc=14:=by omega
  refine .inl ⟨by rw[decide_eq_true h],gK d L s,s',m',hI',Sn,?_⟩
  obtain⟨pc,f,lk,fr,ins,aq,root,word,tk,id,k⟩:=s';simp only at Sn;subst Sn;obtain rfl:C'=_:=hr;exact hs'
 ·exact .inr ⟨by rw[decide_eq_false h],m',hm,_,s',C',hI',by omega,hr,hs'⟩
theorem vk.start {f:j8}{L:List aO}{C:List aC}(h:J L (Pj f) m)(hr:fM d b (Pj f) C)(hs:St K w (C++aJ bm bc L acc::F)):vk K b bm bc d J F acc m w:=
 ⟨L,Pj f,C,h,by show 0<14;decide,hr,hs⟩
end
section
variable {K:aL}{w:World}{cs:List aC}
theorem Jk (hs:St K w cs):Calls Tryz.prog 56 #[] w fun e w' => e=.returned (.bool true)/\St K w' cs:=by
 obtain⟨d,hd,rO,hno,Q1,Q2⟩:∃d:aR,Hid d.Ok/\Hid (d.fa=4)/\Hid (d.no=100)/\Hid (∀w,Calls Tryz.prog 12 #[.int .i64 1,.int .i64 0] w fun e w' => e=.returned (.agg #[.int .i64 (d).th,.int .i64 (d).sn,.int .i64 (d).no,.int .i64 (d).ch,.int .i64 (d).re,.int .i64 (d).fa,.int .u64 (d).cl])/\Below w.heap.size w w')/\Hid (∀w K cs,St K w cs->Calls Tryz.prog 13 #[.agg #[.int .i64 (d).th,.int .i64 (d).sn,.int .i64 (d).no,.int .i64 (d).ch,.int .i64 (d).re,.int .i64 (d).fa,.int .u64 (d).cl]] w fun e w'' => ∃bm bc,e=.returned (.tuple #[.agg #[.int .i64 (d).th,.int .i64 (d).sn,.int .i64 (d).no,.int .i64 (d).ch,.int .i64 (d).re,.int .i64 (d).fa,.int .u64 (d).cl],(.pointer (some ⟨bm,0,none⟩))])/\St K w'' (aJ bm bc (ck d) 0::cs)):=
  ⟨m6 1 4 1000,aq3 (Ke 0),aq3 rfl,aq3 rfl,aq3 (fun w=>oG 1 0 w),aq3 (fun w K cs hs=>p7 (Ke 0) hs)⟩
 obtain⟨J,HJ,hJ0,HJe⟩:∃J,Hid (PoJ d J)/\Hid (J (Ew d) (Pj ⟨1,⟨#[98]⟩,2,false⟩) 190)/\Hid (∀L s m,J L s m->s.pc=14->s.f.po=true/\(ah L 0).n=3):=by
  obtain⟨J,a,b,c⟩:=afH hd.out rO.out hno.out;exact⟨J,aq3 a,aq3 b,aq3 c⟩
 go_enter Tryz.func56,Tryz.ntmps56
 go_wp2_with fail
 refine(bH hs (Q1.out _)).mono ?_
 clear hs;rintro e w1 ⟨rfl,hs⟩;obtain⟨b1,hb1⟩:∃b1,b1=w1.heap.size:=⟨_,rfl⟩;have hs:=hs.made (.cells #[.int .i64 (d).th,.int .i64 (d).sn,.int .i64 (d).no,.int .i64 (d).ch,.int .i64 (d).re,.int .i64 (d).fa,.int .u64 (d).cl] 26);rw[←hb1]at hs;have Hs:=aq3 hs;clear hs;go_wp2_with fail
 rw[←hb1];clear hb1;refine(Q2.out _ _ _ Hs.out).mono ?_
 clear Hs;rintro e w2 ⟨bm,bc,rfl,hs⟩;have hs:=hs.made (.cells #[.int .i64 (d).th,.int .i64 (d).sn,.int .i64 (d).no,.int .i64 (d).ch,.int .i64 (d).re,.int .i64 (d).fa,.int .u64 (d).cl] 29);obtain⟨b2,hb2⟩:∃b2,b2=w2.heap.size:=⟨_,rfl⟩;rw[←hb2]at hs;go_upto_region 5 with(fail)
 rw[←hb2];clear hb2;refine cP hs ?_
 clear hs;intro w3 hs;have hs:St K w3 (blk b2 (.cells #[.int .i64 (d).th,.int .i64 (d).sn,.int .i64 (d).no,.int .i64 (d).ch,.int .i64 (d).re,.int .i64 (d).fa,.int .u64 (d).cl] 29)::aJ bm bc (ck d) 0::blk b1 (.cells #[.int .i64 (d).th,.int .i64 (d).sn,.int .i64 (d).no,.int .i64 (d).ch,.int .i64 (d).re,.int .i64 (d).fa,.int .u64 (d).cl] 26)::cs):=hs;have kc:=hs.k2;have hs:=hs.made (.cells #[.string ⟨#[97]⟩,.int .u64 1] 69);obtain⟨b3,hb3⟩:∃b3,b3=w3.heap.size:=⟨_,rfl⟩;rw[←hb3]at hs;have hs:=hs.lS (n:=1) (size:=2) (xs:=aD mU.pg.sl) rfl (by decide)
 have hs:St K _ (aJ bm bc (ck d) 0::az (.slice (some ⟨b3,0,none⟩) mU.pg.sl.length 1) 69 2 mU.pg.sl.length (aD mU.pg.sl)::blk b2 (.cells #[.int .i64 (d).th,.int .i64 (d).sn,.int .i64 (d).no,.int .i64 (d).ch,.int .i64 (d).re,.int .i64 (d).fa,.int .u64 (d).cl] 29)::blk b1 (.cells #[.int .i64 (d).th,.int .i64 (d).sn,.int .i64 (d).no,.int .i64 (d).ch,.int .i64 (d).re,.int .i64 (d).fa,.int .u64 (d).cl] 26)::cs):=hs.re [2,0,1,3] rfl;have q:=xa (pg:=mU.pg) (id:=1) hd.out (by decide) (by decide) (by have:=rO.out;show(1:Int)<=d.fa;omega) hs
 have Q:=aq3 q;clear q hs;go_wp2_with fail
 rw[←hb3];refine(Q.out).mono ?_
 clear Q kc hb3;rintro e w4 ⟨rfl,hs⟩;have hs:St K w4 (blk b2 (.cells #[.int .i64 (d).th,.int .i64 (d).sn,.int .i64 (d).no,.int .i64 (d).ch,.int .i64 (d).re,.int .i64 (d).fa,.int .u64 (d).cl] 29)::aJ bm bc (eZ d 1 mU.pg (ck d)) 0::blk b1 (.cells #[.int .i64 (d).th,.int .i64 (d).sn,.int .i64 (d).no,.int .i64 (d).ch,.int .i64 (d).re,.int .i64 (d).fa,.int .u64 (d).cl] 26)::cs):=(hs.re [1,2,0,3] rfl).tail;have kc:=hs.k2;have hs:=hs.made (.cells #[.string ⟨#[98]⟩,.int .u64 2] 69);obtain⟨b3,hb3⟩:∃b3,b3=w4.heap.size:=⟨_,rfl⟩;rw[←hb3]at hs;have hs:=hs.lS (n:=1) (size:=2) (xs:=aD mV.pg.sl) rfl (by decide)
 have hs:St K _ (aJ bm bc (eZ d 1 mU.pg (ck d)) 0::az (.slice (some ⟨b3,0,none⟩) mV.pg.sl.length 1) 69 2 mV.pg.sl.length (aD mV.pg.sl)::blk b2 (.cells #[.int .i64 (d).th,.int .i64 (d).sn,.int .i64 (d).no,.int .i64 (d).ch,.int .i64 (d).re,.int .i64 (d).fa,.int .u64 (d).cl] 29)::blk b1 (.cells #[.int .i64 (d).th,.int .i64 (d).sn,.int .i64 (d).no,.int .i64 (d).ch,.int .i64 (d).re,.int .i64 (d).fa,.int .u64 (d).cl] 26)::cs):=hs.re [2,0,1,3] rfl;have q:=xa (pg:=mV.pg) (id:=2) hd.out (by decide) (by decide) (by have:=rO.out;show(1:Int)<=d.fa;omega) hs
 have Q:=aq3 q;clear q hs;go_wp2_with fail
 rw[←hb3];refine(Q.out).mono ?_
 clear Q kc hb3;rintro e w5 ⟨rfl,hs⟩;go_wp2_with fail
 refine(gy (i:=4) (c:=⟨2,⟨#[]⟩,0⟩) hs).mono ?_
 clear hs;rintro e w6 ⟨rfl,hs⟩;have hs:St K w6 (blk b2 (.cells #[.int .i64 (d).th,.int .i64 (d).sn,.int .i64 (d).no,.int .i64 (d).ch,.int .i64 (d).re,.int .i64 (d).fa,.int .u64 (d).cl] 29)::aJ bm bc (Ew d) 0::blk b1 (.cells #[.int .i64 (d).th,.int .i64 (d).sn,.int .i64 (d).no,.int .i64 (d).ch,.int .i64 (d).re,.int .i64 (d).fa,.int .u64 (d).cl] 26)::cs):=(hs.re [1,2,0,3] rfl).tail;have kl:=hs.k0;have q:=xB (d:=d) (ak:=1) (ch:=2) (sep:=⟨#[98]⟩) hs;have Q:=aq3 q;clear q hs;generalize Ew d=L0 at *;go_wp2_with fail
 refine(Q.out).mono ?_
 clear Q kl;rintro e w7 ⟨b,C,rfl,hr,hs⟩;have ho:vk K b bm bc d J (blk b2 (.cells #[.int .i64 (d).th,.int .i64 (d).sn,.int .i64 (d).no,.int .i64 (d).ch,.int .i64 (d).re,.int .i64 (d).fa,.int .u64 (d).cl] 29)::blk b1 (.cells #[.int .i64 (d).th,.int .i64 (d).sn,.int .i64 (d).no,.int .i64 (d).ch,.int .i64 (d).re,.int .i64 (d).fa,.int .u64 (d).cl] 26)::cs) 0 190 w7:=vk.start hJ0.out hr (hs.perm (List.Perm.append_left _ (List.Perm.swap _ _ _)));clear hs hr;go_upto_region 9 with(fail)
 go_cut [5]from 999 to 0 (fun v wx=>v=.int .i64 0/\vk K b bm bc d J (blk b2 (.cells #[.int .i64 (d).th,.int .i64 (d).sn,.int .i64 (d).no,.int .i64 (d).ch,.int .i64 (d).re,.int .i64 (d).fa,.int .u64 (d).cl] 29)::blk b1 (.cells #[.int .i64 (d).th,.int .i64 (d).sn,.int .i64 (d).no,.int .i64 (d).ch,.int .i64 (d).re,.int .i64 (d).fa,.int .u64 (d).cl] 26)::cs) 0 190 wx)
 case first=>
  as_aux_lemma=>
  go_wp2
  go_meet;exact⟨rfl,ho⟩
 case rest=>
 clear ho;obtain⟨rfl,ho⟩:=hcut;apply_assumption
 go_cut [5]from 999 to 0 (fun _ wx=>∃acc,Vw K b bm bc d J (blk b2 (.cells #[.int .i64 (d).th,.int .i64 (d).sn,.int .i64 (d).no,.int .i64 (d).ch,.int .i64 (d).re,.int .i64 (d).fa,.int .u64 (d).cl] 29)::blk b1 (.cells #[.int .i64 (d).th,.int .i64 (d).sn,.int .i64 (d).no,.int .i64 (d).ch,.int .i64 (d).re,.int .i64 (d).fa,.int .u64 (d).cl] 26)::cs) acc wx)
 case first=>
  as_aux_lemma=>
  go_wp2
  go_loopw [5] (fun vn wr=>∃(n m:Nat),n+m<=190/\vn=.int .i64 n/\vk K b bm bc d J (blk b2 (.cells #[.int .i64 (d).th,.int .i64 (d).sn,.int .i64 (d).no,.int .i64 (d).ch,.int .i64 (d).re,.int .i64 (d).fa,.int .u64 (d).cl] 29)::blk b1 (.cells #[.int .i64 (d).th,.int .i64 (d).sn,.int .i64 (d).no,.int .i64 (d).ch,.int .i64 (d).re,.int .i64 (d).fa,.int .u64 (d).cl] 26)::cs) n m wr) (fun v _=>200-(intOf v).toNat)
  case atStart=>exact⟨0,190,by omega,rfl,ho⟩
  case round=>
   clear ho;obtain⟨n,m,hnm,rfl,ho⟩:=hrel;have q:=HJ.out.go hd.out (by omega) ho
   have Q:=aq3 q;clear q ho;have hn2:(n:Int)<200:=by omega
   go_wp2_with fail
   refine(Q.out).mono ?_
   clear Q;rintro e w8 (⟨rfl,h⟩|⟨rfl,m',hm,h⟩)
   ·go_wp2
    go_meet;exact⟨_,h⟩
   ·go_wp2
    go_roundw
    case rel=>exact⟨n+1,m',by omega,by go_num,h⟩
    case measure=>simp[intOf];omega
 case rest=>
 clear ho;obtain⟨acc,L,s,m,hJe,iH,hs⟩:=hcut;apply_assumption
 obtain⟨xO,h3⟩:=HJe.out L s m hJe iH;have q:=xP hs;rw[xO]at q;have Q:=aq3 q;have q2:=Jq (i:=0) hs hs.b1.mem;have Q2:=aq3 q2;have Hs:=aq3 hs;clear q q2 hs hJ0 hJe xO;go_wp2_with fail
 refine(Q.out).mono ?_
 clear Q;rintro e w8 ⟨rfl,rfl⟩;go_wp2_with fail
 refine(Q2.out).mono ?_
 clear Q2;rintro e w9 ⟨rfl,hs⟩;go_wp2
 go_ret;exact⟨rfl,hs.tail.tail.tail.tail⟩
end
end
section
theorem Vx:(Tryz.prog.info? 4).map (fun i=>(i.zero,i.size,i.bytes))=some (some (.bool false),1,1):=by kernel_rfl
theorem Vy:(Tryz.prog.info? 99).map (fun i=>(i.zero,i.size,i.bytes))=some (some (.agg #[.string ⟨#[]⟩,.int .u64 0]),2,24):=by kernel_rfl
section
variable {K:aL}{w:World}{F:List aC}{d:aR}{g:Nat}{L:List aO}{t:List (List Nd)}{l0 l1:List Nd}
theorem Vz (hd:d.Ok)(ht:cD d L t)(h0:t[0]?=some l0)(h1:t[1]?.getD []=l1)(hg:K.map g=some (.cells (flat L).toArray 63))(hl:L.length<=1000000)(hs:St K w F) :
  Calls Tryz.prog 58 #[.agg #[.int .i64 (d).th,.int .i64 (d).sn,.int .i64 (d).no,.int .i64 (d).ch,.int .i64 (d).re,.int .i64 (d).fa,.int .u64 (d).cl,.slice (some ⟨g,0,none⟩) L.length L.length]] w fun e w' => ∃v,e=.returned v/\St K w' (az v 99 2 (gu l0 l1).length (fc (gu l0 l1))::F):=by
 have iX:=hd.mJ;have Xv:=hd.Jo;have vT:=hd.mK;have Vi:=ht.ne;obtain⟨iv,cZ,dc,dg,dh⟩:=info_parts Vy;have lI:=aq3 cZ;have lJ:=aq3 dc;have lK:=aq3 dg;have lM:=aq3 dh;clear cZ dc dg dh;have mD:l1=[]\/t[1]?=some l1:=by
  cases h:t[1]? with
  | none=>rw[h]at h1;exact .inl h1.symm
  | some x=>rw[h]at h1;exact .inr (by rw[←h1];rfl)
 have hn0:∀nd,nd∈l0->uM d L nd:=ht.nodes 0 l0 h0;have hn1:∀nd,nd∈l1->uM d L nd/\∀x,x∈nd.pg.sl->1<=x.r/\x.r<=d.no:=fun nd hn=>by
  rcases mD with e|e
  ·rw[e]at hn;cases hn
  ·refine⟨ht.nodes 1 l1 e nd hn,fun x hx=>?_⟩
   obtain⟨c,hc,e1,_⟩:=(ht.down 0 l0 l1 h0 e nd hn).2 x hx;rw[←e1];exact(hn0 c hc).id
 have afL:l0.length<=4096:=by have:=List.cX h0;have:=ht.count;have:=ht.n4;omega
 have afM:l1.length<=4096:=by
  rcases mD with e|e
  ·rw[e];simp
  ·have:=List.cX e;have:=ht.count;have:=ht.n4;omega
 have Ql0:=aq3 (fun W cs (h:St K W cs)=>iU (k:=0) hd ht (by omega) hg hl h)
 have Ql1:=aq3 (fun W cs (h:St K W cs)=>iU (k:=1) hd ht (by omega) hg hl h)
 have Qp0:=aq3 (fun(nd:Nd) (hn:nd∈l0) W cs (h:St K W cs)=>fD hd (hn0 nd hn).id.1 (hn0 nd hn).id.2 (hn0 nd hn).page hg hl h)
 have Qp1:=aq3 (fun(nd:Nd) (hn:nd∈l1) W cs (h:St K W cs)=>fD hd (hn1 nd hn).1.id.1 (hn1 nd hn).1.id.2 (hn1 nd hn).1.page hg hl h)
 have aaF:gX t 0=l0.map (·.id):=by unfold gX;rw[h0]
 have aaG:gX t 1=l1.map (·.id):=by
  unfold gX;rcases mD with e|e
  ·rw[e]at h1
   cases h:t[1]? with
   | none=>rw[e];rfl
   | some x=>rw[h]at h1;rw[e,show x=[]from h1]
  ·rw[e]
 rw[aaF,List.length_map]at Ql0;rw[aaG,List.length_map]at Ql1;have hR:=(ht.rows 0 l0 h0);have HR:=aq3 hR;have Hn0:=aq3 hn0;have Hn1:=aq3 hn1;have hs:=hs.made (.cells #[.int .i64 (d).th,.int .i64 (d).sn,.int .i64 (d).no,.int .i64 (d).ch,.int .i64 (d).re,.int .i64 (d).fa,.int .u64 (d).cl,.slice (some ⟨g,0,none⟩) L.length L.length] 52);obtain⟨bv,nS⟩:∃bv,bv=w.heap.size:=⟨_,rfl⟩;obtain⟨m0,hm0⟩:∃m,m=l0.length:=⟨_,rfl⟩;obtain⟨m1,hm1⟩:∃m,m=l1.length:=⟨_,rfl⟩;obtain⟨N,hN⟩:∃N:Nat,d.no=N:=⟨d.no.toNat,by omega⟩
 have Hm0:=aq3 hm0;have Hm1:=aq3 hm1;have HN:=aq3 hN;rw[←hm0]at Ql0 afL;rw[←hm1]at Ql1 afM;obtain⟨ii,afN,afO,afP,afQ⟩:=info_parts Vx;have hmk:=Xc 165 4 ii (.bool false) 1 Tryz.underlying165 afN afO afP afQ rfl (by decide) (N+1) (by omega) (d.no+1) (by rw[hN];push_cast;rfl)
 generalize L.length=n at *;clear ht hg aaF aaG hm0 hm1 h0 h1 Vi mD hn0 hn1 hR hN;go_enter Tryz.func58,Tryz.ntmps58
 have hs:=hs.made (.cells (Array.replicate (N+1) (.bool false)) 4);rw[World.size_alloc]at hs;rw[←nS]at hs;have hs:=hs.Qf (o' := .cells (jE (N+1) []).toArray 4) (by rw[←Ou];simp)
 have hs:=hs.lS (n:=N+1) (size:=1) (by rw[Vo];omega) (by have:=HN.out;unfold maxLen;omega)
 have kv:=hs.b1.k0;go_upto_region 2 with(fail)
 rw[←nS];clear hmk afN afO afP afQ;go_wp2_with fail
 refine(Ql1.out _ _ hs).mono ?_
 clear hs kv Ql1 nS;rintro e w1 ⟨va,rfl,hs⟩;obtain⟨a1,mA,rfl,_,_⟩:=hs.aH;have hs:=hs.b1;go_upto_region 3 with(fail)
 go_cut [5]from 5 to 5 (fun v wx=>v=.int .i64 0/\St K wx (az (.slice (some ⟨bv+1,0,none⟩) (N+1) (N+1)) 4 1 (N+1) (jE (N+1) (refsOf (l1.take 0)))::az (.slice a1 m1 mA) 23 1 m1 (aQ (l1.map (·.id)))::blk bv (.cells #[.int .i64 (d).th,.int .i64 (d).sn,.int .i64 (d).no,.int .i64 (d).ch,.int .i64 (d).re,.int .i64 (d).fa,.int .u64 (d).cl,.slice (some ⟨g,0,none⟩) n n] 52)::F))
 case first=>
  as_aux_lemma=>
  go_wp2
  go_meet;exact⟨rfl,hs⟩
 case rest=>
 clear hs;obtain⟨rfl,hs⟩:=hcut;apply_assumption
 go_cut [5,6,7]from 999 to 0 (fun _ _ _ wx=>∃(a1:Option Addr),St K wx (az (.slice (some ⟨bv+1,0,none⟩) (N+1) (N+1)) 4 1 (N+1) (jE (N+1) (refsOf l1))::az (.slice a1 m1 mA) 23 1 m1 (aQ (l1.map (·.id)))::blk bv (.cells #[.int .i64 (d).th,.int .i64 (d).sn,.int .i64 (d).no,.int .i64 (d).ch,.int .i64 (d).re,.int .i64 (d).fa,.int .u64 (d).cl,.slice (some ⟨g,0,none⟩) n n] 52)::F))
 case first=>
  as_aux_lemma=>
  go_wp2
  go_loopw [5] (fun v5 wr=>∃(i:Nat),v5=.int .i64 i/\i<=m1 /\
   St K wr (az (.slice (some ⟨bv+1,0,none⟩) (N+1) (N+1)) 4 1 (N+1) (jE (N+1) (refsOf (l1.take i)))::az (.slice a1 m1 mA) 23 1 m1 (aQ (l1.map (·.id)))::blk bv (.cells #[.int .i64 (d).th,.int .i64 (d).sn,.int .i64 (d).no,.int .i64 (d).ch,.int .i64 (d).re,.int .i64 (d).fa,.int .u64 (d).cl,.slice (some ⟨g,0,none⟩) n n] 52)::F)) (fun v5 _=>m1-(intOf v5).toNat)
  case atStart=>exact⟨0,rfl,by omega,hs⟩
  case round=>
   clear hs;obtain⟨i,rfl,hi,hs⟩:=hrel;by_cases him:i<m1
   ·obtain⟨nd,hnd⟩:∃nd,l1[i]?=some nd:=⟨_,aq8 (by have:=Hm1.out;omega)⟩
    have QN:=aq3 (Qp1.out nd (aq7 hnd));obtain⟨ga,Oo,_⟩:=(show St K wr (az _ _ _ _ _::_)from hs.b1).cQ (show(aQ (l1.map (·.id)))[i]?=some (.int .u64 nd.id)by simp[aQ,hnd])
    subst Oo;have Od:=aq3 hnd;have hq4:nd.pg.sl.length<=4096:=by have:=(Hn1.out nd (aq7 hnd)).1.page.le;have:=vT;omega
    have hq5:=(Hn1.out nd (aq7 hnd)).2;have Hq5:=aq3 hq5;have vA:=Ek hnd;have Hrf:=aq3 vA;generalize refsOf (l1.take i)=pR at *;clear hnd vA hq5;go_upto_region 6 with(fail)
    have Hs:=aq3 hs;clear hs;refine aT [false,false,false,false,false,true,true,true] [5,6,7] (fun|7=>[5,6] | _=>[])
     (tq K (az (.slice (some ⟨bv+1,0,none⟩) (N+1) (N+1)) 4 1 (N+1) (jE (N+1) pR)::az (.slice (some ⟨ga,0,none⟩) m1 mA) 23 1 m1 (aQ (l1.map (·.id)))::blk bv (.cells #[.int .i64 (d).th,.int .i64 (d).sn,.int .i64 (d).no,.int .i64 (d).ch,.int .i64 (d).re,.int .i64 (d).fa,.int .u64 (d).cl,.slice (some ⟨g,0,none⟩) n n] 52)::F) nd.pg)
     (fun W=>St K W (az (.slice (some ⟨bv+1,0,none⟩) (N+1) (N+1)) 4 1 (N+1) (jE (N+1) pR)::az (.slice (some ⟨ga,0,none⟩) m1 mA) 23 1 m1 (aQ (l1.map (·.id)))::blk bv (.cells #[.int .i64 (d).th,.int .i64 (d).sn,.int .i64 (d).no,.int .i64 (d).ch,.int .i64 (d).re,.int .i64 (d).fa,.int .u64 (d).cl,.slice (some ⟨g,0,none⟩) n n] 52)::F)) ?aSb (by kernel_rfl) ?hBb ?Hb ?Gy ?h0b ?hIb ?hRb ?hEb ?hQb
    case hBb=>as_aux_lemma=>kernel_rfl
    case Hb=>
     intro W2 hs;have kv:=hs.k2;have c0:=(show St K W2 (az _ _ _ _ _::_)from hs.b1).bK (show(aQ (l1.map (·.id)))[i]?=some (.int .u64 nd.id)by simp[aQ,Od.out])
     clear hs;simp only[bL];repeat (go_big_quiet_step (fail))
     refine wpQuiet_nil ?_
     rfl
    case Gy=>rfl
    case h0b=>exact tq.start Hs.out
    case hIb=>exact fun ρ W2 h=>h.rest
    case hRb=>exact fun ρ W2 W3 h hb=>h.same hb
    case hEb=>
     refine⟨?e5b,?e6b,?e7b,trivial⟩;case e5b=>
      intro o ho ρ W2 h hcl h5 hd2 af aB;obtain rfl:=aq9 ho;replace aB:af=aj _ ρ [] _:=aB;have h7:ρ 7=none:=hcl.none (by simp) (show 5∈[5,6]by simp) h5
      obtain⟨R',hs,hnext⟩:=h.e5 h5 h7;simp only[aj]at aB;subst aB;have Hn:=aq3 hnext;clear hnext hcl hd2 h5 h7 h;go_wp2_with fail
      refine(QN.out _ _ hs).mono ?_
      rintro e W3 ⟨va3,rfl,hs'⟩;obtain⟨a3,c3,rfl,_,_⟩:=hs'.aH;have eG:=aq3 hs';clear hs hs';go_wp2
      exact⟨rfl,_,rfl,Hn.out _ _ W3 eG.out⟩
     case e6b=>
      intro o ho ρ W2 h hcl h6 hd2 af aB;obtain rfl:=aq9 ho;replace aB:af=aj _ ρ [] _:=aB;have h7:ρ 7=none:=hcl.none (by simp) (show 6∈[5,6]by simp) h6
      have Hn:=aq3 (h.e6 h6 h7);simp only[aj]at aB;subst aB;clear hcl hd2 h6 h7 h;go_wp2
      exact⟨rfl,_,rfl,Hn.out⟩
     case e7b=>
      intro o ho ρ W2 h hcl h7 hd2 af aB;obtain rfl:=aq9 ho;replace aB:af=aj _ ρ [5,6] _:=aB;obtain⟨v5,h5⟩:=aq6.1 (hd2 5 (by show _∈[5,6];simp))
      obtain⟨v6,h6⟩:=aq6.1 (hd2 6 (by show _∈[5,6];simp))
      obtain⟨a3,c3,b3,R',rfl,rfl,hs,hnext⟩:=h.e7 h5 h6 h7;simp only[aj,h5,h6,Option.getD_some,aM,Act.put,ara]at aB;subst aB;have k0:=hs.k0;have f0:=hs.f0;have hs:=((((hs.aI 0 (.int .i64 nd.pg.ak)).aI 1 (.slice a3 nd.pg.sl.length c3)).aI 2 (.string nd.pg.hi)).aI 3 (.bool nd.pg.la)).aI 4 (.int .u64 nd.pg.ri);have fZ:=aq3 hs;have Hn:=aq3 hnext;clear hs hnext hcl hd2 h h5 h6 h7;go_wp2
      exact⟨rfl,undef,rfl,Hn.out _ fZ.out⟩
    case hQb=>
     intro ρ W2 h hall;obtain⟨a3,c3,b3,h5,h6,⟨v7,h7⟩,hs⟩:=h.last hall;simp only[aj,h5,h6,h7,Option.getD_some,aM,Act.put,ara];clear h hall h5 h6 h7;have hs:St K W2 (blk b3 (.cells #[.int .i64 (nd.pg).ak,(.slice a3 nd.pg.sl.length c3),.string (nd.pg).hi,.bool (nd.pg).la,.int .u64 (nd.pg).ri] 43)::bu (.slice a3 nd.pg.sl.length c3) nd.pg::az (.slice (some ⟨bv+1,0,none⟩) (N+1) (N+1)) 4 1 (N+1) (jE (N+1) pR)::az (.slice (some ⟨ga,0,none⟩) m1 mA) 23 1 m1 (aQ (l1.map (·.id)))::blk bv (.cells #[.int .i64 (d).th,.int .i64 (d).sn,.int .i64 (d).no,.int .i64 (d).ch,.int .i64 (d).re,.int .i64 (d).fa,.int .u64 (d).cl,.slice (some ⟨g,0,none⟩) n n] 52)::F):=hs
     obtain⟨q,hq⟩:∃q,q=nd.pg.sl.length:=⟨_,rfl⟩;have Hq:=aq3 hq;rw[←hq]at hq4;have hs:St K W2 (blk b3 (.cells #[.int .i64 nd.pg.ak,.slice a3 q c3,.string nd.pg.hi,.bool nd.pg.la,.int .u64 nd.pg.ri] 43)::az (.slice a3 q c3) 69 2 q (aD nd.pg.sl)::az (.slice (some ⟨bv+1,0,none⟩) (N+1) (N+1)) 4 1 (N+1) (jE (N+1) pR)::az (.slice (some ⟨ga,0,none⟩) m1 mA) 23 1 m1 (aQ (l1.map (·.id)))::blk bv (.cells #[.int .i64 (d).th,.int .i64 (d).sn,.int .i64 (d).no,.int .i64 (d).ch,.int .i64 (d).re,.int .i64 (d).fa,.int .u64 (d).cl,.slice (some ⟨g,0,none⟩) n n] 52)::F):=by rw[hq];exact hs
     clear hq;go_upto_region 7 with(fail)
     go_wp2
     go_loopw [7] (fun v7 wr=>∃(j:Nat),v7=.int .i64 j/\j<=q /\
      St K wr (blk b3 (.cells #[.int .i64 nd.pg.ak,.slice a3 q c3,.string nd.pg.hi,.bool nd.pg.la,.int .u64 nd.pg.ri] 43)::az (.slice a3 q c3) 69 2 q (aD nd.pg.sl)::az (.slice (some ⟨bv+1,0,none⟩) (N+1) (N+1)) 4 1 (N+1) (jE (N+1) (pR++(nd.pg.sl.take j).map (·.r)))::az (.slice (some ⟨ga,0,none⟩) m1 mA) 23 1 m1 (aQ (l1.map (·.id)))::blk bv (.cells #[.int .i64 (d).th,.int .i64 (d).sn,.int .i64 (d).no,.int .i64 (d).ch,.int .i64 (d).re,.int .i64 (d).fa,.int .u64 (d).cl,.slice (some ⟨g,0,none⟩) n n] 52)::F)) (fun v7 _=>q-(intOf v7).toNat)
     case atStart=>exact⟨0,rfl,by omega,by rw[List.take_zero,List.map_nil,List.append_nil];exact hs⟩
     case round=>
      clear hs;obtain⟨j,rfl,hj,hs⟩:=hrel;by_cases hjq:j<q
      ·obtain⟨x,hx⟩:∃x,nd.pg.sl[j]?=some x:=⟨_,aq8 (by have:=Hq.out;omega)⟩
       obtain⟨r0,r1⟩:=fW nd.pg.sl j x hx;obtain⟨g3,hg3,c0⟩:=(show St K wr (az _ _ _ _ _::_)from hs.b1).cQ r1
       subst hg3;have Et:=Hq5.out x (aq7 hx);obtain⟨y,hy⟩:∃y:Nat,x.r=y:=⟨x.r.toNat,by omega⟩
       have hyN:y<N+1:=by have:=HN.out;omega
       have dY:pR++(nd.pg.sl.take (j+1)).map (·.r)=(pR++(nd.pg.sl.take j).map (·.r))++[(y:Int)]:=by rw[List.take_add_one,hx];simp[hy]
       have iP:=aq3 dY;have kp:=hs.k0;have kv:=hs.tail.tail.tail.tail.k0;have hs2:=hs.b2;have hs2:St K wr (az (.slice (some ⟨bv+1,0,none⟩) (N+1) (N+1)) 4 1 (N+1) (jE (N+1) (pR++(nd.pg.sl.take j).map (·.r)))::_):=hs2
       rw[hy]at c0;have hwr:IntKind.u64.wrap d.no=d.no:=by rw[IntKind.wrap_u64];omega
       have hmin:min (y:Int) d.no=y:=Int.min_eq_left (by have:=HN.out;omega)
       clear r0 r1 dY hx hs Et hy;go_upto_region 10 with(fail)
       refine bQ 13 (by kernel_rfl) (by as_aux_lemma=>kernel_rfl) ?_
       simp only[List.take_succ_cons,List.take_zero,List.drop_succ_cons,List.drop_zero];repeat (go_big_quiet_step (fail))
       refine wpQuiet_nil ?_
       intro w9 Zv;have hs2:=hs2.same Zv;have fz:=hs2.Vv (by omega)
       have cH:=hs2.bK (Lk (pR++(nd.pg.sl.take j).map (·.r)) hyN)
       have Bz:=hs2.Zo (j:=y) (.bool true);rw[Vp]at Bz;clear hs2 c0 kp kv Zv;go_upto_region 9 with(fail)
       refine cP Bz ?_
       clear Bz fz cH hwr hmin;intro w3 hs;have hs:St K w3 (blk b3 (.cells #[.int .i64 nd.pg.ak,.slice (some ⟨g3,0,none⟩) q c3,.string nd.pg.hi,.bool nd.pg.la,.int .u64 nd.pg.ri] 43)::az (.slice (some ⟨g3,0,none⟩) q c3) 69 2 q (aD nd.pg.sl)::az (.slice (some ⟨bv+1,0,none⟩) (N+1) (N+1)) 4 1 (N+1) (jE (N+1) (pR++(nd.pg.sl.take (j+1)).map (·.r)))::az (.slice (some ⟨ga,0,none⟩) m1 mA) 23 1 m1 (aQ (l1.map (·.id)))::blk bv (.cells #[.int .i64 (d).th,.int .i64 (d).sn,.int .i64 (d).no,.int .i64 (d).ch,.int .i64 (d).re,.int .i64 (d).fa,.int .u64 (d).cl,.slice (some ⟨g,0,none⟩) n n] 52)::F):=by
        rw[iP.out];exact hs.u2
       go_wp2
       go_roundw
       case rel=>exact⟨j+1,by go_num,by omega,hs⟩
       case measure=>simp[intOf];omega
      ·obtain rfl:j=q:=by omega
       rw[show nd.pg.sl.take j=nd.pg.sl from List.take_of_length_le (by rw[←Hq.out];exact Nat.le_refl _),←Hrf.out]at hs
       have kp:=hs.k0;have hs2:=hs.tail.tail;clear hs;go_wp2
       go_roundw
       case rel=>exact⟨i+1,by go_num,by omega,hs2⟩
       case measure=>simp[intOf];omega
   ·obtain rfl:i=m1:=by omega
    rw[show l1.take i=l1 from List.take_of_length_le (by rw[←Hm1.out];exact Nat.le_refl _)]at hs
    go_wp2
    go_meet;exact⟨a1,hs⟩
 case rest=>
 clear hs;obtain⟨a1,hs⟩:=hcut;apply_assumption
 have hs:=hs.b1.tail;have hs:=hs.cF (T:=99) (size:=2);have kv:=hs.k2;go_upto_region 12 with(fail)
 go_wp2_with fail
 refine(Ql0.out _ _ hs).mono ?_
 clear hs kv Ql0;rintro e w2 ⟨va,rfl,hs⟩;obtain⟨a0,Jl,rfl,_,_⟩:=hs.aH;have hs:=hs.b1;go_wp2
 go_loopw [8,10,11] (fun v8 v10 v11 wr=>∃(i:Nat) (lw:ByteArray) (ao:Option Addr) (co:Nat),v8=.slice ao (gu (l0.take i) l1).length co/\v10=.string lw/\v11=.int .i64 i/\i<=m0/\Hid (∀c,l0[i]?=some c->c.low=lw) /\
  St K wr (az (.slice ao (gu (l0.take i) l1).length co) 99 2 (gu (l0.take i) l1).length (fc (gu (l0.take i) l1))::az (.slice a0 m0 Jl) 23 1 m0 (aQ (l0.map (·.id)))::az (.slice (some ⟨bv+1,0,none⟩) (N+1) (N+1)) 4 1 (N+1) (jE (N+1) (refsOf l1))::blk bv (.cells #[.int .i64 (d).th,.int .i64 (d).sn,.int .i64 (d).no,.int .i64 (d).ch,.int .i64 (d).re,.int .i64 (d).fa,.int .u64 (d).cl,.slice (some ⟨g,0,none⟩) n n] 52)::F)) (fun _ _ v11 _=>m0-(intOf v11).toNat)
 case atStart=>exact⟨0,⟨#[]⟩,none,0,rfl,rfl,rfl,by omega,aq3 (fun c hc=>HR.out.first c hc),hs⟩
 case round=>
  clear hs;obtain⟨i,lw,ao,co,rfl,rfl,rfl,hi,HLw,hs⟩:=hrel;have hq:(gu (l0.take i) l1).length<=4096:=by
   unfold gu;refine Nat.le_trans (List.length_filter_le _ _) ?_
   rw[List.length_drop,List.length_take];have:=Hm0.out;omega
  by_cases him:i<m0
  ·obtain⟨c,hc⟩:∃c,l0[i]?=some c:=⟨_,aq8 (by have:=Hm0.out;omega)⟩
   have hcm:=aq7 hc;have Tx:=(Hn0.out c hcm).id;obtain⟨y,hy⟩:∃y:Nat,c.id=y:=⟨c.id.toNat,by omega⟩
   have hyN:y<N+1:=by have:=HN.out;omega
   have QN:=aq3 (Qp0.out c hcm);obtain⟨ga,Oo,c0⟩:=(show St K wr (az _ _ _ _ _::_)from hs.b1).cQ (show(aQ (l0.map (·.id)))[i]?=some (.int .u64 y)by simp[aQ,hc,hy])
   subst Oo;have Hc:=aq3 hc;have Hy:=aq3 hy;have dW:c.low=lw:=HLw.out c hc;have akA:=aq3 dW;have aaH:=aq3 (Ov (l1:=l1) hc);have cI:=(show St K wr (az _ _ _ _ _::_)from hs.b2).bK (Lk (refsOf l1) hyN)
   obtain⟨bb,hbb⟩:∃bb,bb=decide ((y:Int)∈refsOf l1):=⟨_,rfl⟩;rw[←hbb]at cI;have Hbb:=aq3 hbb;obtain⟨S,hS⟩:∃S,S=gu (l0.take i) l1:=⟨_,rfl⟩;rw[←hS]at hs hq ⊢;have HS:=aq3 hS;clear hc hcm Tx dW hbb hS hy;go_upto_region 17 with(fail)
   go_cut [70]from 61 to 70 (fun v wx=>v=.bool (decide (0<i) && !bb)/\St K wx (az (.slice ao S.length co) 99 2 S.length (fc S)::az (.slice (some ⟨ga,0,none⟩) m0 Jl) 23 1 m0 (aQ (l0.map (·.id)))::az (.slice (some ⟨bv+1,0,none⟩) (N+1) (N+1)) 4 1 (N+1) (jE (N+1) (refsOf l1))::blk bv (.cells #[.int .i64 (d).th,.int .i64 (d).sn,.int .i64 (d).no,.int .i64 (d).ch,.int .i64 (d).re,.int .i64 (d).fa,.int .u64 (d).cl,.slice (some ⟨g,0,none⟩) n n] 52)::F))
   case first=>
    as_aux_lemma=>
    rcases Nat.eq_zero_or_pos i with rfl|oH
    ·go_wp2
     go_meet;exact⟨rfl,hs⟩
    ·have hgi:(0:Int)<i:=by omega
     go_wp2
     go_meet;exact⟨by rw[decide_eq_true oH];rfl,hs⟩
   case rest=>
   clear hs;obtain⟨rfl,hs⟩:=hcut;apply_assumption
   go_cut [8]from 70 to 79 (fun v wx=>∃(ao:Option Addr) (co:Nat),v=.slice ao (gu (l0.take (i+1)) l1).length co/\St K wx (az (.slice ao (gu (l0.take (i+1)) l1).length co) 99 2 (gu (l0.take (i+1)) l1).length (fc (gu (l0.take (i+1)) l1))::az (.slice (some ⟨ga,0,none⟩) m0 Jl) 23 1 m0 (aQ (l0.map (·.id)))::az (.slice (some ⟨bv+1,0,none⟩) (N+1) (N+1)) 4 1 (N+1) (jE (N+1) (refsOf l1))::blk bv (.cells #[.int .i64 (d).th,.int .i64 (d).sn,.int .i64 (d).no,.int .i64 (d).ch,.int .i64 (d).re,.int .i64 (d).fa,.int .u64 (d).cl,.slice (some ⟨g,0,none⟩) n n] 52)::F))
   case first=>
    as_aux_lemma=>
    have hst:=aaH.out;rw[Hy.out]at hst;rcases Bool.eq_false_or_eq_true (decide (0<i) && !bb)with hb|hb
    ·have hb2:i > 0/\¬ (y:Int)∈refsOf l1:=by
      rw[Bool.and_eq_true]at hb;refine⟨of_decide_eq_true hb.1,fun h=>?_⟩
      have h2:=hb.2;rw[Hbb.out,decide_eq_true h]at h2;cases h2
     rw[if_pos hb2,←HS.out]at hst;have Hst:=aq3 hst;rw[hb];clear hst hb hb2 c0 cI;have c0:=(show St K _ (az _ _ _ _ _::_)from hs.b1).bK (show(aQ (l0.map (·.id)))[i]?=some (.int .u64 y)by simp[aQ,Hc.out,Hy.out])
     go_wp2_with (at_builtin;refine dF _ _ 96 99 _ S.length 2 24 _ [.string lw,.int .u64 y] (.agg #[.string ⟨#[]⟩,.int .u64 0]) iv hs rfl rfl Tryz.underlying96 lI.out lJ.out lK.out lM.out rfl (by decide) rfl rfl rfl (fun u hu=>by simp at hu;rcases hu with rfl|rfl <;> rfl) (by omega) (by decide) ?_)
     clear hs c0;intro v' w' hs;obtain⟨an,cn,hv,_,_⟩:=hs.aH;subst hv;go_wp2
     go_meet;rw[Hst.out,List.length_append,List.length_singleton,Jh,akA.out,Hy.out];exact⟨an,cn,rfl,hs⟩
    ·have hb2:¬ (i > 0/\¬ (y:Int)∈refsOf l1):=fun⟨h1,h2⟩=>by
      rw[decide_eq_true h1,Hbb.out,decide_eq_false h2]at hb;cases hb
     rw[if_neg hb2,←HS.out]at hst;have Hst:=aq3 hst;rw[hb];clear hst hb hb2 c0 cI;go_wp2
     go_meet;rw[Hst.out];exact⟨ao,co,rfl,hs⟩
   case rest=>
   clear hs;obtain⟨ao,co,rfl,hs⟩:=hcut;apply_assumption
   clear HS aaH hq;have Hnx:Hid (∀c',l0[i+1]?=some c' -> c'.low=c.pg.hi):=aq3 (fun c' h=>((HR.out.next i c c' Hc.out h).2.1).symm)
   clear c0 cI;go_upto_region 19 with(fail)
   have Hs:=aq3 hs;clear hs;refine dG [false,false,false,false,false,true,true,false] (fun|6=>some (.string c.pg.hi)|_=>none) [5,6] (fun|6=>[5] | _=>[])
    (GR K (az (.slice ao (gu (l0.take (i+1)) l1).length co) 99 2 (gu (l0.take (i+1)) l1).length (fc (gu (l0.take (i+1)) l1))::az (.slice (some ⟨ga,0,none⟩) m0 Jl) 23 1 m0 (aQ (l0.map (·.id)))::az (.slice (some ⟨bv+1,0,none⟩) (N+1) (N+1)) 4 1 (N+1) (jE (N+1) (refsOf l1))::blk bv (.cells #[.int .i64 (d).th,.int .i64 (d).sn,.int .i64 (d).no,.int .i64 (d).ch,.int .i64 (d).re,.int .i64 (d).fa,.int .u64 (d).cl,.slice (some ⟨g,0,none⟩) n n] 52)::F) [5,6] (ve c.pg (.string c.pg.hi) 5 6))
    (fun W=>St K W (az (.slice ao (gu (l0.take (i+1)) l1).length co) 99 2 (gu (l0.take (i+1)) l1).length (fc (gu (l0.take (i+1)) l1))::az (.slice (some ⟨ga,0,none⟩) m0 Jl) 23 1 m0 (aQ (l0.map (·.id)))::az (.slice (some ⟨bv+1,0,none⟩) (N+1) (N+1)) 4 1 (N+1) (jE (N+1) (refsOf l1))::blk bv (.cells #[.int .i64 (d).th,.int .i64 (d).sn,.int .i64 (d).no,.int .i64 (d).ch,.int .i64 (d).re,.int .i64 (d).fa,.int .u64 (d).cl,.slice (some ⟨g,0,none⟩) n n] 52)::F)) ?akk (by kernel_rfl) ?acA ?rbH ?Vn ?acB ?acC ?acD ?acE ?acF
   case acA=>as_aux_lemma=>kernel_rfl
   case rbH=>
    intro W2 hs;have kv:=hs.tail.tail.tail.k0;have c0:=(show St K W2 (az _ _ _ _ _::_)from hs.b1).bK (show(aQ (l0.map (·.id)))[i]?=some (.int .u64 c.id)by simp[aQ,Hc.out])
    clear hs;simp only[cN];repeat (go_big_quiet_step (fail))
    refine wpQuiet_nil ?_
    rfl
   case Vn=>rfl
   case acB=>exact GR.start Hs.out
   case acC=>exact fun ρ W2 h=>h.rest
   case acD=>exact fun ρ W2 W3 h hb=>h.same hb
   case acE=>
    refine⟨?acG,?acH,trivial⟩;case acG=>
     intro o ho ρ W2 h hcl h5 hd2 act dD;obtain rfl:=aq9 ho;replace dD:act=aj _ ρ [] _:=dD;obtain⟨C,R',hx1,hs,hnext⟩:=h.step ve.mono 5 [] (by decide) (by decide) (by decide) h5 (by simp)
     simp only[aj]at dD;subst dD;have Hn:=aq3 hnext;clear hnext hx1 h hcl hd2 h5;go_wp2_with fail
     refine(QN.out _ _ hs).mono ?_
     rintro e W3 ⟨va8,rfl,hs'⟩;obtain⟨a8,c8,rfl,_,_⟩:=hs'.aH;have eG:=aq3 hs';clear hs hs';go_wp2
     exact⟨rfl,_,rfl,fun u hu=>(by cases hu),Hn.out _ _ W3 ⟨a8,c8,rfl,rfl⟩ eG.out⟩
    case acH=>
     intro o ho ρ W2 h hcl h6 hd2 act dD;obtain rfl:=aq9 ho;replace dD:act=aj _ ρ [5] _:=dD;obtain⟨v5,h5⟩:=aq6.1 (hd2 5 (by show _∈[5];simp))
     obtain⟨Zz,R8,⟨a8,c8,rfl,rfl⟩,hs8⟩:=h.at 5 (by simp) h5
     simp only[aj,h5,Option.getD_some,aM,Act.put,ara]at dD;subst dD;have H:=aq3 (h.jT ve.mono 6 (by decide) (by simp) h6 _ ⟨rfl,rfl⟩)
     clear h hs8 hcl hd2 h6 h5;go_wp2
     exact⟨rfl,_,rfl,fun u hu=>aq9 hu,H.out⟩
   case acF=>
    intro ρ W2 h hall;have hs:=h.rest;clear h;simp only[aj,Option.getD_some,aM,Act.put,ara];go_wp2
    go_roundw
    case rel=>exact⟨i+1,c.pg.hi,ao,co,rfl,rfl,by go_num,by omega,Hnx,hs⟩
    case measure=>simp[intOf];omega
  ·obtain rfl:i=m0:=by omega
   have e2:l0.take i=l0:=List.take_of_length_le (by rw[←Hm0.out];exact Nat.le_refl _)
   have E2:=aq3 e2;clear e2;go_wp2
   go_ret;exact⟨_,rfl,by
    show St K wr (az (.slice ao (gu (l0.take i) l1).length co) 99 2 (gu l0 l1).length (fc (gu l0 l1))::F)
    have h:=hs.bY.bY.bY;rw[E2.out]at h ⊢;exact h⟩
end
end
section
theorem St.aaI {K:aL}{w:World}{b:Nat}{old:Array Value}{T:TypeId}{F:List aC}(h:St K w (blk b (.cells old T)::F))(cells:Array Value):St K (w.setRow b cells) (blk b (.cells cells T)::F):=by
 refine h.zM (c' := blk b (.cells cells T)) ⟨rfl,rfl,rfl,by rw[size_setRow];exact Nat.le_refl _,fun k hk hn=>setRow_other _ _ _ _ (fun e=>hn (by subst e;exact List.mem_singleton.2 rfl))⟩ (setRow_heap _ _ _ _ _ _ h.head) rfl
theorem Wa:(Tryz.prog.info? 52).map (·.size)=some 8:=by kernel_rfl
def mR (d:aR):Array Value:= #[.int .i64 (d).th,.int .i64 (d).sn,.int .i64 (d).no,.int .i64 (d).ch,.int .i64 (d).re,.int .i64 (d).fa,.int .u64 (d).cl]
def sq (d:aR)(g n:Nat):Array Value:= #[.int .i64 (d).th,.int .i64 (d).sn,.int .i64 (d).no,.int .i64 (d).ch,.int .i64 (d).re,.int .i64 (d).fa,.int .u64 (d).cl,.slice (some ⟨g,0,none⟩) n n]
theorem vo:∀(ks:List ByteArray)(i:Nat),(eA i ks).map (·.k)=ks
 | [],i=>rfl
 | k::ks,i=>by
  show k::(eA (i+1) ks).map (·.k)=_
  rw[vo ks (i+1)]
def Wb (fa:Int):aR:=⟨1,2,300,100,200,4+fa%3,1000⟩
theorem Em (fa:Int):(Wb fa).Ok:=by
 have h0:0<=fa%3:=by omega
 have h1:fa%3<=2:=by omega
 constructor <;> simp only[Wb] <;> omega
theorem Wc (fanout:Int):∃d:aR,Hid d.Ok/\Hid (d.fa<=6)/\Hid (d.no=300)/\Hid (d.ch=100)/\Hid (∀w,Calls Tryz.prog 12 #[.int .i64 1,.int .i64 fanout] w fun e w' => e=.returned (.agg #[.int .i64 d.th,.int .i64 d.sn,.int .i64 100,.int .i64 d.ch,.int .i64 d.re,.int .i64 d.fa,.int .u64 d.cl])/\Below w.heap.size w w') /\
  Hid (∀w K cs,St K w cs->Calls Tryz.prog 13 #[.agg #[.int .i64 (d).th,.int .i64 (d).sn,.int .i64 (d).no,.int .i64 (d).ch,.int .i64 (d).re,.int .i64 (d).fa,.int .u64 (d).cl]] w fun e w'' => ∃bm bc,e=.returned (.tuple #[.agg #[.int .i64 (d).th,.int .i64 (d).sn,.int .i64 (d).no,.int .i64 (d).ch,.int .i64 (d).re,.int .i64 (d).fa,.int .u64 (d).cl],(.pointer (some ⟨bm,0,none⟩))])/\St K w'' (aJ bm bc (ck d) 0::cs)):=
 ⟨Wb fanout,aq3 (Em fanout),aq3 (by show 4+fanout%3<=6;omega),aq3 rfl,aq3 rfl,aq3 (fun w=>oG 1 fanout w),aq3 (fun w K cs hs=>p7 (Em fanout) hs)⟩
theorem aaJ {α:Type}(a b c m:α)(l:List α):(a::b::c::m::l).Perm (m::a::b::c::l):=List.perm_middle (l₁:=[a,b,c])
theorem afR {t:List (List Nd)}{l0:List Nd}{j:Nat}{c:Nd}(h:(gu l0 (t[1]?.getD []))[j]?=some c):c∈l0.drop 1/\¬ pQ t 1 c.id:=by
 have h1:=List.mem_filter.1 (aq7 h);refine⟨h1.1,fun h2=>?_⟩
 rw[lH]at h2;have h3:=h1.2;rw[decide_eq_true h2]at h3;cases h3
def qP (tk:List Nd)(ks:List ByteArray)(et el k1 k2:Nat)(e:Nat)(_ρ:Nat->Option Value)(v:Value)(cs:List aC):Prop:=
 if e=et then ∃a c,v=.slice a tk.length c/\cs=[az (.slice a tk.length c) 99 2 tk.length (fc tk)]
 else if e=el then v=.int .i64 (tk.length:Nat)/\cs=[]
 else if e=k1\/e=k2 then ∃a c,v=.slice a ks.length c/\cs=[az (.slice a ks.length c) 9 1 ks.length (bO ks)]
 else v=.bool true/\cs=[]
theorem qP.mono {tk:List Nd}{ks:List ByteArray}{et el k1 k2:Nat}{es:List Nat}:Rt es (qP tk ks et el k1 k2):=fun _ _ _ _ _ _ _ _ h=>h
section
variable {K:aL}{w:World}{F:List aC}{d:aR}{g:Nat}{L:List aO}{t:List (List Nd)}{l0:List Nd}{ks:List ByteArray}
theorem Jm (hd:d.Ok)(hch:d.ch=100)(h:Zn d ks l0 L t)(hk:ks.length<=36)(hg:K.map g=some (.cells (flat L).toArray 63)) :
  L.length<=1000000/\(∀W F,St K W F->Calls Tryz.prog 58 #[.agg #[.int .i64 (d).th,.int .i64 (d).sn,.int .i64 (d).no,.int .i64 (d).ch,.int .i64 (d).re,.int .i64 (d).fa,.int .u64 (d).cl,.slice (some ⟨g,0,none⟩) L.length L.length]] W fun e w' => ∃v,e=.returned v/\St K w' (az v 99 2 (gu l0 (t[1]?.getD [])).length (fc (gu l0 (t[1]?.getD [])))::F)) /\
  (∀W F,St K W F->Calls Tryz.prog 55 #[.agg #[.int .i64 (d).th,.int .i64 (d).sn,.int .i64 (d).no,.int .i64 (d).ch,.int .i64 (d).re,.int .i64 (d).fa,.int .u64 (d).cl,.slice (some ⟨g,0,none⟩) L.length L.length]] W fun e w' => ∃v,e=.returned v/\St K w' (az v 9 1 ks.length (bO ks)::F)) /\
  (∀W,W.heap[g]?=some (.cells (flat L).toArray 63)->Calls Tryz.prog 24 #[.agg #[.int .i64 (d).th,.int .i64 (d).sn,.int .i64 (d).no,.int .i64 (d).ch,.int .i64 (d).re,.int .i64 (d).fa,.int .u64 (d).cl,.slice (some ⟨g,0,none⟩) L.length L.length]] W fun e w' => e=.returned (.bool true)/\Below W.heap.size W w'):=by
 have hcb:=hd.eb;have hl:L.length<=1000000:=by have:=h.eu;omega
 have hkeys:(l0.flatMap fun nd=>nd.pg.sl).length=ks.length/\(l0.flatMap fun nd=>nd.pg.sl).map (·.k)=ks:=by
  rw[h.leaves];exact⟨jN ks 0,vo ks 0⟩
 refine⟨hl,fun W F hs=>Vz hd h.ok h.r0 rfl hg hl hs,fun W F hs=>?_,fun W hW=>?_⟩
 ·have q:=Ef hd h.ok h.r0 hg hl hs
  rw[hkeys.1,hkeys.2]at q;exact q
 ·exact(zu (K:=aL.of W) hd h.gQ h.eu (h.snd hd (by omega)) hW (St.start W)).mono (fun e w' (h:_/\_)=>(⟨h.1,h.2.below (aL.Le.refl _)⟩:_/\Below W.heap.size W w'))
end
end
end Go.Proofs.YtlpdhhhgckpcfaaGreat
