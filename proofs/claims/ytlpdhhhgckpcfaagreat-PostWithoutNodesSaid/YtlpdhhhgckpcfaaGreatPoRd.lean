
/- Post in a tree (pure): how it aaE, what a yC tree costs. Post in a tree (pure): the rounds of PostEnters, PostWithoutNodes. Post in a tree (pure): the example of layer 14. -/
import Derived.Test.YtlpdhhhgckpcfaaGreatPoAll
import Derived.Test.YtlpdhhhgckpcfaaGreatRowLaw
import Derived.Test.YtlpdhhhgckpcfaaGreatTk
namespace Go.Proofs.YtlpdhhhgckpcfaaGreat
open Go.RowKit
set_option maxRecDepth 100000
section
variable {d:aR}{L L':List aP}{t t':List (List Nd)}
theorem Uq (hf:d.fa<=6)(N:Nat):wC d N<=11*N+51:=by
 have h1:bT d<=11:=by unfold bT;omega
 have h2:=Nat.mul_le_mul_left N h1;unfold wC qE wI;omega
theorem afg (hf:d.fa<=6)(B:Nat):gC d B<=11*B+97:=by
 have h1:bT d<=11:=by unfold bT;omega
 have h2:=Nat.mul_le_mul_left B h1;have h3:=Uq hf 1;unfold gC qE gI;omega
theorem Nw {N:Int}(hs:rR N t){k:Nat}{l l':List Nd}(hk:t[k]?=some l)(hk':t[k+1]?=some l')(hl:l.length<=2){nd:Nd}(hn:nd∈l'):nd.pg.sl.length<=3:=by
 rcases Nat.lt_or_ge 3 nd.pg.sl.length with h|h
 ·exfalso
  have dF:=(hs.nodes _ l' hk' nd hn).2.j7;have afh:=(hs.down k l l' hk hk' nd hn).2;have key:∀ j,j<nd.pg.sl.length->∃ (x:Sl) (p:Nat) (c:Nd),nd.pg.sl[j]?=some x/\l[p]?=some c/\p<2/\c.low=x.k:=fun j hj=>by
   have hx:nd.pg.sl[j]?=some nd.pg.sl[j]:=aqt hj;obtain⟨c,hc,_,e⟩:=afh _ (aqs hx);obtain⟨p,hp⟩:=aqp hc;have:=(aqq.1 hp).1;exact⟨_,p,c,hx,hp,by omega,e⟩
  obtain⟨x0,p0,c0,hx0,Su,h0,e0⟩:=key 0 (by omega)
  obtain⟨x1,p1,c1,hx1,hp1,h1,e1⟩:=key 1 (by omega)
  obtain⟨x2,p2,c2,hx2,hp2,h2,e2⟩:=key 2 (by omega)
  have a01:=kJ dF hx0 hx1 (by omega)
  have a02:=kJ dF hx0 hx2 (by omega)
  have a12:=kJ dF hx1 hx2 (by omega)
  have ne:∀ (p q:Nat) (a b:Nd) (x y:Sl),l[p]?=some a->l[q]?=some b->a.low=x.k->b.low=y.k->cE x.k y.k=true->p≠q:=by
   intro p q a b x y ha hb e1 e2 hlt e;subst e;rw[ha]at hb;obtain rfl:=aqu hb;rw[← e1,← e2,dI]at hlt;cases hlt
  have n01:=ne _ _ _ _ _ _ Su hp1 e0 e1 a01;have n02:=ne _ _ _ _ _ _ Su hp2 e0 e2 a02;have n12:=ne _ _ _ _ _ _ hp1 hp2 e1 e2 a12;omega
 ·exact h
theorem uR {k:Nat}{l:List Nd}(hk:t[k]?=some l):pE t k=l.length+pE t (k+1):=by
 rw[jm,jm,drop_cons hk,List.map_cons,List.sum_cons]
theorem aab {N:Int}(hf:d.fa<=6)(hs:rR N t)(hh:∀ (k:Nat)(l l':List Nd),t[k]?=some l->t[k+1]?=some l' -> 2*l'.length<=l.length+1)(B:Nat):∀ (j k:Nat)(l:List Nd),t[k]?=some l->l.length<=2 ^ (j+1)->cU d B (t.drop (k+1))<=(j+1)*(11*pE t (k+1)+51)+(11*B+97)
 | j,k,l,hk,hl=>by
  have qQ:=(aqq.1 hk).1;rcases Nat.lt_or_ge (k+1) t.length with h|h
  ·obtain⟨l',hk'⟩:∃ l',t[k+1]?=some l' := ⟨_,aqt h⟩
   have h2:=hh k l l' hk hk';have hne:=(hs.rows _ l' hk').ne;have hw:=Uq hf (pE t (k+1));rw[Tm d B hk'];cases j with
   | zero=>
    have h1:l'.length=1:=by simp at hl;omega
    have hsm:small l'=true:=by
     match l',h1 with
     | [nd],_=>exact decide_eq_true (Nw hs hk hk' (by simpa using hl) List.mem_cons_self)
    rw[if_pos hsm];omega
   | succ j=>
    have ih:=aab hf hs hh B j (k+1) l' hk' (by rw[Nat.pow_succ]at hl;omega)
    have hu:=uR hk';have hm:(j+1)*(11*pE t (k+1+1)+51)<=(j+1)*(11*pE t (k+1)+51):=Nat.mul_le_mul_left _ (by omega)
    have e:(j+1+1)*(11*pE t (k+1)+51)=(j+1)*(11*pE t (k+1)+51)+(11*pE t (k+1)+51):=Nat.succ_mul _ _;rw[e];split
    ·omega
    ·omega
  ·rw[List.drop_of_length_le h]
   have:=afg hf B;show gC d B<=_
   omega
theorem oF.shp {ks:List ByteArray}{dV:Bool}(h:oF d ks dV L t):rR (ah L 4).n t:=h.ok.m.sh
theorem oF.cost {ks:List ByteArray}{dV:Bool}(h:oF d ks dV L t)(hf:d.fa<=6)(hk:ks.length<=36):cU d 2 (t.drop 1)<=4940:=by
 obtain⟨l0,h0⟩:∃ l0,t[0]?=some l0:=⟨_,aqt h.ok.ne⟩;have h36:l0.length<=36:=by rcases h.r36 l0 h0 with h|h <;> omega
 have hu:=uR h0;have hc:=h.ad5;have hu0:pE t 0=(t.map List.length).sum:=by rw[jm,List.drop_zero]
 have hne:=(h.shp.rows _ l0 h0).ne;have q:=fun j hj=>aab hf h.shp h.half 2 j 0 l0 h0 hj
 rcases Nat.lt_or_ge 32 l0.length with h1|h1
 ·have:=q 5 (by omega)
  simp only[Nat.zero_add]at this hu;omega
 ·rcases Nat.lt_or_ge 16 l0.length with h2|h2
  ·have:=q 4 (by omega)
   simp only[Nat.zero_add]at this hu;omega
  ·have:=q 3 (by omega)
   simp only[Nat.zero_add]at this hu;omega
def Yi (d:aR)(L:List aP)(t:List (List Nd))(l0:List Nd)(ch:Int)(B:Nat)(room:Bool)(lim:Int):Ed:=⟨L,l0,fun id=>qF t 1 id,ch,B,room,t.length,lim⟩
structure Ko (d:aR)(L:List aP)(t:List (List Nd))(l0:List Nd)(B:Nat)(room:Bool)(lim:Int)(m:Nat):Prop where
 ok:cA d L t
 iR:bI L
 eW:(L.length:Int)=d.cells
 sz:SzT t
 r0:t[0]?=some l0
 b2:2<=B
 Ur:room=true->(ah L 4).n+(t.length:Int)<=lim/\lim<=d.no
 aac:room=false->d.no<=(ah L 4).n/\lim<=d.no
 c7:(ah L 7).n%4=0
 wd:∀ (k:Nat) (l:List Nd),t[k]?=some l->∀ nd,nd∈l->(ah L (d.node nd.id 0)).n+4*m<=9223372036854775808
 top:yT (Yi d L t l0 0 B room lim) t (if 1<t.length then 1 else 0)
 cost:(1<t.length->cU d B (t.drop 1)<=m)/\(t.length=1->pE t 0*bT d+1+qE d+gI d<=m)
theorem Ko.start {l0:List Nd}{B:Nat}{room:Bool}{lim:Int}{m:Nat}(h:Ko d L t l0 B room lim m){c:Nd}(hc:c∈l0):j5 d (Yi d L t l0 c.id B room lim) L t 1 (Oe ⟨1,c.low,c.id,false⟩) m:=by
 have hne:=h.ok.ne;have hl0:=(h.ok.m.sh.rows _ l0 h.r0).ne;have hcl:cL t 1<=t.length:=by unfold cL;split <;> omega
 refine⟨⟨h.iR,h.eW,h.ok.m,h.sz,h.r0,fun j _ _ _ _=>rfl,h.b2,fun e=>⟨(h.aac e).1,rfl⟩,?_,fun e=>?_⟩,Nat.le_refl _,rfl,fun _=>⟨l0,c,h.r0,hc,rfl,rfl⟩,fun _=>rfl,fun c' _=>?_,fun k l hk nd hn _=>?_,fun _=>h.c7,fun _=>rfl,h.wd,?_⟩
 ·show lim<=d.no
  cases room with
  | true=>exact(h.Ur rfl).2
  | false=>exact(h.aac rfl).2
 ·have:=(h.Ur e).1
  show(ah L 4).n<=lim
  omega
 ·show qF t 1 c'.id↔qF t 1 c'.id\/(ew (Oe ⟨1,c.low,c.id,false⟩)=true/\_)
  have e:ew (Oe ⟨1,c.low,c.id,false⟩)=false:=rfl;rw[e];simp
 ·exact(h.ok.nodes k l hk nd hn).free.n
 ·show Room d _ L (cL t 1)/\yT _ t (if 1<t.length then 1 else 0)/\(0:Nat)≠4/\_
  refine⟨fun e=>?_,h.top,by decide,?_⟩
  ·have:=(h.Ur e).1
   show(ah L 4).n+(cL t 1:Nat)<=lim
   omega
  ·rcases Nat.lt_or_ge 1 t.length with h1|h1
   ·left
    refine⟨h1,pE t 1*bT d+1+qE d,Ic.begin ?_ (Nat.le_refl _),?_⟩
    ·obtain⟨l1,oy⟩:∃ l1,t[1]?=some l1:=⟨_,aqt h1⟩
     obtain⟨a,ha⟩:=List.exists_mem_of_ne_nil l1 (fun e=>by have:=(h.ok.m.sh.rows _ l1 oy).ne;rw[e]at this;exact absurd this (by decide))
     exact⟨l1,a,oy,ha⟩
    ·obtain⟨l1,oy⟩:∃ l1,t[1]?=some l1:=⟨_,aqt h1⟩
     have:=h.cost.1 h1;rw[Tm d B oy]at this;show _+wI d+(if (t[1]?.map small).getD false then 0 else cU d B (t.drop 2))<=m
     rw[oy];show _+wI d+(if small l1=true then 0 else cU d B (t.drop 2))<=m
     unfold wC at this;omega
   ·right
    refine⟨by show t.length=1;omega,pE t 0*bT d+1+qE d,Ic.begin ⟨l0,c,h.r0,hc⟩ (Nat.le_refl _),h.cost.2 (by omega)⟩
theorem lA (id:Int):qF t 1 id↔id∈refsOf (t[1]?.getD []):=by
 unfold qF refsOf;constructor
 ·rintro ⟨l,nd,s,hl,hn,hs,rfl⟩
  rw[hl];exact List.mem_map.2 ⟨s,List.mem_flatMap.2 ⟨nd,hn,hs⟩,rfl⟩
 ·intro h
  obtain⟨s,hs,rfl⟩:=List.mem_map.1 h;obtain⟨nd,hn,hs⟩:=List.mem_flatMap.1 hs;cases hl:t[1]? with
  | none=>rw[hl]at hn;simp at hn
  | some l=>
   rw[hl]at hn;exact⟨l,nd,s,rfl,hn,hs,rfl⟩
theorem Us {l l1 l1':List Nd}{c:Nd}(hnd:(l.map (·.id)).Nodup)(hc:c∈l)(hn:¬ c.id∈refsOf l1)(h:∀ a,a∈l->(a.id∈refsOf l1' ↔ a.id∈refsOf l1\/a.id=c.id)) :
  (l.filter fun a => !decide (a.id∈refsOf l1')).length+1=(l.filter fun a => !decide (a.id∈refsOf l1)).length:=by
 induction l with
 | nil=>cases hc
 | cons a l ih=>
  rw[List.map_cons,List.nodup_cons]at hnd;have ha:=h a List.mem_cons_self;rcases List.mem_cons.1 hc with e|hc'
  ·subst e
   have hsame:(l.filter fun a => !decide (a.id∈refsOf l1'))=l.filter fun a => !decide (a.id∈refsOf l1):=by
    refine List.filter_congr (fun b hb=>?_)
    have hbc:b.id≠c.id:=fun e=>hnd.1 (by rw[← e];exact List.mem_map_of_mem hb)
    have:=h b (List.mem_cons_of_mem _ hb);have h2:b.id∈refsOf l1' ↔ b.id∈refsOf l1:=by
     rw[this];exact⟨fun h=>h.resolve_right hbc,.inl⟩
    rw[decide_eq_decide.2 h2]
   rw[List.filter_cons,List.filter_cons,if_neg (by simp[ha.2 (.inr rfl)]),if_pos (by simp[hn]),List.length_cons,hsame]
  ·have hac:a.id≠c.id:=fun e=>hnd.1 (by rw[e];exact List.mem_map_of_mem hc')
   have ih' := ih hnd.2 hc' (fun b hb=>h b (List.mem_cons_of_mem _ hb))
   have h2:a.id∈refsOf l1' ↔ a.id∈refsOf l1:=by
    rw[ha];exact⟨fun h=>h.resolve_right hac,.inl⟩
   rw[List.filter_cons,List.filter_cons];by_cases hm:a.id∈refsOf l1
   ·rw[if_neg (by simp[h2.2 hm]),if_neg (by simp[hm])]
    exact ih'
   ·rw[if_pos (by simp[mt h2.1 hm]),if_pos (by simp[hm]),List.length_cons,List.length_cons]
    omega
theorem Yj {l l1 l1':List Nd}(h:∀ a,a∈l->(a.id∈refsOf l1' ↔ a.id∈refsOf l1)):(l.filter fun a => !decide (a.id∈refsOf l1'))=l.filter fun a => !decide (a.id∈refsOf l1):=
 List.filter_congr (fun b hb=>by rw[decide_eq_decide.2 (h b hb)])
theorem rR.ids {N:Int}(hs:rR N t){k:Nat}{l:List Nd}(hk:t[k]?=some l):(l.map (·.id)).Nodup:=by
 rw[List.nodup_iff_pairwise_ne,List.pairwise_map,List.pairwise_iff_getElem];intro i j hi hj hij e;have:=(hs.inj k k l l i j _ _ hk hk (aqt hi) (aqt hj) e).2;omega
structure aae (d:aR)(P:Ed)(t0:List (List Nd))(L:List aP)(t:List (List Nd))(s:eE):Prop where
 base:ze d P L t
 ok:cA d L t
 c7:(ah L 7).n%4=0
 tk:∀ c,c∈P.l0.drop 1->c.id=P.Zl->¬ qF t0 1 c.id->(fV P.l0 (t[1]?.getD [])).length+(if s.f.po then 1 else 0)=(fV P.l0 (t0[1]?.getD [])).length
 ent:s.f.po=true->∀ c,c∈P.l0.drop 1->c.id=P.Zl->qF t 1 c.id
 full:P.room=true->s.f.po=true
theorem j5.fin {l0:List Nd}{ch:Int}{B:Nat}{room:Bool}{lim:Int}{L0:List aP}{t0:List (List Nd)}{n m:Nat}{s:eE}(h:j5 d (Yi d L0 t0 l0 ch B room lim) L t n s m)(h0:s.pc=14):aae d (Yi d L0 t0 l0 ch B room lim) t0 L t s:=by
 have hfull:room=true->s.f.po=true:=by
  have hst:=h.st;obtain⟨pc,f,lk,fr,ins,aq,root,word,tk,id,k⟩:=s;simp only at h0;subst h0;exact hst
 have hdn:ew s=s.f.po:=by
  have h1:=h.az;have h2:=h.vV;obtain⟨pc,f,lk,fr,ins,aq,root,word,tk,id,k⟩:=s;simp only at h0 h1 hfull ⊢;subst h0;cases hr:room with
  | true=>simp[ew,hfull hr]
  | false=>
   have:n=1:=h2 hr;rw[this]at h1;simp[ew,h1]
 refine⟨h.base,h.base.tree.ok (fun k l hk nd hn=>h.free k l hk nd hn (fun e=>?_)),h.c7 (.inl (by omega)),fun c hc hid hno=>?_,fun yZ c hc hid=>?_,hfull⟩
 ·obtain⟨pc,f,lk,fr,ins,aq,root,word,tk,id,k⟩:=s
  simp only at h0;subst h0;exact e
 ·have hsub:((l0.drop 1).map (·.id)).Nodup:=by
   have:=h.base.tree.sh.ids h.base.r0;exact this.sublist ((List.drop_sublist 1 l0).map _)
  have jn:=h.ref;rw[hdn]at jn;cases yZ:s.f.po with
  | true=>
   refine Us (c:=c) hsub hc (by rw[← lA];exact hno) (fun a ha=>?_)
   rw[← lA,← lA];have this:qF t 1 a.id↔qF t0 1 a.id\/(s.f.po=true/\a.id=ch):=jn a ha;rw[yZ,← (show c.id=ch from hid)]at this
   simpa using this
  | false=>
   show(List.filter _ _).length+0=_
   rw[Nat.add_zero];refine congrArg List.length (Yj (fun a ha=>?_))
   rw[← lA,← lA];have this:qF t 1 a.id↔qF t0 1 a.id\/(s.f.po=true/\a.id=ch):=jn a ha;rw[yZ]at this;simpa using this
 ·have:=(h.ref c hc).2 (.inr ⟨by rw[hdn];exact yZ,hid⟩)
  exact this
end
section
variable {d:aR}{L L':List aP}{t t':List (List Nd)}{ks:List ByteArray}{l0:List Nd}
theorem acd (hd:d.Ok)(hlen:(L.length:Int)=d.cells)(ht:cA d L t)(hz:∀ j:Int,mC d j->j≠7->ah L j=aP.zero)(h7:(ah L 7).n%4=0)(h5:(ah L 5).n=ks.length)(hlv:∀ l,t[0]?=some l->l.flatMap (fun nd=>nd.pg.sl)=ee 0 ks)(hch:(ks.length:Int)<=d.ch):Uf d L t:=by
 have hA:=hd.eb;have hB:=hd.jo;have hC:=hd.mE;have hcb:=hd.dL;have z:∀ j:Int,1<=j->j<d.A->j≠4->j≠5->j≠7->ah L j=aP.zero:=fun j a b c e f=>hz j (.inl ⟨a,b,c,e⟩) f
 have r1:=hd.Yo;refine⟨ht,⟨?_,?_,ht.n4,by rw[h5];exact hch,?_,h7,fun i a b=> .inl ?_⟩,fun l' hl' =>?_⟩
 ·rw[z 1 (by omega) (by omega) (by omega) (by omega) (by omega),z 2 (by omega) (by omega) (by omega) (by omega) (by omega)]
 ·rw[z 3 (by omega) (by omega) (by omega) (by omega) (by omega),z 2 (by omega) (by omega) (by omega) (by omega) (by omega)];exact Int.le_refl _
 ·rw[z 6 (by omega) (by omega) (by omega) (by omega) (by omega)];show(0:Int)<=d.re;omega
 ·rw[z i (by omega) b (by omega) (by omega) (by omega)];rfl
 ·rw[hlv l' hl',uQ]
  refine⟨fun r hr=>?_,?_⟩
  ·obtain⟨j,hj,rfl⟩:=List.mem_map.1 hr
   have hj:=List.mem_range.1 hj;have aoZ:=zX hd (c:=((0+j+1:Nat):Int)) (by omega) (by omega)
   refine⟨by omega,by omega,by rw[h5];omega,[],?_,by show(0:Int)<=d.re;omega,fun i v hv=>by simp at hv⟩
   show(ah _ _).n=0
   rw[hz _ (.inr (by omega)) (by omega)]
   rfl
  ·rw[List.nodup_iff_pairwise_ne,List.pairwise_map]
   refine List.Pairwise.imp (fun {a b} hab=>?_) (List.nodup_iff_pairwise_ne.1 List.nodup_range)
   intro e;exact hab (by omega)
structure Ut (d:aR)(ks:List ByteArray)(l0:List Nd)(L:List aP)(t:List (List Nd)):Prop where
 ok:cA d L t
 iR:bI L
 eW:(L.length:Int)=d.cells
 sz:SzT t
 r0:t[0]?=some l0
 zero:∀ j:Int,mC d j->j≠7->ah L j=aP.zero
 c7:(ah L 7).n%4=0
 n5:(ah L 5).n=ks.length
 leaves:l0.flatMap (fun nd=>nd.pg.sl)=ee 0 ks
theorem Ut.snd (hd:d.Ok)(h:Ut d ks l0 L t)(hch:(ks.length:Int)<=d.ch):Uf d L t:=
 acd hd h.eW h.ok h.zero h.c7 h.n5 (fun l hl=>by rw[h.r0]at hl;obtain rfl:=aqu hl;exact h.leaves) hch
theorem Ut.next {ch:Int}{B:Nat}{room:Bool}{lim:Int}{t0:List (List Nd)}{s:eE}(hd:d.Ok)(h:Ut d ks l0 L t0)(he:aae d (Yi d L t0 l0 ch B room lim) t0 L' t s):Ut d ks l0 L' t:=by
 have hA:=hd.eb;have hB:=hd.jo;have hb:=he.base;have hr:∀ j:Int,j≠0->j≠4->j≠7->(j<d.A\/d.B<=j)->ah L' j=ah L j:=hb.rest;refine⟨he.ok,hb.iR,hb.eW,hb.sz,hb.r0,fun j hj h7=>?_,he.c7,?_,h.leaves⟩
 ·rw[hr j (by rcases hj with h|h <;> omega) (by rcases hj with h|h <;> omega) h7 (by rcases hj with h|h <;> omega)]
  exact h.zero j hj h7
 ·rw[hr 5 (by omega) (by omega) (by omega) (by omega)]
  exact h.n5
theorem cA.low (hd:d.Ok)(hlen:(L.length:Int)=d.cells)(ht:cA d L t){c:aP}(h1:(ah L 4).n<=c.n)(h2:c.n<=d.no):cA d (aN L 4 c) t:=by
 have hA:=hd.eb;have hB:=hd.jo;have hcb:=hd.dL;have hC:=hd.mE;obtain⟨a,b,x,e,f,g,i,j⟩:=ht;refine⟨a,b,fun k l hk nd hn=>(x k l hk nd hn).frame hd (fun q y z=>bg (by have:=fL hd nd.id q (x k l hk nd hn).id.1 (x k l hk nd hn).id.2 y z;omega)),?_,f,?_,?_,fun k l hk nd hn=>?_⟩
 ·rw[bg (by omega)];exact e
 ·rw[b9 (by omega) (by omega)];omega
 ·rw[b9 (by omega) (by omega)];exact h2
 ·rw[b9 (by omega) (by omega)];have:=j k l hk nd hn;omega
theorem cA.bare (hd:d.Ok)(hlen:(L.length:Int)=d.cells)(ht:cA d L t){l0:List Nd}{nd:Nd}{r:List Nd}(h0:t[0]?=some l0)(hl0:l0=nd::r)(h1:nd.id=1):cA d (aN L 0 ⟨1,⟨#[]⟩,0⟩) [l0]:=by
 have hA:=hd.eb;have hB:=hd.jo;have hcb:=hd.dL;have hC:=hd.mE;have Dw:∀ (k:Nat) (l:List Nd),[l0][k]?=some l->k=0/\l=l0:=fun k l hk=>by
  cases k with
  | zero=>exact⟨rfl,(aqu hk).symm⟩
  | succ k=>simp at hk
 obtain⟨a,b,x,e,f,g,i,j⟩:=ht;refine⟨Nat.one_pos,fun k l hk=>?_,fun k l hk nd hn=>?_,⟨nd,r,by simp[hl0],?_⟩,fun k l l' hk hk' =>?_,?_,?_,fun k l hk nd hn=>?_⟩
 ·obtain⟨rfl,rfl⟩:=Dw k l hk
  exact b 0 _ h0
 ·obtain⟨rfl,rfl⟩:=Dw k l hk
  exact(x 0 _ h0 nd hn).frame hd (fun q y z=>bg (by have:=fL hd nd.id q (x 0 _ h0 nd hn).id.1 (x 0 _ h0 nd hn).id.2 y z;omega))
 ·rw[b9 (by omega) (by omega),h1]
 ·have:=(Dw _ _ hk').1;omega
 ·rw[bg (by omega)]
  have:=List.cT h0;simp;omega
 ·rw[bg (by omega)];exact i
 ·obtain⟨rfl,rfl⟩:=Dw k l hk
  rw[bg (by omega)];exact j 0 _ h0 nd hn
structure PoF (d:aR)(ks:List ByteArray)(l0:List Nd)(bare:Bool)(L:List aP)(t:List (List Nd)):Prop where
 g:Ut d ks l0 L t
 abg:(ah L 4).n<=100
 Cx:t.length<=100
 wd:∀ (k:Nat) (l:List Nd),t[k]?=some l->∀ nd,nd∈l->(ah L (d.node nd.id 0)).n=0
 beg:∃ B,2<=B/\yT (Yi d L t l0 0 B true 0) t (if 1<t.length then 1 else 0)/\(1<t.length->cU d B (t.drop 1)<=4940)/\(t.length=1->pE t 0*bT d+1+qE d+gI d<=4940)
 afi:bare=true->t.length=1
theorem oF.Uu (hd:d.Ok)(hf:d.fa<=6)(h:oF d ks true L t)(hk:ks.length<=36)(bare:Bool):∃ l0 t',PoF d ks l0 bare (if bare then aN L 0 ⟨1,⟨#[]⟩,0⟩else L) t' := by
 obtain⟨l0,h0⟩:∃ l0,t[0]?=some l0:=⟨_,aqt h.ok.ne⟩;have h36:l0.length<=36:=by rcases h.r36 l0 h0 with h|h <;> omega
 have hA:=hd.eb;have hB:=hd.jo;have hC:=hd.mE;have hcb:=hd.dL;have hcl:=h.eW;have Kz:bT d<=11:=by unfold bT;omega
 have hw1:=Uq hf 1;have hne:=(h.shp.rows _ l0 h0).ne;have hz7:mC d 7:= .inl ⟨by omega,by omega,by omega,by omega⟩
 have xp:t.length<=100:=by
  have h1:=qj t (fun l hl=>by
   obtain⟨k,hk⟩:=aqp hl;exact(h.shp.rows k l hk).ne)
  have:=h.ad5;omega
 have Uv:∀ t2:List (List Nd),pE t2 0<=36->pE t2 0*bT d+1+qE d+gI d<=4940:=fun t2 h2=>by
  have:=Nat.mul_le_mul h2 Kz;unfold qE gI;omega
 cases bare with
 | false=>
  refine⟨l0,t,⟨h.ok,h.iR,h.eW,h.low,h0,fun j hj _=>h.zero j hj,by show(ah L 7).n%4=0;rw[h.zero 7 hz7];rfl,h.n5,h.leaves l0 h0⟩,h.abg,xp,fun k l hk nd hn=>?_,⟨2,Nat.le_refl _,fun l hl=>?_,fun _=>h.cost hf hk,fun h1=>Uv t ?_⟩,fun e=>by cases e⟩
  ·have hid:=(h.ok.nodes k l hk nd hn).id
   show(ah L _).n=0
   rw[h.lat nd.id hid.1 hid.2];rfl
  ·have:=h.ai0 l hl
   show l.length+(if 1<t.length then 1 else 0)<=2
   split <;> omega
  ·have:=uR h0
   rw[jm t (0+1),List.drop_of_length_le (by omega)]at this
   simp at this;omega
 | true=>
  obtain⟨nd,r,hl0⟩:∃ nd r,l0=nd::r:=by
   cases l0 with
   | nil=>simp at hne
   | cons a r=>exact⟨a,r,rfl⟩
  have js:=h.id1 l0 h0 nd (by rw[hl0];rfl)
  have hb:=h.ok.bare hd h.eW h0 hl0 js;have Dw:∀ (k:Nat) (l:List Nd),[l0][k]?=some l->k=0/\l=l0:=fun k l hk=>by
   cases k with
   | zero=>exact⟨rfl,(aqu hk).symm⟩
   | succ k=>simp at hk
  have hu:pE [l0] 0=l0.length:=by simp[jm]
  have hcp:bI (aN L 0 ⟨1,⟨#[]⟩,0⟩):=h.iR.put ⟨by decide,by decide⟩
  refine⟨l0,[l0],⟨hb,hcp,by show((aN L 0 _).length:Int)=_;rw[aY];exact h.eW,fun k l hk=>?_,rfl,fun j hj _=>?_,?_,?_,h.leaves l0 h0⟩,?_,by show 1<=100;omega,fun k l hk a ha=>?_,⟨36,by omega,fun l hl=>?_,fun h1=>by simp at h1,fun _=>Uv _ (by omega)⟩,fun _=>rfl⟩
  ·obtain⟨rfl,rfl⟩:=Dw k l hk
   exact h.low 0 _ h0
  ·show ah (aN L 0 _) j=_
   rw[bg (by rcases hj with h|h <;> omega)];exact h.zero j hj
  ·show(ah (aN L 0 _) 7).n%4=0
   rw[bg (by omega),h.zero 7 hz7];rfl
  ·show(ah (aN L 0 _) 5).n=_
   rw[bg (by omega)];exact h.n5
  ·show(ah (aN L 0 _) 4).n<=100
   rw[bg (by omega)];exact h.abg
  ·obtain⟨rfl,rfl⟩:=Dw k l hk
   have hid:=(h.ok.nodes 0 _ h0 a ha).id;show(ah (aN L 0 _) _).n=0
   rw[bg (by have:=fL hd a.id 0 hid.1 hid.2 (by omega) (by have:=hd.fw;omega);omega),h.lat a.id hid.1 hid.2];rfl
  ·obtain rfl:l=l0:=by simpa using hl.symm
   show l.length+(if 1<1 then 1 else 0)<=36
   simp;exact h36
theorem PoF.full (hd:d.Ok){bare:Bool}(h:PoF d ks l0 bare L t)(hno:100<=d.no):Ut d ks l0 (aN L 4 ⟨d.no,⟨#[]⟩,0⟩) t/\∃ B,Ko d (aN L 4 ⟨d.no,⟨#[]⟩,0⟩) t l0 B false d.no 4940:=by
 have hA:=hd.eb;have hB:=hd.jo;have hC:=hd.mE;have hcb:=hd.dL;have hcl:=h.g.eW;have iY:=hd.mM;have h4:ah (aN L 4 ⟨d.no,⟨#[]⟩,0⟩) 4=⟨d.no,⟨#[]⟩,0⟩:=b9 (by omega) (by omega)
 have hn:∀ j:Int,j≠4->ah (aN L 4 ⟨d.no,⟨#[]⟩,0⟩) j=ah L j:=fun j hj=>bg hj
 have ht:=h.g.ok.low hd h.g.eW (c:=⟨d.no,⟨#[]⟩,0⟩) h.g.ok.n4 (Int.le_refl _);have hc:=h.g.iR.put (i:=4) (c:=⟨d.no,⟨#[]⟩,0⟩) ⟨by show(0:Int)<=d.no;omega,by show d.no<_;omega⟩
 have hL:((aN L 4 ⟨d.no,⟨#[]⟩,0⟩).length:Int)=d.cells:=by rw[aY];exact hcl
 obtain⟨B,b1,b2,b3,b4⟩:=h.beg;refine⟨⟨ht,hc,hL,h.g.sz,h.g.r0,fun j hj h7=>?_,?_,?_,h.g.leaves⟩,B,ht,hc,hL,h.g.sz,h.g.r0,b1,fun e=>(by cases e),fun _=>⟨by rw[h4];exact Int.le_refl _,Int.le_refl _⟩,?_,fun k l hk nd hm=>?_,b2,b3,b4⟩
 ·rw[hn j (by rcases hj with h|h <;> omega)];exact h.g.zero j hj h7
 ·rw[hn 7 (by omega)];exact h.g.c7
 ·rw[hn 5 (by omega)];exact h.g.n5
 ·rw[hn 7 (by omega)];exact h.g.c7
 ·have hid:=(h.g.ok.nodes k l hk nd hm).id
  rw[hn _ (by have:=fL hd nd.id 0 hid.1 hid.2 (by omega) (by have:=hd.fw;omega);omega),h.wd k l hk nd hm]
  decide
structure PoJ (d:aR)(J:List aP->eE->Nat->Prop):Prop where
 iR:∀ L s m,J L s m->bI L/\(L.length:Int)=d.cells/\s.pc<=14
 step:∀ L s m,J L s m->s.pc<14->eE.Ok d L s/\∀ s',o8 d L s s' -> ∃ m',J (gO d L s) s' m' /\ m' + 1<=m
theorem j5.ajZ {P:Ed}{n m:Nat}{s:eE}(h:j5 d P L t n s m):s.pc<=14:=by
 have hst:=h.st;obtain⟨pc,f,lk,fr,ins,aq,root,word,tk,id,k⟩:=s;by_cases h:pc<=14
 ·exact h
 ·obtain⟨q,rfl⟩:∃ q,pc=q+15:=⟨pc-15,by omega⟩
  exact hst.elim
theorem afj (hd:d.Ok)(sG:d.no<=900)(P:Ed):PoJ d (fun L s m=>∃ t n,j5 d P L t n s m) where
 iR:=fun L s m ⟨t,n,h⟩=>⟨h.base.iR,h.base.eW,h.ajZ⟩
 step:=fun L s m ⟨t,n,h⟩ h0=>by
  obtain⟨h1,h2⟩:=h.step hd sG h0;refine⟨h1,fun s' hs=>?_⟩
  obtain⟨t',n',m',h3,h4,_⟩:=h2 s' hs;exact⟨m',⟨t',n',h3⟩,h4⟩
theorem LoI.lat {key:ByteArray}{lv:Nat}{s:u6}{L1:List aP}{m:Nat}(h:LoI d L t key lv s L1 m):L1=L\/∃ nd,xd t key lv nd/\L1=abH d L nd:=by
 rcases h with⟨_,_,h,_⟩|⟨_,_,h,_⟩|⟨_,_,nd,n,hc,_,h,_⟩|⟨_,⟨nd,hc,_,h⟩|⟨_,_,h⟩⟩
 ·exact .inl h
 ·exact .inl h
 ·exact .inr ⟨nd,hc,h⟩
 ·exact .inr ⟨nd,hc,h⟩
 ·exact .inl h
theorem PoF.none {bare:Bool}{c:Nd}(hd:d.Ok)(h:PoF d ks l0 bare L t)(hno:d.no=300)(hc:c∈l0.drop 1)(aj0:¬ qF t 1 c.id):∃ J,PoJ d J/\J (aN L 4 ⟨d.no,⟨#[]⟩,0⟩) (Oe ⟨1,c.low,c.id,false⟩) 4940 /\
  ∀ L' s m,J L' s m->s.pc=14->(bare=true->s.f.po=false)/\∃ t',Ut d ks l0 L' t' /\ (fV l0 (t'[1]?.getD [])).length+(if s.f.po then 1 else 0)=(fV l0 (t[1]?.getD [])).length:=by
 have hc0:c∈l0:=List.mem_of_mem_drop hc;obtain⟨hg,B,hB⟩:=h.full hd (by omega)
 refine⟨_,afj hd (by omega) (Yi d (aN L 4 ⟨d.no,⟨#[]⟩,0⟩) t l0 c.id B false d.no),⟨t,1,hB.start hc0⟩,fun L' s m hJ iV=>?_⟩
 obtain⟨t',n,hI⟩:=hJ;have hE:=hI.fin iV;refine⟨fun hb=>?_,t',hg.next hd hE,hE.tk c hc rfl aj0⟩
 cases yZ:s.f.po with
 | false=>rfl
 | true=>
  obtain⟨l,nd,x,hl,_⟩:=hE.ent yZ c hc rfl;have h1:=h.afi hb;have h2:t'.length=t.length:=(hE.base.noR rfl).2;have:=(aqq.1 hl).1;omega
end
def mQ:Nd:=⟨1,⟨#[]⟩,⟨0,[⟨⟨#[97]⟩,1⟩],⟨#[98]⟩,false,2⟩⟩
def mR:Nd:=⟨2,⟨#[98]⟩,⟨0,[⟨⟨#[98]⟩,2⟩],⟨#[]⟩,true,0⟩⟩
def Ef (d:aR):List aP:=aN (eY d 2 mR.pg (eY d 1 mQ.pg (cm d))) 4 ⟨2,⟨#[]⟩,0⟩
theorem acg:cE ⟨#[]⟩ ⟨#[98]⟩=true/\cE ⟨#[97]⟩ ⟨#[]⟩=false/\cE ⟨#[97]⟩ ⟨#[98]⟩=true/\cE ⟨#[98]⟩ ⟨#[98]⟩=false:=by
 refine⟨?_,?_,?_,?_⟩ <;> simp[cE,ByteArray.toList_eq,Op.bytesLess]
theorem pd (k:Nat)(l:List Nd)(h:[[mQ,mR]][k]?=some l):k=0/\l=[mQ,mR]:=by
 cases k with
 | zero=>exact⟨rfl,(aqu h).symm⟩
 | succ k=>simp at h
theorem jw {nd:Nd}(h:nd∈[mQ,mR]):nd=mQ\/nd=mR:=by simpa using h
theorem ach {d:aR}(hd:d.Ok)(sP:d.fa=4)(hno:d.no=100):Ko d (Ef d) [[mQ,mR]] [mQ,mR] 2 true 3 190:=by
 obtain⟨k1,k2,k3,k4⟩:=acg;obtain⟨p1,p2,p3⟩:=iu d hd;obtain⟨_,_,hc0,hl0⟩:=oL hd;have hA:=hd.eb;have hB:=hd.jo;have hC:=hd.mE;have hcb:=hd.dL;have f1:=hd.fw;have hrow:o5 d [mQ,mR]:=by
  refine⟨fun nd h=>?_,fun nd h=>?_,fun nd h=>?_,fun nd h=>?_,fun nd h s hs=>?_,?_⟩
  ·rcases jw h with rfl|rfl
   ·exact⟨by decide,by show(1:Int)<=d.no;omega⟩
   ·exact⟨by decide,by show(2:Int)<=d.no;omega⟩
  ·rcases jw h with rfl|rfl
   ·show(1:Int)<=d.fa;omega
   ·show(1:Int)<=d.fa;omega
  ·rcases jw h with rfl|rfl <;> exact⟨by decide,by decide⟩
  ·rcases jw h with rfl|rfl <;> exact⟨by decide,by decide⟩
  ·rcases jw h with rfl|rfl
   ·obtain rfl:s=⟨⟨#[97]⟩,1⟩:=by simpa[mQ] using hs
    exact⟨by decide,by decide⟩
   ·obtain rfl:s=⟨⟨#[98]⟩,2⟩:=by simpa[mR] using hs
    exact⟨by decide,by decide⟩
  ·simp[mQ,mR]
 have he:Ef d=aN (bS d (cm d) [mQ,mR]) 4 ⟨2,⟨#[]⟩,0⟩:=rfl;have hpl:((bS d (cm d) [mQ,mR]).length:Int)=d.cells:=by rw[ju];exact hl0
 have h4:ah (Ef d) 4=⟨2,⟨#[]⟩,0⟩:=by rw[he];exact b9 (by omega) (by omega)
 have jk:∀ j:Int,j≠4->(∀ nd,nd∈[mQ,mR]->∀ k:Int,1<=k->k<d.fa+4->j≠d.node nd.id k)->ah (Ef d) j=ah (cm d) j:=fun j hj hn=>by
  rw[he,bg hj,ed f1 hrow.le hn]
 have hid:∀ nd,nd∈[mQ,mR]->1<=nd.id/\nd.id<=d.no:=hrow.id;have eJ:∀ j:Int,j<8->j≠4->ah (Ef d) j=ah (cm d) j:=fun j hj h4=>jk j h4 (fun nd hn k a b=>by have:=fL hd nd.id k (hid nd hn).1 (hid nd hn).2 (by omega) b;omega)
 have hw:∀ nd,nd∈[mQ,mR]->ah (Ef d) (d.node nd.id 0)=aP.zero:=fun nd hn=>by
  rw[jk _ (by have:=fL hd nd.id 0 (hid nd hn).1 (hid nd hn).2 (by omega) (by omega);omega) (fun lY hn' k a b e=>?_),xc hd nd.id (hid nd hn).1 (hid nd hn).2]
  by_cases e2:nd.id=lY.id
  ·rw[← e2]at e
   have q1:=(bU hd (hid nd hn).1 (hid nd hn).2 (k:=0) (by omega) (by omega)).1
   have q2:=(bU hd (hid nd hn).1 (hid nd hn).2 (k:=k) (by omega) b).1
   omega
  ·exact cJ hd (hid nd hn).1 (hid nd hn).2 (hid lY hn').1 (hid lY hn').2 (by omega) (by omega) (by omega) b e2 e
 have hnd:∀ nd,nd∈[mQ,mR]->sq d (Ef d) nd:=fun nd hn=>by
  have hp:=rO hd hl0 hrow nd hn;have hh:=nL hd hl0 hrow (fun nd hn lj=>by
   rcases jw hn with rfl|rfl
   ·cases lj
   ·rfl) nd hn
  have hfr:∀ k:Int,1<=k->k<d.fa+4->ah (Ef d) (d.node nd.id k)=ah (bS d (cm d) [mQ,mR]) (d.node nd.id k):=fun k a b=>by
   rw[he,bg (by have:=fL hd nd.id k (hid nd hn).1 (hid nd hn).2 (by omega) b;omega)]
  refine⟨hid nd hn,hp.frame (hid nd hn).1 (hid nd hn).2 f1 hfr,hh.frame hd (hid nd hn).1 (hid nd hn).2 (hrow.le nd hn) hfr,by rw[hw nd hn];exact kj.zero,?_,?_,?_⟩
  ·rcases jw hn with rfl|rfl <;> exact List.pairwise_singleton _ _
  ·intro s hs
   rcases jw hn with rfl|rfl
   ·obtain rfl:s=⟨⟨#[97]⟩,1⟩:=by simpa[mQ] using hs
    decide
   ·obtain rfl:s=⟨⟨#[98]⟩,2⟩:=by simpa[mR] using hs
    decide
  ·intro s hs
   rcases jw hn with rfl|rfl
   ·obtain rfl:s=⟨⟨#[97]⟩,1⟩:=by simpa[mQ] using hs
    exact⟨k2,fun _=>k3⟩
   ·obtain rfl:s=⟨⟨#[98]⟩,2⟩:=by simpa[mR] using hs
    exact⟨k4,fun h=>by cases h⟩
 have aj1:gS 0 [mQ,mR]:=by
  refine⟨by decide,fun nd hn=>?_,fun nd h=>?_,fun i a b ha hb=>?_,fun i a ha hi=>?_⟩
  ·rcases jw hn with rfl|rfl <;> rfl
  ·obtain rfl:=aqu h;rfl
  ·have:=(aqq.1 hb).1
   have hi:i=0:=by simp at this;omega
   subst hi;obtain rfl:=aqu ha;obtain rfl:=aqu hb;exact⟨rfl,rfl,rfl,k1⟩
  ·obtain rfl:i=1:=by simpa using hi
   obtain rfl:=aqu ha;exact⟨rfl,rfl,rfl⟩
 have e0:(ah (Ef d) 0).n=1:=by rw[eJ 0 (by omega) (by omega),p3 0 (by omega),if_neg (by omega),if_neg (by omega),if_pos rfl]
 have hok:cA d (Ef d) [[mQ,mR]]:=by
  refine⟨by decide,fun k l hk=>?_,fun k l hk nd hn=>?_,⟨mQ,[mR],rfl,e0⟩,fun k l l' hk hk' =>?_,?_,?_,fun k l hk nd hn=>?_⟩
  ·obtain⟨rfl,rfl⟩:=pd k l hk;exact aj1
  ·obtain⟨rfl,rfl⟩:=pd k l hk;exact hnd nd hn
  ·have:=(pd _ _ hk').1;omega
  ·rw[h4];decide
  ·rw[h4,hno];decide
  ·obtain⟨rfl,rfl⟩:=pd k l hk
   rw[h4];rcases jw hn with rfl|rfl <;> decide
 have Kk:bI (Ef d):=(oD hd hrow hc0).put ⟨by decide,by decide⟩
 have Kz:bT d=9:=by unfold bT;rw[sP];rfl
 refine⟨hok,Kk,by rw[he,aY];exact hpl,fun k l hk nd hn=>?_,rfl,Nat.le_refl _,fun _=>⟨by rw[h4];decide,by omega⟩,fun e=>by(cases e),?_,fun k l hk nd hn=>?_,fun l hl=>?_,fun h=>by simp at h,fun _=>?_⟩
 ·obtain⟨rfl,rfl⟩:=pd k l hk
  rcases jw hn with rfl|rfl <;> decide
 ·rw[eJ 7 (by omega) (by omega),uK hd 7 (.inl ⟨by omega,by omega,by omega,by omega⟩)];rfl
 ·obtain⟨rfl,rfl⟩:=pd k l hk
  rw[hw nd hn];decide
 ·obtain rfl:l=[mQ,mR]:=(pd 0 l hl).2
  exact Nat.le_refl 2
 ·have hu:pE [[mQ,mR]] 0=2:=by decide
  rw[hu];unfold qE gI wC qE wI;rw[Kz,sP];decide
theorem afk {d:aR}(hd:d.Ok)(sP:d.fa=4)(hno:d.no=100):∃ J,PoJ d J/\J (Ef d) (Oe ⟨1,⟨#[98]⟩,2,false⟩) 190/\∀ L s m,J L s m->s.pc=14->s.f.po=true/\(ah L 0).n=3:=by
 have hB:=ach hd sP hno;refine⟨_,afj hd (by omega) (Yi d (Ef d) [[mQ,mR]] [mQ,mR] 2 2 true 3),⟨_,1,hB.start (c:=mR) (by simp)⟩,fun L s m hJ iV=>?_⟩
 obtain⟨t,n,hI⟩:=hJ;have hE:=hI.fin iV;have yZ:=hE.full rfl;refine⟨yZ,?_⟩;obtain⟨l1,ao4,x,oy,_⟩:=hE.ent yZ mR (by simp[Yi]) rfl
 have h2:=(aqq.1 oy).1;have hM:=hE.base.tree;have Em:t[0]?=some [mQ,mR]:=hE.base.r0;obtain⟨nd,rest,gU,hroot⟩:=hM.root;have h4:=hE.base.lim.2 rfl;have h4:(ah L 4).n<=3:=h4;have hb:=(hM.sh.nodes _ _ gU nd List.mem_cons_self).1;have ne:∀ (i:Nat) (c:Nd),[mQ,mR][i]?=some c->nd.id≠c.id:=fun i c hc e=>by
  have:=(hM.sh.inj _ _ _ _ 0 i nd c gU Em rfl hc e).1;omega
 have n1:nd.id≠1:=ne 0 mQ rfl;have n2:nd.id≠2:=ne 1 mR rfl;rw[hroot];omega
end Go.Proofs.YtlpdhhhgckpcfaaGreat
