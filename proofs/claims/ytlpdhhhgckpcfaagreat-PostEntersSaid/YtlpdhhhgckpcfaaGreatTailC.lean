/- A region whose first operation is a. -/
import Derived.Test.YtlpdhhhgckpcfaaGreatStA
namespace Go.Proofs.YtlpdhhhgckpcfaaGreat
set_option linter.unusedSimpArgs false
set_option linter.unusedVariables false
open Go.RowKit
section
variable {P:Program}{ops:Array Oper}{md:Region.Mode}{C:World->Prop}
def wT (md:Region.Mode)(ops:Array Oper)(n:Nat):Prop:=∀i,1<=i->i<n->∃j,i<j/\j<=n/\Region.waitsFor md ops j i=true
theorem nY {listed:Array Bool}{j:Nat}(h:listed.getD 0 true=true):(listed.setIfInBounds j true).getD 0 true=true:=by
 rw[Array.getD_eq_getD_getElem?,Array.getElem?_setIfInBounds];rw[Array.getD_eq_getD_getElem?]at h;split
 ·split <;> rfl
 ·exact h
theorem Ac {n:Nat}{listed:Array Bool}(hs:wT md ops n)(hc:Region.chainB md ops n=true)(hn:n<ops.size)(inv:HeadInv md ops n listed)(hz:listed.getD 0 true=true) :
  ∀(d i:Nat),n-i=d->i<n->listed.getD i true=false->∀t,n<=t->t ∉ Region.ready md ops listed:=by
 intro d;induction d using Nat.strongRecOn with
 | _ d ih=>
  intro i hd hi hun t ht hr;have oH:1<=i:=by
   rcases Nat.eq_zero_or_pos i with h|h
   ·subst h;rw[hz]at hun;cases hun
   ·exact h
  obtain⟨_,ot,hot,hall⟩:=mem_ready.1 hr;have htlt:t<ops.size:=(Array.getElem?_eq_some_iff.1 hot).1;by_cases htn:t=n
  ·subst htn
   obtain⟨j,hij,hjn,hw⟩:=hs i oH hi;obtain⟨oj,eH,e,he,hb,hon⟩:=Region.waitsFor_spec hw;by_cases hjt:j=t
   ·subst hjt
    have hsame:oj=ot:=aq9 (eH.symm.trans hot);subst hsame;have h2:=hall e he hb;rw[hon,getD_both hun]at h2;cases h2
   ·cases hl:listed.getD j false with
    | true=>
     have h2:=inv.closed j oj eH hl e he hb;rw[hon,getD_both hun]at h2;cases h2
    | false=>
     have hjs:j<listed.size:=by rw[inv.size];omega
     exact ih (t-j) (by omega) j rfl (by omega) (getD_in hjs hl) t (Nat.le_refl _) hr
  ·have h1:=List.all_eq_true.1 hc t (List.mem_range.2 htlt)
   simp only[Bool.or_eq_true,decide_eq_true_eq]at h1;rcases h1 with h1|h1
   ·omega
   ·obtain⟨o',ho',e,he,hb,hon⟩:=Region.waitsFor_spec h1
    have hsame:o'=ot:=aq9 (ho'.symm.trans hot);subst hsame;have h2:=hall e he hb;rw[hon,getD_both (inv.tail (t-1) (by omega) (by omega))]at h2
    cases h2
theorem lT {n:Nat}{listed:Array Bool}(hs:wT md ops n)(hc:Region.chainB md ops n=true)(hn:n<ops.size)(inv:HeadInv md ops n listed)(hz:listed.getD 0 true=true){i:Nat}(hin:i<n)
  (hi:i∈Region.ready md ops listed) {j:Nat} (hj:j∈Region.ready md ops listed):j<n:=by
 rcases Nat.lt_or_ge j n with h|h
 ·exact h
 ·exact absurd hj (Ac hs hc hn inv hz _ i rfl hin (mem_ready.1 hi).1 j h)
theorem x6 {n i:Nat}{oi:Oper}{v:Value}{L:Array Bool->Act->Prop}(hoi:ops[i]?=some oi)(hsel:∀(j:Nat)(o:Oper) cs b,ops[j]?=some o->o.op ≠ .select cs b)
  (hs:wT md ops n) (hc:Region.chainB md ops n=true) (hn:n<ops.size) (hin:i<n)
  (hdone:∀listed a,L listed a->∀j,j∈Region.ready md ops listed->n<=j) (f:Nat) :
  ∀(listed:Array Bool) (a:Act),HeadInv md ops n listed->listed.getD 0 true=true ->
   (∀j oj,ops[j]?=some oj->j≠i->listed.getD j true=false->(∀e,e∈oj.after->Region.binds md e=true->e.on≠i)->oi.apart ops oj=true) ->
   i∈Region.ready md ops listed->YieldsIn P ops C oi v a ->
   mC P md ops C n L f (listed.setIfInBounds i true) (a.put oi.dst v)->mC P md ops C n L (f+1) listed a:=by
 induction f with
 | zero=>
  intro listed a inv hz _ hr hy H;refine⟨fun h0=>(by rw[h0]at hr;cases hr),fun j hj=>⟨lT hs hc hn inv hz hin hr hj,?_⟩⟩
  by_cases hji:j=i
  ·subst hji;exact hy.qOp hoi H
  ·have h1:=hdone _ _ H j (ready_mono hj hji)
   have h2:=lT hs hc hn inv hz hin hr hj;omega
 | succ f ih=>
  intro listed a inv hz hfree hr hy H;refine⟨fun h0=>(by rw[h0]at hr;cases hr),fun j hj=>⟨lT hs hc hn inv hz hin hr hj,?_⟩⟩
  by_cases hji:j=i
  ·subst hji;exact hy.qOp hoi H
  ·have hjn:=lT hs hc hn inv hz hin hr hj
   have h1:=(H.2 j (ready_mono hj hji)).2;obtain⟨Pq,oj,eH,hall⟩:=mem_ready.1 hj;have hun:=(mem_ready.1 hr).1;have hnot:∀e,e∈oj.after->Region.binds md e=true->e.on≠i:=by
    intro e he hb heq;have h3:=hall e he hb;rw[heq,getD_both hun]at h3;cases h3
   have h2:=qOp_put eH (hfree j oj eH hji Pq hnot) (fun cs b=>hsel i oi cs b hoi) (fun cs b=>hsel j oj cs b eH) hy h1
   refine qOp_mono (fun a' h3=>ih (listed.setIfInBounds j true) a' (inv.set hj hjn) (nY hz) ?_ (ready_mono hr (Ne.symm hji)) h3.1 ?_) h2
   ·intro k ok hk hki Pr hno
    refine hfree k ok hk hki ?_ hno;by_cases hjk:j=k
    ·subst hjk;exact Pq
    ·rw[getD_set_ne true hjk]at Pr;exact Pr
   ·rw[Array.setIfInBounds_comm _ _ hji]
    exact h3.2
theorem tR {n g:Nat}{Lq:Act->Prop}(hsel:Region.noSelect ops=true)(hs:wT md ops n)(hc:Region.chainB md ops n=true)(hn:n<ops.size)(l:List Oper) :
  ∀(k:Nat) (listed:Array Bool) (a:Act),(∀j,j<l.length->l[j]?=ops[k+j]?)->k+l.length=n->HeadInv md ops n listed->listed.getD 0 true=true ->
  Region.lexHead md ops g l.length k listed=true->wpQuiet P ops C Lq l a ->
  mC P md ops C n (fun listed' a' => Region.seqB md ops g n listed'=true/\Lq a') l.length listed a:=by
 induction l with
 | nil=>
  intro k listed a _ hk _ _ hB h;have:k=n:=by simpa using hk
  subst this;exact⟨by simpa[Region.lexHead] using hB,h⟩
 | cons o l ih=>
  intro k listed a hl hk inv hz hB h;have h0:ops[k]?=some o:=by simpa using (hl 0 (by simp)).symm
  simp only[List.length_cons,Region.lexHead,Bool.and_eq_true]at hB;obtain⟨⟨hr,hf⟩,hB'⟩:=hB;have hkn:k<n:=by simp only[List.length_cons]at hk;omega
  have hr':k∈Region.ready md ops listed:=by simpa using hr
  have hst:qOp P ops C k (wpQuiet P ops C Lq l) a:=by unfold qOp;simp only[h0];exact h
  obtain⟨v,hy,hK⟩:=yieldsIn_of_qOp h0 hst;refine x6 h0 (Region.noSelect_spec hsel) hs hc hn hkn (fun listed' a' hL=>seqB_ready hL.1) l.length listed a inv hz (Region.free_spec h0 hf) hr' hy ?_
  refine ih (k+1) _ _ (fun j hj=>?_) (by simp only[List.length_cons]at hk;omega) (inv.set hr' hkn) (nY hz) hB' hK
  have:=hl (j+1) (by simp;omega)
  simpa[Nat.add_assoc,Nat.add_comm 1 j] using this
end
def wU (l:List Oper)(n:Nat):Bool:=
 Region.noSelect l.toArray && decide (n<l.toArray.size) && qU n (l.map (iV l.toArray)) 0 && zF n ((l.map (iV l.toArray)).drop 1) 1 && tD n (l.map (iV l.toArray)) 0
theorem fw {P:Program}{id:Nat}{Q:Exit->Act->World->Prop}{a:Act}{w:World}{o0:Oper}{l:List Oper}(x:Operand)(n:Nat)(hop:o0.op=.move x)(hg:o0.guard=none)(hm:P.follows .mixedOrders=true)(hB:wU (o0::l) (n+1)=true)
  (hQ' : ∀c (v:Value) a w,Q (.panic c) (a.put o0.dst v) w->Q (.panic c) a w)
  (h:wpQuiet P (o0::l).toArray (fun w' => ∃x:Ext,w'=over w x) (fun a' => ∀w',Below w.heap.size w w' -> wpList P (o0::l).toArray Q (l.drop n) a' w') (l.take n) (a.put o0.dst (a.eval x))):(Code.region id (o0::l).toArray true).wp P Q a w:=by
 simp only[wU,Bool.and_eq_true,decide_eq_true_eq]at hB;obtain⟨⟨⟨⟨hsel,hn⟩,Zs⟩,aaT⟩,Xd⟩:=hB;have hsz:(o0::l).toArray.size=l.length+1:=by simp
 have hn':n<l.length:=by omega
 have U0:mI (o0::l).toArray.size 0 (Array.replicate (o0::l).toArray.size false):=mI.zero _;have U1:=U0.next (by omega)
 have mD:∀j,l[j]?=(o0::l).toArray[1+j]? := fun j=>by simp[Nat.add_comm 1 j]
 have ho0:(o0::l).toArray[0]?=some o0:=by simp
 simp only[List.map_cons,qU,Bool.and_eq_true,beq_iff_eq,if_pos (Nat.succ_pos n)]at Zs;obtain⟨⟨z1,z2⟩,z3⟩:=Zs;have hready:=pU U0 ho0 z1;have hfree:=xS (l:=l) U0 ho0 (fun j=>by simpa using mD j) z2
 have jH:=wL l (n+1) 1 ((o0::l).toArray.size-(n+1)) n _ U1 mD (by omega) (by omega) (by omega) z3
 have adE:wT .any (o0::l).toArray (n+1):=fun i h1 h2=>wM (n+1) l 1 mD (by simpa using aaT) i h1 h2 (by omega)
 have hchain:Region.chainB .any (o0::l).toArray (n+1)=true:=by
  unfold Region.chainB;rw[List.all_eq_true];intro t ht;have ht' := List.mem_range.1 ht;rw[Bool.or_eq_true];exact tE (n+1) (o0::l) 0 (by simp) Xd t (by omega) (by rw[hsz]at ht';simp;omega)
 have inv1:HeadInv .any (o0::l).toArray (n+1) ((Array.replicate (o0::l).toArray.size false).setIfInBounds 0 true):=by
  have zD:HeadInv .any (o0::l).toArray (n+1) (Array.replicate (o0::l).toArray.size false):=
   ⟨by simp,fun j oj _ hl=>(by rw[getD_replicate_false]at hl;cases hl),fun t _ ht=>getD_in (by simpa using ht) (getD_replicate_false _ _)⟩
  exact zD.set hready (by omega)
 have hz1:((Array.replicate (o0::l).toArray.size false).setIfInBounds 0 true).getD 0 true=true:=by
  rw[U1.getD (by omega)];simp
 have htl:(l.take n).length=n:=by simp;omega
 have H:=tR (C:=fun w' => ∃x:Ext,w'=over w x) (md:= .any) (g:=(o0::l).toArray.size-(n+1)) hsel adE hchain hn (l.take n) 1 _ (a.put o0.dst (a.eval x)) (fun j hj=>by
  have hj':j<n:=by rw[htl]at hj;exact hj
  rw[←mD j];simp[hj']) (by omega) inv1 hz1 (by rw[htl];exact jH) h
 refine wp_region_any hm ?_
 have hdl:(l.drop n).length=(o0::l).toArray.size-(n+1):=by simp
 have H2:=pT (Q' := Q) (g:=(o0::l).toArray.size-(n+1)) (fun listed a' w' hw' hL=>by
  have:=wpAny_of_seq (md:= .any) (Q' := Q) (l.drop n) (n+1) listed a' w' (fun j=>by rw[show n+1+j=1+(n+j)by omega,←mD];simp[List.getElem?_drop]) (by rw[hdl];exact hL.1) (hL.2 w' (Pure.below hw'))
  rwa [hdl]at this) _ _ _ _ ⟨_,iq w⟩ H
 rw[htl,show n+((o0::l).toArray.size-(n+1))=l.length by omega]at H2
 rw[show(o0::l).toArray.size=l.length+1 from hsz]at H2 ⊢
 refine wpAny_take (v:=a.eval x) ho0 hsel (by rw[hsz]at hfree;exact hfree) (by rw[hsz]at hready;simpa using hready) (fun c a' w' => hQ' c _ a' w') (Or.inl ⟨?_,fun w' => BigFrame.run_move x hop w'⟩) H2
 simp[Region.wanted,hg]
section
variable {P:Program}{n:Nat}{ops ops':Array Oper}{C:World->Prop}
structure Twin (n:Nat)(ops ops':Array Oper):Prop where
 size:ops.size=n+3
 size':ops'.size=n+3
 same:∀i,i≠n+1->ops[i]?=ops'[i]?
 dst:(ops[n+1]?).bind (·.dst)=(ops'[n+1]?).bind (·.dst)
 free:∀o,ops[n+1]?=some o->o.after= #[]
 low:∀i o e,i<=n->ops'[i]?=some o->e∈o.after->e.on≠n+1
 last:∃o e,ops'[n+2]?=some o/\e∈o.after/\Region.binds .any e=true/\e.on=n
theorem Twin.yield (h:Twin n ops ops')(tmps:Array Value):yielded ops tmps=yielded ops' tmps:=by
 funext g
 unfold yielded;by_cases hg:g=n+1
 ·subst hg;rw[h.dst]
 ·rw[h.same g hg]
theorem Twin.kC (h:Twin n ops ops'){i:Nat}(hi:i≠n+1)(K:Act->Prop)(a:Act):qOp P ops' C i K a=qOp P ops C i K a:=by
 unfold qOp;rw[h.same i hi,h.yield]
theorem Twin.ready (h:Twin n ops ops'){Z:Array Bool}{j:Nat}(hj:j≠n+1):j∈Region.ready .any ops Z↔j∈Region.ready .any ops' Z:=by
 rw[mem_ready,mem_ready,h.same j hj]
theorem Twin.jQ (h:Twin n ops ops'){Z:Array Bool}{j:Nat}(hj:j<=n):j∈Region.ready .any ops' (Z.setIfInBounds (n+1) true)↔j∈Region.ready .any ops' Z:=by
 rw[mem_ready,mem_ready,getD_set_ne true (by omega)]
 constructor
 ·rintro ⟨h0,o,ho,hall⟩
  exact⟨h0,o,ho,fun e he hb=>by have:=hall e he hb;rwa [getD_set_ne false (Ne.symm (h.low j o e hj ho he))]at this⟩
 ·rintro ⟨h0,o,ho,hall⟩
  exact⟨h0,o,ho,fun e he hb=>by rw[getD_set_ne false (Ne.symm (h.low j o e hj ho he))];exact hall e he hb⟩
theorem tS {j:Nat}{oj:Oper}{d:Tmp}{v:Value}{K:Act->Prop}{a:Act}(hj:ops[j]?=some oj)(h1:d ∉ oj.looksAt ops)(h2:oj.dst≠some d)(hs:∀cs b,oj.op ≠ .select cs b)(h:qOp P ops C j K a) :
  qOp P ops C j (fun a' => ∃a0,a'=a0.put (some d) v/\K a0) (a.put (some d) v):=by
 have e1:=execOp_put oj hs a (some d) v (fun x hx=>by cases hx;exact h1)
 have e2:=wanted_put oj a (some d) v (fun x hx=>by cases hx;exact h1)
 have e3:∀u,(a.put (some d) v).put oj.dst u=(a.put oj.dst u).put (some d) v:=fun u=>Act.put_comm a v u (x:=some d) (y:=oj.dst) (fun x hx=>by simp only[Option.some.injEq]at hx;subst hx;exact h2)
 unfold qOp at *;simp only[hj]at *;rw[e2];split
 ·rename_i hw
  simp only[hw,if_true]at h;obtain⟨u,k1,k2⟩:=h;refine⟨u,fun w hw=>?_,_,e3 u,k2⟩
  have:=k1 w hw;unfold Oper.quietAt at this ⊢;rw[e1];exact this
 ·rename_i hw
  simp only[hw]at h;exact⟨_,e3 _,h⟩
end
section
variable {P:Program}{n N:Nat}{ops ops':Array Oper}{Q:Exit->Act->World->Prop}{w:World}{z:Obj}{aS:Act}{dd:Tmp}{oc oa os:Oper}
theorem Pure.refl (w:World):Pure w w:=eF w
theorem Pure.trans {w1 w2 w3:World}(h:Pure w1 w2)(k:Pure w2 w3):Pure w1 w3:=to_pure (h.below.trans (k.below.mono h.below.size))
theorem Pure.alloc {w1 w2:World}(h:Pure w1 w2)(o:Obj):Pure w1 (w2.alloc o):=to_pure (h.below.alloc h.below.size o)
theorem dN (a:Act)(d:Option Tmp)(v:Value):(a.put d v).tmps.size=a.tmps.size:=by
 cases d <;> simp[Act.put]
theorem b9 (a:Act)(d:Option Tmp)(v:Value)(t:Tmp)(h:d≠some t):(a.put d v).tmps.getD t undef=a.tmps.getD t undef:=by
 cases d with
 | none=>rfl
 | some u=>
  have:u≠t:=fun e=>h (by rw[e])
  simp[Act.put,Array.getElem?_setIfInBounds_ne this]
theorem cJ (a:Act)(v:Value)(t:Tmp)(h:t<a.tmps.size):(a.put (some t) v).tmps.getD t undef=v:=by
 simp[Act.put,h]
def LL (ops':Array Oper)(n:Nat)(aS:Act):Array Bool->Act->Prop:=fun listed' a' => Region.seqB .any ops' 3 n listed'=true/\a'=aS
def HA (P:Program)(ops':Array Oper)(n:Nat)(aS:Act)(w:World)(f:Nat)(listed:Array Bool)(a:Act):Prop:=
 ∀W,Pure w W->mC P .any ops' (fun w' => ∃x:Ext,w'=over W x) n (LL ops' n aS) f listed a
theorem tT {C:World->Prop}{t:Tmp}:∀(f:Nat)(listed:Array Bool)(a:Act),mC P .any ops' C n (LL ops' n aS) f listed a ->
  (∀j o,j<n->ops'[j]?=some o->listed.getD j true=false->o.dst≠some t)->aS.tmps.getD t undef=a.tmps.getD t undef:=by
 intro f;induction f with
 | zero=>intro listed a h _;rw[h.2]
 | succ f ih=>
  intro listed a h hd;obtain⟨i,hi⟩:=List.exists_mem_of_ne_nil _ h.1;obtain⟨hin,hq⟩:=h.2 i hi;obtain⟨hun,o,ho,_⟩:=mem_ready.1 hi;have hne:=hd i o hin ho hun;have iF:∀j o,j<n->ops'[j]?=some o->(listed.setIfInBounds i true).getD j true=false->o.dst≠some t:=by
   intro j oj hj eH hl;by_cases hij:i=j
   ·subst hij;rw[ho]at eH;cases eH;exact hne
   ·rw[getD_set_ne true hij]at hl;exact hd j oj hj eH hl
  unfold qOp at hq;simp only[ho]at hq;split at hq
  ·obtain⟨v,_,h2⟩:=hq
   rw[ih _ _ h2 iF,b9 _ _ _ _ hne]
  ·rw[ih _ _ hq iF,b9 _ _ _ _ hne]
structure Ad (ops':Array Oper)(n N:Nat):Prop where
 one:∀i j oi oj t,i<n->j<n->ops'[i]?=some oi->ops'[j]?=some oj->oi.dst=some t->oj.dst=some t->i=j
 lt:∀i o t,i<n->ops'[i]?=some o->o.dst=some t->t<N
theorem HA.step (hD:Ad ops' n N){f:Nat}{listed:Array Bool}{a:Act}(ha:a.tmps.size=N)(H:HA P ops' n aS w (f+1) listed a) :
  Region.ready .any ops' listed≠[]/\∀i,i∈Region.ready .any ops' listed->i<n/\∀W,Pure w W->qOp P ops' (fun w' => ∃x:Ext,w'=over W x) i (fun a' => HA P ops' n aS w f (listed.setIfInBounds i true) a' /\ a'.tmps.size=N) a:=by
 refine⟨(H w (Pure.refl w)).1,fun i hi=>⟨((H w (Pure.refl w)).2 i hi).1,fun W hW=>?_⟩⟩
 have hq:=((H W hW).2 i hi).2;have hin:=((H w (Pure.refl w)).2 i hi).1;obtain⟨hun,o,ho,_⟩:=mem_ready.1 hi;unfold qOp at hq ⊢;simp only[ho]at hq ⊢;split
 ·rename_i hw
  simp only[hw,if_true]at hq;obtain⟨v,h1,h2⟩:=hq;refine⟨v,h1,fun W2 hW2=>?_,by rw[dN];exact ha⟩
  have qR:=((H W2 hW2).2 i hi).2;unfold qOp at qR;simp only[ho,hw,if_true]at qR;obtain⟨v2,_,h4⟩:=qR;have e:a.put o.dst v=a.put o.dst v2:=by
   cases hd:o.dst with
   | none=>rfl
   | some t=>
    have hkeep:∀j oj,j<n->ops'[j]?=some oj->(listed.setIfInBounds i true).getD j true=false->oj.dst≠some t:=by
     intro j oj hj eH hl e;have hij:=hD.one i j o oj t hin hj ho eH hd e;subst hij;rcases Nat.lt_or_ge i listed.size with hlt|hge
     ·simp[hlt]at hl
     ·simp[Array.getElem?_eq_none hge]at hun
    have k1:=tT _ _ _ h2 hkeep;have k2:=tT _ _ _ h4 hkeep;have hlt:t<a.tmps.size:=by rw[ha];exact hD.lt i o t hin ho hd
    rw[hd,cJ _ _ _ hlt]at k1 k2;rw[←k1,←k2]
  rw[e];exact h4
 ·rename_i hw
  simp only[hw]at hq;refine⟨fun W2 hW2=>?_,by rw[dN];exact ha⟩
  have qR:=((H W2 hW2).2 i hi).2;unfold qOp at qR;simp only[ho,hw]at qR;exact qR
structure Jt (ops ops':Array Oper)(n N:Nat)(dd:Tmp)(oc oa os:Oper):Prop where
 tw:Twin n ops ops'
 ds:Ad ops' n N
 c:ops[n]?=some oc
 a:ops[n+1]?=some oa
 s:ops[n+2]?=some os
 dst:oa.dst=some dd
 bare:oa.guard=none
 beside:∀j o,j<n->ops[j]?=some o->dd ∉ o.looksAt ops/\o.dst≠some dd
 Pc:∀(j:Nat) (o:Oper),ops[j]?=some o->∀cs b,o.op ≠ .select cs b
theorem aaU {listed:Array Bool}(h:Region.seqB .any ops' 3 n listed=true):Region.ready .any ops' listed=[n]/\Region.ready .any ops' (listed.setIfInBounds n true)=[n+1] /\
  Region.ready .any ops' ((listed.setIfInBounds n true).setIfInBounds (n+1) true)=[n+2]/\Region.ready .any ops' (((listed.setIfInBounds n true).setIfInBounds (n+1) true).setIfInBounds (n+2) true)=[]:=by
 simp only[Region.seqB,Bool.and_eq_true,decide_eq_true_eq,List.isEmpty_iff]at h;exact⟨h.1,h.2.1,h.2.2.1,h.2.2.2⟩
theorem gT {Z:Array Bool}{j:Nat}:j ∉ Region.ready .any ops (Z.setIfInBounds j true):=by
 intro h;have:=(mem_ready.1 h).1;rcases Nat.lt_or_ge j Z.size with hlt|hge
 ·simp[hlt]at this
 ·simp[Array.getElem?_eq_none hge]at this
theorem qa {Z:Array Bool}{j:Nat}(h:j∈Region.ready .any ops Z):j<ops.size:=by
 obtain⟨_,o,ho,_⟩:=mem_ready.1 h;exact(Array.getElem?_eq_some_iff.1 ho).1
theorem Ae (T:Jt ops ops' n N dd oc oa os){listed:Array Bool}(hseq:Region.seqB .any ops' 3 n listed=true){a:Act}{w':World}(h:wpList P ops Q [os] a w') :
  wpAny P .any ops Q 1 ((listed.setIfInBounds n true).setIfInBounds (n+1) true) a w' := by
 obtain⟨r0,r1,r2,r3⟩:=aaU hseq;have key:∀j,j∈Region.ready .any ops ((listed.setIfInBounds n true).setIfInBounds (n+1) true)↔j=n+2:=by
  intro j;by_cases hj:j=n+1
  ·subst hj
   exact⟨fun h=>absurd h gT,fun h=>by omega⟩
  ·rw[T.tw.ready hj,r2];simp
 refine⟨fun h0=>?_,fun i hi=>?_⟩
 ·have:=(key (n+2)).2 rfl
  rw[h0]at this;cases this
 ·obtain rfl:=(key i).1 hi
  have hw:wpOp P ops Q (n+2) (wpList P ops Q []) a w' := by unfold wpOp;simp only[T.s];exact h
  refine wpOp_mono (fun a2 w2 h2=>⟨?_,h2⟩) hw
  refine List.eq_nil_iff_forall_not_mem.2 (fun j hj=>?_)
  by_cases hj1:j=n+1
  ·subst hj1
   have hc:(((listed.setIfInBounds n true).setIfInBounds (n+1) true).setIfInBounds (n+2) true)=(((listed.setIfInBounds n true).setIfInBounds (n+2) true).setIfInBounds (n+1) true):=Array.setIfInBounds_comm _ _ (by omega)
   rw[hc]at hj;exact gT hj
  ·rw[T.tw.ready hj1,r3]at hj;cases hj
theorem Af (T:Jt ops ops' n N dd oc oa os){w0:World}(hw0:Pure w w0){ptr:Value}
  (Ah:∀w',Pure (w0.alloc z) w' -> wpList P ops Q [oc,os] (aS.put (some dd) ptr) w'):∀(f:Nat) (listed:Array Bool) (a:Act) (w':World),HA P ops' n aS w f listed a->HeadInv .any ops' n listed->a.tmps.size=N->Pure (w0.alloc z) w' ->
  wpAny P .any ops Q (f+2) (listed.setIfInBounds (n+1) true) (a.put (some dd) ptr) w' := by
 intro f;induction f with
 | zero=>
  intro listed a w' H inv ha hw';obtain⟨hseq,rfl⟩:=H w (Pure.refl w);obtain⟨r0,r1,r2,r3⟩:=aaU hseq;have aaV:listed.getD n true=false:=inv.tail n (Nat.le_refl _) (by rw[T.tw.size'];omega)
  have key:∀j,j∈Region.ready .any ops (listed.setIfInBounds (n+1) true)↔j=n:=by
   intro j;by_cases hj:j=n+1
   ·subst hj
    exact⟨fun h=>absurd h gT,fun h=>by omega⟩
   ·rw[T.tw.ready hj]
    by_cases hle:j<=n
    ·rw[T.tw.jQ hle,r0];simp
    ·refine⟨fun h=>?_,fun h=>by omega⟩
     have hlt:=qa h;rw[T.tw.size']at hlt;have hj2:j=n+2:=by omega
     subst hj2;obtain⟨o,e,ho,he,hb,hon⟩:=T.tw.last;obtain⟨_,o2,ho2,hall⟩:=mem_ready.1 h;rw[ho]at ho2;cases ho2;have:=hall e he hb;rw[hon,getD_set_ne false (by omega),getD_both aaV]at this
     cases this
  refine⟨fun h0=>?_,fun i hi=>?_⟩
  ·have:=(key n).2 rfl
   rw[h0]at this;cases this
  ·obtain rfl:=(key i).1 hi
   have hw:wpOp P ops Q i (wpList P ops Q [os]) (a.put (some dd) ptr) w' := by unfold wpOp;simp only[T.c];exact Ah w' hw'
   refine wpOp_mono (fun a2 w2 h2=>?_) hw
   rw[Array.setIfInBounds_comm (i:=i+1) (j:=i) _ _ (by omega)]
   exact Ae T hseq h2
 | succ f ih=>
  intro listed a w' H inv ha hw';obtain⟨hne,hst⟩:=H.step T.ds ha;have key:∀j,j∈Region.ready .any ops (listed.setIfInBounds (n+1) true)->j∈Region.ready .any ops' listed:=by
   intro j h;by_cases hj:j=n+1
   ·subst hj;exact absurd h gT
   ·have h' := (T.tw.ready hj).1 h
    by_cases hle:j<=n
    ·exact(T.tw.jQ hle).1 h'
    ·have hlt:=qa h
     rw[T.tw.size]at hlt;have hj2:j=n+2:=by omega
     subst hj2;have aaV:listed.getD n true=false:=inv.tail n (Nat.le_refl _) (by rw[T.tw.size'];omega)
     obtain⟨o,e,ho,he,hb,hon⟩:=T.tw.last;obtain⟨_,o2,ho2,hall⟩:=mem_ready.1 h';rw[ho]at ho2;cases ho2;have:=hall e he hb;rw[hon,getD_set_ne false (by omega),getD_both aaV]at this
     cases this
  refine⟨fun h0=>?_,fun i hi=>?_⟩
  ·obtain⟨i,hi⟩:=List.exists_mem_of_ne_nil _ hne
   have hin:=(hst i hi).1;have:i∈Region.ready .any ops (listed.setIfInBounds (n+1) true):=(T.tw.ready (by omega)).2 ((T.tw.jQ (by omega)).2 hi)
   rw[h0]at this;cases this
  ·have hi' := key i hi
   obtain⟨hin,hq⟩:=hst i hi';have hW:Pure w w' := (hw0.alloc z).trans hw';have h1:=hq w' hW;rw[T.tw.kC (by omega)]at h1
   obtain⟨_,oi,hoi,_⟩:=mem_ready.1 hi;have h2:=tS (d:=dd) (v:=ptr) hoi (T.beside i oi hin hoi).1 (T.beside i oi hin hoi).2 (T.Pc i oi hoi) h1;refine wpOp_of_qOp (C:=fun w2=>∃x:Ext,w2=over w' x) (eF w') (fun a2 w2 hw2 hK=>?_) h2
   obtain⟨a0,rfl,hH,hs0⟩:=hK;rw[show(listed.setIfInBounds (n+1) true).setIfInBounds i true=(listed.setIfInBounds i true).setIfInBounds (n+1) true from Array.setIfInBounds_comm _ _ (by omega)]
   exact ih _ _ _ hH (inv.set hi' hin) hs0 (hw'.trans hw2)
theorem x7 (T:Jt ops ops' n N dd oc oa os)(x8:∀(a:Act)(w:World),(execOp a.eval oa).run P w=.ok (.value (.pointer (some ⟨w.heap.size,0,none⟩))) (w.alloc z))
  (Bh:∀w',Pure w w' -> wpList P ops Q [oc,oa,os] aS w')
  (Ah:∀w0 w',Pure w w0->Pure (w0.alloc z) w' -> wpList P ops Q [oc,os] (aS.put (some dd) (.pointer (some ⟨w0.heap.size,0,none⟩))) w') :
  ∀(f:Nat) (listed:Array Bool) (a:Act) (w':World),HA P ops' n aS w f listed a->HeadInv .any ops' n listed->a.tmps.size=N->Pure w w' -> wpAny P .any ops Q (f+3) listed a w' := by
 have Rf:∀(f:Nat) (listed:Array Bool) (a:Act) (w':World),HA P ops' n aS w f listed a->HeadInv .any ops' n listed->a.tmps.size=N->Pure w w' -> wpOp P ops Q (n+1) (wpAny P .any ops Q (f+2) (listed.setIfInBounds (n+1) true)) a w' := by
  intro f listed a w' H inv ha hw';have hwant:Region.wanted oa (yielded ops a.tmps)=true:=by simp[Region.wanted,T.bare]
  unfold wpOp;simp only[T.a,hwant,if_true];refine .inl ?_
  unfold Oper.wp;rw[x8 a w'];unfold Oper.upon;rw[T.dst];exact Af T hw' (fun w2 hw2=>Ah w' w2 hw' hw2) f listed a _ H inv ha (Pure.refl _)
 have hready:∀(listed:Array Bool),HeadInv .any ops' n listed->n+1∈Region.ready .any ops listed:=by
  intro listed inv;rw[mem_ready];refine⟨inv.tail _ (by omega) (by rw[T.tw.size'];omega),oa,T.a,fun e he=>?_⟩
  rw[T.tw.free oa T.a]at he;simp at he
 intro f;induction f with
 | zero=>
  intro listed a w' H inv ha hw';have H0:=H;obtain⟨hseq,rfl⟩:=H w (Pure.refl w);obtain⟨r0,r1,r2,r3⟩:=aaU hseq;refine⟨fun h0=>?_,fun i hi=>?_⟩
  ·have:=hready listed inv
   rw[h0]at this;cases this
  ·by_cases Rg:i=n+1
   ·subst Rg;exact Rf 0 listed a w' H0 inv ha hw'
   ·have:=(T.tw.ready Rg).1 hi
    rw[r0]at this;obtain rfl:i=n:=by simpa using this
    have hw:wpOp P ops Q i (wpList P ops Q [oa,os]) a w' := by unfold wpOp;simp only[T.c];exact Bh w' hw'
    refine wpOp_mono (fun a2 w2 h2=>?_) hw
    have key:∀j,j∈Region.ready .any ops (listed.setIfInBounds i true)↔j=i+1:=by
     intro j;by_cases hj:j=i+1
     ·subst hj
      refine⟨fun _=>rfl,fun _=>?_⟩
      exact ready_mono (hready listed inv) (by omega)
     ·rw[T.tw.ready hj,r1]
      simp
    refine⟨fun h0=>?_,fun j hj=>?_⟩
    ·have:=(key (i+1)).2 rfl
     rw[h0]at this;cases this
    ·obtain rfl:=(key j).1 hj
     have hw3:wpOp P ops Q (i+1) (wpList P ops Q [os]) a2 w2:=by unfold wpOp;simp only[T.a];exact h2
     exact wpOp_mono (fun a3 w3 h3=>Ae T hseq h3) hw3
 | succ f ih=>
  intro listed a w' H inv ha hw';obtain⟨hne,hst⟩:=H.step T.ds ha;refine⟨fun h0=>?_,fun i hi=>?_⟩
  ·have:=hready listed inv
   rw[h0]at this;cases this
  ·by_cases Rg:i=n+1
   ·subst Rg;exact Rf (f+1) listed a w' H inv ha hw'
   ·have hi' := (T.tw.ready Rg).1 hi
    obtain⟨hin,hq⟩:=hst i hi';have h1:=hq w' hw';rw[T.tw.kC (by omega)]at h1
    refine wpOp_of_qOp (C:=fun w2=>∃x:Ext,w2=over w' x) (eF w') (fun a2 w2 hw2 hK=>?_) h1
    exact ih _ _ _ hK.1 (inv.set hi' hin) hK.2 (hw'.trans hw2)
end
def gO (n:Nat)(l:List Oper):List Oper:=l.modify (n+1) fun o=>{ o with after:= #[⟨n,.data⟩] }
def Ff (l:List Oper)(n N:Nat)(dd:Tmp):Bool:=
 l.length == n+3 && Region.lexTailB .any (gO n l).toArray n && Region.noSelect l.toArray
 && (l[n+1]?).any (fun o=>o.after.isEmpty && (o.dst == some dd) && o.guard.isNone)
 && (l.take (n+1)).all (fun o=>o.after.all fun e=>e.on != n+1)
 && (l[n+2]?).any (fun o=>o.after.any fun e=>Region.binds .any e && e.on == n)
 && decide ((l.take n).filterMap (·.dst)).Nodup && ((l.take n).filterMap (·.dst)).all (fun t=>decide (t<N))
 && (l.take n).all (fun o => !(o.looksAt l.toArray).contains dd && o.dst != some dd)
theorem m9 {l:List Oper}:(l.filterMap (·.dst)).Nodup->∀(i j:Nat)(oi oj:Oper)(t:Tmp),l[i]?=some oi->l[j]?=some oj->oi.dst=some t->oj.dst=some t->i=j:=by
 induction l with
 | nil=>intro _ i j oi oj t h;simp at h
 | cons o l ih=>
  intro hnd i j oi oj t hi hj h1 h2;cases ho:o.dst with
  | none=>
   rw[List.filterMap_cons_none ho]at hnd;cases i with
   | zero=>simp at hi;subst hi;rw[ho]at h1;cases h1
   | succ i=>
    cases j with
    | zero=>simp at hj;subst hj;rw[ho]at h2;cases h2
    | succ j=>rw[ih hnd i j oi oj t (by simpa using hi) (by simpa using hj) h1 h2]
  | some u=>
   rw[List.filterMap_cons_some ho,List.nodup_cons]at hnd;have hm:∀(k:Nat) (ok:Oper),l[k]?=some ok->ok.dst=some t->t∈l.filterMap (·.dst):=fun k ok hk hd=>List.mem_filterMap.2 ⟨ok,aq7 hk,hd⟩
   cases i with
   | zero=>
    simp at hi;subst hi;rw[ho]at h1;cases h1;cases j with
    | zero=>rfl
    | succ j=>exact absurd (hm j oj (by simpa using hj) h2) hnd.1
   | succ i=>
    cases j with
    | zero=>
     simp at hj;subst hj;rw[ho]at h2;cases h2;exact absurd (hm i oi (by simpa using hi) h1) hnd.1
    | succ j=>rw[ih hnd.2 i j oi oj t (by simpa using hi) (by simpa using hj) h1 h2]
theorem qd {P:Program}{ops ops':Array Oper}{C:World->Prop}{K:Act->Prop}(hy:∀tmps,yielded ops tmps=yielded ops' tmps)(l:List Oper):∀a,wpQuiet P ops C K l a->wpQuiet P ops' C K l a:=by
 induction l with
 | nil=>intro a h;exact h
 | cons o l ih=>
  intro a h;unfold wpQuiet at h ⊢;rw[←hy];split
  ·rename_i hw
   simp only[hw,if_true]at h;obtain⟨v,h1,h2⟩:=h;exact⟨v,h1,ih _ h2⟩
  ·rename_i hw
   simp only[hw]at h;exact ih _ h
theorem Rh {l:List Oper}{n N:Nat}{dd:Tmp}{oc oa os:Oper}(hB:Ff l n N dd=true)(hl:l.drop n=[oc,oa,os]):Jt l.toArray (gO n l).toArray n N dd oc oa os/\Region.lexTailB .any (gO n l).toArray n=true:=by
 simp only[Ff,Bool.and_eq_true,beq_iff_eq,decide_eq_true_eq]at hB;obtain⟨⟨⟨⟨⟨⟨⟨⟨h1,h2⟩,h3⟩,h4⟩,h5⟩,h6⟩,h7⟩,h8⟩,h9⟩:=hB;have gc:l[n]?=some oc:=by have:=congrArg (·[0]?) hl;simpa using this
 have ga:l[n+1]?=some oa:=by have:=congrArg (·[1]?) hl;simpa using this
 have gs:l[n+2]?=some os:=by have:=congrArg (·[2]?) hl;simpa using this
 rw[ga]at h4;rw[gs]at h6;simp only[Option.any_some,Bool.and_eq_true,beq_iff_eq]at h4 h6;obtain⟨⟨h4a,h4b⟩,h4c⟩:=h4;have hsame:∀i,i≠n+1->(gO n l)[i]?=l[i]? := fun i hi=>by unfold gO;rw[List.getElem?_modify];simp[Ne.symm hi]
 have htw:(gO n l)[n+1]?=some { oa with after:= #[⟨n,.data⟩] }:=by unfold gO;rw[List.getElem?_modify,ga];simp
 have htake:∀(i:Nat) (o:Oper),i<n->(gO n l)[i]?=some o->(l.take n)[i]?=some o:=fun i o hi ho=>by rw[hsame i (by omega)]at ho;rw[List.getElem?_take,if_pos hi];exact ho
 refine⟨⟨⟨by simpa using h1,by unfold gO;simpa using h1,fun i hi=>by simp[hsame i hi],by simp[ga,htw],fun o ho=>?_,fun i o e hi ho he=>?_,?_⟩,⟨fun i j oi oj t hi hj hoi eH=>m9 h7 i j oi oj t (htake i oi hi (by simpa using hoi)) (htake j oj hj (by simpa using eH)),fun i o t hi ho hd=>?_⟩,by simpa using gc,by simpa using ga,by simpa using gs,h4b,by simpa using h4c,fun j o hj ho=>?_,fun j o ho cs b=>Region.noSelect_spec h3 j o cs b ho⟩,h2⟩
 ·have:oa=o:=by rw[List.getElem?_toArray,ga]at ho;exact aq9 ho
  subst this;simpa using h4a
 ·have ho':(l.take (n+1))[i]?=some o:=by
   rw[List.getElem?_toArray,hsame i (by omega)]at ho
   rw[List.getElem?_take,if_pos (by omega)];exact ho
  have:=List.all_eq_true.1 h5 o (aq7 ho');have:=Array.all_eq_true_iff_forall_mem.1 this e he;simpa using this
 ·obtain⟨i,hi,hb⟩:=Array.any_eq_true.1 h6
  simp only[Bool.and_eq_true,beq_iff_eq]at hb;have he:=Array.getElem_mem hi;exact⟨os,_,by rw[List.getElem?_toArray,hsame _ (by omega)];exact gs,he,hb.1,hb.2⟩
 ·have:=List.all_eq_true.1 h8 t (List.mem_filterMap.2 ⟨o,aq7 (htake i o hi (by simpa using ho)),hd⟩)
  simpa using this
 ·have ho':(l.take n)[j]?=some o:=by rw[List.getElem?_take,if_pos hj];simpa using ho
  have:=List.all_eq_true.1 h9 o (aq7 ho');simpa using this
theorem lU {P:Program}{id:Nat}{Q:Exit->Act->World->Prop}{a:Act}{w:World}{l:List Oper}(n:Nat)(aS:Act){oc oa os:Oper}(dd:Tmp)(z:Obj)(hm:P.follows .mixedOrders=true)(hB:Ff l n a.tmps.size dd=true)(hl:l.drop n=[oc,oa,os])
  (x8:∀(a:Act) (w:World),(execOp a.eval oa).run P w=.ok (.value (.pointer (some ⟨w.heap.size,0,none⟩))) (w.alloc z))
  (H:∀W,Below w.heap.size w W->wpQuiet P l.toArray (fun w' => ∃x:Ext,w'=over W x) (fun a' => a'=aS) (l.take n) a)
  (Bh:∀w',Below w.heap.size w w' -> wpList P l.toArray Q [oc,oa,os] aS w')
  (Ah:∀w0 w',Below w.heap.size w w0->Below (w0.heap.size+1) (w0.alloc z) w' -> wpList P l.toArray Q [oc,os] (aS.put (some dd) (.pointer (some ⟨w0.heap.size,0,none⟩))) w'):(Code.region id l.toArray true).wp P Q a w:=by
 obtain⟨T,jH⟩:=Rh hB hl;have hlen:l.length=n+3:=by have:=T.tw.size;simpa using this
 have hlen':(gO n l).length=n+3:=by have:=T.tw.size';simpa using this
 simp only[Region.lexTailB,Bool.and_eq_true,decide_eq_true_eq]at jH;obtain⟨⟨⟨⟨hsel,hn⟩,hs⟩,hc⟩,jH⟩:=jH;have hsz:(gO n l).toArray.size-n=3:=by simp[hlen']
 rw[hsz]at jH;have lQ:(l.take n).length=n:=by simp[hlen]
 have zD:HeadInv .any (gO n l).toArray n (Array.replicate (gO n l).toArray.size false):=
  ⟨by simp,fun j oj _ hl=>(by rw[getD_replicate_false]at hl;cases hl),fun t _ ht=>getD_in (by simpa using ht) (getD_replicate_false _ _)⟩
 have HH:HA P (gO n l).toArray n aS w n (Array.replicate (gO n l).toArray.size false) a:=by
  intro W hW;have h1:=qd (fun t=>T.tw.yield t) _ _ (H W hW.below)
  have:=wJ (P:=P) (C:=fun w' => ∃x:Ext,w'=over W x) (md:= .any) (g:=3) hsel hs hc hn (l.take n) 0 _ a (fun j hj=>by
   have hj':j<n:=by rw[lQ]at hj;exact hj
   have:=T.tw.same j (by omega)
   simp only[List.getElem?_toArray]at this;rw[List.getElem?_take,if_pos hj',this];simp) (by rw[lQ];omega) zD (by rw[lQ];exact jH) h1
  rwa [lQ]at this
 refine wp_region_any hm ?_
 have key:=x7 (Q:=Q) T x8 (fun w' hw' => Bh w' hw'.below) (fun w0 w' h0 h1=>Ah w0 w' h0.below (by have:=h1.below;rwa [World.size_alloc]at this)) n _ a _ HH zD rfl ⟨_,iq w⟩
 rw[show l.toArray.size=n+3 by simp[hlen]]
 rw[show(gO n l).toArray.size=n+3 by simp[hlen']]at key
 exact key
section
variable {P:Program}{n N g:Nat}{ops ops':Array Oper}{Q:Exit->Act->World->Prop}{w:World}{z:Obj}{aS:Act}{dd:Tmp}{oa:Oper}
def LLg (ops':Array Oper)(n g:Nat)(aS:Act):Array Bool->Act->Prop:=fun listed' a' => Region.seqB .any ops' g n listed'=true/\a'=aS
def HAg (P:Program)(ops':Array Oper)(n g:Nat)(aS:Act)(w:World)(f:Nat)(listed:Array Bool)(a:Act):Prop:=
 ∀W,Pure w W->mC P .any ops' (fun w' => ∃x:Ext,w'=over W x) n (LLg ops' n g aS) f listed a
theorem nc {C:World->Prop}{t:Tmp}:∀(f:Nat)(listed:Array Bool)(a:Act),mC P .any ops' C n (LLg ops' n g aS) f listed a ->
  (∀j o,j<n->ops'[j]?=some o->listed.getD j true=false->o.dst≠some t)->aS.tmps.getD t undef=a.tmps.getD t undef:=by
 intro f;induction f with
 | zero=>intro listed a h _;rw[h.2]
 | succ f ih=>
  intro listed a h hd;obtain⟨i,hi⟩:=List.exists_mem_of_ne_nil _ h.1;obtain⟨hin,hq⟩:=h.2 i hi;obtain⟨hun,o,ho,_⟩:=mem_ready.1 hi;have hne:=hd i o hin ho hun;have iF:∀j o,j<n->ops'[j]?=some o->(listed.setIfInBounds i true).getD j true=false->o.dst≠some t:=by
   intro j oj hj eH hl;by_cases hij:i=j
   ·subst hij;rw[ho]at eH;cases eH;exact hne
   ·rw[getD_set_ne true hij]at hl;exact hd j oj hj eH hl
  unfold qOp at hq;simp only[ho]at hq;split at hq
  ·obtain⟨v,_,h2⟩:=hq
   rw[ih _ _ h2 iF,b9 _ _ _ _ hne]
  ·rw[ih _ _ hq iF,b9 _ _ _ _ hne]
theorem HAg.step (hD:Ad ops' n N){f:Nat}{listed:Array Bool}{a:Act}(ha:a.tmps.size=N)(H:HAg P ops' n g aS w (f+1) listed a) :
  Region.ready .any ops' listed≠[]/\∀i,i∈Region.ready .any ops' listed->i<n/\∀W,Pure w W->qOp P ops' (fun w' => ∃x:Ext,w'=over W x) i (fun a' => HAg P ops' n g aS w f (listed.setIfInBounds i true) a' /\ a'.tmps.size=N) a:=by
 refine⟨(H w (Pure.refl w)).1,fun i hi=>⟨((H w (Pure.refl w)).2 i hi).1,fun W hW=>?_⟩⟩
 have hq:=((H W hW).2 i hi).2;have hin:=((H w (Pure.refl w)).2 i hi).1;obtain⟨hun,o,ho,_⟩:=mem_ready.1 hi;unfold qOp at hq ⊢;simp only[ho]at hq ⊢;split
 ·rename_i hw
  simp only[hw,if_true]at hq;obtain⟨v,h1,h2⟩:=hq;refine⟨v,h1,fun W2 hW2=>?_,by rw[dN];exact ha⟩
  have qR:=((H W2 hW2).2 i hi).2;unfold qOp at qR;simp only[ho,hw,if_true]at qR;obtain⟨v2,_,h4⟩:=qR;have e:a.put o.dst v=a.put o.dst v2:=by
   cases hd:o.dst with
   | none=>rfl
   | some t=>
    have hkeep:∀j oj,j<n->ops'[j]?=some oj->(listed.setIfInBounds i true).getD j true=false->oj.dst≠some t:=by
     intro j oj hj eH hl e;have hij:=hD.one i j o oj t hin hj ho eH hd e;subst hij;rcases Nat.lt_or_ge i listed.size with hlt|hge
     ·simp[hlt]at hl
     ·simp[Array.getElem?_eq_none hge]at hun
    have k1:=nc _ _ _ h2 hkeep;have k2:=nc _ _ _ h4 hkeep;have hlt:t<a.tmps.size:=by rw[ha];exact hD.lt i o t hin ho hd
    rw[hd,cJ _ _ _ hlt]at k1 k2;rw[←k1,←k2]
  rw[e];exact h4
 ·rename_i hw
  simp only[hw]at hq;refine⟨fun W2 hW2=>?_,by rw[dN];exact ha⟩
  have qR:=((H W2 hW2).2 i hi).2;unfold qOp at qR;simp only[ho,hw]at qR;exact qR
structure iG (ops ops':Array Oper)(n N:Nat)(dd:Tmp)(oa:Oper):Prop where
 size:ops'.size=ops.size
 lt:n+1<ops.size
 same:∀i,i≠n->ops[i]?=ops'[i]?
 ds:Ad ops' n N
 a:ops[n]?=some oa
 adF:(ops[n]?).bind (·.dst)=(ops'[n]?).bind (·.dst)
 dst:oa.dst=some dd
 bare:oa.guard=none
 low:∀j o e,j<n->ops[j]?=some o->e∈o.after->e.on≠n
 sub:∀o' e,ops'[n]?=some o' -> e∈oa.after->e∈o'.after
 looks:∀j o t,j<n->ops[j]?=some o->o.dst=some t->t∈oa.looksAt ops->∃e,e∈oa.after/\Region.binds .any e=true/\e.on=j
 beside:∀j o,j<n->ops[j]?=some o->dd ∉ o.looksAt ops/\o.dst≠some dd
 Pc:∀(j:Nat) (o:Oper),ops[j]?=some o->∀cs b,o.op ≠ .select cs b
 sink:∀i,1<=i->i<n->∃j,i<j/\j<=n+1/\Region.waitsFor .any ops j i=true
 chain:∀t,n<t->t<ops.size->t≠n+1->Region.waitsFor .any ops t (t-1)=true
theorem iG.yield (T:iG ops ops' n N dd oa)(tmps:Array Value):yielded ops tmps=yielded ops' tmps:=by
 funext k
 unfold yielded;by_cases hk:k=n
 ·subst hk;rw[T.adF]
 ·rw[T.same k hk]
theorem iG.kC (T:iG ops ops' n N dd oa){C:World->Prop}{i:Nat}(hi:i≠n)(K:Act->Prop)(a:Act):qOp P ops' C i K a=qOp P ops C i K a:=by
 unfold qOp;rw[T.same i hi,T.yield]
theorem iG.ready (T:iG ops ops' n N dd oa){Z:Array Bool}{j:Nat}(hj:j≠n):j∈Region.ready .any ops Z↔j∈Region.ready .any ops' Z:=by
 rw[mem_ready,mem_ready,T.same j hj]
theorem iG.jQ (T:iG ops ops' n N dd oa){Z:Array Bool}{j:Nat}(hj:j<n):j∈Region.ready .any ops (Z.setIfInBounds n true)↔j∈Region.ready .any ops Z:=by
 rw[mem_ready,mem_ready,getD_set_ne true (by omega)]
 constructor
 ·rintro ⟨h0,o,ho,hall⟩
  exact⟨h0,o,ho,fun e he hb=>by have:=hall e he hb;rwa [getD_set_ne false (Ne.symm (T.low j o e hj ho he))]at this⟩
 ·rintro ⟨h0,o,ho,hall⟩
  exact⟨h0,o,ho,fun e he hb=>by rw[getD_set_ne false (Ne.symm (T.low j o e hj ho he))];exact hall e he hb⟩
theorem iG.tail (T:iG ops ops' n N dd oa):∀(f:Nat)(Z:Array Bool)(a:Act)(w':World),Z.getD n true=true->wpAny P .any ops' Q f Z a w' -> wpAny P .any ops Q f Z a w' := by
 have hr:∀(Z:Array Bool),Z.getD n true=true->Region.ready .any ops Z=Region.ready .any ops' Z:=by
  intro Z hZ;unfold Region.ready;rw[T.size];refine List.filter_congr (fun j _=>?_)
  by_cases hj:j=n
  ·subst hj;simp only[hZ];rfl
  ·rw[T.same j hj]
 intro f;induction f with
 | zero=>intro Z a w' hZ h;exact⟨by rw[hr Z hZ];exact h.1,h.2⟩
 | succ f ih=>
  intro Z a w' hZ h;refine⟨fun h0=>h.1 (by rw[←hr Z hZ];exact h0),fun i hi=>?_⟩
  rw[hr Z hZ]at hi;have h1:=h.2 i hi;have hin:i≠n:=by
   intro e;subst e;have:=(mem_ready.1 hi).1;rw[hZ]at this;cases this
  have h2:wpOp P ops Q i (wpAny P .any ops' Q f (Z.setIfInBounds i true)) a w' := by
   unfold wpOp at h1 ⊢;rw[T.same i hin,T.yield];exact h1
  exact wpOp_mono (fun a2 w2 h3=>ih _ _ _ (by rw[getD_set_ne true hin];exact hZ) h3) h2
theorem x9 (hy:∀tmps,yielded ops tmps=yielded ops' tmps)(l:List Oper):∀(a:Act)(w:World),wpList P ops Q l a w->wpList P ops' Q l a w:=by
 induction l with
 | nil=>intro a w h;exact h
 | cons o l ih=>
  intro a w h;unfold wpList at h ⊢;rw[←hy];split
  ·rename_i hw
   simp only[hw,if_true]at h;rcases h with h|h
   ·exact .inl (Oper.wp_mono (fun a w h=>ih a w h) h)
   ·exact .inr h
  ·rename_i hw
   simp only[hw]at h;exact ih _ _ h
theorem Ag (T:iG ops ops' n N dd oa){listed:Array Bool}(inv:HeadInv .any ops' n listed)(hz:listed.getD 0 true=true)(hcl:∀e,e∈oa.after->Region.binds .any e=true->listed.getD e.on false=true) :
  ∀(d i:Nat),n-i=d->1<=i->i<n->listed.getD i true=false->∀t,n<t->t ∉ Region.ready .any ops (listed.setIfInBounds n true):=by
 intro d;induction d using Nat.strongRecOn with
 | _ d ih=>
  intro i hd oH hin hun t ht hr;obtain⟨j,hij,hjn,hw⟩:=T.sink i oH hin;obtain⟨oj,eH,e,he,hb,hon⟩:=Region.waitsFor_spec hw;obtain⟨_,ot,hot,hall⟩:=mem_ready.1 hr;have htlt:=qa hr;by_cases ag3:j<n
  ·cases hl:listed.getD j false with
   | true=>
    have h2:=inv.closed j oj (by rw[←T.same j (by omega)];exact eH) hl e he hb
    rw[hon,getD_both hun]at h2;cases h2
   | false=>
    have hjs:j<listed.size:=by rw[inv.size,T.size];have:=T.lt;omega
    exact ih (n-j) (by omega) j rfl (by omega) ag3 (getD_in hjs hl) t ht hr
  ·by_cases ag4:j=n
   ·subst ag4
    have:oj=oa:=aq9 (eH.symm.trans T.a);subst this;have h2:=hcl e he hb;rw[hon,getD_both hun]at h2;cases h2
   ·have hj1:j=n+1:=by omega
    subst hj1;by_cases ht1:t=n+1
    ·subst ht1
     have:oj=ot:=aq9 (eH.symm.trans hot);subst this;have h2:=hall e he hb;rw[hon,getD_set_ne false (by omega),getD_both hun]at h2
     cases h2
    ·obtain⟨ot',ag5,e',he',hb',ag6⟩:=Region.waitsFor_spec (T.chain t ht htlt ht1)
     have:ot'=ot:=aq9 (ag5.symm.trans hot);subst this;have h2:=hall e' he' hb';rw[ag6,getD_set_ne false (by omega),getD_both (inv.tail (t-1) (by omega) (by rw[T.size];omega))]at h2
     cases h2
theorem Ai (T:iG ops ops' n N dd oa){m:Nat}{tl:List Oper}(htl:tl.length=m)(hat:∀j,tl[j]?=ops[n+1+j]?){w0:World}(hw0:Pure w w0){v:Value}
  (Ah:∀w',Pure (w0.alloc z) w' -> wpList P ops Q tl (aS.put (some dd) v) w'):∀(f:Nat) (listed:Array Bool) (a:Act) (w':World),HAg P ops' n (m+1) aS w f listed a->HeadInv .any ops' n listed->listed.getD 0 true=true ->
  (∀e,e∈oa.after->Region.binds .any e=true->listed.getD e.on false=true)->a.tmps.size=N->Pure (w0.alloc z) w' ->
  wpAny P .any ops Q (f+m) (listed.setIfInBounds n true) (a.put (some dd) v) w' := by
 intro f;induction f with
 | zero=>
  intro listed a w' H inv hz hcl ha hw';obtain⟨hseq,rfl⟩:=H w (Pure.refl w);simp only[Region.seqB,Bool.and_eq_true,decide_eq_true_eq]at hseq;rw[Nat.zero_add];have Ju:n<listed.size:=by rw[inv.size,T.size];have:=T.lt;omega
  refine T.tail _ _ _ _ (by simp[Ju]) ?_
  have:=wpAny_of_seq (P:=P) (md:= .any) (ops:=ops') (Q' := Q) tl (n+1) (listed.setIfInBounds n true) (a.put (some dd) v) w' (fun j=>by rw[hat j,T.same _ (by omega)]) (by rw[htl];exact hseq.2) (x9 (fun t=>T.yield t) _ _ _ (Ah w' hw'))
  rwa [htl]at this
 | succ f ih=>
  intro listed a w' H inv hz hcl ha hw';obtain⟨hne,hst⟩:=H.step T.ds ha;obtain⟨i0,oH⟩:=List.exists_mem_of_ne_nil _ hne;have adG:=(hst i0 oH).1;have aaY:=(mem_ready.1 oH).1;have hpos:1<=i0:=by
   rcases Nat.eq_zero_or_pos i0 with h|h
   ·subst h;rw[hz]at aaY;cases aaY
   ·exact h
  have key:∀j,j∈Region.ready .any ops (listed.setIfInBounds n true)->j∈Region.ready .any ops' listed:=by
   intro j h;by_cases hj:j=n
   ·subst hj;exact absurd h gT
   ·by_cases hle:j<n
    ·exact(T.ready hj).1 ((T.jQ hle).1 h)
    ·exact absurd h (Ag T inv hz hcl _ i0 rfl hpos adG aaY j (by omega))
  rw[show f+1+m=(f+m)+1 by omega]
  refine⟨fun h0=>?_,fun i hi=>?_⟩
  ·have:i0∈Region.ready .any ops (listed.setIfInBounds n true):=(T.jQ adG).2 ((T.ready (by omega)).2 oH)
   rw[h0]at this;cases this
  ·have hi' := key i hi
   obtain⟨hin,hq⟩:=hst i hi';have h1:=hq w' ((hw0.alloc z).trans hw');rw[T.kC (by omega)]at h1
   obtain⟨_,oi,hoi,_⟩:=mem_ready.1 hi;have h2:=tS (d:=dd) (v:=v) hoi (T.beside i oi hin hoi).1 (T.beside i oi hin hoi).2 (T.Pc i oi hoi) h1;refine wpOp_of_qOp (C:=fun w2=>∃x:Ext,w2=over w' x) (eF w') (fun a2 w2 hw2 hK=>?_) h2
   obtain⟨a0,rfl,hH,hs0⟩:=hK;rw[show(listed.setIfInBounds n true).setIfInBounds i true=(listed.setIfInBounds i true).setIfInBounds n true from Array.setIfInBounds_comm _ _ (by omega)]
   exact ih _ _ _ hH (inv.set hi' hin) (nY hz) (fun e he hb=>getD_set_true (hcl e he hb)) hs0 (hw'.trans hw2)
theorem ya (T:iG ops ops' n N dd oa){m:Nat}{tl:List Oper}(htl:tl.length=m)(hat:∀j,tl[j]?=ops[n+1+j]?){vf:World->Value}
  (x8:∀w':World,(execOp aS.eval oa).run P w' = .ok (.value (vf w')) (w'.alloc z))
  (Ah:∀w0 w',Pure w w0->Pure (w0.alloc z) w' -> wpList P ops Q tl (aS.put (some dd) (vf w0)) w') :
  ∀(f:Nat) (listed:Array Bool) (a:Act) (w':World),HAg P ops' n (m+1) aS w f listed a->HeadInv .any ops' n listed->listed.getD 0 true=true->a.tmps.size=N->Pure w w' -> wpAny P .any ops Q (f+(m+1)) listed a w' := by
 have Ri:∀(f:Nat) (listed:Array Bool) (a:Act) (w':World),HAg P ops' n (m+1) aS w f listed a->HeadInv .any ops' n listed->listed.getD 0 true=true->a.tmps.size=N->Pure w w' -> n∈Region.ready .any ops listed->wpOp P ops Q n (wpAny P .any ops Q (f+m) (listed.setIfInBounds n true)) a w' := by
  intro f listed a w' H inv hz ha hw' hr;obtain⟨_,oa',ag7,hall⟩:=mem_ready.1 hr;have:oa'=oa:=aq9 (ag7.symm.trans T.a);subst this;have hwant:Region.wanted oa' (yielded ops a.tmps)=true:=by simp[Region.wanted,T.bare]
  have heq:execOp a.eval oa'=execOp aS.eval oa' := by
   refine execOp_congr oa' (T.Pc n oa' T.a) (fun x hx=>?_)
   cases x with
   | tmp t=>
    have hk:=nc (t:=t) _ _ _ (H w (Pure.refl w)) (fun j o hj ho hl hd=>by
     obtain⟨e,he,hb,hon⟩:=T.looks j o t hj (by rw[T.same j (by omega)];exact ho) hd (List.mem_append_left _ (List.mem_filterMap.2 ⟨.tmp t,by simpa using hx,rfl⟩))
     have h2:=hall e he hb;rw[hon,getD_both hl]at h2;cases h2)
    exact hk.symm
   | _=>rfl
  unfold wpOp;simp only[T.a,hwant,if_true];refine .inl ?_
  unfold Oper.wp;rw[heq,x8 w'];unfold Oper.upon;rw[T.dst];exact Ai T htl hat hw' (fun w2 hw2=>Ah w' w2 hw' hw2) f listed a _ H inv hz hall ha (Pure.refl _)
 intro f;induction f with
 | zero=>
  intro listed a w' H inv hz ha hw';have H0:=H;obtain⟨hseq,rfl⟩:=H w (Pure.refl w);simp only[Region.seqB,Bool.and_eq_true,decide_eq_true_eq]at hseq;have hnr:n∈Region.ready .any ops listed:=by
   have h1:n∈Region.ready .any ops' listed:=by rw[hseq.1];simp
   obtain⟨h0,o',ho',hall⟩:=mem_ready.1 h1;exact mem_ready.2 ⟨h0,oa,T.a,fun e he hb=>hall e (T.sub o' e ho' he) hb⟩
  rw[Nat.zero_add];refine⟨fun h0=>(by rw[h0]at hnr;cases hnr),fun i hi=>?_⟩
  by_cases hin:i=n
  ·subst hin
   have:=Ri 0 listed a w' H0 inv hz ha hw' hnr;rwa [Nat.zero_add]at this
  ·have:=(T.ready hin).1 hi
   rw[hseq.1]at this;exact absurd (by simpa using this) hin
 | succ f ih=>
  intro listed a w' H inv hz ha hw';obtain⟨hne,hst⟩:=H.step T.ds ha;rw[show f+1+(m+1)=(f+(m+1))+1 by omega]
  refine⟨fun h0=>?_,fun i hi=>?_⟩
  ·obtain⟨i0,oH⟩:=List.exists_mem_of_ne_nil _ hne
   have:=(T.ready (by have:=(hst i0 oH).1;omega)).2 oH
   rw[h0]at this;cases this
  ·by_cases hin:i=n
   ·subst hin
    have:=Ri (f+1) listed a w' H inv hz ha hw' hi;rwa [show f+1+m=f+(m+1)by omega]at this
   ·have hi' := (T.ready hin).1 hi
    obtain⟨hlt,hq⟩:=hst i hi';have h1:=hq w' hw';rw[T.kC hin]at h1;exact wpOp_of_qOp (C:=fun w2=>∃x:Ext,w2=over w' x) (eF w') (fun a2 w2 hw2 hK=>ih _ _ _ hK.1 (inv.set hi' hlt) (nY hz) hK.2 (hw'.trans hw2)) h1
end
def eJ (n:Nat)(l:List Oper):List Oper:=l.modify n fun o=>{ o with after:=o.after++((List.range n).map fun j=>(⟨j,.data⟩:Edge)).toArray }
def Fg (l:List Oper)(n N:Nat)(dd:Tmp)(oa:Oper):Bool:=
 decide (n+1<l.length) && decide (1<=n) && Region.noSelect l.toArray && Region.noSelect (eJ n l).toArray
 && (oa.dst == some dd) && oa.guard.isNone
 && (l.take n).all (fun o=>o.after.all fun e=>e.on != n)
 && (List.range n).all (fun j=>(l[j]?).all fun o=>o.dst.all fun t => !(oa.looksAt l.toArray).contains t || oa.after.any fun e=>Region.binds .any e && e.on == j)
 && decide ((l.take n).filterMap (·.dst)).Nodup && ((l.take n).filterMap (·.dst)).all (fun t=>decide (t<N))
 && (l.take n).all (fun o => !(o.looksAt l.toArray).contains dd && o.dst != some dd)
 && (List.range n).all (fun i=>i == 0 || (List.range (n+2)).any fun j=>decide (i<j) && Region.waitsFor .any l.toArray j i)
 && (List.range l.length).all (fun t=>decide (t<=n+1) || Region.waitsFor .any l.toArray t (t-1))
 && (List.range n).all (fun i=>i == 0 || (List.range (n+1)).any fun j=>decide (i<j) && Region.waitsFor .any (eJ n l).toArray j i)
 && Region.chainB .any (eJ n l).toArray n
 && Region.lexHead .any (eJ n l).toArray (l.length-n) (n-1) 1 ((Array.replicate (eJ n l).toArray.size false).setIfInBounds 0 true)
 && (Region.ready .any (eJ n l).toArray (Array.replicate (eJ n l).toArray.size false)).contains 0
 && (Region.ready .any l.toArray (Array.replicate l.toArray.size false)).contains 0
 && Region.free .any l.toArray (Array.replicate l.toArray.size false) 0
theorem Lx {l:List Oper}{n N:Nat}{dd:Tmp}{oa:Oper}(hB:Fg l n N dd oa=true)(hl:l[n]?=some oa):iG l.toArray (eJ n l).toArray n N dd oa/\1<=n/\Region.noSelect l.toArray=true/\Region.noSelect (eJ n l).toArray=true /\
  wT .any (eJ n l).toArray n/\Region.chainB .any (eJ n l).toArray n=true/\Region.lexHead .any (eJ n l).toArray (l.length-n) (n-1) 1 ((Array.replicate (eJ n l).toArray.size false).setIfInBounds 0 true)=true /\
  0∈Region.ready .any (eJ n l).toArray (Array.replicate (eJ n l).toArray.size false)/\(Region.ready .any l.toArray (Array.replicate l.toArray.size false)).contains 0=true/\Region.free .any l.toArray (Array.replicate l.toArray.size false) 0=true:=by
 simp only[Fg,Bool.and_eq_true,beq_iff_eq,decide_eq_true_eq]at hB;obtain⟨⟨⟨⟨⟨⟨⟨⟨⟨⟨⟨⟨⟨⟨⟨⟨⟨⟨h1,h2⟩,h3⟩,h4⟩,h5⟩,h6⟩,h7⟩,h8⟩,h9⟩,h10⟩,h11⟩,dr⟩,dS⟩,iH⟩,cY⟩,vH⟩,h17⟩,wV⟩,h19⟩:=hB;have hsame:∀i,i≠n->(eJ n l)[i]?=l[i]? := fun i hi=>by unfold eJ;rw[List.getElem?_modify];simp[Ne.symm hi]
 have htw:(eJ n l)[n]?=some { oa with after:=oa.after++((List.range n).map fun j=>(⟨j,.data⟩:Edge)).toArray }:=by unfold eJ;rw[List.getElem?_modify,hl];simp
 have htake:∀(i:Nat) (o:Oper),i<n->(eJ n l)[i]?=some o->(l.take n)[i]?=some o:=fun i o hi ho=>by rw[hsame i (by omega)]at ho;rw[List.getElem?_take,if_pos hi];exact ho
 have Rj:∀(i:Nat) (o:Oper),i<n->l[i]?=some o->o∈l.take n:=fun i o hi ho=>aq7 (by rw[List.getElem?_take,if_pos hi];exact ho:(l.take n)[i]?=some o)
 refine⟨⟨by unfold eJ;simp,by simpa using h1,fun i hi=>by simp[hsame i hi],⟨fun i j oi oj t hi hj hoi eH=>m9 h9 i j oi oj t (htake i oi hi (by simpa using hoi)) (htake j oj hj (by simpa using eH)),fun i o t hi ho hd=>?_⟩,
  by simpa using hl,by simp[hl,htw],h5,by simpa using h6,fun j o e hj ho he=>?_,fun o' e ho' he=>?_,fun j o t hj ho hd ht=>?_,fun j o hj ho=>?_,fun j o ho cs b=>Region.noSelect_spec h3 j o cs b ho,fun i h0 hi=>?_,fun t h0 ht hne=>?_⟩,h2,h3,h4,fun i h0 hi=>?_,cY,vH,by simpa using h17,wV,h19⟩
 ·have:=List.all_eq_true.1 h10 t (List.mem_filterMap.2 ⟨o,aq7 (htake i o hi (by simpa using ho)),hd⟩)
  simpa using this
 ·have:=List.all_eq_true.1 h7 o (Rj j o hj (by simpa using ho))
  have:=Array.all_eq_true_iff_forall_mem.1 this e he;simpa using this
 ·rw[List.getElem?_toArray,htw]at ho'
  cases ho';exact Array.mem_append.2 (.inl he)
 ·have h:=List.all_eq_true.1 h8 j (List.mem_range.2 hj)
  have ho2:l[j]?=some o:=by simpa using ho
  rw[ho2]at h;simp only[Option.all_some,hd,Bool.or_eq_true,Bool.not_eq_true']at h;rcases h with h|h
  ·rw[List.contains_iff_mem.2 ht]at h;cases h
  ·obtain⟨i,hi,hb⟩:=Array.any_eq_true.1 h
   simp only[Bool.and_eq_true,beq_iff_eq]at hb;exact⟨_,Array.getElem_mem hi,hb.1,hb.2⟩
 ·have:=List.all_eq_true.1 h11 o (Rj j o hj (by simpa using ho))
  simpa using this
 ·have h:=List.all_eq_true.1 dr i (List.mem_range.2 hi)
  simp only[Bool.or_eq_true,beq_iff_eq]at h;rcases h with h|h
  ·omega
  ·obtain⟨j,hj,hb⟩:=List.any_eq_true.1 h
   simp only[Bool.and_eq_true,decide_eq_true_eq]at hb;have:=List.mem_range.1 hj;exact⟨j,hb.1,by omega,hb.2⟩
 ·have h:=List.all_eq_true.1 dS t (List.mem_range.2 (by simpa using ht))
  simp only[Bool.or_eq_true,decide_eq_true_eq]at h;rcases h with h|h
  ·omega
  ·exact h
 ·have h:=List.all_eq_true.1 iH i (List.mem_range.2 hi)
  simp only[Bool.or_eq_true,beq_iff_eq]at h;rcases h with h|h
  ·omega
  ·obtain⟨j,hj,hb⟩:=List.any_eq_true.1 h
   simp only[Bool.and_eq_true,decide_eq_true_eq]at hb;have:=List.mem_range.1 hj;exact⟨j,hb.1,by omega,hb.2⟩
theorem eK {P:Program}{id:Nat}{Q:Exit->Act->World->Prop}{a:Act}{w:World}{o0:Oper}{l:List Oper}(x:Operand)(k:Nat)(aS:Act){oa:Oper}(dd:Tmp)(z:Obj)(vf:World->Value)(hop:o0.op=.move x)(hg:o0.guard=none)(hm:P.follows .mixedOrders=true)
  (hB:Fg (o0::l) (k+1) a.tmps.size dd oa=true) (hl:l[k]?=some oa) (hQ' : ∀c (v:Value) a w,Q (.panic c) (a.put o0.dst v) w->Q (.panic c) a w)
  (H:∀W,Below w.heap.size w W->wpQuiet P (o0::l).toArray (fun w' => ∃x:Ext,w'=over W x) (fun a' => a'=aS) (l.take k) (a.put o0.dst (a.eval x)))
  (x8:∀w':World,(execOp aS.eval oa).run P w' = .ok (.value (vf w')) (w'.alloc z))
  (Ah:∀w0 w',Below w.heap.size w w0->Below (w0.heap.size+1) (w0.alloc z) w' -> wpList P (o0::l).toArray Q (l.drop (k+1)) (aS.put (some dd) (vf w0)) w'):(Code.region id (o0::l).toArray true).wp P Q a w:=by
 obtain⟨T,_,adH,hsel,hs,hc,jH,zv,hr,hf⟩:=Lx hB (by simpa using hl)
 have hlt:=T.lt;have Rk:(o0::l).toArray.size=l.length+1:=by simp
 rw[Rk]at hlt;have hsz':(eJ (k+1) (o0::l)).toArray.size=l.length+1:=by rw[T.size,Rk]
 have inv1:HeadInv .any (eJ (k+1) (o0::l)).toArray (k+1) ((Array.replicate (eJ (k+1) (o0::l)).toArray.size false).setIfInBounds 0 true):=by
  have zD:HeadInv .any (eJ (k+1) (o0::l)).toArray (k+1) (Array.replicate (eJ (k+1) (o0::l)).toArray.size false):=
   ⟨by simp,fun j oj _ hl=>(by rw[getD_replicate_false]at hl;cases hl),fun t _ ht=>getD_in (by simpa using ht) (getD_replicate_false _ _)⟩
  exact zD.set zv (by omega)
 have hz1:((Array.replicate (eJ (k+1) (o0::l)).toArray.size false).setIfInBounds 0 true).getD 0 true=true:=by
  rw[hsz'];simp
 have lQ:(l.take k).length=k:=by simp;omega
 have ho0:(o0::l).toArray[0]?=some o0:=by simp
 have hll:(o0::l).length-(k+1)=(l.length-(k+1))+1:=by simp;omega
 rw[hll]at jH;have HH:HAg P (eJ (k+1) (o0::l)).toArray (k+1) ((l.length-(k+1))+1) aS w k ((Array.replicate (eJ (k+1) (o0::l)).toArray.size false).setIfInBounds 0 true) (a.put o0.dst (a.eval x)):=by
  intro W hW;have h1:=qd (fun t=>T.yield t) _ _ (H W hW.below)
  have:=tR (P:=P) (C:=fun w' => ∃x:Ext,w'=over W x) (md:= .any) (g:=(l.length-(k+1))+1) hsel hs hc (by rw[hsz'];omega) (l.take k) 1 _ (a.put o0.dst (a.eval x)) (fun j hj=>by
   have hj':j<k:=by rw[lQ]at hj;exact hj
   have:=T.same (1+j) (by omega)
   rw[←this];rw[List.getElem?_take,if_pos hj'];simp[Nat.add_comm 1 j]) (by rw[lQ];omega) inv1 hz1 (by rw[lQ];exact jH) h1
  rwa [lQ]at this
 refine wp_region_any hm ?_
 have key:=ya (Q:=Q) (m:=l.length-(k+1)) (tl:=l.drop (k+1)) T (by simp) (fun j=>by
   rw[List.getElem?_drop,List.getElem?_toArray,show k+1+1+j=(k+1+j)+1 by omega];simp) x8 (fun w0 w' h0 h1=>Ah w0 w' h0.below (by have:=h1.below;rwa [World.size_alloc]at this)) k _ _ _ HH inv1 hz1 (by rw[dN]) ⟨_,iq w⟩
 rw[hsz']at key;rw[show k+(l.length-(k+1)+1)=l.length by omega]at key
 rw[Rk];refine wpAny_take (v:=a.eval x) ho0 adH (by rw[Rk]at hf;exact hf) (by rw[Rk]at hr;exact hr) (fun c a' w' => hQ' c _ a' w') (Or.inl ⟨?_,fun w' => BigFrame.run_move x hop w'⟩) key
 simp[Region.wanted,hg]
def fQ:Nat->Value->List Oper->List Oper
 | _,_,[]=>[]
 | 0,v,o::l=>{ o with op:= .move (.const v) }::l
 | n+1,v,o::l=>o::fQ n v l
theorem gz (v:Value):∀(n:Nat)(l:List Oper),(fQ n v l).length=l.length
 | n,[]=>by cases n <;> rfl
 | 0,o::l=>rfl
 | n+1,o::l=>by simp[fQ,gz v n l]
theorem tU (v:Value):∀(n:Nat)(l:List Oper)(i:Nat),i≠n->(fQ n v l)[i]?=l[i]?
 | n,[],i,_=>by cases n <;> rfl
 | 0,o::l,i,h=>by
  cases i with
  | zero=>exact absurd rfl h
  | succ i=>rfl
 | n+1,o::l,i,h=>by
  cases i with
  | zero=>rfl
  | succ i=>simpa[fQ] using tU v n l i (by omega)
theorem Aj (v:Value):∀(n:Nat)(l:List Oper)(oc:Oper),l[n]?=some oc->(fQ n v l)[n]?=some { oc with op:= .move (.const v) }
 | _,[],oc,h=>by simp at h
 | 0,o::l,oc,h=>by
  simp at h;subst h;rfl
 | n+1,o::l,oc,h=>by simpa[fQ] using Aj v n l oc (by simpa using h)
section
variable {P:Program}{n N:Nat}{ops ops':Array Oper}{Q:Exit->Act->World->Prop}{w:World}{aS:Act}{oc:Oper}{v:Value}{E We:World->Prop}
def HQ (P:Program)(ops':Array Oper)(aS:Act)(We:World->Prop)(f:Nat)(listed:Array Bool)(a:Act):Prop:=
 ∀W,We W->wpAnyQ P .any ops' (fun w' => ∃x:Ext,w'=over W x) (fun a' => a'=aS) f listed a
theorem kY {C:World->Prop}{t:Tmp}:∀(f:Nat)(listed:Array Bool)(a:Act),wpAnyQ P .any ops' C (fun a' => a'=aS) f listed a ->
  (∀j o,ops'[j]?=some o->listed.getD j true=false->o.dst≠some t)->aS.tmps.getD t undef=a.tmps.getD t undef:=by
 intro f;induction f with
 | zero=>
  intro listed a h _;have e:a=aS:=h.2;rw[e]
 | succ f ih=>
  intro listed a h hd;by_cases h0:Region.ready .any ops' listed=[]
  ·have e:a=aS:=h.1 h0
   rw[e]
  ·obtain⟨i,hi⟩:=List.exists_mem_of_ne_nil _ h0
   have hq:=h.2 i hi;obtain⟨hun,o,ho,_⟩:=mem_ready.1 hi;have hne:=hd i o ho hun;have iF:∀j o,ops'[j]?=some o->(listed.setIfInBounds i true).getD j true=false->o.dst≠some t:=by
    intro j oj eH hl;by_cases hij:i=j
    ·subst hij;rw[ho]at eH;cases eH;exact hne
    ·rw[getD_set_ne true hij]at hl;exact hd j oj eH hl
   unfold qOp at hq;simp only[ho]at hq;split at hq
   ·obtain⟨v,_,h2⟩:=hq
    rw[ih _ _ h2 iF,b9 _ _ _ _ hne]
   ·rw[ih _ _ hq iF,b9 _ _ _ _ hne]
theorem HQ.step (hD:Ad ops' ops'.size N){f:Nat}{listed:Array Bool}{a:Act}(ha:a.tmps.size=N)(H:HQ P ops' aS We (f+1) listed a){i:Nat}(hi:i∈Region.ready .any ops' listed) :
  ∀W,We W->qOp P ops' (fun w' => ∃x:Ext,w'=over W x) i (fun a' => HQ P ops' aS We f (listed.setIfInBounds i true) a' /\ a'.tmps.size=N) a:=by
 intro W hW;have hq:=(H W hW).2 i hi;obtain⟨hun,o,ho,_⟩:=mem_ready.1 hi;have hin:=qa hi;unfold qOp at hq ⊢;simp only[ho]at hq ⊢;split
 ·rename_i hw
  simp only[hw,if_true]at hq;obtain⟨v,h1,h2⟩:=hq;refine⟨v,h1,fun W2 hW2=>?_,by rw[dN];exact ha⟩
  have qR:=(H W2 hW2).2 i hi;unfold qOp at qR;simp only[ho,hw,if_true]at qR;obtain⟨v2,_,h4⟩:=qR;have e:a.put o.dst v=a.put o.dst v2:=by
   cases hd:o.dst with
   | none=>rfl
   | some t=>
    have hkeep:∀j oj,ops'[j]?=some oj->(listed.setIfInBounds i true).getD j true=false->oj.dst≠some t:=by
     intro j oj eH hl e;have hj:j<ops'.size:=(Array.getElem?_eq_some_iff.1 eH).1;have hij:=hD.one i j o oj t hin hj ho eH hd e;subst hij;rcases Nat.lt_or_ge i listed.size with hlt|hge
     ·simp[hlt]at hl
     ·simp[Array.getElem?_eq_none hge]at hun
    have k1:=kY _ _ _ h2 hkeep;have k2:=kY _ _ _ h4 hkeep;have hlt:t<a.tmps.size:=by rw[ha];exact hD.lt i o t hin ho hd
    rw[hd,cJ _ _ _ hlt]at k1 k2;rw[←k1,←k2]
  rw[e];exact h4
 ·rename_i hw
  simp only[hw]at hq;refine⟨fun W2 hW2=>?_,by rw[dN];exact ha⟩
  have qR:=(H W2 hW2).2 i hi;unfold qOp at qR;simp only[ho,hw]at qR;exact qR
structure jV (ops ops':Array Oper)(n N:Nat)(oc:Oper)(v:Value):Prop where
 size:ops'.size=ops.size
 same:∀i,i≠n->ops[i]?=ops'[i]?
 c':ops'[n]?=some { oc with op:= .move (.const v) }
 c:ops[n]?=some oc
 bare:oc.guard=none
 ds:Ad ops' ops'.size N
 looks:∀(j:Nat) (o:Oper) (t:Tmp),ops'[j]?=some o->o.dst=some t->t∈oc.looksAt ops->∃e,e∈oc.after/\Region.binds .any e=true/\e.on=j
 Pc:∀cs b,oc.op ≠ .select cs b
 low:∀(j:Nat) (o:Oper) (e:Edge),ops'[j]?=some o->e∈o.after->e.on<j
theorem jV.yield (T:jV ops ops' n N oc v)(tmps:Array Value):yielded ops tmps=yielded ops' tmps:=by
 funext k
 unfold yielded;by_cases hk:k=n
 ·subst hk;rw[T.c,T.c'];rfl
 ·rw[T.same k hk]
theorem jV.kC (T:jV ops ops' n N oc v){C:World->Prop}{i:Nat}(hi:i≠n)(K:Act->Prop)(a:Act):qOp P ops' C i K a=qOp P ops C i K a:=by
 unfold qOp;rw[T.same i hi,T.yield]
theorem jV.ready (T:jV ops ops' n N oc v)(Z:Array Bool):Region.ready .any ops Z=Region.ready .any ops' Z:=by
 unfold Region.ready;rw[T.size];refine List.filter_congr (fun j _=>?_)
 by_cases hj:j=n
 ·subst hj;rw[T.c,T.c'];rfl
 ·rw[T.same j hj]
theorem jV.done (T:jV ops ops' n N oc v){listed:Array Bool}(hs:listed.size=ops'.size)(h0:Region.ready .any ops' listed=[]):∀j,j<ops'.size->listed.getD j true=true:=by
 intro j;induction j using Nat.strongRecOn with
 | _ j ih=>
  intro hj;cases hl:listed.getD j true with
  | true=>rfl
  | false=>
   have:j∈Region.ready .any ops' listed:=by
    refine mem_ready.2 ⟨hl,ops'[j],Array.getElem?_eq_getElem hj,fun e he hb=>?_⟩
    have dW:=T.low j _ e (Array.getElem?_eq_getElem hj) he;cases hx:listed.getD e.on false with
    | true=>rfl
    | false=>
     have h1:=ih e.on dW (by omega)
     have h2:=getD_in (by omega:e.on<listed.size) hx
     rw[h1]at h2;cases h2
   rw[h0]at this;cases this
theorem Lz (T:jV ops ops' n N oc v)(hE:∀W W',E W->Below W.heap.size W W' -> E W')(hF:∀W,E W->We W)(hQ:∀W,E W->Q .normal aS W) :
  ∀(f:Nat) (listed:Array Bool) (a:Act) (w':World),HQ P ops' aS We f listed a->listed.getD n true=true->a.tmps.size=N->E w' -> wpAny P .any ops Q f listed a w' := by
 intro f;induction f with
 | zero=>
  intro listed a w' H hl ha hw';have h:=H w' (hF w' hw');have e:a=aS:=h.2;refine⟨by rw[T.ready];exact h.1,?_⟩
  rw[e];exact hQ _ hw'
 | succ f ih=>
  intro listed a w' H hl ha hw';have h:=H w' (hF w' hw');refine⟨fun h0=>?_,fun i hi=>?_⟩
  ·rw[T.ready]at h0
   have e:a=aS:=h.1 h0;rw[e];exact hQ _ hw'
  ·rw[T.ready]at hi
   have hin:i≠n:=by
    intro e;subst e;have:=(mem_ready.1 hi).1;rw[hl]at this;cases this
   have h1:=HQ.step T.ds ha H hi w' (hF _ hw');rw[T.kC hin]at h1;exact wpOp_of_qOp (C:=fun w2=>∃x:Ext,w2=over w' x) (eF w') (fun a2 w2 hw2 hK=>ih _ _ _ hK.1 (by rw[getD_set_ne true hin];exact hl) hK.2 (hE _ _ hw' (Pure.below hw2))) h1
theorem Fh (T:jV ops ops' n N oc v)(hE:∀W W',E W->Below W.heap.size W W' -> E W')(hF:∀W,E W->We W)(hP:∀W,Pure w W->We W)(hQ:∀W,E W->Q .normal aS W)
  (hcall:∀W,Pure w W->∃f args,(execOp aS.eval oc).run P W=.ok (.enter f args) W/\Calls P f args W fun e w2=>e=.returned v/\E w2) :
  ∀(f:Nat) (listed:Array Bool) (a:Act) (w':World),HQ P ops' aS We f listed a->listed.size=ops'.size->listed.getD n true=false->a.tmps.size=N->Pure w w' -> wpAny P .any ops Q f listed a w' := by
 have hnlt:n<ops'.size:=(Array.getElem?_eq_some_iff.1 T.c').1;intro f;induction f with
 | zero=>
  intro listed a w' H hs hl ha hw';have h:=T.done hs (H w' (hP w' hw')).1 n hnlt;rw[hl]at h;cases h
 | succ f ih=>
  intro listed a w' H hs hl ha hw';refine⟨fun h0=>?_,fun i hi=>?_⟩
  ·rw[T.ready]at h0
   have h:=T.done hs h0 n hnlt;rw[hl]at h;cases h
  ·rw[T.ready]at hi
   have h1:=HQ.step T.ds ha H hi w' (hP _ hw');by_cases hin:i=n
   ·subst hin
    obtain⟨_,oc',adI,hall⟩:=mem_ready.1 hi;rw[T.c']at adI;have hae:oc'.after=oc.after:=by rw[←aq9 adI]
    have heq:execOp a.eval oc=execOp aS.eval oc:=by
     refine execOp_congr oc T.Pc (fun x hx=>?_)
     cases x with
     | tmp t=>
      have hk:=kY (t:=t) _ _ _ (H w' (hP _ hw')) (fun j o ho hl hd=>by
       obtain⟨e,he,hb,hon⟩:=T.looks j o t ho hd (List.mem_append_left _ (List.mem_filterMap.2 ⟨.tmp t,by simpa using hx,rfl⟩))
       have h2:=hall e (by rw[hae];exact he) hb
       rw[hon,getD_both hl]at h2;cases h2)
      exact hk.symm
     | _=>rfl
    have hwant:Region.wanted oc (yielded ops a.tmps)=true:=by simp[Region.wanted,T.bare]
    have aaZ:Region.wanted { oc with op:= .move (.const v) } (yielded ops' a.tmps)=true:=by simp[Region.wanted,T.bare]
    unfold qOp at h1;simp only[T.c',aaZ,if_true]at h1;obtain⟨v',hv',h4⟩:=h1;have hv:=hv' w' (eF w');unfold Oper.quietAt at hv;rw[BigFrame.run_move (.const v) rfl]at hv;have hvv:v=v' := hv.2;subst hvv;obtain⟨fn,args,hr,hc⟩:=hcall w' hw';unfold wpOp;simp only[T.c,hwant,if_true];refine .inl ?_
    unfold Oper.wp;rw[heq,hr];simp only[Oper.upon];refine hc.mono fun e w'' ⟨he,hw''⟩=>?_
    subst he;exact Lz T hE hF hQ f _ _ _ h4.1 (by
     rcases Nat.lt_or_ge i listed.size with hlt|hge
     ·simp[hlt]
     ·simp[Array.getElem?_eq_none hge]) h4.2 hw''
   ·rw[T.kC hin]at h1
    exact wpOp_of_qOp (C:=fun w2=>∃x:Ext,w2=over w' x) (eF w') (fun a2 w2 hw2 hK=>ih _ _ _ hK.1 (by simpa using hs) (by rw[getD_set_ne true hin];exact hl) hK.2 (hw'.trans hw2)) h1
end
def aa0 (l:List Oper)(n N:Nat)(v:Value)(oc:Oper):Bool:=
 Region.lexB .any (fQ n v l).toArray && Region.noSelect l.toArray && oc.guard.isNone
 && decide ((fQ n v l).filterMap (·.dst)).Nodup && ((fQ n v l).filterMap (·.dst)).all (fun t=>decide (t<N))
 && (List.range l.length).all (fun j=>((fQ n v l)[j]?).all fun o=>o.dst.all fun t => !(oc.looksAt l.toArray).contains t || oc.after.any fun e=>Region.binds .any e && e.on == j)
 && (List.range l.length).all (fun j=>((fQ n v l)[j]?).all fun o=>o.after.all fun e=>decide (e.on<j))
theorem Ma {l:List Oper}{n N:Nat}{v:Value}{oc:Oper}(hB:aa0 l n N v oc=true)(hl:l[n]?=some oc):jV l.toArray (fQ n v l).toArray n N oc v/\Region.lexB .any (fQ n v l).toArray=true:=by
 simp only[aa0,Bool.and_eq_true,decide_eq_true_eq]at hB;obtain⟨⟨⟨⟨⟨⟨h1,h2⟩,h3⟩,h4⟩,h5⟩,h6⟩,h7⟩:=hB;refine⟨⟨by simp[gz],fun i hi=>by simp[tU v n l i hi],by simpa using Aj v n l oc hl,by simpa using hl,by simpa using h3,
  ⟨fun i j oi oj t _ _ hoi eH=>m9 h4 i j oi oj t (by simpa using hoi) (by simpa using eH),fun i o t hi ho hd=>?_⟩,fun j o t ho hd ht=>?_,fun cs b=>Region.noSelect_spec h2 n oc cs b (by simpa using hl),fun j o e ho he=>?_⟩,h1⟩
 ·have ho':(fQ n v l)[i]?=some o:=by simpa using ho
  have:=List.all_eq_true.1 h5 t (List.mem_filterMap.2 ⟨o,aq7 ho',hd⟩);simpa using this
 ·have ho':(fQ n v l)[j]?=some o:=by simpa using ho
  have hj:j<l.length:=by
   have:=(aq5.1 ho').1;rwa [gz]at this
  have h:=List.all_eq_true.1 h6 j (List.mem_range.2 hj);rw[ho']at h;simp only[Option.all_some,hd,Bool.or_eq_true,Bool.not_eq_true']at h;rcases h with h|h
  ·rw[List.contains_iff_mem.2 ht]at h;cases h
  ·obtain⟨i,hi,hb⟩:=Array.any_eq_true.1 h
   simp only[Bool.and_eq_true,beq_iff_eq]at hb;exact⟨_,Array.getElem_mem hi,hb.1,hb.2⟩
 ·have ho':(fQ n v l)[j]?=some o:=by simpa using ho
  have hj:j<l.length:=by
   have:=(aq5.1 ho').1;rwa [gz]at this
  have h:=List.all_eq_true.1 h7 j (List.mem_range.2 hj);rw[ho']at h;simp only[Option.all_some]at h;have:=Array.all_eq_true_iff_forall_mem.1 h e he;simpa using this
theorem vI {P:Program}{id:Nat}{Q:Exit->Act->World->Prop}{a:Act}{w:World}{l:List Oper}(n:Nat)(v:Value)(E:World->Prop)(aS:Act){oc:Oper}(hm:P.follows .mixedOrders=true)(hl:l[n]?=some oc)(hB:aa0 l n a.tmps.size v oc=true)
  (H:∀W,(Below w.heap.size w W\/E W)->wpQuiet P (fQ n v l).toArray (fun w' => ∃x:Ext,w'=over W x) (fun a' => a'=aS) (fQ n v l) a)
  (hE:∀W W',E W->Below W.heap.size W W' -> E W')
  (hcall:∀W,Below w.heap.size w W->∃f args,(execOp aS.eval oc).run P W=.ok (.enter f args) W/\Calls P f args W fun e w2=>e=.returned v/\E w2)
  (hQ:∀W,E W->Q .normal aS W):(Code.region id l.toArray true).wp P Q a w:=by
 obtain⟨T,jH⟩:=Ma hB hl;have hnlt:n<l.length:=(aq5.1 hl).1;simp only[Region.lexB,Bool.and_eq_true]at jH;have HH:HQ P (fQ n v l).toArray aS (fun W=>Below w.heap.size w W\/E W) (fQ n v l).length (Array.replicate (fQ n v l).toArray.size false) a:=by
  intro W hW;exact wpAnyQ_lex (C:=fun w' => ∃x:Ext,w'=over W x) (md:= .any) jH.1 (fQ n v l) 0 _ a (by simp) (by simpa using jH.2) (H W hW)
 refine wp_region_any hm ?_
 have key:=Fh (Q:=Q) (w:=w) T hE (fun W h=> .inr h) (fun W h=> .inl (Pure.below h)) hQ (fun W h=>hcall W (Pure.below h)) _ _ _ { w with drawn:=w.drawn+1 } HH (by simp) (by simp[gz,hnlt]) rfl ⟨_,iq w⟩
 rw[gz,T.size]at key;simpa using key
def bL:List Bool->List Oper->List Oper
 | true::m,o::l=>{ o with op:= .move (.const undef) }::bL m l
 | false::m,o::l=>o::bL m l
 | [],l=>l
 | _::_,[]=>[]
theorem eM:∀(m:List Bool)(l:List Oper),(bL m l).length=l.length
 | true::m,o::l=>by simp[bL,eM m l]
 | false::m,o::l=>by simp[bL,eM m l]
 | [],l=>by simp[bL]
 | b::m,[]=>by cases b <;> simp[bL]
theorem ng:∀(m:List Bool)(l:List Oper)(i:Nat),m.getD i false=false->(bL m l)[i]?=l[i]?
 | true::m,o::l,0,h=>by simp at h
 | true::m,o::l,i+1,h=>by simpa[bL] using ng m l i (by simpa using h)
 | false::m,o::l,0,h=>by simp[bL]
 | false::m,o::l,i+1,h=>by simpa[bL] using ng m l i (by simpa using h)
 | [],l,i,h=>by simp[bL]
 | b::m,[],i,h=>by cases b <;> simp[bL]
theorem kZ:∀(m:List Bool)(l:List Oper)(i:Nat)(o:Oper),m.getD i false=true->l[i]?=some o->(bL m l)[i]?=some { o with op:= .move (.const undef) }
 | true::m,o::l,0,o',h,h2=>by
  simp at h2;subst h2;simp[bL]
 | true::m,o::l,i+1,o',h,h2=>by simpa[bL] using kZ m l i o' (by simpa using h) (by simpa using h2)
 | false::m,o::l,0,o',h,h2=>by simp at h
 | false::m,o::l,i+1,o',h,h2=>by simpa[bL] using kZ m l i o' (by simpa using h) (by simpa using h2)
 | [],l,i,o',h,h2=>by simp at h
 | b::m,[],i,o',h,h2=>by simp at h2
def aM (l:List Oper)(e:Nat):Option Tmp:=(l[e]?).bind (·.dst)
def aj (l:List Oper)(ρ:Nat->Option Value):List Nat->Act->Act
 | [],a=>a
 | d::ds,a=>aj l ρ ds (a.put (aM l d) ((ρ d).getD undef))
def upd (ρ:Nat->Option Value)(e:Nat)(v:Value):Nat->Option Value:=fun k=>if k=e then some v else ρ k
def Ak (ρ:Nat->Option Value)(af:Act)(R:(Nat->Option Value)->World->Prop)(e:Nat)(o:Oper):Exit->Act->World->Prop:=
 fun x a' w' => x=.normal/\∃v,a'=af.put o.dst v/\R (upd ρ e v) w'
def nh (all:List Nat)(deps:Nat->List Nat)(ρ:Nat->Option Value):Prop:=∀j,j∈all->(ρ j).isSome=true->∀d,d∈deps j->(ρ d).isSome=true
def qY (P:Program)(l:List Oper)(all:List Nat)(deps:Nat->List Nat)(aS:Act)(R:(Nat->Option Value)->World->Prop):List Nat->Prop
 | []=>True
 | e::es=>(∀o,l[e]?=some o->∀ ρ w,R ρ w->nh all deps ρ->ρ e=none->(∀d,d∈deps e->(ρ d).isSome=true)->∀af,af=aj l ρ (deps e) aS->wpList P l.toArray (Ak ρ af R e o) [o] af w)/\qY P l all deps aS R es
theorem qY.at {P:Program}{l:List Oper}{all:List Nat}{deps:Nat->List Nat}{aS:Act}{R:(Nat->Option Value)->World->Prop}:∀ {es:List Nat},qY P l all deps aS R es->∀e,e∈es ->
  ∀o,l[e]?=some o->∀ ρ w,R ρ w->nh all deps ρ->ρ e=none->(∀d,d∈deps e->(ρ d).isSome=true)->∀af,af=aj l ρ (deps e) aS->wpList P l.toArray (Ak ρ af R e o) [o] af w
 | [],_,e,h=>by simp at h
 | e0::es,H,e,h=>by
  rcases List.mem_cons.1 h with h1|h1
  ·subst h1;exact H.1
  ·exact qY.at H.2 e h1
theorem put_defers (a:Act)(d:Option Tmp)(v:Value):(a.put d v).defers=a.defers:=by cases d <;> rfl
section
variable {l:List Oper}{ρ:Nat->Option Value}
theorem jb:∀(ds:List Nat)(a:Act),(aj l ρ ds a).tmps.size=a.tmps.size
 | [],a=>rfl
 | d::ds,a=>by show(aj l ρ ds _).tmps.size=_;rw[jb ds,dN]
theorem lV:∀(ds:List Nat)(a:Act),(aj l ρ ds a).defers=a.defers
 | [],a=>rfl
 | d::ds,a=>by show(aj l ρ ds _).defers=_;rw[lV ds,put_defers]
theorem fC {t:Tmp}:∀(ds:List Nat)(a:Act),(∀d,d∈ds->aM l d≠some t)->(aj l ρ ds a).tmps.getD t undef=a.tmps.getD t undef
 | [],a,_=>rfl
 | d::ds,a,h=>by
  show(aj l ρ ds _).tmps.getD t undef=_
  rw[fC ds _ (fun d' hd=>h d' (by simp[hd])),b9 _ _ _ _ (h d (by simp))]
theorem ni {t:Tmp}{d:Nat}:∀(ds:List Nat)(a:Act),d∈ds->aM l d=some t->t<a.tmps.size->(∀d',aM l d'=some t->d'=d)->(aj l ρ ds a).tmps.getD t undef=(ρ d).getD undef
 | [],a,h,_,_,_=>by simp at h
 | d0::ds,a,h,ht,hlt,hu=>by
  show(aj l ρ ds _).tmps.getD t undef=_
  by_cases hd:d∈ds
  ·exact ni ds _ hd ht (by rw[dN];exact hlt) hu
  ·have h0:d=d0:=by
    rcases List.mem_cons.1 h with h1|h1
    ·exact h1
    ·exact absurd h1 hd
   subst h0;rw[fC ds _ (fun d' iF e=>hd (by rw[←hu d' e];exact iF)),ht,cJ _ _ _ hlt]
end
structure jW (l:List Oper)(m:List Bool)(es:List Nat)(deps:Nat->List Nat)(N:Nat):Prop where
 es:∀e,e∈es↔(m.getD e false=true/\e<l.length)
 bare:∀(i:Nat) (o:Oper),l[i]?=some o->o.guard=none
 one:∀(i j:Nat) (oi oj:Oper) (t:Tmp),l[i]?=some oi->l[j]?=some oj->oi.dst=some t->oj.dst=some t->i=j
 lt:∀(i:Nat) (o:Oper) (t:Tmp),l[i]?=some o->o.dst=some t->t<N
 Pc:∀(i:Nat) (o:Oper),l[i]?=some o->∀cs b,o.op ≠ .select cs b
 low:∀(i:Nat) (o:Oper) (e:Edge),l[i]?=some o->e∈o.after->Region.binds .any e=true->e.on<i
 quiet:∀(i:Nat) (oi:Oper) (j:Nat) (oj:Oper) (t:Tmp),m.getD i false=false->l[i]?=some oi->m.getD j false=true->l[j]?=some oj->oj.dst=some t->t∈oi.looksAt l.toArray->∃x,x∈oj.after/\Region.binds .any x=true/\x.on=i
 waits:∀(i:Nat) (oi:Oper) (j:Nat) (oj:Oper) (t:Tmp),m.getD i false=true->l[i]?=some oi->l[j]?=some oj->oj.dst=some t->t∈oi.looksAt l.toArray->(∃e,e∈oi.after/\Region.binds .any e=true/\e.on=j)/\(m.getD j false=true->j∈deps i)
 deps:∀(i:Nat) (oi:Oper) (d:Nat),m.getD i false=true->l[i]?=some oi->d∈deps i->m.getD d false=true/\∃e,e∈oi.after/\Region.binds .any e=true/\e.on=d
section
variable {P:Program}{l:List Oper}{m:List Bool}{es:List Nat}{deps:Nat->List Nat}{N:Nat}{Q:Exit->Act->World->Prop}{aS:Act}{R:(Nat->Option Value)->World->Prop}{Inv:World->Prop}
theorem jW.same (T:jW l m es deps N){i:Nat}(h:m.getD i false=false):(bL m l).toArray[i]?=l.toArray[i]? := by simpa using ng m l i h
theorem jW.dst (T:jW l m es deps N)(i:Nat):(((bL m l).toArray[i]?).bind (·.dst))=((l.toArray[i]?).bind (·.dst)):=by
 cases h:m.getD i false with
 | false=>rw[T.same h]
 | true=>
  cases ho:l[i]? with
  | none=>
   have h1:(bL m l)[i]?=none:=by
    rw[List.getElem?_eq_none_iff]at ho ⊢;rw[eM];exact ho
   simp[ho,h1]
  | some o=>simp[ho,kZ m l i o h ho]
theorem jW.aft (T:jW l m es deps N)(i:Nat):(((bL m l).toArray[i]?).map (·.after))=((l.toArray[i]?).map (·.after)):=by
 cases h:m.getD i false with
 | false=>rw[T.same h]
 | true=>
  cases ho:l[i]? with
  | none=>
   have h1:(bL m l)[i]?=none:=by
    rw[List.getElem?_eq_none_iff]at ho ⊢;rw[eM];exact ho
   simp[ho,h1]
  | some o=>simp[ho,kZ m l i o h ho]
theorem jW.size (T:jW l m es deps N):(bL m l).toArray.size=l.length:=by simp[eM]
theorem jW.ready (T:jW l m es deps N)(Z:Array Bool):Region.ready .any l.toArray Z=Region.ready .any (bL m l).toArray Z:=by
 unfold Region.ready;rw[T.size];have hs:l.toArray.size=l.length:=by simp
 rw[hs];refine List.filter_congr (fun j _=>?_)
 have h:=T.aft j;have e1:∀(x:Option Oper),(x.map fun o=>o.after.all fun e => !Region.binds .any e || Z.getD e.on false)=(x.map (·.after)).map (fun a=>a.all fun e => !Region.binds .any e || Z.getD e.on false):=by intro x;cases x <;> rfl
 rw[e1,e1,h]
theorem jW.back (T:jW l m es deps N){i:Nat}{o':Oper}(h:(bL m l).toArray[i]?=some o'):∃o,l[i]?=some o/\o.dst=o'.dst/\o.after=o'.after:=by
 have h1:=T.dst i;have h2:=T.aft i;rw[h]at h1 h2;cases ho:l[i]? with
 | none=>simp[ho]at h2
 | some o=>exact⟨o,rfl,by simpa[ho] using h1.symm,by simpa[ho] using h2.symm⟩
theorem jW.aa1 (T:jW l m es deps N):Ad (bL m l).toArray (bL m l).toArray.size N:=
 ⟨fun i j oi oj t _ _ hi hj h1 h2=>by
  obtain⟨pi,gi,di,_⟩:=T.back hi;obtain⟨pj,gj,dj,_⟩:=T.back hj;exact T.one i j pi pj t gi gj (by rw[di];exact h1) (by rw[dj];exact h2),
 fun i o t _ hi h1=>by
  obtain⟨pi,gi,di,_⟩:=T.back hi;exact T.lt i pi t gi (by rw[di];exact h1)⟩
theorem jW.done (T:jW l m es deps N){listed:Array Bool}(hs:listed.size=l.length)(h0:Region.ready .any l.toArray listed=[]):∀j,j<l.length->listed.getD j true=true:=by
 intro j;induction j using Nat.strongRecOn with
 | _ j ih=>
  intro hj;cases hl:listed.getD j true with
  | true=>rfl
  | false=>
   have:j∈Region.ready .any l.toArray listed:=by
    refine mem_ready.2 ⟨hl,l[j],by simp[hj],fun e he hb=>?_⟩
    have dW:=T.low j _ e (aq8 hj) he hb;cases hx:listed.getD e.on false with
    | true=>rfl
    | false=>
     have h1:=ih e.on dW (by omega)
     have h2:=getD_in (by omega:e.on<listed.size) hx
     rw[h1]at h2;cases h2
   rw[h0]at this;cases this
structure Beside (l:List Oper)(m:List Bool)(ρ:Nat->Option Value)(N:Nat)(b a:Act):Prop where
 sb:b.tmps.size=N
 sa:a.tmps.size=N
 df:a.defers=b.defers
 q:∀t,(∀(e:Nat) (oe:Oper),m.getD e false=true->l[e]?=some oe->(ρ e).isSome=true->oe.dst≠some t)->a.tmps.getD t undef=b.tmps.getD t undef
 e:∀(e:Nat) (oe:Oper) (v:Value) (t:Tmp),m.getD e false=true->l[e]?=some oe->ρ e=some v->oe.dst=some t->a.tmps.getD t undef=v
theorem Beside.quiet (T:jW l m es deps N){ρ:Nat->Option Value}{b a:Act}(h:Beside l m ρ N b a){i:Nat}{oi:Oper}(hi:m.getD i false=false)(hoi:l[i]?=some oi)(v:Value):Beside l m ρ N (b.put oi.dst v) (a.put oi.dst v):=by
 refine⟨by rw[dN];exact h.sb,by rw[dN];exact h.sa,by rw[put_defers,put_defers];exact h.df,fun t ht=>?_,fun e oe u t he jR hu ht=>?_⟩
 ·by_cases hd:oi.dst=some t
  ·have hlt:=T.lt i oi t hoi hd
   rw[hd,cJ _ _ _ (by rw[h.sa];exact hlt),cJ _ _ _ (by rw[h.sb];exact hlt)]
  ·rw[b9 _ _ _ _ hd,b9 _ _ _ _ hd];exact h.q t ht
 ·have hd:oi.dst≠some t:=fun hd=>by
   have:=T.one i e oi oe t hoi jR hd ht;subst this;rw[hi]at he;cases he
  rw[b9 _ _ _ _ hd];exact h.e e oe u t he jR hu ht
theorem Beside.eff (T:jW l m es deps N){ρ:Nat->Option Value}{b a:Act}(h:Beside l m ρ N b a){i:Nat}{oi:Oper}(hi:m.getD i false=true)(hoi:l[i]?=some oi)(v v2:Value)(hv:∀t,oi.dst=some t->v=v2):Beside l m (upd ρ i v2) N (b.put oi.dst undef) (a.put oi.dst v):=by
 refine⟨by rw[dN];exact h.sb,by rw[dN];exact h.sa,by rw[put_defers,put_defers];exact h.df,fun t ht=>?_,fun e oe u t he jR hu ht=>?_⟩
 ·have hd:=ht i oi hi hoi (by simp[upd])
  rw[b9 _ _ _ _ hd,b9 _ _ _ _ hd];refine h.q t (fun e oe he jR hs=>ht e oe he jR ?_)
  unfold upd;split
  ·rfl
  ·exact hs
 ·by_cases yb:e=i
  ·subst yb
   have hoo:oe=oi:=aq9 (jR.symm.trans hoi);subst hoo;have hlt:=T.lt e oe t hoi ht;have hu2:v2=u:=by simpa[upd] using hu
   rw[ht,cJ _ _ _ (by rw[h.sa];exact hlt),←hu2]
   exact hv t ht
  ·have hd:oi.dst≠some t:=fun hd=>yb (T.one e i oe oi t jR hoi ht hd)
   rw[b9 _ _ _ _ hd];exact h.e e oe u t he jR (by simpa[upd,yb] using hu) ht
theorem Jv {a b:Act}(hs:a.tmps.size=b.tmps.size)(h:∀t,a.tmps.getD t undef=b.tmps.getD t undef)(hd:a.defers=b.defers):a=b:=by
 obtain⟨at',ad⟩:=a;obtain⟨bt,bd⟩:=b;simp only at hs h hd;subst hd;congr 1
 apply Array.ext hs
 intro i h1 h2;have:=h i;simpa[h1,h2] using this
theorem Beside.last (T:jW l m es deps N){ρ:Nat->Option Value}{a:Act}(h:Beside l m ρ N aS a)(hall:∀e,e∈es->(ρ e).isSome=true):a=aj l ρ es aS:=by
 refine Jv (by rw[jb,h.sa,h.sb]) (fun t=>?_) (by rw[lV];exact h.df)
 by_cases hx:∃(e:Nat) (oe:Oper),m.getD e false=true/\l[e]?=some oe/\oe.dst=some t
 ·obtain⟨e,oe,he,jR,ht⟩:=hx
  have hlt:e<l.length:=(aq5.1 jR).1;have hes:e∈es:=(T.es e).2 ⟨he,hlt⟩;obtain⟨v,hv⟩:=aq6.1 (hall e hes);rw[h.e e oe v t he jR hv ht,ni (d:=e) es aS hes (by simp[aM,jR,ht]) (by rw[h.sb];exact T.lt e oe t jR ht) (fun d' iF=>by
   unfold aM at iF;cases qg:l[d']? with
   | none=>simp[qg]at iF
   | some od=>exact T.one d' e od oe t qg jR (by simpa[qg] using iF) ht),hv]
  rfl
 ·have hno:∀(e:Nat) (oe:Oper),m.getD e false=true->l[e]?=some oe->oe.dst≠some t:=fun e oe he jR ht=>hx ⟨e,oe,he,jR,ht⟩
  rw[h.q t (fun e oe he jR _=>hno e oe he jR),fC es aS (fun d hd ht=>by
   have h1:=(T.es d).1 hd;have h2:l[d]?=some l[d]:=aq8 h1.2;exact hno d _ h1.1 h2 (by simpa[aM,h2] using ht))]
theorem jW.operand (T:jW l m es deps N){ρ:Nat->Option Value}{listed:Array Bool}{b a:Act}(hB:Beside l m ρ N b a)
  (hk:∀t,(∀(j:Nat) (o:Oper),(bL m l).toArray[j]?=some o->listed.getD j true=false->o.dst≠some t)->aS.tmps.getD t undef=b.tmps.getD t undef) (iD:aS.tmps.size=N)
  {e:Nat} {oe:Oper} (he:m.getD e false=true) (jR:l[e]?=some oe) (hall:∀x,x∈oe.after->Region.binds .any x=true->listed.getD x.on false=true) (hρ:∀d,d∈deps e->(ρ d).isSome=true)
  {t:Tmp} (ht:t∈oe.looksAt l.toArray):a.tmps.getD t undef=(aj l ρ (deps e) aS).tmps.getD t undef:=by
 have hdd:∀d,d∈deps e->aM l d=some t->∃od,l[d]?=some od/\od.dst=some t:=by
  intro d _ h;unfold aM at h;cases qg:l[d]? with
  | none=>simp[qg]at h
  | some od=>exact⟨od,rfl,by simpa[qg] using h⟩
 by_cases hx:∃(j:Nat) (oj:Oper),l[j]?=some oj/\oj.dst=some t
 ·obtain⟨j,oj,eH,hd⟩:=hx
  obtain⟨⟨x,hxa,hb,hon⟩,aa2⟩:=T.waits e oe j oj t he jR eH hd ht;have hl:listed.getD j false=true:=by rw[←hon];exact hall x hxa hb
  cases hm:m.getD j false with
  | true=>
   have hj:=aa2 hm;obtain⟨v,hv⟩:=aq6.1 (hρ j hj);rw[hB.e j oj v t hm eH hv hd,ni (d:=j) (deps e) aS hj (by simp[aM,eH,hd]) (by rw[iD];exact T.lt j oj t eH hd) (fun d' iF=>by
    unfold aM at iF;cases qg:l[d']? with
    | none=>simp[qg]at iF
    | some od=>exact T.one d' j od oj t qg eH (by simpa[qg] using iF) hd),hv]
   rfl
  | false=>
   rw[hB.q t (fun e' oe' he' Fi _ h=>by
    have:=T.one e' j oe' oj t Fi eH h hd;subst this;rw[hm]at he';cases he'),fC (deps e) aS (fun d iF h=>by
    obtain⟨od,qg,hdt⟩:=hdd d iF h;have:=T.one d j od oj t qg eH hdt hd;subst this;have:=(T.deps e oe d he jR iF).1;rw[hm]at this;cases this)]
   exact(hk t (fun i o hi hl' iF=>by
    obtain⟨oi,hoi,hdi,_⟩:=T.back hi;have:=T.one i j oi oj t hoi eH (by rw[hdi];exact iF) hd
    subst this;rw[getD_both hl']at hl;cases hl)).symm
 ·have hno:∀(j:Nat) (oj:Oper),l[j]?=some oj->oj.dst≠some t:=fun j oj eH hd=>hx ⟨j,oj,eH,hd⟩
  rw[hB.q t (fun e' oe' _ Fi _=>hno e' oe' Fi),fC (deps e) aS (fun d iF h=>by
   obtain⟨od,qg,hdt⟩:=hdd d iF h;exact hno d od qg hdt)]
  exact(hk t (fun i o hi _ iF=>by
   obtain⟨oi,hoi,hdi,_⟩:=T.back hi;exact hno i oi hoi (by rw[hdi];exact iF))).symm
theorem qZ {listed:Array Bool}{i:Nat}(h:listed.getD i false=true):listed.getD i true=true:=by
 cases h2:listed.getD i true with
 | true=>rfl
 | false=>rw[getD_both h2]at h;cases h
theorem tV (n j:Nat):(Array.replicate n false).getD j false=false:=by
 rw[Array.getD_eq_getD_getElem?,Array.getElem?_replicate];split <;> rfl
theorem Rl (T:jW l m es deps N)(iD:aS.tmps.size=N)(hI:∀ ρ w,R ρ w->Inv w)(hR:∀ ρ w w',R ρ w->Below w.heap.size w w' -> R ρ w')(hE:qY P l es deps aS R es)
  (hQ:∀ ρ w,R ρ w->(∀e,e∈es->(ρ e).isSome=true)->Q .normal (aj l ρ es aS) w) :
  ∀(f:Nat) (listed:Array Bool) (b a:Act) (w':World) (ρ:Nat->Option Value),HQ P (bL m l).toArray aS Inv f listed b->listed.size=l.length->(∀e,e∈es->(ρ e).isSome=listed.getD e true) ->
   Beside l m ρ N b a->nh es deps ρ->(∀(j:Nat) (oj:Oper),l[j]?=some oj->listed.getD j false=true->∀x,x∈oj.after->Region.binds .any x=true->listed.getD x.on false=true)->R ρ w' -> wpAny P .any l.toArray Q f listed a w' := by
 have fin:∀(listed:Array Bool) (b a:Act) (w':World) (ρ:Nat->Option Value),listed.size=l.length->(∀e,e∈es->(ρ e).isSome=listed.getD e true)->Beside l m ρ N b a->R ρ w' -> Region.ready .any l.toArray listed=[]->b=aS->Q .normal a w' := by
  intro listed b a w' ρ hs hρ hB hw h0 e;subst e;have hdone:=T.done hs h0;have hall:∀e,e∈es->(ρ e).isSome=true:=fun e he=>by rw[hρ e he];exact hdone e ((T.es e).1 he).2
  rw[hB.last T hall];exact hQ ρ w' hw hall
 intro f;induction f with
 | zero=>
  intro listed b a w' ρ H hs hρ hB hcl hcw hw;have h:=H w' (hI _ _ hw);have h0:Region.ready .any l.toArray listed=[]:=by rw[T.ready];exact h.1
  exact⟨h0,fin listed b a w' ρ hs hρ hB hw h0 h.2⟩
 | succ f ih=>
  intro listed b a w' ρ H hs hρ hB hcl hcw hw;refine⟨fun h0=>fin listed b a w' ρ hs hρ hB hw h0 ((H w' (hI _ _ hw)).1 (by rw[←T.ready];exact h0)),fun i hi=>?_⟩
  rw[T.ready]at hi;have h1:=HQ.step T.aa1 hB.sb H hi w' (hI _ _ hw);obtain⟨hun,o',ho',hall⟩:=mem_ready.1 hi;obtain⟨oi,hoi,aha,Mb⟩:=T.back ho';have hil:i<l.length:=(aq5.1 hoi).1;have hl:l.toArray[i]?=some oi:=by simpa using hoi
  have hwant:∀y,Region.wanted oi y=true:=fun y=>by simp[Region.wanted,T.bare i oi hoi]
  have adN:∀(i:Nat) (oi:Oper),l[i]?=some oi->(∀x,x∈oi.after->Region.binds .any x=true->listed.getD x.on false=true)->∀(j:Nat) (oj:Oper),l[j]?=some oj->(listed.setIfInBounds i true).getD j false=true->∀x,x∈oj.after->Region.binds .any x=true->(listed.setIfInBounds i true).getD x.on false=true:=by
   intro i oi hoi hai j oj eH hj x hx hb;have grow:∀k,listed.getD k false=true->(listed.setIfInBounds i true).getD k false=true:=by
    intro k hk;by_cases hki:k=i
    ·subst hki
     have:k<listed.size:=by
      rcases Nat.lt_or_ge k listed.size with h|h
      ·exact h
      ·simp[h]at hk
     simp[this]
    ·rw[getD_set_ne false (Ne.symm hki)];exact hk
   by_cases hji:j=i
   ·subst hji
    have e:=aq9 (eH.symm.trans hoi);subst e;exact grow _ (hai x hx hb)
   ·rw[getD_set_ne false (Ne.symm hji)]at hj
    exact grow _ (hcw j oj eH hj x hx hb)
  cases hm:m.getD i false with
  | false=>
   have ho2:(bL m l).toArray[i]?=some oi:=by rw[T.same hm];exact hl
   unfold qOp at h1;simp only[ho2,hwant,if_true]at h1;obtain⟨v,hv,hH,hsz⟩:=h1;have heq:execOp a.eval oi=execOp b.eval oi:=by
    refine execOp_congr oi (T.Pc i oi hoi) (fun x hx=>?_)
    cases x with
    | tmp t=>exact hB.q t (fun e oe he jR hsome hd=>by
      obtain⟨x,hxa,hxb,hxo⟩:=T.quiet i oi e oe t hm hoi he jR hd (List.mem_append_left _ (List.mem_filterMap.2 ⟨.tmp t,by simpa using hx,rfl⟩))
      have hle:=hρ e ((T.es e).2 ⟨he,(aq5.1 jR).1⟩);rw[hsome]at hle;have vJ:listed.getD e false=true:=by
       cases h2:listed.getD e false with
       | true=>rfl
       | false=>rw[getD_in (by rw[hs];exact(aq5.1 jR).1) h2]at hle;cases hle
      have hli:=qZ (hcw e oe jR vJ x hxa hxb);rw[hxo,hun]at hli;cases hli)
    | _=>rfl
   unfold wpOp;simp only[hl,hwant,if_true];refine .inl (Oper.wp_of_quiet (C:=fun w2=>∃x:Ext,w2=over w' x) (K:=fun a' => a'=a.put oi.dst v) (eF w') (fun a2 w2 hw2 e=>?_) ⟨v,fun w2 hw2=>?_,rfl⟩)
   ·subst e
    refine ih _ _ _ _ _ hH (by simpa using hs) (fun e he=>?_) (hB.quiet T hm hoi v) hcl (adN i oi hoi (fun x hx hb=>hall x (by rw[←Mb];exact hx) hb)) (hR _ _ _ hw (Pure.below hw2))
    have yb:i≠e:=fun h=>by
     subst h;have:=((T.es i).1 he).1;rw[hm]at this;cases this
    rw[getD_set_ne true yb];exact hρ e he
   ·have:=hv w2 hw2
    unfold Oper.quietAt at this ⊢;rw[heq];exact this
  | true=>
   have he:i∈es:=(T.es i).2 ⟨hm,hil⟩;have hnone:ρ i=none:=by
    have:=hρ i he;rw[hun]at this;simpa using this
   have tW:∀d,d∈deps i->(ρ d).isSome=true:=by
    intro d hd;obtain⟨hmd,x,hx,hb,hon⟩:=T.deps i oi d hm hoi hd;have dW:=T.low i oi x hoi hx hb;have hld:listed.getD d false=true:=by rw[←hon];exact hall x (by rw[←Mb];exact hx) hb
    rw[hρ d ((T.es d).2 ⟨hmd,by omega⟩)]
    exact qZ hld
   have nZ:=hE.at i he oi hoi ρ w' hw hcl hnone tW _ rfl;have ho2:(bL m l).toArray[i]?=some { oi with op:= .move (.const undef) }:=by simpa using kZ m l i oi hm hoi
   have Fj:∀y,Region.wanted { oi with op:= .move (.const undef) } y=true:=fun y=>by simp[Region.wanted,T.bare i oi hoi]
   unfold qOp at h1;simp only[ho2,Fj,if_true]at h1;obtain⟨v0,hv0,hH,hsz⟩:=h1;have hu:undef=v0:=by
    have:=hv0 w' (eF w');unfold Oper.quietAt at this;rw[BigFrame.run_move (.const undef) rfl]at this;exact this.2
   subst hu;have Jw:∀x,x∈oi.after->Region.binds .any x=true->listed.getD x.on false=true:=fun x hx hb=>hall x (by rw[←Mb];exact hx) hb
   have heq:execOp a.eval oi=execOp (aj l ρ (deps i) aS).eval oi:=by
    refine execOp_congr oi (T.Pc i oi hoi) (fun x hx=>?_)
    cases x with
    | tmp t=>exact T.operand hB (fun t ht=>kY _ _ _ (H w' (hI _ _ hw)) ht) iD hm hoi Jw tW (List.mem_append_left _ (List.mem_filterMap.2 ⟨.tmp t,by simpa using hx,rfl⟩))
    | _=>rfl
   unfold wpList at nZ;rw[if_pos (hwant _)]at nZ;rcases nZ with nZ|⟨_,⟨a2,w2,hx,_⟩⟩
   ·have go:∀v w2,Ak ρ (aj l ρ (deps i) aS) R i oi .normal ((aj l ρ (deps i) aS).put oi.dst v) w2->wpAny P .any l.toArray Q f (listed.setIfInBounds i true) (a.put oi.dst v) w2:=by
     rintro v w2 ⟨_,v2,hput,hR2⟩;have hvv:∀t,oi.dst=some t->v=v2:=fun t ht=>by
      have hlt:t<(aj l ρ (deps i) aS).tmps.size:=by rw[jb,iD];exact T.lt i oi t hoi ht
      have h:=congrArg (fun A=>A.tmps.getD t undef) hput
      simp only[ht]at h;rwa [cJ _ _ _ hlt,cJ _ _ _ hlt]at h
     have hmono:∀k,(ρ k).isSome=true->(upd ρ i v2 k).isSome=true:=fun k hk=>by
      unfold upd;split
      ·rfl
      ·exact hk
     refine ih _ _ _ _ _ hH (by simpa using hs) (fun e he' =>?_) (hB.eff T hm hoi v v2 hvv) (fun j hj hjs d hd=>hmono d ?_) (adN i oi hoi Jw) hR2
     rotate_left
     ·by_cases hji:j=i
      ·subst hji;exact tW d hd
      ·exact hcl j hj (by simpa[upd,hji] using hjs) d hd
     by_cases yb:e=i
     ·subst yb
      simp[upd,hs,hil]
     ·rw[getD_set_ne true (Ne.symm yb)]
      simpa[upd,yb] using hρ e he'
    unfold wpOp;simp only[hl,hwant,if_true];refine .inl ?_
    unfold Oper.wp at nZ ⊢;rw[heq];generalize (execOp (aj l ρ (deps i) aS).eval oi).run P w'=r at nZ ⊢;cases r with
    | ok n w2=>
     cases n with
     | value v=>exact go v w2 nZ
     | skip=>exact go undef w2 nZ
     | defer d=>
      obtain⟨_,v2,hput,_⟩:=nZ;have:=congrArg Act.defers hput;simp[put_defers]at this
     | enter fn args=>
      simp only[Oper.upon]at nZ ⊢;refine nZ.mono fun e w3 h=>?_
      cases e with
      | returned v=>exact go v w3 h
      | panicked c=>obtain⟨hx,_⟩:=h;cases hx
      | outgrown=>obtain⟨a3,w4,hx,_⟩:=h;cases hx
     | row row args=>exact nZ.mono fun v w3 h=>go v w3 h
     | _=>exact nZ.elim
    | halt x w2=>
     cases x with
     | panic v=>obtain⟨hx,_⟩:=nZ;cases hx
     | _=>exact nZ.elim
   ·cases hx
end
def Al (l:List Oper)(m:List Bool)(es:List Nat)(deps:Nat->List Nat)(N:Nat):Bool:=
 (es == (List.range l.length).filter fun e=>m.getD e false) && l.all (fun o=>o.guard.isNone)
 && decide (l.filterMap (·.dst)).Nodup && (l.filterMap (·.dst)).all (fun t=>decide (t<N)) && Region.noSelect l.toArray
 && (List.range l.length).all (fun i=>(l[i]?).all fun o=>o.after.all fun e => !Region.binds .any e || decide (e.on<i))
 && (List.range l.length).all (fun i=>(l[i]?).all fun oi=>(List.range l.length).all fun j=>(l[j]?).all fun oj=>oj.dst.all fun t => !(oi.looksAt l.toArray).contains t ||
   (if m.getD i false then(oi.after.any fun e=>Region.binds .any e && e.on == j) && (!m.getD j false || (deps i).contains j)else !m.getD j false || oj.after.any fun e=>Region.binds .any e && e.on == i))
 && (List.range l.length).all (fun i=>(l[i]?).all fun oi => !m.getD i false || (deps i).all fun d=>m.getD d false && oi.after.any fun e=>Region.binds .any e && e.on == d)
 && Region.lexB .any (bL m l).toArray
theorem Xe {l:List Oper}{m:List Bool}{es:List Nat}{deps:Nat->List Nat}{N:Nat}(hB:Al l m es deps N=true):jW l m es deps N/\Region.lexB .any (bL m l).toArray=true:=by
 simp only[Al,Bool.and_eq_true,decide_eq_true_eq,beq_iff_eq]at hB;obtain⟨⟨⟨⟨⟨⟨⟨⟨h1,h2⟩,h3⟩,h4⟩,h5⟩,h6⟩,h7⟩,h8⟩,h9⟩:=hB;have hlt:∀(i:Nat) (o:Oper),l[i]?=some o->i<l.length:=fun i o h=>(aq5.1 h).1
 have h7' : ∀(i:Nat) (oi:Oper) (j:Nat) (oj:Oper) (t:Tmp),l[i]?=some oi->l[j]?=some oj->oj.dst=some t->t∈oi.looksAt l.toArray ->
   (if m.getD i false then(oi.after.any fun e=>Region.binds .any e && e.on == j) && (!m.getD j false || (deps i).contains j)else !m.getD j false || oj.after.any fun e=>Region.binds .any e && e.on == i)=true:=by
  intro i oi j oj t hoi eH hd ht;have h:=List.all_eq_true.1 h7 i (List.mem_range.2 (hlt i oi hoi));rw[hoi]at h;simp only[Option.all_some]at h;have h:=List.all_eq_true.1 h j (List.mem_range.2 (hlt j oj eH));rw[eH]at h;simp only[Option.all_some,hd,Bool.or_eq_true,Bool.not_eq_true']at h;rcases h with h|h
  ·rw[List.contains_iff_mem.2 ht]at h;cases h
  ·exact h
 refine⟨⟨fun e=>?_,fun i o ho=>?_,fun i j oi oj t hoi eH hd iF=>m9 h3 i j oi oj t hoi eH hd iF,fun i o t ho hd=>?_,fun i o ho cs b=>Region.noSelect_spec h5 i o cs b (by simpa using ho),fun i o e ho he hbe=>?_,
  fun i oi j oj t hm hoi hmj eH hd ht=>?_,fun i oi j oj t hm hoi eH hd ht=>?_,fun i oi d hm hoi hd=>?_⟩,h9⟩
 ·rw[h1];simp[List.mem_filter,and_comm]
 ·have:=List.all_eq_true.1 h2 o (aq7 ho)
  simpa using this
 ·have:=List.all_eq_true.1 h4 t (List.mem_filterMap.2 ⟨o,aq7 ho,hd⟩)
  simpa using this
 ·have h:=List.all_eq_true.1 h6 i (List.mem_range.2 (hlt i o ho))
  rw[ho]at h;simp only[Option.all_some]at h;have:=Array.all_eq_true_iff_forall_mem.1 h e he;rw[hbe]at this;simpa using this
 ·have h:=h7' i oi j oj t hoi eH hd ht
  rw[hm,hmj]at h;simp only[Bool.false_eq_true,if_false,Bool.not_true,Bool.false_or]at h;obtain⟨k,hk,hb⟩:=Array.any_eq_true.1 h;simp only[Bool.and_eq_true,beq_iff_eq]at hb;exact⟨_,Array.getElem_mem hk,hb.1,hb.2⟩
 ·have h:=h7' i oi j oj t hoi eH hd ht
  rw[hm]at h;simp only[if_true,Bool.and_eq_true,Bool.or_eq_true,Bool.not_eq_true']at h;refine⟨?_,fun hj=>?_⟩
  ·obtain⟨k,hk,hb⟩:=Array.any_eq_true.1 h.1
   simp only[Bool.and_eq_true,beq_iff_eq]at hb;exact⟨_,Array.getElem_mem hk,hb.1,hb.2⟩
  ·rcases h.2 with h2|h2
   ·rw[hj]at h2;cases h2
   ·exact List.contains_iff_mem.1 h2
 ·have h:=List.all_eq_true.1 h8 i (List.mem_range.2 (hlt i oi hoi))
  rw[hoi]at h;simp only[Option.all_some,hm,Bool.not_true,Bool.false_or]at h;have h:=List.all_eq_true.1 h d hd;simp only[Bool.and_eq_true]at h;refine⟨h.1,?_⟩;obtain⟨k,hk,hb⟩:=Array.any_eq_true.1 h.2;simp only[Bool.and_eq_true,beq_iff_eq]at hb;exact⟨_,Array.getElem_mem hk,hb.1,hb.2⟩
theorem aT {P:Program}{id:Nat}{Q:Exit->Act->World->Prop}{a:Act}{w:World}{l:List Oper}(m:List Bool)(es:List Nat)(deps:Nat->List Nat)(R:(Nat->Option Value)->World->Prop)(Inv:World->Prop)(aS:Act)
  (hm:P.follows .mixedOrders=true) (hB:Al l m es deps a.tmps.size=true)
  (H:∀W,Inv W->wpQuiet P (bL m l).toArray (fun w' => ∃x:Ext,w'=over W x) (fun a' => a'=aS) (bL m l) a)
  (iD:aS.tmps.size=a.tmps.size) (h0:R (fun _=>none) w) (hI:∀ ρ w,R ρ w->Inv w) (hR:∀ ρ w w',R ρ w->Below w.heap.size w w' -> R ρ w')
  (hE:qY P l es deps aS R es)
  (hQ:∀ ρ w,R ρ w->(∀e,e∈es->(ρ e).isSome=true)->Q .normal (aj l ρ es aS) w):(Code.region id l.toArray true).wp P Q a w:=by
 obtain⟨T,jH⟩:=Xe hB;simp only[Region.lexB,Bool.and_eq_true]at jH;have HH:HQ P (bL m l).toArray aS Inv (bL m l).length (Array.replicate (bL m l).toArray.size false) a:=by
  intro W hW;exact wpAnyQ_lex (C:=fun w' => ∃x:Ext,w'=over W x) (md:= .any) jH.1 (bL m l) 0 _ a (by simp) (by simpa using jH.2) (H W hW)
 refine wp_region_any hm ?_
 have key:=Rl (Q:=Q) T iD hI hR hE hQ _ _ _ a { w with drawn:=w.drawn+1 } (fun _=>none) HH (by simp[eM]) (fun e he=>by
  have:=((T.es e).1 he).2;simp[eM,this]) ⟨rfl,rfl,rfl,fun _ _=>rfl,fun e oe v t _ _ h _=>by cases h⟩ (fun j _ h=>by cases h) (fun j oj _ h=>by
   rw[tV]at h;cases h) (hR _ _ _ h0 (Pure.below ⟨_,iq w⟩))
 rw[eM,T.size]at key;simpa using key
def cN (kn:Nat->Option Value):Nat->List Bool->List Oper->List Oper
 | k,true::m,o::l=>{ o with op:= .move (.const ((kn k).getD undef)),guard:=none }::cN kn (k+1) m l
 | k,false::m,o::l=>o::cN kn (k+1) m l
 | _,[],l=>l
 | _,_::_,[]=>[]
theorem eN (kn:Nat->Option Value):∀(k:Nat)(m:List Bool)(l:List Oper),(cN kn k m l).length=l.length
 | k,true::m,o::l=>by simp[cN,eN kn (k+1) m l]
 | k,false::m,o::l=>by simp[cN,eN kn (k+1) m l]
 | k,[],l=>by simp[cN]
 | k,b::m,[]=>by cases b <;> simp[cN]
theorem nj (kn:Nat->Option Value):∀(k:Nat)(m:List Bool)(l:List Oper)(i:Nat),m.getD i false=false->(cN kn k m l)[i]?=l[i]?
 | k,true::m,o::l,0,h=>by simp at h
 | k,true::m,o::l,i+1,h=>by simpa[cN] using nj kn (k+1) m l i (by simpa using h)
 | k,false::m,o::l,0,h=>by simp[cN]
 | k,false::m,o::l,i+1,h=>by simpa[cN] using nj kn (k+1) m l i (by simpa using h)
 | k,[],l,i,h=>by simp[cN]
 | k,b::m,[],i,h=>by cases b <;> simp[cN]
theorem ld (kn:Nat->Option Value):∀(k:Nat)(m:List Bool)(l:List Oper)(i:Nat)(o:Oper),m.getD i false=true->l[i]?=some o->(cN kn k m l)[i]?=some { o with op:= .move (.const ((kn (k+i)).getD undef)),guard:=none }
 | k,true::m,o::l,0,o',h,h2=>by
  simp at h2;subst h2;simp[cN]
 | k,true::m,o::l,i+1,o',h,h2=>by
  have:=ld kn (k+1) m l i o' (by simpa using h) (by simpa using h2)
  rw[show k+1+i=k+(i+1)by omega]at this
  simpa[cN] using this
 | k,false::m,o::l,0,o',h,h2=>by simp at h
 | k,false::m,o::l,i+1,o',h,h2=>by
  have:=ld kn (k+1) m l i o' (by simpa using h) (by simpa using h2)
  rw[show k+1+i=k+(i+1)by omega]at this
  simpa[cN] using this
 | k,[],l,i,o',h,h2=>by simp at h
 | k,b::m,[],i,o',h,h2=>by simp at h2
def aa6 (ρ:Nat->Option Value)(af:Act)(R:(Nat->Option Value)->World->Prop)(kn:Nat->Option Value)(e:Nat)(o:Oper):Exit->Act->World->Prop:=
 fun x a' w' => x=.normal/\∃v,a'=af.put o.dst v/\(∀u,kn e=some u->v=u)/\R (upd ρ e v) w'
def n9 (P:Program)(l:List Oper)(all:List Nat)(deps:Nat->List Nat)(aS:Act)(R:(Nat->Option Value)->World->Prop)(kn:Nat->Option Value):List Nat->Prop
 | []=>True
 | e::es=>(∀o,l[e]?=some o->∀ ρ w,R ρ w->nh all deps ρ->ρ e=none->(∀d,d∈deps e->(ρ d).isSome=true)->∀af,af=aj l ρ (deps e) aS->wpList P l.toArray (aa6 ρ af R kn e o) [o] af w)/\n9 P l all deps aS R kn es
theorem n9.at {P:Program}{l:List Oper}{all:List Nat}{deps:Nat->List Nat}{aS:Act}{R:(Nat->Option Value)->World->Prop}{kn:Nat->Option Value}:∀ {es:List Nat},n9 P l all deps aS R kn es->∀e,e∈es ->
  ∀o,l[e]?=some o->∀ ρ w,R ρ w->nh all deps ρ->ρ e=none->(∀d,d∈deps e->(ρ d).isSome=true)->∀af,af=aj l ρ (deps e) aS->wpList P l.toArray (aa6 ρ af R kn e o) [o] af w
 | [],_,e,h=>by simp at h
 | e0::es,H,e,h=>by
  rcases List.mem_cons.1 h with h1|h1
  ·subst h1;exact H.1
  ·exact n9.at H.2 e h1
theorem wW {ops ops':Array Oper}{o:Oper}{a b:Act}(hd:∀i:Nat,(ops'[i]?).bind (fun o=>o.dst)=(ops[i]?).bind (fun o=>o.dst))(hs:a.tmps.size=b.tmps.size)(h:∀t,t∈o.looksAt ops->a.tmps.getD t undef=b.tmps.getD t undef) :
  Region.wanted o (yielded ops' b.tmps)=Region.wanted o (yielded ops a.tmps):=by
 unfold Region.wanted;cases hg:o.guard with
 | none=>rfl
 | some gw=>
  obtain⟨g,want⟩:=gw;have hy:yielded ops' b.tmps g=yielded ops a.tmps g:=by
   unfold yielded;rw[hd g];cases ht:(ops[g]?).bind (·.dst)with
   | none=>rfl
   | some t=>
    have h1:=h t (by simp[Oper.looksAt,hg,ht])
    have h2:b.tmps[t]?=a.tmps[t]? := by
     rw[Array.getD_eq_getD_getElem?,Array.getD_eq_getD_getElem?]at h1;rcases Nat.lt_or_ge t a.tmps.size with hlt|hge
     ·have hlt':t<b.tmps.size:=by rw[←hs];exact hlt
      rw[Array.getElem?_eq_getElem hlt,Array.getElem?_eq_getElem hlt']at h1 ⊢;exact congrArg some h1.symm
     ·rw[Array.getElem?_eq_none hge,Array.getElem?_eq_none (by rw[←hs];exact hge)]
    simp only[Option.bind_some,h2]
  simp only[hy]
structure fV (l:List Oper)(m:List Bool)(kn:Nat->Option Value)(es:List Nat)(deps:Nat->List Nat)(N:Nat):Prop where
 es:∀e,e∈es↔(m.getD e false=true/\e<l.length)
 one:∀(i j:Nat) (oi oj:Oper) (t:Tmp),l[i]?=some oi->l[j]?=some oj->oi.dst=some t->oj.dst=some t->i=j
 lt:∀(i:Nat) (o:Oper) (t:Tmp),l[i]?=some o->o.dst=some t->t<N
 Pc:∀(i:Nat) (o:Oper),l[i]?=some o->∀cs b,o.op ≠ .select cs b
 low:∀(i:Nat) (o:Oper) (e:Edge),l[i]?=some o->e∈o.after->e.on<i
 quiet:∀(i:Nat) (oi:Oper) (j:Nat) (oj:Oper) (t:Tmp),m.getD i false=false->l[i]?=some oi->m.getD j false=true->kn j=none->l[j]?=some oj->oj.dst=some t->t ∉ oi.looksAt l.toArray
 waits:∀(i:Nat) (oi:Oper) (j:Nat) (oj:Oper) (t:Tmp),m.getD i false=true->l[i]?=some oi->l[j]?=some oj->oj.dst=some t->t∈oi.looksAt l.toArray->(∃e,e∈oi.after/\Region.binds .any e=true/\e.on=j)/\(m.getD j false=true->j∈deps i)
 deps:∀(i:Nat) (oi:Oper) (d:Nat),m.getD i false=true->l[i]?=some oi->d∈deps i->m.getD d false=true/\∃e,e∈oi.after/\Region.binds .any e=true/\e.on=d
section
variable {P:Program}{l:List Oper}{m:List Bool}{kn:Nat->Option Value}{es:List Nat}{deps:Nat->List Nat}{N:Nat}{Q:Exit->Act->World->Prop}{aS:Act}{R:(Nat->Option Value)->World->Prop}{Inv:World->Prop}
theorem fV.same (T:fV l m kn es deps N){i:Nat}(h:m.getD i false=false):(cN kn 0 m l).toArray[i]?=l.toArray[i]? := by simpa using nj kn 0 m l i h
theorem fV.dst (T:fV l m kn es deps N)(i:Nat):(((cN kn 0 m l).toArray[i]?).bind (·.dst))=((l.toArray[i]?).bind (·.dst)):=by
 cases h:m.getD i false with
 | false=>rw[T.same h]
 | true=>
  cases ho:l[i]? with
  | none=>
   have h1:(cN kn 0 m l)[i]?=none:=by
    rw[List.getElem?_eq_none_iff]at ho ⊢;rw[eN];exact ho
   simp[ho,h1]
  | some o=>simp[ho,ld kn 0 m l i o h ho]
theorem fV.aft (T:fV l m kn es deps N)(i:Nat):(((cN kn 0 m l).toArray[i]?).map (·.after))=((l.toArray[i]?).map (·.after)):=by
 cases h:m.getD i false with
 | false=>rw[T.same h]
 | true=>
  cases ho:l[i]? with
  | none=>
   have h1:(cN kn 0 m l)[i]?=none:=by
    rw[List.getElem?_eq_none_iff]at ho ⊢;rw[eN];exact ho
   simp[ho,h1]
  | some o=>simp[ho,ld kn 0 m l i o h ho]
theorem fV.size (T:fV l m kn es deps N):(cN kn 0 m l).toArray.size=l.length:=by simp[eN]
theorem fV.ready (T:fV l m kn es deps N)(Z:Array Bool):Region.ready .any l.toArray Z=Region.ready .any (cN kn 0 m l).toArray Z:=by
 unfold Region.ready;rw[T.size];have hs:l.toArray.size=l.length:=by simp
 rw[hs];refine List.filter_congr (fun j _=>?_)
 have h:=T.aft j;have e1:∀(x:Option Oper),(x.map fun o=>o.after.all fun e => !Region.binds .any e || Z.getD e.on false)=(x.map (·.after)).map (fun a=>a.all fun e => !Region.binds .any e || Z.getD e.on false):=by intro x;cases x <;> rfl
 rw[e1,e1,h]
theorem fV.back (T:fV l m kn es deps N){i:Nat}{o':Oper}(h:(cN kn 0 m l).toArray[i]?=some o'):∃o,l[i]?=some o/\o.dst=o'.dst/\o.after=o'.after:=by
 have h1:=T.dst i;have h2:=T.aft i;rw[h]at h1 h2;cases ho:l[i]? with
 | none=>simp[ho]at h2
 | some o=>exact⟨o,rfl,by simpa[ho] using h1.symm,by simpa[ho] using h2.symm⟩
theorem fV.aa1 (T:fV l m kn es deps N):Ad (cN kn 0 m l).toArray (cN kn 0 m l).toArray.size N:=
 ⟨fun i j oi oj t _ _ hi hj h1 h2=>by
  obtain⟨pi,gi,di,_⟩:=T.back hi;obtain⟨pj,gj,dj,_⟩:=T.back hj;exact T.one i j pi pj t gi gj (by rw[di];exact h1) (by rw[dj];exact h2),
 fun i o t _ hi h1=>by
  obtain⟨pi,gi,di,_⟩:=T.back hi;exact T.lt i pi t gi (by rw[di];exact h1)⟩
theorem fV.done (T:fV l m kn es deps N){listed:Array Bool}(hs:listed.size=l.length)(h0:Region.ready .any l.toArray listed=[]):∀j,j<l.length->listed.getD j true=true:=by
 intro j;induction j using Nat.strongRecOn with
 | _ j ih=>
  intro hj;cases hl:listed.getD j true with
  | true=>rfl
  | false=>
   have:j∈Region.ready .any l.toArray listed:=by
    refine mem_ready.2 ⟨hl,l[j],by simp[hj],fun e he hb=>?_⟩
    have dW:=T.low j _ e (aq8 hj) he;cases hx:listed.getD e.on false with
    | true=>rfl
    | false=>
     have h1:=ih e.on dW (by omega)
     have h2:=getD_in (by omega:e.on<listed.size) hx
     rw[h1]at h2;cases h2
   rw[h0]at this;cases this
structure iI (l:List Oper)(m:List Bool)(kn:Nat->Option Value)(ρ:Nat->Option Value)(N:Nat)(b a:Act):Prop where
 sb:b.tmps.size=N
 sa:a.tmps.size=N
 df:a.defers=b.defers
 q:∀t,(∀(e:Nat) (oe:Oper),m.getD e false=true->kn e=none->l[e]?=some oe->oe.dst≠some t)->a.tmps.getD t undef=b.tmps.getD t undef
 e:∀(e:Nat) (oe:Oper) (v:Value) (t:Tmp),m.getD e false=true->l[e]?=some oe->ρ e=some v->oe.dst=some t->a.tmps.getD t undef=v
theorem iI.quiet (T:fV l m kn es deps N){ρ:Nat->Option Value}{b a:Act}(h:iI l m kn ρ N b a){i:Nat}{oi:Oper}(hi:m.getD i false=false)(hoi:l[i]?=some oi)(v:Value):iI l m kn ρ N (b.put oi.dst v) (a.put oi.dst v):=by
 refine⟨by rw[dN];exact h.sb,by rw[dN];exact h.sa,by rw[put_defers,put_defers];exact h.df,fun t ht=>?_,fun e oe u t he jR hu ht=>?_⟩
 ·by_cases hd:oi.dst=some t
  ·have hlt:=T.lt i oi t hoi hd
   rw[hd,cJ _ _ _ (by rw[h.sa];exact hlt),cJ _ _ _ (by rw[h.sb];exact hlt)]
  ·rw[b9 _ _ _ _ hd,b9 _ _ _ _ hd];exact h.q t ht
 ·have hd:oi.dst≠some t:=fun hd=>by
   have:=T.one i e oi oe t hoi jR hd ht;subst this;rw[hi]at he;cases he
  rw[b9 _ _ _ _ hd];exact h.e e oe u t he jR hu ht
theorem iI.eff (T:fV l m kn es deps N){ρ:Nat->Option Value}{b a:Act}(h:iI l m kn ρ N b a){i:Nat}{oi:Oper}(hi:m.getD i false=true)(hoi:l[i]?=some oi)(v v2:Value)(hv:∀t,oi.dst=some t->v=v2)(hk:∀u,kn i=some u->v2=u):iI l m kn (upd ρ i v2) N (b.put oi.dst ((kn i).getD undef)) (a.put oi.dst v):=by
 refine⟨by rw[dN];exact h.sb,by rw[dN];exact h.sa,by rw[put_defers,put_defers];exact h.df,fun t ht=>?_,fun e oe u t he jR hu ht=>?_⟩
 ·by_cases hd:oi.dst=some t
  ·have hlt:=T.lt i oi t hoi hd
   rw[hd,cJ _ _ _ (by rw[h.sa];exact hlt),cJ _ _ _ (by rw[h.sb];exact hlt)]
   cases hki:kn i with
   | none=>exact absurd hd (ht i oi hi hki hoi)
   | some u=>rw[hv t hd,hk u hki];rfl
  ·rw[b9 _ _ _ _ hd,b9 _ _ _ _ hd];exact h.q t ht
 ·by_cases yb:e=i
  ·subst yb
   have hoo:oe=oi:=aq9 (jR.symm.trans hoi);subst hoo;have hlt:=T.lt e oe t hoi ht;have hu2:v2=u:=by simpa[upd] using hu
   rw[ht,cJ _ _ _ (by rw[h.sa];exact hlt),←hu2]
   exact hv t ht
  ·have hd:oi.dst≠some t:=fun hd=>yb (T.one e i oe oi t jR hoi ht hd)
   rw[b9 _ _ _ _ hd];exact h.e e oe u t he jR (by simpa[upd,yb] using hu) ht
theorem iI.last (T:fV l m kn es deps N){ρ:Nat->Option Value}{a:Act}(h:iI l m kn ρ N aS a)(hall:∀e,e∈es->(ρ e).isSome=true):a=aj l ρ es aS:=by
 refine Jv (by rw[jb,h.sa,h.sb]) (fun t=>?_) (by rw[lV];exact h.df)
 by_cases hx:∃(e:Nat) (oe:Oper),m.getD e false=true/\l[e]?=some oe/\oe.dst=some t
 ·obtain⟨e,oe,he,jR,ht⟩:=hx
  have hlt:e<l.length:=(aq5.1 jR).1;have hes:e∈es:=(T.es e).2 ⟨he,hlt⟩;obtain⟨v,hv⟩:=aq6.1 (hall e hes);rw[h.e e oe v t he jR hv ht,ni (d:=e) es aS hes (by simp[aM,jR,ht]) (by rw[h.sb];exact T.lt e oe t jR ht) (fun d' iF=>by
   unfold aM at iF;cases qg:l[d']? with
   | none=>simp[qg]at iF
   | some od=>exact T.one d' e od oe t qg jR (by simpa[qg] using iF) ht),hv]
  rfl
 ·have hno:∀(e:Nat) (oe:Oper),m.getD e false=true->l[e]?=some oe->oe.dst≠some t:=fun e oe he jR ht=>hx ⟨e,oe,he,jR,ht⟩
  rw[h.q t (fun e oe he _ jR=>hno e oe he jR),fC es aS (fun d hd ht=>by
   have h1:=(T.es d).1 hd;have h2:l[d]?=some l[d]:=aq8 h1.2;exact hno d _ h1.1 h2 (by simpa[aM,h2] using ht))]
theorem fV.operand (T:fV l m kn es deps N){ρ:Nat->Option Value}{listed:Array Bool}{b a:Act}(hB:iI l m kn ρ N b a)
  (hk:∀t,(∀(j:Nat) (o:Oper),(cN kn 0 m l).toArray[j]?=some o->listed.getD j true=false->o.dst≠some t)->aS.tmps.getD t undef=b.tmps.getD t undef) (iD:aS.tmps.size=N)
  {e:Nat} {oe:Oper} (he:m.getD e false=true) (jR:l[e]?=some oe) (hall:∀x,x∈oe.after->Region.binds .any x=true->listed.getD x.on false=true) (hρ:∀d,d∈deps e->(ρ d).isSome=true)
  {t:Tmp} (ht:t∈oe.looksAt l.toArray):a.tmps.getD t undef=(aj l ρ (deps e) aS).tmps.getD t undef:=by
 have hdd:∀d,d∈deps e->aM l d=some t->∃od,l[d]?=some od/\od.dst=some t:=by
  intro d _ h;unfold aM at h;cases qg:l[d]? with
  | none=>simp[qg]at h
  | some od=>exact⟨od,rfl,by simpa[qg] using h⟩
 by_cases hx:∃(j:Nat) (oj:Oper),l[j]?=some oj/\oj.dst=some t
 ·obtain⟨j,oj,eH,hd⟩:=hx
  obtain⟨⟨x,hxa,hb,hon⟩,aa2⟩:=T.waits e oe j oj t he jR eH hd ht;have hl:listed.getD j false=true:=by rw[←hon];exact hall x hxa hb
  cases hm:m.getD j false with
  | true=>
   have hj:=aa2 hm;obtain⟨v,hv⟩:=aq6.1 (hρ j hj);rw[hB.e j oj v t hm eH hv hd,ni (d:=j) (deps e) aS hj (by simp[aM,eH,hd]) (by rw[iD];exact T.lt j oj t eH hd) (fun d' iF=>by
    unfold aM at iF;cases qg:l[d']? with
    | none=>simp[qg]at iF
    | some od=>exact T.one d' j od oj t qg eH (by simpa[qg] using iF) hd),hv]
   rfl
  | false=>
   rw[hB.q t (fun e' oe' he' _ Fi h=>by
    have:=T.one e' j oe' oj t Fi eH h hd;subst this;rw[hm]at he';cases he'),fC (deps e) aS (fun d iF h=>by
    obtain⟨od,qg,hdt⟩:=hdd d iF h;have:=T.one d j od oj t qg eH hdt hd;subst this;have:=(T.deps e oe d he jR iF).1;rw[hm]at this;cases this)]
   exact(hk t (fun i o hi hl' iF=>by
    obtain⟨oi,hoi,hdi,_⟩:=T.back hi;have:=T.one i j oi oj t hoi eH (by rw[hdi];exact iF) hd
    subst this;rw[getD_both hl']at hl;cases hl)).symm
 ·have hno:∀(j:Nat) (oj:Oper),l[j]?=some oj->oj.dst≠some t:=fun j oj eH hd=>hx ⟨j,oj,eH,hd⟩
  rw[hB.q t (fun e' oe' _ _ Fi=>hno e' oe' Fi),fC (deps e) aS (fun d iF h=>by
   obtain⟨od,qg,hdt⟩:=hdd d iF h;exact hno d od qg hdt)]
  exact(hk t (fun i o hi _ iF=>by
   obtain⟨oi,hoi,hdi,_⟩:=T.back hi;exact hno i oi hoi (by rw[hdi];exact iF))).symm
theorem Mc (T:fV l m kn es deps N)(iD:aS.tmps.size=N)(hI:∀ ρ w,R ρ w->Inv w)(hR:∀ ρ w w',R ρ w->Below w.heap.size w w' -> R ρ w')(hE:n9 P l es deps aS R kn es)
  (hQ:∀ ρ w,R ρ w->(∀e,e∈es->(ρ e).isSome=true)->Q .normal (aj l ρ es aS) w) :
  ∀(f:Nat) (listed:Array Bool) (b a:Act) (w':World) (ρ:Nat->Option Value),HQ P (cN kn 0 m l).toArray aS Inv f listed b->listed.size=l.length->(∀e,e∈es->(ρ e).isSome=listed.getD e true) ->
   iI l m kn ρ N b a->nh es deps ρ->R ρ w' -> wpAny P .any l.toArray Q f listed a w' := by
 have fin:∀(listed:Array Bool) (b a:Act) (w':World) (ρ:Nat->Option Value),listed.size=l.length->(∀e,e∈es->(ρ e).isSome=listed.getD e true)->iI l m kn ρ N b a->R ρ w' -> Region.ready .any l.toArray listed=[]->b=aS->Q .normal a w' := by
  intro listed b a w' ρ hs hρ hB hw h0 e;subst e;have hdone:=T.done hs h0;have hall:∀e,e∈es->(ρ e).isSome=true:=fun e he=>by rw[hρ e he];exact hdone e ((T.es e).1 he).2
  rw[hB.last T hall];exact hQ ρ w' hw hall
 intro f;induction f with
 | zero=>
  intro listed b a w' ρ H hs hρ hB hcl hw;have h:=H w' (hI _ _ hw);have h0:Region.ready .any l.toArray listed=[]:=by rw[T.ready];exact h.1
  exact⟨h0,fin listed b a w' ρ hs hρ hB hw h0 h.2⟩
 | succ f ih=>
  intro listed b a w' ρ H hs hρ hB hcl hw;refine⟨fun h0=>fin listed b a w' ρ hs hρ hB hw h0 ((H w' (hI _ _ hw)).1 (by rw[←T.ready];exact h0)),fun i hi=>?_⟩
  rw[T.ready]at hi;have h1:=HQ.step T.aa1 hB.sb H hi w' (hI _ _ hw);obtain⟨hun,o',ho',hall⟩:=mem_ready.1 hi;obtain⟨oi,hoi,aha,Mb⟩:=T.back ho';have hil:i<l.length:=(aq5.1 hoi).1;have hl:l.toArray[i]?=some oi:=by simpa using hoi
  cases hm:m.getD i false with
  | false=>
   have ho2:(cN kn 0 m l).toArray[i]?=some oi:=by rw[T.same hm];exact hl
   have rI:∀t,t∈oi.looksAt l.toArray->a.tmps.getD t undef=b.tmps.getD t undef:=fun t ht=>hB.q t (fun e oe he Rm jR hd=>T.quiet i oi e oe t hm hoi he Rm jR hd ht)
   have hwq:=wW (ops:=l.toArray) (ops' := (cN kn 0 m l).toArray) (o:=oi) (a:=a) (b:=b) T.dst (by rw[hB.sa,hB.sb]) rI
   have hes:∀e,e∈es->(ρ e).isSome=(listed.setIfInBounds i true).getD e true:=fun e he=>by
    have yb:i≠e:=fun h=>by
     subst h;have:=((T.es i).1 he).1;rw[hm]at this;cases this
    rw[getD_set_ne true yb];exact hρ e he
   unfold qOp at h1;simp only[ho2]at h1;unfold wpOp;simp only[hl];rw[hwq]at h1;by_cases hw2:Region.wanted oi (yielded l.toArray a.tmps)=true
   ·rw[if_pos hw2]at h1 ⊢
    obtain⟨v,hv,hH,hsz⟩:=h1;have heq:execOp a.eval oi=execOp b.eval oi:=by
     refine execOp_congr oi (T.Pc i oi hoi) (fun x hx=>?_)
     cases x with
     | tmp t=>exact rI t (List.mem_append_left _ (List.mem_filterMap.2 ⟨.tmp t,by simpa using hx,rfl⟩))
     | _=>rfl
    refine .inl (Oper.wp_of_quiet (C:=fun w2=>∃x:Ext,w2=over w' x) (K:=fun a' => a'=a.put oi.dst v) (eF w') (fun a2 w2 hw2 e=>?_) ⟨v,fun w2 hw2=>?_,rfl⟩)
    ·subst e
     exact ih _ _ _ _ _ hH (by simpa using hs) hes (hB.quiet T hm hoi v) hcl (hR _ _ _ hw (Pure.below hw2))
    ·have:=hv w2 hw2
     unfold Oper.quietAt at this ⊢;rw[heq];exact this
   ·rw[if_neg hw2]at h1 ⊢
    exact ih _ _ _ _ _ h1.1 (by simpa using hs) hes (hB.quiet T hm hoi undef) hcl hw
  | true=>
   have he:i∈es:=(T.es i).2 ⟨hm,hil⟩;have hnone:ρ i=none:=by
    have:=hρ i he;rw[hun]at this;simpa using this
   have tW:∀d,d∈deps i->(ρ d).isSome=true:=by
    intro d hd;obtain⟨hmd,x,hx,hb,hon⟩:=T.deps i oi d hm hoi hd;have dW:=T.low i oi x hoi hx;have hld:listed.getD d false=true:=by rw[←hon];exact hall x (by rw[←Mb];exact hx) hb
    rw[hρ d ((T.es d).2 ⟨hmd,by omega⟩)]
    exact qZ hld
   have nZ:=hE.at i he oi hoi ρ w' hw hcl hnone tW _ rfl;have ho2:(cN kn 0 m l).toArray[i]?=some { oi with op:= .move (.const ((kn i).getD undef)),guard:=none }:=by simpa using ld kn 0 m l i oi hm hoi
   have Fj:∀y,Region.wanted { oi with op:= .move (.const ((kn i).getD undef)),guard:=none } y=true:=fun y=>by simp[Region.wanted]
   unfold qOp at h1;simp only[ho2,Fj,if_true]at h1;obtain⟨v0,hv0,hH,hsz⟩:=h1;have hu:(kn i).getD undef=v0:=by
    have:=hv0 w' (eF w');unfold Oper.quietAt at this;rw[BigFrame.run_move (.const ((kn i).getD undef)) rfl]at this;exact this.2
   subst hu;have Jw:∀x,x∈oi.after->Region.binds .any x=true->listed.getD x.on false=true:=fun x hx hb=>hall x (by rw[←Mb];exact hx) hb
   have rI:∀t,t∈oi.looksAt l.toArray->a.tmps.getD t undef=(aj l ρ (deps i) aS).tmps.getD t undef:=fun t ht=>T.operand hB (fun t ht=>kY _ _ _ (H w' (hI _ _ hw)) ht) iD hm hoi Jw tW ht
   have heq:execOp a.eval oi=execOp (aj l ρ (deps i) aS).eval oi:=by
    refine execOp_congr oi (T.Pc i oi hoi) (fun x hx=>?_)
    cases x with
    | tmp t=>exact rI t (List.mem_append_left _ (List.mem_filterMap.2 ⟨.tmp t,by simpa using hx,rfl⟩))
    | _=>rfl
   have hwq:=wW (ops:=l.toArray) (ops' := l.toArray) (o:=oi) (a:=a) (b:=aj l ρ (deps i) aS) (fun _=>rfl) (by rw[hB.sa,jb,iD]) rI
   have go:∀v w2,aa6 ρ (aj l ρ (deps i) aS) R kn i oi .normal ((aj l ρ (deps i) aS).put oi.dst v) w2->wpAny P .any l.toArray Q f (listed.setIfInBounds i true) (a.put oi.dst v) w2:=by
    rintro v w2 ⟨_,v2,hput,hkv,hR2⟩;have hvv:∀t,oi.dst=some t->v=v2:=fun t ht=>by
     have hlt:t<(aj l ρ (deps i) aS).tmps.size:=by rw[jb,iD];exact T.lt i oi t hoi ht
     have h:=congrArg (fun A=>A.tmps.getD t undef) hput
     simp only[ht]at h;rwa [cJ _ _ _ hlt,cJ _ _ _ hlt]at h
    have hmono:∀k,(ρ k).isSome=true->(upd ρ i v2 k).isSome=true:=fun k hk=>by
     unfold upd;split
     ·rfl
     ·exact hk
    refine ih _ _ _ _ _ hH (by simpa using hs) (fun e he' =>?_) (hB.eff T hm hoi v v2 hvv hkv) (fun j hj hjs d hd=>hmono d ?_) hR2
    rotate_left
    ·by_cases hji:j=i
     ·subst hji;exact tW d hd
     ·exact hcl j hj (by simpa[upd,hji] using hjs) d hd
    by_cases yb:e=i
    ·subst yb
     simp[upd,hs,hil]
    ·rw[getD_set_ne true (Ne.symm yb)]
     simpa[upd,yb] using hρ e he'
   unfold wpList at nZ;rw[hwq]at nZ;unfold wpOp;simp only[hl];by_cases hw2:Region.wanted oi (yielded l.toArray a.tmps)=true
   ·rw[if_pos hw2]at nZ ⊢
    rcases nZ with nZ|⟨_,⟨a2,w2,hx,_⟩⟩
    ·refine .inl ?_
     unfold Oper.wp at nZ ⊢;rw[heq];generalize (execOp (aj l ρ (deps i) aS).eval oi).run P w'=r at nZ ⊢;cases r with
     | ok n w2=>
      cases n with
      | value v=>exact go v w2 nZ
      | skip=>exact go undef w2 nZ
      | defer d=>
       obtain⟨_,v2,hput,_⟩:=nZ;have:=congrArg Act.defers hput;simp[put_defers]at this
      | enter fn args=>
       simp only[Oper.upon]at nZ ⊢;refine nZ.mono fun e w3 h=>?_
       cases e with
       | returned v=>exact go v w3 h
       | panicked c=>obtain⟨hx,_⟩:=h;cases hx
       | outgrown=>obtain⟨a3,w4,hx,_⟩:=h;cases hx
      | row row args=>exact nZ.mono fun v w3 h=>go v w3 h
      | _=>exact nZ.elim
     | halt x w2=>
      cases x with
      | panic v=>obtain⟨hx,_⟩:=nZ;cases hx
      | _=>exact nZ.elim
    ·cases hx
   ·rw[if_neg hw2]at nZ ⊢
    exact go undef w' nZ
end
def Fk (l:List Oper)(m:List Bool)(kn:Nat->Option Value)(es:List Nat)(deps:Nat->List Nat)(N:Nat):Bool:=
 (es == (List.range l.length).filter fun e=>m.getD e false)
 && decide (l.filterMap (·.dst)).Nodup && (l.filterMap (·.dst)).all (fun t=>decide (t<N)) && Region.noSelect l.toArray
 && (List.range l.length).all (fun i=>(l[i]?).all fun o=>o.after.all fun e=>decide (e.on<i))
 && (List.range l.length).all (fun i=>(l[i]?).all fun oi=>(List.range l.length).all fun j=>(l[j]?).all fun oj=>oj.dst.all fun t => !(oi.looksAt l.toArray).contains t ||
   (if m.getD i false then(oi.after.any fun e=>Region.binds .any e && e.on == j) && (!m.getD j false || (deps i).contains j)else !m.getD j false || (kn j).isSome))
 && (List.range l.length).all (fun i=>(l[i]?).all fun oi => !m.getD i false || (deps i).all fun d=>m.getD d false && oi.after.any fun e=>Region.binds .any e && e.on == d)
 && Region.lexB .any (cN kn 0 m l).toArray
theorem Rn {l:List Oper}{m:List Bool}{kn:Nat->Option Value}{es:List Nat}{deps:Nat->List Nat}{N:Nat}(hB:Fk l m kn es deps N=true):fV l m kn es deps N/\Region.lexB .any (cN kn 0 m l).toArray=true:=by
 simp only[Fk,Bool.and_eq_true,decide_eq_true_eq,beq_iff_eq]at hB;obtain⟨⟨⟨⟨⟨⟨⟨h1,h3⟩,h4⟩,h5⟩,h6⟩,h7⟩,h8⟩,h9⟩:=hB;have hlt:∀(i:Nat) (o:Oper),l[i]?=some o->i<l.length:=fun i o h=>(aq5.1 h).1
 have h7' : ∀(i:Nat) (oi:Oper) (j:Nat) (oj:Oper) (t:Tmp),l[i]?=some oi->l[j]?=some oj->oj.dst=some t->t∈oi.looksAt l.toArray ->
   (if m.getD i false then(oi.after.any fun e=>Region.binds .any e && e.on == j) && (!m.getD j false || (deps i).contains j)else !m.getD j false || (kn j).isSome)=true:=by
  intro i oi j oj t hoi eH hd ht;have h:=List.all_eq_true.1 h7 i (List.mem_range.2 (hlt i oi hoi));rw[hoi]at h;simp only[Option.all_some]at h;have h:=List.all_eq_true.1 h j (List.mem_range.2 (hlt j oj eH));rw[eH]at h;simp only[Option.all_some,hd,Bool.or_eq_true,Bool.not_eq_true']at h;rcases h with h|h
  ·rw[List.contains_iff_mem.2 ht]at h;cases h
  ·exact h
 refine⟨⟨fun e=>?_,fun i j oi oj t hoi eH hd iF=>m9 h3 i j oi oj t hoi eH hd iF,fun i o t ho hd=>?_,fun i o ho cs b=>Region.noSelect_spec h5 i o cs b (by simpa using ho),fun i o e ho he=>?_,
  fun i oi j oj t hm hoi hmj hkj eH hd ht=>?_,fun i oi j oj t hm hoi eH hd ht=>?_,fun i oi d hm hoi hd=>?_⟩,h9⟩
 ·rw[h1];simp[List.mem_filter,and_comm]
 ·have:=List.all_eq_true.1 h4 t (List.mem_filterMap.2 ⟨o,aq7 ho,hd⟩)
  simpa using this
 ·have h:=List.all_eq_true.1 h6 i (List.mem_range.2 (hlt i o ho))
  rw[ho]at h;simp only[Option.all_some]at h;have:=Array.all_eq_true_iff_forall_mem.1 h e he;simpa using this
 ·have h:=h7' i oi j oj t hoi eH hd ht
  rw[hm,hmj,hkj]at h;simp at h
 ·have h:=h7' i oi j oj t hoi eH hd ht
  rw[hm]at h;simp only[if_true,Bool.and_eq_true,Bool.or_eq_true,Bool.not_eq_true']at h;refine⟨?_,fun hj=>?_⟩
  ·obtain⟨k,hk,hb⟩:=Array.any_eq_true.1 h.1
   simp only[Bool.and_eq_true,beq_iff_eq]at hb;exact⟨_,Array.getElem_mem hk,hb.1,hb.2⟩
  ·rcases h.2 with h2|h2
   ·rw[hj]at h2;cases h2
   ·exact List.contains_iff_mem.1 h2
 ·have h:=List.all_eq_true.1 h8 i (List.mem_range.2 (hlt i oi hoi))
  rw[hoi]at h;simp only[Option.all_some,hm,Bool.not_true,Bool.false_or]at h;have h:=List.all_eq_true.1 h d hd;simp only[Bool.and_eq_true]at h;refine⟨h.1,?_⟩;obtain⟨k,hk,hb⟩:=Array.any_eq_true.1 h.2;simp only[Bool.and_eq_true,beq_iff_eq]at hb;exact⟨_,Array.getElem_mem hk,hb.1,hb.2⟩
theorem dG {P:Program}{id:Nat}{Q:Exit->Act->World->Prop}{a:Act}{w:World}{l:List Oper}(m:List Bool)(kn:Nat->Option Value)(es:List Nat)(deps:Nat->List Nat)(R:(Nat->Option Value)->World->Prop)(Inv:World->Prop)(aS:Act)
  (hm:P.follows .mixedOrders=true) (hB:Fk l m kn es deps a.tmps.size=true)
  (H:∀W,Inv W->wpQuiet P (cN kn 0 m l).toArray (fun w' => ∃x:Ext,w'=over W x) (fun a' => a'=aS) (cN kn 0 m l) a)
  (iD:aS.tmps.size=a.tmps.size) (h0:R (fun _=>none) w) (hI:∀ ρ w,R ρ w->Inv w) (hR:∀ ρ w w',R ρ w->Below w.heap.size w w' -> R ρ w')
  (hE:n9 P l es deps aS R kn es)
  (hQ:∀ ρ w,R ρ w->(∀e,e∈es->(ρ e).isSome=true)->Q .normal (aj l ρ es aS) w):(Code.region id l.toArray true).wp P Q a w:=by
 obtain⟨T,jH⟩:=Rn hB;simp only[Region.lexB,Bool.and_eq_true]at jH;have HH:HQ P (cN kn 0 m l).toArray aS Inv (cN kn 0 m l).length (Array.replicate (cN kn 0 m l).toArray.size false) a:=by
  intro W hW;exact wpAnyQ_lex (C:=fun w' => ∃x:Ext,w'=over W x) (md:= .any) jH.1 (cN kn 0 m l) 0 _ a (by simp) (by simpa using jH.2) (H W hW)
 refine wp_region_any hm ?_
 have key:=Mc (Q:=Q) T iD hI hR hE hQ _ _ _ a { w with drawn:=w.drawn+1 } (fun _=>none) HH (by simp[eN]) (fun e he=>by
  have:=((T.es e).1 he).2;simp[eN,this]) ⟨rfl,rfl,rfl,fun _ _=>rfl,fun e oe v t _ _ h _=>by cases h⟩ (fun j _ h=>by cases h) (hR _ _ _ h0 (Pure.below ⟨_,iq w⟩))
 rw[eN,T.size]at key;simpa using key
end Go.Proofs.YtlpdhhhgckpcfaaGreat
