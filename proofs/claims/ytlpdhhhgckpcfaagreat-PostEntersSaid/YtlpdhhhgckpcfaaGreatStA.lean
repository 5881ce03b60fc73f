/- agW with new blocks laid behind the. -/
import Derived.Test.YtlpdhhhgckpcfaaGreatRows
import Derived.WalkKit
import Derived.WalkLawsBesides
import Derived.WalkSpells
import Derived.OpenShut
import Derived.BigQuiet
import Derived.Deep.QuietTactic
import Derived.Lib.Hide
import Derived.StillTail
import Derived.Deep.Cut
import Derived.Laws.MakeOwn
namespace Go.Proofs.YtlpdhhhgckpcfaaGreat
set_option linter.unusedSimpArgs false
set_option linter.unusedVariables false

theorem aq3 {p:Prop} (h:p) : Go.RowKit.Hid p := Lib.hid h
theorem aq4 {α:Type} {a:α} {l:List α} (h:a ∈ l) : ∃ i : Nat, l[i]? = some a := List.getElem?_of_mem h
theorem aq5 {α:Type} {a:α} {i:Nat} {l:List α} : l[i]? = some a ↔ ∃ h : i < l.length, l[i] = a := List.getElem?_eq_some_iff
theorem aq6 {α:Type} {x:Option α} : x.isSome ↔ ∃ a, x = some a := Option.isSome_iff_exists
theorem aq7 {α:Type} {l:List α} {i:Nat} {a:α} (e:l[i]? = some a) : a ∈ l := List.mem_of_getElem? e
theorem aq8 {α:Type} {l:List α} {i:Nat} (h:i < l.length) : l[i]? = some l[i] := List.getElem?_eq_getElem h
theorem aq9 {α:Type} {a b:α} (h:some a = some b) : a = b := Option.some.inj h
theorem ara : (∀ (α : Type) (a : α) (l : List α) (i : Nat), (a :: l)[i + 1]? = l[i]?) ∧ (∀ (α : Type) (a : α) (l : List α), (a :: l)[0]? = some a) ∧ (∀ (α β : Type) (a : α) (f : α → Option β), (some a).bind f = f a) ∧ (∀ (α β : Type) (f : α → Option β), (none : Option α).bind f = none) ∧ (∀ (α : Type) (l : List α) (i : Nat) (a : α), l.toArray.setIfInBounds i a = (l.set i a).toArray) ∧ (∀ (α : Type) (a b : α) (l : List α), (a :: l).set 0 b = b :: l) ∧ (∀ (α : Type) (a b : α) (l : List α) (i : Nat), (a :: l).set (i + 1) b = a :: l.set i b) := ⟨fun _ _ _ _ => List.getElem?_cons_succ, fun _ _ _ => List.getElem?_cons_zero, fun _ _ _ _ => rfl, fun _ _ _ => rfl, fun _ l i a => List.setIfInBounds_toArray l i a, fun _ _ _ _ => rfl, fun _ _ _ _ _ => rfl⟩
open Go.RowKit
structure Ext where
 Wu:Array Obj
 num:Nat
instance:Inhabited Ext:=⟨⟨#[],0⟩⟩
def over (w:World)(x:Ext):World:={ w with heap:=w.heap++x.Wu,drawn:=x.num }
def Pure (w w':World):Prop:=∃x:Ext,w'=over w x
def past (w:World)(x:Ext)(a:Addr):Option Value:=if w.heap.size<=a.block then(over w x).cell? a else none
theorem pS {w:World}{x:Ext}{k:Nat}(h:k<w.heap.size):(over w x).heap[k]?=w.heap[k]? := by
 show(w.heap++x.Wu)[k]?=_
 rw[Array.getElem?_append,if_pos h]
theorem cell?_over (w:World)(x:Ext)(a:Addr):(over w x).cell? a=(w.cell? a).or (past w x a):=by
 unfold past;by_cases h:w.heap.size<=a.block
 ·have e:w.cell? a=none:=by
   unfold World.cell?;rw[Array.getElem?_eq_none h]
  rw[if_pos h,e,Option.none_or]
 ·rw[if_neg h,Option.or_none]
  exact World.cell?_of_block (w:=w) (pS (by omega))
theorem wH (w:World)(x:Ext):(over w x).heap.size=w.heap.size+x.Wu.size:=by
 show(w.heap++x.Wu).size=_
 simp
attribute [go_sem] cell?_over
theorem tB (w:World)(x:Ext):Below w.heap.size w (over w x):=
 ⟨rfl,rfl,rfl,by rw[wH];omega,fun _ hk=>pS hk⟩
theorem to_pure {w w':World}(h:Below w.heap.size w w'):Pure w w' := by
 refine⟨⟨w'.heap.extract w.heap.size w'.heap.size,w'.drawn⟩,?_⟩;have hh:w'.heap=w.heap++w'.heap.extract w.heap.size w'.heap.size:=by
  apply Array.ext_getElem?
  intro k;rw[Array.getElem?_append];by_cases hk:k<w.heap.size
  ·rw[if_pos hk];exact h.block k hk
  ·rw[if_neg hk,Array.getElem?_extract]
   have:=h.size;by_cases hk2:k<w'.heap.size
   ·rw[if_pos (by omega)];congr 1;omega
   ·rw[if_neg (by omega)];exact Array.getElem?_eq_none (by omega)
 unfold over;cases w';have h1:=h.os;have h2:=h.tape;have h3:=h.output;simp only at h1 h2 h3 hh ⊢;subst h1 h2 h3;rw[←hh]
theorem Pure.below {w w':World}(h:Pure w w'):Below w.heap.size w w' := by
 obtain⟨x,rfl⟩:=h;exact tB w x
theorem aX {P:Program}{f:FuncId}{args:Array Value}{w:World}{x:Ext}{v:Value}
  (h:Calls P f args (over w x) fun e w' => e=.returned v/\Below (over w x).heap.size (over w x) w'):Calls P f args (over w x) fun e w'' => e=.returned v/\∃y:Ext,w'' = over w y:=
 h.mono fun _ _ ⟨he,hb⟩=>⟨he,to_pure ((tB w x).trans (hb.mono (by rw[wH];omega)))⟩
theorem dz {P:Program}{f:FuncId}{args:Array Value}{w:World}{x:Ext}{v:Value}
  (h:Calls P f args (over w x) fun e w' => e=.returned v/\over w x=w'):Calls P f args (over w x) fun e w'' => e=.returned v/\∃y:Ext,w'' = over w y:=
 h.mono fun _ _ ⟨he,hb⟩=>⟨he,x,hb.symm⟩
theorem iq (w:World):{ w with drawn:=w.drawn+1 }=over w ⟨#[],w.drawn+1⟩:=by
 simp[over]
theorem dA {P:Program}{id:Nat}{Q:Exit->Act->World->Prop}{a:Act}{w:World}{l:List Oper}(hm:P.follows .mixedOrders=true)(hB:Region.lexB .any l.toArray=true)
  (h:wpQuiet P l.toArray (fun w' => ∃x:Ext,w'=over w x) (fun a' => ∀w',Below w.heap.size w w' -> Q .normal a' w') l a):(Code.region id l.toArray true).wp P Q a w:=by
 refine wp_region_quiet (C:=fun w' => ∃x:Ext,w'=over w x) hm hB ⟨_,iq w⟩ ?_
 have e:(fun a' => ∀w',(∃x:Ext,w'=over w x)->Q .normal a' w')=fun a' => ∀w',Below w.heap.size w w' -> Q .normal a' w' := by
  funext a'
  exact propext ⟨fun h w' hb=>h w' (to_pure hb),fun h w' hx=>h w' (Pure.below hx)⟩
 rw[e];simpa using h
theorem adw {W w1:World}(hb:Below W.heap.size W w1):(∀b o,b<W.heap.size->w1.cell? ⟨b,o,none⟩=W.cell? ⟨b,o,none⟩)/\(∀b o,b<W.heap.size->w1.frozen? ⟨b,o,none⟩=W.frozen? ⟨b,o,none⟩):=
 ⟨fun b o h=>hb.cell (p:=⟨b,o,none⟩) h,fun b o h=>hb.frozen (p:=⟨b,o,none⟩) h⟩
theorem dU (w:World)(o:Obj):(w.alloc o).heap[w.heap.size]?=some o:=by
 show(w.heap.push o)[w.heap.size]?=_
 rw[Array.getElem?_push,if_pos rfl]
theorem ia {w:World}{k:Nat}{o:Obj}(h:w.heap[k]?=some o):k<w.heap.size:=by
 rcases Nat.lt_or_ge k w.heap.size with h' | h'
 ·exact h'
 ·rw[Array.getElem?_eq_none h']at h;cases h
theorem lO {w:World}{k:Nat}{o':Obj}(h:w.heap[k]?=some o')(o:Obj):(w.alloc o).heap[k]?=some o' := by
 rw[Below.heap_alloc _ _ _ (ia h)];exact h
theorem Po {W w':World}{k:Nat}{o:Obj}{B:Nat}(hb:Below B W w')(hk:k<B)(h:W.heap[k]?=some o):w'.heap[k]?=some o:=by
 rw[hb.block k hk];exact h
theorem cE {W w':World}{k:Nat}{o:Obj}(hb:Below W.heap.size W w')(h:W.heap[k]?=some o):w'.heap[k]?=some o:=
 Po hb (ia h) h
theorem bq {w:World}{b:Nat}{cs:Array Value}{T:TypeId}{f:Nat × Nat}(h:w.heap[b]?=some (.cells cs T f)):∀k,w.cell? ⟨b,k,none⟩=cs[k]? := by
 intro k;simp[World.cell?,h]
theorem dK {w:World}{b:Nat}{cs:Array Value}{T:TypeId}(h:w.heap[b]?=some (.cells cs T)):∀k,w.frozen? ⟨b,k,none⟩=false:=by
 intro k;simp[World.frozen?,h]
section
variable {P:Program}{ops:Array Oper}{md:Region.Mode}{C:World->Prop}
def mC (P:Program)(md:Region.Mode)(ops:Array Oper)(C:World->Prop)(n:Nat)(L:Array Bool->Act->Prop):Nat->Array Bool->Act->Prop
 | 0,listed,a=>L listed a
 | f+1,listed,a=>Region.ready md ops listed≠[]/\∀i,i∈Region.ready md ops listed->i<n/\qOp P ops C i (mC P md ops C n L f (listed.setIfInBounds i true)) a
theorem pT {n g:Nat}{L:Array Bool->Act->Prop}{Q':Exit->Act->World->Prop}(hL:∀listed a w,C w->L listed a->wpAny P md ops Q' g listed a w)(f:Nat) :
  ∀(listed:Array Bool) (a:Act) (w:World),C w->mC P md ops C n L f listed a->wpAny P md ops Q' (f+g) listed a w:=by
 induction f with
 | zero=>intro listed a w hw h;rw[Nat.zero_add];exact hL _ _ _ hw h
 | succ f ih=>
  intro listed a w hw h;rw[show f+1+g=(f+g)+1 by omega]
  exact⟨fun h0=>absurd h0 h.1,fun i hi=>wpOp_of_qOp hw (fun a' w' hw' h' => ih _ a' w' hw' h') (h.2 i hi).2⟩
theorem nX {n:Nat}{listed:Array Bool}(hs:Region.sinkB md ops n=true)(hc:Region.chainB md ops n=true)(hn:n<ops.size)(inv:HeadInv md ops n listed){i:Nat}(hin:i<n)
  (hi:i∈Region.ready md ops listed) {j:Nat} (hj:j∈Region.ready md ops listed):j<n:=by
 rcases Nat.lt_or_ge j n with h|h
 ·exact h
 ·exact absurd hj (tail_waits hs hc hn inv _ i rfl hin (mem_ready.1 hi).1 j h)
theorem zC {n i:Nat}{oi:Oper}{v:Value}{L:Array Bool->Act->Prop}(hoi:ops[i]?=some oi)(hsel:∀(j:Nat)(o:Oper) cs b,ops[j]?=some o->o.op ≠ .select cs b)
  (hs:Region.sinkB md ops n=true) (hc:Region.chainB md ops n=true) (hn:n<ops.size) (hin:i<n)
  (hdone:∀listed a,L listed a->∀j,j∈Region.ready md ops listed->n<=j) (f:Nat) :
  ∀(listed:Array Bool) (a:Act),HeadInv md ops n listed ->
   (∀j oj,ops[j]?=some oj->j≠i->listed.getD j true=false->(∀e,e∈oj.after->Region.binds md e=true->e.on≠i)->oi.apart ops oj=true) ->
   i∈Region.ready md ops listed->YieldsIn P ops C oi v a ->
   mC P md ops C n L f (listed.setIfInBounds i true) (a.put oi.dst v)->mC P md ops C n L (f+1) listed a:=by
 induction f with
 | zero=>
  intro listed a inv _ hr hy H;refine⟨fun h0=>(by rw[h0]at hr;cases hr),fun j hj=>⟨nX hs hc hn inv hin hr hj,?_⟩⟩
  by_cases hji:j=i
  ·subst hji;exact hy.qOp hoi H
  ·have h1:=hdone _ _ H j (ready_mono hj hji)
   have h2:=nX hs hc hn inv hin hr hj;omega
 | succ f ih=>
  intro listed a inv hfree hr hy H;refine⟨fun h0=>(by rw[h0]at hr;cases hr),fun j hj=>⟨nX hs hc hn inv hin hr hj,?_⟩⟩
  by_cases hji:j=i
  ·subst hji;exact hy.qOp hoi H
  ·have hjn:=nX hs hc hn inv hin hr hj
   have h1:=(H.2 j (ready_mono hj hji)).2;obtain⟨Pq,oj,eH,hall⟩:=mem_ready.1 hj;have hun:=(mem_ready.1 hr).1;have hnot:∀e,e∈oj.after->Region.binds md e=true->e.on≠i:=by
    intro e he hb heq;have h3:=hall e he hb;rw[heq,getD_both hun]at h3;cases h3
   have h2:=qOp_put eH (hfree j oj eH hji Pq hnot) (fun cs b=>hsel i oi cs b hoi) (fun cs b=>hsel j oj cs b eH) hy h1
   refine qOp_mono (fun a' h3=>ih (listed.setIfInBounds j true) a' (inv.set hj hjn) ?_ (ready_mono hr (Ne.symm hji)) h3.1 ?_) h2
   ·intro k ok hk hki Pr hno
    refine hfree k ok hk hki ?_ hno;by_cases hjk:j=k
    ·subst hjk;exact Pq
    ·rw[getD_set_ne true hjk]at Pr;exact Pr
   ·rw[Array.setIfInBounds_comm _ _ hji]
    exact h3.2
theorem wJ {n g:Nat}{Lq:Act->Prop}(hsel:Region.noSelect ops=true)(hs:Region.sinkB md ops n=true)(hc:Region.chainB md ops n=true)(hn:n<ops.size)(l:List Oper) :
  ∀(k:Nat) (listed:Array Bool) (a:Act),(∀j,j<l.length->l[j]?=ops[k+j]?)->k+l.length=n->HeadInv md ops n listed ->
  Region.lexHead md ops g l.length k listed=true->wpQuiet P ops C Lq l a ->
  mC P md ops C n (fun listed' a' => Region.seqB md ops g n listed'=true/\Lq a') l.length listed a:=by
 induction l with
 | nil=>
  intro k listed a _ hk _ hB h;have:k=n:=by simpa using hk
  subst this;exact⟨by simpa[Region.lexHead] using hB,h⟩
 | cons o l ih=>
  intro k listed a hl hk inv hB h;have h0:ops[k]?=some o:=by simpa using (hl 0 (by simp)).symm
  simp only[List.length_cons,Region.lexHead,Bool.and_eq_true]at hB;obtain⟨⟨hr,hf⟩,hB'⟩:=hB;have hkn:k<n:=by simp only[List.length_cons]at hk;omega
  have hr':k∈Region.ready md ops listed:=by simpa using hr
  have hst:qOp P ops C k (wpQuiet P ops C Lq l) a:=by unfold qOp;simp only[h0];exact h
  obtain⟨v,hy,hK⟩:=yieldsIn_of_qOp h0 hst;refine zC h0 (Region.noSelect_spec hsel) hs hc hn hkn (fun listed' a' hL=>seqB_ready hL.1) l.length listed a inv (Region.free_spec h0 hf) hr' hy ?_
  refine ih (k+1) _ _ (fun j hj=>?_) (by simp only[List.length_cons]at hk;omega) (inv.set hr' hkn) hB' hK
  have:=hl (j+1) (by simp;omega)
  simpa[Nat.add_assoc,Nat.add_comm 1 j] using this
end
theorem tC {P:Program}{id:Nat}{Q:Exit->Act->World->Prop}{a:Act}{w:World}{l:List Oper}(n:Nat)(hm:P.follows .mixedOrders=true)(hB:Region.lexTailB .any l.toArray n=true)
  (h:wpQuiet P l.toArray (fun w' => ∃x:Ext,w'=over w x) (fun a' => ∀w',Below w.heap.size w w' -> wpList P l.toArray Q (l.drop n) a' w') (l.take n) a):(Code.region id l.toArray true).wp P Q a w:=by
 simp only[Region.lexTailB,Bool.and_eq_true,decide_eq_true_eq]at hB;obtain⟨⟨⟨⟨hsel,hn⟩,hs⟩,hc⟩,jH⟩:=hB;have hn':n<l.length:=by simpa using hn
 have htl:(l.take n).length=n:=by simp;omega
 have hdl:(l.drop n).length=l.toArray.size-n:=by simp
 have zD:HeadInv .any l.toArray n (Array.replicate l.toArray.size false):=
  ⟨by simp,fun j oj _ hl=>(by rw[getD_replicate_false]at hl;cases hl),fun t _ ht=>getD_in (by simpa using ht) (getD_replicate_false _ _)⟩
 have H:=wJ (C:=fun w' => ∃x:Ext,w'=over w x) (md:= .any) (g:=l.toArray.size-n) hsel hs hc hn (l.take n) 0 _ a (fun j hj=>by
  have hj':j<n:=by rw[htl]at hj;exact hj
  simp[hj']) (by simpa using htl) zD (by rw[htl];exact jH) h
 refine wp_region_any hm ?_
 have:=pT (Q' := Q) (g:=l.toArray.size-n) (fun listed a' w' hw' hL=>by
  have:=wpAny_of_seq (md:= .any) (Q' := Q) (l.drop n) n listed a' w' (fun j=>by simp[List.getElem?_drop]) (by rw[hdl];exact hL.1) (hL.2 w' (Pure.below hw'))
  rwa [hdl]at this) _ _ _ _ ⟨_,iq w⟩ H
 rw[htl,show n+(l.toArray.size-n)=l.toArray.size by omega]at this
 exact this
theorem eF (w:World):∃x:Ext,w=over w x:=⟨⟨#[],w.drawn⟩,by simp[over]⟩
theorem cM {w:World}{b:Nat}{cs:Array Value}{T:TypeId}{f:Nat × Nat}(h:w.heap[b]?=some (.cells cs T f))(k:Nat)(v:Value):(w.setCell ⟨b,k,none⟩ v).heap[b]?=some (.cells (cs.setIfInBounds k v) T f):=by
 simp[World.setCell,Array.getElem?_modify,h]
theorem dy {w:World}{b b':Nat}{o:Obj}(h:w.heap[b']?=some o)(hne:b' ≠ b)(k:Nat)(v:Value):(w.setCell ⟨b,k,none⟩ v).heap[b']?=some o:=by
 rw[Below.heap_setCell _ _ _ _ hne];exact h
def kI:List Nat->Nat
 | []=>0
 | t::ts=>2 ^ t ||| kI ts
theorem kX (t:Nat)(ts:List Nat):(kI ts).testBit t=true↔t∈ts:=by
 induction ts with
 | nil=>simp[kI]
 | cons a l ih=>
  simp only[kI,Nat.testBit_or,Nat.testBit_two_pow,Bool.or_eq_true,decide_eq_true_eq,ih,List.mem_cons];constructor
  ·rintro (h|h)
   ·exact .inl h.symm
   ·exact .inr h
  ·rintro (h|h)
   ·exact .inl h.symm
   ·exact .inr h
structure Sm where
 wr:Nat
 rd:Nat
 af:Nat
def iV (ops:Array Oper)(o:Oper):Sm:=
 ⟨kI o.dst.toList,kI (o.looksAt ops),kI ((o.after.toList.filter (fun e=>Region.binds .any e)).map (·.on))⟩
theorem xQ {ops:Array Oper}{o:Oper}{k:Nat}:(iV ops o).af.testBit k=true↔∃e,e∈o.after/\Region.binds .any e=true/\e.on=k:=by
 simp only[iV,kX,List.mem_map,List.mem_filter,Array.mem_toList_iff];constructor
 ·rintro ⟨e,⟨h1,h2⟩,h3⟩;exact⟨e,h1,h2,h3⟩
 ·rintro ⟨e,h1,h2,h3⟩;exact⟨e,⟨h1,h2⟩,h3⟩
def xR (k:Nat)(x y:Sm):Bool:=y.af.testBit k || ((x.wr &&& (y.rd ||| y.wr)) == 0 && (y.wr &&& x.rd) == 0)
theorem wK {a b:Nat}(h:(a &&& b)=0)(d:Nat)(ha:a.testBit d=true):b.testBit d=false:=by
 have:=congrArg (·.testBit d) h
 simp only[Nat.testBit_and,ha,Bool.true_and,Nat.zero_testBit]at this;exact this
theorem vC {ops:Array Oper}{x y:Oper}{k:Nat}(h:xR k (iV ops x) (iV ops y)=true):(∃e,e∈y.after/\Region.binds .any e=true/\e.on=k)\/x.apart ops y=true:=by
 simp only[xR,Bool.or_eq_true,Bool.and_eq_true,beq_iff_eq]at h;rcases h with h|⟨h1,h2⟩
 ·exact .inl (xQ.1 h)
 ·right
  unfold Oper.apart;have w1:∀d,x.dst=some d->d ∉ y.looksAt ops/\y.dst≠some d:=by
   intro d hd;have:=wK h1 d (by simp[iV,hd,kX])
   simp only[Nat.testBit_or,Bool.or_eq_false_iff]at this;refine⟨fun hm=>?_,fun hm=>?_⟩
   ·have:=this.1;rw[show(iV ops y).rd=kI (y.looksAt ops)from rfl,(kX _ _).2 hm]at this;cases this
   ·have:=this.2;rw[show(iV ops y).wr=kI y.dst.toList from rfl,(kX _ _).2 (by simp[hm])]at this;cases this
  have w2:∀d,y.dst=some d->d ∉ x.looksAt ops:=by
   intro d hd hm;have:=wK h2 d (by simp[iV,hd,kX])
   rw[show(iV ops x).rd=kI (x.looksAt ops)from rfl,(kX _ _).2 hm]at this;cases this
  cases hx:x.dst with
  | none=>
   cases hy:y.dst with
   | none=>rfl
   | some d=>have:=w2 d hy;simp[this]
  | some d=>
   obtain⟨a1,a2⟩:=w1 d hx;cases hy:y.dst with
   | none=>simp[a1]
   | some d' =>
    have:=w2 d' hy;rw[hy]at a2;have a3:d' ≠ d:=fun he=>a2 (by rw[he])
    simp[a1,this,a3]
def qU (n:Nat):List Sm->Nat->Bool
 | [],_=>true
 | x::rest,k=>(x.af >>> k) == 0 && (if k<n then rest.all (xR k x)else k == n || x.af.testBit (k-1)) && qU n rest (k+1)
def mI (m k:Nat)(listed:Array Bool):Prop:=listed.size=m/\∀j,j<m->listed[j]?=some (decide (j<k))
theorem mI.getD {m k j:Nat}{listed:Array Bool}(h:mI m k listed)(hj:j<m)(b:Bool):listed.getD j b=decide (j<k):=by
 have:=h.2 j hj;simp[Array.getD_eq_getD_getElem?,this]
theorem mI.out {m k j:Nat}{listed:Array Bool}(h:mI m k listed)(hj:m<=j)(b:Bool):listed.getD j b=b:=by
 have:listed[j]?=none:=Array.getElem?_eq_none (by rw[h.1];exact hj)
 simp[Array.getD_eq_getD_getElem?,this]
theorem mI.next {m k:Nat}{listed:Array Bool}(h:mI m k listed)(_hk:k<m):mI m (k+1) (listed.setIfInBounds k true):=by
 refine⟨by simp[h.1],fun j hj=>?_⟩
 rw[Array.getElem?_setIfInBounds];by_cases hjk:k=j
 ·subst hjk;rw[if_pos rfl,if_pos (by rw[h.1];exact hj)];simp
 ·rw[if_neg hjk,h.2 j hj]
  congr 1
  by_cases h1:j<k
  ·simp[h1];omega
  ·simp[h1];omega
theorem mI.zero (m:Nat):mI m 0 (Array.replicate m false):=⟨by simp,fun j hj=>by simp[hj]⟩
theorem Ey {a k:Nat}(h:a >>> k=0)(j:Nat)(hj:a.testBit j=true):j<k:=by
 rcases Nat.lt_or_ge j k with h' | h'
 ·exact h'
 ·have:=congrArg (·.testBit (j-k)) h
  simp only[Nat.testBit_shiftRight,Nat.zero_testBit]at this;rw[show k+(j-k)=j by omega,hj]at this
  cases this
section
variable {l0:List Oper}
theorem pU {k:Nat}{o:Oper}{listed:Array Bool}(hl:mI l0.toArray.size k listed)(ho:l0.toArray[k]?=some o)(h1:((iV l0.toArray o).af >>> k)=0):k∈Region.ready .any l0.toArray listed:=by
 have hk:k<l0.toArray.size:=(Array.getElem?_eq_some_iff.1 ho).1;refine mem_ready.2 ⟨by rw[hl.getD hk];simp,o,ho,fun e he hb=>?_⟩
 have:=Ey h1 e.on (xQ.2 ⟨e,he,hb,rfl⟩);rw[hl.getD (by omega)]
 simpa using this
theorem xS {k:Nat}{o:Oper}{l:List Oper}{listed:Array Bool}(hl:mI l0.toArray.size k listed)(ho:l0.toArray[k]?=some o)(hr:∀j,l[j]?=l0.toArray[k+1+j]?)(h:(l.map (iV l0.toArray)).all (xR k (iV l0.toArray o))=true) :
  Region.free .any l0.toArray listed k=true:=by
 unfold Region.free;rw[ho];simp only[List.all_eq_true,List.mem_range];intro j hj;by_cases h1:j=k
 ·simp[h1]
 by_cases h2:j<k
 ·rw[hl.getD hj];simp[h2]
 ·have h3:=hr (j-(k+1))
  rw[show k+1+(j-(k+1))=j by omega]at h3
  rw[List.all_eq_true]at h;have h4:=h (iV l0.toArray l0.toArray[j]) (List.mem_map.2 ⟨l0.toArray[j],aq7 (by rw[h3];exact Array.getElem?_eq_getElem hj),rfl⟩)
  rw[Array.getElem?_eq_getElem hj];rcases vC h4 with⟨e,he,hb,hk⟩|h5
  ·have:(l0.toArray[j].after.any fun e=>Region.binds .any e && e.on == k)=true:=Array.any_eq_true'.2 ⟨e,he,by simp[hb,hk]⟩
   simp only[this,Bool.true_or,Bool.or_true]
  ·simp only[h5,Bool.or_true]
theorem Ll (l:List Oper):∀(k:Nat)(listed:Array Bool),mI l0.toArray.size k listed->(∀j,l[j]?=l0.toArray[k+j]?)->k+l.length=l0.toArray.size ->
  qU l0.toArray.size (l.map (iV l0.toArray)) k=true->Region.lexFrom .any l0.toArray l.length k listed=true:=by
 induction l with
 | nil=>
  intro k listed hl _ hk _;simp only[List.length_nil,Region.lexFrom,List.isEmpty_iff];refine List.eq_nil_iff_forall_not_mem.2 fun j hj=>?_
  have h1:=(mem_ready.1 hj).1;rcases Nat.lt_or_ge j l0.toArray.size with h|h
  ·rw[hl.getD h]at h1;simp at h1 hk;simp at h;omega
  ·rw[hl.out h]at h1;cases h1
 | cons o l ih=>
  intro k listed hl hr hk h;have ho:l0.toArray[k]?=some o:=by simpa using (hr 0).symm
  have hkn:k<l0.toArray.size:=(Array.getElem?_eq_some_iff.1 ho).1;have hr' : ∀j,l[j]?=l0.toArray[k+1+j]? := fun j=>by have:=hr (j+1);simpa[Nat.add_assoc,Nat.add_comm 1 j] using this
  simp only[List.map_cons,qU,Bool.and_eq_true,beq_iff_eq,if_pos hkn]at h;simp only[List.length_cons,Region.lexFrom,Bool.and_eq_true];refine⟨⟨by simpa using pU hl ho h.1.1,xS hl ho hr' h.1.2⟩,ih (k+1) _ (hl.next hkn) hr' (by simp only[List.length_cons]at hk;omega) h.2⟩
end
def Ps (l:List Oper):Bool:=Region.noSelect l.toArray && qU l.toArray.size (l.map (iV l.toArray)) 0
theorem xT {l:List Oper}(h:Ps l=true):Region.lexB .any l.toArray=true:=by
 simp only[Ps,Bool.and_eq_true]at h;simp only[Region.lexB,Bool.and_eq_true];exact⟨h.1,Ll l 0 _ (mI.zero _) (by simp) (by simp) h.2⟩
section
variable {l0:List Oper}
theorem zE (l:List Oper):∀(n k:Nat)(listed:Array Bool),n<=k->mI l0.toArray.size k listed->(∀j,l[j]?=l0.toArray[k+j]?)->k+l.length=l0.toArray.size ->
  qU n (l.map (iV l0.toArray)) k=true->Region.seqB .any l0.toArray l.length k listed=true:=by
 induction l with
 | nil=>
  intro n k listed _ hl _ hk _;simp only[List.length_nil,Region.seqB,List.isEmpty_iff];refine List.eq_nil_iff_forall_not_mem.2 fun j hj=>?_
  have h1:=(mem_ready.1 hj).1;rcases Nat.lt_or_ge j l0.toArray.size with h|h
  ·rw[hl.getD h]at h1;simp at h1 hk;simp at h;omega
  ·rw[hl.out h]at h1;cases h1
 | cons o l ih=>
  intro n k listed hnk hl hr hk h;have ho:l0.toArray[k]?=some o:=by simpa using (hr 0).symm
  have hkn:k<l0.toArray.size:=(Array.getElem?_eq_some_iff.1 ho).1;have hr' : ∀j,l[j]?=l0.toArray[k+1+j]? := fun j=>by have:=hr (j+1);simpa[Nat.add_assoc,Nat.add_comm 1 j] using this
  simp only[List.map_cons,qU,Bool.and_eq_true,beq_iff_eq]at h;simp only[List.length_cons,Region.seqB,Bool.and_eq_true,decide_eq_true_eq];refine⟨?_,ih n (k+1) _ (by omega) (hl.next hkn) hr' (by simp only[List.length_cons]at hk;omega) h.2⟩
  have hmem:=pU hl ho h.1.1;have ady:∀j,j∈Region.ready .any l0.toArray listed->j=k:=by
   intro j hj;obtain⟨h1,oj,eH,hall⟩:=mem_ready.1 hj;have hjm:j<l0.toArray.size:=(Array.getElem?_eq_some_iff.1 eH).1;rw[hl.getD hjm]at h1;by_cases hjk:j=k
   ·exact hjk
   ·exfalso
    have amq:k<j:=by simp at h1;omega
    have pV:∀(ll:List Oper) (q:Nat),n<q->qU n (ll.map (iV l0.toArray)) q=true->∀i (o':Oper),ll[i]?=some o' -> (iV l0.toArray o').af.testBit (q+i-1)=true:=by
     intro ll;induction ll with
     | nil=>intro q _ _ i o' hi;simp at hi
     | cons o'' ll ihl=>
      intro q hq hB i o' hi;simp only[List.map_cons,qU,Bool.and_eq_true]at hB;cases i with
      | zero=>
       simp at hi;subst hi;have h2:=hB.1.2;rw[if_neg (by omega)]at h2
       simp only[Bool.or_eq_true,beq_iff_eq]at h2;rcases h2 with h2|h2
       ·omega
       ·simpa using h2
      | succ i=>
       have:=ihl (q+1) (by omega) hB.2 i o' (by simpa using hi)
       rwa [show q+1+i-1=q+(i+1)-1 by omega]at this
    have h3:=hr' (j-(k+1));rw[show k+1+(j-(k+1))=j by omega,eH]at h3
    have h4:=pV l (k+1) (by omega) h.2 _ oj h3
    rw[show k+1+(j-(k+1))-1=j-1 by omega]at h4
    obtain⟨e,he,hb,hon⟩:=xQ.1 h4;have h5:=hall e he hb;rw[hon,hl.getD (by omega)]at h5
    simp at h5;omega
  have hnd:(Region.ready .any l0.toArray listed).Nodup:=by unfold Region.ready;exact(List.nodup_range).filter _
  generalize Region.ready .any l0.toArray listed=R at *;match R,hmem,ady,hnd with
  | [a],_,ho1,_=>rw[ho1 a (by simp)]
  | a::b::t,_,ho1,hn1=>
   have e1:=ho1 a (by simp)
   have e2:=ho1 b (by simp)
   subst e1;subst e2;simp at hn1
theorem wL (l:List Oper):∀(n k g f:Nat)(listed:Array Bool),mI l0.toArray.size k listed->(∀j,l[j]?=l0.toArray[k+j]?)->k+l.length=l0.toArray.size->k+f=n->n+g=l0.toArray.size ->
  qU n (l.map (iV l0.toArray)) k=true->Region.lexHead .any l0.toArray g f k listed=true:=by
 induction l with
 | nil=>
  intro n k g f listed hl hr hk hf hg h;have hf0:f=0:=by simp only[List.length_nil]at hk;omega
  have hg0:g=0:=by simp only[List.length_nil]at hk;omega
  subst hf0 hg0;exact zE [] n k listed (by omega) hl hr hk h
 | cons o l ih=>
  intro n k g f listed hl hr hk hf hg h;cases f with
  | zero=>
   have hgl:g=(o::l).length:=by omega
   subst hgl;exact zE (o::l) n k listed (by omega) hl hr hk h
  | succ f=>
   have ho:l0.toArray[k]?=some o:=by simpa using (hr 0).symm
   have hkn:k<l0.toArray.size:=(Array.getElem?_eq_some_iff.1 ho).1;have hr' : ∀j,l[j]?=l0.toArray[k+1+j]? := fun j=>by have:=hr (j+1);simpa[Nat.add_assoc,Nat.add_comm 1 j] using this
   simp only[List.map_cons,qU,Bool.and_eq_true,beq_iff_eq,if_pos (show k<n by omega)]at h
   simp only[Region.lexHead,Bool.and_eq_true];refine⟨⟨by simpa using pU hl ho h.1.1,xS hl ho hr' h.1.2⟩,ih n (k+1) g f _ (hl.next hkn) hr' (by simp only[List.length_cons]at hk;omega) (by omega) hg h.2⟩
end
def zF (n:Nat):List Sm->Nat->Bool
 | [],_=>true
 | _::rest,k=>(if k<n then(rest.take (n-k)).any (fun y=>y.af.testBit k)else true) && zF n rest (k+1)
def tD (n:Nat):List Sm->Nat->Bool
 | [],_=>true
 | x::rest,k=>(decide (k<=n) || x.af.testBit (k-1)) && tD n rest (k+1)
section
variable {l0:List Oper}
theorem zG {j i:Nat}{o:Oper}(ho:l0.toArray[j]?=some o)(h:(iV l0.toArray o).af.testBit i=true):Region.waitsFor .any l0.toArray j i=true:=by
 obtain⟨e,he,hb,hon⟩:=xQ.1 h;unfold Region.waitsFor;rw[ho];exact Array.any_eq_true'.2 ⟨e,he,by simp[hb,hon]⟩
theorem tE (n:Nat)(l:List Oper):∀(k:Nat),(∀j,l[j]?=l0.toArray[k+j]?)->tD n (l.map (iV l0.toArray)) k=true->∀t,k<=t->t<k+l.length->decide (t<=n)=true\/Region.waitsFor .any l0.toArray t (t-1)=true:=by
 induction l with
 | nil=>intro k _ _ t h1 h2;simp at h2;omega
 | cons o l ih=>
  intro k hr h t h1 h2;have ho:l0.toArray[k]?=some o:=by simpa using (hr 0).symm
  have hr' : ∀j,l[j]?=l0.toArray[k+1+j]? := fun j=>by have:=hr (j+1);simpa[Nat.add_assoc,Nat.add_comm 1 j] using this
  simp only[List.map_cons,tD,Bool.and_eq_true,Bool.or_eq_true]at h;by_cases lQ:t=k
  ·subst lQ
   exact h.1.imp id (zG ho)
  ·exact ih (k+1) hr' h.2 t (by omega) (by simp only[List.length_cons]at h2;omega)
theorem wM (n:Nat)(l:List Oper):∀(k:Nat),(∀j,l[j]?=l0.toArray[k+j]?)->zF n (l.map (iV l0.toArray)) k=true->∀i,k<=i->i<n->i<k+l.length->∃j,i<j/\j<=n/\Region.waitsFor .any l0.toArray j i=true:=by
 induction l with
 | nil=>intro k _ _ i h1 _ h2;simp at h2;omega
 | cons o l ih=>
  intro k hr h i h1 hn h2;have hr' : ∀j,l[j]?=l0.toArray[k+1+j]? := fun j=>by have:=hr (j+1);simpa[Nat.add_assoc,Nat.add_comm 1 j] using this
  simp only[List.map_cons,zF,Bool.and_eq_true]at h;by_cases lQ:i=k
  ·subst lQ
   have h3:=h.1;rw[if_pos hn,←List.map_take,List.any_map,List.any_eq_true]at h3;obtain⟨y,hy,hb⟩:=h3;obtain⟨q,hq⟩:=List.mem_iff_getElem?.1 hy;rw[List.getElem?_take]at hq;split at hq
   ·rename_i adz
    have h4:=hr' q;rw[hq]at h4;exact⟨i+1+q,by omega,by omega,zG h4.symm hb⟩
   ·cases hq
  ·exact ih (k+1) hr' h.2 i (by omega) hn (by simp only[List.length_cons]at h2;omega)
end
def tF (l:List Oper)(n:Nat):Bool:=
 Region.noSelect l.toArray && decide (n<l.toArray.size) && qU n (l.map (iV l.toArray)) 0 && zF n (l.map (iV l.toArray)) 0 && tD n (l.map (iV l.toArray)) 0
theorem qV {l:List Oper}{n:Nat}(h:tF l n=true):Region.lexTailB .any l.toArray n=true:=by
 simp only[tF,Bool.and_eq_true,decide_eq_true_eq]at h;obtain⟨⟨⟨⟨h1,h2⟩,h3⟩,h4⟩,h5⟩:=h;simp only[Region.lexTailB,Bool.and_eq_true,decide_eq_true_eq];refine⟨⟨⟨⟨h1,h2⟩,?_⟩,?_⟩,wL l n 0 _ n _ (mI.zero _) (by simp) (by simp) (by omega) (by omega) h3⟩
 ·unfold Region.sinkB
  rw[List.all_eq_true];intro i hi;have hi' := List.mem_range.1 hi;obtain⟨j,a1,a2,a3⟩:=wM n l 0 (by simp) h4 i (by omega) hi' (by simp at h2;omega)
  exact List.any_eq_true.2 ⟨j,List.mem_range.2 (by omega),by simp[a1,a3]⟩
 ·unfold Region.chainB
  rw[List.all_eq_true];intro t ht;have ht' := List.mem_range.1 ht;rw[Bool.or_eq_true];exact tE n l 0 (by simp) h5 t (by omega) (by simp at ht';omega)
theorem bI {P:Program}{id:Nat}{Q:Exit->Act->World->Prop}{a:Act}{w:World}{l:List Oper}(hm:P.follows .mixedOrders=true)(hB:Ps l=true)
  (h:wpQuiet P l.toArray (fun w' => ∃x:Ext,w'=over w x) (fun a' => ∀w',Below w.heap.size w w' -> Q .normal a' w') l a):(Code.region id l.toArray true).wp P Q a w:=
 dA hm (xT hB) h
theorem bQ {P:Program}{id:Nat}{Q:Exit->Act->World->Prop}{a:Act}{w:World}{l:List Oper}(n:Nat)(hm:P.follows .mixedOrders=true)(hB:tF l n=true)
  (h:wpQuiet P l.toArray (fun w' => ∃x:Ext,w'=over w x) (fun a' => ∀w',Below w.heap.size w w' -> wpList P l.toArray Q (l.drop n) a' w') (l.take n) a):(Code.region id l.toArray true).wp P Q a w:=
 tC n hm (qV hB) h
structure aO where
 n:Int
 k:ByteArray
 m:Int
def aO.zero:aO:=⟨0,⟨#[]⟩,0⟩
def oQ (c:aO):List Value:=[.int .u64 c.n,.string c.k,.int .u64 c.m]
def flat (L:List aO):List Value:=L.flatMap oQ
theorem zH (L:List aO):(flat L).length=L.length*3:=by
 induction L with
 | nil=>rfl
 | cons c L ih=>simp only[flat,List.flatMap_cons,List.length_append,List.length_cons]at *;rw[ih];simp[oQ];omega
theorem sW (L:List aO):∀(i:Nat)(c:aO),L[i]?=some c->(flat L)[i*3]?=some (.int .u64 c.n)/\(flat L)[i*3+1]?=some (.string c.k)/\(flat L)[i*3+2]?=some (.int .u64 c.m):=by
 induction L with
 | nil=>intro i c h;simp at h
 | cons d L ih=>
  intro i c h;cases i with
  | zero=>
   simp at h;subst h;simp[flat,oQ]
  | succ i=>
   have h' := ih i c (by simpa using h)
   have e:∀j,(flat (d::L))[(i+1)*3+j]?=(flat L)[i*3+j]? := by
    intro j;show(oQ d++flat L)[(i+1)*3+j]?=_
    rw[List.getElem?_append_right (by simp[oQ];omega)]
    congr 1
    simp[oQ];omega
   refine⟨?_,?_,?_⟩
   ·have:=e 0;simp only[Nat.add_zero]at this;rw[this];exact h'.1
   ·rw[e 1];exact h'.2.1
   ·rw[e 2];exact h'.2.2
theorem zI (L:List aO):∀(i:Nat)(c:aO),(((flat L).set (i*3) (.int .u64 c.n)).set (i*3+1) (.string c.k)).set (i*3+2) (.int .u64 c.m)=flat (L.set i c):=by
 induction L with
 | nil=>intro i c;simp[flat]
 | cons d L ih=>
  intro i c;cases i with
  | zero=>simp[flat,oQ]
  | succ i=>
   have e:∀(l:List Value) (j:Nat) (v:Value),(oQ d++l).set ((i+1)*3+j) v=oQ d++l.set (i*3+j) v:=by
    intro l j v;rw[List.set_append_right _ _ (by simp[oQ];omega)]
    congr 1
    congr 1
    simp[oQ];omega
   have e0:∀(l:List Value) (v:Value),(oQ d++l).set ((i+1)*3) v=oQ d++l.set (i*3) v:=fun l v=>by simpa using e l 0 v
   show(((oQ d++flat L).set ((i+1)*3) _).set ((i+1)*3+1) _).set ((i+1)*3+2) _=oQ d++flat (L.set i c)
   rw[e0,e,e,ih]
def ah (L:List aO)(i:Int):aO:=if 0<=i then(L[i.toNat]?).getD aO.zero else aO.zero
def aP (L:List aO)(i:Int)(c:aO):List aO:=if 0<=i then L.set i.toNat c else L
theorem aY (L:List aO)(i:Int)(c:aO):(aP L i c).length=L.length:=by unfold aP;split <;> simp
structure eI (S:List Nat)(w w':World):Prop where
 os:w'.os=w.os
 tape:w'.tape=w.tape
 output:w'.output=w.output
 size:w.heap.size<=w'.heap.size
 block:∀k,k<w.heap.size->k ∉ S->w'.heap[k]?=w.heap[k]?
theorem eI.refl (S:List Nat)(w:World):eI S w w:=⟨rfl,rfl,rfl,Nat.le_refl _,fun _ _ _=>rfl⟩
theorem eI.trans {S:List Nat}{a b c:World}(h:eI S a b)(k:eI S b c):eI S a c:=
 ⟨k.os.trans h.os,k.tape.trans h.tape,k.output.trans h.output,Nat.le_trans h.size k.size,fun i hi hs=>(k.block i (Nat.lt_of_lt_of_le hi h.size) hs).trans (h.block i hi hs)⟩
theorem eI.mono {S S':List Nat}{a b:World}(h:eI S a b)(hs:∀x,x∈S->x∈S'):eI S' a b:=
 ⟨h.os,h.tape,h.output,h.size,fun k hk hn=>h.block k hk (fun hx=>hn (hs k hx))⟩
theorem eI.of_below {S:List Nat}{a b:World}(h:Below a.heap.size a b):eI S a b:=
 ⟨h.os,h.tape,h.output,h.size,fun k hk _=>h.block k hk⟩
theorem eI.setCell {S:List Nat}{a w:World}(h:eI S a w){p:Addr}(hp:p.block∈S\/a.heap.size<=p.block)(u:Value):eI S a (w.setCell p u):=
 ⟨h.os,h.tape,h.output,by rw[World.size_setCell];exact h.size,fun k hk hn=>by
  rw[Below.heap_setCell _ _ _ _ (fun he=>by subst he;exact hp.elim hn (fun h' => by omega))];exact h.block k hk hn⟩
theorem eI.alloc {S:List Nat}{a w:World}(h:eI S a w)(o:Obj):eI S a (w.alloc o):=
 ⟨h.os,h.tape,h.output,by rw[World.size_alloc];have:=h.size;omega,fun k hk hn=>by
  rw[Below.heap_alloc _ _ _ (by have:=h.size;omega)];exact h.block k hk hn⟩
theorem eI.blk {S:List Nat}{w w':World}{k:Nat}{o:Obj}(h:eI S w w')(hk:w.heap[k]?=some o)(hn:k ∉ S):w'.heap[k]?=some o:=by
 rw[h.block k (ia hk) hn];exact hk
theorem eI.below {S:List Nat}{B:Nat}{a b:World}(h:eI S a b)(hB:B<=a.heap.size)(hs:∀x,x∈S->B<=x):Below B a b:=
 ⟨h.os,h.tape,h.output,h.size,fun k hk=>h.block k (by omega) (fun hx=>by have:=hs k hx;omega)⟩
structure bR (w:World)(bm bc:Nat)(L:List aO)(acc:Int):Prop where
 hm:w.heap[bm]?=some (.cells #[.slice (some ⟨bc,0,none⟩) L.length L.length,.int .u64 acc] 135)
 hc:w.heap[bc]?=some (.cells (flat L).toArray 63)
 ne:bm≠bc
 len:L.length<=1048576
theorem bR.keep {S:List Nat}{w w':World}{bm bc:Nat}{L:List aO}{acc:Int}(h:bR w bm bc L acc)(hg:eI S w w')(h1:bm ∉ S)(h2:bc ∉ S):bR w' bm bc L acc:=
 ⟨hg.blk h.hm h1,hg.blk h.hc h2,h.ne,h.len⟩
theorem bR.same {w w':World}{bm bc:Nat}{L:List aO}{acc:Int}(h:bR w bm bc L acc)(hg:Below w.heap.size w w'):bR w' bm bc L acc:=
 ⟨cE hg h.hm,cE hg h.hc,h.ne,h.len⟩
theorem bR.alloc {w:World}{bm bc:Nat}{L:List aO}{acc:Int}(h:bR w bm bc L acc)(o:Obj):bR (w.alloc o) bm bc L acc:=
 ⟨lO h.hm o,lO h.hc o,h.ne,h.len⟩
theorem bR.count {w:World}{bm bc:Nat}{L:List aO}{acc:Int}(h:bR w bm bc L acc)(a:Int):bR (w.setCell ⟨bm,1,none⟩ (.int .u64 a)) bm bc L a:=by
 refine⟨?_,dy h.hc (Ne.symm h.ne) _ _,h.ne,h.len⟩;have:=cM h.hm 1 (.int .u64 a);simpa using this
theorem bR.cell {w:World}{bm bc:Nat}{L:List aO}{acc:Int}(h:bR w bm bc L acc){i:Nat}{c:aO}(hi:L[i]?=some c) :
  w.cell? ⟨bc,i*3,none⟩=some (.int .u64 c.n)/\w.cell? ⟨bc,i*3+1,none⟩=some (.string c.k)/\w.cell? ⟨bc,i*3+2,none⟩=some (.int .u64 c.m):=by
 have:=sW L i c hi;simpa[bq h.hc] using this
theorem bR.store {w:World}{bm bc:Nat}{L:List aO}{acc:Int}(h:bR w bm bc L acc)(i:Nat)(c:aO) :
  bR (((w.setCell ⟨bc,i*3,none⟩ (.int .u64 c.n)).setCell ⟨bc,i*3+1,none⟩ (.string c.k)).setCell ⟨bc,i*3+2,none⟩ (.int .u64 c.m)) bm bc (L.set i c) acc:=by
 refine⟨?_,?_,h.ne,by simpa using h.len⟩
 ·rw[List.length_set]
  exact dy (dy (dy h.hm h.ne _ _) h.ne _ _) h.ne _ _
 ·have:=cM (cM (cM h.hc (i*3) (.int .u64 c.n)) (i*3+1) (.string c.k)) (i*3+2) (.int .u64 c.m)
  simpa[zI] using this
theorem sX (w:World)(bm bc:Nat)(L:List aO)(acc i:Int)(h:bR w bm bc L acc)(h1:0<=i)(h2:i<L.length) :
  Calls Tryz.prog 88 #[.pointer (some ⟨bm,0,none⟩),.int .i64 i] w fun e w' => e=.returned (.bool true)/\w=w' := by
 have km:=bq h.hm;have hl:=h.len;go_enter Tryz.func88,Tryz.ntmps88
 go_wp2
 go_ret;exact⟨rfl,rfl⟩
theorem Ez (w:World)(bm bc:Nat)(L:List aO)(acc i:Int)(h:bR w bm bc L acc)(h1:i<0\/L.length<=i) :
  Calls Tryz.prog 88 #[.pointer (some ⟨bm,0,none⟩),.int .i64 i] w fun e w' => e=.returned (.bool false)/\w=w' := by
 have km:=bq h.hm;have hl:=h.len;by_cases h2:i<0
 ·clear h1
  go_enter Tryz.func88,Tryz.ntmps88
  go_wp2
  go_ret;exact⟨rfl,rfl⟩
 ·have h3:(L.length:Int)<=i:=by omega
  have h4:0<=i:=by omega
  have h5:decide (i<(L.length:Int))=false:=decide_eq_false (by omega)
  clear h1 h2;go_enter Tryz.func88,Tryz.ntmps88
  go_wp2
  go_ret;exact⟨rfl,rfl⟩
theorem pW (w:World)(bm bc:Nat)(L:List aO)(acc:Int)(h:bR w bm bc L acc) :
  Calls Tryz.prog 67 #[.pointer (some ⟨bm,0,none⟩)] w fun e w' => e=.returned (.int .i64 L.length)/\w=w' := by
 have km:=bq h.hm;have hl:=h.len;go_enter Tryz.func67,Tryz.ntmps67
 go_wp2
 go_ret;exact⟨rfl,rfl⟩
theorem xU (w:World)(bm bc:Nat)(L:List aO)(acc:Int)(h:bR w bm bc L acc) :
  Calls Tryz.prog 29 #[.pointer (some ⟨bm,0,none⟩)] w fun e w' => e=.returned (.int .u64 acc)/\w=w' := by
 have km:=bq h.hm;go_enter Tryz.func29,Tryz.ntmps29
 go_wp2
 go_ret;exact⟨rfl,rfl⟩
theorem bR.lt {w:World}{bm bc:Nat}{L:List aO}{acc:Int}(h:bR w bm bc L acc):bm<w.heap.size/\bc<w.heap.size:=⟨ia h.hm,ia h.hc⟩
theorem bR.free {w:World}{bm bc:Nat}{L:List aO}{acc:Int}(h:bR w bm bc L acc):(∀k,w.frozen? ⟨bm,k,none⟩=false)/\∀k,w.frozen? ⟨bc,k,none⟩=false:=⟨dK h.hm,dK h.hc⟩
theorem Pu (w:World)(bm bc:Nat)(L:List aO)(acc:Int)(i:Nat)(c:aO)(h:bR w bm bc L acc)(hi:L[i]?=some c) :
  Calls Tryz.prog 44 #[.pointer (some ⟨bm,0,none⟩),.int .i64 i] w fun e w' => e=.returned (.agg #[.int .u64 c.n,.string c.k,.int .u64 c.m])/\Below w.heap.size w w' := by
 have hl:=h.len;have hlt:i<L.length:=(aq5.1 hi).1;obtain⟨hb1,hb2⟩:=h.lt;go_enter Tryz.func44,Tryz.ntmps44
 go_wp2_with fail
 refine(sX _ bm bc L acc i (h.alloc _) (by omega) (by omega)).mono ?_
 rintro e w1 ⟨rfl,rfl⟩;have km:=bq h.hm;obtain⟨c0,c1,c2⟩:=h.cell hi;have b1:bm≠w.heap.size:=by omega
 have b2:bc≠w.heap.size:=by omega
 clear hi;go_wp2
 refine bodyPost_ret (v:= .agg #[.int .u64 c.n,.string c.k,.int .u64 c.m]) (by simp[results,Tryz.results44,go_sem]) rfl ⟨rfl,?_⟩
 exact(Below.refl _ _).alloc (Nat.le_refl _) _
theorem Wv (w:World)(bm bc:Nat)(L:List aO)(acc i:Int)(h:bR w bm bc L acc)(h1:i<0\/L.length<=i) :
  Calls Tryz.prog 44 #[.pointer (some ⟨bm,0,none⟩),.int .i64 i] w fun e w' => e=.returned (.agg #[.int .u64 0,.string ⟨#[]⟩,.int .u64 0])/\Below w.heap.size w w' := by
 go_enter Tryz.func44,Tryz.ntmps44
 go_wp2_with fail
 refine(Ez _ bm bc L acc i (h.alloc _) h1).mono ?_
 rintro e w1 ⟨rfl,rfl⟩;go_wp2
 refine bodyPost_ret (v:= .agg #[.int .u64 0,.string ⟨#[]⟩,.int .u64 0]) (by simp[results,Tryz.results44,go_sem]) rfl ⟨rfl,?_⟩
 exact(Below.refl _ _).alloc (Nat.le_refl _) _
theorem zJ (w:World)(bm bc:Nat)(L:List aO)(acc i:Int)(h:bR w bm bc L acc) :
  Calls Tryz.prog 44 #[.pointer (some ⟨bm,0,none⟩),.int .i64 i] w fun e w' => e=.returned (.agg #[.int .u64 (ah L i).n,.string (ah L i).k,.int .u64 (ah L i).m])/\Below w.heap.size w w' := by
 by_cases h1:0<=i/\i<L.length
 ·obtain⟨n,rfl⟩:=Int.eq_ofNat_of_zero_le h1.1
  have hn:n<L.length:=by omega
  have e:L[n]?=some (ah L n):=by
   unfold ah;rw[if_pos (by omega)]
   simp[hn]
  exact Pu w bm bc L acc n _ h e
 ·have e:ah L i=aO.zero:=by
   unfold ah;by_cases h2:0<=i
   ·rw[if_pos h2,List.getElem?_eq_none (by omega)];rfl
   ·rw[if_neg h2]
  rw[e];exact Wv w bm bc L acc i h (by omega)
theorem Pv (tmps:Array Value)(w:World)(b:Nat)(v0 v1 v2:Value)(hp:tmps[4]?=some (.pointer (some ⟨b,0,none⟩)))(hk:∀k,w.cell? ⟨b,k,none⟩=(#[v0,v1,v2]:Array Value)[k]?) :
  (results Tryz.f141 tmps).run Tryz.prog w=.ok (.agg #[v0,v1,v2]) w:=by
 simp[results,Tryz.results141,go_sem,hp,hk]
theorem tG (w:World)(bm bc:Nat)(L:List aO)(acc i:Int)(h:bR w bm bc L acc)(ha0:0<=acc)(ha:acc<=1000000000000) :
  Calls Tryz.prog 141 #[.pointer (some ⟨bm,0,none⟩),.int .i64 i] w fun e w' => e=.returned (.agg #[.int .u64 (ah L i).n,.string (ah L i).k,.int .u64 (ah L i).m])/\bR w' bm bc (L) (acc+1)/\eI [bm] w w' := by
 obtain⟨hb1,hb2⟩:=h.lt;have km:=bq h.hm;have kf:=h.free.1;have b1:bm≠w.heap.size:=by omega
 have h1:=(h.count (acc+1)).alloc (.cells #[.int .u64 0,.string ⟨#[]⟩,.int .u64 0] 63);have B0:=dU (w.setCell ⟨bm,1,none⟩ (.int .u64 (acc+1))) (.cells #[.int .u64 0,.string ⟨#[]⟩,.int .u64 0] 63);rw[World.size_setCell]at B0;go_enter Tryz.func141,Tryz.ntmps141
 go_wp2_with fail
 refine(zJ _ bm bc L (acc+1) i h1).mono ?_
 rintro e w1 ⟨rfl,hb⟩;have B1:=cE hb B0;have h2:=h1.same hb;have hsz:=hb.size;simp only[World.size_alloc,World.size_setCell]at hsz;clear h1 B0 kf km;have k1:=bq B1;have f1:=dK B1;go_wp2
 have B2:=cM (cM (cM B1 0 (.int .u64 (ah L i).n)) 1 (.string (ah L i).k)) 2 (.int .u64 (ah L i).m);simp only[List.setIfInBounds_toArray,List.set_cons_zero,List.set_cons_succ]at B2;refine bodyPost_ret (Pv _ _ w.heap.size _ _ _ rfl (bq B2)) rfl ⟨rfl,?_,?_⟩
 ·exact⟨dy (dy (dy h2.hm b1 _ _) b1 _ _) b1 _ _,dy (dy (dy h2.hc (by omega) _ _) (by omega) _ _) (by omega) _ _,h2.ne,h2.len⟩
 ·refine eI.setCell (eI.setCell (eI.setCell ((((eI.refl _ _).setCell (.inl (by simp)) _).alloc _).trans (eI.of_below hb)) (.inr ?_) _) (.inr ?_) _) (.inr ?_) _ <;> exact Nat.le_refl _
theorem Px (w:World)(bm bc:Nat)(L:List aO)(acc:Int)(i:Nat)(c:aO)(h:bR w bm bc L acc)(hi:i<L.length) :
  Calls Tryz.prog 36 #[.pointer (some ⟨bm,0,none⟩),.int .i64 i,.agg #[.int .u64 c.n,.string c.k,.int .u64 c.m]] w fun e w' => e=.returned (.tuple #[])/\bR w' bm bc (L.set i c) (acc)/\eI [bc] w w' := by
 obtain⟨hb1,hb2⟩:=h.lt;have hl:=h.len;have b1:bm≠w.heap.size:=by omega
 have b2:bc≠w.heap.size:=by omega
 have h1:=h.alloc (.cells #[.int .u64 c.n,.string c.k,.int .u64 c.m] 63);have B0:=dU w (.cells #[.int .u64 c.n,.string c.k,.int .u64 c.m] 63);go_enter Tryz.func36,Tryz.ntmps36
 go_wp2_with fail
 refine(sX _ bm bc L acc i h1 (by omega) (by omega)).mono ?_
 rintro e w1 ⟨rfl,rfl⟩;obtain⟨W,hW⟩:∃W,W=w.alloc (.cells #[.int .u64 c.n,.string c.k,.int .u64 c.m] 63):=⟨_,rfl⟩;go_upto_region 2 with(fail)
 have hg:eI [bc] w W:=by rw[hW];exact(eI.refl _ _).alloc _
 rw[←hW]at h1 B0 ⊢;clear hW h b1 b2;have km:=bq h1.hm;have k0:=bq B0;refine bQ 7 (by kernel_rfl) (by as_aux_lemma=>kernel_rfl) ?_
 simp only[List.take_succ_cons,List.take_zero,List.drop_succ_cons,List.drop_zero];repeat (go_big_quiet_step (fail))
 refine wpQuiet_nil ?_
 intro w2 hb;have h2:=h1.same hb;have hg2:=hg.trans (eI.of_below hb);clear km k0 B0 h1 hg hb;obtain⟨c0,c1,c2⟩:=h2.cell (aq8 hi);have kf:=h2.free.2;go_wp2
 go_end0
 exact⟨rfl,h2.store i c,((hg2.setCell (.inl (by simp)) _).setCell (.inl (by simp)) _).setCell (.inl (by simp)) _⟩
theorem Ww (w:World)(bm bc:Nat)(L:List aO)(acc i:Int)(c:aO)(h:bR w bm bc L acc)(hi:i<0\/L.length<=i) :
  Calls Tryz.prog 36 #[.pointer (some ⟨bm,0,none⟩),.int .i64 i,.agg #[.int .u64 c.n,.string c.k,.int .u64 c.m]] w fun e w' => e=.returned (.tuple #[])/\bR w' bm bc (L) (acc)/\eI [bc] w w' := by
 have h1:=h.alloc (.cells #[.int .u64 c.n,.string c.k,.int .u64 c.m] 63);go_enter Tryz.func36,Tryz.ntmps36
 go_wp2_with fail
 refine(Ez _ bm bc L acc i h1 hi).mono ?_
 rintro e w1 ⟨rfl,rfl⟩;go_wp2
 go_end0
 exact⟨rfl,h1,(eI.refl _ _).alloc _⟩
def bX (L:List aO)(i old:Int):Bool:=decide (0<=i) && decide (i<L.length) && decide ((ah L i).n=old)
theorem Py (w:World)(bm bc:Nat)(L:List aO)(acc i old:Int)(c:aO)(h:bR w bm bc L acc)(ha0:0<=acc)(ha:acc<=1000000000000)(hi:i<0\/L.length<=i) :
  Calls Tryz.prog 182 #[.pointer (some ⟨bm,0,none⟩),.int .i64 i,.int .u64 old,.agg #[.int .u64 c.n,.string c.k,.int .u64 c.m]] w fun e w' => e=.returned (.bool false)/\bR w' bm bc (L) (acc+1)/\eI [bm,bc] w w' := by
 obtain⟨hb1,hb2⟩:=h.lt;have km:=bq h.hm;have kf:=h.free.1;have b1:bm≠w.heap.size:=by omega
 have h1:=(h.count (acc+1)).alloc (.cells #[.int .u64 c.n,.string c.k,.int .u64 c.m] 63);go_enter Tryz.func182,Tryz.ntmps182
 go_wp2_with fail
 refine(Ez _ bm bc L (acc+1) i h1 hi).mono ?_
 rintro e w1 ⟨rfl,rfl⟩;clear km kf;go_wp2
 go_ret;exact⟨rfl,h1,((eI.refl _ _).setCell (.inl (by simp)) _).alloc _⟩
theorem Wx (w:World)(bm bc:Nat)(L:List aO)(acc:Int)(i:Nat)(old:Int)(c d:aO)(h:bR w bm bc L acc)(ha0:0<=acc)(ha:acc<=1000000000000)(hi:L[i]?=some d)(hd:(d.n != old)=true) :
  Calls Tryz.prog 182 #[.pointer (some ⟨bm,0,none⟩),.int .i64 i,.int .u64 old,.agg #[.int .u64 c.n,.string c.k,.int .u64 c.m]] w fun e w' => e=.returned (.bool false)/\bR w' bm bc (L) (acc+1)/\eI [bm,bc] w w' := by
 obtain⟨hb1,hb2⟩:=h.lt;have hl:=h.len;have hlt:i<L.length:=(aq5.1 hi).1;have km:=bq h.hm;have kf:=h.free.1;have b1:bm≠w.heap.size:=by omega
 have h1:=(h.count (acc+1)).alloc (.cells #[.int .u64 c.n,.string c.k,.int .u64 c.m] 63);have Hi:=aq3 hi;clear hi;go_enter Tryz.func182,Tryz.ntmps182
 go_wp2_with fail
 refine(sX _ bm bc L (acc+1) i h1 (by omega) (by omega)).mono ?_
 rintro e w1 ⟨rfl,rfl⟩;obtain⟨c0,c1,c2⟩:=h1.cell Hi.out;have km' := bq h1.hm;clear km kf c1 c2;go_wp2
 go_ret;exact⟨rfl,h1,((eI.refl _ _).setCell (.inl (by simp)) _).alloc _⟩
theorem Pz (w:World)(bm bc:Nat)(L:List aO)(acc:Int)(i:Nat)(old:Int)(c d:aO)(h:bR w bm bc L acc)(ha0:0<=acc)(ha:acc<=1000000000000)(hi:L[i]?=some d)(hd:(d.n != old)=false) :
  Calls Tryz.prog 182 #[.pointer (some ⟨bm,0,none⟩),.int .i64 i,.int .u64 old,.agg #[.int .u64 c.n,.string c.k,.int .u64 c.m]] w fun e w' => e=.returned (.bool true)/\bR w' bm bc (L.set i c) (acc+1)/\eI [bm,bc] w w' := by
 obtain⟨hb1,hb2⟩:=h.lt;have hl:=h.len;have hlt:i<L.length:=(aq5.1 hi).1;have km:=bq h.hm;have kf:=h.free.1;have b1:bm≠w.heap.size:=by omega
 have h1:=(h.count (acc+1)).alloc (.cells #[.int .u64 c.n,.string c.k,.int .u64 c.m] 63);have B0:=dU (w.setCell ⟨bm,1,none⟩ (.int .u64 (acc+1))) (.cells #[.int .u64 c.n,.string c.k,.int .u64 c.m] 63);rw[World.size_setCell]at B0;have Hi:=aq3 hi;clear hi;go_enter Tryz.func182,Tryz.ntmps182
 go_wp2_with fail
 refine(sX _ bm bc L (acc+1) i h1 (by omega) (by omega)).mono ?_
 rintro e w1 ⟨rfl,rfl⟩;obtain⟨c0,c1,c2⟩:=h1.cell Hi.out;have km' := bq h1.hm;clear km kf c1 c2;go_upto_region 4 with(fail)
 clear c0 km';obtain⟨W,hW⟩:∃W,W=(w.setCell ⟨bm,1,none⟩ (.int .u64 (acc+1))).alloc (.cells #[.int .u64 c.n,.string c.k,.int .u64 c.m] 63):=⟨_,rfl⟩;have hg:eI [bm,bc] w W:=by rw[hW];exact((eI.refl _ _).setCell (.inl (by simp)) _).alloc _
 rw[←hW]at h1 B0 ⊢;clear hW h b1;have km:=bq h1.hm;have k0:=bq B0;refine bQ 7 (by kernel_rfl) (by as_aux_lemma=>kernel_rfl) ?_
 simp only[List.take_succ_cons,List.take_zero,List.drop_succ_cons,List.drop_zero];repeat (go_big_quiet_step (fail))
 refine wpQuiet_nil ?_
 intro w2 hb;have h2:=h1.same hb;have hg2:=hg.trans (eI.of_below hb);clear km k0 B0 h1 hg hb;obtain⟨c0,c1,c2⟩:=h2.cell Hi.out;have kf:=h2.free.2;go_wp2
 go_ret;exact⟨rfl,h2.store i c,((hg2.setCell (.inl (by simp)) _).setCell (.inl (by simp)) _).setCell (.inl (by simp)) _⟩
theorem sY {L:List aO}{n:Nat}(hn:n<L.length):L[n]?=some (ah L n):=by
 unfold ah;rw[if_pos (by omega)]
 simp[hn]
theorem tH (w:World)(bm bc:Nat)(L:List aO)(acc i old:Int)(c:aO)(h:bR w bm bc L acc)(ha0:0<=acc)(ha:acc<=1000000000000) :
  Calls Tryz.prog 182 #[.pointer (some ⟨bm,0,none⟩),.int .i64 i,.int .u64 old,.agg #[.int .u64 c.n,.string c.k,.int .u64 c.m]] w fun e w' => e=.returned (.bool (bX L i old))/\bR w' bm bc (if bX L i old then aP L i c else L) (acc+1)/\eI [bm,bc] w w' := by
 by_cases h1:0<=i/\i<L.length
 ·obtain⟨n,rfl⟩:=Int.eq_ofNat_of_zero_le h1.1
  have hn:n<L.length:=by omega
  by_cases hd:(ah L n).n=old
  ·have e:bX L n old=true:=by simp[bX,hd];omega
   rw[e,if_pos rfl];exact Pz w bm bc L acc n old c _ h ha0 ha (sY hn) (by simp[hd])
  ·have e:bX L n old=false:=by simp[bX,hd]
   rw[e];exact Wx w bm bc L acc n old c _ h ha0 ha (sY hn) (by simp[hd])
 ·have e:bX L i old=false:=by
   simp only[bX,Bool.and_eq_false_iff,decide_eq_false_iff_not];left
   omega
  rw[e];exact Py w bm bc L acc i old c h ha0 ha (by omega)
theorem mW (w:World)(bm bc:Nat)(L:List aO)(acc i:Int)(c:aO)(h:bR w bm bc L acc) :
  Calls Tryz.prog 36 #[.pointer (some ⟨bm,0,none⟩),.int .i64 i,.agg #[.int .u64 c.n,.string c.k,.int .u64 c.m]] w fun e w' => e=.returned (.tuple #[])/\bR w' bm bc (aP L i c) (acc)/\eI [bc] w w' := by
 by_cases h1:0<=i/\i<L.length
 ·obtain⟨n,rfl⟩:=Int.eq_ofNat_of_zero_le h1.1
  exact Px w bm bc L acc n c h (by omega)
 ·have e:aP L i c=L:=by
   unfold aP;by_cases h2:0<=i
   ·rw[if_pos h2,List.set_eq_of_length_le (by omega)]
   ·rw[if_neg h2]
  rw[e];exact Ww w bm bc L acc i c h (by omega)
theorem Lm (w:World)(bm bc:Nat)(L:List aO)(acc i:Int)(c:aO)(h:bR w bm bc L acc)(ha0:0<=acc)(ha:acc<=1000000000000) :
  Calls Tryz.prog 79 #[.pointer (some ⟨bm,0,none⟩),.int .i64 i,.agg #[.int .u64 c.n,.string c.k,.int .u64 c.m]] w fun e w' => e=.returned (.tuple #[])/\bR w' bm bc (aP L i c) (acc+1)/\eI [bm,bc] w w' := by
 obtain⟨hb1,hb2⟩:=h.lt;have km:=bq h.hm;have kf:=h.free.1;have b1:bm≠w.heap.size:=by omega
 have h1:=(h.count (acc+1)).alloc (.cells #[.int .u64 c.n,.string c.k,.int .u64 c.m] 63);go_enter Tryz.func79,Tryz.ntmps79
 go_wp2_with fail
 refine(mW _ bm bc L (acc+1) i c h1).mono ?_
 rintro e w1 ⟨rfl,h2,hg⟩;clear km kf;go_wp2
 go_end0
 exact⟨rfl,h2,(((eI.refl _ _).setCell (.inl (by simp)) _).alloc _).trans (hg.mono (by simp))⟩
theorem wN (n:Nat):madeCells #[.int .u64 0,.string ⟨#[]⟩,.int .u64 0] (n*3)=(flat (List.replicate n aO.zero)).toArray:=by
 apply Array.ext_getElem?
 intro k;by_cases hk:k<n*3
 ·have h1:=sW (List.replicate n aO.zero) (k / 3) aO.zero (by rw[List.getElem?_replicate,if_pos (by omega)])
  have hm:k%3=0\/k%3=1\/k%3=2:=by omega
  have e:(madeCells #[.int .u64 0,.string ⟨#[]⟩,.int .u64 0] (n*3))[k]?=some (#[.int .u64 0,.string ⟨#[]⟩,.int .u64 0][k%3]!):=by
   simp[madeCells,hk]
  rw[e];simp only[List.getElem?_toArray];rcases hm with h|h|h
  ·rw[show k=k / 3*3 by omega,h1.1];simp[aO.zero]
  ·rw[show k=k / 3*3+1 by omega,h1.2.1];simp[aO.zero]
  ·rw[show k=k / 3*3+2 by omega,h1.2.2];simp[aO.zero]
 ·rw[Array.getElem?_eq_none (by simp[madeCells];omega),Array.getElem?_eq_none (by simp[zH];omega)]
theorem zK:(Tryz.prog.info? 63).map (fun i=>(i.zero,i.size,i.bytes))=some (some (.agg #[.int .u64 0,.string ⟨#[]⟩,.int .u64 0]),3,32):=by kernel_rfl
theorem Fa (w:World)(n:Nat)(h1:1<=n)(h2:n<=1048576) :
  Calls Tryz.prog 109 #[.int .i64 n] w fun e w' => e=.returned (.tuple #[.pointer (some ⟨(w.heap.size+1),0,none⟩),.int .i64 0])/\bR w' (w.heap.size+1) w.heap.size (List.replicate n aO.zero) 0/\Below w.heap.size w w' /\ w'.heap.size=w.heap.size+2:=by
 have hmk:∀w,(Instr.makeSlice 50 (.int .i64 n) (.int .i64 n)).run Tryz.prog w=.ok (.slice (some ⟨w.heap.size,0,none⟩) n n) (w.alloc (.cells (flat (List.replicate n aO.zero)).toArray 63)):=by
  intro w;obtain⟨i,hi,hz,h3,hby⟩:=info_parts zK;have:=run_make w 50 63 i _ Tryz.underlying50 hi hz .i64 .i64 (n:Int) n (by omega) (by omega) (by rw[hby];omega) (by omega)
  rw[this,h3,Int.toNat_natCast,show(Value.agg #[.int .u64 0,.string ⟨#[]⟩,.int .u64 0]).cells= #[.int .u64 0,.string ⟨#[]⟩,.int .u64 0]from rfl,wN]
 go_enter Tryz.func109,Tryz.ntmps109
 go_wp2
 go_ret2
 refine⟨rfl,⟨?_,?_,by omega,by simpa using h2⟩,((Below.refl _ _).alloc (Nat.le_refl _) _).alloc (by simp) _,by simp⟩
 ·have:=dU (w.alloc (.cells (flat (List.replicate n aO.zero)).toArray 63)) (.cells #[.slice (some ⟨w.heap.size,0,none⟩) n n,.int .u64 0] 135)
  simpa using this
 ·exact lO (dU _ _) _
structure aC where
 foot:List Nat
 ok:World->Prop
 loc:∀w w':World,(∀b,b∈foot->w'.heap[b]?=w.heap[b]?)->ok w->ok w'
 dom:∀w:World,ok w->∀b,b∈foot->b<w.heap.size
def blk (b:Nat)(o:Obj):aC where
 foot:=[b]
 ok:=fun w=>w.heap[b]?=some o
 loc:=fun w w' h k=>by rw[h b (by simp)];exact k
 dom:=fun w k b' hb=>by simp at hb;subst hb;exact ia k
def cR (cs:List aC):List Nat:=cs.flatMap aC.foot
theorem iu (c:aC)(cs:List aC):cR (c::cs)=c.foot++cR cs:=rfl
theorem fB (a b:List aC):cR (a++b)=cR a++cR b:=by simp[cR]
theorem pX {b:Nat}{cs:List aC}:b∈cR cs↔∃c,c∈cs/\b∈c.foot:=by simp[cR]
theorem zL {a b:List aC}(h:a.Sublist b):(cR a).Sublist (cR b):=by
 induction h with
 | slnil=>exact List.Sublist.refl _
 | cons c _ ih=>rw[iu];exact ih.trans (List.sublist_append_right _ _)
 | cons_cons c _ ih=>rw[iu,iu];exact List.Sublist.append (List.Sublist.refl _) ih
theorem wO {a b:List aC}(h:a.Perm b):(cR a).Perm (cR b):=h.flatMap_right _
def group (l:List aC):aC where
 foot:=cR l
 ok:=fun w=>∀c,c∈l->c.ok w
 loc:=fun w w' h k c hc=>c.loc w w' (fun b hb=>h b (pX.2 ⟨c,hc,hb⟩)) (k c hc)
 dom:=fun w k b hb=>by obtain⟨c,hc,hb'⟩:=pX.1 hb;exact c.dom w (k c hc) b hb'
structure aL where
 base:World
 map:Nat->Option Obj
def aL.of (w:World):aL:=⟨w,fun k=>w.heap[k]?⟩
def aL.add (K:aL)(b:Nat)(o:Obj):aL:=⟨K.base,fun k=>if k=b then some o else K.map k⟩
structure aL.Le (K K':aL):Prop where
 base:K'.base=K.base
 map:∀k o,K.map k=some o->K'.map k=some o
theorem aL.Le.refl (K:aL):K.Le K:=⟨rfl,fun _ _ h=>h⟩
theorem aL.Le.trans {K K' K'' : aL}(h:K.Le K')(k:K'.Le K''):K.Le K'' := ⟨k.base.trans h.base,fun b o e=>k.map b o (h.map b o e)⟩
structure St (K:aL)(w:World)(cs:List aC):Prop where
 os:w.os=K.base.os
 tape:w.tape=K.base.tape
 output:w.output=K.base.output
 jT:∀k o,K.map k=some o->w.heap[k]?=some o
 ok:∀c,c∈cs->c.ok w
 nodup:(cR cs).Nodup
 apart:∀b,b∈cR cs->K.map b=none
section
variable {K:aL}{w w':World}{c c' d e f g:aC}{cs cs' F:List aC}
theorem St.start (w:World):St (aL.of w) w []:=⟨rfl,rfl,rfl,fun _ _ h=>h,fun _ h=>by simp at h,by simp[cR],fun _ h=>by simp[cR]at h⟩
theorem St.lt (h:St K w cs){b:Nat}(hb:b∈cR cs):b<w.heap.size:=by
 obtain⟨c,hc,hb'⟩:=pX.1 hb;exact c.dom w (h.ok c hc) b hb'
theorem St.cA (h:St K w cs){b:Nat}{o:Obj}(hb:K.map b=some o):b<w.heap.size:=ia (h.jT b o hb)
theorem St.agZ (h:St K w cs){b:Nat}(hb:w.heap.size<=b):K.map b=none:=by
 cases e:K.map b with
 | none=>rfl
 | some o=>have:=h.cA e;omega
theorem St.below {W:World}(h:St K w cs)(hk:(aL.of W).Le K):Below W.heap.size W w:=by
 refine⟨by rw[h.os,hk.base];rfl,by rw[h.tape,hk.base];rfl,by rw[h.output,hk.base];rfl,?_,fun k hk' =>?_⟩
 ·rcases Nat.eq_zero_or_pos W.heap.size with h0|h0
  ·omega
  ·have hl:W.heap.size-1<W.heap.size:=by omega
   have:(aL.of W).map (W.heap.size-1)=some (W.heap[W.heap.size-1]):=by show W.heap[_]?=_;exact Array.getElem?_eq_getElem hl
   have:=h.cA (hk.map _ _ this);omega
 ·have:(aL.of W).map k=some (W.heap[k]):=by show W.heap[_]?=_;exact Array.getElem?_eq_getElem hk'
  rw[h.jT _ _ (hk.map _ _ this)];exact this.symm
theorem St.perm (h:St K w cs)(hp:cs.Perm cs'):St K w cs' :=
 ⟨h.os,h.tape,h.output,h.jT,fun c hc=>h.ok c (hp.mem_iff.2 hc),(wO hp).nodup_iff.1 h.nodup,fun b hb=>h.apart b ((wO hp).mem_iff.2 hb)⟩
theorem St.sub (h:St K w cs)(hp:cs'.Sublist cs):St K w cs' :=
 ⟨h.os,h.tape,h.output,h.jT,fun c hc=>h.ok c (hp.subset hc),h.nodup.sublist (zL hp),fun b hb=>h.apart b ((zL hp).subset hb)⟩
theorem St.tail (h:St K w (c::cs)):St K w cs:=h.sub (List.sublist_cons_self c cs)
theorem St.bY (h:St K w (c::d::cs)):St K w (c::cs):=h.sub ((List.sublist_cons_self d cs).cons_cons c)
theorem St.right (h:St K w (cs++F)):St K w F:=h.sub (List.sublist_append_right cs F)
theorem St.head (h:St K w (c::cs)):c.ok w:=h.ok c (by simp)
theorem St.b1 (h:St K w (c::d::cs)):St K w (d::c::cs):=h.perm (.swap d c cs)
theorem St.b2 (h:St K w (c::d::e::cs)):St K w (e::c::d::cs):=(h.perm ((List.Perm.swap e d cs).cons c)).b1
theorem St.b3 (h:St K w (c::d::e::f::cs)):St K w (f::c::d::e::cs):=(h.perm (((List.Perm.swap f e cs).cons d).cons c)).b2
theorem St.b4 (h:St K w (c::d::e::f::g::cs)):St K w (g::c::d::e::f::cs):=(h.perm ((((List.Perm.swap g f cs).cons e).cons d).cons c)).b3
theorem St.b5 {a:aC}(h:St K w (c::d::e::f::g::a::cs)):St K w (a::c::d::e::f::g::cs):=(h.perm (((((List.Perm.swap a g cs).cons f).cons e).cons d).cons c)).b4
theorem St.b6 {a b:aC}(h:St K w (c::d::e::f::g::a::b::cs)):St K w (b::c::d::e::f::g::a::cs):=(h.perm ((((((List.Perm.swap b a cs).cons g).cons f).cons e).cons d).cons c)).b5
theorem St.u1 (h:St K w (c::d::cs)):St K w (d::c::cs):=h.b1
theorem St.u2 (h:St K w (c::d::e::cs)):St K w (d::e::c::cs):=h.b1.perm ((List.Perm.swap e c cs).cons d)
theorem St.u3 (h:St K w (c::d::e::f::cs)):St K w (d::e::f::c::cs):=h.u2.perm (((List.Perm.swap f c cs).cons e).cons d)
theorem St.u4 (h:St K w (c::d::e::f::g::cs)):St K w (d::e::f::g::c::cs):=h.u3.perm ((((List.Perm.swap g c cs).cons f).cons e).cons d)
theorem St.u5 {a:aC}(h:St K w (c::d::e::f::g::a::cs)):St K w (d::e::f::g::a::c::cs):=h.u4.perm (((((List.Perm.swap a c cs).cons g).cons f).cons e).cons d)
theorem St.wP {l:List aC}:St K w (group l::F)↔St K w (l++F):=by
 have e:cR (group l::F)=cR (l++F):=by rw[iu,fB];rfl
 constructor
 ·intro h
  refine⟨h.os,h.tape,h.output,h.jT,fun c hc=>?_,by rw[←e];exact h.nodup,fun b hb=>h.apart b (by rw[e];exact hb)⟩
  rcases List.mem_append.1 hc with hc|hc
  ·exact h.head c hc
  ·exact h.ok c (by simp[hc])
 ·intro h
  refine⟨h.os,h.tape,h.output,h.jT,fun c hc=>?_,by rw[e];exact h.nodup,fun b hb=>h.apart b (by rw[←e];exact hb)⟩
  rcases List.mem_cons.1 hc with rfl|hc
  ·exact fun c hc=>h.ok c (by simp[hc])
  ·exact h.ok c (by simp[hc])
theorem St.vD {ms ms':List aC}(h:St K w (ms++F))(hg:eI (cR ms) w w')(hok:∀c,c∈ms' -> c.ok w')(hf:∀b,b∈cR ms' -> b∈cR ms\/w.heap.size<=b)(hn:(cR ms').Nodup):St K w' (ms' ++ F):=by
 have hsz:=hg.size;have hnd:=h.nodup;rw[fB,List.nodup_append]at hnd;have hkeep:∀b,b<w.heap.size->b ∉ cR ms->w'.heap[b]?=w.heap[b]? := fun b hb hb' => hg.block b hb hb'
 have hF:∀b,b∈cR F->b<w.heap.size/\b ∉ cR ms:=fun b hb=>⟨h.lt (by rw[fB];exact List.mem_append_right _ hb),fun hb' => hnd.2.2 b hb' b hb rfl⟩
 refine⟨hg.os.trans h.os,hg.tape.trans h.tape,hg.output.trans h.output,fun k o hk=>?_,fun c hc=>?_,?_,fun b hb=>?_⟩
 ·rw[hkeep k (h.cA hk) (fun hb=>?_)]
  ·exact h.jT k o hk
  ·have:=h.apart k (by rw[fB];exact List.mem_append_left _ hb)
   rw[hk]at this;cases this
 ·rcases List.mem_append.1 hc with hc|hc
  ·exact hok c hc
  ·exact c.loc w w' (fun b hb=>by have:=hF b (pX.2 ⟨c,hc,hb⟩);exact hkeep b this.1 this.2) (h.ok c (by simp[hc]))
 ·rw[fB,List.nodup_append]
  refine⟨hn,hnd.2.1,fun a ha b hb e=>?_⟩
  subst e;have:=hF a hb;rcases hf a ha with h1|h1
  ·exact this.2 h1
  ·omega
 ·rw[fB]at hb
  rcases List.mem_append.1 hb with hb|hb
  ·rcases hf b hb with h1|h1
   ·exact h.apart b (by rw[fB];exact List.mem_append_left _ h1)
   ·exact h.agZ h1
  ·exact h.apart b (by rw[fB];exact List.mem_append_right _ hb)
theorem St.same (h:St K w cs)(hb:Below w.heap.size w w'):St K w' cs:=by
 have:=St.vD (ms:=[]) (ms' := []) (F:=cs) h (eI.of_below hb) (fun _ h=>by simp at h) (fun _ h=>by simp[cR]at h) (by simp[cR])
 exact this
theorem St.made (h:St K w cs)(o:Obj):St K (w.alloc o) (blk w.heap.size o::cs):=by
 refine St.vD (ms:=[]) (ms' := [blk w.heap.size o]) (F:=cs) h ((eI.refl _ _).alloc _) (fun c hc=>?_) (fun b hb=>?_) (by simp[cR,blk])
 ·simp at hc;subst hc;exact dU w o
 ·simp[cR,blk]at hb;subst hb;exact .inr (Nat.le_refl _)
theorem St.pass (h:St K w cs)(o:Obj):St K (w.alloc o) cs:=(h.made o).tail
theorem St.drew (h:St K w cs):St K w.drew cs:=⟨h.os,h.tape,h.output,h.jT,fun c hc=>c.loc w _ (fun _ _=>rfl) (h.ok c hc),h.nodup,h.apart⟩
theorem St.set {b:Nat}{a:Array Value}{T:TypeId}{fz:Nat × Nat}(h:St K w (blk b (.cells a T fz)::cs))(k:Nat)(v:Value):St K (w.setCell ⟨b,k,none⟩ v) (blk b (.cells (a.setIfInBounds k v) T fz)::cs):=by
 refine St.vD (ms:=[blk b (.cells a T fz)]) (ms' := [blk b (.cells (a.setIfInBounds k v) T fz)]) (F:=cs) h ((eI.refl _ _).setCell (.inl (by simp[cR,blk])) _) (fun c hc=>?_) (fun b hb=> .inl hb) (by simp[cR,blk])
 simp at hc;subst hc;exact cM h.head k v
theorem St.aI {b:Nat}{a:List Value}{T:TypeId}{fz:Nat × Nat}(h:St K w (blk b (.cells a.toArray T fz)::cs))(k:Nat)(v:Value):St K (w.setCell ⟨b,k,none⟩ v) (blk b (.cells (a.set k v).toArray T fz)::cs):=by
 have:=h.set k v;rwa [List.setIfInBounds_toArray]at this
theorem St.zM (h:St K w (c::F))(hg:eI c.foot w w')(hok:c'.ok w')(hf:c'.foot=c.foot):St K w' (c' :: F):=by
 refine St.vD (ms:=[c]) (ms' := [c']) h (by simpa[cR] using hg) (fun x hx=>by simp at hx;subst hx;exact hok) (fun b hb=> .inl (by simpa[cR,hf] using hb)) ?_
 have:=h.nodup;rw[iu,List.nodup_append]at this;simpa[cR,hf] using this.1
theorem St.ag0 {d d':aC}(h:St K w (c::d::F))(hg:eI (c.foot++d.foot) w w')(hok:c'.ok w')(adA:d'.ok w')(hf:c'.foot=c.foot)(hf':d'.foot=d.foot):St K w' (c' :: d' :: F):=by
 refine St.vD (ms:=[c,d]) (ms' := [c',d']) h (by simpa[cR] using hg) (fun x hx=>by simp at hx;rcases hx with rfl|rfl <;> assumption) (fun b hb=> .inl (by simpa[cR,hf,hf'] using hb)) ?_
 have:=h.nodup;rw[iu,iu,←List.append_assoc,List.nodup_append]at this;simpa[cR,hf,hf'] using this.1
theorem St.freeze {b:Nat}{o:Obj}(h:St K w (blk b o::cs)):K.Le (K.add b o)/\(K.add b o).map b=some o/\St (K.add b o) w cs:=by
 have hb:K.map b=none:=h.apart b (by simp[cR,blk])
 have hn:=h.nodup;rw[iu,List.nodup_append]at hn;refine⟨⟨rfl,fun k o' hk=>?_⟩,by simp[aL.add],⟨h.os,h.tape,h.output,fun k o' hk=>?_,h.tail.ok,hn.2.1,fun k hk=>?_⟩⟩
 ·show(if k=b then some o else K.map k)=_
  by_cases e:k=b
  ·subst e;rw[hb]at hk;cases hk
  ·rw[if_neg e];exact hk
 ·have hk':(if k=b then some o else K.map k)=some o' := hk
  by_cases e:k=b
  ·subst e;rw[if_pos rfl]at hk';cases hk';exact h.head
  ·rw[if_neg e]at hk';exact h.jT k o' hk'
 ·show(if k=b then some o else K.map k)=none
  rw[if_neg (fun e=>hn.2.2 b (by simp[blk]) k hk e.symm)]
  exact h.tail.apart k hk
theorem St.Qf {b:Nat}{o o':Obj}(h:St K w (blk b o::cs))(e:o=o'):St K w (blk b o' :: cs):=by subst e;exact h
theorem St.k0 {b:Nat}{a:Array Value}{T:TypeId}{fz:Nat × Nat}(h:St K w (blk b (.cells a T fz)::cs)):∀k,w.cell? ⟨b,k,none⟩=a[k]? := bq h.head
theorem St.k1 {b:Nat}{a:Array Value}{T:TypeId}{fz:Nat × Nat}(h:St K w (c::blk b (.cells a T fz)::cs)):∀k,w.cell? ⟨b,k,none⟩=a[k]? := h.tail.k0
theorem St.k2 {b:Nat}{a:Array Value}{T:TypeId}{fz:Nat × Nat}(h:St K w (c::d::blk b (.cells a T fz)::cs)):∀k,w.cell? ⟨b,k,none⟩=a[k]? := h.tail.k1
theorem St.f0 {b:Nat}{a:Array Value}{T:TypeId}(h:St K w (blk b (.cells a T)::cs)):∀k,w.frozen? ⟨b,k,none⟩=false:=dK h.head
theorem St.f1 {b:Nat}{a:Array Value}{T:TypeId}(h:St K w (c::blk b (.cells a T)::cs)):∀k,w.frozen? ⟨b,k,none⟩=false:=h.tail.f0
theorem St.f2 {b:Nat}{a:Array Value}{T:TypeId}(h:St K w (c::d::blk b (.cells a T)::cs)):∀k,w.frozen? ⟨b,k,none⟩=false:=h.tail.f1
theorem St.n0 {b:Nat}{o:Obj}(h:St K w (blk b o::cs)):b<w.heap.size:=h.lt (by simp[cR,blk])
end
theorem cP {P:Program}{c:Code}{Q:Exit->Act->World->Prop}{a:Act}{K:aL}{w:World}{cs:List aC}(h:St K w cs)(k:∀W,St K W cs->c.wp P Q a W):c.wp P Q a w:=k w h
theorem bH {P:Program}{f:FuncId}{args:Array Value}{v:Value}{K:aL}{w:World}{cs:List aC}(hs:St K w cs)(h:Calls P f args w fun e w' => e=.returned v/\Below w.heap.size w w'):Calls P f args w fun e w' => e=.returned v/\St K w' cs:=
 h.mono fun _ _ ⟨he,hb⟩=>⟨he,hs.same hb⟩
theorem mX {P:Program}{f:FuncId}{args:Array Value}{v:Value}{K:aL}{w:World}{cs:List aC}(hs:St K w cs)(h:Calls P f args w fun e w' => e=.returned v/\w=w'):Calls P f args w fun e w' => e=.returned v/\St K w' cs:=
 h.mono fun _ _ ⟨he,hb⟩=>⟨he,by rw[←hb];exact hs⟩
end Go.Proofs.YtlpdhhhgckpcfaaGreat
