/- ahw with new blocks laid behind the. -/
import Derived.Test.YtlpdhhhgckpcfaaGreatRows
import Derived.WalkKit
import Derived.WalkLawsBesides
import Derived.WalkSpells
import Derived.OpenShut
import Derived.BigQuiet
import Derived.Deep.QuietTactic
import Derived.Lib.Hide
import Derived.StillTail
import Derived.Deep.Cut
import Derived.Laws.MakeOwn
namespace Go.Proofs.YtlpdhhhgckpcfaaGreat
set_option linter.unusedSimpArgs false
set_option linter.unusedVariables false

theorem ass {p:Prop} (h:p) : Go.RowKit.Hid p := Lib.hid h
theorem ast {α:Type} {a:α} {l:List α} (h:a ∈ l) : ∃ i : Nat, l[i]? = some a := List.getElem?_of_mem h
theorem asu {α:Type} {a:α} {i:Nat} {l:List α} : l[i]? = some a ↔ ∃ h : i < l.length, l[i] = a := List.getElem?_eq_some_iff
theorem asv {α:Type} {x:Option α} : x.isSome ↔ ∃ a, x = some a := Option.isSome_iff_exists
theorem asw {α:Type} {l:List α} {i:Nat} {a:α} (e:l[i]? = some a) : a ∈ l := List.mem_of_getElem? e
theorem asx {α:Type} {l:List α} {i:Nat} (h:i < l.length) : l[i]? = some l[i] := List.getElem?_eq_getElem h
theorem asy {α:Type} {a b:α} (h:some a = some b) : a = b := Option.some.inj h
theorem asz : (∀ (α : Type) (a : α) (l : List α) (i : Nat), (a :: l)[i + 1]? = l[i]?) ∧ (∀ (α : Type) (a : α) (l : List α), (a :: l)[0]? = some a) ∧ (∀ (α β : Type) (a : α) (f : α → Option β), (some a).bind f = f a) ∧ (∀ (α β : Type) (f : α → Option β), (none : Option α).bind f = none) ∧ (∀ (α : Type) (l : List α) (i : Nat) (a : α), l.toArray.setIfInBounds i a = (l.set i a).toArray) ∧ (∀ (α : Type) (a b : α) (l : List α), (a :: l).set 0 b = b :: l) ∧ (∀ (α : Type) (a b : α) (l : List α) (i : Nat), (a :: l).set (i + 1) b = a :: l.set i b) := ⟨fun _ _ _ _ => List.getElem?_cons_succ, fun _ _ _ => List.getElem?_cons_zero, fun _ _ _ _ => rfl, fun _ _ _ => rfl, fun _ l i a => List.setIfInBounds_toArray l i a, fun _ _ _ _ => rfl, fun _ _ _ _ _ => rfl⟩
open Go.RowKit
structure Ext where
 Yd:Array Obj
 num:Nat
instance:Inhabited Ext:=⟨⟨#[],0⟩⟩
def over (w:World)(x:Ext):World:={ w with heap:=w.heap++x.Yd,drawn:=x.num }
def Pure (w w':World):Prop:=∃x:Ext,w'=over w x
def past (w:World)(x:Ext)(a:Addr):Option Value:=if w.heap.size<=a.block then(over w x).cell? a else none
theorem pT {w:World}{x:Ext}{k:Nat}(h:k<w.heap.size):(over w x).heap[k]?=w.heap[k]? := by
 show(w.heap++x.Yd)[k]?=_
 rw[Array.getElem?_append,if_pos h]
theorem cell?_over (w:World)(x:Ext)(a:Addr):(over w x).cell? a=(w.cell? a).or (past w x a):=by
 unfold past;by_cases h:w.heap.size<=a.block
 ·have e:w.cell? a=none:=by
   unfold World.cell?;rw[Array.getElem?_eq_none h]
  rw[if_pos h,e,Option.none_or]
 ·rw[if_neg h,Option.or_none]
  exact World.cell?_of_block (w:=w) (pT (by omega))
theorem wU (w:World)(x:Ext):(over w x).heap.size=w.heap.size+x.Yd.size:=by
 show(w.heap++x.Yd).size=_
 simp
attribute [go_sem] cell?_over
theorem tM (w:World)(x:Ext):Below w.heap.size w (over w x):=
 ⟨rfl,rfl,rfl,by rw[wU];omega,fun _ hk=>pT hk⟩
theorem to_pure {w w':World}(h:Below w.heap.size w w'):Pure w w' := by
 refine⟨⟨w'.heap.extract w.heap.size w'.heap.size,w'.drawn⟩,?_⟩;have a:w'.heap=w.heap++w'.heap.extract w.heap.size w'.heap.size:=by
  apply Array.ext_getElem?
  intro k;rw[Array.getElem?_append];by_cases hk:k<w.heap.size
  ·rw[if_pos hk];exact h.block k hk
  ·rw[if_neg hk,Array.getElem?_extract]
   have:=h.size;by_cases l:k<w'.heap.size
   ·rw[if_pos (by omega)];congr 1;omega
   ·rw[if_neg (by omega)];exact Array.getElem?_eq_none (by omega)
 unfold over;cases w';have b:=h.os;have i:=h.tape;have j:=h.output;simp only at b i j a ⊢;subst b i j;rw[←a]
theorem Pure.below {w w':World}(h:Pure w w'):Below w.heap.size w w' := by
 obtain⟨x,rfl⟩:=h;exact tM w x
theorem aZ {P:Program}{f:FuncId}{args:Array Value}{w:World}{x:Ext}{v:Value}
  (h:Calls P f args (over w x) fun e w' => e=.returned v/\Below (over w x).heap.size (over w x) w'):Calls P f args (over w x) fun e a => e=.returned v/\∃y:Ext,a = over w y:=
 h.mono fun _ _ ⟨he,b⟩=>⟨he,to_pure ((tM w x).trans (b.mono (by rw[wU];omega)))⟩
theorem ew {P:Program}{f:FuncId}{args:Array Value}{w:World}{x:Ext}{v:Value}
  (h:Calls P f args (over w x) fun e w' => e=.returned v/\over w x=w'):Calls P f args (over w x) fun e a => e=.returned v/\∃y:Ext,a = over w y:=
 h.mono fun _ _ ⟨he,b⟩=>⟨he,x,b.symm⟩
theorem jV (w:World):{ w with drawn:=w.drawn+1 }=over w ⟨#[],w.drawn+1⟩:=by
 simp[over]
theorem dK {P:Program}{id:Nat}{Q:Exit->Act->World->Prop}{a:Act}{w:World}{l:List Oper}(hm:P.follows .mixedOrders=true)(hB:Region.lexB .any l.toArray=true)
  (h:wpQuiet P l.toArray (fun w' => ∃x:Ext,w'=over w x) (fun b => ∀w',Below w.heap.size w w' -> Q .normal b w') l a):(Code.region id l.toArray true).wp P Q a w:=by
 refine wp_region_quiet (C:=fun w' => ∃x:Ext,w'=over w x) hm hB ⟨_,jV w⟩ ?_
 have e:(fun b => ∀w',(∃x:Ext,w'=over w x)->Q .normal b w')=fun b => ∀w',Below w.heap.size w w' -> Q .normal b w' := by
  funext b
  exact propext ⟨fun h w' i=>h w' (to_pure i),fun h w' j=>h w' (Pure.below j)⟩
 rw[e];simpa using h
theorem aeb {W a:World}(i:Below W.heap.size W a):(∀b o,b<W.heap.size->a.cell? ⟨b,o,none⟩=W.cell? ⟨b,o,none⟩)/\(∀b o,b<W.heap.size->a.frozen? ⟨b,o,none⟩=W.frozen? ⟨b,o,none⟩):=
 ⟨fun b o h=>i.cell (p:=⟨b,o,none⟩) h,fun b o h=>i.frozen (p:=⟨b,o,none⟩) h⟩
theorem ea (w:World)(o:Obj):(w.alloc o).heap[w.heap.size]?=some o:=by
 show(w.heap.push o)[w.heap.size]?=_
 rw[Array.getElem?_push,if_pos rfl]
theorem iB {w:World}{k:Nat}{o:Obj}(h:w.heap[k]?=some o):k<w.heap.size:=by
 rcases Nat.lt_or_ge k w.heap.size with a | a
 ·exact a
 ·rw[Array.getElem?_eq_none a]at h;cases h
theorem lT {w:World}{k:Nat}{o':Obj}(h:w.heap[k]?=some o')(o:Obj):(w.alloc o).heap[k]?=some o' := by
 rw[Below.heap_alloc _ _ _ (iB h)];exact h
theorem Ri {W w':World}{k:Nat}{o:Obj}{B:Nat}(a:Below B W w')(hk:k<B)(h:W.heap[k]?=some o):w'.heap[k]?=some o:=by
 rw[a.block k hk];exact h
theorem cR {W w':World}{k:Nat}{o:Obj}(a:Below W.heap.size W w')(h:W.heap[k]?=some o):w'.heap[k]?=some o:=
 Ri a (iB h) h
theorem bB {w:World}{b:Nat}{cs:Array Value}{T:TypeId}{f:Nat × Nat}(h:w.heap[b]?=some (.cells cs T f)):∀k,w.cell? ⟨b,k,none⟩=cs[k]? := by
 intro k;simp[World.cell?,h]
theorem dQ {w:World}{b:Nat}{cs:Array Value}{T:TypeId}(h:w.heap[b]?=some (.cells cs T)):∀k,w.frozen? ⟨b,k,none⟩=false:=by
 intro k;simp[World.frozen?,h]
section
variable {P:Program}{ops:Array Oper}{md:Region.Mode}{C:World->Prop}
def mG (P:Program)(md:Region.Mode)(ops:Array Oper)(C:World->Prop)(n:Nat)(L:Array Bool->Act->Prop):Nat->Array Bool->Act->Prop
 | 0,listed,a=>L listed a
 | f+1,listed,a=>Region.ready md ops listed≠[]/\∀i,i∈Region.ready md ops listed->i<n/\qOp P ops C i (mG P md ops C n L f (listed.setIfInBounds i true)) a
theorem pU {n g:Nat}{L:Array Bool->Act->Prop}{Q':Exit->Act->World->Prop}(k:∀b a w,C w->L b a->wpAny P md ops Q' g b a w)(f:Nat) :
  ∀(b:Array Bool) (a:Act) (w:World),C w->mG P md ops C n L f b a->wpAny P md ops Q' (f+g) b a w:=by
 induction f with
 | zero=>intro b a w hw h;rw[Nat.zero_add];exact k _ _ _ hw h
 | succ f ih=>
  intro b a w hw h;rw[show f+1+g=(f+g)+1 by omega]
  exact⟨fun h0=>absurd h0 h.1,fun i hi=>wpOp_of_qOp hw (fun l w' j m => ih _ l w' j m) (h.2 i hi).2⟩
theorem n9 {n:Nat}{a:Array Bool}(k:Region.sinkB md ops n=true)(hc:Region.chainB md ops n=true)(l:n<ops.size)(inv:HeadInv md ops n a){i:Nat}(b:i<n)
  (hi:i∈Region.ready md ops a) {j:Nat} (m:j∈Region.ready md ops a):j<n:=by
 rcases Nat.lt_or_ge j n with h|h
 ·exact h
 ·exact absurd m (tail_waits k hc l inv _ i rfl b (mem_ready.1 hi).1 j h)
theorem zT {n i:Nat}{y:Oper}{v:Value}{L:Array Bool->Act->Prop}(t:ops[i]?=some y)(s:∀(j:Nat)(o:Oper) cs b,ops[j]?=some o->o.op ≠ .select cs b)
  (E:Region.sinkB md ops n=true) (hc:Region.chainB md ops n=true) (G:n<ops.size) (q:i<n)
  (u:∀h a,L h a->∀j,j∈Region.ready md ops h->n<=j) (f:Nat) :
  ∀(h:Array Bool) (a:Act),HeadInv md ops n h ->
   (∀j x,ops[j]?=some x->j≠i->h.getD j true=false->(∀e,e∈x.after->Region.binds md e=true->e.on≠i)->y.apart ops x=true) ->
   i∈Region.ready md ops h->YieldsIn P ops C y v a ->
   mG P md ops C n L f (h.setIfInBounds i true) (a.put y.dst v)->mG P md ops C n L (f+1) h a:=by
 induction f with
 | zero=>
  intro h a inv _ m I H;refine⟨fun h0=>(by rw[h0]at m;cases m),fun j r=>⟨n9 E hc G inv q m r,?_⟩⟩
  by_cases l:j=i
  ·subst l;exact I.qOp t H
  ·have R:=u _ _ H j (ready_mono r l)
   have S:=n9 E hc G inv q m r;omega
 | succ f ih=>
  intro h a inv p m I H;refine⟨fun h0=>(by rw[h0]at m;cases m),fun j r=>⟨n9 E hc G inv q m r,?_⟩⟩
  by_cases l:j=i
  ·subst l;exact I.qOp t H
  ·have J:=n9 E hc G inv q m r
   have R:=(H.2 j (ready_mono r l)).2;obtain⟨T,x,M,z⟩:=mem_ready.1 r;have N:=(mem_ready.1 m).1;have A:∀e,e∈x.after->Region.binds md e=true->e.on≠i:=by
    intro e he V heq;have B:=z e he V;rw[heq,getD_both N]at B;cases B
   have S:=qOp_put M (p j x M l T A) (fun cs b=>s i y cs b t) (fun cs b=>s j x cs b M) I R
   refine qOp_mono (fun W B=>ih (h.setIfInBounds j true) W (inv.set r J) ?_ (ready_mono m (Ne.symm l)) B.1 ?_) S
   ·intro k ok hk O U Q
    refine p k ok hk O ?_ Q;by_cases D:j=k
    ·subst D;exact T
    ·rw[getD_set_ne true D]at U;exact U
   ·rw[Array.setIfInBounds_comm _ _ l]
    exact B.2
theorem wV {n g:Nat}{r:Act->Prop}(m:Region.noSelect ops=true)(x:Region.sinkB md ops n=true)(hc:Region.chainB md ops n=true)(y:n<ops.size)(l:List Oper) :
  ∀(k:Nat) (b:Array Bool) (a:Act),(∀j,j<l.length->l[j]?=ops[k+j]?)->k+l.length=n->HeadInv md ops n b ->
  Region.lexHead md ops g l.length k b=true->wpQuiet P ops C r l a ->
  mG P md ops C n (fun i u => Region.seqB md ops g n i=true/\r u) l.length b a:=by
 induction l with
 | nil=>
  intro k b a _ hk _ hB h;have:k=n:=by simpa using hk
  subst this;exact⟨by simpa[Region.lexHead] using hB,h⟩
 | cons o l ih=>
  intro k b a hl hk inv hB h;have h0:ops[k]?=some o:=by simpa using (hl 0 (by simp)).symm
  simp only[List.length_cons,Region.lexHead,Bool.and_eq_true]at hB;obtain⟨⟨z,A⟩,s⟩:=hB;have p:k<n:=by simp only[List.length_cons]at hk;omega
  have q:k∈Region.ready md ops b:=by simpa using z
  have t:qOp P ops C k (wpQuiet P ops C r l) a:=by unfold qOp;simp only[h0];exact h
  obtain⟨v,B,D⟩:=yieldsIn_of_qOp h0 t;refine zT h0 (Region.noSelect_spec m) x hc y p (fun i u E=>seqB_ready E.1) l.length b a inv (Region.free_spec h0 A) q B ?_
  refine ih (k+1) _ _ (fun j G=>?_) (by simp only[List.length_cons]at hk;omega) (inv.set q p) s D
  have:=hl (j+1) (by simp;omega)
  simpa[Nat.add_assoc,Nat.add_comm 1 j] using this
end
theorem tN {P:Program}{id:Nat}{Q:Exit->Act->World->Prop}{a:Act}{w:World}{l:List Oper}(n:Nat)(hm:P.follows .mixedOrders=true)(hB:Region.lexTailB .any l.toArray n=true)
  (h:wpQuiet P l.toArray (fun w' => ∃x:Ext,w'=over w x) (fun o => ∀w',Below w.heap.size w w' -> wpList P l.toArray Q (l.drop n) o w') (l.take n) a):(Code.region id l.toArray true).wp P Q a w:=by
 simp only[Region.lexTailB,Bool.and_eq_true,decide_eq_true_eq]at hB;obtain⟨⟨⟨⟨k,r⟩,v⟩,hc⟩,y⟩:=hB;have z:n<l.length:=by simpa using r
 have b:(l.take n).length=n:=by simp;omega
 have m:(l.drop n).length=l.toArray.size-n:=by simp
 have A:HeadInv .any l.toArray n (Array.replicate l.toArray.size false):=
  ⟨by simp,fun j D _ hl=>(by rw[getD_replicate_false]at hl;cases hl),fun t _ B=>getD_in (by simpa using B) (getD_replicate_false _ _)⟩
 have H:=wV (C:=fun w' => ∃x:Ext,w'=over w x) (md:= .any) (g:=l.toArray.size-n) k v hc r (l.take n) 0 _ a (fun j s=>by
  have p:j<n:=by rw[b]at s;exact s
  simp[p]) (by simpa using b) A (by rw[b];exact y) h
 refine wp_region_any hm ?_
 have:=pU (Q' := Q) (g:=l.toArray.size-n) (fun i o w' q u=>by
  have:=wpAny_of_seq (md:= .any) (Q' := Q) (l.drop n) n i o w' (fun j=>by simp[List.getElem?_drop]) (by rw[m];exact u.1) (u.2 w' (Pure.below q))
  rwa [m]at this) _ _ _ _ ⟨_,jV w⟩ H
 rw[b,show n+(l.toArray.size-n)=l.toArray.size by omega]at this
 exact this
theorem jg (w:World):∃x:Ext,w=over w x:=⟨⟨#[],w.drawn⟩,by simp[over]⟩
theorem cP {w:World}{b:Nat}{cs:Array Value}{T:TypeId}{f:Nat × Nat}(h:w.heap[b]?=some (.cells cs T f))(k:Nat)(v:Value):(w.setCell ⟨b,k,none⟩ v).heap[b]?=some (.cells (cs.setIfInBounds k v) T f):=by
 simp[World.setCell,Array.getElem?_modify,h]
theorem dJ {w:World}{b a:Nat}{o:Obj}(h:w.heap[a]?=some o)(i:a ≠ b)(k:Nat)(v:Value):(w.setCell ⟨b,k,none⟩ v).heap[a]?=some o:=by
 rw[Below.heap_setCell _ _ _ _ i];exact h
def kJ:List Nat->Nat
 | []=>0
 | t::ts=>2 ^ t ||| kJ ts
theorem kZ (t:Nat)(ts:List Nat):(kJ ts).testBit t=true↔t∈ts:=by
 induction ts with
 | nil=>simp[kJ]
 | cons a l ih=>
  simp only[kJ,Nat.testBit_or,Nat.testBit_two_pow,Bool.or_eq_true,decide_eq_true_eq,ih,List.mem_cons];constructor
  ·rintro (h|h)
   ·exact .inl h.symm
   ·exact .inr h
  ·rintro (h|h)
   ·exact .inl h.symm
   ·exact .inr h
structure Sm where
 wr:Nat
 rd:Nat
 af:Nat
def iZ (ops:Array Oper)(o:Oper):Sm:=
 ⟨kJ o.dst.toList,kJ (o.looksAt ops),kJ ((o.after.toList.filter (fun e=>Region.binds .any e)).map (·.on))⟩
theorem x9 {ops:Array Oper}{o:Oper}{k:Nat}:(iZ ops o).af.testBit k=true↔∃e,e∈o.after/\Region.binds .any e=true/\e.on=k:=by
 simp only[iZ,kZ,List.mem_map,List.mem_filter,Array.mem_toList_iff];constructor
 ·rintro ⟨e,⟨a,b⟩,h⟩;exact⟨e,a,b,h⟩
 ·rintro ⟨e,a,b,h⟩;exact⟨e,⟨a,b⟩,h⟩
def ya (k:Nat)(x y:Sm):Bool:=y.af.testBit k || ((x.wr &&& (y.rd ||| y.wr)) == 0 && (y.wr &&& x.rd) == 0)
theorem wW {a b:Nat}(h:(a &&& b)=0)(d:Nat)(i:a.testBit d=true):b.testBit d=false:=by
 have:=congrArg (·.testBit d) h
 simp only[Nat.testBit_and,i,Bool.true_and,Nat.zero_testBit]at this;exact this
theorem vR {ops:Array Oper}{x y:Oper}{k:Nat}(h:ya k (iZ ops x) (iZ ops y)=true):(∃e,e∈y.after/\Region.binds .any e=true/\e.on=k)\/x.apart ops y=true:=by
 simp only[ya,Bool.or_eq_true,Bool.and_eq_true,beq_iff_eq]at h;rcases h with h|⟨n,o⟩
 ·exact .inl (x9.1 h)
 ·right
  unfold Oper.apart;have p:∀d,x.dst=some d->d ∉ y.looksAt ops/\y.dst≠some d:=by
   intro d b;have:=wW n d (by simp[iZ,b,kZ])
   simp only[Nat.testBit_or,Bool.or_eq_false_iff]at this;refine⟨fun hm=>?_,fun hm=>?_⟩
   ·have:=this.1;rw[show(iZ ops y).rd=kJ (y.looksAt ops)from rfl,(kZ _ _).2 hm]at this;cases this
   ·have:=this.2;rw[show(iZ ops y).wr=kJ y.dst.toList from rfl,(kZ _ _).2 (by simp[hm])]at this;cases this
  have i:∀d,y.dst=some d->d ∉ x.looksAt ops:=by
   intro d b hm;have:=wW o d (by simp[iZ,b,kZ])
   rw[show(iZ ops x).rd=kJ (x.looksAt ops)from rfl,(kZ _ _).2 hm]at this;cases this
  cases q:x.dst with
  | none=>
   cases a:y.dst with
   | none=>rfl
   | some d=>have:=i d a;simp[this]
  | some d=>
   obtain⟨j,l⟩:=p d q;cases a:y.dst with
   | none=>simp[j]
   | some m =>
    have:=i m a;rw[a]at l;have r:m ≠ d:=fun he=>l (by rw[he])
    simp[j,this,r]
def qW (n:Nat):List Sm->Nat->Bool
 | [],_=>true
 | x::rest,k=>(x.af >>> k) == 0 && (if k<n then rest.all (ya k x)else k == n || x.af.testBit (k-1)) && qW n rest (k+1)
def mK (m k:Nat)(listed:Array Bool):Prop:=listed.size=m/\∀j,j<m->listed[j]?=some (decide (j<k))
theorem mK.getD {m k j:Nat}{a:Array Bool}(h:mK m k a)(i:j<m)(b:Bool):a.getD j b=decide (j<k):=by
 have:=h.2 j i;simp[Array.getD_eq_getD_getElem?,this]
theorem mK.out {m k j:Nat}{a:Array Bool}(h:mK m k a)(i:m<=j)(b:Bool):a.getD j b=b:=by
 have:a[j]?=none:=Array.getElem?_eq_none (by rw[h.1];exact i)
 simp[Array.getD_eq_getD_getElem?,this]
theorem mK.next {m k:Nat}{a:Array Bool}(h:mK m k a)(_hk:k<m):mK m (k+1) (a.setIfInBounds k true):=by
 refine⟨by simp[h.1],fun j i=>?_⟩
 rw[Array.getElem?_setIfInBounds];by_cases b:k=j
 ·subst b;rw[if_pos rfl,if_pos (by rw[h.1];exact i)];simp
 ·rw[if_neg b,h.2 j i]
  congr 1
  by_cases l:j<k
  ·simp[l];omega
  ·simp[l];omega
theorem mK.zero (m:Nat):mK m 0 (Array.replicate m false):=⟨by simp,fun j a=>by simp[a]⟩
theorem Fu {a k:Nat}(h:a >>> k=0)(j:Nat)(i:a.testBit j=true):j<k:=by
 rcases Nat.lt_or_ge j k with b | b
 ·exact b
 ·have:=congrArg (·.testBit (j-k)) h
  simp only[Nat.testBit_shiftRight,Nat.zero_testBit]at this;rw[show k+(j-k)=j by omega,i]at this
  cases this
section
variable {l0:List Oper}
theorem pV {k:Nat}{o:Oper}{a:Array Bool}(hl:mK l0.toArray.size k a)(b:l0.toArray[k]?=some o)(h:((iZ l0.toArray o).af >>> k)=0):k∈Region.ready .any l0.toArray a:=by
 have hk:k<l0.toArray.size:=(Array.getElem?_eq_some_iff.1 b).1;refine mem_ready.2 ⟨by rw[hl.getD hk];simp,o,b,fun e he i=>?_⟩
 have:=Fu h e.on (x9.2 ⟨e,he,i,rfl⟩);rw[hl.getD (by omega)]
 simpa using this
theorem yb {k:Nat}{o:Oper}{l:List Oper}{a:Array Bool}(hl:mK l0.toArray.size k a)(m:l0.toArray[k]?=some o)(n:∀j,l[j]?=l0.toArray[k+1+j]?)(h:(l.map (iZ l0.toArray)).all (ya k (iZ l0.toArray o))=true) :
  Region.free .any l0.toArray a k=true:=by
 unfold Region.free;rw[m];simp only[List.all_eq_true,List.mem_range];intro j b;by_cases p:j=k
 ·simp[p]
 by_cases q:j<k
 ·rw[hl.getD b];simp[q]
 ·have i:=n (j-(k+1))
  rw[show k+1+(j-(k+1))=j by omega]at i
  rw[List.all_eq_true]at h;have r:=h (iZ l0.toArray l0.toArray[j]) (List.mem_map.2 ⟨l0.toArray[j],asw (by rw[i];exact Array.getElem?_eq_getElem b),rfl⟩)
  rw[Array.getElem?_eq_getElem b];rcases vR r with⟨e,he,s,hk⟩|t
  ·have:(l0.toArray[j].after.any fun e=>Region.binds .any e && e.on == k)=true:=Array.any_eq_true'.2 ⟨e,he,by simp[s,hk]⟩
   simp only[this,Bool.true_or,Bool.or_true]
  ·simp only[t,Bool.or_true]
theorem Mc (l:List Oper):∀(k:Nat)(a:Array Bool),mK l0.toArray.size k a->(∀j,l[j]?=l0.toArray[k+j]?)->k+l.length=l0.toArray.size ->
  qW l0.toArray.size (l.map (iZ l0.toArray)) k=true->Region.lexFrom .any l0.toArray l.length k a=true:=by
 induction l with
 | nil=>
  intro k a hl _ hk _;simp only[List.length_nil,Region.lexFrom,List.isEmpty_iff];refine List.eq_nil_iff_forall_not_mem.2 fun j q=>?_
  have m:=(mem_ready.1 q).1;rcases Nat.lt_or_ge j l0.toArray.size with h|h
  ·rw[hl.getD h]at m;simp at m hk;simp at h;omega
  ·rw[hl.out h]at m;cases m
 | cons o l ih=>
  intro k a hl p hk h;have n:l0.toArray[k]?=some o:=by simpa using (p 0).symm
  have b:k<l0.toArray.size:=(Array.getElem?_eq_some_iff.1 n).1;have i : ∀j,l[j]?=l0.toArray[k+1+j]? := fun j=>by have:=p (j+1);simpa[Nat.add_assoc,Nat.add_comm 1 j] using this
  simp only[List.map_cons,qW,Bool.and_eq_true,beq_iff_eq,if_pos b]at h;simp only[List.length_cons,Region.lexFrom,Bool.and_eq_true];refine⟨⟨by simpa using pV hl n h.1.1,yb hl n i h.1.2⟩,ih (k+1) _ (hl.next b) i (by simp only[List.length_cons]at hk;omega) h.2⟩
end
def Rl (l:List Oper):Bool:=Region.noSelect l.toArray && qW l.toArray.size (l.map (iZ l.toArray)) 0
theorem yc {l:List Oper}(h:Rl l=true):Region.lexB .any l.toArray=true:=by
 simp only[Rl,Bool.and_eq_true]at h;simp only[Region.lexB,Bool.and_eq_true];exact⟨h.1,Mc l 0 _ (mK.zero _) (by simp) (by simp) h.2⟩
section
variable {l0:List Oper}
theorem zV (l:List Oper):∀(n k:Nat)(m:Array Bool),n<=k->mK l0.toArray.size k m->(∀j,l[j]?=l0.toArray[k+j]?)->k+l.length=l0.toArray.size ->
  qW n (l.map (iZ l0.toArray)) k=true->Region.seqB .any l0.toArray l.length k m=true:=by
 induction l with
 | nil=>
  intro n k m _ hl _ hk _;simp only[List.length_nil,Region.seqB,List.isEmpty_iff];refine List.eq_nil_iff_forall_not_mem.2 fun j z=>?_
  have r:=(mem_ready.1 z).1;rcases Nat.lt_or_ge j l0.toArray.size with h|h
  ·rw[hl.getD h]at r;simp at r hk;simp at h;omega
  ·rw[hl.out h]at r;cases r
 | cons o l ih=>
  intro n k m T hl L hk h;have M:l0.toArray[k]?=some o:=by simpa using (L 0).symm
  have A:k<l0.toArray.size:=(Array.getElem?_eq_some_iff.1 M).1;have u : ∀j,l[j]?=l0.toArray[k+1+j]? := fun j=>by have:=L (j+1);simpa[Nat.add_assoc,Nat.add_comm 1 j] using this
  simp only[List.map_cons,qW,Bool.and_eq_true,beq_iff_eq]at h;simp only[List.length_cons,Region.seqB,Bool.and_eq_true,decide_eq_true_eq];refine⟨?_,ih n (k+1) _ (by omega) (hl.next A) u (by simp only[List.length_cons]at hk;omega) h.2⟩
  have v:=pV hl M h.1.1;have B:∀j,j∈Region.ready .any l0.toArray m->j=k:=by
   intro j z;obtain⟨r,U,N,x⟩:=mem_ready.1 z;have D:j<l0.toArray.size:=(Array.getElem?_eq_some_iff.1 N).1;rw[hl.getD D]at r;by_cases E:j=k
   ·exact E
   ·exfalso
    have V:k<j:=by simp at r;omega
    have W:∀(y:List Oper) (q:Nat),n<q->qW n (y.map (iZ l0.toArray)) q=true->∀i (o':Oper),y[i]?=some o' -> (iZ l0.toArray o').af.testBit (q+i-1)=true:=by
     intro y;induction y with
     | nil=>intro q _ _ i o' hi;simp at hi
     | cons X y G=>
      intro q hq hB i o' hi;simp only[List.map_cons,qW,Bool.and_eq_true]at hB;cases i with
      | zero=>
       simp at hi;subst hi;have s:=hB.1.2;rw[if_neg (by omega)]at s
       simp only[Bool.or_eq_true,beq_iff_eq]at s;rcases s with s|s
       ·omega
       ·simpa using s
      | succ i=>
       have:=G (q+1) (by omega) hB.2 i o' (by simpa using hi)
       rwa [show q+1+i-1=q+(i+1)-1 by omega]at this
    have O:=u (j-(k+1));rw[show k+1+(j-(k+1))=j by omega,N]at O
    have Q:=W l (k+1) (by omega) h.2 _ U O
    rw[show k+1+(j-(k+1))-1=j-1 by omega]at Q
    obtain⟨e,he,Y,H⟩:=x9.1 Q;have S:=x e he Y;rw[H,hl.getD (by omega)]at S
    simp at S;omega
  have I:(Region.ready .any l0.toArray m).Nodup:=by unfold Region.ready;exact(List.nodup_range).filter _
  generalize Region.ready .any l0.toArray m=R at *;match R,v,B,I with
  | [a],_,p,_=>rw[p a (by simp)]
  | a::b::t,_,p,J=>
   have Z:=p a (by simp)
   have e2:=p b (by simp)
   subst Z;subst e2;simp at J
theorem wX (l:List Oper):∀(n k g f:Nat)(a:Array Bool),mK l0.toArray.size k a->(∀j,l[j]?=l0.toArray[k+j]?)->k+l.length=l0.toArray.size->k+f=n->n+g=l0.toArray.size ->
  qW n (l.map (iZ l0.toArray)) k=true->Region.lexHead .any l0.toArray g f k a=true:=by
 induction l with
 | nil=>
  intro n k g f a hl b hk u t h;have m:f=0:=by simp only[List.length_nil]at hk;omega
  have p:g=0:=by simp only[List.length_nil]at hk;omega
  subst m p;exact zV [] n k a (by omega) hl b hk h
 | cons o l ih=>
  intro n k g f a hl b hk u t h;cases f with
  | zero=>
   have q:g=(o::l).length:=by omega
   subst q;exact zV (o::l) n k a (by omega) hl b hk h
  | succ f=>
   have r:l0.toArray[k]?=some o:=by simpa using (b 0).symm
   have s:k<l0.toArray.size:=(Array.getElem?_eq_some_iff.1 r).1;have i : ∀j,l[j]?=l0.toArray[k+1+j]? := fun j=>by have:=b (j+1);simpa[Nat.add_assoc,Nat.add_comm 1 j] using this
   simp only[List.map_cons,qW,Bool.and_eq_true,beq_iff_eq,if_pos (show k<n by omega)]at h
   simp only[Region.lexHead,Bool.and_eq_true];refine⟨⟨by simpa using pV hl r h.1.1,yb hl r i h.1.2⟩,ih n (k+1) g f _ (hl.next s) i (by simp only[List.length_cons]at hk;omega) (by omega) t h.2⟩
end
def zW (n:Nat):List Sm->Nat->Bool
 | [],_=>true
 | _::rest,k=>(if k<n then(rest.take (n-k)).any (fun y=>y.af.testBit k)else true) && zW n rest (k+1)
def tO (n:Nat):List Sm->Nat->Bool
 | [],_=>true
 | x::rest,k=>(decide (k<=n) || x.af.testBit (k-1)) && tO n rest (k+1)
section
variable {l0:List Oper}
theorem zX {j i:Nat}{o:Oper}(b:l0.toArray[j]?=some o)(h:(iZ l0.toArray o).af.testBit i=true):Region.waitsFor .any l0.toArray j i=true:=by
 obtain⟨e,he,k,a⟩:=x9.1 h;unfold Region.waitsFor;rw[b];exact Array.any_eq_true'.2 ⟨e,he,by simp[k,a]⟩
theorem tP (n:Nat)(l:List Oper):∀(k:Nat),(∀j,l[j]?=l0.toArray[k+j]?)->tO n (l.map (iZ l0.toArray)) k=true->∀t,k<=t->t<k+l.length->decide (t<=n)=true\/Region.waitsFor .any l0.toArray t (t-1)=true:=by
 induction l with
 | nil=>intro k _ _ t m a;simp at a;omega
 | cons o l ih=>
  intro k i h t m a;have p:l0.toArray[k]?=some o:=by simpa using (i 0).symm
  have b : ∀j,l[j]?=l0.toArray[k+1+j]? := fun j=>by have:=i (j+1);simpa[Nat.add_assoc,Nat.add_comm 1 j] using this
  simp only[List.map_cons,tO,Bool.and_eq_true,Bool.or_eq_true]at h;by_cases q:t=k
  ·subst q
   exact h.1.imp id (zX p)
  ·exact ih (k+1) b h.2 t (by omega) (by simp only[List.length_cons]at a;omega)
theorem wY (n:Nat)(l:List Oper):∀(k:Nat),(∀j,l[j]?=l0.toArray[k+j]?)->zW n (l.map (iZ l0.toArray)) k=true->∀i,k<=i->i<n->i<k+l.length->∃j,i<j/\j<=n/\Region.waitsFor .any l0.toArray j i=true:=by
 induction l with
 | nil=>intro k _ _ i t _ m;simp at m;omega
 | cons o l ih=>
  intro k u h i t p m;have a : ∀j,l[j]?=l0.toArray[k+1+j]? := fun j=>by have:=u (j+1);simpa[Nat.add_assoc,Nat.add_comm 1 j] using this
  simp only[List.map_cons,zW,Bool.and_eq_true]at h;by_cases v:i=k
  ·subst v
   have r:=h.1;rw[if_pos p,←List.map_take,List.any_map,List.any_eq_true]at r;obtain⟨y,x,z⟩:=r;obtain⟨q,b⟩:=List.mem_iff_getElem?.1 x;rw[List.getElem?_take]at b;split at b
   ·rename_i A
    have s:=a q;rw[b]at s;exact⟨i+1+q,by omega,by omega,zX s.symm z⟩
   ·cases b
  ·exact ih (k+1) a h.2 i (by omega) p (by simp only[List.length_cons]at m;omega)
end
def tQ (l:List Oper)(n:Nat):Bool:=
 Region.noSelect l.toArray && decide (n<l.toArray.size) && qW n (l.map (iZ l.toArray)) 0 && zW n (l.map (iZ l.toArray)) 0 && tO n (l.map (iZ l.toArray)) 0
theorem qX {l:List Oper}{n:Nat}(h:tQ l n=true):Region.lexTailB .any l.toArray n=true:=by
 simp only[tQ,Bool.and_eq_true,decide_eq_true_eq]at h;obtain⟨⟨⟨⟨m,k⟩,o⟩,p⟩,q⟩:=h;simp only[Region.lexTailB,Bool.and_eq_true,decide_eq_true_eq];refine⟨⟨⟨⟨m,k⟩,?_⟩,?_⟩,wX l n 0 _ n _ (mK.zero _) (by simp) (by simp) (by omega) (by omega) o⟩
 ·unfold Region.sinkB
  rw[List.all_eq_true];intro i hi;have a := List.mem_range.1 hi;obtain⟨j,r,v,s⟩:=wY n l 0 (by simp) p i (by omega) a (by simp at k;omega)
  exact List.any_eq_true.2 ⟨j,List.mem_range.2 (by omega),by simp[r,s]⟩
 ·unfold Region.chainB
  rw[List.all_eq_true];intro t u;have b := List.mem_range.1 u;rw[Bool.or_eq_true];exact tP n l 0 (by simp) q t (by omega) (by simp at b;omega)
theorem bK {P:Program}{id:Nat}{Q:Exit->Act->World->Prop}{a:Act}{w:World}{l:List Oper}(hm:P.follows .mixedOrders=true)(hB:Rl l=true)
  (h:wpQuiet P l.toArray (fun w' => ∃x:Ext,w'=over w x) (fun b => ∀w',Below w.heap.size w w' -> Q .normal b w') l a):(Code.region id l.toArray true).wp P Q a w:=
 dK hm (yc hB) h
theorem bN {P:Program}{id:Nat}{Q:Exit->Act->World->Prop}{a:Act}{w:World}{l:List Oper}(n:Nat)(hm:P.follows .mixedOrders=true)(hB:tQ l n=true)
  (h:wpQuiet P l.toArray (fun w' => ∃x:Ext,w'=over w x) (fun b => ∀w',Below w.heap.size w w' -> wpList P l.toArray Q (l.drop n) b w') (l.take n) a):(Code.region id l.toArray true).wp P Q a w:=
 tN n hm (qX hB) h
structure aQ where
 n:Int
 k:ByteArray
 m:Int
def aQ.zero:aQ:=⟨0,⟨#[]⟩,0⟩
def oX (c:aQ):List Value:=[.int .u64 c.n,.string c.k,.int .u64 c.m]
def flat (L:List aQ):List Value:=L.flatMap oX
theorem zY (L:List aQ):(flat L).length=L.length*3:=by
 induction L with
 | nil=>rfl
 | cons c L ih=>simp only[flat,List.flatMap_cons,List.length_append,List.length_cons]at *;rw[ih];simp[oX];omega
theorem tA (L:List aQ):∀(i:Nat)(c:aQ),L[i]?=some c->(flat L)[i*3]?=some (.int .u64 c.n)/\(flat L)[i*3+1]?=some (.string c.k)/\(flat L)[i*3+2]?=some (.int .u64 c.m):=by
 induction L with
 | nil=>intro i c h;simp at h
 | cons d L ih=>
  intro i c h;cases i with
  | zero=>
   simp at h;subst h;simp[flat,oX]
  | succ i=>
   have a := ih i c (by simpa using h)
   have e:∀j,(flat (d::L))[(i+1)*3+j]?=(flat L)[i*3+j]? := by
    intro j;show(oX d++flat L)[(i+1)*3+j]?=_
    rw[List.getElem?_append_right (by simp[oX];omega)]
    congr 1
    simp[oX];omega
   refine⟨?_,?_,?_⟩
   ·have:=e 0;simp only[Nat.add_zero]at this;rw[this];exact a.1
   ·rw[e 1];exact a.2.1
   ·rw[e 2];exact a.2.2
theorem zZ (L:List aQ):∀(i:Nat)(c:aQ),(((flat L).set (i*3) (.int .u64 c.n)).set (i*3+1) (.string c.k)).set (i*3+2) (.int .u64 c.m)=flat (L.set i c):=by
 induction L with
 | nil=>intro i c;simp[flat]
 | cons d L ih=>
  intro i c;cases i with
  | zero=>simp[flat,oX]
  | succ i=>
   have e:∀(l:List Value) (j:Nat) (v:Value),(oX d++l).set ((i+1)*3+j) v=oX d++l.set (i*3+j) v:=by
    intro l j v;rw[List.set_append_right _ _ (by simp[oX];omega)]
    congr 1
    congr 1
    simp[oX];omega
   have a:∀(l:List Value) (v:Value),(oX d++l).set ((i+1)*3) v=oX d++l.set (i*3) v:=fun l v=>by simpa using e l 0 v
   show(((oX d++flat L).set ((i+1)*3) _).set ((i+1)*3+1) _).set ((i+1)*3+2) _=oX d++flat (L.set i c)
   rw[a,e,e,ih]
def ah (L:List aQ)(i:Int):aQ:=if 0<=i then(L[i.toNat]?).getD aQ.zero else aQ.zero
def aR (L:List aQ)(i:Int)(c:aQ):List aQ:=if 0<=i then L.set i.toNat c else L
theorem bg (L:List aQ)(i:Int)(c:aQ):(aR L i c).length=L.length:=by unfold aR;split <;> simp
structure eU (S:List Nat)(w w':World):Prop where
 os:w'.os=w.os
 tape:w'.tape=w.tape
 output:w'.output=w.output
 size:w.heap.size<=w'.heap.size
 block:∀k,k<w.heap.size->k ∉ S->w'.heap[k]?=w.heap[k]?
theorem eU.refl (S:List Nat)(w:World):eU S w w:=⟨rfl,rfl,rfl,Nat.le_refl _,fun _ _ _=>rfl⟩
theorem eU.trans {S:List Nat}{a b c:World}(h:eU S a b)(k:eU S b c):eU S a c:=
 ⟨k.os.trans h.os,k.tape.trans h.tape,k.output.trans h.output,Nat.le_trans h.size k.size,fun i hi j=>(k.block i (Nat.lt_of_lt_of_le hi h.size) j).trans (h.block i hi j)⟩
theorem eU.mono {S i:List Nat}{a b:World}(h:eU S a b)(j:∀x,x∈S->x∈i):eU i a b:=
 ⟨h.os,h.tape,h.output,h.size,fun k hk l=>h.block k hk (fun m=>l (j k m))⟩
theorem eU.of_below {S:List Nat}{a b:World}(h:Below a.heap.size a b):eU S a b:=
 ⟨h.os,h.tape,h.output,h.size,fun k hk _=>h.block k hk⟩
theorem eU.setCell {S:List Nat}{a w:World}(h:eU S a w){p:Addr}(hp:p.block∈S\/a.heap.size<=p.block)(u:Value):eU S a (w.setCell p u):=
 ⟨h.os,h.tape,h.output,by rw[World.size_setCell];exact h.size,fun k hk b=>by
  rw[Below.heap_setCell _ _ _ _ (fun he=>by subst he;exact hp.elim b (fun i => by omega))];exact h.block k hk b⟩
theorem eU.alloc {S:List Nat}{a w:World}(h:eU S a w)(o:Obj):eU S a (w.alloc o):=
 ⟨h.os,h.tape,h.output,by rw[World.size_alloc];have:=h.size;omega,fun k hk b=>by
  rw[Below.heap_alloc _ _ _ (by have:=h.size;omega)];exact h.block k hk b⟩
theorem eU.blk {S:List Nat}{w w':World}{k:Nat}{o:Obj}(h:eU S w w')(hk:w.heap[k]?=some o)(a:k ∉ S):w'.heap[k]?=some o:=by
 rw[h.block k (iB hk) a];exact hk
theorem eU.below {S:List Nat}{B:Nat}{a b:World}(h:eU S a b)(hB:B<=a.heap.size)(i:∀x,x∈S->B<=x):Below B a b:=
 ⟨h.os,h.tape,h.output,h.size,fun k hk=>h.block k (by omega) (fun j=>by have:=i k j;omega)⟩
structure bR (w:World)(bm bc:Nat)(L:List aQ)(acc:Int):Prop where
 hm:w.heap[bm]?=some (.cells #[.slice (some ⟨bc,0,none⟩) L.length L.length,.int .u64 acc] 135)
 hc:w.heap[bc]?=some (.cells (flat L).toArray 63)
 ne:bm≠bc
 len:L.length<=1048576
theorem bR.keep {S:List Nat}{w w':World}{a b:Nat}{L:List aQ}{acc:Int}(h:bR w a b L acc)(i:eU S w w')(j:a ∉ S)(k:b ∉ S):bR w' a b L acc:=
 ⟨i.blk h.hm j,i.blk h.hc k,h.ne,h.len⟩
theorem bR.same {w w':World}{a b:Nat}{L:List aQ}{acc:Int}(h:bR w a b L acc)(i:Below w.heap.size w w'):bR w' a b L acc:=
 ⟨cR i h.hm,cR i h.hc,h.ne,h.len⟩
theorem bR.alloc {w:World}{a b:Nat}{L:List aQ}{acc:Int}(h:bR w a b L acc)(o:Obj):bR (w.alloc o) a b L acc:=
 ⟨lT h.hm o,lT h.hc o,h.ne,h.len⟩
theorem bR.count {w:World}{b i:Nat}{L:List aQ}{acc:Int}(h:bR w b i L acc)(a:Int):bR (w.setCell ⟨b,1,none⟩ (.int .u64 a)) b i L a:=by
 refine⟨?_,dJ h.hc (Ne.symm h.ne) _ _,h.ne,h.len⟩;have:=cP h.hm 1 (.int .u64 a);simpa using this
theorem bR.cell {w:World}{b a:Nat}{L:List aQ}{acc:Int}(h:bR w b a L acc){i:Nat}{c:aQ}(hi:L[i]?=some c) :
  w.cell? ⟨a,i*3,none⟩=some (.int .u64 c.n)/\w.cell? ⟨a,i*3+1,none⟩=some (.string c.k)/\w.cell? ⟨a,i*3+2,none⟩=some (.int .u64 c.m):=by
 have:=tA L i c hi;simpa[bB h.hc] using this
theorem bR.store {w:World}{b a:Nat}{L:List aQ}{acc:Int}(h:bR w b a L acc)(i:Nat)(c:aQ) :
  bR (((w.setCell ⟨a,i*3,none⟩ (.int .u64 c.n)).setCell ⟨a,i*3+1,none⟩ (.string c.k)).setCell ⟨a,i*3+2,none⟩ (.int .u64 c.m)) b a (L.set i c) acc:=by
 refine⟨?_,?_,h.ne,by simpa using h.len⟩
 ·rw[List.length_set]
  exact dJ (dJ (dJ h.hm h.ne _ _) h.ne _ _) h.ne _ _
 ·have:=cP (cP (cP h.hc (i*3) (.int .u64 c.n)) (i*3+1) (.string c.k)) (i*3+2) (.int .u64 c.m)
  simpa[zZ] using this
theorem tB (w:World)(a b:Nat)(L:List aQ)(acc i:Int)(h:bR w a b L acc)(j:0<=i)(k:i<L.length) :
  Calls Tryz.prog 88 #[.pointer (some ⟨a,0,none⟩),.int .i64 i] w fun e w' => e=.returned (.bool true)/\w=w' := by
 have l:=bB h.hm;have hl:=h.len;go_enter Tryz.func88,Tryz.ntmps88
 go_wp2
 go_ret;exact⟨rfl,rfl⟩
theorem Fv (w:World)(a j:Nat)(L:List aQ)(acc i:Int)(h:bR w a j L acc)(b:i<0\/L.length<=i) :
  Calls Tryz.prog 88 #[.pointer (some ⟨a,0,none⟩),.int .i64 i] w fun e w' => e=.returned (.bool false)/\w=w' := by
 have l:=bB h.hm;have hl:=h.len;by_cases k:i<0
 ·clear b
  go_enter Tryz.func88,Tryz.ntmps88
  go_wp2
  go_ret;exact⟨rfl,rfl⟩
 ·have m:(L.length:Int)<=i:=by omega
  have n:0<=i:=by omega
  have o:decide (i<(L.length:Int))=false:=decide_eq_false (by omega)
  clear b k;go_enter Tryz.func88,Tryz.ntmps88
  go_wp2
  go_ret;exact⟨rfl,rfl⟩
theorem pX (w:World)(a b:Nat)(L:List aQ)(acc:Int)(h:bR w a b L acc) :
  Calls Tryz.prog 67 #[.pointer (some ⟨a,0,none⟩)] w fun e w' => e=.returned (.int .i64 L.length)/\w=w' := by
 have i:=bB h.hm;have hl:=h.len;go_enter Tryz.func67,Tryz.ntmps67
 go_wp2
 go_ret;exact⟨rfl,rfl⟩
theorem bR.lt {w:World}{a b:Nat}{L:List aQ}{acc:Int}(h:bR w a b L acc):a<w.heap.size/\b<w.heap.size:=⟨iB h.hm,iB h.hc⟩
theorem bR.free {w:World}{a b:Nat}{L:List aQ}{acc:Int}(h:bR w a b L acc):(∀k,w.frozen? ⟨a,k,none⟩=false)/\∀k,w.frozen? ⟨b,k,none⟩=false:=⟨dQ h.hm,dQ h.hc⟩
theorem Rm (w:World)(a b:Nat)(L:List aQ)(acc:Int)(i:Nat)(c:aQ)(h:bR w a b L acc)(hi:L[i]?=some c) :
  Calls Tryz.prog 44 #[.pointer (some ⟨a,0,none⟩),.int .i64 i] w fun e w' => e=.returned (.agg #[.int .u64 c.n,.string c.k,.int .u64 c.m])/\Below w.heap.size w w' := by
 have hl:=h.len;have j:i<L.length:=(asu.1 hi).1;obtain⟨l,o⟩:=h.lt;go_enter Tryz.func44,Tryz.ntmps44
 go_wp2_with fail
 refine(tB _ a b L acc i (h.alloc _) (by omega) (by omega)).mono ?_
 rintro e p ⟨rfl,rfl⟩;have q:=bB h.hm;obtain⟨r,s,t⟩:=h.cell hi;have b1:a≠w.heap.size:=by omega
 have b2:b≠w.heap.size:=by omega
 clear hi;go_wp2
 refine bodyPost_ret (v:= .agg #[.int .u64 c.n,.string c.k,.int .u64 c.m]) (by simp[results,Tryz.results44,go_sem]) rfl ⟨rfl,?_⟩
 exact(Below.refl _ _).alloc (Nat.le_refl _) _
theorem Yf (w:World)(a b:Nat)(L:List aQ)(acc i:Int)(h:bR w a b L acc)(j:i<0\/L.length<=i) :
  Calls Tryz.prog 44 #[.pointer (some ⟨a,0,none⟩),.int .i64 i] w fun e w' => e=.returned (.agg #[.int .u64 0,.string ⟨#[]⟩,.int .u64 0])/\Below w.heap.size w w' := by
 go_enter Tryz.func44,Tryz.ntmps44
 go_wp2_with fail
 refine(Fv _ a b L acc i (h.alloc _) j).mono ?_
 rintro e k ⟨rfl,rfl⟩;go_wp2
 refine bodyPost_ret (v:= .agg #[.int .u64 0,.string ⟨#[]⟩,.int .u64 0]) (by simp[results,Tryz.results44,go_sem]) rfl ⟨rfl,?_⟩
 exact(Below.refl _ _).alloc (Nat.le_refl _) _
theorem z8 (w:World)(a b:Nat)(L:List aQ)(acc i:Int)(h:bR w a b L acc) :
  Calls Tryz.prog 44 #[.pointer (some ⟨a,0,none⟩),.int .i64 i] w fun e w' => e=.returned (.agg #[.int .u64 (ah L i).n,.string (ah L i).k,.int .u64 (ah L i).m])/\Below w.heap.size w w' := by
 by_cases l:0<=i/\i<L.length
 ·obtain⟨n,rfl⟩:=Int.eq_ofNat_of_zero_le l.1
  have o:n<L.length:=by omega
  have e:L[n]?=some (ah L n):=by
   unfold ah;rw[if_pos (by omega)]
   simp[o]
  exact Rm w a b L acc n _ h e
 ·have e:ah L i=aQ.zero:=by
   unfold ah;by_cases j:0<=i
   ·rw[if_pos j,List.getElem?_eq_none (by omega)];rfl
   ·rw[if_neg j]
  rw[e];exact Yf w a b L acc i h (by omega)
theorem Rn (tmps:Array Value)(w:World)(b:Nat)(v0 v1 v2:Value)(hp:tmps[4]?=some (.pointer (some ⟨b,0,none⟩)))(hk:∀k,w.cell? ⟨b,k,none⟩=(#[v0,v1,v2]:Array Value)[k]?) :
  (results Tryz.f141 tmps).run Tryz.prog w=.ok (.agg #[v0,v1,v2]) w:=by
 simp[results,Tryz.results141,go_sem,hp,hk]
theorem tR (w:World)(a l:Nat)(L:List aQ)(acc i:Int)(h:bR w a l L acc)(t:0<=acc)(z:acc<=1000000000000) :
  Calls Tryz.prog 141 #[.pointer (some ⟨a,0,none⟩),.int .i64 i] w fun e w' => e=.returned (.agg #[.int .u64 (ah L i).n,.string (ah L i).k,.int .u64 (ah L i).m])/\bR w' a l (L) (acc+1)/\eU [a] w w' := by
 obtain⟨u,v⟩:=h.lt;have x:=bB h.hm;have y:=h.free.1;have b1:a≠w.heap.size:=by omega
 have o:=(h.count (acc+1)).alloc (.cells #[.int .u64 0,.string ⟨#[]⟩,.int .u64 0] 63);have p:=ea (w.setCell ⟨a,1,none⟩ (.int .u64 (acc+1))) (.cells #[.int .u64 0,.string ⟨#[]⟩,.int .u64 0] 63);rw[World.size_setCell]at p;go_enter Tryz.func141,Tryz.ntmps141
 go_wp2_with fail
 refine(z8 _ a l L (acc+1) i o).mono ?_
 rintro e A ⟨rfl,b⟩;have q:=cR b p;have j:=o.same b;have r:=b.size;simp only[World.size_alloc,World.size_setCell]at r;clear o p y x;have k1:=bB q;have f1:=dQ q;go_wp2
 have s:=cP (cP (cP q 0 (.int .u64 (ah L i).n)) 1 (.string (ah L i).k)) 2 (.int .u64 (ah L i).m);simp only[List.setIfInBounds_toArray,List.set_cons_zero,List.set_cons_succ]at s;refine bodyPost_ret (Rn _ _ w.heap.size _ _ _ rfl (bB s)) rfl ⟨rfl,?_,?_⟩
 ·exact⟨dJ (dJ (dJ j.hm b1 _ _) b1 _ _) b1 _ _,dJ (dJ (dJ j.hc (by omega) _ _) (by omega) _ _) (by omega) _ _,j.ne,j.len⟩
 ·refine eU.setCell (eU.setCell (eU.setCell ((((eU.refl _ _).setCell (.inl (by simp)) _).alloc _).trans (eU.of_below b)) (.inr ?_) _) (.inr ?_) _) (.inr ?_) _ <;> exact Nat.le_refl _
theorem Ro (w:World)(b a:Nat)(L:List aQ)(acc:Int)(i:Nat)(c:aQ)(h:bR w b a L acc)(hi:i<L.length) :
  Calls Tryz.prog 36 #[.pointer (some ⟨b,0,none⟩),.int .i64 i,.agg #[.int .u64 c.n,.string c.k,.int .u64 c.m]] w fun e w' => e=.returned (.tuple #[])/\bR w' b a (L.set i c) (acc)/\eU [a] w w' := by
 obtain⟨t,u⟩:=h.lt;have hl:=h.len;have b1:b≠w.heap.size:=by omega
 have b2:a≠w.heap.size:=by omega
 have j:=h.alloc (.cells #[.int .u64 c.n,.string c.k,.int .u64 c.m] 63);have l:=ea w (.cells #[.int .u64 c.n,.string c.k,.int .u64 c.m] 63);go_enter Tryz.func36,Tryz.ntmps36
 go_wp2_with fail
 refine(tB _ b a L acc i j (by omega) (by omega)).mono ?_
 rintro e x ⟨rfl,rfl⟩;obtain⟨W,o⟩:∃W,W=w.alloc (.cells #[.int .u64 c.n,.string c.k,.int .u64 c.m] 63):=⟨_,rfl⟩;go_upto_region 2 with(fail)
 have s:eU [a] w W:=by rw[o];exact(eU.refl _ _).alloc _
 rw[←o]at j l ⊢;clear o h b1 b2;have v:=bB j.hm;have k0:=bB l;refine bN 7 (by kernel_rfl) (by as_aux_lemma=>kernel_rfl) ?_
 simp only[List.take_succ_cons,List.take_zero,List.drop_succ_cons,List.drop_zero];repeat (go_big_quiet_step (fail))
 refine wpQuiet_nil ?_
 intro y p;have q:=j.same p;have r:=s.trans (eU.of_below p);clear v k0 l j s p;obtain⟨z,A,B⟩:=q.cell (asx hi);have D:=q.free.2;go_wp2
 go_end0
 exact⟨rfl,q.store i c,((r.setCell (.inl (by simp)) _).setCell (.inl (by simp)) _).setCell (.inl (by simp)) _⟩
theorem Yg (w:World)(a b:Nat)(L:List aQ)(acc i:Int)(c:aQ)(h:bR w a b L acc)(hi:i<0\/L.length<=i) :
  Calls Tryz.prog 36 #[.pointer (some ⟨a,0,none⟩),.int .i64 i,.agg #[.int .u64 c.n,.string c.k,.int .u64 c.m]] w fun e w' => e=.returned (.tuple #[])/\bR w' a b (L) (acc)/\eU [b] w w' := by
 have j:=h.alloc (.cells #[.int .u64 c.n,.string c.k,.int .u64 c.m] 63);go_enter Tryz.func36,Tryz.ntmps36
 go_wp2_with fail
 refine(Fv _ a b L acc i j hi).mono ?_
 rintro e l ⟨rfl,rfl⟩;go_wp2
 go_end0
 exact⟨rfl,j,(eU.refl _ _).alloc _⟩
def bU (L:List aQ)(i old:Int):Bool:=decide (0<=i) && decide (i<L.length) && decide ((ah L i).n=old)
theorem Rp (w:World)(a b:Nat)(L:List aQ)(acc i old:Int)(c:aQ)(h:bR w a b L acc)(l:0<=acc)(s:acc<=1000000000000)(hi:i<0\/L.length<=i) :
  Calls Tryz.prog 182 #[.pointer (some ⟨a,0,none⟩),.int .i64 i,.int .u64 old,.agg #[.int .u64 c.n,.string c.k,.int .u64 c.m]] w fun e w' => e=.returned (.bool false)/\bR w' a b (L) (acc+1)/\eU [a,b] w w' := by
 obtain⟨o,p⟩:=h.lt;have q:=bB h.hm;have r:=h.free.1;have b1:a≠w.heap.size:=by omega
 have j:=(h.count (acc+1)).alloc (.cells #[.int .u64 c.n,.string c.k,.int .u64 c.m] 63);go_enter Tryz.func182,Tryz.ntmps182
 go_wp2_with fail
 refine(Fv _ a b L (acc+1) i j hi).mono ?_
 rintro e t ⟨rfl,rfl⟩;clear q r;go_wp2
 go_ret;exact⟨rfl,j,((eU.refl _ _).setCell (.inl (by simp)) _).alloc _⟩
theorem Yh (w:World)(a b:Nat)(L:List aQ)(acc:Int)(i:Nat)(old:Int)(c d:aQ)(h:bR w a b L acc)(l:0<=acc)(y:acc<=1000000000000)(hi:L[i]?=some d)(z:(d.n != old)=true) :
  Calls Tryz.prog 182 #[.pointer (some ⟨a,0,none⟩),.int .i64 i,.int .u64 old,.agg #[.int .u64 c.n,.string c.k,.int .u64 c.m]] w fun e w' => e=.returned (.bool false)/\bR w' a b (L) (acc+1)/\eU [a,b] w w' := by
 obtain⟨o,p⟩:=h.lt;have hl:=h.len;have q:i<L.length:=(asu.1 hi).1;have r:=bB h.hm;have s:=h.free.1;have b1:a≠w.heap.size:=by omega
 have j:=(h.count (acc+1)).alloc (.cells #[.int .u64 c.n,.string c.k,.int .u64 c.m] 63);have t:=ass hi;clear hi;go_enter Tryz.func182,Tryz.ntmps182
 go_wp2_with fail
 refine(tB _ a b L (acc+1) i j (by omega) (by omega)).mono ?_
 rintro e A ⟨rfl,rfl⟩;obtain⟨B,u,v⟩:=j.cell t.out;have x := bB j.hm;clear r s u v;go_wp2
 go_ret;exact⟨rfl,j,((eU.refl _ _).setCell (.inl (by simp)) _).alloc _⟩
theorem Rq (w:World)(a j:Nat)(L:List aQ)(acc:Int)(i:Nat)(old:Int)(c d:aQ)(h:bR w a j L acc)(B:0<=acc)(H:acc<=1000000000000)(hi:L[i]?=some d)(I:(d.n != old)=false) :
  Calls Tryz.prog 182 #[.pointer (some ⟨a,0,none⟩),.int .i64 i,.int .u64 old,.agg #[.int .u64 c.n,.string c.k,.int .u64 c.m]] w fun e w' => e=.returned (.bool true)/\bR w' a j (L.set i c) (acc+1)/\eU [a,j] w w' := by
 obtain⟨D,E⟩:=h.lt;have hl:=h.len;have G:i<L.length:=(asu.1 hi).1;have o:=bB h.hm;have u:=h.free.1;have b1:a≠w.heap.size:=by omega
 have b:=(h.count (acc+1)).alloc (.cells #[.int .u64 c.n,.string c.k,.int .u64 c.m] 63);have l:=ea (w.setCell ⟨a,1,none⟩ (.int .u64 (acc+1))) (.cells #[.int .u64 c.n,.string c.k,.int .u64 c.m] 63);rw[World.size_setCell]at l;have v:=ass hi;clear hi;go_enter Tryz.func182,Tryz.ntmps182
 go_wp2_with fail
 refine(tB _ a j L (acc+1) i b (by omega) (by omega)).mono ?_
 rintro e J ⟨rfl,rfl⟩;obtain⟨x,y,z⟩:=b.cell v.out;have p := bB b.hm;clear o u y z;go_upto_region 4 with(fail)
 clear x p;obtain⟨W,q⟩:∃W,W=(w.setCell ⟨a,1,none⟩ (.int .u64 (acc+1))).alloc (.cells #[.int .u64 c.n,.string c.k,.int .u64 c.m] 63):=⟨_,rfl⟩;have A:eU [a,j] w W:=by rw[q];exact((eU.refl _ _).setCell (.inl (by simp)) _).alloc _
 rw[←q]at b l ⊢;clear q h b1;have o:=bB b.hm;have k0:=bB l;refine bN 7 (by kernel_rfl) (by as_aux_lemma=>kernel_rfl) ?_
 simp only[List.take_succ_cons,List.take_zero,List.drop_succ_cons,List.drop_zero];repeat (go_big_quiet_step (fail))
 refine wpQuiet_nil ?_
 intro M r;have s:=b.same r;have t:=A.trans (eU.of_below r);clear o k0 l b A r;obtain⟨x,y,z⟩:=s.cell v.out;have u:=s.free.2;go_wp2
 go_ret;exact⟨rfl,s.store i c,((t.setCell (.inl (by simp)) _).setCell (.inl (by simp)) _).setCell (.inl (by simp)) _⟩
theorem ye {L:List aQ}{n:Nat}(a:n<L.length):L[n]?=some (ah L n):=by
 unfold ah;rw[if_pos (by omega)]
 simp[a]
theorem tS (w:World)(a j:Nat)(L:List aQ)(acc i old:Int)(c:aQ)(h:bR w a j L acc)(b:0<=acc)(o:acc<=1000000000000) :
  Calls Tryz.prog 182 #[.pointer (some ⟨a,0,none⟩),.int .i64 i,.int .u64 old,.agg #[.int .u64 c.n,.string c.k,.int .u64 c.m]] w fun e w' => e=.returned (.bool (bU L i old))/\bR w' a j (if bU L i old then aR L i c else L) (acc+1)/\eU [a,j] w w' := by
 by_cases q:0<=i/\i<L.length
 ·obtain⟨n,rfl⟩:=Int.eq_ofNat_of_zero_le q.1
  have p:n<L.length:=by omega
  by_cases l:(ah L n).n=old
  ·have e:bU L n old=true:=by simp[bU,l];omega
   rw[e,if_pos rfl];exact Rq w a j L acc n old c _ h b o (ye p) (by simp[l])
  ·have e:bU L n old=false:=by simp[bU,l]
   rw[e];exact Yh w a j L acc n old c _ h b o (ye p) (by simp[l])
 ·have e:bU L i old=false:=by
   simp only[bU,Bool.and_eq_false_iff,decide_eq_false_iff_not];left
   omega
  rw[e];exact Rp w a j L acc i old c h b o (by omega)
theorem mY (w:World)(a b:Nat)(L:List aQ)(acc i:Int)(c:aQ)(h:bR w a b L acc) :
  Calls Tryz.prog 36 #[.pointer (some ⟨a,0,none⟩),.int .i64 i,.agg #[.int .u64 c.n,.string c.k,.int .u64 c.m]] w fun e w' => e=.returned (.tuple #[])/\bR w' a b (aR L i c) (acc)/\eU [b] w w' := by
 by_cases l:0<=i/\i<L.length
 ·obtain⟨n,rfl⟩:=Int.eq_ofNat_of_zero_le l.1
  exact Ro w a b L acc n c h (by omega)
 ·have e:aR L i c=L:=by
   unfold aR;by_cases j:0<=i
   ·rw[if_pos j,List.set_eq_of_length_le (by omega)]
   ·rw[if_neg j]
  rw[e];exact Yg w a b L acc i c h (by omega)
theorem Md (w:World)(a b:Nat)(L:List aQ)(acc i:Int)(c:aQ)(h:bR w a b L acc)(j:0<=acc)(u:acc<=1000000000000) :
  Calls Tryz.prog 79 #[.pointer (some ⟨a,0,none⟩),.int .i64 i,.agg #[.int .u64 c.n,.string c.k,.int .u64 c.m]] w fun e w' => e=.returned (.tuple #[])/\bR w' a b (aR L i c) (acc+1)/\eU [a,b] w w' := by
 obtain⟨l,o⟩:=h.lt;have p:=bB h.hm;have q:=h.free.1;have b1:a≠w.heap.size:=by omega
 have r:=(h.count (acc+1)).alloc (.cells #[.int .u64 c.n,.string c.k,.int .u64 c.m] 63);go_enter Tryz.func79,Tryz.ntmps79
 go_wp2_with fail
 refine(mY _ a b L (acc+1) i c r).mono ?_
 rintro e v ⟨rfl,s,t⟩;clear p q;go_wp2
 go_end0
 exact⟨rfl,s,(((eU.refl _ _).setCell (.inl (by simp)) _).alloc _).trans (t.mono (by simp))⟩
theorem wZ (n:Nat):madeCells #[.int .u64 0,.string ⟨#[]⟩,.int .u64 0] (n*3)=(flat (List.replicate n aQ.zero)).toArray:=by
 apply Array.ext_getElem?
 intro k;by_cases hk:k<n*3
 ·have a:=tA (List.replicate n aQ.zero) (k / 3) aQ.zero (by rw[List.getElem?_replicate,if_pos (by omega)])
  have hm:k%3=0\/k%3=1\/k%3=2:=by omega
  have e:(madeCells #[.int .u64 0,.string ⟨#[]⟩,.int .u64 0] (n*3))[k]?=some (#[.int .u64 0,.string ⟨#[]⟩,.int .u64 0][k%3]!):=by
   simp[madeCells,hk]
  rw[e];simp only[List.getElem?_toArray];rcases hm with h|h|h
  ·rw[show k=k / 3*3 by omega,a.1];simp[aQ.zero]
  ·rw[show k=k / 3*3+1 by omega,a.2.1];simp[aQ.zero]
  ·rw[show k=k / 3*3+2 by omega,a.2.2];simp[aQ.zero]
 ·rw[Array.getElem?_eq_none (by simp[madeCells];omega),Array.getElem?_eq_none (by simp[zY];omega)]
theorem Aa:(Tryz.prog.info? 63).map (fun i=>(i.zero,i.size,i.bytes))=some (some (.agg #[.int .u64 0,.string ⟨#[]⟩,.int .u64 0]),3,32):=by kernel_rfl
theorem Fw (w:World)(n:Nat)(l:1<=n)(b:n<=1048576) :
  Calls Tryz.prog 109 #[.int .i64 n] w fun e w' => e=.returned (.tuple #[.pointer (some ⟨(w.heap.size+1),0,none⟩),.int .i64 0])/\bR w' (w.heap.size+1) w.heap.size (List.replicate n aQ.zero) 0/\Below w.heap.size w w' /\ w'.heap.size=w.heap.size+2:=by
 have h:∀w,(Instr.makeSlice 50 (.int .i64 n) (.int .i64 n)).run Tryz.prog w=.ok (.slice (some ⟨w.heap.size,0,none⟩) n n) (w.alloc (.cells (flat (List.replicate n aQ.zero)).toArray 63)):=by
  intro w;obtain⟨i,hi,j,k,a⟩:=info_parts Aa;have:=run_make w 50 63 i _ Tryz.underlying50 hi j .i64 .i64 (n:Int) n (by omega) (by omega) (by rw[a];omega) (by omega)
  rw[this,k,Int.toNat_natCast,show(Value.agg #[.int .u64 0,.string ⟨#[]⟩,.int .u64 0]).cells= #[.int .u64 0,.string ⟨#[]⟩,.int .u64 0]from rfl,wZ]
 go_enter Tryz.func109,Tryz.ntmps109
 go_wp2
 go_ret2
 refine⟨rfl,⟨?_,?_,by omega,by simpa using b⟩,((Below.refl _ _).alloc (Nat.le_refl _) _).alloc (by simp) _,by simp⟩
 ·have:=ea (w.alloc (.cells (flat (List.replicate n aQ.zero)).toArray 63)) (.cells #[.slice (some ⟨w.heap.size,0,none⟩) n n,.int .u64 0] 135)
  simpa using this
 ·exact lT (ea _ _) _
structure aC where
 foot:List Nat
 ok:World->Prop
 loc:∀w w':World,(∀b,b∈foot->w'.heap[b]?=w.heap[b]?)->ok w->ok w'
 dom:∀w:World,ok w->∀b,b∈foot->b<w.heap.size
def blk (b:Nat)(o:Obj):aC where
 foot:=[b]
 ok:=fun w=>w.heap[b]?=some o
 loc:=fun w w' h k=>by rw[h b (by simp)];exact k
 dom:=fun w k b' hb=>by simp at hb;subst hb;exact iB k
def cY (cs:List aC):List Nat:=cs.flatMap aC.foot
theorem iF (c:aC)(cs:List aC):cY (c::cs)=c.foot++cY cs:=rfl
theorem fQ (a b:List aC):cY (a++b)=cY a++cY b:=by simp[cY]
theorem pY {b:Nat}{cs:List aC}:b∈cY cs↔∃c,c∈cs/\b∈c.foot:=by simp[cY]
theorem Ab {a b:List aC}(h:a.Sublist b):(cY a).Sublist (cY b):=by
 induction h with
 | slnil=>exact List.Sublist.refl _
 | cons c _ ih=>rw[iF];exact ih.trans (List.sublist_append_right _ _)
 | cons_cons c _ ih=>rw[iF,iF];exact List.Sublist.append (List.Sublist.refl _) ih
theorem xa {a b:List aC}(h:a.Perm b):(cY a).Perm (cY b):=h.flatMap_right _
def group (l:List aC):aC where
 foot:=cY l
 ok:=fun w=>∀c,c∈l->c.ok w
 loc:=fun w w' h k c hc=>c.loc w w' (fun b hb=>h b (pY.2 ⟨c,hc,hb⟩)) (k c hc)
 dom:=fun w k b hb=>by obtain⟨c,hc,hb'⟩:=pY.1 hb;exact c.dom w (k c hc) b hb'
structure aM where
 base:World
 map:Nat->Option Obj
def aM.of (w:World):aM:=⟨w,fun k=>w.heap[k]?⟩
def aM.add (K:aM)(b:Nat)(o:Obj):aM:=⟨K.base,fun k=>if k=b then some o else K.map k⟩
structure aM.Le (K K':aM):Prop where
 base:K'.base=K.base
 map:∀k o,K.map k=some o->K'.map k=some o
theorem aM.Le.refl (K:aM):K.Le K:=⟨rfl,fun _ _ h=>h⟩
theorem aM.Le.trans {K i a : aM}(h:K.Le i)(k:i.Le a):K.Le a := ⟨k.base.trans h.base,fun b o e=>k.map b o (h.map b o e)⟩
structure St (K:aM)(w:World)(cs:List aC):Prop where
 os:w.os=K.base.os
 tape:w.tape=K.base.tape
 output:w.output=K.base.output
 kE:∀k o,K.map k=some o->w.heap[k]?=some o
 ok:∀c,c∈cs->c.ok w
 nodup:(cY cs).Nodup
 apart:∀b,b∈cY cs->K.map b=none
section
variable {K:aM}{w w':World}{c c' d e f g:aC}{cs cs' F:List aC}
theorem St.start (w:World):St (aM.of w) w []:=⟨rfl,rfl,rfl,fun _ _ h=>h,fun _ h=>by simp at h,by simp[cY],fun _ h=>by simp[cY]at h⟩
theorem St.lt (h:St K w cs){b:Nat}(i:b∈cY cs):b<w.heap.size:=by
 obtain⟨c,hc,a⟩:=pY.1 i;exact c.dom w (h.ok c hc) b a
theorem St.cA (h:St K w cs){b:Nat}{o:Obj}(a:K.map b=some o):b<w.heap.size:=iB (h.kE b o a)
theorem St.ahz (h:St K w cs){b:Nat}(a:w.heap.size<=b):K.map b=none:=by
 cases e:K.map b with
 | none=>rfl
 | some o=>have:=h.cA e;omega
theorem St.below {W:World}(h:St K w cs)(hk:(aM.of W).Le K):Below W.heap.size W w:=by
 refine⟨by rw[h.os,hk.base];rfl,by rw[h.tape,hk.base];rfl,by rw[h.output,hk.base];rfl,?_,fun k a =>?_⟩
 ·rcases Nat.eq_zero_or_pos W.heap.size with h0|h0
  ·omega
  ·have hl:W.heap.size-1<W.heap.size:=by omega
   have:(aM.of W).map (W.heap.size-1)=some (W.heap[W.heap.size-1]):=by show W.heap[_]?=_;exact Array.getElem?_eq_getElem hl
   have:=h.cA (hk.map _ _ this);omega
 ·have:(aM.of W).map k=some (W.heap[k]):=by show W.heap[_]?=_;exact Array.getElem?_eq_getElem a
  rw[h.kE _ _ (hk.map _ _ this)];exact this.symm
theorem St.perm (h:St K w cs)(hp:cs.Perm cs'):St K w cs' :=
 ⟨h.os,h.tape,h.output,h.kE,fun c hc=>h.ok c (hp.mem_iff.2 hc),(xa hp).nodup_iff.1 h.nodup,fun b a=>h.apart b ((xa hp).mem_iff.2 a)⟩
theorem St.sub (h:St K w cs)(hp:cs'.Sublist cs):St K w cs' :=
 ⟨h.os,h.tape,h.output,h.kE,fun c hc=>h.ok c (hp.subset hc),h.nodup.sublist (Ab hp),fun b a=>h.apart b ((Ab hp).subset a)⟩
theorem St.tail (h:St K w (c::cs)):St K w cs:=h.sub (List.sublist_cons_self c cs)
theorem St.b9 (h:St K w (c::d::cs)):St K w (c::cs):=h.sub ((List.sublist_cons_self d cs).cons_cons c)
theorem St.right (h:St K w (cs++F)):St K w F:=h.sub (List.sublist_append_right cs F)
theorem St.head (h:St K w (c::cs)):c.ok w:=h.ok c (by simp)
theorem St.b1 (h:St K w (c::d::cs)):St K w (d::c::cs):=h.perm (.swap d c cs)
theorem St.b2 (h:St K w (c::d::e::cs)):St K w (e::c::d::cs):=(h.perm ((List.Perm.swap e d cs).cons c)).b1
theorem St.b3 (h:St K w (c::d::e::f::cs)):St K w (f::c::d::e::cs):=(h.perm (((List.Perm.swap f e cs).cons d).cons c)).b2
theorem St.b4 (h:St K w (c::d::e::f::g::cs)):St K w (g::c::d::e::f::cs):=(h.perm ((((List.Perm.swap g f cs).cons e).cons d).cons c)).b3
theorem St.b5 {a:aC}(h:St K w (c::d::e::f::g::a::cs)):St K w (a::c::d::e::f::g::cs):=(h.perm (((((List.Perm.swap a g cs).cons f).cons e).cons d).cons c)).b4
theorem St.b6 {a b:aC}(h:St K w (c::d::e::f::g::a::b::cs)):St K w (b::c::d::e::f::g::a::cs):=(h.perm ((((((List.Perm.swap b a cs).cons g).cons f).cons e).cons d).cons c)).b5
theorem St.u1 (h:St K w (c::d::cs)):St K w (d::c::cs):=h.b1
theorem St.u2 (h:St K w (c::d::e::cs)):St K w (d::e::c::cs):=h.b1.perm ((List.Perm.swap e c cs).cons d)
theorem St.u3 (h:St K w (c::d::e::f::cs)):St K w (d::e::f::c::cs):=h.u2.perm (((List.Perm.swap f c cs).cons e).cons d)
theorem St.u4 (h:St K w (c::d::e::f::g::cs)):St K w (d::e::f::g::c::cs):=h.u3.perm ((((List.Perm.swap g c cs).cons f).cons e).cons d)
theorem St.u5 {a:aC}(h:St K w (c::d::e::f::g::a::cs)):St K w (d::e::f::g::a::c::cs):=h.u4.perm (((((List.Perm.swap a c cs).cons g).cons f).cons e).cons d)
theorem St.eD {l:List aC}:St K w (group l::F)↔St K w (l++F):=by
 have e:cY (group l::F)=cY (l++F):=by rw[iF,fQ];rfl
 constructor
 ·intro h
  refine⟨h.os,h.tape,h.output,h.kE,fun c hc=>?_,by rw[←e];exact h.nodup,fun b a=>h.apart b (by rw[e];exact a)⟩
  rcases List.mem_append.1 hc with hc|hc
  ·exact h.head c hc
  ·exact h.ok c (by simp[hc])
 ·intro h
  refine⟨h.os,h.tape,h.output,h.kE,fun c hc=>?_,by rw[e];exact h.nodup,fun b a=>h.apart b (by rw[←e];exact a)⟩
  rcases List.mem_cons.1 hc with rfl|hc
  ·exact fun c hc=>h.ok c (by simp[hc])
  ·exact h.ok c (by simp[hc])
theorem St.zK {ms ms':List aC}(h:St K w (ms++F))(p:eU (cY ms) w w')(hok:∀c,c∈ms' -> c.ok w')(q:∀b,b∈cY ms' -> b∈cY ms\/w.heap.size<=b)(r:(cY ms').Nodup):St K w' (ms' ++ F):=by
 have s:=p.size;have l:=h.nodup;rw[fQ,List.nodup_append]at l;have j:∀b,b<w.heap.size->b ∉ cY ms->w'.heap[b]?=w.heap[b]? := fun b i m => p.block b i m
 have hF:∀b,b∈cY F->b<w.heap.size/\b ∉ cY ms:=fun b i=>⟨h.lt (by rw[fQ];exact List.mem_append_right _ i),fun m => l.2.2 b m b i rfl⟩
 refine⟨p.os.trans h.os,p.tape.trans h.tape,p.output.trans h.output,fun k o hk=>?_,fun c hc=>?_,?_,fun b i=>?_⟩
 ·rw[j k (h.cA hk) (fun i=>?_)]
  ·exact h.kE k o hk
  ·have:=h.apart k (by rw[fQ];exact List.mem_append_left _ i)
   rw[hk]at this;cases this
 ·rcases List.mem_append.1 hc with hc|hc
  ·exact hok c hc
  ·exact c.loc w w' (fun b i=>by have:=hF b (pY.2 ⟨c,hc,i⟩);exact j b this.1 this.2) (h.ok c (by simp[hc]))
 ·rw[fQ,List.nodup_append]
  refine⟨r,l.2.1,fun a t b i e=>?_⟩
  subst e;have:=hF a i;rcases q a t with n|n
  ·exact this.2 n
  ·omega
 ·rw[fQ]at i
  rcases List.mem_append.1 i with i|i
  ·rcases q b i with n|n
   ·exact h.apart b (by rw[fQ];exact List.mem_append_left _ n)
   ·exact h.ahz n
  ·exact h.apart b (by rw[fQ];exact List.mem_append_right _ i)
theorem St.same (h:St K w cs)(a:Below w.heap.size w w'):St K w' cs:=by
 have:=St.zK (ms:=[]) (ms' := []) (F:=cs) h (eU.of_below a) (fun _ h=>by simp at h) (fun _ h=>by simp[cY]at h) (by simp[cY])
 exact this
theorem St.made (h:St K w cs)(o:Obj):St K (w.alloc o) (blk w.heap.size o::cs):=by
 refine St.zK (ms:=[]) (ms' := [blk w.heap.size o]) (F:=cs) h ((eU.refl _ _).alloc _) (fun c hc=>?_) (fun b a=>?_) (by simp[cY,blk])
 ·simp at hc;subst hc;exact ea w o
 ·simp[cY,blk]at a;subst a;exact .inr (Nat.le_refl _)
theorem St.pass (h:St K w cs)(o:Obj):St K (w.alloc o) cs:=(h.made o).tail
theorem St.drew (h:St K w cs):St K w.drew cs:=⟨h.os,h.tape,h.output,h.kE,fun c hc=>c.loc w _ (fun _ _=>rfl) (h.ok c hc),h.nodup,h.apart⟩
theorem St.set {b:Nat}{a:Array Value}{T:TypeId}{i:Nat × Nat}(h:St K w (blk b (.cells a T i)::cs))(k:Nat)(v:Value):St K (w.setCell ⟨b,k,none⟩ v) (blk b (.cells (a.setIfInBounds k v) T i)::cs):=by
 refine St.zK (ms:=[blk b (.cells a T i)]) (ms' := [blk b (.cells (a.setIfInBounds k v) T i)]) (F:=cs) h ((eU.refl _ _).setCell (.inl (by simp[cY,blk])) _) (fun c hc=>?_) (fun b j=> .inl j) (by simp[cY,blk])
 simp at hc;subst hc;exact cP h.head k v
theorem St.aK {b:Nat}{a:List Value}{T:TypeId}{i:Nat × Nat}(h:St K w (blk b (.cells a.toArray T i)::cs))(k:Nat)(v:Value):St K (w.setCell ⟨b,k,none⟩ v) (blk b (.cells (a.set k v).toArray T i)::cs):=by
 have:=h.set k v;rwa [List.setIfInBounds_toArray]at this
theorem St.Fx (h:St K w (c::F))(j:eU c.foot w w')(hok:c'.ok w')(a:c'.foot=c.foot):St K w' (c' :: F):=by
 refine St.zK (ms:=[c]) (ms' := [c']) h (by simpa[cY] using j) (fun x i=>by simp at i;subst i;exact hok) (fun b k=> .inl (by simpa[cY,a] using k)) ?_
 have:=h.nodup;rw[iF,List.nodup_append]at this;simpa[cY,a] using this.1
theorem St.ahA {d i:aC}(h:St K w (c::d::F))(l:eU (c.foot++d.foot) w w')(hok:c'.ok w')(m:i.ok w')(j:c'.foot=c.foot)(a:i.foot=d.foot):St K w' (c' :: i :: F):=by
 refine St.zK (ms:=[c,d]) (ms' := [c',i]) h (by simpa[cY] using l) (fun x k=>by simp at k;rcases k with rfl|rfl <;> assumption) (fun b n=> .inl (by simpa[cY,j,a] using n)) ?_
 have:=h.nodup;rw[iF,iF,←List.append_assoc,List.nodup_append]at this;simpa[cY,j,a] using this.1
theorem St.freeze {b:Nat}{o:Obj}(h:St K w (blk b o::cs)):K.Le (K.add b o)/\(K.add b o).map b=some o/\St (K.add b o) w cs:=by
 have j:K.map b=none:=h.apart b (by simp[cY,blk])
 have i:=h.nodup;rw[iF,List.nodup_append]at i;refine⟨⟨rfl,fun k o' hk=>?_⟩,by simp[aM.add],⟨h.os,h.tape,h.output,fun k o' hk=>?_,h.tail.ok,i.2.1,fun k hk=>?_⟩⟩
 ·show(if k=b then some o else K.map k)=_
  by_cases e:k=b
  ·subst e;rw[j]at hk;cases hk
  ·rw[if_neg e];exact hk
 ·have a:(if k=b then some o else K.map k)=some o' := hk
  by_cases e:k=b
  ·subst e;rw[if_pos rfl]at a;cases a;exact h.head
  ·rw[if_neg e]at a;exact h.kE k o' a
 ·show(if k=b then some o else K.map k)=none
  rw[if_neg (fun e=>i.2.2 b (by simp[blk]) k hk e.symm)]
  exact h.tail.apart k hk
theorem St.Rs {b:Nat}{o o':Obj}(h:St K w (blk b o::cs))(e:o=o'):St K w (blk b o' :: cs):=by subst e;exact h
theorem St.k0 {b:Nat}{a:Array Value}{T:TypeId}{i:Nat × Nat}(h:St K w (blk b (.cells a T i)::cs)):∀k,w.cell? ⟨b,k,none⟩=a[k]? := bB h.head
theorem St.k1 {b:Nat}{a:Array Value}{T:TypeId}{i:Nat × Nat}(h:St K w (c::blk b (.cells a T i)::cs)):∀k,w.cell? ⟨b,k,none⟩=a[k]? := h.tail.k0
theorem St.k2 {b:Nat}{a:Array Value}{T:TypeId}{i:Nat × Nat}(h:St K w (c::d::blk b (.cells a T i)::cs)):∀k,w.cell? ⟨b,k,none⟩=a[k]? := h.tail.k1
theorem St.f0 {b:Nat}{a:Array Value}{T:TypeId}(h:St K w (blk b (.cells a T)::cs)):∀k,w.frozen? ⟨b,k,none⟩=false:=dQ h.head
theorem St.f1 {b:Nat}{a:Array Value}{T:TypeId}(h:St K w (c::blk b (.cells a T)::cs)):∀k,w.frozen? ⟨b,k,none⟩=false:=h.tail.f0
theorem St.f2 {b:Nat}{a:Array Value}{T:TypeId}(h:St K w (c::d::blk b (.cells a T)::cs)):∀k,w.frozen? ⟨b,k,none⟩=false:=h.tail.f1
theorem St.n0 {b:Nat}{o:Obj}(h:St K w (blk b o::cs)):b<w.heap.size:=h.lt (by simp[cY,blk])
end
theorem dc {P:Program}{c:Code}{Q:Exit->Act->World->Prop}{a:Act}{K:aM}{w:World}{cs:List aC}(h:St K w cs)(k:∀W,St K W cs->c.wp P Q a W):c.wp P Q a w:=k w h
theorem bJ {P:Program}{f:FuncId}{args:Array Value}{v:Value}{K:aM}{w:World}{cs:List aC}(a:St K w cs)(h:Calls P f args w fun e w' => e=.returned v/\Below w.heap.size w w'):Calls P f args w fun e w' => e=.returned v/\St K w' cs:=
 h.mono fun _ _ ⟨he,b⟩=>⟨he,a.same b⟩
theorem mZ {P:Program}{f:FuncId}{args:Array Value}{v:Value}{K:aM}{w:World}{cs:List aC}(a:St K w cs)(h:Calls P f args w fun e w' => e=.returned v/\w=w'):Calls P f args w fun e w' => e=.returned v/\St K w' cs:=
 h.mono fun _ _ ⟨he,b⟩=>⟨he,by rw[←b];exact a⟩
end Go.Proofs.YtlpdhhhgckpcfaaGreat
