/- A region whose first operation is a. -/
import Derived.Test.YtlpdhhhgckpcfaaGreatStA
namespace Go.Proofs.YtlpdhhhgckpcfaaGreat
set_option linter.unusedSimpArgs false
set_option linter.unusedVariables false
open Go.RowKit
section
variable {P:Program}{ops:Array Oper}{md:Region.Mode}{C:World->Prop}
def xe (md:Region.Mode)(ops:Array Oper)(n:Nat):Prop:=∀i,1<=i->i<n->∃j,i<j/\j<=n/\Region.waitsFor md ops j i=true
theorem og {a:Array Bool}{j:Nat}(h:a.getD 0 true=true):(a.setIfInBounds j true).getD 0 true=true:=by
 rw[Array.getD_eq_getD_getElem?,Array.getElem?_setIfInBounds];rw[Array.getD_eq_getD_getElem?]at h;split
 ·split <;> rfl
 ·exact h
theorem Ax {n:Nat}{a:Array Bool}(F:xe md ops n)(hc:Region.chainB md ops n=true)(K:n<ops.size)(inv:HeadInv md ops n a)(G:a.getD 0 true=true) :
  ∀(d i:Nat),n-i=d->i<n->a.getD i true=false->∀t,n<=t->t ∉ Region.ready md ops a:=by
 intro d;induction d using Nat.strongRecOn with
 | _ d ih=>
  intro i L hi c t M A;have H:1<=i:=by
   rcases Nat.eq_zero_or_pos i with h|h
   ·subst h;rw[G]at c;cases c
   ·exact h
  obtain⟨_,B,p,k⟩:=mem_ready.1 A;have q:t<ops.size:=(Array.getElem?_eq_some_iff.1 p).1;by_cases u:t=n
  ·subst u
   obtain⟨j,I,J,hw⟩:=F i H hi;obtain⟨D,E,e,he,s,f⟩:=Region.waitsFor_spec hw;by_cases v:j=t
   ·subst v
    have b:D=B:=asy (E.symm.trans p);subst b;have o:=k e he s;rw[f,getD_both c]at o;cases o
   ·cases hl:a.getD j false with
    | true=>
     have o:=inv.closed j D E hl e he s;rw[f,getD_both c]at o;cases o
    | false=>
     have x:j<a.size:=by rw[inv.size];omega
     exact ih (t-j) (by omega) j rfl (by omega) (getD_in x hl) t (Nat.le_refl _) A
  ·have r:=List.all_eq_true.1 hc t (List.mem_range.2 q)
   simp only[Bool.or_eq_true,decide_eq_true_eq]at r;rcases r with r|r
   ·omega
   ·obtain⟨o',y,e,he,s,f⟩:=Region.waitsFor_spec r
    have b:o'=B:=asy (y.symm.trans p);subst b;have o:=k e he s;rw[f,getD_both (inv.tail (t-1) (by omega) (by omega))]at o
    cases o
theorem lW {n:Nat}{a:Array Bool}(c:xe md ops n)(hc:Region.chainB md ops n=true)(d:n<ops.size)(inv:HeadInv md ops n a)(e:a.getD 0 true=true){i:Nat}(b:i<n)
  (hi:i∈Region.ready md ops a) {j:Nat} (f:j∈Region.ready md ops a):j<n:=by
 rcases Nat.lt_or_ge j n with h|h
 ·exact h
 ·exact absurd f (Ax c hc d inv e _ i rfl b (mem_ready.1 hi).1 j h)
theorem yl {n i:Nat}{A:Oper}{v:Value}{L:Array Bool->Act->Prop}(t:ops[i]?=some A)(s:∀(j:Nat)(o:Oper) cs b,ops[j]?=some o->o.op ≠ .select cs b)
  (G:xe md ops n) (hc:Region.chainB md ops n=true) (I:n<ops.size) (q:i<n)
  (u:∀c a,L c a->∀j,j∈Region.ready md ops c->n<=j) (f:Nat) :
  ∀(c:Array Bool) (a:Act),HeadInv md ops n c->c.getD 0 true=true ->
   (∀j x,ops[j]?=some x->j≠i->c.getD j true=false->(∀e,e∈x.after->Region.binds md e=true->e.on≠i)->A.apart ops x=true) ->
   i∈Region.ready md ops c->YieldsIn P ops C A v a ->
   mG P md ops C n L f (c.setIfInBounds i true) (a.put A.dst v)->mG P md ops C n L (f+1) c a:=by
 induction f with
 | zero=>
  intro c a inv y _ h J H;refine⟨fun h0=>(by rw[h0]at h;cases h),fun j r=>⟨lW G hc I inv y q h r,?_⟩⟩
  by_cases d:j=i
  ·subst d;exact J.qOp t H
  ·have U:=u _ _ H j (ready_mono r d)
   have V:=lW G hc I inv y q h r;omega
 | succ f ih=>
  intro c a inv y p h J H;refine⟨fun h0=>(by rw[h0]at h;cases h),fun j r=>⟨lW G hc I inv y q h r,?_⟩⟩
  by_cases d:j=i
  ·subst d;exact J.qOp t H
  ·have K:=lW G hc I inv y q h r
   have U:=(H.2 j (ready_mono r d)).2;obtain⟨W,x,M,B⟩:=mem_ready.1 r;have O:=(mem_ready.1 h).1;have D:∀e,e∈x.after->Region.binds md e=true->e.on≠i:=by
    intro e he Y heq;have E:=B e he Y;rw[heq,getD_both O]at E;cases E
   have V:=qOp_put M (p j x M d W D) (fun cs b=>s i A cs b t) (fun cs b=>s j x cs b M) J U
   refine qOp_mono (fun Z E=>ih (c.setIfInBounds j true) Z (inv.set r K) (og y) ?_ (ready_mono h (Ne.symm d)) E.1 ?_) V
   ·intro k ok hk S X T
    refine p k ok hk S ?_ T;by_cases F:j=k
    ·subst F;exact W
    ·rw[getD_set_ne true F]at X;exact X
   ·rw[Array.setIfInBounds_comm _ _ d]
    exact E.2
theorem ud {n g:Nat}{i:Act->Prop}(d:Region.noSelect ops=true)(t:xe md ops n)(hc:Region.chainB md ops n=true)(u:n<ops.size)(l:List Oper) :
  ∀(k:Nat) (b:Array Bool) (a:Act),(∀j,j<l.length->l[j]?=ops[k+j]?)->k+l.length=n->HeadInv md ops n b->b.getD 0 true=true ->
  Region.lexHead md ops g l.length k b=true->wpQuiet P ops C i l a ->
  mG P md ops C n (fun c r => Region.seqB md ops g n c=true/\i r) l.length b a:=by
 induction l with
 | nil=>
  intro k b a _ hk _ _ hB h;have:k=n:=by simpa using hk
  subst this;exact⟨by simpa[Region.lexHead] using hB,h⟩
 | cons o l ih=>
  intro k b a hl hk inv s hB h;have h0:ops[k]?=some o:=by simpa using (hl 0 (by simp)).symm
  simp only[List.length_cons,Region.lexHead,Bool.and_eq_true]at hB;obtain⟨⟨x,y⟩,p⟩:=hB;have e:k<n:=by simp only[List.length_cons]at hk;omega
  have f:k∈Region.ready md ops b:=by simpa using x
  have q:qOp P ops C k (wpQuiet P ops C i l) a:=by unfold qOp;simp only[h0];exact h
  obtain⟨v,A,B⟩:=yieldsIn_of_qOp h0 q;refine yl h0 (Region.noSelect_spec d) t hc u e (fun c r D=>seqB_ready D.1) l.length b a inv s (Region.free_spec h0 y) f A ?_
  refine ih (k+1) _ _ (fun j E=>?_) (by simp only[List.length_cons]at hk;omega) (inv.set f e) (og s) p B
  have:=hl (j+1) (by simp;omega)
  simpa[Nat.add_assoc,Nat.add_comm 1 j] using this
end
def xf (l:List Oper)(n:Nat):Bool:=
 Region.noSelect l.toArray && decide (n<l.toArray.size) && qW n (l.map (iZ l.toArray)) 0 && zW n ((l.map (iZ l.toArray)).drop 1) 1 && tO n (l.map (iZ l.toArray)) 0
theorem fK {P:Program}{id:Nat}{Q:Exit->Act->World->Prop}{a:Act}{w:World}{b:Oper}{l:List Oper}(x:Operand)(n:Nat)(B:b.op=.move x)(U:b.guard=none)(hm:P.follows .mixedOrders=true)(hB:xf (b::l) (n+1)=true)
  (D : ∀c (v:Value) a w,Q (.panic c) (a.put b.dst v) w->Q (.panic c) a w)
  (h:wpQuiet P (b::l).toArray (fun w' => ∃x:Ext,w'=over w x) (fun s => ∀w',Below w.heap.size w w' -> wpList P (b::l).toArray Q (l.drop n) s w') (l.take n) (a.put b.dst (a.eval x))):(Code.region id (b::l).toArray true).wp P Q a w:=by
 simp only[xf,Bool.and_eq_true,decide_eq_true_eq]at hB;obtain⟨⟨⟨⟨p,V⟩,u⟩,E⟩,W⟩:=hB;have f:(b::l).toArray.size=l.length+1:=by simp
 have X:n<l.length:=by omega
 have F:mK (b::l).toArray.size 0 (Array.replicate (b::l).toArray.size false):=mK.zero _;have O:=F.next (by omega)
 have y:∀j,l[j]?=(b::l).toArray[1+j]? := fun j=>by simp[Nat.add_comm 1 j]
 have q:(b::l).toArray[0]?=some b:=by simp
 simp only[List.map_cons,qW,Bool.and_eq_true,beq_iff_eq,if_pos (Nat.succ_pos n)]at u;obtain⟨⟨Y,Z⟩,z3⟩:=u;have d:=pV F q Y;have e:=yb (l:=l) F q (fun j=>by simpa using y j) Z
 have oC:=wX l (n+1) 1 ((b::l).toArray.size-(n+1)) n _ O y (by omega) (by omega) (by omega) z3
 have G:xe .any (b::l).toArray (n+1):=fun i h1 h2=>wY (n+1) l 1 y (by simpa using E) i h1 h2 (by omega)
 have k:Region.chainB .any (b::l).toArray (n+1)=true:=by
  unfold Region.chainB;rw[List.all_eq_true];intro t I;have J := List.mem_range.1 I;rw[Bool.or_eq_true];exact tP (n+1) (b::l) 0 (by simp) W t (by omega) (by rw[f]at J;simp;omega)
 have inv1:HeadInv .any (b::l).toArray (n+1) ((Array.replicate (b::l).toArray.size false).setIfInBounds 0 true):=by
  have zU:HeadInv .any (b::l).toArray (n+1) (Array.replicate (b::l).toArray.size false):=
   ⟨by simp,fun j oj _ hl=>(by rw[getD_replicate_false]at hl;cases hl),fun t _ I=>getD_in (by simpa using I) (getD_replicate_false _ _)⟩
  exact zU.set d (by omega)
 have K:((Array.replicate (b::l).toArray.size false).setIfInBounds 0 true).getD 0 true=true:=by
  rw[O.getD (by omega)];simp
 have r:(l.take n).length=n:=by simp;omega
 have H:=ud (C:=fun w' => ∃x:Ext,w'=over w x) (md:= .any) (g:=(b::l).toArray.size-(n+1)) p G k V (l.take n) 1 _ (a.put b.dst (a.eval x)) (fun j S=>by
  have L:j<n:=by rw[r]at S;exact S
  rw[←y j];simp[L]) (by omega) inv1 K (by rw[r];exact oC) h
 refine wp_region_any hm ?_
 have A:(l.drop n).length=(b::l).toArray.size-(n+1):=by simp
 have H2:=pU (Q' := Q) (g:=(b::l).toArray.size-(n+1)) (fun o s w' M T=>by
  have:=wpAny_of_seq (md:= .any) (Q' := Q) (l.drop n) (n+1) o s w' (fun j=>by rw[show n+1+j=1+(n+j)by omega,←y];simp[List.getElem?_drop]) (by rw[A];exact T.1) (T.2 w' (Pure.below M))
  rwa [A]at this) _ _ _ _ ⟨_,jV w⟩ H
 rw[r,show n+((b::l).toArray.size-(n+1))=l.length by omega]at H2
 rw[show(b::l).toArray.size=l.length+1 from f]at H2 ⊢
 refine wpAny_take (v:=a.eval x) q p (by rw[f]at e;exact e) (by rw[f]at d;simpa using d) (fun c s w' => D c _ s w') (Or.inl ⟨?_,fun w' => BigFrame.run_move x B w'⟩) H2
 simp[Region.wanted,U]
section
variable {P:Program}{n:Nat}{ops ops':Array Oper}{C:World->Prop}
structure Twin (n:Nat)(ops ops':Array Oper):Prop where
 size:ops.size=n+3
 size':ops'.size=n+3
 same:∀i,i≠n+1->ops[i]?=ops'[i]?
 dst:(ops[n+1]?).bind (·.dst)=(ops'[n+1]?).bind (·.dst)
 free:∀o,ops[n+1]?=some o->o.after= #[]
 low:∀i o e,i<=n->ops'[i]?=some o->e∈o.after->e.on≠n+1
 last:∃o e,ops'[n+2]?=some o/\e∈o.after/\Region.binds .any e=true/\e.on=n
theorem Twin.yield (h:Twin n ops ops')(tmps:Array Value):yielded ops tmps=yielded ops' tmps:=by
 funext g
 unfold yielded;by_cases a:g=n+1
 ·subst a;rw[h.dst]
 ·rw[h.same g a]
theorem Twin.qg (h:Twin n ops ops'){i:Nat}(hi:i≠n+1)(K:Act->Prop)(a:Act):qOp P ops' C i K a=qOp P ops C i K a:=by
 unfold qOp;rw[h.same i hi,h.yield]
theorem Twin.ready (h:Twin n ops ops'){Z:Array Bool}{j:Nat}(a:j≠n+1):j∈Region.ready .any ops Z↔j∈Region.ready .any ops' Z:=by
 rw[mem_ready,mem_ready,h.same j a]
theorem Twin.jW (h:Twin n ops ops'){Z:Array Bool}{j:Nat}(d:j<=n):j∈Region.ready .any ops' (Z.setIfInBounds (n+1) true)↔j∈Region.ready .any ops' Z:=by
 rw[mem_ready,mem_ready,getD_set_ne true (by omega)]
 constructor
 ·rintro ⟨h0,o,b,a⟩
  exact⟨h0,o,b,fun e he c=>by have:=a e he c;rwa [getD_set_ne false (Ne.symm (h.low j o e d b he))]at this⟩
 ·rintro ⟨h0,o,b,a⟩
  exact⟨h0,o,b,fun e he c=>by rw[getD_set_ne false (Ne.symm (h.low j o e d b he))];exact a e he c⟩
theorem ue {j:Nat}{c:Oper}{d:Tmp}{v:Value}{K:Act->Prop}{a:Act}(k:ops[j]?=some c)(f:d ∉ c.looksAt ops)(o:c.dst≠some d)(p:∀cs b,c.op ≠ .select cs b)(h:qOp P ops C j K a) :
  qOp P ops C j (fun q => ∃i,q=i.put (some d) v/\K i) (a.put (some d) v):=by
 have r:=execOp_put c p a (some d) v (fun x e=>by cases e;exact f)
 have e2:=wanted_put c a (some d) v (fun x e=>by cases e;exact f)
 have e3:∀u,(a.put (some d) v).put c.dst u=(a.put c.dst u).put (some d) v:=fun u=>Act.put_comm a v u (x:=some d) (y:=c.dst) (fun x e=>by simp only[Option.some.injEq]at e;subst e;exact o)
 unfold qOp at *;simp only[k]at *;rw[e2];split
 ·rename_i hw
  simp only[hw,if_true]at h;obtain⟨u,k1,k2⟩:=h;refine⟨u,fun w hw=>?_,_,e3 u,k2⟩
  have:=k1 w hw;unfold Oper.quietAt at this ⊢;rw[r];exact this
 ·rename_i hw
  simp only[hw]at h;exact⟨_,e3 _,h⟩
end
section
variable {P:Program}{n N:Nat}{ops ops':Array Oper}{Q:Exit->Act->World->Prop}{w:World}{z:Obj}{aS:Act}{dd:Tmp}{oc oa os:Oper}
theorem Pure.refl (w:World):Pure w w:=jg w
theorem Pure.trans {a b c:World}(h:Pure a b)(k:Pure b c):Pure a c:=to_pure (h.below.trans (k.below.mono h.below.size))
theorem Pure.alloc {a b:World}(h:Pure a b)(o:Obj):Pure a (b.alloc o):=to_pure (h.below.alloc h.below.size o)
theorem fL (a:Act)(d:Option Tmp)(v:Value):(a.put d v).tmps.size=a.tmps.size:=by
 cases d <;> simp[Act.put]
theorem dF (a:Act)(d:Option Tmp)(v:Value)(t:Tmp)(h:d≠some t):(a.put d v).tmps.getD t undef=a.tmps.getD t undef:=by
 cases d with
 | none=>rfl
 | some u=>
  have:u≠t:=fun e=>h (by rw[e])
  simp[Act.put,Array.getElem?_setIfInBounds_ne this]
theorem dX (a:Act)(v:Value)(t:Tmp)(h:t<a.tmps.size):(a.put (some t) v).tmps.getD t undef=v:=by
 simp[Act.put,h]
def LL (ops':Array Oper)(n:Nat)(aS:Act):Array Bool->Act->Prop:=fun listed' a' => Region.seqB .any ops' 3 n listed'=true/\a'=aS
def HA (P:Program)(ops':Array Oper)(n:Nat)(aS:Act)(w:World)(f:Nat)(listed:Array Bool)(a:Act):Prop:=
 ∀W,Pure w W->mG P .any ops' (fun w' => ∃x:Ext,w'=over W x) n (LL ops' n aS) f listed a
theorem uf {C:World->Prop}{t:Tmp}:∀(f:Nat)(b:Array Bool)(a:Act),mG P .any ops' C n (LL ops' n aS) f b a ->
  (∀j o,j<n->ops'[j]?=some o->b.getD j true=false->o.dst≠some t)->aS.tmps.getD t undef=a.tmps.getD t undef:=by
 intro f;induction f with
 | zero=>intro b a h _;rw[h.2]
 | succ f ih=>
  intro b a h s;obtain⟨i,hi⟩:=List.exists_mem_of_ne_nil _ h.1;obtain⟨k,d⟩:=h.2 i hi;obtain⟨p,o,q,_⟩:=mem_ready.1 hi;have c:=s i o k q p;have u:∀j o,j<n->ops'[j]?=some o->(b.setIfInBounds i true).getD j true=false->o.dst≠some t:=by
   intro j x y r hl;by_cases e:i=j
   ·subst e;rw[q]at r;cases r;exact c
   ·rw[getD_set_ne true e]at hl;exact s j x y r hl
  unfold qOp at d;simp only[q]at d;split at d
  ·obtain⟨v,_,A⟩:=d
   rw[ih _ _ A u,dF _ _ _ _ c]
  ·rw[ih _ _ d u,dF _ _ _ _ c]
structure Ml (ops':Array Oper)(n N:Nat):Prop where
 one:∀i j oi oj t,i<n->j<n->ops'[i]?=some oi->ops'[j]?=some oj->oi.dst=some t->oj.dst=some t->i=j
 lt:∀i o t,i<n->ops'[i]?=some o->o.dst=some t->t<N
theorem HA.step (F:Ml ops' n N){f:Nat}{b:Array Bool}{a:Act}(u:a.tmps.size=N)(H:HA P ops' n aS w (f+1) b a) :
  Region.ready .any ops' b≠[]/\∀i,i∈Region.ready .any ops' b->i<n/\∀W,Pure w W->qOp P ops' (fun w' => ∃x:Ext,w'=over W x) i (fun G => HA P ops' n aS w f (b.setIfInBounds i true) G /\ G.tmps.size=N) a:=by
 refine⟨(H w (Pure.refl w)).1,fun i hi=>⟨((H w (Pure.refl w)).2 i hi).1,fun W J=>?_⟩⟩
 have p:=((H W J).2 i hi).2;have q:=((H w (Pure.refl w)).2 i hi).1;obtain⟨y,o,r,_⟩:=mem_ready.1 hi;unfold qOp at p ⊢;simp only[r]at p ⊢;split
 ·rename_i hw
  simp only[hw,if_true]at p;obtain⟨v,K,L⟩:=p;refine⟨v,K,fun A d=>?_,by rw[fL];exact u⟩
  have h:=((H A d).2 i hi).2;unfold qOp at h;simp only[r,hw,if_true]at h;obtain⟨v2,_,I⟩:=h;have e:a.put o.dst v=a.put o.dst v2:=by
   cases B:o.dst with
   | none=>rfl
   | some t=>
    have c:∀j s,j<n->ops'[j]?=some s->(b.setIfInBounds i true).getD j true=false->s.dst≠some t:=by
     intro j s M O hl e;have D:=F.one i j o s t q M r O B e;subst D;rcases Nat.lt_or_ge i b.size with k|E
     ·simp[k]at hl
     ·simp[Array.getElem?_eq_none E]at y
    have k1:=uf _ _ _ L c;have k2:=uf _ _ _ I c;have k:t<a.tmps.size:=by rw[u];exact F.lt i o t q r B
    rw[B,dX _ _ _ k]at k1 k2;rw[←k1,←k2]
  rw[e];exact I
 ·rename_i hw
  simp only[hw]at p;refine⟨fun A d=>?_,by rw[fL];exact u⟩
  have h:=((H A d).2 i hi).2;unfold qOp at h;simp only[r,hw]at h;exact h
structure Ki (ops ops':Array Oper)(n N:Nat)(dd:Tmp)(oc oa os:Oper):Prop where
 tw:Twin n ops ops'
 ds:Ml ops' n N
 c:ops[n]?=some oc
 a:ops[n+1]?=some oa
 s:ops[n+2]?=some os
 dst:oa.dst=some dd
 bare:oa.guard=none
 beside:∀j o,j<n->ops[j]?=some o->dd ∉ o.looksAt ops/\o.dst≠some dd
 sel:∀(j:Nat) (o:Oper),ops[j]?=some o->∀cs b,o.op ≠ .select cs b
theorem abw {a:Array Bool}(h:Region.seqB .any ops' 3 n a=true):Region.ready .any ops' a=[n]/\Region.ready .any ops' (a.setIfInBounds n true)=[n+1] /\
  Region.ready .any ops' ((a.setIfInBounds n true).setIfInBounds (n+1) true)=[n+2]/\Region.ready .any ops' (((a.setIfInBounds n true).setIfInBounds (n+1) true).setIfInBounds (n+2) true)=[]:=by
 simp only[Region.seqB,Bool.and_eq_true,decide_eq_true_eq,List.isEmpty_iff]at h;exact⟨h.1,h.2.1,h.2.2.1,h.2.2.2⟩
theorem ia {Z:Array Bool}{j:Nat}:j ∉ Region.ready .any ops (Z.setIfInBounds j true):=by
 intro h;have:=(mem_ready.1 h).1;rcases Nat.lt_or_ge j Z.size with a|b
 ·simp[a]at this
 ·simp[Array.getElem?_eq_none b]at this
theorem qh {Z:Array Bool}{j:Nat}(h:j∈Region.ready .any ops Z):j<ops.size:=by
 obtain⟨_,o,a,_⟩:=mem_ready.1 h;exact(Array.getElem?_eq_some_iff.1 a).1
theorem Ay (T:Ki ops ops' n N dd oc oa os){b:Array Bool}(d:Region.seqB .any ops' 3 n b=true){a:Act}{w':World}(h:wpList P ops Q [os] a w') :
  wpAny P .any ops Q 1 ((b.setIfInBounds n true).setIfInBounds (n+1) true) a w' := by
 obtain⟨r0,r1,f,k⟩:=abw d;have key:∀j,j∈Region.ready .any ops ((b.setIfInBounds n true).setIfInBounds (n+1) true)↔j=n+2:=by
  intro j;by_cases c:j=n+1
  ·subst c
   exact⟨fun h=>absurd h ia,fun h=>by omega⟩
  ·rw[T.tw.ready c,f];simp
 refine⟨fun h0=>?_,fun i hi=>?_⟩
 ·have:=(key (n+2)).2 rfl
  rw[h0]at this;cases this
 ·obtain rfl:=(key i).1 hi
  have hw:wpOp P ops Q (n+2) (wpList P ops Q []) a w' := by unfold wpOp;simp only[T.s];exact h
  refine wpOp_mono (fun p q o=>⟨?_,o⟩) hw
  refine List.eq_nil_iff_forall_not_mem.2 (fun j c=>?_)
  by_cases e:j=n+1
  ·subst e
   have hc:(((b.setIfInBounds n true).setIfInBounds (n+1) true).setIfInBounds (n+2) true)=(((b.setIfInBounds n true).setIfInBounds (n+2) true).setIfInBounds (n+1) true):=Array.setIfInBounds_comm _ _ (by omega)
   rw[hc]at c;exact ia c
  ·rw[T.tw.ready e,k]at c;cases c
theorem Az (T:Ki ops ops' n N dd oc oa os){G:World}(I:Pure w G){ptr:Value}
  (Ah:∀w',Pure (G.alloc z) w' -> wpList P ops Q [oc,os] (aS.put (some dd) ptr) w'):∀(f:Nat) (b:Array Bool) (a:Act) (w':World),HA P ops' n aS w f b a->HeadInv .any ops' n b->a.tmps.size=N->Pure (G.alloc z) w' ->
  wpAny P .any ops Q (f+2) (b.setIfInBounds (n+1) true) (a.put (some dd) ptr) w' := by
 intro f;induction f with
 | zero=>
  intro b a w' H inv W q;obtain⟨t,rfl⟩:=H w (Pure.refl w);obtain⟨r0,r1,r2,r3⟩:=abw t;have u:b.getD n true=false:=inv.tail n (Nat.le_refl _) (by rw[T.tw.size'];omega)
  have key:∀j,j∈Region.ready .any ops (b.setIfInBounds (n+1) true)↔j=n:=by
   intro j;by_cases D:j=n+1
   ·subst D
    exact⟨fun h=>absurd h ia,fun h=>by omega⟩
   ·rw[T.tw.ready D]
    by_cases hle:j<=n
    ·rw[T.tw.jW hle,r0];simp
    ·refine⟨fun h=>?_,fun h=>by omega⟩
     have y:=qh h;rw[T.tw.size']at y;have A:j=n+2:=by omega
     subst A;obtain⟨o,e,J,he,K,B⟩:=T.tw.last;obtain⟨_,Z,k,p⟩:=mem_ready.1 h;rw[J]at k;cases k;have:=p e he K;rw[B,getD_set_ne false (by omega),getD_both u]at this
     cases this
  refine⟨fun h0=>?_,fun i hi=>?_⟩
  ·have:=(key n).2 rfl
   rw[h0]at this;cases this
  ·obtain rfl:=(key i).1 hi
   have hw:wpOp P ops Q i (wpList P ops Q [os]) (a.put (some dd) ptr) w' := by unfold wpOp;simp only[T.c];exact Ah w' q
   refine wpOp_mono (fun a2 L M=>?_) hw
   rw[Array.setIfInBounds_comm (i:=i+1) (j:=i) _ _ (by omega)]
   exact Ay T t M
 | succ f ih=>
  intro b a w' H inv W q;obtain⟨O,E⟩:=H.step T.ds W;have key:∀j,j∈Region.ready .any ops (b.setIfInBounds (n+1) true)->j∈Region.ready .any ops' b:=by
   intro j h;by_cases D:j=n+1
   ·subst D;exact absurd h ia
   ·have X := (T.tw.ready D).1 h
    by_cases hle:j<=n
    ·exact(T.tw.jW hle).1 X
    ·have y:=qh h
     rw[T.tw.size]at y;have A:j=n+2:=by omega
     subst A;have u:b.getD n true=false:=inv.tail n (Nat.le_refl _) (by rw[T.tw.size'];omega)
     obtain⟨o,e,J,he,K,B⟩:=T.tw.last;obtain⟨_,Z,k,p⟩:=mem_ready.1 X;rw[J]at k;cases k;have:=p e he K;rw[B,getD_set_ne false (by omega),getD_both u]at this
     cases this
  refine⟨fun h0=>?_,fun i hi=>?_⟩
  ·obtain⟨i,hi⟩:=List.exists_mem_of_ne_nil _ O
   have r:=(E i hi).1;have:i∈Region.ready .any ops (b.setIfInBounds (n+1) true):=(T.tw.ready (by omega)).2 ((T.tw.jW (by omega)).2 hi)
   rw[h0]at this;cases this
  ·have F := key i hi
   obtain⟨r,hq⟩:=E i F;have hW:Pure w w' := (I.alloc z).trans q;have Y:=hq w' hW;rw[T.tw.qg (by omega)]at Y
   obtain⟨_,S,s,_⟩:=mem_ready.1 hi;have M:=ue (d:=dd) (v:=ptr) s (T.beside i S r s).1 (T.beside i S r s).2 (T.sel i S s) Y;refine wpOp_of_qOp (C:=fun L=>∃x:Ext,L=over w' x) (jg w') (fun a2 L U hK=>?_) M
   obtain⟨a0,rfl,hH,V⟩:=hK;rw[show(b.setIfInBounds (n+1) true).setIfInBounds i true=(b.setIfInBounds i true).setIfInBounds (n+1) true from Array.setIfInBounds_comm _ _ (by omega)]
   exact ih _ _ _ hH (inv.set F r) V (q.trans U)
theorem ym (T:Ki ops ops' n N dd oc oa os)(yo:∀(a:Act)(w:World),(execOp a.eval oa).run P w=.ok (.value (.pointer (some ⟨w.heap.size,0,none⟩))) (w.alloc z))
  (G:∀w',Pure w w' -> wpList P ops Q [oc,oa,os] aS w')
  (Ah:∀u w',Pure w u->Pure (u.alloc z) w' -> wpList P ops Q [oc,os] (aS.put (some dd) (.pointer (some ⟨u.heap.size,0,none⟩))) w') :
  ∀(f:Nat) (b:Array Bool) (a:Act) (w':World),HA P ops' n aS w f b a->HeadInv .any ops' n b->a.tmps.size=N->Pure w w' -> wpAny P .any ops Q (f+3) b a w' := by
 have B:∀(f:Nat) (b:Array Bool) (a:Act) (w':World),HA P ops' n aS w f b a->HeadInv .any ops' n b->a.tmps.size=N->Pure w w' -> wpOp P ops Q (n+1) (wpAny P .any ops Q (f+2) (b.setIfInBounds (n+1) true)) a w' := by
  intro f b a w' H inv p d;have I:Region.wanted oa (yielded ops a.tmps)=true:=by simp[Region.wanted,T.bare]
  unfold wpOp;simp only[T.a,I,if_true];refine .inl ?_
  unfold Oper.wp;rw[yo a w'];unfold Oper.upon;rw[T.dst];exact Az T d (fun q o=>Ah w' q d o) f b a _ H inv p (Pure.refl _)
 have h:∀(b:Array Bool),HeadInv .any ops' n b->n+1∈Region.ready .any ops b:=by
  intro b inv;rw[mem_ready];refine⟨inv.tail _ (by omega) (by rw[T.tw.size'];omega),oa,T.a,fun e he=>?_⟩
  rw[T.tw.free oa T.a]at he;simp at he
 intro f;induction f with
 | zero=>
  intro b a w' H inv p d;have J:=H;obtain⟨k,rfl⟩:=H w (Pure.refl w);obtain⟨r0,r1,S,U⟩:=abw k;refine⟨fun h0=>?_,fun i hi=>?_⟩
  ·have:=h b inv
   rw[h0]at this;cases this
  ·by_cases r:i=n+1
   ·subst r;exact B 0 b a w' J inv p d
   ·have:=(T.tw.ready r).1 hi
    rw[r0]at this;obtain rfl:i=n:=by simpa using this
    have hw:wpOp P ops Q i (wpList P ops Q [oa,os]) a w' := by unfold wpOp;simp only[T.c];exact G w' d
    refine wpOp_mono (fun D q K=>?_) hw
    have key:∀j,j∈Region.ready .any ops (b.setIfInBounds i true)↔j=i+1:=by
     intro j;by_cases t:j=i+1
     ·subst t
      refine⟨fun _=>rfl,fun _=>?_⟩
      exact ready_mono (h b inv) (by omega)
     ·rw[T.tw.ready t,r1]
      simp
    refine⟨fun h0=>?_,fun j t=>?_⟩
    ·have:=(key (i+1)).2 rfl
     rw[h0]at this;cases this
    ·obtain rfl:=(key j).1 t
     have v:wpOp P ops Q (i+1) (wpList P ops Q [os]) D q:=by unfold wpOp;simp only[T.a];exact K
     exact wpOp_mono (fun V W L=>Ay T k L) v
 | succ f ih=>
  intro b a w' H inv p d;obtain⟨M,y⟩:=H.step T.ds p;refine⟨fun h0=>?_,fun i hi=>?_⟩
  ·have:=h b inv
   rw[h0]at this;cases this
  ·by_cases r:i=n+1
   ·subst r;exact B (f+1) b a w' H inv p d
   ·have s := (T.tw.ready r).1 hi
    obtain⟨A,O⟩:=y i s;have E:=O w' d;rw[T.tw.qg (by omega)]at E
    refine wpOp_of_qOp (C:=fun q=>∃x:Ext,q=over w' x) (jg w') (fun D q o F=>?_) E
    exact ih _ _ _ F.1 (inv.set s A) F.2 (d.trans o)
end
def gX (n:Nat)(l:List Oper):List Oper:=l.modify (n+1) fun o=>{ o with after:= #[⟨n,.data⟩] }
def Gd (l:List Oper)(n N:Nat)(dd:Tmp):Bool:=
 l.length == n+3 && Region.lexTailB .any (gX n l).toArray n && Region.noSelect l.toArray
 && (l[n+1]?).any (fun o=>o.after.isEmpty && (o.dst == some dd) && o.guard.isNone)
 && (l.take (n+1)).all (fun o=>o.after.all fun e=>e.on != n+1)
 && (l[n+2]?).any (fun o=>o.after.any fun e=>Region.binds .any e && e.on == n)
 && decide ((l.take n).filterMap (·.dst)).Nodup && ((l.take n).filterMap (·.dst)).all (fun t=>decide (t<N))
 && (l.take n).all (fun o => !(o.looksAt l.toArray).contains dd && o.dst != some dd)
theorem ug {l:List Oper}:(l.filterMap (·.dst)).Nodup->∀(i j:Nat)(b c:Oper)(t:Tmp),l[i]?=some b->l[j]?=some c->b.dst=some t->c.dst=some t->i=j:=by
 induction l with
 | nil=>intro _ i j b c t h;simp at h
 | cons o l ih=>
  intro a i j b c t hi d e f;cases p:o.dst with
  | none=>
   rw[List.filterMap_cons_none p]at a;cases i with
   | zero=>simp at hi;subst hi;rw[p]at e;cases e
   | succ i=>
    cases j with
    | zero=>simp at d;subst d;rw[p]at f;cases f
    | succ j=>rw[ih a i j b c t (by simpa using hi) (by simpa using d) e f]
  | some u=>
   rw[List.filterMap_cons_some p,List.nodup_cons]at a;have hm:∀(k:Nat) (ok:Oper),l[k]?=some ok->ok.dst=some t->t∈l.filterMap (·.dst):=fun k ok hk q=>List.mem_filterMap.2 ⟨ok,asw hk,q⟩
   cases i with
   | zero=>
    simp at hi;subst hi;rw[p]at e;cases e;cases j with
    | zero=>rfl
    | succ j=>exact absurd (hm j c (by simpa using d) f) a.1
   | succ i=>
    cases j with
    | zero=>
     simp at d;subst d;rw[p]at f;cases f;exact absurd (hm i b (by simpa using hi) e) a.1
    | succ j=>rw[ih a.2 i j b c t (by simpa using hi) (by simpa using d) e f]
theorem qi {P:Program}{ops ops':Array Oper}{C:World->Prop}{K:Act->Prop}(b:∀tmps,yielded ops tmps=yielded ops' tmps)(l:List Oper):∀a,wpQuiet P ops C K l a->wpQuiet P ops' C K l a:=by
 induction l with
 | nil=>intro a h;exact h
 | cons o l ih=>
  intro a h;unfold wpQuiet at h ⊢;rw[←b];split
  ·rename_i hw
   simp only[hw,if_true]at h;obtain⟨v,c,d⟩:=h;exact⟨v,c,ih _ d⟩
  ·rename_i hw
   simp only[hw]at h;exact ih _ h
theorem Si {l:List Oper}{n N:Nat}{dd:Tmp}{oc oa os:Oper}(hB:Gd l n N dd=true)(hl:l.drop n=[oc,oa,os]):Ki l.toArray (gX n l).toArray n N dd oc oa os/\Region.lexTailB .any (gX n l).toArray n=true:=by
 simp only[Gd,Bool.and_eq_true,beq_iff_eq,decide_eq_true_eq]at hB;obtain⟨⟨⟨⟨⟨⟨⟨⟨A,E⟩,F⟩,k⟩,G⟩,p⟩,H⟩,I⟩,J⟩:=hB;have gc:l[n]?=some oc:=by have:=congrArg (·[0]?) hl;simpa using this
 have h:l[n+1]?=some oa:=by have:=congrArg (·[1]?) hl;simpa using this
 have gs:l[n+2]?=some os:=by have:=congrArg (·[2]?) hl;simpa using this
 rw[h]at k;rw[gs]at p;simp only[Option.any_some,Bool.and_eq_true,beq_iff_eq]at k p;obtain⟨⟨q,r⟩,s⟩:=k;have a:∀i,i≠n+1->(gX n l)[i]?=l[i]? := fun i hi=>by unfold gX;rw[List.getElem?_modify];simp[Ne.symm hi]
 have u:(gX n l)[n+1]?=some { oa with after:= #[⟨n,.data⟩] }:=by unfold gX;rw[List.getElem?_modify,h];simp
 have c:∀(i:Nat) (o:Oper),i<n->(gX n l)[i]?=some o->(l.take n)[i]?=some o:=fun i o hi d=>by rw[a i (by omega)]at d;rw[List.getElem?_take,if_pos hi];exact d
 refine⟨⟨⟨by simpa using A,by unfold gX;simpa using A,fun i hi=>by simp[a i hi],by simp[h,u],fun o d=>?_,fun i o e hi d he=>?_,?_⟩,⟨fun i j B D t hi v x K=>ug H i j B D t (c i B hi (by simpa using x)) (c j D v (by simpa using K)),fun i o t hi d L=>?_⟩,by simpa using gc,by simpa using h,by simpa using gs,r,by simpa using s,fun j o v d=>?_,fun j o d cs b=>Region.noSelect_spec F j o cs b d⟩,E⟩
 ·have:oa=o:=by rw[List.getElem?_toArray,h]at d;exact asy d
  subst this;simpa using q
 ·have f:(l.take (n+1))[i]?=some o:=by
   rw[List.getElem?_toArray,a i (by omega)]at d
   rw[List.getElem?_take,if_pos (by omega)];exact d
  have:=List.all_eq_true.1 G o (asw f);have:=Array.all_eq_true_iff_forall_mem.1 this e he;simpa using this
 ·obtain⟨i,hi,y⟩:=Array.any_eq_true.1 p
  simp only[Bool.and_eq_true,beq_iff_eq]at y;have he:=Array.getElem_mem hi;exact⟨os,_,by rw[List.getElem?_toArray,a _ (by omega)];exact gs,he,y.1,y.2⟩
 ·have:=List.all_eq_true.1 I t (List.mem_filterMap.2 ⟨o,asw (c i o hi (by simpa using d)),L⟩)
  simpa using this
 ·have f:(l.take n)[j]?=some o:=by rw[List.getElem?_take,if_pos v];simpa using d
  have:=List.all_eq_true.1 J o (asw f);simpa using this
theorem lX {P:Program}{id:Nat}{Q:Exit->Act->World->Prop}{a:Act}{w:World}{l:List Oper}(n:Nat)(aS:Act){oc oa os:Oper}(dd:Tmp)(z:Obj)(hm:P.follows .mixedOrders=true)(hB:Gd l n a.tmps.size dd=true)(hl:l.drop n=[oc,oa,os])
  (yo:∀(a:Act) (w:World),(execOp a.eval oa).run P w=.ok (.value (.pointer (some ⟨w.heap.size,0,none⟩))) (w.alloc z))
  (H:∀W,Below w.heap.size w W->wpQuiet P l.toArray (fun w' => ∃x:Ext,w'=over W x) (fun r => r=aS) (l.take n) a)
  (s:∀w',Below w.heap.size w w' -> wpList P l.toArray Q [oc,oa,os] aS w')
  (Ah:∀c w',Below w.heap.size w c->Below (c.heap.size+1) (c.alloc z) w' -> wpList P l.toArray Q [oc,os] (aS.put (some dd) (.pointer (some ⟨c.heap.size,0,none⟩))) w'):(Code.region id l.toArray true).wp P Q a w:=by
 obtain⟨T,d⟩:=Si hB hl;have hlen:l.length=n+3:=by have:=T.tw.size;simpa using this
 have b:(gX n l).length=n+3:=by have:=T.tw.size';simpa using this
 simp only[Region.lexTailB,Bool.and_eq_true,decide_eq_true_eq]at d;obtain⟨⟨⟨⟨e,u⟩,v⟩,hc⟩,d⟩:=d;have h:(gX n l).toArray.size-n=3:=by simp[b]
 rw[h]at d;have f:(l.take n).length=n:=by simp[hlen]
 have p:HeadInv .any (gX n l).toArray n (Array.replicate (gX n l).toArray.size false):=
  ⟨by simp,fun j D _ hl=>(by rw[getD_replicate_false]at hl;cases hl),fun t _ y=>getD_in (by simpa using y) (getD_replicate_false _ _)⟩
 have A:HA P (gX n l).toArray n aS w n (Array.replicate (gX n l).toArray.size false) a:=by
  intro W B;have i:=qi (fun t=>T.tw.yield t) _ _ (H W B.below)
  have:=wV (P:=P) (C:=fun w' => ∃x:Ext,w'=over W x) (md:= .any) (g:=3) e v hc u (l.take n) 0 _ a (fun j q=>by
   have k:j<n:=by rw[f]at q;exact q
   have:=T.tw.same j (by omega)
   simp only[List.getElem?_toArray]at this;rw[List.getElem?_take,if_pos k,this];simp) (by rw[f];omega) p (by rw[f];exact d) i
  rwa [f]at this
 refine wp_region_any hm ?_
 have key:=ym (Q:=Q) T yo (fun w' o => s w' o.below) (fun c w' h0 i=>Ah c w' h0.below (by have:=i.below;rwa [World.size_alloc]at this)) n _ a _ A p rfl ⟨_,jV w⟩
 rw[show l.toArray.size=n+3 by simp[hlen]]
 rw[show(gX n l).toArray.size=n+3 by simp[b]]at key
 exact key
section
variable {P:Program}{n N g:Nat}{ops ops':Array Oper}{Q:Exit->Act->World->Prop}{w:World}{z:Obj}{aS:Act}{dd:Tmp}{oa:Oper}
def LLg (ops':Array Oper)(n g:Nat)(aS:Act):Array Bool->Act->Prop:=fun listed' a' => Region.seqB .any ops' g n listed'=true/\a'=aS
def HAg (P:Program)(ops':Array Oper)(n g:Nat)(aS:Act)(w:World)(f:Nat)(listed:Array Bool)(a:Act):Prop:=
 ∀W,Pure w W->mG P .any ops' (fun w' => ∃x:Ext,w'=over W x) n (LLg ops' n g aS) f listed a
theorem ni {C:World->Prop}{t:Tmp}:∀(f:Nat)(b:Array Bool)(a:Act),mG P .any ops' C n (LLg ops' n g aS) f b a ->
  (∀j o,j<n->ops'[j]?=some o->b.getD j true=false->o.dst≠some t)->aS.tmps.getD t undef=a.tmps.getD t undef:=by
 intro f;induction f with
 | zero=>intro b a h _;rw[h.2]
 | succ f ih=>
  intro b a h s;obtain⟨i,hi⟩:=List.exists_mem_of_ne_nil _ h.1;obtain⟨k,d⟩:=h.2 i hi;obtain⟨p,o,q,_⟩:=mem_ready.1 hi;have c:=s i o k q p;have u:∀j o,j<n->ops'[j]?=some o->(b.setIfInBounds i true).getD j true=false->o.dst≠some t:=by
   intro j x y r hl;by_cases e:i=j
   ·subst e;rw[q]at r;cases r;exact c
   ·rw[getD_set_ne true e]at hl;exact s j x y r hl
  unfold qOp at d;simp only[q]at d;split at d
  ·obtain⟨v,_,A⟩:=d
   rw[ih _ _ A u,dF _ _ _ _ c]
  ·rw[ih _ _ d u,dF _ _ _ _ c]
theorem HAg.step (F:Ml ops' n N){f:Nat}{b:Array Bool}{a:Act}(u:a.tmps.size=N)(H:HAg P ops' n g aS w (f+1) b a) :
  Region.ready .any ops' b≠[]/\∀i,i∈Region.ready .any ops' b->i<n/\∀W,Pure w W->qOp P ops' (fun w' => ∃x:Ext,w'=over W x) i (fun G => HAg P ops' n g aS w f (b.setIfInBounds i true) G /\ G.tmps.size=N) a:=by
 refine⟨(H w (Pure.refl w)).1,fun i hi=>⟨((H w (Pure.refl w)).2 i hi).1,fun W J=>?_⟩⟩
 have p:=((H W J).2 i hi).2;have q:=((H w (Pure.refl w)).2 i hi).1;obtain⟨y,o,r,_⟩:=mem_ready.1 hi;unfold qOp at p ⊢;simp only[r]at p ⊢;split
 ·rename_i hw
  simp only[hw,if_true]at p;obtain⟨v,K,L⟩:=p;refine⟨v,K,fun A d=>?_,by rw[fL];exact u⟩
  have h:=((H A d).2 i hi).2;unfold qOp at h;simp only[r,hw,if_true]at h;obtain⟨v2,_,I⟩:=h;have e:a.put o.dst v=a.put o.dst v2:=by
   cases B:o.dst with
   | none=>rfl
   | some t=>
    have c:∀j s,j<n->ops'[j]?=some s->(b.setIfInBounds i true).getD j true=false->s.dst≠some t:=by
     intro j s M O hl e;have D:=F.one i j o s t q M r O B e;subst D;rcases Nat.lt_or_ge i b.size with k|E
     ·simp[k]at hl
     ·simp[Array.getElem?_eq_none E]at y
    have k1:=ni _ _ _ L c;have k2:=ni _ _ _ I c;have k:t<a.tmps.size:=by rw[u];exact F.lt i o t q r B
    rw[B,dX _ _ _ k]at k1 k2;rw[←k1,←k2]
  rw[e];exact I
 ·rename_i hw
  simp only[hw]at p;refine⟨fun A d=>?_,by rw[fL];exact u⟩
  have h:=((H A d).2 i hi).2;unfold qOp at h;simp only[r,hw]at h;exact h
structure iK (ops ops':Array Oper)(n N:Nat)(dd:Tmp)(oa:Oper):Prop where
 size:ops'.size=ops.size
 lt:n+1<ops.size
 same:∀i,i≠n->ops[i]?=ops'[i]?
 ds:Ml ops' n N
 a:ops[n]?=some oa
 aek:(ops[n]?).bind (·.dst)=(ops'[n]?).bind (·.dst)
 dst:oa.dst=some dd
 bare:oa.guard=none
 low:∀j o e,j<n->ops[j]?=some o->e∈o.after->e.on≠n
 sub:∀o' e,ops'[n]?=some o' -> e∈oa.after->e∈o'.after
 looks:∀j o t,j<n->ops[j]?=some o->o.dst=some t->t∈oa.looksAt ops->∃e,e∈oa.after/\Region.binds .any e=true/\e.on=j
 beside:∀j o,j<n->ops[j]?=some o->dd ∉ o.looksAt ops/\o.dst≠some dd
 sel:∀(j:Nat) (o:Oper),ops[j]?=some o->∀cs b,o.op ≠ .select cs b
 sink:∀i,1<=i->i<n->∃j,i<j/\j<=n+1/\Region.waitsFor .any ops j i=true
 chain:∀t,n<t->t<ops.size->t≠n+1->Region.waitsFor .any ops t (t-1)=true
theorem iK.yield (T:iK ops ops' n N dd oa)(tmps:Array Value):yielded ops tmps=yielded ops' tmps:=by
 funext k
 unfold yielded;by_cases hk:k=n
 ·subst hk;rw[T.aek]
 ·rw[T.same k hk]
theorem iK.qg (T:iK ops ops' n N dd oa){C:World->Prop}{i:Nat}(hi:i≠n)(K:Act->Prop)(a:Act):qOp P ops' C i K a=qOp P ops C i K a:=by
 unfold qOp;rw[T.same i hi,T.yield]
theorem iK.ready (T:iK ops ops' n N dd oa){Z:Array Bool}{j:Nat}(a:j≠n):j∈Region.ready .any ops Z↔j∈Region.ready .any ops' Z:=by
 rw[mem_ready,mem_ready,T.same j a]
theorem iK.jW (T:iK ops ops' n N dd oa){Z:Array Bool}{j:Nat}(d:j<n):j∈Region.ready .any ops (Z.setIfInBounds n true)↔j∈Region.ready .any ops Z:=by
 rw[mem_ready,mem_ready,getD_set_ne true (by omega)]
 constructor
 ·rintro ⟨h0,o,b,a⟩
  exact⟨h0,o,b,fun e he c=>by have:=a e he c;rwa [getD_set_ne false (Ne.symm (T.low j o e d b he))]at this⟩
 ·rintro ⟨h0,o,b,a⟩
  exact⟨h0,o,b,fun e he c=>by rw[getD_set_ne false (Ne.symm (T.low j o e d b he))];exact a e he c⟩
theorem iK.tail (T:iK ops ops' n N dd oa):∀(f:Nat)(Z:Array Bool)(a:Act)(w':World),Z.getD n true=true->wpAny P .any ops' Q f Z a w' -> wpAny P .any ops Q f Z a w' := by
 have d:∀(Z:Array Bool),Z.getD n true=true->Region.ready .any ops Z=Region.ready .any ops' Z:=by
  intro Z b;unfold Region.ready;rw[T.size];refine List.filter_congr (fun j _=>?_)
  by_cases k:j=n
  ·subst k;simp only[b];rfl
  ·rw[T.same j k]
 intro f;induction f with
 | zero=>intro Z a w' b h;exact⟨by rw[d Z b];exact h.1,h.2⟩
 | succ f ih=>
  intro Z a w' b h;refine⟨fun h0=>h.1 (by rw[←d Z b];exact h0),fun i hi=>?_⟩
  rw[d Z b]at hi;have o:=h.2 i hi;have c:i≠n:=by
   intro e;subst e;have:=(mem_ready.1 hi).1;rw[b]at this;cases this
  have p:wpOp P ops Q i (wpAny P .any ops' Q f (Z.setIfInBounds i true)) a w' := by
   unfold wpOp at o ⊢;rw[T.same i c,T.yield];exact o
  exact wpOp_mono (fun r s q=>ih _ _ _ (by rw[getD_set_ne true c];exact b) q) p
theorem yq (b:∀tmps,yielded ops tmps=yielded ops' tmps)(l:List Oper):∀(a:Act)(w:World),wpList P ops Q l a w->wpList P ops' Q l a w:=by
 induction l with
 | nil=>intro a w h;exact h
 | cons o l ih=>
  intro a w h;unfold wpList at h ⊢;rw[←b];split
  ·rename_i hw
   simp only[hw,if_true]at h;rcases h with h|h
   ·exact .inl (Oper.wp_mono (fun a w h=>ih a w h) h)
   ·exact .inr h
  ·rename_i hw
   simp only[hw]at h;exact ih _ _ h
theorem Ba (T:iK ops ops' n N dd oa){b:Array Bool}(inv:HeadInv .any ops' n b)(V:b.getD 0 true=true)(r:∀e,e∈oa.after->Region.binds .any e=true->b.getD e.on false=true) :
  ∀(d i:Nat),n-i=d->1<=i->i<n->b.getD i true=false->∀t,n<t->t ∉ Region.ready .any ops (b.setIfInBounds n true):=by
 intro d;induction d using Nat.strongRecOn with
 | _ d ih=>
  intro i W L s h t J u;obtain⟨j,M,O,hw⟩:=T.sink i L s;obtain⟨v,x,e,he,y,k⟩:=Region.waitsFor_spec hw;obtain⟨_,K,o,f⟩:=mem_ready.1 u;have p:=qh u;by_cases A:j<n
  ·cases hl:b.getD j false with
   | true=>
    have c:=inv.closed j v (by rw[←T.same j (by omega)];exact x) hl e he y
    rw[k,getD_both h]at c;cases c
   | false=>
    have B:j<b.size:=by rw[inv.size,T.size];have:=T.lt;omega
    exact ih (n-j) (by omega) j rfl (by omega) A (getD_in B hl) t J u
  ·by_cases D:j=n
   ·subst D
    have:v=oa:=asy (x.symm.trans T.a);subst this;have c:=r e he y;rw[k,getD_both h]at c;cases c
   ·have S:j=n+1:=by omega
    subst S;by_cases q:t=n+1
    ·subst q
     have:v=K:=asy (x.symm.trans o);subst this;have c:=f e he y;rw[k,getD_set_ne false (by omega),getD_both h]at c
     cases c
    ·obtain⟨E,F,U,G,H,I⟩:=Region.waitsFor_spec (T.chain t J p q)
     have:E=K:=asy (F.symm.trans o);subst this;have c:=f U G H;rw[I,getD_set_ne false (by omega),getD_both (inv.tail (t-1) (by omega) (by rw[T.size];omega))]at c
     cases c
theorem Bb (T:iK ops ops' n N dd oa){m:Nat}{tl:List Oper}(s:tl.length=m)(E:∀j,tl[j]?=ops[n+1+j]?){F:World}(G:Pure w F){v:Value}
  (Ah:∀w',Pure (F.alloc z) w' -> wpList P ops Q tl (aS.put (some dd) v) w'):∀(f:Nat) (b:Array Bool) (a:Act) (w':World),HAg P ops' n (m+1) aS w f b a->HeadInv .any ops' n b->b.getD 0 true=true ->
  (∀e,e∈oa.after->Region.binds .any e=true->b.getD e.on false=true)->a.tmps.size=N->Pure (F.alloc z) w' ->
  wpAny P .any ops Q (f+m) (b.setIfInBounds n true) (a.put (some dd) v) w' := by
 intro f;induction f with
 | zero=>
  intro b a w' H inv D p O c;obtain⟨o,rfl⟩:=H w (Pure.refl w);simp only[Region.seqB,Bool.and_eq_true,decide_eq_true_eq]at o;rw[Nat.zero_add];have W:n<b.size:=by rw[inv.size,T.size];have:=T.lt;omega
  refine T.tail _ _ _ _ (by simp[W]) ?_
  have:=wpAny_of_seq (P:=P) (md:= .any) (ops:=ops') (Q' := Q) tl (n+1) (b.setIfInBounds n true) (a.put (some dd) v) w' (fun j=>by rw[E j,T.same _ (by omega)]) (by rw[s];exact o.2) (yq (fun t=>T.yield t) _ _ _ (Ah w' c))
  rwa [s]at this
 | succ f ih=>
  intro b a w' H inv D p O c;obtain⟨I,u⟩:=H.step T.ds O;obtain⟨i0,J⟩:=List.exists_mem_of_ne_nil _ I;have y:=(u i0 J).1;have q:=(mem_ready.1 J).1;have A:1<=i0:=by
   rcases Nat.eq_zero_or_pos i0 with h|h
   ·subst h;rw[D]at q;cases q
   ·exact h
  have key:∀j,j∈Region.ready .any ops (b.setIfInBounds n true)->j∈Region.ready .any ops' b:=by
   intro j h;by_cases S:j=n
   ·subst S;exact absurd h ia
   ·by_cases hle:j<n
    ·exact(T.ready S).1 ((T.jW hle).1 h)
    ·exact absurd h (Ba T inv D p _ i0 rfl A y q j (by omega))
  rw[show f+1+m=(f+m)+1 by omega]
  refine⟨fun h0=>?_,fun i hi=>?_⟩
  ·have:i0∈Region.ready .any ops (b.setIfInBounds n true):=(T.jW y).2 ((T.ready (by omega)).2 J)
   rw[h0]at this;cases this
  ·have B := key i hi
   obtain⟨r,X⟩:=u i B;have U:=X w' ((G.alloc z).trans c);rw[T.qg (by omega)]at U
   obtain⟨_,K,k,_⟩:=mem_ready.1 hi;have Y:=ue (d:=dd) (v:=v) k (T.beside i K r k).1 (T.beside i K r k).2 (T.sel i K k) U;refine wpOp_of_qOp (C:=fun V=>∃x:Ext,V=over w' x) (jg w') (fun a2 V L Z=>?_) Y
   obtain⟨a0,rfl,hH,M⟩:=Z;rw[show(b.setIfInBounds n true).setIfInBounds i true=(b.setIfInBounds i true).setIfInBounds n true from Array.setIfInBounds_comm _ _ (by omega)]
   exact ih _ _ _ hH (inv.set B r) (og D) (fun e he hb=>getD_set_true (p e he hb)) M (c.trans L)
theorem yt (T:iK ops ops' n N dd oa){m:Nat}{tl:List Oper}(D:tl.length=m)(E:∀j,tl[j]?=ops[n+1+j]?){vf:World->Value}
  (yo:∀w':World,(execOp aS.eval oa).run P w' = .ok (.value (vf w')) (w'.alloc z))
  (Ah:∀F w',Pure w F->Pure (F.alloc z) w' -> wpList P ops Q tl (aS.put (some dd) (vf F)) w') :
  ∀(f:Nat) (b:Array Bool) (a:Act) (w':World),HAg P ops' n (m+1) aS w f b a->HeadInv .any ops' n b->b.getD 0 true=true->a.tmps.size=N->Pure w w' -> wpAny P .any ops Q (f+(m+1)) b a w' := by
 have O:∀(f:Nat) (b:Array Bool) (a:Act) (w':World),HAg P ops' n (m+1) aS w f b a->HeadInv .any ops' n b->b.getD 0 true=true->a.tmps.size=N->Pure w w' -> n∈Region.ready .any ops b->wpOp P ops Q n (wpAny P .any ops Q (f+m) (b.setIfInBounds n true)) a w' := by
  intro f b a w' H inv s u c W;obtain⟨_,k,G,h⟩:=mem_ready.1 W;have:k=oa:=asy (G.symm.trans T.a);subst this;have X:Region.wanted k (yielded ops a.tmps)=true:=by simp[Region.wanted,T.bare]
  have heq:execOp a.eval k=execOp aS.eval k := by
   refine execOp_congr k (T.sel n k T.a) (fun x Y=>?_)
   cases x with
   | tmp t=>
    have hk:=ni (t:=t) _ _ _ (H w (Pure.refl w)) (fun j o Z ho hl hd=>by
     obtain⟨e,he,I,J⟩:=T.looks j o t Z (by rw[T.same j (by omega)];exact ho) hd (List.mem_append_left _ (List.mem_filterMap.2 ⟨.tmp t,by simpa using Y,rfl⟩))
     have S:=h e he I;rw[J,getD_both hl]at S;cases S)
    exact hk.symm
   | _=>rfl
  unfold wpOp;simp only[T.a,X,if_true];refine .inl ?_
  unfold Oper.wp;rw[heq,yo w'];unfold Oper.upon;rw[T.dst];exact Bb T D E c (fun A q=>Ah w' A c q) f b a _ H inv s h u (Pure.refl _)
 intro f;induction f with
 | zero=>
  intro b a w' H inv s u c;have H0:=H;obtain⟨p,rfl⟩:=H w (Pure.refl w);simp only[Region.seqB,Bool.and_eq_true,decide_eq_true_eq]at p;have r:n∈Region.ready .any ops b:=by
   have B:n∈Region.ready .any ops' b:=by rw[p.1];simp
   obtain⟨h0,o',K,h⟩:=mem_ready.1 B;exact mem_ready.2 ⟨h0,oa,T.a,fun e he I=>h e (T.sub o' e K he) I⟩
  rw[Nat.zero_add];refine⟨fun h0=>(by rw[h0]at r;cases r),fun i hi=>?_⟩
  by_cases d:i=n
  ·subst d
   have:=O 0 b a w' H0 inv s u c r;rwa [Nat.zero_add]at this
  ·have:=(T.ready d).1 hi
   rw[p.1]at this;exact absurd (by simpa using this) d
 | succ f ih=>
  intro b a w' H inv s u c;obtain⟨L,v⟩:=H.step T.ds u;rw[show f+1+(m+1)=(f+(m+1))+1 by omega]
  refine⟨fun h0=>?_,fun i hi=>?_⟩
  ·obtain⟨i0,U⟩:=List.exists_mem_of_ne_nil _ L
   have:=(T.ready (by have:=(v i0 U).1;omega)).2 U
   rw[h0]at this;cases this
  ·by_cases d:i=n
   ·subst d
    have:=O (f+1) b a w' H inv s u c hi;rwa [show f+1+m=f+(m+1)by omega]at this
   ·have y := (T.ready d).1 hi
    obtain⟨M,hq⟩:=v i y;have B:=hq w' c;rw[T.qg d]at B;exact wpOp_of_qOp (C:=fun A=>∃x:Ext,A=over w' x) (jg w') (fun a2 A q V=>ih _ _ _ V.1 (inv.set y M) (og s) V.2 (c.trans q)) B
end
def eV (n:Nat)(l:List Oper):List Oper:=l.modify n fun o=>{ o with after:=o.after++((List.range n).map fun j=>(⟨j,.data⟩:Edge)).toArray }
def Ge (l:List Oper)(n N:Nat)(dd:Tmp)(oa:Oper):Bool:=
 decide (n+1<l.length) && decide (1<=n) && Region.noSelect l.toArray && Region.noSelect (eV n l).toArray
 && (oa.dst == some dd) && oa.guard.isNone
 && (l.take n).all (fun o=>o.after.all fun e=>e.on != n)
 && (List.range n).all (fun j=>(l[j]?).all fun o=>o.dst.all fun t => !(oa.looksAt l.toArray).contains t || oa.after.any fun e=>Region.binds .any e && e.on == j)
 && decide ((l.take n).filterMap (·.dst)).Nodup && ((l.take n).filterMap (·.dst)).all (fun t=>decide (t<N))
 && (l.take n).all (fun o => !(o.looksAt l.toArray).contains dd && o.dst != some dd)
 && (List.range n).all (fun i=>i == 0 || (List.range (n+2)).any fun j=>decide (i<j) && Region.waitsFor .any l.toArray j i)
 && (List.range l.length).all (fun t=>decide (t<=n+1) || Region.waitsFor .any l.toArray t (t-1))
 && (List.range n).all (fun i=>i == 0 || (List.range (n+1)).any fun j=>decide (i<j) && Region.waitsFor .any (eV n l).toArray j i)
 && Region.chainB .any (eV n l).toArray n
 && Region.lexHead .any (eV n l).toArray (l.length-n) (n-1) 1 ((Array.replicate (eV n l).toArray.size false).setIfInBounds 0 true)
 && (Region.ready .any (eV n l).toArray (Array.replicate (eV n l).toArray.size false)).contains 0
 && (Region.ready .any l.toArray (Array.replicate l.toArray.size false)).contains 0
 && Region.free .any l.toArray (Array.replicate l.toArray.size false) 0
theorem Mm {l:List Oper}{n N:Nat}{dd:Tmp}{oa:Oper}(hB:Ge l n N dd oa=true)(hl:l[n]?=some oa):iK l.toArray (eV n l).toArray n N dd oa/\1<=n/\Region.noSelect l.toArray=true/\Region.noSelect (eV n l).toArray=true /\
  xe .any (eV n l).toArray n/\Region.chainB .any (eV n l).toArray n=true/\Region.lexHead .any (eV n l).toArray (l.length-n) (n-1) 1 ((Array.replicate (eV n l).toArray.size false).setIfInBounds 0 true)=true /\
  0∈Region.ready .any (eV n l).toArray (Array.replicate (eV n l).toArray.size false)/\(Region.ready .any l.toArray (Array.replicate l.toArray.size false)).contains 0=true/\Region.free .any l.toArray (Array.replicate l.toArray.size false) 0=true:=by
 simp only[Ge,Bool.and_eq_true,beq_iff_eq,decide_eq_true_eq]at hB;obtain⟨⟨⟨⟨⟨⟨⟨⟨⟨⟨⟨⟨⟨⟨⟨⟨⟨⟨H,I⟩,D⟩,J⟩,K⟩,L⟩,M⟩,O⟩,S⟩,r⟩,s⟩,T⟩,U⟩,V⟩,W⟩,X⟩,u⟩,Y⟩,v⟩:=hB;have d:∀i,i≠n->(eV n l)[i]?=l[i]? := fun i hi=>by unfold eV;rw[List.getElem?_modify];simp[Ne.symm hi]
 have p:(eV n l)[n]?=some { oa with after:=oa.after++((List.range n).map fun j=>(⟨j,.data⟩:Edge)).toArray }:=by unfold eV;rw[List.getElem?_modify,hl];simp
 have a:∀(i:Nat) (o:Oper),i<n->(eV n l)[i]?=some o->(l.take n)[i]?=some o:=fun i o hi c=>by rw[d i (by omega)]at c;rw[List.getElem?_take,if_pos hi];exact c
 have E:∀(i:Nat) (o:Oper),i<n->l[i]?=some o->o∈l.take n:=fun i o hi c=>asw (by rw[List.getElem?_take,if_pos hi];exact c:(l.take n)[i]?=some o)
 refine⟨⟨by unfold eV;simp,by simpa using H,fun i hi=>by simp[d i hi],⟨fun i j F G t hi f x Z=>ug S i j F G t (a i F hi (by simpa using x)) (a j G f (by simpa using Z)),fun i o t hi c y=>?_⟩,
  by simpa using hl,by simp[hl,p],K,by simpa using L,fun j o e f c he=>?_,fun o' e q he=>?_,fun j o t f c y A=>?_,fun j o f c=>?_,fun j o c cs b=>Region.noSelect_spec D j o cs b c,fun i h0 hi=>?_,fun t h0 A hne=>?_⟩,I,D,J,fun i h0 hi=>?_,W,X,by simpa using u,Y,v⟩
 ·have:=List.all_eq_true.1 r t (List.mem_filterMap.2 ⟨o,asw (a i o hi (by simpa using c)),y⟩)
  simpa using this
 ·have:=List.all_eq_true.1 M o (E j o f (by simpa using c))
  have:=Array.all_eq_true_iff_forall_mem.1 this e he;simpa using this
 ·rw[List.getElem?_toArray,p]at q
  cases q;exact Array.mem_append.2 (.inl he)
 ·have h:=List.all_eq_true.1 O j (List.mem_range.2 f)
  have B:l[j]?=some o:=by simpa using c
  rw[B]at h;simp only[Option.all_some,y,Bool.or_eq_true,Bool.not_eq_true']at h;rcases h with h|h
  ·rw[List.contains_iff_mem.2 A]at h;cases h
  ·obtain⟨i,hi,k⟩:=Array.any_eq_true.1 h
   simp only[Bool.and_eq_true,beq_iff_eq]at k;exact⟨_,Array.getElem_mem hi,k.1,k.2⟩
 ·have:=List.all_eq_true.1 s o (E j o f (by simpa using c))
  simpa using this
 ·have h:=List.all_eq_true.1 T i (List.mem_range.2 hi)
  simp only[Bool.or_eq_true,beq_iff_eq]at h;rcases h with h|h
  ·omega
  ·obtain⟨j,f,k⟩:=List.any_eq_true.1 h
   simp only[Bool.and_eq_true,decide_eq_true_eq]at k;have:=List.mem_range.1 f;exact⟨j,k.1,by omega,k.2⟩
 ·have h:=List.all_eq_true.1 U t (List.mem_range.2 (by simpa using A))
  simp only[Bool.or_eq_true,decide_eq_true_eq]at h;rcases h with h|h
  ·omega
  ·exact h
 ·have h:=List.all_eq_true.1 V i (List.mem_range.2 hi)
  simp only[Bool.or_eq_true,beq_iff_eq]at h;rcases h with h|h
  ·omega
  ·obtain⟨j,f,k⟩:=List.any_eq_true.1 h
   simp only[Bool.and_eq_true,decide_eq_true_eq]at k;have:=List.mem_range.1 f;exact⟨j,k.1,by omega,k.2⟩
theorem eW {P:Program}{id:Nat}{Q:Exit->Act->World->Prop}{a:Act}{w:World}{b:Oper}{l:List Oper}(x:Operand)(k:Nat)(aS:Act){oa:Oper}(dd:Tmp)(z:Obj)(vf:World->Value)(p:b.op=.move x)(J:b.guard=none)(hm:P.follows .mixedOrders=true)
  (hB:Ge (b::l) (k+1) a.tmps.size dd oa=true) (hl:l[k]?=some oa) (q : ∀c (v:Value) a w,Q (.panic c) (a.put b.dst v) w->Q (.panic c) a w)
  (H:∀W,Below w.heap.size w W->wpQuiet P (b::l).toArray (fun w' => ∃x:Ext,w'=over W x) (fun r => r=aS) (l.take k) (a.put b.dst (a.eval x)))
  (yo:∀w':World,(execOp aS.eval oa).run P w' = .ok (.value (vf w')) (w'.alloc z))
  (Ah:∀e w',Below w.heap.size w e->Below (e.heap.size+1) (e.alloc z) w' -> wpList P (b::l).toArray Q (l.drop (k+1)) (aS.put (some dd) (vf e)) w'):(Code.region id (b::l).toArray true).wp P Q a w:=by
 obtain⟨T,_,s,f,K,hc,E,L,F,G⟩:=Mm hB (by simpa using hl)
 have u:=T.lt;have h:(b::l).toArray.size=l.length+1:=by simp
 rw[h]at u;have d:(eV (k+1) (b::l)).toArray.size=l.length+1:=by rw[T.size,h]
 have inv1:HeadInv .any (eV (k+1) (b::l)).toArray (k+1) ((Array.replicate (eV (k+1) (b::l)).toArray.size false).setIfInBounds 0 true):=by
  have M:HeadInv .any (eV (k+1) (b::l)).toArray (k+1) (Array.replicate (eV (k+1) (b::l)).toArray.size false):=
   ⟨by simp,fun j V _ hl=>(by rw[getD_replicate_false]at hl;cases hl),fun t _ O=>getD_in (by simpa using O) (getD_replicate_false _ _)⟩
  exact M.set L (by omega)
 have i:((Array.replicate (eV (k+1) (b::l)).toArray.size false).setIfInBounds 0 true).getD 0 true=true:=by
  rw[d];simp
 have o:(l.take k).length=k:=by simp;omega
 have y:(b::l).toArray[0]?=some b:=by simp
 have A:(b::l).length-(k+1)=(l.length-(k+1))+1:=by simp;omega
 rw[A]at E;have S:HAg P (eV (k+1) (b::l)).toArray (k+1) ((l.length-(k+1))+1) aS w k ((Array.replicate (eV (k+1) (b::l)).toArray.size false).setIfInBounds 0 true) (a.put b.dst (a.eval x)):=by
  intro W U;have B:=qi (fun t=>T.yield t) _ _ (H W U.below)
  have:=ud (P:=P) (C:=fun w' => ∃x:Ext,w'=over W x) (md:= .any) (g:=(l.length-(k+1))+1) f K hc (by rw[d];omega) (l.take k) 1 _ (a.put b.dst (a.eval x)) (fun j I=>by
   have D:j<k:=by rw[o]at I;exact I
   have:=T.same (1+j) (by omega)
   rw[←this];rw[List.getElem?_take,if_pos D];simp[Nat.add_comm 1 j]) (by rw[o];omega) inv1 i (by rw[o];exact E) B
  rwa [o]at this
 refine wp_region_any hm ?_
 have key:=yt (Q:=Q) (m:=l.length-(k+1)) (tl:=l.drop (k+1)) T (by simp) (fun j=>by
   rw[List.getElem?_drop,List.getElem?_toArray,show k+1+1+j=(k+1+j)+1 by omega];simp) yo (fun e w' h0 B=>Ah e w' h0.below (by have:=B.below;rwa [World.size_alloc]at this)) k _ _ _ S inv1 i (by rw[fL]) ⟨_,jV w⟩
 rw[d]at key;rw[show k+(l.length-(k+1)+1)=l.length by omega]at key
 rw[h];refine wpAny_take (v:=a.eval x) y s (by rw[h]at G;exact G) (by rw[h]at F;exact F) (fun c r w' => q c _ r w') (Or.inl ⟨?_,fun w' => BigFrame.run_move x p w'⟩) key
 simp[Region.wanted,J]
section
variable {P:Program}{n N:Nat}{ops ops':Array Oper}{Q:Exit->Act->World->Prop}{w:World}{aS:Act}{Fam:World->Prop}
def HQ (P:Program)(ops':Array Oper)(aS:Act)(Fam:World->Prop)(f:Nat)(listed:Array Bool)(a:Act):Prop:=
 ∀W,Fam W->wpAnyQ P .any ops' (fun w' => ∃x:Ext,w'=over W x) (fun a' => a'=aS) f listed a
theorem q8 {C:World->Prop}{t:Tmp}:∀(f:Nat)(b:Array Bool)(a:Act),wpAnyQ P .any ops' C (fun x => x=aS) f b a ->
  (∀j o,ops'[j]?=some o->b.getD j true=false->o.dst≠some t)->aS.tmps.getD t undef=a.tmps.getD t undef:=by
 intro f;induction f with
 | zero=>
  intro b a h _;have e:a=aS:=h.2;rw[e]
 | succ f ih=>
  intro b a h s;by_cases h0:Region.ready .any ops' b=[]
  ·have e:a=aS:=h.1 h0
   rw[e]
  ·obtain⟨i,hi⟩:=List.exists_mem_of_ne_nil _ h0
   have d:=h.2 i hi;obtain⟨p,o,q,_⟩:=mem_ready.1 hi;have c:=s i o q p;have u:∀j o,ops'[j]?=some o->(b.setIfInBounds i true).getD j true=false->o.dst≠some t:=by
    intro j y r hl;by_cases k:i=j
    ·subst k;rw[q]at r;cases r;exact c
    ·rw[getD_set_ne true k]at hl;exact s j y r hl
   unfold qOp at d;simp only[q]at d;split at d
   ·obtain⟨v,_,A⟩:=d
    rw[ih _ _ A u,dF _ _ _ _ c]
   ·rw[ih _ _ d u,dF _ _ _ _ c]
theorem HQ.step (F:Ml ops' ops'.size N){f:Nat}{b:Array Bool}{a:Act}(u:a.tmps.size=N)(H:HQ P ops' aS Fam (f+1) b a){i:Nat}(hi:i∈Region.ready .any ops' b) :
  ∀W,Fam W->qOp P ops' (fun w' => ∃x:Ext,w'=over W x) i (fun G => HQ P ops' aS Fam f (b.setIfInBounds i true) G /\ G.tmps.size=N) a:=by
 intro W K;have p:=(H W K).2 i hi;obtain⟨y,o,q,_⟩:=mem_ready.1 hi;have r:=qh hi;unfold qOp at p ⊢;simp only[q]at p ⊢;split
 ·rename_i hw
  simp only[hw,if_true]at p;obtain⟨v,L,M⟩:=p;refine⟨v,L,fun A d=>?_,by rw[fL];exact u⟩
  have h:=(H A d).2 i hi;unfold qOp at h;simp only[q,hw,if_true]at h;obtain⟨v2,_,I⟩:=h;have e:a.put o.dst v=a.put o.dst v2:=by
   cases B:o.dst with
   | none=>rfl
   | some t=>
    have c:∀j s,ops'[j]?=some s->(b.setIfInBounds i true).getD j true=false->s.dst≠some t:=by
     intro j s J hl e;have O:j<ops'.size:=(Array.getElem?_eq_some_iff.1 J).1;have D:=F.one i j o s t r O q J B e;subst D;rcases Nat.lt_or_ge i b.size with k|E
     ·simp[k]at hl
     ·simp[Array.getElem?_eq_none E]at y
    have k1:=q8 _ _ _ M c;have k2:=q8 _ _ _ I c;have k:t<a.tmps.size:=by rw[u];exact F.lt i o t r q B
    rw[B,dX _ _ _ k]at k1 k2;rw[←k1,←k2]
  rw[e];exact I
 ·rename_i hw
  simp only[hw]at p;refine⟨fun A d=>?_,by rw[fL];exact u⟩
  have h:=(H A d).2 i hi;unfold qOp at h;simp only[q,hw]at h;exact h
end
def aP (l:List Oper)(e:Nat):Option Tmp:=(l[e]?).bind (·.dst)
def aj (l:List Oper)(ρ:Nat->Option Value):List Nat->Act->Act
 | [],a=>a
 | d::ds,a=>aj l ρ ds (a.put (aP l d) ((ρ d).getD undef))
def upd (ρ:Nat->Option Value)(e:Nat)(v:Value):Nat->Option Value:=fun k=>if k=e then some v else ρ k
def Bc (ρ:Nat->Option Value)(af:Act)(R:(Nat->Option Value)->World->Prop)(e:Nat)(o:Oper):Exit->Act->World->Prop:=
 fun x a' w' => x=.normal/\∃v,a'=af.put o.dst v/\R (upd ρ e v) w'
def rj (all:List Nat)(deps:Nat->List Nat)(ρ:Nat->Option Value):Prop:=∀j,j∈all->(ρ j).isSome=true->∀d,d∈deps j->(ρ d).isSome=true
theorem put_defers (a:Act)(d:Option Tmp)(v:Value):(a.put d v).defers=a.defers:=by cases d <;> rfl
section
variable {l:List Oper}{ρ:Nat->Option Value}
theorem lY:∀(ds:List Nat)(a:Act),(aj l ρ ds a).tmps.size=a.tmps.size
 | [],a=>rfl
 | d::ds,a=>by show(aj l ρ ds _).tmps.size=_;rw[lY ds,fL]
theorem qj:∀(ds:List Nat)(a:Act),(aj l ρ ds a).defers=a.defers
 | [],a=>rfl
 | d::ds,a=>by show(aj l ρ ds _).defers=_;rw[qj ds,put_defers]
theorem js {t:Tmp}:∀(ds:List Nat)(a:Act),(∀d,d∈ds->aP l d≠some t)->(aj l ρ ds a).tmps.getD t undef=a.tmps.getD t undef
 | [],a,_=>rfl
 | d::ds,a,h=>by
  show(aj l ρ ds _).tmps.getD t undef=_
  rw[js ds _ (fun b c=>h b (by simp[c])),dF _ _ _ _ (h d (by simp))]
theorem uh {t:Tmp}{d:Nat}:∀(ds:List Nat)(a:Act),d∈ds->aP l d=some t->t<a.tmps.size->(∀c,aP l c=some t->c=d)->(aj l ρ ds a).tmps.getD t undef=(ρ d).getD undef
 | [],a,h,_,_,_=>by simp at h
 | d0::ds,a,h,j,b,hu=>by
  show(aj l ρ ds _).tmps.getD t undef=_
  by_cases f:d∈ds
  ·exact uh ds _ f j (by rw[fL];exact b) hu
  ·have h0:d=d0:=by
    rcases List.mem_cons.1 h with i|i
    ·exact i
    ·exact absurd i f
   subst h0;rw[js ds _ (fun c k e=>f (by rw[←hu c e];exact k)),j,dX _ _ _ b]
end
theorem Yp {a b:Act}(c:a.tmps.size=b.tmps.size)(h:∀t,a.tmps.getD t undef=b.tmps.getD t undef)(d:a.defers=b.defers):a=b:=by
 obtain⟨e,k⟩:=a;obtain⟨bt,bd⟩:=b;simp only at c h d;subst d;congr 1
 apply Array.ext c
 intro i f j;have:=h i;simpa[f,j] using this
theorem xh {a:Array Bool}{i:Nat}(h:a.getD i false=true):a.getD i true=true:=by
 cases b:a.getD i true with
 | true=>rfl
 | false=>rw[getD_both b]at h;cases h
theorem ui (n j:Nat):(Array.replicate n false).getD j false=false:=by
 rw[Array.getD_eq_getD_getElem?,Array.getElem?_replicate];split <;> rfl
def cF (kn:Nat->Option Value):Nat->List Bool->List Oper->List Oper
 | k,true::m,o::l=>{ o with op:= .move (.const ((kn k).getD undef)),guard:=none }::cF kn (k+1) m l
 | k,false::m,o::l=>o::cF kn (k+1) m l
 | _,[],l=>l
 | _,_::_,[]=>[]
theorem eX (kn:Nat->Option Value):∀(k:Nat)(m:List Bool)(l:List Oper),(cF kn k m l).length=l.length
 | k,true::m,o::l=>by simp[cF,eX kn (k+1) m l]
 | k,false::m,o::l=>by simp[cF,eX kn (k+1) m l]
 | k,[],l=>by simp[cF]
 | k,b::m,[]=>by cases b <;> simp[cF]
theorem nj (kn:Nat->Option Value):∀(k:Nat)(m:List Bool)(l:List Oper)(i:Nat),m.getD i false=false->(cF kn k m l)[i]?=l[i]?
 | k,true::m,o::l,0,h=>by simp at h
 | k,true::m,o::l,i+1,h=>by simpa[cF] using nj kn (k+1) m l i (by simpa using h)
 | k,false::m,o::l,0,h=>by simp[cF]
 | k,false::m,o::l,i+1,h=>by simpa[cF] using nj kn (k+1) m l i (by simpa using h)
 | k,[],l,i,h=>by simp[cF]
 | k,b::m,[],i,h=>by cases b <;> simp[cF]
theorem ld (kn:Nat->Option Value):∀(k:Nat)(m:List Bool)(l:List Oper)(i:Nat)(o:Oper),m.getD i false=true->l[i]?=some o->(cF kn k m l)[i]?=some { o with op:= .move (.const ((kn (k+i)).getD undef)),guard:=none }
 | k,true::m,o::l,0,o',h,a=>by
  simp at a;subst a;simp[cF]
 | k,true::m,o::l,i+1,o',h,a=>by
  have:=ld kn (k+1) m l i o' (by simpa using h) (by simpa using a)
  rw[show k+1+i=k+(i+1)by omega]at this
  simpa[cF] using this
 | k,false::m,o::l,0,o',h,a=>by simp at h
 | k,false::m,o::l,i+1,o',h,a=>by
  have:=ld kn (k+1) m l i o' (by simpa using h) (by simpa using a)
  rw[show k+1+i=k+(i+1)by omega]at this
  simpa[cF] using this
 | k,[],l,i,o',h,a=>by simp at h
 | k,b::m,[],i,o',h,a=>by simp at a
def Sp (ρ:Nat->Option Value)(af:Act)(R:(Nat->Option Value)->World->Prop)(kn:Nat->Option Value)(e:Nat)(o:Oper):Exit->Act->World->Prop:=
 fun x a' w' => x=.normal/\∃v,a'=af.put o.dst v/\(∀u,kn e=some u->v=u)/\R (upd ρ e v) w'
def lZ (P:Program)(l:List Oper)(all:List Nat)(deps:Nat->List Nat)(aS:Act)(R:(Nat->Option Value)->World->Prop)(kn:Nat->Option Value):List Nat->Prop
 | []=>True
 | e::es=>(∀o,l[e]?=some o->∀ ρ w,R ρ w->rj all deps ρ->ρ e=none->(∀d,d∈deps e->(ρ d).isSome=true)->∀af,af=aj l ρ (deps e) aS->wpList P l.toArray (Sp ρ af R kn e o) [o] af w)/\lZ P l all deps aS R kn es
theorem lZ.at {P:Program}{l:List Oper}{all:List Nat}{deps:Nat->List Nat}{aS:Act}{R:(Nat->Option Value)->World->Prop}{kn:Nat->Option Value}:∀ {es:List Nat},lZ P l all deps aS R kn es->∀e,e∈es ->
  ∀o,l[e]?=some o->∀ ρ w,R ρ w->rj all deps ρ->ρ e=none->(∀d,d∈deps e->(ρ d).isSome=true)->∀af,af=aj l ρ (deps e) aS->wpList P l.toArray (Sp ρ af R kn e o) [o] af w
 | [],_,e,h=>by simp at h
 | b::es,H,e,h=>by
  rcases List.mem_cons.1 h with a|a
  ·subst a;exact H.1
  ·exact lZ.at H.2 e a
theorem xj {ops ops':Array Oper}{o:Oper}{a b:Act}(k:∀i:Nat,(ops'[i]?).bind (fun o=>o.dst)=(ops[i]?).bind (fun o=>o.dst))(j:a.tmps.size=b.tmps.size)(h:∀t,t∈o.looksAt ops->a.tmps.getD t undef=b.tmps.getD t undef) :
  Region.wanted o (yielded ops' b.tmps)=Region.wanted o (yielded ops a.tmps):=by
 unfold Region.wanted;cases p:o.guard with
 | none=>rfl
 | some q=>
  obtain⟨g,want⟩:=q;have r:yielded ops' b.tmps g=yielded ops a.tmps g:=by
   unfold yielded;rw[k g];cases s:(ops[g]?).bind (·.dst)with
   | none=>rfl
   | some t=>
    have f:=h t (by simp[Oper.looksAt,p,s])
    have u:b.tmps[t]?=a.tmps[t]? := by
     rw[Array.getD_eq_getD_getElem?,Array.getD_eq_getD_getElem?]at f;rcases Nat.lt_or_ge t a.tmps.size with c|d
     ·have e:t<b.tmps.size:=by rw[←j];exact c
      rw[Array.getElem?_eq_getElem c,Array.getElem?_eq_getElem e]at f ⊢;exact congrArg some f.symm
     ·rw[Array.getElem?_eq_none d,Array.getElem?_eq_none (by rw[←j];exact d)]
    simp only[Option.bind_some,u]
  simp only[r]
structure gF (l:List Oper)(m:List Bool)(kn:Nat->Option Value)(es:List Nat)(deps:Nat->List Nat)(N:Nat):Prop where
 es:∀e,e∈es↔(m.getD e false=true/\e<l.length)
 one:∀(i j:Nat) (oi oj:Oper) (t:Tmp),l[i]?=some oi->l[j]?=some oj->oi.dst=some t->oj.dst=some t->i=j
 lt:∀(i:Nat) (o:Oper) (t:Tmp),l[i]?=some o->o.dst=some t->t<N
 sel:∀(i:Nat) (o:Oper),l[i]?=some o->∀cs b,o.op ≠ .select cs b
 low:∀(i:Nat) (o:Oper) (e:Edge),l[i]?=some o->e∈o.after->Region.binds .any e=true->e.on<i
 quiet:∀(i:Nat) (oi:Oper) (j:Nat) (oj:Oper) (t:Tmp),m.getD i false=false->l[i]?=some oi->m.getD j false=true->kn j=none->l[j]?=some oj->oj.dst=some t->t∈oi.looksAt l.toArray->∃x,x∈oj.after/\Region.binds .any x=true/\x.on=i
 waits:∀(i:Nat) (oi:Oper) (j:Nat) (oj:Oper) (t:Tmp),m.getD i false=true->l[i]?=some oi->l[j]?=some oj->oj.dst=some t->t∈oi.looksAt l.toArray->(∃e,e∈oi.after/\Region.binds .any e=true/\e.on=j)/\(m.getD j false=true->j∈deps i)
 deps:∀(i:Nat) (oi:Oper) (d:Nat),m.getD i false=true->l[i]?=some oi->d∈deps i->m.getD d false=true/\∃e,e∈oi.after/\Region.binds .any e=true/\e.on=d
section
variable {P:Program}{l:List Oper}{m:List Bool}{kn:Nat->Option Value}{es:List Nat}{deps:Nat->List Nat}{N:Nat}{Q:Exit->Act->World->Prop}{aS:Act}{R:(Nat->Option Value)->World->Prop}{Inv:World->Prop}
theorem gF.same (T:gF l m kn es deps N){i:Nat}(h:m.getD i false=false):(cF kn 0 m l).toArray[i]?=l.toArray[i]? := by simpa using nj kn 0 m l i h
theorem gF.dst (T:gF l m kn es deps N)(i:Nat):(((cF kn 0 m l).toArray[i]?).bind (·.dst))=((l.toArray[i]?).bind (·.dst)):=by
 cases h:m.getD i false with
 | false=>rw[T.same h]
 | true=>
  cases a:l[i]? with
  | none=>
   have b:(cF kn 0 m l)[i]?=none:=by
    rw[List.getElem?_eq_none_iff]at a ⊢;rw[eX];exact a
   simp[a,b]
  | some o=>simp[a,ld kn 0 m l i o h a]
theorem gF.aft (T:gF l m kn es deps N)(i:Nat):(((cF kn 0 m l).toArray[i]?).map (·.after))=((l.toArray[i]?).map (·.after)):=by
 cases h:m.getD i false with
 | false=>rw[T.same h]
 | true=>
  cases a:l[i]? with
  | none=>
   have b:(cF kn 0 m l)[i]?=none:=by
    rw[List.getElem?_eq_none_iff]at a ⊢;rw[eX];exact a
   simp[a,b]
  | some o=>simp[a,ld kn 0 m l i o h a]
theorem gF.size (T:gF l m kn es deps N):(cF kn 0 m l).toArray.size=l.length:=by simp[eX]
theorem gF.ready (T:gF l m kn es deps N)(Z:Array Bool):Region.ready .any l.toArray Z=Region.ready .any (cF kn 0 m l).toArray Z:=by
 unfold Region.ready;rw[T.size];have c:l.toArray.size=l.length:=by simp
 rw[c];refine List.filter_congr (fun j _=>?_)
 have h:=T.aft j;have b:∀(x:Option Oper),(x.map fun o=>o.after.all fun e => !Region.binds .any e || Z.getD e.on false)=(x.map (·.after)).map (fun a=>a.all fun e => !Region.binds .any e || Z.getD e.on false):=by intro x;cases x <;> rfl
 rw[b,b,h]
theorem gF.back (T:gF l m kn es deps N){i:Nat}{o':Oper}(h:(cF kn 0 m l).toArray[i]?=some o'):∃o,l[i]?=some o/\o.dst=o'.dst/\o.after=o'.after:=by
 have c:=T.dst i;have a:=T.aft i;rw[h]at c a;cases b:l[i]? with
 | none=>simp[b]at a
 | some o=>exact⟨o,rfl,by simpa[b] using c.symm,by simpa[b] using a.symm⟩
theorem gF.ahI (T:gF l m kn es deps N):Ml (cF kn 0 m l).toArray (cF kn 0 m l).toArray.size N:=
 ⟨fun i j p q t _ _ hi d a e=>by
  obtain⟨pi,b,c,_⟩:=T.back hi;obtain⟨f,h,k,_⟩:=T.back d;exact T.one i j pi f t b h (by rw[c];exact a) (by rw[k];exact e),
 fun i o t _ hi a=>by
  obtain⟨pi,b,c,_⟩:=T.back hi;exact T.lt i pi t b (by rw[c];exact a)⟩
theorem gF.done (T:gF l m kn es deps N){a:Array Bool}(k:a.size=l.length)(h0:Region.ready .any l.toArray a=[]):∀j,j<l.length->a.getD j true=true:=by
 intro j;induction j using Nat.strongRecOn with
 | _ j ih=>
  intro b;cases hl:a.getD j true with
  | true=>rfl
  | false=>
   have:j∈Region.ready .any l.toArray a:=by
    refine mem_ready.2 ⟨hl,l[j],by simp[b],fun e he d=>?_⟩
    have f:=T.low j _ e (asx b) he d;cases h:a.getD e.on false with
    | true=>rfl
    | false=>
     have i:=ih e.on f (by omega)
     have c:=getD_in (by omega:e.on<a.size) h
     rw[i]at c;cases c
   rw[h0]at this;cases this
structure iL (l:List Oper)(m:List Bool)(kn:Nat->Option Value)(ρ:Nat->Option Value)(N:Nat)(b a:Act):Prop where
 sb:b.tmps.size=N
 sa:a.tmps.size=N
 df:a.defers=b.defers
 q:∀t,(∀(e:Nat) (oe:Oper),m.getD e false=true->kn e=none->l[e]?=some oe->(ρ e).isSome=true->oe.dst≠some t)->a.tmps.getD t undef=b.tmps.getD t undef
 e:∀(e:Nat) (oe:Oper) (v:Value) (t:Tmp),m.getD e false=true->l[e]?=some oe->ρ e=some v->oe.dst=some t->a.tmps.getD t undef=v
theorem iL.quiet (T:gF l m kn es deps N){ρ:Nat->Option Value}{b a:Act}(h:iL l m kn ρ N b a){i:Nat}{d:Oper}(hi:m.getD i false=false)(f:l[i]?=some d)(v:Value):iL l m kn ρ N (b.put d.dst v) (a.put d.dst v):=by
 refine⟨by rw[fL];exact h.sb,by rw[fL];exact h.sa,by rw[put_defers,put_defers];exact h.df,fun t k=>?_,fun e o u t he p hu k=>?_⟩
 ·by_cases c:d.dst=some t
  ·have j:=T.lt i d t f c
   rw[c,dX _ _ _ (by rw[h.sa];exact j),dX _ _ _ (by rw[h.sb];exact j)]
  ·rw[dF _ _ _ _ c,dF _ _ _ _ c];exact h.q t k
 ·have c:d.dst≠some t:=fun c=>by
   have:=T.one i e d o t f p c k;subst this;rw[hi]at he;cases he
  rw[dF _ _ _ _ c];exact h.e e o u t he p hu k
theorem iL.eff (T:gF l m kn es deps N){ρ:Nat->Option Value}{b a:Act}(h:iL l m kn ρ N b a){i:Nat}{d:Oper}(hi:m.getD i false=true)(c:l[i]?=some d)(v v2:Value)(A:∀t,d.dst=some t->v=v2)(hk:∀u,kn i=some u->v2=u):iL l m kn (upd ρ i v2) N (b.put d.dst ((kn i).getD undef)) (a.put d.dst v):=by
 refine⟨by rw[fL];exact h.sb,by rw[fL];exact h.sa,by rw[put_defers,put_defers];exact h.df,fun t k=>?_,fun e o u t he p hu k=>?_⟩
 ·by_cases f:d.dst=some t
  ·have j:=T.lt i d t c f
   rw[f,dX _ _ _ (by rw[h.sa];exact j),dX _ _ _ (by rw[h.sb];exact j)]
   cases r:kn i with
   | none=>exact absurd f (k i d hi r c (by simp[upd]))
   | some u=>rw[A t f,hk u r];rfl
  ·rw[dF _ _ _ _ f,dF _ _ _ _ f]
   refine h.q t (fun e o he B p D=>k e o he B p ?_)
   unfold upd;split
   ·rfl
   ·exact D
 ·by_cases s:e=i
  ·subst s
   have x:o=d:=asy (p.symm.trans c);subst x;have j:=T.lt e o t c k;have y:v2=u:=by simpa[upd] using hu
   rw[k,dX _ _ _ (by rw[h.sa];exact j),←y]
   exact A t k
  ·have f:d.dst≠some t:=fun f=>s (T.one e i o d t p c k f)
   rw[dF _ _ _ _ f];exact h.e e o u t he p (by simpa[upd,s] using hu) k
theorem iL.last (T:gF l m kn es deps N){ρ:Nat->Option Value}{a:Act}(h:iL l m kn ρ N aS a)(i:∀e,e∈es->(ρ e).isSome=true):a=aj l ρ es aS:=by
 refine Yp (by rw[lY,h.sa,h.sb]) (fun t=>?_) (by rw[qj];exact h.df)
 by_cases s:∃(e:Nat) (b:Oper),m.getD e false=true/\l[e]?=some b/\b.dst=some t
 ·obtain⟨e,b,he,c,f⟩:=s
  have o:e<l.length:=(asu.1 c).1;have j:e∈es:=(T.es e).2 ⟨he,o⟩;obtain⟨v,u⟩:=asv.1 (i e j);rw[h.e e b v t he c u f,uh (d:=e) es aS j (by simp[aP,c,f]) (by rw[h.sb];exact T.lt e b t c f) (fun x p=>by
   unfold aP at p;cases r:l[x]? with
   | none=>simp[r]at p
   | some B=>exact T.one x e B b t r c (by simpa[r] using p) f),u]
  rfl
 ·have k:∀(e:Nat) (b:Oper),m.getD e false=true->l[e]?=some b->b.dst≠some t:=fun e b he c f=>s ⟨e,b,he,c,f⟩
  rw[h.q t (fun e b he _ c _=>k e b he c),js es aS (fun d D f=>by
   have y:=(T.es d).1 D;have A:l[d]?=some l[d]:=asx y.2;exact k d _ y.1 A (by simpa[aP,A] using f))]
theorem gF.operand (T:gF l m kn es deps N){ρ:Nat->Option Value}{c:Array Bool}{b a:Act}(hB:iL l m kn ρ N b a)
  (hk:∀t,(∀(j:Nat) (o:Oper),(cF kn 0 m l).toArray[j]?=some o->c.getD j true=false->o.dst≠some t)->aS.tmps.getD t undef=b.tmps.getD t undef) (ja:aS.tmps.size=N)
  {e:Nat} {G:Oper} (he:m.getD e false=true) (W:l[e]?=some G) (H:∀x,x∈G.after->Region.binds .any x=true->c.getD x.on false=true) (K:∀d,d∈deps e->(ρ d).isSome=true)
  {t:Tmp} (ht:t∈G.looksAt l.toArray):a.tmps.getD t undef=(aj l ρ (deps e) aS).tmps.getD t undef:=by
 have I:∀d,d∈deps e->aP l d=some t->∃p,l[d]?=some p/\p.dst=some t:=by
  intro d _ h;unfold aP at h;cases r:l[d]? with
  | none=>simp[r]at h
  | some p=>exact⟨p,rfl,by simpa[r] using h⟩
 by_cases X:∃(j:Nat) (f:Oper),l[j]?=some f/\f.dst=some t
 ·obtain⟨j,f,s,u⟩:=X
  obtain⟨⟨x,L,hb,M⟩,O⟩:=T.waits e G j f t he W s u ht;have hl:c.getD j false=true:=by rw[←M];exact H x L hb
  cases hm:m.getD j false with
  | true=>
   have Y:=O hm;obtain⟨v,Z⟩:=asv.1 (K j Y);rw[hB.e j f v t hm s Z u,uh (d:=j) (deps e) aS Y (by simp[aP,s,u]) (by rw[ja];exact T.lt j f t s u) (fun d' k=>by
    unfold aP at k;cases r:l[d']? with
    | none=>simp[r]at k
    | some p=>exact T.one d' j p f t r s (by simpa[r] using k) u),Z]
   rfl
  | false=>
   rw[hB.q t (fun S y J _ A _ h=>by
    have:=T.one S j y f t A s h u;subst this;rw[hm]at J;cases J),js (deps e) aS (fun d k h=>by
    obtain⟨p,r,B⟩:=I d k h;have:=T.one d j p f t r s B u;subst this;have:=(T.deps e G d he W k).1;rw[hm]at this;cases this)]
   exact(hk t (fun i o hi U k=>by
    obtain⟨V,D,E,_⟩:=T.back hi;have:=T.one i j V f t D s (by rw[E];exact k) u
    subst this;rw[getD_both U]at hl;cases hl)).symm
 ·have F:∀(j:Nat) (f:Oper),l[j]?=some f->f.dst≠some t:=fun j f s u=>X ⟨j,f,s,u⟩
  rw[hB.q t (fun S y _ _ A _=>F S y A),js (deps e) aS (fun d k h=>by
   obtain⟨p,r,B⟩:=I d k h;exact F d p r B)]
  exact(hk t (fun i o hi _ k=>by
   obtain⟨V,D,E,_⟩:=T.back hi;exact F i V D (by rw[E];exact k))).symm
theorem Mo (T:gF l m kn es deps N)(ja:aS.tmps.size=N)(hI:∀ ρ w,R ρ w->Inv w)(hR:∀ ρ w w',R ρ w->Below w.heap.size w w' -> R ρ w')(hE:lZ P l es deps aS R kn es)
  (hQ:∀ ρ w,R ρ w->(∀e,e∈es->(ρ e).isSome=true)->Q .normal (aj l ρ es aS) w) :
  ∀(f:Nat) (p:Array Bool) (b a:Act) (w':World) (ρ:Nat->Option Value),HQ P (cF kn 0 m l).toArray aS Inv f p b->p.size=l.length->(∀e,e∈es->(ρ e).isSome=p.getD e true) ->
   iL l m kn ρ N b a->rj es deps ρ->(∀(j:Nat) (V:Oper),l[j]?=some V->p.getD j false=true->∀x,x∈V.after->Region.binds .any x=true->p.getD x.on false=true)->R ρ w' -> wpAny P .any l.toArray Q f p a w' := by
 have fin:∀(p:Array Bool) (b a:Act) (w':World) (ρ:Nat->Option Value),p.size=l.length->(∀e,e∈es->(ρ e).isSome=p.getD e true)->iL l m kn ρ N b a->R ρ w' -> Region.ready .any l.toArray p=[]->b=aS->Q .normal a w' := by
  intro p b a w' ρ O B hB hw h0 e;subst e;have W:=T.done O h0;have D:∀e,e∈es->(ρ e).isSome=true:=fun e he=>by rw[B e he];exact W e ((T.es e).1 he).2
  rw[hB.last T D];exact hQ ρ w' hw D
 intro f;induction f with
 | zero=>
  intro p b a w' ρ H O B hB J X hw;have h:=H w' (hI _ _ hw);have h0:Region.ready .any l.toArray p=[]:=by rw[T.ready];exact h.1
  exact⟨h0,fin p b a w' ρ O B hB hw h0 h.2⟩
 | succ f ih=>
  intro p b a w' ρ H O B hB J X hw;refine⟨fun h0=>fin p b a w' ρ O B hB hw h0 ((H w' (hI _ _ hw)).1 (by rw[←T.ready];exact h0)),fun i hi=>?_⟩
  rw[T.ready]at hi;have S:=HQ.step T.ahI hB.sb H hi w' (hI _ _ hw);obtain⟨hun,o',ho',D⟩:=mem_ready.1 hi;obtain⟨s,u,ant,Y⟩:=T.back ho';have hil:i<l.length:=(asu.1 u).1;have hl:l.toArray[i]?=some s:=by simpa using u
  have Z:∀(j:Nat) (V:Oper),l[j]?=some V->(p.setIfInBounds i true).getD j false=true->∀x,x∈V.after->Region.binds .any x=true->(p.setIfInBounds i true).getD x.on false=true:=by
   intro j V gV hj x E hb;have grow:∀k,p.getD k false=true->(p.setIfInBounds i true).getD k false=true:=by
    intro k hk;by_cases hki:k=i
    ·subst hki
     have:k<p.size:=by
      rcases Nat.lt_or_ge k p.size with h|h
      ·exact h
      ·simp[h]at hk
     simp[this]
    ·rw[getD_set_ne false (Ne.symm hki)];exact hk
   by_cases L:j=i
   ·subst L
    have e:=asy (gV.symm.trans u);subst e;exact grow _ (D x (by rw[←Y];exact E) hb)
   ·rw[getD_set_ne false (Ne.symm L)]at hj
    exact grow _ (X j V gV hj x E hb)
  cases hm:m.getD i false with
  | false=>
   have ho2:(cF kn 0 m l).toArray[i]?=some s:=by rw[T.same hm];exact hl
   have rT:∀t,t∈s.looksAt l.toArray->a.tmps.getD t undef=b.tmps.getD t undef:=fun t U=>hB.q t (fun e oe he Mn rS hsome hd=>by
    obtain⟨x,hxa,hxb,hxo⟩:=T.quiet i s e oe t hm u he Mn rS hd U;have hle:=B e ((T.es e).2 ⟨he,(asu.1 rS).1⟩);rw[hsome]at hle;have Bd:p.getD e false=true:=by
     cases h2:p.getD e false with
     | true=>rfl
     | false=>rw[getD_in (by rw[O];exact(asu.1 rS).1) h2]at hle;cases hle
    have hli:=xh (X e oe rS Bd x hxa hxb);rw[hxo,hun]at hli;cases hli)
   have hwq:=xj (ops:=l.toArray) (ops' := (cF kn 0 m l).toArray) (o:=s) (a:=a) (b:=b) T.dst (by rw[hB.sa,hB.sb]) rT
   have hes:∀e,e∈es->(ρ e).isSome=(p.setIfInBounds i true).getD e true:=fun e he=>by
    have Yq:i≠e:=fun h=>by
     subst h;have:=((T.es i).1 he).1;rw[hm]at this;cases this
    rw[getD_set_ne true Yq];exact B e he
   unfold qOp at S;simp only[ho2]at S;unfold wpOp;simp only[hl];rw[hwq]at S;by_cases F:Region.wanted s (yielded l.toArray a.tmps)=true
   ·rw[if_pos F]at S ⊢
    obtain⟨v,hv,hH,hsz⟩:=S;have heq:execOp a.eval s=execOp b.eval s:=by
     refine execOp_congr s (T.sel i s u) (fun x E=>?_)
     cases x with
     | tmp t=>exact rT t (List.mem_append_left _ (List.mem_filterMap.2 ⟨.tmp t,by simpa using E,rfl⟩))
     | _=>rfl
    refine .inl (Oper.wp_of_quiet (C:=fun I=>∃x:Ext,I=over w' x) (K:=fun a' => a'=a.put s.dst v) (jg w') (fun a2 I F e=>?_) ⟨v,fun I F=>?_,rfl⟩)
    ·subst e
     exact ih _ _ _ _ _ hH (by simpa using O) hes (hB.quiet T hm u v) J Z (hR _ _ _ hw (Pure.below F))
    ·have:=hv I F
     unfold Oper.quietAt at this ⊢;rw[heq];exact this
   ·rw[if_neg F]at S ⊢
    exact ih _ _ _ _ _ S.1 (by simpa using O) hes (hB.quiet T hm u undef) J Z hw
  | true=>
   have he:i∈es:=(T.es i).2 ⟨hm,hil⟩;have hnone:ρ i=none:=by
    have:=B i he;rw[hun]at this;simpa using this
   have Sq:∀d,d∈deps i->(ρ d).isSome=true:=by
    intro d hd;obtain⟨hmd,x,E,hb,hon⟩:=T.deps i s d hm u hd;have eb:=T.low i s x u E hb;have hld:p.getD d false=true:=by rw[←hon];exact D x (by rw[←Y];exact E) hb
    rw[B d ((T.es d).2 ⟨hmd,by omega⟩)]
    exact xh hld
   have G:=hE.at i he s u ρ w' hw J hnone Sq _ rfl;have ho2:(cF kn 0 m l).toArray[i]?=some { s with op:= .move (.const ((kn i).getD undef)),guard:=none }:=by simpa using ld kn 0 m l i s hm u
   have abE:∀y,Region.wanted { s with op:= .move (.const ((kn i).getD undef)),guard:=none } y=true:=fun y=>by simp[Region.wanted]
   unfold qOp at S;simp only[ho2,abE,if_true]at S;obtain⟨v0,hv0,hH,hsz⟩:=S;have hu:(kn i).getD undef=v0:=by
    have:=hv0 w' (jg w');unfold Oper.quietAt at this;rw[BigFrame.run_move (.const ((kn i).getD undef)) rfl]at this;exact this.2
   subst hu;have aep:∀x,x∈s.after->Region.binds .any x=true->p.getD x.on false=true:=fun x E hb=>D x (by rw[←Y];exact E) hb
   have rT:∀t,t∈s.looksAt l.toArray->a.tmps.getD t undef=(aj l ρ (deps i) aS).tmps.getD t undef:=fun t U=>T.operand hB (fun t U=>q8 _ _ _ (H w' (hI _ _ hw)) U) ja hm u aep Sq U
   have heq:execOp a.eval s=execOp (aj l ρ (deps i) aS).eval s:=by
    refine execOp_congr s (T.sel i s u) (fun x E=>?_)
    cases x with
    | tmp t=>exact rT t (List.mem_append_left _ (List.mem_filterMap.2 ⟨.tmp t,by simpa using E,rfl⟩))
    | _=>rfl
   have hwq:=xj (ops:=l.toArray) (ops' := l.toArray) (o:=s) (a:=a) (b:=aj l ρ (deps i) aS) (fun _=>rfl) (by rw[hB.sa,lY,ja]) rT
   have go:∀v I,Sp ρ (aj l ρ (deps i) aS) R kn i s .normal ((aj l ρ (deps i) aS).put s.dst v) I->wpAny P .any l.toArray Q f (p.setIfInBounds i true) (a.put s.dst v) I:=by
    rintro v I ⟨_,v2,M,hkv,hR2⟩;have hvv:∀t,s.dst=some t->v=v2:=fun t U=>by
     have hlt:t<(aj l ρ (deps i) aS).tmps.size:=by rw[lY,ja];exact T.lt i s t u U
     have h:=congrArg (fun A=>A.tmps.getD t undef) M
     simp only[U]at h;rwa [dX _ _ _ hlt,dX _ _ _ hlt]at h
    have hmono:∀k,(ρ k).isSome=true->(upd ρ i v2 k).isSome=true:=fun k hk=>by
     unfold upd;split
     ·rfl
     ·exact hk
    refine ih _ _ _ _ _ hH (by simpa using O) (fun e he' =>?_) (hB.eff T hm u v v2 hvv hkv) (fun j hj hjs d hd=>hmono d ?_) Z hR2
    rotate_left
    ·by_cases L:j=i
     ·subst L;exact Sq d hd
     ·exact J j hj (by simpa[upd,L] using hjs) d hd
    by_cases Yq:e=i
    ·subst Yq
     simp[upd,O,hil]
    ·rw[getD_set_ne true (Ne.symm Yq)]
     simpa[upd,Yq] using B e he'
   unfold wpList at G;rw[hwq]at G;unfold wpOp;simp only[hl];by_cases F:Region.wanted s (yielded l.toArray a.tmps)=true
   ·rw[if_pos F]at G ⊢
    rcases G with G|⟨_,⟨a2,I,E,_⟩⟩
    ·refine .inl ?_
     unfold Oper.wp at G ⊢;rw[heq];generalize (execOp (aj l ρ (deps i) aS).eval s).run P w'=r at G ⊢;cases r with
     | ok n I=>
      cases n with
      | value v=>exact go v I G
      | skip=>exact go undef I G
      | defer d=>
       obtain⟨_,v2,M,_⟩:=G;have:=congrArg Act.defers M;simp[put_defers]at this
      | enter fn args=>
       simp only[Oper.upon]at G ⊢;refine G.mono fun e w3 h=>?_
       cases e with
       | returned v=>exact go v w3 h
       | panicked c=>obtain⟨E,_⟩:=h;cases E
       | outgrown=>obtain⟨a3,w4,E,_⟩:=h;cases E
      | row row args=>exact G.mono fun v w3 h=>go v w3 h
      | _=>exact G.elim
     | halt x I=>
      cases x with
      | panic v=>obtain⟨E,_⟩:=G;cases E
      | _=>exact G.elim
    ·cases E
   ·rw[if_neg F]at G ⊢
    exact go undef w' G
end
def yu (l:List Oper)(m:List Bool)(kn:Nat->Option Value)(es:List Nat)(deps:Nat->List Nat)(N:Nat):Bool:=
 (es == (List.range l.length).filter fun e=>m.getD e false)
 && decide (l.filterMap (·.dst)).Nodup && (l.filterMap (·.dst)).all (fun t=>decide (t<N)) && Region.noSelect l.toArray
 && (List.range l.length).all (fun i=>(l[i]?).all fun o=>o.after.all fun e => !Region.binds .any e || decide (e.on<i))
 && (List.range l.length).all (fun i=>(l[i]?).all fun oi=>(List.range l.length).all fun j=>(l[j]?).all fun oj=>oj.dst.all fun t => !(oi.looksAt l.toArray).contains t ||
   (if m.getD i false then(oi.after.any fun e=>Region.binds .any e && e.on == j) && (!m.getD j false || (deps i).contains j)else !m.getD j false || (kn j).isSome || oj.after.any fun e=>Region.binds .any e && e.on == i))
 && (List.range l.length).all (fun i=>(l[i]?).all fun oi => !m.getD i false || (deps i).all fun d=>m.getD d false && oi.after.any fun e=>Region.binds .any e && e.on == d)
 && Region.lexB .any (cF kn 0 m l).toArray
theorem Sr {l:List Oper}{m:List Bool}{kn:Nat->Option Value}{es:List Nat}{deps:Nat->List Nat}{N:Nat}(hB:yu l m kn es deps N=true):gF l m kn es deps N/\Region.lexB .any (cF kn 0 m l).toArray=true:=by
 simp only[yu,Bool.and_eq_true,decide_eq_true_eq,beq_iff_eq]at hB;obtain⟨⟨⟨⟨⟨⟨⟨E,F⟩,G⟩,H⟩,I⟩,J⟩,K⟩,L⟩:=hB;have r:∀(i:Nat) (o:Oper),l[i]?=some o->i<l.length:=fun i o h=>(asu.1 h).1
 have v : ∀(i:Nat) (c:Oper) (j:Nat) (f:Oper) (t:Tmp),l[i]?=some c->l[j]?=some f->f.dst=some t->t∈c.looksAt l.toArray ->
   (if m.getD i false then(c.after.any fun e=>Region.binds .any e && e.on == j) && (!m.getD j false || (deps i).contains j)else !m.getD j false || (kn j).isSome || f.after.any fun e=>Region.binds .any e && e.on == i)=true:=by
  intro i c j f t a s p x;have h:=List.all_eq_true.1 J i (List.mem_range.2 (r i c a));rw[a]at h;simp only[Option.all_some]at h;have h:=List.all_eq_true.1 h j (List.mem_range.2 (r j f s));rw[s]at h;simp only[Option.all_some,p,Bool.or_eq_true,Bool.not_eq_true']at h;rcases h with h|h
  ·rw[List.contains_iff_mem.2 x]at h;cases h
  ·exact h
 refine⟨⟨fun e=>?_,fun i j c f t a s p M=>ug F i j c f t a s p M,fun i o t u p=>?_,fun i o u cs b=>Region.noSelect_spec H i o cs b (by simpa using u),fun i o e u he A=>?_,
  fun i c j f t hm a B D s p x=>?_,fun i c j f t hm a s p x=>?_,fun i c d hm a p=>?_⟩,L⟩
 ·rw[E];simp[List.mem_filter,and_comm]
 ·have:=List.all_eq_true.1 G t (List.mem_filterMap.2 ⟨o,asw u,p⟩)
  simpa using this
 ·have h:=List.all_eq_true.1 I i (List.mem_range.2 (r i o u))
  rw[u]at h;simp only[Option.all_some]at h;have:=Array.all_eq_true_iff_forall_mem.1 h e he;rw[A]at this;simpa using this
 ·have h:=v i c j f t a s p x
  rw[hm,B,D]at h;simp only[Bool.false_eq_true,if_false,Bool.not_true,Bool.false_or,Option.isSome_none]at h;obtain⟨k,hk,q⟩:=Array.any_eq_true.1 h;simp only[Bool.and_eq_true,beq_iff_eq]at q;exact⟨_,Array.getElem_mem hk,q.1,q.2⟩
 ·have h:=v i c j f t a s p x
  rw[hm]at h;simp only[if_true,Bool.and_eq_true,Bool.or_eq_true,Bool.not_eq_true']at h;refine⟨?_,fun O=>?_⟩
  ·obtain⟨k,hk,q⟩:=Array.any_eq_true.1 h.1
   simp only[Bool.and_eq_true,beq_iff_eq]at q;exact⟨_,Array.getElem_mem hk,q.1,q.2⟩
  ·rcases h.2 with y|y
   ·rw[O]at y;cases y
   ·exact List.contains_iff_mem.1 y
 ·have h:=List.all_eq_true.1 K i (List.mem_range.2 (r i c a))
  rw[a]at h;simp only[Option.all_some,hm,Bool.not_true,Bool.false_or]at h;have h:=List.all_eq_true.1 h d p;simp only[Bool.and_eq_true]at h;refine⟨h.1,?_⟩;obtain⟨k,hk,q⟩:=Array.any_eq_true.1 h.2;simp only[Bool.and_eq_true,beq_iff_eq]at q;exact⟨_,Array.getElem_mem hk,q.1,q.2⟩
theorem cX {P:Program}{id:Nat}{Q:Exit->Act->World->Prop}{a:Act}{w:World}{l:List Oper}(m:List Bool)(kn:Nat->Option Value)(es:List Nat)(deps:Nat->List Nat)(R:(Nat->Option Value)->World->Prop)(Inv:World->Prop)(aS:Act)
  (hm:P.follows .mixedOrders=true) (hB:yu l m kn es deps a.tmps.size=true)
  (H:∀W,Inv W->wpQuiet P (cF kn 0 m l).toArray (fun w' => ∃x:Ext,w'=over W x) (fun c => c=aS) (cF kn 0 m l) a)
  (ja:aS.tmps.size=a.tmps.size) (h0:R (fun _=>none) w) (hI:∀ ρ w,R ρ w->Inv w) (hR:∀ ρ w w',R ρ w->Below w.heap.size w w' -> R ρ w')
  (hE:lZ P l es deps aS R kn es)
  (hQ:∀ ρ w,R ρ w->(∀e,e∈es->(ρ e).isSome=true)->Q .normal (aj l ρ es aS) w):(Code.region id l.toArray true).wp P Q a w:=by
 obtain⟨T,b⟩:=Sr hB;simp only[Region.lexB,Bool.and_eq_true]at b;have d:HQ P (cF kn 0 m l).toArray aS Inv (cF kn 0 m l).length (Array.replicate (cF kn 0 m l).toArray.size false) a:=by
  intro W f;exact wpAnyQ_lex (C:=fun w' => ∃x:Ext,w'=over W x) (md:= .any) b.1 (cF kn 0 m l) 0 _ a (by simp) (by simpa using b.2) (H W f)
 refine wp_region_any hm ?_
 have key:=Mo (Q:=Q) T ja hI hR hE hQ _ _ _ a { w with drawn:=w.drawn+1 } (fun _=>none) d (by simp[eX]) (fun e he=>by
  have:=((T.es e).1 he).2;simp[eX,this]) ⟨rfl,rfl,rfl,fun _ _=>rfl,fun e i v t _ _ h _=>by cases h⟩ (fun j _ h=>by cases h) (fun j k _ h=>by
   rw[ui]at h;cases h) (hR _ _ _ h0 (Pure.below ⟨_,jV w⟩))
 rw[eX,T.size]at key;simpa using key
def cG:List Bool->List Oper->List Oper
 | true::m,o::l=>{ o with op:= .move (.const undef),guard:=none }::cG m l
 | false::m,o::l=>o::cG m l
 | [],l=>l
 | _::_,[]=>[]
theorem yw:∀(k:Nat)(m:List Bool)(l:List Oper),cF (fun _=>none) k m l=cG m l
 | k,true::m,o::l=>congrArg _ (yw (k+1) m l)
 | k,false::m,o::l=>congrArg _ (yw (k+1) m l)
 | _,[],l=>by unfold cF cG;rfl
 | _,b::_,[]=>by cases b <;> rfl
def uj (P:Program)(l:List Oper)(all:List Nat)(deps:Nat->List Nat)(aS:Act)(R:(Nat->Option Value)->World->Prop):List Nat->Prop
 | []=>True
 | e::es=>(∀o,l[e]?=some o->∀ ρ w,R ρ w->rj all deps ρ->ρ e=none->(∀d,d∈deps e->(ρ d).isSome=true)->∀af,af=aj l ρ (deps e) aS->wpList P l.toArray (Bc ρ af R e o) [o] af w)/\uj P l all deps aS R es
theorem uj.toK {P:Program}{l:List Oper}{all:List Nat}{deps:Nat->List Nat}{aS:Act}{R:(Nat->Option Value)->World->Prop}:∀ {es:List Nat},uj P l all deps aS R es->lZ P l all deps aS R (fun _=>none) es
 | [],_=>trivial
 | _::_,H=>⟨fun o b ρ w c d f h af i=>by
   have e:∀e,Sp ρ af R (fun _=>none) e o=Bc ρ af R e o:=fun e=>by
    funext x a w
    simp[Sp,Bc]
   rw[e];exact H.1 o b ρ w c d f h af i,uj.toK H.2⟩
def Ss (l:List Oper)(m:List Bool)(es:List Nat)(deps:Nat->List Nat)(N:Nat):Bool:=yu l m (fun _=>none) es deps N
theorem aX {P:Program}{id:Nat}{Q:Exit->Act->World->Prop}{a:Act}{w:World}{l:List Oper}(m:List Bool)(es:List Nat)(deps:Nat->List Nat)(R:(Nat->Option Value)->World->Prop)(Inv:World->Prop)(aS:Act)
  (hm:P.follows .mixedOrders=true) (hB:Ss l m es deps a.tmps.size=true)
  (H:∀W,Inv W->wpQuiet P (cG m l).toArray (fun w' => ∃x:Ext,w'=over W x) (fun b => b=aS) (cG m l) a)
  (ja:aS.tmps.size=a.tmps.size) (h0:R (fun _=>none) w) (hI:∀ ρ w,R ρ w->Inv w) (hR:∀ ρ w w',R ρ w->Below w.heap.size w w' -> R ρ w')
  (hE:uj P l es deps aS R es)
  (hQ:∀ ρ w,R ρ w->(∀e,e∈es->(ρ e).isSome=true)->Q .normal (aj l ρ es aS) w):(Code.region id l.toArray true).wp P Q a w:=
 cX m (fun _=>none) es deps R Inv aS hm hB (by rw[yw];exact H) ja h0 hI hR hE.toK hQ
end Go.Proofs.YtlpdhhhgckpcfaaGreat
