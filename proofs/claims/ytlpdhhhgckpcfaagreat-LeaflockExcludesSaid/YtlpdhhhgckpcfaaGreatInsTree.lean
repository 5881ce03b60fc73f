
/- A tree in which a slot has been inserted into a node, with or without a split (pure). -/
import Derived.Test.YtlpdhhhgckpcfaaGreatTreePut
import Derived.Test.YtlpdhhhgckpcfaaGreatInsOut
import Derived.Test.YtlpdhhhgckpcfaaGreatLockLaw
import Derived.Test.YtlpdhhhgckpcfaaGreatLaw11b
namespace Go.Proofs.YtlpdhhhgckpcfaaGreat
open Go.RowKit
set_option maxRecDepth 100000
theorem pg_of_at {d : Cfg} {id : Int} {L : List Cel} {p q : Pg} (h1 : PageAt d id L p) (h2 : PageAt d id L q) : p = q := by
  rw [← pgOf_at h1, ← pgOf_at h2]
section
variable {d : Cfg} {L : List Cel} {t : List (List Nd)}
/-- The numbers of a tree's nodes are different. -/
theorem TreeOk.inj (ht : TreeOk d L t) (k k' : Nat) (l l' : List Nd) (i i' : Nat) (a b : Nd) (hk : t[k]? = some l) (hk' : t[k']? = some l') (ha : l[i]? = some a) (hb : l'[i']? = some b) (he : a.id = b.id) : k = k' ∧ i = i' := by
  have h1 := ht.nodes k l hk a (List.mem_of_getElem? ha)
  have h2 := ht.nodes k' l' hk' b (List.mem_of_getElem? hb)
  have e : a.pg = b.pg := pg_of_at h1.page (by rw [he]; exact h2.page)
  have l1 := (ht.rows k l hk).lev a (List.mem_of_getElem? ha)
  have l2 := (ht.rows k' l' hk').lev b (List.mem_of_getElem? hb)
  rw [e] at l1
  have ek : k = k' := by omega
  subst ek
  rw [hk] at hk'
  obtain rfl := Option.some.inj hk'
  refine ⟨rfl, ?_⟩
  have hR := ht.rows k l hk
  have key : ∀ (p q : Nat) (x y : Nd), l[p]? = some x → l[q]? = some y → x.pg = y.pg → p < q → False := by
    intro p q x y hx hy hxy hpq
    have hq := (List.getElem?_eq_some_iff.1 hy).1
    obtain ⟨z, hz⟩ : ∃ z, l[p + 1]? = some z := ⟨_, List.getElem?_eq_getElem (by omega)⟩
    obtain ⟨n1, n2, n3, n4⟩ := hR.next p x z hx hz
    rcases Nat.lt_or_ge (q + 1) l.length with hlt | hge
    · obtain ⟨u, hu⟩ : ∃ u, l[q + 1]? = some u := ⟨_, List.getElem?_eq_getElem hlt⟩
      obtain ⟨_, m2, _, _⟩ := hR.next q y u hy hu
      have := hR.low_lt (q + 1) (p + 1) z u hz hu (by omega)
      rw [← n2, ← m2, hxy, klt_irrefl] at this
      cases this
    · have := (hR.last q y hy (by omega)).1
      rw [← hxy, n1] at this
      cases this
  rcases Nat.lt_trichotomy i i' with h | h | h
  · exact (key i i' a b ha hb e h).elim
  · exact h
  · exact (key i' i b a hb ha e.symm h).elim
theorem TreeOk.shp (ht : TreeOk d L t) : Shp (getC L 4).n t :=
  ⟨ht.ne, ht.rows, fun k l hk nd hn => by
    have h := ht.nodes k l hk nd hn
    exact ⟨⟨h.id.1, ht.used k l hk nd hn⟩, h.asc, h.rf, h.bd⟩, ht.down, ht.inj, ht.count⟩
/-- The node's cells. -/
structure NdMem (d : Cfg) (L : List Cel) (nd : Nd) : Prop where
  page : PageAt d nd.id L nd.pg
  hold : Holds L (pgPts d nd.id nd.pg)
  free : LatFree (getC L (d.node nd.id 0))
theorem TreeOk.of (hs : Shp (getC L 4).n t) (hn4 : (getC L 4).n ≤ d.no) (htop : ∃ nd rest, t[t.length - 1]? = some (nd :: rest) ∧ (getC L 0).n = nd.id) (hm : ∀ (k : Nat) (l : List Nd), t[k]? = some l → ∀ nd, nd ∈ l → NdMem d L nd) : TreeOk d L t := by
  refine ⟨hs.ne, hs.rows, fun k l hk nd hn => ?_, htop, hs.down, hs.count, hn4, fun k l hk nd hn => (hs.nodes k l hk nd hn).1.2⟩
  obtain ⟨q1, q2⟩ := hs.nodes k l hk nd hn
  have q3 := hm k l hk nd hn
  exact ⟨⟨q1.1, by omega⟩, q3.page, q3.hold, q3.free, q2.asc, q2.rf, q2.bd⟩
theorem NdMem.frame (hd : d.Ok) {L' : List Cel} {nd : Nd} (h1 : 1 ≤ nd.id) (h2 : nd.id ≤ d.no) (h : NdMem d L nd) (he : ∀ k : Int, 0 ≤ k → k < d.fa + 4 → getC L' (d.node nd.id k) = getC L (d.node nd.id k)) : NdMem d L' nd :=
  ⟨h.page.frame h1 h2 hd.fa1 (fun k a b => he k (by omega) b), h.hold.frame hd h1 h2 h.page.le (fun k a b => he k (by omega) b), by rw [he 0 (by omega) (by have := hd.fa1; omega)]; exact h.free⟩
theorem TreeOk.mem (ht : TreeOk d L t) {k : Nat} {l : List Nd} (hk : t[k]? = some l) {nd : Nd} (hn : nd ∈ l) : NdMem d L nd := by
  have h := ht.nodes k l hk nd hn
  exact ⟨h.page, h.hold, h.free⟩
end
/-! ### The page with the new slot, and its halves -/
/-! ### The tree behind it -/
section
variable {nd : Nd} {key : ByteArray} {r : Int} {fu : Pg} {n : Int}
end
section
variable {d : Cfg} {L L3 : List Cel} {t : List (List Nd)} {k i : Nat} {l : List Nd} {nd : Nd} {key : ByteArray} {r : Int} {sp : Bool} {p : Pg}
end
end Go.Proofs.YtlpdhhhgckpcfaaGreat
