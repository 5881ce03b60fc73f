
/- The shape of a tree (pure), and what a replaced page, a split node, a new root do to it. -/
import Derived.Test.YtlpdhhhgckpcfaaGreatTreeB
namespace Go.Proofs.YtlpdhhhgckpcfaaGreat
set_option maxRecDepth 100000
/-- A node by itself. -/
structure NdS (nd : Nd) : Prop where
  asc : Asc nd.pg.sl
  rf : ∀ s, s ∈ nd.pg.sl → 1 ≤ s.r
  bd : ∀ s, s ∈ nd.pg.sl → klt s.k nd.low = false ∧ (nd.pg.la = false → klt s.k nd.pg.hi = true)
/-- The slots of an inner node refer to nodes of the row below. -/
def DownOk (l0 : List Nd) (nd : Nd) : Prop := (∃ s r, nd.pg.sl = s :: r ∧ s.k = nd.low) ∧ ∀ s, s ∈ nd.pg.sl → ∃ c, c ∈ l0 ∧ c.id = s.r ∧ c.low = s.k
/-- The shape of a tree whose nodes have numbers up to N. -/
structure Shp (N : Int) (t : List (List Nd)) : Prop where
  ne : 0 < t.length
  rows : ∀ (k : Nat) (l : List Nd), t[k]? = some l → RowOk k l
  nodes : ∀ (k : Nat) (l : List Nd), t[k]? = some l → ∀ nd, nd ∈ l → (1 ≤ nd.id ∧ nd.id ≤ N) ∧ NdS nd
  down : ∀ (k : Nat) (l l' : List Nd), t[k]? = some l → t[k + 1]? = some l' → ∀ nd, nd ∈ l' → DownOk l nd
  inj : ∀ (k k' : Nat) (l l' : List Nd) (i i' : Nat) (a b : Nd), t[k]? = some l → t[k']? = some l' → l[i]? = some a → l'[i']? = some b → a.id = b.id → k = k' ∧ i = i'
  count : ((t.map List.length).sum : Int) ≤ N
theorem sum_set {t : List (List Nd)} : ∀ {k : Nat} {l l' : List Nd}, t[k]? = some l → ((t.set k l').map List.length).sum + l.length = (t.map List.length).sum + l'.length := by
  induction t with
  | nil => intro k l l' h; simp at h
  | cons x t ih =>
    intro k l l' h
    cases k with
    | zero =>
      obtain rfl : x = l := by simpa using h
      simp; omega
    | succ k =>
      have := ih (l' := l') (show t[k]? = some l by simpa using h)
      simp at this ⊢; omega
theorem set_row {t : List (List Nd)} {k j : Nat} {l' x : List Nd} (h : (t.set k l')[j]? = some x) : (j = k ∧ x = l') ∨ (j ≠ k ∧ t[j]? = some x) := by
  rw [List.getElem?_set] at h
  split at h
  · rename_i e
    split at h
    · exact .inl ⟨e.symm, (Option.some.inj h).symm⟩
    · cases h
  · rename_i e
    exact .inr ⟨fun q => e q.symm, h⟩
/-- A row is replaced. -/
theorem Shp.row {N N' : Int} {t : List (List Nd)} {k : Nat} {l l' : List Nd} (h : Shp N t) (hl : t[k]? = some l) (hN : N ≤ N') (hr : RowOk k l') (hn : ∀ nd, nd ∈ l' → (1 ≤ nd.id ∧ nd.id ≤ N') ∧ NdS nd)
    (hkeep : ∀ c, c ∈ l → ∃ c', c' ∈ l' ∧ c'.id = c.id ∧ c'.low = c.low) (hids : ∀ (i j : Nat) (a b : Nd), l'[i]? = some a → l'[j]? = some b → a.id = b.id → i = j)
    (hnew : ∀ a, a ∈ l' → (∃ c, c ∈ l ∧ c.id = a.id) ∨ N < a.id) (hdn : ∀ (m : Nat) (l0 : List Nd), k = m + 1 → t[m]? = some l0 → ∀ nd, nd ∈ l' → DownOk l0 nd) (hc : (l'.length : Int) - l.length ≤ N' - N) : Shp N' (t.set k l') := by
  have hfar : ∀ (k' : Nat) (l1 : List Nd) (i i' : Nat) (a b : Nd), k' ≠ k → t[k']? = some l1 → l1[i]? = some a → l'[i']? = some b → a.id ≠ b.id := by
    intro k' l1 i i' a b hne h1 ha hb e
    rcases hnew b (List.mem_of_getElem? hb) with ⟨c, hc, e2⟩ | hlt
    · obtain ⟨j, hj⟩ := List.getElem?_of_mem hc
      exact hne (h.inj k' k l1 l i j a c h1 hl ha hj (e.trans e2.symm)).1
    · have := (h.nodes k' l1 h1 a (List.mem_of_getElem? ha)).1.2
      omega
  refine ⟨by rw [List.length_set]; exact h.ne, fun j x hx => ?_, fun j x hx nd hnd => ?_, fun j x y hx hy nd hnd => ?_, fun k1 k2 l1 l2 i i' a b h1 h2 ha hb e => ?_, ?_⟩
  · rcases set_row hx with ⟨rfl, rfl⟩ | ⟨_, hx⟩
    · exact hr
    · exact h.rows j x hx
  · rcases set_row hx with ⟨rfl, rfl⟩ | ⟨_, hx⟩
    · exact hn nd hnd
    · obtain ⟨⟨q1, q2⟩, q3⟩ := h.nodes j x hx nd hnd
      exact ⟨⟨q1, by omega⟩, q3⟩
  · rcases set_row hx with ⟨e1, rfl⟩ | ⟨e1, hx2⟩
    · rcases set_row hy with ⟨e2, _⟩ | ⟨_, hy2⟩
      · omega
      · subst e1
        obtain ⟨q1, q2⟩ := h.down j l y hl hy2 nd hnd
        refine ⟨q1, fun s hs => ?_⟩
        obtain ⟨c, hc, e3, e4⟩ := q2 s hs
        obtain ⟨c', hc', e5, e6⟩ := hkeep c hc
        exact ⟨c', hc', e5.trans e3, e6.trans e4⟩
    · rcases set_row hy with ⟨e2, rfl⟩ | ⟨_, hy2⟩
      · exact hdn j x e2.symm hx2 nd hnd
      · exact h.down j x y hx2 hy2 nd hnd
  · rcases set_row h1 with ⟨rfl, rfl⟩ | ⟨n1, h1'⟩
    · rcases set_row h2 with ⟨rfl, rfl⟩ | ⟨n2, h2'⟩
      · exact ⟨rfl, hids i i' a b ha hb e⟩
      · exact absurd e.symm (hfar k2 l2 i' i b a n2 h2' hb ha)
    · rcases set_row h2 with ⟨rfl, rfl⟩ | ⟨n2, h2'⟩
      · exact absurd e (hfar k1 l1 i i' a b n1 h1' ha hb)
      · exact h.inj k1 k2 l1 l2 i i' a b h1' h2' ha hb e
  · have := sum_set (l' := l') hl
    have := h.count
    omega
/-- A page is replaced: the range stays. -/
theorem RowOk.put {lev : Nat} {l : List Nd} {i : Nat} {nd : Nd} (h : RowOk lev l) (hi : l[i]? = some nd) {pg : Pg} (e1 : pg.lev = nd.pg.lev) (e2 : pg.hi = nd.pg.hi) (e3 : pg.la = nd.pg.la) (e4 : pg.ri = nd.pg.ri) : RowOk lev (l.set i { nd with pg := pg }) := by
  have hat : ∀ (j : Nat) (x : Nd), (l.set i { nd with pg := pg })[j]? = some x → ∃ y, l[j]? = some y ∧ y.id = x.id ∧ y.low = x.low ∧ y.pg.lev = x.pg.lev ∧ y.pg.hi = x.pg.hi ∧ y.pg.la = x.pg.la ∧ y.pg.ri = x.pg.ri := by
    intro j x hx
    rw [List.getElem?_set] at hx
    split at hx
    · rename_i e
      subst e
      split at hx
      · obtain rfl := Option.some.inj hx
        exact ⟨nd, hi, rfl, rfl, e1.symm, e2.symm, e3.symm, e4.symm⟩
      · cases hx
    · exact ⟨x, hx, rfl, rfl, rfl, rfl, rfl, rfl⟩
  refine ⟨by rw [List.length_set]; exact h.ne, fun x hx => ?_, fun x hx => ?_, fun j a b ha hb => ?_, fun j a ha hj => ?_⟩
  · obtain ⟨j, hj⟩ := List.getElem?_of_mem hx
    obtain ⟨y, hy, _, _, q, _⟩ := hat j x hj
    rw [← q]; exact h.lev y (List.mem_of_getElem? hy)
  · obtain ⟨y, hy, _, q, _⟩ := hat 0 x hx
    rw [← q]; exact h.first y hy
  · obtain ⟨y, hy, y1, y2, y3, y4, y5, y6⟩ := hat j a ha
    obtain ⟨z, hz, z1, z2, z3, z4, z5, z6⟩ := hat (j + 1) b hb
    obtain ⟨q1, q2, q3, q4⟩ := h.next j y z hy hz
    exact ⟨by rw [← y5]; exact q1, by rw [← y4, ← z2]; exact q2, by rw [← y6, ← z1]; exact q3, by rw [← y2, ← z2]; exact q4⟩
  · obtain ⟨y, hy, y1, y2, y3, y4, y5, y6⟩ := hat j a ha
    rw [List.length_set] at hj
    obtain ⟨q1, q2, q3⟩ := h.last j y hy hj
    exact ⟨by rw [← y5]; exact q1, by rw [← y4]; exact q2, by rw [← y6]; exact q3⟩
theorem mem_set {l : List Nd} {i : Nat} {a x : Nd} (h : x ∈ l.set i a) : x = a ∨ x ∈ l := by
  obtain ⟨j, hj⟩ := List.getElem?_of_mem h
  rw [List.getElem?_set] at hj
  split at hj
  · split at hj
    · exact .inl (Option.some.inj hj).symm
    · cases hj
  · exact .inr (List.mem_of_getElem? hj)
theorem set_keep {l : List Nd} {i : Nat} {nd a c : Nd} (hi : l[i]? = some nd) (e1 : a.id = nd.id) (e2 : a.low = nd.low) (hc : c ∈ l) : ∃ c', c' ∈ l.set i a ∧ c'.id = c.id ∧ c'.low = c.low := by
  obtain ⟨j, hj⟩ := List.getElem?_of_mem hc
  have hlen := (List.getElem?_eq_some_iff.1 hi).1
  by_cases h : i = j
  · subst h
    rw [hi] at hj
    obtain rfl := Option.some.inj hj
    exact ⟨a, List.mem_of_getElem? (i := i) (by rw [List.getElem?_set_self hlen]), e1, e2⟩
  · exact ⟨c, List.mem_of_getElem? (i := j) (by rw [List.getElem?_set_ne h]; exact hj), rfl, rfl⟩
theorem Shp.put {N : Int} {t : List (List Nd)} {k i : Nat} {l : List Nd} {nd : Nd} (h : Shp N t) (hl : t[k]? = some l) (hi : l[i]? = some nd) {pg : Pg} (e1 : pg.lev = nd.pg.lev) (e2 : pg.hi = nd.pg.hi) (e3 : pg.la = nd.pg.la) (e4 : pg.ri = nd.pg.ri)
    (hn : NdS { nd with pg := pg }) (hdn : ∀ (m : Nat) (l0 : List Nd), k = m + 1 → t[m]? = some l0 → DownOk l0 { nd with pg := pg }) : Shp N (t.set k (l.set i { nd with pg := pg })) := by
  have hm := List.mem_of_getElem? hi
  refine h.row hl (Int.le_refl _) ((h.rows k l hl).put hi e1 e2 e3 e4) (fun x hx => ?_) (fun c hc => set_keep hi rfl rfl hc) (fun a b x y hx hy e => ?_) (fun a ha => ?_) (fun m l0 hk h0 x hx => ?_) (by rw [List.length_set]; omega)
  · rcases mem_set hx with rfl | hx
    · exact ⟨(h.nodes k l hl nd hm).1, hn⟩
    · exact h.nodes k l hl x hx
  · have hat : ∀ (j : Nat) (z : Nd), (l.set i { nd with pg := pg })[j]? = some z → ∃ z', l[j]? = some z' ∧ z'.id = z.id := by
      intro j z hz
      rw [List.getElem?_set] at hz
      split at hz
      · rename_i e
        subst e
        split at hz
        · obtain rfl := Option.some.inj hz
          exact ⟨nd, hi, rfl⟩
        · cases hz
      · exact ⟨z, hz, rfl⟩
    obtain ⟨x', hx', ex⟩ := hat a x hx
    obtain ⟨y', hy', ey⟩ := hat b y hy
    exact (h.inj k k l l a b x' y' hl hl hx' hy' (by rw [ex, ey]; exact e)).2
  · rcases mem_set ha with rfl | ha
    · exact .inl ⟨nd, hm, rfl⟩
    · exact .inl ⟨a, ha, rfl⟩
  · rcases mem_set hx with rfl | hx
    · exact hdn m l0 hk h0
    · subst hk
      exact h.down m l0 l h0 hl x hx
/-- A row with a node in place of one, and one more. -/
def spl (l : List Nd) (i : Nat) (a b : Nd) : List Nd := l.take i ++ a :: b :: l.drop (i + 1)
theorem spl_len {l : List Nd} {i : Nat} {a b : Nd} (hi : i < l.length) : (spl l i a b).length = l.length + 1 := by
  simp [spl]; omega
theorem spl_at {l : List Nd} {i : Nat} {a b : Nd} (hi : i < l.length) (j : Nat) : (spl l i a b)[j]? = if j < i then l[j]? else if j = i then some a else if j = i + 1 then some b else l[j - 1]? := by
  unfold spl
  have hlen : (l.take i).length = i := by rw [List.length_take]; omega
  by_cases h1 : j < i
  · rw [if_pos h1, List.getElem?_append_left (by rw [hlen]; exact h1), List.getElem?_take, if_pos h1]
  · rw [if_neg h1, List.getElem?_append_right (by rw [hlen]; omega), hlen]
    by_cases h2 : j = i
    · rw [if_pos h2, h2, Nat.sub_self]; rfl
    · rw [if_neg h2]
      by_cases h3 : j = i + 1
      · rw [if_pos h3, h3, show i + 1 - i = 1 by omega]; rfl
      · rw [if_neg h3]
        obtain ⟨m, rfl⟩ : ∃ m, j = i + 2 + m := ⟨j - (i + 2), by omega⟩
        rw [show i + 2 + m - i = m + 1 + 1 by omega, List.getElem?_cons_succ, List.getElem?_cons_succ, List.getElem?_drop]
        congr 1; omega
theorem spl_mem {l : List Nd} {i : Nat} {a b x : Nd} (h : x ∈ spl l i a b) : x = a ∨ x = b ∨ x ∈ l := by
  unfold spl at h
  rcases List.mem_append.1 h with h | h
  · exact .inr (.inr (List.mem_of_mem_take h))
  · rcases List.mem_cons.1 h with h | h
    · exact .inl h
    · rcases List.mem_cons.1 h with h | h
      · exact .inr (.inl h)
      · exact .inr (.inr (List.mem_of_mem_drop h))
theorem RowOk.split {lev : Nat} {l : List Nd} {i : Nat} {nd a b : Nd} (h : RowOk lev l) (hi : l[i]? = some nd) (hal : a.low = nd.low) (haid : a.id = nd.id) (ha1 : a.pg.lev = lev) (ha2 : a.pg.la = false) (ha3 : a.pg.hi = b.low) (ha4 : a.pg.ri = b.id)
    (hb1 : b.pg.lev = lev) (hb2 : b.pg.la = nd.pg.la) (hb3 : b.pg.hi = nd.pg.hi) (hb4 : b.pg.ri = nd.pg.ri) (h1 : klt nd.low b.low = true) (h2 : nd.pg.la = false → klt b.low nd.pg.hi = true) : RowOk lev (spl l i a b) := by
  have hlen := (List.getElem?_eq_some_iff.1 hi).1
  refine ⟨by rw [spl_len hlen]; omega, fun x hx => ?_, fun x hx => ?_, fun j x y hx hy => ?_, fun j x hx hj => ?_⟩
  · rcases spl_mem hx with rfl | rfl | hx
    · exact ha1
    · exact hb1
    · exact h.lev x hx
  · rw [spl_at hlen] at hx
    by_cases h0 : 0 < i
    · rw [if_pos h0] at hx; exact h.first x hx
    · obtain rfl : i = 0 := by omega
      rw [if_neg h0, if_pos rfl] at hx
      obtain rfl := Option.some.inj hx
      rw [hal]; exact h.first nd hi
  · rw [spl_at hlen] at hx hy
    by_cases c1 : j + 1 < i
    · rw [if_pos (by omega)] at hx
      rw [if_pos c1] at hy
      exact h.next j x y hx hy
    · rw [if_neg c1] at hy
      by_cases c2 : j + 1 = i
      · rw [if_pos (by omega)] at hx
        rw [if_pos c2] at hy
        obtain rfl := Option.some.inj hy
        subst c2
        obtain ⟨q1, q2, q3, q4⟩ := h.next j x nd hx hi
        exact ⟨q1, by rw [hal]; exact q2, by rw [haid]; exact q3, by rw [hal]; exact q4⟩
      · rw [if_neg c2] at hy
        by_cases c3 : j + 1 = i + 1
        · obtain rfl : j = i := by omega
          rw [if_neg (by omega), if_pos rfl] at hx
          rw [if_pos rfl] at hy
          obtain rfl := Option.some.inj hx
          obtain rfl := Option.some.inj hy
          exact ⟨ha2, ha3, ha4, by rw [hal]; exact h1⟩
        · rw [if_neg c3] at hy
          rw [if_neg (by omega), if_neg (by omega)] at hx
          by_cases c4 : j = i + 1
          · rw [if_pos c4] at hx
            obtain rfl := Option.some.inj hx
            rw [c4, show i + 1 + 1 - 1 = i + 1 by omega] at hy
            obtain ⟨q1, q2, q3, q4⟩ := h.next i nd y hi hy
            exact ⟨by rw [hb2]; exact q1, by rw [hb3]; exact q2, by rw [hb4]; exact q3, by rw [← q2]; exact h2 q1⟩
          · rw [if_neg c4] at hx
            exact h.next (j - 1) x y hx (by rw [show j - 1 + 1 = j + 1 - 1 by omega]; exact hy)
  · rw [spl_len hlen] at hj
    rw [spl_at hlen] at hx
    rw [if_neg (by omega), if_neg (by omega)] at hx
    by_cases c4 : j = i + 1
    · rw [if_pos c4] at hx
      obtain rfl := Option.some.inj hx
      obtain ⟨q1, q2, q3⟩ := h.last i nd hi (by omega)
      exact ⟨by rw [hb2]; exact q1, by rw [hb3]; exact q2, by rw [hb4]; exact q3⟩
    · rw [if_neg c4] at hx
      exact h.last (j - 1) x hx (by omega)
/-- A node is split; the new one has the next number or a later one. -/
theorem Shp.split {N N' : Int} {t : List (List Nd)} {k i : Nat} {l : List Nd} {nd a b : Nd} (h : Shp N t) (hl : t[k]? = some l) (hi : l[i]? = some nd) (hN : N < b.id) (hN' : b.id ≤ N') (h0 : 0 ≤ N) (hal : a.low = nd.low) (haid : a.id = nd.id) (ha1 : a.pg.lev = k) (ha2 : a.pg.la = false) (ha3 : a.pg.hi = b.low) (ha4 : a.pg.ri = b.id)
    (hb1 : b.pg.lev = k) (hb2 : b.pg.la = nd.pg.la) (hb3 : b.pg.hi = nd.pg.hi) (hb4 : b.pg.ri = nd.pg.ri) (h1 : klt nd.low b.low = true) (h2 : nd.pg.la = false → klt b.low nd.pg.hi = true) (hna : NdS a) (hnb : NdS b)
    (hdn : ∀ (m : Nat) (l0 : List Nd), k = m + 1 → t[m]? = some l0 → DownOk l0 a ∧ DownOk l0 b) : Shp N' (t.set k (spl l i a b)) := by
  have hm := List.mem_of_getElem? hi
  have hlen := (List.getElem?_eq_some_iff.1 hi).1
  refine h.row hl (by omega) ((h.rows k l hl).split hi hal haid ha1 ha2 ha3 ha4 hb1 hb2 hb3 hb4 h1 h2) (fun x hx => ?_) (fun c hc => ?_) (fun p q x y hx hy e => ?_) (fun x hx => ?_) (fun m l0 hk hl0 x hx => ?_) (by rw [spl_len hlen]; omega)
  · rcases spl_mem hx with rfl | rfl | hx
    · have := (h.nodes k l hl nd hm).1
      rw [haid]
      exact ⟨by omega, hna⟩
    · exact ⟨by omega, hnb⟩
    · have := (h.nodes k l hl x hx).1
      exact ⟨by omega, (h.nodes k l hl x hx).2⟩
  · obtain ⟨j, hj⟩ := List.getElem?_of_mem hc
    rcases Nat.lt_trichotomy j i with hji | rfl | hji
    · exact ⟨c, List.mem_of_getElem? (i := j) (by rw [spl_at hlen, if_pos hji]; exact hj), rfl, rfl⟩
    · rw [hi] at hj
      obtain rfl := Option.some.inj hj
      exact ⟨a, List.mem_of_getElem? (i := j) (by rw [spl_at hlen, if_neg (by omega), if_pos rfl]), haid, hal⟩
    · exact ⟨c, List.mem_of_getElem? (i := j + 1) (by rw [spl_at hlen, if_neg (by omega), if_neg (by omega), if_neg (by omega)]; exact hj), rfl, rfl⟩
  · have hat : ∀ (j : Nat) (z : Nd), (spl l i a b)[j]? = some z → (j = i + 1 ∧ z.id = b.id) ∨ (j ≠ i + 1 ∧ z.id ≤ N ∧ ∃ z', l[if j < i + 1 then j else j - 1]? = some z' ∧ z'.id = z.id) := by
      intro j z hz
      rw [spl_at hlen] at hz
      by_cases c1 : j < i
      · rw [if_pos c1] at hz
        rw [if_pos (by omega)]
        exact .inr ⟨by omega, (h.nodes k l hl z (List.mem_of_getElem? hz)).1.2, z, hz, rfl⟩
      · rw [if_neg c1] at hz
        by_cases c2 : j = i
        · rw [if_pos c2] at hz
          obtain rfl := Option.some.inj hz
          rw [if_pos (by omega), c2]
          exact .inr ⟨by omega, by rw [haid]; exact (h.nodes k l hl nd hm).1.2, nd, hi, haid.symm⟩
        · rw [if_neg c2] at hz
          by_cases c3 : j = i + 1
          · rw [if_pos c3] at hz
            obtain rfl := Option.some.inj hz
            exact .inl ⟨c3, rfl⟩
          · rw [if_neg c3] at hz
            rw [if_neg (by omega)]
            exact .inr ⟨c3, (h.nodes k l hl z (List.mem_of_getElem? hz)).1.2, z, hz, rfl⟩
    rcases hat p x hx with ⟨p1, p2⟩ | ⟨p1, p2, x', p3, p4⟩
    · rcases hat q y hy with ⟨q1, q2⟩ | ⟨q1, q2, _⟩
      · omega
      · omega
    · rcases hat q y hy with ⟨q1, q2⟩ | ⟨q1, q2, y', q3, q4⟩
      · omega
      · have := (h.inj k k l l _ _ x' y' hl hl p3 q3 (by rw [p4, q4]; exact e)).2
        split at this <;> split at this <;> omega
  · rcases spl_mem hx with rfl | rfl | hx
    · exact .inl ⟨nd, hm, haid.symm⟩
    · exact .inr hN
    · exact .inl ⟨x, hx, rfl⟩
  · obtain ⟨d1, d2⟩ := hdn m l0 hk hl0
    rcases spl_mem hx with rfl | rfl | hx
    · exact d1
    · exact d2
    · subst hk
      exact h.down m l0 l hl0 hl x hx
/-- A new root above. -/
theorem Shp.grow {N N' : Int} {t : List (List Nd)} {l : List Nd} {nd r : Nd} (h : Shp N t) (hl : t[t.length - 1]? = some l) (hi : l[0]? = some nd) (hN : N < r.id) (hN' : r.id ≤ N') (h0 : 0 ≤ N) (hr1 : r.low = ⟨#[]⟩) (hr2 : r.pg = ⟨t.length, [⟨⟨#[]⟩, nd.id⟩], ⟨#[]⟩, true, 0⟩) : Shp N' (t ++ [[r]]) := by
  have hne := h.ne
  have hat : ∀ (k : Nat) (x : List Nd), (t ++ [[r]])[k]? = some x → t[k]? = some x ∨ (k = t.length ∧ x = [r]) := by
    intro k x hx
    rcases Nat.lt_or_ge k t.length with hk | hk
    · rw [List.getElem?_append_left hk] at hx; exact .inl hx
    · rw [List.getElem?_append_right hk] at hx
      obtain ⟨m, hm⟩ : ∃ m, k - t.length = m := ⟨_, rfl⟩
      rw [hm] at hx
      cases m with
      | zero => exact .inr ⟨by omega, (Option.some.inj hx).symm⟩
      | succ m => simp at hx
  have hone : ∀ (i : Nat) (a : Nd), [r][i]? = some a → i = 0 ∧ a = r := by
    intro i a ha
    cases i with
    | zero => exact ⟨rfl, (Option.some.inj ha).symm⟩
    | succ i => simp at ha
  have hlow := (h.rows _ l hl).first nd hi
  refine ⟨by simp, fun k x hx => ?_, fun k x hx a ha => ?_, fun k x y hx hy a ha => ?_, fun k1 k2 l1 l2 i i' a b h1 h2 ha hb e => ?_, ?_⟩
  · rcases hat k x hx with hx | ⟨rfl, rfl⟩
    · exact h.rows k x hx
    · refine ⟨by simp, fun a ha => ?_, fun a ha => ?_, fun i a b ha hb => ?_, fun i a ha hi => ?_⟩
      · obtain rfl : a = r := by simpa using ha
        rw [hr2]
      · rw [← (Option.some.inj ha)]; exact hr1
      · have := (hone _ _ hb).1
        omega
      · rw [(hone _ _ ha).2, hr2]; exact ⟨rfl, rfl, rfl⟩
  · rcases hat k x hx with hx | ⟨rfl, rfl⟩
    · obtain ⟨q1, q2⟩ := h.nodes k x hx a ha
      exact ⟨by omega, q2⟩
    · obtain rfl : a = r := by simpa using ha
      refine ⟨by omega, ?_, ?_, ?_⟩
      · rw [hr2]; exact List.pairwise_singleton _ _
      · rw [hr2]
        intro s hs
        obtain rfl : s = ⟨⟨#[]⟩, nd.id⟩ := by simpa using hs
        exact (h.nodes _ l hl nd (List.mem_of_getElem? hi)).1.1
      · rw [hr2, hr1]
        intro s hs
        obtain rfl : s = ⟨⟨#[]⟩, nd.id⟩ := by simpa using hs
        exact ⟨klt_irrefl _, fun h => by cases h⟩
  · rcases hat (k + 1) y hy with hy2 | ⟨e, rfl⟩
    · rcases hat k x hx with hx2 | ⟨rfl, rfl⟩
      · exact h.down k x y hx2 hy2 a ha
      · have := (List.getElem?_eq_some_iff.1 hy2).1
        omega
    · rcases hat k x hx with hx2 | ⟨rfl, rfl⟩
      · obtain rfl : a = r := by simpa using ha
        rw [show k = t.length - 1 by omega, hl] at hx2
        obtain rfl := Option.some.inj hx2
        refine ⟨⟨⟨⟨#[]⟩, nd.id⟩, [], by rw [hr2], hr1.symm⟩, fun s hs => ?_⟩
        rw [hr2] at hs
        obtain rfl : s = ⟨⟨#[]⟩, nd.id⟩ := by simpa using hs
        exact ⟨nd, List.mem_of_getElem? hi, rfl, hlow⟩
      · omega
  · rcases hat k1 l1 h1 with h1' | ⟨rfl, rfl⟩
    · rcases hat k2 l2 h2 with h2' | ⟨rfl, rfl⟩
      · exact h.inj k1 k2 l1 l2 i i' a b h1' h2' ha hb e
      · obtain ⟨rfl, rfl⟩ := hone _ _ hb
        have := (h.nodes k1 l1 h1' a (List.mem_of_getElem? ha)).1
        omega
    · obtain ⟨rfl, rfl⟩ := hone _ _ ha
      rcases hat k2 l2 h2 with h2' | ⟨rfl, rfl⟩
      · have := (h.nodes k2 l2 h2' b (List.mem_of_getElem? hb)).1
        omega
      · obtain ⟨rfl, rfl⟩ := hone _ _ hb
        exact ⟨rfl, rfl⟩
  · have := h.count
    simp
    omega
end Go.Proofs.YtlpdhhhgckpcfaaGreat
