
/- A tree in which a slot has been inserted into a node, with or without a split (pure). -/
import Derived.Test.YtlpdhhhgckpcfaaGreatTreePut
import Derived.Test.YtlpdhhhgckpcfaaGreatInsOut
import Derived.Test.YtlpdhhhgckpcfaaGreatLockLaw
import Derived.Test.YtlpdhhhgckpcfaaGreatLaw11b
namespace Go.Proofs.YtlpdhhhgckpcfaaGreat
open Go.RowKit
set_option maxRecDepth 100000
theorem pg_of_at {d : Cfg} {id : Int} {L : List Cel} {p q : Pg} (h1 : PageAt d id L p) (h2 : PageAt d id L q) : p = q := by
  rw [← pgOf_at h1, ← pgOf_at h2]
section
variable {d : Cfg} {L : List Cel} {t : List (List Nd)}
/-- The numbers of a tree's nodes are different. -/
theorem TreeOk.inj (ht : TreeOk d L t) (k k' : Nat) (l l' : List Nd) (i i' : Nat) (a b : Nd) (hk : t[k]? = some l) (hk' : t[k']? = some l') (ha : l[i]? = some a) (hb : l'[i']? = some b) (he : a.id = b.id) : k = k' ∧ i = i' := by
  have h1 := ht.nodes k l hk a (List.mem_of_getElem? ha)
  have h2 := ht.nodes k' l' hk' b (List.mem_of_getElem? hb)
  have e : a.pg = b.pg := pg_of_at h1.page (by rw [he]; exact h2.page)
  have l1 := (ht.rows k l hk).lev a (List.mem_of_getElem? ha)
  have l2 := (ht.rows k' l' hk').lev b (List.mem_of_getElem? hb)
  rw [e] at l1
  have ek : k = k' := by omega
  subst ek
  rw [hk] at hk'
  obtain rfl := Option.some.inj hk'
  refine ⟨rfl, ?_⟩
  have hR := ht.rows k l hk
  have key : ∀ (p q : Nat) (x y : Nd), l[p]? = some x → l[q]? = some y → x.pg = y.pg → p < q → False := by
    intro p q x y hx hy hxy hpq
    have hq := (List.getElem?_eq_some_iff.1 hy).1
    obtain ⟨z, hz⟩ : ∃ z, l[p + 1]? = some z := ⟨_, List.getElem?_eq_getElem (by omega)⟩
    obtain ⟨n1, n2, n3, n4⟩ := hR.next p x z hx hz
    rcases Nat.lt_or_ge (q + 1) l.length with hlt | hge
    · obtain ⟨u, hu⟩ : ∃ u, l[q + 1]? = some u := ⟨_, List.getElem?_eq_getElem hlt⟩
      obtain ⟨_, m2, _, _⟩ := hR.next q y u hy hu
      have := hR.low_lt (q + 1) (p + 1) z u hz hu (by omega)
      rw [← n2, ← m2, hxy, klt_irrefl] at this
      cases this
    · have := (hR.last q y hy (by omega)).1
      rw [← hxy, n1] at this
      cases this
  rcases Nat.lt_trichotomy i i' with h | h | h
  · exact (key i i' a b ha hb e h).elim
  · exact h
  · exact (key i' i b a hb ha e.symm h).elim
theorem TreeOk.shp (ht : TreeOk d L t) : Shp (getC L 4).n t :=
  ⟨ht.ne, ht.rows, fun k l hk nd hn => by
    have h := ht.nodes k l hk nd hn
    exact ⟨⟨h.id.1, ht.used k l hk nd hn⟩, h.asc, h.rf, h.bd⟩, ht.down, ht.inj, ht.count⟩
/-- The node's cells. -/
structure NdMem (d : Cfg) (L : List Cel) (nd : Nd) : Prop where
  page : PageAt d nd.id L nd.pg
  hold : Holds L (pgPts d nd.id nd.pg)
  free : LatFree (getC L (d.node nd.id 0))
theorem TreeOk.of (hs : Shp (getC L 4).n t) (hn4 : (getC L 4).n ≤ d.no) (htop : ∃ nd rest, t[t.length - 1]? = some (nd :: rest) ∧ (getC L 0).n = nd.id) (hm : ∀ (k : Nat) (l : List Nd), t[k]? = some l → ∀ nd, nd ∈ l → NdMem d L nd) : TreeOk d L t := by
  refine ⟨hs.ne, hs.rows, fun k l hk nd hn => ?_, htop, hs.down, hs.count, hn4, fun k l hk nd hn => (hs.nodes k l hk nd hn).1.2⟩
  obtain ⟨q1, q2⟩ := hs.nodes k l hk nd hn
  have q3 := hm k l hk nd hn
  exact ⟨⟨q1.1, by omega⟩, q3.page, q3.hold, q3.free, q2.asc, q2.rf, q2.bd⟩
theorem NdMem.frame (hd : d.Ok) {L' : List Cel} {nd : Nd} (h1 : 1 ≤ nd.id) (h2 : nd.id ≤ d.no) (h : NdMem d L nd) (he : ∀ k : Int, 0 ≤ k → k < d.fa + 4 → getC L' (d.node nd.id k) = getC L (d.node nd.id k)) : NdMem d L' nd :=
  ⟨h.page.frame h1 h2 hd.fa1 (fun k a b => he k (by omega) b), h.hold.frame hd h1 h2 h.page.le (fun k a b => he k (by omega) b), by rw [he 0 (by omega) (by have := hd.fa1; omega)]; exact h.free⟩
theorem TreeOk.mem (ht : TreeOk d L t) {k : Nat} {l : List Nd} (hk : t[k]? = some l) {nd : Nd} (hn : nd ∈ l) : NdMem d L nd := by
  have h := ht.nodes k l hk nd hn
  exact ⟨h.page, h.hold, h.free⟩
end
/-! ### The page with the new slot, and its halves -/
theorem insSl_at {l : List Sl} {key : ByteArray} {r : Int} {i : Nat} {s : Sl} (h : (insSl l key r)[i]? = some s) : (i < loK l key ∧ l[i]? = some s) ∨ (i = loK l key ∧ s = ⟨key, r⟩) ∨ (loK l key < i ∧ l[i - 1]? = some s) := by
  have hle := loK_le l key
  unfold insSl at h
  have hlen : (l.take (loK l key)).length = loK l key := by rw [List.length_take]; omega
  rcases Nat.lt_trichotomy i (loK l key) with h1 | h1 | h1
  · rw [List.getElem?_append_left (by rw [hlen]; exact h1), List.getElem?_take, if_pos h1] at h
    exact .inl ⟨h1, h⟩
  · rw [List.getElem?_append_right (by rw [hlen]; omega), hlen, h1, Nat.sub_self] at h
    exact .inr (.inl ⟨h1, (Option.some.inj h).symm⟩)
  · rw [List.getElem?_append_right (by rw [hlen]; omega), hlen] at h
    obtain ⟨m, rfl⟩ : ∃ m, i = loK l key + 1 + m := ⟨i - (loK l key + 1), by omega⟩
    rw [show loK l key + 1 + m - loK l key = m + 1 by omega, List.getElem?_cons_succ, List.getElem?_drop] at h
    exact .inr (.inr ⟨h1, by rw [show loK l key + 1 + m - 1 = loK l key + m by omega]; exact h⟩)
theorem insSl_asc {l : List Sl} {key : ByteArray} {r : Int} (ha : Asc l) (hno : ∀ s, s ∈ l → s.k ≠ key) : Asc (insSl l key r) := by
  have hlo : ∀ (i : Nat) (s : Sl), l[i]? = some s → i < loK l key → klt s.k key = true := fun i s hs h => (loK_iff ha hs).2 h
  have hhi : ∀ (i : Nat) (s : Sl), l[i]? = some s → loK l key ≤ i → klt key s.k = true := fun i s hs h => by
    cases hc : klt key s.k with
    | true => rfl
    | false =>
      cases hc2 : klt s.k key with
      | true => have := (loK_iff ha hs).1 hc2; omega
      | false => exact absurd (klt_total hc2 hc) (hno s (List.mem_of_getElem? hs))
  unfold Asc
  rw [List.pairwise_iff_getElem]
  intro i j hi hj hij
  obtain ⟨x, hx⟩ : ∃ x, (insSl l key r)[i]? = some x := ⟨_, List.getElem?_eq_getElem hi⟩
  obtain ⟨y, hy⟩ : ∃ y, (insSl l key r)[j]? = some y := ⟨_, List.getElem?_eq_getElem hj⟩
  rw [(List.getElem?_eq_some_iff.1 hx).2, (List.getElem?_eq_some_iff.1 hy).2]
  rcases insSl_at hx with ⟨a1, a2⟩ | ⟨a1, rfl⟩ | ⟨a1, a2⟩
  · rcases insSl_at hy with ⟨b1, b2⟩ | ⟨b1, rfl⟩ | ⟨b1, b2⟩
    · exact asc_lt ha a2 b2 hij
    · exact hlo i x a2 a1
    · exact asc_lt ha a2 b2 (by omega)
  · rcases insSl_at hy with ⟨b1, b2⟩ | ⟨b1, rfl⟩ | ⟨b1, b2⟩
    · omega
    · omega
    · exact hhi _ y b2 (by omega)
  · rcases insSl_at hy with ⟨b1, b2⟩ | ⟨b1, rfl⟩ | ⟨b1, b2⟩
    · omega
    · omega
    · exact asc_lt ha a2 b2 (by omega)
/-- What a split's separator is. -/
theorem splSep_eq {pg : Pg} {x y : Sl} (hx : pg.sl[splK pg.sl.length - 1]? = some x) (hy : pg.sl[splK pg.sl.length]? = some y) : splSep pg = if pg.lev = 0 then sepK x.k y.k else y.k := by
  unfold splSep
  rw [hx, hy]
theorem spl_mid {pg : Pg} (h2 : 2 ≤ pg.sl.length) : ∃ x y : Sl, 1 ≤ splK pg.sl.length ∧ pg.sl[splK pg.sl.length - 1]? = some x ∧ pg.sl[splK pg.sl.length]? = some y := by
  have hk : 1 ≤ splK pg.sl.length ∧ splK pg.sl.length < pg.sl.length := by unfold splK; omega
  exact ⟨_, _, hk.1, List.getElem?_eq_getElem (by omega), List.getElem?_eq_getElem hk.2⟩
theorem spl_sep {pg : Pg} (ha : Asc pg.sl) (h2 : 2 ≤ pg.sl.length) : (∀ s, s ∈ pg.sl.take (splK pg.sl.length) → klt s.k (splSep pg) = true) ∧ (∀ s, s ∈ pg.sl.drop (splK pg.sl.length) → klt s.k (splSep pg) = false) ∧
    (∃ x, x ∈ pg.sl ∧ klt x.k (splSep pg) = true) ∧ (∃ y, y ∈ pg.sl ∧ klt y.k (splSep pg) = false) := by
  obtain ⟨x, y, h1, hx, hy⟩ := spl_mid h2
  have hxy := asc_lt ha hx hy (by omega)
  have hsep : klt x.k (splSep pg) = true ∧ klt y.k (splSep pg) = false := by
    rw [splSep_eq hx hy]
    split
    · exact sepK_ok hxy
    · exact ⟨hxy, klt_irrefl _⟩
  refine ⟨fun s hs => ?_, fun s hs => ?_, ⟨x, List.mem_of_getElem? hx, hsep.1⟩, ⟨y, List.mem_of_getElem? hy, hsep.2⟩⟩
  · obtain ⟨i, hi⟩ := List.getElem?_of_mem hs
    rw [List.getElem?_take] at hi
    split at hi
    · exact klt_le_lt (asc_le ha hi hx (by omega)) hsep.1
    · cases hi
  · obtain ⟨i, hi⟩ := List.getElem?_of_mem hs
    rw [List.getElem?_drop] at hi
    exact klt_le_trans hsep.2 (asc_le ha hy hi (by omega))
theorem asc_take {l : List Sl} (h : Asc l) (n : Nat) : Asc (l.take n) := h.sublist (List.take_sublist _ _)
theorem asc_drop {l : List Sl} (h : Asc l) (n : Nat) : Asc (l.drop n) := h.sublist (List.drop_sublist _ _)
/-! ### The tree behind it -/
section
variable {nd : Nd} {key : ByteArray} {r : Int} {fu : Pg} {n : Int}
theorem ins_nds (h : NdS nd) (hlow : klt key nd.low = false) (hin : (nd.pg.la || klt key nd.pg.hi) = true) (hno : ∀ s, s ∈ nd.pg.sl → s.k ≠ key) (hr : 1 ≤ r) : NdS { nd with pg := insPg nd.pg key r } := by
  refine ⟨insSl_asc h.asc hno, fun s hs => ?_, fun s hs => ?_⟩
  · rcases insSl_mem hs with hs | rfl
    · exact h.rf s hs
    · exact hr
  · rcases insSl_mem hs with hs | rfl
    · exact h.bd s hs
    · refine ⟨hlow, fun hla => ?_⟩
      have hla : nd.pg.la = false := hla
      rw [hla, Bool.false_or] at hin
      exact hin
theorem spl_nds (h : NdS { nd with pg := fu }) (h2 : 2 ≤ fu.sl.length) : NdS { nd with pg := splL fu n } ∧ NdS ⟨n, splSep fu, splR fu⟩ ∧ klt nd.low (splSep fu) = true ∧ (fu.la = false → klt (splSep fu) fu.hi = true) := by
  obtain ⟨s1, s2, ⟨x, hx, s3⟩, ⟨y, hy, s4⟩⟩ := spl_sep (show Asc fu.sl from h.asc) h2
  refine ⟨⟨asc_take h.asc _, fun s hs => h.rf s (List.mem_of_mem_take hs), fun s hs => ⟨(h.bd s (List.mem_of_mem_take hs)).1, fun _ => s1 s hs⟩⟩, ⟨asc_drop h.asc _, fun s hs => h.rf s (List.mem_of_mem_drop hs), fun s hs => ⟨s2 s hs, fun hla => (h.bd s (List.mem_of_mem_drop hs)).2 hla⟩⟩, klt_le_lt (h.bd x hx).1 s3, fun hla => klt_le_lt s4 ((h.bd y hy).2 hla)⟩
theorem ins_down {l0 : List Nd} (h : NdS nd) (hd : DownOk l0 nd) (hlow : klt key nd.low = false) (hno : ∀ s, s ∈ nd.pg.sl → s.k ≠ key) (hc : ∃ c, c ∈ l0 ∧ c.id = r ∧ c.low = key) : DownOk l0 { nd with pg := insPg nd.pg key r } := by
  obtain ⟨⟨s, rest, e1, e2⟩, e3⟩ := hd
  refine ⟨?_, fun s hs => ?_⟩
  · have hs0 : nd.pg.sl[0]? = some s := by rw [e1]; rfl
    have hlt : klt s.k key = true := by
      cases hcc : klt s.k key with
      | true => rfl
      | false => exact absurd (klt_total hcc (by rw [e2]; exact hlow)) (hno s (by rw [e1]; simp))
    have h0 := (loK_iff h.asc hs0).1 hlt
    obtain ⟨m, hm⟩ : ∃ m, loK nd.pg.sl key = m + 1 := ⟨loK nd.pg.sl key - 1, by omega⟩
    refine ⟨s, (rest.take m) ++ ⟨key, r⟩ :: nd.pg.sl.drop (m + 1), ?_, e2⟩
    show insSl nd.pg.sl key r = _
    unfold insSl
    rw [hm, e1]
    rfl
  · rcases insSl_mem hs with hs | rfl
    · exact e3 s hs
    · exact hc
theorem spl_down {l0 : List Nd} (hlev : fu.lev ≠ 0) (h : DownOk l0 { nd with pg := fu }) (h2 : 2 ≤ fu.sl.length) : DownOk l0 { nd with pg := splL fu n } ∧ DownOk l0 ⟨n, splSep fu, splR fu⟩ := by
  obtain ⟨⟨s, rest, e1, e2⟩, e3⟩ := h
  obtain ⟨x, y, h1, hx, hy⟩ := spl_mid h2
  obtain ⟨m, hm⟩ : ∃ m, splK fu.sl.length = m + 1 := ⟨splK fu.sl.length - 1, by omega⟩
  refine ⟨⟨⟨s, rest.take m, ?_, e2⟩, fun s hs => e3 s (List.mem_of_mem_take hs)⟩, ⟨⟨y, fu.sl.drop (splK fu.sl.length + 1), ?_, ?_⟩, fun s hs => e3 s (List.mem_of_mem_drop hs)⟩⟩
  · show fu.sl.take (splK fu.sl.length) = _
    have e1 : fu.sl = s :: rest := e1
    rw [hm, e1]; rfl
  · show fu.sl.drop (splK fu.sl.length) = _
    have hlt := (List.getElem?_eq_some_iff.1 hy).1
    rw [List.drop_eq_getElem_cons hlt, (List.getElem?_eq_some_iff.1 hy).2]
  · rw [splSep_eq hx hy, if_neg hlev]
end
/-- The cells when a slot has been inserted into a node and all is free again. -/
structure InsMem (d : Cfg) (L L3 : List Cel) (nd : Nd) (p : Pg) (sp : Bool) (q : Pg) : Prop where
  pg : Holds L3 (pgPts d nd.id p)
  free : LatFree (getC L3 (d.node nd.id 0))
  n4 : (getC L3 4).n = if sp then newId L else (getC L 4).n
  npg : sp = true → Holds L3 (pgPts d (newId L) q)
  nfree : sp = true → LatFree (getC L3 (d.node (newId L) 0))
  other : ∀ j : Int, j ≠ 4 → (∀ k : Int, 0 ≤ k → k < d.fa + 4 → j ≠ d.node nd.id k) → (sp = true → ∀ k : Int, 0 ≤ k → k < d.fa + 4 → j ≠ d.node (newId L) k) → getC L3 j = getC L j
/-- The tree behind it. -/
def insT (t : List (List Nd)) (k i : Nat) (l : List Nd) (nd : Nd) (fu : Pg) (n : Int) (sp : Bool) : List (List Nd) :=
  if sp then t.set k (spl l i { nd with pg := splL fu n } ⟨n, splSep fu, splR fu⟩) else t.set k (l.set i { nd with pg := fu })
theorem set_top {t : List (List Nd)} {k : Nat} {l l' : List Nd} {rt : Nd} {rest : List Nd} (hne : 0 < t.length) (hl : t[k]? = some l) (htop : t[t.length - 1]? = some (rt :: rest)) (h0 : ∀ a, l[0]? = some a → ∃ b, l'[0]? = some b ∧ b.id = a.id) :
    ∃ nd rest', (t.set k l')[(t.set k l').length - 1]? = some (nd :: rest') ∧ nd.id = rt.id := by
  rw [List.length_set, List.getElem?_set]
  split
  · rename_i e
    rw [if_pos (by omega)]
    rw [e] at hl
    rw [hl] at htop
    obtain rfl := Option.some.inj htop
    obtain ⟨b, hb, e2⟩ := h0 rt rfl
    cases l' with
    | nil => simp at hb
    | cons c rest' =>
      obtain rfl : c = b := by simpa using hb
      exact ⟨c, rest', rfl, e2⟩
  · exact ⟨rt, rest, htop, rfl⟩
section
variable {d : Cfg} {L L3 : List Cel} {t : List (List Nd)} {k i : Nat} {l : List Nd} {nd : Nd} {key : ByteArray} {r : Int} {sp : Bool} {p : Pg}
theorem tree_ins (hd : d.Ok) (ht : TreeOk d L t) (hk : t[k]? = some l) (hi : l[i]? = some nd) (hlow : klt key nd.low = false) (hin : (nd.pg.la || klt key nd.pg.hi) = true) (hno : ∀ s, s ∈ nd.pg.sl → s.k ≠ key) (hr : 1 ≤ r)
    (hdn : ∀ (m : Nat) (l0 : List Nd), k = m + 1 → t[m]? = some l0 → ∃ c, c ∈ l0 ∧ c.id = r ∧ c.low = key) (hsp : sp = decide (d.fa < ((insPg nd.pg key r).sl.length : Int))) (hnew : sp = true → newId L ≤ d.no)
    (hp : p = if sp then splL (insPg nd.pg key r) (newId L) else insPg nd.pg key r) (hM : InsMem d L L3 nd p sp (splR (insPg nd.pg key r))) : TreeOk d L3 (insT t k i l nd (insPg nd.pg key r) (newId L) sp) := by
  have hmem := List.mem_of_getElem? hi
  have hN := ht.nodes k l hk nd hmem
  have hS := ht.shp
  have hns := (hS.nodes k l hk nd hmem).2
  have hR := ht.rows k l hk
  have hlev := hR.lev nd hmem
  have hle := hN.page.le
  have f1 := hd.fa1
  have hno2 := hd.no2
  have hn4 := ht.n4
  have hid := hN.id
  have hus := ht.used k l hk nd hmem
  have hkt := (List.getElem?_eq_some_iff.1 hk).1
  have htall := ht.tall hd
  have hn0 : newId L = (getC L 4).n + 1 := rfl
  have hfl : (insPg nd.pg key r).sl.length = nd.pg.sl.length + 1 := insSl_length _ _ _
  have hfs := ins_nds hns hlow hin hno hr
  have hfd : ∀ (m : Nat) (l0 : List Nd), k = m + 1 → t[m]? = some l0 → DownOk l0 { nd with pg := insPg nd.pg key r } := fun m l0 e h0 => by
    subst e
    exact ins_down hns (hS.down m l0 l h0 hk nd hmem) hlow hno (hdn m l0 rfl h0)
  obtain ⟨rt, rest, htop, hroot⟩ := ht.top
  have h8 : ∀ id k : Int, 1 ≤ id → id ≤ d.no → 0 ≤ k → k < d.fa + 4 → 8 ≤ d.node id k := fun id k i1 i2 a b => by
    have n0 := (node_in hd i1 i2 a b).1
    have hA := hd.A_bd
    have m3 : 0 ≤ (id - 1) * (d.fa + 4) := Int.mul_nonneg (by omega) (by omega)
    omega
  have hr0 : getC L3 0 = getC L 0 := hM.other 0 (by omega) (fun k a b => by have := h8 nd.id k hid.1 hid.2 a b; omega) (fun h k a b => by have := h8 (newId L) k (by omega) (hnew h) a b; omega)
  have hold : ∀ (k' : Nat) (l' : List Nd), t[k']? = some l' → ∀ (j : Nat) (c : Nd), l'[j]? = some c → (k' ≠ k ∨ j ≠ i) → NdMem d L3 c := by
    intro k' l' hk' j c hc hne
    have hcm := List.mem_of_getElem? hc
    have hcN := ht.nodes k' l' hk' c hcm
    have hcu := ht.used k' l' hk' c hcm
    have hcid : c.id ≠ nd.id := fun e => by
      obtain ⟨e1, e2⟩ := ht.inj k' k l' l j i c nd hk' hk hc hi e
      rcases hne with h | h
      · exact h e1
      · exact h e2
    refine (ht.mem hk' hcm).frame hd hcN.id.1 hcN.id.2 (fun q a b => ?_)
    refine hM.other _ (by have := h8 c.id q hcN.id.1 hcN.id.2 a b; omega) (fun q' a' b' => node_apart hd hcN.id.1 hcN.id.2 hid.1 hid.2 a b a' b' hcid) (fun h q' a' b' => node_apart hd hcN.id.1 hcN.id.2 (by omega) (hnew h) a b a' b' (by omega))
  have hlaf : (insPg nd.pg key r).la = true → (insPg nd.pg key r).hi = ⟨#[]⟩ := fun h => (hR.la_hi hmem h).1
  cases sp with
  | false =>
    have hle2 := of_decide_eq_false hsp.symm
    simp only [Bool.false_eq_true, if_false] at hp
    subst hp
    have hn4' : (getC L3 4).n = (getC L 4).n := hM.n4
    have e : insT t k i l nd (insPg nd.pg key r) (newId L) false = t.set k (l.set i { nd with pg := insPg nd.pg key r }) := rfl
    rw [e]
    refine TreeOk.of (by rw [hn4']; exact hS.put hk hi rfl rfl rfl rfl hfs hfd) (by omega) ?_ (fun k' l' hk' c hc => ?_)
    · obtain ⟨a, rest', h1, h2⟩ := set_top (l' := l.set i { nd with pg := insPg nd.pg key r }) ht.ne hk htop (fun a ha => by
        rw [List.getElem?_set]
        split
        · rename_i e
          subst e
          rw [hi] at ha
          obtain rfl := Option.some.inj ha
          exact ⟨{ nd with pg := insPg nd.pg key r }, by rw [if_pos (List.getElem?_eq_some_iff.1 hi).1], rfl⟩
        · exact ⟨a, ha, rfl⟩)
      exact ⟨a, rest', h1, by rw [hr0, hroot, h2]⟩
    · rcases set_row hk' with ⟨rfl, rfl⟩ | ⟨hne, hk2⟩
      · obtain ⟨j, hj⟩ := List.getElem?_of_mem hc
        rw [List.getElem?_set] at hj
        split at hj
        · split at hj
          · obtain rfl := Option.some.inj hj
            exact ⟨pageAt_of hM.pg (by show 0 ≤ nd.pg.lev ∧ nd.pg.lev < 1000000; omega) (by show ((insPg nd.pg key r).sl.length : Int) ≤ d.fa; omega) hlaf, hM.pg, hM.free⟩
          · cases hj
        · exact hold _ _ hk j c hj (.inr (by rename_i e; exact fun h => e h.symm))
      · obtain ⟨j, hj⟩ := List.getElem?_of_mem hc
        exact hold _ _ hk2 j c hj (.inl hne)
  | true =>
    have hle2 := of_decide_eq_true hsp.symm
    simp only [if_true] at hp
    subst hp
    have hn4' : (getC L3 4).n = newId L := hM.n4
    have h2 : 2 ≤ (insPg nd.pg key r).sl.length := by omega
    obtain ⟨sL, sR, sA, sB⟩ := spl_nds (n := newId L) hfs h2
    have hlen := (List.getElem?_eq_some_iff.1 hi).1
    have e : insT t k i l nd (insPg nd.pg key r) (newId L) true = t.set k (spl l i { nd with pg := splL (insPg nd.pg key r) (newId L) } ⟨newId L, splSep (insPg nd.pg key r), splR (insPg nd.pg key r)⟩) := rfl
    rw [e]
    refine TreeOk.of ?_ (by have := hnew rfl; omega) ?_ (fun k' l' hk' c hc => ?_)
    · rw [hn4']
      refine hS.split (a := { nd with pg := splL (insPg nd.pg key r) (newId L) }) (b := ⟨newId L, splSep (insPg nd.pg key r), splR (insPg nd.pg key r)⟩) hk hi (by show (getC L 4).n < newId L; omega) (Int.le_refl _) (by omega) rfl rfl hlev rfl rfl rfl hlev rfl rfl rfl sA sB sL sR (fun m l0 hkm h0 => ?_)
      subst hkm
      exact spl_down (by show nd.pg.lev ≠ 0; omega) (hfd m l0 rfl h0) h2
    · obtain ⟨a, rest', h1, h2⟩ := set_top (l' := spl l i { nd with pg := splL (insPg nd.pg key r) (newId L) } ⟨newId L, splSep (insPg nd.pg key r), splR (insPg nd.pg key r)⟩) ht.ne hk htop (fun a ha => by
        rw [spl_at hlen]
        by_cases h0 : 0 < i
        · rw [if_pos h0]; exact ⟨a, ha, rfl⟩
        · obtain rfl : i = 0 := by omega
          rw [hi] at ha
          obtain rfl := Option.some.inj ha
          rw [if_neg h0, if_pos rfl]
          exact ⟨_, rfl, rfl⟩)
      exact ⟨a, rest', h1, by rw [hr0, hroot, h2]⟩
    · have hkl : ((insPg nd.pg key r).sl.take (splK (insPg nd.pg key r).sl.length)).length ≤ d.fa ∧ (((insPg nd.pg key r).sl.drop (splK (insPg nd.pg key r).sl.length)).length : Int) ≤ d.fa := by
        rw [List.length_take, List.length_drop]
        unfold splK
        omega
      rcases set_row hk' with ⟨rfl, rfl⟩ | ⟨hne, hk2⟩
      · obtain ⟨j, hj⟩ := List.getElem?_of_mem hc
        rw [spl_at hlen] at hj
        by_cases c1 : j < i
        · rw [if_pos c1] at hj
          exact hold _ _ hk j c hj (.inr (by omega))
        · rw [if_neg c1] at hj
          by_cases c2 : j = i
          · rw [if_pos c2] at hj
            obtain rfl := Option.some.inj hj
            exact ⟨pageAt_of hM.pg (by show 0 ≤ nd.pg.lev ∧ nd.pg.lev < 1000000; omega) hkl.1 (fun h => by cases h), hM.pg, hM.free⟩
          · rw [if_neg c2] at hj
            by_cases c3 : j = i + 1
            · rw [if_pos c3] at hj
              obtain rfl := Option.some.inj hj
              exact ⟨pageAt_of (hM.npg rfl) (by show 0 ≤ nd.pg.lev ∧ nd.pg.lev < 1000000; omega) hkl.2 hlaf, hM.npg rfl, hM.nfree rfl⟩
            · rw [if_neg c3] at hj
              exact hold _ _ hk (j - 1) c hj (.inr (by omega))
      · obtain ⟨j, hj⟩ := List.getElem?_of_mem hc
        exact hold _ _ hk2 j c hj (.inl hne)
end
end Go.Proofs.YtlpdhhhgckpcfaaGreat
