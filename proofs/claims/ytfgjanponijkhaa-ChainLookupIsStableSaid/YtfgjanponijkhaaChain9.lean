/- append of a whole row; Cut and Dead (the reference of layer 9). -/
import Derived.Test.YtfgjanponijkhaaChain7
namespace Go.Proofs.Ytfgjanponijkhaa
open Go.RowKit
set_option maxRecDepth 100000

theorem run_append_none {P : Program} (w : World) (t ty e : TypeId) (i : TypeInfo) (ht : P.underlying t = some (.slice e)) (hi : P.info? e = some i) (b : Option Addr) (n cap c : Nat) (h : n ≤ cap) :
    (Builtin.append_ #[t, t] ty #[.slice b n cap, .slice none 0 c]).run P w = .ok (.slice b n cap) w := by
  cases b <;> simp [Builtin.append_, run_underlying ht, sizeOf, typeInfo, hi, Builtin.lenOf, Builtin.firstCells, h, storeCells]

section
variable {K : Know} {w : World} {F : List Comp}

/-- A literal's block is a row. -/
theorem St.row_lit {b n size : Nat} {xs : List Value} {T : TypeId} (h : St K w (blk b (.cells xs.toArray T) :: F)) (hl : xs.length = n * size) (hn : n ≤ maxLen) : St K w (rowC (.slice (some ⟨b, 0, none⟩) n n) T size n xs :: F) := by
  refine h.chg1 (c' := rowC (.slice (some ⟨b, 0, none⟩) n n) T size n xs) (Chg.refl _ _) ⟨hl, .inr ⟨b, n, xs.toArray, rfl, Nat.zero_le _, h.head, Nat.le_refl _, hn, by simpa using hl, ?_⟩⟩ (by simp [rowC, blk, Value.ownBlock])
  rw [← hl]; simp

/-- append(s, x...). -/
theorem append_row_st {ops : Array Oper} {rest : List Oper} {o : Oper} {a : Act} {Q : Exit → Act → World → Prop} (s x : Operand) (t e : TypeId) (v : Value) (n m c size bytes : Nat) (xs news : List Value) (z : Value) (i : TypeInfo) (ao : Option Addr)
    (hs : St K w (rowC v e size n xs :: F))
    (hgd : o.guard = none) (ho : o.op = .call { callee := .builtin .append, args := #[s, x], argTypes := #[t, t] })
    (ht : Try.prog.underlying t = some (.slice e)) (hi : Try.prog.info? e = some i) (hz : i.zero = some z) (hsize : i.size = size) (hby : i.bytes = bytes) (hzs : z.cells.size = size) (hsz : 0 < size)
    (hes : a.eval s = v) (hx : a.eval x = .slice ao m c) (hl : news.length = m * size) (h0 : ao = none → m = 0)
    (hnews : ∀ j u, news[j]? = some u → ∃ g off, ao = some ⟨g, off, none⟩ ∧ w.cell? ⟨g, off + j, none⟩ = some u) (h1 : ∀ u, u ∈ news → u.oneCell' = true)
    (h63 : n + m ≤ 1099511627776) (hb64 : bytes ≤ 64)
    (h : ∀ v' w', St K w' (rowC v' e size (n + m) (xs ++ news) :: F) → wpList Try.prog ops Q rest (a.put o.dst v') w') : wpList Try.prog ops Q (o :: rest) a w := by
  have hbytes : (n + m) * bytes ≤ 140737488355328 := by
    calc (n + m) * bytes ≤ 1099511627776 * 64 := Nat.mul_le_mul h63 hb64
      _ ≤ 140737488355328 := by decide
  have key : ∃ v' w', (Builtin.append_ #[t, t] o.type #[v, .slice ao m c]).run Try.prog w = .ok v' w' ∧ St K w' (rowC v' e size (n + m) (xs ++ news) :: F) := by
    rcases Nat.eq_zero_or_pos m with hm | hm
    · subst hm
      have hnil : news = [] := List.eq_nil_of_length_eq_zero (by simpa using hl)
      subst hnil
      obtain ⟨a', cap', rfl, hle, _⟩ := hs.row_read
      refine ⟨.slice a' n cap', w, ?_, by simpa using hs⟩
      cases ao with
      | none => exact run_append_none w t o.type e i ht hi a' n cap' c hle
      | some ad => cases a' <;> simp [Builtin.append_, run_underlying ht, sizeOf, typeInfo, hi, Builtin.lenOf, Builtin.firstCells, hle, storeCells, loadCells, loadCellsFrom]
    · have hm0 : ao ≠ none := fun e => by have := h0 e; omega
      obtain ⟨ad, rfl⟩ := Option.ne_none_iff_exists'.1 hm0
      obtain ⟨v', w', hr, h2, hg, h4, h5⟩ := run_append_own_at (P := Try.prog) w 0 t o.type e i z size bytes ht hi hz hsize hby hzs hsz v n xs hs.head ad m c news hl (fun j u hu => by
        obtain ⟨g, off, e, hc⟩ := hnews j u hu
        simp only [Option.some.injEq] at e
        subst e
        have : (⟨g, off, none⟩ : Addr).add j = ⟨g, off + j, none⟩ := by
          unfold Addr.add
          split
          · rename_i h; rw [h]; rfl
          · rfl
        rw [this]; exact hc) h1 (by unfold maxLen; omega) hbytes (Nat.zero_le _)
      refine ⟨v', w', hr, ?_⟩
      refine St.chg (ms := [rowC v e size n xs]) (ms' := [rowC v' e size (n + m) (xs ++ news)]) (F := F) hs ⟨hg.os, hg.tape, hg.output, hg.size, fun k hk hn => hg.block k hk (fun e => hn ?_)⟩ (fun c hc => ?_) (fun b hb => ?_) ?_
      · simp [feet, rowC, ← e]
      · simp at hc; subst hc; exact h2
      · have hb' : b ∈ v'.ownBlock.toList := by simpa [feet, rowC] using hb
        rcases h5 with h5 | h5
        · left; rw [h5] at hb'; simpa [feet, rowC] using hb'
        · rw [h5] at hb'; simp at hb'; subst hb'; exact .inr (by simp)
      · show (feet [rowC v' e size (n + m) (xs ++ news)]).Nodup
        simp only [feet, List.flatMap_cons, List.flatMap_nil, List.append_nil, rowC]
        cases v'.ownBlock <;> simp
  obtain ⟨v', w', hr, hs'⟩ := key
  refine wpList_plain hgd fun K hK => ?_
  unfold Oper.wp execOp
  simp only [ho, resolve, invoke, builtin, Sem.run_bind, Sem.run_pure, Result.andThen_ok, List.map_toArray, List.map_cons, List.map_nil, hes, hx, hr]
  exact hK _ _ (h v' w' hs')

/-- The cells of a slice of versions, as append wants them. -/
theorem VersAt.news {a : Option Addr} {vs : List Ver} (h : VersAt w a vs) (k : Nat) : ∀ j u, (verRow (vs.take k))[j]? = some u → ∃ g off, a = some ⟨g, off, none⟩ ∧ w.cell? ⟨g, off + j, none⟩ = some u := by
  intro j u hu
  have hj : j < (vs.take k).length * 3 := by rw [← verRow_length]; exact (List.getElem?_eq_some_iff.1 hu).1
  have hlt : j / 3 < (vs.take k).length := by omega
  obtain ⟨v, hv⟩ : ∃ v, (vs.take k)[j / 3]? = some v := ⟨_, List.getElem?_eq_getElem hlt⟩
  have hv' : vs[j / 3]? = some v := by
    rw [List.getElem?_take] at hv
    split at hv
    · exact hv
    · cases hv
  obtain ⟨b, off, e, _, c0, c1, c2⟩ := h.2 _ _ hv'
  obtain ⟨r0, r1, r2⟩ := verRow_at _ _ _ hv
  refine ⟨b, off, e, ?_⟩
  have : j % 3 < 3 := Nat.mod_lt _ (by omega)
  have hdm : j = j / 3 * 3 + j % 3 := by omega
  rcases (show j % 3 = 0 ∨ j % 3 = 1 ∨ j % 3 = 2 by omega) with h3 | h3 | h3
  · rw [hdm, h3, Nat.add_zero] at hu ⊢
    rw [r0] at hu; rw [← hu]; exact c0
  · rw [hdm, h3] at hu ⊢
    rw [r1] at hu; rw [← hu]; rw [← Nat.add_assoc]; exact c1
  · rw [hdm, h3] at hu ⊢
    rw [r2] at hu; rw [← hu]; rw [← Nat.add_assoc]; exact c2
theorem VersAt.newsAll {a : Option Addr} {vs : List Ver} (h : VersAt w a vs) : ∀ j u, (verRow vs)[j]? = some u → ∃ g off, a = some ⟨g, off, none⟩ ∧ w.cell? ⟨g, off + j, none⟩ = some u := by
  have := h.news vs.length
  rwa [List.take_length] at this
theorem verRow_one (vs : List Ver) : ∀ u, u ∈ verRow vs → u.oneCell' = true := by
  intro u hu
  obtain ⟨v, _, hv⟩ := List.mem_flatMap.1 hu
  simp [verCells] at hv
  rcases hv with rfl | rfl | rfl <;> rfl
theorem VersAt.none {vs : List Ver} (h : VersAt w none vs) : vs = [] := by
  cases vs with
  | nil => rfl
  | cons v vs => obtain ⟨b, off, e, _⟩ := h.2 0 v rfl; cases e

theorem vcut_take (t : Int) (vs : List Ver) : vcut t vs = vs.take (min (vidx t vs + 1) vs.length) := by
  induction vs with
  | nil => rfl
  | cons v vs ih =>
    unfold vcut vidx
    by_cases h : vis t v = true
    · rw [if_pos h, if_pos h]
      simp [show min 1 (vs.length + 1) = 1 by omega]
    · rw [if_neg h, if_neg h, ih]
      rw [List.length_cons, show min (vidx t vs + 1 + 1) (vs.length + 1) = min (vidx t vs + 1) vs.length + 1 by omega]
      rfl
theorem vcut_vcut {a b : Int} (h : a ≤ b) (vs : List Ver) : vcut b (vcut a vs) = vcut b vs := by
  induction vs with
  | nil => rfl
  | cons v vs ih =>
    by_cases h1 : vis a v = true
    · have h2 : vis b v = true := by
        have : v.st ≠ 0 ∧ v.st ≤ a := by simpa [vis] using h1
        simp [vis]; omega
      simp [vcut, h1, h2]
    · by_cases h2 : vis b v = true
      · simp [vcut, h1, h2]
      · simp [vcut, h1, h2, ih]
theorem vdead_vcut {a b : Int} (vs : List Ver) : vdead b (vcut a vs) = vdead b vs := by
  cases vs with
  | nil => rfl
  | cons v vs =>
    by_cases h1 : vis a v = true <;> simp [vcut, h1, vdead]
end

section
variable {K : Know} {w : World} {F : List Comp}
set_option maxHeartbeats 1000000 in
theorem cutRef_st {av : Option Addr} {cap : Nat} {vs : List Ver} (t : Int) (hcap : vs.length ≤ cap) (hs : St K w F) (hv : VersAt w av vs) :
    Calls Try.prog 59 #[.slice av vs.length cap, .int .u64 t] w fun e w' => ∃ va, e = .returned va ∧ St K w' (rowC va 69 3 (vcut t vs).length (verRow (vcut t vs)) :: F) := by
  have hlen := hv.1
  have q := fun w' (hb : Below w.heap.size w w') => first_any (cap := cap) t w' (hv.same hb)
  have hk : min (vidx t vs + 1) vs.length = (vcut t vs).length := by rw [vcut_take, List.length_take]; omega
  have hnews := fun w' (hb : Below w.heap.size w w') => (hv.same hb).news (min (vidx t vs + 1) vs.length)
  rw [← vcut_take] at hnews
  have hnone : av = none → (vcut t vs).length = 0 := fun e => by subst e; rw [hv.none]; rfl
  have hle := vidx_le t vs
  obtain ⟨k, hk'⟩ : ∃ k, k = (vcut t vs).length := ⟨_, rfl⟩
  obtain ⟨n, hn⟩ : ∃ n, n = vs.length := ⟨_, rfl⟩
  obtain ⟨i, hi⟩ : ∃ i, i = vidx t vs := ⟨_, rfl⟩
  obtain ⟨news, hne⟩ : ∃ news, news = verRow (vcut t vs) := ⟨_, rfl⟩
  have hl : news.length = k * 3 := by rw [hne, hk', verRow_length]
  have h1 : ∀ u, u ∈ news → u.oneCell' = true := by rw [hne]; exact verRow_one _
  rw [← hne] at hnews ⊢
  rw [← hk'] at hk hnone ⊢
  rw [← hi, ← hn] at hk
  rw [← hi, ← hn] at hle
  rw [← hn] at hlen hcap ⊢
  simp only [← hn, ← hi] at q
  have Q := Lib.hid q
  have Hn := Lib.hid hnews
  have Hl := Lib.hid hl
  have H1 := Lib.hid h1
  have Ho := Lib.hid hnone
  have hs := hs.row_nil (T := 69) (size := 3)
  obtain ⟨iv, hiv0, hiv1, hiv2, hiv3⟩ := info_parts infoVer
  clear q hnews hnone hl h1 hk' hn hi hne hv
  have hk2 : k ≤ 1000000000 := by omega
  by_cases h : i + 1 ≤ n
  · have hm : (i : Int) + 1 ≤ (n : Int) := by omega
    obtain rfl : k = i + 1 := by omega
    have hb : 0 ≤ (i : Int) + 1 ∧ (i : Int) + 1 ≤ (cap : Int) := by omega
    go_enter Try.func59, Try.ntmps59
    go_wp2_with fail
    refine (Q.out _ (Below.refl _ _)).mono ?_
    rintro e w1 ⟨rfl, rfl⟩
    clear Q
    go_wp2_with (at_builtin; refine append_row_st _ _ 58 69 _ 0 (i + 1) _ 3 32 [] news (.agg #[.int .u64 0, .string ⟨#[]⟩, .bool false]) iv av hs rfl rfl Try.underlying58 hiv0 hiv1 hiv2 hiv3 rfl (by decide) rfl rfl Hl.out Ho.out (Hn.out _ (Below.refl _ _)) H1.out (by omega) (by decide) ?_)
    intro v' w' hs
    go_wp2
    go_ret
    exact ⟨_, rfl, hs⟩
  · have hm : ¬(i : Int) + 1 ≤ (n : Int) := by omega
    obtain rfl : k = n := by omega
    have hb : k ≤ cap := by omega
    go_enter Try.func59, Try.ntmps59
    go_wp2_with fail
    refine (Q.out _ (Below.refl _ _)).mono ?_
    rintro e w1 ⟨rfl, rfl⟩
    clear Q
    go_wp2_with (at_builtin; refine append_row_st _ _ 58 69 _ 0 k _ 3 32 [] news (.agg #[.int .u64 0, .string ⟨#[]⟩, .bool false]) iv av hs rfl rfl Try.underlying58 hiv0 hiv1 hiv2 hiv3 rfl (by decide) rfl rfl Hl.out Ho.out (Hn.out _ (Below.refl _ _)) H1.out (by omega) (by decide) ?_)
    intro v' w' hs
    go_wp2
    go_ret
    exact ⟨_, rfl, hs⟩

theorem deadRef_any {av : Option Addr} {cap : Nat} {vs : List Ver} (t : Int) (h : VersAt w av vs) : Calls Try.prog 61 #[.slice av vs.length cap, .int .u64 t] w fun e w' => e = .returned (.bool (vdead t vs)) ∧ w = w' := by
  have hlen := h.1
  have q := first_any (cap := cap) t w h
  cases vs with
  | nil =>
    clear q h
    go_enter Try.func61, Try.ntmps61
    go_wp2
    go_ret
    exact ⟨rfl, rfl⟩
  | cons v vs =>
    obtain ⟨b, off, rfl, hb, c0, c1, c2⟩ := h.2 0 v rfl
    clear h
    have hn : ((vs.length : Int) + 1 == 0) = false := by simp; omega
    rw [List.length_cons] at q hlen ⊢
    generalize vs.length = n at *
    cases hv : vis t v with
    | true =>
      have e1 : vidx t (v :: vs) = 0 := by unfold vidx; rw [if_pos hv]
      have e2 : vdead t (v :: vs) = v.del := by simp [vdead, hv]
      rw [e1] at q
      rw [e2]
      have Q := Lib.hid q
      clear q e1 e2 hv
      go_enter Try.func61, Try.ntmps61
      go_wp2_with fail
      refine (Q.out).mono ?_
      rintro e w1 ⟨rfl, rfl⟩
      go_wp2
      go_ret
      exact ⟨rfl, rfl⟩
    | false =>
      have e1 : vidx t (v :: vs) = vidx t vs + 1 := by conv => lhs; unfold vidx
                                                       rw [if_neg (by simp [hv])]
      have e2 : vdead t (v :: vs) = false := by simp [vdead, hv]
      rw [e1] at q
      rw [e2]
      generalize vidx t vs = i at *
      have h0 : (((i + 1 : Nat) : Int) == 0) = false := by simp; omega
      have Q := Lib.hid q
      clear q e1 e2 hv
      go_enter Try.func61, Try.ntmps61
      go_wp2_with fail
      refine (Q.out).mono ?_
      rintro e w1 ⟨rfl, rfl⟩
      go_wp2
      go_ret
      exact ⟨rfl, rfl⟩
end
end Go.Proofs.Ytfgjanponijkhaa
