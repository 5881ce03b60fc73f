
/- The order of keys; keys.Compare, keys.Within; page.Find, page.Child, page.Below. Short separators of keys. -/
import Derived.Test.YtlpdhhhgckpcfaaGreatNodeB
namespace Go.Proofs.YtlpdhhhgckpcfaaGreat
open Go.RowKit
set_option maxRecDepth 100000

/-- a < b. -/
abbrev klt (a b : ByteArray) : Bool := Op.bytesLess a.toList b.toList
theorem bl_irrefl : ∀ x : List UInt8, Op.bytesLess x x = false
  | [] => rfl
  | a :: x => by simp [Op.bytesLess, bl_irrefl x]
theorem bl_trans : ∀ x y z : List UInt8, Op.bytesLess x y = true → Op.bytesLess y z = true → Op.bytesLess x z = true
  | _, [], _, h, _ => by cases ‹List UInt8› <;> simp [Op.bytesLess] at h
  | _, _ :: _, [], _, h => by simp [Op.bytesLess] at h
  | [], _ :: _, _ :: _, _, _ => rfl
  | a :: x, b :: y, c :: z, h, k => by
    simp only [Op.bytesLess, Bool.or_eq_true, decide_eq_true_eq, Bool.and_eq_true, beq_iff_eq] at h k ⊢
    have ih := bl_trans x y z
    rcases h with h | ⟨rfl, h⟩
    · rcases k with k | ⟨rfl, k⟩
      · left; exact UInt8.lt_trans h k
      · left; exact h
    · rcases k with k | ⟨rfl, k⟩
      · left; exact k
      · right; exact ⟨rfl, ih h k⟩
theorem bl_total : ∀ x y : List UInt8, Op.bytesLess x y = false → Op.bytesLess y x = false → x = y
  | [], [], _, _ => rfl
  | [], _ :: _, h, _ => by simp [Op.bytesLess] at h
  | _ :: _, [], _, h => by simp [Op.bytesLess] at h
  | a :: x, b :: y, h, k => by
    simp only [Op.bytesLess, Bool.or_eq_false_iff, decide_eq_false_iff_not, Bool.and_eq_false_iff, beq_eq_false_iff_ne, ne_eq] at h k
    have hab : a = b := UInt8.le_antisymm (UInt8.not_lt.1 k.1) (UInt8.not_lt.1 h.1)
    subst hab
    rw [bl_total x y (by simpa using h.2) (by simpa using k.2)]
theorem klt_irrefl (a : ByteArray) : klt a a = false := bl_irrefl _
theorem klt_trans {a b c : ByteArray} (h : klt a b = true) (k : klt b c = true) : klt a c = true := bl_trans _ _ _ h k
theorem klt_asymm {a b : ByteArray} (h : klt a b = true) : klt b a = false := by
  cases e : klt b a with
  | false => rfl
  | true => have := klt_trans h e; rw [klt_irrefl] at this; cases this
theorem key_ext {a b : ByteArray} (h : a.toList = b.toList) : a = b := by
  rw [ByteArray.toList_eq, ByteArray.toList_eq] at h
  exact ByteArray.ext (Array.ext' h)
theorem klt_total {a b : ByteArray} (h : klt a b = false) (k : klt b a = false) : a = b := key_ext (bl_total _ _ h k)
theorem klt_ne {a b : ByteArray} (h : klt a b = true) : a ≠ b := fun e => by subst e; rw [klt_irrefl] at h; cases h
/-- not a < b, b < c: .. -/
theorem klt_le_lt {a b c : ByteArray} (h : klt b a = false) (k : klt b c = true) : klt a c = true := by
  cases e : klt a b with
  | true => exact klt_trans e k
  | false => rw [klt_total e h]; exact k
theorem klt_lt_le {a b c : ByteArray} (h : klt a b = true) (k : klt c b = false) : klt a c = true := by
  cases e : klt b c with
  | true => exact klt_trans h e
  | false => rw [← klt_total e k]; exact h
theorem klt_le_trans {a b c : ByteArray} (h : klt b a = false) (k : klt c b = false) : klt c a = false := by
  cases e : klt c a with
  | false => rfl
  | true => have := klt_lt_le e h; rw [k] at this; cases this
theorem klt_empty (a : ByteArray) : klt a ⟨#[]⟩ = false := by
  unfold klt
  have : (⟨#[]⟩ : ByteArray).toList = [] := by rw [ByteArray.toList_eq]
  rw [this]
  cases a.toList <;> rfl

theorem key_eq_false {a b : ByteArray} (h : a ≠ b) : (a.toList == b.toList) = false := by
  rw [beq_eq_false_iff_ne]
  exact fun e => h (key_ext e)
theorem compare_any (a b : ByteArray) (w : World) : Calls Tryz.prog 160 #[.string a, .string b] w fun e w' => e = .returned (.int .i64 (if klt a b then -1 else if klt b a then 1 else 0)) ∧ w = w' := by
  go_enter Tryz.func160, Tryz.ntmps160
  cases h : klt a b with
  | true =>
    go_wp2
    go_ret
    exact ⟨rfl, rfl⟩
  | false =>
    cases h2 : klt b a with
    | true =>
      have h3 := key_eq_false (klt_ne h2).symm
      go_wp2
      go_ret
      exact ⟨rfl, rfl⟩
    | false =>
      obtain rfl := klt_total h h2
      have h3 : (a.toList == a.toList) = true := beq_self_eq_true _
      go_wp2
      go_ret
      exact ⟨rfl, rfl⟩
theorem within_any (key low high : ByteArray) (last : Bool) (w : World) : Calls Tryz.prog 138 #[.string key, .string low, .string high, .bool last] w fun e w' => e = .returned (.bool (!klt key low && (last || klt key high))) ∧ w = w' := by
  go_enter Tryz.func138, Tryz.ntmps138
  cases h : klt key low <;> cases h2 : last <;> cases h3 : klt key high <;> go_wp2 <;> go_ret <;> exact ⟨rfl, rfl⟩

/-- Strictly ascending keys. -/
def Asc (l : List Sl) : Prop := l.Pairwise fun x y => klt x.k y.k = true
/-- The number of lesser keys. -/
def loK (l : List Sl) (key : ByteArray) : Nat := l.countP fun s => klt s.k key
/-- The number of keys that are not greater. -/
def hiK (l : List Sl) (key : ByteArray) : Nat := l.countP fun s => !klt key s.k
theorem loK_le (l : List Sl) (key : ByteArray) : loK l key ≤ l.length := List.countP_le_length
theorem hiK_le (l : List Sl) (key : ByteArray) : hiK l key ≤ l.length := List.countP_le_length
theorem loK_iff {key : ByteArray} : ∀ {l : List Sl}, Asc l → ∀ {i : Nat} {s : Sl}, l[i]? = some s → (klt s.k key = true ↔ i < loK l key)
  | [], _, i, s, h => by simp at h
  | a :: l, h, i, s, hs => by
    have h' := List.pairwise_cons.1 h
    cases ha : klt a.k key with
    | true =>
      have e : loK (a :: l) key = loK l key + 1 := by simp [loK, ha]
      rw [e]
      cases i with
      | zero => simp at hs; subst hs; simp [ha]
      | succ i => rw [loK_iff h'.2 (by simpa using hs)]; omega
    | false =>
      have e : loK (a :: l) key = 0 := by
        unfold loK
        rw [List.countP_eq_zero]
        intro x hx
        rcases List.mem_cons.1 hx with rfl | hx
        · simp [ha]
        · have h1 := h'.1 x hx
          cases hxk : klt x.k key with
          | false => simp
          | true => have := klt_trans h1 hxk; rw [ha] at this; cases this
      rw [e]
      have : klt s.k key = false := by
        cases i with
        | zero => simp at hs; subst hs; exact ha
        | succ i =>
          have h1 := h'.1 s (List.mem_of_getElem? (by simpa using hs))
          cases hxk : klt s.k key with
          | false => rfl
          | true => have := klt_trans h1 hxk; rw [ha] at this; cases this
      simp [this]
theorem hiK_iff {key : ByteArray} : ∀ {l : List Sl}, Asc l → ∀ {i : Nat} {s : Sl}, l[i]? = some s → (klt key s.k = false ↔ i < hiK l key)
  | [], _, i, s, h => by simp at h
  | a :: l, h, i, s, hs => by
    have h' := List.pairwise_cons.1 h
    cases ha : klt key a.k with
    | false =>
      have e : hiK (a :: l) key = hiK l key + 1 := by simp [hiK, ha]
      rw [e]
      cases i with
      | zero => simp at hs; subst hs; simp [ha]
      | succ i => rw [hiK_iff h'.2 (by simpa using hs)]; omega
    | true =>
      have e : hiK (a :: l) key = 0 := by
        unfold hiK
        rw [List.countP_eq_zero]
        intro x hx
        rcases List.mem_cons.1 hx with rfl | hx
        · simp [ha]
        · simp [klt_trans ha (h'.1 x hx)]
      rw [e]
      have : klt key s.k = true := by
        cases i with
        | zero => simp at hs; subst hs; exact ha
        | succ i => exact klt_trans ha (h'.1 s (List.mem_of_getElem? (by simpa using hs)))
      simp [this]
/-- A key is there, or is not. -/
theorem loK_hiK {key : ByteArray} {l : List Sl} (h : Asc l) : hiK l key = loK l key ∨ (hiK l key = loK l key + 1 ∧ ∃ s, l[loK l key]? = some s ∧ s.k = key) := by
  have h1 := loK_le l key
  have h2 := hiK_le l key
  have le : loK l key ≤ hiK l key := by
    rcases Nat.lt_or_ge (hiK l key) (loK l key) with h3 | h3
    · obtain ⟨s, hs⟩ : ∃ s, l[hiK l key]? = some s := ⟨_, List.getElem?_eq_getElem (by omega)⟩
      have a := (loK_iff h hs).2 h3
      have b := mt (hiK_iff (key := key) h hs).1 (by omega)
      rw [klt_asymm a] at b; simp at b
    · exact h3
  rcases Nat.lt_or_ge (loK l key) (hiK l key) with h3 | h3
  · right
    have one : ∀ i, loK l key ≤ i → i < hiK l key → ∃ s, l[i]? = some s ∧ s.k = key := by
      intro i hi hi2
      obtain ⟨s, hs⟩ : ∃ s, l[i]? = some s := ⟨_, List.getElem?_eq_getElem (by omega)⟩
      have a := mt (loK_iff (key := key) h hs).1 (by omega)
      have b := (hiK_iff h hs).2 hi2
      exact ⟨s, hs, klt_total (by simpa using a) b⟩
    refine ⟨?_, one _ (Nat.le_refl _) h3⟩
    rcases Nat.lt_or_ge (loK l key + 1) (hiK l key) with h4 | h4
    · obtain ⟨s, hs, e⟩ := one _ (Nat.le_refl _) h3
      obtain ⟨s', hs', e'⟩ := one (loK l key + 1) (by omega) h4
      have := List.pairwise_iff_getElem.1 h _ _ (List.getElem?_eq_some_iff.1 hs).1 (List.getElem?_eq_some_iff.1 hs').1 (by omega)
      rw [(List.getElem?_eq_some_iff.1 hs).2, (List.getElem?_eq_some_iff.1 hs').2, e, e', klt_irrefl] at this
      cases this
    · omega
  · left; omega

theorem cmp_any (s : Sl) (key : ByteArray) (w : World) : Calls Tryz.prog 159 #[.agg #[.string s.k, .int .u64 s.r], .string key] w fun e w' => e = .returned (.int .i64 (if klt s.k key then -1 else if klt key s.k then 1 else 0)) ∧ Below w.heap.size w w' := by
  have hs := (St.start w).made (.cells #[.string s.k, .int .u64 s.r] 69)
  have Q := Lib.hid (fun w => compare_any s.k key w)
  generalize (if klt s.k key then (-1 : Int) else if klt key s.k then 1 else 0) = r at *
  go_enter Tryz.func159, Tryz.ntmps159
  go_wp2_with fail
  refine (Q.out _).mono ?_
  rintro e w1 ⟨rfl, rfl⟩
  go_wp2
  go_ret
  exact ⟨rfl, hs.below (Know.Le.refl _)⟩

section
variable {a : Option Addr} {cap : Nat} {l : List Sl} {key : ByteArray}
set_option maxHeartbeats 4000000 in
theorem search_any (w : World) (h : SlAt w a l) (hasc : Asc l) :
    Calls Tryz.prog 158 #[.slice a l.length cap, .string key, .func (.func 159) #[] #[]] w fun e w' => e = .returned (.tuple #[.int .i64 (loK l key), .bool (decide (loK l key < hiK l key))]) ∧ Below w.heap.size w w' := by
  obtain ⟨n, hn⟩ : ∃ n, n = l.length := ⟨_, rfl⟩
  obtain ⟨m, hm⟩ : ∃ m, m = loK l key := ⟨_, rfl⟩
  have hmn : m ≤ n := by rw [hm, hn]; exact loK_le _ _
  have hl := h.1
  rw [← hn] at hl ⊢
  have Hc : Hid (∀ i, i < n → ∃ (s : Sl) (b off : Nat), a = some ⟨b, off, none⟩ ∧ b < w.heap.size ∧ w.cell? ⟨b, off + i * 2, none⟩ = some (.string s.k) ∧ w.cell? ⟨b, off + i * 2 + 1, none⟩ = some (.int .u64 s.r) ∧ (klt s.k key = true ↔ i < m) ∧ (klt key s.k = false ↔ i < hiK l key)) := Lib.hid (by
    intro i hi
    obtain ⟨s, hs⟩ : ∃ s, l[i]? = some s := ⟨_, List.getElem?_eq_getElem (by omega)⟩
    obtain ⟨b, off, e, hlt, c0, c1⟩ := h.2 i s hs
    exact ⟨s, b, off, e, hlt, c0, c1, by rw [hm]; exact loK_iff hasc hs, hiK_iff hasc hs⟩)
  have Hhi : Hid (hiK l key ≤ n ∧ m ≤ hiK l key) := Lib.hid ⟨by rw [hn]; exact hiK_le _ _, by have := loK_hiK (key := key) hasc; omega⟩
  rw [← hm]
  generalize hiK l key = m2 at *
  have hs := St.start w
  clear h hn hm hasc
  go_enter Tryz.func158, Tryz.ntmps158
  go_wp2
  go_loopw [9, 10, 11] (fun v9 v10 v11 wr => ∃ (i j : Nat), v9 = .int .i64 i ∧ v10 = .int .i64 j ∧ i ≤ m ∧ m ≤ j ∧ j ≤ n ∧ St (Know.of w) wr []) (fun v9 v10 _ _ => (intOf v10).toNat - (intOf v9).toNat)
  case atStart => exact ⟨0, n, rfl, rfl, by omega, hmn, by omega, hs⟩
  case round =>
    clear hs
    obtain ⟨i, j, rfl, rfl, hi, hj, hjn, hs⟩ := hrel
    by_cases hij : i < j
    · go_upto_region 5 with (fail)
      obtain ⟨k, hk⟩ : ∃ k : Nat, k = (i + j) / 2 := ⟨_, rfl⟩
      have hk1 : ((i : Int) + j) / 2 = k := by omega
      have hkj : k < j := by omega
      have hik : i ≤ k := by omega
      obtain ⟨s, b, off, rfl, hlt, c0, c1, hlo, _⟩ := Hc.out k (by omega)
      have hb := hs.below (Know.Le.refl _)
      rw [← hb.cell (p := ⟨b, _, none⟩) hlt] at c0 c1
      have Q := Lib.hid (fun w => cmp_any s key w)
      have Hlo := Lib.hid hlo
      clear hlo hb
      rw [hk1]
      have Hk := Lib.hid hk
      clear hk hk1
      have hkn : k < n := by omega
      cases hx : klt s.k key with
      | true =>
        have hkm := Hlo.out.1 hx
        go_wp2_with fail
        refine (Q.out _).mono ?_
        rw [hx]
        rintro e w2 ⟨rfl, hb2⟩
        have hs := hs.same hb2
        clear c0 c1 hb2
        go_wp2
        go_roundw
        case rel => exact ⟨k + 1, j, by go_num, rfl, by omega, hj, hjn, hs⟩
        case measure => simp [intOf]; have := Hk.out; omega
      | false =>
        have hkm : m ≤ k := by
          have := mt Hlo.out.2 (by rw [hx]; simp)
          omega
        have Q2 : Hid (∃ r : Int, (r = 0 ∨ r = 1) ∧ ∀ w, Calls Tryz.prog 159 #[.agg #[.string s.k, .int .u64 s.r], .string key] w fun e w' => e = .returned (.int .i64 r) ∧ Below w.heap.size w w') := Lib.hid (by
          cases hy : klt key s.k with
          | true => exact ⟨1, .inr rfl, fun w => by have := Q.out w; rw [hx, hy] at this; exact this⟩
          | false => exact ⟨0, .inl rfl, fun w => by have := Q.out w; rw [hx, hy] at this; exact this⟩)
        clear hx Q
        obtain ⟨r, hr, q⟩ := Q2.out
        have hr0 : ¬ r < 0 := by omega
        have Q := Lib.hid q
        clear q hr Q2
        go_wp2_with fail
        refine (Q.out _).mono ?_
        rintro e w2 ⟨rfl, hb2⟩
        have hs := hs.same hb2
        clear c0 c1 hb2
        go_wp2
        go_roundw
        case rel => exact ⟨i, k, rfl, by go_num, hi, hkm, by omega, hs⟩
        case measure => simp [intOf]; have := Hk.out; omega
    · obtain rfl : i = m := by omega
      by_cases hin : i < n
      · obtain ⟨s, b, off, rfl, hlt, c0, c1, hlo, hhi⟩ := Hc.out i hin
        have hb := hs.below (Know.Le.refl _)
        rw [← hb.cell (p := ⟨b, _, none⟩) hlt] at c0 c1
        have hf : klt s.k key = false := by
          cases hx : klt s.k key with
          | true => have := hlo.1 hx; omega
          | false => rfl
        have Q2 : Hid (∃ r : Int, (r == 0) = decide (i < m2) ∧ ∀ w, Calls Tryz.prog 159 #[.agg #[.string s.k, .int .u64 s.r], .string key] w fun e w' => e = .returned (.int .i64 r) ∧ Below w.heap.size w w') := Lib.hid (by
          cases hy : klt key s.k with
          | true =>
            refine ⟨1, ?_, fun w => by have := cmp_any s key w; rw [hf, hy] at this; exact this⟩
            have := mt hhi.2 (by rw [hy]; simp)
            rw [decide_eq_false this]; rfl
          | false =>
            refine ⟨0, ?_, fun w => by have := cmp_any s key w; rw [hf, hy] at this; exact this⟩
            rw [decide_eq_true (hhi.1 hy)]; rfl)
        clear hlo hhi hb hf
        obtain ⟨r, hr, q⟩ := Q2.out
        have Hr := Lib.hid hr
        have Q := Lib.hid q
        clear q hr Q2
        go_wp2_with fail
        refine (Q.out _).mono ?_
        rintro e w2 ⟨rfl, hb2⟩
        have hs := hs.same hb2
        clear c0 c1 hb2
        go_wp2
        go_ret2
        exact ⟨by rw [← Hr.out]; rfl, hs.below (Know.Le.refl _)⟩
      · have h2 := Hhi.out
        have e : decide (i < m2) = false := decide_eq_false (by omega)
        go_wp2
        go_ret2
        exact ⟨by rw [e]; rfl, hs.below (Know.Le.refl _)⟩

theorem find_any (w : World) {pg : Pg} (h : SlAt w a pg.sl) (hasc : Asc pg.sl) :
    Calls Tryz.prog 131 #[.agg #[.int .i64 (pg).lev, (.slice a pg.sl.length cap), .string (pg).hi, .bool (pg).la, .int .u64 (pg).ri], .string key] w fun e w' => e = .returned (.tuple #[.int .i64 (loK pg.sl key), .bool (decide (loK pg.sl key < hiK pg.sl key))]) ∧ Below w.heap.size w w' := by
  have hs := (St.start w).made (.cells #[.int .i64 pg.lev, .slice a pg.sl.length cap, .string pg.hi, .bool pg.la, .int .u64 pg.ri] 43)
  have Q := Lib.hid (search_any (cap := cap) (key := key) _ (h.same (hs.below (Know.Le.refl _))) hasc)
  obtain ⟨n, hn⟩ : ∃ n, n = pg.sl.length := ⟨_, rfl⟩
  rw [← hn] at Q hs ⊢
  clear hn
  generalize loK pg.sl key = m at *
  generalize hiK pg.sl key = m2 at *
  go_enter Tryz.func131, Tryz.ntmps131
  go_wp2_with fail
  refine (Q.out).mono ?_
  rintro e w1 ⟨rfl, hb⟩
  go_wp2
  go_ret2
  exact ⟨rfl, (hs.same hb).below (Know.Le.refl _)⟩
/-- The slot with a number. -/
def slOpt (l : List Sl) (i : Int) : Option Sl := if i < 0 then none else l[i.toNat]?
def slVal : Option Sl → Value
  | some s => .agg #[.string s.k, .int .u64 s.r]
  | none => .agg #[.string ⟨#[]⟩, .int .u64 0]
theorem at_res (tmps : Array Value) (w : World) (b : Nat) (v0 v1 u : Value) (hp : tmps[4]? = some (.pointer (some ⟨b, 0, none⟩))) (hq : tmps[5]? = some u) (hk : ∀ k, w.cell? ⟨b, k, none⟩ = (#[v0, v1] : Array Value)[k]?) :
    (results Tryz.f168 tmps).run Tryz.prog w = .ok (.tuple #[.agg #[v0, v1], u]) w := by
  simp [results, Tryz.results168, go_sem, hp, hq, hk]
theorem child_res (tmps : Array Value) (w : World) (b : Nat) (v0 v1 u : Value) (hp : tmps[4]? = some (.pointer (some ⟨b, 0, none⟩))) (hq : tmps[5]? = some u) (hk : ∀ k, w.cell? ⟨b, k, none⟩ = (#[v0, v1] : Array Value)[k]?) :
    (results Tryz.f140 tmps).run Tryz.prog w = .ok (.tuple #[.agg #[v0, v1], u]) w := by
  simp [results, Tryz.results140, go_sem, hp, hq, hk]
set_option maxHeartbeats 1000000 in
theorem pageAt_any (w : World) {pg : Pg} {i : Int} (hi : i < pg.sl.length) (hi0 : -2 < i) (h : SlAt w a pg.sl) :
    Calls Tryz.prog 168 #[.agg #[.int .i64 (pg).lev, (.slice a pg.sl.length cap), .string (pg).hi, .bool (pg).la, .int .u64 (pg).ri], .int .i64 i] w fun e w' => e = .returned (.tuple #[slVal (slOpt pg.sl i), .bool (slOpt pg.sl i).isSome]) ∧ Below w.heap.size w w' := by
  have hs := (St.start w).made (.cells #[.int .i64 pg.lev, .slice a pg.sl.length cap, .string pg.hi, .bool pg.la, .int .u64 pg.ri] 43)
  obtain ⟨n, hn⟩ : ∃ n, n = pg.sl.length := ⟨_, rfl⟩
  have hl := h.1
  by_cases h0 : i < 0
  · have e : slOpt pg.sl i = none := by unfold slOpt; rw [if_pos h0]
    rw [e]
    rw [← hn] at hs ⊢
    clear hn h e
    have hs := hs.made (.cells #[.string ⟨#[]⟩, .int .u64 0] 69)
    simp only [World.size_alloc] at hs
    go_enter Tryz.func168, Tryz.ntmps168
    go_wp2
    refine bodyPost_ret (at_res _ _ (w.heap.size + 1) _ _ _ rfl rfl hs.k0) rfl ⟨rfl, hs.below (Know.Le.refl _)⟩
  · obtain ⟨k, rfl⟩ : ∃ k : Nat, i = k := ⟨i.toNat, by omega⟩
    obtain ⟨s, hsl⟩ : ∃ s, pg.sl[k]? = some s := ⟨_, List.getElem?_eq_getElem (by omega)⟩
    have e : slOpt pg.sl k = some s := by unfold slOpt; rw [if_neg h0]; exact hsl
    rw [e]
    obtain ⟨b, off, rfl, hlt, c0, c1⟩ := h.2 k s hsl
    rw [← hn] at hs hi hl ⊢
    clear hn h e hsl
    have hs := hs.made (.cells #[.string s.k, .int .u64 s.r] 69)
    simp only [World.size_alloc] at hs
    go_enter Tryz.func168, Tryz.ntmps168
    go_wp2
    refine bodyPost_ret (at_res _ _ (w.heap.size + 1) _ _ _ rfl rfl hs.k0) rfl ⟨rfl, hs.below (Know.Le.refl _)⟩
set_option maxHeartbeats 1000000 in
theorem child_any (w : World) {pg : Pg} (h : SlAt w a pg.sl) (hasc : Asc pg.sl) :
    Calls Tryz.prog 140 #[.agg #[.int .i64 (pg).lev, (.slice a pg.sl.length cap), .string (pg).hi, .bool (pg).la, .int .u64 (pg).ri], .string key] w fun e w' => e = .returned (.tuple #[slVal (slOpt pg.sl ((hiK pg.sl key : Int) - 1)), .bool (slOpt pg.sl ((hiK pg.sl key : Int) - 1)).isSome]) ∧ Below w.heap.size w w' := by
  have hs := (St.start w).made (.cells #[.int .i64 pg.lev, .slice a pg.sl.length cap, .string pg.hi, .bool pg.la, .int .u64 pg.ri] 43)
  have hs := hs.made (.cells #[.string ⟨#[]⟩, .int .u64 0] 69)
  simp only [World.size_alloc] at hs
  have hl := h.1
  have Q := Lib.hid (fun W (hb : Below w.heap.size w W) => find_any (cap := cap) (key := key) W (h.same hb) hasc)
  have h1 := hiK_le pg.sl key
  have hh := loK_hiK (key := key) hasc
  have Q2 := Lib.hid (fun W (hb : Below w.heap.size w W) => pageAt_any (cap := cap) (i := (hiK pg.sl key : Int) - 1) W (by omega) (by omega) (h.same hb))
  generalize slOpt pg.sl ((hiK pg.sl key : Int) - 1) = so at *
  obtain ⟨m2, hm2⟩ : ∃ m, m = hiK pg.sl key := ⟨_, rfl⟩
  obtain ⟨m, hm⟩ : ∃ m, m = loK pg.sl key := ⟨_, rfl⟩
  obtain ⟨n, hn⟩ : ∃ n, n = pg.sl.length := ⟨_, rfl⟩
  rw [← hm2, ← hm, ← hn] at Q
  rw [← hm2, ← hn] at Q2 h1
  rw [← hm2, ← hm] at hh
  rw [← hn] at hs hl ⊢
  have hle : m ≤ m2 ∧ m2 ≤ m + 1 := by rcases hh with h | ⟨h, _⟩ <;> omega
  clear hm hm2 hn h hasc hh
  obtain ⟨hle1, hle2⟩ := hle
  go_enter Tryz.func140, Tryz.ntmps140
  go_wp2_with fail
  refine (Q.out _ (hs.below (Know.Le.refl _))).mono ?_
  rintro e w1 ⟨rfl, hb⟩
  have hs := hs.same hb
  clear hb Q
  have k1 := hs.k1
  by_cases hlt : m < m2
  · obtain rfl : m2 = m + 1 := by omega
    rw [show ((m + 1 : Nat) : Int) - 1 = m by omega] at Q2
    go_wp2_with fail
    refine (Q2.out _ (hs.below (Know.Le.refl _))).mono ?_
    rintro e w2 ⟨rfl, hb⟩
    have hs := hs.same hb
    clear hb Q2 k1
    have k0 := hs.k0
    have f0 := hs.f0
    cases so with
    | none =>
      have hs := (hs.setL 0 (.string ⟨#[]⟩)).setL 1 (.int .u64 0)
      simp only [List.set_cons_zero, List.set_cons_succ] at hs
      simp only [slVal]
      go_wp2
      refine bodyPost_ret (child_res _ _ (w.heap.size + 1) _ _ _ rfl rfl hs.k0) rfl ⟨rfl, hs.below (Know.Le.refl _)⟩
    | some s =>
      have hs := (hs.setL 0 (.string s.k)).setL 1 (.int .u64 s.r)
      simp only [List.set_cons_zero, List.set_cons_succ] at hs
      simp only [slVal]
      go_wp2
      refine bodyPost_ret (child_res _ _ (w.heap.size + 1) _ _ _ rfl rfl hs.k0) rfl ⟨rfl, hs.below (Know.Le.refl _)⟩
  · obtain rfl : m2 = m := by omega
    go_wp2_with fail
    refine (Q2.out _ (hs.below (Know.Le.refl _))).mono ?_
    rintro e w2 ⟨rfl, hb⟩
    have hs := hs.same hb
    clear hb Q2 k1
    have k0 := hs.k0
    have f0 := hs.f0
    cases so with
    | none =>
      have hs := (hs.setL 0 (.string ⟨#[]⟩)).setL 1 (.int .u64 0)
      simp only [List.set_cons_zero, List.set_cons_succ] at hs
      simp only [slVal]
      go_wp2
      refine bodyPost_ret (child_res _ _ (w.heap.size + 1) _ _ _ rfl rfl hs.k0) rfl ⟨rfl, hs.below (Know.Le.refl _)⟩
    | some s =>
      have hs := (hs.setL 0 (.string s.k)).setL 1 (.int .u64 s.r)
      simp only [List.set_cons_zero, List.set_cons_succ] at hs
      simp only [slVal]
      go_wp2
      refine bodyPost_ret (child_res _ _ (w.heap.size + 1) _ _ _ rfl rfl hs.k0) rfl ⟨rfl, hs.below (Know.Le.refl _)⟩
end
end Go.Proofs.YtlpdhhhgckpcfaaGreat

namespace Go.Proofs.YtlpdhhhgckpcfaaGreat
open Go.RowKit
set_option maxRecDepth 100000
def sepFrom (a b : ByteArray) : Nat → Nat → ByteArray
  | 0, _ => ⟨#[]⟩
  | f + 1, n => if klt a (b.extract 0 n) then b.extract 0 n else sepFrom a b f (n + 1)
/-- The shortest prefix of b that is greater than a. -/
def sepK (a b : ByteArray) : ByteArray := sepFrom a b (b.size + 1) 0
theorem bl_prefix : ∀ (x : List UInt8) (n : Nat), Op.bytesLess x (x.take n) = false
  | [], n => by cases n <;> rfl
  | a :: x, 0 => rfl
  | a :: x, n + 1 => by simp [Op.bytesLess, bl_prefix x n]
theorem klt_prefix (b : ByteArray) (n : Nat) : klt b (b.extract 0 n) = false := by
  unfold klt
  rw [ByteArray.toList_eq, ByteArray.toList_eq, ByteArray.data_extract]
  have := bl_prefix b.data.toList n
  simpa using this
theorem extract_all (b : ByteArray) : b.extract 0 b.size = b := by
  apply ByteArray.ext
  rw [ByteArray.data_extract]
  exact Array.extract_size
theorem sepFrom_ok {a b : ByteArray} (h : klt a b = true) : ∀ (f n : Nat), n + f = b.size + 1 → 0 < f → klt a (sepFrom a b f n) = true ∧ klt b (sepFrom a b f n) = false
  | 0, n, _, h0 => by omega
  | f + 1, n, hn, _ => by
    unfold sepFrom
    split
    · rename_i hx
      exact ⟨hx, klt_prefix b n⟩
    · rename_i hx
      rcases Nat.eq_zero_or_pos f with h0 | h0
      · subst h0
        have : n = b.size := by omega
        subst this
        rw [extract_all] at hx
        exact absurd h hx
      · exact sepFrom_ok h f (n + 1) (by omega) h0
theorem sepK_ok {a b : ByteArray} (h : klt a b = true) : klt a (sepK a b) = true ∧ klt b (sepK a b) = false := sepFrom_ok h _ _ (by omega) (by omega)
set_option maxHeartbeats 1000000 in
theorem refSep_any (a b : ByteArray) (hb : b.size ≤ 1000000) (w : World) : Calls Tryz.prog 71 #[.string a, .string b] w fun e w' => e = .returned (.string (sepK a b)) ∧ w = w' := by
  obtain ⟨r, hr⟩ : ∃ r, r = sepK a b := ⟨_, rfl⟩
  rw [← hr]
  have Hr := Lib.hid hr
  clear hr
  go_enter Tryz.func71, Tryz.ntmps71
  go_wp2
  go_loopw [5] (fun v5 wr => ∃ n : Nat, v5 = .int .i64 n ∧ n ≤ b.size + 1 ∧ Hid (r = sepFrom a b (b.size + 1 - n) n) ∧ wr = w) (fun v5 _ => b.size + 1 - (intOf v5).toNat)
  case atStart => exact ⟨0, rfl, by omega, Lib.hid Hr.out, rfl⟩
  case round =>
    obtain ⟨n, rfl, hn, HR, rfl⟩ := hrel
    by_cases hlt : n ≤ b.size
    · have e : r = if klt a (b.extract 0 n) then b.extract 0 n else sepFrom a b (b.size + 1 - (n + 1)) (n + 1) := by
        rw [HR.out, show b.size + 1 - n = (b.size + 1 - (n + 1)) + 1 by omega]; rfl
      have hE := Lib.hid e
      clear e
      cases hx : klt a (b.extract 0 n) with
      | true =>
        rw [hx] at hE
        have h1 := klt_asymm hx
        have h3 := key_eq_false (klt_ne hx).symm
        go_wp2
        go_ret
        exact ⟨by rw [hE.out]; rfl, rfl⟩
      | false =>
        rw [hx] at hE
        have hE2 := Lib.hid (show r = sepFrom a b (b.size + 1 - (n + 1)) (n + 1) from hE.out)
        cases hy : klt (b.extract 0 n) a with
        | true =>
          go_wp2
          go_roundw
          case rel => exact ⟨n + 1, by go_num, by omega, hE2, trivial⟩
          case measure => simp [intOf]; omega
        | false =>
          have hz := klt_total hy hx
          have h3 : ((b.extract 0 n).toList == a.toList) = true := by rw [hz]; exact beq_self_eq_true _
          clear hz
          go_wp2
          go_roundw
          case rel => exact ⟨n + 1, by go_num, by omega, hE2, trivial⟩
          case measure => simp [intOf]; omega
    · obtain rfl : n = b.size + 1 := by omega
      rw [Nat.sub_self] at HR
      go_wp2
      go_ret
      exact ⟨by rw [HR.out]; rfl, rfl⟩
end Go.Proofs.YtlpdhhhgckpcfaaGreat
