/- blinktreekit.group: how slots are divided into nodes. -/
import Derived.Test.YtfgjanponijkhaaNode9
namespace Go.Proofs.Ytfgjanponijkhaa
open Go.RowKit
set_option maxRecDepth 100000
def inRow (l : List Nat) : List Value := l.map fun (p : Nat) => Value.int .i64 (p : Int)
theorem inRow_push (l : List Nat) (p : Nat) : inRow (l ++ [p]) = inRow l ++ [.int .i64 (p : Int)] := by simp [inRow]
theorem infoInt : (Try.prog.info? 3).map (fun i => (i.zero, i.size, i.bytes)) = some (some (.int .i64 0), 1, 8) := by kernel_rfl
/-- What group returns. -/
structure GroupOk (n least fa : Nat) (ps : List Nat) : Prop where
  sum : ps.sum = n
  bd : ∀ p, p ∈ ps → 1 ≤ p ∧ p ≤ fa
  len : ps.length * least ≤ n + (least - 1)
structure GroupI (n least fa r : Nat) (ps : List Nat) : Prop where
  sum : ps.sum + r = n
  bd : ∀ p, p ∈ ps → 1 ≤ p ∧ p ≤ fa
  len : ps.length * least ≤ ps.sum + (if r = 0 then least - 1 else 0)
theorem GroupI.step {n least fa r x : Nat} {ps : List Nat} (h : GroupI n least fa r ps) (hr : 0 < r) (hl : 1 ≤ least) (hx : least ≤ x) (hxf : x ≤ fa) : GroupI n least fa (r - min x r) (ps ++ [min x r]) := by
  have h1 := h.sum
  have h3 := h.len
  rw [if_neg (by omega)] at h3
  have e : (ps ++ [min x r]).sum = ps.sum + min x r := by simp
  refine ⟨by rw [e]; omega, fun p hp => ?_, ?_⟩
  · rcases List.mem_append.1 hp with hp | hp
    · exact h.bd p hp
    · simp at hp; omega
  · rw [e, List.length_append]
    simp only [List.length_cons, List.length_nil, Nat.add_mul, Nat.one_mul, Nat.zero_mul, Nat.zero_add]
    by_cases hm : x ≤ r
    · rw [Nat.min_eq_left hm]; omega
    · rw [Nat.min_eq_right (by omega), if_pos (by omega)]; omega
theorem GroupI.last {n least fa : Nat} {ps : List Nat} (h : GroupI n least fa 0 ps) : GroupOk n least fa ps := by
  have h1 := h.sum
  have h3 := h.len
  rw [if_pos rfl] at h3
  exact ⟨by omega, h.bd, by omega⟩
theorem u64wrap_bd (z : Int) : 0 ≤ IntKind.u64.wrap z ∧ IntKind.u64.wrap z < 18446744073709551616 := by
  rw [IntKind.wrap_u64]; omega
theorem wrap64_idn {z : Int} (h : 0 ≤ z) (h2 : z < 1000000) : wrap64 z = z := by unfold wrap64; omega
theorem sum_ge : ∀ {ps : List Nat}, (∀ p, p ∈ ps → 1 ≤ p) → ps.length ≤ ps.sum
  | [], _ => by simp
  | a :: l, h => by
    have h1 := h a (by simp)
    have h2 := sum_ge (ps := l) (fun p hp => h p (by simp [hp]))
    simp only [List.length_cons, List.sum_cons]; omega
section
variable {K : Know} {w : World} {F : List Comp} {n least fa : Nat} {sh : Int}
set_option maxHeartbeats 4000000 in
theorem group_st (hn : n ≤ 1000) (hl : 1 ≤ least ∧ least ≤ 2) (hf : least ≤ fa ∧ fa ≤ 32) (hsh : 0 ≤ sh ∧ sh < 18446744073709551616) (hs : St K w F) :
    Calls Try.prog 166 #[.int .i64 n, .int .i64 least, .int .i64 fa, .int .u64 sh] w fun e w' => ∃ (v : Value) (ps : List Nat), e = .returned v ∧ Hid (GroupOk n least fa ps) ∧ St K w' (rowC v 3 1 ps.length (inRow ps) :: F) := by
  obtain ⟨iv, hiv0, hiv1, hiv2, hiv3⟩ := info_parts infoInt
  have Hi0 := Lib.hid hiv0
  have Hi1 := Lib.hid hiv1
  have Hi2 := Lib.hid hiv2
  have Hi3 := Lib.hid hiv3
  clear hiv0 hiv1 hiv2 hiv3
  have hs := hs.row_nil (T := 3) (size := 1)
  go_enter Try.func166, Try.ntmps166
  go_wp2
  go_loopw [0, 3, 9, 10] (fun v0 v3 v9 _ wr => ∃ (r : Nat) (s : Int) (ps : List Nat) (ao : Option Addr) (co : Nat), v0 = .int .i64 r ∧ v3 = .int .u64 s ∧ v9 = .slice ao ps.length co ∧ r ≤ n ∧ 0 ≤ s ∧ s < 18446744073709551616 ∧ ps.length ≤ n ∧ Hid (GroupI n least fa r ps) ∧
    St K wr (rowC (.slice ao ps.length co) 3 1 ps.length (inRow ps) :: F)) (fun v0 _ _ _ _ => (intOf v0).toNat)
  case atStart => exact ⟨n, sh, [], none, 0, rfl, rfl, rfl, Nat.le_refl _, hsh.1, hsh.2, by simp, Lib.hid ⟨by simp, fun p h => (by cases h), by simp⟩, by simpa [inRow] using hs⟩
  case round =>
    clear hs
    obtain ⟨r, s, ps, ao, co, rfl, rfl, rfl, hr, hs0, hs1, hpl, HG, hs⟩ := hrel
    by_cases h0 : 0 < r
    · go_upto_region 4 with (fail)
      obtain ⟨x, hx, hx1, hx2⟩ : ∃ x : Nat, wrap64 ((least : Int) + wrap64 (s % ((fa : Int) - least + 1))) = x ∧ least ≤ x ∧ x ≤ fa := by
        have hpos : (0 : Int) < (fa : Int) - least + 1 := by omega
        have m1 := Int.emod_nonneg s (by omega : (fa : Int) - least + 1 ≠ 0)
        have m2 := Int.emod_lt_of_pos s hpos
        generalize s % ((fa : Int) - least + 1) = m at *
        refine ⟨least + m.toNat, ?_, by omega, by omega⟩
        rw [wrap64_idn (z := m) (by omega) (by omega), wrap64_idn (by omega) (by omega)]
        omega
      rw [hx]
      have HG2 := Lib.hid (HG.out.step h0 hl.1 hx1 hx2)
      clear hx
      by_cases hxr : x ≤ r
      · have hxr' : ¬ (r : Int) < x := by omega
        rw [Nat.min_eq_left hxr] at HG2
        go_wp2_with (at_builtin; refine append_st _ _ 230 3 _ ps.length 1 8 _ [.int .i64 (x : Int)] (.int .i64 0) iv hs rfl rfl Try.underlying230 Hi0.out Hi1.out Hi2.out Hi3.out rfl (by decide) rfl rfl rfl (fun u hu => by simp at hu; subst hu; rfl) (by omega) (by decide) ?_)
        clear hs
        intro v' w' hs
        obtain ⟨ao2, co2, hv, _, _⟩ := hs.row_read
        subst hv
        have hw := u64wrap_bd (IntKind.u64.wrap (s / 3 + IntKind.u64.wrap (s * 7)) + 1)
        go_wp2
        go_roundw
        case rel => exact ⟨r - x, _, ps ++ [x], ao2, co2, by go_num, rfl, by rw [List.length_append]; rfl, by omega, hw.1, hw.2, by have h2 := HG2.out.sum; have h3 := sum_ge (fun p hp => (HG2.out.bd p hp).1); omega, HG2, by rw [inRow_push, List.length_append]; exact hs⟩
        case measure => simp [intOf]; omega
      · have hxr' : (r : Int) < x := by omega
        rw [Nat.min_eq_right (by omega), Nat.sub_self] at HG2
        go_wp2_with (at_builtin; refine append_st _ _ 230 3 _ ps.length 1 8 _ [.int .i64 (r : Int)] (.int .i64 0) iv hs rfl rfl Try.underlying230 Hi0.out Hi1.out Hi2.out Hi3.out rfl (by decide) rfl rfl rfl (fun u hu => by simp at hu; subst hu; rfl) (by omega) (by decide) ?_)
        clear hs
        intro v' w' hs
        obtain ⟨ao2, co2, hv, _, _⟩ := hs.row_read
        subst hv
        have hw := u64wrap_bd (IntKind.u64.wrap (s / 3 + IntKind.u64.wrap (s * 7)) + 1)
        go_wp2
        go_roundw
        case rel => exact ⟨0, _, ps ++ [r], ao2, co2, by go_num, rfl, by rw [List.length_append]; rfl, by omega, hw.1, hw.2, by have h2 := HG2.out.sum; have h3 := sum_ge (fun p hp => (HG2.out.bd p hp).1); omega, HG2, by rw [inRow_push, List.length_append]; exact hs⟩
        case measure => simp [intOf]; omega
    · obtain rfl : r = 0 := by omega
      go_wp2
      go_ret
      exact ⟨_, ps, rfl, Lib.hid HG.out.last, hs⟩
end
end Go.Proofs.Ytfgjanponijkhaa
