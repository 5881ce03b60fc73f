/- The walk of LayoutValidates. -/
import Derived.Test.YtfoojallpmibfaaLaw3a
namespace Go.Proofs.Ytfoojallpmibfaa
open Go.RowKit

/-- Which test is the first to say no. -/
theorem not_ok (c : Cfg) (h : ¬ c.Ok) :
    c.th < 1 ∨ (1 ≤ c.th ∧ 64 < c.th) ∨ (1 ≤ c.th ∧ c.th ≤ 64 ∧ c.sn < 1) ∨ (1 ≤ c.th ∧ c.th ≤ 64 ∧ 1 ≤ c.sn ∧ 8 < c.sn) ∨
    (1 ≤ c.th ∧ c.th ≤ 64 ∧ 1 ≤ c.sn ∧ c.sn ≤ 8 ∧ c.no < 1) ∨ (1 ≤ c.th ∧ c.th ≤ 64 ∧ 1 ≤ c.sn ∧ c.sn ≤ 8 ∧ 1 ≤ c.no ∧ 4096 < c.no) ∨
    (1 ≤ c.th ∧ c.th ≤ 64 ∧ 1 ≤ c.sn ∧ c.sn ≤ 8 ∧ 1 ≤ c.no ∧ c.no ≤ 4096 ∧ c.ch < 1) ∨ (1 ≤ c.th ∧ c.th ≤ 64 ∧ 1 ≤ c.sn ∧ c.sn ≤ 8 ∧ 1 ≤ c.no ∧ c.no ≤ 4096 ∧ 1 ≤ c.ch ∧ 16384 < c.ch) ∨
    (1 ≤ c.th ∧ c.th ≤ 64 ∧ 1 ≤ c.sn ∧ c.sn ≤ 8 ∧ 1 ≤ c.no ∧ c.no ≤ 4096 ∧ 1 ≤ c.ch ∧ c.ch ≤ 16384 ∧ c.re < 1) ∨ (1 ≤ c.th ∧ c.th ≤ 64 ∧ 1 ≤ c.sn ∧ c.sn ≤ 8 ∧ 1 ≤ c.no ∧ c.no ≤ 4096 ∧ 1 ≤ c.ch ∧ c.ch ≤ 16384 ∧ 1 ≤ c.re ∧ 65536 < c.re) ∨
    (1 ≤ c.th ∧ c.th ≤ 64 ∧ 1 ≤ c.sn ∧ c.sn ≤ 8 ∧ 1 ≤ c.no ∧ c.no ≤ 4096 ∧ 1 ≤ c.ch ∧ c.ch ≤ 16384 ∧ 1 ≤ c.re ∧ c.re ≤ 65536 ∧ c.fa < 4) ∨ (1 ≤ c.th ∧ c.th ≤ 64 ∧ 1 ≤ c.sn ∧ c.sn ≤ 8 ∧ 1 ≤ c.no ∧ c.no ≤ 4096 ∧ 1 ≤ c.ch ∧ c.ch ≤ 16384 ∧ 1 ≤ c.re ∧ c.re ≤ 65536 ∧ 4 ≤ c.fa ∧ 32 < c.fa) ∨
    (1 ≤ c.th ∧ c.th ≤ 64 ∧ 1 ≤ c.sn ∧ c.sn ≤ 8 ∧ 1 ≤ c.no ∧ c.no ≤ 4096 ∧ 1 ≤ c.ch ∧ c.ch ≤ 16384 ∧ 1 ≤ c.re ∧ c.re ≤ 65536 ∧ 4 ≤ c.fa ∧ c.fa ≤ 32 ∧ c.cl < 1) ∨ (1 ≤ c.th ∧ c.th ≤ 64 ∧ 1 ≤ c.sn ∧ c.sn ≤ 8 ∧ 1 ≤ c.no ∧ c.no ≤ 4096 ∧ 1 ≤ c.ch ∧ c.ch ≤ 16384 ∧ 1 ≤ c.re ∧ c.re ≤ 65536 ∧ 4 ≤ c.fa ∧ c.fa ≤ 32 ∧ 1 ≤ c.cl ∧ 1099511627776 < c.cl) := by
  by_cases a0 : c.th < 1
  · exact Or.inl a0
  by_cases a1 : 64 < c.th
  · exact Or.inr (Or.inl ⟨by omega, a1⟩)
  by_cases a2 : c.sn < 1
  · exact Or.inr (Or.inr (Or.inl ⟨by omega, by omega, a2⟩))
  by_cases a3 : 8 < c.sn
  · exact Or.inr (Or.inr (Or.inr (Or.inl ⟨by omega, by omega, by omega, a3⟩)))
  by_cases a4 : c.no < 1
  · exact Or.inr (Or.inr (Or.inr (Or.inr (Or.inl ⟨by omega, by omega, by omega, by omega, a4⟩))))
  by_cases a5 : 4096 < c.no
  · exact Or.inr (Or.inr (Or.inr (Or.inr (Or.inr (Or.inl ⟨by omega, by omega, by omega, by omega, by omega, a5⟩)))))
  by_cases a6 : c.ch < 1
  · exact Or.inr (Or.inr (Or.inr (Or.inr (Or.inr (Or.inr (Or.inl ⟨by omega, by omega, by omega, by omega, by omega, by omega, a6⟩))))))
  by_cases a7 : 16384 < c.ch
  · exact Or.inr (Or.inr (Or.inr (Or.inr (Or.inr (Or.inr (Or.inr (Or.inl ⟨by omega, by omega, by omega, by omega, by omega, by omega, by omega, a7⟩)))))))
  by_cases a8 : c.re < 1
  · exact Or.inr (Or.inr (Or.inr (Or.inr (Or.inr (Or.inr (Or.inr (Or.inr (Or.inl ⟨by omega, by omega, by omega, by omega, by omega, by omega, by omega, by omega, a8⟩))))))))
  by_cases a9 : 65536 < c.re
  · exact Or.inr (Or.inr (Or.inr (Or.inr (Or.inr (Or.inr (Or.inr (Or.inr (Or.inr (Or.inl ⟨by omega, by omega, by omega, by omega, by omega, by omega, by omega, by omega, by omega, a9⟩)))))))))
  by_cases a10 : c.fa < 4
  · exact Or.inr (Or.inr (Or.inr (Or.inr (Or.inr (Or.inr (Or.inr (Or.inr (Or.inr (Or.inr (Or.inl ⟨by omega, by omega, by omega, by omega, by omega, by omega, by omega, by omega, by omega, by omega, a10⟩))))))))))
  by_cases a11 : 32 < c.fa
  · exact Or.inr (Or.inr (Or.inr (Or.inr (Or.inr (Or.inr (Or.inr (Or.inr (Or.inr (Or.inr (Or.inr (Or.inl ⟨by omega, by omega, by omega, by omega, by omega, by omega, by omega, by omega, by omega, by omega, by omega, a11⟩)))))))))))
  by_cases a12 : c.cl < 1
  · exact Or.inr (Or.inr (Or.inr (Or.inr (Or.inr (Or.inr (Or.inr (Or.inr (Or.inr (Or.inr (Or.inr (Or.inr (Or.inl ⟨by omega, by omega, by omega, by omega, by omega, by omega, by omega, by omega, by omega, by omega, by omega, by omega, a12⟩))))))))))))
  by_cases a13 : 1099511627776 < c.cl
  · exact Or.inr (Or.inr (Or.inr (Or.inr (Or.inr (Or.inr (Or.inr (Or.inr (Or.inr (Or.inr (Or.inr (Or.inr (Or.inr (⟨by omega, by omega, by omega, by omega, by omega, by omega, by omega, by omega, by omega, by omega, by omega, by omega, by omega, a13⟩)))))))))))))
  exact absurd ⟨by omega, by omega, by omega, by omega, by omega, by omega, by omega, by omega, by omega, by omega, by omega, by omega, by omega, by omega⟩ h

theorem valid_no (c : Cfg) (hc : ¬ c.Ok) (w : World) : Calls Try.prog 51 #[.agg #[.int .i64 c.th, .int .i64 c.sn, .int .i64 c.no, .int .i64 c.ch, .int .i64 c.re, .int .i64 c.fa, .int .u64 c.cl]] w fun e w' => e = .returned (.bool false) ∧ Below w.heap.size w w' := by
  rcases not_ok c hc with h | ⟨h1, h⟩ | ⟨h1, h2, h⟩ | ⟨h1, h2, h3, h⟩ | ⟨h1, h2, h3, h4, h⟩ | ⟨h1, h2, h3, h4, h5, h⟩ | ⟨h1, h2, h3, h4, h5, h6, h⟩ | ⟨h1, h2, h3, h4, h5, h6, h7, h⟩ | ⟨h1, h2, h3, h4, h5, h6, h7, h8, h⟩ | ⟨h1, h2, h3, h4, h5, h6, h7, h8, h9, h⟩ | ⟨h1, h2, h3, h4, h5, h6, h7, h8, h9, h10, h⟩ | ⟨h1, h2, h3, h4, h5, h6, h7, h8, h9, h10, h11, h⟩ | ⟨h1, h2, h3, h4, h5, h6, h7, h8, h9, h10, h11, h12, h⟩ | ⟨h1, h2, h3, h4, h5, h6, h7, h8, h9, h10, h11, h12, h13, h⟩
  all_goals
    clear hc
    go_enter Try.func51, Try.ntmps51
    go_wp2_with (go_at_call 72; first | (refine (between_yes _ _ _ (by omega) (by omega) _).mono ?_; rintro e w1 ⟨rfl, rfl⟩) | (refine (between_no _ _ _ (by omega) _).mono ?_; rintro e w1 ⟨rfl, rfl⟩))
    go_ret
    first | exact ⟨rfl, (Below.refl _ _).alloc (Nat.le_refl _) _⟩ | exact ⟨congrArg (fun b => Ending.returned (.bool b)) (decide_eq_false (by omega)), (Below.refl _ _).alloc (Nat.le_refl _) _⟩

set_option maxRecDepth 100000 in
set_option maxHeartbeats 4000000 in
theorem refValid_no (c : Cfg) (hc : ¬ c.Ok) (w : World) : Calls Try.prog 50 #[.agg #[.int .i64 c.th, .int .i64 c.sn, .int .i64 c.no, .int .i64 c.ch, .int .i64 c.re, .int .i64 c.fa, .int .u64 c.cl]] w fun e w' => e = .returned (.bool false) ∧ Below w.heap.size w w' := by
  rcases not_ok c hc with h | ⟨h1, h⟩ | ⟨h1, h2, h⟩ | ⟨h1, h2, h3, h⟩ | ⟨h1, h2, h3, h4, h⟩ | ⟨h1, h2, h3, h4, h5, h⟩ | ⟨h1, h2, h3, h4, h5, h6, h⟩ | ⟨h1, h2, h3, h4, h5, h6, h7, h⟩ | ⟨h1, h2, h3, h4, h5, h6, h7, h8, h⟩ | ⟨h1, h2, h3, h4, h5, h6, h7, h8, h9, h⟩ | ⟨h1, h2, h3, h4, h5, h6, h7, h8, h9, h10, h⟩ | ⟨h1, h2, h3, h4, h5, h6, h7, h8, h9, h10, h11, h⟩ | ⟨h1, h2, h3, h4, h5, h6, h7, h8, h9, h10, h11, h12, h⟩ | ⟨h1, h2, h3, h4, h5, h6, h7, h8, h9, h10, h11, h12, h13, h⟩
  all_goals
    clear hc
    go_enter Try.func50, Try.ntmps50
    go_wp2
    go_ret
    first | exact ⟨rfl, (Below.refl _ _).alloc (Nat.le_refl _) _⟩ | exact ⟨congrArg (fun b => Ending.returned (.bool b)) (decide_eq_false (by omega)), (Below.refl _ _).alloc (Nat.le_refl _) _⟩
theorem refValid_yes (c : Cfg) (hc : c.Ok) (w : World) : Calls Try.prog 50 #[.agg #[.int .i64 c.th, .int .i64 c.sn, .int .i64 c.no, .int .i64 c.ch, .int .i64 c.re, .int .i64 c.fa, .int .u64 c.cl]] w fun e w' => e = .returned (.bool true) ∧ Below w.heap.size w w' := by
  obtain ⟨a, a', b, b', d, d', e, e', f, f', g, g', h, h'⟩ := hc
  go_enter Try.func50, Try.ntmps50
  go_wp2
  go_ret
  exact ⟨rfl, (Below.refl _ _).alloc (Nat.le_refl _) _⟩

end Go.Proofs.Ytfoojallpmibfaa
