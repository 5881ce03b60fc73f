/- The contracts of the layout's functions (layer 3), third part: Valid, New; what makes a configuration small. -/
import Derived.Test.YtfoojallpmibfaaLay2
import Derived.Test.YtfoojallpmibfaaTail
namespace Go.Proofs.Ytfoojallpmibfaa
open Go.RowKit

def smallC (c : Cfg) : Cfg := ⟨1 + c.th % 6, 1 + c.sn % 8, 1 + c.no % 12, 1 + c.ch % 20, 1 + c.re % 20, 4 + c.fa % 6, 1 + c.cl % 1000⟩
theorem small_ok (c : Cfg) : (smallC c).Ok := by constructor <;> simp only [smallC] <;> omega

theorem small_any (c : Cfg) (h0 : 0 ≤ c.cl) (w : World) : Calls Try.prog 14 #[.agg #[.int .i64 c.th, .int .i64 c.sn, .int .i64 c.no, .int .i64 c.ch, .int .i64 c.re, .int .i64 c.fa, .int .u64 c.cl]] w fun e w' => e = .returned (.agg #[.int .i64 (1 + c.th % 6), .int .i64 (1 + c.sn % 8), .int .i64 (1 + c.no % 12), .int .i64 (1 + c.ch % 20), .int .i64 (1 + c.re % 20), .int .i64 (4 + c.fa % 6), .int .u64 (1 + c.cl % 1000)]) ∧ Below w.heap.size w w' := by
  have a1 : 0 ≤ c.th % 6 := by omega
  have a2 : c.th % 6 ≤ 5 := by omega
  have b1 : 0 ≤ c.sn % 8 := by omega
  have b2 : c.sn % 8 ≤ 7 := by omega
  have c1 : 0 ≤ c.no % 12 := by omega
  have c2 : c.no % 12 ≤ 11 := by omega
  have d1 : 0 ≤ c.ch % 20 := by omega
  have d2 : c.ch % 20 ≤ 19 := by omega
  have e1 : 0 ≤ c.re % 20 := by omega
  have e2 : c.re % 20 ≤ 19 := by omega
  have f1 : 0 ≤ c.fa % 6 := by omega
  have f2 : c.fa % 6 ≤ 5 := by omega
  have g1 : 0 ≤ c.cl % 1000 := by omega
  have g2 : c.cl % 1000 ≤ 999 := by omega
  go_enter Try.func14, Try.ntmps14
  go_wp2
  refine wp_region_tail 29 (by kernel_rfl) (by kernel_rfl) ?_
  simp only [List.take_succ_cons, List.take_zero, List.drop_succ_cons, List.drop_zero]
  repeat (go_big_quiet_step ((go_at_call 17; exact pure_of_same (mod_any _ _ (by omega) (by omega) _))))
  refine wpQuiet_nil ?_
  intro w1 hb1
  obtain ⟨hcc, hff⟩ := bcell hb1
  go_wp2
  refine bodyPost_ret (v := .agg #[.int .i64 (1 + c.th % 6), .int .i64 (1 + c.sn % 8), .int .i64 (1 + c.no % 12), .int .i64 (1 + c.ch % 20), .int .i64 (1 + c.re % 20), .int .i64 (4 + c.fa % 6), .int .u64 (1 + c.cl % 1000)]) (by simp [results, Try.results14, go_sem, hcc]) rfl ⟨rfl, ?_⟩
  repeat (refine Below.setCell ?_ (by simp) _)
  exact (((Below.refl _ _).alloc (Nat.le_refl _) _).alloc (by simp) _).trans (hb1.mono (by simp; omega))

/-- 'Valid' as a Bool. -/
def vld (c : Cfg) : Bool := btw c.th 1 64 && btw c.sn 1 8 && btw c.no 1 4096 && btw c.ch 1 16384 && btw c.re 1 65536 && btw c.fa 4 32 && btw c.cl 1 1099511627776
theorem vld_iff (c : Cfg) : vld c = true ↔ c.Ok := by
  unfold vld btw
  simp only [Bool.and_eq_true, decide_eq_true_eq]
  constructor
  · rintro ⟨⟨⟨⟨⟨⟨⟨a, a'⟩, b, b'⟩, d, d'⟩, e, e'⟩, f, f'⟩, g, g'⟩, h, h'⟩
    exact ⟨a, a', b, b', d, d', e, e', f, f', g, g', h, h'⟩
  · intro h
    exact ⟨⟨⟨⟨⟨⟨⟨h.th1, h.th2⟩, h.sn1, h.sn2⟩, h.no1, h.no2⟩, h.ch1, h.ch2⟩, h.re1, h.re2⟩, h.fa1, h.fa2⟩, h.cl1, h.cl2⟩

theorem valid_yes (c : Cfg) (hc : c.Ok) (w : World) : Calls Try.prog 51 #[.agg #[.int .i64 c.th, .int .i64 c.sn, .int .i64 c.no, .int .i64 c.ch, .int .i64 c.re, .int .i64 c.fa, .int .u64 c.cl]] w fun e w' => e = .returned (.bool true) ∧ Below w.heap.size w w' := by
  obtain ⟨a, a', b, b', d, d', e, e', f, f', g, g', h, h'⟩ := hc
  go_enter Try.func51, Try.ntmps51
  go_wp2_with (go_at_call 72; refine (between_yes _ _ _ (by omega) (by omega) _).mono ?_; rintro e w1 ⟨rfl, rfl⟩)
  go_ret
  exact ⟨rfl, (Below.refl _ _).alloc (Nat.le_refl _) _⟩

theorem new_yes (c : Cfg) (hc : c.Ok) (w : World) : Calls Try.prog 15 #[.agg #[.int .i64 c.th, .int .i64 c.sn, .int .i64 c.no, .int .i64 c.ch, .int .i64 c.re, .int .i64 c.fa, .int .u64 c.cl]] w fun e w' => e = .returned (.tuple #[.agg #[.int .i64 c.th, .int .i64 c.sn, .int .i64 c.no, .int .i64 c.ch, .int .i64 c.re, .int .i64 c.fa, .int .u64 c.cl], .int .i64 0]) ∧ Below w.heap.size w w' := by
  go_enter Try.func15, Try.ntmps15
  go_wp2_with fail
  refine (valid_yes c hc _).mono ?_
  rintro e w1 ⟨rfl, hb1⟩
  obtain ⟨hcc, hff⟩ := bcell hb1
  have hz : w.heap.size + 1 < w1.heap.size := by have := hb1.size; simp at this; omega
  go_wp2
  refine bodyPost_ret (v := .tuple #[.agg #[.int .i64 c.th, .int .i64 c.sn, .int .i64 c.no, .int .i64 c.ch, .int .i64 c.re, .int .i64 c.fa, .int .u64 c.cl], .int .i64 0]) (by simp [results, Try.results15, go_sem, hcc]) rfl ⟨rfl, ?_⟩
  repeat (refine Below.setCell ?_ (by simp) _)
  exact (((Below.refl _ _).alloc (Nat.le_refl _) _).alloc (by simp) _).trans (hb1.mono (by simp; omega))
end Go.Proofs.Ytfoojallpmibfaa
