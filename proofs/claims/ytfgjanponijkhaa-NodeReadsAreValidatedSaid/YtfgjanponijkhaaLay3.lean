
/- The contracts of the layout's functions (layer 3), third part: Valid, New; what makes a configuration small. -/
import Derived.Test.YtfgjanponijkhaaLay2
import Derived.Test.YtfgjanponijkhaaTail
namespace Go.Proofs.Ytfgjanponijkhaa
open Go.RowKit

def smallC (c : Cfg) : Cfg := ⟨1 + c.th % 6, 1 + c.sn % 8, 1 + c.no % 12, 1 + c.ch % 20, 1 + c.re % 20, 4 + c.fa % 6, 1 + c.cl % 1000⟩
theorem small_ok (c : Cfg) : (smallC c).Ok := by constructor <;> simp only [smallC] <;> omega

/-- 'Valid' as a Bool. -/
def vld (c : Cfg) : Bool := btw c.th 1 64 && btw c.sn 1 8 && btw c.no 1 4096 && btw c.ch 1 16384 && btw c.re 1 65536 && btw c.fa 4 32 && btw c.cl 1 1099511627776
theorem vld_iff (c : Cfg) : vld c = true ↔ c.Ok := by
  unfold vld btw
  simp only [Bool.and_eq_true, decide_eq_true_eq]
  constructor
  · rintro ⟨⟨⟨⟨⟨⟨⟨a, a'⟩, b, b'⟩, d, d'⟩, e, e'⟩, f, f'⟩, g, g'⟩, h, h'⟩
    exact ⟨a, a', b, b', d, d', e, e', f, f', g, g', h, h'⟩
  · intro h
    exact ⟨⟨⟨⟨⟨⟨⟨h.th1, h.th2⟩, h.sn1, h.sn2⟩, h.no1, h.no2⟩, h.ch1, h.ch2⟩, h.re1, h.re2⟩, h.fa1, h.fa2⟩, h.cl1, h.cl2⟩

theorem valid_yes (c : Cfg) (hc : c.Ok) (w : World) : Calls Try.prog 178 #[.agg #[.int .i64 c.th, .int .i64 c.sn, .int .i64 c.no, .int .i64 c.ch, .int .i64 c.re, .int .i64 c.fa, .int .u64 c.cl]] w fun e w' => e = .returned (.bool true) ∧ Below w.heap.size w w' := by
  obtain ⟨a, a', b, b', d, d', e, e', f, f', g, g', h, h'⟩ := hc
  go_enter Try.func178, Try.ntmps178
  go_wp2_with (go_at_call 160; refine (between_yes _ _ _ (by omega) (by omega) _).mono ?_; rintro e w1 ⟨rfl, rfl⟩)
  go_ret
  exact ⟨rfl, (Below.refl _ _).alloc (Nat.le_refl _) _⟩

theorem new_yes (c : Cfg) (hc : c.Ok) (w : World) : Calls Try.prog 146 #[.agg #[.int .i64 c.th, .int .i64 c.sn, .int .i64 c.no, .int .i64 c.ch, .int .i64 c.re, .int .i64 c.fa, .int .u64 c.cl]] w fun e w' => e = .returned (.tuple #[.agg #[.int .i64 c.th, .int .i64 c.sn, .int .i64 c.no, .int .i64 c.ch, .int .i64 c.re, .int .i64 c.fa, .int .u64 c.cl], .int .i64 0]) ∧ Below w.heap.size w w' := by
  go_enter Try.func146, Try.ntmps146
  go_wp2_with fail
  refine (valid_yes c hc _).mono ?_
  rintro e w1 ⟨rfl, hb1⟩
  obtain ⟨hcc, hff⟩ := bcell hb1
  have hz : w.heap.size + 1 < w1.heap.size := by have := hb1.size; simp at this; omega
  go_wp2
  refine bodyPost_ret (v := .tuple #[.agg #[.int .i64 c.th, .int .i64 c.sn, .int .i64 c.no, .int .i64 c.ch, .int .i64 c.re, .int .i64 c.fa, .int .u64 c.cl], .int .i64 0]) (by simp [results, Try.results146, go_sem, hcc]) rfl ⟨rfl, ?_⟩
  repeat (refine Below.setCell ?_ (by simp) _)
  exact (((Below.refl _ _).alloc (Nat.le_refl _) _).alloc (by simp) _).trans (hb1.mono (by simp; omega))
end Go.Proofs.Ytfgjanponijkhaa
