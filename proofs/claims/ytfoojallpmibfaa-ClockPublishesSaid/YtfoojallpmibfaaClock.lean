/- The makers of the machines of layer 6: NewPublish, NewNow. -/
import Derived.Test.YtfoojallpmibfaaPub
import Derived.Test.YtfoojallpmibfaaLay3
import Derived.Test.YtfoojallpmibfaaTail2
namespace Go.Proofs.Ytfoojallpmibfaa
open Go.RowKit
set_option maxRecDepth 100000

theorem newPublish_any (c : Cfg) (time : Int) (w : World) : Calls Try.prog 64 #[.agg #[.int .i64 c.th, .int .i64 c.sn, .int .i64 c.no, .int .i64 c.ch, .int .i64 c.re, .int .i64 c.fa, .int .u64 c.cl], .int .u64 time] w fun e w' => ∃ bt, e = .returned (.pointer (some ⟨bt, 0, none⟩)) ∧ w.heap.size ≤ bt ∧ PubAt w' bt 2 time 0 ∧ Below w.heap.size w w' := by
  go_enter Try.func64, Try.ntmps64
  go_wp2_with fail
  refine (published_any c _).mono ?_
  rintro e w1 ⟨rfl, hb⟩
  have hB1 : Below w.heap.size w w1 := ((Below.refl _ _).alloc (Nat.le_refl _) _).trans (hb.mono (by simp))
  have hz1 := hB1.size
  clear hb
  obtain ⟨N, hN⟩ : ∃ N, N = w1.heap.size := ⟨_, rfl⟩
  go_wp2_with fail
  refine (begin_any 84 #[.pointer (some ⟨w1.heap.size, 0, none⟩)] #[] _).mono ?_
  rintro e w2 ⟨rfl, hb⟩
  have B1 := blk_same hb (blk_alloc w1 _)
  have k := blk_cell B1
  have kf := blk_frozen B1
  have B2 := blk_set (blk_set B1 0 (.func (.func 84) #[.pointer (some ⟨w1.heap.size, 0, none⟩)] #[])) 1 (.bool true)
  simp only [List.setIfInBounds_toArray, List.set_cons_zero, List.set_cons_succ] at B2
  go_wp2
  go_ret
  refine ⟨_, rfl, hz1, B2, ?_⟩
  iterate 2 refine Below.setCell ?_ (by simpa using hz1) _
  exact hB1.trans (((Below.refl _ _).alloc (Nat.le_refl _) _).trans (hb.mono (by simp)) |>.mono hz1)

/-- The state of the machine Now: it has one step. -/
def nowPc (bl bn : Nat) : Nat → Value
  | 0 => .func (.func 85) #[] #[.pointer (some ⟨bl, 0, none⟩), .pointer (some ⟨bn, 0, none⟩)]
  | _ => .nilFunc

structure NowAt (w : World) (bt bl bn : Nat) (c : Cfg) (time : Int) (pc : Nat) : Prop where
  ht : w.heap[bt]? = some (.cells #[nowPc bl bn pc, .bool true, .int .u64 time] 105)
  hl : w.heap[bl]? = some (.cells #[.int .i64 c.th, .int .i64 c.sn, .int .i64 c.no, .int .i64 c.ch, .int .i64 c.re, .int .i64 c.fa, .int .u64 c.cl] 27)
  hn : w.heap[bn]? = some (.cells #[.pointer (some ⟨bt, 0, none⟩)] 82)

theorem newNow_any (c : Cfg) (w : World) : Calls Try.prog 67 #[.agg #[.int .i64 c.th, .int .i64 c.sn, .int .i64 c.no, .int .i64 c.ch, .int .i64 c.re, .int .i64 c.fa, .int .u64 c.cl]] w fun e w' => ∃ bt bl bn, e = .returned (.pointer (some ⟨bt, 0, none⟩)) ∧ w.heap.size ≤ bt ∧ w.heap.size ≤ bl ∧ w.heap.size ≤ bn ∧ NowAt w' bt bl bn c 0 0 ∧ Below w.heap.size w w' := by
  go_enter Try.func67, Try.ntmps67
  go_wp2_with fail
  refine region_tail 5 (by kernel_rfl) (by kernel_rfl) ?_
  simp only [List.take_succ_cons, List.take_zero, List.drop_succ_cons, List.drop_zero]
  repeat (go_big_quiet_step ((go_at_call 80; exact pure_of (begin_any _ _ _ _))))
  refine wpQuiet_nil ?_
  intro w1 hb
  have A1 := blk_alloc w (.cells #[.int .i64 c.th, .int .i64 c.sn, .int .i64 c.no, .int .i64 c.ch, .int .i64 c.re, .int .i64 c.fa, .int .u64 c.cl] 27)
  have A2 := blk_alloc (w.alloc (.cells #[.int .i64 c.th, .int .i64 c.sn, .int .i64 c.no, .int .i64 c.ch, .int .i64 c.re, .int .i64 c.fa, .int .u64 c.cl] 27)) (.cells #[.nilFunc, .bool false, .int .u64 0] 105)
  have A1' := blk_old (o := .cells #[.nilFunc, .bool false, .int .u64 0] 105) A1
  have A3 := blk_alloc ((w.alloc (.cells #[.int .i64 c.th, .int .i64 c.sn, .int .i64 c.no, .int .i64 c.ch, .int .i64 c.re, .int .i64 c.fa, .int .u64 c.cl] 27)).alloc (.cells #[.nilFunc, .bool false, .int .u64 0] 105)) (.cells #[.pointer (some ⟨w.heap.size + 1, 0, none⟩)] 82)
  have A2' := blk_old (o := .cells #[.pointer (some ⟨w.heap.size + 1, 0, none⟩)] 82) A2
  have A1'' := blk_old (o := .cells #[.pointer (some ⟨w.heap.size + 1, 0, none⟩)] 82) A1'
  have C1 := blk_same hb A1''
  have C2 := blk_same hb A2'
  have C3 := blk_same hb A3
  have hB : Below w.heap.size w w1 := ((((Below.refl _ _).alloc (Nat.le_refl _) _).alloc (by simp) _).alloc (by simp; omega) _).trans (hb.mono (by simp; omega))
  clear hb A1 A2 A1' A3 A2' A1''
  simp only [World.size_alloc] at C1 C2 C3
  have k2 := blk_cell C2
  have f2 := blk_frozen C2
  have k3 := blk_cell C3
  go_wp2
  go_ret
  have D2 := blk_set (blk_set C2 0 (.func (.func 85) #[] #[.pointer (some ⟨w.heap.size, 0, none⟩), .pointer (some ⟨w.heap.size + 1 + 1, 0, none⟩)])) 1 (.bool true)
  simp only [List.setIfInBounds_toArray, List.set_cons_zero, List.set_cons_succ] at D2
  refine ⟨_, _, _, rfl, by omega, Nat.le_refl _, by omega, ⟨D2, ?_, ?_⟩, (hB.setCell (by simp) _).setCell (by simp) _⟩
  · exact blk_set_other (blk_set_other C1 (by simp) 0 _) (by simp) 1 _
  · exact blk_set_other (blk_set_other C3 (by simp) 0 _) (by simp) 1 _
/-- The last step of a machine whose state function is a closure over two names. -/
theorem runStep_end2 {R : World → Prop} (w : World) (b m f : Nat) (p q : Value) (hf : Enters f) (hc : w.cell? ⟨b, 0, none⟩ = some (.func (.func f) #[] #[p, q]))
    (hcall : Calls Try.prog f #[.pointer (some ⟨m, 0, none⟩), p, q] w fun e w1 => e = .returned .nilFunc ∧ R w1)
    (hk : ∀ w1, R w1 → ∃ v cs T, w1.heap[b]? = some (.cells cs T) ∧ cs[0]? = some v) :
    Calls Try.prog 82 #[.pointer (some ⟨b, 0, none⟩), .pointer (some ⟨m, 0, none⟩)] w fun e w' => e = .returned (.bool true) ∧ ∃ w1, R w1 ∧ w' = w1.setCell ⟨b, 0, none⟩ .nilFunc := by
  have hf' : ∀ (args : Array Value) (w : World), (callFunc f args).run Try.prog w = .ok (.enter f args) w := hf
  have HC := Lib.hid hcall
  have HK := Lib.hid hk
  clear hcall hk
  go_enter Try.func82, Try.ntmps82
  go_wp2_with fail
  refine (HC.out).mono ?_
  rintro e w1 ⟨rfl, hR⟩
  obtain ⟨v, cs, T, hb, hv⟩ := HK.out w1 hR
  have hcell : w1.cell? ⟨b, 0, none⟩ = some v := by rw [blk_cell hb]; exact hv
  have hfr := blk_frozen hb 0
  have hafter : (w1.setCell ⟨b, 0, none⟩ .nilFunc).cell? ⟨b, 0, none⟩ = some .nilFunc := World.cell?_setCell_same _ _ _ hcell
  clear hb hc hf' hv
  go_wp2
  go_ret
  exact ⟨rfl, w1, hR, rfl⟩

theorem enters_now : Enters 85 := fun _ _ => rfl

theorem nowTime_any (w : World) (bt bl bn : Nat) (c : Cfg) (time : Int) (pc : Nat) (h : NowAt w bt bl bn c time pc) : Calls Try.prog 68 #[.pointer (some ⟨bt, 0, none⟩)] w fun e w' => e = .returned (.int .u64 time) ∧ w = w' := by
  have k := blk_cell h.ht
  go_enter Try.func68, Try.ntmps68
  go_wp2
  go_ret
  exact ⟨rfl, rfl⟩
end Go.Proofs.Ytfoojallpmibfaa
