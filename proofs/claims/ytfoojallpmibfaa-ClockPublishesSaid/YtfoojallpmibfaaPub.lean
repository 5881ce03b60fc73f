/- The machine clock.Publish (layer 6): what each of its steps does. -/
import Derived.Test.YtfoojallpmibfaaSteps
import Derived.Deep.RegionWith
namespace Go.Proofs.Ytfoojallpmibfaa
open Go.RowKit
set_option maxRecDepth 100000

/-- A publisher stands at: 0: it waits, 1: it stores, 2: it has finished. -/
def pubPc (bt : Nat) : Nat → Value
  | 0 => .func (.func 84) #[.pointer (some ⟨bt, 0, none⟩)] #[]
  | 1 => .func (.func 90) #[.pointer (some ⟨bt, 0, none⟩)] #[]
  | _ => .nilFunc

def PubAt (w : World) (bt : Nat) (i time : Int) (pc : Nat) : Prop := w.heap[bt]? = some (.cells #[pubPc bt pc, .bool true, .int .i64 i, .int .u64 time] 103)

theorem enters_wait : Enters 84 := fun _ _ => rfl
theorem enters_store : Enters 90 := fun _ _ => rfl

theorem MemAt.drew {w : World} {bm bc : Nat} {L : List Cel} {acc : Int} (h : MemAt w bm bc L acc) : MemAt w.drew bm bc L acc := ⟨h.hm, h.hc, h.ne, h.len⟩

theorem pubStore_any (w : World) (bt bm bc : Nat) (i time acc : Int) (v0 : Value) (L : List Cel) (h : w.heap[bt]? = some (.cells #[v0, .bool true, .int .i64 i, .int .u64 time] 103)) (M : MemAt w bm bc L acc) (h1 : bt ≠ bm) (h2 : bt ≠ bc) (ha0 : 0 ≤ acc) (ha : acc ≤ 1000000000000) :
    Calls Try.prog 90 #[.pointer (some ⟨bt, 0, none⟩), .pointer (some ⟨bm, 0, none⟩)] w fun e w' => e = .returned .nilFunc ∧ w'.heap[bt]? = some (.cells #[v0, .bool true, .int .i64 i, .int .u64 time] 103) ∧ MemAt w' bm bc (putC L i ⟨time, ⟨#[]⟩, 0⟩) (acc + 1) ∧ Chg [bt, bm, bc] w w' := by
  have k := blk_cell h
  go_enter Try.func90, Try.ntmps90
  go_wp2
  refine region_tail 10 (by kernel_rfl) (by kernel_rfl) ?_
  simp only [List.take_succ_cons, List.take_zero, List.drop_succ_cons, List.drop_zero]
  repeat (go_big_quiet_step (fail))
  refine wpQuiet_nil ?_
  intro w1 hb
  go_wp2_with fail
  refine (store_any w1 bm bc L acc i ⟨time, ⟨#[]⟩, 0⟩ (M.same hb) ha0 ha).mono ?_
  rintro e w2 ⟨rfl, M2, hg⟩
  go_wp2
  go_ret
  exact ⟨rfl, hg.blk (blk_same hb h) (by simp [h1, h2]), M2, (Chg.of_below hb).trans (hg.mono (by simp))⟩

theorem pubWait_no (w : World) (bt bm bc : Nat) (i time acc : Int) (v0 : Value) (L : List Cel) (h : w.heap[bt]? = some (.cells #[v0, .bool true, .int .i64 i, .int .u64 time] 103)) (M : MemAt w bm bc L acc) (h1 : bt ≠ bm) (ha0 : 0 ≤ acc) (ha : acc ≤ 1000000000000) (hx : ((getC L i).n != IntKind.u64.wrap (time - 1)) = true) :
    Calls Try.prog 84 #[.pointer (some ⟨bt, 0, none⟩), .pointer (some ⟨bm, 0, none⟩)] w fun e w' => e = .returned (.func (.func 84) #[.pointer (some ⟨bt, 0, none⟩)] #[]) ∧ w'.heap[bt]? = some (.cells #[v0, .bool true, .int .i64 i, .int .u64 time] 103) ∧ MemAt w' bm bc L (acc + 1) ∧ Chg [bt, bm, bc] w w' := by
  have k := blk_cell h
  go_enter Try.func84, Try.ntmps84
  go_wp2
  go_region_with (go_at_call 86; refine (load_any _ bm bc L acc i M.drew ha0 ha).mono ?_; rintro e w1 ⟨rfl, M1, hg⟩; have k1 := blk_cell (hg.blk (show w.drew.heap[bt]? = _ from h) (by simp [h1])))
  all_goals
    go_wp2
    go_ret
    exact ⟨rfl, hg.blk (show w.drew.heap[bt]? = _ from h) (by simp [h1]), M1, ((Chg.refl _ _).drew.trans hg).mono (by simp)⟩

theorem pubWait_yes (w : World) (bt bm bc : Nat) (i time acc : Int) (v0 : Value) (L : List Cel) (h : w.heap[bt]? = some (.cells #[v0, .bool true, .int .i64 i, .int .u64 time] 103)) (M : MemAt w bm bc L acc) (h1 : bt ≠ bm) (ha0 : 0 ≤ acc) (ha : acc ≤ 1000000000000) (hx : ((getC L i).n != IntKind.u64.wrap (time - 1)) = false) :
    Calls Try.prog 84 #[.pointer (some ⟨bt, 0, none⟩), .pointer (some ⟨bm, 0, none⟩)] w fun e w' => e = .returned (.func (.func 90) #[.pointer (some ⟨bt, 0, none⟩)] #[]) ∧ w'.heap[bt]? = some (.cells #[v0, .bool true, .int .i64 i, .int .u64 time] 103) ∧ MemAt w' bm bc L (acc + 1) ∧ Chg [bt, bm, bc] w w' := by
  have k := blk_cell h
  go_enter Try.func84, Try.ntmps84
  go_wp2
  go_region_with (go_at_call 86; refine (load_any _ bm bc L acc i M.drew ha0 ha).mono ?_; rintro e w1 ⟨rfl, M1, hg⟩; have k1 := blk_cell (hg.blk (show w.drew.heap[bt]? = _ from h) (by simp [h1])))
  all_goals
    go_wp2
    go_ret
    exact ⟨rfl, hg.blk (show w.drew.heap[bt]? = _ from h) (by simp [h1]), M1, ((Chg.refl _ _).drew.trans hg).mono (by simp)⟩

/-- What a step of a publisher does. -/
def pubStep (i time : Int) (L : List Cel) (pc : Nat) : Nat × List Cel :=
  match pc with
  | 0 => if (getC L i).n = time - 1 then (1, L) else (0, L)
  | 1 => (2, putC L i ⟨time, ⟨#[]⟩, 0⟩)
  | n + 2 => (n + 2, L)

theorem pub_step (w : World) (bt bm bc : Nat) (i time acc : Int) (pc : Nat) (L : List Cel) (hT : PubAt w bt i time pc) (M : MemAt w bm bc L acc) (h1 : bt ≠ bm) (h2 : bt ≠ bc) (ha0 : 0 ≤ acc) (ha : acc ≤ 1000000000000) (ht : IntKind.u64.wrap (time - 1) = time - 1) :
    Calls Try.prog 65 #[.pointer (some ⟨bt, 0, none⟩), .pointer (some ⟨bm, 0, none⟩)] w fun e w' => e = .returned (.bool (decide (2 ≤ (pubStep i time L pc).1))) ∧ PubAt w' bt i time (pubStep i time L pc).1 ∧ MemAt w' bm bc (pubStep i time L pc).2 (if 2 ≤ pc then acc else acc + 1) ∧ Chg [bt, bm, bc] w w' := by
  have hset : ∀ (w1 : World) (v0 v : Value) (L' : List Cel) (a : Int), w1.heap[bt]? = some (.cells #[v0, .bool true, .int .i64 i, .int .u64 time] 103) → MemAt w1 bm bc L' a → Chg [bt, bm, bc] w w1 →
      (w1.setCell ⟨bt, 0, none⟩ v).heap[bt]? = some (.cells #[v, .bool true, .int .i64 i, .int .u64 time] 103) ∧ MemAt (w1.setCell ⟨bt, 0, none⟩ v) bm bc L' a ∧ Chg [bt, bm, bc] w (w1.setCell ⟨bt, 0, none⟩ v) := by
    intro w1 v0 v L' a hb hM hg
    refine ⟨?_, hM.keep (S := [bt]) ((Chg.refl _ _).setCell (.inl (by simp)) _) (by simp [Ne.symm h1]) (by simp [Ne.symm h2]), hg.setCell (.inl (by simp)) _⟩
    have := blk_set hb 0 v
    simpa using this
  have hc := blk_cell hT 0
  match pc with
  | 0 =>
    by_cases hx : (getC L i).n = time - 1
    · have e : pubStep i time L 0 = (1, L) := by simp [pubStep, hx]
      have hcall := pubWait_yes w bt bm bc i time acc _ L hT M h1 ha0 ha (by simp [ht, hx])
      rw [e]
      go_enter Try.func65, Try.ntmps65
      go_wp2_with fail
      refine (runStep_go w bt bm _ _ ⟨bt, 0, none⟩ enters_wait hc hcall (fun w1 hR => ⟨_, _, _, hR.1, rfl⟩)).mono ?_
      rintro e w' ⟨rfl, w1, ⟨hb, hM, hg⟩, rfl⟩
      go_wp2
      go_ret
      exact ⟨rfl, hset _ _ _ _ _ hb hM hg⟩
    · have e : pubStep i time L 0 = (0, L) := by simp [pubStep, hx]
      have hcall := pubWait_no w bt bm bc i time acc _ L hT M h1 ha0 ha (by simp [ht, hx])
      rw [e]
      go_enter Try.func65, Try.ntmps65
      go_wp2_with fail
      refine (runStep_go w bt bm _ _ ⟨bt, 0, none⟩ enters_wait hc hcall (fun w1 hR => ⟨_, _, _, hR.1, rfl⟩)).mono ?_
      rintro e w' ⟨rfl, w1, ⟨hb, hM, hg⟩, rfl⟩
      go_wp2
      go_ret
      exact ⟨rfl, hset _ _ _ _ _ hb hM hg⟩
  | 1 =>
    have hcall := pubStore_any w bt bm bc i time acc _ L hT M h1 h2 ha0 ha
    rw [show pubStep i time L 1 = (2, putC L i ⟨time, ⟨#[]⟩, 0⟩) from rfl]
    go_enter Try.func65, Try.ntmps65
    go_wp2_with fail
    refine (runStep_end w bt bm _ ⟨bt, 0, none⟩ enters_store hc hcall (fun w1 hR => ⟨_, _, _, hR.1, rfl⟩)).mono ?_
    rintro e w' ⟨rfl, w1, ⟨hb, hM, hg⟩, rfl⟩
    go_wp2
    go_ret
    exact ⟨rfl, hset _ _ _ _ _ hb hM hg⟩
  | n + 2 =>
    rw [show pubStep i time L (n + 2) = (n + 2, L) from rfl]
    go_enter Try.func65, Try.ntmps65
    go_wp2_with fail
    refine (runStep_done w bt bm hc).mono ?_
    rintro e w' ⟨rfl, rfl⟩
    go_wp2
    go_ret
    exact ⟨by simp, hT, by simpa using M, Chg.refl _ _⟩
end Go.Proofs.Ytfoojallpmibfaa
