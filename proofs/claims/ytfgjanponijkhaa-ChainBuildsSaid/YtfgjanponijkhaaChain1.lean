/- The walk of a chain (package chain): its state functions, for any machine that contains it. -/
import Derived.Test.YtfgjanponijkhaaTail2
import Derived.Test.YtfgjanponijkhaaMemSt
import Derived.Test.YtfgjanponijkhaaRun
import Derived.Test.YtfgjanponijkhaaChainIn
import Derived.Deep.RegionWith
namespace Go.Proofs.Ytfgjanponijkhaa
open Go.RowKit
set_option maxRecDepth 100000

/-- The cells of a machine that walks a chain: its position, the walk, what is its own. -/
def chCells (nx : Value) (d : Cfg) (ch tm at' : Int) (fi : Bool) (th : Value) (rest : List Value) : List Value :=
  nx :: .bool true :: .int .i64 d.th :: .int .i64 d.sn :: .int .i64 d.no :: .int .i64 d.ch :: .int .i64 d.re :: .int .i64 d.fa :: .int .u64 d.cl :: .int .u64 ch :: .int .u64 tm :: .int .u64 at' :: .bool fi :: th :: rest

theorem neq_thunk (f : Nat) (x y : Array Value) (w : World) : (binOp .neq 186 (.func (.func f) x y) .nilFunc).run Try.prog w = .ok (.bool true) w := by kernel_rfl
attribute [go_sem] List.getElem?_toArray List.getElem?_cons_zero List.getElem?_cons_succ

theorem walkBegin_st {K : Know} {w : World} {b : Nat} {nx sd : Value} {d : Cfg} {ch tm at' : Int} {fi : Bool} {th : Value} {rest : List Value} {T : TypeId} {G : List Comp} (f : Nat) (x y : Array Value)
    (hs : St K w (blk b (.cells (nx :: sd :: (chCells nx d ch tm at' fi th rest).drop 2).toArray T) :: G)) :
    Calls Try.prog 122 #[.pointer (some ⟨b, 2, none⟩), .func (.func f) x y] w fun e w' => e = .returned (.func (.func 161) #[.pointer (some ⟨b, 2, none⟩)] #[]) ∧ St K w' (blk b (.cells (nx :: sd :: (chCells nx d ch tm at' fi (.func (.func f) x y) rest).drop 2).toArray T) :: G) := by
  have k := hs.k0
  have kf := hs.f0
  have hs := hs.setL 13 (.func (.func f) x y)
  simp only [chCells, List.drop_succ_cons, List.drop_zero, List.set_cons_zero, List.set_cons_succ] at hs
  simp only [chCells, List.drop_succ_cons, List.drop_zero] at k
  go_enter Try.func122, Try.ntmps122
  go_wp2
  go_ret
  exact ⟨rfl, hs⟩

section
variable {K : Know} {b : Nat} {d : Cfg} {ch tm : Int} {T : TypeId} {pv : Nat → Option FV} {rs : ByteArray → Bool → List Value} {en : ChS → ChS} {f : Nat} {x y : Array Value}

/-- What the machine does at the end of the walk. -/
def Thens (K : Know) (b : Nat) (d : Cfg) (ch tm : Int) (T : TypeId) (pv : Nat → Option FV) (rs : ByteArray → Bool → List Value) (en : ChS → ChS) (f : Nat) (x y : Array Value) : Prop :=
  ∀ (G : List Comp) (w : World) (nx : Value) (s : ChS), St K w (blk b (.cells (chCells nx d ch tm (s).at' (s).first (.func (.func f) x y) (rs (s).k (s).ok)).toArray T) :: G) → Calls Try.prog f (x ++ y) w fun e w' => e = .returned (stV (pv (en s).pc)) ∧ St K w' (blk b (.cells (chCells nx d ch tm (en s).at' (en s).first (.func (.func f) x y) (rs (en s).k (en s).ok)).toArray T) :: G)

theorem go1_st {G : List Comp} {w : World} {nx : Value} {s : ChS} {r : Int} (hf : Enters f) (HT : Thens K b d ch tm T pv rs en f x y) (hp1 : pv 1 = some ⟨199, #[.pointer (some ⟨b, 2, none⟩)], #[]⟩) (hs : St K w (blk b (.cells (chCells nx d ch tm (s).at' (s).first (.func (.func f) x y) (rs (s).k (s).ok)).toArray T) :: G)) :
    Calls Try.prog 184 #[.pointer (some ⟨b, 2, none⟩), .int .u64 r] w fun e w' => e = .returned (stV (pv (wkGo en s r).pc)) ∧ St K w' (blk b (.cells (chCells nx d ch tm (wkGo en s r).at' (wkGo en s r).first (.func (.func f) x y) (rs (wkGo en s r).k (wkGo en s r).ok)).toArray T) :: G) := by
  have hf' : ∀ (args : Array Value) (w : World), (callFunc f args).run Try.prog w = .ok (.enter f args) w := hf
  have k := hs.k0
  have kf := hs.f0
  have hs := hs.setL 11 (.int .u64 r)
  simp only [chCells, List.set_cons_zero, List.set_cons_succ] at hs
  unfold chCells at k
  by_cases h : r = 0
  · subst h
    have e : wkGo en s 0 = en { s with at' := 0 } := rfl
    rw [e]
    have q := HT G _ nx { s with at' := 0 } hs
    clear hs e
    cases ho : pv (en { s with at' := 0 }).pc with
    | none =>
      rw [ho] at q
      have Q := Lib.hid q
      clear q ho
      go_enter Try.func184, Try.ntmps184
      go_wp2_with fail
      refine (Q.out).mono ?_
      rintro e w1 ⟨he, hs⟩
      obtain rfl : e = .returned .nilFunc := he
      go_wp2
      go_ret
      exact ⟨rfl, hs⟩
    | some o =>
      obtain ⟨f', x', y'⟩ := o
      rw [ho] at q
      have Q := Lib.hid q
      clear q ho
      go_enter Try.func184, Try.ntmps184
      go_wp2_with fail
      refine (Q.out).mono ?_
      rintro e w1 ⟨he, hs⟩
      obtain rfl : e = .returned (.func (.func f') x' y') := he
      go_wp2
      go_ret
      exact ⟨rfl, hs⟩
  · have e : wkGo en s r = { s with at' := r, pc := 1 } := by unfold wkGo; rw [if_neg h]
    rw [e, hp1]
    have h' : (r == 0) = false := by simpa using h
    clear h e
    go_enter Try.func184, Try.ntmps184
    go_wp2
    go_ret
    exact ⟨rfl, hs⟩

set_option maxHeartbeats 1000000 in
theorem newest_st {G : List Comp} {w : World} {nx : Value} {s : ChS} {bm bc : Nat} {L : List Cel} {acc : Nat} (hd : d.Ok) (hch : 0 ≤ ch ∧ ch < 18446744073709551616) (ha : acc ≤ 1000000000000) (hf : Enters f) (HT : Thens K b d ch tm T pv rs en f x y) (hp1 : pv 1 = some ⟨199, #[.pointer (some ⟨b, 2, none⟩)], #[]⟩)
    (hs : St K w (blk b (.cells (chCells nx d ch tm (s).at' (s).first (.func (.func f) x y) (rs (s).k (s).ok)).toArray T) :: memC bm bc L acc :: G)) (h0 : s.pc = 0) :
    Calls Try.prog 161 #[.pointer (some ⟨b, 2, none⟩), .pointer (some ⟨bm, 0, none⟩)] w fun e w' => e = .returned (stV (pv (wkStep en d ch tm L s).pc)) ∧ St K w' (blk b (.cells (chCells nx d ch tm (wkStep en d ch tm L s).at' (wkStep en d ch tm L s).first (.func (.func f) x y) (rs (wkStep en d ch tm L s).k (wkStep en d ch tm L s).ok)).toArray T) :: memC bm bc L (acc + 1) :: G) := by
  rw [wkStep_0 h0]
  clear h0
  have k := hs.k0
  have kf := hs.f0
  have hs := hs.setL 12 (.bool true)
  simp only [chCells, List.set_cons_zero, List.set_cons_succ] at hs
  unfold chCells at k
  go_enter Try.func161, Try.ntmps161
  go_upto_region 2 with (fail)
  refine wp_ck hs ?_
  clear k kf hs
  intro W hs
  have k := hs.k0
  refine region_tail_move _ 10 rfl rfl (by kernel_rfl) (by as_aux_lemma => kernel_rfl) (fun _ _ _ _ h => h) ?_
  simp only [List.take_succ_cons, List.take_zero, List.drop_succ_cons, List.drop_zero, Act.put, List.setIfInBounds_toArray, List.set_cons_zero, List.set_cons_succ, Act.eval]
  repeat (go_big_quiet_step ((go_at_call 108; exact pure_of (chain_any d hd ch hch.1 hch.2 _))))
  refine wpQuiet_nil ?_
  intro w5 hb5
  have hs := hs.same hb5
  clear k hb5
  go_wp2_with fail
  refine (load_st hs.b1 ha).mono ?_
  clear hs
  rintro e w6 ⟨rfl, hs⟩
  have q := go1_st (s := { s with first := true }) (r := (getC L (d.chain ch)).n) hf HT hp1 hs.b1
  clear hs
  cases ho : pv (wkGo en { s with first := true } (getC L (d.chain ch)).n).pc with
  | none =>
    rw [ho] at q
    have Q := Lib.hid q
    have Ho := Lib.hid ho
    clear q ho
    go_wp2_with fail
    refine (Q.out).mono ?_
    rintro e w1 ⟨he, hs⟩
    obtain rfl : e = .returned .nilFunc := he
    go_wp2
    go_ret
    exact ⟨by rw [Ho.out]; rfl, hs⟩
  | some o =>
    obtain ⟨f', x', y'⟩ := o
    rw [ho] at q
    have Q := Lib.hid q
    have Ho := Lib.hid ho
    clear q ho
    go_wp2_with fail
    refine (Q.out).mono ?_
    rintro e w1 ⟨he, hs⟩
    obtain rfl : e = .returned (.func (.func f') x' y') := he
    go_wp2
    go_ret
    exact ⟨by rw [Ho.out]; rfl, hs⟩

set_option maxHeartbeats 1000000 in
theorem next_st {G : List Comp} {w : World} {nx : Value} {s : ChS} {bm bc : Nat} {L : List Cel} {acc : Nat} (hd : d.Ok) (hat : 0 ≤ s.at' ∧ s.at' < 18446744073709551616) (ha : acc ≤ 1000000000000) (hf : Enters f) (HT : Thens K b d ch tm T pv rs en f x y) (hp1 : pv 1 = some ⟨199, #[.pointer (some ⟨b, 2, none⟩)], #[]⟩)
    (hs : St K w (blk b (.cells (chCells nx d ch tm (s).at' (s).first (.func (.func f) x y) (rs (s).k (s).ok)).toArray T) :: memC bm bc L acc :: G)) (h2 : s.pc = 2) :
    Calls Try.prog 203 #[.pointer (some ⟨b, 2, none⟩), .pointer (some ⟨bm, 0, none⟩)] w fun e w' => e = .returned (stV (pv (wkStep en d ch tm L s).pc)) ∧ St K w' (blk b (.cells (chCells nx d ch tm (wkStep en d ch tm L s).at' (wkStep en d ch tm L s).first (.func (.func f) x y) (rs (wkStep en d ch tm L s).k (wkStep en d ch tm L s).ok)).toArray T) :: memC bm bc L (acc + 1) :: G) := by
  rw [wkStep_2 h2]
  clear h2
  have k := hs.k0
  have kf := hs.f0
  have hs := hs.setL 12 (.bool false)
  simp only [chCells, List.set_cons_zero, List.set_cons_succ] at hs
  unfold chCells at k
  go_enter Try.func203, Try.ntmps203
  go_upto_region 2 with (fail)
  refine wp_ck hs ?_
  clear k kf hs
  intro W hs
  have k := hs.k0
  refine region_tail_move _ 10 rfl rfl (by kernel_rfl) (by as_aux_lemma => kernel_rfl) (fun _ _ _ _ h => h) ?_
  simp only [List.take_succ_cons, List.take_zero, List.drop_succ_cons, List.drop_zero, Act.put, List.setIfInBounds_toArray, List.set_cons_zero, List.set_cons_succ, Act.eval]
  repeat (go_big_quiet_step ((go_at_call 110; exact pure_of (next_any d hd s.at' hat.1 hat.2 _))))
  refine wpQuiet_nil ?_
  intro w5 hb5
  have hs := hs.same hb5
  clear k hb5
  go_wp2_with fail
  refine (load_st hs.b1 ha).mono ?_
  clear hs
  rintro e w6 ⟨rfl, hs⟩
  have q := go1_st (s := { s with first := false }) (r := (getC L (d.record s.at' 2)).n) hf HT hp1 hs.b1
  clear hs
  cases ho : pv (wkGo en { s with first := false } (getC L (d.record s.at' 2)).n).pc with
  | none =>
    rw [ho] at q
    have Q := Lib.hid q
    have Ho := Lib.hid ho
    clear q ho
    go_wp2_with fail
    refine (Q.out).mono ?_
    rintro e w1 ⟨he, hs⟩
    obtain rfl : e = .returned .nilFunc := he
    go_wp2
    go_ret
    exact ⟨by rw [Ho.out]; rfl, hs⟩
  | some o =>
    obtain ⟨f', x', y'⟩ := o
    rw [ho] at q
    have Q := Lib.hid q
    have Ho := Lib.hid ho
    clear q ho
    go_wp2_with fail
    refine (Q.out).mono ?_
    rintro e w1 ⟨he, hs⟩
    obtain rfl : e = .returned (.func (.func f') x' y') := he
    go_wp2
    go_ret
    exact ⟨by rw [Ho.out]; rfl, hs⟩

set_option maxHeartbeats 1000000 in
theorem stamp_st {G : List Comp} {w : World} {nx : Value} {s : ChS} {bm bc : Nat} {L : List Cel} {acc : Nat} (hd : d.Ok) (hat : 0 ≤ s.at' ∧ s.at' < 18446744073709551616) (ha : acc ≤ 1000000000000) (hf : Enters f) (HT : Thens K b d ch tm T pv rs en f x y) (hp2 : pv 2 = some ⟨203, #[.pointer (some ⟨b, 2, none⟩)], #[]⟩)
    (hs : St K w (blk b (.cells (chCells nx d ch tm (s).at' (s).first (.func (.func f) x y) (rs (s).k (s).ok)).toArray T) :: memC bm bc L acc :: G)) (h1 : s.pc = 1) :
    Calls Try.prog 199 #[.pointer (some ⟨b, 2, none⟩), .pointer (some ⟨bm, 0, none⟩)] w fun e w' => e = .returned (stV (pv (wkStep en d ch tm L s).pc)) ∧ St K w' (blk b (.cells (chCells nx d ch tm (wkStep en d ch tm L s).at' (wkStep en d ch tm L s).first (.func (.func f) x y) (rs (wkStep en d ch tm L s).k (wkStep en d ch tm L s).ok)).toArray T) :: memC bm bc L (acc + 1) :: G) := by
  have hf' : ∀ (args : Array Value) (w : World), (callFunc f args).run Try.prog w = .ok (.enter f args) w := hf
  rw [wkStep_1 h1]
  clear h1
  obtain ⟨c, hc⟩ : ∃ c, c = getC L (d.record s.at' 0) := ⟨_, rfl⟩
  have q0 := fun (w : World) (hs : St K w (memC bm bc L acc :: blk b (.cells (chCells nx d ch tm (s).at' (s).first (.func (.func f) x y) (rs (s).k (s).ok)).toArray T) :: G)) => load_st (i := d.record s.at' 0) hs ha
  rw [← hc] at q0 ⊢
  have Q0 := Lib.hid q0
  clear q0 hc
  have k := hs.k0
  unfold chCells at k
  by_cases h : c.n ≠ 0 ∧ c.n ≤ tm
  · rw [if_pos h]
    have g1 : (c.n != 0) = true := by simpa using h.1
    have g2 : decide (c.n ≤ tm) = true := by simpa using h.2
    clear h
    go_enter Try.func199, Try.ntmps199
    go_upto_region 1 with (fail)
    refine region_tail 10 (by kernel_rfl) (by as_aux_lemma => kernel_rfl) ?_
    simp only [List.take_succ_cons, List.take_zero, List.drop_succ_cons, List.drop_zero]
    repeat (go_big_quiet_step ((go_at_call 107; exact pure_of (stamp_any d hd s.at' hat.1 hat.2 _))))
    refine wpQuiet_nil ?_
    intro w5 hb5
    have hs := hs.same hb5
    clear k hb5
    go_wp2_with fail
    refine (Q0.out _ hs.b1).mono ?_
    clear hs
    rintro e w6 ⟨rfl, hs⟩
    have hs := hs.b1
    have k := hs.k0
    unfold chCells at k
    have q := HT _ _ nx s hs
    clear hs
    cases ho : pv (en s).pc with
    | none =>
      rw [ho] at q
      have Q := Lib.hid q
      have Ho := Lib.hid ho
      clear q ho
      go_wp2_with fail
      refine (Q.out).mono ?_
      rintro e w1 ⟨he, hs⟩
      obtain rfl : e = .returned .nilFunc := he
      go_wp2
      go_ret
      exact ⟨by rw [Ho.out]; rfl, hs⟩
    | some o =>
      obtain ⟨f', x', y'⟩ := o
      rw [ho] at q
      have Q := Lib.hid q
      have Ho := Lib.hid ho
      clear q ho
      go_wp2_with fail
      refine (Q.out).mono ?_
      rintro e w1 ⟨he, hs⟩
      obtain rfl : e = .returned (.func (.func f') x' y') := he
      go_wp2
      go_ret
      exact ⟨by rw [Ho.out]; rfl, hs⟩
  · rw [if_neg h, hp2]
    obtain ⟨o, g0, g2⟩ : ∃ o, (c.n != 0) = o ∧ (o = true → decide (c.n ≤ tm) = false) := ⟨_, rfl, fun h0 => by simp only [decide_eq_false_iff_not]; exact fun h2 => h ⟨by simpa using h0, h2⟩⟩
    clear h
    cases o with
    | true =>
      have g2 := g2 rfl
      go_enter Try.func199, Try.ntmps199
      go_upto_region 1 with (fail)
      refine region_tail 10 (by kernel_rfl) (by as_aux_lemma => kernel_rfl) ?_
      simp only [List.take_succ_cons, List.take_zero, List.drop_succ_cons, List.drop_zero]
      repeat (go_big_quiet_step ((go_at_call 107; exact pure_of (stamp_any d hd s.at' hat.1 hat.2 _))))
      refine wpQuiet_nil ?_
      intro w5 hb5
      have hs := hs.same hb5
      clear k hb5
      go_wp2_with fail
      refine (Q0.out _ hs.b1).mono ?_
      clear hs
      rintro e w6 ⟨rfl, hs⟩
      have hs := hs.b1
      have k := hs.k0
      unfold chCells at k
      go_wp2
      go_ret
      exact ⟨rfl, hs⟩
    | false =>
      clear g2
      go_enter Try.func199, Try.ntmps199
      go_upto_region 1 with (fail)
      refine region_tail 10 (by kernel_rfl) (by as_aux_lemma => kernel_rfl) ?_
      simp only [List.take_succ_cons, List.take_zero, List.drop_succ_cons, List.drop_zero]
      repeat (go_big_quiet_step ((go_at_call 107; exact pure_of (stamp_any d hd s.at' hat.1 hat.2 _))))
      refine wpQuiet_nil ?_
      intro w5 hb5
      have hs := hs.same hb5
      clear k hb5
      go_wp2_with fail
      refine (Q0.out _ hs.b1).mono ?_
      clear hs
      rintro e w6 ⟨rfl, hs⟩
      have hs := hs.b1
      have k := hs.k0
      unfold chCells at k
      go_wp2
      go_ret
      exact ⟨rfl, hs⟩
end
end Go.Proofs.Ytfgjanponijkhaa
