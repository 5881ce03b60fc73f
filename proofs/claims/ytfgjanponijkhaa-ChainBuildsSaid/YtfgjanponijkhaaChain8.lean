/- Truncate (package chain). -/
import Derived.Test.YtfgjanponijkhaaChain3
namespace Go.Proofs.Ytfgjanponijkhaa
open Go.RowKit
set_option maxRecDepth 100000

/-- The state functions of Truncate. -/
def trPv (b : Nat) : Nat → Option FV
  | 0 => some ⟨161, #[.pointer (some ⟨b, 2, none⟩)], #[]⟩
  | 1 => some ⟨199, #[.pointer (some ⟨b, 2, none⟩)], #[]⟩
  | 2 => some ⟨203, #[.pointer (some ⟨b, 2, none⟩)], #[]⟩
  | 3 => some ⟨163, #[.pointer (some ⟨b, 0, none⟩)], #[]⟩
  | 4 => some ⟨186, #[.pointer (some ⟨b, 0, none⟩)], #[]⟩
  | 5 => some ⟨200, #[.pointer (some ⟨b, 0, none⟩)], #[]⟩
  | _ => none
def trC (b : Nat) (d : Cfg) (ch tm : Int) (s : ChS) : Comp := blk b (.cells (chCells (stV (trPv b s.pc)) d ch tm (s).at' (s).first (.func (.func 124) #[.pointer (some ⟨b, 0, none⟩)] #[]) [.bool (s).ok]).toArray 193)
theorem trPv_none {b p : Nat} : (trPv b p).isNone = decide (6 ≤ p) := by
  match p with
  | 0 => rfl
  | 1 => rfl
  | 2 => rfl
  | 3 => rfl
  | 4 => rfl
  | 5 => rfl
  | n + 6 => simp [trPv]
theorem enters_trFound : Enters 124 := fun _ _ => rfl
theorem enters_trKeep : Enters 163 := fun _ _ => rfl
theorem enters_trCut : Enters 186 := fun _ _ => rfl
theorem enters_trValue : Enters 200 := fun _ _ => rfl

section
variable {K : Know} {b : Nat} {d : Cfg} {ch tm : Int} {G : List Comp} {w : World} {nx : Value} {s : ChS} {bm bc : Nat} {L : List Cel} {acc : Nat}

theorem trFound_st : Thens K b d ch tm 193 (trPv b) (fun _ o => [.bool o]) trEnd 124 #[.pointer (some ⟨b, 0, none⟩)] #[] := by
  intro G w nx s hs
  have k := hs.k0
  have kf := hs.f0
  unfold chCells at k
  by_cases h : s.at' = 0
  · have e : trEnd s = { s with pc := 6, ok := s.first } := by unfold trEnd; rw [if_pos h]
    rw [e]
    have h' : (s.at' == 0) = true := by simpa using h
    clear h e
    have hs := hs.setL 14 (.bool s.first)
    simp only [chCells, List.set_cons_zero, List.set_cons_succ] at hs
    go_enter Try.func124, Try.ntmps124
    go_wp2
    go_ret
    exact ⟨rfl, hs⟩
  · have e : trEnd s = { s with pc := 3 } := by unfold trEnd; rw [if_neg h]
    rw [e]
    have h' : (s.at' == 0) = false := by simpa using h
    clear h e
    go_enter Try.func124, Try.ntmps124
    go_wp2
    go_ret
    exact ⟨rfl, hs⟩

theorem trJudge_st (hs : St K w (blk b (.cells (chCells nx d ch tm (s).at' (s).first (.func (.func 124) #[.pointer (some ⟨b, 0, none⟩)] #[]) [.bool (s).ok]).toArray 193) :: G)) :
    Calls Try.prog 185 #[.pointer (some ⟨b, 0, none⟩)] w fun e w' => e = .returned (stV (trPv b (trJudge s).pc)) ∧ St K w' (blk b (.cells (chCells nx d ch tm (trJudge s).at' (trJudge s).first (.func (.func 124) #[.pointer (some ⟨b, 0, none⟩)] #[]) [.bool (trJudge s).ok]).toArray 193) :: G) := by
  have k := hs.k0
  unfold chCells at k
  cases h : s.first with
  | true =>
    have e : trJudge s = { s with pc := 5 } := by unfold trJudge; rw [if_pos h]
    rw [h] at k
    rw [e]
    clear e
    have H := Lib.hid h
    clear h
    go_enter Try.func185, Try.ntmps185
    go_wp2
    go_ret
    exact ⟨rfl, hs⟩
  | false =>
    have e : trJudge s = { s with pc := 6 } := by unfold trJudge; rw [if_neg (by simp [h])]
    rw [h] at k
    rw [e]
    clear e
    have H := Lib.hid h
    clear h
    go_enter Try.func185, Try.ntmps185
    go_wp2
    go_ret
    exact ⟨rfl, hs⟩

/-- judge, when it answers a state; and when not. -/
theorem trJudge_some (h : s.first = true) : stV (trPv b (trJudge s).pc) = .func (.func 200) #[.pointer (some ⟨b, 0, none⟩)] #[] := by unfold trJudge; rw [if_pos h]; rfl
theorem trJudge_no (h : s.first = false) : stV (trPv b (trJudge s).pc) = .nilFunc := by unfold trJudge; rw [if_neg (by simp [h])]; rfl

set_option maxHeartbeats 1000000 in
theorem trKeep_st (hd : d.Ok) (hat : s.Ok) (ha : acc ≤ 1000000000000) (hs : St K w (blk b (.cells (chCells nx d ch tm (s).at' (s).first (.func (.func 124) #[.pointer (some ⟨b, 0, none⟩)] #[]) [.bool (s).ok]).toArray 193) :: memC bm bc L acc :: G)) (h3 : s.pc = 3) :
    Calls Try.prog 163 #[.pointer (some ⟨b, 0, none⟩), .pointer (some ⟨bm, 0, none⟩)] w fun e w' => e = .returned (stV (trPv b (trStep d ch tm (s, L)).1.pc)) ∧ St K w' (blk b (.cells (chCells nx d ch tm ((trStep d ch tm (s, L)).1).at' ((trStep d ch tm (s, L)).1).first (.func (.func 124) #[.pointer (some ⟨b, 0, none⟩)] #[]) [.bool ((trStep d ch tm (s, L)).1).ok]).toArray 193) :: memC bm bc (trStep d ch tm (s, L)).2 (acc + 1) :: G) := by
  obtain ⟨c, hc⟩ : ∃ c, c = getC L (d.record s.at' 2) := ⟨_, rfl⟩
  have q0 := fun (w : World) (F : List Comp) (hs : St K w (memC bm bc L acc :: F)) => load_st (i := d.record s.at' 2) hs ha
  rw [← hc] at q0
  have Q0 := Lib.hid q0
  have k := hs.k0
  unfold chCells at k
  by_cases h : c.n = 0
  · have e : trStep d ch tm (s, L) = (trJudge s, L) := by
      simp only [trStep]; rw [if_neg (by omega), if_pos h3, ← hc, if_pos h]
    rw [e]
    have g : (c.n == 0) = true := by simpa using h
    clear e h hc q0 h3
    cases hf : s.first with
    | true =>
      have e := trJudge_some (b := b) hf
      rw [e]
      have qj := fun (w : World) (F : List Comp) (hs : St K w (blk b (.cells (chCells nx d ch tm (s).at' (s).first (.func (.func 124) #[.pointer (some ⟨b, 0, none⟩)] #[]) [.bool (s).ok]).toArray 193) :: F)) => trJudge_st hs
      rw [e] at qj
      have Qj := Lib.hid qj
      clear qj e hf
      go_enter Try.func163, Try.ntmps163
      go_upto_region 1 with (fail)
      refine region_tail 12 (by kernel_rfl) (by as_aux_lemma => kernel_rfl) ?_
      simp only [List.take_succ_cons, List.take_zero, List.drop_succ_cons, List.drop_zero]
      repeat (go_big_quiet_step ((go_at_call 110; exact pure_of (next_any d hd s.at' hat.1 hat.2 _))))
      refine wpQuiet_nil ?_
      intro w5 hb5
      have hs := hs.same hb5
      clear k hb5
      go_wp2_with fail
      refine (Q0.out _ _ hs.b1).mono ?_
      clear hs
      rintro e w6 ⟨rfl, hs⟩
      go_wp2_with fail
      refine (Qj.out _ _ hs.b1).mono ?_
      clear hs
      rintro e w7 ⟨rfl, hs⟩
      go_wp2
      go_ret
      exact ⟨rfl, hs⟩
    | false =>
      have e := trJudge_no (b := b) hf
      rw [e]
      have qj := fun (w : World) (F : List Comp) (hs : St K w (blk b (.cells (chCells nx d ch tm (s).at' (s).first (.func (.func 124) #[.pointer (some ⟨b, 0, none⟩)] #[]) [.bool (s).ok]).toArray 193) :: F)) => trJudge_st hs
      rw [e] at qj
      have Qj := Lib.hid qj
      clear qj e hf
      go_enter Try.func163, Try.ntmps163
      go_upto_region 1 with (fail)
      refine region_tail 12 (by kernel_rfl) (by as_aux_lemma => kernel_rfl) ?_
      simp only [List.take_succ_cons, List.take_zero, List.drop_succ_cons, List.drop_zero]
      repeat (go_big_quiet_step ((go_at_call 110; exact pure_of (next_any d hd s.at' hat.1 hat.2 _))))
      refine wpQuiet_nil ?_
      intro w5 hb5
      have hs := hs.same hb5
      clear k hb5
      go_wp2_with fail
      refine (Q0.out _ _ hs.b1).mono ?_
      clear hs
      rintro e w6 ⟨rfl, hs⟩
      go_wp2_with fail
      refine (Qj.out _ _ hs.b1).mono ?_
      clear hs
      rintro e w7 ⟨rfl, hs⟩
      go_wp2
      go_ret
      exact ⟨rfl, hs⟩
  · have e : trStep d ch tm (s, L) = ({ s with pc := 4 }, L) := by
      simp only [trStep]; rw [if_neg (by omega), if_pos h3, ← hc, if_neg h]
    rw [e]
    have g : (c.n == 0) = false := by simpa using h
    clear e h hc q0 h3
    go_enter Try.func163, Try.ntmps163
    go_upto_region 1 with (fail)
    refine region_tail 12 (by kernel_rfl) (by as_aux_lemma => kernel_rfl) ?_
    simp only [List.take_succ_cons, List.take_zero, List.drop_succ_cons, List.drop_zero]
    repeat (go_big_quiet_step ((go_at_call 110; exact pure_of (next_any d hd s.at' hat.1 hat.2 _))))
    refine wpQuiet_nil ?_
    intro w5 hb5
    have hs := hs.same hb5
    clear k hb5
    go_wp2_with fail
    refine (Q0.out _ _ hs.b1).mono ?_
    clear hs
    rintro e w6 ⟨rfl, hs⟩
    have hs := hs.b1
    have k := hs.k0
    unfold chCells at k
    go_wp2
    go_ret
    exact ⟨rfl, hs⟩

set_option maxHeartbeats 1000000 in
theorem trCut_st (hd : d.Ok) (hat : s.Ok) (ha : acc ≤ 1000000000000) (hs : St K w (blk b (.cells (chCells nx d ch tm (s).at' (s).first (.func (.func 124) #[.pointer (some ⟨b, 0, none⟩)] #[]) [.bool (s).ok]).toArray 193) :: memC bm bc L acc :: G)) (h4 : s.pc = 4) :
    Calls Try.prog 186 #[.pointer (some ⟨b, 0, none⟩), .pointer (some ⟨bm, 0, none⟩)] w fun e w' => e = .returned (stV (trPv b (trStep d ch tm (s, L)).1.pc)) ∧ St K w' (blk b (.cells (chCells nx d ch tm ((trStep d ch tm (s, L)).1).at' ((trStep d ch tm (s, L)).1).first (.func (.func 124) #[.pointer (some ⟨b, 0, none⟩)] #[]) [.bool ((trStep d ch tm (s, L)).1).ok]).toArray 193) :: memC bm bc (trStep d ch tm (s, L)).2 (acc + 1) :: G) := by
  have e : trStep d ch tm (s, L) = (trJudge s, putC L (d.record s.at' 2) Cel.zero) := by
    simp only [trStep]; rw [if_neg (by omega), if_neg (by omega), if_pos h4]
  rw [e]
  clear e h4
  have k := hs.k0
  unfold chCells at k
  cases hf : s.first with
  | true =>
    have e := trJudge_some (b := b) hf
    rw [e]
    have qj := fun (w : World) (F : List Comp) (hs : St K w (blk b (.cells (chCells nx d ch tm (s).at' (s).first (.func (.func 124) #[.pointer (some ⟨b, 0, none⟩)] #[]) [.bool (s).ok]).toArray 193) :: F)) => trJudge_st hs
    rw [e] at qj
    have Qj := Lib.hid qj
    clear qj e hf
    go_enter Try.func186, Try.ntmps186
    go_upto_region 1 with (fail)
    refine region_tail 13 (by kernel_rfl) (by as_aux_lemma => kernel_rfl) ?_
    simp only [List.take_succ_cons, List.take_zero, List.drop_succ_cons, List.drop_zero]
    repeat (go_big_quiet_step ((go_at_call 110; exact pure_of (next_any d hd s.at' hat.1 hat.2 _))))
    refine wpQuiet_nil ?_
    intro w5 hb5
    have hs := hs.same hb5
    clear k hb5
    go_wp2_with fail
    refine (store_st (c := Cel.zero) hs.b1 ha).mono ?_
    clear hs
    rintro e w6 ⟨rfl, hs⟩
    go_wp2_with fail
    refine (Qj.out _ _ hs.b1).mono ?_
    clear hs
    rintro e w7 ⟨rfl, hs⟩
    go_wp2
    go_ret
    exact ⟨rfl, hs⟩
  | false =>
    have e := trJudge_no (b := b) hf
    rw [e]
    have qj := fun (w : World) (F : List Comp) (hs : St K w (blk b (.cells (chCells nx d ch tm (s).at' (s).first (.func (.func 124) #[.pointer (some ⟨b, 0, none⟩)] #[]) [.bool (s).ok]).toArray 193) :: F)) => trJudge_st hs
    rw [e] at qj
    have Qj := Lib.hid qj
    clear qj e hf
    go_enter Try.func186, Try.ntmps186
    go_upto_region 1 with (fail)
    refine region_tail 13 (by kernel_rfl) (by as_aux_lemma => kernel_rfl) ?_
    simp only [List.take_succ_cons, List.take_zero, List.drop_succ_cons, List.drop_zero]
    repeat (go_big_quiet_step ((go_at_call 110; exact pure_of (next_any d hd s.at' hat.1 hat.2 _))))
    refine wpQuiet_nil ?_
    intro w5 hb5
    have hs := hs.same hb5
    clear k hb5
    go_wp2_with fail
    refine (store_st (c := Cel.zero) hs.b1 ha).mono ?_
    clear hs
    rintro e w6 ⟨rfl, hs⟩
    go_wp2_with fail
    refine (Qj.out _ _ hs.b1).mono ?_
    clear hs
    rintro e w7 ⟨rfl, hs⟩
    go_wp2
    go_ret
    exact ⟨rfl, hs⟩

set_option maxHeartbeats 1000000 in
theorem trValue_st (hd : d.Ok) (hat : s.Ok) (ha : acc ≤ 1000000000000) (hs : St K w (blk b (.cells (chCells nx d ch tm (s).at' (s).first (.func (.func 124) #[.pointer (some ⟨b, 0, none⟩)] #[]) [.bool (s).ok]).toArray 193) :: memC bm bc L acc :: G)) (h5 : s.pc = 5) :
    Calls Try.prog 200 #[.pointer (some ⟨b, 0, none⟩), .pointer (some ⟨bm, 0, none⟩)] w fun e w' => e = .returned (stV (trPv b (trStep d ch tm (s, L)).1.pc)) ∧ St K w' (blk b (.cells (chCells nx d ch tm ((trStep d ch tm (s, L)).1).at' ((trStep d ch tm (s, L)).1).first (.func (.func 124) #[.pointer (some ⟨b, 0, none⟩)] #[]) [.bool ((trStep d ch tm (s, L)).1).ok]).toArray 193) :: memC bm bc (trStep d ch tm (s, L)).2 (acc + 1) :: G) := by
  have e : trStep d ch tm (s, L) = ({ s with pc := 6, ok := decide ((getC L (d.record s.at' 1)).m = 1) }, L) := by
    simp only [trStep]; rw [if_neg (by omega), if_neg (by omega), if_neg (by omega), if_pos h5]
  rw [e]
  clear e h5
  obtain ⟨c, hc⟩ : ∃ c, c = getC L (d.record s.at' 1) := ⟨_, rfl⟩
  have q0 := fun (w : World) (F : List Comp) (hs : St K w (memC bm bc L acc :: F)) => load_st (i := d.record s.at' 1) hs ha
  rw [← hc] at q0
  have Q0 := Lib.hid q0
  obtain ⟨o, ho⟩ : ∃ o, o = decide (c.m = 1) := ⟨_, rfl⟩
  rw [← hc, ← ho]
  have g : (c.m == 1) = o := by rw [ho]; rfl
  clear hc ho q0
  have k := hs.k0
  unfold chCells at k
  go_enter Try.func200, Try.ntmps200
  go_upto_region 1 with (fail)
  refine region_tail_move _ 12 rfl rfl (by kernel_rfl) (by as_aux_lemma => kernel_rfl) (fun _ _ _ _ h => h) ?_
  simp only [List.take_succ_cons, List.take_zero, List.drop_succ_cons, List.drop_zero, Act.put, List.setIfInBounds_toArray, List.set_cons_zero, List.set_cons_succ, Act.eval]
  repeat (go_big_quiet_step ((go_at_call 111; exact pure_of (value_any d hd s.at' hat.1 hat.2 _))))
  refine wpQuiet_nil ?_
  intro w5 hb5
  have hs := hs.same hb5
  clear k hb5
  go_wp2_with fail
  refine (Q0.out _ _ hs.b1).mono ?_
  clear hs
  rintro e w6 ⟨rfl, hs⟩
  have hs := hs.b1
  have k := hs.k0
  have kf := hs.f0
  unfold chCells at k
  have hs := hs.setL 14 (.bool o)
  simp only [chCells, List.set_cons_zero, List.set_cons_succ] at hs
  go_wp2
  go_ret
  exact ⟨rfl, hs⟩

theorem trRun_st (hd : d.Ok) (hch : 0 ≤ ch ∧ ch < 18446744073709551616) (hat : s.Ok) (ha : acc ≤ 1000000000000)
    (hs : St K w (trC b d ch tm s :: memC bm bc L acc :: G)) :
    Calls Try.prog 103 #[.pointer (some ⟨b, 0, none⟩), .pointer (some ⟨bm, 0, none⟩)] w fun e w' => e = .returned (.bool (decide (6 ≤ (trStep d ch tm (s, L)).1.pc))) ∧ St K w' (trC b d ch tm (trStep d ch tm (s, L)).1 :: memC bm bc (trStep d ch tm (s, L)).2 (accTo 6 s.pc acc) :: G) := by
  have k0 := hs.k0 0
  rw [show (chCells (stV (trPv b s.pc)) d ch tm s.at' s.first (.func (.func 124) #[.pointer (some ⟨b, 0, none⟩)] #[]) [.bool s.ok]).toArray[0]? = some (stV (trPv b s.pc)) by rfl] at k0
  have h4 : s.pc = 0 ∨ s.pc = 1 ∨ s.pc = 2 ∨ s.pc = 3 ∨ s.pc = 4 ∨ s.pc = 5 ∨ 6 ≤ s.pc := by omega
  rw [← trPv_none (b := b)]
  rcases h4 with h | h | h | h | h | h | h
  · have e1 : trStep d ch tm (s, L) = (wkStep trEnd d ch tm L s, L) := by simp only [trStep]; rw [if_pos (by omega)]
    have q := newest_st (f := 124) hd hch ha enters_trFound trFound_st rfl hs h
    rw [e1, accTo_no (by omega)]
    rw [h] at k0
    exact runStep_to enters_newest k0 q
  · have e1 : trStep d ch tm (s, L) = (wkStep trEnd d ch tm L s, L) := by simp only [trStep]; rw [if_pos (by omega)]
    have q := stamp_st (f := 124) hd hat ha enters_trFound trFound_st rfl hs h
    rw [e1, accTo_no (by omega)]
    rw [h] at k0
    exact runStep_to enters_stamp k0 q
  · have e1 : trStep d ch tm (s, L) = (wkStep trEnd d ch tm L s, L) := by simp only [trStep]; rw [if_pos (by omega)]
    have q := next_st (f := 124) hd hat ha enters_trFound trFound_st rfl hs h
    rw [e1, accTo_no (by omega)]
    rw [h] at k0
    exact runStep_to enters_next k0 q
  · have q := trKeep_st hd hat ha hs h
    rw [accTo_no (by omega)]
    rw [h] at k0
    exact runStep_to enters_trKeep k0 q
  · have q := trCut_st hd hat ha hs h
    rw [accTo_no (by omega)]
    rw [h] at k0
    exact runStep_to enters_trCut k0 q
  · have q := trValue_st hd hat ha hs h
    rw [accTo_no (by omega)]
    rw [h] at k0
    exact runStep_to enters_trValue k0 q
  · have e1 : trStep d ch tm (s, L) = (s, L) := by simp only [trStep]; rw [if_neg (by omega), if_neg (by omega), if_neg (by omega), if_neg (by omega)]
    have e2 : trPv b s.pc = none := by
      have := trPv_none (b := b) (p := s.pc)
      rw [decide_eq_true h] at this
      simpa using this
    rw [e1, accTo_yes h, e2]
    rw [e2] at k0
    exact runStep_end_st hs k0

theorem trStep_st (hd : d.Ok) (hch : 0 ≤ ch ∧ ch < 18446744073709551616) (hat : s.Ok) (ha : acc ≤ 1000000000000)
    (hs : St K w (trC b d ch tm s :: memC bm bc L acc :: G)) :
    Calls Try.prog 58 #[.pointer (some ⟨b, 0, none⟩), .pointer (some ⟨bm, 0, none⟩)] w fun e w' => e = .returned (.bool (decide (6 ≤ (trStep d ch tm (s, L)).1.pc))) ∧ St K w' (trC b d ch tm (trStep d ch tm (s, L)).1 :: memC bm bc (trStep d ch tm (s, L)).2 (accTo 6 s.pc acc) :: G) := by
  have Q := Lib.hid (trRun_st hd hch hat ha hs)
  clear hs
  go_enter Try.func58, Try.ntmps58
  go_wp2_with fail
  refine (Q.out).mono ?_
  rintro e w1 ⟨rfl, hs⟩
  go_wp2
  go_ret
  exact ⟨rfl, hs⟩

theorem trDead_st (hs : St K w (trC b d ch tm s :: G)) :
    Calls Try.prog 60 #[.pointer (some ⟨b, 0, none⟩)] w fun e w' => e = .returned (.bool s.ok) ∧ St K w' (trC b d ch tm s :: G) := by
  have k := hs.k0
  unfold chCells at k
  go_enter Try.func60, Try.ntmps60
  go_wp2
  go_ret
  exact ⟨rfl, hs⟩

theorem newTruncate_st {F : List Comp} (hs : St K w F) :
    Calls Try.prog 57 #[.agg #[.int .i64 d.th, .int .i64 d.sn, .int .i64 d.no, .int .i64 d.ch, .int .i64 d.re, .int .i64 d.fa, .int .u64 d.cl], .int .u64 ch, .int .u64 tm] w fun e w' => ∃ b, e = .returned (.pointer (some ⟨b, 0, none⟩)) ∧ St K w' (trC b d ch tm lk0 :: F) := by
  have hs := hs.pass (.cells #[.int .i64 d.th, .int .i64 d.sn, .int .i64 d.no, .int .i64 d.ch, .int .i64 d.re, .int .i64 d.fa, .int .u64 d.cl] 30)
  have hs := hs.made (.cells #[.nilFunc, .bool false, .int .i64 d.th, .int .i64 d.sn, .int .i64 d.no, .int .i64 d.ch, .int .i64 d.re, .int .i64 d.fa, .int .u64 d.cl, .int .u64 ch, .int .u64 tm, .int .u64 0, .bool false, .nilFunc, .bool false] 193)
  rw [World.size_alloc] at hs
  go_enter Try.func57, Try.ntmps57
  go_wp2_with fail
  refine (walkBegin_st 124 _ _ hs).mono ?_
  clear hs
  rintro e w1 ⟨rfl, hs⟩
  go_wp2_with fail
  refine (calls_same hs (begin_any _ _ _ _)).mono ?_
  clear hs
  rintro e w2 ⟨rfl, hs⟩
  have k := hs.k0
  have kf := hs.f0
  have hs := (hs.setL 0 (.func (.func 161) #[.pointer (some ⟨w.heap.size + 1, 2, none⟩)] #[])).setL 1 (.bool true)
  simp only [List.set_cons_zero, List.set_cons_succ] at hs
  go_wp2
  go_ret
  exact ⟨_, rfl, hs⟩

/-! ### Steps on end -/
theorem trJudge_at (s : ChS) : (trJudge s).at' = s.at' := by unfold trJudge; split <;> rfl
theorem trStep_ok {p : ChS × List Cel} (h : p.1.Ok) (hL : CelsOk p.2) : (trStep d ch tm p).1.Ok ∧ CelsOk (trStep d ch tm p).2 := by
  unfold trStep
  split
  · exact ⟨wkStep_ok trEnd_at hL h, hL⟩
  · split
    · split
      · exact ⟨by unfold ChS.Ok; rw [trJudge_at]; exact h, hL⟩
      · exact ⟨h, hL⟩
    · split
      · exact ⟨by unfold ChS.Ok; rw [trJudge_at]; exact h, hL.put ⟨by decide, by decide⟩⟩
      · split
        · exact ⟨h, hL⟩
        · exact ⟨h, hL⟩
theorem tr_ok (hL : CelsOk L) (n : Nat) : (it (trStep d ch tm) n (lk0, L)).1.Ok ∧ CelsOk (it (trStep d ch tm) n (lk0, L)).2 := by
  induction n with
  | zero => exact ⟨⟨by show (0 : Int) ≤ 0; decide, by show (0 : Int) < 18446744073709551616; decide⟩, hL⟩
  | succ n ih => rw [it_succ]; exact trStep_ok ih.1 ih.2
theorem tr_le {p : ChS × List Cel} (h : p.1.pc ≤ 6) : (trStep d ch tm p).1.pc ≤ 6 := by
  have e : ∀ s : ChS, (trEnd s).pc ≤ 6 := by intro s; unfold trEnd; split <;> simp
  have j : ∀ s : ChS, (trJudge s).pc ≤ 6 := by intro s; unfold trJudge; split <;> simp
  have go : ∀ (s : ChS) (r : Int), (wkGo trEnd s r).pc ≤ 6 := by intro s r; unfold wkGo; split; exact e _; simp
  unfold trStep
  split
  · unfold wkStep
    split
    · exact go _ _
    · split; exact e _; simp
    · exact go _ _
  · split
    · split
      · exact j _
      · simp
    · split
      · exact j _
      · split
        · simp
        · exact h
theorem tr_it_le (n : Nat) : (it (trStep d ch tm) n (lk0, L)).1.pc ≤ 6 := by
  induction n with
  | zero => show 0 ≤ 6; decide
  | succ n ih => rw [it_succ]; exact tr_le ih
theorem tr_end {n m : Nat} (h : 6 ≤ (it (trStep d ch tm) n (lk0, L)).1.pc) (hm : n ≤ m) : it (trStep d ch tm) m (lk0, L) = it (trStep d ch tm) n (lk0, L) :=
  it_rest rfl (tr_fix (by have := tr_it_le (d := d) (ch := ch) (tm := tm) (L := L) n; omega)) hm
end
end Go.Proofs.Ytfgjanponijkhaa
