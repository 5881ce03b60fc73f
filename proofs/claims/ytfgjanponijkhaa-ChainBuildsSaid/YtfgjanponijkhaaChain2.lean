/- Lookup (package chain), and blinktreelaw10's read. -/
import Derived.Test.YtfgjanponijkhaaChain1
namespace Go.Proofs.Ytfgjanponijkhaa
open Go.RowKit
set_option maxRecDepth 100000

/-- A step whose state function leaves the machine's block and other parts. -/
theorem runStep_to {K : Know} {w : World} {b m : Nat} {s : FV} {o : Option FV} {nx : Value} {tl : List Value} {T : TypeId} {F' : List Comp} (hf : Enters s.f) (hc : w.cell? ⟨b, 0, none⟩ = some (stV (some s)))
    (hcall : Calls Try.prog s.f (s.x ++ #[.pointer (some ⟨m, 0, none⟩)] ++ s.y) w fun e w1 => e = .returned (stV o) ∧ St K w1 (blk b (.cells (nx :: tl).toArray T) :: F')) :
    Calls Try.prog 103 #[.pointer (some ⟨b, 0, none⟩), .pointer (some ⟨m, 0, none⟩)] w fun e w' => e = .returned (.bool o.isNone) ∧ St K w' (blk b (.cells (stV o :: tl).toArray T) :: F') := by
  refine (runStep_st (R := fun l => l = ⟨o, K, nx, tl, T, F'⟩) w b m s hf hc (hcall.mono fun e w1 ⟨he, hs⟩ => ⟨⟨o, K, nx, tl, T, F'⟩, he, rfl, hs⟩)).mono ?_
  rintro e w' ⟨l, he, rfl, hs⟩
  exact ⟨he, hs⟩

/-- The state functions of Lookup. -/
def lkPv (b : Nat) : Nat → Option FV
  | 0 => some ⟨161, #[.pointer (some ⟨b, 2, none⟩)], #[]⟩
  | 1 => some ⟨199, #[.pointer (some ⟨b, 2, none⟩)], #[]⟩
  | 2 => some ⟨203, #[.pointer (some ⟨b, 2, none⟩)], #[]⟩
  | 3 => some ⟨162, #[.pointer (some ⟨b, 0, none⟩)], #[]⟩
  | _ => none
def lkC (b : Nat) (d : Cfg) (ch tm : Int) (s : ChS) : Comp := blk b (.cells (chCells (stV (lkPv b s.pc)) d ch tm (s).at' (s).first (.func (.func 123) #[.pointer (some ⟨b, 0, none⟩)] #[]) [.string (s).k, .bool (s).ok]).toArray 190)

section
variable {K : Know} {b : Nat} {d : Cfg} {ch tm : Int}

theorem lkFound_st : Thens K b d ch tm 190 (lkPv b) (fun k o => [.string k, .bool o]) lkEnd 123 #[.pointer (some ⟨b, 0, none⟩)] #[] := by
  intro G w nx s hs
  have k := hs.k0
  unfold chCells at k
  by_cases h : s.at' = 0
  · have e : lkEnd s = { s with pc := 4 } := by unfold lkEnd; rw [if_pos h]
    rw [e]
    have h' : (s.at' == 0) = true := by simpa using h
    clear h e
    go_enter Try.func123, Try.ntmps123
    go_wp2
    go_ret
    exact ⟨rfl, hs⟩
  · have e : lkEnd s = { s with pc := 3 } := by unfold lkEnd; rw [if_neg h]
    rw [e]
    have h' : (s.at' == 0) = false := by simpa using h
    clear h e
    go_enter Try.func123, Try.ntmps123
    go_wp2
    go_ret
    exact ⟨rfl, hs⟩

set_option maxHeartbeats 4000000 in
theorem lkRead_st {G : List Comp} {w : World} {nx : Value} {s : ChS} {bm bc : Nat} {L : List Cel} {acc : Nat} (hd : d.Ok) (hat : 0 ≤ s.at' ∧ s.at' < 18446744073709551616) (ha : acc ≤ 1000000000000)
    (hs : St K w (blk b (.cells (chCells nx d ch tm (s).at' (s).first (.func (.func 123) #[.pointer (some ⟨b, 0, none⟩)] #[]) [.string (s).k, .bool (s).ok]).toArray 190) :: memC bm bc L acc :: G)) (h3 : s.pc = 3) :
    Calls Try.prog 162 #[.pointer (some ⟨b, 0, none⟩), .pointer (some ⟨bm, 0, none⟩)] w fun e w' => e = .returned (stV (lkPv b (lkStep d ch tm L s).pc)) ∧ St K w' (blk b (.cells (chCells nx d ch tm (lkStep d ch tm L s).at' (lkStep d ch tm L s).first (.func (.func 123) #[.pointer (some ⟨b, 0, none⟩)] #[]) [.string (lkStep d ch tm L s).k, .bool (lkStep d ch tm L s).ok]).toArray 190) :: memC bm bc L (acc + 1) :: G) := by
  obtain ⟨c, hc⟩ : ∃ c, c = getC L (d.record s.at' 1) := ⟨_, rfl⟩
  have e : lkStep d ch tm L s = if c.m = 1 then { s with pc := 4, ok := false } else { s with pc := 4, ok := true, k := c.k } := by
    unfold lkStep; rw [if_neg (by omega), if_pos h3, hc]
  obtain ⟨s', hs'⟩ : ∃ s', s' = lkStep d ch tm L s := ⟨_, rfl⟩
  rw [← hs']
  have Hs' := Lib.hid (hs'.trans e)
  clear e h3 hs'
  have q0 := fun (w : World) (F : List Comp) (hs : St K w (memC bm bc L acc :: F)) => load_st (i := d.record s.at' 1) hs ha
  rw [← hc] at q0
  have Q0 := Lib.hid q0
  clear q0 hc
  have k := hs.k0
  unfold chCells at k
  go_enter Try.func162, Try.ntmps162
  go_upto_region 1 with (fail)
  go_cut [5] (fun v wx => ∃ bx, v = .pointer (some ⟨bx, 0, none⟩) ∧ St K wx (blk bx (.cells #[.int .u64 c.n, .string c.k, .int .u64 c.m] 41) :: memC bm bc L (acc + 1) :: blk b (.cells (chCells nx d ch tm (s).at' (s).first (.func (.func 123) #[.pointer (some ⟨b, 0, none⟩)] #[]) [.string (s).k, .bool (s).ok]).toArray 190) :: G))
  case first =>
    have hne : b ≠ w.heap.size := Nat.ne_of_lt hs.n0
    have hk2 : ∀ (o : Obj) (k : Nat), (w.alloc o).cell? ⟨b, k, none⟩ = w.cell? ⟨b, k, none⟩ := fun o k => by rw [World.cell?_of_block (w := w) (a := ⟨b, k, none⟩)]; exact Below.heap_alloc w o b hs.n0
    go_region_with (first | (go_at_call 111; refine (value_any d hd s.at' hat.1 hat.2 _).mono ?_; rintro e w1 ⟨rfl, hb⟩; have hs1 := (by first | exact hs.drew.same hb | exact (St.drewMade hs _).same hb : St K w1 _)) | (go_at_call 151; (first | refine (Q0.out _ _ hs1.b1).mono ?_ | refine (Q0.out _ _ hs1.b2).mono ?_ | refine (Q0.out _ _ (hs1.made _).b2).mono ?_); rintro e w2 ⟨rfl, hs2⟩; have kx := hs2.k1; have fx := hs2.f1))
    all_goals
      go_wp2
      go_meet
      first
        | exact ⟨_, rfl, ((hs2.b1.setL 0 (.int .u64 c.n)).setL 1 (.string c.k)).setL 2 (.int .u64 c.m)⟩
        | exact ⟨_, rfl, hs2.made _⟩
  case rest =>
    clear k hs
    obtain ⟨bx, rfl, hs⟩ := hcut
    have kx := hs.k0
    have hs := hs.b2
    have k := hs.k0
    have kf := hs.f0
    unfold chCells at k
    by_cases h : c.m = 1
    · have g : (c.m != 1) = false := by simpa using h
      have hs := (hs.setL 15 (.bool false)).drop1
      simp only [chCells, List.set_cons_zero, List.set_cons_succ] at hs
      have e := Hs'.out
      rw [if_pos h] at e
      subst e
      clear h
      go_wp2
      go_ret
      exact ⟨rfl, hs⟩
    · have g : (c.m != 1) = true := by simpa using h
      have hs := ((hs.setL 15 (.bool true)).setL 14 (.string c.k)).drop1
      simp only [chCells, List.set_cons_zero, List.set_cons_succ] at hs
      have e := Hs'.out
      rw [if_neg h] at e
      subst e
      clear h
      go_wp2
      go_ret
      exact ⟨rfl, hs⟩

theorem lkPv_none {b p : Nat} : (lkPv b p).isNone = decide (4 ≤ p) := by
  match p with
  | 0 => rfl
  | 1 => rfl
  | 2 => rfl
  | 3 => rfl
  | n + 4 => simp [lkPv]

def accTo (e p acc : Nat) : Nat := if e ≤ p then acc else acc + 1
theorem accTo_le (e p acc : Nat) : accTo e p acc ≤ acc + 1 := by unfold accTo; split <;> omega
theorem accTo_no {e p acc : Nat} (h : p < e) : accTo e p acc = acc + 1 := by unfold accTo; rw [if_neg (by omega)]
theorem accTo_yes {e p acc : Nat} (h : e ≤ p) : accTo e p acc = acc := by unfold accTo; rw [if_pos h]
/-- What the machine's state has to be. -/
def ChS.Ok (s : ChS) : Prop := 0 ≤ s.at' ∧ s.at' < 18446744073709551616

theorem enters_newest : Enters 161 := fun _ _ => rfl
theorem enters_stamp : Enters 199 := fun _ _ => rfl
theorem enters_next : Enters 203 := fun _ _ => rfl
theorem enters_lkRead : Enters 162 := fun _ _ => rfl
theorem enters_lkFound : Enters 123 := fun _ _ => rfl

theorem lkRun_st {G : List Comp} {w : World} {s : ChS} {bm bc : Nat} {L : List Cel} {acc : Nat} (hd : d.Ok) (hch : 0 ≤ ch ∧ ch < 18446744073709551616) (hat : s.Ok) (ha : acc ≤ 1000000000000)
    (hs : St K w (lkC b d ch tm s :: memC bm bc L acc :: G)) :
    Calls Try.prog 103 #[.pointer (some ⟨b, 0, none⟩), .pointer (some ⟨bm, 0, none⟩)] w fun e w' => e = .returned (.bool (decide (4 ≤ (lkStep d ch tm L s).pc))) ∧ St K w' (lkC b d ch tm (lkStep d ch tm L s) :: memC bm bc L (accTo 4 s.pc acc) :: G) := by
  have k0 := hs.k0 0
  rw [show (chCells (stV (lkPv b s.pc)) d ch tm s.at' s.first (.func (.func 123) #[.pointer (some ⟨b, 0, none⟩)] #[]) [.string s.k, .bool s.ok]).toArray[0]? = some (stV (lkPv b s.pc)) by rfl] at k0
  have h4 : s.pc = 0 ∨ s.pc = 1 ∨ s.pc = 2 ∨ s.pc = 3 ∨ 4 ≤ s.pc := by omega
  rw [← lkPv_none (b := b)]
  rcases h4 with h | h | h | h | h
  · have e1 : lkStep d ch tm L s = wkStep lkEnd d ch tm L s := by unfold lkStep; rw [if_pos (by omega)]
    have q := newest_st (f := 123) hd hch ha enters_lkFound lkFound_st rfl hs h
    rw [e1, accTo_no (by omega)]
    rw [h] at k0
    exact runStep_to enters_newest k0 q
  · have e1 : lkStep d ch tm L s = wkStep lkEnd d ch tm L s := by unfold lkStep; rw [if_pos (by omega)]
    have q := stamp_st (f := 123) hd hat ha enters_lkFound lkFound_st rfl hs h
    rw [e1, accTo_no (by omega)]
    rw [h] at k0
    exact runStep_to enters_stamp k0 q
  · have e1 : lkStep d ch tm L s = wkStep lkEnd d ch tm L s := by unfold lkStep; rw [if_pos (by omega)]
    have q := next_st (f := 123) hd hat ha enters_lkFound lkFound_st rfl hs h
    rw [e1, accTo_no (by omega)]
    rw [h] at k0
    exact runStep_to enters_next k0 q
  · have q := lkRead_st hd hat ha hs h
    rw [accTo_no (by omega)]
    rw [h] at k0
    exact runStep_to enters_lkRead k0 q
  · have e1 : lkStep d ch tm L s = s := by unfold lkStep; rw [if_neg (by omega), if_neg (by omega)]
    have e2 : lkPv b s.pc = none := by
      have := lkPv_none (b := b) (p := s.pc)
      rw [decide_eq_true h] at this
      simpa using this
    rw [e1, accTo_yes h, e2]
    rw [e2] at k0
    exact runStep_end_st hs k0

theorem lkStep_st {G : List Comp} {w : World} {s : ChS} {bm bc : Nat} {L : List Cel} {acc : Nat} (hd : d.Ok) (hch : 0 ≤ ch ∧ ch < 18446744073709551616) (hat : s.Ok) (ha : acc ≤ 1000000000000)
    (hs : St K w (lkC b d ch tm s :: memC bm bc L acc :: G)) :
    Calls Try.prog 55 #[.pointer (some ⟨b, 0, none⟩), .pointer (some ⟨bm, 0, none⟩)] w fun e w' => e = .returned (.bool (decide (4 ≤ (lkStep d ch tm L s).pc))) ∧ St K w' (lkC b d ch tm (lkStep d ch tm L s) :: memC bm bc L (accTo 4 s.pc acc) :: G) := by
  have Q := Lib.hid (lkRun_st hd hch hat ha hs)
  clear hs
  go_enter Try.func55, Try.ntmps55
  go_wp2_with fail
  refine (Q.out).mono ?_
  rintro e w1 ⟨rfl, hs⟩
  go_wp2
  go_ret
  exact ⟨rfl, hs⟩

theorem lkValue_st {G : List Comp} {w : World} {s : ChS} (hs : St K w (lkC b d ch tm s :: G)) :
    Calls Try.prog 56 #[.pointer (some ⟨b, 0, none⟩)] w fun e w' => e = .returned (.tuple #[.string s.k, .bool s.ok]) ∧ St K w' (lkC b d ch tm s :: G) := by
  have k := hs.k0
  unfold chCells at k
  go_enter Try.func56, Try.ntmps56
  go_upto_region 1 with (fail)
  refine region_pure (by kernel_rfl) (by as_aux_lemma => kernel_rfl) ?_
  repeat (go_big_quiet_step (fail))
  refine wpQuiet_nil ?_
  intro w5 hb5
  have hs := hs.same hb5
  clear k hb5
  go_wp2
  refine bodyPost_ret (v := .tuple #[.string s.k, .bool s.ok]) (by simp [results, Try.results56, go_sem]) rfl ⟨rfl, hs⟩

theorem newLookup_st {F : List Comp} {w : World} (hs : St K w F) :
    Calls Try.prog 53 #[.agg #[.int .i64 d.th, .int .i64 d.sn, .int .i64 d.no, .int .i64 d.ch, .int .i64 d.re, .int .i64 d.fa, .int .u64 d.cl], .int .u64 ch, .int .u64 tm] w fun e w' => ∃ b, e = .returned (.pointer (some ⟨b, 0, none⟩)) ∧ St K w' (lkC b d ch tm lk0 :: F) := by
  have hs := hs.pass (.cells #[.int .i64 d.th, .int .i64 d.sn, .int .i64 d.no, .int .i64 d.ch, .int .i64 d.re, .int .i64 d.fa, .int .u64 d.cl] 30)
  have hs := hs.made (.cells #[.nilFunc, .bool false, .int .i64 d.th, .int .i64 d.sn, .int .i64 d.no, .int .i64 d.ch, .int .i64 d.re, .int .i64 d.fa, .int .u64 d.cl, .int .u64 ch, .int .u64 tm, .int .u64 0, .bool false, .nilFunc, .string ⟨#[]⟩, .bool false] 190)
  rw [World.size_alloc] at hs
  go_enter Try.func53, Try.ntmps53
  go_wp2_with fail
  refine (walkBegin_st 123 _ _ hs).mono ?_
  clear hs
  rintro e w1 ⟨rfl, hs⟩
  go_wp2_with fail
  refine (calls_same hs (begin_any _ _ _ _)).mono ?_
  clear hs
  rintro e w2 ⟨rfl, hs⟩
  have k := hs.k0
  have kf := hs.f0
  have hs := (hs.setL 0 (.func (.func 161) #[.pointer (some ⟨w.heap.size + 1, 2, none⟩)] #[])).setL 1 (.bool true)
  simp only [List.set_cons_zero, List.set_cons_succ] at hs
  go_wp2
  go_ret
  exact ⟨_, rfl, hs⟩
end
end Go.Proofs.Ytfgjanponijkhaa
