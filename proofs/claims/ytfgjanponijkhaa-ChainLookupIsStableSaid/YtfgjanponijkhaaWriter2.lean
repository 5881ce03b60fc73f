/- The step of layer 10's writer. -/
import Derived.Test.YtfgjanponijkhaaWriter
import Derived.Test.YtfgjanponijkhaaAw10
import Derived.Test.YtfgjanponijkhaaStepsIn
namespace Go.Proofs.Ytfgjanponijkhaa
open Go.RowKit
set_option maxRecDepth 100000

theorem St.r22 {K : Know} {w : World} {c d e f : Comp} {cs : List Comp} (h : St K w (c :: d :: e :: f :: cs)) : St K w (e :: f :: c :: d :: cs) := h.perm ((List.perm_append_comm (l₁ := [c, d]) (l₂ := [e, f])).append_right cs)

def wrCells (d : Cfg) (bm : Nat) (al : Option Addr) (ll cl : Nat) (at' : Nat) (n st tm : Int) (ph : Ph) : List Value :=
  [.int .i64 d.th, .int .i64 d.sn, .int .i64 d.no, .int .i64 d.ch, .int .i64 d.re, .int .i64 d.fa, .int .u64 d.cl, .pointer (some ⟨bm, 0, none⟩), .slice al ll cl, .int .i64 at', .int .u64 n, .int .u64 st, .int .u64 tm, .pointer (phIn ph), .pointer (phCut ph), .bool (phEnd ph)]

/-- The writer's numbers. -/
def WrB (ll at' : Nat) (n st tm : Int) : Ph → Prop
  | .idle => at' ≤ ll ∧ ll ≤ 8 ∧ 0 ≤ n ∧ n ≤ 8 + at' ∧ 0 ≤ tm ∧ tm ≤ st ∧ st ≤ 8 + at'
  | .inst _ _ _ s => at' < ll ∧ ll ≤ 8 ∧ 1 ≤ n ∧ n ≤ 9 + at' ∧ 0 ≤ tm ∧ tm ≤ st ∧ st ≤ 8 + at' ∧ s.pc ≤ 4
  | .cut _ _ _ => at' < ll ∧ ll ≤ 8 ∧ 0 ≤ n ∧ n ≤ 8 + at' ∧ 0 ≤ tm ∧ tm ≤ st ∧ st ≤ 8 + at'

/-- Behind a step. -/
def WrPost (K : Know) (d : Cfg) (bw bm bc : Nat) (tm : Int) (V : ByteArray × Bool) (al : Option Addr) (ll cl : Nat) (G : List Comp) (n : Int) (ph : Ph) (L : List Cel) (acc : Nat) (w' : World) : Prop :=
  ∃ (at2 : Nat) (n2 st2 : Int) (ph2 : Ph) (L2 : List Cel) (acc2 : Nat), WrB ll at2 n2 st2 tm ph2 ∧ PhOk d tm V n2 L2 ph2 ∧ (∀ x, RdOk d tm V (phN n ph) L x → RdOk d tm V (phN n2 ph2) L2 x) ∧ acc2 ≤ acc + 1 ∧
    St K w' (blk bw (.cells (wrCells d bm al ll cl at2 n2 st2 tm ph2).toArray 89) :: phC d n2 ph2 :: memC bm bc L2 acc2 :: G)

section
variable {K : Know} {d : Cfg} {bw bm bc : Nat} {tm : Int} {V : ByteArray × Bool} {al : Option Addr} {ll cl : Nat} {G : List Comp} {at' : Nat} {n st : Int} {L : List Cel} {acc : Nat} {w : World} {f : Nat → StepD}

/-- The end of the list. -/
theorem writerEnd_st (hs : St K w (blk bw (.cells (wrCells d bm al ll cl ll n st tm Ph.idle).toArray 89) :: G)) (hl : ll ≤ 8) :
    Calls Try.prog 54 #[.pointer (some ⟨bw, 0, none⟩)] w fun e w' => e = .returned (.tuple #[]) ∧ St K w' (blk bw (.cells (wrCells d bm al ll cl ll n st tm Ph.idle).toArray 89) :: G) := by
  have k := hs.k0
  unfold wrCells at k
  have hge : decide (ll ≤ ll) = true := by simp
  have hge2 : decide ((ll : Int) ≥ (ll : Int)) = true := by simp
  go_enter Try.func54, Try.ntmps54
  go_upto_region 0 with (fail)
  refine region_pure (by kernel_rfl) (by as_aux_lemma => kernel_rfl) ?_
  repeat (go_big_quiet_step (fail))
  refine wpQuiet_nil ?_
  intro w2 hb2
  have hs := hs.same hb2
  go_wp2
  refine bodyPost_ret (v := .tuple #[]) (results_none rfl _ _ _) rfl ⟨rfl, hs⟩

set_option maxHeartbeats 2000000 in
/-- Install goes on. -/
theorem writerInst_st {b : Nat} {k' : ByteArray} {del : Bool} {s : InS} (hd : d.Ok) (hn : 0 ≤ n ∧ n < 18446744073709551616) (hlt : at' < ll) (hl : ll ≤ 8) (hpc : s.pc ≤ 3) (ha : acc ≤ 1000000000)
    (hrow : StepsIn w al ll f)
    (hs : St K w (blk bw (.cells (wrCells d bm al ll cl at' n st tm (Ph.inst b k' del s)).toArray 89) :: inC b d 1 n ⟨#[]⟩ k' del s :: memC bm bc L acc :: G)) :
    Calls Try.prog 54 #[.pointer (some ⟨bw, 0, none⟩)] w fun e w' => e = .returned (.tuple #[]) ∧ ∃ acc2, acc2 ≤ acc + 1 ∧
      St K w' (blk bw (.cells (wrCells d bm al ll cl at' n st tm (Ph.inst b k' del (inStep d 1 n (valC k' del) (s, L)).1)).toArray 89) :: inC b d 1 n ⟨#[]⟩ k' del (inStep d 1 n (valC k' del) (s, L)).1 :: memC bm bc (inStep d 1 n (valC k' del) (s, L)).2 acc2 :: G) := by
  have hpe : phEnd (Ph.inst b k' del s) = false := by simp [phEnd]; omega
  have q := fun bx g off wz (hz : St K wz (inC b d 1 n ⟨#[]⟩ k' del s :: memC bm bc L acc :: blk bx (.cells #[.int .i64 ((f at')).kind, .string ((f at')).v, .bool ((f at')).del, .int .u8 ((f at')).fl] 54) :: blk bw (.cells (wrCells d bm (some ⟨g, off, none⟩) ll cl at' n st tm (Ph.inst b k' del s)).toArray 89) :: G)) => inStep_st (ch := 1) hd (by omega) hn (by omega) hz
  obtain ⟨⟨s2, L2⟩, e2⟩ : ∃ p, p = inStep d 1 n (valC k' del) (s, L) := ⟨_, rfl⟩
  rw [← e2] at q ⊢
  have hal := accTo_le 4 s.pc acc
  obtain ⟨acc2, hacc⟩ : ∃ x, x = accTo 4 s.pc acc := ⟨_, rfl⟩
  rw [← hacc] at q hal
  obtain ⟨o, ho⟩ : ∃ o, o = decide (4 ≤ s2.pc) := ⟨_, rfl⟩
  rw [← ho] at q
  have Q := Lib.hid q
  have Ho := Lib.hid ho
  have Hal := Lib.hid hal
  clear q e2 hacc ho hal
  obtain ⟨g, off, rfl, _⟩ := hrow.2 at' hlt
  have k := hs.k0
  unfold wrCells at k
  rw [hpe] at k
  simp only [phIn, phCut] at k
  have hge : decide (ll ≤ at') = false := by simp; omega
  have hge2 : decide ((at' : Int) ≥ (ll : Int)) = false := by simp; omega
  have hin : at' < ll := hlt
  go_enter Try.func54, Try.ntmps54
  go_upto_region 0 with (fail)
  refine region_pure (by kernel_rfl) (by as_aux_lemma => kernel_rfl) ?_
  repeat (go_big_quiet_step (fail))
  refine wpQuiet_nil ?_
  intro w2 hb2
  have hs := hs.same hb2
  obtain ⟨g', off', eg, hg, c0, c1, c2, c3, hsz, _, _⟩ := (hrow.keep hb2).2 at' hlt
  cases eg
  have hgn : g ≠ w2.heap.size := Nat.ne_of_lt hg
  have hk2 : ∀ (o : Obj) (k : Nat), (w2.alloc o).cell? ⟨g, k, none⟩ = w2.cell? ⟨g, k, none⟩ := fun o k => by rw [World.cell?_of_block (w := w2) (a := ⟨g, k, none⟩)]; exact Below.heap_alloc w2 o g hg
  have hne : bw ≠ w2.heap.size := Nat.ne_of_lt hs.n0
  have hk3 : ∀ (o : Obj) (k : Nat), (w2.alloc o).cell? ⟨bw, k, none⟩ = w2.cell? ⟨bw, k, none⟩ := fun o k => by rw [World.cell?_of_block (w := w2) (a := ⟨bw, k, none⟩)]; exact Below.heap_alloc w2 o bw hs.n0
  clear k hb2
  have k := hs.k0
  unfold wrCells at k
  rw [hpe] at k
  simp only [phIn, phCut] at k
  clear hrow
  go_upto_region 1 with (fail)
  go_cut [2] (fun v wx => ∃ bx, v = .pointer (some ⟨bx, 0, none⟩) ∧ St K wx (blk bx (.cells #[.int .i64 ((f at')).kind, .string ((f at')).v, .bool ((f at')).del, .int .u8 ((f at')).fl] 54) :: blk bw (.cells (wrCells d bm (some ⟨g, off, none⟩) ll cl at' n st tm (Ph.inst b k' del s)).toArray 89) :: inC b d 1 n ⟨#[]⟩ k' del s :: memC bm bc L acc :: G))
  case first =>
    go_region
    all_goals
      go_wp2
      go_meet
      first | exact ⟨_, rfl, hs.made _⟩ | exact ⟨_, rfl, (hs.made _).drew⟩ | exact ⟨_, rfl, hs.drew.made _⟩
  case rest =>
    clear hs k c0 c1 c2 c3 hk2 hk3 hgn hne hge hge2 hg
    obtain ⟨bx, rfl, hs⟩ := hcut
    have ks := hs.k0
    have k := hs.k1
    unfold wrCells at k
    rw [hpe] at k
    simp only [phIn, phCut] at k
    have kf := hs.f1
    go_upto_region 13 with (fail)
    refine region_tail_move _ 8 rfl rfl (by kernel_rfl) (by as_aux_lemma => kernel_rfl) (fun _ _ _ _ h => h) ?_
    simp only [List.take_succ_cons, List.take_zero, List.drop_succ_cons, List.drop_zero, Act.put, List.setIfInBounds_toArray, List.set_cons_zero, List.set_cons_succ, Act.eval]
    repeat (go_big_quiet_step (fail))
    refine wpQuiet_nil ?_
    intro w5 hb5
    have hs := hs.same hb5
    clear k ks kf hb5
    go_wp2_with fail
    refine (Q.out _ _ _ _ hs.r22).mono ?_
    clear hs
    rintro e w6 ⟨rfl, hs⟩
    have hs := hs.r22.tail
    have k := hs.k0
    unfold wrCells at k
    rw [hpe] at k
    simp only [phIn, phCut] at k
    have kf := hs.f0
    have hs := hs.setL 15 (.bool o)
    simp only [wrCells, List.set_cons_zero, List.set_cons_succ] at hs
    go_wp2
    go_end0
    exact ⟨rfl, acc2, Hal.out, by unfold wrCells; rw [show phEnd (Ph.inst b k' del s2) = o from Ho.out.symm]; exact hs⟩

set_option maxHeartbeats 2000000 in
/-- Truncate goes on. -/
theorem writerCut_st {b : Nat} {fl : Int} {t : ChS} (hd : d.Ok) (hlt : at' < ll) (hl : ll ≤ 8) (ht : t.Ok) (ha : acc ≤ 1000000000)
    (hrow : StepsIn w al ll f)
    (hs : St K w (blk bw (.cells (wrCells d bm al ll cl at' n st tm (Ph.cut b fl t)).toArray 89) :: trC b d 1 fl t :: memC bm bc L acc :: G)) :
    Calls Try.prog 54 #[.pointer (some ⟨bw, 0, none⟩)] w fun e w' => e = .returned (.tuple #[]) ∧ ∃ acc2, acc2 ≤ acc + 1 ∧
      (St K w' (blk bw (.cells (wrCells d bm al ll cl (at' + 1) n st tm Ph.idle).toArray 89) :: memC bm bc (trStep d 1 fl (t, L)).2 acc2 :: G) ∨
       St K w' (blk bw (.cells (wrCells d bm al ll cl at' n st tm (Ph.cut b fl (trStep d 1 fl (t, L)).1)).toArray 89) :: trC b d 1 fl (trStep d 1 fl (t, L)).1 :: memC bm bc (trStep d 1 fl (t, L)).2 acc2 :: G)) := by
  have hpe : phEnd (Ph.cut b fl t) = false := rfl
  have q := fun bx g off wz (hz : St K wz (trC b d 1 fl t :: memC bm bc L acc :: blk bx (.cells #[.int .i64 ((f at')).kind, .string ((f at')).v, .bool ((f at')).del, .int .u8 ((f at')).fl] 54) :: blk bw (.cells (wrCells d bm (some ⟨g, off, none⟩) ll cl at' n st tm (Ph.cut b fl t)).toArray 89) :: G)) => trStep_st (ch := 1) hd (by omega) ht (by omega) hz
  obtain ⟨⟨t2, L2⟩, e2⟩ : ∃ p, p = trStep d 1 fl (t, L) := ⟨_, rfl⟩
  rw [← e2] at q ⊢
  have hal := accTo_le 6 t.pc acc
  obtain ⟨acc2, hacc⟩ : ∃ x, x = accTo 6 t.pc acc := ⟨_, rfl⟩
  rw [← hacc] at q hal
  obtain ⟨o, ho⟩ : ∃ o, o = decide (6 ≤ t2.pc) := ⟨_, rfl⟩
  rw [← ho] at q
  have Q := Lib.hid q
  have Hal := Lib.hid hal
  clear q e2 hacc ho hal
  obtain ⟨g, off, rfl, _⟩ := hrow.2 at' hlt
  have k := hs.k0
  unfold wrCells at k
  rw [hpe] at k
  simp only [phIn, phCut] at k
  have hge : decide (ll ≤ at') = false := by simp; omega
  have hge2 : decide ((at' : Int) ≥ (ll : Int)) = false := by simp; omega
  have hin : at' < ll := hlt
  go_enter Try.func54, Try.ntmps54
  go_upto_region 0 with (fail)
  refine region_pure (by kernel_rfl) (by as_aux_lemma => kernel_rfl) ?_
  repeat (go_big_quiet_step (fail))
  refine wpQuiet_nil ?_
  intro w2 hb2
  have hs := hs.same hb2
  obtain ⟨g', off', eg, hg, c0, c1, c2, c3, hsz, _, _⟩ := (hrow.keep hb2).2 at' hlt
  cases eg
  have hgn : g ≠ w2.heap.size := Nat.ne_of_lt hg
  have hk2 : ∀ (o : Obj) (k : Nat), (w2.alloc o).cell? ⟨g, k, none⟩ = w2.cell? ⟨g, k, none⟩ := fun o k => by rw [World.cell?_of_block (w := w2) (a := ⟨g, k, none⟩)]; exact Below.heap_alloc w2 o g hg
  have hne : bw ≠ w2.heap.size := Nat.ne_of_lt hs.n0
  have hk3 : ∀ (o : Obj) (k : Nat), (w2.alloc o).cell? ⟨bw, k, none⟩ = w2.cell? ⟨bw, k, none⟩ := fun o k => by rw [World.cell?_of_block (w := w2) (a := ⟨bw, k, none⟩)]; exact Below.heap_alloc w2 o bw hs.n0
  clear k hb2
  have k := hs.k0
  unfold wrCells at k
  rw [hpe] at k
  simp only [phIn, phCut] at k
  clear hrow
  go_upto_region 1 with (fail)
  go_cut [2] (fun v wx => ∃ bx, v = .pointer (some ⟨bx, 0, none⟩) ∧ St K wx (blk bx (.cells #[.int .i64 ((f at')).kind, .string ((f at')).v, .bool ((f at')).del, .int .u8 ((f at')).fl] 54) :: blk bw (.cells (wrCells d bm (some ⟨g, off, none⟩) ll cl at' n st tm (Ph.cut b fl t)).toArray 89) :: trC b d 1 fl t :: memC bm bc L acc :: G))
  case first =>
    go_region
    all_goals
      go_wp2
      go_meet
      first | exact ⟨_, rfl, hs.made _⟩ | exact ⟨_, rfl, (hs.made _).drew⟩ | exact ⟨_, rfl, hs.drew.made _⟩
  case rest =>
    clear hs k c0 c1 c2 c3 hk2 hk3 hgn hne hge hge2 hg
    obtain ⟨bx, rfl, hs⟩ := hcut
    have ks := hs.k0
    have k := hs.k1
    unfold wrCells at k
    rw [hpe] at k
    simp only [phIn, phCut] at k
    have kf := hs.f1
    go_upto_region 15 with (fail)
    refine region_tail 8 (by kernel_rfl) (by as_aux_lemma => kernel_rfl) ?_
    simp only [List.take_succ_cons, List.take_zero, List.drop_succ_cons, List.drop_zero]
    repeat (go_big_quiet_step (fail))
    refine wpQuiet_nil ?_
    intro w5 hb5
    have hs := hs.same hb5
    clear k ks kf hb5
    go_wp2_with fail
    refine (Q.out _ _ _ _ hs.r22).mono ?_
    clear hs
    rintro e w6 ⟨rfl, hs⟩
    have hs := hs.r22.tail
    have k := hs.k0
    unfold wrCells at k
    rw [hpe] at k
    simp only [phIn, phCut] at k
    have kf := hs.f0
    cases o with
    | true =>
      have hs := (hs.setL 9 (.int .i64 ((at' : Int) + 1))).setL 14 (.pointer none)
      simp only [wrCells, List.set_cons_zero, List.set_cons_succ] at hs
      go_wp2
      go_end0
      exact ⟨rfl, acc2, Hal.out, .inl hs.drop1⟩
    | false =>
      go_wp2
      go_end0
      exact ⟨rfl, acc2, Hal.out, .inr hs⟩

set_option maxHeartbeats 2000000 in
/-- The version is taken back. -/
theorem writerBack_st {b : Nat} {k' : ByteArray} {del : Bool} {old : Int} (hd : d.Ok) (hlt : at' < ll) (hl : ll ≤ 8) (ha : acc ≤ 1000000000) (hkd : (f at').kind % 6 = 4)
    (hrow : StepsIn w al ll f)
    (hs : St K w (blk bw (.cells (wrCells d bm al ll cl at' n st tm (Ph.inst b k' del ⟨4, old⟩)).toArray 89) :: inC b d 1 n ⟨#[]⟩ k' del ⟨4, old⟩ :: memC bm bc L acc :: G)) :
    Calls Try.prog 54 #[.pointer (some ⟨bw, 0, none⟩)] w fun e w' => e = .returned (.tuple #[]) ∧
      St K w' (blk bw (.cells (wrCells d bm al ll cl (at' + 1) n st tm Ph.idle).toArray 89) :: memC bm bc (putC L (d.chain 1) ⟨old, ⟨#[]⟩, 0⟩) (acc + 1) :: G) := by
  have hpe : phEnd (Ph.inst b k' del ⟨4, old⟩) = true := rfl
  obtain ⟨g, off, rfl, _⟩ := hrow.2 at' hlt
  have k := hs.k0
  unfold wrCells at k
  rw [hpe] at k
  simp only [phIn, phCut] at k
  have hge : decide (ll ≤ at') = false := by simp; omega
  have hge2 : decide ((at' : Int) ≥ (ll : Int)) = false := by simp; omega
  have hin : at' < ll := hlt
  go_enter Try.func54, Try.ntmps54
  go_upto_region 0 with (fail)
  refine region_pure (by kernel_rfl) (by as_aux_lemma => kernel_rfl) ?_
  repeat (go_big_quiet_step (fail))
  refine wpQuiet_nil ?_
  intro w2 hb2
  have hs := hs.same hb2
  obtain ⟨g', off', eg, hg, c0, c1, c2, c3, hsz, _, _⟩ := (hrow.keep hb2).2 at' hlt
  cases eg
  have hgn : g ≠ w2.heap.size := Nat.ne_of_lt hg
  have hk2 : ∀ (o : Obj) (k : Nat), (w2.alloc o).cell? ⟨g, k, none⟩ = w2.cell? ⟨g, k, none⟩ := fun o k => by rw [World.cell?_of_block (w := w2) (a := ⟨g, k, none⟩)]; exact Below.heap_alloc w2 o g hg
  have hne : bw ≠ w2.heap.size := Nat.ne_of_lt hs.n0
  have hk3 : ∀ (o : Obj) (k : Nat), (w2.alloc o).cell? ⟨bw, k, none⟩ = w2.cell? ⟨bw, k, none⟩ := fun o k => by rw [World.cell?_of_block (w := w2) (a := ⟨bw, k, none⟩)]; exact Below.heap_alloc w2 o bw hs.n0
  clear k hb2
  have k := hs.k0
  unfold wrCells at k
  rw [hpe] at k
  simp only [phIn, phCut] at k
  clear hrow
  go_upto_region 1 with (fail)
  go_cut [2] (fun v wx => ∃ bx, v = .pointer (some ⟨bx, 0, none⟩) ∧ St K wx (blk bx (.cells #[.int .i64 ((f at')).kind, .string ((f at')).v, .bool ((f at')).del, .int .u8 ((f at')).fl] 54) :: blk bw (.cells (wrCells d bm (some ⟨g, off, none⟩) ll cl at' n st tm (Ph.inst b k' del ⟨4, old⟩)).toArray 89) :: inC b d 1 n ⟨#[]⟩ k' del ⟨4, old⟩ :: memC bm bc L acc :: G))
  case first =>
    go_region
    all_goals
      go_wp2
      go_meet
      first | exact ⟨_, rfl, hs.made _⟩ | exact ⟨_, rfl, (hs.made _).drew⟩ | exact ⟨_, rfl, hs.drew.made _⟩
  case rest =>
    clear hs k c0 c1 c2 c3 hk2 hk3 hgn hne hge hge2 hg
    obtain ⟨bx, rfl, hs⟩ := hcut
    have ks := hs.k0
    have k := hs.k1
    unfold wrCells at k
    rw [hpe] at k
    simp only [phIn, phCut] at k
    have kf := hs.f1
    obtain ⟨kd, hk6⟩ : ∃ kd, kd = (f at').kind := ⟨_, rfl⟩
    have Qm := Lib.hid (fun w => mod_any (f at').kind 6 (by omega) (by omega) w)
    rw [hkd] at Qm
    have qo := fun wz (hz : St K wz (blk bx (.cells #[.int .i64 ((f at')).kind, .string ((f at')).v, .bool ((f at')).del, .int .u8 ((f at')).fl] 54) :: blk bw (.cells (wrCells d bm (some ⟨g, off, none⟩) ll cl at' n st tm (Ph.inst b k' del ⟨4, old⟩)).toArray 89) :: inC b d 1 n ⟨#[]⟩ k' del ⟨4, old⟩ :: memC bm bc L acc :: G)) => inOld_any wz hz.tail.tail.head
    have Qo := Lib.hid qo
    clear qo hk6 hkd
    go_wp2_with fail
    refine (Qm.out _).mono ?_
    rintro e w4 ⟨rfl, rfl⟩
    go_upto_region 6 with (fail)
    refine region_tail 9 (by kernel_rfl) (by as_aux_lemma => kernel_rfl) ?_
    simp only [List.take_succ_cons, List.take_zero, List.drop_succ_cons, List.drop_zero]
    repeat (go_big_quiet_step ((go_at_call 42; refine pure_of_same (Qo.out _ ?_); exact hs.same (Pure.below ⟨_, rfl⟩))))
    refine wpQuiet_nil ?_
    intro w5 hb5
    have hs := hs.same hb5
    clear k ks kf hb5
    have hs := hs.tail.b2
    go_wp2_with fail
    refine (newRestore_st (ch := 1) (t := old) hd (by omega) hs).mono ?_
    clear hs
    rintro e w6 ⟨b1, bi, bn, rfl, hs⟩
    have k := hs.tail.tail.tail.k1
    unfold wrCells at k
    rw [hpe] at k
    simp only [phIn, phCut] at k
    go_wp2_with fail
    refine (restoreStep_st (by omega) hs).mono ?_
    clear hs k
    rintro e w7 ⟨rfl, hs⟩
    have hs := hs.b2.tail.b1
    have k := hs.k0
    unfold wrCells at k
    rw [hpe] at k
    simp only [phIn, phCut] at k
    have kf := hs.f0
    have hs := ((hs.setL 9 (.int .i64 ((at' : Int) + 1))).setL 15 (.bool false)).setL 13 (.pointer none)
    simp only [wrCells, List.set_cons_zero, List.set_cons_succ] at hs
    go_wp2
    go_end0
    exact ⟨rfl, hs⟩

set_option maxHeartbeats 2000000 in
/-- The version is stamped. -/
theorem writerStamp_st {b : Nat} {k' : ByteArray} {del : Bool} {old : Int} (hd : d.Ok) (hn : 0 ≤ n ∧ n < 18446744073709551616) (hst : 0 ≤ st ∧ st < 1000000000) (hlt : at' < ll) (hl : ll ≤ 8) (ha : acc ≤ 1000000000) (hkd : (f at').kind % 6 ≠ 4)
    (hrow : StepsIn w al ll f)
    (hs : St K w (blk bw (.cells (wrCells d bm al ll cl at' n st tm (Ph.inst b k' del ⟨4, old⟩)).toArray 89) :: inC b d 1 n ⟨#[]⟩ k' del ⟨4, old⟩ :: memC bm bc L acc :: G)) :
    Calls Try.prog 54 #[.pointer (some ⟨bw, 0, none⟩)] w fun e w' => e = .returned (.tuple #[]) ∧
      St K w' (blk bw (.cells (wrCells d bm al ll cl (at' + 1) n (st + 1) tm Ph.idle).toArray 89) :: memC bm bc (putC L (d.record n 0) ⟨st + 1, ⟨#[]⟩, 0⟩) (acc + 1) :: G) := by
  have hpe : phEnd (Ph.inst b k' del ⟨4, old⟩) = true := rfl
  obtain ⟨g, off, rfl, _⟩ := hrow.2 at' hlt
  have k := hs.k0
  unfold wrCells at k
  rw [hpe] at k
  simp only [phIn, phCut] at k
  have hge : decide (ll ≤ at') = false := by simp; omega
  have hge2 : decide ((at' : Int) ≥ (ll : Int)) = false := by simp; omega
  have hin : at' < ll := hlt
  go_enter Try.func54, Try.ntmps54
  go_upto_region 0 with (fail)
  refine region_pure (by kernel_rfl) (by as_aux_lemma => kernel_rfl) ?_
  repeat (go_big_quiet_step (fail))
  refine wpQuiet_nil ?_
  intro w2 hb2
  have hs := hs.same hb2
  obtain ⟨g', off', eg, hg, c0, c1, c2, c3, hsz, _, _⟩ := (hrow.keep hb2).2 at' hlt
  cases eg
  have hgn : g ≠ w2.heap.size := Nat.ne_of_lt hg
  have hk2 : ∀ (o : Obj) (k : Nat), (w2.alloc o).cell? ⟨g, k, none⟩ = w2.cell? ⟨g, k, none⟩ := fun o k => by rw [World.cell?_of_block (w := w2) (a := ⟨g, k, none⟩)]; exact Below.heap_alloc w2 o g hg
  have hne : bw ≠ w2.heap.size := Nat.ne_of_lt hs.n0
  have hk3 : ∀ (o : Obj) (k : Nat), (w2.alloc o).cell? ⟨bw, k, none⟩ = w2.cell? ⟨bw, k, none⟩ := fun o k => by rw [World.cell?_of_block (w := w2) (a := ⟨bw, k, none⟩)]; exact Below.heap_alloc w2 o bw hs.n0
  clear k hb2
  have k := hs.k0
  unfold wrCells at k
  rw [hpe] at k
  simp only [phIn, phCut] at k
  clear hrow
  go_upto_region 1 with (fail)
  go_cut [2] (fun v wx => ∃ bx, v = .pointer (some ⟨bx, 0, none⟩) ∧ St K wx (blk bx (.cells #[.int .i64 ((f at')).kind, .string ((f at')).v, .bool ((f at')).del, .int .u8 ((f at')).fl] 54) :: blk bw (.cells (wrCells d bm (some ⟨g, off, none⟩) ll cl at' n st tm (Ph.inst b k' del ⟨4, old⟩)).toArray 89) :: inC b d 1 n ⟨#[]⟩ k' del ⟨4, old⟩ :: memC bm bc L acc :: G))
  case first =>
    go_region
    all_goals
      go_wp2
      go_meet
      first | exact ⟨_, rfl, hs.made _⟩ | exact ⟨_, rfl, (hs.made _).drew⟩ | exact ⟨_, rfl, hs.drew.made _⟩
  case rest =>
    clear hs k c0 c1 c2 c3 hk2 hk3 hgn hne hge hge2 hg
    obtain ⟨bx, rfl, hs⟩ := hcut
    have ks := hs.k0
    have k := hs.k1
    unfold wrCells at k
    rw [hpe] at k
    simp only [phIn, phCut] at k
    have kf := hs.f1
    obtain ⟨m, hm, hm4⟩ : ∃ m : Int, m = (f at').kind % 6 ∧ (m == 4) = false := ⟨_, rfl, by simpa using hkd⟩
    have qm := fun w => mod_any (f at').kind 6 (by omega) (by omega) w
    rw [← hm] at qm
    have Qm := Lib.hid qm
    clear qm hm hkd
    go_wp2_with fail
    refine (Qm.out _).mono ?_
    rintro e w4 ⟨rfl, rfl⟩
    have hs := (hs.b1.setL 11 (.int .u64 (st + 1))).b1
    simp only [wrCells, List.set_cons_zero, List.set_cons_succ] at hs
    go_upto_region 9 with (fail)
    refine wp_ck hs ?_
    clear k ks kf hs
    intro W hs
    have ks := hs.k0
    have k := hs.k1
    have kf := hs.f1
    rw [hpe] at k
    simp only [phIn, phCut] at k
    refine region_tail 12 (by kernel_rfl) (by as_aux_lemma => kernel_rfl) ?_
    simp only [List.take_succ_cons, List.take_zero, List.drop_succ_cons, List.drop_zero]
    repeat (go_big_quiet_step (fail))
    refine wpQuiet_nil ?_
    intro w5 hb5
    have hs := hs.same hb5
    clear k ks kf hb5
    have hs := hs.tail.b2
    go_wp2_with fail
    refine (newStamp_st (r := n) (t := st + 1) hd hn hs).mono ?_
    clear hs
    rintro e w6 ⟨b1, bi, bn, rfl, hs⟩
    have k := hs.tail.tail.tail.k1
    rw [hpe] at k
    simp only [phIn, phCut] at k
    go_wp2_with fail
    refine (stampStep_st (by omega) hs).mono ?_
    clear hs k
    rintro e w7 ⟨rfl, hs⟩
    have hs := hs.b2.tail.b1
    have k := hs.k0
    rw [hpe] at k
    simp only [phIn, phCut] at k
    have kf := hs.f0
    have hs := ((hs.setL 9 (.int .i64 ((at' : Int) + 1))).setL 15 (.bool false)).setL 13 (.pointer none)
    simp only [List.set_cons_zero, List.set_cons_succ] at hs
    go_wp2
    go_end0
    exact ⟨rfl, hs⟩

set_option maxHeartbeats 2000000 in
/-- A cut begins. -/
theorem writerNewCut_st (hd : d.Ok) (htm : 0 ≤ tm ∧ tm < 1000000000) (hlt : at' < ll) (hl : ll ≤ 8) (hkd : (f at').kind % 6 = 5)
    (hrow : StepsIn w al ll f)
    (hs : St K w (blk bw (.cells (wrCells d bm al ll cl at' n st tm Ph.idle).toArray 89) :: memC bm bc L acc :: G)) :
    Calls Try.prog 54 #[.pointer (some ⟨bw, 0, none⟩)] w fun e w' => e = .returned (.tuple #[]) ∧ ∃ (bt : Nat) (fl : Int), fl ≤ tm ∧
      St K w' (blk bw (.cells (wrCells d bm al ll cl at' n st tm (Ph.cut bt fl lk0)).toArray 89) :: trC bt d 1 fl lk0 :: memC bm bc L acc :: G) := by
  have hpe : phEnd Ph.idle = false := rfl
  have hwf := (hrow.2 at' hlt)
  have hfl : 0 ≤ (f at').fl ∧ (f at').fl < 256 := by
    obtain ⟨_, _, _, _, _, _, _, _, _, _, h⟩ := hwf
    exact wf_u8 h
  clear hwf
  obtain ⟨g, off, rfl, _⟩ := hrow.2 at' hlt
  have k := hs.k0
  unfold wrCells at k
  rw [hpe] at k
  simp only [phIn, phCut] at k
  have hge : decide (ll ≤ at') = false := by simp; omega
  have hge2 : decide ((at' : Int) ≥ (ll : Int)) = false := by simp; omega
  have hin : at' < ll := hlt
  go_enter Try.func54, Try.ntmps54
  go_upto_region 0 with (fail)
  refine region_pure (by kernel_rfl) (by as_aux_lemma => kernel_rfl) ?_
  repeat (go_big_quiet_step (fail))
  refine wpQuiet_nil ?_
  intro w2 hb2
  have hs := hs.same hb2
  obtain ⟨g', off', eg, hg, c0, c1, c2, c3, hsz, _, _⟩ := (hrow.keep hb2).2 at' hlt
  cases eg
  have hgn : g ≠ w2.heap.size := Nat.ne_of_lt hg
  have hk2 : ∀ (o : Obj) (k : Nat), (w2.alloc o).cell? ⟨g, k, none⟩ = w2.cell? ⟨g, k, none⟩ := fun o k => by rw [World.cell?_of_block (w := w2) (a := ⟨g, k, none⟩)]; exact Below.heap_alloc w2 o g hg
  have hne : bw ≠ w2.heap.size := Nat.ne_of_lt hs.n0
  have hk3 : ∀ (o : Obj) (k : Nat), (w2.alloc o).cell? ⟨bw, k, none⟩ = w2.cell? ⟨bw, k, none⟩ := fun o k => by rw [World.cell?_of_block (w := w2) (a := ⟨bw, k, none⟩)]; exact Below.heap_alloc w2 o bw hs.n0
  clear k hb2
  have k := hs.k0
  unfold wrCells at k
  rw [hpe] at k
  simp only [phIn, phCut] at k
  clear hrow
  go_upto_region 1 with (fail)
  go_cut [2] (fun v wx => ∃ bx, v = .pointer (some ⟨bx, 0, none⟩) ∧ St K wx (blk bx (.cells #[.int .i64 ((f at')).kind, .string ((f at')).v, .bool ((f at')).del, .int .u8 ((f at')).fl] 54) :: blk bw (.cells (wrCells d bm (some ⟨g, off, none⟩) ll cl at' n st tm Ph.idle).toArray 89) :: memC bm bc L acc :: G))
  case first =>
    go_region
    all_goals
      go_wp2
      go_meet
      first | exact ⟨_, rfl, hs.made _⟩ | exact ⟨_, rfl, (hs.made _).drew⟩ | exact ⟨_, rfl, hs.drew.made _⟩
  case rest =>
    clear hs k c0 c1 c2 c3 hk2 hk3 hgn hne hge hge2 hg
    obtain ⟨bx, rfl, hs⟩ := hcut
    have ks := hs.k0
    have k := hs.k1
    unfold wrCells at k
    rw [hpe] at k
    simp only [phIn, phCut] at k
    have kf := hs.f1
    have qm := fun w => mod_any (f at').kind 6 (by omega) (by omega) w
    rw [hkd] at qm
    have Qm := Lib.hid qm
    clear qm hkd
    go_wp2_with fail
    refine (Qm.out _).mono ?_
    rintro e w4 ⟨rfl, rfl⟩
    go_upto_region 18 with (fail)
    refine region_tail_move _ 18 rfl rfl (by kernel_rfl) (by as_aux_lemma => kernel_rfl) (fun _ _ _ _ h => h) ?_
    simp only [List.take_succ_cons, List.take_zero, List.drop_succ_cons, List.drop_zero, Act.put, List.setIfInBounds_toArray, List.set_cons_zero, List.set_cons_succ, Act.eval]
    repeat (go_big_quiet_step (fail))
    refine wpQuiet_nil ?_
    intro w5 hb5
    have hs := hs.same hb5
    clear k ks kf hb5
    by_cases h : tm ≤ (f at').fl % 4
    · go_wp2_with fail
      refine (newTruncate_st (d := d) (ch := 1) hs).mono ?_
      clear hs
      rintro e w6 ⟨bt, rfl, hs⟩
      have hs := hs.b1.tail.b1
      have k := hs.k0
      unfold wrCells at k
      have kf := hs.f0
      have hs := hs.setL 14 (.pointer (some ⟨bt, 0, none⟩))
      simp only [wrCells, List.set_cons_zero, List.set_cons_succ] at hs
      go_wp2
      go_end0
      exact ⟨rfl, bt, _, by omega, hs⟩
    · go_wp2_with fail
      refine (newTruncate_st (d := d) (ch := 1) hs).mono ?_
      clear hs
      rintro e w6 ⟨bt, rfl, hs⟩
      have hs := hs.b1.tail.b1
      have k := hs.k0
      unfold wrCells at k
      have kf := hs.f0
      have hs := hs.setL 14 (.pointer (some ⟨bt, 0, none⟩))
      simp only [wrCells, List.set_cons_zero, List.set_cons_succ] at hs
      go_wp2
      go_end0
      exact ⟨rfl, bt, _, by omega, hs⟩

set_option maxHeartbeats 2000000 in
/-- An installation begins. -/
theorem writerNewInst_st (hd : d.Ok) (hn : 0 ≤ n ∧ n < 1000000000) (hlt : at' < ll) (hl : ll ≤ 8) (hkd : (f at').kind % 6 ≠ 5)
    (hrow : StepsIn w al ll f)
    (hs : St K w (blk bw (.cells (wrCells d bm al ll cl at' n st tm Ph.idle).toArray 89) :: memC bm bc L acc :: G)) :
    Calls Try.prog 54 #[.pointer (some ⟨bw, 0, none⟩)] w fun e w' => e = .returned (.tuple #[]) ∧ ∃ (b : Nat) (k' : ByteArray) (del : Bool), (del = true → k' = ⟨#[]⟩) ∧
      St K w' (blk bw (.cells (wrCells d bm al ll cl at' (n + 1) st tm (Ph.inst b k' del ⟨0, 0⟩)).toArray 89) :: inC b d 1 (n + 1) ⟨#[]⟩ k' del ⟨0, 0⟩ :: memC bm bc L acc :: G) := by
  have hpe : phEnd Ph.idle = false := rfl
  obtain ⟨g, off, rfl, _⟩ := hrow.2 at' hlt
  have k := hs.k0
  unfold wrCells at k
  rw [hpe] at k
  simp only [phIn, phCut] at k
  have hge : decide (ll ≤ at') = false := by simp; omega
  have hge2 : decide ((at' : Int) ≥ (ll : Int)) = false := by simp; omega
  have hin : at' < ll := hlt
  go_enter Try.func54, Try.ntmps54
  go_upto_region 0 with (fail)
  refine region_pure (by kernel_rfl) (by as_aux_lemma => kernel_rfl) ?_
  repeat (go_big_quiet_step (fail))
  refine wpQuiet_nil ?_
  intro w2 hb2
  have hs := hs.same hb2
  obtain ⟨g', off', eg, hg, c0, c1, c2, c3, hsz, _, _⟩ := (hrow.keep hb2).2 at' hlt
  cases eg
  have hgn : g ≠ w2.heap.size := Nat.ne_of_lt hg
  have hk2 : ∀ (o : Obj) (k : Nat), (w2.alloc o).cell? ⟨g, k, none⟩ = w2.cell? ⟨g, k, none⟩ := fun o k => by rw [World.cell?_of_block (w := w2) (a := ⟨g, k, none⟩)]; exact Below.heap_alloc w2 o g hg
  have hne : bw ≠ w2.heap.size := Nat.ne_of_lt hs.n0
  have hk3 : ∀ (o : Obj) (k : Nat), (w2.alloc o).cell? ⟨bw, k, none⟩ = w2.cell? ⟨bw, k, none⟩ := fun o k => by rw [World.cell?_of_block (w := w2) (a := ⟨bw, k, none⟩)]; exact Below.heap_alloc w2 o bw hs.n0
  clear k hb2
  have k := hs.k0
  unfold wrCells at k
  rw [hpe] at k
  simp only [phIn, phCut] at k
  clear hrow
  go_upto_region 1 with (fail)
  go_cut [2] (fun v wx => ∃ bx, v = .pointer (some ⟨bx, 0, none⟩) ∧ St K wx (blk bx (.cells #[.int .i64 ((f at')).kind, .string ((f at')).v, .bool ((f at')).del, .int .u8 ((f at')).fl] 54) :: blk bw (.cells (wrCells d bm (some ⟨g, off, none⟩) ll cl at' n st tm Ph.idle).toArray 89) :: memC bm bc L acc :: G))
  case first =>
    go_region
    all_goals
      go_wp2
      go_meet
      first | exact ⟨_, rfl, hs.made _⟩ | exact ⟨_, rfl, (hs.made _).drew⟩ | exact ⟨_, rfl, hs.drew.made _⟩
  case rest =>
    clear hs k c0 c1 c2 c3 hk2 hk3 hgn hne hge hge2 hg
    obtain ⟨bx, rfl, hs⟩ := hcut
    have ks := hs.k0
    have k := hs.k1
    unfold wrCells at k
    rw [hpe] at k
    simp only [phIn, phCut] at k
    have kf := hs.f1
    obtain ⟨m, hm, hm5⟩ : ∃ m : Int, m = (f at').kind % 6 ∧ (m == 5) = false := ⟨_, rfl, by simpa using hkd⟩
    have qm := fun w => mod_any (f at').kind 6 (by omega) (by omega) w
    rw [← hm] at qm
    have Qm := Lib.hid qm
    obtain ⟨k', hk'⟩ : ∃ k', k' = wrV (f at').v (f at').del := ⟨_, rfl⟩
    have hdel : (f at').del = true → k' = ⟨#[]⟩ := fun h => by rw [hk']; exact wrV_del h
    have qw := fun w => write_below (kd := (f at').kind) (fl := (f at').fl) (del := (f at').del) hsz w
    rw [← hk'] at qw
    have Qw := Lib.hid qw
    have Hdel := Lib.hid hdel
    clear qm hm hkd qw hdel hk' hsz
    go_wp2_with fail
    refine (Qm.out _).mono ?_
    rintro e w4 ⟨rfl, rfl⟩
    have hs := (hs.b1.setL 10 (.int .u64 (n + 1))).b1
    simp only [wrCells, List.set_cons_zero, List.set_cons_succ] at hs
    go_upto_region 3 with (fail)
    refine wp_ck hs ?_
    clear k ks kf hs
    intro W hs
    have ks := hs.k0
    have k := hs.k1
    have kf := hs.f1
    rw [hpe] at k
    simp only [phIn, phCut] at k
    refine region_tail_move _ 10 rfl rfl (by kernel_rfl) (by as_aux_lemma => kernel_rfl) (fun _ _ _ _ h => h) ?_
    simp only [List.take_succ_cons, List.take_zero, List.drop_succ_cons, List.drop_zero, Act.put, List.setIfInBounds_toArray, List.set_cons_zero, List.set_cons_succ, Act.eval]
    repeat (go_big_quiet_step ((go_at_call 33; exact pure_of (Qw.out _))))
    refine wpQuiet_nil ?_
    intro w5 hb5
    have hs := hs.same hb5
    clear k ks kf hb5
    go_wp2_with fail
    refine (newInstall_st (d := d) (ch := 1) (r := n + 1) (key := ⟨#[]⟩) (v := k') (del := (f at').del) hs).mono ?_
    clear hs
    rintro e w6 ⟨b, rfl, hs⟩
    have hs := hs.b1.tail.b1
    have k := hs.k0
    rw [hpe] at k
    simp only [phIn, phCut] at k
    have kf := hs.f0
    have hs := hs.setL 13 (.pointer (some ⟨b, 0, none⟩))
    simp only [List.set_cons_zero, List.set_cons_succ] at hs
    go_wp2
    go_end0
    exact ⟨rfl, b, k', _, Hdel.out, hs⟩

/-- Every step of the writer. -/
theorem writerStep_st {ph : Ph} (hd : d.Ok) (hch : (1 : Int) ≤ 1 ∧ (1 : Int) ≤ d.ch) (hre : 100 ≤ d.re) (ha : acc ≤ 1000000000) (hB : WrB ll at' n st tm ph) (hP : PhOk d tm V n L ph) (hrow : StepsIn w al ll f)
    (hs : St K w (blk bw (.cells (wrCells d bm al ll cl at' n st tm ph).toArray 89) :: phC d n ph :: memC bm bc L acc :: G)) :
    Calls Try.prog 54 #[.pointer (some ⟨bw, 0, none⟩)] w fun e w' => e = .returned (.tuple #[]) ∧ WrPost K d bw bm bc tm V al ll cl G n ph L acc w' := by
  have hidle : ∀ (w : World) (a2 : Nat) (n2 s2 : Int) (L2 : List Cel) (acc2 : Nat), St K w (blk bw (.cells (wrCells d bm al ll cl a2 n2 s2 tm Ph.idle).toArray 89) :: memC bm bc L2 acc2 :: G) → St K w (blk bw (.cells (wrCells d bm al ll cl a2 n2 s2 tm Ph.idle).toArray 89) :: phC d n2 Ph.idle :: memC bm bc L2 acc2 :: G) := fun w a2 n2 s2 L2 acc2 h => h.empty.b1
  cases ph with
  | idle =>
    obtain ⟨b1, b2, b3, b4, b5, b6, b7⟩ := hB
    have hs : St K w (blk bw (.cells (wrCells d bm al ll cl at' n st tm Ph.idle).toArray 89) :: memC bm bc L acc :: G) := hs.drop1
    by_cases hlt : at' < ll
    · by_cases hkd : (f at').kind % 6 = 5
      · refine (writerNewCut_st hd (by omega) hlt b2 hkd hrow hs).mono ?_
        rintro e w' ⟨he, bt, fl, hfl, hs⟩
        exact ⟨he, at', n, st, .cut bt fl lk0, L, acc, ⟨hlt, b2, b3, b4, b5, b6, b7⟩, ⟨hfl, ⟨by decide, by decide⟩, hP, fun h => by simp [lk0] at h⟩, fun _ hx => hx, by omega, hs⟩
      · refine (writerNewInst_st hd (by omega) hlt b2 hkd hrow hs).mono ?_
        rintro e w' ⟨he, b, k', del, hdel, hs⟩
        obtain ⟨vs, hm⟩ := hP
        refine ⟨he, at', n + 1, st, .inst b k' del ⟨0, 0⟩, L, acc, ⟨hlt, b2, by omega, by omega, b5, b6, b7, by simp⟩, ⟨hdel, by simp, by simp, .inl ⟨rfl, rfl, vs, by rw [show n + 1 - 1 = n by omega]; exact hm⟩⟩, fun x hx => ?_, by omega, hs⟩
        unfold phN at hx ⊢
        simpa using hx
    · obtain rfl : at' = ll := by omega
      refine (writerEnd_st hs b2).mono ?_
      rintro e w' ⟨he, hs⟩
      exact ⟨he, at', n, st, .idle, L, acc, ⟨b1, b2, b3, b4, b5, b6, b7⟩, hP, fun _ hx => hx, by omega, hidle _ _ _ _ _ _ hs⟩
  | inst b k' del s =>
    obtain ⟨b1, b2, b3, b4, b5, b6, b7, b8⟩ := hB
    by_cases hpc : s.pc ≤ 3
    · refine (writerInst_st hd (by omega) b1 b2 hpc ha hrow hs).mono ?_
      rintro e w' ⟨he, acc2, hacc, hs⟩
      obtain ⟨p1, p2, p3⟩ := hP.inStep hd hch hpc b3 (by omega)
      exact ⟨he, at', n, st, .inst b k' del (inStep d 1 n (valC k' del) (s, L)).1, _, acc2, ⟨b1, b2, b3, b4, b5, b6, b7, by omega⟩, p1, p3, hacc, hs⟩
    · have h4 : s.pc = 4 := by omega
      obtain ⟨pc, old⟩ := s
      simp only at h4
      subst h4
      by_cases hkd : (f at').kind % 6 = 4
      · refine (writerBack_st hd b1 b2 ha hkd hrow hs).mono ?_
        rintro e w' ⟨he, hs⟩
        obtain ⟨p1, p2⟩ := hP.back hd hch rfl
        exact ⟨he, at' + 1, n, st, .idle, _, acc + 1, ⟨by omega, b2, by omega, by omega, b5, b6, by omega⟩, p1, p2, by omega, hidle _ _ _ _ _ _ hs⟩
      · refine (writerStamp_st hd (by omega) (by omega) b1 b2 ha hkd hrow hs).mono ?_
        rintro e w' ⟨he, hs⟩
        obtain ⟨p1, p2⟩ := hP.stamp hd hch rfl (t := st + 1) (by omega) (by omega)
        exact ⟨he, at' + 1, n, st + 1, .idle, _, acc + 1, ⟨by omega, b2, by omega, by omega, b5, by omega, by omega⟩, p1, p2, by omega, hidle _ _ _ _ _ _ hs⟩
  | cut b fl t =>
    obtain ⟨b1, b2, b3, b4, b5, b6, b7⟩ := hB
    refine (writerCut_st hd b1 b2 hP.2.1 ha hrow hs).mono ?_
    obtain ⟨p1, p2⟩ := hP.trStep hd
    rintro e w' ⟨he, acc2, hacc, hs | hs⟩
    · exact ⟨he, at' + 1, n, st, .idle, _, acc2, ⟨by omega, b2, b3, by omega, b5, b6, by omega⟩, p1.2.2.1, p2, hacc, hidle _ _ _ _ _ _ hs⟩
    · exact ⟨he, at', n, st, .cut b fl (trStep d 1 fl (t, L)).1, _, acc2, ⟨b1, b2, b3, b4, b5, b6, b7⟩, p1, p2, hacc, hs⟩
end
end Go.Proofs.Ytfgjanponijkhaa
