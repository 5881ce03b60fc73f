/- blinktreelaw10's install; Peek. -/
import Derived.Test.YtfgjanponijkhaaChain5
namespace Go.Proofs.Ytfgjanponijkhaa
open Go.RowKit
set_option maxRecDepth 100000

/-- A version's cells. -/
def verCells (v : Ver) : List Value := [.int .u64 v.st, .string v.k, .bool v.del]
def verRow (vs : List Ver) : List Value := vs.flatMap verCells
theorem verRow_length (vs : List Ver) : (verRow vs).length = vs.length * 3 := by
  induction vs with
  | nil => rfl
  | cons v vs ih => rw [show verRow (v :: vs) = verCells v ++ verRow vs from rfl, List.length_append, ih]; simp [verCells]; omega
theorem verRow_at (vs : List Ver) : ∀ (i : Nat) (v : Ver), vs[i]? = some v → (verRow vs)[i * 3]? = some (.int .u64 v.st) ∧ (verRow vs)[i * 3 + 1]? = some (.string v.k) ∧ (verRow vs)[i * 3 + 2]? = some (.bool v.del) := by
  induction vs with
  | nil => intro i v h; simp at h
  | cons a vs ih =>
    intro i v h
    have e : verRow (a :: vs) = .int .u64 a.st :: .string a.k :: .bool a.del :: verRow vs := rfl
    rw [e]
    cases i with
    | zero => simp at h; subst h; exact ⟨rfl, rfl, rfl⟩
    | succ i =>
      have := ih i v (by simpa using h)
      rw [show (i + 1) * 3 = i * 3 + 3 by omega]
      simpa using this

theorem field_cfg4 (v0 v1 v2 v3 v4 v5 v6 : Value) (w : World) : (Instr.field 27 (.agg #[v0, v1, v2, v3, v4, v5, v6]) 4).run Try.prog w = .ok v4 w := by kernel_rfl
attribute [go_sem] field_cfg4
def sliceLen : Value → Nat
  | .slice _ n _ => n
  | _ => 0
theorem infoVer : (Try.prog.info? 69).map (fun i => (i.zero, i.size, i.bytes)) = some (some (.agg #[.int .u64 0, .string ⟨#[]⟩, .bool false]), 3, 32) := by kernel_rfl

theorem in_pc {d : Cfg} {ch r : Int} {c : Cel} {L : List Cel} (n : Nat) (h : n ≤ 4) : (it (inStep d ch r c) n (⟨0, 0⟩, L)).1.pc = n := by
  match n, h with
  | 0, _ => rfl
  | 1, _ => rfl
  | 2, _ => rfl
  | 3, _ => rfl
  | 4, _ => rfl

section
variable {K : Know} {d : Cfg} {ch r t : Int} {key v : ByteArray} {del : Bool} {F : List Comp} {w : World} {bm bc : Nat} {L : List Cel} {acc : Nat}

theorem install_st (hd : d.Ok) (hr : 0 ≤ r ∧ r < 18446744073709551616) (ha : acc ≤ 900000000000) (hs : St K w (memC bm bc L acc :: F)) :
    Calls Try.prog 32 #[.agg #[.int .i64 d.th, .int .i64 d.sn, .int .i64 d.no, .int .i64 d.ch, .int .i64 d.re, .int .i64 d.fa, .int .u64 d.cl], .pointer (some ⟨bm, 0, none⟩), .int .u64 r, .agg #[.string key, .string v, .bool del]] w fun e w' => ∃ acc', e = .returned (.tuple #[]) ∧ acc' ≤ acc + 4 ∧ St K w' (memC bm bc (it (inStep d 1 r (valC v del)) 4 (⟨0, 0⟩, L)).2 acc' :: F) := by
  have hs := hs.pass (.cells #[.int .i64 d.th, .int .i64 d.sn, .int .i64 d.no, .int .i64 d.ch, .int .i64 d.re, .int .i64 d.fa, .int .u64 d.cl] 30)
  have hs := hs.pass (.cells #[.string key, .string v, .bool del] 52)
  have Hd := Lib.hid hd
  clear hd
  go_enter Try.func32, Try.ntmps32
  go_wp2_with fail
  refine (newInstall_st (d := d) (ch := 1) (r := r) (key := key) (v := v) (del := del) hs).mono ?_
  clear hs
  rintro e w1 ⟨b, rfl, hs⟩
  go_wp2
  go_loopw [9] (fun vk wr => ∃ (n acc' : Nat), n ≤ 3 ∧ vk = .int .i64 n ∧ acc' ≤ acc + n ∧ St K wr (inC b d 1 r key v del (it (inStep d 1 r (valC v del)) n (⟨0, 0⟩, L)).1 :: memC bm bc (it (inStep d 1 r (valC v del)) n (⟨0, 0⟩, L)).2 acc' :: F)) (fun v _ => 50 - (intOf v).toNat)
  case atStart => exact ⟨0, acc, by omega, rfl, by omega, hs⟩
  case round =>
    clear hs
    obtain ⟨n, acc', hn, rfl, hacc, hs⟩ := hrel
    have q := inStep_st Hd.out (by omega) hr (by omega) hs
    rw [← it_succ (inStep d 1 r (valC v del)) n (⟨0, 0⟩, L), in_pc (n + 1) (by omega)] at q
    clear hs
    by_cases h : n = 3
    · subst h
      rw [show decide (4 ≤ 3 + 1) = true by rfl] at q
      have Q := Lib.hid q
      clear q
      go_wp2_with fail
      refine (Q.out).mono ?_
      rintro e w2 ⟨rfl, hs⟩
      clear Q
      go_wp2
      go_end0
      exact ⟨_, rfl, by have := accTo_le 4 (it (inStep d 1 r (valC v del)) 3 (⟨0, 0⟩, L)).1.pc acc'; omega, hs.tail⟩
    · rw [show decide (4 ≤ n + 1) = false by simp; omega] at q
      have Q := Lib.hid q
      have h50 : n < 50 := by omega
      clear q
      go_wp2_with fail
      refine (Q.out).mono ?_
      rintro e w2 ⟨rfl, hs⟩
      clear Q
      go_wp2
      go_roundw
      case rel => exact ⟨n + 1, _, by omega, by go_num, by have := accTo_le 4 (it (inStep d 1 r (valC v del)) n (⟨0, 0⟩, L)).1.pc acc'; omega, hs⟩
      case measure => simp [intOf]; omega

set_option maxHeartbeats 2000000 in
theorem peekChain_st {vs : List Ver} (hd : d.Ok) (hch : 1 ≤ ch ∧ ch ≤ d.ch) (hL : CelsOk L) (hl : Linked d L (getC L (d.chain ch)).n vs) (hn : (vs.length : Int) ≤ d.re) (hs : St K w (memC bm bc L acc :: F)) :
    Calls Try.prog 36 #[.agg #[.int .i64 d.th, .int .i64 d.sn, .int .i64 d.no, .int .i64 d.ch, .int .i64 d.re, .int .i64 d.fa, .int .u64 d.cl], .pointer (some ⟨bm, 0, none⟩), .int .u64 ch] w fun e w' => ∃ va, e = .returned va ∧ St K w' (rowC va 69 3 vs.length (verRow vs) :: memC bm bc L acc :: F) := by
  have hci := chain_in hd hch.1 hch.2
  have hch0 : 0 ≤ ch ∧ ch < 18446744073709551616 := by have := hd.ch2; omega
  have g1 : decide (d.chain ch < 0) = false := by simp; omega
  clear hci
  have hs := hs.made (.cells #[.int .i64 d.th, .int .i64 d.sn, .int .i64 d.no, .int .i64 d.ch, .int .i64 d.re, .int .i64 d.fa, .int .u64 d.cl] 30)
  generalize hbl : w.heap.size = bl at *
  go_enter Try.func36, Try.ntmps36
  go_wp2_with fail
  refine (calls_same hs (chain_any d hd ch hch0.1 hch0.2 _)).mono ?_
  clear hs
  rintro e w1 ⟨rfl, hs⟩
  have kl := hs.k0
  go_wp2_with fail
  refine (calls_same hs (chain_any d hd ch hch0.1 hch0.2 _)).mono ?_
  clear hs kl
  rintro e w2 ⟨rfl, hs⟩
  go_wp2_with fail
  refine (peek_st (i := d.chain ch) hs hs.mem1).mono ?_
  clear hs
  rintro e w3 ⟨rfl, hs⟩
  obtain ⟨iv, hiv0, hiv1, hiv2, hiv3⟩ := info_parts infoVer
  have Hd := Lib.hid hd
  have Hl := Lib.hid hl
  clear hl hd
  go_wp2
  clear g1
  go_loopw [7, 8] (fun vo vr wr => ∃ (a b : List Ver) (x : Int), vs = a ++ b ∧ vr = .int .u64 x ∧ Linked d L x b ∧ St K wr (rowC vo 69 3 a.length (verRow a) :: blk bl (.cells #[.int .i64 d.th, .int .i64 d.sn, .int .i64 d.no, .int .i64 d.ch, .int .i64 d.re, .int .i64 d.fa, .int .u64 d.cl] 30) :: memC bm bc L acc :: F)) (fun vo _ _ => vs.length - sliceLen vo)
  case atStart => exact ⟨[], vs, _, rfl, rfl, Hl.out, hs.row_nil⟩
  case round =>
    clear hs
    obtain ⟨a, b, x, hab, rfl, hlk, hs⟩ := hrel
    obtain ⟨ao, cap, rfl, _, _⟩ := hs.row_read
    have kl := hs.k1
    cases b with
    | nil =>
      have hx : x = 0 := hlk
      subst hx
      have hst := stamp_any d Hd.out 0 (by omega) (by omega)
      rw [show d.record 0 0 = -1 by unfold Cfg.record; rw [if_neg (by omega)]] at hst
      have Hst := Lib.hid hst
      have Hab := Lib.hid hab
      clear hst hab
      go_wp2_with fail
      refine (calls_same hs (Hst.out _)).mono ?_
      clear hs kl
      rintro e w4 ⟨rfl, hs⟩
      go_wp2
      go_ret
      refine ⟨_, rfl, ?_⟩
      have e := Hab.out
      rw [List.append_nil] at e
      rw [e]
      exact hs.drop1
    | cons v b =>
      obtain ⟨hx, ⟨l2, l3, l4, l5, l6⟩, l7⟩ := hlk
      subst hx
      have hp := record_pos Hd.out l2 l3 (k := 0) (by omega) (by omega)
      have hre := Hd.out.re2
      have hv0 : 0 ≤ v.r ∧ v.r < 18446744073709551616 := by omega
      have hlen : vs.length = a.length + 1 + b.length := by rw [hab]; simp; omega
      have q0 : ∀ (w : World) (cs : List Comp), St K w cs → MemAt w bm bc L acc → Calls Try.prog 50 #[.pointer (some ⟨bm, 0, none⟩), .int .i64 (d.record v.r 0)] w fun e w' => e = .returned (.agg #[.int .u64 v.st, .string (getC L (d.record v.r 0)).k, .int .u64 (getC L (d.record v.r 0)).m]) ∧ St K w' cs := fun w cs hs hM => by
        have := peek_st (i := d.record v.r 0) hs hM
        rwa [l4] at this
      have q1 : ∀ (w : World) (cs : List Comp), St K w cs → MemAt w bm bc L acc → Calls Try.prog 50 #[.pointer (some ⟨bm, 0, none⟩), .int .i64 (d.record v.r 1)] w fun e w' => e = .returned (.agg #[.int .u64 (getC L (d.record v.r 1)).n, .string v.k, .int .u64 (b01 v.del)]) ∧ St K w' cs := fun w cs hs hM => by
        have := peek_st (i := d.record v.r 1) hs hM
        rwa [l5, l6] at this
      have Q0 := Lib.hid q0
      have Q1 := Lib.hid q1
      have L7 := Lib.hid l7
      have L4 := Lib.hid l4
      have Hab := Lib.hid hab
      have g1 : decide (d.record v.r 0 ≥ 0) = true := by simpa using hp
      have g2 : decide ((a.length : Int) < d.re) = true := by simp; omega
      have g3 : (b01 v.del == 1) = v.del := by cases v.del <;> rfl
      clear q0 q1 l7 hab l2 l3 l4 l5 l6
      go_wp2_with fail
      refine (calls_same hs (stamp_any d Hd.out v.r hv0.1 hv0.2 _)).mono ?_
      clear hs kl
      rintro e w4 ⟨rfl, hs⟩
      have kl := hs.k1
      go_wp2_with fail
      refine (calls_same hs (config_any d _)).mono ?_
      clear hs kl
      rintro e w5 ⟨rfl, hs⟩
      have kl := hs.k1
      go_wp2_with fail
      refine (calls_same hs (value_any d Hd.out v.r hv0.1 hv0.2 _)).mono ?_
      clear hs kl
      rintro e w6 ⟨rfl, hs⟩
      go_wp2_with fail
      refine (Q1.out _ _ hs hs.mem2).mono ?_
      clear hs
      rintro e w7 ⟨rfl, hs⟩
      have hs := hs.made (.cells #[.int .u64 (getC L (d.record v.r 1)).n, .string v.k, .int .u64 (b01 v.del)] 41)
      go_upto_region 8 with (fail)
      refine wp_ck hs ?_
      clear hs
      generalize w7.heap.size = bx
      intro W hs
      have kx := hs.k0
      have kl := hs.k2
      have q9 : ∀ wz, (∃ y : Ext, wz = over W y) → Calls Try.prog 50 #[.pointer (some ⟨bm, 0, none⟩), .int .i64 (d.record v.r 0)] wz fun e w' => e = .returned (.agg #[.int .u64 v.st, .string (getC L (d.record v.r 0)).k, .int .u64 (getC L (d.record v.r 0)).m]) ∧ Below wz.heap.size wz w' := fun wz hy => by
        have := peek_any _ _ _ _ _ (d.record v.r 0) (hs.mem3.same (Pure.below hy))
        rwa [L4.out] at this
      have Q9 := Lib.hid q9
      clear q9
      refine region_tail_move _ 12 rfl rfl (by kernel_rfl) (by as_aux_lemma => kernel_rfl) (fun _ _ _ _ h => h) ?_
      simp only [List.take_succ_cons, List.take_zero, List.drop_succ_cons, List.drop_zero, Act.put, List.setIfInBounds_toArray, List.set_cons_zero, List.set_cons_succ, Act.eval]
      repeat (go_big_quiet_step (first | (go_at_call 107; exact pure_of (stamp_any d Hd.out v.r hv0.1 hv0.2 _)) | (go_at_call 50; exact pure_of (Q9.out _ ⟨_, rfl⟩))))
      refine wpQuiet_nil ?_
      intro w8 hb8
      have hs := (hs.same hb8).tail
      clear kx kl hb8 Q9
      have g5 : a.length + 1 ≤ 1099511627776 := by have := hlen; omega
      go_wp2_with (at_builtin; refine append_st _ _ 58 69 _ a.length 3 32 _ (verCells v) (.agg #[.int .u64 0, .string ⟨#[]⟩, .bool false]) iv hs rfl rfl Try.underlying58 hiv0 hiv1 hiv2 hiv3 rfl (by decide) rfl rfl rfl (fun u hu => by simp [verCells] at hu; rcases hu with rfl | rfl | rfl <;> rfl) g5 (by decide) ?_)
      clear hs
      intro v' w' hs
      obtain ⟨ao', cap', rfl, _, _⟩ := hs.row_read
      have kl := hs.k1
      go_wp2_with fail
      refine (calls_same hs (next_any d Hd.out v.r hv0.1 hv0.2 _)).mono ?_
      clear hs kl
      rintro e w9 ⟨rfl, hs⟩
      go_wp2_with fail
      refine (peek_st (i := d.record v.r 2) hs hs.mem2).mono ?_
      clear hs
      rintro e w10 ⟨rfl, hs⟩
      go_wp2
      go_roundw
      case rel =>
        refine ⟨a ++ [v], b, _, by rw [Hab.out]; simp, rfl, L7.out, ?_⟩
        rw [show verRow (a ++ [v]) = verRow a ++ verCells v by simp [verRow], List.length_append]
        exact hs
      case measure => simp [sliceLen]; omega
end
end Go.Proofs.Ytfgjanponijkhaa
