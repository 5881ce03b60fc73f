/- The writer of a node (package node): the list of its stores. -/
import Derived.Test.YtfgjanponijkhaaNode9
import Derived.Test.YtfgjanponijkhaaTailB
namespace Go.Proofs.Ytfgjanponijkhaa
open Go.RowKit
set_option maxRecDepth 100000

/-- A store: cell i, and what it gets. -/
structure Pt where
  i : Int
  c : Cel
def ptCells (p : Pt) : List Value := [.int .i64 p.i, .int .u64 p.c.n, .string p.c.k, .int .u64 p.c.m]
def ptRow (l : List Pt) : List Value := l.flatMap ptCells
theorem ptRow_length (l : List Pt) : (ptRow l).length = l.length * 4 := by
  induction l with
  | nil => rfl
  | cons s l ih => rw [show ptRow (s :: l) = ptCells s ++ ptRow l from rfl, List.length_append, ih]; simp [ptCells]; omega
theorem ptRow_append (l l' : List Pt) : ptRow (l ++ l') = ptRow l ++ ptRow l' := by unfold ptRow; rw [List.flatMap_append]
theorem ptRow_at (l : List Pt) : ∀ (i : Nat) (s : Pt), l[i]? = some s → (ptRow l)[i * 4]? = some (.int .i64 s.i) ∧ (ptRow l)[i * 4 + 1]? = some (.int .u64 s.c.n) ∧ (ptRow l)[i * 4 + 2]? = some (.string s.c.k) ∧ (ptRow l)[i * 4 + 3]? = some (.int .u64 s.c.m) := by
  induction l with
  | nil => intro i s h; simp at h
  | cons a l ih =>
    intro i s h
    have e : ptRow (a :: l) = .int .i64 a.i :: .int .u64 a.c.n :: .string a.c.k :: .int .u64 a.c.m :: ptRow l := rfl
    rw [e]
    cases i with
    | zero => simp at h; subst h; exact ⟨rfl, rfl, rfl, rfl⟩
    | succ i =>
      have := ih i s (by simpa using h)
      rw [show (i + 1) * 4 = i * 4 + 4 by omega]
      simpa using this
theorem ptRow_one (l : List Pt) : ∀ u, u ∈ ptRow l → u.oneCell' = true := by
  intro u hu
  obtain ⟨s, _, hs⟩ := List.mem_flatMap.1 hu
  simp [ptCells] at hs
  rcases hs with rfl | rfl | rfl | rfl <;> rfl

/-- The stores of slots, from number i on. -/
def slPts (d : Cfg) (id : Int) : Nat → List Sl → List Pt
  | _, [] => []
  | i, s :: l => ⟨d.slot id i, ⟨s.r, s.k, 0⟩⟩ :: slPts d id (i + 1) l
theorem slPts_length {d : Cfg} {id : Int} : ∀ (l : List Sl) (i : Nat), (slPts d id i l).length = l.length
  | [], _ => rfl
  | s :: l, i => by simp [slPts, slPts_length l]
theorem slPts_snoc {d : Cfg} {id : Int} : ∀ (l : List Sl) (i : Nat) (s : Sl), slPts d id i (l ++ [s]) = slPts d id i l ++ [⟨d.slot id ((i + l.length : Nat) : Int), ⟨s.r, s.k, 0⟩⟩]
  | [], i, s => by simp [slPts]
  | x :: l, i, s => by
    show _ :: slPts d id (i + 1) (l ++ [s]) = _ :: _
    rw [slPts_snoc l (i + 1) s]
    simp only [List.length_cons]
    rw [show i + 1 + l.length = i + (l.length + 1) by omega]
    rfl
/-- What cells returns. -/
def hiCel (pg : Pg) : Cel := cond pg.la ⟨0, ⟨#[]⟩, 1⟩ ⟨0, pg.hi, 0⟩
def pgPts (d : Cfg) (id : Int) (pg : Pg) : List Pt :=
  slPts d id 0 pg.sl ++ [⟨d.node id 2, hiCel pg⟩, ⟨d.node id 3, ⟨pg.ri, ⟨#[]⟩, 0⟩⟩, ⟨d.node id 1, ⟨pg.sl.length, ⟨#[]⟩, pg.lev⟩⟩]

theorem infoPut : (Try.prog.info? 178).map (fun i => (i.zero, i.size, i.bytes)) = some (some (.agg #[.int .i64 0, .int .u64 0, .string ⟨#[]⟩, .int .u64 0]), 4, 40) := by kernel_rfl

section
variable {K : Know} {w : World} {F : List Comp} {pg : Pg} {a : Option Addr} {cap : Nat} {d : Cfg} {id : Int}
set_option maxHeartbeats 8000000 in
theorem cells_st (hd : d.Ok) (hid : 0 ≤ id ∧ id < 18446744073709551616) (hlev : 0 ≤ pg.lev ∧ pg.lev < 1000000) (hle : (pg.sl.length : Int) ≤ d.fa)
    (hs : St K w (rowC (.slice a pg.sl.length cap) 132 2 pg.sl.length (slRow pg.sl) :: F)) :
    Calls Try.prog 114 #[.agg #[.int .i64 d.th, .int .i64 d.sn, .int .i64 d.no, .int .i64 d.ch, .int .i64 d.re, .int .i64 d.fa, .int .u64 d.cl], .int .u64 id, .agg #[.int .i64 (pg).lev, (.slice a pg.sl.length cap), .string (pg).hi, .bool (pg).la, .int .u64 (pg).ri]] w fun e w' => ∃ va, e = .returned va ∧
      St K w' (rowC va 178 4 (pgPts d id pg).length (ptRow (pgPts d id pg)) :: rowC (.slice a pg.sl.length cap) 132 2 pg.sl.length (slRow pg.sl) :: F) := by
  obtain ⟨n, hn⟩ : ∃ n, n = pg.sl.length := ⟨_, rfl⟩
  have hfa := hd.fa2
  obtain ⟨iv, hiv0, hiv1, hiv2, hiv3⟩ := info_parts infoPut
  have Qs := Lib.hid (fun (i : Int) (w : World) => slot_any d hd id i hid.1 hid.2 w)
  have Qh := Lib.hid (fun (w : World) => high_any d hd id hid.1 hid.2 w)
  have Qr := Lib.hid (fun (w : World) => right_any d hd id hid.1 hid.2 w)
  have Q1 := Lib.hid (fun (w : World) => head_any d hd id hid.1 hid.2 w)
  obtain ⟨o, ho⟩ : ∃ o, o = pg.la := ⟨_, rfl⟩
  have hnl : n ≤ 100 := by omega
  rw [← hn] at hs ⊢
  rw [← ho]
  have Hn := Lib.hid hn
  have Ho := Lib.hid ho
  clear hn ho hle
  have hs := (hs.made (.cells #[.int .i64 d.th, .int .i64 d.sn, .int .i64 d.no, .int .i64 d.ch, .int .i64 d.re, .int .i64 d.fa, .int .u64 d.cl] 30)).made (.cells #[.int .i64 pg.lev, .slice a n cap, .string pg.hi, .bool o, .int .u64 pg.ri] 25)
  rw [World.size_alloc] at hs
  have hs := hs.row_nil (T := 178) (size := 4)
  go_enter Try.func114, Try.ntmps114
  go_wp2
  go_loopw [14, 7] (fun v14 v7 wr => ∃ (k : Nat), k ≤ n ∧ v14 = .int .i64 k ∧ St K wr (rowC v7 178 4 k (ptRow (slPts d id 0 (pg.sl.take k))) :: blk (w.heap.size + 1) (.cells #[.int .i64 pg.lev, .slice a n cap, .string pg.hi, .bool o, .int .u64 pg.ri] 25) :: blk w.heap.size (.cells #[.int .i64 d.th, .int .i64 d.sn, .int .i64 d.no, .int .i64 d.ch, .int .i64 d.re, .int .i64 d.fa, .int .u64 d.cl] 30) :: rowC (.slice a n cap) 132 2 n (slRow pg.sl) :: F)) (fun v _ _ => n - (intOf v).toNat)
  case atStart => exact ⟨0, by omega, rfl, hs⟩
  case round =>
    clear hs
    obtain ⟨k, hk, rfl, hs⟩ := hrel
    by_cases hlt : k < n
    · have hl' : k < pg.sl.length := by rw [← Hn.out]; exact hlt
      have hsl := (hs.b3).row_slots (by rw [← Hn.out]; omega)
      obtain ⟨b1, off1, rfl, _, c0, c1⟩ := hsl.2 k pg.sl[k] (List.getElem?_eq_getElem hl')
      have hnext : ptRow (slPts d id 0 (pg.sl.take (k + 1))) = ptRow (slPts d id 0 (pg.sl.take k)) ++ [.int .i64 (d.slot id (k : Int)), .int .u64 pg.sl[k].r, .string pg.sl[k].k, .int .u64 0] := by
        rw [List.take_succ_eq_append_getElem hl', slPts_snoc, ptRow_append, Nat.zero_add, List.length_take, Nat.min_eq_left (by omega)]
        rfl
      have Hx := Lib.hid hnext
      generalize pg.sl[k] = u at *
      generalize ptRow (slPts d id 0 (pg.sl.take k)) = xs at *
      have kl := hs.k2
      clear hl' hsl hnext
      obtain ⟨a7, c7, rfl, _, _⟩ := hs.row_read
      have hs := hs.made (.cells #[.string u.k, .int .u64 u.r] 132)
      go_upto_region 5 with (fail)
      refine wp_ck hs ?_
      clear hs c0 c1 kl
      intro W hs
      have Hs := Lib.hid hs
      clear hs
      refine region_block_move _ 10 ?aS 30 (.cells #[.int .i64 (d.slot id (k : Int)), .int .u64 u.r, .string u.k, .int .u64 0] 178) (fun W => .slice (some ⟨W.heap.size, 0, none⟩) 1 1) rfl rfl (by kernel_rfl) ?hB rfl (fun _ _ _ _ h => h) ?H ?hal ?Ah
      case H =>
        intro W2 hb
        have hs := Hs.out.same hb
        have kx := hs.k0
        have kl := hs.b3.k0
        simp only [List.take_succ_cons, List.take_zero, List.drop_succ_cons, List.drop_zero, Act.put, List.setIfInBounds_toArray, List.set_cons_zero, List.set_cons_succ, Act.eval]
        repeat (go_big_quiet_step ((go_at_call 121; exact pure_of (Qs.out _ _))))
        refine wpQuiet_nil ?_
        rfl
      case hB => as_aux_lemma => kernel_rfl
      case hal =>
        intro w'
        kernel_rfl
      case Ah =>
        intro w0 w5 hb0 hb5
        have hs := ((Hs.out.same hb0).made (.cells [.int .i64 (d.slot id (k : Int)), .int .u64 u.r, .string u.k, .int .u64 0].toArray 178)).same (by rw [World.size_alloc]; exact hb5)
        have hk := hs.k0
        have Hw := Lib.hid (fun (j : Nat) (x : Value) (hu : [Value.int .i64 (d.slot id (k : Int)), .int .u64 u.r, .string u.k, .int .u64 0][j]? = some x) => (show ∃ g off, (some ⟨w0.heap.size, 0, none⟩ : Option Addr) = some ⟨g, off, none⟩ ∧ w5.cell? ⟨g, off + j, none⟩ = some x from ⟨_, 0, rfl, by rw [Nat.zero_add, hk j]; simpa using hu⟩))
        clear hk
        have Hr := Lib.hid hs.b2
        clear hs
        simp only [List.drop_succ_cons, List.drop_zero]
        refine append_row_st _ _ 175 178 _ k 1 1 4 40 xs [.int .i64 (d.slot id (k : Int)), .int .u64 u.r, .string u.k, .int .u64 0] (.agg #[.int .i64 0, .int .u64 0, .string ⟨#[]⟩, .int .u64 0]) iv (some ⟨w0.heap.size, 0, none⟩) Hr.out rfl rfl Try.underlying175 hiv0 hiv1 hiv2 hiv3 rfl (by decide) rfl rfl rfl (fun e => by cases e) Hw.out (fun x hu => by simp at hu; rcases hu with rfl | rfl | rfl | rfl <;> rfl) (by omega) (by decide) ?_
        clear Hr Hw
        intro v' w6 hs
        rw [← Hx.out] at hs
        go_wp2
        go_roundw
        case rel => exact ⟨k + 1, by omega, by go_num, hs.drop1.drop1⟩
        case measure => simp [intOf]; omega
    · obtain rfl : k = n := by omega
      have htk : pg.sl.take k = pg.sl := List.take_of_length_le (by rw [← Hn.out]; exact Nat.le_refl _)
      rw [htk] at hs
      obtain ⟨xs, hxs⟩ : ∃ xs, xs = ptRow (slPts d id 0 pg.sl) := ⟨_, rfl⟩
      rw [← hxs] at hs
      have Hxs := Lib.hid hxs.symm
      clear hxs htk hlt hk
      have kp := hs.k1
      obtain ⟨a7, c7, rfl, _, _⟩ := hs.row_read
      have kq := fun (x : Obj) => (hs.made x).k2
      cases o with
      | true =>
        have hs := hs.made (.cells #[.int .u64 0, .string ⟨#[]⟩, .int .u64 1] 41)
        have hfin : ptRow (pgPts d id pg) = xs ++ [.int .i64 (d.node id 2), .int .u64 0, .string ⟨#[]⟩, .int .u64 1, .int .i64 (d.node id 3), .int .u64 pg.ri, .string ⟨#[]⟩, .int .u64 0, .int .i64 (d.node id 1), .int .u64 k, .string ⟨#[]⟩, .int .u64 pg.lev] ∧ (pgPts d id pg).length = k + 3 := by
          unfold pgPts hiCel
          rw [← Ho.out, ptRow_append, Hxs.out, ← Hn.out]
          exact ⟨rfl, by simp [slPts_length, ← Hn.out]⟩
        have Hf := Lib.hid hfin
        clear hfin
        go_upto_region 10 with (fail)
        refine wp_ck hs ?_
        clear hs kp kq
        intro W hs
        have Hs := Lib.hid hs
        clear hs
        refine region_block_move _ 24 ?aSt 64 (.cells [.int .i64 (d.node id 2), .int .u64 0, .string ⟨#[]⟩, .int .u64 1, .int .i64 (d.node id 3), .int .u64 pg.ri, .string ⟨#[]⟩, .int .u64 0, .int .i64 (d.node id 1), .int .u64 k, .string ⟨#[]⟩, .int .u64 pg.lev].toArray 178) (fun W => .slice (some ⟨W.heap.size, 0, none⟩) 3 3) rfl rfl (by kernel_rfl) ?hBt rfl (fun _ _ _ _ h => h) ?Ht ?halt ?Aht
        case Ht =>
          intro W2 hb
          have hs := Hs.out.same hb
          have kx := hs.k0
          have kp := hs.k2
          have kl := hs.b3.k0
          simp only [List.take_succ_cons, List.take_zero, List.drop_succ_cons, List.drop_zero, Act.put, List.setIfInBounds_toArray, List.set_cons_zero, List.set_cons_succ, Act.eval]
          repeat (go_big_quiet_step (first | (go_at_call 119; exact pure_of (Qh.out _)) | (go_at_call 120; exact pure_of (Qr.out _)) | (go_at_call 118; exact pure_of (Q1.out _))))
          refine wpQuiet_nil ?_
          rfl
        case hBt => as_aux_lemma => kernel_rfl
        case halt =>
          intro w'
          kernel_rfl
        case Aht =>
          intro w0 w5 hb0 hb5
          have hs := ((Hs.out.same hb0).made (.cells [.int .i64 (d.node id 2), .int .u64 0, .string ⟨#[]⟩, .int .u64 1, .int .i64 (d.node id 3), .int .u64 pg.ri, .string ⟨#[]⟩, .int .u64 0, .int .i64 (d.node id 1), .int .u64 k, .string ⟨#[]⟩, .int .u64 pg.lev].toArray 178)).same (by rw [World.size_alloc]; exact hb5)
          have hk := hs.k0
          have Hw := Lib.hid (fun (j : Nat) (x : Value) (hu : ([.int .i64 (d.node id 2), .int .u64 0, .string ⟨#[]⟩, .int .u64 1, .int .i64 (d.node id 3), .int .u64 pg.ri, .string ⟨#[]⟩, .int .u64 0, .int .i64 (d.node id 1), .int .u64 k, .string ⟨#[]⟩, .int .u64 pg.lev] : List Value)[j]? = some x) => (show ∃ g off, (some ⟨w0.heap.size, 0, none⟩ : Option Addr) = some ⟨g, off, none⟩ ∧ w5.cell? ⟨g, off + j, none⟩ = some x from ⟨_, 0, rfl, by rw [Nat.zero_add, hk j]; simpa using hu⟩))
          clear hk
          have Hr := Lib.hid hs.b2
          clear hs
          simp only [List.drop_succ_cons, List.drop_zero]
          refine append_row_st _ _ 175 178 _ k 3 3 4 40 xs [.int .i64 (d.node id 2), .int .u64 0, .string ⟨#[]⟩, .int .u64 1, .int .i64 (d.node id 3), .int .u64 pg.ri, .string ⟨#[]⟩, .int .u64 0, .int .i64 (d.node id 1), .int .u64 k, .string ⟨#[]⟩, .int .u64 pg.lev] (.agg #[.int .i64 0, .int .u64 0, .string ⟨#[]⟩, .int .u64 0]) iv (some ⟨w0.heap.size, 0, none⟩) Hr.out rfl rfl Try.underlying175 hiv0 hiv1 hiv2 hiv3 rfl (by decide) rfl rfl rfl (fun e => by cases e) Hw.out (fun x hu => by simp at hu; rcases hu with rfl | rfl | rfl | rfl | rfl | rfl | rfl | rfl | rfl | rfl | rfl | rfl <;> rfl) (by omega) (by decide) ?_
          clear Hr Hw
          intro v' w6 hs
          go_wp2
          go_ret
          exact ⟨_, rfl, by rw [Hf.out.1, Hf.out.2]; exact hs.drop1.drop1.drop1.drop1⟩
      | false =>
        have hs := hs.made (.cells #[.int .u64 0, .string pg.hi, .int .u64 0] 41)
        have hfin : ptRow (pgPts d id pg) = xs ++ [.int .i64 (d.node id 2), .int .u64 0, .string pg.hi, .int .u64 0, .int .i64 (d.node id 3), .int .u64 pg.ri, .string ⟨#[]⟩, .int .u64 0, .int .i64 (d.node id 1), .int .u64 k, .string ⟨#[]⟩, .int .u64 pg.lev] ∧ (pgPts d id pg).length = k + 3 := by
          unfold pgPts hiCel
          rw [← Ho.out, ptRow_append, Hxs.out, ← Hn.out]
          exact ⟨rfl, by simp [slPts_length, ← Hn.out]⟩
        have Hf := Lib.hid hfin
        clear hfin
        go_upto_region 10 with (fail)
        refine wp_ck hs ?_
        clear hs kp kq
        intro W hs
        have Hs := Lib.hid hs
        clear hs
        refine region_block_move _ 24 ?aSf 64 (.cells [.int .i64 (d.node id 2), .int .u64 0, .string pg.hi, .int .u64 0, .int .i64 (d.node id 3), .int .u64 pg.ri, .string ⟨#[]⟩, .int .u64 0, .int .i64 (d.node id 1), .int .u64 k, .string ⟨#[]⟩, .int .u64 pg.lev].toArray 178) (fun W => .slice (some ⟨W.heap.size, 0, none⟩) 3 3) rfl rfl (by kernel_rfl) ?hBf rfl (fun _ _ _ _ h => h) ?Hf ?half ?Ahf
        case Hf =>
          intro W2 hb
          have hs := Hs.out.same hb
          have kx := hs.k0
          have kp := hs.k2
          have kl := hs.b3.k0
          simp only [List.take_succ_cons, List.take_zero, List.drop_succ_cons, List.drop_zero, Act.put, List.setIfInBounds_toArray, List.set_cons_zero, List.set_cons_succ, Act.eval]
          repeat (go_big_quiet_step (first | (go_at_call 119; exact pure_of (Qh.out _)) | (go_at_call 120; exact pure_of (Qr.out _)) | (go_at_call 118; exact pure_of (Q1.out _))))
          refine wpQuiet_nil ?_
          rfl
        case hBf => as_aux_lemma => kernel_rfl
        case half =>
          intro w'
          kernel_rfl
        case Ahf =>
          intro w0 w5 hb0 hb5
          have hs := ((Hs.out.same hb0).made (.cells [.int .i64 (d.node id 2), .int .u64 0, .string pg.hi, .int .u64 0, .int .i64 (d.node id 3), .int .u64 pg.ri, .string ⟨#[]⟩, .int .u64 0, .int .i64 (d.node id 1), .int .u64 k, .string ⟨#[]⟩, .int .u64 pg.lev].toArray 178)).same (by rw [World.size_alloc]; exact hb5)
          have hk := hs.k0
          have Hw := Lib.hid (fun (j : Nat) (x : Value) (hu : ([.int .i64 (d.node id 2), .int .u64 0, .string pg.hi, .int .u64 0, .int .i64 (d.node id 3), .int .u64 pg.ri, .string ⟨#[]⟩, .int .u64 0, .int .i64 (d.node id 1), .int .u64 k, .string ⟨#[]⟩, .int .u64 pg.lev] : List Value)[j]? = some x) => (show ∃ g off, (some ⟨w0.heap.size, 0, none⟩ : Option Addr) = some ⟨g, off, none⟩ ∧ w5.cell? ⟨g, off + j, none⟩ = some x from ⟨_, 0, rfl, by rw [Nat.zero_add, hk j]; simpa using hu⟩))
          clear hk
          have Hr := Lib.hid hs.b2
          clear hs
          simp only [List.drop_succ_cons, List.drop_zero]
          refine append_row_st _ _ 175 178 _ k 3 3 4 40 xs [.int .i64 (d.node id 2), .int .u64 0, .string pg.hi, .int .u64 0, .int .i64 (d.node id 3), .int .u64 pg.ri, .string ⟨#[]⟩, .int .u64 0, .int .i64 (d.node id 1), .int .u64 k, .string ⟨#[]⟩, .int .u64 pg.lev] (.agg #[.int .i64 0, .int .u64 0, .string ⟨#[]⟩, .int .u64 0]) iv (some ⟨w0.heap.size, 0, none⟩) Hr.out rfl rfl Try.underlying175 hiv0 hiv1 hiv2 hiv3 rfl (by decide) rfl rfl rfl (fun e => by cases e) Hw.out (fun x hu => by simp at hu; rcases hu with rfl | rfl | rfl | rfl | rfl | rfl | rfl | rfl | rfl | rfl | rfl | rfl <;> rfl) (by omega) (by decide) ?_
          clear Hr Hw
          intro v' w6 hs
          go_wp2
          go_ret
          exact ⟨_, rfl, by rw [Hf.out.1, Hf.out.2]; exact hs.drop1.drop1.drop1.drop1⟩
end
end Go.Proofs.Ytfgjanponijkhaa
