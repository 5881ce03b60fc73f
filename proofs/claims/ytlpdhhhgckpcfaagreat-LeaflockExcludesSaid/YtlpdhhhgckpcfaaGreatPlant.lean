
/- blinktreekit.Plant. -/
import Derived.Test.YtlpdhhhgckpcfaaGreatTreeB
import Derived.Test.YtlpdhhhgckpcfaaGreatNodeLawB
import Derived.Test.YtlpdhhhgckpcfaaGreatTailC
import Derived.Test.YtlpdhhhgckpcfaaGreatGrA
namespace Go.Proofs.YtlpdhhhgckpcfaaGreat
open Go.RowKit
set_option maxRecDepth 100000
theorem slRow_push (l : List Sl) (s : Sl) : slRow (l ++ [s]) = slRow l ++ slCells s := by simp [slRow]
theorem slAt_sub {W : World} {g : Nat} {S : List Sl} {fr p : Nat} (h : SlAt W (some ⟨g, 0, none⟩) S) (hfp : fr + p ≤ S.length) : SlAt W (some ⟨g, fr * 2, none⟩) ((S.drop fr).take p) := by
  refine ⟨by have := h.1; simp; omega, fun i s hs => ?_⟩
  have hip : i < p := by
    have := (List.getElem?_eq_some_iff.1 hs).1; simp at this; omega
  rw [List.getElem?_take, if_pos hip, List.getElem?_drop] at hs
  obtain ⟨b, off, e, hlt, c0, c1⟩ := h.2 _ _ hs
  simp only [Option.some.injEq, Addr.mk.injEq, and_true] at e
  obtain ⟨rfl, rfl⟩ := e
  rw [show 0 + (fr + i) * 2 = fr * 2 + i * 2 by omega] at c0 c1
  exact ⟨g, fr * 2, rfl, hlt, c0, c1⟩
theorem slAt_nil {W : World} {a : Option Addr} {S : List Sl} (h : S = []) : SlAt W a S := by
  subst h
  exact ⟨by simp, fun i s hs => by simp at hs⟩
theorem St.row_cases {K : Know} {w : World} {F : List Comp} {a : Option Addr} {n cap : Nat} {T : TypeId} {size : Nat} {xs : List Value} (h : St K w (rowC (.slice a n cap) T size n xs :: F)) : (a = none ∧ n = 0 ∧ cap = 0) ∨ (∃ g, a = some ⟨g, 0, none⟩ ∧ n ≤ cap) := by
  obtain ⟨hl, k⟩ := h.head
  rcases k with ⟨hv, h0⟩ | ⟨g, cap', cur, hv, hB, hc, h1, h2, h3, h4⟩
  · simp only [Value.slice.injEq] at hv
    exact .inl ⟨hv.1, h0, hv.2.2⟩
  · simp only [Value.slice.injEq] at hv
    exact .inr ⟨g, hv.1, by omega⟩
def slLen : Value → Nat
  | .slice _ n _ => n
  | _ => 0
/-- What loop 2 keeps. -/
structure Pl2 (d : Cfg) (ks : List ByteArray) (hide : Bool) (L : List Cel) (S : List Sl) (t : List (List Nd)) (nx lev : Nat) : Prop where
  pi : PlI d ks hide L S t nx
  tl : t.length = lev
  z : lev = 0 → nx = 1 ∧ S.length ≤ 40
  p : 0 < lev → nx - 1 + fb S.length ≤ 100 ∧ 1 ≤ S.length ∧ lev + S.length ≤ 41
  nx1 : 1 ≤ nx
theorem Pl2.le {d : Cfg} {ks : List ByteArray} {hide : Bool} {L : List Cel} {S : List Sl} {t : List (List Nd)} {nx lev : Nat} (h : Pl2 d ks hide L S t nx lev) : S.length ≤ 40 ∧ lev ≤ 40 := by
  rcases Nat.eq_zero_or_pos lev with h0 | h0
  · have := h.z h0; omega
  · have := h.p h0; omega
theorem Pl2.some_parts {d : Cfg} {ks : List ByteArray} {hide : Bool} {L : List Cel} {S : List Sl} {t : List (List Nd)} {nx lev : Nat} {ps : List Nat} (h : Pl2 d ks hide L S t nx lev) (hp : PartsOk S ps)
    (h0 : lev = 0 → ps.length ≤ 40) (h1 : 0 < lev → ps.length ≤ (S.length + 1) / 2) (hne : ps.length ≠ 1) : ps.length ≤ S.length ∧ (0 < lev → 3 ≤ S.length ∧ ps.length < S.length) := by
  have hps := hp.ne
  have hle : ps.length ≤ S.length := by
    rcases hp.pos with hq | hq
    · have := sum_ge hq; rw [hp.sum] at this; exact this
    · rw [hq] at hne; simp at hne
  refine ⟨hle, fun h => ?_⟩
  have := h1 h
  omega
theorem Pl2.next {d : Cfg} {ks : List ByteArray} {hide : Bool} {L L2 : List Cel} {S A : List Sl} {t t2 : List (List Nd)} {nx lev : Nat} {ps : List Nat} (h : Pl2 d ks hide L S t nx lev) (hp : PartsOk S ps)
    (h0 : lev = 0 → ps.length ≤ 40) (h1 : 0 < lev → ps.length ≤ (S.length + 1) / 2) (hne : ps.length ≠ 1) (hA : A.length ≤ ps.length) (ht2 : t2.length = lev + 1) (hi : PlI d ks hide L2 A t2 (nx + ps.length)) : Pl2 d ks hide L2 A t2 (nx + ps.length) (lev + 1) := by
  obtain ⟨hle, h3⟩ := h.some_parts hp h0 h1 hne
  have hS := h.le.1
  have hA1 : 1 ≤ A.length := by
    obtain ⟨q, _⟩ := hi.s1 (fun e => by rw [e] at ht2; simp at ht2)
    rcases Nat.eq_zero_or_pos A.length with h | h
    · exact absurd (List.length_eq_zero_iff.1 h) q
    · exact h
  refine ⟨hi, ht2, fun e => by omega, fun _ => ?_, by have := h.nx1; omega⟩
  rcases Nat.eq_zero_or_pos lev with hl | hl
  · have hz := h.z hl
    have hp40 := h0 hl
    have hm := fb_mono 40 (by omega) A.length (by omega)
    have h40 : fb 40 = 41 := by decide +kernel
    omega
  · have hz := h.p hl
    have hc := h1 hl
    obtain ⟨q1, q2⟩ := h3 hl
    have hh := fb_half S.length hS q1
    have hm := fb_mono ((S.length + 1) / 2) (by omega) A.length (by omega)
    omega
/-- While the right neighbour (8) and the high key (10) are being stored. -/
def PlR (K : Know) (bp : Nat) (lev : Nat) (sa : Option Addr) (p sc : Nat) (hi : ByteArray) (ri : Int) (REST : List Comp) (ρ : Nat → Option Value) (W : World) : Prop :=
  St K W (blk bp (.cells #[.int .i64 lev, .slice sa p sc, .string (if (ρ 10).isSome then hi else ⟨#[]⟩), .bool false, .int .u64 (if (ρ 8).isSome then ri else 0)] 43) :: REST)
section
variable {K : Know} {w : World} {F : List Comp} {d : Cfg} {bm bc : Nat} {L : List Cel} {acc : Nat} {ks : List ByteArray} {ka : Option Addr} {kc : Nat} {sh : Int} {hide : Bool}
set_option maxHeartbeats 16000000 in
theorem plant_st (hd : d.Ok) (hno : 100 ≤ d.no) (hk : KeysOk 40 ks) (hL : CelsOk L) (hcl : (L.length : Int) = d.cells) (hlat : ∀ id : Int, 1 ≤ id → id ≤ d.no → getC L (d.node id 0) = Cel.zero) (hzero : ∀ j : Int, RestC d j → getC L j = Cel.zero) (hsh : 0 ≤ sh ∧ sh < 18446744073709551616)
    (hs : St K w (memC bm bc L acc :: rowC (.slice ka ks.length kc) 9 1 ks.length (stRow ks) :: F)) :
    Calls Tryz.prog 15 #[.agg #[.int .i64 d.th, .int .i64 d.sn, .int .i64 d.no, .int .i64 d.ch, .int .i64 d.re, .int .i64 d.fa, .int .u64 d.cl], (.pointer (some ⟨bm, 0, none⟩)), .slice ka ks.length kc, .int .u64 sh, .bool hide] w fun e w' => ∃ (t : List (List Nd)) (L' : List Cel), e = .returned (.int .i64 t.length) ∧ Hid (TreeX d ks hide L' t) ∧ St K w' (memC bm bc L' acc :: rowC (.slice ka ks.length kc) 9 1 ks.length (stRow ks) :: F) := by
  have f1 := hd.fa1
  have f2 := hd.fa2
  have hn40 := hk.len
  obtain ⟨n, hn⟩ : ∃ n, n = ks.length := ⟨_, rfl⟩
  rw [← hn] at hs hn40 ⊢
  have Hn := Lib.hid hn
  have Hd := Lib.hid hd
  have Hk := Lib.hid hk
  have HL := Lib.hid hL
  have Hcl := Lib.hid hcl
  have Hlat := Lib.hid hlat
  have Hzero := Lib.hid hzero
  have Hno := Lib.hid hno
  obtain ⟨sh0, sh1⟩ := hsh
  obtain ⟨iv, hiv0, hiv1, hiv2, hiv3⟩ := info_parts infoSlot
  have Hi0 := Lib.hid hiv0
  have Hi1 := Lib.hid hiv1
  have Hi2 := Lib.hid hiv2
  have Hi3 := Lib.hid hiv3
  clear hiv0 hiv1 hiv2 hiv3 hd hk hL hcl hlat hzero hno hn
  have hs := hs.made (.cells #[.int .i64 d.th, .int .i64 d.sn, .int .i64 d.no, .int .i64 d.ch, .int .i64 d.re, .int .i64 d.fa, .int .u64 d.cl] 26)
  obtain ⟨bcf, hbcf⟩ : ∃ bcf, bcf = w.heap.size := ⟨_, rfl⟩
  have hs := hs.row_nil (T := 69) (size := 2)
  go_enter Tryz.func15, Tryz.ntmps15
  go_wp2
  rw [← hbcf] at hs ⊢
  clear hbcf
  go_loopw [11, 12] (fun v11 v12 wr => ∃ (i : Nat) (ao : Option Addr) (co : Nat), v11 = .slice ao i co ∧ v12 = .int .i64 i ∧ i ≤ n ∧
    St K wr (rowC (.slice ao i co) 69 2 i (slRow (keySl 0 (ks.take i))) :: blk bcf (.cells #[.int .i64 d.th, .int .i64 d.sn, .int .i64 d.no, .int .i64 d.ch, .int .i64 d.re, .int .i64 d.fa, .int .u64 d.cl] 26) :: memC bm bc L acc :: rowC (.slice ka n kc) 9 1 n (stRow ks) :: F)) (fun _ v12 _ => n - (intOf v12).toNat)
  case atStart => exact ⟨0, none, 0, rfl, rfl, by omega, hs⟩
  case round =>
    clear hs
    obtain ⟨i, ao, co, rfl, rfl, hi, hs⟩ := hrel
    by_cases hin : i < n
    · obtain ⟨y, hy⟩ : ∃ y, ks[i]? = some y := ⟨_, List.getElem?_eq_getElem (by have := Hn.out; omega)⟩
      obtain ⟨g, rfl, c0⟩ := hs.b3.row_at (show (stRow ks)[i]? = some (.string y) by simp [stRow, hy])
      have hpush : keySl 0 (ks.take (i + 1)) = keySl 0 (ks.take i) ++ [⟨y, (i : Int) + 1⟩] := by
        rw [List.take_add_one, hy]
        show keySl 0 (ks.take i ++ [y]) = _
        rw [keySl_push]
        have : (ks.take i).length = i := by rw [List.length_take]; have := Hn.out; omega
        rw [this]; congr 3; push_cast; omega
      have Hpush := Lib.hid hpush
      clear hy hpush
      go_wp2_with (at_builtin; refine append_st _ _ 41 69 _ i 2 24 _ (slCells ⟨y, (i : Int) + 1⟩) (.agg #[.string ⟨#[]⟩, .int .u64 0]) iv hs rfl rfl Tryz.underlying41 Hi0.out Hi1.out Hi2.out Hi3.out rfl (by decide) rfl rfl rfl (fun u hu => by simp [slCells] at hu; rcases hu with rfl | rfl <;> rfl) (by omega) (by decide) ?_)
      clear hs c0
      intro v' w' hs
      obtain ⟨ao2, co2, hv, _, _⟩ := hs.row_read
      subst hv
      go_wp2
      go_roundw
      case rel => exact ⟨i + 1, ao2, co2, rfl, by go_num, by omega, by rw [Hpush.out, slRow_push]; exact hs⟩
      case measure => simp [intOf]; omega
    · obtain rfl : i = n := by omega
      rw [List.take_of_length_le (by rw [← Hn.out]; exact Nat.le_refl _)] at hs
      have hkl : (keySl 0 ks).length = i := by rw [keySl_length, Hn.out]
      go_wp2_with fail
      refine (poke_st (i := 5) (c := ⟨i, ⟨#[]⟩, 0⟩) hs.b2).mono ?_
      clear hs
      rintro e w2 ⟨rfl, hs⟩
      have hP : Pl2 d ks hide (putC L 5 ⟨i, ⟨#[]⟩, 0⟩) (keySl 0 ks) [] 1 0 := by
        refine ⟨PlI.start Hd.out Hk.out.asc (by rw [← Hn.out]; exact hn40) (HL.out.put ⟨by show (0 : Int) ≤ i; omega, by show (i : Int) < _; omega⟩) (by rw [putC_length]; exact Hcl.out) (fun id a b => ?_) (fun j hj => ?_) ?_, rfl, fun _ => ⟨rfl, by omega⟩, fun h => by omega, Nat.le_refl _⟩
        rotate_left
        · have hA := Hd.out.A_bd
          have hB := Hd.out.B_bd
          rw [getC_ne (by rcases hj with h | h <;> omega)]
          exact Hzero.out j hj
        · have hA := Hd.out.A_bd
          have hB := Hd.out.B_bd
          have hC := Hd.out.C_bd
          have hcb := Hd.out.cells_bd
          have hcl := Hcl.out
          rw [getC_eq (by omega) (by omega), Hn.out]
        have n0 := (node_in Hd.out a b (k := 0) (by omega) (by omega)).1
        have m3 : 0 ≤ (id - 1) * (d.fa + 4) := Int.mul_nonneg (by omega) (by omega)
        have hA := Hd.out.A_bd
        rw [getC_ne (by omega)]
        exact Hlat.out id a b
      have HP := Lib.hid hP
      generalize putC L 5 ⟨i, ⟨#[]⟩, 0⟩ = L5 at *
      have hs : St K w2 (memC bm bc L5 acc :: rowC (.slice ao (keySl 0 ks).length co) 69 2 (keySl 0 ks).length (slRow (keySl 0 ks)) :: blk bcf (.cells #[.int .i64 d.th, .int .i64 d.sn, .int .i64 d.no, .int .i64 d.ch, .int .i64 d.re, .int .i64 d.fa, .int .u64 d.cl] 26) :: rowC (.slice ka i kc) 9 1 i (stRow ks) :: F) := by rw [hkl]; exact hs
      have Hkl := Lib.hid hkl.symm
      clear hP hkl
      rename_i n
      go_wp2
      go_loopw [3, 11, 13, 14, 15, 16, 17, 18, 19, 20, 21] (fun v3 v11 v13 v14 _ _ _ _ _ _ _ wr => ∃ (s : Int) (nx lev : Nat) (S : List Sl) (t : List (List Nd)) (ao : Option Addr) (co : Nat) (L' : List Cel), v3 = .int .u64 s ∧ v11 = .slice ao S.length co ∧ v13 = .int .u64 nx ∧ v14 = .int .i64 lev ∧ 0 ≤ s ∧ s < 18446744073709551616 ∧ Hid (Pl2 d ks hide L' S t nx lev) ∧
        St K wr (memC bm bc L' acc :: rowC (.slice ao S.length co) 69 2 S.length (slRow S) :: blk bcf (.cells #[.int .i64 d.th, .int .i64 d.sn, .int .i64 d.no, .int .i64 d.ch, .int .i64 d.re, .int .i64 d.fa, .int .u64 d.cl] 26) :: rowC (.slice ka i kc) 9 1 i (stRow ks) :: F)) (fun _ v11 _ v14 _ _ _ _ _ _ _ _ => slLen v11 + (if intOf v14 = 0 then 1 else 0))
      case atStart => exact ⟨sh, 1, 0, keySl 0 ks, [], ao, co, L5, rfl, by rw [← Hkl.out], rfl, rfl, sh0, sh1, HP, hs⟩
      case round =>
        clear hs HP
        obtain ⟨s, nx, lev, S, t, ao, co, L', rfl, rfl, rfl, rfl, s0, s1, HP, hs⟩ := hrel
        obtain ⟨hS40, hlev40⟩ := HP.out.le
        have hnxb : nx ≤ 101 ∧ 1 ≤ nx := by
          refine ⟨?_, HP.out.nx1⟩
          rcases Nat.eq_zero_or_pos lev with h | h
          · have := HP.out.z h; omega
          · have := HP.out.p h; omega
        have kcf := hs.b2.k0
        go_upto_region 8 with (fail)
        go_cut [15] (fun v15 wx => ∃ (ps : List Nat) (pa : Option Addr) (pc : Nat), v15 = .slice pa ps.length pc ∧ Hid (GroupOk S.length (if lev = 0 then 1 else 2) d.fa.toNat ps) ∧
          St K wx (rowC (.slice pa ps.length pc) 3 1 ps.length (inRow ps) :: memC bm bc L' acc :: rowC (.slice ao S.length co) 69 2 S.length (slRow S) :: blk bcf (.cells #[.int .i64 d.th, .int .i64 d.sn, .int .i64 d.no, .int .i64 d.ch, .int .i64 d.re, .int .i64 d.fa, .int .u64 d.cl] 26) :: rowC (.slice ka i kc) 9 1 i (stRow ks) :: F))
        case first =>
          as_aux_lemma =>
          have efa : ((d.fa.toNat : Nat) : Int) = d.fa := by omega
          by_cases h0 : lev = 0
          · subst h0
            have q := group_st (n := S.length) (least := 1) (fa := d.fa.toNat) (sh := s) (by omega) (by omega) (by omega) ⟨s0, s1⟩ hs
            rw [efa] at q
            have Q := Lib.hid q
            clear q hs efa
            go_wp2_with fail
            refine (Q.out).mono ?_
            clear Q kcf
            rintro e w3 ⟨v15, ps, rfl, HG, hs⟩
            obtain ⟨pa, pc, rfl, _, _⟩ := hs.row_read
            go_wp2
            go_meet
            exact ⟨ps, pa, pc, rfl, HG, hs⟩
          · have H0 := Lib.hid h0
            by_cases h12 : lev = 1
            · subst h12
              have q := group_st (n := S.length) (least := 2) (fa := d.fa.toNat) (sh := s) (by omega) (by omega) (by omega) ⟨s0, s1⟩ hs
              rw [efa] at q
              have Q := Lib.hid q
              clear q hs efa h0
              go_wp2_with fail
              refine (Q.out).mono ?_
              clear Q kcf
              rintro e w3 ⟨v15, ps, rfl, HG, hs⟩
              obtain ⟨pa, pc, rfl, _, _⟩ := hs.row_read
              go_wp2
              go_meet
              exact ⟨ps, pa, pc, rfl, by rw [if_neg H0.out]; exact HG, hs⟩
            · have h2 : ¬ ((lev : Int) + 1 ≤ 2) := by omega
              have h3 : (2 : Int) < lev + 1 := by omega
              clear h12
              have q := group_st (n := S.length) (least := 2) (fa := d.fa.toNat) (sh := s) (by omega) (by omega) (by omega) ⟨s0, s1⟩ hs
              rw [efa] at q
              have Q := Lib.hid q
              clear q hs efa h0
              go_wp2_with fail
              refine (Q.out).mono ?_
              clear Q kcf
              rintro e w3 ⟨v15, ps, rfl, HG, hs⟩
              obtain ⟨pa, pc, rfl, _, _⟩ := hs.row_read
              go_wp2
              go_meet
              exact ⟨ps, pa, pc, rfl, by rw [if_neg H0.out]; exact HG, hs⟩
        case rest =>
          clear hs kcf
          obtain ⟨ps0, pa0, pc0, rfl, HG, hs⟩ := hcut
          go_upto_region 9 with (fail)
          go_cut [56] (fun v56 wx => v56 = .bool (decide (ps0.length = 0)) ∧ St K wx (rowC (.slice pa0 ps0.length pc0) 3 1 ps0.length (inRow ps0) :: memC bm bc L' acc :: rowC (.slice ao S.length co) 69 2 S.length (slRow S) :: blk bcf (.cells #[.int .i64 d.th, .int .i64 d.sn, .int .i64 d.no, .int .i64 d.ch, .int .i64 d.re, .int .i64 d.fa, .int .u64 d.cl] 26) :: rowC (.slice ka i kc) 9 1 i (stRow ks) :: F))
          case first =>
            as_aux_lemma =>
            go_wp2
            go_meet
            exact ⟨by congr 1; rw [Bool.eq_iff_iff]; simp only [beq_iff_eq, decide_eq_true_eq]; omega, hs⟩
          case rest =>
            clear hs
            obtain ⟨rfl, hs⟩ := hcut
            apply_assumption
            go_cut [15] (fun v15 wx => ∃ (ps : List Nat) (pa : Option Addr) (pc : Nat), v15 = .slice pa ps.length pc ∧ Hid (PartsOk S ps ∧ (∀ p, p ∈ ps → (p : Int) ≤ d.fa) ∧ (lev = 0 → ps.length ≤ S.length + 1 ∧ ps.length ≤ 40) ∧ (0 < lev → ps.length ≤ (S.length + 1) / 2)) ∧ 1 ≤ ps.length ∧ ps.length ≤ 40 ∧
              St K wx (rowC (.slice pa ps.length pc) 3 1 ps.length (inRow ps) :: memC bm bc L' acc :: rowC (.slice ao S.length co) 69 2 S.length (slRow S) :: blk bcf (.cells #[.int .i64 d.th, .int .i64 d.sn, .int .i64 d.no, .int .i64 d.ch, .int .i64 d.re, .int .i64 d.fa, .int .u64 d.cl] 26) :: rowC (.slice ka i kc) 9 1 i (stRow ks) :: F))
            case first =>
              as_aux_lemma =>
              have hpk := parts_ok HP.out.pi (show 1 ≤ (if lev = 0 then 1 else 2) by split <;> omega) HG.out
              have hlen := HG.out.len
              have hbd := HG.out.bd
              have hz := HP.out.z
              have hpp := HP.out.p
              by_cases h0 : ps0.length = 0
              · rw [decide_eq_true h0]
                rw [if_pos h0] at hpk
                have HQ : Hid (PartsOk S [0] ∧ (∀ p : Nat, p ∈ [0] → (p : Int) ≤ d.fa) ∧ (lev = 0 → [0].length ≤ S.length + 1 ∧ [0].length ≤ 40) ∧ (0 < lev → [0].length ≤ (S.length + 1) / 2)) :=
                  Lib.hid ⟨hpk, fun p hp => by simp at hp; subst hp; omega, fun _ => by simp, fun h => by have := hpp h; simp only [List.length_cons, List.length_nil]; omega⟩
                clear hpk hlen hbd hz hpp h0
                have hs := (hs.made (.cells #[.int .i64 0] 3)).row_lit (n := 1) (size := 1) (xs := [.int .i64 0]) rfl (by simp [maxLen])
                go_wp2
                go_meet
                exact ⟨[0], _, _, rfl, HQ, by simp, by simp, hs.drop1⟩
              · rw [decide_eq_false h0]
                rw [if_neg h0] at hpk
                have hlen' : (lev = 0 → ps0.length ≤ S.length) ∧ (0 < lev → ps0.length ≤ (S.length + 1) / 2) := by
                  constructor
                  · intro h; rw [if_pos h] at hlen; omega
                  · intro h; rw [if_neg (by omega)] at hlen; omega
                have hle40 : ps0.length ≤ 40 := by
                  rcases Nat.eq_zero_or_pos lev with h | h
                  · have := hlen'.1 h; omega
                  · have := hlen'.2 h; omega
                have HQ : Hid (PartsOk S ps0 ∧ (∀ p, p ∈ ps0 → (p : Int) ≤ d.fa) ∧ (lev = 0 → ps0.length ≤ S.length + 1 ∧ ps0.length ≤ 40) ∧ (0 < lev → ps0.length ≤ (S.length + 1) / 2)) :=
                  Lib.hid ⟨hpk, fun p hp => by have := (hbd p hp).2; omega, fun h => ⟨by have := hlen'.1 h; omega, hle40⟩, hlen'.2⟩
                clear hpk hlen hbd hz hpp hlen'
                go_wp2
                go_meet
                exact ⟨ps0, _, _, rfl, HQ, by omega, hle40, hs⟩
            case rest =>
              clear hs HG
              obtain ⟨ps, pa, pc, rfl, HQ, hp1, hp2, hs⟩ := hcut
              have Hnx := Lib.hid HP.out.nx1
              have Hrow : Hid (RowOk t.length (mkRow t.length ⟨#[]⟩ nx S ps) ∧ (mkRow t.length ⟨#[]⟩ nx S ps).length = ps.length) := Lib.hid ⟨mkRow_ok HQ.out.1, mkRow_length _ _ _ _ _⟩
              have Hat : Hid (∀ (j : Nat) (nd : Nd), (mkRow t.length ⟨#[]⟩ nx S ps)[j]? = some nd → ∃ p, ps[j]? = some p ∧ nd.id = nx + j ∧ nd.pg.lev = lev ∧ nd.pg.sl = (S.drop (ps.take j).sum).take p ∧ (ps.take j).sum + p ≤ S.length ∧
                ((j + 1 = ps.length ∧ nd.pg = ⟨lev, (S.drop (ps.take j).sum).take p, ⟨#[]⟩, true, 0⟩) ∨ (j + 1 < ps.length ∧ nd.pg = ⟨lev, (S.drop (ps.take j).sum).take p, hiOf lev (S.drop (ps.take j).sum) p, false, nx + j + 1⟩))) := Lib.hid (fun j nd h => by
                have := page_at HQ.out.1 h
                rwa [HP.out.tl] at this)
              obtain ⟨row, hrow⟩ : ∃ row, row = mkRow t.length ⟨#[]⟩ nx S ps := ⟨_, rfl⟩
              rw [← hrow] at Hrow Hat
              have HrowE := Lib.hid hrow
              clear hrow
              have hs := hs.row_nil (T := 69) (size := 2)
              go_wp2
              go_loopw [16, 17, 18, 19, 20, 21] (fun v16 v17 v18 v19 _ _ wr => ∃ (j fr : Nat) (A : List Sl) (ao2 : Option Addr) (co2 : Nat) (low : ByteArray), v16 = .slice ao2 A.length co2 ∧ v17 = .string low ∧ v18 = .int .i64 fr ∧ v19 = .int .i64 j ∧ j ≤ ps.length ∧ fr ≤ S.length ∧ A.length ≤ j ∧
                Hid (fr = (ps.take j).sum ∧ AboveOk row j A hide ∧ ∀ nd, row[j]? = some nd → nd.low = low) ∧
                St K wr (rowC (.slice ao2 A.length co2) 69 2 A.length (slRow A) :: rowC (.slice pa ps.length pc) 3 1 ps.length (inRow ps) :: memC bm bc (plantRow d L' (row.take j)) acc :: rowC (.slice ao S.length co) 69 2 S.length (slRow S) :: blk bcf (.cells #[.int .i64 d.th, .int .i64 d.sn, .int .i64 d.no, .int .i64 d.ch, .int .i64 d.re, .int .i64 d.fa, .int .u64 d.cl] 26) :: rowC (.slice ka i kc) 9 1 i (stRow ks) :: F)) (fun _ _ _ v19 _ _ _ => ps.length - (intOf v19).toNat)
              case atStart => exact ⟨0, 0, [], none, 0, ⟨#[]⟩, rfl, rfl, rfl, rfl, by omega, by omega, Nat.le_refl _, Lib.hid ⟨rfl, AboveOk.start _ _, fun nd h => Hrow.out.1.first nd h⟩, hs⟩
              case round =>
                clear hs
                obtain ⟨j, fr, A, ao2, co2, low, rfl, rfl, rfl, rfl, hj, hfr, hAj, HR, hs⟩ := hrel
                by_cases hjn : j < ps.length
                · obtain ⟨nd, hnd⟩ : ∃ nd, row[j]? = some nd := ⟨_, List.getElem?_eq_getElem (by rw [Hrow.out.2]; exact hjn)⟩
                  obtain ⟨p, hpj, hid, hlev, hsl, hfp, hpg⟩ := Hat.out j nd hnd
                  rw [← HR.out.1] at hsl hfp hpg
                  obtain ⟨gp, rfl, c0⟩ := hs.b1.row_at (show (inRow ps)[j]? = some (.int .i64 p) by simp [inRow, hpj])
                  have Hnd := Lib.hid hnd
                  have Hpj := Lib.hid hpj
                  have Hid' := Lib.hid hid
                  have Hsl := Lib.hid hsl
                  have Hpg := Lib.hid hpg
                  have Hlev := Lib.hid hlev
                  clear hnd hpj hid hsl hpg hlev
                  go_upto_region 16 with (fail)
                  go_cut [20] (fun v20 wx => ∃ (bp : Nat) (sa : Option Addr) (sc : Nat), v20 = (.pointer (some ⟨bp, 0, none⟩)) ∧ Hid (∀ W F', St K W (rowC (.slice ao S.length co) 69 2 S.length (slRow S) :: F') → SlAt W sa nd.pg.sl) ∧
                    St K wx (blk bp (.cells #[.int .i64 lev, .slice sa p sc, .string ⟨#[]⟩, .bool (decide (j + 1 = ps.length)), .int .u64 0] 43) :: rowC (.slice ao2 A.length co2) 69 2 A.length (slRow A) :: rowC (.slice (some ⟨gp, 0, none⟩) ps.length pc) 3 1 ps.length (inRow ps) :: memC bm bc (plantRow d L' (row.take j)) acc :: rowC (.slice ao S.length co) 69 2 S.length (slRow S) :: blk bcf (.cells #[.int .i64 d.th, .int .i64 d.sn, .int .i64 d.no, .int .i64 d.ch, .int .i64 d.re, .int .i64 d.fa, .int .u64 d.cl] 26) :: rowC (.slice ka i kc) 9 1 i (stRow ks) :: F))
                  case first =>
                    as_aux_lemma =>
                    have hbe : ((j : Int) == (ps.length : Int) - 1) = decide (j + 1 = ps.length) := by rw [Bool.eq_iff_iff]; simp only [beq_iff_eq, decide_eq_true_eq]; omega
                    have hcap := hs.b3.row_cases
                    rcases hcap with ⟨rfl, h0, rfl⟩ | ⟨g, rfl, hco⟩
                    · have hS0 : S = [] := List.length_eq_zero_iff.1 h0
                      obtain rfl : fr = 0 := by omega
                      obtain rfl : p = 0 := by omega
                      have HS0 := Lib.hid hS0
                      have Hbe := Lib.hid hbe
                      clear hS0 hbe
                      have hs := hs.made (.cells #[.int .i64 lev, .slice none 0 0, .string ⟨#[]⟩, .bool (decide (j + 1 = ps.length)), .int .u64 0] 43)
                      go_wp2
                      rw [Hbe.out]
                      go_meet
                      exact ⟨_, _, _, rfl, Lib.hid (fun W F' h => slAt_nil (by rw [Hsl.out, HS0.out]; simp)), hs⟩
                    · have Hbe := Lib.hid hbe
                      clear hbe
                      by_cases hp0 : p = 0
                      · have hS0 : S = [] := by
                          have hm := List.mem_of_getElem? Hpj.out
                          rcases HQ.out.1.pos with hq | hq
                          · have := hq p hm; omega
                          · have := HQ.out.1.sum; rw [hq] at this; exact List.length_eq_zero_iff.1 (by simpa using this.symm)
                        have h0 : S.length = 0 := by rw [hS0]; rfl
                        have HS0 := Lib.hid hS0
                        subst hp0
                        obtain rfl : fr = 0 := by omega
                        clear hS0
                        rcases Nat.eq_zero_or_pos co with hc | hc
                        · subst hc
                          have hs := hs.made (.cells #[.int .i64 lev, .slice (some ⟨g, 0, none⟩) 0 0, .string ⟨#[]⟩, .bool (decide (j + 1 = ps.length)), .int .u64 0] 43)
                          go_wp2
                          rw [Hbe.out]
                          go_meet
                          exact ⟨_, _, _, rfl, Lib.hid (fun W F' h => slAt_nil (by rw [Hsl.out, HS0.out]; simp)), hs⟩
                        · have hs := hs.made (.cells #[.int .i64 lev, .slice (some ⟨g, 0, none⟩) 0 co, .string ⟨#[]⟩, .bool (decide (j + 1 = ps.length)), .int .u64 0] 43)
                          go_wp2
                          rw [Hbe.out]
                          go_meet
                          exact ⟨_, _, _, rfl, Lib.hid (fun W F' h => slAt_nil (by rw [Hsl.out, HS0.out]; simp)), hs⟩
                      · have hfc : fr < co := by omega
                        have hs := hs.made (.cells #[.int .i64 lev, .slice (some ⟨g, fr * 2, none⟩) p (co - fr), .string ⟨#[]⟩, .bool (decide (j + 1 = ps.length)), .int .u64 0] 43)
                        go_wp2
                        rw [Hbe.out]
                        go_meet
                        exact ⟨_, _, _, rfl, Lib.hid (fun W F' h => by rw [Hsl.out]; exact slAt_sub (h.row_slots (by omega)) hfp), hs⟩
                  case rest =>
                    clear hs
                    obtain ⟨bp, sa, sc, rfl, Hsa, hs⟩ := hcut
                    have kp := hs.k0
                    have c0 := hs.b2.row_cell (show (inRow ps)[j]? = some (.int .i64 p) by simp [inRow, Hpj.out])
                    go_upto_region 19 with (fail)
                    go_cut [92] (fun v92 wx => v92 = .bool (!decide (j + 1 = ps.length)) ∧ St K wx (blk bp (.cells #[.int .i64 lev, .slice sa p sc, .string ⟨#[]⟩, .bool (decide (j + 1 = ps.length)), .int .u64 0] 43) :: rowC (.slice ao2 A.length co2) 69 2 A.length (slRow A) :: rowC (.slice (some ⟨gp, 0, none⟩) ps.length pc) 3 1 ps.length (inRow ps) :: memC bm bc (plantRow d L' (row.take j)) acc :: rowC (.slice ao S.length co) 69 2 S.length (slRow S) :: blk bcf (.cells #[.int .i64 d.th, .int .i64 d.sn, .int .i64 d.no, .int .i64 d.ch, .int .i64 d.re, .int .i64 d.fa, .int .u64 d.cl] 26) :: rowC (.slice ka i kc) 9 1 i (stRow ks) :: F))
                    case first =>
                      as_aux_lemma =>
                      go_wp2
                      go_meet
                      exact ⟨rfl, hs⟩
                    case rest =>
                      clear hs kp c0
                      obtain ⟨rfl, hs⟩ := hcut
                      apply_assumption
                      go_cut [93] (fun _ wx => St K wx (blk bp (.cells #[.int .i64 lev, .slice sa p sc, .string nd.pg.hi, .bool nd.pg.la, .int .u64 nd.pg.ri] 43) :: rowC (.slice ao2 A.length co2) 69 2 A.length (slRow A) :: rowC (.slice (some ⟨gp, 0, none⟩) ps.length pc) 3 1 ps.length (inRow ps) :: memC bm bc (plantRow d L' (row.take j)) acc :: rowC (.slice ao S.length co) 69 2 S.length (slRow S) :: blk bcf (.cells #[.int .i64 d.th, .int .i64 d.sn, .int .i64 d.no, .int .i64 d.ch, .int .i64 d.re, .int .i64 d.fa, .int .u64 d.cl] 26) :: rowC (.slice ka i kc) 9 1 i (stRow ks) :: F))
                      case first =>
                        as_aux_lemma =>
                        by_cases hl : j + 1 = ps.length
                        · have hpg2 : nd.pg.hi = ⟨#[]⟩ ∧ nd.pg.la = true ∧ nd.pg.ri = 0 := by
                            rcases Hpg.out with ⟨_, h⟩ | ⟨h, _⟩
                            · rw [h]; exact ⟨rfl, rfl, rfl⟩
                            · omega
                          rw [decide_eq_true hl] at hs ⊢
                          have Hpg2 := Lib.hid hpg2
                          clear hpg2 hl
                          go_wp2
                          go_meet
                          rw [Hpg2.out.1, Hpg2.out.2.1, Hpg2.out.2.2]
                          exact hs
                        · have hlt : j + 1 < ps.length := by omega
                          obtain ⟨x, y, hx, hy, q1, q2, q3, q4⟩ := HQ.out.1.at (lev := lev) Hpj.out hlt
                          rw [← HR.out.1] at q1
                          rw [sum_take_succ Hpj.out, ← HR.out.1] at hx hy
                          have hpg2 : nd.pg.hi = (if lev = 0 then sepK x.k y.k else y.k) ∧ nd.pg.la = false ∧ nd.pg.ri = nx + j + 1 := by
                            rcases Hpg.out with ⟨h, _⟩ | ⟨_, h⟩
                            · omega
                            · rw [h]; exact ⟨by show hiOf lev _ p = _; rw [HR.out.1]; exact q3, rfl, rfl⟩
                          have Hpg2 := Lib.hid hpg2
                          obtain ⟨rx0, rx1⟩ := slRow_at S _ x hx
                          obtain ⟨ry0, ry1⟩ := slRow_at S _ y hy
                          have hylt : fr + p < S.length := (List.getElem?_eq_some_iff.1 hy).1
                          obtain ⟨gs, rfl, _⟩ := hs.b4.row_at ry0
                          have Hrx := Lib.hid rx0
                          have Hry := Lib.hid ry0
                          have hksz : lev = 0 → y.k.size ≤ 1000000 := by
                            intro h
                            have ht : t = [] := List.length_eq_zero_iff.1 (by rw [HP.out.tl]; exact h)
                            have hm := List.mem_of_getElem? hy
                            rw [HP.out.pi.s0 ht] at hm
                            have := Hk.out.size _ (keySl_mem hm).1
                            omega
                          have hw1 : IntKind.u64.wrap ((nx : Int) + j + 1) = (nx : Int) + j + 1 := by rw [IntKind.wrap_u64]; omega
                          have Hw1 := Lib.hid hw1
                          clear hpg2 q1 q3 q4 rx0 rx1 ry0 ry1 hx hy hw1
                          rw [decide_eq_false hl] at hs ⊢
                          clear hl
                          go_upto_region 20 with (fail)
                          have Hs := Lib.hid hs
                          clear hs
                          refine region_effects [false, false, false, false, false, false, false, false, true, false, true] [8, 10] (fun _ => [])
                            (PlR K bp lev sa p sc y.k ((nx : Int) + j + 1) (rowC (.slice ao2 A.length co2) 69 2 A.length (slRow A) :: rowC (.slice (some ⟨gp, 0, none⟩) ps.length pc) 3 1 ps.length (inRow ps) :: memC bm bc (plantRow d L' (row.take j)) acc :: rowC (.slice (some ⟨gs, 0, none⟩) S.length co) 69 2 S.length (slRow S) :: blk bcf (.cells #[.int .i64 d.th, .int .i64 d.sn, .int .i64 d.no, .int .i64 d.ch, .int .i64 d.re, .int .i64 d.fa, .int .u64 d.cl] 26) :: rowC (.slice ka i kc) 9 1 i (stRow ks) :: F))
                            (fun W => St K W (rowC (.slice ao2 A.length co2) 69 2 A.length (slRow A) :: rowC (.slice (some ⟨gp, 0, none⟩) ps.length pc) 3 1 ps.length (inRow ps) :: memC bm bc (plantRow d L' (row.take j)) acc :: rowC (.slice (some ⟨gs, 0, none⟩) S.length co) 69 2 S.length (slRow S) :: blk bcf (.cells #[.int .i64 d.th, .int .i64 d.sn, .int .i64 d.no, .int .i64 d.ch, .int .i64 d.re, .int .i64 d.fa, .int .u64 d.cl] 26) :: rowC (.slice ka i kc) 9 1 i (stRow ks) :: F)) ?aS (by kernel_rfl) ?hB ?H ?haS ?h0 ?hI ?hR ?hE ?hQ
                          case hB => as_aux_lemma => kernel_rfl
                          case H =>
                            intro W2 hs
                            have c0 := hs.b3.row_cell Hry.out
                            clear hs
                            simp only [withM]
                            repeat (go_big_quiet_step (fail))
                            refine wpQuiet_nil ?_
                            rfl
                          case haS => rfl
                          case h0 => exact Hs.out
                          case hI => exact fun ρ W2 h => St.tail h
                          case hR => exact fun ρ W2 W3 h hb => St.same h hb
                          case hE =>
                            refine ⟨?e8, ?e10, trivial⟩
                            case e8 =>
                              intro o ho ρ W2 h hcl h8 hd2 af haf
                              obtain rfl := Option.some.inj ho
                              replace haf : af = fillD _ ρ [] _ := haf
                              simp only [fillD] at haf
                              subst haf
                              have hs : St K W2 (blk bp (.cells _ 43) :: _) := h
                              have k0 := hs.k0
                              have f0 := hs.f0
                              have hs := hs.setL 4 (.int .u64 ((nx : Int) + j + 1))
                              have Hs3 := Lib.hid hs
                              clear h hs hcl hd2
                              go_wp2
                              refine ⟨rfl, undef, rfl, ?_⟩
                              have e1 : upd ρ 8 undef 8 = some undef := by simp [upd]
                              have e2 : upd ρ 8 undef 10 = ρ 10 := by simp [upd]
                              unfold PlR
                              rw [e1, e2]
                              exact Hs3.out
                            case e10 =>
                              intro o ho ρ W2 h hcl h10 hd2 af haf
                              obtain rfl := Option.some.inj ho
                              replace haf : af = fillD _ ρ [] _ := haf
                              simp only [fillD] at haf
                              subst haf
                              have hs : St K W2 (blk bp (.cells _ 43) :: _) := h
                              have k0 := hs.k0
                              have f0 := hs.f0
                              have hs := hs.setL 2 (.string y.k)
                              have Hs3 := Lib.hid hs
                              clear h hs hcl hd2
                              go_wp2
                              refine ⟨rfl, undef, rfl, ?_⟩
                              have e1 : upd ρ 10 undef 10 = some undef := by simp [upd]
                              have e2 : upd ρ 10 undef 8 = ρ 8 := by simp [upd]
                              unfold PlR
                              rw [e1, e2]
                              exact Hs3.out
                          case hQ =>
                            intro ρ W2 h hall
                            obtain ⟨v8, h8⟩ := Option.isSome_iff_exists.1 (hall 8 (by simp))
                            obtain ⟨v10, h10⟩ := Option.isSome_iff_exists.1 (hall 10 (by simp))
                            unfold PlR at h
                            rw [h8, h10] at h
                            have hs : St K W2 (blk bp (.cells #[.int .i64 lev, .slice sa p sc, .string y.k, .bool false, .int .u64 ((nx : Int) + j + 1)] 43) :: rowC (.slice ao2 A.length co2) 69 2 A.length (slRow A) :: rowC (.slice (some ⟨gp, 0, none⟩) ps.length pc) 3 1 ps.length (inRow ps) :: memC bm bc (plantRow d L' (row.take j)) acc :: rowC (.slice (some ⟨gs, 0, none⟩) S.length co) 69 2 S.length (slRow S) :: blk bcf (.cells #[.int .i64 d.th, .int .i64 d.sn, .int .i64 d.no, .int .i64 d.ch, .int .i64 d.re, .int .i64 d.fa, .int .u64 d.cl] 26) :: rowC (.slice ka i kc) 9 1 i (stRow ks) :: F) := h
                            simp only [fillD, h8, h10, Option.getD_some, dstAt, List.getElem?_cons_succ, List.getElem?_cons_zero, Option.bind_some, Option.bind_none, Act.put]
                            clear h hall h8 h10
                            by_cases hl0 : lev = 0
                            · subst hl0
                              have kp := hs.k0
                              have cx := hs.b4.row_cell Hrx.out
                              have cy := hs.b4.row_cell Hry.out
                              have Qs := Lib.hid (fun wz => (refSep_any x.k y.k (hksz rfl) wz).mono (by rintro e w' ⟨rfl, rfl⟩; exact And.intro rfl (Below.refl _ _) : ∀ e w', _ → (e = .returned (.string (sepK x.k y.k)) ∧ Below wz.heap.size wz w')))
                              go_upto_region 22 with (fail)
                              refine region_tail 13 (by kernel_rfl) (by as_aux_lemma => kernel_rfl) ?_
                              simp only [List.take_succ_cons, List.take_zero, List.drop_succ_cons, List.drop_zero]
                              repeat (go_big_quiet_step ((go_at_call 71; exact pure_of (Qs.out _))))
                              refine wpQuiet_nil ?_
                              intro w7 hb7
                              have hs := hs.same hb7
                              clear kp cx cy hb7
                              have k0 := hs.k0
                              have f0 := hs.f0
                              have hs := hs.setL 2 (.string (sepK x.k y.k))
                              have hp3 : nd.pg.hi = sepK x.k y.k := by rw [Hpg2.out.1, if_pos rfl]
                              have Hp3 := Lib.hid hp3
                              clear hp3
                              go_wp2
                              go_meet
                              rw [Hp3.out, Hpg2.out.2.1, Hpg2.out.2.2]
                              exact hs
                            · have hp3 : nd.pg.hi = y.k := by rw [Hpg2.out.1, if_neg hl0]
                              have Hp3 := Lib.hid hp3
                              clear hp3
                              go_wp2
                              go_meet
                              rw [Hp3.out, Hpg2.out.2.1, Hpg2.out.2.2]
                              exact hs
                      case rest =>
                        clear hs
                        have hs := hcut
                        clear hcut
                        have hpl : p = nd.pg.sl.length := by rw [Hsl.out]; simp; omega
                        have hmid : nd.id = (nx : Int) + j := Hid'.out
                        have hple : (nd.pg.sl.length : Int) ≤ d.fa := by rw [← hpl]; exact HQ.out.2.1 p (List.mem_of_getElem? Hpj.out)
                        have htk : plantRow d L' (row.take (j + 1)) = putPg d nd.id nd.pg (plantRow d L' (row.take j)) := by
                          rw [List.take_add_one, Hnd.out]; exact plantRow_push _ _ _
                        have hs : St K wc (memC bm bc (plantRow d L' (row.take j)) acc :: blk bp (.cells #[.int .i64 nd.pg.lev, .slice sa nd.pg.sl.length sc, .string nd.pg.hi, .bool nd.pg.la, .int .u64 nd.pg.ri] 43) :: rowC (.slice ao2 A.length co2) 69 2 A.length (slRow A) :: rowC (.slice (some ⟨gp, 0, none⟩) ps.length pc) 3 1 ps.length (inRow ps) :: rowC (.slice ao S.length co) 69 2 S.length (slRow S) :: blk bcf (.cells #[.int .i64 d.th, .int .i64 d.sn, .int .i64 d.no, .int .i64 d.ch, .int .i64 d.re, .int .i64 d.fa, .int .u64 d.cl] 26) :: rowC (.slice ka i kc) 9 1 i (stRow ks) :: F) := by
                          rw [← hpl, Hlev.out]
                          exact hs.re [3, 0, 1, 2, 4, 5, 6] rfl
                        have hput := kitPutG_st (pg := nd.pg) (id := nd.id) (a := sa) (cap := sc) Hd.out (by rw [hmid]; omega) (by rw [Hlev.out]; omega) hple (fun W h => Hsa.out W _ (h.re [3, 0, 1, 2, 4, 5] rfl)) hs
                        rw [hmid] at hput
                        rw [← hmid, ← htk, hmid] at hput
                        have Hput := Lib.hid hput
                        have kp := hs.k1
                        have kcf := hs.b5.k0
                        clear hput htk hmid hple hpl
                        go_wp2_with fail
                        refine (Hput.out).mono ?_
                        clear hs kp kcf Hput
                        rintro e w5 ⟨rfl, hs⟩
                        go_upto_region 24 with (fail)
                        go_cut [136] (fun v136 wx => ∃ b : Bool, v136 = .bool b ∧ Hid (b = false → 0 < j ∧ hide = true) ∧ St K wx (memC bm bc (plantRow d L' (row.take (j + 1))) acc :: blk bp (.cells #[.int .i64 nd.pg.lev, .slice sa nd.pg.sl.length sc, .string nd.pg.hi, .bool nd.pg.la, .int .u64 nd.pg.ri] 43) :: rowC (.slice ao2 A.length co2) 69 2 A.length (slRow A) :: rowC (.slice (some ⟨gp, 0, none⟩) ps.length pc) 3 1 ps.length (inRow ps) :: rowC (.slice ao S.length co) 69 2 S.length (slRow S) :: blk bcf (.cells #[.int .i64 d.th, .int .i64 d.sn, .int .i64 d.no, .int .i64 d.ch, .int .i64 d.re, .int .i64 d.fa, .int .u64 d.cl] 26) :: rowC (.slice ka i kc) 9 1 i (stRow ks) :: F))
                        case first =>
                          as_aux_lemma =>
                          by_cases hj0 : j = 0
                          · subst hj0
                            go_wp2
                            go_meet
                            exact ⟨true, rfl, Lib.hid (fun h => by cases h), hs⟩
                          · have hj1 : 0 < j := by omega
                            cases hide with
                            | false =>
                              go_wp2
                              go_meet
                              exact ⟨true, rfl, Lib.hid (fun h => by cases h), hs⟩
                            | true =>
                              go_wp2
                              go_meet
                              exact ⟨_, rfl, Lib.hid (fun _ => ⟨hj1, by first | rfl | trivial⟩), hs⟩
                        case rest =>
                          clear hs
                          obtain ⟨b, rfl, Hb, hs⟩ := hcut
                          apply_assumption
                          go_cut [16] (fun v16 wx => ∃ (A' : List Sl) (ao3 : Option Addr) (co3 : Nat), v16 = .slice ao3 A'.length co3 ∧ Hid (AboveOk row (j + 1) A' hide) ∧ St K wx (memC bm bc (plantRow d L' (row.take (j + 1))) acc :: blk bp (.cells #[.int .i64 nd.pg.lev, .slice sa nd.pg.sl.length sc, .string nd.pg.hi, .bool nd.pg.la, .int .u64 nd.pg.ri] 43) :: rowC (.slice ao3 A'.length co3) 69 2 A'.length (slRow A') :: rowC (.slice (some ⟨gp, 0, none⟩) ps.length pc) 3 1 ps.length (inRow ps) :: rowC (.slice ao S.length co) 69 2 S.length (slRow S) :: blk bcf (.cells #[.int .i64 d.th, .int .i64 d.sn, .int .i64 d.no, .int .i64 d.ch, .int .i64 d.re, .int .i64 d.fa, .int .u64 d.cl] 26) :: rowC (.slice ka i kc) 9 1 i (stRow ks) :: F))
                          case first =>
                            as_aux_lemma =>
                            cases b with
                            | false =>
                              go_wp2
                              go_meet
                              exact ⟨A, ao2, co2, rfl, Lib.hid (HR.out.2.1.skip (Hb.out (by first | rfl | trivial)).1 (Hb.out (by first | rfl | trivial)).2), hs⟩
                            | true =>
                              have e0 : slotOf nd = ⟨low, (nx : Int) + j⟩ := by unfold slotOf; rw [HR.out.2.2 nd Hnd.out, Hid'.out]
                              have E0 := Lib.hid e0
                              clear e0
                              go_wp2_with (at_builtin; refine append_st _ _ 41 69 _ A.length 2 24 _ (slCells ⟨low, (nx : Int) + j⟩) (.agg #[.string ⟨#[]⟩, .int .u64 0]) iv hs.b2 rfl rfl Tryz.underlying41 Hi0.out Hi1.out Hi2.out Hi3.out rfl (by decide) rfl rfl rfl (fun u hu => by simp [slCells] at hu; rcases hu with rfl | rfl <;> rfl) (by omega) (by decide) ?_)
                              clear hs
                              intro v' w' hs
                              obtain ⟨ao3, co3, hv, _, _⟩ := hs.row_read
                              subst hv
                              go_wp2
                              go_meet
                              exact ⟨A ++ [slotOf nd], ao3, co3, by rw [List.length_append]; rfl, Lib.hid (HR.out.2.1.push Hrow.out.1 Hnd.out), by rw [List.length_append, E0.out, slRow_push]; exact hs.re [1, 2, 0] rfl⟩
                          case rest =>
                            clear hs
                            obtain ⟨A', ao3, co3, rfl, HA', hs⟩ := hcut
                            have kp := hs.k1
                            have hA'l : A'.length ≤ j + 1 := HA'.out.len
                            have hnx2 : ∀ nd', row[j + 1]? = some nd' → nd'.low = nd.pg.hi := fun nd' h => ((Hrow.out.1.next j nd nd' Hnd.out h).2.1).symm
                            have Hnx2 := Lib.hid hnx2
                            clear hnx2
                            go_wp2
                            go_roundw
                            case rel => exact ⟨j + 1, fr + p, A', ao3, co3, nd.pg.hi, rfl, rfl, by go_num, by go_num, by omega, hfp, hA'l, Lib.hid ⟨by rw [sum_take_succ Hpj.out, HR.out.1], HA'.out, Hnx2.out⟩, (hs.re [1, 2, 3, 0] rfl).tail⟩
                            case measure => simp [intOf]; omega
                · obtain rfl : j = ps.length := by omega
                  have hno' : ((nx + ps.length : Nat) : Int) ≤ d.no + 1 := by
                    have h100 := Hno.out
                    rcases Nat.eq_zero_or_pos lev with h | h
                    · have := HP.out.z h; have := (HQ.out.2.2.1 h).2; omega
                    · have h1 := HP.out.p h
                      have h2 := HQ.out.2.2.2 h
                      have h3 : S.length ≤ 2 ∨ 3 ≤ S.length := by omega
                      rcases h3 with h3 | h3
                      · have := fb_one S.length hS40; omega
                      · have h4 := fb_half S.length hS40 h3
                        have h5 := fb_one ((S.length + 1) / 2) (by omega)
                        omega
                  have hst := HP.out.pi.step Hd.out (A := A) HQ.out.1 HQ.out.2.1 HP.out.nx1 hno' (by rw [HP.out.tl]; omega) (by rw [← HrowE.out]; exact HR.out.2.1)
                  rw [← HrowE.out] at hst
                  have htk : row.take ps.length = row := by rw [← Hrow.out.2, List.take_length]
                  rw [htk] at hs
                  have Hst := Lib.hid hst
                  have Hno' := Lib.hid hno'
                  clear hst htk hno'
                  by_cases hone : ps.length = 1
                  · have hn1 : nx + 1 ≤ 101 := by
                      rcases Nat.eq_zero_or_pos lev with h | h
                      · have := HP.out.z h; omega
                      · have := HP.out.p h; have := fb_one S.length hS40; omega
                    obtain ⟨nd, hrow1⟩ : ∃ nd, row = [nd] := List.length_eq_one_iff.1 (by rw [Hrow.out.2]; exact hone)
                    have HX : Hid (TreeX d ks hide (putC (putC (plantRow d L' row) 0 ⟨nx, ⟨#[]⟩, 0⟩) 4 ⟨nx, ⟨#[]⟩, 0⟩) (t ++ [row])) := Lib.hid (by
                      have hcn : CelOk ⟨nx, ⟨#[]⟩, 0⟩ := ⟨by show (0 : Int) ≤ nx; omega, by show (nx : Int) < _; omega⟩
                      have hlen : (plantRow d L' row).length = L'.length := plantRow_length _ _
                      have hcl := HP.out.pi.clen
                      have hcells := Hd.out.cells_bd
                      have hA8 := Hd.out.A_bd
                      have hB8 := Hd.out.B_bd
                      have hC8 := Hd.out.C_bd
                      have hz : (row[0]?) = some nd := by rw [hrow1]; rfl
                      obtain ⟨_, _, hid, _⟩ := Hat.out 0 nd hz
                      have hst := Hst.out
                      rw [hone] at hst
                      refine hst.last Hd.out (nd := nd) (by rw [List.length_append, hrow1]; simp) (by rw [hid]; push_cast; omega) hn1 ?_ ?_ (fun k hk hk4 => by rw [getC_ne (by omega), getC_ne (by omega)]) ((hst.cels.put hcn).put hcn) (by rw [putC_length, putC_length])
                      · rw [getC_ne (by omega), getC_eq (by omega) (by rw [hlen]; omega)]
                        push_cast; omega
                      · rw [getC_eq (by omega) (by rw [putC_length, hlen]; omega)]
                        push_cast; omega)
                    have Hlt := Lib.hid (show (t ++ [row]).length = lev + 1 by rw [List.length_append, HP.out.tl]; rfl)
                    have hs := hs.b2
                    clear hrow1 hn1
                    go_wp2_with fail
                    refine (poke_st (i := 0) (c := ⟨nx, ⟨#[]⟩, 0⟩) hs).mono ?_
                    clear hs
                    rintro e w7 ⟨rfl, hs⟩
                    go_wp2_with fail
                    refine (poke_st (i := 4) (c := ⟨nx, ⟨#[]⟩, 0⟩) hs).mono ?_
                    clear hs
                    rintro e w8 ⟨rfl, hs⟩
                    go_wp2
                    go_ret
                    exact ⟨t ++ [row], _, by rw [Hlt.out]; push_cast; rfl, HX, (hs.re [1, 2, 3, 4, 0] rfl).tail.tail.tail.tail⟩
                  · have hAp : A.length ≤ ps.length := HR.out.2.1.len
                    have HN := Lib.hid (HP.out.next HQ.out.1 (fun h => (HQ.out.2.2.1 h).2) HQ.out.2.2.2 hone hAp (by rw [List.length_append, HP.out.tl]; rfl) Hst.out)
                    have hms : A.length < S.length + (if (lev : Int) = 0 then 1 else 0) := by
                      obtain ⟨h1, h2⟩ := HP.out.some_parts HQ.out.1 (fun h => (HQ.out.2.2.1 h).2) HQ.out.2.2.2 hone
                      split
                      · omega
                      · have := (h2 (by omega)).2; omega
                    have Hms := Lib.hid hms
                    clear hms
                    go_wp2
                    go_roundw
                    case rel => exact ⟨_, nx + ps.length, lev + 1, A, t ++ [row], ao2, co2, plantRow d L' row, rfl, rfl, by go_num, by go_num, by omega, by omega, HN, (hs.re [1, 3, 2, 0] rfl).tail.tail⟩
                    case measure =>
                      have h := Hms.out
                      simp only [slLen, intOf]
                      have e0 : ¬ ((lev : Int) + 1 = 0) := by omega
                      by_cases hl : (lev : Int) = 0
                      · simp only [e0, hl, if_true, if_false] at h ⊢
                        simp at h ⊢; omega
                      · simp only [e0, hl, if_false] at h ⊢; omega
end
end Go.Proofs.YtlpdhhhgckpcfaaGreat
