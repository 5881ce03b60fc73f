/- The walk of AllocTakesAndRaises. -/
import Derived.Test.YtfoojallpmibfaaSt2
import Derived.Test.YtfoojallpmibfaaBothLaw
import Derived.Test.YtfoojallpmibfaaLaw5b
namespace Go.Proofs.Ytfoojallpmibfaa
open Go.RowKit
set_option maxRecDepth 100000

section
variable {K : Know} {w : World} {F : List Comp}
theorem St.row_at {a : Option Addr} {cap : Nat} {T : TypeId} {size n : Nat} {xs : List Value} (h : St K w (rowC (.slice a n cap) T size n xs :: F)) {j : Nat} {x : Value} (hx : xs[j]? = some x) : ∃ g, a = some ⟨g, 0, none⟩ ∧ w.cell? ⟨g, j, none⟩ = some x := by
  obtain ⟨a', cap', e, _, k⟩ := h.row_read
  have hn : 0 < n := by
    rcases Nat.eq_zero_or_pos n with h0 | h0
    · have := h.head.1
      rw [h0, Nat.zero_mul, List.length_eq_zero_iff] at this
      rw [this] at hx; simp at hx
    · exact h0
  obtain ⟨g, cur, rfl, hc, hk⟩ := k hn
  simp only [Value.slice.injEq] at e
  exact ⟨g, e.1, by rw [blk_cell hc]; exact hk j x hx⟩
end

theorem zipWith_set {α β γ : Type} (f : α → β → γ) (l : List α) (m : List β) (i : Nat) (a : α) (b : β) (h : l[i]? = some a) : (List.zipWith f l m).set i (f a b) = List.zipWith f l (m.set i b) := by
  induction l generalizing m i with
  | nil => simp at h
  | cons x l ih =>
    cases m with
    | nil => simp
    | cons y m =>
      cases i with
      | zero => simp at h; subst h; simp
      | succ i => simp only [List.zipWith_cons_cons, List.set_cons_succ]; rw [ih m i (by simpa using h)]

/-- The parts of the law's world. -/
def both5 (bm bc gd : Nat) (vt vr vs : Value) (n k m : Nat) (x : Int) (acc : Nat) (bs : List Nat) (rs : List (Nat × Int)) (S : List TakeS) (R : List RaiseS) (seen : List Int) (D : List Bool) : List Comp :=
  [memC bm bc (CL x) acc, group (List.zipWith (fun b s => takeC b 0 1000 s) bs S), group (List.zipWith (fun p s => raiseC p.1 0 p.2 s) rs R), rowC vs 22 1 m (seen.map (Value.int .u64)), blk gd (.cells (D.map Value.bool).toArray 4), rowC vr 65 1 k (rs.map (fun p => .pointer (some ⟨p.1, 0, none⟩))), rowC vt 53 1 n (bs.map (fun b => .pointer (some ⟨b, 0, none⟩)))]

def dones (S : List TakeS) (R : List RaiseS) : List Bool := S.map (fun s => decide (2 ≤ s.pc)) ++ R.map (fun s => decide (2 ≤ s.pc))
theorem dones_T {S : List TakeS} {R : List RaiseS} {i : Nat} {s s' : TakeS} (h : S[i]? = some s) : (dones S R)[i]? = some (decide (2 ≤ s.pc)) ∧ dones (S.set i s') R = (dones S R).set i (decide (2 ≤ s'.pc)) := by
  have hl := (List.getElem?_eq_some_iff.1 h).1
  unfold dones
  exact ⟨by rw [List.getElem?_append_left (by simpa using hl)]; simp [h], by rw [List.set_append_left _ _ (by simpa using hl), List.map_set]⟩
theorem dones_R {S : List TakeS} {R : List RaiseS} {i : Nat} {s s' : RaiseS} (h : R[i]? = some s) : (dones S R)[S.length + i]? = some (decide (2 ≤ s.pc)) ∧ dones S (R.set i s') = (dones S R).set (S.length + i) (decide (2 ≤ s'.pc)) := by
  unfold dones
  exact ⟨by rw [List.getElem?_append_right (by simp)]; simp [h], by rw [List.set_append_right _ _ (by simp), List.map_set]; simp⟩

theorem dones_all {S : List TakeS} {R : List RaiseS} {n : Nat} (h1 : ∀ s, s ∈ S → 2 ≤ s.pc) (h2 : ∀ s, s ∈ R → 2 ≤ s.pc) (hn : S.length + R.length = n) : ∀ p, p < n → (dones S R)[p]? = some true := by
  intro p hp
  unfold dones
  rcases Nat.lt_or_ge p S.length with h | h
  · rw [List.getElem?_append_left (by simpa using h)]
    simp [h, h1 _ (List.getElem_mem h)]
  · rw [List.getElem?_append_right (by simpa using h)]
    have : p - S.length < R.length := by omega
    simp [this, h2 _ (List.getElem_mem this)]
theorem takers_set (bs : List Nat) (S : List TakeS) (p b : Nat) (s' : TakeS) (h : bs[p]? = some b) : (List.zipWith (fun b s => takeC b 0 1000 s) bs S).set p (takeC b 0 1000 s') = List.zipWith (fun b s => takeC b 0 1000 s) bs (S.set p s') := zipWith_set (fun b s => takeC b 0 1000 s) bs S p b s' h
theorem raisers_set (rs : List (Nat × Int)) (R : List RaiseS) (p : Nat) (b : Nat × Int) (s' : RaiseS) (h : rs[p]? = some b) : (List.zipWith (fun p s => raiseC p.1 0 p.2 s) rs R).set p (raiseC b.1 0 b.2 s') = List.zipWith (fun p s => raiseC p.1 0 p.2 s) rs (R.set p s') := zipWith_set (fun p s => raiseC p.1 0 p.2 s) rs R p b s' h
theorem infoU64 : (Try.prog.info? 22).map (fun i => (i.zero, i.size, i.bytes)) = some (some (.int .u64 0), 1, 8) := by kernel_rfl

/-- What the law's test of a step sees. -/
def Seen5 (i p : Nat) (x x' : Int) (S' : List TakeS) (fin dn : Bool) : Prop :=
  (p < i ∧ fin = true ∧ dn = false ∧ x' = x + 1 ∧ ∃ s', S'[p]? = some s' ∧ s'.ok = true ∧ s'.seen = x) ∨ (fin && !dn && decide (p < i)) = false

def After5 (K : Know) (len q i j bm bc gd : Nat) (tos : List Int) (vt vr : Value) (bs : List Nat) (rs : List (Nat × Int)) (S : List TakeS) (R : List RaiseS) (S' : List TakeS) (R' : List RaiseS) (x' : Int) (v : Value) (wx : World) : Prop :=
  ∃ (m acc : Nat) (seen : List Int), m ≤ q + 1 ∧ acc ≤ q + 1 ∧ seen.length = m ∧ PInv len (q + 1) tos x' S' R' seen ∧ St K wx (both5 bm bc gd vt vr v i j m x' acc bs rs S' R' seen (dones S R))
/-- After a step. -/
def Mid5 (K : Know) (len q i j p m bm bc gd : Nat) (tos : List Int) (vt vr vs : Value) (bs : List Nat) (rs : List (Nat × Int)) (S : List TakeS) (R : List RaiseS) (seen : List Int) (x : Int) (v : Value) (wx : World) : Prop :=
  ∃ (x' : Int) (acc' : Nat) (S' : List TakeS) (R' : List RaiseS) (fin dn : Bool), acc' ≤ q + 1 ∧ v = .bool fin ∧ S'.length = i ∧ R'.length = j ∧ PInv len (q + 1) tos x' S' R' seen ∧ x ≤ x' ∧ (dones S R)[p]? = some dn ∧ dones S' R' = (dones S R).set p fin ∧ Seen5 i p x x' S' fin dn ∧ St K wx (both5 bm bc gd vt vr vs i j m x' acc' bs rs S' R' seen (dones S R))
section
variable {K : Know} {len q i j p m bm bc gd acc : Nat} {tos : List Int} {vt vr vs : Value} {bs : List Nat} {rs : List (Nat × Int)} {S : List TakeS} {R : List RaiseS} {seen : List Int} {x x' : Int} {wx : World}
theorem Mid5.take {s s' : TakeS} {b acc' : Nat} (hI : PInv len q tos x S R seen) (hSl : S.length = i) (hRl : R.length = j) (hbl : bs.length = i) (hpi : p < i) (hSp : S[p]? = some s) (hbp : bs[p]? = some b) (hst : TStep 1000 x s s' x') (ht : len ≤ q → q % (i + j) = p) (hacc : acc' ≤ q + 1)
    (hs : St K wx (takeC b 0 1000 s' :: memC bm bc (CL x') acc' :: group ((List.zipWith (fun b s => takeC b 0 1000 s) bs S).eraseIdx p) :: group (List.zipWith (fun p s => raiseC p.1 0 p.2 s) rs R) :: rowC vs 22 1 m (seen.map (Value.int .u64)) :: blk gd (.cells ((dones S R).map Value.bool).toArray 4) :: rowC vr 65 1 j (rs.map (fun p => .pointer (some ⟨p.1, 0, none⟩))) :: rowC vt 53 1 i (bs.map (fun b => .pointer (some ⟨b, 0, none⟩))) :: [])) :
    Mid5 K len q i j p m bm bc gd tos vt vr vs bs rs S R seen x (.bool (decide (2 ≤ s'.pc))) wx := by
  refine ⟨x', acc', S.set p s', R, _, decide (2 ≤ s.pc), hacc, rfl, by simpa using hSl, hRl, hI.stepT hSp hst (by rw [hSl, hRl]; exact ht), hst.mono, (dones_T hSp (s' := s')).1, (dones_T hSp).2, ?_, ?_⟩
  · have := hI.x1
    rcases hst.see (by omega) with ⟨h1, h2, h3, h4, h5⟩ | h1
    · exact .inl ⟨hpi, by simp [h2], by simp; omega, h5, s', by rw [List.getElem?_set, if_pos rfl, if_pos (by omega)], h3, h4⟩
    · right; rw [h1]; rfl
  · have hs := (hs.b1.u2.into (i := p) (by simp; omega)).b1
    rw [takers_set _ _ _ _ _ hbp] at hs
    exact hs
theorem Mid5.raise {s s' : RaiseS} {b : Nat × Int} {t acc' : Nat} (hI : PInv len q tos x S R seen) (hSl : S.length = i) (hRl : R.length = j) (hrl : rs.length = j) (hpi : p = i + t) (htj : t < j) (hRt : R[t]? = some s) (hbt : rs[t]? = some b) (hto : tos[t]? = some b.2) (hst : RStep b.2 x s s' x') (ht : len ≤ q → q % (i + j) = p) (hacc : acc' ≤ q + 1)
    (hs : St K wx (raiseC b.1 0 b.2 s' :: memC bm bc (CL x') acc' :: group ((List.zipWith (fun p s => raiseC p.1 0 p.2 s) rs R).eraseIdx t) :: group (List.zipWith (fun b s => takeC b 0 1000 s) bs S) :: rowC vs 22 1 m (seen.map (Value.int .u64)) :: blk gd (.cells ((dones S R).map Value.bool).toArray 4) :: rowC vr 65 1 j (rs.map (fun p => .pointer (some ⟨p.1, 0, none⟩))) :: rowC vt 53 1 i (bs.map (fun b => .pointer (some ⟨b, 0, none⟩))) :: [])) :
    Mid5 K len q i j p m bm bc gd tos vt vr vs bs rs S R seen x (.bool (decide (2 ≤ s'.pc))) wx := by
  obtain ⟨hI', hm⟩ := hI.stepR hRt hto hst (by rw [hSl, hRl, ← hpi]; exact ht)
  have hd := dones_R (S := S) (s' := s') hRt
  rw [hSl, ← hpi] at hd
  refine ⟨x', acc', S, R.set t s', _, decide (2 ≤ s.pc), hacc, rfl, hSl, by simpa using hRl, hI', hm, hd.1, hd.2, ?_, ?_⟩
  · right; simp; intro _ _; omega
  · have hs := (hs.b1.u2.into (i := t) (by simp; omega)).u2
    rw [raisers_set _ _ _ _ _ hbt] at hs
    exact hs
end

set_option maxHeartbeats 2000000 in
theorem both_walk (a1 : Option Addr) (len1 cap1 : Nat) (G : Nat → Int) (takers : Int) (a : Option Addr) (len cap : Nat) (P : Nat → Int) (w : World) (hrow1 : RowIn .u8 w a1 len1 G) (hrow : RowIn .u8 w a len P) :
    Calls Try.prog 9 #[.slice a1 len1 cap1, .int .i64 takers, .slice a len cap] w fun e w' => e = .returned (.bool true) ∧ Below w.heap.size w w' := by
  obtain ⟨r, hmod, hr0, hr1⟩ : ∃ r : Int, (∀ w, Calls Try.prog 17 #[.int .i64 takers, .int .i64 3] w fun e w' => e = .returned (.int .i64 r) ∧ w = w') ∧ 0 ≤ r ∧ r ≤ 2 := ⟨takers % 3, mod_any takers 3 (by omega) (by omega), by omega, by omega⟩
  have hlen := hrow.1
  have hlen1 := hrow1.1
  unfold maxLen at hlen hlen1
  go_enter Try.func9, Try.ntmps9
  go_wp2_with fail
  refine (memNew_st (n := 1) (St.start w) (by omega) (by omega)).mono ?_
  rintro e w1 ⟨bm, bc, rfl, hs⟩
  go_wp2_with fail
  refine (calls_same hs (awake5_any _)).mono ?_
  clear hs
  rintro e w2 ⟨rfl, hs⟩
  by_cases h100 : 100 < len
  · go_wp2_with fail
    refine (calls_same hs (awake5_any _)).mono ?_
    clear hs
    rintro e w3 ⟨rfl, hs⟩
    go_wp2
    go_ret
    exact ⟨rfl, hs.below (Know.Le.refl _)⟩
  · have h100' : len ≤ 100 := by omega
    clear h100
    go_upto_region 4 with (go_at_call 17; refine (hmod _).mono ?_; rintro e w0 ⟨rfl, rfl⟩)
    go_cut [9, 10] (fun vn vk wx => ∃ n k : Nat, 1 ≤ n ∧ n ≤ 3 ∧ k ≤ 3 ∧ k ≤ len1 ∧ vn = .int .i64 n ∧ vk = .int .i64 k ∧ wx = w2)
    case first =>
      by_cases h3 : len1 ≤ 3
      · go_wp2_with (go_at_call 17; refine (hmod _).mono ?_; rintro e w0 ⟨rfl, rfl⟩)
        go_meet
        exact ⟨(1 + r).toNat, len1, by omega, by omega, h3, Nat.le_refl _, by rw [Int.toNat_of_nonneg (by omega)], rfl, rfl⟩
      · go_wp2_with (go_at_call 17; refine (hmod _).mono ?_; rintro e w0 ⟨rfl, rfl⟩)
        go_meet
        exact ⟨(1 + r).toNat, 3, by omega, by omega, by omega, by omega, by rw [Int.toNat_of_nonneg (by omega)], rfl, rfl⟩
    case rest =>
      clear hmod hr0 hr1
      obtain ⟨n, k, n1, n2, k2, k3, rfl, rfl, rfl⟩ := hcut
      obtain ⟨it, hit0, hit1, hit2, hit3⟩ := info_parts infoTakeP
      obtain ⟨ir, hir0, hir1, hir2, hir3⟩ := info_parts infoRaiseP
      go_wp2
      go_loopw [11, 13] (fun vt vi wr => ∃ (i : Nat) (bs : List Nat), i ≤ n ∧ vi = .int .i64 i ∧ bs.length = i ∧ St (Know.of w) wr [rowC vt 53 1 i (bs.map (fun b => .pointer (some ⟨b, 0, none⟩))), memC bm bc (CL 0) 0, group (List.zipWith (fun b s => takeC b 0 1000 s) bs (List.replicate i ⟨0, 0, false⟩))]) (fun _ vi _ => n - (intOf vi).toNat)
      case atStart => exact ⟨0, [], by omega, rfl, rfl, (St.group_nil.2 hs).b1.row_nil⟩
      case round =>
        clear hs
        obtain ⟨i, bs, hi, rfl, hbl, hs⟩ := hrel
        by_cases hlt : i < n
        · go_wp2_with fail
          refine (newTake_st hs).mono ?_
          clear hs
          rintro e w4 ⟨b, rfl, hs⟩
          go_wp2_with (at_builtin; refine append_st _ _ 52 53 _ i 1 8 _ [.pointer (some ⟨b, 0, none⟩)] (.pointer none) it hs.b1 rfl rfl Try.underlying52 hit0 hit1 hit2 hit3 rfl (by decide) rfl rfl rfl (fun u hu => by simp at hu; subst hu; rfl) (by omega) (by decide) ?_)
          clear hs
          intro v' w' hs
          go_wp2
          go_roundw
          case rel =>
            refine ⟨i + 1, bs ++ [b], by omega, by go_num, by simp [hbl], ?_⟩
            have hs := hs.b3.b2.push.u2
            rw [List.replicate_succ', List.zipWith_append (by simpa using hbl)]
            simpa using hs
          case measure => simp [intOf]; omega
        · obtain rfl : i = n := by omega
          have Hbl := Lib.hid hbl
          clear hbl hlt hi
          obtain ⟨w5, rfl⟩ : ∃ w5 : World, w5 = wr := ⟨_, rfl⟩
          go_wp2
          go_loopw [12, 14] (fun vr vi wr => ∃ (j : Nat) (rs : List (Nat × Int)), j ≤ k ∧ vi = .int .i64 j ∧ rs.map Prod.snd = (List.range j).map G ∧ St (Know.of w) wr [rowC vr 65 1 j (rs.map (fun p => .pointer (some ⟨p.1, 0, none⟩))), group (List.zipWith (fun p s => raiseC p.1 0 p.2 s) rs (List.replicate j ⟨0, 0, false⟩)), rowC u11 53 1 i (bs.map (fun b => .pointer (some ⟨b, 0, none⟩))), memC bm bc (CL 0) 0, group (List.zipWith (fun b s => takeC b 0 1000 s) bs (List.replicate i ⟨0, 0, false⟩))]) (fun _ vi _ => k - (intOf vi).toNat)
          case atStart => exact ⟨0, [], by omega, rfl, rfl, (St.group_nil.2 hs).row_nil⟩
          case round =>
            clear hs
            obtain ⟨j, rs, hj, rfl, hrs, hs⟩ := hrel
            have Hrs := Lib.hid hrs
            clear hrs
            by_cases hlt : j < k
            · obtain ⟨b0, off, rfl, _, hpc, hpw⟩ := (hrow1.keep (hs.below (Know.Le.refl _))).2 j (by omega)
              obtain ⟨p0, p1⟩ := bounds_u8 hpw
              go_wp2_with fail
              refine (newRaise_st hs).mono ?_
              clear hs
              rintro e w6 ⟨b, rfl, hs⟩
              go_wp2_with (at_builtin; refine append_st _ _ 64 65 _ j 1 8 _ [.pointer (some ⟨b, 0, none⟩)] (.pointer none) ir hs.b1 rfl rfl Try.underlying64 hir0 hir1 hir2 hir3 rfl (by decide) rfl rfl rfl (fun u hu => by simp at hu; subst hu; rfl) (by omega) (by decide) ?_)
              clear hs
              intro v' w' hs
              go_wp2
              go_roundw
              case rel =>
                refine ⟨j + 1, rs ++ [(b, G j)], by omega, by go_num, by rw [List.map_append, Hrs.out, List.range_succ, List.map_append]; rfl, ?_⟩
                have hs := hs.b2.b2.push.b1
                have hl : rs.length = j := by have := congrArg List.length Hrs.out; simpa using this
                rw [List.replicate_succ', List.zipWith_append (by simpa using hl)]
                simpa using hs
              case measure => simp [intOf]; omega
            · obtain rfl : j = k := by omega
              clear hit0 hit1 hit2 hit3 hir0 hir1 hir2 hir3 hj hlt
              obtain ⟨w6, rfl⟩ : ∃ w6 : World, w6 = wr := ⟨_, rfl⟩
              obtain ⟨at_, capt, rfl, _, _⟩ := (hs.b2).row_read
              obtain ⟨ar, capr, rfl, _, _⟩ := hs.row_read
              obtain ⟨ib, hib0, hib1, hib2, hib3⟩ := info_parts infoBool
              have hmk := makeRow 43 4 ib (.bool false) 1 Try.underlying43 hib0 hib1 hib2 hib3 rfl (by decide) (i + j) (by omega) ((i : Int) + (j : Int)) (by omega)
              have hs := ((hs.made (.cells (Array.replicate (i + j) (.bool false)) 4)).blk_eq (o' := .cells ((dones (List.replicate i ⟨0, 0, false⟩) (List.replicate j ⟨0, 0, false⟩)).map Value.bool).toArray 4) (by simp [dones])).row_nil (T := 22) (size := 1)
              have hs := hs.b5.b6.b1.b5.u2
              go_wp2
              clear hmk hib0 hib1 hib2 hib3
              go_loopw [16, 17] (fun vs vq wr => ∃ (q m acc : Nat) (x : Int) (S : List TakeS) (R : List RaiseS) (seen : List Int), q ≤ len + 40 * (i + j) ∧ m ≤ q ∧ acc ≤ q ∧ vq = .int .i64 q ∧ S.length = i ∧ R.length = j ∧ PInv len q ((List.range j).map G) x S R seen ∧ seen.length = m ∧ St (Know.of w) wr (both5 bm bc w6.heap.size (.slice at_ i capt) (.slice ar j capr) vs i j m x acc bs rs S R seen (dones S R))) (fun _ vq _ => len + 40 * (i + j) - (intOf vq).toNat)
              case atStart =>
                have hG : ∀ z, z ∈ (List.range j).map G → z ≤ 255 := by
                  intro z ht
                  obtain ⟨t, ht', rfl⟩ := List.mem_map.1 ht
                  obtain ⟨_, _, _, _, _, hpw⟩ := hrow1.2 t (by have := List.mem_range.1 ht'; omega)
                  have := bounds_u8 hpw
                  omega
                have hp := PInv.start (p := len) (n := i) (tos := (List.range j).map G) (by omega) (by simpa using k2) hG
                exact ⟨0, 0, 0, 0, _, _, [], by omega, by omega, by omega, rfl, by simp, by simp, by simpa using hp, rfl, hs⟩
              case round =>
                clear hs
                obtain ⟨q, m, acc, x, S, R, seen, hq, hm, hacc, rfl, hSl, hRl, hI, hsl, hs⟩ := hrel
                have Hsl := Lib.hid hsl
                have HS := Lib.hid hSl
                have HR := Lib.hid hRl
                clear hsl hSl hRl
                have hx0 := hI.x0
                have hx1 := hI.x1
                have HI := Lib.hid hI
                clear hI
                have hpos : (0 : Int) < (i : Int) + (j : Int) := by omega
                by_cases hlt : q < len + 40 * (i + j)
                · go_upto_if 101 with (fail)
                  go_cut [18] (fun v wx => ∃ p : Nat, p < i + j ∧ (len ≤ q → q % (i + j) = p) ∧ v = .int .i64 p ∧ wx = wr)
                  case first =>
                    by_cases hqp : q < len
                    · obtain ⟨b, off, rfl, _, hpc, hpw⟩ := (hrow.keep (hs.below (Know.Le.refl _))).2 q hqp
                      obtain ⟨p0, p1⟩ := bounds_u8 hpw
                      go_wp2
                      go_meet
                      exact ⟨(P q % (i + j)).toNat, by have := Int.emod_lt_of_pos (P q) hpos; omega, fun h => by omega, by rw [Int.toNat_of_nonneg (Int.emod_nonneg _ (by omega))], rfl⟩
                    · go_wp2
                      go_meet
                      exact ⟨q % (i + j), Nat.mod_lt _ (by omega), fun _ => rfl, by simp, rfl⟩
                  case rest =>
                    obtain ⟨p, hp, hturn, rfl, rfl⟩ := hcut
                    have Hturn := Lib.hid hturn
                    clear hturn hpos
                    go_wp2_with fail
                    refine (calls_same hs (peekCL _ _ _ _ _ hs.mem)).mono ?_
                    clear hs
                    rintro e w8 ⟨rfl, hs⟩
                    go_upto_if 116 with (fail)
                    go_cut [20] (fun v wx => Mid5 (Know.of w) len q i j p m bm bc w6.heap.size ((List.range j).map G) (.slice at_ i capt) (.slice ar j capr) u16 bs rs S R seen x v wx)
                    case first =>
                      by_cases hpi : p < i
                      · obtain ⟨s, hSp⟩ : ∃ s, S[p]? = some s := ⟨_, List.getElem?_eq_getElem (by rw [HS.out]; exact hpi)⟩
                        obtain ⟨b, hbp⟩ : ∃ b, bs[p]? = some b := ⟨_, List.getElem?_eq_getElem (by rw [Hbl.out]; exact hpi)⟩
                        obtain ⟨gt, rfl, kt⟩ := (hs.b6).row_at (j := p) (x := .pointer (some ⟨b, 0, none⟩)) (by simp [hbp])
                        obtain ⟨s', x', e, hst⟩ := takeStep_CL 1000 x s
                        have hgood := HI.out.take s (List.mem_of_getElem? hSp)
                        have q5 := fun w' F (hs' : St (Know.of w) w' (takeC b 0 1000 s :: memC bm bc (CL x) acc :: F)) => takeStep_st hs' (by omega) (fun h => by have := hgood.one h; omega)
                        rw [e] at q5
                        have Q := Lib.hid q5
                        clear q5 e
                        go_wp2_with fail
                        refine (Q.out _ _ ((hs.b1.out (i := p) (c := takeC b 0 1000 s) (by rw [List.getElem?_zipWith, hbp, hSp])).b2.b1)).mono ?_
                        clear hs Q kt
                        rintro e w9 ⟨rfl, hs⟩
                        go_wp2
                        go_meet
                        exact Mid5.take HI.out HS.out HR.out Hbl.out hpi hSp hbp hst Hturn.out (by split <;> omega) hs
                      · obtain ⟨t, ht⟩ : ∃ t : Nat, p = i + t := ⟨p - i, by omega⟩
                        have hpt : (p : Int) - (i : Int) = (t : Int) := by omega
                        have htj : t < j := by omega
                        obtain ⟨s, hRt⟩ : ∃ s, R[t]? = some s := ⟨_, List.getElem?_eq_getElem (by rw [HR.out]; exact htj)⟩
                        have hrl : rs.length = j := by have := congrArg List.length Hrs.out; simpa using this
                        obtain ⟨b, hbt⟩ : ∃ b, rs[t]? = some b := ⟨_, List.getElem?_eq_getElem (by rw [hrl]; exact htj)⟩
                        have hto : ((List.range j).map G)[t]? = some b.2 := by rw [← Hrs.out]; simp [hbt]
                        obtain ⟨gr, rfl, kt⟩ := (hs.b5).row_at (j := t) (x := .pointer (some ⟨b.1, 0, none⟩)) (by simp [hbt])
                        obtain ⟨s', x', e, hst⟩ := raiseStep_CL b.2 x s
                        have q5 := fun w' F (hs' : St (Know.of w) w' (raiseC b.1 0 b.2 s :: memC bm bc (CL x) acc :: F)) => raiseStep_st hs' (by omega)
                        rw [e] at q5
                        have Q := Lib.hid q5
                        have Hto := Lib.hid hto
                        have Hht := Lib.hid ht
                        have Hrl := Lib.hid hrl
                        clear q5 e hto ht hrl
                        go_wp2_with fail
                        refine (Q.out _ _ ((hs.b2.out (i := t) (c := raiseC b.1 0 b.2 s) (by rw [List.getElem?_zipWith, hbt, hRt])).b2.b1)).mono ?_
                        clear hs Q kt hpt
                        rintro e w9 ⟨rfl, hs⟩
                        go_wp2
                        go_meet
                        exact Mid5.raise HI.out HS.out HR.out Hrl.out Hht.out htj hRt hbt Hto.out hst Hturn.out (by split <;> omega) hs
                    case rest =>
                      clear hs
                      obtain ⟨x', acc', S', R', fin, dn, hacc', rfl, HS', HR', hI', hxx, hdn, hD, hsee, hs⟩ := hcut
                      obtain ⟨as_, caps, rfl, _, _⟩ := hs.b3.row_read
                      have HS' := Lib.hid HS'
                      have HR' := Lib.hid HR'
                      have Hdn := Lib.hid hdn
                      have HD := Lib.hid hD
                      have HI' := Lib.hid hI'
                      have Hsee := Lib.hid hsee
                      have hx1' := hI'.x1
                      clear hdn hD hI' hsee
                      go_wp2_with fail
                      refine (calls_same hs (peekCL _ _ _ _ _ hs.mem)).mono ?_
                      clear hs
                      rintro e w9 ⟨rfl, hs⟩
                      have kd := hs.tail.tail.tail.tail.k0 p
                      rw [show ((dones S R).map Value.bool).toArray[p]? = some (.bool dn) by simp [Hdn.out]] at kd
                      have hb28 : decide (x' < x) = false := by simp; omega
                      go_upto_region 30 with (fail)
                      go_cut [148] (fun v wx => v = .bool (fin && !dn && decide (p < i)) ∧ wx = w9)
                      case first =>
                        cases fin
                        · go_wp2
                          go_meet
                          exact ⟨rfl, rfl⟩
                        · cases dn
                          · go_wp2
                            go_meet
                            exact ⟨rfl, rfl⟩
                          · go_wp2
                            go_meet
                            exact ⟨rfl, rfl⟩
                      case rest =>
                        obtain ⟨rfl, rfl⟩ := hcut
                        clear kd hb28
                        go_upto_if 148 with (fail)
                        go_cut [16] (fun v wx => After5 (Know.of w) len q i j bm bc w6.heap.size ((List.range j).map G) (.slice at_ i capt) (.slice ar j capr) bs rs S R S' R' x' v wx)
                        case first =>
                          rcases Hsee.out with ⟨hpi, rfl, rfl, rfl, s', hSp, hok, hseen⟩ | hno
                          · rw [show (true && !false && decide (p < i)) = true by simp [hpi]]
                            obtain ⟨b, hbp⟩ : ∃ b, bs[p]? = some b := ⟨_, List.getElem?_eq_getElem (by rw [Hbl.out]; exact hpi)⟩
                            obtain ⟨gt, rfl, kt⟩ := (hs.b6).row_at (j := p) (x := .pointer (some ⟨b, 0, none⟩)) (by simp [hbp])
                            have q9 := takeNumber_any wc b 0 1000 s' (hs.b1.out (i := p) (c := takeC b 0 1000 s') (by rw [List.getElem?_zipWith, hbp, hSp])).head (by omega)
                            simp only [hok, hseen, if_true] at q9
                            have Q := Lib.hid q9
                            have Hno : Hid (∀ y, y ∈ seen → (y == x + 1) = false) := Lib.hid (fun y hy => by have := HI.out.seen y hy; simp; omega)
                            obtain ⟨iu, hiu0, hiu1, hiu2, hiu3⟩ := info_parts infoU64
                            clear q9 hok hseen hSp
                            go_wp2_with fail
                            refine (Q.out).mono ?_
                            rintro e w10 ⟨rfl, rfl⟩
                            clear kt Q
                            go_wp2
                            go_loopw [23] (fun v wr => ∃ t : Nat, t ≤ m ∧ v = .int .i64 t ∧ wr = wc) (fun v _ => m - (intOf v).toNat)
                            case atStart => exact ⟨0, by omega, rfl, rfl⟩
                            case round =>
                              obtain ⟨t, ht, rfl, rfl⟩ := hrel
                              by_cases htm : t < m
                              · obtain ⟨y, hy⟩ : ∃ y, seen[t]? = some y := ⟨_, List.getElem?_eq_getElem (by rw [Hsl.out]; exact htm)⟩
                                obtain ⟨gs, rfl, ks⟩ := (hs.b3).row_at (j := t) (x := .int .u64 y) (by simp [hy])
                                have hyb := Hno.out y (List.mem_of_getElem? hy)
                                go_wp2
                                go_roundw
                                case rel => exact ⟨t + 1, by omega, by go_num, trivial⟩
                                case measure => simp [intOf]; omega
                              · obtain rfl : t = m := by omega
                                go_wp2_with fail
                                refine (calls_same hs (peekCL _ _ _ _ _ hs.mem)).mono ?_
                                clear hs
                                rintro e w11 ⟨rfl, hs⟩
                                go_wp2_with (at_builtin; refine append_st _ _ 67 22 _ t 1 8 _ [.int .u64 (x + 1)] (.int .u64 0) iu hs.b3 rfl rfl Try.underlying67 hiu0 hiu1 hiu2 hiu3 rfl (by decide) rfl rfl rfl (fun u hu => by simp at hu; subst hu; rfl) (by omega) (by decide) ?_)
                                clear hs
                                intro v' w' hs
                                go_wp2
                                go_meet
                                exact ⟨t + 1, acc', seen ++ [x + 1], by omega, by omega, by simp [Hsl.out], HI'.out.saw, by have hs := hs.u3; unfold both5; simpa using hs⟩
                          · rw [hno]
                            go_wp2
                            go_meet
                            exact ⟨m, acc', seen, by omega, by omega, Hsl.out, HI'.out, hs⟩
                        case rest =>
                          clear hs Hsee Hsl
                          obtain ⟨m', acc2, seen', hm', hacc2, hsl', hI2, hs⟩ := hcut
                          have Hsl := Lib.hid hsl'
                          have HI2 := Lib.hid hI2
                          clear hsl' hI2
                          have kd := hs.tail.tail.tail.tail.k0 p
                          rw [show ((dones S R).map Value.bool).toArray[p]? = some (.bool dn) by simp [Hdn.out]] at kd
                          have kf := hs.tail.tail.tail.tail.f0 p
                          have hs := (hs.b4.setL p (.bool fin)).u4
                          go_wp2
                          go_roundw
                          case rel =>
                            refine ⟨q + 1, m', acc2, x', S', R', seen', by omega, by omega, by omega, by go_num, HS'.out, HR'.out, HI2.out, Hsl.out, ?_⟩
                            rw [HD.out]
                            unfold both5
                            rw [List.map_set]
                            exact hs
                          case measure => simp [intOf]; omega
                · obtain rfl : q = len + 40 * (i + j) := by omega
                  obtain ⟨hd1, hd2, hd3⟩ := HI.out.end (by rw [HS.out, HR.out])
                  have Hd : Hid (∀ p, p < i + j → (dones S R)[p]? = some true) := Lib.hid (dones_all hd1 hd2 (by rw [HS.out, HR.out]))
                  have H3 := Lib.hid hd3
                  clear hd1 hd2 hd3 hlt hpos hq
                  go_wp2
                  go_loopw [24] (fun v wr => ∃ t : Nat, t ≤ i + j ∧ v = .int .i64 t ∧ St (Know.of w) wr (both5 bm bc w6.heap.size (.slice at_ i capt) (.slice ar j capr) u16 i j m x acc bs rs S R seen (dones S R))) (fun v _ => i + j - (intOf v).toNat)
                  case atStart => exact ⟨0, by omega, rfl, hs⟩
                  case round =>
                    clear hs
                    obtain ⟨t, ht, rfl, hs⟩ := hrel
                    by_cases htl : t < i + j
                    · have kd := hs.tail.tail.tail.tail.k0 t
                      rw [show ((dones S R).map Value.bool).toArray[t]? = some (.bool true) by simp [Hd.out t htl]] at kd
                      go_upto_region 44 with (fail)
                      by_cases hti : t < i
                      · have hti' : decide (i ≤ t) = false := by simp; omega
                        refine region_pure (by kernel_rfl) (by kernel_rfl) ?_
                        repeat (go_big_quiet_step (fail))
                        refine wpQuiet_nil ?_
                        intro w11 hb
                        have hs := hs.same hb
                        clear kd hb
                        go_wp2
                        go_roundw
                        case rel => exact ⟨t + 1, by omega, by go_num, hs⟩
                        case measure => simp [intOf]; omega
                      · have hti' : decide (i ≤ t) = true := by simp; omega
                        obtain ⟨u, hu⟩ : ∃ u : Nat, t = i + u := ⟨t - i, by omega⟩
                        have hpt : (t : Int) - (i : Int) = (u : Int) := by omega
                        obtain ⟨b0, off, rfl, _, hpc, hpw⟩ := (hrow1.keep (hs.below (Know.Le.refl _))).2 u (by omega)
                        obtain ⟨p0, p1⟩ := bounds_u8 hpw
                        have hG : decide (x < G u) = false := by have := H3.out u (G u) (by rw [List.getElem?_map, List.getElem?_range (by omega)]; rfl); simp; omega
                        have M := Lib.hid hs.mem
                        clear hu
                        refine region_pure (by kernel_rfl) (by kernel_rfl) ?_
                        repeat (go_big_quiet_step ((go_at_call 47; exact pure_of (peekCL _ _ _ _ _ (M.out.same (below_over _ _))))))
                        refine wpQuiet_nil ?_
                        intro w11 hb
                        have hs := hs.same hb
                        clear kd hb hpc M
                        go_wp2
                        go_roundw
                        case rel => exact ⟨t + 1, by omega, by go_num, hs⟩
                        case measure => simp [intOf]; omega
                    · go_wp2
                      go_ret
                      exact ⟨rfl, hs.below (Know.Le.refl _)⟩
end Go.Proofs.Ytfoojallpmibfaa
