/- The state of NodeReadsAreValidated as a whole: its start, the writer's step, the row of pages. -/
import Derived.Test.YtfgjanponijkhaaReadSt
namespace Go.Proofs.Ytfgjanponijkhaa
open Go.RowKit
set_option maxRecDepth 100000
set_option linter.unusedSectionVars false

/-- The page that the node has at first. -/
def pgS : Pg := ⟨0, [], ⟨#[]⟩, true, 0⟩
section
variable {K : Know} {w : World} {F : List Comp} {d : Cfg} {xs : Nat → Pg} {L : List Cel} {n c : Nat} {now : Int} {rem : Nat} {v12 : Value} {ws : List Comp}

theorem start_node (hd : d.Ok) (hno : 1 ≤ d.no) : NodeOk d (putC (startL d) (d.node 1 0) ⟨ltLock 0, ⟨#[]⟩, 0⟩) pgS (wd 0) := by
  obtain ⟨_, _, p3, p4⟩ := start_page hd
  obtain ⟨_, _, hz⟩ := start_cells d hd
  have f1 := hd.fa1
  have n0 := node_in hd (id := 1) (by omega) hno (k := 0) (by omega) (by omega)
  have z : ∀ k : Int, 1 ≤ k → k < d.fa + 4 → getC (putC (startL d) (d.node 1 0) ⟨ltLock 0, ⟨#[]⟩, 0⟩) (d.node 1 k) = if k = 2 then ⟨0, ⟨#[]⟩, 1⟩ else Cel.zero := by
    intro k k1 k2
    have e0 := node_in hd (id := 1) (by omega) hno (k := k) (by omega) k2
    have e2 := node_in hd (id := 1) (by omega) hno (k := 2) (by omega) (by omega)
    have hA := hd.A_bd
    rw [getC_ne (by omega), hz _ (by omega)]
    by_cases hk : k = 2
    · subst hk; rw [if_pos rfl, if_pos rfl]
    · rw [if_neg (by omega), if_neg (by omega), if_neg (by omega), if_neg hk]
  refine ⟨p3.put (ltLock_bd (x := 0) (by decide) (by decide)), by rw [putC_length]; exact p4, ?_, ?_⟩
  · intro p hp
    have hp' : p = ⟨d.node 1 2, hiCel pgS⟩ ∨ p = ⟨d.node 1 3, ⟨pgS.ri, ⟨#[]⟩, 0⟩⟩ ∨ p = ⟨d.node 1 1, ⟨pgS.sl.length, ⟨#[]⟩, pgS.lev⟩⟩ := by
      simpa [pgPts, slPts, pgS] using hp
    rcases hp' with rfl | rfl | rfl
    · show getC _ (d.node 1 2) = _; rw [z 2 (by omega) (by omega)]; rfl
    · show getC _ (d.node 1 3) = _; rw [z 3 (by omega) (by omega)]; rfl
    · show getC _ (d.node 1 1) = _; rw [z 1 (by omega) (by omega)]; rfl
  · rw [getC_eq n0.2.1 (by have := n0.2.2; omega)]; rfl

/-- Everything that is known between two statements. -/
def Sta (K : Know) (d : Cfg) (xs : Nat → Pg) (bm bc bl bc0 bH m n fr br rem : Nat) (v11 v12 : Value) (w : World) : Prop :=
  ∃ (L : List Cel) (acc : Nat) (now : Int) (c : Nat) (ws : List Comp) (va : Value) (s : RdS) (ha : Option Addr) (hc g cp : Nat) (l : List HP),
    acc ≤ m ∧ v11 = .slice (some ⟨g, 0, none⟩) (n + 1) cp ∧ WrI d xs L n c now rem v12 ws ∧ RdOk d (xs c) fr c now s ∧ HistOk xs (n + 1) l ∧
    St K w (rdC br d 1 va s :: slC va s.pg :: memC bm bc L acc :: blk bH (.cells #[.int .u64 1, .int .u64 (wd c), .int .i64 ((xs c)).lev, (.slice ha ((xs c)).sl.length hc), .string ((xs c)).hi, .bool ((xs c)).la, .int .u64 ((xs c)).ri] 74) :: rowC (.slice ha ((xs c)).sl.length hc) 132 2 ((xs c)).sl.length (slRow ((xs c)).sl) :: rowC v11 25 5 (n + 1) (pgRow l) :: group (l.map slP) :: blk bl (.cells #[.int .i64 d.th, .int .i64 d.sn, .int .i64 d.no, .int .i64 d.ch, .int .i64 d.re, .int .i64 d.fa, .int .u64 d.cl] 30) :: blk bc0 (.cells #[.int .i64 d.th, .int .i64 d.sn, .int .i64 d.no, .int .i64 d.ch, .int .i64 d.re, .int .i64 d.fa, .int .u64 d.cl] 27) :: ws)

theorem Sta.same {w' : World} {bm bc bl bc0 bH m fr br : Nat} {v11 : Value} (h : Sta K d xs bm bc bl bc0 bH m n fr br rem v11 v12 w) (hb : Below w.heap.size w w') : Sta K d xs bm bc bl bc0 bH m n fr br rem v11 v12 w' := by
  obtain ⟨L, acc, now, c, ws, va, s, ha, hc, g, cp, l, h1, h2, h3, h4, h5, hs⟩ := h
  exact ⟨L, acc, now, c, ws, va, s, ha, hc, g, cp, l, h1, h2, h3, h4, h5, hs.same hb⟩
theorem Sta.below {bm bc bl bc0 bH m fr br : Nat} {v11 : Value} {w0 : World} (h : Sta (Know.of w0) d xs bm bc bl bc0 bH m n fr br rem v11 v12 w) : Below w0.heap.size w0 w := by
  obtain ⟨L, acc, now, c, ws, va, s, ha, hc, g, cp, l, h1, h2, h3, h4, h5, hs⟩ := h
  exact hs.below (Know.Le.refl _)
theorem Sta.mono {bm bc bl bc0 bH m m' fr br : Nat} {v11 : Value} (h : Sta K d xs bm bc bl bc0 bH m n fr br rem v11 v12 w) (hm : m ≤ m') : Sta K d xs bm bc bl bc0 bH m' n fr br rem v11 v12 w := by
  obtain ⟨L, acc, now, c, ws, va, s, ha, hc, g, cp, l, h1, h2⟩ := h
  exact ⟨L, acc, now, c, ws, va, s, ha, hc, g, cp, l, by omega, h2⟩
theorem Sta.nil {bm bc bl bc0 bH m fr br : Nat} {v11 : Value} (h : Sta K d xs bm bc bl bc0 bH m n fr br 0 v11 v12 w) : v12 = .pointer none := by
  obtain ⟨L, acc, now, c, ws, va, s, ha, hc, g, cp, l, _, _, h3, _⟩ := h
  rcases h3 with ⟨h, _⟩ | ⟨_, _, _, _, _, _, _, _, _, _, _, h, _⟩
  · exact h
  · omega

/-- The law's start. -/
theorem Sta.start {bm bc bl bc0 bH bh br : Nat} (hd : d.Ok) (hno : 1 ≤ d.no) (h0 : xs 0 = pgS)
    (hs : St K w (rdC br d 1 (.slice none 0 0) rd0 :: slC (.slice none 0 0) pg0 :: blk bh (.cells #[.int .i64 0, .slice none 0 0, .string ⟨#[]⟩, .bool true, .int .u64 0] 25) :: memC bm bc (putC (startL d) (d.node 1 0) ⟨ltLock 0, ⟨#[]⟩, 0⟩) 0 ::
      blk bH (.cells #[.int .u64 1, .int .u64 (ltLock 0), .int .i64 0, .slice none 0 0, .string ⟨#[]⟩, .bool true, .int .u64 0] 74) :: blk bl (.cells #[.int .i64 d.th, .int .i64 d.sn, .int .i64 d.no, .int .i64 d.ch, .int .i64 d.re, .int .i64 d.fa, .int .u64 d.cl] 30) :: blk bc0 (.cells #[.int .i64 d.th, .int .i64 d.sn, .int .i64 d.no, .int .i64 d.ch, .int .i64 d.re, .int .i64 d.fa, .int .u64 d.cl] 27) :: F)) :
    Sta K d xs bm bc bl bc0 bH 0 0 0 br 0 (.slice (some ⟨bh, 0, none⟩) 1 1) (.pointer none) w := by
  refine ⟨_, 0, wd 0, 0, [], .slice none 0 0, rd0, none, 0, bh, 1, [(xs 0, none, 0)], Nat.le_refl _, rfl, .inl ⟨rfl, rfl, rfl, rfl, rfl, by rw [h0]; exact start_node hd hno⟩, RdOk.start _ _ _ _ (Nat.le_refl _), ⟨rfl, fun i p hp => ?_⟩, ?_⟩
  · rcases i with _ | i
    · have : (xs 0, none, 0) = p := by simpa using hp
      subst this; rfl
    · simp at hp
  · show St K w (rdC br d 1 (.slice none 0 0) rd0 :: slC (.slice none 0 0) rd0.pg :: memC bm bc _ 0 :: blk bH (.cells #[.int .u64 1, .int .u64 (wd 0), .int .i64 ((xs 0)).lev, (.slice none ((xs 0)).sl.length 0), .string ((xs 0)).hi, .bool ((xs 0)).la, .int .u64 ((xs 0)).ri] 74) :: rowC (.slice none ((xs 0)).sl.length 0) 132 2 ((xs 0)).sl.length (slRow ((xs 0)).sl) :: rowC (.slice (some ⟨bh, 0, none⟩) 1 1) 25 5 1 (pgRow [(xs 0, none, 0)]) :: group [slP (xs 0, none, 0)] :: blk bl (.cells #[.int .i64 d.th, .int .i64 d.sn, .int .i64 d.no, .int .i64 d.ch, .int .i64 d.re, .int .i64 d.fa, .int .u64 d.cl] 30) :: blk bc0 (.cells #[.int .i64 d.th, .int .i64 d.sn, .int .i64 d.no, .int .i64 d.ch, .int .i64 d.re, .int .i64 d.fa, .int .u64 d.cl] 27) :: [])
    rw [h0]
    have hs := hs.b2.row_lit (n := 1) (size := 5) (xs := [.int .i64 0, .slice none 0 0, .string ⟨#[]⟩, .bool true, .int .u64 0]) rfl (by simp [maxLen])
    have hs : St K w ([rowC (.slice (some ⟨bh, 0, none⟩) 1 1) 25 5 1 (pgRow [(pgS, none, 0)]), rdC br d 1 (.slice none 0 0) rd0, slC (.slice none 0 0) pg0, memC bm bc (putC (startL d) (d.node 1 0) ⟨ltLock 0, ⟨#[]⟩, 0⟩) 0, blk bH (.cells #[.int .u64 1, .int .u64 (wd 0), .int .i64 (pgS).lev, (.slice none (pgS).sl.length 0), .string (pgS).hi, .bool (pgS).la, .int .u64 (pgS).ri] 74), blk bl (.cells #[.int .i64 d.th, .int .i64 d.sn, .int .i64 d.no, .int .i64 d.ch, .int .i64 d.re, .int .i64 d.fa, .int .u64 d.cl] 30), blk bc0 (.cells #[.int .i64 d.th, .int .i64 d.sn, .int .i64 d.no, .int .i64 d.ch, .int .i64 d.re, .int .i64 d.fa, .int .u64 d.cl] 27)] ++ F) := hs
    have hs := (hs.left.row_nil (T := 132) (size := 2)).row_nil (T := 132) (size := 2)
    have hs : St K w ([slP (pgS, none, 0)] ++ (rowC (.slice none (pgS).sl.length 0) 132 2 (pgS).sl.length (slRow (pgS).sl) :: [rowC (.slice (some ⟨bh, 0, none⟩) 1 1) 25 5 1 (pgRow [(pgS, none, 0)]), rdC br d 1 (.slice none 0 0) rd0, slC (.slice none 0 0) pg0, memC bm bc (putC (startL d) (d.node 1 0) ⟨ltLock 0, ⟨#[]⟩, 0⟩) 0, blk bH (.cells #[.int .u64 1, .int .u64 (wd 0), .int .i64 (pgS).lev, (.slice none (pgS).sl.length 0), .string (pgS).hi, .bool (pgS).la, .int .u64 (pgS).ri] 74), blk bl (.cells #[.int .i64 d.th, .int .i64 d.sn, .int .i64 d.no, .int .i64 d.ch, .int .i64 d.re, .int .i64 d.fa, .int .u64 d.cl] 30), blk bc0 (.cells #[.int .i64 d.th, .int .i64 d.sn, .int .i64 d.no, .int .i64 d.ch, .int .i64 d.re, .int .i64 d.fa, .int .u64 d.cl] 27)])) := hs
    have hs := St.group_iff.2 hs
    exact hs.u6.u5.u5

/-- The row's pages. -/
theorem pages_at {v : Value} {g cp : Nat} {l : List HP} (hx : XsOk d xs) (hd : d.Ok) (hl : HistOk xs n l) (hs : St K w (rowC (.slice (some ⟨g, 0, none⟩) n cp) 25 5 n (pgRow l) :: group (l.map slP) :: F)) :
    ∀ i, i < n → PgAt w g (i * 5) (xs i) := by
  intro i hi
  obtain ⟨p, hp⟩ : ∃ p, l[i]? = some p := ⟨_, List.getElem?_eq_getElem (by rw [hl.1]; exact hi)⟩
  have hx1 := hl.2 i p hp
  have hc := pgRow_at l i p hp
  have hs1 := hs.b1.out (i := i) (c := slP p) (by rw [List.getElem?_map, hp]; rfl)
  have hsl : SlAt w p.2.1 p.1.sl := St.row_slots hs1 (by rw [hx1]; have := (hx.pg i).le; have := hd.fa2; omega)
  refine ⟨p.2.1, p.2.2, ?_, ?_, ?_, ?_, ?_, by rw [← hx1]; exact hsl⟩ <;> rw [← hx1]
  · exact hs.row_cell (by rw [show i * 5 = i * 5 + 0 from rfl, hc 0 (by omega)]; rfl)
  · exact hs.row_cell (by rw [hc 1 (by omega)]; rfl)
  · exact hs.row_cell (by rw [hc 2 (by omega)]; rfl)
  · exact hs.row_cell (by rw [hc 3 (by omega)]; rfl)
  · exact hs.row_cell (by rw [hc 4 (by omega)]; rfl)

/-- A step of the writer. -/
theorem writer_st {bm bc acc fr : Nat} {s : RdS} (hd : d.Ok) (hno : 1 ≤ d.no) (hx : XsOk d xs) (hn : n < 9) (ha : acc ≤ 1000000000000) (hr : RdOk d (xs c) fr c now s) (h : WrI d xs L n c now rem v12 ws) (h0 : 0 < rem)
    (hs : St K w (memC bm bc L acc :: (ws ++ F))) : ∃ bw, v12 = .pointer (some ⟨bw, 0, none⟩) ∧
    ((2 ≤ rem ∧ Calls Try.prog 47 #[.pointer (some ⟨bw, 0, none⟩), .pointer (some ⟨bm, 0, none⟩)] w fun e w' => e = .returned (.bool false) ∧ ∃ L' now' ws', WrI d xs L' n c now' (rem - 1) v12 ws' ∧ RdOk d (xs c) fr c now' s ∧ St K w' (memC bm bc L' (acc + 1) :: (ws' ++ F))) ∨
     (rem = 1 ∧ n = c + 1 ∧ Calls Try.prog 47 #[.pointer (some ⟨bw, 0, none⟩), .pointer (some ⟨bm, 0, none⟩)] w fun e w' => e = .returned (.bool true) ∧ ∃ (L' : List Cel) (b g cap : Nat) (ps : List Pt) (a : Option Addr) (c' : Nat), NodeOk d L' (xs (c + 1)) (wd (c + 1)) ∧ RdOk d (xs (c + 1)) fr (c + 1) (wd (c + 1)) s ∧
        St K w' (wrC b 1 (wd (c + 1)) (xs (c + 1)) (.slice a (xs (c + 1)).sl.length c') g cap ps ps.length :: rowC (.slice a ((xs (c + 1))).sl.length c') 132 2 ((xs (c + 1))).sl.length (slRow ((xs (c + 1))).sl) :: blk bw (.cells #[.pointer (some ⟨b, 0, none⟩)] 182) :: memC bm bc L' (acc + 1) :: F))) := by
  rcases h with ⟨_, _, _, h, _⟩ | ⟨bw, b, g, cap, k, va, L0, mid, ps, rfl, rfl, _, hk, hnow, hL0, hnew, hps, rfl, rfl⟩
  · omega
  refine ⟨bw, rfl, ?_⟩
  have hlen : ps.length = mid.length + 2 := by rw [hps]; simp
  obtain ⟨p, hp⟩ : ∃ p, ps[k]? = some p := ⟨_, List.getElem?_eq_getElem (by omega)⟩
  have q := writeStep_st (L := putAll L0 (ps.take k)) hp ha (show St K w (wrC b 1 (wd (c + 1)) (xs (c + 1)) va g cap ps k :: memC bm bc (putAll L0 (ps.take k)) acc :: rowC (.slice (some ⟨g, 0, none⟩) ps.length cap) 178 4 ps.length (ptRow ps) :: blk bw (.cells #[.pointer (some ⟨b, 0, none⟩)] 182) :: slC va (xs (c + 1)) :: F) from hs.b1)
  rw [← putAll_take hp] at q
  have hwd : wd (c + 1) = ltEnd (ltBegin (wd c)) := rfl
  have hr' : RdOk d (xs c) fr c (ltBegin (wd c)) s := by
    refine ⟨hr.1, hr.2.1, ?_⟩
    have := hr.2.2
    rw [hnow] at this
    split at this
    · exact rd_begin (by omega) this
    · exact this
  by_cases h2 : 2 ≤ rem
  · left
    refine ⟨h2, q.mono ?_⟩
    rintro e w' ⟨rfl, hs'⟩
    refine ⟨by rw [decide_eq_false (by omega)], _, ltBegin (wd c), _, .inr ⟨bw, b, g, cap, k + 1, va, L0, mid, ps, rfl, rfl, by omega, by omega, by rw [if_neg (by omega)], hL0, hnew, hps, rfl, rfl⟩, hr', hs'.b1⟩
  · right
    have hk1 : k + 1 = ps.length := by omega
    refine ⟨by omega, rfl, q.mono ?_⟩
    rintro e w' ⟨rfl, hs'⟩
    rw [hk1, List.take_length] at hs'
    obtain ⟨a2, c2, rfl, _, _⟩ := (show St K w' (rowC va 132 2 (xs (c + 1)).sl.length (slRow (xs (c + 1)).sl) :: _) from hs'.b4).row_read
    refine ⟨by rw [decide_eq_true hk1], putAll L0 ps, b, g, cap, ps, a2, c2, ⟨putAll_ok _ _ hL0.ok (fun p hp => ps_ok hd hno hx hn hnew hps p hp), by rw [putAll_length]; exact hL0.len, ?_, ?_⟩, ⟨hr'.1, by have := hr'.2.1; omega, rd_end hn hr'.2.2⟩, ?_⟩
    · rw [hps]; exact stage_end hd (by omega) hno hL0.holds hnew hL0.len (hx.pg _).le
    · rw [hps, stage_last hd (by omega) hno hL0.len]
    · have h3 := hs'.b2.tail
      exact h3.b3.u1.b3.u2
end
end Go.Proofs.Ytfgjanponijkhaa
