/- The walk of ClockPublishes. -/
import Derived.Test.YtfoojallpmibfaaPubLaw
import Derived.Test.YtfoojallpmibfaaLaw6a
import Derived.Test.YtfoojallpmibfaaLaw5c
namespace Go.Proofs.Ytfoojallpmibfaa
open Go.RowKit
set_option maxRecDepth 100000

theorem infoAllocP : (Try.prog.info? 74).map (fun i => (i.zero, i.size, i.bytes)) = some (some (.pointer none), 1, 8) := by kernel_rfl
theorem infoPubP : (Try.prog.info? 77).map (fun i => (i.zero, i.size, i.bytes)) = some (some (.pointer none), 1, 8) := by kernel_rfl
theorem infoInt : (Try.prog.info? 3).map (fun i => (i.zero, i.size, i.bytes)) = some (some (.int .i64 0), 1, 8) := by kernel_rfl

/-- No part at all. -/
def emptyC : Comp := ⟨[], fun _ => True, fun _ _ _ _ => trivial, fun _ _ _ h => by simp at h⟩
theorem St.empty {K : Know} {w : World} {F : List Comp} (h : St K w F) : St K w (emptyC :: F) :=
  h.chg (ms := []) (ms' := [emptyC]) (Chg.refl _ _) (fun c hc => by simp at hc; subst hc; trivial) (fun b hb => by simp [feet, emptyC] at hb) (by simp [feet, emptyC])

def pubO (o : Option Nat) (x : Th) : Comp :=
  match o, x.st with
  | some b, 1 => pubC b (x.t.seen + 1) x.pc
  | _, _ => emptyC
def pubV : Option Nat → Value
  | some b => .pointer (some ⟨b, 0, none⟩)
  | none => .pointer none

def allocO (cl : Int) (b : Nat × Nat) (x : Th) : Comp := allocC b.1 b.2 cl x.t
/-- The parts of the law's world. -/
def pubs6 (bm bc bl bf gs gp : Nat) (c : Cfg) (va : Value) (n : Nat) (L : List Cel) (acc : Nat) (bs : List (Nat × Nat)) (ps : List (Option Nat)) (X : List Th) : List Comp :=
  [memC bm bc L acc, group (List.zipWith (allocO c.cl) bs X), group (List.zipWith pubO ps X), blk gs (.cells (X.map (fun x => Value.int .i64 x.st)).toArray 3), blk gp (.cells (ps.map pubV).toArray 77), rowC va 74 1 n (bs.map (fun b => .pointer (some ⟨b.1, 0, none⟩))), blk bl (.cells #[.int .i64 c.th, .int .i64 c.sn, .int .i64 c.no, .int .i64 c.ch, .int .i64 c.re, .int .i64 c.fa, .int .u64 c.cl] 27), blk bf (.cells #[.int .i64 c.th, .int .i64 c.sn, .int .i64 c.no, .int .i64 c.ch, .int .i64 c.re, .int .i64 c.fa, .int .u64 c.cl] 24)]

theorem St.empties {K : Know} {w : World} {F : List Comp} (h : St K w F) (n : Nat) : St K w (group (List.replicate n emptyC) :: F) := by
  have e : feet (List.replicate n emptyC) = [] := by
    induction n with
    | zero => rfl
    | succ n ih => rw [List.replicate_succ, feet_cons, ih]; rfl
  refine h.chg (ms := []) (ms' := [group (List.replicate n emptyC)]) (Chg.refl _ _) (fun c hc => ?_) (fun b hb => ?_) ?_
  · simp at hc; subst hc; intro c hc; rw [List.eq_of_mem_replicate hc]; trivial
  · rw [feet_cons] at hb; simp only [group, e] at hb; simp [feet] at hb
  · rw [feet_cons]; simp only [group, e]; simp [feet]

def LOk (L : List Cel) (A Pb : Int) : Prop := 4 < L.length ∧ (getC L 1).n = A ∧ (getC L 2).n = Pb
def PsOk (ps : List (Option Nat)) (X : List Th) : Prop := ps.length = X.length ∧ ∀ (i : Nat) (x : Th), X[i]? = some x → x.st = 1 → ∃ b, ps[i]? = some (some b)
def Rel6 (K : Know) (n len bm bc bl bf gs gp : Nat) (c : Cfg) (va : Value) (bs : List (Nat × Nat)) (vq : Value) (wr : World) : Prop :=
  ∃ (q acc : Nat) (X : List Th) (A Pb : Int) (L : List Cel) (ps : List (Option Nat)), q ≤ len + 60 * n ∧ acc ≤ q ∧ vq = .int .i64 q ∧ PubInv c.cl n len q X A Pb ∧ LOk L A Pb ∧ PsOk ps X ∧ St K wr (pubs6 bm bc bl bf gs gp c va n L acc bs ps X)

/-- After a step of thread p. -/
def Mid6 (K : Know) (n len q p bm bc bl bf gs gp acc : Nat) (Pb : Int) (c : Cfg) (va : Value) (bs : List (Nat × Nat)) (wx : World) : Prop :=
  ∃ (acc' : Nat) (X : List Th) (A Pb' : Int) (L : List Cel) (ps : List (Option Nat)), acc' ≤ acc + 1 ∧ PubInv c.cl n len (q + 1) X A Pb' ∧ LOk L A Pb' ∧ PsOk ps X ∧ (Pb' = Pb ∨ Pb' = Pb + 1 ∧ ∃ x, X[p]? = some x ∧ x.st = 2) ∧ St K wx (pubs6 bm bc bl bf gs gp c va n L acc' bs ps X)

theorem close6 {K : Know} {n len q p bm bc bl bf gs gp acc acc' : Nat} {Pb A Pb' : Int} {c : Cfg} {va : Value} {bs : List (Nat × Nat)} {wx : World} {X : List Th} {L : List Cel} {ps : List (Option Nat)} {GA GP : List Comp} {SS PP : List Value}
    (hs : St K wx [memC bm bc L acc', group GA, group GP, blk gs (.cells SS.toArray 3), blk gp (.cells PP.toArray 77), rowC va 74 1 n (bs.map (fun b => .pointer (some ⟨b.1, 0, none⟩))), blk bl (.cells #[.int .i64 c.th, .int .i64 c.sn, .int .i64 c.no, .int .i64 c.ch, .int .i64 c.re, .int .i64 c.fa, .int .u64 c.cl] 27), blk bf (.cells #[.int .i64 c.th, .int .i64 c.sn, .int .i64 c.no, .int .i64 c.ch, .int .i64 c.re, .int .i64 c.fa, .int .u64 c.cl] 24)])
    (e1 : GA = List.zipWith (allocO c.cl) bs X) (e2 : GP = List.zipWith pubO ps X) (e3 : SS = X.map (fun x => Value.int .i64 x.st)) (e4 : PP = ps.map pubV) (hacc : acc' ≤ acc + 1) (hI : PubInv c.cl n len (q + 1) X A Pb') (hL : LOk L A Pb') (hps : PsOk ps X) (hPb : Pb' = Pb ∨ Pb' = Pb + 1 ∧ ∃ x, X[p]? = some x ∧ x.st = 2) :
    Mid6 K n len q p bm bc bl bf gs gp acc Pb c va bs wx := by
  subst e1 e2 e3 e4
  exact ⟨acc', X, A, Pb', L, ps, hacc, hI, hL, hps, hPb, hs⟩

theorem pubO_no {o : Option Nat} {x : Th} (h : x.st ≠ 1) : pubO o x = emptyC := by
  unfold pubO
  split
  · rename_i h1 h2; exact absurd h2 h
  · rfl
theorem pubO_yes {b : Nat} {x : Th} (h : x.st = 1) : pubO (some b) x = pubC b (x.t.seen + 1) x.pc := by
  unfold pubO; rw [h]; rfl
theorem fixA {cl : Int} {bs : List (Nat × Nat)} {X : List Th} {p : Nat} {b : Nat × Nat} (x' : Th) (hb : bs[p]? = some b) : (List.zipWith (allocO cl) bs X).set p (allocC b.1 b.2 cl x'.t) = List.zipWith (allocO cl) bs (X.set p x') := zipWith_set (allocO cl) bs X p b x' hb
theorem fixA0 {cl : Int} {bs : List (Nat × Nat)} {X : List Th} {p : Nat} {x : Th} (x' : Th) (hx : X[p]? = some x) (ht : x'.t = x.t) : List.zipWith (allocO cl) bs X = List.zipWith (allocO cl) bs (X.set p x') := by
  rcases Nat.lt_or_ge p bs.length with h | h
  · rw [← zipWith_set (allocO cl) bs X p bs[p] x' (List.getElem?_eq_getElem h)]
    refine (set_self ?_).symm
    rw [List.getElem?_zipWith, List.getElem?_eq_getElem h, hx]
    simp [allocO, ht]
  · apply List.ext_getElem?
    intro k
    rw [List.getElem?_zipWith, List.getElem?_zipWith, List.getElem?_set]
    by_cases hk : p = k
    · subst hk; rw [List.getElem?_eq_none h]
    · rw [if_neg hk]
theorem fixP {ps : List (Option Nat)} {X : List Th} {p : Nat} {o : Option Nat} (x' : Th) (ho : ps[p]? = some o) : (List.zipWith pubO ps X).set p (pubO o x') = List.zipWith pubO ps (X.set p x') := zipWith_set pubO ps X p o x' ho
theorem fixP0 {ps : List (Option Nat)} {X : List Th} {p : Nat} {x x' : Th} (hl : ps.length = X.length) (hx : X[p]? = some x) (h : x.st ≠ 1) (h' : x'.st ≠ 1) : List.zipWith pubO ps X = List.zipWith pubO ps (X.set p x') := by
  have hp : p < ps.length := by have := (List.getElem?_eq_some_iff.1 hx).1; omega
  rw [← fixP x' (List.getElem?_eq_getElem hp)]
  refine (set_self ?_).symm
  rw [List.getElem?_zipWith, List.getElem?_eq_getElem hp, hx]
  simp [pubO_no h, pubO_no h']
theorem fixP1 {ps : List (Option Nat)} {X : List Th} {p b : Nat} {x' : Th} (hl : ps.length = X.length) (hp : p < ps.length) (h' : x'.st = 1) : (List.zipWith pubO ps X).set p (pubC b (x'.t.seen + 1) x'.pc) = List.zipWith pubO (ps.set p (some b)) (X.set p x') := by
  rw [← fixP x' (ps := ps.set p (some b)) (o := some b) (by rw [List.getElem?_set, if_pos rfl, if_pos hp]), pubO_yes h']
  apply List.ext_getElem?
  intro k
  rw [List.getElem?_set, List.getElem?_set]
  by_cases hk : p = k
  · rw [if_pos hk, if_pos hk]; simp
  · rw [if_neg hk, if_neg hk, List.getElem?_zipWith, List.getElem?_zipWith, List.getElem?_set, if_neg hk]
theorem fixS {X : List Th} {p : Nat} (x' : Th) : (X.map (fun x => Value.int .i64 x.st)).set p (.int .i64 x'.st) = (X.set p x').map (fun x => Value.int .i64 x.st) := by rw [List.map_set]
theorem fixS0 {X : List Th} {p : Nat} {x : Th} (x' : Th) (hx : X[p]? = some x) (h : x'.st = x.st) : X.map (fun x => Value.int .i64 x.st) = (X.set p x').map (fun x => Value.int .i64 x.st) := by
  rw [List.map_set]; exact (set_self (by simp [hx, h])).symm
theorem fixV {ps : List (Option Nat)} {p b : Nat} : (ps.map pubV).set p (.pointer (some ⟨b, 0, none⟩)) = (ps.set p (some b)).map pubV := by rw [List.map_set]; rfl
theorem PsOk.set {ps : List (Option Nat)} {X : List Th} {p : Nat} {x' : Th} (h : PsOk ps X) (h1 : x'.st = 1 → ∃ b, ps[p]? = some (some b)) : PsOk ps (X.set p x') :=
  ⟨by simpa using h.1, fun i y hy hs => by
    rcases getset hy with ⟨rfl, rfl⟩ | ⟨_, hy⟩
    · exact h1 hs
    · exact h.2 i y hy hs⟩
theorem PsOk.new {ps : List (Option Nat)} {X : List Th} {p b : Nat} {x' : Th} (h : PsOk ps X) (hp : p < ps.length) : PsOk (ps.set p (some b)) (X.set p x') :=
  ⟨by simpa using h.1, fun i y hy hs => by
    rcases getset hy with ⟨rfl, rfl⟩ | ⟨hne, hy⟩
    · exact ⟨b, by rw [List.getElem?_set, if_pos rfl, if_pos hp]⟩
    · obtain ⟨b', hb'⟩ := h.2 i y hy hs
      exact ⟨b', by rw [List.getElem?_set, if_neg hne]; exact hb'⟩⟩

theorem takeStep_L {C A Pb : Int} {L : List Cel} (h : LOk L A Pb) (s : TakeS) : ∃ s' A' L', takeStep 1 C L s = (s', L') ∧ TStep C A s s' A' ∧ LOk L' A' Pb := by
  obtain ⟨hl, hA, hP⟩ := h
  obtain ⟨pc, seen, ok⟩ := s
  match pc with
  | 0 =>
    by_cases h : C ≤ A
    · exact ⟨_, _, _, by simp only [takeStep]; rw [hA, if_pos h], .full rfl h, hl, hA, hP⟩
    · exact ⟨_, _, _, by simp only [takeStep]; rw [hA, if_neg h], .look rfl (by omega), hl, hA, hP⟩
  | 1 =>
    by_cases h : A = seen
    · refine ⟨⟨2, seen, true⟩, A + 1, putC L 1 ⟨seen + 1, ⟨#[]⟩, 0⟩, ?_, .took rfl h, ?_, ?_, ?_⟩
      · simp only [takeStep]; rw [show swapOk L 1 seen = true by simp [swapOk, hA, h]; omega]; rfl
      · rw [putC_length]; exact hl
      · rw [getC_put (by omega) (by omega) (by omega), if_pos rfl, ← h]
      · rw [getC_put (by omega) (by omega) (by omega), if_neg (by omega)]; exact hP
    · exact ⟨⟨0, seen, ok⟩, A, L, by simp only [takeStep]; rw [show swapOk L 1 seen = false by simp [swapOk, hA, h]]; rfl, .lost rfl h, hl, hA, hP⟩
  | n + 2 => exact ⟨_, _, _, rfl, .rest (by simp), hl, hA, hP⟩

theorem St.row_cell {K : Know} {w : World} {F : List Comp} {g cap : Nat} {T : TypeId} {size n : Nat} {xs : List Value} (h : St K w (rowC (.slice (some ⟨g, 0, none⟩) n cap) T size n xs :: F)) {j : Nat} {x : Value} (hx : xs[j]? = some x) : w.cell? ⟨g, j, none⟩ = some x := by
  obtain ⟨g', e, k⟩ := h.row_at hx
  simp only [Option.some.injEq, Addr.mk.injEq, and_true] at e
  rw [e]; exact k

theorem kitOk6 (n : Nat) (h1 : 1 ≤ n) (h6 : n ≤ 6) (cl : Int) (hc : 1 ≤ cl ∧ cl ≤ 9) : (kitC n cl).Ok := by constructor <;> simp [kitC] <;> omega

set_option maxHeartbeats 4000000 in
theorem clockPublishes_walk (threads lim : Int) (a : Option Addr) (len cap : Nat) (P : Nat → Int) (hl : 0 ≤ lim ∧ lim < 256) (w : World) (hrow : RowIn .u8 w a len P) :
    Calls Try.prog 11 #[.int .i64 threads, .int .u8 lim, .slice a len cap] w fun e w' => e = .returned (.bool true) ∧ Below w.heap.size w w' := by
  obtain ⟨r, hmod, hr0, hr1⟩ : ∃ r : Nat, (∀ w, Calls Try.prog 17 #[.int .i64 threads, .int .i64 6] w fun e w' => e = .returned (.int .i64 r) ∧ w = w') ∧ 0 ≤ r ∧ r ≤ 5 := ⟨(threads % 6).toNat, by rw [Int.toNat_of_nonneg (by omega)]; exact mod_any threads 6 (by omega) (by omega), by omega, by omega⟩
  obtain ⟨n, hn, hn1, hn6⟩ : ∃ n : Nat, Hid ((1 : Int) + (r : Int) = (n : Int)) ∧ 1 ≤ n ∧ n ≤ 6 := ⟨1 + r, Lib.hid (by omega), by omega, by omega⟩
  obtain ⟨q, hq, hq8⟩ : ∃ q : Nat, Hid (lim % 9 = (q : Int)) ∧ q ≤ 8 := ⟨(lim % 9).toNat, Lib.hid (by omega), by omega⟩
  obtain ⟨cl, hcl, hcl1, hcl9⟩ : ∃ cl : Int, Hid ((1 : Int) + (q : Int) = cl) ∧ 1 ≤ cl ∧ cl ≤ 9 := ⟨1 + q, Lib.hid rfl, by omega, by omega⟩
  have hlen := hrow.1
  unfold maxLen at hlen
  obtain ⟨c, Q1, Q2, HL, hcc, hccl⟩ : ∃ c : Cfg, Hid (∀ w, Calls Try.prog 58 #[.int .i64 n, .int .i64 0] w fun e w' => e = .returned (.agg #[.int .i64 c.th, .int .i64 c.sn, .int .i64 c.no, .int .i64 c.ch, .int .i64 c.re, .int .i64 c.fa, .int .u64 1000]) ∧ Below w.heap.size w w') ∧
      Hid (∀ w K cs, St K w cs → Calls Try.prog 59 #[.agg #[.int .i64 c.th, .int .i64 c.sn, .int .i64 c.no, .int .i64 c.ch, .int .i64 c.re, .int .i64 c.fa, .int .u64 c.cl]] w fun e w'' => ∃ bm bc, e = .returned (.tuple #[.agg #[.int .i64 c.th, .int .i64 c.sn, .int .i64 c.no, .int .i64 c.ch, .int .i64 c.re, .int .i64 c.fa, .int .u64 c.cl], .pointer (some ⟨bm, 0, none⟩)]) ∧ St K w'' (memC bm bc (startL c) 0 :: cs)) ∧ Hid ((getC (startL c) 1) = Cel.zero ∧ (getC (startL c) 2) = Cel.zero ∧ 4 < (startL c).length) ∧ (1 ≤ c.cl ∧ c.cl ≤ 9) ∧ Hid ((1 : Int) + (q : Int) = c.cl) :=
    ⟨kitC n cl, Lib.hid (fun w => kitConfig_any n w), Lib.hid (fun w K cs hs => kitMemory_st (kitOk6 n hn1 hn6 cl ⟨hcl1, hcl9⟩) hs), Lib.hid (kitL_1 n cl (kitOk6 n hn1 hn6 cl ⟨hcl1, hcl9⟩)), ⟨hcl1, hcl9⟩, hcl⟩
  clear hcl
  have hs := St.start w
  have e1 := hn.out
  have e2 := hq.out
  have e3 := hccl.out
  have hc1 := hcc.1
  have hc9 := hcc.2
  go_enter Try.func11, Try.ntmps11
  go_wp2_with fail
  refine (hmod _).mono ?_
  rintro e w0 ⟨rfl, rfl⟩
  go_wp2_with fail
  refine (calls_same hs (Q1.out _)).mono ?_
  clear hs hmod
  rintro e w1 ⟨rfl, hs⟩
  have hs := hs.made (.cells #[.int .i64 c.th, .int .i64 c.sn, .int .i64 c.no, .int .i64 c.ch, .int .i64 c.re, .int .i64 c.fa, .int .u64 c.cl] 24)
  go_wp2_with fail
  refine (Q2.out _ _ _ hs).mono ?_
  obtain ⟨bf, hbf⟩ : ∃ bf, bf = w1.heap.size := ⟨_, rfl⟩
  rw [← hbf] at hs ⊢
  clear hs hbf e1 e2 e3
  rintro e w2 ⟨bm, bc, rfl, hs⟩
  have hs := hs.made (.cells #[.int .i64 c.th, .int .i64 c.sn, .int .i64 c.no, .int .i64 c.ch, .int .i64 c.re, .int .i64 c.fa, .int .u64 c.cl] 27)
  obtain ⟨bl, hbl⟩ : ∃ bl, bl = w2.heap.size := ⟨_, rfl⟩
  go_wp2_with fail
  refine (calls_same hs (awake6_any _)).mono ?_
  rw [← hbl] at hs ⊢
  clear hbl hs
  rintro e w3 ⟨rfl, hs⟩
  by_cases h200 : 200 < len
  · go_wp2_with fail
    refine (calls_same hs (awake6_any _)).mono ?_
    clear hs
    rintro e w4 ⟨rfl, hs⟩
    go_wp2
    go_ret
    exact ⟨rfl, hs.below (Know.Le.refl _)⟩
  · have h200' : len ≤ 200 := by omega
    clear h200
    obtain ⟨L0, hL0, hA0, hB0, hLl⟩ : ∃ L0, Hid (L0 = startL c) ∧ Hid ((getC L0 1).n = 0) ∧ Hid ((getC L0 2).n = 0) ∧ 4 < L0.length := ⟨_, Lib.hid rfl, Lib.hid (by rw [HL.out.1]; rfl), Lib.hid (by rw [HL.out.2.1]; rfl), HL.out.2.2⟩
    rw [← hL0.out] at hs
    obtain ⟨ia, hia0, hia1, hia2, hia3⟩ := info_parts infoAllocP
    obtain ⟨ip, hip0, hip1, hip2, hip3⟩ := info_parts infoPubP
    obtain ⟨ii, hii0, hii1, hii2, hii3⟩ := info_parts infoInt
    go_wp2
    go_loopw [11, 12] (fun va vi wr => ∃ (i : Nat) (bs : List (Nat × Nat)), i ≤ n ∧ vi = .int .i64 i ∧ bs.length = i ∧ St (Know.of w) wr [rowC va 74 1 i (bs.map (fun b => .pointer (some ⟨b.1, 0, none⟩))), group (List.zipWith (allocO c.cl) bs (List.replicate i (⟨0, ⟨0, 0, false⟩, 0⟩ : Th))), blk bl (.cells #[.int .i64 c.th, .int .i64 c.sn, .int .i64 c.no, .int .i64 c.ch, .int .i64 c.re, .int .i64 c.fa, .int .u64 c.cl] 27), memC bm bc L0 0, blk bf (.cells #[.int .i64 c.th, .int .i64 c.sn, .int .i64 c.no, .int .i64 c.ch, .int .i64 c.re, .int .i64 c.fa, .int .u64 c.cl] 24)]) (fun _ vi _ => n - (intOf vi).toNat)
    case atStart => exact ⟨0, [], by omega, rfl, rfl, (St.group_nil.2 hs).row_nil⟩
    case round =>
      clear hs
      obtain ⟨i, bs, hi, rfl, hbl, hs⟩ := hrel
      have kl := hs.k2
      by_cases hlt : i < n
      · go_wp2_with fail
        refine (newAllocate_st (c := c) hs).mono ?_
        clear hs kl
        rintro e w4 ⟨ba, bt, rfl, hs⟩
        go_wp2_with (at_builtin; refine append_st _ _ 73 74 _ i 1 8 _ [.pointer (some ⟨ba, 0, none⟩)] (.pointer none) ia hs.b1 rfl rfl Try.underlying73 hia0 hia1 hia2 hia3 rfl (by decide) rfl rfl rfl (fun u hu => by simp at hu; subst hu; rfl) (by omega) (by decide) ?_)
        clear hs
        intro v' w' hs
        go_wp2
        go_roundw
        case rel =>
          refine ⟨i + 1, bs ++ [(ba, bt)], by omega, by go_num, by simp [hbl], ?_⟩
          have hs := hs.b2.b2.push.b1
          rw [List.replicate_succ', List.zipWith_append (by simpa using hbl)]
          simpa [allocO] using hs
        case measure => simp [intOf]; omega
      · obtain rfl : i = n := by omega
        have Hbl := Lib.hid hbl
        clear hbl hlt hi hia0 hia1 hia2 hia3 kl
        obtain ⟨w5, rfl⟩ : ∃ w5 : World, w5 = wr := ⟨_, rfl⟩
        obtain ⟨at_, capt, rfl, _, _⟩ := hs.row_read
        have hmk1 := makeRow 76 77 ip (.pointer none) 8 Try.underlying76 hip0 hip1 hip2 hip3 rfl (by decide) i (by omega) (i : Int) rfl
        have hmk2 := makeRow 42 3 ii (.int .i64 0) 8 Try.underlying42 hii0 hii1 hii2 hii3 rfl (by decide) i (by omega) (i : Int) rfl
        have hs := ((hs.made (.cells (Array.replicate i (.pointer none)) 77)).made (.cells (Array.replicate i (.int .i64 0)) 3))
        have hs := (((hs.blk_eq (o' := .cells ((List.replicate i (⟨0, ⟨0, 0, false⟩, 0⟩ : Th)).map (fun x => Value.int .i64 x.st)).toArray 3) (by simp)).b1.blk_eq (o' := .cells ((List.replicate i (none : Option Nat)).map pubV).toArray 77) (by simp [pubV])).b1.empties i).b6.b5.b1
        go_wp2
        clear hmk1 hmk2 hip0 hip1 hip2 hip3 hii0 hii1 hii2 hii3
        go_loopw [15] (fun vq wr => Rel6 (Know.of w) i len bm bc bl bf (w5.heap.size + 1) w5.heap.size c (.slice at_ i capt) bs vq wr) (fun vq _ => len + 60 * i - (intOf vq).toNat)
        case atStart =>
          refine ⟨0, 0, List.replicate i ⟨0, ⟨0, 0, false⟩, 0⟩, 0, 0, L0, List.replicate i none, by omega, by omega, rfl, PubInv.start c.cl i len hn6 hcc.1, ⟨hLl, hA0.out, hB0.out⟩, ⟨by simp, fun j x hj h1 => ?_⟩, ?_⟩
          · (rw [List.eq_of_mem_replicate (List.mem_of_getElem? hj)] at h1; simp at h1)
          · have e : List.zipWith pubO (List.replicate i none) (List.replicate i (⟨0, ⟨0, 0, false⟩, 0⟩ : Th)) = List.replicate i emptyC := by simp [pubO]
            unfold pubs6
            rw [e]
            simpa using hs
        case round =>
          clear hs
          obtain ⟨q, acc, X, A, Pb, L, ps, hq, hacc, rfl, hI, hL, hps, hs⟩ := hrel
          have HI := Lib.hid hI
          have HL := Lib.hid hL
          have Hps := Lib.hid hps
          clear hI hL hps
          by_cases hlt : q < len + 60 * i
          · go_upto_if 87 with (fail)
            go_cut [16] (fun v wx => ∃ p : Nat, p < i ∧ (len ≤ q → q % i = p) ∧ v = .int .i64 p ∧ wx = wr)
            case first =>
              by_cases hqp : q < len
              · obtain ⟨b, off, rfl, _, hpc, hpw⟩ := (hrow.keep (hs.below (Know.Le.refl _))).2 q hqp
                obtain ⟨p0, p1⟩ := bounds_u8 hpw
                go_wp2
                go_meet
                exact ⟨(P q % i).toNat, by have := Int.emod_lt_of_pos (P q) (show (0 : Int) < i by omega); omega, fun h => by omega, by rw [Int.toNat_of_nonneg (Int.emod_nonneg _ (by omega))], rfl⟩
              · go_wp2
                go_meet
                exact ⟨q % i, Nat.mod_lt _ (by omega), fun _ => rfl, by simp, rfl⟩
            case rest =>
              obtain ⟨p, hp, hturn, rfl, rfl⟩ := hcut
              have Hturn := Lib.hid hturn
              clear hturn
              have q1 := peek_st hs hs.mem (i := 2)
              rw [show getC L 2 = ⟨Pb, (getC L 2).k, (getC L 2).m⟩ by rw [← HL.out.2.2]] at q1
              have Q3 := Lib.hid q1
              have Q4 := Lib.hid (accesses_any _ _ _ _ _ hs.mem)
              clear q1 hs
              go_upto_region 20 with (fail)
              go_cut [17, 18] (fun v1 v2 wx => v1 = .int .u64 acc ∧ v2 = .int .u64 Pb ∧ St (Know.of w) wx (pubs6 bm bc bl bf (w5.heap.size + 1) w5.heap.size c (.slice at_ i capt) i L acc bs ps X))
              case first =>
                go_wp2_with fail
                refine (Q4.out).mono ?_
                rintro e w7 ⟨rfl, rfl⟩
                go_wp2_with fail
                refine (Q3.out).mono ?_
                rintro e w8 ⟨rfl, hs⟩
                go_wp2
                go_meet
                exact ⟨rfl, rfl, hs⟩
              case rest =>
                clear Q3 Q4
                obtain ⟨rfl, rfl, hs⟩ := hcut
                apply_assumption
                refine wp_seq_k ?_
                intro KK hKK
                obtain ⟨x, hx⟩ : ∃ x, X[p]? = some x := ⟨_, List.getElem?_eq_getElem (by rw [HI.out.len]; exact hp)⟩
                obtain ⟨b, hb⟩ : ∃ b, bs[p]? = some b := ⟨_, List.getElem?_eq_getElem (by rw [Hbl.out]; exact hp)⟩
                have hpl : p < ps.length := by rw [Hps.out.1, HI.out.len]; exact hp
                obtain ⟨o, ho⟩ : ∃ o, ps[p]? = some o := ⟨_, List.getElem?_eq_getElem hpl⟩
                have Hx := Lib.hid hx
                have Hb := Lib.hid hb
                have Ho := Lib.hid ho
                have hg := HI.out.each p x hx
                have hA := HI.out.A_le
                clear hx hb ho
                go_cut [6] (fun v6 wx => Mid6 (Know.of w) i len q p bm bc bl bf (w5.heap.size + 1) w5.heap.size acc Pb c (.slice at_ i capt) bs wx)
                case first =>
                  have ks := hs.tail.tail.tail.k0 p
                  rw [show (X.map (fun x => Value.int .i64 x.st)).toArray[p]? = some (.int .i64 x.st) by simp [Hx.out]] at ks
                  have hst := hg.st
                  obtain ⟨st, t, pc⟩ := x
                  match st, hst with
                  | 0, _ =>
                    obtain ⟨ga, rfl, ka⟩ := (hs.b5).row_at (j := p) (x := .pointer (some ⟨b.1, 0, none⟩)) (by simp [Hb.out])
                    obtain ⟨s', A', L', e, hst, hL'⟩ := takeStep_L (C := c.cl) HL.out t
                    have hgT := HI.out.take.each t (by simp; exact ⟨_, List.mem_of_getElem? Hx.out, rfl⟩)
                    have q5 := fun w' F (hs' : St (Know.of w) w' (allocC b.1 b.2 c.cl t :: memC bm bc L acc :: F)) => allocStep_st hs' (by omega) (fun h => by have := hgT.one h; omega)
                    rw [e] at q5
                    have Q5 := Lib.hid q5
                    have hacc' : (if 2 ≤ t.pc then acc else acc + 1) ≤ acc + 1 := by split <;> omega
                    clear q5 e
                    go_wp2_with fail
                    refine (Q5.out _ _ ((hs.b1.out (i := p) (c := allocC b.1 b.2 c.cl t) (by rw [List.getElem?_zipWith, Hb.out, Hx.out]; rfl)).b2.b1)).mono ?_
                    clear hs Q5 ka ks
                    rintro e w9 ⟨rfl, hs⟩
                    have hAT : Hid (AllocAt w9 b.1 b.2 c.cl s') := Lib.hid hs.head
                    have hs := (hs.b1.u2.into (i := p) (by simp; have := Hbl.out; have := HI.out.len; omega)).b1
                    by_cases hfin : 2 ≤ s'.pc
                    · have hd : decide (2 ≤ s'.pc) = true := by simpa using hfin
                      rw [hd]
                      have ks := hs.tail.tail.tail.k0 p
                      rw [show (X.map (fun x => Value.int .i64 x.st)).toArray[p]? = some (.int .i64 0) by simp [Hx.out]] at ks
                      have kf := hs.tail.tail.tail.f0 p
                      have hs := (hs.b3.setL p (.int .i64 2)).u3
                      obtain ⟨ok, hok⟩ : ∃ ok, s'.ok = ok := ⟨_, rfl⟩
                      have hseen : s'.ok = true → 0 ≤ s'.seen ∧ s'.seen < 18446744073709551615 := fun h => by
                        have h1 := (hgT.step hA.2.2 hst).ok h
                        omega
                      have hbd : ok = true → 0 ≤ s'.seen ∧ s'.seen < 9 := fun h => by
                        have h1 := (hgT.step hA.2.2 hst).ok (by rw [hok]; exact h)
                        have := hcc.2
                        omega
                      cases ok with
                      | true =>
                        obtain ⟨b0, b1⟩ := hbd rfl
                        have q6 := allocTime_any (w9.setCell ⟨w5.heap.size + 1, p, none⟩ (.int .i64 2)) b.1 b.2 c.cl s' (hs.b1.out (i := p) (c := allocC b.1 b.2 c.cl s') (by rw [List.getElem?_set, if_pos rfl, if_pos (by simp; have := Hbl.out; have := HI.out.len; omega)])).head hseen
                        rw [hok, if_pos rfl] at q6
                        have Q6 := Lib.hid q6
                        have Hok := Lib.hid hok
                        have ka := (hs.b5).row_cell (j := p) (x := .pointer (some ⟨b.1, 0, none⟩)) (by simp [Hb.out])
                        clear hok q6
                        go_wp2_with fail
                        refine (Q6.out).mono ?_
                        clear ks kf ka Q6
                        rintro e w10 ⟨rfl, rfl⟩
                        have kl := hs.tail.tail.tail.tail.tail.tail.k0
                        go_wp2_with fail
                        refine (newPublish_st (c := c) hs).mono ?_
                        clear hs kl
                        rintro e w11 ⟨b2, rfl, hs⟩
                        have ks := hs.tail.tail.tail.tail.k0 p
                        rw [show ((X.map (fun x => Value.int .i64 x.st)).set p (.int .i64 2)).toArray[p]? = some (.int .i64 2) by have := (List.getElem?_eq_some_iff.1 Hx.out).1; simp [this]] at ks
                        have kf := hs.tail.tail.tail.tail.f0 p
                        have kp := hs.tail.tail.tail.tail.tail.k0 p
                        rw [show (ps.map pubV).toArray[p]? = some (pubV o) by simp [Ho.out]] at kp
                        have kg := hs.tail.tail.tail.tail.tail.f0 p
                        have hs := ((hs.b4.setL p (.int .i64 1)).u4.b5.setL p (.pointer (some ⟨b2, 0, none⟩))).u5
                        go_wp2
                        go_meet
                        have hs := (((hs.b3.out (i := p) (c := emptyC) (by rw [List.getElem?_zipWith, Ho.out, Hx.out]; exact congrArg some (pubO_no (by simp)))).tail.b1).into (i := p) (by simp; have := HI.out.len; omega)).u2
                        exact close6 hs (fixA ⟨1, s', 0⟩ Hb.out) (fixP1 (x' := ⟨1, s', 0⟩) Hps.out.1 hpl rfl) (by rw [List.set_set]; exact fixS ⟨1, s', 0⟩) fixV hacc' (HI.out.alloc Hx.out rfl hst Hturn.out (by rw [if_neg (by omega), if_pos Hok.out])) hL' (Hps.out.new hpl) (.inl rfl)
                      | false =>
                        have q6 := allocTime_any (w9.setCell ⟨w5.heap.size + 1, p, none⟩ (.int .i64 2)) b.1 b.2 c.cl s' (hs.b1.out (i := p) (c := allocC b.1 b.2 c.cl s') (by rw [List.getElem?_set, if_pos rfl, if_pos (by simp; have := Hbl.out; have := HI.out.len; omega)])).head hseen
                        rw [hok, if_neg (by simp)] at q6
                        have Q6 := Lib.hid q6
                        have Hok := Lib.hid hok
                        have ka := (hs.b5).row_cell (j := p) (x := .pointer (some ⟨b.1, 0, none⟩)) (by simp [Hb.out])
                        clear hok q6
                        go_wp2_with fail
                        refine (Q6.out).mono ?_
                        clear ks kf ka Q6
                        rintro e w10 ⟨rfl, rfl⟩
                        go_wp2
                        go_meet
                        exact close6 hs (fixA ⟨2, s', 0⟩ Hb.out) (fixP0 Hps.out.1 Hx.out (by simp) (by simp)) (fixS ⟨2, s', 0⟩) rfl hacc' (HI.out.alloc Hx.out rfl hst Hturn.out (by rw [if_neg (by omega), if_neg (by rw [Hok.out]; simp)])) hL' (Hps.out.set (by simp)) (.inl rfl)
                    · have hd : decide (2 ≤ s'.pc) = false := by simpa using hfin
                      rw [hd]
                      go_wp2
                      go_meet
                      exact close6 hs (fixA ⟨0, s', 0⟩ Hb.out) (fixP0 Hps.out.1 Hx.out (by simp) (by simp)) (fixS0 _ Hx.out rfl) rfl hacc' (HI.out.alloc Hx.out rfl hst Hturn.out (by rw [if_pos (by omega)])) hL' (Hps.out.set (by simp)) (.inl rfl)
                  | 1, _ =>
                    obtain ⟨b2, hb2⟩ := Hps.out.2 p _ Hx.out rfl
                    have Hb2 := Lib.hid hb2
                    have kp := hs.tail.tail.tail.tail.k0 p
                    rw [show (ps.map pubV).toArray[p]? = some (.pointer (some ⟨b2, 0, none⟩)) by simp [Hb2.out, pubV]] at kp
                    clear hb2
                    obtain ⟨o1, o2, o3, o4'⟩ := hg.one rfl
                    have O4 : Hid (pc = 1 → Pb = t.seen) := Lib.hid o4'
                    clear o4'
                    have hold := HI.out.old p _ Hx.out o1
                    have hpb := HI.out.pb0
                    have hseen : 0 ≤ t.seen ∧ t.seen < 9 := by
                      have h1 : Pb ≤ t.seen := o3
                      have h2 : t.seen < A := hold
                      have := hcc.2
                      omega
                    obtain ⟨hs0, hs9⟩ := hseen
                    have hw : IntKind.u64.wrap ((t.seen + 1) - 1) = (t.seen + 1) - 1 := by rw [IntKind.wrap_u64]; omega
                    have q5 := fun w' F (hs' : St (Know.of w) w' (pubC b2 (t.seen + 1) pc :: memC bm bc L acc :: F)) => pubStep_st hs' (by omega) hw
                    have hacc' : (if 2 ≤ pc then acc else acc + 1) ≤ acc + 1 := by split <;> omega
                    have hout := (hs.b2.out (i := p) (c := pubC b2 (t.seen + 1) pc) (by rw [List.getElem?_zipWith, Hb2.out, Hx.out]; exact congrArg some (pubO_yes rfl))).b2.b1
                    have hpn : p < (List.zipWith pubO ps X).length := by simp; have := HI.out.len; omega
                    have hpc : pc ≤ 1 := o2
                    have Hw := Lib.hid hw
                    clear hw
                    by_cases h0 : pc = 0
                    · subst h0
                      by_cases he : Pb = t.seen
                      · rw [show pubStep 2 (t.seen + 1) L 0 = (1, L) by simp only [pubStep]; rw [if_pos (by rw [HL.out.2.2]; omega)]] at q5
                        have Q5 := Lib.hid q5
                        have He := Lib.hid he
                        clear q5 he
                        go_wp2_with fail
                        refine (Q5.out _ _ hout).mono ?_
                        clear hs Q5 ks kp hout
                        rintro e w9 ⟨rfl, hs⟩
                        go_wp2
                        go_meet
                        have hs := (hs.b1.u2.into (i := p) hpn).u2
                        rw [← pubO_yes (b := b2) (x := ⟨1, t, 1⟩) rfl, fixP _ Hb2.out] at hs
                        exact close6 hs (fixA0 ⟨1, t, 1⟩ Hx.out rfl) rfl (fixS0 ⟨1, t, 1⟩ Hx.out rfl) rfl hacc' (HI.out.turn Hx.out rfl rfl He.out Hturn.out) HL.out (Hps.out.set (fun _ => ⟨b2, Hb2.out⟩)) (.inl rfl)
                      · rw [show pubStep 2 (t.seen + 1) L 0 = (0, L) by simp only [pubStep]; rw [if_neg (by rw [HL.out.2.2]; omega)]] at q5
                        have Q5 := Lib.hid q5
                        clear q5
                        go_wp2_with fail
                        refine (Q5.out _ _ hout).mono ?_
                        clear hs Q5 ks kp hout
                        rintro e w9 ⟨rfl, hs⟩
                        go_wp2
                        go_meet
                        have hs := (hs.b1.u2.into (i := p) hpn).u2
                        rw [set_self (by rw [List.getElem?_zipWith, Hb2.out, Hx.out]; exact congrArg some (pubO_yes rfl))] at hs
                        exact close6 hs rfl rfl rfl rfl hacc' (HI.out.wait Hx.out rfl rfl he Hturn.out) HL.out Hps.out (.inl rfl)
                    · obtain rfl : pc = 1 := by omega
                      obtain ⟨L', hL', hL2, hL3⟩ : ∃ L', Hid (L' = putC L 2 ⟨t.seen + 1, ⟨#[]⟩, 0⟩) ∧ LOk L' A (Pb + 1) ∧ Hid (getC L' 2 = ⟨t.seen + 1, ⟨#[]⟩, 0⟩) := by
                        obtain ⟨l1, l2, l3⟩ := HL.out
                        have e2 : getC (putC L 2 ⟨t.seen + 1, ⟨#[]⟩, 0⟩) 2 = ⟨t.seen + 1, ⟨#[]⟩, 0⟩ := by rw [getC_put (by omega) (by omega) (by omega), if_pos rfl]
                        refine ⟨_, Lib.hid rfl, ⟨by rw [putC_length]; exact l1, ?_, ?_⟩, Lib.hid e2⟩
                        · rw [getC_put (by omega) (by omega) (by omega), if_neg (by omega)]; exact l2
                        · rw [e2]; have := O4.out rfl; show t.seen + 1 = Pb + 1; omega
                      rw [show pubStep 2 (t.seen + 1) L 1 = (2, L') by rw [hL'.out]; rfl] at q5
                      have Q5 := Lib.hid q5
                      clear q5
                      go_wp2_with fail
                      refine (Q5.out _ _ hout).mono ?_
                      clear hs Q5 ks kp hout
                      rintro e w9 ⟨rfl, hs⟩
                      have hs := (hs.tail.empty.b1.u2.into (i := p) hpn).u2
                      have ks := hs.tail.tail.tail.k0 p
                      rw [show (X.map (fun x => Value.int .i64 x.st)).toArray[p]? = some (.int .i64 1) by simp [Hx.out]] at ks
                      have kf := hs.tail.tail.tail.f0 p
                      have hs := (hs.b3.setL p (.int .i64 2)).u3
                      have q6 := allocTime_any (w9.setCell ⟨w5.heap.size + 1, p, none⟩ (.int .i64 2)) b.1 b.2 c.cl t (hs.b1.out (i := p) (c := allocC b.1 b.2 c.cl t) (by rw [List.getElem?_zipWith, Hb.out, Hx.out]; rfl)).head (by omega)
                      rw [show t.ok = true from o1, if_pos rfl] at q6
                      have Q6 := Lib.hid q6
                      obtain ⟨ga, rfl, ka⟩ := (hs.b5).row_at (j := p) (x := .pointer (some ⟨b.1, 0, none⟩)) (by simp [Hb.out])
                      clear q6 o1
                      go_wp2_with fail
                      refine (Q6.out).mono ?_
                      clear ks kf ka Q6
                      rintro e w10 ⟨rfl, rfl⟩
                      have q7 := peek_st hs hs.mem (i := 2)
                      rw [hL3.out] at q7
                      have Q7 := Lib.hid q7
                      clear q7 hs
                      go_wp2_with fail
                      refine (Q7.out).mono ?_
                      clear Q7
                      rintro e w11 ⟨rfl, hs⟩
                      go_wp2
                      go_meet
                      obtain ⟨r1, r2, r3⟩ := HI.out.publish Hx.out rfl rfl Hturn.out
                      rw [← pubO_no (o := some b2) (x := ⟨2, t, 2⟩) (by simp), fixP _ Hb2.out] at hs
                      exact close6 hs (fixA0 ⟨2, t, 2⟩ Hx.out rfl) rfl (fixS ⟨2, t, 2⟩) rfl hacc' r1 hL2 (Hps.out.set (by simp)) (.inr ⟨rfl, ⟨2, t, 2⟩, by rw [List.getElem?_set, if_pos rfl, if_pos (List.getElem?_eq_some_iff.1 Hx.out).1], rfl⟩)
                  | 2, _ =>
                    go_wp2
                    go_meet
                    exact close6 hs rfl rfl rfl rfl (by omega) (HI.out.rest Hx.out rfl Hturn.out) HL.out Hps.out (.inl rfl)
                case rest =>
                  clear hs
                  obtain ⟨acc', X', A', Pb', L', ps', hacc', hI', hL', hps', hPb', hs⟩ := hcut
                  have HI' := Lib.hid hI'
                  have HL' := Lib.hid hL'
                  have Hps' := Lib.hid hps'
                  have hpb0 := hI'.pb0
                  have hpbA := hI'.pbA
                  obtain ⟨hA1, hA2, hA3⟩ := hI'.A_le
                  have HPb := Lib.hid hPb'
                  have hn' := hI'.len
                  have Hn' := Lib.hid hn'
                  clear hI' hL' hps' hPb' hn'
                  have q7 := peek_st hs hs.mem (i := 2)
                  rw [show getC L' 2 = ⟨Pb', (getC L' 2).k, (getC L' 2).m⟩ by rw [← HL'.out.2.2]] at q7
                  have Q7 := Lib.hid q7
                  clear q7 hs
                  go_wp2_with fail
                  refine (Q7.out).mono ?_
                  clear Q7
                  rintro e w9 ⟨rfl, hs⟩
                  go_upto_region 35 with (fail)
                  have q8 : ∀ wz, (∃ y : Ext, wz = over w9 y) → Calls Try.prog 46 #[.pointer (some ⟨bm, 0, none⟩)] wz fun e w' => e = .returned (.int .u64 acc') ∧ wz = w' := fun wz hy => accesses_any _ _ _ _ _ (hs.mem.same (Pure.below hy))
                  have q9 : ∀ wz, (∃ y : Ext, wz = over w9 y) → Calls Try.prog 47 #[.pointer (some ⟨bm, 0, none⟩), .int .i64 1] wz fun e w' => e = .returned (.agg #[.int .u64 A', .string (getC L' 1).k, .int .u64 (getC L' 1).m]) ∧ Below wz.heap.size wz w' := fun wz hy => by
                    have := peek_any _ _ _ _ _ 1 (hs.mem.same (Pure.below hy))
                    rwa [show getC L' 1 = ⟨A', (getC L' 1).k, (getC L' 1).m⟩ by rw [← HL'.out.2.1]] at this
                  have Q8 := Lib.hid q8
                  have Q9 := Lib.hid q9
                  clear q8 q9
                  obtain ⟨x', hx'⟩ : ∃ x', X'[p]? = some x' := ⟨_, List.getElem?_eq_getElem (by rw [Hn'.out]; exact hp)⟩
                  have ks := hs.tail.tail.tail.k0 p
                  rw [show (X'.map (fun x => Value.int .i64 x.st)).toArray[p]? = some (.int .i64 x'.st) by simp [hx']] at ks
                  have kc := hs.tail.tail.tail.tail.tail.tail.tail.k0
                  have f1 : decide ((acc : Int) + 1 < (acc' : Int)) = false := by simp; omega
                  have f2 : decide (A' < Pb') = false := by simp; omega
                  have f3 : decide (c.cl < A') = false := by simp; omega
                  rcases HPb.out with hPe | ⟨hPe, x2, hx2, hst2⟩
                  · have g1 : (Pb' != Pb) = false := by simp [hPe]
                    have HPe := Lib.hid hPe
                    have Hx' := Lib.hid hx'
                    clear hPe hx'
                    refine region_pure (by kernel_rfl) (by as_aux_lemma => kernel_rfl) ?_
                    repeat (go_big_quiet_step ((first | (go_at_call 46; exact pure_of_same (Q8.out _ ⟨_, rfl⟩)) | (go_at_call 47; exact pure_of (Q9.out _ ⟨_, rfl⟩)))))
                    refine wpQuiet_nil ?_
                    intro w10 hb10
                    have hs := hs.same hb10
                    clear ks kc f1 f2 f3 g1 Q8 Q9 hb10
                    go_wp2
                    go_roundw
                    case rel => exact ⟨q + 1, acc', X', A', Pb', L', ps', by omega, by omega, by go_num, HI'.out, HL'.out, Hps'.out, hs⟩
                    case measure => simp [intOf]; omega
                  · have g1 : (Pb' != Pb) = true := by simp [hPe]; omega
                    have g2 : (Pb' != Pb + 1) = false := by simp [hPe]
                    rw [hx2] at hx'
                    simp only [Option.some.injEq] at hx'
                    rw [← hx', hst2] at ks
                    have HPe := Lib.hid hPe
                    clear hPe hx' hx2 hst2
                    have hpbb : 0 ≤ Pb := by have := HI.out.pb0; exact this
                    have hpb9 : Pb ≤ 9 := by have := HPe.out; have := hcc.2; omega
                    refine region_pure (by kernel_rfl) (by as_aux_lemma => kernel_rfl) ?_
                    repeat (go_big_quiet_step ((first | (go_at_call 46; exact pure_of_same (Q8.out _ ⟨_, rfl⟩)) | (go_at_call 47; exact pure_of (Q9.out _ ⟨_, rfl⟩)))))
                    refine wpQuiet_nil ?_
                    intro w10 hb10
                    have hs := hs.same hb10
                    clear ks kc f1 f2 f3 g1 g2 Q8 Q9 hb10
                    go_wp2
                    go_roundw
                    case rel => exact ⟨q + 1, acc', X', A', Pb', L', ps', by omega, by omega, by go_num, HI'.out, HL'.out, Hps'.out, hs⟩
                    case measure => simp [intOf]; omega
          · have hq' : q = len + 60 * i := by omega
            have hI2 := HI.out
            rw [hq'] at hI2
            obtain ⟨hd1, hd2, hd3⟩ := hI2.done hn1
            clear hq' hI2
            have hA := HI.out.A_le
            have Hd : Hid (∀ (p : Nat) (x : Th), X[p]? = some x → x.st = 2 ∧ (x.t.ok = true → 0 ≤ x.t.seen ∧ x.t.seen < 9)) := Lib.hid (fun p x hx => ⟨hd1 x (List.mem_of_getElem? hx), fun h => by
              have h1 := HI.out.take.each x.t (by simp; exact ⟨x, List.mem_of_getElem? hx, rfl⟩)
              have h2 := h1.ok h
              have := hcc.2
              omega⟩)
            have Hd2 := Lib.hid hd2
            have Hd3 := Lib.hid hd3
            have Hlen : Hid (X.length = i) := Lib.hid HI.out.len
            clear hd1 hd2 hd3
            go_wp2
            clear hlt hq
            go_loopw [24] (fun v wr => ∃ t : Nat, t ≤ i ∧ v = .int .i64 t ∧ St (Know.of w) wr (pubs6 bm bc bl bf (w5.heap.size + 1) w5.heap.size c (.slice at_ i capt) i L acc bs ps X)) (fun v _ => i - (intOf v).toNat)
            case atStart => exact ⟨0, by omega, rfl, hs⟩
            case round =>
              clear hs
              obtain ⟨t, ht, rfl, hs⟩ := hrel
              by_cases htl : t < i
              · obtain ⟨x, hx⟩ : ∃ x, X[t]? = some x := ⟨_, List.getElem?_eq_getElem (by rw [Hlen.out]; exact htl)⟩
                obtain ⟨b, hb⟩ : ∃ b, bs[t]? = some b := ⟨_, List.getElem?_eq_getElem (by rw [Hbl.out]; exact htl)⟩
                obtain ⟨hx2, hxb⟩ := Hd.out t x hx
                obtain ⟨ga, rfl, ka⟩ := (hs.b5).row_at (j := t) (x := .pointer (some ⟨b.1, 0, none⟩)) (by simp [hb])
                have ks := hs.tail.tail.tail.k0 t
                rw [show (X.map (fun x => Value.int .i64 x.st)).toArray[t]? = some (.int .i64 2) by simp [hx, hx2]] at ks
                have q6 := allocTime_any wr b.1 b.2 c.cl x.t (hs.b1.out (i := t) (c := allocC b.1 b.2 c.cl x.t) (by rw [List.getElem?_zipWith, hb, hx]; rfl)).head (fun h => by have := hxb h; omega)
                clear hx hb hx2
                cases hok : x.t.ok with
                | true =>
                  obtain ⟨s0, s1⟩ := hxb hok
                  rw [hok, if_pos rfl] at q6
                  have Q6 := Lib.hid q6
                  have hne : (x.t.seen + 1 != 0) = true := by simp; omega
                  clear q6 hok hxb
                  go_wp2_with fail
                  refine (Q6.out).mono ?_
                  clear Q6
                  rintro e w10 ⟨rfl, rfl⟩
                  go_wp2
                  go_roundw
                  case rel => exact ⟨t + 1, by omega, by go_num, hs⟩
                  case measure => simp [intOf]; omega
                | false =>
                  rw [hok, if_neg (by simp)] at q6
                  have Q6 := Lib.hid q6
                  clear q6 hok hxb
                  go_wp2_with fail
                  refine (Q6.out).mono ?_
                  clear Q6
                  rintro e w10 ⟨rfl, rfl⟩
                  go_wp2
                  go_roundw
                  case rel => exact ⟨t + 1, by omega, by go_num, hs⟩
                  case measure => simp [intOf]; omega
              · obtain rfl : t = i := by omega
                clear htl ht
                go_upto_region 43 with (fail)
                have kc := hs.tail.tail.tail.tail.tail.tail.tail.k0
                have q9 : ∀ (j : Int) wz, (∃ y : Ext, wz = over wr y) → Calls Try.prog 47 #[.pointer (some ⟨bm, 0, none⟩), .int .i64 j] wz fun e w' => e = .returned (.agg #[.int .u64 (getC L j).n, .string (getC L j).k, .int .u64 (getC L j).m]) ∧ Below wz.heap.size wz w' := fun j wz hy => peek_any _ _ _ _ _ j (hs.mem.same (Pure.below hy))
                have Q9 := Lib.hid q9
                clear q9
                have n1 : (getC L 1).n = Pb := by rw [← Hd2.out, ← HL.out.2.1]
                have n2 : (getC L 2).n = Pb := HL.out.2.2
                by_cases hm : (t : Int) ≤ c.cl
                · have e1 : (Pb == (t : Int)) = true := by have := Hd3.out; rw [if_pos hm] at this; simpa using this
                  refine region_pure (by kernel_rfl) (by as_aux_lemma => kernel_rfl) ?_
                  repeat (go_big_quiet_step ((go_at_call 47; exact pure_of (Q9.out _ _ ⟨_, rfl⟩))))
                  refine wpQuiet_nil ?_
                  intro w12 hb12
                  have hs := hs.same hb12
                  clear kc n1 n2 e1 Q9 hb12
                  go_wp2
                  go_ret
                  exact ⟨rfl, hs.below (Know.Le.refl _)⟩
                · have e1 : (Pb == c.cl) = true := by have := Hd3.out; rw [if_neg hm] at this; simpa using this
                  have hm' : c.cl < (t : Int) := by omega
                  refine region_pure (by kernel_rfl) (by as_aux_lemma => kernel_rfl) ?_
                  repeat (go_big_quiet_step ((go_at_call 47; exact pure_of (Q9.out _ _ ⟨_, rfl⟩))))
                  refine wpQuiet_nil ?_
                  intro w12 hb12
                  have hs := hs.same hb12
                  clear kc n1 n2 e1 Q9 hb12
                  go_wp2
                  go_ret
                  exact ⟨rfl, hs.below (Know.Le.refl _)⟩
end Go.Proofs.Ytfoojallpmibfaa
