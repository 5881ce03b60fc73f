
/- What Insert leaves; what a law asks of it (Err, Separator, View.Latch), the halves of a page. -/
import Derived.Test.YtlpdhhhgckpcfaaGreatInsLaw
import Derived.Test.YtlpdhhhgckpcfaaGreatViewA
import Derived.Test.YtlpdhhhgckpcfaaGreatRefIns
import Derived.Test.YtlpdhhhgckpcfaaGreatCelSame
namespace Go.Proofs.YtlpdhhhgckpcfaaGreat
open Go.RowKit
set_option maxRecDepth 100000
structure OutOk (d : Cfg) (fr : InH) (fu : Pg) (L : List Cel) (x : InX) (L' : List Cel) (p : Pg) (sp : Bool) : Prop where
  on : x.on = true
  err : x.err = 0
  le : x.le = ⟨fr.id, ltEnd (ltBegin fr.word), p⟩
  vl : ∃ a c, x.vl = .slice a p.sl.length c
  vr : ∃ a c, x.vr = .slice a x.ri.pg.sl.length c
  ri : x.ri = if sp then ⟨newId L, ltLock 0, splR fu⟩ else hd0
  sep : x.sep = if sp then splSep fu else ⟨#[]⟩
  pp : p = if sp then splL fu (newId L) else fu
  cels : InsCels d fr L L' p sp (splR fu)
  new : sp = true → newId L ≤ d.no
/-- Insert without a node. -/
def inxF (fr : InH) (vf : Value) (fu : Pg) (vu : Value) : InX := ⟨fr, vf, fu, vu, 2, fr, vf, hd0, .slice none 0 0, ⟨#[]⟩, true⟩
theorem ins_out {K : Know} {W : World} {b bm bc j : Nat} {d : Cfg} {fr : InH} {af : Option Addr} {cf : Nat} {vu : Value} {fu : Pg} {L : List Cel} {F : List Comp} (hd : d.Ok) (hfr : fr.Ok d) (hfu : FuOk d fr fu) (hn : fr.id ≤ (getC L 4).n) (hlen : (L.length : Int) = d.cells) (hx : Holds L (pgPts d fr.id fr.pg))
    (h : InEnd K W b bm bc d fr (.slice af fr.pg.sl.length cf) fu vu L F j) : ∃ (x : InX) (L' : List Cel) (p : Pg) (full : Bool) (RX : List Comp),
      St K W (insC b .nilFunc d x :: memC bm bc L' j :: slC (.slice af fr.pg.sl.length cf) fr.pg :: (F ++ RX)) ∧ full = (decide (d.fa < (fu.sl.length : Int)) && decide (d.no < newId L)) ∧
      ((full = false ∧ OutOk d fr fu L x L' p (decide (d.fa < (fu.sl.length : Int))) ∧ RX = [slC x.vl x.le.pg, slC x.vr x.ri.pg]) ∨
       (full = true ∧ L' = L ∧ x = inxF fr (.slice af fr.pg.sl.length cf) fu vu ∧ RX = [])) := by
  rcases h with ⟨x, p, L2, ps, va, hc, hw, hs⟩ | ⟨h1, h2, hs⟩
  · obtain ⟨al, cl, hva, _, _⟩ := (show St K W (rowC va 69 2 p.sl.length (slRow p.sl) :: _) from hs.b2).row_read
    have hce := wcase_end hd hfr hfu hn hlen hx hc hw
    refine ⟨{ x with le := ⟨fr.id, ltEnd (ltBegin fr.word), p⟩, vl := va }, putAll L2 ps, p, false, [slC va p, slC x.vr x.ri.pg], ?_, ?_, .inl ⟨rfl, ?_, rfl⟩⟩
    · have h1 := hs.re [0, 1, 3, 2, 4] rfl
      exact h1.perm (List.Perm.cons _ (List.Perm.cons _ (List.Perm.cons _ (List.perm_append_comm (l₁ := [slC va p, slC x.vr x.ri.pg]) (l₂ := F)))))
    · rcases hc with ⟨hle, _⟩ | ⟨hle, hno, _⟩
      · rw [decide_eq_false (by omega : ¬ d.fa < (fu.sl.length : Int))]; rfl
      · rw [decide_eq_false (by omega : ¬ d.no < newId L)]; simp
    · rcases hc with ⟨hle, rfl, rfl, rfl⟩ | ⟨hle, hno, ⟨vb, rfl, ab, cb, rfl⟩, rfl, rfl⟩
      · rw [decide_eq_false (by omega : ¬ d.fa < (p.sl.length : Int))] at hce ⊢
        exact ⟨rfl, rfl, rfl, ⟨al, cl, hva⟩, ⟨none, 0, rfl⟩, rfl, rfl, rfl, hce, fun h => by cases h⟩
      · rw [decide_eq_true hle] at hce ⊢
        exact ⟨rfl, rfl, rfl, ⟨al, cl, hva⟩, ⟨ab, cb, rfl⟩, rfl, rfl, rfl, hce, fun _ => hno⟩
  · refine ⟨_, L, fr.pg, true, [], ?_, ?_, .inr ⟨rfl, rfl, rfl, rfl⟩⟩
    · rw [List.append_nil]; exact hs
    · rw [decide_eq_true h1, decide_eq_true h2]; rfl
section
variable {K : Know} {w : World} {F : List Comp} {b : Nat} {d : Cfg} {x : InX} {nx : Value}
theorem insErr_b (hs : St K w (insC b nx d x :: F)) : Calls Tryz.prog 52 #[(.pointer (some ⟨b, 0, none⟩))] w fun e w' => e = .returned (.int .i64 x.err) ∧ w = w' := by
  obtain ⟨fr, vf, fu, vu, err, le, vl, ri, vr, sep, on⟩ := x
  have k := hs.k0
  unfold inCells inH at k
  clear hs
  go_enter Tryz.func52, Tryz.ntmps52
  go_wp2
  go_ret
  exact ⟨rfl, rfl⟩
end
section
variable {K : Know} {w : World} {F : List Comp} {b : Nat} {d : Cfg} {fr : InH} {fu : Pg} {vu : Value} {af : Option Addr} {cf : Nat} {nx : Value}
end
section
variable {K : Know} {w : World} {F : List Comp} {b : Nat} {d : Cfg} {fr : InH} {fu p : Pg} {L L' : List Cel} {x : InX} {sp : Bool}
theorem insErrO (hO : OutOk d fr fu L x L' p sp) (hs : St K w (insC b .nilFunc d x :: F)) : Calls Tryz.prog 52 #[(.pointer (some ⟨b, 0, none⟩))] w fun e w' => e = .returned (.int .i64 0) ∧ w = w' := by
  have q := insErr_b hs
  rw [hO.err] at q
  exact q
theorem insLeftO (hO : OutOk d fr fu L x L' p sp) (hn : p.sl.length ≤ 1000000) (hs : St K w (insC b .nilFunc d x :: slC x.vl x.le.pg :: F)) :
    Calls Tryz.prog 53 #[(.pointer (some ⟨b, 0, none⟩))] w fun e w' => ∃ va, e = .returned (.agg #[.int .u64 ((⟨fr.id, ltEnd (ltBegin fr.word), p⟩ : InH)).id, .int .u64 ((⟨fr.id, ltEnd (ltBegin fr.word), p⟩ : InH)).word, .int .i64 ((⟨fr.id, ltEnd (ltBegin fr.word), p⟩ : InH)).pg.lev, va, .string ((⟨fr.id, ltEnd (ltBegin fr.word), p⟩ : InH)).pg.hi, .bool ((⟨fr.id, ltEnd (ltBegin fr.word), p⟩ : InH)).pg.la, .int .u64 ((⟨fr.id, ltEnd (ltBegin fr.word), p⟩ : InH)).pg.ri]) ∧ St K w' (slC va p :: insC b .nilFunc d x :: slC x.vl x.le.pg :: F) := by
  obtain ⟨a, c, hv⟩ := hO.vl
  have hle := hO.le
  have hv' : x.vl = .slice a x.le.pg.sl.length c := by rw [hle]; exact hv
  have q := insLeft_st hO.on (by rw [hle]; exact hn) hv' hs
  refine q.mono ?_
  rintro e w' ⟨va, he, hs'⟩
  refine ⟨va, ?_, ?_⟩
  · rw [he, hle]
  · rw [hle] at hs'; rw [hle]; exact hs'
end
theorem viewLatch_any {d : Cfg} {L : List Cel} {g : Nat} (hd : d.Ok) (id : Int) (hid : 0 ≤ id ∧ id < 18446744073709551616) (w : World) (hv : VAt w g L) :
    Calls Tryz.prog 31 #[.agg #[.int .i64 (d).th, .int .i64 (d).sn, .int .i64 (d).no, .int .i64 (d).ch, .int .i64 (d).re, .int .i64 (d).fa, .int .u64 (d).cl, .slice (some ⟨g, 0, none⟩) L.length L.length], .int .u64 id] w fun e w' => e = .returned (.int .u64 (getC L (d.node id 0)).n) ∧ Below w.heap.size w w' := by
  have f1 := hd.fa1
  have hs := (St.start w).made (.cells #[.int .i64 (d).th, .int .i64 (d).sn, .int .i64 (d).no, .int .i64 (d).ch, .int .i64 (d).re, .int .i64 (d).fa, .int .u64 (d).cl, .slice (some ⟨g, 0, none⟩) L.length L.length] 52)
  have q := viewPart_any hd id 0 hid ⟨by omega, by omega⟩ (w.alloc (.cells #[.int .i64 (d).th, .int .i64 (d).sn, .int .i64 (d).no, .int .i64 (d).ch, .int .i64 (d).re, .int .i64 (d).fa, .int .u64 (d).cl, .slice (some ⟨g, 0, none⟩) L.length L.length] 52)) (hv.same ((Below.refl _ _).alloc (Nat.le_refl _) _))
  generalize getC L (d.node id 0) = c at *
  obtain ⟨n, k, m⟩ := c
  generalize L.length = nn at *
  have Q := Lib.hid q
  clear q hv f1
  have k := hs.k0
  go_enter Tryz.func31, Tryz.ntmps31
  go_wp2_with fail
  refine (calls_same hs Q.out).mono ?_
  clear hs k Q
  rintro e w1 ⟨rfl, hs⟩
  go_wp2
  go_ret
  exact ⟨rfl, hs.below (Know.Le.refl _)⟩
section
variable {d : Cfg} {id : Int} {L : List Cel} {pg : Pg}
theorem slPts_at : ∀ (l : List Sl) (i : Nat), Holds L (slPts d id i l) → ∀ (k : Nat) (s : Sl), l[k]? = some s → getC L (d.slot id ((i + k : Nat) : Int)) = ⟨s.r, s.k, 0⟩
  | [], _, _, k, s, h => by simp at h
  | s0 :: l, i, hh, 0, s, h => by
    obtain rfl : s0 = s := by simpa using h
    exact hh _ List.mem_cons_self
  | s0 :: l, i, hh, k + 1, s, h => by
    have := slPts_at l (i + 1) (fun p hp => hh p (List.mem_cons_of_mem _ hp)) k s (by simpa using h)
    rw [show i + (k + 1) = i + 1 + k by omega]
    exact this
/-- What has been written can be read. -/
theorem pageAt_of (hh : Holds L (pgPts d id pg)) (hlev : 0 ≤ pg.lev ∧ pg.lev < 1000000) (hle : (pg.sl.length : Int) ≤ d.fa) (hla : pg.la = true → pg.hi = ⟨#[]⟩) : PageAt d id L pg := by
  have h1 : getC L (d.node id 1) = ⟨pg.sl.length, ⟨#[]⟩, pg.lev⟩ := hh ⟨d.node id 1, ⟨pg.sl.length, ⟨#[]⟩, pg.lev⟩⟩ (by simp [pgPts])
  have h2 : getC L (d.node id 2) = hiCel pg := hh ⟨d.node id 2, hiCel pg⟩ (by simp [pgPts])
  have h3 : getC L (d.node id 3) = ⟨pg.ri, ⟨#[]⟩, 0⟩ := hh ⟨d.node id 3, ⟨pg.ri, ⟨#[]⟩, 0⟩⟩ (by simp [pgPts])
  refine ⟨by rw [h1], by rw [h1]; exact wrap64_idn hlev.1 hlev.2, ?_, ?_, by rw [h3], hle, fun i s hi => ?_⟩
  · rw [h2]
    unfold hiCel
    cases h : pg.la with
    | true => rw [hla h]; rfl
    | false => rfl
  · rw [h2]
    unfold hiCel
    cases h : pg.la <;> rfl
  · have := slPts_at pg.sl 0 (fun p hp => hh p (List.mem_append_left _ hp)) i s hi
    rw [Nat.zero_add] at this
    rw [this]
    exact ⟨rfl, rfl⟩
end
end Go.Proofs.YtlpdhhhgckpcfaaGreat
