
/- The machine Insert. What follows a write of Insert. Insert after a split: the new node has been written; the split. Insert: the split. Insert: a number has been taken, or not. -/
import Derived.Test.YtlpdhhhgckpcfaaGreatPageOps
import Derived.Test.YtlpdhhhgckpcfaaGreatTakeA
import Derived.Test.YtlpdhhhgckpcfaaGreatNodeW
import Derived.Test.YtlpdhhhgckpcfaaGreatCallVar
namespace Go.Proofs.YtlpdhhhgckpcfaaGreat
open Go.RowKit
set_option maxRecDepth 100000
/-- A held node. -/
structure InH where
  id : Int
  word : Int
  pg : Pg
def inH (h : InH) (va : Value) (rest : List Value) : List Value := .int .u64 h.id :: .int .u64 h.word :: .int .i64 h.pg.lev :: va :: .string h.pg.hi :: .bool h.pg.la :: .int .u64 h.pg.ri :: rest
/-- What Insert has besides its position and its layout. -/
structure InX where
  fr : InH
  vf : Value
  fu : Pg
  vu : Value
  err : Int
  le : InH
  vl : Value
  ri : InH
  vr : Value
  sep : ByteArray
  on : Bool
def inCells (nx : Value) (d : Cfg) (x : InX) : List Value :=
  nx :: .bool x.on :: .int .i64 d.th :: .int .i64 d.sn :: .int .i64 d.no :: .int .i64 d.ch :: .int .i64 d.re :: .int .i64 d.fa :: .int .u64 d.cl ::
    inH x.fr x.vf (.int .i64 x.fu.lev :: x.vu :: .string x.fu.hi :: .bool x.fu.la :: .int .u64 x.fu.ri :: .int .i64 x.err :: inH x.le x.vl (inH x.ri x.vr [.string x.sep]))
def insC (b : Nat) (nx : Value) (d : Cfg) (x : InX) : Comp := blk b (.cells (inCells nx d x).toArray 151)
/-- What a write keeps: its closure's variables, the machine node.Write, its writer, the points. -/
structure WrB where
  b2 : Nat
  b3 : Nat
  b5 : Nat
  bwv : Nat
  biv : Nat
  bw : Nat
  bn : Nat
  g : Nat
  cap : Nat
  va : Value
def wrThen (B : WrB) : Value := .func (.func 133) #[] #[(.pointer (some ⟨B.bwv, 0, none⟩)), (.pointer (some ⟨B.biv, 0, none⟩))]
def wrFV (B : WrB) : FV := callFV B.b2 B.b3 B.b5
/-- The parts of a write: k of its points are stored. -/
def wrL (b : Nat) (B : WrB) (id word : Int) (p : Pg) (ps : List Pt) (k : Nat) : List Comp :=
  [callC B.b2 B.b3 B.b5 (.iface 76 (.pointer (some ⟨B.bw, 0, none⟩))) (wrThen B), blk B.bwv (.cells #[(.pointer (some ⟨B.bw, 0, none⟩))] 76), blk B.biv (.cells #[(.pointer (some ⟨b, 0, none⟩))] 82), wrC B.bn id word p B.va B.g B.cap ps k,
    rowC (.slice (some ⟨B.g, 0, none⟩) ps.length B.cap) 139 4 ps.length (ptRow ps), blk B.bw (.cells #[(.pointer (some ⟨B.bn, 0, none⟩))] 147), slC B.va p]
/-- The points of a write. -/
def WrPs (d : Cfg) (h : InH) (p : Pg) (ps : List Pt) : Prop :=
  ∃ mid, Newer (pgPts d h.id h.pg) (pgPts d h.id p) mid ∧ ps = ⟨d.node h.id 0, ⟨ltBegin h.word, ⟨#[]⟩, 0⟩⟩ :: mid ++ [⟨d.node h.id 0, ⟨ltEnd (ltBegin h.word), ⟨#[]⟩, 0⟩⟩]
/-- A node that Insert may hold. -/
structure InH.Ok (d : Cfg) (h : InH) : Prop where
  id : 1 ≤ h.id ∧ h.id ≤ d.no
  word : 0 ≤ h.word ∧ h.word < 18446744073709551616
  pg : PgOk d h.pg
  lev : 0 ≤ h.pg.lev ∧ h.pg.lev < 1000000
/-- What NewWrite gives. -/
def NwΦ (d : Cfg) (h : InH) (p : Pg) (v : Value) (C : List Comp) : Prop :=
  ∃ (bw bn g cap : Nat) (va : Value) (ps : List Pt), v = (.pointer (some ⟨bw, 0, none⟩)) ∧ WrPs d h p ps ∧ C = [wrC bn h.id (ltEnd (ltBegin h.word)) p va g cap ps 0, rowC (.slice (some ⟨g, 0, none⟩) ps.length cap) 139 4 ps.length (ptRow ps), blk bw (.cells #[(.pointer (some ⟨bn, 0, none⟩))] 147), slC va p]
section
variable {K : Know} {w : World} {F : List Comp} {b : Nat} {nx : Value} {d : Cfg} {x : InX} {p : Pg} {ap af : Option Addr} {cp cf : Nat}
set_option maxHeartbeats 4000000 in
theorem insWrite_st (hd : d.Ok) (hfr : x.fr.Ok d) (hp : PgOk d p) (hpl : 0 ≤ p.lev ∧ p.lev < 1000000) (hv : x.vf = .slice af x.fr.pg.sl.length cf) (hs : St K w (insC b nx d x :: slC x.vf x.fr.pg :: slC (.slice ap p.sl.length cp) p :: F)) :
    Calls Tryz.prog 97 #[(.pointer (some ⟨b, 0, none⟩)), (.agg #[.int .i64 (p).lev, (.slice ap p.sl.length cp), .string (p).hi, .bool (p).la, .int .u64 (p).ri])] w fun e w' => ∃ (B : WrB) (ps : List Pt), e = .returned (stV (some (wrFV B))) ∧ WrPs d x.fr p ps ∧
      St K w' (insC b nx d x :: slC x.vf x.fr.pg :: slC (.slice ap p.sl.length cp) p :: (wrL b B x.fr.id (ltEnd (ltBegin x.fr.word)) p ps 0 ++ F)) := by
  obtain ⟨fr, vf, fu, vu, err, le, vl, ri, vr, sep, on⟩ := x
  simp only at hv hfr
  subst hv
  have QW := Lib.hid (fun W (R : List Comp) (h : St K W (slC (.slice af fr.pg.sl.length cf) fr.pg :: slC (.slice ap p.sl.length cp) p :: R)) => newWrite_st hd hfr.id.1 hfr.id.2 hfr.word hfr.pg hp hfr.lev hpl h)
  have hs := (hs.made (.cells #[(.pointer (some ⟨b, 0, none⟩))] 82)).made (.cells #[.int .i64 (p).lev, (.slice ap p.sl.length cp), .string (p).hi, .bool (p).la, .int .u64 (p).ri] 43)
  rw [World.size_alloc] at hs
  obtain ⟨bi, hbi⟩ : ∃ bi, bi = w.heap.size := ⟨_, rfl⟩
  go_enter Tryz.func97, Tryz.ntmps97
  go_upto_region 1 with (fail)
  rw [← hbi] at hs ⊢
  clear hbi
  have Hs := Lib.hid (hs.re [3, 4, 2, 0, 1] rfl)
  clear hs
  refine region_effects [false, false, false, false, false, false, false, false, false, true, true, true] [9, 10, 11] (fun | 11 => [9, 10] | _ => [])
    (CvR K (slC (.slice af fr.pg.sl.length cf) fr.pg :: slC (.slice ap p.sl.length cp) p :: insC b nx d ⟨fr, .slice af fr.pg.sl.length cf, fu, vu, err, le, vl, ri, vr, sep, on⟩ :: blk (bi + 1) (.cells #[.int .i64 (p).lev, (.slice ap p.sl.length cp), .string (p).hi, .bool (p).la, .int .u64 (p).ri] 43) :: blk bi (.cells #[(.pointer (some ⟨b, 0, none⟩))] 82) :: F) 76 (.pointer none) 9 10 11 (NwΦ d fr p))
    (fun W => ∃ R1 R2, St K W (R1 :: R2 :: insC b nx d ⟨fr, .slice af fr.pg.sl.length cf, fu, vu, err, le, vl, ri, vr, sep, on⟩ :: blk (bi + 1) (.cells #[.int .i64 (p).lev, (.slice ap p.sl.length cp), .string (p).hi, .bool (p).la, .int .u64 (p).ri] 43) :: blk bi (.cells #[(.pointer (some ⟨b, 0, none⟩))] 82) :: F)) ?aS (by kernel_rfl) ?hB ?H ?haS ?h0 ?hI ?hR ?hE ?hQ
  case hB => as_aux_lemma => kernel_rfl
  case H =>
    rintro W2 ⟨R1, R2, hs⟩
    have k := hs.k2
    unfold inCells inH at k
    have kp := hs.tail.k2
    have ki := hs.tail.tail.k2
    clear hs
    simp only [withM]
    repeat (go_big_quiet_step (fail))
    refine wpQuiet_nil ?_
    rfl
  case haS => rfl
  case h0 => exact CvR.start Hs.out
  case hI => exact fun ρ W2 h => ⟨_, _, h.rest⟩
  case hR => exact fun ρ W2 W3 h hb => h.same hb
  case hE =>
    refine ⟨?e9, ?e10, ?e11, trivial⟩
    case e9 =>
      intro o ho ρ W2 h hcl h9 hd2 af' haf
      obtain rfl := Option.some.inj ho
      replace haf : af' = fillD _ ρ [] _ := haf
      have h11 : ρ 11 = none := hcl.none (by simp) (show 9 ∈ [9, 10] by simp) h9
      obtain ⟨X, hs, hnext⟩ := h.call (by omega) (by omega) h9 h11
      simp only [fillD] at haf
      subst haf
      have Hn := Lib.hid hnext
      clear hnext hcl hd2 h9 h11 h
      go_wp2_with fail
      refine (QW.out _ _ hs).mono ?_
      rintro e W3 ⟨bw, bn, g, cap, va, mid, ps, rfl, hm, hps, hs'⟩
      have Hs' := Lib.hid hs'
      have Hm := Lib.hid hm
      have Hps := Lib.hid hps
      clear hs hs' hm hps
      go_wp2
      exact ⟨rfl, _, rfl, Hn.out _ _ W3 ⟨bw, bn, g, cap, va, ps, rfl, ⟨mid, Hm.out, Hps.out⟩, rfl⟩ Hs'.out⟩
    case e10 =>
      intro o ho ρ W2 h hcl h10 hd2 af' haf
      obtain rfl := Option.some.inj ho
      replace haf : af' = fillD _ ρ [] _ := haf
      have h11 : ρ 11 = none := hcl.none (by simp) (show 10 ∈ [9, 10] by simp) h10
      have Hn := Lib.hid (h.var (by omega) (by omega) h10 h11)
      simp only [fillD] at haf
      subst haf
      clear hcl hd2 h10 h11 h
      go_wp2
      exact ⟨rfl, _, rfl, Hn.out⟩
    case e11 =>
      intro o ho ρ W2 h hcl h11 hd2 af' haf
      obtain rfl := Option.some.inj ho
      replace haf : af' = fillD _ ρ [9, 10] _ := haf
      obtain ⟨v9, h9⟩ := Option.isSome_iff_exists.1 (hd2 9 (by show _ ∈ [9, 10]; simp))
      obtain ⟨v10, h10⟩ := Option.isSome_iff_exists.1 (hd2 10 (by show _ ∈ [9, 10]; simp))
      obtain ⟨bv, R', rfl, ⟨C, bw, bn, g, cap, va, ps, rfl, _, _⟩, hs, hnext⟩ := h.store (by omega) (by omega) h9 h10 h11
      simp only [fillD, h9, h10, Option.getD_some, dstAt, List.getElem?_cons_succ, List.getElem?_cons_zero, Option.bind_some, Option.bind_none, Act.put, List.setIfInBounds_toArray, List.set_cons_zero, List.set_cons_succ] at haf
      subst haf
      have k0 := hs.k0
      have f0 := hs.f0
      have Hs3 : Hid (St K _ (blk bv (.cells #[(.pointer (some ⟨bw, 0, none⟩))] 76) :: R')) := Lib.hid (hs.setL 0 (.pointer (some ⟨bw, 0, none⟩)))
      have Hn := Lib.hid hnext
      clear hs hnext hcl hd2 h h9 h10 h11
      go_wp2
      exact ⟨rfl, undef, rfl, Hn.out _ Hs3.out⟩
  case hQ =>
    intro ρ W2 h hall
    obtain ⟨bv, v, C, h9, h10, ⟨v11, h11⟩, ⟨bw, bn, g, cap, va, ps, rfl, hps, rfl⟩, hs⟩ := h.last hall
    simp only [fillD, h9, h10, h11, Option.getD_some, dstAt, List.getElem?_cons_succ, List.getElem?_cons_zero, Option.bind_some, Option.bind_none, Act.put, List.setIfInBounds_toArray, List.set_cons_zero, List.set_cons_succ]
    have Hps := Lib.hid hps
    clear h hall h9 h10 h11 hps
    have kv := hs.k0
    have q := call_st (T2 := 76) (xv := (.pointer (some ⟨bw, 0, none⟩))) (f := 133) (tx := #[]) (ty := #[(.pointer (some ⟨bv, 0, none⟩)), (.pointer (some ⟨bi, 0, none⟩))]) hs
    have Q := Lib.hid q
    clear q hs
    go_wp2_with fail
    refine (Q.out).mono ?_
    rintro e W3 ⟨b2, b3, b5, rfl, hs⟩
    have Hs' := Lib.hid hs
    clear hs kv Q
    simp only [callFV, stV]
    go_wp2
    go_ret
    refine ⟨⟨b2, b3, b5, bv, bi, bw, bn, g, cap, va⟩, ps, rfl, Hps.out, ?_⟩
    exact ((show St K W3 (_ :: _ :: _ :: _ :: _ :: _ :: _ :: _ :: _ :: _ :: _ :: F) from Hs'.out).re [9, 8, 6, 7, 0, 1, 10, 2, 3, 4, 5] rfl).tail
end
end Go.Proofs.YtlpdhhhgckpcfaaGreat

namespace Go.Proofs.YtlpdhhhgckpcfaaGreat
open Go.RowKit
set_option maxRecDepth 100000
section
variable {K : Know} {w : World} {F : List Comp} {b : Nat} {nx : Value} {d : Cfg} {x : InX} {p : Pg} {id word : Int} {B : WrB} {ps : List Pt}
set_option maxHeartbeats 4000000 in
theorem insW1_st (hn : p.sl.length ≤ 1000000) (hs : St K w (insC b nx d x :: (wrL b B id word p ps ps.length ++ F))) :
    Calls Tryz.prog 133 #[(.pointer (some ⟨B.bwv, 0, none⟩)), (.pointer (some ⟨B.biv, 0, none⟩))] w fun e w' => ∃ va, e = .returned (stV none) ∧ St K w' (insC b nx d { x with le := ⟨id, word, p⟩, vl := va } :: slC va p :: F) := by
  obtain ⟨b2, b3, b5, bwv, biv, bw, bn, g, cap, va⟩ := B
  have hs : St K w (insC b nx d x :: callC b2 b3 b5 _ _ :: blk bwv (.cells #[(.pointer (some ⟨bw, 0, none⟩))] 76) :: blk biv (.cells #[(.pointer (some ⟨b, 0, none⟩))] 82) :: wrC bn id word p va g cap ps ps.length :: rowC (.slice (some ⟨g, 0, none⟩) ps.length cap) 139 4 ps.length (ptRow ps) :: blk bw (.cells #[(.pointer (some ⟨bn, 0, none⟩))] 147) :: slC va p :: F) := hs
  have hs : St K w (blk bwv (.cells #[(.pointer (some ⟨bw, 0, none⟩))] 76) :: blk biv (.cells #[(.pointer (some ⟨b, 0, none⟩))] 82) :: insC b nx d x :: wrC bn id word p va g cap ps ps.length :: slC va p :: blk bw (.cells #[(.pointer (some ⟨bn, 0, none⟩))] 147) :: F) := (hs.re [1, 5, 2, 3, 0, 4, 7, 6] rfl).tail.tail
  obtain ⟨av, cv, hva, _, _⟩ := (show St K w (rowC va 69 2 p.sl.length (slRow p.sl) :: _) from hs.b4).row_read
  subst hva
  obtain ⟨fr, vf, fu, vu, err, le, vl, ri, vr, sep, on⟩ := x
  have Hs := Lib.hid hs
  clear hs
  go_enter Tryz.func133, Tryz.ntmps133
  go_upto_region 1 with (fail)
  refine region_two [false, false, true, false, false, true] 2 5
    (fun W => St K W (blk bwv (.cells #[(.pointer (some ⟨bw, 0, none⟩))] 76) :: blk biv (.cells #[(.pointer (some ⟨b, 0, none⟩))] 82) :: insC b nx d ⟨fr, vf, fu, vu, err, le, vl, ri, vr, sep, on⟩ :: wrC bn id word p (.slice av p.sl.length cv) g cap ps ps.length :: slC (.slice av p.sl.length cv) p :: blk bw (.cells #[(.pointer (some ⟨bn, 0, none⟩))] 147) :: F))
    (fun v W => ∃ (a1 : Option Addr) (c1 : Nat), v = (.agg #[.int .u64 id, .int .u64 word, .int .i64 (p).lev, (.slice a1 p.sl.length c1), .string (p).hi, .bool (p).la, .int .u64 (p).ri]) ∧ St K W (blk bwv (.cells #[(.pointer (some ⟨bw, 0, none⟩))] 76) :: blk biv (.cells #[(.pointer (some ⟨b, 0, none⟩))] 82) :: insC b nx d ⟨fr, vf, fu, vu, err, le, vl, ri, vr, sep, on⟩ :: slC (.slice a1 p.sl.length c1) p :: F))
    (fun v u W => ∃ (a1 : Option Addr) (c1 : Nat), u = undef ∧ v = (.agg #[.int .u64 id, .int .u64 word, .int .i64 (p).lev, (.slice a1 p.sl.length c1), .string (p).hi, .bool (p).la, .int .u64 (p).ri]) ∧ St K W (blk bwv (.cells #[(.pointer (some ⟨bw, 0, none⟩))] 76) :: blk biv (.cells #[(.pointer (some ⟨b, 0, none⟩))] 82) :: insC b nx d ⟨fr, vf, fu, vu, err, ⟨id, word, p⟩, .slice a1 p.sl.length c1, ri, vr, sep, on⟩ :: slC (.slice a1 p.sl.length c1) p :: F))
    (fun W => ∃ cs, St K W (blk bwv (.cells #[(.pointer (some ⟨bw, 0, none⟩))] 76) :: blk biv (.cells #[(.pointer (some ⟨b, 0, none⟩))] 82) :: cs)) ?aS (by decide) (by kernel_rfl) ?hB ?H ?haS Hs.out ?hI ?hR ?hE1 ?hE2 ?hQ
  case hB => as_aux_lemma => kernel_rfl
  case H =>
    rintro W2 ⟨cs, hs⟩
    have k1 := hs.k0
    have k2 := hs.k1
    clear hs
    simp only [withM]
    repeat (go_big_quiet_step (fail))
    refine wpQuiet_nil ?_
    rfl
  case haS => rfl
  case hI => exact ⟨fun W h => ⟨_, h⟩, fun v W ⟨_, _, _, h⟩ => ⟨_, h⟩, fun v u W ⟨_, _, _, _, h⟩ => ⟨_, h⟩⟩
  case hR => exact ⟨fun W W' h hb => h.same hb, fun v W W' ⟨a, c, e, h⟩ hb => ⟨a, c, e, h.same hb⟩, fun v u W W' ⟨a, c, e, e2, h⟩ hb => ⟨a, c, e, e2, h.same hb⟩⟩
  case hE1 =>
    intro R2' o ho ρ W2 hs hk af haf
    obtain rfl := Option.some.inj ho
    subst haf
    have Hk := Lib.hid hk
    clear hk
    go_wp2_with fail
    refine (writeHeld_st hn (hs.re [3, 4, 5, 0, 1, 2] rfl)).mono ?_
    rintro e w1 ⟨va1, rfl, hs⟩
    obtain ⟨a1, c1, rfl, _, _⟩ := hs.row_read
    go_wp2
    exact ⟨rfl, _, rfl, Hk.out _ _ ⟨a1, c1, rfl, (hs.re [1, 2, 3, 4, 5, 6, 0] rfl).tail.tail.tail⟩⟩
  case hE2 =>
    rintro R2' o ho ρ v W2 ⟨a1, c1, rfl, hs⟩ hk af haf
    obtain rfl := Option.some.inj ho
    have Hk := Lib.hid hk
    clear hk
    simp only [dstAt, List.getElem?_cons_succ, List.getElem?_cons_zero, Option.bind_some, Act.put, List.setIfInBounds_toArray, List.set_cons_zero, List.set_cons_succ] at haf
    subst haf
    have hs := hs.b2
    have k := hs.k0
    have kf := hs.f0
    unfold inCells inH at k
    have Hs3 : Hid (St K _ (insC b nx d ⟨fr, vf, fu, vu, err, ⟨id, word, p⟩, .slice a1 p.sl.length c1, ri, vr, sep, on⟩ :: _)) := Lib.hid (((((((hs.setL 22 (.int .u64 id)).setL 23 (.int .u64 word)).setL 24 (.int .i64 p.lev)).setL 25 (.slice a1 p.sl.length c1)).setL 26 (.string p.hi)).setL 27 (.bool p.la)).setL 28 (.int .u64 p.ri))
    clear hs
    go_wp2
    exact ⟨rfl, undef, rfl, Hk.out _ _ ⟨a1, c1, rfl, rfl, Hs3.out.u2⟩⟩
  case hQ =>
    rintro v u W2 ⟨a1, c1, rfl, rfl, hs⟩
    simp only [dstAt, List.getElem?_cons_succ, List.getElem?_cons_zero, Option.bind_some, Act.put, List.setIfInBounds_toArray, List.set_cons_zero, List.set_cons_succ]
    clear Hs
    go_wp2
    go_ret
    exact ⟨rfl, _, hs.tail.tail⟩
end
end Go.Proofs.YtlpdhhhgckpcfaaGreat

namespace Go.Proofs.YtlpdhhhgckpcfaaGreat
open Go.RowKit
set_option maxRecDepth 100000
/-- What the writing of the new node keeps. -/
structure FrB where
  b2 : Nat
  b3 : Nat
  b5 : Nat
  bfv : Nat
  bsv : Nat
  biv : Nat
  blv : Nat
  bw : Nat
  bn : Nat
  g : Nat
  cap : Nat
  va : Value
  vq : Value
def frThen (B : FrB) : Value := .func (.func 136) #[] #[(.pointer (some ⟨B.bfv, 0, none⟩)), (.pointer (some ⟨B.bsv, 0, none⟩)), (.pointer (some ⟨B.biv, 0, none⟩)), (.pointer (some ⟨B.blv, 0, none⟩))]
def frFV (B : FrB) : FV := callFV B.b2 B.b3 B.b5
def frL (b : Nat) (B : FrB) (id : Int) (p q : Pg) (sep : ByteArray) (ps : List Pt) (k : Nat) : List Comp :=
  [callC B.b2 B.b3 B.b5 (.iface 74 (.pointer (some ⟨B.bw, 0, none⟩))) (frThen B), blk B.bfv (.cells #[(.pointer (some ⟨B.bw, 0, none⟩))] 74), blk B.bsv (.cells #[.string sep] 9), blk B.biv (.cells #[(.pointer (some ⟨b, 0, none⟩))] 82), blk B.blv (.cells #[.int .i64 (q).lev, B.vq, .string (q).hi, .bool (q).la, .int .u64 (q).ri] 43),
    wrC B.bn id (ltLock 0) p B.va B.g B.cap ps k, rowC (.slice (some ⟨B.g, 0, none⟩) ps.length B.cap) 139 4 ps.length (ptRow ps), blk B.bw (.cells #[(.pointer (some ⟨B.bn, 0, none⟩))] 145), slC B.va p, slC B.vq q]
/-- While split$1's first region runs: the held node (3), right (7), separator (10). -/
def S1R (K : Know) (REST : List Comp) (b : Nat) (nx : Value) (d : Cfg) (x : InX) (id : Int) (p : Pg) (sep : ByteArray) (ρ : Nat → Option Value) (W : World) : Prop :=
  ∃ (a1 : Option Addr) (c1 : Nat), (∀ v, ρ 3 = some v → v = (.agg #[.int .u64 id, .int .u64 (ltLock 0), .int .i64 (p).lev, (.slice a1 p.sl.length c1), .string (p).hi, .bool (p).la, .int .u64 (p).ri])) ∧
    St K W (optC (ρ 3) (slC (.slice a1 p.sl.length c1) p) :: insC b nx d { x with ri := if (ρ 7).isSome then ⟨id, ltLock 0, p⟩ else x.ri, vr := if (ρ 7).isSome then .slice a1 p.sl.length c1 else x.vr, sep := if (ρ 10).isSome then sep else x.sep } :: REST)
section
variable {K : Know} {REST : List Comp} {b : Nat} {nx : Value} {d : Cfg} {x : InX} {id : Int} {p : Pg} {sep : ByteArray} {ρ : Nat → Option Value} {W : World} {v3 : Value}
theorem S1R.start (hs : St K W (insC b nx d x :: REST)) : S1R K REST b nx d x id p sep (fun _ => none) W := ⟨none, 0, fun v h => (by cases h), hs.empty⟩
theorem S1R.same {W' : World} (h : S1R K REST b nx d x id p sep ρ W) (hb : Below W.heap.size W W') : S1R K REST b nx d x id p sep ρ W' := by
  obtain ⟨a1, c1, e, hs⟩ := h
  exact ⟨a1, c1, e, hs.same hb⟩
theorem S1R.rest (h : S1R K REST b nx d x id p sep ρ W) : St K W REST := by
  obtain ⟨a1, c1, e, hs⟩ := h
  exact hs.tail.tail
theorem S1R.e3 (h : S1R K REST b nx d x id p sep ρ W) (h3 : ρ 3 = none) (h7 : ρ 7 = none) : ∃ R', St K W (R' :: REST) ∧ ∀ (a1 : Option Addr) (c1 : Nat) W', St K W' (slC (.slice a1 p.sl.length c1) p :: R' :: REST) → S1R K REST b nx d x id p sep (upd ρ 3 (.agg #[.int .u64 id, .int .u64 (ltLock 0), .int .i64 (p).lev, (.slice a1 p.sl.length c1), .string (p).hi, .bool (p).la, .int .u64 (p).ri])) W' := by
  obtain ⟨a0, c0, e, hs⟩ := h
  rw [h3, h7] at hs
  refine ⟨_, hs.tail, fun a1 c1 W' hs' => ⟨a1, c1, fun v hv => by rw [upd_eq] at hv; exact (Option.some.inj hv).symm, ?_⟩⟩
  rw [upd_eq, upd_ne (by omega), upd_ne (by omega), h7]
  exact hs'
theorem S1R.e7 (h : S1R K REST b nx d x id p sep ρ W) (h3 : ρ 3 = some v3) (h7 : ρ 7 = none) : ∃ (a1 : Option Addr) (c1 : Nat) (s' : ByteArray) (R' : List Comp), v3 = (.agg #[.int .u64 id, .int .u64 (ltLock 0), .int .i64 (p).lev, (.slice a1 p.sl.length c1), .string (p).hi, .bool (p).la, .int .u64 (p).ri]) ∧ St K W (insC b nx d { x with sep := s' } :: R') ∧
    ∀ W', St K W' (insC b nx d { x with ri := ⟨id, ltLock 0, p⟩, vr := .slice a1 p.sl.length c1, sep := s' } :: R') → S1R K REST b nx d x id p sep (upd ρ 7 undef) W' := by
  obtain ⟨a1, c1, e, hs⟩ := h
  rw [h3, h7] at hs
  refine ⟨a1, c1, _, _, e v3 h3, hs.b1, fun W' hs' => ⟨a1, c1, fun v hv => e v (by rwa [upd_ne (by omega)] at hv), ?_⟩⟩
  rw [upd_ne (by omega), upd_eq, upd_ne (by omega), h3]
  exact hs'.b1
theorem S1R.e10 (h : S1R K REST b nx d x id p sep ρ W) (h10 : ρ 10 = none) : ∃ (r' : InH) (v' : Value) (R' : List Comp), St K W (insC b nx d { x with ri := r', vr := v' } :: R') ∧
    ∀ W', St K W' (insC b nx d { x with ri := r', vr := v', sep := sep } :: R') → S1R K REST b nx d x id p sep (upd ρ 10 undef) W' := by
  obtain ⟨a1, c1, e, hs⟩ := h
  rw [h10] at hs
  refine ⟨_, _, _, hs.b1, fun W' hs' => ⟨a1, c1, fun v hv => e v (by rwa [upd_ne (by omega)] at hv), ?_⟩⟩
  rw [upd_ne (by omega), upd_ne (by omega), upd_eq]
  exact hs'.b1
theorem S1R.last (h : S1R K REST b nx d x id p sep ρ W) (hall : ∀ e, e ∈ [3, 7, 10] → (ρ e).isSome = true) : ∃ (a1 : Option Addr) (c1 : Nat), (∃ v, ρ 3 = some v) ∧ (∃ v, ρ 7 = some v) ∧ (∃ v, ρ 10 = some v) ∧
    St K W (slC (.slice a1 p.sl.length c1) p :: insC b nx d { x with ri := ⟨id, ltLock 0, p⟩, vr := .slice a1 p.sl.length c1, sep := sep } :: REST) := by
  obtain ⟨v3, h3⟩ := Option.isSome_iff_exists.1 (hall 3 (by simp))
  obtain ⟨v7, h7⟩ := Option.isSome_iff_exists.1 (hall 7 (by simp))
  obtain ⟨v10, h10⟩ := Option.isSome_iff_exists.1 (hall 10 (by simp))
  obtain ⟨a1, c1, e, hs⟩ := h
  rw [h3, h7, h10] at hs
  exact ⟨a1, c1, ⟨v3, h3⟩, ⟨v7, h7⟩, ⟨v10, h10⟩, hs⟩
end
section
variable {K : Know} {w : World} {F : List Comp} {b : Nat} {nx : Value} {d : Cfg} {x : InX} {p q : Pg} {id : Int} {sep : ByteArray} {B : FrB} {ps : List Pt} {af aq : Option Addr} {cf cq : Nat}
set_option maxHeartbeats 4000000 in
theorem insS1_st (hd : d.Ok) (hfr : x.fr.Ok d) (hq : PgOk d q) (hql : 0 ≤ q.lev ∧ q.lev < 1000000) (hn : p.sl.length ≤ 1000000) (hv : x.vf = .slice af x.fr.pg.sl.length cf) (hvq : B.vq = .slice aq q.sl.length cq) (hs : St K w (insC b nx d x :: slC x.vf x.fr.pg :: (frL b B id p q sep ps ps.length ++ F))) :
    Calls Tryz.prog 136 #[(.pointer (some ⟨B.bfv, 0, none⟩)), (.pointer (some ⟨B.bsv, 0, none⟩)), (.pointer (some ⟨B.biv, 0, none⟩)), (.pointer (some ⟨B.blv, 0, none⟩))] w fun e w' => ∃ (va : Value) (B' : WrB) (ps' : List Pt), e = .returned (stV (some (wrFV B'))) ∧ WrPs d x.fr q ps' ∧
      St K w' (insC b nx d { x with ri := ⟨id, ltLock 0, p⟩, vr := va, sep := sep } :: slC x.vf x.fr.pg :: slC va p :: slC B.vq q :: (wrL b B' x.fr.id (ltEnd (ltBegin x.fr.word)) q ps' 0 ++ F)) := by
  obtain ⟨b2, b3, b5, bfv, bsv, biv, blv, bw, bn, g, cap, va, vq⟩ := B
  simp only at hvq
  subst hvq
  have hs : St K w (insC b nx d x :: slC x.vf x.fr.pg :: callC b2 b3 b5 _ _ :: blk bfv (.cells #[(.pointer (some ⟨bw, 0, none⟩))] 74) :: blk bsv (.cells #[.string sep] 9) :: blk biv (.cells #[(.pointer (some ⟨b, 0, none⟩))] 82) :: blk blv (.cells #[.int .i64 (q).lev, (.slice aq q.sl.length cq), .string (q).hi, .bool (q).la, .int .u64 (q).ri] 43) ::
    wrC bn id (ltLock 0) p va g cap ps ps.length :: rowC (.slice (some ⟨g, 0, none⟩) ps.length cap) 139 4 ps.length (ptRow ps) :: blk bw (.cells #[(.pointer (some ⟨bn, 0, none⟩))] 145) :: slC va p :: slC (.slice aq q.sl.length cq) q :: F) := hs
  have hs : St K w (insC b nx d x :: blk bfv (.cells #[(.pointer (some ⟨bw, 0, none⟩))] 74) :: blk bsv (.cells #[.string sep] 9) :: blk biv (.cells #[(.pointer (some ⟨b, 0, none⟩))] 82) :: blk blv (.cells #[.int .i64 (q).lev, (.slice aq q.sl.length cq), .string (q).hi, .bool (q).la, .int .u64 (q).ri] 43) ::
    wrC bn id (ltLock 0) p va g cap ps ps.length :: slC va p :: blk bw (.cells #[(.pointer (some ⟨bn, 0, none⟩))] 145) :: slC x.vf x.fr.pg :: slC (.slice aq q.sl.length cq) q :: F) := (hs.re [2, 8, 0, 3, 4, 5, 6, 7, 10, 9, 1, 11] rfl).tail.tail
  obtain ⟨av, cv, hva, _, _⟩ := (show St K w (rowC va 69 2 p.sl.length (slRow p.sl) :: _) from hs.b6).row_read
  subst hva
  have Hfr := Lib.hid hfr
  have Hv := Lib.hid hv
  have Hs := Lib.hid hs
  clear hs hfr hv
  go_enter Tryz.func136, Tryz.ntmps136
  go_upto_region 1 with (fail)
  refine region_effects [false, false, false, true, false, false, false, true, false, false, true] [3, 7, 10] (fun | 7 => [3] | _ => [])
    (S1R K (blk bfv (.cells #[(.pointer (some ⟨bw, 0, none⟩))] 74) :: blk bsv (.cells #[.string sep] 9) :: blk biv (.cells #[(.pointer (some ⟨b, 0, none⟩))] 82) :: blk blv (.cells #[.int .i64 (q).lev, (.slice aq q.sl.length cq), .string (q).hi, .bool (q).la, .int .u64 (q).ri] 43) ::
      wrC bn id (ltLock 0) p (.slice av p.sl.length cv) g cap ps ps.length :: slC (.slice av p.sl.length cv) p :: blk bw (.cells #[(.pointer (some ⟨bn, 0, none⟩))] 145) :: slC x.vf x.fr.pg :: slC (.slice aq q.sl.length cq) q :: F) b nx d x id p sep)
    (fun W => ∃ cs, St K W (blk bfv (.cells #[(.pointer (some ⟨bw, 0, none⟩))] 74) :: blk bsv (.cells #[.string sep] 9) :: blk biv (.cells #[(.pointer (some ⟨b, 0, none⟩))] 82) :: cs)) ?aS (by kernel_rfl) ?hB ?H ?haS ?h0 ?hI ?hR ?hE ?hQ
  case hB => as_aux_lemma => kernel_rfl
  case H =>
    rintro W2 ⟨cs, hs⟩
    have k1 := hs.k0
    have k2 := hs.k1
    have k3 := hs.k2
    clear hs
    simp only [withM]
    repeat (go_big_quiet_step (fail))
    refine wpQuiet_nil ?_
    rfl
  case haS => rfl
  case h0 => exact S1R.start Hs.out
  case hI => exact fun ρ W2 h => ⟨_, h.rest⟩
  case hR => exact fun ρ W2 W3 h hb => h.same hb
  case hE =>
    refine ⟨?e3, ?e7, ?e10, trivial⟩
    case e3 =>
      intro o ho ρ W2 h hcl h3 hd2 af' haf
      obtain rfl := Option.some.inj ho
      replace haf : af' = fillD _ ρ [] _ := haf
      have h7 : ρ 7 = none := hcl.none (by simp) (show 3 ∈ [3] by simp) h3
      obtain ⟨R', hs, hnext⟩ := h.e3 h3 h7
      simp only [fillD] at haf
      subst haf
      have Hn := Lib.hid hnext
      clear hnext hcl hd2 h3 h7 h
      go_wp2_with fail
      refine (freshHeld_st hn (hs.re [5, 6, 7, 0, 1, 2, 3, 4] rfl)).mono ?_
      rintro e W3 ⟨va1, rfl, hs'⟩
      obtain ⟨a1, c1, rfl, _, _⟩ := hs'.row_read
      have Hs' := Lib.hid (hs'.re [0, 4, 5, 6, 7, 8, 1, 2, 3] rfl)
      clear hs hs'
      go_wp2
      exact ⟨rfl, _, rfl, Hn.out a1 c1 W3 Hs'.out⟩
    case e7 =>
      intro o ho ρ W2 h hcl h7 hd2 af' haf
      obtain rfl := Option.some.inj ho
      replace haf : af' = fillD _ ρ [3] _ := haf
      obtain ⟨v3, h3⟩ := Option.isSome_iff_exists.1 (hd2 3 (by show _ ∈ [3]; simp))
      obtain ⟨a1, c1, s', R', rfl, hs, hnext⟩ := h.e7 h3 h7
      simp only [fillD, h3, Option.getD_some, dstAt, List.getElem?_cons_succ, List.getElem?_cons_zero, Option.bind_some, Option.bind_none, Act.put, List.setIfInBounds_toArray, List.set_cons_zero, List.set_cons_succ] at haf
      subst haf
      have k := hs.k0
      have kf := hs.f0
      unfold inCells inH at k
      have Hs3 : Hid (St K _ (insC b nx d { x with ri := ⟨id, ltLock 0, p⟩, vr := .slice a1 p.sl.length c1, sep := s' } :: R')) := Lib.hid (((((((hs.setL 29 (.int .u64 id)).setL 30 (.int .u64 (ltLock 0))).setL 31 (.int .i64 p.lev)).setL 32 (.slice a1 p.sl.length c1)).setL 33 (.string p.hi)).setL 34 (.bool p.la)).setL 35 (.int .u64 p.ri))
      have Hn := Lib.hid hnext
      clear hs hnext hcl hd2 h h3 h7
      go_wp2
      exact ⟨rfl, undef, rfl, Hn.out _ Hs3.out⟩
    case e10 =>
      intro o ho ρ W2 h hcl h10 hd2 af' haf
      obtain rfl := Option.some.inj ho
      replace haf : af' = fillD _ ρ [] _ := haf
      obtain ⟨r', v', R', hs, hnext⟩ := h.e10 h10
      simp only [fillD] at haf
      subst haf
      have k := hs.k0
      have kf := hs.f0
      unfold inCells inH at k
      have Hs3 : Hid (St K _ (insC b nx d { x with ri := r', vr := v', sep := sep } :: R')) := Lib.hid (hs.setL 36 (.string sep))
      have Hn := Lib.hid hnext
      clear hs hnext hcl hd2 h h10
      go_wp2
      exact ⟨rfl, undef, rfl, Hn.out _ Hs3.out⟩
  case hQ =>
    intro ρ W2 h hall
    obtain ⟨a1, c1, ⟨v3, h3⟩, ⟨v7, h7⟩, ⟨v10, h10⟩, hs⟩ := h.last hall
    simp only [fillD, h3, h7, h10, Option.getD_some, dstAt, List.getElem?_cons_succ, List.getElem?_cons_zero, Option.bind_some, Option.bind_none, Act.put, List.setIfInBounds_toArray, List.set_cons_zero, List.set_cons_succ]
    clear h hall h3 h7 h10 Hs
    have ki := hs.tail.tail.tail.k1
    have kl := hs.tail.tail.tail.k2
    have hs : St K W2 (insC b nx d { x with ri := ⟨id, ltLock 0, p⟩, vr := .slice a1 p.sl.length c1, sep := sep } :: slC x.vf x.fr.pg :: slC (.slice aq q.sl.length cq) q :: slC (.slice a1 p.sl.length c1) p :: F) := (hs.re [2, 3, 4, 5, 6, 7, 8, 1, 9, 10, 0] rfl).tail.tail.tail.tail.tail.tail.tail
    have qw := insWrite_st (x := { x with ri := ⟨id, ltLock 0, p⟩, vr := .slice a1 p.sl.length c1, sep := sep }) hd Hfr.out hq hql Hv.out hs
    have Q := Lib.hid qw
    clear qw hs
    go_wp2_with fail
    refine (Q.out).mono ?_
    rintro e W3 ⟨B', ps', rfl, hps, hs⟩
    have Hps := Lib.hid hps
    have Hs' := Lib.hid hs
    clear hs hps ki kl Q
    simp only [wrFV, callFV, stV]
    go_wp2
    go_ret
    exact ⟨_, B', ps', rfl, Hps.out, (show St K W3 (_ :: _ :: _ :: _ :: _ :: _ :: _ :: _ :: _ :: _ :: _ :: F) from Hs'.out).re [0, 1, 10, 2, 3, 4, 5, 6, 7, 8, 9] rfl⟩
end
end Go.Proofs.YtlpdhhhgckpcfaaGreat

namespace Go.Proofs.YtlpdhhhgckpcfaaGreat
open Go.RowKit
set_option maxRecDepth 100000
/-- What NewFresh gives. -/
def NfΦ (d : Cfg) (id : Int) (p : Pg) (v : Value) (C : List Comp) : Prop :=
  ∃ (bw bn g cap : Nat) (va : Value) (ps : List Pt), v = (.pointer (some ⟨bw, 0, none⟩)) ∧ ps = ⟨d.node id 0, ⟨ltLock 0, ⟨#[]⟩, 0⟩⟩ :: pgPts d id p ∧ C = [wrC bn id (ltLock 0) p va g cap ps 0, rowC (.slice (some ⟨g, 0, none⟩) ps.length cap) 139 4 ps.length (ptRow ps), blk bw (.cells #[(.pointer (some ⟨bn, 0, none⟩))] 145), slC va p]
section
variable {K : Know} {w : World} {F : List Comp} {b : Nat} {nx : Value} {d : Cfg} {x : InX} {id : Int} {au : Option Addr} {cu : Nat}
set_option maxHeartbeats 4000000 in
theorem insSplit_st (hd : d.Ok) (hid : 0 ≤ id ∧ id < 18446744073709551616) (hul : 0 ≤ x.fu.lev ∧ x.fu.lev < 1000000) (h2 : 2 ≤ x.fu.sl.length) (hle : (x.fu.sl.length : Int) ≤ d.fa + 1) (hsz : ∀ s, s ∈ x.fu.sl → s.k.size ≤ 1000000) (hvu : x.vu = .slice au x.fu.sl.length cu)
    (hs : St K w (insC b nx d x :: slC x.vu x.fu :: F)) :
    Calls Tryz.prog 102 #[(.pointer (some ⟨b, 0, none⟩)), .int .u64 id] w fun e w' => ∃ (B : FrB) (ps : List Pt), e = .returned (stV (some (frFV B))) ∧ ps = ⟨d.node id 0, ⟨ltLock 0, ⟨#[]⟩, 0⟩⟩ :: pgPts d id (splR x.fu) ∧ (∃ a c, B.vq = .slice a (splL x.fu id).sl.length c) ∧
      St K w' (insC b nx d x :: slC x.vu x.fu :: (frL b B id (splR x.fu) (splL x.fu id) (splSep x.fu) ps 0 ++ F)) := by
  obtain ⟨fr, vf, fu, vu, err, le, vl, ri, vr, sep, on⟩ := x
  simp only at hvu hul h2 hle hsz
  subst hvu
  have hf2 := hd.fa2
  have QS := Lib.hid (fun W (R : List Comp) (h : St K W (slC (.slice au fu.sl.length cu) fu :: R)) => pageSplit_st (right := id) h2 (by omega) hsz h)
  have hs := hs.made (.cells #[(.pointer (some ⟨b, 0, none⟩))] 82)
  have k := hs.k1
  unfold inCells inH at k
  have ki := hs.k0
  obtain ⟨bi, hbi⟩ : ∃ bi, bi = w.heap.size := ⟨_, rfl⟩
  go_enter Tryz.func102, Tryz.ntmps102
  go_wp2_with fail
  rw [← hbi] at hs ⊢
  clear hbi
  refine (QS.out _ _ (hs.re [2, 0, 1] rfl)).mono ?_
  clear hs k ki
  rintro e w2 ⟨a1, c1, a2, c2, rfl, hs⟩
  have hpl : 0 ≤ (splR fu).lev ∧ (splR fu).lev < 1000000 := hul
  have hpn : ((splR fu).sl.length : Int) ≤ d.fa := by
    show ((fu.sl.drop (splK fu.sl.length)).length : Int) ≤ d.fa
    have hf1 := hd.fa1
    rw [List.length_drop]
    unfold splK
    omega
  obtain ⟨p, hp⟩ : ∃ p, p = splR fu := ⟨_, rfl⟩
  obtain ⟨q, hq⟩ : ∃ q, q = splL fu id := ⟨_, rfl⟩
  obtain ⟨sp, hsp⟩ : ∃ sp, sp = splSep fu := ⟨_, rfl⟩
  rw [← hp, ← hq, ← hsp]
  rw [← hp] at hpl hpn hs
  rw [← hq] at hs
  have Hp := Lib.hid hp
  have Hq := Lib.hid hq
  have Hsp := Lib.hid hsp
  clear hp hq hsp
  have hs := ((hs.made (.cells #[.int .i64 (q).lev, (.slice a1 q.sl.length c1), .string (q).hi, .bool (q).la, .int .u64 (q).ri] 43)).made (.cells #[.int .i64 (p).lev, (.slice a2 p.sl.length c2), .string (p).hi, .bool (p).la, .int .u64 (p).ri] 43)).made (.cells #[.string sp] 9)
  simp only [World.size_alloc] at hs
  obtain ⟨bl, hbl⟩ : ∃ bl, bl = w2.heap.size := ⟨_, rfl⟩
  rw [show w2.heap.size + 1 + 1 = w2.heap.size + 2 by omega, ← hbl] at hs
  have QN := Lib.hid (fun W (R : List Comp) (h : St K W (slC (.slice a2 p.sl.length c2) p :: R)) => newFresh_st (id := id) hd hid hpl hpn h)
  go_upto_region 2 with (fail)
  rw [show w2.heap.size + 1 + 1 = w2.heap.size + 2 by omega, ← hbl]
  clear hbl
  have Hs : Hid (St K _ (slC (.slice a2 p.sl.length c2) p :: insC b nx d ⟨fr, vf, fu, .slice au fu.sl.length cu, err, le, vl, ri, vr, sep, on⟩ :: blk bi (.cells #[(.pointer (some ⟨b, 0, none⟩))] 82) :: blk (bl + 1) (.cells #[.int .i64 (p).lev, (.slice a2 p.sl.length c2), .string (p).hi, .bool (p).la, .int .u64 (p).ri] 43) :: blk (bl + 2) (.cells #[.string sp] 9) :: blk bl (.cells #[.int .i64 (q).lev, (.slice a1 q.sl.length c1), .string (q).hi, .bool (q).la, .int .u64 (q).ri] 43) :: slC (.slice a1 q.sl.length c1) q :: slC (.slice au fu.sl.length cu) fu :: F)) := Lib.hid (hs.re [4, 7, 6, 1, 0, 2, 3, 5] rfl)
  clear hs
  refine region_effects [false, false, false, false, false, false, true, true, true] [6, 7, 8] (fun | 8 => [6, 7] | _ => [])
    (CvR K (slC (.slice a2 p.sl.length c2) p :: insC b nx d ⟨fr, vf, fu, .slice au fu.sl.length cu, err, le, vl, ri, vr, sep, on⟩ :: blk bi (.cells #[(.pointer (some ⟨b, 0, none⟩))] 82) :: blk (bl + 1) (.cells #[.int .i64 (p).lev, (.slice a2 p.sl.length c2), .string (p).hi, .bool (p).la, .int .u64 (p).ri] 43) :: blk (bl + 2) (.cells #[.string sp] 9) :: blk bl (.cells #[.int .i64 (q).lev, (.slice a1 q.sl.length c1), .string (q).hi, .bool (q).la, .int .u64 (q).ri] 43) :: slC (.slice a1 q.sl.length c1) q :: slC (.slice au fu.sl.length cu) fu :: F) 74 (.pointer none) 6 7 8 (NfΦ d id p))
    (fun W => St K W (slC (.slice a2 p.sl.length c2) p :: insC b nx d ⟨fr, vf, fu, .slice au fu.sl.length cu, err, le, vl, ri, vr, sep, on⟩ :: blk bi (.cells #[(.pointer (some ⟨b, 0, none⟩))] 82) :: blk (bl + 1) (.cells #[.int .i64 (p).lev, (.slice a2 p.sl.length c2), .string (p).hi, .bool (p).la, .int .u64 (p).ri] 43) :: blk (bl + 2) (.cells #[.string sp] 9) :: blk bl (.cells #[.int .i64 (q).lev, (.slice a1 q.sl.length c1), .string (q).hi, .bool (q).la, .int .u64 (q).ri] 43) :: slC (.slice a1 q.sl.length c1) q :: slC (.slice au fu.sl.length cu) fu :: F)) ?aS (by kernel_rfl) ?hB ?H ?haS ?h0 ?hI ?hR ?hE ?hQ
  case hB => as_aux_lemma => kernel_rfl
  case H =>
    intro W2 hs
    have k := hs.k1
    unfold inCells inH at k
    have ki := hs.k2
    have kp := hs.tail.k2
    clear hs
    simp only [withM]
    repeat (go_big_quiet_step (fail))
    refine wpQuiet_nil ?_
    rfl
  case haS => rfl
  case h0 => exact CvR.start Hs.out
  case hI => exact fun ρ W2 h => h.rest
  case hR => exact fun ρ W2 W3 h hb => h.same hb
  case hE =>
    refine ⟨?e6, ?e7, ?e8, trivial⟩
    case e6 =>
      intro o ho ρ W2 h hcl h6 hd2 af' haf
      obtain rfl := Option.some.inj ho
      replace haf : af' = fillD _ ρ [] _ := haf
      have h8 : ρ 8 = none := hcl.none (by simp) (show 6 ∈ [6, 7] by simp) h6
      obtain ⟨X, hs, hnext⟩ := h.call (by omega) (by omega) h6 h8
      simp only [fillD] at haf
      subst haf
      have Hn := Lib.hid hnext
      clear hnext hcl hd2 h6 h8 h
      go_wp2_with fail
      refine (QN.out _ _ hs).mono ?_
      rintro e W3 ⟨bw, bn, g, cap, va, ps, rfl, hps, hs'⟩
      have Hs' := Lib.hid hs'
      have Hps := Lib.hid hps
      clear hs hs' hps
      go_wp2
      exact ⟨rfl, _, rfl, Hn.out _ _ W3 ⟨bw, bn, g, cap, va, ps, rfl, Hps.out, rfl⟩ Hs'.out⟩
    case e7 =>
      intro o ho ρ W2 h hcl h7 hd2 af' haf
      obtain rfl := Option.some.inj ho
      replace haf : af' = fillD _ ρ [] _ := haf
      have h8 : ρ 8 = none := hcl.none (by simp) (show 7 ∈ [6, 7] by simp) h7
      have Hn := Lib.hid (h.var (by omega) (by omega) h7 h8)
      simp only [fillD] at haf
      subst haf
      clear hcl hd2 h7 h8 h
      go_wp2
      exact ⟨rfl, _, rfl, Hn.out⟩
    case e8 =>
      intro o ho ρ W2 h hcl h8 hd2 af' haf
      obtain rfl := Option.some.inj ho
      replace haf : af' = fillD _ ρ [6, 7] _ := haf
      obtain ⟨v6, h6⟩ := Option.isSome_iff_exists.1 (hd2 6 (by show _ ∈ [6, 7]; simp))
      obtain ⟨v7, h7⟩ := Option.isSome_iff_exists.1 (hd2 7 (by show _ ∈ [6, 7]; simp))
      obtain ⟨bv, R', rfl, ⟨C, bw, bn, g, cap, va, ps, rfl, _, _⟩, hs, hnext⟩ := h.store (by omega) (by omega) h6 h7 h8
      simp only [fillD, h6, h7, Option.getD_some, dstAt, List.getElem?_cons_succ, List.getElem?_cons_zero, Option.bind_some, Option.bind_none, Act.put, List.setIfInBounds_toArray, List.set_cons_zero, List.set_cons_succ] at haf
      subst haf
      have k0 := hs.k0
      have f0 := hs.f0
      have Hs3 : Hid (St K _ (blk bv (.cells #[(.pointer (some ⟨bw, 0, none⟩))] 74) :: R')) := Lib.hid (hs.setL 0 (.pointer (some ⟨bw, 0, none⟩)))
      have Hn := Lib.hid hnext
      clear hs hnext hcl hd2 h h6 h7 h8
      go_wp2
      exact ⟨rfl, undef, rfl, Hn.out _ Hs3.out⟩
  case hQ =>
    intro ρ W2 h hall
    obtain ⟨bv, v, C, h6, h7, ⟨v8, h8⟩, ⟨bw, bn, g, cap, va, ps, rfl, hps, rfl⟩, hs⟩ := h.last hall
    simp only [fillD, h6, h7, h8, Option.getD_some, dstAt, List.getElem?_cons_succ, List.getElem?_cons_zero, Option.bind_some, Option.bind_none, Act.put, List.setIfInBounds_toArray, List.set_cons_zero, List.set_cons_succ]
    have Hps := Lib.hid hps
    clear h hall h6 h7 h8 hps
    have kv := hs.k0
    have q1 := call_st (T2 := 74) (xv := (.pointer (some ⟨bw, 0, none⟩))) (f := 136) (tx := #[]) (ty := #[(.pointer (some ⟨bv, 0, none⟩)), (.pointer (some ⟨(bl + 2), 0, none⟩)), (.pointer (some ⟨bi, 0, none⟩)), (.pointer (some ⟨bl, 0, none⟩))]) hs
    have Q := Lib.hid q1
    clear q1 hs
    go_wp2_with fail
    refine (Q.out).mono ?_
    rintro e W3 ⟨b2, b3, b5, rfl, hs⟩
    have Hs' := Lib.hid hs
    clear hs kv Q
    simp only [callFV, stV]
    go_wp2
    go_ret
    refine ⟨⟨b2, b3, b5, bv, bl + 2, bi, bl, bw, bn, g, cap, va, .slice a1 q.sl.length c1⟩, ps, rfl, by rw [← Hp.out]; exact Hps.out, ⟨a1, c1, by rw [← Hq.out]⟩, ?_⟩
    rw [← Hp.out, ← Hq.out, ← Hsp.out]
    exact ((show St K W3 (_ :: _ :: _ :: _ :: _ :: _ :: _ :: _ :: _ :: _ :: _ :: _ :: _ :: _ :: F) from Hs'.out).re [6, 9, 7, 13, 0, 1, 10, 8, 11, 2, 3, 4, 5, 12] rfl).tail.tail
end
end Go.Proofs.YtlpdhhhgckpcfaaGreat

namespace Go.Proofs.YtlpdhhhgckpcfaaGreat
open Go.RowKit
set_option maxRecDepth 100000
/-- What the taking of a number keeps. -/
structure TkB where
  b2 : Nat
  b3 : Nat
  b5 : Nat
  btv : Nat
  biv : Nat
  bt : Nat
def tkThen (B : TkB) : Value := .func (.func 100) #[] #[(.pointer (some ⟨B.btv, 0, none⟩)), (.pointer (some ⟨B.biv, 0, none⟩))]
def tkFV (B : TkB) : FV := callFV B.b2 B.b3 B.b5
def tkL (b : Nat) (B : TkB) (i lim : Int) (s : TakeS) : List Comp :=
  [callC B.b2 B.b3 B.b5 (.iface 156 (.pointer (some ⟨B.bt, 0, none⟩))) (tkThen B), blk B.btv (.cells #[(.pointer (some ⟨B.bt, 0, none⟩))] 156), blk B.biv (.cells #[(.pointer (some ⟨b, 0, none⟩))] 82), takeC B.bt i lim s]
/-- While the error and the left node are stored (8, 11). -/
def T1R (K : Know) (REST : List Comp) (b : Nat) (nx : Value) (d : Cfg) (x : InX) (ρ : Nat → Option Value) (W : World) : Prop :=
  St K W (insC b nx d { x with err := if (ρ 8).isSome then 2 else x.err, le := if (ρ 11).isSome then x.fr else x.le, vl := if (ρ 11).isSome then x.vf else x.vl } :: REST)
section
variable {K : Know} {w : World} {F : List Comp} {b : Nat} {nx : Value} {d : Cfg} {x : InX} {i lim : Int} {s : TakeS} {B : TkB} {af au : Option Addr} {cf cu : Nat}
set_option maxHeartbeats 4000000 in
theorem insT1_no (hv : x.vf = .slice af x.fr.pg.sl.length cf) (hok : s.ok = false) (hs : St K w (insC b nx d x :: (tkL b B i lim s ++ F))) :
    Calls Tryz.prog 100 #[(.pointer (some ⟨B.btv, 0, none⟩)), (.pointer (some ⟨B.biv, 0, none⟩))] w fun e w' => e = .returned (stV none) ∧ St K w' (insC b nx d { x with err := 2, le := x.fr, vl := x.vf } :: F) := by
  obtain ⟨b2, b3, b5, btv, biv, bt⟩ := B
  obtain ⟨fr, vf, fu, vu, err, le, vl, ri, vr, sep, on⟩ := x
  simp only at hv
  subst hv
  have hs : St K w (insC b nx d ⟨fr, .slice af fr.pg.sl.length cf, fu, vu, err, le, vl, ri, vr, sep, on⟩ :: callC b2 b3 b5 _ _ :: blk btv (.cells #[(.pointer (some ⟨bt, 0, none⟩))] 156) :: blk biv (.cells #[(.pointer (some ⟨b, 0, none⟩))] 82) :: takeC bt i lim s :: F) := hs
  have kt := hs.k2
  have q := takeNumber_st (i := i) (lim := lim) (s := s) hs.b4.head (fun e => by rw [hok] at e; cases e)
  rw [hok] at q
  have Q := Lib.hid q
  clear q
  go_enter Tryz.func100, Tryz.ntmps100
  go_wp2_with fail
  refine (Q.out).mono ?_
  rintro e w2 ⟨rfl, rfl⟩
  clear kt Q
  go_upto_region 3 with (fail)
  have Hs : Hid (St K _ (insC b nx d ⟨fr, .slice af fr.pg.sl.length cf, fu, vu, err, le, vl, ri, vr, sep, on⟩ :: blk biv (.cells #[(.pointer (some ⟨b, 0, none⟩))] 82) :: F)) := Lib.hid (hs.re [1, 2, 4, 0, 3] rfl).tail.tail.tail
  clear hs
  refine region_effects [false, false, false, false, false, false, false, false, true, false, false, true] [8, 11] (fun _ => [])
    (T1R K (blk biv (.cells #[(.pointer (some ⟨b, 0, none⟩))] 82) :: F) b nx d ⟨fr, .slice af fr.pg.sl.length cf, fu, vu, err, le, vl, ri, vr, sep, on⟩)
    (fun W => ∃ err' le' vl', St K W (insC b nx d ⟨fr, .slice af fr.pg.sl.length cf, fu, vu, err', le', vl', ri, vr, sep, on⟩ :: blk biv (.cells #[(.pointer (some ⟨b, 0, none⟩))] 82) :: F)) ?aS (by kernel_rfl) ?hB ?H ?haS ?h0 ?hI ?hR ?hE ?hQ
  case hB => as_aux_lemma => kernel_rfl
  case H =>
    rintro W2 ⟨err', le', vl', hs⟩
    have k := hs.k0
    unfold inCells inH at k
    have ki := hs.k1
    clear hs
    simp only [withM]
    repeat (go_big_quiet_step (fail))
    refine wpQuiet_nil ?_
    rfl
  case haS => rfl
  case h0 => exact Hs.out
  case hI => exact fun ρ W2 h => ⟨_, _, _, h⟩
  case hR => exact fun ρ W2 W3 h hb => St.same h hb
  case hE =>
    refine ⟨?e8, ?e11, trivial⟩
    case e8 =>
      intro o ho ρ W2 h hcl h8 hd2 af' haf
      obtain rfl := Option.some.inj ho
      replace haf : af' = fillD _ ρ [] _ := haf
      simp only [fillD] at haf
      subst haf
      unfold T1R at h
      rw [h8] at h
      obtain ⟨l2, hl2⟩ : ∃ l2 : InH, l2 = (if (ρ 11).isSome = true then fr else le) := ⟨_, rfl⟩
      obtain ⟨v2, hv2⟩ : ∃ v2 : Value, v2 = (if (ρ 11).isSome = true then .slice af fr.pg.sl.length cf else vl) := ⟨_, rfl⟩
      have hs : St K W2 (insC b nx d ⟨fr, .slice af fr.pg.sl.length cf, fu, vu, err, l2, v2, ri, vr, sep, on⟩ :: blk biv (.cells #[(.pointer (some ⟨b, 0, none⟩))] 82) :: F) := by rw [hl2, hv2]; exact h
      have Hl2 := Lib.hid hl2
      have Hv2 := Lib.hid hv2
      have k := hs.k0
      have kf := hs.f0
      unfold inCells inH at k
      have Hs3 : Hid (St K _ (insC b nx d ⟨fr, .slice af fr.pg.sl.length cf, fu, vu, 2, l2, v2, ri, vr, sep, on⟩ :: blk biv (.cells #[(.pointer (some ⟨b, 0, none⟩))] 82) :: F)) := Lib.hid (hs.setL 21 (.int .i64 2))
      clear h hs hcl hd2 hl2 hv2
      go_wp2
      refine ⟨rfl, undef, rfl, ?_⟩
      unfold T1R
      rw [upd_eq, upd_ne (by omega)]
      have := Hs3.out
      rw [Hl2.out, Hv2.out] at this
      exact this
    case e11 =>
      intro o ho ρ W2 h hcl h11 hd2 af' haf
      obtain rfl := Option.some.inj ho
      replace haf : af' = fillD _ ρ [] _ := haf
      simp only [fillD] at haf
      subst haf
      unfold T1R at h
      rw [h11] at h
      obtain ⟨e2, he2⟩ : ∃ e2 : Int, e2 = (if (ρ 8).isSome = true then 2 else err) := ⟨_, rfl⟩
      have hs : St K W2 (insC b nx d ⟨fr, .slice af fr.pg.sl.length cf, fu, vu, e2, le, vl, ri, vr, sep, on⟩ :: blk biv (.cells #[(.pointer (some ⟨b, 0, none⟩))] 82) :: F) := by rw [he2]; exact h
      have He2 := Lib.hid he2
      have k := hs.k0
      have kf := hs.f0
      unfold inCells inH at k
      have Hs3 : Hid (St K _ (insC b nx d ⟨fr, .slice af fr.pg.sl.length cf, fu, vu, e2, fr, .slice af fr.pg.sl.length cf, ri, vr, sep, on⟩ :: blk biv (.cells #[(.pointer (some ⟨b, 0, none⟩))] 82) :: F)) := Lib.hid (((((((hs.setL 22 (.int .u64 fr.id)).setL 23 (.int .u64 fr.word)).setL 24 (.int .i64 fr.pg.lev)).setL 25 (.slice af fr.pg.sl.length cf)).setL 26 (.string fr.pg.hi)).setL 27 (.bool fr.pg.la)).setL 28 (.int .u64 fr.pg.ri))
      clear h hs hcl hd2 he2
      go_wp2
      refine ⟨rfl, undef, rfl, ?_⟩
      unfold T1R
      rw [upd_eq, upd_ne (by omega)]
      have := Hs3.out
      rw [He2.out] at this
      exact this
  case hQ =>
    intro ρ W2 h hall
    obtain ⟨v8, h8⟩ := Option.isSome_iff_exists.1 (hall 8 (by simp))
    obtain ⟨v11, h11⟩ := Option.isSome_iff_exists.1 (hall 11 (by simp))
    unfold T1R at h
    rw [h8, h11] at h
    have hs : St K W2 (insC b nx d ⟨fr, .slice af fr.pg.sl.length cf, fu, vu, 2, fr, .slice af fr.pg.sl.length cf, ri, vr, sep, on⟩ :: blk biv (.cells #[(.pointer (some ⟨b, 0, none⟩))] 82) :: F) := h
    simp only [fillD, h8, h11, Option.getD_some, dstAt, List.getElem?_cons_succ, List.getElem?_cons_zero, Option.bind_some, Option.bind_none, Act.put]
    clear h hall h8 h11 Hs
    go_wp2
    go_ret
    exact ⟨rfl, hs.b1.tail⟩
set_option maxHeartbeats 4000000 in
theorem insT1_yes (hd : d.Ok) (hul : 0 ≤ x.fu.lev ∧ x.fu.lev < 1000000) (h2 : 2 ≤ x.fu.sl.length) (hle : (x.fu.sl.length : Int) ≤ d.fa + 1) (hsz : ∀ s, s ∈ x.fu.sl → s.k.size ≤ 1000000) (hvu : x.vu = .slice au x.fu.sl.length cu) (hok : s.ok = true) (hseen : 0 ≤ s.seen ∧ s.seen < 18446744073709551615)
    (hs : St K w (insC b nx d x :: slC x.vu x.fu :: (tkL b B i lim s ++ F))) :
    Calls Tryz.prog 100 #[(.pointer (some ⟨B.btv, 0, none⟩)), (.pointer (some ⟨B.biv, 0, none⟩))] w fun e w' => ∃ (B' : FrB) (ps : List Pt), e = .returned (stV (some (frFV B'))) ∧ ps = ⟨d.node (s.seen + 1) 0, ⟨ltLock 0, ⟨#[]⟩, 0⟩⟩ :: pgPts d (s.seen + 1) (splR x.fu) ∧ (∃ a c, B'.vq = .slice a (splL x.fu (s.seen + 1)).sl.length c) ∧
      St K w' (insC b nx d x :: slC x.vu x.fu :: (frL b B' (s.seen + 1) (splR x.fu) (splL x.fu (s.seen + 1)) (splSep x.fu) ps 0 ++ F)) := by
  obtain ⟨b2, b3, b5, btv, biv, bt⟩ := B
  have hs : St K w (insC b nx d x :: slC x.vu x.fu :: callC b2 b3 b5 _ _ :: blk btv (.cells #[(.pointer (some ⟨bt, 0, none⟩))] 156) :: blk biv (.cells #[(.pointer (some ⟨b, 0, none⟩))] 82) :: takeC bt i lim s :: F) := hs
  have kt := hs.tail.k2
  have ki := hs.tail.tail.k2
  have q := takeNumber_st (i := i) (lim := lim) (s := s) hs.b5.head (fun _ => hseen)
  rw [hok, if_pos rfl] at q
  have Q := Lib.hid q
  have q2 := insSplit_st (id := s.seen + 1) hd (by omega) hul h2 hle hsz hvu ((hs.re [2, 3, 4, 5, 0, 1] rfl).tail.tail.tail.tail)
  have Q2 := Lib.hid q2
  clear q q2 hs
  go_enter Tryz.func100, Tryz.ntmps100
  go_wp2_with fail
  refine (Q.out).mono ?_
  rintro e w2 ⟨rfl, rfl⟩
  clear kt Q
  go_wp2_with fail
  refine (Q2.out).mono ?_
  rintro e w3 ⟨B', ps, rfl, hps, hvq, hs⟩
  have Hps := Lib.hid hps
  have Hvq := Lib.hid hvq
  have Hs := Lib.hid hs
  clear hs hps hvq ki Q2
  simp only [frFV, callFV, stV]
  go_wp2
  go_ret
  exact ⟨B', ps, rfl, Hps.out, Hvq.out, Hs.out⟩
end
end Go.Proofs.YtlpdhhhgckpcfaaGreat
