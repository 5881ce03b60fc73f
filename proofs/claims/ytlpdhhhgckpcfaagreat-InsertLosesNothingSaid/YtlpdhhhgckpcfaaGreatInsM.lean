
/- The machine insert.Insert, one step at a time, in a memory that others may change: its state, its parts, its step. -/
import Derived.Test.YtlpdhhhgckpcfaaGreatInsB
namespace Go.Proofs.YtlpdhhhgckpcfaaGreat
open Go.RowKit
set_option maxRecDepth 100000
/-- Insert: 0 it takes a number, 1 it writes the new node, 2 it writes the old one, 3 it has ended (k points of ps are stored). -/
structure InsS where
  pc : Nat
  tk : TakeS
  k : Nat
  ps : List Pt
  sp : Bool
  id : Int
  full : Bool
def ins0 : InsS := ⟨0, ⟨0, 0, false⟩, 0, [], false, 0, false⟩
/-- The old node's new page; the new node. -/
def InsS.pg (s : InsS) (fu : Pg) : Pg := if s.sp then splL fu s.id else fu
def InsS.right (s : InsS) (fu : Pg) : InH := if s.sp then ⟨s.id, ltLock 0, splR fu⟩ else hd0
/-- The cells behind a step. -/
def insMm (d : Cfg) (L : List Cel) (s : InsS) : List Cel := match s.pc with
  | 0 => (takeStep 4 d.no L s.tk).2
  | 1 => match s.ps[s.k]? with
    | some pt => putC L pt.i pt.c
    | none => L
  | 2 => match s.ps[s.k]? with
    | some pt => putC L pt.i pt.c
    | none => L
  | _ => L
/-- A step. -/
def InsNx (d : Cfg) (fr : InH) (fu : Pg) (L : List Cel) (s s' : InsS) : Prop := match s.pc with
  | 0 => ((takeStep 4 d.no L s.tk).1.pc < 2 ∧ s' = { s with tk := (takeStep 4 d.no L s.tk).1 }) ∨
      (2 ≤ (takeStep 4 d.no L s.tk).1.pc ∧ (takeStep 4 d.no L s.tk).1.ok = false ∧ s' = { s with pc := 3, tk := (takeStep 4 d.no L s.tk).1, full := true }) ∨
      (2 ≤ (takeStep 4 d.no L s.tk).1.pc ∧ (takeStep 4 d.no L s.tk).1.ok = true ∧ s' = ⟨1, (takeStep 4 d.no L s.tk).1, 0, ⟨d.node ((takeStep 4 d.no L s.tk).1.seen + 1) 0, ⟨ltLock 0, ⟨#[]⟩, 0⟩⟩ :: pgPts d ((takeStep 4 d.no L s.tk).1.seen + 1) (splR fu), false, (takeStep 4 d.no L s.tk).1.seen + 1, false⟩)
  | 1 => (s.k + 1 ≠ s.ps.length ∧ s' = { s with k := s.k + 1 }) ∨ (s.k + 1 = s.ps.length ∧ ∃ ps', WrPs d fr (splL fu s.id) ps' ∧ s' = { s with pc := 2, sp := true, k := 0, ps := ps' })
  | 2 => (s.k + 1 ≠ s.ps.length ∧ s' = { s with k := s.k + 1 }) ∨ (s.k + 1 = s.ps.length ∧ s' = { s with pc := 3, k := s.k + 1 })
  | _ => s' = s
/-- What a step wants. -/
structure InsS.Ok (d : Cfg) (fu : Pg) (s : InsS) : Prop where
  pc : s.pc ≤ 2
  tk : s.pc = 0 → d.fa < (fu.sl.length : Int) ∧ s.sp = false ∧ s.full = false ∧ ((s.tk.pc = 0 ∧ s.tk.ok = false) ∨ (s.tk.pc = 1 ∧ s.tk.ok = false ∧ 0 ≤ s.tk.seen ∧ s.tk.seen < d.no))
  nw : s.pc = 1 → s.k < s.ps.length ∧ 0 ≤ s.id ∧ s.id ≤ d.no ∧ s.full = false
  wr : s.pc = 2 → s.k < s.ps.length ∧ s.full = false ∧ (s.sp = true ∨ (fu.sl.length : Int) ≤ d.fa)
/-- The machine at its end. -/
structure InsFin (fr : InH) (fu : Pg) (s : InsS) (x : InX) : Prop where
  on : x.on = true
  err : x.err = if s.full then 2 else 0
  le : x.le = if s.full then fr else ⟨fr.id, ltEnd (ltBegin fr.word), s.pg fu⟩
  vl : ∃ a c, x.vl = .slice a x.le.pg.sl.length c
  ri : x.ri = s.right fu
  vr : ∃ a c, x.vr = .slice a x.ri.pg.sl.length c
  sep : x.sep = if s.sp then splSep fu else ⟨#[]⟩
/-- Its parts. -/
def InsRep (d : Cfg) (fr : InH) (fu : Pg) (b : Nat) (s : InsS) (C : List Comp) : Prop := match s.pc with
  | 0 => ∃ (B : TkB) (af au : Option Addr) (cf cu : Nat), C = insC b (stV (some (tkFV B))) d (inxA fr (.slice af fr.pg.sl.length cf) fu (.slice au fu.sl.length cu)) :: slC (.slice au fu.sl.length cu) fu :: (tkL b B 4 d.no s.tk ++ [slC (.slice af fr.pg.sl.length cf) fr.pg])
  | 1 => ∃ (B : FrB) (af au : Option Addr) (cf cu : Nat), (∃ a c, B.vq = .slice a (splL fu s.id).sl.length c) ∧ C = insC b (stV (some (frFV B))) d (inxA fr (.slice af fr.pg.sl.length cf) fu (.slice au fu.sl.length cu)) :: slC (.slice af fr.pg.sl.length cf) fr.pg :: frL b B s.id (splR fu) (splL fu s.id) (splSep fu) s.ps s.k
  | 2 => ∃ (B : WrB) (x : InX) (af au : Option Addr) (cf cu : Nat), (x = if s.sp then inxB fr (.slice af fr.pg.sl.length cf) fu (.slice au fu.sl.length cu) s.id x.vr else inxA fr (.slice af fr.pg.sl.length cf) fu (.slice au fu.sl.length cu)) ∧ (∃ a c, x.vr = .slice a x.ri.pg.sl.length c) ∧ C = insC b (stV (some (wrFV B))) d x :: (wrL b B fr.id (ltEnd (ltBegin fr.word)) (s.pg fu) s.ps s.k ++ [slC (.slice af fr.pg.sl.length cf) fr.pg, slC x.vr x.ri.pg])
  | _ => ∃ x : InX, InsFin fr fu s x ∧ C = [insC b .nilFunc d x, slC x.vl x.le.pg, slC x.vr x.ri.pg]
/-- How it begins. -/
def InsBeg (d : Cfg) (fr : InH) (fu : Pg) (s : InsS) : Prop :=
  ((fu.sl.length : Int) ≤ d.fa ∧ s.pc = 2 ∧ s.sp = false ∧ s.full = false ∧ s.k = 0 ∧ WrPs d fr fu s.ps) ∨ (d.fa < (fu.sl.length : Int) ∧ s = ins0)
section
variable {K : Know} {w : World} {F : List Comp} {b bm bc acc : Nat} {d : Cfg} {fr : InH} {fu : Pg} {L : List Cel} {s : InsS} {C : List Comp}
theorem newInsert_m {af : Option Addr} {cf : Nat} {key : ByteArray} {ref : Int} (hd : d.Ok) (hfr : fr.Ok d) (he : fu = insPg fr.pg key ref) (hno : decide (loK fr.pg.sl key < hiK fr.pg.sl key) = false) (hasc : Asc fr.pg.sl) (hfu : FuOk d fr fu) (hs : St K w (slC (.slice af fr.pg.sl.length cf) fr.pg :: F)) :
    Calls Tryz.prog 46 #[.agg #[.int .i64 (d).th, .int .i64 (d).sn, .int .i64 (d).no, .int .i64 (d).ch, .int .i64 (d).re, .int .i64 (d).fa, .int .u64 (d).cl], (.agg #[.int .u64 (fr).id, .int .u64 (fr).word, .int .i64 (fr).pg.lev, (.slice af fr.pg.sl.length cf), .string (fr).pg.hi, .bool (fr).pg.la, .int .u64 (fr).pg.ri]), .string key, .int .u64 ref] w fun e w' => ∃ (b : Nat) (s : InsS) (C : List Comp), e = .returned (.pointer (some ⟨b, 0, none⟩)) ∧ InsBeg d fr fu s ∧ InsRep d fr fu b s C ∧ St K w' (C ++ F) := by
  refine (newInsert_st hd hfr he hno hasc (fun h => hfu.fit h) hs).mono ?_
  rintro e w' ⟨b, a, c, rfl, ⟨hle, B, ps, hw, hs⟩ | ⟨hle, B, hs⟩⟩
  · have hs := (show St K w' (_ :: _ :: _ :: _ :: _ :: _ :: _ :: _ :: _ :: _ :: F) from hs)
    refine ⟨b, ⟨2, ⟨0, 0, false⟩, 0, ps, false, 0, false⟩, _, rfl, .inl ⟨hle, rfl, rfl, rfl, rfl, hw⟩, ⟨B, inxA fr (.slice af fr.pg.sl.length cf) fu (.slice a fu.sl.length c), af, a, cf, c, rfl, ⟨none, 0, rfl⟩, rfl⟩, ?_⟩
    exact ((hs.row_nil (T := 69) (size := 2)).re [3, 1, 4, 5, 6, 7, 8, 9, 10, 2, 0] rfl).tail
  · have hs := (show St K w' (_ :: _ :: _ :: _ :: _ :: _ :: _ :: F) from hs)
    refine ⟨b, ins0, _, rfl, .inr ⟨hle, rfl⟩, ⟨B, af, a, cf, c, rfl⟩, ?_⟩
    exact hs.re [0, 2, 3, 4, 5, 6, 1] rfl
theorem insM_step (hd : d.Ok) (hL : CelsOk L) (ha : acc ≤ 1000000000000) (hfr : fr.Ok d) (hfu : FuOk d fr fu) (hok : s.Ok d fu) (hrep : InsRep d fr fu b s C) (hs : St K w (C ++ memC bm bc L acc :: F)) :
    Calls Tryz.prog 48 #[(.pointer (some ⟨b, 0, none⟩)), (.pointer (some ⟨bm, 0, none⟩))] w fun e w' => ∃ s' C', e = .returned (.bool (decide (3 ≤ s'.pc))) ∧ InsNx d fr fu L s s' ∧ InsRep d fr fu b s' C' ∧ St K w' (C' ++ memC bm bc (insMm d L s) (acc + 1) :: F) := by
  have hno2 := hd.no2
  have hfa1 := hd.fa1
  have hfa2 := hd.fa2
  have hful := hfu.len
  have q : Calls Tryz.prog 77 #[(.pointer (some ⟨b, 0, none⟩)), (.pointer (some ⟨bm, 0, none⟩))] w fun e w' => ∃ v, e = .returned v ∧ ∃ s' C', v = .bool (decide (3 ≤ s'.pc)) ∧ InsNx d fr fu L s s' ∧ InsRep d fr fu b s' C' ∧ St K w' (C' ++ memC bm bc (insMm d L s) (acc + 1) :: F) := by
    obtain ⟨pc, tk, k, ps, sp, id, full⟩ := s
    have h3 := hok.pc
    simp only at h3
    rcases (by omega : pc = 0 ∨ pc = 1 ∨ pc = 2) with rfl | rfl | rfl
    · obtain ⟨hle, hsp, hfl, htk⟩ := hok.tk rfl
      simp only at hsp hfl htk
      subst hsp hfl
      obtain ⟨B, af, au, cf, cu, rfl⟩ := hrep
      have hs := (show St K w (insC b (stV (some (tkFV B))) d (inxA fr (.slice af fr.pg.sl.length cf) fu (.slice au fu.sl.length cu)) :: slC (.slice au fu.sl.length cu) fu :: _ :: _ :: _ :: _ :: slC (.slice af fr.pg.sl.length cf) fr.pg :: memC bm bc L acc :: F) from hs)
      have hs : St K w (insC b (stV (some (tkFV B))) d (inxA fr (.slice af fr.pg.sl.length cf) fu (.slice au fu.sl.length cu)) :: memC bm bc L acc :: slC (.slice au fu.sl.length cu) fu :: (tkL b B 4 d.no tk ++ (slC (.slice af fr.pg.sl.length cf) fr.pg :: F))) := hs.re [0, 7, 1, 2, 3, 4, 5, 6] rfl
      have hpc : tk.pc < 2 := by rcases htk with ⟨h, _⟩ | ⟨h, _⟩ <;> omega
      have hok0 : tk.ok = false := by rcases htk with ⟨_, h⟩ | ⟨_, h, _⟩ <;> exact h
      have hseen : (takeStep 4 d.no L tk).1.ok = true → 0 ≤ (takeStep 4 d.no L tk).1.seen ∧ (takeStep 4 d.no L tk).1.seen < 18446744073709551615 := by
        intro h
        rcases htk with ⟨h0, h1⟩ | ⟨h0, h1, h2, h4⟩
        · obtain ⟨pc, seen, ok⟩ := tk
          simp only at h0 h1
          subst h0 h1
          cases h
        · obtain ⟨pc, seen, ok⟩ := tk
          simp only at h0 h1 h2 h4
          subst h0 h1
          unfold takeStep at h ⊢
          simp only at h ⊢
          split
          · simp only; omega
          · rename_i hsw
            rw [if_neg hsw] at h
            cases h
      refine (insRunT (x := inxA fr (.slice af fr.pg.sl.length cf) fu (.slice au fu.sl.length cu)) B hd (by show 0 ≤ fu.lev ∧ fu.lev < _; rw [hfu.lev]; exact hfr.lev) (show 2 ≤ fu.sl.length by omega) hful hfu.k rfl rfl (s := tk) hpc (fun e => by
        rcases htk with ⟨h, _⟩ | ⟨_, _, h2, h4⟩
        · omega
        · omega) hseen ha hs).mono ?_
      rintro e w' (⟨h1, rfl, hs⟩ | ⟨h1, h2, rfl, hs⟩ | ⟨h1, h2, rfl, B', ps', rfl, hvq, hs⟩)
      · have hs := (show St K w' (insC b (stV (some (tkFV B))) d (inxA fr (.slice af fr.pg.sl.length cf) fu (.slice au fu.sl.length cu)) :: memC bm bc (takeStep 4 d.no L tk).2 (acc + 1) :: slC (.slice au fu.sl.length cu) fu :: _ :: _ :: _ :: _ :: slC (.slice af fr.pg.sl.length cf) fr.pg :: F) from hs)
        exact ⟨_, rfl, _, _, rfl, .inl ⟨h1, rfl⟩, ⟨B, af, au, cf, cu, rfl⟩, hs.re [0, 2, 3, 4, 5, 6, 7, 1] rfl⟩
      · have hs := (hs.row_nil (T := 69) (size := 2))
        have hs := (show St K w' (rowC (.slice none 0 0) 69 2 0 [] :: _ :: _ :: _ :: slC (.slice af fr.pg.sl.length cf) fr.pg :: F) from hs)
        refine ⟨_, rfl, _, _, rfl, .inr (.inl ⟨h1, h2, rfl⟩), ⟨{ inxA fr (.slice af fr.pg.sl.length cf) fu (.slice au fu.sl.length cu) with err := 2, le := fr, vl := (.slice af fr.pg.sl.length cf) }, ⟨rfl, rfl, rfl, ⟨af, cf, rfl⟩, rfl, ⟨none, 0, rfl⟩, rfl⟩, rfl⟩, ?_⟩
        exact (hs.re [3, 1, 4, 0, 2] rfl).tail
      · have hs := (show St K w' (_ :: _ :: _ :: _ :: _ :: _ :: _ :: _ :: _ :: _ :: _ :: _ :: _ :: slC (.slice af fr.pg.sl.length cf) fr.pg :: F) from hs)
        refine ⟨_, rfl, _, _, rfl, .inr (.inr ⟨h1, h2, rfl⟩), ⟨B', af, au, cf, cu, hvq, rfl⟩, ?_⟩
        exact (hs.re [2, 0, 13, 3, 4, 5, 6, 7, 8, 9, 10, 11, 12, 1] rfl).tail
    · obtain ⟨hk, hid0, hid1, hfl⟩ := hok.nw rfl
      simp only at hk hid0 hid1 hfl
      subst hfl
      obtain ⟨B, af, au, cf, cu, hvq, rfl⟩ := hrep
      have hg := List.getElem?_eq_getElem hk
      have hs := (show St K w (insC b (stV (some (frFV B))) d (inxA fr (.slice af fr.pg.sl.length cf) fu (.slice au fu.sl.length cu)) :: slC (.slice af fr.pg.sl.length cf) fr.pg :: _ :: _ :: _ :: _ :: _ :: _ :: _ :: _ :: _ :: _ :: memC bm bc L acc :: F) from hs)
      have hs : St K w (insC b (stV (some (frFV B))) d (inxA fr (.slice af fr.pg.sl.length cf) fu (.slice au fu.sl.length cu)) :: memC bm bc L acc :: slC (.slice af fr.pg.sl.length cf) fr.pg :: (frL b B id (splR fu) (splL fu id) (splSep fu) ps k ++ F)) := hs.re [0, 12, 1, 2, 3, 4, 5, 6, 7, 8, 9, 10, 11] rfl
      have hrl : (splR fu).sl.length ≤ 1000000 := by
        show (fu.sl.drop _).length ≤ _
        rw [List.length_drop]; omega
      have hmm : insMm d L ⟨1, tk, k, ps, sp, id, false⟩ = putC L ps[k].i ps[k].c := by
        show (match ps[k]? with | some pt => putC L pt.i pt.c | none => L) = _
        rw [hg]
      rw [hmm]
      refine (insRunF (x := inxA fr (.slice af fr.pg.sl.length cf) fu (.slice au fu.sl.length cu)) B hd hfr (hfu.left hd ⟨hid0, by omega⟩) (by show 0 ≤ fu.lev ∧ fu.lev < _; rw [hfu.lev]; exact hfr.lev) hrl rfl hvq hg ha hs).mono ?_
      rintro e w' ⟨rfl, ⟨hne, hs⟩ | ⟨he, va, B', ps', hw, hs⟩⟩
      · have hs := (show St K w' (_ :: memC bm bc (putC L ps[k].i ps[k].c) (acc + 1) :: _ :: _ :: _ :: _ :: _ :: _ :: _ :: _ :: _ :: _ :: _ :: F) from hs)
        exact ⟨_, rfl, _, _, rfl, .inl ⟨hne, rfl⟩, ⟨B, af, au, cf, cu, hvq, rfl⟩, hs.re [0, 2, 3, 4, 5, 6, 7, 8, 9, 10, 11, 12, 1] rfl⟩
      · have hs := (show St K w' (_ :: _ :: _ :: slC va (splR fu) :: _ :: _ :: _ :: _ :: _ :: _ :: _ :: _ :: F) from hs)
        obtain ⟨a, c, hva, _, _⟩ := (show St K w' (rowC va 69 2 (splR fu).sl.length (slRow (splR fu).sl) :: _) from hs.b3).row_read
        refine ⟨_, rfl, _, _, rfl, .inr ⟨he, ps', hw, rfl⟩, ⟨B', inxB fr (.slice af fr.pg.sl.length cf) fu (.slice au fu.sl.length cu) id va, af, au, cf, cu, rfl, ⟨a, c, hva⟩, rfl⟩, ?_⟩
        exact (hs.re [4, 0, 5, 6, 7, 8, 9, 10, 11, 2, 3, 1] rfl).tail
    · obtain ⟨hk, hfl, hfit⟩ := hok.wr rfl
      simp only at hk hfl hfit
      subst hfl
      obtain ⟨B, x, af, au, cf, cu, hx, hvr, rfl⟩ := hrep
      have hg := List.getElem?_eq_getElem hk
      have hpl : ((⟨2, tk, k, ps, sp, id, false⟩ : InsS).pg fu).sl.length ≤ 1000000 := by
        unfold InsS.pg
        split
        · show (fu.sl.take _).length ≤ _
          rw [List.length_take]; omega
        · omega
      have hs := (show St K w (insC b (stV (some (wrFV B))) d x :: _ :: _ :: _ :: _ :: _ :: _ :: _ :: slC (.slice af fr.pg.sl.length cf) fr.pg :: slC x.vr x.ri.pg :: memC bm bc L acc :: F) from hs)
      have hs : St K w (insC b (stV (some (wrFV B))) d x :: memC bm bc L acc :: (wrL b B fr.id (ltEnd (ltBegin fr.word)) ((⟨2, tk, k, ps, sp, id, false⟩ : InsS).pg fu) ps k ++ (slC (.slice af fr.pg.sl.length cf) fr.pg :: slC x.vr x.ri.pg :: F))) := hs.re [0, 10, 1, 2, 3, 4, 5, 6, 7, 8, 9] rfl
      have hmm : insMm d L ⟨2, tk, k, ps, sp, id, false⟩ = putC L ps[k].i ps[k].c := by
        show (match ps[k]? with | some pt => putC L pt.i pt.c | none => L) = _
        rw [hg]
      rw [hmm]
      refine (insRunW B hpl hg ha hs).mono ?_
      rintro e w' (⟨hne, rfl, hs⟩ | ⟨he, rfl, va, hs⟩)
      · have hs := (show St K w' (_ :: memC bm bc (putC L ps[k].i ps[k].c) (acc + 1) :: _ :: _ :: _ :: _ :: _ :: _ :: _ :: slC (.slice af fr.pg.sl.length cf) fr.pg :: slC x.vr x.ri.pg :: F) from hs)
        exact ⟨_, rfl, _, _, rfl, .inl ⟨hne, rfl⟩, ⟨B, x, af, au, cf, cu, hx, hvr, rfl⟩, hs.re [0, 2, 3, 4, 5, 6, 7, 8, 9, 10, 1] rfl⟩
      · obtain ⟨a, c, hva, _, _⟩ := (show St K w' (rowC va 69 2 ((⟨2, tk, k, ps, sp, id, false⟩ : InsS).pg fu).sl.length (slRow ((⟨2, tk, k, ps, sp, id, false⟩ : InsS).pg fu).sl) :: _) from hs.b2).row_read
        refine ⟨_, rfl, _, _, rfl, .inr ⟨he, rfl⟩, ⟨{ x with le := ⟨fr.id, ltEnd (ltBegin fr.word), (⟨2, tk, k, ps, sp, id, false⟩ : InsS).pg fu⟩, vl := va }, ⟨?_, ?_, rfl, ⟨a, c, hva⟩, ?_, hvr, ?_⟩, rfl⟩, (hs.re [3, 0, 2, 4, 1] rfl).tail⟩
        · show x.on = true
          rw [hx]; split <;> rfl
        · show x.err = 0
          rw [hx]; split <;> rfl
        · show x.ri = _
          rw [hx]
          show (if sp = true then inxB fr (.slice af fr.pg.sl.length cf) fu (.slice au fu.sl.length cu) id x.vr else inxA fr (.slice af fr.pg.sl.length cf) fu (.slice au fu.sl.length cu)).ri = (if sp then _ else _)
          split <;> rfl
        · show x.sep = _
          rw [hx]
          show (if sp = true then inxB fr (.slice af fr.pg.sl.length cf) fu (.slice au fu.sl.length cu) id x.vr else inxA fr (.slice af fr.pg.sl.length cf) fu (.slice au fu.sl.length cu)).sep = (if sp then _ else _)
          split <;> rfl
  refine (insStep_st (P := fun v w' => ∃ s' C', v = .bool (decide (3 ≤ s'.pc)) ∧ InsNx d fr fu L s s' ∧ InsRep d fr fu b s' C' ∧ St K w' (C' ++ memC bm bc (insMm d L s) (acc + 1) :: F)) q ?_).mono ?_
  · rintro v w' ⟨s', C', rfl, _⟩
    exact ⟨_, rfl⟩
  · rintro e w' ⟨v, rfl, s', C', rfl, h1, h2, h3⟩
    exact ⟨s', C', rfl, h1, h2, h3⟩
end
end Go.Proofs.YtlpdhhhgckpcfaaGreat
