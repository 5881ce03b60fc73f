
/- Insert beside a reader, in a world: what InsertLosesNothing keeps. -/
import Derived.Test.YtlpdhhhgckpcfaaGreatIlnLaw
namespace Go.Proofs.YtlpdhhhgckpcfaaGreat
open Go.RowKit
set_option maxRecDepth 100000
/-- Both are under way. -/
def IlS (K : Know) (b bf bm bc : Nat) (d : Cfg) (ks : List ByteArray) (key : ByteArray) (F : List Comp) (j : Nat) (dn : Bool) (ms acc : Nat) (w : World) : Prop :=
  ∃ (L : List Cel) (s : InsS) (t : List (List Nd)) (f : FdS) (kw : ByteArray), dn = decide (3 ≤ s.pc) ∧ ks[j]? = some kw ∧ IlI d ks key L s t ∧ (∃ m, FdC d L t kw f m) ∧ f.pc ≠ 2 ∧ (s.pc = 3 ∨ insMs (ilFu ks key) s + 1 ≤ ms) ∧ IfOn K b bf bm bc d (ilFr ks) (ilFu ks key) L kw F s f acc w
/-- Insert alone, beside a row of other things. -/
def IlO (K : Know) (b bm bc : Nat) (d : Cfg) (ks : List ByteArray) (key : ByteArray) (F : List Comp) (dn : Bool) (ms acc : Nat) (w : World) : Prop :=
  ∃ (L : List Cel) (s : InsS) (t : List (List Nd)) (C : List Comp), dn = decide (3 ≤ s.pc) ∧ IlI d ks key L s t ∧ (s.pc = 3 ∨ insMs (ilFu ks key) s + 1 ≤ ms) ∧ InsRep d (ilFr ks) (ilFu ks key) b s C ∧ St K w (group C :: memC bm bc L acc :: F)
/-- The reader has found a key. -/
structure IlF (ks : List ByteArray) (j : Nat) (pg : Pg) (kw : ByteArray) : Prop where
  key : ks[j]? = some kw
  slot : pg.sl[loK pg.sl kw]? = some ⟨kw, ((j + 1 : Nat) : Int)⟩
  any : (pg.sl.any fun s => s.k.toList == kw.toList) = true
  len : pg.sl.length ≤ 1000
section
variable {K : Know} {w : World} {F : List Comp} {b bf bm bc acc j ms : Nat} {d : Cfg} {ks : List ByteArray} {key : ByteArray} {dn : Bool}
theorem IlS.ins (hK : IlK d ks key) (ha : acc ≤ 1000000) (h : IlS K b bf bm bc d ks key F j dn ms acc w) :
    Calls Tryz.prog 48 #[(.pointer (some ⟨b, 0, none⟩)), (.pointer (some ⟨bm, 0, none⟩))] w fun e w' => ∃ (dn' : Bool) (acc' : Nat), e = .returned (.bool dn') ∧ acc' ≤ acc + 1 ∧ IlS K b bf bm bc d ks key F j dn' (ms - 1) acc' w' := by
  obtain ⟨L, s, t, f, kw, rfl, hkw, hI, ⟨m, hf⟩, hp, hms, hon⟩ := h
  refine (ifIns hK.ok hI.cels (by omega) hK.hok hK.k.fok hI.ok hI.le3 hon).mono ?_
  rintro e w' ⟨s', acc', rfl, hn, hacc, hon'⟩
  obtain ⟨t', hI', hE, hms'⟩ := hI.step hK hn
  refine ⟨_, acc', rfl, hacc, _, s', t', f, kw, rfl, hkw, hI', ⟨_, hf.env hK.ok hE⟩, hp, ?_, hon'⟩
  rcases hms' with h | h
  · exact .inl h
  · rcases hms with h2 | h2
    · obtain ⟨pc, tk, k, ps, sp, id, full⟩ := s
      simp only at h2
      subst h2
      obtain rfl : s' = _ := hn
      exact .inl rfl
    · exact .inr (by omega)
theorem IlS.find (hK : IlK d ks key) (ha : acc ≤ 1000000) (h : IlS K b bf bm bc d ks key F j dn ms acc w) :
    Calls Tryz.prog 49 #[(.pointer (some ⟨bf, 0, none⟩)), (.pointer (some ⟨bm, 0, none⟩))] w fun e w' => ∃ (acc' : Nat), acc' ≤ acc + 1 ∧ ((e = .returned (.bool false) ∧ IlS K b bf bm bc d ks key F j dn ms acc' w') ∨
      (e = .returned (.bool true) ∧ ∃ (id : Int) (pg : Pg) (rd : RdS) (B : VisB) (va va2 : Value) (kw : ByteArray), IlF ks j pg kw ∧ ∃ (L : List Cel) (s : InsS) (t : List (List Nd)) (C : List Comp), dn = decide (3 ≤ s.pc) ∧ IlI d ks key L s t ∧ (s.pc = 3 ∨ insMs (ilFu ks key) s + 1 ≤ ms) ∧ InsRep d (ilFr ks) (ilFu ks key) b s C ∧
        St K w' (fdL bf .nilFunc B va va2 d kw ((0 : Nat) : Int) ⟨2, id, pg, rd⟩ ++ (group C :: memC bm bc L acc' :: F)))) := by
  obtain ⟨L, s, t, f, kw, rfl, hkw, hI, ⟨m, hf⟩, hp, hms, hon⟩ := h
  obtain ⟨⟨m', g1, _⟩, g2, g3, g4⟩ := hf.step (level := 0) hK.ok hI.cels hI.tree hp
  refine (ifFind hK.ok hI.cels (by omega) g2 g3 hon).mono ?_
  rintro e w' ⟨he, acc', hacc, hon'⟩
  refine ⟨acc', hacc, ?_⟩
  by_cases h2 : 2 ≤ (fdStep d L kw ((0 : Nat) : Int) f).pc
  · rw [decide_eq_true h2] at he
    have h2' : (fdStep d L kw ((0 : Nat) : Int) f).pc = 2 := by
      rcases g1 with ⟨q, _⟩ | ⟨q, _⟩ | q <;> omega
    have hfin := g4 h2'
    generalize fdStep d L kw ((0 : Nat) : Int) f = f' at *
    obtain ⟨pc, id, pg, rd⟩ := f'
    simp only at h2'
    subst h2'
    obtain ⟨C, ⟨B, va, va2⟩, hr, hs⟩ := hon'
    obtain ⟨q1, q2, q3⟩ := hI.slot hK (x := ⟨kw, ((j + 1 : Nat) : Int)⟩) (.inl (List.mem_of_getElem? (i := j) (by have := keySl_at ks 0 j kw hkw; rw [this]; congr 3; omega))) hfin
    exact .inr ⟨he, id, pg, rd, B, va, va2, kw, ⟨hkw, q1, q2, q3⟩, L, s, t, C, rfl, hI, hms, hr, (St.group_iff.1 hs.b1)⟩
  · rw [decide_eq_false h2] at he
    exact .inl ⟨he, L, s, t, _, kw, rfl, hkw, hI, ⟨m', g1⟩, by omega, hms, hon'⟩
/-- A new reader. -/
theorem IlO.find {kw : ByteArray} (hkw : ks[j]? = some kw) (h : ∀ B, ∃ (L : List Cel) (s : InsS) (t : List (List Nd)) (C : List Comp), dn = decide (3 ≤ s.pc) ∧ IlI d ks key L s t ∧ (s.pc = 3 ∨ insMs (ilFu ks key) s + 1 ≤ ms) ∧ InsRep d (ilFr ks) (ilFu ks key) b s C ∧
    St K w (fdL bf (stV (some (rootFV bf))) B (.slice none 0 0) (.slice none 0 0) d kw ((0 : Nat) : Int) fd0 ++ (group C :: memC bm bc L acc :: F))) : IlS K b bf bm bc d ks key F j dn ms acc w := by
  obtain ⟨L, s, t, C, h1, h2, h3, h4, h5⟩ := h ⟨0, 0, 0, 0, 0, 0⟩
  exact ⟨L, s, t, fd0, kw, h1, hkw, h2, ⟨_, FdC.start⟩, by decide, h3, C, (⟨0, 0, 0, 0, 0, 0⟩, .slice none 0 0, .slice none 0 0), h4, (St.group_iff.2 h5).b1⟩
/-- The last reader. -/
def IlG (K : Know) (b bf bm bc : Nat) (d : Cfg) (ks : List ByteArray) (key : ByteArray) (F : List Comp) (f : FdS) (m acc : Nat) (w : World) : Prop :=
  ∃ (L : List Cel) (s : InsS) (t : List (List Nd)), s.pc = 3 ∧ IlI d ks key L s t ∧ FdC d L t key f m ∧ IfOn K b bf bm bc d (ilFr ks) (ilFu ks key) L key F s f acc w
theorem IlG.find {f : FdS} {m : Nat} (hK : IlK d ks key) (ha : acc ≤ 1000000) (hp : f.pc ≠ 2) (h : IlG K b bf bm bc d ks key F f m acc w) :
    Calls Tryz.prog 49 #[(.pointer (some ⟨bf, 0, none⟩)), (.pointer (some ⟨bm, 0, none⟩))] w fun e w' => ∃ (acc' : Nat), acc' ≤ acc + 1 ∧ ((e = .returned (.bool false) ∧ ∃ f' m', m' + 1 ≤ m ∧ f'.pc ≠ 2 ∧ IlG K b bf bm bc d ks key F f' m' acc' w') ∨
      (e = .returned (.bool true) ∧ ∃ (id : Int) (pg : Pg) (rd : RdS) (B : VisB) (va va2 : Value) (x : InX) (L : List Cel), pg.sl[loK pg.sl key]? = some ⟨key, 99⟩ ∧ (pg.sl.any fun s => s.k.toList == key.toList) = true ∧ pg.sl.length ≤ 1000 ∧ x.err = 0 ∧
        St K w' (fdL bf .nilFunc B va va2 d key ((0 : Nat) : Int) ⟨2, id, pg, rd⟩ ++ (insC b .nilFunc d x :: memC bm bc L acc' :: F)))) := by
  obtain ⟨L, s, t, h3, hI, hf, hon⟩ := h
  obtain ⟨⟨m', g1, g5⟩, g2, g3, g4⟩ := hf.step (level := 0) hK.ok hI.cels hI.tree hp
  have hQ : Quiet d L t ∧ s.full = false := by
    rcases hI.st with ⟨h, _⟩ | ⟨_, hfl, _, _, h⟩
    · omega
    · exact ⟨h, hfl⟩
  refine (ifFind hK.ok hI.cels (by omega) g2 g3 hon).mono ?_
  rintro e w' ⟨he, acc', hacc, hon'⟩
  refine ⟨acc', hacc, ?_⟩
  by_cases h2 : 2 ≤ (fdStep d L key ((0 : Nat) : Int) f).pc
  · rw [decide_eq_true h2] at he
    have h2' : (fdStep d L key ((0 : Nat) : Int) f).pc = 2 := by
      rcases g1 with ⟨q, _⟩ | ⟨q, _⟩ | q <;> omega
    have hfin := g4 h2'
    generalize fdStep d L key ((0 : Nat) : Int) f = f' at *
    obtain ⟨pc, id, pg, rd⟩ := f'
    simp only at h2'
    subst h2'
    obtain ⟨C, ⟨B, va, va2⟩, hr, hs⟩ := hon'
    obtain ⟨q1, q2, q3⟩ := hI.slot hK (x := ⟨key, 99⟩) (.inr ⟨h3, by show (⟨key, 99⟩ : Sl) ∈ insSl _ key 99; exact (insSl_perm _ _ _).symm.subset (List.mem_append_right _ List.mem_cons_self)⟩) hfin
    obtain ⟨pc, tk, k, ps, sp, id2, full⟩ := s
    simp only at h3 hQ
    obtain ⟨_, rfl⟩ := hQ
    subst h3
    obtain ⟨x, hx, rfl⟩ := hr
    have hs := St.group_iff.1 hs
    have hs : St K w' (insC b .nilFunc d x :: slC x.vl x.le.pg :: slC x.vr x.ri.pg :: group (fdL bf .nilFunc B va va2 d key ((0 : Nat) : Int) ⟨2, id, pg, rd⟩) :: memC bm bc L acc' :: F) := hs
    have hs := St.group_iff.1 ((hs.re [3, 0, 1, 2, 4] rfl).sub (.cons_cons _ (.cons_cons _ (.cons _ (.cons _ (List.Sublist.refl _))))))
    exact .inr ⟨he, id, pg, rd, B, va, va2, x, L, q1, q2, q3, by rw [hx.err]; rfl, hs⟩
  · rw [decide_eq_false h2] at he
    exact .inl ⟨he, _, m', g5 hQ.1, by omega, L, s, t, h3, hI, g1, hon'⟩
theorem IlS.last (hK : IlK d ks key) (h : IlS K b bf bm bc d ks key F j dn 0 acc w) : dn = true ∧ ∃ (L : List Cel) (s : InsS) (t : List (List Nd)) (C : List Comp), s.pc = 3 ∧ IlI d ks key L s t ∧ InsRep d (ilFr ks) (ilFu ks key) b s C ∧ St K w (group C :: memC bm bc L acc :: F) := by
  obtain ⟨L, s, t, f, kw, rfl, hkw, hI, _, hp, hms, C, x, hr, hs⟩ := h
  have h3 : s.pc = 3 := by
    rcases hms with h | h
    · exact h
    · omega
  exact ⟨by rw [h3]; rfl, L, s, t, C, h3, hI, hr, hs.drop1⟩
theorem IlG.start (hK : IlK d ks key) (h : ∀ B, ∃ (L : List Cel) (s : InsS) (t : List (List Nd)) (C : List Comp), s.pc = 3 ∧ IlI d ks key L s t ∧ InsRep d (ilFr ks) (ilFu ks key) b s C ∧
    St K w (fdL bf (stV (some (rootFV bf))) B (.slice none 0 0) (.slice none 0 0) d key ((0 : Nat) : Int) fd0 ++ (group C :: memC bm bc L acc :: F))) : IlG K b bf bm bc d ks key F fd0 200 acc w := by
  obtain ⟨L, s, t, C, h2, h3, h4, h5⟩ := h ⟨0, 0, 0, 0, 0, 0⟩
  refine ⟨L, s, t, h2, h3, ?_, C, (⟨0, 0, 0, 0, 0, 0⟩, .slice none 0 0, .slice none 0 0), h4, (St.group_iff.2 h5).b1⟩
  refine .inl ⟨rfl, ?_⟩
  have hns : nodeSteps d ≤ 11 := by unfold nodeSteps; have := hK.fa; omega
  have := Nat.mul_le_mul h3.count hns
  omega
theorem IlO.start (hK : IlK d ks key) {s : InsS} {C : List Comp} (hb : InsBeg d (ilFr ks) (ilFu ks key) s) (hr : InsRep d (ilFr ks) (ilFu ks key) b s C) (hs : St K w (group C :: memC bm bc (ilMem d ks) acc :: F)) : IlO K b bm bc d ks key F false 31 acc w := by
  refine ⟨_, s, _, C, ?_, hK.start hb, .inr (by have := hK.ms hb; omega), hr, hs⟩
  rcases hb with ⟨_, b1, _⟩ | ⟨_, rfl⟩
  · rw [b1]; rfl
  · rfl
theorem IlK.no_find (hK : IlK d ks key) : decide (loK (ilPg ks).sl key < hiK (ilPg ks).sl key) = false := by
  rcases loK_hiK (key := key) hK.nds0.asc with e | ⟨_, s, hs, hk⟩
  · show decide (loK (ilNd ks).pg.sl key < hiK (ilNd ks).pg.sl key) = false
    rw [e, decide_eq_false (by omega)]
  · exact absurd hk (hK.nosl s (List.mem_of_getElem? hs))
end
end Go.Proofs.YtlpdhhhgckpcfaaGreat
