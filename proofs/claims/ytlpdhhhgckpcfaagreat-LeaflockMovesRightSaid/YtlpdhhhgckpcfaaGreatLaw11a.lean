
/- The laws of layer 11: a step of Find in a tree; tree. awake of layer 11. -/
import Derived.Test.YtlpdhhhgckpcfaaGreatFindLaw
import Derived.Test.YtlpdhhhgckpcfaaGreatFindA
import Derived.Test.YtlpdhhhgckpcfaaGreatPlant
import Derived.Test.YtlpdhhhgckpcfaaGreatViewA
namespace Go.Proofs.YtlpdhhhgckpcfaaGreat
open Go.RowKit
set_option maxRecDepth 100000
section
variable {K : Know} {w : World} {F : List Comp} {b bm bc : Nat} {d : Cfg} {L : List Cel} {acc : Nat} {key : ByteArray} {level : Nat} {s : FdS} {t : List (List Nd)} {m : Nat}
/-- Find, in a world. -/
def FdOn (K : Know) (b bm bc : Nat) (d : Cfg) (L : List Cel) (key : ByteArray) (level : Nat) (F : List Comp) (s : FdS) (acc : Nat) (w : World) : Prop :=
  ∃ (x : VisB × Value × Value), St K w (fdL b (stV (fdPv b x.1 s.pc)) x.1 x.2.1 x.2.2 d key level s ++ memC bm bc L acc :: F)
theorem FdOn.start (hs : ∀ B, St K w (fdL b (stV (some (rootFV b))) B (.slice none 0 0) (.slice none 0 0) d key level fd0 ++ memC bm bc L acc :: F)) : FdOn K b bm bc d L key level F fd0 acc w :=
  ⟨(⟨0, 0, 0, 0, 0, 0⟩, .slice none 0 0, .slice none 0 0), hs _⟩
theorem FdInv.done (h : FdInv d L t key level s m) (h2 : 2 ≤ s.pc) : s.pc = 2 ∧ FdRes t key level s := by
  rcases h with ⟨h, _⟩ | ⟨h, _⟩ | ⟨h, r⟩
  · omega
  · omega
  · exact ⟨h, r⟩
end

theorem start_zero {d : Cfg} (hd : d.Ok) (j : Int) (h : RestC d j) : getC (startL d) j = Cel.zero := by
  have hf := hd.fa1
  have hA := hd.A_bd
  have hB := hd.B_bd
  have hl := (start_cells d hd).2.2 j (by rcases h with h | h <;> omega)
  rw [hl, if_neg (h.node hd (by omega) hd.no1 (by omega) (by omega)), if_neg (by rcases h with h | h <;> omega), if_neg (by rcases h with h | h <;> omega)]
theorem start_lat {d : Cfg} (hd : d.Ok) (id : Int) (h1 : 1 ≤ id) (h2 : id ≤ d.no) : getC (startL d) (d.node id 0) = Cel.zero := by
  have hf := hd.fa1
  have n0 := node_in hd h1 h2 (k := 0) (by omega) (by omega)
  have hA := hd.A_bd
  have m3 : 0 ≤ (id - 1) * (d.fa + 4) := Int.mul_nonneg (by omega) (by omega)
  have hl := (start_cells d hd).2.2 (d.node id 0) n0.2.1
  rw [hl]
  split
  · rename_i h
    exfalso
    by_cases e : id = 1
    · subst e; exact node_ne hd h1 h2 (k := 0) (k' := 2) (by omega) (by omega) (by omega) (by omega) (by omega) h
    · exact node_apart hd h1 h2 (by omega) hd.no1 (k := 0) (k' := 2) (by omega) (by omega) (by omega) (by omega) e h
  · split
    · omega
    · split
      · omega
      · rfl
section
variable {w0 w : World} {F : List Comp} {a : Option Addr} {len cap : Nat} {f : Nat → ByteArray} {fanout sh : Int} {hide : Bool}
end
end Go.Proofs.YtlpdhhhgckpcfaaGreat

namespace Go.Proofs.YtlpdhhhgckpcfaaGreat
open Go.RowKit
set_option maxRecDepth 100000
/-- The only node of a new memory. -/
def nd1 : Nd := ⟨1, ⟨#[]⟩, ⟨0, [], ⟨#[]⟩, true, 0⟩⟩
theorem start_holds {d : Cfg} (hd : d.Ok) : Holds (startL d) (pgPts d nd1.id nd1.pg) := by
  have f1 := hd.fa1
  have n1 := hd.no1
  have hA := hd.A_bd
  intro q hq
  have hz : ∀ k : Int, 0 ≤ k → k < d.fa + 4 → k ≠ 2 → getC (startL d) (d.node 1 k) = Cel.zero := fun k k0 k1 k2 => by
    have h := node_in hd (id := 1) (by omega) n1 k0 k1
    rw [(start_cells d hd).2.2 _ h.2.1, if_neg (node_ne hd (by omega) n1 k0 k1 (by omega) (by omega) k2), if_neg (by omega), if_neg (by omega)]
  have h2 : getC (startL d) (d.node 1 2) = ⟨0, ⟨#[]⟩, 1⟩ := by
    have h := node_in hd (id := 1) (by omega) n1 (k := 2) (by omega) (by omega)
    rw [(start_cells d hd).2.2 _ h.2.1, if_pos rfl]
  have e : pgPts d nd1.id nd1.pg = [⟨d.node 1 2, ⟨0, ⟨#[]⟩, 1⟩⟩, ⟨d.node 1 3, ⟨0, ⟨#[]⟩, 0⟩⟩, ⟨d.node 1 1, ⟨0, ⟨#[]⟩, 0⟩⟩] := rfl
  rw [e] at hq
  simp only [List.mem_cons, List.not_mem_nil, or_false] at hq
  rcases hq with rfl | rfl | rfl
  · exact h2
  · exact hz 3 (by omega) (by omega) (by omega)
  · exact hz 1 (by omega) (by omega) (by omega)
theorem start_tree {d : Cfg} (hd : d.Ok) : TreeOk d (startL d) [[nd1]] := by
  obtain ⟨p1, p2, _, _⟩ := start_page hd
  have h10 := (start_cells d hd).2.1
  have h0 := (start_cells d hd).2.2 0 (by omega)
  have h4 := (start_cells d hd).2.2 4 (by omega)
  rw [if_neg (by omega), if_neg (by omega), if_pos rfl] at h0
  rw [if_neg (by omega), if_pos rfl] at h4
  have hn := hd.no1
  have one : ∀ (k : Nat) (l : List Nd), ([[nd1]] : List (List Nd))[k]? = some l → k = 0 ∧ l = [nd1] := fun k l h => by
    cases k with
    | zero => simp at h; exact ⟨rfl, h.symm⟩
    | succ n => simp at h
  have two : ∀ (i : Nat) (a : Nd), ([nd1] : List Nd)[i]? = some a → i = 0 ∧ a = nd1 := fun k l h => by
    cases k with
    | zero => simp at h; exact ⟨rfl, h.symm⟩
    | succ n => simp at h
  refine ⟨by simp, fun k l h => ?_, fun k l h nd hm => ?_, ⟨nd1, [], rfl, by rw [h0]; rfl⟩, fun k l l' h h' => ?_, by rw [h4]; simp, by rw [h4]; exact hn, fun k l h nd hm => ?_⟩
  · obtain ⟨rfl, rfl⟩ := one k l h
    refine ⟨by simp, fun nd hm => ?_, fun nd h => ?_, fun i a b ha hb => ?_, fun i a ha _ => ?_⟩
    · simp at hm; subst hm; rfl
    · obtain ⟨_, rfl⟩ := two _ _ h; rfl
    · obtain ⟨h1, _⟩ := two _ _ hb; omega
    · obtain ⟨_, rfl⟩ := two _ _ ha; exact ⟨rfl, rfl, rfl⟩
  · obtain ⟨rfl, rfl⟩ := one k l h
    simp at hm; subst hm
    exact ⟨⟨by show (1 : Int) ≤ 1; omega, hn⟩, p1, start_holds hd, by rw [show nd1.id = 1 from rfl, p2]; exact LatFree.zero, List.Pairwise.nil, fun s h => (by cases h), fun s h => (by cases h)⟩
  · obtain ⟨rfl, rfl⟩ := one k l h
    obtain ⟨h1, _⟩ := one _ _ h'; omega
  · obtain ⟨rfl, rfl⟩ := one k l h
    simp at hm; subst hm
    rw [h4]; exact Int.le_refl _
section
variable {K : Know} {w : World} {cs : List Comp}
end
end Go.Proofs.YtlpdhhhgckpcfaaGreat
