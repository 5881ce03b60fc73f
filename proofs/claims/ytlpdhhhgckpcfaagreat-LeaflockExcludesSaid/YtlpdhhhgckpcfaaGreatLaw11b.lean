
/- The walk of DescentLevels. -/
import Derived.Test.YtlpdhhhgckpcfaaGreatLaw11a
import Derived.Test.YtlpdhhhgckpcfaaGreatTreeB
namespace Go.Proofs.YtlpdhhhgckpcfaaGreat
open Go.RowKit
set_option maxRecDepth 100000
theorem rows_ge : ∀ t : List (List Nd), (∀ l, l ∈ t → 0 < l.length) → t.length ≤ (t.map List.length).sum
  | [], _ => Nat.le_refl _
  | l :: t, h => by
    have := rows_ge t (fun x hx => h x (List.mem_cons_of_mem _ hx))
    have := h l List.mem_cons_self
    simp only [List.length_cons, List.map_cons, List.sum_cons]
    omega
theorem TreeOk.tall {d : Cfg} {L : List Cel} {t : List (List Nd)} (ht : TreeOk d L t) (hd : d.Ok) : t.length ≤ 4096 := by
  refine Nat.le_trans (rows_ge t fun l hl => ?_) (by have := ht.count; have := ht.n4; have := hd.no2; omega)
  obtain ⟨k, hk⟩ := List.getElem?_of_mem hl
  exact (ht.rows k l hk).ne
/-- The number of levels of a tree. -/
theorem treeHeight_st {K : Know} {w : World} {F : List Comp} {d : Cfg} {L : List Cel} {t : List (List Nd)} {g : Nat} (hd : d.Ok) (ht : TreeOk d L t) (hl : (L.length : Int) = d.cells) (hg : K.map g = some (.cells (flat L).toArray 63)) (hs : St K w F) :
    Calls Tryz.prog 26 #[.agg #[.int .i64 (d).th, .int .i64 (d).sn, .int .i64 (d).no, .int .i64 (d).ch, .int .i64 (d).re, .int .i64 (d).fa, .int .u64 (d).cl, .slice (some ⟨g, 0, none⟩) L.length L.length]] w fun e w' => e = .returned (.int .i64 t.length) ∧ St K w' F := by
  have h4 := hd.cells_bd
  have hT := ht.tall hd
  have h0 := ht.ne
  obtain ⟨nd, rest, h1, h2⟩ := ht.top
  have hn := ht.nodes _ _ h1 nd List.mem_cons_self
  have hlev := (ht.rows _ _ h1).lev nd List.mem_cons_self
  refine (viewHeight_st (pg := nd.pg) hd (by rw [h2]; exact hn.id.1) (by rw [h2]; exact hn.id.2) (by rw [h2]; exact hn.page) (by omega) hg (by omega) hs).mono ?_
  rintro e w' ⟨rfl, hs'⟩
  refine ⟨?_, hs'⟩
  rw [show nd.pg.lev + 1 = (t.length : Int) by omega]
end Go.Proofs.YtlpdhhhgckpcfaaGreat
