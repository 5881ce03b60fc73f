/- append of a whole slice, as a part of a world (for every seat). -/
import Derived.Test.YtfgjanponijkhaaMemSt
namespace Go.Proofs.Ytfgjanponijkhaa
open Go.RowKit
set_option maxRecDepth 100000

theorem run_append_none {P : Program} (w : World) (t ty e : TypeId) (i : TypeInfo) (ht : P.underlying t = some (.slice e)) (hi : P.info? e = some i) (b : Option Addr) (n cap c : Nat) (h : n ≤ cap) :
    (Builtin.append_ #[t, t] ty #[.slice b n cap, .slice none 0 c]).run P w = .ok (.slice b n cap) w := by
  cases b <;> simp [Builtin.append_, run_underlying ht, sizeOf, typeInfo, hi, Builtin.lenOf, Builtin.firstCells, h, storeCells]

section
variable {K : Know} {w : World} {F : List Comp}

/-- A literal's block is a row. -/
theorem St.row_lit {b n size : Nat} {xs : List Value} {T : TypeId} (h : St K w (blk b (.cells xs.toArray T) :: F)) (hl : xs.length = n * size) (hn : n ≤ maxLen) : St K w (rowC (.slice (some ⟨b, 0, none⟩) n n) T size n xs :: F) := by
  refine h.chg1 (c' := rowC (.slice (some ⟨b, 0, none⟩) n n) T size n xs) (Chg.refl _ _) ⟨hl, .inr ⟨b, n, xs.toArray, rfl, Nat.zero_le _, h.head, Nat.le_refl _, hn, by simpa using hl, ?_⟩⟩ (by simp [rowC, blk, Value.ownBlock])
  rw [← hl]; simp

/-- append(s, x...). -/
theorem append_row_st {ops : Array Oper} {rest : List Oper} {o : Oper} {a : Act} {Q : Exit → Act → World → Prop} (s x : Operand) (t e : TypeId) (v : Value) (n m c size bytes : Nat) (xs news : List Value) (z : Value) (i : TypeInfo) (ao : Option Addr)
    (hs : St K w (rowC v e size n xs :: F))
    (hgd : o.guard = none) (ho : o.op = .call { callee := .builtin .append, args := #[s, x], argTypes := #[t, t] })
    (ht : Try.prog.underlying t = some (.slice e)) (hi : Try.prog.info? e = some i) (hz : i.zero = some z) (hsize : i.size = size) (hby : i.bytes = bytes) (hzs : z.cells.size = size) (hsz : 0 < size)
    (hes : a.eval s = v) (hx : a.eval x = .slice ao m c) (hl : news.length = m * size) (h0 : ao = none → m = 0)
    (hnews : ∀ j u, news[j]? = some u → ∃ g off, ao = some ⟨g, off, none⟩ ∧ w.cell? ⟨g, off + j, none⟩ = some u) (h1 : ∀ u, u ∈ news → u.oneCell' = true)
    (h63 : n + m ≤ 1099511627776) (hb64 : bytes ≤ 64)
    (h : ∀ v' w', St K w' (rowC v' e size (n + m) (xs ++ news) :: F) → wpList Try.prog ops Q rest (a.put o.dst v') w') : wpList Try.prog ops Q (o :: rest) a w := by
  have hbytes : (n + m) * bytes ≤ 140737488355328 := by
    calc (n + m) * bytes ≤ 1099511627776 * 64 := Nat.mul_le_mul h63 hb64
      _ ≤ 140737488355328 := by decide
  have key : ∃ v' w', (Builtin.append_ #[t, t] o.type #[v, .slice ao m c]).run Try.prog w = .ok v' w' ∧ St K w' (rowC v' e size (n + m) (xs ++ news) :: F) := by
    rcases Nat.eq_zero_or_pos m with hm | hm
    · subst hm
      have hnil : news = [] := List.eq_nil_of_length_eq_zero (by simpa using hl)
      subst hnil
      obtain ⟨a', cap', rfl, hle, _⟩ := hs.row_read
      refine ⟨.slice a' n cap', w, ?_, by simpa using hs⟩
      cases ao with
      | none => exact run_append_none w t o.type e i ht hi a' n cap' c hle
      | some ad => cases a' <;> simp [Builtin.append_, run_underlying ht, sizeOf, typeInfo, hi, Builtin.lenOf, Builtin.firstCells, hle, storeCells, loadCells, loadCellsFrom]
    · have hm0 : ao ≠ none := fun e => by have := h0 e; omega
      obtain ⟨ad, rfl⟩ := Option.ne_none_iff_exists'.1 hm0
      obtain ⟨v', w', hr, h2, hg, h4, h5⟩ := run_append_own_at (P := Try.prog) w 0 t o.type e i z size bytes ht hi hz hsize hby hzs hsz v n xs hs.head ad m c news hl (fun j u hu => by
        obtain ⟨g, off, e, hc⟩ := hnews j u hu
        simp only [Option.some.injEq] at e
        subst e
        have : (⟨g, off, none⟩ : Addr).add j = ⟨g, off + j, none⟩ := by
          unfold Addr.add
          split
          · rename_i h; rw [h]; rfl
          · rfl
        rw [this]; exact hc) h1 (by unfold maxLen; omega) hbytes (Nat.zero_le _)
      refine ⟨v', w', hr, ?_⟩
      refine St.chg (ms := [rowC v e size n xs]) (ms' := [rowC v' e size (n + m) (xs ++ news)]) (F := F) hs ⟨hg.os, hg.tape, hg.output, hg.size, fun k hk hn => hg.block k hk (fun e => hn ?_)⟩ (fun c hc => ?_) (fun b hb => ?_) ?_
      · simp [feet, rowC, ← e]
      · simp at hc; subst hc; exact h2
      · have hb' : b ∈ v'.ownBlock.toList := by simpa [feet, rowC] using hb
        rcases h5 with h5 | h5
        · left; rw [h5] at hb'; simpa [feet, rowC] using hb'
        · rw [h5] at hb'; simp at hb'; subst hb'; exact .inr (by simp)
      · show (feet [rowC v' e size (n + m) (xs ++ news)]).Nodup
        simp only [feet, List.flatMap_cons, List.flatMap_nil, List.append_nil, rowC]
        cases v'.ownBlock <;> simp
  obtain ⟨v', w', hr, hs'⟩ := key
  refine wpList_plain hgd fun K hK => ?_
  unfold Oper.wp execOp
  simp only [ho, resolve, invoke, builtin, Sem.run_bind, Sem.run_pure, Result.andThen_ok, List.map_toArray, List.map_cons, List.map_nil, hes, hx, hr]
  exact hK _ _ (h v' w' hs')
end
end Go.Proofs.Ytfgjanponijkhaa
