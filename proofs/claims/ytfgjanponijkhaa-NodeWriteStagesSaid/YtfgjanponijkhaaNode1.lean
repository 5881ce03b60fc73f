/- The reader of a node (package node): the copier's state functions, for any machine that begins with a position and a copier. -/
import Derived.Test.YtfgjanponijkhaaMemSt
import Derived.Test.YtfgjanponijkhaaLatch
import Derived.Test.YtfgjanponijkhaaTail2
import Derived.Test.YtfgjanponijkhaaRun
import Derived.Deep.RegionWith
namespace Go.Proofs.Ytfgjanponijkhaa
open Go.RowKit
set_option maxRecDepth 100000

/-- A slot and a page as values. -/
structure Sl where
  k : ByteArray
  r : Int
structure Pg where
  lev : Int
  sl : List Sl
  hi : ByteArray
  la : Bool
  ri : Int
def slCells (s : Sl) : List Value := [.string s.k, .int .u64 s.r]
def slRow (l : List Sl) : List Value := l.flatMap slCells
theorem slRow_length (l : List Sl) : (slRow l).length = l.length * 2 := by
  induction l with
  | nil => rfl
  | cons s l ih => rw [show slRow (s :: l) = slCells s ++ slRow l from rfl, List.length_append, ih]; simp [slCells]; omega
/-- The cells of a reader: its position, its copier (the layout, the node, the page, what is left, what follows), the word. -/
def rdCells (nx : Value) (d : Cfg) (id : Int) (pg : Pg) (va : Value) (left : Nat) (th : Value) (word : Int) : List Value :=
  [nx, .bool true, .int .i64 d.th, .int .i64 d.sn, .int .i64 d.no, .int .i64 d.ch, .int .i64 d.re, .int .i64 d.fa, .int .u64 d.cl, .int .u64 id, .int .i64 pg.lev, va, .string pg.hi, .bool pg.la, .int .u64 pg.ri, .int .i64 left, th, .int .u64 word]

theorem infoSlot : (Try.prog.info? 132).map (fun i => (i.zero, i.size, i.bytes)) = some (some (.agg #[.string ⟨#[]⟩, .int .u64 0]), 2, 24) := by kernel_rfl
theorem field_cfg5 (v0 v1 v2 v3 v4 v5 v6 : Value) (w : World) : (Instr.field 27 (.agg #[v0, v1, v2, v3, v4, v5, v6]) 5).run Try.prog w = .ok v5 w := by kernel_rfl
attribute [go_sem] field_cfg5

section
variable {K : Know} {w : World} {F : List Comp} {b bm bc : Nat} {L : List Cel} {acc : Nat} {nx va : Value} {d : Cfg} {id : Int} {pg : Pg} {left : Nat} {th : Option FV} {word : Int} {T : TypeId}

/-- What follows the copy of a slot. -/
def moreV (b left : Nat) (th : Option FV) : Option FV := if left = 0 then th else some ⟨205, #[.pointer (some ⟨b, 2, none⟩)], #[]⟩
theorem more_st (hs : St K w (blk b (.cells (rdCells nx d id pg va left (stV th) word).toArray T) :: F)) :
    Calls Try.prog 204 #[.pointer (some ⟨b, 2, none⟩)] w fun e w' => e = .returned (stV (moreV b left th)) ∧ St K w' (blk b (.cells (rdCells nx d id pg va left (stV th) word).toArray T) :: F) := by
  have k := hs.k0
  unfold rdCells at k
  by_cases h : left = 0
  · have e : moreV b left th = th := by unfold moreV; rw [if_pos h]
    rw [e]
    have h' : ((left : Int) == 0) = true := by simp [h]
    clear h e
    cases th with
    | none =>
      go_enter Try.func204, Try.ntmps204
      go_wp2
      exact bodyPost_ret (v := stV none) (results_tmp (fn := Try.f204) (t := 2) rfl _ _ _) rfl ⟨rfl, hs⟩
    | some s =>
      obtain ⟨f, x, y⟩ := s
      have k : ∀ (k : Nat), w.cell? ⟨b, k, none⟩ = #[nx, .bool true, .int .i64 d.th, .int .i64 d.sn, .int .i64 d.no, .int .i64 d.ch, .int .i64 d.re, .int .i64 d.fa, .int .u64 d.cl, .int .u64 id, .int .i64 pg.lev, va, .string pg.hi, .bool pg.la, .int .u64 pg.ri, .int .i64 left, .func (.func f) x y, .int .u64 word][k]? := k
      go_enter Try.func204, Try.ntmps204
      go_wp2
      exact bodyPost_ret (v := .func (.func f) x y) (results_tmp (fn := Try.f204) (t := 2) rfl _ _ _) rfl ⟨rfl, hs⟩
  · have e : moreV b left th = some ⟨205, #[.pointer (some ⟨b, 2, none⟩)], #[]⟩ := by unfold moreV; rw [if_neg h]
    rw [e]
    have h' : (left == 0) = false := by simpa using h
    have h2 : ((left : Int) == 0) = false := by simp; omega
    clear h e
    go_enter Try.func204, Try.ntmps204
    go_wp2
    go_ret
    exact ⟨rfl, hs⟩

theorem begin_st {tv : Value} (hs : St K w (blk b (.cells (rdCells nx d id pg va left tv word).toArray T) :: F)) :
    Calls Try.prog 126 #[.pointer (some ⟨b, 2, none⟩), stV th] w fun e w' => e = .returned (.func (.func 164) #[.pointer (some ⟨b, 2, none⟩)] #[]) ∧ St K w' (blk b (.cells (rdCells nx d id pg va left (stV th) word).toArray T) :: F) := by
  have k := hs.k0
  have kf := hs.f0
  unfold rdCells at k
  cases th with
  | none =>
    have hs := hs.setL 16 .nilFunc
    simp only [rdCells, List.set_cons_zero, List.set_cons_succ] at hs
    have q : Calls Try.prog 126 #[.pointer (some ⟨b, 2, none⟩), .nilFunc] w fun e w' => e = .returned (.func (.func 164) #[.pointer (some ⟨b, 2, none⟩)] #[]) ∧ St K w' (blk b (.cells (rdCells nx d id pg va left .nilFunc word).toArray T) :: F) := by
      go_enter Try.func126, Try.ntmps126
      go_wp2
      go_ret
      exact ⟨rfl, hs⟩
    exact q
  | some s =>
    obtain ⟨f, x, y⟩ := s
    have hs := hs.setL 16 (.func (.func f) x y)
    simp only [rdCells, List.set_cons_zero, List.set_cons_succ] at hs
    have q : Calls Try.prog 126 #[.pointer (some ⟨b, 2, none⟩), .func (.func f) x y] w fun e w' => e = .returned (.func (.func 164) #[.pointer (some ⟨b, 2, none⟩)] #[]) ∧ St K w' (blk b (.cells (rdCells nx d id pg va left (.func (.func f) x y) word).toArray T) :: F) := by
      go_enter Try.func126, Try.ntmps126
      go_wp2
      go_ret
      exact ⟨rfl, hs⟩
    exact q

end
end Go.Proofs.Ytfgjanponijkhaa
