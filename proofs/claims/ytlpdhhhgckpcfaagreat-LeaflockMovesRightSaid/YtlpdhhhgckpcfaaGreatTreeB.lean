
/- blinktreekit.Keys: the keys of raw ones, in ascending order. A slice of strings that came in, as a function of the index. blinktreekit.Keys: the whole. blinktreekit.group: how slots are divided into nodes. Trees as lists of nodes: a row of a level, what is planted. What is planted is a row. The memory in which a row has been planted. Planting level by level. Planting: what is known between two levels, and at the end. The nodes of a tree that cover one key are nested. -/
import Derived.Test.YtlpdhhhgckpcfaaGreatKeys
import Derived.Test.YtlpdhhhgckpcfaaGreatPageA
import Derived.Test.YtlpdhhhgckpcfaaGreatNodeB
import Derived.Test.YtlpdhhhgckpcfaaGreatNodeLawB
import Derived.Test.YtlpdhhhgckpcfaaGreatNodeW
namespace Go.Proofs.YtlpdhhhgckpcfaaGreat
open Go.RowKit
set_option maxRecDepth 100000

def enCells (k : ByteArray) : List Value := [.string k, .string ⟨#[]⟩]
def enRow (l : List ByteArray) : List Value := l.flatMap enCells
theorem enRow_at (l : List ByteArray) : ∀ (i : Nat) (s : ByteArray), l[i]? = some s → (enRow l)[i * 2]? = some (.string s) ∧ (enRow l)[i * 2 + 1]? = some (.string ⟨#[]⟩) := by
  induction l with
  | nil => intro i s h; simp at h
  | cons a l ih =>
    intro i s h
    have e : enRow (a :: l) = .string a :: .string ⟨#[]⟩ :: enRow l := rfl
    rw [e]
    cases i with
    | zero => simp at h; subst h; exact ⟨rfl, rfl⟩
    | succ i =>
      have := ih i s (by simpa using h)
      rw [show (i + 1) * 2 = i * 2 + 2 by omega]
      simpa using this
theorem enRow_push (l : List ByteArray) (k : ByteArray) : enRow (l ++ [k]) = enRow l ++ enCells k := by simp [enRow]
def AscK (l : List ByteArray) : Prop := l.Pairwise fun x y => klt x y = true
theorem infoEntry : (Tryz.prog.info? 119).map (fun i => (i.zero, i.size, i.bytes)) = some (some (.agg #[.string ⟨#[]⟩, .string ⟨#[]⟩]), 2, 32) := by kernel_rfl
theorem infoString : (Tryz.prog.info? 9).map (fun i => (i.zero, i.size, i.bytes)) = some (some (.string ⟨#[]⟩), 1, 16) := by kernel_rfl

/-- Put, in the middle: i elements have been looked at. -/
structure PutI (ks : List ByteArray) (key : ByteArray) (i : Nat) (b : Bool) (out : List ByteArray) : Prop where
  before : b = false → ∀ x, x ∈ out → klt x key = true
  asc : AscK out
  later : ∀ x, x ∈ out → ∀ (j : Nat) (y : ByteArray), i ≤ j → ks[j]? = some y → y ≠ key → klt x y = true
  len : out.length ≤ i + (if b then 1 else 0)
  mem : ∀ x, x ∈ out → x = key ∨ x ∈ ks
theorem asc_push {out : List ByteArray} {y : ByteArray} (h : AscK out) (hy : ∀ x, x ∈ out → klt x y = true) : AscK (out ++ [y]) := by
  refine List.pairwise_append.2 ⟨h, List.pairwise_singleton _ _, fun x hx z hz => ?_⟩
  simp at hz; subst hz
  exact hy x hx
theorem asc_at {ks : List ByteArray} (h : AscK ks) {i j : Nat} {x y : ByteArray} (hx : ks[i]? = some x) (hy : ks[j]? = some y) (hij : i < j) : klt x y = true := by
  have := List.pairwise_iff_getElem.1 h i j (List.getElem?_eq_some_iff.1 hx).1 (List.getElem?_eq_some_iff.1 hy).1 hij
  rwa [(List.getElem?_eq_some_iff.1 hx).2, (List.getElem?_eq_some_iff.1 hy).2] at this
section
variable {ks : List ByteArray} {key : ByteArray} {i : Nat} {out : List ByteArray}
theorem PutI.start : PutI ks key 0 false [] := ⟨fun _ x h => (by cases h), List.Pairwise.nil, fun x h => (by cases h), by simp, fun x h => (by cases h)⟩
/-- The key itself comes ahead of an element that is not less. -/
theorem PutI.own (h : PutI ks key i false out) (hk : AscK ks) {y : ByteArray} (hy : ks[i]? = some y) (hle : klt y key = false) : PutI ks key i true (out ++ [key]) := by
  refine ⟨fun e => (by cases e), asc_push h.asc (h.before rfl), fun x hx j z hj hz hne => ?_, by have := h.len; simp at this ⊢; omega, fun x hx => ?_⟩
  · rcases List.mem_append.1 hx with hx | hx
    · exact h.later x hx j z hj hz hne
    · simp at hx; subst hx
      cases e : klt x z with
      | true => rfl
      | false =>
        have hzx : klt z x = false := by
          rcases Nat.eq_or_lt_of_le hj with rfl | hlt
          · rw [hy] at hz; cases hz; exact hle
          · cases e2 : klt z x with
            | false => rfl
            | true => have := klt_trans (asc_at hk hy hz hlt) e2; rw [hle] at this; cases this
        exact absurd (klt_total hzx e) hne
  · rcases List.mem_append.1 hx with hx | hx
    · exact h.mem x hx
    · simp at hx; exact .inl hx
/-- An element other than the key. -/
theorem PutI.elem {b : Bool} (h : PutI ks key i b out) (hk : AscK ks) {y : ByteArray} (hy : ks[i]? = some y) (hne : y ≠ key) (hb : b = false → klt y key = true) : PutI ks key (i + 1) b (out ++ [y]) := by
  refine ⟨fun e x hx => ?_, asc_push h.asc (fun x hx => h.later x hx i y (Nat.le_refl _) hy hne), fun x hx j z hj hz hnz => ?_, by have := h.len; simp at this ⊢; omega, fun x hx => ?_⟩
  · rcases List.mem_append.1 hx with hx | hx
    · exact h.before e x hx
    · simp at hx; subst hx; exact hb e
  · rcases List.mem_append.1 hx with hx | hx
    · exact h.later x hx j z (by omega) hz hnz
    · simp at hx; subst hx; exact asc_at hk hy hz (by omega)
  · rcases List.mem_append.1 hx with hx | hx
    · exact h.mem x hx
    · simp at hx; subst hx; exact .inr (List.mem_of_getElem? hy)
/-- The key's old place. -/
theorem PutI.skip {b : Bool} (h : PutI ks key i b out) : PutI ks key (i + 1) b out :=
  ⟨h.before, h.asc, fun x hx j z hj hz hne => h.later x hx j z (by omega) hz hne, by have := h.len; omega, h.mem⟩
theorem PutI.last (h : PutI ks key i false out) : AscK (out ++ [key]) ∧ (out ++ [key]).length ≤ i + 1 ∧ ∀ x, x ∈ out ++ [key] → x = key ∨ x ∈ ks := by
  refine ⟨asc_push h.asc (h.before rfl), by have := h.len; simp at this ⊢; omega, fun x hx => ?_⟩
  rcases List.mem_append.1 hx with hx | hx
  · exact h.mem x hx
  · simp at hx; exact .inl hx
end

section
variable {K : Know} {w : World} {F : List Comp} {ks : List ByteArray} {key : ByteArray} {v : Value}
set_option maxHeartbeats 8000000 in
theorem put15_st (hk : AscK ks) (hlen : ks.length ≤ 1000) (hs : St K w (rowC v 119 2 ks.length (enRow ks) :: F)) :
    Calls Tryz.prog 72 #[v, .agg #[.string key, .string ⟨#[]⟩]] w fun e w' => ∃ (v' : Value) (ks' : List ByteArray), e = .returned v' ∧ Hid (AscK ks' ∧ ks'.length ≤ ks.length + 1 ∧ ∀ x, x ∈ ks' → x = key ∨ x ∈ ks) ∧ St K w' (rowC v' 119 2 ks'.length (enRow ks') :: rowC v 119 2 ks.length (enRow ks) :: F) := by
  obtain ⟨a, cap, rfl, _, _⟩ := hs.row_read
  obtain ⟨n, hn⟩ : ∃ n, n = ks.length := ⟨_, rfl⟩
  have hs := hs.made (.cells #[.string key, .string ⟨#[]⟩] 119)
  have Hk := Lib.hid hk
  have Hn := Lib.hid hn
  rw [← hn] at hlen hs ⊢
  obtain ⟨iv, hiv0, hiv1, hiv2, hiv3⟩ := info_parts infoEntry
  have Hi0 := Lib.hid hiv0
  have Hi1 := Lib.hid hiv1
  have Hi2 := Lib.hid hiv2
  have Hi3 := Lib.hid hiv3
  clear hiv0 hiv1 hiv2 hiv3 hk hn
  obtain ⟨bx, hbx⟩ : ∃ bx, bx = w.heap.size := ⟨_, rfl⟩
  have hs := hs.row_nil (T := 119) (size := 2)
  go_enter Tryz.func72, Tryz.ntmps72
  go_wp2
  rw [← hbx] at hs ⊢
  clear hbx
  go_loopw [5, 6, 7] (fun v5 v6 v7 wr => ∃ (i : Nat) (b : Bool) (out : List ByteArray) (ao : Option Addr) (co : Nat), v5 = .slice ao out.length co ∧ v6 = .bool b ∧ v7 = .int .i64 i ∧ i ≤ n ∧ Hid (PutI ks key i b out) ∧
    St K wr (rowC (.slice ao out.length co) 119 2 out.length (enRow out) :: blk bx (.cells #[.string key, .string ⟨#[]⟩] 119) :: rowC (.slice a n cap) 119 2 n (enRow ks) :: F)) (fun _ _ v7 _ => n - (intOf v7).toNat)
  case atStart => exact ⟨0, false, [], none, 0, rfl, rfl, rfl, by omega, Lib.hid PutI.start, hs⟩
  case round =>
    clear hs
    obtain ⟨i, b, out, ao, co, rfl, rfl, rfl, hi, HP, hs⟩ := hrel
    have hol : out.length ≤ 1001 := by have := HP.out.len; split at this <;> omega
    by_cases hin : i < n
    · obtain ⟨y, hy⟩ : ∃ y, ks[i]? = some y := ⟨_, List.getElem?_eq_getElem (by have := Hn.out; omega)⟩
      obtain ⟨r0, r1⟩ := enRow_at ks i y hy
      obtain ⟨g, rfl, c0⟩ := hs.b2.row_at r0
      obtain ⟨g1, e1, c1⟩ := hs.b2.row_at r1
      obtain rfl : g1 = g := by simpa using e1.symm
      clear e1 r0 r1
      have kx := hs.k1
      have Hy := Lib.hid hy
      clear hy
      go_upto_region 6 with (fail)
      go_cut [25] (fun v25 wx => v25 = .bool (!b && !klt y key) ∧ St K wx (rowC (.slice ao out.length co) 119 2 out.length (enRow out) :: blk bx (.cells #[.string key, .string ⟨#[]⟩] 119) :: rowC (.slice (some ⟨g1, 0, none⟩) n cap) 119 2 n (enRow ks) :: F))
      case first =>
        as_aux_lemma =>
        refine region_pure (by kernel_rfl) (by kernel_rfl) ?_
        cases b with
        | true =>
          repeat (go_big_quiet_step (fail))
          refine wpQuiet_nil ?_
          intro w2 hb2
          have hs := hs.same hb2
          clear kx c0 c1 hb2
          go_wp2
          go_meet
          exact ⟨rfl, hs⟩
        | false =>
          repeat (go_big_quiet_step (fail))
          refine wpQuiet_nil ?_
          intro w2 hb2
          have hs := hs.same hb2
          clear kx c0 c1 hb2
          go_wp2
          go_meet
          exact ⟨rfl, hs⟩
      case rest =>
        clear hs kx c0 c1
        obtain ⟨rfl, hs⟩ := hcut
        apply_assumption
        go_cut [5, 6] (fun v5 v6 wx => ∃ (b' : Bool) (out' : List ByteArray) (ao' : Option Addr) (co' : Nat), v5 = .slice ao' out'.length co' ∧ v6 = .bool b' ∧ Hid (PutI ks key i b' out' ∧ (b' = false → klt y key = true)) ∧
          St K wx (rowC (.slice ao' out'.length co') 119 2 out'.length (enRow out') :: blk bx (.cells #[.string key, .string ⟨#[]⟩] 119) :: rowC (.slice (some ⟨g1, 0, none⟩) n cap) 119 2 n (enRow ks) :: F))
        case first =>
          as_aux_lemma =>
          cases hc : (!b && !klt y key) with
          | true =>
            obtain ⟨rfl, hle⟩ : b = false ∧ klt y key = false := by cases b <;> simp_all
            have Hle := Lib.hid hle
            have kx := hs.k1
            clear hc hle
            go_wp2_with (at_builtin; refine append_st _ _ 116 119 _ out.length 2 32 _ [.string key, .string ⟨#[]⟩] (.agg #[.string ⟨#[]⟩, .string ⟨#[]⟩]) iv hs rfl rfl Tryz.underlying116 Hi0.out Hi1.out Hi2.out Hi3.out rfl (by decide) rfl rfl rfl (fun u hu => by simp at hu; rcases hu with rfl | rfl <;> rfl) (by omega) (by decide) ?_)
            clear hs kx
            intro v' w' hs
            obtain ⟨ao', co', hv, _, _⟩ := hs.row_read
            subst hv
            go_wp2
            go_meet
            exact ⟨true, out ++ [key], ao', co', by rw [List.length_append]; rfl, rfl, Lib.hid ⟨HP.out.own Hk.out Hy.out Hle.out, fun e => (by cases e)⟩, by rw [enRow_push, List.length_append]; exact hs⟩
          | false =>
            have Hc := Lib.hid hc
            clear hc
            go_wp2
            go_meet
            exact ⟨b, out, ao, co, rfl, rfl, Lib.hid ⟨HP.out, fun e => by have := Hc.out; subst e; simpa using this⟩, hs⟩
        case rest =>
          clear hs
          obtain ⟨b', out', ao', co', rfl, rfl, HP', hs⟩ := hcut
          have hol' : out'.length ≤ 1001 := by have := HP'.out.1.len; split at this <;> omega
          obtain ⟨r0, r1⟩ := enRow_at ks i y Hy.out
          have c0 := hs.b2.row_cell r0
          have c1 := hs.b2.row_cell r1
          have kx := hs.k1
          clear r0 r1 HP
          go_upto_region 9 with (fail)
          refine region_pure (by kernel_rfl) (by kernel_rfl) ?_
          repeat (go_big_quiet_step (fail))
          refine wpQuiet_nil ?_
          intro w2 hb2
          have hs := hs.same hb2
          clear kx c0 c1 hb2
          by_cases hyk : y = key
          · obtain rfl := hyk
            have he : (y.toList == y.toList) = true := beq_self_eq_true _
            rw [he]
            go_wp2
            go_roundw
            case rel => exact ⟨i + 1, b', out', ao', co', rfl, rfl, by go_num, by omega, Lib.hid HP'.out.1.skip, hs⟩
            case measure => simp [intOf]; omega
          · have he := key_eq_false hyk
            rw [he]
            have Hne := Lib.hid hyk
            obtain ⟨r0, r1⟩ := enRow_at ks i y Hy.out
            have c0 := hs.b2.row_cell r0
            have c1 := hs.b2.row_cell r1
            clear r0 r1 hyk
            go_wp2_with (at_builtin; refine append_st _ _ 116 119 _ out'.length 2 32 _ [.string y, .string ⟨#[]⟩] (.agg #[.string ⟨#[]⟩, .string ⟨#[]⟩]) iv hs rfl rfl Tryz.underlying116 Hi0.out Hi1.out Hi2.out Hi3.out rfl (by decide) rfl rfl rfl (fun u hu => by simp at hu; rcases hu with rfl | rfl <;> rfl) (by omega) (by decide) ?_)
            clear hs c0 c1
            intro v' w' hs
            obtain ⟨ao2, co2, hv, _, _⟩ := hs.row_read
            subst hv
            go_wp2
            go_roundw
            case rel => exact ⟨i + 1, b', out' ++ [y], ao2, co2, by rw [List.length_append]; rfl, rfl, by go_num, by omega, Lib.hid (HP'.out.1.elem Hk.out Hy.out Hne.out HP'.out.2), by rw [enRow_push, List.length_append]; exact hs⟩
            case measure => simp [intOf]; omega
    · obtain rfl : i = n := by omega
      cases b with
      | true =>
        go_wp2
        go_ret
        exact ⟨_, out, rfl, Lib.hid ⟨HP.out.asc, HP.out.len, HP.out.mem⟩, hs.drop1⟩
      | false =>
        have kx := hs.k1
        go_wp2_with (at_builtin; refine append_st _ _ 116 119 _ out.length 2 32 _ [.string key, .string ⟨#[]⟩] (.agg #[.string ⟨#[]⟩, .string ⟨#[]⟩]) iv hs rfl rfl Tryz.underlying116 Hi0.out Hi1.out Hi2.out Hi3.out rfl (by decide) rfl rfl rfl (fun u hu => by simp at hu; rcases hu with rfl | rfl <;> rfl) (by omega) (by decide) ?_)
        clear hs kx
        intro v' w' hs
        obtain ⟨ao2, co2, hv, _, _⟩ := hs.row_read
        subst hv
        go_wp2
        go_ret
        exact ⟨_, out ++ [key], rfl, Lib.hid HP.out.last, by rw [enRow_push, List.length_append]; exact hs.drop1⟩
end
end Go.Proofs.YtlpdhhhgckpcfaaGreat

namespace Go.Proofs.YtlpdhhhgckpcfaaGreat
open Go.Joins Go.ChangeShapes Go.WideShapes Go.ChangeAt Go.RowKit Go.Deep
set_option maxRecDepth 100000

def StrsIn (w : World) (a : Option Addr) (len : Nat) (f : Nat → ByteArray) : Prop :=
  len ≤ maxLen ∧ ∀ i, i < len → ∃ b off, a = some ⟨b, off, none⟩ ∧ b < w.heap.size ∧ w.cell? ⟨b, off + i, none⟩ = some (.string (f i)) ∧ (f i).size ≤ maxLen
theorem StrsIn.keep {w w' : World} {a : Option Addr} {len : Nat} {f : Nat → ByteArray} (h : StrsIn w a len f) (hb : Below w.heap.size w w') : StrsIn w' a len f :=
  ⟨h.1, fun i hi => by
    obtain ⟨b, off, e, hlt, hc, hw⟩ := h.2 i hi
    exact ⟨b, off, e, Nat.lt_of_lt_of_le hlt hb.size, by rw [hb.cell (p := ⟨b, _, none⟩) hlt]; exact hc, hw⟩⟩

theorem open_strs {H : Type} {enc : TypeId × Value → H} {w : World} {base : Nat} {spare : Nat → Bool} {held : Bool} {a : Option Addr} {len cap : Nat} {d : DataW H} {p : List MemPlace}
    (h : DataW.Trod enc Tryz.prog w base spare held 22 (.slice a len cap) d p) : ∃ f : Nat → ByteArray, StrsIn w a len f := by
  obtain ⟨fuel, hf⟩ := h
  rcases open_slice Tryz.underlying22 hf with ⟨hcs, _⟩ | ⟨x, l, c, m, n, D, Pl, hcs, _, hl, hcap, hm, _, hx⟩
  · simp [Value.cells] at hcs
    obtain ⟨rfl, rfl, rfl⟩ := hcs
    exact ⟨fun _ => ⟨#[]⟩, by simp [maxLen], fun i hi => by omega⟩
  · simp [Value.cells] at hcs
    obtain ⟨rfl, rfl, rfl⟩ := hcs
    have hlm : len ≤ m := by rw [hm]; split <;> omega
    have ce : Tryz.prog.cellsOf 9 = 1 := by kernel_rfl
    have each : ∀ i, i < len → ∃ q : ByteArray, w.cell? (x.add i) = some (.string q) ∧ q.size ≤ maxLen := by
      intro i hi
      obtain ⟨cs', h1, h2⟩ := hx i (by omega)
      rw [ce, Nat.mul_one] at h1
      obtain ⟨_, hlen, hcell⟩ := World.cells?_some h1
      match cs', hlen with
      | [v0], _ =>
        have e0 := hcell 0 (by omega)
        rw [add_add] at e0
        obtain ⟨a0, q0, _, w0⟩ := DataW.trod_string Tryz.underlying9 h2
        simp only [List.cons.injEq, and_true] at q0
        subst q0
        exact ⟨a0, by simpa using e0, w0⟩
    obtain ⟨f, hf'⟩ := choose_lt each
    refine ⟨f, by omega, fun i hi => ?_⟩
    have h0 := (hf' 0 (by omega)).1
    rw [show x.add 0 = x from rfl] at h0
    have hsp : x.spot = none := by
      cases hs : x.spot with
      | none => rfl
      | some s =>
        simp only [World.cell?, hs] at h0
        split at h0 <;> simp at h0
    obtain ⟨b, off, sp⟩ := x
    simp only at hsp
    subst hsp
    obtain ⟨k0, r⟩ := hf' i hi
    rw [add_plain] at k0
    exact ⟨b, off, rfl, World.block_lt_of_cell? _ _ k0, k0, r⟩
end Go.Proofs.YtlpdhhhgckpcfaaGreat

namespace Go.Proofs.YtlpdhhhgckpcfaaGreat
open Go.RowKit
set_option maxRecDepth 100000
def stRow (l : List ByteArray) : List Value := l.map Value.string
theorem stRow_push (l : List ByteArray) (k : ByteArray) : stRow (l ++ [k]) = stRow l ++ [.string k] := by simp [stRow]
/-- What Keys returns. -/
structure KeysOk (most : Nat) (ks : List ByteArray) : Prop where
  asc : AscK ks
  len : ks.length ≤ most
  size : ∀ x, x ∈ ks → x.size ≤ 32
section
variable {w0 w : World} {F : List Comp} {a : Option Addr} {len cap most : Nat} {f : Nat → ByteArray}
set_option maxHeartbeats 8000000 in
theorem keys_st (hz : StrsIn w0 a len f) (hm : most ≤ 100) (hs : St (Know.of w0) w F) :
    Calls Tryz.prog 16 #[.slice a len cap, .int .i64 most] w fun e w' => ∃ (v : Value) (ks : List ByteArray), e = .returned v ∧ Hid (KeysOk most ks) ∧ St (Know.of w0) w' (rowC v 9 1 ks.length (stRow ks) :: F) := by
  have hl := hz.1
  simp only [maxLen] at hl
  have Hz := Lib.hid hz
  obtain ⟨iv, hiv0, hiv1, hiv2, hiv3⟩ := info_parts infoString
  have Hi0 := Lib.hid hiv0
  have Hi1 := Lib.hid hiv1
  have Hi2 := Lib.hid hiv2
  have Hi3 := Lib.hid hiv3
  clear hiv0 hiv1 hiv2 hiv3 hz
  have hs := hs.row_nil (T := 119) (size := 2)
  go_enter Tryz.func16, Tryz.ntmps16
  go_wp2
  go_loopw [5, 6, 7] (fun v5 v6 _ wr => ∃ (i : Nat) (ks : List ByteArray) (ao : Option Addr) (co : Nat), v5 = .slice ao ks.length co ∧ v6 = .int .i64 i ∧ i ≤ len ∧ i ≤ most ∧ Hid (KeysOk i ks) ∧
    St (Know.of w0) wr (rowC (.slice ao ks.length co) 119 2 ks.length (enRow ks) :: F)) (fun _ v6 _ _ => len - (intOf v6).toNat)
  case atStart => exact ⟨0, [], none, 0, rfl, rfl, by omega, by omega, Lib.hid ⟨List.Pairwise.nil, Nat.le_refl _, fun x h => (by cases h)⟩, hs⟩
  case round =>
    clear hs
    obtain ⟨i, ks, ao, co, rfl, rfl, hi, him, HK, hs⟩ := hrel
    have hol : ks.length ≤ 100 := by have := HK.out.len; omega
    by_cases hin : i < len ∧ i < most
    · obtain ⟨h1, h2⟩ := hin
      obtain ⟨qb, qoff, rfl, hqlt, kq, hsz⟩ := Hz.out.2 i h1
      rw [← (hs.below (Know.Le.refl _)).cell (p := ⟨qb, _, none⟩) hqlt] at kq
      simp only [maxLen] at hsz
      generalize f i = y at kq hsz
      by_cases h32 : y.size ≤ 32
      · go_wp2_with fail
        refine (put15_st HK.out.asc (by omega) hs).mono ?_
        clear hs kq
        rintro e w2 ⟨v', ks', rfl, HK', hs⟩
        obtain ⟨ao', co', rfl, _, _⟩ := hs.row_read
        have hs := hs.drop1
        go_wp2
        go_roundw
        case rel => exact ⟨i + 1, ks', ao', co', rfl, by go_num, by omega, by omega, Lib.hid ⟨HK'.out.1, by have := HK'.out.2.1; have := HK.out.len; omega, fun x hx => by rcases HK'.out.2.2 x hx with rfl | hx; exact h32; exact HK.out.size x hx⟩, hs⟩
        case measure => simp [intOf]; omega
      · have h32' : ¬ ((y.size : Int) ≤ 32) := by omega
        go_wp2_with fail
        refine (put15_st HK.out.asc (by omega) hs).mono ?_
        clear hs kq
        rintro e w2 ⟨v', ks', rfl, HK', hs⟩
        obtain ⟨ao', co', rfl, _, _⟩ := hs.row_read
        have hs := hs.drop1
        go_wp2
        go_roundw
        case rel => exact ⟨i + 1, ks', ao', co', rfl, by go_num, by omega, by omega, Lib.hid ⟨HK'.out.1, by have := HK'.out.2.1; have := HK.out.len; omega, fun x hx => by rcases HK'.out.2.2 x hx with rfl | hx; exact (by rw [ByteArray.size_extract]; omega); exact HK.out.size x hx⟩, hs⟩
        case measure => simp [intOf]; omega
    · obtain ⟨n, hn⟩ : ∃ n, n = ks.length := ⟨_, rfl⟩
      have Hn := Lib.hid hn
      rw [← hn] at hs hol ⊢
      clear hn
      have hs := hs.row_nil (T := 9) (size := 1)
      have Hks : Hid (KeysOk most ks) := Lib.hid ⟨HK.out.asc, by have := HK.out.len; omega, HK.out.size⟩
      by_cases h1 : i < len
      · have h2 : ¬ i < most := fun h => hin ⟨h1, h⟩
        go_wp2
        clear h1 h2 hin
        go_loopw [8, 9] (fun v8 v9 wr => ∃ (j : Nat) (ao' : Option Addr) (co' : Nat), v8 = .slice ao' j co' ∧ v9 = .int .i64 j ∧ j ≤ n ∧
          St (Know.of w0) wr (rowC (.slice ao' j co') 9 1 j (stRow (ks.take j)) :: rowC (.slice ao n co) 119 2 n (enRow ks) :: F)) (fun _ v9 _ => n - (intOf v9).toNat)
        case atStart => exact ⟨0, none, 0, rfl, rfl, by omega, hs⟩
        case round =>
          clear hs
          obtain ⟨j, ao', co', rfl, rfl, hj, hs⟩ := hrel
          by_cases hjn : j < n
          · obtain ⟨y, hy⟩ : ∃ y, ks[j]? = some y := ⟨_, List.getElem?_eq_getElem (by have := Hn.out; omega)⟩
            obtain ⟨r0, r1⟩ := enRow_at ks j y hy
            obtain ⟨g, rfl, c0⟩ := hs.b1.row_at r0
            have hpush : ks.take (j + 1) = ks.take j ++ [y] := by rw [List.take_add_one, hy]; rfl
            have Hpush := Lib.hid hpush
            clear r0 r1 hy hpush
            go_wp2_with (at_builtin; refine append_st _ _ 22 9 _ j 1 16 _ [.string y] (.string ⟨#[]⟩) iv hs rfl rfl Tryz.underlying22 Hi0.out Hi1.out Hi2.out Hi3.out rfl (by decide) rfl rfl rfl (fun u hu => by simp at hu; subst hu; rfl) (by omega) (by decide) ?_)
            clear hs c0
            intro v' w' hs
            obtain ⟨ao2, co2, hv, _, _⟩ := hs.row_read
            subst hv
            go_wp2
            go_roundw
            case rel => exact ⟨j + 1, ao2, co2, rfl, by go_num, by omega, by rw [Hpush.out, stRow_push]; exact hs⟩
            case measure => simp [intOf]; omega
          · obtain rfl : j = n := by omega
            go_wp2
            go_ret
            refine ⟨_, ks, rfl, Hks, ?_⟩
            have e : ks.take j = ks := List.take_of_length_le (by rw [← Hn.out]; exact Nat.le_refl _)
            rw [e] at hs
            rw [← Hn.out]
            exact hs.drop1
      · go_wp2
        clear h1 hin
        go_loopw [8, 9] (fun v8 v9 wr => ∃ (j : Nat) (ao' : Option Addr) (co' : Nat), v8 = .slice ao' j co' ∧ v9 = .int .i64 j ∧ j ≤ n ∧
          St (Know.of w0) wr (rowC (.slice ao' j co') 9 1 j (stRow (ks.take j)) :: rowC (.slice ao n co) 119 2 n (enRow ks) :: F)) (fun _ v9 _ => n - (intOf v9).toNat)
        case atStart => exact ⟨0, none, 0, rfl, rfl, by omega, hs⟩
        case round =>
          clear hs
          obtain ⟨j, ao', co', rfl, rfl, hj, hs⟩ := hrel
          by_cases hjn : j < n
          · obtain ⟨y, hy⟩ : ∃ y, ks[j]? = some y := ⟨_, List.getElem?_eq_getElem (by have := Hn.out; omega)⟩
            obtain ⟨r0, r1⟩ := enRow_at ks j y hy
            obtain ⟨g, rfl, c0⟩ := hs.b1.row_at r0
            have hpush : ks.take (j + 1) = ks.take j ++ [y] := by rw [List.take_add_one, hy]; rfl
            have Hpush := Lib.hid hpush
            clear r0 r1 hy hpush
            go_wp2_with (at_builtin; refine append_st _ _ 22 9 _ j 1 16 _ [.string y] (.string ⟨#[]⟩) iv hs rfl rfl Tryz.underlying22 Hi0.out Hi1.out Hi2.out Hi3.out rfl (by decide) rfl rfl rfl (fun u hu => by simp at hu; subst hu; rfl) (by omega) (by decide) ?_)
            clear hs c0
            intro v' w' hs
            obtain ⟨ao2, co2, hv, _, _⟩ := hs.row_read
            subst hv
            go_wp2
            go_roundw
            case rel => exact ⟨j + 1, ao2, co2, rfl, by go_num, by omega, by rw [Hpush.out, stRow_push]; exact hs⟩
            case measure => simp [intOf]; omega
          · obtain rfl : j = n := by omega
            go_wp2
            go_ret
            refine ⟨_, ks, rfl, Hks, ?_⟩
            have e : ks.take j = ks := List.take_of_length_le (by rw [← Hn.out]; exact Nat.le_refl _)
            rw [e] at hs
            rw [← Hn.out]
            exact hs.drop1
end
end Go.Proofs.YtlpdhhhgckpcfaaGreat

namespace Go.Proofs.YtlpdhhhgckpcfaaGreat
open Go.RowKit
set_option maxRecDepth 100000
/-- What group returns. -/
structure GroupOk (n least fa : Nat) (ps : List Nat) : Prop where
  sum : ps.sum = n
  bd : ∀ p, p ∈ ps → 1 ≤ p ∧ p ≤ fa
  len : ps.length * least ≤ n + (least - 1)
structure GroupI (n least fa r : Nat) (ps : List Nat) : Prop where
  sum : ps.sum + r = n
  bd : ∀ p, p ∈ ps → 1 ≤ p ∧ p ≤ fa
  len : ps.length * least ≤ ps.sum + (if r = 0 then least - 1 else 0)
theorem GroupI.step {n least fa r x : Nat} {ps : List Nat} (h : GroupI n least fa r ps) (hr : 0 < r) (hl : 1 ≤ least) (hx : least ≤ x) (hxf : x ≤ fa) : GroupI n least fa (r - min x r) (ps ++ [min x r]) := by
  have h1 := h.sum
  have h3 := h.len
  rw [if_neg (by omega)] at h3
  have e : (ps ++ [min x r]).sum = ps.sum + min x r := by simp
  refine ⟨by rw [e]; omega, fun p hp => ?_, ?_⟩
  · rcases List.mem_append.1 hp with hp | hp
    · exact h.bd p hp
    · simp at hp; omega
  · rw [e, List.length_append]
    simp only [List.length_cons, List.length_nil, Nat.add_mul, Nat.one_mul, Nat.zero_mul, Nat.zero_add]
    by_cases hm : x ≤ r
    · rw [Nat.min_eq_left hm]; omega
    · rw [Nat.min_eq_right (by omega), if_pos (by omega)]; omega
theorem GroupI.last {n least fa : Nat} {ps : List Nat} (h : GroupI n least fa 0 ps) : GroupOk n least fa ps := by
  have h1 := h.sum
  have h3 := h.len
  rw [if_pos rfl] at h3
  exact ⟨by omega, h.bd, by omega⟩
theorem wrap64_idn {z : Int} (h : 0 ≤ z) (h2 : z < 1000000) : wrap64 z = z := by unfold wrap64; omega
theorem sum_ge : ∀ {ps : List Nat}, (∀ p, p ∈ ps → 1 ≤ p) → ps.length ≤ ps.sum
  | [], _ => by simp
  | a :: l, h => by
    have h1 := h a (by simp)
    have h2 := sum_ge (ps := l) (fun p hp => h p (by simp [hp]))
    simp only [List.length_cons, List.sum_cons]; omega
section
variable {K : Know} {w : World} {F : List Comp} {n least fa : Nat} {sh : Int}
end
end Go.Proofs.YtlpdhhhgckpcfaaGreat

namespace Go.Proofs.YtlpdhhhgckpcfaaGreat
open Go.RowKit
set_option maxRecDepth 100000

/-- A node: its number, its low key, its page. -/
structure Nd where
  id : Int
  low : ByteArray
  pg : Pg
/-- The high key of a node with the first p of the slots l. -/
def hiOf (lev : Nat) (l : List Sl) (p : Nat) : ByteArray := match l[p - 1]?, l[p]? with
  | some a, some b => if lev = 0 then sepK a.k b.k else b.k
  | _, some b => b.k
  | _, _ => ⟨#[]⟩
/-- The nodes of a level: parts says how many slots each has. -/
def mkRow (lev : Nat) : ByteArray → Int → List Sl → List Nat → List Nd
  | _, _, _, [] => []
  | low, id, l, [p] => [⟨id, low, ⟨lev, l.take p, ⟨#[]⟩, true, 0⟩⟩]
  | low, id, l, p :: q :: ps => ⟨id, low, ⟨lev, l.take p, hiOf lev l p, false, id + 1⟩⟩ :: mkRow lev (hiOf lev l p) (id + 1) (l.drop p) (q :: ps)
theorem mkRow_length (lev : Nat) : ∀ (ps : List Nat) (low : ByteArray) (id : Int) (l : List Sl), (mkRow lev low id l ps).length = ps.length
  | [], _, _, _ => rfl
  | [p], _, _, _ => rfl
  | p :: q :: ps, low, id, l => by
    show (mkRow lev _ _ _ (q :: ps)).length + 1 = _
    rw [mkRow_length lev (q :: ps)]; rfl

/-- A row of nodes of one level. -/
structure RowOk (lev : Nat) (l : List Nd) : Prop where
  ne : 0 < l.length
  lev : ∀ nd, nd ∈ l → nd.pg.lev = lev
  first : ∀ nd, l[0]? = some nd → nd.low = ⟨#[]⟩
  next : ∀ (i : Nat) (a b : Nd), l[i]? = some a → l[i + 1]? = some b → a.pg.la = false ∧ a.pg.hi = b.low ∧ a.pg.ri = b.id ∧ klt a.low b.low = true
  last : ∀ (i : Nat) (a : Nd), l[i]? = some a → i + 1 = l.length → a.pg.la = true ∧ a.pg.hi = ⟨#[]⟩ ∧ a.pg.ri = 0
/-- The latch of a node that nobody has locked. -/
structure LatFree (c : Cel) : Prop where
  n : c.n % 4 = 0
  k : c.k = ⟨#[]⟩
  m : c.m = 0
theorem LatFree.zero : LatFree Cel.zero := ⟨rfl, rfl, rfl⟩
theorem LatFree.chg {c : Cel} (h : LatFree c) : ltChg c.n = false := by
  have := h.n
  unfold ltChg
  exact decide_eq_false (by omega)
theorem LatFree.eq {c : Cel} (h : LatFree c) : c = ⟨c.n, ⟨#[]⟩, 0⟩ := by
  obtain ⟨n, k, m⟩ := c
  have h1 := h.k
  have h2 := h.m
  simp only at h1 h2
  subst h1 h2
  rfl
/-- A node as it lies in memory. -/
structure NdOk (d : Cfg) (L : List Cel) (nd : Nd) : Prop where
  id : 1 ≤ nd.id ∧ nd.id ≤ d.no
  page : PageAt d nd.id L nd.pg
  hold : Holds L (pgPts d nd.id nd.pg)
  free : LatFree (getC L (d.node nd.id 0))
  asc : Asc nd.pg.sl
  rf : ∀ s, s ∈ nd.pg.sl → 1 ≤ s.r
  bd : ∀ s, s ∈ nd.pg.sl → klt s.k nd.low = false ∧ (nd.pg.la = false → klt s.k nd.pg.hi = true)
/-- A tree: its levels from the leaves on. -/
structure TreeOk (d : Cfg) (L : List Cel) (t : List (List Nd)) : Prop where
  ne : 0 < t.length
  rows : ∀ (k : Nat) (l : List Nd), t[k]? = some l → RowOk k l
  nodes : ∀ (k : Nat) (l : List Nd), t[k]? = some l → ∀ nd, nd ∈ l → NdOk d L nd
  top : ∃ nd rest, t[t.length - 1]? = some (nd :: rest) ∧ (getC L 0).n = nd.id
  down : ∀ (k : Nat) (l l' : List Nd), t[k]? = some l → t[k + 1]? = some l' → ∀ nd, nd ∈ l' → (∃ s r, nd.pg.sl = s :: r ∧ s.k = nd.low) ∧ ∀ s, s ∈ nd.pg.sl → ∃ c, c ∈ l ∧ c.id = s.r ∧ c.low = s.k
  count : ((t.map List.length).sum : Int) ≤ (getC L 4).n
  n4 : (getC L 4).n ≤ d.no
  used : ∀ (k : Nat) (l : List Nd), t[k]? = some l → ∀ nd, nd ∈ l → nd.id ≤ (getC L 4).n

theorem mkRow_at (lev : Nat) : ∀ (ps : List Nat) (low : ByteArray) (id : Int) (l : List Sl) (i p : Nat), ps[i]? = some p →
    ∃ nd : Nd, (mkRow lev low id l ps)[i]? = some nd ∧ nd.id = id + i ∧ (i = 0 → nd.low = low) ∧
      nd.pg = (if i + 1 = ps.length then ⟨lev, (l.drop (ps.take i).sum).take p, ⟨#[]⟩, true, 0⟩ else ⟨lev, (l.drop (ps.take i).sum).take p, hiOf lev (l.drop (ps.take i).sum) p, false, id + i + 1⟩) ∧
      ∀ nd', (mkRow lev low id l ps)[i + 1]? = some nd' → nd'.low = hiOf lev (l.drop (ps.take i).sum) p
  | [], _, _, _, i, p, h => by simp at h
  | [q], low, id, l, i, p, h => by
    cases i with
    | zero =>
      simp at h; subst h
      exact ⟨_, rfl, by simp, fun _ => rfl, by simp, fun nd' h' => by simp [mkRow] at h'⟩
    | succ i => simp at h
  | q :: r :: ps, low, id, l, i, p, h => by
    cases i with
    | zero =>
      simp at h; subst h
      refine ⟨_, rfl, by simp, fun _ => rfl, by simp, fun nd' h' => ?_⟩
      have h2 : (mkRow lev (hiOf lev l q) (id + 1) (l.drop q) (r :: ps))[0]? = some nd' := h'
      obtain ⟨nd2, e2, _, e3, _⟩ := mkRow_at lev (r :: ps) (hiOf lev l q) (id + 1) (l.drop q) 0 r rfl
      rw [e2] at h2
      cases h2
      simpa using e3 rfl
    | succ i =>
      obtain ⟨nd, h1, h2, h3, h4, h5⟩ := mkRow_at lev (r :: ps) (hiOf lev l q) (id + 1) (l.drop q) i p (by simpa using h)
      have e : (q :: r :: ps).take (i + 1) = q :: (r :: ps).take i := rfl
      refine ⟨nd, h1, by rw [h2]; push_cast; omega, fun h => by omega, ?_, fun nd' h' => ?_⟩
      · rw [h4, e, List.sum_cons, List.drop_drop]
        simp only [List.length_cons]
        rw [show id + 1 + (i : Int) + 1 = id + ((i + 1 : Nat) : Int) + 1 by push_cast; omega]
        by_cases hx : i + 1 = ps.length + 1
        · rw [if_pos hx, if_pos (by omega)]
        · rw [if_neg hx, if_neg (by omega)]
      · rw [e, List.sum_cons, ← List.drop_drop]
        exact h5 nd' h'
end Go.Proofs.YtlpdhhhgckpcfaaGreat

namespace Go.Proofs.YtlpdhhhgckpcfaaGreat
open Go.RowKit
set_option maxRecDepth 100000
theorem sum_take_succ {ps : List Nat} {i p : Nat} (h : ps[i]? = some p) : (ps.take (i + 1)).sum = (ps.take i).sum + p := by
  rw [List.take_add_one, h]; simp
theorem sum_take_le (ps : List Nat) (i : Nat) : (ps.take i).sum ≤ ps.sum := by
  have h : ps.sum = (ps.take i).sum + (ps.drop i).sum := by rw [← List.sum_append, List.take_append_drop]
  omega
theorem asc_lt {S : List Sl} (h : Asc S) {i j : Nat} {x y : Sl} (hx : S[i]? = some x) (hy : S[j]? = some y) (hij : i < j) : klt x.k y.k = true := by
  have := List.pairwise_iff_getElem.1 h i j (List.getElem?_eq_some_iff.1 hx).1 (List.getElem?_eq_some_iff.1 hy).1 hij
  rwa [(List.getElem?_eq_some_iff.1 hx).2, (List.getElem?_eq_some_iff.1 hy).2] at this
theorem asc_le {S : List Sl} (h : Asc S) {i j : Nat} {x y : Sl} (hx : S[i]? = some x) (hy : S[j]? = some y) (hij : i ≤ j) : klt y.k x.k = false := by
  rcases Nat.eq_or_lt_of_le hij with rfl | hlt
  · rw [hx] at hy; cases hy; exact klt_irrefl _
  · exact klt_asymm (asc_lt h hx hy hlt)
/-- The slots of a level and how they are divided. -/
structure PartsOk (S : List Sl) (ps : List Nat) : Prop where
  asc : Asc S
  ne : 0 < ps.length
  sum : ps.sum = S.length
  pos : (∀ p, p ∈ ps → 1 ≤ p) ∨ ps = [0]
section
variable {lev : Nat} {S : List Sl} {ps : List Nat} {id : Int}
theorem PartsOk.at (h : PartsOk S ps) {i p : Nat} (hp : ps[i]? = some p) (hi : i + 1 < ps.length) : ∃ x y : Sl, S[(ps.take (i + 1)).sum - 1]? = some x ∧ S[(ps.take (i + 1)).sum]? = some y ∧ (ps.take (i + 1)).sum = (ps.take i).sum + p ∧ 1 ≤ p ∧ hiOf lev (S.drop (ps.take i).sum) p = (if lev = 0 then sepK x.k y.k else y.k) ∧ klt x.k y.k = true := by
  have hpos : ∀ p, p ∈ ps → 1 ≤ p := by
    rcases h.pos with h | h
    · exact h
    · rw [h] at hi; simp at hi
  obtain ⟨q, hq⟩ : ∃ q, ps[i + 1]? = some q := ⟨_, List.getElem?_eq_getElem hi⟩
  have e1 := sum_take_succ hp
  have e2 := sum_take_succ hq
  have h1 := hpos p (List.mem_of_getElem? hp)
  have h2 := hpos q (List.mem_of_getElem? hq)
  have h3 := sum_take_le ps (i + 1 + 1)
  have h4 := h.sum
  obtain ⟨x, hx⟩ : ∃ x, S[(ps.take (i + 1)).sum - 1]? = some x := ⟨_, List.getElem?_eq_getElem (by omega)⟩
  obtain ⟨y, hy⟩ : ∃ y, S[(ps.take (i + 1)).sum]? = some y := ⟨_, List.getElem?_eq_getElem (by omega)⟩
  refine ⟨x, y, hx, hy, e1, h1, ?_, asc_lt h.asc hx hy (by omega)⟩
  unfold hiOf
  rw [List.getElem?_drop, List.getElem?_drop, show (ps.take i).sum + (p - 1) = (ps.take (i + 1)).sum - 1 by omega, ← e1, hx, hy]
/-- The low key of a node. -/
theorem low_at (h : PartsOk S ps) {i : Nat} {nd : Nd} (hn : (mkRow lev ⟨#[]⟩ id S ps)[i]? = some nd) :
    (i = 0 ∧ nd.low = ⟨#[]⟩) ∨ (∃ x y : Sl, 1 ≤ i ∧ S[(ps.take i).sum - 1]? = some x ∧ S[(ps.take i).sum]? = some y ∧ 1 ≤ (ps.take i).sum ∧ nd.low = (if lev = 0 then sepK x.k y.k else y.k) ∧ klt x.k nd.low = true ∧ klt y.k nd.low = false) := by
  have hlt : i < ps.length := by rw [← mkRow_length lev ps ⟨#[]⟩ id S]; exact (List.getElem?_eq_some_iff.1 hn).1
  cases i with
  | zero =>
    left
    obtain ⟨nd', e, _, e3, _⟩ := mkRow_at lev ps ⟨#[]⟩ id S 0 ps[0] (List.getElem?_eq_getElem hlt)
    rw [hn] at e; cases e
    exact ⟨rfl, e3 rfl⟩
  | succ i =>
    right
    have hp : ps[i]? = some ps[i] := List.getElem?_eq_getElem (by omega)
    obtain ⟨x, y, hx, hy, e1, h1, e2, hxy⟩ := h.at (lev := lev) hp hlt
    obtain ⟨nd', _, _, _, _, e5⟩ := mkRow_at lev ps ⟨#[]⟩ id S i ps[i] hp
    have e6 := e5 nd hn
    rw [e2] at e6
    refine ⟨x, y, by omega, hx, hy, by omega, e6, ?_⟩
    rw [e6]
    split
    · exact ⟨(sepK_ok hxy).1, (sepK_ok hxy).2⟩
    · exact ⟨hxy, klt_irrefl _⟩
theorem low_le (h : PartsOk S ps) {i : Nat} {nd : Nd} (hn : (mkRow lev ⟨#[]⟩ id S ps)[i]? = some nd) {j : Nat} {s : Sl} (hj : (ps.take i).sum ≤ j) (hs : S[j]? = some s) : klt s.k nd.low = false := by
  rcases low_at h hn with ⟨_, e⟩ | ⟨x, y, _, _, hy, _, _, _, h2⟩
  · rw [e]; exact klt_empty _
  · exact klt_le_trans h2 (asc_le h.asc hy hs hj)
/-- A node's page. -/
theorem page_at (h : PartsOk S ps) {i : Nat} {nd : Nd} (hn : (mkRow lev ⟨#[]⟩ id S ps)[i]? = some nd) : ∃ p, ps[i]? = some p ∧ nd.id = id + i ∧ nd.pg.lev = lev ∧ nd.pg.sl = (S.drop (ps.take i).sum).take p ∧ (ps.take i).sum + p ≤ S.length ∧
    ((i + 1 = ps.length ∧ nd.pg = ⟨lev, (S.drop (ps.take i).sum).take p, ⟨#[]⟩, true, 0⟩) ∨ (i + 1 < ps.length ∧ nd.pg = ⟨lev, (S.drop (ps.take i).sum).take p, hiOf lev (S.drop (ps.take i).sum) p, false, id + i + 1⟩)) := by
  have hlt : i < ps.length := by rw [← mkRow_length lev ps ⟨#[]⟩ id S]; exact (List.getElem?_eq_some_iff.1 hn).1
  have hp : ps[i]? = some ps[i] := List.getElem?_eq_getElem hlt
  obtain ⟨nd', e, e2, _, e4, _⟩ := mkRow_at lev ps ⟨#[]⟩ id S i ps[i] hp
  rw [hn] at e; cases e
  have h3 := sum_take_le ps (i + 1)
  rw [sum_take_succ hp, h.sum] at h3
  refine ⟨ps[i], hp, e2, ?_, ?_, h3, ?_⟩
  · rw [e4]; split <;> rfl
  · rw [e4]; split <;> rfl
  · by_cases hx : i + 1 = ps.length
    · rw [if_pos hx] at e4; exact .inl ⟨hx, e4⟩
    · rw [if_neg hx] at e4; exact .inr ⟨by omega, e4⟩
theorem mkRow_ok (h : PartsOk S ps) : RowOk lev (mkRow lev ⟨#[]⟩ id S ps) := by
  refine ⟨by rw [mkRow_length]; exact h.ne, fun nd hn => ?_, fun nd hn => ?_, fun i a b ha hb => ?_, fun i a ha hi => ?_⟩
  · obtain ⟨i, hi⟩ := List.getElem?_of_mem hn
    obtain ⟨p, _, _, e, _⟩ := page_at h hi
    exact e
  · rcases low_at h hn with ⟨_, e⟩ | ⟨_, _, h0, _⟩
    · exact e
    · omega
  · have hlt : i + 1 < ps.length := by rw [← mkRow_length lev ps ⟨#[]⟩ id S]; exact (List.getElem?_eq_some_iff.1 hb).1
    obtain ⟨p, hp, e1, e2, e3, e4, e5⟩ := page_at h ha
    obtain ⟨_, _, e1', _⟩ := page_at h hb
    obtain ⟨x, y, hx, hy, q1, q2, q3, q4⟩ := h.at (lev := lev) hp hlt
    rcases e5 with ⟨e5, _⟩ | ⟨_, e5⟩
    · omega
    · rcases low_at h hb with ⟨h0, _⟩ | ⟨x', y', _, hx', hy', _, el, k1, k2⟩
      · omega
      · rw [hx] at hx'; cases hx'
        rw [hy] at hy'; cases hy'
        rw [e5]
        refine ⟨rfl, by rw [el]; exact q3, by rw [e1']; push_cast; show id + i + 1 = _; omega, ?_⟩
        exact klt_le_lt (low_le h ha (by omega) hx) k1
  · rw [mkRow_length] at hi
    obtain ⟨p, _, _, _, _, _, e5⟩ := page_at h ha
    rcases e5 with ⟨_, e5⟩ | ⟨e5, _⟩
    · rw [e5]; exact ⟨rfl, rfl, rfl⟩
    · omega
/-- The slots of a node. -/
theorem slots_at (h : PartsOk S ps) {i : Nat} {nd : Nd} (hn : (mkRow lev ⟨#[]⟩ id S ps)[i]? = some nd) {s : Sl} (hs : s ∈ nd.pg.sl) : s ∈ S ∧ klt s.k nd.low = false ∧ (nd.pg.la = false → klt s.k nd.pg.hi = true) := by
  obtain ⟨p, hp, e1, e2, e3, e4, e5⟩ := page_at h hn
  rw [e3] at hs
  obtain ⟨j, hj⟩ := List.getElem?_of_mem hs
  have hjp : j < p := by
    have := (List.getElem?_eq_some_iff.1 hj).1
    simp at this; omega
  rw [List.getElem?_take, if_pos hjp, List.getElem?_drop] at hj
  refine ⟨List.mem_of_getElem? hj, low_le h hn (by omega) hj, fun hla => ?_⟩
  rcases e5 with ⟨_, e5⟩ | ⟨hlt, e5⟩
  · rw [e5] at hla; cases hla
  · obtain ⟨x, y, hx, hy, q1, q2, q3, q4⟩ := h.at (lev := lev) hp hlt
    rw [e5]
    show klt s.k (hiOf lev _ p) = true
    rw [q3]
    have hsx := asc_le h.asc hj hx (by omega)
    split
    · exact klt_le_lt hsx (sepK_ok q4).1
    · exact klt_le_lt hsx q4
theorem nodeAsc (h : PartsOk S ps) {i : Nat} {nd : Nd} (hn : (mkRow lev ⟨#[]⟩ id S ps)[i]? = some nd) : Asc nd.pg.sl := by
  obtain ⟨p, hp, e1, e2, e3, e4, e5⟩ := page_at h hn
  rw [e3]
  exact (h.asc.sublist (List.drop_sublist _ _)).sublist (List.take_sublist _ _)
/-- Above the leaves a node begins with its low key. -/
theorem node_first (h : PartsOk S ps) (hlev : 0 < lev) (h0 : ∀ s, S[0]? = some s → s.k = ⟨#[]⟩) (hS : S ≠ []) {i : Nat} {nd : Nd} (hn : (mkRow lev ⟨#[]⟩ id S ps)[i]? = some nd) : ∃ s r, nd.pg.sl = s :: r ∧ s.k = nd.low := by
  obtain ⟨p, hp, e1, e2, e3, e4, e5⟩ := page_at h hn
  have hpos : 1 ≤ p := by
    rcases h.pos with hq | hq
    · exact hq p (List.mem_of_getElem? hp)
    · have := h.sum; rw [hq] at this; simp at this; exact absurd (List.length_eq_zero_iff.1 this.symm) hS
  obtain ⟨s, hs⟩ : ∃ s, S[(ps.take i).sum]? = some s := ⟨_, List.getElem?_eq_getElem (by omega)⟩
  have hf : nd.pg.sl[0]? = some s := by rw [e3, List.getElem?_take, if_pos (by omega), List.getElem?_drop]; simpa using hs
  cases hl : nd.pg.sl with
  | nil => rw [hl] at hf; simp at hf
  | cons s' r =>
    rw [hl] at hf; simp at hf; subst hf
    refine ⟨s', r, rfl, ?_⟩
    rcases low_at h hn with ⟨hi, e⟩ | ⟨x, y, _, hx, hy, _, el, _⟩
    · subst hi; rw [e]; exact h0 s' (by simpa using hs)
    · rw [hs] at hy; cases hy
      rw [el, if_neg (by omega)]
end
end Go.Proofs.YtlpdhhhgckpcfaaGreat

namespace Go.Proofs.YtlpdhhhgckpcfaaGreat
open Go.RowKit
set_option maxRecDepth 100000
section
variable {d : Cfg}
theorem PageAt.frame {id : Int} (h1 : 1 ≤ id) (h2 : id ≤ d.no) {L L' : List Cel} {pg : Pg} (h : PageAt d id L pg) (f1 : 4 ≤ d.fa) (he : ∀ k : Int, 1 ≤ k → k < d.fa + 4 → getC L' (d.node id k) = getC L (d.node id k)) : PageAt d id L' pg := by
  refine ⟨by rw [he 1 (by omega) (by omega)]; exact h.n, by rw [he 1 (by omega) (by omega)]; exact h.lev, by rw [he 2 (by omega) (by omega)]; exact h.hi, by rw [he 2 (by omega) (by omega)]; exact h.la, by rw [he 3 (by omega) (by omega)]; exact h.ri, h.le, fun i s hs => ?_⟩
  have hi : i < pg.sl.length := (List.getElem?_eq_some_iff.1 hs).1
  have := h.le
  have es : d.slot id i = d.node id (4 + (i : Int)) := by
    unfold Cfg.slot
    rw [if_pos ⟨by omega, by omega⟩]
  rw [es, he _ (by omega) (by omega), ← es]
  exact h.sl i s hs
theorem putPg_other {id : Int} {L : List Cel} {pg : Pg} (f1 : 4 ≤ d.fa) (hle : (pg.sl.length : Int) ≤ d.fa) {j : Int} (hj : ∀ k : Int, 1 ≤ k → k < d.fa + 4 → j ≠ d.node id k) : getC (putPg d id pg L) j = getC L j := by
  unfold putPg
  rw [putSl_other _ _ _ _ (fun k a b => hj _ (by omega) (by omega))]
  unfold put3
  rw [getC_ne (hj 3 (by omega) (by omega)), getC_ne (hj 2 (by omega) (by omega)), getC_ne (hj 1 (by omega) (by omega))]
theorem node_apart (hd : d.Ok) {id id' k k' : Int} (h1 : 1 ≤ id) (h2 : id ≤ d.no) (h1' : 1 ≤ id') (h2' : id' ≤ d.no) (hk : 0 ≤ k) (hk2 : k < d.fa + 4) (hk' : 0 ≤ k') (hk2' : k' < d.fa + 4) (h : id ≠ id') : d.node id k ≠ d.node id' k' := by
  have a := (node_in hd h1 h2 hk hk2).1
  have b := (node_in hd h1' h2' hk' hk2').1
  have f1 := hd.fa1
  intro e
  rw [a, b] at e
  rcases Int.lt_or_gt_of_ne h with hlt | hlt
  · have := Int.mul_le_mul_of_nonneg_right (show id - 1 + 1 ≤ id' - 1 by omega) (show 0 ≤ d.fa + 4 by omega)
    rw [Int.add_mul] at this
    omega
  · have := Int.mul_le_mul_of_nonneg_right (show id' - 1 + 1 ≤ id - 1 by omega) (show 0 ≤ d.fa + 4 by omega)
    rw [Int.add_mul] at this
    omega
def plantRow (d : Cfg) (L : List Cel) (row : List Nd) : List Cel := row.foldl (fun L nd => putPg d nd.id nd.pg L) L
/-- What a row to be planted keeps. -/
structure RowIds (d : Cfg) (row : List Nd) : Prop where
  id : ∀ nd, nd ∈ row → 1 ≤ nd.id ∧ nd.id ≤ d.no
  le : ∀ nd, nd ∈ row → (nd.pg.sl.length : Int) ≤ d.fa
  lev : ∀ nd, nd ∈ row → 0 ≤ nd.pg.lev ∧ nd.pg.lev < 1000000
  ri : ∀ nd, nd ∈ row → 0 ≤ nd.pg.ri ∧ nd.pg.ri < 18446744073709551616
  rf : ∀ nd, nd ∈ row → ∀ s, s ∈ nd.pg.sl → 0 ≤ s.r ∧ s.r < 18446744073709551616
  ne : row.Pairwise fun a b => a.id ≠ b.id
theorem plantRow_length (row : List Nd) : ∀ L : List Cel, (plantRow d L row).length = L.length := by
  induction row with
  | nil => intro L; rfl
  | cons nd row ih => intro L; show (plantRow d _ row).length = _; rw [ih, putPg_length]
theorem plantRow_cels {row : List Nd} (hd : d.Ok) : ∀ {L : List Cel}, RowIds d row → CelsOk L → CelsOk (plantRow d L row) := by
  induction row with
  | nil => intro L _ h; exact h
  | cons nd row ih =>
    intro L hr h
    refine ih ⟨fun a ha => hr.id a (by simp [ha]), fun a ha => hr.le a (by simp [ha]), fun a ha => hr.lev a (by simp [ha]), fun a ha => hr.ri a (by simp [ha]), fun a ha => hr.rf a (by simp [ha]), (List.pairwise_cons.1 hr.ne).2⟩ ?_
    have := hr.le nd (by simp); have := hd.fa2
    exact putPg_ok h (by omega) (hr.ri nd (by simp)) (hr.rf nd (by simp))
theorem plantRow_other {row : List Nd} (f1 : 4 ≤ d.fa) : ∀ {L : List Cel}, (∀ nd, nd ∈ row → (nd.pg.sl.length : Int) ≤ d.fa) → ∀ {j : Int}, (∀ nd, nd ∈ row → ∀ k : Int, 1 ≤ k → k < d.fa + 4 → j ≠ d.node nd.id k) → getC (plantRow d L row) j = getC L j := by
  induction row with
  | nil => intro L _ j _; rfl
  | cons nd row ih =>
    intro L hr j hj
    show getC (plantRow d _ row) j = _
    rw [ih (fun a ha => hr a (by simp [ha])) (fun a ha => hj a (by simp [ha])), putPg_other f1 (hr nd (by simp)) (hj nd (by simp))]
theorem plantRow_at {row : List Nd} (hd : d.Ok) : ∀ {L : List Cel}, (L.length : Int) = d.cells → RowIds d row → ∀ nd, nd ∈ row → PageAt d nd.id (plantRow d L row) nd.pg := by
  induction row with
  | nil => intro L _ _ nd h; cases h
  | cons a row ih =>
    intro L hlen hr nd hn
    have hr' : RowIds d row := ⟨fun a ha => hr.id a (by simp [ha]), fun a ha => hr.le a (by simp [ha]), fun a ha => hr.lev a (by simp [ha]), fun a ha => hr.ri a (by simp [ha]), fun a ha => hr.rf a (by simp [ha]), (List.pairwise_cons.1 hr.ne).2⟩
    have hla : ((putPg d a.id a.pg L).length : Int) = d.cells := by rw [putPg_length]; exact hlen
    rcases List.mem_cons.1 hn with rfl | hn'
    · have hp := putPg_at hd (hr.id nd (by simp)).1 (hr.id nd (by simp)).2 hlen (hr.lev nd (by simp)) (hr.le nd (by simp))
      refine hp.frame (hr.id nd (by simp)).1 (hr.id nd (by simp)).2 hd.fa1 (fun k k1 k2 => ?_)
      refine plantRow_other hd.fa1 (fun b hb => hr'.le b hb) (fun b hb k' a1 a2 => ?_)
      exact node_apart hd (hr.id nd (by simp)).1 (hr.id nd (by simp)).2 (hr'.id b hb).1 (hr'.id b hb).2 (by omega) k2 (by omega) a2 ((List.pairwise_cons.1 hr.ne).1 b hb)
    · exact ih hla hr' nd hn'
end
end Go.Proofs.YtlpdhhhgckpcfaaGreat

namespace Go.Proofs.YtlpdhhhgckpcfaaGreat
open Go.RowKit
set_option maxRecDepth 100000
/-- The slots of the leaves: slot i has chain i + 1. -/
def keySl : Nat → List ByteArray → List Sl
  | _, [] => []
  | i, k :: ks => ⟨k, ((i + 1 : Nat) : Int)⟩ :: keySl (i + 1) ks
theorem keySl_length : ∀ (ks : List ByteArray) (i : Nat), (keySl i ks).length = ks.length
  | [], _ => rfl
  | k :: ks, i => by simp [keySl, keySl_length ks]
theorem keySl_push : ∀ (ks : List ByteArray) (i : Nat) (k : ByteArray), keySl i (ks ++ [k]) = keySl i ks ++ [⟨k, ((i + ks.length + 1 : Nat) : Int)⟩]
  | [], i, k => rfl
  | a :: ks, i, k => by
    show _ :: keySl (i + 1) (ks ++ [k]) = _
    rw [keySl_push ks (i + 1) k]
    simp only [keySl, List.cons_append, List.length_cons]
    congr 4
    omega
theorem keySl_at : ∀ (ks : List ByteArray) (i j : Nat) (k : ByteArray), ks[j]? = some k → (keySl i ks)[j]? = some ⟨k, ((i + j + 1 : Nat) : Int)⟩
  | [], i, j, k, h => by simp at h
  | a :: ks, i, 0, k, h => by simp at h; subst h; rfl
  | a :: ks, i, j + 1, k, h => by
    have := keySl_at ks (i + 1) j k (by simpa using h)
    show (keySl (i + 1) ks)[j]? = _
    rw [this]
    congr 3
    omega
theorem keySl_mem : ∀ {ks : List ByteArray} {i : Nat} {s : Sl}, s ∈ keySl i ks → s.k ∈ ks ∧ 1 ≤ s.r ∧ s.r ≤ ((i + ks.length : Nat) : Int)
  | [], _, _, h => by cases h
  | k :: ks, i, s, h => by
    rcases List.mem_cons.1 h with rfl | h
    · exact ⟨by simp, by show (1 : Int) ≤ ((i + 1 : Nat) : Int); omega, by show ((i + 1 : Nat) : Int) ≤ _; simp only [List.length_cons]; omega⟩
    · have := keySl_mem h
      exact ⟨by simp [this.1], this.2.1, by have := this.2.2; simp only [List.length_cons]; omega⟩
theorem keySl_asc : ∀ {ks : List ByteArray} (i : Nat), AscK ks → Asc (keySl i ks)
  | [], _, _ => List.Pairwise.nil
  | k :: ks, i, h => by
    have h' := List.pairwise_cons.1 h
    exact List.pairwise_cons.2 ⟨fun s hs => h'.1 _ (keySl_mem hs).1, keySl_asc (i + 1) h'.2⟩
/-- The slot that refers to a node. -/
def slotOf (nd : Nd) : Sl := ⟨nd.low, nd.id⟩
/-- The slots of the level above, for the first nodes of a row. -/
structure AboveOk (row : List Nd) (i : Nat) (A : List Sl) (hide : Bool) : Prop where
  mem : ∀ s, s ∈ A → ∃ nd, nd ∈ row.take i ∧ s = slotOf nd
  asc : Asc A
  len : A.length ≤ i
  first : 0 < i → ∃ s, A[0]? = some s ∧ s.k = ⟨#[]⟩
  full : hide = false → A = (row.take i).map slotOf
theorem RowOk.low_lt {lev : Nat} {row : List Nd} (h : RowOk lev row) : ∀ (j i : Nat) (a b : Nd), row[i]? = some a → row[j]? = some b → i < j → klt a.low b.low = true
  | 0, _, _, _, _, _, hij => by omega
  | j + 1, i, a, b, ha, hb, hij => by
    obtain ⟨c, hc⟩ : ∃ c, row[j]? = some c := ⟨_, List.getElem?_eq_getElem (by have := (List.getElem?_eq_some_iff.1 hb).1; omega)⟩
    have h1 := (h.next j c b hc hb).2.2.2
    rcases Nat.eq_or_lt_of_le (show i ≤ j by omega) with rfl | hlt
    · rw [ha] at hc; cases hc; exact h1
    · exact klt_trans (RowOk.low_lt h j i a c ha hc hlt) h1
theorem AboveOk.start (row : List Nd) (hide : Bool) : AboveOk row 0 [] hide := ⟨fun s h => (by cases h), List.Pairwise.nil, Nat.le_refl _, fun h => by omega, fun _ => rfl⟩
theorem AboveOk.skip {row : List Nd} {i : Nat} {A : List Sl} {hide : Bool} (h : AboveOk row i A hide) (hi : 0 < i) (hh : hide = true) : AboveOk row (i + 1) A hide := by
  refine ⟨fun s hs => ?_, h.asc, by have := h.len; omega, fun _ => h.first hi, fun e => by rw [hh] at e; cases e⟩
  obtain ⟨nd, hn, e⟩ := h.mem s hs
  refine ⟨nd, ?_, e⟩
  obtain ⟨j, hj⟩ := List.getElem?_of_mem hn
  have hji : j < i := by
    have := (List.getElem?_eq_some_iff.1 hj).1; simp at this; omega
  rw [List.getElem?_take, if_pos hji] at hj
  exact List.mem_of_getElem? (i := j) (by rw [List.getElem?_take, if_pos (by omega)]; exact hj)
theorem AboveOk.push {lev : Nat} {row : List Nd} {i : Nat} {A : List Sl} {hide : Bool} (h : AboveOk row i A hide) (hr : RowOk lev row) {nd : Nd} (hn : row[i]? = some nd) : AboveOk row (i + 1) (A ++ [slotOf nd]) hide := by
  have et : row.take (i + 1) = row.take i ++ [nd] := by rw [List.take_add_one, hn]; rfl
  refine ⟨fun s hs => ?_, ?_, by have := h.len; simp; omega, fun _ => ?_, fun e => ?_⟩
  · rcases List.mem_append.1 hs with hs | hs
    · obtain ⟨a, ha, e⟩ := h.mem s hs
      exact ⟨a, by rw [et]; simp [ha], e⟩
    · simp at hs; exact ⟨nd, by rw [et]; simp, hs⟩
  · refine List.pairwise_append.2 ⟨h.asc, List.pairwise_singleton _ _, fun x hx y hy => ?_⟩
    simp at hy; subst hy
    obtain ⟨a, ha, rfl⟩ := h.mem x hx
    obtain ⟨j, hj⟩ := List.getElem?_of_mem ha
    have hji : j < i := by
      have := (List.getElem?_eq_some_iff.1 hj).1; simp at this; omega
    rw [List.getElem?_take, if_pos hji] at hj
    exact hr.low_lt i j a nd hj hn hji
  · rcases Nat.eq_zero_or_pos i with h0 | h0
    · subst h0
      have : A = [] := List.length_eq_zero_iff.1 (by have := h.len; omega)
      subst this
      exact ⟨slotOf nd, rfl, hr.first nd hn⟩
    · obtain ⟨s, hs, e⟩ := h.first h0
      exact ⟨s, by rw [List.getElem?_append_left (List.getElem?_eq_some_iff.1 hs).1]; exact hs, e⟩
  · rw [et, List.map_append, h.full e]; rfl
theorem mkRow_flat (lev : Nat) : ∀ (ps : List Nat) (low : ByteArray) (id : Int) (l : List Sl), ps.sum = l.length → 0 < ps.length → (mkRow lev low id l ps).flatMap (fun nd => nd.pg.sl) = l
  | [], _, _, _, _, h => by simp at h
  | [p], _, _, l, h, _ => by
    have h' : p = l.length := by simpa using h
    simp [mkRow, h']
  | p :: q :: ps, low, id, l, h, _ => by
    show l.take p ++ (mkRow lev _ _ (l.drop p) (q :: ps)).flatMap _ = l
    have hs : p + (q :: ps).sum = l.length := by simpa using h
    rw [mkRow_flat lev (q :: ps) _ _ (l.drop p) (by rw [List.length_drop]; omega) (by simp), List.take_append_drop]
end Go.Proofs.YtlpdhhhgckpcfaaGreat

namespace Go.Proofs.YtlpdhhhgckpcfaaGreat
open Go.RowKit
set_option maxRecDepth 100000
/-- An upper bound of the number of nodes from a level with m slots on. -/
def fbF : Nat → Nat → Nat
  | 0, _ => 0
  | f + 1, m => if m ≤ 2 then 1 else (m + 1) / 2 + fbF f ((m + 1) / 2)
def fb (m : Nat) : Nat := fbF 10 m
theorem fb_mono : ∀ m, m ≤ 40 → ∀ s, s ≤ m → fb s ≤ fb m := by decide +kernel
theorem fb_half : ∀ m, m ≤ 40 → 3 ≤ m → (m + 1) / 2 + fb ((m + 1) / 2) ≤ fb m := by decide +kernel
theorem Holds.frame {d : Cfg} (hd : d.Ok) {id : Int} (h1 : 1 ≤ id) (h2 : id ≤ d.no) {L L' : List Cel} {pg : Pg} (hle : (pg.sl.length : Int) ≤ d.fa) (h : Holds L (pgPts d id pg)) (he : ∀ k : Int, 1 ≤ k → k < d.fa + 4 → getC L' (d.node id k) = getC L (d.node id k)) : Holds L' (pgPts d id pg) := fun q hq => by
  obtain ⟨k, k1, k2, e⟩ := pgPts_addr hd h1 h2 hle q hq
  rw [← h q hq, e]
  exact he k k1 k2
/-- The last node of a row has no high key. -/
theorem RowOk.la_hi {lev : Nat} {row : List Nd} (h : RowOk lev row) {nd : Nd} (hn : nd ∈ row) (hla : nd.pg.la = true) : nd.pg.hi = ⟨#[]⟩ ∧ nd.pg.ri = 0 := by
  obtain ⟨i, hi⟩ := List.getElem?_of_mem hn
  have hil := (List.getElem?_eq_some_iff.1 hi).1
  rcases Nat.lt_or_ge (i + 1) row.length with hlt | hge
  · have := (h.next i nd _ hi (List.getElem?_eq_getElem hlt)).1
    rw [hla] at this; cases this
  · exact (h.last i nd hi (by omega)).2
theorem plantRow_holds {d : Cfg} {row : List Nd} (hd : d.Ok) : ∀ {L : List Cel}, (L.length : Int) = d.cells → RowIds d row → (∀ nd, nd ∈ row → nd.pg.la = true → nd.pg.hi = ⟨#[]⟩) → ∀ nd, nd ∈ row → Holds (plantRow d L row) (pgPts d nd.id nd.pg) := by
  induction row with
  | nil => intro L _ _ _ nd h; cases h
  | cons a row ih =>
    intro L hlen hr hla nd hn
    have hr' : RowIds d row := ⟨fun a ha => hr.id a (by simp [ha]), fun a ha => hr.le a (by simp [ha]), fun a ha => hr.lev a (by simp [ha]), fun a ha => hr.ri a (by simp [ha]), fun a ha => hr.rf a (by simp [ha]), (List.pairwise_cons.1 hr.ne).2⟩
    have hln : ((putPg d a.id a.pg L).length : Int) = d.cells := by rw [putPg_length]; exact hlen
    rcases List.mem_cons.1 hn with rfl | hn'
    · have hp := putPg_holds hd (hr.id nd (by simp)).1 (hr.id nd (by simp)).2 hlen (hr.le nd (by simp)) (hla nd (by simp))
      refine hp.frame hd (hr.id nd (by simp)).1 (hr.id nd (by simp)).2 (hr.le nd (by simp)) (fun k k1 k2 => ?_)
      refine plantRow_other hd.fa1 (fun b hb => hr'.le b hb) (fun b hb k' a1 a2 => ?_)
      exact node_apart hd (hr.id nd (by simp)).1 (hr.id nd (by simp)).2 (hr'.id b hb).1 (hr'.id b hb).2 (by omega) k2 (by omega) a2 ((List.pairwise_cons.1 hr.ne).1 b hb)
    · exact ih hln hr' (fun b hb => hla b (by simp [hb])) nd hn'
/-- The cells that are neither the root, nor nodes' cells, nor the counters of nodes and chains. -/
def RestC (d : Cfg) (j : Int) : Prop := (1 ≤ j ∧ j < d.A ∧ j ≠ 4 ∧ j ≠ 5) ∨ d.B ≤ j
theorem RestC.node {d : Cfg} (hd : d.Ok) {j : Int} (h : RestC d j) {id k : Int} (h1 : 1 ≤ id) (h2 : id ≤ d.no) (hk : 0 ≤ k) (hk2 : k < d.fa + 4) : j ≠ d.node id k := by
  have h0 := node_in hd h1 h2 hk hk2
  have hA := hd.A_bd
  have f1 := hd.fa1
  have m1 : (id - 1) * (d.fa + 4) + (d.fa + 4) = id * (d.fa + 4) := by rw [Int.sub_mul]; omega
  have m2 : id * (d.fa + 4) ≤ d.no * (d.fa + 4) := Int.mul_le_mul_of_nonneg_right h2 (by omega)
  have m3 : 0 ≤ (id - 1) * (d.fa + 4) := Int.mul_nonneg (by omega) (by omega)
  have eB : d.B = d.A + d.no * (d.fa + 4) := rfl
  rcases h with h | h <;> omega
/-- Between two levels. -/
structure PlI (d : Cfg) (ks : List ByteArray) (hide : Bool) (L : List Cel) (S : List Sl) (t : List (List Nd)) (nx : Nat) : Prop where
  clen : (L.length : Int) = d.cells
  cels : CelsOk L
  lat : ∀ id : Int, 1 ≤ id → id ≤ d.no → getC L (d.node id 0) = Cel.zero
  zero : ∀ j : Int, RestC d j → getC L j = Cel.zero
  n5 : getC L 5 = ⟨ks.length, ⟨#[]⟩, 0⟩
  rows : ∀ (k : Nat) (l : List Nd), t[k]? = some l → RowOk k l
  nodes : ∀ (k : Nat) (l : List Nd), t[k]? = some l → ∀ nd, nd ∈ l → NdOk d L nd ∧ nd.id < nx
  down : ∀ (k : Nat) (l l' : List Nd), t[k]? = some l → t[k + 1]? = some l' → (∀ nd, nd ∈ l' → (∃ s r, nd.pg.sl = s :: r ∧ s.k = nd.low) ∧ ∀ s, s ∈ nd.pg.sl → ∃ c, c ∈ l ∧ c.id = s.r ∧ c.low = s.k) ∧ (hide = false → l'.flatMap (fun nd => nd.pg.sl) = l.map slotOf)
  count : (t.map List.length).sum + 1 = nx
  leaves : ∀ l, t[0]? = some l → l.flatMap (fun nd => nd.pg.sl) = keySl 0 ks
  asc : Asc S
  rf : ∀ s, s ∈ S → 1 ≤ s.r ∧ s.r ≤ 1000000
  s0 : t = [] → S = keySl 0 ks
  s1 : t ≠ [] → S ≠ [] ∧ (∀ s, S[0]? = some s → s.k = ⟨#[]⟩) ∧ ∃ l, t[t.length - 1]? = some l ∧ (∀ s, s ∈ S → ∃ c, c ∈ l ∧ c.id = s.r ∧ c.low = s.k) ∧ (hide = false → S = l.map slotOf)
section
variable {d : Cfg} {ks : List ByteArray} {hide : Bool} {L : List Cel} {S : List Sl} {t : List (List Nd)} {nx : Nat}
theorem PlI.start (hd : d.Ok) (hk : AscK ks) (hlen : ks.length ≤ 40) (hL : CelsOk L) (hcl : (L.length : Int) = d.cells) (hlat : ∀ id : Int, 1 ≤ id → id ≤ d.no → getC L (d.node id 0) = Cel.zero) (hzero : ∀ j : Int, RestC d j → getC L j = Cel.zero) (hn5 : getC L 5 = ⟨ks.length, ⟨#[]⟩, 0⟩) : PlI d ks hide L (keySl 0 ks) [] 1 :=
  ⟨hcl, hL, hlat, hzero, hn5, fun k l h => by simp at h, fun k l h => by simp at h, fun k l l' h => by simp at h, rfl, fun l h => by simp at h, keySl_asc 0 hk, fun s hs => by have := (keySl_mem hs).2; omega, fun _ => rfl, fun h => absurd rfl h⟩
theorem row_ids (hd : d.Ok) (h : PlI d ks hide L S t nx) {ps : List Nat} (hp : PartsOk S ps) (hfa : ∀ p, p ∈ ps → (p : Int) ≤ d.fa) (hnx : 1 ≤ nx) (hno : ((nx + ps.length : Nat) : Int) ≤ d.no + 1) (hlev : t.length ≤ 1000) :
    RowIds d (mkRow t.length ⟨#[]⟩ nx S ps) := by
  have hno2 := hd.no2
  have at' : ∀ nd, nd ∈ mkRow t.length ⟨#[]⟩ nx S ps → ∃ (i p : Nat), (mkRow t.length ⟨#[]⟩ nx S ps)[i]? = some nd ∧ ps[i]? = some p ∧ i < ps.length ∧ nd.id = nx + i ∧ nd.pg.lev = t.length ∧ nd.pg.sl = (S.drop (ps.take i).sum).take p ∧ ((i + 1 = ps.length ∧ nd.pg.ri = 0) ∨ (i + 1 < ps.length ∧ nd.pg.ri = nx + i + 1)) := by
    intro nd hn
    obtain ⟨i, hi⟩ := List.getElem?_of_mem hn
    obtain ⟨p, q1, q2, q3, q4, q5, q6⟩ := page_at hp hi
    refine ⟨i, p, hi, q1, (List.getElem?_eq_some_iff.1 q1).1, q2, q3, q4, ?_⟩
    rcases q6 with ⟨a, b⟩ | ⟨a, b⟩
    · rw [b]; exact .inl ⟨a, rfl⟩
    · rw [b]; exact .inr ⟨a, rfl⟩
  refine ⟨fun nd hn => ?_, fun nd hn => ?_, fun nd hn => ?_, fun nd hn => ?_, fun nd hn s hs => ?_, ?_⟩
  · obtain ⟨i, p, _, _, hi, e, _⟩ := at' nd hn
    rw [e]; omega
  · obtain ⟨i, p, _, hpi, hi, _, _, e, _⟩ := at' nd hn
    rw [e]
    have := hfa p (List.mem_of_getElem? hpi)
    have h2 : ((S.drop (ps.take i).sum).take p).length ≤ p := List.length_take_le _ _
    omega
  · obtain ⟨i, p, _, _, hi, _, e, _⟩ := at' nd hn
    rw [e]; omega
  · obtain ⟨i, p, _, _, hi, _, _, _, e⟩ := at' nd hn
    rcases e with ⟨_, e⟩ | ⟨_, e⟩ <;> rw [e] <;> omega
  · obtain ⟨i, hi⟩ := List.getElem?_of_mem hn
    have := h.rf s (slots_at hp hi hs).1
    omega
  · rw [List.pairwise_iff_getElem]
    intro i j hi hj hij
    obtain ⟨_, _, e1, _⟩ := page_at hp (List.getElem?_eq_getElem hi)
    obtain ⟨_, _, e2, _⟩ := page_at hp (List.getElem?_eq_getElem hj)
    rw [e1, e2]; omega
theorem NdOk.frame (hd : d.Ok) {L' : List Cel} {nd : Nd} (h : NdOk d L nd) (he : ∀ k : Int, 0 ≤ k → k < d.fa + 4 → getC L' (d.node nd.id k) = getC L (d.node nd.id k)) : NdOk d L' nd :=
  ⟨h.id, h.page.frame h.id.1 h.id.2 hd.fa1 (fun k a b => he k (by omega) b), h.hold.frame hd h.id.1 h.id.2 h.page.le (fun k a b => he k (by omega) b), by rw [he 0 (by omega) (by have := hd.fa1; omega)]; exact h.free, h.asc, h.rf, h.bd⟩
theorem getElem?_push {α : Type} (l : List α) (a : α) (k : Nat) (x : α) (h : (l ++ [a])[k]? = some x) : l[k]? = some x ∨ (k = l.length ∧ x = a) := by
  rcases Nat.lt_or_ge k l.length with hk | hk
  · left; rwa [List.getElem?_append_left hk] at h
  · right
    rw [List.getElem?_append_right hk] at h
    have : k - l.length = 0 := by
      have := (List.getElem?_eq_some_iff.1 h).1; simp at this; omega
    rw [this] at h
    exact ⟨by omega, by simpa using h.symm⟩
/-- A level more. -/
theorem PlI.step (hd : d.Ok) (h : PlI d ks hide L S t nx) {ps : List Nat} {A : List Sl} (hp : PartsOk S ps) (hfa : ∀ p, p ∈ ps → (p : Int) ≤ d.fa) (hnx : 1 ≤ nx) (hno : ((nx + ps.length : Nat) : Int) ≤ d.no + 1) (hlev : t.length ≤ 1000)
    (hA : AboveOk (mkRow t.length ⟨#[]⟩ nx S ps) ps.length A hide) : PlI d ks hide (plantRow d L (mkRow t.length ⟨#[]⟩ nx S ps)) A (t ++ [mkRow t.length ⟨#[]⟩ nx S ps]) (nx + ps.length) := by
  have hids := row_ids hd h hp hfa hnx hno hlev
  have hrow := mkRow_ok (lev := t.length) (id := (nx : Int)) hp
  have hrl := mkRow_length t.length ps ⟨#[]⟩ (nx : Int) S
  have hflat := mkRow_flat t.length ps ⟨#[]⟩ (nx : Int) S hp.sum hp.ne
  have hf1 := hd.fa1
  have hat := plantRow_at hd h.clen hids
  have hfirst : t ≠ [] → ∀ nd, nd ∈ mkRow t.length ⟨#[]⟩ nx S ps → ∃ s r, nd.pg.sl = s :: r ∧ s.k = nd.low := fun ht nd hn => by
    obtain ⟨i, hi⟩ := List.getElem?_of_mem hn
    obtain ⟨q1, q2, _⟩ := h.s1 ht
    exact node_first hp (by rcases t with _ | _; exact absurd rfl ht; simp) q2 q1 hi
  have hidge : ∀ nd, nd ∈ mkRow t.length ⟨#[]⟩ nx S ps → (nx : Int) ≤ nd.id ∧ nd.id < ((nx + ps.length : Nat) : Int) := fun nd hn => by
    obtain ⟨i, hi⟩ := List.getElem?_of_mem hn
    obtain ⟨p, q1, q2, _⟩ := page_at hp hi
    have := (List.getElem?_eq_some_iff.1 q1).1
    rw [q2]; omega
  have hslots : ∀ nd, nd ∈ mkRow t.length ⟨#[]⟩ nx S ps → ∀ s, s ∈ nd.pg.sl → s ∈ S ∧ klt s.k nd.low = false ∧ (nd.pg.la = false → klt s.k nd.pg.hi = true) := fun nd hn s hs => by
    obtain ⟨i, hi⟩ := List.getElem?_of_mem hn
    exact slots_at hp hi hs
  have hasc : ∀ nd, nd ∈ mkRow t.length ⟨#[]⟩ nx S ps → Asc nd.pg.sl := fun nd hn => by
    obtain ⟨i, hi⟩ := List.getElem?_of_mem hn
    exact nodeAsc hp hi
  generalize mkRow t.length ⟨#[]⟩ nx S ps = row at *
  have hoth : ∀ id : Int, 1 ≤ id → id ≤ d.no → id < nx → ∀ k : Int, 0 ≤ k → k < d.fa + 4 → getC (plantRow d L row) (d.node id k) = getC L (d.node id k) := by
    intro id i1 i2 i3 k k0 k1
    refine plantRow_other hf1 hids.le (fun nd hn k' a b => ?_)
    have := hidge nd hn
    exact node_apart hd i1 i2 (hids.id nd hn).1 (hids.id nd hn).2 k0 k1 (by omega) b (by omega)
  have hlat : ∀ id : Int, 1 ≤ id → id ≤ d.no → getC (plantRow d L row) (d.node id 0) = Cel.zero := by
    intro id i1 i2
    rw [plantRow_other hf1 hids.le (fun nd hn k' a b => ?_)]
    · exact h.lat id i1 i2
    · by_cases e : id = nd.id
      · subst e; exact node_ne hd i1 i2 (by omega) (by omega) (by omega) b (by omega)
      · exact node_apart hd i1 i2 (hids.id nd hn).1 (hids.id nd hn).2 (by omega) (by omega) (by omega) b e
  have hnew : ∀ nd, nd ∈ row → NdOk d (plantRow d L row) nd := fun nd hn =>
    ⟨hids.id nd hn, hat nd hn, plantRow_holds hd h.clen hids (fun b hb hl => (hrow.la_hi hb hl).1) nd hn, by rw [hlat nd.id (hids.id nd hn).1 (hids.id nd hn).2]; exact LatFree.zero, hasc nd hn, fun s hs => (h.rf s (hslots nd hn s hs).1).1, fun s hs => (hslots nd hn s hs).2⟩
  have hAmem : ∀ s, s ∈ A → ∃ nd, nd ∈ row ∧ s = slotOf nd := fun s hs => by
    obtain ⟨nd, hn, e⟩ := hA.mem s hs
    exact ⟨nd, List.mem_of_mem_take hn, e⟩
  have hzero : ∀ j : Int, RestC d j → getC (plantRow d L row) j = Cel.zero := fun j hj => by
    rw [plantRow_other hf1 hids.le (fun nd hn k' a b => hj.node hd (hids.id nd hn).1 (hids.id nd hn).2 (by omega) b)]
    exact h.zero j hj
  have hn5 : getC (plantRow d L row) 5 = ⟨ks.length, ⟨#[]⟩, 0⟩ := by
    rw [plantRow_other hf1 hids.le (fun nd hn k' a b => ?_)]
    · exact h.n5
    · have hA := hd.A_bd
      have h0 := (node_in hd (hids.id nd hn).1 (hids.id nd hn).2 (k := k') (by omega) b).1
      have m3 : 0 ≤ (nd.id - 1) * (d.fa + 4) := Int.mul_nonneg (by have := (hids.id nd hn).1; omega) (by omega)
      omega
  refine ⟨by rw [plantRow_length]; exact h.clen, plantRow_cels hd hids h.cels, hlat, hzero, hn5, fun k l hk => ?_, fun k l hk nd hn => ?_, fun k l l' hk hk' => ?_, ?_, fun l hl => ?_, hA.asc, fun s hs => ?_, fun e => by simp at e, fun _ => ⟨?_, fun s hs => ?_, row, by simp, fun s hs => ?_, fun e => ?_⟩⟩
  · rcases getElem?_push _ _ _ _ hk with hk | ⟨rfl, rfl⟩
    · exact h.rows k l hk
    · exact hrow
  · rcases getElem?_push _ _ _ _ hk with hk | ⟨rfl, rfl⟩
    · obtain ⟨q1, q2⟩ := h.nodes k l hk nd hn
      exact ⟨q1.frame hd (fun k a b => hoth nd.id q1.id.1 q1.id.2 q2 k a b), by push_cast; omega⟩
    · exact ⟨hnew nd hn, (hidge nd hn).2⟩
  · rcases getElem?_push _ _ _ _ hk with hk1 | ⟨rfl, rfl⟩
    · rcases getElem?_push _ _ _ _ hk' with hk2 | ⟨e, rfl⟩
      · exact h.down k l l' hk1 hk2
      · have ht : t ≠ [] := fun e2 => by subst e2; simp at hk1
        obtain ⟨q1, q2, l2, q3, q4, q5⟩ := h.s1 ht
        rw [show t.length - 1 = k by omega, hk1] at q3
        cases q3
        refine ⟨fun nd hn => ⟨hfirst ht nd hn, fun s hs => q4 s (hslots nd hn s hs).1⟩, fun e => by rw [hflat]; exact q5 e⟩
    · have := (List.getElem?_eq_some_iff.1 hk').1
      simp at this
  · rw [List.map_append, List.sum_append]
    have := h.count
    simp only [List.map_cons, List.map_nil, List.sum_cons, List.sum_nil, hrl]
    omega
  · rcases getElem?_push _ _ _ _ hl with hl | ⟨e, rfl⟩
    · exact h.leaves l hl
    · rw [hflat]
      exact h.s0 (List.length_eq_zero_iff.1 e.symm)
  · obtain ⟨nd, hn, rfl⟩ := hAmem s hs
    have := hids.id nd hn
    have hno2 := hd.no2
    show 1 ≤ nd.id ∧ nd.id ≤ 1000000
    omega
  · obtain ⟨s, hs, _⟩ := hA.first hp.ne
    intro e; rw [e] at hs; simp at hs
  · obtain ⟨s', hs', e⟩ := hA.first hp.ne
    rw [hs] at hs'; cases hs'; exact e
  · obtain ⟨nd, hn, rfl⟩ := hAmem s hs
    exact ⟨nd, hn, rfl, rfl⟩
  · rw [hA.full e, ← hrl, List.take_length]
/-- A planted tree. -/
structure TreeX (d : Cfg) (ks : List ByteArray) (hide : Bool) (L : List Cel) (t : List (List Nd)) : Prop where
  ok : TreeOk d L t
  cels : CelsOk L
  clen : (L.length : Int) = d.cells
  leaves : ∀ l, t[0]? = some l → l.flatMap (fun nd => nd.pg.sl) = keySl 0 ks
  full : hide = false → ∀ (k : Nat) (l l' : List Nd), t[k]? = some l → t[k + 1]? = some l' → l'.flatMap (fun nd => nd.pg.sl) = l.map slotOf
  lat : ∀ id : Int, 1 ≤ id → id ≤ d.no → getC L (d.node id 0) = Cel.zero
  zero : ∀ j : Int, RestC d j → getC L j = Cel.zero
  n5 : (getC L 5).n = ks.length
  c100 : (t.map List.length).sum ≤ 100
theorem PlI.last (hd : d.Ok) (h : PlI d ks hide L S t nx) {nd : Nd} (ht : t[t.length - 1]? = some [nd]) (hid : nd.id = (nx : Int) - 1) (hnx : nx ≤ 101) {L' : List Cel} (h0 : (getC L' 0).n = (nx : Int) - 1) (h4 : (getC L' 4).n = (nx : Int) - 1) (hoth : ∀ j : Int, 1 ≤ j → j ≠ 4 → getC L' j = getC L j) (hc : CelsOk L') (hcl : L'.length = L.length) : TreeX d ks hide L' t := by
  have htl : 0 < t.length := by
    have := (List.getElem?_eq_some_iff.1 ht).1; omega
  have hf1 := hd.fa1
  have hA := hd.A_bd
  have hnode : ∀ id k : Int, 1 ≤ id → id ≤ d.no → 0 ≤ k → k < d.fa + 4 → 8 ≤ d.node id k := fun id k i1 i2 a b => by
    have n0 := (node_in hd i1 i2 a b).1
    have m3 : 0 ≤ (id - 1) * (d.fa + 4) := Int.mul_nonneg (by omega) (by omega)
    omega
  have hid2 := ((h.nodes _ _ ht nd (by simp)).1).id
  refine ⟨⟨htl, h.rows, fun k l hk nd hn => ?_, ⟨nd, [], ht, by rw [h0, hid]⟩, fun k l l' hk hk' => (h.down k l l' hk hk').1, by have := h.count; omega, by omega, fun k l hk nd hn => by have := (h.nodes k l hk nd hn).2; rw [h4]; omega⟩, hc, by rw [hcl]; exact h.clen, h.leaves, fun e k l l' hk hk' => (h.down k l l' hk hk').2 e, fun id a b => ?_, fun j hj => ?_, ?_, by have := h.count; omega⟩
  · have q := (h.nodes k l hk nd hn).1
    exact q.frame hd (fun k a b => hoth _ (by have := hnode nd.id k q.id.1 q.id.2 a b; omega) (by have := hnode nd.id k q.id.1 q.id.2 a b; omega))
  · rw [hoth _ (by have := hnode id 0 a b (by omega) (by omega); omega) (by have := hnode id 0 a b (by omega) (by omega); omega)]
    exact h.lat id a b
  · have hB : d.A ≤ d.B := by
      have := Int.mul_nonneg (a := d.no) (b := d.fa + 4) (by have := hd.no1; omega) (by omega)
      show d.A ≤ d.A + d.no * (d.fa + 4)
      omega
    rw [hoth j (by rcases hj with h | h <;> omega) (by rcases hj with h | h <;> omega)]
    exact h.zero j hj
  · rw [hoth 5 (by omega) (by omega), h.n5]
end
end Go.Proofs.YtlpdhhhgckpcfaaGreat

namespace Go.Proofs.YtlpdhhhgckpcfaaGreat
end Go.Proofs.YtlpdhhhgckpcfaaGreat
