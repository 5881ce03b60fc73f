/- blinktreekit.Keys: the keys of raw ones, in ascending order. A slice of strings that came in, as a function of the index. blinktreekit.Keys: the whole. -/
import Derived.Test.YtfgjanponijkhaaKeys
import Derived.Test.YtfgjanponijkhaaPageIn
namespace Go.Proofs.Ytfgjanponijkhaa
open Go.RowKit
set_option maxRecDepth 100000

def enCells (k : ByteArray) : List Value := [.string k, .string ⟨#[]⟩]
def enRow (l : List ByteArray) : List Value := l.flatMap enCells
theorem enRow_length (l : List ByteArray) : (enRow l).length = l.length * 2 := by
  induction l with
  | nil => rfl
  | cons s l ih => rw [show enRow (s :: l) = enCells s ++ enRow l from rfl, List.length_append, ih]; simp [enCells]; omega
theorem enRow_at (l : List ByteArray) : ∀ (i : Nat) (s : ByteArray), l[i]? = some s → (enRow l)[i * 2]? = some (.string s) ∧ (enRow l)[i * 2 + 1]? = some (.string ⟨#[]⟩) := by
  induction l with
  | nil => intro i s h; simp at h
  | cons a l ih =>
    intro i s h
    have e : enRow (a :: l) = .string a :: .string ⟨#[]⟩ :: enRow l := rfl
    rw [e]
    cases i with
    | zero => simp at h; subst h; exact ⟨rfl, rfl⟩
    | succ i =>
      have := ih i s (by simpa using h)
      rw [show (i + 1) * 2 = i * 2 + 2 by omega]
      simpa using this
theorem enRow_push (l : List ByteArray) (k : ByteArray) : enRow (l ++ [k]) = enRow l ++ enCells k := by simp [enRow]
def AscK (l : List ByteArray) : Prop := l.Pairwise fun x y => klt x y = true
theorem infoEntry : (Try.prog.info? 229).map (fun i => (i.zero, i.size, i.bytes)) = some (some (.agg #[.string ⟨#[]⟩, .string ⟨#[]⟩]), 2, 32) := by kernel_rfl
theorem infoString : (Try.prog.info? 9).map (fun i => (i.zero, i.size, i.bytes)) = some (some (.string ⟨#[]⟩), 1, 16) := by kernel_rfl

/-- Put, in the middle: i elements have been looked at. -/
structure PutI (ks : List ByteArray) (key : ByteArray) (i : Nat) (b : Bool) (out : List ByteArray) : Prop where
  before : b = false → ∀ x, x ∈ out → klt x key = true
  asc : AscK out
  later : ∀ x, x ∈ out → ∀ (j : Nat) (y : ByteArray), i ≤ j → ks[j]? = some y → y ≠ key → klt x y = true
  len : out.length ≤ i + (if b then 1 else 0)
  mem : ∀ x, x ∈ out → x = key ∨ x ∈ ks
theorem asc_push {out : List ByteArray} {y : ByteArray} (h : AscK out) (hy : ∀ x, x ∈ out → klt x y = true) : AscK (out ++ [y]) := by
  refine List.pairwise_append.2 ⟨h, List.pairwise_singleton _ _, fun x hx z hz => ?_⟩
  simp at hz; subst hz
  exact hy x hx
theorem asc_at {ks : List ByteArray} (h : AscK ks) {i j : Nat} {x y : ByteArray} (hx : ks[i]? = some x) (hy : ks[j]? = some y) (hij : i < j) : klt x y = true := by
  have := List.pairwise_iff_getElem.1 h i j (List.getElem?_eq_some_iff.1 hx).1 (List.getElem?_eq_some_iff.1 hy).1 hij
  rwa [(List.getElem?_eq_some_iff.1 hx).2, (List.getElem?_eq_some_iff.1 hy).2] at this
section
variable {ks : List ByteArray} {key : ByteArray} {i : Nat} {out : List ByteArray}
theorem PutI.start : PutI ks key 0 false [] := ⟨fun _ x h => (by cases h), List.Pairwise.nil, fun x h => (by cases h), by simp, fun x h => (by cases h)⟩
/-- The key itself comes ahead of an element that is not less. -/
theorem PutI.own (h : PutI ks key i false out) (hk : AscK ks) {y : ByteArray} (hy : ks[i]? = some y) (hle : klt y key = false) : PutI ks key i true (out ++ [key]) := by
  refine ⟨fun e => (by cases e), asc_push h.asc (h.before rfl), fun x hx j z hj hz hne => ?_, by have := h.len; simp at this ⊢; omega, fun x hx => ?_⟩
  · rcases List.mem_append.1 hx with hx | hx
    · exact h.later x hx j z hj hz hne
    · simp at hx; subst hx
      cases e : klt x z with
      | true => rfl
      | false =>
        have hzx : klt z x = false := by
          rcases Nat.eq_or_lt_of_le hj with rfl | hlt
          · rw [hy] at hz; cases hz; exact hle
          · cases e2 : klt z x with
            | false => rfl
            | true => have := klt_trans (asc_at hk hy hz hlt) e2; rw [hle] at this; cases this
        exact absurd (klt_total hzx e) hne
  · rcases List.mem_append.1 hx with hx | hx
    · exact h.mem x hx
    · simp at hx; exact .inl hx
/-- An element other than the key. -/
theorem PutI.elem {b : Bool} (h : PutI ks key i b out) (hk : AscK ks) {y : ByteArray} (hy : ks[i]? = some y) (hne : y ≠ key) (hb : b = false → klt y key = true) : PutI ks key (i + 1) b (out ++ [y]) := by
  refine ⟨fun e x hx => ?_, asc_push h.asc (fun x hx => h.later x hx i y (Nat.le_refl _) hy hne), fun x hx j z hj hz hnz => ?_, by have := h.len; simp at this ⊢; omega, fun x hx => ?_⟩
  · rcases List.mem_append.1 hx with hx | hx
    · exact h.before e x hx
    · simp at hx; subst hx; exact hb e
  · rcases List.mem_append.1 hx with hx | hx
    · exact h.later x hx j z (by omega) hz hnz
    · simp at hx; subst hx; exact asc_at hk hy hz (by omega)
  · rcases List.mem_append.1 hx with hx | hx
    · exact h.mem x hx
    · simp at hx; subst hx; exact .inr (List.mem_of_getElem? hy)
/-- The key's old place. -/
theorem PutI.skip {b : Bool} (h : PutI ks key i b out) : PutI ks key (i + 1) b out :=
  ⟨h.before, h.asc, fun x hx j z hj hz hne => h.later x hx j z (by omega) hz hne, by have := h.len; omega, h.mem⟩
theorem PutI.last (h : PutI ks key i false out) : AscK (out ++ [key]) ∧ (out ++ [key]).length ≤ i + 1 ∧ ∀ x, x ∈ out ++ [key] → x = key ∨ x ∈ ks := by
  refine ⟨asc_push h.asc (h.before rfl), by have := h.len; simp at this ⊢; omega, fun x hx => ?_⟩
  rcases List.mem_append.1 hx with hx | hx
  · exact h.mem x hx
  · simp at hx; exact .inl hx
end

section
variable {K : Know} {w : World} {F : List Comp} {ks : List ByteArray} {key : ByteArray} {v : Value}
set_option maxHeartbeats 8000000 in
theorem put15_st (hk : AscK ks) (hlen : ks.length ≤ 1000) (hs : St K w (rowC v 229 2 ks.length (enRow ks) :: F)) :
    Calls Try.prog 165 #[v, .agg #[.string key, .string ⟨#[]⟩]] w fun e w' => ∃ (v' : Value) (ks' : List ByteArray), e = .returned v' ∧ Hid (AscK ks' ∧ ks'.length ≤ ks.length + 1 ∧ ∀ x, x ∈ ks' → x = key ∨ x ∈ ks) ∧ St K w' (rowC v' 229 2 ks'.length (enRow ks') :: rowC v 229 2 ks.length (enRow ks) :: F) := by
  obtain ⟨a, cap, rfl, _, _⟩ := hs.row_read
  obtain ⟨n, hn⟩ : ∃ n, n = ks.length := ⟨_, rfl⟩
  have hs := hs.made (.cells #[.string key, .string ⟨#[]⟩] 229)
  have Hk := Lib.hid hk
  have Hn := Lib.hid hn
  rw [← hn] at hlen hs ⊢
  obtain ⟨iv, hiv0, hiv1, hiv2, hiv3⟩ := info_parts infoEntry
  have Hi0 := Lib.hid hiv0
  have Hi1 := Lib.hid hiv1
  have Hi2 := Lib.hid hiv2
  have Hi3 := Lib.hid hiv3
  clear hiv0 hiv1 hiv2 hiv3 hk hn
  obtain ⟨bx, hbx⟩ : ∃ bx, bx = w.heap.size := ⟨_, rfl⟩
  have hs := hs.row_nil (T := 229) (size := 2)
  go_enter Try.func165, Try.ntmps165
  go_wp2
  rw [← hbx] at hs ⊢
  clear hbx
  go_loopw [5, 6, 7] (fun v5 v6 v7 wr => ∃ (i : Nat) (b : Bool) (out : List ByteArray) (ao : Option Addr) (co : Nat), v5 = .slice ao out.length co ∧ v6 = .bool b ∧ v7 = .int .i64 i ∧ i ≤ n ∧ Hid (PutI ks key i b out) ∧
    St K wr (rowC (.slice ao out.length co) 229 2 out.length (enRow out) :: blk bx (.cells #[.string key, .string ⟨#[]⟩] 229) :: rowC (.slice a n cap) 229 2 n (enRow ks) :: F)) (fun _ _ v7 _ => n - (intOf v7).toNat)
  case atStart => exact ⟨0, false, [], none, 0, rfl, rfl, rfl, by omega, Lib.hid PutI.start, hs⟩
  case round =>
    clear hs
    obtain ⟨i, b, out, ao, co, rfl, rfl, rfl, hi, HP, hs⟩ := hrel
    have hol : out.length ≤ 1001 := by have := HP.out.len; split at this <;> omega
    by_cases hin : i < n
    · obtain ⟨y, hy⟩ : ∃ y, ks[i]? = some y := ⟨_, List.getElem?_eq_getElem (by have := Hn.out; omega)⟩
      obtain ⟨r0, r1⟩ := enRow_at ks i y hy
      obtain ⟨g, rfl, c0⟩ := hs.b2.row_at r0
      obtain ⟨g1, e1, c1⟩ := hs.b2.row_at r1
      obtain rfl : g1 = g := by simpa using e1.symm
      clear e1 r0 r1
      have kx := hs.k1
      have Hy := Lib.hid hy
      clear hy
      go_upto_region 6 with (fail)
      go_cut [25] (fun v25 wx => v25 = .bool (!b && !klt y key) ∧ St K wx (rowC (.slice ao out.length co) 229 2 out.length (enRow out) :: blk bx (.cells #[.string key, .string ⟨#[]⟩] 229) :: rowC (.slice (some ⟨g1, 0, none⟩) n cap) 229 2 n (enRow ks) :: F))
      case first =>
        as_aux_lemma =>
        refine region_pure (by kernel_rfl) (by kernel_rfl) ?_
        cases b with
        | true =>
          repeat (go_big_quiet_step (fail))
          refine wpQuiet_nil ?_
          intro w2 hb2
          have hs := hs.same hb2
          clear kx c0 c1 hb2
          go_wp2
          go_meet
          exact ⟨rfl, hs⟩
        | false =>
          repeat (go_big_quiet_step (fail))
          refine wpQuiet_nil ?_
          intro w2 hb2
          have hs := hs.same hb2
          clear kx c0 c1 hb2
          go_wp2
          go_meet
          exact ⟨rfl, hs⟩
      case rest =>
        clear hs kx c0 c1
        obtain ⟨rfl, hs⟩ := hcut
        apply_assumption
        go_cut [5, 6] (fun v5 v6 wx => ∃ (b' : Bool) (out' : List ByteArray) (ao' : Option Addr) (co' : Nat), v5 = .slice ao' out'.length co' ∧ v6 = .bool b' ∧ Hid (PutI ks key i b' out' ∧ (b' = false → klt y key = true)) ∧
          St K wx (rowC (.slice ao' out'.length co') 229 2 out'.length (enRow out') :: blk bx (.cells #[.string key, .string ⟨#[]⟩] 229) :: rowC (.slice (some ⟨g1, 0, none⟩) n cap) 229 2 n (enRow ks) :: F))
        case first =>
          as_aux_lemma =>
          cases hc : (!b && !klt y key) with
          | true =>
            obtain ⟨rfl, hle⟩ : b = false ∧ klt y key = false := by cases b <;> simp_all
            have Hle := Lib.hid hle
            have kx := hs.k1
            clear hc hle
            go_wp2_with (at_builtin; refine append_st _ _ 226 229 _ out.length 2 32 _ [.string key, .string ⟨#[]⟩] (.agg #[.string ⟨#[]⟩, .string ⟨#[]⟩]) iv hs rfl rfl Try.underlying226 Hi0.out Hi1.out Hi2.out Hi3.out rfl (by decide) rfl rfl rfl (fun u hu => by simp at hu; rcases hu with rfl | rfl <;> rfl) (by omega) (by decide) ?_)
            clear hs kx
            intro v' w' hs
            obtain ⟨ao', co', hv, _, _⟩ := hs.row_read
            subst hv
            go_wp2
            go_meet
            exact ⟨true, out ++ [key], ao', co', by rw [List.length_append]; rfl, rfl, Lib.hid ⟨HP.out.own Hk.out Hy.out Hle.out, fun e => (by cases e)⟩, by rw [enRow_push, List.length_append]; exact hs⟩
          | false =>
            have Hc := Lib.hid hc
            clear hc
            go_wp2
            go_meet
            exact ⟨b, out, ao, co, rfl, rfl, Lib.hid ⟨HP.out, fun e => by have := Hc.out; subst e; simpa using this⟩, hs⟩
        case rest =>
          clear hs
          obtain ⟨b', out', ao', co', rfl, rfl, HP', hs⟩ := hcut
          have hol' : out'.length ≤ 1001 := by have := HP'.out.1.len; split at this <;> omega
          obtain ⟨r0, r1⟩ := enRow_at ks i y Hy.out
          have c0 := hs.b2.row_cell r0
          have c1 := hs.b2.row_cell r1
          have kx := hs.k1
          clear r0 r1 HP
          go_upto_region 9 with (fail)
          refine region_pure (by kernel_rfl) (by kernel_rfl) ?_
          repeat (go_big_quiet_step (fail))
          refine wpQuiet_nil ?_
          intro w2 hb2
          have hs := hs.same hb2
          clear kx c0 c1 hb2
          by_cases hyk : y = key
          · obtain rfl := hyk
            have he : (y.toList == y.toList) = true := beq_self_eq_true _
            rw [he]
            go_wp2
            go_roundw
            case rel => exact ⟨i + 1, b', out', ao', co', rfl, rfl, by go_num, by omega, Lib.hid HP'.out.1.skip, hs⟩
            case measure => simp [intOf]; omega
          · have he := key_eq_false hyk
            rw [he]
            have Hne := Lib.hid hyk
            obtain ⟨r0, r1⟩ := enRow_at ks i y Hy.out
            have c0 := hs.b2.row_cell r0
            have c1 := hs.b2.row_cell r1
            clear r0 r1 hyk
            go_wp2_with (at_builtin; refine append_st _ _ 226 229 _ out'.length 2 32 _ [.string y, .string ⟨#[]⟩] (.agg #[.string ⟨#[]⟩, .string ⟨#[]⟩]) iv hs rfl rfl Try.underlying226 Hi0.out Hi1.out Hi2.out Hi3.out rfl (by decide) rfl rfl rfl (fun u hu => by simp at hu; rcases hu with rfl | rfl <;> rfl) (by omega) (by decide) ?_)
            clear hs c0 c1
            intro v' w' hs
            obtain ⟨ao2, co2, hv, _, _⟩ := hs.row_read
            subst hv
            go_wp2
            go_roundw
            case rel => exact ⟨i + 1, b', out' ++ [y], ao2, co2, by rw [List.length_append]; rfl, rfl, by go_num, by omega, Lib.hid (HP'.out.1.elem Hk.out Hy.out Hne.out HP'.out.2), by rw [enRow_push, List.length_append]; exact hs⟩
            case measure => simp [intOf]; omega
    · obtain rfl : i = n := by omega
      cases b with
      | true =>
        go_wp2
        go_ret
        exact ⟨_, out, rfl, Lib.hid ⟨HP.out.asc, HP.out.len, HP.out.mem⟩, hs.drop1⟩
      | false =>
        have kx := hs.k1
        go_wp2_with (at_builtin; refine append_st _ _ 226 229 _ out.length 2 32 _ [.string key, .string ⟨#[]⟩] (.agg #[.string ⟨#[]⟩, .string ⟨#[]⟩]) iv hs rfl rfl Try.underlying226 Hi0.out Hi1.out Hi2.out Hi3.out rfl (by decide) rfl rfl rfl (fun u hu => by simp at hu; rcases hu with rfl | rfl <;> rfl) (by omega) (by decide) ?_)
        clear hs kx
        intro v' w' hs
        obtain ⟨ao2, co2, hv, _, _⟩ := hs.row_read
        subst hv
        go_wp2
        go_ret
        exact ⟨_, out ++ [key], rfl, Lib.hid HP.out.last, by rw [enRow_push, List.length_append]; exact hs.drop1⟩
end
end Go.Proofs.Ytfgjanponijkhaa

namespace Go.Proofs.Ytfgjanponijkhaa
open Go.Joins Go.ChangeShapes Go.WideShapes Go.ChangeAt Go.RowKit Go.Deep
set_option maxRecDepth 100000

def StrsIn (w : World) (a : Option Addr) (len : Nat) (f : Nat → ByteArray) : Prop :=
  len ≤ maxLen ∧ ∀ i, i < len → ∃ b off, a = some ⟨b, off, none⟩ ∧ b < w.heap.size ∧ w.cell? ⟨b, off + i, none⟩ = some (.string (f i)) ∧ (f i).size ≤ maxLen
theorem StrsIn.keep {w w' : World} {a : Option Addr} {len : Nat} {f : Nat → ByteArray} (h : StrsIn w a len f) (hb : Below w.heap.size w w') : StrsIn w' a len f :=
  ⟨h.1, fun i hi => by
    obtain ⟨b, off, e, hlt, hc, hw⟩ := h.2 i hi
    exact ⟨b, off, e, Nat.lt_of_lt_of_le hlt hb.size, by rw [hb.cell (p := ⟨b, _, none⟩) hlt]; exact hc, hw⟩⟩

theorem open_strs {H : Type} {enc : TypeId × Value → H} {w : World} {base : Nat} {spare : Nat → Bool} {held : Bool} {a : Option Addr} {len cap : Nat} {d : DataW H} {p : List MemPlace}
    (h : DataW.Trod enc Try.prog w base spare held 106 (.slice a len cap) d p) : ∃ f : Nat → ByteArray, StrsIn w a len f := by
  obtain ⟨fuel, hf⟩ := h
  rcases open_slice Try.underlying106 hf with ⟨hcs, _⟩ | ⟨x, l, c, m, n, D, Pl, hcs, _, hl, hcap, hm, _, hx⟩
  · simp [Value.cells] at hcs
    obtain ⟨rfl, rfl, rfl⟩ := hcs
    exact ⟨fun _ => ⟨#[]⟩, by simp [maxLen], fun i hi => by omega⟩
  · simp [Value.cells] at hcs
    obtain ⟨rfl, rfl, rfl⟩ := hcs
    have hlm : len ≤ m := by rw [hm]; split <;> omega
    have ce : Try.prog.cellsOf 9 = 1 := by kernel_rfl
    have each : ∀ i, i < len → ∃ q : ByteArray, w.cell? (x.add i) = some (.string q) ∧ q.size ≤ maxLen := by
      intro i hi
      obtain ⟨cs', h1, h2⟩ := hx i (by omega)
      rw [ce, Nat.mul_one] at h1
      obtain ⟨_, hlen, hcell⟩ := World.cells?_some h1
      match cs', hlen with
      | [v0], _ =>
        have e0 := hcell 0 (by omega)
        rw [add_add] at e0
        obtain ⟨a0, q0, _, w0⟩ := DataW.trod_string Try.underlying9 h2
        simp only [List.cons.injEq, and_true] at q0
        subst q0
        exact ⟨a0, by simpa using e0, w0⟩
    obtain ⟨f, hf'⟩ := choose_lt each
    refine ⟨f, by omega, fun i hi => ?_⟩
    have h0 := (hf' 0 (by omega)).1
    rw [show x.add 0 = x from rfl] at h0
    have hsp : x.spot = none := by
      cases hs : x.spot with
      | none => rfl
      | some s =>
        simp only [World.cell?, hs] at h0
        split at h0 <;> simp at h0
    obtain ⟨b, off, sp⟩ := x
    simp only at hsp
    subst hsp
    obtain ⟨k0, r⟩ := hf' i hi
    rw [add_plain] at k0
    exact ⟨b, off, rfl, World.block_lt_of_cell? _ _ k0, k0, r⟩
end Go.Proofs.Ytfgjanponijkhaa

namespace Go.Proofs.Ytfgjanponijkhaa
open Go.RowKit
set_option maxRecDepth 100000
def stRow (l : List ByteArray) : List Value := l.map Value.string
theorem stRow_push (l : List ByteArray) (k : ByteArray) : stRow (l ++ [k]) = stRow l ++ [.string k] := by simp [stRow]
/-- What Keys returns. -/
structure KeysOk (most : Nat) (ks : List ByteArray) : Prop where
  asc : AscK ks
  len : ks.length ≤ most
  size : ∀ x, x ∈ ks → x.size ≤ 32
section
variable {w0 w : World} {F : List Comp} {a : Option Addr} {len cap most : Nat} {f : Nat → ByteArray}
set_option maxHeartbeats 8000000 in
theorem keys_st (hz : StrsIn w0 a len f) (hm : most ≤ 100) (hs : St (Know.of w0) w F) :
    Calls Try.prog 127 #[.slice a len cap, .int .i64 most] w fun e w' => ∃ (v : Value) (ks : List ByteArray), e = .returned v ∧ Hid (KeysOk most ks) ∧ St (Know.of w0) w' (rowC v 9 1 ks.length (stRow ks) :: F) := by
  have hl := hz.1
  simp only [maxLen] at hl
  have Hz := Lib.hid hz
  obtain ⟨iv, hiv0, hiv1, hiv2, hiv3⟩ := info_parts infoString
  have Hi0 := Lib.hid hiv0
  have Hi1 := Lib.hid hiv1
  have Hi2 := Lib.hid hiv2
  have Hi3 := Lib.hid hiv3
  clear hiv0 hiv1 hiv2 hiv3 hz
  have hs := hs.row_nil (T := 229) (size := 2)
  go_enter Try.func127, Try.ntmps127
  go_wp2
  go_loopw [5, 6, 7] (fun v5 v6 _ wr => ∃ (i : Nat) (ks : List ByteArray) (ao : Option Addr) (co : Nat), v5 = .slice ao ks.length co ∧ v6 = .int .i64 i ∧ i ≤ len ∧ i ≤ most ∧ Hid (KeysOk i ks) ∧
    St (Know.of w0) wr (rowC (.slice ao ks.length co) 229 2 ks.length (enRow ks) :: F)) (fun _ v6 _ _ => len - (intOf v6).toNat)
  case atStart => exact ⟨0, [], none, 0, rfl, rfl, by omega, by omega, Lib.hid ⟨List.Pairwise.nil, Nat.le_refl _, fun x h => (by cases h)⟩, hs⟩
  case round =>
    clear hs
    obtain ⟨i, ks, ao, co, rfl, rfl, hi, him, HK, hs⟩ := hrel
    have hol : ks.length ≤ 100 := by have := HK.out.len; omega
    by_cases hin : i < len ∧ i < most
    · obtain ⟨h1, h2⟩ := hin
      obtain ⟨qb, qoff, rfl, hqlt, kq, hsz⟩ := Hz.out.2 i h1
      rw [← (hs.below (Know.Le.refl _)).cell (p := ⟨qb, _, none⟩) hqlt] at kq
      simp only [maxLen] at hsz
      generalize f i = y at kq hsz
      by_cases h32 : y.size ≤ 32
      · go_wp2_with fail
        refine (put15_st HK.out.asc (by omega) hs).mono ?_
        clear hs kq
        rintro e w2 ⟨v', ks', rfl, HK', hs⟩
        obtain ⟨ao', co', rfl, _, _⟩ := hs.row_read
        have hs := hs.drop1
        go_wp2
        go_roundw
        case rel => exact ⟨i + 1, ks', ao', co', rfl, by go_num, by omega, by omega, Lib.hid ⟨HK'.out.1, by have := HK'.out.2.1; have := HK.out.len; omega, fun x hx => by rcases HK'.out.2.2 x hx with rfl | hx; exact h32; exact HK.out.size x hx⟩, hs⟩
        case measure => simp [intOf]; omega
      · have h32' : ¬ ((y.size : Int) ≤ 32) := by omega
        go_wp2_with fail
        refine (put15_st HK.out.asc (by omega) hs).mono ?_
        clear hs kq
        rintro e w2 ⟨v', ks', rfl, HK', hs⟩
        obtain ⟨ao', co', rfl, _, _⟩ := hs.row_read
        have hs := hs.drop1
        go_wp2
        go_roundw
        case rel => exact ⟨i + 1, ks', ao', co', rfl, by go_num, by omega, by omega, Lib.hid ⟨HK'.out.1, by have := HK'.out.2.1; have := HK.out.len; omega, fun x hx => by rcases HK'.out.2.2 x hx with rfl | hx; exact (by rw [ByteArray.size_extract]; omega); exact HK.out.size x hx⟩, hs⟩
        case measure => simp [intOf]; omega
    · obtain ⟨n, hn⟩ : ∃ n, n = ks.length := ⟨_, rfl⟩
      have Hn := Lib.hid hn
      rw [← hn] at hs hol ⊢
      clear hn
      have hs := hs.row_nil (T := 9) (size := 1)
      have Hks : Hid (KeysOk most ks) := Lib.hid ⟨HK.out.asc, by have := HK.out.len; omega, HK.out.size⟩
      by_cases h1 : i < len
      · have h2 : ¬ i < most := fun h => hin ⟨h1, h⟩
        go_wp2
        clear h1 h2 hin
        go_loopw [8, 9] (fun v8 v9 wr => ∃ (j : Nat) (ao' : Option Addr) (co' : Nat), v8 = .slice ao' j co' ∧ v9 = .int .i64 j ∧ j ≤ n ∧
          St (Know.of w0) wr (rowC (.slice ao' j co') 9 1 j (stRow (ks.take j)) :: rowC (.slice ao n co) 229 2 n (enRow ks) :: F)) (fun _ v9 _ => n - (intOf v9).toNat)
        case atStart => exact ⟨0, none, 0, rfl, rfl, by omega, hs⟩
        case round =>
          clear hs
          obtain ⟨j, ao', co', rfl, rfl, hj, hs⟩ := hrel
          by_cases hjn : j < n
          · obtain ⟨y, hy⟩ : ∃ y, ks[j]? = some y := ⟨_, List.getElem?_eq_getElem (by have := Hn.out; omega)⟩
            obtain ⟨r0, r1⟩ := enRow_at ks j y hy
            obtain ⟨g, rfl, c0⟩ := hs.b1.row_at r0
            have hpush : ks.take (j + 1) = ks.take j ++ [y] := by rw [List.take_add_one, hy]; rfl
            have Hpush := Lib.hid hpush
            clear r0 r1 hy hpush
            go_wp2_with (at_builtin; refine append_st _ _ 106 9 _ j 1 16 _ [.string y] (.string ⟨#[]⟩) iv hs rfl rfl Try.underlying106 Hi0.out Hi1.out Hi2.out Hi3.out rfl (by decide) rfl rfl rfl (fun u hu => by simp at hu; subst hu; rfl) (by omega) (by decide) ?_)
            clear hs c0
            intro v' w' hs
            obtain ⟨ao2, co2, hv, _, _⟩ := hs.row_read
            subst hv
            go_wp2
            go_roundw
            case rel => exact ⟨j + 1, ao2, co2, rfl, by go_num, by omega, by rw [Hpush.out, stRow_push]; exact hs⟩
            case measure => simp [intOf]; omega
          · obtain rfl : j = n := by omega
            go_wp2
            go_ret
            refine ⟨_, ks, rfl, Hks, ?_⟩
            have e : ks.take j = ks := List.take_of_length_le (by rw [← Hn.out]; exact Nat.le_refl _)
            rw [e] at hs
            rw [← Hn.out]
            exact hs.drop1
      · go_wp2
        clear h1 hin
        go_loopw [8, 9] (fun v8 v9 wr => ∃ (j : Nat) (ao' : Option Addr) (co' : Nat), v8 = .slice ao' j co' ∧ v9 = .int .i64 j ∧ j ≤ n ∧
          St (Know.of w0) wr (rowC (.slice ao' j co') 9 1 j (stRow (ks.take j)) :: rowC (.slice ao n co) 229 2 n (enRow ks) :: F)) (fun _ v9 _ => n - (intOf v9).toNat)
        case atStart => exact ⟨0, none, 0, rfl, rfl, by omega, hs⟩
        case round =>
          clear hs
          obtain ⟨j, ao', co', rfl, rfl, hj, hs⟩ := hrel
          by_cases hjn : j < n
          · obtain ⟨y, hy⟩ : ∃ y, ks[j]? = some y := ⟨_, List.getElem?_eq_getElem (by have := Hn.out; omega)⟩
            obtain ⟨r0, r1⟩ := enRow_at ks j y hy
            obtain ⟨g, rfl, c0⟩ := hs.b1.row_at r0
            have hpush : ks.take (j + 1) = ks.take j ++ [y] := by rw [List.take_add_one, hy]; rfl
            have Hpush := Lib.hid hpush
            clear r0 r1 hy hpush
            go_wp2_with (at_builtin; refine append_st _ _ 106 9 _ j 1 16 _ [.string y] (.string ⟨#[]⟩) iv hs rfl rfl Try.underlying106 Hi0.out Hi1.out Hi2.out Hi3.out rfl (by decide) rfl rfl rfl (fun u hu => by simp at hu; subst hu; rfl) (by omega) (by decide) ?_)
            clear hs c0
            intro v' w' hs
            obtain ⟨ao2, co2, hv, _, _⟩ := hs.row_read
            subst hv
            go_wp2
            go_roundw
            case rel => exact ⟨j + 1, ao2, co2, rfl, by go_num, by omega, by rw [Hpush.out, stRow_push]; exact hs⟩
            case measure => simp [intOf]; omega
          · obtain rfl : j = n := by omega
            go_wp2
            go_ret
            refine ⟨_, ks, rfl, Hks, ?_⟩
            have e : ks.take j = ks := List.take_of_length_le (by rw [← Hn.out]; exact Nat.le_refl _)
            rw [e] at hs
            rw [← Hn.out]
            exact hs.drop1
end
end Go.Proofs.Ytfgjanponijkhaa
