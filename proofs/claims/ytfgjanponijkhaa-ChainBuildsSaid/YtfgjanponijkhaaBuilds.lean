/- What ChainBuilds keeps from step to step; further contracts for it. -/
import Derived.Test.YtfgjanponijkhaaLaw10b
namespace Go.Proofs.Ytfgjanponijkhaa
open Go.RowKit
set_option maxRecDepth 100000

/-- After k steps: nx records have been used, the clock shows now, the chain is vs, rs are the records that were stamped. -/
structure B4 (d : Cfg) (k nx : Nat) (now : Int) (L : List Cel) (vs : List Ver) (rs : List Int) : Prop where
  nx_le : nx ≤ k
  now0 : 0 ≤ now
  now_le : now ≤ 2 * k
  c : ChOk d 1 L vs nx
  z : (getC L (d.chain 2)).n = 0
  len : vs.length ≤ nx
  rlen : rs.length ≤ nx
  last : ∀ v us, vs = v :: us → 0 < rs.length ∧ rs[rs.length - 1]? = some v.r

section
variable {d : Cfg} (hd : d.Ok) (hch : 100 ≤ d.ch) (hre : 100 ≤ d.re) {k nx : Nat} {now : Int} {L : List Cel} {vs : List Ver} {rs : List Int}
include hd hch
theorem chain2_record {r j : Int} {c : Cel} (h1 : 1 ≤ r) (h2 : r ≤ d.re) (hj : 0 ≤ j) (hj2 : j ≤ 2) : getC (putC L (d.record r j) c) (d.chain 2) = getC L (d.chain 2) :=
  getC_ne (chain_ne_record hd (by omega) (by omega) h1 h2 hj hj2)
theorem chain2_chain {c : Cel} : getC (putC L (d.chain 1) c) (d.chain 2) = getC L (d.chain 2) := by
  have h1 := chain_in hd (c := 1) (by omega) (by omega)
  have h2 := chain_in hd (c := 2) (by omega) (by omega)
  exact getC_ne (by omega)
theorem chain2_install {r : Int} {c : Cel} (h1 : 1 ≤ r) (h2 : r ≤ d.re) : getC (it (inStep d 1 r c) 4 (⟨0, 0⟩, L)).2 (d.chain 2) = getC L (d.chain 2) := by
  have e : (it (inStep d 1 r c) 4 (⟨0, 0⟩, L)).2 = putC (putC (putC L (d.record r 1) c) (d.record r 2) ⟨(getC L (d.chain 1)).n, ⟨#[]⟩, 0⟩) (d.chain 1) ⟨r, ⟨#[]⟩, 0⟩ := rfl
  rw [e, chain2_chain hd hch, chain2_record hd hch h1 h2 (by omega) (by omega), chain2_record hd hch h1 h2 (by omega) (by omega)]

omit hd hch in
theorem B4.old (h : B4 d k nx now L vs rs) : (vs = [] → (getC L (d.chain 1)).n = 0) ∧ (∀ v us, vs = v :: us → (getC L (d.chain 1)).n = v.r) := by
  refine ⟨fun e => ?_, fun v us e => ?_⟩
  · subst e; exact h.c.link
  · subst e; exact h.c.link.1
theorem B4.cut (h : B4 d k nx now L vs rs) {fl : Int} {L' : List Cel} (hc : CutOf d L vs L') (hl : Linked d L' (getC L' (d.chain 1)).n (vcut fl vs)) : B4 d (k + 1) nx now L' (vcut fl vs) rs := by
  refine ⟨by have := h.nx_le; omega, h.now0, by have := h.now_le; omega, h.c.cut hd hc hl (vcut_sub _ _), ?_, Nat.le_trans (vcut_sub _ _).length_le h.len, h.rlen, fun v us e => ?_⟩
  · rcases hc with rfl | ⟨v, hv, rfl⟩
    · exact h.z
    · have b := h.c.link.bd v hv
      rw [chain2_record hd hch b.1 b.2 (by omega) (by omega)]; exact h.z
  · cases vs with
    | nil => cases e
    | cons a vs =>
      have ha : v = a := by
        unfold vcut at e
        split at e <;> (simp only [List.cons.injEq] at e; exact e.1.symm)
      subst ha
      exact h.last v vs rfl
theorem B4.back (h : B4 d k nx now L vs rs) {kk : ByteArray} {del : Bool} (h0 : del = true → kk = ⟨#[]⟩) (hk : nx + 1 ≤ 100) (hre : 100 ≤ d.re) {L3 : List Cel} (e : (it (inStep d 1 ((nx : Int) + 1) (valC kk del)) 4 (⟨0, 0⟩, L)).2 = L3) :
    B4 d (k + 1) (nx + 1) now (putC L3 (d.chain 1) ⟨(getC L (d.chain 1)).n, ⟨#[]⟩, 0⟩) vs rs := by
  obtain ⟨_, _, L3', _, _, _, e4, _, _, c3, e5⟩ := in_steps hd (ch := 1) ⟨by omega, by omega⟩ h.c (r := (nx : Int) + 1) (by omega) (by omega) (by omega) h0
  have he : L3' = L3 := by rw [← e, e4]
  subst he
  refine ⟨by have := h.nx_le; omega, h.now0, by have := h.now_le; omega, ?_, ?_, by have := h.len; omega, by have := h.rlen; omega, h.last⟩
  · exact_mod_cast c3.back hd ⟨by omega, by omega⟩ e5.symm
  · rw [chain2_chain hd hch, ← e, chain2_install hd hch (by omega) (by omega)]; exact h.z
theorem B4.stamp (h : B4 d k nx now L vs rs) {kk : ByteArray} {del : Bool} (h0 : del = true → kk = ⟨#[]⟩) (hk : nx + 1 ≤ 100) (hre : 100 ≤ d.re) {L3 : List Cel} (e : (it (inStep d 1 ((nx : Int) + 1) (valC kk del)) 4 (⟨0, 0⟩, L)).2 = L3) {t : Int} (ht : 0 ≤ t ∧ t ≤ now + 2 ∧ t < 18446744073709551616) :
    B4 d (k + 1) (nx + 1) t (putC L3 (d.record ((nx : Int) + 1) 0) ⟨t, ⟨#[]⟩, 0⟩) (⟨(nx : Int) + 1, t, kk, del⟩ :: vs) (rs ++ [(nx : Int) + 1]) := by
  obtain ⟨_, _, L3', _, _, _, e4, _, _, c3, e5⟩ := in_steps hd (ch := 1) ⟨by omega, by omega⟩ h.c (r := (nx : Int) + 1) (by omega) (by omega) (by omega) h0
  have he : L3' = L3 := by rw [← e, e4]
  subst he
  refine ⟨by have := h.nx_le; omega, ht.1, by have := h.now_le; omega, ?_, ?_, by simp; have := h.len; omega, by simp; have := h.rlen; omega, fun v us e => ?_⟩
  · exact_mod_cast c3.stamp hd ⟨by omega, by omega⟩ (t := t) ⟨ht.1, ht.2.2⟩
  · rw [chain2_record hd hch (by omega) (by omega) (by omega) (by omega), ← e, chain2_install hd hch (by omega) (by omega)]; exact h.z
  · simp only [List.cons.injEq] at e
    obtain ⟨rfl, rfl⟩ := e
    simp
/-- The chain behind Install. -/
theorem B4.top (h : B4 d k nx now L vs rs) {kk : ByteArray} {del : Bool} (h0 : del = true → kk = ⟨#[]⟩) (hk : nx + 1 ≤ 100) (hre : 100 ≤ d.re) {L3 : List Cel} (e : (it (inStep d 1 ((nx : Int) + 1) (valC kk del)) 4 (⟨0, 0⟩, L)).2 = L3) :
    ChOk d 1 L3 (⟨(nx : Int) + 1, 0, kk, del⟩ :: vs) ((nx : Int) + 1) ∧ it (inStep d 1 ((nx : Int) + 1) (valC kk del)) 4 (⟨0, 0⟩, L) = (⟨4, (getC L (d.chain 1)).n⟩, L3) := by
  obtain ⟨_, _, L3', _, _, _, e4, _, _, c3, e5⟩ := in_steps hd (ch := 1) ⟨by omega, by omega⟩ h.c (r := (nx : Int) + 1) (by omega) (by omega) (by omega) h0
  have he : L3' = L3 := by rw [← e, e4]
  subst he
  exact ⟨c3, e4⟩
end

theorem versAt_tail {w : World} {g off : Nat} {v : Ver} {vs : List Ver} (h : VersAt w (some ⟨g, off, none⟩) (v :: vs)) : VersAt w (some ⟨g, off + 3, none⟩) vs := by
  refine ⟨by have := h.1; simp at this; omega, fun i u hu => ?_⟩
  obtain ⟨b, o, e, hlt, c0, c1, c2⟩ := h.2 (i + 1) u (by simpa using hu)
  simp only [Option.some.injEq, Addr.mk.injEq, and_true] at e
  obtain ⟨rfl, rfl⟩ := e
  refine ⟨g, off + 3, rfl, hlt, ?_, ?_, ?_⟩
  · rw [show off + 3 + i * 3 = off + (i + 1) * 3 by omega]; exact c0
  · rw [show off + 3 + i * 3 + 1 = off + (i + 1) * 3 + 1 by omega]; exact c1
  · rw [show off + 3 + i * 3 + 2 = off + (i + 1) * 3 + 2 by omega]; exact c2
theorem versAt_nil (w : World) (a : Option Addr) : VersAt w a [] := ⟨by simp, fun i v h => by simp at h⟩

/-- Peek of a chain that does not exist. -/
theorem peekNone_any {d : Cfg} (hd : d.Ok) {K : Know} {F : List Comp} {w : World} {bm : Nat} (hs : St K w F) :
    Calls Try.prog 36 #[.agg #[.int .i64 d.th, .int .i64 d.sn, .int .i64 d.no, .int .i64 d.ch, .int .i64 d.re, .int .i64 d.fa, .int .u64 d.cl], .pointer (some ⟨bm, 0, none⟩), .int .u64 0] w fun e w' => e = .returned (.slice none 0 0) ∧ St K w' F := by
  have hs := hs.pass (.cells #[.int .i64 d.th, .int .i64 d.sn, .int .i64 d.no, .int .i64 d.ch, .int .i64 d.re, .int .i64 d.fa, .int .u64 d.cl] 30)
  have q := fun w => chain_any d hd 0 (by omega) (by omega) w
  rw [show d.chain 0 = -1 by unfold Cfg.chain; rw [if_neg (by omega)]] at q
  have Q := Lib.hid q
  clear q hd
  go_enter Try.func36, Try.ntmps36
  go_wp2_with fail
  refine (calls_same hs (Q.out _)).mono ?_
  clear hs
  rintro e w1 ⟨rfl, hs⟩
  go_wp2
  go_ret
  exact ⟨rfl, hs⟩

theorem infoU64 : (Try.prog.info? 23).map (fun i => (i.zero, i.size, i.bytes)) = some (some (.int .u64 0), 1, 8) := by kernel_rfl
end Go.Proofs.Ytfgjanponijkhaa
