/- blinktreelaw8's content: a page made from raw slots. -/
import Derived.Test.YtfgjanponijkhaaNodeLawA
import Derived.Test.YtfgjanponijkhaaPageIn
namespace Go.Proofs.Ytfgjanponijkhaa
open Go.RowKit
set_option maxRecDepth 100000

/-- The page that content makes. -/
def ctPg (d : Cfg) (level : Int) (len : Nat) (hi : ByteArray) (la : Bool) (ri : Int) (f : Nat → Sl) : Pg :=
  ⟨level, (List.range (min len d.fa.toNat)).map f, cond la ⟨#[]⟩ hi, la, ri⟩

theorem content_res (tmps : Array Value) (w : World) (b : Nat) (v0 v1 v2 v3 v4 : Value) (hp : tmps[6]? = some (.pointer (some ⟨b, 0, none⟩))) (hk : ∀ k, w.cell? ⟨b, k, none⟩ = (#[v0, v1, v2, v3, v4] : Array Value)[k]?) :
    (results Try.f20 tmps).run Try.prog w = .ok (.agg #[v0, v1, v2, v3, v4]) w := by
  simp [results, Try.results20, go_sem, hp, hk]

section
variable {K : Know} {w : World} {F : List Comp} {d : Cfg} {lev level ri : Int} {a : Option Addr} {len cap : Nat} {hi : ByteArray} {la : Bool} {f : Nat → Sl}
set_option maxHeartbeats 2000000 in
theorem content_st (hd : d.Ok) (hs : St K w F) (h : PgIn w lev a len cap hi ri f) :
    Calls Try.prog 20 #[.agg #[.int .i64 d.th, .int .i64 d.sn, .int .i64 d.no, .int .i64 d.ch, .int .i64 d.re, .int .i64 d.fa, .int .u64 d.cl], .agg #[.int .i64 lev, .slice a len cap, .string hi, .bool la, .int .u64 ri], .int .i64 level] w fun e w' => ∃ va, e = .returned (.agg #[.int .i64 ((ctPg d level len hi la ri f)).lev, va, .string ((ctPg d level len hi la ri f)).hi, .bool ((ctPg d level len hi la ri f)).la, .int .u64 ((ctPg d level len hi la ri f)).ri]) ∧
      St K w' (rowC va 132 2 (ctPg d level len hi la ri f).sl.length (slRow (ctPg d level len hi la ri f).sl) :: F) := by
  have f1 := hd.fa1
  have f2 := hd.fa2
  obtain ⟨n, hn⟩ : ∃ n, n = min len d.fa.toNat := ⟨_, rfl⟩
  have hnl : n ≤ len := by omega
  have hnf : (n : Int) ≤ d.fa := by omega
  have hmin : min (len : Int) d.fa = (n : Int) := by omega
  have hcap := h.cap
  have hlen := h.sl.1
  unfold maxLen at hcap hlen
  have hsl := h.sl.take hnl (by omega)
  have Hl := Lib.hid (show (slRow ((List.range n).map f)).length = n * 2 by rw [slRow_length]; simp)
  have H0 : Hid (a = none → n = 0) := Lib.hid (fun e => by subst e; have := hsl.no; simpa using this)
  have H1 := Lib.hid (slRow_one ((List.range n).map f))
  have Hg := Lib.hid hsl
  have Hp : Hid (∀ p, p = (List.range n).map f → p.length = n) := Lib.hid (fun p e => by rw [e]; simp)
  unfold ctPg
  rw [← hn]
  simp only [List.length_map, List.length_range]
  generalize (List.range n).map f = sl0 at *
  obtain ⟨iv, hiv0, hiv1, hiv2, hiv3⟩ := info_parts infoSlot
  have hlen' := hlen
  clear hlen hmin h hsl
  rcases (show (len : Int) ≤ d.fa ∨ d.fa < len by omega) with hb | hb
  · have e : len = n := by omega
    subst e
    clear hn
    have hs := ((hs.pass (.cells #[.int .i64 d.th, .int .i64 d.sn, .int .i64 d.no, .int .i64 d.ch, .int .i64 d.re, .int .i64 d.fa, .int .u64 d.cl] 27)).made (.cells #[.int .i64 lev, .slice a len cap, .string hi, .bool la, .int .u64 ri] 25)).made (.cells #[.int .i64 0, .slice none 0 0, .string ⟨#[]⟩, .bool false, .int .u64 0] 25)
    have h2 := ((Hg.out.same ((Below.refl w.heap.size w).alloc (Nat.le_refl _) (.cells #[.int .i64 d.th, .int .i64 d.sn, .int .i64 d.no, .int .i64 d.ch, .int .i64 d.re, .int .i64 d.fa, .int .u64 d.cl] 27))).same ((Below.refl _ _).alloc (Nat.le_refl _) (.cells #[.int .i64 lev, .slice a len cap, .string hi, .bool la, .int .u64 ri] 25))).same ((Below.refl _ _).alloc (Nat.le_refl _) (.cells #[.int .i64 0, .slice none 0 0, .string ⟨#[]⟩, .bool false, .int .u64 0] 25))
    have Hn := Lib.hid h2.news
    have Hs := Lib.hid (hs.row_nil (T := 132) (size := 2))
    obtain ⟨sl, hsl⟩ : ∃ sl, sl = slRow sl0 := ⟨_, rfl⟩
    rw [← hsl] at Hl H1 Hn ⊢
    clear hs h2 hsl
    go_enter Try.func20, Try.ntmps20
    go_wp2_with (at_builtin; refine append_row_st _ _ 22 132 _ 0 _ cap 2 24 [] sl (.agg #[.string ⟨#[]⟩, .int .u64 0]) iv a Hs.out rfl rfl Try.underlying22 hiv0 hiv1 hiv2 hiv3 rfl (by decide) rfl rfl Hl.out H0.out Hn.out H1.out (by omega) (by decide) ?_)
    intro v' w' hs
    obtain ⟨ao, capo, hv, _, _⟩ := hs.row_read
    subst hv
    have hs := hs.b2
    have kb := hs.k0
    have fb := hs.f0
    have kr := hs.k2
    have fr := hs.f2
    clear Hs Hl H0 H1 Hn Hg Hp
    cases la with
    | true =>
      have hs := (hs.setL 1 (.slice ao len capo)).setL 0 (.int .i64 level)
      have hs := hs.setL 2 (.string ⟨#[]⟩)
      simp only [List.set_cons_zero, List.set_cons_succ] at hs
      have hs := hs.b2
      have hs := ((((hs.setL 0 (.int .i64 level)).setL 1 (.slice ao len capo)).setL 2 (.string ⟨#[]⟩)).setL 3 (.bool true)).setL 4 (.int .u64 ri)
      simp only [List.set_cons_zero, List.set_cons_succ] at hs
      go_wp2
      refine bodyPost_ret (content_res _ _ (w.heap.size + 1 + 1) _ _ _ _ _ rfl hs.k0) rfl ⟨_, rfl, hs.tail.tail⟩
    | false =>
      have hs := (hs.setL 1 (.slice ao len capo)).setL 0 (.int .i64 level)
      simp only [List.set_cons_zero, List.set_cons_succ] at hs
      have hs := hs.b2
      have hs := ((((hs.setL 0 (.int .i64 level)).setL 1 (.slice ao len capo)).setL 2 (.string hi)).setL 3 (.bool false)).setL 4 (.int .u64 ri)
      simp only [List.set_cons_zero, List.set_cons_succ] at hs
      go_wp2
      refine bodyPost_ret (content_res _ _ (w.heap.size + 1 + 1) _ _ _ _ _ rfl hs.k0) rfl ⟨_, rfl, hs.tail.tail⟩
  · obtain rfl : n = d.fa.toNat := by omega
    clear hn
    have hf0 : 0 ≤ d.fa := by omega
    have hfc : d.fa ≤ (cap : Int) := by omega
    have hs := ((hs.pass (.cells #[.int .i64 d.th, .int .i64 d.sn, .int .i64 d.no, .int .i64 d.ch, .int .i64 d.re, .int .i64 d.fa, .int .u64 d.cl] 27)).made (.cells #[.int .i64 lev, .slice a len cap, .string hi, .bool la, .int .u64 ri] 25)).made (.cells #[.int .i64 0, .slice none 0 0, .string ⟨#[]⟩, .bool false, .int .u64 0] 25)
    have h2 := ((Hg.out.same ((Below.refl w.heap.size w).alloc (Nat.le_refl _) (.cells #[.int .i64 d.th, .int .i64 d.sn, .int .i64 d.no, .int .i64 d.ch, .int .i64 d.re, .int .i64 d.fa, .int .u64 d.cl] 27))).same ((Below.refl _ _).alloc (Nat.le_refl _) (.cells #[.int .i64 lev, .slice a len cap, .string hi, .bool la, .int .u64 ri] 25))).same ((Below.refl _ _).alloc (Nat.le_refl _) (.cells #[.int .i64 0, .slice none 0 0, .string ⟨#[]⟩, .bool false, .int .u64 0] 25))
    have Hn := Lib.hid h2.news
    have Hs := Lib.hid (hs.row_nil (T := 132) (size := 2))
    obtain ⟨sl, hsl⟩ : ∃ sl, sl = slRow sl0 := ⟨_, rfl⟩
    rw [← hsl] at Hl H1 Hn ⊢
    clear hs h2 hsl
    go_enter Try.func20, Try.ntmps20
    go_wp2_with (at_builtin; refine append_row_st _ _ 22 132 _ 0 _ cap 2 24 [] sl (.agg #[.string ⟨#[]⟩, .int .u64 0]) iv a Hs.out rfl rfl Try.underlying22 hiv0 hiv1 hiv2 hiv3 rfl (by decide) rfl rfl Hl.out H0.out Hn.out H1.out (by omega) (by decide) ?_)
    intro v' w' hs
    obtain ⟨ao, capo, hv, _, _⟩ := hs.row_read
    subst hv
    have hs := hs.b2
    have kb := hs.k0
    have fb := hs.f0
    have kr := hs.k2
    have fr := hs.f2
    clear Hs Hl H0 H1 Hn Hg Hp
    cases la with
    | true =>
      have hs := (hs.setL 1 (.slice ao d.fa.toNat capo)).setL 0 (.int .i64 level)
      have hs := hs.setL 2 (.string ⟨#[]⟩)
      simp only [List.set_cons_zero, List.set_cons_succ] at hs
      have hs := hs.b2
      have hs := ((((hs.setL 0 (.int .i64 level)).setL 1 (.slice ao d.fa.toNat capo)).setL 2 (.string ⟨#[]⟩)).setL 3 (.bool true)).setL 4 (.int .u64 ri)
      simp only [List.set_cons_zero, List.set_cons_succ] at hs
      go_wp2
      refine bodyPost_ret (content_res _ _ (w.heap.size + 1 + 1) _ _ _ _ _ rfl hs.k0) rfl ⟨_, rfl, hs.tail.tail⟩
    | false =>
      have hs := (hs.setL 1 (.slice ao d.fa.toNat capo)).setL 0 (.int .i64 level)
      simp only [List.set_cons_zero, List.set_cons_succ] at hs
      have hs := hs.b2
      have hs := ((((hs.setL 0 (.int .i64 level)).setL 1 (.slice ao d.fa.toNat capo)).setL 2 (.string hi)).setL 3 (.bool false)).setL 4 (.int .u64 ri)
      simp only [List.set_cons_zero, List.set_cons_succ] at hs
      go_wp2
      refine bodyPost_ret (content_res _ _ (w.heap.size + 1 + 1) _ _ _ _ _ rfl hs.k0) rfl ⟨_, rfl, hs.tail.tail⟩
end
end Go.Proofs.Ytfgjanponijkhaa
