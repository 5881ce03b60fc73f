/- Pages as values: slices of slots that are only read; clone; Page and NewRead (package node). -/
import Derived.Test.YtfgjanponijkhaaNode6
import Derived.Test.YtfgjanponijkhaaApp
namespace Go.Proofs.Ytfgjanponijkhaa
open Go.RowKit
set_option maxRecDepth 100000

theorem slRow_at (l : List Sl) : ∀ (i : Nat) (s : Sl), l[i]? = some s → (slRow l)[i * 2]? = some (.string s.k) ∧ (slRow l)[i * 2 + 1]? = some (.int .u64 s.r) := by
  induction l with
  | nil => intro i s h; simp at h
  | cons a l ih =>
    intro i s h
    have e : slRow (a :: l) = .string a.k :: .int .u64 a.r :: slRow l := rfl
    rw [e]
    cases i with
    | zero => simp at h; subst h; exact ⟨rfl, rfl⟩
    | succ i =>
      have := ih i s (by simpa using h)
      rw [show (i + 1) * 2 = i * 2 + 2 by omega]
      simpa using this
/-- A slice of slots. -/
def SlAt (w : World) (a : Option Addr) (l : List Sl) : Prop := l.length ≤ 1000000000 ∧ ∀ (i : Nat) (s : Sl), l[i]? = some s →
  ∃ b off, a = some ⟨b, off, none⟩ ∧ b < w.heap.size ∧ w.cell? ⟨b, off + i * 2, none⟩ = some (.string s.k) ∧ w.cell? ⟨b, off + i * 2 + 1, none⟩ = some (.int .u64 s.r)
theorem SlAt.same {w w' : World} {a : Option Addr} {l : List Sl} (h : SlAt w a l) (hb : Below w.heap.size w w') : SlAt w' a l :=
  ⟨h.1, fun i s hv => by
    obtain ⟨b, off, e, hlt, c0, c1⟩ := h.2 i s hv
    exact ⟨b, off, e, Nat.lt_of_lt_of_le hlt hb.size, by rw [hb.cell (p := ⟨b, _, none⟩) hlt]; exact c0, by rw [hb.cell (p := ⟨b, _, none⟩) hlt]; exact c1⟩⟩
theorem St.row_slots {K : Know} {w : World} {F : List Comp} {a : Option Addr} {n cap : Nat} {T : TypeId} {l : List Sl} (h : St K w (rowC (.slice a n cap) T 2 n (slRow l) :: F)) (hn : l.length ≤ 1000000000) : SlAt w a l := by
  refine ⟨hn, fun i s hs => ?_⟩
  obtain ⟨r0, r1⟩ := slRow_at l i s hs
  obtain ⟨g, e, c0⟩ := h.row_at r0
  obtain ⟨g1, e1, c1⟩ := h.row_at r1
  rw [e] at e1
  simp only [Option.some.injEq, Addr.mk.injEq, and_true] at e1
  subst e1
  exact ⟨g, 0, e, World.block_lt_of_cell? _ _ c0, by rw [Nat.zero_add]; exact c0, by rw [Nat.zero_add]; exact c1⟩
theorem SlAt.news {w : World} {a : Option Addr} {l : List Sl} (h : SlAt w a l) : ∀ j u, (slRow l)[j]? = some u → ∃ g off, a = some ⟨g, off, none⟩ ∧ w.cell? ⟨g, off + j, none⟩ = some u := by
  intro j u hu
  have hj : j < l.length * 2 := by rw [← slRow_length]; exact (List.getElem?_eq_some_iff.1 hu).1
  have hlt : j / 2 < l.length := by omega
  obtain ⟨s, hs⟩ : ∃ s, l[j / 2]? = some s := ⟨_, List.getElem?_eq_getElem hlt⟩
  obtain ⟨b, off, e, _, c0, c1⟩ := h.2 _ _ hs
  obtain ⟨r0, r1⟩ := slRow_at _ _ _ hs
  refine ⟨b, off, e, ?_⟩
  have hdm : j = j / 2 * 2 + j % 2 := by omega
  rcases (show j % 2 = 0 ∨ j % 2 = 1 by omega) with h3 | h3
  · rw [hdm, h3, Nat.add_zero] at hu ⊢
    rw [r0] at hu; rw [← hu]; exact c0
  · rw [hdm, h3] at hu ⊢
    rw [r1] at hu; rw [← hu]; rw [← Nat.add_assoc]; exact c1
theorem slRow_one (l : List Sl) : ∀ u, u ∈ slRow l → u.oneCell' = true := by
  intro u hu
  obtain ⟨s, _, hs⟩ := List.mem_flatMap.1 hu
  simp [slCells] at hs
  rcases hs with rfl | rfl <;> rfl
theorem SlAt.no {w : World} {l : List Sl} (h : SlAt w none l) : l = [] := by
  cases l with
  | nil => rfl
  | cons s l => obtain ⟨b, off, e, _⟩ := h.2 0 s rfl; cases e

theorem clone_res (tmps : Array Value) (w : World) (b : Nat) (v0 v1 v2 v3 v4 : Value) (hp : tmps[2]? = some (.pointer (some ⟨b, 0, none⟩))) (hk : ∀ k, w.cell? ⟨b, k, none⟩ = (#[v0, v1, v2, v3, v4] : Array Value)[k]?) :
    (results Try.f105 tmps).run Try.prog w = .ok (.agg #[v0, v1, v2, v3, v4]) w := by
  simp [results, Try.results105, go_sem, hp, hk]

section
variable {K : Know} {w : World} {F : List Comp} {pg : Pg} {a : Option Addr} {cap : Nat}
set_option maxHeartbeats 1000000 in
theorem clone_st (hs : St K w F) (h : SlAt w a pg.sl) :
    Calls Try.prog 105 #[.agg #[.int .i64 (pg).lev, (.slice a pg.sl.length cap), .string (pg).hi, .bool (pg).la, .int .u64 (pg).ri]] w fun e w' => ∃ va, e = .returned (.agg #[.int .i64 (pg).lev, va, .string (pg).hi, .bool (pg).la, .int .u64 (pg).ri]) ∧ St K w' (rowC va 132 2 pg.sl.length (slRow pg.sl) :: F) := by
  obtain ⟨n, hn⟩ : ∃ n, n = pg.sl.length := ⟨_, rfl⟩
  have hl := h.1
  have Hl := Lib.hid (show (slRow pg.sl).length = n * 2 by rw [slRow_length, hn])
  have H0 : Hid (a = none → n = 0) := Lib.hid (fun e => by subst e; rw [hn, h.no]; rfl)
  have H1 := Lib.hid (slRow_one pg.sl)
  rw [← hn] at hl ⊢
  obtain ⟨iv, hiv0, hiv1, hiv2, hiv3⟩ := info_parts infoSlot
  have hs := (hs.made (.cells #[.int .i64 (pg).lev, (.slice a n cap), .string (pg).hi, .bool (pg).la, .int .u64 (pg).ri] 25)).made (.cells #[.int .i64 0, .slice none 0 0, .string ⟨#[]⟩, .bool false, .int .u64 0] 25)
  rw [World.size_alloc] at hs
  have h2 := (h.same ((Below.refl w.heap.size w).alloc (Nat.le_refl _) (.cells #[.int .i64 (pg).lev, (.slice a n cap), .string (pg).hi, .bool (pg).la, .int .u64 (pg).ri] 25)))
  have h3 := h2.same ((Below.refl _ _).alloc (Nat.le_refl _) (.cells #[.int .i64 0, .slice none 0 0, .string ⟨#[]⟩, .bool false, .int .u64 0] 25))
  have Hn := Lib.hid h3.news
  obtain ⟨sl, hsl⟩ : ∃ sl, sl = slRow pg.sl := ⟨_, rfl⟩
  rw [← hsl] at Hl H1 Hn ⊢
  have Hs := Lib.hid (hs.row_nil (T := 132) (size := 2))
  clear hs h h2 h3 hn hsl
  go_enter Try.func105, Try.ntmps105
  go_wp2_with (at_builtin; refine append_row_st _ _ 22 132 _ 0 n cap 2 24 [] sl (.agg #[.string ⟨#[]⟩, .int .u64 0]) iv a Hs.out rfl rfl Try.underlying22 hiv0 hiv1 hiv2 hiv3 rfl (by decide) rfl rfl Hl.out H0.out Hn.out H1.out (by omega) (by decide) ?_)
  intro v' w' hs
  obtain ⟨ao, capo, hv, _, _⟩ := hs.row_read
  subst hv
  have hs := hs.b2
  have kb := hs.k0
  have fb := hs.f0
  have kr := hs.k2
  have fr := hs.f2
  have hs := (hs.setL 1 (.slice ao n capo)).b2
  simp only [List.set_cons_zero, List.set_cons_succ] at hs
  have hs := ((((hs.setL 0 (.int .i64 pg.lev)).setL 1 (.slice ao n capo)).setL 2 (.string pg.hi)).setL 3 (.bool pg.la)).setL 4 (.int .u64 pg.ri)
  simp only [List.set_cons_zero, List.set_cons_succ] at hs
  clear Hs Hl H0 H1 Hn
  go_wp2
  refine bodyPost_ret (clone_res _ _ (w.heap.size + 1) _ _ _ _ _ rfl hs.k0) rfl ⟨_, rfl, hs.tail.tail⟩

theorem rdDone_any (w : World) (b : Nat) (h0 : w.cell? ⟨b, 0, none⟩ = some .nilFunc) (h1 : w.cell? ⟨b, 1, none⟩ = some (.bool true)) : Calls Try.prog 104 #[.pointer (some ⟨b, 0, none⟩)] w fun e w' => e = .returned (.bool true) ∧ w = w' := by
  go_enter Try.func104, Try.ntmps104
  go_wp2
  go_ret
  exact ⟨rfl, rfl⟩
theorem page_res (tmps : Array Value) (w : World) (b : Nat) (v0 v1 v2 v3 v4 : Value) (hp : tmps[2]? = some (.pointer (some ⟨b, 0, none⟩))) (hk : ∀ k, w.cell? ⟨b, k, none⟩ = (#[v0, v1, v2, v3, v4] : Array Value)[k]?) :
    (results Try.f30 tmps).run Try.prog w = .ok (.agg #[v0, v1, v2, v3, v4]) w := by
  simp [results, Try.results30, go_sem, hp, hk]

set_option maxHeartbeats 1000000 in
theorem rdPage_st {b : Nat} {va : Value} {d : Cfg} {id : Int} {s : RdS} (h6 : s.pc = 6) (hn : s.pg.sl.length ≤ 1000000) (hs : St K w (rdC b d id va s :: slC va s.pg :: F)) :
    Calls Try.prog 30 #[.pointer (some ⟨b, 0, none⟩)] w fun e w' => ∃ va', e = .returned (.agg #[.int .i64 (s.pg).lev, va', .string (s.pg).hi, .bool (s.pg).la, .int .u64 (s.pg).ri]) ∧ St K w' (slC va' s.pg :: rdC b d id va s :: slC va s.pg :: F) := by
  obtain ⟨pc, pg, left, word, t⟩ := s
  simp only at h6 hn
  subst h6
  have hs : St K w (rdC b d id va ⟨6, pg, left, word, t⟩ :: slC va pg :: F) := hs
  obtain ⟨a, cap, rfl, _, _⟩ := (show St K w (rowC va 132 2 pg.sl.length (slRow pg.sl) :: rdC b d id va ⟨6, pg, left, word, t⟩ :: F) from hs.b1).row_read
  obtain ⟨th, hth⟩ : ∃ th, th = stV (rdTh b t) := ⟨_, rfl⟩
  have hs : St K w (blk b (.cells (rdCells .nilFunc d id pg (.slice a pg.sl.length cap) left th word).toArray 161) :: rowC (.slice a pg.sl.length cap) 132 2 pg.sl.length (slRow pg.sl) :: F) := by rw [hth]; exact hs
  have hsl := hs.b1.row_slots (by omega)
  have hs0 := hs
  have hs := hs.made (.cells #[.int .i64 0, .slice none 0 0, .string ⟨#[]⟩, .bool false, .int .u64 0] 25)
  have hsl := hsl.same ((Below.refl w.heap.size w).alloc (Nat.le_refl _) (.cells #[.int .i64 0, .slice none 0 0, .string ⟨#[]⟩, .bool false, .int .u64 0] 25))
  have Qd := Lib.hid (rdDone_any (w.alloc (.cells #[.int .i64 0, .slice none 0 0, .string ⟨#[]⟩, .bool false, .int .u64 0] 25)) b (hs.k1 0) (hs.k1 1))
  have Qc := Lib.hid (clone_st (cap := cap) hs hsl)
  have k := hs.k1
  unfold rdCells at k
  have Hth := Lib.hid hth
  clear hs hsl hs0 hth
  go_enter Try.func30, Try.ntmps30
  go_wp2_with fail
  refine (Qd.out).mono ?_
  rintro e w1 ⟨rfl, rfl⟩
  go_wp2_with fail
  refine (Qc.out).mono ?_
  clear Qc Qd k
  rintro e w2 ⟨va', rfl, hs⟩
  obtain ⟨a2, cap2, hv, _, _⟩ := hs.row_read
  subst hv
  have hs := hs.b1
  have kb := hs.k0
  have fb := hs.f0
  have hs := ((((hs.setL 0 (.int .i64 pg.lev)).setL 1 (.slice a2 pg.sl.length cap2)).setL 2 (.string pg.hi)).setL 3 (.bool pg.la)).setL 4 (.int .u64 pg.ri)
  simp only [List.set_cons_zero, List.set_cons_succ] at hs
  go_wp2
  refine bodyPost_ret (page_res _ _ w.heap.size _ _ _ _ _ rfl hs.k0) rfl ⟨_, rfl, ?_⟩
  have h := hs.tail
  rw [Hth.out] at h
  exact h

theorem newRead_st {d : Cfg} {id : Int} (hs : St K w F) :
    Calls Try.prog 25 #[.agg #[.int .i64 d.th, .int .i64 d.sn, .int .i64 d.no, .int .i64 d.ch, .int .i64 d.re, .int .i64 d.fa, .int .u64 d.cl], .int .u64 id] w fun e w' => ∃ b, e = .returned (.pointer (some ⟨b, 0, none⟩)) ∧ St K w' (rdC b d id (.slice none 0 0) rd0 :: slC (.slice none 0 0) pg0 :: F) := by
  have hs := hs.pass (.cells #[.int .i64 d.th, .int .i64 d.sn, .int .i64 d.no, .int .i64 d.ch, .int .i64 d.re, .int .i64 d.fa, .int .u64 d.cl] 30)
  have hs := hs.made (.cells #[.nilFunc, .bool false, .int .i64 d.th, .int .i64 d.sn, .int .i64 d.no, .int .i64 d.ch, .int .i64 d.re, .int .i64 d.fa, .int .u64 d.cl, .int .u64 id, .int .i64 0, .slice none 0 0, .string ⟨#[]⟩, .bool false, .int .u64 0, .int .i64 0, .nilFunc, .int .u64 0] 161)
  rw [World.size_alloc] at hs
  go_enter Try.func25, Try.ntmps25
  go_wp2_with fail
  refine (calls_same hs (begin_any _ _ _ _)).mono ?_
  clear hs
  rintro e w2 ⟨rfl, hs⟩
  have k := hs.k0
  have kf := hs.f0
  have hs := (hs.setL 0 (.func (.func 102) #[.pointer (some ⟨(w.heap.size + 1), 0, none⟩)] #[])).setL 1 (.bool true)
  simp only [List.set_cons_zero, List.set_cons_succ] at hs
  go_wp2
  go_ret
  exact ⟨_, rfl, hs.row_nil.b1⟩
end
end Go.Proofs.Ytfgjanponijkhaa
