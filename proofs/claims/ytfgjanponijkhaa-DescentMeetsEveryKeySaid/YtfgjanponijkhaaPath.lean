/- Going from node to node (package descent): path.root, path.visit. -/
import Derived.Test.YtfgjanponijkhaaCall
import Derived.Test.YtfgjanponijkhaaNode9
namespace Go.Proofs.Ytfgjanponijkhaa
open Go.RowKit
set_option maxRecDepth 100000

/-- The cells of a machine that goes from node to node: its position, the path (the layout, the node, its page, what follows), what else it has. -/
def pathCells (nx : Value) (d : Cfg) (id : Int) (pg : Pg) (va tv : Value) (rest : List Value) : List Value :=
  nx :: .bool true :: .int .i64 d.th :: .int .i64 d.sn :: .int .i64 d.no :: .int .i64 d.ch :: .int .i64 d.re :: .int .i64 d.fa :: .int .u64 d.cl :: .int .u64 id :: .int .i64 pg.lev :: va :: .string pg.hi :: .bool pg.la :: .int .u64 pg.ri :: tv :: rest

/-- What a visit makes: the blocks of Call, of the reader's variable, of the path's, of the reader. -/
structure VisB where
  b2 : Nat
  b3 : Nat
  b5 : Nat
  bt : Nat
  bp : Nat
  br : Nat
def visFV (B : VisB) : FV := callFV B.b2 B.b3 B.b5
def visThen (B : VisB) : Value := .func (.func 188) #[] #[(.pointer (some ⟨B.bt, 0, none⟩)), (.pointer (some ⟨B.bp, 0, none⟩))]
/-- .. and what it keeps of them. -/
def visL (b : Nat) (B : VisB) (d : Cfg) (id : Int) (va : Value) (s : RdS) : List Comp :=
  [callC B.b2 B.b3 B.b5 (.iface 42 (.pointer (some ⟨B.br, 0, none⟩))) (visThen B), blk B.bt (.cells #[(.pointer (some ⟨B.br, 0, none⟩))] 42), blk B.bp (.cells #[(.pointer (some ⟨b, 2, none⟩))] 236), rdC B.br d id va s, slC va s.pg]

theorem St.drop1' {K : Know} {w : World} {a b c d e f : Comp} {F : List Comp} (h : St K w (a :: b :: c :: d :: e :: f :: F)) : St K w (a :: b :: F) :=
  h.sub ((((((List.Sublist.refl F).cons f).cons e).cons d).cons c).cons_cons b |>.cons_cons a)
section
variable {K : Know} {w : World} {F : List Comp} {b bm bc : Nat} {nx va tv : Value} {d : Cfg} {id0 id : Int} {pg : Pg} {rest : List Value} {T : TypeId} {L : List Cel} {acc : Nat}
theorem visit_st (hid : 1 ≤ id) (hs : St K w (blk b (.cells (pathCells nx d id0 pg va tv rest).toArray T) :: F)) :
    Calls Try.prog 168 #[(.pointer (some ⟨b, 2, none⟩)), .int .u64 id] w fun e w' => ∃ B : VisB, e = .returned (stV (some (visFV B))) ∧ St K w' (blk b (.cells (pathCells nx d id pg va tv rest).toArray T) :: (visL b B d id (.slice none 0 0) rd0 ++ F)) := by
  have h0 : id ≠ 0 := by omega
  have hs := (hs.made (.cells #[(.pointer (some ⟨b, 2, none⟩))] 236)).b1
  have k := hs.k0
  have kf := hs.f0
  have hb := hs.n0
  have k1 := hs.k1
  unfold pathCells at k
  have hs := hs.setL 9 (.int .u64 id)
  have hs : St K _ (blk b (.cells (pathCells nx d id pg va tv rest).toArray T) :: _) := hs
  go_enter Try.func168, Try.ntmps168
  go_wp2_with fail
  refine (newRead_st (d := d) (id := id) hs).mono ?_
  clear hs k k1 kf
  rintro e w1 ⟨br, rfl, hs⟩
  have hs := hs.made (.cells #[(.pointer (some ⟨br, 0, none⟩))] 42)
  have k1 := hs.k0
  go_wp2_with fail
  refine (call_st hs).mono ?_
  clear hs k1
  rintro e w2 ⟨b2, b3, b5, rfl, hs⟩
  simp only [callFV, stV]
  go_wp2
  go_ret
  exact ⟨⟨b2, b3, b5, w1.heap.size, w.heap.size, br⟩, rfl, hs.re [4, 0, 1, 5, 2, 3] rfl⟩
def rootFV (b : Nat) : FV := ⟨131, #[(.pointer (some ⟨b, 2, none⟩))], #[]⟩
theorem visit0_st (hs : St K w F) :
    Calls Try.prog 168 #[(.pointer (some ⟨b, 2, none⟩)), .int .u64 0] w fun e w' => e = .returned (stV (some (rootFV b))) ∧ St K w' F := by
  have hs := hs.pass (.cells #[(.pointer (some ⟨b, 2, none⟩))] 236)
  go_enter Try.func168, Try.ntmps168
  go_wp2
  go_ret
  exact ⟨rfl, hs⟩
/-- The state that follows a visit's beginning. -/
theorem root_st (ha : acc ≤ 1000000000000) (hL : CelsOk L) (hs : St K w (blk b (.cells (pathCells nx d id0 pg va tv rest).toArray T) :: memC bm bc L acc :: F)) :
    Calls Try.prog 131 #[(.pointer (some ⟨b, 2, none⟩)), (.pointer (some ⟨bm, 0, none⟩))] w fun e w' => ((getC L 0).n = 0 ∧ e = .returned (stV (some (rootFV b))) ∧ St K w' (blk b (.cells (pathCells nx d id0 pg va tv rest).toArray T) :: memC bm bc L (acc + 1) :: F)) ∨
      (1 ≤ (getC L 0).n ∧ ∃ B : VisB, e = .returned (stV (some (visFV B))) ∧ St K w' (blk b (.cells (pathCells nx d (getC L 0).n pg va tv rest).toArray T) :: (visL b B d (getC L 0).n (.slice none 0 0) rd0 ++ memC bm bc L (acc + 1) :: F))) := by
  have hc := hL 0
  obtain ⟨c, hce⟩ : ∃ c, c = getC L 0 := ⟨_, rfl⟩
  rw [← hce] at hc ⊢
  have Hce := Lib.hid hce.symm
  have k := hs.k0
  unfold pathCells at k
  have Qr := Lib.hid (fun w => root_any d w)
  clear hce
  go_enter Try.func131, Try.ntmps131
  go_wp2_with fail
  refine (calls_same hs (Qr.out _)).mono ?_
  clear k
  rintro e w1 ⟨rfl, hs⟩
  have q := load_st (i := 0) hs.b1 ha
  rw [Hce.out] at q
  have Q := Lib.hid q
  clear q
  go_wp2_with fail
  refine (Q.out).mono ?_
  clear hs Q
  rintro e w2 ⟨rfl, hs⟩
  obtain ⟨h0, _⟩ := hc
  rcases (show c.n = 0 ∨ 1 ≤ c.n by omega) with h1 | h1
  · go_wp2_with fail
    refine (visit0_st (b := b) hs.b1).mono ?_
    rintro e w3 ⟨rfl, hs⟩
    simp only [rootFV, stV]
    go_wp2
    go_ret
    exact .inl ⟨by first | exact h1 | rfl, rfl, hs⟩
  · go_wp2_with fail
    refine (visit_st (id := c.n) h1 hs.b1).mono ?_
    rintro e w3 ⟨B, rfl, hs⟩
    simp only [visFV, callFV, stV]
    go_wp2
    go_ret
    exact .inr ⟨h1, B, rfl, hs⟩

/-- The reader has finished: its page is the path's, and what follows is called. -/
theorem visThen_st {B : VisB} {va2 : Value} {s : RdS} {ft : Nat} {tx ty : Array Value} {R : Option FV → World → Prop} (hf : Enters ft) (h6 : s.pc = 6) (hn : s.pg.sl.length ≤ 1000000)
    (hs : St K w (blk b (.cells (pathCells nx d id pg va (.func (.func ft) tx ty) rest).toArray T) :: (visL b B d id va2 s ++ F)))
    (hturn : ∀ (w1 : World) (va1 : Value), St K w1 (blk b (.cells (pathCells nx d id s.pg va1 (.func (.func ft) tx ty) rest).toArray T) :: slC va1 s.pg :: F) → Calls Try.prog ft (tx ++ ty) w1 fun e w2 => ∃ o, e = .returned (stV o) ∧ R o w2) :
    Calls Try.prog 188 #[(.pointer (some ⟨B.bt, 0, none⟩)), (.pointer (some ⟨B.bp, 0, none⟩))] w fun e w' => ∃ o, e = .returned (stV o) ∧ R o w' := by
  have hf' : ∀ (args : Array Value) (w : World), (callFunc ft args).run Try.prog w = .ok (.enter ft args) w := hf
  have HT := Lib.hid hturn
  obtain ⟨b2, b3, b5, bt, bp, br⟩ := B
  have hs : St K w (blk b (.cells (pathCells nx d id pg va (.func (.func ft) tx ty) rest).toArray T) :: callC b2 b3 b5 _ _ :: blk bt (.cells #[(.pointer (some ⟨br, 0, none⟩))] 42) :: blk bp (.cells #[(.pointer (some ⟨b, 2, none⟩))] 236) :: rdC br d id va2 s :: slC va2 s.pg :: F) := hs
  have hs := hs.drop1
  have Hs := Lib.hid hs
  clear hturn hs
  go_enter Try.func188, Try.ntmps188
  go_upto_region 1 with (fail)
  refine region_two [false, false, true, false, false, true] 2 5
    (fun W => St K W (blk b (.cells (pathCells nx d id pg va (.func (.func ft) tx ty) rest).toArray T) :: blk bt (.cells #[(.pointer (some ⟨br, 0, none⟩))] 42) :: blk bp (.cells #[(.pointer (some ⟨b, 2, none⟩))] 236) :: rdC br d id va2 s :: slC va2 s.pg :: F))
    (fun v W => ∃ (a1 : Option Addr) (c1 : Nat), v = .agg #[.int .i64 (s.pg).lev, (.slice a1 s.pg.sl.length c1), .string (s.pg).hi, .bool (s.pg).la, .int .u64 (s.pg).ri] ∧ St K W (slC (.slice a1 s.pg.sl.length c1) s.pg :: blk b (.cells (pathCells nx d id pg va (.func (.func ft) tx ty) rest).toArray T) :: blk bt (.cells #[(.pointer (some ⟨br, 0, none⟩))] 42) :: blk bp (.cells #[(.pointer (some ⟨b, 2, none⟩))] 236) :: rdC br d id va2 s :: slC va2 s.pg :: F))
    (fun v u W => ∃ (a1 : Option Addr) (c1 : Nat), u = undef ∧ v = .agg #[.int .i64 (s.pg).lev, (.slice a1 s.pg.sl.length c1), .string (s.pg).hi, .bool (s.pg).la, .int .u64 (s.pg).ri] ∧ St K W (slC (.slice a1 s.pg.sl.length c1) s.pg :: blk b (.cells (pathCells nx d id s.pg (.slice a1 s.pg.sl.length c1) (.func (.func ft) tx ty) rest).toArray T) :: blk bt (.cells #[(.pointer (some ⟨br, 0, none⟩))] 42) :: blk bp (.cells #[(.pointer (some ⟨b, 2, none⟩))] 236) :: rdC br d id va2 s :: slC va2 s.pg :: F))
    (fun W => ∃ cs, St K W (blk bt (.cells #[(.pointer (some ⟨br, 0, none⟩))] 42) :: blk bp (.cells #[(.pointer (some ⟨b, 2, none⟩))] 236) :: cs)) ?aS (by decide) (by kernel_rfl) ?hB ?H ?haS Hs.out ?hI ?hR ?hE1 ?hE2 ?hQ
  case hB => as_aux_lemma => kernel_rfl
  case H =>
    rintro W2 ⟨cs, hs⟩
    have k1 := hs.k0
    have k2 := hs.k1
    clear hs
    simp only [withM]
    repeat (go_big_quiet_step (fail))
    refine wpQuiet_nil ?_
    rfl
  case haS => rfl
  case hI => exact ⟨fun W h => ⟨_, h.tail⟩, fun v W ⟨_, _, _, h⟩ => ⟨_, h.tail.tail⟩, fun v u W ⟨_, _, _, _, h⟩ => ⟨_, h.tail.tail⟩⟩
  case hR => exact ⟨fun W W' h hb => h.same hb, fun v W W' ⟨a, c, e, h⟩ hb => ⟨a, c, e, h.same hb⟩, fun v u W W' ⟨a, c, e, e2, h⟩ hb => ⟨a, c, e, e2, h.same hb⟩⟩
  case hE1 =>
    intro R2' o ho ρ W2 hs hk af haf
    obtain rfl := Option.some.inj ho
    subst haf
    have Hk := Lib.hid hk
    clear hk
    go_wp2_with fail
    refine (rdPage_st h6 hn hs.b3.b4.u1).mono ?_
    rintro e w1 ⟨va1, rfl, hs⟩
    obtain ⟨a1, c1, rfl, _, _⟩ := (show St K w1 (rowC va1 132 2 s.pg.sl.length (slRow s.pg.sl) :: _) from hs).row_read
    go_wp2
    exact ⟨rfl, _, rfl, Hk.out _ _ ⟨a1, c1, rfl, hs.re [0, 3, 4, 5, 1, 2] rfl⟩⟩
  case hE2 =>
    rintro R2' o ho ρ v W2 ⟨a1, c1, rfl, hs⟩ hk af haf
    obtain rfl := Option.some.inj ho
    have Hk := Lib.hid hk
    clear hk
    simp only [dstAt, List.getElem?_cons_succ, List.getElem?_cons_zero, Option.bind_some, Act.put, List.setIfInBounds_toArray, List.set_cons_zero, List.set_cons_succ] at haf
    subst haf
    have hs := hs.b1
    have k := hs.k0
    have kf := hs.f0
    have hs := ((((hs.setL 10 (.int .i64 s.pg.lev)).setL 11 (.slice a1 s.pg.sl.length c1)).setL 12 (.string s.pg.hi)).setL 13 (.bool s.pg.la)).setL 14 (.int .u64 s.pg.ri)
    unfold pathCells at k
    go_wp2
    exact ⟨rfl, undef, rfl, Hk.out _ _ ⟨a1, c1, rfl, rfl, hs.b1⟩⟩
  case hQ =>
    rintro v u W2 ⟨a1, c1, rfl, rfl, hs⟩
    simp only [dstAt, List.getElem?_cons_succ, List.getElem?_cons_zero, Option.bind_some, Act.put, List.setIfInBounds_toArray, List.set_cons_zero, List.set_cons_succ]
    have k1 := hs.b3.k0
    have kb := hs.b1.k0
    unfold pathCells at kb
    go_wp2_with fail
    refine (HT.out _ _ (hs.re [1, 0, 2, 3, 4, 5] rfl).drop1').mono ?_
    rintro e w3 ⟨o, rfl, h⟩
    cases o with
    | none =>
      simp only [stV]
      go_wp2
      go_ret
      exact ⟨none, rfl, h⟩
    | some s =>
      simp only [stV]
      go_wp2
      go_ret
      exact ⟨some s, rfl, h⟩
end
end Go.Proofs.Ytfgjanponijkhaa
