
/- Going from node to node (package descent): path.root, path.visit. descent.Find: the machine that finds a node. The reader of a node (package node): validate. The steps of the reader of a node. The reader's step; blinktreelaw8's awake. A step of descent.Find. descent.Find: Step and Node. -/
import Derived.Test.YtlpdhhhgckpcfaaGreatGrA
import Derived.Test.YtlpdhhhgckpcfaaGreatNodeB
import Derived.Test.YtlpdhhhgckpcfaaGreatKeys
import Derived.Test.YtlpdhhhgckpcfaaGreatTailC
import Derived.Test.YtlpdhhhgckpcfaaGreatPageA
namespace Go.Proofs.YtlpdhhhgckpcfaaGreat
open Go.RowKit
set_option maxRecDepth 100000

/-- The cells of a machine that goes from node to node: its position, the path (the layout, the node, its page, what follows), what else it has. -/
def pathCells (nx : Value) (d : Cfg) (id : Int) (pg : Pg) (va tv : Value) (rest : List Value) : List Value :=
  nx :: .bool true :: .int .i64 d.th :: .int .i64 d.sn :: .int .i64 d.no :: .int .i64 d.ch :: .int .i64 d.re :: .int .i64 d.fa :: .int .u64 d.cl :: .int .u64 id :: .int .i64 pg.lev :: va :: .string pg.hi :: .bool pg.la :: .int .u64 pg.ri :: tv :: rest

/-- What a visit makes: the blocks of Call, of the reader's variable, of the path's, of the reader. -/
structure VisB where
  b2 : Nat
  b3 : Nat
  b5 : Nat
  bt : Nat
  bp : Nat
  br : Nat
def visFV (B : VisB) : FV := callFV B.b2 B.b3 B.b5
def visThen (B : VisB) : Value := .func (.func 166) #[] #[(.pointer (some ⟨B.bt, 0, none⟩)), (.pointer (some ⟨B.bp, 0, none⟩))]
/-- .. and what it keeps of them. -/
def visL (b : Nat) (B : VisB) (d : Cfg) (id : Int) (va : Value) (s : RdS) : List Comp :=
  [callC B.b2 B.b3 B.b5 (.iface 213 (.pointer (some ⟨B.br, 0, none⟩))) (visThen B), blk B.bt (.cells #[(.pointer (some ⟨B.br, 0, none⟩))] 213), blk B.bp (.cells #[(.pointer (some ⟨b, 2, none⟩))] 194), rdC B.br d id va s, slC va s.pg]

theorem St.drop1' {K : Know} {w : World} {a b c d e f : Comp} {F : List Comp} (h : St K w (a :: b :: c :: d :: e :: f :: F)) : St K w (a :: b :: F) :=
  h.sub ((((((List.Sublist.refl F).cons f).cons e).cons d).cons c).cons_cons b |>.cons_cons a)
section
variable {K : Know} {w : World} {F : List Comp} {b bm bc : Nat} {nx va tv : Value} {d : Cfg} {id0 id : Int} {pg : Pg} {rest : List Value} {T : TypeId} {L : List Cel} {acc : Nat}
theorem visit_st (hid : 1 ≤ id) (hs : St K w (blk b (.cells (pathCells nx d id0 pg va tv rest).toArray T) :: F)) :
    Calls Tryz.prog 139 #[(.pointer (some ⟨b, 2, none⟩)), .int .u64 id] w fun e w' => ∃ B : VisB, e = .returned (stV (some (visFV B))) ∧ St K w' (blk b (.cells (pathCells nx d id pg va tv rest).toArray T) :: (visL b B d id (.slice none 0 0) rd0 ++ F)) := by
  have h0 : id ≠ 0 := by omega
  have hs := (hs.made (.cells #[(.pointer (some ⟨b, 2, none⟩))] 194)).b1
  have k := hs.k0
  have kf := hs.f0
  have hb := hs.n0
  have k1 := hs.k1
  unfold pathCells at k
  have hs := hs.setL 9 (.int .u64 id)
  have hs : St K _ (blk b (.cells (pathCells nx d id pg va tv rest).toArray T) :: _) := hs
  go_enter Tryz.func139, Tryz.ntmps139
  go_wp2_with fail
  refine (newRead_st (d := d) (id := id) hs).mono ?_
  clear hs k k1 kf
  rintro e w1 ⟨br, rfl, hs⟩
  have hs := hs.made (.cells #[(.pointer (some ⟨br, 0, none⟩))] 213)
  have k1 := hs.k0
  go_wp2_with fail
  refine (call_st hs).mono ?_
  clear hs k1
  rintro e w2 ⟨b2, b3, b5, rfl, hs⟩
  simp only [callFV, stV]
  go_wp2
  go_ret
  exact ⟨⟨b2, b3, b5, w1.heap.size, w.heap.size, br⟩, rfl, hs.re [4, 0, 1, 5, 2, 3] rfl⟩
def rootFV (b : Nat) : FV := ⟨104, #[(.pointer (some ⟨b, 2, none⟩))], #[]⟩
theorem visit0_st (hs : St K w F) :
    Calls Tryz.prog 139 #[(.pointer (some ⟨b, 2, none⟩)), .int .u64 0] w fun e w' => e = .returned (stV (some (rootFV b))) ∧ St K w' F := by
  have hs := hs.pass (.cells #[(.pointer (some ⟨b, 2, none⟩))] 194)
  go_enter Tryz.func139, Tryz.ntmps139
  go_wp2
  go_ret
  exact ⟨rfl, hs⟩
/-- The state that follows a visit's beginning. -/
theorem root_st (ha : acc ≤ 1000000000000) (hL : CelsOk L) (hs : St K w (blk b (.cells (pathCells nx d id0 pg va tv rest).toArray T) :: memC bm bc L acc :: F)) :
    Calls Tryz.prog 104 #[(.pointer (some ⟨b, 2, none⟩)), (.pointer (some ⟨bm, 0, none⟩))] w fun e w' => ((getC L 0).n = 0 ∧ e = .returned (stV (some (rootFV b))) ∧ St K w' (blk b (.cells (pathCells nx d id0 pg va tv rest).toArray T) :: memC bm bc L (acc + 1) :: F)) ∨
      (1 ≤ (getC L 0).n ∧ ∃ B : VisB, e = .returned (stV (some (visFV B))) ∧ St K w' (blk b (.cells (pathCells nx d (getC L 0).n pg va tv rest).toArray T) :: (visL b B d (getC L 0).n (.slice none 0 0) rd0 ++ memC bm bc L (acc + 1) :: F))) := by
  have hc := hL 0
  obtain ⟨c, hce⟩ : ∃ c, c = getC L 0 := ⟨_, rfl⟩
  rw [← hce] at hc ⊢
  have Hce := Lib.hid hce.symm
  have k := hs.k0
  unfold pathCells at k
  have Qr := Lib.hid (fun w => root_any d w)
  clear hce
  go_enter Tryz.func104, Tryz.ntmps104
  go_wp2_with fail
  refine (calls_same hs (Qr.out _)).mono ?_
  clear k
  rintro e w1 ⟨rfl, hs⟩
  have q := load_st (i := 0) hs.b1 ha
  rw [Hce.out] at q
  have Q := Lib.hid q
  clear q
  go_wp2_with fail
  refine (Q.out).mono ?_
  clear hs Q
  rintro e w2 ⟨rfl, hs⟩
  obtain ⟨h0, _⟩ := hc
  rcases (show c.n = 0 ∨ 1 ≤ c.n by omega) with h1 | h1
  · go_wp2_with fail
    refine (visit0_st (b := b) hs.b1).mono ?_
    rintro e w3 ⟨rfl, hs⟩
    simp only [rootFV, stV]
    go_wp2
    go_ret
    exact .inl ⟨by first | exact h1 | rfl, rfl, hs⟩
  · go_wp2_with fail
    refine (visit_st (id := c.n) h1 hs.b1).mono ?_
    rintro e w3 ⟨B, rfl, hs⟩
    simp only [visFV, callFV, stV]
    go_wp2
    go_ret
    exact .inr ⟨h1, B, rfl, hs⟩

/-- The reader has finished: its page is the path's, and what follows is called. -/
theorem visThen_st {B : VisB} {va2 : Value} {s : RdS} {ft : Nat} {tx ty : Array Value} {R : Option FV → World → Prop} (hf : Enters ft) (h6 : s.pc = 6) (hn : s.pg.sl.length ≤ 1000000)
    (hs : St K w (blk b (.cells (pathCells nx d id pg va (.func (.func ft) tx ty) rest).toArray T) :: (visL b B d id va2 s ++ F)))
    (hturn : ∀ (w1 : World) (va1 : Value), St K w1 (blk b (.cells (pathCells nx d id s.pg va1 (.func (.func ft) tx ty) rest).toArray T) :: slC va1 s.pg :: F) → Calls Tryz.prog ft (tx ++ ty) w1 fun e w2 => ∃ o, e = .returned (stV o) ∧ R o w2) :
    Calls Tryz.prog 166 #[(.pointer (some ⟨B.bt, 0, none⟩)), (.pointer (some ⟨B.bp, 0, none⟩))] w fun e w' => ∃ o, e = .returned (stV o) ∧ R o w' := by
  have hf' : ∀ (args : Array Value) (w : World), (callFunc ft args).run Tryz.prog w = .ok (.enter ft args) w := hf
  have HT := Lib.hid hturn
  obtain ⟨b2, b3, b5, bt, bp, br⟩ := B
  have hs : St K w (blk b (.cells (pathCells nx d id pg va (.func (.func ft) tx ty) rest).toArray T) :: callC b2 b3 b5 _ _ :: blk bt (.cells #[(.pointer (some ⟨br, 0, none⟩))] 213) :: blk bp (.cells #[(.pointer (some ⟨b, 2, none⟩))] 194) :: rdC br d id va2 s :: slC va2 s.pg :: F) := hs
  have hs := hs.drop1
  have Hs := Lib.hid hs
  clear hturn hs
  go_enter Tryz.func166, Tryz.ntmps166
  go_upto_region 1 with (fail)
  refine region_two [false, false, true, false, false, true] 2 5
    (fun W => St K W (blk b (.cells (pathCells nx d id pg va (.func (.func ft) tx ty) rest).toArray T) :: blk bt (.cells #[(.pointer (some ⟨br, 0, none⟩))] 213) :: blk bp (.cells #[(.pointer (some ⟨b, 2, none⟩))] 194) :: rdC br d id va2 s :: slC va2 s.pg :: F))
    (fun v W => ∃ (a1 : Option Addr) (c1 : Nat), v = .agg #[.int .i64 (s.pg).lev, (.slice a1 s.pg.sl.length c1), .string (s.pg).hi, .bool (s.pg).la, .int .u64 (s.pg).ri] ∧ St K W (slC (.slice a1 s.pg.sl.length c1) s.pg :: blk b (.cells (pathCells nx d id pg va (.func (.func ft) tx ty) rest).toArray T) :: blk bt (.cells #[(.pointer (some ⟨br, 0, none⟩))] 213) :: blk bp (.cells #[(.pointer (some ⟨b, 2, none⟩))] 194) :: rdC br d id va2 s :: slC va2 s.pg :: F))
    (fun v u W => ∃ (a1 : Option Addr) (c1 : Nat), u = undef ∧ v = .agg #[.int .i64 (s.pg).lev, (.slice a1 s.pg.sl.length c1), .string (s.pg).hi, .bool (s.pg).la, .int .u64 (s.pg).ri] ∧ St K W (slC (.slice a1 s.pg.sl.length c1) s.pg :: blk b (.cells (pathCells nx d id s.pg (.slice a1 s.pg.sl.length c1) (.func (.func ft) tx ty) rest).toArray T) :: blk bt (.cells #[(.pointer (some ⟨br, 0, none⟩))] 213) :: blk bp (.cells #[(.pointer (some ⟨b, 2, none⟩))] 194) :: rdC br d id va2 s :: slC va2 s.pg :: F))
    (fun W => ∃ cs, St K W (blk bt (.cells #[(.pointer (some ⟨br, 0, none⟩))] 213) :: blk bp (.cells #[(.pointer (some ⟨b, 2, none⟩))] 194) :: cs)) ?aS (by decide) (by kernel_rfl) ?hB ?H ?haS Hs.out ?hI ?hR ?hE1 ?hE2 ?hQ
  case hB => as_aux_lemma => kernel_rfl
  case H =>
    rintro W2 ⟨cs, hs⟩
    have k1 := hs.k0
    have k2 := hs.k1
    clear hs
    simp only [withM]
    repeat (go_big_quiet_step (fail))
    refine wpQuiet_nil ?_
    rfl
  case haS => rfl
  case hI => exact ⟨fun W h => ⟨_, h.tail⟩, fun v W ⟨_, _, _, h⟩ => ⟨_, h.tail.tail⟩, fun v u W ⟨_, _, _, _, h⟩ => ⟨_, h.tail.tail⟩⟩
  case hR => exact ⟨fun W W' h hb => h.same hb, fun v W W' ⟨a, c, e, h⟩ hb => ⟨a, c, e, h.same hb⟩, fun v u W W' ⟨a, c, e, e2, h⟩ hb => ⟨a, c, e, e2, h.same hb⟩⟩
  case hE1 =>
    intro R2' o ho ρ W2 hs hk af haf
    obtain rfl := Option.some.inj ho
    subst haf
    have Hk := Lib.hid hk
    clear hk
    go_wp2_with fail
    refine (rdPage_st h6 hn hs.b3.b4.u1).mono ?_
    rintro e w1 ⟨va1, rfl, hs⟩
    obtain ⟨a1, c1, rfl, _, _⟩ := (show St K w1 (rowC va1 69 2 s.pg.sl.length (slRow s.pg.sl) :: _) from hs).row_read
    go_wp2
    exact ⟨rfl, _, rfl, Hk.out _ _ ⟨a1, c1, rfl, hs.re [0, 3, 4, 5, 1, 2] rfl⟩⟩
  case hE2 =>
    rintro R2' o ho ρ v W2 ⟨a1, c1, rfl, hs⟩ hk af haf
    obtain rfl := Option.some.inj ho
    have Hk := Lib.hid hk
    clear hk
    simp only [dstAt, List.getElem?_cons_succ, List.getElem?_cons_zero, Option.bind_some, Act.put, List.setIfInBounds_toArray, List.set_cons_zero, List.set_cons_succ] at haf
    subst haf
    have hs := hs.b1
    have k := hs.k0
    have kf := hs.f0
    have hs := ((((hs.setL 10 (.int .i64 s.pg.lev)).setL 11 (.slice a1 s.pg.sl.length c1)).setL 12 (.string s.pg.hi)).setL 13 (.bool s.pg.la)).setL 14 (.int .u64 s.pg.ri)
    unfold pathCells at k
    go_wp2
    exact ⟨rfl, undef, rfl, Hk.out _ _ ⟨a1, c1, rfl, rfl, hs.b1⟩⟩
  case hQ =>
    rintro v u W2 ⟨a1, c1, rfl, rfl, hs⟩
    simp only [dstAt, List.getElem?_cons_succ, List.getElem?_cons_zero, Option.bind_some, Act.put, List.setIfInBounds_toArray, List.set_cons_zero, List.set_cons_succ]
    have k1 := hs.b3.k0
    have kb := hs.b1.k0
    unfold pathCells at kb
    go_wp2_with fail
    refine (HT.out _ _ (hs.re [1, 0, 2, 3, 4, 5] rfl).drop1').mono ?_
    rintro e w3 ⟨o, rfl, h⟩
    cases o with
    | none =>
      simp only [stV]
      go_wp2
      go_ret
      exact ⟨none, rfl, h⟩
    | some s =>
      simp only [stV]
      go_wp2
      go_ret
      exact ⟨some s, rfl, h⟩
end
end Go.Proofs.YtlpdhhhgckpcfaaGreat

namespace Go.Proofs.YtlpdhhhgckpcfaaGreat
open Go.RowKit
set_option maxRecDepth 100000

/-- The state of Find: 0 the root, 1 a node is being read, 2 finished; the path's node and page, the reader. -/
structure FdS where
  pc : Nat
  id : Int
  pg : Pg
  rd : RdS
def fdGo (s : FdS) (id : Int) : FdS := if id = 0 then ⟨0, s.id, s.pg, rd0⟩ else ⟨1, id, s.pg, rd0⟩
/-- The reference of the child that covers a key. -/
def childRef (key : ByteArray) (l : List Sl) : Int := match slOpt l ((hiK l key : Int) - 1) with
  | some s => s.r
  | none => 0
def fdTurn (key : ByteArray) (level : Int) (id : Int) (pg : Pg) : FdS :=
  if pg.lev < level then ⟨2, 0, pg0, rd0⟩
  else if pg.la || klt key pg.hi then
    if pg.lev = level then ⟨2, id, pg, rd0⟩ else fdGo ⟨0, id, pg, rd0⟩ (childRef key pg.sl)
  else fdGo ⟨0, id, pg, rd0⟩ pg.ri
def fdStep (d : Cfg) (L : List Cel) (key : ByteArray) (level : Int) (s : FdS) : FdS :=
  match s.pc with
  | 0 => fdGo s (getC L 0).n
  | 1 => if (rdStep d s.id L s.rd).pc = 6 then fdTurn key level s.id (rdStep d s.id L s.rd).pg else ⟨1, s.id, s.pg, rdStep d s.id L s.rd⟩
  | _ => s
def fd0 : FdS := ⟨0, 0, pg0, rd0⟩
def fdPv (b : Nat) (B : VisB) : Nat → Option FV
  | 0 => some (rootFV b)
  | 1 => some (visFV B)
  | _ => none
/-- Its parts. -/
def fdL (b : Nat) (nx : Value) (B : VisB) (va va2 : Value) (d : Cfg) (key : ByteArray) (level : Int) (s : FdS) : List Comp :=
  blk b (.cells (pathCells nx d s.id s.pg va (.func (.func 103) #[(.pointer (some ⟨b, 0, none⟩))] #[]) [.string key, .int .i64 level]).toArray 163) :: slC va s.pg :: (if s.pc = 1 then visL b B d s.id va2 s.rd else [])

section
variable {K : Know} {w : World} {F : List Comp} {b bm bc : Nat} {nx va : Value} {d : Cfg} {id : Int} {pg : Pg} {L : List Cel} {acc : Nat} {key : ByteArray} {level : Int}
theorem newFind_st (hs : St K w F) : Calls Tryz.prog 47 #[.agg #[.int .i64 d.th, .int .i64 d.sn, .int .i64 d.no, .int .i64 d.ch, .int .i64 d.re, .int .i64 d.fa, .int .u64 d.cl], .string key, .int .i64 level] w fun e w' => ∃ b, e = .returned (.pointer (some ⟨b, 0, none⟩)) ∧ ∀ B, St K w' (fdL b (stV (some (rootFV b))) B (.slice none 0 0) (.slice none 0 0) d key level fd0 ++ F) := by
  have hs := hs.pass (.cells #[.int .i64 d.th, .int .i64 d.sn, .int .i64 d.no, .int .i64 d.ch, .int .i64 d.re, .int .i64 d.fa, .int .u64 d.cl] 29)
  have hs := hs.made (.cells #[.nilFunc, .bool false, .int .i64 d.th, .int .i64 d.sn, .int .i64 d.no, .int .i64 d.ch, .int .i64 d.re, .int .i64 d.fa, .int .u64 d.cl, .int .u64 0, .int .i64 0, .slice none 0 0, .string ⟨#[]⟩, .bool false, .int .u64 0, (.func (.func 103) #[(.pointer (some ⟨(w.heap.size + 1), 0, none⟩))] #[]), .string key, .int .i64 level] 163)
  rw [World.size_alloc] at hs
  go_enter Tryz.func47, Tryz.ntmps47
  go_wp2_with fail
  refine (calls_same hs (begin_any _ _ _ _)).mono ?_
  clear hs
  rintro e w2 ⟨rfl, hs⟩
  have k := hs.k0
  have kf := hs.f0
  have hs := (hs.setL 0 (stV (some (rootFV (w.heap.size + 1))))).setL 1 (.bool true)
  simp only [List.set_cons_zero, List.set_cons_succ] at hs
  go_wp2
  go_ret
  exact ⟨_, rfl, fun B => (hs.row_nil (T := 69) (size := 2)).b1⟩

theorem visitAny_st {id' : Int} {C : Comp} (hid : 0 ≤ id') (hs : St K w (blk b (.cells (pathCells nx d id pg va (.func (.func 103) #[(.pointer (some ⟨b, 0, none⟩))] #[]) [.string key, .int .i64 level]).toArray 163) :: C :: slC va pg :: F)) :
    Calls Tryz.prog 139 #[(.pointer (some ⟨b, 2, none⟩)), .int .u64 id'] w fun e w' => ∃ o, e = .returned (stV o) ∧ ∃ B : VisB, o = fdPv b B (fdGo ⟨0, id, pg, rd0⟩ id').pc ∧ St K w' (C :: (fdL b nx B va (.slice none 0 0) d key level (fdGo ⟨0, id, pg, rd0⟩ id') ++ F)) := by
  by_cases h : id' = 0
  · subst h
    refine (visit0_st (b := b) hs).mono ?_
    rintro e w3 ⟨rfl, hs⟩
    exact ⟨_, rfl, ⟨0, 0, 0, 0, 0, 0⟩, rfl, hs.b1⟩
  · have e1 : fdGo ⟨0, id, pg, rd0⟩ id' = ⟨1, id', pg, rd0⟩ := by unfold fdGo; rw [if_neg h]
    rw [e1]
    refine (visit_st (id := id') (by omega) hs).mono ?_
    rintro e w3 ⟨B, rfl, hs⟩
    exact ⟨_, rfl, B, rfl, hs.re [6, 0, 7, 1, 2, 3, 4, 5] rfl⟩
/-- What turn leaves. -/
def FtP (K : Know) (b : Nat) (nx : Value) (d : Cfg) (key : ByteArray) (level : Int) (F : List Comp) (s : FdS) (o : Option FV) (w' : World) : Prop :=
  ∃ (B : VisB) (va' : Value), o = fdPv b B s.pc ∧ St K w' (fdL b nx B va' (.slice none 0 0) d key level s ++ F)
set_option maxHeartbeats 4000000 in
theorem fturn_st (hri : 0 ≤ pg.ri) (hrf : ∀ s, s ∈ pg.sl → 0 ≤ s.r) (hn : pg.sl.length ≤ 1000000) (hasc : level < pg.lev → Asc pg.sl)
    (hs : St K w (blk b (.cells (pathCells nx d id pg va (.func (.func 103) #[(.pointer (some ⟨b, 0, none⟩))] #[]) [.string key, .int .i64 level]).toArray 163) :: slC va pg :: F)) :
    Calls Tryz.prog 103 #[(.pointer (some ⟨b, 0, none⟩))] w fun e w' => ∃ o, e = .returned (stV o) ∧ FtP K b nx d key level F (fdTurn key level id pg) o w' := by
  obtain ⟨a, c, rfl, _, _⟩ := (show St K w (rowC va 69 2 pg.sl.length (slRow pg.sl) :: _) from hs.b1).row_read
  have k := hs.k0
  unfold pathCells at k
  have hs := hs.made (.cells #[.int .i64 (pg).lev, (.slice a pg.sl.length c), .string (pg).hi, .bool (pg).la, .int .u64 (pg).ri] 43)
  obtain ⟨s', Hs'⟩ : ∃ s', Hid (s' = fdTurn key level id pg) := ⟨_, Lib.hid rfl⟩
  rw [← Hs'.out]
  have Qw := Lib.hid (fun w => within_any key ⟨#[]⟩ pg.hi pg.la w)
  rw [klt_empty, Bool.not_false, Bool.true_and] at Qw
  go_enter Tryz.func103, Tryz.ntmps103
  go_upto_region 2 with (fail)
  clear k
  have kw := hs.k0
  have k := hs.k1
  unfold pathCells at k
  refine region_pure (by kernel_rfl) (by kernel_rfl) ?_
  repeat (go_big_quiet_step (fail))
  refine wpQuiet_nil ?_
  intro w2 hb2
  have hs := hs.same hb2
  clear kw k hb2
  by_cases hlt : pg.lev < level
  · have k := hs.k1
    unfold pathCells at k
    have kf := hs.f1
    rw [fdTurn, if_pos hlt] at Hs'
    have hs := ((((((hs.tail.setL 9 (.int .u64 0)).setL 10 (.int .i64 0)).setL 11 (.slice none 0 0)).setL 12 (.string ⟨#[]⟩)).setL 13 (.bool false)).setL 14 (.int .u64 0))
    go_wp2
    go_ret
    exact ⟨none, rfl, by rw [Hs'.out]; exact ⟨⟨0, 0, 0, 0, 0, 0⟩, .slice none 0 0, rfl, ((hs.drop1.row_nil (T := 69) (size := 2)).b1 : St K _ (blk b (.cells (pathCells nx d 0 pg0 (.slice none 0 0) (.func (.func 103) #[(.pointer (some ⟨b, 0, none⟩))] #[]) [.string key, .int .i64 level]).toArray 163) :: slC (.slice none 0 0) pg0 :: F))⟩⟩
  rw [fdTurn, if_neg hlt] at Hs'
  have kw := hs.k0
  have k := hs.k1
  unfold pathCells at k
  have Hlt := Lib.hid hlt
  go_upto_region 5 with (fail)
  refine region_pure (by kernel_rfl) (by kernel_rfl) ?_
  repeat (go_big_quiet_step ((go_at_call 138; exact pure_of ((Qw.out _).mono (by rintro e w' ⟨rfl, rfl⟩; exact ⟨rfl, Below.refl _ _⟩)))))
  refine wpQuiet_nil ?_
  intro w3 hb3
  have hs := hs.same hb3
  clear kw k hb3 Qw hlt
  rw [← Bool.not_or]
  cases hin : (pg.la || klt key pg.hi) with
  | false =>
    simp only [Bool.not_false]
    rw [hin] at Hs'
    simp only [Bool.false_eq_true, if_false] at Hs'
    have kw := hs.k0
    go_upto_region 6 with (fail)
    clear kw
    have Hs := Lib.hid hs
    clear hs
    refine region_two [false, false, false, false, false, true, true] 5 6
      (fun W => St K W (blk w.heap.size (.cells #[.int .i64 (pg).lev, (.slice a pg.sl.length c), .string (pg).hi, .bool (pg).la, .int .u64 (pg).ri] 43) :: blk b (.cells (pathCells nx d id pg (.slice a pg.sl.length c) (.func (.func 103) #[(.pointer (some ⟨b, 0, none⟩))] #[]) [.string key, .int .i64 level]).toArray 163) :: slC (.slice a pg.sl.length c) pg :: F))
      (fun v W => ∃ o, v = stV o ∧ ∃ B : VisB, o = fdPv b B (fdGo ⟨0, id, pg, rd0⟩ pg.ri).pc ∧ St K W (blk w.heap.size (.cells #[.int .i64 (pg).lev, (.slice a pg.sl.length c), .string (pg).hi, .bool (pg).la, .int .u64 (pg).ri] 43) :: (fdL b nx B (.slice a pg.sl.length c) (.slice none 0 0) d key level (fdGo ⟨0, id, pg, rd0⟩ pg.ri) ++ F)))
      (fun v u W => u = v ∧ ∃ o, v = stV o ∧ ∃ B : VisB, o = fdPv b B (fdGo ⟨0, id, pg, rd0⟩ pg.ri).pc ∧ St K W (blk w.heap.size (.cells #[.int .i64 (pg).lev, (.slice a pg.sl.length c), .string (pg).hi, .bool (pg).la, .int .u64 (pg).ri] 43) :: (fdL b nx B (.slice a pg.sl.length c) (.slice none 0 0) d key level (fdGo ⟨0, id, pg, rd0⟩ pg.ri) ++ F)))
      (fun W => ∃ cs, St K W (blk w.heap.size (.cells #[.int .i64 (pg).lev, (.slice a pg.sl.length c), .string (pg).hi, .bool (pg).la, .int .u64 (pg).ri] 43) :: cs)) ?aS1 (by decide) (by kernel_rfl) ?hB1 ?H1 ?haS1 Hs.out ?hI1 ?hR1 ?hE11 ?hE21 ?hQ1
    case hB1 => as_aux_lemma => kernel_rfl
    case H1 =>
      rintro W2 ⟨cs, hs⟩
      have k1 := hs.k0
      clear hs
      simp only [withM]
      repeat (go_big_quiet_step (fail))
      refine wpQuiet_nil ?_
      rfl
    case haS1 => rfl
    case hI1 => exact ⟨fun W h => ⟨_, h⟩, fun v W ⟨_, _, _, _, h⟩ => ⟨_, h⟩, fun v u W ⟨_, _, _, _, _, h⟩ => ⟨_, h⟩⟩
    case hR1 => exact ⟨fun W W' h hb => h.same hb, fun v W W' ⟨o, e, B, e2, h⟩ hb => ⟨o, e, B, e2, h.same hb⟩, fun v u W W' ⟨e0, o, e, B, e2, h⟩ hb => ⟨e0, o, e, B, e2, h.same hb⟩⟩
    case hE11 =>
      intro R2' o ho ρ W2 hs hk af haf
      obtain rfl := Option.some.inj ho
      subst haf
      have Hk := Lib.hid hk
      clear hk
      go_wp2_with fail
      refine (visitAny_st (id' := pg.ri) (by exact hri) hs.b1).mono ?_
      rintro e w3 ⟨o, rfl, B, ho, hs⟩
      cases o with
      | none =>
        simp only [stV]
        go_wp2
        exact ⟨rfl, _, rfl, Hk.out _ _ ⟨none, rfl, B, ho, hs⟩⟩
      | some f =>
        simp only [stV]
        go_wp2
        exact ⟨rfl, _, rfl, Hk.out _ _ ⟨some f, rfl, B, ho, hs⟩⟩
    case hE21 =>
      rintro R2' o ho ρ v W2 ⟨ov, rfl, B, hov, hs⟩ hk af haf
      obtain rfl := Option.some.inj ho
      have Hk := Lib.hid hk
      clear hk
      simp only [dstAt, List.getElem?_cons_succ, List.getElem?_cons_zero, Option.bind_some, Act.put, List.setIfInBounds_toArray, List.set_cons_zero, List.set_cons_succ] at haf
      subst haf
      have Hov := Lib.hid hov
      clear hov
      cases ov with
      | none =>
        simp only [stV]
        go_wp2
        exact ⟨rfl, _, rfl, Hk.out _ _ ⟨rfl, none, rfl, B, Hov.out, hs⟩⟩
      | some f =>
        simp only [stV]
        go_wp2
        exact ⟨rfl, _, rfl, Hk.out _ _ ⟨rfl, some f, rfl, B, Hov.out, hs⟩⟩
    case hQ1 =>
      rintro v u W2 ⟨rfl, ov, rfl, B, hov, hs⟩
      simp only [dstAt, List.getElem?_cons_succ, List.getElem?_cons_zero, Option.bind_some, Act.put, List.setIfInBounds_toArray, List.set_cons_zero, List.set_cons_succ]
      have Hov := Lib.hid hov
      clear hov
      cases ov with
      | none =>
        simp only [stV]
        go_wp2
        go_ret
        exact ⟨none, rfl, by rw [Hs'.out]; exact ⟨B, _, Hov.out, hs.tail⟩⟩
      | some f =>
        simp only [stV]
        go_wp2
        go_ret
        exact ⟨some f, rfl, by rw [Hs'.out]; exact ⟨B, _, Hov.out, hs.tail⟩⟩
  | true =>
    simp only [Bool.not_true]
    rw [hin] at Hs'
    simp only [if_true] at Hs'
    have kw := hs.k0
    have k := hs.k1
    unfold pathCells at k
    go_upto_region 7 with (fail)
    refine region_pure (by kernel_rfl) (by kernel_rfl) ?_
    repeat (go_big_quiet_step (fail))
    refine wpQuiet_nil ?_
    intro w4 hb4
    have hs := hs.same hb4
    clear kw k hb4
    by_cases hlv : pg.lev = level
    · rw [if_pos hlv] at Hs'
      go_wp2
      go_ret
      exact ⟨none, rfl, by rw [Hs'.out]; exact ⟨⟨0, 0, 0, 0, 0, 0⟩, .slice a pg.sl.length c, rfl, hs.tail⟩⟩
    rw [if_neg hlv] at Hs'
    rw [show (pg.lev == level) = false by simp [hlv]]
    have hsl := (show St K w4 (rowC (.slice a pg.sl.length c) 69 2 pg.sl.length (slRow pg.sl) :: _) from hs.b2).row_slots (by omega)
    have Qc := Lib.hid (fun W (hb : Below w4.heap.size w4 W) => child_any (cap := c) (key := key) W (hsl.same hb) (hasc (by have := Hlt.out; omega)))
    obtain ⟨sv, hsv, hsr⟩ : ∃ sv : Sl, slVal (slOpt pg.sl ((hiK pg.sl key : Int) - 1)) = .agg #[.string sv.k, .int .u64 sv.r] ∧ childRef key pg.sl = sv.r := by
      unfold childRef
      cases slOpt pg.sl ((hiK pg.sl key : Int) - 1) with
      | none => exact ⟨⟨⟨#[]⟩, 0⟩, rfl, rfl⟩
      | some s => exact ⟨s, rfl, rfl⟩
    have hsr0 : 0 ≤ sv.r := by
      rw [← hsr]
      unfold childRef slOpt
      split
      · rename_i s hx
        split at hx
        · cases hx
        · exact hrf s (List.mem_of_getElem? hx)
      · omega
    rw [hsv] at Qc
    generalize (slOpt pg.sl ((hiK pg.sl key : Int) - 1)).isSome = bo at Qc
    rw [hsr] at Hs'
    have Hlv := Lib.hid hlv
    clear hsv hsr hsl
    clear hlv
    go_upto_region 9 with (fail)
    have Hs := Lib.hid hs
    clear hs
    refine region_two [false, false, false, false, false, false, false, false, false, true, true, false] 9 10
      (fun W => St K W (blk w.heap.size (.cells #[.int .i64 (pg).lev, (.slice a pg.sl.length c), .string (pg).hi, .bool (pg).la, .int .u64 (pg).ri] 43) :: blk b (.cells (pathCells nx d id pg (.slice a pg.sl.length c) (.func (.func 103) #[(.pointer (some ⟨b, 0, none⟩))] #[]) [.string key, .int .i64 level]).toArray 163) :: slC (.slice a pg.sl.length c) pg :: F) ∧ Below w4.heap.size w4 W)
      (fun v W => ∃ bn : Nat, v = (.pointer (some ⟨bn, 0, none⟩)) ∧ St K W (blk bn (.cells #[.string ⟨#[]⟩, .int .u64 0] 69) :: blk w.heap.size (.cells #[.int .i64 (pg).lev, (.slice a pg.sl.length c), .string (pg).hi, .bool (pg).la, .int .u64 (pg).ri] 43) :: blk b (.cells (pathCells nx d id pg (.slice a pg.sl.length c) (.func (.func 103) #[(.pointer (some ⟨b, 0, none⟩))] #[]) [.string key, .int .i64 level]).toArray 163) :: slC (.slice a pg.sl.length c) pg :: F) ∧ w4.heap.size ≤ bn ∧ Below w4.heap.size w4 W)
      (fun v u W => u = undef ∧ ∃ bn : Nat, v = (.pointer (some ⟨bn, 0, none⟩)) ∧ St K W (blk bn (.cells #[.string sv.k, .int .u64 sv.r] 69) :: blk w.heap.size (.cells #[.int .i64 (pg).lev, (.slice a pg.sl.length c), .string (pg).hi, .bool (pg).la, .int .u64 (pg).ri] 43) :: blk b (.cells (pathCells nx d id pg (.slice a pg.sl.length c) (.func (.func 103) #[(.pointer (some ⟨b, 0, none⟩))] #[]) [.string key, .int .i64 level]).toArray 163) :: slC (.slice a pg.sl.length c) pg :: F) ∧ w4.heap.size ≤ bn ∧ Below w4.heap.size w4 W)
      (fun W => ∃ cs, St K W (blk w.heap.size (.cells #[.int .i64 (pg).lev, (.slice a pg.sl.length c), .string (pg).hi, .bool (pg).la, .int .u64 (pg).ri] 43) :: blk b (.cells (pathCells nx d id pg (.slice a pg.sl.length c) (.func (.func 103) #[(.pointer (some ⟨b, 0, none⟩))] #[]) [.string key, .int .i64 level]).toArray 163) :: cs) ∧ Below w4.heap.size w4 W) ?aS3 (by decide) (by kernel_rfl) ?hB3 ?H3 ?haS3 ⟨Hs.out, Below.refl _ _⟩ ?hI3 ?hR3 ?hE13 ?hE23 ?hQ3
    case hB3 => as_aux_lemma => kernel_rfl
    case H3 =>
      rintro W2 ⟨cs, hs, hb⟩
      have k1 := hs.k0
      have k2 := hs.k1
      unfold pathCells at k2
      have Qy := Lib.hid (fun wz (hy : ∃ x : Ext, wz = over W2 x) => Qc.out wz (hb.trans ((Pure.below hy).mono hb.size)))
      clear hs hb
      simp only [withM]
      repeat (go_big_quiet_step ((go_at_call 140; exact pure_of (Qy.out _ ⟨_, rfl⟩))))
      refine wpQuiet_nil ?_
      rfl
    case haS3 => rfl
    case hI3 => exact ⟨fun W h => ⟨_, h⟩, fun v W ⟨_, _, h, _, hb⟩ => ⟨_, h.tail, hb⟩, fun v u W ⟨_, _, _, h, _, hb⟩ => ⟨_, h.tail, hb⟩⟩
    case hR3 => exact ⟨fun W W' ⟨h, hb0⟩ hb => ⟨h.same hb, hb0.trans (hb.mono hb0.size)⟩, fun v W W' ⟨bn, e, h, hbn, hb0⟩ hb => ⟨bn, e, h.same hb, hbn, hb0.trans (hb.mono hb0.size)⟩, fun v u W W' ⟨e0, bn, e, h, hbn, hb0⟩ hb => ⟨e0, bn, e, h.same hb, hbn, hb0.trans (hb.mono hb0.size)⟩⟩
    case hE13 =>
      rintro R2' o ho ρ W2 ⟨hs, hb⟩ hk af haf
      obtain rfl := Option.some.inj ho
      subst haf
      have Hk := Lib.hid hk
      clear hk
      have hs := hs.made (.cells #[.string ⟨#[]⟩, .int .u64 0] 69)
      go_wp2
      exact ⟨rfl, _, rfl, Hk.out _ _ ⟨_, rfl, hs, hb.size, hb.alloc hb.size _⟩⟩
    case hE23 =>
      rintro R2' o ho ρ v W2 ⟨bn, rfl, hs, hbn, hb⟩ hk af haf
      obtain rfl := Option.some.inj ho
      have Hk := Lib.hid hk
      clear hk
      simp only [dstAt, List.getElem?_cons_succ, List.getElem?_cons_zero, Option.bind_some, Act.put, List.setIfInBounds_toArray, List.set_cons_zero, List.set_cons_succ] at haf
      subst haf
      have k0 := hs.k0
      have f0 := hs.f0
      have hs2 := (hs.setL 0 (.string sv.k)).setL 1 (.int .u64 sv.r)
      simp only [List.set_cons_zero, List.set_cons_succ] at hs2
      have hb2 : Below w4.heap.size w4 ((W2.setCell ⟨bn, 0, none⟩ (.string sv.k)).setCell ⟨bn, 1, none⟩ (.int .u64 sv.r)) := (hb.setCell hbn _).setCell hbn _
      have Hb2 := Lib.hid hb2
      clear hb hb2
      go_wp2
      exact ⟨rfl, undef, rfl, Hk.out _ _ ⟨rfl, bn, rfl, hs2, hbn, Hb2.out⟩⟩
    case hQ3 =>
      rintro v u W2 ⟨rfl, bn, rfl, hs, hbn, hb⟩
      simp only [dstAt, List.getElem?_cons_succ, List.getElem?_cons_zero, Option.bind_some, Act.put, List.setIfInBounds_toArray, List.set_cons_zero, List.set_cons_succ]
      clear hb hbn
      have kw := hs.k0
      go_upto_region 10 with (fail)
      clear kw
      have Hs2 := Lib.hid hs
      clear hs
      refine region_two [false, false, false, false, false, true, true] 5 6
        (fun W => St K W (blk bn (.cells #[.string sv.k, .int .u64 sv.r] 69) :: blk b (.cells (pathCells nx d id pg (.slice a pg.sl.length c) (.func (.func 103) #[(.pointer (some ⟨b, 0, none⟩))] #[]) [.string key, .int .i64 level]).toArray 163) :: slC (.slice a pg.sl.length c) pg :: F))
        (fun v W => ∃ o, v = stV o ∧ ∃ B : VisB, o = fdPv b B (fdGo ⟨0, id, pg, rd0⟩ sv.r).pc ∧ St K W (blk bn (.cells #[.string sv.k, .int .u64 sv.r] 69) :: (fdL b nx B (.slice a pg.sl.length c) (.slice none 0 0) d key level (fdGo ⟨0, id, pg, rd0⟩ sv.r) ++ F)))
        (fun v u W => u = v ∧ ∃ o, v = stV o ∧ ∃ B : VisB, o = fdPv b B (fdGo ⟨0, id, pg, rd0⟩ sv.r).pc ∧ St K W (blk bn (.cells #[.string sv.k, .int .u64 sv.r] 69) :: (fdL b nx B (.slice a pg.sl.length c) (.slice none 0 0) d key level (fdGo ⟨0, id, pg, rd0⟩ sv.r) ++ F)))
        (fun W => ∃ cs, St K W (blk bn (.cells #[.string sv.k, .int .u64 sv.r] 69) :: cs)) ?aS4 (by decide) (by kernel_rfl) ?hB4 ?H4 ?haS4 Hs2.out.drop1 ?hI4 ?hR4 ?hE14 ?hE24 ?hQ4
      case hB4 => as_aux_lemma => kernel_rfl
      case H4 =>
        rintro W2 ⟨cs, hs⟩
        have k1 := hs.k0
        clear hs
        simp only [withM]
        repeat (go_big_quiet_step (fail))
        refine wpQuiet_nil ?_
        rfl
      case haS4 => rfl
      case hI4 => exact ⟨fun W h => ⟨_, h⟩, fun v W ⟨_, _, _, _, h⟩ => ⟨_, h⟩, fun v u W ⟨_, _, _, _, _, h⟩ => ⟨_, h⟩⟩
      case hR4 => exact ⟨fun W W' h hb => h.same hb, fun v W W' ⟨o, e, B, e2, h⟩ hb => ⟨o, e, B, e2, h.same hb⟩, fun v u W W' ⟨e0, o, e, B, e2, h⟩ hb => ⟨e0, o, e, B, e2, h.same hb⟩⟩
      case hE14 =>
        intro R2' o ho ρ W2 hs hk af haf
        obtain rfl := Option.some.inj ho
        subst haf
        have Hk := Lib.hid hk
        clear hk
        go_wp2_with fail
        refine (visitAny_st (id' := sv.r) (by exact hsr0) hs.b1).mono ?_
        rintro e w3 ⟨o, rfl, B, ho, hs⟩
        cases o with
        | none =>
          simp only [stV]
          go_wp2
          exact ⟨rfl, _, rfl, Hk.out _ _ ⟨none, rfl, B, ho, hs⟩⟩
        | some f =>
          simp only [stV]
          go_wp2
          exact ⟨rfl, _, rfl, Hk.out _ _ ⟨some f, rfl, B, ho, hs⟩⟩
      case hE24 =>
        rintro R2' o ho ρ v W2 ⟨ov, rfl, B, hov, hs⟩ hk af haf
        obtain rfl := Option.some.inj ho
        have Hk := Lib.hid hk
        clear hk
        simp only [dstAt, List.getElem?_cons_succ, List.getElem?_cons_zero, Option.bind_some, Act.put, List.setIfInBounds_toArray, List.set_cons_zero, List.set_cons_succ] at haf
        subst haf
        have Hov := Lib.hid hov
        clear hov
        cases ov with
        | none =>
          simp only [stV]
          go_wp2
          exact ⟨rfl, _, rfl, Hk.out _ _ ⟨rfl, none, rfl, B, Hov.out, hs⟩⟩
        | some f =>
          simp only [stV]
          go_wp2
          exact ⟨rfl, _, rfl, Hk.out _ _ ⟨rfl, some f, rfl, B, Hov.out, hs⟩⟩
      case hQ4 =>
        rintro v u W2 ⟨rfl, ov, rfl, B, hov, hs⟩
        simp only [dstAt, List.getElem?_cons_succ, List.getElem?_cons_zero, Option.bind_some, Act.put, List.setIfInBounds_toArray, List.set_cons_zero, List.set_cons_succ]
        have Hov := Lib.hid hov
        clear hov
        cases ov with
        | none =>
          simp only [stV]
          go_wp2
          go_ret
          exact ⟨none, rfl, by rw [Hs'.out]; exact ⟨B, _, Hov.out, hs.tail⟩⟩
        | some f =>
          simp only [stV]
          go_wp2
          go_ret
          exact ⟨some f, rfl, by rw [Hs'.out]; exact ⟨B, _, Hov.out, hs.tail⟩⟩
end
end Go.Proofs.YtlpdhhhgckpcfaaGreat

namespace Go.Proofs.YtlpdhhhgckpcfaaGreat
open Go.RowKit
set_option maxRecDepth 100000

section
variable {K : Know} {w : World} {F : List Comp} {b bm bc : Nat} {L : List Cel} {acc : Nat} {nx va : Value} {d : Cfg} {id : Int} {pg : Pg} {left : Nat} {th : Option FV} {word : Int}

set_option maxHeartbeats 16000000 in
theorem validate_st {tv : Value} (hd : d.Ok) (hid : 0 ≤ id ∧ id < 18446744073709551616) (ha : acc ≤ 1000000000000) (hL : 0 ≤ (getC L (d.node id 0)).n ∧ (getC L (d.node id 0)).n < 18446744073709551616) (hw : 0 ≤ word ∧ word < 18446744073709551616)
    (hs : St K w (blk b (.cells (rdCells nx d id pg va left tv word).toArray 222) :: memC bm bc L acc :: F)) :
    Calls Tryz.prog 191 #[.pointer (some ⟨b, 0, none⟩), .pointer (some ⟨bm, 0, none⟩)] w fun e w' =>
      e = .returned (stV (cond (ltUnlock word == ltUnlock (getC L (d.node id 0)).n) none (rdOpen b))) ∧
      St K w' (blk b (.cells (rdCells nx d id pg va left tv word).toArray 222) :: memC bm bc L (acc + 1) :: F) := by
  obtain ⟨c, hc⟩ : ∃ c, c = getC L (d.node id 0) := ⟨_, rfl⟩
  have q0 := fun (w : World) (F : List Comp) (hs : St K w (memC bm bc L acc :: F)) => load_st (i := d.node id 0) hs ha
  rw [← hc] at q0 hL ⊢
  have Q0 := Lib.hid q0
  have qs := fun w => ltSame_any word hw.1 hw.2 c.n hL.1 hL.2 w
  obtain ⟨o, ho⟩ : ∃ o, o = (ltUnlock word == ltUnlock c.n) := ⟨_, rfl⟩
  rw [← ho] at qs ⊢
  have Qs := Lib.hid qs
  have Ql := Lib.hid (fun w => latch_any d hd id hid.1 hid.2 w)
  have k := hs.k0
  unfold rdCells at k
  clear q0 hc qs ho
  go_enter Tryz.func191, Tryz.ntmps191
  go_upto_region 1 with (fail)
  go_cut [24] (fun v wx => v = .bool (!o) ∧ St K wx (blk b (.cells (rdCells nx d id pg va left tv word).toArray 222) :: memC bm bc L (acc + 1) :: F))
  case first =>
    as_aux_lemma =>
    clear hL hw hd hid ha k
    refine region_effect 16 (.agg #[.int .u64 c.n, .string c.k, .int .u64 c.m]) (fun W => St K W (blk b (.cells (rdCells nx d id pg va left tv word).toArray 222) :: memC bm bc L (acc + 1) :: F)) ?_ (by kernel_rfl) rfl (by as_aux_lemma => kernel_rfl) ?_ ?_ ?_ ?_
    case refine_2 =>
      intro W hW
      have k : ∀ j, W.cell? ⟨b, j, none⟩ = (rdCells nx d id pg va left tv word).toArray[j]? := by
        rcases hW with hW | hW
        · exact (hs.same hW).k0
        · exact hW.k0
      unfold rdCells at k
      clear hW
      simp only [withV]
      repeat (go_big_quiet_step (first | (go_at_call 69; exact pure_of (Ql.out _)) | (go_at_call 193; exact pure_of_same (Qs.out _))))
      refine wpQuiet_nil ?_
      rfl
    case refine_3 => exact fun W W' h hb => h.same hb
    case refine_4 =>
      intro W hb
      exact ⟨141, #[.pointer (some ⟨bm, 0, none⟩), .int .i64 (d.node id 0)], by kernel_rfl, (Q0.out _ _ (hs.same hb).b1).mono fun e w2 ⟨he, h⟩ => ⟨he, h.b1⟩⟩
    case refine_5 =>
      intro W hs
      go_wp2
      go_meet
      exact ⟨rfl, hs⟩
  case rest =>
    clear hs k
    obtain ⟨rfl, hs⟩ := hcut
    cases o with
    | true =>
      go_wp2
      go_ret
      exact ⟨rfl, hs⟩
    | false =>
      go_wp2
      go_ret
      exact ⟨rfl, hs⟩
end
end Go.Proofs.YtlpdhhhgckpcfaaGreat

namespace Go.Proofs.YtlpdhhhgckpcfaaGreat
open Go.RowKit
set_option maxRecDepth 100000

section
variable {K : Know} {w : World} {F : List Comp} {b bm bc : Nat} {L : List Cel} {acc : Nat} {va : Value} {d : Cfg} {id : Int} {s : RdS}

def rdAcc (p acc : Nat) : Nat := if 6 ≤ p then acc else acc + 1

theorem rd_run_of {s' : RdS} {f : FV} {acc' : Nat} (hf : Enters f.f) (hpc : rdPv b s.pc = some f) (hc : w.cell? ⟨b, 0, none⟩ = some (stV (rdPv b s.pc)))
    (hcall : Calls Tryz.prog f.f (f.x ++ #[.pointer (some ⟨bm, 0, none⟩)] ++ f.y) w fun e w1 => ∃ va', e = .returned (stV (rdPv b s'.pc)) ∧ St K w1 (blk b (.cells (rdCells (stV (rdPv b s.pc)) d id s'.pg va' s'.left (stV (rdTh b s'.t)) s'.word).toArray 222) :: slC va' s'.pg :: memC bm bc L acc' :: F)) :
    Calls Tryz.prog 77 #[.pointer (some ⟨b, 0, none⟩), .pointer (some ⟨bm, 0, none⟩)] w fun e w' => ∃ va', e = .returned (.bool (decide (6 ≤ s'.pc))) ∧ St K w' (rdC b d id va' s' :: slC va' s'.pg :: memC bm bc L acc' :: F) := by
  rw [hpc] at hc
  rw [← rdPv_none (b := b)]
  exact runStep_some (f := f) (o := rdPv b s'.pc) (tl := fun va' => (rdCells (stV (rdPv b s.pc)) d id s'.pg va' s'.left (stV (rdTh b s'.t)) s'.word).tail) (F' := fun va' => slC va' s'.pg :: memC bm bc L acc' :: F) hf hc hcall

theorem rdRun_st (hd : d.Ok) (hid : 0 ≤ id ∧ id < 18446744073709551616) (hL : CelsOk L) (ha : acc ≤ 1000000000000) (hok : s.Ok d) (hs : St K w (rdC b d id va s :: slC va s.pg :: memC bm bc L acc :: F)) :
    Calls Tryz.prog 77 #[.pointer (some ⟨b, 0, none⟩), .pointer (some ⟨bm, 0, none⟩)] w fun e w' => ∃ va', e = .returned (.bool (decide (6 ≤ (rdStep d id L s).pc))) ∧ St K w' (rdC b d id va' (rdStep d id L s) :: slC va' (rdStep d id L s).pg :: memC bm bc L (rdAcc s.pc acc) :: F) := by
  obtain ⟨pc, pg, left, word, t⟩ := s
  have h1 := hok.pc; have h2 := hok.word; have h3 := hok.len; have h4 := hok.th; have h5 := hok.left
  simp only at h1 h2 h3 h4 h5
  have hs' : St K w (blk b (.cells (rdCells (stV (rdPv b pc)) d id pg va left (stV (rdTh b t)) word).toArray 222) :: memC bm bc L acc :: slC va pg :: F) := hs.b2.b1
  have k0 : w.cell? ⟨b, 0, none⟩ = some (stV (rdPv b pc)) := hs'.k0 0
  have hfa := hd.fa2
  rcases (show pc = 0 ∨ pc = 1 ∨ pc = 2 ∨ pc = 3 ∨ pc = 4 ∨ pc = 5 ∨ pc = 6 by omega) with rfl | rfl | rfl | rfl | rfl | rfl | rfl
  · have q := open_st hd hid ha (hL (d.node id 0)) hs'
    cases hch : ltChg (getC L (d.node id 0)).n with
    | true =>
      rw [hch] at q
      have e : rdStep d id L ⟨0, pg, left, word, t⟩ = ⟨0, pg, left, (getC L (d.node id 0)).n, t⟩ := by simp only [rdStep]; rw [if_pos hch]
      rw [e]
      exact rd_run_of (s := ⟨0, pg, left, word, t⟩) (s' := ⟨0, pg, left, (getC L (d.node id 0)).n, t⟩) enters_open rfl k0 (q.mono fun e w1 ⟨he, h⟩ => ⟨va, he, h.b2.b1⟩)
    | false =>
      rw [hch] at q
      have e : rdStep d id L ⟨0, pg, left, word, t⟩ = ⟨1, pg, left, (getC L (d.node id 0)).n, true⟩ := by simp only [rdStep]; rw [if_neg (by simp [hch])]
      rw [e]
      exact rd_run_of (s := ⟨0, pg, left, word, t⟩) (s' := ⟨1, pg, left, (getC L (d.node id 0)).n, true⟩) enters_open rfl k0 (q.mono fun e w1 ⟨he, h⟩ => ⟨va, he, h.b2.b1⟩)
  · have q := head_st (th := rdTh b t) hd hid ha (hL (d.node id 1)) hs'
    exact rd_run_of (s := ⟨1, pg, left, word, t⟩) (s' := ⟨2, ⟨wrap64 (getC L (d.node id 1)).m, [], ⟨#[]⟩, false, 0⟩, leftOf d (getC L (d.node id 1)), word, t⟩) enters_head rfl k0 (q.mono fun e w1 ⟨he, h⟩ => ⟨.slice none 0 0, he, h.b2.tail.row_nil.b1⟩)
  · have q := high_st (th := rdTh b t) hd hid ha hs'
    exact rd_run_of (s := ⟨2, pg, left, word, t⟩) (s' := ⟨3, pg.high (getC L (d.node id 2)), left, word, t⟩) enters_high rfl k0 (q.mono fun e w1 ⟨he, h⟩ => ⟨va, he, h.b2.b1⟩)
  · obtain rfl : t = true := by simpa using h4
    have q := right_st (th := rdVal b) hd hid ha hs'
    rw [more_pv] at q
    exact rd_run_of (s := ⟨3, pg, left, word, true⟩) (s' := ⟨if left = 0 then 5 else 4, pg.right (getC L (d.node id 3)), left, word, true⟩) enters_right rfl k0 (q.mono fun e w1 ⟨he, h⟩ => ⟨va, he, h.b2.b1⟩)
  · obtain rfl : t = true := by simpa using h4
    have h3' : (pg.sl.length : Int) + left ≤ d.fa := by simpa using h3
    have q := slot_st (pg := pg) (th := rdVal b) hd hid ha (by omega) ⟨h5 rfl, by omega⟩ hs
    rw [more_pv] at q
    exact rd_run_of (s := ⟨4, pg, left, word, true⟩) (s' := ⟨if left - 1 = 0 then 5 else 4, pg.push (getC L (d.slot id pg.sl.length)), left - 1, word, true⟩) enters_slot rfl k0 (q.mono fun e w1 ⟨va', he, h⟩ => ⟨va', he, h⟩)
  · have q := validate_st hd hid ha (hL (d.node id 0)) h2 hs'
    cases hsm : (ltUnlock word == ltUnlock (getC L (d.node id 0)).n) with
    | true =>
      rw [hsm] at q
      have e : rdStep d id L ⟨5, pg, left, word, t⟩ = ⟨6, pg, left, word, t⟩ := by simp only [rdStep]; rw [if_pos hsm]
      rw [e]
      exact rd_run_of (s := ⟨5, pg, left, word, t⟩) (s' := ⟨6, pg, left, word, t⟩) enters_validate rfl k0 (q.mono fun e w1 ⟨he, h⟩ => ⟨va, he, h.b2.b1⟩)
    | false =>
      rw [hsm] at q
      have e : rdStep d id L ⟨5, pg, left, word, t⟩ = ⟨0, pg, left, word, t⟩ := by simp only [rdStep]; rw [if_neg (by simp [hsm])]
      rw [e]
      exact rd_run_of (s := ⟨5, pg, left, word, t⟩) (s' := ⟨0, pg, left, word, t⟩) enters_validate rfl k0 (q.mono fun e w1 ⟨he, h⟩ => ⟨va, he, h.b2.b1⟩)
  · exact (runStep_end_st hs k0).mono fun e w1 ⟨he, h⟩ => ⟨va, he, h⟩
end
end Go.Proofs.YtlpdhhhgckpcfaaGreat

namespace Go.Proofs.YtlpdhhhgckpcfaaGreat
open Go.RowKit
set_option maxRecDepth 100000

theorem field_page1 (w : World) (lev ri : Int) (a : Option Addr) (n c : Nat) (hi : ByteArray) (la : Bool) : (Instr.field 43 (.agg #[.int .i64 lev, .slice a n c, .string hi, .bool la, .int .u64 ri]) 1).run Tryz.prog w = .ok (.slice a n c) w := rfl
theorem field_page3 (w : World) (lev ri : Int) (a : Option Addr) (n c : Nat) (hi : ByteArray) (la : Bool) : (Instr.field 43 (.agg #[.int .i64 lev, .slice a n c, .string hi, .bool la, .int .u64 ri]) 3).run Tryz.prog w = .ok (.bool la) w := rfl
theorem field_page4 (w : World) (lev ri : Int) (a : Option Addr) (n c : Nat) (hi : ByteArray) (la : Bool) : (Instr.field 43 (.agg #[.int .i64 lev, .slice a n c, .string hi, .bool la, .int .u64 ri]) 4).run Tryz.prog w = .ok (.int .u64 ri) w := rfl
attribute [go_sem] field_page1 field_page3 field_page4

section
variable {K : Know} {w : World} {F : List Comp} {b bm bc : Nat} {L : List Cel} {acc : Nat} {va : Value} {d : Cfg} {id : Int} {s : RdS}
theorem rdStep_st (hd : d.Ok) (hid : 0 ≤ id ∧ id < 18446744073709551616) (hL : CelsOk L) (ha : acc ≤ 1000000000000) (hok : s.Ok d) (hs : St K w (rdC b d id va s :: slC va s.pg :: memC bm bc L acc :: F)) :
    Calls Tryz.prog 215 #[.pointer (some ⟨b, 0, none⟩), .pointer (some ⟨bm, 0, none⟩)] w fun e w' => ∃ va', e = .returned (.bool (decide (6 ≤ (rdStep d id L s).pc))) ∧ St K w' (rdC b d id va' (rdStep d id L s) :: slC va' (rdStep d id L s).pg :: memC bm bc L (rdAcc s.pc acc) :: F) := by
  have Q := Lib.hid (rdRun_st hd hid hL ha hok hs)
  clear hs
  go_enter Tryz.func215, Tryz.ntmps215
  go_wp2_with fail
  refine (Q.out).mono ?_
  rintro e w1 ⟨va', rfl, hs⟩
  go_wp2
  go_ret
  exact ⟨va', rfl, hs⟩
end

section
variable {K : Know} {w : World} {cs : List Comp}
end
end Go.Proofs.YtlpdhhhgckpcfaaGreat

namespace Go.Proofs.YtlpdhhhgckpcfaaGreat
open Go.RowKit
set_option maxRecDepth 100000

theorem runStep_of {K : Know} {w : World} {α : Type} {b m : Nat} {f : FV} {o : α → Option FV} {nx : Value} {tl : α → List Value} {T : TypeId} {F' : α → List Comp} (hf : Enters f.f) (hc : w.cell? ⟨b, 0, none⟩ = some (stV (some f)))
    (hcall : Calls Tryz.prog f.f (f.x ++ #[(.pointer (some ⟨m, 0, none⟩))] ++ f.y) w fun e w1 => ∃ x, e = .returned (stV (o x)) ∧ St K w1 (blk b (.cells (nx :: tl x).toArray T) :: F' x)) :
    Calls Tryz.prog 77 #[(.pointer (some ⟨b, 0, none⟩)), (.pointer (some ⟨m, 0, none⟩))] w fun e w' => ∃ x, e = .returned (.bool (o x).isNone) ∧ St K w' (blk b (.cells (stV (o x) :: tl x).toArray T) :: F' x) := by
  refine (runStep_st (R := fun l => ∃ x, l = ⟨o x, K, nx, tl x, T, F' x⟩) w b m f hf hc (hcall.mono fun e w1 ⟨x, he, hs⟩ => ⟨⟨o x, K, nx, tl x, T, F' x⟩, he, ⟨x, rfl⟩, hs⟩)).mono ?_
  rintro e w' ⟨l, he, ⟨x, rfl⟩, hs⟩
  exact ⟨x, he, hs⟩

structure FdS.Ok (d : Cfg) (s : FdS) : Prop where
  pc : s.pc ≤ 2
  rd : s.pc = 1 → 1 ≤ s.id ∧ s.id < 18446744073709551616 ∧ s.rd.Ok d ∧ s.rd.pc ≤ 5
/-- What turn wants of a page. -/
structure PgGood (level : Int) (pg : Pg) : Prop where
  ri : 0 ≤ pg.ri
  rf : ∀ s, s ∈ pg.sl → 0 ≤ s.r
  asc : level < pg.lev → Asc pg.sl
def fdAcc (p acc : Nat) : Nat := if p = 2 then acc else acc + 1

theorem rootEnters : Enters 104 := fun _ _ => by kernel_rfl
theorem turnEnters : Enters 103 := fun _ _ => by kernel_rfl
theorem visitThenEnters : Enters 166 := fun _ _ => by kernel_rfl
theorem readStepEnters : Enters 215 := fun _ _ => by kernel_rfl

section
variable {K : Know} {w : World} {F : List Comp} {b bm bc : Nat} {va va2 : Value} {d : Cfg} {L : List Cel} {acc : Nat} {key : ByteArray} {level : Int} {s : FdS} {B : VisB}
/-- What a step leaves. -/
def FdP (K : Know) (b bm bc : Nat) (d : Cfg) (L : List Cel) (acc : Nat) (key : ByteArray) (level : Int) (F : List Comp) (s : FdS) (e : Ending) (w' : World) : Prop :=
  ∃ (x : VisB × Value × Value), e = .returned (.bool (fdPv b x.1 s.pc).isNone) ∧ St K w' (fdL b (stV (fdPv b x.1 s.pc)) x.1 x.2.1 x.2.2 d key level s ++ memC bm bc L acc :: F)

/-- The rest of a Find's cells. -/
def fdTl (b : Nat) (va : Value) (d : Cfg) (key : ByteArray) (level : Int) (s : FdS) : List Value := (pathCells (.nilFunc) d s.id s.pg va (.func (.func 103) #[(.pointer (some ⟨b, 0, none⟩))] #[]) [.string key, .int .i64 level]).tail

theorem findRun_st (hd : d.Ok) (hL : CelsOk L) (ha : acc ≤ 1000000000000) (hok : s.Ok d) (hpg : s.pc = 1 → (rdStep d s.id L s.rd).pc = 6 → PgGood level (rdStep d s.id L s.rd).pg)
    (hs : St K w (fdL b (stV (fdPv b B s.pc)) B va va2 d key level s ++ memC bm bc L acc :: F)) :
    Calls Tryz.prog 77 #[(.pointer (some ⟨b, 0, none⟩)), (.pointer (some ⟨bm, 0, none⟩))] w fun e w' => FdP K b bm bc d L (fdAcc s.pc acc) key level F (fdStep d L key level s) e w' := by
  obtain ⟨pc, id, pg, rd⟩ := s
  have hc : w.cell? ⟨b, 0, none⟩ = some (stV (fdPv b B pc)) := by
    have hs' : St K w (blk b (.cells (pathCells (stV (fdPv b B pc)) d id pg va (.func (.func 103) #[(.pointer (some ⟨b, 0, none⟩))] #[]) [.string key, .int .i64 level]).toArray 163) :: _) := hs
    exact hs'.k0 0
  match pc, hok, hpg, hs, hc with
  | 0, hok, hpg, hs, hc =>
    have hs : St K w (blk b (.cells (pathCells (stV (some (rootFV b))) d id pg va (.func (.func 103) #[(.pointer (some ⟨b, 0, none⟩))] #[]) [.string key, .int .i64 level]).toArray 163) :: slC va pg :: memC bm bc L acc :: F) := hs
    refine (runStep_of (K := K) (α := VisB × Value × Value) (f := rootFV b) (o := fun x => fdPv b x.1 (fdStep d L key level ⟨0, id, pg, rd⟩).pc) (nx := stV (some (rootFV b)))
      (tl := fun x => fdTl b x.2.1 d key level (fdStep d L key level ⟨0, id, pg, rd⟩))
      (F' := fun x => (fdL b .nilFunc x.1 x.2.1 x.2.2 d key level (fdStep d L key level ⟨0, id, pg, rd⟩)).tail ++ memC bm bc L (acc + 1) :: F) (T := 163) rootEnters hc ?_).mono (fun e w' h => h)
    show Calls Tryz.prog 104 #[(.pointer (some ⟨b, 2, none⟩)), (.pointer (some ⟨bm, 0, none⟩))] w _
    refine (root_st ha hL (hs.re [0, 2, 1] rfl)).mono ?_
    rintro e w1 (⟨h0, rfl, hs⟩ | ⟨h1, B', rfl, hs⟩)
    · have e1 : fdStep d L key level ⟨0, id, pg, rd⟩ = ⟨0, id, pg, rd0⟩ := by
        show fdGo _ (getC L 0).n = _
        unfold fdGo; rw [if_pos h0]
      rw [e1]
      exact ⟨(B, va, va2), rfl, hs.re [0, 2, 1] rfl⟩
    · have e1 : fdStep d L key level ⟨0, id, pg, rd⟩ = ⟨1, (getC L 0).n, pg, rd0⟩ := by
        show fdGo _ (getC L 0).n = _
        unfold fdGo; rw [if_neg (by omega)]
      rw [e1]
      exact ⟨(B', va, .slice none 0 0), rfl, hs.re [0, 7, 1, 2, 3, 4, 5, 6] rfl⟩
  | 1, hok, hpg, hs, hc =>
    obtain ⟨b2, b3, b5, bt, bp, br⟩ := B
    have hs : St K w (blk b (.cells (pathCells (stV (some (callFV b2 b3 b5))) d id pg va (.func (.func 103) #[(.pointer (some ⟨b, 0, none⟩))] #[]) [.string key, .int .i64 level]).toArray 163) :: slC va pg :: callC b2 b3 b5 (.iface 213 (.pointer (some ⟨br, 0, none⟩))) (visThen ⟨b2, b3, b5, bt, bp, br⟩) :: blk bt (.cells #[(.pointer (some ⟨br, 0, none⟩))] 213) :: blk bp (.cells #[(.pointer (some ⟨b, 2, none⟩))] 194) :: rdC br d id va2 rd :: slC va2 rd.pg :: memC bm bc L acc :: F) := hs
    obtain ⟨hid1, hid2, hrd, h5⟩ := hok.rd rfl
    simp only at hid1 hid2 hrd h5
    have hst := rdStep_ok hd (id := id) hL hrd
    refine (runStep_of (K := K) (α := VisB × Value × Value) (f := callFV b2 b3 b5) (o := fun x => fdPv b x.1 (fdStep d L key level ⟨1, id, pg, rd⟩).pc) (nx := stV (some (callFV b2 b3 b5)))
      (tl := fun x => fdTl b x.2.1 d key level (fdStep d L key level ⟨1, id, pg, rd⟩))
      (F' := fun x => (fdL b .nilFunc x.1 x.2.1 x.2.2 d key level (fdStep d L key level ⟨1, id, pg, rd⟩)).tail ++ memC bm bc L (acc + 1) :: F) (T := 163) callEnters hc ?_).mono (fun e w' h => h)
    show Calls Tryz.prog 115 #[(.pointer (some ⟨bm, 0, none⟩)), (.pointer (some ⟨b2, 0, none⟩)), (.pointer (some ⟨b3, 0, none⟩)), (.pointer (some ⟨b5, 0, none⟩))] w _
    have hrs := rdStep_st hd ⟨by omega, hid2⟩ hL ha hrd (hs.re [5, 6, 7, 0, 1, 2, 3, 4] rfl)
    rw [show rdAcc rd.pc acc = acc + 1 by unfold rdAcc; rw [if_neg (by omega)]] at hrs
    refine (callStep_st (P0 := fun w' => (rdStep d id L rd).pc ≠ 6 ∧ ∃ va', St K w' (blk b (.cells (pathCells (stV (some (callFV b2 b3 b5))) d id pg va (.func (.func 103) #[(.pointer (some ⟨b, 0, none⟩))] #[]) [.string key, .int .i64 level]).toArray 163) :: slC va pg :: visL b ⟨b2, b3, b5, bt, bp, br⟩ d id va' (rdStep d id L rd) ++ memC bm bc L (acc + 1) :: F))
      (P1 := fun o w' => (rdStep d id L rd).pc = 6 ∧ FtP K b (stV (some (callFV b2 b3 b5))) d key level (memC bm bc L (acc + 1) :: F) (fdTurn key level id (rdStep d id L rd).pg) o w')
      (hs.re [2, 0, 1, 3, 4, 5, 6, 7] rfl) (fun n w => method_read n _ w) readStepEnters visitThenEnters (hrs.mono ?_)).mono ?_
    · rintro e w1 ⟨va', rfl, hs⟩
      refine ⟨⟨K, _, hs.re [5, 0, 1, 2, 3, 4, 6, 7] rfl⟩, ?_⟩
      by_cases h6 : (rdStep d id L rd).pc = 6
      · refine .inr ⟨by rw [decide_eq_true (by omega)], ?_⟩
        have hg := hpg rfl h6
        simp only at hg
        have hlen : (rdStep d id L rd).pg.sl.length ≤ 1000000 := by
          have := hd.fa2
          rcases hst.len with h | h <;> omega
        have hsx : St K w1 (blk b (.cells (pathCells (stV (some (callFV b2 b3 b5))) d id pg va (.func (.func 103) #[(.pointer (some ⟨b, 0, none⟩))] #[]) [.string key, .int .i64 level]).toArray 163) :: (visL b ⟨b2, b3, b5, bt, bp, br⟩ d id va' (rdStep d id L rd) ++ memC bm bc L (acc + 1) :: F)) := (hs.re [4, 3, 5, 6, 7, 0, 1, 2] rfl).tail
        refine (visThen_st (R := FtP K b (stV (some (callFV b2 b3 b5))) d key level (memC bm bc L (acc + 1) :: F) (fdTurn key level id (rdStep d id L rd).pg)) turnEnters h6 hlen hsx ?_).mono (fun e w2 ⟨o, he, h⟩ => ⟨o, he, h6, h⟩)
        · intro w2 va1 hs2
          exact fturn_st hg.ri hg.rf hlen hg.asc hs2
      · refine .inl ⟨by rw [decide_eq_false (by have := hst.pc; omega)], h6, va', hs.re [3, 4, 5, 6, 7, 0, 1, 2] rfl⟩
    · rintro e w1 ⟨o, rfl, ⟨rfl, h6, va', hs⟩ | ⟨h6, h⟩⟩
      · have e1 : fdStep d L key level ⟨1, id, pg, rd⟩ = ⟨1, id, pg, rdStep d id L rd⟩ := by
          show (if _ then _ else _) = _
          rw [if_neg h6]
        rw [e1]
        exact ⟨(⟨b2, b3, b5, bt, bp, br⟩, va, va'), rfl, hs⟩
      · have e1 : fdStep d L key level ⟨1, id, pg, rd⟩ = fdTurn key level id (rdStep d id L rd).pg := by
          show (if _ then _ else _) = _
          rw [if_pos h6]
        rw [e1]
        obtain ⟨B', va', rfl, hs⟩ := h
        exact ⟨(B', va', .slice none 0 0), rfl, hs⟩
  | n + 2, hok, hpg, hs, hc =>
    obtain rfl : n = 0 := by have h := hok.pc; simp only at h; omega
    refine (runStep_end_st hs hc).mono ?_
    rintro e w' ⟨rfl, hs⟩
    exact ⟨(B, va, va2), rfl, hs⟩
end
end Go.Proofs.YtlpdhhhgckpcfaaGreat

namespace Go.Proofs.YtlpdhhhgckpcfaaGreat
open Go.RowKit
set_option maxRecDepth 100000
section
variable {K : Know} {w : World} {F : List Comp} {b bm bc : Nat} {va va2 : Value} {d : Cfg} {L : List Cel} {acc : Nat} {key : ByteArray} {level : Int} {s : FdS} {B : VisB}
theorem fdPv_none {b : Nat} {B : VisB} {p : Nat} : (fdPv b B p).isNone = decide (2 ≤ p) := by
  match p with
  | 0 => rfl
  | 1 => rfl
  | n + 2 => simp [fdPv]
theorem findStep_st (hd : d.Ok) (hL : CelsOk L) (ha : acc ≤ 1000000000000) (hok : s.Ok d) (hpg : s.pc = 1 → (rdStep d s.id L s.rd).pc = 6 → PgGood level (rdStep d s.id L s.rd).pg)
    (hs : St K w (fdL b (stV (fdPv b B s.pc)) B va va2 d key level s ++ memC bm bc L acc :: F)) :
    Calls Tryz.prog 49 #[(.pointer (some ⟨b, 0, none⟩)), (.pointer (some ⟨bm, 0, none⟩))] w fun e w' => e = .returned (.bool (decide (2 ≤ (fdStep d L key level s).pc))) ∧
      ∃ (x : VisB × Value × Value), St K w' (fdL b (stV (fdPv b x.1 (fdStep d L key level s).pc)) x.1 x.2.1 x.2.2 d key level (fdStep d L key level s) ++ memC bm bc L (fdAcc s.pc acc) :: F) := by
  have q := findRun_st hd hL ha hok hpg hs
  have Q := Lib.hid q
  generalize fdStep d L key level s = s' at *
  generalize fdAcc s.pc acc = acc' at *
  clear q hs hpg
  go_enter Tryz.func49, Tryz.ntmps49
  go_wp2_with fail
  refine (Q.out).mono ?_
  rintro e w1 ⟨x, rfl, hs⟩
  rw [fdPv_none]
  have Hs := Lib.hid hs
  clear hs
  go_wp2
  go_ret
  exact ⟨rfl, x, Hs.out⟩
theorem fdNode_res (tmps : Array Value) (w : World) (b : Nat) (v0 v1 v2 v3 v4 u : Value) (hq : tmps[2]? = some u) (hp : tmps[3]? = some (.pointer (some ⟨b, 0, none⟩))) (hk : ∀ k, w.cell? ⟨b, k, none⟩ = (#[v0, v1, v2, v3, v4] : Array Value)[k]?) :
    (results Tryz.f50 tmps).run Tryz.prog w = .ok (.tuple #[u, .agg #[v0, v1, v2, v3, v4]]) w := by
  simp [results, Tryz.results50, go_sem, hp, hq, hk]
set_option maxHeartbeats 2000000 in
theorem findNode_st (h2 : s.pc = 2) (hn : s.pg.sl.length ≤ 1000000) (hs : St K w (fdL b .nilFunc B va va2 d key level s ++ F)) :
    Calls Tryz.prog 50 #[(.pointer (some ⟨b, 0, none⟩))] w fun e w' => ∃ va', e = .returned (.tuple #[.int .u64 s.id, .agg #[.int .i64 (s.pg).lev, va', .string (s.pg).hi, .bool (s.pg).la, .int .u64 (s.pg).ri]]) ∧ St K w' (slC va' s.pg :: (fdL b .nilFunc B va va2 d key level s ++ F)) := by
  obtain ⟨pc, id, pg, rd⟩ := s
  simp only at h2 hn
  subst h2
  have hs : St K w (blk b (.cells (pathCells .nilFunc d id pg va (.func (.func 103) #[(.pointer (some ⟨b, 0, none⟩))] #[]) [.string key, .int .i64 level]).toArray 163) :: slC va pg :: F) := hs
  obtain ⟨a, cap, rfl, _, _⟩ := (show St K w (rowC va 69 2 pg.sl.length (slRow pg.sl) :: _) from hs.b1).row_read
  have hsl := (show St K w (rowC (.slice a pg.sl.length cap) 69 2 pg.sl.length (slRow pg.sl) :: _) from hs.b1).row_slots (by omega)
  have Hl := Lib.hid (show (slRow pg.sl).length = pg.sl.length * 2 by rw [slRow_length])
  have H0 : Hid (a = none → pg.sl.length = 0) := Lib.hid (fun e => by subst e; rw [hsl.no]; rfl)
  have H1 := Lib.hid (slRow_one pg.sl)
  obtain ⟨iv, hiv0, hiv1, hiv2, hiv3⟩ := info_parts infoSlot
  have Hi0 := Lib.hid hiv0
  have Hi1 := Lib.hid hiv1
  have Hi2 := Lib.hid hiv2
  have Hi3 := Lib.hid hiv3
  clear hiv0 hiv1 hiv2 hiv3
  have hs1 := hs.made (.cells #[.int .i64 0, .slice none 0 0, .string ⟨#[]⟩, .bool false, .int .u64 0] 43)
  have Qd := Lib.hid (rdDone_any (w.alloc (.cells #[.int .i64 0, .slice none 0 0, .string ⟨#[]⟩, .bool false, .int .u64 0] 43)) b (hs1.k1 0) (hs1.k1 1))
  have k := hs1.k1
  unfold pathCells at k
  have Hs1 := Lib.hid hs1
  clear hs hs1 hsl
  go_enter Tryz.func50, Tryz.ntmps50
  go_wp2_with fail
  refine (Qd.out).mono ?_
  rintro e w1 ⟨rfl, rfl⟩
  go_upto_region 4 with (fail)
  clear k
  have hs := Hs1.out.made (.cells #[.int .i64 (pg).lev, (.slice a pg.sl.length cap), .string (pg).hi, .bool (pg).la, .int .u64 (pg).ri] 43)
  rw [World.size_alloc] at hs
  have hsl := (show St K _ (rowC (.slice a pg.sl.length cap) 69 2 pg.sl.length (slRow pg.sl) :: _) from hs.b3).row_slots (by omega)
  have Hn := Lib.hid hsl.news
  obtain ⟨sl, hsl2⟩ : ∃ sl, sl = slRow pg.sl := ⟨_, rfl⟩
  rw [← hsl2] at Hl H1 Hn
  have Hsl2 := Lib.hid hsl2
  have kp := hs.k0
  have Hs := Lib.hid (hs.row_nil (T := 69) (size := 2))
  clear hs hsl hsl2
  go_wp2_with (at_builtin; refine append_row_st _ _ 41 69 _ 0 pg.sl.length cap 2 24 [] sl (.agg #[.string ⟨#[]⟩, .int .u64 0]) iv a Hs.out rfl rfl Tryz.underlying41 Hi0.out Hi1.out Hi2.out Hi3.out rfl (by decide) rfl rfl Hl.out H0.out Hn.out H1.out (by omega) (by decide) ?_)
  intro v' w' hs
  obtain ⟨ao, capo, hv, _, _⟩ := hs.row_read
  subst hv
  have hs := hs.b1
  have kb := hs.k0
  have fb := hs.f0
  have hs := (hs.setL 1 (.slice ao pg.sl.length capo))
  simp only [List.set_cons_zero, List.set_cons_succ] at hs
  clear Hs Hl H0 H1 Hn
  go_upto_region 5 with (fail)
  clear kb fb kp
  have kb := hs.k0
  have k := hs.b3.k0
  unfold pathCells at k
  refine region_tail 7 (by kernel_rfl) (by as_aux_lemma => kernel_rfl) ?_
  simp only [List.take_succ_cons, List.take_zero, List.drop_succ_cons, List.drop_zero]
  repeat (go_big_quiet_step (fail))
  refine wpQuiet_nil ?_
  intro w3 hb3
  have hs := (hs.same hb3).b2
  clear kb k hb3
  have kb := hs.k0
  have fb := hs.f0
  have hs := ((((hs.setL 0 (.int .i64 pg.lev)).setL 1 (.slice ao pg.sl.length capo)).setL 2 (.string pg.hi)).setL 3 (.bool pg.la)).setL 4 (.int .u64 pg.ri)
  simp only [List.set_cons_zero, List.set_cons_succ] at hs
  go_wp2
  refine bodyPost_ret (fdNode_res _ _ w.heap.size _ _ _ _ _ _ rfl rfl hs.k0) rfl ?_
  rw [Hsl2.out] at hs
  exact ⟨_, rfl, (hs.re [2, 0, 1, 3, 4] rfl).drop1.drop1⟩
end
end Go.Proofs.YtlpdhhhgckpcfaaGreat
