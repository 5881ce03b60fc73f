/- A step of descent.Find. descent.Find: Step and Node. -/
import Derived.Test.YtfgjanponijkhaaFind
import Derived.Test.YtfgjanponijkhaaAw8
namespace Go.Proofs.Ytfgjanponijkhaa
open Go.RowKit
set_option maxRecDepth 100000

theorem runStep_of {K : Know} {w : World} {α : Type} {b m : Nat} {f : FV} {o : α → Option FV} {nx : Value} {tl : α → List Value} {T : TypeId} {F' : α → List Comp} (hf : Enters f.f) (hc : w.cell? ⟨b, 0, none⟩ = some (stV (some f)))
    (hcall : Calls Try.prog f.f (f.x ++ #[(.pointer (some ⟨m, 0, none⟩))] ++ f.y) w fun e w1 => ∃ x, e = .returned (stV (o x)) ∧ St K w1 (blk b (.cells (nx :: tl x).toArray T) :: F' x)) :
    Calls Try.prog 103 #[(.pointer (some ⟨b, 0, none⟩)), (.pointer (some ⟨m, 0, none⟩))] w fun e w' => ∃ x, e = .returned (.bool (o x).isNone) ∧ St K w' (blk b (.cells (stV (o x) :: tl x).toArray T) :: F' x) := by
  refine (runStep_st (R := fun l => ∃ x, l = ⟨o x, K, nx, tl x, T, F' x⟩) w b m f hf hc (hcall.mono fun e w1 ⟨x, he, hs⟩ => ⟨⟨o x, K, nx, tl x, T, F' x⟩, he, ⟨x, rfl⟩, hs⟩)).mono ?_
  rintro e w' ⟨l, he, ⟨x, rfl⟩, hs⟩
  exact ⟨x, he, hs⟩

structure FdS.Ok (d : Cfg) (s : FdS) : Prop where
  pc : s.pc ≤ 2
  rd : s.pc = 1 → 1 ≤ s.id ∧ s.id < 18446744073709551616 ∧ s.rd.Ok d ∧ s.rd.pc ≤ 5
/-- What turn wants of a page. -/
structure PgGood (level : Int) (pg : Pg) : Prop where
  ri : 0 ≤ pg.ri
  rf : ∀ s, s ∈ pg.sl → 0 ≤ s.r
  asc : level < pg.lev → Asc pg.sl
def fdAcc (p acc : Nat) : Nat := if p = 2 then acc else acc + 1

theorem rootEnters : Enters 131 := fun _ _ => by kernel_rfl
theorem turnEnters : Enters 130 := fun _ _ => by kernel_rfl
theorem visitThenEnters : Enters 188 := fun _ _ => by kernel_rfl
theorem readStepEnters : Enters 26 := fun _ _ => by kernel_rfl

section
variable {K : Know} {w : World} {F : List Comp} {b bm bc : Nat} {va va2 : Value} {d : Cfg} {L : List Cel} {acc : Nat} {key : ByteArray} {level : Int} {s : FdS} {B : VisB}
/-- What a step leaves. -/
def FdP (K : Know) (b bm bc : Nat) (d : Cfg) (L : List Cel) (acc : Nat) (key : ByteArray) (level : Int) (F : List Comp) (s : FdS) (e : Ending) (w' : World) : Prop :=
  ∃ (x : VisB × Value × Value), e = .returned (.bool (fdPv b x.1 s.pc).isNone) ∧ St K w' (fdL b (stV (fdPv b x.1 s.pc)) x.1 x.2.1 x.2.2 d key level s ++ memC bm bc L acc :: F)

/-- The rest of a Find's cells. -/
def fdTl (b : Nat) (va : Value) (d : Cfg) (key : ByteArray) (level : Int) (s : FdS) : List Value := (pathCells (.nilFunc) d s.id s.pg va (.func (.func 130) #[(.pointer (some ⟨b, 0, none⟩))] #[]) [.string key, .int .i64 level]).tail

theorem findRun_st (hd : d.Ok) (hL : CelsOk L) (ha : acc ≤ 1000000000000) (hok : s.Ok d) (hpg : s.pc = 1 → (rdStep d s.id L s.rd).pc = 6 → PgGood level (rdStep d s.id L s.rd).pg)
    (hs : St K w (fdL b (stV (fdPv b B s.pc)) B va va2 d key level s ++ memC bm bc L acc :: F)) :
    Calls Try.prog 103 #[(.pointer (some ⟨b, 0, none⟩)), (.pointer (some ⟨bm, 0, none⟩))] w fun e w' => FdP K b bm bc d L (fdAcc s.pc acc) key level F (fdStep d L key level s) e w' := by
  obtain ⟨pc, id, pg, rd⟩ := s
  have hc : w.cell? ⟨b, 0, none⟩ = some (stV (fdPv b B pc)) := by
    have hs' : St K w (blk b (.cells (pathCells (stV (fdPv b B pc)) d id pg va (.func (.func 130) #[(.pointer (some ⟨b, 0, none⟩))] #[]) [.string key, .int .i64 level]).toArray 203) :: _) := hs
    exact hs'.k0 0
  match pc, hok, hpg, hs, hc with
  | 0, hok, hpg, hs, hc =>
    have hs : St K w (blk b (.cells (pathCells (stV (some (rootFV b))) d id pg va (.func (.func 130) #[(.pointer (some ⟨b, 0, none⟩))] #[]) [.string key, .int .i64 level]).toArray 203) :: slC va pg :: memC bm bc L acc :: F) := hs
    refine (runStep_of (K := K) (α := VisB × Value × Value) (f := rootFV b) (o := fun x => fdPv b x.1 (fdStep d L key level ⟨0, id, pg, rd⟩).pc) (nx := stV (some (rootFV b)))
      (tl := fun x => fdTl b x.2.1 d key level (fdStep d L key level ⟨0, id, pg, rd⟩))
      (F' := fun x => (fdL b .nilFunc x.1 x.2.1 x.2.2 d key level (fdStep d L key level ⟨0, id, pg, rd⟩)).tail ++ memC bm bc L (acc + 1) :: F) (T := 203) rootEnters hc ?_).mono (fun e w' h => h)
    show Calls Try.prog 131 #[(.pointer (some ⟨b, 2, none⟩)), (.pointer (some ⟨bm, 0, none⟩))] w _
    refine (root_st ha hL (hs.re [0, 2, 1] rfl)).mono ?_
    rintro e w1 (⟨h0, rfl, hs⟩ | ⟨h1, B', rfl, hs⟩)
    · have e1 : fdStep d L key level ⟨0, id, pg, rd⟩ = ⟨0, id, pg, rd0⟩ := by
        show fdGo _ (getC L 0).n = _
        unfold fdGo; rw [if_pos h0]
      rw [e1]
      exact ⟨(B, va, va2), rfl, hs.re [0, 2, 1] rfl⟩
    · have e1 : fdStep d L key level ⟨0, id, pg, rd⟩ = ⟨1, (getC L 0).n, pg, rd0⟩ := by
        show fdGo _ (getC L 0).n = _
        unfold fdGo; rw [if_neg (by omega)]
      rw [e1]
      exact ⟨(B', va, .slice none 0 0), rfl, hs.re [0, 7, 1, 2, 3, 4, 5, 6] rfl⟩
  | 1, hok, hpg, hs, hc =>
    obtain ⟨b2, b3, b5, bt, bp, br⟩ := B
    have hs : St K w (blk b (.cells (pathCells (stV (some (callFV b2 b3 b5))) d id pg va (.func (.func 130) #[(.pointer (some ⟨b, 0, none⟩))] #[]) [.string key, .int .i64 level]).toArray 203) :: slC va pg :: callC b2 b3 b5 (.iface 42 (.pointer (some ⟨br, 0, none⟩))) (visThen ⟨b2, b3, b5, bt, bp, br⟩) :: blk bt (.cells #[(.pointer (some ⟨br, 0, none⟩))] 42) :: blk bp (.cells #[(.pointer (some ⟨b, 2, none⟩))] 236) :: rdC br d id va2 rd :: slC va2 rd.pg :: memC bm bc L acc :: F) := hs
    obtain ⟨hid1, hid2, hrd, h5⟩ := hok.rd rfl
    simp only at hid1 hid2 hrd h5
    have hst := rdStep_ok hd (id := id) hL hrd
    refine (runStep_of (K := K) (α := VisB × Value × Value) (f := callFV b2 b3 b5) (o := fun x => fdPv b x.1 (fdStep d L key level ⟨1, id, pg, rd⟩).pc) (nx := stV (some (callFV b2 b3 b5)))
      (tl := fun x => fdTl b x.2.1 d key level (fdStep d L key level ⟨1, id, pg, rd⟩))
      (F' := fun x => (fdL b .nilFunc x.1 x.2.1 x.2.2 d key level (fdStep d L key level ⟨1, id, pg, rd⟩)).tail ++ memC bm bc L (acc + 1) :: F) (T := 203) callEnters hc ?_).mono (fun e w' h => h)
    show Calls Try.prog 175 #[(.pointer (some ⟨bm, 0, none⟩)), (.pointer (some ⟨b2, 0, none⟩)), (.pointer (some ⟨b3, 0, none⟩)), (.pointer (some ⟨b5, 0, none⟩))] w _
    have hrs := rdStep_st hd ⟨by omega, hid2⟩ hL ha hrd (hs.re [5, 6, 7, 0, 1, 2, 3, 4] rfl)
    rw [show rdAcc rd.pc acc = acc + 1 by unfold rdAcc; rw [if_neg (by omega)]] at hrs
    refine (callStep_st (P0 := fun w' => (rdStep d id L rd).pc ≠ 6 ∧ ∃ va', St K w' (blk b (.cells (pathCells (stV (some (callFV b2 b3 b5))) d id pg va (.func (.func 130) #[(.pointer (some ⟨b, 0, none⟩))] #[]) [.string key, .int .i64 level]).toArray 203) :: slC va pg :: visL b ⟨b2, b3, b5, bt, bp, br⟩ d id va' (rdStep d id L rd) ++ memC bm bc L (acc + 1) :: F))
      (P1 := fun o w' => (rdStep d id L rd).pc = 6 ∧ FtP K b (stV (some (callFV b2 b3 b5))) d key level (memC bm bc L (acc + 1) :: F) (fdTurn key level id (rdStep d id L rd).pg) o w')
      (hs.re [2, 0, 1, 3, 4, 5, 6, 7] rfl) (fun n w => method_read n _ w) readStepEnters visitThenEnters (hrs.mono ?_)).mono ?_
    · rintro e w1 ⟨va', rfl, hs⟩
      refine ⟨⟨K, _, hs.re [5, 0, 1, 2, 3, 4, 6, 7] rfl⟩, ?_⟩
      by_cases h6 : (rdStep d id L rd).pc = 6
      · refine .inr ⟨by rw [decide_eq_true (by omega)], ?_⟩
        have hg := hpg rfl h6
        simp only at hg
        have hlen : (rdStep d id L rd).pg.sl.length ≤ 1000000 := by
          have := hd.fa2
          rcases hst.len with h | h <;> omega
        have hsx : St K w1 (blk b (.cells (pathCells (stV (some (callFV b2 b3 b5))) d id pg va (.func (.func 130) #[(.pointer (some ⟨b, 0, none⟩))] #[]) [.string key, .int .i64 level]).toArray 203) :: (visL b ⟨b2, b3, b5, bt, bp, br⟩ d id va' (rdStep d id L rd) ++ memC bm bc L (acc + 1) :: F)) := (hs.re [4, 3, 5, 6, 7, 0, 1, 2] rfl).tail
        refine (visThen_st (R := FtP K b (stV (some (callFV b2 b3 b5))) d key level (memC bm bc L (acc + 1) :: F) (fdTurn key level id (rdStep d id L rd).pg)) turnEnters h6 hlen hsx ?_).mono (fun e w2 ⟨o, he, h⟩ => ⟨o, he, h6, h⟩)
        · intro w2 va1 hs2
          exact fturn_st hg.ri hg.rf hlen hg.asc hs2
      · refine .inl ⟨by rw [decide_eq_false (by have := hst.pc; omega)], h6, va', hs.re [3, 4, 5, 6, 7, 0, 1, 2] rfl⟩
    · rintro e w1 ⟨o, rfl, ⟨rfl, h6, va', hs⟩ | ⟨h6, h⟩⟩
      · have e1 : fdStep d L key level ⟨1, id, pg, rd⟩ = ⟨1, id, pg, rdStep d id L rd⟩ := by
          show (if _ then _ else _) = _
          rw [if_neg h6]
        rw [e1]
        exact ⟨(⟨b2, b3, b5, bt, bp, br⟩, va, va'), rfl, hs⟩
      · have e1 : fdStep d L key level ⟨1, id, pg, rd⟩ = fdTurn key level id (rdStep d id L rd).pg := by
          show (if _ then _ else _) = _
          rw [if_pos h6]
        rw [e1]
        obtain ⟨B', va', rfl, hs⟩ := h
        exact ⟨(B', va', .slice none 0 0), rfl, hs⟩
  | n + 2, hok, hpg, hs, hc =>
    obtain rfl : n = 0 := by have h := hok.pc; simp only at h; omega
    refine (runStep_end_st hs hc).mono ?_
    rintro e w' ⟨rfl, hs⟩
    exact ⟨(B, va, va2), rfl, hs⟩
end
end Go.Proofs.Ytfgjanponijkhaa

namespace Go.Proofs.Ytfgjanponijkhaa
open Go.RowKit
set_option maxRecDepth 100000
section
variable {K : Know} {w : World} {F : List Comp} {b bm bc : Nat} {va va2 : Value} {d : Cfg} {L : List Cel} {acc : Nat} {key : ByteArray} {level : Int} {s : FdS} {B : VisB}
theorem fdPv_none {b : Nat} {B : VisB} {p : Nat} : (fdPv b B p).isNone = decide (2 ≤ p) := by
  match p with
  | 0 => rfl
  | 1 => rfl
  | n + 2 => simp [fdPv]
theorem findStep_st (hd : d.Ok) (hL : CelsOk L) (ha : acc ≤ 1000000000000) (hok : s.Ok d) (hpg : s.pc = 1 → (rdStep d s.id L s.rd).pc = 6 → PgGood level (rdStep d s.id L s.rd).pg)
    (hs : St K w (fdL b (stV (fdPv b B s.pc)) B va va2 d key level s ++ memC bm bc L acc :: F)) :
    Calls Try.prog 75 #[(.pointer (some ⟨b, 0, none⟩)), (.pointer (some ⟨bm, 0, none⟩))] w fun e w' => e = .returned (.bool (decide (2 ≤ (fdStep d L key level s).pc))) ∧
      ∃ (x : VisB × Value × Value), St K w' (fdL b (stV (fdPv b x.1 (fdStep d L key level s).pc)) x.1 x.2.1 x.2.2 d key level (fdStep d L key level s) ++ memC bm bc L (fdAcc s.pc acc) :: F) := by
  have q := findRun_st hd hL ha hok hpg hs
  have Q := Lib.hid q
  generalize fdStep d L key level s = s' at *
  generalize fdAcc s.pc acc = acc' at *
  clear q hs hpg
  go_enter Try.func75, Try.ntmps75
  go_wp2_with fail
  refine (Q.out).mono ?_
  rintro e w1 ⟨x, rfl, hs⟩
  rw [fdPv_none]
  have Hs := Lib.hid hs
  clear hs
  go_wp2
  go_ret
  exact ⟨rfl, x, Hs.out⟩
theorem fdNode_res (tmps : Array Value) (w : World) (b : Nat) (v0 v1 v2 v3 v4 u : Value) (hq : tmps[2]? = some u) (hp : tmps[3]? = some (.pointer (some ⟨b, 0, none⟩))) (hk : ∀ k, w.cell? ⟨b, k, none⟩ = (#[v0, v1, v2, v3, v4] : Array Value)[k]?) :
    (results Try.f76 tmps).run Try.prog w = .ok (.tuple #[u, .agg #[v0, v1, v2, v3, v4]]) w := by
  simp [results, Try.results76, go_sem, hp, hq, hk]
set_option maxHeartbeats 2000000 in
theorem findNode_st (h2 : s.pc = 2) (hn : s.pg.sl.length ≤ 1000000) (hs : St K w (fdL b .nilFunc B va va2 d key level s ++ F)) :
    Calls Try.prog 76 #[(.pointer (some ⟨b, 0, none⟩))] w fun e w' => ∃ va', e = .returned (.tuple #[.int .u64 s.id, .agg #[.int .i64 (s.pg).lev, va', .string (s.pg).hi, .bool (s.pg).la, .int .u64 (s.pg).ri]]) ∧ St K w' (slC va' s.pg :: (fdL b .nilFunc B va va2 d key level s ++ F)) := by
  obtain ⟨pc, id, pg, rd⟩ := s
  simp only at h2 hn
  subst h2
  have hs : St K w (blk b (.cells (pathCells .nilFunc d id pg va (.func (.func 130) #[(.pointer (some ⟨b, 0, none⟩))] #[]) [.string key, .int .i64 level]).toArray 203) :: slC va pg :: F) := hs
  obtain ⟨a, cap, rfl, _, _⟩ := (show St K w (rowC va 132 2 pg.sl.length (slRow pg.sl) :: _) from hs.b1).row_read
  have hsl := (show St K w (rowC (.slice a pg.sl.length cap) 132 2 pg.sl.length (slRow pg.sl) :: _) from hs.b1).row_slots (by omega)
  have Hl := Lib.hid (show (slRow pg.sl).length = pg.sl.length * 2 by rw [slRow_length])
  have H0 : Hid (a = none → pg.sl.length = 0) := Lib.hid (fun e => by subst e; rw [hsl.no]; rfl)
  have H1 := Lib.hid (slRow_one pg.sl)
  obtain ⟨iv, hiv0, hiv1, hiv2, hiv3⟩ := info_parts infoSlot
  have Hi0 := Lib.hid hiv0
  have Hi1 := Lib.hid hiv1
  have Hi2 := Lib.hid hiv2
  have Hi3 := Lib.hid hiv3
  clear hiv0 hiv1 hiv2 hiv3
  have hs1 := hs.made (.cells #[.int .i64 0, .slice none 0 0, .string ⟨#[]⟩, .bool false, .int .u64 0] 25)
  have Qd := Lib.hid (rdDone_any (w.alloc (.cells #[.int .i64 0, .slice none 0 0, .string ⟨#[]⟩, .bool false, .int .u64 0] 25)) b (hs1.k1 0) (hs1.k1 1))
  have k := hs1.k1
  unfold pathCells at k
  have Hs1 := Lib.hid hs1
  clear hs hs1 hsl
  go_enter Try.func76, Try.ntmps76
  go_wp2_with fail
  refine (Qd.out).mono ?_
  rintro e w1 ⟨rfl, rfl⟩
  go_upto_region 4 with (fail)
  clear k
  have hs := Hs1.out.made (.cells #[.int .i64 (pg).lev, (.slice a pg.sl.length cap), .string (pg).hi, .bool (pg).la, .int .u64 (pg).ri] 25)
  rw [World.size_alloc] at hs
  have hsl := (show St K _ (rowC (.slice a pg.sl.length cap) 132 2 pg.sl.length (slRow pg.sl) :: _) from hs.b3).row_slots (by omega)
  have Hn := Lib.hid hsl.news
  obtain ⟨sl, hsl2⟩ : ∃ sl, sl = slRow pg.sl := ⟨_, rfl⟩
  rw [← hsl2] at Hl H1 Hn
  have Hsl2 := Lib.hid hsl2
  have kp := hs.k0
  have Hs := Lib.hid (hs.row_nil (T := 132) (size := 2))
  clear hs hsl hsl2
  go_wp2_with (at_builtin; refine append_row_st _ _ 22 132 _ 0 pg.sl.length cap 2 24 [] sl (.agg #[.string ⟨#[]⟩, .int .u64 0]) iv a Hs.out rfl rfl Try.underlying22 Hi0.out Hi1.out Hi2.out Hi3.out rfl (by decide) rfl rfl Hl.out H0.out Hn.out H1.out (by omega) (by decide) ?_)
  intro v' w' hs
  obtain ⟨ao, capo, hv, _, _⟩ := hs.row_read
  subst hv
  have hs := hs.b1
  have kb := hs.k0
  have fb := hs.f0
  have hs := (hs.setL 1 (.slice ao pg.sl.length capo))
  simp only [List.set_cons_zero, List.set_cons_succ] at hs
  clear Hs Hl H0 H1 Hn
  go_upto_region 5 with (fail)
  clear kb fb kp
  have kb := hs.k0
  have k := hs.b3.k0
  unfold pathCells at k
  refine region_tail 7 (by kernel_rfl) (by as_aux_lemma => kernel_rfl) ?_
  simp only [List.take_succ_cons, List.take_zero, List.drop_succ_cons, List.drop_zero]
  repeat (go_big_quiet_step (fail))
  refine wpQuiet_nil ?_
  intro w3 hb3
  have hs := (hs.same hb3).b2
  clear kb k hb3
  have kb := hs.k0
  have fb := hs.f0
  have hs := ((((hs.setL 0 (.int .i64 pg.lev)).setL 1 (.slice ao pg.sl.length capo)).setL 2 (.string pg.hi)).setL 3 (.bool pg.la)).setL 4 (.int .u64 pg.ri)
  simp only [List.set_cons_zero, List.set_cons_succ] at hs
  go_wp2
  refine bodyPost_ret (fdNode_res _ _ w.heap.size _ _ _ _ _ _ rfl rfl hs.k0) rfl ?_
  rw [Hsl2.out] at hs
  exact ⟨_, rfl, (hs.re [2, 0, 1, 3, 4] rfl).drop1.drop1⟩
end
end Go.Proofs.Ytfgjanponijkhaa
