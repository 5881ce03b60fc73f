
/- The reader of a locked node (package node: Own). -/
import Derived.Test.YtlpdhhhgckpcfaaGreatFindA
import Derived.Test.YtlpdhhhgckpcfaaGreatNodeLawB
import Derived.Test.YtlpdhhhgckpcfaaGreatPageA
namespace Go.Proofs.YtlpdhhhgckpcfaaGreat
open Go.RowKit
set_option maxRecDepth 100000

/-- Own: 1 head, 2 high, 3 right, 4 slot, 6 done. -/
def ownStep (d : Cfg) (id : Int) (L : List Cel) (s : RdS) : RdS :=
  match s.pc with
  | 1 => ⟨2, ⟨wrap64 (getC L (d.node id 1)).m, [], ⟨#[]⟩, false, 0⟩, leftOf d (getC L (d.node id 1)), s.word, false⟩
  | 2 => ⟨3, s.pg.high (getC L (d.node id 2)), s.left, s.word, false⟩
  | 3 => ⟨if s.left = 0 then 6 else 4, s.pg.right (getC L (d.node id 3)), s.left, s.word, false⟩
  | 4 => ⟨if s.left - 1 = 0 then 6 else 4, s.pg.push (getC L (d.slot id s.pg.sl.length)), s.left - 1, s.word, false⟩
  | _ => s
def ownPv (b : Nat) : Nat → Option FV
  | 1 => rdHead b
  | 2 => some ⟨189, #[.pointer (some ⟨b, 2, none⟩)], #[]⟩
  | 3 => some ⟨192, #[.pointer (some ⟨b, 2, none⟩)], #[]⟩
  | 4 => some ⟨195, #[.pointer (some ⟨b, 2, none⟩)], #[]⟩
  | _ => none
def own0 (word : Int) : RdS := ⟨1, pg0, 0, word, false⟩
def ownC (b : Nat) (d : Cfg) (id : Int) (va : Value) (s : RdS) : Comp := blk b (.cells (rdCells (stV (ownPv b s.pc)) d id s.pg va s.left .nilFunc s.word).toArray 203)
theorem ownMore_pv {b left : Nat} : moreV b left none = ownPv b (if left = 0 then 6 else 4) := by
  unfold moreV
  split <;> rfl
structure RdS.OkO (d : Cfg) (s : RdS) : Prop where
  pc : s.pc = 1 ∨ s.pc = 2 ∨ s.pc = 3 ∨ s.pc = 4 ∨ s.pc = 6
  len : s.pc = 1 ∨ (s.pg.sl.length + s.left : Int) ≤ d.fa
  left : s.pc = 4 → 0 < s.left
theorem own0_ok (d : Cfg) (word : Int) : (own0 word).OkO d := ⟨.inl rfl, .inl rfl, by intro h; cases h⟩
theorem ownStep_ok {d : Cfg} (hd : d.Ok) {id : Int} {L : List Cel} (hL : CelsOk L) {s : RdS} (h : s.OkO d) : (ownStep d id L s).OkO d := by
  obtain ⟨pc, pg, left, word, t⟩ := s
  have h1 := h.pc; have h2 := h.len; have h3 := h.left
  simp only at h1 h2 h3
  rcases h1 with rfl | rfl | rfl | rfl | rfl
  · exact ⟨.inr (.inl rfl), .inr (by simpa [ownStep] using leftOf_le hd (hL _)), by intro h; cases h⟩
  · exact ⟨.inr (.inr (.inl rfl)), .inr (by simpa [ownStep, Pg.high] using h2), by intro h; cases h⟩
  · have h2' : (pg.sl.length : Int) + left ≤ d.fa := by simpa using h2
    simp only [ownStep]
    refine ⟨?_, .inr (by simpa [Pg.right] using h2'), ?_⟩
    · simp only; split <;> simp
    · simp only; split <;> omega
  · have h2' : (pg.sl.length : Int) + left ≤ d.fa := by simpa using h2
    have hl : 0 < left := h3 rfl
    simp only [ownStep]
    refine ⟨?_, .inr ?_, ?_⟩
    · simp only; split <;> simp
    · simp only [Pg.push, List.length_append, List.length_singleton]; omega
    · simp only; split <;> omega
  · exact h
theorem own_fix {d : Cfg} {id : Int} {L : List Cel} {s : RdS} (h : s.pc = 6) : ownStep d id L s = s := by
  obtain ⟨pc, pg, left, word, t⟩ := s
  simp only at h; subst h; rfl

section
variable {d : Cfg} {id : Int} {L : List Cel} {pg : Pg}
theorem own_slots (h : PageAt d id L pg) : ∀ (m : Nat) (sl : List Sl) (s : RdS), sl ++ pg.sl.drop sl.length = pg.sl → m = (pg.sl.drop sl.length).length → 0 < m → s.pc = 4 → s.left = m → s.pg = ⟨pg.lev, sl, pg.hi, pg.la, pg.ri⟩ →
    it (ownStep d id L) m s = ⟨6, pg, 0, s.word, false⟩ := by
  intro m
  induction m with
  | zero => intro sl s _ _ h0; omega
  | succ m ih =>
    intro sl s happ hm _ hpc hleft hpg
    obtain ⟨pc, spg, left, word, t⟩ := s
    simp only at hpc hleft hpg
    subst hpc hleft hpg
    have hlt : sl.length < pg.sl.length := by simp at hm; omega
    obtain ⟨x, hx⟩ : ∃ x, pg.sl[sl.length]? = some x := ⟨_, List.getElem?_eq_getElem hlt⟩
    obtain ⟨hk, hr⟩ := h.sl _ _ hx
    have hd : pg.sl.drop sl.length = x :: pg.sl.drop (sl.length + 1) := by
      rw [List.drop_eq_getElem_cons hlt]
      congr 1
      rw [List.getElem?_eq_getElem hlt] at hx
      exact Option.some.inj hx
    have e : ownStep d id L ⟨4, ⟨pg.lev, sl, pg.hi, pg.la, pg.ri⟩, m + 1, word, t⟩ = ⟨if m = 0 then 6 else 4, ⟨pg.lev, sl ++ [x], pg.hi, pg.la, pg.ri⟩, m, word, false⟩ := by
      simp only [ownStep, Pg.push, hk, hr]
      rw [show m + 1 - 1 = m by omega]
    show it (ownStep d id L) m (ownStep d id L _) = _
    rw [e]
    have happ2 : (sl ++ [x]) ++ pg.sl.drop (sl ++ [x]).length = pg.sl := by
      rw [List.length_append, List.length_singleton, List.append_assoc, List.singleton_append, ← hd]
      exact happ
    by_cases hm0 : m = 0
    · subst hm0
      have hnil : pg.sl.drop (sl.length + 1) = [] := by
        rw [hd] at hm
        simp only [List.length_cons] at hm
        exact List.eq_nil_of_length_eq_zero (by omega)
      have : sl ++ [x] = pg.sl := by
        rw [hd, hnil] at happ
        exact happ
      rw [if_pos rfl, this]
      rfl
    · rw [if_neg hm0]
      exact ih (sl ++ [x]) _ happ2 (by rw [hd] at hm; simp only [List.length_cons] at hm; rw [List.length_append, List.length_singleton]; omega) (by omega) rfl rfl rfl
/-- The page is read. -/
theorem own_final (h : PageAt d id L pg) {word : Int} : it (ownStep d id L) (pg.sl.length + 3) (own0 word) = ⟨6, pg, 0, word, false⟩ := by
  have hleft : leftOf d (getC L (d.node id 1)) = pg.sl.length := by
    have := h.le
    unfold leftOf
    rw [h.n, Int.min_eq_left this]
    omega
  have e3 : it (ownStep d id L) 3 (own0 word) = ⟨if pg.sl.length = 0 then 6 else 4, ⟨pg.lev, [], pg.hi, pg.la, pg.ri⟩, pg.sl.length, word, false⟩ := by
    show ownStep d id L (ownStep d id L (ownStep d id L (own0 word))) = _
    simp only [own0, ownStep, Pg.high, Pg.right, hleft, h.lev, h.hi, h.la, h.ri]
  rw [Nat.add_comm, it_add, e3]
  by_cases h0 : pg.sl.length = 0
  · have hnil : pg.sl = [] := List.eq_nil_of_length_eq_zero h0
    rw [if_pos h0, h0]
    show (⟨6, ⟨pg.lev, [], pg.hi, pg.la, pg.ri⟩, 0, word, false⟩ : RdS) = _
    obtain ⟨lev, sl, hi, la, ri⟩ := pg
    simp only at hnil
    subst hnil
    rfl
  · rw [if_neg h0]
    exact own_slots h _ [] _ (by simp) (by simp) (by omega) rfl rfl rfl
end

section
variable {K : Know} {w : World} {F : List Comp} {b bm bc : Nat} {L : List Cel} {acc : Nat} {va : Value} {d : Cfg} {id : Int} {s : RdS}
theorem own_run_of {s' : RdS} {f : FV} {acc' : Nat} (hf : Enters f.f) (hpc : ownPv b s.pc = some f) (hc : w.cell? ⟨b, 0, none⟩ = some (stV (ownPv b s.pc)))
    (hcall : Calls Tryz.prog f.f (f.x ++ #[.pointer (some ⟨bm, 0, none⟩)] ++ f.y) w fun e w1 => ∃ va', e = .returned (stV (ownPv b s'.pc)) ∧ St K w1 (blk b (.cells (rdCells (stV (ownPv b s.pc)) d id s'.pg va' s'.left .nilFunc s'.word).toArray 203) :: slC va' s'.pg :: memC bm bc L acc' :: F)) :
    Calls Tryz.prog 77 #[.pointer (some ⟨b, 0, none⟩), .pointer (some ⟨bm, 0, none⟩)] w fun e w' => ∃ va', e = .returned (.bool (ownPv b s'.pc).isNone) ∧ St K w' (ownC b d id va' s' :: slC va' s'.pg :: memC bm bc L acc' :: F) := by
  rw [hpc] at hc
  exact runStep_some (f := f) (o := ownPv b s'.pc) (tl := fun va' => (rdCells (stV (ownPv b s.pc)) d id s'.pg va' s'.left .nilFunc s'.word).tail) (F' := fun va' => slC va' s'.pg :: memC bm bc L acc' :: F) hf hc hcall

theorem ownRun_st (hd : d.Ok) (hid : 0 ≤ id ∧ id < 18446744073709551616) (hL : CelsOk L) (ha : acc ≤ 1000000000000) (hok : s.OkO d) (h6 : s.pc ≠ 6) (hs : St K w (ownC b d id va s :: slC va s.pg :: memC bm bc L acc :: F)) :
    Calls Tryz.prog 77 #[.pointer (some ⟨b, 0, none⟩), .pointer (some ⟨bm, 0, none⟩)] w fun e w' => ∃ va', e = .returned (.bool (decide ((ownStep d id L s).pc = 6))) ∧ St K w' (ownC b d id va' (ownStep d id L s) :: slC va' (ownStep d id L s).pg :: memC bm bc L (acc + 1) :: F) := by
  obtain ⟨pc, pg, left, word, t⟩ := s
  have h1 := hok.pc; have h2 := hok.len; have h3 := hok.left
  simp only at h1 h2 h3 h6
  have hs' : St K w (blk b (.cells (rdCells (stV (ownPv b pc)) d id pg va left (stV none) word).toArray 203) :: memC bm bc L acc :: slC va pg :: F) := hs.b2.b1
  have k0 : w.cell? ⟨b, 0, none⟩ = some (stV (ownPv b pc)) := hs'.k0 0
  have hfa := hd.fa2
  rcases h1 with rfl | rfl | rfl | rfl | rfl
  · have q := head_st (th := none) hd hid ha (hL (d.node id 1)) hs'
    exact own_run_of (s := ⟨1, pg, left, word, t⟩) (s' := ⟨2, ⟨wrap64 (getC L (d.node id 1)).m, [], ⟨#[]⟩, false, 0⟩, leftOf d (getC L (d.node id 1)), word, false⟩) enters_head rfl k0 (q.mono fun e w1 ⟨he, h⟩ => ⟨.slice none 0 0, he, h.b2.tail.row_nil.b1⟩)
  · have q := high_st (th := none) hd hid ha hs'
    exact own_run_of (s := ⟨2, pg, left, word, t⟩) (s' := ⟨3, pg.high (getC L (d.node id 2)), left, word, false⟩) enters_high rfl k0 (q.mono fun e w1 ⟨he, h⟩ => ⟨va, he, h.b2.b1⟩)
  · have q := right_st (th := none) hd hid ha hs'
    rw [ownMore_pv] at q
    refine (own_run_of (s := ⟨3, pg, left, word, t⟩) (s' := ⟨if left = 0 then 6 else 4, pg.right (getC L (d.node id 3)), left, word, false⟩) enters_right rfl k0 (q.mono fun e w1 ⟨he, h⟩ => ⟨va, he, h.b2.b1⟩)).mono ?_
    rintro e w' ⟨va', rfl, h⟩
    refine ⟨va', ?_, h⟩
    simp only [ownStep]
    split <;> rfl
  · have h2' : (pg.sl.length : Int) + left ≤ d.fa := by simpa using h2
    have q := slot_st (pg := pg) (th := none) hd hid ha (by omega) ⟨h3 rfl, by omega⟩ hs
    rw [ownMore_pv] at q
    refine (own_run_of (s := ⟨4, pg, left, word, t⟩) (s' := ⟨if left - 1 = 0 then 6 else 4, pg.push (getC L (d.slot id pg.sl.length)), left - 1, word, false⟩) enters_slot rfl k0 (q.mono fun e w1 ⟨va', he, h⟩ => ⟨va', he, h⟩)).mono ?_
    rintro e w' ⟨va', rfl, h⟩
    refine ⟨va', ?_, h⟩
    simp only [ownStep]
    split <;> rfl
  · exact absurd rfl h6

theorem ownStep_st (hd : d.Ok) (hid : 0 ≤ id ∧ id < 18446744073709551616) (hL : CelsOk L) (ha : acc ≤ 1000000000000) (hok : s.OkO d) (h6 : s.pc ≠ 6) (hs : St K w (ownC b d id va s :: slC va s.pg :: memC bm bc L acc :: F)) :
    Calls Tryz.prog 214 #[.pointer (some ⟨b, 0, none⟩), .pointer (some ⟨bm, 0, none⟩)] w fun e w' => ∃ va', e = .returned (.bool (decide ((ownStep d id L s).pc = 6))) ∧ St K w' (ownC b d id va' (ownStep d id L s) :: slC va' (ownStep d id L s).pg :: memC bm bc L (acc + 1) :: F) := by
  have Q := Lib.hid (ownRun_st hd hid hL ha hok h6 hs)
  clear hs
  go_enter Tryz.func214, Tryz.ntmps214
  go_wp2_with fail
  refine (Q.out).mono ?_
  rintro e w1 ⟨va', rfl, hs⟩
  go_wp2
  go_ret
  exact ⟨va', rfl, hs⟩

theorem begin0_st {c0 c1 c2 c3 c4 c5 c6 c7 c8 c9 c10 c11 c12 c13 c14 c15 c17 : Value} {T : TypeId} (hs : St K w (blk b (.cells #[c0, c1, c2, c3, c4, c5, c6, c7, c8, c9, c10, c11, c12, c13, c14, c15, .nilFunc, c17] T) :: F)) :
    Calls Tryz.prog 153 #[.pointer (some ⟨b, 2, none⟩), .nilFunc] w fun e w' => e = .returned (.func (.func 181) #[.pointer (some ⟨b, 2, none⟩)] #[]) ∧ St K w' (blk b (.cells #[c0, c1, c2, c3, c4, c5, c6, c7, c8, c9, c10, c11, c12, c13, c14, c15, .nilFunc, c17] T) :: F) := by
  have k := hs.k0
  have kf := hs.f0
  have hs := hs.setL 16 .nilFunc
  simp only [List.set_cons_zero, List.set_cons_succ] at hs
  go_enter Tryz.func153, Tryz.ntmps153
  go_wp2
  go_ret
  exact ⟨rfl, hs⟩
theorem newOwn_st {word : Int} (hs : St K w F) :
    Calls Tryz.prog 118 #[.agg #[.int .i64 d.th, .int .i64 d.sn, .int .i64 d.no, .int .i64 d.ch, .int .i64 d.re, .int .i64 d.fa, .int .u64 d.cl], .int .u64 id, .int .u64 word] w fun e w' => ∃ b, e = .returned (.pointer (some ⟨b, 0, none⟩)) ∧ St K w' (ownC b d id (.slice none 0 0) (own0 word) :: slC (.slice none 0 0) pg0 :: F) := by
  have hs := hs.pass (.cells #[.int .i64 d.th, .int .i64 d.sn, .int .i64 d.no, .int .i64 d.ch, .int .i64 d.re, .int .i64 d.fa, .int .u64 d.cl] 29)
  have hs := hs.made (.cells #[.nilFunc, .bool false, .int .i64 d.th, .int .i64 d.sn, .int .i64 d.no, .int .i64 d.ch, .int .i64 d.re, .int .i64 d.fa, .int .u64 d.cl, .int .u64 id, .int .i64 0, .slice none 0 0, .string ⟨#[]⟩, .bool false, .int .u64 0, .int .i64 0, .nilFunc, .int .u64 word] 203)
  rw [World.size_alloc] at hs
  go_enter Tryz.func118, Tryz.ntmps118
  go_wp2_with fail
  refine (begin0_st hs).mono ?_
  clear hs
  rintro e w2 ⟨rfl, hs⟩
  go_wp2_with fail
  refine (calls_same hs (begin_any _ _ _ _)).mono ?_
  clear hs
  rintro e w3 ⟨rfl, hs⟩
  have k := hs.k0
  have kf := hs.f0
  have hs := (hs.setL 0 (.func (.func 181) #[.pointer (some ⟨(w.heap.size + 1), 2, none⟩)] #[])).setL 1 (.bool true)
  simp only [List.set_cons_zero, List.set_cons_succ] at hs
  go_wp2
  go_ret
  exact ⟨_, rfl, hs.row_nil.b1⟩

theorem oheld_res (tmps : Array Value) (w : World) (b : Nat) (v0 v1 v2 v3 v4 v5 v6 : Value) (hp : tmps[2]? = some (.pointer (some ⟨b, 0, none⟩))) (hk : ∀ k, w.cell? ⟨b, k, none⟩ = (#[v0, v1, v2, v3, v4, v5, v6] : Array Value)[k]?) :
    (results Tryz.f122 tmps).run Tryz.prog w = .ok (.agg #[v0, v1, v2, v3, v4, v5, v6]) w := by
  simp [results, Tryz.results122, go_sem, hp, hk]
/-- While what is held is put together: the copy, the value, the result. -/
def OhR (K : Know) (REST : List Comp) (b0 : Nat) (id word : Int) (pg : Pg) (ρ : Nat → Option Value) (W : World) : Prop :=
  ∃ (a : Option Addr) (c : Nat), (∀ v, ρ 14 = some v → v = .agg #[.int .i64 (pg).lev, (.slice a pg.sl.length c), .string (pg).hi, .bool (pg).la, .int .u64 (pg).ri]) ∧ (∀ v, ρ 15 = some v → v = .agg #[.int .u64 id, .int .u64 word, .int .i64 (pg).lev, (.slice a pg.sl.length c), .string (pg).hi, .bool (pg).la, .int .u64 (pg).ri]) ∧
    St K W (optC (ρ 14) (rowC (.slice a pg.sl.length c) 69 2 pg.sl.length (slRow pg.sl)) :: blk b0 (.cells (match ρ 16 with | some _ => #[.int .u64 id, .int .u64 word, .int .i64 (pg).lev, (.slice a pg.sl.length c), .string (pg).hi, .bool (pg).la, .int .u64 (pg).ri] | none => #[.int .u64 0, .int .u64 0, .int .i64 0, .slice none 0 0, .string ⟨#[]⟩, .bool false, .int .u64 0]) 45) :: REST)
set_option maxHeartbeats 4000000 in
theorem ownHeld_st {pg : Pg} {word : Int} {left : Nat} {av : Option Addr} {cv : Nat} (hn : pg.sl.length ≤ 1000000) (hs : St K w (ownC b d id (.slice av pg.sl.length cv) ⟨6, pg, left, word, false⟩ :: slC (.slice av pg.sl.length cv) pg :: F)) :
    Calls Tryz.prog 122 #[.pointer (some ⟨b, 0, none⟩)] w fun e w' => ∃ va, e = .returned (.agg #[.int .u64 id, .int .u64 word, .int .i64 (pg).lev, va, .string (pg).hi, .bool (pg).la, .int .u64 (pg).ri]) ∧
      St K w' (rowC va 69 2 pg.sl.length (slRow pg.sl) :: ownC b d id (.slice av pg.sl.length cv) ⟨6, pg, left, word, false⟩ :: slC (.slice av pg.sl.length cv) pg :: F) := by
  have hs : St K w (blk b (.cells (rdCells .nilFunc d id pg (.slice av pg.sl.length cv) left .nilFunc word).toArray 203) :: rowC (.slice av pg.sl.length cv) 69 2 pg.sl.length (slRow pg.sl) :: F) := hs
  have hs := hs.made (.cells #[.int .u64 0, .int .u64 0, .int .i64 0, .slice none 0 0, .string ⟨#[]⟩, .bool false, .int .u64 0] 45)
  have Qd := Lib.hid (rdDone_any (w.alloc (.cells #[.int .u64 0, .int .u64 0, .int .i64 0, .slice none 0 0, .string ⟨#[]⟩, .bool false, .int .u64 0] 45)) b (hs.k1 0) (hs.k1 1))
  go_enter Tryz.func122, Tryz.ntmps122
  go_wp2_with fail
  refine (Qd.out).mono ?_
  clear Qd
  rintro e w1 ⟨rfl, rfl⟩
  go_upto_region 3 with (fail)
  refine wp_ck hs ?_
  clear hs
  generalize w.heap.size = b0
  intro W hs
  have Hs := Lib.hid hs
  clear hs
  refine region_effects [false, false, false, false, false, false, false, false, false, false, false, false, false, false, true, true, true] [14, 15, 16] (fun | 15 => [14] | 16 => [15] | _ => [])
    (OhR K (blk b (.cells (rdCells .nilFunc d id pg (.slice av pg.sl.length cv) left .nilFunc word).toArray 203) :: rowC (.slice av pg.sl.length cv) 69 2 pg.sl.length (slRow pg.sl) :: F) b0 id word pg)
    (fun W => ∀ j, W.cell? ⟨b, j, none⟩ = (rdCells .nilFunc d id pg (.slice av pg.sl.length cv) left .nilFunc word).toArray[j]?) ?aS (by kernel_rfl) ?hB ?H ?haS ?h0 ?hI ?hR ?hE ?hQ
  case hB => as_aux_lemma => kernel_rfl
  case H =>
    intro W2 k
    unfold rdCells at k
    simp only [withM]
    repeat (go_big_quiet_step (fail))
    refine wpQuiet_nil ?_
    rfl
  case haS => rfl
  case h0 => exact ⟨none, 0, fun v h => (by cases h), fun v h => (by cases h), Hs.out.empty⟩
  case hI =>
    rintro ρ W2 ⟨a, c, e1, e2, hs⟩
    exact hs.tail.k1
  case hR =>
    rintro ρ W2 W3 ⟨a, c, e1, e2, hs⟩ hb
    exact ⟨a, c, e1, e2, hs.same hb⟩
  case hE =>
    refine ⟨?e14, ?e15, ?e16, trivial⟩
    case e14 =>
      intro o ho ρ W2 h hcl h14 hd2 af haf
      obtain rfl := Option.some.inj ho
      replace haf : af = fillD _ ρ [] _ := haf
      have h15 : ρ 15 = none := hcl.none (by simp) (show 14 ∈ [14] by simp) h14
      have h16 : ρ 16 = none := hcl.none (by simp) (show 15 ∈ [15] by simp) h15
      obtain ⟨a, c, e1, e2, hs⟩ := h
      rw [h14, h16] at hs
      simp only [fillD] at haf
      subst haf
      go_wp2_with fail
      refine (clone_st (cap := cv) hs.tail (hs.tail.b2.row_slots (by omega))).mono ?_
      rintro e W3 ⟨va, rfl, hs'⟩
      obtain ⟨a2, c2, rfl, _, _⟩ := hs'.row_read
      go_wp2
      refine ⟨rfl, _, rfl, a2, c2, fun v hv => (Option.some.inj hv).symm, fun v hv => ?_, ?_⟩
      · have : ρ 15 = some v := hv
        rw [h15] at this; cases this
      · show St K W3 (rowC _ _ _ _ _ :: blk b0 (.cells (match ρ 16 with | some _ => _ | none => _) _) :: _)
        rw [h16]
        exact hs'
    case e15 =>
      intro o ho ρ W2 h hcl h15 hd2 af haf
      obtain rfl := Option.some.inj ho
      replace haf : af = fillD _ ρ [14] _ := haf
      obtain ⟨v14, h14⟩ := Option.isSome_iff_exists.1 (hd2 14 (by show _ ∈ [14]; simp))
      obtain ⟨a, c, e1, e2, hs⟩ := h
      obtain rfl := e1 v14 h14
      simp only [fillD, h14, Option.getD_some, dstAt, List.getElem?_cons_succ, List.getElem?_cons_zero, Option.bind_some, Option.bind_none, Act.put, List.setIfInBounds_toArray, List.set_cons_zero, List.set_cons_succ] at haf
      subst haf
      go_wp2
      exact ⟨rfl, _, rfl, a, c, e1, fun v hv => (Option.some.inj hv).symm, hs⟩
    case e16 =>
      intro o ho ρ W2 h hcl h16 hd2 af haf
      obtain rfl := Option.some.inj ho
      replace haf : af = fillD _ ρ [15] _ := haf
      obtain ⟨v15, h15⟩ := Option.isSome_iff_exists.1 (hd2 15 (by show _ ∈ [15]; simp))
      obtain ⟨a, c, e1, e2, hs⟩ := h
      obtain rfl := e2 v15 h15
      rw [h16] at hs
      simp only [fillD, h15, Option.getD_some, dstAt, List.getElem?_cons_succ, List.getElem?_cons_zero, Option.bind_some, Option.bind_none, Act.put, List.setIfInBounds_toArray, List.set_cons_zero, List.set_cons_succ] at haf
      subst haf
      have hs := hs.b1
      have k0 := hs.k0
      have f0 := hs.f0
      have hs := ((((((hs.setL 0 (.int .u64 id)).setL 1 (.int .u64 word)).setL 2 (.int .i64 pg.lev)).setL 3 (.slice a pg.sl.length c)).setL 4 (.string pg.hi)).setL 5 (.bool pg.la)).setL 6 (.int .u64 pg.ri)
      simp only [List.set_cons_zero, List.set_cons_succ] at hs
      go_wp2
      exact ⟨rfl, undef, rfl, a, c, e1, e2, hs.b1⟩
  case hQ =>
    intro ρ W2 h hall
    obtain ⟨v14, h14⟩ := Option.isSome_iff_exists.1 (hall 14 (by simp))
    obtain ⟨v15, h15⟩ := Option.isSome_iff_exists.1 (hall 15 (by simp))
    obtain ⟨v16, h16⟩ := Option.isSome_iff_exists.1 (hall 16 (by simp))
    obtain ⟨a, c, e1, e2, hs⟩ := h
    obtain rfl := e1 v14 h14
    obtain rfl := e2 v15 h15
    rw [h14, h16] at hs
    have hs := hs.b1
    simp only [fillD, h14, h15, h16, Option.getD_some, dstAt, List.getElem?_cons_succ, List.getElem?_cons_zero, Option.bind_some, Option.bind_none, Act.put, List.setIfInBounds_toArray, List.set_cons_zero, List.set_cons_succ]
    clear h14 h15 h16 e1 e2 hall
    go_wp2
    refine bodyPost_ret (oheld_res _ _ b0 _ _ _ _ _ _ _ rfl hs.k0) rfl ⟨_, rfl, hs.tail⟩
end
end Go.Proofs.YtlpdhhhgckpcfaaGreat
