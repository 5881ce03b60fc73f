
/- Insert in a memory that others change (pure): what it keeps of its own nodes, and what it does to the tree. -/
import Derived.Test.YtlpdhhhgckpcfaaGreatInsM
import Derived.Test.YtlpdhhhgckpcfaaGreatInsTree
import Derived.Test.YtlpdhhhgckpcfaaGreatConcR
import Derived.Test.YtlpdhhhgckpcfaaGreatShpC
namespace Go.Proofs.YtlpdhhhgckpcfaaGreat
open Go.RowKit
set_option maxRecDepth 100000
/-- The held node lies in memory as it was. -/
def OldN (d : Cfg) (L : List Cel) (fr : InH) : Prop := Holds L (pgPts d fr.id fr.pg) ∧ getC L (d.node fr.id 0) = ⟨fr.word, ⟨#[]⟩, 0⟩
/-- A new node lies in memory, locked. -/
def NewN (d : Cfg) (L : List Cel) (id : Int) (q : Pg) : Prop := Holds L (pgPts d id q) ∧ getC L (d.node id 0) = ⟨ltLock 0, ⟨#[]⟩, 0⟩
/-- What stays. -/
structure InsK (d : Cfg) (fr : InH) (fu : Pg) : Prop where
  hok : fr.Ok d
  lk : fr.word % 4 = 1
  ver : fr.word + 4 < 18446744073709551616
  fok : FuOk d fr fu
/-- A number that Insert has taken. -/
structure IdOk (d : Cfg) (L : List Cel) (fr : InH) (id : Int) : Prop where
  lo : 1 ≤ id
  hi : id ≤ d.no
  us : id ≤ (getC L 4).n
  ne : id ≠ fr.id
/-- Where Insert is, as far as its own nodes' cells go. -/
def InsI (d : Cfg) (L : List Cel) (fr : InH) (fu : Pg) (s : InsS) : Prop := match s.pc with
  | 0 => s.sp = false ∧ s.full = false ∧ d.fa < (fu.sl.length : Int) ∧ ((s.tk.pc = 0 ∧ s.tk.ok = false) ∨ (s.tk.pc = 1 ∧ s.tk.ok = false ∧ 0 ≤ s.tk.seen ∧ s.tk.seen < d.no)) ∧ OldN d L fr
  | 1 => s.sp = false ∧ s.full = false ∧ 2 ≤ fu.sl.length ∧ IdOk d L fr s.id ∧ s.ps = ⟨d.node s.id 0, ⟨ltLock 0, ⟨#[]⟩, 0⟩⟩ :: pgPts d s.id (splR fu) ∧ s.k < s.ps.length ∧ OldN d L fr ∧ ∀ q, q ∈ s.ps.take s.k → getC L q.i = q.c
  | 2 => s.full = false ∧ (s.sp = false → (fu.sl.length : Int) ≤ d.fa) ∧ WrPs d fr (s.pg fu) s.ps ∧ s.k < s.ps.length ∧ (s.sp = true → 2 ≤ fu.sl.length ∧ IdOk d L fr s.id ∧ NewN d L s.id (splR fu)) ∧
      ∃ L0 : List Cel, (L0.length : Int) = d.cells ∧ OldN d L0 fr ∧ ∀ j : Int, 0 ≤ j → j < d.fa + 4 → getC L (d.node fr.id j) = getC (putAll L0 (s.ps.take s.k)) (d.node fr.id j)
  | _ => s.pc = 3 ∧ ((s.full = true ∧ s.sp = false ∧ OldN d L fr) ∨ (s.full = false ∧ (s.sp = false → (fu.sl.length : Int) ≤ d.fa) ∧ (s.sp = true → 2 ≤ fu.sl.length ∧ IdOk d L fr s.id ∧ NewN d L s.id (splR fu)) ∧ Holds L (pgPts d fr.id (s.pg fu)) ∧ getC L (d.node fr.id 0) = ⟨ltEnd (ltBegin fr.word), ⟨#[]⟩, 0⟩))
section
variable {d : Cfg} {L L' : List Cel} {fr : InH} {fu : Pg} {s s' : InsS}
theorem OldN.frame (hd : d.Ok) (hfr : fr.Ok d) (h : OldN d L fr) (he : ∀ j : Int, 0 ≤ j → j < d.fa + 4 → getC L' (d.node fr.id j) = getC L (d.node fr.id j)) : OldN d L' fr :=
  ⟨h.1.frame hd hfr.id.1 hfr.id.2 hfr.pg.le (fun k a b => he k (by omega) b), by rw [he 0 (by omega) (by have := hd.fa1; omega)]; exact h.2⟩
theorem NewN.frame (hd : d.Ok) {id : Int} {q : Pg} (h1 : 1 ≤ id) (h2 : id ≤ d.no) (hq : (q.sl.length : Int) ≤ d.fa) (h : NewN d L id q) (he : ∀ j : Int, 0 ≤ j → j < d.fa + 4 → getC L' (d.node id j) = getC L (d.node id j)) : NewN d L' id q :=
  ⟨h.1.frame hd h1 h2 hq (fun k a b => he k (by omega) b), by rw [he 0 (by omega) (by have := hd.fa1; omega)]; exact h.2⟩
theorem insPg_le (hd : d.Ok) (K : InsK d fr fu) (h : s.sp = false → (fu.sl.length : Int) ≤ d.fa) : ((s.pg fu).sl.length : Int) ≤ d.fa := by
  have h1 := hd.fa1
  have h2 := K.fok.len
  unfold InsS.pg
  cases hsp : s.sp with
  | false => exact h hsp
  | true =>
    show ((fu.sl.take (splK fu.sl.length)).length : Int) ≤ d.fa
    rw [List.length_take]
    unfold splK
    omega
/-- The points of a new node have different addresses, all its own. -/
theorem nwPs_addr (hd : d.Ok) (K : InsK d fr fu) {id : Int} (h1 : 1 ≤ id) (h2 : id ≤ d.no) : (∀ q, q ∈ ((⟨d.node id 0, ⟨ltLock 0, ⟨#[]⟩, 0⟩⟩ : Pt) :: pgPts d id (splR fu)) → ∃ k : Int, 0 ≤ k ∧ k < d.fa + 4 ∧ q.i = d.node id k) ∧ (((⟨d.node id 0, ⟨ltLock 0, ⟨#[]⟩, 0⟩⟩ : Pt) :: pgPts d id (splR fu)).map (·.i)).Nodup := by
  have f1 := hd.fa1
  have hle := (K.fok.right hd).le
  constructor
  · intro q hq
    rcases List.mem_cons.1 hq with rfl | hq
    · exact ⟨0, by omega, by omega, rfl⟩
    · obtain ⟨k, k1, k2, e⟩ := pgPts_addr hd h1 h2 hle q hq
      exact ⟨k, by omega, k2, e⟩
  · rw [List.map_cons, List.nodup_cons]
    refine ⟨fun hm => ?_, pgPts_nodup hd h1 h2 hle⟩
    obtain ⟨q, hq, e⟩ := List.mem_map.1 hm
    obtain ⟨k, k1, k2, e2⟩ := pgPts_addr hd h1 h2 hle q hq
    exact node_ne hd h1 h2 (by omega) k2 (by omega) (by omega) (by omega) (e2.symm.trans e)
theorem InsI.ok (h : InsI d L fr fu s) (h2 : s.pc ≤ 2) : s.Ok d fu := by
  obtain ⟨pc, tk, k, ps, sp, id, full⟩ := s
  simp only at h2
  rcases (by omega : pc = 0 ∨ pc = 1 ∨ pc = 2) with rfl | rfl | rfl
  · obtain ⟨a, b, c, e, _⟩ := h
    exact ⟨by simp, fun _ => ⟨c, a, b, e⟩, fun h => (by simp at h), fun h => (by simp at h)⟩
  · obtain ⟨a, b, c, e, _, f, _⟩ := h
    exact ⟨by simp, fun h => (by simp at h), fun _ => ⟨f, by have := e.lo; simp only at this ⊢; omega, e.hi, b⟩, fun h => (by simp at h)⟩
  · obtain ⟨a, b, c, e, f, _⟩ := h
    refine ⟨by simp, fun h => (by simp at h), fun h => (by simp at h), fun _ => ⟨e, a, ?_⟩⟩
    cases sp with
    | false => exact .inr (b rfl)
    | true => exact .inl rfl
/-- The cells that a step changes. -/
theorem insMm_other (hd : d.Ok) (K : InsK d fr fu) (h : InsI d L fr fu s) {j : Int} (h4 : s.pc = 0 → j ≠ 4) (hf : s.pc = 2 → ∀ k : Int, 0 ≤ k → k < d.fa + 4 → j ≠ d.node fr.id k) (hn : s.pc = 1 → ∀ k : Int, 0 ≤ k → k < d.fa + 4 → j ≠ d.node s.id k) : getC (insMm d L s) j = getC L j := by
  obtain ⟨pc, tk, k, ps, sp, id, full⟩ := s
  match pc, h with
  | 0, h =>
    obtain ⟨tp, seen, ok⟩ := tk
    show getC (takeStep 4 d.no L ⟨tp, seen, ok⟩).2 j = _
    unfold takeStep
    split
    · rfl
    · simp only
      split
      · exact getC_ne (h4 rfl)
      · rfl
    · rfl
  | 1, h =>
    obtain ⟨_, _, _, hid, hps, hk, _⟩ := h
    simp only at hps hk hid
    show getC (match ps[k]? with | some pt => putC L pt.i pt.c | none => L) j = _
    rw [List.getElem?_eq_getElem hk]
    obtain ⟨q, a, b, e⟩ := (nwPs_addr hd K hid.lo hid.hi).1 ps[k] (by rw [← hps]; exact List.getElem_mem hk)
    show getC (putC L ps[k].i ps[k].c) j = _
    exact getC_ne (by rw [e]; exact hn rfl q a b)
  | 2, h =>
    obtain ⟨_, hsp, hw, hk, _⟩ := h
    replace hk : k < ps.length := hk
    show getC (match ps[k]? with | some pt => putC L pt.i pt.c | none => L) j = _
    rw [List.getElem?_eq_getElem hk]
    obtain ⟨q, a, b, e⟩ := hw.addr hd K.hok.id.1 K.hok.id.2 (insPg_le hd K hsp) ps[k] (List.getElem_mem hk)
    show getC (putC L ps[k].i ps[k].c) j = _
    exact getC_ne (by rw [e]; exact hf rfl q a b)
  | n + 3, h => rfl
theorem insMm_len : (insMm d L s).length = L.length := by
  obtain ⟨pc, tk, k, ps, sp, id, full⟩ := s
  match pc with
  | 0 =>
    show (takeStep 4 d.no L tk).2.length = _
    unfold takeStep
    split
    · rfl
    · split
      · exact (putC_length L 4 _ : (putC L 4 _).length = L.length)
      · rfl
    · rfl
  | 1 =>
    show (match ps[k]? with | some pt => putC L pt.i pt.c | none => L).length = _
    split
    · exact putC_length _ _ _
    · rfl
  | 2 =>
    show (match ps[k]? with | some pt => putC L pt.i pt.c | none => L).length = _
    split
    · exact putC_length _ _ _
    · rfl
  | n + 3 => rfl
theorem insI_step (hd : d.Ok) (hlen : (L.length : Int) = d.cells) (K : InsK d fr fu) (h4 : fr.id ≤ (getC L 4).n) (h40 : 0 ≤ (getC L 4).n) (h : InsI d L fr fu s) (h2 : s.pc ≤ 2) (hn : InsNx d fr fu L s s') : InsI d (insMm d L s) fr fu s' := by
  have f1 := hd.fa1
  have hid := K.hok.id
  have hcl := cells_big hd
  have hoth := fun (j : Int) => insMm_other (j := j) hd K h
  obtain ⟨pc, tk, k, ps, sp, id, full⟩ := s
  simp only at h2
  rcases (by omega : pc = 0 ∨ pc = 1 ∨ pc = 2) with rfl | rfl | rfl
  · have hold : OldN d (insMm d L ⟨0, tk, k, ps, sp, id, full⟩) fr := h.2.2.2.2.frame hd K.hok (fun j a b => hoth _ (fun _ => (node_not4 hd hid.1 hid.2 j a b).symm) (fun e => by cases e) (fun e => by cases e))
    obtain ⟨a1, a2, a3, a4, _⟩ := h
    simp only at a1 a2 a3 a4
    subst a1 a2
    obtain ⟨tp, seen, ok⟩ := tk
    simp only at a4
    rcases a4 with ⟨rfl, rfl⟩ | ⟨rfl, rfl, b1, b2⟩
    · have e1 : takeStep 4 d.no L ⟨0, seen, false⟩ = (⟨if d.no ≤ (getC L 4).n then 2 else 1, (getC L 4).n, false⟩, L) := rfl
      simp only [InsNx, e1] at hn
      rcases hn with ⟨c1, rfl⟩ | ⟨c1, _, rfl⟩ | ⟨_, c2, _⟩
      · have hno : ¬ d.no ≤ (getC L 4).n := fun hc => by rw [if_pos hc] at c1; omega
        refine ⟨rfl, rfl, a3, .inr ⟨by show (if _ then 2 else 1) = 1; rw [if_neg hno], rfl, h40, by show (getC L 4).n < d.no; omega⟩, hold⟩
      · exact ⟨rfl, .inl ⟨rfl, rfl, hold⟩⟩
      · cases c2
    · by_cases hsw : swapOk L 4 seen = true
      · have e1 : takeStep 4 d.no L ⟨1, seen, false⟩ = (⟨2, seen, true⟩, putC L 4 ⟨seen + 1, ⟨#[]⟩, 0⟩) := by
          show (if swapOk L 4 seen then _ else _) = _
          rw [if_pos hsw]
        have hseen : (getC L 4).n = seen := by
          unfold swapOk at hsw
          simp only [Bool.and_eq_true, decide_eq_true_eq] at hsw
          exact hsw.2
        simp only [InsNx, e1] at hn
        rcases hn with ⟨c1, _⟩ | ⟨_, c1, _⟩ | ⟨_, _, rfl⟩
        · omega
        · cases c1
        · refine ⟨rfl, rfl, by have := f1; omega, ⟨by show 1 ≤ seen + 1; omega, by show seen + 1 ≤ d.no; omega, ?_, by show seen + 1 ≠ fr.id; omega⟩, rfl, by simp, hold, fun q hq => by simp at hq⟩
          show seen + 1 ≤ (getC (takeStep 4 d.no L ⟨1, seen, false⟩).2 4).n
          rw [e1]
          show seen + 1 ≤ (getC (putC L 4 ⟨seen + 1, ⟨#[]⟩, 0⟩) 4).n
          rw [getC_eq (by omega) (by omega)]
          exact Int.le_refl _
      · have e1 : takeStep 4 d.no L ⟨1, seen, false⟩ = (⟨0, seen, false⟩, L) := by
          show (if swapOk L 4 seen then _ else _) = _
          rw [if_neg hsw]
        simp only [InsNx, e1] at hn
        rcases hn with ⟨_, rfl⟩ | ⟨c1, _⟩ | ⟨c1, _⟩
        · exact ⟨rfl, rfl, a3, .inl ⟨rfl, rfl⟩, hold⟩
        · omega
        · omega
  · obtain ⟨a1, a2, a3, a4, a5, a6, a7, a8⟩ := h
    simp only at a1 a2 a3 a4 a5 a6 a8
    subst a1 a2
    have hap : ∀ j j' : Int, 0 ≤ j → j < d.fa + 4 → 0 ≤ j' → j' < d.fa + 4 → d.node fr.id j ≠ d.node id j' := fun j j' x y x' y' => node_apart hd hid.1 hid.2 a4.lo a4.hi x y x' y' a4.ne.symm
    have hold : OldN d (insMm d L ⟨1, tk, k, ps, false, id, false⟩) fr := a7.frame hd K.hok (fun j a b => hoth _ (fun e => by cases e) (fun e => by cases e) (fun _ q x y => hap j q a b x y))
    have h44 : getC (insMm d L ⟨1, tk, k, ps, false, id, false⟩) 4 = getC L 4 := hoth 4 (fun e => by cases e) (fun e => by cases e) (fun _ q x y => node_not4 hd a4.lo a4.hi q x y)
    obtain ⟨n1, n2⟩ := nwPs_addr hd K a4.lo a4.hi
    rw [← a5] at n1 n2
    have hmm : insMm d L ⟨1, tk, k, ps, false, id, false⟩ = putC L ps[k].i ps[k].c := by
      show (match ps[k]? with | some pt => putC L pt.i pt.c | none => L) = _
      rw [List.getElem?_eq_getElem a6]
    have hst : ∀ q, q ∈ ps.take (k + 1) → getC (insMm d L ⟨1, tk, k, ps, false, id, false⟩) q.i = q.c := by
      intro q hq
      rw [hmm]
      obtain ⟨i0, hi0⟩ := List.getElem?_of_mem hq
      rw [List.getElem?_take] at hi0
      split at hi0
      · rename_i hik
        obtain ⟨c, ca, cb, ce⟩ := n1 ps[k] (List.getElem_mem a6)
        have hin := node_in hd a4.lo a4.hi ca cb
        by_cases e : i0 = k
        · subst e
          rw [List.getElem?_eq_getElem a6] at hi0
          obtain rfl := Option.some.inj hi0
          exact getC_eq (by rw [ce]; exact hin.2.1) (by rw [ce]; omega)
        · have hne : q.i ≠ ps[k].i := by
            rw [List.nodup_iff_pairwise_ne, List.pairwise_map, List.pairwise_iff_getElem] at n2
            have hi1 := (List.getElem?_eq_some_iff.1 hi0)
            have := n2 i0 k hi1.1 a6 (by omega)
            rw [hi1.2] at this
            exact this
          rw [getC_ne hne]
          exact a8 q (List.mem_of_getElem? (i := i0) (by rw [List.getElem?_take, if_pos (by omega)]; exact hi0))
      · cases hi0
    have hIn : IdOk d (insMm d L ⟨1, tk, k, ps, false, id, false⟩) fr id := ⟨a4.lo, a4.hi, by rw [h44]; exact a4.us, a4.ne⟩
    rcases hn with ⟨c1, rfl⟩ | ⟨c1, ps', hw, rfl⟩
    · simp only at c1
      exact ⟨rfl, rfl, a3, hIn, a5, by show k + 1 < ps.length; omega, hold, hst⟩
    · simp only at c1 hw
      rw [c1, List.take_length] at hst
      have hnew : NewN d (insMm d L ⟨1, tk, k, ps, false, id, false⟩) id (splR fu) := ⟨fun q hq => hst q (by rw [a5]; exact List.mem_cons_of_mem _ hq), hst ⟨d.node id 0, ⟨ltLock 0, ⟨#[]⟩, 0⟩⟩ (by rw [a5]; exact List.mem_cons_self)⟩
      have hwl := hw.len
      refine ⟨rfl, fun e => (by cases e), hw, by show 0 < ps'.length; omega, fun _ => ⟨a3, hIn, hnew⟩, _, ?_, hold, fun j _ _ => rfl⟩
      rw [insMm_len]; exact hlen
  · obtain ⟨a1, a2, a3, a4, a5, L0, b1, b2, b3⟩ := h
    simp only at a1 a2 a3 a4 a5 b3
    subst a1
    have hle := insPg_le (s := ⟨2, tk, k, ps, sp, id, false⟩) hd K a2
    have hwa := a3.addr hd hid.1 hid.2 hle
    have h44 : getC (insMm d L ⟨2, tk, k, ps, sp, id, false⟩) 4 = getC L 4 := hoth 4 (fun e => by cases e) (fun _ q x y => node_not4 hd hid.1 hid.2 q x y) (fun e => by cases e)
    have hmm : insMm d L ⟨2, tk, k, ps, sp, id, false⟩ = putC L ps[k].i ps[k].c := by
      show (match ps[k]? with | some pt => putC L pt.i pt.c | none => L) = _
      rw [List.getElem?_eq_getElem a4]
    have hown : ∀ j : Int, 0 ≤ j → j < d.fa + 4 → getC (insMm d L ⟨2, tk, k, ps, sp, id, false⟩) (d.node fr.id j) = getC (putAll L0 (ps.take (k + 1))) (d.node fr.id j) := by
      intro j x y
      rw [hmm, putAll_take (List.getElem?_eq_getElem a4)]
      obtain ⟨c, ca, cb, ce⟩ := hwa ps[k] (List.getElem_mem a4)
      have hin := node_in hd hid.1 hid.2 ca cb
      by_cases e : d.node fr.id j = ps[k].i
      · rw [e, getC_eq (by rw [ce]; exact hin.2.1) (by rw [ce]; omega), getC_eq (by rw [ce]; exact hin.2.1) (by rw [ce, putAll_length]; omega)]
      · rw [getC_ne e, getC_ne e]
        exact b3 j x y
    have hnew : sp = true → 2 ≤ fu.sl.length ∧ IdOk d (insMm d L ⟨2, tk, k, ps, sp, id, false⟩) fr id ∧ NewN d (insMm d L ⟨2, tk, k, ps, sp, id, false⟩) id (splR fu) := fun e => by
      obtain ⟨x1, x2, x3⟩ := a5 e
      refine ⟨x1, ⟨x2.lo, x2.hi, by rw [h44]; exact x2.us, x2.ne⟩, x3.frame hd x2.lo x2.hi (K.fok.right hd).le (fun j x y => hoth _ (fun e => by cases e) (fun _ q p r => node_apart hd x2.lo x2.hi hid.1 hid.2 x y p r x2.ne) (fun e => by cases e))⟩
    rcases hn with ⟨c1, rfl⟩ | ⟨c1, rfl⟩
    · simp only at c1
      exact ⟨rfl, a2, a3, by show k + 1 < ps.length; omega, hnew, L0, b1, b2, hown⟩
    · simp only at c1
      rw [c1, List.take_length] at hown
      obtain ⟨e1, _, _⟩ := wr_end hd a3 hid.1 hid.2 hle b1 b2.1
      refine ⟨rfl, .inr ⟨rfl, a2, hnew, ?_, ?_⟩⟩
      · exact e1.frame hd hid.1 hid.2 hle (fun j x y => hown j (by omega) y)
      · rw [hown 0 (by omega) (by omega)]
        obtain ⟨mid, hm, rfl⟩ := a3
        exact stage_last hd hid.1 hid.2 b1
end
end Go.Proofs.YtlpdhhhgckpcfaaGreat
