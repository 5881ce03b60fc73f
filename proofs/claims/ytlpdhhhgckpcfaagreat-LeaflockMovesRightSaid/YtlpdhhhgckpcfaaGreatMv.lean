
/- A Lock beside an owner that splits the only leaf (pure). A Lock beside an owner that splits its node, in a world. A Lock beside an owner that splits its node and releases both, in a world; a frozen row of slots. -/
import Derived.Test.YtlpdhhhgckpcfaaGreatIlnLaw
import Derived.Test.YtlpdhhhgckpcfaaGreatLockC
import Derived.Test.YtlpdhhhgckpcfaaGreatExLaw
import Derived.Test.YtlpdhhhgckpcfaaGreatExOn
import Derived.Test.YtlpdhhhgckpcfaaGreatNodeWG
import Derived.Test.YtlpdhhhgckpcfaaGreatInsOut
namespace Go.Proofs.YtlpdhhhgckpcfaaGreat
open Go.RowKit
set_option maxRecDepth 100000
def mvMem (d : Cfg) (ks : List ByteArray) : List Cel := putC (ilMem d ks) 4 ⟨2, ⟨#[]⟩, 0⟩
def mvT (ks : List ByteArray) (stage : Nat) : List (List Nd) := if stage ≤ 1 then [[ilNd ks]] else [[{ ilNd ks with pg := splL (ilPg ks) 2 }, ⟨2, splSep (ilPg ks), splR (ilPg ks)⟩]]
structure MvK (d : Cfg) (ks : List ByteArray) : Prop where
  ok : d.Ok
  no : 2 ≤ d.no
  fa : d.fa ≤ 6
  asc : AscK ks
  len : (ks.length : Int) ≤ d.fa
  two : 2 ≤ ks.length
  size : ∀ x, x ∈ ks → x.size ≤ 32
structure MvI (d : Cfg) (ks : List ByteArray) (key : ByteArray) (L : List Cel) (stage : Nat) (s : InsS) (x : LkS) (m : Nat) : Prop where
  cels : CelsOk L
  clen : (L.length : Int) = d.cells
  tree : TreeM d L (mvT ks stage)
  lk : LkC d L (mvT ks stage) key 0 x m
  mle : m + 2 * (4 - stage) ≤ 100
  own : lkOwn x = true → (x.id = 1 ∧ stage = 4) ∨ (x.id = 2 ∧ 3 ≤ stage)
  st : (stage ≤ 1 ∧ s.pc = stage + 1 ∧ (stage = 1 → s.sp = true) ∧ s.id = 2 ∧ s.full = false ∧ InsI d L (ilFr ks) (ilPg ks) s ∧ InsFr (mvT ks stage) s ∧ insMs (ilPg ks) s ≤ 20) ∨
    (2 ≤ stage ∧ stage ≤ 4 ∧ getC L (d.node 1 0) = ⟨if stage = 4 ∧ ¬ (lkOwn x = true ∧ x.id = 1) then 4 else 5, ⟨#[]⟩, 0⟩ ∧ getC L (d.node 2 0) = ⟨if stage = 2 ∨ (lkOwn x = true ∧ x.id = 2) then 1 else 0, ⟨#[]⟩, 0⟩)
/-- The rounds that are still to come. -/
def mvP (ks : List ByteArray) (stage : Nat) (s : InsS) (m : Nat) : Nat := if stage ≤ 1 then insMs (ilPg ks) s + 103 else if stage = 4 then m else 104 - stage
section
variable {d : Cfg} {ks : List ByteArray} {key : ByteArray} {L L' : List Cel} {stage : Nat} {s s' : InsS} {x : LkS} {m : Nat}
theorem MvK.sl (h : MvK d ks) : (ilPg ks).sl.length = ks.length := keySl_length ks 0
theorem MvK.pg (h : MvK d ks) : PgOk d (ilPg ks) := by
  have hl := h.len
  refine ⟨?_, ⟨by show (0 : Int) ≤ 0; decide, by show (0 : Int) < 18446744073709551616; decide⟩, fun x hx => ?_, fun x hx => ?_, by show (0 : Nat) ≤ _; exact Nat.zero_le _, fun _ => rfl⟩
  · show ((keySl 0 ks).length : Int) ≤ d.fa
    rw [keySl_length]; exact hl
  · have h2 := (keySl_mem hx).2
    have := h.ok.fa2
    omega
  · exact Nat.le_trans (h.size _ (keySl_mem hx).1) (by decide)
theorem MvK.hok (h : MvK d ks) : InH.Ok d (ilFr ks) :=
  ⟨⟨by show (1 : Int) ≤ 1; decide, h.ok.no1⟩, ⟨by show (0 : Int) ≤ ltLock 0; decide, by show ltLock 0 < (18446744073709551616 : Int); decide⟩, h.pg, ⟨by show (0 : Int) ≤ 0; decide, by show (0 : Int) < 1000000; decide⟩⟩
theorem MvK.k (h : MvK d ks) : InsK d (ilFr ks) (ilPg ks) := by
  have hp := h.pg
  have hle := hp.le
  exact ⟨h.hok, by show ltLock 0 % 4 = (1 : Int); decide, by show ltLock 0 + 4 < (18446744073709551616 : Int); decide, ⟨rfl, by omega, hp.r, fun x hx => Nat.le_trans (h.size _ (keySl_mem hx).1) (by decide), hp.hi, hp.la, hp.ri⟩⟩
theorem MvK.nds0 (h : MvK d ks) : NdS (ilNd ks) :=
  ⟨keySl_asc 0 h.asc, fun x hx => by have := (keySl_mem hx).2; omega, fun x _ => ⟨klt_empty _, fun e => by cases e⟩⟩
theorem MvK.hd (h : MvK d ks) : InsHd [[ilNd ks]] 0 0 [ilNd ks] (ilNd ks) (ilFr ks) (ilPg ks) :=
  ⟨rfl, rfl, rfl, rfl, ⟨rfl, rfl, rfl, rfl, h.nds0, fun m l0 e => by omega⟩⟩
theorem mvT_lo (h : stage ≤ 1) : mvT ks stage = [[ilNd ks]] := if_pos h
theorem mvT_hi (h : 2 ≤ stage) : mvT ks stage = [[{ ilNd ks with pg := splL (ilPg ks) 2 }, ⟨2, splSep (ilPg ks), splR (ilPg ks)⟩]] := if_neg (by omega)
theorem mvT_ids {k : Nat} {l : List Nd} {nd : Nd} (hk : (mvT ks stage)[k]? = some l) (hn : nd ∈ l) : nd.id = 1 ∨ (nd.id = 2 ∧ 2 ≤ stage) := by
  by_cases h : stage ≤ 1
  · rw [mvT_lo h] at hk
    cases k with
    | succ k => simp at hk
    | zero =>
      obtain rfl : l = [ilNd ks] := by simpa using hk.symm
      obtain rfl : nd = ilNd ks := by simpa using hn
      exact .inl rfl
  · rw [mvT_hi (by omega)] at hk
    cases k with
    | succ k => simp at hk
    | zero =>
      obtain rfl : l = [{ ilNd ks with pg := splL (ilPg ks) 2 }, ⟨2, splSep (ilPg ks), splR (ilPg ks)⟩] := by simpa using hk.symm
      rcases List.mem_cons.1 hn with rfl | hn
      · exact .inl rfl
      · obtain rfl : nd = ⟨2, splSep (ilPg ks), splR (ilPg ks)⟩ := by simpa using hn
        exact .inr ⟨rfl, by omega⟩
theorem mvT_count : ((mvT ks stage).map List.length).sum ≤ 2 ∧ ((mvT ks stage)[0]?.getD []).length ≤ 2 := by
  by_cases h : stage ≤ 1
  · rw [mvT_lo h]; exact ⟨by show 1 + 0 ≤ 2; decide, by show 1 ≤ 2; decide⟩
  · rw [mvT_hi (by omega)]; exact ⟨by show 2 + 0 ≤ 2; decide, by show 2 ≤ 2; decide⟩
theorem mv_big (h : MvK d ks) : lkBig d (mvT ks stage) 0 ≤ 90 := by
  have hns : nodeSteps d ≤ 11 := by unfold nodeSteps; have := h.fa; omega
  have hlc : lkC d ≤ 14 := by unfold lkC; have := h.fa; omega
  obtain ⟨c1, c2⟩ := mvT_count (ks := ks) (stage := stage)
  unfold lkBig
  have h1 := Nat.mul_le_mul (show ((mvT ks stage).map List.length).sum + 2 ≤ 4 by omega) hns
  have h2 := Nat.mul_le_mul (show ((mvT ks stage)[0]?.getD []).length + 1 ≤ 3 by omega) hlc
  omega
/-- The two latches. -/
theorem MvK.in1 (h : MvK d ks) : 0 ≤ d.node 1 0 ∧ d.node 1 0 < d.cells := by
  have hcl := cells_big h.ok
  have := node_in h.ok (id := 1) (by decide) h.ok.no1 (k := 0) (by omega) (by have := h.ok.fa1; omega)
  exact ⟨this.2.1, by omega⟩
theorem MvK.in2 (h : MvK d ks) : 0 ≤ d.node 2 0 ∧ d.node 2 0 < d.cells := by
  have hcl := cells_big h.ok
  have := node_in h.ok (id := 2) (by decide) h.no (k := 0) (by omega) (by have := h.ok.fa1; omega)
  exact ⟨this.2.1, by omega⟩
theorem MvK.ap (h : MvK d ks) : d.node 1 0 ≠ d.node 2 0 :=
  node_apart h.ok (by decide) h.ok.no1 (by decide) h.no (by omega) (by have := h.ok.fa1; omega) (by omega) (by have := h.ok.fa1; omega) (by decide)
/-- Lock makes a step. -/
theorem MvI.lock (hK : MvK d ks) (h : MvI d ks key L stage s x m) (h4 : x.pc ≠ 4) :
    x.Ok d key ((0 : Nat) : Int) L ∧ x.h = hd0 ∧ ∃ m', MvI d ks key (lokStep d key ((0 : Nat) : Int) L x).2 stage s (lokStep d key ((0 : Nat) : Int) L x).1 m' ∧ m' ≤ m ∧ (stage = 4 → m' + 1 ≤ m) := by
  have hd := hK.ok
  obtain ⟨hok, hh, heff, m', hl, hm1, hm2⟩ := h.lk.step hd h.cels h.clen h.tree h4
  refine ⟨hok, hh, m', ?_, hm1, fun h4s => hm2 (fun hp hf => ?_) (fun hp ha => ?_)⟩
  · obtain ⟨t1, t2, t3, t4, t5, t6⟩ := heff.tree hd h.cels h.clen h.tree
    have hmle := h.mle
    have hcl := h.clen
    have i1 := hK.in1
    have i2 := hK.in2
    have iap := hK.ap
    generalize lokStep d key ((0 : Nat) : Int) L x = st at *
    obtain ⟨x', L1⟩ := st
    simp only at heff hl t1 t2 t3 t4 t5 t6 ⊢
    rcases heff with ⟨rfl, e1, e2⟩ | ⟨e1, e2, e3, ⟨l, nd, e4, e5, e6⟩, e7, e8⟩ | ⟨e1, e2, ⟨l, nd, e4, e5, e6⟩, e7, e8⟩
    · refine ⟨h.cels, h.clen, h.tree, hl, by omega, fun ho => ?_, ?_⟩
      · rw [e1] at ho
        rw [e2 ho]; exact h.own ho
      · rcases h.st with hs | ⟨a, b, c, e⟩
        · exact .inl hs
        · refine .inr ⟨a, b, ?_, ?_⟩
          · rw [c, e1]
            by_cases ho : lkOwn x = true
            · rw [e2 ho]
            · simp [ho]
          · rw [e, e1]
            by_cases ho : lkOwn x = true
            · rw [e2 ho]
            · simp [ho]
    · have hids := mvT_ids e4 e5
      rw [e6] at hids
      have hno : lkOwn x = false := e1
      rcases h.st with ⟨a1, a2, a3, a4, _, a5, _⟩ | ⟨a, b, c, e⟩
      · exfalso
        have hx1 : x.id = 1 := by rcases hids with h | ⟨_, h⟩ <;> omega
        have hw := a5.word hd hK.k (by omega)
        rw [hx1] at e7
        have hw : getC L (d.node 1 0) = _ := hw
        rw [hw] at e7
        have e7 : (if s.pc = 2 ∧ 1 ≤ s.k then ltBegin (ltLock 0) else ltLock 0) % 4 = (0 : Int) := e7
        split at e7 <;> (revert e7; decide)
      · rcases hids with hx1 | ⟨hx2, _⟩
        · rw [hx1] at e7 e8 t6 e3
          rw [c] at e7 e8
          have h4s : stage = 4 := by
            refine Classical.byContradiction fun hc => ?_
            rw [if_neg (fun h => hc h.1)] at e7
            revert e7; decide
          rw [if_pos ⟨h4s, fun h => by rw [hno] at h; cases h.1⟩] at e8
          refine ⟨t3, t4, t1, hl, by omega, fun _ => .inl ⟨e3, h4s⟩, .inr ⟨a, b, ?_, ?_⟩⟩
          · rw [e8, getC_eq i1.1 (by omega), if_neg (fun h => h.2 ⟨e2, e3⟩)]
            rfl
          · rw [t6 _ iap.symm, e, if_neg (fun h => by rcases h with h | h; omega; rw [hno] at h; cases h.1), if_neg (fun h => by rcases h with h | h; omega; have := h.2; omega)]
        · rw [hx2] at e7 e8 t6 e3
          rw [e] at e7 e8
          have h3s : stage ≠ 2 := fun hc => by
            rw [if_pos (.inl hc)] at e7
            revert e7; decide
          rw [if_neg (fun h => by rcases h with h | h; exact h3s h; rw [hno] at h; cases h.1)] at e8
          refine ⟨t3, t4, t1, hl, by omega, fun _ => .inr ⟨e3, by omega⟩, .inr ⟨a, b, ?_, ?_⟩⟩
          · rw [t6 _ iap, c]
            by_cases h4s : stage = 4
            · rw [if_pos ⟨h4s, fun h => by rw [hno] at h; cases h.1⟩, if_pos ⟨h4s, fun h => by have := h.2; omega⟩]
            · rw [if_neg (fun h => h4s h.1), if_neg (fun h => h4s h.1)]
          · rw [e8, getC_eq i2.1 (by omega), if_pos (.inr ⟨e2, e3⟩)]
            rfl
    · have how := h.own e1
      rcases h.st with ⟨a1, _⟩ | ⟨a, b, c, e⟩
      · omega
      · rcases how with ⟨hx1, h4s⟩ | ⟨hx2, h3s⟩
        · rw [hx1] at e7 e8 t6
          rw [c, if_neg (fun h => h.2 ⟨e1, hx1⟩)] at e8
          refine ⟨t3, t4, t1, hl, by omega, fun ho => (by rw [e2] at ho; cases ho), .inr ⟨a, b, ?_, ?_⟩⟩
          · rw [e8, getC_eq i1.1 (by omega), if_pos ⟨h4s, fun h => by rw [e2] at h; cases h.1⟩]
            rfl
          · rw [t6 _ iap.symm, e, if_neg (fun h => by rcases h with h | h; omega; have := h.2; omega), if_neg (fun h => by rcases h with h | h; omega; rw [e2] at h; cases h.1)]
        · rw [hx2] at e7 e8 t6
          rw [e, if_pos (.inr ⟨e1, hx2⟩)] at e8
          refine ⟨t3, t4, t1, hl, by omega, fun ho => (by rw [e2] at ho; cases ho), .inr ⟨a, b, ?_, ?_⟩⟩
          · rw [t6 _ iap, c]
            by_cases h4s : stage = 4
            · rw [if_pos ⟨h4s, fun h => by have := h.2; omega⟩, if_pos ⟨h4s, fun h => by rw [e2] at h; cases h.1⟩]
            · rw [if_neg (fun h => h4s h.1), if_neg (fun h => h4s h.1)]
          · rw [e8, getC_eq i2.1 (by omega), if_neg (fun h => by rcases h with h | h; omega; rw [e2] at h; cases h.1)]
            rfl
  · -- the reader is not held up
    have hQ : Quiet d L (mvT ks stage) := fun k l hk nd hn => by
      rcases h.st with ⟨a1, _⟩ | ⟨a, b, c, e⟩
      · omega
      · rcases mvT_ids hk hn with hi | ⟨hi, _⟩
        · rw [hi, c]
          show ltChg (if _ then 4 else 5) = false
          split <;> decide
        · rw [hi, e]
          show ltChg (if _ then 1 else 0) = false
          split <;> decide
    have hlk := h.lk
    obtain ⟨pc, fd, id, aq, ow, hh⟩ := x
    simp only at hp hf
    subst hp
    obtain ⟨_, _, m0, hfd, _⟩ := hlk
    exact hfd.still hQ hf
  · have hlk := h.lk
    have hst := h.st
    obtain ⟨pc, fd, id, aq, ow, hh⟩ := x
    simp only at hp ha
    subst hp
    obtain ⟨_, l, i, nd, q, hat, hid, _⟩ := hlk
    simp only at hid ⊢
    rcases hst with ⟨a1, _⟩ | ⟨a, b, c, e⟩
    · omega
    · rcases mvT_ids hat.hl (List.mem_of_getElem? hat.hi) with hi | ⟨hi, _⟩
      · rw [hid, hi, c, if_pos ⟨h4s, fun h => by cases h.1⟩]; rfl
      · rw [hid, hi, e, if_neg (fun h => by rcases h with h | h; omega; cases h.1)]; rfl
/-- The owner makes a step of its writers. -/
theorem MvI.write (hK : MvK d ks) (h : MvI d ks key L stage s x m) (h1 : stage ≤ 1) (hn : InsNx d (ilFr ks) (ilPg ks) L s s') :
    ∃ m', MvI d ks key (insMm d L s) (s'.pc - 1) s' x m' ∧ insMs (ilPg ks) s' < insMs (ilPg ks) s ∧ s'.pc ≤ 3 ∧ stage + 1 ≤ s'.pc := by
  have hd := hK.ok
  obtain ⟨_, a2, a3, a4, afl, a5, a6, a7⟩ | ⟨a, _⟩ := h.st
  · have hnown : lkOwn x ≠ true := fun ho => by rcases h.own ho with ⟨_, h⟩ | ⟨_, h⟩ <;> omega
    have htree := h.tree
    have hlk := h.lk
    have hbig := fun st => mv_big (stage := st) hK
    rw [mvT_lo h1] at htree hlk a6
    have hcels := insMm_cels hd hK.k h.cels a5
    have hlen : ((insMm d L s).length : Int) = d.cells := by rw [insMm_len]; exact h.clen
    have h40 : (1 : Int) ≤ (getC L 4).n := (htree.sh.nodes 0 _ rfl (ilNd ks) (by simp)).1.2
    have hI := insI_step hd h.clen hK.k h40 (by omega) a5 (by omega) hn
    have hAl : InsAl d L s := ⟨afl, fun e => by omega⟩
    obtain ⟨b1, b2⟩ := hAl.step hd h.clen a5 (by omega) hn
    have hpcs : (s'.pc ≤ 2 ∧ stage + 1 ≤ s'.pc ∧ (s'.pc = 2 → s'.sp = true) ∧ s'.id = 2 ∧ s'.full = false) ∨ (s'.pc = 3 ∧ stage = 1 ∧ s'.sp = true ∧ s'.id = 2 ∧ s'.full = false) := by
      obtain ⟨pc, tk, k, ps, sp, id, full⟩ := s
      simp only at a2 a3 a4 afl
      rcases (by omega : stage = 0 ∨ stage = 1) with rfl | rfl
      · obtain rfl : pc = 1 := a2
        rcases hn with ⟨_, rfl⟩ | ⟨_, ps', _, rfl⟩
        · exact .inl ⟨(by decide : 1 ≤ 2), (by decide : 0 + 1 ≤ 1), fun e => absurd (show (1 : Nat) = 2 from e) (by decide), a4, afl⟩
        · exact .inl ⟨(by decide : 2 ≤ 2), (by decide : 0 + 1 ≤ 2), fun _ => rfl, a4, afl⟩
      · obtain rfl : pc = 2 := a2
        rcases hn with ⟨_, rfl⟩ | ⟨_, rfl⟩
        · exact .inl ⟨(by decide : 2 ≤ 2), (by decide : 1 + 1 ≤ 2), fun _ => a3 rfl, a4, afl⟩
        · exact .inr ⟨rfl, rfl, a3 rfl, a4, afl⟩
    rcases hpcs with ⟨c1, c2, c3, c4, c5⟩ | ⟨c1, c2, c3, c4, c5⟩
    · obtain ⟨q1, q2⟩ := insT_mid hd h.clen hK.k htree hK.hd a5 a6 (by omega) hn (.inl c1)
      have hb := hbig (s'.pc - 1)
      have hfr := InsFr.step htree a5 a6 (by omega) hn c1
      have hlo : mvT ks (s'.pc - 1) = [[ilNd ks]] := mvT_lo (by omega)
      refine ⟨lkBig d (mvT ks (s'.pc - 1)) 0, ⟨hcels, hlen, by rw [hlo]; exact q1, ?_, by omega, fun ho => absurd ho hnown, .inl ⟨by omega, by omega, fun e => c3 (by omega), c4, c5, hI, by rw [hlo]; exact hfr, by omega⟩⟩, b2, by omega, c2⟩
      rw [hlo]
      exact hlk.env hd q2 (fun ho => absurd ho hnown)
    · obtain ⟨q1, q2⟩ := insT_end hd h.clen hK.k htree hK.hd a5 a6 (by omega) hn c1 c5
      have hb := hbig (s'.pc - 1)
      have hhi : mvT ks (s'.pc - 1) = insT [[ilNd ks]] 0 0 [ilNd ks] (ilNd ks) (ilPg ks) s'.id s'.sp := by
        rw [mvT_hi (by omega), c3, c4]
        rfl
      refine ⟨lkBig d (mvT ks (s'.pc - 1)) 0, ⟨hcels, hlen, by rw [hhi]; exact q1, ?_, by omega, fun ho => absurd ho hnown, .inr ⟨by omega, by omega, ?_, ?_⟩⟩, b2, by omega, by omega⟩
      · rw [hhi]
        exact hlk.env hd q2 (fun ho => absurd ho hnown)
      · obtain ⟨pc', tk', k', ps', sp', id', full'⟩ := s'
        simp only at c1 c3 c4 c5 ⊢
        subst c1 c3 c4 c5
        obtain ⟨_, ⟨e, _⟩ | ⟨_, _, e, _, e2⟩⟩ := hI
        · cases e
        · rw [show getC (insMm d L s) (d.node 1 0) = _ from e2, if_neg (fun h => absurd h.1 (by decide))]
          show (⟨ltEnd (ltBegin (ltLock 0)), _, _⟩ : Cel) = _
          rw [show ltEnd (ltBegin (ltLock 0)) = (5 : Int) by decide]
      · obtain ⟨pc', tk', k', ps', sp', id', full'⟩ := s'
        simp only at c1 c3 c4 c5 ⊢
        subst c1 c3 c4 c5
        obtain ⟨_, ⟨e, _⟩ | ⟨_, _, e, _, e2⟩⟩ := hI
        · cases e
        · rw [show getC (insMm d L s) (d.node 2 0) = _ from (e rfl).2.2.2, if_pos (.inl (by decide))]
          show (⟨ltLock 0, _, _⟩ : Cel) = _
          rw [show ltLock 0 = (1 : Int) by decide]
  · omega
/-- The owner releases the new node. -/
theorem MvI.rel2 (hK : MvK d ks) (h : MvI d ks key L 2 s x m) : MvI d ks key (putC L (d.node 2 0) ⟨0, ⟨#[]⟩, 0⟩) 3 s x (m + 2) := by
  have hd := hK.ok
  have hmle := h.mle
  have hcl := h.clen
  have i2 := hK.in2
  have iap := hK.ap
  have hnown : lkOwn x ≠ true := fun ho => by rcases h.own ho with ⟨_, h⟩ | ⟨_, h⟩ <;> omega
  obtain ⟨a1, _⟩ | ⟨a, b, c, e⟩ := h.st
  · omega
  have e0 : mvT ks 3 = mvT ks 2 := by rw [mvT_hi (by omega), mvT_hi (by omega)]
  have hm : (⟨2, splSep (ilPg ks), splR (ilPg ks)⟩ : Nd) ∈ ([{ ilNd ks with pg := splL (ilPg ks) 2 }, ⟨2, splSep (ilPg ks), splR (ilPg ks)⟩] : List Nd) := by simp
  rw [if_pos (.inl rfl)] at e
  obtain ⟨q1, q2, q3⟩ := h.tree.bit (w' := 0) hd h.clen (k := 0) (by rw [mvT_hi (by omega)]; rfl) hm (by show 0 / 4 = (getC L (d.node 2 0)).n / 4; rw [e]; decide) (by show ltChg (getC L (d.node 2 0)).n = false; rw [e]; decide) (by decide)
  have hlk := (h.lk.calm (L' := putC L (d.node 2 0) ⟨0, ⟨#[]⟩, 0⟩) hd q3 (fun ho => absurd ho hnown)).1
  refine ⟨h.cels.put ⟨by show (0 : Int) ≤ 0; decide, by show (0 : Int) < 18446744073709551616; decide⟩, by rw [putC_length]; exact hcl, by rw [e0]; exact q1, by rw [e0]; exact hlk, by omega, fun ho => absurd ho hnown, .inr ⟨by decide, by decide, ?_, ?_⟩⟩
  · rw [getC_ne iap, c, if_neg (fun h => absurd h.1 (by decide)), if_neg (fun h => absurd h.1 (by decide))]
  · rw [getC_eq i2.1 (by omega), if_neg (fun h => by rcases h with h | h; exact absurd h (by decide); exact hnown h.1)]
/-- The owner releases the old node. -/
theorem MvI.rel1 (hK : MvK d ks) (h : MvI d ks key L 3 s x m) : MvI d ks key (putC L (d.node 1 0) ⟨4, ⟨#[]⟩, 0⟩) 4 s x (m + 2) := by
  have hd := hK.ok
  have hmle := h.mle
  have hcl := h.clen
  have i1 := hK.in1
  have iap := hK.ap
  have hown : lkOwn x = true → x.id = 2 := fun ho => by rcases h.own ho with ⟨_, h⟩ | ⟨h, _⟩ <;> omega
  obtain ⟨a1, _⟩ | ⟨a, b, c, e⟩ := h.st
  · omega
  have e0 : mvT ks 4 = mvT ks 3 := by rw [mvT_hi (by omega), mvT_hi (by omega)]
  have hm : ({ ilNd ks with pg := splL (ilPg ks) 2 } : Nd) ∈ ([{ ilNd ks with pg := splL (ilPg ks) 2 }, ⟨2, splSep (ilPg ks), splR (ilPg ks)⟩] : List Nd) := by simp
  rw [if_neg (fun h => absurd h.1 (by decide))] at c
  obtain ⟨q1, q2, q3⟩ := h.tree.bit (w' := 4) hd h.clen (k := 0) (by rw [mvT_hi (by omega)]; rfl) hm (by show 4 / 4 = (getC L (d.node 1 0)).n / 4; rw [c]; decide) (by show ltChg (getC L (d.node 1 0)).n = false; rw [c]; decide) (by decide)
  have hlk := (h.lk.calm (L' := putC L (d.node 1 0) ⟨4, ⟨#[]⟩, 0⟩) hd q3 (fun ho => by rw [hown ho]; exact getC_ne iap.symm)).1
  refine ⟨h.cels.put ⟨by show (0 : Int) ≤ 4; decide, by show (4 : Int) < 18446744073709551616; decide⟩, by rw [putC_length]; exact hcl, by rw [e0]; exact q1, by rw [e0]; exact hlk, by omega, fun ho => .inr ⟨hown ho, by omega⟩, .inr ⟨by decide, by decide, ?_, ?_⟩⟩
  · rw [getC_eq i1.1 (by omega), if_pos ⟨rfl, fun h => by have := hown h.1; have := h.2; omega⟩]
  · rw [getC_ne iap.symm, e]
    by_cases ho : lkOwn x = true ∧ x.id = 2
    · rw [if_pos (.inr ho), if_pos (.inr ho)]
    · rw [if_neg (fun h => by rcases h with h | h; exact absurd h (by decide); exact ho h), if_neg (fun h => by rcases h with h | h; exact absurd h (by decide); exact ho h)]
/-- Lock has its node. -/
theorem MvI.done (hK : MvK d ks) (h : MvI d ks key L stage s x m) (h4 : x.pc = 4) : x.h.pg.sl.length ≤ 1000000 ∧
    ((x.h.id = 1 ∧ stage = 4 ∧ klt key (splSep (ilPg ks)) = true ∧ (getC L (d.node 1 0)).n = 5 ∧ (getC L (d.node 2 0)).n = 0) ∨
     (x.h.id = 2 ∧ (stage = 3 ∨ stage = 4) ∧ klt key (splSep (ilPg ks)) = false ∧ (getC L (d.node 2 0)).n = 1 ∧ (getC L (d.node 1 0)).n = if stage = 4 then 4 else 5)) := by
  have hlk := h.lk
  have hdone : lkOwn x = true ∧ ∃ l i nd, LkAt (mvT ks stage) key 0 l i nd ∧ x.id = nd.id ∧ x.h.id = nd.id ∧ x.h.pg = nd.pg ∧ pgIn key nd.pg = true := by
    obtain ⟨pc, fd, id, aq, ow, hh⟩ := x
    simp only at h4
    subst h4
    rcases hlk with ⟨l, i, nd, ha, hid, ⟨word, e, _⟩, hin, h0⟩ | ⟨_, h0⟩
    · simp only at e hid
      subst e
      exact ⟨by simp [lkOwn, h0], l, i, nd, ha, hid, rfl, rfl, hin⟩
    · omega
  obtain ⟨ho, l, i, nd, ha, hid, hhid, hpg, hin⟩ := hdone
  have hsl := hK.sl
  have hks := hK.len
  have hfa := hK.fa
  have how := h.own ho
  obtain ⟨a1, _⟩ | ⟨a, b, c, e⟩ := h.st
  · omega
  have hl := ha.hl
  rw [mvT_hi a] at hl
  obtain rfl : l = [{ ilNd ks with pg := splL (ilPg ks) 2 }, ⟨2, splSep (ilPg ks), splR (ilPg ks)⟩] := by simpa using hl.symm
  have hlow := ha.low
  rcases List.mem_cons.1 (List.mem_of_getElem? ha.hi) with rfl | hn
  · have hx1 : x.id = 1 := hid
    have h4s : stage = 4 := by rcases how with ⟨_, h⟩ | ⟨h, _⟩ <;> omega
    refine ⟨?_, .inl ⟨hhid, h4s, ?_, ?_, ?_⟩⟩
    · rw [hpg]
      show ((ilPg ks).sl.take _).length ≤ _
      rw [List.length_take]; omega
    · exact hin
    · rw [c, if_neg (fun h => h.2 ⟨ho, hx1⟩)]
    · rw [e, if_neg (fun h => by rcases h with h | h; omega; have := h.2; omega)]
  · obtain rfl : nd = ⟨2, splSep (ilPg ks), splR (ilPg ks)⟩ := by simpa using hn
    have hx2 : x.id = 2 := hid
    have h3s : stage = 3 ∨ stage = 4 := by rcases how with ⟨h, _⟩ | ⟨_, h⟩ <;> omega
    refine ⟨?_, .inr ⟨hhid, h3s, hlow, ?_, ?_⟩⟩
    · rw [hpg]
      show ((ilPg ks).sl.drop _).length ≤ _
      rw [List.length_drop]; omega
    · rw [e, if_pos (.inr ⟨ho, hx2⟩)]
    · rw [c]
      by_cases h4s : stage = 4
      · rw [if_pos ⟨h4s, fun h => by have := h.2; omega⟩, if_pos h4s]
      · rw [if_neg (fun h => h4s h.1), if_neg h4s]
end
end Go.Proofs.YtlpdhhhgckpcfaaGreat

namespace Go.Proofs.YtlpdhhhgckpcfaaGreat
open Go.RowKit
set_option maxRecDepth 100000
theorem lkHeld {K : Know} {w : World} {F C : List Comp} {d : Cfg} {key : ByteArray} {level : Int} {b : Nat} {s : LkS} (h4 : s.pc = 4) (hn : s.h.pg.sl.length ≤ 1000000) (hr : LkRep d key level b s C) (hs : St K w (group C :: F)) :
    Calls Tryz.prog 19 #[(.pointer (some ⟨b, 0, none⟩))] w fun e w' => ∃ va, e = .returned (.agg #[.int .u64 (s.h).id, .int .u64 (s.h).word, .int .i64 (s.h).pg.lev, va, .string (s.h).pg.hi, .bool (s.h).pg.la, .int .u64 (s.h).pg.ri]) ∧ St K w' (slC va s.h.pg :: group C :: F) := by
  have hx : ∃ va1, C = [blk b (.cells (.nilFunc :: .bool true :: lkTl d key s.h va1).toArray 125), slC va1 s.h.pg] := by
    obtain ⟨pc, fd, id, aq, ow, hh⟩ := s
    simp only at h4
    subst h4
    exact hr
  obtain ⟨va1, rfl⟩ := hx
  have hs := St.group_iff.1 hs
  obtain ⟨a, c, rfl, _, _⟩ := (show St K w (rowC va1 69 2 s.h.pg.sl.length (slRow s.h.pg.sl) :: _) from (show St K w (_ :: slC va1 s.h.pg :: _) from hs).b1).row_read
  refine (lockHeld_st hn hs).mono ?_
  rintro e w' ⟨va, he, hs'⟩
  refine ⟨va, he, ?_⟩
  have hs' : St K w' (slC va s.h.pg :: _ :: _ :: F) := hs'
  exact (St.group_iff.2 (show St K w' ([_, _] ++ (slC va s.h.pg :: F)) from hs'.re [1, 2, 0] rfl)).b1
def s0Ps (d : Cfg) (ks : List ByteArray) : List Pt := ⟨d.node 2 0, ⟨ltLock 0, ⟨#[]⟩, 0⟩⟩ :: pgPts d 2 (splR (ilPg ks))
def mvS0 (d : Cfg) (ks : List ByteArray) : InsS := ⟨1, ⟨0, 0, false⟩, 0, s0Ps d ks, false, 2, false⟩
/-- The writers' stores. -/
structure MvLk (d : Cfg) (ks : List ByteArray) (stage : Nat) (s : InsS) (psF psW : List Pt) (kF kW : Nat) : Prop where
  a : stage = 0 → psF = s.ps ∧ kF = s.k ∧ kW = 0 ∧ WrPs d (ilFr ks) (splL (ilPg ks) 2) psW
  b : stage = 1 → psW = s.ps ∧ kW = s.k
  c : 2 ≤ stage → kW = psW.length
def MvG (K : Know) (bm bc bx bf bw : Nat) (d : Cfg) (ks : List ByteArray) (key : ByteArray) (stage : Nat) (dn : Bool) (pp acc : Nat) (F : List Comp) (w : World) : Prop :=
  ∃ (L : List Cel) (s : InsS) (x : LkS) (m : Nat) (C : List Comp) (b1 g1 c1 : Nat) (va1 : Value) (psF : List Pt) (kF b2 g2 c2 : Nat) (a2 : Option Addr) (cv2 : Nat) (psW : List Pt) (kW : Nat),
    dn = decide (4 ≤ x.pc) ∧ MvI d ks key L stage s x m ∧ mvP ks stage s m ≤ pp ∧ MvLk d ks stage s psF psW kF kW ∧ LkRep d key ((0 : Nat) : Int) bx x C ∧
    St K w (group C :: memC bm bc L acc :: wrC b1 2 (ltLock 0) (splR (ilPg ks)) va1 g1 c1 psF kF :: rowC (.slice (some ⟨g1, 0, none⟩) (psF).length c1) 139 4 (psF).length (ptRow psF) :: blk bf (.cells #[(.pointer (some ⟨b1, 0, none⟩))] 145) ::
      wrC b2 1 (ltEnd (ltBegin (ltLock 0))) (splL (ilPg ks) 2) (.slice a2 (splL (ilPg ks) 2).sl.length cv2) g2 c2 psW kW :: slC (.slice a2 (splL (ilPg ks) 2).sl.length cv2) (splL (ilPg ks) 2) :: blk bw (.cells #[(.pointer (some ⟨b2, 0, none⟩))] 147) :: rowC (.slice (some ⟨g2, 0, none⟩) (psW).length c2) 139 4 (psW).length (ptRow psW) :: F)
section
variable {K : Know} {w : World} {F : List Comp} {bm bc bx bf bw stage pp acc : Nat} {d : Cfg} {ks : List ByteArray} {key : ByteArray} {dn : Bool}
theorem MvG.below (h : MvG K bm bc bx bf bw d ks key stage dn pp acc F w) {w0 : World} (hK : (Know.of w0).Le K) : Below w0.heap.size w0 w := by
  obtain ⟨L, s, x, m, C, b1, g1, c1, va1, psF, kF, b2, g2, c2, a2, cv2, psW, kW, _, _, _, _, _, hs⟩ := h
  exact hs.below hK
theorem MvG.lock (hK : MvK d ks) (ha : acc ≤ 1000000000000) (h : MvG K bm bc bx bf bw d ks key stage false pp acc F w) :
    Calls Tryz.prog 18 #[(.pointer (some ⟨bx, 0, none⟩)), (.pointer (some ⟨bm, 0, none⟩))] w fun e w' => ∃ (dn' : Bool) (pp' : Nat), e = .returned (.bool dn') ∧ pp' ≤ pp ∧ (stage = 4 → pp' + 1 ≤ pp) ∧ MvG K bm bc bx bf bw d ks key stage dn' pp' (acc + 1) F w' := by
  obtain ⟨L, s, x, m, C, b1, g1, c1, va1, psF, kF, b2, g2, c2, a2, cv2, psW, kW, hdn, hI, hpp, hlk, hr, hs⟩ := h
  have h4 : ¬ 4 ≤ x.pc := of_decide_eq_false hdn.symm
  obtain ⟨hok, hh, m', hI', hm1, hm2⟩ := hI.lock hK (by omega)
  refine (lockStep_st hK.ok hI.cels ha hok hh hr (St.group_iff.1 hs)).mono ?_
  rintro e w' ⟨C', rfl, hr', hs'⟩
  by_cases h4s : stage = 4
  · subst h4s
    have := hm2 rfl
    have hp : mvP ks 4 s m = m := by unfold mvP; rw [if_neg (by omega), if_pos rfl]
    have hp' : mvP ks 4 s m' = m' := by unfold mvP; rw [if_neg (by omega), if_pos rfl]
    exact ⟨_, pp - 1, rfl, by omega, fun _ => by omega, _, s, _, m', C', b1, g1, c1, va1, psF, kF, b2, g2, c2, a2, cv2, psW, kW, rfl, hI', by omega, hlk, hr', St.group_iff.2 hs'⟩
  · have hp : mvP ks stage s m' = mvP ks stage s m := by unfold mvP; rw [if_neg h4s, if_neg h4s]
    exact ⟨_, pp, rfl, Nat.le_refl _, fun h => absurd h h4s, _, s, _, m', C', b1, g1, c1, va1, psF, kF, b2, g2, c2, a2, cv2, psW, kW, rfl, hI', by omega, hlk, hr', St.group_iff.2 hs'⟩
theorem MvG.fresh (hK : MvK d ks) (ha : acc ≤ 1000000000000) (h : MvG K bm bc bx bf bw d ks key 0 dn pp acc F w) :
    Calls Tryz.prog 40 #[(.pointer (some ⟨bf, 0, none⟩)), (.pointer (some ⟨bm, 0, none⟩))] w fun e w' => ∃ fin : Bool, e = .returned (.bool fin) ∧ 1 ≤ pp ∧ MvG K bm bc bx bf bw d ks key (if fin then 1 else 0) dn (pp - 1) (acc + 1) F w' := by
  obtain ⟨L, s, x, m, C, b1, g1, c1, va1, psF, kF, b2, g2, c2, a2, cv2, psW, kW, hdn, hI, hpp, hlk, hr, hs⟩ := h
  obtain ⟨rfl, rfl, rfl, hw⟩ := hlk.a rfl
  obtain ⟨_, q2, q3, q4, q5, q6, q7, q8⟩ | ⟨q, _⟩ := hI.st
  · have hk : s.k < s.ps.length := by
      obtain ⟨pc, tk, k, ps, sp, id, full⟩ := s
      obtain rfl : pc = 1 := q2
      exact q6.2.2.2.2.2.1
    have hg := List.getElem?_eq_getElem hk
    have hmm : insMm d L s = putC L s.ps[s.k].i s.ps[s.k].c := by
      obtain ⟨pc, tk, k, ps, sp, id, full⟩ := s
      obtain rfl : pc = 1 := q2
      show (match ps[k]? with | some pt => putC L pt.i pt.c | none => L) = _
      rw [hg]
    have hs := (hs.re [2, 1, 3, 4, 0, 5, 6, 7, 8] rfl)
    refine (freshStep_st hg ha hs).mono ?_
    rintro e w' ⟨rfl, hs'⟩
    rw [← hmm] at hs'
    have hs' := (show St K w' (_ :: _ :: _ :: _ :: group C :: _ :: _ :: _ :: _ :: F) from hs').re [4, 1, 0, 2, 3, 5, 6, 7, 8] rfl
    have hp0 : mvP ks 0 s m = insMs (ilPg ks) s + 103 := by unfold mvP; rw [if_pos (by omega)]
    by_cases he : s.k + 1 = s.ps.length
    · rw [decide_eq_true he]
      have hn : InsNx d (ilFr ks) (ilPg ks) L s { s with pc := 2, sp := true, k := 0, ps := psW } := by
        obtain ⟨pc, tk, k, ps, sp, id, full⟩ := s
        obtain rfl : pc = 1 := q2
        obtain rfl : id = 2 := q4
        exact .inr ⟨he, psW, hw, rfl⟩
      obtain ⟨m', hI', b2', _, _⟩ := hI.write hK (by omega) hn
      have hp1 : mvP ks 1 { s with pc := 2, sp := true, k := 0, ps := psW } m' = insMs (ilPg ks) { s with pc := 2, sp := true, k := 0, ps := psW } + 103 := by unfold mvP; rw [if_pos (by omega)]
      exact ⟨true, rfl, by omega, _, { s with pc := 2, sp := true, k := 0, ps := psW }, x, m', C, b1, g1, c1, va1, _, _, b2, g2, c2, a2, cv2, psW, 0, hdn, hI', by rw [if_pos rfl]; omega, ⟨fun h => by simp at h, fun _ => ⟨rfl, rfl⟩, fun h => by simp at h⟩, hr, hs'⟩
    · rw [decide_eq_false he]
      have hn : InsNx d (ilFr ks) (ilPg ks) L s { s with k := s.k + 1 } := by
        obtain ⟨pc, tk, k, ps, sp, id, full⟩ := s
        obtain rfl : pc = 1 := q2
        exact .inl ⟨he, rfl⟩
      obtain ⟨m', hI', b2', _, _⟩ := hI.write hK (by omega) hn
      have hst : ({ s with k := s.k + 1 } : InsS).pc - 1 = 0 := by show s.pc - 1 = 0; omega
      rw [hst] at hI'
      have hp1 : mvP ks 0 { s with k := s.k + 1 } m' = insMs (ilPg ks) { s with k := s.k + 1 } + 103 := by unfold mvP; rw [if_pos (by omega)]
      exact ⟨false, rfl, by omega, _, { s with k := s.k + 1 }, x, m', C, b1, g1, c1, va1, _, _, b2, g2, c2, a2, cv2, psW, 0, hdn, hI', by rw [if_neg (by decide)]; omega, ⟨fun _ => ⟨rfl, rfl, rfl, hw⟩, fun h => by simp at h, fun h => by simp at h⟩, hr, hs'⟩
  · omega
theorem MvG.write (hK : MvK d ks) (ha : acc ≤ 1000000000000) (h : MvG K bm bc bx bf bw d ks key 1 dn pp acc F w) :
    Calls Tryz.prog 41 #[(.pointer (some ⟨bw, 0, none⟩)), (.pointer (some ⟨bm, 0, none⟩))] w fun e w' => ∃ fin : Bool, e = .returned (.bool fin) ∧ 1 ≤ pp ∧ MvG K bm bc bx bf bw d ks key (if fin then 2 else 1) dn (pp - 1) (acc + 1) F w' := by
  obtain ⟨L, s, x, m, C, b1, g1, c1, va1, psF, kF, b2, g2, c2, a2, cv2, psW, kW, hdn, hI, hpp, hlk, hr, hs⟩ := h
  obtain ⟨rfl, rfl⟩ := hlk.b rfl
  obtain ⟨_, q2, q3, q4, q5, q6, q7, q8⟩ | ⟨q, _⟩ := hI.st
  · have hk : s.k < s.ps.length := by
      obtain ⟨pc, tk, k, ps, sp, id, full⟩ := s
      obtain rfl : pc = 2 := q2
      exact q6.2.2.2.1
    have hg := List.getElem?_eq_getElem hk
    have hmm : insMm d L s = putC L s.ps[s.k].i s.ps[s.k].c := by
      obtain ⟨pc, tk, k, ps, sp, id, full⟩ := s
      obtain rfl : pc = 2 := q2
      show (match ps[k]? with | some pt => putC L pt.i pt.c | none => L) = _
      rw [hg]
    have hs := (hs.re [5, 1, 8, 7, 0, 2, 3, 4, 6] rfl)
    refine (writeStep_st hg ha hs).mono ?_
    rintro e w' ⟨rfl, hs'⟩
    rw [← hmm] at hs'
    have hs' := (show St K w' (_ :: _ :: _ :: _ :: group C :: _ :: _ :: _ :: _ :: F) from hs').re [4, 1, 5, 6, 7, 0, 8, 3, 2] rfl
    have hp0 : mvP ks 1 s m = insMs (ilPg ks) s + 103 := by unfold mvP; rw [if_pos (by omega)]
    by_cases he : s.k + 1 = s.ps.length
    · rw [decide_eq_true he]
      have hn : InsNx d (ilFr ks) (ilPg ks) L s { s with pc := 3, k := s.k + 1 } := by
        obtain ⟨pc, tk, k, ps, sp, id, full⟩ := s
        obtain rfl : pc = 2 := q2
        exact .inr ⟨he, rfl⟩
      obtain ⟨m', hI', b2', _, _⟩ := hI.write hK (by omega) hn
      have hp1 : mvP ks 2 { s with pc := 3, k := s.k + 1 } m' = 102 := by unfold mvP; rw [if_neg (by omega), if_neg (by omega)]
      exact ⟨true, rfl, by omega, _, { s with pc := 3, k := s.k + 1 }, x, m', C, b1, g1, c1, va1, _, _, b2, g2, c2, a2, cv2, _, _, hdn, hI', by rw [if_pos rfl]; omega, ⟨fun h => by simp at h, fun h => by simp at h, fun _ => he⟩, hr, hs'⟩
    · rw [decide_eq_false he]
      have hn : InsNx d (ilFr ks) (ilPg ks) L s { s with k := s.k + 1 } := by
        obtain ⟨pc, tk, k, ps, sp, id, full⟩ := s
        obtain rfl : pc = 2 := q2
        exact .inl ⟨he, rfl⟩
      obtain ⟨m', hI', b2', _, _⟩ := hI.write hK (by omega) hn
      have hst : ({ s with k := s.k + 1 } : InsS).pc - 1 = 1 := by show s.pc - 1 = 1; omega
      rw [hst] at hI'
      have hp1 : mvP ks 1 { s with k := s.k + 1 } m' = insMs (ilPg ks) { s with k := s.k + 1 } + 103 := by unfold mvP; rw [if_pos (by omega)]
      exact ⟨false, rfl, by omega, _, { s with k := s.k + 1 }, x, m', C, b1, g1, c1, va1, _, _, b2, g2, c2, a2, cv2, _, _, hdn, hI', by rw [if_neg (by decide)]; omega, ⟨fun h => by simp at h, fun _ => ⟨rfl, rfl⟩, fun h => by simp at h⟩, hr, hs'⟩
  · omega
/-- What the writer says at its end. -/
theorem MvG.word (hK : MvK d ks) (h : MvG K bm bc bx bf bw d ks key 2 dn pp acc F w) :
    Calls Tryz.prog 42 #[(.pointer (some ⟨bw, 0, none⟩))] w fun e w' => ∃ va, e = .returned (.agg #[.int .u64 ((⟨1, 5, splL (ilPg ks) 2⟩ : InH)).id, .int .u64 ((⟨1, 5, splL (ilPg ks) 2⟩ : InH)).word, .int .i64 ((⟨1, 5, splL (ilPg ks) 2⟩ : InH)).pg.lev, va, .string ((⟨1, 5, splL (ilPg ks) 2⟩ : InH)).pg.hi, .bool ((⟨1, 5, splL (ilPg ks) 2⟩ : InH)).pg.la, .int .u64 ((⟨1, 5, splL (ilPg ks) 2⟩ : InH)).pg.ri]) ∧ MvG K bm bc bx bf bw d ks key 2 dn pp acc (slC va (splL (ilPg ks) 2) :: F) w' := by
  obtain ⟨L, s, x, m, C, b1, g1, c1, va1, psF, kF, b2, g2, c2, a2, cv2, psW, kW, hdn, hI, hpp, hlk, hr, hs⟩ := h
  obtain rfl := hlk.c (by omega)
  have hsl := hK.sl
  have hks := hK.len
  have hfa := hK.fa
  have hlen : (splL (ilPg ks) 2).sl.length ≤ 1000000 := by
    show ((ilPg ks).sl.take _).length ≤ _
    rw [List.length_take]; omega
  refine (writeHeld_st hlen (hs.re [5, 6, 7, 0, 1, 2, 3, 4, 8] rfl)).mono ?_
  rintro e w' ⟨va, rfl, hs'⟩
  have e5 : ltEnd (ltBegin (ltLock 0)) = (5 : Int) := by decide
  refine ⟨va, by rw [e5], L, s, x, m, C, b1, g1, c1, va1, psF, kF, b2, g2, c2, a2, cv2, psW, psW.length, hdn, hI, hpp, hlk, hr, ?_⟩
  exact (show St K w' (slC va (splL (ilPg ks) 2) :: _ :: _ :: _ :: group C :: _ :: _ :: _ :: _ :: _ :: F) from hs').re [4, 5, 6, 7, 8, 1, 2, 3, 9, 0] rfl
/-- A release. -/
theorem MvG.rel {r bi bw' : Nat} {i word : Int} (hK : MvK d ks) (ha : acc ≤ 1000000000000) (hst : (stage = 2 ∧ i = d.node 2 0 ∧ word = 1) ∨ (stage = 3 ∧ i = d.node 1 0 ∧ word = 5)) (h : MvG K bm bc bx bf bw d ks key stage dn pp acc (relL r bi bw' i word 0 ++ F) w) :
    Calls Tryz.prog 22 #[(.pointer (some ⟨r, 0, none⟩)), (.pointer (some ⟨bm, 0, none⟩))] w fun e w' => e = .returned (.bool true) ∧ 1 ≤ pp ∧ MvG K bm bc bx bf bw d ks key (stage + 1) dn (pp - 1) (acc + 1) (relL r bi bw' i word 1 ++ F) w' := by
  obtain ⟨L, s, x, m, C, b1, g1, c1, va1, psF, kF, b2, g2, c2, a2, cv2, psW, kW, hdn, hI, hpp, hlk, hr, hs⟩ := h
  have hs := (show St K w (group C :: memC bm bc L acc :: _ :: _ :: _ :: _ :: _ :: _ :: _ :: _ :: _ :: _ :: F) from hs)
  have hs : St K w (relL r bi bw' i word 0 ++ memC bm bc L acc :: group C :: _ :: _ :: _ :: _ :: _ :: _ :: _ :: F) := hs.re [9, 10, 11, 1, 0, 2, 3, 4, 5, 6, 7, 8] rfl
  refine (relStep_st (by rcases hst with ⟨_, _, rfl⟩ | ⟨_, _, rfl⟩ <;> decide) ha hs).mono ?_
  rintro e w' ⟨rfl, hs'⟩
  have hs' := (show St K w' (_ :: _ :: _ :: memC bm bc (putC L i ⟨ltUnlock word, ⟨#[]⟩, 0⟩) (acc + 1) :: group C :: _ :: _ :: _ :: _ :: _ :: _ :: _ :: F) from hs').re [4, 3, 5, 6, 7, 8, 9, 10, 11, 0, 1, 2] rfl
  rcases hst with ⟨rfl, rfl, rfl⟩ | ⟨rfl, rfl, rfl⟩
  · have hp : mvP ks 2 s m = 102 := by unfold mvP; rw [if_neg (by omega), if_neg (by omega)]
    have hp' : mvP ks 3 s (m + 2) = 101 := by unfold mvP; rw [if_neg (by omega), if_neg (by omega)]
    have e0 : ltUnlock (1 : Int) = 0 := by decide
    rw [e0] at hs'
    exact ⟨rfl, by omega, _, s, x, m + 2, C, b1, g1, c1, va1, psF, kF, b2, g2, c2, a2, cv2, psW, kW, hdn, hI.rel2 hK, by show mvP ks 3 s (m + 2) ≤ _; omega, ⟨fun h => by omega, fun h => by omega, fun _ => hlk.c (by omega)⟩, hr, hs'⟩
  · have hI' := hI.rel1 hK
    have hmle := hI'.mle
    have hp : mvP ks 3 s m = 101 := by unfold mvP; rw [if_neg (by omega), if_neg (by omega)]
    have hp' : mvP ks 4 s (m + 2) = m + 2 := by unfold mvP; rw [if_neg (by omega), if_pos rfl]
    have e0 : ltUnlock (5 : Int) = 4 := by decide
    rw [e0] at hs'
    exact ⟨rfl, by omega, _, s, x, m + 2, C, b1, g1, c1, va1, psF, kF, b2, g2, c2, a2, cv2, psW, kW, hdn, hI', by show mvP ks 4 s (m + 2) ≤ _; omega, ⟨fun h => by omega, fun h => by omega, fun _ => hlk.c (by omega)⟩, hr, hs'⟩
/-- What Lock says at its end. -/
structure MvD (d : Cfg) (ks : List ByteArray) (key : ByteArray) (stage : Nat) (L : List Cel) (h : InH) : Prop where
  c : (h.id = 1 ∧ stage = 4 ∧ klt key (splSep (ilPg ks)) = true ∧ (getC L (d.node 1 0)).n = 5 ∧ (getC L (d.node 2 0)).n = 0) ∨
     (h.id = 2 ∧ (stage = 3 ∨ stage = 4) ∧ klt key (splSep (ilPg ks)) = false ∧ (getC L (d.node 2 0)).n = 1 ∧ (getC L (d.node 1 0)).n = if stage = 4 then 4 else 5)
theorem MvG.held (hK : MvK d ks) (h : MvG K bm bc bx bf bw d ks key stage true pp acc F w) :
    Calls Tryz.prog 19 #[(.pointer (some ⟨bx, 0, none⟩))] w fun e w' => ∃ (h : InH) (va : Value) (L : List Cel), e = .returned (.agg #[.int .u64 (h).id, .int .u64 (h).word, .int .i64 (h).pg.lev, va, .string (h).pg.hi, .bool (h).pg.la, .int .u64 (h).pg.ri]) ∧ MvD d ks key stage L h ∧ h.pg.sl.length ≤ 1000000 ∧ St K w' (slC va h.pg :: memC bm bc L acc :: F) ∧ MvG K bm bc bx bf bw d ks key stage true pp acc F w' := by
  obtain ⟨L, s, x, m, C, b1, g1, c1, va1, psF, kF, b2, g2, c2, a2, cv2, psW, kW, hdn, hI, hpp, hlk, hr, hs⟩ := h
  have h4 : x.pc = 4 := by
    have := of_decide_eq_true hdn.symm
    have := hI.lk.pc_le
    omega
  obtain ⟨d1, d2⟩ := hI.done hK h4
  refine (lkHeld h4 d1 hr hs).mono ?_
  rintro e w' ⟨va, rfl, hs'⟩
  refine ⟨x.h, va, L, rfl, ⟨d2⟩, d1, hs'.sub ?_, L, s, x, m, C, b1, g1, c1, va1, psF, kF, b2, g2, c2, a2, cv2, psW, kW, hdn, hI, hpp, hlk, hr, hs'.tail⟩
  exact .cons_cons _ (.cons _ (.cons_cons _ (.cons _ (.cons _ (.cons _ (.cons _ (.cons _ (.cons _ (.cons _ (List.Sublist.refl _))))))))))
end
theorem MvK.start {d : Cfg} {ks : List ByteArray} {key : ByteArray} (hK : MvK d ks) : MvI d ks key (mvMem d ks) 0 (mvS0 d ks) lok0 90 := by
  have hd := hK.ok
  have f1 := hd.fa1
  have f6 := hK.fa
  have n1 := hd.no1
  have hno := hK.no
  have hA := hd.A_bd
  have hcb := cells_big hd
  have hok := hK.hok
  have hsl := hK.sl
  have hks := hK.len
  obtain ⟨p1, p2, p3, p4⟩ := start_page hd
  have hle : ((ilPg ks).sl.length : Int) ≤ d.fa := hok.pg.le
  have hlp : ((putPg d 1 (ilPg ks) (startL d)).length : Int) = d.cells := by rw [putPg_length]; exact p4
  have hlen0 : ((ilMem d ks).length : Int) = d.cells := by unfold ilMem; rw [putC_length]; exact hlp
  have hlen : ((mvMem d ks).length : Int) = d.cells := by unfold mvMem; rw [putC_length]; exact hlen0
  have hpos := node_in hd (id := 1) (by decide) n1 (k := 0) (by omega) (by omega)
  have hlow : ∀ j : Int, 0 ≤ j → j < 8 → getC (ilMem d ks) j = getC (startL d) j := fun j a b => by
    unfold ilMem
    rw [getC_ne (by have := node_ge8 hd 1 0 (by decide) n1 (by omega) (by omega); omega), putPg_other f1 hle (fun k x y => by have := node_ge8 hd 1 k (by decide) n1 (by omega) y; omega)]
  have h10 := (start_cells d hd).2.1
  have e4 : (getC (mvMem d ks) 4).n = 2 := by
    unfold mvMem
    rw [getC_eq (by omega) (by omega)]
  have e0 : (getC (mvMem d ks) 0).n = 1 := by
    show (getC (putC (ilMem d ks) 4 ⟨2, ⟨#[]⟩, 0⟩) 0).n = 1
    rw [getC_ne (show (0 : Int) ≠ 4 by decide), hlow 0 (by omega) (by omega), (start_cells d hd).2.2 0 (by omega), if_neg (by omega), if_neg (by omega), if_pos rfl]
  have hnode : ∀ k : Int, 0 ≤ k → k < d.fa + 4 → getC (mvMem d ks) (d.node 1 k) = getC (ilMem d ks) (d.node 1 k) := fun k a b => by
    unfold mvMem
    exact getC_ne (by have := node_ge8 hd 1 k (by decide) n1 a b; omega)
  have hold : OldN d (mvMem d ks) (ilFr ks) := by
    refine ⟨?_, ?_⟩
    · refine (putPg_holds hd (by decide) n1 (pg := ilPg ks) p4 hle (fun _ => rfl)).frame hd (by decide) n1 hle (fun k a b => ?_)
      rw [hnode k (by omega) b]
      show getC (putC _ _ _) _ = _
      exact getC_ne (node_ne hd (by decide) n1 (by omega) b (by omega) (by omega) (by omega))
    · show getC (mvMem d ks) (d.node 1 0) = _
      rw [hnode 0 (by omega) (by omega)]
      show getC (putC _ (d.node 1 0) _) (d.node 1 0) = _
      exact getC_eq hpos.2.1 (by omega)
  have hone : ∀ (k : Nat) (l : List Nd), ([[ilNd ks]] : List (List Nd))[k]? = some l → k = 0 ∧ l = [ilNd ks] := fun k l hk => by
    cases k with
    | zero => exact ⟨rfl, by simpa using hk.symm⟩
    | succ k => simp at hk
  have hone2 : ∀ (i : Nat) (a : Nd), [ilNd ks][i]? = some a → i = 0 ∧ a = ilNd ks := fun i a hi => by
    cases i with
    | zero => exact ⟨rfl, by simpa using hi.symm⟩
    | succ k => simp at hi
  have hsh : Shp 2 [[ilNd ks]] := by
    refine ⟨by simp, fun k l hk => ?_, fun k l hk nd hn => ?_, fun k l l' hk hk' => ?_, fun k k' l l' i i' a b hk hk' ha hb _ => ?_, by simp⟩
    · obtain ⟨rfl, rfl⟩ := hone k l hk
      refine ⟨by simp, fun nd hn => ?_, fun nd hn => ?_, fun i a b ha hb => ?_, fun i a ha hi => ?_⟩
      · obtain rfl : nd = ilNd ks := by simpa using hn
        rfl
      · obtain ⟨_, rfl⟩ := hone2 0 nd hn
        rfl
      · have := (hone2 _ _ hb).1; omega
      · obtain ⟨_, rfl⟩ := hone2 i a ha
        exact ⟨rfl, rfl, rfl⟩
    · obtain ⟨rfl, rfl⟩ := hone k l hk
      obtain rfl : nd = ilNd ks := by simpa using hn
      exact ⟨⟨by show (1 : Int) ≤ 1; decide, by show (1 : Int) ≤ 2; decide⟩, hK.nds0⟩
    · have := (hone _ _ hk').1; omega
    · obtain ⟨rfl, rfl⟩ := hone k l hk
      obtain ⟨rfl, rfl⟩ := hone k' l' hk'
      exact ⟨rfl, by rw [(hone2 _ _ ha).1, (hone2 _ _ hb).1]⟩
  have htree : TreeM d (mvMem d ks) [[ilNd ks]] := by
    refine ⟨by rw [e4]; exact hsh, by rw [e4]; exact hno, ⟨ilNd ks, [], rfl, e0⟩, fun k l hk nd hn _ => ?_, fun k l hk nd hn hev => ?_⟩
    · obtain ⟨rfl, rfl⟩ := hone k l hk
      obtain rfl : nd = ilNd ks := by simpa using hn
      exact hold.ndc hd hK.k (fun _ => rfl) rfl rfl
    · obtain ⟨rfl, rfl⟩ := hone k l hk
      obtain rfl : nd = ilNd ks := by simpa using hn
      exfalso
      have hev : (getC (mvMem d ks) (d.node (ilFr ks).id 0)).n % 2 = 0 := hev
      rw [hold.2] at hev
      have hev : ltLock 0 % 2 = (0 : Int) := hev
      revert hev; decide
  have hnr : (splR (ilPg ks)).sl.length ≤ 3 := by
    show ((ilPg ks).sl.drop _).length ≤ _
    rw [List.length_drop]
    unfold splK
    omega
  have hpl : (s0Ps d ks).length = (splR (ilPg ks)).sl.length + 4 := by
    unfold s0Ps
    rw [List.length_cons, pgPts_len]
  have hI : InsI d (mvMem d ks) (ilFr ks) (ilPg ks) (mvS0 d ks) := ⟨rfl, rfl, by have := hK.two; omega, ⟨by show (1 : Int) ≤ 2; decide, hno, by rw [e4]; exact Int.le_refl _, by show (2 : Int) ≠ 1; decide⟩, rfl, by show 0 < (s0Ps d ks).length; omega, hold, fun q hq => by simp [mvS0] at hq⟩
  have hns : nodeSteps d ≤ 11 := by unfold nodeSteps; omega
  have hlc : lkC d ≤ 14 := by unfold lkC; omega
  have hlk : LkC d (mvMem d ks) (mvT ks 0) key 0 lok0 90 := by
    rw [mvT_lo (by omega)]
    refine ⟨rfl, by decide, _, FdC.start, ?_⟩
    show (1 + 0) * nodeSteps d + 1 + lkC d ≤ 90
    omega
  have hfr : InsFr (mvT ks 0) (mvS0 d ks) := by
    rw [mvT_lo (by omega)]
    intro _ k l hk c hc
    obtain ⟨rfl, rfl⟩ := hone k l hk
    obtain rfl : c = ilNd ks := by simpa using hc
    show (1 : Int) ≠ 2
    decide
  have hms : insMs (ilPg ks) (mvS0 d ks) ≤ 20 := by
    show ((s0Ps d ks).length - 0) + ((ilPg ks).sl.length + 5) ≤ 20
    omega
  refine ⟨?_, hlen, by rw [mvT_lo (by omega)]; exact htree, hlk, by omega, fun ho => (by cases ho), .inl ⟨by omega, rfl, fun h => by omega, rfl, rfl, hI, hfr, hms⟩⟩
  unfold mvMem ilMem
  refine CelsOk.put (c := ⟨2, ⟨#[]⟩, 0⟩) (CelsOk.put (c := ⟨ltLock 0, ⟨#[]⟩, 0⟩) (putPg_ok p3 (by omega) hok.pg.ri hok.pg.r) ⟨by show (0 : Int) ≤ ltLock 0; decide, by show ltLock 0 < (18446744073709551616 : Int); decide⟩) ⟨by show (0 : Int) ≤ 2; decide, by show (2 : Int) < 18446744073709551616; decide⟩
end Go.Proofs.YtlpdhhhgckpcfaaGreat

namespace Go.Proofs.YtlpdhhhgckpcfaaGreat
open Go.RowKit
set_option maxRecDepth 100000
/-- Slots that nobody writes any more. -/
theorem St.row_frz {K : Know} {w : World} {F : List Comp} {g cap : Nat} {l : List Sl} (hl : 0 < l.length) (h9 : l.length ≤ 1000000000) (h : St K w (rowC (.slice (some ⟨g, 0, none⟩) l.length cap) 69 2 l.length (slRow l) :: F)) :
    ∃ K2 : Know, K.Le K2 ∧ St K2 w F ∧ ∀ (W : World) (cs : List Comp), St K2 W cs → SlAt W (some ⟨g, 0, none⟩) l := by
  obtain ⟨g', cap', cur, hv, _, _, _, _, hx, hs⟩ := h.row_open hl
  injection hv with e1 e2 e3
  injection e1 with e1
  injection e1 with e1
  subst e1
  obtain ⟨f1, f2, f3⟩ := hs.freeze
  refine ⟨_, f1, f3, fun W cs hW => ⟨h9, fun i s hi => ?_⟩⟩
  have hk := hW.know g _ f2
  obtain ⟨r0, r1⟩ := slRow_at l i s hi
  have k := blk_cell hk
  exact ⟨g, 0, rfl, blk_lt hk, by rw [k, Nat.zero_add]; exact hx _ _ r0, by rw [k, Nat.zero_add]; exact hx _ _ r1⟩
def MvH (K : Know) (bm bc bx bf bw gr cr r0 bi0 bw0 : Nat) (d : Cfg) (ks : List ByteArray) (key : ByteArray) (stage : Nat) (dn : Bool) (pp acc : Nat) (F : List Comp) (w : World) : Prop :=
  (stage ≤ 1 ∧ MvG K bm bc bx bf bw d ks key stage dn pp acc (rowC (.slice (some ⟨gr, 0, none⟩) 2 cr) 47 1 2 [(.pointer (some ⟨r0, 0, none⟩)), (.pointer none)] :: (relL r0 bi0 bw0 (d.node 2 0) 1 0 ++ F)) w) ∨
  (2 ≤ stage ∧ stage ≤ 4 ∧ ∃ r1 bi1 bw1 : Nat, MvG K bm bc bx bf bw d ks key stage dn pp acc (rowC (.slice (some ⟨gr, 0, none⟩) 2 cr) 47 1 2 [(.pointer (some ⟨r0, 0, none⟩)), (.pointer (some ⟨r1, 0, none⟩))] :: (relL r0 bi0 bw0 (d.node 2 0) 1 (if stage = 2 then 0 else 1) ++ (relL r1 bi1 bw1 (d.node 1 0) 5 (if stage = 4 then 1 else 0) ++ F))) w)
section
variable {K : Know} {w : World} {F F' : List Comp} {bm bc bx bf bw gr cr r0 bi0 bw0 stage pp acc : Nat} {d : Cfg} {ks : List ByteArray} {key : ByteArray} {dn : Bool}
/-- The other parts, in another order. -/
theorem MvG.perm (hp : F.Perm F') (h : MvG K bm bc bx bf bw d ks key stage dn pp acc F w) : MvG K bm bc bx bf bw d ks key stage dn pp acc F' w := by
  obtain ⟨L, s, x, m, C, b1, g1, c1, va1, psF, kF, b2, g2, c2, a2, cv2, psW, kW, h1, h2, h3, h4, h5, hs⟩ := h
  exact ⟨L, s, x, m, C, b1, g1, c1, va1, psF, kF, b2, g2, c2, a2, cv2, psW, kW, h1, h2, h3, h4, h5, hs.perm (List.Perm.append_left [_, _, _, _, _, _, _, _, _] hp)⟩
theorem MvG.st (h : MvG K bm bc bx bf bw d ks key stage dn pp acc F w) : St K w F := by
  obtain ⟨L, s, x, m, C, b1, g1, c1, va1, psF, kF, b2, g2, c2, a2, cv2, psW, kW, h1, h2, h3, h4, h5, hs⟩ := h
  exact hs.tail.tail.tail.tail.tail.tail.tail.tail.tail
/-- A step that changes only the other parts. -/
theorem MvG.chg {w' : World} (h : MvG K bm bc bx bf bw d ks key stage dn pp acc F w) (hc : ∀ G, St K w (F ++ G) → St K w' (F' ++ G)) : MvG K bm bc bx bf bw d ks key stage dn pp acc F' w' := by
  obtain ⟨L, s, x, m, C, b1, g1, c1, va1, psF, kF, b2, g2, c2, a2, cv2, psW, kW, h1, h2, h3, h4, h5, hs⟩ := h
  refine ⟨L, s, x, m, C, b1, g1, c1, va1, psF, kF, b2, g2, c2, a2, cv2, psW, kW, h1, h2, h3, h4, h5, ?_⟩
  exact (hc [_, _, _, _, _, _, _, _, _] (hs.perm (List.perm_append_comm (l₁ := [_, _, _, _, _, _, _, _, _])))).perm List.perm_append_comm
theorem MvH.st (h : MvH K bm bc bx bf bw gr cr r0 bi0 bw0 d ks key stage dn pp acc F w) : St K w F := by
  rcases h with ⟨_, h⟩ | ⟨_, _, _, _, _, h⟩
  · exact h.st.tail.tail.tail.tail
  · exact h.st.tail.tail.tail.tail.tail.tail.tail
theorem MvH.same {w' : World} (h : MvH K bm bc bx bf bw gr cr r0 bi0 bw0 d ks key stage dn pp acc F w) (hb : Below w.heap.size w w') : MvH K bm bc bx bf bw gr cr r0 bi0 bw0 d ks key stage dn pp acc F w' := by
  rcases h with ⟨a, h⟩ | ⟨a, b, r1, bi1, bw1, h⟩
  · exact .inl ⟨a, h.chg fun G hs => hs.same hb⟩
  · exact .inr ⟨a, b, r1, bi1, bw1, h.chg fun G hs => hs.same hb⟩
theorem MvH.lock (hK : MvK d ks) (ha : acc ≤ 1000000000000) (h : MvH K bm bc bx bf bw gr cr r0 bi0 bw0 d ks key stage false pp acc F w) :
    Calls Tryz.prog 18 #[(.pointer (some ⟨bx, 0, none⟩)), (.pointer (some ⟨bm, 0, none⟩))] w fun e w' => ∃ (dn' : Bool) (pp' : Nat), e = .returned (.bool dn') ∧ pp' ≤ pp ∧ (stage = 4 → pp' + 1 ≤ pp) ∧ MvH K bm bc bx bf bw gr cr r0 bi0 bw0 d ks key stage dn' pp' (acc + 1) F w' := by
  rcases h with ⟨a, h⟩ | ⟨a, b, r1, bi1, bw1, h⟩
  · refine (h.lock hK ha).mono ?_
    rintro e w' ⟨dn', pp', rfl, h1, h2, h3⟩
    exact ⟨dn', pp', rfl, h1, h2, .inl ⟨a, h3⟩⟩
  · refine (h.lock hK ha).mono ?_
    rintro e w' ⟨dn', pp', rfl, h1, h2, h3⟩
    exact ⟨dn', pp', rfl, h1, h2, .inr ⟨a, b, r1, bi1, bw1, h3⟩⟩
theorem MvH.held (hK : MvK d ks) (h : MvH K bm bc bx bf bw gr cr r0 bi0 bw0 d ks key stage true pp acc F w) :
    Calls Tryz.prog 19 #[(.pointer (some ⟨bx, 0, none⟩))] w fun e w' => ∃ (h : InH) (va : Value) (L : List Cel), e = .returned (.agg #[.int .u64 (h).id, .int .u64 (h).word, .int .i64 (h).pg.lev, va, .string (h).pg.hi, .bool (h).pg.la, .int .u64 (h).pg.ri]) ∧ MvD d ks key stage L h ∧ h.pg.sl.length ≤ 1000000 ∧ St K w' (slC va h.pg :: memC bm bc L acc :: F) ∧ MvH K bm bc bx bf bw gr cr r0 bi0 bw0 d ks key stage true pp acc F w' := by
  rcases h with ⟨a, h⟩ | ⟨a, b, r1, bi1, bw1, h⟩
  · refine (h.held hK).mono ?_
    rintro e w' ⟨hh, va, L, rfl, h1, h2, h3, h4⟩
    exact ⟨hh, va, L, rfl, h1, h2, h3.sub (.cons_cons _ (.cons_cons _ (.cons _ (.cons _ (.cons _ (.cons _ (List.Sublist.refl _))))))), .inl ⟨a, h4⟩⟩
  · refine (h.held hK).mono ?_
    rintro e w' ⟨hh, va, L, rfl, h1, h2, h3, h4⟩
    exact ⟨hh, va, L, rfl, h1, h2, h3.sub (.cons_cons _ (.cons_cons _ (.cons _ (.cons _ (.cons _ (.cons _ (.cons _ (.cons _ (.cons _ (List.Sublist.refl _)))))))))), .inr ⟨a, b, r1, bi1, bw1, h4⟩⟩
theorem MvH.fresh (hK : MvK d ks) (ha : acc ≤ 1000000000000) (h : MvH K bm bc bx bf bw gr cr r0 bi0 bw0 d ks key 0 dn pp acc F w) :
    Calls Tryz.prog 40 #[(.pointer (some ⟨bf, 0, none⟩)), (.pointer (some ⟨bm, 0, none⟩))] w fun e w' => ∃ fin : Bool, e = .returned (.bool fin) ∧ 1 ≤ pp ∧ MvH K bm bc bx bf bw gr cr r0 bi0 bw0 d ks key (if fin then 1 else 0) dn (pp - 1) (acc + 1) F w' := by
  rcases h with ⟨a, h⟩ | ⟨a, _⟩
  · refine (h.fresh hK ha).mono ?_
    rintro e w' ⟨fin, rfl, h1, h2⟩
    exact ⟨fin, rfl, h1, .inl ⟨by split <;> omega, h2⟩⟩
  · omega
theorem MvH.write (hK : MvK d ks) (ha : acc ≤ 1000000000000) (h : MvH K bm bc bx bf bw gr cr r0 bi0 bw0 d ks key 1 dn pp acc F w) :
    Calls Tryz.prog 41 #[(.pointer (some ⟨bw, 0, none⟩)), (.pointer (some ⟨bm, 0, none⟩))] w fun e w' => ∃ fin : Bool, e = .returned (.bool fin) ∧ 1 ≤ pp ∧ ((fin = false ∧ MvH K bm bc bx bf bw gr cr r0 bi0 bw0 d ks key 1 dn (pp - 1) (acc + 1) F w') ∨
      (fin = true ∧ MvG K bm bc bx bf bw d ks key 2 dn (pp - 1) (acc + 1) (rowC (.slice (some ⟨gr, 0, none⟩) 2 cr) 47 1 2 [(.pointer (some ⟨r0, 0, none⟩)), (.pointer none)] :: (relL r0 bi0 bw0 (d.node 2 0) 1 0 ++ F)) w')) := by
  rcases h with ⟨a, h⟩ | ⟨a, _⟩
  · refine (h.write hK ha).mono ?_
    rintro e w' ⟨fin, rfl, h1, h2⟩
    cases fin with
    | false => exact ⟨false, rfl, h1, .inl ⟨rfl, .inl ⟨a, h2⟩⟩⟩
    | true => exact ⟨true, rfl, h1, .inr ⟨rfl, h2⟩⟩
  · omega
theorem MvH.rel (hK : MvK d ks) (ha : acc ≤ 1000000000000) (h2 : 2 ≤ stage) (h3 : stage ≤ 3) (h : MvH K bm bc bx bf bw gr cr r0 bi0 bw0 d ks key stage dn pp acc F w) :
    ∃ r : Nat, w.cell? ⟨gr, stage - 2, none⟩ = some (.pointer (some ⟨r, 0, none⟩)) ∧ Calls Tryz.prog 22 #[(.pointer (some ⟨r, 0, none⟩)), (.pointer (some ⟨bm, 0, none⟩))] w fun e w' => e = .returned (.bool true) ∧ 1 ≤ pp ∧ MvH K bm bc bx bf bw gr cr r0 bi0 bw0 d ks key (stage + 1) dn (pp - 1) (acc + 1) F w' := by
  rcases h with ⟨a, _⟩ | ⟨a, b, r1, bi1, bw1, h⟩
  · omega
  · have hr := h.st
    rcases (by omega : stage = 2 ∨ stage = 3) with rfl | rfl
    · refine ⟨r0, hr.row_cell rfl, ?_⟩
      have h' := h.perm (F' := relL r0 bi0 bw0 (d.node 2 0) 1 0 ++ (rowC (.slice (some ⟨gr, 0, none⟩) 2 cr) 47 1 2 [(.pointer (some ⟨r0, 0, none⟩)), (.pointer (some ⟨r1, 0, none⟩))] :: (relL r1 bi1 bw1 (d.node 1 0) 5 0 ++ F))) (List.perm_middle (l₁ := relL r0 bi0 bw0 (d.node 2 0) 1 0)).symm
      refine (h'.rel hK ha (.inl ⟨rfl, rfl, rfl⟩)).mono ?_
      rintro e w' ⟨rfl, g1, g2⟩
      exact ⟨rfl, g1, .inr ⟨by omega, by omega, r1, bi1, bw1, g2.perm (List.perm_middle (l₁ := relL r0 bi0 bw0 (d.node 2 0) 1 1))⟩⟩
    · refine ⟨r1, hr.row_cell rfl, ?_⟩
      have h' := h.perm (F' := relL r1 bi1 bw1 (d.node 1 0) 5 0 ++ (rowC (.slice (some ⟨gr, 0, none⟩) 2 cr) 47 1 2 [(.pointer (some ⟨r0, 0, none⟩)), (.pointer (some ⟨r1, 0, none⟩))] :: (relL r0 bi0 bw0 (d.node 2 0) 1 1 ++ F))) (by
        refine List.Perm.trans ?_ (List.perm_middle (l₁ := relL r1 bi1 bw1 (d.node 1 0) 5 0)).symm
        refine List.Perm.cons _ ?_
        show (relL r0 bi0 bw0 (d.node 2 0) 1 1 ++ (relL r1 bi1 bw1 (d.node 1 0) 5 0 ++ F)).Perm _
        rw [← List.append_assoc, ← List.append_assoc]
        exact List.Perm.append_right _ List.perm_append_comm)
      refine (h'.rel hK ha (.inr ⟨rfl, rfl, rfl⟩)).mono ?_
      rintro e w' ⟨rfl, g1, g2⟩
      refine ⟨rfl, g1, .inr ⟨by omega, by omega, r1, bi1, bw1, g2.perm ?_⟩⟩
      refine List.Perm.trans (List.perm_middle (l₁ := relL r1 bi1 bw1 (d.node 1 0) 5 1)) (List.Perm.cons _ ?_)
      show (relL r1 bi1 bw1 (d.node 1 0) 5 1 ++ (relL r0 bi0 bw0 (d.node 2 0) 1 1 ++ F)).Perm (relL r0 bi0 bw0 (d.node 2 0) 1 1 ++ (relL r1 bi1 bw1 (d.node 1 0) 5 1 ++ F))
      rw [← List.append_assoc, ← List.append_assoc]
      exact List.Perm.append_right _ List.perm_append_comm
theorem MvH.low (h : MvH K bm bc bx bf bw gr cr r0 bi0 bw0 d ks key stage dn pp acc F w) : stage ≤ 4 := by
  rcases h with ⟨a, _⟩ | ⟨_, b, _⟩ <;> omega
/-- Lock is not done: there is time left. -/
theorem MvG.pos (h : MvG K bm bc bx bf bw d ks key stage false pp acc F w) (hK : MvK d ks) : 1 ≤ pp := by
  obtain ⟨L, s, x, m, C, b1, g1, c1, va1, psF, kF, b2, g2, c2, a2, cv2, psW, kW, hdn, hI, hpp, hlk, hr, hs⟩ := h
  have h4 : ¬ 4 ≤ x.pc := of_decide_eq_false hdn.symm
  obtain ⟨_, _, m', _, h1, h2⟩ := hI.lock hK (by omega)
  unfold mvP at hpp
  split at hpp
  · omega
  · split at hpp
    · rename_i h
      have := h2 h
      omega
    · rcases hI.st with ⟨a, _⟩ | ⟨_, b, _⟩ <;> omega
theorem MvH.pos (h : MvH K bm bc bx bf bw gr cr r0 bi0 bw0 d ks key stage false pp acc F w) (hK : MvK d ks) : 1 ≤ pp := by
  rcases h with ⟨_, h⟩ | ⟨_, _, _, _, _, h⟩
  · exact h.pos hK
  · exact h.pos hK
end
end Go.Proofs.YtlpdhhhgckpcfaaGreat
