
/- A reader beside an Insert into the only leaf (pure). -/
import Derived.Test.YtlpdhhhgckpcfaaGreatInsOn
import Derived.Test.YtlpdhhhgckpcfaaGreatRowLaw
namespace Go.Proofs.YtlpdhhhgckpcfaaGreat
open Go.RowKit
set_option maxRecDepth 100000
def ilPg (ks : List ByteArray) : Pg := ⟨0, keySl 0 ks, ⟨#[]⟩, true, 0⟩
def ilNd (ks : List ByteArray) : Nd := ⟨1, ⟨#[]⟩, ilPg ks⟩
def ilFr (ks : List ByteArray) : InH := ⟨1, ltLock 0, ilPg ks⟩
def ilFu (ks : List ByteArray) (key : ByteArray) : Pg := insPg (ilPg ks) key 99
def ilMem (d : Cfg) (ks : List ByteArray) : List Cel := putC (putPg d 1 (ilPg ks) (startL d)) (d.node 1 0) ⟨ltLock 0, ⟨#[]⟩, 0⟩
/-- The keys of the leaf, and the new one. -/
structure IlK (d : Cfg) (ks : List ByteArray) (key : ByteArray) : Prop where
  ok : d.Ok
  no : 2 ≤ d.no
  fa : d.fa ≤ 6
  asc : AscK ks
  len : (ks.length : Int) ≤ d.fa
  two : 2 ≤ ks.length
  size : ∀ x, x ∈ ks → x.size ≤ 32
  ksz : key.size ≤ 32
  new : ∀ x, x ∈ ks → x ≠ key
structure IlI (d : Cfg) (ks : List ByteArray) (key : ByteArray) (L : List Cel) (s : InsS) (t : List (List Nd)) : Prop where
  cels : CelsOk L
  clen : (L.length : Int) = d.cells
  tree : TreeM d L t
  st : (s.pc ≤ 2 ∧ t = [[ilNd ks]] ∧ InsHd t 0 0 [ilNd ks] (ilNd ks) (ilFr ks) (ilFu ks key) ∧ InsI d L (ilFr ks) (ilFu ks key) s ∧ InsFr t s ∧ InsAl d L s) ∨
    (s.pc = 3 ∧ s.full = false ∧ t = insT [[ilNd ks]] 0 0 [ilNd ks] (ilNd ks) (ilFu ks key) s.id s.sp ∧ (s.sp = true → 2 ≤ (ilFu ks key).sl.length) ∧ Quiet d L t)
section
variable {d : Cfg} {ks : List ByteArray} {key : ByteArray} {L : List Cel} {s s' : InsS} {t : List (List Nd)}
theorem IlK.hok (h : IlK d ks key) : InH.Ok d (ilFr ks) := by
  have hl := h.len
  refine ⟨⟨by show (1 : Int) ≤ 1; decide, h.ok.no1⟩, ⟨by show (0 : Int) ≤ ltLock 0; decide, by show ltLock 0 < (18446744073709551616 : Int); decide⟩, ⟨?_, ⟨by show (0 : Int) ≤ 0; decide, by show (0 : Int) < 18446744073709551616; decide⟩, fun x hx => ?_, fun x hx => ?_, by show (0 : Nat) ≤ _; exact Nat.zero_le _, fun _ => rfl⟩, ⟨by show (0 : Int) ≤ 0; decide, by show (0 : Int) < 1000000; decide⟩⟩
  · show ((keySl 0 ks).length : Int) ≤ d.fa
    rw [keySl_length]; exact hl
  · have h2 := (keySl_mem hx).2
    have := h.ok.fa2
    omega
  · exact Nat.le_trans (h.size _ (keySl_mem hx).1) (by decide)
theorem IlK.k (h : IlK d ks key) : InsK d (ilFr ks) (ilFu ks key) :=
  ⟨h.hok, by show ltLock 0 % 4 = (1 : Int); decide, by show ltLock 0 + 4 < (18446744073709551616 : Int); decide, FuOk.ins h.hok.pg (fun x hx => Nat.le_trans (h.size _ (keySl_mem hx).1) (by decide)) (Nat.le_trans h.ksz (by decide)) (by omega)⟩
theorem IlK.nds0 (h : IlK d ks key) : NdS (ilNd ks) :=
  ⟨keySl_asc 0 h.asc, fun x hx => by have := (keySl_mem hx).2; omega, fun x _ => ⟨klt_empty _, fun e => by cases e⟩⟩
theorem IlK.nosl (h : IlK d ks key) : ∀ x, x ∈ (ilNd ks).pg.sl → x.k ≠ key := fun x hx => h.new _ (keySl_mem hx).1
theorem IlK.nds (h : IlK d ks key) : NdS { ilNd ks with pg := ilFu ks key } := ins_nds h.nds0 (klt_empty _) rfl h.nosl (by decide)
theorem IlK.hd (h : IlK d ks key) : InsHd [[ilNd ks]] 0 0 [ilNd ks] (ilNd ks) (ilFr ks) (ilFu ks key) :=
  ⟨rfl, rfl, rfl, rfl, ⟨rfl, rfl, rfl, rfl, h.nds, fun m l0 e => by omega⟩⟩
theorem IlK.start (h : IlK d ks key) {s : InsS} (hb : InsBeg d (ilFr ks) (ilFu ks key) s) : IlI d ks key (ilMem d ks) s [[ilNd ks]] := by
  have hd := h.ok
  have f1 := hd.fa1
  have n1 := hd.no1
  have hA := hd.A_bd
  have hcb := cells_big hd
  have hok := h.hok
  obtain ⟨p1, p2, p3, p4⟩ := start_page hd
  have hle : ((ilPg ks).sl.length : Int) ≤ d.fa := hok.pg.le
  have hlp : ((putPg d 1 (ilPg ks) (startL d)).length : Int) = d.cells := by rw [putPg_length]; exact p4
  have hlen : ((ilMem d ks).length : Int) = d.cells := by unfold ilMem; rw [putC_length]; exact hlp
  have hpos := node_in hd (id := 1) (by decide) n1 (k := 0) (by omega) (by omega)
  have hlow : ∀ j : Int, 0 ≤ j → j < 8 → getC (ilMem d ks) j = getC (startL d) j := fun j a b => by
    unfold ilMem
    rw [getC_ne (by have := node_ge8 hd 1 0 (by decide) n1 (by omega) (by omega); omega), putPg_other f1 hle (fun k x y => by have := node_ge8 hd 1 k (by decide) n1 (by omega) y; omega)]
  have h10 := (start_cells d hd).2.1
  have e4 : (getC (ilMem d ks) 4).n = 1 := by
    rw [hlow 4 (by omega) (by omega), (start_cells d hd).2.2 4 (by omega), if_neg (by omega), if_pos rfl]
  have e0 : (getC (ilMem d ks) 0).n = 1 := by
    rw [hlow 0 (by omega) (by omega), (start_cells d hd).2.2 0 (by omega), if_neg (by omega), if_neg (by omega), if_pos rfl]
  have hold : OldN d (ilMem d ks) (ilFr ks) := by
    refine ⟨?_, ?_⟩
    · refine (putPg_holds hd (by decide) n1 (pg := ilPg ks) p4 hle (fun _ => rfl)).frame hd (by decide) n1 hle (fun k a b => ?_)
      show getC (putC _ _ _) _ = _
      exact getC_ne (node_ne hd (by decide) n1 (by omega) b (by omega) (by omega) (by omega))
    · show getC (putC _ (d.node 1 0) _) (d.node 1 0) = _
      exact getC_eq hpos.2.1 (by omega)
  have hone : ∀ (k : Nat) (l : List Nd), ([[ilNd ks]] : List (List Nd))[k]? = some l → k = 0 ∧ l = [ilNd ks] := fun k l hk => by
    cases k with
    | zero => exact ⟨rfl, by simpa using hk.symm⟩
    | succ k => simp at hk
  have hone2 : ∀ (i : Nat) (a : Nd), [ilNd ks][i]? = some a → i = 0 ∧ a = ilNd ks := fun i a hi => by
    cases i with
    | zero => exact ⟨rfl, by simpa using hi.symm⟩
    | succ k => simp at hi
  have hsh : Shp 1 [[ilNd ks]] := by
    refine ⟨by simp, fun k l hk => ?_, fun k l hk nd hn => ?_, fun k l l' hk hk' => ?_, fun k k' l l' i i' a b hk hk' ha hb _ => ?_, by simp⟩
    · obtain ⟨rfl, rfl⟩ := hone k l hk
      refine ⟨by simp, fun nd hn => ?_, fun nd hn => ?_, fun i a b ha hb => ?_, fun i a ha hi => ?_⟩
      · obtain rfl : nd = ilNd ks := by simpa using hn
        rfl
      · obtain ⟨_, rfl⟩ := hone2 0 nd hn
        rfl
      · have := (hone2 _ _ hb).1; omega
      · obtain ⟨_, rfl⟩ := hone2 i a ha
        exact ⟨rfl, rfl, rfl⟩
    · obtain ⟨rfl, rfl⟩ := hone k l hk
      obtain rfl : nd = ilNd ks := by simpa using hn
      exact ⟨⟨by show (1 : Int) ≤ 1; decide, by show (1 : Int) ≤ 1; decide⟩, h.nds0⟩
    · have := (hone _ _ hk').1; omega
    · obtain ⟨rfl, rfl⟩ := hone k l hk
      obtain ⟨rfl, rfl⟩ := hone k' l' hk'
      exact ⟨rfl, by rw [(hone2 _ _ ha).1, (hone2 _ _ hb).1]⟩
  have htree : TreeM d (ilMem d ks) [[ilNd ks]] := by
    refine ⟨by rw [e4]; exact hsh, by rw [e4]; exact n1, ⟨ilNd ks, [], rfl, e0⟩, fun k l hk nd hn _ => ?_, fun k l hk nd hn hev => ?_⟩
    · obtain ⟨rfl, rfl⟩ := hone k l hk
      obtain rfl : nd = ilNd ks := by simpa using hn
      exact hold.ndc hd h.k (fun _ => rfl) rfl rfl
    · obtain ⟨rfl, rfl⟩ := hone k l hk
      obtain rfl : nd = ilNd ks := by simpa using hn
      exfalso
      have hev : (getC (ilMem d ks) (d.node (ilFr ks).id 0)).n % 2 = 0 := hev
      rw [hold.2] at hev
      have hev : ltLock 0 % 2 = (0 : Int) := hev
      revert hev; decide
  refine ⟨?_, hlen, htree, .inl ?_⟩
  · unfold ilMem
    refine CelsOk.put (c := ⟨ltLock 0, ⟨#[]⟩, 0⟩) (putPg_ok p3 ?_ hok.pg.ri hok.pg.r) ⟨by show (0 : Int) ≤ ltLock 0; decide, by show ltLock 0 < (18446744073709551616 : Int); decide⟩
    have := h.fa; omega
  · rcases hb with ⟨hfit, b1, b2, b3, b4, b5⟩ | ⟨hfull, rfl⟩
    · obtain ⟨pc, tk, k, ps, sp, id, full⟩ := s
      simp only at b1 b2 b3 b4 b5
      subst b1 b2 b3 b4
      refine ⟨Nat.le_refl 2, rfl, h.hd, ⟨rfl, fun _ => hfit, b5, by have := b5.len; show 0 < ps.length; omega, fun e => (by cases e), _, hlen, hold, fun j _ _ => rfl⟩, fun e => ?_, ⟨rfl, fun e => (by cases e)⟩⟩
      rcases e with e | ⟨_, e⟩ <;> cases e
    · refine ⟨Nat.zero_le 2, rfl, h.hd, ⟨rfl, rfl, hfull, .inl ⟨rfl, rfl⟩, hold⟩, fun e => ?_, ⟨rfl, fun _ => ⟨by rw [e4]; exact h.no, fun e => by cases e⟩⟩⟩
      rcases e with e | ⟨e, _⟩ <;> cases e
theorem IlI.ok (h : IlI d ks key L s t) (h2 : s.pc ≤ 2) : s.Ok d (ilFu ks key) := by
  rcases h.st with ⟨_, _, _, q, _⟩ | ⟨h, _⟩
  · exact q.ok h2
  · omega
theorem IlI.step (hK : IlK d ks key) (h : IlI d ks key L s t) (hn : InsNx d (ilFr ks) (ilFu ks key) L s s') :
    ∃ t', IlI d ks key (insMm d L s) s' t' ∧ Evo d L t (insMm d L s) t' ∧ (s'.pc = 3 ∨ insMs (ilFu ks key) s' < insMs (ilFu ks key) s) := by
  have hd := hK.ok
  obtain ⟨h1, h2, h3, ⟨g1, rfl, g3, g4, g5, g6⟩ | ⟨g1, g2, g3, g4, g5⟩⟩ := h
  · have hcels := insMm_cels hd hK.k h1 g4
    have hlen : ((insMm d L s).length : Int) = d.cells := by rw [insMm_len]; exact h2
    obtain ⟨a1, a2⟩ := g6.step hd h2 g4 g1 hn
    have h40 : (1 : Int) ≤ (getC L 4).n := (h3.sh.nodes 0 _ rfl (ilNd ks) (by simp)).1.2
    have hI := insI_step hd h2 hK.k h40 (by omega) g4 g1 hn
    by_cases h' : s'.pc ≤ 2
    · obtain ⟨q1, q2⟩ := insT_mid hd h2 hK.k h3 g3 g4 g5 g1 hn (.inl h')
      exact ⟨_, ⟨hcels, hlen, q1, .inl ⟨h', rfl, g3, hI, InsFr.step h3 g4 g5 g1 hn h', a1⟩⟩, q2, .inr a2⟩
    · have h3' : s'.pc = 3 := by
        obtain ⟨pc', tk', k', ps', sp', id', full'⟩ := s'
        obtain ⟨pc', rfl⟩ : ∃ m, pc' = m + 3 := ⟨pc' - 3, by simp only at h'; omega⟩
        exact hI.1
      obtain ⟨q1, q2⟩ := insT_end hd h2 hK.k h3 g3 g4 g5 g1 hn h3' a1.1
      refine ⟨_, ⟨hcels, hlen, q1, .inr ⟨h3', a1.1, rfl, fun e => ?_, ?_⟩⟩, q2, .inl h3'⟩
      · obtain ⟨pc', tk', k', ps', sp', id', full'⟩ := s'
        replace a1 := a1.1
        simp only at h3' a1 e
        subst h3' a1 e
        obtain ⟨_, ⟨e, _⟩ | ⟨_, _, e, _⟩⟩ := hI
        · cases e
        · exact (e rfl).1
      · obtain ⟨pc', tk', k', ps', sp', id', full'⟩ := s'
        replace a1 := a1.1
        simp only at h3' a1 ⊢
        subst h3' a1
        obtain ⟨_, ⟨e, _⟩ | ⟨_, _, e, _, e2⟩⟩ := hI
        · cases e
        have hw1 : ltChg (getC (insMm d L s) (d.node 1 0)).n = false := by
          rw [show getC (insMm d L s) (d.node 1 0) = _ from e2]
          show ltChg (ltEnd (ltBegin (ltLock 0))) = false
          decide
        intro k l hk nd hnd
        cases sp' with
        | false =>
          have hk : ([[{ ilNd ks with pg := ilFu ks key }]] : List (List Nd))[k]? = some l := hk
          cases k with
          | succ k => simp at hk
          | zero =>
            obtain rfl : l = [{ ilNd ks with pg := ilFu ks key }] := by simpa using hk.symm
            obtain rfl : nd = { ilNd ks with pg := ilFu ks key } := by simpa using hnd
            exact hw1
        | true =>
          have hk : ([[{ ilNd ks with pg := splL (ilFu ks key) id' }, ⟨id', splSep (ilFu ks key), splR (ilFu ks key)⟩]] : List (List Nd))[k]? = some l := hk
          have hnw := (e rfl).2.2
          cases k with
          | succ k => simp at hk
          | zero =>
            obtain rfl : l = [{ ilNd ks with pg := splL (ilFu ks key) id' }, ⟨id', splSep (ilFu ks key), splR (ilFu ks key)⟩] := by simpa using hk.symm
            rcases List.mem_cons.1 hnd with rfl | hnd
            · exact hw1
            · obtain rfl : nd = ⟨id', splSep (ilFu ks key), splR (ilFu ks key)⟩ := by simpa using hnd
              show ltChg (getC _ (d.node id' 0)).n = false
              rw [hnw.2]
              decide
  · obtain ⟨pc, tk, k, ps, sp, id, full⟩ := s
    simp only at g1
    subst g1
    obtain rfl : s' = _ := hn
    exact ⟨t, ⟨h1, h2, h3, .inr ⟨rfl, g2, g3, g4, g5⟩⟩, Evo.refl _ _ _, .inl rfl⟩
/-- Where a slot is. -/
theorem slot_find {l : List Sl} {x : Sl} (ha : Asc l) (hx : x ∈ l) : l[loK l x.k]? = some x ∧ (l.any fun s => s.k.toList == x.k.toList) = true := by
  obtain ⟨q, hq⟩ := List.getElem?_of_mem hx
  have h3 := loK_iff ha (key := x.k) hq
  have h4 := hiK_iff ha (key := x.k) hq
  simp only [klt_irrefl, Bool.false_eq_true, false_iff, true_iff] at h3 h4
  have hq2 : q = loK l x.k := by
    rcases loK_hiK ha (key := x.k) with h | ⟨h, _⟩ <;> omega
  exact ⟨by rw [← hq2, hq], List.any_eq_true.2 ⟨x, hx, beq_self_eq_true _⟩⟩
theorem IlI.slot (h : IlI d ks key L s t) (hK : IlK d ks key) {x : Sl} (hx : x ∈ keySl 0 ks ∨ (s.pc = 3 ∧ x ∈ (ilFu ks key).sl)) {f : FdS} (hf : FdFin d L t x.k 0 f) :
    f.pg.sl[loK f.pg.sl x.k]? = some x ∧ (f.pg.sl.any fun s => s.k.toList == x.k.toList) = true ∧ f.pg.sl.length ≤ 1000 := by
  have f2 := hK.fa
  have hfl : (ilFu ks key).sl.length ≤ 7 := by have := hK.k.fok.len; omega
  have hx2 : s.pc = 3 → x ∈ (ilFu ks key).sl := fun _ => by
    rcases hx with hx | ⟨_, hx⟩
    · show x ∈ insSl (keySl 0 ks) key 99
      exact (insSl_perm _ _ _).symm.subset (List.mem_append_left _ hx)
    · exact hx
  rcases hf with ⟨_, _, k, l, hk, _⟩ | ⟨l, nd, hl, hn, hid, hpg, hlow, hin, _⟩
  · omega
  · have hasc := ((h.tree.sh.nodes 0 l hl nd hn).2).asc
    rw [hpg]
    have hmem : x ∈ nd.pg.sl ∧ nd.pg.sl.length ≤ 1000 := by
      rcases h.st with ⟨h2, rfl, _⟩ | ⟨h3, _, rfl, h4, _⟩
      · obtain rfl : l = [ilNd ks] := by simpa using hl.symm
        obtain rfl : nd = ilNd ks := by simpa using hn
        refine ⟨?_, ?_⟩
        · rcases hx with hx | ⟨hx, _⟩
          · exact hx
          · omega
        · show (keySl 0 ks).length ≤ _
          rw [keySl_length]
          have := hK.len; omega
      · have hx2 := hx2 h3
        cases hsp : s.sp with
        | false =>
          rw [hsp] at hl
          have hl : ([[{ ilNd ks with pg := ilFu ks key }]] : List (List Nd))[0]? = some l := hl
          obtain rfl : l = [{ ilNd ks with pg := ilFu ks key }] := by simpa using hl.symm
          obtain rfl : nd = { ilNd ks with pg := ilFu ks key } := by simpa using hn
          exact ⟨hx2, by show (ilFu ks key).sl.length ≤ _; omega⟩
        | true =>
          rw [hsp] at hl
          have hl : ([[{ ilNd ks with pg := splL (ilFu ks key) s.id }, ⟨s.id, splSep (ilFu ks key), splR (ilFu ks key)⟩]] : List (List Nd))[0]? = some l := hl
          obtain rfl : l = [{ ilNd ks with pg := splL (ilFu ks key) s.id }, ⟨s.id, splSep (ilFu ks key), splR (ilFu ks key)⟩] := by simpa using hl.symm
          obtain ⟨q1, q2, _⟩ := spl_sep hK.nds.asc (h4 hsp)
          have hx3 : x ∈ (ilFu ks key).sl.take (splK (ilFu ks key).sl.length) ++ (ilFu ks key).sl.drop (splK (ilFu ks key).sl.length) := by rw [List.take_append_drop]; exact hx2
          rcases List.mem_cons.1 hn with rfl | hn
          · refine ⟨?_, ?_⟩
            · rcases List.mem_append.1 hx3 with hx3 | hx3
              · exact hx3
              · have := q2 x hx3
                have hin : klt x.k (splSep (ilFu ks key)) = true := hin
                rw [this] at hin; cases hin
            · show ((ilFu ks key).sl.take _).length ≤ _
              rw [List.length_take]; omega
          · obtain rfl : nd = ⟨s.id, splSep (ilFu ks key), splR (ilFu ks key)⟩ := by simpa using hn
            refine ⟨?_, ?_⟩
            · rcases List.mem_append.1 hx3 with hx3 | hx3
              · have := q1 x hx3
                have hlow : klt x.k (splSep (ilFu ks key)) = false := hlow
                rw [this] at hlow; cases hlow
              · exact hx3
            · show ((ilFu ks key).sl.drop _).length ≤ _
              rw [List.length_drop]; omega
    obtain ⟨q1, q2⟩ := slot_find hasc hmem.1
    exact ⟨q1, q2, hmem.2⟩
theorem IlI.count (h : IlI d ks key L s t) : (t.map List.length).sum ≤ 2 := by
  rcases h.st with ⟨h2, rfl, _⟩ | ⟨h3, _, rfl, h4, _⟩
  · simp
  · cases hsp : s.sp with
    | false => exact (show (([[{ ilNd ks with pg := ilFu ks key }]] : List (List Nd)).map List.length).sum ≤ 2 by simp)
    | true => exact (show (([[{ ilNd ks with pg := splL (ilFu ks key) s.id }, ⟨s.id, splSep (ilFu ks key), splR (ilFu ks key)⟩]] : List (List Nd)).map List.length).sum ≤ 2 by simp)
theorem IlK.ms (h : IlK d ks key) {s : InsS} (hb : InsBeg d (ilFr ks) (ilFu ks key) s) : insMs (ilFu ks key) s ≤ 30 := by
  have hfl : (ilFu ks key).sl.length ≤ 7 := by have := h.k.fok.len; have := h.fa; omega
  rcases hb with ⟨hfit, b1, b2, b3, b4, b5⟩ | ⟨hfull, rfl⟩
  · obtain ⟨pc, tk, k, ps, sp, id, full⟩ := s
    simp only at b1 b4 b5
    subst b1 b4
    have := b5.len
    show ps.length - 0 ≤ 30
    omega
  · show _ + (2 - 0) ≤ 30
    omega
end
end Go.Proofs.YtlpdhhhgckpcfaaGreat
