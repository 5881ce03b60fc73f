/- The walk of AllocRaises. -/
import Derived.Test.YtfoojallpmibfaaRaiseLaw
import Derived.Test.YtfoojallpmibfaaLaw5a
namespace Go.Proofs.Ytfoojallpmibfaa
open Go.RowKit
set_option maxRecDepth 100000

theorem infoRaiseP : (Try.prog.info? 65).map (fun i => (i.zero, i.size, i.bytes)) = some (some (.pointer none), 1, 8) := by kernel_rfl

/-- The raisers in a world: they stand in blocks of their own. -/
structure Raisers (w : World) (B : Nat) (tos : List Int) (bs : List Nat) (S : List RaiseS) : Prop where
  len : bs.length = S.length
  lenT : tos.length = S.length
  nodup : bs.Nodup
  low : ∀ b, b ∈ bs → B ≤ b
  at_ : ∀ (j : Nat) (b : Nat) (tq : Int) (s : RaiseS), bs[j]? = some b → tos[j]? = some tq → S[j]? = some s → RaiseAt w b 0 tq s

theorem Raisers.keep {w w' : World} {B : Nat} {tos : List Int} {bs : List Nat} {S : List RaiseS} (h : Raisers w B tos bs S) (hk : ∀ b cs, b ∈ bs → w.heap[b]? = some (.cells cs 99) → w'.heap[b]? = some (.cells cs 99)) : Raisers w' B tos bs S :=
  ⟨h.len, h.lenT, h.nodup, h.low, fun j b tq s hb ht hs => hk b _ (List.mem_of_getElem? hb) (h.at_ j b tq s hb ht hs)⟩

theorem Raisers.lt {w : World} {B : Nat} {tos : List Int} {bs : List Nat} {S : List RaiseS} (h : Raisers w B tos bs S) : ∀ b, b ∈ bs → b < w.heap.size := by
  intro b hb
  obtain ⟨j, hj⟩ := List.mem_iff_getElem?.1 hb
  have hjl : j < S.length := by have := (List.getElem?_eq_some_iff.1 hj).1; have e := h.len; omega
  have hjt : j < tos.length := by have e := h.lenT; omega
  exact blk_lt (h.at_ j b _ _ hj (List.getElem?_eq_getElem hjt) (List.getElem?_eq_getElem hjl))

theorem Raisers.push {w : World} {B : Nat} {tos : List Int} {bs : List Nat} {S : List RaiseS} (h : Raisers w B tos bs S) {b : Nat} {tq : Int} {s : RaiseS} (hb : RaiseAt w b 0 tq s) (hB : B ≤ b) (hn : b ∉ bs) : Raisers w B (tos ++ [tq]) (bs ++ [b]) (S ++ [s]) := by
  refine ⟨by simp [h.len], by simp [h.lenT], ?_, fun x hx => ?_, fun j x z y hx hz hy => ?_⟩
  · refine List.pairwise_append.2 ⟨h.nodup, by simp, fun x hx c hc => ?_⟩
    simp at hc
    subst hc
    intro e
    subst e
    exact hn hx
  · rcases List.mem_append.1 hx with hx | hx
    · exact h.low x hx
    · simp at hx; subst hx; exact hB
  · have e1 := h.len
    have e2 := h.lenT
    rcases Nat.lt_or_ge j bs.length with hj | hj
    · rw [List.getElem?_append_left hj] at hx
      rw [List.getElem?_append_left (by omega)] at hz
      rw [List.getElem?_append_left (by omega)] at hy
      exact h.at_ j x z y hx hz hy
    · rw [List.getElem?_append_right hj] at hx
      rw [List.getElem?_append_right (by omega), show j - tos.length = j - bs.length by omega] at hz
      rw [List.getElem?_append_right (by omega), show j - S.length = j - bs.length by omega] at hy
      have h0 : j - bs.length = 0 := by
        have := (List.getElem?_eq_some_iff.1 hx).1
        simp at this
        omega
      rw [h0] at hx hy hz
      simp at hx hy hz
      subst hx hy hz
      exact hb

/-- One raiser has made a step. -/
theorem Raisers.step {w w' : World} {B bm bc : Nat} {tos : List Int} {acc tq : Int} {bs : List Nat} {S : List RaiseS} {L : List Cel} {i b : Nat} {s' : RaiseS} (h : Raisers w B tos bs S) (M : MemAt w bm bc L acc) (hi : bs[i]? = some b) (hg : Chg [b, bm, bc] w w') (hto : tos[i]? = some tq) (hb : RaiseAt w' b 0 tq s') : Raisers w' B tos bs (S.set i s') := by
  refine ⟨by simp [h.len], by simp [h.lenT], h.nodup, h.low, fun j x z y hx hz hy => ?_⟩
  rw [List.getElem?_set] at hy
  by_cases hij : i = j
  · subst hij
    rw [hi] at hx
    simp only [Option.some.injEq] at hx
    subst hx
    rw [hto] at hz
    simp only [Option.some.injEq] at hz
    subst hz
    rw [if_pos rfl] at hy
    split at hy
    · simp only [Option.some.injEq] at hy; subst hy; exact hb
    · cases hy
  · rw [if_neg hij] at hy
    have hT := h.at_ j x z y hx hz hy
    refine hg.blk hT ?_
    simp only [List.mem_cons, List.not_mem_nil, or_false, not_or]
    refine ⟨fun e => hij ?_, blk_ne hT M.hm (by decide), blk_ne hT M.hc (by decide)⟩
    subst e
    exact nodup_inj h.nodup hi hx


theorem cell_keep {B : Nat} {w w' : World} {b o : Nat} {v : Value} (hb : Below B w w') (hlt : b < B) (h : w.cell? ⟨b, o, none⟩ = some v) : w'.cell? ⟨b, o, none⟩ = some v := by
  rw [hb.cell (p := ⟨b, o, none⟩) hlt]; exact h

set_option maxHeartbeats 4000000 in
theorem allocRaises_walk (first : Int) (a1 : Option Addr) (len1 cap1 : Nat) (G : Nat → Int) (a : Option Addr) (len cap : Nat) (P : Nat → Int) (hf : 0 ≤ first ∧ first < 18446744073709551616) (w : World) (hrow1 : RowIn .u64 w a1 len1 G) (hrow : RowIn .u8 w a len P) :
    Calls Try.prog 10 #[.int .u64 first, .slice a1 len1 cap1, .slice a len cap] w fun e w' => e = .returned (.bool true) ∧ Below w.heap.size w w' := by
  have hlen := hrow.1
  have hlen1 := hrow1.1
  unfold maxLen at hlen hlen1
  go_enter Try.func10, Try.ntmps10
  go_upto_region 1 with (fail)
  go_cut [7] (fun v wx => ∃ n : Nat, n ≤ 6 ∧ n ≤ len1 ∧ v = .int .i64 n ∧ w = wx)
  case first =>
    by_cases h6 : len1 ≤ 6
    · go_wp2
      go_meet
      exact ⟨len1, h6, Nat.le_refl _, rfl, rfl⟩
    · go_wp2
      go_meet
      exact ⟨6, by omega, by omega, rfl, rfl⟩
  case rest =>
    obtain ⟨n, n2, n3, rfl, rfl⟩ := hcut
    go_wp2_with fail
    refine (memNew_any _ 1 (by omega) (by omega)).mono ?_
    rintro e w1 ⟨rfl, M1, hb1, hs1⟩
    go_wp2_with fail
    refine (awake5_any _).mono ?_
    rintro e w2 ⟨rfl, hb2⟩
    by_cases h100 : 100 < len ∨ n = 0
    · have h100' : (n = 0) ∨ (1 ≤ n ∧ 100 < len) := by omega
      clear h100
      rcases h100' with hn0 | ⟨hn1, h100⟩
      · subst hn0
        go_wp2_with fail
        refine (awake5_any _).mono ?_
        rintro e w3 ⟨rfl, hb3⟩
        go_wp2
        go_ret
        exact ⟨rfl, (hb1.trans (hb2.mono hb1.size)).trans (hb3.mono (Nat.le_trans hb1.size hb2.size))⟩
      · have hn0 : ((n : Int) == 0) = false := by simp; omega
        go_wp2_with fail
        refine (awake5_any _).mono ?_
        rintro e w3 ⟨rfl, hb3⟩
        go_wp2
        go_ret
        exact ⟨rfl, (hb1.trans (hb2.mono hb1.size)).trans (hb3.mono (Nat.le_trans hb1.size hb2.size))⟩
    · have h100' : len ≤ 100 := by omega
      have n1 : 1 ≤ n := by omega
      have hn0 : ((n : Int) == 0) = false := by simp; omega
      clear h100
      have M2 := M1.same hb2
      have hB2 := hb1.trans (hb2.mono hb1.size)
      clear hb1 hb2 M1 hs1
      go_wp2_with fail
      refine (poke_any _ _ _ _ _ 0 ⟨first, ⟨#[]⟩, 0⟩ M2).mono ?_
      rintro e w3 ⟨rfl, M3, hg3⟩
      have hB3 := hB2.trans (hg3.below hB2.size (by simp))
      clear M2 hB2 hg3
      have M3' : MemAt w3 (w.heap.size + 1) w.heap.size (CL first) 0 := M3
      clear M3
      obtain ⟨i0, hi0, hz0, hz1, hz2⟩ := info_parts infoRaiseP
      go_wp2
      go_loopw [10, 11, 12] (fun vt vwant vk wr => ∃ (k : Nat) (bs : List Nat) (want : Int), k ≤ n ∧ vk = .int .i64 k ∧ vwant = .int .u64 want ∧ (∀ j, j < k → G j ≤ want) ∧ first ≤ want ∧ (want = first ∨ ∃ j, j < k ∧ want = G j) ∧ bs.length = k ∧ wr.ownsRow w.heap.size 65 1 vt k (bs.map (fun b => .pointer (some ⟨b, 0, none⟩))) ∧ Raisers wr w.heap.size ((List.range k).map G) bs (List.replicate k ⟨0, 0, false⟩) ∧ MemAt wr (w.heap.size + 1) w.heap.size (CL first) 0 ∧ Below w.heap.size w wr) (fun _ _ vk _ => n - (intOf vk).toNat)
      case atStart =>
        exact ⟨0, [], first, by omega, rfl, rfl, by omega, Int.le_refl _, .inl rfl, rfl, ⟨by simp, .inl ⟨rfl, rfl⟩⟩, ⟨rfl, rfl, by simp, by simp, by simp⟩, M3', hB3⟩
      case round =>
        clear M3' hB3
        obtain ⟨k, bs, want, hk, rfl, rfl, hw1, hw2, hw3, hbl, hown, hT, M, hB⟩ := hrel
        by_cases hlt : k < n
        · obtain ⟨b, off, rfl, _, hpc, hpw⟩ := (hrow1.keep hB).2 k (by omega)
          obtain ⟨p0, p1⟩ := bounds_u64 hpw
          go_wp2_with fail
          refine (newRaise_any _ 0 (G k)).mono ?_
          rintro e w5 ⟨rfl, TA, hb, hz⟩
          have hown5 := own_same hown hb
          have hT5 : Raisers w5 w.heap.size ((List.range k).map G) bs (List.replicate k ⟨0, 0, false⟩) := hT.keep (fun b cs _ h => blk_same hb h)
          have M5 := M.same hb
          have hB5 := hB.trans (hb.mono hB.size)
          have hnew : ∀ b, b ∈ bs → b ≠ wr.heap.size := fun b hb' => Nat.ne_of_lt (hT.lt b hb')
          have hsz := hB.size
          have hpc5 : w5.cell? ⟨b, off + k, none⟩ = some (.int .u64 (G k)) := cell_later hb hpc
          clear hown hT M hB hb
          have hal := Below.alloc (Below.refl w5.heap.size w5) (Nat.le_refl _) (.cells #[.pointer (some ⟨wr.heap.size, 0, none⟩)] 65)
          have hown6 := own_same hown5 hal
          go_wp2_with (at_builtin; refine wpList_append_own _ rfl _ _ 64 rfl w.heap.size 65 i0 (.pointer none) 1 8 Try.underlying64 hi0 hz0 hz1 hz2 rfl (by decide) _ k _ rfl hown6 ⟨w5.heap.size, 0, none⟩ 1 1 [.pointer (some ⟨wr.heap.size, 0, none⟩)] rfl rfl ?c1 ?c2 ?c3 ?c4 ?c5 ?_)
          case c1 => exact cell_one_new _ _ _
          case c2 => intro u hu; simp at hu; subst hu; rfl
          case c3 => unfold maxLen; omega
          case c4 => omega
          case c5 => rw [World.size_alloc]; omega
          intro v' w' hown' hgrow _
          have hkeep : ∀ (b : Nat) (cs : Array Value) (T : TypeId), T ≠ 65 → w5.heap[b]? = some (.cells cs T) → w'.heap[b]? = some (.cells cs T) := by
            intro b cs T hT hb
            have hb' := blk_old hb (.cells #[.pointer (some ⟨wr.heap.size, 0, none⟩)] 65)
            rw [hgrow.block b (blk_lt hb') (fun e => ?_)]
            · exact hb'
            · obtain ⟨_, cur, hcur⟩ := own_block hown6 b e.symm
              exact blk_ne hb' hcur hT rfl
          have hT' : Raisers w' w.heap.size ((List.range (k + 1)).map G) (bs ++ [wr.heap.size]) (List.replicate (k + 1) ⟨0, 0, false⟩) := by
            have := (hT5.keep (fun b cs _ h => hkeep b cs _ (by decide) h)).push (hkeep _ _ _ (by decide) TA) hsz (fun hm => hnew _ hm rfl)
            rw [← List.replicate_succ'] at this
            rw [List.range_succ, List.map_append]
            exact this
          have M' : MemAt w' (w.heap.size + 1) w.heap.size (CL first) 0 := ⟨hkeep _ _ _ (by decide) M5.hm, hkeep _ _ _ (by decide) M5.hc, M5.ne, M5.len⟩
          have hB' : Below w.heap.size w w' := (hB5.alloc hB5.size _).grown hgrow (by rw [World.size_alloc]; have := hB5.size; omega) (fun q hq => (own_block hown6 q hq).1)
          have hpc6 : w'.cell? ⟨b, off + k, none⟩ = some (.int .u64 (G k)) := by
            obtain ⟨b2, off2, e2, hlt2, hc2, _⟩ := (hrow1.keep hB').2 k (by omega)
            simp only [Option.some.injEq, Addr.mk.injEq, and_true] at e2
            obtain ⟨rfl, rfl⟩ := e2
            exact hc2
          clear hT5 M5 hB5 hown5 hown6 hgrow hkeep hal hnew hsz TA hz hpc5 hpc
          go_wp2
          refine ⟨⟨k + 1, bs ++ [wr.heap.size], _, by omega, by go_num, rfl, ?_, ?_, ?_, by simp [hbl], by simpa using hown', hT', M', hB'⟩, by simp [intOf]; omega⟩
          · intro j hj
            by_cases hjk : j = k
            · subst hjk; split <;> omega
            · have := hw1 j (by omega)
              split <;> omega
          · split <;> omega
          · split
            · exact .inr ⟨k, by omega, rfl⟩
            · rcases hw3 with h | ⟨j, hj, h⟩
              · exact .inl h
              · exact .inr ⟨j, by omega, h⟩
        · obtain rfl : k = n := by omega
          obtain ⟨w9, rfl⟩ : ∃ w9 : World, w9 = wr := ⟨_, rfl⟩
          obtain ⟨g, capg, cur, rfl, hg1, hg2, hg3, hg4, hg5⟩ := own_open hown (by omega)
          clear hown
          have hmk : ∀ w, (Instr.makeSlice 43 (.int .i64 k) (.int .i64 k)).run Try.prog w = .ok (.slice (some ⟨w.heap.size, 0, none⟩) k k) (w.alloc (.cells (List.replicate k (.bool false)).toArray 4)) := by
            intro w
            obtain ⟨i, hi, hz, h3, hby⟩ := info_parts infoBool
            have := run_make w 43 4 i _ Try.underlying43 hi hz .i64 .i64 (k : Int) k (by omega) (by omega) (by rw [hby]; omega) (by omega)
            rw [this, h3, Int.toNat_natCast, Nat.mul_one, show (Value.bool false).cells = #[.bool false] from rfl]
            have e : madeCells #[.bool false] k = (List.replicate k (.bool false)).toArray := by
              rw [← toList_madeCells_one]
            rw [e]
          clear hi0 hz0 hz1 hz2
          have hD0 := blk_alloc w9 (.cells (Array.replicate k (.bool false)) 4)
          have hT0 := hT.keep (fun b cs _ h => blk_old h (.cells (Array.replicate k (.bool false)) 4))
          have M0 := M.alloc (.cells (Array.replicate k (.bool false)) 4)
          have hG0 := blk_old hg2 (.cells (Array.replicate k (.bool false)) 4)
          have hB0 := hB.alloc hB.size (.cells (Array.replicate k (.bool false)) 4)
          have hdlow := hB.size
          clear hT M hg2 hB hk hlt
          go_wp2
          clear hmk
          go_loopw [14] (fun vk wr => ∃ (q : Nat) (x acc : Int) (S : List RaiseS), q ≤ len + 30 * k ∧ vk = .int .i64 q ∧ S.length = k ∧ RInv first want x ((List.range k).map G) S ∧ RLive len q x S ∧ 0 ≤ x ∧ 0 ≤ acc ∧ acc ≤ q ∧ wr.heap[g]? = some (.cells cur 65) ∧ wr.heap[w9.heap.size]? = some (.cells (S.map (fun s => Value.bool (decide (2 ≤ s.pc)))).toArray 4) ∧ Raisers wr w.heap.size ((List.range k).map G) bs S ∧ MemAt wr (w.heap.size + 1) w.heap.size (CL x) acc ∧ Below w.heap.size w wr) (fun vk _ => len + 30 * k - (intOf vk).toNat)
          case atStart =>
            refine ⟨0, first, 0, List.replicate k ⟨0, 0, false⟩, by omega, rfl, by simp, ⟨Int.le_refl _, hw2, ?_, ?_⟩, RLive.start (by simp; omega), hf.1, by omega, by omega, hG0, ?_, hT0, M0, hB0⟩
            · intro j s tq hs _
              rw [List.getElem?_replicate] at hs
              split at hs
              · simp only [Option.some.injEq] at hs
                subst hs
                exact ⟨by simp, fun h => (by simp at h), fun h => (by simp at h), fun h => (by simp at h)⟩
              · cases hs
            · intro tq htq
              obtain ⟨j, hj, rfl⟩ := List.mem_map.1 htq
              exact hw1 j (List.mem_range.1 hj)
            · simpa using hD0
          case round =>
            clear hT0 M0 hG0 hB0 hD0
            obtain ⟨q, x, acc, S, hq, rfl, hSl, hI, hL, hx0, ha0, ha1, hg2, hD, hT, M, hB⟩ := hrel
            by_cases hlt : q < len + 30 * k
            · go_upto_if 93 with (fail)
              go_cut [15] (fun v wx => ∃ i : Nat, i < k ∧ (len ≤ q → q % k = i) ∧ v = .int .i64 i ∧ wr = wx)
              case first =>
                by_cases hqp : q < len
                · obtain ⟨b, off, rfl, _, hpc, hpw⟩ := (hrow.keep hB).2 q hqp
                  obtain ⟨p0, p1⟩ := bounds_u8 hpw
                  go_wp2
                  go_meet
                  exact ⟨(P q % k).toNat, by have := Int.emod_lt_of_pos (P q) (show (0 : Int) < k by omega); omega, fun h => by omega, by rw [Int.toNat_of_nonneg (Int.emod_nonneg _ (by omega))], rfl⟩
                · go_wp2
                  go_meet
                  exact ⟨q % k, Nat.mod_lt _ (by omega), fun _ => rfl, by simp, rfl⟩
              case rest =>
                obtain ⟨i, hi, hturn, rfl, rfl⟩ := hcut
                obtain ⟨s, hSi⟩ : ∃ s, S[i]? = some s := ⟨_, List.getElem?_eq_getElem (by omega)⟩
                obtain ⟨b, hbi⟩ : ∃ b, bs[i]? = some b := ⟨_, List.getElem?_eq_getElem (by omega)⟩
                have hto : ((List.range k).map G)[i]? = some (G i) := by simp [hi]
                have hcb : cur[i]? = some (.pointer (some ⟨b, 0, none⟩)) := hg5 i _ (by simp [hbi])
                have hTb := hT.at_ i b (G i) s hbi hto hSi
                have dgb := blk_ne hg2 hTb (by decide)
                have dgm := blk_ne hg2 M.hm (by decide)
                have dgc := blk_ne hg2 M.hc (by decide)
                have ddb := blk_ne hD hTb (by decide)
                have ddm := blk_ne hD M.hm (by decide)
                have ddc := blk_ne hD M.hc (by decide)
                have ddg := blk_ne hD hg2 (by decide)
                have dbm := blk_ne hTb M.hm (by decide)
                have dbc := blk_ne hTb M.hc (by decide)
                have hlow := hT.low b (List.mem_of_getElem? hbi)
                have hgood := hI.each i s (G i) hSi hto
                obtain ⟨bt, offt, rfl, hbtlt, hbtc, hbtw⟩ := hrow1.2 i (by omega)
                have htread : ∀ w', Below w.heap.size w w' → w'.cell? ⟨bt, offt + i, none⟩ = some (.int .u64 (G i)) := fun w' hb => cell_keep hb hbtlt hbtc
                obtain ⟨t0, t1⟩ := bounds_u64 hbtw
                obtain ⟨s', x', e, hst⟩ := raiseStep_CL (G i) x s
                have q5 := fun w' (hT' : RaiseAt w' b 0 (G i) s) (M' : MemAt w' (w.heap.size + 1) w.heap.size (CL x) acc) => raise_step w' b (w.heap.size + 1) w.heap.size 0 (G i) acc s (CL x) hT' M' dbm dbc ha0 (by omega)
                obtain ⟨pc, seen, ok⟩ := s
                have hI' := hI.step hSi hto hst
                have hL' := hL.step (by omega) hSi hst (by rw [hSl]; exact hturn)
                clear hI hL
                have hxt : 0 ≤ x' := Int.le_trans hx0 (hst.mono hgood)
                have HT := Lib.hid htread
                clear htread hbtc
                cases hst with
                | rest h =>
                  generalize G i = T at *
                  have h2 := hgood.pc
                  obtain rfl : pc = 2 := by have h3 : pc ≤ 2 := h2; have h4 : 2 ≤ pc := h; omega
                  rw [e] at q5
                  have Q := Lib.hid q5
                  clear q5 e
                  have hdn0 : ((S.map (fun s => Value.bool (decide (2 ≤ s.pc)))).toArray)[i]? = some (.bool true) := by simp [hSi]
                  go_wp2_with fail
                  refine (accesses_any _ _ _ _ _ M).mono ?_
                  rintro e w3 ⟨rfl, rfl⟩
                  go_wp2_with fail
                  refine (peekCL _ _ _ _ _ M).mono ?_
                  rintro e w4 ⟨rfl, hb4⟩
                  have kg := blk_cell (blk_same hb4 hg2) i
                  rw [hcb] at kg
                  go_wp2_with fail
                  refine (Q.out w4 (blk_same hb4 hTb) (M.same hb4)).mono ?_
                  rintro e w5 ⟨rfl, TA, M5, hg5'⟩
                  have hTk := (hT.keep (fun b cs _ h => blk_same hb4 h)).step (M.same hb4) hbi hg5' hto TA
                  have G5 := hg5'.blk (blk_same hb4 hg2) (by simp [dgb, dgm, dgc])
                  have D5 := hg5'.blk (blk_same hb4 hD) (by simp [ddb, ddm, ddc])
                  have hB5 := (hB.trans (hb4.mono hB.size)).trans (hg5'.below (Nat.le_trans hB.size hb4.size) (by simp; exact hlow))
                  clear hT hTb hg2 hD hB hb4 hg5' M kg Q
                  go_wp2_with fail
                  refine (peekCL _ _ _ _ _ M5).mono ?_
                  rintro e w6 ⟨rfl, hb6⟩
                  have M6 := M5.same hb6
                  have D6 := blk_same hb6 D5
                  have G6 := blk_same hb6 G5
                  have TA6 := blk_same hb6 TA
                  have hT6 := hTk.keep (fun b cs _ h => blk_same hb6 h)
                  have hB6 := hB5.trans (hb6.mono hB5.size)
                  clear hb6 M5 D5 G5 hTk hB5 TA
                  have kd := blk_cell D6 i
                  rw [hdn0] at kd
                  have kf := blk_frozen D6 i
                  have kg := blk_cell G6 i
                  rw [hcb] at kg
                  have kt := HT.out w6 hB6
                  go_wp2_with (go_at_call 46; refine (accesses_any _ _ _ _ _ M6).mono ?_; rintro e w7 ⟨rfl, rfl⟩)
                  have D7 := blk_set D6 i (.bool true)
                  clear kd kf kg kt
                  go_roundw
                  case rel =>
                    refine ⟨q + 1, x, acc, S.set i ⟨2, seen, ok⟩, by omega, by go_num, by simpa using hSl, hI', hL', hxt, by omega, by omega, ?_, ?_, ?_, ?_, hB6.setCell hdlow _⟩
                    · exact blk_set_other G6 (Ne.symm ddg) _ _
                    · simpa [List.map_set] using D7
                    · exact hT6.keep (fun b cs _ h => blk_set_other h (blk_ne h D6 (by decide)) _ _)
                    · exact M6.keep (S := [w9.heap.size]) ((Chg.refl _ _).setCell (.inl (by simp)) _) (by simp [Ne.symm ddm]) (by simp [Ne.symm ddc])
                  case measure => simp [intOf]; omega
                | full h hx =>
                  generalize G i = T at *
                  obtain rfl : pc = 0 := h
                  obtain rfl : ok = false := by
                    cases ok with
                    | false => rfl
                    | true => have h9 := hgood.ok rfl; simp at h9
                  rw [e] at q5
                  have Q := Lib.hid q5
                  clear q5 e
                  have hdn0 : ((S.map (fun s => Value.bool (decide (2 ≤ s.pc)))).toArray)[i]? = some (.bool false) := by simp [hSi]
                  go_wp2_with fail
                  refine (accesses_any _ _ _ _ _ M).mono ?_
                  rintro e w3 ⟨rfl, rfl⟩
                  go_wp2_with fail
                  refine (peekCL _ _ _ _ _ M).mono ?_
                  rintro e w4 ⟨rfl, hb4⟩
                  have kg := blk_cell (blk_same hb4 hg2) i
                  rw [hcb] at kg
                  go_wp2_with fail
                  refine (Q.out w4 (blk_same hb4 hTb) (M.same hb4)).mono ?_
                  rintro e w5 ⟨rfl, TA, M5, hg5'⟩
                  have hTk := (hT.keep (fun b cs _ h => blk_same hb4 h)).step (M.same hb4) hbi hg5' hto TA
                  have G5 := hg5'.blk (blk_same hb4 hg2) (by simp [dgb, dgm, dgc])
                  have D5 := hg5'.blk (blk_same hb4 hD) (by simp [ddb, ddm, ddc])
                  have hB5 := (hB.trans (hb4.mono hB.size)).trans (hg5'.below (Nat.le_trans hB.size hb4.size) (by simp; exact hlow))
                  clear hT hTb hg2 hD hB hb4 hg5' M kg Q
                  go_wp2_with fail
                  refine (peekCL _ _ _ _ _ M5).mono ?_
                  rintro e w6 ⟨rfl, hb6⟩
                  have M6 := M5.same hb6
                  have D6 := blk_same hb6 D5
                  have G6 := blk_same hb6 G5
                  have TA6 := blk_same hb6 TA
                  have hT6 := hTk.keep (fun b cs _ h => blk_same hb6 h)
                  have hB6 := hB5.trans (hb6.mono hB5.size)
                  clear hb6 M5 D5 G5 hTk hB5 TA
                  have kd := blk_cell D6 i
                  rw [hdn0] at kd
                  have kf := blk_frozen D6 i
                  have kg := blk_cell G6 i
                  rw [hcb] at kg
                  have kt := HT.out w6 hB6
                  go_wp2_with (first | (go_at_call 46; refine (accesses_any _ _ _ _ _ M6).mono ?_; rintro e w7 ⟨rfl, rfl⟩) | (go_at_call 57; refine (raised_any _ _ 0 T ⟨2, x, false⟩ TA6).mono ?_; rintro e w7 ⟨rfl, rfl⟩))
                  have D7 := blk_set D6 i (.bool true)
                  clear kd kf kg kt
                  go_roundw
                  case rel =>
                    refine ⟨q + 1, x, (acc + 1), S.set i ⟨2, x, false⟩, by omega, by go_num, by simpa using hSl, hI', hL', hxt, by omega, by omega, ?_, ?_, ?_, ?_, hB6.setCell hdlow _⟩
                    · exact blk_set_other G6 (Ne.symm ddg) _ _
                    · simpa [List.map_set] using D7
                    · exact hT6.keep (fun b cs _ h => blk_set_other h (blk_ne h D6 (by decide)) _ _)
                    · exact M6.keep (S := [w9.heap.size]) ((Chg.refl _ _).setCell (.inl (by simp)) _) (by simp [Ne.symm ddm]) (by simp [Ne.symm ddc])
                  case measure => simp [intOf]; omega
                | look h hx =>
                  generalize G i = T at *
                  obtain rfl : pc = 0 := h
                  obtain rfl : ok = false := by
                    cases ok with
                    | false => rfl
                    | true => have h9 := hgood.ok rfl; simp at h9
                  rw [e] at q5
                  have Q := Lib.hid q5
                  clear q5 e
                  have hdn0 : ((S.map (fun s => Value.bool (decide (2 ≤ s.pc)))).toArray)[i]? = some (.bool false) := by simp [hSi]
                  go_wp2_with fail
                  refine (accesses_any _ _ _ _ _ M).mono ?_
                  rintro e w3 ⟨rfl, rfl⟩
                  go_wp2_with fail
                  refine (peekCL _ _ _ _ _ M).mono ?_
                  rintro e w4 ⟨rfl, hb4⟩
                  have kg := blk_cell (blk_same hb4 hg2) i
                  rw [hcb] at kg
                  go_wp2_with fail
                  refine (Q.out w4 (blk_same hb4 hTb) (M.same hb4)).mono ?_
                  rintro e w5 ⟨rfl, TA, M5, hg5'⟩
                  have hTk := (hT.keep (fun b cs _ h => blk_same hb4 h)).step (M.same hb4) hbi hg5' hto TA
                  have G5 := hg5'.blk (blk_same hb4 hg2) (by simp [dgb, dgm, dgc])
                  have D5 := hg5'.blk (blk_same hb4 hD) (by simp [ddb, ddm, ddc])
                  have hB5 := (hB.trans (hb4.mono hB.size)).trans (hg5'.below (Nat.le_trans hB.size hb4.size) (by simp; exact hlow))
                  clear hT hTb hg2 hD hB hb4 hg5' M kg Q
                  go_wp2_with fail
                  refine (peekCL _ _ _ _ _ M5).mono ?_
                  rintro e w6 ⟨rfl, hb6⟩
                  have M6 := M5.same hb6
                  have D6 := blk_same hb6 D5
                  have G6 := blk_same hb6 G5
                  have TA6 := blk_same hb6 TA
                  have hT6 := hTk.keep (fun b cs _ h => blk_same hb6 h)
                  have hB6 := hB5.trans (hb6.mono hB5.size)
                  clear hb6 M5 D5 G5 hTk hB5 TA
                  have kd := blk_cell D6 i
                  rw [hdn0] at kd
                  have kf := blk_frozen D6 i
                  have kg := blk_cell G6 i
                  rw [hcb] at kg
                  have kt := HT.out w6 hB6
                  go_wp2_with (go_at_call 46; refine (accesses_any _ _ _ _ _ M6).mono ?_; rintro e w7 ⟨rfl, rfl⟩)
                  have D7 := blk_set D6 i (.bool false)
                  clear kd kf kg kt
                  go_roundw
                  case rel =>
                    refine ⟨q + 1, x, (acc + 1), S.set i ⟨1, x, false⟩, by omega, by go_num, by simpa using hSl, hI', hL', hxt, by omega, by omega, ?_, ?_, ?_, ?_, hB6.setCell hdlow _⟩
                    · exact blk_set_other G6 (Ne.symm ddg) _ _
                    · simpa [List.map_set] using D7
                    · exact hT6.keep (fun b cs _ h => blk_set_other h (blk_ne h D6 (by decide)) _ _)
                    · exact M6.keep (S := [w9.heap.size]) ((Chg.refl _ _).setCell (.inl (by simp)) _) (by simp [Ne.symm ddm]) (by simp [Ne.symm ddc])
                  case measure => simp [intOf]; omega
                | took h hx =>
                  generalize G i = T at *
                  obtain rfl : pc = 1 := h
                  obtain rfl : ok = false := by
                    cases ok with
                    | false => rfl
                    | true => have h9 := hgood.ok rfl; simp at h9
                  obtain rfl : x = seen := hx
                  have hlt2 : x < T := hgood.one rfl
                  have hne1 : (T == x) = false := beq_eq_false_iff_ne.2 (by omega)
                  have hne2 : (T != x) = true := by simp; omega
                  rw [e] at q5
                  have Q := Lib.hid q5
                  clear q5 e
                  have hdn0 : ((S.map (fun s => Value.bool (decide (2 ≤ s.pc)))).toArray)[i]? = some (.bool false) := by simp [hSi]
                  go_wp2_with fail
                  refine (accesses_any _ _ _ _ _ M).mono ?_
                  rintro e w3 ⟨rfl, rfl⟩
                  go_wp2_with fail
                  refine (peekCL _ _ _ _ _ M).mono ?_
                  rintro e w4 ⟨rfl, hb4⟩
                  have kg := blk_cell (blk_same hb4 hg2) i
                  rw [hcb] at kg
                  go_wp2_with fail
                  refine (Q.out w4 (blk_same hb4 hTb) (M.same hb4)).mono ?_
                  rintro e w5 ⟨rfl, TA, M5, hg5'⟩
                  have hTk := (hT.keep (fun b cs _ h => blk_same hb4 h)).step (M.same hb4) hbi hg5' hto TA
                  have G5 := hg5'.blk (blk_same hb4 hg2) (by simp [dgb, dgm, dgc])
                  have D5 := hg5'.blk (blk_same hb4 hD) (by simp [ddb, ddm, ddc])
                  have hB5 := (hB.trans (hb4.mono hB.size)).trans (hg5'.below (Nat.le_trans hB.size hb4.size) (by simp; exact hlow))
                  clear hT hTb hg2 hD hB hb4 hg5' M kg Q
                  go_wp2_with fail
                  refine (peekCL _ _ _ _ _ M5).mono ?_
                  rintro e w6 ⟨rfl, hb6⟩
                  have M6 := M5.same hb6
                  have D6 := blk_same hb6 D5
                  have G6 := blk_same hb6 G5
                  have TA6 := blk_same hb6 TA
                  have hT6 := hTk.keep (fun b cs _ h => blk_same hb6 h)
                  have hB6 := hB5.trans (hb6.mono hB5.size)
                  clear hb6 M5 D5 G5 hTk hB5 TA
                  have kd := blk_cell D6 i
                  rw [hdn0] at kd
                  have kf := blk_frozen D6 i
                  have kg := blk_cell G6 i
                  rw [hcb] at kg
                  have kt := HT.out w6 hB6
                  go_wp2_with (first | (go_at_call 46; refine (accesses_any _ _ _ _ _ M6).mono ?_; rintro e w7 ⟨rfl, rfl⟩) | (go_at_call 57; refine (raised_any _ _ 0 T ⟨2, x, true⟩ TA6).mono ?_; rintro e w7 ⟨rfl, rfl⟩))
                  have D7 := blk_set D6 i (.bool true)
                  clear kd kf kg kt
                  go_roundw
                  case rel =>
                    refine ⟨q + 1, T, (acc + 1), S.set i ⟨2, x, true⟩, by omega, by go_num, by simpa using hSl, hI', hL', hxt, by omega, by omega, ?_, ?_, ?_, ?_, hB6.setCell hdlow _⟩
                    · exact blk_set_other G6 (Ne.symm ddg) _ _
                    · simpa [List.map_set] using D7
                    · exact hT6.keep (fun b cs _ h => blk_set_other h (blk_ne h D6 (by decide)) _ _)
                    · exact M6.keep (S := [w9.heap.size]) ((Chg.refl _ _).setCell (.inl (by simp)) _) (by simp [Ne.symm ddm]) (by simp [Ne.symm ddc])
                  case measure => simp [intOf]; omega
                | lost h hx =>
                  generalize G i = T at *
                  obtain rfl : pc = 1 := h
                  obtain rfl : ok = false := by
                    cases ok with
                    | false => rfl
                    | true => have h9 := hgood.ok rfl; simp at h9
                  rw [e] at q5
                  have Q := Lib.hid q5
                  clear q5 e
                  have hdn0 : ((S.map (fun s => Value.bool (decide (2 ≤ s.pc)))).toArray)[i]? = some (.bool false) := by simp [hSi]
                  go_wp2_with fail
                  refine (accesses_any _ _ _ _ _ M).mono ?_
                  rintro e w3 ⟨rfl, rfl⟩
                  go_wp2_with fail
                  refine (peekCL _ _ _ _ _ M).mono ?_
                  rintro e w4 ⟨rfl, hb4⟩
                  have kg := blk_cell (blk_same hb4 hg2) i
                  rw [hcb] at kg
                  go_wp2_with fail
                  refine (Q.out w4 (blk_same hb4 hTb) (M.same hb4)).mono ?_
                  rintro e w5 ⟨rfl, TA, M5, hg5'⟩
                  have hTk := (hT.keep (fun b cs _ h => blk_same hb4 h)).step (M.same hb4) hbi hg5' hto TA
                  have G5 := hg5'.blk (blk_same hb4 hg2) (by simp [dgb, dgm, dgc])
                  have D5 := hg5'.blk (blk_same hb4 hD) (by simp [ddb, ddm, ddc])
                  have hB5 := (hB.trans (hb4.mono hB.size)).trans (hg5'.below (Nat.le_trans hB.size hb4.size) (by simp; exact hlow))
                  clear hT hTb hg2 hD hB hb4 hg5' M kg Q
                  go_wp2_with fail
                  refine (peekCL _ _ _ _ _ M5).mono ?_
                  rintro e w6 ⟨rfl, hb6⟩
                  have M6 := M5.same hb6
                  have D6 := blk_same hb6 D5
                  have G6 := blk_same hb6 G5
                  have TA6 := blk_same hb6 TA
                  have hT6 := hTk.keep (fun b cs _ h => blk_same hb6 h)
                  have hB6 := hB5.trans (hb6.mono hB5.size)
                  clear hb6 M5 D5 G5 hTk hB5 TA
                  have kd := blk_cell D6 i
                  rw [hdn0] at kd
                  have kf := blk_frozen D6 i
                  have kg := blk_cell G6 i
                  rw [hcb] at kg
                  have kt := HT.out w6 hB6
                  go_wp2_with (go_at_call 46; refine (accesses_any _ _ _ _ _ M6).mono ?_; rintro e w7 ⟨rfl, rfl⟩)
                  have D7 := blk_set D6 i (.bool false)
                  clear kd kf kg kt
                  go_roundw
                  case rel =>
                    refine ⟨q + 1, x, (acc + 1), S.set i ⟨0, seen, false⟩, by omega, by go_num, by simpa using hSl, hI', hL', hxt, by omega, by omega, ?_, ?_, ?_, ?_, hB6.setCell hdlow _⟩
                    · exact blk_set_other G6 (Ne.symm ddg) _ _
                    · simpa [List.map_set] using D7
                    · exact hT6.keep (fun b cs _ h => blk_set_other h (blk_ne h D6 (by decide)) _ _)
                    · exact M6.keep (S := [w9.heap.size]) ((Chg.refl _ _).setCell (.inl (by simp)) _) (by simp [Ne.symm ddm]) (by simp [Ne.symm ddc])
                  case measure => simp [intOf]; omega
            · have hdone := RLive.done (p := len) (by rw [show len + 30 * S.length = q by rw [hSl]; omega]; exact hL)
              obtain ⟨w10, rfl⟩ : ∃ w10 : World, w10 = wr := ⟨_, rfl⟩
              have hxw : (x == want) = true := by
                refine beq_iff_eq.2 ?_
                have h1 := hI.lo
                have h2 := hI.hi
                rcases hw3 with h3 | ⟨j, hj, h3⟩
                · omega
                · have hSj : S[j]? = some S[j] := List.getElem?_eq_getElem (by omega)
                  have hg := hI.each j S[j] (G j) hSj (by simp [hj])
                  have := hg.two (by have := hg.pc; have := hdone _ (List.getElem_mem (show j < S.length by omega)); omega)
                  omega
              clear hL hI
              go_wp2
              clear hlt
              go_loopw [20] (fun vm wr => ∃ m : Nat, m ≤ k ∧ vm = .int .i64 m ∧ wr = w10) (fun vm _ => k - (intOf vm).toNat)
              case atStart => exact ⟨0, by omega, rfl, rfl⟩
              case round =>
                obtain ⟨m, hm, rfl, rfl⟩ := hrel
                by_cases hlt : m < k
                · obtain ⟨s, hSm⟩ : ∃ s, S[m]? = some s := ⟨_, List.getElem?_eq_getElem (by omega)⟩
                  have kd := blk_cell hD m
                  have hdn0 : ((S.map (fun s => Value.bool (decide (2 ≤ s.pc)))).toArray)[m]? = some (.bool true) := by
                    have := hdone s (List.mem_of_getElem? hSm)
                    simp [hSm, this]
                  rw [hdn0] at kd
                  clear hdn0 hSm hdone
                  go_wp2
                  go_roundw
                  case rel => exact ⟨m + 1, by omega, by go_num, trivial⟩
                  case measure => simp [intOf]; omega
                · clear hdone
                  go_wp2_with fail
                  refine (peekCL _ _ _ _ _ M).mono ?_
                  rintro e w11 ⟨rfl, hb11⟩
                  go_wp2
                  go_ret
                  exact ⟨rfl, hB.trans (hb11.mono hB.size)⟩
end Go.Proofs.Ytfoojallpmibfaa
