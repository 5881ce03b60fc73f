/- The walk of AllocTakes. -/
import Derived.Test.YtfoojallpmibfaaAw5
import Derived.Test.YtfoojallpmibfaaLay
import Derived.Test.YtfoojallpmibfaaRowIn
import Derived.Deep.DeepCutAuto
namespace Go.Proofs.Ytfoojallpmibfaa
open Go.RowKit
set_option maxRecDepth 100000

theorem infoTakeP : (Try.prog.info? 53).map (fun i => (i.zero, i.size, i.bytes)) = some (some (.pointer none), 1, 8) := by kernel_rfl
theorem infoBool : (Try.prog.info? 4).map (fun i => (i.zero, i.size, i.bytes)) = some (some (.bool false), 1, 1) := by kernel_rfl

/-- What a slice of the call's own holds, once it is not empty. -/
theorem own_open {w : World} {B : Nat} {e : TypeId} {v : Value} {n : Nat} {xs : List Value} (h : w.ownsRow B e 1 v n xs) (hn : 0 < n) :
    ∃ (g cap : Nat) (cur : Array Value), v = .slice (some ⟨g, 0, none⟩) n cap ∧ B ≤ g ∧ w.heap[g]? = some (.cells cur e) ∧ n ≤ cap ∧ cap ≤ maxLen ∧ ∀ (j : Nat) (x : Value), xs[j]? = some x → cur[j]? = some x := by
  obtain ⟨_, h⟩ := h
  rcases h with ⟨_, h0⟩ | ⟨g, cap, cur, hv, hB, hc, h1, h2, _, h4⟩
  · omega
  · refine ⟨g, cap, cur, hv, hB, hc, h1, h2, fun j x hx => ?_⟩
    rw [← h4, List.getElem?_take] at hx
    split at hx
    · simpa using hx
    · cases hx

theorem own_block {w : World} {B : Nat} {e : TypeId} {v : Value} {n : Nat} {xs : List Value} (h : w.ownsRow B e 1 v n xs) : ∀ k, v.ownBlock = some k → B ≤ k ∧ ∃ cur, w.heap[k]? = some (.cells cur e) := by
  intro k hk
  obtain ⟨_, h⟩ := h
  rcases h with ⟨hv, _⟩ | ⟨g, cap, cur, hv, hB, hc, _⟩
  · rw [hv] at hk; cases hk
  · rw [hv] at hk
    simp only [Value.ownBlock, Option.some.injEq] at hk
    subst hk
    exact ⟨hB, cur, hc⟩

theorem nodup_inj {l : List Nat} (h : l.Nodup) : ∀ {i j x : Nat}, l[i]? = some x → l[j]? = some x → i = j := by
  induction l with
  | nil => intro i j x hi; simp at hi
  | cons a l ih =>
    intro i j x hi hj
    rw [List.nodup_cons] at h
    cases i with
    | zero =>
      cases j with
      | zero => rfl
      | succ j =>
        simp at hi hj
        subst hi
        exact absurd (List.mem_of_getElem? hj) h.1
    | succ i =>
      cases j with
      | zero =>
        simp at hi hj
        subst hj
        exact absurd (List.mem_of_getElem? hi) h.1
      | succ j => exact congrArg (· + 1) (ih h.2 (i := i) (j := j) (x := x) (by simpa using hi) (by simpa using hj))

theorem own_same {w w' : World} {B : Nat} {e : TypeId} {v : Value} {n : Nat} {xs : List Value} (h : w.ownsRow B e 1 v n xs) (hb : Below w.heap.size w w') : w'.ownsRow B e 1 v n xs := by
  obtain ⟨h1, h⟩ := h
  refine ⟨h1, ?_⟩
  rcases h with h | ⟨g, cap, cur, hv, hB, hc, r⟩
  · exact .inl h
  · exact .inr ⟨g, cap, cur, hv, hB, blk_same hb hc, r⟩

theorem peekCL (w : World) (bm bc : Nat) (x acc : Int) (M : MemAt w bm bc (CL x) acc) : Calls Try.prog 47 #[.pointer (some ⟨bm, 0, none⟩), .int .i64 0] w fun e w' => e = .returned (.agg #[.int .u64 x, .string ⟨#[]⟩, .int .u64 0]) ∧ Below w.heap.size w w' := peek_any w bm bc (CL x) acc 0 M

/-- The takers in a world: they stand in blocks of their own. -/
structure Takers (w : World) (B : Nat) (lim : Int) (bs : List Nat) (S : List TakeS) : Prop where
  len : bs.length = S.length
  nodup : bs.Nodup
  low : ∀ b, b ∈ bs → B ≤ b
  at_ : ∀ (j : Nat) (b : Nat) (s : TakeS), bs[j]? = some b → S[j]? = some s → TakeAt w b 0 lim s

theorem Takers.keep {w w' : World} {B : Nat} {lim : Int} {bs : List Nat} {S : List TakeS} (h : Takers w B lim bs S) (hk : ∀ b cs, b ∈ bs → w.heap[b]? = some (.cells cs 96) → w'.heap[b]? = some (.cells cs 96)) : Takers w' B lim bs S :=
  ⟨h.len, h.nodup, h.low, fun j b s hb hs => hk b _ (List.mem_of_getElem? hb) (h.at_ j b s hb hs)⟩

theorem Takers.lt {w : World} {B : Nat} {lim : Int} {bs : List Nat} {S : List TakeS} (h : Takers w B lim bs S) : ∀ b, b ∈ bs → b < w.heap.size := by
  intro b hb
  obtain ⟨j, hj⟩ := List.mem_iff_getElem?.1 hb
  have hjl : j < S.length := by have := (List.getElem?_eq_some_iff.1 hj).1; have e := h.len; omega
  exact blk_lt (h.at_ j b _ hj (List.getElem?_eq_getElem hjl))

theorem Takers.push {w : World} {B : Nat} {lim : Int} {bs : List Nat} {S : List TakeS} (h : Takers w B lim bs S) {b : Nat} {s : TakeS} (hb : TakeAt w b 0 lim s) (hB : B ≤ b) (hn : b ∉ bs) : Takers w B lim (bs ++ [b]) (S ++ [s]) := by
  refine ⟨by simp [h.len], ?_, fun x hx => ?_, fun j x y hx hy => ?_⟩
  · refine List.pairwise_append.2 ⟨h.nodup, by simp, fun x hx c hc => ?_⟩
    simp at hc
    subst hc
    intro e
    subst e
    exact hn hx
  · rcases List.mem_append.1 hx with hx | hx
    · exact h.low x hx
    · simp at hx; subst hx; exact hB
  · rcases Nat.lt_or_ge j bs.length with hj | hj
    · rw [List.getElem?_append_left hj] at hx
      rw [List.getElem?_append_left (by rw [← h.len]; exact hj)] at hy
      exact h.at_ j x y hx hy
    · rw [List.getElem?_append_right hj] at hx
      rw [List.getElem?_append_right (by rw [← h.len]; exact hj), ← h.len] at hy
      have h0 : j - bs.length = 0 := by
        have := (List.getElem?_eq_some_iff.1 hx).1
        simp at this
        omega
      rw [h0] at hx hy
      simp at hx hy
      subst hx hy
      exact hb

/-- One taker has made a step. -/
theorem Takers.step {w w' : World} {B bm bc : Nat} {lim acc : Int} {bs : List Nat} {S : List TakeS} {L : List Cel} {i b : Nat} {s' : TakeS} (h : Takers w B lim bs S) (M : MemAt w bm bc L acc) (hi : bs[i]? = some b) (hg : Chg [b, bm, bc] w w') (hb : TakeAt w' b 0 lim s') : Takers w' B lim bs (S.set i s') := by
  refine ⟨by simp [h.len], h.nodup, h.low, fun j x y hx hy => ?_⟩
  rw [List.getElem?_set] at hy
  by_cases hij : i = j
  · subst hij
    rw [hi] at hx
    simp only [Option.some.injEq] at hx
    subst hx
    rw [if_pos rfl] at hy
    split at hy
    · simp only [Option.some.injEq] at hy; subst hy; exact hb
    · cases hy
  · rw [if_neg hij] at hy
    have hT := h.at_ j x y hx hy
    refine hg.blk hT ?_
    simp only [List.mem_cons, List.not_mem_nil, or_false, not_or]
    refine ⟨fun e => hij ?_, blk_ne hT M.hm (by decide), blk_ne hT M.hc (by decide)⟩
    subst e
    exact nodup_inj h.nodup hi hx

set_option maxHeartbeats 2000000 in
theorem allocTakes_walk (machines limit first : Int) (a : Option Addr) (len cap : Nat) (P : Nat → Int) (hl : 0 ≤ limit ∧ limit < 256) (hf : 0 ≤ first ∧ first < 256) (w : World) (hrow : RowIn .u8 w a len P) :
    Calls Try.prog 6 #[.int .i64 machines, .int .u8 limit, .int .u8 first, .slice a len cap] w fun e w' => e = .returned (.bool true) ∧ Below w.heap.size w w' := by
  obtain ⟨r, hmod, hr0, hr1⟩ : ∃ r : Int, (∀ w, Calls Try.prog 17 #[.int .i64 machines, .int .i64 6] w fun e w' => e = .returned (.int .i64 r) ∧ w = w') ∧ 0 ≤ r ∧ r ≤ 5 := ⟨machines % 6, mod_any machines 6 (by omega) (by omega), by omega, by omega⟩
  have hlen := hrow.1
  unfold maxLen at hlen
  by_cases h100 : 100 < len
  · go_enter Try.func6, Try.ntmps6
    go_wp2_with fail
    refine (hmod _).mono ?_
    rintro e w0 ⟨rfl, rfl⟩
    go_wp2_with fail
    refine (memNew_any _ 1 (by omega) (by omega)).mono ?_
    rintro e w1 ⟨rfl, M1, hb1, hs1⟩
    go_wp2_with fail
    refine (awake5_any _).mono ?_
    rintro e w2 ⟨rfl, hb2⟩
    go_wp2_with fail
    refine (awake5_any _).mono ?_
    rintro e w3 ⟨rfl, hb3⟩
    go_wp2
    go_ret
    exact ⟨rfl, (hb1.trans (hb2.mono hb1.size)).trans (hb3.mono (Nat.le_trans hb1.size hb2.size))⟩
  · have h100' : len ≤ 100 := by omega
    clear h100
    go_enter Try.func6, Try.ntmps6
    go_wp2_with fail
    refine (hmod _).mono ?_
    rintro e w0 ⟨rfl, rfl⟩
    go_wp2_with fail
    refine (memNew_any _ 1 (by omega) (by omega)).mono ?_
    rintro e w1 ⟨rfl, M1, hb1, hs1⟩
    go_wp2_with fail
    refine (awake5_any _).mono ?_
    rintro e w2 ⟨rfl, hb2⟩
    have M2 := M1.same hb2
    have hB2 := hb1.trans (hb2.mono hb1.size)
    clear hb1 hb2 M1 hs1
    obtain ⟨fi, hfi⟩ : ∃ fi : Int, fi = first % 4 := ⟨_, rfl⟩
    obtain ⟨lm, hlm⟩ : ∃ lm : Int, lm = limit % 8 := ⟨_, rfl⟩
    have f1 : 0 ≤ fi ∧ fi ≤ 3 := by omega
    have l1 : 0 ≤ lm ∧ lm ≤ 7 := by omega
    obtain ⟨f1, f2⟩ := f1
    obtain ⟨l1, l2⟩ := l1
    have Hfi := Lib.hid hfi
    have Hlm := Lib.hid hlm
    clear hfi hlm
    go_wp2_with fail
    rw [← Hfi.out, ← Hlm.out]
    refine (poke_any _ _ _ _ _ 0 ⟨fi, ⟨#[]⟩, 0⟩ M2).mono ?_
    rintro e w3 ⟨rfl, M3, hg3⟩
    have hB3 := hB2.trans (hg3.below hB2.size (by simp))
    clear M2 hB2 hg3 Hfi Hlm hmod
    generalize hN : (1 + r) = N at *
    obtain ⟨n, rfl⟩ := Int.eq_ofNat_of_zero_le (show 0 ≤ N by omega)
    have n1 : 1 ≤ n := by omega
    have n2 : n ≤ 6 := by omega
    clear hN hr0 hr1
    have M3' : MemAt w3 (w.heap.size + 1) w.heap.size (CL fi) 0 := M3
    clear M3
    obtain ⟨i0, hi0, hz0, hz1, hz2⟩ := info_parts infoTakeP
    go_wp2
    go_loopw [14, 15] (fun vt vk wr => ∃ (k : Nat) (bs : List Nat), k ≤ n ∧ vk = .int .i64 k ∧ bs.length = k ∧ wr.ownsRow w.heap.size 53 1 vt k (bs.map (fun b => .pointer (some ⟨b, 0, none⟩))) ∧ Takers wr w.heap.size lm bs (List.replicate k ⟨0, 0, false⟩) ∧ MemAt wr (w.heap.size + 1) w.heap.size (CL fi) 0 ∧ Below w.heap.size w wr) (fun _ vk _ => n - (intOf vk).toNat)
    case atStart =>
      exact ⟨0, [], by omega, rfl, rfl, ⟨by simp, .inl ⟨rfl, rfl⟩⟩, ⟨rfl, by simp, by simp, by simp⟩, M3', hB3⟩
    case round =>
      clear M3' hB3
      obtain ⟨k, bs, hk, rfl, hbl, hown, hT, M, hB⟩ := hrel
      by_cases hlt : k < n
      · go_wp2_with fail
        refine (newTake_any _ 0 lm).mono ?_
        rintro e w5 ⟨rfl, TA, hb, hz⟩
        have hown5 := own_same hown hb
        have hT5 : Takers w5 w.heap.size lm bs (List.replicate k ⟨0, 0, false⟩) := hT.keep (fun b cs _ h => blk_same hb h)
        have M5 := M.same hb
        have hB5 := hB.trans (hb.mono hB.size)
        have hnew : ∀ b, b ∈ bs → b ≠ wr.heap.size := fun b hb' => Nat.ne_of_lt (hT.lt b hb')
        have hsz := hB.size
        clear hown hT M hB hb
        have hal := Below.alloc (Below.refl w5.heap.size w5) (Nat.le_refl _) (.cells #[.pointer (some ⟨wr.heap.size, 0, none⟩)] 53)
        have hown6 := own_same hown5 hal
        go_wp2_with (at_builtin; refine wpList_append_own _ rfl _ _ 52 rfl w.heap.size 53 i0 (.pointer none) 1 8 Try.underlying52 hi0 hz0 hz1 hz2 rfl (by decide) _ k _ rfl hown6 ⟨w5.heap.size, 0, none⟩ 1 1 [.pointer (some ⟨wr.heap.size, 0, none⟩)] rfl rfl ?c1 ?c2 ?c3 ?c4 ?c5 ?_)
        case c1 => exact cell_one_new _ _ _
        case c2 => intro u hu; simp at hu; subst hu; rfl
        case c3 => unfold maxLen; omega
        case c4 => omega
        case c5 => rw [World.size_alloc]; omega
        intro v' w' hown' hgrow _
        have hkeep : ∀ (b : Nat) (cs : Array Value) (T : TypeId), T ≠ 53 → w5.heap[b]? = some (.cells cs T) → w'.heap[b]? = some (.cells cs T) := by
          intro b cs T hT hb
          have hb' := blk_old hb (.cells #[.pointer (some ⟨wr.heap.size, 0, none⟩)] 53)
          rw [hgrow.block b (blk_lt hb') (fun e => ?_)]
          · exact hb'
          · obtain ⟨_, cur, hcur⟩ := own_block hown6 b e.symm
            exact blk_ne hb' hcur hT rfl
        have hT' : Takers w' w.heap.size lm (bs ++ [wr.heap.size]) (List.replicate (k + 1) ⟨0, 0, false⟩) := by
          have := (hT5.keep (fun b cs _ h => hkeep b cs _ (by decide) h)).push (hkeep _ _ _ (by decide) TA) hsz (fun hm => hnew _ hm rfl)
          rwa [← List.replicate_succ'] at this
        have M' : MemAt w' (w.heap.size + 1) w.heap.size (CL fi) 0 := ⟨hkeep _ _ _ (by decide) M5.hm, hkeep _ _ _ (by decide) M5.hc, M5.ne, M5.len⟩
        have hB' : Below w.heap.size w w' := (hB5.alloc hB5.size _).grown hgrow (by rw [World.size_alloc]; have := hB5.size; omega) (fun q hq => (own_block hown6 q hq).1)
        clear hT5 M5 hB5 hown5 hown6 hgrow hkeep hal hnew hsz TA hz
        go_wp2
        go_roundw
        case rel => exact ⟨k + 1, bs ++ [wr.heap.size], by omega, by go_num, by simp [hbl], by simpa using hown', hT', M', hB'⟩
        case measure => simp [intOf]; omega
      · obtain rfl : k = n := by omega
        obtain ⟨w9, rfl⟩ : ∃ w9 : World, w9 = wr := ⟨_, rfl⟩
        obtain ⟨g, capg, cur, rfl, hg1, hg2, hg3, hg4, hg5⟩ := own_open hown (by omega)
        clear hown
        have hmk : ∀ w, (Instr.makeSlice 43 (.int .i64 k) (.int .i64 k)).run Try.prog w = .ok (.slice (some ⟨w.heap.size, 0, none⟩) k k) (w.alloc (.cells (List.replicate k (.bool false)).toArray 4)) := by
          intro w
          obtain ⟨i, hi, hz, h3, hby⟩ := info_parts infoBool
          have := run_make w 43 4 i _ Try.underlying43 hi hz .i64 .i64 (k : Int) k (by omega) (by omega) (by rw [hby]; omega) (by omega)
          rw [this, h3, Int.toNat_natCast, Nat.mul_one, show (Value.bool false).cells = #[.bool false] from rfl]
          have e : madeCells #[.bool false] k = (List.replicate k (.bool false)).toArray := by
            rw [← toList_madeCells_one]
          rw [e]
        clear hi0 hz0 hz1 hz2
        have hD0 := blk_alloc w9 (.cells (Array.replicate k (.bool false)) 4)
        have hT0 := hT.keep (fun b cs _ h => blk_old h (.cells (Array.replicate k (.bool false)) 4))
        have M0 := M.alloc (.cells (Array.replicate k (.bool false)) 4)
        have hG0 := blk_old hg2 (.cells (Array.replicate k (.bool false)) 4)
        have hB0 := hB.alloc hB.size (.cells (Array.replicate k (.bool false)) 4)
        have hdlow := hB.size
        have hn0 : ((k : Int) == 0) = false := by simp; omega
        clear hT M hg2 hB hk hlt
        go_wp2
        clear hmk
        go_loopw [17] (fun vk wr => ∃ (q : Nat) (x acc : Int) (S : List TakeS), q ≤ len + 30 * k ∧ vk = .int .i64 q ∧ S.length = k ∧ TInv fi lm x S ∧ TLive len q x S ∧ 0 ≤ acc ∧ acc ≤ q ∧ wr.heap[g]? = some (.cells cur 53) ∧ wr.heap[w9.heap.size]? = some (.cells (S.map (fun s => Value.bool (decide (2 ≤ s.pc)))).toArray 4) ∧ Takers wr w.heap.size lm bs S ∧ MemAt wr (w.heap.size + 1) w.heap.size (CL x) acc ∧ Below w.heap.size w wr) (fun vk _ => len + 30 * k - (intOf vk).toNat)
        case atStart =>
          refine ⟨0, fi, 0, List.replicate k ⟨0, 0, false⟩, by omega, rfl, by simp, ⟨?_, by omega, ?_, ?_⟩, TLive.start (by simp; omega), by omega, by omega, hG0, ?_, hT0, M0, hB0⟩
          · simp [oks, List.countP_replicate]
          · intro s hs
            rw [List.eq_of_mem_replicate hs]
            exact ⟨by simp, fun h => (by simp at h), fun h => (by simp at h), fun h => (by simp at h)⟩
          · right; simp [oks, List.countP_replicate]
          · simpa using hD0
        case round =>
          clear hT0 M0 hG0 hB0 hD0
          obtain ⟨q, x, acc, S, hq, rfl, hSl, hI, hL, ha0, ha1, hg2, hD, hT, M, hB⟩ := hrel
          by_cases hlt : q < len + 30 * k
          · go_upto_if 93 with (fail)
            go_cut [18] (fun v wx => ∃ i : Nat, i < k ∧ (len ≤ q → q % k = i) ∧ v = .int .i64 i ∧ wx = wr)
            case first =>
              by_cases hqp : q < len
              · obtain ⟨b, off, rfl, _, hpc, hpw⟩ := (hrow.keep hB).2 q hqp
                obtain ⟨p0, p1⟩ := bounds_u8 hpw
                go_wp2
                go_meet
                exact ⟨(P q % k).toNat, by have := Int.emod_lt_of_pos (P q) (show (0 : Int) < k by omega); omega, fun h => by omega, by rw [Int.toNat_of_nonneg (Int.emod_nonneg _ (by omega))], rfl⟩
              · go_wp2
                go_meet
                exact ⟨q % k, Nat.mod_lt _ (by omega), fun _ => rfl, by simp, rfl⟩
            case rest =>
              obtain ⟨i, hi, hturn, rfl, rfl⟩ := hcut
              obtain ⟨s, hSi⟩ : ∃ s, S[i]? = some s := ⟨_, List.getElem?_eq_getElem (by omega)⟩
              obtain ⟨b, hbi⟩ : ∃ b, bs[i]? = some b := ⟨_, List.getElem?_eq_getElem (by omega)⟩
              have hcb : cur[i]? = some (.pointer (some ⟨b, 0, none⟩)) := hg5 i _ (by simp [hbi])
              have hTb := hT.at_ i b s hbi hSi
              have dgb := blk_ne hg2 hTb (by decide)
              have dgm := blk_ne hg2 M.hm (by decide)
              have dgc := blk_ne hg2 M.hc (by decide)
              have ddb := blk_ne hD hTb (by decide)
              have ddm := blk_ne hD M.hm (by decide)
              have ddc := blk_ne hD M.hc (by decide)
              have ddg := blk_ne hD hg2 (by decide)
              have dbm := blk_ne hTb M.hm (by decide)
              have dbc := blk_ne hTb M.hc (by decide)
              have hlow := hT.low b (List.mem_of_getElem? hbi)
              have hgood := hI.each s (List.mem_of_getElem? hSi)
              have hx0 : 0 ≤ x ∧ x ≤ 9 := by have h1 := hI.val; have h2 : oks S ≤ S.length := List.countP_le_length; omega
              obtain ⟨hx0, hx1⟩ := hx0
              obtain ⟨s', x', e, hst⟩ := takeStep_CL lm x s
              have q5 := fun w' (hT' : TakeAt w' b 0 lm s) (M' : MemAt w' (w.heap.size + 1) w.heap.size (CL x) acc) => take_step w' b (w.heap.size + 1) w.heap.size 0 lm acc s (CL x) hT' M' dbm dbc ha0 (by omega) (fun h => by have := hgood.one h; omega)
              obtain ⟨pc, seen, ok⟩ := s
              have hI' := hI.step hSi hst
              have hL' := hL.step (by omega) hSi hst (by rw [hSl]; exact hturn)
              clear hI hL
              cases hst with
              | rest h =>
                have h2 := hgood.pc
                obtain rfl : pc = 2 := by have h3 : pc ≤ 2 := h2; have h4 : 2 ≤ pc := h; omega
                rw [e] at q5
                have Q := Lib.hid q5
                clear q5 e
                have hdn0 : ((S.map (fun s => Value.bool (decide (2 ≤ s.pc)))).toArray)[i]? = some (.bool true) := by simp [hSi]
                go_wp2_with fail
                refine (accesses_any _ _ _ _ _ M).mono ?_
                rintro e w3 ⟨rfl, rfl⟩
                go_wp2_with fail
                refine (peekCL _ _ _ _ _ M).mono ?_
                rintro e w4 ⟨rfl, hb4⟩
                have kg := blk_cell (blk_same hb4 hg2) i
                rw [hcb] at kg
                go_wp2_with fail
                refine (Q.out w4 (blk_same hb4 hTb) (M.same hb4)).mono ?_
                rintro e w5 ⟨rfl, TA, M5, hg5'⟩
                have hTk := (hT.keep (fun b cs _ h => blk_same hb4 h)).step (M.same hb4) hbi hg5' TA
                have G5 := hg5'.blk (blk_same hb4 hg2) (by simp [dgb, dgm, dgc])
                have D5 := hg5'.blk (blk_same hb4 hD) (by simp [ddb, ddm, ddc])
                have hB5 := (hB.trans (hb4.mono hB.size)).trans (hg5'.below (Nat.le_trans hB.size hb4.size) (by simp; exact hlow))
                clear hT hTb hg2 hD hB hb4 hg5' M kg Q
                go_wp2_with fail
                refine (peekCL _ _ _ _ _ M5).mono ?_
                rintro e w6 ⟨rfl, hb6⟩
                have M6 := M5.same hb6
                have D6 := blk_same hb6 D5
                have G6 := blk_same hb6 G5
                have TA6 := blk_same hb6 TA
                have hT6 := hTk.keep (fun b cs _ h => blk_same hb6 h)
                have hB6 := hB5.trans (hb6.mono hB5.size)
                clear hb6 M5 D5 G5 hTk hB5 TA
                have kd := blk_cell D6 i
                rw [hdn0] at kd
                have kf := blk_frozen D6 i
                have kg := blk_cell G6 i
                rw [hcb] at kg
                go_wp2_with (go_at_call 46; refine (accesses_any _ _ _ _ _ M6).mono ?_; rintro e w7 ⟨rfl, rfl⟩)
                have D7 := blk_set D6 i (.bool true)
                clear kd kf kg
                go_roundw
                case rel =>
                  refine ⟨q + 1, x, acc, S.set i ⟨2, seen, ok⟩, by omega, by go_num, by simpa using hSl, hI', hL', by omega, by omega, ?_, ?_, ?_, ?_, hB6.setCell hdlow _⟩
                  · exact blk_set_other G6 (Ne.symm ddg) _ _
                  · simpa [List.map_set] using D7
                  · exact hT6.keep (fun b cs _ h => blk_set_other h (blk_ne h D6 (by decide)) _ _)
                  · exact M6.keep (S := [w9.heap.size]) ((Chg.refl _ _).setCell (.inl (by simp)) _) (by simp [Ne.symm ddm]) (by simp [Ne.symm ddc])
                case measure => simp [intOf]; omega
              | full h hx =>
                obtain rfl : pc = 0 := h
                have hxx : (x == x + 1) = false := beq_eq_false_iff_ne.2 (by omega)
                obtain rfl : ok = false := by
                  cases ok with
                  | false => rfl
                  | true => have h9 := (hgood.ok rfl).1; simp at h9
                rw [e] at q5
                have Q := Lib.hid q5
                clear q5 e
                have hdn0 : ((S.map (fun s => Value.bool (decide (2 ≤ s.pc)))).toArray)[i]? = some (.bool false) := by simp [hSi]
                go_wp2_with fail
                refine (accesses_any _ _ _ _ _ M).mono ?_
                rintro e w3 ⟨rfl, rfl⟩
                go_wp2_with fail
                refine (peekCL _ _ _ _ _ M).mono ?_
                rintro e w4 ⟨rfl, hb4⟩
                have kg := blk_cell (blk_same hb4 hg2) i
                rw [hcb] at kg
                go_wp2_with fail
                refine (Q.out w4 (blk_same hb4 hTb) (M.same hb4)).mono ?_
                rintro e w5 ⟨rfl, TA, M5, hg5'⟩
                have hTk := (hT.keep (fun b cs _ h => blk_same hb4 h)).step (M.same hb4) hbi hg5' TA
                have G5 := hg5'.blk (blk_same hb4 hg2) (by simp [dgb, dgm, dgc])
                have D5 := hg5'.blk (blk_same hb4 hD) (by simp [ddb, ddm, ddc])
                have hB5 := (hB.trans (hb4.mono hB.size)).trans (hg5'.below (Nat.le_trans hB.size hb4.size) (by simp; exact hlow))
                clear hT hTb hg2 hD hB hb4 hg5' M kg Q
                go_wp2_with fail
                refine (peekCL _ _ _ _ _ M5).mono ?_
                rintro e w6 ⟨rfl, hb6⟩
                have M6 := M5.same hb6
                have D6 := blk_same hb6 D5
                have G6 := blk_same hb6 G5
                have TA6 := blk_same hb6 TA
                have hT6 := hTk.keep (fun b cs _ h => blk_same hb6 h)
                have hB6 := hB5.trans (hb6.mono hB5.size)
                clear hb6 M5 D5 G5 hTk hB5 TA
                have kd := blk_cell D6 i
                rw [hdn0] at kd
                have kf := blk_frozen D6 i
                have kg := blk_cell G6 i
                rw [hcb] at kg
                go_wp2_with (first | (go_at_call 46; refine (accesses_any _ _ _ _ _ M6).mono ?_; rintro e w7 ⟨rfl, rfl⟩) | (go_at_call 49; refine (takeNumber_any _ _ 0 lm ⟨2, x, false⟩ TA6 (by simp)).mono ?_; rintro e w7 ⟨rfl, rfl⟩))
                have D7 := blk_set D6 i (.bool true)
                clear kd kf kg
                go_roundw
                case rel =>
                  refine ⟨q + 1, x, (acc + 1), S.set i ⟨2, x, false⟩, by omega, by go_num, by simpa using hSl, hI', hL', by omega, by omega, ?_, ?_, ?_, ?_, hB6.setCell hdlow _⟩
                  · exact blk_set_other G6 (Ne.symm ddg) _ _
                  · simpa [List.map_set] using D7
                  · exact hT6.keep (fun b cs _ h => blk_set_other h (blk_ne h D6 (by decide)) _ _)
                  · exact M6.keep (S := [w9.heap.size]) ((Chg.refl _ _).setCell (.inl (by simp)) _) (by simp [Ne.symm ddm]) (by simp [Ne.symm ddc])
                case measure => simp [intOf]; omega
              | look h hx =>
                obtain rfl : pc = 0 := h
                obtain rfl : ok = false := by
                  cases ok with
                  | false => rfl
                  | true => have h9 := (hgood.ok rfl).1; simp at h9
                rw [e] at q5
                have Q := Lib.hid q5
                clear q5 e
                have hdn0 : ((S.map (fun s => Value.bool (decide (2 ≤ s.pc)))).toArray)[i]? = some (.bool false) := by simp [hSi]
                go_wp2_with fail
                refine (accesses_any _ _ _ _ _ M).mono ?_
                rintro e w3 ⟨rfl, rfl⟩
                go_wp2_with fail
                refine (peekCL _ _ _ _ _ M).mono ?_
                rintro e w4 ⟨rfl, hb4⟩
                have kg := blk_cell (blk_same hb4 hg2) i
                rw [hcb] at kg
                go_wp2_with fail
                refine (Q.out w4 (blk_same hb4 hTb) (M.same hb4)).mono ?_
                rintro e w5 ⟨rfl, TA, M5, hg5'⟩
                have hTk := (hT.keep (fun b cs _ h => blk_same hb4 h)).step (M.same hb4) hbi hg5' TA
                have G5 := hg5'.blk (blk_same hb4 hg2) (by simp [dgb, dgm, dgc])
                have D5 := hg5'.blk (blk_same hb4 hD) (by simp [ddb, ddm, ddc])
                have hB5 := (hB.trans (hb4.mono hB.size)).trans (hg5'.below (Nat.le_trans hB.size hb4.size) (by simp; exact hlow))
                clear hT hTb hg2 hD hB hb4 hg5' M kg Q
                go_wp2_with fail
                refine (peekCL _ _ _ _ _ M5).mono ?_
                rintro e w6 ⟨rfl, hb6⟩
                have M6 := M5.same hb6
                have D6 := blk_same hb6 D5
                have G6 := blk_same hb6 G5
                have TA6 := blk_same hb6 TA
                have hT6 := hTk.keep (fun b cs _ h => blk_same hb6 h)
                have hB6 := hB5.trans (hb6.mono hB5.size)
                clear hb6 M5 D5 G5 hTk hB5 TA
                have kd := blk_cell D6 i
                rw [hdn0] at kd
                have kf := blk_frozen D6 i
                have kg := blk_cell G6 i
                rw [hcb] at kg
                go_wp2_with (go_at_call 46; refine (accesses_any _ _ _ _ _ M6).mono ?_; rintro e w7 ⟨rfl, rfl⟩)
                have D7 := blk_set D6 i (.bool false)
                clear kd kf kg
                go_roundw
                case rel =>
                  refine ⟨q + 1, x, (acc + 1), S.set i ⟨1, x, false⟩, by omega, by go_num, by simpa using hSl, hI', hL', by omega, by omega, ?_, ?_, ?_, ?_, hB6.setCell hdlow _⟩
                  · exact blk_set_other G6 (Ne.symm ddg) _ _
                  · simpa [List.map_set] using D7
                  · exact hT6.keep (fun b cs _ h => blk_set_other h (blk_ne h D6 (by decide)) _ _)
                  · exact M6.keep (S := [w9.heap.size]) ((Chg.refl _ _).setCell (.inl (by simp)) _) (by simp [Ne.symm ddm]) (by simp [Ne.symm ddc])
                case measure => simp [intOf]; omega
              | took h hx =>
                obtain rfl : pc = 1 := h
                obtain rfl : ok = false := by
                  cases ok with
                  | false => rfl
                  | true => have h9 := (hgood.ok rfl).1; simp at h9
                obtain rfl : x = seen := hx
                rw [e] at q5
                have Q := Lib.hid q5
                clear q5 e
                have hdn0 : ((S.map (fun s => Value.bool (decide (2 ≤ s.pc)))).toArray)[i]? = some (.bool false) := by simp [hSi]
                go_wp2_with fail
                refine (accesses_any _ _ _ _ _ M).mono ?_
                rintro e w3 ⟨rfl, rfl⟩
                go_wp2_with fail
                refine (peekCL _ _ _ _ _ M).mono ?_
                rintro e w4 ⟨rfl, hb4⟩
                have kg := blk_cell (blk_same hb4 hg2) i
                rw [hcb] at kg
                go_wp2_with fail
                refine (Q.out w4 (blk_same hb4 hTb) (M.same hb4)).mono ?_
                rintro e w5 ⟨rfl, TA, M5, hg5'⟩
                have hTk := (hT.keep (fun b cs _ h => blk_same hb4 h)).step (M.same hb4) hbi hg5' TA
                have G5 := hg5'.blk (blk_same hb4 hg2) (by simp [dgb, dgm, dgc])
                have D5 := hg5'.blk (blk_same hb4 hD) (by simp [ddb, ddm, ddc])
                have hB5 := (hB.trans (hb4.mono hB.size)).trans (hg5'.below (Nat.le_trans hB.size hb4.size) (by simp; exact hlow))
                clear hT hTb hg2 hD hB hb4 hg5' M kg Q
                go_wp2_with fail
                refine (peekCL _ _ _ _ _ M5).mono ?_
                rintro e w6 ⟨rfl, hb6⟩
                have M6 := M5.same hb6
                have D6 := blk_same hb6 D5
                have G6 := blk_same hb6 G5
                have TA6 := blk_same hb6 TA
                have hT6 := hTk.keep (fun b cs _ h => blk_same hb6 h)
                have hB6 := hB5.trans (hb6.mono hB5.size)
                clear hb6 M5 D5 G5 hTk hB5 TA
                have kd := blk_cell D6 i
                rw [hdn0] at kd
                have kf := blk_frozen D6 i
                have kg := blk_cell G6 i
                rw [hcb] at kg
                go_wp2_with (first | (go_at_call 46; refine (accesses_any _ _ _ _ _ M6).mono ?_; rintro e w7 ⟨rfl, rfl⟩) | (go_at_call 49; refine (takeNumber_any _ _ 0 lm ⟨2, x, true⟩ TA6 (by simp; omega)).mono ?_; rintro e w7 ⟨rfl, rfl⟩))
                have D7 := blk_set D6 i (.bool true)
                clear kd kf kg
                go_roundw
                case rel =>
                  refine ⟨q + 1, (x + 1), (acc + 1), S.set i ⟨2, x, true⟩, by omega, by go_num, by simpa using hSl, hI', hL', by omega, by omega, ?_, ?_, ?_, ?_, hB6.setCell hdlow _⟩
                  · exact blk_set_other G6 (Ne.symm ddg) _ _
                  · simpa [List.map_set] using D7
                  · exact hT6.keep (fun b cs _ h => blk_set_other h (blk_ne h D6 (by decide)) _ _)
                  · exact M6.keep (S := [w9.heap.size]) ((Chg.refl _ _).setCell (.inl (by simp)) _) (by simp [Ne.symm ddm]) (by simp [Ne.symm ddc])
                case measure => simp [intOf]; omega
              | lost h hx =>
                obtain rfl : pc = 1 := h
                obtain rfl : ok = false := by
                  cases ok with
                  | false => rfl
                  | true => have h9 := (hgood.ok rfl).1; simp at h9
                rw [e] at q5
                have Q := Lib.hid q5
                clear q5 e
                have hdn0 : ((S.map (fun s => Value.bool (decide (2 ≤ s.pc)))).toArray)[i]? = some (.bool false) := by simp [hSi]
                go_wp2_with fail
                refine (accesses_any _ _ _ _ _ M).mono ?_
                rintro e w3 ⟨rfl, rfl⟩
                go_wp2_with fail
                refine (peekCL _ _ _ _ _ M).mono ?_
                rintro e w4 ⟨rfl, hb4⟩
                have kg := blk_cell (blk_same hb4 hg2) i
                rw [hcb] at kg
                go_wp2_with fail
                refine (Q.out w4 (blk_same hb4 hTb) (M.same hb4)).mono ?_
                rintro e w5 ⟨rfl, TA, M5, hg5'⟩
                have hTk := (hT.keep (fun b cs _ h => blk_same hb4 h)).step (M.same hb4) hbi hg5' TA
                have G5 := hg5'.blk (blk_same hb4 hg2) (by simp [dgb, dgm, dgc])
                have D5 := hg5'.blk (blk_same hb4 hD) (by simp [ddb, ddm, ddc])
                have hB5 := (hB.trans (hb4.mono hB.size)).trans (hg5'.below (Nat.le_trans hB.size hb4.size) (by simp; exact hlow))
                clear hT hTb hg2 hD hB hb4 hg5' M kg Q
                go_wp2_with fail
                refine (peekCL _ _ _ _ _ M5).mono ?_
                rintro e w6 ⟨rfl, hb6⟩
                have M6 := M5.same hb6
                have D6 := blk_same hb6 D5
                have G6 := blk_same hb6 G5
                have TA6 := blk_same hb6 TA
                have hT6 := hTk.keep (fun b cs _ h => blk_same hb6 h)
                have hB6 := hB5.trans (hb6.mono hB5.size)
                clear hb6 M5 D5 G5 hTk hB5 TA
                have kd := blk_cell D6 i
                rw [hdn0] at kd
                have kf := blk_frozen D6 i
                have kg := blk_cell G6 i
                rw [hcb] at kg
                go_wp2_with (go_at_call 46; refine (accesses_any _ _ _ _ _ M6).mono ?_; rintro e w7 ⟨rfl, rfl⟩)
                have D7 := blk_set D6 i (.bool false)
                clear kd kf kg
                go_roundw
                case rel =>
                  refine ⟨q + 1, x, (acc + 1), S.set i ⟨0, seen, false⟩, by omega, by go_num, by simpa using hSl, hI', hL', by omega, by omega, ?_, ?_, ?_, ?_, hB6.setCell hdlow _⟩
                  · exact blk_set_other G6 (Ne.symm ddg) _ _
                  · simpa [List.map_set] using D7
                  · exact hT6.keep (fun b cs _ h => blk_set_other h (blk_ne h D6 (by decide)) _ _)
                  · exact M6.keep (S := [w9.heap.size]) ((Chg.refl _ _).setCell (.inl (by simp)) _) (by simp [Ne.symm ddm]) (by simp [Ne.symm ddc])
                case measure => simp [intOf]; omega
          · have hdone := TLive.done (p := len) (by rw [show len + 30 * S.length = q by rw [hSl]; omega]; exact hL)
            obtain ⟨w10, rfl⟩ : ∃ w10 : World, w10 = wr := ⟨_, rfl⟩
            have hval := hI.val
            have htop := hI.top
            have hTk : oks S ≤ S.length := List.countP_le_length
            have hfull : oks S = S.length ∨ lm ≤ x := by
              by_cases hall : ∀ s, s ∈ S → s.ok = true
              · left; exact List.countP_eq_length.2 hall
              · right
                obtain ⟨s, hs⟩ := Classical.not_forall.1 hall
                obtain ⟨hsS, hso⟩ := Classical.not_imp.1 hs
                have hg := hI.each s hsS
                exact hg.two (by have := hg.pc; have := hdone s hsS; omega) (by simpa using hso)
            have hgood : ∀ s, s ∈ S → s.ok = true → 0 ≤ s.seen ∧ s.seen < 18446744073709551615 := fun s hs ho => by
              have := (hI.each s hs).ok ho
              omega
            clear hL hI
            go_wp2
            clear hlt
            go_loopw [25, 26] (fun vt vm wr => ∃ m : Nat, m ≤ k ∧ vm = .int .i64 m ∧ vt = .int .u64 (oks (S.take m)) ∧ wr = w10) (fun _ vm _ => k - (intOf vm).toNat)
            case atStart => exact ⟨0, by omega, rfl, by simp [oks], rfl⟩
            case round =>
              obtain ⟨m, hm, rfl, rfl, rfl⟩ := hrel
              by_cases hlt : m < k
              · obtain ⟨s, hSm⟩ : ∃ s, S[m]? = some s := ⟨_, List.getElem?_eq_getElem (by omega)⟩
                obtain ⟨b, hbm⟩ : ∃ b, bs[m]? = some b := ⟨_, List.getElem?_eq_getElem (by omega)⟩
                have hcb : cur[m]? = some (.pointer (some ⟨b, 0, none⟩)) := hg5 m _ (by simp [hbm])
                have hTb := hT.at_ m b s hbm hSm
                have kd := blk_cell hD m
                have hdn0 : ((S.map (fun s => Value.bool (decide (2 ≤ s.pc)))).toArray)[m]? = some (.bool true) := by
                  have := hdone s (List.mem_of_getElem? hSm)
                  simp [hSm, this]
                rw [hdn0] at kd
                have kg := blk_cell hg2 m
                rw [hcb] at kg
                have hnext : oks (S.take (m + 1)) = oks (S.take m) + if s.ok then 1 else 0 := by
                  unfold oks
                  rw [List.take_add_one, hSm, List.countP_append]
                  simp [List.countP_cons]
                have ht7 : oks (S.take m) ≤ 7 := by
                  have h1 : oks (S.take m) ≤ (S.take m).length := List.countP_le_length
                  have h2 : (S.take m).length ≤ m := List.length_take_le _ _
                  omega
                have hgd := hgood s (List.mem_of_getElem? hSm)
                have Hnext := Lib.hid hnext
                clear hnext
                cases hok : s.ok with
                | true =>
                  have Hok := Lib.hid hok
                  have q9 := takeNumber_any wr b 0 lm s hTb hgd
                  rw [hok] at q9
                  have Q := Lib.hid q9
                  clear q9 hok hgd
                  go_wp2_with fail
                  refine (Q.out).mono ?_
                  rintro e w7 ⟨rfl, rfl⟩
                  go_wp2
                  go_roundw
                  case rel => exact ⟨m + 1, by omega, by go_num, by rw [Hnext.out, Hok.out]; go_num, trivial⟩
                  case measure => simp [intOf]; omega
                | false =>
                  have Hok := Lib.hid hok
                  have q9 := takeNumber_any wr b 0 lm s hTb hgd
                  rw [hok] at q9
                  have Q := Lib.hid q9
                  clear q9 hok hgd
                  go_wp2_with fail
                  refine (Q.out).mono ?_
                  rintro e w7 ⟨rfl, rfl⟩
                  go_wp2
                  go_roundw
                  case rel => exact ⟨m + 1, by omega, by go_num, by rw [Hnext.out, Hok.out]; go_num, trivial⟩
                  case measure => simp [intOf]; omega
              · obtain rfl : m = k := by omega
                have etk : S.take m = S := List.take_of_length_le (by omega)
                rw [etk]
                generalize oks S = T at *
                have b1 : (x == fi + (T : Int)) = true := beq_iff_eq.2 hval
                have Hval := Lib.hid hval
                have hx9 : x ≤ 9 := by omega
                have hx0 : 0 ≤ x := by omega
                clear hval etk hdone hgood
                rw [hSl] at hfull hTk
                go_upto_region 38 with (fail)
                by_cases c1 : x ≤ lm
                · by_cases c2 : T = m
                  · have b2 : ((T : Int) == (m : Int)) = true := by simp [c2]
                    have C2 := Lib.hid c2
                    clear c2 htop hfull
                    refine wp_region_pure_seq ?_
                    repeat (go_big_quiet_step ((go_at_call 47; exact pure_of (peekCL _ _ _ _ _ (M.same (below_over _ _))))))
                    refine wpQuiet_nil ?_
                    intro w11 hb11
                    go_wp2
                    go_ret
                    exact ⟨rfl, hB.trans (hb11.mono hB.size)⟩
                  · have b2 : ((T : Int) == (m : Int)) = false := by simp; omega
                    have c3 : lm ≤ x := by omega
                    clear c2 htop hfull
                    refine wp_region_pure_seq ?_
                    repeat (go_big_quiet_step ((go_at_call 47; exact pure_of (peekCL _ _ _ _ _ (M.same (below_over _ _))))))
                    refine wpQuiet_nil ?_
                    intro w11 hb11
                    go_wp2
                    go_ret
                    exact ⟨rfl, hB.trans (hb11.mono hB.size)⟩
                · have b3 : ((T : Int) == 0) = true := by simp; omega
                  have c3 : lm ≤ x := by omega
                  have b2 : ((T : Int) == (m : Int)) = false := by simp; omega
                  clear htop hfull
                  refine wp_region_pure_seq ?_
                  repeat (go_big_quiet_step ((go_at_call 47; exact pure_of (peekCL _ _ _ _ _ (M.same (below_over _ _))))))
                  refine wpQuiet_nil ?_
                  intro w11 hb11
                  go_wp2
                  go_ret
                  exact ⟨rfl, hB.trans (hb11.mono hB.size)⟩
end Go.Proofs.Ytfoojallpmibfaa
