/- The walk of ChainLookupIsStable. -/
import Derived.Test.YtfgjanponijkhaaWriter2
import Derived.Test.YtfgjanponijkhaaChain9
import Derived.Test.YtfgjanponijkhaaLaw10a
namespace Go.Proofs.Ytfgjanponijkhaa
open Go.RowKit
set_option maxRecDepth 100000

def Built3 (d : Cfg) (n : Nat) (L : List Cel) (vs : List Ver) : Prop := Built d n L vs ∧ Desc n vs

/-- A writer and a reader, after k rounds. -/
structure Rel10 (d : Cfg) (tm : Int) (V : ByteArray × Bool) (l2 l3 k : Nat) (dn : Bool) (at' : Nat) (n st : Int) (ph : Ph) (L : List Cel) (s : ChS) (acc : Nat) : Prop where
  hk : k ≤ l3 + 300
  hacc : acc ≤ 10000 + k
  b : WrB l2 at' n st tm ph
  p : PhOk d tm V n L ph
  r : RdOk d tm V (phN n ph) L s
  ok : s.Ok
  hdn : dn = decide (4 ≤ s.pc)
  left : k ≤ l3 ∨ 4 ≤ s.pc ∨ rdLeft (phN n ph) s + (k - l3) ≤ 40

theorem WrB.n {l2 at' : Nat} {n st tm : Int} {ph : Ph} (h : WrB l2 at' n st tm ph) : 0 ≤ phN n ph ∧ phN n ph ≤ 17 := by
  cases ph with
  | idle => obtain ⟨b1, b2, b3, b4, _⟩ := h; unfold phN; simp only; omega
  | inst b k del s => obtain ⟨b1, b2, b3, b4, _⟩ := h; unfold phN; simp only; split <;> omega
  | cut b fl t => obtain ⟨b1, b2, b3, b4, _⟩ := h; unfold phN; simp only; omega

section
variable {d : Cfg} {tm : Int} {V : ByteArray × Bool} {l2 l3 k : Nat} {at' : Nat} {n st : Int} {ph : Ph} {L : List Cel} {s : ChS} {acc : Nat}
theorem Rel10.wr (h : Rel10 d tm V l2 l3 k false at' n st ph L s acc) (hk : k < l3) {at2 : Nat} {n2 st2 : Int} {ph2 : Ph} {L2 : List Cel} {acc2 : Nat} (hb : WrB l2 at2 n2 st2 tm ph2) (hp : PhOk d tm V n2 L2 ph2) (hr : ∀ x, RdOk d tm V (phN n ph) L x → RdOk d tm V (phN n2 ph2) L2 x) (ha : acc2 ≤ acc + 1) :
    Rel10 d tm V l2 l3 (k + 1) false at2 n2 st2 ph2 L2 s acc2 :=
  ⟨by have := h.hk; omega, by have := h.hacc; omega, hb, hp, hr s h.r, h.ok, h.hdn, .inl (by omega)⟩
theorem Rel10.rd (h : Rel10 d tm V l2 l3 k false at' n st ph L s acc) (hk : k < l3 + 300) {acc2 : Nat} (ha : acc2 ≤ acc + 1) : Rel10 d tm V l2 l3 (k + 1) (decide (4 ≤ (lkStep d 1 tm L s).pc)) at' n st ph L (lkStep d 1 tm L s) acc2 := by
  obtain ⟨vs, hm⟩ := h.p.mem
  have hn := h.b.n
  refine ⟨by omega, by have := h.hacc; omega, h.b, h.p, h.r.step hm, lkStep_ok hm.c.ok h.ok, rfl, ?_⟩
  have hd : ¬ 4 ≤ s.pc := by have := h.hdn; simpa using this.symm
  rcases h.r.left hn.1 hm with hl | hl
  · exact .inr (.inl hl)
  · rcases h.left with h1 | h1 | h1
    · by_cases h2 : k < l3
      · exact .inl (by omega)
      · have := h.r.bound hn.1
        exact .inr (.inr (by omega))
    · exact absurd h1 hd
    · by_cases h2 : k < l3
      · exact .inl (by omega)
      · exact .inr (.inr (by omega))
theorem Rel10.fin (h : Rel10 d tm V l2 l3 (l3 + 300) false at' n st ph L s acc) : False := by
  have hd : ¬ 4 ≤ s.pc := by have := h.hdn; simpa using this.symm
  rcases h.left with h1 | h1 | h1
  · omega
  · exact hd h1
  · omega
theorem Rel10.val (h : Rel10 d tm V l2 l3 k true at' n st ph L s acc) : s.k = V.1 ∧ s.ok = V.2 := h.r.end_ (by have := h.hdn; simpa using this.symm)
end

set_option maxHeartbeats 4000000 in
theorem chainLookupIsStable_walk (a : Option Addr) (len cap : Nat) (f : Nat → StepD) (a2 : Option Addr) (len2 cap2 : Nat) (f2 : Nat → StepD) (at8 : Int) (a3 : Option Addr) (len3 cap3 : Nat) (f3 : Nat → Int) (hat : 0 ≤ at8 ∧ at8 < 256) (w : World) (hrow : StepsIn w a len f) (hrow2 : StepsIn w a2 len2 f2) (hrow3 : RowIn .u8 w a3 len3 f3) :
    Calls Try.prog 7 #[.slice a len cap, .slice a2 len2 cap2, .int .u8 at8, .slice a3 len3 cap3] w fun e w' => e = .returned (.bool true) ∧ Below w.heap.size w w' := by
  obtain ⟨d, hd, hch, hre, Q1, Q2⟩ : ∃ d : Cfg, Hid d.Ok ∧ d.ch = 100 ∧ d.re = 200 ∧ Hid (∀ w, Calls Try.prog 17 #[.int .i64 1, .int .i64 0] w fun e w' => e = .returned (.agg #[.int .i64 d.th, .int .i64 d.sn, .int .i64 d.no, .int .i64 d.ch, .int .i64 d.re, .int .i64 d.fa, .int .u64 d.cl]) ∧ Below w.heap.size w w') ∧ Hid (∀ w K cs, St K w cs → Calls Try.prog 18 #[.agg #[.int .i64 d.th, .int .i64 d.sn, .int .i64 d.no, .int .i64 d.ch, .int .i64 d.re, .int .i64 d.fa, .int .u64 d.cl]] w fun e w'' => ∃ bm bc, e = .returned (.tuple #[.agg #[.int .i64 d.th, .int .i64 d.sn, .int .i64 d.no, .int .i64 d.ch, .int .i64 d.re, .int .i64 d.fa, .int .u64 d.cl], .pointer (some ⟨bm, 0, none⟩)]) ∧ St K w'' (memC bm bc (startL d) 0 :: cs)) :=
    ⟨kitC 1 4 1000, Lib.hid kit10_ok, rfl, rfl, Lib.hid (fun w => kitConfig_any 1 0 w), Lib.hid (fun w K cs hs => kitMemory_st kit10_ok hs)⟩
  have C0 : Hid (Built3 d 0 (startL d) []) := Lib.hid ⟨⟨rfl, kit10_chain d hd.out⟩, trivial⟩
  generalize startL d = L0 at *
  have hch1 : Hid ((1 : Int) ≤ 1 ∧ (1 : Int) ≤ d.ch) := Lib.hid (by omega)
  have hre' : Hid (d.re = 200) := Lib.hid hre
  clear hch hre
  have hlen := hrow.1
  have hlen2 := hrow2.1
  have hlen3 := hrow3.1
  unfold maxLen at hlen hlen2 hlen3
  have Hrow := Lib.hid hrow
  have Hrow2 := Lib.hid hrow2
  have Hrow3 := Lib.hid hrow3
  clear hrow hrow2 hrow3
  have hs := St.start w
  obtain ⟨iv, hiv0, hiv1, hiv2, hiv3⟩ := info_parts infoVer
  go_enter Try.func7, Try.ntmps7
  go_wp2_with fail
  refine (calls_same hs (Q1.out _)).mono ?_
  clear hs
  rintro e w1 ⟨rfl, hs⟩
  go_wp2_with fail
  refine (Q2.out _ _ _ hs).mono ?_
  clear hs
  rintro e w2 ⟨bm, bc, rfl, hs⟩
  have hs := hs.made (.cells #[.int .i64 d.th, .int .i64 d.sn, .int .i64 d.no, .int .i64 d.ch, .int .i64 d.re, .int .i64 d.fa, .int .u64 d.cl] 30)
  obtain ⟨bl, hbl⟩ : ∃ bl, bl = w2.heap.size := ⟨_, rfl⟩
  go_wp2_with fail
  rw [← hbl] at hs ⊢
  clear hbl
  refine (awake10_st hs).mono ?_
  clear hs
  rintro e w3 ⟨rfl, hs⟩
  by_cases hA : 8 < len
  · go_wp2_with fail
    refine (awake10_st hs).mono ?_
    clear hs
    rintro e w4 ⟨rfl, hs⟩
    go_wp2
    go_ret
    exact ⟨rfl, hs.below (Know.Le.refl _)⟩
  by_cases hB : 8 < len2
  · have hA' : len ≤ 8 := by omega
    clear hA
    go_wp2_with fail
    refine (awake10_st hs).mono ?_
    clear hs
    rintro e w4 ⟨rfl, hs⟩
    go_wp2
    go_ret
    exact ⟨rfl, hs.below (Know.Le.refl _)⟩
  by_cases hC : 100 < len3
  · have hA' : len ≤ 8 := by omega
    have hB' : len2 ≤ 8 := by omega
    clear hA hB
    go_wp2_with fail
    refine (awake10_st hs).mono ?_
    clear hs
    rintro e w4 ⟨rfl, hs⟩
    go_wp2
    go_ret
    exact ⟨rfl, hs.below (Know.Le.refl _)⟩
  · have hA' : len ≤ 8 := by omega
    have hB' : len2 ≤ 8 := by omega
    have hC' : len3 ≤ 100 := by omega
    clear hA hB hC hlen hlen2 hlen3
    go_wp2
    go_loopw [11, 12, 13] (fun vl vn vk wr => ∃ (n acc : Nat) (L : List Cel) (vs : List Ver), n ≤ len ∧ vn = .int .u64 n ∧ vk = .int .i64 n ∧ acc ≤ 5 * n ∧ Built3 d n L vs ∧ St (Know.of w) wr [memC bm bc L acc, rowC vl 69 3 n (verRow vs), blk bl (.cells #[.int .i64 d.th, .int .i64 d.sn, .int .i64 d.no, .int .i64 d.ch, .int .i64 d.re, .int .i64 d.fa, .int .u64 d.cl] 30)]) (fun _ _ vk _ => len - (intOf vk).toNat)
    case atStart => exact ⟨0, 0, L0, [], by omega, rfl, rfl, by omega, C0.out, hs.row_nil.b2⟩
    case round =>
      clear hs
      obtain ⟨n, acc, L, vs, hn, rfl, rfl, hacc, hB, hs⟩ := hrel
      obtain ⟨al, capl, rfl, hcl, _⟩ := hs.b1.row_read
      have HB := Lib.hid hB.1
      have HD := Lib.hid hB.2
      clear hB
      by_cases hlt : n < len
      · obtain ⟨b, off, rfl, _, c0, c1, c2, c3, hsz, _, _⟩ := (Hrow.out.keep (hs.below (Know.Le.refl _))).2 n hlt
        obtain ⟨k', hk'⟩ : ∃ k', k' = wrV (f n).v (f n).del := ⟨_, rfl⟩
        have hdel : (f n).del = true → k' = ⟨#[]⟩ := fun h => by rw [hk']; exact wrV_del h
        have qw := fun w => write_below (kd := (f n).kind) (fl := (f n).fl) (del := (f n).del) hsz w
        rw [← hk'] at qw
        have Qw := Lib.hid qw
        have hr2 : ((n : Int) + 1) ≤ d.re := by have := hre'.out; omega
        obtain ⟨L1, L2, L3, _, _, _, e4, _, _, c3', _⟩ := in_steps hd.out hch1.out HB.out.2 (r := (n : Int) + 1) (by omega) (by omega) hr2 hdel
        have c4 := c3'.stamp hd.out hch1.out (t := (n : Int) + 1) ⟨by omega, by omega⟩
        have E4 := Lib.hid e4
        have C4 := Lib.hid c4
        clear hsz qw hk' hdel e4 c3' c4 hr2
        go_wp2_with fail
        refine (Qw.out _).mono ?_
        rintro e w5 ⟨rfl, hb5⟩
        have hs := (hs.same hb5).made (.cells #[.string ⟨#[]⟩, .string k', .bool (f n).del] 52)
        clear c0 c1 c2 c3 hb5
        obtain ⟨bw, hbw⟩ : ∃ bw, bw = w5.heap.size := ⟨_, rfl⟩
        have kl := hs.tail.k2
        have kw := hs.k0
        go_wp2_with fail
        rw [← hbw] at hs ⊢
        clear hbw kl kw
        refine (install_st (r := (n : Int) + 1) hd.out (by omega) (by omega) hs.b1).mono ?_
        clear hs
        rintro e w6 ⟨acc', rfl, hacc', hs⟩
        rw [E4.out] at hs
        have kl := hs.tail.k2
        go_wp2_with fail
        refine (newStamp_st (r := (n : Int) + 1) (t := (n : Int) + 1) hd.out (by omega) hs).mono ?_
        clear hs kl
        rintro e w7 ⟨b1, bi, bn, rfl, hs⟩
        go_wp2_with fail
        refine (stampStep_st (by omega) hs).mono ?_
        clear hs
        rintro e w8 ⟨rfl, hs⟩
        have kw := hs.k1
        have hv := hs.b2.row_vers (by rw [HB.out.1]; omega)
        have hs := (hs.made (.cells [.int .u64 ((n : Int) + 1), .string k', .bool (f n).del].toArray 69)).row_lit (n := 1) (size := 3) rfl (by decide)
        have Hv := Lib.hid (hv.same ((Below.refl w8.heap.size w8).alloc (Nat.le_refl _) (.cells [.int .u64 ((n : Int) + 1), .string k', .bool (f n).del].toArray 69)))
        have Hl := Lib.hid (show (verRow vs).length = n * 3 by rw [verRow_length, HB.out.1])
        have H0 : Hid (al = none → n = 0) := Lib.hid (fun e => by subst e; rw [← HB.out.1, Hv.out.none]; rfl)
        have Hs := Lib.hid hs
        clear hv hs
        go_wp2_with (at_builtin; refine append_row_st _ _ 58 69 _ 1 n _ 3 32 _ (verRow vs) (.agg #[.int .u64 0, .string ⟨#[]⟩, .bool false]) iv al Hs.out rfl rfl Try.underlying58 hiv0 hiv1 hiv2 hiv3 rfl (by decide) rfl rfl Hl.out H0.out Hv.out.newsAll (verRow_one vs) (by omega) (by decide) ?_)
        clear Hs kw
        intro v' w' hs
        rw [Nat.add_comm 1 n] at hs
        go_wp2
        go_roundw
        case rel => exact ⟨n + 1, acc' + 1, _, ⟨(n : Int) + 1, (n : Int) + 1, k', (f n).del⟩ :: vs, by omega, by go_num, by go_num, by omega, ⟨⟨by simp [HB.out.1], by exact_mod_cast C4.out⟩, by show (n : Int) + 1 ≤ ((n + 1 : Nat) : Int); omega, by have := HD.out; show Desc ((n : Int) + 1 - 1) vs; rwa [show (n : Int) + 1 - 1 = n by omega]⟩, hs.b2.tail.b2.tail.b1⟩
        case measure => simp [intOf]; omega
      · obtain rfl : n = len := by omega
        obtain ⟨tm, htm⟩ : ∃ tm, tm = at8 % ((n : Int) + 1) := ⟨_, rfl⟩
        have htm1 : 0 ≤ tm ∧ tm ≤ n := by
          have h1 : (0 : Int) < (n : Int) + 1 := by omega
          have h2 := Int.emod_nonneg at8 (show (n : Int) + 1 ≠ 0 by omega)
          have h3 := Int.emod_lt_of_pos at8 h1
          omega
        have hn0 : ((n : Int) + 1 == 0) = false := by simp; omega
        obtain ⟨V, hV⟩ : ∃ V, V = vval tm vs := ⟨_, rfl⟩
        have HR : Hid (Rel10 d tm V len2 len3 0 false 0 n n .idle L lk0 acc) := Lib.hid ⟨by omega, by omega, ⟨by omega, hB', by omega, by omega, by omega, by omega, by omega⟩, ⟨vs, HB.out.2, HD.out, hV.symm⟩, .inl ⟨rfl, rfl⟩, ⟨by decide, by decide⟩, rfl, .inl (by omega)⟩
        have Hlen := Lib.hid HB.out.1
        have HV := Lib.hid hV
        have kl := hs.k2
        clear hlt hn HB HD hV
        go_wp2_with fail
        rw [← htm]
        clear htm
        refine (newLookup_st (d := d) (ch := 1) (tm := tm) hs).mono ?_
        clear hs kl
        rintro e w4 ⟨br, rfl, hs⟩
        have kl := hs.tail.k2
        have hs := hs.made (.cells #[.int .i64 d.th, .int .i64 d.sn, .int .i64 d.no, .int .i64 d.ch, .int .i64 d.re, .int .i64 d.fa, .int .u64 d.cl, .pointer (some ⟨bm, 0, none⟩), .slice a2 len2 cap2, .int .i64 0, .int .u64 n, .int .u64 n, .int .u64 tm, .pointer none, .pointer none, .bool false] 89)
        obtain ⟨bw, hbw⟩ : ∃ bw, bw = w4.heap.size := ⟨_, rfl⟩
        go_wp2
        rw [← hbw] at hs ⊢
        clear hbw kl
        have hs : St (Know.of w) _ [blk bw (.cells (wrCells d bm a2 len2 cap2 0 n n tm Ph.idle).toArray 89), lkC br d 1 tm lk0, memC bm bc L acc, rowC (.slice al n capl) 69 3 n (verRow vs), blk bl (.cells #[.int .i64 d.th, .int .i64 d.sn, .int .i64 d.no, .int .i64 d.ch, .int .i64 d.re, .int .i64 d.fa, .int .u64 d.cl] 30)] := hs
        go_loopw [19, 20] (fun vd vk wr => ∃ (k : Nat) (dn : Bool) (at' : Nat) (n2 st : Int) (ph : Ph) (L2 : List Cel) (s : ChS) (acc2 : Nat), vk = .int .i64 k ∧ vd = .bool dn ∧ Rel10 d tm V len2 len3 k dn at' n2 st ph L2 s acc2 ∧
          St (Know.of w) wr [blk bw (.cells (wrCells d bm a2 len2 cap2 at' n2 st tm ph).toArray 89), phC d n2 ph, memC bm bc L2 acc2, lkC br d 1 tm s, rowC (.slice al n capl) 69 3 n (verRow vs), blk bl (.cells #[.int .i64 d.th, .int .i64 d.sn, .int .i64 d.no, .int .i64 d.ch, .int .i64 d.re, .int .i64 d.fa, .int .u64 d.cl] 30)]) (fun _ vk _ => len3 + 300 - (intOf vk).toNat)
        case atStart => exact ⟨0, false, 0, n, n, .idle, L, lk0, acc, rfl, rfl, HR.out, hs.b1.b2.b2.empty.b1⟩
        case round =>
          clear hs HR
          obtain ⟨k, dn, at', n2, st, ph, L2, s, acc2, rfl, rfl, hR, hs⟩ := hrel
          have HR := Lib.hid hR
          clear hR
          cases dn with
          | true =>
            have hval := HR.out.val
            obtain ⟨V1, hV1⟩ : ∃ x, x = V.1 := ⟨_, rfl⟩
            obtain ⟨V2, hV2⟩ : ∃ x, x = V.2 := ⟨_, rfl⟩
            rw [← hV1, ← hV2] at hval
            have hs := hs.b3
            have qv := lkValue_st hs
            rw [hval.1, hval.2] at qv
            have Qv := Lib.hid qv
            have qr := fun wz (hz : VersAt wz al vs) => valueRef_any (cap := capl) tm wz hz
            rw [← HV.out, ← hV1, ← hV2, Hlen.out] at qr
            have Qr := Lib.hid qr
            have hk := HR.out.hk
            clear hval qv qr hV1 hV2 hn0 htm1 hA' hB' hC' hacc hcl
            by_cases hk9 : k < len3 + 300
            · have hk8 : (k : Int) < (len3 : Int) + 300 := by omega
              go_wp2_with fail
              refine (Qv.out).mono ?_
              clear hs Qv
              rintro e w5 ⟨rfl, hs⟩
              have hs := hs.b4
              go_wp2_with fail
              refine (calls_same hs (Qr.out _ (hs.row_vers (by have := Hlen.out; omega)))).mono ?_
              clear hs Qr
              rintro e w6 ⟨rfl, hs⟩
              go_wp2
              go_ret
              exact ⟨rfl, hs.below (Know.Le.refl _)⟩
            · have hk8 : ¬ (k : Int) < (len3 : Int) + 300 := by omega
              go_wp2_with fail
              refine (Qv.out).mono ?_
              clear hs Qv
              rintro e w5 ⟨rfl, hs⟩
              have hs := hs.b4
              go_wp2_with fail
              refine (calls_same hs (Qr.out _ (hs.row_vers (by have := Hlen.out; omega)))).mono ?_
              clear hs Qr
              rintro e w6 ⟨rfl, hs⟩
              go_wp2
              go_ret
              exact ⟨rfl, hs.below (Know.Le.refl _)⟩
          | false =>
            by_cases hk : k < len3 + 300
            · have hk2 : (k : Int) < (len3 : Int) + 300 := by omega
              by_cases hk3 : k < len3
              · have hk4 : (k : Int) < (len3 : Int) := by omega
                obtain ⟨b, off, rfl, _, c0, wf⟩ := (Hrow3.out.keep (hs.below (Know.Le.refl _))).2 k hk3
                have hf3 := wf_u8 wf
                generalize f3 k = pk at c0 hf3
                clear wf
                by_cases hm : pk % 3 = 0
                · have g : (pk % 3 != 0) = false := by simpa using hm
                  have qx := lkStep_st hd.out (by omega) HR.out.ok (by have := HR.out.hacc; have := HR.out.hk; omega) hs.r22.b1
                  have hR2 := HR.out.rd hk (accTo_le 4 s.pc acc2)
                  generalize accTo 4 s.pc acc2 = acc3 at qx hR2
                  obtain ⟨o, ho⟩ : ∃ o, o = decide (4 ≤ (lkStep d 1 tm L2 s).pc) := ⟨_, rfl⟩
                  rw [← ho] at qx hR2
                  have Qx := Lib.hid qx
                  have HR2 := Lib.hid hR2
                  clear qx hR2 ho hn0 htm1 hA' hB' hC' hacc hcl hs
                  go_wp2_with fail
                  refine (Qx.out).mono ?_
                  clear Qx
                  rintro e w5 ⟨rfl, hs⟩
                  go_wp2
                  go_roundw
                  case rel => exact ⟨k + 1, o, at', n2, st, ph, L2, _, acc3, by go_num, rfl, HR2.out, hs.b1.r22⟩
                  case measure => simp [intOf]; omega
                · have g : (pk % 3 != 0) = true := by simpa using hm
                  have qx := writerStep_st (V := V) (f := f2) hd.out hch1.out (by have := hre'.out; omega) (by have := HR.out.hacc; have := HR.out.hk; omega) HR.out.b HR.out.p (Hrow2.out.keep (hs.below (Know.Le.refl _))) hs
                  have Qx := Lib.hid qx
                  clear qx hn0 htm1 hA' hB' hC' hacc hcl hs
                  go_wp2_with fail
                  refine (Qx.out).mono ?_
                  clear Qx
                  rintro e w5 ⟨rfl, at2, n3, st2, ph2, L3, acc3, x1, x2, x3, x4, hs⟩
                  have HR2 := Lib.hid (HR.out.wr hk3 x1 x2 x3 x4)
                  clear x1 x2 x3 x4
                  go_wp2
                  go_roundw
                  case rel => exact ⟨k + 1, false, at2, n3, st2, ph2, L3, s, acc3, by go_num, rfl, HR2.out, hs⟩
                  case measure => simp [intOf]; omega
              · have hk4 : ¬ (k : Int) < (len3 : Int) := by omega
                have qx := lkStep_st hd.out (by omega) HR.out.ok (by have := HR.out.hacc; have := HR.out.hk; omega) hs.r22.b1
                have hR2 := HR.out.rd hk (accTo_le 4 s.pc acc2)
                generalize accTo 4 s.pc acc2 = acc3 at qx hR2
                obtain ⟨o, ho⟩ : ∃ o, o = decide (4 ≤ (lkStep d 1 tm L2 s).pc) := ⟨_, rfl⟩
                rw [← ho] at qx hR2
                have Qx := Lib.hid qx
                have HR2 := Lib.hid hR2
                clear qx hR2 ho hn0 htm1 hA' hB' hC' hacc hcl hs
                go_wp2_with fail
                refine (Qx.out).mono ?_
                clear Qx
                rintro e w5 ⟨rfl, hs⟩
                go_wp2
                go_roundw
                case rel => exact ⟨k + 1, o, at', n2, st, ph, L2, _, acc3, by go_num, rfl, HR2.out, hs.b1.r22⟩
                case measure => simp [intOf]; omega
            · have hk' : k = len3 + 300 := by have := HR.out.hk; omega
              have hR := HR.out
              rw [hk'] at hR
              exact hR.fin.elim
end Go.Proofs.Ytfgjanponijkhaa
