
/- blinktreecells.View: Sound. -/
import Derived.Test.YtlpdhhhgckpcfaaGreatSoundD
namespace Go.Proofs.YtlpdhhhgckpcfaaGreat
open Go.RowKit
set_option maxRecDepth 100000
/-- The row below a level. -/
def bRow (t : List (List Nd)) : Nat → List Nd
  | 0 => []
  | k + 1 => (t[k]?).getD []
/-- A page (e1), and a value that is known (e2). -/
def PvΦ (pg : Pg) (u : Value) (e1 e2 : Nat) (e : Nat) (_ρ : Nat → Option Value) (v : Value) (cs : List Comp) : Prop :=
  if e = e1 then ∃ (a : Option Addr) (c : Nat), v = (.agg #[.int .i64 (pg).lev, (.slice a pg.sl.length c), .string (pg).hi, .bool (pg).la, .int .u64 (pg).ri]) ∧ cs = [slC (.slice a pg.sl.length c) pg]
  else if e = e2 then v = u ∧ cs = [] else False
theorem PvΦ.mono {pg : Pg} {u : Value} {e1 e2 : Nat} {es : List Nat} : Mono es (PvΦ pg u e1 e2) := by
  intro e ρ v cs k u he hk h
  exact h
theorem TreeOk.snd {d : Cfg} {L : List Cel} {t : List (List Nd)} (ht : TreeOk d L t) {lev : Nat} {l : List Nd} (hl : t[lev]? = some l) {nd : Nd} (hn : nd ∈ l) : NdSnd d L lev ((bRow t lev).map (·.id)) ((bRow t lev).map (·.low)) nd := by
  obtain ⟨i, hi⟩ := List.getElem?_of_mem hn
  have hil := (List.getElem?_eq_some_iff.1 hi).1
  have hR := ht.rows lev l hl
  refine ⟨ht.nodes lev l hl nd hn, hR.lev nd hn, fun h0 => ?_, fun h => ?_, fun h => ?_, fun s hs => ?_⟩
  · obtain ⟨k, rfl⟩ : ∃ k, lev = k + 1 := ⟨lev - 1, by omega⟩
    obtain ⟨l0, hl0⟩ : ∃ l0, t[k]? = some l0 := ⟨_, List.getElem?_eq_getElem (by have := (List.getElem?_eq_some_iff.1 hl).1; omega)⟩
    exact (ht.down k l0 l hl0 hl nd hn).1
  · rcases Nat.lt_or_ge (i + 1) l.length with hlt | hge
    · have := (hR.next i nd _ hi (List.getElem?_eq_getElem hlt)).1
      rw [h] at this; cases this
    · exact (hR.last i nd hi (by omega)).2
  · rcases Nat.lt_or_ge (i + 1) l.length with hlt | hge
    · obtain ⟨b, hb⟩ : ∃ b, l[i + 1]? = some b := ⟨_, List.getElem?_eq_getElem hlt⟩
      rw [(hR.next i nd b hi hb).2.2.1]
      have h1 := (ht.nodes lev l hl b (List.mem_of_getElem? hb)).id
      have h2 := ht.used lev l hl b (List.mem_of_getElem? hb)
      omega
    · have := (hR.last i nd hi (by omega)).1
      rw [h] at this; cases this
  · rcases Nat.eq_zero_or_pos lev with h0 | h0
    · exact .inl h0
    · obtain ⟨k, rfl⟩ : ∃ k, lev = k + 1 := ⟨lev - 1, by omega⟩
      obtain ⟨l0, hl0⟩ : ∃ l0, t[k]? = some l0 := ⟨_, List.getElem?_eq_getElem (by have := (List.getElem?_eq_some_iff.1 hl).1; omega)⟩
      obtain ⟨c, hc, e1, e2⟩ := (ht.down k l0 l hl0 hl nd hn).2 s hs
      obtain ⟨j, hj⟩ := List.getElem?_of_mem hc
      have hb : bRow t (k + 1) = l0 := by show (t[k]?).getD [] = l0; rw [hl0]; rfl
      refine .inr ⟨j, ?_, ?_⟩
      · rw [hb, List.getElem?_map, hj, ← e1]; rfl
      · rw [hb, List.getElem?_map, hj, ← e2]; rfl
theorem TreeOk.brow {d : Cfg} {L : List Cel} {t : List (List Nd)} (hd : d.Ok) (ht : TreeOk d L t) (k : Nat) : (bRow t k).length ≤ 4096 := by
  have h1 := ht.count
  have h2 := ht.n4
  have h3 := hd.no2
  cases k with
  | zero => exact Nat.zero_le _
  | succ k =>
    show ((t[k]?).getD []).length ≤ 4096
    cases h : t[k]? with
    | none => exact Nat.zero_le _
    | some l => have := List.sum_le_of_mem' h; show l.length ≤ 4096; omega
/-- A memory with nothing in progress. -/
structure SndOk (d : Cfg) (L : List Cel) (t : List (List Nd)) : Prop where
  tr : TreeOk d L t
  ct : CtOk d L
  ch : ∀ l, t[0]? = some l → ChsOk d L ((l.flatMap fun nd => nd.pg.sl).map (·.r))
set_option maxHeartbeats 16000000 in
theorem viewSound_st {K : Know} {w : World} {F : List Comp} {d : Cfg} {g : Nat} {L : List Cel} {t : List (List Nd)} (hd : d.Ok) (hL : CelsOk L) (hlen : (L.length : Int) = d.cells) (hO : SndOk d L t) (hg : K.map g = some (.cells (flat L).toArray 63)) (hs : St K w F) :
    Calls Tryz.prog 24 #[.agg #[.int .i64 (d).th, .int .i64 (d).sn, .int .i64 (d).no, .int .i64 (d).ch, .int .i64 (d).re, .int .i64 (d).fa, .int .u64 (d).cl, .slice (some ⟨g, 0, none⟩) L.length L.length]] w fun e w' => e = .returned (.bool true) ∧ St K w' F := by
  have ht := hO.tr
  have hno2 := hd.no2
  have hcb := hd.cells_bd
  have hl : L.length ≤ 1000000 := by omega
  have htl := ht.tall hd
  have hs := hs.made (.cells #[.int .i64 (d).th, .int .i64 (d).sn, .int .i64 (d).no, .int .i64 (d).ch, .int .i64 (d).re, .int .i64 (d).fa, .int .u64 (d).cl, .slice (some ⟨g, 0, none⟩) L.length L.length] 52)
  obtain ⟨bv, hbv⟩ : ∃ bv, bv = w.heap.size := ⟨_, rfl⟩
  obtain ⟨l0, hl0⟩ : ∃ l0, t[0]? = some l0 := ⟨_, List.getElem?_eq_getElem ht.ne⟩
  obtain ⟨rt, rest, htop, hroot⟩ := ht.top
  have hrid := (ht.nodes _ _ htop rt List.mem_cons_self).id
  have hrus := ht.used _ _ htop rt List.mem_cons_self
  have Q0 := Lib.hid (fun W (h : W.heap[g]? = some (.cells (flat L).toArray 63)) => viewAt_any (d := d) 0 W (vat_of (K := Know.of W) h hl (St.start W)))
  have Qn := Lib.hid (fun W (h : W.heap[g]? = some (.cells (flat L).toArray 63)) => (viewNode_st (K := Know.of W) hd (getC L 0).n (by rw [hroot]; omega) h hl (St.start W)).mono (fun e w' (h : _ ∧ _) => (⟨h.1, h.2.below (Know.Le.refl _)⟩ : _ ∧ Below W.heap.size W w')))
  rw [decide_eq_true (show 1 ≤ (getC L 0).n ∧ (getC L 0).n ≤ d.no ∧ (getC L 0).n ≤ (getC L 4).n from by rw [hroot]; exact ⟨hrid.1, hrid.2, hrus⟩)] at Qn
  have Qc := Lib.hid (fun W (h : W.heap[g]? = some (.cells (flat L).toArray 63)) => (counters_st (K := Know.of W) hd hL hO.ct h hl (St.start W)).mono (fun e w' (h : _ ∧ _) => (⟨h.1, h.2.below (Know.Le.refl _)⟩ : _ ∧ Below W.heap.size W w')))
  have Qh := Lib.hid (fun W (h : W.heap[g]? = some (.cells (flat L).toArray 63)) => (chains_st (K := Know.of W) hd hL ht hl0 (hO.ch l0 hl0) h hl (St.start W)).mono (fun e w' (h : _ ∧ _) => (⟨h.1, h.2.below (Know.Le.refl _)⟩ : _ ∧ Below W.heap.size W w')))
  have Qt := Lib.hid (fun W cs (h : St K W cs) => treeHeight_st hd ht hlen hg h)
  have Ql := Lib.hid (fun (k : Nat) (hk : k ≤ t.length) W cs (h : St K W cs) => viewLevel_st (k := k) hd ht hk hg hl h)
  have Qp := Lib.hid (fun (k : Nat) (l : List Nd) (nd : Nd) (hk : t[k]? = some l) (hn : nd ∈ l) W cs (h : St K W cs) => viewPage_st hd (ht.nodes k l hk nd hn).id.1 (ht.nodes k l hk nd hn).id.2 (ht.nodes k l hk nd hn).page hg hl h)
  have Qs := Lib.hid (fun (lev : Nat) (l : List Nd) (nd : Nd) (hk : t[lev]? = some l) (hn : nd ∈ l) (B : Nat) (hB : B = (bRow t lev).length) (ab al : Option Addr) (cb cl : Nat) W cs (h : St K W (rowC (.slice ab B cb) 23 1 B (u64Row ((bRow t lev).map (·.id))) :: rowC (.slice al B cl) 9 1 B (stRow ((bRow t lev).map (·.low))) :: cs)) =>
    show Calls Tryz.prog 86 #[.agg #[.int .i64 (d).th, .int .i64 (d).sn, .int .i64 (d).no, .int .i64 (d).ch, .int .i64 (d).re, .int .i64 (d).fa, .int .u64 (d).cl, .slice (some ⟨g, 0, none⟩) L.length L.length], .int .u64 nd.id, .int .i64 lev, .string nd.low, .slice ab B cb, .slice al B cl] W fun e w' => e = .returned (.bool true) ∧ St K w' (rowC (.slice ab B cb) 23 1 B (u64Row ((bRow t lev).map (·.id))) :: rowC (.slice al B cl) 9 1 B (stRow ((bRow t lev).map (·.low))) :: cs) from by
      have q := sound_st (ab := ab) (al := al) (cb := cb) (cl := cl) (F := cs) hd (ht.snd hk hn) (by have := (List.getElem?_eq_some_iff.1 hk).1; omega) (by rw [List.length_map, List.length_map]; exact ⟨rfl, ht.brow hd lev⟩) hL hg hl (w := W)
      rw [List.length_map, List.length_map, ← hB] at q
      exact q h)
  have Hg := Lib.hid hg
  have Ht := Lib.hid ht
  have Hbr := Lib.hid (ht.brow hd)
  obtain ⟨n, hn⟩ : ∃ n, n = L.length := ⟨_, rfl⟩
  have Hlc := Lib.hid (show ∀ (k : Nat) (l : List Nd), t[k]? = some l → l.length ≤ 4096 from fun k l h => by have := List.sum_le_of_mem' h; have := ht.count; have := ht.n4; omega)
  rw [← hn] at Q0 Qn Qc Qh Qt Ql Qp Qs hs ⊢
  obtain ⟨iv, hiv0, hiv1, hiv2, hiv3⟩ := info_parts infoString
  have Hi0 := Lib.hid hiv0
  have Hi1 := Lib.hid hiv1
  have Hi2 := Lib.hid hiv2
  have Hi3 := Lib.hid hiv3
  clear hiv0 hiv1 hiv2 hiv3 htop hroot hrid hrus hlen hl hcb hL hO hg ht hl0 hn
  go_enter Tryz.func24, Tryz.ntmps24
  go_upto_region 1 with (fail)
  rw [← hbv] at hs ⊢
  have kv := hs.k0
  obtain ⟨w1, hw1⟩ : ∃ w1, w1 = w.alloc (.cells #[.int .i64 (d).th, .int .i64 (d).sn, .int .i64 (d).no, .int .i64 (d).ch, .int .i64 (d).re, .int .i64 (d).fa, .int .u64 (d).cl, .slice (some ⟨g, 0, none⟩) n n] 52) := ⟨_, rfl⟩
  rw [← hw1] at hs kv ⊢
  clear hw1 hbv
  have Hz := fun wz (hy : ∃ x : Ext, wz = over w1 x) => (hs.same (Pure.below hy)).know g _ Hg.out
  have Q0y := Lib.hid (fun wz (hy : ∃ x : Ext, wz = over w1 x) => Q0.out wz (Hz wz hy))
  have Qny := Lib.hid (fun wz (hy : ∃ x : Ext, wz = over w1 x) => Qn.out wz (Hz wz hy))
  have Qcy := Lib.hid (fun wz (hy : ∃ x : Ext, wz = over w1 x) => Qc.out wz (Hz wz hy))
  have Qhy := Lib.hid (fun wz (hy : ∃ x : Ext, wz = over w1 x) => Qh.out wz (Hz wz hy))
  clear Hz Q0 Qn Qc Qh
  refine region_pure (by kernel_rfl) (by kernel_rfl) ?_
  repeat (go_big_quiet_step (first | (go_at_call 83; exact pure_of (Q0y.out _ ⟨_, rfl⟩)) | (go_at_call 82; exact pure_of (Qny.out _ ⟨_, rfl⟩)) | (go_at_call 84; exact pure_of (Qcy.out _ ⟨_, rfl⟩)) | (go_at_call 85; exact pure_of (Qhy.out _ ⟨_, rfl⟩))))
  refine wpQuiet_nil ?_
  intro w2 hb2
  have hs := hs.same hb2
  clear kv hb2 Q0y Qny Qcy Qhy
  have hs := (hs.row_nil (T := 23) (size := 1))
  have hs := (hs.row_nil (T := 9) (size := 1)).b1
  go_wp2
  go_loopw [3, 4, 5] (fun v3 v4 v5 wr => ∃ (lev B : Nat) (ab al : Option Addr) (cb cl : Nat), v3 = .slice ab B cb ∧ v4 = .slice al B cl ∧ v5 = .int .i64 lev ∧ lev ≤ t.length ∧ Hid (B = (bRow t lev).length) ∧ St K wr (rowC (.slice ab B cb) 23 1 B (u64Row ((bRow t lev).map (·.id))) :: rowC (.slice al B cl) 9 1 B (stRow ((bRow t lev).map (·.low))) :: blk bv (.cells #[.int .i64 (d).th, .int .i64 (d).sn, .int .i64 (d).no, .int .i64 (d).ch, .int .i64 (d).re, .int .i64 (d).fa, .int .u64 (d).cl, .slice (some ⟨g, 0, none⟩) n n] 52) :: F)) (fun _ _ v5 _ => t.length - (intOf v5).toNat)
  case atStart => exact ⟨0, 0, none, none, 0, 0, rfl, rfl, rfl, by omega, Lib.hid rfl, hs⟩
  case round =>
    clear hs
    obtain ⟨lev, B, ab, al, cb, cl, rfl, rfl, rfl, hlt, HB, hs⟩ := hrel
    have kv := hs.k2
    go_wp2_with fail
    refine (Qt.out _ _ hs).mono ?_
    clear hs kv
    rintro e w3 ⟨rfl, hs⟩
    have kv := hs.k2
    by_cases hlev : lev < t.length
    · obtain ⟨l, hl⟩ : ∃ l, t[lev]? = some l := ⟨_, List.getElem?_eq_getElem hlev⟩
      have hR := Ht.out.rows lev l hl
      obtain ⟨m, hm⟩ : ∃ m, m = l.length := ⟨_, rfl⟩
      have hm0 : 0 < m := by rw [hm]; exact hR.ne
      have hm4 : m ≤ 4096 := by rw [hm]; exact Hlc.out lev l hl
      obtain ⟨⟨pid, plow, ⟨plev, psl, phi, pla, pri⟩⟩, hlast⟩ : ∃ x, l[m - 1]? = some x := ⟨_, List.getElem?_eq_getElem (by omega)⟩
      obtain rfl : pla = true := (hR.last (m - 1) _ hlast (by omega)).1
      have qlv := fun W cs (h : St K W cs) => Ql.out lev (by omega) W cs h
      have hids : lvIds t lev = l.map (·.id) := by unfold lvIds; rw [hl]
      rw [hids] at qlv
      have elen : (l.map (·.id)).length = m := by rw [List.length_map, hm]
      rw [elen] at qlv
      have QL := Lib.hid qlv
      have QPl := Lib.hid (fun W cs (h : St K W cs) => Qp.out lev l _ hl (List.mem_of_getElem? hlast) W cs h)
      have QN0 := Lib.hid (fun (nd : Nd) (hn : nd ∈ l) W cs (h : St K W cs) => Qp.out lev l nd hl hn W cs h)
      have QS0 := Lib.hid (fun (nd : Nd) (hn : nd ∈ l) W cs (h : St K W (rowC (.slice ab B cb) 23 1 B (u64Row ((bRow t lev).map (·.id))) :: rowC (.slice al B cl) 9 1 B (stRow ((bRow t lev).map (·.low))) :: cs)) => Qs.out lev l nd hl hn B HB.out ab al cb cl W cs h)
      have Hlast := Lib.hid hlast
      have Hl := Lib.hid hl
      have HR := Lib.hid hR
      have Hm := Lib.hid hm
      have hmi : ((m : Int) - 1) = ((m - 1 : Nat) : Int) := by omega
      have zm : ((m : Int) == 0) = false := by simp; omega
      have Hmi := Lib.hid hmi
      have Zm := Lib.hid zm
      clear hlast hl hR hids elen qlv hm hmi zm
      go_wp2_with fail
      refine (QL.out _ _ hs).mono ?_
      clear hs kv QL
      rintro e w4 ⟨va, rfl, hs⟩
      obtain ⟨aa, ca, rfl, _, _⟩ := hs.row_read
      obtain ⟨ga, hga, cz⟩ := hs.row_at (show (u64Row (l.map (·.id)))[m - 1]? = some (.int .u64 pid) by simp [u64Row, Hlast.out])
      subst hga
      clear cz
      go_upto_region 9 with (fail)
      have zm := Zm.out
      have hmi := Hmi.out
      go_cut [49] from 999 to 0 (fun v wx => v = .bool false ∧ St K wx (rowC (.slice (some ⟨ga, 0, none⟩) m ca) 23 1 m (u64Row (l.map (·.id))) :: rowC (.slice ab B cb) 23 1 B (u64Row ((bRow t lev).map (·.id))) :: rowC (.slice al B cl) 9 1 B (stRow ((bRow t lev).map (·.low))) :: blk bv (.cells #[.int .i64 (d).th, .int .i64 (d).sn, .int .i64 (d).no, .int .i64 (d).ch, .int .i64 (d).re, .int .i64 (d).fa, .int .u64 (d).cl, .slice (some ⟨g, 0, none⟩) n n] 52) :: F))
      case first =>
        as_aux_lemma =>
        have Hs := Lib.hid hs
        clear hs
        refine region_effectsK [false, false, false, false, false, false, false, false, false, false, false, true, true, false, false] (fun | 12 => some (.bool true) | _ => none) [11, 12] (fun | 12 => [11] | _ => [])
          (GR K (rowC (.slice (some ⟨ga, 0, none⟩) m ca) 23 1 m (u64Row (l.map (·.id))) :: rowC (.slice ab B cb) 23 1 B (u64Row ((bRow t lev).map (·.id))) :: rowC (.slice al B cl) 9 1 B (stRow ((bRow t lev).map (·.low))) :: blk bv (.cells #[.int .i64 (d).th, .int .i64 (d).sn, .int .i64 (d).no, .int .i64 (d).ch, .int .i64 (d).re, .int .i64 (d).fa, .int .u64 (d).cl, .slice (some ⟨g, 0, none⟩) n n] 52) :: F) [11, 12] (PvΦ ⟨plev, psl, phi, true, pri⟩ (.bool true) 11 12))
          (fun W => St K W (rowC (.slice (some ⟨ga, 0, none⟩) m ca) 23 1 m (u64Row (l.map (·.id))) :: rowC (.slice ab B cb) 23 1 B (u64Row ((bRow t lev).map (·.id))) :: rowC (.slice al B cl) 9 1 B (stRow ((bRow t lev).map (·.low))) :: blk bv (.cells #[.int .i64 (d).th, .int .i64 (d).sn, .int .i64 (d).no, .int .i64 (d).ch, .int .i64 (d).re, .int .i64 (d).fa, .int .u64 (d).cl, .slice (some ⟨g, 0, none⟩) n n] 52) :: F)) ?raaS (by kernel_rfl) ?rahB ?raH ?rahaS ?rah0 ?rahI ?rahR ?rahE ?rahQ
        case rahB => as_aux_lemma => kernel_rfl
        case raH =>
          -- <ramH
          intro W2 hs
          have kv := hs.b3.k0
          have c0 := hs.row_cell (show (u64Row (l.map (·.id)))[m - 1]? = some (.int .u64 pid) by simp [u64Row, Hlast.out])
          clear hs
          simp only [withK]
          repeat (go_big_quiet_step (fail))
          refine wpQuiet_nil ?_
          rfl
          -- ramH>
        case rahaS => rfl
        case rah0 => exact GR.start Hs.out
        case rahI => exact fun ρ W2 h => h.rest
        case rahR => exact fun ρ W2 W3 h hb => h.same hb
        case rahE =>
          refine ⟨?rae11, ?rae12, trivial⟩
          case rae11 =>
            -- <ram11
            intro o ho ρ W2 h hcl h11 hd2 act hact
            obtain rfl := Option.some.inj ho
            replace hact : act = fillD _ ρ [] _ := hact
            obtain ⟨C, R', hx1, hs, hnext⟩ := h.step PvΦ.mono 11 [] (by decide) (by decide) (by decide) h11 (by simp)
            simp only [fillD] at hact
            subst hact
            have Hn := Lib.hid hnext
            clear hnext hx1 h hcl hd2 h11
            go_wp2_with fail
            refine (QPl.out _ _ hs).mono ?_
            rintro e W3 ⟨va8, rfl, hs'⟩
            obtain ⟨a8, c8, rfl, _, _⟩ := hs'.row_read
            have Hs' := Lib.hid hs'
            clear hs hs'
            go_wp2
            exact ⟨rfl, _, rfl, fun u hu => (by cases hu), Hn.out _ _ W3 ⟨a8, c8, rfl, rfl⟩ Hs'.out⟩
            -- ram11>
          case rae12 =>
            -- <ram12
            intro o ho ρ W2 h hcl h12 hd2 act hact
            obtain rfl := Option.some.inj ho
            replace hact : act = fillD _ ρ [11] _ := hact
            obtain ⟨v11, h11⟩ := Option.isSome_iff_exists.1 (hd2 11 (by show _ ∈ [11]; simp))
            obtain ⟨cs8, R8, ⟨a8, c8, rfl, rfl⟩, hs8⟩ := h.at 11 (by simp) h11
            simp only [fillD, h11, Option.getD_some, dstAt, List.getElem?_cons_succ, List.getElem?_cons_zero, Option.bind_some, Option.bind_none, Act.put, List.setIfInBounds_toArray, List.set_cons_zero, List.set_cons_succ] at hact
            subst hact
            have H := Lib.hid (h.know PvΦ.mono 12 (by decide) (by simp) h12 _ ⟨rfl, rfl⟩)
            clear h hs8 hcl hd2 h12 h11
            go_wp2
            exact ⟨rfl, _, rfl, fun u hu => Option.some.inj hu, H.out⟩
            -- ram12>
        case rahQ =>
          -- <ramQ
          intro ρ W2 h hall
          have hs := h.rest
          clear h
          simp only [fillD, Option.getD_some, dstAt, List.getElem?_cons_succ, List.getElem?_cons_zero, Option.bind_some, Option.bind_none, Act.put, List.setIfInBounds_toArray, List.set_cons_zero, List.set_cons_succ]
          go_wp2
          go_meet
          exact ⟨rfl, hs⟩
          -- ramQ>
      case rest =>
      clear hs zm hmi
      obtain ⟨rfl, hs⟩ := hcut
      apply_assumption
      have hs := hs.row_nil (T := 9) (size := 1)
      go_wp2
      go_loopw [7, 8, 9] (fun v7 v8 v9 wr => ∃ (i : Nat) (lw : ByteArray) (an : Option Addr) (cn : Nat), v7 = .slice an i cn ∧ v8 = .string lw ∧ v9 = .int .i64 i ∧ i ≤ m ∧ Hid (∀ nd : Nd, l[i]? = some nd → lw = nd.low) ∧ St K wr (rowC (.slice an i cn) 9 1 i (stRow ((l.map (·.low)).take i)) :: rowC (.slice (some ⟨ga, 0, none⟩) m ca) 23 1 m (u64Row (l.map (·.id))) :: rowC (.slice ab B cb) 23 1 B (u64Row ((bRow t lev).map (·.id))) :: rowC (.slice al B cl) 9 1 B (stRow ((bRow t lev).map (·.low))) :: blk bv (.cells #[.int .i64 (d).th, .int .i64 (d).sn, .int .i64 (d).no, .int .i64 (d).ch, .int .i64 (d).re, .int .i64 (d).fa, .int .u64 (d).cl, .slice (some ⟨g, 0, none⟩) n n] 52) :: F)) (fun _ _ v9 _ => m - (intOf v9).toNat)
      case atStart => exact ⟨0, _, none, 0, rfl, rfl, rfl, by omega, Lib.hid (fun nd h => ((HR.out.first nd h)).symm), hs⟩
      case round =>
        clear hs
        obtain ⟨i, lw, an, cn, rfl, rfl, rfl, hi, Hlw, hs⟩ := hrel
        by_cases him : i < m
        · obtain ⟨nd, hnd⟩ : ∃ nd, l[i]? = some nd := ⟨_, List.getElem?_eq_getElem (by have := Hm.out; omega)⟩
          obtain rfl := Hlw.out nd hnd
          have QN := Lib.hid (QN0.out nd (List.mem_of_getElem? hnd))
          have QS := Lib.hid (QS0.out nd (List.mem_of_getElem? hnd))
          have hpush : (l.map (·.low)).take (i + 1) = (l.map (·.low)).take i ++ [nd.low] := by rw [List.take_add_one, List.getElem?_map, hnd]; rfl
          have hnx : ∀ nd' : Nd, l[i + 1]? = some nd' → nd.pg.hi = nd'.low := fun nd' h => (HR.out.next i nd nd' hnd h).2.1
          have Hnd := Lib.hid hnd
          have Hpush := Lib.hid hpush
          have Hnx := Lib.hid hnx
          have kv := hs.b4.k0
          have c0 := (show St K wr (rowC _ _ _ _ _ :: _) from hs.b1).row_cell (show (u64Row (l.map (·.id)))[i]? = some (.int .u64 nd.id) by simp [u64Row, Hnd.out])
          clear hnd hpush hnx Hlw
          go_upto_region 16 with (fail)
          refine region_tail 9 (by kernel_rfl) (by as_aux_lemma => kernel_rfl) ?_
          simp only [List.take_succ_cons, List.take_zero, List.drop_succ_cons, List.drop_zero]
          repeat (go_big_quiet_step (fail))
          refine wpQuiet_nil ?_
          intro w5 hb5
          have hs := hs.same hb5
          clear kv c0 hb5
          go_wp2_with fail
          refine (QS.out _ _ (hs.re [2, 3, 0, 1] rfl)).mono ?_
          clear hs QS
          rintro e w6 ⟨rfl, hs⟩
          have hs := hs.re [2, 3, 0, 1] rfl
          go_wp2_with (at_builtin; refine append_st _ _ 22 9 _ i 1 16 _ [.string nd.low] (.string ⟨#[]⟩) iv hs rfl rfl Tryz.underlying22 Hi0.out Hi1.out Hi2.out Hi3.out rfl (by decide) rfl rfl rfl (fun u hu => by simp at hu; subst hu; rfl) (by omega) (by decide) ?_)
          clear hs
          intro v' w' hs
          obtain ⟨an, cn, hv, _, _⟩ := hs.row_read
          subst hv
          have hs := hs.row_eq (ys := stRow ((l.map (·.low)).take (i + 1))) (by rw [Hpush.out, stRow_push])
          go_upto_region 19 with (fail)
          have Hs := Lib.hid hs
          clear hs
          refine region_effectsK [false, false, false, false, false, true, true, false] (fun | 6 => some (.string nd.pg.hi) | _ => none) [5, 6] (fun | 6 => [5] | _ => [])
            (GR K (rowC (.slice an (i + 1) cn) 9 1 (i + 1) (stRow ((l.map (·.low)).take (i + 1))) :: rowC (.slice (some ⟨ga, 0, none⟩) m ca) 23 1 m (u64Row (l.map (·.id))) :: rowC (.slice ab B cb) 23 1 B (u64Row ((bRow t lev).map (·.id))) :: rowC (.slice al B cl) 9 1 B (stRow ((bRow t lev).map (·.low))) :: blk bv (.cells #[.int .i64 (d).th, .int .i64 (d).sn, .int .i64 (d).no, .int .i64 (d).ch, .int .i64 (d).re, .int .i64 (d).fa, .int .u64 (d).cl, .slice (some ⟨g, 0, none⟩) n n] 52) :: F) [5, 6] (PvΦ nd.pg (.string nd.pg.hi) 5 6))
            (fun W => St K W (rowC (.slice an (i + 1) cn) 9 1 (i + 1) (stRow ((l.map (·.low)).take (i + 1))) :: rowC (.slice (some ⟨ga, 0, none⟩) m ca) 23 1 m (u64Row (l.map (·.id))) :: rowC (.slice ab B cb) 23 1 B (u64Row ((bRow t lev).map (·.id))) :: rowC (.slice al B cl) 9 1 B (stRow ((bRow t lev).map (·.low))) :: blk bv (.cells #[.int .i64 (d).th, .int .i64 (d).sn, .int .i64 (d).no, .int .i64 (d).ch, .int .i64 (d).re, .int .i64 (d).fa, .int .u64 (d).cl, .slice (some ⟨g, 0, none⟩) n n] 52) :: F)) ?rbaS (by kernel_rfl) ?rbhB ?rbH ?rbhaS ?rbh0 ?rbhI ?rbhR ?rbhE ?rbhQ
          case rbhB => as_aux_lemma => kernel_rfl
          case rbH =>
            -- <rbmH
            intro W2 hs
            have kv := hs.b4.k0
            have c0 := (show St K W2 (rowC _ _ _ _ _ :: _) from hs.b1).row_cell (show (u64Row (l.map (·.id)))[i]? = some (.int .u64 nd.id) by simp [u64Row, Hnd.out])
            clear hs
            simp only [withK]
            repeat (go_big_quiet_step (fail))
            refine wpQuiet_nil ?_
            rfl
            -- rbmH>
          case rbhaS => rfl
          case rbh0 => exact GR.start Hs.out
          case rbhI => exact fun ρ W2 h => h.rest
          case rbhR => exact fun ρ W2 W3 h hb => h.same hb
          case rbhE =>
            refine ⟨?rbe5, ?rbe6, trivial⟩
            case rbe5 =>
              -- <rbm5
              intro o ho ρ W2 h hcl h5 hd2 act hact
              obtain rfl := Option.some.inj ho
              replace hact : act = fillD _ ρ [] _ := hact
              obtain ⟨C, R', hx1, hs, hnext⟩ := h.step PvΦ.mono 5 [] (by decide) (by decide) (by decide) h5 (by simp)
              simp only [fillD] at hact
              subst hact
              have Hn := Lib.hid hnext
              clear hnext hx1 h hcl hd2 h5
              go_wp2_with fail
              refine (QN.out _ _ hs).mono ?_
              rintro e W3 ⟨va8, rfl, hs'⟩
              obtain ⟨a8, c8, rfl, _, _⟩ := hs'.row_read
              have Hs' := Lib.hid hs'
              clear hs hs'
              go_wp2
              exact ⟨rfl, _, rfl, fun u hu => (by cases hu), Hn.out _ _ W3 ⟨a8, c8, rfl, rfl⟩ Hs'.out⟩
              -- rbm5>
            case rbe6 =>
              -- <rbm6
              intro o ho ρ W2 h hcl h6 hd2 act hact
              obtain rfl := Option.some.inj ho
              replace hact : act = fillD _ ρ [5] _ := hact
              obtain ⟨v5, h5⟩ := Option.isSome_iff_exists.1 (hd2 5 (by show _ ∈ [5]; simp))
              obtain ⟨cs8, R8, ⟨a8, c8, rfl, rfl⟩, hs8⟩ := h.at 5 (by simp) h5
              simp only [fillD, h5, Option.getD_some, dstAt, List.getElem?_cons_succ, List.getElem?_cons_zero, Option.bind_some, Option.bind_none, Act.put, List.setIfInBounds_toArray, List.set_cons_zero, List.set_cons_succ] at hact
              subst hact
              have H := Lib.hid (h.know PvΦ.mono 6 (by decide) (by simp) h6 _ ⟨rfl, rfl⟩)
              clear h hs8 hcl hd2 h6 h5
              go_wp2
              exact ⟨rfl, _, rfl, fun u hu => Option.some.inj hu, H.out⟩
              -- rbm6>
          case rbhQ =>
            -- <rbmQ
            intro ρ W2 h hall
            have hs := h.rest
            clear h
            simp only [fillD, Option.getD_some, dstAt, List.getElem?_cons_succ, List.getElem?_cons_zero, Option.bind_some, Option.bind_none, Act.put, List.setIfInBounds_toArray, List.set_cons_zero, List.set_cons_succ]
            go_wp2
            go_roundw
            case rel => exact ⟨i + 1, _, an, cn, rfl, rfl, by go_num, by omega, Hnx, hs⟩
            case measure => simp [intOf]; omega
            -- rbmQ>
        · obtain rfl : i = m := by omega
          rw [show (l.map (·.low)).take i = l.map (·.low) from List.take_of_length_le (by rw [List.length_map, ← Hm.out]; exact Nat.le_refl _)] at hs
          have hB1 : bRow t (lev + 1) = l := by show (t[lev]?).getD [] = l; rw [Hl.out]; rfl
          have HB1 := Lib.hid hB1
          clear hB1
          go_wp2
          go_roundw
          case rel => exact ⟨lev + 1, i, _, an, ca, cn, rfl, rfl, by go_num, by omega, Lib.hid (by rw [HB1.out, Hm.out]), by rw [HB1.out]; exact ((hs.re [2, 3, 1, 0, 4] rfl).tail.tail)⟩
          case measure => simp [intOf]; omega
    · go_wp2
      go_ret
      exact ⟨rfl, hs.tail.tail.tail⟩
end Go.Proofs.YtlpdhhhgckpcfaaGreat
