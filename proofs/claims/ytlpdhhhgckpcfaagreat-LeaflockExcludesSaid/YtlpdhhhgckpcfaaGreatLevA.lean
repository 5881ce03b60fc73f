
/- blinktreecells.View: Level. The low keys of the nodes of a level. A level of a tree: one node covers a key; where its slots lie. blinktreekit.Same at cells: two slices with the same cells. A page that a view gives, put into a variable (a region that draws); a page compared with the view's. -/
import Derived.Test.YtlpdhhhgckpcfaaGreatViewA
import Derived.Test.YtlpdhhhgckpcfaaGreatTreeB
import Derived.Test.YtlpdhhhgckpcfaaGreatBaseA
import Derived.Test.YtlpdhhhgckpcfaaGreatKeys
namespace Go.Proofs.YtlpdhhhgckpcfaaGreat
open Go.RowKit
set_option maxRecDepth 100000
def u64Row (l : List Int) : List Value := l.map (Value.int .u64 ·)
theorem u64Row_push (l : List Int) (x : Int) : u64Row (l ++ [x]) = u64Row l ++ [.int .u64 x] := by simp [u64Row]
theorem infoU64 : (Tryz.prog.info? 23).map (fun i => (i.zero, i.size, i.bytes)) = some (some (.int .u64 0), 1, 8) := by kernel_rfl
/-- The numbers of the nodes of a level. -/
def lvIds (t : List (List Nd)) (k : Nat) : List Int := match t[k]? with
  | some l => l.map (·.id)
  | none => []
/-- The first slot of a first node refers to the first node below. -/
theorem first_child {d : Cfg} {L : List Cel} {t : List (List Nd)} (ht : TreeOk d L t) {j : Nat} {l l' : List Nd} {nd : Nd} (hl : t[j]? = some l) (hl' : t[j + 1]? = some l') (h0 : l'[0]? = some nd) : ∃ s r c, nd.pg.sl = s :: r ∧ l[0]? = some c ∧ s.r = c.id := by
  obtain ⟨⟨s, r, hs, hk⟩, hall⟩ := ht.down j l l' hl hl' nd (List.mem_of_getElem? h0)
  obtain ⟨c, hc, hid, hlow⟩ := hall s (by rw [hs]; simp)
  obtain ⟨i, hi⟩ := List.getElem?_of_mem hc
  have hn := (ht.rows (j + 1) l' hl').first nd h0
  have hrow := ht.rows j l hl
  refine ⟨s, r, c, hs, ?_, hid.symm⟩
  rcases Nat.eq_zero_or_pos i with h | h
  · rw [← h]; exact hi
  · obtain ⟨a, ha⟩ : ∃ a, l[0]? = some a := ⟨_, List.getElem?_eq_getElem hrow.ne⟩
    have := hrow.low_lt i 0 a c ha hi h
    rw [hlow, hk, hn, klt_empty] at this
    cases this
/-- Along a level: i numbers have been listed, n0 is the next one. -/
def LvI (t : List (List Nd)) (k i : Nat) (n0 : Int) : Prop :=
  i ≤ (lvIds t k).length ∧ ((∃ (l : List Nd) (nd : Nd), t[k]? = some l ∧ l[i]? = some nd ∧ n0 = nd.id) ∨ (n0 = 0 ∧ i = (lvIds t k).length) ∨ (t.length ≤ k ∧ i = 0 ∧ ∃ (j : Nat) (l : List Nd) (nd : Nd), t[j]? = some l ∧ nd ∈ l ∧ n0 = nd.id ∧ j < k))
def slLen' : Value → Nat
  | .slice _ n _ => n
  | _ => 0
theorem List.sum_le_of_mem' {t : List (List Nd)} {k : Nat} {l : List Nd} (h : t[k]? = some l) : l.length ≤ (t.map List.length).sum := by
  have h2 : (t.map List.length).sum = ((t.take (k + 1)).map List.length).sum + ((t.drop (k + 1)).map List.length).sum := by
    rw [← List.sum_append, ← List.map_append, List.take_append_drop]
  rw [List.take_add_one, h] at h2
  simp at h2
  omega
section
variable {K : Know} {w : World} {F : List Comp} {d : Cfg} {g : Nat} {L : List Cel} {t : List (List Nd)} {k : Nat}
set_option maxHeartbeats 8000000 in
theorem viewLevel_st (hd : d.Ok) (ht : TreeOk d L t) (hk : k ≤ t.length) (hg : K.map g = some (.cells (flat L).toArray 63)) (hl : L.length ≤ 1000000) (hs : St K w F) :
    Calls Tryz.prog 27 #[.agg #[.int .i64 (d).th, .int .i64 (d).sn, .int .i64 (d).no, .int .i64 (d).ch, .int .i64 (d).re, .int .i64 (d).fa, .int .u64 (d).cl, .slice (some ⟨g, 0, none⟩) L.length L.length], .int .i64 k] w fun e w' => ∃ v, e = .returned v ∧ St K w' (rowC v 23 1 (lvIds t k).length (u64Row (lvIds t k)) :: F) := by
  have hno2 := hd.no2
  have hno : ((t.map List.length).sum : Int) ≤ d.no := by have := ht.count; have := ht.n4; omega
  have htl : (t.length : Int) ≤ d.no := by
    have h1 : t.length ≤ (t.map List.length).sum := by
      have := sum_ge (ps := t.map List.length) (fun p hp => by
        obtain ⟨l, hl', rfl⟩ := List.mem_map.1 hp
        obtain ⟨i, hi⟩ := List.getElem?_of_mem hl'
        exact (ht.rows i l hi).ne)
      simpa using this
    omega
  obtain ⟨iv, hiv0, hiv1, hiv2, hiv3⟩ := info_parts infoU64
  have Hi0 := Lib.hid hiv0
  have Hi1 := Lib.hid hiv1
  have Hi2 := Lib.hid hiv2
  have Hi3 := Lib.hid hiv3
  clear hiv0 hiv1 hiv2 hiv3
  have hs := hs.made (.cells #[.int .i64 (d).th, .int .i64 (d).sn, .int .i64 (d).no, .int .i64 (d).ch, .int .i64 (d).re, .int .i64 (d).fa, .int .u64 (d).cl, .slice (some ⟨g, 0, none⟩) L.length L.length] 52)
  obtain ⟨bv, hbv⟩ : ∃ bv, bv = w.heap.size := ⟨_, rfl⟩
  have Q0 := Lib.hid (fun W cs (h : St K W cs) => viewAt_any (d := d) 0 W (vat_of hg hl h))
  have Qn := Lib.hid (fun (id : Int) (hid : 0 ≤ id ∧ id < 18446744073709551616) W cs (h : St K W cs) => viewNode_st hd id hid hg hl h)
  have Qp := Lib.hid (fun (j : Nat) (l : List Nd) (nd : Nd) (hj : t[j]? = some l) (hn : nd ∈ l) W cs (h : St K W cs) => viewPage_st hd (ht.nodes j l hj nd hn).id.1 (ht.nodes j l hj nd hn).id.2 (ht.nodes j l hj nd hn).page hg hl h)
  have Ht := Lib.hid ht
  have Hno := Lib.hid hno
  clear hno
  obtain ⟨rt, rest, htop, hroot⟩ := ht.top
  rw [hroot] at Q0
  have Htop := Lib.hid htop
  have Hne := Lib.hid ht.ne
  generalize L.length = n at *
  clear hg ht hroot htop
  go_enter Tryz.func27, Tryz.ntmps27
  go_wp2_with fail
  refine (calls_same hs (Q0.out _ _ hs)).mono ?_
  clear hs Q0
  rintro e w1 ⟨rfl, hs⟩
  go_wp2
  rw [← hbv] at hs ⊢
  clear hbv
  go_loopw [5, 6, 7] (fun v5 v6 _ wr => ∃ (j q : Nat) (l : List Nd) (nd : Nd), v5 = .int .u64 nd.id ∧ v6 = .int .i64 q ∧ Hid (t[j]? = some l ∧ l[0]? = some nd) ∧ q + j + 1 = t.length ∧ (k ≤ j ∨ j + 1 = t.length) ∧ St K wr (blk bv (.cells #[.int .i64 (d).th, .int .i64 (d).sn, .int .i64 (d).no, .int .i64 (d).ch, .int .i64 (d).re, .int .i64 (d).fa, .int .u64 (d).cl, .slice (some ⟨g, 0, none⟩) n n] 52) :: F)) (fun _ v6 _ _ => t.length - (intOf v6).toNat)
  case atStart => exact ⟨t.length - 1, 0, rt :: rest, rt, rfl, rfl, Lib.hid ⟨Htop.out, rfl⟩, by have := Hne.out; omega, .inr (by have := Hne.out; omega), hs⟩
  case round =>
    clear hs
    obtain ⟨j, q, l, nd, rfl, rfl, Hl, hqj, hkj, hs⟩ := hrel
    have hok := (Ht.out.nodes j l Hl.out.1 nd (List.mem_of_getElem? Hl.out.2)).id
    have hus := Ht.out.used j l Hl.out.1 nd (List.mem_of_getElem? Hl.out.2)
    have hlev := (Ht.out.rows j l Hl.out.1).lev nd (List.mem_of_getElem? Hl.out.2)
    have qn := Qn.out nd.id (by omega)
    rw [decide_eq_true (show 1 ≤ nd.id ∧ nd.id ≤ d.no ∧ nd.id ≤ (getC L 4).n from ⟨hok.1, hok.2, hus⟩)] at qn
    have QN := Lib.hid qn
    have QP := Lib.hid (Qp.out j l nd Hl.out.1 (List.mem_of_getElem? Hl.out.2))
    have hq1 : (q : Int) ≤ d.no := by omega
    have Hlev := Lib.hid hlev
    have Hid1 := Lib.hid hok
    clear qn hok hus hlev
    have kv := hs.k0
    go_wp2_with fail
    refine (QN.out _ _ hs).mono ?_
    clear hs kv
    rintro e w2 ⟨rfl, hs⟩
    have kv := hs.k0
    go_wp2_with fail
    refine (QP.out _ _ hs).mono ?_
    clear hs kv
    rintro e w3 ⟨va, rfl, hs⟩
    obtain ⟨a, c, rfl, _, _⟩ := hs.row_read
    have hs := hs.tail
    have kv := hs.k0
    rw [Hlev.out]
    by_cases hjk : k < j
    · obtain ⟨j', rfl⟩ : ∃ j', j = j' + 1 := ⟨j - 1, by omega⟩
      obtain ⟨l2, hl2⟩ : ∃ l2, t[j']? = some l2 := ⟨_, List.getElem?_eq_getElem (by omega)⟩
      obtain ⟨s, r, cc, hsl, hcc, hsr⟩ := first_child Ht.out hl2 Hl.out.1 Hl.out.2
      have Hsl := Lib.hid hsl
      have Hcc := Lib.hid (And.intro hl2 hcc)
      have Hsr := Lib.hid hsr
      have hlen : 0 < nd.pg.sl.length := by rw [hsl]; simp
      clear hl2 hcc hsl hsr
      go_wp2_with fail
      refine (QP.out _ _ hs).mono ?_
      clear hs kv
      rintro e w4 ⟨va, rfl, hs⟩
      obtain ⟨a2, c2, rfl, _, _⟩ := hs.row_read
      obtain ⟨g2, rfl, c1⟩ := hs.row_at (show (slRow nd.pg.sl)[1]? = some (.int .u64 s.r) by rw [Hsl.out]; rfl)
      have hs := hs.made (.cells #[.int .i64 (nd.pg).lev, (.slice (some ⟨g2, 0, none⟩) nd.pg.sl.length c2), .string (nd.pg).hi, .bool (nd.pg).la, .int .u64 (nd.pg).ri] 43)
      have c1' := (show St (K) _ (rowC _ _ _ _ _ :: _) from hs.b1).row_cell (show (slRow nd.pg.sl)[1]? = some (.int .u64 s.r) by rw [Hsl.out]; rfl)
      have kp := hs.k0
      go_wp2
      rw [Hsr.out]
      go_roundw
      case rel => exact ⟨j', q + 1, l2, cc, rfl, by go_num, Hcc, by omega, .inl (by omega), hs.tail.tail⟩
      case measure => simp [intOf]; omega
    · have hs := hs.row_nil (T := 23) (size := 1)
      have hf : ¬ ((k : Int) < j) := by omega
      have hI : LvI t k 0 nd.id := by
        refine ⟨Nat.zero_le _, ?_⟩
        by_cases hkt : k < t.length
        · obtain rfl : j = k := by omega
          exact .inl ⟨l, nd, Hl.out.1, Hl.out.2, rfl⟩
        · exact .inr (.inr ⟨by omega, rfl, j, l, nd, Hl.out.1, List.mem_of_getElem? Hl.out.2, rfl, by omega⟩)
      have HI := Lib.hid hI
      clear hI QN QP
      go_wp2
      go_loopw [5, 8] (fun v5 v8 wr => ∃ (i : Nat) (n0 : Int) (ao : Option Addr) (co : Nat), v5 = .int .u64 n0 ∧ v8 = .slice ao i co ∧ Hid (LvI t k i n0) ∧ i ≤ 4096 ∧ St K wr (rowC (.slice ao i co) 23 1 i (u64Row ((lvIds t k).take i)) :: blk bv (.cells #[.int .i64 (d).th, .int .i64 (d).sn, .int .i64 (d).no, .int .i64 (d).ch, .int .i64 (d).re, .int .i64 (d).fa, .int .u64 (d).cl, .slice (some ⟨g, 0, none⟩) n n] 52) :: F)) (fun _ v8 _ => 5000 - slLen' v8)
      case atStart => exact ⟨0, nd.id, none, 0, rfl, rfl, HI, by omega, hs⟩
      case round =>
        clear hs HI Hl Hlev Hid1 hqj hkj hq1 hjk hf kv
        obtain ⟨i, n0, ao, co, rfl, rfl, HI, hi100, hs⟩ := hrel
        rcases HI.out.2 with ⟨l3, nd3, h1, h2, rfl⟩ | ⟨rfl, h1⟩ | ⟨h1, rfl, j3, l3, nd3, h2, h3, rfl, h4⟩
        · have hm := List.mem_of_getElem? h2
          have hok := (Ht.out.nodes k l3 h1 nd3 hm).id
          have hus := Ht.out.used k l3 h1 nd3 hm
          have hlev := (Ht.out.rows k l3 h1).lev nd3 hm
          have qn := Qn.out nd3.id (by omega)
          rw [decide_eq_true (show 1 ≤ nd3.id ∧ nd3.id ≤ d.no ∧ nd3.id ≤ (getC L 4).n from ⟨hok.1, hok.2, hus⟩)] at qn
          have QN := Lib.hid qn
          have QP := Lib.hid (Qp.out k l3 nd3 h1 hm)
          have hil : i < l3.length := (List.getElem?_eq_some_iff.1 h2).1
          have hids : lvIds t k = l3.map (·.id) := by unfold lvIds; rw [h1]
          have hl100 : (l3.length : Int) ≤ d.no := by
            have hc := Hno.out
            have hb := List.sum_le_of_mem' h1
            omega
          have hpush : (lvIds t k).take (i + 1) = (lvIds t k).take i ++ [nd3.id] := by
            rw [hids, List.take_add_one, List.getElem?_map, h2]; rfl
          have Hpush := Lib.hid hpush
          have hnext : LvI t k (i + 1) nd3.pg.ri := by
            have hR := Ht.out.rows k l3 h1
            refine ⟨by rw [hids, List.length_map]; omega, ?_⟩
            rcases Nat.lt_or_ge (i + 1) l3.length with hlt | hge
            · obtain ⟨b, hb⟩ : ∃ b, l3[i + 1]? = some b := ⟨_, List.getElem?_eq_getElem hlt⟩
              exact .inl ⟨l3, b, h1, hb, (hR.next i nd3 b h2 hb).2.2.1⟩
            · exact .inr (.inl ⟨(hR.last i nd3 h2 (by omega)).2.2, by rw [hids, List.length_map]; omega⟩)
          have Hnext := Lib.hid hnext
          have hino : (i : Int) < d.no := by omega
          have hi99 : i < 4096 := by omega
          have Hlev := Lib.hid hlev
          clear qn hok hus hlev hm h1 h2 hids hpush hnext hil hl100
          have kv := hs.k1
          go_wp2_with fail
          refine (QN.out _ _ hs).mono ?_
          clear hs kv
          rintro e w2 ⟨rfl, hs⟩
          have kv := hs.k1
          go_wp2_with fail
          refine (QP.out _ _ hs).mono ?_
          clear hs kv
          rintro e w3 ⟨va, rfl, hs⟩
          obtain ⟨a, c, rfl, _, _⟩ := hs.row_read
          have hs := hs.tail
          have kv := hs.k1
          rw [Hlev.out]
          have kk : ((k : Int) == k) = true := beq_self_eq_true _
          go_wp2_with (at_builtin; refine append_st _ _ 57 23 _ i 1 8 _ [.int .u64 nd3.id] (.int .u64 0) iv hs rfl rfl Tryz.underlying57 Hi0.out Hi1.out Hi2.out Hi3.out rfl (by decide) rfl rfl rfl (fun u hu => by simp at hu; subst hu; rfl) (by omega) (by decide) ?_)
          clear hs kv
          intro v' w' hs
          obtain ⟨ao2, co2, hv, _, _⟩ := hs.row_read
          subst hv
          have kv := hs.k1
          go_wp2_with fail
          refine (QP.out _ _ hs).mono ?_
          clear kv hs
          rintro e w5 ⟨va2, rfl, hs⟩
          obtain ⟨a2, c2, rfl, _, _⟩ := hs.row_read
          have hs := hs.tail
          go_wp2
          go_roundw
          case rel => exact ⟨i + 1, nd3.pg.ri, ao2, co2, rfl, rfl, Hnext, by omega, by rw [Hpush.out, u64Row_push]; exact hs⟩
          case measure => simp only [slLen']; omega
        · have qn := Qn.out 0 (by omega)
          rw [decide_eq_false (show ¬ ((1 : Int) ≤ 0 ∧ (0 : Int) ≤ d.no ∧ (0 : Int) ≤ (getC L 4).n) by omega)] at qn
          have QN := Lib.hid qn
          have H1 := Lib.hid h1
          clear qn h1
          have kv := hs.k1
          go_wp2_with fail
          refine (QN.out _ _ hs).mono ?_
          clear hs kv
          rintro e w2 ⟨rfl, hs⟩
          go_wp2
          go_ret
          rw [List.take_of_length_le (by rw [← H1.out]; exact Nat.le_refl _)] at hs
          refine ⟨_, rfl, ?_⟩
          rw [← H1.out]
          exact hs.drop1
        · have hok := (Ht.out.nodes j3 l3 h2 nd3 h3).id
          have hus := Ht.out.used j3 l3 h2 nd3 h3
          have hlev := (Ht.out.rows j3 l3 h2).lev nd3 h3
          have qn := Qn.out nd3.id (by omega)
          rw [decide_eq_true (show 1 ≤ nd3.id ∧ nd3.id ≤ d.no ∧ nd3.id ≤ (getC L 4).n from ⟨hok.1, hok.2, hus⟩)] at qn
          have QN := Lib.hid qn
          have QP := Lib.hid (Qp.out j3 l3 nd3 h2 h3)
          have Hlev := Lib.hid hlev
          have hids : lvIds t k = [] := by unfold lvIds; rw [List.getElem?_eq_none h1]
          have Hids := Lib.hid hids
          clear qn hok hus hlev h1 h2 h3 hids
          have kv := hs.k1
          go_wp2_with fail
          refine (QN.out _ _ hs).mono ?_
          clear hs kv
          rintro e w2 ⟨rfl, hs⟩
          have kv := hs.k1
          go_wp2_with fail
          refine (QP.out _ _ hs).mono ?_
          clear hs kv
          rintro e w3 ⟨va, rfl, hs⟩
          obtain ⟨a, c, rfl, _, _⟩ := hs.row_read
          have hs := hs.tail
          rw [Hlev.out]
          have hne : ¬ ((j3 : Int) = k) := by omega
          go_wp2
          go_ret
          refine ⟨_, rfl, ?_⟩
          rw [Hids.out]
          rw [Hids.out] at hs
          exact hs.drop1
end
end Go.Proofs.YtlpdhhhgckpcfaaGreat

namespace Go.Proofs.YtlpdhhhgckpcfaaGreat
open Go.RowKit
set_option maxRecDepth 100000
/-- The row that lows makes: not yet longer, or longer. -/
def rowLw (o : Option Value) (v5 : Value) (n : Nat) (xs : List ByteArray) (hi : ByteArray) : Comp := match o with
  | none => rowC v5 9 1 n (stRow xs)
  | some v => rowC v 9 1 (n + 1) (stRow (xs ++ [hi]))
/-- While the region runs: the page (6), its high key (7), the block of one (8), the longer row (9), its variable (10). -/
def LwR (K : Know) (REST : List Comp) (v5 : Value) (n : Nat) (xs : List ByteArray) (hi : ByteArray) (ρ : Nat → Option Value) (W : World) : Prop :=
  ∃ b : Nat, (∀ v, ρ 6 = some v → ∃ x0 x1 x3 x4, v = .agg #[x0, x1, .string hi, x3, x4]) ∧ (∀ v, ρ 7 = some v → v = .string hi) ∧ (∀ v, ρ 8 = some v → v = .slice (some ⟨b, 0, none⟩) 1 1) ∧ (∀ v, ρ 10 = some v → ρ 9 = some v) ∧
    St K W (optC (ρ 8) (blk b (.cells #[.string hi] 9)) :: rowLw (ρ 9) v5 n xs hi :: REST)
section
variable {K : Know} {REST : List Comp} {v5 : Value} {n : Nat} {xs : List ByteArray} {hi : ByteArray} {ρ : Nat → Option Value} {W : World} {v6 v7 v8 v9 : Value}
theorem LwR.start (hs : St K W (rowC v5 9 1 n (stRow xs) :: REST)) : LwR K REST v5 n xs hi (fun _ => none) W :=
  ⟨0, fun v h => (by cases h), fun v h => (by cases h), fun v h => (by cases h), fun v h => (by cases h), hs.empty⟩
theorem LwR.same {W' : World} (h : LwR K REST v5 n xs hi ρ W) (hb : Below W.heap.size W W') : LwR K REST v5 n xs hi ρ W' := by
  obtain ⟨b, e1, e2, e3, e4, hs⟩ := h
  exact ⟨b, e1, e2, e3, e4, hs.same hb⟩
theorem LwR.rest (h : LwR K REST v5 n xs hi ρ W) : St K W REST := by
  obtain ⟨b, e1, e2, e3, e4, hs⟩ := h
  exact hs.tail.tail
theorem LwR.e6 (h : LwR K REST v5 n xs hi ρ W) : ∃ R', St K W R' ∧ ∀ (x0 x1 x3 x4 : Value) W', St K W' R' → LwR K REST v5 n xs hi (upd ρ 6 (.agg #[x0, x1, .string hi, x3, x4])) W' := by
  obtain ⟨b, e1, e2, e3, e4, hs⟩ := h
  refine ⟨_, hs, fun x0 x1 x3 x4 W' hs' => ⟨b, fun v h => ?_, fun v h => e2 v (by simpa [upd] using h), fun v h => e3 v (by simpa [upd] using h), fun v h => ?_, ?_⟩⟩
  · exact ⟨x0, x1, x3, x4, by simpa [upd] using h.symm⟩
  · have := e4 v (by simpa [upd] using h); simpa [upd] using this
  · simpa [upd] using hs'
theorem LwR.e7 (h : LwR K REST v5 n xs hi ρ W) (h6 : ρ 6 = some v6) : ∃ x0 x1 x3 x4, v6 = .agg #[x0, x1, .string hi, x3, x4] ∧ LwR K REST v5 n xs hi (upd ρ 7 (.string hi)) W := by
  obtain ⟨b, e1, e2, e3, e4, hs⟩ := h
  obtain ⟨x0, x1, x3, x4, rfl⟩ := e1 v6 h6
  refine ⟨x0, x1, x3, x4, rfl, b, fun v h => e1 v (by simpa [upd] using h), fun v h => by simpa [upd] using h.symm, fun v h => e3 v (by simpa [upd] using h), fun v h => ?_, by simpa [upd] using hs⟩
  have := e4 v (by simpa [upd] using h); simpa [upd] using this
theorem LwR.e8 (h : LwR K REST v5 n xs hi ρ W) (h7 : ρ 7 = some v7) (h8 : ρ 8 = none) (h9 : ρ 9 = none) : v7 = .string hi ∧ LwR K REST v5 n xs hi (upd ρ 8 (.slice (some ⟨W.heap.size, 0, none⟩) 1 1)) (W.alloc (.cells #[.string hi] 9)) := by
  obtain ⟨b, e1, e2, e3, e4, hs⟩ := h
  refine ⟨e2 v7 h7, W.heap.size, fun v h => e1 v (by simpa [upd] using h), fun v h => e2 v (by simpa [upd] using h), fun v h => by simpa [upd] using h.symm, fun v h => ?_, ?_⟩
  · have := e4 v (by simpa [upd] using h); rw [h9] at this; cases this
  · rw [h8, h9] at hs
    have : St K (W.alloc (.cells #[.string hi] 9)) (optC (some (.slice (some ⟨W.heap.size, 0, none⟩) 1 1)) (blk W.heap.size (.cells #[.string hi] 9)) :: rowLw none v5 n xs hi :: REST) := hs.tail.made (.cells #[.string hi] 9)
    simpa [upd, h9] using this
theorem LwR.e10 (h : LwR K REST v5 n xs hi ρ W) (h9 : ρ 9 = some v9) : LwR K REST v5 n xs hi (upd ρ 10 v9) W := by
  obtain ⟨b, e1, e2, e3, e4, hs⟩ := h
  refine ⟨b, fun v h => e1 v (by simpa [upd] using h), fun v h => e2 v (by simpa [upd] using h), fun v h => e3 v (by simpa [upd] using h), fun v h => ?_, by simpa [upd] using hs⟩
  have : v9 = v := by simpa [upd] using h
  subst this
  simpa [upd] using h9
theorem LwR.last (h : LwR K REST v5 n xs hi ρ W) (hall : ∀ e, e ∈ [6, 7, 8, 9, 10] → (ρ e).isSome = true) : ∃ (a : Option Addr) (cp : Nat), ρ 9 = some (.slice a (n + 1) cp) ∧ ρ 10 = some (.slice a (n + 1) cp) ∧ (∃ v, ρ 6 = some v) ∧ (∃ v, ρ 7 = some v) ∧ (∃ v, ρ 8 = some v) ∧
    St K W (rowC (.slice a (n + 1) cp) 9 1 (n + 1) (stRow (xs ++ [hi])) :: REST) := by
  obtain ⟨v6, h6⟩ := Option.isSome_iff_exists.1 (hall 6 (by simp))
  obtain ⟨v7, h7⟩ := Option.isSome_iff_exists.1 (hall 7 (by simp))
  obtain ⟨v8, h8⟩ := Option.isSome_iff_exists.1 (hall 8 (by simp))
  obtain ⟨v9, h9⟩ := Option.isSome_iff_exists.1 (hall 9 (by simp))
  obtain ⟨v10, h10⟩ := Option.isSome_iff_exists.1 (hall 10 (by simp))
  obtain ⟨b, e1, e2, e3, e4, hs⟩ := h
  obtain rfl := Option.some.inj (h9.symm.trans (e4 v10 h10))
  rw [h8, h9] at hs
  have hs : St K W (rowC v9 9 1 (n + 1) (stRow (xs ++ [hi])) :: REST) := hs.tail
  obtain ⟨a, cp, rfl, _, _⟩ := hs.row_read
  exact ⟨a, cp, h9, h10, ⟨v6, h6⟩, ⟨v7, h7⟩, ⟨v8, h8⟩, hs⟩
end
section
variable {K : Know} {w : World} {F : List Comp} {d : Cfg} {g : Nat} {L : List Cel} {l : List Nd} {a : Option Addr} {cap : Nat}
end
end Go.Proofs.YtlpdhhhgckpcfaaGreat

namespace Go.Proofs.YtlpdhhhgckpcfaaGreat
set_option maxRecDepth 100000
section
variable {lev : Nat} {l : List Nd} {i j : Nat} {a b : Nd} {key : ByteArray}
theorem RowOk.hi_le (h : RowOk lev l) (ha : l[i]? = some a) (hb : l[j]? = some b) (hij : i < j) : a.pg.la = false ∧ klt b.low a.pg.hi = false := by
  have hj := (List.getElem?_eq_some_iff.1 hb).1
  obtain ⟨e, he⟩ : ∃ e, l[i + 1]? = some e := ⟨_, List.getElem?_eq_getElem (by omega)⟩
  obtain ⟨q1, q2, _, _⟩ := h.next i a e ha he
  refine ⟨q1, ?_⟩
  rw [q2]
  by_cases hh : i + 1 = j
  · rw [hh, hb] at he
    rw [Option.some.inj he]; exact klt_irrefl _
  · exact klt_asymm (h.low_lt j (i + 1) e b he hb (by omega))
/-- One node covers a key. -/
theorem RowOk.cover_one (h : RowOk lev l) (ha : l[i]? = some a) (hb : l[j]? = some b) (a1 : klt key a.low = false) (a2 : (a.pg.la || klt key a.pg.hi) = true) (b1 : klt key b.low = false) (b2 : (b.pg.la || klt key b.pg.hi) = true) : i = j := by
  rcases Nat.lt_trichotomy i j with hij | hij | hij
  · obtain ⟨q1, q2⟩ := h.hi_le ha hb hij
    rw [q1, Bool.false_or] at a2
    have := klt_le_lt b1 a2
    rw [this] at q2; cases q2
  · exact hij
  · obtain ⟨q1, q2⟩ := h.hi_le hb ha hij
    rw [q1, Bool.false_or] at b2
    have := klt_le_lt a1 b2
    rw [this] at q2; cases q2
/-- The slots ahead of a node. -/
def slPos (l : List Nd) (i : Nat) : Nat := ((l.take i).map fun nd => nd.pg.sl.length).sum
theorem slPos_succ (ha : l[i]? = some a) : slPos l (i + 1) = slPos l i + a.pg.sl.length := by
  unfold slPos
  rw [List.take_add_one, ha]; simp
theorem slPos_all : ∀ l : List Nd, slPos l l.length = (l.flatMap fun nd => nd.pg.sl).length
  | [] => rfl
  | x :: l => by
    have e0 : slPos (x :: l) (l.length + 1) = x.pg.sl.length + slPos l l.length := by simp [slPos]
    rw [List.length_cons, e0, slPos_all l]; simp
end
section
variable {d : Cfg} {ks : List ByteArray} {hide : Bool} {L : List Cel} {t : List (List Nd)} {l : List Nd} {i p : Nat} {a : Nd} {key : ByteArray} {s : Sl}
end
end Go.Proofs.YtlpdhhhgckpcfaaGreat
