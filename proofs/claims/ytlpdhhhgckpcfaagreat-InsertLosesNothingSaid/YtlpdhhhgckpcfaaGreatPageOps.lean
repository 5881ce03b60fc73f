
/- slices.Grow of nothing, slices.Clone and slices.Concat at slots. page.Insert and page.Split. keys.Separator and page.Split. -/
import Derived.Test.YtlpdhhhgckpcfaaGreatBaseA
import Derived.Test.YtlpdhhhgckpcfaaGreatNodeB
import Derived.Test.YtlpdhhhgckpcfaaGreatKeys
import Derived.Test.YtlpdhhhgckpcfaaGreatGrA
import Derived.Test.YtlpdhhhgckpcfaaGreatPageA
namespace Go.Proofs.YtlpdhhhgckpcfaaGreat
open Go.RowKit
set_option maxRecDepth 100000
theorem St.row_which {K : Know} {w : World} {F : List Comp} {a : Option Addr} {n cap : Nat} {T : TypeId} {size : Nat} {xs : List Value} (h : St K w (rowC (.slice a n cap) T size n xs :: F)) : (a = none ∧ n = 0 ∧ cap = 0) ∨ (∃ g, a = some ⟨g, 0, none⟩ ∧ n ≤ cap) := by
  obtain ⟨hl, k⟩ := h.head
  rcases k with ⟨hv, h0⟩ | ⟨g, cap', cur, hv, hB, hc, h1, h2, h3, h4⟩
  · simp only [Value.slice.injEq] at hv
    exact .inl ⟨hv.1, h0, hv.2.2⟩
  · simp only [Value.slice.injEq] at hv
    exact .inr ⟨g, hv.1, by omega⟩
/-- append(nil, make([]T, n)...). -/
theorem run_append_zeros {P : Program} (w : World) (t u ty e : TypeId) (i : TypeInfo) (z : Value) (size bytes : Nat) (ht : P.underlying t = some (.slice e)) (hu : P.underlying u = some (.int .i64)) (hi : P.info? e = some i) (hz : i.zero = some z) (hsize : i.size = size) (hby : i.bytes = bytes) (hzs : z.cells.size = size) (hsz : 0 < size) (hb : bytes ≤ 64) (n : Nat) (h0 : 0 < n) (hn : n ≤ 1000000) :
    ∃ c w' cur, (Builtin.append_ #[t, u] ty #[.slice none 0 0, .int .i64 n]).run P w = .ok (.slice (some ⟨w.heap.size, 0, none⟩) n c) w' ∧ n ≤ c ∧ c ≤ maxLen ∧ w'.heap[w.heap.size]? = some (.cells cur e (0, 0)) ∧ cur.size = c * size ∧ w.grownBy w' none := by
  subst hsize
  subst hby
  have hge := grownCap_ge w n 0 e
  have hcm : grownCap w n 0 e ≤ maxLen := grownCap_le_maxLen w n 0 e (by unfold maxLen; omega)
  have hw : IntKind.i64.wrap (n : Int) = n := by rw [IntKind.wrap_i64]; omega
  have h1 : ¬ ((n : Int) < 0) := by omega
  have hmul : n * i.bytes ≤ 1000000 * 64 := Nat.mul_le_mul hn hb
  have h2 : ¬ (281474976710656 < (n : Int) * (i.bytes : Int)) := by
    have : (n : Int) * (i.bytes : Int) = ((n * i.bytes : Nat) : Int) := by rw [Int.natCast_mul]
    rw [this]; omega
  have h3 : ¬ (9223372036854775807 < (n : Int)) := by omega
  have h4 : ¬ (281474976710656 < Builtin.nextslicecap n 0 * i.bytes) := by rw [nextslicecap_zero h0]; omega
  have h5 : ¬ (n * i.size = 0) := by
    have := Nat.mul_pos h0 hsz; omega
  have h6 : n ≠ 0 := by omega
  refine ⟨grownCap w n 0 e, w.drew.alloc (.cells (Builtin.zeroCells z.cells n ++ Builtin.zeroCells z.cells (grownCap w n 0 e - n)) e), _, ?_, hge, hcm, heap_alloc_new w.drew _, ?_, ⟨rfl, rfl, rfl, by simp, fun k hk _ => heap_alloc_old w.drew _ hk⟩⟩
  · simp [Builtin.append_, run_underlying ht, run_underlying hu, sizeOf, typeInfo, zeroValue, hi, hz, hw, h1, h2, h3, h4, h5, h6, asInt, asIntOf, Builtin.firstCells, Question.forced, newRow, grownCap]
  · simp only [Array.size_append, size_zeroCells, hzs, ← Nat.add_mul]
    congr 1
    omega
section
variable {K : Know} {w : World} {F : List Comp}
theorem St.grown1 {w' : World} {c : Comp} (hs : St K w F) (hg : w.grownBy w' none) (hc : c.ok w') (hf : ∀ b, b ∈ c.foot → b = w.heap.size) (hn : c.foot.Nodup) : St K w' (c :: F) := by
  refine St.chg (ms := []) (ms' := [c]) (F := F) hs ⟨hg.os, hg.tape, hg.output, hg.size, fun k hk hn => hg.block k hk (by simp)⟩ (fun c' hc' => ?_) (fun b hb => ?_) ?_
  · simp at hc'; subst hc'; exact hc
  · right
    have := hf b (by simpa [feet] using hb)
    omega
  · simpa [feet] using hn
/-- append(nil, make([]T, n)...), a step: what is behind 0 elements. -/
theorem append_zeros_st {ops : Array Oper} {rest : List Oper} {o : Oper} {a : Act} {Q : Exit → Act → World → Prop} (s x : Operand) (t u e : TypeId) (i : TypeInfo) (z : Value) (size bytes n : Nat) (hs : St K w F)
    (hgd : o.guard = none) (ho : o.op = .call { callee := .builtin .append, args := #[s, x], argTypes := #[t, u] })
    (ht : Tryz.prog.underlying t = some (.slice e)) (hu : Tryz.prog.underlying u = some (.int .i64)) (hi : Tryz.prog.info? e = some i) (hz : i.zero = some z) (hsize : i.size = size) (hby : i.bytes = bytes) (hzs : z.cells.size = size) (hsz : 0 < size) (hb : bytes ≤ 64) (h0 : 0 < n) (hn : n ≤ 1000000)
    (hes : a.eval s = .slice none 0 0) (hx : a.eval x = .int .i64 n)
    (h : ∀ g c w', n ≤ c → St K w' (rowC (.slice (some ⟨g, 0, none⟩) 0 c) e size 0 [] :: F) → wpList Tryz.prog ops Q rest (a.put o.dst (.slice (some ⟨g, 0, none⟩) n c)) w') : wpList Tryz.prog ops Q (o :: rest) a w := by
  obtain ⟨c, w', cur, hr, hge, hcm, hheap, hcs, hg⟩ := run_append_zeros (P := Tryz.prog) w t u o.type e i z size bytes ht hu hi hz hsize hby hzs hsz hb n h0 hn
  have hs' : St K w' (rowC (.slice (some ⟨w.heap.size, 0, none⟩) 0 c) e size 0 [] :: F) :=
    hs.grown1 hg ⟨by simp, .inr ⟨w.heap.size, c, cur, rfl, Nat.zero_le _, hheap, Nat.zero_le _, hcm, hcs, by simp⟩⟩ (fun b hb => by simpa [rowC, Value.ownBlock] using hb) (by simp [rowC, Value.ownBlock])
  refine wpList_plain hgd fun K' hK => ?_
  unfold Oper.wp execOp
  simp only [ho, resolve, invoke, builtin, Sem.run_bind, Sem.run_pure, Result.andThen_ok, List.map_toArray, List.map_cons, List.map_nil, hes, hx, hr]
  exact hK _ _ (h _ c w' hge hs')
/-- append(s[:0:0], x...), a step. -/
theorem append_fresh_st {ops : Array Oper} {rest : List Oper} {o : Oper} {a : Act} {Q : Exit → Act → World → Prop} (s x : Operand) (t e : TypeId) (i : TypeInfo) (z : Value) (size bytes m c : Nat) (b ad : Addr) (news : List Value) (hs : St K w F)
    (hgd : o.guard = none) (ho : o.op = .call { callee := .builtin .append, args := #[s, x], argTypes := #[t, t] })
    (ht : Tryz.prog.underlying t = some (.slice e)) (hi : Tryz.prog.info? e = some i) (hz : i.zero = some z) (hsize : i.size = size) (hby : i.bytes = bytes) (hzs : z.cells.size = size) (hsz : 0 < size) (hb64 : bytes ≤ 64) (h0 : 0 < m) (hn : m ≤ 1000000)
    (hes : a.eval s = .slice (some b) 0 0) (hx : a.eval x = .slice (some ad) m c) (hl : news.length = m * size) (hnews : ∀ j u, news[j]? = some u → w.cell? (ad.add j) = some u)
    (h : ∀ v' w', St K w' (rowC v' e size m news :: F) → wpList Tryz.prog ops Q rest (a.put o.dst v') w') : wpList Tryz.prog ops Q (o :: rest) a w := by
  have hbytes : (0 + m) * bytes ≤ 140737488355328 := by
    calc (0 + m) * bytes ≤ 1000000 * 64 := Nat.mul_le_mul (by omega) hb64
      _ ≤ 140737488355328 := by decide
  obtain ⟨v', w', hr, hown, hg⟩ := run_append_arg_grows (P := Tryz.prog) (w := w) t o.type e i z size bytes ht hi hz hsize hby hzs hsz b 0 0 [] (by simp) (fun j u hj => by simp at hj) ad m c news hl hnews (by omega) (by unfold maxLen; omega) hbytes
  simp only [List.nil_append, Nat.zero_add] at hown
  have hs' : St K w' (rowC v' e size m news :: F) := by
    obtain ⟨h1, h2⟩ := hown
    rcases h2 with ⟨_, h2⟩ | ⟨g, cap, cur, hv, hgb, hc, r⟩
    · omega
    · have hlt : g < w'.heap.size := blk_lt hc
      refine hs.new (ms := [rowC v' e size m news]) ⟨hg.os, hg.tape, hg.output, hg.size, fun k hk => hg.block k hk (by simp)⟩ (fun c' hc' => ?_) (fun b' hb' => ?_) ?_
      · simp at hc'; subst hc'
        exact ⟨h1, .inr ⟨g, cap, cur, hv, Nat.zero_le _, hc, r⟩⟩
      · rw [hv] at hb'
        simp [feet, rowC, Value.ownBlock] at hb'
        omega
      · rw [hv]; simp [feet, rowC, Value.ownBlock]
  refine wpList_plain hgd fun K' hK => ?_
  unfold Oper.wp execOp
  simp only [ho, resolve, invoke, builtin, Sem.run_bind, Sem.run_pure, Result.andThen_ok, List.map_toArray, List.map_cons, List.map_nil, hes, hx, hr]
  exact hK _ _ (h v' w' hs')
theorem slGrow_st (n : Nat) (hn : n ≤ 1000000) (hs : St K w F) :
    Calls Tryz.prog 161 #[.slice none 0 0, .int .i64 n] w fun e w' => ∃ a c, e = .returned (.slice a 0 c) ∧ St K w' (rowC (.slice a 0 c) 69 2 0 [] :: F) := by
  by_cases h0 : 0 < n
  · obtain ⟨iv, hiv0, hiv1, hiv2, hiv3⟩ := info_parts infoSlot
    have Hi0 := Lib.hid hiv0
    have Hi1 := Lib.hid hiv1
    have Hi2 := Lib.hid hiv2
    have Hi3 := Lib.hid hiv3
    clear hiv0 hiv1 hiv2 hiv3
    have Hs := Lib.hid hs
    clear hs
    go_enter Tryz.func161, Tryz.ntmps161
    go_wp2_with (at_builtin; refine append_zeros_st _ _ 41 3 69 iv (.agg #[.string ⟨#[]⟩, .int .u64 0]) 2 24 n Hs.out rfl rfl Tryz.underlying41 Tryz.underlying3 Hi0.out Hi1.out Hi2.out Hi3.out rfl (by decide) (by decide) h0 hn rfl rfl ?_)
    intro g c w' hc hs
    go_wp2
    go_ret
    exact ⟨_, _, rfl, hs⟩
  · obtain rfl : n = 0 := by omega
    go_enter Tryz.func161, Tryz.ntmps161
    go_wp2
    go_ret
    exact ⟨none, 0, rfl, hs.row_nil⟩
theorem eql_slots (ad : Addr) (n cap : Nat) (w : World) : (binOp .eql 41 (.slice (some ad) n cap) (.slice none 0 0)).run Tryz.prog w = .ok (.bool false) w := by kernel_rfl
theorem slClone_st {ad : Addr} {cap : Nat} {l : List Sl} (hl : SlAt w (some ad) l) (hn : 0 < l.length) (hn2 : l.length ≤ 1000000) (hs : St K w F) :
    Calls Tryz.prog 164 #[.slice (some ad) l.length cap] w fun e w' => ∃ a' c, e = .returned (.slice a' l.length c) ∧ St K w' (rowC (.slice a' l.length c) 69 2 l.length (slRow l) :: F) := by
  obtain ⟨iv, hiv0, hiv1, hiv2, hiv3⟩ := info_parts infoSlot
  have Hi0 := Lib.hid hiv0
  have Hi1 := Lib.hid hiv1
  have Hi2 := Lib.hid hiv2
  have Hi3 := Lib.hid hiv3
  clear hiv0 hiv1 hiv2 hiv3
  have Hs := Lib.hid (hs.pass (.cells #[] 69))
  have hl := hl.same ((Below.refl w.heap.size w).alloc (Nat.le_refl _) (.cells #[] 69))
  have Hlen := Lib.hid (slRow_length l)
  have Hnews : Hid (∀ j u, (slRow l)[j]? = some u → (w.alloc (.cells #[] 69)).cell? (ad.add j) = some u) := Lib.hid (fun j u hu => by
    obtain ⟨g, off, e, hc⟩ := hl.news j u hu
    simp only [Option.some.injEq] at e
    subst e
    have : (⟨g, off, none⟩ : Addr).add j = ⟨g, off + j, none⟩ := by
      unfold Addr.add
      split
      · rename_i h; rw [h]; rfl
      · rfl
    rw [this]; exact hc)
  clear hs hl
  have hq := eql_slots ad l.length cap w
  go_enter Tryz.func164, Tryz.ntmps164
  go_wp2_with (at_builtin; refine append_fresh_st _ _ 41 69 iv (.agg #[.string ⟨#[]⟩, .int .u64 0]) 2 24 l.length cap ⟨w.heap.size, 0, none⟩ ad (slRow l) Hs.out rfl rfl Tryz.underlying41 Hi0.out Hi1.out Hi2.out Hi3.out rfl (by decide) (by decide) hn hn2 rfl rfl Hlen.out Hnews.out ?_)
  intro v' w' hs
  obtain ⟨a', c', rfl, _, _⟩ := hs.row_read
  go_wp2
  go_ret
  exact ⟨_, _, rfl, hs⟩
/-- The first i parts, one behind the other. -/
def catX (X : Nat → List Sl) : Nat → List Sl
  | 0 => []
  | i + 1 => catX X i ++ X i
theorem catX_len {X : Nat → List Sl} {k : Nat} (h : ∀ i, i < k → (X i).length ≤ 1000) : ∀ j, j ≤ k → (catX X j).length ≤ j * 1000
  | 0, _ => Nat.le_refl _
  | j + 1, hj => by
    have h1 := catX_len h j (by omega)
    have h2 := h j (by omega)
    show (catX X j ++ X j).length ≤ _
    rw [List.length_append]; omega
set_option maxHeartbeats 2000000 in
theorem slConcat_st {bs : Nat} {A : Nat → Option Addr} {C : Nat → Nat} {X : Nat → List Sl} (k : Nat) (hk : k ≤ 3) (hlen : ∀ i, i < k → (X i).length ≤ 1000)
    (hsrc : ∀ W R, St K W (R ++ F) → ∀ i, i < k → SlAt W (A i) (X i) ∧ W.cell? ⟨bs, i, none⟩ = some (.slice (A i) (X i).length (C i))) (hs : St K w F) :
    Calls Tryz.prog 132 #[.slice (some ⟨bs, 0, none⟩) k k] w fun e w' => ∃ a c, e = .returned (.slice a (catX X k).length c) ∧ St K w' (rowC (.slice a (catX X k).length c) 69 2 (catX X k).length (slRow (catX X k)) :: F) := by
  obtain ⟨iv, hiv0, hiv1, hiv2, hiv3⟩ := info_parts infoSlot
  have Hi0 := Lib.hid hiv0
  have Hi1 := Lib.hid hiv1
  have Hi2 := Lib.hid hiv2
  have Hi3 := Lib.hid hiv3
  have Hsrc := Lib.hid hsrc
  have Hlen := Lib.hid (catX_len hlen)
  have Hl := Lib.hid hlen
  clear hiv0 hiv1 hiv2 hiv3 hsrc hlen
  go_enter Tryz.func132, Tryz.ntmps132
  go_wp2_with fail
  go_loopw [3, 5, 11] (fun v3 _ v11 wr => ∃ j : Nat, j ≤ k ∧ v3 = .int .i64 ((catX X j).length : Nat) ∧ v11 = .int .i64 j ∧ St K wr F) (fun _ _ v11 _ => k - (intOf v11).toNat)
  case atStart => exact ⟨0, by omega, rfl, rfl, hs⟩
  case round =>
    clear hs
    obtain ⟨j, hj, rfl, rfl, hs⟩ := hrel
    by_cases hjk : j < k
    · obtain ⟨_, c0⟩ := Hsrc.out wr [] hs j hjk
      have h1 := Hlen.out j (by omega)
      have h2 := Hl.out j hjk
      have e : (catX X (j + 1)).length = (catX X j).length + (X j).length := by show (catX X j ++ X j).length = _; rw [List.length_append]
      have E := Lib.hid e
      have hw : wrap64 (((catX X j).length : Int) + ((X j).length : Int)) = ((catX X j).length : Int) + ((X j).length : Int) := by unfold wrap64; omega
      clear e
      go_wp2
      go_roundw
      case rel => exact ⟨j + 1, by omega, by rw [E.out]; go_num, by go_num, hs⟩
      case measure => simp [intOf]; omega
    · obtain rfl : j = k := by omega
      have h1 := Hlen.out j (by omega)
      have q := slGrow_st (catX X j).length (by omega) hs
      have Q := Lib.hid q
      clear q hs
      go_wp2_with fail
      refine (Q.out).mono ?_
      rintro e w2 ⟨a, c, rfl, hs⟩
      clear Q hjk hj
      go_wp2_with fail
      go_loopw [6, 8, 27] (fun v6 _ v27 wr => ∃ (i : Nat) (a : Option Addr) (c : Nat), i ≤ j ∧ v6 = .slice a (catX X i).length c ∧ v27 = .int .i64 i ∧ St K wr (rowC (.slice a (catX X i).length c) 69 2 (catX X i).length (slRow (catX X i)) :: F)) (fun _ _ v27 _ => j - (intOf v27).toNat)
      case atStart => exact ⟨0, a, c, by omega, rfl, rfl, hs⟩
      case round =>
        clear hs
        obtain ⟨i, a, c, hi, rfl, rfl, hs⟩ := hrel
        by_cases hij : i < j
        · obtain ⟨hsl, c0⟩ := Hsrc.out wr [_] hs i hij
          have h2 := Hlen.out i (by omega)
          have h3 := Hl.out i hij
          have H0 : Hid (A i = none → (X i).length = 0) := Lib.hid (fun e => by rw [e] at hsl; rw [hsl.no]; rfl)
          have Hnews := Lib.hid hsl.news
          have Hone := Lib.hid (slRow_one (X i))
          have Hxl := Lib.hid (slRow_length (X i))
          have E : Hid (slRow (catX X (i + 1)) = slRow (catX X i) ++ slRow (X i) ∧ (catX X (i + 1)).length = (catX X i).length + (X i).length) := Lib.hid ⟨by show slRow (catX X i ++ X i) = _; simp [slRow], by show (catX X i ++ X i).length = _; rw [List.length_append]⟩
          have Hs := Lib.hid hs
          clear hs hsl
          go_wp2_with (at_builtin; refine append_row_st _ _ 41 69 _ (catX X i).length (X i).length (C i) 2 24 _ (slRow (X i)) (.agg #[.string ⟨#[]⟩, .int .u64 0]) iv (A i) Hs.out rfl rfl Tryz.underlying41 Hi0.out Hi1.out Hi2.out Hi3.out rfl (by decide) rfl rfl Hxl.out H0.out Hnews.out Hone.out (by omega) (by decide) ?_)
          intro v' w' hs
          rw [← E.out.1, ← E.out.2] at hs
          obtain ⟨a', c', hv, _, _⟩ := hs.row_read
          subst hv
          clear c0
          go_wp2
          go_roundw
          case rel => exact ⟨i + 1, a', c', by omega, rfl, by go_num, hs⟩
          case measure => simp [intOf]; omega
        · obtain rfl : i = j := by omega
          go_wp2
          go_ret
          exact ⟨a, c, rfl, hs⟩
end
end Go.Proofs.YtlpdhhhgckpcfaaGreat

namespace Go.Proofs.YtlpdhhhgckpcfaaGreat
open Go.RowKit
set_option maxRecDepth 100000
/-- The slots with a further one. -/
def insSl (l : List Sl) (key : ByteArray) (r : Int) : List Sl := l.take (loK l key) ++ ⟨key, r⟩ :: l.drop (loK l key)
def insPg (pg : Pg) (key : ByteArray) (r : Int) : Pg := ⟨pg.lev, insSl pg.sl key r, pg.hi, pg.la, pg.ri⟩
theorem insSl_length (l : List Sl) (key : ByteArray) (r : Int) : (insSl l key r).length = l.length + 1 := by
  have := loK_le l key
  unfold insSl
  rw [List.length_append, List.length_cons, List.length_take, List.length_drop]; omega
theorem SlAt.take {W : World} {a : Option Addr} {l : List Sl} (h : SlAt W a l) (k : Nat) : SlAt W a (l.take k) := by
  refine ⟨by rw [List.length_take]; have := h.1; omega, fun i s hs => h.2 i s ?_⟩
  rw [List.getElem?_take] at hs
  split at hs
  · exact hs
  · cases hs
theorem SlAt.drop {W : World} {g : Nat} {l : List Sl} (h : SlAt W (some ⟨g, 0, none⟩) l) (k : Nat) : SlAt W (some ⟨g, k * 2, none⟩) (l.drop k) := by
  refine ⟨by rw [List.length_drop]; have := h.1; omega, fun i s hs => ?_⟩
  rw [List.getElem?_drop] at hs
  obtain ⟨b, off, e, h1, h2, h3⟩ := h.2 (k + i) s hs
  simp only [Option.some.injEq, Addr.mk.injEq, and_true] at e
  obtain ⟨rfl, rfl⟩ := e
  refine ⟨g, k * 2, rfl, h1, ?_, ?_⟩
  · rw [← h2]; congr 2; omega
  · rw [← h3]; congr 2; omega
theorem SlAt.nil {W : World} {a : Option Addr} : SlAt W a [] := ⟨by simp, fun i s hs => by simp at hs⟩
theorem SlAt.one {K : Know} {W : World} {F : List Comp} {b : Nat} {key : ByteArray} {r : Int} (h : St K W (blk b (.cells #[.string key, .int .u64 r] 69) :: F)) : SlAt W (some ⟨b, 0, none⟩) [⟨key, r⟩] := by
  refine ⟨by simp, fun i s hs => ?_⟩
  cases i with
  | zero =>
    simp at hs; subst hs
    exact ⟨b, 0, rfl, h.n0, h.k0 0, h.k0 1⟩
  | succ i => simp at hs
/-- While the region of Insert runs: the new slot's block (7), the three slices (12), the new row (13), the page that has it (15). -/
def PiR (K : Know) (REST : List Comp) (bp : Nat) (pg pg' : Pg) (va v0 v2 : Value) (key : ByteArray) (r : Int) (N : Nat) (ρ : Nat → Option Value) (W : World) : Prop :=
  ∃ (b7 b12 : Nat) (an : Option Addr) (cn : Nat), (∀ v, ρ 7 = some v → v = .slice (some ⟨b7, 0, none⟩) 1 1) ∧ (∀ v, ρ 12 = some v → v = .slice (some ⟨b12, 0, none⟩) 3 3) ∧ (∀ v, ρ 13 = some v → v = .slice an N cn) ∧
    St K W (optC (ρ 7) (blk b7 (.cells #[.string key, .int .u64 r] 69)) :: optC (ρ 12) (blk b12 (.cells #[v0, .slice (some ⟨b7, 0, none⟩) 1 1, v2] 41)) :: optC (ρ 13) (rowC (.slice an N cn) 69 2 N (slRow pg'.sl)) ::
      blk bp (.cells (if (ρ 15).isSome then #[.int .i64 (pg').lev, (.slice an N cn), .string (pg').hi, .bool (pg').la, .int .u64 (pg').ri] else #[.int .i64 (pg).lev, va, .string (pg).hi, .bool (pg).la, .int .u64 (pg).ri]) 43) :: REST)
section
variable {K : Know} {REST : List Comp} {bp : Nat} {pg pg' : Pg} {va v0 v2 : Value} {key : ByteArray} {r : Int} {N : Nat} {ρ : Nat → Option Value} {W : World} {v7 v12 v13 : Value}
theorem PiR.start (hs : St K W (blk bp (.cells #[.int .i64 (pg).lev, va, .string (pg).hi, .bool (pg).la, .int .u64 (pg).ri] 43) :: REST)) : PiR K REST bp pg pg' va v0 v2 key r N (fun _ => none) W :=
  ⟨0, 0, none, 0, fun v h => (by cases h), fun v h => (by cases h), fun v h => (by cases h), hs.empty.empty.empty⟩
theorem PiR.same {W' : World} (h : PiR K REST bp pg pg' va v0 v2 key r N ρ W) (hb : Below W.heap.size W W') : PiR K REST bp pg pg' va v0 v2 key r N ρ W' := by
  obtain ⟨b7, b12, an, cn, e1, e2, e3, hs⟩ := h
  exact ⟨b7, b12, an, cn, e1, e2, e3, hs.same hb⟩
theorem PiR.page (h : PiR K REST bp pg pg' va v0 v2 key r N ρ W) (h15 : ρ 15 = none) : St K W (blk bp (.cells #[.int .i64 (pg).lev, va, .string (pg).hi, .bool (pg).la, .int .u64 (pg).ri] 43) :: REST) := by
  obtain ⟨b7, b12, an, cn, e1, e2, e3, hs⟩ := h
  rw [h15] at hs
  exact hs.tail.tail.tail
theorem PiR.e7 (h : PiR K REST bp pg pg' va v0 v2 key r N ρ W) (h7 : ρ 7 = none) (h12 : ρ 12 = none) : PiR K REST bp pg pg' va v0 v2 key r N (upd ρ 7 (.slice (some ⟨W.heap.size, 0, none⟩) 1 1)) (W.alloc (.cells #[.string key, .int .u64 r] 69)) := by
  obtain ⟨b7, b12, an, cn, e1, e2, e3, hs⟩ := h
  rw [h7, h12] at hs
  refine ⟨W.heap.size, b12, an, cn, fun v h => by simpa [upd] using h.symm, fun v h => ?_, fun v h => e3 v (by simpa [upd] using h), ?_⟩
  · have : ρ 12 = some v := by simpa [upd] using h
    rw [h12] at this; cases this
  · have : St K (W.alloc (.cells #[.string key, .int .u64 r] 69)) (optC (some (.slice (some ⟨W.heap.size, 0, none⟩) 1 1)) (blk W.heap.size (.cells #[.string key, .int .u64 r] 69)) :: optC none (blk b12 (.cells #[v0, .slice (some ⟨W.heap.size, 0, none⟩) 1 1, v2] 41)) :: _) := hs.tail.made (.cells #[.string key, .int .u64 r] 69)
    simpa [upd, h12] using this
theorem PiR.e12 (h : PiR K REST bp pg pg' va v0 v2 key r N ρ W) (h7 : ρ 7 = some v7) (h12 : ρ 12 = none) : ∃ b7 : Nat, v7 = .slice (some ⟨b7, 0, none⟩) 1 1 ∧
    PiR K REST bp pg pg' va v0 v2 key r N (upd ρ 12 (.slice (some ⟨W.heap.size, 0, none⟩) 3 3)) (W.alloc (.cells #[v0, .slice (some ⟨b7, 0, none⟩) 1 1, v2] 41)) := by
  obtain ⟨b7, b12, an, cn, e1, e2, e3, hs⟩ := h
  rw [h12] at hs
  refine ⟨b7, e1 v7 h7, b7, W.heap.size, an, cn, fun v h => e1 v (by simpa [upd] using h), fun v h => by simpa [upd] using h.symm, fun v h => e3 v (by simpa [upd] using h), ?_⟩
  have h2 : St K W (emptyC :: optC (ρ 7) (blk b7 (.cells #[.string key, .int .u64 r] 69)) :: _) := hs.b1
  have h3 := (h2.tail.made (.cells #[v0, .slice (some ⟨b7, 0, none⟩) 1 1, v2] 41)).b1
  have : St K (W.alloc (.cells #[v0, .slice (some ⟨b7, 0, none⟩) 1 1, v2] 41)) (optC (ρ 7) (blk b7 (.cells #[.string key, .int .u64 r] 69)) :: optC (some (.slice (some ⟨W.heap.size, 0, none⟩) 3 3)) (blk W.heap.size (.cells #[v0, .slice (some ⟨b7, 0, none⟩) 1 1, v2] 41)) :: _) := h3
  simpa [upd] using this
theorem PiR.e13 (h : PiR K REST bp pg pg' va v0 v2 key r N ρ W) (h7 : ρ 7 = some v7) (h12 : ρ 12 = some v12) (h13 : ρ 13 = none) (h15 : ρ 15 = none) : ∃ b7 b12 : Nat, v12 = .slice (some ⟨b12, 0, none⟩) 3 3 ∧
    St K W (blk b7 (.cells #[.string key, .int .u64 r] 69) :: blk b12 (.cells #[v0, .slice (some ⟨b7, 0, none⟩) 1 1, v2] 41) :: blk bp (.cells #[.int .i64 (pg).lev, va, .string (pg).hi, .bool (pg).la, .int .u64 (pg).ri] 43) :: REST) ∧
    ∀ (an : Option Addr) (cn : Nat) W', St K W' (rowC (.slice an N cn) 69 2 N (slRow pg'.sl) :: blk b7 (.cells #[.string key, .int .u64 r] 69) :: blk b12 (.cells #[v0, .slice (some ⟨b7, 0, none⟩) 1 1, v2] 41) :: blk bp (.cells #[.int .i64 (pg).lev, va, .string (pg).hi, .bool (pg).la, .int .u64 (pg).ri] 43) :: REST) → PiR K REST bp pg pg' va v0 v2 key r N (upd ρ 13 (.slice an N cn)) W' := by
  obtain ⟨b7, b12, an, cn, e1, e2, e3, hs⟩ := h
  rw [h7, h12, h13, h15] at hs
  have hs : St K W (blk b7 (.cells #[.string key, .int .u64 r] 69) :: blk b12 (.cells #[v0, .slice (some ⟨b7, 0, none⟩) 1 1, v2] 41) :: emptyC :: blk bp (.cells #[.int .i64 (pg).lev, va, .string (pg).hi, .bool (pg).la, .int .u64 (pg).ri] 43) :: REST) := hs
  refine ⟨b7, b12, e2 v12 h12, (hs.re [2, 0, 1, 3] rfl).tail, fun an' cn' W' hs' => ⟨b7, b12, an', cn', fun v h => e1 v (by simpa [upd] using h), fun v h => e2 v (by simpa [upd] using h), fun v h => by simpa [upd] using h.symm, ?_⟩⟩
  have : St K W' (optC (some v7) (blk b7 (.cells #[.string key, .int .u64 r] 69)) :: optC (some v12) (blk b12 (.cells #[v0, .slice (some ⟨b7, 0, none⟩) 1 1, v2] 41)) :: optC (some (.slice an' N cn')) (rowC (.slice an' N cn') 69 2 N (slRow pg'.sl)) :: blk bp (.cells #[.int .i64 (pg).lev, va, .string (pg).hi, .bool (pg).la, .int .u64 (pg).ri] 43) :: REST) := hs'.re [1, 2, 0, 3] rfl
  simpa [upd, h7, h12, h15] using this
theorem PiR.e15 (h : PiR K REST bp pg pg' va v0 v2 key r N ρ W) (h13 : ρ 13 = some v13) (h15 : ρ 15 = none) : ∃ (an : Option Addr) (cn : Nat) (R' : List Comp), v13 = .slice an N cn ∧ St K W (blk bp (.cells #[.int .i64 (pg).lev, va, .string (pg).hi, .bool (pg).la, .int .u64 (pg).ri] 43) :: R') ∧
    ∀ W', St K W' (blk bp (.cells #[.int .i64 (pg').lev, (.slice an N cn), .string (pg').hi, .bool (pg').la, .int .u64 (pg').ri] 43) :: R') → PiR K REST bp pg pg' va v0 v2 key r N (upd ρ 15 undef) W' := by
  obtain ⟨b7, b12, an, cn, e1, e2, e3, hs⟩ := h
  rw [h15] at hs
  refine ⟨an, cn, _, e3 v13 h13, hs.b3, fun W' hs' => ⟨b7, b12, an, cn, fun v h => e1 v (by simpa [upd] using h), fun v h => e2 v (by simpa [upd] using h), fun v h => e3 v (by simpa [upd] using h), ?_⟩⟩
  have := hs'.u3
  simpa [upd] using this
theorem PiR.last (h : PiR K REST bp pg pg' va v0 v2 key r N ρ W) (hall : ∀ e, e ∈ [7, 12, 13, 15] → (ρ e).isSome = true) : ∃ (an : Option Addr) (cn : Nat), ρ 13 = some (.slice an N cn) ∧ (∃ v, ρ 7 = some v) ∧ (∃ v, ρ 12 = some v) ∧ (∃ v, ρ 15 = some v) ∧
    St K W (rowC (.slice an N cn) 69 2 N (slRow pg'.sl) :: blk bp (.cells #[.int .i64 (pg').lev, (.slice an N cn), .string (pg').hi, .bool (pg').la, .int .u64 (pg').ri] 43) :: REST) := by
  obtain ⟨v7, h7⟩ := Option.isSome_iff_exists.1 (hall 7 (by simp))
  obtain ⟨v12, h12⟩ := Option.isSome_iff_exists.1 (hall 12 (by simp))
  obtain ⟨v13, h13⟩ := Option.isSome_iff_exists.1 (hall 13 (by simp))
  obtain ⟨v15, h15⟩ := Option.isSome_iff_exists.1 (hall 15 (by simp))
  obtain ⟨b7, b12, an, cn, e1, e2, e3, hs⟩ := h
  rw [h7, h12, h13, h15] at hs
  exact ⟨an, cn, by rw [h13, e3 v13 h13], ⟨v7, h7⟩, ⟨v12, h12⟩, ⟨v15, h15⟩, hs.tail.tail⟩
end
-- the variants of the walk
theorem pageInsert_res (tmps : Array Value) (w : World) (b : Nat) (v0 v1 v2 v3 v4 u : Value) (hp : tmps[6]? = some (.pointer (some ⟨b, 0, none⟩))) (hq : tmps[7]? = some u) (hk : ∀ k, w.cell? ⟨b, k, none⟩ = (#[v0, v1, v2, v3, v4] : Array Value)[k]?) :
    (results Tryz.f95 tmps).run Tryz.prog w = .ok (.tuple #[.agg #[v0, v1, v2, v3, v4], u]) w := by
  simp [results, Tryz.results95, go_sem, hp, hq, hk]
theorem PiR.know19 {K : Know} {REST : List Comp} {bp : Nat} {pg pg' : Pg} {va v0 v2 : Value} {key : ByteArray} {r : Int} {N : Nat} {ρ : Nat → Option Value} {W : World} (h : PiR K REST bp pg pg' va v0 v2 key r N ρ W) (e : Nat) (he : e = 1 ∨ e = 9) (v : Value) : PiR K REST bp pg pg' va v0 v2 key r N (upd ρ e v) W := by
  rcases he with rfl | rfl
  · simpa [PiR, upd] using h
  · simpa [PiR, upd] using h
set_option maxHeartbeats 4000000 in
theorem pageInsert_lt {K : Know} {w : World} {F : List Comp} {pg : Pg} {g : Nat} {lo n cap : Nat} {key : ByteArray} {r : Int} (h1 : lo ≤ n) (h2 : n ≤ cap) (h3 : lo < cap) (hn : n = pg.sl.length) (hlo : lo = loK pg.sl key) (hno : decide (loK pg.sl key < hiK pg.sl key) = false) (hasc : Asc pg.sl) (h100 : n ≤ 100)
    (hs : St K w (rowC (.slice (some ⟨g, 0, none⟩) n cap) 69 2 n (slRow pg.sl) :: F)) :
    Calls Tryz.prog 95 #[(.agg #[.int .i64 (pg).lev, (.slice (some ⟨g, 0, none⟩) n cap), .string (pg).hi, .bool (pg).la, .int .u64 (pg).ri]), .string key, .int .u64 r] w fun e w' => ∃ a' c', e = .returned (.tuple #[(.agg #[.int .i64 ((insPg pg key r)).lev, (.slice a' (n + 1) c'), .string ((insPg pg key r)).hi, .bool ((insPg pg key r)).la, .int .u64 ((insPg pg key r)).ri]), .bool true]) ∧ St K w' (rowC (.slice a' (n + 1) c') 69 2 (n + 1) (slRow (insPg pg key r).sl) :: rowC (.slice (some ⟨g, 0, none⟩) n cap) 69 2 n (slRow pg.sl) :: F) := by
  have hs := (hs.made (.cells #[.int .i64 (pg).lev, (.slice (some ⟨g, 0, none⟩) n cap), .string (pg).hi, .bool (pg).la, .int .u64 (pg).ri] 43)).made (.cells #[.int .i64 0, .slice none 0 0, .string ⟨#[]⟩, .bool false, .int .u64 0] 43)
  rw [World.size_alloc] at hs
  have Hsl : Hid (∀ W R, St K W (R ++ rowC (.slice (some ⟨g, 0, none⟩) n cap) 69 2 n (slRow pg.sl) :: F) → SlAt W (some ⟨g, 0, none⟩) pg.sl) := Lib.hid (fun W R h => (h.right).row_slots (by omega))
  have q := find_any (cap := cap) (key := key) _ (Hsl.out _ [_, _] hs) hasc
  rw [hno, ← hn, ← hlo] at q
  have Q := Lib.hid q
  have Hn := Lib.hid hn
  have Hlo := Lib.hid hlo
  clear q hno hn hlo hasc
  obtain ⟨bp, hbp⟩ : ∃ bp, bp = w.heap.size := ⟨_, rfl⟩
  go_enter Tryz.func95, Tryz.ntmps95
  go_wp2_with fail
  refine (calls_same hs Q.out).mono ?_
  clear hs Q
  rintro e w2 ⟨rfl, hs⟩
  go_upto_region 4 with (fail)
  rw [← hbp] at hs ⊢
  have Hs := Lib.hid (hs.re [1, 0] rfl)
  clear hs hbp
  refine region_effectsK [false, true, false, false, false, false, false, true, false, true, false, false, true, true, false, true] (fun | 1 => some (.slice (some ⟨g, 0, none⟩) n cap) | 9 => some (.slice (some ⟨g, 0, none⟩) n cap) | _ => none) [1, 7, 9, 12, 13, 15] (fun | 12 => [7] | 13 => [12] | 15 => [1, 9, 13] | _ => [])
    (PiR K (blk (bp + 1) (.cells #[.int .i64 0, .slice none 0 0, .string ⟨#[]⟩, .bool false, .int .u64 0] 43) :: rowC (.slice (some ⟨g, 0, none⟩) n cap) 69 2 n (slRow pg.sl) :: F) bp pg (insPg pg key r) (.slice (some ⟨g, 0, none⟩) n cap) (.slice (some ⟨g, 0, none⟩) lo cap) (.slice (some ⟨g, lo * 2, none⟩) (n - lo) (cap - lo)) key r (n + 1))
    (fun _ => True) ?aSlt (by kernel_rfl) ?hBlt ?Hlt ?haSlt ?h0lt ?hIlt ?hRlt ?hElt ?hQlt
  case hBlt => as_aux_lemma => kernel_rfl
  case Hlt =>
    intro W2 _
    simp only [withK]
    repeat (go_big_quiet_step (fail))
    refine wpQuiet_nil ?_
    rfl
  case haSlt => rfl
  case h0lt => exact PiR.start Hs.out
  case hIlt => exact fun ρ W2 h => trivial
  case hRlt => exact fun ρ W2 W3 h hb => h.same hb
  case hElt =>
    refine ⟨?e1lt, ?e7lt, ?e9lt, ?e12lt, ?e13lt, ?e15lt, trivial⟩
    case e1lt =>
      intro o ho ρ W2 h hcl h1' hd2 af haf
      obtain rfl := Option.some.inj ho
      replace haf : af = fillD _ ρ [] _ := haf
      have h15 : ρ 15 = none := hcl.none (by simp) (show 1 ∈ [1, 9, 13] by simp) h1'
      have kp := (h.page h15).k0
      have Hk := Lib.hid (h.know19 1 (.inl rfl))
      simp only [fillD] at haf
      subst haf
      clear h hcl hd2 h1' h15
      go_wp2
      exact ⟨rfl, _, rfl, fun u hu => Option.some.inj hu, Hk.out _⟩
    case e9lt =>
      intro o ho ρ W2 h hcl h1' hd2 af haf
      obtain rfl := Option.some.inj ho
      replace haf : af = fillD _ ρ [] _ := haf
      have h15 : ρ 15 = none := hcl.none (by simp) (show 9 ∈ [1, 9, 13] by simp) h1'
      have kp := (h.page h15).k0
      have Hk := Lib.hid (h.know19 9 (.inr rfl))
      simp only [fillD] at haf
      subst haf
      clear h hcl hd2 h1' h15
      go_wp2
      exact ⟨rfl, _, rfl, fun u hu => Option.some.inj hu, Hk.out _⟩
    case e7lt =>
      intro o ho ρ W2 h hcl h7 hd2 af haf
      obtain rfl := Option.some.inj ho
      replace haf : af = fillD _ ρ [] _ := haf
      have h12 : ρ 12 = none := hcl.none (by simp) (show 7 ∈ [7] by simp) h7
      have Hk := Lib.hid (h.e7 h7 h12)
      simp only [fillD] at haf
      subst haf
      clear h hcl hd2 h7 h12
      go_wp2
      exact ⟨rfl, _, rfl, fun u hu => (by cases hu), Hk.out⟩
    case e12lt =>
      intro o ho ρ W2 h hcl h12 hd2 af haf
      obtain rfl := Option.some.inj ho
      replace haf : af = fillD _ ρ [7] _ := haf
      obtain ⟨v7, h7⟩ := Option.isSome_iff_exists.1 (hd2 7 (by show _ ∈ [7]; simp))
      obtain ⟨b7, rfl, hk⟩ := h.e12 h7 h12
      have Hk := Lib.hid hk
      simp only [fillD, h7, Option.getD_some, dstAt, List.getElem?_cons_succ, List.getElem?_cons_zero, Option.bind_some, Option.bind_none, Act.put, List.setIfInBounds_toArray, List.set_cons_zero, List.set_cons_succ] at haf
      subst haf
      clear h hk hcl hd2 h7 h12
      go_wp2
      exact ⟨rfl, _, rfl, fun u hu => (by cases hu), Hk.out⟩
    case e13lt =>
      intro o ho ρ W2 h hcl h13 hd2 af haf
      obtain rfl := Option.some.inj ho
      replace haf : af = fillD _ ρ [12] _ := haf
      obtain ⟨v12, h12⟩ := Option.isSome_iff_exists.1 (hd2 12 (by show _ ∈ [12]; simp))
      obtain ⟨v7, h7⟩ := Option.isSome_iff_exists.1 (hcl 12 (by simp) (by rw [h12]; rfl) 7 (by show _ ∈ [7]; simp))
      have h15 : ρ 15 = none := hcl.none (by simp) (show 13 ∈ [1, 9, 13] by simp) h13
      obtain ⟨b7, b12, rfl, hs, hnext⟩ := h.e13 h7 h12 h13 h15
      have Hn2 := Lib.hid hnext
      have Hcat : Hid (catX (fun i => if i = 0 then pg.sl.take lo else if i = 1 then [⟨key, r⟩] else pg.sl.drop lo) 3 = (insPg pg key r).sl ∧ (insPg pg key r).sl.length = n + 1) := Lib.hid ⟨by
        show (([] ++ pg.sl.take lo) ++ [⟨key, r⟩]) ++ pg.sl.drop lo = insSl pg.sl key r
        unfold insSl
        rw [← Hlo.out]; simp, by show (insSl pg.sl key r).length = _; rw [insSl_length, Hn.out]⟩
      have qc := slConcat_st (bs := b12) (A := fun i => if i = 0 then (some ⟨g, 0, none⟩) else if i = 1 then some ⟨b7, 0, none⟩ else (some ⟨g, lo * 2, none⟩)) (C := fun i => if i = 0 then cap else if i = 1 then 1 else (cap - lo)) (X := fun i => if i = 0 then pg.sl.take lo else if i = 1 then [⟨key, r⟩] else pg.sl.drop lo) 3 (by omega) (fun i _ => by
          have := Hn.out
          match i with
          | 0 => simp only [if_true, List.length_take]; omega
          | 1 => simp
          | i + 2 => simp only [show i + 2 ≠ 0 by omega, show i + 2 ≠ 1 by omega, if_false, List.length_drop]; omega) (fun W R hW i hi => by
          have hn' := Hn.out
          have hsW := Hsl.out W (R ++ [_, _, _, _]) (by simpa using hW)
          have hb12 := (hW.right).k1
          match i, hi with
          | 0, _ =>
            refine ⟨hsW.take lo, ?_⟩
            have := hb12 0
            simpa [List.length_take, show min lo pg.sl.length = lo by omega] using this
          | 1, _ =>
            refine ⟨SlAt.one (hW.right), ?_⟩
            have := hb12 1
            simpa using this
          | 2, _ =>
            refine ⟨?_, ?_⟩
            · show SlAt W (some ⟨g, lo * 2, none⟩) (pg.sl.drop lo)
              exact hsW.drop lo
            · have := hb12 2
              simpa [List.length_drop, ← hn'] using this) hs
      rw [Hcat.out.1, Hcat.out.2] at qc
      have Qc := Lib.hid qc
      simp only [fillD, h12, Option.getD_some, dstAt, List.getElem?_cons_succ, List.getElem?_cons_zero, Option.bind_some, Option.bind_none, Act.put, List.setIfInBounds_toArray, List.set_cons_zero, List.set_cons_succ] at haf
      subst haf
      clear h hs qc hnext hcl hd2 h7 h12 h13 h15
      go_wp2_with fail
      refine (Qc.out).mono ?_
      rintro e W3 ⟨an, cn, rfl, hs'⟩
      have Hs' := Lib.hid hs'
      clear hs'
      go_wp2
      exact ⟨rfl, _, rfl, fun u hu => (by cases hu), Hn2.out an cn W3 Hs'.out⟩
    case e15lt =>
      intro o ho ρ W2 h hcl h15 hd2 af haf
      obtain rfl := Option.some.inj ho
      replace haf : af = fillD _ ρ [1, 9, 13] _ := haf
      obtain ⟨v1, h1'⟩ := Option.isSome_iff_exists.1 (hd2 1 (by show _ ∈ [1, 9, 13]; simp))
      obtain ⟨v9, h9⟩ := Option.isSome_iff_exists.1 (hd2 9 (by show _ ∈ [1, 9, 13]; simp))
      obtain ⟨v13, h13⟩ := Option.isSome_iff_exists.1 (hd2 13 (by show _ ∈ [1, 9, 13]; simp))
      obtain ⟨an, cn, R', rfl, hs, hnext⟩ := h.e15 h13 h15
      simp only [fillD, h1', h9, h13, Option.getD_some, dstAt, List.getElem?_cons_succ, List.getElem?_cons_zero, Option.bind_some, Option.bind_none, Act.put, List.setIfInBounds_toArray, List.set_cons_zero, List.set_cons_succ] at haf
      subst haf
      have k0 := hs.k0
      have f0 := hs.f0
      have Hn2 := Lib.hid hnext
      have Hs3 : Hid (St K _ (blk bp (.cells #[.int .i64 ((insPg pg key r)).lev, (.slice an (n + 1) cn), .string ((insPg pg key r)).hi, .bool ((insPg pg key r)).la, .int .u64 ((insPg pg key r)).ri] 43) :: R')) := Lib.hid (hs.setL 1 (.slice an (n + 1) cn))
      clear h hs hnext hcl hd2 h1' h9 h13 h15
      go_wp2
      exact ⟨rfl, undef, rfl, fun u hu => (by cases hu), Hn2.out _ Hs3.out⟩
  case hQlt =>
    intro ρ W2 h hall
    obtain ⟨v1, h1'⟩ := Option.isSome_iff_exists.1 (hall 1 (by simp))
    obtain ⟨v9, h9⟩ := Option.isSome_iff_exists.1 (hall 9 (by simp))
    obtain ⟨an, cn, h13, ⟨v7, h7⟩, ⟨v12, h12⟩, ⟨v15, h15⟩, hs⟩ := h.last (fun e he => hall e (by simp at he ⊢; omega))
    simp only [fillD, h1', h7, h9, h12, h13, h15, Option.getD_some, dstAt, List.getElem?_cons_succ, List.getElem?_cons_zero, Option.bind_some, Option.bind_none, Act.put, List.setIfInBounds_toArray, List.set_cons_zero, List.set_cons_succ]
    clear h hall h1' h7 h9 h12 h13 h15
    have kp := hs.k1
    have kz := hs.k2
    have fz := hs.f2
    have hs : St K _ (blk (bp + 1) (.cells #[.int .i64 ((insPg pg key r)).lev, (.slice an (n + 1) cn), .string ((insPg pg key r)).hi, .bool ((insPg pg key r)).la, .int .u64 ((insPg pg key r)).ri] 43) :: _) := ((((hs.b2.setL 0 (.int .i64 (insPg pg key r).lev)).setL 1 (.slice an (n + 1) cn)).setL 2 (.string (insPg pg key r).hi)).setL 3 (.bool (insPg pg key r).la)).setL 4 (.int .u64 (insPg pg key r).ri)
    go_wp2
    refine bodyPost_ret (pageInsert_res _ _ (bp + 1) _ _ _ _ _ _ rfl rfl hs.k0) rfl ?_
    exact ⟨an, cn, rfl, (hs.re [1, 2, 0] rfl).drop1.drop1⟩
set_option maxHeartbeats 4000000 in
theorem pageInsert_eq {K : Know} {w : World} {F : List Comp} {pg : Pg} {g : Nat} {n : Nat} {key : ByteArray} {r : Int} (h1 : n ≤ n) (h2 : n ≤ n) (h4 : 0 < n) (hn : n = pg.sl.length) (hlo : n = loK pg.sl key) (hno : decide (loK pg.sl key < hiK pg.sl key) = false) (hasc : Asc pg.sl) (h100 : n ≤ 100)
    (hs : St K w (rowC (.slice (some ⟨g, 0, none⟩) n n) 69 2 n (slRow pg.sl) :: F)) :
    Calls Tryz.prog 95 #[(.agg #[.int .i64 (pg).lev, (.slice (some ⟨g, 0, none⟩) n n), .string (pg).hi, .bool (pg).la, .int .u64 (pg).ri]), .string key, .int .u64 r] w fun e w' => ∃ a' c', e = .returned (.tuple #[(.agg #[.int .i64 ((insPg pg key r)).lev, (.slice a' (n + 1) c'), .string ((insPg pg key r)).hi, .bool ((insPg pg key r)).la, .int .u64 ((insPg pg key r)).ri]), .bool true]) ∧ St K w' (rowC (.slice a' (n + 1) c') 69 2 (n + 1) (slRow (insPg pg key r).sl) :: rowC (.slice (some ⟨g, 0, none⟩) n n) 69 2 n (slRow pg.sl) :: F) := by
  have hs := (hs.made (.cells #[.int .i64 (pg).lev, (.slice (some ⟨g, 0, none⟩) n n), .string (pg).hi, .bool (pg).la, .int .u64 (pg).ri] 43)).made (.cells #[.int .i64 0, .slice none 0 0, .string ⟨#[]⟩, .bool false, .int .u64 0] 43)
  rw [World.size_alloc] at hs
  have Hsl : Hid (∀ W R, St K W (R ++ rowC (.slice (some ⟨g, 0, none⟩) n n) 69 2 n (slRow pg.sl) :: F) → SlAt W (some ⟨g, 0, none⟩) pg.sl) := Lib.hid (fun W R h => (h.right).row_slots (by omega))
  have q := find_any (cap := n) (key := key) _ (Hsl.out _ [_, _] hs) hasc
  rw [hno, ← hn, ← hlo] at q
  have Q := Lib.hid q
  have Hn := Lib.hid hn
  have Hlo := Lib.hid hlo
  clear q hno hn hlo hasc
  obtain ⟨bp, hbp⟩ : ∃ bp, bp = w.heap.size := ⟨_, rfl⟩
  go_enter Tryz.func95, Tryz.ntmps95
  go_wp2_with fail
  refine (calls_same hs Q.out).mono ?_
  clear hs Q
  rintro e w2 ⟨rfl, hs⟩
  go_upto_region 4 with (fail)
  rw [← hbp] at hs ⊢
  have Hs := Lib.hid (hs.re [1, 0] rfl)
  clear hs hbp
  refine region_effectsK [false, true, false, false, false, false, false, true, false, true, false, false, true, true, false, true] (fun | 1 => some (.slice (some ⟨g, 0, none⟩) n n) | 9 => some (.slice (some ⟨g, 0, none⟩) n n) | _ => none) [1, 7, 9, 12, 13, 15] (fun | 12 => [7] | 13 => [12] | 15 => [1, 9, 13] | _ => [])
    (PiR K (blk (bp + 1) (.cells #[.int .i64 0, .slice none 0 0, .string ⟨#[]⟩, .bool false, .int .u64 0] 43) :: rowC (.slice (some ⟨g, 0, none⟩) n n) 69 2 n (slRow pg.sl) :: F) bp pg (insPg pg key r) (.slice (some ⟨g, 0, none⟩) n n) (.slice (some ⟨g, 0, none⟩) n n) (.slice (some ⟨g, 0, none⟩) 0 0) key r (n + 1))
    (fun _ => True) ?aSeq (by kernel_rfl) ?hBeq ?Heq ?haSeq ?h0eq ?hIeq ?hReq ?hEeq ?hQeq
  case hBeq => as_aux_lemma => kernel_rfl
  case Heq =>
    intro W2 _
    simp only [withK]
    repeat (go_big_quiet_step (fail))
    refine wpQuiet_nil ?_
    rfl
  case haSeq => rfl
  case h0eq => exact PiR.start Hs.out
  case hIeq => exact fun ρ W2 h => trivial
  case hReq => exact fun ρ W2 W3 h hb => h.same hb
  case hEeq =>
    refine ⟨?e1eq, ?e7eq, ?e9eq, ?e12eq, ?e13eq, ?e15eq, trivial⟩
    case e1eq =>
      intro o ho ρ W2 h hcl h1' hd2 af haf
      obtain rfl := Option.some.inj ho
      replace haf : af = fillD _ ρ [] _ := haf
      have h15 : ρ 15 = none := hcl.none (by simp) (show 1 ∈ [1, 9, 13] by simp) h1'
      have kp := (h.page h15).k0
      have Hk := Lib.hid (h.know19 1 (.inl rfl))
      simp only [fillD] at haf
      subst haf
      clear h hcl hd2 h1' h15
      go_wp2
      exact ⟨rfl, _, rfl, fun u hu => Option.some.inj hu, Hk.out _⟩
    case e9eq =>
      intro o ho ρ W2 h hcl h1' hd2 af haf
      obtain rfl := Option.some.inj ho
      replace haf : af = fillD _ ρ [] _ := haf
      have h15 : ρ 15 = none := hcl.none (by simp) (show 9 ∈ [1, 9, 13] by simp) h1'
      have kp := (h.page h15).k0
      have Hk := Lib.hid (h.know19 9 (.inr rfl))
      simp only [fillD] at haf
      subst haf
      clear h hcl hd2 h1' h15
      go_wp2
      exact ⟨rfl, _, rfl, fun u hu => Option.some.inj hu, Hk.out _⟩
    case e7eq =>
      intro o ho ρ W2 h hcl h7 hd2 af haf
      obtain rfl := Option.some.inj ho
      replace haf : af = fillD _ ρ [] _ := haf
      have h12 : ρ 12 = none := hcl.none (by simp) (show 7 ∈ [7] by simp) h7
      have Hk := Lib.hid (h.e7 h7 h12)
      simp only [fillD] at haf
      subst haf
      clear h hcl hd2 h7 h12
      go_wp2
      exact ⟨rfl, _, rfl, fun u hu => (by cases hu), Hk.out⟩
    case e12eq =>
      intro o ho ρ W2 h hcl h12 hd2 af haf
      obtain rfl := Option.some.inj ho
      replace haf : af = fillD _ ρ [7] _ := haf
      obtain ⟨v7, h7⟩ := Option.isSome_iff_exists.1 (hd2 7 (by show _ ∈ [7]; simp))
      obtain ⟨b7, rfl, hk⟩ := h.e12 h7 h12
      have Hk := Lib.hid hk
      simp only [fillD, h7, Option.getD_some, dstAt, List.getElem?_cons_succ, List.getElem?_cons_zero, Option.bind_some, Option.bind_none, Act.put, List.setIfInBounds_toArray, List.set_cons_zero, List.set_cons_succ] at haf
      subst haf
      clear h hk hcl hd2 h7 h12
      go_wp2
      exact ⟨rfl, _, rfl, fun u hu => (by cases hu), Hk.out⟩
    case e13eq =>
      intro o ho ρ W2 h hcl h13 hd2 af haf
      obtain rfl := Option.some.inj ho
      replace haf : af = fillD _ ρ [12] _ := haf
      obtain ⟨v12, h12⟩ := Option.isSome_iff_exists.1 (hd2 12 (by show _ ∈ [12]; simp))
      obtain ⟨v7, h7⟩ := Option.isSome_iff_exists.1 (hcl 12 (by simp) (by rw [h12]; rfl) 7 (by show _ ∈ [7]; simp))
      have h15 : ρ 15 = none := hcl.none (by simp) (show 13 ∈ [1, 9, 13] by simp) h13
      obtain ⟨b7, b12, rfl, hs, hnext⟩ := h.e13 h7 h12 h13 h15
      have Hn2 := Lib.hid hnext
      have Hcat : Hid (catX (fun i => if i = 0 then pg.sl.take n else if i = 1 then [⟨key, r⟩] else pg.sl.drop n) 3 = (insPg pg key r).sl ∧ (insPg pg key r).sl.length = n + 1) := Lib.hid ⟨by
        show (([] ++ pg.sl.take n) ++ [⟨key, r⟩]) ++ pg.sl.drop n = insSl pg.sl key r
        unfold insSl
        rw [← Hlo.out]; simp, by show (insSl pg.sl key r).length = _; rw [insSl_length, Hn.out]⟩
      have qc := slConcat_st (bs := b12) (A := fun i => if i = 0 then (some ⟨g, 0, none⟩) else if i = 1 then some ⟨b7, 0, none⟩ else (some ⟨g, 0, none⟩)) (C := fun i => if i = 0 then n else if i = 1 then 1 else 0) (X := fun i => if i = 0 then pg.sl.take n else if i = 1 then [⟨key, r⟩] else pg.sl.drop n) 3 (by omega) (fun i _ => by
          have := Hn.out
          match i with
          | 0 => simp only [if_true, List.length_take]; omega
          | 1 => simp
          | i + 2 => simp only [show i + 2 ≠ 0 by omega, show i + 2 ≠ 1 by omega, if_false, List.length_drop]; omega) (fun W R hW i hi => by
          have hn' := Hn.out
          have hsW := Hsl.out W (R ++ [_, _, _, _]) (by simpa using hW)
          have hb12 := (hW.right).k1
          match i, hi with
          | 0, _ =>
            refine ⟨hsW.take n, ?_⟩
            have := hb12 0
            simpa [List.length_take, show min n pg.sl.length = n by omega] using this
          | 1, _ =>
            refine ⟨SlAt.one (hW.right), ?_⟩
            have := hb12 1
            simpa using this
          | 2, _ =>
            refine ⟨?_, ?_⟩
            · show SlAt W (some ⟨g, 0, none⟩) (pg.sl.drop n)
              rw [List.drop_eq_nil_of_le (by omega)]; exact SlAt.nil
            · have := hb12 2
              simpa [List.length_drop, ← hn'] using this) hs
      rw [Hcat.out.1, Hcat.out.2] at qc
      have Qc := Lib.hid qc
      simp only [fillD, h12, Option.getD_some, dstAt, List.getElem?_cons_succ, List.getElem?_cons_zero, Option.bind_some, Option.bind_none, Act.put, List.setIfInBounds_toArray, List.set_cons_zero, List.set_cons_succ] at haf
      subst haf
      clear h hs qc hnext hcl hd2 h7 h12 h13 h15
      go_wp2_with fail
      refine (Qc.out).mono ?_
      rintro e W3 ⟨an, cn, rfl, hs'⟩
      have Hs' := Lib.hid hs'
      clear hs'
      go_wp2
      exact ⟨rfl, _, rfl, fun u hu => (by cases hu), Hn2.out an cn W3 Hs'.out⟩
    case e15eq =>
      intro o ho ρ W2 h hcl h15 hd2 af haf
      obtain rfl := Option.some.inj ho
      replace haf : af = fillD _ ρ [1, 9, 13] _ := haf
      obtain ⟨v1, h1'⟩ := Option.isSome_iff_exists.1 (hd2 1 (by show _ ∈ [1, 9, 13]; simp))
      obtain ⟨v9, h9⟩ := Option.isSome_iff_exists.1 (hd2 9 (by show _ ∈ [1, 9, 13]; simp))
      obtain ⟨v13, h13⟩ := Option.isSome_iff_exists.1 (hd2 13 (by show _ ∈ [1, 9, 13]; simp))
      obtain ⟨an, cn, R', rfl, hs, hnext⟩ := h.e15 h13 h15
      simp only [fillD, h1', h9, h13, Option.getD_some, dstAt, List.getElem?_cons_succ, List.getElem?_cons_zero, Option.bind_some, Option.bind_none, Act.put, List.setIfInBounds_toArray, List.set_cons_zero, List.set_cons_succ] at haf
      subst haf
      have k0 := hs.k0
      have f0 := hs.f0
      have Hn2 := Lib.hid hnext
      have Hs3 : Hid (St K _ (blk bp (.cells #[.int .i64 ((insPg pg key r)).lev, (.slice an (n + 1) cn), .string ((insPg pg key r)).hi, .bool ((insPg pg key r)).la, .int .u64 ((insPg pg key r)).ri] 43) :: R')) := Lib.hid (hs.setL 1 (.slice an (n + 1) cn))
      clear h hs hnext hcl hd2 h1' h9 h13 h15
      go_wp2
      exact ⟨rfl, undef, rfl, fun u hu => (by cases hu), Hn2.out _ Hs3.out⟩
  case hQeq =>
    intro ρ W2 h hall
    obtain ⟨v1, h1'⟩ := Option.isSome_iff_exists.1 (hall 1 (by simp))
    obtain ⟨v9, h9⟩ := Option.isSome_iff_exists.1 (hall 9 (by simp))
    obtain ⟨an, cn, h13, ⟨v7, h7⟩, ⟨v12, h12⟩, ⟨v15, h15⟩, hs⟩ := h.last (fun e he => hall e (by simp at he ⊢; omega))
    simp only [fillD, h1', h7, h9, h12, h13, h15, Option.getD_some, dstAt, List.getElem?_cons_succ, List.getElem?_cons_zero, Option.bind_some, Option.bind_none, Act.put, List.setIfInBounds_toArray, List.set_cons_zero, List.set_cons_succ]
    clear h hall h1' h7 h9 h12 h13 h15
    have kp := hs.k1
    have kz := hs.k2
    have fz := hs.f2
    have hs : St K _ (blk (bp + 1) (.cells #[.int .i64 ((insPg pg key r)).lev, (.slice an (n + 1) cn), .string ((insPg pg key r)).hi, .bool ((insPg pg key r)).la, .int .u64 ((insPg pg key r)).ri] 43) :: _) := ((((hs.b2.setL 0 (.int .i64 (insPg pg key r).lev)).setL 1 (.slice an (n + 1) cn)).setL 2 (.string (insPg pg key r).hi)).setL 3 (.bool (insPg pg key r).la)).setL 4 (.int .u64 (insPg pg key r).ri)
    go_wp2
    refine bodyPost_ret (pageInsert_res _ _ (bp + 1) _ _ _ _ _ _ rfl rfl hs.k0) rfl ?_
    exact ⟨an, cn, rfl, (hs.re [1, 2, 0] rfl).drop1.drop1⟩
set_option maxHeartbeats 4000000 in
theorem pageInsert_ze {K : Know} {w : World} {F : List Comp} {pg : Pg} {a : Option Addr} {key : ByteArray} {r : Int} (h1 : 0 ≤ 0) (h2 : 0 ≤ 0)  (hn : 0 = pg.sl.length) (hlo : 0 = loK pg.sl key) (hno : decide (loK pg.sl key < hiK pg.sl key) = false) (hasc : Asc pg.sl) (h100 : 0 ≤ 100)
    (hs : St K w (rowC (.slice a 0 0) 69 2 0 (slRow pg.sl) :: F)) :
    Calls Tryz.prog 95 #[(.agg #[.int .i64 (pg).lev, (.slice a 0 0), .string (pg).hi, .bool (pg).la, .int .u64 (pg).ri]), .string key, .int .u64 r] w fun e w' => ∃ a' c', e = .returned (.tuple #[(.agg #[.int .i64 ((insPg pg key r)).lev, (.slice a' (0 + 1) c'), .string ((insPg pg key r)).hi, .bool ((insPg pg key r)).la, .int .u64 ((insPg pg key r)).ri]), .bool true]) ∧ St K w' (rowC (.slice a' (0 + 1) c') 69 2 (0 + 1) (slRow (insPg pg key r).sl) :: rowC (.slice a 0 0) 69 2 0 (slRow pg.sl) :: F) := by
  have hs := (hs.made (.cells #[.int .i64 (pg).lev, (.slice a 0 0), .string (pg).hi, .bool (pg).la, .int .u64 (pg).ri] 43)).made (.cells #[.int .i64 0, .slice none 0 0, .string ⟨#[]⟩, .bool false, .int .u64 0] 43)
  rw [World.size_alloc] at hs
  have Hsl : Hid (∀ W R, St K W (R ++ rowC (.slice a 0 0) 69 2 0 (slRow pg.sl) :: F) → SlAt W a pg.sl) := Lib.hid (fun W R h => (h.right).row_slots (by omega))
  have q := find_any (cap := 0) (key := key) _ (Hsl.out _ [_, _] hs) hasc
  rw [hno, ← hn, ← hlo] at q
  have Q := Lib.hid q
  have Hn := Lib.hid hn
  have Hlo := Lib.hid hlo
  clear q hno hn hlo hasc
  obtain ⟨bp, hbp⟩ : ∃ bp, bp = w.heap.size := ⟨_, rfl⟩
  go_enter Tryz.func95, Tryz.ntmps95
  go_wp2_with fail
  refine (calls_same hs Q.out).mono ?_
  clear hs Q
  rintro e w2 ⟨rfl, hs⟩
  go_upto_region 4 with (fail)
  rw [← hbp] at hs ⊢
  have Hs := Lib.hid (hs.re [1, 0] rfl)
  clear hs hbp
  refine region_effectsK [false, true, false, false, false, false, false, true, false, true, false, false, true, true, false, true] (fun | 1 => some (.slice a 0 0) | 9 => some (.slice a 0 0) | _ => none) [1, 7, 9, 12, 13, 15] (fun | 12 => [7] | 13 => [12] | 15 => [1, 9, 13] | _ => [])
    (PiR K (blk (bp + 1) (.cells #[.int .i64 0, .slice none 0 0, .string ⟨#[]⟩, .bool false, .int .u64 0] 43) :: rowC (.slice a 0 0) 69 2 0 (slRow pg.sl) :: F) bp pg (insPg pg key r) (.slice a 0 0) (.slice a 0 0) (.slice a 0 0) key r (0 + 1))
    (fun _ => True) ?aSze (by kernel_rfl) ?hBze ?Hze ?haSze ?h0ze ?hIze ?hRze ?hEze ?hQze
  case hBze => as_aux_lemma => kernel_rfl
  case Hze =>
    intro W2 _
    simp only [withK]
    repeat (go_big_quiet_step (fail))
    refine wpQuiet_nil ?_
    rfl
  case haSze => rfl
  case h0ze => exact PiR.start Hs.out
  case hIze => exact fun ρ W2 h => trivial
  case hRze => exact fun ρ W2 W3 h hb => h.same hb
  case hEze =>
    refine ⟨?e1ze, ?e7ze, ?e9ze, ?e12ze, ?e13ze, ?e15ze, trivial⟩
    case e1ze =>
      intro o ho ρ W2 h hcl h1' hd2 af haf
      obtain rfl := Option.some.inj ho
      replace haf : af = fillD _ ρ [] _ := haf
      have h15 : ρ 15 = none := hcl.none (by simp) (show 1 ∈ [1, 9, 13] by simp) h1'
      have kp := (h.page h15).k0
      have Hk := Lib.hid (h.know19 1 (.inl rfl))
      simp only [fillD] at haf
      subst haf
      clear h hcl hd2 h1' h15
      go_wp2
      exact ⟨rfl, _, rfl, fun u hu => Option.some.inj hu, Hk.out _⟩
    case e9ze =>
      intro o ho ρ W2 h hcl h1' hd2 af haf
      obtain rfl := Option.some.inj ho
      replace haf : af = fillD _ ρ [] _ := haf
      have h15 : ρ 15 = none := hcl.none (by simp) (show 9 ∈ [1, 9, 13] by simp) h1'
      have kp := (h.page h15).k0
      have Hk := Lib.hid (h.know19 9 (.inr rfl))
      simp only [fillD] at haf
      subst haf
      clear h hcl hd2 h1' h15
      go_wp2
      exact ⟨rfl, _, rfl, fun u hu => Option.some.inj hu, Hk.out _⟩
    case e7ze =>
      intro o ho ρ W2 h hcl h7 hd2 af haf
      obtain rfl := Option.some.inj ho
      replace haf : af = fillD _ ρ [] _ := haf
      have h12 : ρ 12 = none := hcl.none (by simp) (show 7 ∈ [7] by simp) h7
      have Hk := Lib.hid (h.e7 h7 h12)
      simp only [fillD] at haf
      subst haf
      clear h hcl hd2 h7 h12
      go_wp2
      exact ⟨rfl, _, rfl, fun u hu => (by cases hu), Hk.out⟩
    case e12ze =>
      intro o ho ρ W2 h hcl h12 hd2 af haf
      obtain rfl := Option.some.inj ho
      replace haf : af = fillD _ ρ [7] _ := haf
      obtain ⟨v7, h7⟩ := Option.isSome_iff_exists.1 (hd2 7 (by show _ ∈ [7]; simp))
      obtain ⟨b7, rfl, hk⟩ := h.e12 h7 h12
      have Hk := Lib.hid hk
      simp only [fillD, h7, Option.getD_some, dstAt, List.getElem?_cons_succ, List.getElem?_cons_zero, Option.bind_some, Option.bind_none, Act.put, List.setIfInBounds_toArray, List.set_cons_zero, List.set_cons_succ] at haf
      subst haf
      clear h hk hcl hd2 h7 h12
      go_wp2
      exact ⟨rfl, _, rfl, fun u hu => (by cases hu), Hk.out⟩
    case e13ze =>
      intro o ho ρ W2 h hcl h13 hd2 af haf
      obtain rfl := Option.some.inj ho
      replace haf : af = fillD _ ρ [12] _ := haf
      obtain ⟨v12, h12⟩ := Option.isSome_iff_exists.1 (hd2 12 (by show _ ∈ [12]; simp))
      obtain ⟨v7, h7⟩ := Option.isSome_iff_exists.1 (hcl 12 (by simp) (by rw [h12]; rfl) 7 (by show _ ∈ [7]; simp))
      have h15 : ρ 15 = none := hcl.none (by simp) (show 13 ∈ [1, 9, 13] by simp) h13
      obtain ⟨b7, b12, rfl, hs, hnext⟩ := h.e13 h7 h12 h13 h15
      have Hn2 := Lib.hid hnext
      have Hcat : Hid (catX (fun i => if i = 0 then pg.sl.take 0 else if i = 1 then [⟨key, r⟩] else pg.sl.drop 0) 3 = (insPg pg key r).sl ∧ (insPg pg key r).sl.length = 0 + 1) := Lib.hid ⟨by
        show (([] ++ pg.sl.take 0) ++ [⟨key, r⟩]) ++ pg.sl.drop 0 = insSl pg.sl key r
        unfold insSl
        rw [← Hlo.out]; simp, by show (insSl pg.sl key r).length = _; rw [insSl_length, Hn.out]⟩
      have qc := slConcat_st (bs := b12) (A := fun i => if i = 0 then a else if i = 1 then some ⟨b7, 0, none⟩ else a) (C := fun i => if i = 0 then 0 else if i = 1 then 1 else 0) (X := fun i => if i = 0 then pg.sl.take 0 else if i = 1 then [⟨key, r⟩] else pg.sl.drop 0) 3 (by omega) (fun i _ => by
          have := Hn.out
          match i with
          | 0 => simp only [if_true, List.length_take]; omega
          | 1 => simp
          | i + 2 => simp only [show i + 2 ≠ 0 by omega, show i + 2 ≠ 1 by omega, if_false, List.length_drop]; omega) (fun W R hW i hi => by
          have hn' := Hn.out
          have hsW := Hsl.out W (R ++ [_, _, _, _]) (by simpa using hW)
          have hb12 := (hW.right).k1
          match i, hi with
          | 0, _ =>
            refine ⟨hsW.take 0, ?_⟩
            have := hb12 0
            simpa [List.length_take, show min 0 pg.sl.length = 0 by omega] using this
          | 1, _ =>
            refine ⟨SlAt.one (hW.right), ?_⟩
            have := hb12 1
            simpa using this
          | 2, _ =>
            refine ⟨?_, ?_⟩
            · show SlAt W a (pg.sl.drop 0)
              rw [List.drop_eq_nil_of_le (by omega)]; exact SlAt.nil
            · have := hb12 2
              simpa [List.length_drop, ← hn'] using this) hs
      rw [Hcat.out.1, Hcat.out.2] at qc
      have Qc := Lib.hid qc
      simp only [fillD, h12, Option.getD_some, dstAt, List.getElem?_cons_succ, List.getElem?_cons_zero, Option.bind_some, Option.bind_none, Act.put, List.setIfInBounds_toArray, List.set_cons_zero, List.set_cons_succ] at haf
      subst haf
      clear h hs qc hnext hcl hd2 h7 h12 h13 h15
      go_wp2_with fail
      refine (Qc.out).mono ?_
      rintro e W3 ⟨an, cn, rfl, hs'⟩
      have Hs' := Lib.hid hs'
      clear hs'
      go_wp2
      exact ⟨rfl, _, rfl, fun u hu => (by cases hu), Hn2.out an cn W3 Hs'.out⟩
    case e15ze =>
      intro o ho ρ W2 h hcl h15 hd2 af haf
      obtain rfl := Option.some.inj ho
      replace haf : af = fillD _ ρ [1, 9, 13] _ := haf
      obtain ⟨v1, h1'⟩ := Option.isSome_iff_exists.1 (hd2 1 (by show _ ∈ [1, 9, 13]; simp))
      obtain ⟨v9, h9⟩ := Option.isSome_iff_exists.1 (hd2 9 (by show _ ∈ [1, 9, 13]; simp))
      obtain ⟨v13, h13⟩ := Option.isSome_iff_exists.1 (hd2 13 (by show _ ∈ [1, 9, 13]; simp))
      obtain ⟨an, cn, R', rfl, hs, hnext⟩ := h.e15 h13 h15
      simp only [fillD, h1', h9, h13, Option.getD_some, dstAt, List.getElem?_cons_succ, List.getElem?_cons_zero, Option.bind_some, Option.bind_none, Act.put, List.setIfInBounds_toArray, List.set_cons_zero, List.set_cons_succ] at haf
      subst haf
      have k0 := hs.k0
      have f0 := hs.f0
      have Hn2 := Lib.hid hnext
      have Hs3 : Hid (St K _ (blk bp (.cells #[.int .i64 ((insPg pg key r)).lev, (.slice an (0 + 1) cn), .string ((insPg pg key r)).hi, .bool ((insPg pg key r)).la, .int .u64 ((insPg pg key r)).ri] 43) :: R')) := Lib.hid (hs.setL 1 (.slice an (0 + 1) cn))
      clear h hs hnext hcl hd2 h1' h9 h13 h15
      go_wp2
      exact ⟨rfl, undef, rfl, fun u hu => (by cases hu), Hn2.out _ Hs3.out⟩
  case hQze =>
    intro ρ W2 h hall
    obtain ⟨v1, h1'⟩ := Option.isSome_iff_exists.1 (hall 1 (by simp))
    obtain ⟨v9, h9⟩ := Option.isSome_iff_exists.1 (hall 9 (by simp))
    obtain ⟨an, cn, h13, ⟨v7, h7⟩, ⟨v12, h12⟩, ⟨v15, h15⟩, hs⟩ := h.last (fun e he => hall e (by simp at he ⊢; omega))
    simp only [fillD, h1', h7, h9, h12, h13, h15, Option.getD_some, dstAt, List.getElem?_cons_succ, List.getElem?_cons_zero, Option.bind_some, Option.bind_none, Act.put, List.setIfInBounds_toArray, List.set_cons_zero, List.set_cons_succ]
    clear h hall h1' h7 h9 h12 h13 h15
    have kp := hs.k1
    have kz := hs.k2
    have fz := hs.f2
    have hs : St K _ (blk (bp + 1) (.cells #[.int .i64 ((insPg pg key r)).lev, (.slice an (0 + 1) cn), .string ((insPg pg key r)).hi, .bool ((insPg pg key r)).la, .int .u64 ((insPg pg key r)).ri] 43) :: _) := ((((hs.b2.setL 0 (.int .i64 (insPg pg key r).lev)).setL 1 (.slice an (0 + 1) cn)).setL 2 (.string (insPg pg key r).hi)).setL 3 (.bool (insPg pg key r).la)).setL 4 (.int .u64 (insPg pg key r).ri)
    go_wp2
    refine bodyPost_ret (pageInsert_res _ _ (bp + 1) _ _ _ _ _ _ rfl rfl hs.k0) rfl ?_
    exact ⟨an, cn, rfl, (hs.re [1, 2, 0] rfl).drop1.drop1⟩
/-- page.Insert of a key that the page lacks. -/
theorem pageInsert_st {K : Know} {w : World} {F : List Comp} {pg : Pg} {a : Option Addr} {cap : Nat} {key : ByteArray} {r : Int} (hno : decide (loK pg.sl key < hiK pg.sl key) = false) (hasc : Asc pg.sl) (h100 : pg.sl.length ≤ 100)
    (hs : St K w (slC (.slice a pg.sl.length cap) pg :: F)) :
    Calls Tryz.prog 95 #[(.agg #[.int .i64 (pg).lev, (.slice a pg.sl.length cap), .string (pg).hi, .bool (pg).la, .int .u64 (pg).ri]), .string key, .int .u64 r] w fun e w' => ∃ a' c', e = .returned (.tuple #[(.agg #[.int .i64 ((insPg pg key r)).lev, (.slice a' (insPg pg key r).sl.length c'), .string ((insPg pg key r)).hi, .bool ((insPg pg key r)).la, .int .u64 ((insPg pg key r)).ri]), .bool true]) ∧ St K w' (slC (.slice a' (insPg pg key r).sl.length c') (insPg pg key r) :: slC (.slice a pg.sl.length cap) pg :: F) := by
  have hl := loK_le pg.sl key
  have e : (insPg pg key r).sl.length = pg.sl.length + 1 := insSl_length _ _ _
  unfold slC
  replace hs : St K w (rowC (.slice a pg.sl.length cap) 69 2 pg.sl.length (slRow pg.sl) :: F) := hs
  rw [e]
  rcases (show St K w (rowC (.slice a pg.sl.length cap) 69 2 pg.sl.length (slRow pg.sl) :: F) from hs).row_which with ⟨rfl, h0, rfl⟩ | ⟨g, rfl, hc⟩
  · rw [h0] at hs ⊢
    exact pageInsert_ze (Nat.le_refl _) (Nat.le_refl _) h0.symm (by omega) hno hasc (by omega) hs
  · rcases (show loK pg.sl key < cap ∨ (loK pg.sl key = cap ∧ 0 < cap) ∨ cap = 0 by omega) with h | ⟨h, h'⟩ | h
    · exact pageInsert_lt hl hc h rfl rfl hno hasc h100 hs
    · have hcn : cap = pg.sl.length := by omega
      subst hcn
      exact pageInsert_eq (Nat.le_refl _) (Nat.le_refl _) h' rfl h.symm hno hasc h100 hs
    · have h0 : pg.sl.length = 0 := by omega
      subst h
      rw [h0] at hs ⊢
      exact pageInsert_ze (Nat.le_refl _) (Nat.le_refl _) h0.symm (by omega) hno hasc (by omega) hs
end Go.Proofs.YtlpdhhhgckpcfaaGreat

namespace Go.Proofs.YtlpdhhhgckpcfaaGreat
open Go.RowKit
set_option maxRecDepth 100000
theorem klt_nil (a : ByteArray) (b : ByteArray) : klt a (b.extract 0 0) = false := by
  have : b.extract 0 0 = ⟨#[]⟩ := by
    apply ByteArray.ext
    rw [ByteArray.data_extract]; simp
  rw [this]; exact klt_empty a
set_option maxHeartbeats 1000000 in
theorem sep_any (a b : ByteArray) (hb : b.size ≤ 1000000) (w : World) : Calls Tryz.prog 163 #[.string a, .string b] w fun e w' => e = .returned (.string (sepK a b)) ∧ w = w' := by
  obtain ⟨r, hr⟩ : ∃ r, r = sepK a b := ⟨_, rfl⟩
  rw [← hr]
  have Hr : Hid (r = sepFrom a b b.size 1) := Lib.hid (by
    rw [hr]
    unfold sepK
    show (if klt a (b.extract 0 0) then _ else sepFrom a b b.size (0 + 1)) = _
    rw [klt_nil]; rfl)
  clear hr
  go_enter Tryz.func163, Tryz.ntmps163
  go_wp2
  go_loopw [5] (fun v5 wr => ∃ n : Nat, v5 = .int .i64 n ∧ 1 ≤ n ∧ n ≤ b.size + 1 ∧ Hid (r = sepFrom a b (b.size + 1 - n) n) ∧ wr = w) (fun v5 _ => b.size + 1 - (intOf v5).toNat)
  case atStart => exact ⟨1, rfl, by omega, by omega, Lib.hid Hr.out, rfl⟩
  case round =>
    obtain ⟨n, rfl, hn1, hn, HR, rfl⟩ := hrel
    by_cases hlt : n ≤ b.size
    · have e : r = if klt a (b.extract 0 n) then b.extract 0 n else sepFrom a b (b.size + 1 - (n + 1)) (n + 1) := by
        rw [HR.out, show b.size + 1 - n = (b.size + 1 - (n + 1)) + 1 by omega]; rfl
      have hE := Lib.hid e
      clear e
      cases hx : klt a (b.extract 0 n) with
      | true =>
        rw [hx] at hE
        have h1 := klt_asymm hx
        have h3 := key_eq_false (klt_ne hx).symm
        go_wp2
        go_ret
        exact ⟨by rw [hE.out]; rfl, rfl⟩
      | false =>
        rw [hx] at hE
        have hE2 := Lib.hid (show r = sepFrom a b (b.size + 1 - (n + 1)) (n + 1) from hE.out)
        cases hy : klt (b.extract 0 n) a with
        | true =>
          go_wp2
          go_roundw
          case rel => exact ⟨n + 1, by go_num, by omega, by omega, hE2, trivial⟩
          case measure => simp [intOf]; omega
        | false =>
          have hz := klt_total hy hx
          have h3 : ((b.extract 0 n).toList == a.toList) = true := by rw [hz]; exact beq_self_eq_true _
          clear hz
          go_wp2
          go_roundw
          case rel => exact ⟨n + 1, by go_num, by omega, by omega, hE2, trivial⟩
          case measure => simp [intOf]; omega
    · obtain rfl : n = b.size + 1 := by omega
      rw [Nat.sub_self] at HR
      go_wp2
      go_ret
      exact ⟨by rw [HR.out]; rfl, rfl⟩
/-- Where a page of n slots is parted. -/
def splK (n : Nat) : Nat := n - n / 2
def splSep (pg : Pg) : ByteArray := match pg.sl[splK pg.sl.length - 1]?, pg.sl[splK pg.sl.length]? with
  | some x, some y => if pg.lev = 0 then sepK x.k y.k else y.k
  | _, _ => ⟨#[]⟩
def splL (pg : Pg) (right : Int) : Pg := ⟨pg.lev, pg.sl.take (splK pg.sl.length), splSep pg, false, right⟩
def splR (pg : Pg) : Pg := ⟨pg.lev, pg.sl.drop (splK pg.sl.length), pg.hi, pg.la, pg.ri⟩
/-- Two new variables (2, 3) and what is put into them (4, 5). -/
def SpR (K : Know) (REST : List Comp) (pa : Array Value) (ρ : Nat → Option Value) (W : World) : Prop :=
  ∃ (b2 b3 : Nat), (∀ v, ρ 2 = some v → v = (.pointer (some ⟨b2, 0, none⟩))) ∧ (∀ v, ρ 3 = some v → v = (.pointer (some ⟨b3, 0, none⟩))) ∧
    St K W (optC (ρ 2) (blk b2 (.cells (if (ρ 4).isSome then pa else #[.int .i64 0, .slice none 0 0, .string ⟨#[]⟩, .bool false, .int .u64 0]) 43)) :: optC (ρ 3) (blk b3 (.cells (if (ρ 5).isSome then pa else #[.int .i64 0, .slice none 0 0, .string ⟨#[]⟩, .bool false, .int .u64 0]) 43)) :: REST)
section
variable {K : Know} {REST : List Comp} {pa : Array Value} {ρ : Nat → Option Value} {W : World} {v2 v3 : Value}
theorem SpR.start (hs : St K W REST) : SpR K REST pa (fun _ => none) W :=
  ⟨0, 0, fun v h => (by cases h), fun v h => (by cases h), hs.empty.empty⟩
theorem SpR.same {W' : World} (h : SpR K REST pa ρ W) (hb : Below W.heap.size W W') : SpR K REST pa ρ W' := by
  obtain ⟨b2, b3, e1, e2, hs⟩ := h
  exact ⟨b2, b3, e1, e2, hs.same hb⟩
theorem SpR.rest (h : SpR K REST pa ρ W) : St K W REST := by
  obtain ⟨b2, b3, e1, e2, hs⟩ := h
  exact hs.tail.tail
theorem SpR.e2 (h : SpR K REST pa ρ W) (h2 : ρ 2 = none) (h4 : ρ 4 = none) : SpR K REST pa (upd ρ 2 (.pointer (some ⟨W.heap.size, 0, none⟩))) (W.alloc (.cells #[.int .i64 0, .slice none 0 0, .string ⟨#[]⟩, .bool false, .int .u64 0] 43)) := by
  obtain ⟨b2, b3, e1, e2, hs⟩ := h
  rw [h2] at hs
  refine ⟨W.heap.size, b3, fun v h => by simpa [upd] using h.symm, fun v h => e2 v (by simpa [upd] using h), ?_⟩
  have : St K (W.alloc (.cells #[.int .i64 0, .slice none 0 0, .string ⟨#[]⟩, .bool false, .int .u64 0] 43)) (optC (some (.pointer (some ⟨W.heap.size, 0, none⟩))) (blk W.heap.size (.cells #[.int .i64 0, .slice none 0 0, .string ⟨#[]⟩, .bool false, .int .u64 0] 43)) :: _) := hs.tail.made (.cells #[.int .i64 0, .slice none 0 0, .string ⟨#[]⟩, .bool false, .int .u64 0] 43)
  simpa [upd, h4] using this
theorem SpR.e3 (h : SpR K REST pa ρ W) (h3 : ρ 3 = none) (h5 : ρ 5 = none) : SpR K REST pa (upd ρ 3 (.pointer (some ⟨W.heap.size, 0, none⟩))) (W.alloc (.cells #[.int .i64 0, .slice none 0 0, .string ⟨#[]⟩, .bool false, .int .u64 0] 43)) := by
  obtain ⟨b2, b3, e1, e2, hs⟩ := h
  rw [h3] at hs
  refine ⟨b2, W.heap.size, fun v h => e1 v (by simpa [upd] using h), fun v h => by simpa [upd] using h.symm, ?_⟩
  have h2 : St K W (emptyC :: optC (ρ 2) (blk b2 (.cells (if (ρ 4).isSome then pa else #[.int .i64 0, .slice none 0 0, .string ⟨#[]⟩, .bool false, .int .u64 0]) 43)) :: REST) := hs.b1
  have : St K (W.alloc (.cells #[.int .i64 0, .slice none 0 0, .string ⟨#[]⟩, .bool false, .int .u64 0] 43)) (optC (ρ 2) (blk b2 (.cells (if (ρ 4).isSome then pa else #[.int .i64 0, .slice none 0 0, .string ⟨#[]⟩, .bool false, .int .u64 0]) 43)) :: optC (some (.pointer (some ⟨W.heap.size, 0, none⟩))) (blk W.heap.size (.cells #[.int .i64 0, .slice none 0 0, .string ⟨#[]⟩, .bool false, .int .u64 0] 43)) :: REST) := (h2.tail.made (.cells #[.int .i64 0, .slice none 0 0, .string ⟨#[]⟩, .bool false, .int .u64 0] 43)).b1
  simpa [upd, h5] using this
theorem SpR.e4 (h : SpR K REST pa ρ W) (h2 : ρ 2 = some v2) (h4 : ρ 4 = none) : ∃ (b : Nat) (R' : List Comp), v2 = (.pointer (some ⟨b, 0, none⟩)) ∧ St K W (blk b (.cells #[.int .i64 0, .slice none 0 0, .string ⟨#[]⟩, .bool false, .int .u64 0] 43) :: R') ∧ ∀ W', St K W' (blk b (.cells pa 43) :: R') → SpR K REST pa (upd ρ 4 undef) W' := by
  obtain ⟨b2, b3, e1, e2, hs⟩ := h
  rw [h2, h4] at hs
  have hs : St K W (blk b2 (.cells #[.int .i64 0, .slice none 0 0, .string ⟨#[]⟩, .bool false, .int .u64 0] 43) :: _) := hs
  refine ⟨b2, _, e1 v2 h2, hs, fun W' hs' => ⟨b2, b3, fun v h => e1 v (by simpa [upd] using h), fun v h => e2 v (by simpa [upd] using h), ?_⟩⟩
  have : St K W' (optC (some v2) (blk b2 (.cells pa 43)) :: _) := hs'
  simpa [upd, h2] using this
theorem SpR.e5 (h : SpR K REST pa ρ W) (h3 : ρ 3 = some v3) (h5 : ρ 5 = none) : ∃ (b : Nat) (R' : List Comp), v3 = (.pointer (some ⟨b, 0, none⟩)) ∧ St K W (blk b (.cells #[.int .i64 0, .slice none 0 0, .string ⟨#[]⟩, .bool false, .int .u64 0] 43) :: R') ∧ ∀ W', St K W' (blk b (.cells pa 43) :: R') → SpR K REST pa (upd ρ 5 undef) W' := by
  obtain ⟨b2, b3, e1, e2, hs⟩ := h
  rw [h3, h5] at hs
  have hs : St K W (_ :: blk b3 (.cells #[.int .i64 0, .slice none 0 0, .string ⟨#[]⟩, .bool false, .int .u64 0] 43) :: _) := hs
  refine ⟨b3, _, e2 v3 h3, hs.b1, fun W' hs' => ⟨b2, b3, fun v h => e1 v (by simpa [upd] using h), fun v h => e2 v (by simpa [upd] using h), ?_⟩⟩
  have : St K W' (optC (ρ 2) (blk b2 (.cells (if (ρ 4).isSome then pa else #[.int .i64 0, .slice none 0 0, .string ⟨#[]⟩, .bool false, .int .u64 0]) 43)) :: optC (some v3) (blk b3 (.cells pa 43)) :: REST) := hs'.b1
  simpa [upd, h3] using this
theorem SpR.last (h : SpR K REST pa ρ W) (hall : ∀ e, e ∈ [2, 3, 4, 5] → (ρ e).isSome = true) : ∃ b2 b3 : Nat, ρ 2 = some (.pointer (some ⟨b2, 0, none⟩)) ∧ ρ 3 = some (.pointer (some ⟨b3, 0, none⟩)) ∧ (∃ v, ρ 4 = some v) ∧ (∃ v, ρ 5 = some v) ∧
    St K W (blk b2 (.cells pa 43) :: blk b3 (.cells pa 43) :: REST) := by
  obtain ⟨v2, h2⟩ := Option.isSome_iff_exists.1 (hall 2 (by simp))
  obtain ⟨v3, h3⟩ := Option.isSome_iff_exists.1 (hall 3 (by simp))
  obtain ⟨v4, h4⟩ := Option.isSome_iff_exists.1 (hall 4 (by simp))
  obtain ⟨v5, h5⟩ := Option.isSome_iff_exists.1 (hall 5 (by simp))
  obtain ⟨b2, b3, e1, e2, hs⟩ := h
  rw [h2, h3, h4, h5] at hs
  exact ⟨b2, b3, by rw [h2, e1 v2 h2], by rw [h3, e2 v3 h3], ⟨v4, h4⟩, ⟨v5, h5⟩, hs⟩
end
/-- The two results that are pages: stored (3, 4) or not. -/
def SqR (K : Know) (b1 b2 : Nat) (p1 p2 : Array Value) (REST : List Comp) (ρ : Nat → Option Value) (W : World) : Prop :=
  St K W (blk b1 (.cells (if (ρ 3).isSome then p1 else #[.int .i64 0, .slice none 0 0, .string ⟨#[]⟩, .bool false, .int .u64 0]) 43) :: blk b2 (.cells (if (ρ 4).isSome then p2 else #[.int .i64 0, .slice none 0 0, .string ⟨#[]⟩, .bool false, .int .u64 0]) 43) :: REST)
theorem pageSplit_res (tmps : Array Value) (w : World) (b1 b2 : Nat) (v0 v1 v2 v3 v4 u0 u1 u2 u3 u4 x y : Value) (hp : tmps[4]? = some (.pointer (some ⟨b1, 0, none⟩))) (hq : tmps[5]? = some (.pointer (some ⟨b2, 0, none⟩))) (hx : tmps[6]? = some x) (hy : tmps[7]? = some y)
    (hk : ∀ k, w.cell? ⟨b1, k, none⟩ = (#[v0, v1, v2, v3, v4] : Array Value)[k]?) (hl : ∀ k, w.cell? ⟨b2, k, none⟩ = (#[u0, u1, u2, u3, u4] : Array Value)[k]?) :
    (results Tryz.f135 tmps).run Tryz.prog w = .ok (.tuple #[.agg #[v0, v1, v2, v3, v4], .agg #[u0, u1, u2, u3, u4], x, y]) w := by
  simp [results, Tryz.results135, go_sem, hp, hq, hx, hy, hk, hl]
section
variable {K : Know} {w : World} {F : List Comp} {pg : Pg} {a : Option Addr} {cap : Nat} {right : Int}
set_option maxHeartbeats 4000000 in
theorem pageSplit_st (h2 : 2 ≤ pg.sl.length) (h100 : pg.sl.length ≤ 100) (hsz : ∀ s, s ∈ pg.sl → s.k.size ≤ 1000000) (hs : St K w (slC (.slice a pg.sl.length cap) pg :: F)) :
    Calls Tryz.prog 135 #[(.agg #[.int .i64 (pg).lev, (.slice a pg.sl.length cap), .string (pg).hi, .bool (pg).la, .int .u64 (pg).ri]), .int .u64 right] w fun e w' => ∃ a1 c1 a2 c2, e = .returned (.tuple #[(.agg #[.int .i64 ((splL pg right)).lev, (.slice a1 (splL pg right).sl.length c1), .string ((splL pg right)).hi, .bool ((splL pg right)).la, .int .u64 ((splL pg right)).ri]), (.agg #[.int .i64 ((splR pg)).lev, (.slice a2 (splR pg).sl.length c2), .string ((splR pg)).hi, .bool ((splR pg)).la, .int .u64 ((splR pg)).ri]), .string (splSep pg), .bool true]) ∧
      St K w' (slC (.slice a1 (splL pg right).sl.length c1) (splL pg right) :: slC (.slice a2 (splR pg).sl.length c2) (splR pg) :: slC (.slice a pg.sl.length cap) pg :: F) := by
  obtain ⟨g, hg, hc⟩ : ∃ g, a = some ⟨g, 0, none⟩ ∧ pg.sl.length ≤ cap := by
    rcases (show St K w (rowC (.slice a pg.sl.length cap) 69 2 pg.sl.length (slRow pg.sl) :: F) from hs).row_which with ⟨_, h0, _⟩ | h
    · omega
    · exact h
  subst hg
  obtain ⟨k, hk⟩ : ∃ k, k = splK pg.sl.length := ⟨_, rfl⟩
  have hk1 : 1 ≤ k ∧ k < pg.sl.length := by rw [hk]; unfold splK; omega
  obtain ⟨x, hx⟩ : ∃ x, pg.sl[k - 1]? = some x := ⟨_, List.getElem?_eq_getElem (by omega)⟩
  obtain ⟨y, hy⟩ : ∃ y, pg.sl[k]? = some y := ⟨_, List.getElem?_eq_getElem hk1.2⟩
  have hsep : splSep pg = if pg.lev = 0 then sepK x.k y.k else y.k := by unfold splSep; rw [← hk, hx, hy]
  have hki : (pg.sl.length : Int) - (pg.sl.length : Int) / 2 = (k : Int) := by rw [hk]; unfold splK; omega
  have Hki := Lib.hid hki
  clear hki
  have Hy := Lib.hid hy
  have Hx := Lib.hid hx
  have Hsep := Lib.hid hsep
  have Hk := Lib.hid hk
  have hs := ((hs.made (.cells #[.int .i64 (pg).lev, (.slice (some ⟨g, 0, none⟩) pg.sl.length cap), .string (pg).hi, .bool (pg).la, .int .u64 (pg).ri] 43)).made (.cells #[.int .i64 0, .slice none 0 0, .string ⟨#[]⟩, .bool false, .int .u64 0] 43)).made (.cells #[.int .i64 0, .slice none 0 0, .string ⟨#[]⟩, .bool false, .int .u64 0] 43)
  simp only [World.size_alloc] at hs
  clear hx hy hsep hk
  obtain ⟨bp, hbp⟩ : ∃ bp, bp = w.heap.size := ⟨_, rfl⟩
  rw [show w.heap.size + 1 + 1 = w.heap.size + 2 by omega, ← hbp] at hs
  have hs : St K _ (blk (bp + 2) (.cells #[.int .i64 0, .slice none 0 0, .string ⟨#[]⟩, .bool false, .int .u64 0] 43) :: blk (bp + 1) (.cells #[.int .i64 0, .slice none 0 0, .string ⟨#[]⟩, .bool false, .int .u64 0] 43) :: blk bp (.cells #[.int .i64 (pg).lev, (.slice (some ⟨g, 0, none⟩) pg.sl.length cap), .string (pg).hi, .bool (pg).la, .int .u64 (pg).ri] 43) :: rowC (.slice (some ⟨g, 0, none⟩) pg.sl.length cap) 69 2 pg.sl.length (slRow pg.sl) :: F) := hs
  go_enter Tryz.func135, Tryz.ntmps135
  go_upto_region 4 with (fail)
  rw [show w.heap.size + 1 + 1 = w.heap.size + 2 by omega, ← hbp]
  clear hbp
  go_cut [9] (fun v wx => v = .int .i64 k ∧ St K wx (blk (bp + 2) (.cells #[.int .i64 0, .slice none 0 0, .string ⟨#[]⟩, .bool false, .int .u64 0] 43) :: blk (bp + 1) (.cells #[.int .i64 0, .slice none 0 0, .string ⟨#[]⟩, .bool false, .int .u64 0] 43) :: blk bp (.cells #[.int .i64 (pg).lev, (.slice (some ⟨g, 0, none⟩) pg.sl.length cap), .string (pg).hi, .bool (pg).la, .int .u64 (pg).ri] 43) :: rowC (.slice (some ⟨g, 0, none⟩) pg.sl.length cap) 69 2 pg.sl.length (slRow pg.sl) :: F))
  case first =>
    as_aux_lemma =>
    go_wp2
    go_meet
    exact ⟨by rw [Hki.out], hs⟩
  case rest =>
  clear hs
  obtain ⟨rfl, hs⟩ := hcut
  have kp := hs.k2
  have c1 := (show St K wc (rowC _ 69 2 pg.sl.length (slRow pg.sl) :: F) from hs.tail.tail.tail).row_cell (slRow_at _ _ _ Hy.out).1
  have c0 := (show St K wc (rowC _ 69 2 pg.sl.length (slRow pg.sl) :: F) from hs.tail.tail.tail).row_cell (slRow_at _ _ _ Hx.out).1
  go_upto_region 6 with (fail)
  clear c1
  go_cut [32] (fun v wx => v = .bool (pg.lev == 0) ∧ St K wx (blk (bp + 2) (.cells #[.int .i64 0, .slice none 0 0, .string ⟨#[]⟩, .bool false, .int .u64 0] 43) :: blk (bp + 1) (.cells #[.int .i64 0, .slice none 0 0, .string ⟨#[]⟩, .bool false, .int .u64 0] 43) :: blk bp (.cells #[.int .i64 (pg).lev, (.slice (some ⟨g, 0, none⟩) pg.sl.length cap), .string (pg).hi, .bool (pg).la, .int .u64 (pg).ri] 43) :: rowC (.slice (some ⟨g, 0, none⟩) pg.sl.length cap) 69 2 pg.sl.length (slRow pg.sl) :: F))
  case first =>
    as_aux_lemma =>
    clear c0
    go_wp2
    go_meet
    exact ⟨rfl, hs⟩
  case rest =>
  clear hs kp c0
  obtain ⟨rfl, hs⟩ := hcut
  apply_assumption
  go_cut [10] (fun v wx => v = .string (splSep pg) ∧ St K wx (blk (bp + 2) (.cells #[.int .i64 0, .slice none 0 0, .string ⟨#[]⟩, .bool false, .int .u64 0] 43) :: blk (bp + 1) (.cells #[.int .i64 0, .slice none 0 0, .string ⟨#[]⟩, .bool false, .int .u64 0] 43) :: blk bp (.cells #[.int .i64 (pg).lev, (.slice (some ⟨g, 0, none⟩) pg.sl.length cap), .string (pg).hi, .bool (pg).la, .int .u64 (pg).ri] 43) :: rowC (.slice (some ⟨g, 0, none⟩) pg.sl.length cap) 69 2 pg.sl.length (slRow pg.sl) :: F))
  case first =>
    as_aux_lemma =>
    by_cases hlv : pg.lev = 0
    · have hlv2 : (pg.lev == 0) = true := by rw [hlv]; rfl
      have kp := hs.k2
      have c0 := (show St K _ (rowC _ 69 2 pg.sl.length (slRow pg.sl) :: F) from hs.tail.tail.tail).row_cell (slRow_at _ _ _ Hx.out).1
      have Hf : Hid (splSep pg = sepK x.k y.k) := Lib.hid (by rw [Hsep.out, if_pos hlv])
      have Qs := Lib.hid (fun w => sep_any x.k y.k (hsz y (List.mem_of_getElem? Hy.out)) w)
      clear hlv
      rw [hlv2]
      clear hlv2
      go_wp2_with fail
      refine (Qs.out _).mono ?_
      rintro e w3 ⟨rfl, rfl⟩
      clear kp c0
      go_wp2
      go_meet
      exact ⟨by rw [Hf.out], hs⟩
    · have hlv2 : (pg.lev == 0) = false := by simp [hlv]
      have Hf : Hid (splSep pg = y.k) := Lib.hid (by rw [Hsep.out, if_neg hlv])
      clear hlv
      rw [hlv2]
      clear hlv2
      go_wp2
      go_meet
      exact ⟨by rw [Hf.out], hs⟩
  case rest =>
  clear hs
  obtain ⟨rfl, hs⟩ := hcut
  obtain ⟨sep, hsep⟩ : ∃ sep, sep = splSep pg := ⟨_, rfl⟩
  rw [← hsep]
  have Hsp := Lib.hid hsep
  clear hsep Hsep
  go_upto_region 8 with (fail)
  have Hs := Lib.hid hs
  clear hs
  refine region_effects [false, false, true, true, true, true] [2, 3, 4, 5] (fun | 4 => [2] | 5 => [3] | _ => [])
    (SpR K (blk (bp + 2) (.cells #[.int .i64 0, .slice none 0 0, .string ⟨#[]⟩, .bool false, .int .u64 0] 43) :: blk (bp + 1) (.cells #[.int .i64 0, .slice none 0 0, .string ⟨#[]⟩, .bool false, .int .u64 0] 43) :: blk bp (.cells #[.int .i64 (pg).lev, (.slice (some ⟨g, 0, none⟩) pg.sl.length cap), .string (pg).hi, .bool (pg).la, .int .u64 (pg).ri] 43) :: rowC (.slice (some ⟨g, 0, none⟩) pg.sl.length cap) 69 2 pg.sl.length (slRow pg.sl) :: F) #[.int .i64 (pg).lev, (.slice (some ⟨g, 0, none⟩) pg.sl.length cap), .string (pg).hi, .bool (pg).la, .int .u64 (pg).ri])
    (fun W => St K W (blk (bp + 2) (.cells #[.int .i64 0, .slice none 0 0, .string ⟨#[]⟩, .bool false, .int .u64 0] 43) :: blk (bp + 1) (.cells #[.int .i64 0, .slice none 0 0, .string ⟨#[]⟩, .bool false, .int .u64 0] 43) :: blk bp (.cells #[.int .i64 (pg).lev, (.slice (some ⟨g, 0, none⟩) pg.sl.length cap), .string (pg).hi, .bool (pg).la, .int .u64 (pg).ri] 43) :: rowC (.slice (some ⟨g, 0, none⟩) pg.sl.length cap) 69 2 pg.sl.length (slRow pg.sl) :: F)) ?aS (by kernel_rfl) ?hB ?H ?haS ?h0 ?hI ?hR ?hE ?hQ
  case hB => as_aux_lemma => kernel_rfl
  case H =>
    intro W2 hs
    have kp := hs.k2
    clear hs
    simp only [withM]
    repeat (go_big_quiet_step (fail))
    refine wpQuiet_nil ?_
    rfl
  case haS => rfl
  case h0 => exact SpR.start Hs.out
  case hI => exact fun ρ W2 h => h.rest
  case hR => exact fun ρ W2 W3 h hb => h.same hb
  case hE =>
    refine ⟨?e2, ?e3, ?e4, ?e5, trivial⟩
    case e2 =>
      intro o ho ρ W2 h hcl h2' hd2 af haf
      obtain rfl := Option.some.inj ho
      replace haf : af = fillD _ ρ [] _ := haf
      have h4 : ρ 4 = none := hcl.none (by simp) (show 2 ∈ [2] by simp) h2'
      have Hk2 := Lib.hid (h.e2 h2' h4)
      simp only [fillD] at haf
      subst haf
      clear h hcl hd2 h2' h4
      go_wp2
      exact ⟨rfl, _, rfl, Hk2.out⟩
    case e3 =>
      intro o ho ρ W2 h hcl h3' hd2 af haf
      obtain rfl := Option.some.inj ho
      replace haf : af = fillD _ ρ [] _ := haf
      have h5 : ρ 5 = none := hcl.none (by simp) (show 3 ∈ [3] by simp) h3'
      have Hk2 := Lib.hid (h.e3 h3' h5)
      simp only [fillD] at haf
      subst haf
      clear h hcl hd2 h3' h5
      go_wp2
      exact ⟨rfl, _, rfl, Hk2.out⟩
    case e4 =>
      intro o ho ρ W2 h hcl h4 hd2 af haf
      obtain rfl := Option.some.inj ho
      replace haf : af = fillD _ ρ [2] _ := haf
      obtain ⟨v2, h2'⟩ := Option.isSome_iff_exists.1 (hd2 2 (by show _ ∈ [2]; simp))
      obtain ⟨b, R', rfl, hs, hnext⟩ := h.e4 h2' h4
      simp only [fillD, h2', Option.getD_some, dstAt, List.getElem?_cons_succ, List.getElem?_cons_zero, Option.bind_some, Option.bind_none, Act.put, List.setIfInBounds_toArray, List.set_cons_zero, List.set_cons_succ] at haf
      subst haf
      have k0 := hs.k0
      have f0 := hs.f0
      have Hn2 := Lib.hid hnext
      have Hs3 : Hid (St K _ (blk b (.cells #[.int .i64 (pg).lev, (.slice (some ⟨g, 0, none⟩) pg.sl.length cap), .string (pg).hi, .bool (pg).la, .int .u64 (pg).ri] 43) :: R')) := Lib.hid (((((hs.setL 0 (.int .i64 pg.lev)).setL 1 (.slice (some ⟨g, 0, none⟩) pg.sl.length cap)).setL 2 (.string pg.hi)).setL 3 (.bool pg.la)).setL 4 (.int .u64 pg.ri))
      clear h hs hnext hcl hd2 h2' h4
      go_wp2
      exact ⟨rfl, undef, rfl, Hn2.out _ Hs3.out⟩
    case e5 =>
      intro o ho ρ W2 h hcl h5 hd2 af haf
      obtain rfl := Option.some.inj ho
      replace haf : af = fillD _ ρ [3] _ := haf
      obtain ⟨v3, h3'⟩ := Option.isSome_iff_exists.1 (hd2 3 (by show _ ∈ [3]; simp))
      obtain ⟨b, R', rfl, hs, hnext⟩ := h.e5 h3' h5
      simp only [fillD, h3', Option.getD_some, dstAt, List.getElem?_cons_succ, List.getElem?_cons_zero, Option.bind_some, Option.bind_none, Act.put, List.setIfInBounds_toArray, List.set_cons_zero, List.set_cons_succ] at haf
      subst haf
      have k0 := hs.k0
      have f0 := hs.f0
      have Hn2 := Lib.hid hnext
      have Hs3 : Hid (St K _ (blk b (.cells #[.int .i64 (pg).lev, (.slice (some ⟨g, 0, none⟩) pg.sl.length cap), .string (pg).hi, .bool (pg).la, .int .u64 (pg).ri] 43) :: R')) := Lib.hid (((((hs.setL 0 (.int .i64 pg.lev)).setL 1 (.slice (some ⟨g, 0, none⟩) pg.sl.length cap)).setL 2 (.string pg.hi)).setL 3 (.bool pg.la)).setL 4 (.int .u64 pg.ri))
      clear h hs hnext hcl hd2 h3' h5
      go_wp2
      exact ⟨rfl, undef, rfl, Hn2.out _ Hs3.out⟩
  case hQ =>
  intro ρ W2 h hall
  obtain ⟨b2, b3, h2', h3', ⟨v4, h4⟩, ⟨v5, h5⟩, hs⟩ := h.last hall
  simp only [fillD, h2', h3', h4, h5, Option.getD_some, dstAt, List.getElem?_cons_succ, List.getElem?_cons_zero, Option.bind_some, Option.bind_none, Act.put, List.setIfInBounds_toArray, List.set_cons_zero, List.set_cons_succ]
  clear h hall h2' h3' h4 h5 Hs
  have kp := hs.tail.tail.k2
  have hsl := (show St K W2 (rowC (.slice (some ⟨g, 0, none⟩) pg.sl.length cap) 69 2 pg.sl.length (slRow pg.sl) :: F) from hs.tail.tail.tail.tail.tail).row_slots (by omega)
  have q := slClone_st (cap := cap) (hsl.take k) (by rw [List.length_take]; omega) (by rw [List.length_take]; omega) hs
  rw [List.length_take, show min k pg.sl.length = k by omega] at q
  have Q := Lib.hid q
  clear q hs hsl
  go_wp2_with fail
  refine (Q.out).mono ?_
  clear Q kp
  rintro e w4 ⟨a1, c1, rfl, hs⟩
  have kb := hs.k1
  have fb := hs.f1
  have hs : St K _ (blk b2 (.cells #[.int .i64 pg.lev, .slice a1 k c1, .string sep, .bool false, .int .u64 right] 43) :: rowC (.slice a1 k c1) 69 2 k (slRow (pg.sl.take k)) :: blk b3 (.cells #[.int .i64 (pg).lev, (.slice (some ⟨g, 0, none⟩) pg.sl.length cap), .string (pg).hi, .bool (pg).la, .int .u64 (pg).ri] 43) :: blk (bp + 2) (.cells #[.int .i64 0, .slice none 0 0, .string ⟨#[]⟩, .bool false, .int .u64 0] 43) :: blk (bp + 1) (.cells #[.int .i64 0, .slice none 0 0, .string ⟨#[]⟩, .bool false, .int .u64 0] 43) :: blk bp (.cells #[.int .i64 (pg).lev, (.slice (some ⟨g, 0, none⟩) pg.sl.length cap), .string (pg).hi, .bool (pg).la, .int .u64 (pg).ri] 43) :: rowC (.slice (some ⟨g, 0, none⟩) pg.sl.length cap) 69 2 pg.sl.length (slRow pg.sl) :: F) := (((hs.b1.setL 1 (.slice a1 k c1)).setL 2 (.string sep)).setL 3 (.bool false)).setL 4 (.int .u64 right)
  go_upto_region 10 with (fail)
  clear kb fb
  have kp := hs.tail.tail.tail.k2
  have hsl := (show St K _ (rowC (.slice (some ⟨g, 0, none⟩) pg.sl.length cap) 69 2 pg.sl.length (slRow pg.sl) :: F) from hs.tail.tail.tail.tail.tail.tail).row_slots (by omega)
  have q := slClone_st (cap := cap - k) (hsl.drop k) (by rw [List.length_drop]; omega) (by rw [List.length_drop]; omega) hs
  rw [List.length_drop] at q
  have Q := Lib.hid q
  have Hs := Lib.hid hs
  clear q hs hsl
  go_wp2_with fail
  refine (Q.out).mono ?_
  clear Q kp Hs
  rintro e w5 ⟨a2, c2, rfl, hs⟩
  have kb := hs.tail.k2
  have fb := hs.tail.f2
  have hs : St K _ (blk b3 (.cells #[.int .i64 pg.lev, .slice a2 (pg.sl.length - k) c2, .string pg.hi, .bool pg.la, .int .u64 pg.ri] 43) :: rowC (.slice a2 (pg.sl.length - k) c2) 69 2 (pg.sl.length - k) (slRow (pg.sl.drop k)) :: blk b2 (.cells #[.int .i64 pg.lev, .slice a1 k c1, .string sep, .bool false, .int .u64 right] 43) :: rowC (.slice a1 k c1) 69 2 k (slRow (pg.sl.take k)) :: blk (bp + 2) (.cells #[.int .i64 0, .slice none 0 0, .string ⟨#[]⟩, .bool false, .int .u64 0] 43) :: blk (bp + 1) (.cells #[.int .i64 0, .slice none 0 0, .string ⟨#[]⟩, .bool false, .int .u64 0] 43) :: blk bp (.cells #[.int .i64 (pg).lev, (.slice (some ⟨g, 0, none⟩) pg.sl.length cap), .string (pg).hi, .bool (pg).la, .int .u64 (pg).ri] 43) :: rowC (.slice (some ⟨g, 0, none⟩) pg.sl.length cap) 69 2 pg.sl.length (slRow pg.sl) :: F) := hs.b3.setL 1 (.slice a2 (pg.sl.length - k) c2)
  go_upto_region 11 with (fail)
  clear kb fb
  have Hs := Lib.hid (hs.re [5, 4, 0, 1, 2, 3, 6, 7] rfl)
  clear hs
  refine region_effects [false, false, false, true, true, false, false] [3, 4] (fun _ => [])
    (SqR K (bp + 1) (bp + 2) #[.int .i64 pg.lev, .slice a1 k c1, .string sep, .bool false, .int .u64 right] #[.int .i64 pg.lev, .slice a2 (pg.sl.length - k) c2, .string pg.hi, .bool pg.la, .int .u64 pg.ri] (blk b3 (.cells #[.int .i64 pg.lev, .slice a2 (pg.sl.length - k) c2, .string pg.hi, .bool pg.la, .int .u64 pg.ri] 43) :: rowC (.slice a2 (pg.sl.length - k) c2) 69 2 (pg.sl.length - k) (slRow (pg.sl.drop k)) :: blk b2 (.cells #[.int .i64 pg.lev, .slice a1 k c1, .string sep, .bool false, .int .u64 right] 43) :: rowC (.slice a1 k c1) 69 2 k (slRow (pg.sl.take k)) :: blk bp (.cells #[.int .i64 (pg).lev, (.slice (some ⟨g, 0, none⟩) pg.sl.length cap), .string (pg).hi, .bool (pg).la, .int .u64 (pg).ri] 43) :: rowC (.slice (some ⟨g, 0, none⟩) pg.sl.length cap) 69 2 pg.sl.length (slRow pg.sl) :: F))
    (fun W => St K W (blk b3 (.cells #[.int .i64 pg.lev, .slice a2 (pg.sl.length - k) c2, .string pg.hi, .bool pg.la, .int .u64 pg.ri] 43) :: rowC (.slice a2 (pg.sl.length - k) c2) 69 2 (pg.sl.length - k) (slRow (pg.sl.drop k)) :: blk b2 (.cells #[.int .i64 pg.lev, .slice a1 k c1, .string sep, .bool false, .int .u64 right] 43) :: rowC (.slice a1 k c1) 69 2 k (slRow (pg.sl.take k)) :: blk bp (.cells #[.int .i64 (pg).lev, (.slice (some ⟨g, 0, none⟩) pg.sl.length cap), .string (pg).hi, .bool (pg).la, .int .u64 (pg).ri] 43) :: rowC (.slice (some ⟨g, 0, none⟩) pg.sl.length cap) 69 2 pg.sl.length (slRow pg.sl) :: F)) ?aSf (by kernel_rfl) ?hBf ?Hf ?haSf ?h0f ?hIf ?hRf ?hEf ?hQf
  case hBf => as_aux_lemma => kernel_rfl
  case Hf =>
    intro W2 hs
    have c3 := hs.k0
    have c2' := hs.k2
    clear hs
    simp only [withM]
    repeat (go_big_quiet_step (fail))
    refine wpQuiet_nil ?_
    rfl
  case haSf => rfl
  case h0f => exact Hs.out
  case hIf => exact fun ρ W2 h => St.tail (St.tail h)
  case hRf => exact fun ρ W2 W3 h hb => St.same h hb
  case hEf =>
    refine ⟨?e3f, ?e4f, trivial⟩
    case e3f =>
      intro o ho ρ W2 h hcl h3' hd2 af haf
      obtain rfl := Option.some.inj ho
      replace haf : af = fillD _ ρ [] _ := haf
      simp only [fillD] at haf
      subst haf
      unfold SqR at h
      rw [h3'] at h
      obtain ⟨yy, hyy⟩ : ∃ yy : Array Value, yy = (if (ρ 4).isSome = true then #[.int .i64 pg.lev, .slice a2 (pg.sl.length - k) c2, .string pg.hi, .bool pg.la, .int .u64 pg.ri] else #[.int .i64 0, .slice none 0 0, .string ⟨#[]⟩, .bool false, .int .u64 0]) := ⟨_, rfl⟩
      rw [← hyy] at h
      have HY := Lib.hid hyy
      clear hyy
      have hs : St K W2 (blk (bp + 1) (.cells #[.int .i64 0, .slice none 0 0, .string ⟨#[]⟩, .bool false, .int .u64 0] 43) :: blk (bp + 2) (.cells yy 43) :: blk b3 (.cells #[.int .i64 pg.lev, .slice a2 (pg.sl.length - k) c2, .string pg.hi, .bool pg.la, .int .u64 pg.ri] 43) :: rowC (.slice a2 (pg.sl.length - k) c2) 69 2 (pg.sl.length - k) (slRow (pg.sl.drop k)) :: blk b2 (.cells #[.int .i64 pg.lev, .slice a1 k c1, .string sep, .bool false, .int .u64 right] 43) :: rowC (.slice a1 k c1) 69 2 k (slRow (pg.sl.take k)) :: blk bp (.cells #[.int .i64 (pg).lev, (.slice (some ⟨g, 0, none⟩) pg.sl.length cap), .string (pg).hi, .bool (pg).la, .int .u64 (pg).ri] 43) :: rowC (.slice (some ⟨g, 0, none⟩) pg.sl.length cap) 69 2 pg.sl.length (slRow pg.sl) :: F) := h
      have k0 := hs.k0
      have f0 := hs.f0
      have hs := ((((hs.setL 0 (.int .i64 pg.lev)).setL 1 (.slice a1 k c1)).setL 2 (.string sep)).setL 3 (.bool false)).setL 4 (.int .u64 right)
      have Hs3 := Lib.hid hs
      clear h hs hcl hd2
      go_wp2
      refine ⟨rfl, undef, rfl, ?_⟩
      unfold SqR
      rw [show upd ρ 3 undef 3 = some undef by simp [upd], show upd ρ 3 undef 4 = ρ 4 by simp [upd], ← HY.out]
      exact Hs3.out
    case e4f =>
      intro o ho ρ W2 h hcl h4 hd2 af haf
      obtain rfl := Option.some.inj ho
      replace haf : af = fillD _ ρ [] _ := haf
      simp only [fillD] at haf
      subst haf
      unfold SqR at h
      rw [h4] at h
      obtain ⟨yy, hyy⟩ : ∃ yy : Array Value, yy = (if (ρ 3).isSome = true then #[.int .i64 pg.lev, .slice a1 k c1, .string sep, .bool false, .int .u64 right] else #[.int .i64 0, .slice none 0 0, .string ⟨#[]⟩, .bool false, .int .u64 0]) := ⟨_, rfl⟩
      rw [← hyy] at h
      have HY := Lib.hid hyy
      clear hyy
      have hs : St K W2 (blk (bp + 2) (.cells #[.int .i64 0, .slice none 0 0, .string ⟨#[]⟩, .bool false, .int .u64 0] 43) :: blk (bp + 1) (.cells yy 43) :: blk b3 (.cells #[.int .i64 pg.lev, .slice a2 (pg.sl.length - k) c2, .string pg.hi, .bool pg.la, .int .u64 pg.ri] 43) :: rowC (.slice a2 (pg.sl.length - k) c2) 69 2 (pg.sl.length - k) (slRow (pg.sl.drop k)) :: blk b2 (.cells #[.int .i64 pg.lev, .slice a1 k c1, .string sep, .bool false, .int .u64 right] 43) :: rowC (.slice a1 k c1) 69 2 k (slRow (pg.sl.take k)) :: blk bp (.cells #[.int .i64 (pg).lev, (.slice (some ⟨g, 0, none⟩) pg.sl.length cap), .string (pg).hi, .bool (pg).la, .int .u64 (pg).ri] 43) :: rowC (.slice (some ⟨g, 0, none⟩) pg.sl.length cap) 69 2 pg.sl.length (slRow pg.sl) :: F) := h.re [1, 0] rfl
      have k0 := hs.k0
      have f0 := hs.f0
      have hs := ((((hs.setL 0 (.int .i64 pg.lev)).setL 1 (.slice a2 (pg.sl.length - k) c2)).setL 2 (.string pg.hi)).setL 3 (.bool pg.la)).setL 4 (.int .u64 pg.ri)
      have Hs3 := Lib.hid (hs.re [1, 0] rfl)
      clear h hs hcl hd2
      go_wp2
      refine ⟨rfl, undef, rfl, ?_⟩
      unfold SqR
      rw [show upd ρ 4 undef 4 = some undef by simp [upd], show upd ρ 4 undef 3 = ρ 3 by simp [upd], ← HY.out]
      exact Hs3.out
  case hQf =>
    intro ρ W2 h hall
    obtain ⟨v3, h3'⟩ := Option.isSome_iff_exists.1 (hall 3 (by simp))
    obtain ⟨v4, h4⟩ := Option.isSome_iff_exists.1 (hall 4 (by simp))
    unfold SqR at h
    rw [h3', h4] at h
    have hs : St K W2 (blk (bp + 1) (.cells #[.int .i64 pg.lev, .slice a1 k c1, .string sep, .bool false, .int .u64 right] 43) :: blk (bp + 2) (.cells #[.int .i64 pg.lev, .slice a2 (pg.sl.length - k) c2, .string pg.hi, .bool pg.la, .int .u64 pg.ri] 43) :: blk b3 (.cells #[.int .i64 pg.lev, .slice a2 (pg.sl.length - k) c2, .string pg.hi, .bool pg.la, .int .u64 pg.ri] 43) :: rowC (.slice a2 (pg.sl.length - k) c2) 69 2 (pg.sl.length - k) (slRow (pg.sl.drop k)) :: blk b2 (.cells #[.int .i64 pg.lev, .slice a1 k c1, .string sep, .bool false, .int .u64 right] 43) :: rowC (.slice a1 k c1) 69 2 k (slRow (pg.sl.take k)) :: blk bp (.cells #[.int .i64 (pg).lev, (.slice (some ⟨g, 0, none⟩) pg.sl.length cap), .string (pg).hi, .bool (pg).la, .int .u64 (pg).ri] 43) :: rowC (.slice (some ⟨g, 0, none⟩) pg.sl.length cap) 69 2 pg.sl.length (slRow pg.sl) :: F) := h
    simp only [fillD, h3', h4, Option.getD_some, dstAt, List.getElem?_cons_succ, List.getElem?_cons_zero, Option.bind_some, Option.bind_none, Act.put]
    clear h hall h3' h4
    have q1 := hs.k0
    have q2 := hs.k1
    have eL : (splL pg right).sl.length = k := by
      show (pg.sl.take (splK pg.sl.length)).length = k
      rw [← Hk.out, List.length_take]; omega
    have eR : (splR pg).sl.length = pg.sl.length - k := by
      show (pg.sl.drop (splK pg.sl.length)).length = _
      rw [← Hk.out, List.length_drop]
    have eL2 : (splL pg right).sl = pg.sl.take k := by show pg.sl.take (splK pg.sl.length) = _; rw [← Hk.out]
    have eR2 : (splR pg).sl = pg.sl.drop k := by show pg.sl.drop (splK pg.sl.length) = _; rw [← Hk.out]
    have EL := Lib.hid (And.intro eL eL2)
    have ER := Lib.hid (And.intro eR eR2)
    clear eL eR eL2 eR2
    go_wp2
    refine bodyPost_ret (pageSplit_res _ _ (bp + 1) (bp + 2) _ _ _ _ _ _ _ _ _ _ _ _ rfl rfl rfl rfl q1 q2) rfl ?_
    refine ⟨a1, c1, a2, c2, ?_, ?_⟩
    · rw [EL.out.1, ER.out.1, Hsp.out]; rfl
    · unfold slC
      rw [EL.out.1, ER.out.1, EL.out.2, ER.out.2]
      exact (hs.re [0, 1, 2, 4, 6, 5, 3, 7] rfl).tail.tail.tail.tail.tail
end
end Go.Proofs.YtlpdhhhgckpcfaaGreat
