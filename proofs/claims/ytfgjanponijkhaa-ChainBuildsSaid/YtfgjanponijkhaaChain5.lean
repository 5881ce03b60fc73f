/- Stamp and Restore (package chain); blinktreelaw10's write and install. -/
import Derived.Test.YtfgjanponijkhaaChain3
import Derived.Test.YtfgjanponijkhaaChain4
namespace Go.Proofs.Ytfgjanponijkhaa
open Go.RowKit
set_option maxRecDepth 100000

theorem single_res (tmps : Array Value) (w : World) (b : Nat) (v0 v1 : Value) (hp : tmps[4]? = some (.pointer (some ⟨b, 0, none⟩))) (hk : ∀ k, w.cell? ⟨b, k, none⟩ = (#[v0, v1] : Array Value)[k]?) :
    (results Try.f106 tmps).run Try.prog w = .ok (.agg #[v0, v1]) w := by
  simp [results, Try.results106, go_sem, hp, hk]
theorem write_res (tmps : Array Value) (w : World) (b : Nat) (v0 v1 v2 : Value) (hp : tmps[2]? = some (.pointer (some ⟨b, 0, none⟩))) (hk : ∀ k, w.cell? ⟨b, k, none⟩ = (#[v0, v1, v2] : Array Value)[k]?) :
    (results Try.f33 tmps).run Try.prog w = .ok (.agg #[v0, v1, v2]) w := by
  simp [results, Try.results33, go_sem, hp, hk]

section
variable {K : Know} {d : Cfg} {ch r t : Int} {key v : ByteArray} {del : Bool} {G : List Comp} {w : World} {i n : Int} {bm bc : Nat} {L : List Cel} {acc : Nat}

/-- A machine with one step, a store. -/
theorem single_st (hs : St K w G) : Calls Try.prog 106 #[.int .i64 i, .int .u64 n] w fun e w' => ∃ bi bn, e = .returned (.agg #[.func (.func 153) #[] #[.pointer (some ⟨bi, 0, none⟩), .pointer (some ⟨bn, 0, none⟩)], .bool true]) ∧ St K w' (blk bi (.cells [.int .i64 i].toArray 3) :: blk bn (.cells [.int .u64 n].toArray 23) :: G) := by
  have hs := hs.made (.cells [.int .i64 i].toArray 3)
  have hs := hs.made (.cells [.int .u64 n].toArray 23)
  have hs := hs.made (.cells [.nilFunc, .bool false].toArray 159)
  rw [World.size_alloc, World.size_alloc] at hs
  go_enter Try.func106, Try.ntmps106
  go_wp2_with fail
  refine (calls_same hs (begin_any _ _ _ _)).mono ?_
  clear hs
  rintro e w2 ⟨rfl, hs⟩
  have k := hs.k0
  have kf := hs.f0
  have hs := (hs.setL 0 (.func (.func 153) #[] #[.pointer (some ⟨w.heap.size, 0, none⟩), .pointer (some ⟨(w.heap.size + 1), 0, none⟩)])).setL 1 (.bool true)
  simp only [List.set_cons_zero, List.set_cons_succ] at hs
  go_wp2
  refine bodyPost_ret (single_res _ _ (w.heap.size + 1 + 1) _ _ rfl hs.k0) rfl ⟨_, _, rfl, hs.tail.b1⟩

theorem singleRun_st {b bi bn : Nat} {T : TypeId} (ha : acc ≤ 1000000000000)
    (hs : St K w (blk b (.cells [.func (.func 153) #[] #[.pointer (some ⟨bi, 0, none⟩), .pointer (some ⟨bn, 0, none⟩)], .bool true].toArray T) :: blk bi (.cells [.int .i64 i].toArray 3) :: blk bn (.cells [.int .u64 n].toArray 23) :: memC bm bc L acc :: G)) :
    Calls Try.prog 103 #[.pointer (some ⟨b, 0, none⟩), .pointer (some ⟨bm, 0, none⟩)] w fun e w' => e = .returned (.bool true) ∧ St K w' (memC bm bc (putC L i ⟨n, ⟨#[]⟩, 0⟩) (acc + 1) :: G) := by
  have k0 := hs.k0 0
  have q : Calls Try.prog 153 #[.pointer (some ⟨bm, 0, none⟩), .pointer (some ⟨bi, 0, none⟩), .pointer (some ⟨bn, 0, none⟩)] w fun e w1 => e = .returned (stV none) ∧ St K w1 (blk b (.cells ((Value.func (.func 153) #[] #[.pointer (some ⟨bi, 0, none⟩), .pointer (some ⟨bn, 0, none⟩)]) :: [.bool true]).toArray T) :: memC bm bc (putC L i ⟨n, ⟨#[]⟩, 0⟩) (acc + 1) :: G) := by
    have k1 := hs.k1 0
    have k2 := hs.k2 0
    have Hs := Lib.hid hs
    clear k0 hs
    go_enter Try.func153, Try.ntmps153
    go_wp2_with fail
    refine (store_st (c := ⟨n, ⟨#[]⟩, 0⟩) Hs.out.b3 ha).mono ?_
    rintro e w6 ⟨rfl, hs⟩
    go_wp2
    go_ret
    exact ⟨rfl, hs.b2.tail.b2.tail.b1⟩
  refine (runStep_to (s := ⟨153, #[], #[.pointer (some ⟨bi, 0, none⟩), .pointer (some ⟨bn, 0, none⟩)]⟩) enters_single k0 q).mono ?_
  rintro e w' ⟨he, hs⟩
  exact ⟨he, hs.tail⟩

theorem newStamp_st (hd : d.Ok) (hr : 0 ≤ r ∧ r < 18446744073709551616) (hs : St K w G) :
    Calls Try.prog 34 #[.agg #[.int .i64 d.th, .int .i64 d.sn, .int .i64 d.no, .int .i64 d.ch, .int .i64 d.re, .int .i64 d.fa, .int .u64 d.cl], .int .u64 r, .int .u64 t] w fun e w' => ∃ b bi bn, e = .returned (.pointer (some ⟨b, 0, none⟩)) ∧ St K w' (blk b (.cells [.func (.func 153) #[] #[.pointer (some ⟨bi, 0, none⟩), .pointer (some ⟨bn, 0, none⟩)], .bool true].toArray 167) :: blk bi (.cells [.int .i64 (d.record r 0)].toArray 3) :: blk bn (.cells [.int .u64 t].toArray 23) :: G) := by
  have hs := hs.pass (.cells #[.int .i64 d.th, .int .i64 d.sn, .int .i64 d.no, .int .i64 d.ch, .int .i64 d.re, .int .i64 d.fa, .int .u64 d.cl] 30)
  go_enter Try.func34, Try.ntmps34
  go_wp2_with fail
  refine (calls_same hs (stamp_any d hd r hr.1 hr.2 _)).mono ?_
  clear hs
  rintro e w2 ⟨rfl, hs⟩
  go_wp2_with fail
  refine (single_st (i := d.record r 0) (n := t) hs).mono ?_
  clear hs
  rintro e w3 ⟨bi, bn, rfl, hs⟩
  have hs := hs.made (.cells [.func (.func 153) #[] #[.pointer (some ⟨bi, 0, none⟩), .pointer (some ⟨bn, 0, none⟩)], .bool true].toArray 167)
  go_wp2
  go_ret
  exact ⟨_, _, _, rfl, hs⟩
theorem newRestore_st (hd : d.Ok) (hch : 0 ≤ ch ∧ ch < 18446744073709551616) (hs : St K w G) :
    Calls Try.prog 41 #[.agg #[.int .i64 d.th, .int .i64 d.sn, .int .i64 d.no, .int .i64 d.ch, .int .i64 d.re, .int .i64 d.fa, .int .u64 d.cl], .int .u64 ch, .int .u64 t] w fun e w' => ∃ b bi bn, e = .returned (.pointer (some ⟨b, 0, none⟩)) ∧ St K w' (blk b (.cells [.func (.func 153) #[] #[.pointer (some ⟨bi, 0, none⟩), .pointer (some ⟨bn, 0, none⟩)], .bool true].toArray 173) :: blk bi (.cells [.int .i64 (d.chain ch)].toArray 3) :: blk bn (.cells [.int .u64 t].toArray 23) :: G) := by
  have hs := hs.pass (.cells #[.int .i64 d.th, .int .i64 d.sn, .int .i64 d.no, .int .i64 d.ch, .int .i64 d.re, .int .i64 d.fa, .int .u64 d.cl] 30)
  go_enter Try.func41, Try.ntmps41
  go_wp2_with fail
  refine (calls_same hs (chain_any d hd ch hch.1 hch.2 _)).mono ?_
  clear hs
  rintro e w2 ⟨rfl, hs⟩
  go_wp2_with fail
  refine (single_st (i := d.chain ch) (n := t) hs).mono ?_
  clear hs
  rintro e w3 ⟨bi, bn, rfl, hs⟩
  have hs := hs.made (.cells [.func (.func 153) #[] #[.pointer (some ⟨bi, 0, none⟩), .pointer (some ⟨bn, 0, none⟩)], .bool true].toArray 173)
  go_wp2
  go_ret
  exact ⟨_, _, _, rfl, hs⟩
theorem stampStep_st {b bi bn : Nat} {T : TypeId} (ha : acc ≤ 1000000000000)
    (hs : St K w (blk b (.cells [.func (.func 153) #[] #[.pointer (some ⟨bi, 0, none⟩), .pointer (some ⟨bn, 0, none⟩)], .bool true].toArray T) :: blk bi (.cells [.int .i64 i].toArray 3) :: blk bn (.cells [.int .u64 n].toArray 23) :: memC bm bc L acc :: G)) :
    Calls Try.prog 35 #[.pointer (some ⟨b, 0, none⟩), .pointer (some ⟨bm, 0, none⟩)] w fun e w' => e = .returned (.bool true) ∧ St K w' (memC bm bc (putC L i ⟨n, ⟨#[]⟩, 0⟩) (acc + 1) :: G) := by
  have Q := Lib.hid (singleRun_st ha hs)
  clear hs
  go_enter Try.func35, Try.ntmps35
  go_wp2_with fail
  refine (Q.out).mono ?_
  rintro e w1 ⟨rfl, hs⟩
  go_wp2
  go_ret
  exact ⟨rfl, hs⟩
theorem restoreStep_st {b bi bn : Nat} {T : TypeId} (ha : acc ≤ 1000000000000)
    (hs : St K w (blk b (.cells [.func (.func 153) #[] #[.pointer (some ⟨bi, 0, none⟩), .pointer (some ⟨bn, 0, none⟩)], .bool true].toArray T) :: blk bi (.cells [.int .i64 i].toArray 3) :: blk bn (.cells [.int .u64 n].toArray 23) :: memC bm bc L acc :: G)) :
    Calls Try.prog 43 #[.pointer (some ⟨b, 0, none⟩), .pointer (some ⟨bm, 0, none⟩)] w fun e w' => e = .returned (.bool true) ∧ St K w' (memC bm bc (putC L i ⟨n, ⟨#[]⟩, 0⟩) (acc + 1) :: G) := by
  have Q := Lib.hid (singleRun_st ha hs)
  clear hs
  go_enter Try.func43, Try.ntmps43
  go_wp2_with fail
  refine (Q.out).mono ?_
  rintro e w1 ⟨rfl, hs⟩
  go_wp2
  go_ret
  exact ⟨rfl, hs⟩

/-- The value that a step writes. -/
def wrV (v : ByteArray) (del : Bool) : ByteArray := if del then ⟨#[]⟩ else if v.size ≤ 64 then v else v.extract 0 64
theorem wrV_del {v : ByteArray} {del : Bool} (h : del = true) : wrV v del = ⟨#[]⟩ := by unfold wrV; rw [if_pos h]
theorem write_st {kd fl : Int} (hv : v.size ≤ maxLen) (hs : St K w G) :
    Calls Try.prog 33 #[.agg #[.int .i64 kd, .string v, .bool del, .int .u8 fl]] w fun e w' => e = .returned (.agg #[.string ⟨#[]⟩, .string (wrV v del), .bool del]) ∧ St K w' G := by
  cases del with
  | true =>
    rw [wrV_del rfl]
    have hs := hs.pass (.cells #[.int .i64 kd, .string v, .bool true, .int .u8 fl] 54)
    have hs := hs.made (.cells #[.string ⟨#[]⟩, .string ⟨#[]⟩, .bool true] 52)
    rw [World.size_alloc] at hs
    go_enter Try.func33, Try.ntmps33
    go_wp2
    refine bodyPost_ret (write_res _ _ (w.heap.size + 1) _ _ _ rfl hs.k0) rfl ⟨rfl, hs.tail⟩
  | false =>
    unfold maxLen at hv
    have hs := hs.pass (.cells #[.int .i64 kd, .string v, .bool false, .int .u8 fl] 54)
    by_cases h : v.size ≤ 64
    · have e : wrV v false = v := by unfold wrV; rw [if_neg (by simp), if_pos h]
      rw [e]
      clear e
      have hs := hs.made (.cells #[.string ⟨#[]⟩, .string v, .bool false] 52)
      rw [World.size_alloc] at hs
      have h2 : (v.size : Int) ≤ 64 := by omega
      go_enter Try.func33, Try.ntmps33
      go_wp2
      refine bodyPost_ret (write_res _ _ (w.heap.size + 1) _ _ _ rfl hs.k0) rfl ⟨rfl, hs.tail⟩
    · have e : wrV v false = v.extract 0 64 := by unfold wrV; rw [if_neg (by simp), if_neg h]
      rw [e]
      clear e
      have hs := hs.made (.cells #[.string ⟨#[]⟩, .string (v.extract 0 64), .bool false] 52)
      rw [World.size_alloc] at hs
      have h2 : ¬(v.size : Int) ≤ 64 := by omega
      have h3 : 64 ≤ v.size := by omega
      go_enter Try.func33, Try.ntmps33
      go_wp2
      refine bodyPost_ret (write_res _ _ (w.heap.size + 1) _ _ _ rfl hs.k0) rfl ⟨rfl, hs.tail⟩
end
end Go.Proofs.Ytfgjanponijkhaa
