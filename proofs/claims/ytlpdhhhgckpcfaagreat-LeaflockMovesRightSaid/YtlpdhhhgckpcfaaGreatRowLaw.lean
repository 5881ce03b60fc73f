
/- Inserting into a row of leaves (pure): what InsertRow keeps. -/
import Derived.Test.YtlpdhhhgckpcfaaGreatInsTree
import Derived.Test.YtlpdhhhgckpcfaaGreatLaw11a
import Derived.Test.YtlpdhhhgckpcfaaGreatSound
namespace Go.Proofs.YtlpdhhhgckpcfaaGreat
open Go.RowKit
set_option maxRecDepth 100000
section
variable {d : Cfg} {L L' : List Cel} {nd : Nd} {fr : InH} {p q : Pg} {sp : Bool}
end
/-- The slots of a row. -/
def rowSl (l : List Nd) : List Sl := l.flatMap fun nd => nd.pg.sl
theorem rowSl_set {l : List Nd} {i : Nat} {nd a : Nd} (hi : l[i]? = some nd) {x : Sl} (h : a.pg.sl.Perm (nd.pg.sl ++ [x])) : (rowSl (l.set i a)).Perm (rowSl l ++ [x]) := by
  induction l generalizing i with
  | nil => simp at hi
  | cons b l ih =>
    cases i with
    | zero =>
      obtain rfl : b = nd := by simpa using hi
      show (a.pg.sl ++ rowSl l).Perm ((b.pg.sl ++ rowSl l) ++ [x])
      refine (h.append_right _).trans ?_
      rw [List.append_assoc, List.append_assoc]
      exact List.Perm.append_left _ List.perm_append_comm
    | succ i =>
      show (b.pg.sl ++ rowSl (l.set i a)).Perm ((b.pg.sl ++ rowSl l) ++ [x])
      rw [List.append_assoc]
      exact List.Perm.append_left _ (ih (by simpa using hi))
theorem rowSl_spl {l : List Nd} {i : Nat} {nd a b : Nd} (hi : l[i]? = some nd) {x : Sl} (h : (a.pg.sl ++ b.pg.sl).Perm (nd.pg.sl ++ [x])) : (rowSl (spl l i a b)).Perm (rowSl l ++ [x]) := by
  have hlen := (List.getElem?_eq_some_iff.1 hi).1
  have e1 : rowSl (spl l i a b) = rowSl (l.take i) ++ ((a.pg.sl ++ b.pg.sl) ++ rowSl (l.drop (i + 1))) := by
    unfold spl rowSl
    simp [List.flatMap_append]
  have e2 : rowSl l = rowSl (l.take i) ++ (nd.pg.sl ++ rowSl (l.drop (i + 1))) := by
    conv => lhs; rw [← List.take_append_drop i l, List.drop_eq_getElem_cons hlen, (List.getElem?_eq_some_iff.1 hi).2]
    unfold rowSl
    simp [List.flatMap_append]
  rw [e1, e2, List.append_assoc (rowSl (l.take i)) (nd.pg.sl ++ rowSl (l.drop (i + 1))) [x]]
  refine List.Perm.append_left _ ?_
  refine (h.append_right _).trans ?_
  rw [List.append_assoc, List.append_assoc]
  exact List.Perm.append_left _ List.perm_append_comm
theorem insSl_perm (l : List Sl) (key : ByteArray) (r : Int) : (insSl l key r).Perm (l ++ [⟨key, r⟩]) := by
  unfold insSl
  refine List.perm_middle.trans ?_
  rw [List.take_append_drop]
  exact (List.perm_append_comm (l₁ := [⟨key, r⟩]) (l₂ := l))
/-- What InsertRow keeps: a row of leaves with the keys, the latter in the order in which they came. -/
structure RowI (d : Cfg) (L : List Cel) (l : List Nd) (ks : List ByteArray) : Prop where
  tr : TreeOk d L [l]
  cels : CelsOk L
  clen : (L.length : Int) = d.cells
  sl : (rowSl l).Perm (keySl 0 ks)
  n4 : (getC L 4).n ≤ ks.length + 1
  zero : ∀ j : Int, RestC d j → getC L j = Cel.zero
  ksz : ∀ k, k ∈ ks → k.size ≤ 32
  his : ∀ nd, nd ∈ l → nd.pg.hi.size ≤ 32
section
variable {d : Cfg} {L L' : List Cel} {l : List Nd} {ks : List ByteArray} {key : ByteArray}
theorem RowI.start (hd : d.Ok) : RowI d (startL d) [nd1] [] := by
  refine ⟨start_tree hd, (start_page hd).2.2.1, (start_page hd).2.2.2, List.Perm.refl _, ?_, fun j hj => start_zero hd j hj, fun k h => (by cases h), fun nd hn => ?_⟩
  · have h4 := (start_cells d hd).2.2 4 (by omega)
    have h10 := (start_cells d hd).2.1
    rw [if_neg (by omega), if_pos rfl] at h4
    rw [h4]; exact Int.le_refl _
  · obtain rfl : nd = nd1 := by simpa using hn
    exact Nat.zero_le _
theorem RowI.row (h : RowI d L l ks) : RowOk 0 l := h.tr.rows 0 l rfl
theorem RowI.nd (h : RowI d L l ks) {nd : Nd} (hn : nd ∈ l) : NdOk d L nd := h.tr.nodes 0 l rfl nd hn
theorem RowI.mem (h : RowI d L l ks) {nd : Nd} (hn : nd ∈ l) {s : Sl} (hs : s ∈ nd.pg.sl) : s ∈ keySl 0 ks := h.sl.subset (List.mem_flatMap.2 ⟨nd, hn, hs⟩)
/-- A slot has been inserted. -/
theorem RowI.ins {L3 : List Cel} {nd : Nd} {sp : Bool} {p : Pg} (hd : d.Ok) (h : RowI d L l ks) (hc : Cover [l] key 0 nd) (hno : ∀ s, s ∈ nd.pg.sl → s.k ≠ key) (hksz : key.size ≤ 32) (hsp : sp = decide (d.fa < ((insPg nd.pg key ((ks.length + 1 : Nat) : Int)).sl.length : Int))) (hnew : sp = true → newId L ≤ d.no)
    (hp : p = if sp then splL (insPg nd.pg key ((ks.length + 1 : Nat) : Int)) (newId L) else insPg nd.pg key ((ks.length + 1 : Nat) : Int)) (hM : InsMem d L L3 nd p sp (splR (insPg nd.pg key ((ks.length + 1 : Nat) : Int)))) (hL3 : CelsOk L3) (hlen3 : (L3.length : Int) = d.cells) : ∃ l', RowI d L3 l' (ks ++ [key]) := by
  obtain ⟨l0, i, hl0, hi, hlow, hin⟩ := hc
  obtain rfl : l0 = l := by simpa using hl0.symm
  have hmem := List.mem_of_getElem? hi
  have hN := h.nd hmem
  have hno2 := hd.no2
  have ht := tree_ins (r := ((ks.length + 1 : Nat) : Int)) hd h.tr (k := 0) (l := l0) rfl hi hlow hin hno (by omega) (fun m _ e => by omega) hsp hnew hp hM
  have hn0 : newId L = (getC L 4).n + 1 := rfl
  have hz : ∀ j : Int, RestC d j → getC L3 j = Cel.zero := fun j hj => by
    rw [hM.other j ?_ (fun k a b => hj.node hd hN.id.1 hN.id.2 a b) (fun e k a b => hj.node hd (by have := hN.id.1; have := h.tr.used 0 l0 rfl nd hmem; omega) (hnew e) a b)]
    · exact h.zero j hj
    · have hA := hd.A_bd
      have hB := hd.B_bd
      rcases hj with hj | hj <;> omega
  have hksz2 : ∀ k, k ∈ ks ++ [key] → k.size ≤ 32 := fun k hk => by
    rcases List.mem_append.1 hk with hk | hk
    · exact h.ksz k hk
    · obtain rfl : k = key := by simpa using hk
      exact hksz
  have hpush : keySl 0 (ks ++ [key]) = keySl 0 ks ++ [⟨key, ((ks.length + 1 : Nat) : Int)⟩] := by rw [keySl_push]; simp
  have hsepz : (splSep (insPg nd.pg key ((ks.length + 1 : Nat) : Int))).size ≤ 32 := by
    have hall : ∀ s, s ∈ (insPg nd.pg key ((ks.length + 1 : Nat) : Int)).sl → s.k.size ≤ 32 := fun s hs => by
      rcases insSl_mem hs with hs | rfl
      · exact h.ksz _ (keySl_mem (h.mem hmem hs)).1
      · exact hksz
    unfold splSep
    split
    · rename_i x y hx hy
      split
      · exact Nat.le_trans (sepK_size _ _) (hall y (List.mem_of_getElem? hy))
      · exact hall y (List.mem_of_getElem? hy)
    · exact Nat.zero_le _
  have hn4L := h.n4
  cases sp with
  | false =>
    have e : insT [l0] 0 i l0 nd (insPg nd.pg key ((ks.length + 1 : Nat) : Int)) (newId L) false = [l0.set i { nd with pg := insPg nd.pg key ((ks.length + 1 : Nat) : Int) }] := rfl
    rw [e] at ht
    have hn4' : (getC L3 4).n = (getC L 4).n := hM.n4
    refine ⟨_, ht, hL3, hlen3, ?_, by rw [hn4', List.length_append]; simp; omega, hz, hksz2, fun c hc => ?_⟩
    · rw [hpush]
      exact (rowSl_set hi (insSl_perm _ _ _)).trans (h.sl.append_right _)
    · rcases mem_set hc with rfl | hc
      · exact h.his nd hmem
      · exact h.his c hc
  | true =>
    have e : insT [l0] 0 i l0 nd (insPg nd.pg key ((ks.length + 1 : Nat) : Int)) (newId L) true = [spl l0 i { nd with pg := splL (insPg nd.pg key ((ks.length + 1 : Nat) : Int)) (newId L) } ⟨newId L, splSep (insPg nd.pg key ((ks.length + 1 : Nat) : Int)), splR (insPg nd.pg key ((ks.length + 1 : Nat) : Int))⟩] := rfl
    rw [e] at ht
    have hn4' : (getC L3 4).n = newId L := hM.n4
    refine ⟨_, ht, hL3, hlen3, ?_, by rw [hn4', List.length_append]; simp; omega, hz, hksz2, fun c hc => ?_⟩
    · rw [hpush]
      refine (rowSl_spl hi ?_).trans (h.sl.append_right _)
      show ((insSl nd.pg.sl key _).take _ ++ (insSl nd.pg.sl key _).drop _).Perm _
      rw [List.take_append_drop]
      exact insSl_perm _ _ _
    · rcases spl_mem hc with rfl | rfl | hc
      · exact hsepz
      · exact h.his nd hmem
      · exact h.his c hc
/-- The cells with the number of chains. -/
def five (L : List Cel) (n : Nat) : List Cel := putC L 5 ⟨n, ⟨#[]⟩, 0⟩
theorem five_ne {n : Nat} {j : Int} (h : j ≠ 5) : getC (five L n) j = getC L j := getC_ne h
theorem RowI.five (hd : d.Ok) (h : RowI d L l ks) (n : Nat) : TreeOk d (five L n) [l] := by
  have h8 : ∀ id k : Int, 1 ≤ id → id ≤ d.no → 0 ≤ k → k < d.fa + 4 → 8 ≤ d.node id k := fun id k i1 i2 a b => by
    have n0 := (node_in hd i1 i2 a b).1
    have hA := hd.A_bd
    have f1 := hd.fa1
    have m3 : 0 ≤ (id - 1) * (d.fa + 4) := Int.mul_nonneg (by omega) (by omega)
    omega
  obtain ⟨a, b, c, e, f, g, i, j⟩ := h.tr
  refine ⟨a, b, fun k l hk nd hn => (c k l hk nd hn).frame hd (fun q x y => five_ne (by have := h8 nd.id q (c k l hk nd hn).id.1 (c k l hk nd hn).id.2 x y; omega)), ?_, f, ?_, ?_, ?_⟩
  · rw [five_ne (by omega)]; exact e
  · rw [five_ne (by omega)]; exact g
  · rw [five_ne (by omega)]; exact i
  · rw [five_ne (by omega)]; exact j
/-- A key's slot lies in the leaf that covers the key. -/
theorem RowI.slot (h : RowI d L l ks) {nd : Nd} {j : Nat} (hk : ks[j]? = some key) (hc : Cover [l] key 0 nd) : nd.pg.sl[loK nd.pg.sl key]? = some ⟨key, ((j + 1 : Nat) : Int)⟩ ∧ (nd.pg.sl.any fun s => s.k.toList == key.toList) = true := by
  obtain ⟨l0, i, hl0, hi, a1, a2⟩ := hc
  obtain rfl : l0 = l := by simpa using hl0.symm
  have h1 := List.mem_of_getElem? (keySl_at ks 0 j key hk)
  have h2 := h.sl.symm.subset h1
  obtain ⟨b, hb, hs⟩ := List.mem_flatMap.1 h2
  obtain ⟨i', hi'⟩ := List.getElem?_of_mem hb
  have hN := h.nd hb
  obtain ⟨b1, b2⟩ := hN.bd _ hs
  have e : i = i' := h.row.cover_one hi hi' a1 a2 b1 (by
    cases hla : b.pg.la with
    | true => rfl
    | false => rw [Bool.false_or]; exact b2 hla)
  subst e
  rw [hi] at hi'
  obtain rfl := Option.some.inj hi'
  obtain ⟨q, hq⟩ := List.getElem?_of_mem hs
  have h3 := loK_iff hN.asc (key := key) hq
  have h4 := hiK_iff hN.asc (key := key) hq
  simp only [klt_irrefl, Bool.false_eq_true, false_iff, true_iff] at h3 h4
  have hq2 : q = loK nd.pg.sl key := by
    rcases loK_hiK hN.asc (key := key) with h | ⟨h, _⟩ <;> omega
  refine ⟨by rw [← hq2, hq]; simp, List.any_eq_true.2 ⟨_, hs, beq_self_eq_true _⟩⟩
theorem keySl_refs : ∀ (ks : List ByteArray) (i : Nat), (keySl i ks).map (·.r) = (List.range ks.length).map (fun j => ((i + j + 1 : Nat) : Int))
  | [], i => rfl
  | k :: ks, i => by
    show ((i + 1 : Nat) : Int) :: (keySl (i + 1) ks).map (·.r) = _
    rw [keySl_refs ks (i + 1), List.length_cons, List.range_succ_eq_map, List.map_cons, List.map_map]
    congr 1
    refine List.map_congr_left (fun j _ => ?_)
    show ((i + 1 + j + 1 : Nat) : Int) = ((i + (j + 1) + 1 : Nat) : Int)
    congr 1; omega
theorem RowI.snd (hd : d.Ok) (h : RowI d L l ks) (hch : (ks.length : Int) ≤ d.ch) (hlen : ks.length ≤ 1000) : SndOk d (Go.Proofs.YtlpdhhhgckpcfaaGreat.five L ks.length) [l] := by
  have hA := hd.A_bd
  have hB := hd.B_bd
  have hC := hd.C_bd
  have hcb := hd.cells_bd
  have hcl := h.clen
  have z : ∀ j : Int, 1 ≤ j → j < d.A → j ≠ 4 → j ≠ 5 → getC (Go.Proofs.YtlpdhhhgckpcfaaGreat.five L ks.length) j = Cel.zero := fun j a b c e => by
    rw [five_ne e]; exact h.zero j (.inl ⟨a, b, c, e⟩)
  have h5 : (getC (Go.Proofs.YtlpdhhhgckpcfaaGreat.five L ks.length) 5).n = ks.length := by
    unfold Go.Proofs.YtlpdhhhgckpcfaaGreat.five
    rw [getC_eq (by omega) (by omega)]
  have r1 := hd.re1
  refine ⟨h.five hd _, ⟨?_, ?_, ?_, by rw [h5]; exact hch, ?_, ?_, fun i a b => .inl ?_⟩, fun l' hl' => ?_⟩
  · rw [z 1 (by omega) (by omega) (by omega) (by omega), z 2 (by omega) (by omega) (by omega) (by omega)]
  · rw [z 3 (by omega) (by omega) (by omega) (by omega), z 2 (by omega) (by omega) (by omega) (by omega)]; exact Int.le_refl _
  · rw [five_ne (by omega)]; exact h.tr.n4
  · rw [z 6 (by omega) (by omega) (by omega) (by omega)]; show (0 : Int) ≤ d.re; omega
  · rw [z 7 (by omega) (by omega) (by omega) (by omega)]; rfl
  · rw [z i (by omega) b (by omega) (by omega)]; rfl
  · obtain rfl : l' = l := by simpa using hl'.symm
    have hp := h.sl.map (fun s : Sl => s.r)
    rw [keySl_refs] at hp
    refine ⟨fun r hr => ?_, ?_⟩
    · have hr' := hp.subset hr
      obtain ⟨j, hj, rfl⟩ := List.mem_map.1 hr'
      have hj := List.mem_range.1 hj
      have hcin := chain_in hd (c := ((0 + j + 1 : Nat) : Int)) (by omega) (by omega)
      refine ⟨by omega, by omega, by rw [h5]; omega, [], ?_, by show (0 : Int) ≤ d.re; omega, fun i v hv => by simp at hv⟩
      show (getC _ _).n = 0
      rw [five_ne (by omega), h.zero _ (.inr (by omega))]
      rfl
    · refine hp.nodup_iff.2 ?_
      rw [List.nodup_iff_pairwise_ne, List.pairwise_map]
      refine List.Pairwise.imp (fun {a b} hab => ?_) (List.nodup_iff_pairwise_ne.1 List.nodup_range)
      intro e
      exact hab (by omega)
end
end Go.Proofs.YtlpdhhhgckpcfaaGreat
