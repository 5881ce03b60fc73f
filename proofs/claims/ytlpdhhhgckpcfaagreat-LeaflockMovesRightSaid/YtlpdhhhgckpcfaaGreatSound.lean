
/- blinktreecells.View: Chain, Refs, Keys, counters, chains. blinktreecells.View: counters, chains, sound, Sound: a tree that is sound. blinktreecells.View: counters, chains. blinktreecells.View: sound, Sound. blinktreecells.View: Sound. -/
import Derived.Test.YtlpdhhhgckpcfaaGreatVers
import Derived.Test.YtlpdhhhgckpcfaaGreatLevA
import Derived.Test.YtlpdhhhgckpcfaaGreatCelSame
import Derived.Test.YtlpdhhhgckpcfaaGreatInsOut
import Derived.Test.YtlpdhhhgckpcfaaGreatTreePut
import Derived.Test.YtlpdhhhgckpcfaaGreatLaw11b
namespace Go.Proofs.YtlpdhhhgckpcfaaGreat
open Go.RowKit
set_option maxRecDepth 100000
section
variable {K : Know} {w : World} {F : List Comp} {d : Cfg} {g : Nat} {L : List Cel}
/-- A record's number in a chain: 0 or a record. -/
theorem Linked.num {r : Int} {vs : List Ver} (h : Linked d L r vs) : (vs = [] ∧ r = 0) ∨ ∃ v rest, vs = v :: rest ∧ r = v.r ∧ VerAt d L v ∧ Linked d L (getC L (d.record v.r 2)).n rest := by
  cases vs with
  | nil => exact .inl ⟨rfl, h⟩
  | cons v rest => exact .inr ⟨v, rest, rfl, h.1, h.2.1, h.2.2⟩
variable {t : List (List Nd)}

end
end Go.Proofs.YtlpdhhhgckpcfaaGreat

namespace Go.Proofs.YtlpdhhhgckpcfaaGreat
open Go.RowKit
set_option maxRecDepth 100000
section
variable {K : Know} {w : World} {F : List Comp} {a : Option Addr} {n cap : Nat} {sl : List Sl} {lev ri fa : Int} {hi : ByteArray}
/- P7.1. -/

end
end Go.Proofs.YtlpdhhhgckpcfaaGreat

namespace Go.Proofs.YtlpdhhhgckpcfaaGreat
open Go.RowKit
set_option maxRecDepth 100000
/-- The counters, with nothing in progress. -/
structure CtOk (d : Cfg) (L : List Cel) : Prop where
  pub : (getC L 1).n = (getC L 2).n
  flo : (getC L 3).n ≤ (getC L 2).n
  nod : (getC L 4).n ≤ d.no
  chn : (getC L 5).n ≤ d.ch
  rcd : (getC L 6).n ≤ d.re
  gro : (getC L 7).n % 4 = 0
  snp : ∀ i : Int, 8 ≤ i → i < d.A → (getC L i).n = 0 ∨ (getC L 3).n ≤ (getC L i).n - 1
/-- The chains of the slots. -/
structure ChsOk (d : Cfg) (L : List Cel) (rs : List Int) : Prop where
  ok : ∀ r, r ∈ rs → 1 ≤ r ∧ r ≤ d.ch ∧ r ≤ (getC L 5).n ∧ ∃ vs, Linked d L (getC L (d.chain r)).n vs ∧ (vs.length : Int) ≤ d.re ∧ V9 (getC L 2).n vs
  nd : rs.Nodup
section
variable {K : Know} {w : World} {F : List Comp} {d : Cfg} {g : Nat} {L : List Cel} {t : List (List Nd)}
end
end Go.Proofs.YtlpdhhhgckpcfaaGreat

namespace Go.Proofs.YtlpdhhhgckpcfaaGreat
open Go.RowKit
set_option maxRecDepth 100000
/-- A node that is sound at its place. -/
structure NdSnd (d : Cfg) (L : List Cel) (lev : Nat) (below : List Int) (lows : List ByteArray) (nd : Nd) : Prop where
  ok : NdOk d L nd
  lv : nd.pg.lev = lev
  ne : 0 < lev → ∃ s r, nd.pg.sl = s :: r ∧ s.k = nd.low
  la : nd.pg.la = true → nd.pg.hi = ⟨#[]⟩ ∧ nd.pg.ri = 0
  ri : nd.pg.la = false → 1 ≤ nd.pg.ri ∧ nd.pg.ri ≤ d.no ∧ nd.pg.ri ≤ (getC L 4).n
  dn : ∀ s, s ∈ nd.pg.sl → lev = 0 ∨ ∃ k : Nat, below[k]? = some s.r ∧ lows[k]? = some s.k
section
variable {K : Know} {w : World} {F : List Comp} {d : Cfg} {g : Nat} {L : List Cel} {nd : Nd} {lev : Nat} {below : List Int} {lows : List ByteArray} {ab al : Option Addr} {cb cl : Nat}
end
end Go.Proofs.YtlpdhhhgckpcfaaGreat

namespace Go.Proofs.YtlpdhhhgckpcfaaGreat
open Go.RowKit
set_option maxRecDepth 100000
/-- The row below a level. -/
def bRow (t : List (List Nd)) : Nat → List Nd
  | 0 => []
  | k + 1 => (t[k]?).getD []
/-- A page (e1), and a value that is known (e2). -/
def PvΦ (pg : Pg) (u : Value) (e1 e2 : Nat) (e : Nat) (_ρ : Nat → Option Value) (v : Value) (cs : List Comp) : Prop :=
  if e = e1 then ∃ (a : Option Addr) (c : Nat), v = (.agg #[.int .i64 (pg).lev, (.slice a pg.sl.length c), .string (pg).hi, .bool (pg).la, .int .u64 (pg).ri]) ∧ cs = [slC (.slice a pg.sl.length c) pg]
  else if e = e2 then v = u ∧ cs = [] else False
theorem PvΦ.mono {pg : Pg} {u : Value} {e1 e2 : Nat} {es : List Nat} : Mono es (PvΦ pg u e1 e2) := by
  intro e ρ v cs k u he hk h
  exact h
theorem TreeOk.snd {d : Cfg} {L : List Cel} {t : List (List Nd)} (ht : TreeOk d L t) {lev : Nat} {l : List Nd} (hl : t[lev]? = some l) {nd : Nd} (hn : nd ∈ l) : NdSnd d L lev ((bRow t lev).map (·.id)) ((bRow t lev).map (·.low)) nd := by
  obtain ⟨i, hi⟩ := List.getElem?_of_mem hn
  have hil := (List.getElem?_eq_some_iff.1 hi).1
  have hR := ht.rows lev l hl
  refine ⟨ht.nodes lev l hl nd hn, hR.lev nd hn, fun h0 => ?_, fun h => ?_, fun h => ?_, fun s hs => ?_⟩
  · obtain ⟨k, rfl⟩ : ∃ k, lev = k + 1 := ⟨lev - 1, by omega⟩
    obtain ⟨l0, hl0⟩ : ∃ l0, t[k]? = some l0 := ⟨_, List.getElem?_eq_getElem (by have := (List.getElem?_eq_some_iff.1 hl).1; omega)⟩
    exact (ht.down k l0 l hl0 hl nd hn).1
  · rcases Nat.lt_or_ge (i + 1) l.length with hlt | hge
    · have := (hR.next i nd _ hi (List.getElem?_eq_getElem hlt)).1
      rw [h] at this; cases this
    · exact (hR.last i nd hi (by omega)).2
  · rcases Nat.lt_or_ge (i + 1) l.length with hlt | hge
    · obtain ⟨b, hb⟩ : ∃ b, l[i + 1]? = some b := ⟨_, List.getElem?_eq_getElem hlt⟩
      rw [(hR.next i nd b hi hb).2.2.1]
      have h1 := (ht.nodes lev l hl b (List.mem_of_getElem? hb)).id
      have h2 := ht.used lev l hl b (List.mem_of_getElem? hb)
      omega
    · have := (hR.last i nd hi (by omega)).1
      rw [h] at this; cases this
  · rcases Nat.eq_zero_or_pos lev with h0 | h0
    · exact .inl h0
    · obtain ⟨k, rfl⟩ : ∃ k, lev = k + 1 := ⟨lev - 1, by omega⟩
      obtain ⟨l0, hl0⟩ : ∃ l0, t[k]? = some l0 := ⟨_, List.getElem?_eq_getElem (by have := (List.getElem?_eq_some_iff.1 hl).1; omega)⟩
      obtain ⟨c, hc, e1, e2⟩ := (ht.down k l0 l hl0 hl nd hn).2 s hs
      obtain ⟨j, hj⟩ := List.getElem?_of_mem hc
      have hb : bRow t (k + 1) = l0 := by show (t[k]?).getD [] = l0; rw [hl0]; rfl
      refine .inr ⟨j, ?_, ?_⟩
      · rw [hb, List.getElem?_map, hj, ← e1]; rfl
      · rw [hb, List.getElem?_map, hj, ← e2]; rfl
/-- A memory with nothing in progress. -/
structure SndOk (d : Cfg) (L : List Cel) (t : List (List Nd)) : Prop where
  tr : TreeOk d L t
  ct : CtOk d L
  ch : ∀ l, t[0]? = some l → ChsOk d L ((l.flatMap fun nd => nd.pg.sl).map (·.r))
end Go.Proofs.YtlpdhhhgckpcfaaGreat
