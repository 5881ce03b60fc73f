
/- blinktreekit.Same at cells; a page of a view that a law compares. -/
import Derived.Test.YtlpdhhhgckpcfaaGreatViewA
import Derived.Test.YtlpdhhhgckpcfaaGreatKeys
import Derived.Test.YtlpdhhhgckpcfaaGreatCallVar
namespace Go.Proofs.YtlpdhhhgckpcfaaGreat
open Go.RowKit
set_option maxRecDepth 100000
section
variable {K:aK}{w w':World}{c d:aB}{cs F:List aB}
end
def sX (K:aK)(REST:List aB)(pg:Pg)(ρ:Nat->Option Value)(W:World):Prop:=
 ∃ (a:Option Addr) (c b:Nat),(∀ v,ρ 5=some v->v=(.agg #[.int .i64 (pg).az,(.slice a pg.sl.length c),.string (pg).hi,.bool (pg).la,.int .u64 (pg).ri]))/\(∀ v,ρ 6=some v->v=(.pointer (some ⟨b,0,none⟩))) /\
  St K W (dA (ρ 5) (bq (.slice a pg.sl.length c) pg)::dA (ρ 6) (blk b (.cells (if (ρ 7).isSome then #[.int .i64 (pg).az,(.slice a pg.sl.length c),.string (pg).hi,.bool (pg).la,.int .u64 (pg).ri]else #[.int .i64 0,.slice none 0 0,.string ⟨#[]⟩,.bool false,.int .u64 0]) 43))::REST)
section
variable {K:aK}{REST:List aB}{pg:Pg}{ρ:Nat->Option Value}{W:World}{v5 v6:Value}
theorem sX.start (hs:St K W REST):sX K REST pg (fun _=>none) W:=
 ⟨none,0,0,fun v h=>(by cases h),fun v h=>(by cases h),hs.empty.empty⟩
theorem sX.same {W':World}(h:sX K REST pg ρ W)(hb:Below W.heap.size W W'):sX K REST pg ρ W' := by
 obtain⟨a,c,b,e1,e2,hs⟩:=h;exact⟨a,c,b,e1,e2,hs.same hb⟩
theorem sX.rest (h:sX K REST pg ρ W):St K W REST:=by
 obtain⟨a,c,b,e1,e2,hs⟩:=h;exact hs.tail.tail
theorem sX.e5 (h:sX K REST pg ρ W)(h5:ρ 5=none)(h7:ρ 7=none):∃ R',St K W R' /\ ∀ (a:Option Addr)(c:Nat) W',St K W' (bq (.slice a pg.sl.length c) pg::R')->sX K REST pg (upd ρ 5 (.agg #[.int .i64 (pg).az,(.slice a pg.sl.length c),.string (pg).hi,.bool (pg).la,.int .u64 (pg).ri])) W' := by
 obtain⟨a,c,b,e1,e2,hs⟩:=h;rw[h5,h7]at hs;refine⟨_,hs.tail,fun a' c' W' hs' => ⟨a',c',b,fun v h=>by simpa[upd] using h.symm,fun v h=>e2 v (by simpa[upd] using h),?_⟩⟩
 have:St K W' (dA (some (.agg #[.int .i64 (pg).az,(.slice a' pg.sl.length c'),.string (pg).hi,.bool (pg).la,.int .u64 (pg).ri])) (bq (.slice a' pg.sl.length c') pg)::_):=hs';simpa[upd,h7] using this
theorem sX.e6 (h:sX K REST pg ρ W)(h6:ρ 6=none)(h7:ρ 7=none):sX K REST pg (upd ρ 6 (.pointer (some ⟨W.heap.size,0,none⟩))) (W.alloc (.cells #[.int .i64 0,.slice none 0 0,.string ⟨#[]⟩,.bool false,.int .u64 0] 43)):=by
 obtain⟨a,c,b,e1,e2,hs⟩:=h;rw[h6]at hs;refine⟨a,c,W.heap.size,fun v h=>e1 v (by simpa[upd] using h),fun v h=>by simpa[upd] using h.symm,?_⟩
 have hs2:St K W (dA none (blk b (.cells (if (ρ 7).isSome then #[.int .i64 (pg).az,(.slice a pg.sl.length c),.string (pg).hi,.bool (pg).la,.int .u64 (pg).ri]else #[.int .i64 0,.slice none 0 0,.string ⟨#[]⟩,.bool false,.int .u64 0]) 43))::dA (ρ 5) (bq (.slice a pg.sl.length c) pg)::REST):=hs.b1
 have:=((hs2.tail).made (.cells #[.int .i64 0,.slice none 0 0,.string ⟨#[]⟩,.bool false,.int .u64 0] 43)).b1;have h8:St K (W.alloc (.cells #[.int .i64 0,.slice none 0 0,.string ⟨#[]⟩,.bool false,.int .u64 0] 43)) (dA (ρ 5) (bq (.slice a pg.sl.length c) pg)::dA (some (.pointer (some ⟨W.heap.size,0,none⟩))) (blk W.heap.size (.cells #[.int .i64 0,.slice none 0 0,.string ⟨#[]⟩,.bool false,.int .u64 0] 43))::REST):=this;simpa[upd,h7] using h8
theorem sX.e7 (h:sX K REST pg ρ W)(h5:ρ 5=some v5)(h6:ρ 6=some v6)(h7:ρ 7=none):∃ (a:Option Addr)(c b:Nat)(R':List aB),v5=(.agg #[.int .i64 (pg).az,(.slice a pg.sl.length c),.string (pg).hi,.bool (pg).la,.int .u64 (pg).ri])/\v6=(.pointer (some ⟨b,0,none⟩))/\St K W (blk b (.cells #[.int .i64 0,.slice none 0 0,.string ⟨#[]⟩,.bool false,.int .u64 0] 43)::R') /\
  ∀ W',St K W' (blk b (.cells #[.int .i64 (pg).az,(.slice a pg.sl.length c),.string (pg).hi,.bool (pg).la,.int .u64 (pg).ri] 43)::R')->sX K REST pg (upd ρ 7 undef) W' := by
 obtain⟨a,c,b,e1,e2,hs⟩:=h;rw[h5,h6,h7]at hs;have hs:St K W (bq (.slice a pg.sl.length c) pg::blk b (.cells #[.int .i64 0,.slice none 0 0,.string ⟨#[]⟩,.bool false,.int .u64 0] 43)::REST):=hs;refine⟨a,c,b,_,e1 v5 h5,e2 v6 h6,hs.b1,fun W' hs' => ⟨a,c,b,fun v h=>e1 v (by simpa[upd] using h),fun v h=>e2 v (by simpa[upd] using h),?_⟩⟩
 have:St K W' (dA (some v5) (bq (.slice a pg.sl.length c) pg)::dA (some v6) (blk b (.cells #[.int .i64 (pg).az,(.slice a pg.sl.length c),.string (pg).hi,.bool (pg).la,.int .u64 (pg).ri] 43))::REST):=hs'.b1;simpa[upd,h5,h6] using this
theorem sX.last (h:sX K REST pg ρ W)(hall:∀ e,e∈[5,6,7]->(ρ e).isSome=true):∃ (a:Option Addr)(c b:Nat),ρ 5=some (.agg #[.int .i64 (pg).az,(.slice a pg.sl.length c),.string (pg).hi,.bool (pg).la,.int .u64 (pg).ri])/\ρ 6=some (.pointer (some ⟨b,0,none⟩))/\(∃ v,ρ 7=some v) /\
  St K W (blk b (.cells #[.int .i64 (pg).az,(.slice a pg.sl.length c),.string (pg).hi,.bool (pg).la,.int .u64 (pg).ri] 43)::bq (.slice a pg.sl.length c) pg::REST):=by
 obtain⟨v5,h5⟩:=aqr.1 (hall 5 (by simp))
 obtain⟨v6,h6⟩:=aqr.1 (hall 6 (by simp))
 obtain⟨v7,h7⟩:=aqr.1 (hall 7 (by simp))
 obtain⟨a,c,b,e1,e2,hs⟩:=h;rw[h5,h6,h7]at hs;have hs:St K W (bq (.slice a pg.sl.length c) pg::blk b (.cells #[.int .i64 (pg).az,(.slice a pg.sl.length c),.string (pg).hi,.bool (pg).la,.int .u64 (pg).ri] 43)::REST):=hs;exact⟨a,c,b,by rw[h5,e1 v5 h5],by rw[h6,e2 v6 h6],⟨v7,h7⟩,hs.b1⟩
end
end Go.Proofs.YtlpdhhhgckpcfaaGreat
