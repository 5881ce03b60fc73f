
/- The laws of layer 11: a step of Find in a tree; tree. awake of layer 11. The walk of Vn. -/
import Derived.Test.YtlpdhhhgckpcfaaGreatFindLaw
import Derived.Test.YtlpdhhhgckpcfaaGreatPlant
import Derived.Test.YtlpdhhhgckpcfaaGreatViewA
namespace Go.Proofs.YtlpdhhhgckpcfaaGreat
open Go.RowKit
set_option maxRecDepth 100000
section
variable {K:aK}{w:World}{F:List aB}{b bm bc:Nat}{d:aR}{L:List aP}{acc:Nat}{key:ByteArray}{level:Nat}{s:pZ}{t:List (List Nd)}{m:Nat}
end
theorem uK {d:aR}(hd:d.Ok)(j:Int)(h:mC d j):ah (cm d) j=aP.zero:=by
 have hf:=hd.fw;have hA:=hd.eb;have hB:=hd.jo;have hl:=(iu d hd).2.2 j (by rcases h with h|h <;> omega)
 rw[hl,if_neg (h.node hd (by omega) hd.Iw (by omega) (by omega)),if_neg (by rcases h with h|h <;> omega),if_neg (by rcases h with h|h <;> omega)]
theorem xc {d:aR}(hd:d.Ok)(id:Int)(h1:1<=id)(h2:id<=d.no):ah (cm d) (d.node id 0)=aP.zero:=by
 have hf:=hd.fw;have n0:=bU hd h1 h2 (k:=0) (by omega) (by omega)
 have hA:=hd.eb;have m3:0<=(id-1)*(d.fa+4):=Int.mul_nonneg (by omega) (by omega)
 have hl:=(iu d hd).2.2 (d.node id 0) n0.2.1;rw[hl];split
 ·rename_i h
  exfalso
  by_cases e:id=1
  ·subst e;exact dw hd h1 h2 (k:=0) (k' := 2) (by omega) (by omega) (by omega) (by omega) (by omega) h
  ·exact cJ hd h1 h2 (by omega) hd.Iw (k:=0) (k' := 2) (by omega) (by omega) (by omega) (by omega) e h
 ·split
  ·omega
  ·split
   ·omega
   ·rfl
section
variable {w0 w:World}{F:List aB}{a:Option Addr}{len cap:Nat}{f:Nat->ByteArray}{fanout sh:Int}{dV:Bool}
end
section
variable {K:aK}{w:World}{cs:List aB}
end
theorem qj:∀ t:List (List Nd),(∀ l,l∈t->0<l.length)->t.length<=(t.map List.length).sum
 | [],_=>Nat.le_refl _
 | l::t,h=>by
  have:=qj t (fun x hx=>h x (List.mem_cons_of_mem _ hx))
  have:=h l List.mem_cons_self;simp only[List.length_cons,List.map_cons,List.sum_cons];omega
theorem cA.Cx {d:aR}{L:List aP}{t:List (List Nd)}(ht:cA d L t)(hd:d.Ok):t.length<=4096:=by
 refine Nat.le_trans (qj t fun l hl=>?_) (by have:=ht.count;have:=ht.n4;have:=hd.mM;omega)
 obtain⟨k,hk⟩:=aqp hl;exact(ht.rows k l hk).ne
theorem vS {K:aK}{w:World}{F:List aB}{d:aR}{L:List aP}{t:List (List Nd)}{g:Nat}(hd:d.Ok)(ht:cA d L t)(hl:(L.length:Int)=d.cells)(hg:K.map g=some (.cells (flat L).toArray 63))(hs:St K w F) :
  Calls Tryz.prog 26 #[.agg #[.int .i64 (d).th,.int .i64 (d).sn,.int .i64 (d).no,.int .i64 (d).ch,.int .i64 (d).re,.int .i64 (d).fa,.int .u64 (d).cl,.slice (some ⟨g,0,none⟩) L.length L.length]] w fun e w' => e=.returned (.int .i64 t.length)/\St K w' F:=by
 have h4:=hd.dL;have hT:=ht.Cx hd;have h0:=ht.ne;obtain⟨nd,rest,h1,h2⟩:=ht.top;have hn:=ht.nodes _ _ h1 nd List.mem_cons_self;have cg:=(ht.rows _ _ h1).az nd List.mem_cons_self;refine(vI (pg:=nd.pg) hd (by rw[h2];exact hn.id.1) (by rw[h2];exact hn.id.2) (by rw[h2];exact hn.page) (by omega) hg (by omega) hs).mono ?_
 rintro e w' ⟨rfl,hs'⟩;refine⟨?_,hs'⟩;rw[show nd.pg.az+1=(t.length:Int)by omega]
end Go.Proofs.YtlpdhhhgckpcfaaGreat
