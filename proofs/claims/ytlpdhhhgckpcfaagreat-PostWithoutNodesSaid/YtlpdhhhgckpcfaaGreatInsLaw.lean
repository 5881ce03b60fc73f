
/- The cells behind Insert (pure). -/
import Derived.Test.YtlpdhhhgckpcfaaGreatInsB
import Derived.Test.YtlpdhhhgckpcfaaGreatTreeB
namespace Go.Proofs.YtlpdhhhgckpcfaaGreat
open Go.RowKit
set_option linter.unusedSectionVars false
section
variable {d:aR}(hd:d.Ok){fr:cB}{fu p:Pg}{L:List aP}{ps:List Pt}{id:Int}
include hd
theorem nE.addr (h:nE d fr p ps)(h1:1<=fr.id)(h2:fr.id<=d.no)(hle:(p.sl.length:Int)<=d.fa):∀ q,q∈ps->∃ k:Int,0<=k/\k<d.fa+4/\q.i=d.node fr.id k:=by
 have f1:=hd.fw;obtain⟨mid,hn,rfl⟩:=h;intro q hq;simp only[List.cons_append,List.mem_cons,List.mem_append,List.not_mem_nil,or_false]at hq;rcases hq with rfl|hq|rfl
 ·exact⟨0,by omega,by omega,rfl⟩
 ·obtain⟨k,k1,k2,e⟩:=fH hd h1 h2 hle q (hn.1.subset hq)
  exact⟨k,by omega,k2,e⟩
 ·exact⟨0,by omega,by omega,rfl⟩
theorem abh (hw:nE d fr p ps)(h1:1<=fr.id)(h2:fr.id<=d.no)(hle:(p.sl.length:Int)<=d.fa)(hlen:(L.length:Int)=d.cells)(hx:Holds L (bN d fr.id fr.pg)) :
  Holds (fq L ps) (bN d fr.id p)/\(ah (fq L ps) (d.node fr.id 0)).n=dM (bC fr.word)/\∀ j:Int,(∀ k:Int,0<=k->k<d.fa+4->j≠d.node fr.id k)->ah (fq L ps) j=ah L j:=by
 have ha:=hw.addr hd h1 h2 hle;obtain⟨mid,hn,rfl⟩:=hw;refine⟨Mm hd h1 h2 hx hn hlen hle,?_,fun j hj=>iI _ _ _ fun q hq=>?_⟩
 ·rw[um hd h1 h2 hlen]
 ·obtain⟨k,k1,k2,e⟩:=ha q hq
  rw[e];exact hj k k1 k2
end
theorem uD {d:aR}{id:Int}:∀ (l:List Sl)(i:Nat),(∀ s,s∈l->0<=s.r/\s.r<18446744073709551616)->∀ q,q∈fS d id i l->ni q.c
 | [],_,_,q,h=>by cases h
 | s::l,i,hr,q,h=>by
  rcases List.mem_cons.1 h with rfl|h
  ·exact hr s List.mem_cons_self
  ·exact uD l (i+1) (fun s hs=>hr s (List.mem_cons_of_mem _ hs)) q h
theorem o7 {d:aR}{id:Int}{pg:Pg}(hd:d.Ok)(h:oM d pg):∀ q,q∈bN d id pg->ni q.c:=fun q hq=>by
 have f2:=hd.mV;have hle:=h.le;rcases List.mem_append.1 hq with hq|hq
 ·exact uD pg.sl 0 h.r q hq
 ·simp only[List.mem_cons,List.not_mem_nil,or_false]at hq
  rcases hq with rfl|rfl|rfl
  ·show ni (mr pg)
   unfold mr;cases pg.la
   ·exact⟨by show(0:Int)<=0;omega,by show(0:Int)<18446744073709551616;omega⟩
   ·exact⟨by show(0:Int)<=0;omega,by show(0:Int)<18446744073709551616;omega⟩
  ·exact h.ri
  ·exact⟨by show(0:Int)<=pg.sl.length;omega,by show(pg.sl.length:Int)<_;omega⟩
theorem My {d:aR}{fr:cB}{p:Pg}{ps:List Pt}(hd:d.Ok)(hfr:fr.Ok d)(hp:oM d p)(hw:nE d fr p ps):∀ q,q∈ps->ni q.c:=by
 obtain⟨mid,hn,rfl⟩:=hw;intro q hq;have hb:=hfr.word;simp only[List.cons_append,List.mem_cons,List.mem_append,List.not_mem_nil,or_false]at hq;rcases hq with rfl|hq|rfl
 ·show 0<=bC fr.word/\bC fr.word<18446744073709551616
  unfold bC;split <;> omega
 ·exact o7 hd hp q (hn.1.subset hq)
 ·show 0<=dM (bC fr.word)/\dM (bC fr.word)<18446744073709551616
  unfold dM;rw[IntKind.wrap_u64];omega
theorem gF {d:aR}(hd:d.Ok){id:Int}(h1:1<=id)(h2:id<=d.no):∀ k:Int,0<=k->k<d.fa+4->(4:Int)≠d.node id k:=fun k k1 k2=>by
 have hA:=hd.eb;have f1:=hd.fw;have h:=bU hd h1 h2 k1 k2;have h0:0<=(id-1)*(d.fa+4):=Int.mul_nonneg (by omega) (by omega)
 omega
theorem jL {l:List Sl}{key:ByteArray}{r:Int}{s:Sl}(h:s∈eP l key r):s∈l\/s=⟨key,r⟩:=by
 unfold eP at h;rcases List.mem_append.1 h with h|h
 ·exact .inl (List.mem_of_mem_take h)
 ·rcases List.mem_cons.1 h with h|h
  ·exact .inr h
  ·exact .inl (List.mem_of_mem_drop h)
theorem lq.ins {d:aR}{fr:cB}{key:ByteArray}{r:Int}(mO:oM d fr.pg)(hk:∀ s,s∈fr.pg.sl->s.k.size<=1000000)(hkey:key.size<=1000000)(hr:0<=r/\r<18446744073709551616):lq d fr (aZ fr.pg key r):=by
 refine⟨rfl,?_,fun s hs=>?_,fun s hs=>?_,mO.hi,mO.la,mO.ri⟩
 ·show((eP fr.pg.sl key r).length:Int)<=_
  rw[fG];have:=mO.le;omega
 ·rcases jL hs with h|h
  ·exact mO.r s h
  ·rw[h];exact hr
 ·rcases jL hs with h|h
  ·exact hk s h
  ·rw[h];exact hkey
end Go.Proofs.YtlpdhhhgckpcfaaGreat
