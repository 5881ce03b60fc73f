/- blinktreekit.Cells: the contents of. -/
import Derived.Test.YtlpdhhhgckpcfaaGreatTreeB
namespace Go.Proofs.YtlpdhhhgckpcfaaGreat
set_option linter.unusedSimpArgs false
set_option linter.unusedVariables false
open Go.RowKit
set_option maxHeartbeats 16000000
set_option maxRecDepth 100000
section
theorem wA (n:Nat)(j:n<=1048576)(w:World):(Instr.makeSlice 50 (.int .i64 n) (.int .i64 n)).run Tryz.prog w=.ok (.slice (some ⟨w.heap.size,0,none⟩) n n) (w.alloc (.cells (flat (List.replicate n aQ.zero)).toArray 63)):=by
 obtain⟨i,hi,f,h,e⟩:=info_parts Aa;have:=run_make w 50 63 i _ Tryz.underlying50 hi f .i64 .i64 (n:Int) n (by omega) (by omega) (by rw[e];omega) (by omega)
 rw[this,h,Int.toNat_natCast,show(Value.agg #[.int .u64 0,.string ⟨#[]⟩,.int .u64 0]).cells= #[.int .u64 0,.string ⟨#[]⟩,.int .u64 0]from rfl,wZ]
section
variable {K:aM}{w w':World}{c d:aC}{cs F:List aC}
theorem St.ajQ {g:Nat}{X:List aQ}{T:TypeId}(h:St K w (blk g (.cells (flat X).toArray T)::F))(i:Nat)(c:aQ) :
  St K (((w.setCell ⟨g,i*3,none⟩ (.int .u64 c.n)).setCell ⟨g,i*3+1,none⟩ (.string c.k)).setCell ⟨g,i*3+2,none⟩ (.int .u64 c.m)) (blk g (.cells (flat (X.set i c)).toArray T)::F):=by
 have:=((h.aK (i*3) (.int .u64 c.n)).aK (i*3+1) (.string c.k)).aK (i*3+2) (.int .u64 c.m);rwa [zZ]at this
theorem Oi {w:World}{g:Nat}{X:List aQ}{T:TypeId}(h:w.heap[g]?=some (.cells (flat X).toArray T)){i:Nat}{c:aQ}(hi:X[i]?=some c) :
  w.cell? ⟨g,i*3,none⟩=some (.int .u64 c.n)/\w.cell? ⟨g,i*3+1,none⟩=some (.string c.k)/\w.cell? ⟨g,i*3+2,none⟩=some (.int .u64 c.m):=by
 have:=tA X i c hi;simpa[bB h] using this
theorem Dp {bm bc:Nat}{L:List aQ}{acc:Nat}(f:St K w (aL bm bc L acc::F)) :
  Calls Tryz.prog 34 #[.pointer (some ⟨bm,0,none⟩)] w fun e w' => ∃g,e=.returned (.slice (some ⟨g,0,none⟩) L.length L.length)/\St K w' (blk g (.cells (flat L).toArray 63)::aL bm bc L acc::F):=by
 have hlen:=f.mem.len;obtain⟨n,j⟩:∃n,n=L.length:=⟨_,rfl⟩;have l:=pX w bm bc L acc f.mem;rw[←j]at hlen l ⊢;have h:=ass j;have s:=ass l;clear l j;have m:=wA n hlen;have f:=f.made (.cells (flat (List.replicate n aQ.zero)).toArray 63);go_enter Tryz.func34,Tryz.ntmps34
 go_wp2_with fail
 refine(s.out).mono ?_
 rintro e z ⟨rfl,rfl⟩;go_wp2
 clear m;obtain⟨g,t⟩:∃g,g=w.heap.size:=⟨_,rfl⟩;rw[←t]at f ⊢;clear t s;go_loopw [4] (fun v wr=>∃k:Nat,k<=n/\v=.int .i64 k/\St K wr (blk g (.cells (flat (L.take k++List.replicate (n-k) aQ.zero)).toArray 63)::aL bm bc L acc::F)) (fun v _=>n-(intOf v).toNat)
 case atStart=>exact⟨0,by omega,rfl,by simpa using f⟩
 case round=>
  clear f;obtain⟨k,hk,rfl,f⟩:=hrel;by_cases o:k<n
  ·obtain⟨c,hc,u⟩:∃c,ah L k=c/\L[k]?=some c:=⟨_,rfl,ye (by rw[←h.out];exact o)⟩
   have y:=ass u;have q:=Kf f f.aeg (i:=(k:Int));rw[hc]at q;have Q:=ass q;clear q hc u f;go_wp2_with fail
   refine(Q.out).mono ?_
   clear Q;rintro e A ⟨rfl,f⟩;obtain⟨B,c1,c2⟩:=Oi f.head (i:=k) (c:=aQ.zero) (by have:=h.out;rw[List.getElem?_append_right (by simp;omega)];simp[List.getElem?_replicate];omega)
   have C:=f.f0;have f:=f.ajQ k c;have e:(L.take k++List.replicate (n-k) aQ.zero).set k c=L.take (k+1)++List.replicate (n-(k+1)) aQ.zero:=by
    rw[List.set_append_right _ _ (by simp;omega),List.take_add_one,y.out,show n-k=(n-(k+1))+1 by omega,List.replicate_succ]
    simp[show k-min k L.length=0 by rw[←h.out];omega]
   rw[e]at f;clear e;go_wp2
   go_roundw
   case rel=>exact⟨k+1,by omega,by go_num,f⟩
   case measure=>simp[intOf];omega
  ·obtain rfl:k=n:=by omega
   have e:L.take k++List.replicate (k-k) aQ.zero=L:=by rw[Nat.sub_self];simp[h.out]
   rw[e]at f;clear e;go_wp2
   go_ret;exact⟨g,rfl,f⟩
end
def afa (d:aU)(id:Int)(L:List aQ)(i:Nat):Sl:=⟨(ah L (d.slot id i)).k,(ah L (d.slot id i)).n⟩
def afb (d:aU)(id:Int)(L:List aQ):Pg:=
 ⟨wrap64 (ah L (d.node id 1)).m,(List.range (leftOf d (ah L (d.node id 1)))).map (afa d id L),(ah L (d.node id 2)).k,decide ((ah L (d.node id 2)).m=1),(ah L (d.node id 3)).n⟩
theorem Lg {d:aU}{id:Int}{L:List aQ}{pg:Pg}(h:eO d id L pg):afb d id L=pg:=by
 have hl:leftOf d (ah L (d.node id 1))=pg.sl.length:=by
  have:=h.le;unfold leftOf;rw[h.n,Int.min_eq_left this];omega
 obtain⟨aA,sl,hi,la,ri⟩:=pg;have e:=h.aA;have f:=h.hi;have j:=h.la;have k:=h.ri;simp only at e f j k hl;unfold afb;rw[e,f,j,k,hl];congr 1
 apply List.ext_getElem?
 intro i;rw[List.getElem?_map];rcases Nat.lt_or_ge i sl.length with hi|hi
 ·rw[List.getElem?_range hi]
  obtain⟨l,e2⟩:=h.sl i sl[i] (asx hi);rw[asx hi];simp only[Option.map_some,afa,l,e2]
 ·rw[List.getElem?_eq_none (by simpa using hi),List.getElem?_eq_none hi];rfl
section
variable {K:aM}{W:World}{REST:List aC}{c1 c2:aQ}{ρ:Nat->Option Value}{v10 v11:Value}
end
section
variable {K:aM}{w:World}{F:List aC}{bm bc acc:Nat}{L:List aQ}{d:aU}{id:Int}
end
structure VAt (w:World)(g:Nat)(L:List aQ):Prop where
 lt:g<w.heap.size
 len:L.length<=1000000
 cell:∀(i:Nat) (c:aQ),L[i]?=some c->w.cell? ⟨g,i*3,none⟩=some (.int .u64 c.n)/\w.cell? ⟨g,i*3+1,none⟩=some (.string c.k)/\w.cell? ⟨g,i*3+2,none⟩=some (.int .u64 c.m)
theorem VAt.same {w w':World}{g:Nat}{L:List aQ}(h:VAt w g L)(e:Below w.heap.size w w'):VAt w' g L:=
 ⟨Nat.lt_of_lt_of_le h.lt e.size,h.len,fun i c hc=>by
  have:=h.cell i c hc;rw[e.cell (p:=⟨g,_,none⟩) h.lt,e.cell (p:=⟨g,_,none⟩) h.lt,e.cell (p:=⟨g,_,none⟩) h.lt];exact this⟩
theorem zk (tmps:Array Value)(w:World)(b:Nat)(v0 v1 v2:Value)(hp:tmps[4]?=some (.pointer (some ⟨b,0,none⟩)))(hk:∀k,w.cell? ⟨b,k,none⟩=(#[v0,v1,v2]:Array Value)[k]?) :
  (results Tryz.f83 tmps).run Tryz.prog w=.ok (.agg #[v0,v1,v2]) w:=by
 simp[results,Tryz.results83,go_sem,hp,hk]
section
variable {d:aU}{g:Nat}{L:List aQ}
theorem gL (i:Int)(w:World)(h:VAt w g L) :
  Calls Tryz.prog 83 #[.agg #[.int .i64 (d).th,.int .i64 (d).sn,.int .i64 (d).no,.int .i64 (d).ch,.int .i64 (d).re,.int .i64 (d).fa,.int .u64 (d).cl,.slice (some ⟨g,0,none⟩) L.length L.length],.int .i64 i] w fun e w' => e=.returned (.agg #[.int .u64 (ah L i).n,.string (ah L i).k,.int .u64 (ah L i).m])/\Below w.heap.size w w' := by
 have f:=(St.start w).made (.cells #[.int .i64 (d).th,.int .i64 (d).sn,.int .i64 (d).no,.int .i64 (d).ch,.int .i64 (d).re,.int .i64 (d).fa,.int .u64 (d).cl,.slice (some ⟨g,0,none⟩) L.length L.length] 52);have hl:=h.len;obtain⟨n,j⟩:∃n,n=L.length:=⟨_,rfl⟩;by_cases h0:i<0
 ·have e:ah L i=aQ.zero:=ql h0
  rw[e];show Calls Tryz.prog 83 #[.agg #[.int .i64 (d).th,.int .i64 (d).sn,.int .i64 (d).no,.int .i64 (d).ch,.int .i64 (d).re,.int .i64 (d).fa,.int .u64 (d).cl,.slice (some ⟨g,0,none⟩) L.length L.length],.int .i64 i] w fun e w' => e=.returned (.agg #[.int .u64 0,.string ⟨#[]⟩,.int .u64 0])/\Below w.heap.size w w'
  rw[←j]at f hl ⊢;clear e j h;have f:=f.made (.cells #[.int .u64 0,.string ⟨#[]⟩,.int .u64 0] 63);simp only[World.size_alloc]at f;go_enter Tryz.func83,Tryz.ntmps83
  go_wp2
  refine bodyPost_ret (zk _ _ (w.heap.size+1) _ _ _ rfl f.k0) rfl ⟨rfl,f.below (aM.Le.refl _)⟩
 ·by_cases o:i<n
  ·obtain⟨k,rfl⟩:∃k:Nat,i=k:=⟨i.toNat,by omega⟩
   obtain⟨c,hc⟩:∃c,L[k]?=some c:=⟨_,asx (by omega)⟩
   have e:ah L k=c:=by unfold ah;rw[if_pos (by omega),show(k:Int).toNat=k by omega,hc];rfl
   rw[e];obtain⟨q,c1,c2⟩:=h.cell k c hc;have l:=h.lt;rw[←j]at f hl ⊢;clear e j h hc;have f:=f.made (.cells #[.int .u64 c.n,.string c.k,.int .u64 c.m] 63);simp only[World.size_alloc]at f;go_enter Tryz.func83,Tryz.ntmps83
   go_wp2
   refine bodyPost_ret (zk _ _ (w.heap.size+1) _ _ _ rfl f.k0) rfl ⟨rfl,f.below (aM.Le.refl _)⟩
  ·have e:ah L i=aQ.zero:=by
    unfold ah;rw[if_pos (by omega),List.getElem?_eq_none (by omega)];rfl
   rw[e];show Calls Tryz.prog 83 #[.agg #[.int .i64 (d).th,.int .i64 (d).sn,.int .i64 (d).no,.int .i64 (d).ch,.int .i64 (d).re,.int .i64 (d).fa,.int .u64 (d).cl,.slice (some ⟨g,0,none⟩) L.length L.length],.int .i64 i] w fun e w' => e=.returned (.agg #[.int .u64 0,.string ⟨#[]⟩,.int .u64 0])/\Below w.heap.size w w'
   rw[←j]at f hl ⊢;clear e j h;have f:=f.made (.cells #[.int .u64 0,.string ⟨#[]⟩,.int .u64 0] 63);simp only[World.size_alloc]at f;go_enter Tryz.func83,Tryz.ntmps83
   go_wp2
   refine bodyPost_ret (zk _ _ (w.heap.size+1) _ _ _ rfl f.k0) rfl ⟨rfl,f.below (aM.Le.refl _)⟩
theorem Oj (tmps:Array Value)(w:World)(b:Nat)(v0 v1 v2:Value)(hp:tmps[6]?=some (.pointer (some ⟨b,0,none⟩)))(hk:∀k,w.cell? ⟨b,k,none⟩=(#[v0,v1,v2]:Array Value)[k]?) :
  (results Tryz.f87 tmps).run Tryz.prog w=.ok (.agg #[v0,v1,v2]) w:=by
 simp[results,Tryz.results87,go_sem,hp,hk]
theorem mi (q:d.Ok)(id k:Int)(hid:0<=id/\id<18446744073709551616)(hk:0<=k/\k<d.fa+4)(w:World)(l:VAt w g L) :
  Calls Tryz.prog 87 #[.agg #[.int .i64 (d).th,.int .i64 (d).sn,.int .i64 (d).no,.int .i64 (d).ch,.int .i64 (d).re,.int .i64 (d).fa,.int .u64 (d).cl,.slice (some ⟨g,0,none⟩) L.length L.length],.int .u64 id,.int .i64 k] w fun e w' => e=.returned (.agg #[.int .u64 (ah L (d.node id k)).n,.string (ah L (d.node id k)).k,.int .u64 (ah L (d.node id k)).m])/\Below w.heap.size w w' := by
 have f:=(St.start w).made (.cells #[.int .i64 (d).th,.int .i64 (d).sn,.int .i64 (d).no,.int .i64 (d).ch,.int .i64 (d).re,.int .i64 (d).fa,.int .u64 (d).cl,.slice (some ⟨g,0,none⟩) L.length L.length] 52);have f:=f.made (.cells #[.int .u64 0,.string ⟨#[]⟩,.int .u64 0] 63);simp only[World.size_alloc]at f;have s:=ass (fun w=>m9 d q id k hid.1 hid.2 hk.1 hk.2 w)
 have t:=ass (fun W (u:Below w.heap.size w W)=>gL (d:=d) (d.node id k) W (l.same u))
 generalize ah L (d.node id k)=c at *;generalize L.length=n at *;clear l;go_enter Tryz.func87,Tryz.ntmps87
 go_upto_region 1 with(fail)
 have k1:=f.k1;have h:=f.below (aM.Le.refl _);have i:=ass h;clear h;refine bN 7 (by kernel_rfl) (by as_aux_lemma=>kernel_rfl) ?_
 have v:=ass (fun o (y:∃x:Ext,o=over ((w.alloc (.cells #[.int .i64 (d).th,.int .i64 (d).sn,.int .i64 (d).no,.int .i64 (d).ch,.int .i64 (d).re,.int .i64 (d).fa,.int .u64 (d).cl,.slice (some ⟨g,0,none⟩) n n] 52)).alloc (.cells #[.int .u64 0,.string ⟨#[]⟩,.int .u64 0] 63)) x)=>t.out o (i.out.trans ((Pure.below y).mono i.out.size)))
 simp only[List.take_succ_cons,List.take_zero,List.drop_succ_cons,List.drop_zero];repeat (go_big_quiet_step (first|(go_at_call 21;exact aZ (s.out _))|(go_at_call 83;exact aZ (v.out _ ⟨_,rfl⟩))))
 refine wpQuiet_nil ?_
 intro z j;have f:=f.same j;clear k1 j;have f0:=f.f0;have k0:=f.k0;have f:=((f.aK 0 (.int .u64 c.n)).aK 1 (.string c.k)).aK 2 (.int .u64 c.m);simp only[List.set_cons_zero,List.set_cons_succ]at f;go_wp2
 refine bodyPost_ret (Oj _ _ (w.heap.size+1) _ _ _ rfl f.k0) rfl ⟨rfl,f.below (aM.Le.refl _)⟩
end
theorem Ol (tmps:Array Value)(w:World)(b:Nat)(v0 v1 v2 v3 v4:Value)(hp:tmps[4]?=some (.pointer (some ⟨b,0,none⟩)))(hk:∀k,w.cell? ⟨b,k,none⟩=(#[v0,v1,v2,v3,v4]:Array Value)[k]?) :
  (results Tryz.f28 tmps).run Tryz.prog w=.ok (.agg #[v0,v1,v2,v3,v4]) w:=by
 simp[results,Tryz.results28,go_sem,hp,hk]
theorem St.row_eq {K:aM}{w:World}{F:List aC}{v:Value}{T:TypeId}{size n:Nat}{xs ys:List Value}(h:St K w (az v T size n xs::F))(e:xs=ys):St K w (az v T size n ys::F):=by subst e;exact h
section
variable {K:aM}{w:World}{F:List aC}{d:aU}{g:Nat}{L:List aQ}{id:Int}{pg:Pg}
theorem kT {W:World}{cs:List aC}(e:K.map g=some (.cells (flat L).toArray 63))(hl:L.length<=1000000)(f:St K W cs):VAt W g L:=by
 have hk:=f.kE g _ e;refine⟨iB hk,hl,fun i c hc=>?_⟩
 obtain⟨r0,r1,h⟩:=tA L i c hc;have k:=bB hk;exact⟨by rw[k];simpa using r0,by rw[k];simpa using r1,by rw[k];simpa using h⟩
theorem fT (z:d.Ok)(h1:1<=id)(h2:id<=d.no)(hp:eO d id L pg)(hg:K.map g=some (.cells (flat L).toArray 63))(hl:L.length<=1000000)(f:St K w F) :
  Calls Tryz.prog 28 #[.agg #[.int .i64 (d).th,.int .i64 (d).sn,.int .i64 (d).no,.int .i64 (d).ch,.int .i64 (d).re,.int .i64 (d).fa,.int .u64 (d).cl,.slice (some ⟨g,0,none⟩) L.length L.length],.int .u64 id] w fun e w' => ∃va,e=.returned (.agg #[.int .i64 (pg).aA,va,.string (pg).hi,.bool (pg).la,.int .u64 (pg).ri])/\St K w' (az va 69 2 pg.sl.length (aF pg.sl)::F):=by
 have f1:=z.fy;have f2:=z.m7;have S:=z.m6;have hid:0<=id/\id<18446744073709551616:=by omega
 have C:=(bZ z h1 h2 (k:=0) (by omega) (by omega)).2.1
 have hle:=hp.le;obtain⟨n,P⟩:∃n,n=pg.sl.length:=⟨_,rfl⟩;obtain⟨nl,y⟩:∃nl,nl=L.length:=⟨_,rfl⟩;obtain⟨c1,q⟩:∃c,c=ah L (d.node id 1):=⟨_,rfl⟩;obtain⟨cf,t⟩:∃cf:Int->aQ,cf=fun k=>ah L (d.node id k):=⟨_,rfl⟩
 have D:cf 2=ah L (d.node id 2):=by rw[t]
 have E:cf 3=ah L (d.node id 3):=by rw[t]
 have lN:pg=⟨wrap64 c1.m,pg.sl,(cf 2).k,((cf 2).m == 1),(cf 3).n⟩:=by
  obtain⟨aA,sl,hi,la,ri⟩:=pg;have A:=hp.aA;have e2:=hp.hi;have e3:=hp.la;have e4:=hp.ri;rw[←q]at A;rw[←D]at e2 e3;rw[←E]at e4;simp only at A e2 e3 e4 ⊢;rw[A,e2,e4,←e3];rfl
 have G:c1.n=n:=by rw[q,P];exact hp.n
 have hw:∀k:Int,0<=k->k<d.fa+4->∀W cs,St K W cs->Calls Tryz.prog 87 #[.agg #[.int .i64 (d).th,.int .i64 (d).sn,.int .i64 (d).no,.int .i64 (d).ch,.int .i64 (d).re,.int .i64 (d).fa,.int .u64 (d).cl,.slice (some ⟨g,0,none⟩) nl nl],.int .u64 id,.int .i64 k] W fun e w' => e=.returned (.agg #[.int .u64 (ah L (d.node id k)).n,.string (ah L (d.node id k)).k,.int .u64 (ah L (d.node id k)).m])/\Below W.heap.size W w' := fun k k0 k1 W cs h=>by
  rw[y];exact mi z id k hid ⟨k0,k1⟩ W (kT hg hl h)
 have U:=fun W cs h=>hw 1 (by omega) (by omega) W cs h
 have q2:∀k:Int,2<=k->k<=3->∀W cs,St K W cs->Calls Tryz.prog 87 #[.agg #[.int .i64 (d).th,.int .i64 (d).sn,.int .i64 (d).no,.int .i64 (d).ch,.int .i64 (d).re,.int .i64 (d).fa,.int .u64 (d).cl,.slice (some ⟨g,0,none⟩) nl nl],.int .u64 id,.int .i64 k] W fun e w' => e=.returned (.agg #[.int .u64 (cf k).n,.string (cf k).k,.int .u64 (cf k).m])/\Below W.heap.size W w' := fun k a b W cs h=>by rw[t];exact hw k (by omega) (by omega) W cs h
 have qs:∀i:Nat,i<n->∃s:Sl,∃m:Int,pg.sl[i]?=some s/\∀W cs,St K W cs->Calls Tryz.prog 87 #[.agg #[.int .i64 (d).th,.int .i64 (d).sn,.int .i64 (d).no,.int .i64 (d).ch,.int .i64 (d).re,.int .i64 (d).fa,.int .u64 (d).cl,.slice (some ⟨g,0,none⟩) nl nl],.int .u64 id,.int .i64 (4+(i:Int))] W fun e w' => e=.returned (.agg #[.int .u64 s.r,.string s.k,.int .u64 m])/\Below W.heap.size W w' := fun i hi=>by
  obtain⟨s,I⟩:∃s,pg.sl[i]?=some s:=⟨_,asx (by omega)⟩
  obtain⟨A,e2⟩:=hp.sl i s I;have es:d.slot id i=d.node id (4+(i:Int)):=by
   unfold aU.slot;rw[if_pos ⟨by omega,by omega⟩]
  rw[es]at A e2;refine⟨s,(ah L (d.node id (4+(i:Int)))).m,I,fun W cs h=>?_⟩
  have:=hw (4+(i:Int)) (by omega) (by omega) W cs h
  rw[A,e2]at this;exact this
 have Qs:=ass qs;rw[←q,G]at U;have Q1:=ass U;have Q2:=ass q2;have Ql:=ass (fun w=>m9 d z id 0 hid.1 hid.2 (by omega) (by omega) w)
 have V:=ass lN;have Hn:=ass P;obtain⟨j0,J⟩:∃j,j=d.node id 0:=⟨_,rfl⟩;rw[←J]at Ql C;rw[←P]at hle ⊢;rw[←y];clear hw U q2 qs q D E t G lN P y J hp hg hl h1 h2 S;obtain⟨i64,dm,dr,dw,dx⟩:=info_parts ic;have lO:=ass dm;have lQ:=ass dr;have lR:=ass dw;have lS:=ass dx;clear dm dr dw dx;have f:=(f.made (.cells #[.int .i64 (d).th,.int .i64 (d).sn,.int .i64 (d).no,.int .i64 (d).ch,.int .i64 (d).re,.int .i64 (d).fa,.int .u64 (d).cl,.slice (some ⟨g,0,none⟩) nl nl] 52)).made (.cells #[.int .i64 0,.slice none 0 0,.string ⟨#[]⟩,.bool false,.int .u64 0] 43);rw[World.size_alloc]at f;have B:=f.k1;go_enter Tryz.func28,Tryz.ntmps28
 go_wp2_with fail
 refine(bJ f (Ql.out _)).mono ?_
 clear f B;generalize w.heap.size=l;rintro e w1 ⟨rfl,f⟩;have B:=f.k1;go_wp2_with fail
 refine(bJ f (Q1.out _ _ f)).mono ?_
 clear f B;rintro e w2 ⟨rfl,f⟩;have f:=f.made (.cells #[.int .u64 n,.string c1.k,.int .u64 c1.m] 63);obtain⟨b5,M⟩:∃b,b=w2.heap.size:=⟨_,rfl⟩;go_upto_region 4 with(fail)
 rw[←M]at f ⊢;clear M;have Hs:=ass f;clear f;refine gH [false,false,false,false,false,false,false,false,false,false,false,false,false,false,false,false,false,true,true] 17 18
  (fun W=>St K W (blk b5 (.cells #[.int .u64 n,.string c1.k,.int .u64 c1.m] 63)::blk (l+1) (.cells #[.int .i64 0,.slice none 0 0,.string ⟨#[]⟩,.bool false,.int .u64 0] 43)::blk l (.cells #[.int .i64 (d).th,.int .i64 (d).sn,.int .i64 (d).no,.int .i64 (d).ch,.int .i64 (d).re,.int .i64 (d).fa,.int .u64 (d).cl,.slice (some ⟨g,0,none⟩) nl nl] 52)::F))
  (fun v W=>∃b6:Nat,v=(.pointer (some ⟨b6,0,none⟩))/\St K W (blk b6 (.cells #[.int .i64 0,.slice none 0 0,.string ⟨#[]⟩,.bool false,.int .u64 0] 43)::blk b5 (.cells #[.int .u64 n,.string c1.k,.int .u64 c1.m] 63)::blk (l+1) (.cells #[.int .i64 0,.slice none 0 0,.string ⟨#[]⟩,.bool false,.int .u64 0] 43)::blk l (.cells #[.int .i64 (d).th,.int .i64 (d).sn,.int .i64 (d).no,.int .i64 (d).ch,.int .i64 (d).re,.int .i64 (d).fa,.int .u64 (d).cl,.slice (some ⟨g,0,none⟩) nl nl] 52)::F))
  (fun v u W=>u=undef/\∃b6:Nat,v=(.pointer (some ⟨b6,0,none⟩))/\St K W (blk b6 (.cells #[.int .i64 (wrap64 c1.m),.slice none 0 0,.string (cf 2).k,.bool ((cf 2).m == 1),.int .u64 (cf 3).n] 43)::blk b5 (.cells #[.int .u64 n,.string c1.k,.int .u64 c1.m] 63)::blk (l+1) (.cells #[.int .i64 0,.slice none 0 0,.string ⟨#[]⟩,.bool false,.int .u64 0] 43)::blk l (.cells #[.int .i64 (d).th,.int .i64 (d).sn,.int .i64 (d).no,.int .i64 (d).ch,.int .i64 (d).re,.int .i64 (d).fa,.int .u64 (d).cl,.slice (some ⟨g,0,none⟩) nl nl] 52)::F))
  (fun W=>∃cs,St K W (blk b5 (.cells #[.int .u64 n,.string c1.k,.int .u64 c1.m] 63)::blk (l+1) (.cells #[.int .i64 0,.slice none 0 0,.string ⟨#[]⟩,.bool false,.int .u64 0] 43)::blk l (.cells #[.int .i64 (d).th,.int .i64 (d).sn,.int .i64 (d).no,.int .i64 (d).ch,.int .i64 (d).re,.int .i64 (d).fa,.int .u64 (d).cl,.slice (some ⟨g,0,none⟩) nl nl] 52)::cs)) ?aS (by decide) (by kernel_rfl) ?hB ?H ?ja Hs.out ?hI ?hR ?Gm ?vV ?hQ
 case hB=>as_aux_lemma=>kernel_rfl
 case H=>
  rintro Q ⟨cs,f⟩;have X:=f.k0;have B:=f.k2;have Y:=ass (fun wz (hy:∃x:Ext,wz=over Q x) (k:Int) (ka:2<=k) (kb:k<=3)=>Q2.out k ka kb wz _ (f.same (Pure.below hy)))
  clear f;simp only[cG];repeat (go_big_quiet_step ((go_at_call 87;exact aZ (Y.out _ ⟨_,rfl⟩ _ (by omega) (by omega)))))
  refine wpQuiet_nil ?_
  rfl
 case ja=>rfl
 case hI=>exact⟨fun W h=>⟨_,h⟩,fun v W ⟨_,_,h⟩=>⟨_,h.tail⟩,fun v u W ⟨_,_,_,h⟩=>⟨_,h.tail⟩⟩
 case hR=>exact⟨fun W W' h N=>h.same N,fun v W W' ⟨b,e,h⟩ N=>⟨b,e,h.same N⟩,fun v u W W' ⟨e0,b,e,h⟩ N=>⟨e0,b,e,h.same N⟩⟩
 case Gm=>
  intro rr o Z ρ Q f hk af R;obtain rfl:=asy Z;subst R;have Hk:=ass hk;clear hk;have f:=f.made (.cells #[.int .i64 0,.slice none 0 0,.string ⟨#[]⟩,.bool false,.int .u64 0] 43);go_wp2
  exact⟨rfl,_,rfl,Hk.out _ _ ⟨_,rfl,f⟩⟩
 case vV=>
  rintro rr o Z ρ v Q ⟨b6,rfl,f⟩ hk af R;obtain rfl:=asy Z;have Hk:=ass hk;clear hk;simp only[aP,List.getElem?_cons_succ,List.getElem?_cons_zero,Option.bind_some,Act.put,List.setIfInBounds_toArray,List.set_cons_zero,List.set_cons_succ]at R;subst R;have k0:=f.k0;have f0:=f.f0;have f:=((((f.aK 0 (.int .i64 (wrap64 c1.m))).aK 1 (.slice none 0 0)).aK 2 (.string (cf 2).k)).aK 3 (.bool ((cf 2).m == 1))).aK 4 (.int .u64 (cf 3).n);simp only[List.set_cons_zero,List.set_cons_succ]at f;go_wp2
  exact⟨rfl,undef,rfl,Hk.out _ _ ⟨rfl,b6,rfl,f⟩⟩
 case hQ=>
  rintro v u Q ⟨rfl,b6,rfl,f⟩;simp only[aP,Act.put,asz];have f:=f.cJ (T:=69) (size:=2);go_wp2
  go_loopw [7,8] (fun v7 _ wr=>∃(i:Nat) (a:Option Addr) (co:Nat),v7=.int .i64 i/\i<=n/\St K wr (az (.slice a i co) 69 2 i (aF (pg.sl.take i))::blk b6 (.cells #[.int .i64 (wrap64 c1.m),.slice a i co,.string (cf 2).k,.bool ((cf 2).m == 1),.int .u64 (cf 3).n] 43)::blk b5 (.cells #[.int .u64 n,.string c1.k,.int .u64 c1.m] 63)::blk (l+1) (.cells #[.int .i64 0,.slice none 0 0,.string ⟨#[]⟩,.bool false,.int .u64 0] 43)::blk l (.cells #[.int .i64 (d).th,.int .i64 (d).sn,.int .i64 (d).no,.int .i64 (d).ch,.int .i64 (d).re,.int .i64 (d).fa,.int .u64 (d).cl,.slice (some ⟨g,0,none⟩) nl nl] 52)::F)) (fun v7 _ _=>n-(intOf v7).toNat)
  case atStart=>exact⟨0,none,0,rfl,by omega,f⟩
  case round=>
   clear f;obtain⟨i,a,co,rfl,hi,f⟩:=hrel;by_cases hin:i<n
   ·obtain⟨s,m,I,hq⟩:=Qs.out i hin
    have O:=f.k1;have X:=f.k2;have B:=f.b4.k0;have oZ:=hq _ _ f;have HQ:=ass oZ;have eu:pg.sl.take (i+1)=pg.sl.take i++[s]:=by rw[List.take_add_one,I];rfl
    have iU:=ass eu;have hif:(i:Int)<d.fa:=by omega
    clear hq oZ I eu;go_wp2_with fail
    refine(bJ f HQ.out).mono ?_
    clear f O X B HQ;rintro e w4 ⟨rfl,f⟩;have f:=f.made (.cells #[.int .u64 s.r,.string s.k,.int .u64 m] 63);go_upto_region 9 with(fail)
    refine dc f ?_
    generalize w4.heap.size=b8 at *;clear f;intro W f;have k8:=f.k0;have O:=f.k2;have f:=f.b1;go_wp2_with (at_builtin;refine dM _ _ 41 69 _ i 2 24 _ (iz s) (.agg #[.string ⟨#[]⟩,.int .u64 0]) i64 f rfl rfl Tryz.underlying41 lO.out lQ.out lR.out lS.out rfl (by decide) rfl rfl rfl (fun u hu=>by simp[iz]at hu;rcases hu with rfl|rfl <;> rfl) (by omega) (by decide) ?_)
    clear f k8 O;intro v' w' f;obtain⟨mP,mQ,hv,_,_⟩:=f.aJ;subst hv;have f:=f.b9.b1;have O:=f.k0;have fp:=f.f0;have f:=f.aK 1 (.slice mP (i+1) mQ);simp only[List.set_cons_zero,List.set_cons_succ]at f;go_wp2
    go_roundw
    case rel=>exact⟨i+1,mP,mQ,by go_num,by omega,by rw[iU.out];unfold aF;rw[List.flatMap_append];exact(show St K _ (az _ _ _ _ (aF (pg.sl.take i)++iz s)::_)from f.b1).row_eq (by simp[aF])⟩
    case measure=>simp[intOf];omega
   ·obtain rfl:i=n:=by omega
    rw[List.take_of_length_le (by rw[←Hn.out];exact Nat.le_refl _)]at f
    have X:=f.k2;have O:=f.k1;have f:=f.b3;have k4:=f.k0;have f4:=f.f0;have f:=((((f.aK 0 (.int .i64 (wrap64 c1.m))).aK 1 (.slice a i co)).aK 2 (.string (cf 2).k)).aK 3 (.bool ((cf 2).m == 1))).aK 4 (.int .u64 (cf 3).n);simp only[List.set_cons_zero,List.set_cons_succ]at f;have hif:¬ (i:Int)<i:=by omega
    go_wp2
    refine bodyPost_ret (Ol _ _ (l+1) _ _ _ _ _ rfl f.k0) rfl ⟨_,by rw[V.out],?_⟩
    exact(f.re [1,0,2,3,4] rfl).b9.b9.b9.b9
end
section
variable {K:aM}{w:World}{F:List aC}{d:aU}{g:Nat}{L:List aQ}
theorem nU (i:d.Ok)(id:Int)(hid:0<=id/\id<18446744073709551616)(m:K.map g=some (.cells (flat L).toArray 63))(hl:L.length<=1000000)(f:St K w F) :
  Calls Tryz.prog 82 #[.agg #[.int .i64 (d).th,.int .i64 (d).sn,.int .i64 (d).no,.int .i64 (d).ch,.int .i64 (d).re,.int .i64 (d).fa,.int .u64 (d).cl,.slice (some ⟨g,0,none⟩) L.length L.length],.int .u64 id] w fun e w' => e=.returned (.bool (decide (1<=id/\id<=d.no/\id<=(ah L 4).n)))/\St K w' F:=by
 have o:=i.Ke;have q:=i.m6;have f:=f.made (.cells #[.int .i64 (d).th,.int .i64 (d).sn,.int .i64 (d).no,.int .i64 (d).ch,.int .i64 (d).re,.int .i64 (d).fa,.int .u64 (d).cl,.slice (some ⟨g,0,none⟩) L.length L.length] 52);have Q:=ass (fun W cs (h:St K W cs)=>gL (d:=d) 4 W (kT m hl h))
 generalize L.length=n at *;generalize ah L 4=c at *;have k:=f.k0;by_cases j:1<=id
 ·by_cases l:id<=d.no
  ·rw[show decide (1<=id/\id<=d.no/\id<=c.n)=decide (id<=c.n)by simp[j,l]]
   go_enter Tryz.func82,Tryz.ntmps82
   go_wp2_with fail
   refine(bJ f (Q.out _ _ f)).mono ?_
   clear f k Q;rintro e s ⟨rfl,f⟩;go_wp2
   go_ret;exact⟨rfl,f.tail⟩
  ·rw[show decide (1<=id/\id<=d.no/\id<=c.n)=false by simp[l]]
   go_enter Tryz.func82,Tryz.ntmps82
   go_wp2
   go_ret;exact⟨rfl,f.tail⟩
 ·rw[show decide (1<=id/\id<=d.no/\id<=c.n)=false by simp[j]]
  go_enter Tryz.func82,Tryz.ntmps82
  go_wp2
  go_ret;exact⟨rfl,f.tail⟩
theorem Dq (w:World)(aA ri:Int)(a:Option Addr)(n c:Nat)(hi:ByteArray)(la:Bool):(Instr.field 43 (.agg #[.int .i64 aA,.slice a n c,.string hi,.bool la,.int .u64 ri]) 0).run Tryz.prog w=.ok (.int .i64 aA) w:=rfl
theorem Dr (w:World)(aA ri:Int)(a:Option Addr)(n c:Nat)(hi:ByteArray)(la:Bool):(Instr.field 43 (.agg #[.int .i64 aA,.slice a n c,.string hi,.bool la,.int .u64 ri]) 2).run Tryz.prog w=.ok (.string hi) w:=rfl
theorem zl (w:World)(aA ri:Int)(a:Option Addr)(n c:Nat)(hi:ByteArray)(la:Bool):(Instr.field 43 (.agg #[.int .i64 aA,.slice a n c,.string hi,.bool la,.int .u64 ri]) 4).run Tryz.prog w=.ok (.int .u64 ri) w:=rfl
attribute [go_sem] Dq Dr zl
def HtR (K:aM)(pg:Pg)(REST:List aC)(ρ:Nat->Option Value)(W:World):Prop:=
 St K W REST/\(∀v,ρ 4=some v->∃(a:Option Addr) (c:Nat),v=.agg #[.int .i64 pg.aA,.slice a pg.sl.length c,.string pg.hi,.bool pg.la,.int .u64 pg.ri])/\(∀v,ρ 5=some v->v=.int .i64 pg.aA)/\(∀v,ρ 6=some v->v=.int .i64 (pg.aA+1))/\(∀v,ρ 7=some v->v=.int .i64 (pg.aA+1))
theorem wB {pg:Pg}(O:d.Ok)(P:1<=(ah L 0).n)(R:(ah L 0).n<=d.no)(hp:eO d (ah L 0).n L pg)(Z:0<=pg.aA/\pg.aA<1000000)(M:K.map g=some (.cells (flat L).toArray 63))(hl:L.length<=1000000)(f:St K w F) :
  Calls Tryz.prog 26 #[.agg #[.int .i64 (d).th,.int .i64 (d).sn,.int .i64 (d).no,.int .i64 (d).ch,.int .i64 (d).re,.int .i64 (d).fa,.int .u64 (d).cl,.slice (some ⟨g,0,none⟩) L.length L.length]] w fun e w' => e=.returned (.int .i64 (pg.aA+1))/\St K w' F:=by
 have f:=f.made (.cells #[.int .i64 (d).th,.int .i64 (d).sn,.int .i64 (d).no,.int .i64 (d).ch,.int .i64 (d).re,.int .i64 (d).fa,.int .u64 (d).cl,.slice (some ⟨g,0,none⟩) L.length L.length] 52);have Q:=ass (fun W cs (h:St K W cs)=>gL (d:=d) 0 W (kT M hl h))
 have S:=ass (fun W cs (h:St K W cs)=>fT O P R hp M hl h)
 generalize L.length=n at *;generalize ah L 0=c at *;go_enter Tryz.func26,Tryz.ntmps26
 go_upto_region 1 with(fail)
 have T:=ass f;clear f;refine aX [false,false,false,false,true,true,true,true] [4,5,6,7] (fun|5=>[4] | 6=>[5] | 7=>[6] | _=>[])
  (HtR K pg (blk w.heap.size (.cells #[.int .i64 (d).th,.int .i64 (d).sn,.int .i64 (d).no,.int .i64 (d).ch,.int .i64 (d).re,.int .i64 (d).fa,.int .u64 (d).cl,.slice (some ⟨g,0,none⟩) n n] 52)::F))
  (fun W=>St K W (blk w.heap.size (.cells #[.int .i64 (d).th,.int .i64 (d).sn,.int .i64 (d).no,.int .i64 (d).ch,.int .i64 (d).re,.int .i64 (d).fa,.int .u64 (d).cl,.slice (some ⟨g,0,none⟩) n n] 52)::F)) ?aS (by kernel_rfl) ?hB ?H ?ja ?h0 ?hI ?hR ?hE ?hQ
 case hB=>as_aux_lemma=>kernel_rfl
 case H=>
  intro u f;have kv:=f.k0;have U:=ass (fun N (V:∃x:Ext,N=over u x)=>Q.out N _ (f.same (Pure.below V)))
  clear f;simp only[cG];repeat (go_big_quiet_step ((go_at_call 83;exact aZ (U.out _ ⟨_,rfl⟩))))
  refine wpQuiet_nil ?_
  rfl
 case ja=>rfl
 case h0=>exact⟨T.out,fun v h=>(by cases h),fun v h=>(by cases h),fun v h=>(by cases h),fun v h=>(by cases h)⟩
 case hI=>exact fun ρ u h=>h.1
 case hR=>exact fun ρ u X h Y=>⟨h.1.same Y,h.2⟩
 case hE=>
  refine⟨?e4,?e5,?e6,?e7,trivial⟩;case e4=>
   intro o B ρ u h l y i af j;obtain rfl:=asy B;replace j:af=aj _ ρ [] _:=j;simp only[aj]at j;subst j;obtain⟨f,m,q,s,t⟩:=h;have C:=ass q;have D:=ass s;have E:=ass t;clear m q s t l i;go_wp2_with fail
   refine(S.out _ _ f).mono ?_
   rintro e X ⟨va,rfl,G⟩;obtain⟨a,c,rfl,_,_⟩:=G.aJ;go_wp2
   refine⟨rfl,_,rfl,G.tail,fun v h=>⟨a,c,by simpa[upd] using h.symm⟩,fun v h=>C.out v (by simpa[upd] using h),fun v h=>D.out v (by simpa[upd] using h),fun v h=>E.out v (by simpa[upd] using h)⟩
  case e5=>
   intro o B ρ u h l z i af j;obtain rfl:=asy B;replace j:af=aj _ ρ [4] _:=j;obtain⟨v4,y⟩:=asv.1 (i 4 (by show _∈[4];simp))
   obtain⟨f,m,q,s,t⟩:=h;obtain⟨a,c,rfl⟩:=m v4 y;simp only[aj,y,Option.getD_some,aP,Act.put,asz]at j;subst j;have H4:=ass m;have D:=ass s;have E:=ass t;have I:=ass f;clear m q s t l i y f;go_wp2
   refine⟨rfl,_,rfl,I.out,fun v h=>H4.out v (by simpa[upd] using h),fun v h=>by simpa[upd] using h.symm,fun v h=>D.out v (by simpa[upd] using h),fun v h=>E.out v (by simpa[upd] using h)⟩
  case e6=>
   intro o B ρ u h l A i af j;obtain rfl:=asy B;replace j:af=aj _ ρ [5] _:=j;obtain⟨v5,z⟩:=asv.1 (i 5 (by show _∈[5];simp))
   obtain⟨f,m,q,s,t⟩:=h;obtain rfl:=q v5 z;simp only[aj,z,Option.getD_some,aP,Act.put,asz]at j;subst j;have H4:=ass m;have C:=ass q;have E:=ass t;have I:=ass f;clear m q s t l i z f;go_wp2
   refine⟨rfl,_,rfl,I.out,fun v h=>H4.out v (by simpa[upd] using h),fun v h=>C.out v (by simpa[upd] using h),fun v h=>by simpa[upd] using h.symm,fun v h=>E.out v (by simpa[upd] using h)⟩
  case e7=>
   intro o B ρ u h l J i af j;obtain rfl:=asy B;replace j:af=aj _ ρ [6] _:=j;obtain⟨v6,A⟩:=asv.1 (i 6 (by show _∈[6];simp))
   obtain⟨f,m,q,s,t⟩:=h;obtain rfl:=s v6 A;simp only[aj,A,Option.getD_some,aP,Act.put,asz]at j;subst j;have H4:=ass m;have C:=ass q;have D:=ass s;have I:=ass f;clear m q s t l i A f;go_wp2
   refine⟨rfl,_,rfl,I.out,fun v h=>H4.out v (by simpa[upd] using h),fun v h=>C.out v (by simpa[upd] using h),fun v h=>D.out v (by simpa[upd] using h),fun v h=>by simpa[upd] using h.symm⟩
 case hQ=>
  intro ρ u h k;obtain⟨v4,y⟩:=asv.1 (k 4 (by simp))
  obtain⟨v5,z⟩:=asv.1 (k 5 (by simp))
  obtain⟨v6,A⟩:=asv.1 (k 6 (by simp))
  obtain⟨v7,J⟩:=asv.1 (k 7 (by simp))
  obtain⟨f,m,q,s,t⟩:=h;obtain⟨a,c,rfl⟩:=m v4 y;obtain rfl:=q v5 z;obtain rfl:=s v6 A;obtain rfl:=t v7 J;simp only[aj,y,z,A,J,Option.getD_some,aP,Act.put,asz];clear m q s t y z A J k;go_wp2
  go_ret;exact⟨rfl,f.tail⟩
theorem Om (tmps:Array Value)(w:World)(b:Nat)(v0 v1 v2 v3 v4 v5 v6 v7:Value)(hp:tmps[4]?=some (.pointer (some ⟨b,0,none⟩)))(hk:∀k,w.cell? ⟨b,k,none⟩=(#[v0,v1,v2,v3,v4,v5,v6,v7]:Array Value)[k]?) :
  (results Tryz.f23 tmps).run Tryz.prog w=.ok (.agg #[v0,v1,v2,v3,v4,v5,v6,v7]) w:=by
 simp[results,Tryz.results23,go_sem,hp,hk]
def KvR (K:aM)(d:aU)(L:List aQ)(b:Nat)(REST:List aC)(ρ:Nat->Option Value)(W:World):Prop:=
 ∃g:Nat,(∀v,ρ 2=some v->v=.slice (some ⟨g,0,none⟩) L.length L.length)/\(∀v,ρ 3=some v->v=.agg #[.int .i64 (d).th,.int .i64 (d).sn,.int .i64 (d).no,.int .i64 (d).ch,.int .i64 (d).re,.int .i64 (d).fa,.int .u64 (d).cl,.slice (some ⟨g,0,none⟩) L.length L.length])/\(∀v,ρ 4=some v->(ρ 3).isSome=true) /\
  St K W (blk (b+1) (.cells (if (ρ 4).isSome then #[.int .i64 (d).th,.int .i64 (d).sn,.int .i64 (d).no,.int .i64 (d).ch,.int .i64 (d).re,.int .i64 (d).fa,.int .u64 (d).cl,.slice (some ⟨g,0,none⟩) L.length L.length]else #[.int .i64 0,.int .i64 0,.int .i64 0,.int .i64 0,.int .i64 0,.int .i64 0,.int .u64 0,.slice none 0 0]) 52)::dO (ρ 2) (blk g (.cells (flat L).toArray 63))::blk b (.cells #[.int .i64 (d).th,.int .i64 (d).sn,.int .i64 (d).no,.int .i64 (d).ch,.int .i64 (d).re,.int .i64 (d).fa,.int .u64 (d).cl] 26)::REST)
theorem vg {bm bc acc:Nat}(f:St K w (aL bm bc L acc::F)) :
  Calls Tryz.prog 23 #[.agg #[.int .i64 (d).th,.int .i64 (d).sn,.int .i64 (d).no,.int .i64 (d).ch,.int .i64 (d).re,.int .i64 (d).fa,.int .u64 (d).cl],(.pointer (some ⟨bm,0,none⟩))] w fun e w' => ∃g,e=.returned (.agg #[.int .i64 (d).th,.int .i64 (d).sn,.int .i64 (d).no,.int .i64 (d).ch,.int .i64 (d).re,.int .i64 (d).fa,.int .u64 (d).cl,.slice (some ⟨g,0,none⟩) L.length L.length])/\K.Le (K.add g (.cells (flat L).toArray 63))/\(K.add g (.cells (flat L).toArray 63)).map g=some (.cells (flat L).toArray 63)/\St (K.add g (.cells (flat L).toArray 63)) w' (aL bm bc L acc::F):=by
 have f:=f.made (.cells #[.int .i64 (d).th,.int .i64 (d).sn,.int .i64 (d).no,.int .i64 (d).ch,.int .i64 (d).re,.int .i64 (d).fa,.int .u64 (d).cl] 26);have f:=f.made (.cells #[.int .i64 0,.int .i64 0,.int .i64 0,.int .i64 0,.int .i64 0,.int .i64 0,.int .u64 0,.slice none 0 0] 52);simp only[World.size_alloc]at f;go_enter Tryz.func23,Tryz.ntmps23
 go_upto_region 1 with(fail)
 have O:=ass f;clear f;refine aX [false,false,true,true,true] [2,3,4] (fun|3=>[2] | 4=>[3] | _=>[])
  (KvR K d L w.heap.size (aL bm bc L acc::F))
  (fun W=>∃cs,St K W (blk w.heap.size (.cells #[.int .i64 (d).th,.int .i64 (d).sn,.int .i64 (d).no,.int .i64 (d).ch,.int .i64 (d).re,.int .i64 (d).fa,.int .u64 (d).cl] 26)::cs)) ?aS (by kernel_rfl) ?hB ?H ?ja ?h0 ?hI ?hR ?hE ?hQ
 case hB=>as_aux_lemma=>kernel_rfl
 case H=>
  rintro u ⟨cs,f⟩;have S:=f.k0;clear f;simp only[cG];repeat (go_big_quiet_step (fail))
  refine wpQuiet_nil ?_
  rfl
 case ja=>rfl
 case h0=>exact⟨0,fun v h=>(by cases h),fun v h=>(by cases h),fun v h=>(by cases h),(O.out.b1.empty.b2:St K _ (_::gW::_))⟩
 case hI=>exact fun ρ u ⟨g,_,_,_,f⟩=>⟨_,f.b2⟩
 case hR=>exact fun ρ u P ⟨g,a,b,c,f⟩ Q=>⟨g,a,b,c,f.same Q⟩
 case hE=>
  refine⟨?e2,?e3,?e4,trivial⟩;case e2=>
   intro o A ρ u h i q j af l;obtain rfl:=asy A;replace l:af=aj _ ρ [] _:=l;have k:ρ 3=none:=i.none (by simp) (show 2∈[2]by simp) q
   have n:ρ 4=none:=i.none (by simp) (show 3∈[3]by simp) k
   simp only[aj]at l;subst l;obtain⟨g,s,t,y,f⟩:=h;rw[q,n]at f;have f:=(show St K u (_::gW::_::aL bm bc L acc::F)from f).b9.b2
   have H3:=ass k;have H4:=ass n;clear s t y i j q k n;go_wp2_with fail
   refine(Dp f).mono ?_
   rintro e P ⟨C,rfl,B⟩;have R:=ass B;clear f B;go_wp2
   refine⟨rfl,_,rfl,C,fun v h=>by simpa[upd] using h.symm,fun v h=>?_,fun v h=>?_,?_⟩
   ·have:ρ 3=some v:=by simpa[upd] using h
    rw[H3.out]at this;cases this
   ·have:ρ 4=some v:=by simpa[upd] using h
    rw[H4.out]at this;cases this
   ·have e4:upd ρ 2 (.slice (some ⟨C,0,none⟩) L.length L.length) 4=none:=by simp[upd,H4.out]
    have e2:upd ρ 2 (.slice (some ⟨C,0,none⟩) L.length L.length) 2=some (.slice (some ⟨C,0,none⟩) L.length L.length):=by simp[upd]
    rw[e4,e2];exact R.out.re [2,0,3,1] rfl
  case e3=>
   intro o A ρ u h i k j af l;obtain rfl:=asy A;replace l:af=aj _ ρ [2] _:=l;obtain⟨v2,q⟩:=asv.1 (j 2 (by show _∈[2];simp))
   have n:ρ 4=none:=i.none (by simp) (show 3∈[3]by simp) k
   obtain⟨g,s,t,y,f⟩:=h;obtain rfl:=s v2 q;simp only[aj,q,Option.getD_some,aP,Act.put,asz]at l;subst l;have z:=ass s;have H4:=ass n;have D:=ass f;clear s t y i j q k n f;go_wp2
   refine⟨rfl,_,rfl,g,fun v h=>z.out v (by simpa[upd] using h),fun v h=>by simpa[upd] using h.symm,fun v h=>?_,by simpa[upd] using D.out⟩
   have:ρ 4=some v:=by simpa[upd] using h
   rw[H4.out]at this;cases this
  case e4=>
   intro o A ρ u h i n j af l;obtain rfl:=asy A;replace l:af=aj _ ρ [3] _:=l;obtain⟨v3,k⟩:=asv.1 (j 3 (by show _∈[3];simp))
   obtain⟨g,s,t,y,f⟩:=h;obtain rfl:=t v3 k;simp only[aj,k,Option.getD_some,aP,Act.put,asz]at l;subst l;rw[n]at f;have f:St K u (blk (w.heap.size+1) (.cells #[.int .i64 0,.int .i64 0,.int .i64 0,.int .i64 0,.int .i64 0,.int .i64 0,.int .u64 0,.slice none 0 0] 52)::_):=f;have k0:=f.k0;have f0:=f.f0;have f:=(((((((f.aK 0 (.int .i64 d.th)).aK 1 (.int .i64 d.sn)).aK 2 (.int .i64 d.no)).aK 3 (.int .i64 d.ch)).aK 4 (.int .i64 d.re)).aK 5 (.int .i64 d.fa)).aK 6 (.int .u64 d.cl)).aK 7 (.slice (some ⟨g,0,none⟩) L.length L.length);simp only[List.set_cons_zero,List.set_cons_succ]at f;have z:=ass s;have E:=ass t;have H3:=ass k;have D:=ass f;clear s t y i j k n f;go_wp2
   refine⟨rfl,undef,rfl,g,fun v h=>z.out v (by simpa[upd] using h),fun v h=>E.out v (by simpa[upd] using h),fun v h=>by simp[upd,H3.out],by simpa[upd] using D.out⟩
 case hQ=>
  intro ρ u h m;obtain⟨v2,q⟩:=asv.1 (m 2 (by simp))
  obtain⟨v3,k⟩:=asv.1 (m 3 (by simp))
  obtain⟨v4,n⟩:=asv.1 (m 4 (by simp))
  obtain⟨g,s,t,y,f⟩:=h;rw[q,n]at f;have f:St K u (blk (w.heap.size+1) (.cells #[.int .i64 (d).th,.int .i64 (d).sn,.int .i64 (d).no,.int .i64 (d).ch,.int .i64 (d).re,.int .i64 (d).fa,.int .u64 (d).cl,.slice (some ⟨g,0,none⟩) L.length L.length] 52)::blk g (.cells (flat L).toArray 63)::_::aL bm bc L acc::F):=f;obtain rfl:=s v2 q;obtain rfl:=t v3 k;simp only[aj,q,k,n,Option.getD_some,aP,Act.put,asz];clear s t y q k n m;obtain⟨J,M,N⟩:=f.b1.freeze;have G:=ass J;have I:=ass M;clear J M;go_wp2
  refine bodyPost_ret (Om _ _ (w.heap.size+1) _ _ _ _ _ _ _ _ rfl N.k0) rfl ⟨g,rfl,G.out,I.out,N.tail.tail⟩
end
end
section
theorem Un {l:List Sl}{k:Nat}{s:Sl}(key:ByteArray)(h:l[k]?=some s):fR (l.take (k+1)) key=fR (l.take k) key+(if cA s.k key then 1 else 0):=by
 unfold fR;rw[List.take_add_one,h];simp[List.countP_append,List.countP_cons]
section
variable {pg:Pg}{a:Option Addr}{cap:Nat}{key:ByteArray}
theorem Ds (w:World)(l:eG w a pg.sl) :
  Calls Tryz.prog 51 #[.agg #[.int .i64 (pg).aA,(.slice a pg.sl.length cap),.string (pg).hi,.bool (pg).la,.int .u64 (pg).ri],.string key] w fun e w' => e=.returned (.tuple #[.int .i64 (fR pg.sl key:Nat),.bool (pg.sl.any fun s=>s.k.toList == key.toList)])/\Below w.heap.size w w' := by
 have A:=l.1;obtain⟨n,o⟩:∃n,n=pg.sl.length:=⟨_,rfl⟩;rw[←o]at A ⊢;have v:=ass o;have B:=ass l;have f:=(St.start w).made (.cells #[.int .i64 (pg).aA,(.slice a n cap),.string (pg).hi,.bool (pg).la,.int .u64 (pg).ri] 43);clear o l;go_enter Tryz.func51,Tryz.ntmps51
 go_wp2
 go_loopw [6,7,8] (fun v6 v7 v8 wr=>∃k:Nat,k<=n/\v6=.int .i64 (fR (pg.sl.take k) key:Nat)/\v7=.bool ((pg.sl.take k).any fun s=>s.k.toList == key.toList)/\v8=.int .i64 k/\St (aM.of w) wr [blk w.heap.size (.cells #[.int .i64 (pg).aA,(.slice a n cap),.string (pg).hi,.bool (pg).la,.int .u64 (pg).ri] 43)]) (fun _ _ v8 _=>n-(intOf v8).toNat)
 case atStart=>exact⟨0,by omega,by simp[fR],by simp,rfl,f⟩
 case round=>
  clear f;obtain⟨k,hk,rfl,rfl,rfl,f⟩:=hrel;have y:=f.below (aM.Le.refl _);have k0:=f.k0;by_cases t:k<n
  ·have h:k<pg.sl.length:=by rw[←v.out];exact t
   obtain⟨b1,z,rfl,_,D,c1⟩:=(B.out.same y).2 k pg.sl[k] (asx h);have j:=ass (Un key (asx h));have i:Hid (((pg.sl.take (k+1)).any fun s=>s.k.toList == key.toList)=(((pg.sl.take k).any fun s=>s.k.toList == key.toList) || (pg.sl[k].k.toList == key.toList))):=ass (by
    rw[List.take_add_one,asx h,List.any_append];simp only[Option.toList_some,List.any_cons,List.any_nil,Bool.or_false])
   have C:fR (pg.sl.take k) key<=1000000000:=by
    have E:=rq (pg.sl.take k) key;have G:=List.length_take_le k pg.sl;omega
   generalize pg.sl[k]=u at *;generalize fR (pg.sl.take k) key=m at *;generalize ((pg.sl.take k).any fun s=>s.k.toList == key.toList)=q at *
   clear h;cases hu:cA u.k key with
   | true=>
    rw[hu]at j;cases q with
    | true=>
     go_wp2
     go_roundw
     case rel=>exact⟨k+1,by omega,by rw[j.out];go_num,by rw[i.out];rfl,by go_num,f⟩
     case measure=>simp[intOf];omega
    | false=>
     go_wp2
     go_roundw
     case rel=>exact⟨k+1,by omega,by rw[j.out];go_num,by rw[i.out];rfl,by go_num,f⟩
     case measure=>simp[intOf];omega
   | false=>
    rw[hu]at j;cases q with
    | true=>
     go_wp2
     go_roundw
     case rel=>exact⟨k+1,by omega,by rw[j.out];go_num,by rw[i.out];rfl,by go_num,f⟩
     case measure=>simp[intOf];omega
    | false=>
     go_wp2
     go_roundw
     case rel=>exact⟨k+1,by omega,by rw[j.out];go_num,by rw[i.out];rfl,by go_num,f⟩
     case measure=>simp[intOf];omega
  ·obtain rfl:k=n:=by omega
   have e:pg.sl.take k=pg.sl:=List.take_of_length_le (by rw[←v.out];exact Nat.le_refl _)
   rw[e];clear e;go_wp2
   go_ret2
   exact⟨rfl,y⟩
end
end
section
section
variable {K:aM}{w:World}{F:List aC}{pg:Pg}{a:Option Addr}{cap:Nat}{key:ByteArray}{r:Int}
end
end
section
section
variable {K:aM}{w w':World}{c d:aC}{cs F:List aC}
end
def tJ (K:aM)(REST:List aC)(pg:Pg)(ρ:Nat->Option Value)(W:World):Prop:=
 ∃(a:Option Addr) (c b:Nat),(∀v,ρ 5=some v->v=(.agg #[.int .i64 (pg).aA,(.slice a pg.sl.length c),.string (pg).hi,.bool (pg).la,.int .u64 (pg).ri]))/\(∀v,ρ 6=some v->v=(.pointer (some ⟨b,0,none⟩))) /\
  St K W (dO (ρ 5) (bz (.slice a pg.sl.length c) pg)::dO (ρ 6) (blk b (.cells (if (ρ 7).isSome then #[.int .i64 (pg).aA,(.slice a pg.sl.length c),.string (pg).hi,.bool (pg).la,.int .u64 (pg).ri]else #[.int .i64 0,.slice none 0 0,.string ⟨#[]⟩,.bool false,.int .u64 0]) 43))::REST)
section
variable {K:aM}{REST:List aC}{pg:Pg}{ρ:Nat->Option Value}{W:World}{v5 v6:Value}
theorem tJ.start (e:St K W REST):tJ K REST pg (fun _=>none) W:=
 ⟨none,0,0,fun v h=>(by cases h),fun v h=>(by cases h),e.empty.empty⟩
theorem tJ.same {e:World}(h:tJ K REST pg ρ W)(f:Below W.heap.size W e):tJ K REST pg ρ e := by
 obtain⟨a,c,b,i,e2,j⟩:=h;exact⟨a,c,b,i,e2,j.same f⟩
theorem tJ.rest (h:tJ K REST pg ρ W):St K W REST:=by
 obtain⟨a,c,b,f,e2,e⟩:=h;exact e.tail.tail
theorem tJ.e5 (h:tJ K REST pg ρ W)(m:ρ 5=none)(j:ρ 7=none):∃k,St K W k /\ ∀(a:Option Addr)(c:Nat) e,St K e (bz (.slice a pg.sl.length c) pg::k)->tJ K REST pg (upd ρ 5 (.agg #[.int .i64 (pg).aA,(.slice a pg.sl.length c),.string (pg).hi,.bool (pg).la,.int .u64 (pg).ri])) e := by
 obtain⟨a,c,b,n,e2,l⟩:=h;rw[m,j]at l;refine⟨_,l.tail,fun f c' e i => ⟨f,c',b,fun v h=>by simpa[upd] using h.symm,fun v h=>e2 v (by simpa[upd] using h),?_⟩⟩
 have:St K e (dO (some (.agg #[.int .i64 (pg).aA,(.slice f pg.sl.length c'),.string (pg).hi,.bool (pg).la,.int .u64 (pg).ri])) (bz (.slice f pg.sl.length c') pg)::_):=i;simpa[upd,j] using this
theorem tJ.e6 (h:tJ K REST pg ρ W)(i:ρ 6=none)(j:ρ 7=none):tJ K REST pg (upd ρ 6 (.pointer (some ⟨W.heap.size,0,none⟩))) (W.alloc (.cells #[.int .i64 0,.slice none 0 0,.string ⟨#[]⟩,.bool false,.int .u64 0] 43)):=by
 obtain⟨a,c,b,k,e2,f⟩:=h;rw[i]at f;refine⟨a,c,W.heap.size,fun v h=>k v (by simpa[upd] using h),fun v h=>by simpa[upd] using h.symm,?_⟩
 have e:St K W (dO none (blk b (.cells (if (ρ 7).isSome then #[.int .i64 (pg).aA,(.slice a pg.sl.length c),.string (pg).hi,.bool (pg).la,.int .u64 (pg).ri]else #[.int .i64 0,.slice none 0 0,.string ⟨#[]⟩,.bool false,.int .u64 0]) 43))::dO (ρ 5) (bz (.slice a pg.sl.length c) pg)::REST):=f.b1
 have:=((e.tail).made (.cells #[.int .i64 0,.slice none 0 0,.string ⟨#[]⟩,.bool false,.int .u64 0] 43)).b1;have l:St K (W.alloc (.cells #[.int .i64 0,.slice none 0 0,.string ⟨#[]⟩,.bool false,.int .u64 0] 43)) (dO (ρ 5) (bz (.slice a pg.sl.length c) pg)::dO (some (.pointer (some ⟨W.heap.size,0,none⟩))) (blk W.heap.size (.cells #[.int .i64 0,.slice none 0 0,.string ⟨#[]⟩,.bool false,.int .u64 0] 43))::REST):=this;simpa[upd,j] using l
theorem tJ.e7 (h:tJ K REST pg ρ W)(i:ρ 5=some v5)(j:ρ 6=some v6)(n:ρ 7=none):∃(a:Option Addr)(c b:Nat)(l:List aC),v5=(.agg #[.int .i64 (pg).aA,(.slice a pg.sl.length c),.string (pg).hi,.bool (pg).la,.int .u64 (pg).ri])/\v6=(.pointer (some ⟨b,0,none⟩))/\St K W (blk b (.cells #[.int .i64 0,.slice none 0 0,.string ⟨#[]⟩,.bool false,.int .u64 0] 43)::l) /\
  ∀e,St K e (blk b (.cells #[.int .i64 (pg).aA,(.slice a pg.sl.length c),.string (pg).hi,.bool (pg).la,.int .u64 (pg).ri] 43)::l)->tJ K REST pg (upd ρ 7 undef) e := by
 obtain⟨a,c,b,m,e2,f⟩:=h;rw[i,j,n]at f;have f:St K W (bz (.slice a pg.sl.length c) pg::blk b (.cells #[.int .i64 0,.slice none 0 0,.string ⟨#[]⟩,.bool false,.int .u64 0] 43)::REST):=f;refine⟨a,c,b,_,m v5 i,e2 v6 j,f.b1,fun e k => ⟨a,c,b,fun v h=>m v (by simpa[upd] using h),fun v h=>e2 v (by simpa[upd] using h),?_⟩⟩
 have:St K e (dO (some v5) (bz (.slice a pg.sl.length c) pg)::dO (some v6) (blk b (.cells #[.int .i64 (pg).aA,(.slice a pg.sl.length c),.string (pg).hi,.bool (pg).la,.int .u64 (pg).ri] 43))::REST):=k.b1;simpa[upd,i,j] using this
theorem tJ.last (h:tJ K REST pg ρ W)(f:∀e,e∈[5,6,7]->(ρ e).isSome=true):∃(a:Option Addr)(c b:Nat),ρ 5=some (.agg #[.int .i64 (pg).aA,(.slice a pg.sl.length c),.string (pg).hi,.bool (pg).la,.int .u64 (pg).ri])/\ρ 6=some (.pointer (some ⟨b,0,none⟩))/\(∃v,ρ 7=some v) /\
  St K W (blk b (.cells #[.int .i64 (pg).aA,(.slice a pg.sl.length c),.string (pg).hi,.bool (pg).la,.int .u64 (pg).ri] 43)::bz (.slice a pg.sl.length c) pg::REST):=by
 obtain⟨v5,j⟩:=asv.1 (f 5 (by simp))
 obtain⟨v6,k⟩:=asv.1 (f 6 (by simp))
 obtain⟨v7,l⟩:=asv.1 (f 7 (by simp))
 obtain⟨a,c,b,m,e2,i⟩:=h;rw[j,k,l]at i;have i:St K W (bz (.slice a pg.sl.length c) pg::blk b (.cells #[.int .i64 (pg).aA,(.slice a pg.sl.length c),.string (pg).hi,.bool (pg).la,.int .u64 (pg).ri] 43)::REST):=i;exact⟨a,c,b,by rw[j,m v5 j],by rw[k,e2 v6 k],⟨v7,l⟩,i.b1⟩
end
end
section
section
variable {K:aM}{w:World}{F:List aC}{b:Nat}{d:aU}{x:pE}{nx:Value}
theorem Uo (f:St K w (bC b nx d x::F)):Calls Tryz.prog 52 #[(.pointer (some ⟨b,0,none⟩))] w fun e w' => e=.returned (.int .i64 x.err)/\w=w' := by
 obtain⟨fr,vf,fu,vu,err,le,vl,ri,vr,sep,on⟩:=x;have k:=f.k0;unfold dV wj at k;clear f;go_enter Tryz.func52,Tryz.ntmps52
 go_wp2
 go_ret;exact⟨rfl,rfl⟩
theorem Uq (f:x.on=true)(h:St K w (bC b .nilFunc d x::F)):Calls Tryz.prog 178 #[(.pointer (some ⟨b,0,none⟩))] w fun e w' => e=.returned (.string x.sep)/\w=w' := by
 obtain⟨fr,vf,fu,vu,err,le,vl,ri,vr,sep,on⟩:=x;simp only at f;subst f;have k:=h.k0;have i:=ass (gG w b (k 0) (k 1));unfold dV wj at k;clear h;go_enter Tryz.func178,Tryz.ntmps178
 go_wp2_with fail
 refine(i.out).mono ?_
 clear i;rintro e j ⟨rfl,rfl⟩;go_wp2
 go_ret;exact⟨rfl,rfl⟩
end
section
variable {K:aM}{w:World}{F:List aC}{b:Nat}{d:aU}{fr:cC}{fu:Pg}{vu:Value}{af:Option Addr}{cf:Nat}{nx:Value}
end
section
variable {K:aM}{w:World}{F:List aC}{b:Nat}{d:aU}{fr:cC}{fu p:Pg}{L L':List aQ}{x:pE}{sp:Bool}
end
theorem wD {d:aU}{L:List aQ}{g:Nat}(h:d.Ok)(id:Int)(hid:0<=id/\id<18446744073709551616)(w:World)(i:VAt w g L) :
  Calls Tryz.prog 31 #[.agg #[.int .i64 (d).th,.int .i64 (d).sn,.int .i64 (d).no,.int .i64 (d).ch,.int .i64 (d).re,.int .i64 (d).fa,.int .u64 (d).cl,.slice (some ⟨g,0,none⟩) L.length L.length],.int .u64 id] w fun e w' => e=.returned (.int .u64 (ah L (d.node id 0)).n)/\Below w.heap.size w w' := by
 have f1:=h.fy;have f:=(St.start w).made (.cells #[.int .i64 (d).th,.int .i64 (d).sn,.int .i64 (d).no,.int .i64 (d).ch,.int .i64 (d).re,.int .i64 (d).fa,.int .u64 (d).cl,.slice (some ⟨g,0,none⟩) L.length L.length] 52);have q:=mi h id 0 hid ⟨by omega,by omega⟩ (w.alloc (.cells #[.int .i64 (d).th,.int .i64 (d).sn,.int .i64 (d).no,.int .i64 (d).ch,.int .i64 (d).re,.int .i64 (d).fa,.int .u64 (d).cl,.slice (some ⟨g,0,none⟩) L.length L.length] 52)) (i.same ((Below.refl _ _).alloc (Nat.le_refl _) _))
 generalize ah L (d.node id 0)=c at *;obtain⟨n,k,m⟩:=c;generalize L.length=j at *;have Q:=ass q;clear q i f1;have k:=f.k0;go_enter Tryz.func31,Tryz.ntmps31
 go_wp2_with fail
 refine(bJ f Q.out).mono ?_
 clear f k Q;rintro e l ⟨rfl,f⟩;go_wp2
 go_ret;exact⟨rfl,f.below (aM.Le.refl _)⟩
section
variable {d:aU}{id:Int}{L:List aQ}{pg:Pg}
theorem Dt:∀(l:List Sl)(i:Nat),Holds L (gA d id i l)->∀(k:Nat)(s:Sl),l[k]?=some s->ah L (d.slot id ((i+k:Nat):Int))=⟨s.r,s.k,0⟩
 | [],_,_,k,s,h=>by simp at h
 | s0::l,i,e,0,s,h=>by
  obtain rfl:s0=s:=by simpa using h
  exact e _ List.mem_cons_self
 | s0::l,i,e,k+1,s,h=>by
  have:=Dt l (i+1) (fun p hp=>e p (List.mem_cons_of_mem _ hp)) k s (by simpa using h)
  rw[show i+(k+1)=i+1+k by omega]
  exact this
theorem lF (e:Holds L (bQ d id pg))(f:0<=pg.aA/\pg.aA<1000000)(hle:(pg.sl.length:Int)<=d.fa)(l:pg.la=true->pg.hi=⟨#[]⟩):eO d id L pg:=by
 have j:ah L (d.node id 1)=⟨pg.sl.length,⟨#[]⟩,pg.aA⟩:=e ⟨d.node id 1,⟨pg.sl.length,⟨#[]⟩,pg.aA⟩⟩ (by simp[bQ])
 have k:ah L (d.node id 2)=mI pg:=e ⟨d.node id 2,mI pg⟩ (by simp[bQ])
 have m:ah L (d.node id 3)=⟨pg.ri,⟨#[]⟩,0⟩:=e ⟨d.node id 3,⟨pg.ri,⟨#[]⟩,0⟩⟩ (by simp[bQ])
 refine⟨by rw[j],by rw[j];exact j9 f.1 f.2,?_,?_,by rw[m],hle,fun i s hi=>?_⟩
 ·rw[k]
  unfold mI;cases h:pg.la with
  | true=>rw[l h];rfl
  | false=>rfl
 ·rw[k]
  unfold mI;cases h:pg.la <;> rfl
 ·have:=Dt pg.sl 0 (fun p hp=>e p (List.mem_append_left _ hp)) i s hi
  rw[Nat.zero_add]at this;rw[this];exact⟨rfl,rfl⟩
end
end
end Go.Proofs.YtlpdhhhgckpcfaaGreat
