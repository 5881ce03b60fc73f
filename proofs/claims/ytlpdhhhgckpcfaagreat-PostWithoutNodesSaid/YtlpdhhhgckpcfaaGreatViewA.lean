
/- blinktreekit.Cells: the contents of a memory as a slice. ano (package node): a aaI page without an access. dP.View: the cells as plain data. dP.View: agZ. dP.View: node, Height; blinktreekit.View. -/
import Derived.Test.YtlpdhhhgckpcfaaGreatPageA
import Derived.Test.YtlpdhhhgckpcfaaGreatGrA
namespace Go.Proofs.YtlpdhhhgckpcfaaGreat
set_option maxHeartbeats 16000000
open Go.RowKit
set_option maxRecDepth 100000
theorem vH (n:Nat)(hn:n<=1048576)(w:World):(Instr.makeSlice 50 (.int .i64 n) (.int .i64 n)).run Tryz.prog w=.ok (.slice (some ⟨w.heap.size,0,none⟩) n n) (w.alloc (.cells (flat (List.replicate n aP.zero)).toArray 63)):=by
 obtain⟨i,hi,hz,h3,hby⟩:=info_parts zo;have:=run_make w 50 63 i _ Tryz.underlying50 hi hz .i64 .i64 (n:Int) n (by omega) (by omega) (by rw[hby];omega) (by omega)
 rw[this,h3,Int.toNat_natCast,show(Value.agg #[.int .u64 0,.string ⟨#[]⟩,.int .u64 0]).cells= #[.int .u64 0,.string ⟨#[]⟩,.int .u64 0]from rfl,wo]
section
variable {K:aK}{w w':World}{c d:aB}{cs F:List aB}
theorem St.ai1 {g:Nat}{X:List aP}{T:TypeId}(h:St K w (blk g (.cells (flat X).toArray T)::F))(i:Nat)(c:aP) :
  St K (((w.setCell ⟨g,i*3,none⟩ (.int .u64 c.n)).setCell ⟨g,i*3+1,none⟩ (.string c.k)).setCell ⟨g,i*3+2,none⟩ (.int .u64 c.m)) (blk g (.cells (flat (X.set i c)).toArray T)::F):=by
 have:=((h.aI (i*3) (.int .u64 c.n)).aI (i*3+1) (.string c.k)).aI (i*3+2) (.int .u64 c.m);rwa [zl]at this
theorem Mz {w:World}{g:Nat}{X:List aP}{T:TypeId}(h:w.heap[g]?=some (.cells (flat X).toArray T)){i:Nat}{c:aP}(hi:X[i]?=some c) :
  w.cell? ⟨g,i*3,none⟩=some (.int .u64 c.n)/\w.cell? ⟨g,i*3+1,none⟩=some (.string c.k)/\w.cell? ⟨g,i*3+2,none⟩=some (.int .u64 c.m):=by
 have:=sJ X i c hi;simpa[bu h] using this
theorem Cj {bm bc:Nat}{L:List aP}{acc:Nat}(hs:St K w (aJ bm bc L acc::F)) :
  Calls Tryz.prog 34 #[.pointer (some ⟨bm,0,none⟩)] w fun e w' => ∃ g,e=.returned (.slice (some ⟨g,0,none⟩) L.length L.length)/\St K w' (blk g (.cells (flat L).toArray 63)::aJ bm bc L acc::F):=by
 have hlen:=hs.mem.len;obtain⟨n,hn⟩:∃ n,n=L.length:=⟨_,rfl⟩;have q1:=pL w bm bc L acc hs.mem;rw[← hn]at hlen q1 ⊢;have Hn:=aqo hn;have Q1:=aqo q1;clear q1 hn;have hmk:=vH n hlen;have hs:=hs.made (.cells (flat (List.replicate n aP.zero)).toArray 63);go_enter Tryz.func34,Tryz.ntmps34
 go_wp2_with fail
 refine(Q1.out).mono ?_
 rintro e w1 ⟨rfl,rfl⟩;go_wp2
 clear hmk;obtain⟨g,hg⟩:∃ g,g=w.heap.size:=⟨_,rfl⟩;rw[← hg]at hs ⊢;clear hg Q1;go_loopw [4] (fun v wr=>∃ k:Nat,k<=n/\v=.int .i64 k/\St K wr (blk g (.cells (flat (L.take k++List.replicate (n-k) aP.zero)).toArray 63)::aJ bm bc L acc::F)) (fun v _=>n-(intOf v).toNat)
 case atStart=>exact⟨0,by omega,rfl,by simpa using hs⟩
 case round=>
  clear hs;obtain⟨k,hk,rfl,hs⟩:=hrel;by_cases hlt:k<n
  ·obtain⟨c,hc,hz⟩:∃ c,ah L k=c/\L[k]?=some c:=⟨_,rfl,xC (by rw[← Hn.out];exact hlt)⟩
   have Hz:=aqo hz;have q:=Iy hs hs.ada (i:=(k:Int));rw[hc]at q;have Q:=aqo q;clear q hc hz hs;go_wp2_with fail
   refine(Q.out).mono ?_
   clear Q;rintro e w2 ⟨rfl,hs⟩;obtain⟨c0,c1,c2⟩:=Mz hs.head (i:=k) (c:=aP.zero) (by have:=Hn.out;rw[List.getElem?_append_right (by simp;omega)];simp[List.getElem?_replicate];omega)
   have kf:=hs.f0;have hs:=hs.ai1 k c;have e:(L.take k++List.replicate (n-k) aP.zero).set k c=L.take (k+1)++List.replicate (n-(k+1)) aP.zero:=by
    rw[List.set_append_right _ _ (by simp;omega),List.take_add_one,Hz.out,show n-k=(n-(k+1))+1 by omega,List.replicate_succ]
    simp[show k-min k L.length=0 by rw[← Hn.out];omega]
   rw[e]at hs;clear e;go_wp2
   go_roundw
   case rel=>exact⟨k+1,by omega,by go_num,hs⟩
   case measure=>simp[intOf];omega
  ·obtain rfl:k=n:=by omega
   have e:L.take k++List.replicate (k-k) aP.zero=L:=by rw[Nat.sub_self];simp[Hn.out]
   rw[e]at hs;clear e;go_wp2
   go_ret;exact⟨g,rfl,hs⟩
end
def ad6 (d:aR)(id:Int)(L:List aP)(i:Nat):Sl:=⟨(ah L (d.slot id i)).k,(ah L (d.slot id i)).n⟩
def ad7 (d:aR)(id:Int)(L:List aP):Pg:=
 ⟨wrap64 (ah L (d.node id 1)).m,(List.range (leftOf d (ah L (d.node id 1)))).map (ad6 d id L),(ah L (d.node id 2)).k,decide ((ah L (d.node id 2)).m=1),(ah L (d.node id 3)).n⟩
theorem Jz {d:aR}{id:Int}{L:List aP}{pg:Pg}(h:eA d id L pg):ad7 d id L=pg:=by
 have hl:leftOf d (ah L (d.node id 1))=pg.sl.length:=by
  have:=h.le;unfold leftOf;rw[h.n,Int.min_eq_left this];omega
 obtain⟨az,sl,hi,la,ri⟩:=pg;have h1:=h.az;have h2:=h.hi;have h3:=h.la;have h4:=h.ri;simp only at h1 h2 h3 h4 hl;unfold ad7;rw[h1,h2,h3,h4,hl];congr 1
 apply List.ext_getElem?
 intro i;rw[List.getElem?_map];rcases Nat.lt_or_ge i sl.length with hi|hi
 ·rw[List.getElem?_range hi]
  obtain⟨e1,e2⟩:=h.sl i sl[i] (aqt hi);rw[aqt hi];simp only[Option.map_some,ad6,e1,e2]
 ·rw[List.getElem?_eq_none (by simpa using hi),List.getElem?_eq_none hi];rfl
section
variable {K:aK}{W:World}{REST:List aB}{c1 c2:aP}{ρ:Nat->Option Value}{v10 v11:Value}
end
section
variable {K:aK}{w:World}{F:List aB}{bm bc acc:Nat}{L:List aP}{d:aR}{id:Int}
end
structure VAt (w:World)(g:Nat)(L:List aP):Prop where
 lt:g<w.heap.size
 len:L.length<=1000000
 cell:∀ (i:Nat) (c:aP),L[i]?=some c->w.cell? ⟨g,i*3,none⟩=some (.int .u64 c.n)/\w.cell? ⟨g,i*3+1,none⟩=some (.string c.k)/\w.cell? ⟨g,i*3+2,none⟩=some (.int .u64 c.m)
theorem VAt.same {w w':World}{g:Nat}{L:List aP}(h:VAt w g L)(hb:Below w.heap.size w w'):VAt w' g L:=
 ⟨Nat.lt_of_lt_of_le h.lt hb.size,h.len,fun i c hc=>by
  have:=h.cell i c hc;rw[hb.cell (p:=⟨g,_,none⟩) h.lt,hb.cell (p:=⟨g,_,none⟩) h.lt,hb.cell (p:=⟨g,_,none⟩) h.lt];exact this⟩
theorem yG (tmps:Array Value)(w:World)(b:Nat)(v0 v1 v2:Value)(hp:tmps[4]?=some (.pointer (some ⟨b,0,none⟩)))(hk:∀ k,w.cell? ⟨b,k,none⟩=(#[v0,v1,v2]:Array Value)[k]?) :
  (results Tryz.f83 tmps).run Tryz.prog w=.ok (.agg #[v0,v1,v2]) w:=by
 simp[results,Tryz.results83,go_sem,hp,hk]
section
variable {d:aR}{g:Nat}{L:List aP}
theorem gu (i:Int)(w:World)(hv:VAt w g L) :
  Calls Tryz.prog 83 #[.agg #[.int .i64 (d).th,.int .i64 (d).sn,.int .i64 (d).no,.int .i64 (d).ch,.int .i64 (d).re,.int .i64 (d).fa,.int .u64 (d).cl,.slice (some ⟨g,0,none⟩) L.length L.length],.int .i64 i] w fun e w' => e=.returned (.agg #[.int .u64 (ah L i).n,.string (ah L i).k,.int .u64 (ah L i).m])/\Below w.heap.size w w' := by
 have hs:=(St.start w).made (.cells #[.int .i64 (d).th,.int .i64 (d).sn,.int .i64 (d).no,.int .i64 (d).ch,.int .i64 (d).re,.int .i64 (d).fa,.int .u64 (d).cl,.slice (some ⟨g,0,none⟩) L.length L.length] 52);have hl:=hv.len;obtain⟨n,hn⟩:∃ n,n=L.length:=⟨_,rfl⟩;by_cases h0:i<0
 ·have e:ah L i=aP.zero:=pW h0
  rw[e];show Calls Tryz.prog 83 #[.agg #[.int .i64 (d).th,.int .i64 (d).sn,.int .i64 (d).no,.int .i64 (d).ch,.int .i64 (d).re,.int .i64 (d).fa,.int .u64 (d).cl,.slice (some ⟨g,0,none⟩) L.length L.length],.int .i64 i] w fun e w' => e=.returned (.agg #[.int .u64 0,.string ⟨#[]⟩,.int .u64 0])/\Below w.heap.size w w'
  rw[← hn]at hs hl ⊢;clear e hn hv;have hs:=hs.made (.cells #[.int .u64 0,.string ⟨#[]⟩,.int .u64 0] 63);simp only[World.size_alloc]at hs;go_enter Tryz.func83,Tryz.ntmps83
  go_wp2
  refine bodyPost_ret (yG _ _ (w.heap.size+1) _ _ _ rfl hs.k0) rfl ⟨rfl,hs.below (aK.Le.refl _)⟩
 ·by_cases h1:i<n
  ·obtain⟨k,rfl⟩:∃ k:Nat,i=k:=⟨i.toNat,by omega⟩
   obtain⟨c,hc⟩:∃ c,L[k]?=some c:=⟨_,aqt (by omega)⟩
   have e:ah L k=c:=by unfold ah;rw[if_pos (by omega),show(k:Int).toNat=k by omega,hc];rfl
   rw[e];obtain⟨c0,c1,c2⟩:=hv.cell k c hc;have hlt:=hv.lt;rw[← hn]at hs hl ⊢;clear e hn hv hc;have hs:=hs.made (.cells #[.int .u64 c.n,.string c.k,.int .u64 c.m] 63);simp only[World.size_alloc]at hs;go_enter Tryz.func83,Tryz.ntmps83
   go_wp2
   refine bodyPost_ret (yG _ _ (w.heap.size+1) _ _ _ rfl hs.k0) rfl ⟨rfl,hs.below (aK.Le.refl _)⟩
  ·have e:ah L i=aP.zero:=by
    unfold ah;rw[if_pos (by omega),List.getElem?_eq_none (by omega)];rfl
   rw[e];show Calls Tryz.prog 83 #[.agg #[.int .i64 (d).th,.int .i64 (d).sn,.int .i64 (d).no,.int .i64 (d).ch,.int .i64 (d).re,.int .i64 (d).fa,.int .u64 (d).cl,.slice (some ⟨g,0,none⟩) L.length L.length],.int .i64 i] w fun e w' => e=.returned (.agg #[.int .u64 0,.string ⟨#[]⟩,.int .u64 0])/\Below w.heap.size w w'
   rw[← hn]at hs hl ⊢;clear e hn hv;have hs:=hs.made (.cells #[.int .u64 0,.string ⟨#[]⟩,.int .u64 0] 63);simp only[World.size_alloc]at hs;go_enter Tryz.func83,Tryz.ntmps83
   go_wp2
   refine bodyPost_ret (yG _ _ (w.heap.size+1) _ _ _ rfl hs.k0) rfl ⟨rfl,hs.below (aK.Le.refl _)⟩
theorem Na (tmps:Array Value)(w:World)(b:Nat)(v0 v1 v2:Value)(hp:tmps[6]?=some (.pointer (some ⟨b,0,none⟩)))(hk:∀ k,w.cell? ⟨b,k,none⟩=(#[v0,v1,v2]:Array Value)[k]?) :
  (results Tryz.f87 tmps).run Tryz.prog w=.ok (.agg #[v0,v1,v2]) w:=by
 simp[results,Tryz.results87,go_sem,hp,hk]
theorem lZ (hd:d.Ok)(id k:Int)(hid:0<=id/\id<18446744073709551616)(hk:0<=k/\k<d.fa+4)(w:World)(hv:VAt w g L) :
  Calls Tryz.prog 87 #[.agg #[.int .i64 (d).th,.int .i64 (d).sn,.int .i64 (d).no,.int .i64 (d).ch,.int .i64 (d).re,.int .i64 (d).fa,.int .u64 (d).cl,.slice (some ⟨g,0,none⟩) L.length L.length],.int .u64 id,.int .i64 k] w fun e w' => e=.returned (.agg #[.int .u64 (ah L (d.node id k)).n,.string (ah L (d.node id k)).k,.int .u64 (ah L (d.node id k)).m])/\Below w.heap.size w w' := by
 have hs:=(St.start w).made (.cells #[.int .i64 (d).th,.int .i64 (d).sn,.int .i64 (d).no,.int .i64 (d).ch,.int .i64 (d).re,.int .i64 (d).fa,.int .u64 (d).cl,.slice (some ⟨g,0,none⟩) L.length L.length] 52);have hs:=hs.made (.cells #[.int .u64 0,.string ⟨#[]⟩,.int .u64 0] 63);simp only[World.size_alloc]at hs;have Q1:=aqo (fun w=>mX d hd id k hid.1 hid.2 hk.1 hk.2 w)
 have Q2:=aqo (fun W (hb:Below w.heap.size w W)=>gu (d:=d) (d.node id k) W (hv.same hb))
 generalize ah L (d.node id k)=c at *;generalize L.length=n at *;clear hv;go_enter Tryz.func87,Tryz.ntmps87
 go_upto_region 1 with(fail)
 have k1:=hs.k1;have hb0:=hs.below (aK.Le.refl _);have Hb0:=aqo hb0;clear hb0;refine bO 7 (by kernel_rfl) (by as_aux_lemma=>kernel_rfl) ?_
 have Qy:=aqo (fun wz (hy:∃ x:Ext,wz=over ((w.alloc (.cells #[.int .i64 (d).th,.int .i64 (d).sn,.int .i64 (d).no,.int .i64 (d).ch,.int .i64 (d).re,.int .i64 (d).fa,.int .u64 (d).cl,.slice (some ⟨g,0,none⟩) n n] 52)).alloc (.cells #[.int .u64 0,.string ⟨#[]⟩,.int .u64 0] 63)) x)=>Q2.out wz (Hb0.out.trans ((Pure.below hy).mono Hb0.out.size)))
 simp only[List.take_succ_cons,List.take_zero,List.drop_succ_cons,List.drop_zero];repeat (go_big_quiet_step (first|(go_at_call 21;exact aW (Q1.out _))|(go_at_call 83;exact aW (Qy.out _ ⟨_,rfl⟩))))
 refine wpQuiet_nil ?_
 intro w3 hb3;have hs:=hs.same hb3;clear k1 hb3;have f0:=hs.f0;have k0:=hs.k0;have hs:=((hs.aI 0 (.int .u64 c.n)).aI 1 (.string c.k)).aI 2 (.int .u64 c.m);simp only[List.set_cons_zero,List.set_cons_succ]at hs;go_wp2
 refine bodyPost_ret (Na _ _ (w.heap.size+1) _ _ _ rfl hs.k0) rfl ⟨rfl,hs.below (aK.Le.refl _)⟩
end
theorem Nb (tmps:Array Value)(w:World)(b:Nat)(v0 v1 v2 v3 v4:Value)(hp:tmps[4]?=some (.pointer (some ⟨b,0,none⟩)))(hk:∀ k,w.cell? ⟨b,k,none⟩=(#[v0,v1,v2,v3,v4]:Array Value)[k]?) :
  (results Tryz.f28 tmps).run Tryz.prog w=.ok (.agg #[v0,v1,v2,v3,v4]) w:=by
 simp[results,Tryz.results28,go_sem,hp,hk]
theorem St.row_eq {K:aK}{w:World}{F:List aB}{v:Value}{T:TypeId}{size n:Nat}{xs ys:List Value}(h:St K w (ak v T size n xs::F))(e:xs=ys):St K w (ak v T size n ys::F):=by subst e;exact h
section
variable {K:aK}{w:World}{F:List aB}{d:aR}{g:Nat}{L:List aP}{id:Int}{pg:Pg}
theorem kK {W:World}{cs:List aB}(hg:K.map g=some (.cells (flat L).toArray 63))(hl:L.length<=1000000)(hs:St K W cs):VAt W g L:=by
 have hk:=hs.jM g _ hg;refine⟨gY hk,hl,fun i c hc=>?_⟩
 obtain⟨r0,r1,r2⟩:=sJ L i c hc;have k:=bu hk;exact⟨by rw[k];simpa using r0,by rw[k];simpa using r1,by rw[k];simpa using r2⟩
theorem fC (hd:d.Ok)(h1:1<=id)(h2:id<=d.no)(hp:eA d id L pg)(hg:K.map g=some (.cells (flat L).toArray 63))(hl:L.length<=1000000)(hs:St K w F) :
  Calls Tryz.prog 28 #[.agg #[.int .i64 (d).th,.int .i64 (d).sn,.int .i64 (d).no,.int .i64 (d).ch,.int .i64 (d).re,.int .i64 (d).fa,.int .u64 (d).cl,.slice (some ⟨g,0,none⟩) L.length L.length],.int .u64 id] w fun e w' => ∃ va,e=.returned (.agg #[.int .i64 (pg).az,va,.string (pg).hi,.bool (pg).la,.int .u64 (pg).ri])/\St K w' (ak va 69 2 pg.sl.length (aD pg.sl)::F):=by
 have f1:=hd.fw;have f2:=hd.mV;have hno:=hd.mM;have hid:0<=id/\id<18446744073709551616:=by omega
 have hpos:=(bU hd h1 h2 (k:=0) (by omega) (by omega)).2.1
 have hle:=hp.le;obtain⟨n,hn⟩:∃ n,n=pg.sl.length:=⟨_,rfl⟩;obtain⟨nl,hnl⟩:∃ nl,nl=L.length:=⟨_,rfl⟩;obtain⟨c1,hc1⟩:∃ c,c=ah L (d.node id 1):=⟨_,rfl⟩;obtain⟨cf,hcf⟩:∃ cf:Int->aP,cf=fun k=>ah L (d.node id k):=⟨_,rfl⟩
 have hc2:cf 2=ah L (d.node id 2):=by rw[hcf]
 have hc3:cf 3=ah L (d.node id 3):=by rw[hcf]
 have mO:pg=⟨wrap64 c1.m,pg.sl,(cf 2).k,((cf 2).m == 1),(cf 3).n⟩:=by
  obtain⟨az,sl,hi,la,ri⟩:=pg;have e1:=hp.az;have e2:=hp.hi;have e3:=hp.la;have e4:=hp.ri;rw[← hc1]at e1;rw[← hc2]at e2 e3;rw[← hc3]at e4;simp only at e1 e2 e3 e4 ⊢;rw[e1,e2,e4,← e3];rfl
 have hn1:c1.n=n:=by rw[hc1,hn];exact hp.n
 have hw:∀ k:Int,0<=k->k<d.fa+4->∀ W cs,St K W cs->Calls Tryz.prog 87 #[.agg #[.int .i64 (d).th,.int .i64 (d).sn,.int .i64 (d).no,.int .i64 (d).ch,.int .i64 (d).re,.int .i64 (d).fa,.int .u64 (d).cl,.slice (some ⟨g,0,none⟩) nl nl],.int .u64 id,.int .i64 k] W fun e w' => e=.returned (.agg #[.int .u64 (ah L (d.node id k)).n,.string (ah L (d.node id k)).k,.int .u64 (ah L (d.node id k)).m])/\Below W.heap.size W w' := fun k k0 k1 W cs h=>by
  rw[hnl];exact lZ hd id k hid ⟨k0,k1⟩ W (kK hg hl h)
 have q1:=fun W cs h=>hw 1 (by omega) (by omega) W cs h
 have q2:∀ k:Int,2<=k->k<=3->∀ W cs,St K W cs->Calls Tryz.prog 87 #[.agg #[.int .i64 (d).th,.int .i64 (d).sn,.int .i64 (d).no,.int .i64 (d).ch,.int .i64 (d).re,.int .i64 (d).fa,.int .u64 (d).cl,.slice (some ⟨g,0,none⟩) nl nl],.int .u64 id,.int .i64 k] W fun e w' => e=.returned (.agg #[.int .u64 (cf k).n,.string (cf k).k,.int .u64 (cf k).m])/\Below W.heap.size W w' := fun k a b W cs h=>by rw[hcf];exact hw k (by omega) (by omega) W cs h
 have qs:∀ i:Nat,i<n->∃ s:Sl,∃ m:Int,pg.sl[i]?=some s/\∀ W cs,St K W cs->Calls Tryz.prog 87 #[.agg #[.int .i64 (d).th,.int .i64 (d).sn,.int .i64 (d).no,.int .i64 (d).ch,.int .i64 (d).re,.int .i64 (d).fa,.int .u64 (d).cl,.slice (some ⟨g,0,none⟩) nl nl],.int .u64 id,.int .i64 (4+(i:Int))] W fun e w' => e=.returned (.agg #[.int .u64 s.r,.string s.k,.int .u64 m])/\Below W.heap.size W w' := fun i hi=>by
  obtain⟨s,fj⟩:∃ s,pg.sl[i]?=some s:=⟨_,aqt (by omega)⟩
  obtain⟨e1,e2⟩:=hp.sl i s fj;have es:d.slot id i=d.node id (4+(i:Int)):=by
   unfold aR.slot;rw[if_pos ⟨by omega,by omega⟩]
  rw[es]at e1 e2;refine⟨s,(ah L (d.node id (4+(i:Int)))).m,fj,fun W cs h=>?_⟩
  have:=hw (4+(i:Int)) (by omega) (by omega) W cs h
  rw[e1,e2]at this;exact this
 have Qs:=aqo qs;rw[← hc1,hn1]at q1;have Q1:=aqo q1;have Q2:=aqo q2;have Ql:=aqo (fun w=>mX d hd id 0 hid.1 hid.2 (by omega) (by omega) w)
 have Hpg:=aqo mO;have Hn:=aqo hn;obtain⟨j0,hj0⟩:∃ j,j=d.node id 0:=⟨_,rfl⟩;rw[← hj0]at Ql hpos;rw[← hn]at hle ⊢;rw[← hnl];clear hw q1 q2 qs hc1 hc2 hc3 hcf hn1 mO hn hnl hj0 hp hg hl h1 h2 hno;obtain⟨i64,cZ,dc,dg,dh⟩:=info_parts gR;have lC:=aqo cZ;have lD:=aqo dc;have lF:=aqo dg;have lG:=aqo dh;clear cZ dc dg dh;have hs:=(hs.made (.cells #[.int .i64 (d).th,.int .i64 (d).sn,.int .i64 (d).no,.int .i64 (d).ch,.int .i64 (d).re,.int .i64 (d).fa,.int .u64 (d).cl,.slice (some ⟨g,0,none⟩) nl nl] 52)).made (.cells #[.int .i64 0,.slice none 0 0,.string ⟨#[]⟩,.bool false,.int .u64 0] 43);rw[World.size_alloc]at hs;have kv:=hs.k1;go_enter Tryz.func28,Tryz.ntmps28
 go_wp2_with fail
 refine(bE hs (Ql.out _)).mono ?_
 clear hs kv;generalize w.heap.size=b0;rintro e w1 ⟨rfl,hs⟩;have kv:=hs.k1;go_wp2_with fail
 refine(bE hs (Q1.out _ _ hs)).mono ?_
 clear hs kv;rintro e w2 ⟨rfl,hs⟩;have hs:=hs.made (.cells #[.int .u64 n,.string c1.k,.int .u64 c1.m] 63);obtain⟨b5,hb5⟩:∃ b,b=w2.heap.size:=⟨_,rfl⟩;go_upto_region 4 with(fail)
 rw[← hb5]at hs ⊢;clear hb5;have Hs:=aqo hs;clear hs;refine fZ [false,false,false,false,false,false,false,false,false,false,false,false,false,false,false,false,false,true,true] 17 18
  (fun W=>St K W (blk b5 (.cells #[.int .u64 n,.string c1.k,.int .u64 c1.m] 63)::blk (b0+1) (.cells #[.int .i64 0,.slice none 0 0,.string ⟨#[]⟩,.bool false,.int .u64 0] 43)::blk b0 (.cells #[.int .i64 (d).th,.int .i64 (d).sn,.int .i64 (d).no,.int .i64 (d).ch,.int .i64 (d).re,.int .i64 (d).fa,.int .u64 (d).cl,.slice (some ⟨g,0,none⟩) nl nl] 52)::F))
  (fun v W=>∃ b6:Nat,v=(.pointer (some ⟨b6,0,none⟩))/\St K W (blk b6 (.cells #[.int .i64 0,.slice none 0 0,.string ⟨#[]⟩,.bool false,.int .u64 0] 43)::blk b5 (.cells #[.int .u64 n,.string c1.k,.int .u64 c1.m] 63)::blk (b0+1) (.cells #[.int .i64 0,.slice none 0 0,.string ⟨#[]⟩,.bool false,.int .u64 0] 43)::blk b0 (.cells #[.int .i64 (d).th,.int .i64 (d).sn,.int .i64 (d).no,.int .i64 (d).ch,.int .i64 (d).re,.int .i64 (d).fa,.int .u64 (d).cl,.slice (some ⟨g,0,none⟩) nl nl] 52)::F))
  (fun v u W=>u=undef/\∃ b6:Nat,v=(.pointer (some ⟨b6,0,none⟩))/\St K W (blk b6 (.cells #[.int .i64 (wrap64 c1.m),.slice none 0 0,.string (cf 2).k,.bool ((cf 2).m == 1),.int .u64 (cf 3).n] 43)::blk b5 (.cells #[.int .u64 n,.string c1.k,.int .u64 c1.m] 63)::blk (b0+1) (.cells #[.int .i64 0,.slice none 0 0,.string ⟨#[]⟩,.bool false,.int .u64 0] 43)::blk b0 (.cells #[.int .i64 (d).th,.int .i64 (d).sn,.int .i64 (d).no,.int .i64 (d).ch,.int .i64 (d).re,.int .i64 (d).fa,.int .u64 (d).cl,.slice (some ⟨g,0,none⟩) nl nl] 52)::F))
  (fun W=>∃ cs,St K W (blk b5 (.cells #[.int .u64 n,.string c1.k,.int .u64 c1.m] 63)::blk (b0+1) (.cells #[.int .i64 0,.slice none 0 0,.string ⟨#[]⟩,.bool false,.int .u64 0] 43)::blk b0 (.cells #[.int .i64 (d).th,.int .i64 (d).sn,.int .i64 (d).no,.int .i64 (d).ch,.int .i64 (d).re,.int .i64 (d).fa,.int .u64 (d).cl,.slice (some ⟨g,0,none⟩) nl nl] 52)::cs)) ?aS (by decide) (by kernel_rfl) ?hB ?H ?iA Hs.out ?hI ?hR ?Ff ?vv ?hQ
 case hB=>as_aux_lemma=>kernel_rfl
 case H=>
  rintro W2 ⟨cs,hs⟩;have k5:=hs.k0;have kv:=hs.k2;have Q2y:=aqo (fun wz (hy:∃ x:Ext,wz=over W2 x) (k:Int) (ka:2<=k) (kb:k<=3)=>Q2.out k ka kb wz _ (hs.same (Pure.below hy)))
  clear hs;simp only[bK];repeat (go_big_quiet_step ((go_at_call 87;exact aW (Q2y.out _ ⟨_,rfl⟩ _ (by omega) (by omega)))))
  refine wpQuiet_nil ?_
  rfl
 case iA=>rfl
 case hI=>exact⟨fun W h=>⟨_,h⟩,fun v W ⟨_,_,h⟩=>⟨_,h.tail⟩,fun v u W ⟨_,_,_,h⟩=>⟨_,h.tail⟩⟩
 case hR=>exact⟨fun W W' h hb=>h.same hb,fun v W W' ⟨b,e,h⟩ hb=>⟨b,e,h.same hb⟩,fun v u W W' ⟨e0,b,e,h⟩ hb=>⟨e0,b,e,h.same hb⟩⟩
 case Ff=>
  intro qN o ho ρ W2 hs hk af aC;obtain rfl:=aqu ho;subst aC;have Hk:=aqo hk;clear hk;have hs:=hs.made (.cells #[.int .i64 0,.slice none 0 0,.string ⟨#[]⟩,.bool false,.int .u64 0] 43);go_wp2
  exact⟨rfl,_,rfl,Hk.out _ _ ⟨_,rfl,hs⟩⟩
 case vv=>
  rintro qN o ho ρ v W2 ⟨b6,rfl,hs⟩ hk af aC;obtain rfl:=aqu ho;have Hk:=aqo hk;clear hk;simp only[aL,List.getElem?_cons_succ,List.getElem?_cons_zero,Option.bind_some,Act.put,List.setIfInBounds_toArray,List.set_cons_zero,List.set_cons_succ]at aC;subst aC;have k0:=hs.k0;have f0:=hs.f0;have hs:=((((hs.aI 0 (.int .i64 (wrap64 c1.m))).aI 1 (.slice none 0 0)).aI 2 (.string (cf 2).k)).aI 3 (.bool ((cf 2).m == 1))).aI 4 (.int .u64 (cf 3).n);simp only[List.set_cons_zero,List.set_cons_succ]at hs;go_wp2
  exact⟨rfl,undef,rfl,Hk.out _ _ ⟨rfl,b6,rfl,hs⟩⟩
 case hQ=>
  rintro v u W2 ⟨rfl,b6,rfl,hs⟩;simp only[aL,Act.put,aqv];have hs:=hs.cD (T:=69) (size:=2);go_wp2
  go_loopw [7,8] (fun v7 _ wr=>∃ (i:Nat) (a:Option Addr) (co:Nat),v7=.int .i64 i/\i<=n/\St K wr (ak (.slice a i co) 69 2 i (aD (pg.sl.take i))::blk b6 (.cells #[.int .i64 (wrap64 c1.m),.slice a i co,.string (cf 2).k,.bool ((cf 2).m == 1),.int .u64 (cf 3).n] 43)::blk b5 (.cells #[.int .u64 n,.string c1.k,.int .u64 c1.m] 63)::blk (b0+1) (.cells #[.int .i64 0,.slice none 0 0,.string ⟨#[]⟩,.bool false,.int .u64 0] 43)::blk b0 (.cells #[.int .i64 (d).th,.int .i64 (d).sn,.int .i64 (d).no,.int .i64 (d).ch,.int .i64 (d).re,.int .i64 (d).fa,.int .u64 (d).cl,.slice (some ⟨g,0,none⟩) nl nl] 52)::F)) (fun v7 _ _=>n-(intOf v7).toNat)
  case atStart=>exact⟨0,none,0,rfl,by omega,hs⟩
  case round=>
   clear hs;obtain⟨i,a,co,rfl,hi,hs⟩:=hrel;by_cases hin:i<n
   ·obtain⟨s,m,fj,hq⟩:=Qs.out i hin
    have kp:=hs.k1;have k5:=hs.k2;have kv:=hs.b4.k0;have qC:=hq _ _ hs;have HQ:=aqo qC;have dX:pg.sl.take (i+1)=pg.sl.take i++[s]:=by rw[List.take_add_one,fj];rfl
    have iK:=aqo dX;have hif:(i:Int)<d.fa:=by omega
    clear hq qC fj dX;go_wp2_with fail
    refine(bE hs HQ.out).mono ?_
    clear hs kp k5 kv HQ;rintro e w4 ⟨rfl,hs⟩;have hs:=hs.made (.cells #[.int .u64 s.r,.string s.k,.int .u64 m] 63);go_upto_region 9 with(fail)
    refine cR hs ?_
    generalize w4.heap.size=b8 at *;clear hs;intro W hs;have k8:=hs.k0;have kp:=hs.k2;have hs:=hs.b1;go_wp2_with (at_builtin;refine dB _ _ 41 69 _ i 2 24 _ (gW s) (.agg #[.string ⟨#[]⟩,.int .u64 0]) i64 hs rfl rfl Tryz.underlying41 lC.out lD.out lF.out lG.out rfl (by decide) rfl rfl rfl (fun u hu=>by simp[gW]at hu;rcases hu with rfl|rfl <;> rfl) (by omega) (by decide) ?_)
    clear hs k8 kp;intro v' w' hs;obtain⟨mJ,mK,hv,_,_⟩:=hs.aF;subst hv;have hs:=hs.bV.b1;have kp:=hs.k0;have fp:=hs.f0;have hs:=hs.aI 1 (.slice mJ (i+1) mK);simp only[List.set_cons_zero,List.set_cons_succ]at hs;go_wp2
    go_roundw
    case rel=>exact⟨i+1,mJ,mK,by go_num,by omega,by rw[iK.out];unfold aD;rw[List.flatMap_append];exact(show St K _ (ak _ _ _ _ (aD (pg.sl.take i)++gW s)::_)from hs.b1).row_eq (by simp[aD])⟩
    case measure=>simp[intOf];omega
   ·obtain rfl:i=n:=by omega
    rw[List.take_of_length_le (by rw[← Hn.out];exact Nat.le_refl _)]at hs
    have k5:=hs.k2;have kp:=hs.k1;have hs:=hs.b3;have k4:=hs.k0;have f4:=hs.f0;have hs:=((((hs.aI 0 (.int .i64 (wrap64 c1.m))).aI 1 (.slice a i co)).aI 2 (.string (cf 2).k)).aI 3 (.bool ((cf 2).m == 1))).aI 4 (.int .u64 (cf 3).n);simp only[List.set_cons_zero,List.set_cons_succ]at hs;have hif:¬ (i:Int)<i:=by omega
    go_wp2
    refine bodyPost_ret (Nb _ _ (b0+1) _ _ _ _ _ rfl hs.k0) rfl ⟨_,by rw[Hpg.out],?_⟩
    exact(hs.re [1,0,2,3,4] rfl).bV.bV.bV.bV
end
section
variable {K:aK}{w:World}{F:List aB}{d:aR}{g:Nat}{L:List aP}
theorem nM (hd:d.Ok)(id:Int)(hid:0<=id/\id<18446744073709551616)(hg:K.map g=some (.cells (flat L).toArray 63))(hl:L.length<=1000000)(hs:St K w F) :
  Calls Tryz.prog 82 #[.agg #[.int .i64 (d).th,.int .i64 (d).sn,.int .i64 (d).no,.int .i64 (d).ch,.int .i64 (d).re,.int .i64 (d).fa,.int .u64 (d).cl,.slice (some ⟨g,0,none⟩) L.length L.length],.int .u64 id] w fun e w' => e=.returned (.bool (decide (1<=id/\id<=d.no/\id<=(ah L 4).n)))/\St K w' F:=by
 have Wv:=hd.Iw;have iY:=hd.mM;have hs:=hs.made (.cells #[.int .i64 (d).th,.int .i64 (d).sn,.int .i64 (d).no,.int .i64 (d).ch,.int .i64 (d).re,.int .i64 (d).fa,.int .u64 (d).cl,.slice (some ⟨g,0,none⟩) L.length L.length] 52);have Q:=aqo (fun W cs (h:St K W cs)=>gu (d:=d) 4 W (kK hg hl h))
 generalize L.length=n at *;generalize ah L 4=c at *;have k:=hs.k0;by_cases h1:1<=id
 ·by_cases h2:id<=d.no
  ·rw[show decide (1<=id/\id<=d.no/\id<=c.n)=decide (id<=c.n)by simp[h1,h2]]
   go_enter Tryz.func82,Tryz.ntmps82
   go_wp2_with fail
   refine(bE hs (Q.out _ _ hs)).mono ?_
   clear hs k Q;rintro e w1 ⟨rfl,hs⟩;go_wp2
   go_ret;exact⟨rfl,hs.tail⟩
  ·rw[show decide (1<=id/\id<=d.no/\id<=c.n)=false by simp[h2]]
   go_enter Tryz.func82,Tryz.ntmps82
   go_wp2
   go_ret;exact⟨rfl,hs.tail⟩
 ·rw[show decide (1<=id/\id<=d.no/\id<=c.n)=false by simp[h1]]
  go_enter Tryz.func82,Tryz.ntmps82
  go_wp2
  go_ret;exact⟨rfl,hs.tail⟩
theorem Cl (w:World)(az ri:Int)(a:Option Addr)(n c:Nat)(hi:ByteArray)(la:Bool):(Instr.field 43 (.agg #[.int .i64 az,.slice a n c,.string hi,.bool la,.int .u64 ri]) 0).run Tryz.prog w=.ok (.int .i64 az) w:=rfl
theorem Cn (w:World)(az ri:Int)(a:Option Addr)(n c:Nat)(hi:ByteArray)(la:Bool):(Instr.field 43 (.agg #[.int .i64 az,.slice a n c,.string hi,.bool la,.int .u64 ri]) 2).run Tryz.prog w=.ok (.string hi) w:=rfl
theorem yH (w:World)(az ri:Int)(a:Option Addr)(n c:Nat)(hi:ByteArray)(la:Bool):(Instr.field 43 (.agg #[.int .i64 az,.slice a n c,.string hi,.bool la,.int .u64 ri]) 4).run Tryz.prog w=.ok (.int .u64 ri) w:=rfl
attribute [go_sem] Cl Cn yH
def HtR (K:aK)(pg:Pg)(REST:List aB)(ρ:Nat->Option Value)(W:World):Prop:=
 St K W REST/\(∀ v,ρ 4=some v->∃ (a:Option Addr) (c:Nat),v=.agg #[.int .i64 pg.az,.slice a pg.sl.length c,.string pg.hi,.bool pg.la,.int .u64 pg.ri])/\(∀ v,ρ 5=some v->v=.int .i64 pg.az)/\(∀ v,ρ 6=some v->v=.int .i64 (pg.az+1))/\(∀ v,ρ 7=some v->v=.int .i64 (pg.az+1))
theorem vI {pg:Pg}(hd:d.Ok)(h1:1<=(ah L 0).n)(h2:(ah L 0).n<=d.no)(hp:eA d (ah L 0).n L pg)(cg:0<=pg.az/\pg.az<1000000)(hg:K.map g=some (.cells (flat L).toArray 63))(hl:L.length<=1000000)(hs:St K w F) :
  Calls Tryz.prog 26 #[.agg #[.int .i64 (d).th,.int .i64 (d).sn,.int .i64 (d).no,.int .i64 (d).ch,.int .i64 (d).re,.int .i64 (d).fa,.int .u64 (d).cl,.slice (some ⟨g,0,none⟩) L.length L.length]] w fun e w' => e=.returned (.int .i64 (pg.az+1))/\St K w' F:=by
 have hs:=hs.made (.cells #[.int .i64 (d).th,.int .i64 (d).sn,.int .i64 (d).no,.int .i64 (d).ch,.int .i64 (d).re,.int .i64 (d).fa,.int .u64 (d).cl,.slice (some ⟨g,0,none⟩) L.length L.length] 52);have Q:=aqo (fun W cs (h:St K W cs)=>gu (d:=d) 0 W (kK hg hl h))
 have Q2:=aqo (fun W cs (h:St K W cs)=>fC hd h1 h2 hp hg hl h)
 generalize L.length=n at *;generalize ah L 0=c at *;go_enter Tryz.func26,Tryz.ntmps26
 go_upto_region 1 with(fail)
 have Hs:=aqo hs;clear hs;refine aT [false,false,false,false,true,true,true,true] [4,5,6,7] (fun|5=>[4] | 6=>[5] | 7=>[6] | _=>[])
  (HtR K pg (blk w.heap.size (.cells #[.int .i64 (d).th,.int .i64 (d).sn,.int .i64 (d).no,.int .i64 (d).ch,.int .i64 (d).re,.int .i64 (d).fa,.int .u64 (d).cl,.slice (some ⟨g,0,none⟩) n n] 52)::F))
  (fun W=>St K W (blk w.heap.size (.cells #[.int .i64 (d).th,.int .i64 (d).sn,.int .i64 (d).no,.int .i64 (d).ch,.int .i64 (d).re,.int .i64 (d).fa,.int .u64 (d).cl,.slice (some ⟨g,0,none⟩) n n] 52)::F)) ?aS (by kernel_rfl) ?hB ?H ?iA ?h0 ?hI ?hR ?hE ?hQ
 case hB=>as_aux_lemma=>kernel_rfl
 case H=>
  intro W2 hs;have kv:=hs.k0;have Qy:=aqo (fun wz (hy:∃ x:Ext,wz=over W2 x)=>Q.out wz _ (hs.same (Pure.below hy)))
  clear hs;simp only[bK];repeat (go_big_quiet_step ((go_at_call 83;exact aW (Qy.out _ ⟨_,rfl⟩))))
  refine wpQuiet_nil ?_
  rfl
 case iA=>rfl
 case h0=>exact⟨Hs.out,fun v h=>(by cases h),fun v h=>(by cases h),fun v h=>(by cases h),fun v h=>(by cases h)⟩
 case hI=>exact fun ρ W2 h=>h.1
 case hR=>exact fun ρ W2 W3 h hb=>⟨h.1.same hb,h.2⟩
 case hE=>
  refine⟨?e4,?e5,?e6,?e7,trivial⟩;case e4=>
   intro o ho ρ W2 h hcl h4 hd2 af aC;obtain rfl:=aqu ho;replace aC:af=aj _ ρ [] _:=aC;simp only[aj]at aC;subst aC;obtain⟨hs,q4,q5,q6,q7⟩:=h;have H5:=aqo q5;have H6:=aqo q6;have H7:=aqo q7;clear q4 q5 q6 q7 hcl hd2;go_wp2_with fail
   refine(Q2.out _ _ hs).mono ?_
   rintro e W3 ⟨va,rfl,hs'⟩;obtain⟨a,c,rfl,_,_⟩:=hs'.aF;go_wp2
   refine⟨rfl,_,rfl,hs'.tail,fun v h=>⟨a,c,by simpa[upd] using h.symm⟩,fun v h=>H5.out v (by simpa[upd] using h),fun v h=>H6.out v (by simpa[upd] using h),fun v h=>H7.out v (by simpa[upd] using h)⟩
  case e5=>
   intro o ho ρ W2 h hcl h5 hd2 af aC;obtain rfl:=aqu ho;replace aC:af=aj _ ρ [4] _:=aC;obtain⟨v4,h4⟩:=aqr.1 (hd2 4 (by show _∈[4];simp))
   obtain⟨hs,q4,q5,q6,q7⟩:=h;obtain⟨a,c,rfl⟩:=q4 v4 h4;simp only[aj,h4,Option.getD_some,aL,Act.put,aqv]at aC;subst aC;have H4:=aqo q4;have H6:=aqo q6;have H7:=aqo q7;have Dz:=aqo hs;clear q4 q5 q6 q7 hcl hd2 h4 hs;go_wp2
   refine⟨rfl,_,rfl,Dz.out,fun v h=>H4.out v (by simpa[upd] using h),fun v h=>by simpa[upd] using h.symm,fun v h=>H6.out v (by simpa[upd] using h),fun v h=>H7.out v (by simpa[upd] using h)⟩
  case e6=>
   intro o ho ρ W2 h hcl h6 hd2 af aC;obtain rfl:=aqu ho;replace aC:af=aj _ ρ [5] _:=aC;obtain⟨v5,h5⟩:=aqr.1 (hd2 5 (by show _∈[5];simp))
   obtain⟨hs,q4,q5,q6,q7⟩:=h;obtain rfl:=q5 v5 h5;simp only[aj,h5,Option.getD_some,aL,Act.put,aqv]at aC;subst aC;have H4:=aqo q4;have H5:=aqo q5;have H7:=aqo q7;have Dz:=aqo hs;clear q4 q5 q6 q7 hcl hd2 h5 hs;go_wp2
   refine⟨rfl,_,rfl,Dz.out,fun v h=>H4.out v (by simpa[upd] using h),fun v h=>H5.out v (by simpa[upd] using h),fun v h=>by simpa[upd] using h.symm,fun v h=>H7.out v (by simpa[upd] using h)⟩
  case e7=>
   intro o ho ρ W2 h hcl h7 hd2 af aC;obtain rfl:=aqu ho;replace aC:af=aj _ ρ [6] _:=aC;obtain⟨v6,h6⟩:=aqr.1 (hd2 6 (by show _∈[6];simp))
   obtain⟨hs,q4,q5,q6,q7⟩:=h;obtain rfl:=q6 v6 h6;simp only[aj,h6,Option.getD_some,aL,Act.put,aqv]at aC;subst aC;have H4:=aqo q4;have H5:=aqo q5;have H6:=aqo q6;have Dz:=aqo hs;clear q4 q5 q6 q7 hcl hd2 h6 hs;go_wp2
   refine⟨rfl,_,rfl,Dz.out,fun v h=>H4.out v (by simpa[upd] using h),fun v h=>H5.out v (by simpa[upd] using h),fun v h=>H6.out v (by simpa[upd] using h),fun v h=>by simpa[upd] using h.symm⟩
 case hQ=>
  intro ρ W2 h hall;obtain⟨v4,h4⟩:=aqr.1 (hall 4 (by simp))
  obtain⟨v5,h5⟩:=aqr.1 (hall 5 (by simp))
  obtain⟨v6,h6⟩:=aqr.1 (hall 6 (by simp))
  obtain⟨v7,h7⟩:=aqr.1 (hall 7 (by simp))
  obtain⟨hs,q4,q5,q6,q7⟩:=h;obtain⟨a,c,rfl⟩:=q4 v4 h4;obtain rfl:=q5 v5 h5;obtain rfl:=q6 v6 h6;obtain rfl:=q7 v7 h7;simp only[aj,h4,h5,h6,h7,Option.getD_some,aL,Act.put,aqv];clear q4 q5 q6 q7 h4 h5 h6 h7 hall;go_wp2
  go_ret;exact⟨rfl,hs.tail⟩
theorem Nc (tmps:Array Value)(w:World)(b:Nat)(v0 v1 v2 v3 v4 v5 v6 v7:Value)(hp:tmps[4]?=some (.pointer (some ⟨b,0,none⟩)))(hk:∀ k,w.cell? ⟨b,k,none⟩=(#[v0,v1,v2,v3,v4,v5,v6,v7]:Array Value)[k]?) :
  (results Tryz.f23 tmps).run Tryz.prog w=.ok (.agg #[v0,v1,v2,v3,v4,v5,v6,v7]) w:=by
 simp[results,Tryz.results23,go_sem,hp,hk]
def KvR (K:aK)(d:aR)(L:List aP)(b:Nat)(REST:List aB)(ρ:Nat->Option Value)(W:World):Prop:=
 ∃ g:Nat,(∀ v,ρ 2=some v->v=.slice (some ⟨g,0,none⟩) L.length L.length)/\(∀ v,ρ 3=some v->v=.agg #[.int .i64 (d).th,.int .i64 (d).sn,.int .i64 (d).no,.int .i64 (d).ch,.int .i64 (d).re,.int .i64 (d).fa,.int .u64 (d).cl,.slice (some ⟨g,0,none⟩) L.length L.length])/\(∀ v,ρ 4=some v->(ρ 3).isSome=true) /\
  St K W (blk (b+1) (.cells (if (ρ 4).isSome then #[.int .i64 (d).th,.int .i64 (d).sn,.int .i64 (d).no,.int .i64 (d).ch,.int .i64 (d).re,.int .i64 (d).fa,.int .u64 (d).cl,.slice (some ⟨g,0,none⟩) L.length L.length]else #[.int .i64 0,.int .i64 0,.int .i64 0,.int .i64 0,.int .i64 0,.int .i64 0,.int .u64 0,.slice none 0 0]) 52)::dA (ρ 2) (blk g (.cells (flat L).toArray 63))::blk b (.cells #[.int .i64 (d).th,.int .i64 (d).sn,.int .i64 (d).no,.int .i64 (d).ch,.int .i64 (d).re,.int .i64 (d).fa,.int .u64 (d).cl] 26)::REST)
theorem uE {bm bc acc:Nat}(hs:St K w (aJ bm bc L acc::F)) :
  Calls Tryz.prog 23 #[.agg #[.int .i64 (d).th,.int .i64 (d).sn,.int .i64 (d).no,.int .i64 (d).ch,.int .i64 (d).re,.int .i64 (d).fa,.int .u64 (d).cl],(.pointer (some ⟨bm,0,none⟩))] w fun e w' => ∃ g,e=.returned (.agg #[.int .i64 (d).th,.int .i64 (d).sn,.int .i64 (d).no,.int .i64 (d).ch,.int .i64 (d).re,.int .i64 (d).fa,.int .u64 (d).cl,.slice (some ⟨g,0,none⟩) L.length L.length])/\K.Le (K.add g (.cells (flat L).toArray 63))/\(K.add g (.cells (flat L).toArray 63)).map g=some (.cells (flat L).toArray 63)/\St (K.add g (.cells (flat L).toArray 63)) w' (aJ bm bc L acc::F):=by
 have hs:=hs.made (.cells #[.int .i64 (d).th,.int .i64 (d).sn,.int .i64 (d).no,.int .i64 (d).ch,.int .i64 (d).re,.int .i64 (d).fa,.int .u64 (d).cl] 26);have hs:=hs.made (.cells #[.int .i64 0,.int .i64 0,.int .i64 0,.int .i64 0,.int .i64 0,.int .i64 0,.int .u64 0,.slice none 0 0] 52);simp only[World.size_alloc]at hs;go_enter Tryz.func23,Tryz.ntmps23
 go_upto_region 1 with(fail)
 have Hs:=aqo hs;clear hs;refine aT [false,false,true,true,true] [2,3,4] (fun|3=>[2] | 4=>[3] | _=>[])
  (KvR K d L w.heap.size (aJ bm bc L acc::F))
  (fun W=>∃ cs,St K W (blk w.heap.size (.cells #[.int .i64 (d).th,.int .i64 (d).sn,.int .i64 (d).no,.int .i64 (d).ch,.int .i64 (d).re,.int .i64 (d).fa,.int .u64 (d).cl] 26)::cs)) ?aS (by kernel_rfl) ?hB ?H ?iA ?h0 ?hI ?hR ?hE ?hQ
 case hB=>as_aux_lemma=>kernel_rfl
 case H=>
  rintro W2 ⟨cs,hs⟩;have kv:=hs.k0;clear hs;simp only[bK];repeat (go_big_quiet_step (fail))
  refine wpQuiet_nil ?_
  rfl
 case iA=>rfl
 case h0=>exact⟨0,fun v h=>(by cases h),fun v h=>(by cases h),fun v h=>(by cases h),(Hs.out.b1.empty.b2:St K _ (_::gK::_))⟩
 case hI=>exact fun ρ W2 ⟨g,_,_,_,hs⟩=>⟨_,hs.b2⟩
 case hR=>exact fun ρ W2 W3 ⟨g,a,b,c,hs⟩ hb=>⟨g,a,b,c,hs.same hb⟩
 case hE=>
  refine⟨?e2,?e3,?e4,trivial⟩;case e2=>
   intro o ho ρ W2 h hcl h2 hd2 af aC;obtain rfl:=aqu ho;replace aC:af=aj _ ρ [] _:=aC;have h3:ρ 3=none:=hcl.none (by simp) (show 2∈[2]by simp) h2
   have h4:ρ 4=none:=hcl.none (by simp) (show 3∈[3]by simp) h3
   simp only[aj]at aC;subst aC;obtain⟨g,q2,q3,q4,hs⟩:=h;rw[h2,h4]at hs;have hs:=(show St K W2 (_::gK::_::aJ bm bc L acc::F)from hs).bV.b2
   have H3:=aqo h3;have H4:=aqo h4;clear q2 q3 q4 hcl hd2 h2 h3 h4;go_wp2_with fail
   refine(Cj hs).mono ?_
   rintro e W3 ⟨g',rfl,hs'⟩;have dZ:=aqo hs';clear hs hs';go_wp2
   refine⟨rfl,_,rfl,g',fun v h=>by simpa[upd] using h.symm,fun v h=>?_,fun v h=>?_,?_⟩
   ·have:ρ 3=some v:=by simpa[upd] using h
    rw[H3.out]at this;cases this
   ·have:ρ 4=some v:=by simpa[upd] using h
    rw[H4.out]at this;cases this
   ·have e4:upd ρ 2 (.slice (some ⟨g',0,none⟩) L.length L.length) 4=none:=by simp[upd,H4.out]
    have e2:upd ρ 2 (.slice (some ⟨g',0,none⟩) L.length L.length) 2=some (.slice (some ⟨g',0,none⟩) L.length L.length):=by simp[upd]
    rw[e4,e2];exact dZ.out.re [2,0,3,1] rfl
  case e3=>
   intro o ho ρ W2 h hcl h3 hd2 af aC;obtain rfl:=aqu ho;replace aC:af=aj _ ρ [2] _:=aC;obtain⟨v2,h2⟩:=aqr.1 (hd2 2 (by show _∈[2];simp))
   have h4:ρ 4=none:=hcl.none (by simp) (show 3∈[3]by simp) h3
   obtain⟨g,q2,q3,q4,hs⟩:=h;obtain rfl:=q2 v2 h2;simp only[aj,h2,Option.getD_some,aL,Act.put,aqv]at aC;subst aC;have Hq2:=aqo q2;have H4:=aqo h4;have Dz:=aqo hs;clear q2 q3 q4 hcl hd2 h2 h3 h4 hs;go_wp2
   refine⟨rfl,_,rfl,g,fun v h=>Hq2.out v (by simpa[upd] using h),fun v h=>by simpa[upd] using h.symm,fun v h=>?_,by simpa[upd] using Dz.out⟩
   have:ρ 4=some v:=by simpa[upd] using h
   rw[H4.out]at this;cases this
  case e4=>
   intro o ho ρ W2 h hcl h4 hd2 af aC;obtain rfl:=aqu ho;replace aC:af=aj _ ρ [3] _:=aC;obtain⟨v3,h3⟩:=aqr.1 (hd2 3 (by show _∈[3];simp))
   obtain⟨g,q2,q3,q4,hs⟩:=h;obtain rfl:=q3 v3 h3;simp only[aj,h3,Option.getD_some,aL,Act.put,aqv]at aC;subst aC;rw[h4]at hs;have hs:St K W2 (blk (w.heap.size+1) (.cells #[.int .i64 0,.int .i64 0,.int .i64 0,.int .i64 0,.int .i64 0,.int .i64 0,.int .u64 0,.slice none 0 0] 52)::_):=hs;have k0:=hs.k0;have f0:=hs.f0;have hs:=(((((((hs.aI 0 (.int .i64 d.th)).aI 1 (.int .i64 d.sn)).aI 2 (.int .i64 d.no)).aI 3 (.int .i64 d.ch)).aI 4 (.int .i64 d.re)).aI 5 (.int .i64 d.fa)).aI 6 (.int .u64 d.cl)).aI 7 (.slice (some ⟨g,0,none⟩) L.length L.length);simp only[List.set_cons_zero,List.set_cons_succ]at hs;have Hq2:=aqo q2;have Hq3:=aqo q3;have H3:=aqo h3;have Dz:=aqo hs;clear q2 q3 q4 hcl hd2 h3 h4 hs;go_wp2
   refine⟨rfl,undef,rfl,g,fun v h=>Hq2.out v (by simpa[upd] using h),fun v h=>Hq3.out v (by simpa[upd] using h),fun v h=>by simp[upd,H3.out],by simpa[upd] using Dz.out⟩
 case hQ=>
  intro ρ W2 h hall;obtain⟨v2,h2⟩:=aqr.1 (hall 2 (by simp))
  obtain⟨v3,h3⟩:=aqr.1 (hall 3 (by simp))
  obtain⟨v4,h4⟩:=aqr.1 (hall 4 (by simp))
  obtain⟨g,q2,q3,q4,hs⟩:=h;rw[h2,h4]at hs;have hs:St K W2 (blk (w.heap.size+1) (.cells #[.int .i64 (d).th,.int .i64 (d).sn,.int .i64 (d).no,.int .i64 (d).ch,.int .i64 (d).re,.int .i64 (d).fa,.int .u64 (d).cl,.slice (some ⟨g,0,none⟩) L.length L.length] 52)::blk g (.cells (flat L).toArray 63)::_::aJ bm bc L acc::F):=hs;obtain rfl:=q2 v2 h2;obtain rfl:=q3 v3 h3;simp only[aj,h2,h3,h4,Option.getD_some,aL,Act.put,aqv];clear q2 q3 q4 h2 h3 h4 hall;obtain⟨z1,z2,z3⟩:=hs.b1.freeze;have Hz1:=aqo z1;have Hz2:=aqo z2;clear z1 z2;go_wp2
  refine bodyPost_ret (Nc _ _ (w.heap.size+1) _ _ _ _ _ _ _ _ rfl z3.k0) rfl ⟨g,rfl,Hz1.out,Hz2.out,z3.tail.tail⟩
end
end Go.Proofs.YtlpdhhhgckpcfaaGreat
