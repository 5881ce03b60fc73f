
/- The leaves that no slot of level 1 ab9 to: blinktreelaw14.tasks. -/
import Derived.Test.YtlpdhhhgckpcfaaGreatSound
import Derived.Test.YtlpdhhhgckpcfaaGreatSameV
import Derived.Test.YtlpdhhhgckpcfaaGreatTk
import Derived.Lib.MinMax
namespace Go.Proofs.YtlpdhhhgckpcfaaGreat
set_option maxHeartbeats 16000000
open Go.RowKit
set_option maxRecDepth 100000
theorem Uy:(Tryz.prog.info? 4).map (fun i=>(i.zero,i.size,i.bytes))=some (some (.bool false),1,1):=by kernel_rfl
theorem Uz:(Tryz.prog.info? 99).map (fun i=>(i.zero,i.size,i.bytes))=some (some (.agg #[.string ⟨#[]⟩,.int .u64 0]),2,24):=by kernel_rfl
section
variable {K:aK}{w:World}{F:List aB}{d:aR}{g:Nat}{L:List aP}{t:List (List Nd)}{l0 l1:List Nd}
theorem Va (hd:d.Ok)(ht:cA d L t)(h0:t[0]?=some l0)(h1:t[1]?.getD []=l1)(hg:K.map g=some (.cells (flat L).toArray 63))(hl:L.length<=1000000)(hs:St K w F) :
  Calls Tryz.prog 58 #[.agg #[.int .i64 (d).th,.int .i64 (d).sn,.int .i64 (d).no,.int .i64 (d).ch,.int .i64 (d).re,.int .i64 (d).fa,.int .u64 (d).cl,.slice (some ⟨g,0,none⟩) L.length L.length]] w fun e w' => ∃ v,e=.returned v/\St K w' (ak v 99 2 (fV l0 l1).length (fM (fV l0 l1))::F):=by
 have iY:=hd.mM;have Wv:=hd.Iw;have yB:=hd.mV;have Ub:=ht.ne;obtain⟨iv,cZ,dc,dg,dh⟩:=info_parts Uz;have lC:=aqo cZ;have lD:=aqo dc;have lF:=aqo dg;have lG:=aqo dh;clear cZ dc dg dh;have oy:l1=[]\/t[1]?=some l1:=by
  cases h:t[1]? with
  | none=>rw[h]at h1;exact .inl h1.symm
  | some x=>rw[h]at h1;exact .inr (by rw[← h1];rfl)
 have hn0:∀ nd,nd∈l0->sq d L nd:=ht.nodes 0 l0 h0;have hn1:∀ nd,nd∈l1->sq d L nd/\∀ x,x∈nd.pg.sl->1<=x.r/\x.r<=d.no:=fun nd hn=>by
  rcases oy with e|e
  ·rw[e]at hn;cases hn
  ·refine⟨ht.nodes 1 l1 e nd hn,fun x hx=>?_⟩
   obtain⟨c,hc,e1,_⟩:=(ht.down 0 l0 l1 h0 e nd hn).2 x hx;rw[← e1];exact(hn0 c hc).id
 have afo:l0.length<=4096:=by have:=List.cT h0;have:=ht.count;have:=ht.n4;omega
 have afp:l1.length<=4096:=by
  rcases oy with e|e
  ·rw[e];simp
  ·have:=List.cT e;have:=ht.count;have:=ht.n4;omega
 have Ql0:=aqo (fun W cs (h:St K W cs)=>iN (k:=0) hd ht (by omega) hg hl h)
 have Ql1:=aqo (fun W cs (h:St K W cs)=>iN (k:=1) hd ht (by omega) hg hl h)
 have Qp0:=aqo (fun(nd:Nd) (hn:nd∈l0) W cs (h:St K W cs)=>fC hd (hn0 nd hn).id.1 (hn0 nd hn).id.2 (hn0 nd hn).page hg hl h)
 have Qp1:=aqo (fun(nd:Nd) (hn:nd∈l1) W cs (h:St K W cs)=>fC hd (hn1 nd hn).1.id.1 (hn1 nd hn).1.id.2 (hn1 nd hn).1.page hg hl h)
 have aaf:gV t 0=l0.map (·.id):=by unfold gV;rw[h0]
 have aag:gV t 1=l1.map (·.id):=by
  unfold gV;rcases oy with e|e
  ·rw[e]at h1
   cases h:t[1]? with
   | none=>rw[e];rfl
   | some x=>rw[h]at h1;rw[e,show x=[]from h1]
  ·rw[e]
 rw[aaf,List.length_map]at Ql0;rw[aag,List.length_map]at Ql1;have hR:=(ht.rows 0 l0 h0);have HR:=aqo hR;have Hn0:=aqo hn0;have Hn1:=aqo hn1;have hs:=hs.made (.cells #[.int .i64 (d).th,.int .i64 (d).sn,.int .i64 (d).no,.int .i64 (d).ch,.int .i64 (d).re,.int .i64 (d).fa,.int .u64 (d).cl,.slice (some ⟨g,0,none⟩) L.length L.length] 52);obtain⟨bv,nN⟩:∃ bv,bv=w.heap.size:=⟨_,rfl⟩;obtain⟨m0,hm0⟩:∃ m,m=l0.length:=⟨_,rfl⟩;obtain⟨m1,hm1⟩:∃ m,m=l1.length:=⟨_,rfl⟩;obtain⟨N,hN⟩:∃ N:Nat,d.no=N:=⟨d.no.toNat,by omega⟩
 have Hm0:=aqo hm0;have Hm1:=aqo hm1;have HN:=aqo hN;rw[← hm0]at Ql0 afo;rw[← hm1]at Ql1 afp;obtain⟨ii,afq,afr,afs,afu⟩:=info_parts Uy;have hmk:=Vz 165 4 ii (.bool false) 1 Tryz.underlying165 afq afr afs afu rfl (by decide) (N+1) (by omega) (d.no+1) (by rw[hN];push_cast;rfl)
 generalize L.length=n at *;clear ht hg aaf aag hm0 hm1 h0 h1 Ub oy hn0 hn1 hR hN;go_enter Tryz.func58,Tryz.ntmps58
 have hs:=hs.made (.cells (Array.replicate (N+1) (.bool false)) 4);rw[World.size_alloc]at hs;rw[← nN]at hs;have hs:=hs.Ox (o' := .cells (jv (N+1) []).toArray 4) (by rw[← Nu];simp)
 have hs:=hs.lM (n:=N+1) (size:=1) (by rw[Un];omega) (by have:=HN.out;unfold maxLen;omega)
 have kv:=hs.b1.k0;go_upto_region 2 with(fail)
 rw[← nN];clear hmk afq afr afs afu;go_wp2_with fail
 refine(Ql1.out _ _ hs).mono ?_
 clear hs kv Ql1 nN;rintro e w1 ⟨va,rfl,hs⟩;obtain⟨a1,mj,rfl,_,_⟩:=hs.aF;have hs:=hs.b1;go_upto_region 3 with(fail)
 go_cut [5]from 5 to 5 (fun v wx=>v=.int .i64 0/\St K wx (ak (.slice (some ⟨bv+1,0,none⟩) (N+1) (N+1)) 4 1 (N+1) (jv (N+1) (refsOf (l1.take 0)))::ak (.slice a1 m1 mj) 23 1 m1 (aQ (l1.map (·.id)))::blk bv (.cells #[.int .i64 (d).th,.int .i64 (d).sn,.int .i64 (d).no,.int .i64 (d).ch,.int .i64 (d).re,.int .i64 (d).fa,.int .u64 (d).cl,.slice (some ⟨g,0,none⟩) n n] 52)::F))
 case first=>
  as_aux_lemma=>
  go_wp2
  go_meet;exact⟨rfl,hs⟩
 case rest=>
 clear hs;obtain⟨rfl,hs⟩:=hcut;apply_assumption
 go_cut [5,6,7]from 999 to 0 (fun _ _ _ wx=>∃ (a1:Option Addr),St K wx (ak (.slice (some ⟨bv+1,0,none⟩) (N+1) (N+1)) 4 1 (N+1) (jv (N+1) (refsOf l1))::ak (.slice a1 m1 mj) 23 1 m1 (aQ (l1.map (·.id)))::blk bv (.cells #[.int .i64 (d).th,.int .i64 (d).sn,.int .i64 (d).no,.int .i64 (d).ch,.int .i64 (d).re,.int .i64 (d).fa,.int .u64 (d).cl,.slice (some ⟨g,0,none⟩) n n] 52)::F))
 case first=>
  as_aux_lemma=>
  go_wp2
  go_loopw [5] (fun v5 wr=>∃ (i:Nat),v5=.int .i64 i/\i<=m1 /\
   St K wr (ak (.slice (some ⟨bv+1,0,none⟩) (N+1) (N+1)) 4 1 (N+1) (jv (N+1) (refsOf (l1.take i)))::ak (.slice a1 m1 mj) 23 1 m1 (aQ (l1.map (·.id)))::blk bv (.cells #[.int .i64 (d).th,.int .i64 (d).sn,.int .i64 (d).no,.int .i64 (d).ch,.int .i64 (d).re,.int .i64 (d).fa,.int .u64 (d).cl,.slice (some ⟨g,0,none⟩) n n] 52)::F)) (fun v5 _=>m1-(intOf v5).toNat)
  case atStart=>exact⟨0,rfl,by omega,hs⟩
  case round=>
   clear hs;obtain⟨i,rfl,hi,hs⟩:=hrel;by_cases him:i<m1
   ·obtain⟨nd,hnd⟩:∃ nd,l1[i]?=some nd:=⟨_,aqt (by have:=Hm1.out;omega)⟩
    have QN:=aqo (Qp1.out nd (aqs hnd));obtain⟨ga,Ns,_⟩:=(show St K wr (ak _ _ _ _ _::_)from hs.b1).cP (show(aQ (l1.map (·.id)))[i]?=some (.int .u64 nd.id)by simp[aQ,hnd])
    subst Ns;have Nj:=aqo hnd;have hq4:nd.pg.sl.length<=4096:=by have:=(Hn1.out nd (aqs hnd)).1.page.le;have:=yB;omega
    have hq5:=(Hn1.out nd (aqs hnd)).2;have Hq5:=aqo hq5;have uZ:=Dv hnd;have Hrf:=aqo uZ;generalize refsOf (l1.take i)=pF at *;clear hnd uZ hq5;go_upto_region 6 with(fail)
    have Hs:=aqo hs;clear hs;refine aT [false,false,false,false,false,true,true,true] [5,6,7] (fun|7=>[5,6] | _=>[])
     (sX K (ak (.slice (some ⟨bv+1,0,none⟩) (N+1) (N+1)) 4 1 (N+1) (jv (N+1) pF)::ak (.slice (some ⟨ga,0,none⟩) m1 mj) 23 1 m1 (aQ (l1.map (·.id)))::blk bv (.cells #[.int .i64 (d).th,.int .i64 (d).sn,.int .i64 (d).no,.int .i64 (d).ch,.int .i64 (d).re,.int .i64 (d).fa,.int .u64 (d).cl,.slice (some ⟨g,0,none⟩) n n] 52)::F) nd.pg)
     (fun W=>St K W (ak (.slice (some ⟨bv+1,0,none⟩) (N+1) (N+1)) 4 1 (N+1) (jv (N+1) pF)::ak (.slice (some ⟨ga,0,none⟩) m1 mj) 23 1 m1 (aQ (l1.map (·.id)))::blk bv (.cells #[.int .i64 (d).th,.int .i64 (d).sn,.int .i64 (d).no,.int .i64 (d).ch,.int .i64 (d).re,.int .i64 (d).fa,.int .u64 (d).cl,.slice (some ⟨g,0,none⟩) n n] 52)::F)) ?aSb (by kernel_rfl) ?hBb ?Hb ?Gg ?h0b ?hIb ?hRb ?hEb ?hQb
    case hBb=>as_aux_lemma=>kernel_rfl
    case Hb=>
     intro W2 hs;have kv:=hs.k2;have c0:=(show St K W2 (ak _ _ _ _ _::_)from hs.b1).bJ (show(aQ (l1.map (·.id)))[i]?=some (.int .u64 nd.id)by simp[aQ,Nj.out])
     clear hs;simp only[bK];repeat (go_big_quiet_step (fail))
     refine wpQuiet_nil ?_
     rfl
    case Gg=>rfl
    case h0b=>exact sX.start Hs.out
    case hIb=>exact fun ρ W2 h=>h.rest
    case hRb=>exact fun ρ W2 W3 h hb=>h.same hb
    case hEb=>
     refine⟨?e5b,?e6b,?e7b,trivial⟩;case e5b=>
      intro o ho ρ W2 h hcl h5 hd2 af aC;obtain rfl:=aqu ho;replace aC:af=aj _ ρ [] _:=aC;have h7:ρ 7=none:=hcl.none (by simp) (show 5∈[5,6]by simp) h5
      obtain⟨R',hs,hnext⟩:=h.e5 h5 h7;simp only[aj]at aC;subst aC;have Hn:=aqo hnext;clear hnext hcl hd2 h5 h7 h;go_wp2_with fail
      refine(QN.out _ _ hs).mono ?_
      rintro e W3 ⟨va3,rfl,hs'⟩;obtain⟨a3,c3,rfl,_,_⟩:=hs'.aF;have dZ:=aqo hs';clear hs hs';go_wp2
      exact⟨rfl,_,rfl,Hn.out _ _ W3 dZ.out⟩
     case e6b=>
      intro o ho ρ W2 h hcl h6 hd2 af aC;obtain rfl:=aqu ho;replace aC:af=aj _ ρ [] _:=aC;have h7:ρ 7=none:=hcl.none (by simp) (show 6∈[5,6]by simp) h6
      have Hn:=aqo (h.e6 h6 h7);simp only[aj]at aC;subst aC;clear hcl hd2 h6 h7 h;go_wp2
      exact⟨rfl,_,rfl,Hn.out⟩
     case e7b=>
      intro o ho ρ W2 h hcl h7 hd2 af aC;obtain rfl:=aqu ho;replace aC:af=aj _ ρ [5,6] _:=aC;obtain⟨v5,h5⟩:=aqr.1 (hd2 5 (by show _∈[5,6];simp))
      obtain⟨v6,h6⟩:=aqr.1 (hd2 6 (by show _∈[5,6];simp))
      obtain⟨a3,c3,b3,R',rfl,rfl,hs,hnext⟩:=h.e7 h5 h6 h7;simp only[aj,h5,h6,Option.getD_some,aL,Act.put,aqv]at aC;subst aC;have k0:=hs.k0;have f0:=hs.f0;have hs:=((((hs.aI 0 (.int .i64 nd.pg.az)).aI 1 (.slice a3 nd.pg.sl.length c3)).aI 2 (.string nd.pg.hi)).aI 3 (.bool nd.pg.la)).aI 4 (.int .u64 nd.pg.ri);have gh:=aqo hs;have Hn:=aqo hnext;clear hs hnext hcl hd2 h h5 h6 h7;go_wp2
      exact⟨rfl,undef,rfl,Hn.out _ gh.out⟩
    case hQb=>
     intro ρ W2 h hall;obtain⟨a3,c3,b3,h5,h6,⟨v7,h7⟩,hs⟩:=h.last hall;simp only[aj,h5,h6,h7,Option.getD_some,aL,Act.put,aqv];clear h hall h5 h6 h7;have hs:St K W2 (blk b3 (.cells #[.int .i64 (nd.pg).az,(.slice a3 nd.pg.sl.length c3),.string (nd.pg).hi,.bool (nd.pg).la,.int .u64 (nd.pg).ri] 43)::bq (.slice a3 nd.pg.sl.length c3) nd.pg::ak (.slice (some ⟨bv+1,0,none⟩) (N+1) (N+1)) 4 1 (N+1) (jv (N+1) pF)::ak (.slice (some ⟨ga,0,none⟩) m1 mj) 23 1 m1 (aQ (l1.map (·.id)))::blk bv (.cells #[.int .i64 (d).th,.int .i64 (d).sn,.int .i64 (d).no,.int .i64 (d).ch,.int .i64 (d).re,.int .i64 (d).fa,.int .u64 (d).cl,.slice (some ⟨g,0,none⟩) n n] 52)::F):=hs
     obtain⟨q,hq⟩:∃ q,q=nd.pg.sl.length:=⟨_,rfl⟩;have Hq:=aqo hq;rw[← hq]at hq4;have hs:St K W2 (blk b3 (.cells #[.int .i64 nd.pg.az,.slice a3 q c3,.string nd.pg.hi,.bool nd.pg.la,.int .u64 nd.pg.ri] 43)::ak (.slice a3 q c3) 69 2 q (aD nd.pg.sl)::ak (.slice (some ⟨bv+1,0,none⟩) (N+1) (N+1)) 4 1 (N+1) (jv (N+1) pF)::ak (.slice (some ⟨ga,0,none⟩) m1 mj) 23 1 m1 (aQ (l1.map (·.id)))::blk bv (.cells #[.int .i64 (d).th,.int .i64 (d).sn,.int .i64 (d).no,.int .i64 (d).ch,.int .i64 (d).re,.int .i64 (d).fa,.int .u64 (d).cl,.slice (some ⟨g,0,none⟩) n n] 52)::F):=by rw[hq];exact hs
     clear hq;go_upto_region 7 with(fail)
     go_wp2
     go_loopw [7] (fun v7 wr=>∃ (j:Nat),v7=.int .i64 j/\j<=q /\
      St K wr (blk b3 (.cells #[.int .i64 nd.pg.az,.slice a3 q c3,.string nd.pg.hi,.bool nd.pg.la,.int .u64 nd.pg.ri] 43)::ak (.slice a3 q c3) 69 2 q (aD nd.pg.sl)::ak (.slice (some ⟨bv+1,0,none⟩) (N+1) (N+1)) 4 1 (N+1) (jv (N+1) (pF++(nd.pg.sl.take j).map (·.r)))::ak (.slice (some ⟨ga,0,none⟩) m1 mj) 23 1 m1 (aQ (l1.map (·.id)))::blk bv (.cells #[.int .i64 (d).th,.int .i64 (d).sn,.int .i64 (d).no,.int .i64 (d).ch,.int .i64 (d).re,.int .i64 (d).fa,.int .u64 (d).cl,.slice (some ⟨g,0,none⟩) n n] 52)::F)) (fun v7 _=>q-(intOf v7).toNat)
     case atStart=>exact⟨0,rfl,by omega,by rw[List.take_zero,List.map_nil,List.append_nil];exact hs⟩
     case round=>
      clear hs;obtain⟨j,rfl,hj,hs⟩:=hrel;by_cases hjq:j<q
      ·obtain⟨x,hx⟩:∃ x,nd.pg.sl[j]?=some x:=⟨_,aqt (by have:=Hq.out;omega)⟩
       obtain⟨r0,r1⟩:=fX nd.pg.sl j x hx;obtain⟨g3,hg3,c0⟩:=(show St K wr (ak _ _ _ _ _::_)from hs.b1).cP r1
       subst hg3;have Jv:=Hq5.out x (aqs hx);obtain⟨y,hy⟩:∃ y:Nat,x.r=y:=⟨x.r.toNat,by omega⟩
       have hyN:y<N+1:=by have:=HN.out;omega
       have dX:pF++(nd.pg.sl.take (j+1)).map (·.r)=(pF++(nd.pg.sl.take j).map (·.r))++[(y:Int)]:=by rw[List.take_add_one,hx];simp[hy]
       have iK:=aqo dX;have kp:=hs.k0;have kv:=hs.tail.tail.tail.tail.k0;have hs2:=hs.b2;have hs2:St K wr (ak (.slice (some ⟨bv+1,0,none⟩) (N+1) (N+1)) 4 1 (N+1) (jv (N+1) (pF++(nd.pg.sl.take j).map (·.r)))::_):=hs2
       rw[hy]at c0;have hwr:IntKind.u64.wrap d.no=d.no:=by rw[IntKind.wrap_u64];omega
       have hmin:min (y:Int) d.no=y:=Int.min_eq_left (by have:=HN.out;omega)
       clear r0 r1 dX hx hs Jv hy;go_upto_region 10 with(fail)
       refine bO 13 (by kernel_rfl) (by as_aux_lemma=>kernel_rfl) ?_
       simp only[List.take_succ_cons,List.take_zero,List.drop_succ_cons,List.drop_zero];repeat (go_big_quiet_step (fail))
       refine wpQuiet_nil ?_
       intro w9 Yu;have hs2:=hs2.same Yu;have fz:=hs2.Uw (by omega)
       have cH:=hs2.bJ (Kn (pF++(nd.pg.sl.take j).map (·.r)) hyN)
       have Bb:=hs2.Yk (j:=y) (.bool true);rw[Uo]at Bb;clear hs2 c0 kp kv Yu;go_upto_region 9 with(fail)
       refine cR Bb ?_
       clear Bb fz cH hwr hmin;intro w3 hs;have hs:St K w3 (blk b3 (.cells #[.int .i64 nd.pg.az,.slice (some ⟨g3,0,none⟩) q c3,.string nd.pg.hi,.bool nd.pg.la,.int .u64 nd.pg.ri] 43)::ak (.slice (some ⟨g3,0,none⟩) q c3) 69 2 q (aD nd.pg.sl)::ak (.slice (some ⟨bv+1,0,none⟩) (N+1) (N+1)) 4 1 (N+1) (jv (N+1) (pF++(nd.pg.sl.take (j+1)).map (·.r)))::ak (.slice (some ⟨ga,0,none⟩) m1 mj) 23 1 m1 (aQ (l1.map (·.id)))::blk bv (.cells #[.int .i64 (d).th,.int .i64 (d).sn,.int .i64 (d).no,.int .i64 (d).ch,.int .i64 (d).re,.int .i64 (d).fa,.int .u64 (d).cl,.slice (some ⟨g,0,none⟩) n n] 52)::F):=by
        rw[iK.out];exact hs.u2
       go_wp2
       go_roundw
       case rel=>exact⟨j+1,by go_num,by omega,hs⟩
       case measure=>simp[intOf];omega
      ·obtain rfl:j=q:=by omega
       rw[show nd.pg.sl.take j=nd.pg.sl from List.take_of_length_le (by rw[← Hq.out];exact Nat.le_refl _),← Hrf.out]at hs
       have kp:=hs.k0;have hs2:=hs.tail.tail;clear hs;go_wp2
       go_roundw
       case rel=>exact⟨i+1,by go_num,by omega,hs2⟩
       case measure=>simp[intOf];omega
   ·obtain rfl:i=m1:=by omega
    rw[show l1.take i=l1 from List.take_of_length_le (by rw[← Hm1.out];exact Nat.le_refl _)]at hs
    go_wp2
    go_meet;exact⟨a1,hs⟩
 case rest=>
 clear hs;obtain⟨a1,hs⟩:=hcut;apply_assumption
 have hs:=hs.b1.tail;have hs:=hs.cD (T:=99) (size:=2);have kv:=hs.k2;go_upto_region 12 with(fail)
 go_wp2_with fail
 refine(Ql0.out _ _ hs).mono ?_
 clear hs kv Ql0;rintro e w2 ⟨va,rfl,hs⟩;obtain⟨a0,Im,rfl,_,_⟩:=hs.aF;have hs:=hs.b1;go_wp2
 go_loopw [8,10,11] (fun v8 v10 v11 wr=>∃ (i:Nat) (lw:ByteArray) (ao:Option Addr) (co:Nat),v8=.slice ao (fV (l0.take i) l1).length co/\v10=.string lw/\v11=.int .i64 i/\i<=m0/\Hid (∀ c,l0[i]?=some c->c.low=lw) /\
  St K wr (ak (.slice ao (fV (l0.take i) l1).length co) 99 2 (fV (l0.take i) l1).length (fM (fV (l0.take i) l1))::ak (.slice a0 m0 Im) 23 1 m0 (aQ (l0.map (·.id)))::ak (.slice (some ⟨bv+1,0,none⟩) (N+1) (N+1)) 4 1 (N+1) (jv (N+1) (refsOf l1))::blk bv (.cells #[.int .i64 (d).th,.int .i64 (d).sn,.int .i64 (d).no,.int .i64 (d).ch,.int .i64 (d).re,.int .i64 (d).fa,.int .u64 (d).cl,.slice (some ⟨g,0,none⟩) n n] 52)::F)) (fun _ _ v11 _=>m0-(intOf v11).toNat)
 case atStart=>exact⟨0,⟨#[]⟩,none,0,rfl,rfl,rfl,by omega,aqo (fun c hc=>HR.out.first c hc),hs⟩
 case round=>
  clear hs;obtain⟨i,lw,ao,co,rfl,rfl,rfl,hi,HLw,hs⟩:=hrel;have hq:(fV (l0.take i) l1).length<=4096:=by
   unfold fV;refine Nat.le_trans (List.length_filter_le _ _) ?_
   rw[List.length_drop,List.length_take];have:=Hm0.out;omega
  by_cases him:i<m0
  ·obtain⟨c,hc⟩:∃ c,l0[i]?=some c:=⟨_,aqt (by have:=Hm0.out;omega)⟩
   have hcm:=aqs hc;have abJ:=(Hn0.out c hcm).id;obtain⟨y,hy⟩:∃ y:Nat,c.id=y:=⟨c.id.toNat,by omega⟩
   have hyN:y<N+1:=by have:=HN.out;omega
   have QN:=aqo (Qp0.out c hcm);obtain⟨ga,Ns,c0⟩:=(show St K wr (ak _ _ _ _ _::_)from hs.b1).cP (show(aQ (l0.map (·.id)))[i]?=some (.int .u64 y)by simp[aQ,hc,hy])
   subst Ns;have Hc:=aqo hc;have Hy:=aqo hy;have eJ:c.low=lw:=HLw.out c hc;have aj7:=aqo eJ;have aah:=aqo (Nv (l1:=l1) hc);have cI:=(show St K wr (ak _ _ _ _ _::_)from hs.b2).bJ (Kn (refsOf l1) hyN)
   obtain⟨bb,hbb⟩:∃ bb,bb=decide ((y:Int)∈refsOf l1):=⟨_,rfl⟩;rw[← hbb]at cI;have Hbb:=aqo hbb;obtain⟨S,hS⟩:∃ S,S=fV (l0.take i) l1:=⟨_,rfl⟩;rw[← hS]at hs hq ⊢;have HS:=aqo hS;clear hc hcm abJ eJ hbb hS hy;go_upto_region 17 with(fail)
   go_cut [70]from 61 to 70 (fun v wx=>v=.bool (decide (0<i) && !bb)/\St K wx (ak (.slice ao S.length co) 99 2 S.length (fM S)::ak (.slice (some ⟨ga,0,none⟩) m0 Im) 23 1 m0 (aQ (l0.map (·.id)))::ak (.slice (some ⟨bv+1,0,none⟩) (N+1) (N+1)) 4 1 (N+1) (jv (N+1) (refsOf l1))::blk bv (.cells #[.int .i64 (d).th,.int .i64 (d).sn,.int .i64 (d).no,.int .i64 (d).ch,.int .i64 (d).re,.int .i64 (d).fa,.int .u64 (d).cl,.slice (some ⟨g,0,none⟩) n n] 52)::F))
   case first=>
    as_aux_lemma=>
    rcases Nat.eq_zero_or_pos i with rfl|ox
    ·go_wp2
     go_meet;exact⟨rfl,hs⟩
    ·have hgi:(0:Int)<i:=by omega
     go_wp2
     go_meet;exact⟨by rw[decide_eq_true ox];rfl,hs⟩
   case rest=>
   clear hs;obtain⟨rfl,hs⟩:=hcut;apply_assumption
   go_cut [8]from 70 to 79 (fun v wx=>∃ (ao:Option Addr) (co:Nat),v=.slice ao (fV (l0.take (i+1)) l1).length co/\St K wx (ak (.slice ao (fV (l0.take (i+1)) l1).length co) 99 2 (fV (l0.take (i+1)) l1).length (fM (fV (l0.take (i+1)) l1))::ak (.slice (some ⟨ga,0,none⟩) m0 Im) 23 1 m0 (aQ (l0.map (·.id)))::ak (.slice (some ⟨bv+1,0,none⟩) (N+1) (N+1)) 4 1 (N+1) (jv (N+1) (refsOf l1))::blk bv (.cells #[.int .i64 (d).th,.int .i64 (d).sn,.int .i64 (d).no,.int .i64 (d).ch,.int .i64 (d).re,.int .i64 (d).fa,.int .u64 (d).cl,.slice (some ⟨g,0,none⟩) n n] 52)::F))
   case first=>
    as_aux_lemma=>
    have hst:=aah.out;rw[Hy.out]at hst;rcases Bool.eq_false_or_eq_true (decide (0<i) && !bb)with hb|hb
    ·have hb2:i > 0/\¬ (y:Int)∈refsOf l1:=by
      rw[Bool.and_eq_true]at hb;refine⟨of_decide_eq_true hb.1,fun h=>?_⟩
      have h2:=hb.2;rw[Hbb.out,decide_eq_true h]at h2;cases h2
     rw[if_pos hb2,← HS.out]at hst;have Hst:=aqo hst;rw[hb];clear hst hb hb2 c0 cI;have c0:=(show St K _ (ak _ _ _ _ _::_)from hs.b1).bJ (show(aQ (l0.map (·.id)))[i]?=some (.int .u64 y)by simp[aQ,Hc.out,Hy.out])
     go_wp2_with (at_builtin;refine dB _ _ 96 99 _ S.length 2 24 _ [.string lw,.int .u64 y] (.agg #[.string ⟨#[]⟩,.int .u64 0]) iv hs rfl rfl Tryz.underlying96 lC.out lD.out lF.out lG.out rfl (by decide) rfl rfl rfl (fun u hu=>by simp at hu;rcases hu with rfl|rfl <;> rfl) (by omega) (by decide) ?_)
     clear hs c0;intro v' w' hs;obtain⟨an,cn,hv,_,_⟩:=hs.aF;subst hv;go_wp2
     go_meet;rw[Hst.out,List.length_append,List.length_singleton,Ik,aj7.out,Hy.out];exact⟨an,cn,rfl,hs⟩
    ·have hb2:¬ (i > 0/\¬ (y:Int)∈refsOf l1):=fun⟨h1,h2⟩=>by
      rw[decide_eq_true h1,Hbb.out,decide_eq_false h2]at hb;cases hb
     rw[if_neg hb2,← HS.out]at hst;have Hst:=aqo hst;rw[hb];clear hst hb hb2 c0 cI;go_wp2
     go_meet;rw[Hst.out];exact⟨ao,co,rfl,hs⟩
   case rest=>
   clear hs;obtain⟨ao,co,rfl,hs⟩:=hcut;apply_assumption
   clear HS aah hq;have Hnx:Hid (∀ c',l0[i+1]?=some c' -> c'.low=c.pg.hi):=aqo (fun c' h=>((HR.out.next i c c' Hc.out h).2.1).symm)
   clear c0 cI;go_upto_region 19 with(fail)
   have Hs:=aqo hs;clear hs;refine cY [false,false,false,false,false,true,true,false] (fun|6=>some (.string c.pg.hi)|_=>none) [5,6] (fun|6=>[5] | _=>[])
    (GR K (ak (.slice ao (fV (l0.take (i+1)) l1).length co) 99 2 (fV (l0.take (i+1)) l1).length (fM (fV (l0.take (i+1)) l1))::ak (.slice (some ⟨ga,0,none⟩) m0 Im) 23 1 m0 (aQ (l0.map (·.id)))::ak (.slice (some ⟨bv+1,0,none⟩) (N+1) (N+1)) 4 1 (N+1) (jv (N+1) (refsOf l1))::blk bv (.cells #[.int .i64 (d).th,.int .i64 (d).sn,.int .i64 (d).no,.int .i64 (d).ch,.int .i64 (d).re,.int .i64 (d).fa,.int .u64 (d).cl,.slice (some ⟨g,0,none⟩) n n] 52)::F) [5,6] (uP c.pg (.string c.pg.hi) 5 6))
    (fun W=>St K W (ak (.slice ao (fV (l0.take (i+1)) l1).length co) 99 2 (fV (l0.take (i+1)) l1).length (fM (fV (l0.take (i+1)) l1))::ak (.slice (some ⟨ga,0,none⟩) m0 Im) 23 1 m0 (aQ (l0.map (·.id)))::ak (.slice (some ⟨bv+1,0,none⟩) (N+1) (N+1)) 4 1 (N+1) (jv (N+1) (refsOf l1))::blk bv (.cells #[.int .i64 (d).th,.int .i64 (d).sn,.int .i64 (d).no,.int .i64 (d).ch,.int .i64 (d).re,.int .i64 (d).fa,.int .u64 (d).cl,.slice (some ⟨g,0,none⟩) n n] 52)::F)) ?afc (by kernel_rfl) ?Uh ?rbH ?Dt ?Ui ?Uj ?Uk ?Ul ?Um
   case Uh=>as_aux_lemma=>kernel_rfl
   case rbH=>
    intro W2 hs;have kv:=hs.tail.tail.tail.k0;have c0:=(show St K W2 (ak _ _ _ _ _::_)from hs.b1).bJ (show(aQ (l0.map (·.id)))[i]?=some (.int .u64 c.id)by simp[aQ,Hc.out])
    clear hs;simp only[cM];repeat (go_big_quiet_step (fail))
    refine wpQuiet_nil ?_
    rfl
   case Dt=>rfl
   case Ui=>exact GR.start Hs.out
   case Uj=>exact fun ρ W2 h=>h.rest
   case Uk=>exact fun ρ W2 W3 h hb=>h.same hb
   case Ul=>
    refine⟨?ab7,?ab8,trivial⟩;case ab7=>
     intro o ho ρ W2 h hcl h5 hd2 act cj;obtain rfl:=aqu ho;replace cj:act=aj _ ρ [] _:=cj;obtain⟨C,R',hx1,hs,hnext⟩:=h.step uP.mono 5 [] (by decide) (by decide) (by decide) h5 (by simp)
     simp only[aj]at cj;subst cj;have Hn:=aqo hnext;clear hnext hx1 h hcl hd2 h5;go_wp2_with fail
     refine(QN.out _ _ hs).mono ?_
     rintro e W3 ⟨va8,rfl,hs'⟩;obtain⟨a8,c8,rfl,_,_⟩:=hs'.aF;have dZ:=aqo hs';clear hs hs';go_wp2
     exact⟨rfl,_,rfl,fun u hu=>(by cases hu),Hn.out _ _ W3 ⟨a8,c8,rfl,rfl⟩ dZ.out⟩
    case ab8=>
     intro o ho ρ W2 h hcl h6 hd2 act cj;obtain rfl:=aqu ho;replace cj:act=aj _ ρ [5] _:=cj;obtain⟨v5,h5⟩:=aqr.1 (hd2 5 (by show _∈[5];simp))
     obtain⟨Vk,R8,⟨a8,c8,rfl,rfl⟩,Yh⟩:=h.at 5 (by simp) h5
     simp only[aj,h5,Option.getD_some,aL,Act.put,aqv]at cj;subst cj;have H:=aqo (h.jM uP.mono 6 (by decide) (by simp) h6 _ ⟨rfl,rfl⟩)
     clear h Yh hcl hd2 h6 h5;go_wp2
     exact⟨rfl,_,rfl,fun u hu=>aqu hu,H.out⟩
   case Um=>
    intro ρ W2 h hall;have hs:=h.rest;clear h;simp only[aj,Option.getD_some,aL,Act.put,aqv];go_wp2
    go_roundw
    case rel=>exact⟨i+1,c.pg.hi,ao,co,rfl,rfl,by go_num,by omega,Hnx,hs⟩
    case measure=>simp[intOf];omega
  ·obtain rfl:i=m0:=by omega
   have e2:l0.take i=l0:=List.take_of_length_le (by rw[← Hm0.out];exact Nat.le_refl _)
   have E2:=aqo e2;clear e2;go_wp2
   go_ret;exact⟨_,rfl,by
    show St K wr (ak (.slice ao (fV (l0.take i) l1).length co) 99 2 (fV l0 l1).length (fM (fV l0 l1))::F)
    have h:=hs.bV.bV.bV;rw[E2.out]at h ⊢;exact h⟩
end
end Go.Proofs.YtlpdhhhgckpcfaaGreat
