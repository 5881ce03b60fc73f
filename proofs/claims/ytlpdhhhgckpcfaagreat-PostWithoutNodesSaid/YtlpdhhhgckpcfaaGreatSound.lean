
/- dP.View: alg, Refs, Keys, counters, chains. dP.View: counters, chains, sound, Sound: a tree that is sound. dP.View: counters, chains. dP.View: sound, Sound. dP.View: Sound. -/
import Derived.Test.YtlpdhhhgckpcfaaGreatVers
import Derived.Test.YtlpdhhhgckpcfaaGreatLevA
import Derived.Test.YtlpdhhhgckpcfaaGreatInsOut
import Derived.Test.YtlpdhhhgckpcfaaGreatTreePut
import Derived.Test.YtlpdhhhgckpcfaaGreatLaw11ab
namespace Go.Proofs.YtlpdhhhgckpcfaaGreat
set_option maxHeartbeats 16000000
open Go.RowKit
set_option maxRecDepth 100000
section
variable {K:aK}{w:World}{F:List aB}{d:aR}{g:Nat}{L:List aP}
theorem kC.num {r:Int}{vs:List zY}(h:kC d L r vs):(vs=[]/\r=0)\/∃ v rest,vs=v::rest/\r=v.r/\Yq d L v/\kC d L (ah L (d.record v.r 2)).n rest:=by
 cases vs with
 | nil=>exact .inl ⟨rfl,h⟩
 | cons v rest=>exact .inr ⟨v,rest,rfl,h.1,h.2.1,h.2.2⟩
theorem yV {c:Int}{vs:List zY}(hd:d.Ok)(hc:1<=c/\c<=d.ch)(hlk:kC d L (ah L (d.chain c)).n vs)(hn:(vs.length:Int)<=d.re)(hg:K.map g=some (.cells (flat L).toArray 63))(hl:L.length<=1000000)(hs:St K w F) :
  Calls Tryz.prog 124 #[.agg #[.int .i64 (d).th,.int .i64 (d).sn,.int .i64 (d).no,.int .i64 (d).ch,.int .i64 (d).re,.int .i64 (d).fa,.int .u64 (d).cl,.slice (some ⟨g,0,none⟩) L.length L.length],.int .u64 c] w fun e w' => ∃ v,e=.returned v/\St K w' (ak v 186 3 vs.length (gP vs)::F):=by
 have aoq:=hd.Yo;have aor:=hd.re2;have aos:=hd.ch2;obtain⟨iv,cZ,dc,dg,dh⟩:=info_parts Yg;have lC:=aqo cZ;have lD:=aqo dc;have lF:=aqo dg;have lG:=aqo dh;clear cZ dc dg dh;have hs:=hs.made (.cells #[.int .i64 (d).th,.int .i64 (d).sn,.int .i64 (d).no,.int .i64 (d).ch,.int .i64 (d).re,.int .i64 (d).fa,.int .u64 (d).cl,.slice (some ⟨g,0,none⟩) L.length L.length] 52);obtain⟨bv,nN⟩:∃ bv,bv=w.heap.size:=⟨_,rfl⟩;have Qc:=aqo (fun w=>pO d hd c (by omega) (by omega) w)
 have Qr:=aqo (fun(r k:Int) (h1:0<=r/\r<=d.re) (h2:0<=k/\k<=2) w=>vg d hd r k (by omega) (by omega) h2.1 h2.2 w)
 have Q:=aqo (fun(i:Int) W cs (h:St K W cs)=>gu (d:=d) i W (kK hg hl h))
 obtain⟨m,hm⟩:∃ m,m=vs.length:=⟨_,rfl⟩;have Hlk:=aqo hlk;have Hm:=aqo hm;rw[← hm]at hn ⊢;generalize L.length=n at *;have k0:=hs.k0;have hs0:=hs.cD (T:=186) (size:=3);clear hlk hm;go_enter Tryz.func124,Tryz.ntmps124
 go_upto_region 2 with(fail)
 have Qy:=aqo (fun wz (hy:∃ x:Ext,wz=over (w.alloc (.cells #[.int .i64 (d).th,.int .i64 (d).sn,.int .i64 (d).no,.int .i64 (d).ch,.int .i64 (d).re,.int .i64 (d).fa,.int .u64 (d).cl,.slice (some ⟨g,0,none⟩) n n] 52)) x)=>Q.out (d.chain c) wz _ (hs.same (Pure.below hy)))
 generalize ah L (d.chain c)=cc at *;refine bH (by kernel_rfl) (by kernel_rfl) ?_
 repeat (go_big_quiet_step (first|(go_at_call 123;exact aW (Qc.out _))|(go_at_call 83;exact aW (Qy.out _ ⟨_,rfl⟩))))
 refine wpQuiet_nil ?_
 intro w1 hb1;rw[← nN]at hs0 ⊢;have hs:=hs0.same (by simpa using hb1)
 clear hs0 hb1 k0 Qy Qc nN;go_wp2
 go_loopw [5,6,7] (fun v5 v6 v7 wr=>∃ (i:Nat) (r:Int) (ao:Option Addr) (co:Nat),v5=.slice ao i co/\v6=.int .u64 r/\v7=.int .i64 i/\i<=m/\Hid (kC d L r (vs.drop i)) /\
  St K wr (ak (.slice ao i co) 186 3 i (gP (vs.take i))::blk bv (.cells #[.int .i64 (d).th,.int .i64 (d).sn,.int .i64 (d).no,.int .i64 (d).ch,.int .i64 (d).re,.int .i64 (d).fa,.int .u64 (d).cl,.slice (some ⟨g,0,none⟩) n n] 52)::F)) (fun _ _ v7 _=>m-(intOf v7).toNat)
 case atStart=>exact⟨0,_,none,0,rfl,rfl,rfl,by omega,Hlk,hs⟩
 case round=>
  clear hs Hlk;obtain⟨i,r,ao,co,rfl,rfl,rfl,hi,HR,hs⟩:=hrel;by_cases him:i<m
  ·obtain⟨x,hx⟩:∃ x,vs[i]?=some x:=⟨_,aqt (by have:=Hm.out;omega)⟩
   have Zv:vs.drop i=x::vs.drop (i+1):=by
    have:=List.drop_eq_getElem_cons (aqq.1 hx).1;rw[(aqq.1 hx).2]at this;exact this
   have hr:=HR.out;rw[Zv]at hr;obtain⟨rfl,Ob,hnext⟩:=hr;obtain⟨r1,r2,r3,r4,r5⟩:=Ob;have hpos:=Fa hd r1 r2 (k:=0) (by omega) (by omega)
   have dX:gP (vs.take (i+1))=gP (vs.take i)++qB x:=by rw[List.take_add_one,hx];simp[gP]
   have hdel:((ah L (d.record x.r 1)).m == 1)=x.del:=by rw[r5];cases x.del <;> rfl
   have iK:=aqo dX;have Ua:=aqo hnext;have aot:(i:Int)<d.re:=by omega
   have q1:=Q.out (d.record x.r 1);have q0:=Q.out (d.record x.r 0);have q2:=Q.out (d.record x.r 2);rw[r3]at q0;rw[r4]at q1;have Q1:=aqo q1;have Q0:=aqo q0;have Q2:=aqo q2;have Qr0:=aqo (fun w=>Qr.out x.r 0 (by omega) (by omega) w)
   have Qr1:=aqo (fun w=>Qr.out x.r 1 (by omega) (by omega) w)
   have Qr2:=aqo (fun w=>Qr.out x.r 2 (by omega) (by omega) w)
   have ajM:=aqo hdel;generalize ah L (d.record x.r 1)=c1 at *;generalize ah L (d.record x.r 0)=c0 at *;generalize ah L (d.record x.r 2)=c2 at *;generalize d.record x.r 0=e0 at *;generalize d.record x.r 1=e1 at *;generalize d.record x.r 2=e2 at *;clear hx Zv dX hnext r3 r4 r5 hdel q0 q1 q2 HR;have kv:=hs.k1;go_wp2_with fail
   refine(bE hs (Qr0.out _)).mono ?_
   clear hs kv;rintro e w2 ⟨rfl,hs⟩;have kv:=hs.k1;go_upto_region 6 with(fail)
   have Hs:=aqo hs;clear hs kv;refine fZ [false,false,false,false,false,false,true,true] 6 7
    (fun W=>St K W (ak (.slice ao i co) 186 3 i (gP (vs.take i))::blk bv (.cells #[.int .i64 (d).th,.int .i64 (d).sn,.int .i64 (d).no,.int .i64 (d).ch,.int .i64 (d).re,.int .i64 (d).fa,.int .u64 (d).cl,.slice (some ⟨g,0,none⟩) n n] 52)::F))
    (fun v W=>∃ b6:Nat,v=(.pointer (some ⟨b6,0,none⟩))/\St K W (blk b6 (.cells #[.int .u64 0,.string ⟨#[]⟩,.int .u64 0] 63)::ak (.slice ao i co) 186 3 i (gP (vs.take i))::blk bv (.cells #[.int .i64 (d).th,.int .i64 (d).sn,.int .i64 (d).no,.int .i64 (d).ch,.int .i64 (d).re,.int .i64 (d).fa,.int .u64 (d).cl,.slice (some ⟨g,0,none⟩) n n] 52)::F))
    (fun v u W=>u=undef/\∃ b6:Nat,v=(.pointer (some ⟨b6,0,none⟩))/\St K W (blk b6 (.cells #[.int .u64 c1.n,.string x.k,.int .u64 c1.m] 63)::ak (.slice ao i co) 186 3 i (gP (vs.take i))::blk bv (.cells #[.int .i64 (d).th,.int .i64 (d).sn,.int .i64 (d).no,.int .i64 (d).ch,.int .i64 (d).re,.int .i64 (d).fa,.int .u64 (d).cl,.slice (some ⟨g,0,none⟩) n n] 52)::F))
    (fun W=>∃ cs,St K W (ak (.slice ao i co) 186 3 i (gP (vs.take i))::blk bv (.cells #[.int .i64 (d).th,.int .i64 (d).sn,.int .i64 (d).no,.int .i64 (d).ch,.int .i64 (d).re,.int .i64 (d).fa,.int .u64 (d).cl,.slice (some ⟨g,0,none⟩) n n] 52)::cs)) ?aS (by decide) (by kernel_rfl) ?hB ?H ?iA Hs.out ?hI ?hR ?Ff ?vv ?hQ
   case hB=>as_aux_lemma=>kernel_rfl
   case H=>
    rintro W2 ⟨cs,hs⟩;have kv:=hs.k1;have Qy:=aqo (fun wz (hy:∃ x:Ext,wz=over W2 x)=>Q1.out wz _ (hs.same (Pure.below hy)))
    clear hs;simp only[bK];repeat (go_big_quiet_step (first|(go_at_call 155;exact aW (Qr1.out _))|(go_at_call 83;exact aW (Qy.out _ ⟨_,rfl⟩))))
    refine wpQuiet_nil ?_
    rfl
   case iA=>rfl
   case hI=>exact⟨fun W h=>⟨_,h⟩,fun v W ⟨_,_,h⟩=>⟨_,h.tail⟩,fun v u W ⟨_,_,_,h⟩=>⟨_,h.tail⟩⟩
   case hR=>exact⟨fun W W' h hb=>h.same hb,fun v W W' ⟨b,e,h⟩ hb=>⟨b,e,h.same hb⟩,fun v u W W' ⟨e0,b,e,h⟩ hb=>⟨e0,b,e,h.same hb⟩⟩
   case Ff=>
    intro qN o ho ρ W2 hs hk af aC;obtain rfl:=aqu ho;subst aC;have Hk:=aqo hk;clear hk;have hs:=hs.made (.cells #[.int .u64 0,.string ⟨#[]⟩,.int .u64 0] 63);go_wp2
    exact⟨rfl,_,rfl,Hk.out _ _ ⟨_,rfl,hs⟩⟩
   case vv=>
    rintro qN o ho ρ v W2 ⟨b6,rfl,hs⟩ hk af aC;obtain rfl:=aqu ho;have Hk:=aqo hk;clear hk;simp only[aL,List.getElem?_cons_succ,List.getElem?_cons_zero,Option.bind_some,Act.put,List.setIfInBounds_toArray,List.set_cons_zero,List.set_cons_succ]at aC;subst aC;have k0:=hs.k0;have f0:=hs.f0;have hs:=((hs.aI 0 (.int .u64 c1.n)).aI 1 (.string x.k)).aI 2 (.int .u64 c1.m);simp only[List.set_cons_zero,List.set_cons_succ]at hs;go_wp2
    exact⟨rfl,undef,rfl,Hk.out _ _ ⟨rfl,b6,rfl,hs⟩⟩
   case hQ=>
    rintro v u W2 ⟨rfl,b6,rfl,hs⟩;simp only[aL,Act.put,aqv];have k6:=hs.k0;have kv:=hs.k2;have Qy:=aqo (fun wz (hy:∃ x:Ext,wz=over W2 x)=>Q0.out wz _ (hs.same (Pure.below hy)))
    go_upto_region 7 with(fail)
    refine fo _ 13 rfl rfl (by kernel_rfl) (by as_aux_lemma=>kernel_rfl) (fun _ _ _ _ h=>h) ?_
    simp only[List.take_succ_cons,List.take_zero,List.drop_succ_cons,List.drop_zero,Act.put,List.setIfInBounds_toArray,List.set_cons_zero,List.set_cons_succ,Act.eval];repeat (go_big_quiet_step (first|(go_at_call 155;exact aW (Qr0.out _))|(go_at_call 83;exact aW (Qy.out _ ⟨_,rfl⟩))))
    refine wpQuiet_nil ?_
    intro w5 hb5;have hs:=hs.same hb5;clear k6 kv hb5 Qy;have hs:=hs.b1;rw[ajM.out];go_wp2_with (at_builtin;refine dB _ _ 182 186 _ i 3 32 _ (qB x) (.agg #[.int .u64 0,.string ⟨#[]⟩,.bool false]) iv hs rfl rfl Tryz.underlying182 lC.out lD.out lF.out lG.out rfl (by decide) rfl rfl rfl (fun u hu=>by simp[qB]at hu;rcases hu with rfl|rfl|rfl <;> rfl) (by omega) (by decide) ?_)
    clear hs;intro v' w' hs;obtain⟨mJ,mK,hv,_,_⟩:=hs.aF;subst hv;rw[← iK.out]at hs;have hs:=hs.bV;have kv:=hs.k1;have Qy:=aqo (fun wz (hy:∃ x:Ext,wz=over w' x)=>Q2.out wz _ (hs.same (Pure.below hy)))
    go_upto_region 8 with(fail)
    refine bH (by kernel_rfl) (by kernel_rfl) ?_
    repeat (go_big_quiet_step (first|(go_at_call 155;exact aW (Qr2.out _))|(go_at_call 83;exact aW (Qy.out _ ⟨_,rfl⟩))))
    refine wpQuiet_nil ?_
    intro w6 Oz;have hs:=hs.same Oz;clear kv Oz Qy;go_wp2
    go_roundw
    case rel=>exact⟨i+1,_,mJ,mK,rfl,rfl,by go_num,by omega,Ua,hs⟩
    case measure=>simp[intOf];omega
  ·obtain rfl:i=m:=by omega
   have hr:=HR.out;rw[List.drop_of_length_le (by rw[← Hm.out];exact Nat.le_refl _)]at hr
   obtain rfl:r=0:=hr;clear HR;have q:=fun w=>Qr.out 0 0 (by omega) (by omega) w
   rw[show d.record 0 0= -1 by unfold aR.record;rw[if_neg (by omega)]]at q
   have QR:=aqo q;clear q;rw[List.take_of_length_le (by rw[← Hm.out];exact Nat.le_refl _)]at hs
   have kv:=hs.k1;by_cases hre:(i:Int)<d.re
   ·go_wp2_with fail
    refine(bE hs (QR.out _)).mono ?_
    clear hs kv;rintro e w2 ⟨rfl,hs⟩;go_wp2
    go_ret;exact⟨_,rfl,hs.bV⟩
   ·go_wp2
    go_ret;exact⟨_,rfl,hs.bV⟩
variable {t:List (List Nd)}
theorem Dl (hd:d.Ok)(ht:cA d L t){l:List Nd}(h0:t[0]?=some l)(hg:K.map g=some (.cells (flat L).toArray 63))(hl:L.length<=1000000)(hs:St K w F) :
  Calls Tryz.prog 63 #[.agg #[.int .i64 (d).th,.int .i64 (d).sn,.int .i64 (d).no,.int .i64 (d).ch,.int .i64 (d).re,.int .i64 (d).fa,.int .u64 (d).cl,.slice (some ⟨g,0,none⟩) L.length L.length]] w fun e w' => ∃ v,e=.returned v/\St K w' (ak v 23 1 (l.flatMap fun nd=>nd.pg.sl).length (aQ ((l.flatMap fun nd=>nd.pg.sl).map (·.r)))::F):=by
 have iY:=hd.mM;have yB:=hd.mV;have Ub:=ht.ne;obtain⟨iv,cZ,dc,dg,dh⟩:=info_parts Kl;have lC:=aqo cZ;have lD:=aqo dc;have lF:=aqo dg;have lG:=aqo dh;clear cZ dc dg dh;have hs:=hs.made (.cells #[.int .i64 (d).th,.int .i64 (d).sn,.int .i64 (d).no,.int .i64 (d).ch,.int .i64 (d).re,.int .i64 (d).fa,.int .u64 (d).cl,.slice (some ⟨g,0,none⟩) L.length L.length] 52);obtain⟨bv,nN⟩:∃ bv,bv=w.heap.size:=⟨_,rfl⟩;have hlen:l.length<=4096:=by have:=List.cT h0;have:=ht.count;have:=ht.n4;omega
 have fj:∀ nd,nd∈l->nd.pg.sl.length<=4096:=fun nd hn=>by have:=(ht.nodes 0 l h0 nd hn).page.le;omega
 have htot:∀ i,i<=l.length->gJ l i<=i*4096:=by
  intro i;induction i with
  | zero=>intro _;exact Nat.le_refl _
  | succ i ih=>
   intro hi;obtain⟨a,ha⟩:∃ a,l[i]?=some a:=⟨_,aqt (by omega)⟩
   have:=ih (by omega)
   have:=fj a (aqs ha);rw[jZ ha];omega
 have Ql:=aqo (fun W cs (h:St K W cs)=>iN (k:=0) hd ht (by omega) hg hl h)
 have Qp:=aqo (fun(nd:Nd) (hn:nd∈l) W cs (h:St K W cs)=>fC hd (ht.nodes 0 l h0 nd hn).id.1 (ht.nodes 0 l h0 nd hn).id.2 (ht.nodes 0 l h0 nd hn).page hg hl h)
 have fJ:gV t 0=l.map (·.id):=by unfold gV;rw[h0]
 rw[fJ]at Ql;have Dm:(l.map (·.id)).length=l.length:=List.length_map ..
 rw[Dm]at Ql;obtain⟨m,hm⟩:∃ m,m=l.length:=⟨_,rfl⟩;have Hm:=aqo hm;have sO:=aqo fj;have abY:=aqo htot;rw[← hm]at Ql hlen;generalize L.length=n at *;clear ht hg fJ Dm hm h0 fj htot Ub;go_enter Tryz.func63,Tryz.ntmps63
 go_wp2_with fail
 refine(Ql.out _ _ hs).mono ?_
 rw[← nN]at hs ⊢;clear hs Ql nN;rintro e w1 ⟨va,rfl,hs⟩;obtain⟨a,cap,rfl,_,_⟩:=hs.aF;have hs:=hs.cD (T:=23) (size:=1);go_wp2
 go_loopw [3,5] (fun v3 v5 wr=>∃ (i:Nat) (ao:Option Addr) (co:Nat),v3=.slice ao (gJ l i) co/\v5=.int .i64 i/\i<=m /\
  St K wr (ak (.slice ao (gJ l i) co) 23 1 (gJ l i) (aQ (((l.take i).flatMap fun nd=>nd.pg.sl).map (·.r)))::ak (.slice a m cap) 23 1 m (aQ (l.map (·.id)))::blk bv (.cells #[.int .i64 (d).th,.int .i64 (d).sn,.int .i64 (d).no,.int .i64 (d).ch,.int .i64 (d).re,.int .i64 (d).fa,.int .u64 (d).cl,.slice (some ⟨g,0,none⟩) n n] 52)::F)) (fun _ v5 _=>m-(intOf v5).toNat)
 case atStart=>exact⟨0,none,0,rfl,rfl,by omega,hs⟩
 case round=>
  clear hs;obtain⟨i,ao,co,rfl,rfl,hi,hs⟩:=hrel;by_cases him:i<m
  ·obtain⟨nd,hnd⟩:∃ nd,l[i]?=some nd:=⟨_,aqt (by have:=Hm.out;omega)⟩
   have QN:=aqo (Qp.out nd (aqs hnd));obtain⟨ga,Ns,_⟩:=(show St K wr (ak _ _ _ _ _::_)from hs.b1).cP (show(aQ (l.map (·.id)))[i]?=some (.int .u64 nd.id)by simp[aQ,hnd])
   subst Ns;have Nj:=aqo hnd;have hq4:=sO.out nd (aqs hnd);have ht4:=abY.out i (by have:=Hm.out;omega)
   have hpos:gJ l i<=16777216:=by have:=Nat.mul_le_mul_right 4096 (show i<=4096 by omega);omega
   have Dn:=jZ hnd;have hpre:(l.take (i+1)).flatMap (fun nd=>nd.pg.sl)=(l.take i).flatMap (fun nd=>nd.pg.sl)++nd.pg.sl:=by rw[List.take_add_one,hnd];simp
   have abZ:=aqo hpre;have Uc:=aqo Dn;generalize gJ l i=P at *;generalize (l.take i).flatMap (fun nd=>nd.pg.sl)=pF at *
   clear hnd ht4 Dn hpre;go_upto_region 6 with(fail)
   have Hs:=aqo hs;clear hs;refine aT [false,false,false,false,false,true,true,true] [5,6,7] (fun|7=>[5,6] | _=>[])
    (sX K (ak (.slice ao P co) 23 1 P (aQ (pF.map (·.r)))::ak (.slice (some ⟨ga,0,none⟩) m cap) 23 1 m (aQ (l.map (·.id)))::blk bv (.cells #[.int .i64 (d).th,.int .i64 (d).sn,.int .i64 (d).no,.int .i64 (d).ch,.int .i64 (d).re,.int .i64 (d).fa,.int .u64 (d).cl,.slice (some ⟨g,0,none⟩) n n] 52)::F) nd.pg)
    (fun W=>St K W (ak (.slice ao P co) 23 1 P (aQ (pF.map (·.r)))::ak (.slice (some ⟨ga,0,none⟩) m cap) 23 1 m (aQ (l.map (·.id)))::blk bv (.cells #[.int .i64 (d).th,.int .i64 (d).sn,.int .i64 (d).no,.int .i64 (d).ch,.int .i64 (d).re,.int .i64 (d).fa,.int .u64 (d).cl,.slice (some ⟨g,0,none⟩) n n] 52)::F)) ?aSb (by kernel_rfl) ?hBb ?Hb ?Gg ?h0b ?hIb ?hRb ?hEb ?hQb
   case hBb=>as_aux_lemma=>kernel_rfl
   case Hb=>
    intro W2 hs;have kv:=hs.k2;have c0:=(show St K W2 (ak _ _ _ _ _::_)from hs.b1).bJ (show(aQ (l.map (·.id)))[i]?=some (.int .u64 nd.id)by simp[aQ,Nj.out])
    clear hs;simp only[bK];repeat (go_big_quiet_step (fail))
    refine wpQuiet_nil ?_
    rfl
   case Gg=>rfl
   case h0b=>exact sX.start Hs.out
   case hIb=>exact fun ρ W2 h=>h.rest
   case hRb=>exact fun ρ W2 W3 h hb=>h.same hb
   case hEb=>
    refine⟨?e5b,?e6b,?e7b,trivial⟩;case e5b=>
     intro o ho ρ W2 h hcl h5 hd2 af aC;obtain rfl:=aqu ho;replace aC:af=aj _ ρ [] _:=aC;have h7:ρ 7=none:=hcl.none (by simp) (show 5∈[5,6]by simp) h5
     obtain⟨R',hs,hnext⟩:=h.e5 h5 h7;simp only[aj]at aC;subst aC;have Hn:=aqo hnext;clear hnext hcl hd2 h5 h7 h;go_wp2_with fail
     refine(QN.out _ _ hs).mono ?_
     rintro e W3 ⟨va3,rfl,hs'⟩;obtain⟨a3,c3,rfl,_,_⟩:=hs'.aF;have dZ:=aqo hs';clear hs hs';go_wp2
     exact⟨rfl,_,rfl,Hn.out _ _ W3 dZ.out⟩
    case e6b=>
     intro o ho ρ W2 h hcl h6 hd2 af aC;obtain rfl:=aqu ho;replace aC:af=aj _ ρ [] _:=aC;have h7:ρ 7=none:=hcl.none (by simp) (show 6∈[5,6]by simp) h6
     have Hn:=aqo (h.e6 h6 h7);simp only[aj]at aC;subst aC;clear hcl hd2 h6 h7 h;go_wp2
     exact⟨rfl,_,rfl,Hn.out⟩
    case e7b=>
     intro o ho ρ W2 h hcl h7 hd2 af aC;obtain rfl:=aqu ho;replace aC:af=aj _ ρ [5,6] _:=aC;obtain⟨v5,h5⟩:=aqr.1 (hd2 5 (by show _∈[5,6];simp))
     obtain⟨v6,h6⟩:=aqr.1 (hd2 6 (by show _∈[5,6];simp))
     obtain⟨a3,c3,b3,R',rfl,rfl,hs,hnext⟩:=h.e7 h5 h6 h7;simp only[aj,h5,h6,Option.getD_some,aL,Act.put,aqv]at aC;subst aC;have k0:=hs.k0;have f0:=hs.f0;have hs:=((((hs.aI 0 (.int .i64 nd.pg.az)).aI 1 (.slice a3 nd.pg.sl.length c3)).aI 2 (.string nd.pg.hi)).aI 3 (.bool nd.pg.la)).aI 4 (.int .u64 nd.pg.ri);have gh:=aqo hs;have Hn:=aqo hnext;clear hs hnext hcl hd2 h h5 h6 h7;go_wp2
     exact⟨rfl,undef,rfl,Hn.out _ gh.out⟩
   case hQb=>
    intro ρ W2 h hall;obtain⟨a3,c3,b3,h5,h6,⟨v7,h7⟩,hs⟩:=h.last hall;simp only[aj,h5,h6,h7,Option.getD_some,aL,Act.put,aqv];clear h hall h5 h6 h7;have hs:St K W2 (blk b3 (.cells #[.int .i64 (nd.pg).az,(.slice a3 nd.pg.sl.length c3),.string (nd.pg).hi,.bool (nd.pg).la,.int .u64 (nd.pg).ri] 43)::bq (.slice a3 nd.pg.sl.length c3) nd.pg::ak (.slice ao P co) 23 1 P (aQ (pF.map (·.r)))::ak (.slice (some ⟨ga,0,none⟩) m cap) 23 1 m (aQ (l.map (·.id)))::blk bv (.cells #[.int .i64 (d).th,.int .i64 (d).sn,.int .i64 (d).no,.int .i64 (d).ch,.int .i64 (d).re,.int .i64 (d).fa,.int .u64 (d).cl,.slice (some ⟨g,0,none⟩) n n] 52)::F):=hs
    obtain⟨q,hq⟩:∃ q,q=nd.pg.sl.length:=⟨_,rfl⟩;have Hq:=aqo hq;rw[← hq]at hq4;have hs:St K W2 (blk b3 (.cells #[.int .i64 nd.pg.az,.slice a3 q c3,.string nd.pg.hi,.bool nd.pg.la,.int .u64 nd.pg.ri] 43)::ak (.slice a3 q c3) 69 2 q (aD nd.pg.sl)::ak (.slice ao P co) 23 1 P (aQ (pF.map (·.r)))::ak (.slice (some ⟨ga,0,none⟩) m cap) 23 1 m (aQ (l.map (·.id)))::blk bv (.cells #[.int .i64 (d).th,.int .i64 (d).sn,.int .i64 (d).no,.int .i64 (d).ch,.int .i64 (d).re,.int .i64 (d).fa,.int .u64 (d).cl,.slice (some ⟨g,0,none⟩) n n] 52)::F):=by rw[hq];exact hs
    clear hq;go_upto_region 7 with(fail)
    go_wp2
    go_loopw [3,7] (fun v3 v7 wr=>∃ (j:Nat) (ao:Option Addr) (co:Nat),v3=.slice ao (P+j) co/\v7=.int .i64 j/\j<=q /\
     St K wr (blk b3 (.cells #[.int .i64 nd.pg.az,.slice a3 q c3,.string nd.pg.hi,.bool nd.pg.la,.int .u64 nd.pg.ri] 43)::ak (.slice a3 q c3) 69 2 q (aD nd.pg.sl)::ak (.slice ao (P+j) co) 23 1 (P+j) (aQ ((pF++nd.pg.sl.take j).map (·.r)))::ak (.slice (some ⟨ga,0,none⟩) m cap) 23 1 m (aQ (l.map (·.id)))::blk bv (.cells #[.int .i64 (d).th,.int .i64 (d).sn,.int .i64 (d).no,.int .i64 (d).ch,.int .i64 (d).re,.int .i64 (d).fa,.int .u64 (d).cl,.slice (some ⟨g,0,none⟩) n n] 52)::F)) (fun _ v7 _=>q-(intOf v7).toNat)
    case atStart=>exact⟨0,ao,co,rfl,rfl,by omega,by rw[List.take_zero,List.append_nil];exact hs⟩
    case round=>
     clear hs;obtain⟨j,ao,co,rfl,rfl,hj,hs⟩:=hrel;by_cases hjq:j<q
     ·obtain⟨x,hx⟩:∃ x,nd.pg.sl[j]?=some x:=⟨_,aqt (by have:=Hq.out;omega)⟩
      obtain⟨r0,r1⟩:=fX nd.pg.sl j x hx;obtain⟨g3,hg3,c0⟩:=(show St K wr (ak _ _ _ _ _::_)from hs.b1).cP r1
      subst hg3;have dX:(pF++nd.pg.sl.take (j+1)).map (·.r)=(pF++nd.pg.sl.take j).map (·.r)++[x.r]:=by rw[List.take_add_one,hx];simp
      have iK:=aqo dX;have kp:=hs.k0;have hs:=hs.b2;clear r0 r1 dX hx;go_wp2_with (at_builtin;refine dB _ _ 57 23 _ (P+j) 1 8 _ [.int .u64 x.r] (.int .u64 0) iv hs rfl rfl Tryz.underlying57 lC.out lD.out lF.out lG.out rfl (by decide) rfl rfl rfl (fun u hu=>by simp at hu;subst hu;rfl) (by omega) (by decide) ?_)
      clear hs kp c0;intro v' w' hs;obtain⟨mJ,mK,hv,_,_⟩:=hs.aF;subst hv;go_wp2
      go_roundw
      case rel=>
       have h2:=hs.re [1,2,0] rfl;have e3:aQ ((pF++nd.pg.sl.take (j+1)).map (·.r))=aQ (pF.map (·.r)++(nd.pg.sl.map (·.r)).take j)++[.int .u64 x.r]:=by rw[iK.out,rX];simp
       exact⟨j+1,mJ,mK,rfl,by go_num,by omega,by rw[e3];exact h2⟩
      case measure=>simp[intOf];omega
     ·obtain rfl:j=q:=by omega
      rw[show nd.pg.sl.take j=nd.pg.sl from List.take_of_length_le (by rw[← Hq.out];exact Nat.le_refl _)]at hs
      have kp:=hs.k0;have hs2:=hs.tail.tail;clear hs;have e1:=Uc.out;rw[← Hq.out]at e1;go_wp2
      go_roundw
      case rel=>exact⟨i+1,ao,co,by rw[e1],by go_num,by omega,by rw[e1,abZ.out];exact hs2⟩
      case measure=>simp[intOf];omega
  ·obtain rfl:i=m:=by omega
   have e1:gJ l i=(l.flatMap fun nd=>nd.pg.sl).length:=by rw[Hm.out,n9]
   have e2:l.take i=l:=List.take_of_length_le (by rw[← Hm.out];exact Nat.le_refl _)
   rw[e2]at hs;have E1:=aqo e1;clear e1 e2;go_wp2
   go_ret;exact⟨_,rfl,by rw[← E1.out];exact hs.bV.bV⟩
theorem Dp (hd:d.Ok)(ht:cA d L t){l:List Nd}(h0:t[0]?=some l)(hg:K.map g=some (.cells (flat L).toArray 63))(hl:L.length<=1000000)(hs:St K w F) :
  Calls Tryz.prog 55 #[.agg #[.int .i64 (d).th,.int .i64 (d).sn,.int .i64 (d).no,.int .i64 (d).ch,.int .i64 (d).re,.int .i64 (d).fa,.int .u64 (d).cl,.slice (some ⟨g,0,none⟩) L.length L.length]] w fun e w' => ∃ v,e=.returned v/\St K w' (ak v 9 1 (l.flatMap fun nd=>nd.pg.sl).length (bG ((l.flatMap fun nd=>nd.pg.sl).map (·.k)))::F):=by
 have iY:=hd.mM;have yB:=hd.mV;have Ub:=ht.ne;obtain⟨iv,cZ,dc,dg,dh⟩:=info_parts oZ;have lC:=aqo cZ;have lD:=aqo dc;have lF:=aqo dg;have lG:=aqo dh;clear cZ dc dg dh;have hs:=hs.made (.cells #[.int .i64 (d).th,.int .i64 (d).sn,.int .i64 (d).no,.int .i64 (d).ch,.int .i64 (d).re,.int .i64 (d).fa,.int .u64 (d).cl,.slice (some ⟨g,0,none⟩) L.length L.length] 52);obtain⟨bv,nN⟩:∃ bv,bv=w.heap.size:=⟨_,rfl⟩;have hlen:l.length<=4096:=by have:=List.cT h0;have:=ht.count;have:=ht.n4;omega
 have fj:∀ nd,nd∈l->nd.pg.sl.length<=4096:=fun nd hn=>by have:=(ht.nodes 0 l h0 nd hn).page.le;omega
 have htot:∀ i,i<=l.length->gJ l i<=i*4096:=by
  intro i;induction i with
  | zero=>intro _;exact Nat.le_refl _
  | succ i ih=>
   intro hi;obtain⟨a,ha⟩:∃ a,l[i]?=some a:=⟨_,aqt (by omega)⟩
   have:=ih (by omega)
   have:=fj a (aqs ha);rw[jZ ha];omega
 have Ql:=aqo (fun W cs (h:St K W cs)=>iN (k:=0) hd ht (by omega) hg hl h)
 have Qp:=aqo (fun(nd:Nd) (hn:nd∈l) W cs (h:St K W cs)=>fC hd (ht.nodes 0 l h0 nd hn).id.1 (ht.nodes 0 l h0 nd hn).id.2 (ht.nodes 0 l h0 nd hn).page hg hl h)
 have fJ:gV t 0=l.map (·.id):=by unfold gV;rw[h0]
 rw[fJ]at Ql;have Dm:(l.map (·.id)).length=l.length:=List.length_map ..
 rw[Dm]at Ql;obtain⟨m,hm⟩:∃ m,m=l.length:=⟨_,rfl⟩;have Hm:=aqo hm;have sO:=aqo fj;have abY:=aqo htot;rw[← hm]at Ql hlen;generalize L.length=n at *;clear ht hg fJ Dm hm h0 fj htot Ub;go_enter Tryz.func55,Tryz.ntmps55
 go_wp2_with fail
 refine(Ql.out _ _ hs).mono ?_
 rw[← nN]at hs ⊢;clear hs Ql nN;rintro e w1 ⟨va,rfl,hs⟩;obtain⟨a,cap,rfl,_,_⟩:=hs.aF;have hs:=hs.cD (T:=9) (size:=1);go_wp2
 go_loopw [3,5] (fun v3 v5 wr=>∃ (i:Nat) (ao:Option Addr) (co:Nat),v3=.slice ao (gJ l i) co/\v5=.int .i64 i/\i<=m /\
  St K wr (ak (.slice ao (gJ l i) co) 9 1 (gJ l i) (bG (((l.take i).flatMap fun nd=>nd.pg.sl).map (·.k)))::ak (.slice a m cap) 23 1 m (aQ (l.map (·.id)))::blk bv (.cells #[.int .i64 (d).th,.int .i64 (d).sn,.int .i64 (d).no,.int .i64 (d).ch,.int .i64 (d).re,.int .i64 (d).fa,.int .u64 (d).cl,.slice (some ⟨g,0,none⟩) n n] 52)::F)) (fun _ v5 _=>m-(intOf v5).toNat)
 case atStart=>exact⟨0,none,0,rfl,rfl,by omega,hs⟩
 case round=>
  clear hs;obtain⟨i,ao,co,rfl,rfl,hi,hs⟩:=hrel;by_cases him:i<m
  ·obtain⟨nd,hnd⟩:∃ nd,l[i]?=some nd:=⟨_,aqt (by have:=Hm.out;omega)⟩
   have QN:=aqo (Qp.out nd (aqs hnd));obtain⟨ga,Ns,_⟩:=(show St K wr (ak _ _ _ _ _::_)from hs.b1).cP (show(aQ (l.map (·.id)))[i]?=some (.int .u64 nd.id)by simp[aQ,hnd])
   subst Ns;have Nj:=aqo hnd;have hq4:=sO.out nd (aqs hnd);have ht4:=abY.out i (by have:=Hm.out;omega)
   have hpos:gJ l i<=16777216:=by have:=Nat.mul_le_mul_right 4096 (show i<=4096 by omega);omega
   have Dn:=jZ hnd;have hpre:(l.take (i+1)).flatMap (fun nd=>nd.pg.sl)=(l.take i).flatMap (fun nd=>nd.pg.sl)++nd.pg.sl:=by rw[List.take_add_one,hnd];simp
   have abZ:=aqo hpre;have Uc:=aqo Dn;generalize gJ l i=P at *;generalize (l.take i).flatMap (fun nd=>nd.pg.sl)=pF at *
   clear hnd ht4 Dn hpre;go_upto_region 6 with(fail)
   have Hs:=aqo hs;clear hs;refine aT [false,false,false,false,false,true,true,true] [5,6,7] (fun|7=>[5,6] | _=>[])
    (sX K (ak (.slice ao P co) 9 1 P (bG (pF.map (·.k)))::ak (.slice (some ⟨ga,0,none⟩) m cap) 23 1 m (aQ (l.map (·.id)))::blk bv (.cells #[.int .i64 (d).th,.int .i64 (d).sn,.int .i64 (d).no,.int .i64 (d).ch,.int .i64 (d).re,.int .i64 (d).fa,.int .u64 (d).cl,.slice (some ⟨g,0,none⟩) n n] 52)::F) nd.pg)
    (fun W=>St K W (ak (.slice ao P co) 9 1 P (bG (pF.map (·.k)))::ak (.slice (some ⟨ga,0,none⟩) m cap) 23 1 m (aQ (l.map (·.id)))::blk bv (.cells #[.int .i64 (d).th,.int .i64 (d).sn,.int .i64 (d).no,.int .i64 (d).ch,.int .i64 (d).re,.int .i64 (d).fa,.int .u64 (d).cl,.slice (some ⟨g,0,none⟩) n n] 52)::F)) ?aSb (by kernel_rfl) ?hBb ?Hb ?Gg ?h0b ?hIb ?hRb ?hEb ?hQb
   case hBb=>as_aux_lemma=>kernel_rfl
   case Hb=>
    intro W2 hs;have kv:=hs.k2;have c0:=(show St K W2 (ak _ _ _ _ _::_)from hs.b1).bJ (show(aQ (l.map (·.id)))[i]?=some (.int .u64 nd.id)by simp[aQ,Nj.out])
    clear hs;simp only[bK];repeat (go_big_quiet_step (fail))
    refine wpQuiet_nil ?_
    rfl
   case Gg=>rfl
   case h0b=>exact sX.start Hs.out
   case hIb=>exact fun ρ W2 h=>h.rest
   case hRb=>exact fun ρ W2 W3 h hb=>h.same hb
   case hEb=>
    refine⟨?e5b,?e6b,?e7b,trivial⟩;case e5b=>
     intro o ho ρ W2 h hcl h5 hd2 af aC;obtain rfl:=aqu ho;replace aC:af=aj _ ρ [] _:=aC;have h7:ρ 7=none:=hcl.none (by simp) (show 5∈[5,6]by simp) h5
     obtain⟨R',hs,hnext⟩:=h.e5 h5 h7;simp only[aj]at aC;subst aC;have Hn:=aqo hnext;clear hnext hcl hd2 h5 h7 h;go_wp2_with fail
     refine(QN.out _ _ hs).mono ?_
     rintro e W3 ⟨va3,rfl,hs'⟩;obtain⟨a3,c3,rfl,_,_⟩:=hs'.aF;have dZ:=aqo hs';clear hs hs';go_wp2
     exact⟨rfl,_,rfl,Hn.out _ _ W3 dZ.out⟩
    case e6b=>
     intro o ho ρ W2 h hcl h6 hd2 af aC;obtain rfl:=aqu ho;replace aC:af=aj _ ρ [] _:=aC;have h7:ρ 7=none:=hcl.none (by simp) (show 6∈[5,6]by simp) h6
     have Hn:=aqo (h.e6 h6 h7);simp only[aj]at aC;subst aC;clear hcl hd2 h6 h7 h;go_wp2
     exact⟨rfl,_,rfl,Hn.out⟩
    case e7b=>
     intro o ho ρ W2 h hcl h7 hd2 af aC;obtain rfl:=aqu ho;replace aC:af=aj _ ρ [5,6] _:=aC;obtain⟨v5,h5⟩:=aqr.1 (hd2 5 (by show _∈[5,6];simp))
     obtain⟨v6,h6⟩:=aqr.1 (hd2 6 (by show _∈[5,6];simp))
     obtain⟨a3,c3,b3,R',rfl,rfl,hs,hnext⟩:=h.e7 h5 h6 h7;simp only[aj,h5,h6,Option.getD_some,aL,Act.put,aqv]at aC;subst aC;have k0:=hs.k0;have f0:=hs.f0;have hs:=((((hs.aI 0 (.int .i64 nd.pg.az)).aI 1 (.slice a3 nd.pg.sl.length c3)).aI 2 (.string nd.pg.hi)).aI 3 (.bool nd.pg.la)).aI 4 (.int .u64 nd.pg.ri);have gh:=aqo hs;have Hn:=aqo hnext;clear hs hnext hcl hd2 h h5 h6 h7;go_wp2
     exact⟨rfl,undef,rfl,Hn.out _ gh.out⟩
   case hQb=>
    intro ρ W2 h hall;obtain⟨a3,c3,b3,h5,h6,⟨v7,h7⟩,hs⟩:=h.last hall;simp only[aj,h5,h6,h7,Option.getD_some,aL,Act.put,aqv];clear h hall h5 h6 h7;have hs:St K W2 (blk b3 (.cells #[.int .i64 (nd.pg).az,(.slice a3 nd.pg.sl.length c3),.string (nd.pg).hi,.bool (nd.pg).la,.int .u64 (nd.pg).ri] 43)::bq (.slice a3 nd.pg.sl.length c3) nd.pg::ak (.slice ao P co) 9 1 P (bG (pF.map (·.k)))::ak (.slice (some ⟨ga,0,none⟩) m cap) 23 1 m (aQ (l.map (·.id)))::blk bv (.cells #[.int .i64 (d).th,.int .i64 (d).sn,.int .i64 (d).no,.int .i64 (d).ch,.int .i64 (d).re,.int .i64 (d).fa,.int .u64 (d).cl,.slice (some ⟨g,0,none⟩) n n] 52)::F):=hs
    obtain⟨q,hq⟩:∃ q,q=nd.pg.sl.length:=⟨_,rfl⟩;have Hq:=aqo hq;rw[← hq]at hq4;have hs:St K W2 (blk b3 (.cells #[.int .i64 nd.pg.az,.slice a3 q c3,.string nd.pg.hi,.bool nd.pg.la,.int .u64 nd.pg.ri] 43)::ak (.slice a3 q c3) 69 2 q (aD nd.pg.sl)::ak (.slice ao P co) 9 1 P (bG (pF.map (·.k)))::ak (.slice (some ⟨ga,0,none⟩) m cap) 23 1 m (aQ (l.map (·.id)))::blk bv (.cells #[.int .i64 (d).th,.int .i64 (d).sn,.int .i64 (d).no,.int .i64 (d).ch,.int .i64 (d).re,.int .i64 (d).fa,.int .u64 (d).cl,.slice (some ⟨g,0,none⟩) n n] 52)::F):=by rw[hq];exact hs
    clear hq;go_upto_region 7 with(fail)
    go_wp2
    go_loopw [3,7] (fun v3 v7 wr=>∃ (j:Nat) (ao:Option Addr) (co:Nat),v3=.slice ao (P+j) co/\v7=.int .i64 j/\j<=q /\
     St K wr (blk b3 (.cells #[.int .i64 nd.pg.az,.slice a3 q c3,.string nd.pg.hi,.bool nd.pg.la,.int .u64 nd.pg.ri] 43)::ak (.slice a3 q c3) 69 2 q (aD nd.pg.sl)::ak (.slice ao (P+j) co) 9 1 (P+j) (bG ((pF++nd.pg.sl.take j).map (·.k)))::ak (.slice (some ⟨ga,0,none⟩) m cap) 23 1 m (aQ (l.map (·.id)))::blk bv (.cells #[.int .i64 (d).th,.int .i64 (d).sn,.int .i64 (d).no,.int .i64 (d).ch,.int .i64 (d).re,.int .i64 (d).fa,.int .u64 (d).cl,.slice (some ⟨g,0,none⟩) n n] 52)::F)) (fun _ v7 _=>q-(intOf v7).toNat)
    case atStart=>exact⟨0,ao,co,rfl,rfl,by omega,by rw[List.take_zero,List.append_nil];exact hs⟩
    case round=>
     clear hs;obtain⟨j,ao,co,rfl,rfl,hj,hs⟩:=hrel;by_cases hjq:j<q
     ·obtain⟨x,hx⟩:∃ x,nd.pg.sl[j]?=some x:=⟨_,aqt (by have:=Hq.out;omega)⟩
      obtain⟨r0,r1⟩:=fX nd.pg.sl j x hx;obtain⟨g3,hg3,c0⟩:=(show St K wr (ak _ _ _ _ _::_)from hs.b1).cP r0
      subst hg3;have dX:(pF++nd.pg.sl.take (j+1)).map (·.k)=(pF++nd.pg.sl.take j).map (·.k)++[x.k]:=by rw[List.take_add_one,hx];simp
      have iK:=aqo dX;have kp:=hs.k0;have hs:=hs.b2;clear r0 r1 dX hx;go_wp2_with (at_builtin;refine dB _ _ 22 9 _ (P+j) 1 16 _ [.string x.k] (.string ⟨#[]⟩) iv hs rfl rfl Tryz.underlying22 lC.out lD.out lF.out lG.out rfl (by decide) rfl rfl rfl (fun u hu=>by simp at hu;subst hu;rfl) (by omega) (by decide) ?_)
      clear hs kp c0;intro v' w' hs;obtain⟨mJ,mK,hv,_,_⟩:=hs.aF;subst hv;go_wp2
      go_roundw
      case rel=>
       have h2:=hs.re [1,2,0] rfl;have e3:bG ((pF++nd.pg.sl.take (j+1)).map (·.k))=bG (pF.map (·.k)++(nd.pg.sl.map (·.k)).take j)++[.string x.k]:=by rw[iK.out,jT];simp
       exact⟨j+1,mJ,mK,rfl,by go_num,by omega,by rw[e3];exact h2⟩
      case measure=>simp[intOf];omega
     ·obtain rfl:j=q:=by omega
      rw[show nd.pg.sl.take j=nd.pg.sl from List.take_of_length_le (by rw[← Hq.out];exact Nat.le_refl _)]at hs
      have kp:=hs.k0;have hs2:=hs.tail.tail;clear hs;have e1:=Uc.out;rw[← Hq.out]at e1;go_wp2
      go_roundw
      case rel=>exact⟨i+1,ao,co,by rw[e1],by go_num,by omega,by rw[e1,abZ.out];exact hs2⟩
      case measure=>simp[intOf];omega
  ·obtain rfl:i=m:=by omega
   have e1:gJ l i=(l.flatMap fun nd=>nd.pg.sl).length:=by rw[Hm.out,n9]
   have e2:l.take i=l:=List.take_of_length_le (by rw[← Hm.out];exact Nat.le_refl _)
   rw[e2]at hs;have E1:=aqo e1;clear e1 e2;go_wp2
   go_ret;exact⟨_,rfl,by rw[← E1.out];exact hs.bV.bV⟩
end
section
variable {K:aK}{w:World}{F:List aB}{a:Option Addr}{n cap:Nat}{sl:List Sl}{az ri fa:Int}{hi:ByteArray}
theorem Dq (hn:n=sl.length)(hb:n<=1000000)(dF:kV sl)(w:World)(h:eo w a sl) :
  Calls Tryz.prog 156 #[.slice a n cap] w fun e w' => e=.returned (.bool true)/\Below w.heap.size w w' := by
 have H:=aqo h;have Hn:=aqo hn;have Ha:=aqo dF;clear hn dF h;go_enter Tryz.func156,Tryz.ntmps156
 go_wp2
 go_loopw [3] (fun v wr=>∃ i:Nat,v=.int .i64 (i+1)/\i<=n/\Hid (Below w.heap.size w wr)) (fun v _=>n+2-(intOf v).toNat)
 case atStart=>exact⟨0,rfl,by omega,aqo (Below.refl _ _)⟩
 case round=>
  obtain⟨i,rfl,hi,HB⟩:=hrel;by_cases hin:i+1<n
  ·obtain⟨x,hx⟩:∃ x,sl[i]?=some x:=⟨_,aqt (by have:=Hn.out;omega)⟩
   obtain⟨y,hy⟩:∃ y,sl[i+1]?=some y:=⟨_,aqt (by have:=Hn.out;omega)⟩
   have hlt:=kJ Ha.out hx hy (by omega)
   have H2:=H.out.same HB.out;obtain⟨g,off,rfl,_,cx,_⟩:=H2.2 i x hx;obtain⟨g2,off2,e2,_,cy,_⟩:=H2.2 (i+1) y hy;simp only[Option.some.injEq,Addr.mk.injEq,and_true]at e2;obtain⟨rfl,rfl⟩:=e2;have q1:=jI hlt;have q2:(y.k.toList == x.k.toList)=false:=by
    cases e:(y.k.toList == x.k.toList)with
    | false=>rfl
    | true=>
     have:y.k=x.k:=xO (by simpa using e)
     rw[this,dI]at hlt;cases hlt
   have Ya:((i:Int)+1)<n:=by omega
   have e0:((i:Int)+1)-1=i:=by omega
   clear H2 hx hy hlt;go_upto_region 4 with(fail)
   refine bH (by kernel_rfl) (by kernel_rfl) ?_
   repeat (go_big_quiet_step (fail))
   refine wpQuiet_nil ?_
   intro w2 hb2;clear cx cy;go_wp2
   go_roundw
   case rel=>exact⟨i+1,by go_num,by omega,aqo (HB.out.trans (hb2.mono HB.out.size))⟩
   case measure=>simp[intOf];omega
  ·have Ya:¬ (((i:Int)+1)<n):=by omega
   go_wp2
   go_ret;exact⟨rfl,HB.out⟩
theorem Dr (cg:0<=az/\az<1000000)(hn:n=sl.length)(sP:(n:Int)<=fa/\fa<=1000000)(h1:0<az->0<n)(dF:kV sl)(uZ:∀ s,s∈sl->1<=s.r)(hhi:hi=⟨#[]⟩)(mq:ri=0)(w:World)(h:eo w a sl) :
  Calls Tryz.prog 126 #[.agg #[.int .i64 az,.slice a n cap,.string hi,.bool true,.int .u64 ri],.int .i64 fa,.bool false] w fun e w' => e=.returned (.bool true)/\Below w.heap.size w w' := by
 subst hhi mq;have Qa:=aqo (fun W (hb:Below w.heap.size w W)=>Dq (n:=n) (cap:=cap) hn (by omega) dF W (h.same hb))
 have H:=aqo h;have Hrf:=aqo uZ;have Hn:=aqo hn;have hs:=(St.start w).made (.cells #[.int .i64 az,.slice a n cap,.string ⟨#[]⟩,.bool true,.int .u64 0] 43);obtain⟨bp,mP⟩:∃ bp,bp=w.heap.size:=⟨_,rfl⟩;clear uZ hn dF h;go_enter Tryz.func126,Tryz.ntmps126
 go_upto_region 1 with(fail)
 rw[← mP]at hs ⊢;clear mP;go_cut [38]from 999 to 0 (fun v wx=>v=.bool false/\St (aK.of w) wx [blk bp (.cells #[.int .i64 az,.slice a n cap,.string ⟨#[]⟩,.bool true,.int .u64 0] 43)])
 case first=>
  as_aux_lemma=>
  by_cases hl:0<az
  ·have z:((n:Int) == 0)=false:=by have:=h1 hl;simp;omega
   
   have kp:=hs.k0;go_wp2_with fail
   refine(bE hs (Qa.out _ (hs.below (aK.Le.refl _)))).mono ?_
   clear hs kp;rintro e w2 ⟨rfl,hs⟩;go_wp2
   go_meet;exact⟨by simp <;> omega,hs⟩
  ·have z:az=0:=by omega
   subst z;have kp:=hs.k0;go_wp2_with fail
   refine(bE hs (Qa.out _ (hs.below (aK.Le.refl _)))).mono ?_
   clear hs kp;rintro e w2 ⟨rfl,hs⟩;go_wp2
   go_meet;exact⟨by simp <;> omega,hs⟩
 case rest=>
 clear hs h1 Qa;obtain⟨rfl,hs⟩:=hcut;apply_assumption
 go_wp2
 go_loopw [7] (fun v wr=>∃ i:Nat,v=.int .i64 i/\i<=n/\St (aK.of w) wr [blk bp (.cells #[.int .i64 az,.slice a n cap,.string ⟨#[]⟩,.bool true,.int .u64 0] 43)]) (fun v _=>n-(intOf v).toNat)
 case atStart=>exact⟨0,rfl,by omega,hs⟩
 case round=>
  clear hs;obtain⟨i,rfl,hi2,hs⟩:=hrel;by_cases hin:i<n
  ·obtain⟨x,hx⟩:∃ x,sl[i]?=some x:=⟨_,aqt (by have:=Hn.out;omega)⟩
   obtain⟨g,off,rfl,_,cx,cy⟩:=(H.out.same (hs.below (aK.Le.refl _))).2 i x hx;have kp:=hs.k0;have hr1:=Hrf.out x (aqs hx);have zr:(x.r == 0)=false:=by simp;omega
   clear hx hr1;go_upto_region 6 with(fail)
   refine bH (by kernel_rfl) (by kernel_rfl) ?_
   repeat (go_big_quiet_step (fail))
   refine wpQuiet_nil ?_
   intro w2 hb3;have hs:=hs.same hb3;clear cx cy kp hb3;go_wp2
   go_roundw
   case rel=>exact⟨i+1,by go_num,by omega,hs⟩
   case measure=>simp[intOf];omega
  ·have kp:=hs.k0
   go_wp2
   go_ret;exact⟨rfl,hs.below (aK.Le.refl _)⟩
theorem yX (cg:0<=az/\az<1000000)(hn:n=sl.length)(sP:(n:Int)<=fa/\fa<=1000000)(h1:0<az->0<n)(dF:kV sl)(uZ:∀ s,s∈sl->1<=s.r)(hbd:∀ s,s∈sl->cE s.k hi=true)(mq:ri≠0)(w:World)(h:eo w a sl) :
  Calls Tryz.prog 126 #[.agg #[.int .i64 az,.slice a n cap,.string hi,.bool false,.int .u64 ri],.int .i64 fa,.bool false] w fun e w' => e=.returned (.bool true)/\Below w.heap.size w w' := by
 have zri:(ri != 0)=true:=by simpa using mq
 have Hbd:=aqo hbd;clear mq hbd;have Qa:=aqo (fun W (hb:Below w.heap.size w W)=>Dq (n:=n) (cap:=cap) hn (by omega) dF W (h.same hb))
 have H:=aqo h;have Hrf:=aqo uZ;have Hn:=aqo hn;have hs:=(St.start w).made (.cells #[.int .i64 az,.slice a n cap,.string hi,.bool false,.int .u64 ri] 43);obtain⟨bp,mP⟩:∃ bp,bp=w.heap.size:=⟨_,rfl⟩;clear uZ hn dF h;go_enter Tryz.func126,Tryz.ntmps126
 go_upto_region 1 with(fail)
 rw[← mP]at hs ⊢;clear mP;go_cut [38]from 999 to 0 (fun v wx=>v=.bool false/\St (aK.of w) wx [blk bp (.cells #[.int .i64 az,.slice a n cap,.string hi,.bool false,.int .u64 ri] 43)])
 case first=>
  as_aux_lemma=>
  by_cases hl:0<az
  ·have z:((n:Int) == 0)=false:=by have:=h1 hl;simp;omega
   
   have kp:=hs.k0;go_wp2_with fail
   refine(bE hs (Qa.out _ (hs.below (aK.Le.refl _)))).mono ?_
   clear hs kp;rintro e w2 ⟨rfl,hs⟩;go_wp2
   go_meet;exact⟨by simp <;> omega,hs⟩
  ·have z:az=0:=by omega
   subst z;have kp:=hs.k0;go_wp2_with fail
   refine(bE hs (Qa.out _ (hs.below (aK.Le.refl _)))).mono ?_
   clear hs kp;rintro e w2 ⟨rfl,hs⟩;go_wp2
   go_meet;exact⟨by simp <;> omega,hs⟩
 case rest=>
 clear hs h1 Qa;obtain⟨rfl,hs⟩:=hcut;apply_assumption
 go_wp2
 go_loopw [7] (fun v wr=>∃ i:Nat,v=.int .i64 i/\i<=n/\St (aK.of w) wr [blk bp (.cells #[.int .i64 az,.slice a n cap,.string hi,.bool false,.int .u64 ri] 43)]) (fun v _=>n-(intOf v).toNat)
 case atStart=>exact⟨0,rfl,by omega,hs⟩
 case round=>
  clear hs;obtain⟨i,rfl,hi2,hs⟩:=hrel;by_cases hin:i<n
  ·obtain⟨x,hx⟩:∃ x,sl[i]?=some x:=⟨_,aqt (by have:=Hn.out;omega)⟩
   obtain⟨g,off,rfl,_,cx,cy⟩:=(H.out.same (hs.below (aK.Le.refl _))).2 i x hx;have kp:=hs.k0;have hr1:=Hrf.out x (aqs hx);have zr:(x.r == 0)=false:=by simp;omega
   have hb1:=Hbd.out x (aqs hx);have hb2:=jI hb1;clear hx hr1;go_upto_region 6 with(fail)
   refine bH (by kernel_rfl) (by kernel_rfl) ?_
   repeat (go_big_quiet_step (fail))
   refine wpQuiet_nil ?_
   intro w2 hb3;have hs:=hs.same hb3;clear cx cy kp hb3;go_wp2
   go_roundw
   case rel=>exact⟨i+1,by go_num,by omega,hs⟩
   case measure=>simp[intOf];omega
  ·have kp:=hs.k0
   go_wp2
   go_ret;exact⟨rfl,hs.below (aK.Le.refl _)⟩
end
structure ae3 (d:aR)(L:List aP):Prop where
 pub:(ah L 1).n=(ah L 2).n
 flo:(ah L 3).n<=(ah L 2).n
 nod:(ah L 4).n<=d.no
 chn:(ah L 5).n<=d.ch
 rcd:(ah L 6).n<=d.re
 gro:(ah L 7).n%4=0
 snp:∀ i:Int,8<=i->i<d.A->(ah L i).n=0\/(ah L 3).n<=(ah L i).n-1
structure Zw (d:aR)(L:List aP)(rs:List Int):Prop where
 ok:∀ r,r∈rs->1<=r/\r<=d.ch/\r<=(ah L 5).n/\∃ vs,kC d L (ah L (d.chain r)).n vs/\(vs.length:Int)<=d.re/\V9 (ah L 2).n vs
 nd:rs.Nodup
section
variable {K:aK}{w:World}{F:List aB}{d:aR}{g:Nat}{L:List aP}{t:List (List Nd)}
theorem Ds (hd:d.Ok)(hL:bI L)(hc:ae3 d L)(hg:K.map g=some (.cells (flat L).toArray 63))(hl:L.length<=1000000)(hs:St K w F) :
  Calls Tryz.prog 84 #[.agg #[.int .i64 (d).th,.int .i64 (d).sn,.int .i64 (d).no,.int .i64 (d).ch,.int .i64 (d).re,.int .i64 (d).fa,.int .u64 (d).cl,.slice (some ⟨g,0,none⟩) L.length L.length]] w fun e w' => e=.returned (.bool true)/\St K w' F:=by
 have hA:=hd.eb;have n1:=hd.Iw;have n2:=hd.mM;have c1:=hd.ch1;have c2:=hd.ch2;have r1:=hd.Yo;have r2:=hd.re2;have b7:=hL 7;have b3:=hL 3;have z1:((ah L 1).n != (ah L 2).n)=false:=by simp[hc.pub]
 have z2:¬ ((ah L 2).n<(ah L 3).n):=by have:=hc.flo;omega
 have z4:¬ (d.no<(ah L 4).n):=by have:=hc.nod;omega
 have z5:¬ (d.ch<(ah L 5).n):=by have:=hc.chn;omega
 have z6:¬ (d.re<(ah L 6).n):=by have:=hc.rcd;omega
 have z7:((ah L 7).n.tmod 4 != 0)=false:=by rw[Int.tmod_eq_emod_of_nonneg b7.1,hc.gro];rfl
 have Hsn:=aqo hc.snp;have HL:=aqo hL;have QA:=aqo (fun w=>tA d hd w)
 have hs:=hs.made (.cells #[.int .i64 (d).th,.int .i64 (d).sn,.int .i64 (d).no,.int .i64 (d).ch,.int .i64 (d).re,.int .i64 (d).fa,.int .u64 (d).cl,.slice (some ⟨g,0,none⟩) L.length L.length] 52);obtain⟨bv,nN⟩:∃ bv,bv=w.heap.size:=⟨_,rfl⟩;have Q:=aqo (fun(i:Int) W cs (h:St K W cs)=>gu (d:=d) i W (kK hg hl h))
 generalize L.length=n at *;clear hg hc hL;go_enter Tryz.func84,Tryz.ntmps84
 go_upto_region 1 with(fail)
 rw[← nN]at hs ⊢;clear nN;have k0:=hs.k0;obtain⟨w1,hw1⟩:∃ w1,w1=w.alloc (.cells #[.int .i64 (d).th,.int .i64 (d).sn,.int .i64 (d).no,.int .i64 (d).ch,.int .i64 (d).re,.int .i64 (d).fa,.int .u64 (d).cl,.slice (some ⟨g,0,none⟩) n n] 52):=⟨_,rfl⟩;rw[← hw1]at hs k0 ⊢;have Qy:=aqo (fun wz (hy:∃ x:Ext,wz=over w1 x) (i:Int)=>Q.out i wz _ (hs.same (Pure.below hy)))
 clear hw1;refine bH (by kernel_rfl) (by kernel_rfl) ?_
 repeat (go_big_quiet_step ((go_at_call 83;exact aW (Qy.out _ ⟨_,rfl⟩ _))))
 refine wpQuiet_nil ?_
 intro w2 hb2;have hs:=hs.same hb2;clear k0 hb2 Qy;go_wp2
 go_loopw [3] (fun v wr=>∃ i:Nat,v=.int .i64 i/\8<=i/\(i:Int)<=d.A/\St K wr (blk bv (.cells #[.int .i64 (d).th,.int .i64 (d).sn,.int .i64 (d).no,.int .i64 (d).ch,.int .i64 (d).re,.int .i64 (d).fa,.int .u64 (d).cl,.slice (some ⟨g,0,none⟩) n n] 52)::F)) (fun v _=>d.A.toNat-(intOf v).toNat)
 case atStart=>exact⟨8,rfl,by omega,by omega,hs⟩
 case round=>
  clear hs;obtain⟨i,rfl,hi8,hiA,hs⟩:=hrel;have k0:=hs.k0;by_cases hin:(i:Int)<d.A
  ·have hq:=Hsn.out i (by omega) hin
   have q1:=Q.out i;have q3:=Q.out 3;have hb:=HL.out i;generalize ah L i=ci at *;generalize ah L 3=c3 at *;obtain⟨x,xk,xm⟩:=ci;simp only at hq;have Q1:=aqo q1;have Q3:=aqo q3;have Hb:=aqo hb;clear q1 q3 hb;go_wp2_with fail
   refine(bE hs (QA.out _)).mono ?_
   clear hs k0;rintro e w3 ⟨rfl,hs⟩;have k0:=hs.k0;go_wp2_with fail
   refine(bE hs (Q1.out _ _ hs)).mono ?_
   clear hs k0;rintro e w4 ⟨rfl,hs⟩;have k0:=hs.k0;by_cases hx:x=0
   ·subst hx
    go_wp2
    go_roundw
    case rel=>exact⟨i+1,by go_num,by omega,by omega,hs⟩
    case measure=>simp[intOf];omega
   ·have zx:(x != 0)=true:=by simpa using hx
    have hx1:IntKind.u64.wrap (x-1)=x-1:=by
     have h1:=Hb.out.1;have h2:=Hb.out.2;simp only at h1 h2;rw[IntKind.wrap_u64];omega
    have hx2:¬ (x-1<c3.n):=by omega
    clear hx hq;go_wp2_with fail
    refine(bE hs (Q3.out _ _ hs)).mono ?_
    clear hs k0;rintro e w5 ⟨rfl,hs⟩;go_wp2
    go_roundw
    case rel=>exact⟨i+1,by go_num,by omega,by omega,hs⟩
    case measure=>simp[intOf];omega
  ·go_wp2_with fail
   refine(bE hs (QA.out _)).mono ?_
   clear hs k0;rintro e w3 ⟨rfl,hs⟩;go_wp2
   go_ret;exact⟨rfl,hs.tail⟩
theorem cA.Ud (hd:d.Ok)(ht:cA d L t){l:List Nd}(h0:t[0]?=some l):(l.flatMap fun nd=>nd.pg.sl).length<=16777216:=by
 have iY:=hd.mM;have yB:=hd.mV;have hlen:l.length<=4096:=by have:=List.cT h0;have:=ht.count;have:=ht.n4;omega
 have fj:∀ nd,nd∈l->nd.pg.sl.length<=4096:=fun nd hn=>by have:=(ht.nodes 0 l h0 nd hn).page.le;omega
 have htot:∀ i,i<=l.length->gJ l i<=i*4096:=by
  intro i;induction i with
  | zero=>intro _;exact Nat.le_refl _
  | succ i ih=>
   intro hi;obtain⟨a,ha⟩:∃ a,l[i]?=some a:=⟨_,aqt (by omega)⟩
   have:=ih (by omega)
   have:=fj a (aqs ha);rw[jZ ha];omega
 rw[← n9];have:=htot l.length (Nat.le_refl _);omega
theorem Nt (hd:d.Ok)(hL:bI L)(ht:cA d L t){l:List Nd}(h0:t[0]?=some l)(hc:Zw d L ((l.flatMap fun nd=>nd.pg.sl).map (·.r)))(hg:K.map g=some (.cells (flat L).toArray 63))(hl:L.length<=1000000)(hs:St K w F) :
  Calls Tryz.prog 85 #[.agg #[.int .i64 (d).th,.int .i64 (d).sn,.int .i64 (d).no,.int .i64 (d).ch,.int .i64 (d).re,.int .i64 (d).fa,.int .u64 (d).cl,.slice (some ⟨g,0,none⟩) L.length L.length]] w fun e w' => e=.returned (.bool true)/\St K w' F:=by
 have c1:=hd.ch1;have c2:=hd.ch2;have r2:=hd.re2;have hs:=hs.made (.cells #[.int .i64 (d).th,.int .i64 (d).sn,.int .i64 (d).no,.int .i64 (d).ch,.int .i64 (d).re,.int .i64 (d).fa,.int .u64 (d).cl,.slice (some ⟨g,0,none⟩) L.length L.length] 52);obtain⟨bv,nN⟩:∃ bv,bv=w.heap.size:=⟨_,rfl⟩;have Q:=aqo (fun(i:Int) W cs (h:St K W cs)=>gu (d:=d) i W (kK hg hl h))
 have QR:=aqo (fun W cs (h:St K W cs)=>Dl hd ht h0 hg hl h)
 have Qch:=aqo (fun(r:Int) (h1:1<=r/\r<=d.ch) w=>pO d hd r (by omega) (by omega) w)
 have Qvs:=aqo (fun(r:Int) (h1:1<=r/\r<=d.ch) (vs:List zY) (hlk:kC d L (ah L (d.chain r)).n vs) (hn:(vs.length:Int)<=d.re) W cs (h:St K W cs)=>yV hd h1 hlk hn hg hl h)
 have Hc:=aqo hc;have hlen:(l.flatMap fun nd=>nd.pg.sl).length=((l.flatMap fun nd=>nd.pg.sl).map (·.r)).length:=(List.length_map ..).symm
 have hmm:=ht.Ud hd h0;rw[hlen]at QR hmm;generalize (l.flatMap fun nd=>nd.pg.sl).map (·.r)=rs at *
 obtain⟨m,hm⟩:∃ m,m=rs.length:=⟨_,rfl⟩;rw[← hm]at QR hmm;have Hm:=aqo hm;generalize L.length=n at *;clear hg hc hL ht h0 hlen hm;go_enter Tryz.func85,Tryz.ntmps85
 go_wp2_with fail
 refine(QR.out _ _ hs).mono ?_
 rw[← nN]at hs ⊢;clear hs QR nN;rintro e w1 ⟨va,rfl,hs⟩;obtain⟨a,cap,rfl,_,_⟩:=hs.aF;go_wp2
 go_loopw [4] (fun v wr=>∃ i:Nat,v=.int .i64 i/\i<=m/\St K wr (ak (.slice a m cap) 23 1 m (aQ rs)::blk bv (.cells #[.int .i64 (d).th,.int .i64 (d).sn,.int .i64 (d).no,.int .i64 (d).ch,.int .i64 (d).re,.int .i64 (d).fa,.int .u64 (d).cl,.slice (some ⟨g,0,none⟩) n n] 52)::F)) (fun v _=>m-(intOf v).toNat)
 case atStart=>exact⟨0,rfl,by omega,hs⟩
 case round=>
  clear hs;obtain⟨i,rfl,hi,hs⟩:=hrel;by_cases him:i<m
  ·obtain⟨r,hr⟩:∃ r,rs[i]?=some r:=⟨_,aqt (by have:=Hm.out;omega)⟩
   obtain⟨hr1,hr2,hr5,vs,hlk,hvn,hv9⟩:=Hc.out.ok r (aqs hr);obtain⟨ga,Ns,c0⟩:=hs.cP (show(aQ rs)[i]?=some (.int .u64 r)by simp[aQ,hr])
   subst Ns;have hch:=zX hd hr1 hr2;have aoI:¬ (d.chain r<0):=by omega
   have aoJ:¬ ((ah L 5).n<r):=by omega
   have QC:=aqo (fun w=>Qch.out r ⟨hr1,hr2⟩ w)
   have QV:=aqo (fun W cs (h:St K W cs)=>Qvs.out r ⟨hr1,hr2⟩ vs hlk hvn W cs h)
   have H9:=aqo hv9;have Hr:=aqo hr;have kv:=hs.k1;have hvl:vs.length<=1000000:=by omega
   clear hlk hv9 hr hch;go_upto_region 5 with(fail)
   have Qy:=aqo (fun wz (hy:∃ x:Ext,wz=over wr x) (i:Int)=>Q.out i wz _ (hs.same (Pure.below hy)))
   refine bH (by kernel_rfl) (by kernel_rfl) ?_
   repeat (go_big_quiet_step (first|(go_at_call 123;exact aW (QC.out _))|(go_at_call 83;exact aW (Qy.out _ ⟨_,rfl⟩ _))))
   refine wpQuiet_nil ?_
   intro w2 hb2;have hs:=hs.same hb2;clear kv c0 hb2 Qy;go_wp2
   go_loopw [5] (fun v wr=>∃ k:Nat,v=.int .i64 k/\k<=i/\St K wr (ak (.slice (some ⟨ga,0,none⟩) m cap) 23 1 m (aQ rs)::blk bv (.cells #[.int .i64 (d).th,.int .i64 (d).sn,.int .i64 (d).no,.int .i64 (d).ch,.int .i64 (d).re,.int .i64 (d).fa,.int .u64 (d).cl,.slice (some ⟨g,0,none⟩) n n] 52)::F)) (fun v _=>i-(intOf v).toNat)
   case atStart=>exact⟨0,rfl,by omega,hs⟩
   case round=>
    clear hs;obtain⟨k,rfl,hk,hs⟩:=hrel;by_cases hki:k<i
    ·obtain⟨q,hq⟩:∃ q,rs[k]?=some q:=⟨_,aqt (by have:=Hm.out;omega)⟩
     have c0:=hs.bJ (show(aQ rs)[i]?=some (.int .u64 r)by simp[aQ,Hr.out])
     have c1:=hs.bJ (show(aQ rs)[k]?=some (.int .u64 q)by simp[aQ,hq])
     have hne:(q == r)=false:=by
      have hp:=List.pairwise_iff_getElem.1 Hc.out.nd k i (aqq.1 hq).1 (aqq.1 Hr.out).1 hki;rw[(aqq.1 hq).2,(aqq.1 Hr.out).2]at hp;simpa using hp
     clear hq;go_upto_region 10 with(fail)
     refine bH (by kernel_rfl) (by kernel_rfl) ?_
     repeat (go_big_quiet_step (fail))
     refine wpQuiet_nil ?_
     intro w3 hb3;have hs:=hs.same hb3;clear c0 c1 hb3;go_wp2
     go_roundw
     case rel=>exact⟨k+1,by go_num,by omega,hs⟩
     case measure=>simp[intOf];omega
    ·obtain rfl:k=i:=by omega
     have c0:=hs.bJ (show(aQ rs)[k]?=some (.int .u64 r)by simp[aQ,Hr.out])
     have kv:=hs.k1;go_upto_region 12 with(fail)
     refine bO 5 (by kernel_rfl) (by as_aux_lemma=>kernel_rfl) ?_
     simp only[List.take_succ_cons,List.take_zero,List.drop_succ_cons,List.drop_zero];repeat (go_big_quiet_step (fail))
     refine wpQuiet_nil ?_
     intro w3 hb3;have hs:=hs.same hb3;clear c0 kv hb3;go_wp2_with fail
     refine(QV.out _ _ hs).mono ?_
     clear hs QV;rintro e w4 ⟨vx,rfl,hs⟩;obtain⟨ax,cx,rfl,_,_⟩:=hs.aF;have Ob:=hs.Ty (by omega)
     obtain⟨q,hq⟩:∃ q,q=vs.length:=⟨_,rfl⟩;have q9:=fun W (hb:Below w4.heap.size w4 W)=>Ii (cap:=cx) W (Ob.same hb) H9.out
     rw[← hq]at q9 hs hvl ⊢;have Hq:=aqo hq;have Q9:=aqo (q9 w4 (Below.refl _ _));clear q9 Ob hq;go_wp2_with fail
     refine(bE hs Q9.out).mono ?_
     clear hs Q9;rintro e w5 ⟨rfl,hs⟩;go_wp2
     go_loopw [7] (fun v wr=>∃ j:Nat,v=.int .i64 j/\j<=q/\St K wr (ak (.slice ax q cx) 186 3 q (gP vs)::ak (.slice (some ⟨ga,0,none⟩) m cap) 23 1 m (aQ rs)::blk bv (.cells #[.int .i64 (d).th,.int .i64 (d).sn,.int .i64 (d).no,.int .i64 (d).ch,.int .i64 (d).re,.int .i64 (d).fa,.int .u64 (d).cl,.slice (some ⟨g,0,none⟩) n n] 52)::F)) (fun v _=>q-(intOf v).toNat)
     case atStart=>exact⟨0,rfl,by omega,hs⟩
     case round=>
      clear hs;obtain⟨j,rfl,hj,hs⟩:=hrel;by_cases hjq:j<q
      ·obtain⟨x,hx⟩:∃ x,vs[j]?=some x:=⟨_,aqt (by have:=Hq.out;omega)⟩
       obtain⟨x0,x1,x2⟩:=xw vs j x hx;obtain⟨gx,hgx,cx0⟩:=hs.cP x0;subst hgx;obtain⟨s1,s2,_,_⟩:=H9.out j x hx;have y1:(x.st == 0)=false:=by simp;omega
       have y2:¬ ((ah L 2).n<x.st):=by omega
       have kv:=hs.k2;clear x0 x1 x2 hx s1 s2;go_upto_region 18 with(fail)
       have Qy:=aqo (fun wz (hy:∃ x:Ext,wz=over wr x) (i:Int)=>Q.out i wz _ (hs.same (Pure.below hy)))
       refine bH (by kernel_rfl) (by kernel_rfl) ?_
       repeat (go_big_quiet_step ((go_at_call 83;exact aW (Qy.out _ ⟨_,rfl⟩ _))))
       refine wpQuiet_nil ?_
       intro w6 Oz;have hs:=hs.same Oz;clear kv cx0 Oz Qy;go_wp2
       go_roundw
       case rel=>exact⟨j+1,by go_num,by omega,hs⟩
       case measure=>simp[intOf];omega
      ·go_wp2
       go_roundw
       case rel=>exact⟨k+1,by go_num,by omega,hs.tail⟩
       case measure=>simp[intOf];omega
  ·go_wp2
   go_ret;exact⟨rfl,hs.tail.tail⟩
end
theorem Ij {a:Option Addr}{n cap:Nat}{pg:Pg}{fa:Int}(cg:0<=pg.az/\pg.az<1000000)(hn:n=pg.sl.length)(sP:(n:Int)<=fa/\fa<=1000000)(h1:0<pg.az->0<n)(dF:kV pg.sl)(uZ:∀ s,s∈pg.sl->1<=s.r)
  (lj:pg.la=true->pg.hi=⟨#[]⟩/\pg.ri=0) (hnl:pg.la=false->(∀ s,s∈pg.sl->cE s.k pg.hi=true)/\pg.ri≠0) (w:World) (h:eo w a pg.sl) :
  Calls Tryz.prog 126 #[.agg #[.int .i64 (pg).az,(.slice a n cap),.string (pg).hi,.bool (pg).la,.int .u64 (pg).ri],.int .i64 fa,.bool false] w fun e w' => e=.returned (.bool true)/\Below w.heap.size w w' := by
 obtain⟨az,sl,hi,la,ri⟩:=pg;cases la with
 | true=>exact Dr cg hn sP h1 dF uZ (lj rfl).1 (lj rfl).2 w h
 | false=>exact yX cg hn sP h1 dF uZ (hnl rfl).1 (hnl rfl).2 w h
structure Zx (d:aR)(L:List aP)(az:Nat)(below:List Int)(mi:List ByteArray)(nd:Nd):Prop where
 ok:sq d L nd
 lv:nd.pg.az=az
 ne:0<az->∃ s r,nd.pg.sl=s::r/\s.k=nd.low
 la:nd.pg.la=true->nd.pg.hi=⟨#[]⟩/\nd.pg.ri=0
 ri:nd.pg.la=false->1<=nd.pg.ri/\nd.pg.ri<=d.no/\nd.pg.ri<=(ah L 4).n
 dn:∀ s,s∈nd.pg.sl->az=0\/∃ k:Nat,below[k]?=some s.r/\mi[k]?=some s.k
section
variable {K:aK}{w:World}{F:List aB}{d:aR}{g:Nat}{L:List aP}{nd:Nd}{az:Nat}{below:List Int}{mi:List ByteArray}{ab al:Option Addr}{cb cl:Nat}
theorem Ue (hd:d.Ok)(hS:Zx d L az below mi nd)(cg:az<=4096)(hbl:below.length=mi.length/\below.length<=4096)(hL:bI L)(hg:K.map g=some (.cells (flat L).toArray 63))(hl:L.length<=1000000)
  (hs:St K w (ak (.slice ab below.length cb) 23 1 below.length (aQ below)::ak (.slice al mi.length cl) 9 1 mi.length (bG mi)::F)) :
  Calls Tryz.prog 86 #[.agg #[.int .i64 (d).th,.int .i64 (d).sn,.int .i64 (d).no,.int .i64 (d).ch,.int .i64 (d).re,.int .i64 (d).fa,.int .u64 (d).cl,.slice (some ⟨g,0,none⟩) L.length L.length],.int .u64 nd.id,.int .i64 az,.string nd.low,.slice ab below.length cb,.slice al mi.length cl] w
   fun e w' => e=.returned (.bool true)/\St K w' (ak (.slice ab below.length cb) 23 1 below.length (aQ below)::ak (.slice al mi.length cl) 9 1 mi.length (bG mi)::F):=by
 have hN:=hS.ok;have hid:=hN.id;have iY:=hd.mM;have aiX:=hd.fw;have yB:=hd.mV;have Xq:=hN.page.le;have hpn:=hN.page.n;have hfr:=hN.free.n;have b0:=(hL (d.node nd.id 0)).1;have z0:((ah L (d.node nd.id 0)).n.tmod 4 != 0)=false:=by rw[Int.tmod_eq_emod_of_nonneg b0,hfr];rfl
 have z1:¬ (d.fa<(ah L (d.node nd.id 1)).n):=by omega
 have mq:nd.pg.la=true\/(nd.pg.la=false/\1<=nd.pg.ri/\nd.pg.ri<=d.no/\nd.pg.ri<=(ah L 4).n):=by
  rcases Bool.eq_false_or_eq_true nd.pg.la with h|h
  ·exact .inl h
  ·exact .inr ⟨h,hS.ri h⟩
 have Hri:=aqo mq;have HS:=aqo hS;have hs:=hs.made (.cells #[.int .i64 (d).th,.int .i64 (d).sn,.int .i64 (d).no,.int .i64 (d).ch,.int .i64 (d).re,.int .i64 (d).fa,.int .u64 (d).cl,.slice (some ⟨g,0,none⟩) L.length L.length] 52);obtain⟨bv,nN⟩:∃ bv,bv=w.heap.size:=⟨_,rfl⟩;have Qp:=aqo (fun W cs (h:St K W cs)=>fC hd hid.1 hid.2 hN.page hg hl h)
 have ae4:=aqo (fun W cs (h:St K W cs)=>vJ hd nd.id (by omega) W (kK hg hl h))
 have Zy:=aqo (fun W cs (h:St K W cs)=>lZ hd nd.id 1 (by omega) (by omega) W (kK hg hl h))
 have Qn:=aqo (fun(id:Int) (h:0<=id/\id<18446744073709551616) W cs (h2:St K W cs)=>nM hd id h hg hl h2)
 obtain⟨m,hm⟩:∃ m,m=below.length:=⟨_,rfl⟩;obtain⟨q,hq⟩:∃ q,q=nd.pg.sl.length:=⟨_,rfl⟩;have Qck:=aqo (fun W (a:Option Addr) (cap:Nat) (h:eo W a nd.pg.sl)=>Ij (fa:=d.fa) (pg:=nd.pg) (cap:=cap) (by rw[hS.lv];omega) hq (by omega) (fun h0=>by
  obtain⟨s,r,e,_⟩:=hS.ne (by rw[hS.lv]at h0;omega)
  rw[hq,e];simp) hN.j7 hN.rf hS.la (fun e=>⟨fun s hs=>(hN.bd s hs).2 e,by have:=(hS.ri e).1;omega⟩) W h)
 have Hm:=aqo hm;have Hq:=aqo hq;have Hbl:=aqo hbl;have hm4:m<=4096:=by omega
 have hq4:q<=4096:=by omega
 have hlv:=aqo hS.lv;rw[← hbl.1,← hm]at hs ⊢;rw[← hq]at Qp;generalize L.length=n at *;generalize ah L (d.node nd.id 0)=c0 at *;generalize ah L (d.node nd.id 1)=c1 at *;have Z1:=aqo z1;clear z1;clear hg hS hN hL Xq hpn hfr b0 mq hm hq hbl hl;go_enter Tryz.func86,Tryz.ntmps86
 go_wp2_with fail
 refine(Qp.out _ _ hs).mono ?_
 rw[← nN]at hs ⊢;clear hs Qp nN;rintro e w1 ⟨va,rfl,hs⟩;obtain⟨a1,mj,rfl,_,_⟩:=hs.aF;have hs:=hs.made (.cells #[.int .i64 (nd.pg).az,(.slice a1 q mj),.string (nd.pg).hi,.bool (nd.pg).la,.int .u64 (nd.pg).ri] 43);obtain⟨bp,mP⟩:∃ bp,bp=w1.heap.size:=⟨_,rfl⟩;go_upto_region 2 with(fail)
 rw[← mP]at hs ⊢;clear mP;have kp:=hs.k0;have kv:=hs.k2;have Ax:=hlv.out;obtain⟨lv,ajP⟩:∃ lv,lv=nd.pg.az:=⟨_,rfl⟩;have fj:=(show St K _ (ak _ _ _ _ _::_)from hs.b1).cN (by rw[← Hq.out];omega)
 obtain⟨w2,hw2⟩:∃ w2,w2=w1.alloc (.cells #[.int .i64 (nd.pg).az,(.slice a1 q mj),.string (nd.pg).hi,.bool (nd.pg).la,.int .u64 (nd.pg).ri] 43):=⟨_,rfl⟩;rw[← hw2]at hs kp kv fj ⊢;have Qly:=aqo (fun wz (hy:∃ x:Ext,wz=over w2 x)=>ae4.out wz _ (hs.same (Pure.below hy)))
 have Qpy:=aqo (fun wz (hy:∃ x:Ext,wz=over w2 x)=>Zy.out wz _ (hs.same (Pure.below hy)))
 have Qcy:=aqo (fun wz (hy:∃ x:Ext,wz=over w2 x)=>Qck.out wz a1 mj (fj.same (Pure.below hy)))
 have z1:¬ (d.fa<c1.n):=by have:=Z1.out;omega
 rw[Ax]at kp;clear hw2 fj ajP Ax;refine bH (by kernel_rfl) (by kernel_rfl) ?_
 repeat (go_big_quiet_step (first|(go_at_call 31;exact aW (Qly.out _ ⟨_,rfl⟩))|(go_at_call 87;exact aW (Qpy.out _ ⟨_,rfl⟩))|(go_at_call 126;rw[← hlv.out];exact aW (Qcy.out _ ⟨_,rfl⟩))))
 refine wpQuiet_nil ?_
 intro w3 hb3;have hs:=hs.same hb3;clear kp kv hb3 Qly Qpy Qcy;clear Qck ae4 Zy Z1 z1;go_wp2
 go_loopw [14] (fun v wr=>∃ i:Nat,v=.int .i64 i/\i<=q/\St K wr (blk bp (.cells #[.int .i64 (nd.pg).az,(.slice a1 q mj),.string (nd.pg).hi,.bool (nd.pg).la,.int .u64 (nd.pg).ri] 43)::ak (.slice a1 q mj) 69 2 q (aD nd.pg.sl)::blk bv (.cells #[.int .i64 (d).th,.int .i64 (d).sn,.int .i64 (d).no,.int .i64 (d).ch,.int .i64 (d).re,.int .i64 (d).fa,.int .u64 (d).cl,.slice (some ⟨g,0,none⟩) n n] 52)::ak (.slice ab m cb) 23 1 m (aQ below)::ak (.slice al m cl) 9 1 m (bG mi)::F)) (fun v _=>q-(intOf v).toNat)
 case atStart=>exact⟨0,rfl,by omega,hs⟩
 case round=>
  clear hs;obtain⟨i,rfl,hi,hs⟩:=hrel;by_cases hiq:i<q
  ·obtain⟨s,hsi⟩:∃ s,nd.pg.sl[i]?=some s:=⟨_,aqt (by have:=Hq.out;omega)⟩
   have hmem:=aqs hsi;have eJ:=(HS.out.ok.bd s hmem).1;have hdn:=HS.out.dn s hmem;have qY:0<az->i=0->s.k=nd.low:=fun h1 h2=>by
    obtain⟨s',r',e1,e2⟩:=HS.out.ne h1;rw[h2,e1]at hsi;rw[← e2,← aqu hsi]
   obtain⟨x0,x1⟩:=fX nd.pg.sl i s hsi;obtain⟨ga,Ns,cz⟩:=(show St K wr (ak _ _ _ _ _::_)from hs.b1).cP x0
   subst Ns;clear cz;have X0:=aqo x0;have X1:=aqo x1;have ab0:=aqo qY;have Hdn:=aqo hdn;clear x0 x1 qY hdn hmem hsi;have kp:=hs.k0;go_upto_region 7 with(fail)
   go_cut [81]from 999 to 0 (fun v wx=>v=.bool false/\St K wx (blk bp (.cells #[.int .i64 (nd.pg).az,(.slice (some ⟨ga,0,none⟩) q mj),.string (nd.pg).hi,.bool (nd.pg).la,.int .u64 (nd.pg).ri] 43)::ak (.slice (some ⟨ga,0,none⟩) q mj) 69 2 q (aD nd.pg.sl)::blk bv (.cells #[.int .i64 (d).th,.int .i64 (d).sn,.int .i64 (d).no,.int .i64 (d).ch,.int .i64 (d).re,.int .i64 (d).fa,.int .u64 (d).cl,.slice (some ⟨g,0,none⟩) n n] 52)::ak (.slice ab m cb) 23 1 m (aQ below)::ak (.slice al m cl) 9 1 m (bG mi)::F))
   case first=>
    as_aux_lemma=>
    by_cases hl0:0<az
    ·rcases Nat.eq_zero_or_pos i with h0|h0
     ·have e:=ab0.out hl0 h0
      have c0:=(show St K wr (ak _ _ _ _ _::_)from hs.b1).bJ X0.out
      rw[e]at c0 eJ;subst h0;have oy:(0:Int)<az:=by omega
      have c0':wr.cell? ⟨ga,0,none⟩=some (.string nd.low):=by simpa using c0
      clear e;go_wp2
      go_meet;exact⟨rfl,hs⟩
     ·have c0:=(show St K wr (ak _ _ _ _ _::_)from hs.b1).bJ X0.out
      have oy:(0:Int)<az:=by omega
      have z:((i:Int) == 0)=false:=by simp;omega
      go_wp2
      go_meet;exact⟨rfl,hs⟩
    ·have c0:=(show St K wr (ak _ _ _ _ _::_)from hs.b1).bJ X0.out
     obtain rfl:az=0:=by omega
     go_wp2
     go_meet;exact⟨rfl,hs⟩
   case rest=>
   clear hs kp;obtain⟨rfl,hs⟩:=hcut;apply_assumption
   go_wp2
   go_loopw [15,16] (fun v15 v16 wr=>∃ (b:Bool) (k:Nat),v15=.bool b/\v16=.int .i64 k/\k<=m/\Hid ((az=0->b=true)/\∀ k':Nat,k' < k->below[k']?=some s.r->mi[k']?=some s.k->b=true)/\St K wr (blk bp (.cells #[.int .i64 (nd.pg).az,(.slice (some ⟨ga,0,none⟩) q mj),.string (nd.pg).hi,.bool (nd.pg).la,.int .u64 (nd.pg).ri] 43)::ak (.slice (some ⟨ga,0,none⟩) q mj) 69 2 q (aD nd.pg.sl)::blk bv (.cells #[.int .i64 (d).th,.int .i64 (d).sn,.int .i64 (d).no,.int .i64 (d).ch,.int .i64 (d).re,.int .i64 (d).fa,.int .u64 (d).cl,.slice (some ⟨g,0,none⟩) n n] 52)::ak (.slice ab m cb) 23 1 m (aQ below)::ak (.slice al m cl) 9 1 m (bG mi)::F)) (fun _ v16 _=>m-(intOf v16).toNat)
   case atStart=>exact⟨_,0,rfl,rfl,by omega,aqo ⟨fun h=>by subst h;rfl,fun k' h=>by omega⟩,hs⟩
   case round=>
    clear hs;obtain⟨b,k,rfl,rfl,hk,HB,hs⟩:=hrel;by_cases hkm:k<m
    ·obtain⟨x,hx⟩:∃ x,below[k]?=some x:=⟨_,aqt (by have:=Hm.out;omega)⟩
     obtain⟨y,hy⟩:∃ y,mi[k]?=some y:=⟨_,aqt (by have:=Hm.out;have:=Hbl.out;omega)⟩
     obtain⟨gb,hgb,cx⟩:=(show St K wr (ak _ _ _ _ _::_)from hs.b3).cP (show(aQ below)[k]?=some (.int .u64 x)by simp[aQ,hx])
     obtain⟨gl,hgl,cy⟩:=(show St K wr (ak _ _ _ _ _::_)from hs.b4).cP (show(bG mi)[k]?=some (.string y)by simp[bG,hy])
     subst hgb hgl;have kp:=hs.k0;have c0:=(show St K wr (ak _ _ _ _ _::_)from hs.b1).bJ X0.out
     have c1:=(show St K wr (ak _ _ _ _ _::_)from hs.b1).bJ X1.out
     have Hx:=aqo hx;have Hy:=aqo hy;clear hx hy;go_upto_region 13 with(fail)
     refine bH (by kernel_rfl) (by kernel_rfl) ?_
     rcases Bool.eq_false_or_eq_true b with rfl|rfl
     ·as_aux_lemma=>
      repeat (go_big_quiet_step (fail))
      refine wpQuiet_nil ?_
      intro w5 hb5;have hs:=hs.same hb5;clear kp c0 c1 cx cy hb5;go_wp2
      go_roundw
      case rel=>exact⟨_,k+1,rfl,by go_num,by omega,aqo (⟨fun _=>rfl,fun _ _ _ _=>rfl⟩),hs⟩
      case measure=>simp[intOf];omega
     ·cases Jv:(x == s.r)with
      | false=>
       as_aux_lemma=>
       have HX:=aqo (show ∀ k':Nat,k' < k+1->below[k']?=some s.r->mi[k']?=some s.k->false=true from fun k' h1 h2 h3=>by
        by_cases e:k'=k
        ·rw[e,Hx.out]at h2
         rw[aqu h2]at Jv;simp at Jv
        ·exact HB.out.2 k' (by omega) h2 h3)
       repeat (go_big_quiet_step (fail))
       refine wpQuiet_nil ?_
       intro w5 hb5;have hs:=hs.same hb5;clear kp c0 c1 cx cy hb5;go_wp2
       go_roundw
       case rel=>exact⟨_,k+1,rfl,by go_num,by omega,aqo (⟨HB.out.1,HX.out⟩),hs⟩
       case measure=>simp[intOf];omega
      | true=>
       cases hyk:(y.toList == s.k.toList)with
       | false=>
        as_aux_lemma=>
        have HX:=aqo (show ∀ k':Nat,k' < k+1->below[k']?=some s.r->mi[k']?=some s.k->false=true from fun k' h1 h2 h3=>by
         by_cases e:k'=k
         ·rw[e,Hy.out]at h3
          rw[aqu h3]at hyk;simp at hyk
         ·exact HB.out.2 k' (by omega) h2 h3)
        repeat (go_big_quiet_step (fail))
        refine wpQuiet_nil ?_
        intro w5 hb5;have hs:=hs.same hb5;clear kp c0 c1 cx cy hb5;go_wp2
        go_roundw
        case rel=>exact⟨_,k+1,rfl,by go_num,by omega,aqo (⟨HB.out.1,HX.out⟩),hs⟩
        case measure=>simp[intOf];omega
       | true=>
        as_aux_lemma=>
        repeat (go_big_quiet_step (fail))
        refine wpQuiet_nil ?_
        intro w5 hb5;have hs:=hs.same hb5;clear kp c0 c1 cx cy hb5;go_wp2
        go_roundw
        case rel=>exact⟨_,k+1,rfl,by go_num,by omega,aqo (⟨fun _=>rfl,fun _ _ _ _=>rfl⟩),hs⟩
        case measure=>simp[intOf];omega
    ·obtain rfl:k=m:=by omega
     obtain rfl:b=true:=by
      rcases Hdn.out with h|⟨k',h1,h2⟩
      ·exact HB.out.1 h
      ·exact HB.out.2 k' (by have:=(aqq.1 h1).1;have:=Hm.out;omega) h1 h2
     go_wp2
     go_roundw
     case rel=>exact⟨i+1,by go_num,by omega,hs⟩
     case measure=>simp[intOf];omega
  ·have kp:=hs.k0
   rcases Hri.out with h|⟨h,h1,h2,h3⟩
   ·rw[h]at kp
    clear h;go_wp2
    go_ret;exact⟨rfl,hs.tail.tail.tail⟩
   ·have kv:=hs.k2
    rw[h]at kp;have qn:=Qn.out nd.pg.ri (by omega)
    rw[decide_eq_true (show 1<=nd.pg.ri/\nd.pg.ri<=d.no/\nd.pg.ri<=(ah L 4).n from⟨h1,h2,h3⟩)]at qn
    have QN:=aqo qn;clear h qn h1 h2 h3;go_wp2_with fail
    refine(QN.out _ _ hs).mono ?_
    clear hs kp kv;rintro e w4 ⟨rfl,hs⟩;go_wp2
    go_ret;exact⟨rfl,hs.tail.tail.tail⟩
end
def jc (t:List (List Nd)):Nat->List Nd
 | 0=>[]
 | k+1=>(t[k]?).getD []
def uP (pg:Pg)(u:Value)(e1 e2:Nat)(e:Nat)(_ρ:Nat->Option Value)(v:Value)(cs:List aB):Prop:=
 if e=e1 then ∃ (a:Option Addr) (c:Nat),v=(.agg #[.int .i64 (pg).az,(.slice a pg.sl.length c),.string (pg).hi,.bool (pg).la,.int .u64 (pg).ri])/\cs=[bq (.slice a pg.sl.length c) pg]
 else if e=e2 then v=u/\cs=[]else False
theorem uP.mono {pg:Pg}{u:Value}{e1 e2:Nat}{es:List Nat}:Qj es (uP pg u e1 e2):=by
 intro e ρ v cs k u he hk h;exact h
theorem cA.snd {d:aR}{L:List aP}{t:List (List Nd)}(ht:cA d L t){az:Nat}{l:List Nd}(hl:t[az]?=some l){nd:Nd}(hn:nd∈l):Zx d L az ((jc t az).map (·.id)) ((jc t az).map (·.low)) nd:=by
 obtain⟨i,hi⟩:=aqp hn;have hil:=(aqq.1 hi).1;have hR:=ht.rows az l hl;refine⟨ht.nodes az l hl nd hn,hR.az nd hn,fun h0=>?_,fun h=>?_,fun h=>?_,fun s hs=>?_⟩
 ·obtain⟨k,rfl⟩:∃ k,az=k+1:=⟨az-1,by omega⟩
  obtain⟨l0,hl0⟩:∃ l0,t[k]?=some l0:=⟨_,aqt (by have:=(aqq.1 hl).1;omega)⟩
  exact(ht.down k l0 l hl0 hl nd hn).1
 ·rcases Nat.lt_or_ge (i+1) l.length with hlt|hge
  ·have:=(hR.next i nd _ hi (aqt hlt)).1
   rw[h]at this;cases this
  ·exact(hR.last i nd hi (by omega)).2
 ·rcases Nat.lt_or_ge (i+1) l.length with hlt|hge
  ·obtain⟨b,hb⟩:∃ b,l[i+1]?=some b:=⟨_,aqt hlt⟩
   rw[(hR.next i nd b hi hb).2.2.1];have h1:=(ht.nodes az l hl b (aqs hb)).id;have h2:=ht.used az l hl b (aqs hb);omega
  ·have:=(hR.last i nd hi (by omega)).1
   rw[h]at this;cases this
 ·rcases Nat.eq_zero_or_pos az with h0|h0
  ·exact .inl h0
  ·obtain⟨k,rfl⟩:∃ k,az=k+1:=⟨az-1,by omega⟩
   obtain⟨l0,hl0⟩:∃ l0,t[k]?=some l0:=⟨_,aqt (by have:=(aqq.1 hl).1;omega)⟩
   obtain⟨c,hc,e1,e2⟩:=(ht.down k l0 l hl0 hl nd hn).2 s hs;obtain⟨j,hj⟩:=aqp hc;have hb:jc t (k+1)=l0:=by show(t[k]?).getD []=l0;rw[hl0];rfl
   refine .inr ⟨j,?_,?_⟩
   ·rw[hb,List.getElem?_map,hj,← e1];rfl
   ·rw[hb,List.getElem?_map,hj,← e2];rfl
theorem cA.ae6 {d:aR}{L:List aP}{t:List (List Nd)}(hd:d.Ok)(ht:cA d L t)(k:Nat):(jc t k).length<=4096:=by
 have h1:=ht.count;have h2:=ht.n4;have h3:=hd.mM;cases k with
 | zero=>exact Nat.zero_le _
 | succ k=>
  show((t[k]?).getD []).length<=4096
  cases h:t[k]? with
  | none=>exact Nat.zero_le _
  | some l=>have:=List.cT h;show l.length<=4096;omega
structure Uf (d:aR)(L:List aP)(t:List (List Nd)):Prop where
 tr:cA d L t
 ct:ae3 d L
 ch:∀ l,t[0]?=some l->Zw d L ((l.flatMap fun nd=>nd.pg.sl).map (·.r))
theorem yY {K:aK}{w:World}{F:List aB}{d:aR}{g:Nat}{L:List aP}{t:List (List Nd)}(hd:d.Ok)(hL:bI L)(hlen:(L.length:Int)=d.cells)(hO:Uf d L t)(hg:K.map g=some (.cells (flat L).toArray 63))(hs:St K w F) :
  Calls Tryz.prog 24 #[.agg #[.int .i64 (d).th,.int .i64 (d).sn,.int .i64 (d).no,.int .i64 (d).ch,.int .i64 (d).re,.int .i64 (d).fa,.int .u64 (d).cl,.slice (some ⟨g,0,none⟩) L.length L.length]] w fun e w' => e=.returned (.bool true)/\St K w' F:=by
 have ht:=hO.tr;have iY:=hd.mM;have hcb:=hd.dL;have hl:L.length<=1000000:=by omega
 have htl:=ht.Cx hd;have hs:=hs.made (.cells #[.int .i64 (d).th,.int .i64 (d).sn,.int .i64 (d).no,.int .i64 (d).ch,.int .i64 (d).re,.int .i64 (d).fa,.int .u64 (d).cl,.slice (some ⟨g,0,none⟩) L.length L.length] 52);obtain⟨bv,nN⟩:∃ bv,bv=w.heap.size:=⟨_,rfl⟩;obtain⟨l0,hl0⟩:∃ l0,t[0]?=some l0:=⟨_,aqt ht.ne⟩;obtain⟨rt,rest,gU,hroot⟩:=ht.top;have Nq:=(ht.nodes _ _ gU rt List.mem_cons_self).id;have ae7:=ht.used _ _ gU rt List.mem_cons_self;have Q0:=aqo (fun W (h:W.heap[g]?=some (.cells (flat L).toArray 63))=>gu (d:=d) 0 W (kK (K:=aK.of W) h hl (St.start W)))
 have Qn:=aqo (fun W (h:W.heap[g]?=some (.cells (flat L).toArray 63))=>(nM (K:=aK.of W) hd (ah L 0).n (by rw[hroot];omega) h hl (St.start W)).mono (fun e w' (h:_/\_)=>(⟨h.1,h.2.below (aK.Le.refl _)⟩:_/\Below W.heap.size W w')))
 rw[decide_eq_true (show 1<=(ah L 0).n/\(ah L 0).n<=d.no/\(ah L 0).n<=(ah L 4).n from by rw[hroot];exact⟨Nq.1,Nq.2,ae7⟩)]at Qn
 have Qc:=aqo (fun W (h:W.heap[g]?=some (.cells (flat L).toArray 63))=>(Ds (K:=aK.of W) hd hL hO.ct h hl (St.start W)).mono (fun e w' (h:_/\_)=>(⟨h.1,h.2.below (aK.Le.refl _)⟩:_/\Below W.heap.size W w')))
 have Qh:=aqo (fun W (h:W.heap[g]?=some (.cells (flat L).toArray 63))=>(Nt (K:=aK.of W) hd hL ht hl0 (hO.ch l0 hl0) h hl (St.start W)).mono (fun e w' (h:_/\_)=>(⟨h.1,h.2.below (aK.Le.refl _)⟩:_/\Below W.heap.size W w')))
 have Qt:=aqo (fun W cs (h:St K W cs)=>vS hd ht hlen hg h)
 have Ql:=aqo (fun(k:Nat) (hk:k<=t.length) W cs (h:St K W cs)=>iN (k:=k) hd ht hk hg hl h)
 have Qp:=aqo (fun(k:Nat) (l:List Nd) (nd:Nd) (hk:t[k]?=some l) (hn:nd∈l) W cs (h:St K W cs)=>fC hd (ht.nodes k l hk nd hn).id.1 (ht.nodes k l hk nd hn).id.2 (ht.nodes k l hk nd hn).page hg hl h)
 have Qs:=aqo (fun(az:Nat) (l:List Nd) (nd:Nd) (hk:t[az]?=some l) (hn:nd∈l) (B:Nat) (hB:B=(jc t az).length) (ab al:Option Addr) (cb cl:Nat) W cs (h:St K W (ak (.slice ab B cb) 23 1 B (aQ ((jc t az).map (·.id)))::ak (.slice al B cl) 9 1 B (bG ((jc t az).map (·.low)))::cs))=>
  show Calls Tryz.prog 86 #[.agg #[.int .i64 (d).th,.int .i64 (d).sn,.int .i64 (d).no,.int .i64 (d).ch,.int .i64 (d).re,.int .i64 (d).fa,.int .u64 (d).cl,.slice (some ⟨g,0,none⟩) L.length L.length],.int .u64 nd.id,.int .i64 az,.string nd.low,.slice ab B cb,.slice al B cl] W fun e w' => e=.returned (.bool true)/\St K w' (ak (.slice ab B cb) 23 1 B (aQ ((jc t az).map (·.id)))::ak (.slice al B cl) 9 1 B (bG ((jc t az).map (·.low)))::cs)from by
   have q:=Ue (ab:=ab) (al:=al) (cb:=cb) (cl:=cl) (F:=cs) hd (ht.snd hk hn) (by have:=(aqq.1 hk).1;omega) (by rw[List.length_map,List.length_map];exact⟨rfl,ht.ae6 hd az⟩) hL hg hl (w:=W)
   rw[List.length_map,List.length_map,← hB]at q;exact q h)
 have Hg:=aqo hg;have Ht:=aqo ht;have Hbr:=aqo (ht.ae6 hd);obtain⟨n,hn⟩:∃ n,n=L.length:=⟨_,rfl⟩;have Hlc:=aqo (show ∀ (k:Nat) (l:List Nd),t[k]?=some l->l.length<=4096 from fun k l h=>by have:=List.cT h;have:=ht.count;have:=ht.n4;omega)
 rw[← hn]at Q0 Qn Qc Qh Qt Ql Qp Qs hs ⊢;obtain⟨iv,cZ,dc,dg,dh⟩:=info_parts oZ;have lC:=aqo cZ;have lD:=aqo dc;have lF:=aqo dg;have lG:=aqo dh;clear cZ dc dg dh gU hroot Nq ae7 hlen hl hcb hL hO hg ht hl0 hn;go_enter Tryz.func24,Tryz.ntmps24
 go_upto_region 1 with(fail)
 rw[← nN]at hs ⊢;have kv:=hs.k0;obtain⟨w1,hw1⟩:∃ w1,w1=w.alloc (.cells #[.int .i64 (d).th,.int .i64 (d).sn,.int .i64 (d).no,.int .i64 (d).ch,.int .i64 (d).re,.int .i64 (d).fa,.int .u64 (d).cl,.slice (some ⟨g,0,none⟩) n n] 52):=⟨_,rfl⟩;rw[← hw1]at hs kv ⊢;clear hw1 nN;have Hz:=fun wz (hy:∃ x:Ext,wz=over w1 x)=>(hs.same (Pure.below hy)).jM g _ Hg.out
 have Q0y:=aqo (fun wz (hy:∃ x:Ext,wz=over w1 x)=>Q0.out wz (Hz wz hy))
 have Qny:=aqo (fun wz (hy:∃ x:Ext,wz=over w1 x)=>Qn.out wz (Hz wz hy))
 have Qcy:=aqo (fun wz (hy:∃ x:Ext,wz=over w1 x)=>Qc.out wz (Hz wz hy))
 have Qhy:=aqo (fun wz (hy:∃ x:Ext,wz=over w1 x)=>Qh.out wz (Hz wz hy))
 clear Hz Q0 Qn Qc Qh;refine bH (by kernel_rfl) (by kernel_rfl) ?_
 repeat (go_big_quiet_step (first|(go_at_call 83;exact aW (Q0y.out _ ⟨_,rfl⟩))|(go_at_call 82;exact aW (Qny.out _ ⟨_,rfl⟩))|(go_at_call 84;exact aW (Qcy.out _ ⟨_,rfl⟩))|(go_at_call 85;exact aW (Qhy.out _ ⟨_,rfl⟩))))
 refine wpQuiet_nil ?_
 intro w2 hb2;have hs:=hs.same hb2;clear kv hb2 Q0y Qny Qcy Qhy;have hs:=(hs.cD (T:=23) (size:=1));have hs:=(hs.cD (T:=9) (size:=1)).b1;go_wp2
 go_loopw [3,4,5] (fun v3 v4 v5 wr=>∃ (az B:Nat) (ab al:Option Addr) (cb cl:Nat),v3=.slice ab B cb/\v4=.slice al B cl/\v5=.int .i64 az/\az<=t.length/\Hid (B=(jc t az).length)/\St K wr (ak (.slice ab B cb) 23 1 B (aQ ((jc t az).map (·.id)))::ak (.slice al B cl) 9 1 B (bG ((jc t az).map (·.low)))::blk bv (.cells #[.int .i64 (d).th,.int .i64 (d).sn,.int .i64 (d).no,.int .i64 (d).ch,.int .i64 (d).re,.int .i64 (d).fa,.int .u64 (d).cl,.slice (some ⟨g,0,none⟩) n n] 52)::F)) (fun _ _ v5 _=>t.length-(intOf v5).toNat)
 case atStart=>exact⟨0,0,none,none,0,0,rfl,rfl,rfl,by omega,aqo rfl,hs⟩
 case round=>
  clear hs;obtain⟨az,B,ab,al,cb,cl,rfl,rfl,rfl,hlt,HB,hs⟩:=hrel;have kv:=hs.k2;go_wp2_with fail
  refine(Qt.out _ _ hs).mono ?_
  clear hs kv;rintro e w3 ⟨rfl,hs⟩;have kv:=hs.k2;by_cases cg:az<t.length
  ·obtain⟨l,hl⟩:∃ l,t[az]?=some l:=⟨_,aqt cg⟩
   have hR:=Ht.out.rows az l hl;obtain⟨m,hm⟩:∃ m,m=l.length:=⟨_,rfl⟩;have hm0:0<m:=by rw[hm];exact hR.ne
   have hm4:m<=4096:=by rw[hm];exact Hlc.out az l hl
   obtain⟨⟨pid,aoP,⟨ajQ,psl,phi,pla,pri⟩⟩,Km⟩:∃ x,l[m-1]?=some x:=⟨_,aqt (by omega)⟩
   obtain rfl:pla=true:=(hR.last (m-1) _ Km (by omega)).1
   have qlv:=fun W cs (h:St K W cs)=>Ql.out az (by omega) W cs h
   have fJ:gV t az=l.map (·.id):=by unfold gV;rw[hl]
   rw[fJ]at qlv;have Dm:(l.map (·.id)).length=m:=by rw[List.length_map,hm]
   rw[Dm]at qlv;have QL:=aqo qlv;have QPl:=aqo (fun W cs (h:St K W cs)=>Qp.out az l _ hl (aqs Km) W cs h)
   have QN0:=aqo (fun(nd:Nd) (hn:nd∈l) W cs (h:St K W cs)=>Qp.out az l nd hl hn W cs h)
   have QS0:=aqo (fun(nd:Nd) (hn:nd∈l) W cs (h:St K W (ak (.slice ab B cb) 23 1 B (aQ ((jc t az).map (·.id)))::ak (.slice al B cl) 9 1 B (bG ((jc t az).map (·.low)))::cs))=>Qs.out az l nd hl hn B HB.out ab al cb cl W cs h)
   have Zz:=aqo Km;have Hl:=aqo hl;have HR:=aqo hR;have Hm:=aqo hm;have hmi:((m:Int)-1)=((m-1:Nat):Int):=by omega
   have zm:((m:Int) == 0)=false:=by simp;omega
   have Hmi:=aqo hmi;have Zm:=aqo zm;clear Km hl hR fJ Dm qlv hm hmi zm;go_wp2_with fail
   refine(QL.out _ _ hs).mono ?_
   clear hs kv QL;rintro e w4 ⟨va,rfl,hs⟩;obtain⟨aa,ca,rfl,_,_⟩:=hs.aF;obtain⟨ga,Ns,cz⟩:=hs.cP (show(aQ (l.map (·.id)))[m-1]?=some (.int .u64 pid)by simp[aQ,Zz.out])
   subst Ns;clear cz;go_upto_region 9 with(fail)
   have zm:=Zm.out;have hmi:=Hmi.out;go_cut [49]from 999 to 0 (fun v wx=>v=.bool false/\St K wx (ak (.slice (some ⟨ga,0,none⟩) m ca) 23 1 m (aQ (l.map (·.id)))::ak (.slice ab B cb) 23 1 B (aQ ((jc t az).map (·.id)))::ak (.slice al B cl) 9 1 B (bG ((jc t az).map (·.low)))::blk bv (.cells #[.int .i64 (d).th,.int .i64 (d).sn,.int .i64 (d).no,.int .i64 (d).ch,.int .i64 (d).re,.int .i64 (d).fa,.int .u64 (d).cl,.slice (some ⟨g,0,none⟩) n n] 52)::F))
   case first=>
    as_aux_lemma=>
    have Hs:=aqo hs;clear hs;refine cY [false,false,false,false,false,false,false,false,false,false,false,true,true,false,false] (fun|12=>some (.bool true)|_=>none) [11,12] (fun|12=>[11] | _=>[])
     (GR K (ak (.slice (some ⟨ga,0,none⟩) m ca) 23 1 m (aQ (l.map (·.id)))::ak (.slice ab B cb) 23 1 B (aQ ((jc t az).map (·.id)))::ak (.slice al B cl) 9 1 B (bG ((jc t az).map (·.low)))::blk bv (.cells #[.int .i64 (d).th,.int .i64 (d).sn,.int .i64 (d).no,.int .i64 (d).ch,.int .i64 (d).re,.int .i64 (d).fa,.int .u64 (d).cl,.slice (some ⟨g,0,none⟩) n n] 52)::F) [11,12] (uP ⟨ajQ,psl,phi,true,pri⟩ (.bool true) 11 12))
     (fun W=>St K W (ak (.slice (some ⟨ga,0,none⟩) m ca) 23 1 m (aQ (l.map (·.id)))::ak (.slice ab B cb) 23 1 B (aQ ((jc t az).map (·.id)))::ak (.slice al B cl) 9 1 B (bG ((jc t az).map (·.low)))::blk bv (.cells #[.int .i64 (d).th,.int .i64 (d).sn,.int .i64 (d).no,.int .i64 (d).ch,.int .i64 (d).re,.int .i64 (d).fa,.int .u64 (d).cl,.slice (some ⟨g,0,none⟩) n n] 52)::F)) ?ajR (by kernel_rfl) ?ab1 ?raH ?Ug ?ab2 ?ab3 ?ab4 ?ab5 ?ab6
    case ab1=>as_aux_lemma=>kernel_rfl
    case raH=>
     intro W2 hs;have kv:=hs.b3.k0;have c0:=hs.bJ (show(aQ (l.map (·.id)))[m-1]?=some (.int .u64 pid)by simp[aQ,Zz.out])
     clear hs;simp only[cM];repeat (go_big_quiet_step (fail))
     refine wpQuiet_nil ?_
     rfl
    case Ug=>rfl
    case ab2=>exact GR.start Hs.out
    case ab3=>exact fun ρ W2 h=>h.rest
    case ab4=>exact fun ρ W2 W3 h hb=>h.same hb
    case ab5=>
     refine⟨?ae8,?ae9,trivial⟩;case ae8=>
      intro o ho ρ W2 h hcl h11 hd2 act cj;obtain rfl:=aqu ho;replace cj:act=aj _ ρ [] _:=cj;obtain⟨C,R',hx1,hs,hnext⟩:=h.step uP.mono 11 [] (by decide) (by decide) (by decide) h11 (by simp)
      simp only[aj]at cj;subst cj;have Hn:=aqo hnext;clear hnext hx1 h hcl hd2 h11;go_wp2_with fail
      refine(QPl.out _ _ hs).mono ?_
      rintro e W3 ⟨va8,rfl,hs'⟩;obtain⟨a8,c8,rfl,_,_⟩:=hs'.aF;have dZ:=aqo hs';clear hs hs';go_wp2
      exact⟨rfl,_,rfl,fun u hu=>(by cases hu),Hn.out _ _ W3 ⟨a8,c8,rfl,rfl⟩ dZ.out⟩
     case ae9=>
      intro o ho ρ W2 h hcl dr hd2 act cj;obtain rfl:=aqu ho;replace cj:act=aj _ ρ [11] _:=cj;obtain⟨v11,h11⟩:=aqr.1 (hd2 11 (by show _∈[11];simp))
      obtain⟨Vk,R8,⟨a8,c8,rfl,rfl⟩,Yh⟩:=h.at 11 (by simp) h11
      simp only[aj,h11,Option.getD_some,aL,Act.put,aqv]at cj;subst cj;have H:=aqo (h.jM uP.mono 12 (by decide) (by simp) dr _ ⟨rfl,rfl⟩)
      clear h Yh hcl hd2 dr h11;go_wp2
      exact⟨rfl,_,rfl,fun u hu=>aqu hu,H.out⟩
    case ab6=>
     intro ρ W2 h hall;have hs:=h.rest;clear h;simp only[aj,Option.getD_some,aL,Act.put,aqv];go_wp2
     go_meet;exact⟨rfl,hs⟩
   case rest=>
   clear hs zm hmi;obtain⟨rfl,hs⟩:=hcut;apply_assumption
   have hs:=hs.cD (T:=9) (size:=1);go_wp2
   go_loopw [7,8,9] (fun v7 v8 v9 wr=>∃ (i:Nat) (lw:ByteArray) (an:Option Addr) (cn:Nat),v7=.slice an i cn/\v8=.string lw/\v9=.int .i64 i/\i<=m/\Hid (∀ nd:Nd,l[i]?=some nd->lw=nd.low)/\St K wr (ak (.slice an i cn) 9 1 i (bG ((l.map (·.low)).take i))::ak (.slice (some ⟨ga,0,none⟩) m ca) 23 1 m (aQ (l.map (·.id)))::ak (.slice ab B cb) 23 1 B (aQ ((jc t az).map (·.id)))::ak (.slice al B cl) 9 1 B (bG ((jc t az).map (·.low)))::blk bv (.cells #[.int .i64 (d).th,.int .i64 (d).sn,.int .i64 (d).no,.int .i64 (d).ch,.int .i64 (d).re,.int .i64 (d).fa,.int .u64 (d).cl,.slice (some ⟨g,0,none⟩) n n] 52)::F)) (fun _ _ v9 _=>m-(intOf v9).toNat)
   case atStart=>exact⟨0,_,none,0,rfl,rfl,rfl,by omega,aqo (fun nd h=>((HR.out.first nd h)).symm),hs⟩
   case round=>
    clear hs;obtain⟨i,lw,an,cn,rfl,rfl,rfl,hi,Hlw,hs⟩:=hrel;by_cases him:i<m
    ·obtain⟨nd,hnd⟩:∃ nd,l[i]?=some nd:=⟨_,aqt (by have:=Hm.out;omega)⟩
     obtain rfl:=Hlw.out nd hnd;have QN:=aqo (QN0.out nd (aqs hnd));have QS:=aqo (QS0.out nd (aqs hnd));have dX:(l.map (·.low)).take (i+1)=(l.map (·.low)).take i++[nd.low]:=by rw[List.take_add_one,List.getElem?_map,hnd];rfl
     have zb:∀ lY:Nd,l[i+1]?=some lY->nd.pg.hi=lY.low:=fun lY h=>(HR.out.next i nd lY hnd h).2.1
     have Nj:=aqo hnd;have iK:=aqo dX;have Hnx:=aqo zb;have kv:=hs.b4.k0;have c0:=(show St K wr (ak _ _ _ _ _::_)from hs.b1).bJ (show(aQ (l.map (·.id)))[i]?=some (.int .u64 nd.id)by simp[aQ,Nj.out])
     clear hnd dX zb Hlw;go_upto_region 16 with(fail)
     refine bO 9 (by kernel_rfl) (by as_aux_lemma=>kernel_rfl) ?_
     simp only[List.take_succ_cons,List.take_zero,List.drop_succ_cons,List.drop_zero];repeat (go_big_quiet_step (fail))
     refine wpQuiet_nil ?_
     intro w5 hb5;have hs:=hs.same hb5;clear kv c0 hb5;go_wp2_with fail
     refine(QS.out _ _ (hs.re [2,3,0,1] rfl)).mono ?_
     clear hs QS;rintro e w6 ⟨rfl,hs⟩;have hs:=hs.re [2,3,0,1] rfl;go_wp2_with (at_builtin;refine dB _ _ 22 9 _ i 1 16 _ [.string nd.low] (.string ⟨#[]⟩) iv hs rfl rfl Tryz.underlying22 lC.out lD.out lF.out lG.out rfl (by decide) rfl rfl rfl (fun u hu=>by simp at hu;subst hu;rfl) (by omega) (by decide) ?_)
     clear hs;intro v' w' hs;obtain⟨an,cn,hv,_,_⟩:=hs.aF;subst hv;have hs:=hs.row_eq (ys:=bG ((l.map (·.low)).take (i+1))) (by rw[iK.out,jT])
     go_upto_region 19 with(fail)
     have Hs:=aqo hs;clear hs;refine cY [false,false,false,false,false,true,true,false] (fun|6=>some (.string nd.pg.hi)|_=>none) [5,6] (fun|6=>[5] | _=>[])
      (GR K (ak (.slice an (i+1) cn) 9 1 (i+1) (bG ((l.map (·.low)).take (i+1)))::ak (.slice (some ⟨ga,0,none⟩) m ca) 23 1 m (aQ (l.map (·.id)))::ak (.slice ab B cb) 23 1 B (aQ ((jc t az).map (·.id)))::ak (.slice al B cl) 9 1 B (bG ((jc t az).map (·.low)))::blk bv (.cells #[.int .i64 (d).th,.int .i64 (d).sn,.int .i64 (d).no,.int .i64 (d).ch,.int .i64 (d).re,.int .i64 (d).fa,.int .u64 (d).cl,.slice (some ⟨g,0,none⟩) n n] 52)::F) [5,6] (uP nd.pg (.string nd.pg.hi) 5 6))
      (fun W=>St K W (ak (.slice an (i+1) cn) 9 1 (i+1) (bG ((l.map (·.low)).take (i+1)))::ak (.slice (some ⟨ga,0,none⟩) m ca) 23 1 m (aQ (l.map (·.id)))::ak (.slice ab B cb) 23 1 B (aQ ((jc t az).map (·.id)))::ak (.slice al B cl) 9 1 B (bG ((jc t az).map (·.low)))::blk bv (.cells #[.int .i64 (d).th,.int .i64 (d).sn,.int .i64 (d).no,.int .i64 (d).ch,.int .i64 (d).re,.int .i64 (d).fa,.int .u64 (d).cl,.slice (some ⟨g,0,none⟩) n n] 52)::F)) ?afc (by kernel_rfl) ?Uh ?rbH ?Dt ?Ui ?Uj ?Uk ?Ul ?Um
     case Uh=>as_aux_lemma=>kernel_rfl
     case rbH=>
      intro W2 hs;have kv:=hs.b4.k0;have c0:=(show St K W2 (ak _ _ _ _ _::_)from hs.b1).bJ (show(aQ (l.map (·.id)))[i]?=some (.int .u64 nd.id)by simp[aQ,Nj.out])
      clear hs;simp only[cM];repeat (go_big_quiet_step (fail))
      refine wpQuiet_nil ?_
      rfl
     case Dt=>rfl
     case Ui=>exact GR.start Hs.out
     case Uj=>exact fun ρ W2 h=>h.rest
     case Uk=>exact fun ρ W2 W3 h hb=>h.same hb
     case Ul=>
      refine⟨?ab7,?ab8,trivial⟩;case ab7=>
       intro o ho ρ W2 h hcl h5 hd2 act cj;obtain rfl:=aqu ho;replace cj:act=aj _ ρ [] _:=cj;obtain⟨C,R',hx1,hs,hnext⟩:=h.step uP.mono 5 [] (by decide) (by decide) (by decide) h5 (by simp)
       simp only[aj]at cj;subst cj;have Hn:=aqo hnext;clear hnext hx1 h hcl hd2 h5;go_wp2_with fail
       refine(QN.out _ _ hs).mono ?_
       rintro e W3 ⟨va8,rfl,hs'⟩;obtain⟨a8,c8,rfl,_,_⟩:=hs'.aF;have dZ:=aqo hs';clear hs hs';go_wp2
       exact⟨rfl,_,rfl,fun u hu=>(by cases hu),Hn.out _ _ W3 ⟨a8,c8,rfl,rfl⟩ dZ.out⟩
      case ab8=>
       intro o ho ρ W2 h hcl h6 hd2 act cj;obtain rfl:=aqu ho;replace cj:act=aj _ ρ [5] _:=cj;obtain⟨v5,h5⟩:=aqr.1 (hd2 5 (by show _∈[5];simp))
       obtain⟨Vk,R8,⟨a8,c8,rfl,rfl⟩,Yh⟩:=h.at 5 (by simp) h5
       simp only[aj,h5,Option.getD_some,aL,Act.put,aqv]at cj;subst cj;have H:=aqo (h.jM uP.mono 6 (by decide) (by simp) h6 _ ⟨rfl,rfl⟩)
       clear h Yh hcl hd2 h6 h5;go_wp2
       exact⟨rfl,_,rfl,fun u hu=>aqu hu,H.out⟩
     case Um=>
      intro ρ W2 h hall;have hs:=h.rest;clear h;simp only[aj,Option.getD_some,aL,Act.put,aqv];go_wp2
      go_roundw
      case rel=>exact⟨i+1,_,an,cn,rfl,rfl,by go_num,by omega,Hnx,hs⟩
      case measure=>simp[intOf];omega
    ·obtain rfl:i=m:=by omega
     rw[show(l.map (·.low)).take i=l.map (·.low)from List.take_of_length_le (by rw[List.length_map,← Hm.out];exact Nat.le_refl _)]at hs
     have hB1:jc t (az+1)=l:=by show(t[az]?).getD []=l;rw[Hl.out];rfl
     have HB1:=aqo hB1;clear hB1;go_wp2
     go_roundw
     case rel=>exact⟨az+1,i,_,an,ca,cn,rfl,rfl,by go_num,by omega,aqo (by rw[HB1.out,Hm.out]),by rw[HB1.out];exact((hs.re [2,3,1,0,4] rfl).tail.tail)⟩
     case measure=>simp[intOf];omega
  ·go_wp2
   go_ret;exact⟨rfl,hs.tail.tail.tail⟩
end Go.Proofs.YtlpdhhhgckpcfaaGreat
