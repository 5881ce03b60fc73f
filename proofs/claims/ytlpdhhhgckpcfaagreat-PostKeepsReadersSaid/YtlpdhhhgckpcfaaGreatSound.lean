/- dY.View: amB, Refs, Keys, counters,. -/
import Derived.Test.YtlpdhhhgckpcfaaGreatPoAll
namespace Go.Proofs.YtlpdhhhgckpcfaaGreat
set_option linter.unusedSimpArgs false
set_option linter.unusedVariables false
open Go.RowKit
set_option maxHeartbeats 16000000
set_option maxRecDepth 100000
section
section
variable {K:aM}{w:World}{F:List aC}{d:aU}{g:Nat}{L:List aQ}
theorem zF {c:Int}{j:List Gj}(G:d.Ok)(hc:1<=c/\c<=d.ch)(I:uo d L (ah L (d.chain c)).n j)(hn:(j.length:Int)<=d.re)(hg:K.map g=some (.cells (flat L).toArray 63))(hl:L.length<=1000000)(f:St K w F) :
  Calls Tryz.prog 124 #[.agg #[.int .i64 (d).th,.int .i64 (d).sn,.int .i64 (d).no,.int .i64 (d).ch,.int .i64 (d).re,.int .i64 (d).fa,.int .u64 (d).cl,.slice (some ⟨g,0,none⟩) L.length L.length],.int .u64 c] w fun e w' => ∃v,e=.returned v/\St K w' (az v 186 3 j.length (gZ j)::F):=by
 have ap1:=G.re1;have ap2:=G.re2;have ap3:=G.ch2;obtain⟨iv,dm,dr,dw,dx⟩:=info_parts aas;have lO:=ass dm;have lQ:=ass dr;have lR:=ass dw;have lS:=ass dx;clear dm dr dw dx;have f:=f.made (.cells #[.int .i64 (d).th,.int .i64 (d).sn,.int .i64 (d).no,.int .i64 (d).ch,.int .i64 (d).re,.int .i64 (d).fa,.int .u64 (d).cl,.slice (some ⟨g,0,none⟩) L.length L.length] 52);obtain⟨bv,nV⟩:∃bv,bv=w.heap.size:=⟨_,rfl⟩;have Qc:=ass (fun w=>p6 d G c (by omega) (by omega) w)
 have X:=ass (fun(r k:Int) (h1:0<=r/\r<=d.re) (h2:0<=k/\k<=2) w=>vS d G r k (by omega) (by omega) h2.1 h2.2 w)
 have Q:=ass (fun(i:Int) W cs (h:St K W cs)=>gL (d:=d) i W (kT hg hl h))
 obtain⟨m,hm⟩:∃m,m=j.length:=⟨_,rfl⟩;have J:=ass I;have Hm:=ass hm;rw[←hm]at hn ⊢;generalize L.length=n at *;have k0:=f.k0;have C:=f.cJ (T:=186) (size:=3);clear I hm;go_enter Tryz.func124,Tryz.ntmps124
 go_upto_region 2 with(fail)
 have z:=ass (fun s (D:∃x:Ext,s=over (w.alloc (.cells #[.int .i64 (d).th,.int .i64 (d).sn,.int .i64 (d).no,.int .i64 (d).ch,.int .i64 (d).re,.int .i64 (d).fa,.int .u64 (d).cl,.slice (some ⟨g,0,none⟩) n n] 52)) x)=>Q.out (d.chain c) s _ (f.same (Pure.below D)))
 generalize ah L (d.chain c)=cc at *;refine bK (by kernel_rfl) (by kernel_rfl) ?_
 repeat (go_big_quiet_step (first|(go_at_call 123;exact aZ (Qc.out _))|(go_at_call 83;exact aZ (z.out _ ⟨_,rfl⟩))))
 refine wpQuiet_nil ?_
 intro w1 M;rw[←nV]at C ⊢;have f:=C.same (by simpa using M)
 clear C M k0 z Qc nV;go_wp2
 go_loopw [5,6,7] (fun v5 v6 v7 wr=>∃(i:Nat) (r:Int) (E:Option Addr) (co:Nat),v5=.slice E i co/\v6=.int .u64 r/\v7=.int .i64 i/\i<=m/\Hid (uo d L r (j.drop i)) /\
  St K wr (az (.slice E i co) 186 3 i (gZ (j.take i))::blk bv (.cells #[.int .i64 (d).th,.int .i64 (d).sn,.int .i64 (d).no,.int .i64 (d).ch,.int .i64 (d).re,.int .i64 (d).fa,.int .u64 (d).cl,.slice (some ⟨g,0,none⟩) n n] 52)::F)) (fun _ _ v7 _=>m-(intOf v7).toNat)
 case atStart=>exact⟨0,_,none,0,rfl,rfl,rfl,by omega,J,f⟩
 case round=>
  clear f J;obtain⟨i,r,E,co,rfl,rfl,rfl,hi,Y,f⟩:=hrel;by_cases him:i<m
  ·obtain⟨x,Z⟩:∃x,j[i]?=some x:=⟨_,asx (by have:=Hm.out;omega)⟩
   have O:j.drop i=x::j.drop (i+1):=by
    have:=List.drop_eq_getElem_cons (asu.1 Z).1;rw[(asu.1 Z).2]at this;exact this
   have P:=Y.out;rw[O]at P;obtain⟨rfl,Qu,y⟩:=P;obtain⟨r1,r2,r3,r4,r5⟩:=Qu;have hpos:=Gi G r1 r2 (k:=0) (by omega) (by omega)
   have eu:gZ (j.take (i+1))=gZ (j.take i)++qU x:=by rw[List.take_add_one,Z];simp[gZ]
   have B:((ah L (d.record x.r 1)).m == 1)=x.del:=by rw[r5];cases x.del <;> rfl
   have iU:=ass eu;have Vj:=ass y;have ap4:(i:Int)<d.re:=by omega
   have q1:=Q.out (d.record x.r 1);have q0:=Q.out (d.record x.r 0);have q2:=Q.out (d.record x.r 2);rw[r3]at q0;rw[r4]at q1;have Q1:=ass q1;have Q0:=ass q0;have Q2:=ass q2;have R:=ass (fun w=>X.out x.r 0 (by omega) (by omega) w)
   have Qr1:=ass (fun w=>X.out x.r 1 (by omega) (by omega) w)
   have Qr2:=ass (fun w=>X.out x.r 2 (by omega) (by omega) w)
   have akB:=ass B;generalize ah L (d.record x.r 1)=c1 at *;generalize ah L (d.record x.r 0)=c0 at *;generalize ah L (d.record x.r 2)=c2 at *;generalize d.record x.r 0=e0 at *;generalize d.record x.r 1=e1 at *;generalize d.record x.r 2=e2 at *;clear Z O eu y r3 r4 r5 B q0 q1 q2 Y;have A:=f.k1;go_wp2_with fail
   refine(bJ f (R.out _)).mono ?_
   clear f A;rintro e w2 ⟨rfl,f⟩;have A:=f.k1;go_upto_region 6 with(fail)
   have Hs:=ass f;clear f A;refine gH [false,false,false,false,false,false,true,true] 6 7
    (fun W=>St K W (az (.slice E i co) 186 3 i (gZ (j.take i))::blk bv (.cells #[.int .i64 (d).th,.int .i64 (d).sn,.int .i64 (d).no,.int .i64 (d).ch,.int .i64 (d).re,.int .i64 (d).fa,.int .u64 (d).cl,.slice (some ⟨g,0,none⟩) n n] 52)::F))
    (fun v W=>∃b6:Nat,v=(.pointer (some ⟨b6,0,none⟩))/\St K W (blk b6 (.cells #[.int .u64 0,.string ⟨#[]⟩,.int .u64 0] 63)::az (.slice E i co) 186 3 i (gZ (j.take i))::blk bv (.cells #[.int .i64 (d).th,.int .i64 (d).sn,.int .i64 (d).no,.int .i64 (d).ch,.int .i64 (d).re,.int .i64 (d).fa,.int .u64 (d).cl,.slice (some ⟨g,0,none⟩) n n] 52)::F))
    (fun v u W=>u=undef/\∃b6:Nat,v=(.pointer (some ⟨b6,0,none⟩))/\St K W (blk b6 (.cells #[.int .u64 c1.n,.string x.k,.int .u64 c1.m] 63)::az (.slice E i co) 186 3 i (gZ (j.take i))::blk bv (.cells #[.int .i64 (d).th,.int .i64 (d).sn,.int .i64 (d).no,.int .i64 (d).ch,.int .i64 (d).re,.int .i64 (d).fa,.int .u64 (d).cl,.slice (some ⟨g,0,none⟩) n n] 52)::F))
    (fun W=>∃cs,St K W (az (.slice E i co) 186 3 i (gZ (j.take i))::blk bv (.cells #[.int .i64 (d).th,.int .i64 (d).sn,.int .i64 (d).no,.int .i64 (d).ch,.int .i64 (d).re,.int .i64 (d).fa,.int .u64 (d).cl,.slice (some ⟨g,0,none⟩) n n] 52)::cs)) ?aS (by decide) (by kernel_rfl) ?hB ?H ?ja Hs.out ?hI ?hR ?Gm ?vV ?hQ
   case hB=>as_aux_lemma=>kernel_rfl
   case H=>
    rintro S ⟨cs,f⟩;have A:=f.k1;have z:=ass (fun s (D:∃x:Ext,s=over S x)=>Q1.out s _ (f.same (Pure.below D)))
    clear f;simp only[cG];repeat (go_big_quiet_step (first|(go_at_call 155;exact aZ (Qr1.out _))|(go_at_call 83;exact aZ (z.out _ ⟨_,rfl⟩))))
    refine wpQuiet_nil ?_
    rfl
   case ja=>rfl
   case hI=>exact⟨fun W h=>⟨_,h⟩,fun v W ⟨_,_,h⟩=>⟨_,h.tail⟩,fun v u W ⟨_,_,_,h⟩=>⟨_,h.tail⟩⟩
   case hR=>exact⟨fun W W' h U=>h.same U,fun v W W' ⟨b,e,h⟩ U=>⟨b,e,h.same U⟩,fun v u W W' ⟨e0,b,e,h⟩ U=>⟨e0,b,e,h.same U⟩⟩
   case Gm=>
    intro rr o ho ρ S f hk af aD;obtain rfl:=asy ho;subst aD;have Hk:=ass hk;clear hk;have f:=f.made (.cells #[.int .u64 0,.string ⟨#[]⟩,.int .u64 0] 63);go_wp2
    exact⟨rfl,_,rfl,Hk.out _ _ ⟨_,rfl,f⟩⟩
   case vV=>
    rintro rr o ho ρ v S ⟨b6,rfl,f⟩ hk af aD;obtain rfl:=asy ho;have Hk:=ass hk;clear hk;simp only[aP,List.getElem?_cons_succ,List.getElem?_cons_zero,Option.bind_some,Act.put,List.setIfInBounds_toArray,List.set_cons_zero,List.set_cons_succ]at aD;subst aD;have k0:=f.k0;have f0:=f.f0;have f:=((f.aK 0 (.int .u64 c1.n)).aK 1 (.string x.k)).aK 2 (.int .u64 c1.m);simp only[List.set_cons_zero,List.set_cons_succ]at f;go_wp2
    exact⟨rfl,undef,rfl,Hk.out _ _ ⟨rfl,b6,rfl,f⟩⟩
   case hQ=>
    rintro v u S ⟨rfl,b6,rfl,f⟩;simp only[aP,Act.put,asz];have k6:=f.k0;have A:=f.k2;have z:=ass (fun s (D:∃x:Ext,s=over S x)=>Q0.out s _ (f.same (Pure.below D)))
    go_upto_region 7 with(fail)
    refine fK _ 13 rfl rfl (by kernel_rfl) (by as_aux_lemma=>kernel_rfl) (fun _ _ _ _ h=>h) ?_
    simp only[List.take_succ_cons,List.take_zero,List.drop_succ_cons,List.drop_zero,Act.put,List.setIfInBounds_toArray,List.set_cons_zero,List.set_cons_succ,Act.eval];repeat (go_big_quiet_step (first|(go_at_call 155;exact aZ (R.out _))|(go_at_call 83;exact aZ (z.out _ ⟨_,rfl⟩))))
    refine wpQuiet_nil ?_
    intro w5 V;have f:=f.same V;clear k6 A V z;have f:=f.b1;rw[akB.out];go_wp2_with (at_builtin;refine dM _ _ 182 186 _ i 3 32 _ (qU x) (.agg #[.int .u64 0,.string ⟨#[]⟩,.bool false]) iv f rfl rfl Tryz.underlying182 lO.out lQ.out lR.out lS.out rfl (by decide) rfl rfl rfl (fun u hu=>by simp[qU]at hu;rcases hu with rfl|rfl|rfl <;> rfl) (by omega) (by decide) ?_)
    clear f;intro v' w' f;obtain⟨mP,mQ,hv,_,_⟩:=f.aJ;subst hv;rw[←iU.out]at f;have f:=f.b9;have A:=f.k1;have z:=ass (fun s (D:∃x:Ext,s=over w' x)=>Q2.out s _ (f.same (Pure.below D)))
    go_upto_region 8 with(fail)
    refine bK (by kernel_rfl) (by kernel_rfl) ?_
    repeat (go_big_quiet_step (first|(go_at_call 155;exact aZ (Qr2.out _))|(go_at_call 83;exact aZ (z.out _ ⟨_,rfl⟩))))
    refine wpQuiet_nil ?_
    intro w6 Ru;have f:=f.same Ru;clear A Ru z;go_wp2
    go_roundw
    case rel=>exact⟨i+1,_,mP,mQ,rfl,rfl,by go_num,by omega,Vj,f⟩
    case measure=>simp[intOf];omega
  ·obtain rfl:i=m:=by omega
   have P:=Y.out;rw[List.drop_of_length_le (by rw[←Hm.out];exact Nat.le_refl _)]at P
   obtain rfl:r=0:=P;clear Y;have q:=fun w=>X.out 0 0 (by omega) (by omega) w
   rw[show d.record 0 0= -1 by unfold aU.record;rw[if_neg (by omega)]]at q
   have QR:=ass q;clear q;rw[List.take_of_length_le (by rw[←Hm.out];exact Nat.le_refl _)]at f
   have A:=f.k1;by_cases hre:(i:Int)<d.re
   ·go_wp2_with fail
    refine(bJ f (QR.out _)).mono ?_
    clear f A;rintro e w2 ⟨rfl,f⟩;go_wp2
    go_ret;exact⟨_,rfl,f.b9⟩
   ·go_wp2
    go_ret;exact⟨_,rfl,f.b9⟩
variable {t:List (List Nd)}
theorem sP (hd:d.Ok)(G:cT d L t){l:List Nd}(h0:t[0]?=some l)(hg:K.map g=some (.cells (flat L).toArray 63))(hl:L.length<=1000000)(b:St K w F) :
  Calls Tryz.prog 63 #[.agg #[.int .i64 (d).th,.int .i64 (d).sn,.int .i64 (d).no,.int .i64 (d).ch,.int .i64 (d).re,.int .i64 (d).fa,.int .u64 (d).cl,.slice (some ⟨g,0,none⟩) L.length L.length]] w fun e w' => ∃v,e=.returned v/\St K w' (az v 23 1 (l.flatMap fun nd=>nd.pg.sl).length (aO ((l.flatMap fun nd=>nd.pg.sl).map (·.r)))::F):=by
 have jw:=hd.m6;have zf:=hd.m7;have Wi:=G.ne;obtain⟨iv,dm,dr,dw,dx⟩:=info_parts Lr;have lO:=ass dm;have lQ:=ass dr;have lR:=ass dw;have lS:=ass dx;clear dm dr dw dx;have b:=b.made (.cells #[.int .i64 (d).th,.int .i64 (d).sn,.int .i64 (d).no,.int .i64 (d).ch,.int .i64 (d).re,.int .i64 (d).fa,.int .u64 (d).cl,.slice (some ⟨g,0,none⟩) L.length L.length] 52);obtain⟨bv,nV⟩:∃bv,bv=w.heap.size:=⟨_,rfl⟩;have hlen:l.length<=4096:=by have:=List.dg h0;have:=G.count;have:=G.n4;omega
 have fB:∀nd,nd∈l->nd.pg.sl.length<=4096:=fun nd V=>by have:=(G.nodes 0 l h0 nd V).page.le;omega
 have O:∀i,i<=l.length->gU l i<=i*4096:=by
  intro i;induction i with
  | zero=>intro _;exact Nat.le_refl _
  | succ i ih=>
   intro hi;obtain⟨a,ha⟩:∃a,l[i]?=some a:=⟨_,asx (by omega)⟩
   have:=ih (by omega)
   have:=fB a (asw ha);rw[kA ha];omega
 have X:=ass (fun W cs (h:St K W cs)=>iW (k:=0) hd G (by omega) hg hl h)
 have Qp:=ass (fun(nd:Nd) (V:nd∈l) W cs (h:St K W cs)=>fT hd (G.nodes 0 l h0 nd V).id.1 (G.nodes 0 l h0 nd V).id.2 (G.nodes 0 l h0 nd V).page hg hl h)
 have fC:iu t 0=l.map (·.id):=by unfold iu;rw[h0]
 rw[fC]at X;have Ev:(l.map (·.id)).length=l.length:=List.length_map ..
 rw[Ev]at X;obtain⟨m,hm⟩:∃m,m=l.length:=⟨_,rfl⟩;have Hm:=ass hm;have tE:=ass fB;have adb:=ass O;rw[←hm]at X hlen;generalize L.length=n at *;clear G hg fC Ev hm h0 fB O Wi;go_enter Tryz.func63,Tryz.ntmps63
 go_wp2_with fail
 refine(X.out _ _ b).mono ?_
 rw[←nV]at b ⊢;clear b X nV;rintro e w1 ⟨va,rfl,b⟩;obtain⟨a,cap,rfl,_,_⟩:=b.aJ;have b:=b.cJ (T:=23) (size:=1);go_wp2
 go_loopw [3,5] (fun v3 v5 wr=>∃(i:Nat) (A:Option Addr) (co:Nat),v3=.slice A (gU l i) co/\v5=.int .i64 i/\i<=m /\
  St K wr (az (.slice A (gU l i) co) 23 1 (gU l i) (aO (((l.take i).flatMap fun nd=>nd.pg.sl).map (·.r)))::az (.slice a m cap) 23 1 m (aO (l.map (·.id)))::blk bv (.cells #[.int .i64 (d).th,.int .i64 (d).sn,.int .i64 (d).no,.int .i64 (d).ch,.int .i64 (d).re,.int .i64 (d).fa,.int .u64 (d).cl,.slice (some ⟨g,0,none⟩) n n] 52)::F)) (fun _ v5 _=>m-(intOf v5).toNat)
 case atStart=>exact⟨0,none,0,rfl,rfl,by omega,b⟩
 case round=>
  clear b;obtain⟨i,A,co,rfl,rfl,hi,b⟩:=hrel;by_cases him:i<m
  ·obtain⟨nd,f⟩:∃nd,l[i]?=some nd:=⟨_,asx (by have:=Hm.out;omega)⟩
   have QN:=ass (Qp.out nd (asw f));obtain⟨Y,Pk,_⟩:=(show St K wr (az _ _ _ _ _::_)from b.b1).cQ (show(aO (l.map (·.id)))[i]?=some (.int .u64 nd.id)by simp[aO,f])
   subst Pk;have Ot:=ass f;have hq4:=tE.out nd (asw f);have ht4:=adb.out i (by have:=Hm.out;omega)
   have hpos:gU l i<=16777216:=by have:=Nat.mul_le_mul_right 4096 (show i<=4096 by omega);omega
   have Ew:=kA f;have Q:(l.take (i+1)).flatMap (fun nd=>nd.pg.sl)=(l.take i).flatMap (fun nd=>nd.pg.sl)++nd.pg.sl:=by rw[List.take_add_one,f];simp
   have ade:=ass Q;have Wj:=ass Ew;generalize gU l i=P at *;generalize (l.take i).flatMap (fun nd=>nd.pg.sl)=H at *
   clear f ht4 Ew Q;go_upto_region 6 with(fail)
   have Hs:=ass b;clear b;refine aX [false,false,false,false,false,true,true,true] [5,6,7] (fun|7=>[5,6] | _=>[])
    (tJ K (az (.slice A P co) 23 1 P (aO (H.map (·.r)))::az (.slice (some ⟨Y,0,none⟩) m cap) 23 1 m (aO (l.map (·.id)))::blk bv (.cells #[.int .i64 (d).th,.int .i64 (d).sn,.int .i64 (d).no,.int .i64 (d).ch,.int .i64 (d).re,.int .i64 (d).fa,.int .u64 (d).cl,.slice (some ⟨g,0,none⟩) n n] 52)::F) nd.pg)
    (fun W=>St K W (az (.slice A P co) 23 1 P (aO (H.map (·.r)))::az (.slice (some ⟨Y,0,none⟩) m cap) 23 1 m (aO (l.map (·.id)))::blk bv (.cells #[.int .i64 (d).th,.int .i64 (d).sn,.int .i64 (d).no,.int .i64 (d).ch,.int .i64 (d).re,.int .i64 (d).fa,.int .u64 (d).cl,.slice (some ⟨g,0,none⟩) n n] 52)::F)) ?aSb (by kernel_rfl) ?hBb ?Hb ?Im ?h0b ?hIb ?hRb ?hEb ?hQb
   case hBb=>as_aux_lemma=>kernel_rfl
   case Hb=>
    intro I b;have kv:=b.k2;have c0:=(show St K I (az _ _ _ _ _::_)from b.b1).bG (show(aO (l.map (·.id)))[i]?=some (.int .u64 nd.id)by simp[aO,Ot.out])
    clear b;simp only[cG];repeat (go_big_quiet_step (fail))
    refine wpQuiet_nil ?_
    rfl
   case Im=>rfl
   case h0b=>exact tJ.start Hs.out
   case hIb=>exact fun C I h=>h.rest
   case hRb=>exact fun C I W3 h hb=>h.same hb
   case hEb=>
    refine⟨?e5b,?e6b,?e7b,trivial⟩;case e5b=>
     intro o Z C I h s D y af z;obtain rfl:=asy Z;replace z:af=aj _ C [] _:=z;have B:C 7=none:=s.none (by simp) (show 5∈[5,6]by simp) D
     obtain⟨R',b,c⟩:=h.e5 D B;simp only[aj]at z;subst z;have Hn:=ass c;clear c s y D B h;go_wp2_with fail
     refine(QN.out _ _ b).mono ?_
     rintro e W3 ⟨va3,rfl,S⟩;obtain⟨J,M,rfl,_,_⟩:=S.aJ;have eT:=ass S;clear b S;go_wp2
     exact⟨rfl,_,rfl,Hn.out _ _ W3 eT.out⟩
    case e6b=>
     intro o Z C I h s E y af z;obtain rfl:=asy Z;replace z:af=aj _ C [] _:=z;have B:C 7=none:=s.none (by simp) (show 6∈[5,6]by simp) E
     have Hn:=ass (h.e6 E B);simp only[aj]at z;subst z;clear s y E B h;go_wp2
     exact⟨rfl,_,rfl,Hn.out⟩
    case e7b=>
     intro o Z C I h s B y af z;obtain rfl:=asy Z;replace z:af=aj _ C [5,6] _:=z;obtain⟨v5,D⟩:=asv.1 (y 5 (by show _∈[5,6];simp))
     obtain⟨v6,E⟩:=asv.1 (y 6 (by show _∈[5,6];simp))
     obtain⟨J,M,b3,R',rfl,rfl,b,c⟩:=h.e7 D E B;simp only[aj,D,E,Option.getD_some,aP,Act.put,asz]at z;subst z;have k0:=b.k0;have f0:=b.f0;have b:=((((b.aK 0 (.int .i64 nd.pg.aA)).aK 1 (.slice J nd.pg.sl.length M)).aK 2 (.string nd.pg.hi)).aK 3 (.bool nd.pg.la)).aK 4 (.int .u64 nd.pg.ri);have gJ:=ass b;have Hn:=ass c;clear b c s y h D E B;go_wp2
     exact⟨rfl,undef,rfl,Hn.out _ gJ.out⟩
   case hQb=>
    intro C I h R;obtain⟨J,M,b3,D,E,⟨v7,B⟩,b⟩:=h.last R;simp only[aj,D,E,B,Option.getD_some,aP,Act.put,asz];clear h R D E B;have b:St K I (blk b3 (.cells #[.int .i64 (nd.pg).aA,(.slice J nd.pg.sl.length M),.string (nd.pg).hi,.bool (nd.pg).la,.int .u64 (nd.pg).ri] 43)::bz (.slice J nd.pg.sl.length M) nd.pg::az (.slice A P co) 23 1 P (aO (H.map (·.r)))::az (.slice (some ⟨Y,0,none⟩) m cap) 23 1 m (aO (l.map (·.id)))::blk bv (.cells #[.int .i64 (d).th,.int .i64 (d).sn,.int .i64 (d).no,.int .i64 (d).ch,.int .i64 (d).re,.int .i64 (d).fa,.int .u64 (d).cl,.slice (some ⟨g,0,none⟩) n n] 52)::F):=b
    obtain⟨q,hq⟩:∃q,q=nd.pg.sl.length:=⟨_,rfl⟩;have Hq:=ass hq;rw[←hq]at hq4;have b:St K I (blk b3 (.cells #[.int .i64 nd.pg.aA,.slice J q M,.string nd.pg.hi,.bool nd.pg.la,.int .u64 nd.pg.ri] 43)::az (.slice J q M) 69 2 q (aF nd.pg.sl)::az (.slice A P co) 23 1 P (aO (H.map (·.r)))::az (.slice (some ⟨Y,0,none⟩) m cap) 23 1 m (aO (l.map (·.id)))::blk bv (.cells #[.int .i64 (d).th,.int .i64 (d).sn,.int .i64 (d).no,.int .i64 (d).ch,.int .i64 (d).re,.int .i64 (d).fa,.int .u64 (d).cl,.slice (some ⟨g,0,none⟩) n n] 52)::F):=by rw[hq];exact b
    clear hq;go_upto_region 7 with(fail)
    go_wp2
    go_loopw [3,7] (fun v3 v7 wr=>∃(j:Nat) (A:Option Addr) (co:Nat),v3=.slice A (P+j) co/\v7=.int .i64 j/\j<=q /\
     St K wr (blk b3 (.cells #[.int .i64 nd.pg.aA,.slice J q M,.string nd.pg.hi,.bool nd.pg.la,.int .u64 nd.pg.ri] 43)::az (.slice J q M) 69 2 q (aF nd.pg.sl)::az (.slice A (P+j) co) 23 1 (P+j) (aO ((H++nd.pg.sl.take j).map (·.r)))::az (.slice (some ⟨Y,0,none⟩) m cap) 23 1 m (aO (l.map (·.id)))::blk bv (.cells #[.int .i64 (d).th,.int .i64 (d).sn,.int .i64 (d).no,.int .i64 (d).ch,.int .i64 (d).re,.int .i64 (d).fa,.int .u64 (d).cl,.slice (some ⟨g,0,none⟩) n n] 52)::F)) (fun _ v7 _=>q-(intOf v7).toNat)
    case atStart=>exact⟨0,A,co,rfl,rfl,by omega,by rw[List.take_zero,List.append_nil];exact b⟩
    case round=>
     clear b;obtain⟨j,A,co,rfl,rfl,hj,b⟩:=hrel;by_cases hjq:j<q
     ·obtain⟨x,hx⟩:∃x,nd.pg.sl[j]?=some x:=⟨_,asx (by have:=Hq.out;omega)⟩
      obtain⟨r0,r1⟩:=fM nd.pg.sl j x hx;obtain⟨g3,hg3,c0⟩:=(show St K wr (az _ _ _ _ _::_)from b.b1).cQ r1
      subst hg3;have eu:(H++nd.pg.sl.take (j+1)).map (·.r)=(H++nd.pg.sl.take j).map (·.r)++[x.r]:=by rw[List.take_add_one,hx];simp
      have iU:=ass eu;have kp:=b.k0;have b:=b.b2;clear r0 r1 eu hx;go_wp2_with (at_builtin;refine dM _ _ 57 23 _ (P+j) 1 8 _ [.int .u64 x.r] (.int .u64 0) iv b rfl rfl Tryz.underlying57 lO.out lQ.out lR.out lS.out rfl (by decide) rfl rfl rfl (fun u hu=>by simp at hu;subst hu;rfl) (by omega) (by decide) ?_)
      clear b kp c0;intro v' w' b;obtain⟨mP,mQ,hv,_,_⟩:=b.aJ;subst hv;go_wp2
      go_roundw
      case rel=>
       have h2:=b.re [1,2,0] rfl;have e3:aO ((H++nd.pg.sl.take (j+1)).map (·.r))=aO (H.map (·.r)++(nd.pg.sl.map (·.r)).take j)++[.int .u64 x.r]:=by rw[iU.out,sM];simp
       exact⟨j+1,mP,mQ,rfl,by go_num,by omega,by rw[e3];exact h2⟩
      case measure=>simp[intOf];omega
     ·obtain rfl:j=q:=by omega
      rw[show nd.pg.sl.take j=nd.pg.sl from List.take_of_length_le (by rw[←Hq.out];exact Nat.le_refl _)]at b
      have kp:=b.k0;have hs2:=b.tail.tail;clear b;have U:=Wj.out;rw[←Hq.out]at U;go_wp2
      go_roundw
      case rel=>exact⟨i+1,A,co,by rw[U],by go_num,by omega,by rw[U,ade.out];exact hs2⟩
      case measure=>simp[intOf];omega
  ·obtain rfl:i=m:=by omega
   have U:gU l i=(l.flatMap fun nd=>nd.pg.sl).length:=by rw[Hm.out,oz]
   have e2:l.take i=l:=List.take_of_length_le (by rw[←Hm.out];exact Nat.le_refl _)
   rw[e2]at b;have E1:=ass U;clear U e2;go_wp2
   go_ret;exact⟨_,rfl,by rw[←E1.out];exact b.b9.b9⟩
theorem Ex (hd:d.Ok)(G:cT d L t){l:List Nd}(h0:t[0]?=some l)(hg:K.map g=some (.cells (flat L).toArray 63))(hl:L.length<=1000000)(b:St K w F) :
  Calls Tryz.prog 55 #[.agg #[.int .i64 (d).th,.int .i64 (d).sn,.int .i64 (d).no,.int .i64 (d).ch,.int .i64 (d).re,.int .i64 (d).fa,.int .u64 (d).cl,.slice (some ⟨g,0,none⟩) L.length L.length]] w fun e w' => ∃v,e=.returned v/\St K w' (az v 9 1 (l.flatMap fun nd=>nd.pg.sl).length (bO ((l.flatMap fun nd=>nd.pg.sl).map (·.k)))::F):=by
 have jw:=hd.m6;have zf:=hd.m7;have Wi:=G.ne;obtain⟨iv,dm,dr,dw,dx⟩:=info_parts pJ;have lO:=ass dm;have lQ:=ass dr;have lR:=ass dw;have lS:=ass dx;clear dm dr dw dx;have b:=b.made (.cells #[.int .i64 (d).th,.int .i64 (d).sn,.int .i64 (d).no,.int .i64 (d).ch,.int .i64 (d).re,.int .i64 (d).fa,.int .u64 (d).cl,.slice (some ⟨g,0,none⟩) L.length L.length] 52);obtain⟨bv,nV⟩:∃bv,bv=w.heap.size:=⟨_,rfl⟩;have hlen:l.length<=4096:=by have:=List.dg h0;have:=G.count;have:=G.n4;omega
 have fB:∀nd,nd∈l->nd.pg.sl.length<=4096:=fun nd V=>by have:=(G.nodes 0 l h0 nd V).page.le;omega
 have O:∀i,i<=l.length->gU l i<=i*4096:=by
  intro i;induction i with
  | zero=>intro _;exact Nat.le_refl _
  | succ i ih=>
   intro hi;obtain⟨a,ha⟩:∃a,l[i]?=some a:=⟨_,asx (by omega)⟩
   have:=ih (by omega)
   have:=fB a (asw ha);rw[kA ha];omega
 have X:=ass (fun W cs (h:St K W cs)=>iW (k:=0) hd G (by omega) hg hl h)
 have Qp:=ass (fun(nd:Nd) (V:nd∈l) W cs (h:St K W cs)=>fT hd (G.nodes 0 l h0 nd V).id.1 (G.nodes 0 l h0 nd V).id.2 (G.nodes 0 l h0 nd V).page hg hl h)
 have fC:iu t 0=l.map (·.id):=by unfold iu;rw[h0]
 rw[fC]at X;have Ev:(l.map (·.id)).length=l.length:=List.length_map ..
 rw[Ev]at X;obtain⟨m,hm⟩:∃m,m=l.length:=⟨_,rfl⟩;have Hm:=ass hm;have tE:=ass fB;have adb:=ass O;rw[←hm]at X hlen;generalize L.length=n at *;clear G hg fC Ev hm h0 fB O Wi;go_enter Tryz.func55,Tryz.ntmps55
 go_wp2_with fail
 refine(X.out _ _ b).mono ?_
 rw[←nV]at b ⊢;clear b X nV;rintro e w1 ⟨va,rfl,b⟩;obtain⟨a,cap,rfl,_,_⟩:=b.aJ;have b:=b.cJ (T:=9) (size:=1);go_wp2
 go_loopw [3,5] (fun v3 v5 wr=>∃(i:Nat) (A:Option Addr) (co:Nat),v3=.slice A (gU l i) co/\v5=.int .i64 i/\i<=m /\
  St K wr (az (.slice A (gU l i) co) 9 1 (gU l i) (bO (((l.take i).flatMap fun nd=>nd.pg.sl).map (·.k)))::az (.slice a m cap) 23 1 m (aO (l.map (·.id)))::blk bv (.cells #[.int .i64 (d).th,.int .i64 (d).sn,.int .i64 (d).no,.int .i64 (d).ch,.int .i64 (d).re,.int .i64 (d).fa,.int .u64 (d).cl,.slice (some ⟨g,0,none⟩) n n] 52)::F)) (fun _ v5 _=>m-(intOf v5).toNat)
 case atStart=>exact⟨0,none,0,rfl,rfl,by omega,b⟩
 case round=>
  clear b;obtain⟨i,A,co,rfl,rfl,hi,b⟩:=hrel;by_cases him:i<m
  ·obtain⟨nd,f⟩:∃nd,l[i]?=some nd:=⟨_,asx (by have:=Hm.out;omega)⟩
   have QN:=ass (Qp.out nd (asw f));obtain⟨Y,Pk,_⟩:=(show St K wr (az _ _ _ _ _::_)from b.b1).cQ (show(aO (l.map (·.id)))[i]?=some (.int .u64 nd.id)by simp[aO,f])
   subst Pk;have Ot:=ass f;have hq4:=tE.out nd (asw f);have ht4:=adb.out i (by have:=Hm.out;omega)
   have hpos:gU l i<=16777216:=by have:=Nat.mul_le_mul_right 4096 (show i<=4096 by omega);omega
   have Ew:=kA f;have Q:(l.take (i+1)).flatMap (fun nd=>nd.pg.sl)=(l.take i).flatMap (fun nd=>nd.pg.sl)++nd.pg.sl:=by rw[List.take_add_one,f];simp
   have ade:=ass Q;have Wj:=ass Ew;generalize gU l i=P at *;generalize (l.take i).flatMap (fun nd=>nd.pg.sl)=H at *
   clear f ht4 Ew Q;go_upto_region 6 with(fail)
   have Hs:=ass b;clear b;refine aX [false,false,false,false,false,true,true,true] [5,6,7] (fun|7=>[5,6] | _=>[])
    (tJ K (az (.slice A P co) 9 1 P (bO (H.map (·.k)))::az (.slice (some ⟨Y,0,none⟩) m cap) 23 1 m (aO (l.map (·.id)))::blk bv (.cells #[.int .i64 (d).th,.int .i64 (d).sn,.int .i64 (d).no,.int .i64 (d).ch,.int .i64 (d).re,.int .i64 (d).fa,.int .u64 (d).cl,.slice (some ⟨g,0,none⟩) n n] 52)::F) nd.pg)
    (fun W=>St K W (az (.slice A P co) 9 1 P (bO (H.map (·.k)))::az (.slice (some ⟨Y,0,none⟩) m cap) 23 1 m (aO (l.map (·.id)))::blk bv (.cells #[.int .i64 (d).th,.int .i64 (d).sn,.int .i64 (d).no,.int .i64 (d).ch,.int .i64 (d).re,.int .i64 (d).fa,.int .u64 (d).cl,.slice (some ⟨g,0,none⟩) n n] 52)::F)) ?aSb (by kernel_rfl) ?hBb ?Hb ?Im ?h0b ?hIb ?hRb ?hEb ?hQb
   case hBb=>as_aux_lemma=>kernel_rfl
   case Hb=>
    intro I b;have kv:=b.k2;have c0:=(show St K I (az _ _ _ _ _::_)from b.b1).bG (show(aO (l.map (·.id)))[i]?=some (.int .u64 nd.id)by simp[aO,Ot.out])
    clear b;simp only[cG];repeat (go_big_quiet_step (fail))
    refine wpQuiet_nil ?_
    rfl
   case Im=>rfl
   case h0b=>exact tJ.start Hs.out
   case hIb=>exact fun C I h=>h.rest
   case hRb=>exact fun C I W3 h hb=>h.same hb
   case hEb=>
    refine⟨?e5b,?e6b,?e7b,trivial⟩;case e5b=>
     intro o Z C I h s D y af z;obtain rfl:=asy Z;replace z:af=aj _ C [] _:=z;have B:C 7=none:=s.none (by simp) (show 5∈[5,6]by simp) D
     obtain⟨R',b,c⟩:=h.e5 D B;simp only[aj]at z;subst z;have Hn:=ass c;clear c s y D B h;go_wp2_with fail
     refine(QN.out _ _ b).mono ?_
     rintro e W3 ⟨va3,rfl,S⟩;obtain⟨J,M,rfl,_,_⟩:=S.aJ;have eT:=ass S;clear b S;go_wp2
     exact⟨rfl,_,rfl,Hn.out _ _ W3 eT.out⟩
    case e6b=>
     intro o Z C I h s E y af z;obtain rfl:=asy Z;replace z:af=aj _ C [] _:=z;have B:C 7=none:=s.none (by simp) (show 6∈[5,6]by simp) E
     have Hn:=ass (h.e6 E B);simp only[aj]at z;subst z;clear s y E B h;go_wp2
     exact⟨rfl,_,rfl,Hn.out⟩
    case e7b=>
     intro o Z C I h s B y af z;obtain rfl:=asy Z;replace z:af=aj _ C [5,6] _:=z;obtain⟨v5,D⟩:=asv.1 (y 5 (by show _∈[5,6];simp))
     obtain⟨v6,E⟩:=asv.1 (y 6 (by show _∈[5,6];simp))
     obtain⟨J,M,b3,R',rfl,rfl,b,c⟩:=h.e7 D E B;simp only[aj,D,E,Option.getD_some,aP,Act.put,asz]at z;subst z;have k0:=b.k0;have f0:=b.f0;have b:=((((b.aK 0 (.int .i64 nd.pg.aA)).aK 1 (.slice J nd.pg.sl.length M)).aK 2 (.string nd.pg.hi)).aK 3 (.bool nd.pg.la)).aK 4 (.int .u64 nd.pg.ri);have gJ:=ass b;have Hn:=ass c;clear b c s y h D E B;go_wp2
     exact⟨rfl,undef,rfl,Hn.out _ gJ.out⟩
   case hQb=>
    intro C I h R;obtain⟨J,M,b3,D,E,⟨v7,B⟩,b⟩:=h.last R;simp only[aj,D,E,B,Option.getD_some,aP,Act.put,asz];clear h R D E B;have b:St K I (blk b3 (.cells #[.int .i64 (nd.pg).aA,(.slice J nd.pg.sl.length M),.string (nd.pg).hi,.bool (nd.pg).la,.int .u64 (nd.pg).ri] 43)::bz (.slice J nd.pg.sl.length M) nd.pg::az (.slice A P co) 9 1 P (bO (H.map (·.k)))::az (.slice (some ⟨Y,0,none⟩) m cap) 23 1 m (aO (l.map (·.id)))::blk bv (.cells #[.int .i64 (d).th,.int .i64 (d).sn,.int .i64 (d).no,.int .i64 (d).ch,.int .i64 (d).re,.int .i64 (d).fa,.int .u64 (d).cl,.slice (some ⟨g,0,none⟩) n n] 52)::F):=b
    obtain⟨q,hq⟩:∃q,q=nd.pg.sl.length:=⟨_,rfl⟩;have Hq:=ass hq;rw[←hq]at hq4;have b:St K I (blk b3 (.cells #[.int .i64 nd.pg.aA,.slice J q M,.string nd.pg.hi,.bool nd.pg.la,.int .u64 nd.pg.ri] 43)::az (.slice J q M) 69 2 q (aF nd.pg.sl)::az (.slice A P co) 9 1 P (bO (H.map (·.k)))::az (.slice (some ⟨Y,0,none⟩) m cap) 23 1 m (aO (l.map (·.id)))::blk bv (.cells #[.int .i64 (d).th,.int .i64 (d).sn,.int .i64 (d).no,.int .i64 (d).ch,.int .i64 (d).re,.int .i64 (d).fa,.int .u64 (d).cl,.slice (some ⟨g,0,none⟩) n n] 52)::F):=by rw[hq];exact b
    clear hq;go_upto_region 7 with(fail)
    go_wp2
    go_loopw [3,7] (fun v3 v7 wr=>∃(j:Nat) (A:Option Addr) (co:Nat),v3=.slice A (P+j) co/\v7=.int .i64 j/\j<=q /\
     St K wr (blk b3 (.cells #[.int .i64 nd.pg.aA,.slice J q M,.string nd.pg.hi,.bool nd.pg.la,.int .u64 nd.pg.ri] 43)::az (.slice J q M) 69 2 q (aF nd.pg.sl)::az (.slice A (P+j) co) 9 1 (P+j) (bO ((H++nd.pg.sl.take j).map (·.k)))::az (.slice (some ⟨Y,0,none⟩) m cap) 23 1 m (aO (l.map (·.id)))::blk bv (.cells #[.int .i64 (d).th,.int .i64 (d).sn,.int .i64 (d).no,.int .i64 (d).ch,.int .i64 (d).re,.int .i64 (d).fa,.int .u64 (d).cl,.slice (some ⟨g,0,none⟩) n n] 52)::F)) (fun _ v7 _=>q-(intOf v7).toNat)
    case atStart=>exact⟨0,A,co,rfl,rfl,by omega,by rw[List.take_zero,List.append_nil];exact b⟩
    case round=>
     clear b;obtain⟨j,A,co,rfl,rfl,hj,b⟩:=hrel;by_cases hjq:j<q
     ·obtain⟨x,hx⟩:∃x,nd.pg.sl[j]?=some x:=⟨_,asx (by have:=Hq.out;omega)⟩
      obtain⟨r0,r1⟩:=fM nd.pg.sl j x hx;obtain⟨g3,hg3,c0⟩:=(show St K wr (az _ _ _ _ _::_)from b.b1).cQ r0
      subst hg3;have eu:(H++nd.pg.sl.take (j+1)).map (·.k)=(H++nd.pg.sl.take j).map (·.k)++[x.k]:=by rw[List.take_add_one,hx];simp
      have iU:=ass eu;have kp:=b.k0;have b:=b.b2;clear r0 r1 eu hx;go_wp2_with (at_builtin;refine dM _ _ 22 9 _ (P+j) 1 16 _ [.string x.k] (.string ⟨#[]⟩) iv b rfl rfl Tryz.underlying22 lO.out lQ.out lR.out lS.out rfl (by decide) rfl rfl rfl (fun u hu=>by simp at hu;subst hu;rfl) (by omega) (by decide) ?_)
      clear b kp c0;intro v' w' b;obtain⟨mP,mQ,hv,_,_⟩:=b.aJ;subst hv;go_wp2
      go_roundw
      case rel=>
       have h2:=b.re [1,2,0] rfl;have e3:bO ((H++nd.pg.sl.take (j+1)).map (·.k))=bO (H.map (·.k)++(nd.pg.sl.map (·.k)).take j)++[.string x.k]:=by rw[iU.out,mh];simp
       exact⟨j+1,mP,mQ,rfl,by go_num,by omega,by rw[e3];exact h2⟩
      case measure=>simp[intOf];omega
     ·obtain rfl:j=q:=by omega
      rw[show nd.pg.sl.take j=nd.pg.sl from List.take_of_length_le (by rw[←Hq.out];exact Nat.le_refl _)]at b
      have kp:=b.k0;have hs2:=b.tail.tail;clear b;have U:=Wj.out;rw[←Hq.out]at U;go_wp2
      go_roundw
      case rel=>exact⟨i+1,A,co,by rw[U],by go_num,by omega,by rw[U,ade.out];exact hs2⟩
      case measure=>simp[intOf];omega
  ·obtain rfl:i=m:=by omega
   have U:gU l i=(l.flatMap fun nd=>nd.pg.sl).length:=by rw[Hm.out,oz]
   have e2:l.take i=l:=List.take_of_length_le (by rw[←Hm.out];exact Nat.le_refl _)
   rw[e2]at b;have E1:=ass U;clear U e2;go_wp2
   go_ret;exact⟨_,rfl,by rw[←E1.out];exact b.b9.b9⟩
end
section
variable {K:aM}{w:World}{F:List aC}{a:Option Addr}{n cap:Nat}{sl:List Sl}{aA ri fa:Int}{hi:ByteArray}
theorem Ey (o:n=sl.length)(D:n<=1000000)(s:kY sl)(w:World)(h:eG w a sl) :
  Calls Tryz.prog 156 #[.slice a n cap] w fun e w' => e=.returned (.bool true)/\Below w.heap.size w w' := by
 have H:=ass h;have u:=ass o;have A:=ass s;clear o s h;go_enter Tryz.func156,Tryz.ntmps156
 go_wp2
 go_loopw [3] (fun v wr=>∃i:Nat,v=.int .i64 (i+1)/\i<=n/\Hid (Below w.heap.size w wr)) (fun v _=>n+2-(intOf v).toNat)
 case atStart=>exact⟨0,rfl,by omega,ass (Below.refl _ _)⟩
 case round=>
  obtain⟨i,rfl,hi,HB⟩:=hrel;by_cases B:i+1<n
  ·obtain⟨x,c⟩:∃x,sl[i]?=some x:=⟨_,asx (by have:=u.out;omega)⟩
   obtain⟨y,f⟩:∃y,sl[i+1]?=some y:=⟨_,asx (by have:=u.out;omega)⟩
   have b:=kg A.out c f (by omega)
   have H2:=H.out.same HB.out;obtain⟨g,off,rfl,_,cx,_⟩:=H2.2 i x c;obtain⟨E,z,e2,_,C,_⟩:=H2.2 (i+1) y f;simp only[Option.some.injEq,Addr.mk.injEq,and_true]at e2;obtain⟨rfl,rfl⟩:=e2;have G:=gO b;have I:(y.k.toList == x.k.toList)=false:=by
    cases e:(y.k.toList == x.k.toList)with
    | false=>rfl
    | true=>
     have:y.k=x.k:=yx (by simpa using e)
     rw[this,cS]at b;cases b
   have j:((i:Int)+1)<n:=by omega
   have J:((i:Int)+1)-1=i:=by omega
   clear H2 c f b;go_upto_region 4 with(fail)
   refine bK (by kernel_rfl) (by kernel_rfl) ?_
   repeat (go_big_quiet_step (fail))
   refine wpQuiet_nil ?_
   intro M m;clear cx C;go_wp2
   go_roundw
   case rel=>exact⟨i+1,by go_num,by omega,ass (HB.out.trans (m.mono HB.out.size))⟩
   case measure=>simp[intOf];omega
  ·have j:¬ (((i:Int)+1)<n):=by omega
   go_wp2
   go_ret;exact⟨rfl,HB.out⟩
theorem Ez (S:0<=aA/\aA<1000000)(j:n=sl.length)(T:(n:Int)<=fa/\fa<=1000000)(B:0<aA->0<n)(C:kY sl)(D:∀s,s∈sl->1<=s.r)(m:hi=⟨#[]⟩)(I:ri=0)(w:World)(h:eG w a sl) :
  Calls Tryz.prog 126 #[.agg #[.int .i64 aA,.slice a n cap,.string hi,.bool true,.int .u64 ri],.int .i64 fa,.bool false] w fun e w' => e=.returned (.bool true)/\Below w.heap.size w w' := by
 subst m I;have o:=ass (fun W (J:Below w.heap.size w W)=>Ey (n:=n) (cap:=cap) j (by omega) C W (h.same J))
 have H:=ass h;have u:=ass D;have M:=ass j;have b:=(St.start w).made (.cells #[.int .i64 aA,.slice a n cap,.string ⟨#[]⟩,.bool true,.int .u64 0] 43);obtain⟨bp,E⟩:∃bp,bp=w.heap.size:=⟨_,rfl⟩;clear D j C h;go_enter Tryz.func126,Tryz.ntmps126
 go_upto_region 1 with(fail)
 rw[←E]at b ⊢;clear E;go_cut [38]from 999 to 0 (fun v O=>v=.bool false/\St (aM.of w) O [blk bp (.cells #[.int .i64 aA,.slice a n cap,.string ⟨#[]⟩,.bool true,.int .u64 0] 43)])
 case first=>
  as_aux_lemma=>
  by_cases hl:0<aA
  ·have z:((n:Int) == 0)=false:=by have:=B hl;simp;omega
   
   have c:=b.k0;go_wp2_with fail
   refine(bJ b (o.out _ (b.below (aM.Le.refl _)))).mono ?_
   clear b c;rintro e G ⟨rfl,b⟩;go_wp2
   go_meet;exact⟨by simp <;> omega,b⟩
  ·have z:aA=0:=by omega
   subst z;have c:=b.k0;go_wp2_with fail
   refine(bJ b (o.out _ (b.below (aM.Le.refl _)))).mono ?_
   clear b c;rintro e G ⟨rfl,b⟩;go_wp2
   go_meet;exact⟨by simp <;> omega,b⟩
 case rest=>
 clear b B o;obtain⟨rfl,b⟩:=hcut;apply_assumption
 go_wp2
 go_loopw [7] (fun v wr=>∃i:Nat,v=.int .i64 i/\i<=n/\St (aM.of w) wr [blk bp (.cells #[.int .i64 aA,.slice a n cap,.string ⟨#[]⟩,.bool true,.int .u64 0] 43)]) (fun v _=>n-(intOf v).toNat)
 case atStart=>exact⟨0,rfl,by omega,b⟩
 case round=>
  clear b;obtain⟨i,rfl,P,b⟩:=hrel;by_cases Q:i<n
  ·obtain⟨x,y⟩:∃x,sl[i]?=some x:=⟨_,asx (by have:=M.out;omega)⟩
   obtain⟨g,off,rfl,_,cx,R⟩:=(H.out.same (b.below (aM.Le.refl _))).2 i x y;have c:=b.k0;have A:=u.out x (asw y);have U:(x.r == 0)=false:=by simp;omega
   clear y A;go_upto_region 6 with(fail)
   refine bK (by kernel_rfl) (by kernel_rfl) ?_
   repeat (go_big_quiet_step (fail))
   refine wpQuiet_nil ?_
   intro G f;have b:=b.same f;clear cx R c f;go_wp2
   go_roundw
   case rel=>exact⟨i+1,by go_num,by omega,b⟩
   case measure=>simp[intOf];omega
  ·have c:=b.k0
   go_wp2
   go_ret;exact⟨rfl,b.below (aM.Le.refl _)⟩
theorem zG (X:0<=aA/\aA<1000000)(o:n=sl.length)(Y:(n:Int)<=fa/\fa<=1000000)(D:0<aA->0<n)(E:kY sl)(G:∀s,s∈sl->1<=s.r)(f:∀s,s∈sl->cA s.k hi=true)(I:ri≠0)(w:World)(h:eG w a sl) :
  Calls Tryz.prog 126 #[.agg #[.int .i64 aA,.slice a n cap,.string hi,.bool false,.int .u64 ri],.int .i64 fa,.bool false] w fun e w' => e=.returned (.bool true)/\Below w.heap.size w w' := by
 have O:(ri != 0)=true:=by simpa using I
 have u:=ass f;clear I f;have y:=ass (fun W (P:Below w.heap.size w W)=>Ey (n:=n) (cap:=cap) o (by omega) E W (h.same P))
 have H:=ass h;have A:=ass G;have Q:=ass o;have b:=(St.start w).made (.cells #[.int .i64 aA,.slice a n cap,.string hi,.bool false,.int .u64 ri] 43);obtain⟨bp,J⟩:∃bp,bp=w.heap.size:=⟨_,rfl⟩;clear G o E h;go_enter Tryz.func126,Tryz.ntmps126
 go_upto_region 1 with(fail)
 rw[←J]at b ⊢;clear J;go_cut [38]from 999 to 0 (fun v R=>v=.bool false/\St (aM.of w) R [blk bp (.cells #[.int .i64 aA,.slice a n cap,.string hi,.bool false,.int .u64 ri] 43)])
 case first=>
  as_aux_lemma=>
  by_cases hl:0<aA
  ·have z:((n:Int) == 0)=false:=by have:=D hl;simp;omega
   
   have c:=b.k0;go_wp2_with fail
   refine(bJ b (y.out _ (b.below (aM.Le.refl _)))).mono ?_
   clear b c;rintro e M ⟨rfl,b⟩;go_wp2
   go_meet;exact⟨by simp <;> omega,b⟩
  ·have z:aA=0:=by omega
   subst z;have c:=b.k0;go_wp2_with fail
   refine(bJ b (y.out _ (b.below (aM.Le.refl _)))).mono ?_
   clear b c;rintro e M ⟨rfl,b⟩;go_wp2
   go_meet;exact⟨by simp <;> omega,b⟩
 case rest=>
 clear b D y;obtain⟨rfl,b⟩:=hcut;apply_assumption
 go_wp2
 go_loopw [7] (fun v wr=>∃i:Nat,v=.int .i64 i/\i<=n/\St (aM.of w) wr [blk bp (.cells #[.int .i64 aA,.slice a n cap,.string hi,.bool false,.int .u64 ri] 43)]) (fun v _=>n-(intOf v).toNat)
 case atStart=>exact⟨0,rfl,by omega,b⟩
 case round=>
  clear b;obtain⟨i,rfl,S,b⟩:=hrel;by_cases T:i<n
  ·obtain⟨x,m⟩:∃x,sl[i]?=some x:=⟨_,asx (by have:=Q.out;omega)⟩
   obtain⟨g,off,rfl,_,cx,U⟩:=(H.out.same (b.below (aM.Le.refl _))).2 i x m;have c:=b.k0;have B:=A.out x (asw m);have Z:(x.r == 0)=false:=by simp;omega
   have C:=u.out x (asw m);have V:=gO C;clear m B;go_upto_region 6 with(fail)
   refine bK (by kernel_rfl) (by kernel_rfl) ?_
   repeat (go_big_quiet_step (fail))
   refine wpQuiet_nil ?_
   intro M j;have b:=b.same j;clear cx U c j;go_wp2
   go_roundw
   case rel=>exact⟨i+1,by go_num,by omega,b⟩
   case measure=>simp[intOf];omega
  ·have c:=b.k0
   go_wp2
   go_ret;exact⟨rfl,b.below (aM.Le.refl _)⟩
end
structure af5 (d:aU)(L:List aQ):Prop where
 pub:(ah L 1).n=(ah L 2).n
 flo:(ah L 3).n<=(ah L 2).n
 nod:(ah L 4).n<=d.no
 chn:(ah L 5).n<=d.ch
 rcd:(ah L 6).n<=d.re
 gro:(ah L 7).n%4=0
 snp:∀i:Int,8<=i->i<d.A->(ah L i).n=0\/(ah L 3).n<=(ah L i).n-1
structure aa6 (d:aU)(L:List aQ)(rs:List Int):Prop where
 ok:∀r,r∈rs->1<=r/\r<=d.ch/\r<=(ah L 5).n/\∃vs,uo d L (ah L (d.chain r)).n vs/\(vs.length:Int)<=d.re/\V9 (ah L 2).n vs
 nd:rs.Nodup
section
variable {K:aM}{w:World}{F:List aC}{d:aU}{g:Nat}{L:List aQ}{t:List (List Nd)}
theorem Fa (c:d.Ok)(m:bL L)(hc:af5 d L)(z:K.map g=some (.cells (flat L).toArray 63))(hl:L.length<=1000000)(b:St K w F) :
  Calls Tryz.prog 84 #[.agg #[.int .i64 (d).th,.int .i64 (d).sn,.int .i64 (d).no,.int .i64 (d).ch,.int .i64 (d).re,.int .i64 (d).fa,.int .u64 (d).cl,.slice (some ⟨g,0,none⟩) L.length L.length]] w fun e w' => e=.returned (.bool true)/\St K w' F:=by
 have hA:=c.eN;have n1:=c.Ke;have n2:=c.m6;have c1:=c.ch1;have c2:=c.ch2;have r1:=c.re1;have r2:=c.re2;have b7:=m 7;have b3:=m 3;have z1:((ah L 1).n != (ah L 2).n)=false:=by simp[hc.pub]
 have z2:¬ ((ah L 2).n<(ah L 3).n):=by have:=hc.flo;omega
 have z4:¬ (d.no<(ah L 4).n):=by have:=hc.nod;omega
 have z5:¬ (d.ch<(ah L 5).n):=by have:=hc.chn;omega
 have z6:¬ (d.re<(ah L 6).n):=by have:=hc.rcd;omega
 have z7:((ah L 7).n.tmod 4 != 0)=false:=by rw[Int.tmod_eq_emod_of_nonneg b7.1,hc.gro];rfl
 have o:=ass hc.snp;have M:=ass m;have B:=ass (fun w=>tV d c w)
 have b:=b.made (.cells #[.int .i64 (d).th,.int .i64 (d).sn,.int .i64 (d).no,.int .i64 (d).ch,.int .i64 (d).re,.int .i64 (d).fa,.int .u64 (d).cl,.slice (some ⟨g,0,none⟩) L.length L.length] 52);obtain⟨bv,C⟩:∃bv,bv=w.heap.size:=⟨_,rfl⟩;have Q:=ass (fun(i:Int) W cs (h:St K W cs)=>gL (d:=d) i W (kT z hl h))
 generalize L.length=n at *;clear z hc m;go_enter Tryz.func84,Tryz.ntmps84
 go_upto_region 1 with(fail)
 rw[←C]at b ⊢;clear C;have k0:=b.k0;obtain⟨s,f⟩:∃s,s=w.alloc (.cells #[.int .i64 (d).th,.int .i64 (d).sn,.int .i64 (d).no,.int .i64 (d).ch,.int .i64 (d).re,.int .i64 (d).fa,.int .u64 (d).cl,.slice (some ⟨g,0,none⟩) n n] 52):=⟨_,rfl⟩;rw[←f]at b k0 ⊢;have D:=ass (fun E (O:∃x:Ext,E=over s x) (i:Int)=>Q.out i E _ (b.same (Pure.below O)))
 clear f;refine bK (by kernel_rfl) (by kernel_rfl) ?_
 repeat (go_big_quiet_step ((go_at_call 83;exact aZ (D.out _ ⟨_,rfl⟩ _))))
 refine wpQuiet_nil ?_
 intro w2 j;have b:=b.same j;clear k0 j D;go_wp2
 go_loopw [3] (fun v wr=>∃i:Nat,v=.int .i64 i/\8<=i/\(i:Int)<=d.A/\St K wr (blk bv (.cells #[.int .i64 (d).th,.int .i64 (d).sn,.int .i64 (d).no,.int .i64 (d).ch,.int .i64 (d).re,.int .i64 (d).fa,.int .u64 (d).cl,.slice (some ⟨g,0,none⟩) n n] 52)::F)) (fun v _=>d.A.toNat-(intOf v).toNat)
 case atStart=>exact⟨8,rfl,by omega,by omega,b⟩
 case round=>
  clear b;obtain⟨i,rfl,P,R,b⟩:=hrel;have k0:=b.k0;by_cases u:(i:Int)<d.A
  ·have G:=o.out i (by omega) u
   have H:=Q.out i;have I:=Q.out 3;have J:=M.out i;generalize ah L i=ci at *;generalize ah L 3=S at *;obtain⟨x,xk,xm⟩:=ci;simp only at G;have T:=ass H;have U:=ass I;have Hb:=ass J;clear H I J;go_wp2_with fail
   refine(bJ b (B.out _)).mono ?_
   clear b k0;rintro e V ⟨rfl,b⟩;have k0:=b.k0;go_wp2_with fail
   refine(bJ b (T.out _ _ b)).mono ?_
   clear b k0;rintro e w4 ⟨rfl,b⟩;have k0:=b.k0;by_cases y:x=0
   ·subst y
    go_wp2
    go_roundw
    case rel=>exact⟨i+1,by go_num,by omega,by omega,b⟩
    case measure=>simp[intOf];omega
   ·have zx:(x != 0)=true:=by simpa using y
    have X:IntKind.u64.wrap (x-1)=x-1:=by
     have Y:=Hb.out.1;have Z:=Hb.out.2;simp only at Y Z;rw[IntKind.wrap_u64];omega
    have hx2:¬ (x-1<S.n):=by omega
    clear y G;go_wp2_with fail
    refine(bJ b (U.out _ _ b)).mono ?_
    clear b k0;rintro e w5 ⟨rfl,b⟩;go_wp2
    go_roundw
    case rel=>exact⟨i+1,by go_num,by omega,by omega,b⟩
    case measure=>simp[intOf];omega
  ·go_wp2_with fail
   refine(bJ b (B.out _)).mono ?_
   clear b k0;rintro e V ⟨rfl,b⟩;go_wp2
   go_ret;exact⟨rfl,b.tail⟩
theorem cT.Wl (e:d.Ok)(c:cT d L t){l:List Nd}(h0:t[0]?=some l):(l.flatMap fun nd=>nd.pg.sl).length<=16777216:=by
 have m:=e.m6;have o:=e.m7;have hlen:l.length<=4096:=by have:=List.dg h0;have:=c.count;have:=c.n4;omega
 have h:∀nd,nd∈l->nd.pg.sl.length<=4096:=fun nd j=>by have:=(c.nodes 0 l h0 nd j).page.le;omega
 have b:∀i,i<=l.length->gU l i<=i*4096:=by
  intro i;induction i with
  | zero=>intro _;exact Nat.le_refl _
  | succ i ih=>
   intro hi;obtain⟨a,f⟩:∃a,l[i]?=some a:=⟨_,asx (by omega)⟩
   have:=ih (by omega)
   have:=h a (asw f);rw[kA f];omega
 rw[←oz];have:=b l.length (Nat.le_refl _);omega
theorem Pm (s:d.Ok)(hL:bL L)(P:cT d L t){l:List Nd}(h0:t[0]?=some l)(hc:aa6 d L ((l.flatMap fun nd=>nd.pg.sl).map (·.r)))(I:K.map g=some (.cells (flat L).toArray 63))(hl:L.length<=1000000)(b:St K w F) :
  Calls Tryz.prog 85 #[.agg #[.int .i64 (d).th,.int .i64 (d).sn,.int .i64 (d).no,.int .i64 (d).ch,.int .i64 (d).re,.int .i64 (d).fa,.int .u64 (d).cl,.slice (some ⟨g,0,none⟩) L.length L.length]] w fun e w' => e=.returned (.bool true)/\St K w' F:=by
 have c1:=s.ch1;have c2:=s.ch2;have r2:=s.re2;have b:=b.made (.cells #[.int .i64 (d).th,.int .i64 (d).sn,.int .i64 (d).no,.int .i64 (d).ch,.int .i64 (d).re,.int .i64 (d).fa,.int .u64 (d).cl,.slice (some ⟨g,0,none⟩) L.length L.length] 52);obtain⟨bv,nV⟩:∃bv,bv=w.heap.size:=⟨_,rfl⟩;have Q:=ass (fun(i:Int) W cs (h:St K W cs)=>gL (d:=d) i W (kT I hl h))
 have J:=ass (fun W cs (h:St K W cs)=>sP s P h0 I hl h)
 have R:=ass (fun(r:Int) (h1:1<=r/\r<=d.ch) w=>p6 d s r (by omega) (by omega) w)
 have S:=ass (fun(r:Int) (h1:1<=r/\r<=d.ch) (f:List Gj) (o:uo d L (ah L (d.chain r)).n f) (hn:(f.length:Int)<=d.re) W cs (h:St K W cs)=>zF s h1 o hn I hl h)
 have Hc:=ass hc;have hlen:(l.flatMap fun nd=>nd.pg.sl).length=((l.flatMap fun nd=>nd.pg.sl).map (·.r)).length:=(List.length_map ..).symm
 have A:=P.Wl s h0;rw[hlen]at J A;generalize (l.flatMap fun nd=>nd.pg.sl).map (·.r)=rs at *
 obtain⟨m,hm⟩:∃m,m=rs.length:=⟨_,rfl⟩;rw[←hm]at J A;have Hm:=ass hm;generalize L.length=n at *;clear I hc hL P h0 hlen hm;go_enter Tryz.func85,Tryz.ntmps85
 go_wp2_with fail
 refine(J.out _ _ b).mono ?_
 rw[←nV]at b ⊢;clear b J nV;rintro e w1 ⟨va,rfl,b⟩;obtain⟨a,cap,rfl,_,_⟩:=b.aJ;go_wp2
 go_loopw [4] (fun v wr=>∃i:Nat,v=.int .i64 i/\i<=m/\St K wr (az (.slice a m cap) 23 1 m (aO rs)::blk bv (.cells #[.int .i64 (d).th,.int .i64 (d).sn,.int .i64 (d).no,.int .i64 (d).ch,.int .i64 (d).re,.int .i64 (d).fa,.int .u64 (d).cl,.slice (some ⟨g,0,none⟩) n n] 52)::F)) (fun v _=>m-(intOf v).toNat)
 case atStart=>exact⟨0,rfl,by omega,b⟩
 case round=>
  clear b;obtain⟨i,rfl,hi,b⟩:=hrel;by_cases him:i<m
  ·obtain⟨r,M⟩:∃r,rs[i]?=some r:=⟨_,asx (by have:=Hm.out;omega)⟩
   obtain⟨y,z,hr5,f,o,T,B⟩:=Hc.out.ok r (asw M);obtain⟨ga,Pk,C⟩:=b.cQ (show(aO rs)[i]?=some (.int .u64 r)by simp[aO,M])
   subst Pk;have U:=Bi s y z;have aqj:¬ (d.chain r<0):=by omega
   have aqk:¬ ((ah L 5).n<r):=by omega
   have QC:=ass (fun w=>R.out r ⟨y,z⟩ w)
   have QV:=ass (fun W cs (h:St K W cs)=>S.out r ⟨y,z⟩ f o T W cs h)
   have H9:=ass B;have O:=ass M;have D:=b.k1;have V:f.length<=1000000:=by omega
   clear o B M U;go_upto_region 5 with(fail)
   have E:=ass (fun G (X:∃x:Ext,G=over wr x) (i:Int)=>Q.out i G _ (b.same (Pure.below X)))
   refine bK (by kernel_rfl) (by kernel_rfl) ?_
   repeat (go_big_quiet_step (first|(go_at_call 123;exact aZ (QC.out _))|(go_at_call 83;exact aZ (E.out _ ⟨_,rfl⟩ _))))
   refine wpQuiet_nil ?_
   intro w2 H;have b:=b.same H;clear D C H E;go_wp2
   go_loopw [5] (fun v wr=>∃k:Nat,v=.int .i64 k/\k<=i/\St K wr (az (.slice (some ⟨ga,0,none⟩) m cap) 23 1 m (aO rs)::blk bv (.cells #[.int .i64 (d).th,.int .i64 (d).sn,.int .i64 (d).no,.int .i64 (d).ch,.int .i64 (d).re,.int .i64 (d).fa,.int .u64 (d).cl,.slice (some ⟨g,0,none⟩) n n] 52)::F)) (fun v _=>i-(intOf v).toNat)
   case atStart=>exact⟨0,rfl,by omega,b⟩
   case round=>
    clear b;obtain⟨k,rfl,hk,b⟩:=hrel;by_cases Y:k<i
    ·obtain⟨q,u⟩:∃q,rs[k]?=some q:=⟨_,asx (by have:=Hm.out;omega)⟩
     have C:=b.bG (show(aO rs)[i]?=some (.int .u64 r)by simp[aO,O.out])
     have c1:=b.bG (show(aO rs)[k]?=some (.int .u64 q)by simp[aO,u])
     have hne:(q == r)=false:=by
      have hp:=List.pairwise_iff_getElem.1 Hc.out.nd k i (asu.1 u).1 (asu.1 O.out).1 Y;rw[(asu.1 u).2,(asu.1 O.out).2]at hp;simpa using hp
     clear u;go_upto_region 10 with(fail)
     refine bK (by kernel_rfl) (by kernel_rfl) ?_
     repeat (go_big_quiet_step (fail))
     refine wpQuiet_nil ?_
     intro w3 c;have b:=b.same c;clear C c1 c;go_wp2
     go_roundw
     case rel=>exact⟨k+1,by go_num,by omega,b⟩
     case measure=>simp[intOf];omega
    ·obtain rfl:k=i:=by omega
     have C:=b.bG (show(aO rs)[k]?=some (.int .u64 r)by simp[aO,O.out])
     have D:=b.k1;go_upto_region 12 with(fail)
     refine bN 5 (by kernel_rfl) (by as_aux_lemma=>kernel_rfl) ?_
     simp only[List.take_succ_cons,List.take_zero,List.drop_succ_cons,List.drop_zero];repeat (go_big_quiet_step (fail))
     refine wpQuiet_nil ?_
     intro w3 c;have b:=b.same c;clear C D c;go_wp2_with fail
     refine(QV.out _ _ b).mono ?_
     clear b QV;rintro e Z ⟨vx,rfl,b⟩;obtain⟨ax,cx,rfl,_,_⟩:=b.aJ;have Qu:=b.Wh (by omega)
     obtain⟨q,u⟩:∃q,q=f.length:=⟨_,rfl⟩;have q9:=fun W (hb:Below Z.heap.size Z W)=>Jr (cap:=cx) W (Qu.same hb) H9.out
     rw[←u]at q9 b V ⊢;have Hq:=ass u;have Q9:=ass (q9 Z (Below.refl _ _));clear q9 Qu u;go_wp2_with fail
     refine(bJ b Q9.out).mono ?_
     clear b Q9;rintro e w5 ⟨rfl,b⟩;go_wp2
     go_loopw [7] (fun v wr=>∃j:Nat,v=.int .i64 j/\j<=q/\St K wr (az (.slice ax q cx) 186 3 q (gZ f)::az (.slice (some ⟨ga,0,none⟩) m cap) 23 1 m (aO rs)::blk bv (.cells #[.int .i64 (d).th,.int .i64 (d).sn,.int .i64 (d).no,.int .i64 (d).ch,.int .i64 (d).re,.int .i64 (d).fa,.int .u64 (d).cl,.slice (some ⟨g,0,none⟩) n n] 52)::F)) (fun v _=>q-(intOf v).toNat)
     case atStart=>exact⟨0,rfl,by omega,b⟩
     case round=>
      clear b;obtain⟨j,rfl,hj,b⟩:=hrel;by_cases hjq:j<q
      ·obtain⟨x,hx⟩:∃x,f[j]?=some x:=⟨_,asx (by have:=Hq.out;omega)⟩
       obtain⟨x0,x1,x2⟩:=xX f j x hx;obtain⟨gx,hgx,cx0⟩:=b.cQ x0;subst hgx;obtain⟨s1,s2,_,_⟩:=H9.out j x hx;have y1:(x.st == 0)=false:=by simp;omega
       have y2:¬ ((ah L 2).n<x.st):=by omega
       have D:=b.k2;clear x0 x1 x2 hx s1 s2;go_upto_region 18 with(fail)
       have E:=ass (fun G (X:∃x:Ext,G=over wr x) (i:Int)=>Q.out i G _ (b.same (Pure.below X)))
       refine bK (by kernel_rfl) (by kernel_rfl) ?_
       repeat (go_big_quiet_step ((go_at_call 83;exact aZ (E.out _ ⟨_,rfl⟩ _))))
       refine wpQuiet_nil ?_
       intro w6 Ru;have b:=b.same Ru;clear D cx0 Ru E;go_wp2
       go_roundw
       case rel=>exact⟨j+1,by go_num,by omega,b⟩
       case measure=>simp[intOf];omega
      ·go_wp2
       go_roundw
       case rel=>exact⟨k+1,by go_num,by omega,b.tail⟩
       case measure=>simp[intOf];omega
  ·go_wp2
   go_ret;exact⟨rfl,b.tail.tail⟩
end
theorem Js {a:Option Addr}{n cap:Nat}{pg:Pg}{fa:Int}(c:0<=pg.aA/\pg.aA<1000000)(f:n=pg.sl.length)(j:(n:Int)<=fa/\fa<=1000000)(m:0<pg.aA->0<n)(o:kY pg.sl)(u:∀s,s∈pg.sl->1<=s.r)
  (v:pg.la=true->pg.hi=⟨#[]⟩/\pg.ri=0) (b:pg.la=false->(∀s,s∈pg.sl->cA s.k pg.hi=true)/\pg.ri≠0) (w:World) (h:eG w a pg.sl) :
  Calls Tryz.prog 126 #[.agg #[.int .i64 (pg).aA,(.slice a n cap),.string (pg).hi,.bool (pg).la,.int .u64 (pg).ri],.int .i64 fa,.bool false] w fun e w' => e=.returned (.bool true)/\Below w.heap.size w w' := by
 obtain⟨aA,sl,hi,la,ri⟩:=pg;cases la with
 | true=>exact Ez c f j m o u (v rfl).1 (v rfl).2 w h
 | false=>exact zG c f j m o u (b rfl).1 (b rfl).2 w h
structure aa7 (d:aU)(L:List aQ)(aA:Nat)(below:List Int)(mF:List ByteArray)(nd:Nd):Prop where
 ok:wo d L nd
 lv:nd.pg.aA=aA
 ne:0<aA->∃s r,nd.pg.sl=s::r/\s.k=nd.low
 la:nd.pg.la=true->nd.pg.hi=⟨#[]⟩/\nd.pg.ri=0
 ri:nd.pg.la=false->1<=nd.pg.ri/\nd.pg.ri<=d.no/\nd.pg.ri<=(ah L 4).n
 dn:∀s,s∈nd.pg.sl->aA=0\/∃k:Nat,below[k]?=some s.r/\mF[k]?=some s.k
section
variable {K:aM}{w:World}{F:List aC}{d:aU}{g:Nat}{L:List aQ}{nd:Nd}{aA:Nat}{below:List Int}{mF:List ByteArray}{ab al:Option Addr}{cb cl:Nat}
theorem Wm (M:d.Ok)(B:aa7 d L aA below mF nd)(cj:aA<=4096)(O:below.length=mF.length/\below.length<=4096)(hL:bL L)(Q:K.map g=some (.cells (flat L).toArray 63))(hl:L.length<=1000000)
  (c:St K w (az (.slice ab below.length cb) 23 1 below.length (aO below)::az (.slice al mF.length cl) 9 1 mF.length (bO mF)::F)) :
  Calls Tryz.prog 86 #[.agg #[.int .i64 (d).th,.int .i64 (d).sn,.int .i64 (d).no,.int .i64 (d).ch,.int .i64 (d).re,.int .i64 (d).fa,.int .u64 (d).cl,.slice (some ⟨g,0,none⟩) L.length L.length],.int .u64 nd.id,.int .i64 aA,.string nd.low,.slice ab below.length cb,.slice al mF.length cl] w
   fun e w' => e=.returned (.bool true)/\St K w' (az (.slice ab below.length cb) 23 1 below.length (aO below)::az (.slice al mF.length cl) 9 1 mF.length (bO mF)::F):=by
 have D:=B.ok;have hid:=D.id;have jw:=M.m6;have ajN:=M.fy;have zf:=M.m7;have aad:=D.page.le;have hpn:=D.page.n;have R:=D.free.n;have b0:=(hL (d.node nd.id 0)).1;have z0:((ah L (d.node nd.id 0)).n.tmod 4 != 0)=false:=by rw[Int.tmod_eq_emod_of_nonneg b0,R];rfl
 have z1:¬ (d.fa<(ah L (d.node nd.id 1)).n):=by omega
 have l7:nd.pg.la=true\/(nd.pg.la=false/\1<=nd.pg.ri/\nd.pg.ri<=d.no/\nd.pg.ri<=(ah L 4).n):=by
  rcases Bool.eq_false_or_eq_true nd.pg.la with h|h
  ·exact .inl h
  ·exact .inr ⟨h,B.ri h⟩
 have Hri:=ass l7;have HS:=ass B;have c:=c.made (.cells #[.int .i64 (d).th,.int .i64 (d).sn,.int .i64 (d).no,.int .i64 (d).ch,.int .i64 (d).re,.int .i64 (d).fa,.int .u64 (d).cl,.slice (some ⟨g,0,none⟩) L.length L.length] 52);obtain⟨bv,nV⟩:∃bv,bv=w.heap.size:=⟨_,rfl⟩;have Qp:=ass (fun W cs (h:St K W cs)=>fT M hid.1 hid.2 D.page Q hl h)
 have S:=ass (fun W cs (h:St K W cs)=>wD M nd.id (by omega) W (kT Q hl h))
 have T:=ass (fun W cs (h:St K W cs)=>mi M nd.id 1 (by omega) (by omega) W (kT Q hl h))
 have Qn:=ass (fun(id:Int) (h:0<=id/\id<18446744073709551616) W cs (j:St K W cs)=>nU M id h Q hl j)
 obtain⟨m,hm⟩:∃m,m=below.length:=⟨_,rfl⟩;obtain⟨q,U⟩:∃q,q=nd.pg.sl.length:=⟨_,rfl⟩;have V:=ass (fun W (a:Option Addr) (cap:Nat) (h:eG W a nd.pg.sl)=>Js (fa:=d.fa) (pg:=nd.pg) (cap:=cap) (by rw[B.lv];omega) U (by omega) (fun h0=>by
  obtain⟨s,r,e,_⟩:=B.ne (by rw[B.lv]at h0;omega)
  rw[U,e];simp) D.jP D.rf B.la (fun e=>⟨fun s c=>(D.bd s c).2 e,by have:=(B.ri e).1;omega⟩) W h)
 have Hm:=ass hm;have Hq:=ass U;have Hbl:=ass O;have hm4:m<=4096:=by omega
 have hq4:q<=4096:=by omega
 have X:=ass B.lv;rw[←O.1,←hm]at c ⊢;rw[←U]at Qp;generalize L.length=n at *;generalize ah L (d.node nd.id 0)=C at *;generalize ah L (d.node nd.id 1)=P at *;have Z1:=ass z1;clear z1;clear Q B D hL aad hpn R b0 l7 hm U O hl;go_enter Tryz.func86,Tryz.ntmps86
 go_wp2_with fail
 refine(Qp.out _ _ c).mono ?_
 rw[←nV]at c ⊢;clear c Qp nV;rintro e w1 ⟨va,rfl,c⟩;obtain⟨Y,E,rfl,_,_⟩:=c.aJ;have c:=c.made (.cells #[.int .i64 (nd.pg).aA,(.slice Y q E),.string (nd.pg).hi,.bool (nd.pg).la,.int .u64 (nd.pg).ri] 43);obtain⟨bp,mV⟩:∃bp,bp=w1.heap.size:=⟨_,rfl⟩;go_upto_region 2 with(fail)
 rw[←mV]at c ⊢;clear mV;have o:=c.k0;have kv:=c.k2;have Cj:=X.out;obtain⟨lv,akE⟩:∃lv,lv=nd.pg.aA:=⟨_,rfl⟩;have fB:=(show St K _ (az _ _ _ _ _::_)from c.b1).cM (by rw[←Hq.out];omega)
 obtain⟨Z,hw2⟩:∃Z,Z=w1.alloc (.cells #[.int .i64 (nd.pg).aA,(.slice Y q E),.string (nd.pg).hi,.bool (nd.pg).la,.int .u64 (nd.pg).ri] 43):=⟨_,rfl⟩;rw[←hw2]at c o kv fB ⊢;have Qly:=ass (fun I (G:∃x:Ext,I=over Z x)=>S.out I _ (c.same (Pure.below G)))
 have Qpy:=ass (fun I (G:∃x:Ext,I=over Z x)=>T.out I _ (c.same (Pure.below G)))
 have Qcy:=ass (fun I (G:∃x:Ext,I=over Z x)=>V.out I Y E (fB.same (Pure.below G)))
 have z1:¬ (d.fa<P.n):=by have:=Z1.out;omega
 rw[Cj]at o;clear hw2 fB akE Cj;refine bK (by kernel_rfl) (by kernel_rfl) ?_
 repeat (go_big_quiet_step (first|(go_at_call 31;exact aZ (Qly.out _ ⟨_,rfl⟩))|(go_at_call 87;exact aZ (Qpy.out _ ⟨_,rfl⟩))|(go_at_call 126;rw[←X.out];exact aZ (Qcy.out _ ⟨_,rfl⟩))))
 refine wpQuiet_nil ?_
 intro w3 hb3;have c:=c.same hb3;clear o kv hb3 Qly Qpy Qcy;clear V S T Z1 z1;go_wp2
 go_loopw [14] (fun v wr=>∃i:Nat,v=.int .i64 i/\i<=q/\St K wr (blk bp (.cells #[.int .i64 (nd.pg).aA,(.slice Y q E),.string (nd.pg).hi,.bool (nd.pg).la,.int .u64 (nd.pg).ri] 43)::az (.slice Y q E) 69 2 q (aF nd.pg.sl)::blk bv (.cells #[.int .i64 (d).th,.int .i64 (d).sn,.int .i64 (d).no,.int .i64 (d).ch,.int .i64 (d).re,.int .i64 (d).fa,.int .u64 (d).cl,.slice (some ⟨g,0,none⟩) n n] 52)::az (.slice ab m cb) 23 1 m (aO below)::az (.slice al m cl) 9 1 m (bO mF)::F)) (fun v _=>q-(intOf v).toNat)
 case atStart=>exact⟨0,rfl,by omega,c⟩
 case round=>
  clear c;obtain⟨i,rfl,hi,c⟩:=hrel;by_cases hiq:i<q
  ·obtain⟨s,u⟩:∃s,nd.pg.sl[i]?=some s:=⟨_,asx (by have:=Hq.out;omega)⟩
   have A:=asw u;have eb:=(HS.out.ok.bd s A).1;have hdn:=HS.out.dn s A;have rH:0<aA->i=0->s.k=nd.low:=fun H j=>by
    obtain⟨s',r',e1,e2⟩:=HS.out.ne H;rw[j,e1]at u;rw[←e2,←asy u]
   obtain⟨x0,x1⟩:=fM nd.pg.sl i s u;obtain⟨ga,Pk,cz⟩:=(show St K wr (az _ _ _ _ _::_)from c.b1).cQ x0
   subst Pk;clear cz;have X0:=ass x0;have X1:=ass x1;have adf:=ass rH;have Hdn:=ass hdn;clear x0 x1 rH hdn A u;have o:=c.k0;go_upto_region 7 with(fail)
   go_cut [81]from 999 to 0 (fun v wx=>v=.bool false/\St K wx (blk bp (.cells #[.int .i64 (nd.pg).aA,(.slice (some ⟨ga,0,none⟩) q E),.string (nd.pg).hi,.bool (nd.pg).la,.int .u64 (nd.pg).ri] 43)::az (.slice (some ⟨ga,0,none⟩) q E) 69 2 q (aF nd.pg.sl)::blk bv (.cells #[.int .i64 (d).th,.int .i64 (d).sn,.int .i64 (d).no,.int .i64 (d).ch,.int .i64 (d).re,.int .i64 (d).fa,.int .u64 (d).cl,.slice (some ⟨g,0,none⟩) n n] 52)::az (.slice ab m cb) 23 1 m (aO below)::az (.slice al m cl) 9 1 m (bO mF)::F))
   case first=>
    as_aux_lemma=>
    by_cases hl0:0<aA
    ·rcases Nat.eq_zero_or_pos i with h0|h0
     ·have e:=adf.out hl0 h0
      have C:=(show St K wr (az _ _ _ _ _::_)from c.b1).bG X0.out
      rw[e]at C eb;subst h0;have mU:(0:Int)<aA:=by omega
      have c0':wr.cell? ⟨ga,0,none⟩=some (.string nd.low):=by simpa using C
      clear e;go_wp2
      go_meet;exact⟨rfl,c⟩
     ·have C:=(show St K wr (az _ _ _ _ _::_)from c.b1).bG X0.out
      have mU:(0:Int)<aA:=by omega
      have z:((i:Int) == 0)=false:=by simp;omega
      go_wp2
      go_meet;exact⟨rfl,c⟩
    ·have C:=(show St K wr (az _ _ _ _ _::_)from c.b1).bG X0.out
     obtain rfl:aA=0:=by omega
     go_wp2
     go_meet;exact⟨rfl,c⟩
   case rest=>
   clear c o;obtain⟨rfl,c⟩:=hcut;apply_assumption
   go_wp2
   go_loopw [15,16] (fun v15 v16 wr=>∃(b:Bool) (k:Nat),v15=.bool b/\v16=.int .i64 k/\k<=m/\Hid ((aA=0->b=true)/\∀k':Nat,k' < k->below[k']?=some s.r->mF[k']?=some s.k->b=true)/\St K wr (blk bp (.cells #[.int .i64 (nd.pg).aA,(.slice (some ⟨ga,0,none⟩) q E),.string (nd.pg).hi,.bool (nd.pg).la,.int .u64 (nd.pg).ri] 43)::az (.slice (some ⟨ga,0,none⟩) q E) 69 2 q (aF nd.pg.sl)::blk bv (.cells #[.int .i64 (d).th,.int .i64 (d).sn,.int .i64 (d).no,.int .i64 (d).ch,.int .i64 (d).re,.int .i64 (d).fa,.int .u64 (d).cl,.slice (some ⟨g,0,none⟩) n n] 52)::az (.slice ab m cb) 23 1 m (aO below)::az (.slice al m cl) 9 1 m (bO mF)::F)) (fun _ v16 _=>m-(intOf v16).toNat)
   case atStart=>exact⟨_,0,rfl,rfl,by omega,ass ⟨fun h=>by subst h;rfl,fun k' h=>by omega⟩,c⟩
   case round=>
    clear c;obtain⟨b,k,rfl,rfl,hk,HB,c⟩:=hrel;by_cases hkm:k<m
    ·obtain⟨x,hx⟩:∃x,below[k]?=some x:=⟨_,asx (by have:=Hm.out;omega)⟩
     obtain⟨y,G⟩:∃y,mF[k]?=some y:=⟨_,asx (by have:=Hm.out;have:=Hbl.out;omega)⟩
     obtain⟨gb,hgb,cx⟩:=(show St K wr (az _ _ _ _ _::_)from c.b3).cQ (show(aO below)[k]?=some (.int .u64 x)by simp[aO,hx])
     obtain⟨gl,hgl,cy⟩:=(show St K wr (az _ _ _ _ _::_)from c.b4).cQ (show(bO mF)[k]?=some (.string y)by simp[bO,G])
     subst hgb hgl;have o:=c.k0;have C:=(show St K wr (az _ _ _ _ _::_)from c.b1).bG X0.out
     have P:=(show St K wr (az _ _ _ _ _::_)from c.b1).bG X1.out
     have Hx:=ass hx;have Hy:=ass G;clear hx G;go_upto_region 13 with(fail)
     refine bK (by kernel_rfl) (by kernel_rfl) ?_
     rcases Bool.eq_false_or_eq_true b with rfl|rfl
     ·as_aux_lemma=>
      repeat (go_big_quiet_step (fail))
      refine wpQuiet_nil ?_
      intro w5 f;have c:=c.same f;clear o C P cx cy f;go_wp2
      go_roundw
      case rel=>exact⟨_,k+1,rfl,by go_num,by omega,ass (⟨fun _=>rfl,fun _ _ _ _=>rfl⟩),c⟩
      case measure=>simp[intOf];omega
     ·cases zP:(x == s.r)with
      | false=>
       as_aux_lemma=>
       have HX:=ass (show ∀k':Nat,k' < k+1->below[k']?=some s.r->mF[k']?=some s.k->false=true from fun k' H j J=>by
        by_cases e:k'=k
        ·rw[e,Hx.out]at j
         rw[asy j]at zP;simp at zP
        ·exact HB.out.2 k' (by omega) j J)
       repeat (go_big_quiet_step (fail))
       refine wpQuiet_nil ?_
       intro w5 f;have c:=c.same f;clear o C P cx cy f;go_wp2
       go_roundw
       case rel=>exact⟨_,k+1,rfl,by go_num,by omega,ass (⟨HB.out.1,HX.out⟩),c⟩
       case measure=>simp[intOf];omega
      | true=>
       cases hyk:(y.toList == s.k.toList)with
       | false=>
        as_aux_lemma=>
        have HX:=ass (show ∀k':Nat,k' < k+1->below[k']?=some s.r->mF[k']?=some s.k->false=true from fun k' H j J=>by
         by_cases e:k'=k
         ·rw[e,Hy.out]at J
          rw[asy J]at hyk;simp at hyk
         ·exact HB.out.2 k' (by omega) j J)
        repeat (go_big_quiet_step (fail))
        refine wpQuiet_nil ?_
        intro w5 f;have c:=c.same f;clear o C P cx cy f;go_wp2
        go_roundw
        case rel=>exact⟨_,k+1,rfl,by go_num,by omega,ass (⟨HB.out.1,HX.out⟩),c⟩
        case measure=>simp[intOf];omega
       | true=>
        as_aux_lemma=>
        repeat (go_big_quiet_step (fail))
        refine wpQuiet_nil ?_
        intro w5 f;have c:=c.same f;clear o C P cx cy f;go_wp2
        go_roundw
        case rel=>exact⟨_,k+1,rfl,by go_num,by omega,ass (⟨fun _=>rfl,fun _ _ _ _=>rfl⟩),c⟩
        case measure=>simp[intOf];omega
    ·obtain rfl:k=m:=by omega
     obtain rfl:b=true:=by
      rcases Hdn.out with h|⟨k',H,j⟩
      ·exact HB.out.1 h
      ·exact HB.out.2 k' (by have:=(asu.1 H).1;have:=Hm.out;omega) H j
     go_wp2
     go_roundw
     case rel=>exact⟨i+1,by go_num,by omega,c⟩
     case measure=>simp[intOf];omega
  ·have o:=c.k0
   rcases Hri.out with h|⟨h,H,j,J⟩
   ·rw[h]at o
    clear h;go_wp2
    go_ret;exact⟨rfl,c.tail.tail.tail⟩
   ·have kv:=c.k2
    rw[h]at o;have qn:=Qn.out nd.pg.ri (by omega)
    rw[decide_eq_true (show 1<=nd.pg.ri/\nd.pg.ri<=d.no/\nd.pg.ri<=(ah L 4).n from⟨H,j,J⟩)]at qn
    have QN:=ass qn;clear h qn H j J;go_wp2_with fail
    refine(QN.out _ _ c).mono ?_
    clear c o kv;rintro e w4 ⟨rfl,c⟩;go_wp2
    go_ret;exact⟨rfl,c.tail.tail.tail⟩
end
def jn (t:List (List Nd)):Nat->List Nd
 | 0=>[]
 | k+1=>(t[k]?).getD []
def vH (pg:Pg)(u:Value)(e1 e2:Nat)(e:Nat)(_ρ:Nat->Option Value)(v:Value)(cs:List aC):Prop:=
 if e=e1 then ∃(a:Option Addr) (c:Nat),v=(.agg #[.int .i64 (pg).aA,(.slice a pg.sl.length c),.string (pg).hi,.bool (pg).la,.int .u64 (pg).ri])/\cs=[bz (.slice a pg.sl.length c) pg]
 else if e=e2 then v=u/\cs=[]else False
theorem vH.mono {pg:Pg}{u:Value}{b e2:Nat}{es:List Nat}:Sy es (vH pg u b e2):=by
 intro e c v cs k u he hk h;exact h
theorem cT.snd {d:aU}{L:List aQ}{t:List (List Nd)}(m:cT d L t){aA:Nat}{l:List Nd}(hl:t[aA]?=some l){nd:Nd}(u:nd∈l):aa7 d L aA ((jn t aA).map (·.id)) ((jn t aA).map (·.low)) nd:=by
 obtain⟨i,hi⟩:=ast u;have y:=(asu.1 hi).1;have hR:=m.rows aA l hl;refine⟨m.nodes aA l hl nd u,hR.aA nd u,fun h0=>?_,fun h=>?_,fun h=>?_,fun s z=>?_⟩
 ·obtain⟨k,rfl⟩:∃k,aA=k+1:=⟨aA-1,by omega⟩
  obtain⟨l0,e⟩:∃l0,t[k]?=some l0:=⟨_,asx (by have:=(asu.1 hl).1;omega)⟩
  exact(m.down k l0 l e hl nd u).1
 ·rcases Nat.lt_or_ge (i+1) l.length with f|v
  ·have:=(hR.next i nd _ hi (asx f)).1
   rw[h]at this;cases this
  ·exact(hR.last i nd hi (by omega)).2
 ·rcases Nat.lt_or_ge (i+1) l.length with f|v
  ·obtain⟨b,o⟩:∃b,l[i+1]?=some b:=⟨_,asx f⟩
   rw[(hR.next i nd b hi o).2.2.1];have B:=(m.nodes aA l hl b (asw o)).id;have C:=m.used aA l hl b (asw o);omega
  ·have:=(hR.last i nd hi (by omega)).1
   rw[h]at this;cases this
 ·rcases Nat.eq_zero_or_pos aA with h0|h0
  ·exact .inl h0
  ·obtain⟨k,rfl⟩:∃k,aA=k+1:=⟨aA-1,by omega⟩
   obtain⟨l0,e⟩:∃l0,t[k]?=some l0:=⟨_,asx (by have:=(asu.1 hl).1;omega)⟩
   obtain⟨c,hc,A,e2⟩:=(m.down k l0 l e hl nd u).2 s z;obtain⟨j,x⟩:=ast hc;have o:jn t (k+1)=l0:=by show(t[k]?).getD []=l0;rw[e];rfl
   refine .inr ⟨j,?_,?_⟩
   ·rw[o,List.getElem?_map,x,←A];rfl
   ·rw[o,List.getElem?_map,x,←e2];rfl
theorem cT.af8 {d:aU}{L:List aQ}{t:List (List Nd)}(c:d.Ok)(b:cT d L t)(k:Nat):(jn t k).length<=4096:=by
 have e:=b.count;have f:=b.n4;have j:=c.m6;cases k with
 | zero=>exact Nat.zero_le _
 | succ k=>
  show((t[k]?).getD []).length<=4096
  cases h:t[k]? with
  | none=>exact Nat.zero_le _
  | some l=>have:=List.dg h;show l.length<=4096;omega
structure Wn (d:aU)(L:List aQ)(t:List (List Nd)):Prop where
 tr:cT d L t
 ct:af5 d L
 ch:∀l,t[0]?=some l->aa6 d L ((l.flatMap fun nd=>nd.pg.sl).map (·.r))
theorem zH {K:aM}{w:World}{F:List aC}{d:aU}{g:Nat}{L:List aQ}{t:List (List Nd)}(J:d.Ok)(hL:bL L)(hlen:(L.length:Int)=d.cells)(hO:Wn d L t)(hg:K.map g=some (.cells (flat L).toArray 63))(b:St K w F) :
  Calls Tryz.prog 24 #[.agg #[.int .i64 (d).th,.int .i64 (d).sn,.int .i64 (d).no,.int .i64 (d).ch,.int .i64 (d).re,.int .i64 (d).fa,.int .u64 (d).cl,.slice (some ⟨g,0,none⟩) L.length L.length]] w fun e w' => e=.returned (.bool true)/\St K w' F:=by
 have s:=hO.tr;have jw:=J.m6;have hcb:=J.eF;have hl:L.length<=1000000:=by omega
 have htl:=s.wM J;have b:=b.made (.cells #[.int .i64 (d).th,.int .i64 (d).sn,.int .i64 (d).no,.int .i64 (d).ch,.int .i64 (d).re,.int .i64 (d).fa,.int .u64 (d).cl,.slice (some ⟨g,0,none⟩) L.length L.length] 52);obtain⟨bv,nV⟩:∃bv,bv=w.heap.size:=⟨_,rfl⟩;obtain⟨l0,X⟩:∃l0,t[0]?=some l0:=⟨_,asx s.ne⟩;obtain⟨rt,rest,ei,z⟩:=s.top;have zE:=(s.nodes _ _ ei rt List.mem_cons_self).id;have af9:=s.used _ _ ei rt List.mem_cons_self;have Q0:=ass (fun W (h:W.heap[g]?=some (.cells (flat L).toArray 63))=>gL (d:=d) 0 W (kT (K:=aM.of W) h hl (St.start W)))
 have Qn:=ass (fun W (h:W.heap[g]?=some (.cells (flat L).toArray 63))=>(nU (K:=aM.of W) J (ah L 0).n (by rw[z];omega) h hl (St.start W)).mono (fun e w' (h:_/\_)=>(⟨h.1,h.2.below (aM.Le.refl _)⟩:_/\Below W.heap.size W w')))
 rw[decide_eq_true (show 1<=(ah L 0).n/\(ah L 0).n<=d.no/\(ah L 0).n<=(ah L 4).n from by rw[z];exact⟨zE.1,zE.2,af9⟩)]at Qn
 have Qc:=ass (fun W (h:W.heap[g]?=some (.cells (flat L).toArray 63))=>(Fa (K:=aM.of W) J hL hO.ct h hl (St.start W)).mono (fun e w' (h:_/\_)=>(⟨h.1,h.2.below (aM.Le.refl _)⟩:_/\Below W.heap.size W w')))
 have Qh:=ass (fun W (h:W.heap[g]?=some (.cells (flat L).toArray 63))=>(Pm (K:=aM.of W) J hL s X (hO.ch l0 X) h hl (St.start W)).mono (fun e w' (h:_/\_)=>(⟨h.1,h.2.below (aM.Le.refl _)⟩:_/\Below W.heap.size W w')))
 have Qt:=ass (fun W cs (h:St K W cs)=>wN J s hlen hg h)
 have Ql:=ass (fun(k:Nat) (hk:k<=t.length) W cs (h:St K W cs)=>iW (k:=k) J s hk hg hl h)
 have Qp:=ass (fun(k:Nat) (l:List Nd) (nd:Nd) (hk:t[k]?=some l) (M:nd∈l) W cs (h:St K W cs)=>fT J (s.nodes k l hk nd M).id.1 (s.nodes k l hk nd M).id.2 (s.nodes k l hk nd M).page hg hl h)
 have Qs:=ass (fun(aA:Nat) (l:List Nd) (nd:Nd) (hk:t[aA]?=some l) (M:nd∈l) (B:Nat) (hB:B=(jn t aA).length) (ab al:Option Addr) (cb cl:Nat) W cs (h:St K W (az (.slice ab B cb) 23 1 B (aO ((jn t aA).map (·.id)))::az (.slice al B cl) 9 1 B (bO ((jn t aA).map (·.low)))::cs))=>
  show Calls Tryz.prog 86 #[.agg #[.int .i64 (d).th,.int .i64 (d).sn,.int .i64 (d).no,.int .i64 (d).ch,.int .i64 (d).re,.int .i64 (d).fa,.int .u64 (d).cl,.slice (some ⟨g,0,none⟩) L.length L.length],.int .u64 nd.id,.int .i64 aA,.string nd.low,.slice ab B cb,.slice al B cl] W fun e w' => e=.returned (.bool true)/\St K w' (az (.slice ab B cb) 23 1 B (aO ((jn t aA).map (·.id)))::az (.slice al B cl) 9 1 B (bO ((jn t aA).map (·.low)))::cs)from by
   have q:=Wm (ab:=ab) (al:=al) (cb:=cb) (cl:=cl) (F:=cs) J (s.snd hk M) (by have:=(asu.1 hk).1;omega) (by rw[List.length_map,List.length_map];exact⟨rfl,s.af8 J aA⟩) hL hg hl (w:=W)
   rw[List.length_map,List.length_map,←hB]at q;exact q h)
 have Hg:=ass hg;have Ht:=ass s;have Hbr:=ass (s.af8 J);obtain⟨n,M⟩:∃n,n=L.length:=⟨_,rfl⟩;have Hlc:=ass (show ∀(k:Nat) (l:List Nd),t[k]?=some l->l.length<=4096 from fun k l h=>by have:=List.dg h;have:=s.count;have:=s.n4;omega)
 rw[←M]at Q0 Qn Qc Qh Qt Ql Qp Qs b ⊢;obtain⟨iv,dm,dr,dw,dx⟩:=info_parts pJ;have lO:=ass dm;have lQ:=ass dr;have lR:=ass dw;have lS:=ass dx;clear dm dr dw dx ei z zE af9 hlen hl hcb hL hO hg s X M;go_enter Tryz.func24,Tryz.ntmps24
 go_upto_region 1 with(fail)
 rw[←nV]at b ⊢;have P:=b.k0;obtain⟨Y,hw1⟩:∃Y,Y=w.alloc (.cells #[.int .i64 (d).th,.int .i64 (d).sn,.int .i64 (d).no,.int .i64 (d).ch,.int .i64 (d).re,.int .i64 (d).fa,.int .u64 (d).cl,.slice (some ⟨g,0,none⟩) n n] 52):=⟨_,rfl⟩;rw[←hw1]at b P ⊢;clear hw1 nV;have Hz:=fun y (Q:∃x:Ext,y=over Y x)=>(b.same (Pure.below Q)).kE g _ Hg.out
 have Q0y:=ass (fun y (Q:∃x:Ext,y=over Y x)=>Q0.out y (Hz y Q))
 have Qny:=ass (fun y (Q:∃x:Ext,y=over Y x)=>Qn.out y (Hz y Q))
 have Qcy:=ass (fun y (Q:∃x:Ext,y=over Y x)=>Qc.out y (Hz y Q))
 have Qhy:=ass (fun y (Q:∃x:Ext,y=over Y x)=>Qh.out y (Hz y Q))
 clear Hz Q0 Qn Qc Qh;refine bK (by kernel_rfl) (by kernel_rfl) ?_
 repeat (go_big_quiet_step (first|(go_at_call 83;exact aZ (Q0y.out _ ⟨_,rfl⟩))|(go_at_call 82;exact aZ (Qny.out _ ⟨_,rfl⟩))|(go_at_call 84;exact aZ (Qcy.out _ ⟨_,rfl⟩))|(go_at_call 85;exact aZ (Qhy.out _ ⟨_,rfl⟩))))
 refine wpQuiet_nil ?_
 intro w2 hb2;have b:=b.same hb2;clear P hb2 Q0y Qny Qcy Qhy;have b:=(b.cJ (T:=23) (size:=1));have b:=(b.cJ (T:=9) (size:=1)).b1;go_wp2
 go_loopw [3,4,5] (fun v3 v4 v5 wr=>∃(aA B:Nat) (ab al:Option Addr) (cb cl:Nat),v3=.slice ab B cb/\v4=.slice al B cl/\v5=.int .i64 aA/\aA<=t.length/\Hid (B=(jn t aA).length)/\St K wr (az (.slice ab B cb) 23 1 B (aO ((jn t aA).map (·.id)))::az (.slice al B cl) 9 1 B (bO ((jn t aA).map (·.low)))::blk bv (.cells #[.int .i64 (d).th,.int .i64 (d).sn,.int .i64 (d).no,.int .i64 (d).ch,.int .i64 (d).re,.int .i64 (d).fa,.int .u64 (d).cl,.slice (some ⟨g,0,none⟩) n n] 52)::F)) (fun _ _ v5 _=>t.length-(intOf v5).toNat)
 case atStart=>exact⟨0,0,none,none,0,0,rfl,rfl,rfl,by omega,ass rfl,b⟩
 case round=>
  clear b;obtain⟨aA,B,ab,al,cb,cl,rfl,rfl,rfl,hlt,HB,b⟩:=hrel;have P:=b.k2;go_wp2_with fail
  refine(Qt.out _ _ b).mono ?_
  clear b P;rintro e w3 ⟨rfl,b⟩;have P:=b.k2;by_cases cj:aA<t.length
  ·obtain⟨l,hl⟩:∃l,t[aA]?=some l:=⟨_,asx cj⟩
   have hR:=Ht.out.rows aA l hl;obtain⟨m,hm⟩:∃m,m=l.length:=⟨_,rfl⟩;have hm0:0<m:=by rw[hm];exact hR.ne
   have hm4:m<=4096:=by rw[hm];exact Hlc.out aA l hl
   obtain⟨⟨pid,aqq,⟨akF,psl,phi,pla,pri⟩⟩,Lv⟩:∃x,l[m-1]?=some x:=⟨_,asx (by omega)⟩
   obtain rfl:pla=true:=(hR.last (m-1) _ Lv (by omega)).1
   have R:=fun W cs (h:St K W cs)=>Ql.out aA (by omega) W cs h
   have fC:iu t aA=l.map (·.id):=by unfold iu;rw[hl]
   rw[fC]at R;have Ev:(l.map (·.id)).length=m:=by rw[List.length_map,hm]
   rw[Ev]at R;have QL:=ass R;have QPl:=ass (fun W cs (h:St K W cs)=>Qp.out aA l _ hl (asw Lv) W cs h)
   have QN0:=ass (fun(nd:Nd) (M:nd∈l) W cs (h:St K W cs)=>Qp.out aA l nd hl M W cs h)
   have QS0:=ass (fun(nd:Nd) (M:nd∈l) W cs (h:St K W (az (.slice ab B cb) 23 1 B (aO ((jn t aA).map (·.id)))::az (.slice al B cl) 9 1 B (bO ((jn t aA).map (·.low)))::cs))=>Qs.out aA l nd hl M B HB.out ab al cb cl W cs h)
   have aa9:=ass Lv;have Hl:=ass hl;have HR:=ass hR;have Hm:=ass hm;have S:((m:Int)-1)=((m-1:Nat):Int):=by omega
   have zm:((m:Int) == 0)=false:=by simp;omega
   have Hmi:=ass S;have Zm:=ass zm;clear Lv hl hR fC Ev R hm S zm;go_wp2_with fail
   refine(QL.out _ _ b).mono ?_
   clear b P QL;rintro e w4 ⟨va,rfl,b⟩;obtain⟨aa,Z,rfl,_,_⟩:=b.aJ;obtain⟨ga,Pk,cz⟩:=b.cQ (show(aO (l.map (·.id)))[m-1]?=some (.int .u64 pid)by simp[aO,aa9.out])
   subst Pk;clear cz;go_upto_region 9 with(fail)
   have zm:=Zm.out;have S:=Hmi.out;go_cut [49]from 999 to 0 (fun v wx=>v=.bool false/\St K wx (az (.slice (some ⟨ga,0,none⟩) m Z) 23 1 m (aO (l.map (·.id)))::az (.slice ab B cb) 23 1 B (aO ((jn t aA).map (·.id)))::az (.slice al B cl) 9 1 B (bO ((jn t aA).map (·.low)))::blk bv (.cells #[.int .i64 (d).th,.int .i64 (d).sn,.int .i64 (d).no,.int .i64 (d).ch,.int .i64 (d).re,.int .i64 (d).fa,.int .u64 (d).cl,.slice (some ⟨g,0,none⟩) n n] 52)::F))
   case first=>
    as_aux_lemma=>
    have Hs:=ass b;clear b;refine cX [false,false,false,false,false,false,false,false,false,false,false,true,true,false,false] (fun|12=>some (.bool true)|_=>none) [11,12] (fun|12=>[11] | _=>[])
     (GR K (az (.slice (some ⟨ga,0,none⟩) m Z) 23 1 m (aO (l.map (·.id)))::az (.slice ab B cb) 23 1 B (aO ((jn t aA).map (·.id)))::az (.slice al B cl) 9 1 B (bO ((jn t aA).map (·.low)))::blk bv (.cells #[.int .i64 (d).th,.int .i64 (d).sn,.int .i64 (d).no,.int .i64 (d).ch,.int .i64 (d).re,.int .i64 (d).fa,.int .u64 (d).cl,.slice (some ⟨g,0,none⟩) n n] 52)::F) [11,12] (vH ⟨akF,psl,phi,true,pri⟩ (.bool true) 11 12))
     (fun W=>St K W (az (.slice (some ⟨ga,0,none⟩) m Z) 23 1 m (aO (l.map (·.id)))::az (.slice ab B cb) 23 1 B (aO ((jn t aA).map (·.id)))::az (.slice al B cl) 9 1 B (bO ((jn t aA).map (·.low)))::blk bv (.cells #[.int .i64 (d).th,.int .i64 (d).sn,.int .i64 (d).no,.int .i64 (d).ch,.int .i64 (d).re,.int .i64 (d).fa,.int .u64 (d).cl,.slice (some ⟨g,0,none⟩) n n] 52)::F)) ?aqx (by kernel_rfl) ?akG ?raH ?aga ?akH ?akI ?akJ ?akK ?akL
    case akG=>as_aux_lemma=>kernel_rfl
    case raH=>
     intro O b;have P:=b.b3.k0;have c0:=b.bG (show(aO (l.map (·.id)))[m-1]?=some (.int .u64 pid)by simp[aO,aa9.out])
     clear b;simp only[cF];repeat (go_big_quiet_step (fail))
     refine wpQuiet_nil ?_
     rfl
    case aga=>rfl
    case akH=>exact GR.start Hs.out
    case akI=>exact fun G O h=>h.rest
    case akJ=>exact fun G O W3 h hb=>h.same hb
    case akK=>
     refine⟨?agb,?agc,trivial⟩;case agb=>
      intro o ho G O h A I f act j;obtain rfl:=asy ho;replace j:act=aj _ G [] _:=j;obtain⟨C,R',hx1,b,c⟩:=h.step vH.mono 11 [] (by decide) (by decide) (by decide) I (by simp)
      simp only[aj]at j;subst j;have Hn:=ass c;clear c hx1 h A f I;go_wp2_with fail
      refine(QPl.out _ _ b).mono ?_
      rintro e W3 ⟨va8,rfl,D⟩;obtain⟨a8,c8,rfl,_,_⟩:=D.aJ;have eT:=ass D;clear b D;go_wp2
      exact⟨rfl,_,rfl,fun u hu=>(by cases hu),Hn.out _ _ W3 ⟨a8,c8,rfl,rfl⟩ eT.out⟩
     case agc=>
      intro o ho G O h A dG f act j;obtain rfl:=asy ho;replace j:act=aj _ G [11] _:=j;obtain⟨v11,I⟩:=asv.1 (f 11 (by show _∈[11];simp))
      obtain⟨Zl,R8,⟨a8,c8,rfl,rfl⟩,Wo⟩:=h.at 11 (by simp) I
      simp only[aj,I,Option.getD_some,aP,Act.put,asz]at j;subst j;have H:=ass (h.kE vH.mono 12 (by decide) (by simp) dG _ ⟨rfl,rfl⟩)
      clear h Wo A f dG I;go_wp2
      exact⟨rfl,_,rfl,fun u hu=>asy hu,H.out⟩
    case akL=>
     intro G O h hall;have b:=h.rest;clear h;simp only[aj,Option.getD_some,aP,Act.put,asz];go_wp2
     go_meet;exact⟨rfl,b⟩
   case rest=>
   clear b zm S;obtain⟨rfl,b⟩:=hcut;apply_assumption
   have b:=b.cJ (T:=9) (size:=1);go_wp2
   go_loopw [7,8,9] (fun v7 v8 v9 wr=>∃(i:Nat) (lw:ByteArray) (U:Option Addr) (V:Nat),v7=.slice U i V/\v8=.string lw/\v9=.int .i64 i/\i<=m/\Hid (∀nd:Nd,l[i]?=some nd->lw=nd.low)/\St K wr (az (.slice U i V) 9 1 i (bO ((l.map (·.low)).take i))::az (.slice (some ⟨ga,0,none⟩) m Z) 23 1 m (aO (l.map (·.id)))::az (.slice ab B cb) 23 1 B (aO ((jn t aA).map (·.id)))::az (.slice al B cl) 9 1 B (bO ((jn t aA).map (·.low)))::blk bv (.cells #[.int .i64 (d).th,.int .i64 (d).sn,.int .i64 (d).no,.int .i64 (d).ch,.int .i64 (d).re,.int .i64 (d).fa,.int .u64 (d).cl,.slice (some ⟨g,0,none⟩) n n] 52)::F)) (fun _ _ v9 _=>m-(intOf v9).toNat)
   case atStart=>exact⟨0,_,none,0,rfl,rfl,rfl,by omega,ass (fun nd h=>((HR.out.first nd h)).symm),b⟩
   case round=>
    clear b;obtain⟨i,lw,U,V,rfl,rfl,rfl,hi,Hlw,b⟩:=hrel;by_cases him:i<m
    ·obtain⟨nd,E⟩:∃nd,l[i]?=some nd:=⟨_,asx (by have:=Hm.out;omega)⟩
     obtain rfl:=Hlw.out nd E;have QN:=ass (QN0.out nd (asw E));have QS:=ass (QS0.out nd (asw E));have eu:(l.map (·.low)).take (i+1)=(l.map (·.low)).take i++[nd.low]:=by rw[List.take_add_one,List.getElem?_map,E];rfl
     have zQ:∀jD:Nd,l[i+1]?=some jD->nd.pg.hi=jD.low:=fun jD h=>(HR.out.next i nd jD E h).2.1
     have Ot:=ass E;have iU:=ass eu;have Hnx:=ass zQ;have P:=b.b4.k0;have c0:=(show St K wr (az _ _ _ _ _::_)from b.b1).bG (show(aO (l.map (·.id)))[i]?=some (.int .u64 nd.id)by simp[aO,Ot.out])
     clear E eu zQ Hlw;go_upto_region 16 with(fail)
     refine bN 9 (by kernel_rfl) (by as_aux_lemma=>kernel_rfl) ?_
     simp only[List.take_succ_cons,List.take_zero,List.drop_succ_cons,List.drop_zero];repeat (go_big_quiet_step (fail))
     refine wpQuiet_nil ?_
     intro w5 hb5;have b:=b.same hb5;clear P c0 hb5;go_wp2_with fail
     refine(QS.out _ _ (b.re [2,3,0,1] rfl)).mono ?_
     clear b QS;rintro e w6 ⟨rfl,b⟩;have b:=b.re [2,3,0,1] rfl;go_wp2_with (at_builtin;refine dM _ _ 22 9 _ i 1 16 _ [.string nd.low] (.string ⟨#[]⟩) iv b rfl rfl Tryz.underlying22 lO.out lQ.out lR.out lS.out rfl (by decide) rfl rfl rfl (fun u hu=>by simp at hu;subst hu;rfl) (by omega) (by decide) ?_)
     clear b;intro v' w' b;obtain⟨U,V,hv,_,_⟩:=b.aJ;subst hv;have b:=b.row_eq (ys:=bO ((l.map (·.low)).take (i+1))) (by rw[iU.out,mh])
     go_upto_region 19 with(fail)
     have Hs:=ass b;clear b;refine cX [false,false,false,false,false,true,true,false] (fun|6=>some (.string nd.pg.hi)|_=>none) [5,6] (fun|6=>[5] | _=>[])
      (GR K (az (.slice U (i+1) V) 9 1 (i+1) (bO ((l.map (·.low)).take (i+1)))::az (.slice (some ⟨ga,0,none⟩) m Z) 23 1 m (aO (l.map (·.id)))::az (.slice ab B cb) 23 1 B (aO ((jn t aA).map (·.id)))::az (.slice al B cl) 9 1 B (bO ((jn t aA).map (·.low)))::blk bv (.cells #[.int .i64 (d).th,.int .i64 (d).sn,.int .i64 (d).no,.int .i64 (d).ch,.int .i64 (d).re,.int .i64 (d).fa,.int .u64 (d).cl,.slice (some ⟨g,0,none⟩) n n] 52)::F) [5,6] (vH nd.pg (.string nd.pg.hi) 5 6))
      (fun W=>St K W (az (.slice U (i+1) V) 9 1 (i+1) (bO ((l.map (·.low)).take (i+1)))::az (.slice (some ⟨ga,0,none⟩) m Z) 23 1 m (aO (l.map (·.id)))::az (.slice ab B cb) 23 1 B (aO ((jn t aA).map (·.id)))::az (.slice al B cl) 9 1 B (bO ((jn t aA).map (·.low)))::blk bv (.cells #[.int .i64 (d).th,.int .i64 (d).sn,.int .i64 (d).no,.int .i64 (d).ch,.int .i64 (d).re,.int .i64 (d).fa,.int .u64 (d).cl,.slice (some ⟨g,0,none⟩) n n] 52)::F)) ?akO (by kernel_rfl) ?adg ?rbH ?Wp ?adh ?adi ?adj ?adk ?adl
     case adg=>as_aux_lemma=>kernel_rfl
     case rbH=>
      intro O b;have P:=b.b4.k0;have c0:=(show St K O (az _ _ _ _ _::_)from b.b1).bG (show(aO (l.map (·.id)))[i]?=some (.int .u64 nd.id)by simp[aO,Ot.out])
      clear b;simp only[cF];repeat (go_big_quiet_step (fail))
      refine wpQuiet_nil ?_
      rfl
     case Wp=>rfl
     case adh=>exact GR.start Hs.out
     case adi=>exact fun G O h=>h.rest
     case adj=>exact fun G O W3 h hb=>h.same hb
     case adk=>
      refine⟨?adm,?adn,trivial⟩;case adm=>
       intro o ho G O h A h5 f act j;obtain rfl:=asy ho;replace j:act=aj _ G [] _:=j;obtain⟨C,R',hx1,b,c⟩:=h.step vH.mono 5 [] (by decide) (by decide) (by decide) h5 (by simp)
       simp only[aj]at j;subst j;have Hn:=ass c;clear c hx1 h A f h5;go_wp2_with fail
       refine(QN.out _ _ b).mono ?_
       rintro e W3 ⟨va8,rfl,D⟩;obtain⟨a8,c8,rfl,_,_⟩:=D.aJ;have eT:=ass D;clear b D;go_wp2
       exact⟨rfl,_,rfl,fun u hu=>(by cases hu),Hn.out _ _ W3 ⟨a8,c8,rfl,rfl⟩ eT.out⟩
      case adn=>
       intro o ho G O h A h6 f act j;obtain rfl:=asy ho;replace j:act=aj _ G [5] _:=j;obtain⟨v5,h5⟩:=asv.1 (f 5 (by show _∈[5];simp))
       obtain⟨Zl,R8,⟨a8,c8,rfl,rfl⟩,Wo⟩:=h.at 5 (by simp) h5
       simp only[aj,h5,Option.getD_some,aP,Act.put,asz]at j;subst j;have H:=ass (h.kE vH.mono 6 (by decide) (by simp) h6 _ ⟨rfl,rfl⟩)
       clear h Wo A f h6 h5;go_wp2
       exact⟨rfl,_,rfl,fun u hu=>asy hu,H.out⟩
     case adl=>
      intro G O h hall;have b:=h.rest;clear h;simp only[aj,Option.getD_some,aP,Act.put,asz];go_wp2
      go_roundw
      case rel=>exact⟨i+1,_,U,V,rfl,rfl,by go_num,by omega,Hnx,b⟩
      case measure=>simp[intOf];omega
    ·obtain rfl:i=m:=by omega
     rw[show(l.map (·.low)).take i=l.map (·.low)from List.take_of_length_le (by rw[List.length_map,←Hm.out];exact Nat.le_refl _)]at b
     have hB1:jn t (aA+1)=l:=by show(t[aA]?).getD []=l;rw[Hl.out];rfl
     have HB1:=ass hB1;clear hB1;go_wp2
     go_roundw
     case rel=>exact⟨aA+1,i,_,U,Z,V,rfl,rfl,by go_num,by omega,ass (by rw[HB1.out,Hm.out]),by rw[HB1.out];exact((b.re [2,3,1,0,4] rfl).tail.tail)⟩
     case measure=>simp[intOf];omega
  ·go_wp2
   go_ret;exact⟨rfl,b.tail.tail.tail⟩
end
section
section
variable {d:aU}{L L':List aQ}{nd:Nd}{fr:cC}{p q:Pg}{sp:Bool}
end
section
variable {d:aU}{L L':List aQ}{l:List Nd}{ks:List ByteArray}{key:ByteArray}
theorem vI:∀(ks:List ByteArray)(i:Nat),(cN i ks).map (·.r)=(List.range ks.length).map (fun j=>((i+j+1:Nat):Int))
 | [],i=>rfl
 | k::ks,i=>by
  show((i+1:Nat):Int)::(cN (i+1) ks).map (·.r)=_
  rw[vI ks (i+1),List.length_cons,List.range_succ_eq_map,List.map_cons,List.map_map];congr 1
  refine List.map_congr_left (fun j _=>?_)
  show((i+1+j+1:Nat):Int)=((i+(j+1)+1:Nat):Int)
  congr 1;omega
end
end
section
theorem lH {t:List (List Nd)}{k:Nat}(id:Int):mD t k id↔id∈refsOf (t[k]?.getD []):=by
 unfold mD refsOf;constructor
 ·rintro ⟨l,nd,s,hl,b,c,rfl⟩
  rw[hl];exact List.mem_map.2 ⟨s,List.mem_flatMap.2 ⟨nd,b,c⟩,rfl⟩
 ·intro h
  obtain⟨s,c,rfl⟩:=List.mem_map.1 h;obtain⟨nd,b,c⟩:=List.mem_flatMap.1 c;cases hl:t[k]? with
  | none=>rw[hl]at b;simp at b
  | some l=>
   rw[hl]at b;exact⟨l,nd,s,rfl,b,c,rfl⟩
theorem Pn {l:List Nd}{r m:List Int}{c:Nd}(f:(l.map (·.id)).Nodup)(hc:c∈l)(A:¬ c.id∈r)(h:∀a,a∈l->(a.id∈m ↔ a.id∈r\/a.id=c.id)) :
  (l.filter fun a => !decide (a.id∈m)).length+1=(l.filter fun a => !decide (a.id∈r)).length:=by
 induction l with
 | nil=>cases hc
 | cons a l ih=>
  rw[List.map_cons,List.nodup_cons]at f;have z:=h a List.mem_cons_self;rcases List.mem_cons.1 hc with e|o
  ·subst e
   have j:(l.filter fun a => !decide (a.id∈m))=l.filter fun a => !decide (a.id∈r):=by
    refine List.filter_congr (fun b s=>?_)
    have v:b.id≠c.id:=fun e=>f.1 (by rw[←e];exact List.mem_map_of_mem s)
    have:=h b (List.mem_cons_of_mem _ s);have u:b.id∈m ↔ b.id∈r:=by
     rw[this];exact⟨fun h=>h.resolve_right v,.inl⟩
    rw[decide_eq_decide.2 u]
   rw[List.filter_cons,List.filter_cons,if_neg (by simp[z.2 (.inr rfl)]),if_pos (by simp[A]),List.length_cons,j]
  ·have x:a.id≠c.id:=fun e=>f.1 (by rw[e];exact List.mem_map_of_mem o)
   have y := ih f.2 o (fun b s=>h b (List.mem_cons_of_mem _ s))
   have u:a.id∈m ↔ a.id∈r:=by
    rw[z];exact⟨fun h=>h.resolve_right x,.inl⟩
   rw[List.filter_cons,List.filter_cons];by_cases hm:a.id∈r
   ·rw[if_neg (by simp[u.2 hm]),if_neg (by simp[hm])]
    exact y
   ·rw[if_pos (by simp[mt u.1 hm]),if_pos (by simp[hm]),List.length_cons,List.length_cons]
    omega
theorem mA.akU {N:Int}{t:List (List Nd)}(b:mA N t){k:Nat}{l:List Nd}(hk:t[k]?=some l):(l.map (·.id)).Nodup:=by
 rw[List.nodup_iff_pairwise_ne,List.pairwise_map,List.pairwise_iff_getElem];intro i j hi c f e;have:=(b.inj k k l l i j _ _ hk hk (asx hi) (asx c) e).2;omega
def sH (t:List (List Nd)):Nat->Nat
 | 0=>0
 | k+1=>sH t k+if 1<=k then bW t k else 0
theorem Lx (t:List (List Nd)):∀k,1<=k->pN t 1 k=sH t k+(k-1)
 | 0,h=>by omega
 | 1,_=>rfl
 | k+2,_=>by
  have ih:=Lx t (k+1) (by omega)
  show pN t 1 (k+1)+(if 1<=k+1 then 1+bW t (k+1)else 0)=sH t (k+1)+(if 1<=k+1 then bW t (k+1)else 0)+(k+2-1)
  rw[if_pos (by omega),if_pos (by omega),ih]
  omega
theorem ado {t:List (List Nd)}(h:2<=t.length):Jl t 1=sH t t.length+(t.length-2):=by
 obtain⟨T,b⟩:∃T,t.length=T+1:=⟨t.length-1,by omega⟩
 unfold Jl;rw[b];show pN t 1 (T+1-1)+bW t (T+1-1)=sH t T+(if 1<=T then bW t T else 0)+(T+1-2)
 rw[if_pos (by omega),Nat.add_sub_cancel,Lx t T (by omega)]
 omega
section
variable {t:List (List Nd)}{N:Int}{k i:Nat}{l:List Nd}{nd:Nd}{key:ByteArray}{r nw:Int}{sp:Bool}
theorem Po (f:mA N t)(hk:t[k+1]?=some l)(hi:l[i]?=some nd){l0:List Nd}{c:Nd}(h0:t[k]?=some l0)(hc:c∈l0)(b:c.id=r)(e:¬ mD t (k+1) r) :
  bW (eM t (k+1) i l nd (aI nd.pg key r) nw sp) k+1=bW t k:=by
 have h:(eM t (k+1) i l nd (aI nd.pg key r) nw sp)[k]?=some l0:=by rw[dD (by omega)];exact h0
 unfold bW mR;rw[h,h0];refine Pn (c:=c) (f.akU h0) hc (by rw[b,←lH];exact e) (fun a _=>?_)
 rw[←lH,←lH,qQ hk hi,b]
theorem Wq (o:mA N t)(hk:t[k]?=some l)(hi:l[i]?=some nd)(e:sp=true->∀(l1:List Nd),t[k]?=some l1->∀a,a∈l1->a.id≠nw) :
  bW (eM t k i l nd (aI nd.pg key r) nw sp) k=bW t k+if sp then 1 else 0:=by
 have m:=(asu.1 hk).1;have hlen:=(asu.1 hi).1;have u:(eM t k i l nd (aI nd.pg key r) nw sp)[k+1]?=t[k+1]? := dD (by omega)
 unfold bW mR;rw[u,hk];have hl:l=l.take i++nd::l.drop (i+1):=by rw[←qN hi,List.take_append_drop]
 cases sp with
 | false=>
  have e2:(eM t k i l nd (aI nd.pg key r) nw false)[k]?=some (l.set i { nd with pg:=aI nd.pg key r }):=List.getElem?_set_self m;rw[e2];show((l.set i { nd with pg:=aI nd.pg key r }).filter _).length=(l.filter _).length+0
  rw[List.set_eq_take_append_cons_drop,if_pos hlen];conv=>rhs;rw[hl]
  simp only[List.filter_append,List.filter_cons,List.length_append];split <;> rfl
 | true=>
  have e2:(eM t k i l nd (aI nd.pg key r) nw true)[k]?=some (pM l i { nd with pg:=ed (aI nd.pg key r) nw } ⟨nw,bM (aI nd.pg key r),cZ (aI nd.pg key r)⟩):=List.getElem?_set_self m;rw[e2];have f:¬ nw∈refsOf (t[k+1]?.getD []):=fun h=>by
   obtain⟨l',b,s,j,v,x,y⟩:=(lH _).2 h;obtain⟨c,hc,e3,_⟩:=(o.down k l l' hk j b v).2 s x;exact e rfl l hk c hc (by rw[e3,y])
  show((pM l i _ _).filter _).length=(l.filter _).length+1
  unfold pM;conv=>rhs;rw[hl]
  simp only[List.filter_append,List.filter_cons];have z:(!decide (nw∈refsOf (t[k+1]?.getD [])))=true:=by simp[f]
  rw[z];simp only[List.length_append,if_true];split
  ·simp only[List.length_cons];omega
  ·simp only[List.length_cons];omega
theorem Pq {fu:Pg}{j:Nat}(b:j≠k)(c:j+1≠k):bW (eM t k i l nd fu nw sp) j=bW t j:=by
 unfold bW mR;rw[dD b,dD c]
end
end
section
theorem xY {α:Type} [DecidableEq α]:∀ {a b:List α},a.Nodup->(∀x,x∈a->x∈b)->a.length<=b.length
 | [],b,_,_=>Nat.zero_le _
 | x::a,b,h,f=>by
  rw[List.nodup_cons]at h;have j:=f x List.mem_cons_self;have ih:=xY (b:=b.erase x) h.2 (fun y m=>by
   have c:y≠x:=fun e=>h.1 (by rw[←e];exact m)
   exact(List.mem_erase_of_ne c).2 (f y (List.mem_cons_of_mem _ m)))
  rw[List.length_erase_of_mem j]at ih;have:=List.length_pos_of_mem j;rw[List.length_cons];omega
theorem aat {aA:Nat}{l:List Nd}(hR:fS aA l)(c:∀nd,nd∈l->Jg nd):(l.flatMap fun nd=>nd.pg.sl).Pairwise fun x y=>cA x.k y.k=true:=by
 rw[List.pairwise_flatMap];refine⟨fun a b=>(c a b).jP,?_⟩
 rw[List.pairwise_iff_getElem];intro i j hi h e x m y o;have b:=asx hi;have f:=asx h;obtain⟨s,u⟩:=hR.Vk b f e;have v:=((c _ (asw b)).bd x m).2 s;have z:=((c _ (asw f)).bd y o).1;exact rp (rp v u) z
section
variable {t:List (List Nd)}{N:Int}{k:Nat}{l l':List Nd}
theorem Ws (u:mA N t)(hk:t[k]?=some l)(b:t[k+1]?=some l'):(refsOf l').length+bW t k<=l.length:=by
 have E:=aat (u.rows _ l' b) (fun nd y=>(u.nodes _ l' b nd y).2)
 have z:∀s,s∈(l'.flatMap fun nd=>nd.pg.sl)->∃c,c∈l/\c.id=s.r/\c.low=s.k:=fun s f=>by
  obtain⟨nd,y,f⟩:=List.mem_flatMap.1 f;exact(u.down k l l' hk b nd y).2 s f
 have A:(refsOf l').Nodup:=by
  unfold refsOf;rw[List.nodup_iff_pairwise_ne,List.pairwise_map,List.pairwise_iff_getElem];rw[List.pairwise_iff_getElem]at E;intro i j hi G B e;have o:=E i j hi G B;obtain⟨c,hc,v,e2⟩:=z _ (List.getElem_mem hi);obtain⟨c',C,e3,e4⟩:=z _ (List.getElem_mem G);obtain⟨p,hp⟩:=ast hc;obtain⟨q,D⟩:=ast C;have:=(u.inj k k l l p q c c' hk hk hp D (by rw[v,e3,e])).2
  subst this;rw[hp]at D;obtain rfl:=asy D;rw[←e2,←e4,cS]at o;cases o
 have I:(refsOf l').length<=((l.filter fun nd=>decide (nd.id∈refsOf l')).map (·.id)).length:=xY A (fun x H=>by
  obtain⟨s,f,rfl⟩:=List.mem_map.1 H;obtain⟨c,hc,v,_⟩:=z s f;exact List.mem_map.2 ⟨c,List.mem_filter.2 ⟨hc,by rw[v];exact decide_eq_true H⟩,v⟩)
 have J:bW t k=(l.filter fun nd => !decide (nd.id∈refsOf l')).length:=by
  unfold bW mR;rw[hk,b];rfl
 rw[List.length_map]at I;rw[J];have M:∀(m:List Nd),(m.filter fun nd=>decide (nd.id∈refsOf l')).length+(m.filter fun nd => !decide (nd.id∈refsOf l')).length=m.length:=by
  intro m;induction m with
  | nil=>rfl
  | cons a m ih=>
   rw[List.filter_cons,List.filter_cons];by_cases h:a.id∈refsOf l'
   ·simp[h];omega
   ·simp[h];omega
 have:=M l;omega
structure Occ (t:List (List Nd)):Prop where
 two:∀(k:Nat) (l:List Nd),t[k+1]?=some l->∀(i:Nat) (nd:Nd),l[i]?=some nd->i+1<l.length->2<=nd.pg.sl.length
 one:∀(k:Nat) (l:List Nd),t[k]?=some l->k+1<t.length->2<=l.length
def bX (fa:Nat)(l:List Nd):Nat:=(l.filter fun nd=>decide (fa<=nd.pg.sl.length)).length
theorem Wu (a b:List Nd):refsOf (a++b)=refsOf a++refsOf b:=by simp[refsOf]
theorem zI (f:mA N t)(z:Occ t){fa:Nat}(B:4<=fa)(hk:t[k]?=some l)(b:t[k+1]?=some l'):2*l'.length+2*bX fa l' + bW t k<=l.length+1:=by
 have h:=Ws f hk b;have A:=(f.rows _ l' b).ne;have hlen:∀(m:List Nd) (q:Nat),q<=2->(∀nd,nd∈m->q<=nd.pg.sl.length)->q*m.length+2*bX fa m<=(refsOf m).length:=by
  intro m q C;induction m with
  | nil=>intro _;simp[refsOf,bX]
  | cons a m ih=>
   intro o;have u:=ih (fun nd v=>o nd (List.mem_cons_of_mem _ v))
   have x:=o a List.mem_cons_self;have e:(refsOf (a::m)).length=a.pg.sl.length+(refsOf m).length:=by simp[refsOf]
   have e2:bX fa (a::m)=(if fa<=a.pg.sl.length then 1 else 0)+bX fa m:=by
    unfold bX;rw[List.filter_cons];by_cases c:fa<=a.pg.sl.length
    ·rw[if_pos (decide_eq_true c),if_pos c,List.length_cons];omega
    ·rw[if_neg (by simp[c]),if_neg c];omega
   rw[e,e2,List.length_cons,Nat.mul_succ];split <;> omega
 obtain⟨n,v⟩:∃n,l'.length=n+1:=⟨l'.length-1,by omega⟩
 have y:l'=l'.take n++l'.drop n:=(List.take_append_drop n l').symm;have u:=hlen (l'.take n) 2 (Nat.le_refl _) (fun nd hm=>by
  obtain⟨i,hi⟩:=ast hm;have j:=(asu.1 hi).1;rw[List.length_take]at j;rw[List.getElem?_take_of_lt (by omega)]at hi
  exact z.two k l' b i nd hi (by omega))
 have x:=hlen (l'.drop n) 1 (by omega) (fun nd hm=>by
  obtain⟨⟨s,r,e,_⟩,_⟩:=f.down k l l' hk b nd (List.mem_of_mem_drop hm);rw[e];simp)
 have D:(refsOf l').length=(refsOf (l'.take n)).length+(refsOf (l'.drop n)).length:=by
  conv=>lhs;rw[y]
  rw[Wu,List.length_append]
 have E:bX fa l'=bX fa (l'.take n)+bX fa (l'.drop n):=by
  conv=>lhs;rw[y]
  unfold bX;rw[List.filter_append,List.length_append]
 rw[List.length_take]at u;rw[List.length_drop]at x;omega
def fW (fa:Nat)(t:List (List Nd)):Nat:=((t.drop 1).map (bX fa)).sum
theorem Fb (z:mA N t)(A:Occ t){fa:Nat}(H:4<=fa){l0:List Nd}(h0:t[0]?=some l0)(O:l0.length<=36):t.length<=7 /\
  (2<=t.length->(∀l,t[t.length-1]?=some l->l.length=1)->∃(l1:List Nd) (f:Nat),t[1]?=some l1/\fW fa t=bX fa l1+f/\sH t t.length+2*f<=l1.length/\2*l1.length+2*bX fa l1+bW t 0<=l0.length+1):=by
 have g:=fun k l l' hk B => zI (k:=k) (l:=l) (l' := l') z A H hk B
 have o:=A.one;have ne:=fun k l hk=>(z.rows k l hk).ne
 have top:∀l,t[t.length-1]?=some l->bW t (t.length-1)=l.length:=fun l hl=>by
  have I:=(asu.1 hl).1;unfold bW;rw[hl];show(l.filter _).length=_
  rw[List.filter_eq_self.2 (fun nd _=>by unfold mR;rw[List.getElem?_eq_none (by omega)];simp[refsOf])]
 clear z A;rcases t with _|⟨a,_|⟨b,_|⟨c,_|⟨e,_|⟨f,_|⟨h,_|⟨x,_|⟨y,r⟩⟩⟩⟩⟩⟩⟩⟩
 ·simp at h0
 ·obtain rfl:=asy h0
  exact⟨by simp,fun h=>by simp at h⟩
 ·obtain rfl:=asy h0
  have j:=g 0 a b rfl rfl;have t1:bW _ 1=b.length:=top b rfl;refine⟨by simp,fun _ m=>⟨b,0,rfl,by simp[fW],?_,j⟩⟩
  have u1:=m b rfl;show 0+0+bW _ 1+2*(0)<=b.length
  omega
 ·obtain rfl:=asy h0
  have j:=g 0 a b rfl rfl;have s:=g 1 b c rfl rfl;have u:=o 1 b rfl (by simp)
  have t1:bW _ 2=c.length:=top c rfl;refine⟨by simp,fun _ m=>⟨b,bX fa c,rfl,by simp[fW],?_,j⟩⟩
  have u1:=m c rfl;show 0+0+bW _ 1+bW _ 2+2*(bX fa c)<=b.length
  omega
 ·obtain rfl:=asy h0
  have j:=g 0 a b rfl rfl;have s:=g 1 b c rfl rfl;have v:=g 2 c e rfl rfl;have u:=o 1 b rfl (by simp)
  have C:=o 2 c rfl (by simp)
  have t1:bW _ 3=e.length:=top e rfl;refine⟨by simp,fun _ m=>⟨b,bX fa c+bX fa e,rfl,by simp[fW];try omega,?_,j⟩⟩
  have u1:=m e rfl;show 0+0+bW _ 1+bW _ 2+bW _ 3+2*(bX fa c+bX fa e)<=b.length
  omega
 ·obtain rfl:=asy h0
  have j:=g 0 a b rfl rfl;have s:=g 1 b c rfl rfl;have v:=g 2 c e rfl rfl;have D:=g 3 e f rfl rfl;have u:=o 1 b rfl (by simp)
  have C:=o 2 c rfl (by simp)
  have E:=o 3 e rfl (by simp)
  have t1:bW _ 4=f.length:=top f rfl;refine⟨by simp,fun _ m=>⟨b,bX fa c+bX fa e+bX fa f,rfl,by simp[fW];try omega,?_,j⟩⟩
  have u1:=m f rfl;show 0+0+bW _ 1+bW _ 2+bW _ 3+bW _ 4+2*(bX fa c+bX fa e+bX fa f)<=b.length
  omega
 ·obtain rfl:=asy h0
  have j:=g 0 a b rfl rfl;have s:=g 1 b c rfl rfl;have v:=g 2 c e rfl rfl;have D:=g 3 e f rfl rfl;have G:=g 4 f h rfl rfl;have u:=o 1 b rfl (by simp)
  have C:=o 2 c rfl (by simp)
  have E:=o 3 e rfl (by simp)
  have J:=o 4 f rfl (by simp)
  have t1:bW _ 5=h.length:=top h rfl;refine⟨by simp,fun _ m=>⟨b,bX fa c+bX fa e+bX fa f+bX fa h,rfl,by simp[fW];try omega,?_,j⟩⟩
  have u1:=m h rfl;show 0+0+bW _ 1+bW _ 2+bW _ 3+bW _ 4+bW _ 5+2*(bX fa c+bX fa e+bX fa f+bX fa h)<=b.length
  omega
 ·obtain rfl:=asy h0
  have j:=g 0 a b rfl rfl;have s:=g 1 b c rfl rfl;have v:=g 2 c e rfl rfl;have D:=g 3 e f rfl rfl;have G:=g 4 f h rfl rfl;have M:=g 5 h x rfl rfl;have u:=o 1 b rfl (by simp)
  have C:=o 2 c rfl (by simp)
  have E:=o 3 e rfl (by simp)
  have J:=o 4 f rfl (by simp)
  have P:=o 5 h rfl (by simp)
  have t1:bW _ 6=x.length:=top x rfl;refine⟨by simp,fun _ m=>⟨b,bX fa c+bX fa e+bX fa f+bX fa h+bX fa x,rfl,by simp[fW];try omega,?_,j⟩⟩
  have u1:=m x rfl;show 0+0+bW _ 1+bW _ 2+bW _ 3+bW _ 4+bW _ 5+bW _ 6+2*(bX fa c+bX fa e+bX fa f+bX fa h+bX fa x)<=b.length
  omega
 ·exfalso
  obtain rfl:=asy h0;have j:=g 0 a b rfl rfl;have s:=g 1 b c rfl rfl;have v:=g 2 c e rfl rfl;have D:=g 3 e f rfl rfl;have G:=g 4 f h rfl rfl;have M:=g 5 h x rfl rfl;have Q:=o 6 x rfl (by simp)
  omega
end
theorem Ww:∀r1:Nat,r1<=18->∀F:Nat,F<=18->∀f:Nat,f<=9->1<=r1->2*f<=r1->(2*(37-2*r1-2*F-(if r1=1 then 0 else 0))+F+f)*(11*(r1-2*f+6)+53)<=9500:=by decide +kernel
end
end Go.Proofs.YtlpdhhhgckpcfaaGreat
