/- The machine post.Post: what makes i. -/
import Derived.Test.YtlpdhhhgckpcfaaGreatLock
import Derived.Test.YtlpdhhhgckpcfaaGreatViewA
namespace Go.Proofs.YtlpdhhhgckpcfaaGreat
set_option linter.unusedSimpArgs false
set_option linter.unusedVariables false
open Go.RowKit
set_option maxHeartbeats 16000000
set_option maxRecDepth 100000
structure jF where
 aA:Int
 sep:ByteArray
 ch:Int
 po:Bool
def bA (d:aU)(p:jF):List Value:=
 [.int .i64 d.th,.int .i64 d.sn,.int .i64 d.no,.int .i64 d.ch,.int .i64 d.re,.int .i64 d.fa,.int .u64 d.cl,.int .i64 p.aA,.string p.sep,.int .u64 p.ch,.bool p.po]
def jr (jc bD:Nat):Value:= .func (.func 142) #[] #[(.pointer (some ⟨jc,0,none⟩)),(.pointer (some ⟨bD,0,none⟩))]
def mj (bD eI:Nat):Value:= .func (.func 175) #[] #[(.pointer (some ⟨bD,0,none⟩)),(.pointer (some ⟨eI,0,none⟩))]
def zn (bD fj:Nat):Value:= .func (.func 170) #[] #[(.pointer (some ⟨bD,0,none⟩)),(.pointer (some ⟨fj,0,none⟩))]
def zo (xM bD fG jT:Nat):Value:= .func (.func 184) #[] #[(.pointer (some ⟨xM,0,none⟩)),(.pointer (some ⟨bD,0,none⟩)),(.pointer (some ⟨fG,0,none⟩)),(.pointer (some ⟨jT,0,none⟩))]
def s6 (K:aM)(P REST:List aC)(T:TypeId)(z:Value)(i j k:Nat)(Φ:Value->List aC->Prop)(ρ:Nat->Option Value)(W:World):Prop:=
 ∃(b:Nat) (C:List aC),(∀v,ρ i=some v->Φ v C)/\(∀v,ρ j=some v->v=(.pointer (some ⟨b,0,none⟩))) /\
  St K W ((if (ρ i).isSome then C else P)++(dO (ρ j) (blk b (.cells #[if (ρ k).isSome then(ρ i).getD z else z] T))::REST))
section
variable {K:aM}{P REST:List aC}{T:TypeId}{z:Value}{i j k:Nat}{Φ:Value->List aC->Prop}{ρ:Nat->Option Value}{W:World}{v u:Value}
theorem s6.start (a:St K W (P++REST)):s6 K P REST T z i j k Φ (fun _=>none) W:=by
 refine⟨0,[],fun v h=>(by cases h),fun v h=>(by cases h),?_⟩
 exact(a.empty).perm (List.perm_middle.symm)
theorem s6.same {W':World}(h:s6 K P REST T z i j k Φ ρ W)(a:Below W.heap.size W W'):s6 K P REST T z i j k Φ ρ W' := by
 obtain⟨b,C,c,e2,e⟩:=h;exact⟨b,C,c,e2,e.same a⟩
theorem s6.rest (h:s6 K P REST T z i j k Φ ρ W):St K W REST:=by
 obtain⟨b,C,c,e2,a⟩:=h;exact(a.right).tail
theorem s6.call (h:s6 K P REST T z i j k Φ ρ W)(c:i≠j)(f:i≠k)(hi:ρ i=none)(hk:ρ k=none):∃X:List aC,St K W (P++(REST++X))/\∀v C W',Φ v C->St K W' (C++(REST++X))->s6 K P REST T z i j k Φ (upd ρ i v) W' := by
 obtain⟨b,n,o,e2,e⟩:=h;rw[hi,hk]at e;have e:St K W (P++(dO (ρ j) (blk b (.cells #[z] T))::REST)):=e;refine⟨[dO (ρ j) (blk b (.cells #[z] T))],e.perm (List.Perm.append_left P (by simpa using (List.perm_append_comm (l₁:=[dO (ρ j) (blk b (.cells #[z] T))]) (l₂:=REST)))),fun v C W' g l => ⟨b,C,fun m a =>?_,fun m a => e2 m (by rwa [upd_ne (Ne.symm c)]at a),?_⟩⟩
 ·rw[cE]at a
  rw[←asy a];exact g
 ·rw[cE,upd_ne (Ne.symm c),upd_ne (Ne.symm f),hk]
  exact l.perm (List.Perm.append_left C (by simp))
theorem s6.var (h:s6 K P REST T z i j k Φ ρ W)(a:i≠j)(e:j≠k)(l:ρ j=none)(hk:ρ k=none):s6 K P REST T z i j k Φ (upd ρ j (.pointer (some ⟨W.heap.size,0,none⟩))) (W.alloc (.cells #[z] T)):=by
 obtain⟨b,f,m,e2,g⟩:=h;rw[l,hk]at g;refine⟨W.heap.size,f,fun v c=>m v (by rwa [upd_ne a]at c),fun v c=>by rw[cE]at c;exact(asy c).symm,?_⟩
 rw[upd_ne a,cE,upd_ne (Ne.symm e),hk];have n:St K W ((if (ρ i).isSome then f else P)++(gW::REST)):=g
 have o:St K W (gW::((if (ρ i).isSome then f else P)++REST)):=n.perm List.perm_middle
 have q:=o.tail.made (.cells #[z] T);exact q.perm (List.perm_middle.symm)
theorem s6.store (h:s6 K P REST T z i j k Φ ρ W)(a:i≠k)(c:j≠k)(hi:ρ i=some v)(f:ρ j=some u)(hk:ρ k=none):∃(b:Nat)(n:List aC),u=(.pointer (some ⟨b,0,none⟩))/\(∃C,Φ v C)/\St K W (blk b (.cells #[z] T)::n) /\
  ∀W',St K W' (blk b (.cells #[v] T)::n)->s6 K P REST T z i j k Φ (upd ρ k undef) W' := by
 obtain⟨b,e,o,e2,q⟩:=h;rw[hi,f,hk]at q;have r:St K W (e++(blk b (.cells #[z] T)::REST)):=q;refine⟨b,e++REST,e2 u f,⟨e,o v hi⟩,r.perm List.perm_middle,fun W' g => ⟨b,e,fun l m=>o l (by rwa [upd_ne a]at m),fun l m=>e2 l (by rwa [upd_ne c]at m),?_⟩⟩
 rw[upd_ne a,upd_ne c,cE,hi,f];exact g.perm (List.perm_middle.symm)
theorem s6.last (h:s6 K P REST T z i j k Φ ρ W)(a:∀e,e∈[i,j,k]->(ρ e).isSome=true):∃(b:Nat)(v:Value)(C:List aC),ρ i=some v/\ρ j=some (.pointer (some ⟨b,0,none⟩))/\(∃x,ρ k=some x)/\Φ v C/\St K W (blk b (.cells #[v] T)::(C++REST)):=by
 obtain⟨v,hi⟩:=asv.1 (a i (by simp))
 obtain⟨u,c⟩:=asv.1 (a j (by simp))
 obtain⟨x,hk⟩:=asv.1 (a k (by simp))
 obtain⟨b,f,l,e2,g⟩:=h;rw[hi,c,hk]at g;have m:St K W (f++(blk b (.cells #[v] T)::REST)):=g;exact⟨b,v,f,hi,by rw[c,e2 u c],⟨x,hk⟩,l v hi,m.perm List.perm_middle⟩
theorem St.mid {A C B F:List aC}(h:St K W (A++(C++(B++F)))):St K W (B++(A++(C++F))):=by
 refine h.perm ?_
 have a:(A++(C++(B++F))).Perm ((A++C)++(B++F)):=by rw[List.append_assoc]
 refine a.trans ?_
 have c:((A++C)++(B++F)).Perm (((A++C)++B)++F):=by rw[←List.append_assoc]
 refine c.trans ((List.Perm.append_right F List.perm_append_comm).trans ?_);rw[List.append_assoc,List.append_assoc]
end
section
variable {K:aM}{w:World}{F:List aC}{b:Nat}{d:aU}{p:jF}{nx:Value}{on:Bool}
def ajT (d:aU)(p:jF)(v:Value)(C:List aC):Prop:=∃bk,v=(.pointer (some ⟨bk,0,none⟩))/\lC d p.sep p.aA bk nK C
theorem mo (a:St K w (blk b (.cells (nx :: .bool on::bA d p).toArray 167)::F)):Calls Tryz.prog 107 #[(.pointer (some ⟨b,0,none⟩))] w fun e w' => ∃b2 b3 b5 g J M C,e=.returned (aY (some (aB b2 b3 b5)))/\lC d p.sep p.aA g nK C /\
  St K w' (blk b (.cells (nx :: .bool on::bA d p).toArray 167)::bI b2 b3 b5 (.iface 37 (.pointer (some ⟨g,0,none⟩))) (jr J M)::([blk J (.cells #[(.pointer (some ⟨g,0,none⟩))] 37),blk M (.cells #[(.pointer (some ⟨b,0,none⟩))] 100)]++(C++F))):=by
 have a:=a.made (.cells #[(.pointer (some ⟨b,0,none⟩))] 100);go_enter Tryz.func107,Tryz.ntmps107
 go_upto_region 1 with(fail)
 obtain⟨bp,N⟩:∃bp,bp=w.heap.size:=⟨_,rfl⟩;rw[←N]at a ⊢;clear N;refine dc a ?_
 clear a;intro w1 a;have G:=ass a;clear a;refine aX [false,false,false,false,false,false,false,false,false,false,false,false,true,true,true] [12,13,14] (fun|14=>[12,13] | _=>[])
  (oP K (blk bp (.cells #[(.pointer (some ⟨b,0,none⟩))] 100)::blk b (.cells (nx :: .bool on::bA d p).toArray 167)::F) 37 (.pointer none) 12 13 14 (ajT d p))
  (fun W=>St K W (blk bp (.cells #[(.pointer (some ⟨b,0,none⟩))] 100)::blk b (.cells (nx :: .bool on::bA d p).toArray 167)::F)) ?aSA (by kernel_rfl) ?hBA ?HA ?Iw ?h0A ?hIA ?hRA ?hEA ?hQA
 case hBA=>as_aux_lemma=>kernel_rfl
 case HA=>
  intro y a;have k0:=a.k0;have k1:=a.k1;unfold bA at k1;clear a;simp only[cG];repeat (go_big_quiet_step (fail))
  refine wpQuiet_nil ?_
  rfl
 case Iw=>rfl
 case h0A=>exact oP.start G.out
 case hIA=>exact fun ρ y h=>h.rest
 case hRA=>exact fun ρ y O h Y=>h.same Y
 case hEA=>
  refine⟨?e1A,?e2A,?e3A,trivial⟩;case e1A=>
   intro o A ρ y h l r m B n;obtain rfl:=asy A;replace n:B=aj _ ρ [] _:=n;have q:ρ 14=none:=l.none (by simp) (show 12∈[12,13]by simp) r
   obtain⟨X,a,c⟩:=h.call (by omega) (by omega) r q
   simp only[aj]at n;subst n;have D:=ass c;clear c l m r q h;go_wp2_with fail
   refine(Iu (d:=d) (key:=p.sep) (level:=p.aA) a).mono ?_
   rintro e O ⟨g,C,rfl,H,E⟩;have Z:=ass E;clear a E;go_wp2
   exact⟨rfl,_,rfl,D.out _ _ O ⟨g,rfl,H⟩ Z.out⟩
  case e2A=>
   intro o A ρ y h l s m B n;obtain rfl:=asy A;replace n:B=aj _ ρ [] _:=n;have q:ρ 14=none:=l.none (by simp) (show 13∈[12,13]by simp) s
   have D:=ass (h.var (by omega) (by omega) s q)
   simp only[aj]at n;subst n;clear l m s q h;go_wp2
   exact⟨rfl,_,rfl,D.out⟩
  case e3A=>
   intro o A ρ y h l q m B n;obtain rfl:=asy A;replace n:B=aj _ ρ [12,13] _:=n;obtain⟨v12,r⟩:=asv.1 (m 12 (by show _∈[12,13];simp))
   obtain⟨v13,s⟩:=asv.1 (m 13 (by show _∈[12,13];simp))
   obtain⟨bv,R',rfl,⟨C,g,rfl,_⟩,a,c⟩:=h.store (by omega) (by omega) r s q
   simp only[aj,r,s,Option.getD_some,aP,Act.put,asz]at n;subst n;have k0:=a.k0;have f0:=a.f0;have gJ:Hid (St K _ (blk bv (.cells #[(.pointer (some ⟨g,0,none⟩))] 37)::R')):=ass (a.aK 0 (.pointer (some ⟨g,0,none⟩)));have D:=ass c;clear a c l m h r s q;go_wp2
   exact⟨rfl,undef,rfl,D.out _ gJ.out⟩
 case hQA=>
 intro ρ y h t;obtain⟨bv,v,C,r,s,⟨v14,q⟩,I,a⟩:=h.last t;simp only[aj,r,s,q,Option.getD_some,aP,Act.put,asz];clear h t r s q G;obtain⟨g,rfl,H⟩:=I;have kv:=a.k0;have Q:=ass (fY (T2:=37) (xv:=(.pointer (some ⟨g,0,none⟩))) (f:=142) (tx:= #[]) (ty:= #[(.pointer (some ⟨bv,0,none⟩)),(.pointer (some ⟨bp,0,none⟩))]) a);have Hr:=ass H;clear a H;go_wp2_with fail
 refine(Q.out).mono ?_
 clear Q kv;rintro e R ⟨b2,b3,b5,rfl,a⟩;have S:St K R ([bI b2 b3 b5 (.iface 37 (.pointer (some ⟨g,0,none⟩))) (jr bv bp),blk bv (.cells #[(.pointer (some ⟨g,0,none⟩))] 37)]++(C++([blk bp (.cells #[(.pointer (some ⟨b,0,none⟩))] 100),blk b (.cells (nx :: .bool on::bA d p).toArray 167)]++F))):=a;have U:=S.mid;have V:St K R (blk bp (.cells #[(.pointer (some ⟨b,0,none⟩))] 100)::blk b (.cells (nx :: .bool on::bA d p).toArray 167)::bI b2 b3 b5 (.iface 37 (.pointer (some ⟨g,0,none⟩))) (jr bv bp)::blk bv (.cells #[(.pointer (some ⟨g,0,none⟩))] 37)::(C++F)):=U;have G:=ass (V.re [1,2,3,0] rfl);clear a S U V;simp only[aB,aY];go_wp2
 go_ret;exact⟨b2,b3,b5,g,bv,bp,C,rfl,Hr.out,G.out⟩
theorem iV {h:cC}{va:Value}{f:Nat}{tx ty:Array Value}(V:d.Ok)(hid:0<=h.id/\h.id<18446744073709551616)(a:St K w (blk b (.cells (nx :: .bool on::bA d p).toArray 167)::F)) :
  Calls Tryz.prog 144 #[(.pointer (some ⟨b,0,none⟩)),(.agg #[.int .u64 (h).id,.int .u64 (h).word,.int .i64 (h).pg.aA,va,.string (h).pg.hi,.bool (h).pg.la,.int .u64 (h).pg.ri]),.func (.func f) tx ty] w fun e w' => ∃b2 b3 b5,e=.returned (aY (some (aB b2 b3 b5)))/\∃br bi bw,
  St K w' (blk b (.cells (nx :: .bool on::bA d p).toArray 167)::bI b2 b3 b5 (.iface 47 (.pointer (some ⟨br,0,none⟩))) (.func (.func f) tx ty)::(fF br bi bw (d.node h.id 0) h.word 0++F)):=by
 have a:=a.made (.cells #[.int .u64 (h).id,.int .u64 (h).word,.int .i64 (h).pg.aA,va,.string (h).pg.hi,.bool (h).pg.la,.int .u64 (h).pg.ri] 45);obtain⟨id,word,pg⟩:=h;simp only at hid a;go_enter Tryz.func144,Tryz.ntmps144
 go_upto_region 1 with(fail)
 obtain⟨I,J⟩:∃I,I=w.heap.size:=⟨_,rfl⟩;rw[←J]at a ⊢;clear J;refine dc a ?_
 clear a;intro w1 a;have N:=ass a;clear a;refine aX [false,false,false,false,false,false,false,false,false,true,true,false,true,true] [9,10,12,13] (fun|10=>[9] | 12=>[10] | 13=>[12] | _=>[])
  (GR K (blk I (.cells #[.int .u64 ((⟨id,word,pg⟩:cC)).id,.int .u64 ((⟨id,word,pg⟩:cC)).word,.int .i64 ((⟨id,word,pg⟩:cC)).pg.aA,va,.string ((⟨id,word,pg⟩:cC)).pg.hi,.bool ((⟨id,word,pg⟩:cC)).pg.la,.int .u64 ((⟨id,word,pg⟩:cC)).pg.ri] 45)::blk b (.cells (nx :: .bool on::bA d p).toArray 167)::F) [9,10,12,13] (mM 47 (.func (.func f) tx ty) (aaE (d.node id 0) word) 9 10 12 13))
  (fun W=>St K W (blk I (.cells #[.int .u64 ((⟨id,word,pg⟩:cC)).id,.int .u64 ((⟨id,word,pg⟩:cC)).word,.int .i64 ((⟨id,word,pg⟩:cC)).pg.aA,va,.string ((⟨id,word,pg⟩:cC)).pg.hi,.bool ((⟨id,word,pg⟩:cC)).pg.la,.int .u64 ((⟨id,word,pg⟩:cC)).pg.ri] 45)::blk b (.cells (nx :: .bool on::bA d p).toArray 167)::F)) ?aSB (by kernel_rfl) ?hBB ?HB ?Ue ?h0B ?hIB ?hRB ?hEB ?hQB
 case hBB=>as_aux_lemma=>kernel_rfl
 case HB=>
  intro y a;have k0:=a.k0;have k1:=a.k1;unfold bA at k1;have X:=ass (fun w=>iG d V id hid.1 hid.2 w)
  clear a;simp only[cG];repeat (go_big_quiet_step ((go_at_call 69;exact aZ (X.out _))))
  refine wpQuiet_nil ?_
  rfl
 case Ue=>rfl
 case h0B=>exact GR.start N.out
 case hIB=>exact fun ρ y h=>h.rest
 case hRB=>exact fun ρ y O h Y=>h.same Y
 case hEB=>
  refine⟨?e1B,?e2B,?e3B,?e4B,trivial⟩;case e1B=>
   intro o B ρ y h m s g D l;obtain rfl:=asy B;replace l:D=aj _ ρ [] _:=l;obtain⟨C,Z,E,a,c⟩:=h.step mM.mono 9 [] (by decide) (by decide) (by decide) s (by simp)
   simp only[aj]at l;subst l;have R:=ass c;clear c E h m g s;have Q:=ass (kM (i:=d.node id 0) (word:=word) a);clear a;go_wp2_with fail
   refine(Q.out).mono ?_
   rintro e O ⟨br,bi,bw,rfl,n⟩;have S:=ass n;clear n Q;go_wp2
   exact⟨rfl,_,rfl,R.out _ _ O ⟨br,bi,bw,rfl,rfl⟩ S.out⟩
  case e2B=>
   intro o B ρ y h m r g D l;obtain rfl:=asy B;replace l:D=aj _ ρ [9] _:=l;obtain⟨v9,s⟩:=asv.1 (g 9 (by show _∈[9];simp))
   simp only[aj,s,Option.getD_some,aP,Act.put,asz]at l;subst l;have H:=ass (h.kE mM.mono 10 (by decide) (by simp) r (.iface 47 v9) ⟨⟨v9,iP r s,rfl⟩,rfl⟩)
   clear h m g r s;go_wp2
   exact⟨rfl,_,rfl,H.out⟩
  case e3B=>
   intro o B ρ y h m q g D l;obtain rfl:=asy B;replace l:D=aj _ ρ [10] _:=l;obtain⟨v10,r⟩:=asv.1 (g 10 (by show _∈[10];simp))
   obtain⟨Zl,R8,⟨⟨u1,t,rfl⟩,_⟩,_⟩:=h.at 10 (by simp) r
   obtain⟨C,Z,E,a,c⟩:=h.step mM.mono 12 [] (by decide) (by decide) (by decide) q (by simp)
   simp only[aj,r,Option.getD_some,aP,Act.put,asz]at l;subst l;have M:∀v,upd ρ 12 v 9=some u1:=fun v=>iP q t
   have R:=ass c;have Hu:=ass M;clear c E h m g r q t M;have Q:=ass (fY (T2:=47) (xv:=u1) (f:=f) (tx:=tx) (ty:=ty) a);clear a;go_wp2_with fail
   refine(Q.out).mono ?_
   rintro e O ⟨b2,b3,b5,rfl,n⟩;have S:=ass n;clear n Q;simp only[aB,aY];go_wp2
   exact⟨rfl,_,rfl,R.out _ [_] O ⟨u1,b2,b3,b5,Hu.out _,rfl,rfl⟩ S.out⟩
  case e4B=>
   intro o B ρ y h m G g D l;obtain rfl:=asy B;replace l:D=aj _ ρ [12] _:=l;obtain⟨v12,q⟩:=asv.1 (g 12 (by show _∈[12];simp))
   obtain⟨Zl,R8,⟨u1,b2,b3,b5,t,rfl,_⟩,_⟩:=h.at 12 (by simp) q
   simp only[aj,q,Option.getD_some,aP,Act.put,asz]at l;subst l;have H:=ass (h.kE mM.mono 13 (by decide) (by simp) G (aY (some (aB b2 b3 b5))) ⟨⟨b2,b3,b5,rfl,iP G q⟩,rfl⟩)
   clear h m g q G t;simp only[aB,aY]at H ⊢;go_wp2
   exact⟨rfl,_,rfl,H.out⟩
 case hQB=>
 intro ρ y h A;obtain⟨u1,b2,b3,b5,C,U,s,r,q,G,a⟩:=mM.last (by decide) h A
 simp only[aj,s,r,q,G,Option.getD_some,aP,Act.put,asz];clear h A s r q G N;obtain⟨br,bi,bw,rfl,rfl⟩:=U;have N:=ass a;clear a;simp only[aB,aY];go_wp2
 go_ret;refine⟨b2,b3,b5,rfl,br,bi,bw,?_⟩;have a:St K y (bI b2 b3 b5 _ _::blk br _::blk bi _::blk bw _::blk I _::blk b (.cells (nx :: .bool on::bA d p).toArray 167)::F):=N.out;exact(a.re [4,5,0,1,2,3] rfl).tail
theorem mq (x:Bool)(a:St K w (blk b (.cells (nx :: .bool on::bA d p).toArray 167)::F)):Calls Tryz.prog 146 #[(.pointer (some ⟨b,0,none⟩)),.bool x] w fun e w' => e=.returned .nilFunc/\St K w' (blk b (.cells (nx :: .bool on::bA d (⟨p.aA,p.sep,p.ch,x⟩:jF)).toArray 167)::F):=by
 have k0:=a.k0;have f0:=a.f0;unfold bA at k0;have c:Hid (St K _ (blk b (.cells (nx :: .bool on::bA d (⟨p.aA,p.sep,p.ch,x⟩:jF)).toArray 167)::F)):=ass (a.aK 12 (.bool x));clear a;go_enter Tryz.func146,Tryz.ntmps146
 go_wp2
 go_ret;exact⟨rfl,c.out⟩
end
def ajU (d:aU)(fr:cC)(fu:Pg)(v:Value)(C:List aC):Prop:=∃(bi:Nat) (s:gh),v=(.pointer (some ⟨bi,0,none⟩))/\nM d fr fu s/\kS d fr fu bi s C
section
variable {K:aM}{w:World}{F:List aC}{b:Nat}{d:aU}{p:jF}{nx:Value}{on:Bool}
theorem wE {fr:cC}{fu:Pg}{af:Option Addr}{cf:Nat}(hd:d.Ok)(N:fr.Ok d)(he:fu=aI fr.pg p.sep p.ch)(D:decide (fR fr.pg.sl p.sep<iN fr.pg.sl p.sep)=false)(S:kY fr.pg.sl)(U:lB d fr fu)(a:St K w (blk b (.cells (nx :: .bool on::bA d p).toArray 167)::bz (.slice af fr.pg.sl.length cf) fr.pg::F)) :
  Calls Tryz.prog 147 #[(.pointer (some ⟨b,0,none⟩)),(.agg #[.int .u64 (fr).id,.int .u64 (fr).word,.int .i64 (fr).pg.aA,(.slice af fr.pg.sl.length cf),.string (fr).pg.hi,.bool (fr).pg.la,.int .u64 (fr).pg.ri])] w fun e w' => ∃b2 b3 b5 bi V Y s C,e=.returned (aY (some (aB b2 b3 b5)))/\nM d fr fu s/\kS d fr fu bi s C /\
  St K w' (blk b (.cells (nx :: .bool on::bA d p).toArray 167)::bI b2 b3 b5 (.iface 82 (.pointer (some ⟨bi,0,none⟩))) (mj V Y)::([blk V (.cells #[(.pointer (some ⟨b,0,none⟩))] 100),blk Y (.cells #[(.pointer (some ⟨bi,0,none⟩))] 82)]++(C++F))):=by
 have a:=(a.made (.cells #[(.pointer (some ⟨b,0,none⟩))] 100)).made (.cells #[.int .u64 (fr).id,.int .u64 (fr).word,.int .i64 (fr).pg.aA,(.slice af fr.pg.sl.length cf),.string (fr).pg.hi,.bool (fr).pg.la,.int .u64 (fr).pg.ri] 45);simp only[World.size_alloc]at a;have q:=fun(W:World) (R:List aC) (h:St K W (bz (.slice af fr.pg.sl.length cf) fr.pg::R))=>Di (key:=p.sep) (ref:=p.ch) hd N he D S U h
 have Z:=ass q;clear q he D S U;go_enter Tryz.func147,Tryz.ntmps147
 go_upto_region 1 with(fail)
 obtain⟨bp,mV⟩:∃bp,bp=w.heap.size:=⟨_,rfl⟩;rw[←mV]at a ⊢;clear mV;refine dc a ?_
 clear a;intro w1 a;have a:St K w1 ([bz (.slice af fr.pg.sl.length cf) fr.pg]++(blk (bp+1) (.cells #[.int .u64 (fr).id,.int .u64 (fr).word,.int .i64 (fr).pg.aA,(.slice af fr.pg.sl.length cf),.string (fr).pg.hi,.bool (fr).pg.la,.int .u64 (fr).pg.ri] 45)::blk bp (.cells #[(.pointer (some ⟨b,0,none⟩))] 100)::blk b (.cells (nx :: .bool on::bA d p).toArray 167)::F)):=(show St K w1 (_::_::_::bz (.slice af fr.pg.sl.length cf) fr.pg::F)from a).b3
 have J:=ass a;clear a;refine aX [false,false,false,false,false,false,false,false,false,false,false,false,false,true,true,true] [13,14,15] (fun|15=>[13,14] | _=>[])
  (s6 K ([bz (.slice af fr.pg.sl.length cf) fr.pg]) (blk (bp+1) (.cells #[.int .u64 (fr).id,.int .u64 (fr).word,.int .i64 (fr).pg.aA,(.slice af fr.pg.sl.length cf),.string (fr).pg.hi,.bool (fr).pg.la,.int .u64 (fr).pg.ri] 45)::blk bp (.cells #[(.pointer (some ⟨b,0,none⟩))] 100)::blk b (.cells (nx :: .bool on::bA d p).toArray 167)::F) 82 (.pointer none) 13 14 15 (ajU d fr fu))
  (fun W=>St K W (blk (bp+1) (.cells #[.int .u64 (fr).id,.int .u64 (fr).word,.int .i64 (fr).pg.aA,(.slice af fr.pg.sl.length cf),.string (fr).pg.hi,.bool (fr).pg.la,.int .u64 (fr).pg.ri] 45)::blk bp (.cells #[(.pointer (some ⟨b,0,none⟩))] 100)::blk b (.cells (nx :: .bool on::bA d p).toArray 167)::F)) ?aSC (by kernel_rfl) ?hBC ?HC ?acg ?h0C ?hIC ?hRC ?hEC ?hQC
 case hBC=>as_aux_lemma=>kernel_rfl
 case HC=>
  intro A a;have k0:=a.k0;have k1:=a.k1;have k2:=a.k2;unfold bA at k2;clear a;simp only[cG];repeat (go_big_quiet_step (fail))
  refine wpQuiet_nil ?_
  rfl
 case acg=>rfl
 case h0C=>exact s6.start J.out
 case hIC=>exact fun ρ A h=>h.rest
 case hRC=>exact fun ρ A W3 h B=>h.same B
 case hEC=>
  refine⟨?e1C,?e2C,?e3C,trivial⟩;case e1C=>
   intro o E ρ A h g r l G m;obtain rfl:=asy E;replace m:G=aj _ ρ [] _:=m;have n:ρ 15=none:=g.none (by simp) (show 13∈[13,14]by simp) r
   obtain⟨X,a,c⟩:=h.call (by omega) (by omega) r n
   simp only[aj]at m;subst m;have H:=ass c;clear c g l r n h;go_wp2_with fail
   refine(Z.out _ _ a).mono ?_
   rintro e W3 ⟨bi,s,C,rfl,B,M,I⟩;have eT:=ass I;clear a I;go_wp2
   exact⟨rfl,_,rfl,H.out _ _ W3 ⟨bi,s,rfl,B,M⟩ eT.out⟩
  case e2C=>
   intro o E ρ A h g t l G m;obtain rfl:=asy E;replace m:G=aj _ ρ [] _:=m;have n:ρ 15=none:=g.none (by simp) (show 14∈[13,14]by simp) t
   have H:=ass (h.var (by omega) (by omega) t n)
   simp only[aj]at m;subst m;clear g l t n h;go_wp2
   exact⟨rfl,_,rfl,H.out⟩
  case e3C=>
   intro o E ρ A h g n l G m;obtain rfl:=asy E;replace m:G=aj _ ρ [13,14] _:=m;obtain⟨v13,r⟩:=asv.1 (l 13 (by show _∈[13,14];simp))
   obtain⟨v14,t⟩:=asv.1 (l 14 (by show _∈[13,14];simp))
   obtain⟨bv,R',rfl,⟨C,bi,s,rfl,_⟩,a,c⟩:=h.store (by omega) (by omega) r t n
   simp only[aj,r,t,Option.getD_some,aP,Act.put,asz]at m;subst m;have k0:=a.k0;have f0:=a.f0;have gJ:Hid (St K _ (blk bv (.cells #[(.pointer (some ⟨bi,0,none⟩))] 82)::R')):=ass (a.aK 0 (.pointer (some ⟨bi,0,none⟩)));have H:=ass c;clear a c g l h r t n;go_wp2
   exact⟨rfl,undef,rfl,H.out _ gJ.out⟩
 case hQC=>
 intro ρ A h y;obtain⟨bv,v,C,r,t,⟨v15,n⟩,O,a⟩:=h.last y;simp only[aj,r,t,n,Option.getD_some,aP,Act.put,asz];clear h y r t n J;obtain⟨bi,s,rfl,B,M⟩:=O;have kv:=a.k0;have Q:=ass (fY (T2:=82) (xv:=(.pointer (some ⟨bi,0,none⟩))) (f:=175) (tx:= #[]) (ty:= #[(.pointer (some ⟨bp,0,none⟩)),(.pointer (some ⟨bv,0,none⟩))]) a);have Hr:=ass M;have Hb:=ass B;clear a M B Z;go_wp2_with fail
 refine(Q.out).mono ?_
 clear Q kv;rintro e w3 ⟨b2,b3,b5,rfl,a⟩;have h1:St K w3 ([bI b2 b3 b5 (.iface 82 (.pointer (some ⟨bi,0,none⟩))) (mj bp bv),blk bv (.cells #[(.pointer (some ⟨bi,0,none⟩))] 82)]++(C++([blk (bp+1) (.cells #[.int .u64 (fr).id,.int .u64 (fr).word,.int .i64 (fr).pg.aA,(.slice af fr.pg.sl.length cf),.string (fr).pg.hi,.bool (fr).pg.la,.int .u64 (fr).pg.ri] 45),blk bp (.cells #[(.pointer (some ⟨b,0,none⟩))] 100),blk b (.cells (nx :: .bool on::bA d p).toArray 167)]++F))):=a;have h2:=h1.mid;have h3:St K w3 (blk (bp+1) (.cells #[.int .u64 (fr).id,.int .u64 (fr).word,.int .i64 (fr).pg.aA,(.slice af fr.pg.sl.length cf),.string (fr).pg.hi,.bool (fr).pg.la,.int .u64 (fr).pg.ri] 45)::blk bp (.cells #[(.pointer (some ⟨b,0,none⟩))] 100)::blk b (.cells (nx :: .bool on::bA d p).toArray 167)::bI b2 b3 b5 (.iface 82 (.pointer (some ⟨bi,0,none⟩))) (mj bp bv)::blk bv (.cells #[(.pointer (some ⟨bi,0,none⟩))] 82)::(C++F)):=h2;have J:=ass (h3.tail.re [1,2,0,3] rfl);clear a h1 h2 h3;simp only[aB,aY];go_wp2
 go_ret;exact⟨b2,b3,b5,bi,bp,bv,s,C,rfl,Hb.out,Hr.out,J.out⟩
theorem Du (a:St K w (blk b (.cells (nx :: .bool on::bA d p).toArray 167)::F)):Calls Tryz.prog 143 #[(.pointer (some ⟨b,0,none⟩))] w fun e w' => ∃b2 b3 b5,e=.returned (aY (some (aB b2 b3 b5)))/\∃c h l,
  St K w' (blk b (.cells (nx :: .bool on::bA d p).toArray 167)::bI b2 b3 b5 (.iface 175 (.pointer (some ⟨c,0,none⟩))) (zn h l)::([blk h (.cells #[(.pointer (some ⟨b,0,none⟩))] 100),blk l (.cells #[(.pointer (some ⟨c,0,none⟩))] 175)]++(gD c 7 mL::F))):=by
 have a:=a.made (.cells #[(.pointer (some ⟨b,0,none⟩))] 100);have n:=ass (fun w=>Ag d w)
 go_enter Tryz.func143,Tryz.ntmps143
 go_upto_region 1 with(fail)
 obtain⟨bp,m⟩:∃bp,bp=w.heap.size:=⟨_,rfl⟩;rw[←m]at a ⊢;clear m;refine dc a ?_
 clear a;intro s a;have k0:=a.k0;have k1:=a.k1;unfold bA at k1;go_wp2_with fail
 refine(bJ a (n.out _)).mono ?_
 clear a k0 k1;rintro e t ⟨rfl,a⟩;have Q:=ass (oO (i:=7) a);clear a;go_wp2_with fail
 refine(Q.out).mono ?_
 clear Q;rintro e o ⟨c,rfl,a⟩;have a:=a.made (.cells #[(.pointer (some ⟨c,0,none⟩))] 175);obtain⟨bv,g⟩:∃bv,bv=o.heap.size:=⟨_,rfl⟩;rw[←g]at a;go_upto_region 2 with(fail)
 rw[←g];clear g;refine dc a ?_
 clear a;intro y a;have q:=a.k0;have Q:=ass (fY (T2:=175) (xv:=(.pointer (some ⟨c,0,none⟩))) (f:=170) (tx:= #[]) (ty:= #[(.pointer (some ⟨bp,0,none⟩)),(.pointer (some ⟨bv,0,none⟩))]) a);clear a;go_wp2_with fail
 refine(Q.out).mono ?_
 clear Q q;rintro e A ⟨b2,b3,b5,rfl,a⟩;have r:=ass (a.re [4,0,3,1,2] rfl);clear a;simp only[aB,aY];go_wp2
 go_ret;exact⟨b2,b3,b5,rfl,c,bp,bv,r.out⟩
theorem mr {word:Int}{f:Nat}{tx ty:Array Value}(a:St K w (blk b (.cells (nx :: .bool on::bA d p).toArray 167)::F)):Calls Tryz.prog 173 #[(.pointer (some ⟨b,0,none⟩)),.int .u64 word,.func (.func f) tx ty] w fun e w' => ∃b2 b3 b5,e=.returned (aY (some (aB b2 b3 b5)))/\∃br bi bw,
  St K w' (blk b (.cells (nx :: .bool on::bA d p).toArray 167)::bI b2 b3 b5 (.iface 47 (.pointer (some ⟨br,0,none⟩))) (.func (.func f) tx ty)::(fF br bi bw 7 word 0++F)):=by
 have c:=ass (fun w=>Ag d w)
 have k0:=a.k0;unfold bA at k0;go_enter Tryz.func173,Tryz.ntmps173
 go_wp2_with fail
 refine(bJ a (c.out _)).mono ?_
 clear a k0;rintro e l ⟨rfl,a⟩;have Q:=ass (kM (i:=7) (word:=word) a);clear a;go_wp2_with fail
 refine(Q.out).mono ?_
 clear Q;rintro e m ⟨br,bi,bw,rfl,a⟩;have Q:=ass (fY (T2:=47) (xv:=(.pointer (some ⟨br,0,none⟩))) (f:=f) (tx:=tx) (ty:=ty) a);clear a;go_wp2_with fail
 refine(Q.out).mono ?_
 clear Q;rintro e g ⟨b2,b3,b5,rfl,a⟩;have h:=ass ((show St K g (_::_::_::_::blk b (.cells (nx :: .bool on::bA d p).toArray 167)::F)from a).re [4,0,1,2,3] rfl)
 clear a;simp only[aB,aY];go_wp2
 go_ret;exact⟨b2,b3,b5,rfl,br,bi,bw,h.out⟩
end
section
variable {K:aM}{w:World}{F:List aC}{b:Nat}{d:aU}{p:jF}{nx:Value}{on:Bool}
def ajV (lim:Int)(v:Value)(C:List aC):Prop:=∃bt,v=(.pointer (some ⟨bt,0,none⟩))/\C=[gT bt 4 lim ⟨0,0,false⟩]
theorem zq {root word:Int}(H:d.Ok)(a:St K w (blk b (.cells (nx :: .bool on::bA d p).toArray 167)::F)):Calls Tryz.prog 174 #[(.pointer (some ⟨b,0,none⟩)),.int .u64 root,.int .u64 word] w fun e w' => ∃b2 b3 b5,e=.returned (aY (some (aB b2 b3 b5)))/\∃bt I J fG M,
  St K w' (blk b (.cells (nx :: .bool on::bA d p).toArray 167)::bI b2 b3 b5 (.iface 156 (.pointer (some ⟨bt,0,none⟩))) (zo I J fG M)::([blk I (.cells #[(.pointer (some ⟨bt,0,none⟩))] 156),blk J (.cells #[(.pointer (some ⟨b,0,none⟩))] 100),blk fG (.cells #[.int .u64 word] 23),blk M (.cells #[.int .u64 root] 23)]++(gT bt 4 d.no ⟨0,0,false⟩::F))):=by
 have a:=((a.made (.cells #[(.pointer (some ⟨b,0,none⟩))] 100)).made (.cells #[.int .u64 root] 23)).made (.cells #[.int .u64 word] 23);simp only[World.size_alloc]at a;have R:=H.Ke;have S:=H.m6;have U:=ass (fun w=>qY d w)
 have V:=ass (fun w=>lU d w)
 have hw:IntKind.u64.wrap d.no=d.no:=by rw[IntKind.wrap_u64];omega
 go_enter Tryz.func174,Tryz.ntmps174
 go_upto_region 1 with(fail)
 obtain⟨bp,N⟩:∃bp,bp=w.heap.size:=⟨_,rfl⟩;rw[←N]at a ⊢;clear N R S;refine dc a ?_
 clear a;intro w1 a;have E:=ass a;clear a;refine aX [false,false,false,false,false,false,false,false,false,false,false,false,true,true,true] [12,13,14] (fun|14=>[12,13] | _=>[])
  (oP K (blk (bp+1+1) (.cells #[.int .u64 word] 23)::blk (bp+1) (.cells #[.int .u64 root] 23)::blk bp (.cells #[(.pointer (some ⟨b,0,none⟩))] 100)::blk b (.cells (nx :: .bool on::bA d p).toArray 167)::F) 156 (.pointer none) 12 13 14 (ajV d.no))
  (fun W=>St K W (blk (bp+1+1) (.cells #[.int .u64 word] 23)::blk (bp+1) (.cells #[.int .u64 root] 23)::blk bp (.cells #[(.pointer (some ⟨b,0,none⟩))] 100)::blk b (.cells (nx :: .bool on::bA d p).toArray 167)::F)) ?aSD (by kernel_rfl) ?hBD ?HD ?aci ?h0D ?hID ?hRD ?hED ?hQD
 case hBD=>as_aux_lemma=>kernel_rfl
 case HD=>
  intro t a;have k0:=a.k0;have k1:=a.k1;have k2:=a.k2;have Y:=a.b3.k0;unfold bA at Y;have Z:=uP d;clear a;simp only[cG];repeat (go_big_quiet_step (first|(go_at_call 99;exact aZ (U.out _))|(go_at_call 96;exact aZ (V.out _))))
  refine wpQuiet_nil ?_
  rfl
 case aci=>rfl
 case h0D=>exact oP.start E.out
 case hID=>exact fun ρ t h=>h.rest
 case hRD=>exact fun ρ t O h hb=>h.same hb
 case hED=>
  refine⟨?e1D,?e2D,?e3D,trivial⟩;case e1D=>
   intro o y ρ t h g q l A m;obtain rfl:=asy y;replace m:A=aj _ ρ [] _:=m;have n:ρ 14=none:=g.none (by simp) (show 12∈[12,13]by simp) q
   obtain⟨X,a,c⟩:=h.call (by omega) (by omega) q n
   simp only[aj]at m;subst m;have B:=ass c;clear c g l q n h;go_wp2_with fail
   refine(uL (i:=4) (lim:=d.no) a).mono ?_
   rintro e O ⟨bt,rfl,D⟩;have eT:=ass D;clear a D;go_wp2
   exact⟨rfl,_,rfl,B.out _ _ O ⟨bt,rfl,rfl⟩ eT.out⟩
  case e2D=>
   intro o y ρ t h g r l A m;obtain rfl:=asy y;replace m:A=aj _ ρ [] _:=m;have n:ρ 14=none:=g.none (by simp) (show 13∈[12,13]by simp) r
   have B:=ass (h.var (by omega) (by omega) r n)
   simp only[aj]at m;subst m;clear g l r n h;go_wp2
   exact⟨rfl,_,rfl,B.out⟩
  case e3D=>
   intro o y ρ t h g n l A m;obtain rfl:=asy y;replace m:A=aj _ ρ [12,13] _:=m;obtain⟨v12,q⟩:=asv.1 (l 12 (by show _∈[12,13];simp))
   obtain⟨v13,r⟩:=asv.1 (l 13 (by show _∈[12,13];simp))
   obtain⟨bv,R',rfl,⟨C,bt,rfl,_⟩,a,c⟩:=h.store (by omega) (by omega) q r n
   simp only[aj,q,r,Option.getD_some,aP,Act.put,asz]at m;subst m;have k0:=a.k0;have f0:=a.f0;have gJ:Hid (St K _ (blk bv (.cells #[(.pointer (some ⟨bt,0,none⟩))] 156)::R')):=ass (a.aK 0 (.pointer (some ⟨bt,0,none⟩)));have B:=ass c;clear a c g l h q r n;go_wp2
   exact⟨rfl,undef,rfl,B.out _ gJ.out⟩
 case hQD=>
 intro ρ t h s;obtain⟨bv,v,C,q,r,⟨v14,n⟩,G,a⟩:=h.last s;simp only[aj,q,r,n,Option.getD_some,aP,Act.put,asz];clear h s q r n E;obtain⟨bt,rfl,rfl⟩:=G;have kv:=a.k0;have Q:=ass (fY (T2:=156) (xv:=(.pointer (some ⟨bt,0,none⟩))) (f:=184) (tx:= #[]) (ty:= #[(.pointer (some ⟨bv,0,none⟩)),(.pointer (some ⟨bp,0,none⟩)),(.pointer (some ⟨(bp+1+1),0,none⟩)),(.pointer (some ⟨(bp+1),0,none⟩))]) a);clear a;go_wp2_with fail
 refine(Q.out).mono ?_
 clear Q kv;rintro e w3 ⟨b2,b3,b5,rfl,a⟩;have E:=ass ((show St K w3 (_::_::_::_::_::_::blk b (.cells (nx :: .bool on::bA d p).toArray 167)::F)from a).re [6,0,1,5,3,4,2] rfl)
 clear a;simp only[aB,aY];go_wp2
 go_ret;exact⟨b2,b3,b5,rfl,bt,bv,bp,bp+1+1,bp+1,E.out⟩
theorem s7 {c:Nat}(a:St K w (blk b (.cells (nx :: .bool on::bA d p).toArray 167)::blk c (.cells #[(.pointer (some ⟨b,0,none⟩))] 100)::F)):Calls Tryz.prog 145 #[(.pointer (some ⟨c,0,none⟩))] w fun e w' => e=.returned .nilFunc/\St K w' (blk b (.cells (nx :: .bool on::bA d (⟨p.aA,p.sep,p.ch,true⟩:jF)).toArray 167)::blk c (.cells #[(.pointer (some ⟨b,0,none⟩))] 100)::F):=by
 have f:=a.k1;have Q:=ass (mq true a);clear a;go_enter Tryz.func145,Tryz.ntmps145
 go_wp2_with fail
 refine(Q.out).mono ?_
 clear Q f;rintro e h ⟨rfl,a⟩;have g:=ass a;clear a;go_wp2
 go_ret;exact⟨rfl,g.out⟩
theorem s8 {c:Nat}(a:St K w (blk b (.cells (nx :: .bool on::bA d p).toArray 167)::blk c (.cells #[(.pointer (some ⟨b,0,none⟩))] 100)::F)):Calls Tryz.prog 185 #[(.pointer (some ⟨c,0,none⟩))] w fun e w' => e=.returned .nilFunc/\St K w' (blk b (.cells (nx :: .bool on::bA d (⟨p.aA,p.sep,p.ch,false⟩:jF)).toArray 167)::blk c (.cells #[(.pointer (some ⟨b,0,none⟩))] 100)::F):=by
 have f:=a.k1;have Q:=ass (mq false a);clear a;go_enter Tryz.func185,Tryz.ntmps185
 go_wp2_with fail
 refine(Q.out).mono ?_
 clear Q f;rintro e h ⟨rfl,a⟩;have g:=ass a;clear a;go_wp2
 go_ret;exact⟨rfl,g.out⟩
def Lh (bD:Nat):Value:= .func (.func 145) #[] #[(.pointer (some ⟨bD,0,none⟩))]
def afc (K:aM)(b:Nat)(nx:Value)(on:Bool)(d:aU)(p:jF)(h:cC)(F:List aC)(e:Ending)(w':World):Prop:=
 (h.id=0/\∃b2 b3 b5 ba bD fj,e=.returned (aY (some (aB b2 b3 b5))) /\
  St K w' (blk b (.cells (nx :: .bool on::bA d p).toArray 167)::bI b2 b3 b5 (.iface 175 (.pointer (some ⟨ba,0,none⟩))) (zn bD fj)::([blk bD (.cells #[(.pointer (some ⟨b,0,none⟩))] 100),blk fj (.cells #[(.pointer (some ⟨ba,0,none⟩))] 175)]++(gD ba 7 mL::F)))) \/
 (h.id≠0/\fR h.pg.sl p.sep<iN h.pg.sl p.sep/\∃b2 b3 b5 br bi bw bD,e=.returned (aY (some (aB b2 b3 b5))) /\
  St K w' (blk b (.cells (nx :: .bool on::bA d p).toArray 167)::bI b2 b3 b5 (.iface 47 (.pointer (some ⟨br,0,none⟩))) (Lh bD)::([blk bD (.cells #[(.pointer (some ⟨b,0,none⟩))] 100)]++(fF br bi bw (d.node h.id 0) h.word 0++F)))) \/
 (h.id≠0/\¬ fR h.pg.sl p.sep<iN h.pg.sl p.sep/\∃b2 b3 b5 bi bD eI s C,e=.returned (aY (some (aB b2 b3 b5)))/\nM d h (aI h.pg p.sep p.ch) s/\kS d h (aI h.pg p.sep p.ch) bi s C /\
  St K w' (blk b (.cells (nx :: .bool on::bA d p).toArray 167)::bI b2 b3 b5 (.iface 82 (.pointer (some ⟨bi,0,none⟩))) (mj bD eI)::([blk bD (.cells #[(.pointer (some ⟨b,0,none⟩))] 100),blk eI (.cells #[(.pointer (some ⟨bi,0,none⟩))] 82)]++(C++F))))
theorem vk {t y n:Nat}{nl:Value}{h:cC}{a:Option Addr}{c:Nat}(Y:d.Ok)(hn:h.pg.sl.length<=1000000)(hok:h.id≠0->h.Ok d/\kY h.pg.sl/\(¬ fR h.pg.sl p.sep<iN h.pg.sl p.sep->lB d h (aI h.pg p.sep p.ch)))
  (g:St K w (blk b (.cells (nx :: .bool on::bA d p).toArray 167)::blk y (.cells #[(.pointer (some ⟨t,0,none⟩))] 37)::blk n (.cells #[(.pointer (some ⟨b,0,none⟩))] 100)::blk t (.cells (nl :: .bool true::eE d p.sep h (.slice a h.pg.sl.length c)).toArray 125)::bz (.slice a h.pg.sl.length c) h.pg::F)) :
  Calls Tryz.prog 142 #[(.pointer (some ⟨y,0,none⟩)),(.pointer (some ⟨n,0,none⟩))] w (afc K b nx on d p h F):=by
 have kk:=g.k1;have Q:=ass (Dh hn (g.re [3,4,0,1,2] rfl));have H:=ass hok;clear g hok;go_enter Tryz.func142,Tryz.ntmps142
 go_wp2_with fail
 refine(Q.out).mono ?_
 clear Q kk;rintro e R ⟨va,rfl,g⟩;obtain⟨m,l,rfl,_,_⟩:=(show St K R (az va 69 2 h.pg.sl.length (aF h.pg.sl)::_)from g).aJ
 have g:St K R (bz (.slice m h.pg.sl.length l) h.pg::blk b (.cells (nx :: .bool on::bA d p).toArray 167)::blk y (.cells #[(.pointer (some ⟨t,0,none⟩))] 37)::blk n (.cells #[(.pointer (some ⟨b,0,none⟩))] 100)::F):=((show St K R (bz (.slice m h.pg.sl.length l) h.pg::_::_::blk b (.cells (nx :: .bool on::bA d p).toArray 167)::_::_::F)from g).re [1,2,0,3,4,5] rfl).tail.tail
 have g:=g.made (.cells #[.int .u64 (h).id,.int .u64 (h).word,.int .i64 (h).pg.aA,(.slice m h.pg.sl.length l),.string (h).pg.hi,.bool (h).pg.la,.int .u64 (h).pg.ri] 45);obtain⟨A,B⟩:∃A,A=R.heap.size:=⟨_,rfl⟩;rw[←B]at g;go_upto_region 2 with(fail)
 rw[←B];clear B;refine dc g ?_
 clear g;intro S g;have k0:=g.k0;have D:=g.b4.k0;obtain⟨id,word,pg⟩:=h;simp only at hn g k0;by_cases h0:id=0
 ·subst h0
  have q:=Du (F:=blk A (.cells #[.int .u64 ((⟨0,word,pg⟩:cC)).id,.int .u64 ((⟨0,word,pg⟩:cC)).word,.int .i64 ((⟨0,word,pg⟩:cC)).pg.aA,(.slice m pg.sl.length l),.string ((⟨0,word,pg⟩:cC)).pg.hi,.bool ((⟨0,word,pg⟩:cC)).pg.la,.int .u64 ((⟨0,word,pg⟩:cC)).pg.ri] 45)::bz (.slice m pg.sl.length l) pg::blk y (.cells #[(.pointer (some ⟨t,0,none⟩))] 37)::blk n (.cells #[(.pointer (some ⟨b,0,none⟩))] 100)::F) (g.re [2,0,1,3,4] rfl);have Q:=ass q;clear q g;go_wp2_with fail
  refine(Q.out).mono ?_
  clear Q k0 D;rintro e I ⟨b2,b3,b5,rfl,ba,J,fj,g⟩;have E:=ass ((show St K I (_::_::_::_::_::_::_::_::_::F)from g).re [5,6,7,8,0,1,2,3,4] rfl).tail.tail.tail.tail
  clear g;simp only[aB,aY];go_wp2
  go_ret;exact .inl ⟨rfl,b2,b3,b5,ba,J,fj,rfl,E.out⟩
 ·obtain⟨o1,Z,o3⟩:=H.out h0
  have fB:=(show St K S (az (.slice m pg.sl.length l) 69 2 pg.sl.length (aF pg.sl)::_)from g.b1).cM (by omega)
  have qf:=fun W (U:Below S.heap.size S W)=>nu (cap:=l) (key:=p.sep) W (fB.same U) Z
  have h0':(id == 0)=false:=by simpa using h0
  obtain⟨o,G⟩:∃o,o=decide (fR pg.sl p.sep<iN pg.sl p.sep):=⟨_,rfl⟩;rw[←G]at qf;have QF:=ass qf;have M:=ass G;have H0:=ass h0;have V:=ass (And.intro o1 (And.intro Z o3));clear qf G fB o1 Z o3 H;generalize fR pg.sl p.sep=lo at QF;go_upto_region 4 with(fail)
  clear k0 D h0 h0';go_cut [4,5]from 999 to 0 (fun _ v5 wx=>v5=.bool o/\St K wx (blk A (.cells #[.int .u64 ((⟨id,word,pg⟩:cC)).id,.int .u64 ((⟨id,word,pg⟩:cC)).word,.int .i64 ((⟨id,word,pg⟩:cC)).pg.aA,(.slice m pg.sl.length l),.string ((⟨id,word,pg⟩:cC)).pg.hi,.bool ((⟨id,word,pg⟩:cC)).pg.la,.int .u64 ((⟨id,word,pg⟩:cC)).pg.ri] 45)::bz (.slice m pg.sl.length l) pg::blk b (.cells (nx :: .bool on::bA d p).toArray 167)::blk y (.cells #[(.pointer (some ⟨t,0,none⟩))] 37)::blk n (.cells #[(.pointer (some ⟨b,0,none⟩))] 100)::F))
  case first=>
   as_aux_lemma=>
   have k0:=g.k0;have k2:=g.k2;unfold bA at k2;have D:=g.b4.k0;have N:=ass (fun wz (hy:∃x:Ext,wz=over S x)=>QF.out wz (Pure.below hy))
   refine bK (by kernel_rfl) (by as_aux_lemma=>kernel_rfl) ?_
   repeat (go_big_quiet_step ((go_at_call 131;exact aZ (N.out _ ⟨_,rfl⟩))))
   refine wpQuiet_nil ?_
   intro w5 O;have E:=ass (g.same O);clear O g k0 k2 D N;go_wp2
   go_meet;exact⟨rfl,E.out⟩
  case rest=>
  clear g QF;obtain⟨rfl,g⟩:=hcut;apply_assumption
  have k0:=g.k0;have D:=g.b4.k0;cases o with
  | true=>
   have q:=iV (h:=⟨id,word,pg⟩) (va:= .slice m pg.sl.length l) (f:=145) (tx:= #[]) (ty:= #[(.pointer (some ⟨n,0,none⟩))]) (F:=blk A (.cells #[.int .u64 ((⟨id,word,pg⟩:cC)).id,.int .u64 ((⟨id,word,pg⟩:cC)).word,.int .i64 ((⟨id,word,pg⟩:cC)).pg.aA,(.slice m pg.sl.length l),.string ((⟨id,word,pg⟩:cC)).pg.hi,.bool ((⟨id,word,pg⟩:cC)).pg.la,.int .u64 ((⟨id,word,pg⟩:cC)).pg.ri] 45)::bz (.slice m pg.sl.length l) pg::blk y (.cells #[(.pointer (some ⟨t,0,none⟩))] 37)::blk n (.cells #[(.pointer (some ⟨b,0,none⟩))] 100)::F) Y (by have X:=V.out.1.id;have:=Y.m6;simp only at X ⊢;omega) (g.re [2,0,1,3,4] rfl)
   have Q:=ass q;clear q g;go_wp2_with fail
   refine(Q.out).mono ?_
   clear Q k0 D;rintro e I ⟨b2,b3,b5,rfl,br,bi,bw,g⟩;have E:=ass ((show St K I (_::_::_::_::_::_::_::_::_::F)from g).re [5,6,7,0,1,8,2,3,4] rfl).tail.tail.tail
   clear g;simp only[aB,aY];go_wp2
   go_ret;exact .inr (.inl ⟨H0.out,of_decide_eq_true M.out.symm,b2,b3,b5,br,bi,bw,n,rfl,E.out⟩)
  | false=>
   have r:¬ fR pg.sl p.sep<iN pg.sl p.sep:=of_decide_eq_false M.out.symm;have q:=wE (fr:=⟨id,word,pg⟩) (fu:=aI pg p.sep p.ch) (af:=m) (cf:=l) (F:=blk A (.cells #[.int .u64 ((⟨id,word,pg⟩:cC)).id,.int .u64 ((⟨id,word,pg⟩:cC)).word,.int .i64 ((⟨id,word,pg⟩:cC)).pg.aA,(.slice m pg.sl.length l),.string ((⟨id,word,pg⟩:cC)).pg.hi,.bool ((⟨id,word,pg⟩:cC)).pg.la,.int .u64 ((⟨id,word,pg⟩:cC)).pg.ri] 45)::blk y (.cells #[(.pointer (some ⟨t,0,none⟩))] 37)::blk n (.cells #[(.pointer (some ⟨b,0,none⟩))] 100)::F) Y V.out.1 rfl (decide_eq_false r) V.out.2.1 (V.out.2.2 r) (g.re [2,1,0,3,4] rfl);have Q:=ass q;have Hnf:=ass r;clear q g r;go_wp2_with fail
   refine(Q.out).mono ?_
   clear Q k0 D;rintro e I ⟨b2,b3,b5,bi,J,eI,s,C,rfl,U,hr,g⟩;have Hr:=ass hr;have Hb:=ass U;have X:St K I ([blk b (.cells (nx :: .bool on::bA d p).toArray 167),bI b2 b3 b5 (.iface 82 (.pointer (some ⟨bi,0,none⟩))) (mj J eI),blk J (.cells #[(.pointer (some ⟨b,0,none⟩))] 100),blk eI (.cells #[(.pointer (some ⟨bi,0,none⟩))] 82)]++(C++([blk A (.cells #[.int .u64 ((⟨id,word,pg⟩:cC)).id,.int .u64 ((⟨id,word,pg⟩:cC)).word,.int .i64 ((⟨id,word,pg⟩:cC)).pg.aA,(.slice m pg.sl.length l),.string ((⟨id,word,pg⟩:cC)).pg.hi,.bool ((⟨id,word,pg⟩:cC)).pg.la,.int .u64 ((⟨id,word,pg⟩:cC)).pg.ri] 45),blk y (.cells #[(.pointer (some ⟨t,0,none⟩))] 37),blk n (.cells #[(.pointer (some ⟨b,0,none⟩))] 100)]++F))):=g;have h2:=X.mid.Cf;have E:=ass h2;clear g hr U X h2;simp only[aB,aY];go_wp2
   go_ret;exact .inr (.inr ⟨H0.out,Hnf.out,b2,b3,b5,bi,J,eI,s,C,rfl,Hb.out,Hr.out,E.out⟩)
end
def kH (eI bD:Nat):Value:= .func (.func 176) #[] #[(.pointer (some ⟨eI,0,none⟩)),(.pointer (some ⟨bD,0,none⟩))]
def jU (bD eI:Nat):Value:= .func (.func 177) #[] #[(.pointer (some ⟨bD,0,none⟩)),(.pointer (some ⟨eI,0,none⟩))]
section
variable {K:aM}{w:World}{F:List aC}{b:Nat}{d:aU}{p:jF}{nx:Value}{on:Bool}
def sI (K:aM)(b:Nat)(d:aU)(p:jF)(nx:Value)(on:Bool)(h:cC)(t:Value)(F:List aC)(u:Value)(W:World):Prop:=
 ∃b2 b3 b5,u=aY (some (aB b2 b3 b5))/\∃br bi bw,St K W (blk b (.cells (nx :: .bool on::bA d p).toArray 167)::bI b2 b3 b5 (.iface 47 (.pointer (some ⟨br,0,none⟩))) t::(fF br bi bw (d.node h.id 0) h.word 0++F))
theorem sI.same {h:cC}{t u:Value}{W W':World}(a:sI K b d p nx on h t F u W)(c:Below W.heap.size W W'):sI K b d p nx on h t F u W' := by
 obtain⟨b2,b3,b5,e,br,bi,bw,f⟩:=a;exact⟨b2,b3,b5,e,br,bi,bw,f.same c⟩
theorem sI.rest {h:cC}{t u:Value}{W:World}(a:sI K b d p nx on h t F u W):St K W F:=by
 obtain⟨b2,b3,b5,e,br,bi,bw,c⟩:=a;exact(show St K W (_::_::_::_::_::F)from c).tail.tail.tail.tail.tail
def PhM (K:aM)(h:cC)(F:List aC)(v:Value)(W:World):Prop:=∃(a:Option Addr) (c:Nat),v=(.agg #[.int .u64 (h).id,.int .u64 (h).word,.int .i64 (h).pg.aA,(.slice a h.pg.sl.length c),.string (h).pg.hi,.bool (h).pg.la,.int .u64 (h).pg.ri])/\St K W F
theorem Ur {X Y:aC}{R:List aC}{h:cC}{t:Value}:(∀W,St K W (blk b (.cells (nx :: .bool on::bA d p).toArray 167)::X::Y::R)->∃cs,St K W (X::Y::cs))/\(∀v W,PhM K h (blk b (.cells (nx :: .bool on::bA d p).toArray 167)::X::Y::R) v W->∃cs,St K W (X::Y::cs))/\(∀(_v u:Value) W,sI K b d p nx on h t (X::Y::R) u W->∃cs,St K W (X::Y::cs))/\(∀(_v u y:Value) W,(y=u/\sI K b d p nx on h t (X::Y::R) u W)->∃cs,St K W (X::Y::cs)):=
 ⟨fun _ h=>⟨_,h.tail⟩,fun _ _ ⟨_,_,_,h⟩=>⟨_,h.tail⟩,fun _ _ _ h=>⟨_,h.rest⟩,fun _ _ _ _ h=>⟨_,h.2.rest⟩⟩
theorem Us {R:List aC}{h:cC}{t:Value}:(∀W W',St K W (blk b (.cells (nx :: .bool on::bA d p).toArray 167)::R)->Below W.heap.size W W' -> St K W' (blk b (.cells (nx :: .bool on::bA d p).toArray 167)::R))/\(∀v W W',PhM K h (blk b (.cells (nx :: .bool on::bA d p).toArray 167)::R) v W->Below W.heap.size W W' -> PhM K h (blk b (.cells (nx :: .bool on::bA d p).toArray 167)::R) v W')/\(∀(_v u:Value) W W',sI K b d p nx on h t R u W->Below W.heap.size W W' -> sI K b d p nx on h t R u W')/\(∀(_v u y:Value) W W',(y=u/\sI K b d p nx on h t R u W)->Below W.heap.size W W' -> (y=u/\sI K b d p nx on h t R u W')):=
 ⟨fun _ _ h f=>h.same f,fun _ _ _ ⟨a,c,e,h⟩ f=>⟨a,c,e,h.same f⟩,fun _ _ _ _ h f=>h.same f,fun _ _ _ _ _ h f=>⟨h.1,h.2.same f⟩⟩
theorem s9 {l m bi:Nat}{x:pE}{a:Option Addr}{c:Nat}(O:d.Ok)(B:x.on=true)(R:x.le.pg.sl.length<=1000000)(J:x.vl=.slice a x.le.pg.sl.length c)(hid:0<=x.le.id/\x.le.id<18446744073709551616)
  (g:St K w (blk b (.cells (nx :: .bool on::bA d p).toArray 167)::blk l (.cells #[(.pointer (some ⟨b,0,none⟩))] 100)::blk m (.cells #[(.pointer (some ⟨bi,0,none⟩))] 82)::bC bi .nilFunc d x::bz x.vl x.le.pg::F)) :
  Calls Tryz.prog 175 #[(.pointer (some ⟨l,0,none⟩)),(.pointer (some ⟨m,0,none⟩))] w fun e w' => ∃u,e=.returned u/\sI K b d p nx on x.le (kH m l) (blk l (.cells #[(.pointer (some ⟨b,0,none⟩))] 100)::blk m (.cells #[(.pointer (some ⟨bi,0,none⟩))] 82)::bC bi .nilFunc d x::bz x.vl x.le.pg::F) u w' := by
 have S:=ass J;clear J;go_enter Tryz.func175,Tryz.ntmps175
 go_upto_region 1 with(fail)
 have C:=ass g;clear g;refine jQ [false,false,true,false,true,true] 2 4 5
  (fun W=>St K W (blk b (.cells (nx :: .bool on::bA d p).toArray 167)::blk l (.cells #[(.pointer (some ⟨b,0,none⟩))] 100)::blk m (.cells #[(.pointer (some ⟨bi,0,none⟩))] 82)::bC bi .nilFunc d x::bz x.vl x.le.pg::F))
  (PhM K x.le (blk b (.cells (nx :: .bool on::bA d p).toArray 167)::blk l (.cells #[(.pointer (some ⟨b,0,none⟩))] 100)::blk m (.cells #[(.pointer (some ⟨bi,0,none⟩))] 82)::bC bi .nilFunc d x::bz x.vl x.le.pg::F))
  (fun _ u W=>sI K b d p nx on x.le (kH m l) (blk l (.cells #[(.pointer (some ⟨b,0,none⟩))] 100)::blk m (.cells #[(.pointer (some ⟨bi,0,none⟩))] 82)::bC bi .nilFunc d x::bz x.vl x.le.pg::F) u W)
  (fun _ u y W=>y=u/\sI K b d p nx on x.le (kH m l) (blk l (.cells #[(.pointer (some ⟨b,0,none⟩))] 100)::blk m (.cells #[(.pointer (some ⟨bi,0,none⟩))] 82)::bC bi .nilFunc d x::bz x.vl x.le.pg::F) u W)
  (fun W=>∃cs,St K W (blk l (.cells #[(.pointer (some ⟨b,0,none⟩))] 100)::blk m (.cells #[(.pointer (some ⟨bi,0,none⟩))] 82)::cs)) ?aSA (by decide) (by kernel_rfl) ?hBA ?HA ?Iw C.out ?hIA ?hRA ?acw ?acy ?acz ?hQA
 case hBA=>as_aux_lemma=>kernel_rfl
 case HA=>
  rintro q ⟨cs,g⟩;have k0:=g.k0;have k1:=g.k1;clear g;simp only[cG];repeat (go_big_quiet_step (fail))
  refine wpQuiet_nil ?_
  rfl
 case Iw=>rfl
 case hIA=>exact Ur
 case hRA=>exact Us
 case acw=>
  intro M o r ρ q g hk af n;obtain rfl:=asy r;subst n;have s:=ass hk;clear hk;have Q:=ass (Ir B R S.out (g.re [3,4,0,1,2] rfl));clear g;go_wp2_with fail
  refine(Q.out).mono ?_
  rintro e D ⟨V,rfl,g⟩;obtain⟨E,G,rfl,_,_⟩:=g.aJ;have U:=ass ((show St K D (bz _ _::bC bi .nilFunc d x::bz x.vl x.le.pg::_::_::_::F)from g).tail.re [2,3,4,0,1] rfl)
  clear g Q;go_wp2
  exact⟨rfl,_,rfl,s.out _ _ ⟨E,G,rfl,U.out⟩⟩
 case acy=>
  rintro M o r ρ v q ⟨E,G,rfl,g⟩ hk af n;obtain rfl:=asy r;have s:=ass hk;clear hk;simp only[aP,List.getElem?_cons_succ,List.getElem?_cons_zero,Option.bind_some,Act.put,List.setIfInBounds_toArray,List.set_cons_zero,List.set_cons_succ]at n;subst n;have Q:=ass (iV (h:=x.le) (va:= .slice E (x.le).pg.sl.length G) (f:=176) (tx:= #[]) (ty:= #[(.pointer (some ⟨m,0,none⟩)),(.pointer (some ⟨l,0,none⟩))]) O hid g);clear g;go_wp2_with fail
  refine(Q.out).mono ?_
  rintro e D ⟨b2,b3,b5,rfl,br,H,I,g⟩;clear Q;have t:=ass (show sI K b d p nx on x.le (kH m l) (blk l (.cells #[(.pointer (some ⟨b,0,none⟩))] 100)::blk m (.cells #[(.pointer (some ⟨bi,0,none⟩))] 82)::bC bi .nilFunc d x::bz x.vl x.le.pg::F) (aY (some (aB b2 b3 b5))) D from⟨b2,b3,b5,rfl,br,H,I,g⟩)
  clear g;simp only[aB,aY]at t ⊢;go_wp2
  exact⟨rfl,_,rfl,s.out _ _ t.out⟩
 case acz=>
  rintro M o r ρ v u q N hk af n;obtain rfl:=asy r;have s:=ass hk;clear hk;simp only[aP,List.getElem?_cons_succ,List.getElem?_cons_zero,Option.bind_some,Act.put,List.setIfInBounds_toArray,List.set_cons_zero,List.set_cons_succ]at n;subst n;have A:=N;obtain⟨b2,b3,b5,rfl,_⟩:=N;have t:=ass (show sI K b d p nx on x.le (kH m l) (blk l (.cells #[(.pointer (some ⟨b,0,none⟩))] 100)::blk m (.cells #[(.pointer (some ⟨bi,0,none⟩))] 82)::bC bi .nilFunc d x::bz x.vl x.le.pg::F) (aY (some (aB b2 b3 b5))) q from A)
  clear A;simp only[aB,aY]at t ⊢;go_wp2
  exact⟨rfl,_,rfl,s.out _ _ ⟨rfl,t.out⟩⟩
 case hQA=>
 rintro v u x q ⟨rfl,b2,b3,b5,rfl,br,H,I,g⟩;have C:=ass g;clear g;simp only[aB,aY,aP,List.getElem?_cons_succ,List.getElem?_cons_zero,Option.bind_some,Act.put,List.setIfInBounds_toArray,List.set_cons_zero,List.set_cons_succ];go_wp2
 go_ret;exact⟨_,rfl,b2,b3,b5,rfl,br,H,I,C.out⟩
def afe (K:aM)(b:Nat)(nx:Value)(on:Bool)(d:aU)(p:jF)(x:pE)(eI bD:Nat)(F:List aC)(e:Ending)(w':World):Prop:=
 (x.err≠0/\e=.returned .nilFunc/\St K w' (blk b (.cells (nx :: .bool on::bA d (⟨p.aA,p.sep,p.ch,false⟩:jF)).toArray 167)::F)) \/
 (x.err=0/\x.ri.id=0/\e=.returned .nilFunc/\St K w' (blk b (.cells (nx :: .bool on::bA d (⟨p.aA,p.sep,p.ch,true⟩:jF)).toArray 167)::F)) \/
 (x.err=0/\x.ri.id≠0/\∃u,e=.returned u/\sI K b d p nx on x.ri (jU bD eI) F u w')
theorem Dv {l m bi:Nat}{x:pE}{a:Option Addr}{c:Nat}(hd:d.Ok)(A:x.on=true)(S:x.ri.pg.sl.length<=1000000)(U:x.vr=.slice a x.ri.pg.sl.length c)(hid:0<=x.ri.id/\x.ri.id<18446744073709551616)
  (g:St K w (blk b (.cells (nx :: .bool on::bA d p).toArray 167)::blk m (.cells #[(.pointer (some ⟨bi,0,none⟩))] 82)::blk l (.cells #[(.pointer (some ⟨b,0,none⟩))] 100)::bC bi .nilFunc d x::bz x.vr x.ri.pg::F)) :
  Calls Tryz.prog 176 #[(.pointer (some ⟨m,0,none⟩)),(.pointer (some ⟨l,0,none⟩))] w (afe K b nx on d p x m l (blk m (.cells #[(.pointer (some ⟨bi,0,none⟩))] 82)::blk l (.cells #[(.pointer (some ⟨b,0,none⟩))] 100)::bC bi .nilFunc d x::bz x.vr x.ri.pg::F)):=by
 have V:=ass U;have X:=g.k1;have Q:=ass (Uo (g.re [3,0,1,2] rfl));clear U;go_enter Tryz.func176,Tryz.ntmps176
 go_wp2_with fail
 refine(Q.out).mono ?_
 clear Q;rintro e q ⟨rfl,rfl⟩;by_cases he:x.err=0
 ·have n:(x.err != 0)=false:=by simp[he]
  have X:=g.k1;have Q:=ass (nJ A S V.out (g.re [3,4,0,1,2] rfl));have H:=ass he;clear g he;go_wp2_with fail
  refine(Q.out).mono ?_
  clear Q X;rintro e q ⟨va,rfl,g⟩;obtain⟨I,J,rfl,_,_⟩:=(show St K q (az va 69 2 x.ri.pg.sl.length (aF x.ri.pg.sl)::_)from g).aJ
  have g:St K q (blk b (.cells (nx :: .bool on::bA d p).toArray 167)::blk m (.cells #[(.pointer (some ⟨bi,0,none⟩))] 82)::blk l (.cells #[(.pointer (some ⟨b,0,none⟩))] 100)::bC bi .nilFunc d x::bz x.vr x.ri.pg::F):=(show St K q (bz _ _::bC bi .nilFunc d x::bz x.vr x.ri.pg::_::_::_::F)from g).tail.re [2,3,4,0,1] rfl
  by_cases hi:x.ri.id=0
  ·have r:(x.ri.id == 0)=true:=by simp[hi]
   have M:=g.k2;have Q:=ass (mq true g);have N:=ass hi;clear g hi;go_wp2_with fail
   refine(Q.out).mono ?_
   clear Q M r n;rintro e w2 ⟨rfl,g⟩;have s:=ass g;clear g;go_wp2
   go_ret;exact .inr (.inl ⟨H.out,N.out,rfl,s.out⟩)
  ·have r:(x.ri.id == 0)=false:=by simpa using hi
   have N:=ass hi;clear hi;go_upto_region 5 with(fail)
   clear r n;have s:=ass g;clear g;refine jQ [false,false,true,false,true,true] 2 4 5
    (fun W=>St K W (blk b (.cells (nx :: .bool on::bA d p).toArray 167)::blk m (.cells #[(.pointer (some ⟨bi,0,none⟩))] 82)::blk l (.cells #[(.pointer (some ⟨b,0,none⟩))] 100)::bC bi .nilFunc d x::bz x.vr x.ri.pg::F))
    (PhM K x.ri (blk b (.cells (nx :: .bool on::bA d p).toArray 167)::blk m (.cells #[(.pointer (some ⟨bi,0,none⟩))] 82)::blk l (.cells #[(.pointer (some ⟨b,0,none⟩))] 100)::bC bi .nilFunc d x::bz x.vr x.ri.pg::F))
    (fun _ u W=>sI K b d p nx on x.ri (jU l m) (blk m (.cells #[(.pointer (some ⟨bi,0,none⟩))] 82)::blk l (.cells #[(.pointer (some ⟨b,0,none⟩))] 100)::bC bi .nilFunc d x::bz x.vr x.ri.pg::F) u W)
    (fun _ u y W=>y=u/\sI K b d p nx on x.ri (jU l m) (blk m (.cells #[(.pointer (some ⟨bi,0,none⟩))] 82)::blk l (.cells #[(.pointer (some ⟨b,0,none⟩))] 100)::bC bi .nilFunc d x::bz x.vr x.ri.pg::F) u W)
    (fun W=>∃cs,St K W (blk m (.cells #[(.pointer (some ⟨bi,0,none⟩))] 82)::blk l (.cells #[(.pointer (some ⟨b,0,none⟩))] 100)::cs)) ?aSB (by decide) (by kernel_rfl) ?hBB ?HB ?Ue s.out ?hIB ?hRB ?ajW ?ajX ?ajY ?hQB
   case hBB=>as_aux_lemma=>kernel_rfl
   case HB=>
    rintro B ⟨cs,g⟩;have k0:=g.k0;have k1:=g.k1;clear g;simp only[cG];repeat (go_big_quiet_step (fail))
    refine wpQuiet_nil ?_
    rfl
   case Ue=>rfl
   case hIB=>exact Ur
   case hRB=>exact Us
   case ajW=>
    intro Y o C ρ B g hk af t;obtain rfl:=asy C;subst t;have D:=ass hk;clear hk;have Q:=ass (nJ A S V.out (g.re [3,4,0,1,2] rfl));clear g;go_wp2_with fail
    refine(Q.out).mono ?_
    rintro e q ⟨lj,rfl,g⟩;obtain⟨I,J,rfl,_,_⟩:=g.aJ;have gJ:=ass ((show St K q (bz _ _::bC bi .nilFunc d x::bz x.vr x.ri.pg::_::_::_::F)from g).tail.re [2,3,4,0,1] rfl)
    clear g Q;go_wp2
    exact⟨rfl,_,rfl,D.out _ _ ⟨I,J,rfl,gJ.out⟩⟩
   case ajX=>
    rintro Y o C ρ v B ⟨I,J,rfl,g⟩ hk af t;obtain rfl:=asy C;have D:=ass hk;clear hk;simp only[aP,List.getElem?_cons_succ,List.getElem?_cons_zero,Option.bind_some,Act.put,List.setIfInBounds_toArray,List.set_cons_zero,List.set_cons_succ]at t;subst t;have Q:=ass (iV (h:=x.ri) (va:= .slice I (x.ri).pg.sl.length J) (f:=177) (tx:= #[]) (ty:= #[(.pointer (some ⟨l,0,none⟩)),(.pointer (some ⟨m,0,none⟩))]) hd hid g);clear g;go_wp2_with fail
    refine(Q.out).mono ?_
    rintro e q ⟨b2,b3,b5,rfl,br,O,R,g⟩;clear Q;have E:=ass (show sI K b d p nx on x.ri (jU l m) (blk m (.cells #[(.pointer (some ⟨bi,0,none⟩))] 82)::blk l (.cells #[(.pointer (some ⟨b,0,none⟩))] 100)::bC bi .nilFunc d x::bz x.vr x.ri.pg::F) (aY (some (aB b2 b3 b5))) q from⟨b2,b3,b5,rfl,br,O,R,g⟩)
    clear g;simp only[aB,aY]at E ⊢;go_wp2
    exact⟨rfl,_,rfl,D.out _ _ E.out⟩
   case ajY=>
    rintro Y o C ρ v u B Z hk af t;obtain rfl:=asy C;have D:=ass hk;clear hk;simp only[aP,List.getElem?_cons_succ,List.getElem?_cons_zero,Option.bind_some,Act.put,List.setIfInBounds_toArray,List.set_cons_zero,List.set_cons_succ]at t;subst t;have G:=Z;obtain⟨b2,b3,b5,rfl,_⟩:=Z;have E:=ass (show sI K b d p nx on x.ri (jU l m) (blk m (.cells #[(.pointer (some ⟨bi,0,none⟩))] 82)::blk l (.cells #[(.pointer (some ⟨b,0,none⟩))] 100)::bC bi .nilFunc d x::bz x.vr x.ri.pg::F) (aY (some (aB b2 b3 b5))) B from G)
    clear G;simp only[aB,aY]at E ⊢;go_wp2
    exact⟨rfl,_,rfl,D.out _ _ ⟨rfl,E.out⟩⟩
   case hQB=>
   rintro v u x B ⟨rfl,b2,b3,b5,rfl,br,O,R,g⟩;have s:=ass g;clear g;simp only[aB,aY,aP,List.getElem?_cons_succ,List.getElem?_cons_zero,Option.bind_some,Act.put,List.setIfInBounds_toArray,List.set_cons_zero,List.set_cons_succ];go_wp2
   go_ret;exact .inr (.inr ⟨H.out,N.out,_,rfl,b2,b3,b5,rfl,br,O,R,s.out⟩)
 ·have n:(x.err != 0)=true:=by simpa using he
  have M:=g.k2;have Q:=ass (mq false g);have H:=ass he;clear g he;go_wp2_with fail
  refine(Q.out).mono ?_
  clear Q M n;rintro e w2 ⟨rfl,g⟩;have s:=ass g;clear g;go_wp2
  go_ret;exact .inl ⟨H.out,rfl,s.out⟩
def PuR (K:aM)(b:Nat)(nx:Value)(on:Bool)(d:aU)(p:jF)(x:pE)(REST:List aC)(ρ:Nat->Option Value)(W:World):Prop:=
 (∀v,ρ 6=some v->v=.int .i64 p.aA)/\(∀v,ρ 7=some v->v=.int .i64 (p.aA+1))/\(∀v,ρ 11=some v->∃a c,v=(.agg #[.int .u64 (x.ri).id,.int .u64 (x.ri).word,.int .i64 (x.ri).pg.aA,(.slice a x.ri.pg.sl.length c),.string (x.ri).pg.hi,.bool (x.ri).pg.la,.int .u64 (x.ri).pg.ri]))/\(∀v,ρ 12=some v->v=.int .u64 x.ri.id) /\
  St K W (blk b (.cells (nx :: .bool on::bA d (⟨if (ρ 15).isSome then p.aA+1 else p.aA,if (ρ 18).isSome then x.sep else p.sep,if (ρ 21).isSome then x.ri.id else p.ch,p.po⟩:jF)).toArray 167)::REST)
section
variable {x:pE}{REST:List aC}{ρ:Nat->Option Value}{W W':World}
theorem PuR.keep {e:Nat}{v:Value}(h:PuR K b nx on d p x REST ρ W)(he:e≠15/\e≠18/\e≠21)(l:e=6->v=.int .i64 p.aA)(m:e=7->v=.int .i64 (p.aA+1))(f:e=11->∃a c,v=(.agg #[.int .u64 (x.ri).id,.int .u64 (x.ri).word,.int .i64 (x.ri).pg.aA,(.slice a x.ri.pg.sl.length c),.string (x.ri).pg.hi,.bool (x.ri).pg.la,.int .u64 (x.ri).pg.ri]))(n:e=12->v=.int .u64 x.ri.id)
  (o:∀q,St K W (blk b (.cells (nx :: .bool on::bA d q).toArray 167)::REST)->St K W' (blk b (.cells (nx :: .bool on::bA d q).toArray 167)::REST)):PuR K b nx on d p x REST (upd ρ e v) W' := by
 obtain⟨e6,e7,e11,xB,r⟩:=h;have k:∀j u,(upd ρ e v) j=some u->(j=e/\u=v)\/(j≠e/\ρ j=some u):=fun j u hu=>by
  by_cases g:j=e
  ·subst g
   rw[cE]at hu;exact .inl ⟨rfl,(asy hu).symm⟩
  ·rw[upd_ne g]at hu
   exact .inr ⟨g,hu⟩
 refine⟨fun u hu=>?_,fun u hu=>?_,fun u hu=>?_,fun u hu=>?_,?_⟩
 ·rcases k 6 u hu with⟨h,rfl⟩|⟨_,h⟩
  ·exact l h.symm
  ·exact e6 u h
 ·rcases k 7 u hu with⟨h,rfl⟩|⟨_,h⟩
  ·exact m h.symm
  ·exact e7 u h
 ·rcases k 11 u hu with⟨h,rfl⟩|⟨_,h⟩
  ·exact f h.symm
  ·exact e11 u h
 ·rcases k 12 u hu with⟨h,rfl⟩|⟨_,h⟩
  ·exact n h.symm
  ·exact xB u h
 ·rw[upd_ne (Ne.symm he.1),upd_ne (Ne.symm he.2.1),upd_ne (Ne.symm he.2.2)]
  exact o _ r
theorem PuR.put {e:Nat}(h:PuR K b nx on d p x REST ρ W)(he:e≠6/\e≠7/\e≠11/\e≠12)
  (a:St K W' (blk b (.cells (nx :: .bool on::bA d (⟨if ((upd ρ e undef) 15).isSome then p.aA+1 else p.aA,if ((upd ρ e undef) 18).isSome then x.sep else p.sep,if ((upd ρ e undef) 21).isSome then x.ri.id else p.ch,p.po⟩:jF)).toArray 167)::REST)):PuR K b nx on d p x REST (upd ρ e undef) W' := by
 obtain⟨e6,e7,e11,xB,c⟩:=h;exact⟨fun u hu=>e6 u (by rwa [upd_ne (Ne.symm he.1)]at hu),fun u hu=>e7 u (by rwa [upd_ne (Ne.symm he.2.1)]at hu),fun u hu=>e11 u (by rwa [upd_ne (Ne.symm he.2.2.1)]at hu),fun u hu=>xB u (by rwa [upd_ne (Ne.symm he.2.2.2)]at hu),a⟩
end
theorem Dw {I J bi:Nat}{x:pE}{a:Option Addr}{c:Nat}(O:x.on=true)(hn:x.ri.pg.sl.length<=1000000)(hv:x.vr=.slice a x.ri.pg.sl.length c)(cj:0<=p.aA/\p.aA<1000)
  (f:St K w (blk b (.cells (nx :: .bool on::bA d p).toArray 167)::blk I (.cells #[(.pointer (some ⟨b,0,none⟩))] 100)::blk J (.cells #[(.pointer (some ⟨bi,0,none⟩))] 82)::bC bi .nilFunc d x::bz x.vr x.ri.pg::F)) :
  Calls Tryz.prog 177 #[(.pointer (some ⟨I,0,none⟩)),(.pointer (some ⟨J,0,none⟩))] w fun e w' => ∃b2 b3 b5 R U V C,e=.returned (aY (some (aB b2 b3 b5)))/\lC d x.sep (p.aA+1) R nK C /\
   St K w' (blk b (.cells (nx :: .bool on::bA d (⟨p.aA+1,x.sep,x.ri.id,p.po⟩:jF)).toArray 167)::bI b2 b3 b5 (.iface 37 (.pointer (some ⟨R,0,none⟩))) (jr U V)::([blk U (.cells #[(.pointer (some ⟨R,0,none⟩))] 37),blk V (.cells #[(.pointer (some ⟨b,0,none⟩))] 100)]++(C++(blk I (.cells #[(.pointer (some ⟨b,0,none⟩))] 100)::blk J (.cells #[(.pointer (some ⟨bi,0,none⟩))] 82)::bC bi .nilFunc d x::bz x.vr x.ri.pg::F)))):=by
 obtain⟨lv,M⟩:∃lv,lv=p.aA:=⟨_,rfl⟩;rw[←M]at cj;obtain⟨mU,Y⟩:=cj;have hw:wrap64 (lv+1)=lv+1:=j9 (by omega) (by omega)
 rw[M]at hw;have Hw:=ass hw;have Hv:=ass hv;clear hv mU Y M hw;go_enter Tryz.func177,Tryz.ntmps177
 go_upto_region 1 with(fail)
 have X:=ass f;clear f;refine aX [false,false,false,false,false,false,true,true,false,false,false,true,true,false,false,true,false,false,true,false,false,true] [6,7,11,12,15,18,21] (fun|7=>[6] | 12=>[11] | 15=>[7] | 18=>[15] | 21=>[12,18] | _=>[])
  (PuR K b nx on d p x (blk I (.cells #[(.pointer (some ⟨b,0,none⟩))] 100)::blk J (.cells #[(.pointer (some ⟨bi,0,none⟩))] 82)::bC bi .nilFunc d x::bz x.vr x.ri.pg::F))
  (fun W=>St K W (blk I (.cells #[(.pointer (some ⟨b,0,none⟩))] 100)::blk J (.cells #[(.pointer (some ⟨bi,0,none⟩))] 82)::bC bi .nilFunc d x::bz x.vr x.ri.pg::F)) ?aS (by kernel_rfl) ?hB ?H ?ja ?h0 ?hI ?hR ?hE ?hQ
 case hB=>as_aux_lemma=>kernel_rfl
 case H=>
  intro A f;have k0:=f.k0;have k1:=f.k1;have Qs:=ass (fun wz (hy:∃x:Ext,wz=over A x)=>Uq O ((f.same (Pure.below hy)).b2))
  clear f;simp only[cG];repeat (go_big_quiet_step ((go_at_call 178;exact ew (Qs.out _ ⟨_,rfl⟩))))
  refine wpQuiet_nil ?_
  rfl
 case ja=>rfl
 case h0=>exact⟨fun v h=>(by cases h),fun v h=>(by cases h),fun v h=>(by cases h),fun v h=>(by cases h),X.out⟩
 case hI=>exact fun ρ A ⟨_,_,_,_,h⟩=>h.tail
 case hR=>exact fun ρ A Z ⟨e1,e2,e3,e4,h⟩ hb=>⟨e1,e2,e3,e4,h.same hb⟩
 case hE=>
  refine⟨?e6,?e7,?e11,?xB,?Nj,?e18,?e21,trivial⟩;case e6=>
   intro o B ρ A h g E l af m;obtain rfl:=asy B;replace m:af=aj _ ρ [] _:=m;have D:ρ 7=none:=g.none (by simp) (show 6∈[6]by simp) E
   have r:ρ 15=none:=g.none (by simp) (show 7∈[7]by simp) D
   have f:=h.2.2.2.2;rw[r]at f;have k0:=f.k0;unfold bA at k0;simp only[Option.isSome_none,Bool.false_eq_true,if_false]at k0;have H:=ass (h.keep (e:=6) (v:= .int .i64 p.aA) (by decide) (fun _=>rfl) (fun e=>by cases e) (fun e=>by cases e) (fun e=>by cases e) (fun q N=>N))
   simp only[aj]at m;subst m;clear h f E D r g l;go_wp2
   exact⟨rfl,_,rfl,H.out⟩
  case e7=>
   intro o B ρ A h g D l af m;obtain rfl:=asy B;replace m:af=aj _ ρ [6] _:=m;obtain⟨v6,E⟩:=asv.1 (l 6 (by show _∈[6];simp))
   obtain rfl:=h.1 v6 E;have H:=ass (h.keep (e:=7) (v:= .int .i64 (p.aA+1)) (by decide) (fun e=>by cases e) (fun _=>rfl) (fun e=>by cases e) (fun e=>by cases e) (fun q N=>N))
   simp only[aj,E,Option.getD_some,aP,Act.put,asz]at m;subst m;clear h E D g l;go_wp2
   exact⟨rfl,_,rfl,by rw[Hw.out];exact H.out⟩
  case e11=>
   intro o B ρ A h g t l af m;obtain rfl:=asy B;replace m:af=aj _ ρ [] _:=m;simp only[aj]at m;subst m;have f:=h.2.2.2.2;have Q:=ass (nJ O hn Hv.out ((show St K A (_::_::_::bC bi .nilFunc d x::bz x.vr x.ri.pg::F)from f).re [3,4,0,1,2] rfl))
   have H:=ass h;clear h f t g l;go_wp2_with fail
   refine(Q.out).mono ?_
   clear Q;rintro e Z ⟨va,rfl,f⟩;obtain⟨a1,c1,rfl,_,_⟩:=f.aJ;have S:=(show St K Z (bz _ _::bC bi .nilFunc d x::bz x.vr x.ri.pg::_::_::_::F)from f).tail.re [2,3,4,0,1] rfl
   obtain⟨e6,e7,e11,xB,_⟩:=H.out;have H2:=ass ((show PuR K b nx on d p x (blk I (.cells #[(.pointer (some ⟨b,0,none⟩))] 100)::blk J (.cells #[(.pointer (some ⟨bi,0,none⟩))] 82)::bC bi .nilFunc d x::bz x.vr x.ri.pg::F) ρ Z from⟨e6,e7,e11,xB,S⟩).keep (e:=11) (v:=(.agg #[.int .u64 (x.ri).id,.int .u64 (x.ri).word,.int .i64 (x.ri).pg.aA,(.slice a1 x.ri.pg.sl.length c1),.string (x.ri).pg.hi,.bool (x.ri).pg.la,.int .u64 (x.ri).pg.ri])) (by decide) (fun e=>by cases e) (fun e=>by cases e) (fun _=>⟨a1,c1,rfl⟩) (fun e=>by cases e) (fun q N=>N))
   clear f S H e6 e7 e11 xB;go_wp2
   exact⟨rfl,_,rfl,H2.out⟩
  case xB=>
   intro o B ρ A h g G l af m;obtain rfl:=asy B;replace m:af=aj _ ρ [11] _:=m;obtain⟨v11,t⟩:=asv.1 (l 11 (by show _∈[11];simp))
   obtain⟨a1,c1,rfl⟩:=h.2.2.1 v11 t;have H:=ass (h.keep (e:=12) (v:= .int .u64 x.ri.id) (by decide) (fun e=>by cases e) (fun e=>by cases e) (fun e=>by cases e) (fun _=>rfl) (fun q N=>N))
   simp only[aj,t,Option.getD_some,aP,Act.put,asz]at m;subst m;clear h t G g l;go_wp2
   exact⟨rfl,_,rfl,H.out⟩
  case Nj=>
   intro o B ρ A h g r l af m;obtain rfl:=asy B;replace m:af=aj _ ρ [7] _:=m;obtain⟨v7,D⟩:=asv.1 (l 7 (by show _∈[7];simp))
   obtain rfl:=h.2.1 v7 D;have s:ρ 18=none:=g.none (by simp) (show 15∈[15]by simp) r
   have y:ρ 21=none:=g.none (by simp) (show 18∈[12,18]by simp) s
   have f:=h.2.2.2.2;rw[r,s,y]at f;have k0:=f.k0;have f0:=f.f0;unfold bA at k0;have H:=ass (h.put (e:=15) (by decide) (by rw[cE,upd_ne (by decide),upd_ne (by decide),s,y];exact f.aK 9 (.int .i64 (p.aA+1))))
   simp only[aj,D,Option.getD_some,aP,Act.put,asz]at m;subst m;clear h f D r s y g l;go_wp2
   exact⟨rfl,undef,rfl,H.out⟩
  case e18=>
   intro o B ρ A h g s l af m;obtain rfl:=asy B;replace m:af=aj _ ρ [15] _:=m;obtain⟨v15,r⟩:=asv.1 (l 15 (by show _∈[15];simp))
   have y:ρ 21=none:=g.none (by simp) (show 18∈[12,18]by simp) s
   have f:=h.2.2.2.2;rw[r,s,y]at f;have k0:=f.k0;have f0:=f.f0;unfold bA at k0;have H:=ass (h.put (e:=18) (by decide) (by rw[cE,upd_ne (by decide),upd_ne (by decide),r,y];exact f.aK 10 (.string x.sep)))
   simp only[aj,r,Option.getD_some,aP,Act.put,asz]at m;subst m;clear h f r s y g l;go_wp2
   exact⟨rfl,undef,rfl,H.out⟩
  case e21=>
   intro o B ρ A h g y l af m;obtain rfl:=asy B;replace m:af=aj _ ρ [12,18] _:=m;obtain⟨v12,G⟩:=asv.1 (l 12 (by show _∈[12,18];simp))
   obtain⟨v18,s⟩:=asv.1 (l 18 (by show _∈[12,18];simp))
   obtain rfl:=h.2.2.2.1 v12 G;have r:(ρ 15).isSome=true:=g 18 (by simp) (by rw[s];rfl) 15 (by show 15∈[15];simp)
   obtain⟨v15,r⟩:=asv.1 r;have f:=h.2.2.2.2;rw[r,s,y]at f;have k0:=f.k0;have f0:=f.f0;unfold bA at k0;have H:=ass (h.put (e:=21) (by decide) (by rw[cE,upd_ne (by decide),upd_ne (by decide),r,s];exact f.aK 11 (.int .u64 x.ri.id)))
   simp only[aj,G,s,Option.getD_some,aP,Act.put,asz]at m;subst m;clear h f G r s y g l;go_wp2
   exact⟨rfl,undef,rfl,H.out⟩
 case hQ=>
  intro ρ A h n;obtain⟨v6,E⟩:=asv.1 (n 6 (by simp))
  obtain⟨v7,D⟩:=asv.1 (n 7 (by simp))
  obtain⟨v11,t⟩:=asv.1 (n 11 (by simp))
  obtain⟨v12,G⟩:=asv.1 (n 12 (by simp))
  obtain⟨v15,r⟩:=asv.1 (n 15 (by simp))
  obtain⟨v18,s⟩:=asv.1 (n 18 (by simp))
  obtain⟨v21,y⟩:=asv.1 (n 21 (by simp))
  have f:=h.2.2.2.2;rw[r,s,y]at f;have f:St K A (blk b (.cells (nx :: .bool on::bA d (⟨p.aA+1,x.sep,x.ri.id,p.po⟩:jF)).toArray 167)::blk I (.cells #[(.pointer (some ⟨b,0,none⟩))] 100)::blk J (.cells #[(.pointer (some ⟨bi,0,none⟩))] 82)::bC bi .nilFunc d x::bz x.vr x.ri.pg::F):=f;simp only[aj,E,D,t,G,r,s,y,Option.getD_some,aP,Act.put,asz];clear h n E D t G r s y X Hw Hv;have kv:=f.k1;have Q:=ass (mo f);clear f;go_wp2_with fail
  refine(Q.out).mono ?_
  clear Q kv;rintro e w3 ⟨b2,b3,b5,R,U,V,C,rfl,hr,f⟩;have Hr:=ass hr;have X:=ass f;clear f hr;simp only[aB,aY];go_wp2
  go_ret;exact⟨b2,b3,b5,R,U,V,C,rfl,Hr.out,X.out⟩
end
def Dx (bD fj:Nat):FV:=⟨171, #[], #[(.pointer (some ⟨bD,0,none⟩)),(.pointer (some ⟨fj,0,none⟩))]⟩
def Dy (bD jT fj:Nat):FV:=⟨172, #[], #[(.pointer (some ⟨bD,0,none⟩)),(.pointer (some ⟨jT,0,none⟩)),(.pointer (some ⟨fj,0,none⟩))]⟩
def Ut (b:Nat):Value:= .func (.func 107) #[(.pointer (some ⟨b,0,none⟩))] #[]
section
variable {K:aM}{w:World}{F:List aC}{b bm bc acc:Nat}{d:aU}{p:jF}{nx:Value}{on:Bool}{L:List aQ}
theorem zt {a c:Nat}(f:St K w F):Calls Tryz.prog 170 #[(.pointer (some ⟨a,0,none⟩)),(.pointer (some ⟨c,0,none⟩))] w fun e w' => e=.returned (aY (some (Dx a c)))/\St K w' F:=by
 go_enter Tryz.func170,Tryz.ntmps170
 go_wp2
 go_ret;exact⟨rfl,f⟩
theorem zu {f h:Nat}(o:acc<=1000000000000)(a:St K w (blk b (.cells (nx :: .bool on::bA d p).toArray 167)::blk f (.cells #[(.pointer (some ⟨b,0,none⟩))] 100)::aL bm bc L acc::F)) :
  Calls Tryz.prog 171 #[(.pointer (some ⟨bm,0,none⟩)),(.pointer (some ⟨f,0,none⟩)),(.pointer (some ⟨h,0,none⟩))] w fun e w' => ∃l,e=.returned (aY (some (Dy f l h)))/\St K w' (blk b (.cells (nx :: .bool on::bA d p).toArray 167)::blk l (.cells #[.int .u64 (ah L 0).n] 23)::blk f (.cells #[(.pointer (some ⟨b,0,none⟩))] 100)::aL bm bc L (acc+1)::F):=by
 have q:=ass (fun w=>pZ d w)
 have k0:=a.k0;unfold bA at k0;have k1:=a.k1;go_enter Tryz.func171,Tryz.ntmps171
 go_wp2_with fail
 refine(bJ a (q.out _)).mono ?_
 clear a k0 k1;rintro e y ⟨rfl,a⟩;have Q:=ass (jo (i:=0) a.b2 o);obtain⟨⟨n,k,m⟩,hc⟩:∃c,c=ah L 0:=⟨_,rfl⟩;rw[←hc]at Q;have r:=ass hc;clear a hc;go_wp2_with fail
 refine(Q.out).mono ?_
 clear Q;rintro e s ⟨rfl,a⟩;have a:=a.made (.cells #[.int .u64 n] 23);obtain⟨bv,g⟩:∃bv,bv=s.heap.size:=⟨_,rfl⟩;rw[←g]at a;go_upto_region 2 with(fail)
 rw[←g];clear g;refine dc a ?_
 clear a;intro A a;have t:=ass a;clear a;go_wp2
 go_ret;exact⟨bv,rfl,by rw[←r.out];exact t.out.re [2,0,3,1] rfl⟩
def aff (K:aM)(b:Nat)(nx:Value)(on:Bool)(d:aU)(p:jF)(root word aA:Int)(G:List aC)(e:Ending)(w':World):Prop:=
 (p.aA<=aA/\∃b2 b3 b5,e=.returned (aY (some (aB b2 b3 b5)))/\∃br bi bw,St K w' (blk b (.cells (nx :: .bool on::bA d p).toArray 167)::bI b2 b3 b5 (.iface 47 (.pointer (some ⟨br,0,none⟩))) (Ut b)::(fF br bi bw 7 word 0++G))) \/
 (¬ p.aA<=aA/\∃b2 b3 b5,e=.returned (aY (some (aB b2 b3 b5)))/\∃bt xM bD fG jT,
  St K w' (blk b (.cells (nx :: .bool on::bA d p).toArray 167)::bI b2 b3 b5 (.iface 156 (.pointer (some ⟨bt,0,none⟩))) (zo xM bD fG jT)::([blk xM (.cells #[(.pointer (some ⟨bt,0,none⟩))] 156),blk bD (.cells #[(.pointer (some ⟨b,0,none⟩))] 100),blk fG (.cells #[.int .u64 word] 23),blk jT (.cells #[.int .u64 root] 23)]++(gT bt 4 d.no ⟨0,0,false⟩::G))))
def LdR (K:aM)(bm bc:Nat)(L:List aQ)(acc:Nat)(c:aQ)(REST:List aC)(ρ:Nat->Option Value)(W:World):Prop:=
 (∀v,ρ 7=some v->v=(.agg #[.int .u64 (c).n,.string (c).k,.int .u64 (c).m]))/\St K W (aL bm bc L (if (ρ 7).isSome then acc+1 else acc)::REST)
theorem zv {t y A g:Nat}{root:Int}{aq:oG}(Y:d.Ok)(ha:acc<=1000000000000)(r:0<=root/\root<18446744073709551616)(Z:aq.pc=2)(B:0<=(ah L (d.node root 1)).m/\(ah L (d.node root 1)).m<1000000)
  (a:St K w (blk b (.cells (nx :: .bool on::bA d p).toArray 167)::blk t (.cells #[(.pointer (some ⟨b,0,none⟩))] 100)::blk y (.cells #[.int .u64 root] 23)::blk A (.cells #[(.pointer (some ⟨g,0,none⟩))] 175)::gD g 7 aq::aL bm bc L acc::F)) :
  Calls Tryz.prog 172 #[(.pointer (some ⟨bm,0,none⟩)),(.pointer (some ⟨t,0,none⟩)),(.pointer (some ⟨y,0,none⟩)),(.pointer (some ⟨A,0,none⟩))] w (aff K b nx on d p root aq.word (ah L (d.node root 1)).m (blk t (.cells #[(.pointer (some ⟨b,0,none⟩))] 100)::blk y (.cells #[.int .u64 root] 23)::blk A (.cells #[(.pointer (some ⟨g,0,none⟩))] 175)::gD g 7 aq::aL bm bc L (acc+1)::F)):=by
 obtain⟨M,hc⟩:∃c,c=ah L (d.node root 1):=⟨_,rfl⟩;rw[←hc]at B ⊢;have Hc:=ass hc;have Qh:=ass (fun w=>tX d Y root r.1 r.2 w)
 have hw:wrap64 M.m=M.m:=j9 B.1 B.2;have Hw:=ass hw;clear B hc hw;obtain⟨n,k,m⟩:=M;simp only at Hw ⊢;have l:=ass (show St K w (aL bm bc L acc::blk b (.cells (nx :: .bool on::bA d p).toArray 167)::blk t (.cells #[(.pointer (some ⟨b,0,none⟩))] 100)::blk y (.cells #[.int .u64 root] 23)::blk A (.cells #[(.pointer (some ⟨g,0,none⟩))] 175)::gD g 7 aq::F)from a.re [5,0,1,2,3,4] rfl)
 clear a;go_enter Tryz.func172,Tryz.ntmps172
 go_upto_region 1 with(fail)
 go_cut [20]from 999 to 0 (fun v wx=>v=.bool (decide (p.aA<=m))/\St K wx (aL bm bc L (acc+1)::blk b (.cells (nx :: .bool on::bA d p).toArray 167)::blk t (.cells #[(.pointer (some ⟨b,0,none⟩))] 100)::blk y (.cells #[.int .u64 root] 23)::blk A (.cells #[(.pointer (some ⟨g,0,none⟩))] 175)::gD g 7 aq::F))
 case first=>
  refine cX [false,false,false,false,false,false,false,true,false,false,false,false,false,false,false] (fun|7=>some (.agg #[.int .u64 ((⟨n,k,m⟩:aQ)).n,.string ((⟨n,k,m⟩:aQ)).k,.int .u64 ((⟨n,k,m⟩:aQ)).m])|_=>none) [7] (fun _=>[])
   (LdR K bm bc L acc ⟨n,k,m⟩ (blk b (.cells (nx :: .bool on::bA d p).toArray 167)::blk t (.cells #[(.pointer (some ⟨b,0,none⟩))] 100)::blk y (.cells #[.int .u64 root] 23)::blk A (.cells #[(.pointer (some ⟨g,0,none⟩))] 175)::gD g 7 aq::F))
   (fun W=>St K W (blk b (.cells (nx :: .bool on::bA d p).toArray 167)::blk t (.cells #[(.pointer (some ⟨b,0,none⟩))] 100)::blk y (.cells #[.int .u64 root] 23)::blk A (.cells #[(.pointer (some ⟨g,0,none⟩))] 175)::gD g 7 aq::F)) ?aS (by kernel_rfl) ?hB ?H ?ja ?h0 ?hI ?hR ?hE ?hQ
  case hB=>as_aux_lemma=>kernel_rfl
  case H=>
   intro D a;have k0:=a.k0;unfold bA at k0;have k1:=a.k1;have k2:=a.k2;have hw:=Hw.out;clear a;simp only[cF];repeat (go_big_quiet_step ((go_at_call 129;exact aZ (Qh.out _))))
   refine wpQuiet_nil ?_
   rfl
  case ja=>rfl
  case h0=>exact⟨fun v h=>(by cases h),l.out⟩
  case hI=>exact fun ρ D h=>h.2.tail
  case hR=>exact fun ρ D W3 h hb=>⟨h.1,h.2.same hb⟩
  case hE=>
   refine⟨?e7,trivial⟩;case e7=>
    intro o ho ρ D h N E O act J;obtain rfl:=asy ho;replace J:act=aj _ ρ [] _:=J;have a:=h.2;rw[E]at a;have q:=jo (i:=d.node root 1) (show St K D (aL bm bc L acc::_)from a) ha
    rw[←Hc.out]at q;have Q:=ass q;simp only[aj]at J;subst J;clear h a q N O E;go_wp2_with fail
    refine(Q.out).mono ?_
    clear Q;rintro e W3 ⟨rfl,a⟩;have H:=ass (show LdR K bm bc L acc ⟨n,k,m⟩ (blk b (.cells (nx :: .bool on::bA d p).toArray 167)::blk t (.cells #[(.pointer (some ⟨b,0,none⟩))] 100)::blk y (.cells #[.int .u64 root] 23)::blk A (.cells #[(.pointer (some ⟨g,0,none⟩))] 175)::gD g 7 aq::F) (upd ρ 7 (.agg #[.int .u64 ((⟨n,k,m⟩:aQ)).n,.string ((⟨n,k,m⟩:aQ)).k,.int .u64 ((⟨n,k,m⟩:aQ)).m])) W3 from⟨fun v hv=>by rw[cE]at hv;exact(asy hv).symm,by rw[cE];exact a⟩)
    clear a;go_wp2
    exact⟨rfl,_,rfl,fun u hu=>asy hu,H.out⟩
  case hQ=>
   intro ρ D h C;obtain⟨v7,E⟩:=asv.1 (C 7 (by simp))
   have a:=h.2;rw[E]at a;have Fj:=ass (show St K D (aL bm bc L (acc+1)::blk b (.cells (nx :: .bool on::bA d p).toArray 167)::blk t (.cells #[(.pointer (some ⟨b,0,none⟩))] 100)::blk y (.cells #[.int .u64 root] 23)::blk A (.cells #[(.pointer (some ⟨g,0,none⟩))] 175)::gD g 7 aq::F)from a)
   simp only[aj,E,Option.getD_some,aP,Act.put,asz];clear h a C E;go_wp2
   go_meet;exact⟨rfl,Fj.out⟩
 case rest=>
 clear l;obtain⟨rfl,a⟩:=hcut;apply_assumption
 have a:St K wc (blk b (.cells (nx :: .bool on::bA d p).toArray 167)::blk t (.cells #[(.pointer (some ⟨b,0,none⟩))] 100)::blk y (.cells #[.int .u64 root] 23)::blk A (.cells #[(.pointer (some ⟨g,0,none⟩))] 175)::gD g 7 aq::aL bm bc L (acc+1)::F):=a.re [1,2,3,4,5,0] rfl;by_cases hle:p.aA<=m
 ·have G:=ass hle
  clear hle;rw[decide_eq_true G.out];have R:=a.k1;have S:=a.b3.k0;have I:=ass (fun U (V:∃x:Ext,U=over wc x)=>pz Z (a.same (Pure.below V)).b4)
  have l:=ass a;clear a;go_upto_region 2 with(fail)
  refine bN 5 (by kernel_rfl) (by as_aux_lemma=>kernel_rfl) ?_
  simp only[List.take_succ_cons,List.take_zero,List.drop_succ_cons,List.drop_zero];repeat (go_big_quiet_step ((go_at_call 119;exact ew (I.out _ ⟨_,rfl⟩))))
  refine wpQuiet_nil ?_
  intro w5 s;have Q:=ass (mr (word:=aq.word) (f:=107) (tx:= #[(.pointer (some ⟨b,0,none⟩))]) (ty:= #[]) (l.out.same s));clear l R S I s;go_wp2_with fail
  refine(Q.out).mono ?_
  clear Q;rintro e w6 ⟨b2,b3,b5,rfl,br,bi,bw,a⟩;have l:=ass a;clear a;simp only[aB,aY];go_wp2
  go_ret;exact .inl ⟨G.out,b2,b3,b5,rfl,br,bi,bw,l.out⟩
 ·have G:=ass hle
  clear hle;rw[decide_eq_false G.out];have R:=a.k1;have kr:=a.k2;have S:=a.b3.k0;have I:=ass (fun U (V:∃x:Ext,U=over wc x)=>pz Z (a.same (Pure.below V)).b4)
  have l:=ass a;clear a;go_upto_region 3 with(fail)
  refine bN 4 (by kernel_rfl) (by as_aux_lemma=>kernel_rfl) ?_
  simp only[List.take_succ_cons,List.take_zero,List.drop_succ_cons,List.drop_zero];repeat (go_big_quiet_step ((go_at_call 119;exact ew (I.out _ ⟨_,rfl⟩))))
  refine wpQuiet_nil ?_
  intro w5 s;have Q:=ass (zq (root:=root) (word:=aq.word) Y (l.out.same s));clear l R kr S I s;go_wp2_with fail
  refine(Q.out).mono ?_
  clear Q;rintro e w6 ⟨b2,b3,b5,rfl,bt,xM,jy,fG,X,a⟩;have l:=ass a;clear a;simp only[aB,aY];go_wp2
  go_ret;exact .inr ⟨by have:=G.out;omega,b2,b3,b5,rfl,bt,xM,jy,fG,X,l.out⟩
end
def fH (aA root:Int):Pg:=⟨aA,[⟨⟨#[]⟩,root⟩],⟨#[]⟩,true,0⟩
def Lj (bD:Nat):Value:= .func (.func 185) #[] #[(.pointer (some ⟨bD,0,none⟩))]
def tK (bD jq gY fG:Nat):Value:= .func (.func 186) #[] #[(.pointer (some ⟨bD,0,none⟩)),(.pointer (some ⟨jq,0,none⟩)),(.pointer (some ⟨gY,0,none⟩)),(.pointer (some ⟨fG,0,none⟩))]
def mz (bD gY fG:Nat):Value:= .func (.func 187) #[] #[(.pointer (some ⟨bD,0,none⟩)),(.pointer (some ⟨gY,0,none⟩)),(.pointer (some ⟨fG,0,none⟩))]
def Uu (bD gY fG:Nat):FV:=⟨188, #[], #[(.pointer (some ⟨bD,0,none⟩)),(.pointer (some ⟨gY,0,none⟩)),(.pointer (some ⟨fG,0,none⟩))]⟩
def Jd (bf bF:Nat)(id:Int)(pg:Pg)(va:Value)(g cap:Nat)(ps:List Pt)(k:Nat):List aC:=[mJ bF id (aT 0) pg va g cap ps k,az (.slice (some ⟨g,0,none⟩) ps.length cap) 139 4 ps.length (cm ps),blk bf (.cells #[(.pointer (some ⟨bF,0,none⟩))] 145),bz va pg]
def Zv (d:aU)(id:Int)(pg:Pg)(v:Value)(C:List aC):Prop:=∃(bf bF g cap:Nat) (va:Value),v=(.pointer (some ⟨bf,0,none⟩))/\C=Jd bf bF id pg va g cap (⟨d.node id 0,⟨aT 0,⟨#[]⟩,0⟩⟩::bQ d id pg) 0
def sJ (K:aM)(d:aU)(id aA root:Int)(REST:List aC)(ρ:Nat->Option Value)(W:World):Prop:=
 ∃bs:Nat,(∀v,ρ 11=some v->v=.slice (some ⟨bs,0,none⟩) 1 1)/\(∀v,ρ 12=some v->v=.agg #[.int .i64 ((fH aA root)).aA,(.slice (some ⟨bs,0,none⟩) 1 1),.string ((fH aA root)).hi,.bool ((fH aA root)).la,.int .u64 ((fH aA root)).ri]) /\
  s6 K [dO (ρ 11) (blk bs (.cells [.string ⟨#[]⟩,.int .u64 root].toArray 69))] REST 74 (.pointer none) 13 14 15 (Zv d id (fH aA root)) ρ W
section
variable {K:aM}{d:aU}{id aA root:Int}{REST:List aC}{ρ:Nat->Option Value}{W W':World}
theorem s6.other {P REST:List aC}{T:TypeId}{z:Value}{i j k e:Nat}{Φ:Value->List aC->Prop}{v:Value}(h:s6 K P REST T z i j k Φ ρ W)(hi:e≠i)(a:e≠j)(hk:e≠k):s6 K P REST T z i j k Φ (upd ρ e v) W:=by
 obtain⟨b,C,c,e2,f⟩:=h;refine⟨b,C,fun u hu=>c u (by rwa [upd_ne (Ne.symm hi)]at hu),fun u hu=>e2 u (by rwa [upd_ne (Ne.symm a)]at hu),?_⟩
 rw[upd_ne (Ne.symm hi),upd_ne (Ne.symm a),upd_ne (Ne.symm hk)];exact f
theorem sJ.start (a:St K W REST):sJ K d id aA root REST (fun _=>none) W:=
 ⟨0,fun v h=>(by cases h),fun v h=>(by cases h),s6.start a.empty⟩
theorem sJ.same (h:sJ K d id aA root REST ρ W)(a:Below W.heap.size W W'):sJ K d id aA root REST ρ W' := by
 obtain⟨bs,c,e2,h⟩:=h;exact⟨bs,c,e2,h.same a⟩
theorem sJ.rest (h:sJ K d id aA root REST ρ W):St K W REST:=by
 obtain⟨bs,a,e2,h⟩:=h;exact h.rest
theorem sJ.slot (h:sJ K d id aA root REST ρ W)(c:ρ 11=none)(g:ρ 12=none)(e:ρ 13=none):sJ K d id aA root REST (upd ρ 11 (.slice (some ⟨W.heap.size,0,none⟩) 1 1)) (W.alloc (.cells [.string ⟨#[]⟩,.int .u64 root].toArray 69)):=by
 obtain⟨bs,l,e2,b,C,f1,f2,f⟩:=h;rw[c,e]at f;refine⟨W.heap.size,fun v a=>by rw[cE]at a;exact(asy a).symm,fun v a=>(by rw[upd_ne (by decide),g]at a;cases a),b,C,fun v a=>(by rw[upd_ne (by decide),e]at a;cases a),fun v a=>f2 v (by rwa [upd_ne (by decide)]at a),?_⟩
 rw[cE,upd_ne (by decide),upd_ne (by decide),upd_ne (by decide),e]
 exact(show St K W (gW::_)from f).tail.made (.cells [.string ⟨#[]⟩,.int .u64 root].toArray 69)
theorem sJ.page (h:sJ K d id aA root REST ρ W){v11:Value}(c:ρ 11=some v11):∃bs:Nat,v11=.slice (some ⟨bs,0,none⟩) 1 1/\sJ K d id aA root REST (upd ρ 12 (.agg #[.int .i64 ((fH aA root)).aA,(.slice (some ⟨bs,0,none⟩) 1 1),.string ((fH aA root)).hi,.bool ((fH aA root)).la,.int .u64 ((fH aA root)).ri])) W:=by
 obtain⟨bs,e,e2,h⟩:=h;refine⟨bs,e v11 c,bs,fun v a=>e v (by rwa [upd_ne (by decide)]at a),fun v a=>by rw[cE]at a;exact(asy a).symm,?_⟩
 rw[upd_ne (by decide)]
 exact h.other (by decide) (by decide) (by decide)
theorem sJ.call (h:sJ K d id aA root REST ρ W){v11 v12:Value}(a:ρ 11=some v11)(l:ρ 12=some v12)(m:ρ 13=none)(n:ρ 15=none):∃(bs:Nat)(X:List aC),v12=.agg #[.int .i64 ((fH aA root)).aA,(.slice (some ⟨bs,0,none⟩) 1 1),.string ((fH aA root)).hi,.bool ((fH aA root)).la,.int .u64 ((fH aA root)).ri]/\St K W (blk bs (.cells [.string ⟨#[]⟩,.int .u64 root].toArray 69)::(REST++X)) /\
  ∀v C W',Zv d id (fH aA root) v C->St K W' (C++(REST++X))->sJ K d id aA root REST (upd ρ 13 v) W' := by
 obtain⟨bs,o,e2,h⟩:=h;obtain⟨X,f,g⟩:=h.call (by decide) (by decide) m n
 rw[a]at f g;refine⟨bs,X,e2 v12 l,f,fun v C W' c e => ⟨bs,fun u hu=>o u (by rwa [upd_ne (by decide)]at hu),fun u hu=>e2 u (by rwa [upd_ne (by decide)]at hu),?_⟩⟩
 rw[upd_ne (by decide),a]
 exact g v C W' c e
theorem sJ.var (h:sJ K d id aA root REST ρ W)(a:ρ 14=none)(c:ρ 15=none):sJ K d id aA root REST (upd ρ 14 (.pointer (some ⟨W.heap.size,0,none⟩))) (W.alloc (.cells #[.pointer none] 74)):=by
 obtain⟨bs,e,e2,h⟩:=h;refine⟨bs,fun u hu=>e u (by rwa [upd_ne (by decide)]at hu),fun u hu=>e2 u (by rwa [upd_ne (by decide)]at hu),?_⟩
 rw[upd_ne (by decide)]
 exact h.var (by decide) (by decide) a c
theorem sJ.store (h:sJ K d id aA root REST ρ W){v u:Value}(f:ρ 13=some v)(g:ρ 14=some u)(l:ρ 15=none):∃(b:Nat)(a:List aC),u=(.pointer (some ⟨b,0,none⟩))/\(∃C,Zv d id (fH aA root) v C)/\St K W (blk b (.cells #[.pointer none] 74)::a) /\
  ∀W',St K W' (blk b (.cells #[v] 74)::a)->sJ K d id aA root REST (upd ρ 15 undef) W' := by
 obtain⟨bs,m,e2,h⟩:=h;obtain⟨b,a,e,hC,n,o⟩:=h.store (by decide) (by decide) f g l
 refine⟨b,a,e,hC,n,fun W' c => ⟨bs,fun u hu=>m u (by rwa [upd_ne (by decide)]at hu),fun u hu=>e2 u (by rwa [upd_ne (by decide)]at hu),?_⟩⟩
 rw[upd_ne (by decide)]
 exact o W' c
theorem sJ.last (h:sJ K d id aA root REST ρ W)(a:∀e,e∈[11,12,13,14,15]->(ρ e).isSome=true):∃(b:Nat)(v:Value)(C:List aC),ρ 13=some v/\ρ 14=some (.pointer (some ⟨b,0,none⟩))/\(∃x,ρ 15=some x)/\Zv d id (fH aA root) v C/\St K W (blk b (.cells #[v] 74)::(C++REST)):=by
 obtain⟨bs,c,e2,h⟩:=h;exact h.last (fun e he=>a e (by simp only[List.mem_cons,List.not_mem_nil,or_false]at he ⊢;rcases he with h|h|h <;> simp[h]))
end
section
variable {K:aM}{w:World}{F:List aC}{b bm bc acc:Nat}{d:aU}{p:jF}{nx:Value}{on:Bool}{L:List aQ}
def afg (K:aM)(b:Nat)(nx:Value)(on:Bool)(d:aU)(p:jF)(root word:Int)(s:iJ)(bD fG:Nat)(G:List aC)(e:Ending)(w':World):Prop:=
 (s.ok=false/\∃b2 b3 b5,e=.returned (aY (some (aB b2 b3 b5)))/\∃br bi bw,St K w' (blk b (.cells (nx :: .bool on::bA d p).toArray 167)::bI b2 b3 b5 (.iface 47 (.pointer (some ⟨br,0,none⟩))) (Lj bD)::(fF br bi bw 7 word 0++G))) \/
 (s.ok=true/\∃b2 b3 b5,e=.returned (aY (some (aB b2 b3 b5)))/\∃bf bF g cap va jq gY,
  St K w' (blk b (.cells (nx :: .bool on::bA d p).toArray 167)::bI b2 b3 b5 (.iface 74 (.pointer (some ⟨bf,0,none⟩))) (tK bD jq gY fG)::([blk jq (.cells #[(.pointer (some ⟨bf,0,none⟩))] 74),blk gY (.cells #[.int .u64 (s.seen+1)] 23)]++(Jd bf bF (s.seen+1) (fH p.aA root) va g cap (⟨d.node (s.seen+1) 0,⟨aT 0,⟨#[]⟩,0⟩⟩::bQ d (s.seen+1) (fH p.aA root)) 0++G))))
theorem wF {xM E fG N bt:Nat}{root word lim:Int}{s:iJ}(hd:d.Ok)(cj:0<=p.aA/\p.aA<1000000)(y:s.ok=true->0<=s.seen/\s.seen<18446744073709551615)
  (a:St K w (blk b (.cells (nx :: .bool on::bA d p).toArray 167)::blk xM (.cells #[(.pointer (some ⟨bt,0,none⟩))] 156)::blk E (.cells #[(.pointer (some ⟨b,0,none⟩))] 100)::blk fG (.cells #[.int .u64 word] 23)::blk N (.cells #[.int .u64 root] 23)::gT bt 4 lim s::F)) :
  Calls Tryz.prog 184 #[(.pointer (some ⟨xM,0,none⟩)),(.pointer (some ⟨E,0,none⟩)),(.pointer (some ⟨fG,0,none⟩)),(.pointer (some ⟨N,0,none⟩))] w (afg K b nx on d p root word s E fG (blk E (.cells #[(.pointer (some ⟨b,0,none⟩))] 100)::blk fG (.cells #[.int .u64 word] 23)::F)):=by
 have kt:=a.k1;have Q:=ass (kO (i:=4) (lim:=lim) (s:=s) a.b5.head y);have a:St K w (blk b (.cells (nx :: .bool on::bA d p).toArray 167)::blk E (.cells #[(.pointer (some ⟨b,0,none⟩))] 100)::blk fG (.cells #[.int .u64 word] 23)::blk N (.cells #[.int .u64 root] 23)::F):=(a.re [1,5,0,2,3,4] rfl).tail.tail;obtain⟨ok,hok⟩:∃ok,ok=s.ok:=⟨_,rfl⟩;obtain⟨id,hid⟩:∃id:Int,id=if s.ok then s.seen+1 else 0:=⟨_,rfl⟩
 rw[←hid,←hok]at Q;have J:=ass hok;have Zw:=ass hid;have V:=ass y;clear hok hid y;go_enter Tryz.func184,Tryz.ntmps184
 go_wp2_with fail
 refine(Q.out).mono ?_
 clear Q kt;rintro e w1 ⟨rfl,rfl⟩;have a:=a.made (.cells #[.int .u64 id] 23);obtain⟨gY,S⟩:∃gY,gY=w.heap.size:=⟨_,rfl⟩;rw[←S]at a;go_upto_region 2 with(fail)
 rw[←S];clear S;refine dc a ?_
 clear a;intro w2 a;cases ok with
 | false=>
  have kp:=a.k2;have kw:=a.b3.k0;have Q:=ass (mr (word:=word) (f:=185) (tx:= #[]) (ty:= #[(.pointer (some ⟨E,0,none⟩))]) a.b1);clear a;go_wp2_with fail
  refine(Q.out).mono ?_
  clear Q kp kw;rintro e w3 ⟨b2,b3,b5,rfl,br,bi,bw,a⟩;have U:=ass ((show St K w3 (blk b (.cells (nx :: .bool on::bA d p).toArray 167)::_::_::_::_::blk gY (.cells #[.int .u64 id] 23)::blk E (.cells #[(.pointer (some ⟨b,0,none⟩))] 100)::blk fG (.cells #[.int .u64 word] 23)::blk N (.cells #[.int .u64 root] 23)::F)from a).re [5,8,0,1,2,3,4,6,7] rfl).tail.tail
  clear a;simp only[aB,aY];go_wp2
  go_ret;exact .inl ⟨J.out.symm,b2,b3,b5,rfl,br,bi,bw,U.out⟩
 | true=>
  obtain⟨se1,se2⟩:=V.out J.out.symm;have pq:id=s.seen+1:=by rw[Zw.out,←J.out,if_pos rfl]
  have ajZ:=ass (show 0<=id/\id<18446744073709551616 by omega)
  have aj0:=ass pq;clear se1 se2 V Zw pq;have a:St K w2 (blk gY (.cells #[.int .u64 id] 23)::blk b (.cells (nx :: .bool on::bA d p).toArray 167)::blk E (.cells #[(.pointer (some ⟨b,0,none⟩))] 100)::blk fG (.cells #[.int .u64 word] 23)::blk N (.cells #[.int .u64 root] 23)::F):=a;go_upto_region 4 with(fail)
  have U:=ass a;clear a;refine aX [false,false,false,false,false,false,false,false,false,false,false,true,true,true,true,true] [11,12,13,14,15] (fun|12=>[11] | 13=>[12] | 15=>[13,14] | _=>[])
   (sJ K d id p.aA root (blk gY (.cells #[.int .u64 id] 23)::blk b (.cells (nx :: .bool on::bA d p).toArray 167)::blk E (.cells #[(.pointer (some ⟨b,0,none⟩))] 100)::blk fG (.cells #[.int .u64 word] 23)::blk N (.cells #[.int .u64 root] 23)::F))
   (fun W=>St K W (blk gY (.cells #[.int .u64 id] 23)::blk b (.cells (nx :: .bool on::bA d p).toArray 167)::blk E (.cells #[(.pointer (some ⟨b,0,none⟩))] 100)::blk fG (.cells #[.int .u64 word] 23)::blk N (.cells #[.int .u64 root] 23)::F)) ?aS (by kernel_rfl) ?hB ?H ?ja ?h0 ?hI ?hR ?hE ?hQ
  case hB=>as_aux_lemma=>kernel_rfl
  case H=>
   intro O a;have k0:=a.k0;have k1:=a.k1;unfold bA at k1;have k2:=a.k2;have k4:=a.b4.k0;clear a;simp only[cG];repeat (go_big_quiet_step (fail))
   refine wpQuiet_nil ?_
   rfl
  case ja=>rfl
  case h0=>exact sJ.start U.out
  case hI=>exact fun ρ O h=>h.rest
  case hR=>exact fun ρ O W3 h hb=>h.same hb
  case hE=>
   refine⟨?e11,?xB,?Za,?Tr,?Nj,trivial⟩;case e11=>
    intro o M ρ O h l c m af r;obtain rfl:=asy M;replace r:af=aj _ ρ [] _:=r;have B:ρ 12=none:=l.none (by simp) (show 11∈[11]by simp) c
    have D:ρ 13=none:=l.none (by simp) (show 12∈[12]by simp) B
    have H:=ass (h.slot c B D);simp only[aj]at r;subst r;clear h c B D l m;go_wp2
    exact⟨rfl,_,rfl,H.out⟩
   case xB=>
    intro o M ρ O h l B m af r;obtain rfl:=asy M;replace r:af=aj _ ρ [11] _:=r;obtain⟨v11,c⟩:=asv.1 (m 11 (by show _∈[11];simp))
    obtain⟨bs,rfl,hn⟩:=h.page c;have H:=ass hn;simp only[aj,c,Option.getD_some,aP,Act.put,asz]at r;subst r;clear h c B l m hn;go_wp2
    exact⟨rfl,_,rfl,H.out⟩
   case Za=>
    intro o M ρ O h l D m af r;obtain rfl:=asy M;replace r:af=aj _ ρ [12] _:=r;obtain⟨v12,B⟩:=asv.1 (m 12 (by show _∈[12];simp))
    have G:ρ 15=none:=l.none (by simp) (show 13∈[13,14]by simp) D
    have c:(ρ 11).isSome=true:=l 12 (by simp) (by rw[B];rfl) 11 (by show 11∈[11];simp)
    obtain⟨v11,c⟩:=asv.1 c;obtain⟨bs,X,rfl,a,t⟩:=h.call c B D G;have a:=a.lV (n:=1) (size:=2) rfl (by simp[maxLen])
    have Yr:=hd.fy;have q:=sq (x:=fH p.aA root) (ax:=some ⟨bs,0,none⟩) (cx:=1) (id:=id) hd ajZ.out cj (by show((1:Nat):Int)<=d.fa;omega) a
    have Q:=ass q;have Hn:=ass t;simp only[aj,B,Option.getD_some,aP,Act.put,asz]at r;subst r;clear h c B D G l m t a q Yr;go_wp2_with fail
    refine(Q.out).mono ?_
    clear Q;rintro e W3 ⟨R,Y,g,cap,va,ps,rfl,rfl,Z⟩;have eT:=ass (show St K W3 (Jd R Y id (fH p.aA root) va g cap (⟨d.node id 0,⟨aT 0,⟨#[]⟩,0⟩⟩::bQ d id (fH p.aA root)) 0++_)from(Z.sub (.cons_cons _ (.cons_cons _ (.cons_cons _ (.cons_cons _ (.cons _ (List.Sublist.refl _))))))))
    clear Z;go_wp2
    exact⟨rfl,_,rfl,Hn.out _ _ W3 ⟨R,Y,g,cap,va,rfl,rfl⟩ eT.out⟩
   case Tr=>
    intro o M ρ O h l I m af r;obtain rfl:=asy M;replace r:af=aj _ ρ [] _:=r;have G:ρ 15=none:=l.none (by simp) (show 14∈[13,14]by simp) I
    have H:=ass (h.var I G);simp only[aj]at r;subst r;clear h I G l m;go_wp2
    exact⟨rfl,_,rfl,H.out⟩
   case Nj=>
    intro o M ρ O h l G m af r;obtain rfl:=asy M;replace r:af=aj _ ρ [13,14] _:=r;obtain⟨v13,D⟩:=asv.1 (m 13 (by show _∈[13,14];simp))
    obtain⟨v14,I⟩:=asv.1 (m 14 (by show _∈[13,14];simp))
    obtain⟨bv,R',rfl,⟨C,R,Y,g,cap,va,rfl,_⟩,a,t⟩:=h.store D I G;simp only[aj,D,I,Option.getD_some,aP,Act.put,asz]at r;subst r;have k0:=a.k0;have f0:=a.f0;have gJ:Hid (St K _ (blk bv (.cells #[(.pointer (some ⟨R,0,none⟩))] 74)::R')):=ass (a.aK 0 (.pointer (some ⟨R,0,none⟩)));have Hn:=ass t;clear a t l m h D I G;go_wp2
    exact⟨rfl,undef,rfl,Hn.out _ gJ.out⟩
  case hQ=>
   intro ρ O h A;obtain⟨v11,c⟩:=asv.1 (A 11 (by simp))
   obtain⟨v12,B⟩:=asv.1 (A 12 (by simp))
   obtain⟨jq,v,C,D,I,⟨v15,G⟩,⟨R,Y,g,cap,va,rfl,rfl⟩,a⟩:=h.last A;simp only[aj,c,B,D,I,G,Option.getD_some,aP,Act.put,asz];clear h A c B D I G U;have kv:=a.k0;have Q:=ass (fY (T2:=74) (xv:=(.pointer (some ⟨R,0,none⟩))) (f:=186) (tx:= #[]) (ty:= #[(.pointer (some ⟨E,0,none⟩)),(.pointer (some ⟨jq,0,none⟩)),(.pointer (some ⟨gY,0,none⟩)),(.pointer (some ⟨fG,0,none⟩))]) a);clear a;go_wp2_with fail
   refine(Q.out).mono ?_
   clear Q kv;rintro e w3 ⟨b2,b3,b5,rfl,a⟩;have U:=ass ((show St K w3 (_::_::_::_::_::_::blk gY (.cells #[.int .u64 id] 23)::blk b (.cells (nx :: .bool on::bA d p).toArray 167)::blk E (.cells #[(.pointer (some ⟨b,0,none⟩))] 100)::blk fG (.cells #[.int .u64 word] 23)::blk N (.cells #[.int .u64 root] 23)::F)from a).re [10,7,0,1,6,2,3,4,5,8,9] rfl).tail
   clear a;simp only[aB,aY];go_wp2
   go_ret;exact .inr ⟨J.out.symm,b2,b3,b5,rfl,R,Y,g,cap,va,jq,gY,by rw[←aj0.out];exact U.out⟩
end
section
variable {K:aM}{w:World}{F:List aC}{b bm bc acc:Nat}{d:aU}{p:jF}{nx:Value}{on:Bool}{L:List aQ}
theorem wG {l m gY fG c r g cap:Nat}{id:Int}{pg:Pg}{n:Option Addr}{q:Nat}{ps:List Pt}(R:d.Ok)(S:pg.sl.length<=1000000)(hid:0<=id/\id<18446744073709551616)
  (a:St K w (blk b (.cells (nx :: .bool on::bA d p).toArray 167)::blk l (.cells #[(.pointer (some ⟨b,0,none⟩))] 100)::blk m (.cells #[(.pointer (some ⟨c,0,none⟩))] 74)::(Jd c r id pg (.slice n pg.sl.length q) g cap ps ps.length++F))) :
  Calls Tryz.prog 186 #[(.pointer (some ⟨l,0,none⟩)),(.pointer (some ⟨m,0,none⟩)),(.pointer (some ⟨gY,0,none⟩)),(.pointer (some ⟨fG,0,none⟩))] w fun e w' => ∃u,e=.returned u/\sI K b d p nx on ⟨id,aT 0,pg⟩ (mz l gY fG) (blk l (.cells #[(.pointer (some ⟨b,0,none⟩))] 100)::blk m (.cells #[(.pointer (some ⟨c,0,none⟩))] 74)::(Jd c r id pg (.slice n pg.sl.length q) g cap ps ps.length++F)) u w' := by
 go_enter Tryz.func186,Tryz.ntmps186
 go_upto_region 1 with(fail)
 have E:=ass a;clear a;refine jQ [false,false,true,false,true,true] 2 4 5
  (fun W=>St K W (blk b (.cells (nx :: .bool on::bA d p).toArray 167)::blk l (.cells #[(.pointer (some ⟨b,0,none⟩))] 100)::blk m (.cells #[(.pointer (some ⟨c,0,none⟩))] 74)::(Jd c r id pg (.slice n pg.sl.length q) g cap ps ps.length++F)))
  (PhM K ⟨id,aT 0,pg⟩ (blk b (.cells (nx :: .bool on::bA d p).toArray 167)::blk l (.cells #[(.pointer (some ⟨b,0,none⟩))] 100)::blk m (.cells #[(.pointer (some ⟨c,0,none⟩))] 74)::(Jd c r id pg (.slice n pg.sl.length q) g cap ps ps.length++F)))
  (fun _ u W=>sI K b d p nx on ⟨id,aT 0,pg⟩ (mz l gY fG) (blk l (.cells #[(.pointer (some ⟨b,0,none⟩))] 100)::blk m (.cells #[(.pointer (some ⟨c,0,none⟩))] 74)::(Jd c r id pg (.slice n pg.sl.length q) g cap ps ps.length++F)) u W)
  (fun _ u y W=>y=u/\sI K b d p nx on ⟨id,aT 0,pg⟩ (mz l gY fG) (blk l (.cells #[(.pointer (some ⟨b,0,none⟩))] 100)::blk m (.cells #[(.pointer (some ⟨c,0,none⟩))] 74)::(Jd c r id pg (.slice n pg.sl.length q) g cap ps ps.length++F)) u W)
  (fun W=>∃cs,St K W (blk l (.cells #[(.pointer (some ⟨b,0,none⟩))] 100)::blk m (.cells #[(.pointer (some ⟨c,0,none⟩))] 74)::cs)) ?aSA (by decide) (by kernel_rfl) ?hBA ?HA ?Iw E.out ?hIA ?hRA ?acw ?acy ?acz ?hQA
 case hBA=>as_aux_lemma=>kernel_rfl
 case HA=>
  rintro t ⟨cs,a⟩;have k0:=a.k0;have k1:=a.k1;clear a;simp only[cG];repeat (go_big_quiet_step (fail))
  refine wpQuiet_nil ?_
  rfl
 case Iw=>rfl
 case hIA=>exact Ur
 case hRA=>exact Us
 case acw=>
  intro N o A ρ t a hk af s;obtain rfl:=asy A;subst s;have B:=ass hk;clear hk;have Q:=ass (qF S ((show St K t (blk b (.cells (nx :: .bool on::bA d p).toArray 167)::blk l (.cells #[(.pointer (some ⟨b,0,none⟩))] 100)::blk m (.cells #[(.pointer (some ⟨c,0,none⟩))] 74)::mJ _ _ _ _ _ _ _ _ _::az _ _ _ _ _::blk c _::bz (.slice n pg.sl.length q) pg::F)from a).re [3,6,5,0,1,2,4] rfl))
  clear a;go_wp2_with fail
  refine(Q.out).mono ?_
  rintro e G ⟨V,rfl,a⟩;obtain⟨H,I,rfl,_,_⟩:=a.aJ;have U:=ass ((show St K G (_::mJ _ _ _ _ _ _ _ _ _::az _ _ _ _ _::blk c _::blk b (.cells (nx :: .bool on::bA d p).toArray 167)::blk l (.cells #[(.pointer (some ⟨b,0,none⟩))] 100)::blk m (.cells #[(.pointer (some ⟨c,0,none⟩))] 74)::az _ _ _ _ _::F)from a).tail.re [3,4,5,0,6,2,1] rfl)
  clear a Q;go_wp2
  exact⟨rfl,_,rfl,B.out _ _ ⟨H,I,rfl,U.out⟩⟩
 case acy=>
  rintro N o A ρ v t ⟨H,I,rfl,a⟩ hk af s;obtain rfl:=asy A;have B:=ass hk;clear hk;simp only[aP,List.getElem?_cons_succ,List.getElem?_cons_zero,Option.bind_some,Act.put,List.setIfInBounds_toArray,List.set_cons_zero,List.set_cons_succ]at s;subst s;have Q:=ass (iV (h:=(⟨id,aT 0,pg⟩:cC)) (va:= .slice H ((⟨id,aT 0,pg⟩:cC)).pg.sl.length I) (f:=187) (tx:= #[]) (ty:= #[(.pointer (some ⟨l,0,none⟩)),(.pointer (some ⟨gY,0,none⟩)),(.pointer (some ⟨fG,0,none⟩))]) R hid a);clear a;go_wp2_with fail
  refine(Q.out).mono ?_
  rintro e G ⟨b2,b3,b5,rfl,br,J,M,a⟩;clear Q;have C:=ass (show sI K b d p nx on ⟨id,aT 0,pg⟩ (mz l gY fG) (blk l (.cells #[(.pointer (some ⟨b,0,none⟩))] 100)::blk m (.cells #[(.pointer (some ⟨c,0,none⟩))] 74)::(Jd c r id pg (.slice n pg.sl.length q) g cap ps ps.length++F)) (aY (some (aB b2 b3 b5))) G from⟨b2,b3,b5,rfl,br,J,M,a⟩)
  clear a;simp only[aB,aY]at C ⊢;go_wp2
  exact⟨rfl,_,rfl,B.out _ _ C.out⟩
 case acz=>
  rintro N o A ρ v u t O hk af s;obtain rfl:=asy A;have B:=ass hk;clear hk;simp only[aP,List.getElem?_cons_succ,List.getElem?_cons_zero,Option.bind_some,Act.put,List.setIfInBounds_toArray,List.set_cons_zero,List.set_cons_succ]at s;subst s;have D:=O;obtain⟨b2,b3,b5,rfl,_⟩:=O;have C:=ass (show sI K b d p nx on ⟨id,aT 0,pg⟩ (mz l gY fG) (blk l (.cells #[(.pointer (some ⟨b,0,none⟩))] 100)::blk m (.cells #[(.pointer (some ⟨c,0,none⟩))] 74)::(Jd c r id pg (.slice n pg.sl.length q) g cap ps ps.length++F)) (aY (some (aB b2 b3 b5))) t from D)
  clear D;simp only[aB,aY]at C ⊢;go_wp2
  exact⟨rfl,_,rfl,B.out _ _ ⟨rfl,C.out⟩⟩
 case hQA=>
 rintro v u x t ⟨rfl,b2,b3,b5,rfl,br,J,M,a⟩;have E:=ass a;clear a;simp only[aB,aY,aP,List.getElem?_cons_succ,List.getElem?_cons_zero,Option.bind_some,Act.put,List.setIfInBounds_toArray,List.set_cons_zero,List.set_cons_succ];go_wp2
 go_ret;exact⟨_,rfl,b2,b3,b5,rfl,br,J,M,E.out⟩
theorem wH {a gY fG:Nat}(c:St K w F):Calls Tryz.prog 187 #[(.pointer (some ⟨a,0,none⟩)),(.pointer (some ⟨gY,0,none⟩)),(.pointer (some ⟨fG,0,none⟩))] w fun e w' => e=.returned (aY (some (Uu a gY fG)))/\St K w' F:=by
 go_enter Tryz.func187,Tryz.ntmps187
 go_wp2
 go_ret;exact⟨rfl,c⟩
theorem wJ {h gY fG:Nat}{id word:Int}(m:acc<=1000000000000)(a:St K w (blk b (.cells (nx :: .bool on::bA d p).toArray 167)::blk h (.cells #[(.pointer (some ⟨b,0,none⟩))] 100)::blk gY (.cells #[.int .u64 id] 23)::blk fG (.cells #[.int .u64 word] 23)::aL bm bc L acc::F)) :
  Calls Tryz.prog 188 #[(.pointer (some ⟨bm,0,none⟩)),(.pointer (some ⟨h,0,none⟩)),(.pointer (some ⟨gY,0,none⟩)),(.pointer (some ⟨fG,0,none⟩))] w fun e w' => ∃b2 b3 b5,e=.returned (aY (some (aB b2 b3 b5)))/\∃br bi bw,
   St K w' (blk b (.cells (nx :: .bool on::bA d p).toArray 167)::bI b2 b3 b5 (.iface 47 (.pointer (some ⟨br,0,none⟩))) (Ut b)::(fF br bi bw 7 word 0++(blk h (.cells #[(.pointer (some ⟨b,0,none⟩))] 100)::blk gY (.cells #[.int .u64 id] 23)::blk fG (.cells #[.int .u64 word] 23)::aL bm bc (aR L 0 ⟨id,⟨#[]⟩,0⟩) (acc+1)::F))):=by
 have n:=ass (fun w=>pZ d w)
 have k0:=a.k0;unfold bA at k0;have k1:=a.k1;have k2:=a.k2;have l:=ass a;clear a;go_enter Tryz.func188,Tryz.ntmps188
 go_upto_region 1 with(fail)
 refine bN 8 (by kernel_rfl) (by as_aux_lemma=>kernel_rfl) ?_
 simp only[List.take_succ_cons,List.take_zero,List.drop_succ_cons,List.drop_zero];repeat (go_big_quiet_step ((go_at_call 111;exact aZ (n.out _))))
 refine wpQuiet_nil ?_
 intro r g;have Q:=ass (ng (i:=0) (c:=⟨id,⟨#[]⟩,0⟩) ((l.out.same g).re [4,0,1,2,3] rfl) m);clear l k0 k1 k2 g;go_wp2_with fail
 refine(Q.out).mono ?_
 clear Q;rintro e o ⟨rfl,a⟩;have a:St K o (blk b (.cells (nx :: .bool on::bA d p).toArray 167)::blk h (.cells #[(.pointer (some ⟨b,0,none⟩))] 100)::blk gY (.cells #[.int .u64 id] 23)::blk fG (.cells #[.int .u64 word] 23)::aL bm bc (aR L 0 ⟨id,⟨#[]⟩,0⟩) (acc+1)::F):=a.re [1,2,3,4,0] rfl;have k1:=a.k1;have q:=a.b3.k0;have Q:=ass (mr (word:=word) (f:=107) (tx:= #[(.pointer (some ⟨b,0,none⟩))]) (ty:= #[]) a);clear a;go_wp2_with fail
 refine(Q.out).mono ?_
 clear Q k1 q;rintro e s ⟨b2,b3,b5,rfl,br,bi,bw,a⟩;have l:=ass a;clear a;simp only[aB,aY];go_wp2
 go_ret;exact⟨b2,b3,b5,rfl,br,bi,bw,l.out⟩
theorem Je {aA ch:Int}{sep:ByteArray}(a:St K w F):Calls Tryz.prog 59 #[.agg #[.int .i64 d.th,.int .i64 d.sn,.int .i64 d.no,.int .i64 d.ch,.int .i64 d.re,.int .i64 d.fa,.int .u64 d.cl],.int .i64 aA,.string sep,.int .u64 ch] w fun e w' => ∃b b2 b3 b5 c h l C,e=.returned (.pointer (some ⟨b,0,none⟩))/\lC d sep aA c nK C /\
  St K w' (blk b (.cells ((aY (some (aB b2 b3 b5))) :: .bool true::bA d (⟨aA,sep,ch,false⟩:jF)).toArray 167)::bI b2 b3 b5 (.iface 37 (.pointer (some ⟨c,0,none⟩))) (jr h l)::([blk h (.cells #[(.pointer (some ⟨c,0,none⟩))] 37),blk l (.cells #[(.pointer (some ⟨b,0,none⟩))] 100)]++(C++F))):=by
 have a:=a.pass (.cells #[.int .i64 d.th,.int .i64 d.sn,.int .i64 d.no,.int .i64 d.ch,.int .i64 d.re,.int .i64 d.fa,.int .u64 d.cl] 29);have a:=a.made (.cells (.nilFunc :: .bool false::bA d ⟨aA,sep,ch,false⟩).toArray 167);rw[World.size_alloc]at a;go_enter Tryz.func59,Tryz.ntmps59
 go_upto_region 2 with(fail)
 obtain⟨bp,m⟩:∃bp,bp=w.heap.size+1:=⟨_,rfl⟩;rw[←m]at a ⊢;clear m;refine dc a ?_
 clear a;intro s a;have Q:=ass (mo a);clear a;go_wp2_with fail
 refine(Q.out).mono ?_
 clear Q;rintro e t ⟨b2,b3,b5,c,h,l,C,rfl,n,a⟩;have r:=ass n;have o:=ass a;clear a n;simp only[aB,aY];go_wp2_with fail
 refine(fJ _ _ _ _).mono ?_
 rintro e y ⟨rfl,f⟩;have a:=o.out.same f;have k0:=a.k0;have f0:=a.f0;have g:=(a.aK 0 (aY (some (aB b2 b3 b5)))).aK 1 (.bool true);have q:Hid (St K _ (blk bp (.cells ((aY (some (aB b2 b3 b5))) :: .bool true::bA d (⟨aA,sep,ch,false⟩:jF)).toArray 167)::_)):=ass g;clear a o g f;simp only[aB,aY]at q;go_wp2
 go_ret;exact⟨bp,b2,b3,b5,c,h,l,C,rfl,r.out,q.out⟩
end
end Go.Proofs.YtlpdhhhgckpcfaaGreat
