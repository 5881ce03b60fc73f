/- The machine aeY.Lock: Find, Yx, Own. -/
import Derived.Test.YtlpdhhhgckpcfaaGreatInsA
namespace Go.Proofs.YtlpdhhhgckpcfaaGreat
set_option linter.unusedSimpArgs false
set_option linter.unusedVariables false
open Go.RowKit
set_option maxHeartbeats 16000000
set_option maxRecDepth 100000
section
def eE (d:aU)(key:ByteArray)(h:cC)(va:Value):List Value:=
 [.int .i64 d.th,.int .i64 d.sn,.int .i64 d.no,.int .i64 d.ch,.int .i64 d.re,.int .i64 d.fa,.int .u64 d.cl,.string key,.int .u64 h.id,.int .u64 h.word,.int .i64 h.pg.aA,va,.string h.pg.hi,.bool h.pg.la,.int .u64 h.pg.ri]
structure xI where
 pc:Nat
 fd:pR
 id:Int
 aq:oG
 ow:lM
 h:cC
def nK:xI:=⟨0,Yv,0,mL,Ce 0,oq⟩
def rC (key:ByteArray)(pg:Pg):Bool:=pg.la || cA key pg.hi
def aN (d:aU)(key:ByteArray)(level:Int)(L:List aQ)(s:xI):xI × List aQ:=
 match s.pc with
 | 0=>
  let f:=bY d L key level s.fd
  if f.pc=2 then(if f.id=0 then({ s with pc:=4,fd:=f },L)else({ s with pc:=1,fd:=f,id:=f.id,aq:=mL },L))else({ s with fd:=f },L)
 | 1=>
  let a:=bP (d.node s.id 0) L s.aq
  if a.1.pc=2 then({ s with pc:=2,aq:=a.1,ow:=Ce a.1.word },a.2)else({ s with aq:=a.1 },a.2)
 | 2=>
  let o:=bV d s.id L s.ow
  if o.pc=6 then(if rC key o.pg then({ s with pc:=4,ow:=o,h:=⟨s.id,o.word,o.pg⟩ },L)else({ s with pc:=3,ow:=o },L))else({ s with ow:=o },L)
 | 3=>({ s with pc:=1,id:=s.ow.pg.ri,aq:=mL },aR L (d.node s.id 0) ⟨aH s.ow.word,⟨#[]⟩,0⟩)
 | _=>(s,L)
def La (jq jc:Nat):Value:= .func (.func 75) #[] #[(.pointer (some ⟨jq,0,none⟩)),(.pointer (some ⟨jc,0,none⟩))]
def tH (bk bi fj:Nat):Value:= .func (.func 117) #[] #[(.pointer (some ⟨bk,0,none⟩)),(.pointer (some ⟨bi,0,none⟩)),(.pointer (some ⟨fj,0,none⟩))]
def Lb (bk wk:Nat):Value:= .func (.func 120) #[] #[(.pointer (some ⟨bk,0,none⟩)),(.pointer (some ⟨wk,0,none⟩))]
def y8 (bk bh:Nat):Value:= .func (.func 154) #[] #[(.pointer (some ⟨bk,0,none⟩)),(.pointer (some ⟨bh,0,none⟩))]
def lC (d:aU)(key:ByteArray)(level:Int)(b:Nat)(s:xI)(C:List aC):Prop:=
 match s.pc with
 | 0=>∃b2 b3 b5 bf jq jc B lj oF,C=blk b (.cells ((aY (some (aB b2 b3 b5))) :: .bool true::eE d key oq (.slice none 0 0)).toArray 125)::bI b2 b3 b5 (.iface 84 (.pointer (some ⟨bf,0,none⟩))) (La jq jc)::([blk jq (.cells #[(.pointer (some ⟨bf,0,none⟩))] 84),blk jc (.cells #[(.pointer (some ⟨b,0,none⟩))] 37)]++ru bf (aY (kL bf B s.fd.pc)) B lj oF d key level s.fd)
 | 1=>∃b2 b3 b5 ba bk bi fj,C=blk b (.cells ((aY (some (aB b2 b3 b5))) :: .bool true::eE d key oq (.slice none 0 0)).toArray 125)::bI b2 b3 b5 (.iface 175 (.pointer (some ⟨ba,0,none⟩))) (tH bk bi fj)::([blk bk (.cells #[(.pointer (some ⟨b,0,none⟩))] 37),blk bi (.cells #[.int .u64 s.id] 23),blk fj (.cells #[(.pointer (some ⟨ba,0,none⟩))] 175)]++[gD ba (d.node s.id 0) s.aq])
 | 2=>∃b2 b3 b5 bo bk wk lj,C=blk b (.cells ((aY (some (aB b2 b3 b5))) :: .bool true::eE d key oq (.slice none 0 0)).toArray 125)::bI b2 b3 b5 (.iface 177 (.pointer (some ⟨bo,0,none⟩))) (Lb bk wk)::([blk bk (.cells #[(.pointer (some ⟨b,0,none⟩))] 37),blk wk (.cells #[(.pointer (some ⟨bo,0,none⟩))] 177)]++[lr bo d s.id lj s.ow,bz lj s.ow.pg])
 | 3=>∃b2 b3 b5 br bi bw bk bh lj,C=blk b (.cells ((aY (some (aB b2 b3 b5))) :: .bool true::eE d key oq (.slice none 0 0)).toArray 125)::bI b2 b3 b5 (.iface 47 (.pointer (some ⟨br,0,none⟩))) (y8 bk bh)::([blk bk (.cells #[(.pointer (some ⟨b,0,none⟩))] 37),blk bh (.cells #[.int .u64 ((⟨s.id,s.ow.word,s.ow.pg⟩:cC)).id,.int .u64 ((⟨s.id,s.ow.word,s.ow.pg⟩:cC)).word,.int .i64 ((⟨s.id,s.ow.word,s.ow.pg⟩:cC)).pg.aA,lj,.string ((⟨s.id,s.ow.word,s.ow.pg⟩:cC)).pg.hi,.bool ((⟨s.id,s.ow.word,s.ow.pg⟩:cC)).pg.la,.int .u64 ((⟨s.id,s.ow.word,s.ow.pg⟩:cC)).pg.ri] 45)]++fF br bi bw (d.node s.id 0) s.ow.word 0)
 | _=>∃lj,C=[blk b (.cells (.nilFunc :: .bool true::eE d key s.h lj).toArray 125),bz lj s.h.pg]
section
variable {K:aM}{w:World}{F:List aC}{b:Nat}{d:aU}{key:ByteArray}{level:Int}
theorem Iu (a:St K w F):Calls Tryz.prog 17 #[.agg #[.int .i64 d.th,.int .i64 d.sn,.int .i64 d.no,.int .i64 d.ch,.int .i64 d.re,.int .i64 d.fa,.int .u64 d.cl],.string key,.int .i64 level] w fun e w' => ∃b C,e=.returned (.pointer (some ⟨b,0,none⟩))/\lC d key level b nK C/\St K w' (C++F):=by
 have a:=a.made (.cells #[.int .i64 (d).th,.int .i64 (d).sn,.int .i64 (d).no,.int .i64 (d).ch,.int .i64 (d).re,.int .i64 (d).fa,.int .u64 (d).cl] 29);have a:=a.made (.cells (.nilFunc :: .bool false::eE d key oq (.slice none 0 0)).toArray 125);have a:=a.made (.cells #[(.pointer (some ⟨(w.heap.size+1),0,none⟩))] 37);simp only[World.size_alloc]at a;have x:=ass a;clear a;go_enter Tryz.func17,Tryz.ntmps17
 go_wp2_with fail
 refine(pd (level:=level) x.out).mono ?_
 clear x;rintro e M ⟨l,rfl,a⟩;have a:=a ⟨0,0,0,0,0,0⟩;have a:=a.made (.cells #[(.pointer (some ⟨l,0,none⟩))] 84);obtain⟨m,y⟩:∃m,m=w.heap.size:=⟨_,rfl⟩;obtain⟨r,z⟩:∃r,r=M.heap.size:=⟨_,rfl⟩;go_upto_region 3 with(fail)
 rw[←y]at a ⊢;rw[←z]at a ⊢;clear y z;refine dc a ?_
 clear a;intro N a;have a:St K N (blk (m+1) (.cells (.nilFunc :: .bool false::eE d key oq (.slice none 0 0)).toArray 125)::blk r (.cells #[(.pointer (some ⟨l,0,none⟩))] 84)::blk (m+1+1) (.cells #[(.pointer (some ⟨(m+1),0,none⟩))] 37)::(ru l (aY (some (jh l))) ⟨0,0,0,0,0,0⟩ (.slice none 0 0) (.slice none 0 0) d key level Yv++F)):=(a.re [5,4,0,3,1,2] rfl).tail;have x:=ass a;clear a;refine aX [false,false,false,false,true,true,false,false,true] [4,5,8] (fun|5=>[4] | 8=>[5] | _=>[])
  (xz K (blk r (.cells #[(.pointer (some ⟨l,0,none⟩))] 84)::blk (m+1+1) (.cells #[(.pointer (some ⟨(m+1),0,none⟩))] 37)::(ru l (aY (some (jh l))) ⟨0,0,0,0,0,0⟩ (.slice none 0 0) (.slice none 0 0) d key level Yv++F)) (m+1) 125 (eE d key oq (.slice none 0 0)) 4 5 8 (aie 84 (.pointer (some ⟨l,0,none⟩)) (La r (m+1+1))))
  (fun W=>St K W (blk r (.cells #[(.pointer (some ⟨l,0,none⟩))] 84)::blk (m+1+1) (.cells #[(.pointer (some ⟨(m+1),0,none⟩))] 37)::(ru l (aY (some (jh l))) ⟨0,0,0,0,0,0⟩ (.slice none 0 0) (.slice none 0 0) d key level Yv++F))) ?aSA (by kernel_rfl) ?hBA ?HA ?Iw ?h0A ?hIA ?hRA ?hEA ?hQA
 case hBA=>as_aux_lemma=>kernel_rfl
 case HA=>
  intro t a;have k0:=a.k0;have k1:=a.k1;clear a;simp only[cG];repeat (go_big_quiet_step (fail))
  refine wpQuiet_nil ?_
  rfl
 case Iw=>rfl
 case h0A=>exact xz.start x.out
 case hIA=>exact fun p t h=>h.rest
 case hRA=>exact fun p t G h H=>h.same H
 case hEA=>
  refine⟨?e1A,?e2A,?e3A,trivial⟩;case e1A=>
   intro o A p t h g q i B j;obtain rfl:=asy A;replace j:B=aj _ p [] _:=j;have n:p 5=none:=g.none (by simp) (show 4∈[4]by simp) q
   have u:p 8=none:=g.none (by simp) (show 5∈[5]by simp) n
   obtain⟨a,c⟩:=h.call (by omega) (by omega) q n u
   simp only[aj]at j;subst j;have D:=ass c;clear c g i q n u h;have Q:=ass (fY (T2:=84) (xv:=(.pointer (some ⟨l,0,none⟩))) (f:=75) (tx:= #[]) (ty:= #[(.pointer (some ⟨r,0,none⟩)),(.pointer (some ⟨(m+1+1),0,none⟩))]) a);clear a;go_wp2_with fail
   refine(Q.out).mono ?_
   rintro e G ⟨b2,b3,b5,rfl,E⟩;have O:=ass E;clear E Q;simp only[aB,aY];go_wp2
   exact⟨rfl,_,rfl,D.out _ _ G ⟨b2,b3,b5,rfl,rfl⟩ O.out⟩
  case e2A=>
   intro o A p t h g n i B j;obtain rfl:=asy A;replace j:B=aj _ p [4] _:=j;obtain⟨v4,q⟩:=asv.1 (i 4 (by show _∈[4];simp))
   obtain⟨fv,rfl,c⟩:=h.begin (by omega) (by omega) q
   simp only[aj,q,Option.getD_some,aP,Act.put,asz]at j;subst j;have D:=ass c;clear c g i q n h;simp only[aY];go_wp2_with fail
   refine(fJ _ _ _ _).mono ?_
   rintro e G ⟨rfl,H⟩;have Hb:=ass H;clear H;go_wp2
   exact⟨rfl,_,rfl,D.out G Hb.out⟩
  case e3A=>
   intro o A p t h g u i B j;obtain rfl:=asy A;replace j:B=aj _ p [5] _:=j;obtain⟨v5,n⟩:=asv.1 (i 5 (by show _∈[5];simp))
   obtain⟨fv,P,rfl,a,c⟩:=h.store (by omega) (by omega) n u
   simp only[aj,n,Option.getD_some,aP,Act.put,asz]at j;subst j;have k:=a.k0;have R:=a.f0;unfold eE at k;have I:=ass ((a.aK 0 (aY (some fv))).aK 1 (.bool true));simp only[List.set_cons_zero,List.set_cons_succ]at I;have D:=ass c;clear a c g i h n u;simp only[aY]at I ⊢;go_wp2
   exact⟨rfl,undef,rfl,D.out _ I.out⟩
 case hQA=>
 intro p t h v;obtain⟨fv,C,q,n,⟨v8,u⟩,J,a⟩:=h.last v;simp only[aj,q,n,u,Option.getD_some,aP,Act.put,asz];clear h v q n u x;obtain⟨b2,b3,b5,rfl,rfl⟩:=J;have S:=(show St K t (bI _ _ _ _ _::blk _ _::blk _ _::blk _ (.cells #[(.pointer (some ⟨(m+1),0,none⟩))] 37)::_)from a).b3.k0
 have x:=ass a;clear a;go_wp2
 go_ret;exact⟨_,_,rfl,⟨b2,b3,b5,l,r,_,⟨0,0,0,0,0,0⟩,.slice none 0 0,.slice none 0 0,rfl⟩,(show St K t (bI _ _ _ _ _::blk _ _::_)from x.out).b1⟩
end
section
variable {K:aM}{w:World}{F:List aC}{b:Nat}{d:aU}{key:ByteArray}{h:cC}{va nx:Value}{id:Int}
theorem nL (I:d.Ok)(hid:0<=id/\id<18446744073709551616)(a:St K w (blk b (.cells (nx :: .bool true::eE d key h va).toArray 125)::F)):Calls Tryz.prog 76 #[(.pointer (some ⟨b,0,none⟩)),.int .u64 id] w fun e w' => ∃b2 b3 b5 g j bi G,e=.returned (aY (some (aB b2 b3 b5))) /\
  St K w' (blk b (.cells (nx :: .bool true::eE d key h va).toArray 125)::bI b2 b3 b5 (.iface 175 (.pointer (some ⟨g,0,none⟩))) (tH j bi G)::blk j (.cells #[(.pointer (some ⟨b,0,none⟩))] 37)::blk bi (.cells #[.int .u64 id] 23)::blk G (.cells #[(.pointer (some ⟨g,0,none⟩))] 175)::gD g (d.node id 0) mL::F):=by
 have a:=(a.made (.cells #[(.pointer (some ⟨b,0,none⟩))] 37)).made (.cells #[.int .u64 id] 23);simp only[World.size_alloc]at a;go_enter Tryz.func76,Tryz.ntmps76
 go_upto_region 1 with(fail)
 obtain⟨j,x⟩:∃j,j=w.heap.size:=⟨_,rfl⟩;rw[←x]at a ⊢;clear x;refine dc a ?_
 clear a;intro S a;have D:=ass a;clear a;refine aX [false,false,false,false,false,false,true,true,true] [6,7,8] (fun|8=>[6,7] | _=>[])
  (oP K (blk (j+1) (.cells #[.int .u64 id] 23)::blk j (.cells #[(.pointer (some ⟨b,0,none⟩))] 37)::blk b (.cells (nx :: .bool true::eE d key h va).toArray 125)::F) 175 (.pointer none) 6 7 8 (fun v C=>∃g,v=(.pointer (some ⟨g,0,none⟩))/\C=[gD g (d.node id 0) mL]))
  (fun W=>St K W (blk (j+1) (.cells #[.int .u64 id] 23)::blk j (.cells #[(.pointer (some ⟨b,0,none⟩))] 37)::blk b (.cells (nx :: .bool true::eE d key h va).toArray 125)::F)) ?aSB (by kernel_rfl) ?hBB ?HB ?Ue ?h0B ?hIB ?hRB ?hEB ?hQB
 case hBB=>as_aux_lemma=>kernel_rfl
 case HB=>
  intro u a;have k0:=a.k0;have k1:=a.k1;have k2:=a.k2;unfold eE at k2;have J:=ass (fun w=>iG d I id hid.1 hid.2 w)
  clear a;simp only[cG];repeat (go_big_quiet_step ((go_at_call 69;exact aZ (J.out _))))
  refine wpQuiet_nil ?_
  rfl
 case Ue=>rfl
 case h0B=>exact oP.start D.out
 case hIB=>exact fun p u h=>h.rest
 case hRB=>exact fun p u H h M=>h.same M
 case hEB=>
  refine⟨?e1B,?e2B,?e3B,trivial⟩;case e1B=>
   intro o y p u h k q l z m;obtain rfl:=asy y;replace m:z=aj _ p [] _:=m;have n:p 8=none:=k.none (by simp) (show 6∈[6,7]by simp) q
   obtain⟨X,a,c⟩:=h.call (by omega) (by omega) q n
   simp only[aj]at m;subst m;have A:=ass c;clear c k l q n h;go_wp2_with fail
   refine(oO (i:=d.node id 0) a).mono ?_
   rintro e H ⟨g,rfl,B⟩;have N:=ass B;clear a B;go_wp2
   exact⟨rfl,_,rfl,A.out _ _ H ⟨g,rfl,rfl⟩ N.out⟩
  case e2B=>
   intro o y p u h k r l z m;obtain rfl:=asy y;replace m:z=aj _ p [] _:=m;have n:p 8=none:=k.none (by simp) (show 7∈[6,7]by simp) r
   have A:=ass (h.var (by omega) (by omega) r n)
   simp only[aj]at m;subst m;clear k l r n h;go_wp2
   exact⟨rfl,_,rfl,A.out⟩
  case e3B=>
   intro o y p u h k n l z m;obtain rfl:=asy y;replace m:z=aj _ p [6,7] _:=m;obtain⟨v6,q⟩:=asv.1 (l 6 (by show _∈[6,7];simp))
   obtain⟨v7,r⟩:=asv.1 (l 7 (by show _∈[6,7];simp))
   obtain⟨bv,O,rfl,⟨C,g,rfl,_⟩,a,c⟩:=h.store (by omega) (by omega) q r n
   simp only[aj,q,r,Option.getD_some,aP,Act.put,asz]at m;subst m;have k0:=a.k0;have f0:=a.f0;have P:Hid (St K _ (blk bv (.cells #[(.pointer (some ⟨g,0,none⟩))] 175)::O)):=ass (a.aK 0 (.pointer (some ⟨g,0,none⟩)));have A:=ass c;clear a c k l h q r n;go_wp2
   exact⟨rfl,undef,rfl,A.out _ P.out⟩
 case hQB=>
 intro p u h t;obtain⟨bv,v,C,q,r,⟨v8,n⟩,E,a⟩:=h.last t;simp only[aj,q,r,n,Option.getD_some,aP,Act.put,asz];clear h t q r n D;obtain⟨g,rfl,rfl⟩:=E;have a:St K u (blk bv (.cells #[(.pointer (some ⟨g,0,none⟩))] 175)::gD g (d.node id 0) mL::blk (j+1) (.cells #[.int .u64 id] 23)::blk j (.cells #[(.pointer (some ⟨b,0,none⟩))] 37)::blk b (.cells (nx :: .bool true::eE d key h va).toArray 125)::F):=a;have R:=a.k0;have Q:=ass (fY (T2:=175) (xv:=(.pointer (some ⟨g,0,none⟩))) (f:=117) (tx:= #[]) (ty:= #[(.pointer (some ⟨j,0,none⟩)),(.pointer (some ⟨(j+1),0,none⟩)),(.pointer (some ⟨bv,0,none⟩))]) a);clear a;go_wp2_with fail
 refine(Q.out).mono ?_
 clear Q R;rintro e T ⟨b2,b3,b5,rfl,a⟩;have D:=ass (a.re [5,0,4,3,1,2] rfl);clear a;simp only[aB,aY];go_wp2
 go_ret;exact⟨b2,b3,b5,g,j,j+1,bv,rfl,D.out⟩
theorem Ix {s:oG}{q bi y r:Nat}{ii:Int}(J:s.pc=2)(a:St K w (blk b (.cells (nx :: .bool true::eE d key h va).toArray 125)::blk q (.cells #[(.pointer (some ⟨b,0,none⟩))] 37)::blk bi (.cells #[.int .u64 id] 23)::blk y (.cells #[(.pointer (some ⟨r,0,none⟩))] 175)::gD r ii s::F)) :
  Calls Tryz.prog 117 #[(.pointer (some ⟨q,0,none⟩)),(.pointer (some ⟨bi,0,none⟩)),(.pointer (some ⟨y,0,none⟩))] w fun e w' => ∃b2 b3 b5 g H,e=.returned (aY (some (aB b2 b3 b5))) /\
  St K w' (blk b (.cells (nx :: .bool true::eE d key h va).toArray 125)::bI b2 b3 b5 (.iface 177 (.pointer (some ⟨g,0,none⟩))) (Lb q H)::blk q (.cells #[(.pointer (some ⟨b,0,none⟩))] 37)::blk H (.cells #[(.pointer (some ⟨g,0,none⟩))] 177)::lr g d id (.slice none 0 0) (Ce s.word)::bz (.slice none 0 0) Ko::F):=by
 go_enter Tryz.func117,Tryz.ntmps117
 go_upto_region 1 with(fail)
 have E:=ass a;clear a;refine aX [false,false,false,false,false,false,false,true,true,true] [7,8,9] (fun|9=>[7,8] | _=>[])
  (oP K (blk b (.cells (nx :: .bool true::eE d key h va).toArray 125)::blk q (.cells #[(.pointer (some ⟨b,0,none⟩))] 37)::blk bi (.cells #[.int .u64 id] 23)::blk y (.cells #[(.pointer (some ⟨r,0,none⟩))] 175)::gD r ii s::F) 177 (.pointer none) 7 8 9 (fun v C=>∃g,v=(.pointer (some ⟨g,0,none⟩))/\C=[lr g d id (.slice none 0 0) (Ce s.word),bz (.slice none 0 0) Ko]))
  (fun W=>St K W (blk b (.cells (nx :: .bool true::eE d key h va).toArray 125)::blk q (.cells #[(.pointer (some ⟨b,0,none⟩))] 37)::blk bi (.cells #[.int .u64 id] 23)::blk y (.cells #[(.pointer (some ⟨r,0,none⟩))] 175)::gD r ii s::F)) ?aSC (by kernel_rfl) ?hBC ?HC ?acg ?h0C ?hIC ?hRC ?hEC ?hQC
 case hBC=>as_aux_lemma=>kernel_rfl
 case HC=>
  intro t a;have k0:=a.k0;unfold eE at k0;have k1:=a.k1;have k2:=a.k2;have V:=a.b3.k0;have M:=ass (fun N (O:∃x:Ext,N=over t x)=>pz J (a.same (Pure.below O)).b4)
  clear a;simp only[cG];repeat (go_big_quiet_step ((go_at_call 119;exact ew (M.out _ ⟨_,rfl⟩))))
  refine wpQuiet_nil ?_
  rfl
 case acg=>rfl
 case h0C=>exact oP.start E.out
 case hIC=>exact fun m t h=>h.rest
 case hRC=>exact fun m t I h P=>h.same P
 case hEC=>
  refine⟨?e1C,?e2C,?e3C,trivial⟩;case e1C=>
   intro o z m t h i n j A k;obtain rfl:=asy z;replace k:A=aj _ m [] _:=k;have l:m 9=none:=i.none (by simp) (show 7∈[7,8]by simp) n
   obtain⟨X,a,c⟩:=h.call (by omega) (by omega) n l
   simp only[aj]at k;subst k;have B:=ass c;clear c i j n l h;go_wp2_with fail
   refine(Nh (d:=d) (id:=id) (word:=s.word) a).mono ?_
   rintro e I ⟨g,rfl,D⟩;have R:=ass D;clear a D;go_wp2
   exact⟨rfl,_,rfl,B.out _ _ I ⟨g,rfl,rfl⟩ R.out⟩
  case e2C=>
   intro o z m t h i p j A k;obtain rfl:=asy z;replace k:A=aj _ m [] _:=k;have l:m 9=none:=i.none (by simp) (show 8∈[7,8]by simp) p
   have B:=ass (h.var (by omega) (by omega) p l)
   simp only[aj]at k;subst k;clear i j p l h;go_wp2
   exact⟨rfl,_,rfl,B.out⟩
  case e3C=>
   intro o z m t h i l j A k;obtain rfl:=asy z;replace k:A=aj _ m [7,8] _:=k;obtain⟨v7,n⟩:=asv.1 (j 7 (by show _∈[7,8];simp))
   obtain⟨v8,p⟩:=asv.1 (j 8 (by show _∈[7,8];simp))
   obtain⟨bv,S,rfl,⟨C,g,rfl,_⟩,a,c⟩:=h.store (by omega) (by omega) n p l
   simp only[aj,n,p,Option.getD_some,aP,Act.put,asz]at k;subst k;have k0:=a.k0;have f0:=a.f0;have T:Hid (St K _ (blk bv (.cells #[(.pointer (some ⟨g,0,none⟩))] 177)::S)):=ass (a.aK 0 (.pointer (some ⟨g,0,none⟩)));have B:=ass c;clear a c i j h n p l;go_wp2
   exact⟨rfl,undef,rfl,B.out _ T.out⟩
 case hQC=>
 intro m t h u;obtain⟨bv,v,C,n,p,⟨v9,l⟩,G,a⟩:=h.last u;simp only[aj,n,p,l,Option.getD_some,aP,Act.put,asz];clear h u n p l E;obtain⟨g,rfl,rfl⟩:=G;have a:St K t (blk bv (.cells #[(.pointer (some ⟨g,0,none⟩))] 177)::lr g d id (.slice none 0 0) (Ce s.word)::bz (.slice none 0 0) Ko::blk b (.cells (nx :: .bool true::eE d key h va).toArray 125)::blk q (.cells #[(.pointer (some ⟨b,0,none⟩))] 37)::blk bi (.cells #[.int .u64 id] 23)::blk y (.cells #[(.pointer (some ⟨r,0,none⟩))] 175)::gD r ii s::F):=a;have U:=a.k0;have Q:=ass (fY (T2:=177) (xv:=(.pointer (some ⟨g,0,none⟩))) (f:=120) (tx:= #[]) (ty:= #[(.pointer (some ⟨q,0,none⟩)),(.pointer (some ⟨bv,0,none⟩))]) a);clear a;go_wp2_with fail
 refine(Q.out).mono ?_
 clear Q U;rintro e Y ⟨b2,b3,b5,rfl,a⟩;have E:=ass ((a.re [6,7,8,4,0,5,1,2,3] rfl).tail.tail.tail);clear a;simp only[aB,aY];go_wp2
 go_ret;exact⟨b2,b3,b5,g,bv,rfl,E.out⟩
def aaE (i word:Int)(v:Value)(C:List aC):Prop:=∃br bi bw,v=(.pointer (some ⟨br,0,none⟩))/\C=fF br bi bw i word 0
def JdP (K:aM)(b:Nat)(d:aU)(key:ByteArray)(nx:Value)(h0:cC)(mO:Value)(h:cC)(a:Option Addr)(c:Nat)(F:List aC)(e:Ending)(w':World):Prop:=
 (rC key h.pg=true/\e=.returned .nilFunc/\St K w' (blk b (.cells (nx :: .bool true::eE d key h (.slice a h.pg.sl.length c)).toArray 125)::bz (.slice a h.pg.sl.length c) h.pg::F)) \/
 (rC key h.pg=false/\∃b2 b3 b5 br bi bw bk bh,e=.returned (aY (some (aB b2 b3 b5)))/\St K w' (blk b (.cells (nx :: .bool true::eE d key h0 mO).toArray 125)::bI b2 b3 b5 (.iface 47 (.pointer (some ⟨br,0,none⟩))) (y8 bk bh)::([blk bk (.cells #[(.pointer (some ⟨b,0,none⟩))] 37),blk bh (.cells #[.int .u64 (h).id,.int .u64 (h).word,.int .i64 (h).pg.aA,(.slice a h.pg.sl.length c),.string (h).pg.hi,.bool (h).pg.la,.int .u64 (h).pg.ri] 45)]++(fF br bi bw (d.node h.id 0) h.word 0++F))))
theorem y9 {h0:cC}{N:Value}{a:Option Addr}{c:Nat}(Z:d.Ok)(hid:0<=h.id/\h.id<18446744073709551616)(g:St K w (blk b (.cells (nx :: .bool true::eE d key h0 N).toArray 125)::bz (.slice a h.pg.sl.length c) h.pg::F)) :
  Calls Tryz.prog 121 #[(.pointer (some ⟨b,0,none⟩)),(.agg #[.int .u64 (h).id,.int .u64 (h).word,.int .i64 (h).pg.aA,(.slice a h.pg.sl.length c),.string (h).pg.hi,.bool (h).pg.la,.int .u64 (h).pg.ri])] w (JdP K b d key nx h0 N h a c F):=by
 have g:=(g.made (.cells #[(.pointer (some ⟨b,0,none⟩))] 37)).made (.cells #[.int .u64 (h).id,.int .u64 (h).word,.int .i64 (h).pg.aA,(.slice a h.pg.sl.length c),.string (h).pg.hi,.bool (h).pg.la,.int .u64 (h).pg.ri] 45);simp only[World.size_alloc]at g;obtain⟨id,word,pg⟩:=h;simp only at hid g;have q:=fun w=>ur key ⟨#[]⟩ pg.hi pg.la w
 rw[jX,Bool.not_false,Bool.true_and]at q;obtain⟨x,E⟩:∃x,x=(pg.la || cA key pg.hi):=⟨_,rfl⟩;rw[←E]at q;have P:=ass E;have Qw:=ass q;clear q E;go_enter Tryz.func121,Tryz.ntmps121
 go_upto_region 1 with(fail)
 obtain⟨m,R⟩:∃m,m=w.heap.size:=⟨_,rfl⟩;rw[←R]at g ⊢;clear R;refine dc g ?_
 clear g;intro w1 g;go_cut [15]from 999 to 0 (fun v15 wx=>v15=.bool x/\St K wx (blk (m+1) (.cells #[.int .u64 ((⟨id,word,pg⟩:cC)).id,.int .u64 ((⟨id,word,pg⟩:cC)).word,.int .i64 ((⟨id,word,pg⟩:cC)).pg.aA,(.slice a pg.sl.length c),.string ((⟨id,word,pg⟩:cC)).pg.hi,.bool ((⟨id,word,pg⟩:cC)).pg.la,.int .u64 ((⟨id,word,pg⟩:cC)).pg.ri] 45)::blk m (.cells #[(.pointer (some ⟨b,0,none⟩))] 37)::blk b (.cells (nx :: .bool true::eE d key h0 N).toArray 125)::bz (.slice a pg.sl.length c) pg::F))
 case first=>
  have k0:=g.k0;have k1:=g.k1;have k2:=g.k2;unfold eE at k2;refine bK (by kernel_rfl) (by as_aux_lemma=>kernel_rfl) ?_
  repeat (go_big_quiet_step ((go_at_call 138;exact ew (Qw.out _))))
  refine wpQuiet_nil ?_
  intro w5 S;have A:=ass (g.same S);clear S g k0 k1 k2;go_wp2
  go_meet;exact⟨rfl,A.out⟩
 case rest=>
 clear g;obtain⟨rfl,g⟩:=hcut;apply_assumption
 rcases Bool.eq_false_or_eq_true x with h|h
 ·rw[h]
  have G:Hid (rC key pg=true):=ass (by rw[←h,P.out];rfl)
  clear h;have k0:=g.k0;have k1:=g.k1;have g:=g.b2;have kl:=g.k0;have fl:=g.f0;unfold eE at kl;have A:=ass (((((((g.aK 10 (.int .u64 id)).aK 11 (.int .u64 word)).aK 12 (.int .i64 pg.aA)).aK 13 (.slice a pg.sl.length c)).aK 14 (.string pg.hi)).aK 15 (.bool pg.la)).aK 16 (.int .u64 pg.ri));clear g;go_wp2
  go_ret;exact .inl ⟨G.out,rfl,((show St K _ (blk b (.cells (nx :: .bool true::eE d key (⟨id,word,pg⟩:cC) (.slice a pg.sl.length c)).toArray 125)::_::_::_::F)from A.out).re [1,2,0,3] rfl).tail.tail⟩
 ·rw[h]
  have G:Hid (rC key pg=false):=ass (by rw[←h,P.out];rfl)
  clear h;go_upto_region 4 with(fail)
  have A:=ass g;clear g;refine aX [false,false,false,false,false,false,false,false,false,true,true,false,true,true] [9,10,12,13] (fun|10=>[9] | 12=>[10] | 13=>[12] | _=>[])
   (GR K (blk (m+1) (.cells #[.int .u64 ((⟨id,word,pg⟩:cC)).id,.int .u64 ((⟨id,word,pg⟩:cC)).word,.int .i64 ((⟨id,word,pg⟩:cC)).pg.aA,(.slice a pg.sl.length c),.string ((⟨id,word,pg⟩:cC)).pg.hi,.bool ((⟨id,word,pg⟩:cC)).pg.la,.int .u64 ((⟨id,word,pg⟩:cC)).pg.ri] 45)::blk m (.cells #[(.pointer (some ⟨b,0,none⟩))] 37)::blk b (.cells (nx :: .bool true::eE d key h0 N).toArray 125)::bz (.slice a pg.sl.length c) pg::F) [9,10,12,13] (mM 47 (y8 m (m+1)) (aaE (d.node id 0) word) 9 10 12 13))
   (fun W=>St K W (blk (m+1) (.cells #[.int .u64 ((⟨id,word,pg⟩:cC)).id,.int .u64 ((⟨id,word,pg⟩:cC)).word,.int .i64 ((⟨id,word,pg⟩:cC)).pg.aA,(.slice a pg.sl.length c),.string ((⟨id,word,pg⟩:cC)).pg.hi,.bool ((⟨id,word,pg⟩:cC)).pg.la,.int .u64 ((⟨id,word,pg⟩:cC)).pg.ri] 45)::blk m (.cells #[(.pointer (some ⟨b,0,none⟩))] 37)::blk b (.cells (nx :: .bool true::eE d key h0 N).toArray 125)::bz (.slice a pg.sl.length c) pg::F)) ?aSD (by kernel_rfl) ?hBD ?HD ?aci ?h0D ?hID ?hRD ?hED ?hQD
  case hBD=>as_aux_lemma=>kernel_rfl
  case HD=>
   intro B g;have k0:=g.k0;have k1:=g.k1;have k2:=g.k2;unfold eE at k2;have Ql:=ass (fun w=>iG d Z id hid.1 hid.2 w)
   clear g;simp only[cG];repeat (go_big_quiet_step ((go_at_call 69;exact aZ (Ql.out _))))
   refine wpQuiet_nil ?_
   rfl
  case aci=>rfl
  case h0D=>exact GR.start A.out
  case hID=>exact fun p B h=>h.rest
  case hRD=>exact fun p B U h hb=>h.same hb
  case hED=>
   refine⟨?e1D,?e2D,?e3D,?e4D,trivial⟩;case e1D=>
    intro o I p B h n y k J l;obtain rfl:=asy I;replace l:J=aj _ p [] _:=l;obtain⟨C,R',M,g,j⟩:=h.step mM.mono 9 [] (by decide) (by decide) (by decide) y (by simp)
    simp only[aj]at l;subst l;have V:=ass j;clear j M h n k y;have Q:=ass (kM (i:=d.node id 0) (word:=word) g);clear g;go_wp2_with fail
    refine(Q.out).mono ?_
    rintro e U ⟨br,bi,bw,rfl,r⟩;have X:=ass r;clear r Q;go_wp2
    exact⟨rfl,_,rfl,V.out _ _ U ⟨br,bi,bw,rfl,rfl⟩ X.out⟩
   case e2D=>
    intro o I p B h n u k J l;obtain rfl:=asy I;replace l:J=aj _ p [9] _:=l;obtain⟨v9,y⟩:=asv.1 (k 9 (by show _∈[9];simp))
    simp only[aj,y,Option.getD_some,aP,Act.put,asz]at l;subst l;have H:=ass (h.kE mM.mono 10 (by decide) (by simp) u (.iface 47 v9) ⟨⟨v9,iP u y,rfl⟩,rfl⟩)
    clear h n k u y;go_wp2
    exact⟨rfl,_,rfl,H.out⟩
   case e3D=>
    intro o I p B h n t k J l;obtain rfl:=asy I;replace l:J=aj _ p [10] _:=l;obtain⟨v10,u⟩:=asv.1 (k 10 (by show _∈[10];simp))
    obtain⟨Zl,R8,⟨⟨u1,z,rfl⟩,_⟩,_⟩:=h.at 10 (by simp) u
    obtain⟨C,R',M,g,j⟩:=h.step mM.mono 12 [] (by decide) (by decide) (by decide) t (by simp)
    simp only[aj,u,Option.getD_some,aP,Act.put,asz]at l;subst l;have T:∀v,upd p 12 v 9=some u1:=fun v=>iP t z
    have V:=ass j;have Hu:=ass T;clear j M h n k u t z T;have Q:=ass (fY (T2:=47) (xv:=u1) (f:=154) (tx:= #[]) (ty:= #[(.pointer (some ⟨m,0,none⟩)),(.pointer (some ⟨(m+1),0,none⟩))]) g);clear g;go_wp2_with fail
    refine(Q.out).mono ?_
    rintro e U ⟨b2,b3,b5,rfl,r⟩;have X:=ass r;clear r Q;simp only[aB,aY];go_wp2
    exact⟨rfl,_,rfl,V.out _ [_] U ⟨u1,b2,b3,b5,Hu.out _,rfl,rfl⟩ X.out⟩
   case e4D=>
    intro o I p B h n O k J l;obtain rfl:=asy I;replace l:J=aj _ p [12] _:=l;obtain⟨v12,t⟩:=asv.1 (k 12 (by show _∈[12];simp))
    obtain⟨Zl,R8,⟨u1,b2,b3,b5,z,rfl,_⟩,_⟩:=h.at 12 (by simp) t
    simp only[aj,t,Option.getD_some,aP,Act.put,asz]at l;subst l;have H:=ass (h.kE mM.mono 13 (by decide) (by simp) O (aY (some (aB b2 b3 b5))) ⟨⟨b2,b3,b5,rfl,iP O t⟩,rfl⟩)
    clear h n k t O z;simp only[aB,aY]at H ⊢;go_wp2
    exact⟨rfl,_,rfl,H.out⟩
  case hQD=>
  intro p B h D;obtain⟨u1,b2,b3,b5,C,Y,y,u,t,O,g⟩:=mM.last (by decide) h D
  simp only[aj,y,u,t,O,Option.getD_some,aP,Act.put,asz];clear h D y u t O A;obtain⟨br,bi,bw,rfl,rfl⟩:=Y;have A:=ass g;clear g;simp only[aB,aY];go_wp2
  go_ret;refine .inr ⟨G.out,b2,b3,b5,br,bi,bw,m,m+1,rfl,?_⟩;have g:St K B (bI b2 b3 b5 _ _::blk br _::blk bi _::blk bw _::blk (m+1) _::blk m _::blk b (.cells (nx :: .bool true::eE d key h0 N).toArray 125)::bz (.slice a pg.sl.length c) pg::F):=A.out;exact(g.re [7,6,0,5,4,1,2,3] rfl).tail
theorem JdP.same {K:aM}{b:Nat}{d:aU}{key:ByteArray}{nx:Value}{h0:cC}{j:Value}{h:cC}{a:Option Addr}{c:Nat}{F:List aC}{e:Ending}{W k:World}(m:JdP K b d key nx h0 j h a c F e W)(l:Below W.heap.size W k):JdP K b d key nx h0 j h a c F e k := by
 rcases m with⟨f,g,i⟩|⟨f,b2,b3,b5,br,bi,bw,n,o,g,i⟩
 ·exact .inl ⟨f,g,i.same l⟩
 ·exact .inr ⟨f,b2,b3,b5,br,bi,bw,n,o,g,i.same l⟩
theorem JdP.rest {K:aM}{b:Nat}{d:aU}{key:ByteArray}{nx:Value}{h0:cC}{g:Value}{h:cC}{a:Option Addr}{c:Nat}{F:List aC}{e:Ending}{W:World}(i:JdP K b d key nx h0 g h a c F e W):St K W F:=by
 rcases i with⟨j,k,f⟩|⟨j,b2,b3,b5,br,bi,bw,l,m,k,f⟩
 ·exact f.tail.tail
 ·exact(show St K W (_::_::_::_::_::_::_::F)from f).tail.tail.tail.tail.tail.tail.tail
def HlM (K:aM)(b:Nat)(d:aU)(key:ByteArray)(nx:Value)(h0:cC)(mO:Value)(h:cC)(F:List aC)(v:Value)(W:World):Prop:=
 ∃(a:Option Addr) (c:Nat),v=(.agg #[.int .u64 (h).id,.int .u64 (h).word,.int .i64 (h).pg.aA,(.slice a h.pg.sl.length c),.string (h).pg.hi,.bool (h).pg.la,.int .u64 (h).pg.ri])/\St K W (blk b (.cells (nx :: .bool true::eE d key h0 mO).toArray 125)::bz (.slice a h.pg.sl.length c) h.pg::F)
def JdM (K:aM)(b:Nat)(d:aU)(key:ByteArray)(nx:Value)(h0:cC)(mO:Value)(h:cC)(F:List aC)(u:Value)(W:World):Prop:=
 ∃(a:Option Addr) (c:Nat),JdP K b d key nx h0 mO h a c F (.returned u) W
theorem De {h0:cC}{n:Value}{r t k left:Nat}{word:Int}{pg:Pg}{l:Option Addr}{m:Nat}(P:d.Ok)(hid:0<=id/\id<18446744073709551616)(R:pg.sl.length<=1000000)
  (f:St K w (blk b (.cells (nx :: .bool true::eE d key h0 n).toArray 125)::blk r (.cells #[(.pointer (some ⟨b,0,none⟩))] 37)::blk t (.cells #[(.pointer (some ⟨k,0,none⟩))] 177)::lr k d id (.slice l pg.sl.length m) ⟨6,pg,left,word,false⟩::bz (.slice l pg.sl.length m) pg::F)) :
  Calls Tryz.prog 120 #[(.pointer (some ⟨r,0,none⟩)),(.pointer (some ⟨t,0,none⟩))] w fun e w' => ∃(a:Option Addr) (c:Nat),JdP K b d key nx h0 n ⟨id,word,pg⟩ a c (blk r (.cells #[(.pointer (some ⟨b,0,none⟩))] 37)::blk t (.cells #[(.pointer (some ⟨k,0,none⟩))] 177)::lr k d id (.slice l pg.sl.length m) ⟨6,pg,left,word,false⟩::bz (.slice l pg.sl.length m) pg::F) e w' := by
 have S:=ass f;clear f;go_enter Tryz.func120,Tryz.ntmps120
 go_upto_region 1 with(fail)
 refine jQ [false,false,true,true,true] 2 3 4
  (fun W=>St K W (blk b (.cells (nx :: .bool true::eE d key h0 n).toArray 125)::blk r (.cells #[(.pointer (some ⟨b,0,none⟩))] 37)::blk t (.cells #[(.pointer (some ⟨k,0,none⟩))] 177)::lr k d id (.slice l pg.sl.length m) ⟨6,pg,left,word,false⟩::bz (.slice l pg.sl.length m) pg::F))
  (HlM K b d key nx h0 n ⟨id,word,pg⟩ (blk r (.cells #[(.pointer (some ⟨b,0,none⟩))] 37)::blk t (.cells #[(.pointer (some ⟨k,0,none⟩))] 177)::lr k d id (.slice l pg.sl.length m) ⟨6,pg,left,word,false⟩::bz (.slice l pg.sl.length m) pg::F))
  (fun _ u W=>JdM K b d key nx h0 n ⟨id,word,pg⟩ (blk r (.cells #[(.pointer (some ⟨b,0,none⟩))] 37)::blk t (.cells #[(.pointer (some ⟨k,0,none⟩))] 177)::lr k d id (.slice l pg.sl.length m) ⟨6,pg,left,word,false⟩::bz (.slice l pg.sl.length m) pg::F) u W)
  (fun _ u x W=>x=u/\JdM K b d key nx h0 n ⟨id,word,pg⟩ (blk r (.cells #[(.pointer (some ⟨b,0,none⟩))] 37)::blk t (.cells #[(.pointer (some ⟨k,0,none⟩))] 177)::lr k d id (.slice l pg.sl.length m) ⟨6,pg,left,word,false⟩::bz (.slice l pg.sl.length m) pg::F) u W)
  (fun W=>∃cs,St K W (blk r (.cells #[(.pointer (some ⟨b,0,none⟩))] 37)::blk t (.cells #[(.pointer (some ⟨k,0,none⟩))] 177)::cs)) ?aS (by decide) (by kernel_rfl) ?hB ?H ?ja S.out ?hI ?hR ?Gm ?vV ?hE3 ?hQ
 case hB=>as_aux_lemma=>kernel_rfl
 case H=>
  rintro E ⟨cs,f⟩;have k0:=f.k0;have k1:=f.k1;clear f;simp only[cG];repeat (go_big_quiet_step (fail))
  refine wpQuiet_nil ?_
  rfl
 case ja=>rfl
 case hI=>exact⟨fun W h=>⟨_,h.tail⟩,fun v W ⟨_,_,_,h⟩=>⟨_,h.tail.tail⟩,fun v u W ⟨_,_,h⟩=>⟨_,h.rest⟩,fun v u x W ⟨_,_,_,h⟩=>⟨_,h.rest⟩⟩
 case hR=>exact⟨fun W I h z=>h.same z,fun v W I ⟨a,c,e,h⟩ z=>⟨a,c,e,h.same z⟩,fun v u W I ⟨a,c,h⟩ z=>⟨a,c,h.same z⟩,fun v u x W I ⟨e,a,c,h⟩ z=>⟨e,a,c,h.same z⟩⟩
 case Gm=>
  intro N o G O E f hk af A;obtain rfl:=asy G;subst A;have y:=ass hk;clear hk;have Q:=ass (Ie R (f.re [3,4,0,1,2] rfl));clear f;go_wp2_with fail
  refine(Q.out).mono ?_
  rintro e J ⟨U,rfl,f⟩;obtain⟨p,q,rfl,_,_⟩:=f.aJ;have T:=ass (f.re [3,0,4,5,1,2] rfl);clear f Q;go_wp2
  exact⟨rfl,_,rfl,y.out _ _ ⟨p,q,rfl,T.out⟩⟩
 case vV=>
  rintro N o G O v E ⟨p,q,rfl,f⟩ hk af A;obtain rfl:=asy G;have y:=ass hk;clear hk;simp only[aP,List.getElem?_cons_succ,List.getElem?_cons_zero,Option.bind_some,Act.put,List.setIfInBounds_toArray,List.set_cons_zero,List.set_cons_succ]at A;subst A;have Q:=ass (y9 (h:=⟨id,word,pg⟩) P hid f);clear f;go_wp2_with fail
  refine(Q.out).mono ?_
  rintro e J B;clear Q;rcases B with⟨i,rfl,f⟩|⟨i,b2,b3,b5,br,bi,bw,D,M,rfl,f⟩
  ·have j:=ass (show JdM K b d key nx h0 n ⟨id,word,pg⟩ _ .nilFunc J from⟨p,q,.inl ⟨i,rfl,f⟩⟩)
   clear f i;go_wp2
   exact⟨rfl,_,rfl,y.out _ _ j.out⟩
  ·have j:=ass (show JdM K b d key nx h0 n ⟨id,word,pg⟩ _ (aY (some (aB b2 b3 b5))) J from⟨p,q,.inr ⟨i,b2,b3,b5,br,bi,bw,D,M,rfl,f⟩⟩)
   clear f i;simp only[aB,aY]at j ⊢;go_wp2
   exact⟨rfl,_,rfl,y.out _ _ j.out⟩
 case hE3=>
  rintro N o G O v u E ⟨p,q,B⟩ hk af A;obtain rfl:=asy G;have y:=ass hk;clear hk;simp only[aP,List.getElem?_cons_succ,List.getElem?_cons_zero,Option.bind_some,Act.put,List.setIfInBounds_toArray,List.set_cons_zero,List.set_cons_succ]at A;subst A;have g:=B;rcases B with⟨_,i,_⟩|⟨_,b2,b3,b5,br,bi,bw,D,M,i,_⟩
  ·obtain rfl:=Ending.returned.inj i
   have j:=ass (show JdM K b d key nx h0 n ⟨id,word,pg⟩ _ .nilFunc E from⟨p,q,g⟩)
   clear g i;go_wp2
   exact⟨rfl,_,rfl,y.out _ _ ⟨rfl,j.out⟩⟩
  ·obtain rfl:=Ending.returned.inj i
   have j:=ass (show JdM K b d key nx h0 n ⟨id,word,pg⟩ _ (aY (some (aB b2 b3 b5))) E from⟨p,q,g⟩)
   clear g i;simp only[aB,aY]at j y ⊢;go_wp2
   exact⟨rfl,_,rfl,y.out _ _ ⟨rfl,j.out⟩⟩
 case hQ=>
  rintro v u x E ⟨rfl,p,q,B⟩;simp only[aP,List.getElem?_cons_succ,List.getElem?_cons_zero,Option.bind_some,Act.put,List.setIfInBounds_toArray,List.set_cons_zero,List.set_cons_succ];have g:=B;rcases B with⟨_,i,_⟩|⟨_,b2,b3,b5,br,bi,bw,D,M,i,_⟩
  ·obtain rfl:=Ending.returned.inj i
   have j:=ass g;clear g i;go_wp2
   go_ret;exact⟨p,q,j.out⟩
  ·obtain rfl:=Ending.returned.inj i
   have j:=ass g;clear g i;simp only[aB,aY]at j ⊢;go_wp2
   go_ret;exact⟨p,q,j.out⟩
theorem za {h0:cC}{c m n:Value}{q i j:Nat}{B:jO}{level:Int}{s:pR}(r:d.Ok)(t:s.pc=2)(hid:0<=s.id/\s.id<18446744073709551616)(u:s.pg.sl.length<=1000000)
  (a:St K w (blk b (.cells (nx :: .bool true::eE d key h0 c).toArray 125)::blk q (.cells #[(.pointer (some ⟨j,0,none⟩))] 84)::blk i (.cells #[(.pointer (some ⟨b,0,none⟩))] 37)::(ru j .nilFunc B m n d key level s++F))) :
  Calls Tryz.prog 75 #[(.pointer (some ⟨q,0,none⟩)),(.pointer (some ⟨i,0,none⟩))] w fun e w' => (s.id=0/\e=.returned .nilFunc/\St K w' (blk b (.cells (nx :: .bool true::eE d key h0 c).toArray 125)::F)) \/
   (s.id≠0/\∃b2 b3 b5 f k bi l,e=.returned (aY (some (aB b2 b3 b5))) /\
    St K w' (blk b (.cells (nx :: .bool true::eE d key h0 c).toArray 125)::bI b2 b3 b5 (.iface 175 (.pointer (some ⟨f,0,none⟩))) (tH k bi l)::blk k (.cells #[(.pointer (some ⟨b,0,none⟩))] 37)::blk bi (.cells #[.int .u64 s.id] 23)::blk l (.cells #[(.pointer (some ⟨f,0,none⟩))] 175)::gD f (d.node s.id 0) mL::F)):=by
 have v:=a.k1;have g:St K w (ru j .nilFunc B m n d key level s++(blk b (.cells (nx :: .bool true::eE d key h0 c).toArray 125)::blk i (.cells #[(.pointer (some ⟨b,0,none⟩))] 37)::F)):=by
  have x:St K w ([blk b (.cells (nx :: .bool true::eE d key h0 c).toArray 125),blk i (.cells #[(.pointer (some ⟨b,0,none⟩))] 37)]++(ru j .nilFunc B m n d key level s++F)):=(a.re [1,0,2] rfl).tail;exact x.front
 have Q:=ass (r9 t u g);clear a g;go_enter Tryz.func75,Tryz.ntmps75
 go_wp2_with fail
 refine(Q.out).mono ?_
 clear Q v;rintro e y ⟨o,rfl,a⟩;obtain⟨z,A,rfl,_,_⟩:=(show St K y (az o 69 2 s.pg.sl.length (aF s.pg.sl)::_)from a).aJ
 have a:=a.tail.Cf;have a:=a.pass (.cells #[.int .i64 s.pg.aA,.slice z s.pg.sl.length A,.string s.pg.hi,.bool s.pg.la,.int .u64 s.pg.ri] 43);by_cases h0:s.id=0
 ·have D:(s.id == 0)=true:=beq_iff_eq.2 h0
  have p:=ass h0;clear h0;go_wp2
  go_ret;exact .inl ⟨p.out,rfl,a.b9⟩
 ·have D:(s.id == 0)=false:=beq_eq_false_iff_ne.2 h0
  have p:=ass h0;clear h0;have E:=a.k1;have Q:=ass (nL r hid a);clear a;go_wp2_with fail
  refine(Q.out).mono ?_
  clear Q E;rintro e H ⟨b2,b3,b5,f,k,bi,l,rfl,a⟩;have G:=ass ((a.re [6,0,1,2,3,4,5] rfl).tail);clear a;simp only[aB,aY];go_wp2
  go_ret;exact .inr ⟨p.out,b2,b3,b5,f,k,bi,l,rfl,G.out⟩
theorem Df {h0:cC}{j l:Value}{c k:Nat}(m:d.Ok)(hid:0<=h.pg.ri/\h.pg.ri<18446744073709551616)
  (a:St K w (blk b (.cells (nx :: .bool true::eE d key h0 j).toArray 125)::blk c (.cells #[(.pointer (some ⟨b,0,none⟩))] 37)::blk k (.cells #[.int .u64 (h).id,.int .u64 (h).word,.int .i64 (h).pg.aA,l,.string (h).pg.hi,.bool (h).pg.la,.int .u64 (h).pg.ri] 45)::F)) :
  Calls Tryz.prog 154 #[(.pointer (some ⟨c,0,none⟩)),(.pointer (some ⟨k,0,none⟩))] w fun e w' => ∃b2 b3 b5 f c bi g,e=.returned (aY (some (aB b2 b3 b5))) /\
    St K w' (blk b (.cells (nx :: .bool true::eE d key h0 j).toArray 125)::bI b2 b3 b5 (.iface 175 (.pointer (some ⟨f,0,none⟩))) (tH c bi g)::blk c (.cells #[(.pointer (some ⟨b,0,none⟩))] 37)::blk bi (.cells #[.int .u64 h.pg.ri] 23)::blk g (.cells #[(.pointer (some ⟨f,0,none⟩))] 175)::gD f (d.node h.pg.ri 0) mL::F):=by
 have k1:=a.k1;have k2:=a.k2;have Q:=ass (nL m hid (a.re [1,2,0] rfl).tail.tail);clear a;go_enter Tryz.func154,Tryz.ntmps154
 go_wp2_with fail
 refine(Q.out).mono ?_
 clear Q k1 k2;rintro e o ⟨b2,b3,b5,f,i,bi,g,rfl,a⟩;have n:=ass a;clear a;simp only[aB,aY];go_wp2
 go_ret;exact⟨b2,b3,b5,f,i,bi,g,rfl,n.out⟩
end
theorem Ob {d:aU}{L:List aQ}{key:ByteArray}{level:Int}{s:pR}(h:s.pc<=2):(bY d L key level s).pc<=2:=by
 have a:∀(x:pR) (i:Int),(iO x i).pc<=2:=by
  intro x i;unfold iO;split <;> simp
 unfold bY;split
 ·exact a _ _
 ·split
  ·unfold jB
   split
   ·simp
   ·split
    ·split
     ·simp
     ·exact a _ _
    ·exact a _ _
  ·simp
 ·exact h
structure xI.Ok (d:aU)(key:ByteArray)(level:Int)(L:List aQ)(s:xI):Prop where
 pc:s.pc<=3
 fd:s.pc=0->s.fd.Ok d/\s.fd.pc≠2/\(s.fd.pc=1->(rdStep d s.fd.id L s.fd.rd).pc=6->uy level (rdStep d s.fd.id L s.fd.rd).pg) /\
  ((bY d L key level s.fd).pc=2->(0<=(bY d L key level s.fd).id/\(bY d L key level s.fd).id<18446744073709551616)/\(bY d L key level s.fd).pg.sl.length<=1000000)
 id:1<=s.pc->0<=s.id/\s.id<18446744073709551616
 aq:s.pc=1->s.aq.Ok/\s.aq.pc≠2
 ow:s.pc=2->s.ow.OkO d/\s.ow.pc≠6
 rl:s.pc=3->(0<=s.ow.word/\s.ow.word<18446744073709551616)/\0<=s.ow.pg.ri/\s.ow.pg.ri<18446744073709551616
theorem uR (n : Nat) (a : Addr) (w : World) : (method (n + 1) 175 (.pointer (some a)) "Step").run Tryz.prog w = .ok (213, .pointer (some a)) w := by kernel_rfl
theorem Iy (n : Nat) (a : Addr) (w : World) : (method (n + 1) 177 (.pointer (some a)) "Step").run Tryz.prog w = .ok (214, .pointer (some a)) w := by kernel_rfl
theorem iE (n : Nat) (a : Addr) (w : World) : (method (n + 1) 47 (.pointer (some a)) "Step").run Tryz.prog w = .ok (22, .pointer (some a)) w := by kernel_rfl
section
variable {K:aM}{w:World}{F:List aC}{b bm bc:Nat}{d:aU}{key:ByteArray}{level:Int}{L:List aQ}{acc:Nat}{s:xI}{C:List aC}
def uS (d:aU)(key:ByteArray)(level:Int)(b:Nat)(s:xI)(o:Option FV)(tl:List Value)(C2:List aC):Prop:=
 ∃tl2,tl=.bool true::tl2/\o.isNone=decide (4<=s.pc)/\lC d key level b s (blk b (.cells (aY o::tl).toArray 125)::C2)
theorem uT {o:Option FV}{a:List Value}{c:List aC}{L1:List aQ}{w':World}{e:Ending}{s s':xI}(he:e=.returned (.bool o.isNone))(g:St K w' (blk b (.cells (aY o::a).toArray 125)::(c++aL bm bc L1 (acc+1)::F)))(i:uS d key level b s' o a c)
  (heq:aN d key level L s=(s',L1)):∃f,e=.returned (.bool (decide (4<=(aN d key level L s).1.pc)))/\lC d key level b (aN d key level L s).1 f /\ St K w' (f ++ aL bm bc (aN d key level L s).2 (acc+1)::F):=by
 obtain⟨j,_,k,l⟩:=i;rw[heq];exact⟨_,by rw[he,k],l,g⟩
theorem Iz (E:d.Ok)(W:bL L)(Z:acc<=1000000000000)(hok:s.Ok d key level L)(hh:s.h=oq)(y:lC d key level b s C)(g:St K w (C++aL bm bc L acc::F)) :
  Calls Tryz.prog 77 #[(.pointer (some ⟨b,0,none⟩)),(.pointer (some ⟨bm,0,none⟩))] w fun e w' => ∃k,e=.returned (.bool (decide (4<=(aN d key level L s).1.pc)))/\lC d key level b (aN d key level L s).1 k /\ St K w' (k ++ aL bm bc (aN d key level L s).2 (acc+1)::F):=by
 obtain⟨pc,fd,id,aq,ow,h⟩:=s;obtain⟨r7,A,hid,l,m,p⟩:=hok;simp only at r7 A hid l m p hh;subst hh;match pc,r7,y,A,hid,l,m,p with
 | 0,_,y,A,hid,l,m,p=>
  obtain⟨b2,b3,b5,N,jq,jc,B,O,oF,rfl⟩:=y;obtain⟨f1,f2,f3,f4⟩:=A rfl;have hf2:=Ob f1.pc (L:=L) (key:=key) (level:=level) (d:=d);refine(kG.nC (R:=fun fin k => fin=decide (2<=(bY d L key level fd).pc)/\∃G P Q,k=ru N (aY (kL N G (bY d L key level fd).pc)) G P Q d key level (bY d L key level fd))
   (L' := L) (acc' := acc+1) (V:=[blk jq (.cells #[(.pointer (some ⟨N,0,none⟩))] 84),blk jc (.cells #[(.pointer (some ⟨b,0,none⟩))] 37)]) (C:=ru N (aY (kL N B fd.pc)) B O oF d key level fd)
   (R2:=fun o r t=>(bY d L key level fd).pc=2/\uS d key level b (if (bY d L key level fd).id=0 then⟨4,bY d L key level fd,id,aq,ow,oq⟩else⟨1,bY d L key level fd,(bY d L key level fd).id,mL,ow,oq⟩) o r t)
   (fun w F g=>?_) (fun n w=>Bk n _ w) (fun _ _=>by kernel_rfl) (fun _ _=>by kernel_rfl) ?_ w F g).mono ?_
  ·refine(r8 E W Z f1 f3 g).mono ?_
   rintro e w' ⟨rfl,⟨G,P,Q⟩,g⟩;rw[show uz fd.pc acc=acc+1 by unfold uz;rw[if_neg f2]]at g
   exact⟨_,_,rfl,⟨rfl,G,P,Q,rfl⟩,g⟩
  ·rintro k w1 H ⟨q,G,P,Q,rfl⟩ g
   have hp:(bY d L key level fd).pc=2:=by
    have:=of_decide_eq_true q.symm;omega
   obtain⟨g1,g2⟩:=f4 hp;generalize bY d L key level fd=f at *;rw[hp]at g;refine(za (level:=level) E hp g1 g2 (F:=aL bm bc L (acc+1)::H) g).mono ?_
   rintro e X (⟨h0,rfl,j⟩|⟨h0,u,v,x,D,z,bi,S,rfl,j⟩)
   ·rw[if_pos h0]
    exact⟨none,_,[bz (.slice none 0 0) oq.pg],rfl,⟨hp,_,rfl,rfl,_,rfl⟩,(j.cJ (T:=69) (size:=2)).b1⟩
   ·rw[if_neg h0]
    exact⟨some (aB u v x),_,[_,_,_,_,_],rfl,⟨hp,_,rfl,rfl,u,v,x,D,z,bi,S,rfl⟩,j⟩
  ·rintro e w' ⟨o,r,t,he,g,⟨rfl,rfl,k,⟨q,G,P,Q,rfl⟩,rfl⟩|⟨hp,I⟩⟩
   ·have hp:(bY d L key level fd).pc≠2:=by
     intro h2;rw[h2]at q;cases q
    refine uT he g (s' := ⟨0,bY d L key level fd,id,aq,ow,oq⟩) ⟨_,rfl,rfl,b2,b3,b5,N,jq,jc,G,P,Q,rfl⟩ ?_
    show(if _ then _ else _)=_
    rw[if_neg hp]
   ·refine uT he g I ?_
    show(if _ then _ else _)=_
    rw[if_pos hp];split <;> rfl
 | 1,_,y,A,hid,l,m,p=>
  obtain⟨b2,b3,b5,D,z,bi,S,rfl⟩:=y;obtain⟨J,Y⟩:=l rfl;have hi:=hid (Nat.le_refl 1);have M:=uC (i:=d.node id 0) W J;refine(kG.nC (R:=fun fin k => fin=decide (2<=(bP (d.node id 0) L aq).1.pc)/\k = [gD D (d.node id 0) (bP (d.node id 0) L aq).1])
   (L' := (bP (d.node id 0) L aq).2) (acc' := acc+1) (V:=[blk z (.cells #[(.pointer (some ⟨b,0,none⟩))] 37),blk bi (.cells #[.int .u64 id] 23),blk S (.cells #[(.pointer (some ⟨D,0,none⟩))] 175)]) (C:=[gD D (d.node id 0) aq])
   (R2:=fun o r t=>(bP (d.node id 0) L aq).1.pc=2/\uS d key level b ⟨2,fd,id,(bP (d.node id 0) L aq).1,Ce (bP (d.node id 0) L aq).1.word,oq⟩ o r t)
   (fun w F g=>?_) (fun n w=>uR n _ w) (fun _ _=>by kernel_rfl) (fun _ _=>by kernel_rfl) ?_ w F g).mono ?_
  ·refine(uD W Z J Y g).mono ?_
   rintro e w' ⟨rfl,g⟩;exact⟨_,_,rfl,⟨rfl,rfl⟩,g⟩
  ·rintro k w1 H ⟨q,rfl⟩ g
   have hp:(bP (d.node id 0) L aq).1.pc=2:=by
    have:=of_decide_eq_true q.symm;have:=M.pc;omega
   refine(Ix hp g).mono ?_
   rintro e X ⟨u,v,x,U,wk,rfl,j⟩;exact⟨some (aB u v x),_,[_,_,_,_,_],rfl,⟨hp,_,rfl,rfl,u,v,x,U,z,wk,_,rfl⟩,j⟩
  ·rintro e w' ⟨o,r,t,he,g,⟨rfl,rfl,k,⟨q,rfl⟩,rfl⟩|⟨hp,I⟩⟩
   ·have hp:(bP (d.node id 0) L aq).1.pc≠2:=by
     intro h2;rw[h2]at q;cases q
    refine uT he g (s' := ⟨1,fd,id,(bP (d.node id 0) L aq).1,ow,oq⟩) ⟨_,rfl,rfl,b2,b3,b5,D,z,bi,S,rfl⟩ ?_
    show(if _ then _ else _)=_
    rw[if_neg hp]
   ·refine uT he g I ?_
    show(if _ then _ else _)=_
    rw[if_pos hp]
 | 2,_,y,A,hid,l,m,p=>
  obtain⟨b2,b3,b5,U,z,wk,O,rfl⟩:=y;obtain⟨J,Y⟩:=m rfl;have hi:=hid (by omega)
  have M:=uF E (id:=id) W J;have pQ:=E.m7;refine(kG.nC (R:=fun fin k => fin=decide ((bV d id L ow).pc=6)/\∃(a:Option Addr) (c:Nat),k = [lr U d id (.slice a (bV d id L ow).pg.sl.length c) (bV d id L ow),bz (.slice a (bV d id L ow).pg.sl.length c) (bV d id L ow).pg])
   (L' := L) (acc' := acc+1) (V:=[blk z (.cells #[(.pointer (some ⟨b,0,none⟩))] 37),blk wk (.cells #[(.pointer (some ⟨U,0,none⟩))] 177)]) (C:=[lr U d id O ow,bz O ow.pg])
   (R2:=fun o r t=>(bV d id L ow).pc=6/\uS d key level b (if rC key (bV d id L ow).pg then⟨4,fd,id,aq,bV d id L ow,⟨id,(bV d id L ow).word,(bV d id L ow).pg⟩⟩else⟨3,fd,id,aq,bV d id L ow,oq⟩) o r t)
   (fun w F g=>?_) (fun n w=>Iy n _ w) (fun _ _=>by kernel_rfl) (fun _ _=>by kernel_rfl) ?_ w F g).mono ?_
  ·refine(Ic E hi W Z J Y g).mono ?_
   rintro e w' ⟨fA,rfl,g⟩;obtain⟨a,c,rfl,_,_⟩:=(show St K w' (az fA 69 2 (bV d id L ow).pg.sl.length (aF (bV d id L ow).pg.sl)::_)from g.b1).aJ
   exact⟨_,[_,_],rfl,⟨rfl,a,c,rfl⟩,g⟩
  ·rintro k w1 H ⟨q,a,c,rfl⟩ g
   have hp:(bV d id L ow).pc=6:=of_decide_eq_true q.symm;have hlen:(bV d id L ow).pg.sl.length<=1000000:=by
    rcases M.len with h|h <;> omega
   generalize bV d id L ow=o at *;obtain⟨opc,opg,ama,amb,ot⟩:=o;simp only at hp hlen;subst hp;refine(De (F:=aL bm bc L (acc+1)::H) E hi hlen g).mono ?_
   rintro e X ⟨a3,c3,⟨h1,rfl,j⟩|⟨h1,u,v,x,br,bi,bw,bk',bh,rfl,j⟩⟩
   ·rw[if_pos h1]
    exact⟨none,_,[_],rfl,⟨rfl,_,rfl,rfl,_,rfl⟩,(j.re [2,3,4,5,0,1] rfl).tail.tail.tail.tail⟩
   ·rw[h1,if_neg (by simp)]
    refine⟨some (aB u v x),_,[_,_,_,_,_,_],rfl,⟨rfl,_,rfl,rfl,u,v,x,br,bi,bw,bk',bh,.slice a3 opg.sl.length c3,rfl⟩,?_⟩;exact((show St K X (_::_::_::_::_::_::_::_::_::_::_::aL bm bc L (acc+1)::H)from j).re [7,8,9,10,0,1,2,3,4,5,6] rfl).tail.tail.tail.tail
  ·rintro e w' ⟨o,r,t,he,g,⟨rfl,rfl,k,⟨q,a,c,rfl⟩,rfl⟩|⟨hp,I⟩⟩
   ·have hp:(bV d id L ow).pc≠6:=of_decide_eq_false q.symm
    refine uT he g (s' := ⟨2,fd,id,aq,bV d id L ow,oq⟩) ⟨_,rfl,rfl,b2,b3,b5,U,z,wk,_,rfl⟩ ?_
    show(if _ then _ else _)=_
    rw[if_neg hp]
   ·refine uT he g I ?_
    show(if _ then _ else _)=_
    rw[if_pos hp];split <;> rfl
 | 3,_,y,A,hid,l,m,p=>
  obtain⟨b2,b3,b5,br,bi,bw,z,bh,O,rfl⟩:=y;obtain⟨J,Y⟩:=p rfl;have hi:=hid (by omega)
  refine(kG.nC (R:=fun fin k => fin=true/\k=fF br bi bw (d.node id 0) ow.word 1)
   (L' := aR L (d.node id 0) ⟨aH ow.word,⟨#[]⟩,0⟩) (acc' := acc+1) (V:=[blk z (.cells #[(.pointer (some ⟨b,0,none⟩))] 37),blk bh (.cells #[.int .u64 ((⟨id,ow.word,ow.pg⟩:cC)).id,.int .u64 ((⟨id,ow.word,ow.pg⟩:cC)).word,.int .i64 ((⟨id,ow.word,ow.pg⟩:cC)).pg.aA,O,.string ((⟨id,ow.word,ow.pg⟩:cC)).pg.hi,.bool ((⟨id,ow.word,ow.pg⟩:cC)).pg.la,.int .u64 ((⟨id,ow.word,ow.pg⟩:cC)).pg.ri] 45)]) (C:=fF br bi bw (d.node id 0) ow.word 0)
   (R2:=fun o r t=>uS d key level b ⟨1,fd,ow.pg.ri,mL,ow,oq⟩ o r t)
   (fun w F g=>?_) (fun n w=>iE n _ w) (fun _ _=>by kernel_rfl) (fun _ _=>by kernel_rfl) ?_ w F g).mono ?_
  ·refine(iD J Z g).mono ?_
   rintro e w' ⟨rfl,g⟩;exact⟨_,_,rfl,⟨rfl,rfl⟩,g⟩
  ·rintro k w1 H ⟨_,rfl⟩ g
   refine(Df (h:=⟨id,ow.word,ow.pg⟩) E Y g).mono ?_
   rintro e X ⟨u,v,x,D,bk2,bi2,S,rfl,j⟩;refine⟨some (aB u v x),_,[_,_,_,_,_],rfl,⟨_,rfl,rfl,u,v,x,D,bk2,bi2,S,rfl⟩,?_⟩;exact((show St K X (_::_::_::_::_::_::_::_::_::aL bm bc _ (acc+1)::H)from j).re [6,7,8,0,1,2,3,4,5] rfl).tail.tail.tail
  ·rintro e w' ⟨o,r,t,he,g,⟨rfl,rfl,k,⟨q,_⟩,rfl⟩|I⟩
   ·cases q
   ·exact uT he g I rfl
 | n+4,r7,y,A,hid,l,m,p=>omega
theorem Dg (g:d.Ok)(i:bL L)(j:acc<=1000000000000)(hok:s.Ok d key level L)(k:s.h=oq)(l:lC d key level b s C)(a:St K w (C++aL bm bc L acc::F)) :
  Calls Tryz.prog 18 #[(.pointer (some ⟨b,0,none⟩)),(.pointer (some ⟨bm,0,none⟩))] w fun e w' => ∃c,e=.returned (.bool (decide (4<=(aN d key level L s).1.pc)))/\lC d key level b (aN d key level L s).1 c /\ St K w' (c ++ aL bm bc (aN d key level L s).2 (acc+1)::F):=by
 have Q:=ass (Iz g i j hok k l a);clear a;go_enter Tryz.func18,Tryz.ntmps18
 go_wp2_with fail
 refine(Q.out).mono ?_
 clear Q;rintro e o ⟨c,rfl,f,a⟩;have m:=ass f;have n:=ass a;clear f a;go_wp2
 go_ret;exact⟨c,rfl,m.out,n.out⟩
theorem zb (tmps:Array Value)(w:World)(b:Nat)(v0 v1 v2 v3 v4 v5 v6:Value)(hp:tmps[2]?=some ((.pointer (some ⟨b,0,none⟩))))(hk:∀k,w.cell? ⟨b,k,none⟩=(#[v0,v1,v2,v3,v4,v5,v6]:Array Value)[k]?) :
  (results Tryz.f19 tmps).run Tryz.prog w=.ok (.agg #[v0,v1,v2,v3,v4,v5,v6]) w:=by
 simp[results,Tryz.results19,go_sem,hp,hk]
theorem Dh {h:cC}{a:Option Addr}{c:Nat}{nx:Value}(M:h.pg.sl.length<=1000000)(f:St K w (blk b (.cells (nx :: .bool true::eE d key h (.slice a h.pg.sl.length c)).toArray 125)::bz (.slice a h.pg.sl.length c) h.pg::F)) :
  Calls Tryz.prog 19 #[(.pointer (some ⟨b,0,none⟩))] w fun e w' => ∃va,e=.returned (.agg #[.int .u64 (h).id,.int .u64 (h).word,.int .i64 (h).pg.aA,va,.string (h).pg.hi,.bool (h).pg.la,.int .u64 (h).pg.ri])/\St K w' (bz va h.pg::blk b (.cells (nx :: .bool true::eE d key h (.slice a h.pg.sl.length c)).toArray 125)::bz (.slice a h.pg.sl.length c) h.pg::F):=by
 have f:=f.made (.cells #[.int .u64 0,.int .u64 0,.int .i64 0,.slice none 0 0,.string ⟨#[]⟩,.bool false,.int .u64 0] 45);have o:=f.k1;unfold eE at o;have f:=f.made (.cells #[.int .u64 (h).id,.int .u64 (h).word,.int .i64 (h).pg.aA,(.slice a h.pg.sl.length c),.string (h).pg.hi,.bool (h).pg.la,.int .u64 (h).pg.ri] 45);rw[World.size_alloc]at f;have g:=ass f;clear f;go_enter Tryz.func19,Tryz.ntmps19
 go_upto_region 2 with(fail)
 obtain⟨j,i⟩:∃j,j=w.heap.size:=⟨_,rfl⟩;rw[←i]at g ⊢;have f:=g.out;refine dc f ?_
 clear f g i o;intro W f;have k:=(show St K _ (az (.slice a h.pg.sl.length c) 69 2 h.pg.sl.length (aF h.pg.sl)::_)from f.b3).cM (by omega)
 have l:=ass (show(aF h.pg.sl).length=h.pg.sl.length*2 by rw[fX])
 have p:Hid (a=none->h.pg.sl.length=0):=ass (fun e=>by subst e;rw[k.no];rfl)
 have H1:=ass (lh h.pg.sl);obtain⟨D,q,r,t,u⟩:=info_parts ic;have v:=ass q;have x:=ass r;have y:=ass t;have z:=ass u;clear q r t u;have m:=ass k.news;obtain⟨sl,n⟩:∃sl,sl=aF h.pg.sl:=⟨_,rfl⟩;rw[←n]at l H1 m;have E:=ass n;have G:=f.k0;have H:=f.f0;have g:=ass (f.cJ (T:=69) (size:=2));clear f k n;go_wp2_with (at_builtin;refine cK _ _ 41 69 _ 0 h.pg.sl.length c 2 24 [] sl (.agg #[.string ⟨#[]⟩,.int .u64 0]) D a g.out rfl rfl Tryz.underlying41 v.out x.out y.out z.out rfl (by decide) rfl rfl l.out p.out m.out H1.out (by omega) (by decide) ?_)
 intro N w' f;obtain⟨A,B,I,_,_⟩:=f.aJ;subst I;clear g G H l p H1 m v x y z;have f:=f.b1;have J:=f.k0;have fb:=f.f0;have f:=f.aK 3 (.slice A h.pg.sl.length B);simp only[List.set_cons_zero,List.set_cons_succ]at f;go_upto_region 3 with(fail)
 refine dc f ?_
 clear f J fb;intro O f;have k1:=f.k0;have f:=f.b2;have k0:=f.k0;have f0:=f.f0;have f:=((((((f.aK 0 (.int .u64 h.id)).aK 1 (.int .u64 h.word)).aK 2 (.int .i64 h.pg.aA)).aK 3 (.slice A h.pg.sl.length B)).aK 4 (.string h.pg.hi)).aK 5 (.bool h.pg.la)).aK 6 (.int .u64 h.pg.ri);simp only[List.set_cons_zero,List.set_cons_succ]at f;go_wp2
 rw[E.out]at f;refine bodyPost_ret (zb _ _ j _ _ _ _ _ _ _ rfl f.k0) rfl ⟨_,rfl,f.tail.tail⟩
end
end
section
structure gh where
 pc:Nat
 tk:iJ
 k:Nat
 ps:List Pt
 sp:Bool
 id:Int
 full:Bool
def acj:gh:=⟨0,⟨0,0,false⟩,0,[],false,0,false⟩
def gh.pg (s:gh)(fu:Pg):Pg:=if s.sp then ed fu s.id else fu
def gh.right (s:gh)(fu:Pg):cC:=if s.sp then⟨s.id,aT 0,cZ fu⟩else oq
def bS (d:aU)(L:List aQ)(s:gh):List aQ:=match s.pc with
 | 0=>(aG 4 d.no L s.tk).2
 | 1=>match s.ps[s.k]? with
  | some pt=>aR L pt.i pt.c
  | none=>L
 | 2=>match s.ps[s.k]? with
  | some pt=>aR L pt.i pt.c
  | none=>L
 | _=>L
def ig (d:aU)(fr:cC)(fu:Pg)(L:List aQ)(s s':gh):Prop:=match s.pc with
 | 0=>((aG 4 d.no L s.tk).1.pc<2/\s' = { s with tk:=(aG 4 d.no L s.tk).1 }) \/
   (2<=(aG 4 d.no L s.tk).1.pc/\(aG 4 d.no L s.tk).1.ok=false/\s' = { s with pc:=3,tk:=(aG 4 d.no L s.tk).1,full:=true }) \/
   (2<=(aG 4 d.no L s.tk).1.pc/\(aG 4 d.no L s.tk).1.ok=true/\s'=⟨1,(aG 4 d.no L s.tk).1,0,⟨d.node ((aG 4 d.no L s.tk).1.seen+1) 0,⟨aT 0,⟨#[]⟩,0⟩⟩::bQ d ((aG 4 d.no L s.tk).1.seen+1) (cZ fu),false,(aG 4 d.no L s.tk).1.seen+1,false⟩)
 | 1=>(s.k+1≠s.ps.length/\s' = { s with k:=s.k+1 })\/(s.k+1=s.ps.length/\∃ps',nI d fr (ed fu s.id) ps' /\ s' = { s with pc:=2,sp:=true,k:=0,ps:=ps' })
 | 2=>(s.k+1≠s.ps.length/\s' = { s with k:=s.k+1 })\/(s.k+1=s.ps.length/\s' = { s with pc:=3,k:=s.k+1 })
 | _=>s'=s
structure gh.Ok (d:aU)(fu:Pg)(s:gh):Prop where
 pc:s.pc<=2
 tk:s.pc=0->d.fa<(fu.sl.length:Int)/\s.sp=false/\s.full=false/\((s.tk.pc=0/\s.tk.ok=false)\/(s.tk.pc=1/\s.tk.ok=false/\0<=s.tk.seen/\s.tk.seen<d.no))
 nw:s.pc=1->s.k<s.ps.length/\0<=s.id/\s.id<=d.no/\s.full=false
 wr:s.pc=2->s.k<s.ps.length/\s.full=false/\(s.sp=true\/(fu.sl.length:Int)<=d.fa)
structure ze (fr:cC)(fu:Pg)(s:gh)(x:pE):Prop where
 on:x.on=true
 err:x.err=if s.full then 2 else 0
 le:x.le=if s.full then fr else⟨fr.id,dW (bH fr.word),s.pg fu⟩
 vl:∃a c,x.vl=.slice a x.le.pg.sl.length c
 ri:x.ri=s.right fu
 vr:∃a c,x.vr=.slice a x.ri.pg.sl.length c
 sep:x.sep=if s.sp then bM fu else⟨#[]⟩
def kS (d:aU)(fr:cC)(fu:Pg)(b:Nat)(s:gh)(C:List aC):Prop:=match s.pc with
 | 0=>∃(B:TkB) (af au:Option Addr) (cf cu:Nat),C=bC b (aY (some (Il B))) d (pF fr (.slice af fr.pg.sl.length cf) fu (.slice au fu.sl.length cu))::bz (.slice au fu.sl.length cu) fu::(Xw b B 4 d.no s.tk++[bz (.slice af fr.pg.sl.length cf) fr.pg])
 | 1=>∃(B:Xv) (af au:Option Addr) (cf cu:Nat),(∃a c,B.vq=.slice a (ed fu s.id).sl.length c)/\C=bC b (aY (some (sZ B))) d (pF fr (.slice af fr.pg.sl.length cf) fu (.slice au fu.sl.length cu))::bz (.slice af fr.pg.sl.length cf) fr.pg::Ny b B s.id (cZ fu) (ed fu s.id) (bM fu) s.ps s.k
 | 2=>∃(B:Ua) (x:pE) (af au:Option Addr) (cf cu:Nat),(x=if s.sp then Zk fr (.slice af fr.pg.sl.length cf) fu (.slice au fu.sl.length cu) s.id x.vr else pF fr (.slice af fr.pg.sl.length cf) fu (.slice au fu.sl.length cu))/\(∃a c,x.vr=.slice a x.ri.pg.sl.length c)/\C=bC b (aY (some (oI B))) d x::(Fl b B fr.id (dW (bH fr.word)) (s.pg fu) s.ps s.k++[bz (.slice af fr.pg.sl.length cf) fr.pg,bz x.vr x.ri.pg])
 | _=>∃x:pE,ze fr fu s x/\C=[bC b .nilFunc d x,bz x.vl x.le.pg,bz x.vr x.ri.pg]
def nM (d:aU)(fr:cC)(fu:Pg)(s:gh):Prop:=
 ((fu.sl.length:Int)<=d.fa/\s.pc=2/\s.sp=false/\s.full=false/\s.k=0/\nI d fr fu s.ps)\/(d.fa<(fu.sl.length:Int)/\s=acj)
section
variable {K:aM}{w:World}{F:List aC}{b bm bc acc:Nat}{d:aU}{fr:cC}{fu:Pg}{L:List aQ}{s:gh}{C:List aC}
theorem Di {af:Option Addr}{cf:Nat}{key:ByteArray}{ref:Int}(j:d.Ok)(g:fr.Ok d)(he:fu=aI fr.pg key ref)(i:decide (fR fr.pg.sl key<iN fr.pg.sl key)=false)(k:kY fr.pg.sl)(l:lB d fr fu)(f:St K w (bz (.slice af fr.pg.sl.length cf) fr.pg::F)) :
  Calls Tryz.prog 46 #[.agg #[.int .i64 (d).th,.int .i64 (d).sn,.int .i64 (d).no,.int .i64 (d).ch,.int .i64 (d).re,.int .i64 (d).fa,.int .u64 (d).cl],(.agg #[.int .u64 (fr).id,.int .u64 (fr).word,.int .i64 (fr).pg.aA,(.slice af fr.pg.sl.length cf),.string (fr).pg.hi,.bool (fr).pg.la,.int .u64 (fr).pg.ri]),.string key,.int .u64 ref] w fun e w' => ∃(b:Nat) (s:gh) (C:List aC),e=.returned (.pointer (some ⟨b,0,none⟩))/\nM d fr fu s/\kS d fr fu b s C/\St K w' (C++F):=by
 refine(yT j g he i k (fun h=>l.fit h) f).mono ?_
 rintro e w' ⟨b,a,c,rfl,⟨hle,B,ps,hw,f⟩|⟨hle,B,f⟩⟩
 ·have f:=(show St K w' (_::_::_::_::_::_::_::_::_::_::F)from f)
  refine⟨b,⟨2,⟨0,0,false⟩,0,ps,false,0,false⟩,_,rfl,.inl ⟨hle,rfl,rfl,rfl,rfl,hw⟩,⟨B,pF fr (.slice af fr.pg.sl.length cf) fu (.slice a fu.sl.length c),af,a,cf,c,rfl,⟨none,0,rfl⟩,rfl⟩,?_⟩;exact((f.cJ (T:=69) (size:=2)).re [3,1,4,5,6,7,8,9,10,2,0] rfl).tail
 ·have f:=(show St K w' (_::_::_::_::_::_::_::F)from f)
  refine⟨b,acj,_,rfl,.inr ⟨hle,rfl⟩,⟨B,af,a,cf,c,rfl⟩,?_⟩;exact f.re [0,2,3,4,5,6,1] rfl
theorem Oe (y:d.Ok)(hL:bL L)(O:acc<=1000000000000)(p:fr.Ok d)(z:lB d fr fu)(hok:s.Ok d fu)(Q:kS d fr fu b s C)(f:St K w (C++aL bm bc L acc::F)) :
  Calls Tryz.prog 48 #[(.pointer (some ⟨b,0,none⟩)),(.pointer (some ⟨bm,0,none⟩))] w fun e w' => ∃s' m,e=.returned (.bool (decide (3<=s'.pc)))/\ig d fr fu L s s' /\ kS d fr fu b s' m /\ St K w' (m ++ aL bm bc (bS d L s) (acc+1)::F):=by
 have jw:=y.m6;have ajN:=y.fy;have zf:=y.m7;have rD:=z.len;have q:Calls Tryz.prog 77 #[(.pointer (some ⟨b,0,none⟩)),(.pointer (some ⟨bm,0,none⟩))] w fun e w' => ∃v,e=.returned v/\∃s' m,v=.bool (decide (3<=s'.pc))/\ig d fr fu L s s' /\ kS d fr fu b s' m /\ St K w' (m ++ aL bm bc (bS d L s) (acc+1)::F):=by
  obtain⟨pc,tk,k,ps,sp,id,full⟩:=s;have R:=hok.pc;simp only at R;rcases(by omega:pc=0\/pc=1\/pc=2)with rfl|rfl|rfl
  ·obtain⟨hle,A,n,D⟩:=hok.tk rfl
   simp only at A n D;subst A n;obtain⟨B,af,g,cf,j,rfl⟩:=Q;have f:=(show St K w (bC b (aY (some (Il B))) d (pF fr (.slice af fr.pg.sl.length cf) fu (.slice g fu.sl.length j))::bz (.slice g fu.sl.length j) fu::_::_::_::_::bz (.slice af fr.pg.sl.length cf) fr.pg::aL bm bc L acc::F)from f)
   have f:St K w (bC b (aY (some (Il B))) d (pF fr (.slice af fr.pg.sl.length cf) fu (.slice g fu.sl.length j))::aL bm bc L acc::bz (.slice g fu.sl.length j) fu::(Xw b B 4 d.no tk++(bz (.slice af fr.pg.sl.length cf) fr.pg::F))):=f.re [0,7,1,2,3,4,5,6] rfl;have r7:tk.pc<2:=by rcases D with⟨h,_⟩|⟨h,_⟩ <;> omega
   have aoM:tk.ok=false:=by rcases D with⟨_,h⟩|⟨_,h,_⟩ <;> exact h
   have r:(aG 4 d.no L tk).1.ok=true->0<=(aG 4 d.no L tk).1.seen/\(aG 4 d.no L tk).1.seen<18446744073709551615:=by
    intro h;rcases D with⟨h0,l⟩|⟨h0,l,o,Y⟩
    ·obtain⟨pc,seen,ok⟩:=tk
     simp only at h0 l;subst h0 l;cases h
    ·obtain⟨pc,seen,ok⟩:=tk
     simp only at h0 l o Y;subst h0 l;unfold aG at h ⊢;simp only at h ⊢;split
     ·simp only;omega
     ·rename_i S
      rw[if_neg S]at h;cases h
   refine(Zj (x:=pF fr (.slice af fr.pg.sl.length cf) fu (.slice g fu.sl.length j)) B y (by show 0<=fu.aA/\fu.aA<_;rw[z.aA];exact p.aA) (show 2<=fu.sl.length by omega) rD z.k rfl rfl (s:=tk) r7 (fun e=>by
    rcases D with⟨h,_⟩|⟨_,_,o,Y⟩
    ·omega
    ·omega) r O f).mono ?_
   rintro e w' (⟨l,rfl,f⟩|⟨l,o,rfl,f⟩|⟨l,o,rfl,U,E,rfl,N,f⟩)
   ·have f:=(show St K w' (bC b (aY (some (Il B))) d (pF fr (.slice af fr.pg.sl.length cf) fu (.slice g fu.sl.length j))::aL bm bc (aG 4 d.no L tk).2 (acc+1)::bz (.slice g fu.sl.length j) fu::_::_::_::_::bz (.slice af fr.pg.sl.length cf) fr.pg::F)from f)
    exact⟨_,rfl,_,_,rfl,.inl ⟨l,rfl⟩,⟨B,af,g,cf,j,rfl⟩,f.re [0,2,3,4,5,6,7,1] rfl⟩
   ·have f:=(f.cJ (T:=69) (size:=2))
    have f:=(show St K w' (az (.slice none 0 0) 69 2 0 []::_::_::_::bz (.slice af fr.pg.sl.length cf) fr.pg::F)from f)
    refine⟨_,rfl,_,_,rfl,.inr (.inl ⟨l,o,rfl⟩),⟨{ pF fr (.slice af fr.pg.sl.length cf) fu (.slice g fu.sl.length j)with err:=2,le:=fr,vl:=(.slice af fr.pg.sl.length cf) },⟨rfl,rfl,rfl,⟨af,cf,rfl⟩,rfl,⟨none,0,rfl⟩,rfl⟩,rfl⟩,?_⟩;exact(f.re [3,1,4,0,2] rfl).tail
   ·have f:=(show St K w' (_::_::_::_::_::_::_::_::_::_::_::_::_::bz (.slice af fr.pg.sl.length cf) fr.pg::F)from f)
    refine⟨_,rfl,_,_,rfl,.inr (.inr ⟨l,o,rfl⟩),⟨U,af,g,cf,j,N,rfl⟩,?_⟩;exact(f.re [2,0,13,3,4,5,6,7,8,9,10,11,12,1] rfl).tail
  ·obtain⟨hk,Z,ju,n⟩:=hok.nw rfl
   simp only at hk Z ju n;subst n;obtain⟨B,af,g,cf,j,N,rfl⟩:=Q;have G:=asx hk;have f:=(show St K w (bC b (aY (some (sZ B))) d (pF fr (.slice af fr.pg.sl.length cf) fu (.slice g fu.sl.length j))::bz (.slice af fr.pg.sl.length cf) fr.pg::_::_::_::_::_::_::_::_::_::_::aL bm bc L acc::F)from f)
   have f:St K w (bC b (aY (some (sZ B))) d (pF fr (.slice af fr.pg.sl.length cf) fu (.slice g fu.sl.length j))::aL bm bc L acc::bz (.slice af fr.pg.sl.length cf) fr.pg::(Ny b B id (cZ fu) (ed fu id) (bM fu) ps k++F)):=f.re [0,12,1,2,3,4,5,6,7,8,9,10,11] rfl;have V:(cZ fu).sl.length<=1000000:=by
    show(fu.sl.drop _).length<=_
    rw[List.length_drop];omega
   have t:bS d L ⟨1,tk,k,ps,sp,id,false⟩=aR L ps[k].i ps[k].c:=by
    show(match ps[k]? with|some H=>aR L H.i H.c|none=>L)=_
    rw[G]
   rw[t];refine(Zi (x:=pF fr (.slice af fr.pg.sl.length cf) fu (.slice g fu.sl.length j)) B y p (z.left y ⟨Z,by omega⟩) (by show 0<=fu.aA/\fu.aA<_;rw[z.aA];exact p.aA) V rfl N G O f).mono ?_
   rintro e w' ⟨rfl,⟨u,f⟩|⟨he,va,U,E,hw,f⟩⟩
   ·have f:=(show St K w' (_::aL bm bc (aR L ps[k].i ps[k].c) (acc+1)::_::_::_::_::_::_::_::_::_::_::_::F)from f)
    exact⟨_,rfl,_,_,rfl,.inl ⟨u,rfl⟩,⟨B,af,g,cf,j,N,rfl⟩,f.re [0,2,3,4,5,6,7,8,9,10,11,12,1] rfl⟩
   ·have f:=(show St K w' (_::_::_::bz va (cZ fu)::_::_::_::_::_::_::_::_::F)from f)
    obtain⟨a,c,W,_,_⟩:=(show St K w' (az va 69 2 (cZ fu).sl.length (aF (cZ fu).sl)::_)from f.b3).aJ
    refine⟨_,rfl,_,_,rfl,.inr ⟨he,E,hw,rfl⟩,⟨U,Zk fr (.slice af fr.pg.sl.length cf) fu (.slice g fu.sl.length j) id va,af,g,cf,j,rfl,⟨a,c,W⟩,rfl⟩,?_⟩;exact(f.re [4,0,5,6,7,8,9,10,11,2,3,1] rfl).tail
  ·obtain⟨hk,n,I⟩:=hok.wr rfl
   simp only at hk n I;subst n;obtain⟨B,x,af,g,cf,j,J,M,rfl⟩:=Q;have G:=asx hk;have X:((⟨2,tk,k,ps,sp,id,false⟩:gh).pg fu).sl.length<=1000000:=by
    unfold gh.pg;split
    ·show(fu.sl.take _).length<=_
     rw[List.length_take];omega
    ·omega
   have f:=(show St K w (bC b (aY (some (oI B))) d x::_::_::_::_::_::_::_::bz (.slice af fr.pg.sl.length cf) fr.pg::bz x.vr x.ri.pg::aL bm bc L acc::F)from f)
   have f:St K w (bC b (aY (some (oI B))) d x::aL bm bc L acc::(Fl b B fr.id (dW (bH fr.word)) ((⟨2,tk,k,ps,sp,id,false⟩:gh).pg fu) ps k++(bz (.slice af fr.pg.sl.length cf) fr.pg::bz x.vr x.ri.pg::F))):=f.re [0,10,1,2,3,4,5,6,7,8,9] rfl;have t:bS d L ⟨2,tk,k,ps,sp,id,false⟩=aR L ps[k].i ps[k].c:=by
    show(match ps[k]? with|some H=>aR L H.i H.c|none=>L)=_
    rw[G]
   rw[t];refine(Zh B X G O f).mono ?_
   rintro e w' (⟨u,rfl,f⟩|⟨he,rfl,va,f⟩)
   ·have f:=(show St K w' (_::aL bm bc (aR L ps[k].i ps[k].c) (acc+1)::_::_::_::_::_::_::_::bz (.slice af fr.pg.sl.length cf) fr.pg::bz x.vr x.ri.pg::F)from f)
    exact⟨_,rfl,_,_,rfl,.inl ⟨u,rfl⟩,⟨B,x,af,g,cf,j,J,M,rfl⟩,f.re [0,2,3,4,5,6,7,8,9,10,1] rfl⟩
   ·obtain⟨a,c,W,_,_⟩:=(show St K w' (az va 69 2 ((⟨2,tk,k,ps,sp,id,false⟩:gh).pg fu).sl.length (aF ((⟨2,tk,k,ps,sp,id,false⟩:gh).pg fu).sl)::_)from f.b2).aJ
    refine⟨_,rfl,_,_,rfl,.inr ⟨he,rfl⟩,⟨{ x with le:=⟨fr.id,dW (bH fr.word),(⟨2,tk,k,ps,sp,id,false⟩:gh).pg fu⟩,vl:=va },⟨?_,?_,rfl,⟨a,c,W⟩,?_,M,?_⟩,rfl⟩,(f.re [3,0,2,4,1] rfl).tail⟩
    ·show x.on=true
     rw[J];split <;> rfl
    ·show x.err=0
     rw[J];split <;> rfl
    ·show x.ri=_
     rw[J];show(if sp=true then Zk fr (.slice af fr.pg.sl.length cf) fu (.slice g fu.sl.length j) id x.vr else pF fr (.slice af fr.pg.sl.length cf) fu (.slice g fu.sl.length j)).ri=(if sp then _ else _)
     split <;> rfl
    ·show x.sep=_
     rw[J];show(if sp=true then Zk fr (.slice af fr.pg.sl.length cf) fu (.slice g fu.sl.length j) id x.vr else pF fr (.slice af fr.pg.sl.length cf) fu (.slice g fu.sl.length j)).sep=(if sp then _ else _)
     split <;> rfl
 refine(Iq (P:=fun v w' => ∃s' m,v=.bool (decide (3<=s'.pc))/\ig d fr fu L s s' /\ kS d fr fu b s' m /\ St K w' (m ++ aL bm bc (bS d L s) (acc+1)::F)) q ?_).mono ?_
 ·rintro v w' ⟨s',m,rfl,_⟩
  exact⟨_,rfl⟩
 ·rintro e w' ⟨v,rfl,s',m,rfl,l,o,R⟩
  exact⟨s',m,rfl,l,o,R⟩
end
end
end Go.Proofs.YtlpdhhhgckpcfaaGreat
