/- The machine Insert. What follows a. -/
import Derived.Test.YtlpdhhhgckpcfaaGreatPageOps
import Derived.Test.YtlpdhhhgckpcfaaGreatNodeW
import Derived.Test.YtlpdhhhgckpcfaaGreatFindA
namespace Go.Proofs.YtlpdhhhgckpcfaaGreat
set_option linter.unusedSimpArgs false
set_option linter.unusedVariables false
open Go.RowKit
set_option maxHeartbeats 16000000
set_option maxRecDepth 100000
section
structure cC where
 id:Int
 word:Int
 pg:Pg
def wj (h:cC)(va:Value)(rest:List Value):List Value:= .int .u64 h.id :: .int .u64 h.word :: .int .i64 h.pg.aA::va :: .string h.pg.hi :: .bool h.pg.la :: .int .u64 h.pg.ri::rest
structure pE where
 fr:cC
 vf:Value
 fu:Pg
 vu:Value
 err:Int
 le:cC
 vl:Value
 ri:cC
 vr:Value
 sep:ByteArray
 on:Bool
def dV (nx:Value)(d:aU)(x:pE):List Value:=
 nx :: .bool x.on :: .int .i64 d.th :: .int .i64 d.sn :: .int .i64 d.no :: .int .i64 d.ch :: .int .i64 d.re :: .int .i64 d.fa :: .int .u64 d.cl ::
  wj x.fr x.vf (.int .i64 x.fu.aA::x.vu :: .string x.fu.hi :: .bool x.fu.la :: .int .u64 x.fu.ri :: .int .i64 x.err::wj x.le x.vl (wj x.ri x.vr [.string x.sep]))
def bC (b:Nat)(nx:Value)(d:aU)(x:pE):aC:=blk b (.cells (dV nx d x).toArray 151)
structure Ua where
 b2:Nat
 b3:Nat
 b5:Nat
 Fk:Nat
 jf:Nat
 bw:Nat
 bn:Nat
 g:Nat
 cap:Nat
 va:Value
def abY (B:Ua):Value:= .func (.func 133) #[] #[(.pointer (some ⟨B.Fk,0,none⟩)),(.pointer (some ⟨B.jf,0,none⟩))]
def oI (B:Ua):FV:=aB B.b2 B.b3 B.b5
def Fl (b:Nat)(B:Ua)(id word:Int)(p:Pg)(ps:List Pt)(k:Nat):List aC:=
 [bI B.b2 B.b3 B.b5 (.iface 76 (.pointer (some ⟨B.bw,0,none⟩))) (abY B),blk B.Fk (.cells #[(.pointer (some ⟨B.bw,0,none⟩))] 76),blk B.jf (.cells #[(.pointer (some ⟨b,0,none⟩))] 82),mJ B.bn id word p B.va B.g B.cap ps k,
  az (.slice (some ⟨B.g,0,none⟩) ps.length B.cap) 139 4 ps.length (cm ps),blk B.bw (.cells #[(.pointer (some ⟨B.bn,0,none⟩))] 147),bz B.va p]
def nI (d:aU)(h:cC)(p:Pg)(ps:List Pt):Prop:=
 ∃mid,lA (bQ d h.id h.pg) (bQ d h.id p) mid/\ps=⟨d.node h.id 0,⟨bH h.word,⟨#[]⟩,0⟩⟩::mid++[⟨d.node h.id 0,⟨dW (bH h.word),⟨#[]⟩,0⟩⟩]
structure cC.Ok (d:aU)(h:cC):Prop where
 id:1<=h.id/\h.id<=d.no
 word:0<=h.word/\h.word<18446744073709551616
 pg:o9 d h.pg
 aA:0<=h.pg.aA/\h.pg.aA<1000000
def aiT (d:aU)(h:cC)(p:Pg)(v:Value)(C:List aC):Prop:=
 ∃(bw bn g cap:Nat) (va:Value) (ps:List Pt),v=(.pointer (some ⟨bw,0,none⟩))/\nI d h p ps/\C=[mJ bn h.id (dW (bH h.word)) p va g cap ps 0,az (.slice (some ⟨g,0,none⟩) ps.length cap) 139 4 ps.length (cm ps),blk bw (.cells #[(.pointer (some ⟨bn,0,none⟩))] 147),bz va p]
section
variable {K:aM}{w:World}{F:List aC}{b:Nat}{nx:Value}{d:aU}{x:pE}{p:Pg}{ap af:Option Addr}{cp cf:Nat}
theorem sw (hd:d.Ok)(A:x.fr.Ok d)(hp:o9 d p)(T:0<=p.aA/\p.aA<1000000)(Y:x.vf=.slice af x.fr.pg.sl.length cf)(l:St K w (bC b nx d x::bz x.vf x.fr.pg::bz (.slice ap p.sl.length cp) p::F)) :
  Calls Tryz.prog 97 #[(.pointer (some ⟨b,0,none⟩)),(.agg #[.int .i64 (p).aA,(.slice ap p.sl.length cp),.string (p).hi,.bool (p).la,.int .u64 (p).ri])] w fun e w' => ∃(B:Ua) (ps:List Pt),e=.returned (aY (some (oI B)))/\nI d x.fr p ps /\
   St K w' (bC b nx d x::bz x.vf x.fr.pg::bz (.slice ap p.sl.length cp) p::(Fl b B x.fr.id (dW (bH x.fr.word)) p ps 0++F)):=by
 obtain⟨fr,vf,fu,vu,err,le,vl,ri,vr,sep,on⟩:=x;simp only at Y A;subst Y;have QW:=ass (fun W (R:List aC) (h:St K W (bz (.slice af fr.pg.sl.length cf) fr.pg::bz (.slice ap p.sl.length cp) p::R))=>Cv hd A.id.1 A.id.2 A.word A.pg hp A.aA T h)
 have l:=(l.made (.cells #[(.pointer (some ⟨b,0,none⟩))] 82)).made (.cells #[.int .i64 (p).aA,(.slice ap p.sl.length cp),.string (p).hi,.bool (p).la,.int .u64 (p).ri] 43);rw[World.size_alloc]at l;obtain⟨bi,J⟩:∃bi,bi=w.heap.size:=⟨_,rfl⟩;go_enter Tryz.func97,Tryz.ntmps97
 go_upto_region 1 with(fail)
 rw[←J]at l ⊢;clear J;have Hs:=ass (l.re [3,4,2,0,1] rfl);clear l;refine aX [false,false,false,false,false,false,false,false,false,true,true,true] [9,10,11] (fun|11=>[9,10] | _=>[])
  (oP K (bz (.slice af fr.pg.sl.length cf) fr.pg::bz (.slice ap p.sl.length cp) p::bC b nx d ⟨fr,.slice af fr.pg.sl.length cf,fu,vu,err,le,vl,ri,vr,sep,on⟩::blk (bi+1) (.cells #[.int .i64 (p).aA,(.slice ap p.sl.length cp),.string (p).hi,.bool (p).la,.int .u64 (p).ri] 43)::blk bi (.cells #[(.pointer (some ⟨b,0,none⟩))] 82)::F) 76 (.pointer none) 9 10 11 (aiT d fr p))
  (fun W=>∃Z R2,St K W (Z::R2::bC b nx d ⟨fr,.slice af fr.pg.sl.length cf,fu,vu,err,le,vl,ri,vr,sep,on⟩::blk (bi+1) (.cells #[.int .i64 (p).aA,(.slice ap p.sl.length cp),.string (p).hi,.bool (p).la,.int .u64 (p).ri] 43)::blk bi (.cells #[(.pointer (some ⟨b,0,none⟩))] 82)::F)) ?aS (by kernel_rfl) ?hB ?H ?ja ?h0 ?hI ?hR ?hE ?hQ
 case hB=>as_aux_lemma=>kernel_rfl
 case H=>
  rintro I ⟨Z,R2,l⟩;have k:=l.k2;unfold dV wj at k;have kp:=l.tail.k2;have ki:=l.tail.tail.k2;clear l;simp only[cG];repeat (go_big_quiet_step (fail))
  refine wpQuiet_nil ?_
  rfl
 case ja=>rfl
 case h0=>exact oP.start Hs.out
 case hI=>exact fun ρ I h=>⟨_,_,h.rest⟩
 case hR=>exact fun ρ I S h hb=>h.same hb
 case hE=>
  refine⟨?e9,?Zf,?e11,trivial⟩;case e9=>
   intro o M ρ I h u E y N z;obtain rfl:=asy M;replace z:N=aj _ ρ [] _:=z;have m:ρ 11=none:=u.none (by simp) (show 9∈[9,10]by simp) E
   obtain⟨X,l,n⟩:=h.call (by omega) (by omega) E m
   simp only[aj]at z;subst z;have O:=ass n;clear n u y E m h;go_wp2_with fail
   refine(QW.out _ _ l).mono ?_
   rintro e S ⟨bw,bn,g,cap,va,mid,ps,rfl,hm,D,P⟩;have U:=ass P;have Hm:=ass hm;have V:=ass D;clear l P hm D;go_wp2
   exact⟨rfl,_,rfl,O.out _ _ S ⟨bw,bn,g,cap,va,ps,rfl,⟨mid,Hm.out,V.out⟩,rfl⟩ U.out⟩
  case Zf=>
   intro o M ρ I h u t y N z;obtain rfl:=asy M;replace z:N=aj _ ρ [] _:=z;have m:ρ 11=none:=u.none (by simp) (show 10∈[9,10]by simp) t
   have O:=ass (h.var (by omega) (by omega) t m)
   simp only[aj]at z;subst z;clear u y t m h;go_wp2
   exact⟨rfl,_,rfl,O.out⟩
  case e11=>
   intro o M ρ I h u m y N z;obtain rfl:=asy M;replace z:N=aj _ ρ [9,10] _:=z;obtain⟨v9,E⟩:=asv.1 (y 9 (by show _∈[9,10];simp))
   obtain⟨v10,t⟩:=asv.1 (y 10 (by show _∈[9,10];simp))
   obtain⟨bv,R',rfl,⟨C,bw,bn,g,cap,va,ps,rfl,_,_⟩,l,n⟩:=h.store (by omega) (by omega) E t m
   simp only[aj,E,t,Option.getD_some,aP,Act.put,asz]at z;subst z;have k0:=l.k0;have f0:=l.f0;have gJ:Hid (St K _ (blk bv (.cells #[(.pointer (some ⟨bw,0,none⟩))] 76)::R')):=ass (l.aK 0 (.pointer (some ⟨bw,0,none⟩)));have O:=ass n;clear l n u y h E t m;go_wp2
   exact⟨rfl,undef,rfl,O.out _ gJ.out⟩
 case hQ=>
  intro ρ I h G;obtain⟨bv,v,C,E,t,⟨v11,m⟩,⟨bw,bn,g,cap,va,ps,rfl,D,rfl⟩,l⟩:=h.last G;simp only[aj,E,t,m,Option.getD_some,aP,Act.put,asz];have V:=ass D;clear h G E t m D;have kv:=l.k0;have q:=fY (T2:=76) (xv:=(.pointer (some ⟨bw,0,none⟩))) (f:=133) (tx:= #[]) (ty:= #[(.pointer (some ⟨bv,0,none⟩)),(.pointer (some ⟨bi,0,none⟩))]) l;have Q:=ass q;clear q l;go_wp2_with fail
  refine(Q.out).mono ?_
  rintro e S ⟨b2,b3,b5,rfl,l⟩;have U:=ass l;clear l kv Q;simp only[aB,aY];go_wp2
  go_ret;refine⟨⟨b2,b3,b5,bv,bi,bw,bn,g,cap,va⟩,ps,rfl,V.out,?_⟩;exact((show St K S (_::_::_::_::_::_::_::_::_::_::_::F)from U.out).re [9,8,6,7,0,1,10,2,3,4,5] rfl).tail
end
section
variable {K:aM}{w:World}{F:List aC}{b:Nat}{nx:Value}{d:aU}{x:pE}{p:Pg}{id word:Int}{B:Ua}{ps:List Pt}
theorem Ub (G:p.sl.length<=1000000)(f:St K w (bC b nx d x::(Fl b B id word p ps ps.length++F))) :
  Calls Tryz.prog 133 #[(.pointer (some ⟨B.Fk,0,none⟩)),(.pointer (some ⟨B.jf,0,none⟩))] w fun e w' => ∃va,e=.returned (aY none)/\St K w' (bC b nx d { x with le:=⟨id,word,p⟩,vl:=va }::bz va p::F):=by
 obtain⟨b2,b3,b5,Fk,jf,bw,bn,g,cap,va⟩:=B;have f:St K w (bC b nx d x::bI b2 b3 b5 _ _::blk Fk (.cells #[(.pointer (some ⟨bw,0,none⟩))] 76)::blk jf (.cells #[(.pointer (some ⟨b,0,none⟩))] 82)::mJ bn id word p va g cap ps ps.length::az (.slice (some ⟨g,0,none⟩) ps.length cap) 139 4 ps.length (cm ps)::blk bw (.cells #[(.pointer (some ⟨bn,0,none⟩))] 147)::bz va p::F):=f;have f:St K w (blk Fk (.cells #[(.pointer (some ⟨bw,0,none⟩))] 76)::blk jf (.cells #[(.pointer (some ⟨b,0,none⟩))] 82)::bC b nx d x::mJ bn id word p va g cap ps ps.length::bz va p::blk bw (.cells #[(.pointer (some ⟨bn,0,none⟩))] 147)::F):=(f.re [1,5,2,3,0,4,7,6] rfl).tail.tail;obtain⟨C,D,I,_,_⟩:=(show St K w (az va 69 2 p.sl.length (aF p.sl)::_)from f.b4).aJ
 subst I;obtain⟨fr,vf,fu,vu,err,le,vl,ri,vr,sep,on⟩:=x;have E:=ass f;clear f;go_enter Tryz.func133,Tryz.ntmps133
 go_upto_region 1 with(fail)
 refine gH [false,false,true,false,false,true] 2 5
  (fun W=>St K W (blk Fk (.cells #[(.pointer (some ⟨bw,0,none⟩))] 76)::blk jf (.cells #[(.pointer (some ⟨b,0,none⟩))] 82)::bC b nx d ⟨fr,vf,fu,vu,err,le,vl,ri,vr,sep,on⟩::mJ bn id word p (.slice C p.sl.length D) g cap ps ps.length::bz (.slice C p.sl.length D) p::blk bw (.cells #[(.pointer (some ⟨bn,0,none⟩))] 147)::F))
  (fun v W=>∃(l:Option Addr) (m:Nat),v=(.agg #[.int .u64 id,.int .u64 word,.int .i64 (p).aA,(.slice l p.sl.length m),.string (p).hi,.bool (p).la,.int .u64 (p).ri])/\St K W (blk Fk (.cells #[(.pointer (some ⟨bw,0,none⟩))] 76)::blk jf (.cells #[(.pointer (some ⟨b,0,none⟩))] 82)::bC b nx d ⟨fr,vf,fu,vu,err,le,vl,ri,vr,sep,on⟩::bz (.slice l p.sl.length m) p::F))
  (fun v u W=>∃(l:Option Addr) (m:Nat),u=undef/\v=(.agg #[.int .u64 id,.int .u64 word,.int .i64 (p).aA,(.slice l p.sl.length m),.string (p).hi,.bool (p).la,.int .u64 (p).ri])/\St K W (blk Fk (.cells #[(.pointer (some ⟨bw,0,none⟩))] 76)::blk jf (.cells #[(.pointer (some ⟨b,0,none⟩))] 82)::bC b nx d ⟨fr,vf,fu,vu,err,⟨id,word,p⟩,.slice l p.sl.length m,ri,vr,sep,on⟩::bz (.slice l p.sl.length m) p::F))
  (fun W=>∃cs,St K W (blk Fk (.cells #[(.pointer (some ⟨bw,0,none⟩))] 76)::blk jf (.cells #[(.pointer (some ⟨b,0,none⟩))] 82)::cs)) ?aS (by decide) (by kernel_rfl) ?hB ?H ?ja E.out ?hI ?hR ?Gm ?vV ?hQ
 case hB=>as_aux_lemma=>kernel_rfl
 case H=>
  rintro y ⟨cs,f⟩;have k1:=f.k0;have k2:=f.k1;clear f;simp only[cG];repeat (go_big_quiet_step (fail))
  refine wpQuiet_nil ?_
  rfl
 case ja=>rfl
 case hI=>exact⟨fun W h=>⟨_,h⟩,fun v W ⟨_,_,_,h⟩=>⟨_,h⟩,fun v u W ⟨_,_,_,_,h⟩=>⟨_,h⟩⟩
 case hR=>exact⟨fun W W' h n=>h.same n,fun v W W' ⟨a,c,e,h⟩ n=>⟨a,c,e,h.same n⟩,fun v u W W' ⟨a,c,e,e2,h⟩ n=>⟨a,c,e,e2,h.same n⟩⟩
 case Gm=>
  intro J o z ρ y f hk af t;obtain rfl:=asy z;subst t;have A:=ass hk;clear hk;go_wp2_with fail
  refine(yS G (f.re [3,4,5,0,1,2] rfl)).mono ?_
  rintro e N ⟨O,rfl,f⟩;obtain⟨l,m,rfl,_,_⟩:=f.aJ;go_wp2
  exact⟨rfl,_,rfl,A.out _ _ ⟨l,m,rfl,(f.re [1,2,3,4,5,6,0] rfl).tail.tail.tail⟩⟩
 case vV=>
  rintro J o z ρ v y ⟨l,m,rfl,f⟩ hk af t;obtain rfl:=asy z;have A:=ass hk;clear hk;simp only[aP,List.getElem?_cons_succ,List.getElem?_cons_zero,Option.bind_some,Act.put,List.setIfInBounds_toArray,List.set_cons_zero,List.set_cons_succ]at t;subst t;have f:=f.b2;have k:=f.k0;have P:=f.f0;unfold dV wj at k;have M:Hid (St K _ (bC b nx d ⟨fr,vf,fu,vu,err,⟨id,word,p⟩,.slice l p.sl.length m,ri,vr,sep,on⟩::_)):=ass (((((((f.aK 22 (.int .u64 id)).aK 23 (.int .u64 word)).aK 24 (.int .i64 p.aA)).aK 25 (.slice l p.sl.length m)).aK 26 (.string p.hi)).aK 27 (.bool p.la)).aK 28 (.int .u64 p.ri));clear f;go_wp2
  exact⟨rfl,undef,rfl,A.out _ _ ⟨l,m,rfl,rfl,M.out.u2⟩⟩
 case hQ=>
  rintro v u y ⟨l,m,rfl,rfl,f⟩;simp only[aP,List.getElem?_cons_succ,List.getElem?_cons_zero,Option.bind_some,Act.put,List.setIfInBounds_toArray,List.set_cons_zero,List.set_cons_succ];clear E;go_wp2
  go_ret;exact⟨rfl,_,f.tail.tail⟩
end
structure Xv where
 b2:Nat
 b3:Nat
 b5:Nat
 Ky:Nat
 Kz:Nat
 jf:Nat
 Nx:Nat
 bw:Nat
 bn:Nat
 g:Nat
 cap:Nat
 va:Value
 vq:Value
def abZ (B:Xv):Value:= .func (.func 136) #[] #[(.pointer (some ⟨B.Ky,0,none⟩)),(.pointer (some ⟨B.Kz,0,none⟩)),(.pointer (some ⟨B.jf,0,none⟩)),(.pointer (some ⟨B.Nx,0,none⟩))]
def sZ (B:Xv):FV:=aB B.b2 B.b3 B.b5
def Ny (b:Nat)(B:Xv)(id:Int)(p q:Pg)(sep:ByteArray)(ps:List Pt)(k:Nat):List aC:=
 [bI B.b2 B.b3 B.b5 (.iface 74 (.pointer (some ⟨B.bw,0,none⟩))) (abZ B),blk B.Ky (.cells #[(.pointer (some ⟨B.bw,0,none⟩))] 74),blk B.Kz (.cells #[.string sep] 9),blk B.jf (.cells #[(.pointer (some ⟨b,0,none⟩))] 82),blk B.Nx (.cells #[.int .i64 (q).aA,B.vq,.string (q).hi,.bool (q).la,.int .u64 (q).ri] 43),
  mJ B.bn id (aT 0) p B.va B.g B.cap ps k,az (.slice (some ⟨B.g,0,none⟩) ps.length B.cap) 139 4 ps.length (cm ps),blk B.bw (.cells #[(.pointer (some ⟨B.bn,0,none⟩))] 145),bz B.va p,bz B.vq q]
def xF (K:aM)(REST:List aC)(b:Nat)(nx:Value)(d:aU)(x:pE)(id:Int)(p:Pg)(sep:ByteArray)(ρ:Nat->Option Value)(W:World):Prop:=
 ∃(a1:Option Addr) (c1:Nat),(∀v,ρ 3=some v->v=(.agg #[.int .u64 id,.int .u64 (aT 0),.int .i64 (p).aA,(.slice a1 p.sl.length c1),.string (p).hi,.bool (p).la,.int .u64 (p).ri])) /\
  St K W (dO (ρ 3) (bz (.slice a1 p.sl.length c1) p)::bC b nx d { x with ri:=if (ρ 7).isSome then⟨id,aT 0,p⟩else x.ri,vr:=if (ρ 7).isSome then .slice a1 p.sl.length c1 else x.vr,sep:=if (ρ 10).isSome then sep else x.sep }::REST)
section
variable {K:aM}{REST:List aC}{b:Nat}{nx:Value}{d:aU}{x:pE}{id:Int}{p:Pg}{sep:ByteArray}{ρ:Nat->Option Value}{W:World}{v3:Value}
theorem xF.start (e:St K W (bC b nx d x::REST)):xF K REST b nx d x id p sep (fun _=>none) W:=⟨none,0,fun v h=>(by cases h),e.empty⟩
theorem xF.same {W':World}(h:xF K REST b nx d x id p sep ρ W)(f:Below W.heap.size W W'):xF K REST b nx d x id p sep ρ W' := by
 obtain⟨g,l,e,m⟩:=h;exact⟨g,l,e,m.same f⟩
theorem xF.rest (h:xF K REST b nx d x id p sep ρ W):St K W REST:=by
 obtain⟨g,l,e,f⟩:=h;exact f.tail.tail
theorem xF.e3 (h:xF K REST b nx d x id p sep ρ W)(u:ρ 3=none)(m:ρ 7=none):∃n,St K W (n :: REST)/\∀(f:Option Addr)(g:Nat) W',St K W' (bz (.slice f p.sl.length g) p::n :: REST)->xF K REST b nx d x id p sep (upd ρ 3 (.agg #[.int .u64 id,.int .u64 (aT 0),.int .i64 (p).aA,(.slice f p.sl.length g),.string (p).hi,.bool (p).la,.int .u64 (p).ri])) W' := by
 obtain⟨y,z,e,o⟩:=h;rw[u,m]at o;refine⟨_,o.tail,fun f g W' l => ⟨f,g,fun v t=>by rw[cE]at t;exact(asy t).symm,?_⟩⟩
 rw[cE,upd_ne (by omega),upd_ne (by omega),m]
 exact l
theorem xF.e7 (h:xF K REST b nx d x id p sep ρ W)(l:ρ 3=some v3)(t:ρ 7=none):∃(f:Option Addr)(g:Nat)(s':ByteArray)(n:List aC),v3=(.agg #[.int .u64 id,.int .u64 (aT 0),.int .i64 (p).aA,(.slice f p.sl.length g),.string (p).hi,.bool (p).la,.int .u64 (p).ri])/\St K W (bC b nx d { x with sep:=s' }::n) /\
  ∀W',St K W' (bC b nx d { x with ri:=⟨id,aT 0,p⟩,vr:= .slice f p.sl.length g,sep:=s' }::n)->xF K REST b nx d x id p sep (upd ρ 7 undef) W' := by
 obtain⟨f,g,e,o⟩:=h;rw[l,t]at o;refine⟨f,g,_,_,e v3 l,o.b1,fun W' m => ⟨f,g,fun v u=>e v (by rwa [upd_ne (by omega)]at u),?_⟩⟩
 rw[upd_ne (by omega),cE,upd_ne (by omega),l]
 exact m.b1
theorem xF.Zf (h:xF K REST b nx d x id p sep ρ W)(f:ρ 10=none):∃(l:cC)(m:Value)(n:List aC),St K W (bC b nx d { x with ri:=l,vr:=m }::n) /\
  ∀W',St K W' (bC b nx d { x with ri:=l,vr:=m,sep:=sep }::n)->xF K REST b nx d x id p sep (upd ρ 10 undef) W' := by
 obtain⟨t,u,e,o⟩:=h;rw[f]at o;refine⟨_,_,_,o.b1,fun W' g => ⟨t,u,fun v y=>e v (by rwa [upd_ne (by omega)]at y),?_⟩⟩
 rw[upd_ne (by omega),upd_ne (by omega),cE]
 exact g.b1
theorem xF.last (h:xF K REST b nx d x id p sep ρ W)(f:∀e,e∈[3,7,10]->(ρ e).isSome=true):∃(l:Option Addr)(m:Nat),(∃v,ρ 3=some v)/\(∃v,ρ 7=some v)/\(∃v,ρ 10=some v) /\
  St K W (bz (.slice l p.sl.length m) p::bC b nx d { x with ri:=⟨id,aT 0,p⟩,vr:= .slice l p.sl.length m,sep:=sep }::REST):=by
 obtain⟨v3,n⟩:=asv.1 (f 3 (by simp))
 obtain⟨v7,o⟩:=asv.1 (f 7 (by simp))
 obtain⟨v10,g⟩:=asv.1 (f 10 (by simp))
 obtain⟨l,m,e,t⟩:=h;rw[n,o,g]at t;exact⟨l,m,⟨v3,n⟩,⟨v7,o⟩,⟨v10,g⟩,t⟩
end
section
variable {K:aM}{w:World}{F:List aC}{b:Nat}{nx:Value}{d:aU}{x:pE}{p q:Pg}{id:Int}{sep:ByteArray}{B:Xv}{ps:List Pt}{af aq:Option Addr}{cf cq:Nat}
theorem Uc (hd:d.Ok)(I:x.fr.Ok d)(hq:o9 d q)(T:0<=q.aA/\q.aA<1000000)(hn:p.sl.length<=1000000)(Y:x.vf=.slice af x.fr.pg.sl.length cf)(Z:B.vq=.slice aq q.sl.length cq)(f:St K w (bC b nx d x::bz x.vf x.fr.pg::(Ny b B id p q sep ps ps.length++F))) :
  Calls Tryz.prog 136 #[(.pointer (some ⟨B.Ky,0,none⟩)),(.pointer (some ⟨B.Kz,0,none⟩)),(.pointer (some ⟨B.jf,0,none⟩)),(.pointer (some ⟨B.Nx,0,none⟩))] w fun e w' => ∃(va:Value) (P:Ua) (y:List Pt),e=.returned (aY (some (oI P)))/\nI d x.fr q y /\
   St K w' (bC b nx d { x with ri:=⟨id,aT 0,p⟩,vr:=va,sep:=sep }::bz x.vf x.fr.pg::bz va p::bz B.vq q::(Fl b P x.fr.id (dW (bH x.fr.word)) q y 0++F)):=by
 obtain⟨b2,b3,b5,Ky,Kz,jf,Nx,bw,bn,g,cap,va,vq⟩:=B;simp only at Z;subst Z;have f:St K w (bC b nx d x::bz x.vf x.fr.pg::bI b2 b3 b5 _ _::blk Ky (.cells #[(.pointer (some ⟨bw,0,none⟩))] 74)::blk Kz (.cells #[.string sep] 9)::blk jf (.cells #[(.pointer (some ⟨b,0,none⟩))] 82)::blk Nx (.cells #[.int .i64 (q).aA,(.slice aq q.sl.length cq),.string (q).hi,.bool (q).la,.int .u64 (q).ri] 43) ::
  mJ bn id (aT 0) p va g cap ps ps.length::az (.slice (some ⟨g,0,none⟩) ps.length cap) 139 4 ps.length (cm ps)::blk bw (.cells #[(.pointer (some ⟨bn,0,none⟩))] 145)::bz va p::bz (.slice aq q.sl.length cq) q::F):=f
 have f:St K w (bC b nx d x::blk Ky (.cells #[(.pointer (some ⟨bw,0,none⟩))] 74)::blk Kz (.cells #[.string sep] 9)::blk jf (.cells #[(.pointer (some ⟨b,0,none⟩))] 82)::blk Nx (.cells #[.int .i64 (q).aA,(.slice aq q.sl.length cq),.string (q).hi,.bool (q).la,.int .u64 (q).ri] 43) ::
  mJ bn id (aT 0) p va g cap ps ps.length::bz va p::blk bw (.cells #[(.pointer (some ⟨bn,0,none⟩))] 145)::bz x.vf x.fr.pg::bz (.slice aq q.sl.length cq) q::F):=(f.re [2,8,0,3,4,5,6,7,10,9,1,11] rfl).tail.tail
 obtain⟨av,cv,Qu,_,_⟩:=(show St K w (az va 69 2 p.sl.length (aF p.sl)::_)from f.b6).aJ
 subst Qu;have U:=ass I;have Hv:=ass Y;have Hs:=ass f;clear f I Y;go_enter Tryz.func136,Tryz.ntmps136
 go_upto_region 1 with(fail)
 refine aX [false,false,false,true,false,false,false,true,false,false,true] [3,7,10] (fun|7=>[3] | _=>[])
  (xF K (blk Ky (.cells #[(.pointer (some ⟨bw,0,none⟩))] 74)::blk Kz (.cells #[.string sep] 9)::blk jf (.cells #[(.pointer (some ⟨b,0,none⟩))] 82)::blk Nx (.cells #[.int .i64 (q).aA,(.slice aq q.sl.length cq),.string (q).hi,.bool (q).la,.int .u64 (q).ri] 43) ::
   mJ bn id (aT 0) p (.slice av p.sl.length cv) g cap ps ps.length::bz (.slice av p.sl.length cv) p::blk bw (.cells #[(.pointer (some ⟨bn,0,none⟩))] 145)::bz x.vf x.fr.pg::bz (.slice aq q.sl.length cq) q::F) b nx d x id p sep)
  (fun W=>∃cs,St K W (blk Ky (.cells #[(.pointer (some ⟨bw,0,none⟩))] 74)::blk Kz (.cells #[.string sep] 9)::blk jf (.cells #[(.pointer (some ⟨b,0,none⟩))] 82)::cs)) ?aS (by kernel_rfl) ?hB ?H ?ja ?h0 ?hI ?hR ?hE ?hQ
 case hB=>as_aux_lemma=>kernel_rfl
 case H=>
  rintro E ⟨cs,f⟩;have k1:=f.k0;have k2:=f.k1;have k3:=f.k2;clear f;simp only[cG];repeat (go_big_quiet_step (fail))
  refine wpQuiet_nil ?_
  rfl
 case ja=>rfl
 case h0=>exact xF.start Hs.out
 case hI=>exact fun ρ E h=>⟨_,h.rest⟩
 case hR=>exact fun ρ E R h hb=>h.same hb
 case hE=>
  refine⟨?e3,?e7,?Zf,trivial⟩;case e3=>
   intro o J ρ E h n v t M m;obtain rfl:=asy J;replace m:M=aj _ ρ [] _:=m;have z:ρ 7=none:=n.none (by simp) (show 3∈[3]by simp) v
   obtain⟨S,f,l⟩:=h.e3 v z;simp only[aj]at m;subst m;have N:=ass l;clear l n t v z h;go_wp2_with fail
   refine(qF hn (f.re [5,6,7,0,1,2,3,4] rfl)).mono ?_
   rintro e R ⟨lj,rfl,G⟩;obtain⟨A,C,rfl,_,_⟩:=G.aJ;have V:=ass (G.re [0,4,5,6,7,8,1,2,3] rfl);clear f G;go_wp2
   exact⟨rfl,_,rfl,N.out A C R V.out⟩
  case e7=>
   intro o J ρ E h n z t M m;obtain rfl:=asy J;replace m:M=aj _ ρ [3] _:=m;obtain⟨v3,v⟩:=asv.1 (t 3 (by show _∈[3];simp))
   obtain⟨A,C,s',S,rfl,f,l⟩:=h.e7 v z;simp only[aj,v,Option.getD_some,aP,Act.put,asz]at m;subst m;have k:=f.k0;have kf:=f.f0;unfold dV wj at k;have X:Hid (St K _ (bC b nx d { x with ri:=⟨id,aT 0,p⟩,vr:= .slice A p.sl.length C,sep:=s' }::S)):=ass (((((((f.aK 29 (.int .u64 id)).aK 30 (.int .u64 (aT 0))).aK 31 (.int .i64 p.aA)).aK 32 (.slice A p.sl.length C)).aK 33 (.string p.hi)).aK 34 (.bool p.la)).aK 35 (.int .u64 p.ri));have N:=ass l;clear f l n t h v z;go_wp2
   exact⟨rfl,undef,rfl,N.out _ X.out⟩
  case Zf=>
   intro o J ρ E h n u t M m;obtain rfl:=asy J;replace m:M=aj _ ρ [] _:=m;obtain⟨r',v',S,f,l⟩:=h.Zf u;simp only[aj]at m;subst m;have k:=f.k0;have kf:=f.f0;unfold dV wj at k;have X:Hid (St K _ (bC b nx d { x with ri:=r',vr:=v',sep:=sep }::S)):=ass (f.aK 36 (.string sep));have N:=ass l;clear f l n t h u;go_wp2
   exact⟨rfl,undef,rfl,N.out _ X.out⟩
 case hQ=>
  intro ρ E h D;obtain⟨A,C,⟨v3,v⟩,⟨v7,z⟩,⟨v10,u⟩,f⟩:=h.last D;simp only[aj,v,z,u,Option.getD_some,aP,Act.put,asz];clear h D v z u Hs;have ki:=f.tail.tail.tail.k1;have kl:=f.tail.tail.tail.k2;have f:St K E (bC b nx d { x with ri:=⟨id,aT 0,p⟩,vr:= .slice A p.sl.length C,sep:=sep }::bz x.vf x.fr.pg::bz (.slice aq q.sl.length cq) q::bz (.slice A p.sl.length C) p::F):=(f.re [2,3,4,5,6,7,8,1,9,10,0] rfl).tail.tail.tail.tail.tail.tail.tail;have qw:=sw (x:={ x with ri:=⟨id,aT 0,p⟩,vr:= .slice A p.sl.length C,sep:=sep }) hd U.out hq T Hv.out f;have Q:=ass qw;clear qw f;go_wp2_with fail
  refine(Q.out).mono ?_
  rintro e R ⟨P,y,rfl,O,f⟩;have yR:=ass O;have V:=ass f;clear f O ki kl Q;simp only[oI,aB,aY];go_wp2
  go_ret;exact⟨_,P,y,rfl,yR.out,(show St K R (_::_::_::_::_::_::_::_::_::_::_::F)from V.out).re [0,1,10,2,3,4,5,6,7,8,9] rfl⟩
end
def aiV (d:aU)(id:Int)(p:Pg)(v:Value)(C:List aC):Prop:=
 ∃(bw bn g cap:Nat) (va:Value) (ps:List Pt),v=(.pointer (some ⟨bw,0,none⟩))/\ps=⟨d.node id 0,⟨aT 0,⟨#[]⟩,0⟩⟩::bQ d id p/\C=[mJ bn id (aT 0) p va g cap ps 0,az (.slice (some ⟨g,0,none⟩) ps.length cap) 139 4 ps.length (cm ps),blk bw (.cells #[(.pointer (some ⟨bn,0,none⟩))] 145),bz va p]
section
variable {K:aM}{w:World}{F:List aC}{b:Nat}{nx:Value}{d:aU}{x:pE}{id:Int}{au:Option Addr}{cu:Nat}
theorem Cz (hd:d.Ok)(hid:0<=id/\id<18446744073709551616)(T:0<=x.fu.aA/\x.fu.aA<1000000)(h2:2<=x.fu.sl.length)(hle:(x.fu.sl.length:Int)<=d.fa+1)(U:∀s,s∈x.fu.sl->s.k.size<=1000000)(V:x.vu=.slice au x.fu.sl.length cu)
  (l:St K w (bC b nx d x::bz x.vu x.fu::F)) :
  Calls Tryz.prog 102 #[(.pointer (some ⟨b,0,none⟩)),.int .u64 id] w fun e w' => ∃(B:Xv) (ps:List Pt),e=.returned (aY (some (sZ B)))/\ps=⟨d.node id 0,⟨aT 0,⟨#[]⟩,0⟩⟩::bQ d id (cZ x.fu)/\(∃a c,B.vq=.slice a (ed x.fu id).sl.length c) /\
   St K w' (bC b nx d x::bz x.vu x.fu::(Ny b B id (cZ x.fu) (ed x.fu id) (bM x.fu) ps 0++F)):=by
 obtain⟨fr,vf,fu,vu,err,le,vl,ri,vr,sep,on⟩:=x;simp only at V T h2 hle U;subst V;have hf2:=hd.m7;have QS:=ass (fun W (R:List aC) (h:St K W (bz (.slice au fu.sl.length cu) fu::R))=>yF (right:=id) h2 (by omega) U h)
 have l:=l.made (.cells #[(.pointer (some ⟨b,0,none⟩))] 82);have k:=l.k1;unfold dV wj at k;have ki:=l.k0;obtain⟨bi,Y⟩:∃bi,bi=w.heap.size:=⟨_,rfl⟩;go_enter Tryz.func102,Tryz.ntmps102
 go_wp2_with fail
 rw[←Y]at l ⊢;clear Y;refine(QS.out _ _ (l.re [2,0,1] rfl)).mono ?_
 clear l k ki;rintro e Z ⟨G,I,J,M,rfl,l⟩;have hpl:0<=(cZ fu).aA/\(cZ fu).aA<1000000:=T;have hpn:((cZ fu).sl.length:Int)<=d.fa:=by
  show((fu.sl.drop (gm fu.sl.length)).length:Int)<=d.fa
  have Yr:=hd.fy;rw[List.length_drop];unfold gm;omega
 obtain⟨p,hp⟩:∃p,p=cZ fu:=⟨_,rfl⟩;obtain⟨q,hq⟩:∃q,q=ed fu id:=⟨_,rfl⟩;obtain⟨sp,O⟩:∃sp,sp=bM fu:=⟨_,rfl⟩;rw[←hp,←hq,←O];rw[←hp]at hpl hpn l;rw[←hq]at l;have Hp:=ass hp;have Hq:=ass hq;have Hsp:=ass O;clear hp hq O;have l:=((l.made (.cells #[.int .i64 (q).aA,(.slice G q.sl.length I),.string (q).hi,.bool (q).la,.int .u64 (q).ri] 43)).made (.cells #[.int .i64 (p).aA,(.slice J p.sl.length M),.string (p).hi,.bool (p).la,.int .u64 (p).ri] 43)).made (.cells #[.string sp] 9);simp only[World.size_alloc]at l;obtain⟨n,P⟩:∃n,n=Z.heap.size:=⟨_,rfl⟩;rw[show Z.heap.size+1+1=Z.heap.size+2 by omega,←P]at l
 have QN:=ass (fun W (R:List aC) (h:St K W (bz (.slice J p.sl.length M) p::R))=>sq (id:=id) hd hid hpl hpn h)
 go_upto_region 2 with(fail)
 rw[show Z.heap.size+1+1=Z.heap.size+2 by omega,←P]
 clear P;have Hs:Hid (St K _ (bz (.slice J p.sl.length M) p::bC b nx d ⟨fr,vf,fu,.slice au fu.sl.length cu,err,le,vl,ri,vr,sep,on⟩::blk bi (.cells #[(.pointer (some ⟨b,0,none⟩))] 82)::blk (n+1) (.cells #[.int .i64 (p).aA,(.slice J p.sl.length M),.string (p).hi,.bool (p).la,.int .u64 (p).ri] 43)::blk (n+2) (.cells #[.string sp] 9)::blk n (.cells #[.int .i64 (q).aA,(.slice G q.sl.length I),.string (q).hi,.bool (q).la,.int .u64 (q).ri] 43)::bz (.slice G q.sl.length I) q::bz (.slice au fu.sl.length cu) fu::F)):=ass (l.re [4,7,6,1,0,2,3,5] rfl);clear l;refine aX [false,false,false,false,false,false,true,true,true] [6,7,8] (fun|8=>[6,7] | _=>[])
  (oP K (bz (.slice J p.sl.length M) p::bC b nx d ⟨fr,vf,fu,.slice au fu.sl.length cu,err,le,vl,ri,vr,sep,on⟩::blk bi (.cells #[(.pointer (some ⟨b,0,none⟩))] 82)::blk (n+1) (.cells #[.int .i64 (p).aA,(.slice J p.sl.length M),.string (p).hi,.bool (p).la,.int .u64 (p).ri] 43)::blk (n+2) (.cells #[.string sp] 9)::blk n (.cells #[.int .i64 (q).aA,(.slice G q.sl.length I),.string (q).hi,.bool (q).la,.int .u64 (q).ri] 43)::bz (.slice G q.sl.length I) q::bz (.slice au fu.sl.length cu) fu::F) 74 (.pointer none) 6 7 8 (aiV d id p))
  (fun W=>St K W (bz (.slice J p.sl.length M) p::bC b nx d ⟨fr,vf,fu,.slice au fu.sl.length cu,err,le,vl,ri,vr,sep,on⟩::blk bi (.cells #[(.pointer (some ⟨b,0,none⟩))] 82)::blk (n+1) (.cells #[.int .i64 (p).aA,(.slice J p.sl.length M),.string (p).hi,.bool (p).la,.int .u64 (p).ri] 43)::blk (n+2) (.cells #[.string sp] 9)::blk n (.cells #[.int .i64 (q).aA,(.slice G q.sl.length I),.string (q).hi,.bool (q).la,.int .u64 (q).ri] 43)::bz (.slice G q.sl.length I) q::bz (.slice au fu.sl.length cu) fu::F)) ?aS (by kernel_rfl) ?hB ?H ?ja ?h0 ?hI ?hR ?hE ?hQ
 case hB=>as_aux_lemma=>kernel_rfl
 case H=>
  intro S l;have k:=l.k1;unfold dV wj at k;have ki:=l.k2;have kp:=l.tail.k2;clear l;simp only[cG];repeat (go_big_quiet_step (fail))
  refine wpQuiet_nil ?_
  rfl
 case ja=>rfl
 case h0=>exact oP.start Hs.out
 case hI=>exact fun ρ S h=>h.rest
 case hR=>exact fun ρ S W3 h hb=>h.same hb
 case hE=>
  refine⟨?e6,?e7,?e8,trivial⟩;case e6=>
   intro o ho ρ S h t D u eo y;obtain rfl:=asy ho;replace y:eo=aj _ ρ [] _:=y;have z:ρ 8=none:=t.none (by simp) (show 6∈[6,7]by simp) D
   obtain⟨X,l,m⟩:=h.call (by omega) (by omega) D z
   simp only[aj]at y;subst y;have Hn:=ass m;clear m t u D z h;go_wp2_with fail
   refine(QN.out _ _ l).mono ?_
   rintro e W3 ⟨bw,bn,g,cap,va,ps,rfl,A,hs'⟩;have eT:=ass hs';have yR:=ass A;clear l hs' A;go_wp2
   exact⟨rfl,_,rfl,Hn.out _ _ W3 ⟨bw,bn,g,cap,va,ps,rfl,yR.out,rfl⟩ eT.out⟩
  case e7=>
   intro o ho ρ S h t E u eo y;obtain rfl:=asy ho;replace y:eo=aj _ ρ [] _:=y;have z:ρ 8=none:=t.none (by simp) (show 7∈[6,7]by simp) E
   have Hn:=ass (h.var (by omega) (by omega) E z)
   simp only[aj]at y;subst y;clear t u E z h;go_wp2
   exact⟨rfl,_,rfl,Hn.out⟩
  case e8=>
   intro o ho ρ S h t z u eo y;obtain rfl:=asy ho;replace y:eo=aj _ ρ [6,7] _:=y;obtain⟨v6,D⟩:=asv.1 (u 6 (by show _∈[6,7];simp))
   obtain⟨v7,E⟩:=asv.1 (u 7 (by show _∈[6,7];simp))
   obtain⟨bv,R',rfl,⟨C,bw,bn,g,cap,va,ps,rfl,_,_⟩,l,m⟩:=h.store (by omega) (by omega) D E z
   simp only[aj,D,E,Option.getD_some,aP,Act.put,asz]at y;subst y;have k0:=l.k0;have f0:=l.f0;have gJ:Hid (St K _ (blk bv (.cells #[(.pointer (some ⟨bw,0,none⟩))] 74)::R')):=ass (l.aK 0 (.pointer (some ⟨bw,0,none⟩)));have Hn:=ass m;clear l m t u h D E z;go_wp2
   exact⟨rfl,undef,rfl,Hn.out _ gJ.out⟩
 case hQ=>
  intro ρ S h N;obtain⟨bv,v,C,D,E,⟨v8,z⟩,⟨bw,bn,g,cap,va,ps,rfl,A,rfl⟩,l⟩:=h.last N;simp only[aj,D,E,z,Option.getD_some,aP,Act.put,asz];have yR:=ass A;clear h N D E z A;have kv:=l.k0;have q1:=fY (T2:=74) (xv:=(.pointer (some ⟨bw,0,none⟩))) (f:=136) (tx:= #[]) (ty:= #[(.pointer (some ⟨bv,0,none⟩)),(.pointer (some ⟨(n+2),0,none⟩)),(.pointer (some ⟨bi,0,none⟩)),(.pointer (some ⟨n,0,none⟩))]) l;have Q:=ass q1;clear q1 l;go_wp2_with fail
  refine(Q.out).mono ?_
  rintro e W3 ⟨b2,b3,b5,rfl,l⟩;have eT:=ass l;clear l kv Q;simp only[aB,aY];go_wp2
  go_ret;refine⟨⟨b2,b3,b5,bv,n+2,bi,n,bw,bn,g,cap,va,.slice G q.sl.length I⟩,ps,rfl,by rw[←Hp.out];exact yR.out,⟨G,I,by rw[←Hq.out]⟩,?_⟩
  rw[←Hp.out,←Hq.out,←Hsp.out];exact((show St K W3 (_::_::_::_::_::_::_::_::_::_::_::_::_::_::F)from eT.out).re [6,9,7,13,0,1,10,8,11,2,3,4,5,12] rfl).tail.tail
end
structure TkB where
 b2:Nat
 b3:Nat
 b5:Nat
 Fm:Nat
 jf:Nat
 bt:Nat
def ab1 (B:TkB):Value:= .func (.func 100) #[] #[(.pointer (some ⟨B.Fm,0,none⟩)),(.pointer (some ⟨B.jf,0,none⟩))]
def Il (B:TkB):FV:=aB B.b2 B.b3 B.b5
def Xw (b:Nat)(B:TkB)(i lim:Int)(s:iJ):List aC:=
 [bI B.b2 B.b3 B.b5 (.iface 156 (.pointer (some ⟨B.bt,0,none⟩))) (ab1 B),blk B.Fm (.cells #[(.pointer (some ⟨B.bt,0,none⟩))] 156),blk B.jf (.cells #[(.pointer (some ⟨b,0,none⟩))] 82),gT B.bt i lim s]
def T1R (K:aM)(REST:List aC)(b:Nat)(nx:Value)(d:aU)(x:pE)(ρ:Nat->Option Value)(W:World):Prop:=
 St K W (bC b nx d { x with err:=if (ρ 8).isSome then 2 else x.err,le:=if (ρ 11).isSome then x.fr else x.le,vl:=if (ρ 11).isSome then x.vf else x.vl }::REST)
section
variable {K:aM}{w:World}{F:List aC}{b:Nat}{nx:Value}{d:aU}{x:pE}{i lim:Int}{s:iJ}{B:TkB}{af au:Option Addr}{cf cu:Nat}
theorem Ud (R:x.vf=.slice af x.fr.pg.sl.length cf)(hok:s.ok=false)(f:St K w (bC b nx d x::(Xw b B i lim s++F))) :
  Calls Tryz.prog 100 #[(.pointer (some ⟨B.Fm,0,none⟩)),(.pointer (some ⟨B.jf,0,none⟩))] w fun e w' => e=.returned (aY none)/\St K w' (bC b nx d { x with err:=2,le:=x.fr,vl:=x.vf }::F):=by
 obtain⟨b2,b3,b5,Fm,jf,bt⟩:=B;obtain⟨fr,vf,fu,vu,err,le,vl,ri,vr,sep,on⟩:=x;simp only at R;subst R;have f:St K w (bC b nx d ⟨fr,.slice af fr.pg.sl.length cf,fu,vu,err,le,vl,ri,vr,sep,on⟩::bI b2 b3 b5 _ _::blk Fm (.cells #[(.pointer (some ⟨bt,0,none⟩))] 156)::blk jf (.cells #[(.pointer (some ⟨b,0,none⟩))] 82)::gT bt i lim s::F):=f;have T:=f.k2;have q:=kO (i:=i) (lim:=lim) (s:=s) f.b4.head (fun e=>by rw[hok]at e;cases e)
 rw[hok]at q;have Q:=ass q;clear q;go_enter Tryz.func100,Tryz.ntmps100
 go_wp2_with fail
 refine(Q.out).mono ?_
 rintro e X ⟨rfl,rfl⟩;clear T Q;go_upto_region 3 with(fail)
 have S:Hid (St K _ (bC b nx d ⟨fr,.slice af fr.pg.sl.length cf,fu,vu,err,le,vl,ri,vr,sep,on⟩::blk jf (.cells #[(.pointer (some ⟨b,0,none⟩))] 82)::F)):=ass (f.re [1,2,4,0,3] rfl).tail.tail.tail;clear f;refine aX [false,false,false,false,false,false,false,false,true,false,false,true] [8,11] (fun _=>[])
  (T1R K (blk jf (.cells #[(.pointer (some ⟨b,0,none⟩))] 82)::F) b nx d ⟨fr,.slice af fr.pg.sl.length cf,fu,vu,err,le,vl,ri,vr,sep,on⟩)
  (fun W=>∃n C D,St K W (bC b nx d ⟨fr,.slice af fr.pg.sl.length cf,fu,vu,n,C,D,ri,vr,sep,on⟩::blk jf (.cells #[(.pointer (some ⟨b,0,none⟩))] 82)::F)) ?aS (by kernel_rfl) ?hB ?H ?ja ?h0 ?hI ?hR ?hE ?hQ
 case hB=>as_aux_lemma=>kernel_rfl
 case H=>
  rintro t ⟨n,C,D,f⟩;have k:=f.k0;unfold dV wj at k;have Y:=f.k1;clear f;simp only[cG];repeat (go_big_quiet_step (fail))
  refine wpQuiet_nil ?_
  rfl
 case ja=>rfl
 case h0=>exact S.out
 case hI=>exact fun ρ t h=>⟨_,_,_,h⟩
 case hR=>exact fun ρ t Z h U=>St.same h U
 case hE=>
  refine⟨?e8,?e11,trivial⟩;case e8=>
   intro o I ρ t h u E v J m;obtain rfl:=asy I;replace m:J=aj _ ρ [] _:=m;simp only[aj]at m;subst m;unfold T1R at h;rw[E]at h;obtain⟨G,y⟩:∃G:cC,G=(if (ρ 11).isSome=true then fr else le):=⟨_,rfl⟩
   obtain⟨v2,z⟩:∃v2:Value,v2=(if (ρ 11).isSome=true then .slice af fr.pg.sl.length cf else vl):=⟨_,rfl⟩
   have f:St K t (bC b nx d ⟨fr,.slice af fr.pg.sl.length cf,fu,vu,err,G,v2,ri,vr,sep,on⟩::blk jf (.cells #[(.pointer (some ⟨b,0,none⟩))] 82)::F):=by rw[y,z];exact h
   have M:=ass y;have N:=ass z;have k:=f.k0;have V:=f.f0;unfold dV wj at k;have O:Hid (St K _ (bC b nx d ⟨fr,.slice af fr.pg.sl.length cf,fu,vu,2,G,v2,ri,vr,sep,on⟩::blk jf (.cells #[(.pointer (some ⟨b,0,none⟩))] 82)::F)):=ass (f.aK 21 (.int .i64 2));clear h f u v y z;go_wp2
   refine⟨rfl,undef,rfl,?_⟩;unfold T1R;rw[cE,upd_ne (by omega)]
   have:=O.out;rw[M.out,N.out]at this;exact this
  case e11=>
   intro o I ρ t h u g v J m;obtain rfl:=asy I;replace m:J=aj _ ρ [] _:=m;simp only[aj]at m;subst m;unfold T1R at h;rw[g]at h;obtain⟨e2,A⟩:∃e2:Int,e2=(if (ρ 8).isSome=true then 2 else err):=⟨_,rfl⟩
   have f:St K t (bC b nx d ⟨fr,.slice af fr.pg.sl.length cf,fu,vu,e2,le,vl,ri,vr,sep,on⟩::blk jf (.cells #[(.pointer (some ⟨b,0,none⟩))] 82)::F):=by rw[A];exact h
   have P:=ass A;have k:=f.k0;have V:=f.f0;unfold dV wj at k;have O:Hid (St K _ (bC b nx d ⟨fr,.slice af fr.pg.sl.length cf,fu,vu,e2,fr,.slice af fr.pg.sl.length cf,ri,vr,sep,on⟩::blk jf (.cells #[(.pointer (some ⟨b,0,none⟩))] 82)::F)):=ass (((((((f.aK 22 (.int .u64 fr.id)).aK 23 (.int .u64 fr.word)).aK 24 (.int .i64 fr.pg.aA)).aK 25 (.slice af fr.pg.sl.length cf)).aK 26 (.string fr.pg.hi)).aK 27 (.bool fr.pg.la)).aK 28 (.int .u64 fr.pg.ri));clear h f u v A;go_wp2
   refine⟨rfl,undef,rfl,?_⟩;unfold T1R;rw[cE,upd_ne (by omega)]
   have:=O.out;rw[P.out]at this;exact this
 case hQ=>
  intro ρ t h l;obtain⟨v8,E⟩:=asv.1 (l 8 (by simp))
  obtain⟨v11,g⟩:=asv.1 (l 11 (by simp))
  unfold T1R at h;rw[E,g]at h;have f:St K t (bC b nx d ⟨fr,.slice af fr.pg.sl.length cf,fu,vu,2,fr,.slice af fr.pg.sl.length cf,ri,vr,sep,on⟩::blk jf (.cells #[(.pointer (some ⟨b,0,none⟩))] 82)::F):=h;simp only[aj,E,g,Option.getD_some,aP,List.getElem?_cons_succ,List.getElem?_cons_zero,Option.bind_some,Option.bind_none,Act.put];clear h l E g S;go_wp2
  go_ret;exact⟨rfl,f.b1.tail⟩
theorem Nz (A:d.Ok)(n:0<=x.fu.aA/\x.fu.aA<1000000)(C:2<=x.fu.sl.length)(hle:(x.fu.sl.length:Int)<=d.fa+1)(o:∀s,s∈x.fu.sl->s.k.size<=1000000)(t:x.vu=.slice au x.fu.sl.length cu)(hok:s.ok=true)(g:0<=s.seen/\s.seen<18446744073709551615)
  (f:St K w (bC b nx d x::bz x.vu x.fu::(Xw b B i lim s++F))) :
  Calls Tryz.prog 100 #[(.pointer (some ⟨B.Fm,0,none⟩)),(.pointer (some ⟨B.jf,0,none⟩))] w fun e w' => ∃(l:Xv) (ps:List Pt),e=.returned (aY (some (sZ l)))/\ps=⟨d.node (s.seen+1) 0,⟨aT 0,⟨#[]⟩,0⟩⟩::bQ d (s.seen+1) (cZ x.fu)/\(∃a c,l.vq=.slice a (ed x.fu (s.seen+1)).sl.length c) /\
   St K w' (bC b nx d x::bz x.vu x.fu::(Ny b l (s.seen+1) (cZ x.fu) (ed x.fu (s.seen+1)) (bM x.fu) ps 0++F)):=by
 obtain⟨b2,b3,b5,Fm,jf,bt⟩:=B;have f:St K w (bC b nx d x::bz x.vu x.fu::bI b2 b3 b5 _ _::blk Fm (.cells #[(.pointer (some ⟨bt,0,none⟩))] 156)::blk jf (.cells #[(.pointer (some ⟨b,0,none⟩))] 82)::gT bt i lim s::F):=f;have D:=f.tail.k2;have E:=f.tail.tail.k2;have q:=kO (i:=i) (lim:=lim) (s:=s) f.b5.head (fun _=>g)
 rw[hok,if_pos rfl]at q;have Q:=ass q;have v:=Cz (id:=s.seen+1) A (by omega) n C hle o t ((f.re [2,3,4,5,0,1] rfl).tail.tail.tail.tail)
 have y:=ass v;clear q v f;go_enter Tryz.func100,Tryz.ntmps100
 go_wp2_with fail
 refine(Q.out).mono ?_
 rintro e I ⟨rfl,rfl⟩;clear D Q;go_wp2_with fail
 refine(y.out).mono ?_
 rintro e J ⟨l,ps,rfl,m,z,f⟩;have G:=ass m;have u:=ass z;have H:=ass f;clear f m z E y;simp only[sZ,aB,aY];go_wp2
 go_ret;exact⟨l,ps,rfl,G.out,u.out,H.out⟩
end
end
section
def oq:cC:=⟨0,0,Ko⟩
def Oa (fr:cC)(vf:Value):pE:=⟨fr,vf,Ko,.slice none 0 0,0,oq,.slice none 0 0,oq,.slice none 0 0,⟨#[]⟩,false⟩
def jC (fr:cC)(vf:Value)(fu:Pg)(vu:Value):pE:=⟨fr,vf,fu,vu,0,oq,.slice none 0 0,oq,.slice none 0 0,⟨#[]⟩,false⟩
def sD (K:aM)(REST:List aC)(bi:Nat)(d:aU)(fr:cC)(vf:Value)(fu:Pg)(ρ:Nat->Option Value)(W:World):Prop:=
 ∃(a:Option Addr) (c:Nat),(∀v,ρ 5=some v->v=.tuple #[(.agg #[.int .i64 (fu).aA,(.slice a fu.sl.length c),.string (fu).hi,.bool (fu).la,.int .u64 (fu).ri]),.bool true])/\(∀v,ρ 6=some v->v=.tuple #[(.agg #[.int .i64 (fu).aA,(.slice a fu.sl.length c),.string (fu).hi,.bool (fu).la,.int .u64 (fu).ri]),.bool true])/\(∀v,ρ 7=some v->v=(.agg #[.int .i64 (fu).aA,(.slice a fu.sl.length c),.string (fu).hi,.bool (fu).la,.int .u64 (fu).ri]))/\(∀v,ρ 8=some v->v=.bool true) /\
  St K W (dO (ρ 5) (bz (.slice a fu.sl.length c) fu)::bC bi .nilFunc d (if (ρ 11).isSome then jC fr vf fu (.slice a fu.sl.length c)else Oa fr vf)::REST)
section
variable {K:aM}{REST:List aC}{bi:Nat}{d:aU}{fr:cC}{vf:Value}{fu:Pg}{ρ:Nat->Option Value}{W:World}{v5 v6 v7:Value}
theorem sD.start (e:St K W (bC bi .nilFunc d (Oa fr vf)::REST)):sD K REST bi d fr vf fu (fun _=>none) W:=
 ⟨none,0,fun v h=>(by cases h),fun v h=>(by cases h),fun v h=>(by cases h),fun v h=>(by cases h),e.empty⟩
theorem sD.same {W':World}(h:sD K REST bi d fr vf fu ρ W)(e:Below W.heap.size W W'):sD K REST bi d fr vf fu ρ W' := by
 obtain⟨a,c,e1,e2,e3,e4,f⟩:=h;exact⟨a,c,e1,e2,e3,e4,f.same e⟩
theorem sD.rest (h:sD K REST bi d fr vf fu ρ W):St K W REST:=by
 obtain⟨a,c,e1,e2,e3,e4,e⟩:=h;exact e.tail.tail
theorem sD.e5 (h:sD K REST bi d fr vf fu ρ W)(n:ρ 5=none)(o:ρ 6=none)(t:ρ 7=none)(f:ρ 11=none):∃l,St K W (l :: REST)/\∀(a:Option Addr)(c:Nat) W',St K W' (bz (.slice a fu.sl.length c) fu::l :: REST)->sD K REST bi d fr vf fu (upd ρ 5 (.tuple #[(.agg #[.int .i64 (fu).aA,(.slice a fu.sl.length c),.string (fu).hi,.bool (fu).la,.int .u64 (fu).ri]),.bool true])) W' := by
 obtain⟨u,y,e1,e2,e3,e4,m⟩:=h;rw[n,f]at m;refine⟨_,m.tail,fun a c W' g => ⟨a,c,fun v e=>by rw[cE]at e;exact(asy e).symm,fun v e=>?_,fun v e=>?_,fun v e=>e4 v (by rwa [upd_ne (by omega)]at e),?_⟩⟩
 ·rw[upd_ne (by omega),o]at e;cases e
 ·rw[upd_ne (by omega),t]at e;cases e
 ·rw[cE,upd_ne (by omega),f];exact g
theorem sD.e6 (h:sD K REST bi d fr vf fu ρ W)(f:ρ 5=some v5):∃a c,v5=.tuple #[(.agg #[.int .i64 (fu).aA,(.slice a fu.sl.length c),.string (fu).hi,.bool (fu).la,.int .u64 (fu).ri]),.bool true]/\sD K REST bi d fr vf fu (upd ρ 6 v5) W:=by
 obtain⟨a,c,e1,e2,e3,e4,g⟩:=h;obtain rfl:=e1 v5 f;refine⟨a,c,rfl,a,c,fun v e=>e1 v (by rwa [upd_ne (by omega)]at e),fun v e=>by rw[cE]at e;exact(asy e).symm,fun v e=>e3 v (by rwa [upd_ne (by omega)]at e),fun v e=>e4 v (by rwa [upd_ne (by omega)]at e),?_⟩
 rw[upd_ne (by omega),upd_ne (by omega)];exact g
theorem sD.e7 (h:sD K REST bi d fr vf fu ρ W)(f:ρ 6=some v6):∃a c,v6=.tuple #[(.agg #[.int .i64 (fu).aA,(.slice a fu.sl.length c),.string (fu).hi,.bool (fu).la,.int .u64 (fu).ri]),.bool true]/\sD K REST bi d fr vf fu (upd ρ 7 (.agg #[.int .i64 (fu).aA,(.slice a fu.sl.length c),.string (fu).hi,.bool (fu).la,.int .u64 (fu).ri])) W:=by
 obtain⟨a,c,e1,e2,e3,e4,g⟩:=h;obtain rfl:=e2 v6 f;refine⟨a,c,rfl,a,c,fun v e=>e1 v (by rwa [upd_ne (by omega)]at e),fun v e=>e2 v (by rwa [upd_ne (by omega)]at e),fun v e=>by rw[cE]at e;exact(asy e).symm,fun v e=>e4 v (by rwa [upd_ne (by omega)]at e),?_⟩
 rw[upd_ne (by omega),upd_ne (by omega)];exact g
theorem sD.e8 (h:sD K REST bi d fr vf fu ρ W)(f:ρ 6=some v6):∃a c,v6=.tuple #[(.agg #[.int .i64 (fu).aA,(.slice a fu.sl.length c),.string (fu).hi,.bool (fu).la,.int .u64 (fu).ri]),.bool true]/\sD K REST bi d fr vf fu (upd ρ 8 (.bool true)) W:=by
 obtain⟨a,c,e1,e2,e3,e4,g⟩:=h;obtain rfl:=e2 v6 f;refine⟨a,c,rfl,a,c,fun v e=>e1 v (by rwa [upd_ne (by omega)]at e),fun v e=>e2 v (by rwa [upd_ne (by omega)]at e),fun v e=>e3 v (by rwa [upd_ne (by omega)]at e),fun v e=>by rw[cE]at e;exact(asy e).symm,?_⟩
 rw[upd_ne (by omega),upd_ne (by omega)];exact g
theorem sD.e11 (h:sD K REST bi d fr vf fu ρ W)(n:ρ 7=some v7)(f:ρ 11=none):∃(a:Option Addr)(c:Nat)(l:List aC),v7=(.agg #[.int .i64 (fu).aA,(.slice a fu.sl.length c),.string (fu).hi,.bool (fu).la,.int .u64 (fu).ri])/\St K W (bC bi .nilFunc d (Oa fr vf)::l) /\
  ∀W',St K W' (bC bi .nilFunc d (jC fr vf fu (.slice a fu.sl.length c))::l)->sD K REST bi d fr vf fu (upd ρ 11 undef) W' := by
 obtain⟨a,c,e1,e2,e3,e4,m⟩:=h;rw[f]at m;refine⟨a,c,_,e3 v7 n,m.b1,fun W' g => ⟨a,c,fun v e=>e1 v (by rwa [upd_ne (by omega)]at e),fun v e=>e2 v (by rwa [upd_ne (by omega)]at e),fun v e=>e3 v (by rwa [upd_ne (by omega)]at e),fun v e=>e4 v (by rwa [upd_ne (by omega)]at e),?_⟩⟩
 rw[upd_ne (by omega),cE];exact g.b1
theorem sD.last (h:sD K REST bi d fr vf fu ρ W)(f:∀e,e∈[5,6,7,8,11]->(ρ e).isSome=true):∃(a:Option Addr)(c:Nat),ρ 5=some (.tuple #[(.agg #[.int .i64 (fu).aA,(.slice a fu.sl.length c),.string (fu).hi,.bool (fu).la,.int .u64 (fu).ri]),.bool true])/\ρ 6=some (.tuple #[(.agg #[.int .i64 (fu).aA,(.slice a fu.sl.length c),.string (fu).hi,.bool (fu).la,.int .u64 (fu).ri]),.bool true])/\ρ 7=some (.agg #[.int .i64 (fu).aA,(.slice a fu.sl.length c),.string (fu).hi,.bool (fu).la,.int .u64 (fu).ri])/\ρ 8=some (.bool true)/\(∃v,ρ 11=some v) /\
  St K W (bz (.slice a fu.sl.length c) fu::bC bi .nilFunc d (jC fr vf fu (.slice a fu.sl.length c))::REST):=by
 obtain⟨v5,l⟩:=asv.1 (f 5 (by simp))
 obtain⟨v6,m⟩:=asv.1 (f 6 (by simp))
 obtain⟨v7,n⟩:=asv.1 (f 7 (by simp))
 obtain⟨v8,o⟩:=asv.1 (f 8 (by simp))
 obtain⟨v11,g⟩:=asv.1 (f 11 (by simp))
 obtain⟨a,c,e1,e2,e3,e4,t⟩:=h;rw[l,g]at t;exact⟨a,c,by rw[l,e1 v5 l],by rw[m,e2 v6 m],by rw[n,e3 v7 n],by rw[o,e4 v8 o],⟨v11,g⟩,t⟩
end
def xG (K:aM)(REST:List aC)(bi:Nat)(d:aU)(x:pE)(e1 e2 e3:Nat)(Φ:FV->List aC->Prop)(ρ:Nat->Option Value)(W:World):Prop:=
 ∃(fv:FV) (C:List aC),(∀v,ρ e1=some v->v=aY (some fv)/\Φ fv C)/\(∀v,ρ e2=some v->v=.agg #[aY (some fv),.bool true]) /\
  St K W ((if (ρ e1).isSome then C else [])++(bC bi (if (ρ e3).isSome then aY (some fv)else .nilFunc) d { x with on:=(ρ e3).isSome }::REST))
section
variable {K:aM}{REST:List aC}{bi:Nat}{d:aU}{x:pE}{e1 e2 e3:Nat}{Φ:FV->List aC->Prop}{ρ:Nat->Option Value}{W:World}{v1 v2:Value}
theorem xG.start (e:St K W (bC bi .nilFunc d { x with on:=false }::REST)):xG K REST bi d x e1 e2 e3 Φ (fun _=>none) W:=
 ⟨⟨0, #[], #[]⟩,[],fun v h=>(by cases h),fun v h=>(by cases h),e⟩
theorem xG.same {W':World}(h:xG K REST bi d x e1 e2 e3 Φ ρ W)(e:Below W.heap.size W W'):xG K REST bi d x e1 e2 e3 Φ ρ W' := by
 obtain⟨fv,C,f,g,l⟩:=h;exact⟨fv,C,f,g,l.same e⟩
theorem xG.call (h:xG K REST bi d x e1 e2 e3 Φ ρ W)(n:e1≠e3)(o:e1≠e2)(t:ρ e1=none)(u:ρ e2=none)(l:ρ e3=none):St K W (bC bi .nilFunc d { x with on:=false }::REST) /\
  ∀fv C W',Φ fv C->St K W' (C++(bC bi .nilFunc d { x with on:=false }::REST))->xG K REST bi d x e1 e2 e3 Φ (upd ρ e1 (aY (some fv))) W' := by
 obtain⟨y,z,A,D,m⟩:=h;rw[t,l]at m;refine⟨m,fun fv C W' f g => ⟨fv,C,fun v e=>?_,fun v e=>?_,?_⟩⟩
 ·rw[cE]at e
  exact⟨(asy e).symm,f⟩
 ·rw[upd_ne (Ne.symm o),u]at e;cases e
 ·rw[cE,upd_ne (Ne.symm n),l];exact g
theorem xG.begin (h:xG K REST bi d x e1 e2 e3 Φ ρ W)(g:e1≠e2)(f:e2≠e3)(m:ρ e1=some v1):∃fv,v1=aY (some fv)/\∀W',Below W.heap.size W W' -> xG K REST bi d x e1 e2 e3 Φ (upd ρ e2 (.agg #[aY (some fv),.bool true])) W' := by
 obtain⟨fv,C,l,t,n⟩:=h;refine⟨fv,(l v1 m).1,fun W' o=>⟨fv,C,fun v e=>l v (by rwa [upd_ne g]at e),fun v e=>by rw[cE]at e;exact(asy e).symm,?_⟩⟩
 rw[upd_ne g,upd_ne (Ne.symm f)];exact n.same o
theorem xG.store (h:xG K REST bi d x e1 e2 e3 Φ ρ W)(l:e1≠e3)(e:e2≠e3)(t:ρ e2=some v2)(u:ρ e3=none):∃(fv:FV)(m:List aC),v2=.agg #[aY (some fv),.bool true]/\St K W (bC bi .nilFunc d { x with on:=false }::m) /\
  ∀W',St K W' (bC bi (aY (some fv)) d { x with on:=true }::m)->xG K REST bi d x e1 e2 e3 Φ (upd ρ e3 undef) W' := by
 obtain⟨fv,C,y,n,o⟩:=h;rw[u]at o;refine⟨fv,(if (ρ e1).isSome then C else [])++REST,n v2 t,o.perm List.perm_middle,fun W' f => ⟨fv,C,fun v g=>y v (by rwa [upd_ne l]at g),fun v g=>n v (by rwa [upd_ne e]at g),?_⟩⟩
 rw[upd_ne l,cE];exact f.perm (List.perm_middle.symm)
theorem xG.last (h:xG K REST bi d x e1 e2 e3 Φ ρ W)(f:∀e,e∈[e1,e2,e3]->(ρ e).isSome=true):∃(fv:FV)(C:List aC),ρ e1=some (aY (some fv))/\ρ e2=some (.agg #[aY (some fv),.bool true])/\(∃v,ρ e3=some v)/\Φ fv C/\St K W (C++(bC bi (aY (some fv)) d { x with on:=true }::REST)):=by
 obtain⟨v1,g⟩:=asv.1 (f e1 (by simp))
 obtain⟨v2,l⟩:=asv.1 (f e2 (by simp))
 obtain⟨v3,m⟩:=asv.1 (f e3 (by simp))
 obtain⟨fv,C,n,t,o⟩:=h;rw[g,m]at o;exact⟨fv,C,by rw[g,(n v1 g).1],by rw[l,t v2 l],⟨v3,m⟩,(n v1 g).2,o⟩
end
def aiX (b:Nat)(d:aU)(h:cC)(p:Pg)(fv:FV)(C:List aC):Prop:=
 ∃(B:Ua) (ps:List Pt),fv=oI B/\nI d h p ps/\C=Fl b B h.id (dW (bH h.word)) p ps 0
def aiY (Fm jf bt:Nat)(fv:FV)(C:List aC):Prop:=
 ∃(b2 b3 b5:Nat),fv=aB b2 b3 b5/\C=[bI b2 b3 b5 (.iface 156 (.pointer (some ⟨bt,0,none⟩))) (.func (.func 100) #[] #[(.pointer (some ⟨Fm,0,none⟩)),(.pointer (some ⟨jf,0,none⟩))])]
def aiZ (lim:Int)(v:Value)(C:List aC):Prop:=∃bt:Nat,v=(.pointer (some ⟨bt,0,none⟩))/\C=[gT bt 4 lim ⟨0,0,false⟩]
theorem uP (d:aU)(w:World):(Instr.field 26 (.agg #[.int .i64 (d).th,.int .i64 (d).sn,.int .i64 (d).no,.int .i64 (d).ch,.int .i64 (d).re,.int .i64 (d).fa,.int .u64 (d).cl]) 2).run Tryz.prog w=.ok (.int .i64 d.no) w:=by kernel_rfl
section
variable {K:aM}{w:World}{F:List aC}{d:aU}{fr:cC}{af:Option Addr}{cf:Nat}{key:ByteArray}{r:Int}{fu:Pg}
theorem yT (hd:d.Ok)(hfr:fr.Ok d)(jS:fu=aI fr.pg key r)(hno:decide (fR fr.pg.sl key<iN fr.pg.sl key)=false)(dL:kY fr.pg.sl)(lN:(fu.sl.length:Int)<=d.fa->o9 d fu)(l:St K w (bz (.slice af fr.pg.sl.length cf) fr.pg::F)) :
  Calls Tryz.prog 46 #[.agg #[.int .i64 d.th,.int .i64 d.sn,.int .i64 d.no,.int .i64 d.ch,.int .i64 d.re,.int .i64 d.fa,.int .u64 d.cl],(.agg #[.int .u64 (fr).id,.int .u64 (fr).word,.int .i64 (fr).pg.aA,(.slice af fr.pg.sl.length cf),.string (fr).pg.hi,.bool (fr).pg.la,.int .u64 (fr).pg.ri]),.string key,.int .u64 r] w fun e w' => ∃(b:Nat) (a:Option Addr) (c:Nat),e=.returned (.pointer (some ⟨b,0,none⟩)) /\
   (((fu.sl.length:Int)<=d.fa/\∃(B:Ua) (ps:List Pt),nI d fr fu ps/\St K w' (bC b (aY (some (oI B))) d { jC fr (.slice af fr.pg.sl.length cf) fu (.slice a fu.sl.length c)with on:=true }::bz (.slice af fr.pg.sl.length cf) fr.pg::bz (.slice a fu.sl.length c) fu::(Fl b B fr.id (dW (bH fr.word)) fu ps 0++F))) \/
   (d.fa<(fu.sl.length:Int)/\∃B:TkB,St K w' (bC b (aY (some (Il B))) d { jC fr (.slice af fr.pg.sl.length cf) fu (.slice a fu.sl.length c)with on:=true }::bz (.slice af fr.pg.sl.length cf) fr.pg::bz (.slice a fu.sl.length c) fu::(Xw b B 4 d.no ⟨0,0,false⟩++F)))):=by
 have hf2:=hd.m7;have yE:fr.pg.sl.length<=100:=by have:=hfr.pg.le;omega
 have QI:=ass (fun W (R:List aC) (h:St K W (bz (.slice af fr.pg.sl.length cf) fr.pg::R))=>vZ (key:=key) (r:=r) hno dL yE h)
 rw[←jS]at QI;have cj:fu.aA=fr.pg.aA:=by rw[jS];rfl
 have l:=(((l.made (.cells #[.int .i64 (d).th,.int .i64 (d).sn,.int .i64 (d).no,.int .i64 (d).ch,.int .i64 (d).re,.int .i64 (d).fa,.int .u64 (d).cl] 29)).made (.cells #[.int .u64 (fr).id,.int .u64 (fr).word,.int .i64 (fr).pg.aA,(.slice af fr.pg.sl.length cf),.string (fr).pg.hi,.bool (fr).pg.la,.int .u64 (fr).pg.ri] 45)).made (.cells (dV .nilFunc d (Oa fr (.slice af fr.pg.sl.length cf))).toArray 151)).made (.cells #[(.pointer (some ⟨(w.heap.size+2),0,none⟩))] 82);simp only[World.size_alloc]at l;obtain⟨m,hbl⟩:∃m,m=w.heap.size:=⟨_,rfl⟩;rw[show w.heap.size+1+1+1=w.heap.size+3 by omega,show w.heap.size+1+1=w.heap.size+2 by omega,←hbl]at l
 have uQ:=ass cj;have Hpg:=ass lN;clear hno dL jS cj lN;go_enter Tryz.func46,Tryz.ntmps46
 go_upto_region 2 with(fail)
 rw[show w.heap.size+1+1+1=w.heap.size+3 by omega,show w.heap.size+1+1=w.heap.size+2 by omega,←hbl]
 clear hbl;have T:Hid (St K _ (bC (m+2) .nilFunc d (Oa fr (.slice af fr.pg.sl.length cf))::bz (.slice af fr.pg.sl.length cf) fr.pg::blk (m+3) (.cells #[(.pointer (some ⟨(m+2),0,none⟩))] 82)::blk (m+1) (.cells #[.int .u64 (fr).id,.int .u64 (fr).word,.int .i64 (fr).pg.aA,(.slice af fr.pg.sl.length cf),.string (fr).pg.hi,.bool (fr).pg.la,.int .u64 (fr).pg.ri] 45)::blk m (.cells #[.int .i64 (d).th,.int .i64 (d).sn,.int .i64 (d).no,.int .i64 (d).ch,.int .i64 (d).re,.int .i64 (d).fa,.int .u64 (d).cl] 29)::F)):=ass (l.re [1,4,0,2,3] rfl);clear l;refine aX [false,false,false,false,false,true,true,true,true,false,false,true] [5,6,7,8,11] (fun|6=>[5] | 7=>[6] | 8=>[6] | 11=>[7] | _=>[])
  (sD K (bz (.slice af fr.pg.sl.length cf) fr.pg::blk (m+3) (.cells #[(.pointer (some ⟨(m+2),0,none⟩))] 82)::blk (m+1) (.cells #[.int .u64 (fr).id,.int .u64 (fr).word,.int .i64 (fr).pg.aA,(.slice af fr.pg.sl.length cf),.string (fr).pg.hi,.bool (fr).pg.la,.int .u64 (fr).pg.ri] 45)::blk m (.cells #[.int .i64 (d).th,.int .i64 (d).sn,.int .i64 (d).no,.int .i64 (d).ch,.int .i64 (d).re,.int .i64 (d).fa,.int .u64 (d).cl] 29)::F) (m+2) d fr (.slice af fr.pg.sl.length cf) fu)
  (fun W=>St K W (bz (.slice af fr.pg.sl.length cf) fr.pg::blk (m+3) (.cells #[(.pointer (some ⟨(m+2),0,none⟩))] 82)::blk (m+1) (.cells #[.int .u64 (fr).id,.int .u64 (fr).word,.int .i64 (fr).pg.aA,(.slice af fr.pg.sl.length cf),.string (fr).pg.hi,.bool (fr).pg.la,.int .u64 (fr).pg.ri] 45)::blk m (.cells #[.int .i64 (d).th,.int .i64 (d).sn,.int .i64 (d).no,.int .i64 (d).ch,.int .i64 (d).re,.int .i64 (d).fa,.int .u64 (d).cl] 29)::F)) ?aS (by kernel_rfl) ?hB ?H ?ja ?h0 ?hI ?hR ?hE ?hQ
 case hB=>as_aux_lemma=>kernel_rfl
 case H=>
  intro A l;have ki:=l.k1;have kh:=l.k2;clear l;simp only[cG];repeat (go_big_quiet_step (fail))
  refine wpQuiet_nil ?_
  rfl
 case ja=>rfl
 case h0=>exact sD.start T.out
 case hI=>exact fun ρ A h=>h.rest
 case hR=>exact fun ρ A O h S=>h.same S
 case hE=>
  refine⟨?e5,?e6,?e7,?e8,?e11,trivial⟩;case e5=>
   intro o G ρ A h t Z n I u;obtain rfl:=asy G;replace u:I=aj _ ρ [] _:=u;have J:ρ 6=none:=t.none (by simp) (show 5∈[5]by simp) Z
   have M:ρ 7=none:=t.none (by simp) (show 6∈[6]by simp) J
   have P:ρ 11=none:=t.none (by simp) (show 7∈[7]by simp) M
   obtain⟨R',l,g⟩:=h.e5 Z J M P;simp only[aj]at u;subst u;have N:=ass g;clear g t n Z J M P h;go_wp2_with fail
   refine(QI.out _ _ l.b1).mono ?_
   rintro e O ⟨a',c',rfl,U⟩;have V:=ass (U.re [0,2,1] rfl);clear l U;go_wp2
   exact⟨rfl,_,rfl,N.out a' c' O V.out⟩
  case e6=>
   intro o G ρ A h t J n I u;obtain rfl:=asy G;replace u:I=aj _ ρ [5] _:=u;obtain⟨v5,Z⟩:=asv.1 (n 5 (by show _∈[5];simp))
   obtain⟨a',c',rfl,hk⟩:=h.e6 Z;simp only[aj,Z,Option.getD_some,aP,Act.put,asz]at u;subst u;have Hk:=ass hk;clear hk t n Z J h;go_wp2
   exact⟨rfl,_,rfl,Hk.out⟩
  case e7=>
   intro o G ρ A h t M n I u;obtain rfl:=asy G;replace u:I=aj _ ρ [6] _:=u;obtain⟨v6,J⟩:=asv.1 (n 6 (by show _∈[6];simp))
   obtain⟨a',c',rfl,hk⟩:=h.e7 J;simp only[aj,J,Option.getD_some,aP,Act.put,asz]at u;subst u;have Hk:=ass hk;clear hk t n J M h;go_wp2
   exact⟨rfl,_,rfl,Hk.out⟩
  case e8=>
   intro o G ρ A h t Q n I u;obtain rfl:=asy G;replace u:I=aj _ ρ [6] _:=u;obtain⟨v6,J⟩:=asv.1 (n 6 (by show _∈[6];simp))
   obtain⟨a',c',rfl,hk⟩:=h.e8 J;simp only[aj,J,Option.getD_some,aP,Act.put,asz]at u;subst u;have Hk:=ass hk;clear hk t n J Q h;go_wp2
   exact⟨rfl,_,rfl,Hk.out⟩
  case e11=>
   intro o G ρ A h t P n I u;obtain rfl:=asy G;replace u:I=aj _ ρ [7] _:=u;obtain⟨v7,M⟩:=asv.1 (n 7 (by show _∈[7];simp))
   obtain⟨a',c',R',rfl,l,g⟩:=h.e11 M P;simp only[aj,M,Option.getD_some,aP,Act.put,asz]at u;subst u;have k:=l.k0;have kf:=l.f0;unfold dV wj Oa at k;have gJ:Hid (St K _ (bC (m+2) .nilFunc d (jC fr (.slice af fr.pg.sl.length cf) fu (.slice a' fu.sl.length c'))::R')):=ass (((((l.aK 16 (.int .i64 fu.aA)).aK 17 (.slice a' fu.sl.length c')).aK 18 (.string fu.hi)).aK 19 (.bool fu.la)).aK 20 (.int .u64 fu.ri));have N:=ass g;clear l g t n h M P;go_wp2
   exact⟨rfl,undef,rfl,N.out _ gJ.out⟩
 case hQ=>
 intro ρ A h D;obtain⟨a,c,Z,J,M,Q,⟨v11,P⟩,l⟩:=h.last D;simp only[aj,Z,J,M,Q,P,Option.getD_some,aP,Act.put,asz];clear h D Z J M Q P T;have l:St K A (bC (m+2) .nilFunc d { jC fr (.slice af fr.pg.sl.length cf) fu (.slice a fu.sl.length c)with on:=false }::bz (.slice af fr.pg.sl.length cf) fr.pg::bz (.slice a fu.sl.length c) fu::blk (m+3) (.cells #[(.pointer (some ⟨(m+2),0,none⟩))] 82)::blk (m+1) (.cells #[.int .u64 (fr).id,.int .u64 (fr).word,.int .i64 (fr).pg.aA,(.slice af fr.pg.sl.length cf),.string (fr).pg.hi,.bool (fr).pg.la,.int .u64 (fr).pg.ri] 45)::blk m (.cells #[.int .i64 (d).th,.int .i64 (d).sn,.int .i64 (d).no,.int .i64 (d).ch,.int .i64 (d).re,.int .i64 (d).fa,.int .u64 (d).cl] 29)::F):=l.re [1,2,0,3,4,5] rfl;go_upto_region 3 with(fail)
 go_cut [35] (fun v wx=>v=.bool (decide ((fu.sl.length:Int)<=d.fa))/\St K wx (bC (m+2) .nilFunc d { jC fr (.slice af fr.pg.sl.length cf) fu (.slice a fu.sl.length c)with on:=false }::bz (.slice af fr.pg.sl.length cf) fr.pg::bz (.slice a fu.sl.length c) fu::blk (m+3) (.cells #[(.pointer (some ⟨(m+2),0,none⟩))] 82)::blk (m+1) (.cells #[.int .u64 (fr).id,.int .u64 (fr).word,.int .i64 (fr).pg.aA,(.slice af fr.pg.sl.length cf),.string (fr).pg.hi,.bool (fr).pg.la,.int .u64 (fr).pg.ri] 45)::blk m (.cells #[.int .i64 (d).th,.int .i64 (d).sn,.int .i64 (d).no,.int .i64 (d).ch,.int .i64 (d).re,.int .i64 (d).fa,.int .u64 (d).cl] 29)::F))
 case first=>
  as_aux_lemma=>
  have k:=l.k0;unfold dV wj jC at k;have ki:=l.tail.k2;have kl:=l.tail.tail.tail.k2;have Qg:=ass (fun w=>lU d w)
  refine bK (by kernel_rfl) (by as_aux_lemma=>kernel_rfl) ?_
  repeat (go_big_quiet_step ((go_at_call 96;exact aZ ((Qg.out _).mono (by rintro e w' ⟨rfl,S⟩;exact⟨rfl,S⟩)))))
  refine wpQuiet_nil ?_
  intro w3 hb3;have l:=l.same hb3;clear k ki kl hb3;go_wp2
  go_meet;exact⟨rfl,l⟩
 case rest=>
 clear l;obtain⟨rfl,l⟩:=hcut;by_cases hle:(fu.sl.length:Int)<=d.fa
 ·rw[decide_eq_true hle]
  go_upto_region 4 with(fail)
  have T:=ass l;clear l;refine aX [false,false,false,false,false,false,true,true,false,false,true] [6,7,10] (fun|7=>[6] | 10=>[7] | _=>[])
   (xG K (bz (.slice af fr.pg.sl.length cf) fr.pg::bz (.slice a fu.sl.length c) fu::blk (m+3) (.cells #[(.pointer (some ⟨(m+2),0,none⟩))] 82)::blk (m+1) (.cells #[.int .u64 (fr).id,.int .u64 (fr).word,.int .i64 (fr).pg.aA,(.slice af fr.pg.sl.length cf),.string (fr).pg.hi,.bool (fr).pg.la,.int .u64 (fr).pg.ri] 45)::blk m (.cells #[.int .i64 (d).th,.int .i64 (d).sn,.int .i64 (d).no,.int .i64 (d).ch,.int .i64 (d).re,.int .i64 (d).fa,.int .u64 (d).cl] 29)::F) (m+2) d (jC fr (.slice af fr.pg.sl.length cf) fu (.slice a fu.sl.length c)) 6 7 10 (aiX (m+2) d fr fu))
   (fun W=>∃nx on,St K W (bC (m+2) nx d { jC fr (.slice af fr.pg.sl.length cf) fu (.slice a fu.sl.length c)with on:=on }::bz (.slice af fr.pg.sl.length cf) fr.pg::bz (.slice a fu.sl.length c) fu::blk (m+3) (.cells #[(.pointer (some ⟨(m+2),0,none⟩))] 82)::blk (m+1) (.cells #[.int .u64 (fr).id,.int .u64 (fr).word,.int .i64 (fr).pg.aA,(.slice af fr.pg.sl.length cf),.string (fr).pg.hi,.bool (fr).pg.la,.int .u64 (fr).pg.ri] 45)::blk m (.cells #[.int .i64 (d).th,.int .i64 (d).sn,.int .i64 (d).no,.int .i64 (d).ch,.int .i64 (d).re,.int .i64 (d).fa,.int .u64 (d).cl] 29)::F)) ?aoB (by kernel_rfl) ?ai0 ?HA4 ?aeW ?ai1 ?ai2 ?ai3 ?ai4 ?ai5
  case ai0=>as_aux_lemma=>kernel_rfl
  case HA4=>
   rintro A ⟨nx,on,l⟩;have k:=l.k0;unfold dV wj jC at k;have ki:=l.tail.k2;clear l;simp only[cG];repeat (go_big_quiet_step (fail))
   refine wpQuiet_nil ?_
   rfl
  case aeW=>rfl
  case ai1=>exact xG.start T.out
  case ai2=>exact fun ρ A ⟨fv,C,_,_,h⟩=>⟨_,_,h.right⟩
  case ai3=>exact fun ρ A O h S=>h.same S
  case ai4=>
   refine⟨?ai6,?ai7,?ai8,trivial⟩;case ai6=>
    intro o G ρ A h t z n I u;obtain rfl:=asy G;replace u:I=aj _ ρ [] _:=u;have y : ρ 7=none:=t.none (by simp) (show 6∈[6]by simp) z
    have E : ρ 10=none:=t.none (by simp) (show 7∈[7]by simp) y
    obtain⟨l,g⟩:=h.call (by omega) (by omega) z y E
    simp only[aj]at u;subst u;have N:=ass g;clear g t n z y E h;have l:St K A (bC (m+2) .nilFunc d { jC fr (.slice af fr.pg.sl.length cf) fu (.slice a fu.sl.length c)with on:=false }::bz (.slice af fr.pg.sl.length cf) fr.pg::bz (.slice a fu.sl.length c) fu::blk (m+3) (.cells #[(.pointer (some ⟨(m+2),0,none⟩))] 82)::blk (m+1) (.cells #[.int .u64 (fr).id,.int .u64 (fr).word,.int .i64 (fr).pg.aA,(.slice af fr.pg.sl.length cf),.string (fr).pg.hi,.bool (fr).pg.la,.int .u64 (fr).pg.ri] 45)::blk m (.cells #[.int .i64 (d).th,.int .i64 (d).sn,.int .i64 (d).no,.int .i64 (d).ch,.int .i64 (d).re,.int .i64 (d).fa,.int .u64 (d).cl] 29)::F):=l;have qw:=sw (x:={ jC fr (.slice af fr.pg.sl.length cf) fu (.slice a fu.sl.length c)with on:=false }) hd hfr (Hpg.out hle) (by rw[uQ.out];exact hfr.aA) rfl l
    have Qw:=ass qw;clear qw l;go_wp2_with fail
    refine(Qw.out).mono ?_
    rintro e O ⟨B,ps,rfl,Y,l⟩;have yR:=ass Y;have V:Hid (St K O (Fl (m+2) B fr.id (dW (bH fr.word)) fu ps 0++(bC (m+2) .nilFunc d { jC fr (.slice af fr.pg.sl.length cf) fu (.slice a fu.sl.length c)with on:=false }::bz (.slice af fr.pg.sl.length cf) fr.pg::bz (.slice a fu.sl.length c) fu::blk (m+3) (.cells #[(.pointer (some ⟨(m+2),0,none⟩))] 82)::blk (m+1) (.cells #[.int .u64 (fr).id,.int .u64 (fr).word,.int .i64 (fr).pg.aA,(.slice af fr.pg.sl.length cf),.string (fr).pg.hi,.bool (fr).pg.la,.int .u64 (fr).pg.ri] 45)::blk m (.cells #[.int .i64 (d).th,.int .i64 (d).sn,.int .i64 (d).no,.int .i64 (d).ch,.int .i64 (d).re,.int .i64 (d).fa,.int .u64 (d).cl] 29)::F))):=ass ((show St K O (_::_::_::_::_::_::_::_::_::_::_)from l).re [3,4,5,6,7,8,9,0,1,2] rfl)
    clear l Y Qw;simp only[oI,aB,aY];go_wp2
    exact⟨rfl,_,rfl,N.out (oI B) _ O ⟨B,ps,rfl,yR.out,rfl⟩ V.out⟩
   case ai7=>
    intro o G ρ A h t y n I u;obtain rfl:=asy G;replace u:I=aj _ ρ [6] _:=u;obtain⟨v1,z⟩:=asv.1 (n 6 (by show _∈[6];simp))
    obtain⟨fv,rfl,g⟩:=h.begin (by omega) (by omega) z
    simp only[aj,z,Option.getD_some,aP,Act.put,asz]at u;subst u;have N:=ass g;clear g t n z y h;simp only[aY];go_wp2_with fail
    refine(fJ _ _ _ _).mono ?_
    rintro e O ⟨rfl,S⟩;have Hb:=ass S;clear S;go_wp2
    exact⟨rfl,_,rfl,N.out O Hb.out⟩
   case ai8=>
    intro o G ρ A h t E n I u;obtain rfl:=asy G;replace u:I=aj _ ρ [7] _:=u;obtain⟨v2,y⟩:=asv.1 (n 7 (by show _∈[7];simp))
    obtain⟨fv,R',rfl,l,g⟩:=h.store (by omega) (by omega) y E
    simp only[aj,y,Option.getD_some,aP,Act.put,asz]at u;subst u;have k:=l.k0;have kf:=l.f0;unfold dV wj jC at k;have gJ:Hid (St K _ (bC (m+2) (aY (some fv)) d { jC fr (.slice af fr.pg.sl.length cf) fu (.slice a fu.sl.length c)with on:=true }::R')):=ass ((l.aK 0 (aY (some fv))).aK 1 (.bool true));have N:=ass g;clear l g t n h y E;simp only[aY]at gJ ⊢;go_wp2
    exact⟨rfl,undef,rfl,N.out _ gJ.out⟩
  case ai5=>
  intro ρ A h D;obtain⟨fv,C,z,y,⟨v3,E⟩,hΦ,l⟩:=h.last D;simp only[aj,z,y,E,Option.getD_some,aP,Act.put,asz];clear h D z y E T;obtain⟨B,ps,rfl,Y,rfl⟩:=hΦ;have l:=(show St K A (_::_::_::_::_::_::_::_::_::_::_::_::_::F)from l)
  have ki:=l.b10.k0;have V:=ass (l.re [10,11,12,7,8,9,0,1,2,3,4,5,6] rfl);have yR:=ass Y;clear l Y;go_wp2
  go_ret;exact⟨m+2,a,c,rfl,.inl ⟨hle,B,ps,yR.out,V.out.tail.tail.tail⟩⟩
 ·rw[decide_eq_false hle]
  have jw:=hd.m6;have Zg:=hd.Ke;have hwn:IntKind.u64.wrap d.no=d.no:=by rw[IntKind.wrap_u64];omega
  go_upto_region 6 with(fail)
  have T:=ass l;clear l;refine aX [false,false,false,false,false,false,true,true,true] [6,7,8] (fun|8=>[6,7] | _=>[])
   (oP K (bC (m+2) .nilFunc d { jC fr (.slice af fr.pg.sl.length cf) fu (.slice a fu.sl.length c)with on:=false }::bz (.slice af fr.pg.sl.length cf) fr.pg::bz (.slice a fu.sl.length c) fu::blk (m+3) (.cells #[(.pointer (some ⟨(m+2),0,none⟩))] 82)::blk (m+1) (.cells #[.int .u64 (fr).id,.int .u64 (fr).word,.int .i64 (fr).pg.aA,(.slice af fr.pg.sl.length cf),.string (fr).pg.hi,.bool (fr).pg.la,.int .u64 (fr).pg.ri] 45)::blk m (.cells #[.int .i64 (d).th,.int .i64 (d).sn,.int .i64 (d).no,.int .i64 (d).ch,.int .i64 (d).re,.int .i64 (d).fa,.int .u64 (d).cl] 29)::F) 156 (.pointer none) 6 7 8 (aiZ d.no))
   (fun W=>St K W (bC (m+2) .nilFunc d { jC fr (.slice af fr.pg.sl.length cf) fu (.slice a fu.sl.length c)with on:=false }::bz (.slice af fr.pg.sl.length cf) fr.pg::bz (.slice a fu.sl.length c) fu::blk (m+3) (.cells #[(.pointer (some ⟨(m+2),0,none⟩))] 82)::blk (m+1) (.cells #[.int .u64 (fr).id,.int .u64 (fr).word,.int .i64 (fr).pg.aA,(.slice af fr.pg.sl.length cf),.string (fr).pg.hi,.bool (fr).pg.la,.int .u64 (fr).pg.ri] 45)::blk m (.cells #[.int .i64 (d).th,.int .i64 (d).sn,.int .i64 (d).no,.int .i64 (d).ch,.int .i64 (d).re,.int .i64 (d).fa,.int .u64 (d).cl] 29)::F)) ?aSb (by kernel_rfl) ?hBb ?Hb ?Im ?h0b ?hIb ?hRb ?hEb ?hQb
  case hBb=>as_aux_lemma=>kernel_rfl
  case Hb=>
   intro A l;have kl:=l.tail.tail.tail.k2;have Qg:=ass (fun w=>lU d w)
   have Qn:=ass (fun w=>qY d w)
   have aja:=uP d;clear l;simp only[cG];repeat (go_big_quiet_step (first|(go_at_call 96;exact aZ (Qg.out _))|(go_at_call 99;exact aZ (Qn.out _))))
   refine wpQuiet_nil ?_
   rfl
  case Im=>rfl
  case h0b=>exact oP.start T.out
  case hIb=>exact fun ρ A h=>h.rest
  case hRb=>exact fun ρ A O h S=>h.same S
  case hEb=>
   refine⟨?e6b,?e7b,?e8b,trivial⟩;case e6b=>
    intro o G ρ A h t J n I u;obtain rfl:=asy G;replace u:I=aj _ ρ [] _:=u;have Q:ρ 8=none:=t.none (by simp) (show 6∈[6,7]by simp) J
    obtain⟨X,l,g⟩:=h.call (by omega) (by omega) J Q
    simp only[aj]at u;subst u;have N:=ass g;clear g t n J Q h;go_wp2_with fail
    refine(uL (i:=4) (lim:=d.no) l).mono ?_
    rintro e O ⟨bt,rfl,U⟩;have V:=ass U;clear l U;go_wp2
    exact⟨rfl,_,rfl,N.out _ _ O ⟨bt,rfl,rfl⟩ V.out⟩
   case e7b=>
    intro o G ρ A h t M n I u;obtain rfl:=asy G;replace u:I=aj _ ρ [] _:=u;have Q:ρ 8=none:=t.none (by simp) (show 7∈[6,7]by simp) M
    have N:=ass (h.var (by omega) (by omega) M Q)
    simp only[aj]at u;subst u;clear t n M Q h;go_wp2
    exact⟨rfl,_,rfl,N.out⟩
   case e8b=>
    intro o G ρ A h t Q n I u;obtain rfl:=asy G;replace u:I=aj _ ρ [6,7] _:=u;obtain⟨v6,J⟩:=asv.1 (n 6 (by show _∈[6,7];simp))
    obtain⟨v7,M⟩:=asv.1 (n 7 (by show _∈[6,7];simp))
    obtain⟨bv,R',rfl,⟨C,bt,rfl,_⟩,l,g⟩:=h.store (by omega) (by omega) J M Q
    simp only[aj,J,M,Option.getD_some,aP,Act.put,asz]at u;subst u;have k0:=l.k0;have f0:=l.f0;have gJ:Hid (St K _ (blk bv (.cells #[(.pointer (some ⟨bt,0,none⟩))] 156)::R')):=ass (l.aK 0 (.pointer (some ⟨bt,0,none⟩)));have N:=ass g;clear l g t n h J M Q;go_wp2
    exact⟨rfl,undef,rfl,N.out _ gJ.out⟩
  case hQb=>
  intro ρ A h D;obtain⟨bv,v,C,J,M,⟨v8,Q⟩,⟨bt,rfl,rfl⟩,l⟩:=h.last D;simp only[aj,J,M,Q,Option.getD_some,aP,Act.put,asz];clear h D J M Q T;have l:=(show St K A (_::_::_::_)from l).re [2,0,1] rfl
  go_upto_region 7 with(fail)
  have T:Hid (St K A (bC (m+2) .nilFunc d { jC fr (.slice af fr.pg.sl.length cf) fu (.slice a fu.sl.length c)with on:=false }::blk bv (.cells #[(.pointer (some ⟨bt,0,none⟩))] 156)::gT bt 4 d.no ⟨0,0,false⟩::bz (.slice af fr.pg.sl.length cf) fr.pg::bz (.slice a fu.sl.length c) fu::blk (m+3) (.cells #[(.pointer (some ⟨(m+2),0,none⟩))] 82)::blk (m+1) (.cells #[.int .u64 (fr).id,.int .u64 (fr).word,.int .i64 (fr).pg.aA,(.slice af fr.pg.sl.length cf),.string (fr).pg.hi,.bool (fr).pg.la,.int .u64 (fr).pg.ri] 45)::blk m (.cells #[.int .i64 (d).th,.int .i64 (d).sn,.int .i64 (d).no,.int .i64 (d).ch,.int .i64 (d).re,.int .i64 (d).fa,.int .u64 (d).cl] 29)::F)):=ass l;clear l;refine aX [false,false,false,false,true,true,false,false,true] [4,5,8] (fun|5=>[4] | 8=>[5] | _=>[])
   (xG K (blk bv (.cells #[(.pointer (some ⟨bt,0,none⟩))] 156)::gT bt 4 d.no ⟨0,0,false⟩::bz (.slice af fr.pg.sl.length cf) fr.pg::bz (.slice a fu.sl.length c) fu::blk (m+3) (.cells #[(.pointer (some ⟨(m+2),0,none⟩))] 82)::blk (m+1) (.cells #[.int .u64 (fr).id,.int .u64 (fr).word,.int .i64 (fr).pg.aA,(.slice af fr.pg.sl.length cf),.string (fr).pg.hi,.bool (fr).pg.la,.int .u64 (fr).pg.ri] 45)::blk m (.cells #[.int .i64 (d).th,.int .i64 (d).sn,.int .i64 (d).no,.int .i64 (d).ch,.int .i64 (d).re,.int .i64 (d).fa,.int .u64 (d).cl] 29)::F) (m+2) d (jC fr (.slice af fr.pg.sl.length cf) fu (.slice a fu.sl.length c)) 4 5 8 (aiY bv (m+3) bt))
   (fun W=>∃nx on,St K W (bC (m+2) nx d { jC fr (.slice af fr.pg.sl.length cf) fu (.slice a fu.sl.length c)with on:=on }::blk bv (.cells #[(.pointer (some ⟨bt,0,none⟩))] 156)::gT bt 4 d.no ⟨0,0,false⟩::bz (.slice af fr.pg.sl.length cf) fr.pg::bz (.slice a fu.sl.length c) fu::blk (m+3) (.cells #[(.pointer (some ⟨(m+2),0,none⟩))] 82)::blk (m+1) (.cells #[.int .u64 (fr).id,.int .u64 (fr).word,.int .i64 (fr).pg.aA,(.slice af fr.pg.sl.length cf),.string (fr).pg.hi,.bool (fr).pg.la,.int .u64 (fr).pg.ri] 45)::blk m (.cells #[.int .i64 (d).th,.int .i64 (d).sn,.int .i64 (d).no,.int .i64 (d).ch,.int .i64 (d).re,.int .i64 (d).fa,.int .u64 (d).cl] 29)::F)) ?aoE (by kernel_rfl) ?ajb ?HB7 ?aeX ?ajc ?ajd ?aje ?ajf ?ajg
  case ajb=>as_aux_lemma=>kernel_rfl
  case HB7=>
   rintro A ⟨nx,on,l⟩;have kv:=l.k1;have ki:=l.tail.tail.tail.k2;clear l;simp only[cG];repeat (go_big_quiet_step (fail))
   refine wpQuiet_nil ?_
   rfl
  case aeX=>rfl
  case ajc=>exact xG.start T.out
  case ajd=>exact fun ρ A ⟨fv,C,_,_,h⟩=>⟨_,_,h.right⟩
  case aje=>exact fun ρ A O h S=>h.same S
  case ajf=>
   refine⟨?ajh,?aji,?ajj,trivial⟩;case ajh=>
    intro o G ρ A h t z n I u;obtain rfl:=asy G;replace u:I=aj _ ρ [] _:=u;have y : ρ 5=none:=t.none (by simp) (show 4∈[4]by simp) z
    have E : ρ 8=none:=t.none (by simp) (show 5∈[5]by simp) y
    obtain⟨l,g⟩:=h.call (by omega) (by omega) z y E
    simp only[aj]at u;subst u;have N:=ass g;clear g t n z y E h;have qw:=fY (T2:=156) (xv:=(.pointer (some ⟨bt,0,none⟩))) (f:=100) (tx:= #[]) (ty:= #[(.pointer (some ⟨bv,0,none⟩)),(.pointer (some ⟨(m+3),0,none⟩))]) l;have Qw:=ass qw;clear qw l;go_wp2_with fail
    refine(Qw.out).mono ?_
    rintro e O ⟨b2,b3,b5,rfl,l⟩;have V:=ass l;clear l Qw;simp only[aB,aY];go_wp2
    exact⟨rfl,_,rfl,N.out (aB b2 b3 b5) _ O ⟨b2,b3,b5,rfl,rfl⟩ V.out⟩
   case aji=>
    intro o G ρ A h t y n I u;obtain rfl:=asy G;replace u:I=aj _ ρ [4] _:=u;obtain⟨v1,z⟩:=asv.1 (n 4 (by show _∈[4];simp))
    obtain⟨fv,rfl,g⟩:=h.begin (by omega) (by omega) z
    simp only[aj,z,Option.getD_some,aP,Act.put,asz]at u;subst u;have N:=ass g;clear g t n z y h;simp only[aY];go_wp2_with fail
    refine(fJ _ _ _ _).mono ?_
    rintro e O ⟨rfl,S⟩;have Hb:=ass S;clear S;go_wp2
    exact⟨rfl,_,rfl,N.out O Hb.out⟩
   case ajj=>
    intro o G ρ A h t E n I u;obtain rfl:=asy G;replace u:I=aj _ ρ [5] _:=u;obtain⟨v2,y⟩:=asv.1 (n 5 (by show _∈[5];simp))
    obtain⟨fv,R',rfl,l,g⟩:=h.store (by omega) (by omega) y E
    simp only[aj,y,Option.getD_some,aP,Act.put,asz]at u;subst u;have k:=l.k0;have kf:=l.f0;unfold dV wj jC at k;have gJ:Hid (St K _ (bC (m+2) (aY (some fv)) d { jC fr (.slice af fr.pg.sl.length cf) fu (.slice a fu.sl.length c)with on:=true }::R')):=ass ((l.aK 0 (aY (some fv))).aK 1 (.bool true));have N:=ass g;clear l g t n h y E;simp only[aY]at gJ ⊢;go_wp2
    exact⟨rfl,undef,rfl,N.out _ gJ.out⟩
  case ajg=>
  intro ρ A h D;obtain⟨fv,C,z,y,⟨v3,E⟩,hΦ,l⟩:=h.last D;simp only[aj,z,y,E,Option.getD_some,aP,Act.put,asz];clear h D z y E T;obtain⟨b2,b3,b5,rfl,rfl⟩:=hΦ;have l:=(show St K A (_::_::_::_::_::_::_::_::_::F)from l)
  have ki:=l.b6.k0;have V:=ass (l.re [7,8,1,4,5,0,2,6,3] rfl);clear l;go_wp2
  go_ret;exact⟨m+2,rfl,a,c,.inr ⟨⟨b2,b3,b5,bv,m+3,bt⟩,V.out.tail.tail⟩⟩
end
theorem rB {K:aM}{w:World}{α:Type}{b m:Nat}{f:FV}{o:α->Option FV}{nx:Value}{tl:α->List Value}{T:TypeId}{F' : α->List aC}(u:Enters f.f)(hc:w.cell? ⟨b,0,none⟩=some (aY (some f)))
  (g:Calls Tryz.prog f.f (f.x ++ #[(.pointer (some ⟨m,0,none⟩))]++f.y) w fun e t=>∃x,e=.returned (aY (o x))/\St K t (blk b (.cells (nx::tl x).toArray T)::F' x)) :
  Calls Tryz.prog 77 #[(.pointer (some ⟨b,0,none⟩)),(.pointer (some ⟨m,0,none⟩))] w fun e w' => ∃x,e=.returned (.bool (o x).isNone)/\St K w' (blk b (.cells (aY (o x)::tl x).toArray T)::F' x):=by
 refine(oY (R:=fun l=>∃x,l=⟨o x,K,nx,tl x,T,F' x⟩) w b m f u hc (g.mono fun e t ⟨x,he,n⟩=>⟨⟨o x,K,nx,tl x,T,F' x⟩,he,⟨x,rfl⟩,n⟩)).mono ?_
 rintro e w' ⟨l,he,⟨x,rfl⟩,n⟩;exact⟨x,he,n⟩
theorem yU:Enters 133:=fun _ _=>by kernel_rfl
theorem yV:Enters 136:=fun _ _=>by kernel_rfl
theorem yX:Enters 100:=fun _ _=>by kernel_rfl
def Io (d:aU)(x:pE):List Value:=(dV .nilFunc d x).tail
section
variable {K:aM}{w:World}{F:List aC}{b bm bc acc:Nat}{d:aU}{x:pE}{L:List aQ}{p q:Pg}{id word:Int}{ps:List Pt}{k:Nat}{pt:Pt}{sep:ByteArray}{af au:Option Addr}{cf cu:Nat}{s:iJ}
theorem Zh (B:Ua)(C:p.sl.length<=1000000)(hk:ps[k]?=some pt)(D:acc<=1000000000000)
  (l:St K w (bC b (aY (some (oI B))) d x::aL bm bc L acc::(Fl b B id word p ps k++F))) :
  Calls Tryz.prog 77 #[(.pointer (some ⟨b,0,none⟩)),(.pointer (some ⟨bm,0,none⟩))] w fun e w' => (k+1≠ps.length/\e=.returned (.bool false)/\St K w' (bC b (aY (some (oI B))) d x::aL bm bc (aR L pt.i pt.c) (acc+1)::(Fl b B id word p ps (k+1)++F))) \/
   (k+1=ps.length/\e=.returned (.bool true)/\∃va,St K w' (bC b .nilFunc d { x with le:=⟨id,word,p⟩,vl:=va }::aL bm bc (aR L pt.i pt.c) (acc+1)::bz va p::F)):=by
 obtain⟨b2,b3,b5,Fk,jf,bw,bn,g,cap,va⟩:=B;have hc:w.cell? ⟨b,0,none⟩=some (aY (some (aB b2 b3 b5))):=l.k0 0;have l:St K w (bC b (aY (some (aB b2 b3 b5))) d x::aL bm bc L acc::bI b2 b3 b5 (.iface 76 (.pointer (some ⟨bw,0,none⟩))) (.func (.func 133) #[] #[(.pointer (some ⟨Fk,0,none⟩)),(.pointer (some ⟨jf,0,none⟩))])::blk Fk (.cells #[(.pointer (some ⟨bw,0,none⟩))] 76)::blk jf (.cells #[(.pointer (some ⟨b,0,none⟩))] 82) ::
  mJ bn id word p va g cap ps k::az (.slice (some ⟨g,0,none⟩) ps.length cap) 139 4 ps.length (cm ps)::blk bw (.cells #[(.pointer (some ⟨bn,0,none⟩))] 147)::bz va p::F):=l
 refine(rB (K:=K) (α:={ y:Option Value // y.isSome=decide (k+1=ps.length) }) (f:=aB b2 b3 b5) (o:=fun y=>match y.1 with|none=>some (aB b2 b3 b5)|some _=>none) (nx:=aY (some (aB b2 b3 b5)))
  (tl:=fun y=>match y.1 with|none=>Io d x|some m=>Io d { x with le:=⟨id,word,p⟩,vl:=m })
  (F' := fun y=>aL bm bc (aR L pt.i pt.c) (acc+1)::(match y.1 with|none=>Fl b ⟨b2,b3,b5,Fk,jf,bw,bn,g,cap,va⟩ id word p ps (k+1)++F|some m=>bz m p::F)) (T:=151) j4 hc ?_).mono (fun e w' h=>?_)
 ·show Calls Tryz.prog 115 #[(.pointer (some ⟨bm,0,none⟩)),(.pointer (some ⟨b2,0,none⟩)),(.pointer (some ⟨b3,0,none⟩)),(.pointer (some ⟨b5,0,none⟩))] w _
  refine(jt (P0:=fun w' => k+1≠ps.length/\St K w' (bC b (aY (some (aB b2 b3 b5))) d x::aL bm bc (aR L pt.i pt.c) (acc+1)::(Fl b ⟨b2,b3,b5,Fk,jf,bw,bn,g,cap,va⟩ id word p ps (k+1)++F)))
   (P1:=fun o w' => k+1=ps.length/\o=none/\∃m,St K w' (bC b (aY (some (aB b2 b3 b5))) d { x with le:=⟨id,word,p⟩,vl:=m }::bz m p::aL bm bc (aR L pt.i pt.c) (acc+1)::F))
   (l.re [2,0,1,3,4,5,6,7,8] rfl) (fun n w=>yI n _ w) Cq yU ((yQ hk D (l.re [5,1,6,7,0,2,3,4,8] rfl)).mono ?_)).mono ?_
  ·rintro e v ⟨rfl,l⟩
   refine⟨⟨K,_,l.re [5,0,1,2,3,4,6,7,8] rfl⟩,?_⟩;by_cases hl:k+1=ps.length
   ·refine .inr ⟨by rw[decide_eq_true hl],?_⟩
    have t:St K v (bC b (aY (some (aB b2 b3 b5))) d x::(Fl b ⟨b2,b3,b5,Fk,jf,bw,bn,g,cap,va⟩ id word p ps ps.length++(aL bm bc (aR L pt.i pt.c) (acc+1)::F))):=by
     have z:=l.re [4,5,6,7,0,2,3,8,1] rfl;rw[hl]at z;exact z
    refine(Ub C t).mono ?_
    rintro e E ⟨m,rfl,u⟩;exact⟨none,rfl,hl,rfl,m,u⟩
   ·exact .inl ⟨by rw[decide_eq_false hl],hl,l.re [4,1,5,6,7,0,2,3,8] rfl⟩
  ·rintro e v ⟨o,rfl,⟨rfl,hl,l⟩|⟨hl,rfl,m,l⟩⟩
   ·exact⟨⟨none,by simp[hl]⟩,rfl,l⟩
   ·exact⟨⟨some m,by simp[hl]⟩,rfl,l.re [0,2,1] rfl⟩
 ·obtain⟨⟨y,A⟩,rfl,l⟩:=h
  cases y with
  | none=>exact .inl ⟨by simpa using A,rfl,l⟩
  | some m=>exact .inr ⟨by simpa using A,rfl,m,l⟩
theorem Zi (B:Xv)(J:d.Ok)(v:x.fr.Ok d)(M:o9 d q)(A:0<=q.aA/\q.aA<1000000)(N:p.sl.length<=1000000)(O:x.vf=.slice af x.fr.pg.sl.length cf)(C:∃a c,B.vq=.slice a q.sl.length c)(hk:ps[k]?=some pt)(P:acc<=1000000000000)
  (m:St K w (bC b (aY (some (sZ B))) d x::aL bm bc L acc::bz x.vf x.fr.pg::(Ny b B id p q sep ps k++F))) :
  Calls Tryz.prog 77 #[(.pointer (some ⟨b,0,none⟩)),(.pointer (some ⟨bm,0,none⟩))] w fun e w' => e=.returned (.bool false) /\
   ((k+1≠ps.length/\St K w' (bC b (aY (some (sZ B))) d x::aL bm bc (aR L pt.i pt.c) (acc+1)::bz x.vf x.fr.pg::(Ny b B id p q sep ps (k+1)++F))) \/
   (k+1=ps.length/\∃va t l,nI d x.fr q l /\ St K w' (bC b (aY (some (oI t))) d { x with ri:=⟨id,aT 0,p⟩,vr:=va,sep:=sep }::aL bm bc (aR L pt.i pt.c) (acc+1)::bz x.vf x.fr.pg::bz va p::bz B.vq q::(Fl b t x.fr.id (dW (bH x.fr.word)) q l 0++F)))):=by
 obtain⟨b2,b3,b5,Ky,Kz,jf,Nx,bw,bn,g,cap,va,vq⟩:=B;have hc:w.cell? ⟨b,0,none⟩=some (aY (some (aB b2 b3 b5))):=m.k0 0;have m:St K w (bC b (aY (some (aB b2 b3 b5))) d x::aL bm bc L acc::bz x.vf x.fr.pg::bI b2 b3 b5 (.iface 74 (.pointer (some ⟨bw,0,none⟩))) (.func (.func 136) #[] #[(.pointer (some ⟨Ky,0,none⟩)),(.pointer (some ⟨Kz,0,none⟩)),(.pointer (some ⟨jf,0,none⟩)),(.pointer (some ⟨Nx,0,none⟩))]) ::
  blk Ky (.cells #[(.pointer (some ⟨bw,0,none⟩))] 74)::blk Kz (.cells #[.string sep] 9)::blk jf (.cells #[(.pointer (some ⟨b,0,none⟩))] 82)::blk Nx (.cells #[.int .i64 (q).aA,vq,.string (q).hi,.bool (q).la,.int .u64 (q).ri] 43) ::
  mJ bn id (aT 0) p va g cap ps k::az (.slice (some ⟨g,0,none⟩) ps.length cap) 139 4 ps.length (cm ps)::blk bw (.cells #[(.pointer (some ⟨bn,0,none⟩))] 145)::bz va p::bz vq q::F):=m
 refine(rB (K:=K) (α:={ y:Option (Value × Ua × List Pt) // y.isSome=decide (k+1=ps.length)/\∀z,y=some z->nI d x.fr q z.2.2 }) (f:=aB b2 b3 b5) (o:=fun y=>match y.1 with|none=>some (aB b2 b3 b5)|some z=>some (oI z.2.1)) (nx:=aY (some (aB b2 b3 b5)))
  (tl:=fun y=>match y.1 with|none=>Io d x|some z=>Io d { x with ri:=⟨id,aT 0,p⟩,vr:=z.1,sep:=sep })
  (F' := fun y=>aL bm bc (aR L pt.i pt.c) (acc+1)::bz x.vf x.fr.pg::(match y.1 with|none=>Ny b ⟨b2,b3,b5,Ky,Kz,jf,Nx,bw,bn,g,cap,va,vq⟩ id p q sep ps (k+1)++F|some z=>bz z.1 p::bz vq q::(Fl b z.2.1 x.fr.id (dW (bH x.fr.word)) q z.2.2 0++F))) (T:=151) j4 hc ?_).mono (fun e w' h=>?_)
 ·show Calls Tryz.prog 115 #[(.pointer (some ⟨bm,0,none⟩)),(.pointer (some ⟨b2,0,none⟩)),(.pointer (some ⟨b3,0,none⟩)),(.pointer (some ⟨b5,0,none⟩))] w _
  refine(jt (P0:=fun w' => k+1≠ps.length/\St K w' (bC b (aY (some (aB b2 b3 b5))) d x::aL bm bc (aR L pt.i pt.c) (acc+1)::bz x.vf x.fr.pg::(Ny b ⟨b2,b3,b5,Ky,Kz,jf,Nx,bw,bn,g,cap,va,vq⟩ id p q sep ps (k+1)++F)))
   (P1:=fun o w' => k+1=ps.length/\∃u t l,o=some (oI t)/\nI d x.fr q l /\ St K w' (bC b (aY (some (aB b2 b3 b5))) d { x with ri:=⟨id,aT 0,p⟩,vr:=u,sep:=sep }::aL bm bc (aR L pt.i pt.c) (acc+1)::bz x.vf x.fr.pg::bz u p::bz vq q::(Fl b t x.fr.id (dW (bH x.fr.word)) q l 0++F)))
   (m.re [3,0,1,2,4,5,6,7,8,9,10,11,12] rfl) (fun n w=>qA n _ w) Cr yV ((qG hk P (m.re [8,1,9,10,0,2,3,4,5,6,7,11,12] rfl)).mono ?_)).mono ?_
  ·rintro e G ⟨rfl,m⟩
   refine⟨⟨K,_,m.re [6,0,1,2,3,4,5,7,8,9,10,11,12] rfl⟩,?_⟩;by_cases hl:k+1=ps.length
   ·refine .inr ⟨by rw[decide_eq_true hl],?_⟩
    have D:St K G (bC b (aY (some (aB b2 b3 b5))) d x::bz x.vf x.fr.pg::(Ny b ⟨b2,b3,b5,Ky,Kz,jf,Nx,bw,bn,g,cap,va,vq⟩ id p q sep ps ps.length++(aL bm bc (aR L pt.i pt.c) (acc+1)::F))):=by
     have H:=m.re [4,5,6,7,8,9,10,0,2,3,11,12,1] rfl;rw[hl]at H;exact H
    obtain⟨aq,cq,C⟩:=C;refine(Uc J v M A N O C D).mono ?_
    rintro e Q ⟨u,t,l,rfl,hw,E⟩;exact⟨some (oI t),rfl,hl,u,t,l,rfl,hw,(show St K Q (_::_::_::_::_::_::_::_::_::_::_::_::F)from E).re [0,11,1,2,3,4,5,6,7,8,9,10] rfl⟩
   ·exact .inl ⟨by rw[decide_eq_false hl],hl,m.re [4,1,5,6,7,8,9,10,0,2,3,11,12] rfl⟩
  ·rintro e G ⟨o,rfl,⟨rfl,hl,m⟩|⟨hl,u,t,l,rfl,hw,m⟩⟩
   ·exact⟨⟨none,by simp[hl],by simp⟩,rfl,m⟩
   ·exact⟨⟨some ⟨u,t,l⟩,by simp[hl],fun z R=>by obtain rfl:=asy R;exact hw⟩,rfl,m⟩
 ·obtain⟨⟨y,I,hw⟩,rfl,m⟩:=h
  cases y with
  | none=>exact⟨rfl,.inl ⟨by simpa using I,m⟩⟩
  | some z=>exact⟨rfl,.inr ⟨by simpa using I,z.1,z.2.1,z.2.2,hw z rfl,m⟩⟩
theorem Zj (B:TkB)(M:d.Ok)(D:0<=x.fu.aA/\x.fu.aA<1000000)(N:2<=x.fu.sl.length)(hle:(x.fu.sl.length:Int)<=d.fa+1)(E:∀s,s∈x.fu.sl->s.k.size<=1000000)(G:x.vu=.slice au x.fu.sl.length cu)(O:x.vf=.slice af x.fr.pg.sl.length cf)
  (S:s.pc<2) (P:s.pc=1->0<=s.seen/\s.seen<18446744073709551615) (t:(aG 4 d.no L s).1.ok=true->0<=(aG 4 d.no L s).1.seen/\(aG 4 d.no L s).1.seen<18446744073709551615) (R:acc<=1000000000000)
  (g:St K w (bC b (aY (some (Il B))) d x::aL bm bc L acc::bz x.vu x.fu::(Xw b B 4 d.no s++F))) :
  Calls Tryz.prog 77 #[(.pointer (some ⟨b,0,none⟩)),(.pointer (some ⟨bm,0,none⟩))] w fun e w' =>
   ((aG 4 d.no L s).1.pc<2/\e=.returned (.bool false)/\St K w' (bC b (aY (some (Il B))) d x::aL bm bc (aG 4 d.no L s).2 (acc+1)::bz x.vu x.fu::(Xw b B 4 d.no (aG 4 d.no L s).1++F))) \/
   (2<=(aG 4 d.no L s).1.pc/\(aG 4 d.no L s).1.ok=false/\e=.returned (.bool true)/\St K w' (bC b .nilFunc d { x with err:=2,le:=x.fr,vl:=x.vf }::aL bm bc (aG 4 d.no L s).2 (acc+1)::bz x.vu x.fu::F)) \/
   (2<=(aG 4 d.no L s).1.pc/\(aG 4 d.no L s).1.ok=true/\e=.returned (.bool false)/\∃(m:Xv) (ps:List Pt),ps=⟨d.node ((aG 4 d.no L s).1.seen+1) 0,⟨aT 0,⟨#[]⟩,0⟩⟩::bQ d ((aG 4 d.no L s).1.seen+1) (cZ x.fu)/\(∃a c,m.vq=.slice a (ed x.fu ((aG 4 d.no L s).1.seen+1)).sl.length c) /\
    St K w' (bC b (aY (some (sZ m))) d x::aL bm bc (aG 4 d.no L s).2 (acc+1)::bz x.vu x.fu::(Ny b m ((aG 4 d.no L s).1.seen+1) (cZ x.fu) (ed x.fu ((aG 4 d.no L s).1.seen+1)) (bM x.fu) ps 0++F))):=by
 obtain⟨b2,b3,b5,Fm,jf,bt⟩:=B;have hc:w.cell? ⟨b,0,none⟩=some (aY (some (aB b2 b3 b5))):=g.k0 0;have g:St K w (bC b (aY (some (aB b2 b3 b5))) d x::aL bm bc L acc::bz x.vu x.fu::bI b2 b3 b5 (.iface 156 (.pointer (some ⟨bt,0,none⟩))) (.func (.func 100) #[] #[(.pointer (some ⟨Fm,0,none⟩)),(.pointer (some ⟨jf,0,none⟩))]) ::
  blk Fm (.cells #[(.pointer (some ⟨bt,0,none⟩))] 156)::blk jf (.cells #[(.pointer (some ⟨b,0,none⟩))] 82)::gT bt 4 d.no s::F):=g
 obtain⟨s',l⟩:∃s',s'=(aG 4 d.no L s).1:=⟨_,rfl⟩;obtain⟨L',C⟩:∃L',L'=(aG 4 d.no L s).2:=⟨_,rfl⟩;have q:=sk (i:=4) (lim:=d.no) (g.re [6,1,0,2,3,4,5] rfl) R P;rw[if_neg (by omega:¬ 2<=s.pc)]at q
 rw[←l]at t;rw[←l,←C]at q ⊢;have Q:=ass q;clear q l C;refine(rB (K:=K) (α:={ y:Option (Option (Xv × List Pt)) // match y with|none=>s'.pc<2|some none=>2<=s'.pc/\s'.ok=false|some (some z)=>2<=s'.pc/\s'.ok=true/\z.2=⟨d.node (s'.seen+1) 0,⟨aT 0,⟨#[]⟩,0⟩⟩::bQ d (s'.seen+1) (cZ x.fu)/\(∃a c,z.1.vq=.slice a (ed x.fu (s'.seen+1)).sl.length c) })
  (f:=aB b2 b3 b5) (o:=fun y=>match y.1 with|none=>some (aB b2 b3 b5)|some none=>none|some (some z)=>some (sZ z.1)) (nx:=aY (some (aB b2 b3 b5)))
  (tl:=fun y=>match y.1 with|none=>Io d x|some none=>Io d { x with err:=2,le:=x.fr,vl:=x.vf } | some (some _)=>Io d x)
  (F' := fun y=>aL bm bc L' (acc+1)::bz x.vu x.fu::(match y.1 with|none=>Xw b ⟨b2,b3,b5,Fm,jf,bt⟩ 4 d.no s' ++ F|some none=>F|some (some z)=>Ny b z.1 (s'.seen+1) (cZ x.fu) (ed x.fu (s'.seen+1)) (bM x.fu) z.2 0++F)) (T:=151) j4 hc ?_).mono (fun e w' h=>?_)
 ·show Calls Tryz.prog 115 #[(.pointer (some ⟨bm,0,none⟩)),(.pointer (some ⟨b2,0,none⟩)),(.pointer (some ⟨b3,0,none⟩)),(.pointer (some ⟨b5,0,none⟩))] w _
  refine(jt (P0:=fun w' => s'.pc<2/\St K w' (bC b (aY (some (aB b2 b3 b5))) d x::aL bm bc L' (acc+1)::bz x.vu x.fu::(Xw b ⟨b2,b3,b5,Fm,jf,bt⟩ 4 d.no s' ++ F)))
   (P1:=fun o w' => 2<=s'.pc/\((s'.ok=false/\o=none/\St K w' (bC b (aY (some (aB b2 b3 b5))) d { x with err:=2,le:=x.fr,vl:=x.vf }::aL bm bc L' (acc+1)::bz x.vu x.fu::F)) \/
    (s'.ok=true/\∃m ps,o=some (sZ m)/\ps=⟨d.node (s'.seen+1) 0,⟨aT 0,⟨#[]⟩,0⟩⟩::bQ d (s'.seen+1) (cZ x.fu)/\(∃a c,m.vq=.slice a (ed x.fu (s'.seen+1)).sl.length c) /\
     St K w' (bC b (aY (some (aB b2 b3 b5))) d x::aL bm bc L' (acc+1)::bz x.vu x.fu::(Ny b m (s'.seen+1) (cZ x.fu) (ed x.fu (s'.seen+1)) (bM x.fu) ps 0++F)))))
   (g.re [3,0,1,2,4,5,6] rfl) (fun n w=>sj n _ w) Ih yX ((Q.out).mono ?_)).mono ?_
  ·rintro e H ⟨rfl,g⟩
   refine⟨⟨K,_,g.re [4,0,1,2,3,5,6] rfl⟩,?_⟩;by_cases hl:2<=s'.pc
   ·refine .inr ⟨by rw[decide_eq_true hl],?_⟩
    have l:St K H (bC b (aY (some (aB b2 b3 b5))) d x::bz x.vu x.fu::(Xw b ⟨b2,b3,b5,Fm,jf,bt⟩ 4 d.no s' ++ (aL bm bc L' (acc+1)::F))):=g.re [2,3,4,5,6,0,1] rfl;cases hok:s'.ok with
    | true=>
     refine(Nz M D N hle E G hok (t hok) l).mono ?_
     rintro e J ⟨m,ps,rfl,v,I,A⟩;exact⟨some (sZ m),rfl,hl,.inr ⟨rfl,m,ps,rfl,v,I,(show St K J (_::_::_::_::_::_::_::_::_::_::_::_::_::F)from A).re [0,12,1,2,3,4,5,6,7,8,9,10,11] rfl⟩⟩
    | false=>
     refine(Ud O hok ((show St K H (_::_::_::_::_::_::_::F)from l).re [0,2,3,4,5,1,6] rfl)).mono ?_
     rintro e J ⟨rfl,A⟩;exact⟨none,rfl,hl,.inl ⟨rfl,rfl,A.re [0,2,1] rfl⟩⟩
   ·exact .inl ⟨by rw[decide_eq_false hl],by omega,g.re [2,1,3,4,5,6,0] rfl⟩
  ·rintro e H ⟨o,rfl,⟨rfl,hl,g⟩|⟨hl,⟨hok,rfl,g⟩|⟨hok,m,ps,rfl,v,I,g⟩⟩⟩
   ·exact⟨⟨none,hl⟩,rfl,g⟩
   ·exact⟨⟨some none,hl,hok⟩,rfl,g⟩
   ·exact⟨⟨some (some ⟨m,ps⟩),hl,hok,v,I⟩,rfl,g⟩
 ·obtain⟨⟨y,u⟩,rfl,g⟩:=h
  match y,u,g with
  | none,u,g=>exact .inl ⟨u,rfl,g⟩
  | some none,u,g=>exact .inr (.inl ⟨u.1,u.2,rfl,g⟩)
  | some (some z),u,g=>exact .inr (.inr ⟨u.1,u.2.1,rfl,z.1,z.2,u.2.2.1,u.2.2.2,g⟩)
end
theorem Ip (tmps:Array Value)(w:World)(b:Nat)(v0 v1 v2 v3 v4 v5 v6:Value)(hp:tmps[4]?=some ((.pointer (some ⟨b,0,none⟩))))(hk:∀k,w.cell? ⟨b,k,none⟩=(#[v0,v1,v2,v3,v4,v5,v6]:Array Value)[k]?) :
  (results Tryz.f106 tmps).run Tryz.prog w=.ok (.agg #[v0,v1,v2,v3,v4,v5,v6]) w:=by
 simp[results,Tryz.results106,go_sem,hp,hk]
theorem Da (tmps:Array Value)(w:World)(b:Nat)(v0 v1 v2 v3 v4 v5 v6:Value)(hp:tmps[2]?=some ((.pointer (some ⟨b,0,none⟩))))(hk:∀k,w.cell? ⟨b,k,none⟩=(#[v0,v1,v2,v3,v4,v5,v6]:Array Value)[k]?) :
  (results Tryz.f53 tmps).run Tryz.prog w=.ok (.agg #[v0,v1,v2,v3,v4,v5,v6]) w:=by
 simp[results,Tryz.results53,go_sem,hp,hk]
theorem yY (tmps:Array Value)(w:World)(b:Nat)(v0 v1 v2 v3 v4 v5 v6:Value)(hp:tmps[2]?=some ((.pointer (some ⟨b,0,none⟩))))(hk:∀k,w.cell? ⟨b,k,none⟩=(#[v0,v1,v2,v3,v4,v5,v6]:Array Value)[k]?) :
  (results Tryz.f54 tmps).run Tryz.prog w=.ok (.agg #[v0,v1,v2,v3,v4,v5,v6]) w:=by
 simp[results,Tryz.results54,go_sem,hp,hk]
theorem Db (w:World)(id wd aA ri:Int)(a:Option Addr)(n c:Nat)(hi:ByteArray)(la:Bool):(Instr.field 45 (.agg #[.int .u64 id,.int .u64 wd,.int .i64 aA,.slice a n c,.string hi,.bool la,.int .u64 ri]) 0).run Tryz.prog w=.ok (.int .u64 id) w:=by kernel_rfl
theorem Dc (w:World)(id wd aA ri:Int)(a:Option Addr)(n c:Nat)(hi:ByteArray)(la:Bool):(Instr.field 45 (.agg #[.int .u64 id,.int .u64 wd,.int .i64 aA,.slice a n c,.string hi,.bool la,.int .u64 ri]) 1).run Tryz.prog w=.ok (.int .u64 wd) w:=by kernel_rfl
theorem Dd (w:World)(id wd aA ri:Int)(a:Option Addr)(n c:Nat)(hi:ByteArray)(la:Bool):(Instr.field 45 (.agg #[.int .u64 id,.int .u64 wd,.int .i64 aA,.slice a n c,.string hi,.bool la,.int .u64 ri]) 2).run Tryz.prog w=.ok (.agg #[.int .i64 aA,.slice a n c,.string hi,.bool la,.int .u64 ri]) w:=by kernel_rfl
theorem yZ (w:World)(aA ri:Int)(a:Option Addr)(n c:Nat)(hi:ByteArray)(la:Bool):(Instr.field 43 (.agg #[.int .i64 aA,.slice a n c,.string hi,.bool la,.int .u64 ri]) 1).run Tryz.prog w=.ok (.slice a n c) w:=by kernel_rfl
attribute [go_sem] yZ Db Dc Dd
section
variable {K:aM}{w:World}{F:List aC}{b bm bc acc:Nat}{d:aU}{x:pE}{h:cC}{L:List aQ}{a:Option Addr}{c:Nat}{nx:Value}
theorem qH (l:x.on=true)(V:h.pg.sl.length<=1000000)(f:St K w (bC b .nilFunc d x::bz (.slice a h.pg.sl.length c) h.pg::F)) :
  Calls Tryz.prog 106 #[(.pointer (some ⟨b,0,none⟩)),(.agg #[.int .u64 (h).id,.int .u64 (h).word,.int .i64 (h).pg.aA,(.slice a h.pg.sl.length c),.string (h).pg.hi,.bool (h).pg.la,.int .u64 (h).pg.ri])] w fun e w' => ∃va,e=.returned (.agg #[.int .u64 (h).id,.int .u64 (h).word,.int .i64 (h).pg.aA,va,.string (h).pg.hi,.bool (h).pg.la,.int .u64 (h).pg.ri])/\St K w' (bz va h.pg::bC b .nilFunc d x::bz (.slice a h.pg.sl.length c) h.pg::F):=by
 obtain⟨fr,vf,fu,vu,err,le,vl,ri,vr,sep,on⟩:=x;simp only at l;subst l;have f:=(f.made (.cells #[.int .u64 (h).id,.int .u64 (h).word,.int .i64 (h).pg.aA,(.slice a h.pg.sl.length c),.string (h).pg.hi,.bool (h).pg.la,.int .u64 (h).pg.ri] 45)).made (.cells #[.int .u64 0,.int .u64 0,.int .i64 0,.slice none 0 0,.string ⟨#[]⟩,.bool false,.int .u64 0] 45);rw[World.size_alloc]at f;have y:=ass (gG ((w.alloc (.cells #[.int .u64 (h).id,.int .u64 (h).word,.int .i64 (h).pg.aA,(.slice a h.pg.sl.length c),.string (h).pg.hi,.bool (h).pg.la,.int .u64 (h).pg.ri] 45)).alloc (.cells #[.int .u64 0,.int .u64 0,.int .i64 0,.slice none 0 0,.string ⟨#[]⟩,.bool false,.int .u64 0] 45)) b (f.k2 0) (f.k2 1));have g:=ass f;clear f;go_enter Tryz.func106,Tryz.ntmps106
 go_wp2_with fail
 refine(y.out).mono ?_
 clear y;rintro e X ⟨rfl,rfl⟩;go_upto_region 3 with(fail)
 obtain⟨n,m⟩:∃n,n=w.heap.size:=⟨_,rfl⟩;rw[←m]at g ⊢;have f:=g.out;refine dc f ?_
 clear f g m;intro W f;have o:=(show St K _ (az (.slice a h.pg.sl.length c) 69 2 h.pg.sl.length (aF h.pg.sl)::_)from f.b3).cM (by omega)
 have t:=ass (show(aF h.pg.sl).length=h.pg.sl.length*2 by rw[fX])
 have z:Hid (a=none->h.pg.sl.length=0):=ass (fun e=>by subst e;rw[o.no];rfl)
 have H1:=ass (lh h.pg.sl);obtain⟨O,A,C,D,E⟩:=info_parts ic;have G:=ass A;have H:=ass C;have I:=ass D;have J:=ass E;clear A C D E;have u:=ass o.news;obtain⟨sl,v⟩:∃sl,sl=aF h.pg.sl:=⟨_,rfl⟩;rw[←v]at t H1 u;have P:=ass v;have Q:=f.k1;have R:=f.b1.f0;have g:=ass (f.cJ (T:=69) (size:=2));clear f o v;go_wp2_with (at_builtin;refine cK _ _ 41 69 _ 0 h.pg.sl.length c 2 24 [] sl (.agg #[.string ⟨#[]⟩,.int .u64 0]) O a g.out rfl rfl Tryz.underlying41 G.out H.out I.out J.out rfl (by decide) rfl rfl t.out z.out u.out H1.out (by omega) (by decide) ?_)
 intro Y w' f;obtain⟨M,N,S,_,_⟩:=f.aJ;subst S;clear g Q R t z H1 u G H I J;have f:=f.b2;have U:=f.k0;have fb:=f.f0;have f:=f.aK 3 (.slice M h.pg.sl.length N);simp only[List.set_cons_zero,List.set_cons_succ]at f;go_upto_region 4 with(fail)
 refine dc f ?_
 clear f U fb;intro Z f;have k1:=f.k0;have f:=f.b2;have k0:=f.k0;have f0:=f.f0;have f:=((((((f.aK 0 (.int .u64 h.id)).aK 1 (.int .u64 h.word)).aK 2 (.int .i64 h.pg.aA)).aK 3 (.slice M h.pg.sl.length N)).aK 4 (.string h.pg.hi)).aK 5 (.bool h.pg.la)).aK 6 (.int .u64 h.pg.ri);simp only[List.set_cons_zero,List.set_cons_succ]at f;go_wp2
 rw[P.out]at f;refine bodyPost_ret (Ip _ _ (n+1) _ _ _ _ _ _ _ rfl f.k0) rfl ⟨_,rfl,f.tail.tail⟩
theorem Iq {P:Value->World->Prop}(q:Calls Tryz.prog 77 #[(.pointer (some ⟨b,0,none⟩)),(.pointer (some ⟨bm,0,none⟩))] w fun e w' => ∃v,e=.returned v/\P v w')(hp:∀v w',P v w' -> ∃t:Bool,v=.bool t) :
  Calls Tryz.prog 48 #[(.pointer (some ⟨b,0,none⟩)),(.pointer (some ⟨bm,0,none⟩))] w fun e w' => ∃v,e=.returned v/\P v w' := by
 have Q:=ass q;clear q;go_enter Tryz.func48,Tryz.ntmps48
 go_wp2_with fail
 refine(Q.out).mono ?_
 rintro e f ⟨v,rfl,h⟩;obtain⟨t,rfl⟩:=hp v f h;have H:=ass h;clear h Q hp;go_wp2
 go_ret;exact⟨.bool t,rfl,H.out⟩
theorem Ir (g:x.on=true)(l:x.le.pg.sl.length<=1000000)(m:x.vl=.slice a x.le.pg.sl.length c)(f:St K w (bC b .nilFunc d x::bz x.vl x.le.pg::F)) :
  Calls Tryz.prog 53 #[(.pointer (some ⟨b,0,none⟩))] w fun e w' => ∃va,e=.returned (.agg #[.int .u64 (x.le).id,.int .u64 (x.le).word,.int .i64 (x.le).pg.aA,va,.string (x.le).pg.hi,.bool (x.le).pg.la,.int .u64 (x.le).pg.ri])/\St K w' (bz va x.le.pg::bC b .nilFunc d x::bz x.vl x.le.pg::F):=by
 obtain⟨fr,vf,fu,vu,err,le,vl,ri,vr,sep,on⟩:=x;simp only at m l;subst m;have f:=(f.made (.cells #[.int .u64 0,.int .u64 0,.int .i64 0,.slice none 0 0,.string ⟨#[]⟩,.bool false,.int .u64 0] 45)).u2;have Q:=ass (qH g l f);have k:=f.k0;unfold dV wj at k;clear f g;go_enter Tryz.func53,Tryz.ntmps53
 go_wp2_with fail
 refine(Q.out).mono ?_
 clear Q k;generalize w.heap.size=n;rintro e u ⟨va,rfl,f⟩;obtain⟨o,t,rfl,_,_⟩:=f.aJ;have f:=f.b3;have k0:=f.k0;have f0:=f.f0;have f:=((((((f.aK 0 (.int .u64 le.id)).aK 1 (.int .u64 le.word)).aK 2 (.int .i64 le.pg.aA)).aK 3 (.slice o le.pg.sl.length t)).aK 4 (.string le.pg.hi)).aK 5 (.bool le.pg.la)).aK 6 (.int .u64 le.pg.ri);simp only[List.set_cons_zero,List.set_cons_succ]at f;go_wp2
 refine bodyPost_ret (Da _ _ n _ _ _ _ _ _ _ rfl f.k0) rfl ⟨_,rfl,f.tail⟩
theorem nJ (g:x.on=true)(l:x.ri.pg.sl.length<=1000000)(m:x.vr=.slice a x.ri.pg.sl.length c)(f:St K w (bC b .nilFunc d x::bz x.vr x.ri.pg::F)) :
  Calls Tryz.prog 54 #[(.pointer (some ⟨b,0,none⟩))] w fun e w' => ∃va,e=.returned (.agg #[.int .u64 (x.ri).id,.int .u64 (x.ri).word,.int .i64 (x.ri).pg.aA,va,.string (x.ri).pg.hi,.bool (x.ri).pg.la,.int .u64 (x.ri).pg.ri])/\St K w' (bz va x.ri.pg::bC b .nilFunc d x::bz x.vr x.ri.pg::F):=by
 obtain⟨fr,vf,fu,vu,err,le,vl,ri,vr,sep,on⟩:=x;simp only at m l;subst m;have f:=(f.made (.cells #[.int .u64 0,.int .u64 0,.int .i64 0,.slice none 0 0,.string ⟨#[]⟩,.bool false,.int .u64 0] 45)).u2;have Q:=ass (qH g l f);have k:=f.k0;unfold dV wj at k;clear f g;go_enter Tryz.func54,Tryz.ntmps54
 go_wp2_with fail
 refine(Q.out).mono ?_
 clear Q k;generalize w.heap.size=n;rintro e u ⟨va,rfl,f⟩;obtain⟨o,t,rfl,_,_⟩:=f.aJ;have f:=f.b3;have k0:=f.k0;have f0:=f.f0;have f:=((((((f.aK 0 (.int .u64 ri.id)).aK 1 (.int .u64 ri.word)).aK 2 (.int .i64 ri.pg.aA)).aK 3 (.slice o ri.pg.sl.length t)).aK 4 (.string ri.pg.hi)).aK 5 (.bool ri.pg.la)).aK 6 (.int .u64 ri.pg.ri);simp only[List.set_cons_zero,List.set_cons_succ]at f;go_wp2
 refine bodyPost_ret (yY _ _ n _ _ _ _ _ _ _ rfl f.k0) rfl ⟨_,rfl,f.tail⟩
end
structure lB (d:aU)(fr:cC)(fu:Pg):Prop where
 aA:fu.aA=fr.pg.aA
 len:(fu.sl.length:Int)<=d.fa+1
 r:∀s,s∈fu.sl->0<=s.r/\s.r<18446744073709551616
 k:∀s,s∈fu.sl->s.k.size<=1000000
 hi:fu.hi.size<=maxLen
 la:fu.la=true->fu.hi=⟨#[]⟩
 ri:0<=fu.ri/\fu.ri<18446744073709551616
theorem y7 (a b:ByteArray):∀(f n:Nat),(eY a b f n).size<=b.size:=by
 intro f;induction f with
 | zero=>intro n;exact Nat.zero_le _
 | succ f ih=>
  intro n;unfold eY;split
  ·rw[ByteArray.size_extract];omega
  ·exact ih _
theorem xH (a b:ByteArray):(l6 a b).size<=b.size:=y7 a b _ _
theorem gu {d:aU}(e:d.Ok):10<=d.cells:=by
 have f:=bZ e (id:=1) (by omega) e.Ke (k:=2) (by omega) (by have:=e.fy;omega)
 have g:=(iH d e).2.1;omega
section
variable {d:aU}{fr:cC}{fu:Pg}{id:Int}
theorem lB.fit (h:lB d fr fu)(hle:(fu.sl.length:Int)<=d.fa):o9 d fu:=
 ⟨hle,h.ri,h.r,fun s e=>Nat.le_trans (h.k s e) (by decide),h.hi,h.la⟩
theorem lB.sep (h:lB d fr fu):(bM fu).size<=1000000:=by
 unfold bM;split
 ·rename_i x y f e
  have e:=h.k y (asw e);split
  ·exact Nat.le_trans (xH _ _) e
  ·exact e
 ·exact Nat.zero_le _
theorem lB.left (h:lB d fr fu)(g:d.Ok)(hid:0<=id/\id<18446744073709551616):o9 d (ed fu id):=by
 have l:=g.fy;have m:=h.len;refine⟨?_,hid,fun s f=>h.r s (List.mem_of_mem_take f),fun s f=>Nat.le_trans (h.k s (List.mem_of_mem_take f)) (by decide),Nat.le_trans h.sep (by decide),fun e=>by cases e⟩
 show((fu.sl.take (gm fu.sl.length)).length:Int)<=d.fa
 rw[List.length_take];unfold gm;omega
theorem lB.right (h:lB d fr fu)(f:d.Ok):o9 d (cZ fu):=by
 have g:=f.fy;have l:=h.len;refine⟨?_,h.ri,fun s e=>h.r s (List.mem_of_mem_drop e),fun s e=>Nat.le_trans (h.k s (List.mem_of_mem_drop e)) (by decide),h.hi,h.la⟩
 show((fu.sl.drop (gm fu.sl.length)).length:Int)<=d.fa
 rw[List.length_drop];unfold gm;omega
theorem nI.len {p:Pg}{ps:List Pt}(h:nI d fr p ps):2<=ps.length/\ps.length<=p.sl.length+5:=by
 obtain⟨mid,e,rfl⟩:=h;have:=e.1.length_le;simp[bQ,fe]at this ⊢;omega
end
def pF (fr:cC)(vf:Value)(fu:Pg)(vu:Value):pE:={ jC fr vf fu vu with on:=true }
def Zk (fr:cC)(vf:Value)(fu:Pg)(vu:Value)(id:Int)(va:Value):pE:={ pF fr vf fu vu with ri:=⟨id,aT 0,cZ fu⟩,vr:=va,sep:=bM fu }
section
variable (K:aM)(W:World)(b bm bc:Nat)(d:aU)(fr:cC)(vf:Value)(fu:Pg)(vu:Value)(L:List aQ)(F:List aC)
end
section
variable {K:aM}{W W':World}{b bm bc j r:Nat}{d:aU}{fr:cC}{vf vu:Value}{fu:Pg}{L:List aQ}{F:List aC}
end
section
variable {K:aM}{w:World}{b bm bc j r:Nat}{d:aU}{fr:cC}{af au:Option Addr}{cf cu:Nat}{fu:Pg}{L:List aQ}{F:List aC}
end
end
end Go.Proofs.YtlpdhhhgckpcfaaGreat
