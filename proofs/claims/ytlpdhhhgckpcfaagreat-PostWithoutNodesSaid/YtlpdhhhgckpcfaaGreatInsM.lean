
/- The machine insert.Insert, one step at a time, in a memory that others may change: its state, its parts, its step. -/
import Derived.Test.YtlpdhhhgckpcfaaGreatInsB
namespace Go.Proofs.YtlpdhhhgckpcfaaGreat
open Go.RowKit
set_option maxRecDepth 100000
structure fU where
 pc:Nat
 tk:iy
 k:Nat
 ps:List Pt
 sp:Bool
 id:Int
 full:Bool
def abc:fU:=⟨0,⟨0,0,false⟩,0,[],false,0,false⟩
def fU.pg (s:fU)(fu:Pg):Pg:=if s.sp then fy fu s.id else fu
def fU.right (s:fU)(fu:Pg):cB:=if s.sp then⟨s.id,aO 0,dD fu⟩else mA
def bQ (d:aR)(L:List aP)(s:fU):List aP:=match s.pc with
 | 0=>(aG 4 d.no L s.tk).2
 | 1=>match s.ps[s.k]? with
  | some pt=>aN L pt.i pt.c
  | none=>L
 | 2=>match s.ps[s.k]? with
  | some pt=>aN L pt.i pt.c
  | none=>L
 | _=>L
def iz (d:aR)(fr:cB)(fu:Pg)(L:List aP)(s s':fU):Prop:=match s.pc with
 | 0=>((aG 4 d.no L s.tk).1.pc<2/\s' = { s with tk:=(aG 4 d.no L s.tk).1 }) \/
   (2<=(aG 4 d.no L s.tk).1.pc/\(aG 4 d.no L s.tk).1.ok=false/\s' = { s with pc:=3,tk:=(aG 4 d.no L s.tk).1,full:=true }) \/
   (2<=(aG 4 d.no L s.tk).1.pc/\(aG 4 d.no L s.tk).1.ok=true/\s'=⟨1,(aG 4 d.no L s.tk).1,0,⟨d.node ((aG 4 d.no L s.tk).1.seen+1) 0,⟨aO 0,⟨#[]⟩,0⟩⟩::bN d ((aG 4 d.no L s.tk).1.seen+1) (dD fu),false,(aG 4 d.no L s.tk).1.seen+1,false⟩)
 | 1=>(s.k+1≠s.ps.length/\s' = { s with k:=s.k+1 })\/(s.k+1=s.ps.length/\∃ ps',nE d fr (fy fu s.id) ps' /\ s' = { s with pc:=2,sp:=true,k:=0,ps:=ps' })
 | 2=>(s.k+1≠s.ps.length/\s' = { s with k:=s.k+1 })\/(s.k+1=s.ps.length/\s' = { s with pc:=3,k:=s.k+1 })
 | _=>s'=s
structure fU.Ok (d:aR)(fu:Pg)(s:fU):Prop where
 pc:s.pc<=2
 tk:s.pc=0->d.fa<(fu.sl.length:Int)/\s.sp=false/\s.full=false/\((s.tk.pc=0/\s.tk.ok=false)\/(s.tk.pc=1/\s.tk.ok=false/\0<=s.tk.seen/\s.tk.seen<d.no))
 nw:s.pc=1->s.k<s.ps.length/\0<=s.id/\s.id<=d.no/\s.full=false
 wr:s.pc=2->s.k<s.ps.length/\s.full=false/\(s.sp=true\/(fu.sl.length:Int)<=d.fa)
structure yA (fr:cB)(fu:Pg)(s:fU)(x:oQ):Prop where
 on:x.on=true
 err:x.err=if s.full then 2 else 0
 le:x.le=if s.full then fr else⟨fr.id,dM (bC fr.word),s.pg fu⟩
 vl:∃ a c,x.vl=.slice a x.le.pg.sl.length c
 ri:x.ri=s.right fu
 vr:∃ a c,x.vr=.slice a x.ri.pg.sl.length c
 sep:x.sep=if s.sp then bM fu else⟨#[]⟩
def kI (d:aR)(fr:cB)(fu:Pg)(b:Nat)(s:fU)(C:List aB):Prop:=match s.pc with
 | 0=>∃ (B:TkB) (af au:Option Addr) (cf cu:Nat),C=bz b (aX (some (Gf B))) d (oT fr (.slice af fr.pg.sl.length cf) fu (.slice au fu.sl.length cu))::bq (.slice au fu.sl.length cu) fu::(Vh b B 4 d.no s.tk++[bq (.slice af fr.pg.sl.length cf) fr.pg])
 | 1=>∃ (B:Vg) (af au:Option Addr) (cf cu:Nat),(∃ a c,B.vq=.slice a (fy fu s.id).sl.length c)/\C=bz b (aX (some (sj B))) d (oT fr (.slice af fr.pg.sl.length cf) fu (.slice au fu.sl.length cu))::bq (.slice af fr.pg.sl.length cf) fr.pg::Mp b B s.id (dD fu) (fy fu s.id) (bM fu) s.ps s.k
 | 2=>∃ (B:Rq) (x:oQ) (af au:Option Addr) (cf cu:Nat),(x=if s.sp then Xa fr (.slice af fr.pg.sl.length cf) fu (.slice au fu.sl.length cu) s.id x.vr else oT fr (.slice af fr.pg.sl.length cf) fu (.slice au fu.sl.length cu))/\(∃ a c,x.vr=.slice a x.ri.pg.sl.length c)/\C=bz b (aX (some (oh B))) d x::(Eb b B fr.id (dM (bC fr.word)) (s.pg fu) s.ps s.k++[bq (.slice af fr.pg.sl.length cf) fr.pg,bq x.vr x.ri.pg])
 | _=>∃ x:oQ,yA fr fu s x/\C=[bz b .nilFunc d x,bq x.vl x.le.pg,bq x.vr x.ri.pg]
def oX (d:aR)(fr:cB)(fu:Pg)(s:fU):Prop:=
 ((fu.sl.length:Int)<=d.fa/\s.pc=2/\s.sp=false/\s.full=false/\s.k=0/\nE d fr fu s.ps)\/(d.fa<(fu.sl.length:Int)/\s=abc)
section
variable {K:aK}{w:World}{F:List aB}{b bm bc acc:Nat}{d:aR}{fr:cB}{fu:Pg}{L:List aP}{s:fU}{C:List aB}
theorem Cb {af:Option Addr}{cf:Nat}{key:ByteArray}{ref:Int}(hd:d.Ok)(hfr:fr.Ok d)(he:fu=aZ fr.pg key ref)(hno:decide (gM fr.pg.sl key<je fr.pg.sl key)=false)(dF:kV fr.pg.sl)(lp:lq d fr fu)(hs:St K w (bq (.slice af fr.pg.sl.length cf) fr.pg::F)) :
  Calls Tryz.prog 46 #[.agg #[.int .i64 (d).th,.int .i64 (d).sn,.int .i64 (d).no,.int .i64 (d).ch,.int .i64 (d).re,.int .i64 (d).fa,.int .u64 (d).cl],(.agg #[.int .u64 (fr).id,.int .u64 (fr).word,.int .i64 (fr).pg.az,(.slice af fr.pg.sl.length cf),.string (fr).pg.hi,.bool (fr).pg.la,.int .u64 (fr).pg.ri]),.string key,.int .u64 ref] w fun e w' => ∃ (b:Nat) (s:fU) (C:List aB),e=.returned (.pointer (some ⟨b,0,none⟩))/\oX d fr fu s/\kI d fr fu b s C/\St K w' (C++F):=by
 refine(yh hd hfr he hno dF (fun h=>lp.fit h) hs).mono ?_
 rintro e w' ⟨b,a,c,rfl,⟨hle,B,ps,hw,hs⟩|⟨hle,B,hs⟩⟩
 ·have hs:=(show St K w' (_::_::_::_::_::_::_::_::_::_::F)from hs)
  refine⟨b,⟨2,⟨0,0,false⟩,0,ps,false,0,false⟩,_,rfl,.inl ⟨hle,rfl,rfl,rfl,rfl,hw⟩,⟨B,oT fr (.slice af fr.pg.sl.length cf) fu (.slice a fu.sl.length c),af,a,cf,c,rfl,⟨none,0,rfl⟩,rfl⟩,?_⟩;exact((hs.cD (T:=69) (size:=2)).re [3,1,4,5,6,7,8,9,10,2,0] rfl).tail
 ·have hs:=(show St K w' (_::_::_::_::_::_::_::F)from hs)
  refine⟨b,abc,_,rfl,.inr ⟨hle,rfl⟩,⟨B,af,a,cf,c,rfl⟩,?_⟩;exact hs.re [0,2,3,4,5,6,1] rfl
theorem Mv (hd:d.Ok)(hL:bI L)(ha:acc<=1000000000000)(hfr:fr.Ok d)(lp:lq d fr fu)(hok:s.Ok d fu)(dm:kI d fr fu b s C)(hs:St K w (C++aJ bm bc L acc::F)) :
  Calls Tryz.prog 48 #[(.pointer (some ⟨b,0,none⟩)),(.pointer (some ⟨bm,0,none⟩))] w fun e w' => ∃ s' C',e=.returned (.bool (decide (3<=s'.pc)))/\iz d fr fu L s s' /\ kI d fr fu b s' C' /\ St K w' (C' ++ aJ bm bc (bQ d L s) (acc+1)::F):=by
 have iY:=hd.mM;have aiX:=hd.fw;have yB:=hd.mV;have Mw:=lp.len;have q:Calls Tryz.prog 77 #[(.pointer (some ⟨b,0,none⟩)),(.pointer (some ⟨bm,0,none⟩))] w fun e w' => ∃ v,e=.returned v/\∃ s' C',v=.bool (decide (3<=s'.pc))/\iz d fr fu L s s' /\ kI d fr fu b s' C' /\ St K w' (C' ++ aJ bm bc (bQ d L s) (acc+1)::F):=by
  obtain⟨pc,tk,k,ps,sp,id,full⟩:=s;have h3:=hok.pc;simp only at h3;rcases(by omega:pc=0\/pc=1\/pc=2)with rfl|rfl|rfl
  ·obtain⟨hle,hsp,wW,lJ⟩:=hok.tk rfl
   simp only at hsp wW lJ;subst hsp wW;obtain⟨B,af,au,cf,cu,rfl⟩:=dm;have hs:=(show St K w (bz b (aX (some (Gf B))) d (oT fr (.slice af fr.pg.sl.length cf) fu (.slice au fu.sl.length cu))::bq (.slice au fu.sl.length cu) fu::_::_::_::_::bq (.slice af fr.pg.sl.length cf) fr.pg::aJ bm bc L acc::F)from hs)
   have hs:St K w (bz b (aX (some (Gf B))) d (oT fr (.slice af fr.pg.sl.length cf) fu (.slice au fu.sl.length cu))::aJ bm bc L acc::bq (.slice au fu.sl.length cu) fu::(Vh b B 4 d.no tk++(bq (.slice af fr.pg.sl.length cf) fr.pg::F))):=hs.re [0,7,1,2,3,4,5,6] rfl;have Ag:tk.pc<2:=by rcases lJ with⟨h,_⟩|⟨h,_⟩ <;> omega
   have anf:tk.ok=false:=by rcases lJ with⟨_,h⟩|⟨_,h,_⟩ <;> exact h
   have hseen:(aG 4 d.no L tk).1.ok=true->0<=(aG 4 d.no L tk).1.seen/\(aG 4 d.no L tk).1.seen<18446744073709551615:=by
    intro h;rcases lJ with⟨h0,h1⟩|⟨h0,h1,h2,h4⟩
    ·obtain⟨pc,seen,ok⟩:=tk
     simp only at h0 h1;subst h0 h1;cases h
    ·obtain⟨pc,seen,ok⟩:=tk
     simp only at h0 h1 h2 h4;subst h0 h1;unfold aG at h ⊢;simp only at h ⊢;split
     ·simp only;omega
     ·rename_i hsw
      rw[if_neg hsw]at h;cases h
   refine(Wy (x:=oT fr (.slice af fr.pg.sl.length cf) fu (.slice au fu.sl.length cu)) B hd (by show 0<=fu.az/\fu.az<_;rw[lp.az];exact hfr.az) (show 2<=fu.sl.length by omega) Mw lp.k rfl rfl (s:=tk) Ag (fun e=>by
    rcases lJ with⟨h,_⟩|⟨_,_,h2,h4⟩
    ·omega
    ·omega) hseen ha hs).mono ?_
   rintro e w' (⟨h1,rfl,hs⟩|⟨h1,h2,rfl,hs⟩|⟨h1,h2,rfl,B',ps',rfl,y8,hs⟩)
   ·have hs:=(show St K w' (bz b (aX (some (Gf B))) d (oT fr (.slice af fr.pg.sl.length cf) fu (.slice au fu.sl.length cu))::aJ bm bc (aG 4 d.no L tk).2 (acc+1)::bq (.slice au fu.sl.length cu) fu::_::_::_::_::bq (.slice af fr.pg.sl.length cf) fr.pg::F)from hs)
    exact⟨_,rfl,_,_,rfl,.inl ⟨h1,rfl⟩,⟨B,af,au,cf,cu,rfl⟩,hs.re [0,2,3,4,5,6,7,1] rfl⟩
   ·have hs:=(hs.cD (T:=69) (size:=2))
    have hs:=(show St K w' (ak (.slice none 0 0) 69 2 0 []::_::_::_::bq (.slice af fr.pg.sl.length cf) fr.pg::F)from hs)
    refine⟨_,rfl,_,_,rfl,.inr (.inl ⟨h1,h2,rfl⟩),⟨{ oT fr (.slice af fr.pg.sl.length cf) fu (.slice au fu.sl.length cu)with err:=2,le:=fr,vl:=(.slice af fr.pg.sl.length cf) },⟨rfl,rfl,rfl,⟨af,cf,rfl⟩,rfl,⟨none,0,rfl⟩,rfl⟩,rfl⟩,?_⟩;exact(hs.re [3,1,4,0,2] rfl).tail
   ·have hs:=(show St K w' (_::_::_::_::_::_::_::_::_::_::_::_::_::bq (.slice af fr.pg.sl.length cf) fr.pg::F)from hs)
    refine⟨_,rfl,_,_,rfl,.inr (.inr ⟨h1,h2,rfl⟩),⟨B',af,au,cf,cu,y8,rfl⟩,?_⟩;exact(hs.re [2,0,13,3,4,5,6,7,8,9,10,11,12,1] rfl).tail
  ·obtain⟨hk,Xb,js,wW⟩:=hok.nw rfl
   simp only at hk Xb js wW;subst wW;obtain⟨B,af,au,cf,cu,y8,rfl⟩:=dm;have hg:=aqt hk;have hs:=(show St K w (bz b (aX (some (sj B))) d (oT fr (.slice af fr.pg.sl.length cf) fu (.slice au fu.sl.length cu))::bq (.slice af fr.pg.sl.length cf) fr.pg::_::_::_::_::_::_::_::_::_::_::aJ bm bc L acc::F)from hs)
   have hs:St K w (bz b (aX (some (sj B))) d (oT fr (.slice af fr.pg.sl.length cf) fu (.slice au fu.sl.length cu))::aJ bm bc L acc::bq (.slice af fr.pg.sl.length cf) fr.pg::(Mp b B id (dD fu) (fy fu id) (bM fu) ps k++F)):=hs.re [0,12,1,2,3,4,5,6,7,8,9,10,11] rfl;have hrl:(dD fu).sl.length<=1000000:=by
    show(fu.sl.drop _).length<=_
    rw[List.length_drop];omega
   have hmm:bQ d L ⟨1,tk,k,ps,sp,id,false⟩=aN L ps[k].i ps[k].c:=by
    show(match ps[k]? with|some pt=>aN L pt.i pt.c|none=>L)=_
    rw[hg]
   rw[hmm];refine(Wx (x:=oT fr (.slice af fr.pg.sl.length cf) fu (.slice au fu.sl.length cu)) B hd hfr (lp.left hd ⟨Xb,by omega⟩) (by show 0<=fu.az/\fu.az<_;rw[lp.az];exact hfr.az) hrl rfl y8 hg ha hs).mono ?_
   rintro e w' ⟨rfl,⟨hne,hs⟩|⟨he,va,B',ps',hw,hs⟩⟩
   ·have hs:=(show St K w' (_::aJ bm bc (aN L ps[k].i ps[k].c) (acc+1)::_::_::_::_::_::_::_::_::_::_::_::F)from hs)
    exact⟨_,rfl,_,_,rfl,.inl ⟨hne,rfl⟩,⟨B,af,au,cf,cu,y8,rfl⟩,hs.re [0,2,3,4,5,6,7,8,9,10,11,12,1] rfl⟩
   ·have hs:=(show St K w' (_::_::_::bq va (dD fu)::_::_::_::_::_::_::_::_::F)from hs)
    obtain⟨a,c,Ob,_,_⟩:=(show St K w' (ak va 69 2 (dD fu).sl.length (aD (dD fu).sl)::_)from hs.b3).aF
    refine⟨_,rfl,_,_,rfl,.inr ⟨he,ps',hw,rfl⟩,⟨B',Xa fr (.slice af fr.pg.sl.length cf) fu (.slice au fu.sl.length cu) id va,af,au,cf,cu,rfl,⟨a,c,Ob⟩,rfl⟩,?_⟩;exact(hs.re [4,0,5,6,7,8,9,10,11,2,3,1] rfl).tail
  ·obtain⟨hk,wW,hfit⟩:=hok.wr rfl
   simp only at hk wW hfit;subst wW;obtain⟨B,x,af,au,cf,cu,hx,hvr,rfl⟩:=dm;have hg:=aqt hk;have hpl:((⟨2,tk,k,ps,sp,id,false⟩:fU).pg fu).sl.length<=1000000:=by
    unfold fU.pg;split
    ·show(fu.sl.take _).length<=_
     rw[List.length_take];omega
    ·omega
   have hs:=(show St K w (bz b (aX (some (oh B))) d x::_::_::_::_::_::_::_::bq (.slice af fr.pg.sl.length cf) fr.pg::bq x.vr x.ri.pg::aJ bm bc L acc::F)from hs)
   have hs:St K w (bz b (aX (some (oh B))) d x::aJ bm bc L acc::(Eb b B fr.id (dM (bC fr.word)) ((⟨2,tk,k,ps,sp,id,false⟩:fU).pg fu) ps k++(bq (.slice af fr.pg.sl.length cf) fr.pg::bq x.vr x.ri.pg::F))):=hs.re [0,10,1,2,3,4,5,6,7,8,9] rfl;have hmm:bQ d L ⟨2,tk,k,ps,sp,id,false⟩=aN L ps[k].i ps[k].c:=by
    show(match ps[k]? with|some pt=>aN L pt.i pt.c|none=>L)=_
    rw[hg]
   rw[hmm];refine(Ww B hpl hg ha hs).mono ?_
   rintro e w' (⟨hne,rfl,hs⟩|⟨he,rfl,va,hs⟩)
   ·have hs:=(show St K w' (_::aJ bm bc (aN L ps[k].i ps[k].c) (acc+1)::_::_::_::_::_::_::_::bq (.slice af fr.pg.sl.length cf) fr.pg::bq x.vr x.ri.pg::F)from hs)
    exact⟨_,rfl,_,_,rfl,.inl ⟨hne,rfl⟩,⟨B,x,af,au,cf,cu,hx,hvr,rfl⟩,hs.re [0,2,3,4,5,6,7,8,9,10,1] rfl⟩
   ·obtain⟨a,c,Ob,_,_⟩:=(show St K w' (ak va 69 2 ((⟨2,tk,k,ps,sp,id,false⟩:fU).pg fu).sl.length (aD ((⟨2,tk,k,ps,sp,id,false⟩:fU).pg fu).sl)::_)from hs.b2).aF
    refine⟨_,rfl,_,_,rfl,.inr ⟨he,rfl⟩,⟨{ x with le:=⟨fr.id,dM (bC fr.word),(⟨2,tk,k,ps,sp,id,false⟩:fU).pg fu⟩,vl:=va },⟨?_,?_,rfl,⟨a,c,Ob⟩,?_,hvr,?_⟩,rfl⟩,(hs.re [3,0,2,4,1] rfl).tail⟩
    ·show x.on=true
     rw[hx];split <;> rfl
    ·show x.err=0
     rw[hx];split <;> rfl
    ·show x.ri=_
     rw[hx];show(if sp=true then Xa fr (.slice af fr.pg.sl.length cf) fu (.slice au fu.sl.length cu) id x.vr else oT fr (.slice af fr.pg.sl.length cf) fu (.slice au fu.sl.length cu)).ri=(if sp then _ else _)
     split <;> rfl
    ·show x.sep=_
     rw[hx];show(if sp=true then Xa fr (.slice af fr.pg.sl.length cf) fu (.slice au fu.sl.length cu) id x.vr else oT fr (.slice af fr.pg.sl.length cf) fu (.slice au fu.sl.length cu)).sep=(if sp then _ else _)
     split <;> rfl
 refine(Gj (P:=fun v w' => ∃ s' C',v=.bool (decide (3<=s'.pc))/\iz d fr fu L s s' /\ kI d fr fu b s' C' /\ St K w' (C' ++ aJ bm bc (bQ d L s) (acc+1)::F)) q ?_).mono ?_
 ·rintro v w' ⟨s',C',rfl,_⟩
  exact⟨_,rfl⟩
 ·rintro e w' ⟨v,rfl,s',C',rfl,h1,h2,h3⟩
  exact⟨s',C',rfl,h1,h2,h3⟩
end
end Go.Proofs.YtlpdhhhgckpcfaaGreat
