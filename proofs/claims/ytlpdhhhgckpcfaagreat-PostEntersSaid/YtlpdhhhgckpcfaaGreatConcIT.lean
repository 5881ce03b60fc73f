/- Insert in a memory that others chan. -/
import Derived.Test.YtlpdhhhgckpcfaaGreatPlant
namespace Go.Proofs.YtlpdhhhgckpcfaaGreat
set_option linter.unusedSimpArgs false
set_option linter.unusedVariables false
open Go.RowKit
set_option maxRecDepth 100000
section
def pK (d:aR)(L:List aO)(fr:cm):Prop:=Holds L (bP d fr.id fr.pg)/\ah L (d.node fr.id 0)=⟨fr.word,⟨#[]⟩,0⟩
def Ds (d:aR)(L:List aO)(id:Int)(q:Pg):Prop:=Holds L (bP d id q)/\ah L (d.node id 0)=⟨aN 0,⟨#[]⟩,0⟩
structure kT (d:aR)(fr:cm)(fu:Pg):Prop where
 hok:fr.Ok d
 lk:fr.word%4=1
 ver:fr.word+4<18446744073709551616
 Wp:lB d fr fu
structure Uo (d:aR)(L:List aO)(fr:cm)(id:Int):Prop where
 lo:1<=id
 hi:id<=d.no
 us:id<=(ah L 4).n
 ne:id≠fr.id
def iZ (d:aR)(L:List aO)(fr:cm)(fu:Pg)(s:fT):Prop:=match s.pc with
 | 0=>s.sp=false/\s.full=false/\d.fa<(fu.sl.length:Int)/\((s.tk.pc=0/\s.tk.ok=false)\/(s.tk.pc=1/\s.tk.ok=false/\0<=s.tk.seen/\s.tk.seen<d.no))/\pK d L fr
 | 1=>s.sp=false/\s.full=false/\2<=fu.sl.length/\Uo d L fr s.id/\s.ps=⟨d.node s.id 0,⟨aN 0,⟨#[]⟩,0⟩⟩::bP d s.id (dI fu)/\s.k<s.ps.length/\pK d L fr/\∀q,q∈s.ps.take s.k->ah L q.i=q.c
 | 2=>s.full=false/\(s.sp=false->(fu.sl.length:Int)<=d.fa)/\nI d fr (s.pg fu) s.ps/\s.k<s.ps.length/\(s.sp=true->2<=fu.sl.length/\Uo d L fr s.id/\Ds d L s.id (dI fu)) /\
   ∃L0:List aO,(L0.length:Int)=d.cells/\pK d L0 fr/\∀j:Int,0<=j->j<d.fa+4->ah L (d.node fr.id j)=ah (fy L0 (s.ps.take s.k)) (d.node fr.id j)
 | _=>s.pc=3/\((s.full=true/\s.sp=false/\pK d L fr)\/(s.full=false/\(s.sp=false->(fu.sl.length:Int)<=d.fa)/\(s.sp=true->2<=fu.sl.length/\Uo d L fr s.id/\Ds d L s.id (dI fu))/\Holds L (bP d fr.id (s.pg fu))/\ah L (d.node fr.id 0)=⟨dM (bE fr.word),⟨#[]⟩,0⟩))
section
variable {d:aR}{L L':List aO}{fr:cm}{fu:Pg}{s s':fT}
theorem pK.frame (hd:d.Ok)(hfr:fr.Ok d)(h:pK d L fr)(he:∀j:Int,0<=j->j<d.fa+4->ah L' (d.node fr.id j)=ah L (d.node fr.id j)):pK d L' fr:=
 ⟨h.1.frame hd hfr.id.1 hfr.id.2 hfr.pg.le (fun k a b=>he k (by omega) b),by rw[he 0 (by omega) (by have:=hd.fo;omega)];exact h.2⟩
theorem Ds.frame (hd:d.Ok){id:Int}{q:Pg}(h1:1<=id)(h2:id<=d.no)(hq:(q.sl.length:Int)<=d.fa)(h:Ds d L id q)(he:∀j:Int,0<=j->j<d.fa+4->ah L' (d.node id j)=ah L (d.node id j)):Ds d L' id q:=
 ⟨h.1.frame hd h1 h2 hq (fun k a b=>he k (by omega) b),by rw[he 0 (by omega) (by have:=hd.fo;omega)];exact h.2⟩
theorem qJ (hd:d.Ok)(K:kT d fr fu)(h:s.sp=false->(fu.sl.length:Int)<=d.fa):((s.pg fu).sl.length:Int)<=d.fa:=by
 have h1:=hd.fo;have h2:=K.Wp.len;unfold fT.pg;cases hsp:s.sp with
 | false=>exact h hsp
 | true=>
  show((fu.sl.take (gh fu.sl.length)).length:Int)<=d.fa
  rw[List.length_take];unfold gh;omega
theorem xH (hd:d.Ok)(K:kT d fr fu){id:Int}(h1:1<=id)(h2:id<=d.no):(∀q,q∈((⟨d.node id 0,⟨aN 0,⟨#[]⟩,0⟩⟩:Pt)::bP d id (dI fu))->∃k:Int,0<=k/\k<d.fa+4/\q.i=d.node id k)/\(((⟨d.node id 0,⟨aN 0,⟨#[]⟩,0⟩⟩:Pt)::bP d id (dI fu)).map (·.i)).Nodup:=by
 have f1:=hd.fo;have hle:=(K.Wp.right hd).le;constructor
 ·intro q hq
  rcases List.mem_cons.1 hq with rfl|hq
  ·exact⟨0,by omega,by omega,rfl⟩
  ·obtain⟨k,k1,k2,e⟩:=fJ hd h1 h2 hle q hq
   exact⟨k,by omega,k2,e⟩
 ·rw[List.map_cons,List.nodup_cons]
  refine⟨fun hm=>?_,nH hd h1 h2 hle⟩
  obtain⟨q,hq,e⟩:=List.mem_map.1 hm;obtain⟨k,k1,k2,e2⟩:=fJ hd h1 h2 hle q hq;exact dw hd h1 h2 (by omega) k2 (by omega) (by omega) (by omega) (e2.symm.trans e)
theorem iZ.ok (h:iZ d L fr fu s)(h2:s.pc<=2):s.Ok d fu:=by
 obtain⟨pc,tk,k,ps,sp,id,full⟩:=s;simp only at h2;rcases(by omega:pc=0\/pc=1\/pc=2)with rfl|rfl|rfl
 ·obtain⟨a,b,c,e,_⟩:=h
  exact⟨by simp,fun _=>⟨c,a,b,e⟩,fun h=>(by simp at h),fun h=>(by simp at h)⟩
 ·obtain⟨a,b,c,e,_,f,_⟩:=h
  exact⟨by simp,fun h=>(by simp at h),fun _=>⟨f,by have:=e.lo;simp only at this ⊢;omega,e.hi,b⟩,fun h=>(by simp at h)⟩
 ·obtain⟨a,b,c,e,f,_⟩:=h
  refine⟨by simp,fun h=>(by simp at h),fun h=>(by simp at h),fun _=>⟨e,a,?_⟩⟩
  cases sp with
  | false=>exact .inr (b rfl)
  | true=>exact .inl rfl
theorem fE (hd:d.Ok)(K:kT d fr fu)(h:iZ d L fr fu s){j:Int}(h4:s.pc=0->j≠4)(hf:s.pc=2->∀k:Int,0<=k->k<d.fa+4->j≠d.node fr.id k)(hn:s.pc=1->∀k:Int,0<=k->k<d.fa+4->j≠d.node s.id k):ah (bT d L s) j=ah L j:=by
 obtain⟨pc,tk,k,ps,sp,id,full⟩:=s;match pc,h with
 | 0,h=>
  obtain⟨tp,seen,ok⟩:=tk;show ah (aF 4 d.no L ⟨tp,seen,ok⟩).2 j=_
  unfold aF;split
  ·rfl
  ·simp only
   split
   ·exact bj (h4 rfl)
   ·rfl
  ·rfl
 | 1,h=>
  obtain⟨_,_,_,hid,hps,hk,_⟩:=h;simp only at hps hk hid;show ah (match ps[k]? with|some pt=>aP L pt.i pt.c|none=>L) j=_
  rw[aq8 hk];obtain⟨q,a,b,e⟩:=(xH hd K hid.lo hid.hi).1 ps[k] (by rw[←hps];exact List.getElem_mem hk)
  show ah (aP L ps[k].i ps[k].c) j=_
  exact bj (by rw[e];exact hn rfl q a b)
 | 2,h=>
  obtain⟨_,hsp,hw,hk,_⟩:=h;replace hk:k<ps.length:=hk;show ah (match ps[k]? with|some pt=>aP L pt.i pt.c|none=>L) j=_
  rw[aq8 hk];obtain⟨q,a,b,e⟩:=hw.addr hd K.hok.id.1 K.hok.id.2 (qJ hd K hsp) ps[k] (List.getElem_mem hk);show ah (aP L ps[k].i ps[k].c) j=_
  exact bj (by rw[e];exact hf rfl q a b)
 | n+3,h=>rfl
theorem xI:(bT d L s).length=L.length:=by
 obtain⟨pc,tk,k,ps,sp,id,full⟩:=s;match pc with
 | 0=>
  show(aF 4 d.no L tk).2.length=_
  unfold aF;split
  ·rfl
  ·split
   ·exact(aY L 4 _:(aP L 4 _).length=L.length)
   ·rfl
  ·rfl
 | 1=>
  show(match ps[k]? with|some pt=>aP L pt.i pt.c|none=>L).length=_
  split
  ·exact aY _ _ _
  ·rfl
 | 2=>
  show(match ps[k]? with|some pt=>aP L pt.i pt.c|none=>L).length=_
  split
  ·exact aY _ _ _
  ·rfl
 | n+3=>rfl
theorem oq (hd:d.Ok)(hlen:(L.length:Int)=d.cells)(K:kT d fr fu)(h4:fr.id<=(ah L 4).n)(h40:0<=(ah L 4).n)(h:iZ d L fr fu s)(h2:s.pc<=2)(hn:iC d fr fu L s s'):iZ d (bT d L s) fr fu s' := by
 have f1:=hd.fo;have hid:=K.hok.id;have hcl:=gF hd;have ju:=fun(j:Int)=>fE (j:=j) hd K h
 obtain⟨pc,tk,k,ps,sp,id,full⟩:=s;simp only at h2;rcases(by omega:pc=0\/pc=1\/pc=2)with rfl|rfl|rfl
 ·have hold:pK d (bT d L ⟨0,tk,k,ps,sp,id,full⟩) fr:=h.2.2.2.2.frame hd K.hok (fun j a b=>ju _ (fun _=>(gH hd hid.1 hid.2 j a b).symm) (fun e=>by cases e) (fun e=>by cases e))
  obtain⟨a1,a2,a3,a4,_⟩:=h;simp only at a1 a2 a3 a4;subst a1 a2;obtain⟨tp,seen,ok⟩:=tk;simp only at a4;rcases a4 with⟨rfl,rfl⟩|⟨rfl,rfl,b1,b2⟩
  ·have e1:aF 4 d.no L ⟨0,seen,false⟩=(⟨if d.no<=(ah L 4).n then 2 else 1,(ah L 4).n,false⟩,L):=rfl
   simp only[iC,e1]at hn;rcases hn with⟨c1,rfl⟩|⟨c1,_,rfl⟩|⟨_,c2,_⟩
   ·have hno:¬ d.no<=(ah L 4).n:=fun hc=>by rw[if_pos hc]at c1;omega
    refine⟨rfl,rfl,a3,.inr ⟨by show(if _ then 2 else 1)=1;rw[if_neg hno],rfl,h40,by show(ah L 4).n<d.no;omega⟩,hold⟩
   ·exact⟨rfl,.inl ⟨rfl,rfl,hold⟩⟩
   ·cases c2
  ·by_cases hsw:bX L 4 seen=true
   ·have e1:aF 4 d.no L ⟨1,seen,false⟩=(⟨2,seen,true⟩,aP L 4 ⟨seen+1,⟨#[]⟩,0⟩):=by
     show(if bX L 4 seen then _ else _)=_
     rw[if_pos hsw]
    have hseen:(ah L 4).n=seen:=by
     unfold bX at hsw;simp only[Bool.and_eq_true,decide_eq_true_eq]at hsw;exact hsw.2
    simp only[iC,e1]at hn;rcases hn with⟨c1,_⟩|⟨_,c1,_⟩|⟨_,_,rfl⟩
    ·omega
    ·cases c1
    ·refine⟨rfl,rfl,by have:=f1;omega,⟨by show 1<=seen+1;omega,by show seen+1<=d.no;omega,?_,by show seen+1≠fr.id;omega⟩,rfl,by simp,hold,fun q hq=>by simp at hq⟩
     show seen+1<=(ah (aF 4 d.no L ⟨1,seen,false⟩).2 4).n
     rw[e1];show seen+1<=(ah (aP L 4 ⟨seen+1,⟨#[]⟩,0⟩) 4).n
     rw[cB (by omega) (by omega)]
     exact Int.le_refl _
   ·have e1:aF 4 d.no L ⟨1,seen,false⟩=(⟨0,seen,false⟩,L):=by
     show(if bX L 4 seen then _ else _)=_
     rw[if_neg hsw]
    simp only[iC,e1]at hn;rcases hn with⟨_,rfl⟩|⟨c1,_⟩|⟨c1,_⟩
    ·exact⟨rfl,rfl,a3,.inl ⟨rfl,rfl⟩,hold⟩
    ·omega
    ·omega
 ·obtain⟨a1,a2,a3,a4,a5,a6,a7,a8⟩:=h
  simp only at a1 a2 a3 a4 a5 a6 a8;subst a1 a2;have hap:∀j j':Int,0<=j->j<d.fa+4->0<=j' -> j' < d.fa+4->d.node fr.id j≠d.node id j' := fun j j' x y x' y' => cK hd hid.1 hid.2 a4.lo a4.hi x y x' y' a4.ne.symm
  have hold:pK d (bT d L ⟨1,tk,k,ps,false,id,false⟩) fr:=a7.frame hd K.hok (fun j a b=>ju _ (fun e=>by cases e) (fun e=>by cases e) (fun _ q x y=>hap j q a b x y))
  have h44:ah (bT d L ⟨1,tk,k,ps,false,id,false⟩) 4=ah L 4:=ju 4 (fun e=>by cases e) (fun e=>by cases e) (fun _ q x y=>gH hd a4.lo a4.hi q x y)
  obtain⟨n1,n2⟩:=xH hd K a4.lo a4.hi;rw[←a5]at n1 n2;have hmm:bT d L ⟨1,tk,k,ps,false,id,false⟩=aP L ps[k].i ps[k].c:=by
   show(match ps[k]? with|some pt=>aP L pt.i pt.c|none=>L)=_
   rw[aq8 a6]
  have hst:∀q,q∈ps.take (k+1)->ah (bT d L ⟨1,tk,k,ps,false,id,false⟩) q.i=q.c:=by
   intro q hq;rw[hmm];obtain⟨i0,oH⟩:=aq4 hq;rw[List.getElem?_take]at oH;split at oH
   ·rename_i hik
    obtain⟨c,ca,cb,ce⟩:=n1 ps[k] (List.getElem_mem a6);have hin:=bV hd a4.lo a4.hi ca cb;by_cases e:i0=k
    ·subst e
     rw[aq8 a6]at oH;obtain rfl:=aq9 oH;exact cB (by rw[ce];exact hin.2.1) (by rw[ce];omega)
    ·have hne:q.i≠ps[k].i:=by
      rw[List.nodup_iff_pairwise_ne,List.pairwise_map,List.pairwise_iff_getElem]at n2;have Rg:=(aq5.1 oH);have:=n2 i0 k Rg.1 a6 (by omega)
      rw[Rg.2]at this;exact this
     rw[bj hne];exact a8 q (aq7 (i:=i0) (by rw[List.getElem?_take,if_pos (by omega)];exact oH))
   ·cases oH
  have hIn:Uo d (bT d L ⟨1,tk,k,ps,false,id,false⟩) fr id:=⟨a4.lo,a4.hi,by rw[h44];exact a4.us,a4.ne⟩
  rcases hn with⟨c1,rfl⟩|⟨c1,ps',hw,rfl⟩
  ·simp only at c1
   exact⟨rfl,rfl,a3,hIn,a5,by show k+1<ps.length;omega,hold,hst⟩
  ·simp only at c1 hw
   rw[c1,List.take_length]at hst;have hnew:Ds d (bT d L ⟨1,tk,k,ps,false,id,false⟩) id (dI fu):=⟨fun q hq=>hst q (by rw[a5];exact List.mem_cons_of_mem _ hq),hst ⟨d.node id 0,⟨aN 0,⟨#[]⟩,0⟩⟩ (by rw[a5];exact List.mem_cons_self)⟩
   have hwl:=hw.len;refine⟨rfl,fun e=>(by cases e),hw,by show 0<ps'.length;omega,fun _=>⟨a3,hIn,hnew⟩,_,?_,hold,fun j _ _=>rfl⟩
   rw[xI];exact hlen
 ·obtain⟨a1,a2,a3,a4,a5,L0,b1,b2,b3⟩:=h
  simp only at a1 a2 a3 a4 a5 b3;subst a1;have hle:=qJ (s:=⟨2,tk,k,ps,sp,id,false⟩) hd K a2;have hwa:=a3.addr hd hid.1 hid.2 hle;have h44:ah (bT d L ⟨2,tk,k,ps,sp,id,false⟩) 4=ah L 4:=ju 4 (fun e=>by cases e) (fun _ q x y=>gH hd hid.1 hid.2 q x y) (fun e=>by cases e)
  have hmm:bT d L ⟨2,tk,k,ps,sp,id,false⟩=aP L ps[k].i ps[k].c:=by
   show(match ps[k]? with|some pt=>aP L pt.i pt.c|none=>L)=_
   rw[aq8 a4]
  have hown:∀j:Int,0<=j->j<d.fa+4->ah (bT d L ⟨2,tk,k,ps,sp,id,false⟩) (d.node fr.id j)=ah (fy L0 (ps.take (k+1))) (d.node fr.id j):=by
   intro j x y;rw[hmm,Cj (aq8 a4)];obtain⟨c,ca,cb,ce⟩:=hwa ps[k] (List.getElem_mem a4);have hin:=bV hd hid.1 hid.2 ca cb;by_cases e:d.node fr.id j=ps[k].i
   ·rw[e,cB (by rw[ce];exact hin.2.1) (by rw[ce];omega),cB (by rw[ce];exact hin.2.1) (by rw[ce,kM];omega)]
   ·rw[bj e,bj e]
    exact b3 j x y
  have hnew:sp=true->2<=fu.sl.length/\Uo d (bT d L ⟨2,tk,k,ps,sp,id,false⟩) fr id/\Ds d (bT d L ⟨2,tk,k,ps,sp,id,false⟩) id (dI fu):=fun e=>by
   obtain⟨x1,x2,x3⟩:=a5 e;refine⟨x1,⟨x2.lo,x2.hi,by rw[h44];exact x2.us,x2.ne⟩,x3.frame hd x2.lo x2.hi (K.Wp.right hd).le (fun j x y=>ju _ (fun e=>by cases e) (fun _ q p r=>cK hd x2.lo x2.hi hid.1 hid.2 x y p r x2.ne) (fun e=>by cases e))⟩
  rcases hn with⟨c1,rfl⟩|⟨c1,rfl⟩
  ·simp only at c1
   exact⟨rfl,a2,a3,by show k+1<ps.length;omega,hnew,L0,b1,b2,hown⟩
  ·simp only at c1
   rw[c1,List.take_length]at hown;obtain⟨e1,_,_⟩:=abL hd a3 hid.1 hid.2 hle b1 b2.1;refine⟨rfl,.inr ⟨rfl,a2,hnew,?_,?_⟩⟩
   ·exact e1.frame hd hid.1 hid.2 hle (fun j x y=>hown j (by omega) y)
   ·rw[hown 0 (by omega) (by omega)]
    obtain⟨mid,hm,rfl⟩:=a3;exact uC hd hid.1 hid.2 b1
end
theorem cD.m {d:aR}{L:List aO}{t:List (List Nd)}(ht:cD d L t):dQ d L t:=
 ⟨ht.shp,ht.n4,ht.top,fun k l hk nd hn _=>by
  have h:=ht.nodes k l hk nd hn;exact⟨h.page,h.hold,h.free.k,h.free.m⟩,fun k l hk nd hn _=>(ht.nodes k l hk nd hn).free.n⟩
theorem dQ.ok {d:aR}{L:List aO}{t:List (List Nd)}(ht:dQ d L t)(hf:∀(k:Nat)(l:List Nd),t[k]?=some l->∀nd,nd∈l->(ah L (d.node nd.id 0)).n%4=0):cD d L t:=by
 refine cD.of ht.sh ht.n4 ht.root (fun k l hk nd hn=>?_)
 have h0:=hf k l hk nd hn;have h:=ht.node k l hk nd hn (by unfold bW;exact decide_eq_false (by omega))
 exact⟨h.page,h.hold,h0,h.k,h.m⟩
structure FuT (t:List (List Nd))(k:Nat)(nd:Nd)(fu:Pg):Prop where
 ak:fu.ak=nd.pg.ak
 hi:fu.hi=nd.pg.hi
 la:fu.la=nd.pg.la
 ri:fu.ri=nd.pg.ri
 nds:Lb { nd with pg:=fu }
 down:∀(m:Nat) (l0:List Nd),k=m+1->t[m]?=some l0->kg l0 { nd with pg:=fu }
structure qK (t:List (List Nd))(k i:Nat)(l:List Nd)(nd:Nd)(fr:cm)(fu:Pg):Prop where
 hk:t[k]?=some l
 hi:l[i]?=some nd
 id:nd.id=fr.id
 pg:nd.pg=fr.pg
 fu:FuT t k nd fu
def Iy (t:List (List Nd))(id:Int):Prop:=∀(k:Nat) (l:List Nd),t[k]?=some l->∀c,c∈l->c.id≠id
def qL (t:List (List Nd))(s:fT):Prop:=(s.pc=1\/(s.pc=2/\s.sp=true))->Iy t s.id
theorem nU {x:Int}(h:x%4=1):bE x=x+2/\bW (bE x)=true/\bW x=false:=by
 have e:bE x=x+2:=by unfold bE;rw[if_pos (by omega)]
 rw[e];exact⟨rfl,by unfold bW;exact decide_eq_true (by omega),by unfold bW;exact decide_eq_false (by omega)⟩
theorem zl {x:Int}(h:x%4=1)(h0:0<=x)(h1:x+4<18446744073709551616):dM (bE x)=x+4:=by
 rw[(nU h).1];unfold dM p9;rw[if_neg (by omega),IntKind.wrap_u64]
 omega
section
variable {d:aR}{L L':List aO}{t t':List (List Nd)}{fr:cm}{fu:Pg}{s s':fT}{k i:Nat}{l:List Nd}{nd:Nd}
theorem iZ.word (hd:d.Ok)(K:kT d fr fu)(h:iZ d L fr fu s)(h2:s.pc<=2):ah L (d.node fr.id 0)=⟨if s.pc=2/\1<=s.k then bE fr.word else fr.word,⟨#[]⟩,0⟩:=by
 have f1:=hd.fo;obtain⟨pc,tk,k,ps,sp,id,full⟩:=s;simp only at h2;rcases(by omega:pc=0\/pc=1\/pc=2)with rfl|rfl|rfl
 ·exact h.2.2.2.2.2
 ·exact h.2.2.2.2.2.2.1.2
 ·obtain⟨a1,a2,a3,a4,a5,L0,b1,b2,b3⟩:=h
  have a4:k<ps.length:=a4;rw[b3 0 (by omega) (by omega)]
  show ah (fy L0 (ps.take k)) _=⟨if 2=2/\1<=k then _ else _,_,_⟩
  by_cases h1:1<=k
  ·rw[if_pos ⟨rfl,h1⟩]
   obtain⟨mid,hm,e⟩:=a3;simp only at e;subst e;refine Nj hd K.hok.id.1 K.hok.id.2 hm.1 b1 (qJ hd K a2) h1 ?_
   simp at a4;omega
  ·rw[if_neg (fun h=>h1 h.2)]
   obtain rfl:k=0:=by omega
   exact b2.2
theorem iZ.old (hd:d.Ok)(K:kT d fr fu)(h:iZ d L fr fu s)(h2:s.pc<=2)(hc:bW (ah L (d.node fr.id 0)).n=false):pK d L fr:=by
 have hw:=h.word hd K h2;have hlk:=K.lk;obtain⟨pc,tk,k,ps,sp,id,full⟩:=s;simp only at h2;rcases(by omega:pc=0\/pc=1\/pc=2)with rfl|rfl|rfl
 ·exact h.2.2.2.2
 ·exact h.2.2.2.2.2.2.1
 ·obtain⟨a1,a2,a3,a4,a5,L0,b1,b2,b3⟩:=h
  simp only at hw b3;by_cases h1:1<=k
  ·rw[hw,if_pos ⟨trivial,h1⟩]at hc
   rw[show bW _=true from(nU hlk).2.1]at hc
   cases hc
  ·obtain rfl:k=0:=by omega
   exact b2.frame hd K.hok b3
theorem pK.ndc (hd:d.Ok)(K:kT d fr fu)(h:pK d L fr)(kN:fr.pg.la=true->fr.pg.hi=⟨#[]⟩)(hid:nd.id=fr.id)(kW:nd.pg=fr.pg):Un d L nd:=by
 refine⟨?_,?_,?_,?_⟩
 ·rw[hid,kW];exact lF h.1 K.hok.ak K.hok.pg.le kN
 ·rw[hid,kW];exact h.1
 ·rw[hid,h.2]
 ·rw[hid,h.2]
theorem iZ.ver (hd:d.Ok)(hlen:(L.length:Int)=d.cells)(K:kT d fr fu)(h4:fr.id<=(ah L 4).n)(h40:0<=(ah L 4).n)(h:iZ d L fr fu s)(h2:s.pc<=2)(hn:iC d fr fu L s s') :
  (∀pg,(s'.pc<=2\/s'.full=true)->kG (ah L (d.node fr.id 0)).n (ah (bT d L s) (d.node fr.id 0)).n pg pg)/\(∀pg lN,s'.pc=3->s'.full=false->kG (ah L (d.node fr.id 0)).n (ah (bT d L s) (d.node fr.id 0)).n pg lN):=by
 have hI:=oq hd hlen K h4 h40 h h2 hn;have hw:=h.word hd K h2;obtain⟨e1,e2,e3⟩:=nU K.lk;have e4:=zl K.lk K.hok.word.1 K.ver;have hlk:=K.lk;have same:ah (bT d L s) (d.node fr.id 0)=ah L (d.node fr.id 0)->∀pg,kG (ah L (d.node fr.id 0)).n (ah (bT d L s) (d.node fr.id 0)).n pg pg:=fun e pg=>by
  rw[e];exact kG.refl _ _
 constructor
 ·intro pg hs
  obtain⟨pc,tk,k,ps,sp,id,full⟩:=s;simp only at h2 hw;rcases(by omega:pc=0\/pc=1\/pc=2)with rfl|rfl|rfl
  ·exact same (fE hd K h (fun _=>(gH hd K.hok.id.1 K.hok.id.2 0 (by omega) (by have:=hd.fo;omega)).symm) (fun e=>by cases e) (fun e=>by cases e)) pg
  ·have hid:=h.2.2.2.1
   have f1:=hd.fo;exact same (fE hd K h (fun e=>by cases e) (fun e=>by cases e) (fun _ q x y=>cK hd K.hok.id.1 K.hok.id.2 hid.lo hid.hi (by omega) (by omega) x y hid.ne.symm)) pg
  ·rcases hn with⟨c1,rfl⟩|⟨c1,rfl⟩
   ·have hw1:(ah (bT d L ⟨2,tk,k,ps,sp,id,full⟩) (d.node fr.id 0)).n=bE fr.word:=by
     rw[hI.word hd K (Nat.le_refl 2)];show(if 2=2/\1<=k+1 then bE fr.word else fr.word)=_
     rw[if_pos ⟨rfl,Nat.le_add_left 1 k⟩]
    have hw0:(ah L (d.node fr.id 0)).n=if 1<=k then bE fr.word else fr.word:=by
     rw[hw];by_cases h1:1<=k
     ·rw[if_pos h1,if_pos ⟨rfl,h1⟩]
     ·rw[if_neg h1,if_neg (fun h=>h1 h.2)]
    rw[hw1,hw0];by_cases h1:1<=k
    ·rw[if_pos h1]
     exact kG.refl _ _
    ·rw[if_neg h1]
     refine⟨by omega,fun _ hc=>?_⟩
     rw[e2]at hc;cases hc
   ·rcases hs with hs|hs
    ·exact absurd hs (by simp)
    ·have:=h.1
     simp only at hs this;rw[this]at hs;cases hs
 ·intro pg lN h3 hf
  have hI' := hI;obtain⟨La,tk',k',ps',sp',id',Dm⟩:=s';simp only at h3 hf;subst h3 hf;obtain⟨_,⟨q,_⟩|⟨_,_,_,_,hw'⟩⟩:=hI'
  ·cases q
  ·rw[hw',hw,e4]
   refine⟨?_,fun h _=>?_⟩
   ·show(if _ then _ else _) / 4<=(fr.word+4) / 4
    split <;> omega
   ·exfalso
    have h:(if s.pc=2/\1<=s.k then bE fr.word else fr.word) / 4=(fr.word+4) / 4:=h
    split at h <;> omega
theorem iZ.other (hd:d.Ok)(K:kT d fr fu)(h:iZ d L fr fu s)(hF:qL t s){k':Nat}{l':List Nd}{c:Nd}(hk:t[k']?=some l')(hc:c∈l')(h1:1<=c.id)(h2:c.id<=d.no)(hne:c.id≠fr.id) :
  ∀j:Int,0<=j->j<d.fa+4->ah (bT d L s) (d.node c.id j)=ah L (d.node c.id j):=by
 intro j x y;refine fE hd K h (fun _=>(gH hd h1 h2 j x y).symm) (fun _ q p r=>cK hd h1 h2 K.hok.id.1 K.hok.id.2 x y p r hne) (fun hp q p r=>?_)
 have hs:=hF (.inl hp) k' l' hk c hc;obtain⟨pc,tk,k,ps,sp,id,full⟩:=s;simp only at hp;subst hp;exact cK hd h1 h2 h.2.2.2.1.lo h.2.2.2.1.hi x y p r hs
theorem gW (hd:d.Ok):∀id j:Int,1<=id->id<=d.no->0<=j->j<d.fa+4->8<=d.node id j:=fun id k i1 i2 a b=>by
 have n0:=(bV hd i1 i2 a b).1;have hA:=hd.eC;have f1:=hd.fo;have m3:0<=(id-1)*(d.fa+4):=Int.mul_nonneg (by omega) (by omega)
 omega
theorem iZ.low (hd:d.Ok)(K:kT d fr fu)(h:iZ d L fr fu s){j:Int}(hj:j<8)(h4:j≠4):ah (bT d L s) j=ah L j:=by
 refine fE hd K h (fun _=>h4) (fun _ q p r=>?_) (fun hp q p r=>?_)
 ·have:=gW hd fr.id q K.hok.id.1 K.hok.id.2 p r
  omega
 ·obtain⟨pc,tk,k,ps,sp,id,full⟩:=s
  simp only at hp;subst hp;have:=gW hd id q h.2.2.2.1.lo h.2.2.2.1.hi p r;show j≠d.node id q
  omega
theorem iZ.n4 (hd:d.Ok)(hlen:(L.length:Int)=d.cells)(K:kT d fr fu)(h:iZ d L fr fu s)(hn:(ah L 4).n<=d.no):(ah L 4).n<=(ah (bT d L s) 4).n/\(ah (bT d L s) 4).n<=d.no:=by
 have hcl:=gF hd;by_cases h0:s.pc=0
 ·obtain⟨pc,tk,k,ps,sp,id,full⟩:=s
  simp only at h0;subst h0;obtain⟨_,_,_,a4,_⟩:=h;obtain⟨tp,seen,ok⟩:=tk;simp only at a4;show(ah L 4).n<=(ah (aF 4 d.no L ⟨tp,seen,ok⟩).2 4).n/\(ah (aF 4 d.no L ⟨tp,seen,ok⟩).2 4).n<=d.no
  rcases a4 with⟨rfl,rfl⟩|⟨rfl,rfl,b1,b2⟩
  ·exact⟨Int.le_refl _,hn⟩
  ·unfold aF
   simp only;by_cases hsw:bX L 4 seen=true
   ·rw[if_pos hsw]
    have hseen:(ah L 4).n=seen:=by
     unfold bX at hsw;simp only[Bool.and_eq_true,decide_eq_true_eq]at hsw;exact hsw.2
    show(ah L 4).n<=(ah (aP L 4 ⟨seen+1,⟨#[]⟩,0⟩) 4).n/\(ah (aP L 4 ⟨seen+1,⟨#[]⟩,0⟩) 4).n<=d.no
    rw[cB (by omega) (by omega)]
    exact⟨by show _<=seen+1;omega,by show seen+1<=_;omega⟩
   ·rw[if_neg hsw]
    exact⟨Int.le_refl _,hn⟩
 ·rw[fE hd K h (fun e=>absurd e h0) (fun _=>gH hd K.hok.id.1 K.hok.id.2) (fun hp=>?_)]
  ·exact⟨Int.le_refl _,hn⟩
  ·obtain⟨pc,tk,k,ps,sp,id,full⟩:=s
   simp only at hp;subst hp;exact gH hd h.2.2.2.1.lo h.2.2.2.1.hi
theorem qL.step (ht:dQ d L t)(hI:iZ d L fr fu s)(hF:qL t s)(h2:s.pc<=2)(hn:iC d fr fu L s s')(h3:s'.pc<=2):qL t s' := by
 obtain⟨pc,tk,k,ps,sp,id,full⟩:=s;simp only at h2;rcases(by omega:pc=0\/pc=1\/pc=2)with rfl|rfl|rfl
 ·rcases hn with⟨c1,rfl⟩|⟨c1,c2,rfl⟩|⟨c1,c2,rfl⟩
  ·rintro (h|⟨h,_⟩) <;> exact absurd h (by simp)
  ·exact absurd h3 (by simp)
  ·intro _ k' l' hk c hc
   obtain⟨_,_,_,a4,_⟩:=hI;obtain⟨tp,seen,ok⟩:=tk;simp only at a4;rcases a4 with⟨rfl,rfl⟩|⟨rfl,rfl,b1,b2⟩
   ·cases c2
   ·by_cases hsw:bX L 4 seen=true
    ·have e1:aF 4 d.no L ⟨1,seen,false⟩=(⟨2,seen,true⟩,aP L 4 ⟨seen+1,⟨#[]⟩,0⟩):=by
      show(if bX L 4 seen then _ else _)=_
      rw[if_pos hsw]
     have hseen:(ah L 4).n=seen:=by
      unfold bX at hsw;simp only[Bool.and_eq_true,decide_eq_true_eq]at hsw;exact hsw.2
     have:=(ht.sh.nodes k' l' hk c hc).1.2;show c.id≠(aF 4 d.no L ⟨1,seen,false⟩).1.seen+1
     rw[e1];show c.id≠seen+1
     omega
    ·have e1:aF 4 d.no L ⟨1,seen,false⟩=(⟨0,seen,false⟩,L):=by
      show(if bX L 4 seen then _ else _)=_
      rw[if_neg hsw]
     rw[e1]at c1;exact absurd c1 (by simp)
 ·rcases hn with⟨c1,rfl⟩|⟨c1,ps',hw,rfl⟩
  ·exact fun _=>hF (.inl rfl)
  ·exact fun _=>hF (.inl rfl)
 ·rcases hn with⟨c1,rfl⟩|⟨c1,rfl⟩
  ·rintro (h|⟨_,h⟩)
   ·exact absurd h (by simp)
   ·exact hF (.inr ⟨rfl,h⟩)
  ·exact absurd h3 (by simp)
theorem qK.at (ht:dQ d L t)(H:qK t k i l nd fr fu){k' j:Nat}{l':List Nd}{c:Nd}(hk:t[k']?=some l')(hj:l'[j]?=some c)(he:c.id=fr.id):k'=k/\j=i/\c=nd:=by
 obtain⟨rfl,rfl⟩:=ht.sh.inj k' k l' l j i c nd hk H.hk hj H.hi (by rw[he,H.id])
 have h1:=H.hk;rw[hk]at h1;obtain rfl:=aq9 h1;have h2:=H.hi;rw[hj]at h2;exact⟨rfl,rfl,aq9 h2⟩
theorem Uq (hd:d.Ok)(hlen:(L.length:Int)=d.cells)(K:kT d fr fu)(ht:dQ d L t)(H:qK t k i l nd fr fu)(hI:iZ d L fr fu s)(hF:qL t s)(h2:s.pc<=2)(hn:iC d fr fu L s s')(h3:s'.pc<=2\/s'.full=true) :
  dQ d (bT d L s) t/\wA d L t (bT d L s) t:=by
 have hnd:=aq7 H.hi;have Wq:=(ht.sh.nodes k l H.hk nd hnd).1;have Iz:=H.id;have hIs:=oq hd hlen K (by omega) (by omega) hI h2 hn
 have hv:=(hI.ver hd hlen K (by omega) (by omega) h2 hn).1
 obtain⟨n1,n2⟩:=hI.n4 hd hlen K ht.n4;have htn:=ht.n4;have kN:fr.pg.la=true->fr.pg.hi=⟨#[]⟩:=fun h=>by
  rw[←H.pg]at h ⊢;exact((ht.sh.rows k l H.hk).xz hnd h).1
 have hwd:∀(k':Nat) (l':List Nd),t[k']?=some l' -> ∀c,c∈l' -> (ah (bT d L s) (d.node c.id 0)).n%2=0->(ah (bT d L s) (d.node c.id 0)).n%4=0:=by
  intro k' l' hk' c hc hev;have hcb:=(ht.sh.nodes k' l' hk' c hc).1;by_cases he:c.id=fr.id
  ·exfalso
   rw[he]at hev;have hlk:=K.lk;have acg:(ah (bT d L s) (d.node fr.id 0)).n%2=1:=by
    by_cases h3':s'.pc<=2
    ·rw[hIs.word hd K h3']
     show(if s'.pc=2/\1<=s'.k then bE fr.word else fr.word)%2=1
     have:=(nU K.lk).1;split <;> omega
    ·obtain⟨La,tk',k',ps',sp',id',Dm⟩:=s'
     obtain⟨La,rfl⟩:∃m,La=m+3:=⟨La-3,by simp only at h3';omega⟩
     rcases h3 with h3|h3
     ·exact absurd h3 h3'
     ·simp only at h3
      subst h3;obtain⟨_,⟨_,_,q⟩|⟨q,_⟩⟩:=hIs
      ·rw[q.2]
       show fr.word%2=1
       omega
      ·cases q
   omega
  ·have ho:=hI.other hd K hF hk' hc hcb.1 (by omega) he
   have f1:=hd.fo;rw[ho 0 (by omega) (by omega)]at hev ⊢
   exact ht.wd k' l' hk' c hc hev
 constructor
 ·refine⟨ht.sh.mono n1,n2,by rw[hI.low hd K (by omega) (by omega)];exact ht.root,fun k' l' hk' c hc hch=>?_,hwd⟩
  have hcb:=(ht.sh.nodes k' l' hk' c hc).1;by_cases he:c.id=fr.id
  ·obtain⟨j,hj⟩:=aq4 hc
   obtain⟨rfl,rfl,rfl⟩:=H.at ht hk' hj he;have hold:pK d (bT d L s) fr:=by
    rcases h3 with h3|h3
    ·exact hIs.old hd K h3 (by rw[←he];exact hch)
    ·by_cases h3':s'.pc<=2
     ·exact hIs.old hd K h3' (by rw[←he];exact hch)
     ·obtain⟨La,tk',k',ps',sp',id',Dm⟩:=s'
      obtain⟨La,rfl⟩:∃m,La=m+3:=⟨La-3,by simp only at h3';omega⟩
      simp only at h3;subst h3;obtain⟨_,⟨_,_,q⟩|⟨q,_⟩⟩:=hIs
      ·exact q
      ·cases q
   exact hold.ndc hd K kN he H.pg
  ·have ho:=hI.other hd K hF hk' hc hcb.1 (by omega) he
   have f1:=hd.fo;exact(ht.node k' l' hk' c hc (by rw[←ho 0 (by omega) (by omega)];exact hch)).frame hd hcb.1 (by omega) ho
 ·intro k' l' hk' c hc
  have hcb:=(ht.sh.nodes k' l' hk' c hc).1;refine⟨l',c,hk',hc,rfl,rfl,?_⟩;by_cases he:c.id=fr.id
  ·rw[he];exact hv c.pg h3
  ·have ho:=hI.other hd K hF hk' hc hcb.1 (by omega) he
   have f1:=hd.fo;rw[ho 0 (by omega) (by omega)]
   exact kG.refl _ _
theorem Ur (hd:d.Ok)(hlen:(L.length:Int)=d.cells)(K:kT d fr fu)(ht:dQ d L t)(H:qK t k i l nd fr fu)(hI:iZ d L fr fu s)(hF:qL t s)(h2:s.pc<=2)(hn:iC d fr fu L s s')(h3:s'.pc=3)(hf:s'.full=false) :
  dQ d (bT d L s) (mo t k i l nd fu s'.id s'.sp)/\wA d L t (bT d L s) (mo t k i l nd fu s'.id s'.sp):=by
 have hnd:=aq7 H.hi;have Wq:=(ht.sh.nodes k l H.hk nd hnd).1;have Iz:=H.id;have hIs:=oq hd hlen K (by omega) (by omega) hI h2 hn
 have hv:=(hI.ver hd hlen K (by omega) (by omega) h2 hn).2
 obtain⟨n1,n2⟩:=hI.n4 hd hlen K ht.n4;have htn:=ht.n4;have f1:=hd.fo;have hR:=ht.sh.rows k l H.hk;have bZ:=hR.ak nd hnd;have xx:=H.fu.ak;have qu:=K.hok.ak;rw[←H.pg]at qu;have kN:fu.la=true->fu.hi=⟨#[]⟩:=fun h=>by
  rw[H.fu.la]at h;rw[H.fu.hi];exact(hR.xz hnd h).1
 have hlen' := (aq5.1 H.hi).1;have hS:=ht.sh.mono n1;obtain⟨rt,rest,fU,hroot⟩:=ht.root;have zv:ah (bT d L s) 0=ah L 0:=hI.low hd K (by omega) (by omega)
 have aeY:=fun pg lN=>hv pg lN h3 hf
 have Za:(s.pc=2/\s'.sp=s.sp/\s'.id=s.id):=by
  obtain⟨pc,tk,k,ps,sp,id,full⟩:=s;simp only at h2;rcases(by omega:pc=0\/pc=1\/pc=2)with rfl|rfl|rfl
  ·rcases hn with⟨c1,rfl⟩|⟨c1,c2,rfl⟩|⟨c1,c2,rfl⟩
   ·exact absurd h3 (by simp)
   ·cases hf
   ·exact absurd h3 (by simp)
  ·rcases hn with⟨c1,rfl⟩|⟨c1,ps',hw,rfl⟩ <;> exact absurd h3 (by simp)
  ·rcases hn with⟨c1,rfl⟩|⟨c1,rfl⟩
   ·exact absurd h3 (by simp)
   ·exact⟨rfl,rfl,rfl⟩
 have hold:∀(k':Nat) (l':List Nd),t[k']?=some l' -> ∀(j:Nat) (c:Nd),l'[j]?=some c->(k' ≠ k\/j≠i)->c.id≠fr.id/\∀q:Int,0<=q->q<d.fa+4->ah (bT d L s) (d.node c.id q)=ah L (d.node c.id q):=by
  intro k' l' hk' j c hc hne;have hcm:=aq7 hc;have hcb:=(ht.sh.nodes k' l' hk' c hcm).1;have he:c.id≠fr.id:=fun e=>by
   obtain⟨e1,e2,_⟩:=H.at ht hk' hc e;rcases hne with h|h
   ·exact h e1
   ·exact h e2
  exact⟨he,hI.other hd K hF hk' hcm hcb.1 (by omega) he⟩
 have Dt:∀(k':Nat) (l':List Nd),t[k']?=some l' -> ∀(j:Nat) (c:Nd),l'[j]?=some c->(k' ≠ k\/j≠i)->bW (ah (bT d L s) (d.node c.id 0)).n=false->Un d (bT d L s) c:=by
  intro k' l' hk' j c hc hne hch;have hcm:=aq7 hc;have hcb:=(ht.sh.nodes k' l' hk' c hcm).1;have ho:=(hold k' l' hk' j c hc hne).2;exact(ht.node k' l' hk' c hcm (by rw[←ho 0 (by omega) (by omega)];exact hch)).frame hd hcb.1 (by omega) ho
 have Du:∀(k':Nat) (l':List Nd),t[k']?=some l' -> ∀(j:Nat) (c:Nd),l'[j]?=some c->(k' ≠ k\/j≠i)->(ah (bT d L s) (d.node c.id 0)).n%2=0->(ah (bT d L s) (d.node c.id 0)).n%4=0:=by
  intro k' l' hk' j c hc hne hev;rw[(hold k' l' hk' j c hc hne).2 0 (by omega) (by omega)]at hev ⊢
  exact ht.wd k' l' hk' c (aq7 hc) hev
 have ju:∀(k':Nat) (l':List Nd),t[k']?=some l' -> ∀(j:Nat) (c:Nd),l'[j]?=some c->(k' ≠ k\/j≠i)->kG (ah L (d.node c.id 0)).n (ah (bT d L s) (d.node c.id 0)).n c.pg c.pg:=by
  intro k' l' hk' j c hc hne;rw[(hold k' l' hk' j c hc hne).2 0 (by omega) (by omega)]
  exact kG.refl _ _
 have hFr:=fun h:s.sp=true=>hF (.inr ⟨Za.1,h⟩)
 obtain⟨La,tk',kk',ps',sp',id',Dm⟩:=s';simp only at h3 hf Za ⊢;subst h3 hf;obtain⟨_,⟨q,_⟩|⟨_,g1,g2,g3,g4⟩⟩:=hIs
 ·cases q
 simp only at g1 g2 g3 g4;cases hsp:sp' with
 | false=>
  rw[hsp]at g1 g3;have g1:=g1 rfl;have e:mo t k i l nd fu id' false=t.set k (l.set i { nd with pg:=fu }):=rfl;rw[e];have hme:Un d (bT d L s) { nd with pg:=fu }:=by
   have g3:Holds (bT d L s) (bP d fr.id fu):=g3;rw[←Iz]at g3 g4;exact⟨lF g3 (show 0<=fu.ak/\fu.ak<1000000 by omega) g1 kN,g3,by rw[g4],by rw[g4]⟩
  refine⟨⟨hS.put H.hk H.hi xx H.fu.hi H.fu.la H.fu.ri H.fu.nds H.fu.down,n2,?_,fun k' l' hk' c hc hch=>?_,fun k' l' hk' c hc=>?_⟩,fun k' l' hk' c hc=>?_⟩
  ·obtain⟨a,rest',h1,h2⟩:=Lf (l' := l.set i { nd with pg:=fu }) ht.sh.ne H.hk fU (fun a ha=>by
    rw[List.getElem?_set];simp only[hlen',if_true];split
    ·rename_i e
     subst e;have:=H.hi;rw[this]at ha;obtain rfl:=aq9 ha;exact⟨{ nd with pg:=fu },rfl,rfl⟩
    ·exact⟨a,ha,rfl⟩)
   exact⟨a,rest',h1,by rw[zv,hroot,h2]⟩
  ·rcases ei hk' with⟨rfl,rfl⟩|⟨hne,hk2⟩
   ·obtain⟨j,hj⟩:=aq4 hc
    rw[List.getElem?_set]at hj;simp only[hlen',if_true]at hj;split at hj
    ·obtain rfl:=aq9 hj
     exact hme
    ·exact Dt _ _ H.hk j c hj (.inr (by rename_i e;exact fun h=>e h.symm)) hch
   ·obtain⟨j,hj⟩:=aq4 hc
    exact Dt _ _ hk2 j c hj (.inl hne) hch
  ·intro hev
   have hlk:=K.lk;have e4:=zl K.lk K.hok.word.1 K.ver;rcases ei hk' with⟨rfl,rfl⟩|⟨hne,hk2⟩
   ·obtain⟨j,hj⟩:=aq4 hc
    rw[List.getElem?_set]at hj;simp only[hlen',if_true]at hj;split at hj
    ·obtain rfl:=aq9 hj
     exfalso
     have hev:(ah (bT d L s) (d.node nd.id 0)).n%2=0:=hev;rw[Iz,g4]at hev;have hev:dM (bE fr.word)%2=0:=hev;omega
    ·exact Du _ _ H.hk j c hj (.inr (by rename_i e;exact fun h=>e h.symm)) hev
   ·obtain⟨j,hj⟩:=aq4 hc
    exact Du _ _ hk2 j c hj (.inl hne) hev
  ·obtain⟨j,hj⟩:=aq4 hc
   by_cases hkk:k'=k
   ·subst hkk
    have h1:=H.hk;rw[hk']at h1;obtain rfl:=aq9 h1;have xG:=(aq5.1 hk').1;by_cases hji:j=i
    ·subst hji
     have h1:=H.hi;rw[hj]at h1;obtain rfl:=aq9 h1;exact⟨_, { c with pg:=fu },List.getElem?_set_self xG,aq7 (i:=j) (by rw[List.getElem?_set_self hlen']),rfl,rfl,by rw[Iz];exact aeY _ _⟩
    ·exact⟨_,c,List.getElem?_set_self xG,aq7 (i:=j) (by rw[List.getElem?_set_ne (fun e=>hji e.symm)];exact hj),rfl,rfl,ju _ _ hk' j c hj (.inr hji)⟩
   ·exact⟨l',c,by rw[List.getElem?_set_ne (fun e=>hkk e.symm)];exact hk',hc,rfl,rfl,ju _ _ hk' j c hj (.inl hkk)⟩
 | true=>
  rw[hsp]at g3;obtain⟨g5,g6,g7⟩:=g2 hsp;have hFr:=hFr (by rw[←Za.2.1,hsp])
  rw[←Za.2.2]at hFr;have h2':2<=fu.sl.length:=g5;obtain⟨sL,sR,sA,sB⟩:=Yy (n:=id') H.fu.nds h2';have adT:=qJ (s:=⟨3,tk',kk',ps',true,id',false⟩) hd K (fun h=>by cases h)
  have vJ:=(K.Wp.right hd).le;have e:mo t k i l nd fu id' true=t.set k (wo l i { nd with pg:=fA fu id' } ⟨id',bN fu,dI fu⟩):=rfl;rw[e];have hme:Un d (bT d L s) { nd with pg:=fA fu id' }:=by
   have g3:Holds (bT d L s) (bP d fr.id (fA fu id')):=g3;rw[←Iz]at g3 g4;exact⟨lF g3 (show 0<=fu.ak/\fu.ak<1000000 by omega) adT (fun h=>by cases h),g3,by rw[g4],by rw[g4]⟩
  have hnew:Un d (bT d L s) ⟨id',bN fu,dI fu⟩:=
   ⟨lF g7.1 (show 0<=fu.ak/\fu.ak<1000000 by omega) vJ kN,g7.1,by show(ah _ (d.node id' 0)).k=_;rw[g7.2],by show(ah _ (d.node id' 0)).m=_;rw[g7.2]⟩
  refine⟨⟨?_,n2,?_,fun k' l' hk' c hc hch=>?_,fun k' l' hk' c hc=>?_⟩,fun k' l' hk' c hc=>?_⟩
  ·refine hS.ace (a:={ nd with pg:=fA fu id' }) (b:=⟨id',bN fu,dI fu⟩) H.hk H.hi g6.lo g6.us hFr rfl rfl (by show fu.ak=_;rw[xx,bZ]) rfl rfl rfl (by show fu.ak=_;rw[xx,bZ]) H.fu.la H.fu.hi H.fu.ri sA (fun h=>?_) sL sR (fun m l0 hkm h0=>?_)
   ·show cA (bN fu) nd.pg.hi=true
    rw[←H.fu.hi];exact sB (by rw[H.fu.la];exact h)
   ·exact Ul (by omega) (H.fu.down m l0 hkm h0) h2'
  ·obtain⟨a,rest',h1,h2⟩:=Lf (l' := wo l i { nd with pg:=fA fu id' } ⟨id',bN fu,dI fu⟩) ht.sh.ne H.hk fU (fun a ha=>by
    rw[fO hlen'];by_cases h0:0<i
    ·rw[if_pos h0];exact⟨a,ha,rfl⟩
    ·have oH:i=0:=by omega
     have:=H.hi;rw[oH]at this;rw[this]at ha;obtain rfl:=aq9 ha;rw[if_neg h0,if_pos oH.symm];exact⟨_,rfl,rfl⟩)
   exact⟨a,rest',h1,by rw[zv,hroot,h2]⟩
  ·rcases ei hk' with⟨rfl,rfl⟩|⟨hne,hk2⟩
   ·obtain⟨j,hj⟩:=aq4 hc
    rw[fO hlen']at hj;by_cases c1:j<i
    ·rw[if_pos c1]at hj
     exact Dt _ _ H.hk j c hj (.inr (by omega)) hch
    ·rw[if_neg c1]at hj
     by_cases c2:j=i
     ·rw[if_pos c2]at hj
      obtain rfl:=aq9 hj;exact hme
     ·rw[if_neg c2]at hj
      by_cases c3:j=i+1
      ·rw[if_pos c3]at hj
       obtain rfl:=aq9 hj;exact hnew
      ·rw[if_neg c3]at hj
       exact Dt _ _ H.hk (j-1) c hj (.inr (by omega)) hch
   ·obtain⟨j,hj⟩:=aq4 hc
    exact Dt _ _ hk2 j c hj (.inl hne) hch
  ·intro hev
   have hlk:=K.lk;have e4:=zl K.lk K.hok.word.1 K.ver;rcases ei hk' with⟨rfl,rfl⟩|⟨hne,hk2⟩
   ·obtain⟨j,hj⟩:=aq4 hc
    rw[fO hlen']at hj;by_cases c1:j<i
    ·rw[if_pos c1]at hj
     exact Du _ _ H.hk j c hj (.inr (by omega)) hev
    ·rw[if_neg c1]at hj
     by_cases c2:j=i
     ·rw[if_pos c2]at hj
      obtain rfl:=aq9 hj;exfalso
      have hev:(ah (bT d L s) (d.node nd.id 0)).n%2=0:=hev;rw[Iz,g4]at hev;have hev:dM (bE fr.word)%2=0:=hev;omega
     ·rw[if_neg c2]at hj
      by_cases c3:j=i+1
      ·rw[if_pos c3]at hj
       obtain rfl:=aq9 hj;exfalso
       have hev:(ah (bT d L s) (d.node id' 0)).n%2=0:=hev;rw[g7.2]at hev;have hev:aN 0%2=(0:Int):=hev;revert hev;decide
      ·rw[if_neg c3]at hj
       exact Du _ _ H.hk (j-1) c hj (.inr (by omega)) hev
   ·obtain⟨j,hj⟩:=aq4 hc
    exact Du _ _ hk2 j c hj (.inl hne) hev
  ·obtain⟨j,hj⟩:=aq4 hc
   by_cases hkk:k'=k
   ·subst hkk
    have h1:=H.hk;rw[hk']at h1;obtain rfl:=aq9 h1;have xG:=(aq5.1 hk').1;rcases Nat.lt_trichotomy j i with hji|hji|hji
    ·exact⟨_,c,List.getElem?_set_self xG,aq7 (i:=j) (by rw[fO hlen',if_pos hji];exact hj),rfl,rfl,ju _ _ hk' j c hj (.inr (by omega))⟩
    ·subst hji
     have h1:=H.hi;rw[hj]at h1;obtain rfl:=aq9 h1;exact⟨_, { c with pg:=fA fu id' },List.getElem?_set_self xG,aq7 (i:=j) (by rw[fO hlen',if_neg (by omega),if_pos rfl]),rfl,rfl,by rw[Iz];exact aeY _ _⟩
    ·exact⟨_,c,List.getElem?_set_self xG,aq7 (i:=j+1) (by rw[fO hlen',if_neg (by omega),if_neg (by omega),if_neg (by omega)];exact hj),rfl,rfl,ju _ _ hk' j c hj (.inr (by omega))⟩
   ·exact⟨l',c,by rw[List.getElem?_set_ne (fun e=>hkk e.symm)];exact hk',hc,rfl,rfl,ju _ _ hk' j c hj (.inl hkk)⟩
end
end
section
structure Ja (t:List (List Nd))(key:ByteArray)(level:Nat)(l:List Nd)(i:Nat)(nd:Nd):Prop where
 hl:t[level]?=some l
 hi:l[i]?=some nd
 low:cA key nd.low=false
structure si (d:aR)(L:List aO)(id word:Int):Prop where
 c:ah L (d.node id 0)=⟨word,⟨#[]⟩,0⟩
 w:word%4=1
 bd:0<=word/\word<18446744073709551616
def qT (d:aR):Nat:=d.fa.toNat+8
def Zb (c:Int)(s:oZ):Nat:=if s.pc=0 then 2 else if c=aG s.word then 1 else 3
def Us (key:ByteArray)(l:List Nd)(i:Nat)(nd:Nd)(q:Nat):Prop:=qE key nd.pg=true\/l.length<=i+1+q
def Jb (d:aR)(L:List aO)(t:List (List Nd))(key:ByteArray)(level lo:Nat)(s:vB)(m:Nat):Prop:=match s.pc with
 | 0=>s.h=l6/\s.fd.pc≠2/\∃m0,Ix d L t key lo s.fd m0/\m0+qT d<=m
 | 1=>s.h=l6/\∃l i nd q,Ja t key level l i nd/\s.id=nd.id/\s.aq.pc<=1/\(s.aq.pc=1->s.aq.word%4=1)/\(0<=s.aq.word/\s.aq.word<18446744073709551616)/\Us key l i nd q/\q*qT d+Zb (ah L (d.node nd.id 0)).n s.aq+(d.fa.toNat+4)<=m
 | 2=>s.h=l6/\∃l i nd q,Ja t key level l i nd/\s.id=nd.id/\si d L nd.id s.ow.word/\s.ow.Wi d/\s.ow.pc≠6/\uX nd.pg s.ow/\Us key l i nd q/\q*qT d+kS d s.ow+1<=m
 | 3=>s.h=l6/\∃l i nd q,Ja t key level l i nd/\s.id=nd.id/\si d L nd.id s.ow.word/\s.ow.pg=nd.pg/\qE key nd.pg=false/\Us key l i nd q/\q*qT d<=m
 | 4=>(∃l i nd,Ja t key level l i nd/\s.id=nd.id/\(∃word,s.h=⟨nd.id,word,nd.pg⟩/\si d L nd.id word)/\qE key nd.pg=true/\nd.id≠0)\/(s.h=l6/\lo<level)
 | _=>False
def ko (s:vB):Bool:=s.pc == 2 || s.pc == 3 || (s.pc == 4 && s.h.id != 0)
section
variable {d:aR}{L L':List aO}{t t':List (List Nd)}{key:ByteArray}{level lo:Nat}{s:vB}{m:Nat}{nd:Nd}
theorem si.vD {id word:Int}(h:si d L id word):bW (ah L (d.node id 0)).n=false:=by
 rw[h.c];unfold bW;have:=h.w;exact decide_eq_false (by show ¬ 2<=word%4;omega)
theorem dQ.bit (hd:d.Ok)(hlen:(L.length:Int)=d.cells)(ht:dQ d L t){k:Nat}{l:List Nd}(hk:t[k]?=some l)(hn:nd∈l){w':Int}(hv:w' / 4=(ah L (d.node nd.id 0)).n / 4)(hc:bW (ah L (d.node nd.id 0)).n=false)(hc':bW w'=false) :
  dQ d (aP L (d.node nd.id 0) ⟨w',⟨#[]⟩,0⟩) t/\wA d L t (aP L (d.node nd.id 0) ⟨w',⟨#[]⟩,0⟩) t /\
  (∀(k:Nat) (l:List Nd),t[k]?=some l->∀c,c∈l->(ah (aP L (d.node nd.id 0) ⟨w',⟨#[]⟩,0⟩) (d.node c.id 0)).n / 4=(ah L (d.node c.id 0)).n / 4/\bW (ah (aP L (d.node nd.id 0) ⟨w',⟨#[]⟩,0⟩) (d.node c.id 0)).n=bW (ah L (d.node c.id 0)).n):=by
 have hb:=(ht.sh.nodes k l hk nd hn).1;have tz:=ht.n4;have f1:=hd.fo;have hpos:=bV hd (id:=nd.id) hb.1 (by omega) (k:=0) (by omega) (by omega)
 have he:ah (aP L (d.node nd.id 0) ⟨w',⟨#[]⟩,0⟩) (d.node nd.id 0)=⟨w',⟨#[]⟩,0⟩:=cB hpos.2.1 (by omega)
 have ho:∀c:Nd,1<=c.id->c.id<=d.no->∀j:Int,0<=j->j<d.fa+4->(c.id≠nd.id\/j≠0)->ah (aP L (d.node nd.id 0) ⟨w',⟨#[]⟩,0⟩) (d.node c.id j)=ah L (d.node c.id j):=by
  intro c c1 c2 j j1 j2 hne;refine bj ?_
  by_cases hci:c.id=nd.id
  ·rw[hci]
   exact dw hd hb.1 (by omega) j1 j2 (by omega) (by omega) (by rcases hne with h|h;exact absurd hci h;exact h)
  ·exact cK hd c1 c2 hb.1 (by omega) j1 j2 (by omega) (by omega) hci
 have dW:∀j:Int,j<8->ah (aP L (d.node nd.id 0) ⟨w',⟨#[]⟩,0⟩) j=ah L j:=fun j hj=>by
  refine bj ?_
  have n0:=(bV hd (id:=nd.id) hb.1 (by omega) (k:=0) (by omega) (by omega)).1
  have hA:=hd.eC;have m3:0<=(nd.id-1)*(d.fa+4):=Int.mul_nonneg (by omega) (by omega)
  omega
 have hw:∀(k:Nat) (l:List Nd),t[k]?=some l->∀c,c∈l->(ah (aP L (d.node nd.id 0) ⟨w',⟨#[]⟩,0⟩) (d.node c.id 0)).n / 4=(ah L (d.node c.id 0)).n / 4/\bW (ah (aP L (d.node nd.id 0) ⟨w',⟨#[]⟩,0⟩) (d.node c.id 0)).n=bW (ah L (d.node c.id 0)).n:=by
  intro k l hk c hcm;have hcb:=(ht.sh.nodes k l hk c hcm).1;by_cases hci:c.id=nd.id
  ·rw[hci,he]
   exact⟨hv,by rw[hc];exact hc'⟩
  ·rw[ho c hcb.1 (by omega) 0 (by omega) (by omega) (.inl hci)]
   exact⟨rfl,rfl⟩
 refine⟨⟨by rw[dW 4 (by omega)];exact ht.sh,by rw[dW 4 (by omega)];exact ht.n4,by rw[dW 0 (by omega)];exact ht.root,fun k' l' hk' c hcm hch=>?_,fun k' l' hk' c hcm hev=>?_⟩,fun k' l' hk' c hcm=>⟨l',c,hk',hcm,rfl,rfl,?_⟩,hw⟩
 ·have hcb:=(ht.sh.nodes k' l' hk' c hcm).1
  have hold:=ht.node k' l' hk' c hcm (by rw[←(hw k' l' hk' c hcm).2];exact hch)
  refine⟨hold.page.frame hcb.1 (by omega) f1 (fun j a b=>ho c hcb.1 (by omega) j (by omega) b (.inr (by omega))),hold.hold.frame hd hcb.1 (by omega) hold.page.le (fun j a b=>ho c hcb.1 (by omega) j (by omega) b (.inr (by omega))),?_,?_⟩
  ·by_cases hci:c.id=nd.id
   ·rw[hci,he]
   ·rw[ho c hcb.1 (by omega) 0 (by omega) (by omega) (.inl hci)];exact hold.k
  ·by_cases hci:c.id=nd.id
   ·rw[hci,he]
   ·rw[ho c hcb.1 (by omega) 0 (by omega) (by omega) (.inl hci)];exact hold.m
 ·have hcb:=(ht.sh.nodes k' l' hk' c hcm).1
  by_cases hci:c.id=nd.id
  ·rw[hci,he]at hev ⊢
   simp only at hev ⊢;unfold bW at hc';have:=of_decide_eq_false hc';omega
  ·rw[ho c hcb.1 (by omega) 0 (by omega) (by omega) (.inl hci)]at hev ⊢
   exact ht.wd k' l' hk' c hcm hev
 ·obtain⟨e1,e2⟩:=hw k' l' hk' c hcm
  exact⟨by omega,fun _ h=>⟨by rw[←e2];exact h,rfl⟩⟩
def Dv (d:aR)(L:List aO)(t:List (List Nd))(level:Nat)(s s':vB)(L1:List aO):Prop:=
 (L1=L/\ko s'=ko s/\(ko s=true->s'.id=s.id)) \/
 (ko s=false/\ko s'=true/\s'.id=s.id/\(∃l nd,t[level]?=some l/\nd∈l/\nd.id=s.id)/\(ah L (d.node s.id 0)).n%4=0/\L1=aP L (d.node s.id 0) ⟨(ah L (d.node s.id 0)).n+1,⟨#[]⟩,0⟩) \/
 (ko s=true/\ko s'=false/\(∃l nd,t[level]?=some l/\nd∈l/\nd.id=s.id)/\(ah L (d.node s.id 0)).n%4=1/\L1=aP L (d.node s.id 0) ⟨(ah L (d.node s.id 0)).n-1,⟨#[]⟩,0⟩)
theorem Jb.step (hd:d.Ok)(hL:bD L)(hlen:(L.length:Int)=d.cells)(ht:dQ d L t)(h:Jb d L t key level lo s m)(pM:s.pc≠4)(hlv:lo<=level) :
  s.Ok d key level L/\s.h=l6/\Dv d L t level s (aK d key level L s).1 (aK d key level L s).2 /\
  ∃m',Jb d (aK d key level L s).2 t key level lo (aK d key level L s).1 m' /\ m' <= m /\
   ((s.pc=0->s.fd.pc=1->bW (ah L (d.node s.fd.id 0)).n=false)->(s.pc=1->s.aq.pc=0->(ah L (d.node s.id 0)).n%2=0)->m' + 1<=m):=by
 have iX:=hd.mJ;have vT:=hd.mK;have f1:=hd.fo;have tz:=ht.n4;have aeZ:s.pc=0\/s.pc=1\/s.pc=2\/s.pc=3:=by
  by_cases h5:5<=s.pc
  ·obtain⟨pc,fd,id,aq,ow,hh⟩:=s
   obtain⟨n,rfl⟩:∃n,pc=n+5:=⟨pc-5,by simp only at h5;omega⟩
   exact h.elim
  ·omega
 obtain⟨pc,fd,id,aq,ow,hh⟩:=s;simp only at aeZ;clear pM;rcases aeZ with rfl|rfl|rfl|rfl
 ·obtain⟨h1,h2,m0,hf,hm⟩:=h
  simp only at h1 h2 hf;subst h1;obtain⟨⟨m0',g1,g5,g6⟩,g2,g3,g4⟩:=hf.step (level:=level) hd hL ht h2 hlv;have hbd:(bS d L key level fd).pc=2->(0<=(bS d L key level fd).id/\(bS d L key level fd).id<18446744073709551616)/\(bS d L key level fd).pg.sl.length<=1000000:=by
   intro e;rcases g4 e with⟨e1,e2,_⟩|⟨l,nd,hl,hn,e1,e2,_,_,e3⟩
   ·rw[e1,e2]
    exact⟨by omega,by show(0:Nat)<=1000000;omega⟩
   ·have hb:=(ht.sh.nodes level l hl nd hn).1
    have hp:=(ht.page level l hl nd hn e3).le;rw[e1,e2];exact⟨by omega,by omega⟩
  refine⟨⟨Nat.zero_le _,fun _=>⟨g2,h2,g3,hbd⟩,fun h=>by simp at h,fun h=>by simp at h,fun h=>by simp at h,fun h=>by simp at h⟩,rfl,?_⟩
  unfold aK;simp only;by_cases hp:(bS d L key level fd).pc=2
  ·rw[if_pos hp]
   rcases g4 hp with⟨e1,e2,k,l,aoC,hk,_⟩|⟨l,nd,hl,hn,e1,e2,e4,e5,e3⟩
   ·rw[if_pos e1]
    refine⟨.inl ⟨rfl,rfl,fun h=>by cases h⟩,0,.inr ⟨rfl,by omega⟩,Nat.zero_le _,fun _ _=>?_⟩
    unfold qT at hm;omega
   ·have hb:=(ht.sh.nodes level l hl nd hn).1
    rw[if_neg (by rw[e1];omega)]
    obtain⟨i,hi⟩:=aq4 hn;unfold qT at hm;refine⟨.inl ⟨rfl,rfl,fun h=>by cases h⟩,d.fa.toNat+6,⟨rfl,l,i,nd,0,⟨hl,hi,e4⟩,e1,Nat.zero_le _,fun h=>by simp[mL]at h,⟨by show(0:Int)<=0;omega,by show(0:Int)<_;omega⟩,.inl e5,?_⟩,by omega,fun _ _=>by omega⟩
    show 0*qT d+2+(d.fa.toNat+4)<=d.fa.toNat+6
    omega
  ·rw[if_neg hp]
   refine⟨.inl ⟨rfl,rfl,fun h=>by cases h⟩,_,⟨rfl,hp,m0',g1,Nat.le_refl _⟩,by omega,fun hq _=>?_⟩
   have:=g6 (hq trivial);omega
 ·obtain⟨h1,l,i,nd,q,ha,hid,hp,hw,hb,hq,hm⟩:=h
  simp only at h1 hid hp hw hb hm;subst h1 hid;have hnm:=aq7 ha.hi;have hnb:=(ht.sh.nodes level l ha.hl nd hnm).1;have hcb0:0<=(ah L (d.node nd.id 0)).n:=(hL (d.node nd.id 0)).1;have aoD:(ah L (d.node nd.id 0)).n<18446744073709551616:=(hL (d.node nd.id 0)).2;have hpos:=bV hd (id:=nd.id) hnb.1 (by omega) (k:=0) (by omega) (by omega)
  have hwd:=ht.wd level l ha.hl nd hnm;refine⟨⟨by show 1<=3;omega,fun h=>by simp at h,fun _=>by simp only;omega,fun _=>⟨⟨by show aq.pc<=2;omega,hb⟩,by show aq.pc≠2;omega⟩,fun h=>by simp at h,fun h=>by simp at h⟩,rfl,?_⟩
  obtain⟨ap,aw⟩:=aq;simp only at hp hw hb;unfold aK;simp only;rcases(by omega:ap=0\/ap=1)with rfl|rfl
  ·have qR:Zb (ah L (d.node nd.id 0)).n ⟨0,aw⟩=2:=rfl
   rw[qR]at hm;unfold bM;simp only;by_cases acg:(ah L (d.node nd.id 0)).n%2=1
   ·simp only[if_pos acg,show ¬ ((0:Nat)=2)by omega,if_false]
    refine⟨.inl ⟨rfl,rfl,fun h=>by cases h⟩,m,⟨rfl,l,i,nd,q,ha,rfl,Nat.zero_le _,fun h=>by simp at h,hb,hq,hm⟩,Nat.le_refl _,fun _ hs=>?_⟩
    have:=hs trivial trivial;omega
   ·simp only[if_neg acg,show ¬ ((1:Nat)=2)by omega,if_false]
    have h4:=hwd (by omega)
    have hlk:=jw h4;have hun:=jq h4;refine⟨.inl ⟨rfl,rfl,fun h=>by cases h⟩,m-1,⟨rfl,l,i,nd,q,ha,rfl,Nat.le_refl _,fun _=>by show aN _%4=1;rw[hlk];omega,by show 0<=aN _/\aN _<18446744073709551616;rw[hlk];exact⟨by omega,by omega⟩,hq,?_⟩,by omega,fun _ _=>by omega⟩
    show q*qT d+Zb (ah L (d.node nd.id 0)).n ⟨1,aN (ah L (d.node nd.id 0)).n⟩+(d.fa.toNat+4)<=m-1
    have:Zb (ah L (d.node nd.id 0)).n ⟨1,aN (ah L (d.node nd.id 0)).n⟩=1:=by
     unfold Zb;rw[if_neg (by show ¬ ((1:Nat)=0);omega),if_pos (by show _=aG (aN _);rw[hlk,hun])]
    omega
  ·have hw4:=hw rfl
   unfold bM;simp only;have hun:aG aw=aw-1:=by unfold aG;omega
   by_cases hsw:bX L (d.node nd.id 0) (aG aw)=true
   ·simp only[if_pos hsw,if_true]
    have hc:(ah L (d.node nd.id 0)).n=aw-1:=by
     unfold bX at hsw;simp only[Bool.and_eq_true,decide_eq_true_eq]at hsw;rw[hsw.2,hun]
    have hq1:Zb (ah L (d.node nd.id 0)).n ⟨1,aw⟩=1:=by
     unfold Zb;rw[if_neg (by show ¬ ((1:Nat)=0);omega),if_pos (by show _=aG aw;rw[hun,hc])]
    rw[hq1]at hm;refine⟨.inr (.inl ⟨rfl,rfl,rfl,⟨l,nd,ha.hl,hnm,rfl⟩,by show(ah L (d.node nd.id 0)).n%4=0;omega,by rw[hc];show _=aP L (d.node nd.id 0) ⟨aw-1+1,⟨#[]⟩,0⟩;rw[show aw-1+1=aw by omega]⟩),q*qT d+(d.fa.toNat+3)+1,⟨rfl,l,i,nd,q,ha,rfl,⟨cB hpos.2.1 (by omega),hw4,hb⟩,Ki d aw,by show(1:Nat)≠6;omega,trivial,hq,Nat.le_refl _⟩,by omega,fun _ _=>by omega⟩
   ·simp only[if_neg hsw,show ¬ ((0:Nat)=2)by omega,if_false]
    have hc:(ah L (d.node nd.id 0)).n≠aG aw:=fun e=>by
     apply hsw
     unfold bX;rw[decide_eq_true (by omega),decide_eq_true (by omega),decide_eq_true e]
     rfl
    have hq3:Zb (ah L (d.node nd.id 0)).n ⟨1,aw⟩=3:=by
     unfold Zb;rw[if_neg (by show ¬ ((1:Nat)=0);omega),if_neg hc]
    rw[hq3]at hm;refine⟨.inl ⟨rfl,rfl,fun h=>by cases h⟩,m-1,⟨rfl,l,i,nd,q,ha,rfl,Nat.zero_le _,fun h=>by simp at h,hb,hq,?_⟩,by omega,fun _ _=>by omega⟩
    show q*qT d+2+(d.fa.toNat+4)<=m-1
    omega
 ·obtain⟨h1,l,i,nd,q,ha,hid,hlt,hok,h6,hpt,hq,hm⟩:=h
  simp only at h1 hid hlt hok h6 hpt hm;subst h1 hid;have hnm:=aq7 ha.hi;have hnb:=(ht.sh.nodes level l ha.hl nd hnm).1;have hpage:=ht.page level l ha.hl nd hnm hlt.vD;obtain⟨p1,p2,p3⟩:=hpt.step hpage h6;have adA:=o7 (id:=nd.id) hd hL hok;refine⟨⟨by show 2<=3;omega,fun h=>by simp at h,fun _=>by simp only;omega,fun h=>by simp at h,fun _=>⟨hok,h6⟩,fun h=>by simp at h⟩,rfl,?_⟩
  unfold aK;simp only;generalize bA d nd.id L ow=o at *;by_cases ho:o.pc=6
  ·rw[if_pos ho]
   have Zc:o.pg=nd.pg:=by
    unfold uX at p1;rw[ho]at p1;exact p1
   by_cases hin:qE key o.pg=true
   ·rw[if_pos hin]
    refine⟨.inl ⟨rfl,by simp[ko];omega,fun _=>rfl⟩,0,.inl ⟨l,i,nd,ha,rfl,⟨o.word,by rw[Zc],by rw[p2];exact hlt⟩,by rw[←Zc];exact hin,by omega⟩,Nat.zero_le _,fun _ _=>by omega⟩
   ·rw[if_neg hin]
    refine⟨.inl ⟨rfl,rfl,fun _=>rfl⟩,q*qT d,⟨rfl,l,i,nd,q,ha,rfl,by rw[p2];exact hlt,Zc,?_,hq,Nat.le_refl _⟩,by omega,fun _ _=>by omega⟩
    rw[←Zc];simpa using hin
  ·rw[if_neg ho]
   exact⟨.inl ⟨rfl,rfl,fun _=>rfl⟩,q*qT d+kS d o+1,⟨rfl,l,i,nd,q,ha,rfl,by rw[p2];exact hlt,adA,ho,p1,hq,Nat.le_refl _⟩,by omega,fun _ _=>by omega⟩
 ·obtain⟨h1,l,i,nd,q,ha,hid,hlt,kW,hin,hq,hm⟩:=h
  simp only at h1 hid hlt kW hm;subst h1 hid;have hnm:=aq7 ha.hi;have hnb:=(ht.sh.nodes level l ha.hl nd hnm).1;have hR:=ht.sh.rows level l ha.hl;have hil:=(aq5.1 ha.hi).1;have Zd:nd.pg.la=false/\cA key nd.pg.hi=false:=by
   unfold qE at hin;simpa using hin
  have hlt2:i+1<l.length:=by
   rcases Nat.lt_or_ge (i+1) l.length with h|h
   ·exact h
   ·have:=(hR.last i nd ha.hi (by omega)).1
    rw[Zd.1]at this;cases this
  obtain⟨b,hb⟩:∃b,l[i+1]?=some b:=⟨_,aq8 hlt2⟩;obtain⟨_,q2,q3,_⟩:=hR.next i nd b ha.hi hb;have hbb:=(ht.sh.nodes level l ha.hl b (aq7 hb)).1;have hq1:l.length<=i+1+q:=by
   rcases hq with h|h
   ·rw[hin]at h;cases h
   ·exact h
  obtain⟨q,rfl⟩:∃k,q=k+1:=⟨q-1,by omega⟩
  have hun:aG ow.word=ow.word-1:=by have:=hlt.w;unfold aG;omega
  have hw4:=hlt.w;refine⟨⟨by show 3<=3;omega,fun h=>by simp at h,fun _=>by simp only;omega,fun h=>by simp at h,fun h=>by simp at h,fun _=>⟨hlt.bd,by rw[kW,q3];omega⟩⟩,rfl,?_⟩
  unfold aK;simp only;refine⟨.inr (.inr ⟨rfl,rfl,⟨l,nd,ha.hl,hnm,rfl⟩,by show(ah L (d.node nd.id 0)).n%4=1;rw[hlt.c];exact hw4,by show aP L (d.node nd.id 0) _=aP L (d.node nd.id 0) ⟨(ah L (d.node nd.id 0)).n-1,⟨#[]⟩,0⟩;rw[hlt.c,hun]⟩),q*qT d+2+(d.fa.toNat+4),⟨rfl,l,i+1,b,q,⟨ha.hl,hb,by rw[←q2];exact Zd.2⟩,by rw[kW,q3],Nat.zero_le _,fun h=>by simp[mL]at h,⟨by show(0:Int)<=0;omega,by show(0:Int)<_;omega⟩,.inr (by omega),Nat.le_refl _⟩,?_,fun _ _=>?_⟩
  ·rw[Nat.add_mul,Nat.one_mul]at hm
   have:qT d=d.fa.toNat+8:=rfl;omega
  ·rw[Nat.add_mul,Nat.one_mul]at hm
   have:qT d=d.fa.toNat+8:=rfl;omega
theorem Dv.tree {s':vB}{L1:List aO}(hd:d.Ok)(hL:bD L)(hlen:(L.length:Int)=d.cells)(ht:dQ d L t)(h:Dv d L t level s s' L1) :
  dQ d L1 t/\wA d L t L1 t/\bD L1/\(L1.length:Int)=d.cells/\(∀(k:Nat) (l:List Nd),t[k]?=some l->∀nd,nd∈l->(ah L1 (d.node nd.id 0)).n / 4=(ah L (d.node nd.id 0)).n / 4/\bW (ah L1 (d.node nd.id 0)).n=bW (ah L (d.node nd.id 0)).n) /\
  (∀j:Int,j≠d.node s.id 0->ah L1 j=ah L j):=by
 rcases h with⟨rfl,_⟩|⟨_,_,_,⟨l,nd,hl,hn,hid⟩,h4,rfl⟩|⟨_,_,⟨l,nd,hl,hn,hid⟩,h4,rfl⟩
 ·exact⟨ht,wA.refl _ _ _,hL,hlen,fun _ _ _ _ _=>⟨rfl,rfl⟩,fun _ _=>rfl⟩
 ·rw[←hid]at h4 ⊢
  have hb:=hL (d.node nd.id 0);obtain⟨q1,q2,q3⟩:=ht.bit hd hlen hl hn (w' := (ah L (d.node nd.id 0)).n+1) (by omega) (by unfold bW;exact decide_eq_false (by omega)) (by unfold bW;exact decide_eq_false (by omega))
  refine⟨q1,q2,hL.put ⟨by show 0<=(ah L (d.node nd.id 0)).n+1;have:=hb.1;omega,by show(ah L (d.node nd.id 0)).n+1<_;have:=hb.2;omega⟩,by rw[aY];exact hlen,q3,fun j hj=>bj hj⟩
 ·rw[←hid]at h4 ⊢
  have hb:=hL (d.node nd.id 0);obtain⟨q1,q2,q3⟩:=ht.bit hd hlen hl hn (w' := (ah L (d.node nd.id 0)).n-1) (by omega) (by unfold bW;exact decide_eq_false (by omega)) (by unfold bW;exact decide_eq_false (by omega))
  refine⟨q1,q2,hL.put ⟨by show 0<=(ah L (d.node nd.id 0)).n-1;have:=hb.1;omega,by show(ah L (d.node nd.id 0)).n-1<_;have:=hb.2;omega⟩,by rw[aY];exact hlen,q3,fun j hj=>bj hj⟩
end
end
section
section
variable {K:aL}{w:World}{F:List aC}{b bf bm bc acc:Nat}{d:aR}{fr:cm}{fu:Pg}{L:List aO}{s:fT}{C:List aC}{key:ByteArray}{f:pO}
end
section
variable {d:aR}{L:List aO}{t:List (List Nd)}{fr:cm}{fu:Pg}{s s':fT}
theorem Jc (hd:d.Ok)(K:kT d fr fu)(hL:bD L)(h:iZ d L fr fu s):bD (bT d L s):=by
 have iX:=hd.mJ;obtain⟨pc,tk,k,ps,sp,id,full⟩:=s;match pc,h with
 | 0,h=>
  obtain⟨_,_,_,a4,_⟩:=h;obtain⟨tp,seen,ok⟩:=tk;simp only at a4;show bD (aF 4 d.no L ⟨tp,seen,ok⟩).2
  rcases a4 with⟨rfl,rfl⟩|⟨rfl,rfl,b1,b2⟩
  ·exact hL
  ·unfold aF
   simp only;split
   ·exact bD.put (L:=L) (i:=4) (c:=⟨seen+1,⟨#[]⟩,0⟩) hL ⟨by show 0<=seen+1;omega,by show seen+1<_;omega⟩
   ·exact hL
 | 1,h=>
  obtain⟨_,_,_,hid,hps,hk,_⟩:=h;simp only at hps hk hid;show bD (match ps[k]? with|some pt=>aP L pt.i pt.c|none=>L)
  rw[aq8 hk];refine hL.put ?_
  have hm:ps[k]∈ps:=List.getElem_mem hk;generalize ps[k]=q at hm;rw[hps]at hm;rcases List.mem_cons.1 hm with rfl|hm
  ·exact⟨by show(0:Int)<=aN 0;decide,by show aN 0<(18446744073709551616:Int);decide⟩
  ·exact pI hd (K.Wp.right hd) q hm
 | 2,h=>
  obtain⟨_,hsp,hw,hk,hn,_⟩:=h;replace hk:k<ps.length:=hk;show bD (match ps[k]? with|some pt=>aP L pt.i pt.c|none=>L)
  rw[aq8 hk];refine hL.put (Nw hd K.hok ?_ hw _ (List.getElem_mem hk));cases sp with
  | false=>exact K.Wp.fit (hsp rfl)
  | true=>
   obtain⟨_,hid,_⟩:=hn rfl;have h1:1<=id:=hid.lo;have h2:id<=d.no:=hid.hi;exact K.Wp.left (id:=id) hd ⟨by omega,by omega⟩
 | n+3,h=>exact hL
def Lg (d:aR)(L:List aO)(s:fT):Prop:=s.full=false/\(s.pc=0->(ah L 4).n<d.no/\(s.tk.pc=1->s.tk.seen=(ah L 4).n))
def oP (fu:Pg)(s:fT):Nat:=match s.pc with
 | 0=>(fu.sl.length+5)+(fu.sl.length+5)+(2-s.tk.pc)
 | 1=>(s.ps.length-s.k)+(fu.sl.length+5)
 | 2=>s.ps.length-s.k
 | _=>0
theorem xJ (d:aR)(id:Int)(pg:Pg):(bP d id pg).length=pg.sl.length+3:=by simp[bP,eT]
theorem Lg.step (hd:d.Ok)(hlen:(L.length:Int)=d.cells)(h:Lg d L s)(hI:iZ d L fr fu s)(h2:s.pc<=2)(hn:iC d fr fu L s s'):Lg d (bT d L s) s' /\ oP fu s' < oP fu s:=by
 have hcl:=gF hd;obtain⟨pc,tk,k,ps,sp,id,full⟩:=s;simp only at h2;obtain⟨hf,h0⟩:=h;simp only at hf h0;subst hf;rcases(by omega:pc=0\/pc=1\/pc=2)with rfl|rfl|rfl
 ·obtain⟨a1,a2,a3,a4,_⟩:=hI
  obtain⟨c3,c4⟩:=h0 rfl;obtain⟨tp,seen,ok⟩:=tk;simp only at a4 c4;rcases a4 with⟨rfl,rfl⟩|⟨rfl,rfl,b1,b2⟩
  ·have e1:aF 4 d.no L ⟨0,seen,false⟩=(⟨1,(ah L 4).n,false⟩,L):=by
    show((⟨if d.no<=(ah L 4).n then 2 else 1,(ah L 4).n,false⟩:iB),L)=_
    rw[if_neg (by omega)]
   have em:bT d L ⟨0,⟨0,seen,false⟩,k,ps,sp,id,false⟩=L:=congrArg Prod.snd e1;rw[em];simp only[iC,e1]at hn;rcases hn with⟨_,rfl⟩|⟨q,_⟩|⟨q,_⟩
   ·exact⟨⟨rfl,fun _=>⟨c3,fun _=>rfl⟩⟩,by show _+(2-1)<_+(2-0);omega⟩
   ·omega
   ·omega
  ·have hsw:bX L 4 seen=true:=by
    unfold bX;rw[decide_eq_true (by omega),decide_eq_true (by omega),decide_eq_true (c4 rfl).symm]
    rfl
   have e1:aF 4 d.no L ⟨1,seen,false⟩=(⟨2,seen,true⟩,aP L 4 ⟨seen+1,⟨#[]⟩,0⟩):=by
    show(if bX L 4 seen then _ else _)=_
    rw[if_pos hsw]
   simp only[iC,e1]at hn;rcases hn with⟨q,_⟩|⟨_,q,_⟩|⟨_,_,rfl⟩
   ·omega
   ·cases q
   ·refine⟨⟨rfl,fun q=>(by cases q)⟩,?_⟩
    show((_::bP d (seen+1) (dI fu)).length-0)+(fu.sl.length+5)<(fu.sl.length+5)+(fu.sl.length+5)+(2-1)
    rw[List.length_cons,xJ];have:(dI fu).sl.length<=fu.sl.length:=by
     show(fu.sl.drop _).length<=_
     rw[List.length_drop];omega
    omega
 ·obtain⟨_,_,_,_,_,a6,_⟩:=hI
  simp only at a6;rcases hn with⟨c1,rfl⟩|⟨c1,ps',hw,rfl⟩
  ·exact⟨⟨rfl,fun q=>(by cases q)⟩,by show(ps.length-(k+1))+_<(ps.length-k)+_;omega⟩
  ·refine⟨⟨rfl,fun q=>(by cases q)⟩,?_⟩
   have hl:=hw.len.2;have:(fA fu id).sl.length<=fu.sl.length:=by
    show(fu.sl.take _).length<=_
    rw[List.length_take];omega
   show ps'.length-0<(ps.length-k)+(fu.sl.length+5)
   simp only at hl;omega
 ·obtain⟨_,_,_,a4,_⟩:=hI
  simp only at a4;rcases hn with⟨c1,rfl⟩|⟨c1,rfl⟩
  ·exact⟨⟨rfl,fun q=>(by cases q)⟩,by show ps.length-(k+1)<ps.length-k;omega⟩
  ·exact⟨⟨rfl,fun q=>(by cases q)⟩,by show 0<ps.length-k;omega⟩
end
end
section
theorem r9.ae1 {N:Int}{t:List (List Nd)}{l:List Nd}{nd r:Nd}(h:r9 N t)(hl:t[t.length-1]?=some l)(hi:l[0]?=some nd)(hb0:1<=r.id)(hN':r.id<=N)(hfr:Iy t r.id)(hr1:r.low=⟨#[]⟩)(hr2:r.pg=⟨t.length,[⟨⟨#[]⟩,nd.id⟩],⟨#[]⟩,true,0⟩):r9 N (t++[[r]]):=by
 have hne:=h.ne;have hat:∀(k:Nat) (x:List Nd),(t++[[r]])[k]?=some x->t[k]?=some x\/(k=t.length/\x=[r]):=by
  intro k x hx;rcases Nat.lt_or_ge k t.length with hk|hk
  ·rw[List.getElem?_append_left hk]at hx;exact .inl hx
  ·rw[List.getElem?_append_right hk]at hx
   obtain⟨m,hm⟩:∃m,k-t.length=m:=⟨_,rfl⟩;rw[hm]at hx;cases m with
   | zero=>exact .inr ⟨by omega,(aq9 hx).symm⟩
   | succ m=>simp at hx
 have hone:∀(i:Nat) (a:Nd),[r][i]?=some a->i=0/\a=r:=by
  intro i a ha;cases i with
  | zero=>exact⟨rfl,(aq9 ha).symm⟩
  | succ i=>simp at ha
 have dW:=(h.rows _ l hl).first nd hi
 have hnodes:∀(k:Nat) (x:List Nd),(t++[[r]])[k]?=some x->∀a,a∈x->(1<=a.id/\a.id<=N)/\Lb a:=by
  intro k x hx a ha;rcases hat k x hx with hx|⟨rfl,rfl⟩
  ·exact h.nodes k x hx a ha
  ·obtain rfl:a=r:=by simpa using ha
   refine⟨⟨hb0,hN'⟩,?_,?_,?_⟩
   ·rw[hr2];exact List.pairwise_singleton _ _
   ·rw[hr2]
    intro s hs;obtain rfl:s=⟨⟨#[]⟩,nd.id⟩:=by simpa using hs
    exact(h.nodes _ l hl nd (aq7 hi)).1.1
   ·rw[hr2,hr1]
    intro s hs;obtain rfl:s=⟨⟨#[]⟩,nd.id⟩:=by simpa using hs
    exact⟨dm _,fun h=>by cases h⟩
 have Dr:∀(k1 k2:Nat) (l1 l2:List Nd) (i i':Nat) (a b:Nd),(t++[[r]])[k1]?=some l1->(t++[[r]])[k2]?=some l2->l1[i]?=some a->l2[i']?=some b->a.id=b.id->k1=k2/\i=i' := by
  intro k1 k2 l1 l2 i i' a b h1 h2 ha hb e;rcases hat k1 l1 h1 with h1' | ⟨rfl,rfl⟩
  ·rcases hat k2 l2 h2 with h2' | ⟨rfl,rfl⟩
   ·exact h.inj k1 k2 l1 l2 i i' a b h1' h2' ha hb e
   ·obtain⟨rfl,rfl⟩:=hone _ _ hb
    exact absurd e (hfr k1 l1 h1' a (aq7 ha))
  ·obtain⟨rfl,rfl⟩:=hone _ _ ha
   rcases hat k2 l2 h2 with h2' | ⟨rfl,rfl⟩
   ·exact absurd e.symm (hfr k2 l2 h2' b (aq7 hb))
   ·obtain⟨rfl,rfl⟩:=hone _ _ hb
    exact⟨rfl,rfl⟩
 refine⟨by simp,fun k x hx=>?_,hnodes,fun k x y hx hy a ha=>?_,Dr,Dq (by omega) (fun k x hx a ha=>(hnodes k x hx a ha).1) Dr⟩
 ·rcases hat k x hx with hx|⟨rfl,rfl⟩
  ·exact h.rows k x hx
  ·refine⟨by simp,fun a ha=>?_,fun a ha=>?_,fun i a b ha hb=>?_,fun i a ha hi=>?_⟩
   ·obtain rfl:a=r:=by simpa using ha
    rw[hr2]
   ·rw[←(aq9 ha)];exact hr1
   ·have:=(hone _ _ hb).1
    omega
   ·rw[(hone _ _ ha).2,hr2];exact⟨rfl,rfl,rfl⟩
 ·rcases hat (k+1) y hy with hy2|⟨e,rfl⟩
  ·rcases hat k x hx with hx2|⟨rfl,rfl⟩
   ·exact h.down k x y hx2 hy2 a ha
   ·have:=(aq5.1 hy2).1
    omega
  ·rcases hat k x hx with hx2|⟨rfl,rfl⟩
   ·obtain rfl:a=r:=by simpa using ha
    rw[show k=t.length-1 by omega,hl]at hx2
    obtain rfl:=aq9 hx2;refine⟨⟨⟨⟨#[]⟩,nd.id⟩,[],by rw[hr2],hr1.symm⟩,fun s hs=>?_⟩
    rw[hr2]at hs;obtain rfl:s=⟨⟨#[]⟩,nd.id⟩:=by simpa using hs
    exact⟨nd,aq7 hi,rfl,dW⟩
   ·omega
section
variable {d:aR}{L L':List aO}{t t':List (List Nd)}
theorem dQ.grow (hd:d.Ok)(hlen:(L.length:Int)=d.cells)(ht:dQ d L t){l:List Nd}{nd r:Nd}(hl:t[t.length-1]?=some (nd::l))(hb0:1<=r.id)(hN':r.id<=(ah L 4).n)(hfr:Iy t r.id)(hr1:r.low=⟨#[]⟩)(hr2:r.pg=⟨t.length,[⟨⟨#[]⟩,nd.id⟩],⟨#[]⟩,true,0⟩)
  (hh:Un d L r) (hw:(ah L (d.node r.id 0)).n%4=0):dQ d (aP L 0 ⟨r.id,⟨#[]⟩,0⟩) (t++[[r]])/\wA d L t (aP L 0 ⟨r.id,⟨#[]⟩,0⟩) (t++[[r]]):=by
 have tz:=ht.n4;have f1:=hd.fo;have hcl:=gF hd;have hsame:∀id j:Int,1<=id->id<=d.no->0<=j->j<d.fa+4->ah (aP L 0 ⟨r.id,⟨#[]⟩,0⟩) (d.node id j)=ah L (d.node id j):=fun id j a b c e=>bj (by have:=gW hd id j a b c e;omega)
 have h4:ah (aP L 0 ⟨r.id,⟨#[]⟩,0⟩) 4=ah L 4:=bj (by omega)
 have hat:∀(k:Nat) (x:List Nd),(t++[[r]])[k]?=some x->t[k]?=some x\/x=[r]:=by
  intro k x hx;rcases Nat.lt_or_ge k t.length with hk|hk
  ·rw[List.getElem?_append_left hk]at hx;exact .inl hx
  ·rw[List.getElem?_append_right hk]at hx
   have:=aq7 hx;exact .inr (by simpa using this)
 have hall:∀(k:Nat) (x:List Nd),(t++[[r]])[k]?=some x->∀a,a∈x->(t[k]?=some x\/a=r):=fun k x hx a ha=>by
  rcases hat k x hx with h|rfl
  ·exact .inl h
  ·exact .inr (by simpa using ha)
 refine⟨⟨by rw[h4];exact ht.sh.ae1 hl rfl hb0 hN' hfr hr1 hr2,by rw[h4];exact tz,⟨r,[],by simp,?_⟩,fun k x hx a ha hch=>?_,fun k x hx a ha hev=>?_⟩,fun k x hx a ha=>?_⟩
 ·rw[cB (by omega) (by omega)]
 ·rcases hall k x hx a ha with h|rfl
  ·have hb:=(ht.sh.nodes k x h a ha).1
   have hs:=fun j=>hsame a.id j hb.1 (by omega)
   exact(ht.node k x h a ha (by rw[←hs 0 (by omega) (by omega)];exact hch)).frame hd hb.1 (by omega) (fun j x y=>hs j x y)
  ·exact hh.frame hd hb0 (by omega) (fun j x y=>hsame a.id j hb0 (by omega) x y)
 ·rcases hall k x hx a ha with h|rfl
  ·have hb:=(ht.sh.nodes k x h a ha).1
   rw[hsame a.id 0 hb.1 (by omega) (by omega) (by omega)]at hev ⊢
   exact ht.wd k x h a ha hev
  ·rw[hsame a.id 0 hb0 (by omega) (by omega) (by omega)]
   exact hw
 ·have hb:=(ht.sh.nodes k x hx a ha).1
  refine⟨x,a,by rw[List.getElem?_append_left (aq5.1 hx).1];exact hx,ha,rfl,rfl,?_⟩
  rw[hsame a.id 0 hb.1 (by omega) (by omega) (by omega)]
  exact kG.refl _ _
def SzT (t:List (List Nd)):Prop:=∀(k:Nat) (l:List Nd),t[k]?=some l->∀nd,nd∈l->nd.low.size<=32
theorem SzT.keys {N:Int}(hs:r9 N t)(hz:SzT t){k:Nat}{l:List Nd}(hk:t[k+1]?=some l){nd:Nd}(hn:nd∈l):(∀s,s∈nd.pg.sl->s.k.size<=32/\1<=s.r/\s.r<=N)/\nd.pg.hi.size<=32:=by
 have qu:=(aq5.1 hk).1;obtain⟨l0,h0⟩:∃l0,t[k]?=some l0:=⟨_,aq8 (by omega)⟩
 have hR:=hs.rows _ l hk;refine⟨fun s hs' =>?_,?_⟩
 ·obtain⟨c,hc,e1,e2⟩:=(hs.down k l0 l h0 hk nd hn).2 s hs'
  rw[←e1,←e2];exact⟨hz k l0 h0 c hc,(hs.nodes k l0 h0 c hc).1⟩
 ·rcases Bool.eq_false_or_eq_true nd.pg.la with kN|kN
  ·rw[(hR.xz hn kN).1];exact Nat.zero_le _
  ·obtain⟨i,hi⟩:=aq4 hn
   have hil:=(aq5.1 hi).1;rcases Nat.lt_or_ge (i+1) l.length with hlt|hge
   ·obtain⟨b,hb⟩:∃b,l[i+1]?=some b:=⟨_,aq8 hlt⟩
    rw[(hR.next i nd b hi hb).2.1];exact hz _ l hk b (aq7 hb)
   ·have:=(hR.last i nd hi (by omega)).1
    rw[kN]at this;cases this
theorem fL.ae2 {N:Int}(hs:r9 N t){k:Nat}{l:List Nd}(hk:t[k]?=some l){nd:Nd}(hn:nd∈l):0<=nd.pg.ri/\nd.pg.ri<=N:=by
 have hR:=hs.rows _ l hk;have hN:=(hs.nodes k l hk nd hn).1;rcases Bool.eq_false_or_eq_true nd.pg.la with kN|kN
 ·rw[(hR.xz hn kN).2];omega
 ·obtain⟨i,hi⟩:=aq4 hn
  have hil:=(aq5.1 hi).1;rcases Nat.lt_or_ge (i+1) l.length with hlt|hge
  ·obtain⟨b,hb⟩:∃b,l[i+1]?=some b:=⟨_,aq8 hlt⟩
   rw[(hR.next i nd b hi hb).2.2.1];have:=(hs.nodes k l hk b (aq7 hb)).1;omega
  ·have:=(hR.last i nd hi (by omega)).1
   rw[kN]at this;cases this
theorem Og:32<=maxLen:=by decide +kernel
theorem dQ.hok (hd:d.Ok)(ht:dQ d L t)(hz:SzT t){k:Nat}{l:List Nd}(hk:t[k+1]?=some l){nd:Nd}(hn:nd∈l)(hc:bW (ah L (d.node nd.id 0)).n=false){word:Int}(hw:0<=word/\word<18446744073709551616):cm.Ok d ⟨nd.id,word,nd.pg⟩:=by
 have iX:=hd.mJ;have tz:=ht.n4;have hid:=(ht.sh.nodes _ l hk nd hn).1;obtain⟨hz1,hz2⟩:=hz.keys ht.sh hk hn;have mF:=fL.ae2 ht.sh hk hn;have hR:=ht.sh.rows _ l hk;have bZ:=hR.ak nd hn;have hm:=Og;have xK:t.length<=4096:=by
  refine Nat.le_trans (qG t fun l hl=>?_) (by have:=ht.sh.count;omega)
  obtain⟨k,hk⟩:=aq4 hl;exact(ht.sh.rows k l hk).ne
 have qu:=(aq5.1 hk).1;exact⟨⟨hid.1,by show nd.id<=d.no;omega⟩,hw,⟨(ht.node _ l hk nd hn hc).page.le,⟨mF.1,by show nd.pg.ri<_;omega⟩,fun s hs=>by have:=(hz1 s hs).2;omega,fun s hs=>Nat.le_trans (hz1 s hs).1 hm,Nat.le_trans hz2 hm,fun h=>(hR.xz hn h).1⟩,by show 0<=nd.pg.ak/\nd.pg.ak<1000000;omega⟩
def pQ (t:List (List Nd))(k:Nat)(id:Int):Prop:=∃l nd s,t[k]?=some l/\nd∈l/\s∈nd.pg.sl/\s.r=id
theorem mr {l:List Nd}{i:Nat}{nd a b x:Nd}(hi:l[i]?=some nd):x∈wo l i a b↔x=a\/x=b\/∃j,j≠i/\l[j]?=some x:=by
 have hlen:=(aq5.1 hi).1;constructor
 ·intro h
  obtain⟨j,hj⟩:=aq4 h;rw[fO hlen]at hj;by_cases c1:j<i
  ·rw[if_pos c1]at hj;exact .inr (.inr ⟨j,by omega,hj⟩)
  ·rw[if_neg c1]at hj
   by_cases c2:j=i
   ·rw[if_pos c2]at hj;exact .inl (aq9 hj).symm
   ·rw[if_neg c2]at hj
    by_cases c3:j=i+1
    ·rw[if_pos c3]at hj;exact .inr (.inl (aq9 hj).symm)
    ·rw[if_neg c3]at hj;exact .inr (.inr ⟨j-1,by omega,hj⟩)
 ·rintro (rfl|rfl|⟨j,hne,hj⟩)
  ·exact aq7 (i:=i) (by rw[fO hlen,if_neg (by omega),if_pos rfl])
  ·exact aq7 (i:=i+1) (by rw[fO hlen,if_neg (by omega),if_neg (by omega),if_pos rfl])
  ·rcases Nat.lt_or_ge j i with h|h
   ·exact aq7 (i:=j) (by rw[fO hlen,if_pos h];exact hj)
   ·exact aq7 (i:=j+1) (by rw[fO hlen,if_neg (by omega),if_neg (by omega),if_neg (by omega)];exact hj)
theorem nV {l:List Nd}{i:Nat}{nd a x:Nd}(hi:l[i]?=some nd):x∈l.set i a↔x=a\/∃j,j≠i/\l[j]?=some x:=by
 have hlen:=(aq5.1 hi).1;constructor
 ·intro h
  obtain⟨j,hj⟩:=aq4 h;rw[List.getElem?_set]at hj;split at hj
  ·exact .inl (aq9 hj).symm
  ·rename_i e
   exact .inr ⟨j,fun h=>e h.symm,hj⟩
 ·rintro (rfl|⟨j,hne,hj⟩)
  ·exact aq7 (i:=i) (by rw[List.getElem?_set_self hlen])
  ·exact aq7 (i:=j) (by rw[List.getElem?_set_ne (fun e=>hne e.symm)];exact hj)
theorem kU {l:List Sl}{key:ByteArray}{r:Int}{s:Sl}:s∈eQ l key r↔s∈l\/s=⟨key,r⟩:=by
 unfold eQ;constructor
 ·intro h
  rcases List.mem_append.1 h with h|h
  ·exact .inl (List.mem_of_mem_take h)
  ·rcases List.mem_cons.1 h with h|h
   ·exact .inr h
   ·exact .inl (List.mem_of_mem_drop h)
 ·rintro (h|rfl)
  ·rw[←List.take_append_drop (gD l key) l]at h
   rcases List.mem_append.1 h with h|h
   ·exact List.mem_append_left _ h
   ·exact List.mem_append_right _ (List.mem_cons_of_mem _ h)
  ·exact List.mem_append_right _ List.mem_cons_self
theorem Ut {k i:Nat}{l:List Nd}{nd:Nd}{key:ByteArray}{r n:Int}{sp:Bool}(hk:t[k]?=some l)(hi:l[i]?=some nd)(id:Int):pQ (mo t k i l nd (aZ nd.pg key r) n sp) k id↔pQ t k id\/id=r:=by
 have xG:=(aq5.1 hk).1;have hnd:=aq7 hi;have e:(aZ nd.pg key r).sl=eQ nd.pg.sl key r:=rfl;constructor
 ·rintro ⟨l',x,s,hl',hx,hs,rfl⟩
  have fin:s∈eQ nd.pg.sl key r->pQ t k s.r\/s.r=r:=fun h=>by
   rcases kU.1 h with h|rfl
   ·exact .inl ⟨l,nd,s,hk,hnd,h,rfl⟩
   ·exact .inr rfl
  cases sp with
  | false=>
   have hl':(t.set k (l.set i { nd with pg:=aZ nd.pg key r }))[k]?=some l' := hl';rw[List.getElem?_set_self xG]at hl';obtain rfl:=aq9 hl';rcases(nV hi).1 hx with rfl|⟨j,_,hj⟩
   ·exact fin hs
   ·exact .inl ⟨l,x,s,hk,aq7 hj,hs,rfl⟩
  | true=>
   have hl':(t.set k (wo l i { nd with pg:=fA (aZ nd.pg key r) n } ⟨n,bN (aZ nd.pg key r),dI (aZ nd.pg key r)⟩))[k]?=some l' := hl';rw[List.getElem?_set_self xG]at hl';obtain rfl:=aq9 hl';rcases(mr hi).1 hx with rfl|rfl|⟨j,_,hj⟩
   ·exact fin (List.mem_of_mem_take hs)
   ·exact fin (List.mem_of_mem_drop hs)
   ·exact .inl ⟨l,x,s,hk,aq7 hj,hs,rfl⟩
 ·intro h
  have fin:(∃s,s∈eQ nd.pg.sl key r/\s.r=id)\/(∃j x s,j≠i/\l[j]?=some x/\s∈x.pg.sl/\s.r=id):=by
   rcases h with⟨l',x,s,hl',hx,hs,rfl⟩|rfl
   ·rw[hk]at hl'
    obtain rfl:=aq9 hl';obtain⟨j,hj⟩:=aq4 hx;by_cases e:j=i
    ·subst e
     rw[hi]at hj;obtain rfl:=aq9 hj;exact .inl ⟨s,kU.2 (.inl hs),rfl⟩
    ·exact .inr ⟨j,x,s,e,hj,hs,rfl⟩
   ·exact .inl ⟨⟨key,id⟩,kU.2 (.inr rfl),rfl⟩
  cases sp with
  | false=>
   have e1:(mo t k i l nd (aZ nd.pg key r) n false)[k]?=some (l.set i { nd with pg:=aZ nd.pg key r }):=List.getElem?_set_self xG;rcases fin with⟨s,hs,rfl⟩|⟨j,x,s,hne,hj,hs,rfl⟩
   ·exact⟨_,_,s,e1,(nV hi).2 (.inl rfl),hs,rfl⟩
   ·exact⟨_,x,s,e1,(nV hi).2 (.inr ⟨j,hne,hj⟩),hs,rfl⟩
  | true=>
   have e1:(mo t k i l nd (aZ nd.pg key r) n true)[k]?=some (wo l i { nd with pg:=fA (aZ nd.pg key r) n } ⟨n,bN (aZ nd.pg key r),dI (aZ nd.pg key r)⟩):=List.getElem?_set_self xG;rcases fin with⟨s,hs,rfl⟩|⟨j,x,s,hne,hj,hs,rfl⟩
   ·rw[←List.take_append_drop (gh (eQ nd.pg.sl key r).length) (eQ nd.pg.sl key r)]at hs
    rcases List.mem_append.1 hs with hs|hs
    ·exact⟨_,_,s,e1,(mr hi).2 (.inl rfl),hs,rfl⟩
    ·exact⟨_,_,s,e1,(mr hi).2 (.inr (.inl rfl)),hs,rfl⟩
   ·exact⟨_,x,s,e1,(mr hi).2 (.inr (.inr ⟨j,hne,hj⟩)),hs,rfl⟩
theorem jh {k i k':Nat}{l:List Nd}{nd:Nd}{fu:Pg}{n:Int}{sp:Bool}(h:k' ≠ k):(mo t k i l nd fu n sp)[k']?=t[k']? := by
 unfold mo;split
 ·exact List.getElem?_set_ne (fun e=>h e.symm)
 ·exact List.getElem?_set_ne (fun e=>h e.symm)
theorem uY {k i:Nat}{l:List Nd}{nd:Nd}{fu:Pg}{n:Int}{sp:Bool}:(mo t k i l nd fu n sp).length=t.length:=by
 unfold mo;split <;> exact List.length_set
end
def small (l:List Nd):Bool:=match l with
 | [nd]=>decide (nd.pg.sl.length<=3)
 | _=>false
def wI (d:aR):Nat:=2*(d.fa.toNat+6)+12
def wC (d:aR)(N:Nat):Nat:=N*bJ d+1+qT d+wI d
def gI (d:aR):Nat:=20+wC d 1
def gC (d:aR)(B:Nat):Nat:=B*bJ d+1+qT d+gI d
def cU (d:aR)(B:Nat):List (List Nd)->Nat
 | []=>gC d B
 | l::r=>wC d ((l::r).map List.length).sum+if small l then 0 else cU d B r
def cL (t:List (List Nd))(n:Nat):Nat:=if (t[n]?.map small).getD false then 0 else t.length+1-n
theorem jx (t:List (List Nd))(n:Nat):pP t n=((t.drop n).map List.length).sum:=by
 unfold pP cg;conv=>lhs;rw[←List.take_append_drop n t]
 rw[List.map_append,List.sum_append];by_cases h:n<=t.length
 ·rw[List.take_append_of_le_length (by rw[List.length_take];omega),List.take_take,Nat.min_self];omega
 ·rw[List.drop_of_length_le (by omega),List.append_nil,List.take_take,Nat.min_self];simp
theorem drop_cons {t:List (List Nd)}{n:Nat}{l:List Nd}(h:t[n]?=some l):t.drop n=l::t.drop (n+1):=by
 obtain⟨h1,h2⟩:=aq5.1 h;rw[List.drop_eq_getElem_cons h1,h2]
theorem Uu (d:aR)(B:Nat){t:List (List Nd)}{n:Nat}{l:List Nd}(h:t[n]?=some l):cU d B (t.drop n)=wC d (pP t n)+if small l then 0 else cU d B (t.drop (n+1)):=by
 rw[jx,drop_cons h];rfl
theorem xL {l:List Nd}{i:Nat}{nd:Nd}(h:small l=true)(hi:l[i]?=some nd):nd.pg.sl.length<=3:=by
 unfold small at h;split at h
 ·rename_i x
  cases i with
  | zero=>
   obtain rfl:x=nd:=by simpa using hi
   exact of_decide_eq_true h
  | succ i=>simp at hi
 ·cases h
end
end Go.Proofs.YtlpdhhhgckpcfaaGreat
