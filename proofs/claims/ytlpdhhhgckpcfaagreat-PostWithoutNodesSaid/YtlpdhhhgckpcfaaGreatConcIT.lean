
/- Insert in a memory that others change (pure): what it keeps of its own nodes, and what it does to the tree. aez steps, and the tree that others read meanwhile (pure). -/
import Derived.Test.YtlpdhhhgckpcfaaGreatInsM
import Derived.Test.YtlpdhhhgckpcfaaGreatInsTree
import Derived.Test.YtlpdhhhgckpcfaaGreatConcR
import Derived.Test.YtlpdhhhgckpcfaaGreatShpC
namespace Go.Proofs.YtlpdhhhgckpcfaaGreat
open Go.RowKit
set_option maxRecDepth 100000
def o9 (d:aR)(L:List aP)(fr:cB):Prop:=Holds L (bN d fr.id fr.pg)/\ah L (d.node fr.id 0)=⟨fr.word,⟨#[]⟩,0⟩
def Db (d:aR)(L:List aP)(id:Int)(q:Pg):Prop:=Holds L (bN d id q)/\ah L (d.node id 0)=⟨aO 0,⟨#[]⟩,0⟩
structure kM (d:aR)(fr:cB)(fu:Pg):Prop where
 hok:fr.Ok d
 lk:fr.word%4=1
 Zk:fr.word+4<18446744073709551616
 Vo:lq d fr fu
structure Tg (d:aR)(L:List aP)(fr:cB)(id:Int):Prop where
 lo:1<=id
 hi:id<=d.no
 us:id<=(ah L 4).n
 ne:id≠fr.id
def iT (d:aR)(L:List aP)(fr:cB)(fu:Pg)(s:fU):Prop:=match s.pc with
 | 0=>s.sp=false/\s.full=false/\d.fa<(fu.sl.length:Int)/\((s.tk.pc=0/\s.tk.ok=false)\/(s.tk.pc=1/\s.tk.ok=false/\0<=s.tk.seen/\s.tk.seen<d.no))/\o9 d L fr
 | 1=>s.sp=false/\s.full=false/\2<=fu.sl.length/\Tg d L fr s.id/\s.ps=⟨d.node s.id 0,⟨aO 0,⟨#[]⟩,0⟩⟩::bN d s.id (dD fu)/\s.k<s.ps.length/\o9 d L fr/\∀ q,q∈s.ps.take s.k->ah L q.i=q.c
 | 2=>s.full=false/\(s.sp=false->(fu.sl.length:Int)<=d.fa)/\nE d fr (s.pg fu) s.ps/\s.k<s.ps.length/\(s.sp=true->2<=fu.sl.length/\Tg d L fr s.id/\Db d L s.id (dD fu)) /\
   ∃ L0:List aP,(L0.length:Int)=d.cells/\o9 d L0 fr/\∀ j:Int,0<=j->j<d.fa+4->ah L (d.node fr.id j)=ah (fq L0 (s.ps.take s.k)) (d.node fr.id j)
 | _=>s.pc=3/\((s.full=true/\s.sp=false/\o9 d L fr)\/(s.full=false/\(s.sp=false->(fu.sl.length:Int)<=d.fa)/\(s.sp=true->2<=fu.sl.length/\Tg d L fr s.id/\Db d L s.id (dD fu))/\Holds L (bN d fr.id (s.pg fu))/\ah L (d.node fr.id 0)=⟨dM (bC fr.word),⟨#[]⟩,0⟩))
section
variable {d:aR}{L L':List aP}{fr:cB}{fu:Pg}{s s':fU}
theorem o9.frame (hd:d.Ok)(hfr:fr.Ok d)(h:o9 d L fr)(he:∀ j:Int,0<=j->j<d.fa+4->ah L' (d.node fr.id j)=ah L (d.node fr.id j)):o9 d L' fr:=
 ⟨h.1.frame hd hfr.id.1 hfr.id.2 hfr.pg.le (fun k a b=>he k (by omega) b),by rw[he 0 (by omega) (by have:=hd.fw;omega)];exact h.2⟩
theorem Db.frame (hd:d.Ok){id:Int}{q:Pg}(h1:1<=id)(h2:id<=d.no)(hq:(q.sl.length:Int)<=d.fa)(h:Db d L id q)(he:∀ j:Int,0<=j->j<d.fa+4->ah L' (d.node id j)=ah L (d.node id j)):Db d L' id q:=
 ⟨h.1.frame hd h1 h2 hq (fun k a b=>he k (by omega) b),by rw[he 0 (by omega) (by have:=hd.fw;omega)];exact h.2⟩
theorem qo (hd:d.Ok)(K:kM d fr fu)(h:s.sp=false->(fu.sl.length:Int)<=d.fa):((s.pg fu).sl.length:Int)<=d.fa:=by
 have h1:=hd.fw;have h2:=K.Vo.len;unfold fU.pg;cases hsp:s.sp with
 | false=>exact h hsp
 | true=>
  show((fu.sl.take (gm fu.sl.length)).length:Int)<=d.fa
  rw[List.length_take];unfold gm;omega
theorem xh (hd:d.Ok)(K:kM d fr fu){id:Int}(h1:1<=id)(h2:id<=d.no):(∀ q,q∈((⟨d.node id 0,⟨aO 0,⟨#[]⟩,0⟩⟩:Pt)::bN d id (dD fu))->∃ k:Int,0<=k/\k<d.fa+4/\q.i=d.node id k)/\(((⟨d.node id 0,⟨aO 0,⟨#[]⟩,0⟩⟩:Pt)::bN d id (dD fu)).map (·.i)).Nodup:=by
 have f1:=hd.fw;have hle:=(K.Vo.right hd).le;constructor
 ·intro q hq
  rcases List.mem_cons.1 hq with rfl|hq
  ·exact⟨0,by omega,by omega,rfl⟩
  ·obtain⟨k,k1,k2,e⟩:=fH hd h1 h2 hle q hq
   exact⟨k,by omega,k2,e⟩
 ·rw[List.map_cons,List.nodup_cons]
  refine⟨fun hm=>?_,nD hd h1 h2 hle⟩
  obtain⟨q,hq,e⟩:=List.mem_map.1 hm;obtain⟨k,k1,k2,e2⟩:=fH hd h1 h2 hle q hq;exact dw hd h1 h2 (by omega) k2 (by omega) (by omega) (by omega) (e2.symm.trans e)
theorem iT.ok (h:iT d L fr fu s)(h2:s.pc<=2):s.Ok d fu:=by
 obtain⟨pc,tk,k,ps,sp,id,full⟩:=s;simp only at h2;rcases(by omega:pc=0\/pc=1\/pc=2)with rfl|rfl|rfl
 ·obtain⟨a,b,c,e,_⟩:=h
  exact⟨by simp,fun _=>⟨c,a,b,e⟩,fun h=>(by simp at h),fun h=>(by simp at h)⟩
 ·obtain⟨a,b,c,e,_,f,_⟩:=h
  exact⟨by simp,fun h=>(by simp at h),fun _=>⟨f,by have:=e.lo;simp only at this ⊢;omega,e.hi,b⟩,fun h=>(by simp at h)⟩
 ·obtain⟨a,b,c,e,f,_⟩:=h
  refine⟨by simp,fun h=>(by simp at h),fun h=>(by simp at h),fun _=>⟨e,a,?_⟩⟩
  cases sp with
  | false=>exact .inr (b rfl)
  | true=>exact .inl rfl
theorem fD (hd:d.Ok)(K:kM d fr fu)(h:iT d L fr fu s){j:Int}(h4:s.pc=0->j≠4)(hf:s.pc=2->∀ k:Int,0<=k->k<d.fa+4->j≠d.node fr.id k)(hn:s.pc=1->∀ k:Int,0<=k->k<d.fa+4->j≠d.node s.id k):ah (bQ d L s) j=ah L j:=by
 obtain⟨pc,tk,k,ps,sp,id,full⟩:=s;match pc,h with
 | 0,h=>
  obtain⟨tp,seen,ok⟩:=tk;show ah (aG 4 d.no L ⟨tp,seen,ok⟩).2 j=_
  unfold aG;split
  ·rfl
  ·simp only
   split
   ·exact bg (h4 rfl)
   ·rfl
  ·rfl
 | 1,h=>
  obtain⟨_,_,_,hid,hps,hk,_⟩:=h;simp only at hps hk hid;show ah (match ps[k]? with|some pt=>aN L pt.i pt.c|none=>L) j=_
  rw[aqt hk];obtain⟨q,a,b,e⟩:=(xh hd K hid.lo hid.hi).1 ps[k] (by rw[← hps];exact List.getElem_mem hk)
  show ah (aN L ps[k].i ps[k].c) j=_
  exact bg (by rw[e];exact hn rfl q a b)
 | 2,h=>
  obtain⟨_,hsp,hw,hk,_⟩:=h;replace hk:k<ps.length:=hk;show ah (match ps[k]? with|some pt=>aN L pt.i pt.c|none=>L) j=_
  rw[aqt hk];obtain⟨q,a,b,e⟩:=hw.addr hd K.hok.id.1 K.hok.id.2 (qo hd K hsp) ps[k] (List.getElem_mem hk);show ah (aN L ps[k].i ps[k].c) j=_
  exact bg (by rw[e];exact hf rfl q a b)
 | n+3,h=>rfl
theorem xj:(bQ d L s).length=L.length:=by
 obtain⟨pc,tk,k,ps,sp,id,full⟩:=s;match pc with
 | 0=>
  show(aG 4 d.no L tk).2.length=_
  unfold aG;split
  ·rfl
  ·split
   ·exact(aY L 4 _:(aN L 4 _).length=L.length)
   ·rfl
  ·rfl
 | 1=>
  show(match ps[k]? with|some pt=>aN L pt.i pt.c|none=>L).length=_
  split
  ·exact aY _ _ _
  ·rfl
 | 2=>
  show(match ps[k]? with|some pt=>aN L pt.i pt.c|none=>L).length=_
  split
  ·exact aY _ _ _
  ·rfl
 | n+3=>rfl
theorem nZ (hd:d.Ok)(hlen:(L.length:Int)=d.cells)(K:kM d fr fu)(h4:fr.id<=(ah L 4).n)(h40:0<=(ah L 4).n)(h:iT d L fr fu s)(h2:s.pc<=2)(hn:iz d fr fu L s s'):iT d (bQ d L s) fr fu s' := by
 have f1:=hd.fw;have hid:=K.hok.id;have hcl:=gB hd;have jk:=fun(j:Int)=>fD (j:=j) hd K h
 obtain⟨pc,tk,k,ps,sp,id,full⟩:=s;simp only at h2;rcases(by omega:pc=0\/pc=1\/pc=2)with rfl|rfl|rfl
 ·have hold:o9 d (bQ d L ⟨0,tk,k,ps,sp,id,full⟩) fr:=h.2.2.2.2.frame hd K.hok (fun j a b=>jk _ (fun _=>(gF hd hid.1 hid.2 j a b).symm) (fun e=>by cases e) (fun e=>by cases e))
  obtain⟨a1,a2,a3,a4,_⟩:=h;simp only at a1 a2 a3 a4;subst a1 a2;obtain⟨tp,seen,ok⟩:=tk;simp only at a4;rcases a4 with⟨rfl,rfl⟩|⟨rfl,rfl,b1,b2⟩
  ·have e1:aG 4 d.no L ⟨0,seen,false⟩=(⟨if d.no<=(ah L 4).n then 2 else 1,(ah L 4).n,false⟩,L):=rfl
   simp only[iz,e1]at hn;rcases hn with⟨c1,rfl⟩|⟨c1,_,rfl⟩|⟨_,c2,_⟩
   ·have hno:¬ d.no<=(ah L 4).n:=fun hc=>by rw[if_pos hc]at c1;omega
    refine⟨rfl,rfl,a3,.inr ⟨by show(if _ then 2 else 1)=1;rw[if_neg hno],rfl,h40,by show(ah L 4).n<d.no;omega⟩,hold⟩
   ·exact⟨rfl,.inl ⟨rfl,rfl,hold⟩⟩
   ·cases c2
  ·by_cases hsw:bW L 4 seen=true
   ·have e1:aG 4 d.no L ⟨1,seen,false⟩=(⟨2,seen,true⟩,aN L 4 ⟨seen+1,⟨#[]⟩,0⟩):=by
     show(if bW L 4 seen then _ else _)=_
     rw[if_pos hsw]
    have hseen:(ah L 4).n=seen:=by
     unfold bW at hsw;simp only[Bool.and_eq_true,decide_eq_true_eq]at hsw;exact hsw.2
    simp only[iz,e1]at hn;rcases hn with⟨c1,_⟩|⟨_,c1,_⟩|⟨_,_,rfl⟩
    ·omega
    ·cases c1
    ·refine⟨rfl,rfl,by have:=f1;omega,⟨by show 1<=seen+1;omega,by show seen+1<=d.no;omega,?_,by show seen+1≠fr.id;omega⟩,rfl,by simp,hold,fun q hq=>by simp at hq⟩
     show seen+1<=(ah (aG 4 d.no L ⟨1,seen,false⟩).2 4).n
     rw[e1];show seen+1<=(ah (aN L 4 ⟨seen+1,⟨#[]⟩,0⟩) 4).n
     rw[b9 (by omega) (by omega)]
     exact Int.le_refl _
   ·have e1:aG 4 d.no L ⟨1,seen,false⟩=(⟨0,seen,false⟩,L):=by
     show(if bW L 4 seen then _ else _)=_
     rw[if_neg hsw]
    simp only[iz,e1]at hn;rcases hn with⟨_,rfl⟩|⟨c1,_⟩|⟨c1,_⟩
    ·exact⟨rfl,rfl,a3,.inl ⟨rfl,rfl⟩,hold⟩
    ·omega
    ·omega
 ·obtain⟨a1,a2,a3,a4,a5,a6,a7,a8⟩:=h
  simp only at a1 a2 a3 a4 a5 a6 a8;subst a1 a2;have hap:∀ j j':Int,0<=j->j<d.fa+4->0<=j' -> j' < d.fa+4->d.node fr.id j≠d.node id j' := fun j j' x y x' y' => cJ hd hid.1 hid.2 a4.lo a4.hi x y x' y' a4.ne.symm
  have hold:o9 d (bQ d L ⟨1,tk,k,ps,false,id,false⟩) fr:=a7.frame hd K.hok (fun j a b=>jk _ (fun e=>by cases e) (fun e=>by cases e) (fun _ q x y=>hap j q a b x y))
  have h44:ah (bQ d L ⟨1,tk,k,ps,false,id,false⟩) 4=ah L 4:=jk 4 (fun e=>by cases e) (fun e=>by cases e) (fun _ q x y=>gF hd a4.lo a4.hi q x y)
  obtain⟨n1,n2⟩:=xh hd K a4.lo a4.hi;rw[← a5]at n1 n2;have hmm:bQ d L ⟨1,tk,k,ps,false,id,false⟩=aN L ps[k].i ps[k].c:=by
   show(match ps[k]? with|some pt=>aN L pt.i pt.c|none=>L)=_
   rw[aqt a6]
  have hst:∀ q,q∈ps.take (k+1)->ah (bQ d L ⟨1,tk,k,ps,false,id,false⟩) q.i=q.c:=by
   intro q hq;rw[hmm];obtain⟨i0,ox⟩:=aqp hq;rw[List.getElem?_take]at ox;split at ox
   ·rename_i hik
    obtain⟨c,ca,cb,ce⟩:=n1 ps[k] (List.getElem_mem a6);have hin:=bU hd a4.lo a4.hi ca cb;by_cases e:i0=k
    ·subst e
     rw[aqt a6]at ox;obtain rfl:=aqu ox;exact b9 (by rw[ce];exact hin.2.1) (by rw[ce];omega)
    ·have hne:q.i≠ps[k].i:=by
      rw[List.nodup_iff_pairwise_ne,List.pairwise_map,List.pairwise_iff_getElem]at n2;have Pn:=(aqq.1 ox);have:=n2 i0 k Pn.1 a6 (by omega)
      rw[Pn.2]at this;exact this
     rw[bg hne];exact a8 q (aqs (i:=i0) (by rw[List.getElem?_take,if_pos (by omega)];exact ox))
   ·cases ox
  have hIn:Tg d (bQ d L ⟨1,tk,k,ps,false,id,false⟩) fr id:=⟨a4.lo,a4.hi,by rw[h44];exact a4.us,a4.ne⟩
  rcases hn with⟨c1,rfl⟩|⟨c1,ps',hw,rfl⟩
  ·simp only at c1
   exact⟨rfl,rfl,a3,hIn,a5,by show k+1<ps.length;omega,hold,hst⟩
  ·simp only at c1 hw
   rw[c1,List.take_length]at hst;have hnew:Db d (bQ d L ⟨1,tk,k,ps,false,id,false⟩) id (dD fu):=⟨fun q hq=>hst q (by rw[a5];exact List.mem_cons_of_mem _ hq),hst ⟨d.node id 0,⟨aO 0,⟨#[]⟩,0⟩⟩ (by rw[a5];exact List.mem_cons_self)⟩
   have hwl:=hw.len;refine⟨rfl,fun e=>(by cases e),hw,by show 0<ps'.length;omega,fun _=>⟨a3,hIn,hnew⟩,_,?_,hold,fun j _ _=>rfl⟩
   rw[xj];exact hlen
 ·obtain⟨a1,a2,a3,a4,a5,L0,b1,b2,b3⟩:=h
  simp only at a1 a2 a3 a4 a5 b3;subst a1;have hle:=qo (s:=⟨2,tk,k,ps,sp,id,false⟩) hd K a2;have hwa:=a3.addr hd hid.1 hid.2 hle;have h44:ah (bQ d L ⟨2,tk,k,ps,sp,id,false⟩) 4=ah L 4:=jk 4 (fun e=>by cases e) (fun _ q x y=>gF hd hid.1 hid.2 q x y) (fun e=>by cases e)
  have hmm:bQ d L ⟨2,tk,k,ps,sp,id,false⟩=aN L ps[k].i ps[k].c:=by
   show(match ps[k]? with|some pt=>aN L pt.i pt.c|none=>L)=_
   rw[aqt a4]
  have hown:∀ j:Int,0<=j->j<d.fa+4->ah (bQ d L ⟨2,tk,k,ps,sp,id,false⟩) (d.node fr.id j)=ah (fq L0 (ps.take (k+1))) (d.node fr.id j):=by
   intro j x y;rw[hmm,Bk (aqt a4)];obtain⟨c,ca,cb,ce⟩:=hwa ps[k] (List.getElem_mem a4);have hin:=bU hd hid.1 hid.2 ca cb;by_cases e:d.node fr.id j=ps[k].i
   ·rw[e,b9 (by rw[ce];exact hin.2.1) (by rw[ce];omega),b9 (by rw[ce];exact hin.2.1) (by rw[ce,kG];omega)]
   ·rw[bg e,bg e]
    exact b3 j x y
  have hnew:sp=true->2<=fu.sl.length/\Tg d (bQ d L ⟨2,tk,k,ps,sp,id,false⟩) fr id/\Db d (bQ d L ⟨2,tk,k,ps,sp,id,false⟩) id (dD fu):=fun e=>by
   obtain⟨x1,x2,x3⟩:=a5 e;refine⟨x1,⟨x2.lo,x2.hi,by rw[h44];exact x2.us,x2.ne⟩,x3.frame hd x2.lo x2.hi (K.Vo.right hd).le (fun j x y=>jk _ (fun e=>by cases e) (fun _ q p r=>cJ hd x2.lo x2.hi hid.1 hid.2 x y p r x2.ne) (fun e=>by cases e))⟩
  rcases hn with⟨c1,rfl⟩|⟨c1,rfl⟩
  ·simp only at c1
   exact⟨rfl,a2,a3,by show k+1<ps.length;omega,hnew,L0,b1,b2,hown⟩
  ·simp only at c1
   rw[c1,List.take_length]at hown;obtain⟨e1,_,_⟩:=abh hd a3 hid.1 hid.2 hle b1 b2.1;refine⟨rfl,.inr ⟨rfl,a2,hnew,?_,?_⟩⟩
   ·exact e1.frame hd hid.1 hid.2 hle (fun j x y=>hown j (by omega) y)
   ·rw[hown 0 (by omega) (by omega)]
    obtain⟨mid,hm,rfl⟩:=a3;exact um hd hid.1 hid.2 b1
end
theorem cA.m {d:aR}{L:List aP}{t:List (List Nd)}(ht:cA d L t):dQ d L t:=
 ⟨ht.shp,ht.n4,ht.top,fun k l hk nd hn _=>by
  have h:=ht.nodes k l hk nd hn;exact⟨h.page,h.hold,h.free.k,h.free.m⟩,fun k l hk nd hn _=>(ht.nodes k l hk nd hn).free.n⟩
theorem dQ.ok {d:aR}{L:List aP}{t:List (List Nd)}(ht:dQ d L t)(hf:∀ (k:Nat)(l:List Nd),t[k]?=some l->∀ nd,nd∈l->(ah L (d.node nd.id 0)).n%4=0):cA d L t:=by
 refine cA.of ht.sh ht.n4 ht.root (fun k l hk nd hn=>?_)
 have h0:=hf k l hk nd hn;have h:=ht.node k l hk nd hn (by unfold bY;exact decide_eq_false (by omega))
 exact⟨h.page,h.hold,h0,h.k,h.m⟩
structure FuT (t:List (List Nd))(k:Nat)(nd:Nd)(fu:Pg):Prop where
 az:fu.az=nd.pg.az
 hi:fu.hi=nd.pg.hi
 la:fu.la=nd.pg.la
 ri:fu.ri=nd.pg.ri
 nds:Kf { nd with pg:=fu }
 down:∀ (m:Nat) (l0:List Nd),k=m+1->t[m]?=some l0->jX l0 { nd with pg:=fu }
structure qq (t:List (List Nd))(k i:Nat)(l:List Nd)(nd:Nd)(fr:cB)(fu:Pg):Prop where
 hk:t[k]?=some l
 hi:l[i]?=some nd
 id:nd.id=fr.id
 pg:nd.pg=fr.pg
 fu:FuT t k nd fu
def Hh (t:List (List Nd))(id:Int):Prop:=∀ (k:Nat) (l:List Nd),t[k]?=some l->∀ c,c∈l->c.id≠id
def qu (t:List (List Nd))(s:fU):Prop:=(s.pc=1\/(s.pc=2/\s.sp=true))->Hh t s.id
theorem nO {x:Int}(h:x%4=1):bC x=x+2/\bY (bC x)=true/\bY x=false:=by
 have e:bC x=x+2:=by unfold bC;rw[if_pos (by omega)]
 rw[e];exact⟨rfl,by unfold bY;exact decide_eq_true (by omega),by unfold bY;exact decide_eq_false (by omega)⟩
theorem yS {x:Int}(h:x%4=1)(h0:0<=x)(h1:x+4<18446744073709551616):dM (bC x)=x+4:=by
 rw[(nO h).1];unfold dM pS;rw[if_neg (by omega),IntKind.wrap_u64]
 omega
section
variable {d:aR}{L L':List aP}{t t':List (List Nd)}{fr:cB}{fu:Pg}{s s':fU}{k i:Nat}{l:List Nd}{nd:Nd}
theorem iT.word (hd:d.Ok)(K:kM d fr fu)(h:iT d L fr fu s)(h2:s.pc<=2):ah L (d.node fr.id 0)=⟨if s.pc=2/\1<=s.k then bC fr.word else fr.word,⟨#[]⟩,0⟩:=by
 have f1:=hd.fw;obtain⟨pc,tk,k,ps,sp,id,full⟩:=s;simp only at h2;rcases(by omega:pc=0\/pc=1\/pc=2)with rfl|rfl|rfl
 ·exact h.2.2.2.2.2
 ·exact h.2.2.2.2.2.2.1.2
 ·obtain⟨a1,a2,a3,a4,a5,L0,b1,b2,b3⟩:=h
  have a4:k<ps.length:=a4;rw[b3 0 (by omega) (by omega)]
  show ah (fq L0 (ps.take k)) _=⟨if 2=2/\1<=k then _ else _,_,_⟩
  by_cases h1:1<=k
  ·rw[if_pos ⟨rfl,h1⟩]
   obtain⟨mid,hm,e⟩:=a3;simp only at e;subst e;refine Mn hd K.hok.id.1 K.hok.id.2 hm.1 b1 (qo hd K a2) h1 ?_
   simp at a4;omega
  ·rw[if_neg (fun h=>h1 h.2)]
   obtain rfl:k=0:=by omega
   exact b2.2
theorem iT.old (hd:d.Ok)(K:kM d fr fu)(h:iT d L fr fu s)(h2:s.pc<=2)(hc:bY (ah L (d.node fr.id 0)).n=false):o9 d L fr:=by
 have hw:=h.word hd K h2;have hlk:=K.lk;obtain⟨pc,tk,k,ps,sp,id,full⟩:=s;simp only at h2;rcases(by omega:pc=0\/pc=1\/pc=2)with rfl|rfl|rfl
 ·exact h.2.2.2.2
 ·exact h.2.2.2.2.2.2.1
 ·obtain⟨a1,a2,a3,a4,a5,L0,b1,b2,b3⟩:=h
  simp only at hw b3;by_cases h1:1<=k
  ·rw[hw,if_pos ⟨trivial,h1⟩]at hc
   rw[show bY _=true from(nO hlk).2.1]at hc
   cases hc
  ·obtain rfl:k=0:=by omega
   exact b2.frame hd K.hok b3
theorem o9.ndc (hd:d.Ok)(K:kM d fr fu)(h:o9 d L fr)(lj:fr.pg.la=true->fr.pg.hi=⟨#[]⟩)(hid:nd.id=fr.id)(mO:nd.pg=fr.pg):Tf d L nd:=by
 refine⟨?_,?_,?_,?_⟩
 ·rw[hid,mO];exact lz h.1 K.hok.az K.hok.pg.le lj
 ·rw[hid,mO];exact h.1
 ·rw[hid,h.2]
 ·rw[hid,h.2]
theorem iT.Zk (hd:d.Ok)(hlen:(L.length:Int)=d.cells)(K:kM d fr fu)(h4:fr.id<=(ah L 4).n)(h40:0<=(ah L 4).n)(h:iT d L fr fu s)(h2:s.pc<=2)(hn:iz d fr fu L s s') :
  (∀ pg,(s'.pc<=2\/s'.full=true)->ku (ah L (d.node fr.id 0)).n (ah (bQ d L s) (d.node fr.id 0)).n pg pg)/\(∀ pg lH,s'.pc=3->s'.full=false->ku (ah L (d.node fr.id 0)).n (ah (bQ d L s) (d.node fr.id 0)).n pg lH):=by
 have hI:=nZ hd hlen K h4 h40 h h2 hn;have hw:=h.word hd K h2;obtain⟨e1,e2,e3⟩:=nO K.lk;have e4:=yS K.lk K.hok.word.1 K.Zk;have hlk:=K.lk;have same:ah (bQ d L s) (d.node fr.id 0)=ah L (d.node fr.id 0)->∀ pg,ku (ah L (d.node fr.id 0)).n (ah (bQ d L s) (d.node fr.id 0)).n pg pg:=fun e pg=>by
  rw[e];exact ku.refl _ _
 constructor
 ·intro pg hs
  obtain⟨pc,tk,k,ps,sp,id,full⟩:=s;simp only at h2 hw;rcases(by omega:pc=0\/pc=1\/pc=2)with rfl|rfl|rfl
  ·exact same (fD hd K h (fun _=>(gF hd K.hok.id.1 K.hok.id.2 0 (by omega) (by have:=hd.fw;omega)).symm) (fun e=>by cases e) (fun e=>by cases e)) pg
  ·have hid:=h.2.2.2.1
   have f1:=hd.fw;exact same (fD hd K h (fun e=>by cases e) (fun e=>by cases e) (fun _ q x y=>cJ hd K.hok.id.1 K.hok.id.2 hid.lo hid.hi (by omega) (by omega) x y hid.ne.symm)) pg
  ·rcases hn with⟨c1,rfl⟩|⟨c1,rfl⟩
   ·have hw1:(ah (bQ d L ⟨2,tk,k,ps,sp,id,full⟩) (d.node fr.id 0)).n=bC fr.word:=by
     rw[hI.word hd K (Nat.le_refl 2)];show(if 2=2/\1<=k+1 then bC fr.word else fr.word)=_
     rw[if_pos ⟨rfl,Nat.le_add_left 1 k⟩]
    have hw0:(ah L (d.node fr.id 0)).n=if 1<=k then bC fr.word else fr.word:=by
     rw[hw];by_cases h1:1<=k
     ·rw[if_pos h1,if_pos ⟨rfl,h1⟩]
     ·rw[if_neg h1,if_neg (fun h=>h1 h.2)]
    rw[hw1,hw0];by_cases h1:1<=k
    ·rw[if_pos h1]
     exact ku.refl _ _
    ·rw[if_neg h1]
     refine⟨by omega,fun _ hc=>?_⟩
     rw[e2]at hc;cases hc
   ·rcases hs with hs|hs
    ·exact absurd hs (by simp)
    ·have:=h.1
     simp only at hs this;rw[this]at hs;cases hs
 ·intro pg lH h3 hf
  have hI' := hI;obtain⟨Ke,tk',k',ps',sp',id',Cv⟩:=s';simp only at h3 hf;subst h3 hf;obtain⟨_,⟨q,_⟩|⟨_,_,_,_,hw'⟩⟩:=hI'
  ·cases q
  ·rw[hw',hw,e4]
   refine⟨?_,fun h _=>?_⟩
   ·show(if _ then _ else _) / 4<=(fr.word+4) / 4
    split <;> omega
   ·exfalso
    have h:(if s.pc=2/\1<=s.k then bC fr.word else fr.word) / 4=(fr.word+4) / 4:=h
    split at h <;> omega
theorem iT.other (hd:d.Ok)(K:kM d fr fu)(h:iT d L fr fu s)(hF:qu t s){k':Nat}{l':List Nd}{c:Nd}(hk:t[k']?=some l')(hc:c∈l')(h1:1<=c.id)(h2:c.id<=d.no)(hne:c.id≠fr.id) :
  ∀ j:Int,0<=j->j<d.fa+4->ah (bQ d L s) (d.node c.id j)=ah L (d.node c.id j):=by
 intro j x y;refine fD hd K h (fun _=>(gF hd h1 h2 j x y).symm) (fun _ q p r=>cJ hd h1 h2 K.hok.id.1 K.hok.id.2 x y p r hne) (fun hp q p r=>?_)
 have hs:=hF (.inl hp) k' l' hk c hc;obtain⟨pc,tk,k,ps,sp,id,full⟩:=s;simp only at hp;subst hp;exact cJ hd h1 h2 h.2.2.2.1.lo h.2.2.2.1.hi x y p r hs
theorem fL (hd:d.Ok):∀ id j:Int,1<=id->id<=d.no->0<=j->j<d.fa+4->8<=d.node id j:=fun id k i1 i2 a b=>by
 have n0:=(bU hd i1 i2 a b).1;have hA:=hd.eb;have f1:=hd.fw;have m3:0<=(id-1)*(d.fa+4):=Int.mul_nonneg (by omega) (by omega)
 omega
theorem iT.low (hd:d.Ok)(K:kM d fr fu)(h:iT d L fr fu s){j:Int}(hj:j<8)(h4:j≠4):ah (bQ d L s) j=ah L j:=by
 refine fD hd K h (fun _=>h4) (fun _ q p r=>?_) (fun hp q p r=>?_)
 ·have:=fL hd fr.id q K.hok.id.1 K.hok.id.2 p r
  omega
 ·obtain⟨pc,tk,k,ps,sp,id,full⟩:=s
  simp only at hp;subst hp;have:=fL hd id q h.2.2.2.1.lo h.2.2.2.1.hi p r;show j≠d.node id q
  omega
theorem iT.n4 (hd:d.Ok)(hlen:(L.length:Int)=d.cells)(K:kM d fr fu)(h:iT d L fr fu s)(hn:(ah L 4).n<=d.no):(ah L 4).n<=(ah (bQ d L s) 4).n/\(ah (bQ d L s) 4).n<=d.no:=by
 have hcl:=gB hd;by_cases h0:s.pc=0
 ·obtain⟨pc,tk,k,ps,sp,id,full⟩:=s
  simp only at h0;subst h0;obtain⟨_,_,_,a4,_⟩:=h;obtain⟨tp,seen,ok⟩:=tk;simp only at a4;show(ah L 4).n<=(ah (aG 4 d.no L ⟨tp,seen,ok⟩).2 4).n/\(ah (aG 4 d.no L ⟨tp,seen,ok⟩).2 4).n<=d.no
  rcases a4 with⟨rfl,rfl⟩|⟨rfl,rfl,b1,b2⟩
  ·exact⟨Int.le_refl _,hn⟩
  ·unfold aG
   simp only;by_cases hsw:bW L 4 seen=true
   ·rw[if_pos hsw]
    have hseen:(ah L 4).n=seen:=by
     unfold bW at hsw;simp only[Bool.and_eq_true,decide_eq_true_eq]at hsw;exact hsw.2
    show(ah L 4).n<=(ah (aN L 4 ⟨seen+1,⟨#[]⟩,0⟩) 4).n/\(ah (aN L 4 ⟨seen+1,⟨#[]⟩,0⟩) 4).n<=d.no
    rw[b9 (by omega) (by omega)]
    exact⟨by show _<=seen+1;omega,by show seen+1<=_;omega⟩
   ·rw[if_neg hsw]
    exact⟨Int.le_refl _,hn⟩
 ·rw[fD hd K h (fun e=>absurd e h0) (fun _=>gF hd K.hok.id.1 K.hok.id.2) (fun hp=>?_)]
  ·exact⟨Int.le_refl _,hn⟩
  ·obtain⟨pc,tk,k,ps,sp,id,full⟩:=s
   simp only at hp;subst hp;exact gF hd h.2.2.2.1.lo h.2.2.2.1.hi
theorem qu.step (ht:dQ d L t)(hI:iT d L fr fu s)(hF:qu t s)(h2:s.pc<=2)(hn:iz d fr fu L s s')(h3:s'.pc<=2):qu t s' := by
 obtain⟨pc,tk,k,ps,sp,id,full⟩:=s;simp only at h2;rcases(by omega:pc=0\/pc=1\/pc=2)with rfl|rfl|rfl
 ·rcases hn with⟨c1,rfl⟩|⟨c1,c2,rfl⟩|⟨c1,c2,rfl⟩
  ·rintro (h|⟨h,_⟩) <;> exact absurd h (by simp)
  ·exact absurd h3 (by simp)
  ·intro _ k' l' hk c hc
   obtain⟨_,_,_,a4,_⟩:=hI;obtain⟨tp,seen,ok⟩:=tk;simp only at a4;rcases a4 with⟨rfl,rfl⟩|⟨rfl,rfl,b1,b2⟩
   ·cases c2
   ·by_cases hsw:bW L 4 seen=true
    ·have e1:aG 4 d.no L ⟨1,seen,false⟩=(⟨2,seen,true⟩,aN L 4 ⟨seen+1,⟨#[]⟩,0⟩):=by
      show(if bW L 4 seen then _ else _)=_
      rw[if_pos hsw]
     have hseen:(ah L 4).n=seen:=by
      unfold bW at hsw;simp only[Bool.and_eq_true,decide_eq_true_eq]at hsw;exact hsw.2
     have:=(ht.sh.nodes k' l' hk c hc).1.2;show c.id≠(aG 4 d.no L ⟨1,seen,false⟩).1.seen+1
     rw[e1];show c.id≠seen+1
     omega
    ·have e1:aG 4 d.no L ⟨1,seen,false⟩=(⟨0,seen,false⟩,L):=by
      show(if bW L 4 seen then _ else _)=_
      rw[if_neg hsw]
     rw[e1]at c1;exact absurd c1 (by simp)
 ·rcases hn with⟨c1,rfl⟩|⟨c1,ps',hw,rfl⟩
  ·exact fun _=>hF (.inl rfl)
  ·exact fun _=>hF (.inl rfl)
 ·rcases hn with⟨c1,rfl⟩|⟨c1,rfl⟩
  ·rintro (h|⟨_,h⟩)
   ·exact absurd h (by simp)
   ·exact hF (.inr ⟨rfl,h⟩)
  ·exact absurd h3 (by simp)
theorem qq.at (ht:dQ d L t)(H:qq t k i l nd fr fu){k' j:Nat}{l':List Nd}{c:Nd}(hk:t[k']?=some l')(hj:l'[j]?=some c)(he:c.id=fr.id):k'=k/\j=i/\c=nd:=by
 obtain⟨rfl,rfl⟩:=ht.sh.inj k' k l' l j i c nd hk H.hk hj H.hi (by rw[he,H.id])
 have h1:=H.hk;rw[hk]at h1;obtain rfl:=aqu h1;have h2:=H.hi;rw[hj]at h2;exact⟨rfl,rfl,aqu h2⟩
theorem Th (hd:d.Ok)(hlen:(L.length:Int)=d.cells)(K:kM d fr fu)(ht:dQ d L t)(H:qq t k i l nd fr fu)(hI:iT d L fr fu s)(hF:qu t s)(h2:s.pc<=2)(hn:iz d fr fu L s s')(h3:s'.pc<=2\/s'.full=true) :
  dQ d (bQ d L s) t/\vT d L t (bQ d L s) t:=by
 have hnd:=aqs H.hi;have Vp:=(ht.sh.nodes k l H.hk nd hnd).1;have Ia:=H.id;have hIs:=nZ hd hlen K (by omega) (by omega) hI h2 hn
 have hv:=(hI.Zk hd hlen K (by omega) (by omega) h2 hn).1
 obtain⟨n1,n2⟩:=hI.n4 hd hlen K ht.n4;have htn:=ht.n4;have lj:fr.pg.la=true->fr.pg.hi=⟨#[]⟩:=fun h=>by
  rw[← H.pg]at h ⊢;exact((ht.sh.rows k l H.hk).wY hnd h).1
 have hwd:∀ (k':Nat) (l':List Nd),t[k']?=some l' -> ∀ c,c∈l' -> (ah (bQ d L s) (d.node c.id 0)).n%2=0->(ah (bQ d L s) (d.node c.id 0)).n%4=0:=by
  intro k' l' hk' c hc hev;have hcb:=(ht.sh.nodes k' l' hk' c hc).1;by_cases he:c.id=fr.id
  ·exfalso
   rw[he]at hev;have hlk:=K.lk;have abM:(ah (bQ d L s) (d.node fr.id 0)).n%2=1:=by
    by_cases h3':s'.pc<=2
    ·rw[hIs.word hd K h3']
     show(if s'.pc=2/\1<=s'.k then bC fr.word else fr.word)%2=1
     have:=(nO K.lk).1;split <;> omega
    ·obtain⟨Ke,tk',k',ps',sp',id',Cv⟩:=s'
     obtain⟨Ke,rfl⟩:∃ m,Ke=m+3:=⟨Ke-3,by simp only at h3';omega⟩
     rcases h3 with h3|h3
     ·exact absurd h3 h3'
     ·simp only at h3
      subst h3;obtain⟨_,⟨_,_,q⟩|⟨q,_⟩⟩:=hIs
      ·rw[q.2]
       show fr.word%2=1
       omega
      ·cases q
   omega
  ·have ho:=hI.other hd K hF hk' hc hcb.1 (by omega) he
   have f1:=hd.fw;rw[ho 0 (by omega) (by omega)]at hev ⊢
   exact ht.wd k' l' hk' c hc hev
 constructor
 ·refine⟨ht.sh.mono n1,n2,by rw[hI.low hd K (by omega) (by omega)];exact ht.root,fun k' l' hk' c hc hch=>?_,hwd⟩
  have hcb:=(ht.sh.nodes k' l' hk' c hc).1;by_cases he:c.id=fr.id
  ·obtain⟨j,hj⟩:=aqp hc
   obtain⟨rfl,rfl,rfl⟩:=H.at ht hk' hj he;have hold:o9 d (bQ d L s) fr:=by
    rcases h3 with h3|h3
    ·exact hIs.old hd K h3 (by rw[← he];exact hch)
    ·by_cases h3':s'.pc<=2
     ·exact hIs.old hd K h3' (by rw[← he];exact hch)
     ·obtain⟨Ke,tk',k',ps',sp',id',Cv⟩:=s'
      obtain⟨Ke,rfl⟩:∃ m,Ke=m+3:=⟨Ke-3,by simp only at h3';omega⟩
      simp only at h3;subst h3;obtain⟨_,⟨_,_,q⟩|⟨q,_⟩⟩:=hIs
      ·exact q
      ·cases q
   exact hold.ndc hd K lj he H.pg
  ·have ho:=hI.other hd K hF hk' hc hcb.1 (by omega) he
   have f1:=hd.fw;exact(ht.node k' l' hk' c hc (by rw[← ho 0 (by omega) (by omega)];exact hch)).frame hd hcb.1 (by omega) ho
 ·intro k' l' hk' c hc
  have hcb:=(ht.sh.nodes k' l' hk' c hc).1;refine⟨l',c,hk',hc,rfl,rfl,?_⟩;by_cases he:c.id=fr.id
  ·rw[he];exact hv c.pg h3
  ·have ho:=hI.other hd K hF hk' hc hcb.1 (by omega) he
   have f1:=hd.fw;rw[ho 0 (by omega) (by omega)]
   exact ku.refl _ _
theorem Ti (hd:d.Ok)(hlen:(L.length:Int)=d.cells)(K:kM d fr fu)(ht:dQ d L t)(H:qq t k i l nd fr fu)(hI:iT d L fr fu s)(hF:qu t s)(h2:s.pc<=2)(hn:iz d fr fu L s s')(h3:s'.pc=3)(hf:s'.full=false) :
  dQ d (bQ d L s) (l9 t k i l nd fu s'.id s'.sp)/\vT d L t (bQ d L s) (l9 t k i l nd fu s'.id s'.sp):=by
 have hnd:=aqs H.hi;have Vp:=(ht.sh.nodes k l H.hk nd hnd).1;have Ia:=H.id;have hIs:=nZ hd hlen K (by omega) (by omega) hI h2 hn
 have hv:=(hI.Zk hd hlen K (by omega) (by omega) h2 hn).2
 obtain⟨n1,n2⟩:=hI.n4 hd hlen K ht.n4;have htn:=ht.n4;have f1:=hd.fw;have hR:=ht.sh.rows k l H.hk;have cg:=hR.az nd hnd;have wW:=H.fu.az;have qQ:=K.hok.az;rw[← H.pg]at qQ;have lj:fu.la=true->fu.hi=⟨#[]⟩:=fun h=>by
  rw[H.fu.la]at h;rw[H.fu.hi];exact(hR.wY hnd h).1
 have hlen' := (aqq.1 H.hi).1;have hS:=ht.sh.mono n1;obtain⟨rt,rest,gU,hroot⟩:=ht.root;have Em:ah (bQ d L s) 0=ah L 0:=hI.low hd K (by omega) (by omega)
 have aeA:=fun pg lH=>hv pg lH h3 hf
 have Xx:(s.pc=2/\s'.sp=s.sp/\s'.id=s.id):=by
  obtain⟨pc,tk,k,ps,sp,id,full⟩:=s;simp only at h2;rcases(by omega:pc=0\/pc=1\/pc=2)with rfl|rfl|rfl
  ·rcases hn with⟨c1,rfl⟩|⟨c1,c2,rfl⟩|⟨c1,c2,rfl⟩
   ·exact absurd h3 (by simp)
   ·cases hf
   ·exact absurd h3 (by simp)
  ·rcases hn with⟨c1,rfl⟩|⟨c1,ps',hw,rfl⟩ <;> exact absurd h3 (by simp)
  ·rcases hn with⟨c1,rfl⟩|⟨c1,rfl⟩
   ·exact absurd h3 (by simp)
   ·exact⟨rfl,rfl,rfl⟩
 have hold:∀ (k':Nat) (l':List Nd),t[k']?=some l' -> ∀ (j:Nat) (c:Nd),l'[j]?=some c->(k' ≠ k\/j≠i)->c.id≠fr.id/\∀ q:Int,0<=q->q<d.fa+4->ah (bQ d L s) (d.node c.id q)=ah L (d.node c.id q):=by
  intro k' l' hk' j c hc hne;have hcm:=aqs hc;have hcb:=(ht.sh.nodes k' l' hk' c hcm).1;have he:c.id≠fr.id:=fun e=>by
   obtain⟨e1,e2,_⟩:=H.at ht hk' hc e;rcases hne with h|h
   ·exact h e1
   ·exact h e2
  exact⟨he,hI.other hd K hF hk' hcm hcb.1 (by omega) he⟩
 have Dc:∀ (k':Nat) (l':List Nd),t[k']?=some l' -> ∀ (j:Nat) (c:Nd),l'[j]?=some c->(k' ≠ k\/j≠i)->bY (ah (bQ d L s) (d.node c.id 0)).n=false->Tf d (bQ d L s) c:=by
  intro k' l' hk' j c hc hne hch;have hcm:=aqs hc;have hcb:=(ht.sh.nodes k' l' hk' c hcm).1;have ho:=(hold k' l' hk' j c hc hne).2;exact(ht.node k' l' hk' c hcm (by rw[← ho 0 (by omega) (by omega)];exact hch)).frame hd hcb.1 (by omega) ho
 have Dd:∀ (k':Nat) (l':List Nd),t[k']?=some l' -> ∀ (j:Nat) (c:Nd),l'[j]?=some c->(k' ≠ k\/j≠i)->(ah (bQ d L s) (d.node c.id 0)).n%2=0->(ah (bQ d L s) (d.node c.id 0)).n%4=0:=by
  intro k' l' hk' j c hc hne hev;rw[(hold k' l' hk' j c hc hne).2 0 (by omega) (by omega)]at hev ⊢
  exact ht.wd k' l' hk' c (aqs hc) hev
 have jk:∀ (k':Nat) (l':List Nd),t[k']?=some l' -> ∀ (j:Nat) (c:Nd),l'[j]?=some c->(k' ≠ k\/j≠i)->ku (ah L (d.node c.id 0)).n (ah (bQ d L s) (d.node c.id 0)).n c.pg c.pg:=by
  intro k' l' hk' j c hc hne;rw[(hold k' l' hk' j c hc hne).2 0 (by omega) (by omega)]
  exact ku.refl _ _
 have hFr:=fun h:s.sp=true=>hF (.inr ⟨Xx.1,h⟩)
 obtain⟨Ke,tk',kk',ps',sp',id',Cv⟩:=s';simp only at h3 hf Xx ⊢;subst h3 hf;obtain⟨_,⟨q,_⟩|⟨_,g1,g2,g3,g4⟩⟩:=hIs
 ·cases q
 simp only at g1 g2 g3 g4;cases hsp:sp' with
 | false=>
  rw[hsp]at g1 g3;have g1:=g1 rfl;have e:l9 t k i l nd fu id' false=t.set k (l.set i { nd with pg:=fu }):=rfl;rw[e];have hme:Tf d (bQ d L s) { nd with pg:=fu }:=by
   have g3:Holds (bQ d L s) (bN d fr.id fu):=g3;rw[← Ia]at g3 g4;exact⟨lz g3 (show 0<=fu.az/\fu.az<1000000 by omega) g1 lj,g3,by rw[g4],by rw[g4]⟩
  refine⟨⟨hS.put H.hk H.hi wW H.fu.hi H.fu.la H.fu.ri H.fu.nds H.fu.down,n2,?_,fun k' l' hk' c hc hch=>?_,fun k' l' hk' c hc=>?_⟩,fun k' l' hk' c hc=>?_⟩
  ·obtain⟨a,rest',h1,h2⟩:=Ki (l' := l.set i { nd with pg:=fu }) ht.sh.ne H.hk gU (fun a ha=>by
    rw[List.getElem?_set];simp only[hlen',if_true];split
    ·rename_i e
     subst e;have:=H.hi;rw[this]at ha;obtain rfl:=aqu ha;exact⟨{ nd with pg:=fu },rfl,rfl⟩
    ·exact⟨a,ha,rfl⟩)
   exact⟨a,rest',h1,by rw[Em,hroot,h2]⟩
  ·rcases ej hk' with⟨rfl,rfl⟩|⟨hne,hk2⟩
   ·obtain⟨j,hj⟩:=aqp hc
    rw[List.getElem?_set]at hj;simp only[hlen',if_true]at hj;split at hj
    ·obtain rfl:=aqu hj
     exact hme
    ·exact Dc _ _ H.hk j c hj (.inr (by rename_i e;exact fun h=>e h.symm)) hch
   ·obtain⟨j,hj⟩:=aqp hc
    exact Dc _ _ hk2 j c hj (.inl hne) hch
  ·intro hev
   have hlk:=K.lk;have e4:=yS K.lk K.hok.word.1 K.Zk;rcases ej hk' with⟨rfl,rfl⟩|⟨hne,hk2⟩
   ·obtain⟨j,hj⟩:=aqp hc
    rw[List.getElem?_set]at hj;simp only[hlen',if_true]at hj;split at hj
    ·obtain rfl:=aqu hj
     exfalso
     have hev:(ah (bQ d L s) (d.node nd.id 0)).n%2=0:=hev;rw[Ia,g4]at hev;have hev:dM (bC fr.word)%2=0:=hev;omega
    ·exact Dd _ _ H.hk j c hj (.inr (by rename_i e;exact fun h=>e h.symm)) hev
   ·obtain⟨j,hj⟩:=aqp hc
    exact Dd _ _ hk2 j c hj (.inl hne) hev
  ·obtain⟨j,hj⟩:=aqp hc
   by_cases hkk:k'=k
   ·subst hkk
    have h1:=H.hk;rw[hk']at h1;obtain rfl:=aqu h1;have xg:=(aqq.1 hk').1;by_cases hji:j=i
    ·subst hji
     have h1:=H.hi;rw[hj]at h1;obtain rfl:=aqu h1;exact⟨_, { c with pg:=fu },List.getElem?_set_self xg,aqs (i:=j) (by rw[List.getElem?_set_self hlen']),rfl,rfl,by rw[Ia];exact aeA _ _⟩
    ·exact⟨_,c,List.getElem?_set_self xg,aqs (i:=j) (by rw[List.getElem?_set_ne (fun e=>hji e.symm)];exact hj),rfl,rfl,jk _ _ hk' j c hj (.inr hji)⟩
   ·exact⟨l',c,by rw[List.getElem?_set_ne (fun e=>hkk e.symm)];exact hk',hc,rfl,rfl,jk _ _ hk' j c hj (.inl hkk)⟩
 | true=>
  rw[hsp]at g3;obtain⟨g5,g6,g7⟩:=g2 hsp;have hFr:=hFr (by rw[← Xx.2.1,hsp])
  rw[← Xx.2.2]at hFr;have h2':2<=fu.sl.length:=g5;obtain⟨sL,sR,sA,sB⟩:=Xv (n:=id') H.fu.nds h2';have ads:=qo (s:=⟨3,tk',kk',ps',true,id',false⟩) hd K (fun h=>by cases h)
  have xN:=(K.Vo.right hd).le;have e:l9 t k i l nd fu id' true=t.set k (vQ l i { nd with pg:=fy fu id' } ⟨id',bM fu,dD fu⟩):=rfl;rw[e];have hme:Tf d (bQ d L s) { nd with pg:=fy fu id' }:=by
   have g3:Holds (bQ d L s) (bN d fr.id (fy fu id')):=g3;rw[← Ia]at g3 g4;exact⟨lz g3 (show 0<=fu.az/\fu.az<1000000 by omega) ads (fun h=>by cases h),g3,by rw[g4],by rw[g4]⟩
  have hnew:Tf d (bQ d L s) ⟨id',bM fu,dD fu⟩:=
   ⟨lz g7.1 (show 0<=fu.az/\fu.az<1000000 by omega) xN lj,g7.1,by show(ah _ (d.node id' 0)).k=_;rw[g7.2],by show(ah _ (d.node id' 0)).m=_;rw[g7.2]⟩
  refine⟨⟨?_,n2,?_,fun k' l' hk' c hc hch=>?_,fun k' l' hk' c hc=>?_⟩,fun k' l' hk' c hc=>?_⟩
  ·refine hS.abK (a:={ nd with pg:=fy fu id' }) (b:=⟨id',bM fu,dD fu⟩) H.hk H.hi g6.lo g6.us hFr rfl rfl (by show fu.az=_;rw[wW,cg]) rfl rfl rfl (by show fu.az=_;rw[wW,cg]) H.fu.la H.fu.hi H.fu.ri sA (fun h=>?_) sL sR (fun m l0 hkm h0=>?_)
   ·show cE (bM fu) nd.pg.hi=true
    rw[← H.fu.hi];exact sB (by rw[H.fu.la];exact h)
   ·exact Td (by omega) (H.fu.down m l0 hkm h0) h2'
  ·obtain⟨a,rest',h1,h2⟩:=Ki (l' := vQ l i { nd with pg:=fy fu id' } ⟨id',bM fu,dD fu⟩) ht.sh.ne H.hk gU (fun a ha=>by
    rw[fO hlen'];by_cases h0:0<i
    ·rw[if_pos h0];exact⟨a,ha,rfl⟩
    ·have ox:i=0:=by omega
     have:=H.hi;rw[ox]at this;rw[this]at ha;obtain rfl:=aqu ha;rw[if_neg h0,if_pos ox.symm];exact⟨_,rfl,rfl⟩)
   exact⟨a,rest',h1,by rw[Em,hroot,h2]⟩
  ·rcases ej hk' with⟨rfl,rfl⟩|⟨hne,hk2⟩
   ·obtain⟨j,hj⟩:=aqp hc
    rw[fO hlen']at hj;by_cases c1:j<i
    ·rw[if_pos c1]at hj
     exact Dc _ _ H.hk j c hj (.inr (by omega)) hch
    ·rw[if_neg c1]at hj
     by_cases c2:j=i
     ·rw[if_pos c2]at hj
      obtain rfl:=aqu hj;exact hme
     ·rw[if_neg c2]at hj
      by_cases c3:j=i+1
      ·rw[if_pos c3]at hj
       obtain rfl:=aqu hj;exact hnew
      ·rw[if_neg c3]at hj
       exact Dc _ _ H.hk (j-1) c hj (.inr (by omega)) hch
   ·obtain⟨j,hj⟩:=aqp hc
    exact Dc _ _ hk2 j c hj (.inl hne) hch
  ·intro hev
   have hlk:=K.lk;have e4:=yS K.lk K.hok.word.1 K.Zk;rcases ej hk' with⟨rfl,rfl⟩|⟨hne,hk2⟩
   ·obtain⟨j,hj⟩:=aqp hc
    rw[fO hlen']at hj;by_cases c1:j<i
    ·rw[if_pos c1]at hj
     exact Dd _ _ H.hk j c hj (.inr (by omega)) hev
    ·rw[if_neg c1]at hj
     by_cases c2:j=i
     ·rw[if_pos c2]at hj
      obtain rfl:=aqu hj;exfalso
      have hev:(ah (bQ d L s) (d.node nd.id 0)).n%2=0:=hev;rw[Ia,g4]at hev;have hev:dM (bC fr.word)%2=0:=hev;omega
     ·rw[if_neg c2]at hj
      by_cases c3:j=i+1
      ·rw[if_pos c3]at hj
       obtain rfl:=aqu hj;exfalso
       have hev:(ah (bQ d L s) (d.node id' 0)).n%2=0:=hev;rw[g7.2]at hev;have hev:aO 0%2=(0:Int):=hev;revert hev;decide
      ·rw[if_neg c3]at hj
       exact Dd _ _ H.hk (j-1) c hj (.inr (by omega)) hev
   ·obtain⟨j,hj⟩:=aqp hc
    exact Dd _ _ hk2 j c hj (.inl hne) hev
  ·obtain⟨j,hj⟩:=aqp hc
   by_cases hkk:k'=k
   ·subst hkk
    have h1:=H.hk;rw[hk']at h1;obtain rfl:=aqu h1;have xg:=(aqq.1 hk').1;rcases Nat.lt_trichotomy j i with hji|hji|hji
    ·exact⟨_,c,List.getElem?_set_self xg,aqs (i:=j) (by rw[fO hlen',if_pos hji];exact hj),rfl,rfl,jk _ _ hk' j c hj (.inr (by omega))⟩
    ·subst hji
     have h1:=H.hi;rw[hj]at h1;obtain rfl:=aqu h1;exact⟨_, { c with pg:=fy fu id' },List.getElem?_set_self xg,aqs (i:=j) (by rw[fO hlen',if_neg (by omega),if_pos rfl]),rfl,rfl,by rw[Ia];exact aeA _ _⟩
    ·exact⟨_,c,List.getElem?_set_self xg,aqs (i:=j+1) (by rw[fO hlen',if_neg (by omega),if_neg (by omega),if_neg (by omega)];exact hj),rfl,rfl,jk _ _ hk' j c hj (.inr (by omega))⟩
   ·exact⟨l',c,by rw[List.getElem?_set_ne (fun e=>hkk e.symm)];exact hk',hc,rfl,rfl,jk _ _ hk' j c hj (.inl hkk)⟩
end
end Go.Proofs.YtlpdhhhgckpcfaaGreat
