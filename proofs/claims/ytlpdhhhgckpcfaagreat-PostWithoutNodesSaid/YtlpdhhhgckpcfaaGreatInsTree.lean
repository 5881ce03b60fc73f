
/- A tree in which a slot has been aen into a node, with or without a split (pure). -/
import Derived.Test.YtlpdhhhgckpcfaaGreatTreePut
import Derived.Test.YtlpdhhhgckpcfaaGreatInsOut
import Derived.Test.YtlpdhhhgckpcfaaGreatLockLaw
namespace Go.Proofs.YtlpdhhhgckpcfaaGreat
open Go.RowKit
set_option maxRecDepth 100000
theorem Sz {d:aR}{id:Int}{L:List aP}{p q:Pg}(h1:eA d id L p)(h2:eA d id L q):p=q:=by
 rw[← Jz h1,← Jz h2]
section
variable {d:aR}{L:List aP}{t:List (List Nd)}
theorem cA.inj (ht:cA d L t)(k k':Nat)(l l':List Nd)(i i':Nat)(a b:Nd)(hk:t[k]?=some l)(hk':t[k']?=some l')(ha:l[i]?=some a)(hb:l'[i']?=some b)(he:a.id=b.id):k=k' /\ i=i' := by
 have h1:=ht.nodes k l hk a (aqs ha);have h2:=ht.nodes k' l' hk' b (aqs hb);have e:a.pg=b.pg:=Sz h1.page (by rw[he];exact h2.page)
 have l1:=(ht.rows k l hk).az a (aqs ha);have l2:=(ht.rows k' l' hk').az b (aqs hb);rw[e]at l1;have ek:k=k' := by omega
 subst ek;rw[hk]at hk';obtain rfl:=aqu hk';refine⟨rfl,?_⟩;have hR:=ht.rows k l hk;have key:∀ (p q:Nat) (x y:Nd),l[p]?=some x->l[q]?=some y->x.pg=y.pg->p<q->False:=by
  intro p q x y hx hy hxy hpq;have hq:=(aqq.1 hy).1;obtain⟨z,hz⟩:∃ z,l[p+1]?=some z:=⟨_,aqt (by omega)⟩
  obtain⟨n1,n2,n3,n4⟩:=hR.next p x z hx hz;rcases Nat.lt_or_ge (q+1) l.length with hlt|hge
  ·obtain⟨u,hu⟩:∃ u,l[q+1]?=some u:=⟨_,aqt hlt⟩
   obtain⟨_,m2,_,_⟩:=hR.next q y u hy hu;have:=hR.qX (q+1) (p+1) z u hz hu (by omega)
   rw[← n2,← m2,hxy,dI]at this;cases this
  ·have:=(hR.last q y hy (by omega)).1
   rw[← hxy,n1]at this;cases this
 rcases Nat.lt_trichotomy i i' with h|h|h
 ·exact(key i i' a b ha hb e h).elim
 ·exact h
 ·exact(key i' i b a hb ha e.symm h).elim
theorem cA.shp (ht:cA d L t):rR (ah L 4).n t:=
 ⟨ht.ne,ht.rows,fun k l hk nd hn=>by
  have h:=ht.nodes k l hk nd hn;exact⟨⟨h.id.1,ht.used k l hk nd hn⟩,h.j7,h.rf,h.bd⟩,ht.down,ht.inj,ht.count⟩
structure aeo (d:aR)(L:List aP)(nd:Nd):Prop where
 page:eA d nd.id L nd.pg
 hold:Holds L (bN d nd.id nd.pg)
 free:kj (ah L (d.node nd.id 0))
theorem cA.of (hs:rR (ah L 4).n t)(sZ:(ah L 4).n<=d.no)(gU:∃ nd rest,t[t.length-1]?=some (nd::rest)/\(ah L 0).n=nd.id)(hm:∀ (k:Nat)(l:List Nd),t[k]?=some l->∀ nd,nd∈l->aeo d L nd):cA d L t:=by
 refine⟨hs.ne,hs.rows,fun k l hk nd hn=>?_,gU,hs.down,hs.count,sZ,fun k l hk nd hn=>(hs.nodes k l hk nd hn).1.2⟩
 obtain⟨q1,q2⟩:=hs.nodes k l hk nd hn;have q3:=hm k l hk nd hn;exact⟨⟨q1.1,by omega⟩,q3.page,q3.hold,q3.free,q2.j7,q2.rf,q2.bd⟩
end
theorem ql {l:List Sl}{key:ByteArray}{r:Int}{i:Nat}{s:Sl}(h:(eP l key r)[i]?=some s):(i<gM l key/\l[i]?=some s)\/(i=gM l key/\s=⟨key,r⟩)\/(gM l key<i/\l[i-1]?=some s):=by
 have hle:=tR l key;unfold eP at h;have hlen:(l.take (gM l key)).length=gM l key:=by rw[List.length_take];omega
 rcases Nat.lt_trichotomy i (gM l key)with h1|h1|h1
 ·rw[List.getElem?_append_left (by rw[hlen];exact h1),List.getElem?_take,if_pos h1]at h
  exact .inl ⟨h1,h⟩
 ·rw[List.getElem?_append_right (by rw[hlen];omega),hlen,h1,Nat.sub_self]at h
  exact .inr (.inl ⟨h1,(aqu h).symm⟩)
 ·rw[List.getElem?_append_right (by rw[hlen];omega),hlen]at h
  obtain⟨m,rfl⟩:∃ m,i=gM l key+1+m:=⟨i-(gM l key+1),by omega⟩
  rw[show gM l key+1+m-gM l key=m+1 by omega,List.getElem?_cons_succ,List.getElem?_drop]at h
  exact .inr (.inr ⟨h1,by rw[show gM l key+1+m-1=gM l key+m by omega];exact h⟩)
theorem Nk {l:List Sl}{key:ByteArray}{r:Int}(ha:kV l)(hno:∀ s,s∈l->s.k≠key):kV (eP l key r):=by
 have hlo:∀ (i:Nat) (s:Sl),l[i]?=some s->i<gM l key->cE s.k key=true:=fun i s hs h=>(j9 ha hs).2 h
 have hhi:∀ (i:Nat) (s:Sl),l[i]?=some s->gM l key<=i->cE key s.k=true:=fun i s hs h=>by
  cases hc:cE key s.k with
  | true=>rfl
  | false=>
   cases hc2:cE s.k key with
   | true=>have:=(j9 ha hs).1 hc2;omega
   | false=>exact absurd (gA hc2 hc) (hno s (aqs hs))
 unfold kV;rw[List.pairwise_iff_getElem];intro i j hi hj hij;obtain⟨x,hx⟩:∃ x,(eP l key r)[i]?=some x:=⟨_,aqt hi⟩;obtain⟨y,hy⟩:∃ y,(eP l key r)[j]?=some y:=⟨_,aqt hj⟩;rw[(aqq.1 hx).2,(aqq.1 hy).2];rcases ql hx with⟨a1,a2⟩|⟨a1,rfl⟩|⟨a1,a2⟩
 ·rcases ql hy with⟨b1,b2⟩|⟨b1,rfl⟩|⟨b1,b2⟩
  ·exact kJ ha a2 b2 hij
  ·exact hlo i x a2 a1
  ·exact kJ ha a2 b2 (by omega)
 ·rcases ql hy with⟨b1,b2⟩|⟨b1,rfl⟩|⟨b1,b2⟩
  ·omega
  ·omega
  ·exact hhi _ y b2 (by omega)
 ·rcases ql hy with⟨b1,b2⟩|⟨b1,rfl⟩|⟨b1,b2⟩
  ·omega
  ·omega
  ·exact kJ ha a2 b2 (by omega)
theorem xe {pg:Pg}{x y:Sl}(hx:pg.sl[gm pg.sl.length-1]?=some x)(hy:pg.sl[gm pg.sl.length]?=some y):bM pg=if pg.az=0 then lU x.k y.k else y.k:=by
 unfold bM;rw[hx,hy]
theorem Kh {pg:Pg}(h2:2<=pg.sl.length):∃ x y:Sl,1<=gm pg.sl.length/\pg.sl[gm pg.sl.length-1]?=some x/\pg.sl[gm pg.sl.length]?=some y:=by
 have hk:1<=gm pg.sl.length/\gm pg.sl.length<pg.sl.length:=by unfold gm;omega
 exact⟨_,_,hk.1,aqt (by omega),aqt hk.2⟩
theorem Xt {pg:Pg}(ha:kV pg.sl)(h2:2<=pg.sl.length):(∀ s,s∈pg.sl.take (gm pg.sl.length)->cE s.k (bM pg)=true)/\(∀ s,s∈pg.sl.drop (gm pg.sl.length)->cE s.k (bM pg)=false) /\
  (∃ x,x∈pg.sl/\cE x.k (bM pg)=true)/\(∃ y,y∈pg.sl/\cE y.k (bM pg)=false):=by
 obtain⟨x,y,h1,hx,hy⟩:=Kh h2;have hxy:=kJ ha hx hy (by omega)
 have hsep:cE x.k (bM pg)=true/\cE y.k (bM pg)=false:=by
  rw[xe hx hy];split
  ·exact sN hxy
  ·exact⟨hxy,dI _⟩
 refine⟨fun s hs=>?_,fun s hs=>?_,⟨x,aqs hx,hsep.1⟩,⟨y,aqs hy,hsep.2⟩⟩
 ·obtain⟨i,hi⟩:=aqp hs
  rw[List.getElem?_take]at hi;split at hi
  ·exact jJ (yE ha hi hx (by omega)) hsep.1
  ·cases hi
 ·obtain⟨i,hi⟩:=aqp hs
  rw[List.getElem?_drop]at hi;exact pY hsep.2 (yE ha hy hi (by omega))
theorem Ta {l:List Sl}(h:kV l)(n:Nat):kV (l.take n):=h.sublist (List.take_sublist _ _)
theorem Tb {l:List Sl}(h:kV l)(n:Nat):kV (l.drop n):=h.sublist (List.drop_sublist _ _)
section
variable {nd:Nd}{key:ByteArray}{r:Int}{fu:Pg}{n:Int}
theorem Xu (h:Kf nd)(eJ:cE key nd.low=false)(hin:(nd.pg.la || cE key nd.pg.hi)=true)(hno:∀ s,s∈nd.pg.sl->s.k≠key)(hr:1<=r):Kf { nd with pg:=aZ nd.pg key r }:=by
 refine⟨Nk h.j7 hno,fun s hs=>?_,fun s hs=>?_⟩
 ·rcases jL hs with hs|rfl
  ·exact h.rf s hs
  ·exact hr
 ·rcases jL hs with hs|rfl
  ·exact h.bd s hs
  ·refine⟨eJ,fun lj=>?_⟩
   have lj:nd.pg.la=false:=lj;rw[lj,Bool.false_or]at hin;exact hin
theorem Xv (h:Kf { nd with pg:=fu }) (h2:2<=fu.sl.length):Kf { nd with pg:=fy fu n }/\Kf ⟨n,bM fu,dD fu⟩/\cE nd.low (bM fu)=true/\(fu.la=false->cE (bM fu) fu.hi=true):=by
 obtain⟨s1,s2,⟨x,hx,s3⟩,⟨y,hy,s4⟩⟩:=Xt (show kV fu.sl from h.j7) h2
 refine⟨⟨Ta h.j7 _,fun s hs=>h.rf s (List.mem_of_mem_take hs),fun s hs=>⟨(h.bd s (List.mem_of_mem_take hs)).1,fun _=>s1 s hs⟩⟩,⟨Tb h.j7 _,fun s hs=>h.rf s (List.mem_of_mem_drop hs),fun s hs=>⟨s2 s hs,fun lj=>(h.bd s (List.mem_of_mem_drop hs)).2 lj⟩⟩,jJ (h.bd x hx).1 s3,fun lj=>jJ s4 ((h.bd y hy).2 lj)⟩
theorem Tc {l0:List Nd}(h:Kf nd)(hd:jX l0 nd)(eJ:cE key nd.low=false)(hno:∀ s,s∈nd.pg.sl->s.k≠key)(hc:∃ c,c∈l0/\c.id=r/\c.low=key):jX l0 { nd with pg:=aZ nd.pg key r }:=by
 obtain⟨⟨s,rest,e1,e2⟩,e3⟩:=hd;refine⟨?_,fun s hs=>?_⟩
 ·have hs0:nd.pg.sl[0]?=some s:=by rw[e1];rfl
  have hlt:cE s.k key=true:=by
   cases hcc:cE s.k key with
   | true=>rfl
   | false=>exact absurd (gA hcc (by rw[e2];exact eJ)) (hno s (by rw[e1];simp))
  have h0:=(j9 h.j7 hs0).1 hlt;obtain⟨m,hm⟩:∃ m,gM nd.pg.sl key=m+1:=⟨gM nd.pg.sl key-1,by omega⟩
  refine⟨s,(rest.take m)++⟨key,r⟩::nd.pg.sl.drop (m+1),?_,e2⟩;show eP nd.pg.sl key r=_
  unfold eP;rw[hm,e1];rfl
 ·rcases jL hs with hs|rfl
  ·exact e3 s hs
  ·exact hc
theorem Td {l0:List Nd}(cg:fu.az≠0)(h:jX l0 { nd with pg:=fu }) (h2:2<=fu.sl.length):jX l0 { nd with pg:=fy fu n }/\jX l0 ⟨n,bM fu,dD fu⟩:=by
 obtain⟨⟨s,rest,e1,e2⟩,e3⟩:=h;obtain⟨x,y,h1,hx,hy⟩:=Kh h2;obtain⟨m,hm⟩:∃ m,gm fu.sl.length=m+1:=⟨gm fu.sl.length-1,by omega⟩
 refine⟨⟨⟨s,rest.take m,?_,e2⟩,fun s hs=>e3 s (List.mem_of_mem_take hs)⟩,⟨⟨y,fu.sl.drop (gm fu.sl.length+1),?_,?_⟩,fun s hs=>e3 s (List.mem_of_mem_drop hs)⟩⟩
 ·show fu.sl.take (gm fu.sl.length)=_
  have e1:fu.sl=s::rest:=e1;rw[hm,e1];rfl
 ·show fu.sl.drop (gm fu.sl.length)=_
  have hlt:=(aqq.1 hy).1;rw[List.drop_eq_getElem_cons hlt,(aqq.1 hy).2]
 ·rw[xe hx hy,if_neg cg]
end
def l9 (t:List (List Nd))(k i:Nat)(l:List Nd)(nd:Nd)(fu:Pg)(n:Int)(sp:Bool):List (List Nd):=
 if sp then t.set k (vQ l i { nd with pg:=fy fu n } ⟨n,bM fu,dD fu⟩)else t.set k (l.set i { nd with pg:=fu })
theorem Ki {t:List (List Nd)}{k:Nat}{l l':List Nd}{rt:Nd}{rest:List Nd}(hne:0<t.length)(hl:t[k]?=some l)(gU:t[t.length-1]?=some (rt::rest))(h0:∀ a,l[0]?=some a->∃ b,l'[0]?=some b/\b.id=a.id) :
  ∃ nd rest',(t.set k l')[(t.set k l').length-1]?=some (nd::rest')/\nd.id=rt.id:=by
 rw[List.length_set,List.getElem?_set];split
 ·rename_i e
  rw[if_pos (by omega)]
  rw[e]at hl;rw[hl]at gU;obtain rfl:=aqu gU;obtain⟨b,hb,e2⟩:=h0 rt rfl;cases l' with
  | nil=>simp at hb
  | cons c rest' =>
   obtain rfl:c=b:=by simpa using hb
   exact⟨c,rest',rfl,e2⟩
 ·exact⟨rt,rest,gU,rfl⟩
section
variable {d:aR}{L L3:List aP}{t:List (List Nd)}{k i:Nat}{l:List Nd}{nd:Nd}{key:ByteArray}{r:Int}{sp:Bool}{p:Pg}
end
end Go.Proofs.YtlpdhhhgckpcfaaGreat
