
/- The shape of a tree in which numbers have been taken that are not in it yet (pure). -/
import Derived.Test.YtlpdhhhgckpcfaaGreatTreePut
namespace Go.Proofs.YtlpdhhhgckpcfaaGreat
set_option maxRecDepth 100000
theorem qZ:∀ (N:Nat)(l:List Int),l.Nodup->(∀ x,x∈l->1<=x/\x<=N)->l.length<=N
 | 0,l,_,h=>by
  cases l with
  | nil=>exact Nat.le_refl _
  | cons x l=>have:=h x List.mem_cons_self;omega
 | N+1,l,hn,h=>by
  by_cases hm:((N+1:Nat):Int)∈l
  ·have h1:=List.length_erase_of_mem hm
   have h2:=qZ N (l.erase ((N+1:Nat):Int)) (hn.erase _) (fun x hx=>by
    obtain⟨q1,q2⟩:=(List.Nodup.mem_erase_iff hn).1 hx;have:=h x q2;omega)
   omega
  ·have:=qZ N l hn (fun x hx=>by
    have:=h x hx;have hne:x≠((N+1:Nat):Int):=fun e=>hm (e ▸ hx)
    omega)
   omega
theorem Cy (t:List (List Nd)):(t.map List.length).sum=t.flatten.length:=by rw[List.length_flatten]
theorem Cz {N:Int}{t:List (List Nd)}(hN:0<=N)(hb:∀ (k:Nat)(l:List Nd),t[k]?=some l->∀ nd,nd∈l->1<=nd.id/\nd.id<=N)
  (Da:∀ (k k':Nat) (l l':List Nd) (i i':Nat) (a b:Nd),t[k]?=some l->t[k']?=some l' -> l[i]?=some a->l'[i']?=some b->a.id=b.id->k=k' /\ i=i'):((t.map List.length).sum:Int)<=N:=by
 have hnd:(t.flatten.map (·.id)).Nodup:=by
  rw[List.nodup_iff_pairwise_ne,List.pairwise_map,List.pairwise_flatten];refine⟨fun l hl=>?_,?_⟩
  ·obtain⟨k,hk⟩:=aqp hl
   rw[List.pairwise_iff_getElem];intro i j hi hj hij e;have:=(Da k k l l i j _ _ hk hk (aqt hi) (aqt hj) e).2;omega
  ·rw[List.pairwise_iff_getElem]
   intro k k' hk hk' hkk x hx y hy e;obtain⟨i,hi⟩:=aqp hx;obtain⟨i',hi'⟩:=aqp hy;have:=(Da k k' _ _ i i' _ _ (aqt hk) (aqt hk') hi hi' e).1;omega
 have h:=qZ N.toNat _ hnd (fun x hx=>by
  obtain⟨nd,hm,rfl⟩:=List.mem_map.1 hx;obtain⟨l,hl,hn⟩:=List.mem_flatten.1 hm;obtain⟨k,hk⟩:=aqp hl;have:=hb k l hk nd hn;omega)
 rw[List.length_map]at h;rw[Cy];omega
theorem rR.mono {N N':Int}{t:List (List Nd)}(h:rR N t)(hN:N<=N'):rR N' t:=
 ⟨h.ne,h.rows,fun k l hk nd hn=>by
  obtain⟨⟨q1,q2⟩,q3⟩:=h.nodes k l hk nd hn;exact⟨⟨q1,by omega⟩,q3⟩,h.down,h.inj,by have:=h.count;omega⟩
theorem rR.abK {N:Int}{t:List (List Nd)}{k i:Nat}{l:List Nd}{nd a b:Nd}(h:rR N t)(hl:t[k]?=some l)(hi:l[i]?=some nd)(hb0:1<=b.id)(hN':b.id<=N)(hfr:∀ (k':Nat)(l':List Nd),t[k']?=some l' -> ∀ c,c∈l' -> c.id≠b.id)(xJ:a.low=nd.low)(Gx:a.id=nd.id)(ha1:a.pg.az=k)(ha2:a.pg.la=false)(ha3:a.pg.hi=b.low)(ha4:a.pg.ri=b.id)
  (hb1:b.pg.az=k) (hb2:b.pg.la=nd.pg.la) (hb3:b.pg.hi=nd.pg.hi) (hb4:b.pg.ri=nd.pg.ri) (h1:cE nd.low b.low=true) (h2:nd.pg.la=false->cE b.low nd.pg.hi=true) (hna:Kf a) (hnb:Kf b)
  (hdn:∀ (m:Nat) (l0:List Nd),k=m+1->t[m]?=some l0->jX l0 a/\jX l0 b):rR N (t.set k (vQ l i a b)):=by
 have hm:=aqs hi;have hlen:=(aqq.1 hi).1;have xg:=(aqq.1 hl).1;have hne:=h.ne;have hat:∀ (k':Nat) (l':List Nd) (j:Nat) (z:Nd),(t.set k (vQ l i a b))[k']?=some l' -> l'[j]?=some z ->
   (k'=k/\j=i+1/\z=b)\/((k' ≠ k\/j≠i+1)/\z.id≠b.id/\∃ (l0:List Nd) (z0:Nd),t[k']?=some l0/\l0[if k'=k/\i+1<j then j-1 else j]?=some z0/\z0.id=z.id):=by
  intro k' l' j z hk' hz;rcases ej hk' with⟨rfl,rfl⟩|⟨hne,hk2⟩
  ·rw[fO hlen]at hz
   by_cases c1:j<i
   ·rw[if_pos c1]at hz
    rw[if_neg (by omega)]
    exact .inr ⟨.inr (by omega),hfr _ _ hl z (aqs hz),l,z,hl,hz,rfl⟩
   ·rw[if_neg c1]at hz
    by_cases c2:j=i
    ·rw[if_pos c2]at hz
     obtain rfl:=aqu hz;rw[if_neg (by omega),c2]
     exact .inr ⟨.inr (by omega),by rw[Gx];exact hfr _ _ hl nd hm,l,nd,hl,hi,Gx.symm⟩
    ·rw[if_neg c2]at hz
     by_cases c3:j=i+1
     ·rw[if_pos c3]at hz
      exact .inl ⟨rfl,c3,(aqu hz).symm⟩
     ·rw[if_neg c3]at hz
      rw[if_pos (by omega)]
      exact .inr ⟨.inr c3,hfr _ _ hl z (aqs hz),l,z,hl,hz,rfl⟩
  ·rw[if_neg (fun h=>hne h.1)]
   exact .inr ⟨.inl hne,hfr _ _ hk2 z (aqs hz),l',z,hk2,hz,rfl⟩
 have Da:∀ (k1 k2:Nat) (l1 l2:List Nd) (i1 i2:Nat) (x y:Nd),(t.set k (vQ l i a b))[k1]?=some l1->(t.set k (vQ l i a b))[k2]?=some l2->l1[i1]?=some x->l2[i2]?=some y->x.id=y.id->k1=k2/\i1=i2:=by
  intro k1 k2 l1 l2 i1 i2 x y h1 h2 hx hy e;rcases hat k1 l1 i1 x h1 hx with⟨p1,p2,p3⟩|⟨p1,p2,l0,z0,p3,p4,p5⟩
  ·rcases hat k2 l2 i2 y h2 hy with⟨q1,q2,q3⟩|⟨q1,q2,_⟩
   ·omega
   ·rw[← e,p3]at q2;exact absurd rfl q2
  ·rcases hat k2 l2 i2 y h2 hy with⟨q1,q2,q3⟩|⟨q1,q2,l0',z0',q3,q4,q5⟩
   ·rw[e,q3]at p2;exact absurd rfl p2
   ·have:=h.inj k1 k2 l0 l0' _ _ z0 z0' p3 q3 p4 q4 (by rw[p5,q5];exact e)
    obtain⟨e1,e2⟩:=this;refine⟨e1,?_⟩;subst e1;split at e2 <;> split at e2 <;> omega
 have hnodes:∀ (k':Nat) (l':List Nd),(t.set k (vQ l i a b))[k']?=some l' -> ∀ x,x∈l' -> (1<=x.id/\x.id<=N)/\Kf x:=by
  intro k' l' hk' x hx;rcases ej hk' with⟨rfl,rfl⟩|⟨_,hk2⟩
  ·rcases yP hx with rfl|rfl|hx
   ·have:=(h.nodes _ l hl nd hm).1
    rw[Gx];exact⟨this,hna⟩
   ·exact⟨⟨hb0,hN'⟩,hnb⟩
   ·exact h.nodes _ l hl x hx
  ·exact h.nodes k' l' hk2 x hx
 have hN0:0<=N:=by have:=(h.nodes k l hl nd hm).1;omega
 refine⟨by rw[List.length_set];exact h.ne,fun k' l' hk' =>?_,hnodes,fun k' x y hx hy c hc=>?_,Da,Cz hN0 (fun k' l' hk' x hx=>(hnodes k' l' hk' x hx).1) Da⟩
 ·rcases ej hk' with⟨rfl,rfl⟩|⟨_,hk2⟩
  ·exact(h.rows _ l hl).split hi xJ Gx ha1 ha2 ha3 ha4 hb1 hb2 hb3 hb4 h1 h2
  ·exact h.rows k' l' hk2
 ·have hkeep:∀ c,c∈l->∃ c',c' ∈ vQ l i a b/\c'.id=c.id/\c'.low=c.low:=fun c hc=>by
   obtain⟨j,hj⟩:=aqp hc;rcases Nat.lt_trichotomy j i with hji|rfl|hji
   ·exact⟨c,aqs (i:=j) (by rw[fO hlen,if_pos hji];exact hj),rfl,rfl⟩
   ·rw[hi]at hj
    obtain rfl:=aqu hj;exact⟨a,aqs (i:=j) (by rw[fO hlen,if_neg (by omega),if_pos rfl]),Gx,xJ⟩
   ·exact⟨c,aqs (i:=j+1) (by rw[fO hlen,if_neg (by omega),if_neg (by omega),if_neg (by omega)];exact hj),rfl,rfl⟩
  rcases ej hx with⟨e1,rfl⟩|⟨e1,hx2⟩
  ·rcases ej hy with⟨e2,_⟩|⟨_,hy2⟩
   ·omega
   ·subst e1
    obtain⟨q1,q2⟩:=h.down k' l y hl hy2 c hc;refine⟨q1,fun s hs=>?_⟩
    obtain⟨c0,hc0,e3,e4⟩:=q2 s hs;obtain⟨c',hc',e5,e6⟩:=hkeep c0 hc0;exact⟨c',hc',e5.trans e3,e6.trans e4⟩
  ·rcases ej hy with⟨e2,rfl⟩|⟨_,hy2⟩
   ·subst e2
    obtain⟨d1,d2⟩:=hdn k' x rfl hx2;rcases yP hc with rfl|rfl|hc
    ·exact d1
    ·exact d2
    ·exact h.down k' x l hx2 hl c hc
   ·exact h.down k' x y hx2 hy2 c hc
end Go.Proofs.YtlpdhhhgckpcfaaGreat
