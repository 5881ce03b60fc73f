
/- The shape of a tree (pure), and what a replaced page, a split node, a new root do to it. -/
import Derived.Test.YtlpdhhhgckpcfaaGreatTreeB
namespace Go.Proofs.YtlpdhhhgckpcfaaGreat
set_option maxRecDepth 100000
structure Kf (nd:Nd):Prop where
 j7:kV nd.pg.sl
 rf:∀ s,s∈nd.pg.sl->1<=s.r
 bd:∀ s,s∈nd.pg.sl->cE s.k nd.low=false/\(nd.pg.la=false->cE s.k nd.pg.hi=true)
def jX (l0:List Nd)(nd:Nd):Prop:=(∃ s r,nd.pg.sl=s::r/\s.k=nd.low)/\∀ s,s∈nd.pg.sl->∃ c,c∈l0/\c.id=s.r/\c.low=s.k
structure rR (N:Int)(t:List (List Nd)):Prop where
 ne:0<t.length
 rows:∀ (k:Nat) (l:List Nd),t[k]?=some l->gS k l
 nodes:∀ (k:Nat) (l:List Nd),t[k]?=some l->∀ nd,nd∈l->(1<=nd.id/\nd.id<=N)/\Kf nd
 down:∀ (k:Nat) (l l':List Nd),t[k]?=some l->t[k+1]?=some l' -> ∀ nd,nd∈l' -> jX l nd
 inj:∀ (k k':Nat) (l l':List Nd) (i i':Nat) (a b:Nd),t[k]?=some l->t[k']?=some l' -> l[i]?=some a->l'[i']?=some b->a.id=b.id->k=k' /\ i=i'
 count:((t.map List.length).sum:Int)<=N
theorem Xo {t:List (List Nd)}:∀ {k:Nat}{l l':List Nd},t[k]?=some l->((t.set k l').map List.length).sum+l.length=(t.map List.length).sum+l'.length:=by
 induction t with
 | nil=>intro k l l' h;simp at h
 | cons x t ih=>
  intro k l l' h;cases k with
  | zero=>
   obtain rfl:x=l:=by simpa using h
   simp;omega
  | succ k=>
   have:=ih (l' := l') (show t[k]?=some l by simpa using h)
   simp at this ⊢;omega
theorem ej {t:List (List Nd)}{k j:Nat}{l' x:List Nd}(h:(t.set k l')[j]?=some x):(j=k/\x=l')\/(j≠k/\t[j]?=some x):=by
 rw[List.getElem?_set]at h;split at h
 ·rename_i e
  split at h
  ·exact .inl ⟨e.symm,(aqu h).symm⟩
  ·cases h
 ·rename_i e
  exact .inr ⟨fun q=>e q.symm,h⟩
theorem rR.row {N N':Int}{t:List (List Nd)}{k:Nat}{l l':List Nd}(h:rR N t)(hl:t[k]?=some l)(hN:N<=N')(hr:gS k l')(hn:∀ nd,nd∈l' -> (1<=nd.id/\nd.id<=N')/\Kf nd)
  (hkeep:∀ c,c∈l->∃ c',c' ∈ l' /\ c'.id=c.id/\c'.low=c.low) (fJ:∀ (i j:Nat) (a b:Nd),l'[i]?=some a->l'[j]?=some b->a.id=b.id->i=j)
  (hnew:∀ a,a∈l' -> (∃ c,c∈l/\c.id=a.id)\/N<a.id) (hdn:∀ (m:Nat) (l0:List Nd),k=m+1->t[m]?=some l0->∀ nd,nd∈l' -> jX l0 nd) (hc:(l'.length:Int)-l.length<=N' - N):rR N' (t.set k l'):=by
 have aee:∀ (k':Nat) (l1:List Nd) (i i':Nat) (a b:Nd),k' ≠ k->t[k']?=some l1->l1[i]?=some a->l'[i']?=some b->a.id≠b.id:=by
  intro k' l1 i i' a b hne h1 ha hb e;rcases hnew b (aqs hb)with⟨c,hc,e2⟩|hlt
  ·obtain⟨j,hj⟩:=aqp hc
   exact hne (h.inj k' k l1 l i j a c h1 hl ha hj (e.trans e2.symm)).1
  ·have:=(h.nodes k' l1 h1 a (aqs ha)).1.2
   omega
 refine⟨by rw[List.length_set];exact h.ne,fun j x hx=>?_,fun j x hx nd hnd=>?_,fun j x y hx hy nd hnd=>?_,fun k1 k2 l1 l2 i i' a b h1 h2 ha hb e=>?_,?_⟩
 ·rcases ej hx with⟨rfl,rfl⟩|⟨_,hx⟩
  ·exact hr
  ·exact h.rows j x hx
 ·rcases ej hx with⟨rfl,rfl⟩|⟨_,hx⟩
  ·exact hn nd hnd
  ·obtain⟨⟨q1,q2⟩,q3⟩:=h.nodes j x hx nd hnd
   exact⟨⟨q1,by omega⟩,q3⟩
 ·rcases ej hx with⟨e1,rfl⟩|⟨e1,hx2⟩
  ·rcases ej hy with⟨e2,_⟩|⟨_,hy2⟩
   ·omega
   ·subst e1
    obtain⟨q1,q2⟩:=h.down j l y hl hy2 nd hnd;refine⟨q1,fun s hs=>?_⟩
    obtain⟨c,hc,e3,e4⟩:=q2 s hs;obtain⟨c',hc',e5,e6⟩:=hkeep c hc;exact⟨c',hc',e5.trans e3,e6.trans e4⟩
  ·rcases ej hy with⟨e2,rfl⟩|⟨_,hy2⟩
   ·exact hdn j x e2.symm hx2 nd hnd
   ·exact h.down j x y hx2 hy2 nd hnd
 ·rcases ej h1 with⟨rfl,rfl⟩|⟨n1,h1'⟩
  ·rcases ej h2 with⟨rfl,rfl⟩|⟨n2,h2'⟩
   ·exact⟨rfl,fJ i i' a b ha hb e⟩
   ·exact absurd e.symm (aee k2 l2 i' i b a n2 h2' hb ha)
  ·rcases ej h2 with⟨rfl,rfl⟩|⟨n2,h2'⟩
   ·exact absurd e (aee k1 l1 i i' a b n1 h1' ha hb)
   ·exact h.inj k1 k2 l1 l2 i i' a b h1' h2' ha hb e
 ·have:=Xo (l' := l') hl
  have:=h.count;omega
theorem gS.put {az:Nat}{l:List Nd}{i:Nat}{nd:Nd}(h:gS az l)(hi:l[i]?=some nd){pg:Pg}(e1:pg.az=nd.pg.az)(e2:pg.hi=nd.pg.hi)(e3:pg.la=nd.pg.la)(e4:pg.ri=nd.pg.ri):gS az (l.set i { nd with pg:=pg }):=by
 have hat:∀ (j:Nat) (x:Nd),(l.set i { nd with pg:=pg })[j]?=some x->∃ y,l[j]?=some y/\y.id=x.id/\y.low=x.low/\y.pg.az=x.pg.az/\y.pg.hi=x.pg.hi/\y.pg.la=x.pg.la/\y.pg.ri=x.pg.ri:=by
  intro j x hx;rw[List.getElem?_set]at hx;split at hx
  ·rename_i e
   subst e;split at hx
   ·obtain rfl:=aqu hx
    exact⟨nd,hi,rfl,rfl,e1.symm,e2.symm,e3.symm,e4.symm⟩
   ·cases hx
  ·exact⟨x,hx,rfl,rfl,rfl,rfl,rfl,rfl⟩
 refine⟨by rw[List.length_set];exact h.ne,fun x hx=>?_,fun x hx=>?_,fun j a b ha hb=>?_,fun j a ha hj=>?_⟩
 ·obtain⟨j,hj⟩:=aqp hx
  obtain⟨y,hy,_,_,q,_⟩:=hat j x hj;rw[← q];exact h.az y (aqs hy)
 ·obtain⟨y,hy,_,q,_⟩:=hat 0 x hx
  rw[← q];exact h.first y hy
 ·obtain⟨y,hy,y1,y2,y3,y4,y5,y6⟩:=hat j a ha
  obtain⟨z,hz,z1,z2,z3,z4,z5,z6⟩:=hat (j+1) b hb;obtain⟨q1,q2,q3,q4⟩:=h.next j y z hy hz;exact⟨by rw[← y5];exact q1,by rw[← y4,← z2];exact q2,by rw[← y6,← z1];exact q3,by rw[← y2,← z2];exact q4⟩
 ·obtain⟨y,hy,y1,y2,y3,y4,y5,y6⟩:=hat j a ha
  rw[List.length_set]at hj;obtain⟨q1,q2,q3⟩:=h.last j y hy hj;exact⟨by rw[← y5];exact q1,by rw[← y4];exact q2,by rw[← y6];exact q3⟩
theorem mem_set {l:List Nd}{i:Nat}{a x:Nd}(h:x∈l.set i a):x=a\/x∈l:=by
 obtain⟨j,hj⟩:=aqp h;rw[List.getElem?_set]at hj;split at hj
 ·split at hj
  ·exact .inl (aqu hj).symm
  ·cases hj
 ·exact .inr (aqs hj)
theorem Sq {l:List Nd}{i:Nat}{nd a c:Nd}(hi:l[i]?=some nd)(e1:a.id=nd.id)(e2:a.low=nd.low)(hc:c∈l):∃ c',c' ∈ l.set i a/\c'.id=c.id/\c'.low=c.low:=by
 obtain⟨j,hj⟩:=aqp hc;have hlen:=(aqq.1 hi).1;by_cases h:i=j
 ·subst h
  rw[hi]at hj;obtain rfl:=aqu hj;exact⟨a,aqs (i:=i) (by rw[List.getElem?_set_self hlen]),e1,e2⟩
 ·exact⟨c,aqs (i:=j) (by rw[List.getElem?_set_ne h];exact hj),rfl,rfl⟩
theorem rR.put {N:Int}{t:List (List Nd)}{k i:Nat}{l:List Nd}{nd:Nd}(h:rR N t)(hl:t[k]?=some l)(hi:l[i]?=some nd){pg:Pg}(e1:pg.az=nd.pg.az)(e2:pg.hi=nd.pg.hi)(e3:pg.la=nd.pg.la)(e4:pg.ri=nd.pg.ri)
  (hn:Kf { nd with pg:=pg }) (hdn:∀ (m:Nat) (l0:List Nd),k=m+1->t[m]?=some l0->jX l0 { nd with pg:=pg }):rR N (t.set k (l.set i { nd with pg:=pg })):=by
 have hm:=aqs hi;refine h.row hl (Int.le_refl _) ((h.rows k l hl).put hi e1 e2 e3 e4) (fun x hx=>?_) (fun c hc=>Sq hi rfl rfl hc) (fun a b x y hx hy e=>?_) (fun a ha=>?_) (fun m l0 hk h0 x hx=>?_) (by rw[List.length_set];omega)
 ·rcases mem_set hx with rfl|hx
  ·exact⟨(h.nodes k l hl nd hm).1,hn⟩
  ·exact h.nodes k l hl x hx
 ·have hat:∀ (j:Nat) (z:Nd),(l.set i { nd with pg:=pg })[j]?=some z->∃ z',l[j]?=some z' /\ z'.id=z.id:=by
   intro j z hz;rw[List.getElem?_set]at hz;split at hz
   ·rename_i e
    subst e;split at hz
    ·obtain rfl:=aqu hz
     exact⟨nd,hi,rfl⟩
    ·cases hz
   ·exact⟨z,hz,rfl⟩
  obtain⟨x',hx',ex⟩:=hat a x hx;obtain⟨y',hy',ey⟩:=hat b y hy;exact(h.inj k k l l a b x' y' hl hl hx' hy' (by rw[ex,ey];exact e)).2
 ·rcases mem_set ha with rfl|ha
  ·exact .inl ⟨nd,hm,rfl⟩
  ·exact .inl ⟨a,ha,rfl⟩
 ·rcases mem_set hx with rfl|hx
  ·exact hdn m l0 hk h0
  ·subst hk
   exact h.down m l0 l h0 hl x hx
def vQ (l:List Nd)(i:Nat)(a b:Nd):List Nd:=l.take i++a::b::l.drop (i+1)
theorem yO {l:List Nd}{i:Nat}{a b:Nd}(hi:i<l.length):(vQ l i a b).length=l.length+1:=by
 simp[vQ];omega
theorem fO {l:List Nd}{i:Nat}{a b:Nd}(hi:i<l.length)(j:Nat):(vQ l i a b)[j]?=if j<i then l[j]? else if j=i then some a else if j=i+1 then some b else l[j-1]? := by
 unfold vQ;have hlen:(l.take i).length=i:=by rw[List.length_take];omega
 by_cases h1:j<i
 ·rw[if_pos h1,List.getElem?_append_left (by rw[hlen];exact h1),List.getElem?_take,if_pos h1]
 ·rw[if_neg h1,List.getElem?_append_right (by rw[hlen];omega),hlen]
  by_cases h2:j=i
  ·rw[if_pos h2,h2,Nat.sub_self];rfl
  ·rw[if_neg h2]
   by_cases h3:j=i+1
   ·rw[if_pos h3,h3,show i+1-i=1 by omega];rfl
   ·rw[if_neg h3]
    obtain⟨m,rfl⟩:∃ m,j=i+2+m:=⟨j-(i+2),by omega⟩
    rw[show i+2+m-i=m+1+1 by omega,List.getElem?_cons_succ,List.getElem?_cons_succ,List.getElem?_drop]
    congr 1;omega
theorem yP {l:List Nd}{i:Nat}{a b x:Nd}(h:x∈vQ l i a b):x=a\/x=b\/x∈l:=by
 unfold vQ at h;rcases List.mem_append.1 h with h|h
 ·exact .inr (.inr (List.mem_of_mem_take h))
 ·rcases List.mem_cons.1 h with h|h
  ·exact .inl h
  ·rcases List.mem_cons.1 h with h|h
   ·exact .inr (.inl h)
   ·exact .inr (.inr (List.mem_of_mem_drop h))
theorem gS.split {az:Nat}{l:List Nd}{i:Nat}{nd a b:Nd}(h:gS az l)(hi:l[i]?=some nd)(xJ:a.low=nd.low)(Gx:a.id=nd.id)(ha1:a.pg.az=az)(ha2:a.pg.la=false)(ha3:a.pg.hi=b.low)(ha4:a.pg.ri=b.id)
  (hb1:b.pg.az=az) (hb2:b.pg.la=nd.pg.la) (hb3:b.pg.hi=nd.pg.hi) (hb4:b.pg.ri=nd.pg.ri) (h1:cE nd.low b.low=true) (h2:nd.pg.la=false->cE b.low nd.pg.hi=true):gS az (vQ l i a b):=by
 have hlen:=(aqq.1 hi).1;refine⟨by rw[yO hlen];omega,fun x hx=>?_,fun x hx=>?_,fun j x y hx hy=>?_,fun j x hx hj=>?_⟩
 ·rcases yP hx with rfl|rfl|hx
  ·exact ha1
  ·exact hb1
  ·exact h.az x hx
 ·rw[fO hlen]at hx
  by_cases h0:0<i
  ·rw[if_pos h0]at hx;exact h.first x hx
  ·obtain rfl:i=0:=by omega
   rw[if_neg h0,if_pos rfl]at hx;obtain rfl:=aqu hx;rw[xJ];exact h.first nd hi
 ·rw[fO hlen]at hx hy
  by_cases c1:j+1<i
  ·rw[if_pos (by omega)]at hx
   rw[if_pos c1]at hy;exact h.next j x y hx hy
  ·rw[if_neg c1]at hy
   by_cases c2:j+1=i
   ·rw[if_pos (by omega)]at hx
    rw[if_pos c2]at hy;obtain rfl:=aqu hy;subst c2;obtain⟨q1,q2,q3,q4⟩:=h.next j x nd hx hi;exact⟨q1,by rw[xJ];exact q2,by rw[Gx];exact q3,by rw[xJ];exact q4⟩
   ·rw[if_neg c2]at hy
    by_cases c3:j+1=i+1
    ·obtain rfl:j=i:=by omega
     rw[if_neg (by omega),if_pos rfl]at hx
     rw[if_pos rfl]at hy;obtain rfl:=aqu hx;obtain rfl:=aqu hy;exact⟨ha2,ha3,ha4,by rw[xJ];exact h1⟩
    ·rw[if_neg c3]at hy
     rw[if_neg (by omega),if_neg (by omega)]at hx
     by_cases c4:j=i+1
     ·rw[if_pos c4]at hx
      obtain rfl:=aqu hx;rw[c4,show i+1+1-1=i+1 by omega]at hy
      obtain⟨q1,q2,q3,q4⟩:=h.next i nd y hi hy;exact⟨by rw[hb2];exact q1,by rw[hb3];exact q2,by rw[hb4];exact q3,by rw[← q2];exact h2 q1⟩
     ·rw[if_neg c4]at hx
      exact h.next (j-1) x y hx (by rw[show j-1+1=j+1-1 by omega];exact hy)
 ·rw[yO hlen]at hj
  rw[fO hlen]at hx;rw[if_neg (by omega),if_neg (by omega)]at hx
  by_cases c4:j=i+1
  ·rw[if_pos c4]at hx
   obtain rfl:=aqu hx;obtain⟨q1,q2,q3⟩:=h.last i nd hi (by omega)
   exact⟨by rw[hb2];exact q1,by rw[hb3];exact q2,by rw[hb4];exact q3⟩
  ·rw[if_neg c4]at hx
   exact h.last (j-1) x hx (by omega)
end Go.Proofs.YtlpdhhhgckpcfaaGreat
