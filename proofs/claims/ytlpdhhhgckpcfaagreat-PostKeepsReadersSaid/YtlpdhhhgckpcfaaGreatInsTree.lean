/- A tree in which a slot has been afq. -/
import Derived.Test.YtlpdhhhgckpcfaaGreatPostMN
namespace Go.Proofs.YtlpdhhhgckpcfaaGreat
set_option linter.unusedSimpArgs false
set_option linter.unusedVariables false
open Go.RowKit
set_option maxHeartbeats 16000000
set_option maxRecDepth 100000
section
theorem Vd {d:aU}{id:Int}{L:List aQ}{p q:Pg}(e:eO d id L p)(f:eO d id L q):p=q:=by
 rw[←Lg e,←Lg f]
section
variable {d:aU}{L:List aQ}{t:List (List Nd)}
theorem cT.inj (o:cT d L t)(k k':Nat)(l l':List Nd)(i v:Nat)(a b:Nd)(hk:t[k]?=some l)(f:t[k']?=some l')(B:l[i]?=some a)(C:l'[v]?=some b)(he:a.id=b.id):k=k' /\ i=v := by
 have H:=o.nodes k l hk a (asw B);have I:=o.nodes k' l' f b (asw C);have e:a.pg=b.pg:=Vd H.page (by rw[he];exact I.page)
 have l1:=(o.rows k l hk).aA a (asw B);have S:=(o.rows k' l' f).aA b (asw C);rw[e]at l1;have J:k=k' := by omega
 subst J;rw[hk]at f;obtain rfl:=asy f;refine⟨rfl,?_⟩;have hR:=o.rows k l hk;have key:∀(p q:Nat) (x y:Nd),l[p]?=some x->l[q]?=some y->x.pg=y.pg->p<q->False:=by
  intro p q x y M D A O;have T:=(asu.1 D).1;obtain⟨z,G⟩:∃z,l[p+1]?=some z:=⟨_,asx (by omega)⟩
  obtain⟨n1,P,U,n4⟩:=hR.next p x z M G;rcases Nat.lt_or_ge (q+1) l.length with E|Q
  ·obtain⟨u,hu⟩:∃u,l[q+1]?=some u:=⟨_,asx E⟩
   obtain⟨_,R,_,_⟩:=hR.next q y u D hu;have:=hR.nQ (q+1) (p+1) z u G hu (by omega)
   rw[←P,←R,A,cS]at this;cases this
  ·have:=(hR.last q y D (by omega)).1
   rw[←A,n1]at this;cases this
 rcases Nat.lt_trichotomy i v with h|h|h
 ·exact(key i v a b B C e h).elim
 ·exact h
 ·exact(key v i b a C B e.symm h).elim
theorem cT.shp (e:cT d L t):mA (ah L 4).n t:=
 ⟨e.ne,e.rows,fun k l hk nd f=>by
  have h:=e.nodes k l hk nd f;exact⟨⟨h.id.1,e.used k l hk nd f⟩,h.jP,h.rf,h.bd⟩,e.down,e.inj,e.count⟩
structure afr (d:aU)(L:List aQ)(nd:Nd):Prop where
 page:eO d nd.id L nd.pg
 hold:Holds L (bQ d nd.id nd.pg)
 free:ou (ah L (d.node nd.id 0))
theorem cT.of (e:mA (ah L 4).n t)(q:(ah L 4).n<=d.no)(u:∃nd rest,t[t.length-1]?=some (nd::rest)/\(ah L 0).n=nd.id)(hm:∀(k:Nat)(l:List Nd),t[k]?=some l->∀nd,nd∈l->afr d L nd):cT d L t:=by
 refine⟨e.ne,e.rows,fun k l hk nd f=>?_,u,e.down,e.count,q,fun k l hk nd f=>(e.nodes k l hk nd f).1.2⟩
 obtain⟨v,h⟩:=e.nodes k l hk nd f;have o:=hm k l hk nd f;exact⟨⟨v.1,by omega⟩,o.page,o.hold,o.free,h.jP,h.rf,h.bd⟩
end
theorem qL {l:List Sl}{key:ByteArray}{r:Int}{i:Nat}{s:Sl}(h:(fc l key r)[i]?=some s):(i<fR l key/\l[i]?=some s)\/(i=fR l key/\s=⟨key,r⟩)\/(fR l key<i/\l[i-1]?=some s):=by
 have hle:=rq l key;unfold fc at h;have hlen:(l.take (fR l key)).length=fR l key:=by rw[List.length_take];omega
 rcases Nat.lt_trichotomy i (fR l key)with e|e|e
 ·rw[List.getElem?_append_left (by rw[hlen];exact e),List.getElem?_take,if_pos e]at h
  exact .inl ⟨e,h⟩
 ·rw[List.getElem?_append_right (by rw[hlen];omega),hlen,e,Nat.sub_self]at h
  exact .inr (.inl ⟨e,(asy h).symm⟩)
 ·rw[List.getElem?_append_right (by rw[hlen];omega),hlen]at h
  obtain⟨m,rfl⟩:∃m,i=fR l key+1+m:=⟨i-(fR l key+1),by omega⟩
  rw[show fR l key+1+m-fR l key=m+1 by omega,List.getElem?_cons_succ,List.getElem?_drop]at h
  exact .inr (.inr ⟨e,by rw[show fR l key+1+m-1=fR l key+m by omega];exact h⟩)
theorem Ov {l:List Sl}{key:ByteArray}{r:Int}(e:kY l)(v:∀s,s∈l->s.k≠key):kY (fc l key r):=by
 have z:∀(i:Nat) (s:Sl),l[i]?=some s->i<fR l key->cA s.k key=true:=fun i s q h=>(jM e q).2 h
 have A:∀(i:Nat) (s:Sl),l[i]?=some s->fR l key<=i->cA key s.k=true:=fun i s q h=>by
  cases hc:cA key s.k with
  | true=>rfl
  | false=>
   cases f:cA s.k key with
   | true=>have:=(jM e q).1 f;omega
   | false=>exact absurd (gP f hc) (v s (asw q))
 unfold kY;rw[List.pairwise_iff_getElem];intro i j hi E B;obtain⟨x,D⟩:∃x,(fc l key r)[i]?=some x:=⟨_,asx hi⟩;obtain⟨y,u⟩:∃y,(fc l key r)[j]?=some y:=⟨_,asx E⟩;rw[(asu.1 D).2,(asu.1 u).2];rcases qL D with⟨C,o⟩|⟨C,rfl⟩|⟨C,o⟩
 ·rcases qL u with⟨b1,b2⟩|⟨b1,rfl⟩|⟨b1,b2⟩
  ·exact kg e o b2 B
  ·exact z i x o C
  ·exact kg e o b2 (by omega)
 ·rcases qL u with⟨b1,b2⟩|⟨b1,rfl⟩|⟨b1,b2⟩
  ·omega
  ·omega
  ·exact A _ y b2 (by omega)
 ·rcases qL u with⟨b1,b2⟩|⟨b1,rfl⟩|⟨b1,b2⟩
  ·omega
  ·omega
  ·exact kg e o b2 (by omega)
theorem xQ {pg:Pg}{x y:Sl}(e:pg.sl[gm pg.sl.length-1]?=some x)(f:pg.sl[gm pg.sl.length]?=some y):bM pg=if pg.aA=0 then l6 x.k y.k else y.k:=by
 unfold bM;rw[e,f]
theorem Ln {pg:Pg}(e:2<=pg.sl.length):∃x y:Sl,1<=gm pg.sl.length/\pg.sl[gm pg.sl.length-1]?=some x/\pg.sl[gm pg.sl.length]?=some y:=by
 have hk:1<=gm pg.sl.length/\gm pg.sl.length<pg.sl.length:=by unfold gm;omega
 exact⟨_,_,hk.1,asx (by omega),asx hk.2⟩
theorem aae {pg:Pg}(q:kY pg.sl)(v:2<=pg.sl.length):(∀s,s∈pg.sl.take (gm pg.sl.length)->cA s.k (bM pg)=true)/\(∀s,s∈pg.sl.drop (gm pg.sl.length)->cA s.k (bM pg)=false) /\
  (∃x,x∈pg.sl/\cA x.k (bM pg)=true)/\(∃y,y∈pg.sl/\cA y.k (bM pg)=false):=by
 obtain⟨x,y,z,h,o⟩:=Ln v;have f:=kg q h o (by omega)
 have e:cA x.k (bM pg)=true/\cA y.k (bM pg)=false:=by
  rw[xQ h o];split
  ·exact tD f
  ·exact⟨f,cS _⟩
 refine⟨fun s u=>?_,fun s u=>?_,⟨x,asw h,e.1⟩,⟨y,asw o,e.2⟩⟩
 ·obtain⟨i,hi⟩:=ast u
  rw[List.getElem?_take]at hi;split at hi
  ·exact gq (zi q hi h (by omega)) e.1
  ·cases hi
 ·obtain⟨i,hi⟩:=ast u
  rw[List.getElem?_drop]at hi;exact qu e.2 (zi q o hi (by omega))
theorem Ve {l:List Sl}(h:kY l)(n:Nat):kY (l.take n):=h.sublist (List.take_sublist _ _)
theorem Vf {l:List Sl}(h:kY l)(n:Nat):kY (l.drop n):=h.sublist (List.drop_sublist _ _)
section
variable {nd:Nd}{key:ByteArray}{r:Int}{fu:Pg}{n:Int}
theorem aaf (h:Jg nd)(u:cA key nd.low=false)(f:(nd.pg.la || cA key nd.pg.hi)=true)(o:∀s,s∈nd.pg.sl->s.k≠key)(v:1<=r):Jg { nd with pg:=aI nd.pg key r }:=by
 refine⟨Ov h.jP o,fun s e=>?_,fun s e=>?_⟩
 ·rcases jY e with e|rfl
  ·exact h.rf s e
  ·exact v
 ·rcases jY e with e|rfl
  ·exact h.bd s e
  ·refine⟨u,fun q=>?_⟩
   have q:nd.pg.la=false:=q;rw[q,Bool.false_or]at f;exact f
theorem aag (h:Jg { nd with pg:=fu }) (o:2<=fu.sl.length):Jg { nd with pg:=ed fu n }/\Jg ⟨n,bM fu,cZ fu⟩/\cA nd.low (bM fu)=true/\(fu.la=false->cA (bM fu) fu.hi=true):=by
 obtain⟨s1,s2,⟨x,q,u⟩,⟨y,v,z⟩⟩:=aae (show kY fu.sl from h.jP) o
 refine⟨⟨Ve h.jP _,fun s e=>h.rf s (List.mem_of_mem_take e),fun s e=>⟨(h.bd s (List.mem_of_mem_take e)).1,fun _=>s1 s e⟩⟩,⟨Vf h.jP _,fun s e=>h.rf s (List.mem_of_mem_drop e),fun s e=>⟨s2 s e,fun f=>(h.bd s (List.mem_of_mem_drop e)).2 f⟩⟩,gq (h.bd x q).1 u,fun f=>gq z ((h.bd y v).2 f)⟩
theorem Vg {l0:List Nd}(h:Jg nd)(y:ku l0 nd)(z:cA key nd.low=false)(e:∀s,s∈nd.pg.sl->s.k≠key)(hc:∃c,c∈l0/\c.id=r/\c.low=key):ku l0 { nd with pg:=aI nd.pg key r }:=by
 obtain⟨⟨s,rest,f,e2⟩,e3⟩:=y;refine⟨?_,fun s o=>?_⟩
 ·have q:nd.pg.sl[0]?=some s:=by rw[f];rfl
  have u:cA s.k key=true:=by
   cases v:cA s.k key with
   | true=>rfl
   | false=>exact absurd (gP v (by rw[e2];exact z)) (e s (by rw[f];simp))
  have h0:=(jM h.jP q).1 u;obtain⟨m,hm⟩:∃m,fR nd.pg.sl key=m+1:=⟨fR nd.pg.sl key-1,by omega⟩
  refine⟨s,(rest.take m)++⟨key,r⟩::nd.pg.sl.drop (m+1),?_,e2⟩;show fc nd.pg.sl key r=_
  unfold fc;rw[hm,f];rfl
 ·rcases jY o with o|rfl
  ·exact e3 s o
  ·exact hc
theorem Vh {l0:List Nd}(u:fu.aA≠0)(h:ku l0 { nd with pg:=fu }) (v:2<=fu.sl.length):ku l0 { nd with pg:=ed fu n }/\ku l0 ⟨n,bM fu,cZ fu⟩:=by
 obtain⟨⟨s,rest,e,e2⟩,e3⟩:=h;obtain⟨x,y,A,z,f⟩:=Ln v;obtain⟨m,hm⟩:∃m,gm fu.sl.length=m+1:=⟨gm fu.sl.length-1,by omega⟩
 refine⟨⟨⟨s,rest.take m,?_,e2⟩,fun s o=>e3 s (List.mem_of_mem_take o)⟩,⟨⟨y,fu.sl.drop (gm fu.sl.length+1),?_,?_⟩,fun s o=>e3 s (List.mem_of_mem_drop o)⟩⟩
 ·show fu.sl.take (gm fu.sl.length)=_
  have e:fu.sl=s::rest:=e;rw[hm,e];rfl
 ·show fu.sl.drop (gm fu.sl.length)=_
  have q:=(asu.1 f).1;rw[List.drop_eq_getElem_cons q,(asu.1 f).2]
 ·rw[xQ z f,if_neg u]
end
def eM (t:List (List Nd))(k i:Nat)(l:List Nd)(nd:Nd)(fu:Pg)(n:Int)(sp:Bool):List (List Nd):=
 if sp then t.set k (pM l i { nd with pg:=ed fu n } ⟨n,bM fu,cZ fu⟩)else t.set k (l.set i { nd with pg:=fu })
theorem Lp {t:List (List Nd)}{k:Nat}{l l':List Nd}{rt:Nd}{rest:List Nd}(q:0<t.length)(hl:t[k]?=some l)(h:t[t.length-1]?=some (rt::rest))(h0:∀a,l[0]?=some a->∃b,l'[0]?=some b/\b.id=a.id) :
  ∃nd f,(t.set k l')[(t.set k l').length-1]?=some (nd::f)/\nd.id=rt.id:=by
 rw[List.length_set,List.getElem?_set];split
 ·rename_i e
  rw[if_pos (by omega)]
  rw[e]at hl;rw[hl]at h;obtain rfl:=asy h;obtain⟨b,o,e2⟩:=h0 rt rfl;cases l' with
  | nil=>simp at o
  | cons c f =>
   obtain rfl:c=b:=by simpa using o
   exact⟨c,f,rfl,e2⟩
 ·exact⟨rt,rest,h,rfl⟩
section
variable {d:aU}{L L3:List aQ}{t:List (List Nd)}{k i:Nat}{l:List Nd}{nd:Nd}{key:ByteArray}{r:Int}{sp:Bool}{p:Pg}
end
end
section
def aO (l:List Int):List Value:=l.map (Value.int .u64 ·)
theorem sM (l:List Int)(x:Int):aO (l++[x])=aO l++[.int .u64 x]:=by simp[aO]
theorem Lr:(Tryz.prog.info? 23).map (fun i=>(i.zero,i.size,i.bytes))=some (some (.int .u64 0),1,8):=by kernel_rfl
def iu (t:List (List Nd))(k:Nat):List Int:=match t[k]? with
 | some l=>l.map (·.id)
 | none=>[]
theorem Ed {d:aU}{L:List aQ}{t:List (List Nd)}(q:cT d L t){j:Nat}{l l':List Nd}{nd:Nd}(hl:t[j]?=some l)(f:t[j+1]?=some l')(h0:l'[0]?=some nd):∃s r c,nd.pg.sl=s::r/\l[0]?=some c/\s.r=c.id:=by
 obtain⟨⟨s,r,u,hk⟩,o⟩:=q.down j l l' hl f nd (asw h0);obtain⟨c,hc,hid,v⟩:=o s (by rw[u];simp)
 obtain⟨i,hi⟩:=ast hc;have y:=(q.rows (j+1) l' f).first nd h0
 have e:=q.rows j l hl;refine⟨s,r,c,u,?_,hid.symm⟩;rcases Nat.eq_zero_or_pos i with h|h
 ·rw[←h];exact hi
 ·obtain⟨a,z⟩:∃a,l[0]?=some a:=⟨_,asx e.ne⟩
  have:=e.nQ i 0 a c z hi h;rw[v,hk,y,jX]at this;cases this
def LvI (t:List (List Nd))(k i:Nat)(n0:Int):Prop:=
 i<=(iu t k).length/\((∃(l:List Nd) (nd:Nd),t[k]?=some l/\l[i]?=some nd/\n0=nd.id)\/(n0=0/\i=(iu t k).length)\/(t.length<=k/\i=0/\∃(j:Nat) (l:List Nd) (nd:Nd),t[j]?=some l/\nd∈l/\n0=nd.id/\j<k))
def Vi:Value->Nat
 | .slice _ n _=>n
 | _=>0
theorem List.dg {t:List (List Nd)}{k:Nat}{l:List Nd}(h:t[k]?=some l):l.length<=(t.map List.length).sum:=by
 have e:(t.map List.length).sum=((t.take (k+1)).map List.length).sum+((t.drop (k+1)).map List.length).sum:=by
  rw[←List.sum_append,←List.map_append,List.take_append_drop]
 rw[List.take_add_one,h]at e;simp at e;omega
section
variable {K:aM}{w:World}{F:List aC}{d:aU}{g:Nat}{L:List aQ}{t:List (List Nd)}{k:Nat}
theorem iW (hd:d.Ok)(H:cT d L t)(hk:k<=t.length)(hg:K.map g=some (.cells (flat L).toArray 63))(hl:L.length<=1000000)(f:St K w F) :
  Calls Tryz.prog 27 #[.agg #[.int .i64 (d).th,.int .i64 (d).sn,.int .i64 (d).no,.int .i64 (d).ch,.int .i64 (d).re,.int .i64 (d).fa,.int .u64 (d).cl,.slice (some ⟨g,0,none⟩) L.length L.length],.int .i64 k] w fun e w' => ∃v,e=.returned v/\St K w' (az v 23 1 (iu t k).length (aO (iu t k))::F):=by
 have jw:=hd.m6;have S:((t.map List.length).sum:Int)<=d.no:=by have:=H.count;have:=H.n4;omega
 have htl:(t.length:Int)<=d.no:=by
  have z:t.length<=(t.map List.length).sum:=by
   have:=rG (ps:=t.map List.length) (fun p hp=>by
    obtain⟨l,hl',rfl⟩:=List.mem_map.1 hp;obtain⟨i,hi⟩:=ast hl';exact(H.rows i l hi).ne)
   simpa using this
  omega
 obtain⟨iv,dm,dr,dw,dx⟩:=info_parts Lr;have lO:=ass dm;have lQ:=ass dr;have lR:=ass dw;have lS:=ass dx;clear dm dr dw dx;have f:=f.made (.cells #[.int .i64 (d).th,.int .i64 (d).sn,.int .i64 (d).no,.int .i64 (d).ch,.int .i64 (d).re,.int .i64 (d).fa,.int .u64 (d).cl,.slice (some ⟨g,0,none⟩) L.length L.length] 52);obtain⟨bv,nV⟩:∃bv,bv=w.heap.size:=⟨_,rfl⟩;have Q0:=ass (fun W cs (h:St K W cs)=>gL (d:=d) 0 W (kT hg hl h))
 have Qn:=ass (fun(id:Int) (hid:0<=id/\id<18446744073709551616) W cs (h:St K W cs)=>nU hd id hid hg hl h)
 have Qp:=ass (fun(j:Nat) (l:List Nd) (nd:Nd) (hj:t[j]?=some l) (hn:nd∈l) W cs (h:St K W cs)=>fT hd (H.nodes j l hj nd hn).id.1 (H.nodes j l hj nd hn).id.2 (H.nodes j l hj nd hn).page hg hl h)
 have Ht:=ass H;have Hno:=ass S;clear S;obtain⟨rt,rest,ei,E⟩:=H.top;rw[E]at Q0;have akn:=ass ei;have U:=ass H.ne;generalize L.length=n at *;clear hg H E ei;go_enter Tryz.func27,Tryz.ntmps27
 go_wp2_with fail
 refine(bJ f (Q0.out _ _ f)).mono ?_
 clear f Q0;rintro e w1 ⟨rfl,f⟩;go_wp2
 rw[←nV]at f ⊢;clear nV;go_loopw [5,6,7] (fun v5 v6 _ wr=>∃(j q:Nat) (l:List Nd) (nd:Nd),v5=.int .u64 nd.id/\v6=.int .i64 q/\Hid (t[j]?=some l/\l[0]?=some nd)/\q+j+1=t.length/\(k<=j\/j+1=t.length)/\St K wr (blk bv (.cells #[.int .i64 (d).th,.int .i64 (d).sn,.int .i64 (d).no,.int .i64 (d).ch,.int .i64 (d).re,.int .i64 (d).fa,.int .u64 (d).cl,.slice (some ⟨g,0,none⟩) n n] 52)::F)) (fun _ v6 _ _=>t.length-(intOf v6).toNat)
 case atStart=>exact⟨t.length-1,0,rt::rest,rt,rfl,rfl,ass ⟨akn.out,rfl⟩,by have:=U.out;omega,.inr (by have:=U.out;omega),f⟩
 case round=>
  clear f;obtain⟨j,q,l,nd,rfl,rfl,B,hqj,hkj,f⟩:=hrel;have hok:=(Ht.out.nodes j l B.out.1 nd (asw B.out.2)).id;have I:=Ht.out.used j l B.out.1 nd (asw B.out.2);have J:=(Ht.out.rows j l B.out.1).aA nd (asw B.out.2);have C:=Qn.out nd.id (by omega)
  rw[decide_eq_true (show 1<=nd.id/\nd.id<=d.no/\nd.id<=(ah L 4).n from⟨hok.1,hok.2,I⟩)]at C
  have M:=ass C;have O:=ass (Qp.out j l nd B.out.1 (asw B.out.2));have hq1:(q:Int)<=d.no:=by omega
  have R:=ass J;have Zw:=ass hok;clear C hok I J;have y:=f.k0;go_wp2_with fail
  refine(M.out _ _ f).mono ?_
  clear f y;rintro e w2 ⟨rfl,f⟩;have y:=f.k0;go_wp2_with fail
  refine(O.out _ _ f).mono ?_
  clear f y;rintro e w3 ⟨va,rfl,f⟩;obtain⟨a,c,rfl,_,_⟩:=f.aJ;have f:=f.tail;have y:=f.k0;rw[R.out];by_cases hjk:k<j
  ·obtain⟨j',rfl⟩:∃j',j=j' + 1:=⟨j-1,by omega⟩
   obtain⟨l2,P⟩:∃l2,t[j']?=some l2:=⟨_,asx (by omega)⟩
   obtain⟨s,r,cc,fB,V,Tn⟩:=Ed Ht.out P B.out.1 B.out.2;have tE:=ass fB;have Hcc:=ass (And.intro P V);have Hsr:=ass Tn;have hlen:0<nd.pg.sl.length:=by rw[fB];simp
   clear P V fB Tn;go_wp2_with fail
   refine(O.out _ _ f).mono ?_
   clear f y;rintro e w4 ⟨va,rfl,f⟩;obtain⟨a2,c2,rfl,_,_⟩:=f.aJ;obtain⟨g2,rfl,c1⟩:=f.cQ (show(aF nd.pg.sl)[1]?=some (.int .u64 s.r)by rw[tE.out];rfl)
   have f:=f.made (.cells #[.int .i64 (nd.pg).aA,(.slice (some ⟨g2,0,none⟩) nd.pg.sl.length c2),.string (nd.pg).hi,.bool (nd.pg).la,.int .u64 (nd.pg).ri] 43);have c1' := (show St (K) _ (az _ _ _ _ _::_)from f.b1).bG (show(aF nd.pg.sl)[1]?=some (.int .u64 s.r)by rw[tE.out];rfl)
   have kp:=f.k0;go_wp2
   rw[Hsr.out];go_roundw
   case rel=>exact⟨j',q+1,l2,cc,rfl,by go_num,Hcc,by omega,.inl (by omega),f.tail.tail⟩
   case measure=>simp[intOf];omega
  ·have f:=f.cJ (T:=23) (size:=1)
   have hf:¬ ((k:Int)<j):=by omega
   have hI:LvI t k 0 nd.id:=by
    refine⟨Nat.zero_le _,?_⟩;by_cases ox:k<t.length
    ·obtain rfl:j=k:=by omega
     exact .inl ⟨l,nd,B.out.1,B.out.2,rfl⟩
    ·exact .inr (.inr ⟨by omega,rfl,j,l,nd,B.out.1,asw B.out.2,rfl,by omega⟩)
   have HI:=ass hI;clear hI M O;go_wp2
   go_loopw [5,8] (fun v5 v8 wr=>∃(i:Nat) (n0:Int) (ao:Option Addr) (co:Nat),v5=.int .u64 n0/\v8=.slice ao i co/\Hid (LvI t k i n0)/\i<=4096/\St K wr (az (.slice ao i co) 23 1 i (aO ((iu t k).take i))::blk bv (.cells #[.int .i64 (d).th,.int .i64 (d).sn,.int .i64 (d).no,.int .i64 (d).ch,.int .i64 (d).re,.int .i64 (d).fa,.int .u64 (d).cl,.slice (some ⟨g,0,none⟩) n n] 52)::F)) (fun _ v8 _=>5000-Vi v8)
   case atStart=>exact⟨0,nd.id,none,0,rfl,rfl,HI,by omega,f⟩
   case round=>
    clear f HI B R Zw hqj hkj hq1 hjk hf y;obtain⟨i,n0,ao,co,rfl,rfl,HI,amq,f⟩:=hrel;rcases HI.out.2 with⟨A,o,z,D,rfl⟩|⟨rfl,z⟩|⟨z,rfl,X,A,o,D,Y,rfl,h4⟩
    ·have hm:=asw D
     have hok:=(Ht.out.nodes k A z o hm).id;have I:=Ht.out.used k A z o hm;have J:=(Ht.out.rows k A z).aA o hm;have C:=Qn.out o.id (by omega)
     rw[decide_eq_true (show 1<=o.id/\o.id<=d.no/\o.id<=(ah L 4).n from⟨hok.1,hok.2,I⟩)]at C
     have M:=ass C;have O:=ass (Qp.out k A o z hm);have hil:i<A.length:=(asu.1 D).1;have Q:iu t k=A.map (·.id):=by unfold iu;rw[z]
     have afu:(A.length:Int)<=d.no:=by
      have hc:=Hno.out;have hb:=List.dg z;omega
     have eu:(iu t k).take (i+1)=(iu t k).take i++[o.id]:=by
      rw[Q,List.take_add_one,List.getElem?_map,D];rfl
     have iU:=ass eu;have G:LvI t k (i+1) o.pg.ri:=by
      have hR:=Ht.out.rows k A z;refine⟨by rw[Q,List.length_map];omega,?_⟩
      rcases Nat.lt_or_ge (i+1) A.length with hlt|hge
      ·obtain⟨b,hb⟩:∃b,A[i+1]?=some b:=⟨_,asx hlt⟩
       exact .inl ⟨A,b,z,hb,(hR.next i o b D hb).2.2.1⟩
      ·exact .inr (.inl ⟨(hR.last i o D (by omega)).2.2,by rw[Q,List.length_map];omega⟩)
     have Vj:=ass G;have aps:(i:Int)<d.no:=by omega
     have apt:i<4096:=by omega
     have R:=ass J;clear C hok I J hm z D Q eu G hil afu;have y:=f.k1;go_wp2_with fail
     refine(M.out _ _ f).mono ?_
     clear f y;rintro e w2 ⟨rfl,f⟩;have y:=f.k1;go_wp2_with fail
     refine(O.out _ _ f).mono ?_
     clear f y;rintro e w3 ⟨va,rfl,f⟩;obtain⟨a,c,rfl,_,_⟩:=f.aJ;have f:=f.tail;have y:=f.k1;rw[R.out];have kk:((k:Int) == k)=true:=beq_self_eq_true _;go_wp2_with (at_builtin;refine dM _ _ 57 23 _ i 1 8 _ [.int .u64 o.id] (.int .u64 0) iv f rfl rfl Tryz.underlying57 lO.out lQ.out lR.out lS.out rfl (by decide) rfl rfl rfl (fun u hu=>by simp at hu;subst hu;rfl) (by omega) (by decide) ?_)
     clear f y;intro v' w' f;obtain⟨mP,mQ,hv,_,_⟩:=f.aJ;subst hv;have y:=f.k1;go_wp2_with fail
     refine(O.out _ _ f).mono ?_
     clear y f;rintro e w5 ⟨oF,rfl,f⟩;obtain⟨a2,c2,rfl,_,_⟩:=f.aJ;have f:=f.tail;go_wp2
     go_roundw
     case rel=>exact⟨i+1,o.pg.ri,mP,mQ,rfl,rfl,Vj,by omega,by rw[iU.out,sM];exact f⟩
     case measure=>simp only[Vi];omega
    ·have C:=Qn.out 0 (by omega)
     rw[decide_eq_false (show ¬ ((1:Int)<=0/\(0:Int)<=d.no/\(0:Int)<=(ah L 4).n)by omega)]at C
     have M:=ass C;have H1:=ass z;clear C z;have y:=f.k1;go_wp2_with fail
     refine(M.out _ _ f).mono ?_
     clear f y;rintro e w2 ⟨rfl,f⟩;go_wp2
     go_ret;rw[List.take_of_length_le (by rw[←H1.out];exact Nat.le_refl _)]at f
     refine⟨_,rfl,?_⟩;rw[←H1.out];exact f.b9
    ·have hok:=(Ht.out.nodes X A D o Y).id
     have I:=Ht.out.used X A D o Y;have J:=(Ht.out.rows X A D).aA o Y;have C:=Qn.out o.id (by omega)
     rw[decide_eq_true (show 1<=o.id/\o.id<=d.no/\o.id<=(ah L 4).n from⟨hok.1,hok.2,I⟩)]at C
     have M:=ass C;have O:=ass (Qp.out X A o D Y);have R:=ass J;have Q:iu t k=[]:=by unfold iu;rw[List.getElem?_eq_none z]
     have Z:=ass Q;clear C hok I J z D Y Q;have y:=f.k1;go_wp2_with fail
     refine(M.out _ _ f).mono ?_
     clear f y;rintro e w2 ⟨rfl,f⟩;have y:=f.k1;go_wp2_with fail
     refine(O.out _ _ f).mono ?_
     clear f y;rintro e w3 ⟨va,rfl,f⟩;obtain⟨a,c,rfl,_,_⟩:=f.aJ;have f:=f.tail;rw[R.out];have hne:¬ ((X:Int)=k):=by omega
     go_wp2
     go_ret;refine⟨_,rfl,?_⟩;rw[Z.out];rw[Z.out]at f;exact f.b9
end
section
variable {K:aM}{REST:List aC}{v5:Value}{n:Nat}{xs:List ByteArray}{hi:ByteArray}{ρ:Nat->Option Value}{W:World}{v6 v7 v8 v9:Value}
end
section
variable {K:aM}{w:World}{F:List aC}{d:aU}{g:Nat}{L:List aQ}{l:List Nd}{a:Option Addr}{cap:Nat}
end
section
variable {aA:Nat}{l:List Nd}{i j:Nat}{a b:Nd}{key:ByteArray}
theorem fS.Vk (h:fS aA l)(o:l[i]?=some a)(f:l[j]?=some b)(q:i<j):a.pg.la=false/\cA b.low a.pg.hi=false:=by
 have z:=(asu.1 f).1;obtain⟨e,he⟩:∃e,l[i+1]?=some e:=⟨_,asx (by omega)⟩
 obtain⟨u,v,_,_⟩:=h.next i a e o he;refine⟨u,?_⟩;rw[v];by_cases y:i+1=j
 ·rw[y,f]at he
  rw[asy he];exact cS _
 ·exact gO (h.nQ j (i+1) e b he f (by omega))
theorem fS.xR (h:fS aA l)(q:l[i]?=some a)(u:l[j]?=some b)(y:cA key a.low=false)(v:(a.pg.la || cA key a.pg.hi)=true)(b1:cA key b.low=false)(b2:(b.pg.la || cA key b.pg.hi)=true):i=j:=by
 rcases Nat.lt_trichotomy i j with e|e|e
 ·obtain⟨o,f⟩:=h.Vk q u e
  rw[o,Bool.false_or]at v;have:=gq b1 v;rw[this]at f;cases f
 ·exact e
 ·obtain⟨o,f⟩:=h.Vk u q e
  rw[o,Bool.false_or]at b2;have:=gq y b2;rw[this]at f;cases f
def gU (l:List Nd)(i:Nat):Nat:=((l.take i).map fun nd=>nd.pg.sl.length).sum
theorem kA (e:l[i]?=some a):gU l (i+1)=gU l i+a.pg.sl.length:=by
 unfold gU;rw[List.take_add_one,e];simp
theorem oz:∀l:List Nd,gU l l.length=(l.flatMap fun nd=>nd.pg.sl).length
 | []=>rfl
 | x::l=>by
  have e:gU (x::l) (l.length+1)=x.pg.sl.length+gU l l.length:=by simp[gU]
  rw[List.length_cons,e,oz l];simp
end
section
variable {d:aU}{ks:List ByteArray}{ee:Bool}{L:List aQ}{t:List (List Nd)}{l:List Nd}{i p:Nat}{a:Nd}{key:ByteArray}{s:Sl}
end
end
section
def jG (M:Nat)(S:List Int):List Value:=(List.range M).map fun(i:Nat)=> .bool (decide ((i:Int)∈S))
theorem Vl (M:Nat)(S:List Int):(jG M S).length=M:=by simp[jG]
theorem Ow (M:Nat):List.replicate M (Value.bool false)=jG M []:=by
 unfold jG;refine List.ext_getElem? (fun i=>?_)
 by_cases h:i<M
 ·simp[h]
 ·simp[h]
theorem Ls {M i:Nat}(S:List Int)(hi:i<M):(jG M S)[i]?=some (.bool (decide ((i:Int)∈S))):=by simp[jG,hi]
theorem Vm (M:Nat)(S:List Int)(i:Nat):(jG M S).set i (.bool true)=jG M (S++[(i:Int)]):=by
 refine List.ext_getElem? (fun j=>?_)
 unfold jG;rw[List.getElem?_set];by_cases h:j<M
 ·by_cases e:i=j
  ·subst e
   simp[h]
  ·have e2:¬ (j:Int)=(i:Int):=by omega
   simp[h,e,e2]
 ·by_cases e:i=j
  ·subst e
   simp[h]
  ·simp[h,e]
def refsOf (l:List Nd):List Int:=(l.flatMap fun nd=>nd.pg.sl).map (·.r)
def fw (l0 l1:List Nd):List Nd:=(l0.drop 1).filter fun c => !decide (c.id∈refsOf l1)
def fE (l:List Nd):List Value:=l.flatMap fun c=>[.string c.low,.int .u64 c.id]
theorem Jk (l:List Nd)(c:Nd):fE (l++[c])=fE l++[.string c.low,.int .u64 c.id]:=by simp[fE]
theorem Ee:∀(l:List Nd)(i:Nat)(c:Nd),l[i]?=some c->(fE l)[i*2]?=some (.string c.low)/\(fE l)[i*2+1]?=some (.int .u64 c.id)
 | [],i,c,h=>by simp at h
 | a::l,0,c,h=>by
  obtain rfl:a=c:=by simpa using h
  exact⟨rfl,rfl⟩
 | a::l,i+1,c,h=>by
  have:=Ee l i c (by simpa using h)
  rw[show(i+1)*2=i*2+2 by omega]
  exact this
theorem Ox {l0 l1:List Nd}{i:Nat}{c:Nd}(hi:l0[i]?=some c):fw (l0.take (i+1)) l1=if i > 0/\¬ c.id∈refsOf l1 then fw (l0.take i) l1++[c]else fw (l0.take i) l1:=by
 unfold fw;rw[List.take_add_one,hi];cases i with
 | zero=>simp
 | succ i=>
  have hlen:=(asu.1 hi).1;rw[List.drop_append_of_le_length (by rw[List.length_take];omega),List.filter_append]
  by_cases h:c.id∈refsOf l1
  ·rw[if_neg (fun e=>e.2 h)]
   simp[h]
  ·rw[if_pos ⟨by omega,h⟩]
   simp[h]
theorem Ef {l:List Nd}{i:Nat}{c:Nd}(hi:l[i]?=some c):refsOf (l.take (i+1))=refsOf (l.take i)++c.pg.sl.map (·.r):=by
 unfold refsOf;rw[List.take_add_one,hi];simp
end
section
def mR (t:List (List Nd))(k:Nat)(nd:Nd):Bool := !decide (nd.id∈refsOf (t[k+1]?.getD []))
def bW (t:List (List Nd))(k:Nat):Nat:=((t[k]?.getD []).filter (mR t k)).length
def runN (t:List (List Nd))(k i:Nat):Nat:=(((t[k]?.getD []).drop (i+1)).filter (mR t k)).length
def aaR (t:List (List Nd))(key:ByteArray)(k i:Nat):Prop:=∀(j:Nat) (nd:Nd),(t[k]?.getD [])[j]?=some nd->i<j->cA key nd.low=false->mR t k nd=true
def pN (t:List (List Nd))(lo:Nat):Nat->Nat
 | 0=>0
 | k+1=>pN t lo k+if lo<=k then 1+bW t k else 0
def Jl (t:List (List Nd))(lo:Nat):Nat:=pN t lo (t.length-1)+bW t (t.length-1)
def oA (t:List (List Nd))(lo:Nat):Nat:=(t.map List.length).sum-gz t lo
def Oy (t:List (List Nd))(key:ByteArray)(lo k i x:Nat):Prop:=
 (∃l,t[k]?=some l/\l.length-i+(gz t k-gz t lo)<=x+1)\/(aaR t key k i/\runN t k i+pN t lo k<=x)
theorem qM (t:List (List Nd)){a b:Nat}(h:a<=b):gz t a<=gz t b:=by
 induction b with
 | zero=>
  obtain rfl:a=0:=by omega
  exact Nat.le_refl _
 | succ b ih=>
  rcases Nat.lt_or_ge b a with e|e
  ·obtain rfl:a=b+1:=by omega
   exact Nat.le_refl _
  ·refine Nat.le_trans (ih e) ?_
   unfold gz;rw[List.take_add_one,List.map_append,List.sum_append];exact Nat.le_add_right _ _
section
variable {t:List (List Nd)}{key:ByteArray}{lo k i j x:Nat}{l l':List Nd}{nd c b:Nd}{N:Int}
theorem qN {α:Type}{l:List α}{i:Nat}{a:α}(h:l[i]?=some a):l.drop i=a::l.drop (i+1):=by
 obtain⟨e,f⟩:=asu.1 h;rw[List.drop_eq_getElem_cons e,f]
theorem Oy.right (hk:t[k]?=some l)(q:l[i+1]?=some b)(u:cA key b.low=false)(h:Oy t key lo k i x):∃y,x=y+1/\Oy t key lo k (i+1) y:=by
 have v:=(asu.1 q).1;rcases h with⟨B,f,h⟩|⟨h,C⟩
 ·rw[hk]at f
  obtain rfl:=asy f;exact⟨x-1,by omega,.inl ⟨l,hk,by omega⟩⟩
 ·have o:(t[k]?.getD [])[i+1]?=some b:=by rw[hk];exact q
  have hp:=h (i+1) b o (by omega) u
  have e:runN t k i=runN t k (i+1)+1:=by
   unfold runN;rw[qN o,List.filter_cons,if_pos hp,List.length_cons]
  exact⟨x-1,by omega,.inr ⟨fun j nd z A=>h j nd z (by omega),by omega⟩⟩
theorem Oy.top (hk:t[t.length-1]?=some l)(q:0<l.length)(o:lo<=t.length-1)(h:oA t lo<=x\/Jl t lo<=x):∃y,x=y+1/\Oy t key lo (t.length-1) 0 y:=by
 have u:=(asu.1 hk).1;rcases h with h|h
 ·have z:=nW hk
  have v:=qM t o;have hle:gz t (t.length-1+1)=(t.map List.length).sum:=by
   unfold gz;rw[List.take_of_length_le (by omega)]
  unfold oA at h;exact⟨x-1,by omega,.inl ⟨l,hk,by omega⟩⟩
 ·have f:∀nd,mR t (t.length-1) nd=true:=fun nd=>by
   unfold mR;rw[List.getElem?_eq_none (by omega)]
   simp[refsOf]
  have e:bW t (t.length-1)=runN t (t.length-1) 0+1:=by
   unfold bW runN;rw[hk];show(l.filter _).length=((l.drop 1).filter _).length+1
   rw[List.filter_eq_self.2 (fun nd _=>f nd),List.filter_eq_self.2 (fun nd _=>f nd),List.length_drop]
   omega
  unfold Jl at h;exact⟨x-1,by omega,.inr ⟨fun j nd _ _ _=>f nd,by omega⟩⟩
theorem aah:runN t k i<=bW t k:=by
 unfold runN bW;exact((List.drop_sublist (i+1) (t[k]?.getD [])).filter _).length_le
theorem Vn {p:Nat}{I:Sl}(v:mA N t)(hk:t[k]?=some l)(o:t[k+1]?=some l')(hi:l'[p]?=some nd)(eb:cA key nd.low=false)(C:(nd.pg.la || cA key nd.pg.hi)=true)
  (J:nd.pg.sl[iN nd.pg.sl key-1]?=some I) (Y:0<iN nd.pg.sl key) (Z:l[j]?=some c) (D:c.low=I.k):aaR t key k j:=by
 intro M b B O E;rw[hk]at B;have B:l[M]?=some b:=B;cases P:mR t k b with
 | true=>rfl
 | false=>
  exfalso
  have f:=(v.rows k l hk).nQ M j c b Z B O;unfold mR at P;rw[o]at P;have G:b.id∈refsOf l' := by simpa using P
  obtain⟨s,hs,Tn⟩:=List.mem_map.1 G;obtain⟨Q,y,z⟩:=List.mem_flatMap.1 hs;obtain⟨p',A⟩:=ast y;obtain⟨c',R,e1,e2⟩:=(v.down k l l' hk o Q y).2 s z;obtain⟨q,u⟩:=ast R;have S:=(v.inj k k l l q M c' b hk hk u B (by rw[e1,Tn])).2
  subst S;rw[B]at u;obtain rfl:=asy u;have hR:=v.rows k l hk;have T := v.rows (k+1) l' o;have U:=(v.nodes (k+1) l' o nd (asw hi)).2;have V := (v.nodes (k+1) l' o Q y).2;obtain⟨b1,b2⟩:=V.bd s z;rw[←e2]at b1 b2;have H:=(U.bd I (asw J)).1;rw[←D]at H;have a1:cA b.low nd.low=false:=gO (gq H f);have a2:(nd.pg.la || cA b.low nd.pg.hi)=true:=by
   cases X:nd.pg.la with
   | true=>rfl
   | false=>
    rw[X,Bool.false_or]at C;rw[Bool.false_or];exact gq E C
  have e:p=p' := T.xR hi A a1 a2 b1 (by
   cases X:Q.pg.la with
   | true=>rfl
   | false=>rw[Bool.false_or];exact b2 X)
  subst e;rw[hi]at A;obtain rfl:=asy A;obtain⟨q,u⟩:=ast z;have hq1:=(jN U.jP (key:=key) u).1 (by rw[←e2];exact E)
  rw[D,e2]at f;rcases Nat.lt_trichotomy q (iN nd.pg.sl key-1)with h|h|h
  ·have:=kg U.jP u J h
   rw[gO this]at f;cases f
  ·rw[h,J]at u
   rw[asy u,cS]at f;cases f
  ·omega
theorem Oy.down {p:Nat}{A:Sl}(C:mA N t)(hk:t[k]?=some l)(f:t[k+1]?=some l')(hi:l'[p]?=some nd)(D:cA key nd.low=false)(v:(nd.pg.la || cA key nd.pg.hi)=true)
  (E:nd.pg.sl[iN nd.pg.sl key-1]?=some A) (o:0<iN nd.pg.sl key) (B:l[j]?=some c) (z:c.low=A.k) (q:lo<=k) (h:Oy t key lo (k+1) p x):∃y,x=y+1/\Oy t key lo k j y:=by
 have G:=(asu.1 hi).1;have H:=(asu.1 B).1;rcases h with⟨J,u,h⟩|⟨h,M⟩
 ·rw[f]at u
  obtain rfl:=asy u;have O:=nW hk;have I:=qM t q;exact⟨x-1,by omega,.inl ⟨l,hk,by omega⟩⟩
 ·have P:=aah (t:=t) (k:=k) (i:=j)
  have e:pN t lo (k+1)=pN t lo k+(1+bW t k):=by
   show pN t lo k+(if lo<=k then 1+bW t k else 0)=_
   rw[if_pos q]
  exact⟨x-1,by omega,.inr ⟨Vn C hk f hi D v E o B z,by omega⟩⟩
end
end
section
def zz (pg:Pg)(s:lM):Prop:=match s.pc with
 | 1=>True
 | 2=>s.pg=⟨pg.aA,[],⟨#[]⟩,false,0⟩/\s.left=pg.sl.length
 | 3=>s.pg=⟨pg.aA,[],pg.hi,pg.la,0⟩/\s.left=pg.sl.length
 | 4=>∃j,j<pg.sl.length/\s.pg=⟨pg.aA,pg.sl.take j,pg.hi,pg.la,pg.ri⟩/\s.left=pg.sl.length-j
 | 5=>s.pg=pg
 | _=>False
theorem zA {pg:Pg}{j:Nat}(h:pg.sl.length<=j):(⟨pg.aA,pg.sl.take j,pg.hi,pg.la,pg.ri⟩:Pg)=pg:=by
 rw[List.take_of_length_le h]
theorem zz.step {d:aU}{id:Int}{L:List aQ}{pg:Pg}{s:lM}(hp:eO d id L pg)(h:zz pg s)(o:s.pc<=4):zz pg (rdStep d id L s):=by
 have u:leftOf d (ah L (d.node id 1))=pg.sl.length:=by
  have:=hp.le;unfold leftOf;rw[hp.n,Int.min_eq_left this];omega
 obtain⟨pc,v,left,word,B⟩:=s;match pc,h,o with
 | 0,h,_=>exact h.elim
 | 1,_,_=>
  unfold rdStep;simp only[hp.aA,u];exact⟨rfl,rfl⟩
 | 2,h,_=>
  obtain⟨e,f⟩:=h;simp only at e f;subst e f;unfold rdStep Pg.high;simp only[hp.hi,hp.la];exact⟨rfl,rfl⟩
 | 3,h,_=>
  obtain⟨e,f⟩:=h;simp only at e f;subst e f;unfold rdStep Pg.right;simp only[hp.ri];by_cases h0:pg.sl.length=0
  ·rw[if_pos h0]
   show _=pg
   have:=zA (pg:=pg) (j:=0) (by omega)
   rw[List.take_zero]at this;exact this
  ·rw[if_neg h0]
   exact⟨0,by omega,rfl,rfl⟩
 | 4,h,_=>
  obtain⟨j,y,e,f⟩:=h;simp only at e f;subst e f;obtain⟨x,q⟩:∃x,pg.sl[j]?=some x:=⟨_,asx y⟩;obtain⟨z,e2⟩:=hp.sl _ _ q;have hlen:(pg.sl.take j).length=j:=by rw[List.length_take];omega
  have A:(pg.sl.take j)++[⟨x.k,x.r⟩]=pg.sl.take (j+1):=by rw[List.take_add_one,q];rfl
  unfold rdStep Pg.push;simp only[hlen,z,e2,A];by_cases h0:pg.sl.length-j-1=0
  ·rw[if_pos h0]
   exact zA (by omega)
  ·rw[if_neg h0]
   exact⟨j+1,by omega,rfl,by show pg.sl.length-j-1=pg.sl.length-(j+1);omega⟩
 | n+5,h,o=>exact absurd o (by simp)
def vA (pg:Pg)(s:lM):Prop:=match s.pc with
 | 1=>True
 | 2=>s.pg=⟨pg.aA,[],⟨#[]⟩,false,0⟩/\s.left=pg.sl.length
 | 3=>s.pg=⟨pg.aA,[],pg.hi,pg.la,0⟩/\s.left=pg.sl.length
 | 4=>∃j,j<pg.sl.length/\s.pg=⟨pg.aA,pg.sl.take j,pg.hi,pg.la,pg.ri⟩/\s.left=pg.sl.length-j
 | 6=>s.pg=pg
 | _=>False
def kV (d:aU)(s:lM):Nat:=match s.pc with
 | 1=>d.fa.toNat+3
 | 2=>s.left+2
 | 3=>s.left+1
 | 4=>s.left
 | _=>0
theorem vA.step {d:aU}{id:Int}{L:List aQ}{pg:Pg}{s:lM}(hp:eO d id L pg)(h:vA pg s)(o:s.pc≠6):vA pg (bV d id L s)/\(bV d id L s).word=s.word/\kV d (bV d id L s)<kV d s:=by
 have hle:=hp.le;have u:leftOf d (ah L (d.node id 1))=pg.sl.length:=by
  unfold leftOf;rw[hp.n,Int.min_eq_left hle];omega
 obtain⟨pc,v,left,word,B⟩:=s;match pc,h,o with
 | 0,h,_=>exact h.elim
 | 1,_,_=>
  unfold bV;simp only[hp.aA,u];exact⟨⟨rfl,rfl⟩,trivial,by simp only[kV];omega⟩
 | 2,h,_=>
  obtain⟨e,f⟩:=h;simp only at e f;subst e f;unfold bV Pg.high;simp only[hp.hi,hp.la];exact⟨⟨rfl,rfl⟩,trivial,by simp only[kV];omega⟩
 | 3,h,_=>
  obtain⟨e,f⟩:=h;simp only at e f;subst e f;unfold bV Pg.right;simp only[hp.ri];by_cases h0:pg.sl.length=0
  ·rw[if_pos h0]
   refine⟨?_,trivial,by simp only[kV];omega⟩
   show _=pg
   have:=zA (pg:=pg) (j:=0) (by omega)
   rw[List.take_zero]at this;exact this
  ·rw[if_neg h0]
   exact⟨⟨0,by omega,rfl,rfl⟩,trivial,by simp only[kV];omega⟩
 | 4,h,_=>
  obtain⟨j,y,e,f⟩:=h;simp only at e f;subst e f;obtain⟨x,q⟩:∃x,pg.sl[j]?=some x:=⟨_,asx y⟩;obtain⟨z,e2⟩:=hp.sl _ _ q;have hlen:(pg.sl.take j).length=j:=by rw[List.length_take];omega
  have A:(pg.sl.take j)++[⟨x.k,x.r⟩]=pg.sl.take (j+1):=by rw[List.take_add_one,q];rfl
  unfold bV Pg.push;simp only[hlen,z,e2,A];by_cases h0:pg.sl.length-j-1=0
  ·rw[if_pos h0]
   exact⟨zA (by omega),trivial,by simp only[kV];omega⟩
  ·rw[if_neg h0]
   exact⟨⟨j+1,by omega,rfl,by show pg.sl.length-j-1=pg.sl.length-(j+1);omega⟩,trivial,by simp only[kV];omega⟩
 | 5,h,_=>exact h.elim
 | 6,_,o=>exact absurd rfl o
 | n+7,h,_=>exact h.elim
structure kB (c c':Int)(pg kN:Pg):Prop where
 le:c / 4<=c' / 4
 same:c / 4=c' / 4->cg c'=false->cg c=false/\kN=pg
theorem kB.refl (c:Int)(pg:Pg):kB c c pg pg:=⟨Int.le_refl _,fun _ h=>⟨h,rfl⟩⟩
structure Yb (c:Int)(pg:Pg)(s:lM):Prop where
 pc:s.pc<=5
 ok:1<=s.pc->cg s.word=false/\s.word / 4<=c / 4/\(s.word / 4=c / 4->cg c=false->zz pg s)
theorem Yb.env {c c':Int}{pg e:Pg}{s:lM}(h:Yb c pg s)(f:kB c c' pg e):Yb c' e s:=by
 refine⟨h.pc,fun o=>?_⟩
 obtain⟨q,y,u⟩:=h.ok o;have:=f.le;refine⟨q,by omega,fun z e2=>?_⟩
 obtain⟨r1,v⟩:=f.same (by omega) e2
 rw[v];exact u (by omega) r1
theorem afx (c:Int)(pg:Pg):Yb c pg qo:=⟨by decide,fun h=>absurd h (by decide)⟩
theorem mC {v c:Int}(e:cg v=false)(h:aH v=aH c):v / 4=c / 4/\cg c=false:=by
 unfold aH at h;unfold cg at e ⊢;have f := of_decide_eq_false e;exact⟨by omega,decide_eq_false (by omega)⟩
theorem td {v c:Int}(e:cg v=false)(hc:cg c=false)(h:v / 4=c / 4):aH v=aH c:=by
 unfold aH;unfold cg at e hc;have f := of_decide_eq_false e;have o := of_decide_eq_false hc;omega
theorem Yb.step {d:aU}{id:Int}{L:List aQ}{pg:Pg}{s:lM}(hp:cg (ah L (d.node id 0)).n=false->eO d id L pg)(h:Yb (ah L (d.node id 0)).n pg s) :
  ((rdStep d id L s).pc<=5/\Yb (ah L (d.node id 0)).n pg (rdStep d id L s))\/((rdStep d id L s).pc=6/\cg (ah L (d.node id 0)).n=false/\(rdStep d id L s).pg=pg):=by
 have z:=h.pc;by_cases h0:s.pc=0
 ·obtain⟨pc,e,left,word,u⟩:=s
  simp only at h0;subst h0;refine .inl ?_
  unfold rdStep;simp only;cases hc:cg (ah L (d.node id 0)).n with
  | true=>exact⟨by simp,by simp,fun h=>absurd h (by simp)⟩
  | false=>exact⟨by simp,by simp,fun _=>⟨hc,Int.le_refl _,fun _ _=>trivial⟩⟩
 ·obtain⟨f,v,o⟩:=h.ok (by omega)
  by_cases q:s.pc<=4
  ·have hw:(rdStep d id L s).word=s.word/\1<=(rdStep d id L s).pc/\(rdStep d id L s).pc<=5:=by
    obtain⟨pc,e,left,word,u⟩:=s;simp only at h0 q;rcases(by omega:pc=1\/pc=2\/pc=3\/pc=4)with rfl|rfl|rfl|rfl
    ·exact⟨rfl,by show 1<=2;omega,by show 2<=5;omega⟩
    ·exact⟨rfl,by show 1<=3;omega,by show 3<=5;omega⟩
    ·refine⟨rfl,?_,?_⟩ <;> (simp only[rdStep];split <;> omega)
    ·refine⟨rfl,?_,?_⟩ <;> (simp only[rdStep];split <;> omega)
   refine .inl ⟨hw.2.2,hw.2.2,fun _=>?_⟩
   rw[hw.1];exact⟨f,v,fun A e2=>(o A e2).step (hp e2) q⟩
  ·obtain⟨pc,e,left,word,u⟩:=s
   simp only at h0 q z f v o;obtain rfl:pc=5:=by omega
   unfold rdStep;simp only;by_cases hu:aH word=aH (ah L (d.node id 0)).n
   ·rw[if_pos (by rw[hu];exact beq_self_eq_true _)]
    obtain⟨r1,y⟩:=mC f hu;exact .inr ⟨rfl,y,o r1 y⟩
   ·rw[if_neg (by simpa using hu)]
    exact .inl ⟨by simp,by simp,fun h=>absurd h (by simp)⟩
def fP (d:aU)(s:lM):Nat:=match s.pc with
 | 0=>d.fa.toNat+5
 | 1=>d.fa.toNat+4
 | 2=>s.left+3
 | 3=>s.left+2
 | 4=>s.left+1
 | 5=>1
 | _=>0
def vQ (d:aU)(c:Int)(s:lM):Nat:=fP d s+(if s.pc=0\/(s.word / 4=c / 4/\cg c=false)then 0 else d.fa.toNat+5)
theorem Oz {d:aU}(e:d.Ok){s:lM}(h:s.Ok d):fP d s<=d.fa.toNat+5:=by
 have f:=h.len;have f1:=e.fy;obtain⟨pc,o,left,word,q⟩:=s;simp only at f;unfold fP;match pc with
 | 0=>simp only;omega
 | 1=>simp only;omega
 | 2=>simp only;omega
 | 3=>simp only;omega
 | 4=>simp only;omega
 | 5=>simp only;omega
 | n+6=>simp only;omega
theorem Vo {d:aU}(q:d.Ok){id:Int}{L:List aQ}{pg:Pg}{s:lM}(v:bL L)(hok:s.Ok d)(h:Yb (ah L (d.node id 0)).n pg s)(hc:cg (ah L (d.node id 0)).n=false) :
  vQ d (ah L (d.node id 0)).n (rdStep d id L s)<vQ d (ah L (d.node id 0)).n s:=by
 have y:=h.pc;have hk:=h.ok;have f:=hok.left;have hl:=oh q (c:=ah L (d.node id 1)) (v _);have f1:=q.fy;obtain⟨pc,z,left,word,A⟩:=s;simp only at y hk f;rcases(by omega:pc=0\/pc=1\/pc=2\/pc=3\/pc=4\/pc=5)with rfl|rfl|rfl|rfl|rfl|rfl
 ·simp only[rdStep,hc,vQ,fP]
  simp
 ·simp only[rdStep,vQ,fP,hc,and_true]
  simp only[show ¬ (2=0)by omega,show ¬ (1=0)by omega,false_or]
  omega
 ·simp only[rdStep,vQ,fP,hc,and_true]
  simp only[show ¬ (2=0)by omega,show ¬ (3=0)by omega,false_or]
  omega
 ·simp only[rdStep,vQ,hc,and_true]
  by_cases h0:left=0
  ·simp only[if_pos h0,fP,show ¬ (5=0)by omega,show ¬ (3=0)by omega,false_or];omega
  ·simp only[if_neg h0,fP,show ¬ (4=0)by omega,show ¬ (3=0)by omega,false_or];omega
 ·have:=f rfl
  simp only[rdStep,vQ,hc,and_true];by_cases h0:left-1=0
  ·simp only[if_pos h0,fP,show ¬ (5=0)by omega,show ¬ (4=0)by omega,false_or];omega
  ·simp only[if_neg h0,fP,show ¬ (4=0)by omega,false_or];omega
 ·obtain⟨u,_,_⟩:=hk (by omega)
  simp only[rdStep];by_cases hu:aH word=aH (ah L (d.node id 0)).n
  ·rw[if_pos (by rw[hu];exact beq_self_eq_true _)]
   obtain⟨r1,_⟩:=mC u hu;simp only[vQ,fP,r1,hc,and_true];simp
  ·rw[if_neg (by simpa using hu)]
   have o:¬ (word / 4=(ah L (d.node id 0)).n / 4):=fun e=>hu (td u hc e)
   simp only[vQ,fP,hc,and_true,show ¬ (5=0)by omega,false_or,if_neg o]
   simp
theorem aaj {d:aU}(f:d.Ok){id:Int}{L:List aQ}{pg:Pg}{s:lM}(q:bL L)(hok:s.Ok d)(h:Yb (ah L (d.node id 0)).n pg s)(hc:cg (ah L (d.node id 0)).n=true) :
  vQ d (ah L (d.node id 0)).n (rdStep d id L s)<=vQ d (ah L (d.node id 0)).n s:=by
 have u:=h.pc;have hk:=h.ok;have e:=hok.left;have hl:=oh f (c:=ah L (d.node id 1)) (q _);have f1:=f.fy;obtain⟨pc,v,left,word,z⟩:=s;simp only at u hk e;rcases(by omega:pc=0\/pc=1\/pc=2\/pc=3\/pc=4\/pc=5)with rfl|rfl|rfl|rfl|rfl|rfl
 ·simp only[rdStep,hc,vQ,fP]
  simp
 ·simp only[rdStep,vQ,fP,hc,Bool.true_eq_false,and_false,or_false]
  simp only[show ¬ (2=0)by omega,show ¬ (1=0)by omega,if_false]
  omega
 ·simp only[rdStep,vQ,fP,hc,Bool.true_eq_false,and_false,or_false]
  simp only[show ¬ (2=0)by omega,show ¬ (3=0)by omega,if_false]
  omega
 ·simp only[rdStep,vQ,hc,Bool.true_eq_false,and_false,or_false]
  by_cases h0:left=0
  ·simp only[if_pos h0,fP,show ¬ (5=0)by omega,show ¬ (3=0)by omega,if_false];omega
  ·simp only[if_neg h0,fP,show ¬ (4=0)by omega,show ¬ (3=0)by omega,if_false];omega
 ·have:=e rfl
  simp only[rdStep,vQ,hc,Bool.true_eq_false,and_false,or_false];by_cases h0:left-1=0
  ·simp only[if_pos h0,fP,show ¬ (5=0)by omega,show ¬ (4=0)by omega,if_false];omega
  ·simp only[if_neg h0,fP,show ¬ (4=0)by omega,if_false];omega
 ·obtain⟨y,_,_⟩:=hk (by omega)
  simp only[rdStep];by_cases hu:aH word=aH (ah L (d.node id 0)).n
  ·obtain⟨_,o⟩:=mC y hu
   rw[hc]at o;cases o
  ·rw[if_neg (by simpa using hu)]
   simp only[vQ,fP,hc,Bool.true_eq_false,and_false,or_false,show ¬ (5=0)by omega,if_false]
   simp
structure Vp (d:aU)(L:List aQ)(nd:Nd):Prop where
 page:eO d nd.id L nd.pg
 hold:Holds L (bQ d nd.id nd.pg)
 k:(ah L (d.node nd.id 0)).k=⟨#[]⟩
 m:(ah L (d.node nd.id 0)).m=0
theorem Vp.frame {d:aU}{L L':List aQ}{nd:Nd}(e:d.Ok)(f:1<=nd.id)(o:nd.id<=d.no)(h:Vp d L nd)(he:∀j:Int,0<=j->j<d.fa+4->ah L' (d.node nd.id j)=ah L (d.node nd.id j)):Vp d L' nd:=by
 have f1:=e.fy;refine⟨h.page.frame f o f1 (fun k a b=>he k (by omega) b),h.hold.frame e f o h.page.le (fun k a b=>he k (by omega) b),?_,?_⟩
 ·rw[he 0 (by omega) (by omega)];exact h.k
 ·rw[he 0 (by omega) (by omega)];exact h.m
structure dP (d:aU)(L:List aQ)(t:List (List Nd)):Prop where
 sh:mA (ah L 4).n t
 n4:(ah L 4).n<=d.no
 root:∃nd rest,t[t.length-1]?=some (nd::rest)/\(ah L 0).n=nd.id
 node:∀(k:Nat) (l:List Nd),t[k]?=some l->∀nd,nd∈l->cg (ah L (d.node nd.id 0)).n=false->Vp d L nd
 wd:∀(k:Nat) (l:List Nd),t[k]?=some l->∀nd,nd∈l->(ah L (d.node nd.id 0)).n%2=0->(ah L (d.node nd.id 0)).n%4=0
theorem dP.page {d:aU}{L:List aQ}{t:List (List Nd)}(h:dP d L t)(k:Nat)(l:List Nd)(hk:t[k]?=some l)(nd:Nd)(e:nd∈l)(hc:cg (ah L (d.node nd.id 0)).n=false):eO d nd.id L nd.pg:=(h.node k l hk nd e hc).page
def Quiet (d:aU)(L:List aQ)(t:List (List Nd)):Prop:=∀(k:Nat) (l:List Nd),t[k]?=some l->∀nd,nd∈l->cg (ah L (d.node nd.id 0)).n=false
def vB (d:aU)(L:List aQ)(t:List (List Nd))(L':List aQ)(t':List (List Nd)):Prop:=
 ∀(k:Nat) (l:List Nd),t[k]?=some l->∀nd,nd∈l->∃l' jD,t'[k]?=some l' /\ jD∈l' /\ jD.id=nd.id/\jD.low=nd.low/\kB (ah L (d.node nd.id 0)).n (ah L' (d.node nd.id 0)).n nd.pg jD.pg
theorem vB.refl (d:aU)(L:List aQ)(t:List (List Nd)):vB d L t L t:=fun _ l hk nd e=>⟨l,nd,hk,e,rfl,rfl,kB.refl _ _⟩
def vC (d:aU)(L:List aQ)(t:List (List Nd))(key:ByteArray)(lo:Nat)(s:pR)(m:Nat):Prop:=
 (s.pc=0/\(∃l nd,t[lo]?=some l/\nd∈l)/\∃x,(oA t lo<=x\/Jl t lo<=x)/\x*bj d+1<=m) \/
 (s.pc=1/\∃(k i:Nat) (l:List Nd) (nd:Nd),t[k]?=some l/\l[i]?=some nd/\s.id=nd.id/\lo<=k/\s.rd.Ok d/\cA key nd.low=false/\Yb (ah L (d.node nd.id 0)).n nd.pg s.rd /\
  ∃x,Oy t key lo k i x/\x*bj d+vQ d (ah L (d.node nd.id 0)).n s.rd<=m) \/
 s.pc=2
def aaS (d:aU)(L:List aQ)(t:List (List Nd))(key:ByteArray)(level lo:Nat)(s:pR):Prop:=
 (s.id=0/\s.pg=Ko/\∃(k:Nat) (l:List Nd),lo<=k/\k<level/\t[k]?=some l)\/∃(l:List Nd) (nd:Nd),t[level]?=some l/\nd∈l/\s.id=nd.id/\s.pg=nd.pg/\cA key nd.low=false/\(nd.pg.la || cA key nd.pg.hi)=true/\cg (ah L (d.node nd.id 0)).n=false
section
variable {d:aU}{L:List aQ}{t:List (List Nd)}{key:ByteArray}{level lo:Nat}{s:pR}{m:Nat}
theorem vC.start (h:∃l nd,t[lo]?=some l/\nd∈l):vC d L t key lo Yv (oA t lo*bj d+1):= .inl ⟨rfl,h,_,.inl (Nat.le_refl _),Nat.le_refl _⟩
theorem vC.acR (h:∃l nd,t[lo]?=some l/\nd∈l):vC d L t key lo Yv (Jl t lo*bj d+1):= .inl ⟨rfl,h,_,.inr (Nat.le_refl _),Nat.le_refl _⟩
theorem acS (e:d.Ok){c:Int}{r:lM}(h:r.Ok d):vQ d c r<=2*bj d:=by
 have f:=Oz e h;unfold vQ bj;split <;> omega
theorem afy (c:Int):vQ d c qo=bj d:=rfl
theorem vC.env (z:d.Ok){L':List aQ}{t':List (List Nd)}(h:vC d L t key lo s m)(he:vB d L t L' t'):vC d L' t' key lo s (((t'.map List.length).sum+2)*bj d+1):=by
 rcases h with⟨h0,⟨l,nd,hl,A⟩,_⟩|⟨B,k,i,l,nd,hk,hi,hid,q,hok,C,u,_⟩|D
 ·obtain⟨l',o,v,e,_⟩:=he lo l hl nd A
  have:=Nat.mul_le_mul_right (bj d) (show oA t' lo<=(t'.map List.length).sum from Nat.sub_le _ _)
  exact .inl ⟨h0,⟨l',o,v,e⟩,_,.inl (Nat.le_refl _),by rw[Nat.add_mul];omega⟩
 ·obtain⟨l',o,f,e,y,e2,E⟩:=he k l hk nd (asw hi)
  obtain⟨j,G⟩:=ast e;refine .inr (.inl ⟨B,k,j,l',o,f,G,by rw[hid,y],q,hok,by rw[e2];exact C,by rw[y];exact u.env E,l'.length-j+(gz t' k-gz t' lo)-1,.inl ⟨l',f,by omega⟩,?_⟩)
  have H:=acS z (c:=(ah L' (d.node o.id 0)).n) hok;have I:=nW f;have hle:=Oo t' (k+1);have:=Nat.mul_le_mul_right (bj d) (show l'.length-j+(gz t' k-gz t' lo)-1<=(t'.map List.length).sum by omega)
  rw[Nat.add_mul];omega
 ·exact .inr (.inr D)
theorem vC.still (h:vC d L t key lo s m)(hQ:Quiet d L t)(e:s.pc=1):cg (ah L (d.node s.id 0)).n=false:=by
 rcases h with⟨h,_⟩|⟨_,k,i,l,nd,hk,hi,hid,_⟩|h
 ·omega
 ·rw[hid];exact hQ k l hk nd (asw hi)
 ·omega
theorem vC.go {N:Int}(h:mA N t){k i:Nat}{l:List Nd}{nd:Nd}(hk:t[k]?=some l)(hi:l[i]?=some nd)(o:cA key nd.low=false)(f:lo<=k){s0:pR}
  {x:Nat} (q:Oy t key lo k i x) (hm:(x+1)*bj d<=m):vC d L t key lo (iO s0 nd.id) m:=by
 have hid:=(h.nodes k l hk nd (asw hi)).1.1;have e:iO s0 nd.id=⟨1,nd.id,s0.pg,qo⟩:=by unfold iO;rw[if_neg (by omega)]
 rw[e];refine .inr (.inl ⟨rfl,k,i,l,nd,hk,hi,rfl,f,abH d,o,afx _ _,x,q,?_⟩);rw[afy];rw[Nat.add_mul,Nat.one_mul]at hm;exact hm
theorem vC.step (T:d.Ok)(hL:bL L)(U:dP d L t)(h:vC d L t key lo s m)(r7:s.pc≠2)(hlv:lo<=level) :
  (∃m',vC d L t key lo (bY d L key (level:Nat) s) m' /\ m' <= m/\((s.pc=1->cg (ah L (d.node s.id 0)).n=false)->m' + 1<=m))/\s.Ok d/\(s.pc=1->(rdStep d s.id L s.rd).pc=6->uy level (rdStep d s.id L s.rd).pg)/\((bY d L key (level:Nat) s).pc=2->aaS d L t key level lo (bY d L key (level:Nat) s)):=by
 have jw:=T.m6;have A:=U.sh;have rI:=U.n4;rcases h with⟨h0,⟨l0,nd0,hl0,_⟩,x,hx,hm⟩|⟨h1,k,i,l,nd,hk,hi,hid,C,hok,V,u,x,hX,hm⟩|h2
 ·obtain⟨pc,id,pg,rd⟩:=s
  simp only at h0;subst h0;obtain⟨nd,rest,X,v⟩:=U.root;have rH:=(A.rows _ _ X).first nd rfl
  have hid:=(A.nodes _ _ X nd List.mem_cons_self).1.1;have e:bY d L key level ⟨0,id,pg,rd⟩=⟨1,nd.id,pg,qo⟩:=by
   show iO _ (ah L 0).n=_
   rw[v];unfold iO;rw[if_neg (by omega)]
  refine⟨⟨m-1,?_,by omega,fun _=>by omega⟩,⟨(show(0:Nat)<=2 by omega),fun h=>absurd h (by simp)⟩,fun h=>absurd h (by simp),fun h=>?_⟩
  ·show vC d L t key lo (iO _ (ah L 0).n) _
   rw[v];have apw:=(asu.1 hl0).1;obtain⟨y,rfl,H⟩:=Oy.top (key:=key) X (by simp) (by omega) hx
   exact vC.go A X (i:=0) rfl (by rw[rH];exact jX _) (by omega) H (by omega)
  ·rw[e]at h
   simp at h
 ·obtain⟨pc,id,pg,rd⟩:=s
  simp only at h1 hid hok u hm;subst h1 hid;have f:=asw hi;obtain⟨hN1,B⟩:=A.nodes k l hk nd f;have hR:=A.rows k l hk;have hil:=(asu.1 hi).1;have akp:=u.pc;have hq:=Vo T hL hok u;have z:=u.step (U.page k l hk nd f);have akq:0<=nd.pg.ri:=by
   rcases Nat.lt_or_ge (i+1) l.length with o|hge
   ·obtain⟨b,G⟩:∃b,l[i+1]?=some b:=⟨_,asx o⟩
    rw[(hR.next i nd b hi G).2.2.1];have:=(A.nodes k l hk b (asw G)).1.1;omega
   ·rw[(hR.last i nd hi (by omega)).2.2];omega
  have D:(rdStep d nd.id L rd).pc=6->cg (ah L (d.node nd.id 0)).n=false/\(rdStep d nd.id L rd).pg=nd.pg:=fun Y=>by
   rcases z with⟨h5,_⟩|⟨_,q1,Z⟩
   ·omega
   ·exact⟨q1,Z⟩
  have I:(rdStep d nd.id L rd).pc=6->uy level (rdStep d nd.id L rd).pg:=fun Y=>by
   rw[(D Y).2];exact⟨akq,fun s hs=>by have:=B.rf s hs;omega,fun _=>B.jP⟩
  have J:(⟨1,nd.id,pg,rd⟩:pR).Ok d:=⟨by show 1<=2;omega,fun _=>⟨hN1.1,by show nd.id<_;omega,hok,akp⟩⟩
  rcases z with⟨h5,akr⟩|⟨Y,M,lN⟩
  ·have e:bY d L key level ⟨1,nd.id,pg,rd⟩=⟨1,nd.id,pg,rdStep d nd.id L rd⟩:=by
    show(if _ then _ else _)=_
    rw[if_neg (by show ¬ (rdStep d nd.id L rd).pc=6;omega)]
   rw[e];refine⟨⟨x*bj d+vQ d (ah L (d.node nd.id 0)).n (rdStep d nd.id L rd),.inr (.inl ⟨rfl,k,i,l,nd,hk,hi,rfl,C,xo T hL hok,V,akr,x,hX,Nat.le_refl _⟩),?_,fun hQ=>?_⟩,J,fun _=>I,fun h=>by simp at h⟩
   ·cases hc:cg (ah L (d.node nd.id 0)).n with
    | true=>have:=aaj T hL hok u hc;omega
    | false=>have:=hq hc;omega
   ·have:=hq (hQ rfl)
    omega
  ·have e:bY d L key level ⟨1,nd.id,pg,rd⟩=jB key level nd.id nd.pg:=by
    show(if _ then _ else _)=_
    rw[if_pos Y,lN]
   rw[e];have amr:=hR.aA nd f;have hq1:=hq M;have hmm:x*bj d+1<=m:=by omega
   refine⟨?_,J,fun _=>I,?_⟩
   ·refine⟨m-1,?_,by omega,fun _=>by omega⟩
    unfold jB;by_cases o:nd.pg.aA<level
    ·rw[if_pos o]
     exact .inr (.inr rfl)
    ·rw[if_neg o]
     cases q:(nd.pg.la || cA key nd.pg.hi)with
     | true=>
      rw[if_pos rfl];by_cases heq:nd.pg.aA=level
      ·rw[if_pos heq]
       exact .inr (.inr rfl)
      ·rw[if_neg heq]
       obtain⟨k',rfl⟩:∃k',k=k' + 1:=⟨k-1,by omega⟩
       obtain⟨l',E⟩:∃l',t[k']?=some l' := ⟨_,asx (by have:=(asu.1 hk).1;omega)⟩
       obtain⟨⟨s0,r,fB,hs0⟩,O⟩:=A.down k' l' l E hk nd f;have P:0<iN nd.pg.sl key:=(jN B.jP (i:=0) (s:=s0) (by rw[fB];rfl)).1 (by rw[hs0];exact V)
       have apA:=yz nd.pg.sl key;obtain⟨sv,Mw⟩:∃sv,nd.pg.sl[iN nd.pg.sl key-1]?=some sv:=⟨_,asx (by omega)⟩
       have hsk:=(jN B.jP (key:=key) Mw).2 (by omega)
       have hcr:lq key nd.pg.sl=sv.r:=by
        unfold lq j5;rw[if_neg (by omega),show((iN nd.pg.sl key:Int)-1).toNat=iN nd.pg.sl key-1 by omega,Mw]
       obtain⟨c,hc,acT,Q⟩:=O sv (asw Mw);obtain⟨j,hj⟩:=ast hc;rw[hcr,←acT];obtain⟨y,rfl,H⟩:=Oy.down A E hk hi V q Mw P hj Q (by omega) hX
       exact vC.go A E hj (by rw[Q];exact hsk) (by omega) H (by omega)
     | false=>
      rw[if_neg (by simp)]
      simp only[Bool.or_eq_false_iff]at q;have R:i+1<l.length:=by
       rcases Nat.lt_or_ge (i+1) l.length with h|h
       ·exact h
       ·have:=(hR.last i nd hi (by omega)).1
        rw[q.1]at this;cases this
      obtain⟨b,G⟩:∃b,l[i+1]?=some b:=⟨_,asx R⟩;obtain⟨_,Z,q3,_⟩:=hR.next i nd b hi G;rw[q3];obtain⟨y,rfl,H⟩:=Oy.right hk G (by rw[←Z];exact q.2) hX
      exact vC.go A hk G (by rw[←Z];exact q.2) C H (by omega)
   ·have S:∀(s0:pR) (id':Int),(iO s0 id').pc≠2:=fun s0 id' => by
     unfold iO;split <;> simp
    unfold jB;by_cases o:nd.pg.aA<level
    ·rw[if_pos o]
     exact fun _=> .inl ⟨rfl,rfl,k,l,C,by omega,hk⟩
    ·rw[if_neg o]
     cases q:(nd.pg.la || cA key nd.pg.hi)with
     | true=>
      rw[if_pos rfl];by_cases heq:nd.pg.aA=level
      ·rw[if_pos heq]
       obtain rfl:k=level:=by omega
       exact fun _=> .inr ⟨l,nd,hk,f,rfl,rfl,V,q,M⟩
      ·rw[if_neg heq]
       exact fun h=>absurd h (S _ _)
     | false=>
      rw[if_neg (by simp)]
      exact fun h=>absurd h (S _ _)
 ·exact absurd h2 r7
end
end
section
theorem rJ:∀(N:Nat)(l:List Int),l.Nodup->(∀x,x∈l->1<=x/\x<=N)->l.length<=N
 | 0,l,_,h=>by
  cases l with
  | nil=>exact Nat.le_refl _
  | cons x l=>have:=h x List.mem_cons_self;omega
 | N+1,l,o,h=>by
  by_cases hm:((N+1:Nat):Int)∈l
  ·have v:=List.length_erase_of_mem hm
   have y:=rJ N (l.erase ((N+1:Nat):Int)) (o.erase _) (fun x f=>by
    obtain⟨z,q⟩:=(List.Nodup.mem_erase_iff o).1 f;have:=h x q;omega)
   omega
  ·have:=rJ N l o (fun x f=>by
    have:=h x f;have u:x≠((N+1:Nat):Int):=fun e=>hm (e ▸ f)
    omega)
   omega
theorem Eg (t:List (List Nd)):(t.map List.length).sum=t.flatten.length:=by rw[List.length_flatten]
theorem Eh {N:Int}{t:List (List Nd)}(H:0<=N)(A:∀(k:Nat)(l:List Nd),t[k]?=some l->∀nd,nd∈l->1<=nd.id/\nd.id<=N)
  (z:∀(k k':Nat) (l l':List Nd) (i f:Nat) (a b:Nd),t[k]?=some l->t[k']?=some l' -> l[i]?=some a->l'[f]?=some b->a.id=b.id->k=k' /\ i=f):((t.map List.length).sum:Int)<=N:=by
 have o:(t.flatten.map (·.id)).Nodup:=by
  rw[List.nodup_iff_pairwise_ne,List.pairwise_map,List.pairwise_flatten];refine⟨fun l hl=>?_,?_⟩
  ·obtain⟨k,hk⟩:=ast hl
   rw[List.pairwise_iff_getElem];intro i j hi B C e;have:=(z k k l l i j _ _ hk hk (asx hi) (asx B) e).2;omega
  ·rw[List.pairwise_iff_getElem]
   intro k k' hk q D x u y E e;obtain⟨i,hi⟩:=ast u;obtain⟨f,v⟩:=ast E;have:=(z k k' _ _ i f _ _ (asx hk) (asx q) hi v e).1;omega
 have h:=rJ N.toNat _ o (fun x u=>by
  obtain⟨nd,hm,rfl⟩:=List.mem_map.1 u;obtain⟨l,hl,G⟩:=List.mem_flatten.1 hm;obtain⟨k,hk⟩:=ast hl;have:=A k l hk nd G;omega)
 rw[List.length_map]at h;rw[Eg];omega
theorem mA.mono {N e:Int}{t:List (List Nd)}(h:mA N t)(u:N<=e):mA e t:=
 ⟨h.ne,h.rows,fun k l hk nd f=>by
  obtain⟨⟨o,v⟩,q⟩:=h.nodes k l hk nd f;exact⟨⟨o,by omega⟩,q⟩,h.down,h.inj,by have:=h.count;omega⟩
theorem mA.acU {N:Int}{t:List (List Nd)}{k i:Nat}{l:List Nd}{nd a b:Nd}(h:mA N t)(hl:t[k]?=some l)(hi:l[i]?=some nd)(X:1<=b.id)(Y:b.id<=N)(A:∀(k':Nat)(l':List Nd),t[k']?=some l' -> ∀c,c∈l' -> c.id≠b.id)(yo:a.low=nd.low)(I:a.id=nd.id)(Z:a.pg.aA=k)(ha2:a.pg.la=false)(ha3:a.pg.hi=b.low)(ha4:a.pg.ri=b.id)
  (hb1:b.pg.aA=k) (hb2:b.pg.la=nd.pg.la) (hb3:b.pg.hi=nd.pg.hi) (hb4:b.pg.ri=nd.pg.ri) (h1:cA nd.low b.low=true) (R:nd.pg.la=false->cA b.low nd.pg.hi=true) (hna:Jg a) (hnb:Jg b)
  (hdn:∀(m:Nat) (l0:List Nd),k=m+1->t[m]?=some l0->ku l0 a/\ku l0 b):mA N (t.set k (pM l i a b)):=by
 have hm:=asw hi;have hlen:=(asu.1 hi).1;have ox:=(asu.1 hl).1;have B:=h.ne;have C:∀(k':Nat) (l':List Nd) (j:Nat) (z:Nd),(t.set k (pM l i a b))[k']?=some l' -> l'[j]?=some z ->
   (k'=k/\j=i+1/\z=b)\/((k' ≠ k\/j≠i+1)/\z.id≠b.id/\∃(l0:List Nd) (S:Nd),t[k']?=some l0/\l0[if k'=k/\i+1<j then j-1 else j]?=some S/\S.id=z.id):=by
  intro k' l' j z f o;rcases eJ f with⟨rfl,rfl⟩|⟨B,u⟩
  ·rw[fO hlen]at o
   by_cases c1:j<i
   ·rw[if_pos c1]at o
    rw[if_neg (by omega)]
    exact .inr ⟨.inr (by omega),A _ _ hl z (asw o),l,z,hl,o,rfl⟩
   ·rw[if_neg c1]at o
    by_cases c2:j=i
    ·rw[if_pos c2]at o
     obtain rfl:=asy o;rw[if_neg (by omega),c2]
     exact .inr ⟨.inr (by omega),by rw[I];exact A _ _ hl nd hm,l,nd,hl,hi,I.symm⟩
    ·rw[if_neg c2]at o
     by_cases T:j=i+1
     ·rw[if_pos T]at o
      exact .inl ⟨rfl,T,(asy o).symm⟩
     ·rw[if_neg T]at o
      rw[if_pos (by omega)]
      exact .inr ⟨.inr T,A _ _ hl z (asw o),l,z,hl,o,rfl⟩
  ·rw[if_neg (fun h=>B h.1)]
   exact .inr ⟨.inl B,A _ _ u z (asw o),l',z,u,o,rfl⟩
 have Ei:∀(k1 k2:Nat) (l1 J:List Nd) (i1 i2:Nat) (x y:Nd),(t.set k (pM l i a b))[k1]?=some l1->(t.set k (pM l i a b))[k2]?=some J->l1[i1]?=some x->J[i2]?=some y->x.id=y.id->k1=k2/\i1=i2:=by
  intro k1 k2 l1 J i1 i2 x y h1 R v M e;rcases C k1 l1 i1 x h1 v with⟨p1,p2,p3⟩|⟨p1,p2,l0,S,p3,p4,p5⟩
  ·rcases C k2 J i2 y R M with⟨O,D,U⟩|⟨O,D,_⟩
   ·omega
   ·rw[←e,p3]at D;exact absurd rfl D
  ·rcases C k2 J i2 y R M with⟨O,D,U⟩|⟨O,D,l0',z0',U,q4,q5⟩
   ·rw[e,U]at p2;exact absurd rfl p2
   ·have:=h.inj k1 k2 l0 l0' _ _ S z0' p3 U p4 q4 (by rw[p5,q5];exact e)
    obtain⟨P,e2⟩:=this;refine⟨P,?_⟩;subst P;split at e2 <;> split at e2 <;> omega
 have q:∀(k':Nat) (l':List Nd),(t.set k (pM l i a b))[k']?=some l' -> ∀x,x∈l' -> (1<=x.id/\x.id<=N)/\Jg x:=by
  intro k' l' f x v;rcases eJ f with⟨rfl,rfl⟩|⟨_,u⟩
  ·rcases zw v with rfl|rfl|v
   ·have:=(h.nodes _ l hl nd hm).1
    rw[I];exact⟨this,hna⟩
   ·exact⟨⟨X,Y⟩,hnb⟩
   ·exact h.nodes _ l hl x v
  ·exact h.nodes k' l' u x v
 have hN0:0<=N:=by have:=(h.nodes k l hl nd hm).1;omega
 refine⟨by rw[List.length_set];exact h.ne,fun k' l' f =>?_,q,fun k' x y v M c hc=>?_,Ei,Eh hN0 (fun k' l' f x v=>(q k' l' f x v).1) Ei⟩
 ·rcases eJ f with⟨rfl,rfl⟩|⟨_,u⟩
  ·exact(h.rows _ l hl).split hi yo I Z ha2 ha3 ha4 hb1 hb2 hb3 hb4 h1 R
  ·exact h.rows k' l' u
 ·have E:∀c,c∈l->∃c',c' ∈ pM l i a b/\c'.id=c.id/\c'.low=c.low:=fun c hc=>by
   obtain⟨j,V⟩:=ast hc;rcases Nat.lt_trichotomy j i with Q|rfl|Q
   ·exact⟨c,asw (i:=j) (by rw[fO hlen,if_pos Q];exact V),rfl,rfl⟩
   ·rw[hi]at V
    obtain rfl:=asy V;exact⟨a,asw (i:=j) (by rw[fO hlen,if_neg (by omega),if_pos rfl]),I,yo⟩
   ·exact⟨c,asw (i:=j+1) (by rw[fO hlen,if_neg (by omega),if_neg (by omega),if_neg (by omega)];exact V),rfl,rfl⟩
  rcases eJ v with⟨P,rfl⟩|⟨P,G⟩
  ·rcases eJ M with⟨e2,_⟩|⟨_,H⟩
   ·omega
   ·subst P
    obtain⟨O,D⟩:=h.down k' l y hl H c hc;refine⟨O,fun s hs=>?_⟩
    obtain⟨c0,hc0,e3,e4⟩:=D s hs;obtain⟨c',hc',e5,e6⟩:=E c0 hc0;exact⟨c',hc',e5.trans e3,e6.trans e4⟩
  ·rcases eJ M with⟨e2,rfl⟩|⟨_,H⟩
   ·subst e2
    obtain⟨d1,d2⟩:=hdn k' x rfl G;rcases zw hc with rfl|rfl|hc
    ·exact d1
    ·exact d2
    ·exact h.down k' x l G hl c hc
   ·exact h.down k' x y G H c hc
end
section
def pO (d:aU)(L:List aQ)(fr:cC):Prop:=Holds L (bQ d fr.id fr.pg)/\ah L (d.node fr.id 0)=⟨fr.word,⟨#[]⟩,0⟩
def Ej (d:aU)(L:List aQ)(id:Int)(q:Pg):Prop:=Holds L (bQ d id q)/\ah L (d.node id 0)=⟨aT 0,⟨#[]⟩,0⟩
structure kF (d:aU)(fr:cC)(fu:Pg):Prop where
 hok:fr.Ok d
 lk:fr.word%4=1
 ver:fr.word+4<18446744073709551616
 Vq:lB d fr fu
structure Vr (d:aU)(L:List aQ)(fr:cC)(id:Int):Prop where
 lo:1<=id
 hi:id<=d.no
 us:id<=(ah L 4).n
 ne:id≠fr.id
def jd (d:aU)(L:List aQ)(fr:cC)(fu:Pg)(s:gh):Prop:=match s.pc with
 | 0=>s.sp=false/\s.full=false/\d.fa<(fu.sl.length:Int)/\((s.tk.pc=0/\s.tk.ok=false)\/(s.tk.pc=1/\s.tk.ok=false/\0<=s.tk.seen/\s.tk.seen<d.no))/\pO d L fr
 | 1=>s.sp=false/\s.full=false/\2<=fu.sl.length/\Vr d L fr s.id/\s.ps=⟨d.node s.id 0,⟨aT 0,⟨#[]⟩,0⟩⟩::bQ d s.id (cZ fu)/\s.k<s.ps.length/\pO d L fr/\∀q,q∈s.ps.take s.k->ah L q.i=q.c
 | 2=>s.full=false/\(s.sp=false->(fu.sl.length:Int)<=d.fa)/\nI d fr (s.pg fu) s.ps/\s.k<s.ps.length/\(s.sp=true->2<=fu.sl.length/\Vr d L fr s.id/\Ej d L s.id (cZ fu)) /\
   ∃L0:List aQ,(L0.length:Int)=d.cells/\pO d L0 fr/\∀j:Int,0<=j->j<d.fa+4->ah L (d.node fr.id j)=ah (fN L0 (s.ps.take s.k)) (d.node fr.id j)
 | _=>s.pc=3/\((s.full=true/\s.sp=false/\pO d L fr)\/(s.full=false/\(s.sp=false->(fu.sl.length:Int)<=d.fa)/\(s.sp=true->2<=fu.sl.length/\Vr d L fr s.id/\Ej d L s.id (cZ fu))/\Holds L (bQ d fr.id (s.pg fu))/\ah L (d.node fr.id 0)=⟨dW (bH fr.word),⟨#[]⟩,0⟩))
section
variable {d:aU}{L L':List aQ}{fr:cC}{fu:Pg}{s s':gh}
theorem pO.frame (f:d.Ok)(e:fr.Ok d)(h:pO d L fr)(he:∀j:Int,0<=j->j<d.fa+4->ah L' (d.node fr.id j)=ah L (d.node fr.id j)):pO d L' fr:=
 ⟨h.1.frame f e.id.1 e.id.2 e.pg.le (fun k a b=>he k (by omega) b),by rw[he 0 (by omega) (by have:=f.fy;omega)];exact h.2⟩
theorem Ej.frame (e:d.Ok){id:Int}{q:Pg}(f:1<=id)(o:id<=d.no)(u:(q.sl.length:Int)<=d.fa)(h:Ej d L id q)(he:∀j:Int,0<=j->j<d.fa+4->ah L' (d.node id j)=ah L (d.node id j)):Ej d L' id q:=
 ⟨h.1.frame e f o u (fun k a b=>he k (by omega) b),by rw[he 0 (by omega) (by have:=e.fy;omega)];exact h.2⟩
theorem qO (f:d.Ok)(K:kF d fr fu)(h:s.sp=false->(fu.sl.length:Int)<=d.fa):((s.pg fu).sl.length:Int)<=d.fa:=by
 have o:=f.fy;have q:=K.Vq.len;unfold gh.pg;cases e:s.sp with
 | false=>exact h e
 | true=>
  show((fu.sl.take (gm fu.sl.length)).length:Int)<=d.fa
  rw[List.length_take];unfold gm;omega
theorem xS (f:d.Ok)(K:kF d fr fu){id:Int}(o:1<=id)(u:id<=d.no):(∀q,q∈((⟨d.node id 0,⟨aT 0,⟨#[]⟩,0⟩⟩:Pt)::bQ d id (cZ fu))->∃k:Int,0<=k/\k<d.fa+4/\q.i=d.node id k)/\(((⟨d.node id 0,⟨aT 0,⟨#[]⟩,0⟩⟩:Pt)::bQ d id (cZ fu)).map (·.i)).Nodup:=by
 have f1:=f.fy;have hle:=(K.Vq.right f).le;constructor
 ·intro q h
  rcases List.mem_cons.1 h with rfl|h
  ·exact⟨0,by omega,by omega,rfl⟩
  ·obtain⟨k,k1,k2,e⟩:=fZ f o u hle q h
   exact⟨k,by omega,k2,e⟩
 ·rw[List.map_cons,List.nodup_cons]
  refine⟨fun hm=>?_,nH f o u hle⟩
  obtain⟨q,h,e⟩:=List.mem_map.1 hm;obtain⟨k,k1,k2,e2⟩:=fZ f o u hle q h;exact dH f o u (by omega) k2 (by omega) (by omega) (by omega) (e2.symm.trans e)
theorem jd.ok (h:jd d L fr fu s)(o:s.pc<=2):s.Ok d fu:=by
 obtain⟨pc,tk,k,ps,sp,id,full⟩:=s;simp only at o;rcases(by omega:pc=0\/pc=1\/pc=2)with rfl|rfl|rfl
 ·obtain⟨a,b,c,e,_⟩:=h
  exact⟨by simp,fun _=>⟨c,a,b,e⟩,fun h=>(by simp at h),fun h=>(by simp at h)⟩
 ·obtain⟨a,b,c,e,_,f,_⟩:=h
  exact⟨by simp,fun h=>(by simp at h),fun _=>⟨f,by have:=e.lo;simp only at this ⊢;omega,e.hi,b⟩,fun h=>(by simp at h)⟩
 ·obtain⟨a,b,c,e,f,_⟩:=h
  refine⟨by simp,fun h=>(by simp at h),fun h=>(by simp at h),fun _=>⟨e,a,?_⟩⟩
  cases sp with
  | false=>exact .inr (b rfl)
  | true=>exact .inl rfl
theorem fV (u:d.Ok)(K:kF d fr fu)(h:jd d L fr fu s){j:Int}(y:s.pc=0->j≠4)(z:s.pc=2->∀k:Int,0<=k->k<d.fa+4->j≠d.node fr.id k)(A:s.pc=1->∀k:Int,0<=k->k<d.fa+4->j≠d.node s.id k):ah (bS d L s) j=ah L j:=by
 obtain⟨pc,tk,k,ps,sp,id,full⟩:=s;match pc,h with
 | 0,h=>
  obtain⟨B,seen,ok⟩:=tk;show ah (aG 4 d.no L ⟨B,seen,ok⟩).2 j=_
  unfold aG;split
  ·rfl
  ·simp only
   split
   ·exact bu (y rfl)
   ·rfl
  ·rfl
 | 1,h=>
  obtain⟨_,_,_,hid,f,hk,_⟩:=h;simp only at f hk hid;show ah (match ps[k]? with|some o=>aR L o.i o.c|none=>L) j=_
  rw[asx hk];obtain⟨q,a,b,e⟩:=(xS u K hid.lo hid.hi).1 ps[k] (by rw[←f];exact List.getElem_mem hk)
  show ah (aR L ps[k].i ps[k].c) j=_
  exact bu (by rw[e];exact A rfl q a b)
 | 2,h=>
  obtain⟨_,v,hw,hk,_⟩:=h;replace hk:k<ps.length:=hk;show ah (match ps[k]? with|some o=>aR L o.i o.c|none=>L) j=_
  rw[asx hk];obtain⟨q,a,b,e⟩:=hw.addr u K.hok.id.1 K.hok.id.2 (qO u K v) ps[k] (List.getElem_mem hk);show ah (aR L ps[k].i ps[k].c) j=_
  exact bu (by rw[e];exact z rfl q a b)
 | n+3,h=>rfl
theorem xT:(bS d L s).length=L.length:=by
 obtain⟨pc,tk,k,ps,sp,id,full⟩:=s;match pc with
 | 0=>
  show(aG 4 d.no L tk).2.length=_
  unfold aG;split
  ·rfl
  ·split
   ·exact(bg L 4 _:(aR L 4 _).length=L.length)
   ·rfl
  ·rfl
 | 1=>
  show(match ps[k]? with|some e=>aR L e.i e.c|none=>L).length=_
  split
  ·exact bg _ _ _
  ·rfl
 | 2=>
  show(match ps[k]? with|some e=>aR L e.i e.c|none=>L).length=_
  split
  ·exact bg _ _ _
  ·rfl
 | n+3=>rfl
theorem oB (o:d.Ok)(hlen:(L.length:Int)=d.cells)(K:kF d fr fu)(h4:fr.id<=(ah L 4).n)(X:0<=(ah L 4).n)(h:jd d L fr fu s)(h2:s.pc<=2)(H:ig d fr fu L s s'):jd d (bS d L s) fr fu s' := by
 have f1:=o.fy;have hid:=K.hok.id;have hcl:=gu o;have R:=fun(j:Int)=>fV (j:=j) o K h
 obtain⟨pc,tk,k,ps,sp,id,full⟩:=s;simp only at h2;rcases(by omega:pc=0\/pc=1\/pc=2)with rfl|rfl|rfl
 ·have hold:pO d (bS d L ⟨0,tk,k,ps,sp,id,full⟩) fr:=h.2.2.2.2.frame o K.hok (fun j a b=>R _ (fun _=>(gR o hid.1 hid.2 j a b).symm) (fun e=>by cases e) (fun e=>by cases e))
  obtain⟨I,C,A,f,_⟩:=h;simp only at I C A f;subst I C;obtain⟨tp,seen,ok⟩:=tk;simp only at f;rcases f with⟨rfl,rfl⟩|⟨rfl,rfl,b1,b2⟩
  ·have J:aG 4 d.no L ⟨0,seen,false⟩=(⟨if d.no<=(ah L 4).n then 2 else 1,(ah L 4).n,false⟩,L):=rfl
   simp only[ig,J]at H;rcases H with⟨u,rfl⟩|⟨u,_,rfl⟩|⟨_,c2,_⟩
   ·have Y:¬ d.no<=(ah L 4).n:=fun hc=>by rw[if_pos hc]at u;omega
    refine⟨rfl,rfl,A,.inr ⟨by show(if _ then 2 else 1)=1;rw[if_neg Y],rfl,X,by show(ah L 4).n<d.no;omega⟩,hold⟩
   ·exact⟨rfl,.inl ⟨rfl,rfl,hold⟩⟩
   ·cases c2
  ·by_cases B:bU L 4 seen=true
   ·have J:aG 4 d.no L ⟨1,seen,false⟩=(⟨2,seen,true⟩,aR L 4 ⟨seen+1,⟨#[]⟩,0⟩):=by
     show(if bU L 4 seen then _ else _)=_
     rw[if_pos B]
    have Z:(ah L 4).n=seen:=by
     unfold bU at B;simp only[Bool.and_eq_true,decide_eq_true_eq]at B;exact B.2
    simp only[ig,J]at H;rcases H with⟨u,_⟩|⟨_,u,_⟩|⟨_,_,rfl⟩
    ·omega
    ·cases u
    ·refine⟨rfl,rfl,by have:=f1;omega,⟨by show 1<=seen+1;omega,by show seen+1<=d.no;omega,?_,by show seen+1≠fr.id;omega⟩,rfl,by simp,hold,fun q S=>by simp at S⟩
     show seen+1<=(ah (aG 4 d.no L ⟨1,seen,false⟩).2 4).n
     rw[J];show seen+1<=(ah (aR L 4 ⟨seen+1,⟨#[]⟩,0⟩) 4).n
     rw[cD (by omega) (by omega)]
     exact Int.le_refl _
   ·have J:aG 4 d.no L ⟨1,seen,false⟩=(⟨0,seen,false⟩,L):=by
     show(if bU L 4 seen then _ else _)=_
     rw[if_neg B]
    simp only[ig,J]at H;rcases H with⟨_,rfl⟩|⟨u,_⟩|⟨u,_⟩
    ·exact⟨rfl,rfl,A,.inl ⟨rfl,rfl⟩,hold⟩
    ·omega
    ·omega
 ·obtain⟨I,C,A,f,M,T,a7,a8⟩:=h
  simp only at I C A f M T a8;subst I C;have hap:∀j V:Int,0<=j->j<d.fa+4->0<=V -> V < d.fa+4->d.node fr.id j≠d.node id V := fun j V x y x' y' => cO o hid.1 hid.2 f.lo f.hi x y x' y' f.ne.symm
  have hold:pO d (bS d L ⟨1,tk,k,ps,false,id,false⟩) fr:=a7.frame o K.hok (fun j a b=>R _ (fun e=>by cases e) (fun e=>by cases e) (fun _ q x y=>hap j q a b x y))
  have O:ah (bS d L ⟨1,tk,k,ps,false,id,false⟩) 4=ah L 4:=R 4 (fun e=>by cases e) (fun e=>by cases e) (fun _ q x y=>gR o f.lo f.hi q x y)
  obtain⟨n1,n2⟩:=xS o K f.lo f.hi;rw[←M]at n1 n2;have P:bS d L ⟨1,tk,k,ps,false,id,false⟩=aR L ps[k].i ps[k].c:=by
   show(match ps[k]? with|some U=>aR L U.i U.c|none=>L)=_
   rw[asx T]
  have D:∀q,q∈ps.take (k+1)->ah (bS d L ⟨1,tk,k,ps,false,id,false⟩) q.i=q.c:=by
   intro q S;rw[P];obtain⟨i0,Q⟩:=ast S;rw[List.getElem?_take]at Q;split at Q
   ·rename_i hik
    obtain⟨c,ca,cb,ce⟩:=n1 ps[k] (List.getElem_mem T);have E:=bZ o f.lo f.hi ca cb;by_cases e:i0=k
    ·subst e
     rw[asx T]at Q;obtain rfl:=asy Q;exact cD (by rw[ce];exact E.2.1) (by rw[ce];omega)
    ·have hne:q.i≠ps[k].i:=by
      rw[List.nodup_iff_pairwise_ne,List.pairwise_map,List.pairwise_iff_getElem]at n2;have Sh:=(asu.1 Q);have:=n2 i0 k Sh.1 T (by omega)
      rw[Sh.2]at this;exact this
     rw[bu hne];exact a8 q (asw (i:=i0) (by rw[List.getElem?_take,if_pos (by omega)];exact Q))
   ·cases Q
  have hIn:Vr d (bS d L ⟨1,tk,k,ps,false,id,false⟩) fr id:=⟨f.lo,f.hi,by rw[O];exact f.us,f.ne⟩
  rcases H with⟨u,rfl⟩|⟨u,ps',hw,rfl⟩
  ·simp only at u
   exact⟨rfl,rfl,A,hIn,M,by show k+1<ps.length;omega,hold,D⟩
  ·simp only at u hw
   rw[u,List.take_length]at D;have v:Ej d (bS d L ⟨1,tk,k,ps,false,id,false⟩) id (cZ fu):=⟨fun q S=>D q (by rw[M];exact List.mem_cons_of_mem _ S),D ⟨d.node id 0,⟨aT 0,⟨#[]⟩,0⟩⟩ (by rw[M];exact List.mem_cons_self)⟩
   have hwl:=hw.len;refine⟨rfl,fun e=>(by cases e),hw,by show 0<ps'.length;omega,fun _=>⟨A,hIn,v⟩,_,?_,hold,fun j _ _=>rfl⟩
   rw[xT];exact hlen
 ·obtain⟨I,C,A,f,M,L0,b1,b2,b3⟩:=h
  simp only at I C A f M b3;subst I;have hle:=qO (s:=⟨2,tk,k,ps,sp,id,false⟩) o K C;have hwa:=A.addr o hid.1 hid.2 hle;have O:ah (bS d L ⟨2,tk,k,ps,sp,id,false⟩) 4=ah L 4:=R 4 (fun e=>by cases e) (fun _ q x y=>gR o hid.1 hid.2 q x y) (fun e=>by cases e)
  have P:bS d L ⟨2,tk,k,ps,sp,id,false⟩=aR L ps[k].i ps[k].c:=by
   show(match ps[k]? with|some U=>aR L U.i U.c|none=>L)=_
   rw[asx f]
  have z:∀j:Int,0<=j->j<d.fa+4->ah (bS d L ⟨2,tk,k,ps,sp,id,false⟩) (d.node fr.id j)=ah (fN L0 (ps.take (k+1))) (d.node fr.id j):=by
   intro j x y;rw[P,Cx (asx f)];obtain⟨c,ca,cb,ce⟩:=hwa ps[k] (List.getElem_mem f);have E:=bZ o hid.1 hid.2 ca cb;by_cases e:d.node fr.id j=ps[k].i
   ·rw[e,cD (by rw[ce];exact E.2.1) (by rw[ce];omega),cD (by rw[ce];exact E.2.1) (by rw[ce,kQ];omega)]
   ·rw[bu e,bu e]
    exact b3 j x y
  have v:sp=true->2<=fu.sl.length/\Vr d (bS d L ⟨2,tk,k,ps,sp,id,false⟩) fr id/\Ej d (bS d L ⟨2,tk,k,ps,sp,id,false⟩) id (cZ fu):=fun e=>by
   obtain⟨x1,G,x3⟩:=M e;refine⟨x1,⟨G.lo,G.hi,by rw[O];exact G.us,G.ne⟩,x3.frame o G.lo G.hi (K.Vq.right o).le (fun j x y=>R _ (fun e=>by cases e) (fun _ q p r=>cO o G.lo G.hi hid.1 hid.2 x y p r G.ne) (fun e=>by cases e))⟩
  rcases H with⟨u,rfl⟩|⟨u,rfl⟩
  ·simp only at u
   exact⟨rfl,C,A,by show k+1<ps.length;omega,v,L0,b1,b2,z⟩
  ·simp only at u
   rw[u,List.take_length]at z;obtain⟨J,_,_⟩:=aco o A hid.1 hid.2 hle b1 b2.1;refine⟨rfl,.inr ⟨rfl,C,v,?_,?_⟩⟩
   ·exact J.frame o hid.1 hid.2 hle (fun j x y=>z j (by omega) y)
   ·rw[z 0 (by omega) (by omega)]
    obtain⟨mid,hm,rfl⟩:=A;exact uO o hid.1 hid.2 b1
end
theorem cT.m {d:aU}{L:List aQ}{t:List (List Nd)}(e:cT d L t):dP d L t:=
 ⟨e.shp,e.n4,e.top,fun k l hk nd f _=>by
  have h:=e.nodes k l hk nd f;exact⟨h.page,h.hold,h.free.k,h.free.m⟩,fun k l hk nd f _=>(e.nodes k l hk nd f).free.n⟩
theorem dP.ok {d:aU}{L:List aQ}{t:List (List Nd)}(e:dP d L t)(o:∀(k:Nat)(l:List Nd),t[k]?=some l->∀nd,nd∈l->(ah L (d.node nd.id 0)).n%4=0):cT d L t:=by
 refine cT.of e.sh e.n4 e.root (fun k l hk nd f=>?_)
 have h0:=o k l hk nd f;have h:=e.node k l hk nd f (by unfold cg;exact decide_eq_false (by omega))
 exact⟨h.page,h.hold,h0,h.k,h.m⟩
structure FuT (t:List (List Nd))(k:Nat)(nd:Nd)(fu:Pg):Prop where
 aA:fu.aA=nd.pg.aA
 hi:fu.hi=nd.pg.hi
 la:fu.la=nd.pg.la
 ri:fu.ri=nd.pg.ri
 nds:Jg { nd with pg:=fu }
 down:∀(m:Nat) (l0:List Nd),k=m+1->t[m]?=some l0->ku l0 { nd with pg:=fu }
structure oW (t:List (List Nd))(k i:Nat)(l:List Nd)(nd:Nd)(fr:cC)(fu:Pg):Prop where
 hk:t[k]?=some l
 hi:l[i]?=some nd
 id:nd.id=fr.id
 pg:nd.pg=fr.pg
 fu:FuT t k nd fu
def wO (t:List (List Nd))(id:Int):Prop:=∀(k:Nat) (l:List Nd),t[k]?=some l->∀c,c∈l->c.id≠id
def qP (t:List (List Nd))(s:gh):Prop:=(s.pc=1\/(s.pc=2/\s.sp=true))->wO t s.id
theorem nX {x:Int}(h:x%4=1):bH x=x+2/\cg (bH x)=true/\cg x=false:=by
 have e:bH x=x+2:=by unfold bH;rw[if_pos (by omega)]
 rw[e];exact⟨rfl,by unfold cg;exact decide_eq_true (by omega),by unfold cg;exact decide_eq_false (by omega)⟩
theorem zB {x:Int}(h:x%4=1)(h0:0<=x)(e:x+4<18446744073709551616):dW (bH x)=x+4:=by
 rw[(nX h).1];unfold dW qd;rw[if_neg (by omega),IntKind.wrap_u64]
 omega
section
variable {d:aU}{L L':List aQ}{t t':List (List Nd)}{fr:cC}{fu:Pg}{s s':gh}{k i:Nat}{l:List Nd}{nd:Nd}
theorem jd.word (f:d.Ok)(K:kF d fr fu)(h:jd d L fr fu s)(u:s.pc<=2):ah L (d.node fr.id 0)=⟨if s.pc=2/\1<=s.k then bH fr.word else fr.word,⟨#[]⟩,0⟩:=by
 have f1:=f.fy;obtain⟨pc,tk,k,ps,sp,id,full⟩:=s;simp only at u;rcases(by omega:pc=0\/pc=1\/pc=2)with rfl|rfl|rfl
 ·exact h.2.2.2.2.2
 ·exact h.2.2.2.2.2.2.1.2
 ·obtain⟨z,v,y,o,A,L0,b1,b2,b3⟩:=h
  have o:k<ps.length:=o;rw[b3 0 (by omega) (by omega)]
  show ah (fN L0 (ps.take k)) _=⟨if 2=2/\1<=k then _ else _,_,_⟩
  by_cases q:1<=k
  ·rw[if_pos ⟨rfl,q⟩]
   obtain⟨mid,hm,e⟩:=y;simp only at e;subst e;refine Nw f K.hok.id.1 K.hok.id.2 hm.1 b1 (qO f K v) q ?_
   simp at o;omega
  ·rw[if_neg (fun h=>q h.2)]
   obtain rfl:k=0:=by omega
   exact b2.2
theorem jd.old (f:d.Ok)(K:kF d fr fu)(h:jd d L fr fu s)(o:s.pc<=2)(hc:cg (ah L (d.node fr.id 0)).n=false):pO d L fr:=by
 have hw:=h.word f K o;have e:=K.lk;obtain⟨pc,tk,k,ps,sp,id,full⟩:=s;simp only at o;rcases(by omega:pc=0\/pc=1\/pc=2)with rfl|rfl|rfl
 ·exact h.2.2.2.2
 ·exact h.2.2.2.2.2.2.1
 ·obtain⟨u,v,y,z,A,L0,b1,b2,b3⟩:=h
  simp only at hw b3;by_cases q:1<=k
  ·rw[hw,if_pos ⟨trivial,q⟩]at hc
   rw[show cg _=true from(nX e).2.1]at hc
   cases hc
  ·obtain rfl:k=0:=by omega
   exact b2.frame f K.hok b3
theorem pO.ndc (o:d.Ok)(K:kF d fr fu)(h:pO d L fr)(f:fr.pg.la=true->fr.pg.hi=⟨#[]⟩)(hid:nd.id=fr.id)(e:nd.pg=fr.pg):Vp d L nd:=by
 refine⟨?_,?_,?_,?_⟩
 ·rw[hid,e];exact lF h.1 K.hok.aA K.hok.pg.le f
 ·rw[hid,e];exact h.1
 ·rw[hid,h.2]
 ·rw[hid,h.2]
theorem jd.ver (f:d.Ok)(hlen:(L.length:Int)=d.cells)(K:kF d fr fu)(J:fr.id<=(ah L 4).n)(v:0<=(ah L 4).n)(h:jd d L fr fu s)(z:s.pc<=2)(E:ig d fr fu L s s') :
  (∀pg,(s'.pc<=2\/s'.full=true)->kB (ah L (d.node fr.id 0)).n (ah (bS d L s) (d.node fr.id 0)).n pg pg)/\(∀pg G,s'.pc=3->s'.full=false->kB (ah L (d.node fr.id 0)).n (ah (bS d L s) (d.node fr.id 0)).n pg G):=by
 have hI:=oB f hlen K J v h z E;have hw:=h.word f K z;obtain⟨S,e2,e3⟩:=nX K.lk;have e4:=zB K.lk K.hok.word.1 K.ver;have M:=K.lk;have same:ah (bS d L s) (d.node fr.id 0)=ah L (d.node fr.id 0)->∀pg,kB (ah L (d.node fr.id 0)).n (ah (bS d L s) (d.node fr.id 0)).n pg pg:=fun e pg=>by
  rw[e];exact kB.refl _ _
 constructor
 ·intro pg o
  obtain⟨pc,tk,k,ps,sp,id,full⟩:=s;simp only at z hw;rcases(by omega:pc=0\/pc=1\/pc=2)with rfl|rfl|rfl
  ·exact same (fV f K h (fun _=>(gR f K.hok.id.1 K.hok.id.2 0 (by omega) (by have:=f.fy;omega)).symm) (fun e=>by cases e) (fun e=>by cases e)) pg
  ·have hid:=h.2.2.2.1
   have f1:=f.fy;exact same (fV f K h (fun e=>by cases e) (fun e=>by cases e) (fun _ q x y=>cO f K.hok.id.1 K.hok.id.2 hid.lo hid.hi (by omega) (by omega) x y hid.ne.symm)) pg
  ·rcases E with⟨O,rfl⟩|⟨O,rfl⟩
   ·have A:(ah (bS d L ⟨2,tk,k,ps,sp,id,full⟩) (d.node fr.id 0)).n=bH fr.word:=by
     rw[hI.word f K (Nat.le_refl 2)];show(if 2=2/\1<=k+1 then bH fr.word else fr.word)=_
     rw[if_pos ⟨rfl,Nat.le_add_left 1 k⟩]
    have B:(ah L (d.node fr.id 0)).n=if 1<=k then bH fr.word else fr.word:=by
     rw[hw];by_cases u:1<=k
     ·rw[if_pos u,if_pos ⟨rfl,u⟩]
     ·rw[if_neg u,if_neg (fun h=>u h.2)]
    rw[A,B];by_cases u:1<=k
    ·rw[if_pos u]
     exact kB.refl _ _
    ·rw[if_neg u]
     refine⟨by omega,fun _ hc=>?_⟩
     rw[e2]at hc;cases hc
   ·rcases o with o|o
    ·exact absurd o (by simp)
    ·have:=h.1
     simp only at o this;rw[this]at o;cases o
 ·intro pg G H I
  have C := hI;obtain⟨T,P,k',Q,R,id',U⟩:=s';simp only at H I;subst H I;obtain⟨_,⟨q,_⟩|⟨_,_,_,_,D⟩⟩:=C
  ·cases q
  ·rw[D,hw,e4]
   refine⟨?_,fun h _=>?_⟩
   ·show(if _ then _ else _) / 4<=(fr.word+4) / 4
    split <;> omega
   ·exfalso
    have h:(if s.pc=2/\1<=s.k then bH fr.word else fr.word) / 4=(fr.word+4) / 4:=h
    split at h <;> omega
theorem jd.other (e:d.Ok)(K:kF d fr fu)(h:jd d L fr fu s)(hF:qP t s){k':Nat}{l':List Nd}{c:Nd}(hk:t[k']?=some l')(hc:c∈l')(f:1<=c.id)(o:c.id<=d.no)(u:c.id≠fr.id) :
  ∀j:Int,0<=j->j<d.fa+4->ah (bS d L s) (d.node c.id j)=ah L (d.node c.id j):=by
 intro j x y;refine fV e K h (fun _=>(gR e f o j x y).symm) (fun _ q p r=>cO e f o K.hok.id.1 K.hok.id.2 x y p r u) (fun hp q p r=>?_)
 have v:=hF (.inl hp) k' l' hk c hc;obtain⟨pc,tk,k,ps,sp,id,full⟩:=s;simp only at hp;subst hp;exact cO e f o h.2.2.2.1.lo h.2.2.2.1.hi x y p r v
theorem iw (e:d.Ok):∀id j:Int,1<=id->id<=d.no->0<=j->j<d.fa+4->8<=d.node id j:=fun id k i1 i2 a b=>by
 have n0:=(bZ e i1 i2 a b).1;have f:=e.eN;have f1:=e.fy;have h:0<=(id-1)*(d.fa+4):=Int.mul_nonneg (by omega) (by omega)
 omega
theorem jd.low (e:d.Ok)(K:kF d fr fu)(h:jd d L fr fu s){j:Int}(o:j<8)(f:j≠4):ah (bS d L s) j=ah L j:=by
 refine fV e K h (fun _=>f) (fun _ q p r=>?_) (fun hp q p r=>?_)
 ·have:=iw e fr.id q K.hok.id.1 K.hok.id.2 p r
  omega
 ·obtain⟨pc,tk,k,ps,sp,id,full⟩:=s
  simp only at hp;subst hp;have:=iw e id q h.2.2.2.1.lo h.2.2.2.1.hi p r;show j≠d.node id q
  omega
theorem jd.n4 (o:d.Ok)(hlen:(L.length:Int)=d.cells)(K:kF d fr fu)(h:jd d L fr fu s)(q:(ah L 4).n<=d.no):(ah L 4).n<=(ah (bS d L s) 4).n/\(ah (bS d L s) 4).n<=d.no:=by
 have z:=gu o;by_cases h0:s.pc=0
 ·obtain⟨pc,tk,k,ps,sp,id,full⟩:=s
  simp only at h0;subst h0;obtain⟨_,_,_,v,_⟩:=h;obtain⟨y,seen,ok⟩:=tk;simp only at v;show(ah L 4).n<=(ah (aG 4 d.no L ⟨y,seen,ok⟩).2 4).n/\(ah (aG 4 d.no L ⟨y,seen,ok⟩).2 4).n<=d.no
  rcases v with⟨rfl,rfl⟩|⟨rfl,rfl,b1,b2⟩
  ·exact⟨Int.le_refl _,q⟩
  ·unfold aG
   simp only;by_cases f:bU L 4 seen=true
   ·rw[if_pos f]
    have u:(ah L 4).n=seen:=by
     unfold bU at f;simp only[Bool.and_eq_true,decide_eq_true_eq]at f;exact f.2
    show(ah L 4).n<=(ah (aR L 4 ⟨seen+1,⟨#[]⟩,0⟩) 4).n/\(ah (aR L 4 ⟨seen+1,⟨#[]⟩,0⟩) 4).n<=d.no
    rw[cD (by omega) (by omega)]
    exact⟨by show _<=seen+1;omega,by show seen+1<=_;omega⟩
   ·rw[if_neg f]
    exact⟨Int.le_refl _,q⟩
 ·rw[fV o K h (fun e=>absurd e h0) (fun _=>gR o K.hok.id.1 K.hok.id.2) (fun hp=>?_)]
  ·exact⟨Int.le_refl _,q⟩
  ·obtain⟨pc,tk,k,ps,sp,id,full⟩:=s
   simp only at hp;subst hp;exact gR o h.2.2.2.1.lo h.2.2.2.1.hi
theorem qP.step (A:dP d L t)(hI:jd d L fr fu s)(hF:qP t s)(B:s.pc<=2)(o:ig d fr fu L s s')(v:s'.pc<=2):qP t s' := by
 obtain⟨pc,tk,k,ps,sp,id,full⟩:=s;simp only at B;rcases(by omega:pc=0\/pc=1\/pc=2)with rfl|rfl|rfl
 ·rcases o with⟨f,rfl⟩|⟨f,y,rfl⟩|⟨f,y,rfl⟩
  ·rintro (h|⟨h,_⟩) <;> exact absurd h (by simp)
  ·exact absurd v (by simp)
  ·intro _ k' l' hk c hc
   obtain⟨_,_,_,z,_⟩:=hI;obtain⟨D,seen,ok⟩:=tk;simp only at z;rcases z with⟨rfl,rfl⟩|⟨rfl,rfl,b1,b2⟩
   ·cases y
   ·by_cases e:bU L 4 seen=true
    ·have q:aG 4 d.no L ⟨1,seen,false⟩=(⟨2,seen,true⟩,aR L 4 ⟨seen+1,⟨#[]⟩,0⟩):=by
      show(if bU L 4 seen then _ else _)=_
      rw[if_pos e]
     have u:(ah L 4).n=seen:=by
      unfold bU at e;simp only[Bool.and_eq_true,decide_eq_true_eq]at e;exact e.2
     have:=(A.sh.nodes k' l' hk c hc).1.2;show c.id≠(aG 4 d.no L ⟨1,seen,false⟩).1.seen+1
     rw[q];show c.id≠seen+1
     omega
    ·have q:aG 4 d.no L ⟨1,seen,false⟩=(⟨0,seen,false⟩,L):=by
      show(if bU L 4 seen then _ else _)=_
      rw[if_neg e]
     rw[q]at f;exact absurd f (by simp)
 ·rcases o with⟨f,rfl⟩|⟨f,C,hw,rfl⟩
  ·exact fun _=>hF (.inl rfl)
  ·exact fun _=>hF (.inl rfl)
 ·rcases o with⟨f,rfl⟩|⟨f,rfl⟩
  ·rintro (h|⟨_,h⟩)
   ·exact absurd h (by simp)
   ·exact hF (.inr ⟨rfl,h⟩)
  ·exact absurd v (by simp)
theorem oW.at (o:dP d L t)(H:oW t k i l nd fr fu){k' j:Nat}{l':List Nd}{c:Nd}(hk:t[k']?=some l')(e:l'[j]?=some c)(he:c.id=fr.id):k'=k/\j=i/\c=nd:=by
 obtain⟨rfl,rfl⟩:=o.sh.inj k' k l' l j i c nd hk H.hk e H.hi (by rw[he,H.id])
 have f:=H.hk;rw[hk]at f;obtain rfl:=asy f;have h:=H.hi;rw[e]at h;exact⟨rfl,rfl,asy h⟩
theorem Vs (f:d.Ok)(hlen:(L.length:Int)=d.cells)(K:kF d fr fu)(y:dP d L t)(H:oW t k i l nd fr fu)(hI:jd d L fr fu s)(hF:qP t s)(O:s.pc<=2)(P:ig d fr fu L s s')(o:s'.pc<=2\/s'.full=true) :
  dP d (bS d L s) t/\vB d L t (bS d L s) t:=by
 have E:=asw H.hi;have Z:=(y.sh.nodes k l H.hk nd E).1;have Jm:=H.id;have z:=oB f hlen K (by omega) (by omega) hI O P
 have Q:=(hI.ver f hlen K (by omega) (by omega) O P).1
 obtain⟨n1,R⟩:=hI.n4 f hlen K y.n4;have S:=y.n4;have T:fr.pg.la=true->fr.pg.hi=⟨#[]⟩:=fun h=>by
  rw[←H.pg]at h ⊢;exact((y.sh.rows k l H.hk).xL E h).1
 have G:∀(k':Nat) (l':List Nd),t[k']?=some l' -> ∀c,c∈l' -> (ah (bS d L s) (d.node c.id 0)).n%2=0->(ah (bS d L s) (d.node c.id 0)).n%4=0:=by
  intro k' l' e c hc A;have u:=(y.sh.nodes k' l' e c hc).1;by_cases he:c.id=fr.id
  ·exfalso
   rw[he]at A;have U:=K.lk;have V:(ah (bS d L s) (d.node fr.id 0)).n%2=1:=by
    by_cases v:s'.pc<=2
    ·rw[z.word f K v]
     show(if s'.pc=2/\1<=s'.k then bH fr.word else fr.word)%2=1
     have:=(nX K.lk).1;split <;> omega
    ·obtain⟨B,I,k',J,M,id',X⟩:=s'
     obtain⟨B,rfl⟩:∃m,B=m+3:=⟨B-3,by simp only at v;omega⟩
     rcases o with o|o
     ·exact absurd o v
     ·simp only at o
      subst o;obtain⟨_,⟨_,_,q⟩|⟨q,_⟩⟩:=z
      ·rw[q.2]
       show fr.word%2=1
       omega
      ·cases q
   omega
  ·have D:=hI.other f K hF e hc u.1 (by omega) he
   have f1:=f.fy;rw[D 0 (by omega) (by omega)]at A ⊢
   exact y.wd k' l' e c hc A
 constructor
 ·refine⟨y.sh.mono n1,R,by rw[hI.low f K (by omega) (by omega)];exact y.root,fun k' l' e c hc C=>?_,G⟩
  have u:=(y.sh.nodes k' l' e c hc).1;by_cases he:c.id=fr.id
  ·obtain⟨j,Y⟩:=ast hc
   obtain⟨rfl,rfl,rfl⟩:=H.at y e Y he;have hold:pO d (bS d L s) fr:=by
    rcases o with o|o
    ·exact z.old f K o (by rw[←he];exact C)
    ·by_cases v:s'.pc<=2
     ·exact z.old f K v (by rw[←he];exact C)
     ·obtain⟨B,I,k',J,M,id',X⟩:=s'
      obtain⟨B,rfl⟩:∃m,B=m+3:=⟨B-3,by simp only at v;omega⟩
      simp only at o;subst o;obtain⟨_,⟨_,_,q⟩|⟨q,_⟩⟩:=z
      ·exact q
      ·cases q
   exact hold.ndc f K T he H.pg
  ·have D:=hI.other f K hF e hc u.1 (by omega) he
   have f1:=f.fy;exact(y.node k' l' e c hc (by rw[←D 0 (by omega) (by omega)];exact C)).frame f u.1 (by omega) D
 ·intro k' l' e c hc
  have u:=(y.sh.nodes k' l' e c hc).1;refine⟨l',c,e,hc,rfl,rfl,?_⟩;by_cases he:c.id=fr.id
  ·rw[he];exact Q c.pg o
  ·have D:=hI.other f K hF e hc u.1 (by omega) he
   have f1:=f.fy;rw[D 0 (by omega) (by omega)]
   exact kB.refl _ _
theorem Vt (P:d.Ok)(hlen:(L.length:Int)=d.cells)(K:kF d fr fu)(G:dP d L t)(H:oW t k i l nd fr fu)(hI:jd d L fr fu s)(hF:qP t s)(U:s.pc<=2)(hn:ig d fr fu L s s')(V:s'.pc=3)(hf:s'.full=false) :
  dP d (bS d L s) (eM t k i l nd fu s'.id s'.sp)/\vB d L t (bS d L s) (eM t k i l nd fu s'.id s'.sp):=by
 have X:=asw H.hi;have Ya:=(G.sh.nodes k l H.hk nd X).1;have Jm:=H.id;have hIs:=oB P hlen K (by omega) (by omega) hI U hn
 have hv:=(hI.ver P hlen K (by omega) (by omega) U hn).2
 obtain⟨n1,n2⟩:=hI.n4 P hlen K G.n4;have htn:=G.n4;have f1:=P.fy;have hR:=G.sh.rows k l H.hk;have cj:=hR.aA nd X;have xJ:=H.fu.aA;have qC:=K.hok.aA;rw[←H.pg]at qC;have j8:fu.la=true->fu.hi=⟨#[]⟩:=fun h=>by
  rw[H.fu.la]at h;rw[H.fu.hi];exact(hR.xL X h).1
 have v := (asu.1 H.hi).1;have hS:=G.sh.mono n1;obtain⟨rt,rest,ei,M⟩:=G.root;have Ga:ah (bS d L s) 0=ah L 0:=hI.low P K (by omega) (by omega)
 have afE:=fun pg kN=>hv pg kN V hf
 have Q:(s.pc=2/\s'.sp=s.sp/\s'.id=s.id):=by
  obtain⟨pc,tk,k,ps,sp,id,full⟩:=s;simp only at U;rcases(by omega:pc=0\/pc=1\/pc=2)with rfl|rfl|rfl
  ·rcases hn with⟨J,rfl⟩|⟨J,Y,rfl⟩|⟨J,Y,rfl⟩
   ·exact absurd V (by simp)
   ·cases hf
   ·exact absurd V (by simp)
  ·rcases hn with⟨J,rfl⟩|⟨J,ps',hw,rfl⟩ <;> exact absurd V (by simp)
  ·rcases hn with⟨J,rfl⟩|⟨J,rfl⟩
   ·exact absurd V (by simp)
   ·exact⟨rfl,rfl,rfl⟩
 have hold:∀(k':Nat) (l':List Nd),t[k']?=some l' -> ∀(j:Nat) (c:Nd),l'[j]?=some c->(k' ≠ k\/j≠i)->c.id≠fr.id/\∀q:Int,0<=q->q<d.fa+4->ah (bS d L s) (d.node c.id q)=ah L (d.node c.id q):=by
  intro k' l' f j c hc y;have O:=asw hc;have Z:=(G.sh.nodes k' l' f c O).1;have he:c.id≠fr.id:=fun e=>by
   obtain⟨e1,e2,_⟩:=H.at G f hc e;rcases y with h|h
   ·exact h e1
   ·exact h e2
  exact⟨he,hI.other P K hF f O Z.1 (by omega) he⟩
 have Ek:∀(k':Nat) (l':List Nd),t[k']?=some l' -> ∀(j:Nat) (c:Nd),l'[j]?=some c->(k' ≠ k\/j≠i)->cg (ah (bS d L s) (d.node c.id 0)).n=false->Vp d (bS d L s) c:=by
  intro k' l' f j c hc y z;have O:=asw hc;have Z:=(G.sh.nodes k' l' f c O).1;have ho:=(hold k' l' f j c hc y).2;exact(G.node k' l' f c O (by rw[←ho 0 (by omega) (by omega)];exact z)).frame P Z.1 (by omega) ho
 have El:∀(k':Nat) (l':List Nd),t[k']?=some l' -> ∀(j:Nat) (c:Nd),l'[j]?=some c->(k' ≠ k\/j≠i)->(ah (bS d L s) (d.node c.id 0)).n%2=0->(ah (bS d L s) (d.node c.id 0)).n%4=0:=by
  intro k' l' f j c hc y u;rw[(hold k' l' f j c hc y).2 0 (by omega) (by omega)]at u ⊢
  exact G.wd k' l' f c (asw hc) u
 have jx:∀(k':Nat) (l':List Nd),t[k']?=some l' -> ∀(j:Nat) (c:Nd),l'[j]?=some c->(k' ≠ k\/j≠i)->kB (ah L (d.node c.id 0)).n (ah (bS d L s) (d.node c.id 0)).n c.pg c.pg:=by
  intro k' l' f j c hc y;rw[(hold k' l' f j c hc y).2 0 (by omega) (by omega)]
  exact kB.refl _ _
 have R:=fun h:s.sp=true=>hF (.inr ⟨Q.1,h⟩)
 obtain⟨Lk,tk',kk',ps',sp',id',Ea⟩:=s';simp only at V hf Q ⊢;subst V hf;obtain⟨_,⟨q,_⟩|⟨_,g1,g2,I,S⟩⟩:=hIs
 ·cases q
 simp only at g1 g2 I S;cases T:sp' with
 | false=>
  rw[T]at g1 I;have g1:=g1 rfl;have e:eM t k i l nd fu id' false=t.set k (l.set i { nd with pg:=fu }):=rfl;rw[e];have hme:Vp d (bS d L s) { nd with pg:=fu }:=by
   have I:Holds (bS d L s) (bQ d fr.id fu):=I;rw[←Jm]at I S;exact⟨lF I (show 0<=fu.aA/\fu.aA<1000000 by omega) g1 j8,I,by rw[S],by rw[S]⟩
  refine⟨⟨hS.put H.hk H.hi xJ H.fu.hi H.fu.la H.fu.ri H.fu.nds H.fu.down,n2,?_,fun k' l' f c hc z=>?_,fun k' l' f c hc=>?_⟩,fun k' l' f c hc=>?_⟩
  ·obtain⟨a,B,C,U⟩:=Lp (l' := l.set i { nd with pg:=fu }) G.sh.ne H.hk ei (fun a ha=>by
    rw[List.getElem?_set];simp only[v,if_true];split
    ·rename_i e
     subst e;have:=H.hi;rw[this]at ha;obtain rfl:=asy ha;exact⟨{ nd with pg:=fu },rfl,rfl⟩
    ·exact⟨a,ha,rfl⟩)
   exact⟨a,B,C,by rw[Ga,M,U]⟩
  ·rcases eJ f with⟨rfl,rfl⟩|⟨y,D⟩
   ·obtain⟨j,o⟩:=ast hc
    rw[List.getElem?_set]at o;simp only[v,if_true]at o;split at o
    ·obtain rfl:=asy o
     exact hme
    ·exact Ek _ _ H.hk j c o (.inr (by rename_i e;exact fun h=>e h.symm)) z
   ·obtain⟨j,o⟩:=ast hc
    exact Ek _ _ D j c o (.inl y) z
  ·intro u
   have hlk:=K.lk;have e4:=zB K.lk K.hok.word.1 K.ver;rcases eJ f with⟨rfl,rfl⟩|⟨y,D⟩
   ·obtain⟨j,o⟩:=ast hc
    rw[List.getElem?_set]at o;simp only[v,if_true]at o;split at o
    ·obtain rfl:=asy o
     exfalso
     have u:(ah (bS d L s) (d.node nd.id 0)).n%2=0:=u;rw[Jm,S]at u;have u:dW (bH fr.word)%2=0:=u;omega
    ·exact El _ _ H.hk j c o (.inr (by rename_i e;exact fun h=>e h.symm)) u
   ·obtain⟨j,o⟩:=ast hc
    exact El _ _ D j c o (.inl y) u
  ·obtain⟨j,o⟩:=ast hc
   by_cases E:k'=k
   ·subst E
    have C:=H.hk;rw[f]at C;obtain rfl:=asy C;have ox:=(asu.1 f).1;by_cases A:j=i
    ·subst A
     have C:=H.hi;rw[o]at C;obtain rfl:=asy C;exact⟨_, { c with pg:=fu },List.getElem?_set_self ox,asw (i:=j) (by rw[List.getElem?_set_self v]),rfl,rfl,by rw[Jm];exact afE _ _⟩
    ·exact⟨_,c,List.getElem?_set_self ox,asw (i:=j) (by rw[List.getElem?_set_ne (fun e=>A e.symm)];exact o),rfl,rfl,jx _ _ f j c o (.inr A)⟩
   ·exact⟨l',c,by rw[List.getElem?_set_ne (fun e=>E e.symm)];exact f,hc,rfl,rfl,jx _ _ f j c o (.inl E)⟩
 | true=>
  rw[T]at I;obtain⟨g5,g6,g7⟩:=g2 T;have R:=R (by rw[←Q.2.1,T])
  rw[←Q.2.2]at R;have h2':2<=fu.sl.length:=g5;obtain⟨sL,sR,sA,sB⟩:=aag (n:=id') H.fu.nds h2';have aev:=qO (s:=⟨3,tk',kk',ps',true,id',false⟩) P K (fun h=>by cases h)
  have Bd:=(K.Vq.right P).le;have e:eM t k i l nd fu id' true=t.set k (pM l i { nd with pg:=ed fu id' } ⟨id',bM fu,cZ fu⟩):=rfl;rw[e];have hme:Vp d (bS d L s) { nd with pg:=ed fu id' }:=by
   have I:Holds (bS d L s) (bQ d fr.id (ed fu id')):=I;rw[←Jm]at I S;exact⟨lF I (show 0<=fu.aA/\fu.aA<1000000 by omega) aev (fun h=>by cases h),I,by rw[S],by rw[S]⟩
  have hnew:Vp d (bS d L s) ⟨id',bM fu,cZ fu⟩:=
   ⟨lF g7.1 (show 0<=fu.aA/\fu.aA<1000000 by omega) Bd j8,g7.1,by show(ah _ (d.node id' 0)).k=_;rw[g7.2],by show(ah _ (d.node id' 0)).m=_;rw[g7.2]⟩
  refine⟨⟨?_,n2,?_,fun k' l' f c hc z=>?_,fun k' l' f c hc=>?_⟩,fun k' l' f c hc=>?_⟩
  ·refine hS.acU (a:={ nd with pg:=ed fu id' }) (b:=⟨id',bM fu,cZ fu⟩) H.hk H.hi g6.lo g6.us R rfl rfl (by show fu.aA=_;rw[xJ,cj]) rfl rfl rfl (by show fu.aA=_;rw[xJ,cj]) H.fu.la H.fu.hi H.fu.ri sA (fun h=>?_) sL sR (fun m l0 hkm h0=>?_)
   ·show cA (bM fu) nd.pg.hi=true
    rw[←H.fu.hi];exact sB (by rw[H.fu.la];exact h)
   ·exact Vh (by omega) (H.fu.down m l0 hkm h0) h2'
  ·obtain⟨a,B,C,U⟩:=Lp (l' := pM l i { nd with pg:=ed fu id' } ⟨id',bM fu,cZ fu⟩) G.sh.ne H.hk ei (fun a ha=>by
    rw[fO v];by_cases h0:0<i
    ·rw[if_pos h0];exact⟨a,ha,rfl⟩
    ·have oN:i=0:=by omega
     have:=H.hi;rw[oN]at this;rw[this]at ha;obtain rfl:=asy ha;rw[if_neg h0,if_pos oN.symm];exact⟨_,rfl,rfl⟩)
   exact⟨a,B,C,by rw[Ga,M,U]⟩
  ·rcases eJ f with⟨rfl,rfl⟩|⟨y,D⟩
   ·obtain⟨j,o⟩:=ast hc
    rw[fO v]at o;by_cases J:j<i
    ·rw[if_pos J]at o
     exact Ek _ _ H.hk j c o (.inr (by omega)) z
    ·rw[if_neg J]at o
     by_cases Y:j=i
     ·rw[if_pos Y]at o
      obtain rfl:=asy o;exact hme
     ·rw[if_neg Y]at o
      by_cases c3:j=i+1
      ·rw[if_pos c3]at o
       obtain rfl:=asy o;exact hnew
      ·rw[if_neg c3]at o
       exact Ek _ _ H.hk (j-1) c o (.inr (by omega)) z
   ·obtain⟨j,o⟩:=ast hc
    exact Ek _ _ D j c o (.inl y) z
  ·intro u
   have hlk:=K.lk;have e4:=zB K.lk K.hok.word.1 K.ver;rcases eJ f with⟨rfl,rfl⟩|⟨y,D⟩
   ·obtain⟨j,o⟩:=ast hc
    rw[fO v]at o;by_cases J:j<i
    ·rw[if_pos J]at o
     exact El _ _ H.hk j c o (.inr (by omega)) u
    ·rw[if_neg J]at o
     by_cases Y:j=i
     ·rw[if_pos Y]at o
      obtain rfl:=asy o;exfalso
      have u:(ah (bS d L s) (d.node nd.id 0)).n%2=0:=u;rw[Jm,S]at u;have u:dW (bH fr.word)%2=0:=u;omega
     ·rw[if_neg Y]at o
      by_cases c3:j=i+1
      ·rw[if_pos c3]at o
       obtain rfl:=asy o;exfalso
       have u:(ah (bS d L s) (d.node id' 0)).n%2=0:=u;rw[g7.2]at u;have u:aT 0%2=(0:Int):=u;revert u;decide
      ·rw[if_neg c3]at o
       exact El _ _ H.hk (j-1) c o (.inr (by omega)) u
   ·obtain⟨j,o⟩:=ast hc
    exact El _ _ D j c o (.inl y) u
  ·obtain⟨j,o⟩:=ast hc
   by_cases E:k'=k
   ·subst E
    have C:=H.hk;rw[f]at C;obtain rfl:=asy C;have ox:=(asu.1 f).1;rcases Nat.lt_trichotomy j i with A|A|A
    ·exact⟨_,c,List.getElem?_set_self ox,asw (i:=j) (by rw[fO v,if_pos A];exact o),rfl,rfl,jx _ _ f j c o (.inr (by omega))⟩
    ·subst A
     have C:=H.hi;rw[o]at C;obtain rfl:=asy C;exact⟨_, { c with pg:=ed fu id' },List.getElem?_set_self ox,asw (i:=j) (by rw[fO v,if_neg (by omega),if_pos rfl]),rfl,rfl,by rw[Jm];exact afE _ _⟩
    ·exact⟨_,c,List.getElem?_set_self ox,asw (i:=j+1) (by rw[fO v,if_neg (by omega),if_neg (by omega),if_neg (by omega)];exact o),rfl,rfl,jx _ _ f j c o (.inr (by omega))⟩
   ·exact⟨l',c,by rw[List.getElem?_set_ne (fun e=>E e.symm)];exact f,hc,rfl,rfl,jx _ _ f j c o (.inl E)⟩
end
end
end Go.Proofs.YtlpdhhhgckpcfaaGreat
