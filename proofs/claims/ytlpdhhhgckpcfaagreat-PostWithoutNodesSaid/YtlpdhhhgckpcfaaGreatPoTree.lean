
/- Trees for Post (pure): a new root above, sizes of keys, which nodes the rows ak5 to, what an entered slot does. -/
import Derived.Test.YtlpdhhhgckpcfaaGreatLockC
import Derived.Test.YtlpdhhhgckpcfaaGreatInsOn
namespace Go.Proofs.YtlpdhhhgckpcfaaGreat
open Go.RowKit
set_option maxRecDepth 100000
theorem rR.aeD {N:Int}{t:List (List Nd)}{l:List Nd}{nd r:Nd}(h:rR N t)(hl:t[t.length-1]?=some l)(hi:l[0]?=some nd)(hb0:1<=r.id)(hN':r.id<=N)(hfr:Hh t r.id)(hr1:r.low=⟨#[]⟩)(hr2:r.pg=⟨t.length,[⟨⟨#[]⟩,nd.id⟩],⟨#[]⟩,true,0⟩):rR N (t++[[r]]):=by
 have hne:=h.ne;have hat:∀ (k:Nat) (x:List Nd),(t++[[r]])[k]?=some x->t[k]?=some x\/(k=t.length/\x=[r]):=by
  intro k x hx;rcases Nat.lt_or_ge k t.length with hk|hk
  ·rw[List.getElem?_append_left hk]at hx;exact .inl hx
  ·rw[List.getElem?_append_right hk]at hx
   obtain⟨m,hm⟩:∃ m,k-t.length=m:=⟨_,rfl⟩;rw[hm]at hx;cases m with
   | zero=>exact .inr ⟨by omega,(aqu hx).symm⟩
   | succ m=>simp at hx
 have hone:∀ (i:Nat) (a:Nd),[r][i]?=some a->i=0/\a=r:=by
  intro i a ha;cases i with
  | zero=>exact⟨rfl,(aqu ha).symm⟩
  | succ i=>simp at ha
 have eJ:=(h.rows _ l hl).first nd hi
 have hnodes:∀ (k:Nat) (x:List Nd),(t++[[r]])[k]?=some x->∀ a,a∈x->(1<=a.id/\a.id<=N)/\Kf a:=by
  intro k x hx a ha;rcases hat k x hx with hx|⟨rfl,rfl⟩
  ·exact h.nodes k x hx a ha
  ·obtain rfl:a=r:=by simpa using ha
   refine⟨⟨hb0,hN'⟩,?_,?_,?_⟩
   ·rw[hr2];exact List.pairwise_singleton _ _
   ·rw[hr2]
    intro s hs;obtain rfl:s=⟨⟨#[]⟩,nd.id⟩:=by simpa using hs
    exact(h.nodes _ l hl nd (aqs hi)).1.1
   ·rw[hr2,hr1]
    intro s hs;obtain rfl:s=⟨⟨#[]⟩,nd.id⟩:=by simpa using hs
    exact⟨dI _,fun h=>by cases h⟩
 have Da:∀ (k1 k2:Nat) (l1 l2:List Nd) (i i':Nat) (a b:Nd),(t++[[r]])[k1]?=some l1->(t++[[r]])[k2]?=some l2->l1[i]?=some a->l2[i']?=some b->a.id=b.id->k1=k2/\i=i' := by
  intro k1 k2 l1 l2 i i' a b h1 h2 ha hb e;rcases hat k1 l1 h1 with h1' | ⟨rfl,rfl⟩
  ·rcases hat k2 l2 h2 with h2' | ⟨rfl,rfl⟩
   ·exact h.inj k1 k2 l1 l2 i i' a b h1' h2' ha hb e
   ·obtain⟨rfl,rfl⟩:=hone _ _ hb
    exact absurd e (hfr k1 l1 h1' a (aqs ha))
  ·obtain⟨rfl,rfl⟩:=hone _ _ ha
   rcases hat k2 l2 h2 with h2' | ⟨rfl,rfl⟩
   ·exact absurd e.symm (hfr k2 l2 h2' b (aqs hb))
   ·obtain⟨rfl,rfl⟩:=hone _ _ hb
    exact⟨rfl,rfl⟩
 refine⟨by simp,fun k x hx=>?_,hnodes,fun k x y hx hy a ha=>?_,Da,Cz (by omega) (fun k x hx a ha=>(hnodes k x hx a ha).1) Da⟩
 ·rcases hat k x hx with hx|⟨rfl,rfl⟩
  ·exact h.rows k x hx
  ·refine⟨by simp,fun a ha=>?_,fun a ha=>?_,fun i a b ha hb=>?_,fun i a ha hi=>?_⟩
   ·obtain rfl:a=r:=by simpa using ha
    rw[hr2]
   ·rw[← (aqu ha)];exact hr1
   ·have:=(hone _ _ hb).1
    omega
   ·rw[(hone _ _ ha).2,hr2];exact⟨rfl,rfl,rfl⟩
 ·rcases hat (k+1) y hy with hy2|⟨e,rfl⟩
  ·rcases hat k x hx with hx2|⟨rfl,rfl⟩
   ·exact h.down k x y hx2 hy2 a ha
   ·have:=(aqq.1 hy2).1
    omega
  ·rcases hat k x hx with hx2|⟨rfl,rfl⟩
   ·obtain rfl:a=r:=by simpa using ha
    rw[show k=t.length-1 by omega,hl]at hx2
    obtain rfl:=aqu hx2;refine⟨⟨⟨⟨#[]⟩,nd.id⟩,[],by rw[hr2],hr1.symm⟩,fun s hs=>?_⟩
    rw[hr2]at hs;obtain rfl:s=⟨⟨#[]⟩,nd.id⟩:=by simpa using hs
    exact⟨nd,aqs hi,rfl,eJ⟩
   ·omega
section
variable {d:aR}{L L':List aP}{t t':List (List Nd)}
theorem dQ.grow (hd:d.Ok)(hlen:(L.length:Int)=d.cells)(ht:dQ d L t){l:List Nd}{nd r:Nd}(hl:t[t.length-1]?=some (nd::l))(hb0:1<=r.id)(hN':r.id<=(ah L 4).n)(hfr:Hh t r.id)(hr1:r.low=⟨#[]⟩)(hr2:r.pg=⟨t.length,[⟨⟨#[]⟩,nd.id⟩],⟨#[]⟩,true,0⟩)
  (hh:Tf d L r) (hw:(ah L (d.node r.id 0)).n%4=0):dQ d (aN L 0 ⟨r.id,⟨#[]⟩,0⟩) (t++[[r]])/\vT d L t (aN L 0 ⟨r.id,⟨#[]⟩,0⟩) (t++[[r]]):=by
 have sZ:=ht.n4;have f1:=hd.fw;have hcl:=gB hd;have hsame:∀ id j:Int,1<=id->id<=d.no->0<=j->j<d.fa+4->ah (aN L 0 ⟨r.id,⟨#[]⟩,0⟩) (d.node id j)=ah L (d.node id j):=fun id j a b c e=>bg (by have:=fL hd id j a b c e;omega)
 have h4:ah (aN L 0 ⟨r.id,⟨#[]⟩,0⟩) 4=ah L 4:=bg (by omega)
 have hat:∀ (k:Nat) (x:List Nd),(t++[[r]])[k]?=some x->t[k]?=some x\/x=[r]:=by
  intro k x hx;rcases Nat.lt_or_ge k t.length with hk|hk
  ·rw[List.getElem?_append_left hk]at hx;exact .inl hx
  ·rw[List.getElem?_append_right hk]at hx
   have:=aqs hx;exact .inr (by simpa using this)
 have hall:∀ (k:Nat) (x:List Nd),(t++[[r]])[k]?=some x->∀ a,a∈x->(t[k]?=some x\/a=r):=fun k x hx a ha=>by
  rcases hat k x hx with h|rfl
  ·exact .inl h
  ·exact .inr (by simpa using ha)
 refine⟨⟨by rw[h4];exact ht.sh.aeD hl rfl hb0 hN' hfr hr1 hr2,by rw[h4];exact sZ,⟨r,[],by simp,?_⟩,fun k x hx a ha hch=>?_,fun k x hx a ha hev=>?_⟩,fun k x hx a ha=>?_⟩
 ·rw[b9 (by omega) (by omega)]
 ·rcases hall k x hx a ha with h|rfl
  ·have hb:=(ht.sh.nodes k x h a ha).1
   have hs:=fun j=>hsame a.id j hb.1 (by omega)
   exact(ht.node k x h a ha (by rw[← hs 0 (by omega) (by omega)];exact hch)).frame hd hb.1 (by omega) (fun j x y=>hs j x y)
  ·exact hh.frame hd hb0 (by omega) (fun j x y=>hsame a.id j hb0 (by omega) x y)
 ·rcases hall k x hx a ha with h|rfl
  ·have hb:=(ht.sh.nodes k x h a ha).1
   rw[hsame a.id 0 hb.1 (by omega) (by omega) (by omega)]at hev ⊢
   exact ht.wd k x h a ha hev
  ·rw[hsame a.id 0 hb0 (by omega) (by omega) (by omega)]
   exact hw
 ·have hb:=(ht.sh.nodes k x hx a ha).1
  refine⟨x,a,by rw[List.getElem?_append_left (aqq.1 hx).1];exact hx,ha,rfl,rfl,?_⟩
  rw[hsame a.id 0 hb.1 (by omega) (by omega) (by omega)]
  exact ku.refl _ _
def SzT (t:List (List Nd)):Prop:=∀ (k:Nat) (l:List Nd),t[k]?=some l->∀ nd,nd∈l->nd.low.size<=32
theorem SzT.keys {N:Int}(hs:rR N t)(hz:SzT t){k:Nat}{l:List Nd}(hk:t[k+1]?=some l){nd:Nd}(hn:nd∈l):(∀ s,s∈nd.pg.sl->s.k.size<=32/\1<=s.r/\s.r<=N)/\nd.pg.hi.size<=32:=by
 have qQ:=(aqq.1 hk).1;obtain⟨l0,h0⟩:∃ l0,t[k]?=some l0:=⟨_,aqt (by omega)⟩
 have hR:=hs.rows _ l hk;refine⟨fun s hs' =>?_,?_⟩
 ·obtain⟨c,hc,e1,e2⟩:=(hs.down k l0 l h0 hk nd hn).2 s hs'
  rw[← e1,← e2];exact⟨hz k l0 h0 c hc,(hs.nodes k l0 h0 c hc).1⟩
 ·rcases Bool.eq_false_or_eq_true nd.pg.la with lj|lj
  ·rw[(hR.wY hn lj).1];exact Nat.zero_le _
  ·obtain⟨i,hi⟩:=aqp hn
   have hil:=(aqq.1 hi).1;rcases Nat.lt_or_ge (i+1) l.length with hlt|hge
   ·obtain⟨b,hb⟩:∃ b,l[i+1]?=some b:=⟨_,aqt hlt⟩
    rw[(hR.next i nd b hi hb).2.1];exact hz _ l hk b (aqs hb)
   ·have:=(hR.last i nd hi (by omega)).1
    rw[lj]at this;cases this
theorem gS.aeE {N:Int}(hs:rR N t){k:Nat}{l:List Nd}(hk:t[k]?=some l){nd:Nd}(hn:nd∈l):0<=nd.pg.ri/\nd.pg.ri<=N:=by
 have hR:=hs.rows _ l hk;have hN:=(hs.nodes k l hk nd hn).1;rcases Bool.eq_false_or_eq_true nd.pg.la with lj|lj
 ·rw[(hR.wY hn lj).2];omega
 ·obtain⟨i,hi⟩:=aqp hn
  have hil:=(aqq.1 hi).1;rcases Nat.lt_or_ge (i+1) l.length with hlt|hge
  ·obtain⟨b,hb⟩:∃ b,l[i+1]?=some b:=⟨_,aqt hlt⟩
   rw[(hR.next i nd b hi hb).2.2.1];have:=(hs.nodes k l hk b (aqs hb)).1;omega
  ·have:=(hR.last i nd hi (by omega)).1
   rw[lj]at this;cases this
theorem Nl:32<=maxLen:=by decide +kernel
theorem dQ.hok (hd:d.Ok)(ht:dQ d L t)(hz:SzT t){k:Nat}{l:List Nd}(hk:t[k+1]?=some l){nd:Nd}(hn:nd∈l)(hc:bY (ah L (d.node nd.id 0)).n=false){word:Int}(hw:0<=word/\word<18446744073709551616):cB.Ok d ⟨nd.id,word,nd.pg⟩:=by
 have iY:=hd.mM;have sZ:=ht.n4;have hid:=(ht.sh.nodes _ l hk nd hn).1;obtain⟨hz1,hz2⟩:=hz.keys ht.sh hk hn;have mq:=gS.aeE ht.sh hk hn;have hR:=ht.sh.rows _ l hk;have cg:=hR.az nd hn;have hm:=Nl;have xp:t.length<=4096:=by
  refine Nat.le_trans (qj t fun l hl=>?_) (by have:=ht.sh.count;omega)
  obtain⟨k,hk⟩:=aqp hl;exact(ht.sh.rows k l hk).ne
 have qQ:=(aqq.1 hk).1;exact⟨⟨hid.1,by show nd.id<=d.no;omega⟩,hw,⟨(ht.node _ l hk nd hn hc).page.le,⟨mq.1,by show nd.pg.ri<_;omega⟩,fun s hs=>by have:=(hz1 s hs).2;omega,fun s hs=>Nat.le_trans (hz1 s hs).1 hm,Nat.le_trans hz2 hm,fun h=>(hR.wY hn h).1⟩,by show 0<=nd.pg.az/\nd.pg.az<1000000;omega⟩
def qF (t:List (List Nd))(k:Nat)(id:Int):Prop:=∃ l nd s,t[k]?=some l/\nd∈l/\s∈nd.pg.sl/\s.r=id
theorem mh {l:List Nd}{i:Nat}{nd a b x:Nd}(hi:l[i]?=some nd):x∈vQ l i a b↔x=a\/x=b\/∃ j,j≠i/\l[j]?=some x:=by
 have hlen:=(aqq.1 hi).1;constructor
 ·intro h
  obtain⟨j,hj⟩:=aqp h;rw[fO hlen]at hj;by_cases c1:j<i
  ·rw[if_pos c1]at hj;exact .inr (.inr ⟨j,by omega,hj⟩)
  ·rw[if_neg c1]at hj
   by_cases c2:j=i
   ·rw[if_pos c2]at hj;exact .inl (aqu hj).symm
   ·rw[if_neg c2]at hj
    by_cases c3:j=i+1
    ·rw[if_pos c3]at hj;exact .inr (.inl (aqu hj).symm)
    ·rw[if_neg c3]at hj;exact .inr (.inr ⟨j-1,by omega,hj⟩)
 ·rintro (rfl|rfl|⟨j,hne,hj⟩)
  ·exact aqs (i:=i) (by rw[fO hlen,if_neg (by omega),if_pos rfl])
  ·exact aqs (i:=i+1) (by rw[fO hlen,if_neg (by omega),if_neg (by omega),if_pos rfl])
  ·rcases Nat.lt_or_ge j i with h|h
   ·exact aqs (i:=j) (by rw[fO hlen,if_pos h];exact hj)
   ·exact aqs (i:=j+1) (by rw[fO hlen,if_neg (by omega),if_neg (by omega),if_neg (by omega)];exact hj)
theorem nP {l:List Nd}{i:Nat}{nd a x:Nd}(hi:l[i]?=some nd):x∈l.set i a↔x=a\/∃ j,j≠i/\l[j]?=some x:=by
 have hlen:=(aqq.1 hi).1;constructor
 ·intro h
  obtain⟨j,hj⟩:=aqp h;rw[List.getElem?_set]at hj;split at hj
  ·exact .inl (aqu hj).symm
  ·rename_i e
   exact .inr ⟨j,fun h=>e h.symm,hj⟩
 ·rintro (rfl|⟨j,hne,hj⟩)
  ·exact aqs (i:=i) (by rw[List.getElem?_set_self hlen])
  ·exact aqs (i:=j) (by rw[List.getElem?_set_ne (fun e=>hne e.symm)];exact hj)
theorem kN {l:List Sl}{key:ByteArray}{r:Int}{s:Sl}:s∈eP l key r↔s∈l\/s=⟨key,r⟩:=by
 unfold eP;constructor
 ·intro h
  rcases List.mem_append.1 h with h|h
  ·exact .inl (List.mem_of_mem_take h)
  ·rcases List.mem_cons.1 h with h|h
   ·exact .inr h
   ·exact .inl (List.mem_of_mem_drop h)
 ·rintro (h|rfl)
  ·rw[← List.take_append_drop (gM l key) l]at h
   rcases List.mem_append.1 h with h|h
   ·exact List.mem_append_left _ h
   ·exact List.mem_append_right _ (List.mem_cons_of_mem _ h)
  ·exact List.mem_append_right _ List.mem_cons_self
theorem Tl {k i:Nat}{l:List Nd}{nd:Nd}{key:ByteArray}{r n:Int}{sp:Bool}(hk:t[k]?=some l)(hi:l[i]?=some nd)(id:Int):qF (l9 t k i l nd (aZ nd.pg key r) n sp) k id↔qF t k id\/id=r:=by
 have xg:=(aqq.1 hk).1;have hnd:=aqs hi;have e:(aZ nd.pg key r).sl=eP nd.pg.sl key r:=rfl;constructor
 ·rintro ⟨l',x,s,hl',hx,hs,rfl⟩
  have fin:s∈eP nd.pg.sl key r->qF t k s.r\/s.r=r:=fun h=>by
   rcases kN.1 h with h|rfl
   ·exact .inl ⟨l,nd,s,hk,hnd,h,rfl⟩
   ·exact .inr rfl
  cases sp with
  | false=>
   have hl':(t.set k (l.set i { nd with pg:=aZ nd.pg key r }))[k]?=some l' := hl';rw[List.getElem?_set_self xg]at hl';obtain rfl:=aqu hl';rcases(nP hi).1 hx with rfl|⟨j,_,hj⟩
   ·exact fin hs
   ·exact .inl ⟨l,x,s,hk,aqs hj,hs,rfl⟩
  | true=>
   have hl':(t.set k (vQ l i { nd with pg:=fy (aZ nd.pg key r) n } ⟨n,bM (aZ nd.pg key r),dD (aZ nd.pg key r)⟩))[k]?=some l' := hl';rw[List.getElem?_set_self xg]at hl';obtain rfl:=aqu hl';rcases(mh hi).1 hx with rfl|rfl|⟨j,_,hj⟩
   ·exact fin (List.mem_of_mem_take hs)
   ·exact fin (List.mem_of_mem_drop hs)
   ·exact .inl ⟨l,x,s,hk,aqs hj,hs,rfl⟩
 ·intro h
  have fin:(∃ s,s∈eP nd.pg.sl key r/\s.r=id)\/(∃ j x s,j≠i/\l[j]?=some x/\s∈x.pg.sl/\s.r=id):=by
   rcases h with⟨l',x,s,hl',hx,hs,rfl⟩|rfl
   ·rw[hk]at hl'
    obtain rfl:=aqu hl';obtain⟨j,hj⟩:=aqp hx;by_cases e:j=i
    ·subst e
     rw[hi]at hj;obtain rfl:=aqu hj;exact .inl ⟨s,kN.2 (.inl hs),rfl⟩
    ·exact .inr ⟨j,x,s,e,hj,hs,rfl⟩
   ·exact .inl ⟨⟨key,id⟩,kN.2 (.inr rfl),rfl⟩
  cases sp with
  | false=>
   have e1:(l9 t k i l nd (aZ nd.pg key r) n false)[k]?=some (l.set i { nd with pg:=aZ nd.pg key r }):=List.getElem?_set_self xg;rcases fin with⟨s,hs,rfl⟩|⟨j,x,s,hne,hj,hs,rfl⟩
   ·exact⟨_,_,s,e1,(nP hi).2 (.inl rfl),hs,rfl⟩
   ·exact⟨_,x,s,e1,(nP hi).2 (.inr ⟨j,hne,hj⟩),hs,rfl⟩
  | true=>
   have e1:(l9 t k i l nd (aZ nd.pg key r) n true)[k]?=some (vQ l i { nd with pg:=fy (aZ nd.pg key r) n } ⟨n,bM (aZ nd.pg key r),dD (aZ nd.pg key r)⟩):=List.getElem?_set_self xg;rcases fin with⟨s,hs,rfl⟩|⟨j,x,s,hne,hj,hs,rfl⟩
   ·rw[← List.take_append_drop (gm (eP nd.pg.sl key r).length) (eP nd.pg.sl key r)]at hs
    rcases List.mem_append.1 hs with hs|hs
    ·exact⟨_,_,s,e1,(mh hi).2 (.inl rfl),hs,rfl⟩
    ·exact⟨_,_,s,e1,(mh hi).2 (.inr (.inl rfl)),hs,rfl⟩
   ·exact⟨_,x,s,e1,(mh hi).2 (.inr (.inr ⟨j,hne,hj⟩)),hs,rfl⟩
theorem jb {k i k':Nat}{l:List Nd}{nd:Nd}{fu:Pg}{n:Int}{sp:Bool}(h:k' ≠ k):(l9 t k i l nd fu n sp)[k']?=t[k']? := by
 unfold l9;split
 ·exact List.getElem?_set_ne (fun e=>h e.symm)
 ·exact List.getElem?_set_ne (fun e=>h e.symm)
theorem uM {k i:Nat}{l:List Nd}{nd:Nd}{fu:Pg}{n:Int}{sp:Bool}:(l9 t k i l nd fu n sp).length=t.length:=by
 unfold l9;split <;> exact List.length_set
end
def small (l:List Nd):Bool:=match l with
 | [nd]=>decide (nd.pg.sl.length<=3)
 | _=>false
def wI (d:aR):Nat:=2*(d.fa.toNat+6)+12
def wC (d:aR)(N:Nat):Nat:=N*bT d+1+qE d+wI d
def gI (d:aR):Nat:=20+wC d 1
def gC (d:aR)(B:Nat):Nat:=B*bT d+1+qE d+gI d
def cU (d:aR)(B:Nat):List (List Nd)->Nat
 | []=>gC d B
 | l::r=>wC d ((l::r).map List.length).sum+if small l then 0 else cU d B r
def cL (t:List (List Nd))(n:Nat):Nat:=if (t[n]?.map small).getD false then 0 else t.length+1-n
theorem jm (t:List (List Nd))(n:Nat):pE t n=((t.drop n).map List.length).sum:=by
 unfold pE cS;conv=>lhs;rw[← List.take_append_drop n t]
 rw[List.map_append,List.sum_append];by_cases h:n<=t.length
 ·rw[List.take_append_of_le_length (by rw[List.length_take];omega),List.take_take,Nat.min_self];omega
 ·rw[List.drop_of_length_le (by omega),List.append_nil,List.take_take,Nat.min_self];simp
theorem drop_cons {t:List (List Nd)}{n:Nat}{l:List Nd}(h:t[n]?=some l):t.drop n=l::t.drop (n+1):=by
 obtain⟨h1,h2⟩:=aqq.1 h;rw[List.drop_eq_getElem_cons h1,h2]
theorem Tm (d:aR)(B:Nat){t:List (List Nd)}{n:Nat}{l:List Nd}(h:t[n]?=some l):cU d B (t.drop n)=wC d (pE t n)+if small l then 0 else cU d B (t.drop (n+1)):=by
 rw[jm,drop_cons h];rfl
theorem xq {l:List Nd}{i:Nat}{nd:Nd}(h:small l=true)(hi:l[i]?=some nd):nd.pg.sl.length<=3:=by
 unfold small at h;split at h
 ·rename_i x
  cases i with
  | zero=>
   obtain rfl:x=nd:=by simpa using hi
   exact of_decide_eq_true h
  | succ i=>simp at hi
 ·cases h
end Go.Proofs.YtlpdhhhgckpcfaaGreat
