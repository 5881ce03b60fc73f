/- dP.View: Level. The low keys of the. -/
import Derived.Test.YtlpdhhhgckpcfaaGreatPoAll
namespace Go.Proofs.YtlpdhhhgckpcfaaGreat
set_option linter.unusedSimpArgs false
set_option linter.unusedVariables false
open Go.RowKit
set_option maxHeartbeats 16000000
set_option maxRecDepth 100000
section
def aQ (l:List Int):List Value:=l.map (Value.int .u64 ·)
theorem sk (l:List Int)(x:Int):aQ (l++[x])=aQ l++[.int .u64 x]:=by simp[aQ]
theorem Li:(Tryz.prog.info? 23).map (fun i=>(i.zero,i.size,i.bytes))=some (some (.int .u64 0),1,8):=by kernel_rfl
def gX (t:List (List Nd))(k:Nat):List Int:=match t[k]? with
 | some l=>l.map (·.id)
 | none=>[]
theorem Eb {d:aR}{L:List aO}{t:List (List Nd)}(ht:cD d L t){j:Nat}{l l':List Nd}{nd:Nd}(hl:t[j]?=some l)(hl':t[j+1]?=some l')(h0:l'[0]?=some nd):∃s r c,nd.pg.sl=s::r/\l[0]?=some c/\s.r=c.id:=by
 obtain⟨⟨s,r,hs,hk⟩,hall⟩:=ht.down j l l' hl hl' nd (aq7 h0);obtain⟨c,hc,hid,dW⟩:=hall s (by rw[hs];simp)
 obtain⟨i,hi⟩:=aq4 hc;have hn:=(ht.rows (j+1) l' hl').first nd h0
 have hrow:=ht.rows j l hl;refine⟨s,r,c,hs,?_,hid.symm⟩;rcases Nat.eq_zero_or_pos i with h|h
 ·rw[←h];exact hi
 ·obtain⟨a,ha⟩:∃a,l[0]?=some a:=⟨_,aq8 hrow.ne⟩
  have:=hrow.pH i 0 a c ha hi h;rw[dW,hk,hn,jd]at this;cases this
def LvI (t:List (List Nd))(k i:Nat)(n0:Int):Prop:=
 i<=(gX t k).length/\((∃(l:List Nd) (nd:Nd),t[k]?=some l/\l[i]?=some nd/\n0=nd.id)\/(n0=0/\i=(gX t k).length)\/(t.length<=k/\i=0/\∃(j:Nat) (l:List Nd) (nd:Nd),t[j]?=some l/\nd∈l/\n0=nd.id/\j<k))
def Vg:Value->Nat
 | .slice _ n _=>n
 | _=>0
theorem List.cX {t:List (List Nd)}{k:Nat}{l:List Nd}(h:t[k]?=some l):l.length<=(t.map List.length).sum:=by
 have h2:(t.map List.length).sum=((t.take (k+1)).map List.length).sum+((t.drop (k+1)).map List.length).sum:=by
  rw[←List.sum_append,←List.map_append,List.take_append_drop]
 rw[List.take_add_one,h]at h2;simp at h2;omega
section
variable {K:aL}{w:World}{F:List aC}{d:aR}{g:Nat}{L:List aO}{t:List (List Nd)}{k:Nat}
theorem iU (hd:d.Ok)(ht:cD d L t)(hk:k<=t.length)(hg:K.map g=some (.cells (flat L).toArray 63))(hl:L.length<=1000000)(hs:St K w F) :
  Calls Tryz.prog 27 #[.agg #[.int .i64 (d).th,.int .i64 (d).sn,.int .i64 (d).no,.int .i64 (d).ch,.int .i64 (d).re,.int .i64 (d).fa,.int .u64 (d).cl,.slice (some ⟨g,0,none⟩) L.length L.length],.int .i64 k] w fun e w' => ∃v,e=.returned v/\St K w' (az v 23 1 (gX t k).length (aQ (gX t k))::F):=by
 have iX:=hd.mJ;have hno:((t.map List.length).sum:Int)<=d.no:=by have:=ht.count;have:=ht.n4;omega
 have htl:(t.length:Int)<=d.no:=by
  have h1:t.length<=(t.map List.length).sum:=by
   have:=rz (ps:=t.map List.length) (fun p hp=>by
    obtain⟨l,hl',rfl⟩:=List.mem_map.1 hp;obtain⟨i,hi⟩:=aq4 hl';exact(ht.rows i l hi).ne)
   simpa using this
  omega
 obtain⟨iv,cZ,dc,dg,dh⟩:=info_parts Li;have lI:=aq3 cZ;have lJ:=aq3 dc;have lK:=aq3 dg;have lM:=aq3 dh;clear cZ dc dg dh;have hs:=hs.made (.cells #[.int .i64 (d).th,.int .i64 (d).sn,.int .i64 (d).no,.int .i64 (d).ch,.int .i64 (d).re,.int .i64 (d).fa,.int .u64 (d).cl,.slice (some ⟨g,0,none⟩) L.length L.length] 52);obtain⟨bv,nS⟩:∃bv,bv=w.heap.size:=⟨_,rfl⟩;have Q0:=aq3 (fun W cs (h:St K W cs)=>gq (d:=d) 0 W (kR hg hl h))
 have Qn:=aq3 (fun(id:Int) (hid:0<=id/\id<18446744073709551616) W cs (h:St K W cs)=>nR hd id hid hg hl h)
 have Qp:=aq3 (fun(j:Nat) (l:List Nd) (nd:Nd) (hj:t[j]?=some l) (hn:nd∈l) W cs (h:St K W cs)=>fD hd (ht.nodes j l hj nd hn).id.1 (ht.nodes j l hj nd hn).id.2 (ht.nodes j l hj nd hn).page hg hl h)
 have Ht:=aq3 ht;have Hno:=aq3 hno;clear hno;obtain⟨rt,rest,fU,hroot⟩:=ht.top;rw[hroot]at Q0;have aj6:=aq3 fU;have Hne:=aq3 ht.ne;generalize L.length=n at *;clear hg ht hroot fU;go_enter Tryz.func27,Tryz.ntmps27
 go_wp2_with fail
 refine(bH hs (Q0.out _ _ hs)).mono ?_
 clear hs Q0;rintro e w1 ⟨rfl,hs⟩;go_wp2
 rw[←nS]at hs ⊢;clear nS;go_loopw [5,6,7] (fun v5 v6 _ wr=>∃(j q:Nat) (l:List Nd) (nd:Nd),v5=.int .u64 nd.id/\v6=.int .i64 q/\Hid (t[j]?=some l/\l[0]?=some nd)/\q+j+1=t.length/\(k<=j\/j+1=t.length)/\St K wr (blk bv (.cells #[.int .i64 (d).th,.int .i64 (d).sn,.int .i64 (d).no,.int .i64 (d).ch,.int .i64 (d).re,.int .i64 (d).fa,.int .u64 (d).cl,.slice (some ⟨g,0,none⟩) n n] 52)::F)) (fun _ v6 _ _=>t.length-(intOf v6).toNat)
 case atStart=>exact⟨t.length-1,0,rt::rest,rt,rfl,rfl,aq3 ⟨aj6.out,rfl⟩,by have:=Hne.out;omega,.inr (by have:=Hne.out;omega),hs⟩
 case round=>
  clear hs;obtain⟨j,q,l,nd,rfl,rfl,Hl,hqj,hkj,hs⟩:=hrel;have hok:=(Ht.out.nodes j l Hl.out.1 nd (aq7 Hl.out.2)).id;have Wq:=Ht.out.used j l Hl.out.1 nd (aq7 Hl.out.2);have bZ:=(Ht.out.rows j l Hl.out.1).ak nd (aq7 Hl.out.2);have qn:=Qn.out nd.id (by omega)
  rw[decide_eq_true (show 1<=nd.id/\nd.id<=d.no/\nd.id<=(ah L 4).n from⟨hok.1,hok.2,Wq⟩)]at qn
  have QN:=aq3 qn;have QP:=aq3 (Qp.out j l nd Hl.out.1 (aq7 Hl.out.2));have hq1:(q:Int)<=d.no:=by omega
  have uE:=aq3 bZ;have Yk:=aq3 hok;clear qn hok Wq bZ;have kv:=hs.k0;go_wp2_with fail
  refine(QN.out _ _ hs).mono ?_
  clear hs kv;rintro e w2 ⟨rfl,hs⟩;have kv:=hs.k0;go_wp2_with fail
  refine(QP.out _ _ hs).mono ?_
  clear hs kv;rintro e w3 ⟨va,rfl,hs⟩;obtain⟨a,c,rfl,_,_⟩:=hs.aH;have hs:=hs.tail;have kv:=hs.k0;rw[uE.out];by_cases hjk:k<j
  ·obtain⟨j',rfl⟩:∃j',j=j' + 1:=⟨j-1,by omega⟩
   obtain⟨l2,hl2⟩:∃l2,t[j']?=some l2:=⟨_,aq8 (by omega)⟩
   obtain⟨s,r,cc,eY,hcc,Xk⟩:=Eb Ht.out hl2 Hl.out.1 Hl.out.2;have s6:=aq3 eY;have Hcc:=aq3 (And.intro hl2 hcc);have Hsr:=aq3 Xk;have hlen:0<nd.pg.sl.length:=by rw[eY];simp
   clear hl2 hcc eY Xk;go_wp2_with fail
   refine(QP.out _ _ hs).mono ?_
   clear hs kv;rintro e w4 ⟨va,rfl,hs⟩;obtain⟨a2,c2,rfl,_,_⟩:=hs.aH;obtain⟨g2,rfl,c1⟩:=hs.cQ (show(aD nd.pg.sl)[1]?=some (.int .u64 s.r)by rw[s6.out];rfl)
   have hs:=hs.made (.cells #[.int .i64 (nd.pg).ak,(.slice (some ⟨g2,0,none⟩) nd.pg.sl.length c2),.string (nd.pg).hi,.bool (nd.pg).la,.int .u64 (nd.pg).ri] 43);have c1' := (show St (K) _ (az _ _ _ _ _::_)from hs.b1).bK (show(aD nd.pg.sl)[1]?=some (.int .u64 s.r)by rw[s6.out];rfl)
   have kp:=hs.k0;go_wp2
   rw[Hsr.out];go_roundw
   case rel=>exact⟨j',q+1,l2,cc,rfl,by go_num,Hcc,by omega,.inl (by omega),hs.tail.tail⟩
   case measure=>simp[intOf];omega
  ·have hs:=hs.cF (T:=23) (size:=1)
   have hf:¬ ((k:Int)<j):=by omega
   have hI:LvI t k 0 nd.id:=by
    refine⟨Nat.zero_le _,?_⟩;by_cases xG:k<t.length
    ·obtain rfl:j=k:=by omega
     exact .inl ⟨l,nd,Hl.out.1,Hl.out.2,rfl⟩
    ·exact .inr (.inr ⟨by omega,rfl,j,l,nd,Hl.out.1,aq7 Hl.out.2,rfl,by omega⟩)
   have HI:=aq3 hI;clear hI QN QP;go_wp2
   go_loopw [5,8] (fun v5 v8 wr=>∃(i:Nat) (n0:Int) (ao:Option Addr) (co:Nat),v5=.int .u64 n0/\v8=.slice ao i co/\Hid (LvI t k i n0)/\i<=4096/\St K wr (az (.slice ao i co) 23 1 i (aQ ((gX t k).take i))::blk bv (.cells #[.int .i64 (d).th,.int .i64 (d).sn,.int .i64 (d).no,.int .i64 (d).ch,.int .i64 (d).re,.int .i64 (d).fa,.int .u64 (d).cl,.slice (some ⟨g,0,none⟩) n n] 52)::F)) (fun _ v8 _=>5000-Vg v8)
   case atStart=>exact⟨0,nd.id,none,0,rfl,rfl,HI,by omega,hs⟩
   case round=>
    clear hs HI Hl uE Yk hqj hkj hq1 hjk hf kv;obtain⟨i,n0,ao,co,rfl,rfl,HI,alN,hs⟩:=hrel;rcases HI.out.2 with⟨l3,u6,h1,h2,rfl⟩|⟨rfl,h1⟩|⟨h1,rfl,j3,l3,u6,h2,h3,rfl,h4⟩
    ·have hm:=aq7 h2
     have hok:=(Ht.out.nodes k l3 h1 u6 hm).id;have Wq:=Ht.out.used k l3 h1 u6 hm;have bZ:=(Ht.out.rows k l3 h1).ak u6 hm;have qn:=Qn.out u6.id (by omega)
     rw[decide_eq_true (show 1<=u6.id/\u6.id<=d.no/\u6.id<=(ah L 4).n from⟨hok.1,hok.2,Wq⟩)]at qn
     have QN:=aq3 qn;have QP:=aq3 (Qp.out k l3 u6 h1 hm);have hil:i<l3.length:=(aq5.1 h2).1;have fK:gX t k=l3.map (·.id):=by unfold gX;rw[h1]
     have afn:(l3.length:Int)<=d.no:=by
      have hc:=Hno.out;have hb:=List.cX h1;omega
     have dY:(gX t k).take (i+1)=(gX t k).take i++[u6.id]:=by
      rw[fK,List.take_add_one,List.getElem?_map,h2];rfl
     have iP:=aq3 dY;have hnext:LvI t k (i+1) u6.pg.ri:=by
      have hR:=Ht.out.rows k l3 h1;refine⟨by rw[fK,List.length_map];omega,?_⟩
      rcases Nat.lt_or_ge (i+1) l3.length with hlt|hge
      ·obtain⟨b,hb⟩:∃b,l3[i+1]?=some b:=⟨_,aq8 hlt⟩
       exact .inl ⟨l3,b,h1,hb,(hR.next i u6 b h2 hb).2.2.1⟩
      ·exact .inr (.inl ⟨(hR.last i u6 h2 (by omega)).2.2,by rw[fK,List.length_map];omega⟩)
     have Vh:=aq3 hnext;have aoY:(i:Int)<d.no:=by omega
     have aoZ:i<4096:=by omega
     have uE:=aq3 bZ;clear qn hok Wq bZ hm h1 h2 fK dY hnext hil afn;have kv:=hs.k1;go_wp2_with fail
     refine(QN.out _ _ hs).mono ?_
     clear hs kv;rintro e w2 ⟨rfl,hs⟩;have kv:=hs.k1;go_wp2_with fail
     refine(QP.out _ _ hs).mono ?_
     clear hs kv;rintro e w3 ⟨va,rfl,hs⟩;obtain⟨a,c,rfl,_,_⟩:=hs.aH;have hs:=hs.tail;have kv:=hs.k1;rw[uE.out];have kk:((k:Int) == k)=true:=beq_self_eq_true _;go_wp2_with (at_builtin;refine dF _ _ 57 23 _ i 1 8 _ [.int .u64 u6.id] (.int .u64 0) iv hs rfl rfl Tryz.underlying57 lI.out lJ.out lK.out lM.out rfl (by decide) rfl rfl rfl (fun u hu=>by simp at hu;subst hu;rfl) (by omega) (by decide) ?_)
     clear hs kv;intro v' w' hs;obtain⟨mP,mQ,hv,_,_⟩:=hs.aH;subst hv;have kv:=hs.k1;go_wp2_with fail
     refine(QP.out _ _ hs).mono ?_
     clear kv hs;rintro e w5 ⟨pN,rfl,hs⟩;obtain⟨a2,c2,rfl,_,_⟩:=hs.aH;have hs:=hs.tail;go_wp2
     go_roundw
     case rel=>exact⟨i+1,u6.pg.ri,mP,mQ,rfl,rfl,Vh,by omega,by rw[iP.out,sk];exact hs⟩
     case measure=>simp only[Vg];omega
    ·have qn:=Qn.out 0 (by omega)
     rw[decide_eq_false (show ¬ ((1:Int)<=0/\(0:Int)<=d.no/\(0:Int)<=(ah L 4).n)by omega)]at qn
     have QN:=aq3 qn;have H1:=aq3 h1;clear qn h1;have kv:=hs.k1;go_wp2_with fail
     refine(QN.out _ _ hs).mono ?_
     clear hs kv;rintro e w2 ⟨rfl,hs⟩;go_wp2
     go_ret;rw[List.take_of_length_le (by rw[←H1.out];exact Nat.le_refl _)]at hs
     refine⟨_,rfl,?_⟩;rw[←H1.out];exact hs.bY
    ·have hok:=(Ht.out.nodes j3 l3 h2 u6 h3).id
     have Wq:=Ht.out.used j3 l3 h2 u6 h3;have bZ:=(Ht.out.rows j3 l3 h2).ak u6 h3;have qn:=Qn.out u6.id (by omega)
     rw[decide_eq_true (show 1<=u6.id/\u6.id<=d.no/\u6.id<=(ah L 4).n from⟨hok.1,hok.2,Wq⟩)]at qn
     have QN:=aq3 qn;have QP:=aq3 (Qp.out j3 l3 u6 h2 h3);have uE:=aq3 bZ;have fK:gX t k=[]:=by unfold gX;rw[List.getElem?_eq_none h1]
     have afo:=aq3 fK;clear qn hok Wq bZ h1 h2 h3 fK;have kv:=hs.k1;go_wp2_with fail
     refine(QN.out _ _ hs).mono ?_
     clear hs kv;rintro e w2 ⟨rfl,hs⟩;have kv:=hs.k1;go_wp2_with fail
     refine(QP.out _ _ hs).mono ?_
     clear hs kv;rintro e w3 ⟨va,rfl,hs⟩;obtain⟨a,c,rfl,_,_⟩:=hs.aH;have hs:=hs.tail;rw[uE.out];have hne:¬ ((j3:Int)=k):=by omega
     go_wp2
     go_ret;refine⟨_,rfl,?_⟩;rw[afo.out];rw[afo.out]at hs;exact hs.bY
end
section
variable {K:aL}{REST:List aC}{v5:Value}{n:Nat}{xs:List ByteArray}{hi:ByteArray}{ρ:Nat->Option Value}{W:World}{v6 v7 v8 v9:Value}
end
section
variable {K:aL}{w:World}{F:List aC}{d:aR}{g:Nat}{L:List aO}{l:List Nd}{a:Option Addr}{cap:Nat}
end
section
variable {ak:Nat}{l:List Nd}{i j:Nat}{a b:Nd}{key:ByteArray}
theorem fL.aau (h:fL ak l)(ha:l[i]?=some a)(hb:l[j]?=some b)(hij:i<j):a.pg.la=false/\cA b.low a.pg.hi=false:=by
 have hj:=(aq5.1 hb).1;obtain⟨e,he⟩:∃e,l[i+1]?=some e:=⟨_,aq8 (by omega)⟩
 obtain⟨q1,q2,_,_⟩:=h.next i a e ha he;refine⟨q1,?_⟩;rw[q2];by_cases hh:i+1=j
 ·rw[hh,hb]at he
  rw[aq9 he];exact dm _
 ·exact jc (h.pH j (i+1) e b he hb (by omega))
theorem fL.Om (h:fL ak l)(ha:l[i]?=some a)(hb:l[j]?=some b)(a1:cA key a.low=false)(a2:(a.pg.la || cA key a.pg.hi)=true)(b1:cA key b.low=false)(b2:(b.pg.la || cA key b.pg.hi)=true):i=j:=by
 rcases Nat.lt_trichotomy i j with hij|hij|hij
 ·obtain⟨q1,q2⟩:=h.aau ha hb hij
  rw[q1,Bool.false_or]at a2;have:=iz b1 a2;rw[this]at q2;cases q2
 ·exact hij
 ·obtain⟨q1,q2⟩:=h.aau hb ha hij
  rw[q1,Bool.false_or]at b2;have:=iz a1 b2;rw[this]at q2;cases q2
def gM (l:List Nd)(i:Nat):Nat:=((l.take i).map fun nd=>nd.pg.sl.length).sum
theorem ku (ha:l[i]?=some a):gM l (i+1)=gM l i+a.pg.sl.length:=by
 unfold gM;rw[List.take_add_one,ha];simp
theorem ou:∀l:List Nd,gM l l.length=(l.flatMap fun nd=>nd.pg.sl).length
 | []=>rfl
 | x::l=>by
  have e0:gM (x::l) (l.length+1)=x.pg.sl.length+gM l l.length:=by simp[gM]
  rw[List.length_cons,e0,ou l];simp
end
section
variable {d:aR}{ks:List ByteArray}{dV:Bool}{L:List aO}{t:List (List Nd)}{l:List Nd}{i p:Nat}{a:Nd}{key:ByteArray}{s:Sl}
end
end
section
section
variable {K:aL}{w:World}{F:List aC}{d:aR}{g:Nat}{L:List aO}
theorem zq {c:Int}{vs:List Fs}(hd:d.Ok)(hc:1<=c/\c<=d.ch)(hlk:ua d L (ah L (d.chain c)).n vs)(hn:(vs.length:Int)<=d.re)(hg:K.map g=some (.cells (flat L).toArray 63))(hl:L.length<=1000000)(hs:St K w F) :
  Calls Tryz.prog 124 #[.agg #[.int .i64 (d).th,.int .i64 (d).sn,.int .i64 (d).no,.int .i64 (d).ch,.int .i64 (d).re,.int .i64 (d).fa,.int .u64 (d).cl,.slice (some ⟨g,0,none⟩) L.length L.length],.int .u64 c] w fun e w' => ∃v,e=.returned v/\St K w' (az v 186 3 vs.length (gS vs)::F):=by
 have ao0:=hd.Zr;have ao1:=hd.re2;have ao4:=hd.ch2;obtain⟨iv,cZ,dc,dg,dh⟩:=info_parts Zj;have lI:=aq3 cZ;have lJ:=aq3 dc;have lK:=aq3 dg;have lM:=aq3 dh;clear cZ dc dg dh;have hs:=hs.made (.cells #[.int .i64 (d).th,.int .i64 (d).sn,.int .i64 (d).no,.int .i64 (d).ch,.int .i64 (d).re,.int .i64 (d).fa,.int .u64 (d).cl,.slice (some ⟨g,0,none⟩) L.length L.length] 52);obtain⟨bv,nS⟩:∃bv,bv=w.heap.size:=⟨_,rfl⟩;have Qc:=aq3 (fun w=>pZ d hd c (by omega) (by omega) w)
 have Qr:=aq3 (fun(r k:Int) (h1:0<=r/\r<=d.re) (h2:0<=k/\k<=2) w=>vE d hd r k (by omega) (by omega) h2.1 h2.2 w)
 have Q:=aq3 (fun(i:Int) W cs (h:St K W cs)=>gq (d:=d) i W (kR hg hl h))
 obtain⟨m,hm⟩:∃m,m=vs.length:=⟨_,rfl⟩;have Hlk:=aq3 hlk;have Hm:=aq3 hm;rw[←hm]at hn ⊢;generalize L.length=n at *;have k0:=hs.k0;have hs0:=hs.cF (T:=186) (size:=3);clear hlk hm;go_enter Tryz.func124,Tryz.ntmps124
 go_upto_region 2 with(fail)
 have Qy:=aq3 (fun wz (hy:∃x:Ext,wz=over (w.alloc (.cells #[.int .i64 (d).th,.int .i64 (d).sn,.int .i64 (d).no,.int .i64 (d).ch,.int .i64 (d).re,.int .i64 (d).fa,.int .u64 (d).cl,.slice (some ⟨g,0,none⟩) n n] 52)) x)=>Q.out (d.chain c) wz _ (hs.same (Pure.below hy)))
 generalize ah L (d.chain c)=cc at *;refine bI (by kernel_rfl) (by kernel_rfl) ?_
 repeat (go_big_quiet_step (first|(go_at_call 123;exact aX (Qc.out _))|(go_at_call 83;exact aX (Qy.out _ ⟨_,rfl⟩))))
 refine wpQuiet_nil ?_
 intro w1 hb1;rw[←nS]at hs0 ⊢;have hs:=hs0.same (by simpa using hb1)
 clear hs0 hb1 k0 Qy Qc nS;go_wp2
 go_loopw [5,6,7] (fun v5 v6 v7 wr=>∃(i:Nat) (r:Int) (ao:Option Addr) (co:Nat),v5=.slice ao i co/\v6=.int .u64 r/\v7=.int .i64 i/\i<=m/\Hid (ua d L r (vs.drop i)) /\
  St K wr (az (.slice ao i co) 186 3 i (gS (vs.take i))::blk bv (.cells #[.int .i64 (d).th,.int .i64 (d).sn,.int .i64 (d).no,.int .i64 (d).ch,.int .i64 (d).re,.int .i64 (d).fa,.int .u64 (d).cl,.slice (some ⟨g,0,none⟩) n n] 52)::F)) (fun _ _ v7 _=>m-(intOf v7).toNat)
 case atStart=>exact⟨0,_,none,0,rfl,rfl,rfl,by omega,Hlk,hs⟩
 case round=>
  clear hs Hlk;obtain⟨i,r,ao,co,rfl,rfl,rfl,hi,HR,hs⟩:=hrel;by_cases him:i<m
  ·obtain⟨x,hx⟩:∃x,vs[i]?=some x:=⟨_,aq8 (by have:=Hm.out;omega)⟩
   have aav:vs.drop i=x::vs.drop (i+1):=by
    have:=List.drop_eq_getElem_cons (aq5.1 hx).1;rw[(aq5.1 hx).2]at this;exact this
   have hr:=HR.out;rw[aav]at hr;obtain⟨rfl,Pd,hnext⟩:=hr;obtain⟨r1,r2,r3,r4,r5⟩:=Pd;have hpos:=Fq hd r1 r2 (k:=0) (by omega) (by omega)
   have dY:gS (vs.take (i+1))=gS (vs.take i)++qO x:=by rw[List.take_add_one,hx];simp[gS]
   have hdel:((ah L (d.record x.r 1)).m == 1)=x.del:=by rw[r5];cases x.del <;> rfl
   have iP:=aq3 dY;have Vh:=aq3 hnext;have ao5:(i:Int)<d.re:=by omega
   have q1:=Q.out (d.record x.r 1);have q0:=Q.out (d.record x.r 0);have q2:=Q.out (d.record x.r 2);rw[r3]at q0;rw[r4]at q1;have Q1:=aq3 q1;have Q0:=aq3 q0;have Q2:=aq3 q2;have Qr0:=aq3 (fun w=>Qr.out x.r 0 (by omega) (by omega) w)
   have Qr1:=aq3 (fun w=>Qr.out x.r 1 (by omega) (by omega) w)
   have Qr2:=aq3 (fun w=>Qr.out x.r 2 (by omega) (by omega) w)
   have aj7:=aq3 hdel;generalize ah L (d.record x.r 1)=c1 at *;generalize ah L (d.record x.r 0)=c0 at *;generalize ah L (d.record x.r 2)=c2 at *;generalize d.record x.r 0=e0 at *;generalize d.record x.r 1=e1 at *;generalize d.record x.r 2=e2 at *;clear hx aav dY hnext r3 r4 r5 hdel q0 q1 q2 HR;have kv:=hs.k1;go_wp2_with fail
   refine(bH hs (Qr0.out _)).mono ?_
   clear hs kv;rintro e w2 ⟨rfl,hs⟩;have kv:=hs.k1;go_upto_region 6 with(fail)
   have Hs:=aq3 hs;clear hs kv;refine fY [false,false,false,false,false,false,true,true] 6 7
    (fun W=>St K W (az (.slice ao i co) 186 3 i (gS (vs.take i))::blk bv (.cells #[.int .i64 (d).th,.int .i64 (d).sn,.int .i64 (d).no,.int .i64 (d).ch,.int .i64 (d).re,.int .i64 (d).fa,.int .u64 (d).cl,.slice (some ⟨g,0,none⟩) n n] 52)::F))
    (fun v W=>∃b6:Nat,v=(.pointer (some ⟨b6,0,none⟩))/\St K W (blk b6 (.cells #[.int .u64 0,.string ⟨#[]⟩,.int .u64 0] 63)::az (.slice ao i co) 186 3 i (gS (vs.take i))::blk bv (.cells #[.int .i64 (d).th,.int .i64 (d).sn,.int .i64 (d).no,.int .i64 (d).ch,.int .i64 (d).re,.int .i64 (d).fa,.int .u64 (d).cl,.slice (some ⟨g,0,none⟩) n n] 52)::F))
    (fun v u W=>u=undef/\∃b6:Nat,v=(.pointer (some ⟨b6,0,none⟩))/\St K W (blk b6 (.cells #[.int .u64 c1.n,.string x.k,.int .u64 c1.m] 63)::az (.slice ao i co) 186 3 i (gS (vs.take i))::blk bv (.cells #[.int .i64 (d).th,.int .i64 (d).sn,.int .i64 (d).no,.int .i64 (d).ch,.int .i64 (d).re,.int .i64 (d).fa,.int .u64 (d).cl,.slice (some ⟨g,0,none⟩) n n] 52)::F))
    (fun W=>∃cs,St K W (az (.slice ao i co) 186 3 i (gS (vs.take i))::blk bv (.cells #[.int .i64 (d).th,.int .i64 (d).sn,.int .i64 (d).no,.int .i64 (d).ch,.int .i64 (d).re,.int .i64 (d).fa,.int .u64 (d).cl,.slice (some ⟨g,0,none⟩) n n] 52)::cs)) ?aS (by decide) (by kernel_rfl) ?hB ?H ?iD Hs.out ?hI ?hR ?Fx ?vK ?hQ
   case hB=>as_aux_lemma=>kernel_rfl
   case H=>
    rintro W2 ⟨cs,hs⟩;have kv:=hs.k1;have Qy:=aq3 (fun wz (hy:∃x:Ext,wz=over W2 x)=>Q1.out wz _ (hs.same (Pure.below hy)))
    clear hs;simp only[bL];repeat (go_big_quiet_step (first|(go_at_call 155;exact aX (Qr1.out _))|(go_at_call 83;exact aX (Qy.out _ ⟨_,rfl⟩))))
    refine wpQuiet_nil ?_
    rfl
   case iD=>rfl
   case hI=>exact⟨fun W h=>⟨_,h⟩,fun v W ⟨_,_,h⟩=>⟨_,h.tail⟩,fun v u W ⟨_,_,_,h⟩=>⟨_,h.tail⟩⟩
   case hR=>exact⟨fun W W' h hb=>h.same hb,fun v W W' ⟨b,e,h⟩ hb=>⟨b,e,h.same hb⟩,fun v u W W' ⟨e0,b,e,h⟩ hb=>⟨e0,b,e,h.same hb⟩⟩
   case Fx=>
    intro rj o ho ρ W2 hs hk af aB;obtain rfl:=aq9 ho;subst aB;have Hk:=aq3 hk;clear hk;have hs:=hs.made (.cells #[.int .u64 0,.string ⟨#[]⟩,.int .u64 0] 63);go_wp2
    exact⟨rfl,_,rfl,Hk.out _ _ ⟨_,rfl,hs⟩⟩
   case vK=>
    rintro rj o ho ρ v W2 ⟨b6,rfl,hs⟩ hk af aB;obtain rfl:=aq9 ho;have Hk:=aq3 hk;clear hk;simp only[aM,List.getElem?_cons_succ,List.getElem?_cons_zero,Option.bind_some,Act.put,List.setIfInBounds_toArray,List.set_cons_zero,List.set_cons_succ]at aB;subst aB;have k0:=hs.k0;have f0:=hs.f0;have hs:=((hs.aI 0 (.int .u64 c1.n)).aI 1 (.string x.k)).aI 2 (.int .u64 c1.m);simp only[List.set_cons_zero,List.set_cons_succ]at hs;go_wp2
    exact⟨rfl,undef,rfl,Hk.out _ _ ⟨rfl,b6,rfl,hs⟩⟩
   case hQ=>
    rintro v u W2 ⟨rfl,b6,rfl,hs⟩;simp only[aM,Act.put,ara];have k6:=hs.k0;have kv:=hs.k2;have Qy:=aq3 (fun wz (hy:∃x:Ext,wz=over W2 x)=>Q0.out wz _ (hs.same (Pure.below hy)))
    go_upto_region 7 with(fail)
    refine fw _ 13 rfl rfl (by kernel_rfl) (by as_aux_lemma=>kernel_rfl) (fun _ _ _ _ h=>h) ?_
    simp only[List.take_succ_cons,List.take_zero,List.drop_succ_cons,List.drop_zero,Act.put,List.setIfInBounds_toArray,List.set_cons_zero,List.set_cons_succ,Act.eval];repeat (go_big_quiet_step (first|(go_at_call 155;exact aX (Qr0.out _))|(go_at_call 83;exact aX (Qy.out _ ⟨_,rfl⟩))))
    refine wpQuiet_nil ?_
    intro w5 hb5;have hs:=hs.same hb5;clear k6 kv hb5 Qy;have hs:=hs.b1;rw[aj7.out];go_wp2_with (at_builtin;refine dF _ _ 182 186 _ i 3 32 _ (qO x) (.agg #[.int .u64 0,.string ⟨#[]⟩,.bool false]) iv hs rfl rfl Tryz.underlying182 lI.out lJ.out lK.out lM.out rfl (by decide) rfl rfl rfl (fun u hu=>by simp[qO]at hu;rcases hu with rfl|rfl|rfl <;> rfl) (by omega) (by decide) ?_)
    clear hs;intro v' w' hs;obtain⟨mP,mQ,hv,_,_⟩:=hs.aH;subst hv;rw[←iP.out]at hs;have hs:=hs.bY;have kv:=hs.k1;have Qy:=aq3 (fun wz (hy:∃x:Ext,wz=over w' x)=>Q2.out wz _ (hs.same (Pure.below hy)))
    go_upto_region 8 with(fail)
    refine bI (by kernel_rfl) (by kernel_rfl) ?_
    repeat (go_big_quiet_step (first|(go_at_call 155;exact aX (Qr2.out _))|(go_at_call 83;exact aX (Qy.out _ ⟨_,rfl⟩))))
    refine wpQuiet_nil ?_
    intro w6 Qk;have hs:=hs.same Qk;clear kv Qk Qy;go_wp2
    go_roundw
    case rel=>exact⟨i+1,_,mP,mQ,rfl,rfl,by go_num,by omega,Vh,hs⟩
    case measure=>simp[intOf];omega
  ·obtain rfl:i=m:=by omega
   have hr:=HR.out;rw[List.drop_of_length_le (by rw[←Hm.out];exact Nat.le_refl _)]at hr
   obtain rfl:r=0:=hr;clear HR;have q:=fun w=>Qr.out 0 0 (by omega) (by omega) w
   rw[show d.record 0 0= -1 by unfold aR.record;rw[if_neg (by omega)]]at q
   have QR:=aq3 q;clear q;rw[List.take_of_length_le (by rw[←Hm.out];exact Nat.le_refl _)]at hs
   have kv:=hs.k1;by_cases hre:(i:Int)<d.re
   ·go_wp2_with fail
    refine(bH hs (QR.out _)).mono ?_
    clear hs kv;rintro e w2 ⟨rfl,hs⟩;go_wp2
    go_ret;exact⟨_,rfl,hs.bY⟩
   ·go_wp2
    go_ret;exact⟨_,rfl,hs.bY⟩
variable {t:List (List Nd)}
theorem Ec (hd:d.Ok)(ht:cD d L t){l:List Nd}(h0:t[0]?=some l)(hg:K.map g=some (.cells (flat L).toArray 63))(hl:L.length<=1000000)(hs:St K w F) :
  Calls Tryz.prog 63 #[.agg #[.int .i64 (d).th,.int .i64 (d).sn,.int .i64 (d).no,.int .i64 (d).ch,.int .i64 (d).re,.int .i64 (d).fa,.int .u64 (d).cl,.slice (some ⟨g,0,none⟩) L.length L.length]] w fun e w' => ∃v,e=.returned v/\St K w' (az v 23 1 (l.flatMap fun nd=>nd.pg.sl).length (aQ ((l.flatMap fun nd=>nd.pg.sl).map (·.r)))::F):=by
 have iX:=hd.mJ;have vT:=hd.mK;have Vi:=ht.ne;obtain⟨iv,cZ,dc,dg,dh⟩:=info_parts Li;have lI:=aq3 cZ;have lJ:=aq3 dc;have lK:=aq3 dg;have lM:=aq3 dh;clear cZ dc dg dh;have hs:=hs.made (.cells #[.int .i64 (d).th,.int .i64 (d).sn,.int .i64 (d).no,.int .i64 (d).ch,.int .i64 (d).re,.int .i64 (d).fa,.int .u64 (d).cl,.slice (some ⟨g,0,none⟩) L.length L.length] 52);obtain⟨bv,nS⟩:∃bv,bv=w.heap.size:=⟨_,rfl⟩;have hlen:l.length<=4096:=by have:=List.cX h0;have:=ht.count;have:=ht.n4;omega
 have eY:∀nd,nd∈l->nd.pg.sl.length<=4096:=fun nd hn=>by have:=(ht.nodes 0 l h0 nd hn).page.le;omega
 have htot:∀i,i<=l.length->gM l i<=i*4096:=by
  intro i;induction i with
  | zero=>intro _;exact Nat.le_refl _
  | succ i ih=>
   intro hi;obtain⟨a,ha⟩:∃a,l[i]?=some a:=⟨_,aq8 (by omega)⟩
   have:=ih (by omega)
   have:=eY a (aq7 ha);rw[ku ha];omega
 have Ql:=aq3 (fun W cs (h:St K W cs)=>iU (k:=0) hd ht (by omega) hg hl h)
 have Qp:=aq3 (fun(nd:Nd) (hn:nd∈l) W cs (h:St K W cs)=>fD hd (ht.nodes 0 l h0 nd hn).id.1 (ht.nodes 0 l h0 nd hn).id.2 (ht.nodes 0 l h0 nd hn).page hg hl h)
 have fK:gX t 0=l.map (·.id):=by unfold gX;rw[h0]
 rw[fK]at Ql;have Ed:(l.map (·.id)).length=l.length:=List.length_map ..
 rw[Ed]at Ql;obtain⟨m,hm⟩:∃m,m=l.length:=⟨_,rfl⟩;have Hm:=aq3 hm;have s6:=aq3 eY;have acv:=aq3 htot;rw[←hm]at Ql hlen;generalize L.length=n at *;clear ht hg fK Ed hm h0 eY htot Vi;go_enter Tryz.func63,Tryz.ntmps63
 go_wp2_with fail
 refine(Ql.out _ _ hs).mono ?_
 rw[←nS]at hs ⊢;clear hs Ql nS;rintro e w1 ⟨va,rfl,hs⟩;obtain⟨a,cap,rfl,_,_⟩:=hs.aH;have hs:=hs.cF (T:=23) (size:=1);go_wp2
 go_loopw [3,5] (fun v3 v5 wr=>∃(i:Nat) (ao:Option Addr) (co:Nat),v3=.slice ao (gM l i) co/\v5=.int .i64 i/\i<=m /\
  St K wr (az (.slice ao (gM l i) co) 23 1 (gM l i) (aQ (((l.take i).flatMap fun nd=>nd.pg.sl).map (·.r)))::az (.slice a m cap) 23 1 m (aQ (l.map (·.id)))::blk bv (.cells #[.int .i64 (d).th,.int .i64 (d).sn,.int .i64 (d).no,.int .i64 (d).ch,.int .i64 (d).re,.int .i64 (d).fa,.int .u64 (d).cl,.slice (some ⟨g,0,none⟩) n n] 52)::F)) (fun _ v5 _=>m-(intOf v5).toNat)
 case atStart=>exact⟨0,none,0,rfl,rfl,by omega,hs⟩
 case round=>
  clear hs;obtain⟨i,ao,co,rfl,rfl,hi,hs⟩:=hrel;by_cases him:i<m
  ·obtain⟨nd,hnd⟩:∃nd,l[i]?=some nd:=⟨_,aq8 (by have:=Hm.out;omega)⟩
   have QN:=aq3 (Qp.out nd (aq7 hnd));obtain⟨ga,Oo,_⟩:=(show St K wr (az _ _ _ _ _::_)from hs.b1).cQ (show(aQ (l.map (·.id)))[i]?=some (.int .u64 nd.id)by simp[aQ,hnd])
   subst Oo;have Od:=aq3 hnd;have hq4:=s6.out nd (aq7 hnd);have ht4:=acv.out i (by have:=Hm.out;omega)
   have hpos:gM l i<=16777216:=by have:=Nat.mul_le_mul_right 4096 (show i<=4096 by omega);omega
   have Ee:=ku hnd;have hpre:(l.take (i+1)).flatMap (fun nd=>nd.pg.sl)=(l.take i).flatMap (fun nd=>nd.pg.sl)++nd.pg.sl:=by rw[List.take_add_one,hnd];simp
   have acw:=aq3 hpre;have Vj:=aq3 Ee;generalize gM l i=P at *;generalize (l.take i).flatMap (fun nd=>nd.pg.sl)=pR at *
   clear hnd ht4 Ee hpre;go_upto_region 6 with(fail)
   have Hs:=aq3 hs;clear hs;refine aT [false,false,false,false,false,true,true,true] [5,6,7] (fun|7=>[5,6] | _=>[])
    (tq K (az (.slice ao P co) 23 1 P (aQ (pR.map (·.r)))::az (.slice (some ⟨ga,0,none⟩) m cap) 23 1 m (aQ (l.map (·.id)))::blk bv (.cells #[.int .i64 (d).th,.int .i64 (d).sn,.int .i64 (d).no,.int .i64 (d).ch,.int .i64 (d).re,.int .i64 (d).fa,.int .u64 (d).cl,.slice (some ⟨g,0,none⟩) n n] 52)::F) nd.pg)
    (fun W=>St K W (az (.slice ao P co) 23 1 P (aQ (pR.map (·.r)))::az (.slice (some ⟨ga,0,none⟩) m cap) 23 1 m (aQ (l.map (·.id)))::blk bv (.cells #[.int .i64 (d).th,.int .i64 (d).sn,.int .i64 (d).no,.int .i64 (d).ch,.int .i64 (d).re,.int .i64 (d).fa,.int .u64 (d).cl,.slice (some ⟨g,0,none⟩) n n] 52)::F)) ?aSb (by kernel_rfl) ?hBb ?Hb ?Gy ?h0b ?hIb ?hRb ?hEb ?hQb
   case hBb=>as_aux_lemma=>kernel_rfl
   case Hb=>
    intro W2 hs;have kv:=hs.k2;have c0:=(show St K W2 (az _ _ _ _ _::_)from hs.b1).bK (show(aQ (l.map (·.id)))[i]?=some (.int .u64 nd.id)by simp[aQ,Od.out])
    clear hs;simp only[bL];repeat (go_big_quiet_step (fail))
    refine wpQuiet_nil ?_
    rfl
   case Gy=>rfl
   case h0b=>exact tq.start Hs.out
   case hIb=>exact fun ρ W2 h=>h.rest
   case hRb=>exact fun ρ W2 W3 h hb=>h.same hb
   case hEb=>
    refine⟨?e5b,?e6b,?e7b,trivial⟩;case e5b=>
     intro o ho ρ W2 h hcl h5 hd2 af aB;obtain rfl:=aq9 ho;replace aB:af=aj _ ρ [] _:=aB;have h7:ρ 7=none:=hcl.none (by simp) (show 5∈[5,6]by simp) h5
     obtain⟨R',hs,hnext⟩:=h.e5 h5 h7;simp only[aj]at aB;subst aB;have Hn:=aq3 hnext;clear hnext hcl hd2 h5 h7 h;go_wp2_with fail
     refine(QN.out _ _ hs).mono ?_
     rintro e W3 ⟨va3,rfl,hs'⟩;obtain⟨a3,c3,rfl,_,_⟩:=hs'.aH;have eG:=aq3 hs';clear hs hs';go_wp2
     exact⟨rfl,_,rfl,Hn.out _ _ W3 eG.out⟩
    case e6b=>
     intro o ho ρ W2 h hcl h6 hd2 af aB;obtain rfl:=aq9 ho;replace aB:af=aj _ ρ [] _:=aB;have h7:ρ 7=none:=hcl.none (by simp) (show 6∈[5,6]by simp) h6
     have Hn:=aq3 (h.e6 h6 h7);simp only[aj]at aB;subst aB;clear hcl hd2 h6 h7 h;go_wp2
     exact⟨rfl,_,rfl,Hn.out⟩
    case e7b=>
     intro o ho ρ W2 h hcl h7 hd2 af aB;obtain rfl:=aq9 ho;replace aB:af=aj _ ρ [5,6] _:=aB;obtain⟨v5,h5⟩:=aq6.1 (hd2 5 (by show _∈[5,6];simp))
     obtain⟨v6,h6⟩:=aq6.1 (hd2 6 (by show _∈[5,6];simp))
     obtain⟨a3,c3,b3,R',rfl,rfl,hs,hnext⟩:=h.e7 h5 h6 h7;simp only[aj,h5,h6,Option.getD_some,aM,Act.put,ara]at aB;subst aB;have k0:=hs.k0;have f0:=hs.f0;have hs:=((((hs.aI 0 (.int .i64 nd.pg.ak)).aI 1 (.slice a3 nd.pg.sl.length c3)).aI 2 (.string nd.pg.hi)).aI 3 (.bool nd.pg.la)).aI 4 (.int .u64 nd.pg.ri);have fZ:=aq3 hs;have Hn:=aq3 hnext;clear hs hnext hcl hd2 h h5 h6 h7;go_wp2
     exact⟨rfl,undef,rfl,Hn.out _ fZ.out⟩
   case hQb=>
    intro ρ W2 h hall;obtain⟨a3,c3,b3,h5,h6,⟨v7,h7⟩,hs⟩:=h.last hall;simp only[aj,h5,h6,h7,Option.getD_some,aM,Act.put,ara];clear h hall h5 h6 h7;have hs:St K W2 (blk b3 (.cells #[.int .i64 (nd.pg).ak,(.slice a3 nd.pg.sl.length c3),.string (nd.pg).hi,.bool (nd.pg).la,.int .u64 (nd.pg).ri] 43)::bu (.slice a3 nd.pg.sl.length c3) nd.pg::az (.slice ao P co) 23 1 P (aQ (pR.map (·.r)))::az (.slice (some ⟨ga,0,none⟩) m cap) 23 1 m (aQ (l.map (·.id)))::blk bv (.cells #[.int .i64 (d).th,.int .i64 (d).sn,.int .i64 (d).no,.int .i64 (d).ch,.int .i64 (d).re,.int .i64 (d).fa,.int .u64 (d).cl,.slice (some ⟨g,0,none⟩) n n] 52)::F):=hs
    obtain⟨q,hq⟩:∃q,q=nd.pg.sl.length:=⟨_,rfl⟩;have Hq:=aq3 hq;rw[←hq]at hq4;have hs:St K W2 (blk b3 (.cells #[.int .i64 nd.pg.ak,.slice a3 q c3,.string nd.pg.hi,.bool nd.pg.la,.int .u64 nd.pg.ri] 43)::az (.slice a3 q c3) 69 2 q (aD nd.pg.sl)::az (.slice ao P co) 23 1 P (aQ (pR.map (·.r)))::az (.slice (some ⟨ga,0,none⟩) m cap) 23 1 m (aQ (l.map (·.id)))::blk bv (.cells #[.int .i64 (d).th,.int .i64 (d).sn,.int .i64 (d).no,.int .i64 (d).ch,.int .i64 (d).re,.int .i64 (d).fa,.int .u64 (d).cl,.slice (some ⟨g,0,none⟩) n n] 52)::F):=by rw[hq];exact hs
    clear hq;go_upto_region 7 with(fail)
    go_wp2
    go_loopw [3,7] (fun v3 v7 wr=>∃(j:Nat) (ao:Option Addr) (co:Nat),v3=.slice ao (P+j) co/\v7=.int .i64 j/\j<=q /\
     St K wr (blk b3 (.cells #[.int .i64 nd.pg.ak,.slice a3 q c3,.string nd.pg.hi,.bool nd.pg.la,.int .u64 nd.pg.ri] 43)::az (.slice a3 q c3) 69 2 q (aD nd.pg.sl)::az (.slice ao (P+j) co) 23 1 (P+j) (aQ ((pR++nd.pg.sl.take j).map (·.r)))::az (.slice (some ⟨ga,0,none⟩) m cap) 23 1 m (aQ (l.map (·.id)))::blk bv (.cells #[.int .i64 (d).th,.int .i64 (d).sn,.int .i64 (d).no,.int .i64 (d).ch,.int .i64 (d).re,.int .i64 (d).fa,.int .u64 (d).cl,.slice (some ⟨g,0,none⟩) n n] 52)::F)) (fun _ v7 _=>q-(intOf v7).toNat)
    case atStart=>exact⟨0,ao,co,rfl,rfl,by omega,by rw[List.take_zero,List.append_nil];exact hs⟩
    case round=>
     clear hs;obtain⟨j,ao,co,rfl,rfl,hj,hs⟩:=hrel;by_cases hjq:j<q
     ·obtain⟨x,hx⟩:∃x,nd.pg.sl[j]?=some x:=⟨_,aq8 (by have:=Hq.out;omega)⟩
      obtain⟨r0,r1⟩:=fW nd.pg.sl j x hx;obtain⟨g3,hg3,c0⟩:=(show St K wr (az _ _ _ _ _::_)from hs.b1).cQ r1
      subst hg3;have dY:(pR++nd.pg.sl.take (j+1)).map (·.r)=(pR++nd.pg.sl.take j).map (·.r)++[x.r]:=by rw[List.take_add_one,hx];simp
      have iP:=aq3 dY;have kp:=hs.k0;have hs:=hs.b2;clear r0 r1 dY hx;go_wp2_with (at_builtin;refine dF _ _ 57 23 _ (P+j) 1 8 _ [.int .u64 x.r] (.int .u64 0) iv hs rfl rfl Tryz.underlying57 lI.out lJ.out lK.out lM.out rfl (by decide) rfl rfl rfl (fun u hu=>by simp at hu;subst hu;rfl) (by omega) (by decide) ?_)
      clear hs kp c0;intro v' w' hs;obtain⟨mP,mQ,hv,_,_⟩:=hs.aH;subst hv;go_wp2
      go_roundw
      case rel=>
       have h2:=hs.re [1,2,0] rfl;have e3:aQ ((pR++nd.pg.sl.take (j+1)).map (·.r))=aQ (pR.map (·.r)++(nd.pg.sl.map (·.r)).take j)++[.int .u64 x.r]:=by rw[iP.out,sk];simp
       exact⟨j+1,mP,mQ,rfl,by go_num,by omega,by rw[e3];exact h2⟩
      case measure=>simp[intOf];omega
     ·obtain rfl:j=q:=by omega
      rw[show nd.pg.sl.take j=nd.pg.sl from List.take_of_length_le (by rw[←Hq.out];exact Nat.le_refl _)]at hs
      have kp:=hs.k0;have hs2:=hs.tail.tail;clear hs;have e1:=Vj.out;rw[←Hq.out]at e1;go_wp2
      go_roundw
      case rel=>exact⟨i+1,ao,co,by rw[e1],by go_num,by omega,by rw[e1,acw.out];exact hs2⟩
      case measure=>simp[intOf];omega
  ·obtain rfl:i=m:=by omega
   have e1:gM l i=(l.flatMap fun nd=>nd.pg.sl).length:=by rw[Hm.out,ou]
   have e2:l.take i=l:=List.take_of_length_le (by rw[←Hm.out];exact Nat.le_refl _)
   rw[e2]at hs;have E1:=aq3 e1;clear e1 e2;go_wp2
   go_ret;exact⟨_,rfl,by rw[←E1.out];exact hs.bY.bY⟩
theorem Ef (hd:d.Ok)(ht:cD d L t){l:List Nd}(h0:t[0]?=some l)(hg:K.map g=some (.cells (flat L).toArray 63))(hl:L.length<=1000000)(hs:St K w F) :
  Calls Tryz.prog 55 #[.agg #[.int .i64 (d).th,.int .i64 (d).sn,.int .i64 (d).no,.int .i64 (d).ch,.int .i64 (d).re,.int .i64 (d).fa,.int .u64 (d).cl,.slice (some ⟨g,0,none⟩) L.length L.length]] w fun e w' => ∃v,e=.returned v/\St K w' (az v 9 1 (l.flatMap fun nd=>nd.pg.sl).length (bO ((l.flatMap fun nd=>nd.pg.sl).map (·.k)))::F):=by
 have iX:=hd.mJ;have vT:=hd.mK;have Vi:=ht.ne;obtain⟨iv,cZ,dc,dg,dh⟩:=info_parts pF;have lI:=aq3 cZ;have lJ:=aq3 dc;have lK:=aq3 dg;have lM:=aq3 dh;clear cZ dc dg dh;have hs:=hs.made (.cells #[.int .i64 (d).th,.int .i64 (d).sn,.int .i64 (d).no,.int .i64 (d).ch,.int .i64 (d).re,.int .i64 (d).fa,.int .u64 (d).cl,.slice (some ⟨g,0,none⟩) L.length L.length] 52);obtain⟨bv,nS⟩:∃bv,bv=w.heap.size:=⟨_,rfl⟩;have hlen:l.length<=4096:=by have:=List.cX h0;have:=ht.count;have:=ht.n4;omega
 have eY:∀nd,nd∈l->nd.pg.sl.length<=4096:=fun nd hn=>by have:=(ht.nodes 0 l h0 nd hn).page.le;omega
 have htot:∀i,i<=l.length->gM l i<=i*4096:=by
  intro i;induction i with
  | zero=>intro _;exact Nat.le_refl _
  | succ i ih=>
   intro hi;obtain⟨a,ha⟩:∃a,l[i]?=some a:=⟨_,aq8 (by omega)⟩
   have:=ih (by omega)
   have:=eY a (aq7 ha);rw[ku ha];omega
 have Ql:=aq3 (fun W cs (h:St K W cs)=>iU (k:=0) hd ht (by omega) hg hl h)
 have Qp:=aq3 (fun(nd:Nd) (hn:nd∈l) W cs (h:St K W cs)=>fD hd (ht.nodes 0 l h0 nd hn).id.1 (ht.nodes 0 l h0 nd hn).id.2 (ht.nodes 0 l h0 nd hn).page hg hl h)
 have fK:gX t 0=l.map (·.id):=by unfold gX;rw[h0]
 rw[fK]at Ql;have Ed:(l.map (·.id)).length=l.length:=List.length_map ..
 rw[Ed]at Ql;obtain⟨m,hm⟩:∃m,m=l.length:=⟨_,rfl⟩;have Hm:=aq3 hm;have s6:=aq3 eY;have acv:=aq3 htot;rw[←hm]at Ql hlen;generalize L.length=n at *;clear ht hg fK Ed hm h0 eY htot Vi;go_enter Tryz.func55,Tryz.ntmps55
 go_wp2_with fail
 refine(Ql.out _ _ hs).mono ?_
 rw[←nS]at hs ⊢;clear hs Ql nS;rintro e w1 ⟨va,rfl,hs⟩;obtain⟨a,cap,rfl,_,_⟩:=hs.aH;have hs:=hs.cF (T:=9) (size:=1);go_wp2
 go_loopw [3,5] (fun v3 v5 wr=>∃(i:Nat) (ao:Option Addr) (co:Nat),v3=.slice ao (gM l i) co/\v5=.int .i64 i/\i<=m /\
  St K wr (az (.slice ao (gM l i) co) 9 1 (gM l i) (bO (((l.take i).flatMap fun nd=>nd.pg.sl).map (·.k)))::az (.slice a m cap) 23 1 m (aQ (l.map (·.id)))::blk bv (.cells #[.int .i64 (d).th,.int .i64 (d).sn,.int .i64 (d).no,.int .i64 (d).ch,.int .i64 (d).re,.int .i64 (d).fa,.int .u64 (d).cl,.slice (some ⟨g,0,none⟩) n n] 52)::F)) (fun _ v5 _=>m-(intOf v5).toNat)
 case atStart=>exact⟨0,none,0,rfl,rfl,by omega,hs⟩
 case round=>
  clear hs;obtain⟨i,ao,co,rfl,rfl,hi,hs⟩:=hrel;by_cases him:i<m
  ·obtain⟨nd,hnd⟩:∃nd,l[i]?=some nd:=⟨_,aq8 (by have:=Hm.out;omega)⟩
   have QN:=aq3 (Qp.out nd (aq7 hnd));obtain⟨ga,Oo,_⟩:=(show St K wr (az _ _ _ _ _::_)from hs.b1).cQ (show(aQ (l.map (·.id)))[i]?=some (.int .u64 nd.id)by simp[aQ,hnd])
   subst Oo;have Od:=aq3 hnd;have hq4:=s6.out nd (aq7 hnd);have ht4:=acv.out i (by have:=Hm.out;omega)
   have hpos:gM l i<=16777216:=by have:=Nat.mul_le_mul_right 4096 (show i<=4096 by omega);omega
   have Ee:=ku hnd;have hpre:(l.take (i+1)).flatMap (fun nd=>nd.pg.sl)=(l.take i).flatMap (fun nd=>nd.pg.sl)++nd.pg.sl:=by rw[List.take_add_one,hnd];simp
   have acw:=aq3 hpre;have Vj:=aq3 Ee;generalize gM l i=P at *;generalize (l.take i).flatMap (fun nd=>nd.pg.sl)=pR at *
   clear hnd ht4 Ee hpre;go_upto_region 6 with(fail)
   have Hs:=aq3 hs;clear hs;refine aT [false,false,false,false,false,true,true,true] [5,6,7] (fun|7=>[5,6] | _=>[])
    (tq K (az (.slice ao P co) 9 1 P (bO (pR.map (·.k)))::az (.slice (some ⟨ga,0,none⟩) m cap) 23 1 m (aQ (l.map (·.id)))::blk bv (.cells #[.int .i64 (d).th,.int .i64 (d).sn,.int .i64 (d).no,.int .i64 (d).ch,.int .i64 (d).re,.int .i64 (d).fa,.int .u64 (d).cl,.slice (some ⟨g,0,none⟩) n n] 52)::F) nd.pg)
    (fun W=>St K W (az (.slice ao P co) 9 1 P (bO (pR.map (·.k)))::az (.slice (some ⟨ga,0,none⟩) m cap) 23 1 m (aQ (l.map (·.id)))::blk bv (.cells #[.int .i64 (d).th,.int .i64 (d).sn,.int .i64 (d).no,.int .i64 (d).ch,.int .i64 (d).re,.int .i64 (d).fa,.int .u64 (d).cl,.slice (some ⟨g,0,none⟩) n n] 52)::F)) ?aSb (by kernel_rfl) ?hBb ?Hb ?Gy ?h0b ?hIb ?hRb ?hEb ?hQb
   case hBb=>as_aux_lemma=>kernel_rfl
   case Hb=>
    intro W2 hs;have kv:=hs.k2;have c0:=(show St K W2 (az _ _ _ _ _::_)from hs.b1).bK (show(aQ (l.map (·.id)))[i]?=some (.int .u64 nd.id)by simp[aQ,Od.out])
    clear hs;simp only[bL];repeat (go_big_quiet_step (fail))
    refine wpQuiet_nil ?_
    rfl
   case Gy=>rfl
   case h0b=>exact tq.start Hs.out
   case hIb=>exact fun ρ W2 h=>h.rest
   case hRb=>exact fun ρ W2 W3 h hb=>h.same hb
   case hEb=>
    refine⟨?e5b,?e6b,?e7b,trivial⟩;case e5b=>
     intro o ho ρ W2 h hcl h5 hd2 af aB;obtain rfl:=aq9 ho;replace aB:af=aj _ ρ [] _:=aB;have h7:ρ 7=none:=hcl.none (by simp) (show 5∈[5,6]by simp) h5
     obtain⟨R',hs,hnext⟩:=h.e5 h5 h7;simp only[aj]at aB;subst aB;have Hn:=aq3 hnext;clear hnext hcl hd2 h5 h7 h;go_wp2_with fail
     refine(QN.out _ _ hs).mono ?_
     rintro e W3 ⟨va3,rfl,hs'⟩;obtain⟨a3,c3,rfl,_,_⟩:=hs'.aH;have eG:=aq3 hs';clear hs hs';go_wp2
     exact⟨rfl,_,rfl,Hn.out _ _ W3 eG.out⟩
    case e6b=>
     intro o ho ρ W2 h hcl h6 hd2 af aB;obtain rfl:=aq9 ho;replace aB:af=aj _ ρ [] _:=aB;have h7:ρ 7=none:=hcl.none (by simp) (show 6∈[5,6]by simp) h6
     have Hn:=aq3 (h.e6 h6 h7);simp only[aj]at aB;subst aB;clear hcl hd2 h6 h7 h;go_wp2
     exact⟨rfl,_,rfl,Hn.out⟩
    case e7b=>
     intro o ho ρ W2 h hcl h7 hd2 af aB;obtain rfl:=aq9 ho;replace aB:af=aj _ ρ [5,6] _:=aB;obtain⟨v5,h5⟩:=aq6.1 (hd2 5 (by show _∈[5,6];simp))
     obtain⟨v6,h6⟩:=aq6.1 (hd2 6 (by show _∈[5,6];simp))
     obtain⟨a3,c3,b3,R',rfl,rfl,hs,hnext⟩:=h.e7 h5 h6 h7;simp only[aj,h5,h6,Option.getD_some,aM,Act.put,ara]at aB;subst aB;have k0:=hs.k0;have f0:=hs.f0;have hs:=((((hs.aI 0 (.int .i64 nd.pg.ak)).aI 1 (.slice a3 nd.pg.sl.length c3)).aI 2 (.string nd.pg.hi)).aI 3 (.bool nd.pg.la)).aI 4 (.int .u64 nd.pg.ri);have fZ:=aq3 hs;have Hn:=aq3 hnext;clear hs hnext hcl hd2 h h5 h6 h7;go_wp2
     exact⟨rfl,undef,rfl,Hn.out _ fZ.out⟩
   case hQb=>
    intro ρ W2 h hall;obtain⟨a3,c3,b3,h5,h6,⟨v7,h7⟩,hs⟩:=h.last hall;simp only[aj,h5,h6,h7,Option.getD_some,aM,Act.put,ara];clear h hall h5 h6 h7;have hs:St K W2 (blk b3 (.cells #[.int .i64 (nd.pg).ak,(.slice a3 nd.pg.sl.length c3),.string (nd.pg).hi,.bool (nd.pg).la,.int .u64 (nd.pg).ri] 43)::bu (.slice a3 nd.pg.sl.length c3) nd.pg::az (.slice ao P co) 9 1 P (bO (pR.map (·.k)))::az (.slice (some ⟨ga,0,none⟩) m cap) 23 1 m (aQ (l.map (·.id)))::blk bv (.cells #[.int .i64 (d).th,.int .i64 (d).sn,.int .i64 (d).no,.int .i64 (d).ch,.int .i64 (d).re,.int .i64 (d).fa,.int .u64 (d).cl,.slice (some ⟨g,0,none⟩) n n] 52)::F):=hs
    obtain⟨q,hq⟩:∃q,q=nd.pg.sl.length:=⟨_,rfl⟩;have Hq:=aq3 hq;rw[←hq]at hq4;have hs:St K W2 (blk b3 (.cells #[.int .i64 nd.pg.ak,.slice a3 q c3,.string nd.pg.hi,.bool nd.pg.la,.int .u64 nd.pg.ri] 43)::az (.slice a3 q c3) 69 2 q (aD nd.pg.sl)::az (.slice ao P co) 9 1 P (bO (pR.map (·.k)))::az (.slice (some ⟨ga,0,none⟩) m cap) 23 1 m (aQ (l.map (·.id)))::blk bv (.cells #[.int .i64 (d).th,.int .i64 (d).sn,.int .i64 (d).no,.int .i64 (d).ch,.int .i64 (d).re,.int .i64 (d).fa,.int .u64 (d).cl,.slice (some ⟨g,0,none⟩) n n] 52)::F):=by rw[hq];exact hs
    clear hq;go_upto_region 7 with(fail)
    go_wp2
    go_loopw [3,7] (fun v3 v7 wr=>∃(j:Nat) (ao:Option Addr) (co:Nat),v3=.slice ao (P+j) co/\v7=.int .i64 j/\j<=q /\
     St K wr (blk b3 (.cells #[.int .i64 nd.pg.ak,.slice a3 q c3,.string nd.pg.hi,.bool nd.pg.la,.int .u64 nd.pg.ri] 43)::az (.slice a3 q c3) 69 2 q (aD nd.pg.sl)::az (.slice ao (P+j) co) 9 1 (P+j) (bO ((pR++nd.pg.sl.take j).map (·.k)))::az (.slice (some ⟨ga,0,none⟩) m cap) 23 1 m (aQ (l.map (·.id)))::blk bv (.cells #[.int .i64 (d).th,.int .i64 (d).sn,.int .i64 (d).no,.int .i64 (d).ch,.int .i64 (d).re,.int .i64 (d).fa,.int .u64 (d).cl,.slice (some ⟨g,0,none⟩) n n] 52)::F)) (fun _ v7 _=>q-(intOf v7).toNat)
    case atStart=>exact⟨0,ao,co,rfl,rfl,by omega,by rw[List.take_zero,List.append_nil];exact hs⟩
    case round=>
     clear hs;obtain⟨j,ao,co,rfl,rfl,hj,hs⟩:=hrel;by_cases hjq:j<q
     ·obtain⟨x,hx⟩:∃x,nd.pg.sl[j]?=some x:=⟨_,aq8 (by have:=Hq.out;omega)⟩
      obtain⟨r0,r1⟩:=fW nd.pg.sl j x hx;obtain⟨g3,hg3,c0⟩:=(show St K wr (az _ _ _ _ _::_)from hs.b1).cQ r0
      subst hg3;have dY:(pR++nd.pg.sl.take (j+1)).map (·.k)=(pR++nd.pg.sl.take j).map (·.k)++[x.k]:=by rw[List.take_add_one,hx];simp
      have iP:=aq3 dY;have kp:=hs.k0;have hs:=hs.b2;clear r0 r1 dY hx;go_wp2_with (at_builtin;refine dF _ _ 22 9 _ (P+j) 1 16 _ [.string x.k] (.string ⟨#[]⟩) iv hs rfl rfl Tryz.underlying22 lI.out lJ.out lK.out lM.out rfl (by decide) rfl rfl rfl (fun u hu=>by simp at hu;subst hu;rfl) (by omega) (by decide) ?_)
      clear hs kp c0;intro v' w' hs;obtain⟨mP,mQ,hv,_,_⟩:=hs.aH;subst hv;go_wp2
      go_roundw
      case rel=>
       have h2:=hs.re [1,2,0] rfl;have e3:bO ((pR++nd.pg.sl.take (j+1)).map (·.k))=bO (pR.map (·.k)++(nd.pg.sl.map (·.k)).take j)++[.string x.k]:=by rw[iP.out,l7];simp
       exact⟨j+1,mP,mQ,rfl,by go_num,by omega,by rw[e3];exact h2⟩
      case measure=>simp[intOf];omega
     ·obtain rfl:j=q:=by omega
      rw[show nd.pg.sl.take j=nd.pg.sl from List.take_of_length_le (by rw[←Hq.out];exact Nat.le_refl _)]at hs
      have kp:=hs.k0;have hs2:=hs.tail.tail;clear hs;have e1:=Vj.out;rw[←Hq.out]at e1;go_wp2
      go_roundw
      case rel=>exact⟨i+1,ao,co,by rw[e1],by go_num,by omega,by rw[e1,acw.out];exact hs2⟩
      case measure=>simp[intOf];omega
  ·obtain rfl:i=m:=by omega
   have e1:gM l i=(l.flatMap fun nd=>nd.pg.sl).length:=by rw[Hm.out,ou]
   have e2:l.take i=l:=List.take_of_length_le (by rw[←Hm.out];exact Nat.le_refl _)
   rw[e2]at hs;have E1:=aq3 e1;clear e1 e2;go_wp2
   go_ret;exact⟨_,rfl,by rw[←E1.out];exact hs.bY.bY⟩
end
section
variable {K:aL}{w:World}{F:List aC}{a:Option Addr}{n cap:Nat}{sl:List Sl}{ak ri fa:Int}{hi:ByteArray}
theorem Eg (hn:n=sl.length)(hb:n<=1000000)(dJ:kV sl)(w:World)(h:ej w a sl) :
  Calls Tryz.prog 156 #[.slice a n cap] w fun e w' => e=.returned (.bool true)/\Below w.heap.size w w' := by
 have H:=aq3 h;have Hn:=aq3 hn;have Ha:=aq3 dJ;clear hn dJ h;go_enter Tryz.func156,Tryz.ntmps156
 go_wp2
 go_loopw [3] (fun v wr=>∃i:Nat,v=.int .i64 (i+1)/\i<=n/\Hid (Below w.heap.size w wr)) (fun v _=>n+2-(intOf v).toNat)
 case atStart=>exact⟨0,rfl,by omega,aq3 (Below.refl _ _)⟩
 case round=>
  obtain⟨i,rfl,hi,HB⟩:=hrel;by_cases hin:i+1<n
  ·obtain⟨x,hx⟩:∃x,sl[i]?=some x:=⟨_,aq8 (by have:=Hn.out;omega)⟩
   obtain⟨y,hy⟩:∃y,sl[i+1]?=some y:=⟨_,aq8 (by have:=Hn.out;omega)⟩
   have hlt:=kQ Ha.out hx hy (by omega)
   have H2:=H.out.same HB.out;obtain⟨g,off,rfl,_,cx,_⟩:=H2.2 i x hx;obtain⟨g2,off2,e2,_,cy,_⟩:=H2.2 (i+1) y hy;simp only[Option.some.injEq,Addr.mk.injEq,and_true]at e2;obtain⟨rfl,rfl⟩:=e2;have q1:=jc hlt;have q2:(y.k.toList == x.k.toList)=false:=by
    cases e:(y.k.toList == x.k.toList)with
    | false=>rfl
    | true=>
     have:y.k=x.k:=ye (by simpa using e)
     rw[this,dm]at hlt;cases hlt
   have Zd:((i:Int)+1)<n:=by omega
   have e0:((i:Int)+1)-1=i:=by omega
   clear H2 hx hy hlt;go_upto_region 4 with(fail)
   refine bI (by kernel_rfl) (by kernel_rfl) ?_
   repeat (go_big_quiet_step (fail))
   refine wpQuiet_nil ?_
   intro w2 hb2;clear cx cy;go_wp2
   go_roundw
   case rel=>exact⟨i+1,by go_num,by omega,aq3 (HB.out.trans (hb2.mono HB.out.size))⟩
   case measure=>simp[intOf];omega
  ·have Zd:¬ (((i:Int)+1)<n):=by omega
   go_wp2
   go_ret;exact⟨rfl,HB.out⟩
theorem Eh (bZ:0<=ak/\ak<1000000)(hn:n=sl.length)(rO:(n:Int)<=fa/\fa<=1000000)(h1:0<ak->0<n)(dJ:kV sl)(vA:∀s,s∈sl->1<=s.r)(hhi:hi=⟨#[]⟩)(mF:ri=0)(w:World)(h:ej w a sl) :
  Calls Tryz.prog 126 #[.agg #[.int .i64 ak,.slice a n cap,.string hi,.bool true,.int .u64 ri],.int .i64 fa,.bool false] w fun e w' => e=.returned (.bool true)/\Below w.heap.size w w' := by
 subst hhi mF;have Qa:=aq3 (fun W (hb:Below w.heap.size w W)=>Eg (n:=n) (cap:=cap) hn (by omega) dJ W (h.same hb))
 have H:=aq3 h;have Hrf:=aq3 vA;have Hn:=aq3 hn;have hs:=(St.start w).made (.cells #[.int .i64 ak,.slice a n cap,.string ⟨#[]⟩,.bool true,.int .u64 0] 43);obtain⟨bp,mS⟩:∃bp,bp=w.heap.size:=⟨_,rfl⟩;clear vA hn dJ h;go_enter Tryz.func126,Tryz.ntmps126
 go_upto_region 1 with(fail)
 rw[←mS]at hs ⊢;clear mS;go_cut [38]from 999 to 0 (fun v wx=>v=.bool false/\St (aL.of w) wx [blk bp (.cells #[.int .i64 ak,.slice a n cap,.string ⟨#[]⟩,.bool true,.int .u64 0] 43)])
 case first=>
  as_aux_lemma=>
  by_cases hl:0<ak
  ·have z:((n:Int) == 0)=false:=by have:=h1 hl;simp;omega
   
   have kp:=hs.k0;go_wp2_with fail
   refine(bH hs (Qa.out _ (hs.below (aL.Le.refl _)))).mono ?_
   clear hs kp;rintro e w2 ⟨rfl,hs⟩;go_wp2
   go_meet;exact⟨by simp <;> omega,hs⟩
  ·have z:ak=0:=by omega
   subst z;have kp:=hs.k0;go_wp2_with fail
   refine(bH hs (Qa.out _ (hs.below (aL.Le.refl _)))).mono ?_
   clear hs kp;rintro e w2 ⟨rfl,hs⟩;go_wp2
   go_meet;exact⟨by simp <;> omega,hs⟩
 case rest=>
 clear hs h1 Qa;obtain⟨rfl,hs⟩:=hcut;apply_assumption
 go_wp2
 go_loopw [7] (fun v wr=>∃i:Nat,v=.int .i64 i/\i<=n/\St (aL.of w) wr [blk bp (.cells #[.int .i64 ak,.slice a n cap,.string ⟨#[]⟩,.bool true,.int .u64 0] 43)]) (fun v _=>n-(intOf v).toNat)
 case atStart=>exact⟨0,rfl,by omega,hs⟩
 case round=>
  clear hs;obtain⟨i,rfl,hi2,hs⟩:=hrel;by_cases hin:i<n
  ·obtain⟨x,hx⟩:∃x,sl[i]?=some x:=⟨_,aq8 (by have:=Hn.out;omega)⟩
   obtain⟨g,off,rfl,_,cx,cy⟩:=(H.out.same (hs.below (aL.Le.refl _))).2 i x hx;have kp:=hs.k0;have hr1:=Hrf.out x (aq7 hx);have zr:(x.r == 0)=false:=by simp;omega
   clear hx hr1;go_upto_region 6 with(fail)
   refine bI (by kernel_rfl) (by kernel_rfl) ?_
   repeat (go_big_quiet_step (fail))
   refine wpQuiet_nil ?_
   intro w2 hb3;have hs:=hs.same hb3;clear cx cy kp hb3;go_wp2
   go_roundw
   case rel=>exact⟨i+1,by go_num,by omega,hs⟩
   case measure=>simp[intOf];omega
  ·have kp:=hs.k0
   go_wp2
   go_ret;exact⟨rfl,hs.below (aL.Le.refl _)⟩
theorem zt (bZ:0<=ak/\ak<1000000)(hn:n=sl.length)(rO:(n:Int)<=fa/\fa<=1000000)(h1:0<ak->0<n)(dJ:kV sl)(vA:∀s,s∈sl->1<=s.r)(hbd:∀s,s∈sl->cA s.k hi=true)(mF:ri≠0)(w:World)(h:ej w a sl) :
  Calls Tryz.prog 126 #[.agg #[.int .i64 ak,.slice a n cap,.string hi,.bool false,.int .u64 ri],.int .i64 fa,.bool false] w fun e w' => e=.returned (.bool true)/\Below w.heap.size w w' := by
 have zri:(ri != 0)=true:=by simpa using mF
 have Hbd:=aq3 hbd;clear mF hbd;have Qa:=aq3 (fun W (hb:Below w.heap.size w W)=>Eg (n:=n) (cap:=cap) hn (by omega) dJ W (h.same hb))
 have H:=aq3 h;have Hrf:=aq3 vA;have Hn:=aq3 hn;have hs:=(St.start w).made (.cells #[.int .i64 ak,.slice a n cap,.string hi,.bool false,.int .u64 ri] 43);obtain⟨bp,mS⟩:∃bp,bp=w.heap.size:=⟨_,rfl⟩;clear vA hn dJ h;go_enter Tryz.func126,Tryz.ntmps126
 go_upto_region 1 with(fail)
 rw[←mS]at hs ⊢;clear mS;go_cut [38]from 999 to 0 (fun v wx=>v=.bool false/\St (aL.of w) wx [blk bp (.cells #[.int .i64 ak,.slice a n cap,.string hi,.bool false,.int .u64 ri] 43)])
 case first=>
  as_aux_lemma=>
  by_cases hl:0<ak
  ·have z:((n:Int) == 0)=false:=by have:=h1 hl;simp;omega
   
   have kp:=hs.k0;go_wp2_with fail
   refine(bH hs (Qa.out _ (hs.below (aL.Le.refl _)))).mono ?_
   clear hs kp;rintro e w2 ⟨rfl,hs⟩;go_wp2
   go_meet;exact⟨by simp <;> omega,hs⟩
  ·have z:ak=0:=by omega
   subst z;have kp:=hs.k0;go_wp2_with fail
   refine(bH hs (Qa.out _ (hs.below (aL.Le.refl _)))).mono ?_
   clear hs kp;rintro e w2 ⟨rfl,hs⟩;go_wp2
   go_meet;exact⟨by simp <;> omega,hs⟩
 case rest=>
 clear hs h1 Qa;obtain⟨rfl,hs⟩:=hcut;apply_assumption
 go_wp2
 go_loopw [7] (fun v wr=>∃i:Nat,v=.int .i64 i/\i<=n/\St (aL.of w) wr [blk bp (.cells #[.int .i64 ak,.slice a n cap,.string hi,.bool false,.int .u64 ri] 43)]) (fun v _=>n-(intOf v).toNat)
 case atStart=>exact⟨0,rfl,by omega,hs⟩
 case round=>
  clear hs;obtain⟨i,rfl,hi2,hs⟩:=hrel;by_cases hin:i<n
  ·obtain⟨x,hx⟩:∃x,sl[i]?=some x:=⟨_,aq8 (by have:=Hn.out;omega)⟩
   obtain⟨g,off,rfl,_,cx,cy⟩:=(H.out.same (hs.below (aL.Le.refl _))).2 i x hx;have kp:=hs.k0;have hr1:=Hrf.out x (aq7 hx);have zr:(x.r == 0)=false:=by simp;omega
   have hb1:=Hbd.out x (aq7 hx);have hb2:=jc hb1;clear hx hr1;go_upto_region 6 with(fail)
   refine bI (by kernel_rfl) (by kernel_rfl) ?_
   repeat (go_big_quiet_step (fail))
   refine wpQuiet_nil ?_
   intro w2 hb3;have hs:=hs.same hb3;clear cx cy kp hb3;go_wp2
   go_roundw
   case rel=>exact⟨i+1,by go_num,by omega,hs⟩
   case measure=>simp[intOf];omega
  ·have kp:=hs.k0
   go_wp2
   go_ret;exact⟨rfl,hs.below (aL.Le.refl _)⟩
end
structure afr (d:aR)(L:List aO):Prop where
 pub:(ah L 1).n=(ah L 2).n
 flo:(ah L 3).n<=(ah L 2).n
 nod:(ah L 4).n<=d.no
 chn:(ah L 5).n<=d.ch
 rcd:(ah L 6).n<=d.re
 gro:(ah L 7).n%4=0
 snp:∀i:Int,8<=i->i<d.A->(ah L i).n=0\/(ah L 3).n<=(ah L i).n-1
structure aaw (d:aR)(L:List aO)(rs:List Int):Prop where
 ok:∀r,r∈rs->1<=r/\r<=d.ch/\r<=(ah L 5).n/\∃vs,ua d L (ah L (d.chain r)).n vs/\(vs.length:Int)<=d.re/\V9 (ah L 2).n vs
 nd:rs.Nodup
section
variable {K:aL}{w:World}{F:List aC}{d:aR}{g:Nat}{L:List aO}{t:List (List Nd)}
theorem Ei (hd:d.Ok)(hL:bD L)(hc:afr d L)(hg:K.map g=some (.cells (flat L).toArray 63))(hl:L.length<=1000000)(hs:St K w F) :
  Calls Tryz.prog 84 #[.agg #[.int .i64 (d).th,.int .i64 (d).sn,.int .i64 (d).no,.int .i64 (d).ch,.int .i64 (d).re,.int .i64 (d).fa,.int .u64 (d).cl,.slice (some ⟨g,0,none⟩) L.length L.length]] w fun e w' => e=.returned (.bool true)/\St K w' F:=by
 have hA:=hd.eC;have n1:=hd.Jo;have n2:=hd.mJ;have c1:=hd.ch1;have c2:=hd.ch2;have r1:=hd.Zr;have r2:=hd.re2;have b7:=hL 7;have b3:=hL 3;have z1:((ah L 1).n != (ah L 2).n)=false:=by simp[hc.pub]
 have z2:¬ ((ah L 2).n<(ah L 3).n):=by have:=hc.flo;omega
 have z4:¬ (d.no<(ah L 4).n):=by have:=hc.nod;omega
 have z5:¬ (d.ch<(ah L 5).n):=by have:=hc.chn;omega
 have z6:¬ (d.re<(ah L 6).n):=by have:=hc.rcd;omega
 have z7:((ah L 7).n.tmod 4 != 0)=false:=by rw[Int.tmod_eq_emod_of_nonneg b7.1,hc.gro];rfl
 have Hsn:=aq3 hc.snp;have HL:=aq3 hL;have QA:=aq3 (fun w=>tK d hd w)
 have hs:=hs.made (.cells #[.int .i64 (d).th,.int .i64 (d).sn,.int .i64 (d).no,.int .i64 (d).ch,.int .i64 (d).re,.int .i64 (d).fa,.int .u64 (d).cl,.slice (some ⟨g,0,none⟩) L.length L.length] 52);obtain⟨bv,nS⟩:∃bv,bv=w.heap.size:=⟨_,rfl⟩;have Q:=aq3 (fun(i:Int) W cs (h:St K W cs)=>gq (d:=d) i W (kR hg hl h))
 generalize L.length=n at *;clear hg hc hL;go_enter Tryz.func84,Tryz.ntmps84
 go_upto_region 1 with(fail)
 rw[←nS]at hs ⊢;clear nS;have k0:=hs.k0;obtain⟨w1,hw1⟩:∃w1,w1=w.alloc (.cells #[.int .i64 (d).th,.int .i64 (d).sn,.int .i64 (d).no,.int .i64 (d).ch,.int .i64 (d).re,.int .i64 (d).fa,.int .u64 (d).cl,.slice (some ⟨g,0,none⟩) n n] 52):=⟨_,rfl⟩;rw[←hw1]at hs k0 ⊢;have Qy:=aq3 (fun wz (hy:∃x:Ext,wz=over w1 x) (i:Int)=>Q.out i wz _ (hs.same (Pure.below hy)))
 clear hw1;refine bI (by kernel_rfl) (by kernel_rfl) ?_
 repeat (go_big_quiet_step ((go_at_call 83;exact aX (Qy.out _ ⟨_,rfl⟩ _))))
 refine wpQuiet_nil ?_
 intro w2 hb2;have hs:=hs.same hb2;clear k0 hb2 Qy;go_wp2
 go_loopw [3] (fun v wr=>∃i:Nat,v=.int .i64 i/\8<=i/\(i:Int)<=d.A/\St K wr (blk bv (.cells #[.int .i64 (d).th,.int .i64 (d).sn,.int .i64 (d).no,.int .i64 (d).ch,.int .i64 (d).re,.int .i64 (d).fa,.int .u64 (d).cl,.slice (some ⟨g,0,none⟩) n n] 52)::F)) (fun v _=>d.A.toNat-(intOf v).toNat)
 case atStart=>exact⟨8,rfl,by omega,by omega,hs⟩
 case round=>
  clear hs;obtain⟨i,rfl,hi8,hiA,hs⟩:=hrel;have k0:=hs.k0;by_cases hin:(i:Int)<d.A
  ·have hq:=Hsn.out i (by omega) hin
   have q1:=Q.out i;have q3:=Q.out 3;have hb:=HL.out i;generalize ah L i=ci at *;generalize ah L 3=c3 at *;obtain⟨x,xk,xm⟩:=ci;simp only at hq;have Q1:=aq3 q1;have Q3:=aq3 q3;have Hb:=aq3 hb;clear q1 q3 hb;go_wp2_with fail
   refine(bH hs (QA.out _)).mono ?_
   clear hs k0;rintro e w3 ⟨rfl,hs⟩;have k0:=hs.k0;go_wp2_with fail
   refine(bH hs (Q1.out _ _ hs)).mono ?_
   clear hs k0;rintro e w4 ⟨rfl,hs⟩;have k0:=hs.k0;by_cases hx:x=0
   ·subst hx
    go_wp2
    go_roundw
    case rel=>exact⟨i+1,by go_num,by omega,by omega,hs⟩
    case measure=>simp[intOf];omega
   ·have zx:(x != 0)=true:=by simpa using hx
    have hx1:IntKind.u64.wrap (x-1)=x-1:=by
     have h1:=Hb.out.1;have h2:=Hb.out.2;simp only at h1 h2;rw[IntKind.wrap_u64];omega
    have hx2:¬ (x-1<c3.n):=by omega
    clear hx hq;go_wp2_with fail
    refine(bH hs (Q3.out _ _ hs)).mono ?_
    clear hs k0;rintro e w5 ⟨rfl,hs⟩;go_wp2
    go_roundw
    case rel=>exact⟨i+1,by go_num,by omega,by omega,hs⟩
    case measure=>simp[intOf];omega
  ·go_wp2_with fail
   refine(bH hs (QA.out _)).mono ?_
   clear hs k0;rintro e w3 ⟨rfl,hs⟩;go_wp2
   go_ret;exact⟨rfl,hs.tail⟩
theorem cD.Vk (hd:d.Ok)(ht:cD d L t){l:List Nd}(h0:t[0]?=some l):(l.flatMap fun nd=>nd.pg.sl).length<=16777216:=by
 have iX:=hd.mJ;have vT:=hd.mK;have hlen:l.length<=4096:=by have:=List.cX h0;have:=ht.count;have:=ht.n4;omega
 have eY:∀nd,nd∈l->nd.pg.sl.length<=4096:=fun nd hn=>by have:=(ht.nodes 0 l h0 nd hn).page.le;omega
 have htot:∀i,i<=l.length->gM l i<=i*4096:=by
  intro i;induction i with
  | zero=>intro _;exact Nat.le_refl _
  | succ i ih=>
   intro hi;obtain⟨a,ha⟩:∃a,l[i]?=some a:=⟨_,aq8 (by omega)⟩
   have:=ih (by omega)
   have:=eY a (aq7 ha);rw[ku ha];omega
 rw[←ou];have:=htot l.length (Nat.le_refl _);omega
theorem Oq (hd:d.Ok)(hL:bD L)(ht:cD d L t){l:List Nd}(h0:t[0]?=some l)(hc:aaw d L ((l.flatMap fun nd=>nd.pg.sl).map (·.r)))(hg:K.map g=some (.cells (flat L).toArray 63))(hl:L.length<=1000000)(hs:St K w F) :
  Calls Tryz.prog 85 #[.agg #[.int .i64 (d).th,.int .i64 (d).sn,.int .i64 (d).no,.int .i64 (d).ch,.int .i64 (d).re,.int .i64 (d).fa,.int .u64 (d).cl,.slice (some ⟨g,0,none⟩) L.length L.length]] w fun e w' => e=.returned (.bool true)/\St K w' F:=by
 have c1:=hd.ch1;have c2:=hd.ch2;have r2:=hd.re2;have hs:=hs.made (.cells #[.int .i64 (d).th,.int .i64 (d).sn,.int .i64 (d).no,.int .i64 (d).ch,.int .i64 (d).re,.int .i64 (d).fa,.int .u64 (d).cl,.slice (some ⟨g,0,none⟩) L.length L.length] 52);obtain⟨bv,nS⟩:∃bv,bv=w.heap.size:=⟨_,rfl⟩;have Q:=aq3 (fun(i:Int) W cs (h:St K W cs)=>gq (d:=d) i W (kR hg hl h))
 have QR:=aq3 (fun W cs (h:St K W cs)=>Ec hd ht h0 hg hl h)
 have Qch:=aq3 (fun(r:Int) (h1:1<=r/\r<=d.ch) w=>pZ d hd r (by omega) (by omega) w)
 have Qvs:=aq3 (fun(r:Int) (h1:1<=r/\r<=d.ch) (vs:List Fs) (hlk:ua d L (ah L (d.chain r)).n vs) (hn:(vs.length:Int)<=d.re) W cs (h:St K W cs)=>zq hd h1 hlk hn hg hl h)
 have Hc:=aq3 hc;have hlen:(l.flatMap fun nd=>nd.pg.sl).length=((l.flatMap fun nd=>nd.pg.sl).map (·.r)).length:=(List.length_map ..).symm
 have hmm:=ht.Vk hd h0;rw[hlen]at QR hmm;generalize (l.flatMap fun nd=>nd.pg.sl).map (·.r)=rs at *
 obtain⟨m,hm⟩:∃m,m=rs.length:=⟨_,rfl⟩;rw[←hm]at QR hmm;have Hm:=aq3 hm;generalize L.length=n at *;clear hg hc hL ht h0 hlen hm;go_enter Tryz.func85,Tryz.ntmps85
 go_wp2_with fail
 refine(QR.out _ _ hs).mono ?_
 rw[←nS]at hs ⊢;clear hs QR nS;rintro e w1 ⟨va,rfl,hs⟩;obtain⟨a,cap,rfl,_,_⟩:=hs.aH;go_wp2
 go_loopw [4] (fun v wr=>∃i:Nat,v=.int .i64 i/\i<=m/\St K wr (az (.slice a m cap) 23 1 m (aQ rs)::blk bv (.cells #[.int .i64 (d).th,.int .i64 (d).sn,.int .i64 (d).no,.int .i64 (d).ch,.int .i64 (d).re,.int .i64 (d).fa,.int .u64 (d).cl,.slice (some ⟨g,0,none⟩) n n] 52)::F)) (fun v _=>m-(intOf v).toNat)
 case atStart=>exact⟨0,rfl,by omega,hs⟩
 case round=>
  clear hs;obtain⟨i,rfl,hi,hs⟩:=hrel;by_cases him:i<m
  ·obtain⟨r,hr⟩:∃r,rs[i]?=some r:=⟨_,aq8 (by have:=Hm.out;omega)⟩
   obtain⟨hr1,hr2,hr5,vs,hlk,hvn,hv9⟩:=Hc.out.ok r (aq7 hr);obtain⟨ga,Oo,c0⟩:=hs.cQ (show(aQ rs)[i]?=some (.int .u64 r)by simp[aQ,hr])
   subst Oo;have hch:=Aq hd hr1 hr2;have apk:¬ (d.chain r<0):=by omega
   have apl:¬ ((ah L 5).n<r):=by omega
   have QC:=aq3 (fun w=>Qch.out r ⟨hr1,hr2⟩ w)
   have QV:=aq3 (fun W cs (h:St K W cs)=>Qvs.out r ⟨hr1,hr2⟩ vs hlk hvn W cs h)
   have H9:=aq3 hv9;have Hr:=aq3 hr;have kv:=hs.k1;have hvl:vs.length<=1000000:=by omega
   clear hlk hv9 hr hch;go_upto_region 5 with(fail)
   have Qy:=aq3 (fun wz (hy:∃x:Ext,wz=over wr x) (i:Int)=>Q.out i wz _ (hs.same (Pure.below hy)))
   refine bI (by kernel_rfl) (by kernel_rfl) ?_
   repeat (go_big_quiet_step (first|(go_at_call 123;exact aX (QC.out _))|(go_at_call 83;exact aX (Qy.out _ ⟨_,rfl⟩ _))))
   refine wpQuiet_nil ?_
   intro w2 hb2;have hs:=hs.same hb2;clear kv c0 hb2 Qy;go_wp2
   go_loopw [5] (fun v wr=>∃k:Nat,v=.int .i64 k/\k<=i/\St K wr (az (.slice (some ⟨ga,0,none⟩) m cap) 23 1 m (aQ rs)::blk bv (.cells #[.int .i64 (d).th,.int .i64 (d).sn,.int .i64 (d).no,.int .i64 (d).ch,.int .i64 (d).re,.int .i64 (d).fa,.int .u64 (d).cl,.slice (some ⟨g,0,none⟩) n n] 52)::F)) (fun v _=>i-(intOf v).toNat)
   case atStart=>exact⟨0,rfl,by omega,hs⟩
   case round=>
    clear hs;obtain⟨k,rfl,hk,hs⟩:=hrel;by_cases hki:k<i
    ·obtain⟨q,hq⟩:∃q,rs[k]?=some q:=⟨_,aq8 (by have:=Hm.out;omega)⟩
     have c0:=hs.bK (show(aQ rs)[i]?=some (.int .u64 r)by simp[aQ,Hr.out])
     have c1:=hs.bK (show(aQ rs)[k]?=some (.int .u64 q)by simp[aQ,hq])
     have hne:(q == r)=false:=by
      have hp:=List.pairwise_iff_getElem.1 Hc.out.nd k i (aq5.1 hq).1 (aq5.1 Hr.out).1 hki;rw[(aq5.1 hq).2,(aq5.1 Hr.out).2]at hp;simpa using hp
     clear hq;go_upto_region 10 with(fail)
     refine bI (by kernel_rfl) (by kernel_rfl) ?_
     repeat (go_big_quiet_step (fail))
     refine wpQuiet_nil ?_
     intro w3 hb3;have hs:=hs.same hb3;clear c0 c1 hb3;go_wp2
     go_roundw
     case rel=>exact⟨k+1,by go_num,by omega,hs⟩
     case measure=>simp[intOf];omega
    ·obtain rfl:k=i:=by omega
     have c0:=hs.bK (show(aQ rs)[k]?=some (.int .u64 r)by simp[aQ,Hr.out])
     have kv:=hs.k1;go_upto_region 12 with(fail)
     refine bQ 5 (by kernel_rfl) (by as_aux_lemma=>kernel_rfl) ?_
     simp only[List.take_succ_cons,List.take_zero,List.drop_succ_cons,List.drop_zero];repeat (go_big_quiet_step (fail))
     refine wpQuiet_nil ?_
     intro w3 hb3;have hs:=hs.same hb3;clear c0 kv hb3;go_wp2_with fail
     refine(QV.out _ _ hs).mono ?_
     clear hs QV;rintro e w4 ⟨vx,rfl,hs⟩;obtain⟨ax,cx,rfl,_,_⟩:=hs.aH;have Pd:=hs.Vf (by omega)
     obtain⟨q,hq⟩:∃q,q=vs.length:=⟨_,rfl⟩;have q9:=fun W (hb:Below w4.heap.size w4 W)=>Jf (cap:=cx) W (Pd.same hb) H9.out
     rw[←hq]at q9 hs hvl ⊢;have Hq:=aq3 hq;have Q9:=aq3 (q9 w4 (Below.refl _ _));clear q9 Pd hq;go_wp2_with fail
     refine(bH hs Q9.out).mono ?_
     clear hs Q9;rintro e w5 ⟨rfl,hs⟩;go_wp2
     go_loopw [7] (fun v wr=>∃j:Nat,v=.int .i64 j/\j<=q/\St K wr (az (.slice ax q cx) 186 3 q (gS vs)::az (.slice (some ⟨ga,0,none⟩) m cap) 23 1 m (aQ rs)::blk bv (.cells #[.int .i64 (d).th,.int .i64 (d).sn,.int .i64 (d).no,.int .i64 (d).ch,.int .i64 (d).re,.int .i64 (d).fa,.int .u64 (d).cl,.slice (some ⟨g,0,none⟩) n n] 52)::F)) (fun v _=>q-(intOf v).toNat)
     case atStart=>exact⟨0,rfl,by omega,hs⟩
     case round=>
      clear hs;obtain⟨j,rfl,hj,hs⟩:=hrel;by_cases hjq:j<q
      ·obtain⟨x,hx⟩:∃x,vs[j]?=some x:=⟨_,aq8 (by have:=Hq.out;omega)⟩
       obtain⟨x0,x1,x2⟩:=xN vs j x hx;obtain⟨gx,hgx,cx0⟩:=hs.cQ x0;subst hgx;obtain⟨s1,s2,_,_⟩:=H9.out j x hx;have y1:(x.st == 0)=false:=by simp;omega
       have y2:¬ ((ah L 2).n<x.st):=by omega
       have kv:=hs.k2;clear x0 x1 x2 hx s1 s2;go_upto_region 18 with(fail)
       have Qy:=aq3 (fun wz (hy:∃x:Ext,wz=over wr x) (i:Int)=>Q.out i wz _ (hs.same (Pure.below hy)))
       refine bI (by kernel_rfl) (by kernel_rfl) ?_
       repeat (go_big_quiet_step ((go_at_call 83;exact aX (Qy.out _ ⟨_,rfl⟩ _))))
       refine wpQuiet_nil ?_
       intro w6 Qk;have hs:=hs.same Qk;clear kv cx0 Qk Qy;go_wp2
       go_roundw
       case rel=>exact⟨j+1,by go_num,by omega,hs⟩
       case measure=>simp[intOf];omega
      ·go_wp2
       go_roundw
       case rel=>exact⟨k+1,by go_num,by omega,hs.tail⟩
       case measure=>simp[intOf];omega
  ·go_wp2
   go_ret;exact⟨rfl,hs.tail.tail⟩
end
theorem Jg {a:Option Addr}{n cap:Nat}{pg:Pg}{fa:Int}(bZ:0<=pg.ak/\pg.ak<1000000)(hn:n=pg.sl.length)(rO:(n:Int)<=fa/\fa<=1000000)(h1:0<pg.ak->0<n)(dJ:kV pg.sl)(vA:∀s,s∈pg.sl->1<=s.r)
  (kN:pg.la=true->pg.hi=⟨#[]⟩/\pg.ri=0) (hnl:pg.la=false->(∀s,s∈pg.sl->cA s.k pg.hi=true)/\pg.ri≠0) (w:World) (h:ej w a pg.sl) :
  Calls Tryz.prog 126 #[.agg #[.int .i64 (pg).ak,(.slice a n cap),.string (pg).hi,.bool (pg).la,.int .u64 (pg).ri],.int .i64 fa,.bool false] w fun e w' => e=.returned (.bool true)/\Below w.heap.size w w' := by
 obtain⟨ak,sl,hi,la,ri⟩:=pg;cases la with
 | true=>exact Eh bZ hn rO h1 dJ vA (kN rfl).1 (kN rfl).2 w h
 | false=>exact zt bZ hn rO h1 dJ vA (hnl rfl).1 (hnl rfl).2 w h
structure aax (d:aR)(L:List aO)(ak:Nat)(below:List Int)(mz:List ByteArray)(nd:Nd):Prop where
 ok:uM d L nd
 lv:nd.pg.ak=ak
 ne:0<ak->∃s r,nd.pg.sl=s::r/\s.k=nd.low
 la:nd.pg.la=true->nd.pg.hi=⟨#[]⟩/\nd.pg.ri=0
 ri:nd.pg.la=false->1<=nd.pg.ri/\nd.pg.ri<=d.no/\nd.pg.ri<=(ah L 4).n
 dn:∀s,s∈nd.pg.sl->ak=0\/∃k:Nat,below[k]?=some s.r/\mz[k]?=some s.k
section
variable {K:aL}{w:World}{F:List aC}{d:aR}{g:Nat}{L:List aO}{nd:Nd}{ak:Nat}{below:List Int}{mz:List ByteArray}{ab al:Option Addr}{cb cl:Nat}
theorem Vl (hd:d.Ok)(hS:aax d L ak below mz nd)(bZ:ak<=4096)(hbl:below.length=mz.length/\below.length<=4096)(hL:bD L)(hg:K.map g=some (.cells (flat L).toArray 63))(hl:L.length<=1000000)
  (hs:St K w (az (.slice ab below.length cb) 23 1 below.length (aQ below)::az (.slice al mz.length cl) 9 1 mz.length (bO mz)::F)) :
  Calls Tryz.prog 86 #[.agg #[.int .i64 (d).th,.int .i64 (d).sn,.int .i64 (d).no,.int .i64 (d).ch,.int .i64 (d).re,.int .i64 (d).fa,.int .u64 (d).cl,.slice (some ⟨g,0,none⟩) L.length L.length],.int .u64 nd.id,.int .i64 ak,.string nd.low,.slice ab below.length cb,.slice al mz.length cl] w
   fun e w' => e=.returned (.bool true)/\St K w' (az (.slice ab below.length cb) 23 1 below.length (aQ below)::az (.slice al mz.length cl) 9 1 mz.length (bO mz)::F):=by
 have hN:=hS.ok;have hid:=hN.id;have iX:=hd.mJ;have aje:=hd.fo;have vT:=hd.mK;have Yt:=hN.page.le;have hpn:=hN.page.n;have hfr:=hN.free.n;have b0:=(hL (d.node nd.id 0)).1;have z0:((ah L (d.node nd.id 0)).n.tmod 4 != 0)=false:=by rw[Int.tmod_eq_emod_of_nonneg b0,hfr];rfl
 have z1:¬ (d.fa<(ah L (d.node nd.id 1)).n):=by omega
 have mF:nd.pg.la=true\/(nd.pg.la=false/\1<=nd.pg.ri/\nd.pg.ri<=d.no/\nd.pg.ri<=(ah L 4).n):=by
  rcases Bool.eq_false_or_eq_true nd.pg.la with h|h
  ·exact .inl h
  ·exact .inr ⟨h,hS.ri h⟩
 have Hri:=aq3 mF;have HS:=aq3 hS;have hs:=hs.made (.cells #[.int .i64 (d).th,.int .i64 (d).sn,.int .i64 (d).no,.int .i64 (d).ch,.int .i64 (d).re,.int .i64 (d).fa,.int .u64 (d).cl,.slice (some ⟨g,0,none⟩) L.length L.length] 52);obtain⟨bv,nS⟩:∃bv,bv=w.heap.size:=⟨_,rfl⟩;have Qp:=aq3 (fun W cs (h:St K W cs)=>fD hd hid.1 hid.2 hN.page hg hl h)
 have afs:=aq3 (fun W cs (h:St K W cs)=>vX hd nd.id (by omega) W (kR hg hl h))
 have aay:=aq3 (fun W cs (h:St K W cs)=>l9 hd nd.id 1 (by omega) (by omega) W (kR hg hl h))
 have Qn:=aq3 (fun(id:Int) (h:0<=id/\id<18446744073709551616) W cs (h2:St K W cs)=>nR hd id h hg hl h2)
 obtain⟨m,hm⟩:∃m,m=below.length:=⟨_,rfl⟩;obtain⟨q,hq⟩:∃q,q=nd.pg.sl.length:=⟨_,rfl⟩;have Qck:=aq3 (fun W (a:Option Addr) (cap:Nat) (h:ej W a nd.pg.sl)=>Jg (fa:=d.fa) (pg:=nd.pg) (cap:=cap) (by rw[hS.lv];omega) hq (by omega) (fun h0=>by
  obtain⟨s,r,e,_⟩:=hS.ne (by rw[hS.lv]at h0;omega)
  rw[hq,e];simp) hN.jA hN.rf hS.la (fun e=>⟨fun s hs=>(hN.bd s hs).2 e,by have:=(hS.ri e).1;omega⟩) W h)
 have Hm:=aq3 hm;have Hq:=aq3 hq;have Hbl:=aq3 hbl;have hm4:m<=4096:=by omega
 have hq4:q<=4096:=by omega
 have hlv:=aq3 hS.lv;rw[←hbl.1,←hm]at hs ⊢;rw[←hq]at Qp;generalize L.length=n at *;generalize ah L (d.node nd.id 0)=c0 at *;generalize ah L (d.node nd.id 1)=c1 at *;have Z1:=aq3 z1;clear z1;clear hg hS hN hL Yt hpn hfr b0 mF hm hq hbl hl;go_enter Tryz.func86,Tryz.ntmps86
 go_wp2_with fail
 refine(Qp.out _ _ hs).mono ?_
 rw[←nS]at hs ⊢;clear hs Qp nS;rintro e w1 ⟨va,rfl,hs⟩;obtain⟨a1,mA,rfl,_,_⟩:=hs.aH;have hs:=hs.made (.cells #[.int .i64 (nd.pg).ak,(.slice a1 q mA),.string (nd.pg).hi,.bool (nd.pg).la,.int .u64 (nd.pg).ri] 43);obtain⟨bp,mS⟩:∃bp,bp=w1.heap.size:=⟨_,rfl⟩;go_upto_region 2 with(fail)
 rw[←mS]at hs ⊢;clear mS;have kp:=hs.k0;have kv:=hs.k2;have Bt:=hlv.out;obtain⟨lv,aka⟩:∃lv,lv=nd.pg.ak:=⟨_,rfl⟩;have eY:=(show St K _ (az _ _ _ _ _::_)from hs.b1).cO (by rw[←Hq.out];omega)
 obtain⟨w2,hw2⟩:∃w2,w2=w1.alloc (.cells #[.int .i64 (nd.pg).ak,(.slice a1 q mA),.string (nd.pg).hi,.bool (nd.pg).la,.int .u64 (nd.pg).ri] 43):=⟨_,rfl⟩;rw[←hw2]at hs kp kv eY ⊢;have Qly:=aq3 (fun wz (hy:∃x:Ext,wz=over w2 x)=>afs.out wz _ (hs.same (Pure.below hy)))
 have Qpy:=aq3 (fun wz (hy:∃x:Ext,wz=over w2 x)=>aay.out wz _ (hs.same (Pure.below hy)))
 have Qcy:=aq3 (fun wz (hy:∃x:Ext,wz=over w2 x)=>Qck.out wz a1 mA (eY.same (Pure.below hy)))
 have z1:¬ (d.fa<c1.n):=by have:=Z1.out;omega
 rw[Bt]at kp;clear hw2 eY aka Bt;refine bI (by kernel_rfl) (by kernel_rfl) ?_
 repeat (go_big_quiet_step (first|(go_at_call 31;exact aX (Qly.out _ ⟨_,rfl⟩))|(go_at_call 87;exact aX (Qpy.out _ ⟨_,rfl⟩))|(go_at_call 126;rw[←hlv.out];exact aX (Qcy.out _ ⟨_,rfl⟩))))
 refine wpQuiet_nil ?_
 intro w3 hb3;have hs:=hs.same hb3;clear kp kv hb3 Qly Qpy Qcy;clear Qck afs aay Z1 z1;go_wp2
 go_loopw [14] (fun v wr=>∃i:Nat,v=.int .i64 i/\i<=q/\St K wr (blk bp (.cells #[.int .i64 (nd.pg).ak,(.slice a1 q mA),.string (nd.pg).hi,.bool (nd.pg).la,.int .u64 (nd.pg).ri] 43)::az (.slice a1 q mA) 69 2 q (aD nd.pg.sl)::blk bv (.cells #[.int .i64 (d).th,.int .i64 (d).sn,.int .i64 (d).no,.int .i64 (d).ch,.int .i64 (d).re,.int .i64 (d).fa,.int .u64 (d).cl,.slice (some ⟨g,0,none⟩) n n] 52)::az (.slice ab m cb) 23 1 m (aQ below)::az (.slice al m cl) 9 1 m (bO mz)::F)) (fun v _=>q-(intOf v).toNat)
 case atStart=>exact⟨0,rfl,by omega,hs⟩
 case round=>
  clear hs;obtain⟨i,rfl,hi,hs⟩:=hrel;by_cases hiq:i<q
  ·obtain⟨s,hsi⟩:∃s,nd.pg.sl[i]?=some s:=⟨_,aq8 (by have:=Hq.out;omega)⟩
   have hmem:=aq7 hsi;have dW:=(HS.out.ok.bd s hmem).1;have hdn:=HS.out.dn s hmem;have nQ:0<ak->i=0->s.k=nd.low:=fun h1 h2=>by
    obtain⟨s',r',e1,e2⟩:=HS.out.ne h1;rw[h2,e1]at hsi;rw[←e2,←aq9 hsi]
   obtain⟨x0,x1⟩:=fW nd.pg.sl i s hsi;obtain⟨ga,Oo,cz⟩:=(show St K wr (az _ _ _ _ _::_)from hs.b1).cQ x0
   subst Oo;clear cz;have X0:=aq3 x0;have X1:=aq3 x1;have acy:=aq3 nQ;have Hdn:=aq3 hdn;clear x0 x1 nQ hdn hmem hsi;have kp:=hs.k0;go_upto_region 7 with(fail)
   go_cut [81]from 999 to 0 (fun v wx=>v=.bool false/\St K wx (blk bp (.cells #[.int .i64 (nd.pg).ak,(.slice (some ⟨ga,0,none⟩) q mA),.string (nd.pg).hi,.bool (nd.pg).la,.int .u64 (nd.pg).ri] 43)::az (.slice (some ⟨ga,0,none⟩) q mA) 69 2 q (aD nd.pg.sl)::blk bv (.cells #[.int .i64 (d).th,.int .i64 (d).sn,.int .i64 (d).no,.int .i64 (d).ch,.int .i64 (d).re,.int .i64 (d).fa,.int .u64 (d).cl,.slice (some ⟨g,0,none⟩) n n] 52)::az (.slice ab m cb) 23 1 m (aQ below)::az (.slice al m cl) 9 1 m (bO mz)::F))
   case first=>
    as_aux_lemma=>
    by_cases hl0:0<ak
    ·rcases Nat.eq_zero_or_pos i with h0|h0
     ·have e:=acy.out hl0 h0
      have c0:=(show St K wr (az _ _ _ _ _::_)from hs.b1).bK X0.out
      rw[e]at c0 dW;subst h0;have mD:(0:Int)<ak:=by omega
      have c0':wr.cell? ⟨ga,0,none⟩=some (.string nd.low):=by simpa using c0
      clear e;go_wp2
      go_meet;exact⟨rfl,hs⟩
     ·have c0:=(show St K wr (az _ _ _ _ _::_)from hs.b1).bK X0.out
      have mD:(0:Int)<ak:=by omega
      have z:((i:Int) == 0)=false:=by simp;omega
      go_wp2
      go_meet;exact⟨rfl,hs⟩
    ·have c0:=(show St K wr (az _ _ _ _ _::_)from hs.b1).bK X0.out
     obtain rfl:ak=0:=by omega
     go_wp2
     go_meet;exact⟨rfl,hs⟩
   case rest=>
   clear hs kp;obtain⟨rfl,hs⟩:=hcut;apply_assumption
   go_wp2
   go_loopw [15,16] (fun v15 v16 wr=>∃(b:Bool) (k:Nat),v15=.bool b/\v16=.int .i64 k/\k<=m/\Hid ((ak=0->b=true)/\∀k':Nat,k' < k->below[k']?=some s.r->mz[k']?=some s.k->b=true)/\St K wr (blk bp (.cells #[.int .i64 (nd.pg).ak,(.slice (some ⟨ga,0,none⟩) q mA),.string (nd.pg).hi,.bool (nd.pg).la,.int .u64 (nd.pg).ri] 43)::az (.slice (some ⟨ga,0,none⟩) q mA) 69 2 q (aD nd.pg.sl)::blk bv (.cells #[.int .i64 (d).th,.int .i64 (d).sn,.int .i64 (d).no,.int .i64 (d).ch,.int .i64 (d).re,.int .i64 (d).fa,.int .u64 (d).cl,.slice (some ⟨g,0,none⟩) n n] 52)::az (.slice ab m cb) 23 1 m (aQ below)::az (.slice al m cl) 9 1 m (bO mz)::F)) (fun _ v16 _=>m-(intOf v16).toNat)
   case atStart=>exact⟨_,0,rfl,rfl,by omega,aq3 ⟨fun h=>by subst h;rfl,fun k' h=>by omega⟩,hs⟩
   case round=>
    clear hs;obtain⟨b,k,rfl,rfl,hk,HB,hs⟩:=hrel;by_cases hkm:k<m
    ·obtain⟨x,hx⟩:∃x,below[k]?=some x:=⟨_,aq8 (by have:=Hm.out;omega)⟩
     obtain⟨y,hy⟩:∃y,mz[k]?=some y:=⟨_,aq8 (by have:=Hm.out;have:=Hbl.out;omega)⟩
     obtain⟨gb,hgb,cx⟩:=(show St K wr (az _ _ _ _ _::_)from hs.b3).cQ (show(aQ below)[k]?=some (.int .u64 x)by simp[aQ,hx])
     obtain⟨gl,hgl,cy⟩:=(show St K wr (az _ _ _ _ _::_)from hs.b4).cQ (show(bO mz)[k]?=some (.string y)by simp[bO,hy])
     subst hgb hgl;have kp:=hs.k0;have c0:=(show St K wr (az _ _ _ _ _::_)from hs.b1).bK X0.out
     have c1:=(show St K wr (az _ _ _ _ _::_)from hs.b1).bK X1.out
     have Hx:=aq3 hx;have Hy:=aq3 hy;clear hx hy;go_upto_region 13 with(fail)
     refine bI (by kernel_rfl) (by kernel_rfl) ?_
     rcases Bool.eq_false_or_eq_true b with rfl|rfl
     ·as_aux_lemma=>
      repeat (go_big_quiet_step (fail))
      refine wpQuiet_nil ?_
      intro w5 hb5;have hs:=hs.same hb5;clear kp c0 c1 cx cy hb5;go_wp2
      go_roundw
      case rel=>exact⟨_,k+1,rfl,by go_num,by omega,aq3 (⟨fun _=>rfl,fun _ _ _ _=>rfl⟩),hs⟩
      case measure=>simp[intOf];omega
     ·cases Et:(x == s.r)with
      | false=>
       as_aux_lemma=>
       have HX:=aq3 (show ∀k':Nat,k' < k+1->below[k']?=some s.r->mz[k']?=some s.k->false=true from fun k' h1 h2 h3=>by
        by_cases e:k'=k
        ·rw[e,Hx.out]at h2
         rw[aq9 h2]at Et;simp at Et
        ·exact HB.out.2 k' (by omega) h2 h3)
       repeat (go_big_quiet_step (fail))
       refine wpQuiet_nil ?_
       intro w5 hb5;have hs:=hs.same hb5;clear kp c0 c1 cx cy hb5;go_wp2
       go_roundw
       case rel=>exact⟨_,k+1,rfl,by go_num,by omega,aq3 (⟨HB.out.1,HX.out⟩),hs⟩
       case measure=>simp[intOf];omega
      | true=>
       cases hyk:(y.toList == s.k.toList)with
       | false=>
        as_aux_lemma=>
        have HX:=aq3 (show ∀k':Nat,k' < k+1->below[k']?=some s.r->mz[k']?=some s.k->false=true from fun k' h1 h2 h3=>by
         by_cases e:k'=k
         ·rw[e,Hy.out]at h3
          rw[aq9 h3]at hyk;simp at hyk
         ·exact HB.out.2 k' (by omega) h2 h3)
        repeat (go_big_quiet_step (fail))
        refine wpQuiet_nil ?_
        intro w5 hb5;have hs:=hs.same hb5;clear kp c0 c1 cx cy hb5;go_wp2
        go_roundw
        case rel=>exact⟨_,k+1,rfl,by go_num,by omega,aq3 (⟨HB.out.1,HX.out⟩),hs⟩
        case measure=>simp[intOf];omega
       | true=>
        as_aux_lemma=>
        repeat (go_big_quiet_step (fail))
        refine wpQuiet_nil ?_
        intro w5 hb5;have hs:=hs.same hb5;clear kp c0 c1 cx cy hb5;go_wp2
        go_roundw
        case rel=>exact⟨_,k+1,rfl,by go_num,by omega,aq3 (⟨fun _=>rfl,fun _ _ _ _=>rfl⟩),hs⟩
        case measure=>simp[intOf];omega
    ·obtain rfl:k=m:=by omega
     obtain rfl:b=true:=by
      rcases Hdn.out with h|⟨k',h1,h2⟩
      ·exact HB.out.1 h
      ·exact HB.out.2 k' (by have:=(aq5.1 h1).1;have:=Hm.out;omega) h1 h2
     go_wp2
     go_roundw
     case rel=>exact⟨i+1,by go_num,by omega,hs⟩
     case measure=>simp[intOf];omega
  ·have kp:=hs.k0
   rcases Hri.out with h|⟨h,h1,h2,h3⟩
   ·rw[h]at kp
    clear h;go_wp2
    go_ret;exact⟨rfl,hs.tail.tail.tail⟩
   ·have kv:=hs.k2
    rw[h]at kp;have qn:=Qn.out nd.pg.ri (by omega)
    rw[decide_eq_true (show 1<=nd.pg.ri/\nd.pg.ri<=d.no/\nd.pg.ri<=(ah L 4).n from⟨h1,h2,h3⟩)]at qn
    have QN:=aq3 qn;clear h qn h1 h2 h3;go_wp2_with fail
    refine(QN.out _ _ hs).mono ?_
    clear hs kp kv;rintro e w4 ⟨rfl,hs⟩;go_wp2
    go_ret;exact⟨rfl,hs.tail.tail.tail⟩
end
def ji (t:List (List Nd)):Nat->List Nd
 | 0=>[]
 | k+1=>(t[k]?).getD []
def ve (pg:Pg)(u:Value)(e1 e2:Nat)(e:Nat)(_ρ:Nat->Option Value)(v:Value)(cs:List aC):Prop:=
 if e=e1 then ∃(a:Option Addr) (c:Nat),v=(.agg #[.int .i64 (pg).ak,(.slice a pg.sl.length c),.string (pg).hi,.bool (pg).la,.int .u64 (pg).ri])/\cs=[bu (.slice a pg.sl.length c) pg]
 else if e=e2 then v=u/\cs=[]else False
theorem ve.mono {pg:Pg}{u:Value}{e1 e2:Nat}{es:List Nat}:Rt es (ve pg u e1 e2):=by
 intro e ρ v cs k u he hk h;exact h
theorem cD.snd {d:aR}{L:List aO}{t:List (List Nd)}(ht:cD d L t){ak:Nat}{l:List Nd}(hl:t[ak]?=some l){nd:Nd}(hn:nd∈l):aax d L ak ((ji t ak).map (·.id)) ((ji t ak).map (·.low)) nd:=by
 obtain⟨i,hi⟩:=aq4 hn;have hil:=(aq5.1 hi).1;have hR:=ht.rows ak l hl;refine⟨ht.nodes ak l hl nd hn,hR.ak nd hn,fun h0=>?_,fun h=>?_,fun h=>?_,fun s hs=>?_⟩
 ·obtain⟨k,rfl⟩:∃k,ak=k+1:=⟨ak-1,by omega⟩
  obtain⟨l0,hl0⟩:∃l0,t[k]?=some l0:=⟨_,aq8 (by have:=(aq5.1 hl).1;omega)⟩
  exact(ht.down k l0 l hl0 hl nd hn).1
 ·rcases Nat.lt_or_ge (i+1) l.length with hlt|hge
  ·have:=(hR.next i nd _ hi (aq8 hlt)).1
   rw[h]at this;cases this
  ·exact(hR.last i nd hi (by omega)).2
 ·rcases Nat.lt_or_ge (i+1) l.length with hlt|hge
  ·obtain⟨b,hb⟩:∃b,l[i+1]?=some b:=⟨_,aq8 hlt⟩
   rw[(hR.next i nd b hi hb).2.2.1];have h1:=(ht.nodes ak l hl b (aq7 hb)).id;have h2:=ht.used ak l hl b (aq7 hb);omega
  ·have:=(hR.last i nd hi (by omega)).1
   rw[h]at this;cases this
 ·rcases Nat.eq_zero_or_pos ak with h0|h0
  ·exact .inl h0
  ·obtain⟨k,rfl⟩:∃k,ak=k+1:=⟨ak-1,by omega⟩
   obtain⟨l0,hl0⟩:∃l0,t[k]?=some l0:=⟨_,aq8 (by have:=(aq5.1 hl).1;omega)⟩
   obtain⟨c,hc,e1,e2⟩:=(ht.down k l0 l hl0 hl nd hn).2 s hs;obtain⟨j,hj⟩:=aq4 hc;have hb:ji t (k+1)=l0:=by show(t[k]?).getD []=l0;rw[hl0];rfl
   refine .inr ⟨j,?_,?_⟩
   ·rw[hb,List.getElem?_map,hj,←e1];rfl
   ·rw[hb,List.getElem?_map,hj,←e2];rfl
theorem cD.afv {d:aR}{L:List aO}{t:List (List Nd)}(hd:d.Ok)(ht:cD d L t)(k:Nat):(ji t k).length<=4096:=by
 have h1:=ht.count;have h2:=ht.n4;have h3:=hd.mJ;cases k with
 | zero=>exact Nat.zero_le _
 | succ k=>
  show((t[k]?).getD []).length<=4096
  cases h:t[k]? with
  | none=>exact Nat.zero_le _
  | some l=>have:=List.cX h;show l.length<=4096;omega
structure Vm (d:aR)(L:List aO)(t:List (List Nd)):Prop where
 tr:cD d L t
 ct:afr d L
 ch:∀l,t[0]?=some l->aaw d L ((l.flatMap fun nd=>nd.pg.sl).map (·.r))
theorem zu {K:aL}{w:World}{F:List aC}{d:aR}{g:Nat}{L:List aO}{t:List (List Nd)}(hd:d.Ok)(hL:bD L)(hlen:(L.length:Int)=d.cells)(hO:Vm d L t)(hg:K.map g=some (.cells (flat L).toArray 63))(hs:St K w F) :
  Calls Tryz.prog 24 #[.agg #[.int .i64 (d).th,.int .i64 (d).sn,.int .i64 (d).no,.int .i64 (d).ch,.int .i64 (d).re,.int .i64 (d).fa,.int .u64 (d).cl,.slice (some ⟨g,0,none⟩) L.length L.length]] w fun e w' => e=.returned (.bool true)/\St K w' F:=by
 have ht:=hO.tr;have iX:=hd.mJ;have hcb:=hd.eb;have hl:L.length<=1000000:=by omega
 have htl:=ht.zh hd;have hs:=hs.made (.cells #[.int .i64 (d).th,.int .i64 (d).sn,.int .i64 (d).no,.int .i64 (d).ch,.int .i64 (d).re,.int .i64 (d).fa,.int .u64 (d).cl,.slice (some ⟨g,0,none⟩) L.length L.length] 52);obtain⟨bv,nS⟩:∃bv,bv=w.heap.size:=⟨_,rfl⟩;obtain⟨l0,hl0⟩:∃l0,t[0]?=some l0:=⟨_,aq8 ht.ne⟩;obtain⟨rt,rest,fU,hroot⟩:=ht.top;have Oj:=(ht.nodes _ _ fU rt List.mem_cons_self).id;have afw:=ht.used _ _ fU rt List.mem_cons_self;have Q0:=aq3 (fun W (h:W.heap[g]?=some (.cells (flat L).toArray 63))=>gq (d:=d) 0 W (kR (K:=aL.of W) h hl (St.start W)))
 have Qn:=aq3 (fun W (h:W.heap[g]?=some (.cells (flat L).toArray 63))=>(nR (K:=aL.of W) hd (ah L 0).n (by rw[hroot];omega) h hl (St.start W)).mono (fun e w' (h:_/\_)=>(⟨h.1,h.2.below (aL.Le.refl _)⟩:_/\Below W.heap.size W w')))
 rw[decide_eq_true (show 1<=(ah L 0).n/\(ah L 0).n<=d.no/\(ah L 0).n<=(ah L 4).n from by rw[hroot];exact⟨Oj.1,Oj.2,afw⟩)]at Qn
 have Qc:=aq3 (fun W (h:W.heap[g]?=some (.cells (flat L).toArray 63))=>(Ei (K:=aL.of W) hd hL hO.ct h hl (St.start W)).mono (fun e w' (h:_/\_)=>(⟨h.1,h.2.below (aL.Le.refl _)⟩:_/\Below W.heap.size W w')))
 have Qh:=aq3 (fun W (h:W.heap[g]?=some (.cells (flat L).toArray 63))=>(Oq (K:=aL.of W) hd hL ht hl0 (hO.ch l0 hl0) h hl (St.start W)).mono (fun e w' (h:_/\_)=>(⟨h.1,h.2.below (aL.Le.refl _)⟩:_/\Below W.heap.size W w')))
 have Qt:=aq3 (fun W cs (h:St K W cs)=>wu hd ht hlen hg h)
 have Ql:=aq3 (fun(k:Nat) (hk:k<=t.length) W cs (h:St K W cs)=>iU (k:=k) hd ht hk hg hl h)
 have Qp:=aq3 (fun(k:Nat) (l:List Nd) (nd:Nd) (hk:t[k]?=some l) (hn:nd∈l) W cs (h:St K W cs)=>fD hd (ht.nodes k l hk nd hn).id.1 (ht.nodes k l hk nd hn).id.2 (ht.nodes k l hk nd hn).page hg hl h)
 have Qs:=aq3 (fun(ak:Nat) (l:List Nd) (nd:Nd) (hk:t[ak]?=some l) (hn:nd∈l) (B:Nat) (hB:B=(ji t ak).length) (ab al:Option Addr) (cb cl:Nat) W cs (h:St K W (az (.slice ab B cb) 23 1 B (aQ ((ji t ak).map (·.id)))::az (.slice al B cl) 9 1 B (bO ((ji t ak).map (·.low)))::cs))=>
  show Calls Tryz.prog 86 #[.agg #[.int .i64 (d).th,.int .i64 (d).sn,.int .i64 (d).no,.int .i64 (d).ch,.int .i64 (d).re,.int .i64 (d).fa,.int .u64 (d).cl,.slice (some ⟨g,0,none⟩) L.length L.length],.int .u64 nd.id,.int .i64 ak,.string nd.low,.slice ab B cb,.slice al B cl] W fun e w' => e=.returned (.bool true)/\St K w' (az (.slice ab B cb) 23 1 B (aQ ((ji t ak).map (·.id)))::az (.slice al B cl) 9 1 B (bO ((ji t ak).map (·.low)))::cs)from by
   have q:=Vl (ab:=ab) (al:=al) (cb:=cb) (cl:=cl) (F:=cs) hd (ht.snd hk hn) (by have:=(aq5.1 hk).1;omega) (by rw[List.length_map,List.length_map];exact⟨rfl,ht.afv hd ak⟩) hL hg hl (w:=W)
   rw[List.length_map,List.length_map,←hB]at q;exact q h)
 have Hg:=aq3 hg;have Ht:=aq3 ht;have Hbr:=aq3 (ht.afv hd);obtain⟨n,hn⟩:∃n,n=L.length:=⟨_,rfl⟩;have Hlc:=aq3 (show ∀(k:Nat) (l:List Nd),t[k]?=some l->l.length<=4096 from fun k l h=>by have:=List.cX h;have:=ht.count;have:=ht.n4;omega)
 rw[←hn]at Q0 Qn Qc Qh Qt Ql Qp Qs hs ⊢;obtain⟨iv,cZ,dc,dg,dh⟩:=info_parts pF;have lI:=aq3 cZ;have lJ:=aq3 dc;have lK:=aq3 dg;have lM:=aq3 dh;clear cZ dc dg dh fU hroot Oj afw hlen hl hcb hL hO hg ht hl0 hn;go_enter Tryz.func24,Tryz.ntmps24
 go_upto_region 1 with(fail)
 rw[←nS]at hs ⊢;have kv:=hs.k0;obtain⟨w1,hw1⟩:∃w1,w1=w.alloc (.cells #[.int .i64 (d).th,.int .i64 (d).sn,.int .i64 (d).no,.int .i64 (d).ch,.int .i64 (d).re,.int .i64 (d).fa,.int .u64 (d).cl,.slice (some ⟨g,0,none⟩) n n] 52):=⟨_,rfl⟩;rw[←hw1]at hs kv ⊢;clear hw1 nS;have Hz:=fun wz (hy:∃x:Ext,wz=over w1 x)=>(hs.same (Pure.below hy)).jT g _ Hg.out
 have Q0y:=aq3 (fun wz (hy:∃x:Ext,wz=over w1 x)=>Q0.out wz (Hz wz hy))
 have Qny:=aq3 (fun wz (hy:∃x:Ext,wz=over w1 x)=>Qn.out wz (Hz wz hy))
 have Qcy:=aq3 (fun wz (hy:∃x:Ext,wz=over w1 x)=>Qc.out wz (Hz wz hy))
 have Qhy:=aq3 (fun wz (hy:∃x:Ext,wz=over w1 x)=>Qh.out wz (Hz wz hy))
 clear Hz Q0 Qn Qc Qh;refine bI (by kernel_rfl) (by kernel_rfl) ?_
 repeat (go_big_quiet_step (first|(go_at_call 83;exact aX (Q0y.out _ ⟨_,rfl⟩))|(go_at_call 82;exact aX (Qny.out _ ⟨_,rfl⟩))|(go_at_call 84;exact aX (Qcy.out _ ⟨_,rfl⟩))|(go_at_call 85;exact aX (Qhy.out _ ⟨_,rfl⟩))))
 refine wpQuiet_nil ?_
 intro w2 hb2;have hs:=hs.same hb2;clear kv hb2 Q0y Qny Qcy Qhy;have hs:=(hs.cF (T:=23) (size:=1));have hs:=(hs.cF (T:=9) (size:=1)).b1;go_wp2
 go_loopw [3,4,5] (fun v3 v4 v5 wr=>∃(ak B:Nat) (ab al:Option Addr) (cb cl:Nat),v3=.slice ab B cb/\v4=.slice al B cl/\v5=.int .i64 ak/\ak<=t.length/\Hid (B=(ji t ak).length)/\St K wr (az (.slice ab B cb) 23 1 B (aQ ((ji t ak).map (·.id)))::az (.slice al B cl) 9 1 B (bO ((ji t ak).map (·.low)))::blk bv (.cells #[.int .i64 (d).th,.int .i64 (d).sn,.int .i64 (d).no,.int .i64 (d).ch,.int .i64 (d).re,.int .i64 (d).fa,.int .u64 (d).cl,.slice (some ⟨g,0,none⟩) n n] 52)::F)) (fun _ _ v5 _=>t.length-(intOf v5).toNat)
 case atStart=>exact⟨0,0,none,none,0,0,rfl,rfl,rfl,by omega,aq3 rfl,hs⟩
 case round=>
  clear hs;obtain⟨ak,B,ab,al,cb,cl,rfl,rfl,rfl,hlt,HB,hs⟩:=hrel;have kv:=hs.k2;go_wp2_with fail
  refine(Qt.out _ _ hs).mono ?_
  clear hs kv;rintro e w3 ⟨rfl,hs⟩;have kv:=hs.k2;by_cases bZ:ak<t.length
  ·obtain⟨l,hl⟩:∃l,t[ak]?=some l:=⟨_,aq8 bZ⟩
   have hR:=Ht.out.rows ak l hl;obtain⟨m,hm⟩:∃m,m=l.length:=⟨_,rfl⟩;have hm0:0<m:=by rw[hm];exact hR.ne
   have hm4:m<=4096:=by rw[hm];exact Hlc.out ak l hl
   obtain⟨⟨pid,aps,⟨akb,psl,phi,pla,pri⟩⟩,Lj⟩:∃x,l[m-1]?=some x:=⟨_,aq8 (by omega)⟩
   obtain rfl:pla=true:=(hR.last (m-1) _ Lj (by omega)).1
   have qlv:=fun W cs (h:St K W cs)=>Ql.out ak (by omega) W cs h
   have fK:gX t ak=l.map (·.id):=by unfold gX;rw[hl]
   rw[fK]at qlv;have Ed:(l.map (·.id)).length=m:=by rw[List.length_map,hm]
   rw[Ed]at qlv;have QL:=aq3 qlv;have QPl:=aq3 (fun W cs (h:St K W cs)=>Qp.out ak l _ hl (aq7 Lj) W cs h)
   have QN0:=aq3 (fun(nd:Nd) (hn:nd∈l) W cs (h:St K W cs)=>Qp.out ak l nd hl hn W cs h)
   have QS0:=aq3 (fun(nd:Nd) (hn:nd∈l) W cs (h:St K W (az (.slice ab B cb) 23 1 B (aQ ((ji t ak).map (·.id)))::az (.slice al B cl) 9 1 B (bO ((ji t ak).map (·.low)))::cs))=>Qs.out ak l nd hl hn B HB.out ab al cb cl W cs h)
   have aaz:=aq3 Lj;have Hl:=aq3 hl;have HR:=aq3 hR;have Hm:=aq3 hm;have hmi:((m:Int)-1)=((m-1:Nat):Int):=by omega
   have zm:((m:Int) == 0)=false:=by simp;omega
   have Hmi:=aq3 hmi;have Zm:=aq3 zm;clear Lj hl hR fK Ed qlv hm hmi zm;go_wp2_with fail
   refine(QL.out _ _ hs).mono ?_
   clear hs kv QL;rintro e w4 ⟨va,rfl,hs⟩;obtain⟨aa,ca,rfl,_,_⟩:=hs.aH;obtain⟨ga,Oo,cz⟩:=hs.cQ (show(aQ (l.map (·.id)))[m-1]?=some (.int .u64 pid)by simp[aQ,aaz.out])
   subst Oo;clear cz;go_upto_region 9 with(fail)
   have zm:=Zm.out;have hmi:=Hmi.out;go_cut [49]from 999 to 0 (fun v wx=>v=.bool false/\St K wx (az (.slice (some ⟨ga,0,none⟩) m ca) 23 1 m (aQ (l.map (·.id)))::az (.slice ab B cb) 23 1 B (aQ ((ji t ak).map (·.id)))::az (.slice al B cl) 9 1 B (bO ((ji t ak).map (·.low)))::blk bv (.cells #[.int .i64 (d).th,.int .i64 (d).sn,.int .i64 (d).no,.int .i64 (d).ch,.int .i64 (d).re,.int .i64 (d).fa,.int .u64 (d).cl,.slice (some ⟨g,0,none⟩) n n] 52)::F))
   case first=>
    as_aux_lemma=>
    have Hs:=aq3 hs;clear hs;refine dG [false,false,false,false,false,false,false,false,false,false,false,true,true,false,false] (fun|12=>some (.bool true)|_=>none) [11,12] (fun|12=>[11] | _=>[])
     (GR K (az (.slice (some ⟨ga,0,none⟩) m ca) 23 1 m (aQ (l.map (·.id)))::az (.slice ab B cb) 23 1 B (aQ ((ji t ak).map (·.id)))::az (.slice al B cl) 9 1 B (bO ((ji t ak).map (·.low)))::blk bv (.cells #[.int .i64 (d).th,.int .i64 (d).sn,.int .i64 (d).no,.int .i64 (d).ch,.int .i64 (d).re,.int .i64 (d).fa,.int .u64 (d).cl,.slice (some ⟨g,0,none⟩) n n] 52)::F) [11,12] (ve ⟨akb,psl,phi,true,pri⟩ (.bool true) 11 12))
     (fun W=>St K W (az (.slice (some ⟨ga,0,none⟩) m ca) 23 1 m (aQ (l.map (·.id)))::az (.slice ab B cb) 23 1 B (aQ ((ji t ak).map (·.id)))::az (.slice al B cl) 9 1 B (bO ((ji t ak).map (·.low)))::blk bv (.cells #[.int .i64 (d).th,.int .i64 (d).sn,.int .i64 (d).no,.int .i64 (d).ch,.int .i64 (d).re,.int .i64 (d).fa,.int .u64 (d).cl,.slice (some ⟨g,0,none⟩) n n] 52)::F)) ?apB (by kernel_rfl) ?akc ?raH ?afx ?akd ?ake ?akf ?akg ?akh
    case akc=>as_aux_lemma=>kernel_rfl
    case raH=>
     intro W2 hs;have kv:=hs.b3.k0;have c0:=hs.bK (show(aQ (l.map (·.id)))[m-1]?=some (.int .u64 pid)by simp[aQ,aaz.out])
     clear hs;simp only[cN];repeat (go_big_quiet_step (fail))
     refine wpQuiet_nil ?_
     rfl
    case afx=>rfl
    case akd=>exact GR.start Hs.out
    case ake=>exact fun ρ W2 h=>h.rest
    case akf=>exact fun ρ W2 W3 h hb=>h.same hb
    case akg=>
     refine⟨?afy,?afz,trivial⟩;case afy=>
      intro o ho ρ W2 h hcl h11 hd2 act dD;obtain rfl:=aq9 ho;replace dD:act=aj _ ρ [] _:=dD;obtain⟨C,R',hx1,hs,hnext⟩:=h.step ve.mono 11 [] (by decide) (by decide) (by decide) h11 (by simp)
      simp only[aj]at dD;subst dD;have Hn:=aq3 hnext;clear hnext hx1 h hcl hd2 h11;go_wp2_with fail
      refine(QPl.out _ _ hs).mono ?_
      rintro e W3 ⟨va8,rfl,hs'⟩;obtain⟨a8,c8,rfl,_,_⟩:=hs'.aH;have eG:=aq3 hs';clear hs hs';go_wp2
      exact⟨rfl,_,rfl,fun u hu=>(by cases hu),Hn.out _ _ W3 ⟨a8,c8,rfl,rfl⟩ eG.out⟩
     case afz=>
      intro o ho ρ W2 h hcl dr hd2 act dD;obtain rfl:=aq9 ho;replace dD:act=aj _ ρ [11] _:=dD;obtain⟨v11,h11⟩:=aq6.1 (hd2 11 (by show _∈[11];simp))
      obtain⟨Zz,R8,⟨a8,c8,rfl,rfl⟩,hs8⟩:=h.at 11 (by simp) h11
      simp only[aj,h11,Option.getD_some,aM,Act.put,ara]at dD;subst dD;have H:=aq3 (h.jT ve.mono 12 (by decide) (by simp) dr _ ⟨rfl,rfl⟩)
      clear h hs8 hcl hd2 dr h11;go_wp2
      exact⟨rfl,_,rfl,fun u hu=>aq9 hu,H.out⟩
    case akh=>
     intro ρ W2 h hall;have hs:=h.rest;clear h;simp only[aj,Option.getD_some,aM,Act.put,ara];go_wp2
     go_meet;exact⟨rfl,hs⟩
   case rest=>
   clear hs zm hmi;obtain⟨rfl,hs⟩:=hcut;apply_assumption
   have hs:=hs.cF (T:=9) (size:=1);go_wp2
   go_loopw [7,8,9] (fun v7 v8 v9 wr=>∃(i:Nat) (lw:ByteArray) (an:Option Addr) (cn:Nat),v7=.slice an i cn/\v8=.string lw/\v9=.int .i64 i/\i<=m/\Hid (∀nd:Nd,l[i]?=some nd->lw=nd.low)/\St K wr (az (.slice an i cn) 9 1 i (bO ((l.map (·.low)).take i))::az (.slice (some ⟨ga,0,none⟩) m ca) 23 1 m (aQ (l.map (·.id)))::az (.slice ab B cb) 23 1 B (aQ ((ji t ak).map (·.id)))::az (.slice al B cl) 9 1 B (bO ((ji t ak).map (·.low)))::blk bv (.cells #[.int .i64 (d).th,.int .i64 (d).sn,.int .i64 (d).no,.int .i64 (d).ch,.int .i64 (d).re,.int .i64 (d).fa,.int .u64 (d).cl,.slice (some ⟨g,0,none⟩) n n] 52)::F)) (fun _ _ v9 _=>m-(intOf v9).toNat)
   case atStart=>exact⟨0,_,none,0,rfl,rfl,rfl,by omega,aq3 (fun nd h=>((HR.out.first nd h)).symm),hs⟩
   case round=>
    clear hs;obtain⟨i,lw,an,cn,rfl,rfl,rfl,hi,Hlw,hs⟩:=hrel;by_cases him:i<m
    ·obtain⟨nd,hnd⟩:∃nd,l[i]?=some nd:=⟨_,aq8 (by have:=Hm.out;omega)⟩
     obtain rfl:=Hlw.out nd hnd;have QN:=aq3 (QN0.out nd (aq7 hnd));have QS:=aq3 (QS0.out nd (aq7 hnd));have dY:(l.map (·.low)).take (i+1)=(l.map (·.low)).take i++[nd.low]:=by rw[List.take_add_one,List.getElem?_map,hnd];rfl
     have zA:∀l8:Nd,l[i+1]?=some l8->nd.pg.hi=l8.low:=fun l8 h=>(HR.out.next i nd l8 hnd h).2.1
     have Od:=aq3 hnd;have iP:=aq3 dY;have Hnx:=aq3 zA;have kv:=hs.b4.k0;have c0:=(show St K wr (az _ _ _ _ _::_)from hs.b1).bK (show(aQ (l.map (·.id)))[i]?=some (.int .u64 nd.id)by simp[aQ,Od.out])
     clear hnd dY zA Hlw;go_upto_region 16 with(fail)
     refine bQ 9 (by kernel_rfl) (by as_aux_lemma=>kernel_rfl) ?_
     simp only[List.take_succ_cons,List.take_zero,List.drop_succ_cons,List.drop_zero];repeat (go_big_quiet_step (fail))
     refine wpQuiet_nil ?_
     intro w5 hb5;have hs:=hs.same hb5;clear kv c0 hb5;go_wp2_with fail
     refine(QS.out _ _ (hs.re [2,3,0,1] rfl)).mono ?_
     clear hs QS;rintro e w6 ⟨rfl,hs⟩;have hs:=hs.re [2,3,0,1] rfl;go_wp2_with (at_builtin;refine dF _ _ 22 9 _ i 1 16 _ [.string nd.low] (.string ⟨#[]⟩) iv hs rfl rfl Tryz.underlying22 lI.out lJ.out lK.out lM.out rfl (by decide) rfl rfl rfl (fun u hu=>by simp at hu;subst hu;rfl) (by omega) (by decide) ?_)
     clear hs;intro v' w' hs;obtain⟨an,cn,hv,_,_⟩:=hs.aH;subst hv;have hs:=hs.row_eq (ys:=bO ((l.map (·.low)).take (i+1))) (by rw[iP.out,l7])
     go_upto_region 19 with(fail)
     have Hs:=aq3 hs;clear hs;refine dG [false,false,false,false,false,true,true,false] (fun|6=>some (.string nd.pg.hi)|_=>none) [5,6] (fun|6=>[5] | _=>[])
      (GR K (az (.slice an (i+1) cn) 9 1 (i+1) (bO ((l.map (·.low)).take (i+1)))::az (.slice (some ⟨ga,0,none⟩) m ca) 23 1 m (aQ (l.map (·.id)))::az (.slice ab B cb) 23 1 B (aQ ((ji t ak).map (·.id)))::az (.slice al B cl) 9 1 B (bO ((ji t ak).map (·.low)))::blk bv (.cells #[.int .i64 (d).th,.int .i64 (d).sn,.int .i64 (d).no,.int .i64 (d).ch,.int .i64 (d).re,.int .i64 (d).fa,.int .u64 (d).cl,.slice (some ⟨g,0,none⟩) n n] 52)::F) [5,6] (ve nd.pg (.string nd.pg.hi) 5 6))
      (fun W=>St K W (az (.slice an (i+1) cn) 9 1 (i+1) (bO ((l.map (·.low)).take (i+1)))::az (.slice (some ⟨ga,0,none⟩) m ca) 23 1 m (aQ (l.map (·.id)))::az (.slice ab B cb) 23 1 B (aQ ((ji t ak).map (·.id)))::az (.slice al B cl) 9 1 B (bO ((ji t ak).map (·.low)))::blk bv (.cells #[.int .i64 (d).th,.int .i64 (d).sn,.int .i64 (d).no,.int .i64 (d).ch,.int .i64 (d).re,.int .i64 (d).fa,.int .u64 (d).cl,.slice (some ⟨g,0,none⟩) n n] 52)::F)) ?akk (by kernel_rfl) ?acA ?rbH ?Vn ?acB ?acC ?acD ?acE ?acF
     case acA=>as_aux_lemma=>kernel_rfl
     case rbH=>
      intro W2 hs;have kv:=hs.b4.k0;have c0:=(show St K W2 (az _ _ _ _ _::_)from hs.b1).bK (show(aQ (l.map (·.id)))[i]?=some (.int .u64 nd.id)by simp[aQ,Od.out])
      clear hs;simp only[cN];repeat (go_big_quiet_step (fail))
      refine wpQuiet_nil ?_
      rfl
     case Vn=>rfl
     case acB=>exact GR.start Hs.out
     case acC=>exact fun ρ W2 h=>h.rest
     case acD=>exact fun ρ W2 W3 h hb=>h.same hb
     case acE=>
      refine⟨?acG,?acH,trivial⟩;case acG=>
       intro o ho ρ W2 h hcl h5 hd2 act dD;obtain rfl:=aq9 ho;replace dD:act=aj _ ρ [] _:=dD;obtain⟨C,R',hx1,hs,hnext⟩:=h.step ve.mono 5 [] (by decide) (by decide) (by decide) h5 (by simp)
       simp only[aj]at dD;subst dD;have Hn:=aq3 hnext;clear hnext hx1 h hcl hd2 h5;go_wp2_with fail
       refine(QN.out _ _ hs).mono ?_
       rintro e W3 ⟨va8,rfl,hs'⟩;obtain⟨a8,c8,rfl,_,_⟩:=hs'.aH;have eG:=aq3 hs';clear hs hs';go_wp2
       exact⟨rfl,_,rfl,fun u hu=>(by cases hu),Hn.out _ _ W3 ⟨a8,c8,rfl,rfl⟩ eG.out⟩
      case acH=>
       intro o ho ρ W2 h hcl h6 hd2 act dD;obtain rfl:=aq9 ho;replace dD:act=aj _ ρ [5] _:=dD;obtain⟨v5,h5⟩:=aq6.1 (hd2 5 (by show _∈[5];simp))
       obtain⟨Zz,R8,⟨a8,c8,rfl,rfl⟩,hs8⟩:=h.at 5 (by simp) h5
       simp only[aj,h5,Option.getD_some,aM,Act.put,ara]at dD;subst dD;have H:=aq3 (h.jT ve.mono 6 (by decide) (by simp) h6 _ ⟨rfl,rfl⟩)
       clear h hs8 hcl hd2 h6 h5;go_wp2
       exact⟨rfl,_,rfl,fun u hu=>aq9 hu,H.out⟩
     case acF=>
      intro ρ W2 h hall;have hs:=h.rest;clear h;simp only[aj,Option.getD_some,aM,Act.put,ara];go_wp2
      go_roundw
      case rel=>exact⟨i+1,_,an,cn,rfl,rfl,by go_num,by omega,Hnx,hs⟩
      case measure=>simp[intOf];omega
    ·obtain rfl:i=m:=by omega
     rw[show(l.map (·.low)).take i=l.map (·.low)from List.take_of_length_le (by rw[List.length_map,←Hm.out];exact Nat.le_refl _)]at hs
     have hB1:ji t (ak+1)=l:=by show(t[ak]?).getD []=l;rw[Hl.out];rfl
     have HB1:=aq3 hB1;clear hB1;go_wp2
     go_roundw
     case rel=>exact⟨ak+1,i,_,an,ca,cn,rfl,rfl,by go_num,by omega,aq3 (by rw[HB1.out,Hm.out]),by rw[HB1.out];exact((hs.re [2,3,1,0,4] rfl).tail.tail)⟩
     case measure=>simp[intOf];omega
  ·go_wp2
   go_ret;exact⟨rfl,hs.tail.tail.tail⟩
end
section
section
variable {d:aR}{L L':List aO}{nd:Nd}{fr:cm}{p q:Pg}{sp:Bool}
theorem Ot (hd:d.Ok)(hlen:(L.length:Int)=d.cells)(h1:1<=nd.id)(h2:nd.id<=d.no)(hf:iQ (ah L (d.node nd.id 0))):aP (qH d L nd) (d.node nd.id 0) ⟨aG (aN (lG d L nd)),⟨#[]⟩,0⟩=L:=by
 have hpos:=bV hd h1 h2 (k:=0) (by omega) (by have:=hd.fo;omega)
 have hw:lG d L nd%4=0:=hf.n;rw[jw hw,jq hw];have hlt:(d.node nd.id 0).toNat<L.length:=by omega
 have e:L[(d.node nd.id 0).toNat]=⟨lG d L nd,⟨#[]⟩,0⟩:=by
  have h3:=hf.eq;have h4:ah L (d.node nd.id 0)=L[(d.node nd.id 0).toNat]:=by
   unfold ah;rw[if_pos hpos.2.1,aq8 hlt];rfl
  rw[←h4];exact h3
 unfold qH aP;rw[if_pos hpos.2.1,if_pos hpos.2.1,List.set_set,←e];exact List.set_getElem_self hlt
end
section
variable {d:aR}{L L':List aO}{l:List Nd}{ks:List ByteArray}{key:ByteArray}
theorem vg:∀(ks:List ByteArray)(i:Nat),(eA i ks).map (·.r)=(List.range ks.length).map (fun j=>((i+j+1:Nat):Int))
 | [],i=>rfl
 | k::ks,i=>by
  show((i+1:Nat):Int)::(eA (i+1) ks).map (·.r)=_
  rw[vg ks (i+1),List.length_cons,List.range_succ_eq_map,List.map_cons,List.map_map];congr 1
  refine List.map_congr_left (fun j _=>?_)
  show((i+1+j+1:Nat):Int)=((i+(j+1)+1:Nat):Int)
  congr 1;omega
end
end
section
def jE (M:Nat)(S:List Int):List Value:=(List.range M).map fun(i:Nat)=> .bool (decide ((i:Int)∈S))
theorem Vo (M:Nat)(S:List Int):(jE M S).length=M:=by simp[jE]
theorem Ou (M:Nat):List.replicate M (Value.bool false)=jE M []:=by
 unfold jE;refine List.ext_getElem? (fun i=>?_)
 by_cases h:i<M
 ·simp[h]
 ·simp[h]
theorem Lk {M i:Nat}(S:List Int)(hi:i<M):(jE M S)[i]?=some (.bool (decide ((i:Int)∈S))):=by simp[jE,hi]
theorem Vp (M:Nat)(S:List Int)(i:Nat):(jE M S).set i (.bool true)=jE M (S++[(i:Int)]):=by
 refine List.ext_getElem? (fun j=>?_)
 unfold jE;rw[List.getElem?_set];by_cases h:j<M
 ·by_cases e:i=j
  ·subst e
   simp[h]
  ·have e2:¬ (j:Int)=(i:Int):=by omega
   simp[h,e,e2]
 ·by_cases e:i=j
  ·subst e
   simp[h]
  ·simp[h,e]
def refsOf (l:List Nd):List Int:=(l.flatMap fun nd=>nd.pg.sl).map (·.r)
def gu (l0 l1:List Nd):List Nd:=(l0.drop 1).filter fun c => !decide (c.id∈refsOf l1)
def fc (l:List Nd):List Value:=l.flatMap fun c=>[.string c.low,.int .u64 c.id]
theorem Jh (l:List Nd)(c:Nd):fc (l++[c])=fc l++[.string c.low,.int .u64 c.id]:=by simp[fc]
theorem Ej:∀(l:List Nd)(i:Nat)(c:Nd),l[i]?=some c->(fc l)[i*2]?=some (.string c.low)/\(fc l)[i*2+1]?=some (.int .u64 c.id)
 | [],i,c,h=>by simp at h
 | a::l,0,c,h=>by
  obtain rfl:a=c:=by simpa using h
  exact⟨rfl,rfl⟩
 | a::l,i+1,c,h=>by
  have:=Ej l i c (by simpa using h)
  rw[show(i+1)*2=i*2+2 by omega]
  exact this
theorem Ov {l0 l1:List Nd}{i:Nat}{c:Nd}(hi:l0[i]?=some c):gu (l0.take (i+1)) l1=if i > 0/\¬ c.id∈refsOf l1 then gu (l0.take i) l1++[c]else gu (l0.take i) l1:=by
 unfold gu;rw[List.take_add_one,hi];cases i with
 | zero=>simp
 | succ i=>
  have hlen:=(aq5.1 hi).1;rw[List.drop_append_of_le_length (by rw[List.length_take];omega),List.filter_append]
  by_cases h:c.id∈refsOf l1
  ·rw[if_neg (fun hh=>hh.2 h)]
   simp[h]
  ·rw[if_pos ⟨by omega,h⟩]
   simp[h]
theorem Ek {l:List Nd}{i:Nat}{c:Nd}(hi:l[i]?=some c):refsOf (l.take (i+1))=refsOf (l.take i)++c.pg.sl.map (·.r):=by
 unfold refsOf;rw[List.take_add_one,hi];simp
end
end Go.Proofs.YtlpdhhhgckpcfaaGreat
