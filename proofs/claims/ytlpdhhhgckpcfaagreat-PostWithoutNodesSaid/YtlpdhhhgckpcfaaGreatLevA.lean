
/- dP.View: Level. The low keys of the nodes of a level. A level of a tree: one node ajH a key; where its slots lie. blinktreekit.Same at cells: two slices with the same cells. A page that a view gives, put into a variable (a region that draws); a page aeY with the ajI. -/
import Derived.Test.YtlpdhhhgckpcfaaGreatViewA
import Derived.Test.YtlpdhhhgckpcfaaGreatTreeB
namespace Go.Proofs.YtlpdhhhgckpcfaaGreat
set_option maxHeartbeats 16000000
open Go.RowKit
set_option maxRecDepth 100000
def aQ (l:List Int):List Value:=l.map (Value.int .u64 ·)
theorem rX (l:List Int)(x:Int):aQ (l++[x])=aQ l++[.int .u64 x]:=by simp[aQ]
theorem Kl:(Tryz.prog.info? 23).map (fun i=>(i.zero,i.size,i.bytes))=some (some (.int .u64 0),1,8):=by kernel_rfl
def gV (t:List (List Nd))(k:Nat):List Int:=match t[k]? with
 | some l=>l.map (·.id)
 | none=>[]
theorem Dk {d:aR}{L:List aP}{t:List (List Nd)}(ht:cA d L t){j:Nat}{l l':List Nd}{nd:Nd}(hl:t[j]?=some l)(hl':t[j+1]?=some l')(h0:l'[0]?=some nd):∃ s r c,nd.pg.sl=s::r/\l[0]?=some c/\s.r=c.id:=by
 obtain⟨⟨s,r,hs,hk⟩,hall⟩:=ht.down j l l' hl hl' nd (aqs h0);obtain⟨c,hc,hid,eJ⟩:=hall s (by rw[hs];simp)
 obtain⟨i,hi⟩:=aqp hc;have hn:=(ht.rows (j+1) l' hl').first nd h0
 have hrow:=ht.rows j l hl;refine⟨s,r,c,hs,?_,hid.symm⟩;rcases Nat.eq_zero_or_pos i with h|h
 ·rw[← h];exact hi
 ·obtain⟨a,ha⟩:∃ a,l[0]?=some a:=⟨_,aqt hrow.ne⟩
  have:=hrow.qX i 0 a c ha hi h;rw[eJ,hk,hn,jK]at this;cases this
def LvI (t:List (List Nd))(k i:Nat)(n0:Int):Prop:=
 i<=(gV t k).length/\((∃ (l:List Nd) (nd:Nd),t[k]?=some l/\l[i]?=some nd/\n0=nd.id)\/(n0=0/\i=(gV t k).length)\/(t.length<=k/\i=0/\∃ (j:Nat) (l:List Nd) (nd:Nd),t[j]?=some l/\nd∈l/\n0=nd.id/\j<k))
def Tz:Value->Nat
 | .slice _ n _=>n
 | _=>0
theorem List.cT {t:List (List Nd)}{k:Nat}{l:List Nd}(h:t[k]?=some l):l.length<=(t.map List.length).sum:=by
 have h2:(t.map List.length).sum=((t.take (k+1)).map List.length).sum+((t.drop (k+1)).map List.length).sum:=by
  rw[← List.sum_append,← List.map_append,List.take_append_drop]
 rw[List.take_add_one,h]at h2;simp at h2;omega
section
variable {K:aK}{w:World}{F:List aB}{d:aR}{g:Nat}{L:List aP}{t:List (List Nd)}{k:Nat}
theorem iN (hd:d.Ok)(ht:cA d L t)(hk:k<=t.length)(hg:K.map g=some (.cells (flat L).toArray 63))(hl:L.length<=1000000)(hs:St K w F) :
  Calls Tryz.prog 27 #[.agg #[.int .i64 (d).th,.int .i64 (d).sn,.int .i64 (d).no,.int .i64 (d).ch,.int .i64 (d).re,.int .i64 (d).fa,.int .u64 (d).cl,.slice (some ⟨g,0,none⟩) L.length L.length],.int .i64 k] w fun e w' => ∃ v,e=.returned v/\St K w' (ak v 23 1 (gV t k).length (aQ (gV t k))::F):=by
 have iY:=hd.mM;have hno:((t.map List.length).sum:Int)<=d.no:=by have:=ht.count;have:=ht.n4;omega
 have htl:(t.length:Int)<=d.no:=by
  have h1:t.length<=(t.map List.length).sum:=by
   have:=qW (ps:=t.map List.length) (fun p hp=>by
    obtain⟨l,hl',rfl⟩:=List.mem_map.1 hp;obtain⟨i,hi⟩:=aqp hl';exact(ht.rows i l hi).ne)
   simpa using this
  omega
 obtain⟨iv,cZ,dc,dg,dh⟩:=info_parts Kl;have lC:=aqo cZ;have lD:=aqo dc;have lF:=aqo dg;have lG:=aqo dh;clear cZ dc dg dh;have hs:=hs.made (.cells #[.int .i64 (d).th,.int .i64 (d).sn,.int .i64 (d).no,.int .i64 (d).ch,.int .i64 (d).re,.int .i64 (d).fa,.int .u64 (d).cl,.slice (some ⟨g,0,none⟩) L.length L.length] 52);obtain⟨bv,nN⟩:∃ bv,bv=w.heap.size:=⟨_,rfl⟩;have Q0:=aqo (fun W cs (h:St K W cs)=>gu (d:=d) 0 W (kK hg hl h))
 have Qn:=aqo (fun(id:Int) (hid:0<=id/\id<18446744073709551616) W cs (h:St K W cs)=>nM hd id hid hg hl h)
 have Qp:=aqo (fun(j:Nat) (l:List Nd) (nd:Nd) (hj:t[j]?=some l) (hn:nd∈l) W cs (h:St K W cs)=>fC hd (ht.nodes j l hj nd hn).id.1 (ht.nodes j l hj nd hn).id.2 (ht.nodes j l hj nd hn).page hg hl h)
 have Ht:=aqo ht;have Hno:=aqo hno;clear hno;obtain⟨rt,rest,gU,hroot⟩:=ht.top;rw[hroot]at Q0;have ajK:=aqo gU;have Hne:=aqo ht.ne;generalize L.length=n at *;clear hg ht hroot gU;go_enter Tryz.func27,Tryz.ntmps27
 go_wp2_with fail
 refine(bE hs (Q0.out _ _ hs)).mono ?_
 clear hs Q0;rintro e w1 ⟨rfl,hs⟩;go_wp2
 rw[← nN]at hs ⊢;clear nN;go_loopw [5,6,7] (fun v5 v6 _ wr=>∃ (j q:Nat) (l:List Nd) (nd:Nd),v5=.int .u64 nd.id/\v6=.int .i64 q/\Hid (t[j]?=some l/\l[0]?=some nd)/\q+j+1=t.length/\(k<=j\/j+1=t.length)/\St K wr (blk bv (.cells #[.int .i64 (d).th,.int .i64 (d).sn,.int .i64 (d).no,.int .i64 (d).ch,.int .i64 (d).re,.int .i64 (d).fa,.int .u64 (d).cl,.slice (some ⟨g,0,none⟩) n n] 52)::F)) (fun _ v6 _ _=>t.length-(intOf v6).toNat)
 case atStart=>exact⟨t.length-1,0,rt::rest,rt,rfl,rfl,aqo ⟨ajK.out,rfl⟩,by have:=Hne.out;omega,.inr (by have:=Hne.out;omega),hs⟩
 case round=>
  clear hs;obtain⟨j,q,l,nd,rfl,rfl,Hl,hqj,hkj,hs⟩:=hrel;have hok:=(Ht.out.nodes j l Hl.out.1 nd (aqs Hl.out.2)).id;have Vp:=Ht.out.used j l Hl.out.1 nd (aqs Hl.out.2);have cg:=(Ht.out.rows j l Hl.out.1).az nd (aqs Hl.out.2);have qn:=Qn.out nd.id (by omega)
  rw[decide_eq_true (show 1<=nd.id/\nd.id<=d.no/\nd.id<=(ah L 4).n from⟨hok.1,hok.2,Vp⟩)]at qn
  have QN:=aqo qn;have QP:=aqo (Qp.out j l nd Hl.out.1 (aqs Hl.out.2));have hq1:(q:Int)<=d.no:=by omega
  have uq:=aqo cg;have Xi:=aqo hok;clear qn hok Vp cg;have kv:=hs.k0;go_wp2_with fail
  refine(QN.out _ _ hs).mono ?_
  clear hs kv;rintro e w2 ⟨rfl,hs⟩;have kv:=hs.k0;go_wp2_with fail
  refine(QP.out _ _ hs).mono ?_
  clear hs kv;rintro e w3 ⟨va,rfl,hs⟩;obtain⟨a,c,rfl,_,_⟩:=hs.aF;have hs:=hs.tail;have kv:=hs.k0;rw[uq.out];by_cases hjk:k<j
  ·obtain⟨j',rfl⟩:∃ j',j=j' + 1:=⟨j-1,by omega⟩
   obtain⟨l2,hl2⟩:∃ l2,t[j']?=some l2:=⟨_,aqt (by omega)⟩
   obtain⟨s,r,cc,fj,hcc,Wh⟩:=Dk Ht.out hl2 Hl.out.1 Hl.out.2;have sO:=aqo fj;have Hcc:=aqo (And.intro hl2 hcc);have Hsr:=aqo Wh;have hlen:0<nd.pg.sl.length:=by rw[fj];simp
   clear hl2 hcc fj Wh;go_wp2_with fail
   refine(QP.out _ _ hs).mono ?_
   clear hs kv;rintro e w4 ⟨va,rfl,hs⟩;obtain⟨a2,c2,rfl,_,_⟩:=hs.aF;obtain⟨g2,rfl,c1⟩:=hs.cP (show(aD nd.pg.sl)[1]?=some (.int .u64 s.r)by rw[sO.out];rfl)
   have hs:=hs.made (.cells #[.int .i64 (nd.pg).az,(.slice (some ⟨g2,0,none⟩) nd.pg.sl.length c2),.string (nd.pg).hi,.bool (nd.pg).la,.int .u64 (nd.pg).ri] 43);have c1' := (show St (K) _ (ak _ _ _ _ _::_)from hs.b1).bJ (show(aD nd.pg.sl)[1]?=some (.int .u64 s.r)by rw[sO.out];rfl)
   have kp:=hs.k0;go_wp2
   rw[Hsr.out];go_roundw
   case rel=>exact⟨j',q+1,l2,cc,rfl,by go_num,Hcc,by omega,.inl (by omega),hs.tail.tail⟩
   case measure=>simp[intOf];omega
  ·have hs:=hs.cD (T:=23) (size:=1)
   have hf:¬ ((k:Int)<j):=by omega
   have hI:LvI t k 0 nd.id:=by
    refine⟨Nat.zero_le _,?_⟩;by_cases xg:k<t.length
    ·obtain rfl:j=k:=by omega
     exact .inl ⟨l,nd,Hl.out.1,Hl.out.2,rfl⟩
    ·exact .inr (.inr ⟨by omega,rfl,j,l,nd,Hl.out.1,aqs Hl.out.2,rfl,by omega⟩)
   have HI:=aqo hI;clear hI QN QP;go_wp2
   go_loopw [5,8] (fun v5 v8 wr=>∃ (i:Nat) (n0:Int) (ao:Option Addr) (co:Nat),v5=.int .u64 n0/\v8=.slice ao i co/\Hid (LvI t k i n0)/\i<=4096/\St K wr (ak (.slice ao i co) 23 1 i (aQ ((gV t k).take i))::blk bv (.cells #[.int .i64 (d).th,.int .i64 (d).sn,.int .i64 (d).no,.int .i64 (d).ch,.int .i64 (d).re,.int .i64 (d).fa,.int .u64 (d).cl,.slice (some ⟨g,0,none⟩) n n] 52)::F)) (fun _ v8 _=>5000-Tz v8)
   case atStart=>exact⟨0,nd.id,none,0,rfl,rfl,HI,by omega,hs⟩
   case round=>
    clear hs HI Hl uq Xi hqj hkj hq1 hjk hf kv;obtain⟨i,n0,ao,co,rfl,rfl,HI,alf,hs⟩:=hrel;rcases HI.out.2 with⟨l3,uO,h1,h2,rfl⟩|⟨rfl,h1⟩|⟨h1,rfl,j3,l3,uO,h2,h3,rfl,h4⟩
    ·have hm:=aqs h2
     have hok:=(Ht.out.nodes k l3 h1 uO hm).id;have Vp:=Ht.out.used k l3 h1 uO hm;have cg:=(Ht.out.rows k l3 h1).az uO hm;have qn:=Qn.out uO.id (by omega)
     rw[decide_eq_true (show 1<=uO.id/\uO.id<=d.no/\uO.id<=(ah L 4).n from⟨hok.1,hok.2,Vp⟩)]at qn
     have QN:=aqo qn;have QP:=aqo (Qp.out k l3 uO h1 hm);have hil:i<l3.length:=(aqq.1 h2).1;have fJ:gV t k=l3.map (·.id):=by unfold gV;rw[h1]
     have aeZ:(l3.length:Int)<=d.no:=by
      have hc:=Hno.out;have hb:=List.cT h1;omega
     have dX:(gV t k).take (i+1)=(gV t k).take i++[uO.id]:=by
      rw[fJ,List.take_add_one,List.getElem?_map,h2];rfl
     have iK:=aqo dX;have hnext:LvI t k (i+1) uO.pg.ri:=by
      have hR:=Ht.out.rows k l3 h1;refine⟨by rw[fJ,List.length_map];omega,?_⟩
      rcases Nat.lt_or_ge (i+1) l3.length with hlt|hge
      ·obtain⟨b,hb⟩:∃ b,l3[i+1]?=some b:=⟨_,aqt hlt⟩
       exact .inl ⟨l3,b,h1,hb,(hR.next i uO b h2 hb).2.2.1⟩
      ·exact .inr (.inl ⟨(hR.last i uO h2 (by omega)).2.2,by rw[fJ,List.length_map];omega⟩)
     have Ua:=aqo hnext;have aoo:(i:Int)<d.no:=by omega
     have aop:i<4096:=by omega
     have uq:=aqo cg;clear qn hok Vp cg hm h1 h2 fJ dX hnext hil aeZ;have kv:=hs.k1;go_wp2_with fail
     refine(QN.out _ _ hs).mono ?_
     clear hs kv;rintro e w2 ⟨rfl,hs⟩;have kv:=hs.k1;go_wp2_with fail
     refine(QP.out _ _ hs).mono ?_
     clear hs kv;rintro e w3 ⟨va,rfl,hs⟩;obtain⟨a,c,rfl,_,_⟩:=hs.aF;have hs:=hs.tail;have kv:=hs.k1;rw[uq.out];have kk:((k:Int) == k)=true:=beq_self_eq_true _;go_wp2_with (at_builtin;refine dB _ _ 57 23 _ i 1 8 _ [.int .u64 uO.id] (.int .u64 0) iv hs rfl rfl Tryz.underlying57 lC.out lD.out lF.out lG.out rfl (by decide) rfl rfl rfl (fun u hu=>by simp at hu;subst hu;rfl) (by omega) (by decide) ?_)
     clear hs kv;intro v' w' hs;obtain⟨mJ,mK,hv,_,_⟩:=hs.aF;subst hv;have kv:=hs.k1;go_wp2_with fail
     refine(QP.out _ _ hs).mono ?_
     clear kv hs;rintro e w5 ⟨pz,rfl,hs⟩;obtain⟨a2,c2,rfl,_,_⟩:=hs.aF;have hs:=hs.tail;go_wp2
     go_roundw
     case rel=>exact⟨i+1,uO.pg.ri,mJ,mK,rfl,rfl,Ua,by omega,by rw[iK.out,rX];exact hs⟩
     case measure=>simp only[Tz];omega
    ·have qn:=Qn.out 0 (by omega)
     rw[decide_eq_false (show ¬ ((1:Int)<=0/\(0:Int)<=d.no/\(0:Int)<=(ah L 4).n)by omega)]at qn
     have QN:=aqo qn;have H1:=aqo h1;clear qn h1;have kv:=hs.k1;go_wp2_with fail
     refine(QN.out _ _ hs).mono ?_
     clear hs kv;rintro e w2 ⟨rfl,hs⟩;go_wp2
     go_ret;rw[List.take_of_length_le (by rw[← H1.out];exact Nat.le_refl _)]at hs
     refine⟨_,rfl,?_⟩;rw[← H1.out];exact hs.bV
    ·have hok:=(Ht.out.nodes j3 l3 h2 uO h3).id
     have Vp:=Ht.out.used j3 l3 h2 uO h3;have cg:=(Ht.out.rows j3 l3 h2).az uO h3;have qn:=Qn.out uO.id (by omega)
     rw[decide_eq_true (show 1<=uO.id/\uO.id<=d.no/\uO.id<=(ah L 4).n from⟨hok.1,hok.2,Vp⟩)]at qn
     have QN:=aqo qn;have QP:=aqo (Qp.out j3 l3 uO h2 h3);have uq:=aqo cg;have fJ:gV t k=[]:=by unfold gV;rw[List.getElem?_eq_none h1]
     have ae0:=aqo fJ;clear qn hok Vp cg h1 h2 h3 fJ;have kv:=hs.k1;go_wp2_with fail
     refine(QN.out _ _ hs).mono ?_
     clear hs kv;rintro e w2 ⟨rfl,hs⟩;have kv:=hs.k1;go_wp2_with fail
     refine(QP.out _ _ hs).mono ?_
     clear hs kv;rintro e w3 ⟨va,rfl,hs⟩;obtain⟨a,c,rfl,_,_⟩:=hs.aF;have hs:=hs.tail;rw[uq.out];have hne:¬ ((j3:Int)=k):=by omega
     go_wp2
     go_ret;refine⟨_,rfl,?_⟩;rw[ae0.out];rw[ae0.out]at hs;exact hs.bV
end
def Zu (o:Option Value)(v5:Value)(n:Nat)(xs:List ByteArray)(hi:ByteArray):aB:=match o with
 | none=>ak v5 9 1 n (bG xs)
 | some v=>ak v 9 1 (n+1) (bG (xs++[hi]))
def LwR (K:aK)(REST:List aB)(v5:Value)(n:Nat)(xs:List ByteArray)(hi:ByteArray)(ρ:Nat->Option Value)(W:World):Prop:=
 ∃ b:Nat,(∀ v,ρ 6=some v->∃ x0 x1 x3 x4,v=.agg #[x0,x1,.string hi,x3,x4])/\(∀ v,ρ 7=some v->v=.string hi)/\(∀ v,ρ 8=some v->v=.slice (some ⟨b,0,none⟩) 1 1)/\(∀ v,ρ 10=some v->ρ 9=some v) /\
  St K W (dA (ρ 8) (blk b (.cells #[.string hi] 9))::Zu (ρ 9) v5 n xs hi::REST)
section
variable {K:aK}{REST:List aB}{v5:Value}{n:Nat}{xs:List ByteArray}{hi:ByteArray}{ρ:Nat->Option Value}{W:World}{v6 v7 v8 v9:Value}
theorem LwR.e9 (h:LwR K REST v5 n xs hi ρ W)(h8:ρ 8=some v8)(h9:ρ 9=none):∃ (b:Nat)(R':List aB),v8=.slice (some ⟨b,0,none⟩) 1 1/\St K W (ak v5 9 1 n (bG xs)::R') /\
  W.cell? ⟨b,0,none⟩=some (.string hi)/\∀ v W',St K W' (ak v 9 1 (n+1) (bG xs++[.string hi])::R')->LwR K REST v5 n xs hi (upd ρ 9 v) W' := by
 obtain⟨b,e1,e2,e3,e4,hs⟩:=h;rw[h8,h9]at hs;have hs:St K W (blk b (.cells #[.string hi] 9)::ak v5 9 1 n (bG xs)::REST):=hs;refine⟨b,_,e3 v8 h8,hs.b1,hs.k0 0,fun v W' hs' => ⟨b,fun v h=>e1 v (by simpa[upd] using h),fun v h=>e2 v (by simpa[upd] using h),fun v h=>e3 v (by simpa[upd] using h),fun u h=>?_,?_⟩⟩
 ·have:=e4 u (by simpa[upd] using h);rw[h9]at this;cases this
 ·have:St K W' (dA (some v8) (blk b (.cells #[.string hi] 9))::Zu (some v) v5 n xs hi::REST):=by
   show St K W' (blk b (.cells #[.string hi] 9)::ak v 9 1 (n+1) (bG (xs++[hi]))::REST)
   rw[jT];exact hs'.u1
  simpa[upd,h8] using this
end
section
variable {K:aK}{w:World}{F:List aB}{d:aR}{g:Nat}{L:List aP}{l:List Nd}{a:Option Addr}{cap:Nat}
end
section
variable {az:Nat}{l:List Nd}{i j:Nat}{a b:Nd}{key:ByteArray}
def gJ (l:List Nd)(i:Nat):Nat:=((l.take i).map fun nd=>nd.pg.sl.length).sum
theorem jZ (ha:l[i]?=some a):gJ l (i+1)=gJ l i+a.pg.sl.length:=by
 unfold gJ;rw[List.take_add_one,ha];simp
theorem n9:∀ l:List Nd,gJ l l.length=(l.flatMap fun nd=>nd.pg.sl).length
 | []=>rfl
 | x::l=>by
  have e0:gJ (x::l) (l.length+1)=x.pg.sl.length+gJ l l.length:=by simp[gJ]
  rw[List.length_cons,e0,n9 l];simp
end
section
variable {d:aR}{ks:List ByteArray}{dV:Bool}{L:List aP}{t:List (List Nd)}{l:List Nd}{i p:Nat}{a:Nd}{key:ByteArray}{s:Sl}
end
end Go.Proofs.YtlpdhhhgckpcfaaGreat
