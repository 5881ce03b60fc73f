
/- blinktreekit.Plant. -/
import Derived.Test.YtlpdhhhgckpcfaaGreatTreeB
import Derived.Test.YtlpdhhhgckpcfaaGreatGrA
namespace Go.Proofs.YtlpdhhhgckpcfaaGreat
set_option maxHeartbeats 16000000
open Go.RowKit
set_option maxRecDepth 100000
theorem uH (l:List Sl)(s:Sl):aD (l++[s])=aD l++gW s:=by simp[aD]
theorem Sr {W:World}{g:Nat}{S:List Sl}{fr p:Nat}(h:eo W (some ⟨g,0,none⟩) S)(hfp:fr+p<=S.length):eo W (some ⟨g,fr*2,none⟩) ((S.drop fr).take p):=by
 refine⟨by have:=h.1;simp;omega,fun i s hs=>?_⟩
 have hip:i<p:=by
  have:=(aqq.1 hs).1;simp at this;omega
 rw[List.getElem?_take,if_pos hip,List.getElem?_drop]at hs;obtain⟨b,off,e,hlt,c0,c1⟩:=h.2 _ _ hs;simp only[Option.some.injEq,Addr.mk.injEq,and_true]at e;obtain⟨rfl,rfl⟩:=e;rw[show 0+(fr+i)*2=fr*2+i*2 by omega]at c0 c1
 exact⟨g,fr*2,rfl,hlt,c0,c1⟩
theorem uI {W:World}{a:Option Addr}{S:List Sl}(h:S=[]):eo W a S:=by
 subst h;exact⟨by simp,fun i s hs=>by simp at hs⟩
theorem St.Nh {K:aK}{w:World}{F:List aB}{a:Option Addr}{n cap:Nat}{T:TypeId}{size:Nat}{xs:List Value}(h:St K w (ak (.slice a n cap) T size n xs::F)):(a=none/\n=0/\cap=0)\/(∃ g,a=some ⟨g,0,none⟩/\n<=cap):=by
 obtain⟨hl,k⟩:=h.head;rcases k with⟨hv,h0⟩|⟨g,cap',cur,hv,hB,hc,h1,h2,h3,h4⟩
 ·simp only[Value.slice.injEq]at hv
  exact .inl ⟨hv.1,h0,hv.2.2⟩
 ·simp only[Value.slice.injEq]at hv
  exact .inr ⟨g,hv.1,by omega⟩
def Ze:Value->Nat
 | .slice _ n _=>n
 | _=>0
structure Xp (d:aR)(ks:List ByteArray)(dV:Bool)(L:List aP)(S:List Sl)(t:List (List Nd))(nx az:Nat):Prop where
 pi:Od d ks dV L S t nx
 tl:t.length=az
 z:az=0->nx=1/\S.length<=40
 p:0<az->nx-1+fb S.length<=100/\1<=S.length/\az+S.length<=41
 nx1:1<=nx
theorem Xp.le {d:aR}{ks:List ByteArray}{dV:Bool}{L:List aP}{S:List Sl}{t:List (List Nd)}{nx az:Nat}(h:Xp d ks dV L S t nx az):S.length<=40/\az<=40:=by
 rcases Nat.eq_zero_or_pos az with h0|h0
 ·have:=h.z h0;omega
 ·have:=h.p h0;omega
theorem Xp.uJ {d:aR}{ks:List ByteArray}{dV:Bool}{L:List aP}{S:List Sl}{t:List (List Nd)}{nx az:Nat}{ps:List Nat}(h:Xp d ks dV L S t nx az)(hp:eV S ps)
  (h0:az=0->ps.length<=40) (h1:0<az->ps.length<=(S.length+1) / 2) (hne:ps.length≠1):ps.length<=S.length/\(0<az->3<=S.length/\ps.length<S.length):=by
 have hps:=hp.ne;have hle:ps.length<=S.length:=by
  rcases hp.pos with hq|hq
  ·have:=qW hq;rw[hp.sum]at this;exact this
  ·rw[hq]at hne;simp at hne
 refine⟨hle,fun h=>?_⟩
 have:=h1 h;omega
theorem Xp.next {d:aR}{ks:List ByteArray}{dV:Bool}{L L2:List aP}{S A:List Sl}{t t2:List (List Nd)}{nx az:Nat}{ps:List Nat}(h:Xp d ks dV L S t nx az)(hp:eV S ps)
  (h0:az=0->ps.length<=40) (h1:0<az->ps.length<=(S.length+1) / 2) (hne:ps.length≠1) (hA:A.length<=ps.length) (ht2:t2.length=az+1) (hi:Od d ks dV L2 A t2 (nx+ps.length)):Xp d ks dV L2 A t2 (nx+ps.length) (az+1):=by
 obtain⟨hle,h3⟩:=h.uJ hp h0 h1 hne;have hS:=h.le.1;have hA1:1<=A.length:=by
  obtain⟨q,_⟩:=hi.s1 (fun e=>by rw[e]at ht2;simp at ht2)
  rcases Nat.eq_zero_or_pos A.length with h|h
  ·exact absurd (List.length_eq_zero_iff.1 h) q
  ·exact h
 refine⟨hi,ht2,fun e=>by omega,fun _=>?_,by have:=h.nx1;omega⟩
 rcases Nat.eq_zero_or_pos az with hl|hl
 ·have hz:=h.z hl
  have anD:=h0 hl;have hm:=Jw 40 (by omega) A.length (by omega)
  have h40:fb 40=41:=by decide +kernel
  omega
 ·have hz:=h.p hl
  have hc:=h1 hl;obtain⟨q1,q2⟩:=h3 hl;have hh:=Jy S.length hS q1;have hm:=Jw ((S.length+1) / 2) (by omega) A.length (by omega)
  omega
def PlR (K:aK)(bp:Nat)(az:Nat)(sa:Option Addr)(p sc:Nat)(hi:ByteArray)(ri:Int)(REST:List aB)(ρ:Nat->Option Value)(W:World):Prop:=
 St K W (blk bp (.cells #[.int .i64 az,.slice sa p sc,.string (if (ρ 10).isSome then hi else⟨#[]⟩),.bool false,.int .u64 (if (ρ 8).isSome then ri else 0)] 43)::REST)
section
variable {K:aK}{w:World}{F:List aB}{d:aR}{bm bc:Nat}{L:List aP}{acc:Nat}{ks:List ByteArray}{ka:Option Addr}{kc:Nat}{sh:Int}{dV:Bool}
theorem Ss (hd:d.Ok)(hno:100<=d.no)(hk:qU 40 ks)(hL:bI L)(hcl:(L.length:Int)=d.cells)(qh:∀ id:Int,1<=id->id<=d.no->ah L (d.node id 0)=aP.zero)(hzero:∀ j:Int,mC d j->ah L j=aP.zero)(hsh:0<=sh/\sh<18446744073709551616)
  (hs:St K w (aJ bm bc L acc::ak (.slice ka ks.length kc) 9 1 ks.length (bG ks)::F)) :
  Calls Tryz.prog 15 #[.agg #[.int .i64 d.th,.int .i64 d.sn,.int .i64 d.no,.int .i64 d.ch,.int .i64 d.re,.int .i64 d.fa,.int .u64 d.cl],(.pointer (some ⟨bm,0,none⟩)),.slice ka ks.length kc,.int .u64 sh,.bool dV] w fun e w' => ∃ (t:List (List Nd)) (L':List aP),e=.returned (.int .i64 t.length)/\Hid (oF d ks dV L' t)/\St K w' (aJ bm bc L' acc::ak (.slice ka ks.length kc) 9 1 ks.length (bG ks)::F):=by
 have f1:=hd.fw;have f2:=hd.mV;have Ni:=hk.len;obtain⟨n,hn⟩:∃ n,n=ks.length:=⟨_,rfl⟩;rw[← hn]at hs Ni ⊢;have Hn:=aqo hn;have Hd:=aqo hd;have Hk:=aqo hk;have HL:=aqo hL;have Hcl:=aqo hcl;have ajg:=aqo qh;have aeh:=aqo hzero;have Hno:=aqo hno;obtain⟨sh0,sh1⟩:=hsh;obtain⟨iv,cZ,dc,dg,dh⟩:=info_parts gR;have lC:=aqo cZ;have lD:=aqo dc;have lF:=aqo dg;have lG:=aqo dh;clear cZ dc dg dh hd hk hL hcl qh hzero hno hn;have hs:=hs.made (.cells #[.int .i64 d.th,.int .i64 d.sn,.int .i64 d.no,.int .i64 d.ch,.int .i64 d.re,.int .i64 d.fa,.int .u64 d.cl] 26);obtain⟨uY,aej⟩:∃ uY,uY=w.heap.size:=⟨_,rfl⟩;have hs:=hs.cD (T:=69) (size:=2);go_enter Tryz.func15,Tryz.ntmps15
 go_wp2
 rw[← aej]at hs ⊢;clear aej;go_loopw [11,12] (fun v11 v12 wr=>∃ (i:Nat) (ao:Option Addr) (co:Nat),v11=.slice ao i co/\v12=.int .i64 i/\i<=n /\
  St K wr (ak (.slice ao i co) 69 2 i (aD (ee 0 (ks.take i)))::blk uY (.cells #[.int .i64 d.th,.int .i64 d.sn,.int .i64 d.no,.int .i64 d.ch,.int .i64 d.re,.int .i64 d.fa,.int .u64 d.cl] 26)::aJ bm bc L acc::ak (.slice ka n kc) 9 1 n (bG ks)::F)) (fun _ v12 _=>n-(intOf v12).toNat)
 case atStart=>exact⟨0,none,0,rfl,rfl,by omega,hs⟩
 case round=>
  clear hs;obtain⟨i,ao,co,rfl,rfl,hi,hs⟩:=hrel;by_cases hin:i<n
  ·obtain⟨y,hy⟩:∃ y,ks[i]?=some y:=⟨_,aqt (by have:=Hn.out;omega)⟩
   obtain⟨g,rfl,c0⟩:=hs.b3.cP (show(bG ks)[i]?=some (.string y)by simp[bG,hy])
   have dX:ee 0 (ks.take (i+1))=ee 0 (ks.take i)++[⟨y,(i:Int)+1⟩]:=by
    rw[List.take_add_one,hy];show ee 0 (ks.take i++[y])=_
    rw[uB];have:(ks.take i).length=i:=by rw[List.length_take];have:=Hn.out;omega
    rw[this];congr 3;push_cast;omega
   have iK:=aqo dX;clear hy dX;go_wp2_with (at_builtin;refine dB _ _ 41 69 _ i 2 24 _ (gW ⟨y,(i:Int)+1⟩) (.agg #[.string ⟨#[]⟩,.int .u64 0]) iv hs rfl rfl Tryz.underlying41 lC.out lD.out lF.out lG.out rfl (by decide) rfl rfl rfl (fun u hu=>by simp[gW]at hu;rcases hu with rfl|rfl <;> rfl) (by omega) (by decide) ?_)
   clear hs c0;intro v' w' hs;obtain⟨mJ,mK,hv,_,_⟩:=hs.aF;subst hv;go_wp2
   go_roundw
   case rel=>exact⟨i+1,mJ,mK,rfl,by go_num,by omega,by rw[iK.out,uH];exact hs⟩
   case measure=>simp[intOf];omega
  ·obtain rfl:i=n:=by omega
   rw[List.take_of_length_le (by rw[← Hn.out];exact Nat.le_refl _)]at hs
   have qQ:(ee 0 ks).length=i:=by rw[jD,Hn.out]
   go_wp2_with fail
   refine(fQ (i:=5) (c:=⟨i,⟨#[]⟩,0⟩) hs.b2).mono ?_
   clear hs;rintro e w2 ⟨rfl,hs⟩;have hP:Xp d ks dV (aN L 5 ⟨i,⟨#[]⟩,0⟩) (ee 0 ks) [] 1 0:=by
    refine⟨Od.start Hd.out Hk.out.size Hk.out.j7 (by rw[← Hn.out];exact Ni) (HL.out.put ⟨by show(0:Int)<=i;omega,by show(i:Int)<_;omega⟩) (by rw[aY];exact Hcl.out) (fun id a b=>?_) (fun j hj=>?_) ?_,rfl,fun _=>⟨rfl,by omega⟩,fun h=>by omega,Nat.le_refl _⟩
    rotate_left
    ·have hA:=Hd.out.eb
     have hB:=Hd.out.jo;rw[bg (by rcases hj with h|h <;> omega)]
     exact aeh.out j hj
    ·have hA:=Hd.out.eb
     have hB:=Hd.out.jo;have hC:=Hd.out.mE;have hcb:=Hd.out.dL;have hcl:=Hcl.out;rw[b9 (by omega) (by omega),Hn.out]
    have n0:=(bU Hd.out a b (k:=0) (by omega) (by omega)).1
    have m3:0<=(id-1)*(d.fa+4):=Int.mul_nonneg (by omega) (by omega)
    have hA:=Hd.out.eb;rw[bg (by omega)]
    exact ajg.out id a b
   have HP:=aqo hP;generalize aN L 5 ⟨i,⟨#[]⟩,0⟩=L5 at *;have hs:St K w2 (aJ bm bc L5 acc::ak (.slice ao (ee 0 ks).length co) 69 2 (ee 0 ks).length (aD (ee 0 ks))::blk uY (.cells #[.int .i64 d.th,.int .i64 d.sn,.int .i64 d.no,.int .i64 d.ch,.int .i64 d.re,.int .i64 d.fa,.int .u64 d.cl] 26)::ak (.slice ka i kc) 9 1 i (bG ks)::F):=by rw[qQ];exact hs
   have Hkl:=aqo qQ.symm;clear hP qQ;rename_i n
   go_wp2
   go_loopw [3,11,13,14,15,16,17,18,19,20,21] (fun v3 v11 v13 v14 _ _ _ _ _ _ _ wr=>∃ (s:Int) (nx az:Nat) (S:List Sl) (t:List (List Nd)) (ao:Option Addr) (co:Nat) (L':List aP),v3=.int .u64 s/\v11=.slice ao S.length co/\v13=.int .u64 nx/\v14=.int .i64 az/\0<=s/\s<18446744073709551616/\Hid (Xp d ks dV L' S t nx az) /\
    St K wr (aJ bm bc L' acc::ak (.slice ao S.length co) 69 2 S.length (aD S)::blk uY (.cells #[.int .i64 d.th,.int .i64 d.sn,.int .i64 d.no,.int .i64 d.ch,.int .i64 d.re,.int .i64 d.fa,.int .u64 d.cl] 26)::ak (.slice ka i kc) 9 1 i (bG ks)::F)) (fun _ v11 _ v14 _ _ _ _ _ _ _ _=>Ze v11+(if intOf v14=0 then 1 else 0))
   case atStart=>exact⟨sh,1,0,ee 0 ks,[],ao,co,L5,rfl,by rw[← Hkl.out],rfl,rfl,sh0,sh1,HP,hs⟩
   case round=>
    clear hs HP;obtain⟨s,nx,az,S,t,ao,co,L',rfl,rfl,rfl,rfl,s0,s1,HP,hs⟩:=hrel;obtain⟨abF,ajh⟩:=HP.out.le;have anG:nx<=101/\1<=nx:=by
     refine⟨?_,HP.out.nx1⟩;rcases Nat.eq_zero_or_pos az with h|h
     ·have:=HP.out.z h;omega
     ·have:=HP.out.p h;omega
    have kcf:=hs.b2.k0;go_upto_region 8 with(fail)
    go_cut [15] (fun v15 wx=>∃ (ps:List Nat) (pa:Option Addr) (pc:Nat),v15=.slice pa ps.length pc/\Hid (sW S.length (if az=0 then 1 else 2) d.fa.toNat ps) /\
     St K wx (ak (.slice pa ps.length pc) 3 1 ps.length (gq ps)::aJ bm bc L' acc::ak (.slice ao S.length co) 69 2 S.length (aD S)::blk uY (.cells #[.int .i64 d.th,.int .i64 d.sn,.int .i64 d.no,.int .i64 d.ch,.int .i64 d.re,.int .i64 d.fa,.int .u64 d.cl] 26)::ak (.slice ka i kc) 9 1 i (bG ks)::F))
    case first=>
     as_aux_lemma=>
     have efa:((d.fa.toNat:Nat):Int)=d.fa:=by omega
     by_cases h0:az=0
     ·subst h0
      have q:=uA (n:=S.length) (least:=1) (fa:=d.fa.toNat) (sh:=s) (by omega) (by omega) (by omega) ⟨s0,s1⟩ hs
      rw[efa]at q;have Q:=aqo q;clear q hs efa;go_wp2_with fail
      refine(Q.out).mono ?_
      clear Q kcf;rintro e w3 ⟨v15,ps,rfl,HG,hs⟩;obtain⟨pa,pc,rfl,_,_⟩:=hs.aF;go_wp2
      go_meet;exact⟨ps,pa,pc,rfl,HG,hs⟩
     ·have H0:=aqo h0
      by_cases dr:az=1
      ·subst dr
       have q:=uA (n:=S.length) (least:=2) (fa:=d.fa.toNat) (sh:=s) (by omega) (by omega) (by omega) ⟨s0,s1⟩ hs
       rw[efa]at q;have Q:=aqo q;clear q hs efa h0;go_wp2_with fail
       refine(Q.out).mono ?_
       clear Q kcf;rintro e w3 ⟨v15,ps,rfl,HG,hs⟩;obtain⟨pa,pc,rfl,_,_⟩:=hs.aF;go_wp2
       go_meet;exact⟨ps,pa,pc,rfl,by rw[if_neg H0.out];exact HG,hs⟩
      ·have h2:¬ ((az:Int)+1<=2):=by omega
       have h3:(2:Int)<az+1:=by omega
       clear dr;have q:=uA (n:=S.length) (least:=2) (fa:=d.fa.toNat) (sh:=s) (by omega) (by omega) (by omega) ⟨s0,s1⟩ hs
       rw[efa]at q;have Q:=aqo q;clear q hs efa h0;go_wp2_with fail
       refine(Q.out).mono ?_
       clear Q kcf;rintro e w3 ⟨v15,ps,rfl,HG,hs⟩;obtain⟨pa,pc,rfl,_,_⟩:=hs.aF;go_wp2
       go_meet;exact⟨ps,pa,pc,rfl,by rw[if_neg H0.out];exact HG,hs⟩
    case rest=>
     clear hs kcf;obtain⟨Kg,pa0,pc0,rfl,HG,hs⟩:=hcut;go_upto_region 9 with(fail)
     go_cut [56] (fun v56 wx=>v56=.bool (decide (Kg.length=0))/\St K wx (ak (.slice pa0 Kg.length pc0) 3 1 Kg.length (gq Kg)::aJ bm bc L' acc::ak (.slice ao S.length co) 69 2 S.length (aD S)::blk uY (.cells #[.int .i64 d.th,.int .i64 d.sn,.int .i64 d.no,.int .i64 d.ch,.int .i64 d.re,.int .i64 d.fa,.int .u64 d.cl] 26)::ak (.slice ka i kc) 9 1 i (bG ks)::F))
     case first=>
      as_aux_lemma=>
      go_wp2
      go_meet;exact⟨by congr 1;rw[Bool.eq_iff_iff];simp only[beq_iff_eq,decide_eq_true_eq];omega,hs⟩
     case rest=>
      clear hs;obtain⟨rfl,hs⟩:=hcut;apply_assumption
      go_cut [15] (fun v15 wx=>∃ (ps:List Nat) (pa:Option Addr) (pc:Nat),v15=.slice pa ps.length pc/\Hid (eV S ps/\(∀ p,p∈ps->(p:Int)<=d.fa)/\(az=0->ps.length<=S.length+1/\ps.length<=40)/\(0<az->ps.length<=(S.length+1) / 2))/\1<=ps.length/\ps.length<=40 /\
       St K wx (ak (.slice pa ps.length pc) 3 1 ps.length (gq ps)::aJ bm bc L' acc::ak (.slice ao S.length co) 69 2 S.length (aD S)::blk uY (.cells #[.int .i64 d.th,.int .i64 d.sn,.int .i64 d.no,.int .i64 d.ch,.int .i64 d.re,.int .i64 d.fa,.int .u64 d.cl] 26)::ak (.slice ka i kc) 9 1 i (bG ks)::F))
      case first=>
       as_aux_lemma=>
       have hpk:=Sa HP.out.pi (show 1<=(if az=0 then 1 else 2)by split <;> omega) HG.out
       have hlen:=HG.out.len;have hbd:=HG.out.bd;have hz:=HP.out.z;have hpp:=HP.out.p;by_cases h0:Kg.length=0
       ·rw[decide_eq_true h0]
        rw[if_pos h0]at hpk;have HQ:Hid (eV S [0]/\(∀ p:Nat,p∈[0]->(p:Int)<=d.fa)/\(az=0->[0].length<=S.length+1/\[0].length<=40)/\(0<az->[0].length<=(S.length+1) / 2)):=
         aqo ⟨hpk,fun p hp=>by simp at hp;subst hp;omega,fun _=>by simp,fun h=>by have:=hpp h;simp only[List.length_cons,List.length_nil];omega⟩
        clear hpk hlen hbd hz hpp h0;have hs:=(hs.made (.cells #[.int .i64 0] 3)).lM (n:=1) (size:=1) (xs:=[.int .i64 0]) rfl (by simp[maxLen])
        go_wp2
        go_meet;exact⟨[0],_,_,rfl,HQ,by simp,by simp,hs.bV⟩
       ·rw[decide_eq_false h0]
        rw[if_neg h0]at hpk;have hlen':(az=0->Kg.length<=S.length)/\(0<az->Kg.length<=(S.length+1) / 2):=by
         constructor
         ·intro h;rw[if_pos h]at hlen;omega
         ·intro h;rw[if_neg (by omega)]at hlen;omega
        have Zf:Kg.length<=40:=by
         rcases Nat.eq_zero_or_pos az with h|h
         ·have:=hlen'.1 h;omega
         ·have:=hlen'.2 h;omega
        have HQ:Hid (eV S Kg/\(∀ p,p∈Kg->(p:Int)<=d.fa)/\(az=0->Kg.length<=S.length+1/\Kg.length<=40)/\(0<az->Kg.length<=(S.length+1) / 2)):=
         aqo ⟨hpk,fun p hp=>by have:=(hbd p hp).2;omega,fun h=>⟨by have:=hlen'.1 h;omega,Zf⟩,hlen'.2⟩
        clear hpk hlen hbd hz hpp hlen';go_wp2
        go_meet;exact⟨Kg,_,_,rfl,HQ,by omega,Zf,hs⟩
      case rest=>
       clear hs HG;obtain⟨ps,pa,pc,rfl,HQ,hp1,hp2,hs⟩:=hcut;have Hnx:=aqo HP.out.nx1;have Gy:Hid (gS t.length (dO t.length ⟨#[]⟩ nx S ps)/\(dO t.length ⟨#[]⟩ nx S ps).length=ps.length):=aqo ⟨Ce HQ.out.1,eU _ _ _ _ _⟩;have Hat:Hid (∀ (j:Nat) (nd:Nd),(dO t.length ⟨#[]⟩ nx S ps)[j]?=some nd->∃ p,ps[j]?=some p/\nd.id=nx+j/\nd.pg.az=az/\nd.pg.sl=(S.drop (ps.take j).sum).take p/\(ps.take j).sum+p<=S.length /\
        ((j+1=ps.length/\nd.pg=⟨az,(S.drop (ps.take j).sum).take p,⟨#[]⟩,true,0⟩)\/(j+1<ps.length/\nd.pg=⟨az,(S.drop (ps.take j).sum).take p,nJ az (S.drop (ps.take j).sum) p,false,nx+j+1⟩))):=aqo (fun j nd h=>by
        have:=gD HQ.out.1 h;rwa [HP.out.tl]at this)
       obtain⟨row,hrow⟩:∃ row,row=dO t.length ⟨#[]⟩ nx S ps:=⟨_,rfl⟩;rw[← hrow]at Gy Hat;have Zg:=aqo hrow;clear hrow;have hs:=hs.cD (T:=69) (size:=2);go_wp2
       go_loopw [16,17,18,19,20,21] (fun v16 v17 v18 v19 _ _ wr=>∃ (j fr:Nat) (A:List Sl) (mJ:Option Addr) (mK:Nat) (low:ByteArray),v16=.slice mJ A.length mK/\v17=.string low/\v18=.int .i64 fr/\v19=.int .i64 j/\j<=ps.length/\fr<=S.length/\A.length<=j /\
        Hid (fr=(ps.take j).sum/\gX row j A dV/\∀ nd,row[j]?=some nd->nd.low=low) /\
        St K wr (ak (.slice mJ A.length mK) 69 2 A.length (aD A)::ak (.slice pa ps.length pc) 3 1 ps.length (gq ps)::aJ bm bc (bS d L' (row.take j)) acc::ak (.slice ao S.length co) 69 2 S.length (aD S)::blk uY (.cells #[.int .i64 d.th,.int .i64 d.sn,.int .i64 d.no,.int .i64 d.ch,.int .i64 d.re,.int .i64 d.fa,.int .u64 d.cl] 26)::ak (.slice ka i kc) 9 1 i (bG ks)::F)) (fun _ _ _ v19 _ _ _=>ps.length-(intOf v19).toNat)
       case atStart=>exact⟨0,0,[],none,0,⟨#[]⟩,rfl,rfl,rfl,rfl,by omega,by omega,Nat.le_refl _,aqo ⟨rfl,gX.start _ _,fun nd h=>Gy.out.1.first nd h⟩,hs⟩
       case round=>
        clear hs;obtain⟨j,fr,A,mJ,mK,low,rfl,rfl,rfl,rfl,hj,hfr,hAj,HR,hs⟩:=hrel;by_cases hjn:j<ps.length
        ·obtain⟨nd,hnd⟩:∃ nd,row[j]?=some nd:=⟨_,aqt (by rw[Gy.out.2];exact hjn)⟩
         obtain⟨p,hpj,hid,cg,fj,hfp,mO⟩:=Hat.out j nd hnd;rw[← HR.out.1]at fj hfp mO;obtain⟨gp,rfl,c0⟩:=hs.b1.cP (show(gq ps)[j]?=some (.int .i64 p)by simp[gq,hpj])
         have Nj:=aqo hnd;have Hpj:=aqo hpj;have Hid' := aqo hid;have sO:=aqo fj;have Hpg:=aqo mO;have uq:=aqo cg;clear hnd hpj hid fj mO cg;go_upto_region 16 with(fail)
         go_cut [20] (fun v20 wx=>∃ (bp:Nat) (sa:Option Addr) (sc:Nat),v20=(.pointer (some ⟨bp,0,none⟩))/\Hid (∀ W F',St K W (ak (.slice ao S.length co) 69 2 S.length (aD S)::F')->eo W sa nd.pg.sl) /\
          St K wx (blk bp (.cells #[.int .i64 az,.slice sa p sc,.string ⟨#[]⟩,.bool (decide (j+1=ps.length)),.int .u64 0] 43)::ak (.slice mJ A.length mK) 69 2 A.length (aD A)::ak (.slice (some ⟨gp,0,none⟩) ps.length pc) 3 1 ps.length (gq ps)::aJ bm bc (bS d L' (row.take j)) acc::ak (.slice ao S.length co) 69 2 S.length (aD S)::blk uY (.cells #[.int .i64 d.th,.int .i64 d.sn,.int .i64 d.no,.int .i64 d.ch,.int .i64 d.re,.int .i64 d.fa,.int .u64 d.cl] 26)::ak (.slice ka i kc) 9 1 i (bG ks)::F))
         case first=>
          as_aux_lemma=>
          have hbe:((j:Int) == (ps.length:Int)-1)=decide (j+1=ps.length):=by rw[Bool.eq_iff_iff];simp only[beq_iff_eq,decide_eq_true_eq];omega
          have hcap:=hs.b3.Nh;rcases hcap with⟨rfl,h0,rfl⟩|⟨g,rfl,hco⟩
          ·have hS0:S=[]:=List.length_eq_zero_iff.1 h0
           obtain rfl:fr=0:=by omega
           obtain rfl:p=0:=by omega
           have HS0:=aqo hS0;have Hbe:=aqo hbe;clear hS0 hbe;have hs:=hs.made (.cells #[.int .i64 az,.slice none 0 0,.string ⟨#[]⟩,.bool (decide (j+1=ps.length)),.int .u64 0] 43);go_wp2
           rw[Hbe.out];go_meet;exact⟨_,_,_,rfl,aqo (fun W F' h=>uI (by rw[sO.out,HS0.out];simp)),hs⟩
          ·have Hbe:=aqo hbe
           clear hbe;by_cases Su:p=0
           ·have hS0:S=[]:=by
             have hm:=aqs Hpj.out;rcases HQ.out.1.pos with hq|hq
             ·have:=hq p hm;omega
             ·have:=HQ.out.1.sum;rw[hq]at this;exact List.length_eq_zero_iff.1 (by simpa using this.symm)
            have h0:S.length=0:=by rw[hS0];rfl
            have HS0:=aqo hS0;subst Su;obtain rfl:fr=0:=by omega
            clear hS0;rcases Nat.eq_zero_or_pos co with hc|hc
            ·subst hc
             have hs:=hs.made (.cells #[.int .i64 az,.slice (some ⟨g,0,none⟩) 0 0,.string ⟨#[]⟩,.bool (decide (j+1=ps.length)),.int .u64 0] 43);go_wp2
             rw[Hbe.out];go_meet;exact⟨_,_,_,rfl,aqo (fun W F' h=>uI (by rw[sO.out,HS0.out];simp)),hs⟩
            ·have hs:=hs.made (.cells #[.int .i64 az,.slice (some ⟨g,0,none⟩) 0 co,.string ⟨#[]⟩,.bool (decide (j+1=ps.length)),.int .u64 0] 43)
             go_wp2
             rw[Hbe.out];go_meet;exact⟨_,_,_,rfl,aqo (fun W F' h=>uI (by rw[sO.out,HS0.out];simp)),hs⟩
           ·have hfc:fr<co:=by omega
            have hs:=hs.made (.cells #[.int .i64 az,.slice (some ⟨g,fr*2,none⟩) p (co-fr),.string ⟨#[]⟩,.bool (decide (j+1=ps.length)),.int .u64 0] 43);go_wp2
            rw[Hbe.out];go_meet;exact⟨_,_,_,rfl,aqo (fun W F' h=>by rw[sO.out];exact Sr (h.cN (by omega)) hfp),hs⟩
         case rest=>
          clear hs;obtain⟨bp,sa,sc,rfl,Hsa,hs⟩:=hcut;have kp:=hs.k0;have c0:=hs.b2.bJ (show(gq ps)[j]?=some (.int .i64 p)by simp[gq,Hpj.out])
          go_upto_region 19 with(fail)
          go_cut [92] (fun v92 wx=>v92=.bool (!decide (j+1=ps.length))/\St K wx (blk bp (.cells #[.int .i64 az,.slice sa p sc,.string ⟨#[]⟩,.bool (decide (j+1=ps.length)),.int .u64 0] 43)::ak (.slice mJ A.length mK) 69 2 A.length (aD A)::ak (.slice (some ⟨gp,0,none⟩) ps.length pc) 3 1 ps.length (gq ps)::aJ bm bc (bS d L' (row.take j)) acc::ak (.slice ao S.length co) 69 2 S.length (aD S)::blk uY (.cells #[.int .i64 d.th,.int .i64 d.sn,.int .i64 d.no,.int .i64 d.ch,.int .i64 d.re,.int .i64 d.fa,.int .u64 d.cl] 26)::ak (.slice ka i kc) 9 1 i (bG ks)::F))
          case first=>
           as_aux_lemma=>
           go_wp2
           go_meet;exact⟨rfl,hs⟩
          case rest=>
           clear hs kp c0;obtain⟨rfl,hs⟩:=hcut;apply_assumption
           go_cut [93] (fun _ wx=>St K wx (blk bp (.cells #[.int .i64 az,.slice sa p sc,.string nd.pg.hi,.bool nd.pg.la,.int .u64 nd.pg.ri] 43)::ak (.slice mJ A.length mK) 69 2 A.length (aD A)::ak (.slice (some ⟨gp,0,none⟩) ps.length pc) 3 1 ps.length (gq ps)::aJ bm bc (bS d L' (row.take j)) acc::ak (.slice ao S.length co) 69 2 S.length (aD S)::blk uY (.cells #[.int .i64 d.th,.int .i64 d.sn,.int .i64 d.no,.int .i64 d.ch,.int .i64 d.re,.int .i64 d.fa,.int .u64 d.cl] 26)::ak (.slice ka i kc) 9 1 i (bG ks)::F))
           case first=>
            as_aux_lemma=>
            by_cases hl:j+1=ps.length
            ·have Sv:nd.pg.hi=⟨#[]⟩/\nd.pg.la=true/\nd.pg.ri=0:=by
              rcases Hpg.out with⟨_,h⟩|⟨h,_⟩
              ·rw[h];exact⟨rfl,rfl,rfl⟩
              ·omega
             rw[decide_eq_true hl]at hs ⊢;have vR:=aqo Sv;clear Sv hl;go_wp2
             go_meet;rw[vR.out.1,vR.out.2.1,vR.out.2.2];exact hs
            ·have hlt:j+1<ps.length:=by omega
             obtain⟨x,y,hx,hy,q1,q2,q3,q4⟩:=HQ.out.1.at (az:=az) Hpj.out hlt;rw[← HR.out.1]at q1;rw[gT Hpj.out,← HR.out.1]at hx hy;have Sv:nd.pg.hi=(if az=0 then lU x.k y.k else y.k)/\nd.pg.la=false/\nd.pg.ri=nx+j+1:=by
              rcases Hpg.out with⟨h,_⟩|⟨_,h⟩
              ·omega
              ·rw[h];exact⟨by show nJ az _ p=_;rw[HR.out.1];exact q3,rfl,rfl⟩
             have vR:=aqo Sv;obtain⟨rx0,rx1⟩:=fX S _ x hx;obtain⟨ry0,ry1⟩:=fX S _ y hy;have hylt:fr+p<S.length:=(aqq.1 hy).1;obtain⟨gs,rfl,_⟩:=hs.b4.cP ry0;have Hrx:=aqo rx0;have Hry:=aqo ry0;have ajn:az=0->y.k.size<=1000000:=by
              intro h;have ht:t=[]:=List.length_eq_zero_iff.1 (by rw[HP.out.tl];exact h)
              have hm:=aqs hy;rw[HP.out.pi.s0 ht]at hm;have:=Hk.out.size _ (lu hm).1;omega
             have hw1:IntKind.u64.wrap ((nx:Int)+j+1)=(nx:Int)+j+1:=by rw[IntKind.wrap_u64];omega
             have Hw1:=aqo hw1;clear Sv q1 q3 q4 rx0 rx1 ry0 ry1 hx hy hw1;rw[decide_eq_false hl]at hs ⊢;clear hl;go_upto_region 20 with(fail)
             have Hs:=aqo hs;clear hs;refine aT [false,false,false,false,false,false,false,false,true,false,true] [8,10] (fun _=>[])
              (PlR K bp az sa p sc y.k ((nx:Int)+j+1) (ak (.slice mJ A.length mK) 69 2 A.length (aD A)::ak (.slice (some ⟨gp,0,none⟩) ps.length pc) 3 1 ps.length (gq ps)::aJ bm bc (bS d L' (row.take j)) acc::ak (.slice (some ⟨gs,0,none⟩) S.length co) 69 2 S.length (aD S)::blk uY (.cells #[.int .i64 d.th,.int .i64 d.sn,.int .i64 d.no,.int .i64 d.ch,.int .i64 d.re,.int .i64 d.fa,.int .u64 d.cl] 26)::ak (.slice ka i kc) 9 1 i (bG ks)::F))
              (fun W=>St K W (ak (.slice mJ A.length mK) 69 2 A.length (aD A)::ak (.slice (some ⟨gp,0,none⟩) ps.length pc) 3 1 ps.length (gq ps)::aJ bm bc (bS d L' (row.take j)) acc::ak (.slice (some ⟨gs,0,none⟩) S.length co) 69 2 S.length (aD S)::blk uY (.cells #[.int .i64 d.th,.int .i64 d.sn,.int .i64 d.no,.int .i64 d.ch,.int .i64 d.re,.int .i64 d.fa,.int .u64 d.cl] 26)::ak (.slice ka i kc) 9 1 i (bG ks)::F)) ?aS (by kernel_rfl) ?hB ?H ?iA ?h0 ?hI ?hR ?hE ?hQ
             case hB=>as_aux_lemma=>kernel_rfl
             case H=>
              intro W2 hs;have c0:=hs.b3.bJ Hry.out;clear hs;simp only[bK];repeat (go_big_quiet_step (fail))
              refine wpQuiet_nil ?_
              rfl
             case iA=>rfl
             case h0=>exact Hs.out
             case hI=>exact fun ρ W2 h=>St.tail h
             case hR=>exact fun ρ W2 W3 h hb=>St.same h hb
             case hE=>
              refine⟨?e8,?Wu,trivial⟩;case e8=>
               intro o ho ρ W2 h hcl h8 hd2 af aC;obtain rfl:=aqu ho;replace aC:af=aj _ ρ [] _:=aC;simp only[aj]at aC;subst aC;have hs:St K W2 (blk bp (.cells _ 43)::_):=h;have k0:=hs.k0;have f0:=hs.f0;have hs:=hs.aI 4 (.int .u64 ((nx:Int)+j+1));have gh:=aqo hs;clear h hs hcl hd2;go_wp2
               refine⟨rfl,undef,rfl,?_⟩;have e1:upd ρ 8 undef 8=some undef:=by simp[upd]
               have e2:upd ρ 8 undef 10=ρ 10:=by simp[upd]
               unfold PlR;rw[e1,e2];exact gh.out
              case Wu=>
               intro o ho ρ W2 h hcl h10 hd2 af aC;obtain rfl:=aqu ho;replace aC:af=aj _ ρ [] _:=aC;simp only[aj]at aC;subst aC;have hs:St K W2 (blk bp (.cells _ 43)::_):=h;have k0:=hs.k0;have f0:=hs.f0;have hs:=hs.aI 2 (.string y.k);have gh:=aqo hs;clear h hs hcl hd2;go_wp2
               refine⟨rfl,undef,rfl,?_⟩;have e1:upd ρ 10 undef 10=some undef:=by simp[upd]
               have e2:upd ρ 10 undef 8=ρ 8:=by simp[upd]
               unfold PlR;rw[e1,e2];exact gh.out
             case hQ=>
              intro ρ W2 h hall;obtain⟨v8,h8⟩:=aqr.1 (hall 8 (by simp))
              obtain⟨v10,h10⟩:=aqr.1 (hall 10 (by simp))
              unfold PlR at h;rw[h8,h10]at h;have hs:St K W2 (blk bp (.cells #[.int .i64 az,.slice sa p sc,.string y.k,.bool false,.int .u64 ((nx:Int)+j+1)] 43)::ak (.slice mJ A.length mK) 69 2 A.length (aD A)::ak (.slice (some ⟨gp,0,none⟩) ps.length pc) 3 1 ps.length (gq ps)::aJ bm bc (bS d L' (row.take j)) acc::ak (.slice (some ⟨gs,0,none⟩) S.length co) 69 2 S.length (aD S)::blk uY (.cells #[.int .i64 d.th,.int .i64 d.sn,.int .i64 d.no,.int .i64 d.ch,.int .i64 d.re,.int .i64 d.fa,.int .u64 d.cl] 26)::ak (.slice ka i kc) 9 1 i (bG ks)::F):=h;simp only[aj,h8,h10,Option.getD_some,aL,List.getElem?_cons_succ,List.getElem?_cons_zero,Option.bind_some,Option.bind_none,Act.put];clear h hall h8 h10;by_cases hl0:az=0
              ·subst hl0
               have kp:=hs.k0;have cx:=hs.b4.bJ Hrx.out;have cy:=hs.b4.bJ Hry.out;have Qs:=aqo (fun wz=>(Fk x.k y.k (ajn rfl) wz).mono (by rintro e w' ⟨rfl,rfl⟩;exact And.intro rfl (Below.refl _ _):∀ e w',_->(e=.returned (.string (lU x.k y.k))/\Below wz.heap.size wz w')))
               go_upto_region 22 with(fail)
               refine bO 13 (by kernel_rfl) (by as_aux_lemma=>kernel_rfl) ?_
               simp only[List.take_succ_cons,List.take_zero,List.drop_succ_cons,List.drop_zero];repeat (go_big_quiet_step ((go_at_call 71;exact aW (Qs.out _))))
               refine wpQuiet_nil ?_
               intro w7 Yt;have hs:=hs.same Yt;clear kp cx cy Yt;have k0:=hs.k0;have f0:=hs.f0;have hs:=hs.aI 2 (.string (lU x.k y.k));have Sw:nd.pg.hi=lU x.k y.k:=by rw[vR.out.1,if_pos rfl]
               have Hp3:=aqo Sw;clear Sw;go_wp2
               go_meet;rw[Hp3.out,vR.out.2.1,vR.out.2.2];exact hs
              ·have Sw:nd.pg.hi=y.k:=by rw[vR.out.1,if_neg hl0]
               have Hp3:=aqo Sw;clear Sw;go_wp2
               go_meet;rw[Hp3.out,vR.out.2.1,vR.out.2.2];exact hs
           case rest=>
            clear hs;have hs:=hcut;clear hcut;have hpl:p=nd.pg.sl.length:=by rw[sO.out];simp;omega
            have hmid:nd.id=(nx:Int)+j:=Hid'.out;have Xq:(nd.pg.sl.length:Int)<=d.fa:=by rw[← hpl];exact HQ.out.2.1 p (aqs Hpj.out)
            have lJ:bS d L' (row.take (j+1))=eY d nd.id nd.pg (bS d L' (row.take j)):=by
             rw[List.take_add_one,Nj.out];exact vG _ _ _
            have hs:St K wc (aJ bm bc (bS d L' (row.take j)) acc::blk bp (.cells #[.int .i64 nd.pg.az,.slice sa nd.pg.sl.length sc,.string nd.pg.hi,.bool nd.pg.la,.int .u64 nd.pg.ri] 43)::ak (.slice mJ A.length mK) 69 2 A.length (aD A)::ak (.slice (some ⟨gp,0,none⟩) ps.length pc) 3 1 ps.length (gq ps)::ak (.slice ao S.length co) 69 2 S.length (aD S)::blk uY (.cells #[.int .i64 d.th,.int .i64 d.sn,.int .i64 d.no,.int .i64 d.ch,.int .i64 d.re,.int .i64 d.fa,.int .u64 d.cl] 26)::ak (.slice ka i kc) 9 1 i (bG ks)::F):=by
             rw[← hpl,uq.out];exact hs.re [3,0,1,2,4,5,6] rfl
            have hput:=tU (pg:=nd.pg) (id:=nd.id) (a:=sa) (cap:=sc) Hd.out (by rw[hmid];omega) (by rw[uq.out];omega) Xq (fun W h=>Hsa.out W _ (h.re [3,0,1,2,4,5] rfl)) hs
            rw[hmid]at hput;rw[← hmid,← lJ,hmid]at hput;have ael:=aqo hput;have kp:=hs.k1;have kcf:=hs.b5.k0;clear hput lJ hmid Xq hpl;go_wp2_with fail
            refine(ael.out).mono ?_
            clear hs kp kcf ael;rintro e w5 ⟨rfl,hs⟩;go_upto_region 24 with(fail)
            go_cut [136] (fun ajp wx=>∃ b:Bool,ajp=.bool b/\Hid (b=false->0<j/\dV=true)/\St K wx (aJ bm bc (bS d L' (row.take (j+1))) acc::blk bp (.cells #[.int .i64 nd.pg.az,.slice sa nd.pg.sl.length sc,.string nd.pg.hi,.bool nd.pg.la,.int .u64 nd.pg.ri] 43)::ak (.slice mJ A.length mK) 69 2 A.length (aD A)::ak (.slice (some ⟨gp,0,none⟩) ps.length pc) 3 1 ps.length (gq ps)::ak (.slice ao S.length co) 69 2 S.length (aD S)::blk uY (.cells #[.int .i64 d.th,.int .i64 d.sn,.int .i64 d.no,.int .i64 d.ch,.int .i64 d.re,.int .i64 d.fa,.int .u64 d.cl] 26)::ak (.slice ka i kc) 9 1 i (bG ks)::F))
            case first=>
             as_aux_lemma=>
             by_cases hj0:j=0
             ·subst hj0
              go_wp2
              go_meet;exact⟨true,rfl,aqo (fun h=>by cases h),hs⟩
             ·have hj1:0<j:=by omega
              cases dV with
              | false=>
               go_wp2
               go_meet;exact⟨true,rfl,aqo (fun h=>by cases h),hs⟩
              | true=>
               go_wp2
               go_meet;exact⟨_,rfl,aqo (fun _=>⟨hj1,by first|rfl|trivial⟩),hs⟩
            case rest=>
             clear hs;obtain⟨b,rfl,Hb,hs⟩:=hcut;apply_assumption
             go_cut [16] (fun v16 wx=>∃ (A':List Sl) (ao3:Option Addr) (co3:Nat),v16=.slice ao3 A'.length co3/\Hid (gX row (j+1) A' dV)/\St K wx (aJ bm bc (bS d L' (row.take (j+1))) acc::blk bp (.cells #[.int .i64 nd.pg.az,.slice sa nd.pg.sl.length sc,.string nd.pg.hi,.bool nd.pg.la,.int .u64 nd.pg.ri] 43)::ak (.slice ao3 A'.length co3) 69 2 A'.length (aD A')::ak (.slice (some ⟨gp,0,none⟩) ps.length pc) 3 1 ps.length (gq ps)::ak (.slice ao S.length co) 69 2 S.length (aD S)::blk uY (.cells #[.int .i64 d.th,.int .i64 d.sn,.int .i64 d.no,.int .i64 d.ch,.int .i64 d.re,.int .i64 d.fa,.int .u64 d.cl] 26)::ak (.slice ka i kc) 9 1 i (bG ks)::F))
             case first=>
              as_aux_lemma=>
              cases b with
              | false=>
               go_wp2
               go_meet;exact⟨A,mJ,mK,rfl,aqo (HR.out.2.1.skip (Hb.out (by first|rfl|trivial)).1 (Hb.out (by first|rfl|trivial)).2),hs⟩
              | true=>
               have e0:jV nd=⟨low,(nx:Int)+j⟩:=by unfold jV;rw[HR.out.2.2 nd Nj.out,Hid'.out]
               have E0:=aqo e0;clear e0;go_wp2_with (at_builtin;refine dB _ _ 41 69 _ A.length 2 24 _ (gW ⟨low,(nx:Int)+j⟩) (.agg #[.string ⟨#[]⟩,.int .u64 0]) iv hs.b2 rfl rfl Tryz.underlying41 lC.out lD.out lF.out lG.out rfl (by decide) rfl rfl rfl (fun u hu=>by simp[gW]at hu;rcases hu with rfl|rfl <;> rfl) (by omega) (by decide) ?_)
               clear hs;intro v' w' hs;obtain⟨ao3,co3,hv,_,_⟩:=hs.aF;subst hv;go_wp2
               go_meet;exact⟨A++[jV nd],ao3,co3,by rw[List.length_append];rfl,aqo (HR.out.2.1.push Gy.out.1 Nj.out),by rw[List.length_append,E0.out,uH];exact hs.re [1,2,0] rfl⟩
             case rest=>
              clear hs;obtain⟨A',ao3,co3,rfl,HA',hs⟩:=hcut;have kp:=hs.k1;have ajq:A'.length<=j+1:=HA'.out.len;have aem:∀ lY,row[j+1]?=some lY->lY.low=nd.pg.hi:=fun lY h=>((Gy.out.1.next j nd lY Nj.out h).2.1).symm
              have ajr:=aqo aem;clear aem;go_wp2
              go_roundw
              case rel=>exact⟨j+1,fr+p,A',ao3,co3,nd.pg.hi,rfl,rfl,by go_num,by go_num,by omega,hfp,ajq,aqo ⟨by rw[gT Hpj.out,HR.out.1],HA'.out,ajr.out⟩,(hs.re [1,2,3,0] rfl).tail⟩
              case measure=>simp[intOf];omega
        ·obtain rfl:j=ps.length:=by omega
         have abG:((nx+ps.length:Nat):Int)<=d.no+1:=by
          have xV:=Hno.out;rcases Nat.eq_zero_or_pos az with h|h
          ·have:=HP.out.z h;have:=(HQ.out.2.2.1 h).2;omega
          ·have h1:=HP.out.p h
           have h2:=HQ.out.2.2.2 h;have h3:S.length<=2\/3<=S.length:=by omega
           rcases h3 with h3|h3
           ·have:=Gs S.length abF;omega
           ·have h4:=Jy S.length abF h3
            have h5:=Gs ((S.length+1) / 2) (by omega)
            omega
         have Zh:t≠[]->2*ps.length<=S.length+1:=fun hne=>by
          have h0:0<az:=by rw[← HP.out.tl];exact List.length_pos_iff.2 hne
          have:=HQ.out.2.2.2 h0;omega
         have hst:=HP.out.pi.step Hd.out (A:=A) HQ.out.1 HQ.out.2.1 HP.out.nx1 abG (by rw[HP.out.tl];omega) (by rw[← Zg.out];exact HR.out.2.1) Zh
         clear Zh;rw[← Zg.out]at hst;have lJ:row.take ps.length=row:=by rw[← Gy.out.2,List.take_length]
         rw[lJ]at hs;have Hst:=aqo hst;have anO:=aqo abG;clear hst lJ abG;by_cases hone:ps.length=1
         ·have hn1:nx+1<=101:=by
           rcases Nat.eq_zero_or_pos az with h|h
           ·have:=HP.out.z h;omega
           ·have:=HP.out.p h;have:=Gs S.length abF;omega
          obtain⟨nd,Sy⟩:∃ nd,row=[nd]:=List.length_eq_one_iff.1 (by rw[Gy.out.2];exact hone)
          have HX:Hid (oF d ks dV (aN (aN (bS d L' row) 0 ⟨nx,⟨#[]⟩,0⟩) 4 ⟨nx,⟨#[]⟩,0⟩) (t++[row])):=aqo (by
           have hcn:ni ⟨nx,⟨#[]⟩,0⟩:=⟨by show(0:Int)<=nx;omega,by show(nx:Int)<_;omega⟩
           have hlen:(bS d L' row).length=L'.length:=ju _ _;have hcl:=HP.out.pi.eW;have hcells:=Hd.out.dL;have hA8:=Hd.out.eb;have hB8:=Hd.out.jo;have Zi:=Hd.out.mE;have hz:(row[0]?)=some nd:=by rw[Sy];rfl
           obtain⟨_,_,hid,_⟩:=Hat.out 0 nd hz;have hst:=Hst.out;rw[hone]at hst;refine hst.last Hd.out (nd:=nd) (by rw[List.length_append,Sy];simp) (by rw[hid];push_cast;omega) hn1 ?_ ?_ (fun k hk hk4=>by rw[bg (by omega),bg (by omega)]) ((hst.iR.put hcn).put hcn) (by rw[aY,aY])
           ·rw[bg (by omega),b9 (by omega) (by rw[hlen];omega)]
            push_cast;omega
           ·rw[b9 (by omega) (by rw[aY,hlen];omega)]
            push_cast;omega)
          have Hlt:=aqo (show(t++[row]).length=az+1 by rw[List.length_append,HP.out.tl];rfl)
          have hs:=hs.b2;clear Sy hn1;go_wp2_with fail
          refine(fQ (i:=0) (c:=⟨nx,⟨#[]⟩,0⟩) hs).mono ?_
          clear hs;rintro e w7 ⟨rfl,hs⟩;go_wp2_with fail
          refine(fQ (i:=4) (c:=⟨nx,⟨#[]⟩,0⟩) hs).mono ?_
          clear hs;rintro e w8 ⟨rfl,hs⟩;go_wp2
          go_ret;exact⟨t++[row],_,by rw[Hlt.out];push_cast;rfl,HX,(hs.re [1,2,3,4,0] rfl).tail.tail.tail.tail⟩
         ·have hAp:A.length<=ps.length:=HR.out.2.1.len
          have HN:=aqo (HP.out.next HQ.out.1 (fun h=>(HQ.out.2.2.1 h).2) HQ.out.2.2.2 hone hAp (by rw[List.length_append,HP.out.tl];rfl) Hst.out)
          have hms:A.length<S.length+(if (az:Int)=0 then 1 else 0):=by
           obtain⟨h1,h2⟩:=HP.out.uJ HQ.out.1 (fun h=>(HQ.out.2.2.1 h).2) HQ.out.2.2.2 hone
           split
           ·omega
           ·have:=(h2 (by omega)).2;omega
          have Hms:=aqo hms;clear hms;go_wp2
          go_roundw
          case rel=>exact⟨_,nx+ps.length,az+1,A,t++[row],mJ,mK,bS d L' row,rfl,rfl,by go_num,by go_num,by omega,by omega,HN,(hs.re [1,3,2,0] rfl).tail.tail⟩
          case measure=>
           have h:=Hms.out;simp only[Ze,intOf];have e0:¬ ((az:Int)+1=0):=by omega
           by_cases hl:(az:Int)=0
           ·simp only[e0,hl,if_true,if_false]at h ⊢
            simp at h ⊢;omega
           ·simp only[e0,hl,if_false]at h ⊢;omega
end
end Go.Proofs.YtlpdhhhgckpcfaaGreat
