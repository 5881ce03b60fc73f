
/- The walk of PostWithoutNodes. -/
import Derived.Test.YtlpdhhhgckpcfaaGreatW14
namespace Go.Proofs.YtlpdhhhgckpcfaaGreat
set_option maxHeartbeats 16000000
open Go.RowKit
set_option maxRecDepth 100000
theorem mL (a:Option Addr)(len cap:Nat)(f:Nat->ByteArray)(fanout sh:Int)(bare:Bool)(which:Int)(hsh:0<=sh/\sh<18446744073709551616)(w:World)(hz:yD w a len f) :
  Calls Tryz.prog 8 #[.slice a len cap,.int .i64 fanout,.int .u64 sh,.bool bare,.int .i64 which] w fun e w' => e=.returned (.bool true)/\Below w.heap.size w w' := by
 obtain⟨d,hd,sP,hno,hch,Q1,Q2⟩:=Vc fanout;have hl:=hz.1;simp only[maxLen]at hl;have Hz:=aqo hz;have Hsh:=aqo hsh;have QA:=aqo (fun(W:World) (cs:List aB) (h:St (aK.of w) W cs)=>Il h)
 have hs:=St.start w;clear hz hsh;go_enter Tryz.func8,Tryz.ntmps8
 go_wp2_with fail
 refine(bE hs (Q1.out _)).mono ?_
 clear hs;rintro e w1 ⟨rfl,hs⟩;have hs:=hs.made (.cells #[.int .i64 d.th,.int .i64 d.sn,.int .i64 300,.int .i64 d.ch,.int .i64 d.re,.int .i64 d.fa,.int .u64 d.cl] 26);obtain⟨b0,hb0⟩:∃ b,b=w1.heap.size:=⟨_,rfl⟩;go_upto_region 3 with(fail)
 rw[← hb0]at hs ⊢;clear hb0;refine cR hs ?_
 clear hs;intro w2 hs;have hs:St (aK.of w) w2 (blk b0 (.cells (pG d) 26)::[]):=hs.Ox (by unfold pG;rw[hno.out])
 have kc:=hs.k0;unfold pG at kc;go_wp2_with fail
 refine(Q2.out _ _ _ hs).mono ?_
 clear hs kc;rintro e w3 ⟨bm,bc,rfl,hs⟩;have hs:=hs.made (.cells #[.int .i64 (d).th,.int .i64 (d).sn,.int .i64 (d).no,.int .i64 (d).ch,.int .i64 (d).re,.int .i64 (d).fa,.int .u64 (d).cl] 29);obtain⟨b1,hb1⟩:∃ b,b=w3.heap.size:=⟨_,rfl⟩;go_wp2_with fail
 rw[← hb1]at hs ⊢;clear hb1;refine(QA.out _ _ hs).mono ?_
 clear hs;rintro e w4 ⟨rfl,hs⟩;have hs:St (aK.of w) w4 (aJ bm bc (cm d) 0::blk b1 (.cells (pG d) 29)::blk b0 (.cells (pG d) 26)::[]):=hs.b1;have kc:=hs.k2;unfold pG at kc;have q:=Nx (a:=a) (len:=len) (cap:=cap) (f:=f) (bare:=bare) Hz.out hd.out sP.out (by have:=hno.out;omega) Hsh.out hs
 have Q:=aqo q;clear q hs;generalize cm d=L00 at *;go_wp2_with fail
 refine(Q.out).mono ?_
 clear Q kc;rintro e w5 ⟨ks,l0,L0,t,rfl,HF,hs⟩;obtain⟨L,hL⟩:∃ L,L=aN L0 4 ⟨d.no,⟨#[]⟩,0⟩:=⟨_,rfl⟩;have HL:=aqo hL;have HG:=aqo (show Ut d ks l0 L t by rw[hL];exact(HF.out.1.full hd.out (by have:=hno.out;omega)).1)
 have kc:=hs.k2;unfold pG at kc;have hw:IntKind.u64.wrap d.no=d.no:=by rw[IntKind.wrap_u64];have:=hno.out;omega
 go_wp2_with fail
 refine(fQ (i:=4) (c:=⟨d.no,⟨#[]⟩,0⟩) hs).mono ?_
 rw[← hL];clear hs kc hw hL;rintro e w6 ⟨rfl,hs⟩;have kc:=hs.k2;unfold pG at kc;have q:=uE (d:=d) hs;have Q:=aqo q;clear hs q;go_wp2_with fail
 refine(Q.out).mono ?_
 clear Q kc;rintro e w7 ⟨g,rfl,hle,hg,hs⟩;obtain⟨K2,hK2⟩:∃ K2,K2=(aK.of w).add g (.cells (flat L).toArray 63):=⟨_,rfl⟩;rw[← hK2]at hle hg hs;clear hK2;have Vm:=aqo hle;have Hg:=aqo hg;have hs:=hs.made (.cells #[.int .i64 (d).th,.int .i64 (d).sn,.int .i64 (d).no,.int .i64 (d).ch,.int .i64 (d).re,.int .i64 (d).fa,.int .u64 (d).cl,.slice (some ⟨g,0,none⟩) L.length L.length] 52);obtain⟨Vr,aci⟩:∃ b,b=w7.heap.size:=⟨_,rfl⟩;obtain⟨hl6,q1,_,_⟩:=Io hd.out hch.out HG.out HF.out.2 hg;have Qt:=aqo q1;obtain⟨n5,Za⟩:∃ n,n=L.length:=⟨_,rfl⟩;have Hn5:=aqo Za;rw[← Za]at hs Qt;clear q1 hle hg hl6;go_upto_region 9 with(fail)
 rw[← Za,← aci];rw[← aci]at hs;clear aci Za;refine cR hs ?_
 clear hs;intro w8 hs;have hs:St K2 w8 (blk Vr (.cells (xx d g n5) 52)::aJ bm bc L 0::blk b1 (.cells (pG d) 29)::blk b0 (.cells (pG d) 26)::[]):=hs;have kv:=hs.k0;unfold xx at kv;go_wp2_with fail
 refine(Qt.out _ _ hs).mono ?_
 clear hs kv Qt;rintro e w9 ⟨vt,rfl,hs⟩;obtain⟨Dw,Yl,rfl,_,_⟩:=hs.aF;obtain⟨kO,lJ⟩:∃ tk,tk=fV l0 (t[1]?.getD []):=⟨_,rfl⟩;rw[← lJ]at hs ⊢;have Htk:=aqo lJ;clear lJ;have apc:kO.length<=4096:=by
  rw[Htk.out];refine Nat.le_trans (List.length_filter_le _ _) ?_
  rw[List.length_drop];have h1:=List.cT HG.out.r0;have h2:=HG.out.ok.count;have h3:=HG.out.ok.n4;have:=hno.out;omega
 by_cases hk0:kO.length=0
 ·have hk1:((kO.length:Int) == 0)=true:=by rw[hk0];rfl
  go_wp2
  go_ret;exact⟨rfl,hs.below Vm.out⟩
 ·have hk1:((kO.length:Int) == 0)=false:=by rw[beq_eq_false_iff_ne];omega
  obtain⟨j,hj,hjl⟩:∃ j:Nat,which%(kO.length:Int)=j/\j<kO.length:=by
   have h1:=Int.emod_nonneg which (show(kO.length:Int)≠0 by omega)
   have h2:=Int.emod_lt_of_pos which (show(0:Int)<(kO.length:Int)by omega)
   obtain⟨z,hz⟩:∃ z,z=which%(kO.length:Int):=⟨_,rfl⟩;rw[← hz]at h1 h2 ⊢;exact⟨z.toNat,by omega,by omega⟩
  have QM:=aqo (fun W=>Ix which (kO.length:Int) (by omega) (by omega) W)
  rw[hj]at QM;obtain⟨c,hc⟩:∃ c,kO[j]?=some c:=⟨_,aqt hjl⟩;obtain⟨r0,r1⟩:=Du kO j c hc;obtain⟨ga,rfl,_⟩:=(show St K2 w9 (ak _ _ _ _ _::_)from hs).cP r0
  have Hc:=aqo (show c∈l0.drop 1/\¬ qF t 1 c.id from afw (by rw[← Htk.out];exact hc))
  have c0:=(show St K2 w9 (ak _ _ _ _ _::_)from hs).bJ r0
  have c1:=(show St K2 w9 (ak _ _ _ _ _::_)from hs).bJ r1
  clear hj r0 r1 hc;go_wp2_with fail
  refine(QM.out _).mono ?_
  rintro e w10 ⟨rfl,rfl⟩;have hs:=hs.made (.cells #[.string c.low,.int .u64 c.id] 99);obtain⟨Ym,afx⟩:∃ b,b=w9.heap.size:=⟨_,rfl⟩;go_upto_region 13 with(fail)
  rw[← afx]at hs ⊢;clear afx;refine cR hs ?_
  clear hs c0 c1 QM hk1;intro w11 hs;have hs:St K2 w11 (blk Ym (.cells #[.string c.low,.int .u64 c.id] 99)::ak (.slice (some ⟨ga,0,none⟩) kO.length Yl) 99 2 kO.length (fM kO)::blk Vr (.cells (xx d g n5) 52)::aJ bm bc L 0::blk b1 (.cells (pG d) 29)::blk b0 (.cells (pG d) 26)::[]):=hs;obtain⟨Dw,afy⟩:∃ a,a=some (⟨ga,0,none⟩:Addr):=⟨_,rfl⟩;rw[← afy]at hs ⊢;clear afy;obtain⟨J,HJ,HJ0,HJe⟩:∃ J,Hid (PoJ d J)/\Hid (J L (Oe ⟨1,c.low,c.id,false⟩) 4940)/\Hid (∀ L' s m,J L' s m->s.pc=14->(bare=true->s.f.po=false)/\∃ t',Ut d ks l0 L' t' /\ (fV l0 (t'[1]?.getD [])).length+(if s.f.po then 1 else 0)=kO.length):=by
   obtain⟨J,q1,q2,q3⟩:=HF.out.1.none hd.out hno.out Hc.out.1 Hc.out.2;rw[← HL.out]at q2;rw[← Htk.out]at q3;exact⟨J,aqo q1,aqo q2,aqo q3⟩
  have k16:=hs.k0;have kl:=hs.tail.tail.k2;unfold pG at kl;have q:=xa (d:=d) (az:=1) (ch:=c.id) (sep:=c.low) hs;have Q:=aqo q;clear q hs;go_wp2_with fail
  refine(Q.out).mono ?_
  clear Q kl k16;rintro e w12 ⟨b,C,rfl,hr,hs⟩;have ho:uT K2 b bm bc d J (blk Ym (.cells #[.string c.low,.int .u64 c.id] 99)::ak (.slice Dw kO.length Yl) 99 2 kO.length (fM kO)::blk Vr (.cells (xx d g n5) 52)::blk b1 (.cells (pG d) 29)::blk b0 (.cells (pG d) 26)::[]) 0 4940 w12:=uT.start HJ0.out hr (hs.perm (List.Perm.append_left _ (afv _ _ _ _ _)));clear hs hr HJ0;go_wp2
  go_loopw [18] (fun vn wr=>∃ (n m:Nat),n+m<=4940/\vn=.int .i64 ((n+1:Nat):Int)/\uT K2 b bm bc d J (blk Ym (.cells #[.string c.low,.int .u64 c.id] 99)::ak (.slice Dw kO.length Yl) 99 2 kO.length (fM kO)::blk Vr (.cells (xx d g n5) 52)::blk b1 (.cells (pG d) 29)::blk b0 (.cells (pG d) 26)::[]) n m wr) (fun v _=>5000-(intOf v).toNat)
  case atStart=>exact⟨0,4940,by omega,rfl,ho⟩
  case round=>
   clear ho;obtain⟨n,m,hnm,rfl,ho⟩:=hrel;have q:=HJ.out.go hd.out (by omega) ho
   have Q:=aqo q;clear q ho;have hn2:((n+1:Nat):Int)<5000:=by omega
   go_wp2_with fail
   refine(Q.out).mono ?_
   clear Q;rintro e w13 (⟨rfl,h⟩|⟨rfl,m',hm,h⟩)
   ·clear HJ
    obtain⟨L',s,m,hJ,iV,hs⟩:=h;obtain⟨Vd,t',hG',Ip⟩:=HJe.out L' s m hJ iV;have HG' := aqo hG';obtain⟨po,yZ⟩:∃ po,po=s.f.po:=⟨_,rfl⟩;rw[← yZ]at Ip Vd;have Hpo:=aqo yZ;have afz:=aqo Ip;have afA:=aqo Vd;obtain⟨pf,hpf⟩:∃ pf,pf=s.f:=⟨_,rfl⟩;rw[← hpf]at hs Hpo;clear hG' Ip Vd yZ hJ iV HJe hpf;have hs:St K2 w13 (blk b (.cells (.nilFunc :: .bool true::bj d pf).toArray 167)::aJ bm bc L' (n+1)::blk Ym (.cells #[.string c.low,.int .u64 c.id] 99)::ak (.slice Dw kO.length Yl) 99 2 kO.length (fM kO)::blk Vr (.cells (xx d g n5) 52)::blk b1 (.cells (pG d) 29)::blk b0 (.cells (pG d) 26)::[]):=hs;have kc:=hs.tail.tail.tail.tail.k2;unfold pG at kc;have q:=uE (d:=d) hs.b1;have Q:=aqo q;clear hs q;go_wp2_with fail
    refine(Q.out).mono ?_
    clear Q kc;rintro e w14 ⟨g2,rfl,xN,hg2,hs⟩;obtain⟨K3,hK3⟩:∃ K3,K3=K2.add g2 (.cells (flat L').toArray 63):=⟨_,rfl⟩;rw[← hK3]at xN hg2 hs;clear hK3;have afB:=aqo (Vm.out.trans xN);have Hg2:=aqo hg2;have hs:=hs.made (.cells #[.int .i64 (d).th,.int .i64 (d).sn,.int .i64 (d).no,.int .i64 (d).ch,.int .i64 (d).re,.int .i64 (d).fa,.int .u64 (d).cl,.slice (some ⟨g2,0,none⟩) L'.length L'.length] 52);obtain⟨b19,acj⟩:∃ b,b=w14.heap.size:=⟨_,rfl⟩;obtain⟨hl6,q1,q2,q3⟩:=Io hd.out hch.out HG'.out HF.out.2 hg2;obtain⟨_,_,q4,_⟩:=Io hd.out hch.out HG.out HF.out.2 (xN.map g _ Hg.out);obtain⟨vX,ack⟩:∃ tk,tk=fV l0 (t'[1]?.getD []):=⟨_,rfl⟩;rw[← ack]at q1;have Ip:=afz.out;rw[← ack]at Ip;have afD:L'.length=n5:=by have h1:=HG.out.eW;have h2:=HG'.out.eW;have h3:=Hn5.out;omega
    rw[← Hn5.out]at q4;rw[afD]at hs q1 q2 q3;have Qt:=aqo q1;have Qk1:=aqo q2;have Qk2:=aqo q4;have afE:=aqo q3;have Hkl:Hid (ks.length<=100000000):=aqo (by have:=HF.out.2;omega)
    have Hc2:Hid ((kO.length:Int)=(vX.length:Nat)+(if pf.po then 1 else 0)):=aqo (by rw[← Ip,Hpo.out];split <;> omega)
    have alL:vX.length<=4096:=by omega
    clear q1 q2 q3 q4 xN hg2 hl6 Ip ack HL HF afz HG';go_upto_region 18 with(fail)
    rw[← acj];rw[← acj]at hs;clear acj afD;refine cR hs ?_
    clear hs;intro w15 hs;have hs:St K3 w15 (blk b (.cells (.nilFunc :: .bool true::bj d pf).toArray 167)::aJ bm bc L' (n+1)::blk b19 (.cells (xx d g2 n5) 52)::blk Vr (.cells (xx d g n5) 52)::blk Ym (.cells #[.string c.low,.int .u64 c.id] 99)::ak (.slice Dw kO.length Yl) 99 2 kO.length (fM kO)::blk b1 (.cells (pG d) 29)::blk b0 (.cells (pG d) 26)::[]):=(show St K3 w15 (_::_::_::_::_::_::_::_::[])from hs).re [2,1,0,5,3,4,6,7] rfl
    go_upto_region 19 with(fail)
    go_cut [84]from 83 to 84 (fun v wx=>v=.bool pf.po/\St K3 wx (blk b (.cells (.nilFunc :: .bool true::bj d pf).toArray 167)::aJ bm bc L' (n+1)::blk b19 (.cells (xx d g2 n5) 52)::blk Vr (.cells (xx d g n5) 52)::blk Ym (.cells #[.string c.low,.int .u64 c.id] 99)::ak (.slice Dw kO.length Yl) 99 2 kO.length (fM kO)::blk b1 (.cells (pG d) 29)::blk b0 (.cells (pG d) 26)::[]))
    case first=>
     as_aux_lemma=>
     have q:=rk hs;have Q:=aqo q;have Hs:=aqo hs;clear q hs;go_wp2_with fail
     refine(Q.out).mono ?_
     clear Q;rintro e w16 ⟨rfl,rfl⟩;go_wp2
     go_meet;exact⟨rfl,Hs.out⟩
    case rest=>
    clear hs;obtain⟨rfl,hs⟩:=hcut;apply_assumption
    go_cut [20]from 84 to 86 (fun v wx=>v=.int .i64 (vX.length:Nat)/\St K3 wx (blk b (.cells (.nilFunc :: .bool true::bj d pf).toArray 167)::aJ bm bc L' (n+1)::blk b19 (.cells (xx d g2 n5) 52)::blk Vr (.cells (xx d g n5) 52)::blk Ym (.cells #[.string c.low,.int .u64 c.id] 99)::ak (.slice Dw kO.length Yl) 99 2 kO.length (fM kO)::blk b1 (.cells (pG d) 29)::blk b0 (.cells (pG d) 26)::[]))
    case first=>
     as_aux_lemma=>
     have hc2:=Hc2.out;obtain⟨po,yZ⟩:∃ po,po=pf.po:=⟨_,rfl⟩;rw[← yZ]at hc2 ⊢;clear yZ;cases po with
     | true=>
      have hc3:(kO.length:Int)-1=(vX.length:Nat):=by simp at hc2;omega
      clear hc2;go_wp2
      go_meet;exact⟨by go_num,hs⟩
     | false=>
      have hc3:(kO.length:Int)=(vX.length:Nat):=by simp at hc2;omega
      clear hc2;go_wp2
      go_meet;exact⟨by rw[hc3],hs⟩
    case rest=>
    clear hs;obtain⟨rfl,hs⟩:=hcut;apply_assumption
    have hn2:((n+1:Nat):Int)<5000:=by omega
    clear Hc2;cases bare with
    | true=>
     as_aux_lemma=>
     have Hpf:Hid (pf.po=false):=aqo (by rw[← Hpo.out];exact afA.out rfl)
     go_upto_region 21 with(fail)
     obtain⟨RS,hRS⟩:∃ R:List aB,R=(blk b (.cells (.nilFunc :: .bool true::bj d pf).toArray 167)::aJ bm bc L' (n+1)::blk b19 (.cells (xx d g2 n5) 52)::blk Vr (.cells (xx d g n5) 52)::blk Ym (.cells #[.string c.low,.int .u64 c.id] 99)::ak (.slice Dw kO.length Yl) 99 2 kO.length (fM kO)::blk b1 (.cells (pG d) 29)::blk b0 (.cells (pG d) 26)::[]):=⟨_,rfl⟩;rw[← hRS]at hs;have HRS:=aqo hRS;have Hs:=aqo hs;clear hs hRS;refine cY [false,false,false,false,false,false,false,false,false,false,false,false,false,false,false,false,false,true,true,false,false,false,false,false,true,false,true,true,false,false] (fun|18=>some (.int .i64 (vX.length:Nat))|27=>some (.bool true)|_=>none) [17,18,24,26,27] (fun|18=>[17] | 27=>[24,26] | _=>[])
      (GR K3 RS [17,18,24,26,27] (jx vX ks 17 18 24 26))
      (fun W=>St K3 W RS) ?ajR (by kernel_rfl) ?ab1 ?raH ?Ug ?ab2 ?ab3 ?ab4 ?ab5 ?ab6
     case ab1=>as_aux_lemma=>kernel_rfl
     case raH=>
      intro W2 hs;rw[HRS.out]at hs;have k19:=hs.k2;unfold xx at k19;have k14:=hs.tail.k2;unfold xx at k14;have Qz:=aqo (fun W (hy:∃ x:Ext,W=over W2 x)=>afE.out W ((hs.same (Pure.below hy)).jM g2 _ Hg2.out))
      have Qp:=aqo (fun W (hy:∃ x:Ext,W=over W2 x)=>rk (hs.same (Pure.below hy)))
      rw[Hpf.out]at Qp;clear hs;simp only[cM];repeat (go_big_quiet_step (first|(go_at_call 61;exact dJ (Qp.out _ ⟨_,rfl⟩))|(go_at_call 24;exact aW (Qz.out _ ⟨_,rfl⟩))))
      refine wpQuiet_nil ?_
      rfl
     case Ug=>rfl
     case ab2=>exact GR.start Hs.out
     case ab3=>exact fun ρ W2 h=>h.rest
     case ab4=>exact fun ρ W2 W3 h hb=>h.same hb
     case ab5=>
      refine⟨?afI,?afJ,?afK,?afL,?afM,trivial⟩;case afI=>
       intro o ho ρ W2 h hcl Es hd2 act cj;obtain rfl:=aqu ho;replace cj:act=aj _ ρ [] _:=cj;obtain⟨C,R',hx1,hs,hnext⟩:=h.step jx.mono 17 [] (by decide) (by decide) (by decide) Es (by simp)
       simp only[aj]at cj;subst cj;have Hn:=aqo hnext;clear hnext hx1 h hcl hd2 Es;go_wp2_with fail
       refine(Qt.out _ _ hs).mono ?_
       rintro e W3 ⟨va8,rfl,hs'⟩;obtain⟨a8,c8,rfl,_,_⟩:=hs'.aF;have dZ:=aqo hs';clear hs hs';go_wp2
       exact⟨rfl,_,rfl,fun u hu=>(by cases hu),Hn.out _ _ W3 ⟨a8,c8,rfl,rfl⟩ dZ.out⟩
      case afJ=>
       intro o ho ρ W2 h hcl ru hd2 act cj;obtain rfl:=aqu ho;replace cj:act=aj _ ρ [17] _:=cj;obtain⟨v17,Es⟩:=aqr.1 (hd2 17 (by show _∈[17];simp))
       obtain⟨Vk,R8,hp8,Yh⟩:=h.at 17 (by simp) Es
       obtain⟨a8,c8,rfl,rfl⟩:∃ a c,v17=.slice a vX.length c/\Vk=[ak (.slice a vX.length c) 99 2 vX.length (fM vX)]:=hp8;simp only[aj,Es,Option.getD_some,aL,Act.put,aqv]at cj;subst cj;have H:=aqo (h.jM jx.mono 18 (by decide) (by simp) ru (.int .i64 (vX.length:Nat)) (show _=_/\_=_ from⟨rfl,rfl⟩))
       clear h Yh hcl hd2 ru Es;go_wp2
       exact⟨rfl,_,rfl,fun u hu=>aqu hu,H.out⟩
      case afK=>
       intro o ho ρ W2 h hcl Iq hd2 act cj;obtain rfl:=aqu ho;replace cj:act=aj _ ρ [] _:=cj;obtain⟨C,R',hx1,hs,hnext⟩:=h.step jx.mono 24 [] (by decide) (by decide) (by decide) Iq (by simp)
       simp only[aj]at cj;subst cj;have Hn:=aqo hnext;clear hnext hx1 h hcl hd2 Iq;go_wp2_with fail
       refine(Qk1.out _ _ hs).mono ?_
       rintro e W3 ⟨va8,rfl,hs'⟩;obtain⟨a8,c8,rfl,_,_⟩:=hs'.aF;have dZ:=aqo hs';clear hs hs';go_wp2
       exact⟨rfl,_,rfl,fun u hu=>(by cases hu),Hn.out _ _ W3 ⟨a8,c8,rfl,rfl⟩ dZ.out⟩
      case afL=>
       intro o ho ρ W2 h hcl Ir hd2 act cj;obtain rfl:=aqu ho;replace cj:act=aj _ ρ [] _:=cj;obtain⟨C,R',hx1,hs,hnext⟩:=h.step jx.mono 26 [] (by decide) (by decide) (by decide) Ir (by simp)
       simp only[aj]at cj;subst cj;have Hn:=aqo hnext;clear hnext hx1 h hcl hd2 Ir;go_wp2_with fail
       refine(Qk2.out _ _ hs).mono ?_
       rintro e W3 ⟨va8,rfl,hs'⟩;obtain⟨a8,c8,rfl,_,_⟩:=hs'.aF;have dZ:=aqo hs';clear hs hs';go_wp2
       exact⟨rfl,_,rfl,fun u hu=>(by cases hu),Hn.out _ _ W3 ⟨a8,c8,rfl,rfl⟩ dZ.out⟩
      case afM=>
       intro o ho ρ W2 h hcl h27 hd2 act cj;obtain rfl:=aqu ho;replace cj:act=aj _ ρ [24,26] _:=cj;obtain⟨v24,Iq⟩:=aqr.1 (hd2 24 (by show _∈[24,26];simp))
       obtain⟨v26,Ir⟩:=aqr.1 (hd2 26 (by show _∈[24,26];simp))
       obtain⟨C,R',hx1,hs,hnext⟩:=h.step jx.mono 27 [24,26] (by decide) (by decide) (by decide) h27 (by intro d hd;rcases(by simpa using hd:d=24\/d=26)with rfl|rfl <;> simp[Iq,Ir])
       obtain⟨a8,c8,rfl,Zi⟩:∃ a c,v24=.slice a ks.length c/\C 24=[ak (.slice a ks.length c) 9 1 ks.length (bG ks)]:=hx1 24 v24 (by simp) Iq
       obtain⟨a9,c9,rfl,hC9⟩:∃ a c,v26=.slice a ks.length c/\C 26=[ak (.slice a ks.length c) 9 1 ks.length (bG ks)]:=hx1 26 v26 (by simp) Ir
       have hs:St K3 W2 (C 24++(C 26++[])++(RS++R')):=hs;rw[Zi,hC9]at hs;have hs:St K3 W2 (ak (.slice a8 ks.length c8) 9 1 ks.length (bG ks)::ak (.slice a9 ks.length c9) 9 1 ks.length (bG ks)::(RS++R')):=hs;have q:=uS rfl Hkl.out hs;have hn2:∀ W',St K3 W' (ak (.slice a8 ks.length c8) 9 1 ks.length (bG ks)::ak (.slice a9 ks.length c9) 9 1 ks.length (bG ks)::(RS++R'))->GR K3 RS [17,18,24,26,27] (jx vX ks 17 18 24 26) (upd ρ 27 (.bool true)) W' := fun W' h' => hnext (.bool true) [] W' (show _=_/\_=_ from⟨rfl,rfl⟩) (by
        show St K3 W' (C 24++(C 26++[])++(RS++R'))
        rw[Zi,hC9];exact h')
       have Q:=aqo q;have Hn:=aqo hn2;simp only[aj,Iq,Ir,Option.getD_some,aL,Act.put,aqv]at cj;subst cj;clear hs q hn2 hnext hx1 h hcl hd2 h27 Iq Ir Zi hC9;go_wp2_with fail
       refine(Q.out).mono ?_
       rintro e W3 ⟨rfl,hs'⟩;have dZ:=aqo hs';clear hs';go_wp2
       exact⟨rfl,_,rfl,fun u hu=>aqu hu,Hn.out W3 dZ.out⟩
     case ab6=>
      intro ρ W2 h hall;have hs:=h.rest;rw[HRS.out]at hs;clear h;simp only[aj,Option.getD_some,aL,Act.put,aqv];go_wp2
      go_ret;exact⟨rfl,hs.below afB.out⟩
    | false=>
     as_aux_lemma=>
     go_upto_region 21 with(fail)
     obtain⟨RS,hRS⟩:∃ R:List aB,R=(blk b (.cells (.nilFunc :: .bool true::bj d pf).toArray 167)::aJ bm bc L' (n+1)::blk b19 (.cells (xx d g2 n5) 52)::blk Vr (.cells (xx d g n5) 52)::blk Ym (.cells #[.string c.low,.int .u64 c.id] 99)::ak (.slice Dw kO.length Yl) 99 2 kO.length (fM kO)::blk b1 (.cells (pG d) 29)::blk b0 (.cells (pG d) 26)::[]):=⟨_,rfl⟩;rw[← hRS]at hs;have HRS:=aqo hRS;have Hs:=aqo hs;clear hs hRS;refine cY [false,false,false,false,false,false,false,false,false,false,false,false,false,false,false,false,false,true,true,false,false,false,false,false,true,false,true,true,false,false] (fun|18=>some (.int .i64 (vX.length:Nat))|27=>some (.bool true)|_=>none) [17,18,24,26,27] (fun|18=>[17] | 27=>[24,26] | _=>[])
      (GR K3 RS [17,18,24,26,27] (jx vX ks 17 18 24 26))
      (fun W=>St K3 W RS) ?afc (by kernel_rfl) ?Uh ?rbH ?Dt ?Ui ?Uj ?Uk ?Ul ?Um
     case Uh=>as_aux_lemma=>kernel_rfl
     case rbH=>
      intro W2 hs;rw[HRS.out]at hs;have k19:=hs.k2;unfold xx at k19;have k14:=hs.tail.k2;unfold xx at k14;have Qz:=aqo (fun W (hy:∃ x:Ext,W=over W2 x)=>afE.out W ((hs.same (Pure.below hy)).jM g2 _ Hg2.out))
      clear hs;simp only[cM];repeat (go_big_quiet_step ((go_at_call 24;exact aW (Qz.out _ ⟨_,rfl⟩))))
      refine wpQuiet_nil ?_
      rfl
     case Dt=>rfl
     case Ui=>exact GR.start Hs.out
     case Uj=>exact fun ρ W2 h=>h.rest
     case Uk=>exact fun ρ W2 W3 h hb=>h.same hb
     case Ul=>
      refine⟨?afO,?afP,?afQ,?afR,?afS,trivial⟩;case afO=>
       intro o ho ρ W2 h hcl Es hd2 act cj;obtain rfl:=aqu ho;replace cj:act=aj _ ρ [] _:=cj;obtain⟨C,R',hx1,hs,hnext⟩:=h.step jx.mono 17 [] (by decide) (by decide) (by decide) Es (by simp)
       simp only[aj]at cj;subst cj;have Hn:=aqo hnext;clear hnext hx1 h hcl hd2 Es;go_wp2_with fail
       refine(Qt.out _ _ hs).mono ?_
       rintro e W3 ⟨va8,rfl,hs'⟩;obtain⟨a8,c8,rfl,_,_⟩:=hs'.aF;have dZ:=aqo hs';clear hs hs';go_wp2
       exact⟨rfl,_,rfl,fun u hu=>(by cases hu),Hn.out _ _ W3 ⟨a8,c8,rfl,rfl⟩ dZ.out⟩
      case afP=>
       intro o ho ρ W2 h hcl ru hd2 act cj;obtain rfl:=aqu ho;replace cj:act=aj _ ρ [17] _:=cj;obtain⟨v17,Es⟩:=aqr.1 (hd2 17 (by show _∈[17];simp))
       obtain⟨Vk,R8,hp8,Yh⟩:=h.at 17 (by simp) Es
       obtain⟨a8,c8,rfl,rfl⟩:∃ a c,v17=.slice a vX.length c/\Vk=[ak (.slice a vX.length c) 99 2 vX.length (fM vX)]:=hp8;simp only[aj,Es,Option.getD_some,aL,Act.put,aqv]at cj;subst cj;have H:=aqo (h.jM jx.mono 18 (by decide) (by simp) ru (.int .i64 (vX.length:Nat)) (show _=_/\_=_ from⟨rfl,rfl⟩))
       clear h Yh hcl hd2 ru Es;go_wp2
       exact⟨rfl,_,rfl,fun u hu=>aqu hu,H.out⟩
      case afQ=>
       intro o ho ρ W2 h hcl Iq hd2 act cj;obtain rfl:=aqu ho;replace cj:act=aj _ ρ [] _:=cj;obtain⟨C,R',hx1,hs,hnext⟩:=h.step jx.mono 24 [] (by decide) (by decide) (by decide) Iq (by simp)
       simp only[aj]at cj;subst cj;have Hn:=aqo hnext;clear hnext hx1 h hcl hd2 Iq;go_wp2_with fail
       refine(Qk1.out _ _ hs).mono ?_
       rintro e W3 ⟨va8,rfl,hs'⟩;obtain⟨a8,c8,rfl,_,_⟩:=hs'.aF;have dZ:=aqo hs';clear hs hs';go_wp2
       exact⟨rfl,_,rfl,fun u hu=>(by cases hu),Hn.out _ _ W3 ⟨a8,c8,rfl,rfl⟩ dZ.out⟩
      case afR=>
       intro o ho ρ W2 h hcl Ir hd2 act cj;obtain rfl:=aqu ho;replace cj:act=aj _ ρ [] _:=cj;obtain⟨C,R',hx1,hs,hnext⟩:=h.step jx.mono 26 [] (by decide) (by decide) (by decide) Ir (by simp)
       simp only[aj]at cj;subst cj;have Hn:=aqo hnext;clear hnext hx1 h hcl hd2 Ir;go_wp2_with fail
       refine(Qk2.out _ _ hs).mono ?_
       rintro e W3 ⟨va8,rfl,hs'⟩;obtain⟨a8,c8,rfl,_,_⟩:=hs'.aF;have dZ:=aqo hs';clear hs hs';go_wp2
       exact⟨rfl,_,rfl,fun u hu=>(by cases hu),Hn.out _ _ W3 ⟨a8,c8,rfl,rfl⟩ dZ.out⟩
      case afS=>
       intro o ho ρ W2 h hcl h27 hd2 act cj;obtain rfl:=aqu ho;replace cj:act=aj _ ρ [24,26] _:=cj;obtain⟨v24,Iq⟩:=aqr.1 (hd2 24 (by show _∈[24,26];simp))
       obtain⟨v26,Ir⟩:=aqr.1 (hd2 26 (by show _∈[24,26];simp))
       obtain⟨C,R',hx1,hs,hnext⟩:=h.step jx.mono 27 [24,26] (by decide) (by decide) (by decide) h27 (by intro d hd;rcases(by simpa using hd:d=24\/d=26)with rfl|rfl <;> simp[Iq,Ir])
       obtain⟨a8,c8,rfl,Zi⟩:∃ a c,v24=.slice a ks.length c/\C 24=[ak (.slice a ks.length c) 9 1 ks.length (bG ks)]:=hx1 24 v24 (by simp) Iq
       obtain⟨a9,c9,rfl,hC9⟩:∃ a c,v26=.slice a ks.length c/\C 26=[ak (.slice a ks.length c) 9 1 ks.length (bG ks)]:=hx1 26 v26 (by simp) Ir
       have hs:St K3 W2 (C 24++(C 26++[])++(RS++R')):=hs;rw[Zi,hC9]at hs;have hs:St K3 W2 (ak (.slice a8 ks.length c8) 9 1 ks.length (bG ks)::ak (.slice a9 ks.length c9) 9 1 ks.length (bG ks)::(RS++R')):=hs;have q:=uS rfl Hkl.out hs;have hn2:∀ W',St K3 W' (ak (.slice a8 ks.length c8) 9 1 ks.length (bG ks)::ak (.slice a9 ks.length c9) 9 1 ks.length (bG ks)::(RS++R'))->GR K3 RS [17,18,24,26,27] (jx vX ks 17 18 24 26) (upd ρ 27 (.bool true)) W' := fun W' h' => hnext (.bool true) [] W' (show _=_/\_=_ from⟨rfl,rfl⟩) (by
        show St K3 W' (C 24++(C 26++[])++(RS++R'))
        rw[Zi,hC9];exact h')
       have Q:=aqo q;have Hn:=aqo hn2;simp only[aj,Iq,Ir,Option.getD_some,aL,Act.put,aqv]at cj;subst cj;clear hs q hn2 hnext hx1 h hcl hd2 h27 Iq Ir Zi hC9;go_wp2_with fail
       refine(Q.out).mono ?_
       rintro e W3 ⟨rfl,hs'⟩;have dZ:=aqo hs';clear hs';go_wp2
       exact⟨rfl,_,rfl,fun u hu=>aqu hu,Hn.out W3 dZ.out⟩
     case Um=>
      intro ρ W2 h hall;have hs:=h.rest;rw[HRS.out]at hs;clear h;simp only[aj,Option.getD_some,aL,Act.put,aqv];go_wp2
      go_ret;exact⟨rfl,hs.below afB.out⟩
   ·go_wp2
    go_roundw
    case rel=>exact⟨n+1,m',by omega,by go_num,h⟩
    case measure=>simp[intOf];omega
end Go.Proofs.YtlpdhhhgckpcfaaGreat
