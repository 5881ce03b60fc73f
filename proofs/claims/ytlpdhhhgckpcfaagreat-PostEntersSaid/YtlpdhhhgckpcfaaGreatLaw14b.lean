/- The walk of PostEnters.. -/
import Derived.Test.YtlpdhhhgckpcfaaGreatPoRd
namespace Go.Proofs.YtlpdhhhgckpcfaaGreat
set_option linter.unusedSimpArgs false
set_option linter.unusedVariables false
open Go.RowKit
set_option maxHeartbeats 16000000
set_option maxRecDepth 100000
section
theorem sS (a:Option Addr)(len cap:Nat)(f:Nat->ByteArray)(fanout sh:Int)(bare:Bool)(which:Int)(hsh:0<=sh/\sh<18446744073709551616)(w:World)(hz:yU w a len f) :
  Calls Tryz.prog 10 #[.slice a len cap,.int .i64 fanout,.int .u64 sh,.bool bare,.int .i64 which] w fun e w' => e=.returned (.bool true)/\Below w.heap.size w w' := by
 obtain⟨d,hd,rO,hno,hch,Q1,Q2⟩:=Wc fanout;have hl:=hz.1;simp only[maxLen]at hl;have Hz:=aq3 hz;have Hsh:=aq3 hsh;have QA:=aq3 (fun(W:World) (cs:List aC) (h:St (aL.of w) W cs)=>Jk h)
 have hs:=St.start w;clear hz hsh;go_enter Tryz.func10,Tryz.ntmps10
 go_wp2_with fail
 refine(bH hs (Q1.out _)).mono ?_
 clear hs;rintro e w1 ⟨rfl,hs⟩;have hs:=hs.made (.cells #[.int .i64 d.th,.int .i64 d.sn,.int .i64 300,.int .i64 d.ch,.int .i64 d.re,.int .i64 d.fa,.int .u64 d.cl] 26);obtain⟨b0,hb0⟩:∃b,b=w1.heap.size:=⟨_,rfl⟩;go_upto_region 3 with(fail)
 rw[←hb0]at hs ⊢;clear hb0;refine cP hs ?_
 clear hs;intro w2 hs;have hs:St (aL.of w) w2 (blk b0 (.cells (mR d) 26)::[]):=hs.Qf (by unfold mR;rw[hno.out])
 have kc:=hs.k0;unfold mR at kc;go_wp2_with fail
 refine(Q2.out _ _ _ hs).mono ?_
 clear hs kc;rintro e w3 ⟨bm,bc,rfl,hs⟩;have hs:=hs.made (.cells #[.int .i64 (d).th,.int .i64 (d).sn,.int .i64 (d).no,.int .i64 (d).ch,.int .i64 (d).re,.int .i64 (d).fa,.int .u64 (d).cl] 29);obtain⟨b1,hb1⟩:∃b,b=w3.heap.size:=⟨_,rfl⟩;go_wp2_with fail
 rw[←hb1]at hs ⊢;clear hb1;refine(QA.out _ _ hs).mono ?_
 clear hs;rintro e w4 ⟨rfl,hs⟩;have hs:St (aL.of w) w4 (aJ bm bc (ck d) 0::blk b1 (.cells (mR d) 29)::blk b0 (.cells (mR d) 26)::[]):=hs.b1;have kc:=hs.k2;unfold mR at kc;have q:=Ox (a:=a) (len:=len) (cap:=cap) (f:=f) (bare:=bare) Hz.out hd.out rO.out (by have:=hno.out;omega) Hsh.out hs
 have Q:=aq3 q;clear q hs;generalize ck d=L00 at *;go_wp2_with fail
 refine(Q.out).mono ?_
 clear Q kc;rintro e w5 ⟨ks,l0,L0,t,rfl,HF,hs⟩;have HG:=aq3 HF.out.1.g;obtain⟨L,hL⟩:∃L,L=L0:=⟨_,rfl⟩;have HL:=aq3 hL;rw[←hL]at hs HG;clear hL;have kc:=hs.k2;unfold mR at kc;have q:=uQ (d:=d) hs;have Q:=aq3 q;clear hs q;go_wp2_with fail
 refine(Q.out).mono ?_
 clear Q kc;rintro e w7 ⟨g,rfl,hle,hg,hs⟩;obtain⟨K2,hK2⟩:∃K2,K2=(aL.of w).add g (.cells (flat L).toArray 63):=⟨_,rfl⟩;rw[←hK2]at hle hg hs;clear hK2;have Ks:=aq3 hle;have Hg:=aq3 hg;have hs:=hs.made (.cells #[.int .i64 (d).th,.int .i64 (d).sn,.int .i64 (d).no,.int .i64 (d).ch,.int .i64 (d).re,.int .i64 (d).fa,.int .u64 (d).cl,.slice (some ⟨g,0,none⟩) L.length L.length] 52);obtain⟨Ex,acM⟩:∃b,b=w7.heap.size:=⟨_,rfl⟩;obtain⟨hl6,q1,_,_⟩:=Jm hd.out hch.out HG.out HF.out.2 hg;have Qt:=aq3 q1;obtain⟨n5,Yg⟩:∃n,n=L.length:=⟨_,rfl⟩;have Hn5:=aq3 Yg;rw[←Yg]at hs Qt;clear q1 hle hg hl6;go_upto_region 8 with(fail)
 rw[←Yg,←acM];rw[←acM]at hs;clear acM Yg;refine cP hs ?_
 clear hs;intro w8 hs;have hs:St K2 w8 (blk Ex (.cells (sq d g n5) 52)::aJ bm bc L 0::blk b1 (.cells (mR d) 29)::blk b0 (.cells (mR d) 26)::[]):=hs;have kv:=hs.k0;unfold sq at kv;go_wp2_with fail
 refine(Qt.out _ _ hs).mono ?_
 clear hs kv Qt;rintro e w9 ⟨vt,rfl,hs⟩;obtain⟨wF,Oy,rfl,_,_⟩:=hs.aH;obtain⟨jk,lQ⟩:∃tk,tk=gu l0 (t[1]?.getD []):=⟨_,rfl⟩;rw[←lQ]at hs ⊢;have Htk:=aq3 lQ;clear lQ;have apQ:jk.length<=4096:=by
  rw[Htk.out];refine Nat.le_trans (List.length_filter_le _ _) ?_
  rw[List.length_drop];have h1:=List.cX HG.out.r0;have h2:=HG.out.ok.count;have h3:=HG.out.ok.n4;have:=hno.out;omega
 by_cases hk0:jk.length=0
 ·have hk1:((jk.length:Int) == 0)=true:=by rw[hk0];rfl
  go_wp2
  go_ret;exact⟨rfl,hs.below Ks.out⟩
 ·have hk1:((jk.length:Int) == 0)=false:=by rw[beq_eq_false_iff_ne];omega
  obtain⟨j,hj,hjl⟩:∃j:Nat,which%(jk.length:Int)=j/\j<jk.length:=by
   have h1:=Int.emod_nonneg which (show(jk.length:Int)≠0 by omega)
   have h2:=Int.emod_lt_of_pos which (show(0:Int)<(jk.length:Int)by omega)
   obtain⟨z,hz⟩:∃z,z=which%(jk.length:Int):=⟨_,rfl⟩;rw[←hz]at h1 h2 ⊢;exact⟨z.toNat,by omega,by omega⟩
  have QM:=aq3 (fun W=>Jp which (jk.length:Int) (by omega) (by omega) W)
  rw[hj]at QM;obtain⟨c,hc⟩:∃c,jk[j]?=some c:=⟨_,aq8 hjl⟩;obtain⟨r0,r1⟩:=Ej jk j c hc;obtain⟨ga,rfl,_⟩:=(show St K2 w9 (az _ _ _ _ _::_)from hs).cQ r0
  have Hc:=aq3 (show c∈l0.drop 1/\¬ pQ t 1 c.id from afR (by rw[←Htk.out];exact hc))
  have c0:=(show St K2 w9 (az _ _ _ _ _::_)from hs).bK r0
  have c1:=(show St K2 w9 (az _ _ _ _ _::_)from hs).bK r1
  clear hj r0 r1 hc;go_wp2_with fail
  refine(QM.out _).mono ?_
  rintro e w10 ⟨rfl,rfl⟩;have hs:=hs.made (.cells #[.string c.low,.int .u64 c.id] 99);obtain⟨Oz,afT⟩:∃b,b=w9.heap.size:=⟨_,rfl⟩;go_upto_region 12 with(fail)
  rw[←afT]at hs ⊢;clear afT;refine cP hs ?_
  clear hs c0 c1 QM hk1;intro w11 hs;have hs:St K2 w11 (blk Oz (.cells #[.string c.low,.int .u64 c.id] 99)::az (.slice (some ⟨ga,0,none⟩) jk.length Oy) 99 2 jk.length (fc jk)::blk Ex (.cells (sq d g n5) 52)::aJ bm bc L 0::blk b1 (.cells (mR d) 29)::blk b0 (.cells (mR d) 26)::[]):=hs;obtain⟨wF,afU⟩:∃a,a=some (⟨ga,0,none⟩:Addr):=⟨_,rfl⟩;rw[←afU]at hs ⊢;clear afU;have HR0:Hid (PeR d ks l0 c jk.length 0 L t):=aq3 (by
   obtain⟨B,hB⟩:=HF.out.1.begin (by have:=hno.out;omega)
   rw[←HL.out]at hB;exact⟨HG.out,fun _=>⟨⟨B,hB⟩,Hc.out.2,by rw[Htk.out]⟩,fun h=>by omega⟩)
  have acO:=aq3 HF.out.2;clear HF HL HG Htk;go_upto_region 12 with(fail)
  go_cut [17]from 999 to 0 (fun v wx=>v=.int .i64 0/\St K2 wx (blk Oz (.cells #[.string c.low,.int .u64 c.id] 99)::az (.slice wF jk.length Oy) 99 2 jk.length (fc jk)::blk Ex (.cells (sq d g n5) 52)::aJ bm bc L 0::blk b1 (.cells (mR d) 29)::blk b0 (.cells (mR d) 26)::[]))
  case first=>
   as_aux_lemma=>
   go_wp2
   go_meet;exact⟨rfl,hs⟩
  case rest=>
  clear hs;obtain⟨rfl,hs⟩:=hcut;apply_assumption
  go_wp2
  go_loopw [17] (fun v wr=>∃(r acc:Nat) (K2:aL) (g:Nat) (L:List aO) (t:List (List Nd)),v=.int .i64 r/\r<=2/\acc<=r*5000/\Hid ((aL.of w).Le K2)/\Hid (K2.map g=some (.cells (flat L).toArray 63))/\Hid (n5=L.length)/\Hid (PeR d ks l0 c jk.length r L t) /\
   St K2 wr (blk Oz (.cells #[.string c.low,.int .u64 c.id] 99)::az (.slice wF jk.length Oy) 99 2 jk.length (fc jk)::blk Ex (.cells (sq d g n5) 52)::aJ bm bc L acc::blk b1 (.cells (mR d) 29)::blk b0 (.cells (mR d) 26)::[])) (fun v _=>2-(intOf v).toNat)
  case atStart=>exact⟨0,0,K2,g,L,t,rfl,by omega,by omega,Ks,Hg,Hn5,HR0,hs⟩
  case round=>
   clear hs HR0 Hg Ks Hn5;obtain⟨r,acc,K2,g,L,t,rfl,hr2,hacc,Ks,Hg,Hn5,HR,hs⟩:=hrel;by_cases hr:r<2
   ·obtain⟨J,HJ,HJ0,HJe⟩:∃J,Hid (PoJ d J)/\Hid (J L (Pj ⟨1,c.low,c.id,false⟩) 4940)/\Hid (∀L' s m,J L' s m->s.pc=14->s.f.po=true/\(1<=r->L'=L)/\∃t',PeR d ks l0 c jk.length (r+1) L' t'):=by
     obtain⟨J,q1,q2,q3⟩:=HR.out.go hd.out rO.out hno.out Hc.out.1;exact⟨J,aq3 q1,aq3 q2,aq3 q3⟩
    have k16:=hs.k0;have kl:=hs.tail.tail.k2;unfold mR at kl;have q:=xB (d:=d) (ak:=1) (ch:=c.id) (sep:=c.low) hs;have Q:=aq3 q;have hr3:(r:Int)<2:=by omega
    clear q hs;go_wp2_with fail
    refine(Q.out).mono ?_
    clear Q kl k16;rintro e w12 ⟨b,C,rfl,cS,hs⟩;have ho:vk K2 b bm bc d J (blk Oz (.cells #[.string c.low,.int .u64 c.id] 99)::az (.slice wF jk.length Oy) 99 2 jk.length (fc jk)::blk Ex (.cells (sq d g n5) 52)::blk b1 (.cells (mR d) 29)::blk b0 (.cells (mR d) 26)::[]) acc 4940 w12:=vk.start HJ0.out cS (hs.perm (List.Perm.append_left _ (aaJ _ _ _ _ _)));have Qa:=aq3 (rG (show bR w12 bm bc L acc from(hs.perm (List.perm_append_comm.trans (aaJ _ _ _ _ _))).mem))
    clear hs cS HJ0;go_wp2_with fail
    refine(Qa.out).mono ?_
    clear Qa;rintro e w13 ⟨rfl,rfl⟩;go_wp2
    go_loopw [19] (fun vn wr=>∃(n m:Nat),n+m<=4940/\vn=.int .i64 ((n+1:Nat):Int)/\vk K2 b bm bc d J (blk Oz (.cells #[.string c.low,.int .u64 c.id] 99)::az (.slice wF jk.length Oy) 99 2 jk.length (fc jk)::blk Ex (.cells (sq d g n5) 52)::blk b1 (.cells (mR d) 29)::blk b0 (.cells (mR d) 26)::[]) (acc+n) m wr) (fun v _=>5000-(intOf v).toNat)
    case atStart=>exact⟨0,4940,by omega,rfl,ho⟩
    case round=>
     clear ho;obtain⟨n,m,hnm,rfl,ho⟩:=hrel;have q:=HJ.out.go hd.out (by omega) ho
     have Q:=aq3 q;clear q ho;have hn2:((n+1:Nat):Int)<5000:=by omega
     go_wp2_with fail
     refine(Q.out).mono ?_
     clear Q;rintro e w13 (⟨rfl,h⟩|⟨rfl,m',hm,h⟩)
     ·clear HJ
      obtain⟨L',s,m,hJ,iH,hs⟩:=h;obtain⟨xO,hsame,t',hR'⟩:=HJe.out L' s m hJ iH;have HR' := aq3 hR';have aaK:=aq3 hsame;obtain⟨pf,hpf⟩:∃pf,pf=s.f:=⟨_,rfl⟩;rw[←hpf]at hs xO;have Hpf:=aq3 xO;clear hR' hJ iH HJe hpf xO hsame;have hs:St K2 w13 (blk b (.cells (.nilFunc :: .bool true::bg d pf).toArray 167)::aJ bm bc L' (acc+n+1)::blk Oz (.cells #[.string c.low,.int .u64 c.id] 99)::az (.slice wF jk.length Oy) 99 2 jk.length (fc jk)::blk Ex (.cells (sq d g n5) 52)::blk b1 (.cells (mR d) 29)::blk b0 (.cells (mR d) 26)::[]):=hs;have kc:=hs.tail.tail.tail.tail.k2;unfold mR at kc;have q:=uQ (d:=d) hs.b1;have Q:=aq3 q;clear hs q;go_wp2_with fail
      refine(Q.out).mono ?_
      clear Q kc;rintro e w14 ⟨g2,rfl,vJ,hg2,hs⟩;obtain⟨K3,hK3⟩:∃K3,K3=K2.add g2 (.cells (flat L').toArray 63):=⟨_,rfl⟩;rw[←hK3]at vJ hg2 hs;clear hK3;have afW:=aq3 (Ks.out.trans vJ);have Hg2:=aq3 hg2;have Hg3:=aq3 (vJ.map g _ Hg.out);have hs:=hs.made (.cells #[.int .i64 (d).th,.int .i64 (d).sn,.int .i64 (d).no,.int .i64 (d).ch,.int .i64 (d).re,.int .i64 (d).fa,.int .u64 (d).cl,.slice (some ⟨g2,0,none⟩) L'.length L'.length] 52);obtain⟨b19,acP⟩:∃b,b=w14.heap.size:=⟨_,rfl⟩;obtain⟨hl6,q1,q2,q3⟩:=Jm hd.out hch.out HR'.out.g acO.out hg2;obtain⟨_,_,q4,_⟩:=Jm hd.out hch.out HR.out.g acO.out (vJ.map g _ Hg.out);obtain⟨Zp,acQ⟩:∃tk,tk=gu l0 (t'[1]?.getD []):=⟨_,rfl⟩;rw[←acQ]at q1;have afY:=(HR'.out.nxt (by omega)).2
      rw[←acQ]at afY;have acR:L'.length=n5:=by have h1:=HR.out.g.eu;have h2:=HR'.out.g.eu;have h3:=Hn5.out;omega
      rw[←Hn5.out]at q4;rw[acR]at hs q1 q2 q3 hl6;have afZ:=aq3 acR.symm;have Qt:=aq3 q1;have Qk1:=aq3 q2;have Qk2:=aq3 q4;have af0:=aq3 q3;have Hkl:Hid (ks.length<=100000000):=aq3 (by have:=acO.out;omega)
      have Hc2:Hid ((jk.length:Int)-1=(Zp.length:Nat)):=aq3 (by omega)
      have xY:=aq3 hl6;clear q1 q2 q3 q4 vJ hg2 hl6 afY acQ;go_upto_region 20 with(fail)
      rw[←acP];rw[←acP]at hs;clear acP acR;refine cP hs ?_
      clear hs;intro w15 hs;have hs:St K3 w15 (blk b (.cells (.nilFunc :: .bool true::bg d pf).toArray 167)::aJ bm bc L' (acc+n+1)::blk b19 (.cells (sq d g2 n5) 52)::blk Ex (.cells (sq d g n5) 52)::blk Oz (.cells #[.string c.low,.int .u64 c.id] 99)::az (.slice wF jk.length Oy) 99 2 jk.length (fc jk)::blk b1 (.cells (mR d) 29)::blk b0 (.cells (mR d) 26)::[]):=(show St K3 w15 (_::_::_::_::_::_::_::_::[])from hs).re [2,1,0,5,3,4,6,7] rfl
      go_cut [119]from 82 to 119 (fun v wx=>v=.bool false/\St K3 wx (blk b (.cells (.nilFunc :: .bool true::bg d pf).toArray 167)::aJ bm bc L' (acc+n+1)::blk b19 (.cells (sq d g2 n5) 52)::blk Ex (.cells (sq d g n5) 52)::blk Oz (.cells #[.string c.low,.int .u64 c.id] 99)::az (.slice wF jk.length Oy) 99 2 jk.length (fc jk)::blk b1 (.cells (mR d) 29)::blk b0 (.cells (mR d) 26)::[]))
      case first=>
       as_aux_lemma=>
       have hge:¬ (5000:Int)<=((n+1:Nat):Int):=by omega
       have apU:decide ((5000:Int)<=((n:Int)+1))=false:=decide_eq_false (by omega)
       have hc2:=Hc2.out;have hw1:IntKind.u64.wrap ((n:Int)+1)=(n:Int)+1:=by rw[IntKind.wrap_u64];omega
       have hw2:IntKind.u64.wrap ((acc:Int)+((n:Int)+1))=(acc:Int)+((n:Int)+1):=by rw[IntKind.wrap_u64];omega
       have apV:decide ((acc:Int)+((n:Int)+1)<(acc:Int)+(n:Int)+1)=false:=decide_eq_false (by omega)
       obtain⟨RS,hRS⟩:∃R:List aC,R=(blk b (.cells (.nilFunc :: .bool true::bg d pf).toArray 167)::aJ bm bc L' (acc+n+1)::blk b19 (.cells (sq d g2 n5) 52)::blk Ex (.cells (sq d g n5) 52)::blk Oz (.cells #[.string c.low,.int .u64 c.id] 99)::az (.slice wF jk.length Oy) 99 2 jk.length (fc jk)::blk b1 (.cells (mR d) 29)::blk b0 (.cells (mR d) 26)::[]):=⟨_,rfl⟩;rw[←hRS]at hs;have HRS:=aq3 hRS;have Hs:=aq3 hs;clear hs hRS;refine dG [false,false,false,false,false,false,false,false,false,false,false,false,false,false,false,false,false,false,false,false,false,false,false,true,true,false,false,false,false,false,false,false,true,false,true,true,false,false] (fun|24=>some (.int .i64 (Zp.length:Nat))|35=>some (.bool true)|_=>none) [23,24,32,34,35] (fun|24=>[23] | 35=>[32,34] | _=>[])
        (GR K3 RS [23,24,32,34,35] (qP Zp ks 23 24 32 34))
        (fun W=>St K3 W RS) ?apW (by kernel_rfl) ?akE ?rxH ?af1 ?akF ?akG ?akH ?akI ?akJ
       case akE=>as_aux_lemma=>kernel_rfl
       case rxH=>
        intro W2 hs;rw[HRS.out]at hs;have Pn:=hs.k2;unfold sq at Pn;have k14:=hs.tail.k2;unfold sq at k14;have hm3:=(show St K3 W2 (aJ bm bc L' (acc+n+1)::_)from hs.b1).mem
        have Qz:=aq3 (fun W (hy:∃x:Ext,W=over W2 x)=>af0.out W ((hs.same (Pure.below hy)).jT g2 _ Hg2.out))
        have Qac:=aq3 (fun W (hy:∃x:Ext,W=over W2 x)=>rG (hm3.same (Pure.below hy)))
        have Qp:=aq3 (fun W (hy:∃x:Ext,W=over W2 x)=>xP (hs.same (Pure.below hy)))
        rw[Hpf.out]at Qp;clear hm3;clear hs;simp only[cN];repeat (go_big_quiet_step (first|(go_at_call 29;exact dz (Qac.out _ ⟨_,rfl⟩))|(go_at_call 61;exact dz (Qp.out _ ⟨_,rfl⟩))|(go_at_call 24;exact aX (Qz.out _ ⟨_,rfl⟩))))
        refine wpQuiet_nil ?_
        rfl
       case af1=>rfl
       case akF=>exact GR.start Hs.out
       case akG=>exact fun ρ W2 h=>h.rest
       case akH=>exact fun ρ W2 W3 h hb=>h.same hb
       case akI=>
        refine⟨?af2,?af4,?af5,?af6,?af7,trivial⟩;case af2=>
         intro o ho ρ W2 h hcl Kj hd2 act dD;obtain rfl:=aq9 ho;replace dD:act=aj _ ρ [] _:=dD;obtain⟨C,R',hx1,hs,hnext⟩:=h.step qP.mono 23 [] (by decide) (by decide) (by decide) Kj (by simp)
         simp only[aj]at dD;subst dD;have Hn:=aq3 hnext;clear hnext hx1 h hcl hd2 Kj;go_wp2_with fail
         refine(Qt.out _ _ hs).mono ?_
         rintro e W3 ⟨va8,rfl,hs'⟩;obtain⟨a8,c8,rfl,_,_⟩:=hs'.aH;have eG:=aq3 hs';clear hs hs';go_wp2
         exact⟨rfl,_,rfl,fun u hu=>(by cases hu),Hn.out _ _ W3 ⟨a8,c8,rfl,rfl⟩ eG.out⟩
        case af4=>
         intro o ho ρ W2 h hcl h24 hd2 act dD;obtain rfl:=aq9 ho;replace dD:act=aj _ ρ [23] _:=dD;obtain⟨v23,Kj⟩:=aq6.1 (hd2 23 (by show _∈[23];simp))
         obtain⟨Zz,R8,hp8,hs8⟩:=h.at 23 (by simp) Kj
         obtain⟨a8,c8,rfl,rfl⟩:∃a c,v23=.slice a Zp.length c/\Zz=[az (.slice a Zp.length c) 99 2 Zp.length (fc Zp)]:=hp8;simp only[aj,Kj,Option.getD_some,aM,Act.put,ara]at dD;subst dD;have H:=aq3 (h.jT qP.mono 24 (by decide) (by simp) h24 (.int .i64 (Zp.length:Nat)) (show _=_/\_=_ from⟨rfl,rfl⟩))
         clear h hs8 hcl hd2 h24 Kj;go_wp2
         exact⟨rfl,_,rfl,fun u hu=>aq9 hu,H.out⟩
        case af5=>
         intro o ho ρ W2 h hcl Yc hd2 act dD;obtain rfl:=aq9 ho;replace dD:act=aj _ ρ [] _:=dD;obtain⟨C,R',hx1,hs,hnext⟩:=h.step qP.mono 32 [] (by decide) (by decide) (by decide) Yc (by simp)
         simp only[aj]at dD;subst dD;have Hn:=aq3 hnext;clear hnext hx1 h hcl hd2 Yc;go_wp2_with fail
         refine(Qk1.out _ _ hs).mono ?_
         rintro e W3 ⟨va8,rfl,hs'⟩;obtain⟨a8,c8,rfl,_,_⟩:=hs'.aH;have eG:=aq3 hs';clear hs hs';go_wp2
         exact⟨rfl,_,rfl,fun u hu=>(by cases hu),Hn.out _ _ W3 ⟨a8,c8,rfl,rfl⟩ eG.out⟩
        case af6=>
         intro o ho ρ W2 h hcl h34 hd2 act dD;obtain rfl:=aq9 ho;replace dD:act=aj _ ρ [] _:=dD;obtain⟨C,R',hx1,hs,hnext⟩:=h.step qP.mono 34 [] (by decide) (by decide) (by decide) h34 (by simp)
         simp only[aj]at dD;subst dD;have Hn:=aq3 hnext;clear hnext hx1 h hcl hd2 h34;go_wp2_with fail
         refine(Qk2.out _ _ hs).mono ?_
         rintro e W3 ⟨va8,rfl,hs'⟩;obtain⟨a8,c8,rfl,_,_⟩:=hs'.aH;have eG:=aq3 hs';clear hs hs';go_wp2
         exact⟨rfl,_,rfl,fun u hu=>(by cases hu),Hn.out _ _ W3 ⟨a8,c8,rfl,rfl⟩ eG.out⟩
        case af7=>
         intro o ho ρ W2 h hcl h35 hd2 act dD;obtain rfl:=aq9 ho;replace dD:act=aj _ ρ [32,34] _:=dD;obtain⟨v32,Yc⟩:=aq6.1 (hd2 32 (by show _∈[32,34];simp))
         obtain⟨v34,h34⟩:=aq6.1 (hd2 34 (by show _∈[32,34];simp))
         obtain⟨C,R',hx1,hs,hnext⟩:=h.step qP.mono 35 [32,34] (by decide) (by decide) (by decide) h35 (by intro d hd;rcases(by simpa using hd:d=32\/d=34)with rfl|rfl <;> simp[Yc,h34])
         obtain⟨a8,c8,rfl,hC8⟩:∃a c,v32=.slice a ks.length c/\C 32=[az (.slice a ks.length c) 9 1 ks.length (bO ks)]:=hx1 32 v32 (by simp) Yc
         obtain⟨a9,c9,rfl,hC9⟩:∃a c,v34=.slice a ks.length c/\C 34=[az (.slice a ks.length c) 9 1 ks.length (bO ks)]:=hx1 34 v34 (by simp) h34
         have hs:St K3 W2 (C 32++(C 34++[])++(RS++R')):=hs;rw[hC8,hC9]at hs;have hs:St K3 W2 (az (.slice a8 ks.length c8) 9 1 ks.length (bO ks)::az (.slice a9 ks.length c9) 9 1 ks.length (bO ks)::(RS++R')):=hs;have q:=Ji rfl Hkl.out hs;have hn2:∀W',St K3 W' (az (.slice a8 ks.length c8) 9 1 ks.length (bO ks)::az (.slice a9 ks.length c9) 9 1 ks.length (bO ks)::(RS++R'))->GR K3 RS [23,24,32,34,35] (qP Zp ks 23 24 32 34) (upd ρ 35 (.bool true)) W' := fun W' h' => hnext (.bool true) [] W' (show _=_/\_=_ from⟨rfl,rfl⟩) (by
          show St K3 W' (C 32++(C 34++[])++(RS++R'))
          rw[hC8,hC9];exact h')
         have Q:=aq3 q;have Hn:=aq3 hn2;simp only[aj,Yc,h34,Option.getD_some,aM,Act.put,ara]at dD;subst dD;clear hs q hn2 hnext hx1 h hcl hd2 h35 Yc h34 hC8 hC9;go_wp2_with fail
         refine(Q.out).mono ?_
         rintro e W3 ⟨rfl,hs'⟩;have eG:=aq3 hs';clear hs';go_wp2
         exact⟨rfl,_,rfl,fun u hu=>aq9 hu,Hn.out W3 eG.out⟩
       case akJ=>
        intro ρ W2 h hall;have hs:=h.rest;rw[HRS.out]at hs;clear h;simp only[aj,Option.getD_some,aM,Act.put,ara];go_wp2
        go_meet;exact⟨rfl,hs⟩
      case rest=>
      clear hs Qt Qk1 Qk2 af0 Hkl Hc2;obtain⟨rfl,hs⟩:=hcut;apply_assumption
      rcases Nat.eq_zero_or_pos r with zv|zv
      ·subst zv
       as_aux_lemma=>
       clear aaK;have hs:=hs.b3;have Pn:=hs.tail.k2;unfold sq at Pn;have hs2:=hs.aaI #[.int .i64 (d).th,.int .i64 (d).sn,.int .i64 (d).no,.int .i64 (d).ch,.int .i64 (d).re,.int .i64 (d).fa,.int .u64 (d).cl,.slice (some ⟨g2,0,none⟩) n5 n5];go_upto_region 14 with(refine wpList_store_row rfl 52 _ _ rfl Ex #[.int .i64 (d).th,.int .i64 (d).sn,.int .i64 (d).no,.int .i64 (d).ch,.int .i64 (d).re,.int .i64 (d).fa,.int .u64 (d).cl,.slice (some ⟨g2,0,none⟩) n5 n5] rfl rfl 52 _ hs.head Wa (by rfl) (by kernel_rfl) ?_)
       refine cP hs2 ?_
       clear hs hs2 Pn;intro w17 hs;have hs:St K3 w17 (blk Oz (.cells #[.string c.low,.int .u64 c.id] 99)::az (.slice wF jk.length Oy) 99 2 jk.length (fc jk)::blk Ex (.cells (sq d g2 n5) 52)::aJ bm bc L' (acc+n+1)::blk b1 (.cells (mR d) 29)::blk b0 (.cells (mR d) 26)::[]):=((show St K3 w17 (blk Ex (.cells (sq d g2 n5) 52)::blk b (.cells (.nilFunc :: .bool true::bg d pf).toArray 167)::aJ bm bc L' (acc+n+1)::blk b19 (.cells (sq d g2 n5) 52)::blk Oz (.cells #[.string c.low,.int .u64 c.id] 99)::az (.slice wF jk.length Oy) 99 2 jk.length (fc jk)::blk b1 (.cells (mR d) 29)::blk b0 (.cells (mR d) 26)::[])from hs).re [1,3,4,5,0,2,6,7] rfl).tail.tail
       go_wp2
       go_roundw
       case rel=>exact⟨1,acc+n+1,K3,g2,L',t',by go_num,by omega,by omega,afW,Hg2,afZ,HR',hs⟩
       case measure=>simp[intOf]
      ·obtain rfl:r=1:=by omega
       as_aux_lemma=>
       have hL2:L'=L:=aaK.out (by omega)
       have q:=fun W h1 h2=>Jj W g2 g L (by have:=Hn5.out;have:=xY.out;omega) h1 h2
       rw[←Hn5.out]at q;have acT:=Hg2.out;rw[hL2]at acT;have Q:=aq3 (q _ (hs.jT g2 _ acT) (hs.jT g _ Hg3.out));have Pn:=hs.k2;unfold sq at Pn;have k14:=hs.tail.k2;unfold sq at k14;clear q acT hL2;go_wp2_with fail
       refine(Q.out).mono ?_
       clear Q Pn k14;rintro e w16 ⟨rfl,hb⟩;have hs:=hs.same hb;clear hb;have hs:=hs.b3;have Pn:=hs.tail.k2;unfold sq at Pn;have hs2:=hs.aaI #[.int .i64 (d).th,.int .i64 (d).sn,.int .i64 (d).no,.int .i64 (d).ch,.int .i64 (d).re,.int .i64 (d).fa,.int .u64 (d).cl,.slice (some ⟨g2,0,none⟩) n5 n5];go_upto_region 14 with(refine wpList_store_row rfl 52 _ _ rfl Ex #[.int .i64 (d).th,.int .i64 (d).sn,.int .i64 (d).no,.int .i64 (d).ch,.int .i64 (d).re,.int .i64 (d).fa,.int .u64 (d).cl,.slice (some ⟨g2,0,none⟩) n5 n5] rfl rfl 52 _ hs.head Wa (by rfl) (by kernel_rfl) ?_)
       refine cP hs2 ?_
       clear hs hs2 Pn;intro w17 hs;have hs:St K3 w17 (blk Oz (.cells #[.string c.low,.int .u64 c.id] 99)::az (.slice wF jk.length Oy) 99 2 jk.length (fc jk)::blk Ex (.cells (sq d g2 n5) 52)::aJ bm bc L' (acc+n+1)::blk b1 (.cells (mR d) 29)::blk b0 (.cells (mR d) 26)::[]):=((show St K3 w17 (blk Ex (.cells (sq d g2 n5) 52)::blk b (.cells (.nilFunc :: .bool true::bg d pf).toArray 167)::aJ bm bc L' (acc+n+1)::blk b19 (.cells (sq d g2 n5) 52)::blk Oz (.cells #[.string c.low,.int .u64 c.id] 99)::az (.slice wF jk.length Oy) 99 2 jk.length (fc jk)::blk b1 (.cells (mR d) 29)::blk b0 (.cells (mR d) 26)::[])from hs).re [1,3,4,5,0,2,6,7] rfl).tail.tail
       go_wp2
       go_roundw
       case rel=>exact⟨2,acc+n+1,K3,g2,L',t',by go_num,by omega,by omega,afW,Hg2,afZ,HR',hs⟩
       case measure=>simp[intOf]
     ·go_wp2
      go_roundw
      case rel=>exact⟨n+1,m',by omega,by go_num,by rw[show acc+(n+1)=acc+n+1 by omega];exact h⟩
      case measure=>simp[intOf];omega
   ·obtain rfl:r=2:=by omega
    go_wp2
    go_ret;exact⟨rfl,hs.below Ks.out⟩
end
section
open Go.ChangeShapes Go.WideShapes Go.ChangeAt Go.RowKit
theorem Pa {P:Program}{f:FuncId}{fn:Func}{s:ChangeSpec}{c:OpenClaim}
  (k1:c.wf (OpenSpec.ofChange s)=true) (k2:laidOutB P=true) (k3:mapsRowed P=true) (k4:fn.params.all (P.readableRec ·)=true) (k5:namedTie P c.named s.vars=true) (k6:(c.stops == [])=true) (k7:(P.stops == [])=true) (k8:(c.knobs == [])=true) (k9:(P.stopKnobs == [])=true)
  (k10:(c.inPlace == P.inPlace f)=true) (k11:(c.unfollowed == P.unfollowed f)=true) (k12:(c.recurses == P.recurses f)=true) (k13:(c.named == P.varsNamed f)=true)
  (k14:(c.maps == (fn.params.toList++s.plain.varTypes P).any (P.mapsRec ·))=true) (k15:(c.ifaces == (fn.params.toList++s.plain.varTypes P).any (P.ifacesRec ·))=true) (k16:(c.mapsOut == P.mapsAmong fn.resultTypes.toList)=true)
  (k17:(c.loops == (fn.params.toList++s.plain.varTypes P).any (P.loopsFrom ·))=true) (akL:(c.wideKeys == (fn.params.toList++s.plain.varTypes P++fn.resultTypes.toList).any (P.wideKeysFrom ·))=true)
  (k18:s.vars.all (P.varReadable ·)=true) (Pn:fn.resultTypes.all (fun t=>P.readableRec t && decide (t<P.types.size))=true) (k20:(c.ifacesOut == fn.resultTypes.toList.any (P.ifacesRec ·))=true) (k21:(c.loopsOut == fn.resultTypes.toList.any (P.loopsFrom ·))=true) (k22:(c.plainKeys == P.plainKeys)=true)
  (k23:c.shortTexts.isNone=true) (akM:P.stopsHeard=true) (k24:P.mayEnter=true) (akN:(c.lifted == P.liftsFinal)=true) (akO:(P.make == some c.make)=true)
  (k25:(c.kinds == (if c.domain.isEmpty then []else fn.params.toList.map fun t=>match P.underlying t with|some (.int k)=>some k|_=>none))=true) (k26:(c.pinned == c.pinnedBy)=true)
  (k27:(c.veiled == (fn.params.toList++s.plain.varTypes P++fn.resultTypes.toList).any (P.veiledRec ·))=true) (k28:c.veiledFits P fn.params.toList (fn.params.toList++s.plain.varTypes P++fn.resultTypes.toList)=true):joinedFacts P f fn s c=true:=by
 unfold joinedFacts;simp only[Bool.and_eq_true];exact⟨⟨⟨⟨⟨⟨⟨⟨⟨⟨⟨⟨⟨⟨⟨⟨⟨⟨⟨⟨⟨⟨⟨⟨⟨⟨⟨⟨⟨⟨⟨k1,k2⟩,k3⟩,k4⟩,k5⟩,k6⟩,k7⟩,k8⟩,k9⟩,k10⟩,k11⟩,k12⟩,k13⟩,k14⟩,k15⟩,k16⟩,k17⟩,akL⟩,k18⟩,Pn⟩,k20⟩,k21⟩,k22⟩,k23⟩,akM⟩,k24⟩,akN⟩,akO⟩,k25⟩,k26⟩,k27⟩,k28⟩
theorem vp:mapsRowed Tryz.prog=true:=by kernel_rfl
theorem Jn:(Tryz.prog.stops == [])=true:=by kernel_rfl
theorem vv:(Tryz.prog.stopKnobs == [])=true:=by kernel_rfl
theorem sU:Tryz.prog.stopsHeard=true:=by kernel_rfl
theorem wG:Tryz.prog.mayEnter=true:=by kernel_rfl
theorem sV:Tryz.prog.liftsFinal=false:=by kernel_rfl
end
end Go.Proofs.YtlpdhhhgckpcfaaGreat
