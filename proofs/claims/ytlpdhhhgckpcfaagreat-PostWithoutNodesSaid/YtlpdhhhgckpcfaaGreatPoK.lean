
/- What the statements of layer 14 call: abk, Same at strings, same at equal afl, Uu. -/
import Derived.Test.YtlpdhhhgckpcfaaGreatPoRd
import Derived.Test.YtlpdhhhgckpcfaaGreatSameV
namespace Go.Proofs.YtlpdhhhgckpcfaaGreat
set_option maxHeartbeats 16000000
open Go.RowKit
set_option maxRecDepth 100000
section
variable {K:aK}{w:World}{F:List aB}{d:aR}{b:Nat}{p:j4}
theorem rk (hs:St K w (blk b (.cells (.nilFunc :: .bool true::bj d p).toArray 167)::F)):Calls Tryz.prog 61 #[(.pointer (some ⟨b,0,none⟩))] w fun e w' => e=.returned (.bool p.po)/\w=w' := by
 have k:=hs.k0;have Qd:=aqo (fY w b (k 0) (k 1));unfold bj at k;clear hs;go_enter Tryz.func61,Tryz.ntmps61
 go_wp2_with fail
 refine(Qd.out).mono ?_
 clear Qd;rintro e w1 ⟨rfl,rfl⟩;go_wp2
 go_ret;exact⟨rfl,rfl⟩
theorem uS {xs:List ByteArray}{a a2:Option Addr}{n c c2:Nat}(hn:n=xs.length)(hb:n<=100000000)(hs:St K w (ak (.slice a n c) 9 1 n (bG xs)::ak (.slice a2 n c2) 9 1 n (bG xs)::F)) :
  Calls Tryz.prog 62 #[.slice a n c,.slice a2 n c2] w fun e w' => e=.returned (.bool true)/\St K w' (ak (.slice a n c) 9 1 n (bG xs)::ak (.slice a2 n c2) 9 1 n (bG xs)::F):=by
 have Hn:=aqo hn;clear hn;go_enter Tryz.func62,Tryz.ntmps62
 go_wp2
 go_loopw [5] (fun v wr=>∃ k:Nat,k<=n/\v=.int .i64 k/\St K wr (ak (.slice a n c) 9 1 n (bG xs)::ak (.slice a2 n c2) 9 1 n (bG xs)::F)) (fun v _=>n-(intOf v).toNat)
 case atStart=>exact⟨0,by omega,rfl,hs⟩
 case round=>
  clear hs;obtain⟨k,hk,rfl,hs⟩:=hrel;by_cases hlt:k<n
  ·obtain⟨x,hx⟩:∃ x,xs[k]?=some x:=⟨_,aqt (by have:=Hn.out;omega)⟩
   have h1:(bG xs)[k]?=some (.string x):=by simp[bG,hx]
   obtain⟨g,rfl,c0⟩:=(show St K wr (ak _ _ _ _ _::_)from hs).cP h1
   obtain⟨g2,rfl,c1⟩:=(show St K wr (ak _ _ _ _ _::_)from hs.b1).cP h1
   have q0:=c0;have q1:=c1;clear h1 hx;go_upto_region 6 with(fail)
   refine bH (by kernel_rfl) (by kernel_rfl) ?_
   repeat (go_big_quiet_step (fail))
   refine wpQuiet_nil ?_
   intro w2 hb2;have hs:=hs.same hb2;clear c0 c1 q0 q1 hb2;go_wp2
   go_roundw
   case rel=>exact⟨k+1,by omega,by go_num,hs⟩
   case measure=>simp[intOf];omega
  ·obtain rfl:k=n:=by omega
   go_wp2
   go_ret;exact⟨rfl,hs⟩
end
section
variable {w0 w:World}{F:List aB}{a:Option Addr}{len cap:Nat}{f:Nat->ByteArray}{sh:Int}{bare:Bool}{d:aR}{bm bc:Nat}
def afm (K:aK)(bm bc:Nat)(d:aR)(F:List aB)(v:Value)(W:World):Prop:=
 ∃ (ks:List ByteArray) (ka:Option Addr) (kc:Nat),v=.slice ka ks.length kc/\Hid (qU 36 ks)/\St K W (ak (.slice ka ks.length kc) 9 1 ks.length (bG ks)::aJ bm bc (cm d) 0::F)
def afn (K:aK)(bm bc:Nat)(d:aR)(F:List aB)(v u:Value)(W:World):Prop:=
 ∃ (ks:List ByteArray) (ka:Option Addr) (kc:Nat) (L:List aP) (t:List (List Nd)),(v=.slice ka ks.length kc/\u=.int .i64 t.length)/\Hid (qU 36 ks)/\Hid (oF d ks true L t)/\St K W (aJ bm bc L 0::ak (.slice ka ks.length kc) 9 1 ks.length (bG ks)::F)
theorem Nx (hz:yD w0 a len f)(hd:d.Ok)(hf6:d.fa<=6)(hno:100<=d.no)(hsh:0<=sh/\sh<18446744073709551616)(hs:St (aK.of w0) w (aJ bm bc (cm d) 0::F)) :
  Calls Tryz.prog 57 #[.agg #[.int .i64 (d).th,.int .i64 (d).sn,.int .i64 (d).no,.int .i64 (d).ch,.int .i64 (d).re,.int .i64 (d).fa,.int .u64 (d).cl],(.pointer (some ⟨bm,0,none⟩)),.slice a len cap,.int .u64 sh,.bool bare] w fun e w' => ∃ (ks:List ByteArray) (l0:List Nd) (L:List aP) (t:List (List Nd)),
   e=.returned (.tuple #[])/\Hid (PoF d ks l0 bare L t/\ks.length<=36)/\St (aK.of w0) w' (aJ bm bc L 0::F):=by
 have Hz:=aqo hz;have Hd:=aqo hd;have Hf6:=aqo hf6;have hs:=hs.made (.cells #[.int .i64 d.th,.int .i64 d.sn,.int .i64 d.no,.int .i64 d.ch,.int .i64 d.re,.int .i64 d.fa,.int .u64 d.cl] 26);obtain⟨b0,hb0⟩:∃ b,b=w.heap.size:=⟨_,rfl⟩;clear hz hd hf6;go_enter Tryz.func57,Tryz.ntmps57
 have Hno:=aqo hno;have Hsh:=aqo hsh;clear hno hsh;go_upto_region 1 with(fail)
 rw[← hb0]at hs ⊢;clear hb0;have hs:St (aK.of w0) _ (blk b0 (.cells #[.int .i64 d.th,.int .i64 d.sn,.int .i64 d.no,.int .i64 d.ch,.int .i64 d.re,.int .i64 d.fa,.int .u64 d.cl] 26)::aJ bm bc (cm d) 0::F):=hs;refine cR hs ?_
 clear hs;intro w1 hs;have Hs:=aqo hs;clear hs;refine fZ [false,false,false,true,false,true] 3 5
  (fun W=>St (aK.of w0) W (blk b0 (.cells #[.int .i64 d.th,.int .i64 d.sn,.int .i64 d.no,.int .i64 d.ch,.int .i64 d.re,.int .i64 d.fa,.int .u64 d.cl] 26)::aJ bm bc (cm d) 0::F))
  (fun v W=>afm (aK.of w0) bm bc d (blk b0 (.cells #[.int .i64 d.th,.int .i64 d.sn,.int .i64 d.no,.int .i64 d.ch,.int .i64 d.re,.int .i64 d.fa,.int .u64 d.cl] 26)::F) v W)
  (fun v u W=>afn (aK.of w0) bm bc d (blk b0 (.cells #[.int .i64 d.th,.int .i64 d.sn,.int .i64 d.no,.int .i64 d.ch,.int .i64 d.re,.int .i64 d.fa,.int .u64 d.cl] 26)::F) v u W)
  (fun W=>St (aK.of w0) W (blk b0 (.cells #[.int .i64 d.th,.int .i64 d.sn,.int .i64 d.no,.int .i64 d.ch,.int .i64 d.re,.int .i64 d.fa,.int .u64 d.cl] 26)::F)) ?aS (by decide) (by kernel_rfl) ?hB ?H ?iA Hs.out ?hI ?hR ?Ff ?vv ?hQ
 case hB=>as_aux_lemma=>kernel_rfl
 case H=>
  intro W2 hs;have kp:=hs.k0;clear hs;simp only[bK];repeat (go_big_quiet_step (fail))
  refine wpQuiet_nil ?_
  rfl
 case iA=>rfl
 case hI=>exact⟨fun W h=>(St.b1 h).tail,fun v W ⟨_,_,_,_,_,h⟩=>h.tail.tail,fun v u W ⟨_,_,_,_,_,_,_,_,h⟩=>h.tail.tail⟩
 case hR=>exact⟨fun W W' h hb=>h.same hb,fun v W W' ⟨a,b,c,e,e2,h⟩ hb=>⟨a,b,c,e,e2,h.same hb⟩,fun v u W W' ⟨a,b,c,x,y,e,e2,e3,h⟩ hb=>⟨a,b,c,x,y,e,e2,e3,h.same hb⟩⟩
 case Ff=>
  intro qN o ho ρ W2 hs hk af aC;obtain rfl:=aqu ho;subst aC;have Hk:=aqo hk;have hs:St (aK.of w0) W2 (blk b0 (.cells #[.int .i64 d.th,.int .i64 d.sn,.int .i64 d.no,.int .i64 d.ch,.int .i64 d.re,.int .i64 d.fa,.int .u64 d.cl] 26)::aJ bm bc (cm d) 0::F):=hs;have qk:=Xc (a:=a) (len:=len) (cap:=cap) (f:=f) (most:=36) Hz.out (by omega) hs
  have QK:=aqo qk;clear hk qk hs;go_wp2_with fail
  refine(QK.out).mono ?_
  clear QK;rintro e w3 ⟨v,ks,rfl,HK,hs⟩;obtain⟨ka,kc,rfl,_,_⟩:=hs.aF;have H:=aqo hs;clear hs;go_wp2
  exact⟨rfl,_,rfl,Hk.out _ _ ⟨ks,ka,kc,rfl,HK,H.out.re [0,2,1] rfl⟩⟩
 case vv=>
  rintro qN o ho ρ v W2 ⟨ks,ka,kc,rfl,HK,hs⟩ hk af aC;obtain rfl:=aqu ho;have Hk:=aqo hk;have hs:St (aK.of w0) W2 (ak (.slice ka ks.length kc) 9 1 ks.length (bG ks)::aJ bm bc (cm d) 0::blk b0 (.cells #[.int .i64 d.th,.int .i64 d.sn,.int .i64 d.no,.int .i64 d.ch,.int .i64 d.re,.int .i64 d.fa,.int .u64 d.cl] 26)::F):=hs;have qp:=Ss (dV:=true) Hd.out Hno.out ⟨HK.out.j7,by have:=HK.out.len;omega,HK.out.size⟩ (oL Hd.out).2.2.1 (oL Hd.out).2.2.2 (xc Hd.out) (uK Hd.out) Hsh.out hs.b1
  have QP:=aqo qp;clear hk qp hs;simp only[aL,List.getElem?_cons_succ,List.getElem?_cons_zero,Option.bind_some,Act.put,List.setIfInBounds_toArray,List.set_cons_zero,List.set_cons_succ]at aC;subst aC;go_wp2_with fail
  refine(QP.out).mono ?_
  clear QP;rintro e w4 ⟨t,L',rfl,HT,hs⟩;have H:=aqo hs;clear hs;go_wp2
  exact⟨rfl,_,rfl,Hk.out _ _ ⟨ks,ka,kc,L',t,⟨rfl,rfl⟩,HK,HT,H.out⟩⟩
 case hQ=>
 rintro v u W2 ⟨ks,ka,kc,L',t,⟨rfl,rfl⟩,HK,HT,hs⟩;simp only[aL,List.getElem?_cons_succ,List.getElem?_cons_zero,Option.bind_some,Act.put,List.setIfInBounds_toArray,List.set_cons_zero,List.set_cons_succ];clear Hs;have hs:St (aK.of w0) W2 (aJ bm bc L' 0::ak (.slice ka ks.length kc) 9 1 ks.length (bG ks)::blk b0 (.cells #[.int .i64 d.th,.int .i64 d.sn,.int .i64 d.no,.int .i64 d.ch,.int .i64 d.re,.int .i64 d.fa,.int .u64 d.cl] 26)::F):=hs;have HF:Hid (∃ l0 t',PoF d ks l0 bare (if bare then aN L' 0 ⟨1,⟨#[]⟩,0⟩else L') t'):=aqo (HT.out.Uu Hd.out Hf6.out HK.out.len bare)
 cases bare with
 | true=>
  go_wp2_with fail
  refine(fQ (i:=0) (c:=⟨1,⟨#[]⟩,0⟩) hs).mono ?_
  clear hs;rintro e w5 ⟨rfl,hs⟩;go_wp2
  go_end0
  obtain⟨l0,t',h⟩:=HF.out;exact⟨ks,l0,_,t',rfl,aqo ⟨h,HK.out.len⟩,hs.bV.bV⟩
 | false=>
  go_wp2
  go_end0
  obtain⟨l0,t',h⟩:=HF.out;exact⟨ks,l0,_,t',rfl,aqo ⟨h,HK.out.len⟩,hs.bV.bV⟩
end
section
variable {K:aK}{w:World}{F:List aB}{b bm bc acc m:Nat}{d:aR}{J:List aP->eE->Nat->Prop}
def uT (K:aK)(b bm bc:Nat)(d:aR)(J:List aP->eE->Nat->Prop)(F:List aB)(acc m:Nat)(w:World):Prop:=
 ∃ (L:List aP) (s:eE) (C:List aB),J L s m/\s.pc<14/\fK d b s C/\St K w (C++aJ bm bc L acc::F)
def Ux (K:aK)(b bm bc:Nat)(d:aR)(J:List aP->eE->Nat->Prop)(F:List aB)(acc:Nat)(w:World):Prop:=
 ∃ (L:List aP) (s:eE) (m:Nat),J L s m/\s.pc=14/\St K w (blk b (.cells (.nilFunc :: .bool true::bj d s.f).toArray 167)::aJ bm bc L acc::F)
theorem PoJ.go (hd:d.Ok)(hJ:PoJ d J)(ha:acc<=1000000000000)(h:uT K b bm bc d J F acc m w) :
  Calls Tryz.prog 60 #[(.pointer (some ⟨b,0,none⟩)),(.pointer (some ⟨bm,0,none⟩))] w fun e w' => (e=.returned (.bool true)/\Ux K b bm bc d J F (acc+1) w')\/(e=.returned (.bool false)/\∃ m',m' + 1<=m/\uT K b bm bc d J F (acc+1) m' w'):=by
 obtain⟨L,s,C,hI,iV,dm,hs⟩:=h;obtain⟨hok,hst⟩:=hJ.step L s m hI iV;refine(Nf hd (hJ.iR L s m hI).1 ha hok dm hs).mono ?_
 rintro e w' ⟨s',C',rfl,hn,hr,hs'⟩;obtain⟨m',hI',hm⟩:=hst s' hn;have ao6:=(hJ.iR _ s' m' hI').2.2;by_cases h:14<=s'.pc
 ·have Ri:s'.pc=14:=by omega
  refine .inl ⟨by rw[decide_eq_true h],gO d L s,s',m',hI',Ri,?_⟩
  obtain⟨pc,f,lk,fr,ins,aq,root,word,tk,id,k⟩:=s';simp only at Ri;subst Ri;obtain rfl:C'=_:=hr;exact hs'
 ·exact .inr ⟨by rw[decide_eq_false h],m',hm,_,s',C',hI',by omega,hr,hs'⟩
theorem uT.start {f:j4}{L:List aP}{C:List aB}(h:J L (Oe f) m)(hr:fK d b (Oe f) C)(hs:St K w (C++aJ bm bc L acc::F)):uT K b bm bc d J F acc m w:=
 ⟨L,Oe f,C,h,by show 0<14;decide,hr,hs⟩
end
section
variable {K:aK}{w:World}{cs:List aB}
theorem Il (hs:St K w cs):Calls Tryz.prog 56 #[] w fun e w' => e=.returned (.bool true)/\St K w' cs:=by
 obtain⟨d,hd,sP,hno,Q1,Q2⟩:∃ d:aR,Hid d.Ok/\Hid (d.fa=4)/\Hid (d.no=100)/\Hid (∀ w,Calls Tryz.prog 12 #[.int .i64 1,.int .i64 0] w fun e w' => e=.returned (.agg #[.int .i64 (d).th,.int .i64 (d).sn,.int .i64 (d).no,.int .i64 (d).ch,.int .i64 (d).re,.int .i64 (d).fa,.int .u64 (d).cl])/\Below w.heap.size w w')/\Hid (∀ w K cs,St K w cs->Calls Tryz.prog 13 #[.agg #[.int .i64 (d).th,.int .i64 (d).sn,.int .i64 (d).no,.int .i64 (d).ch,.int .i64 (d).re,.int .i64 (d).fa,.int .u64 (d).cl]] w fun e w'' => ∃ bm bc,e=.returned (.tuple #[.agg #[.int .i64 (d).th,.int .i64 (d).sn,.int .i64 (d).no,.int .i64 (d).ch,.int .i64 (d).re,.int .i64 (d).fa,.int .u64 (d).cl],(.pointer (some ⟨bm,0,none⟩))])/\St K w'' (aJ bm bc (cm d) 0::cs)):=
  ⟨mY 1 4 1000,aqo (Jj 0),aqo rfl,aqo rfl,aqo (fun w=>ou 1 0 w),aqo (fun w K cs hs=>pQ (Jj 0) hs)⟩
 obtain⟨J,HJ,hJ0,HJe⟩:∃ J,Hid (PoJ d J)/\Hid (J (Ef d) (Oe ⟨1,⟨#[98]⟩,2,false⟩) 190)/\Hid (∀ L s m,J L s m->s.pc=14->s.f.po=true/\(ah L 0).n=3):=by
  obtain⟨J,a,b,c⟩:=afk hd.out sP.out hno.out;exact⟨J,aqo a,aqo b,aqo c⟩
 go_enter Tryz.func56,Tryz.ntmps56
 go_wp2_with fail
 refine(bE hs (Q1.out _)).mono ?_
 clear hs;rintro e w1 ⟨rfl,hs⟩;obtain⟨b1,hb1⟩:∃ b1,b1=w1.heap.size:=⟨_,rfl⟩;have hs:=hs.made (.cells #[.int .i64 (d).th,.int .i64 (d).sn,.int .i64 (d).no,.int .i64 (d).ch,.int .i64 (d).re,.int .i64 (d).fa,.int .u64 (d).cl] 26);rw[← hb1]at hs;have Hs:=aqo hs;clear hs;go_wp2_with fail
 rw[← hb1];clear hb1;refine(Q2.out _ _ _ Hs.out).mono ?_
 clear Hs;rintro e w2 ⟨bm,bc,rfl,hs⟩;have hs:=hs.made (.cells #[.int .i64 (d).th,.int .i64 (d).sn,.int .i64 (d).no,.int .i64 (d).ch,.int .i64 (d).re,.int .i64 (d).fa,.int .u64 (d).cl] 29);obtain⟨b2,hb2⟩:∃ b2,b2=w2.heap.size:=⟨_,rfl⟩;rw[← hb2]at hs;go_upto_region 5 with(fail)
 rw[← hb2];clear hb2;refine cR hs ?_
 clear hs;intro w3 hs;have hs:St K w3 (blk b2 (.cells #[.int .i64 (d).th,.int .i64 (d).sn,.int .i64 (d).no,.int .i64 (d).ch,.int .i64 (d).re,.int .i64 (d).fa,.int .u64 (d).cl] 29)::aJ bm bc (cm d) 0::blk b1 (.cells #[.int .i64 (d).th,.int .i64 (d).sn,.int .i64 (d).no,.int .i64 (d).ch,.int .i64 (d).re,.int .i64 (d).fa,.int .u64 (d).cl] 26)::cs):=hs;have kc:=hs.k2;have hs:=hs.made (.cells #[.string ⟨#[97]⟩,.int .u64 1] 69);obtain⟨b3,hb3⟩:∃ b3,b3=w3.heap.size:=⟨_,rfl⟩;rw[← hb3]at hs;have hs:=hs.lM (n:=1) (size:=2) (xs:=aD mQ.pg.sl) rfl (by decide)
 have hs:St K _ (aJ bm bc (cm d) 0::ak (.slice (some ⟨b3,0,none⟩) mQ.pg.sl.length 1) 69 2 mQ.pg.sl.length (aD mQ.pg.sl)::blk b2 (.cells #[.int .i64 (d).th,.int .i64 (d).sn,.int .i64 (d).no,.int .i64 (d).ch,.int .i64 (d).re,.int .i64 (d).fa,.int .u64 (d).cl] 29)::blk b1 (.cells #[.int .i64 (d).th,.int .i64 (d).sn,.int .i64 (d).no,.int .i64 (d).ch,.int .i64 (d).re,.int .i64 (d).fa,.int .u64 (d).cl] 26)::cs):=hs.re [2,0,1,3] rfl;have q:=wK (pg:=mQ.pg) (id:=1) hd.out (by decide) (by decide) (by have:=sP.out;show(1:Int)<=d.fa;omega) hs
 have Q:=aqo q;clear q hs;go_wp2_with fail
 rw[← hb3];refine(Q.out).mono ?_
 clear Q kc hb3;rintro e w4 ⟨rfl,hs⟩;have hs:St K w4 (blk b2 (.cells #[.int .i64 (d).th,.int .i64 (d).sn,.int .i64 (d).no,.int .i64 (d).ch,.int .i64 (d).re,.int .i64 (d).fa,.int .u64 (d).cl] 29)::aJ bm bc (eY d 1 mQ.pg (cm d)) 0::blk b1 (.cells #[.int .i64 (d).th,.int .i64 (d).sn,.int .i64 (d).no,.int .i64 (d).ch,.int .i64 (d).re,.int .i64 (d).fa,.int .u64 (d).cl] 26)::cs):=(hs.re [1,2,0,3] rfl).tail;have kc:=hs.k2;have hs:=hs.made (.cells #[.string ⟨#[98]⟩,.int .u64 2] 69);obtain⟨b3,hb3⟩:∃ b3,b3=w4.heap.size:=⟨_,rfl⟩;rw[← hb3]at hs;have hs:=hs.lM (n:=1) (size:=2) (xs:=aD mR.pg.sl) rfl (by decide)
 have hs:St K _ (aJ bm bc (eY d 1 mQ.pg (cm d)) 0::ak (.slice (some ⟨b3,0,none⟩) mR.pg.sl.length 1) 69 2 mR.pg.sl.length (aD mR.pg.sl)::blk b2 (.cells #[.int .i64 (d).th,.int .i64 (d).sn,.int .i64 (d).no,.int .i64 (d).ch,.int .i64 (d).re,.int .i64 (d).fa,.int .u64 (d).cl] 29)::blk b1 (.cells #[.int .i64 (d).th,.int .i64 (d).sn,.int .i64 (d).no,.int .i64 (d).ch,.int .i64 (d).re,.int .i64 (d).fa,.int .u64 (d).cl] 26)::cs):=hs.re [2,0,1,3] rfl;have q:=wK (pg:=mR.pg) (id:=2) hd.out (by decide) (by decide) (by have:=sP.out;show(1:Int)<=d.fa;omega) hs
 have Q:=aqo q;clear q hs;go_wp2_with fail
 rw[← hb3];refine(Q.out).mono ?_
 clear Q kc hb3;rintro e w5 ⟨rfl,hs⟩;go_wp2_with fail
 refine(fQ (i:=4) (c:=⟨2,⟨#[]⟩,0⟩) hs).mono ?_
 clear hs;rintro e w6 ⟨rfl,hs⟩;have hs:St K w6 (blk b2 (.cells #[.int .i64 (d).th,.int .i64 (d).sn,.int .i64 (d).no,.int .i64 (d).ch,.int .i64 (d).re,.int .i64 (d).fa,.int .u64 (d).cl] 29)::aJ bm bc (Ef d) 0::blk b1 (.cells #[.int .i64 (d).th,.int .i64 (d).sn,.int .i64 (d).no,.int .i64 (d).ch,.int .i64 (d).re,.int .i64 (d).fa,.int .u64 (d).cl] 26)::cs):=(hs.re [1,2,0,3] rfl).tail;have kl:=hs.k0;have q:=xa (d:=d) (az:=1) (ch:=2) (sep:=⟨#[98]⟩) hs;have Q:=aqo q;clear q hs;generalize Ef d=L0 at *;go_wp2_with fail
 refine(Q.out).mono ?_
 clear Q kl;rintro e w7 ⟨b,C,rfl,hr,hs⟩;have ho:uT K b bm bc d J (blk b2 (.cells #[.int .i64 (d).th,.int .i64 (d).sn,.int .i64 (d).no,.int .i64 (d).ch,.int .i64 (d).re,.int .i64 (d).fa,.int .u64 (d).cl] 29)::blk b1 (.cells #[.int .i64 (d).th,.int .i64 (d).sn,.int .i64 (d).no,.int .i64 (d).ch,.int .i64 (d).re,.int .i64 (d).fa,.int .u64 (d).cl] 26)::cs) 0 190 w7:=uT.start hJ0.out hr (hs.perm (List.Perm.append_left _ (List.Perm.swap _ _ _)));clear hs hr;go_upto_region 9 with(fail)
 go_cut [5]from 999 to 0 (fun v wx=>v=.int .i64 0/\uT K b bm bc d J (blk b2 (.cells #[.int .i64 (d).th,.int .i64 (d).sn,.int .i64 (d).no,.int .i64 (d).ch,.int .i64 (d).re,.int .i64 (d).fa,.int .u64 (d).cl] 29)::blk b1 (.cells #[.int .i64 (d).th,.int .i64 (d).sn,.int .i64 (d).no,.int .i64 (d).ch,.int .i64 (d).re,.int .i64 (d).fa,.int .u64 (d).cl] 26)::cs) 0 190 wx)
 case first=>
  as_aux_lemma=>
  go_wp2
  go_meet;exact⟨rfl,ho⟩
 case rest=>
 clear ho;obtain⟨rfl,ho⟩:=hcut;apply_assumption
 go_cut [5]from 999 to 0 (fun _ wx=>∃ acc,Ux K b bm bc d J (blk b2 (.cells #[.int .i64 (d).th,.int .i64 (d).sn,.int .i64 (d).no,.int .i64 (d).ch,.int .i64 (d).re,.int .i64 (d).fa,.int .u64 (d).cl] 29)::blk b1 (.cells #[.int .i64 (d).th,.int .i64 (d).sn,.int .i64 (d).no,.int .i64 (d).ch,.int .i64 (d).re,.int .i64 (d).fa,.int .u64 (d).cl] 26)::cs) acc wx)
 case first=>
  as_aux_lemma=>
  go_wp2
  go_loopw [5] (fun vn wr=>∃ (n m:Nat),n+m<=190/\vn=.int .i64 n/\uT K b bm bc d J (blk b2 (.cells #[.int .i64 (d).th,.int .i64 (d).sn,.int .i64 (d).no,.int .i64 (d).ch,.int .i64 (d).re,.int .i64 (d).fa,.int .u64 (d).cl] 29)::blk b1 (.cells #[.int .i64 (d).th,.int .i64 (d).sn,.int .i64 (d).no,.int .i64 (d).ch,.int .i64 (d).re,.int .i64 (d).fa,.int .u64 (d).cl] 26)::cs) n m wr) (fun v _=>200-(intOf v).toNat)
  case atStart=>exact⟨0,190,by omega,rfl,ho⟩
  case round=>
   clear ho;obtain⟨n,m,hnm,rfl,ho⟩:=hrel;have q:=HJ.out.go hd.out (by omega) ho
   have Q:=aqo q;clear q ho;have hn2:(n:Int)<200:=by omega
   go_wp2_with fail
   refine(Q.out).mono ?_
   clear Q;rintro e w8 (⟨rfl,h⟩|⟨rfl,m',hm,h⟩)
   ·go_wp2
    go_meet;exact⟨_,h⟩
   ·go_wp2
    go_roundw
    case rel=>exact⟨n+1,m',by omega,by go_num,h⟩
    case measure=>simp[intOf];omega
 case rest=>
 clear ho;obtain⟨acc,L,s,m,hJe,iV,hs⟩:=hcut;apply_assumption
 obtain⟨yZ,h3⟩:=HJe.out L s m hJe iV;have q:=rk hs;rw[yZ]at q;have Q:=aqo q;have q2:=Iy (i:=0) hs hs.b1.mem;have Q2:=aqo q2;have Hs:=aqo hs;clear q q2 hs hJ0 hJe yZ;go_wp2_with fail
 refine(Q.out).mono ?_
 clear Q;rintro e w8 ⟨rfl,rfl⟩;go_wp2_with fail
 refine(Q2.out).mono ?_
 clear Q2;rintro e w9 ⟨rfl,hs⟩;go_wp2
 go_ret;exact⟨rfl,hs.tail.tail.tail.tail⟩
end
end Go.Proofs.YtlpdhhhgckpcfaaGreat
