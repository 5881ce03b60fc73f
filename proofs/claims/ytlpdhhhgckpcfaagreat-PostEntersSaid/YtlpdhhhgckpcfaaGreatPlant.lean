/- blinktreekit.Plant.. -/
import Derived.Test.YtlpdhhhgckpcfaaGreatPostMN
namespace Go.Proofs.YtlpdhhhgckpcfaaGreat
set_option linter.unusedSimpArgs false
set_option linter.unusedVariables false
open Go.RowKit
set_option maxHeartbeats 16000000
set_option maxRecDepth 100000
section
theorem uT (l:List Sl)(s:Sl):aD (l++[s])=aD l++gY s:=by simp[aD]
theorem Tz {W:World}{g:Nat}{S:List Sl}{fr p:Nat}(h:ej W (some ⟨g,0,none⟩) S)(hfp:fr+p<=S.length):ej W (some ⟨g,fr*2,none⟩) ((S.drop fr).take p):=by
 refine⟨by have:=h.1;simp;omega,fun i s hs=>?_⟩
 have hip:i<p:=by
  have:=(aq5.1 hs).1;simp at this;omega
 rw[List.getElem?_take,if_pos hip,List.getElem?_drop]at hs;obtain⟨b,off,e,hlt,c0,c1⟩:=h.2 _ _ hs;simp only[Option.some.injEq,Addr.mk.injEq,and_true]at e;obtain⟨rfl,rfl⟩:=e;rw[show 0+(fr+i)*2=fr*2+i*2 by omega]at c0 c1
 exact⟨g,fr*2,rfl,hlt,c0,c1⟩
theorem uU {W:World}{a:Option Addr}{S:List Sl}(h:S=[]):ej W a S:=by
 subst h;exact⟨by simp,fun i s hs=>by simp at hs⟩
theorem St.Ob {K:aL}{w:World}{F:List aC}{a:Option Addr}{n cap:Nat}{T:TypeId}{size:Nat}{xs:List Value}(h:St K w (az (.slice a n cap) T size n xs::F)):(a=none/\n=0/\cap=0)\/(∃g,a=some ⟨g,0,none⟩/\n<=cap):=by
 obtain⟨hl,k⟩:=h.head;rcases k with⟨hv,h0⟩|⟨g,cap',cur,hv,hB,hc,h1,h2,h3,h4⟩
 ·simp only[Value.slice.injEq]at hv
  exact .inl ⟨hv.1,h0,hv.2.2⟩
 ·simp only[Value.slice.injEq]at hv
  exact .inr ⟨g,hv.1,by omega⟩
def aag:Value->Nat
 | .slice _ n _=>n
 | _=>0
structure Yr (d:aR)(ks:List ByteArray)(dV:Bool)(L:List aO)(S:List Sl)(t:List (List Nd))(nx ak:Nat):Prop where
 pi:Ph d ks dV L S t nx
 tl:t.length=ak
 z:ak=0->nx=1/\S.length<=40
 p:0<ak->nx-1+fb S.length<=100/\1<=S.length/\ak+S.length<=41
 nx1:1<=nx
theorem Yr.le {d:aR}{ks:List ByteArray}{dV:Bool}{L:List aO}{S:List Sl}{t:List (List Nd)}{nx ak:Nat}(h:Yr d ks dV L S t nx ak):S.length<=40/\ak<=40:=by
 rcases Nat.eq_zero_or_pos ak with h0|h0
 ·have:=h.z h0;omega
 ·have:=h.p h0;omega
theorem Yr.uV {d:aR}{ks:List ByteArray}{dV:Bool}{L:List aO}{S:List Sl}{t:List (List Nd)}{nx ak:Nat}{ps:List Nat}(h:Yr d ks dV L S t nx ak)(hp:eW S ps)
  (h0:ak=0->ps.length<=40) (h1:0<ak->ps.length<=(S.length+1) / 2) (hne:ps.length≠1):ps.length<=S.length/\(0<ak->3<=S.length/\ps.length<S.length):=by
 have hps:=hp.ne;have hle:ps.length<=S.length:=by
  rcases hp.pos with hq|hq
  ·have:=rz hq;rw[hp.sum]at this;exact this
  ·rw[hq]at hne;simp at hne
 refine⟨hle,fun h=>?_⟩
 have:=h1 h;omega
theorem Yr.next {d:aR}{ks:List ByteArray}{dV:Bool}{L L2:List aO}{S A:List Sl}{t t2:List (List Nd)}{nx ak:Nat}{ps:List Nat}(h:Yr d ks dV L S t nx ak)(hp:eW S ps)
  (h0:ak=0->ps.length<=40) (h1:0<ak->ps.length<=(S.length+1) / 2) (hne:ps.length≠1) (hA:A.length<=ps.length) (ht2:t2.length=ak+1) (hi:Ph d ks dV L2 A t2 (nx+ps.length)):Yr d ks dV L2 A t2 (nx+ps.length) (ak+1):=by
 obtain⟨hle,h3⟩:=h.uV hp h0 h1 hne;have hS:=h.le.1;have hA1:1<=A.length:=by
  obtain⟨q,_⟩:=hi.s1 (fun e=>by rw[e]at ht2;simp at ht2)
  rcases Nat.eq_zero_or_pos A.length with h|h
  ·exact absurd (List.length_eq_zero_iff.1 h) q
  ·exact h
 refine⟨hi,ht2,fun e=>by omega,fun _=>?_,by have:=h.nx1;omega⟩
 rcases Nat.eq_zero_or_pos ak with hl|hl
 ·have hz:=h.z hl
  have aoe:=h0 hl;have hm:=Kt 40 (by omega) A.length (by omega)
  have h40:fb 40=41:=by decide +kernel
  omega
 ·have hz:=h.p hl
  have hc:=h1 hl;obtain⟨q1,q2⟩:=h3 hl;have hh:=Ku S.length hS q1;have hm:=Kt ((S.length+1) / 2) (by omega) A.length (by omega)
  omega
def PlR (K:aL)(bp:Nat)(ak:Nat)(sa:Option Addr)(p sc:Nat)(hi:ByteArray)(ri:Int)(REST:List aC)(ρ:Nat->Option Value)(W:World):Prop:=
 St K W (blk bp (.cells #[.int .i64 ak,.slice sa p sc,.string (if (ρ 10).isSome then hi else⟨#[]⟩),.bool false,.int .u64 (if (ρ 8).isSome then ri else 0)] 43)::REST)
section
variable {K:aL}{w:World}{F:List aC}{d:aR}{bm bc:Nat}{L:List aO}{acc:Nat}{ks:List ByteArray}{ka:Option Addr}{kc:Nat}{sh:Int}{dV:Bool}
theorem Ua (hd:d.Ok)(hno:100<=d.no)(hk:ru 40 ks)(hL:bD L)(hcl:(L.length:Int)=d.cells)(oC:∀id:Int,1<=id->id<=d.no->ah L (d.node id 0)=aO.zero)(hzero:∀j:Int,nP d j->ah L j=aO.zero)(hsh:0<=sh/\sh<18446744073709551616)
  (hs:St K w (aJ bm bc L acc::az (.slice ka ks.length kc) 9 1 ks.length (bO ks)::F)) :
  Calls Tryz.prog 15 #[.agg #[.int .i64 d.th,.int .i64 d.sn,.int .i64 d.no,.int .i64 d.ch,.int .i64 d.re,.int .i64 d.fa,.int .u64 d.cl],(.pointer (some ⟨bm,0,none⟩)),.slice ka ks.length kc,.int .u64 sh,.bool dV] w fun e w' => ∃(t:List (List Nd)) (L':List aO),e=.returned (.int .i64 t.length)/\Hid (oO d ks dV L' t)/\St K w' (aJ bm bc L' acc::az (.slice ka ks.length kc) 9 1 ks.length (bO ks)::F):=by
 have f1:=hd.fo;have f2:=hd.mK;have Oc:=hk.len;obtain⟨n,hn⟩:∃n,n=ks.length:=⟨_,rfl⟩;rw[←hn]at hs Oc ⊢;have Hn:=aq3 hn;have Hd:=aq3 hd;have Hk:=aq3 hk;have HL:=aq3 hL;have Hcl:=aq3 hcl;have ajy:=aq3 oC;have aeI:=aq3 hzero;have Hno:=aq3 hno;obtain⟨sh0,sh1⟩:=hsh;obtain⟨iv,cZ,dc,dg,dh⟩:=info_parts gU;have lI:=aq3 cZ;have lJ:=aq3 dc;have lK:=aq3 dg;have lM:=aq3 dh;clear cZ dc dg dh hd hk hL hcl oC hzero hno hn;have hs:=hs.made (.cells #[.int .i64 d.th,.int .i64 d.sn,.int .i64 d.no,.int .i64 d.ch,.int .i64 d.re,.int .i64 d.fa,.int .u64 d.cl] 26);obtain⟨vz,aeK⟩:∃vz,vz=w.heap.size:=⟨_,rfl⟩;have hs:=hs.cF (T:=69) (size:=2);go_enter Tryz.func15,Tryz.ntmps15
 go_wp2
 rw[←aeK]at hs ⊢;clear aeK;go_loopw [11,12] (fun v11 v12 wr=>∃(i:Nat) (ao:Option Addr) (co:Nat),v11=.slice ao i co/\v12=.int .i64 i/\i<=n /\
  St K wr (az (.slice ao i co) 69 2 i (aD (eA 0 (ks.take i)))::blk vz (.cells #[.int .i64 d.th,.int .i64 d.sn,.int .i64 d.no,.int .i64 d.ch,.int .i64 d.re,.int .i64 d.fa,.int .u64 d.cl] 26)::aJ bm bc L acc::az (.slice ka n kc) 9 1 n (bO ks)::F)) (fun _ v12 _=>n-(intOf v12).toNat)
 case atStart=>exact⟨0,none,0,rfl,rfl,by omega,hs⟩
 case round=>
  clear hs;obtain⟨i,ao,co,rfl,rfl,hi,hs⟩:=hrel;by_cases hin:i<n
  ·obtain⟨y,hy⟩:∃y,ks[i]?=some y:=⟨_,aq8 (by have:=Hn.out;omega)⟩
   obtain⟨g,rfl,c0⟩:=hs.b3.cQ (show(bO ks)[i]?=some (.string y)by simp[bO,hy])
   have dY:eA 0 (ks.take (i+1))=eA 0 (ks.take i)++[⟨y,(i:Int)+1⟩]:=by
    rw[List.take_add_one,hy];show eA 0 (ks.take i++[y])=_
    rw[uN];have:(ks.take i).length=i:=by rw[List.length_take];have:=Hn.out;omega
    rw[this];congr 3;push_cast;omega
   have iP:=aq3 dY;clear hy dY;go_wp2_with (at_builtin;refine dF _ _ 41 69 _ i 2 24 _ (gY ⟨y,(i:Int)+1⟩) (.agg #[.string ⟨#[]⟩,.int .u64 0]) iv hs rfl rfl Tryz.underlying41 lI.out lJ.out lK.out lM.out rfl (by decide) rfl rfl rfl (fun u hu=>by simp[gY]at hu;rcases hu with rfl|rfl <;> rfl) (by omega) (by decide) ?_)
   clear hs c0;intro v' w' hs;obtain⟨mP,mQ,hv,_,_⟩:=hs.aH;subst hv;go_wp2
   go_roundw
   case rel=>exact⟨i+1,mP,mQ,rfl,by go_num,by omega,by rw[iP.out,uT];exact hs⟩
   case measure=>simp[intOf];omega
  ·obtain rfl:i=n:=by omega
   rw[List.take_of_length_le (by rw[←Hn.out];exact Nat.le_refl _)]at hs
   have qu:(eA 0 ks).length=i:=by rw[jN,Hn.out]
   go_wp2_with fail
   refine(gy (i:=5) (c:=⟨i,⟨#[]⟩,0⟩) hs.b2).mono ?_
   clear hs;rintro e w2 ⟨rfl,hs⟩;have hP:Yr d ks dV (aP L 5 ⟨i,⟨#[]⟩,0⟩) (eA 0 ks) [] 1 0:=by
    refine⟨Ph.start Hd.out Hk.out.size Hk.out.jA (by rw[←Hn.out];exact Oc) (HL.out.put ⟨by show(0:Int)<=i;omega,by show(i:Int)<_;omega⟩) (by rw[aY];exact Hcl.out) (fun id a b=>?_) (fun j hj=>?_) ?_,rfl,fun _=>⟨rfl,by omega⟩,fun h=>by omega,Nat.le_refl _⟩
    rotate_left
    ·have hA:=Hd.out.eC
     have hB:=Hd.out.jU;rw[bj (by rcases hj with h|h <;> omega)]
     exact aeI.out j hj
    ·have hA:=Hd.out.eC
     have hB:=Hd.out.jU;have hC:=Hd.out.ox;have hcb:=Hd.out.eb;have hcl:=Hcl.out;rw[cB (by omega) (by omega),Hn.out]
    have n0:=(bV Hd.out a b (k:=0) (by omega) (by omega)).1
    have m3:0<=(id-1)*(d.fa+4):=Int.mul_nonneg (by omega) (by omega)
    have hA:=Hd.out.eC;rw[bj (by omega)]
    exact ajy.out id a b
   have HP:=aq3 hP;generalize aP L 5 ⟨i,⟨#[]⟩,0⟩=L5 at *;have hs:St K w2 (aJ bm bc L5 acc::az (.slice ao (eA 0 ks).length co) 69 2 (eA 0 ks).length (aD (eA 0 ks))::blk vz (.cells #[.int .i64 d.th,.int .i64 d.sn,.int .i64 d.no,.int .i64 d.ch,.int .i64 d.re,.int .i64 d.fa,.int .u64 d.cl] 26)::az (.slice ka i kc) 9 1 i (bO ks)::F):=by rw[qu];exact hs
   have Hkl:=aq3 qu.symm;clear hP qu;rename_i n
   go_wp2
   go_loopw [3,11,13,14,15,16,17,18,19,20,21] (fun v3 v11 v13 v14 _ _ _ _ _ _ _ wr=>∃(s:Int) (nx ak:Nat) (S:List Sl) (t:List (List Nd)) (ao:Option Addr) (co:Nat) (L':List aO),v3=.int .u64 s/\v11=.slice ao S.length co/\v13=.int .u64 nx/\v14=.int .i64 ak/\0<=s/\s<18446744073709551616/\Hid (Yr d ks dV L' S t nx ak) /\
    St K wr (aJ bm bc L' acc::az (.slice ao S.length co) 69 2 S.length (aD S)::blk vz (.cells #[.int .i64 d.th,.int .i64 d.sn,.int .i64 d.no,.int .i64 d.ch,.int .i64 d.re,.int .i64 d.fa,.int .u64 d.cl] 26)::az (.slice ka i kc) 9 1 i (bO ks)::F)) (fun _ v11 _ v14 _ _ _ _ _ _ _ _=>aag v11+(if intOf v14=0 then 1 else 0))
   case atStart=>exact⟨sh,1,0,eA 0 ks,[],ao,co,L5,rfl,by rw[←Hkl.out],rfl,rfl,sh0,sh1,HP,hs⟩
   case round=>
    clear hs HP;obtain⟨s,nx,ak,S,t,ao,co,L',rfl,rfl,rfl,rfl,s0,s1,HP,hs⟩:=hrel;obtain⟨ab8,ajz⟩:=HP.out.le;have aoh:nx<=101/\1<=nx:=by
     refine⟨?_,HP.out.nx1⟩;rcases Nat.eq_zero_or_pos ak with h|h
     ·have:=HP.out.z h;omega
     ·have:=HP.out.p h;omega
    have kcf:=hs.b2.k0;go_upto_region 8 with(fail)
    go_cut [15] (fun v15 wx=>∃(ps:List Nat) (pa:Option Addr) (pc:Nat),v15=.slice pa ps.length pc/\Hid (tj S.length (if ak=0 then 1 else 2) d.fa.toNat ps) /\
     St K wx (az (.slice pa ps.length pc) 3 1 ps.length (gm ps)::aJ bm bc L' acc::az (.slice ao S.length co) 69 2 S.length (aD S)::blk vz (.cells #[.int .i64 d.th,.int .i64 d.sn,.int .i64 d.no,.int .i64 d.ch,.int .i64 d.re,.int .i64 d.fa,.int .u64 d.cl] 26)::az (.slice ka i kc) 9 1 i (bO ks)::F))
    case first=>
     as_aux_lemma=>
     have efa:((d.fa.toNat:Nat):Int)=d.fa:=by omega
     by_cases h0:ak=0
     ·subst h0
      have q:=uL (n:=S.length) (least:=1) (fa:=d.fa.toNat) (sh:=s) (by omega) (by omega) (by omega) ⟨s0,s1⟩ hs
      rw[efa]at q;have Q:=aq3 q;clear q hs efa;go_wp2_with fail
      refine(Q.out).mono ?_
      clear Q kcf;rintro e w3 ⟨v15,ps,rfl,HG,hs⟩;obtain⟨pa,pc,rfl,_,_⟩:=hs.aH;go_wp2
      go_meet;exact⟨ps,pa,pc,rfl,HG,hs⟩
     ·have H0:=aq3 h0
      by_cases dr:ak=1
      ·subst dr
       have q:=uL (n:=S.length) (least:=2) (fa:=d.fa.toNat) (sh:=s) (by omega) (by omega) (by omega) ⟨s0,s1⟩ hs
       rw[efa]at q;have Q:=aq3 q;clear q hs efa h0;go_wp2_with fail
       refine(Q.out).mono ?_
       clear Q kcf;rintro e w3 ⟨v15,ps,rfl,HG,hs⟩;obtain⟨pa,pc,rfl,_,_⟩:=hs.aH;go_wp2
       go_meet;exact⟨ps,pa,pc,rfl,by rw[if_neg H0.out];exact HG,hs⟩
      ·have h2:¬ ((ak:Int)+1<=2):=by omega
       have h3:(2:Int)<ak+1:=by omega
       clear dr;have q:=uL (n:=S.length) (least:=2) (fa:=d.fa.toNat) (sh:=s) (by omega) (by omega) (by omega) ⟨s0,s1⟩ hs
       rw[efa]at q;have Q:=aq3 q;clear q hs efa h0;go_wp2_with fail
       refine(Q.out).mono ?_
       clear Q kcf;rintro e w3 ⟨v15,ps,rfl,HG,hs⟩;obtain⟨pa,pc,rfl,_,_⟩:=hs.aH;go_wp2
       go_meet;exact⟨ps,pa,pc,rfl,by rw[if_neg H0.out];exact HG,hs⟩
    case rest=>
     clear hs kcf;obtain⟨Lc,pa0,pc0,rfl,HG,hs⟩:=hcut;go_upto_region 9 with(fail)
     go_cut [56] (fun v56 wx=>v56=.bool (decide (Lc.length=0))/\St K wx (az (.slice pa0 Lc.length pc0) 3 1 Lc.length (gm Lc)::aJ bm bc L' acc::az (.slice ao S.length co) 69 2 S.length (aD S)::blk vz (.cells #[.int .i64 d.th,.int .i64 d.sn,.int .i64 d.no,.int .i64 d.ch,.int .i64 d.re,.int .i64 d.fa,.int .u64 d.cl] 26)::az (.slice ka i kc) 9 1 i (bO ks)::F))
     case first=>
      as_aux_lemma=>
      go_wp2
      go_meet;exact⟨by congr 1;rw[Bool.eq_iff_iff];simp only[beq_iff_eq,decide_eq_true_eq];omega,hs⟩
     case rest=>
      clear hs;obtain⟨rfl,hs⟩:=hcut;apply_assumption
      go_cut [15] (fun v15 wx=>∃(ps:List Nat) (pa:Option Addr) (pc:Nat),v15=.slice pa ps.length pc/\Hid (eW S ps/\(∀p,p∈ps->(p:Int)<=d.fa)/\(ak=0->ps.length<=S.length+1/\ps.length<=40)/\(0<ak->ps.length<=(S.length+1) / 2))/\1<=ps.length/\ps.length<=40 /\
       St K wx (az (.slice pa ps.length pc) 3 1 ps.length (gm ps)::aJ bm bc L' acc::az (.slice ao S.length co) 69 2 S.length (aD S)::blk vz (.cells #[.int .i64 d.th,.int .i64 d.sn,.int .i64 d.no,.int .i64 d.ch,.int .i64 d.re,.int .i64 d.fa,.int .u64 d.cl] 26)::az (.slice ka i kc) 9 1 i (bO ks)::F))
      case first=>
       as_aux_lemma=>
       have hpk:=Th HP.out.pi (show 1<=(if ak=0 then 1 else 2)by split <;> omega) HG.out
       have hlen:=HG.out.len;have hbd:=HG.out.bd;have hz:=HP.out.z;have hpp:=HP.out.p;by_cases h0:Lc.length=0
       ·rw[decide_eq_true h0]
        rw[if_pos h0]at hpk;have HQ:Hid (eW S [0]/\(∀p:Nat,p∈[0]->(p:Int)<=d.fa)/\(ak=0->[0].length<=S.length+1/\[0].length<=40)/\(0<ak->[0].length<=(S.length+1) / 2)):=
         aq3 ⟨hpk,fun p hp=>by simp at hp;subst hp;omega,fun _=>by simp,fun h=>by have:=hpp h;simp only[List.length_cons,List.length_nil];omega⟩
        clear hpk hlen hbd hz hpp h0;have hs:=(hs.made (.cells #[.int .i64 0] 3)).lS (n:=1) (size:=1) (xs:=[.int .i64 0]) rfl (by simp[maxLen])
        go_wp2
        go_meet;exact⟨[0],_,_,rfl,HQ,by simp,by simp,hs.bY⟩
       ·rw[decide_eq_false h0]
        rw[if_neg h0]at hpk;have hlen':(ak=0->Lc.length<=S.length)/\(0<ak->Lc.length<=(S.length+1) / 2):=by
         constructor
         ·intro h;rw[if_pos h]at hlen;omega
         ·intro h;rw[if_neg (by omega)]at hlen;omega
        have aah:Lc.length<=40:=by
         rcases Nat.eq_zero_or_pos ak with h|h
         ·have:=hlen'.1 h;omega
         ·have:=hlen'.2 h;omega
        have HQ:Hid (eW S Lc/\(∀p,p∈Lc->(p:Int)<=d.fa)/\(ak=0->Lc.length<=S.length+1/\Lc.length<=40)/\(0<ak->Lc.length<=(S.length+1) / 2)):=
         aq3 ⟨hpk,fun p hp=>by have:=(hbd p hp).2;omega,fun h=>⟨by have:=hlen'.1 h;omega,aah⟩,hlen'.2⟩
        clear hpk hlen hbd hz hpp hlen';go_wp2
        go_meet;exact⟨Lc,_,_,rfl,HQ,by omega,aah,hs⟩
      case rest=>
       clear hs HG;obtain⟨ps,pa,pc,rfl,HQ,hp1,hp2,hs⟩:=hcut;have Hnx:=aq3 HP.out.nx1;have Iw:Hid (fL t.length (dO t.length ⟨#[]⟩ nx S ps)/\(dO t.length ⟨#[]⟩ nx S ps).length=ps.length):=aq3 ⟨Cy HQ.out.1,eV _ _ _ _ _⟩;have Hat:Hid (∀(j:Nat) (nd:Nd),(dO t.length ⟨#[]⟩ nx S ps)[j]?=some nd->∃p,ps[j]?=some p/\nd.id=nx+j/\nd.pg.ak=ak/\nd.pg.sl=(S.drop (ps.take j).sum).take p/\(ps.take j).sum+p<=S.length /\
        ((j+1=ps.length/\nd.pg=⟨ak,(S.drop (ps.take j).sum).take p,⟨#[]⟩,true,0⟩)\/(j+1<ps.length/\nd.pg=⟨ak,(S.drop (ps.take j).sum).take p,nM ak (S.drop (ps.take j).sum) p,false,nx+j+1⟩))):=aq3 (fun j nd h=>by
        have:=gG HQ.out.1 h;rwa [HP.out.tl]at this)
       obtain⟨row,hrow⟩:∃row,row=dO t.length ⟨#[]⟩ nx S ps:=⟨_,rfl⟩;rw[←hrow]at Iw Hat;have aai:=aq3 hrow;clear hrow;have hs:=hs.cF (T:=69) (size:=2);go_wp2
       go_loopw [16,17,18,19,20,21] (fun v16 v17 v18 v19 _ _ wr=>∃(j fr:Nat) (A:List Sl) (mP:Option Addr) (mQ:Nat) (low:ByteArray),v16=.slice mP A.length mQ/\v17=.string low/\v18=.int .i64 fr/\v19=.int .i64 j/\j<=ps.length/\fr<=S.length/\A.length<=j /\
        Hid (fr=(ps.take j).sum/\gZ row j A dV/\∀nd,row[j]?=some nd->nd.low=low) /\
        St K wr (az (.slice mP A.length mQ) 69 2 A.length (aD A)::az (.slice pa ps.length pc) 3 1 ps.length (gm ps)::aJ bm bc (bU d L' (row.take j)) acc::az (.slice ao S.length co) 69 2 S.length (aD S)::blk vz (.cells #[.int .i64 d.th,.int .i64 d.sn,.int .i64 d.no,.int .i64 d.ch,.int .i64 d.re,.int .i64 d.fa,.int .u64 d.cl] 26)::az (.slice ka i kc) 9 1 i (bO ks)::F)) (fun _ _ _ v19 _ _ _=>ps.length-(intOf v19).toNat)
       case atStart=>exact⟨0,0,[],none,0,⟨#[]⟩,rfl,rfl,rfl,rfl,by omega,by omega,Nat.le_refl _,aq3 ⟨rfl,gZ.start _ _,fun nd h=>Iw.out.1.first nd h⟩,hs⟩
       case round=>
        clear hs;obtain⟨j,fr,A,mP,mQ,low,rfl,rfl,rfl,rfl,hj,hfr,hAj,HR,hs⟩:=hrel;by_cases hjn:j<ps.length
        ·obtain⟨nd,hnd⟩:∃nd,row[j]?=some nd:=⟨_,aq8 (by rw[Iw.out.2];exact hjn)⟩
         obtain⟨p,hpj,hid,bZ,eY,hfp,kW⟩:=Hat.out j nd hnd;rw[←HR.out.1]at eY hfp kW;obtain⟨gp,rfl,c0⟩:=hs.b1.cQ (show(gm ps)[j]?=some (.int .i64 p)by simp[gm,hpj])
         have Od:=aq3 hnd;have Hpj:=aq3 hpj;have Hid' := aq3 hid;have s6:=aq3 eY;have Hpg:=aq3 kW;have uE:=aq3 bZ;clear hnd hpj hid eY kW bZ;go_upto_region 16 with(fail)
         go_cut [20] (fun v20 wx=>∃(bp:Nat) (sa:Option Addr) (sc:Nat),v20=(.pointer (some ⟨bp,0,none⟩))/\Hid (∀W F',St K W (az (.slice ao S.length co) 69 2 S.length (aD S)::F')->ej W sa nd.pg.sl) /\
          St K wx (blk bp (.cells #[.int .i64 ak,.slice sa p sc,.string ⟨#[]⟩,.bool (decide (j+1=ps.length)),.int .u64 0] 43)::az (.slice mP A.length mQ) 69 2 A.length (aD A)::az (.slice (some ⟨gp,0,none⟩) ps.length pc) 3 1 ps.length (gm ps)::aJ bm bc (bU d L' (row.take j)) acc::az (.slice ao S.length co) 69 2 S.length (aD S)::blk vz (.cells #[.int .i64 d.th,.int .i64 d.sn,.int .i64 d.no,.int .i64 d.ch,.int .i64 d.re,.int .i64 d.fa,.int .u64 d.cl] 26)::az (.slice ka i kc) 9 1 i (bO ks)::F))
         case first=>
          as_aux_lemma=>
          have hbe:((j:Int) == (ps.length:Int)-1)=decide (j+1=ps.length):=by rw[Bool.eq_iff_iff];simp only[beq_iff_eq,decide_eq_true_eq];omega
          have hcap:=hs.b3.Ob;rcases hcap with⟨rfl,h0,rfl⟩|⟨g,rfl,hco⟩
          ·have hS0:S=[]:=List.length_eq_zero_iff.1 h0
           obtain rfl:fr=0:=by omega
           obtain rfl:p=0:=by omega
           have HS0:=aq3 hS0;have Hbe:=aq3 hbe;clear hS0 hbe;have hs:=hs.made (.cells #[.int .i64 ak,.slice none 0 0,.string ⟨#[]⟩,.bool (decide (j+1=ps.length)),.int .u64 0] 43);go_wp2
           rw[Hbe.out];go_meet;exact⟨_,_,_,rfl,aq3 (fun W F' h=>uU (by rw[s6.out,HS0.out];simp)),hs⟩
          ·have Hbe:=aq3 hbe
           clear hbe;by_cases Ub:p=0
           ·have hS0:S=[]:=by
             have hm:=aq7 Hpj.out;rcases HQ.out.1.pos with hq|hq
             ·have:=hq p hm;omega
             ·have:=HQ.out.1.sum;rw[hq]at this;exact List.length_eq_zero_iff.1 (by simpa using this.symm)
            have h0:S.length=0:=by rw[hS0];rfl
            have HS0:=aq3 hS0;subst Ub;obtain rfl:fr=0:=by omega
            clear hS0;rcases Nat.eq_zero_or_pos co with hc|hc
            ·subst hc
             have hs:=hs.made (.cells #[.int .i64 ak,.slice (some ⟨g,0,none⟩) 0 0,.string ⟨#[]⟩,.bool (decide (j+1=ps.length)),.int .u64 0] 43);go_wp2
             rw[Hbe.out];go_meet;exact⟨_,_,_,rfl,aq3 (fun W F' h=>uU (by rw[s6.out,HS0.out];simp)),hs⟩
            ·have hs:=hs.made (.cells #[.int .i64 ak,.slice (some ⟨g,0,none⟩) 0 co,.string ⟨#[]⟩,.bool (decide (j+1=ps.length)),.int .u64 0] 43)
             go_wp2
             rw[Hbe.out];go_meet;exact⟨_,_,_,rfl,aq3 (fun W F' h=>uU (by rw[s6.out,HS0.out];simp)),hs⟩
           ·have hfc:fr<co:=by omega
            have hs:=hs.made (.cells #[.int .i64 ak,.slice (some ⟨g,fr*2,none⟩) p (co-fr),.string ⟨#[]⟩,.bool (decide (j+1=ps.length)),.int .u64 0] 43);go_wp2
            rw[Hbe.out];go_meet;exact⟨_,_,_,rfl,aq3 (fun W F' h=>by rw[s6.out];exact Tz (h.cO (by omega)) hfp),hs⟩
         case rest=>
          clear hs;obtain⟨bp,sa,sc,rfl,Hsa,hs⟩:=hcut;have kp:=hs.k0;have c0:=hs.b2.bK (show(gm ps)[j]?=some (.int .i64 p)by simp[gm,Hpj.out])
          go_upto_region 19 with(fail)
          go_cut [92] (fun v92 wx=>v92=.bool (!decide (j+1=ps.length))/\St K wx (blk bp (.cells #[.int .i64 ak,.slice sa p sc,.string ⟨#[]⟩,.bool (decide (j+1=ps.length)),.int .u64 0] 43)::az (.slice mP A.length mQ) 69 2 A.length (aD A)::az (.slice (some ⟨gp,0,none⟩) ps.length pc) 3 1 ps.length (gm ps)::aJ bm bc (bU d L' (row.take j)) acc::az (.slice ao S.length co) 69 2 S.length (aD S)::blk vz (.cells #[.int .i64 d.th,.int .i64 d.sn,.int .i64 d.no,.int .i64 d.ch,.int .i64 d.re,.int .i64 d.fa,.int .u64 d.cl] 26)::az (.slice ka i kc) 9 1 i (bO ks)::F))
          case first=>
           as_aux_lemma=>
           go_wp2
           go_meet;exact⟨rfl,hs⟩
          case rest=>
           clear hs kp c0;obtain⟨rfl,hs⟩:=hcut;apply_assumption
           go_cut [93] (fun _ wx=>St K wx (blk bp (.cells #[.int .i64 ak,.slice sa p sc,.string nd.pg.hi,.bool nd.pg.la,.int .u64 nd.pg.ri] 43)::az (.slice mP A.length mQ) 69 2 A.length (aD A)::az (.slice (some ⟨gp,0,none⟩) ps.length pc) 3 1 ps.length (gm ps)::aJ bm bc (bU d L' (row.take j)) acc::az (.slice ao S.length co) 69 2 S.length (aD S)::blk vz (.cells #[.int .i64 d.th,.int .i64 d.sn,.int .i64 d.no,.int .i64 d.ch,.int .i64 d.re,.int .i64 d.fa,.int .u64 d.cl] 26)::az (.slice ka i kc) 9 1 i (bO ks)::F))
           case first=>
            as_aux_lemma=>
            by_cases hl:j+1=ps.length
            ·have Uc:nd.pg.hi=⟨#[]⟩/\nd.pg.la=true/\nd.pg.ri=0:=by
              rcases Hpg.out with⟨_,h⟩|⟨h,_⟩
              ·rw[h];exact⟨rfl,rfl,rfl⟩
              ·omega
             rw[decide_eq_true hl]at hs ⊢;have wq:=aq3 Uc;clear Uc hl;go_wp2
             go_meet;rw[wq.out.1,wq.out.2.1,wq.out.2.2];exact hs
            ·have hlt:j+1<ps.length:=by omega
             obtain⟨x,y,hx,hy,q1,q2,q3,q4⟩:=HQ.out.1.at (ak:=ak) Hpj.out hlt;rw[←HR.out.1]at q1;rw[gV Hpj.out,←HR.out.1]at hx hy;have Uc:nd.pg.hi=(if ak=0 then lY x.k y.k else y.k)/\nd.pg.la=false/\nd.pg.ri=nx+j+1:=by
              rcases Hpg.out with⟨h,_⟩|⟨_,h⟩
              ·omega
              ·rw[h];exact⟨by show nM ak _ p=_;rw[HR.out.1];exact q3,rfl,rfl⟩
             have wq:=aq3 Uc;obtain⟨rx0,rx1⟩:=fW S _ x hx;obtain⟨ry0,ry1⟩:=fW S _ y hy;have hylt:fr+p<S.length:=(aq5.1 hy).1;obtain⟨gs,rfl,_⟩:=hs.b4.cQ ry0;have Hrx:=aq3 rx0;have Hry:=aq3 ry0;have ajF:ak=0->y.k.size<=1000000:=by
              intro h;have ht:t=[]:=List.length_eq_zero_iff.1 (by rw[HP.out.tl];exact h)
              have hm:=aq7 hy;rw[HP.out.pi.s0 ht]at hm;have:=Hk.out.size _ (lD hm).1;omega
             have hw1:IntKind.u64.wrap ((nx:Int)+j+1)=(nx:Int)+j+1:=by rw[IntKind.wrap_u64];omega
             have Hw1:=aq3 hw1;clear Uc q1 q3 q4 rx0 rx1 ry0 ry1 hx hy hw1;rw[decide_eq_false hl]at hs ⊢;clear hl;go_upto_region 20 with(fail)
             have Hs:=aq3 hs;clear hs;refine aT [false,false,false,false,false,false,false,false,true,false,true] [8,10] (fun _=>[])
              (PlR K bp ak sa p sc y.k ((nx:Int)+j+1) (az (.slice mP A.length mQ) 69 2 A.length (aD A)::az (.slice (some ⟨gp,0,none⟩) ps.length pc) 3 1 ps.length (gm ps)::aJ bm bc (bU d L' (row.take j)) acc::az (.slice (some ⟨gs,0,none⟩) S.length co) 69 2 S.length (aD S)::blk vz (.cells #[.int .i64 d.th,.int .i64 d.sn,.int .i64 d.no,.int .i64 d.ch,.int .i64 d.re,.int .i64 d.fa,.int .u64 d.cl] 26)::az (.slice ka i kc) 9 1 i (bO ks)::F))
              (fun W=>St K W (az (.slice mP A.length mQ) 69 2 A.length (aD A)::az (.slice (some ⟨gp,0,none⟩) ps.length pc) 3 1 ps.length (gm ps)::aJ bm bc (bU d L' (row.take j)) acc::az (.slice (some ⟨gs,0,none⟩) S.length co) 69 2 S.length (aD S)::blk vz (.cells #[.int .i64 d.th,.int .i64 d.sn,.int .i64 d.no,.int .i64 d.ch,.int .i64 d.re,.int .i64 d.fa,.int .u64 d.cl] 26)::az (.slice ka i kc) 9 1 i (bO ks)::F)) ?aS (by kernel_rfl) ?hB ?H ?iD ?h0 ?hI ?hR ?hE ?hQ
             case hB=>as_aux_lemma=>kernel_rfl
             case H=>
              intro W2 hs;have c0:=hs.b3.bK Hry.out;clear hs;simp only[bL];repeat (go_big_quiet_step (fail))
              refine wpQuiet_nil ?_
              rfl
             case iD=>rfl
             case h0=>exact Hs.out
             case hI=>exact fun ρ W2 h=>St.tail h
             case hR=>exact fun ρ W2 W3 h hb=>St.same h hb
             case hE=>
              refine⟨?e8,?Xu,trivial⟩;case e8=>
               intro o ho ρ W2 h hcl h8 hd2 af aB;obtain rfl:=aq9 ho;replace aB:af=aj _ ρ [] _:=aB;simp only[aj]at aB;subst aB;have hs:St K W2 (blk bp (.cells _ 43)::_):=h;have k0:=hs.k0;have f0:=hs.f0;have hs:=hs.aI 4 (.int .u64 ((nx:Int)+j+1));have fZ:=aq3 hs;clear h hs hcl hd2;go_wp2
               refine⟨rfl,undef,rfl,?_⟩;have e1:upd ρ 8 undef 8=some undef:=by simp[upd]
               have e2:upd ρ 8 undef 10=ρ 10:=by simp[upd]
               unfold PlR;rw[e1,e2];exact fZ.out
              case Xu=>
               intro o ho ρ W2 h hcl h10 hd2 af aB;obtain rfl:=aq9 ho;replace aB:af=aj _ ρ [] _:=aB;simp only[aj]at aB;subst aB;have hs:St K W2 (blk bp (.cells _ 43)::_):=h;have k0:=hs.k0;have f0:=hs.f0;have hs:=hs.aI 2 (.string y.k);have fZ:=aq3 hs;clear h hs hcl hd2;go_wp2
               refine⟨rfl,undef,rfl,?_⟩;have e1:upd ρ 10 undef 10=some undef:=by simp[upd]
               have e2:upd ρ 10 undef 8=ρ 8:=by simp[upd]
               unfold PlR;rw[e1,e2];exact fZ.out
             case hQ=>
              intro ρ W2 h hall;obtain⟨v8,h8⟩:=aq6.1 (hall 8 (by simp))
              obtain⟨v10,h10⟩:=aq6.1 (hall 10 (by simp))
              unfold PlR at h;rw[h8,h10]at h;have hs:St K W2 (blk bp (.cells #[.int .i64 ak,.slice sa p sc,.string y.k,.bool false,.int .u64 ((nx:Int)+j+1)] 43)::az (.slice mP A.length mQ) 69 2 A.length (aD A)::az (.slice (some ⟨gp,0,none⟩) ps.length pc) 3 1 ps.length (gm ps)::aJ bm bc (bU d L' (row.take j)) acc::az (.slice (some ⟨gs,0,none⟩) S.length co) 69 2 S.length (aD S)::blk vz (.cells #[.int .i64 d.th,.int .i64 d.sn,.int .i64 d.no,.int .i64 d.ch,.int .i64 d.re,.int .i64 d.fa,.int .u64 d.cl] 26)::az (.slice ka i kc) 9 1 i (bO ks)::F):=h;simp only[aj,h8,h10,Option.getD_some,aM,List.getElem?_cons_succ,List.getElem?_cons_zero,Option.bind_some,Option.bind_none,Act.put];clear h hall h8 h10;by_cases hl0:ak=0
              ·subst hl0
               have kp:=hs.k0;have cx:=hs.b4.bK Hrx.out;have cy:=hs.b4.bK Hry.out;have Qs:=aq3 (fun wz=>(Gc x.k y.k (ajF rfl) wz).mono (by rintro e w' ⟨rfl,rfl⟩;exact And.intro rfl (Below.refl _ _):∀e w',_->(e=.returned (.string (lY x.k y.k))/\Below wz.heap.size wz w')))
               go_upto_region 22 with(fail)
               refine bQ 13 (by kernel_rfl) (by as_aux_lemma=>kernel_rfl) ?_
               simp only[List.take_succ_cons,List.take_zero,List.drop_succ_cons,List.drop_zero];repeat (go_big_quiet_step ((go_at_call 71;exact aX (Qs.out _))))
               refine wpQuiet_nil ?_
               intro w7 Zu;have hs:=hs.same Zu;clear kp cx cy Zu;have k0:=hs.k0;have f0:=hs.f0;have hs:=hs.aI 2 (.string (lY x.k y.k));have Ud:nd.pg.hi=lY x.k y.k:=by rw[wq.out.1,if_pos rfl]
               have Hp3:=aq3 Ud;clear Ud;go_wp2
               go_meet;rw[Hp3.out,wq.out.2.1,wq.out.2.2];exact hs
              ·have Ud:nd.pg.hi=y.k:=by rw[wq.out.1,if_neg hl0]
               have Hp3:=aq3 Ud;clear Ud;go_wp2
               go_meet;rw[Hp3.out,wq.out.2.1,wq.out.2.2];exact hs
           case rest=>
            clear hs;have hs:=hcut;clear hcut;have hpl:p=nd.pg.sl.length:=by rw[s6.out];simp;omega
            have hmid:nd.id=(nx:Int)+j:=Hid'.out;have Yt:(nd.pg.sl.length:Int)<=d.fa:=by rw[←hpl];exact HQ.out.2.1 p (aq7 Hpj.out)
            have lQ:bU d L' (row.take (j+1))=eZ d nd.id nd.pg (bU d L' (row.take j)):=by
             rw[List.take_add_one,Od.out];exact vU _ _ _
            have hs:St K wc (aJ bm bc (bU d L' (row.take j)) acc::blk bp (.cells #[.int .i64 nd.pg.ak,.slice sa nd.pg.sl.length sc,.string nd.pg.hi,.bool nd.pg.la,.int .u64 nd.pg.ri] 43)::az (.slice mP A.length mQ) 69 2 A.length (aD A)::az (.slice (some ⟨gp,0,none⟩) ps.length pc) 3 1 ps.length (gm ps)::az (.slice ao S.length co) 69 2 S.length (aD S)::blk vz (.cells #[.int .i64 d.th,.int .i64 d.sn,.int .i64 d.no,.int .i64 d.ch,.int .i64 d.re,.int .i64 d.fa,.int .u64 d.cl] 26)::az (.slice ka i kc) 9 1 i (bO ks)::F):=by
             rw[←hpl,uE.out];exact hs.re [3,0,1,2,4,5,6] rfl
            have hput:=ui (pg:=nd.pg) (id:=nd.id) (a:=sa) (cap:=sc) Hd.out (by rw[hmid];omega) (by rw[uE.out];omega) Yt (fun W h=>Hsa.out W _ (h.re [3,0,1,2,4,5] rfl)) hs
            rw[hmid]at hput;rw[←hmid,←lQ,hmid]at hput;have aeM:=aq3 hput;have kp:=hs.k1;have kcf:=hs.b5.k0;clear hput lQ hmid Yt hpl;go_wp2_with fail
            refine(aeM.out).mono ?_
            clear hs kp kcf aeM;rintro e w5 ⟨rfl,hs⟩;go_upto_region 24 with(fail)
            go_cut [136] (fun ajH wx=>∃b:Bool,ajH=.bool b/\Hid (b=false->0<j/\dV=true)/\St K wx (aJ bm bc (bU d L' (row.take (j+1))) acc::blk bp (.cells #[.int .i64 nd.pg.ak,.slice sa nd.pg.sl.length sc,.string nd.pg.hi,.bool nd.pg.la,.int .u64 nd.pg.ri] 43)::az (.slice mP A.length mQ) 69 2 A.length (aD A)::az (.slice (some ⟨gp,0,none⟩) ps.length pc) 3 1 ps.length (gm ps)::az (.slice ao S.length co) 69 2 S.length (aD S)::blk vz (.cells #[.int .i64 d.th,.int .i64 d.sn,.int .i64 d.no,.int .i64 d.ch,.int .i64 d.re,.int .i64 d.fa,.int .u64 d.cl] 26)::az (.slice ka i kc) 9 1 i (bO ks)::F))
            case first=>
             as_aux_lemma=>
             by_cases hj0:j=0
             ·subst hj0
              go_wp2
              go_meet;exact⟨true,rfl,aq3 (fun h=>by cases h),hs⟩
             ·have hj1:0<j:=by omega
              cases dV with
              | false=>
               go_wp2
               go_meet;exact⟨true,rfl,aq3 (fun h=>by cases h),hs⟩
              | true=>
               go_wp2
               go_meet;exact⟨_,rfl,aq3 (fun _=>⟨hj1,by first|rfl|trivial⟩),hs⟩
            case rest=>
             clear hs;obtain⟨b,rfl,Hb,hs⟩:=hcut;apply_assumption
             go_cut [16] (fun v16 wx=>∃(A':List Sl) (ao3:Option Addr) (co3:Nat),v16=.slice ao3 A'.length co3/\Hid (gZ row (j+1) A' dV)/\St K wx (aJ bm bc (bU d L' (row.take (j+1))) acc::blk bp (.cells #[.int .i64 nd.pg.ak,.slice sa nd.pg.sl.length sc,.string nd.pg.hi,.bool nd.pg.la,.int .u64 nd.pg.ri] 43)::az (.slice ao3 A'.length co3) 69 2 A'.length (aD A')::az (.slice (some ⟨gp,0,none⟩) ps.length pc) 3 1 ps.length (gm ps)::az (.slice ao S.length co) 69 2 S.length (aD S)::blk vz (.cells #[.int .i64 d.th,.int .i64 d.sn,.int .i64 d.no,.int .i64 d.ch,.int .i64 d.re,.int .i64 d.fa,.int .u64 d.cl] 26)::az (.slice ka i kc) 9 1 i (bO ks)::F))
             case first=>
              as_aux_lemma=>
              cases b with
              | false=>
               go_wp2
               go_meet;exact⟨A,mP,mQ,rfl,aq3 (HR.out.2.1.skip (Hb.out (by first|rfl|trivial)).1 (Hb.out (by first|rfl|trivial)).2),hs⟩
              | true=>
               have e0:j7 nd=⟨low,(nx:Int)+j⟩:=by unfold j7;rw[HR.out.2.2 nd Od.out,Hid'.out]
               have E0:=aq3 e0;clear e0;go_wp2_with (at_builtin;refine dF _ _ 41 69 _ A.length 2 24 _ (gY ⟨low,(nx:Int)+j⟩) (.agg #[.string ⟨#[]⟩,.int .u64 0]) iv hs.b2 rfl rfl Tryz.underlying41 lI.out lJ.out lK.out lM.out rfl (by decide) rfl rfl rfl (fun u hu=>by simp[gY]at hu;rcases hu with rfl|rfl <;> rfl) (by omega) (by decide) ?_)
               clear hs;intro v' w' hs;obtain⟨ao3,co3,hv,_,_⟩:=hs.aH;subst hv;go_wp2
               go_meet;exact⟨A++[j7 nd],ao3,co3,by rw[List.length_append];rfl,aq3 (HR.out.2.1.push Iw.out.1 Od.out),by rw[List.length_append,E0.out,uT];exact hs.re [1,2,0] rfl⟩
             case rest=>
              clear hs;obtain⟨A',ao3,co3,rfl,HA',hs⟩:=hcut;have kp:=hs.k1;have ajI:A'.length<=j+1:=HA'.out.len;have aeN:∀l8,row[j+1]?=some l8->l8.low=nd.pg.hi:=fun l8 h=>((Iw.out.1.next j nd l8 Od.out h).2.1).symm
              have ajJ:=aq3 aeN;clear aeN;go_wp2
              go_roundw
              case rel=>exact⟨j+1,fr+p,A',ao3,co3,nd.pg.hi,rfl,rfl,by go_num,by go_num,by omega,hfp,ajI,aq3 ⟨by rw[gV Hpj.out,HR.out.1],HA'.out,ajJ.out⟩,(hs.re [1,2,3,0] rfl).tail⟩
              case measure=>simp[intOf];omega
        ·obtain rfl:j=ps.length:=by omega
         have ab9:((nx+ps.length:Nat):Int)<=d.no+1:=by
          have ym:=Hno.out;rcases Nat.eq_zero_or_pos ak with h|h
          ·have:=HP.out.z h;have:=(HQ.out.2.2.1 h).2;omega
          ·have h1:=HP.out.p h
           have h2:=HQ.out.2.2.2 h;have h3:S.length<=2\/3<=S.length:=by omega
           rcases h3 with h3|h3
           ·have:=Im S.length ab8;omega
           ·have h4:=Ku S.length ab8 h3
            have h5:=Im ((S.length+1) / 2) (by omega)
            omega
         have aaj:t≠[]->2*ps.length<=S.length+1:=fun hne=>by
          have h0:0<ak:=by rw[←HP.out.tl];exact List.length_pos_iff.2 hne
          have:=HQ.out.2.2.2 h0;omega
         have hst:=HP.out.pi.step Hd.out (A:=A) HQ.out.1 HQ.out.2.1 HP.out.nx1 ab9 (by rw[HP.out.tl];omega) (by rw[←aai.out];exact HR.out.2.1) aaj
         clear aaj;rw[←aai.out]at hst;have lQ:row.take ps.length=row:=by rw[←Iw.out.2,List.take_length]
         rw[lQ]at hs;have Hst:=aq3 hst;have aop:=aq3 ab9;clear hst lQ ab9;by_cases hone:ps.length=1
         ·have hn1:nx+1<=101:=by
           rcases Nat.eq_zero_or_pos ak with h|h
           ·have:=HP.out.z h;omega
           ·have:=HP.out.p h;have:=Im S.length ab8;omega
          obtain⟨nd,Ue⟩:∃nd,row=[nd]:=List.length_eq_one_iff.1 (by rw[Iw.out.2];exact hone)
          have HX:Hid (oO d ks dV (aP (aP (bU d L' row) 0 ⟨nx,⟨#[]⟩,0⟩) 4 ⟨nx,⟨#[]⟩,0⟩) (t++[row])):=aq3 (by
           have hcn:nk ⟨nx,⟨#[]⟩,0⟩:=⟨by show(0:Int)<=nx;omega,by show(nx:Int)<_;omega⟩
           have hlen:(bU d L' row).length=L'.length:=jD _ _;have hcl:=HP.out.pi.eu;have hcells:=Hd.out.eb;have hA8:=Hd.out.eC;have hB8:=Hd.out.jU;have hC8:=Hd.out.ox;have hz:(row[0]?)=some nd:=by rw[Ue];rfl
           obtain⟨_,_,hid,_⟩:=Hat.out 0 nd hz;have hst:=Hst.out;rw[hone]at hst;refine hst.last Hd.out (nd:=nd) (by rw[List.length_append,Ue];simp) (by rw[hid];push_cast;omega) hn1 ?_ ?_ (fun k hk hk4=>by rw[bj (by omega),bj (by omega)]) ((hst.gQ.put hcn).put hcn) (by rw[aY,aY])
           ·rw[bj (by omega),cB (by omega) (by rw[hlen];omega)]
            push_cast;omega
           ·rw[cB (by omega) (by rw[aY,hlen];omega)]
            push_cast;omega)
          have Hlt:=aq3 (show(t++[row]).length=ak+1 by rw[List.length_append,HP.out.tl];rfl)
          have hs:=hs.b2;clear Ue hn1;go_wp2_with fail
          refine(gy (i:=0) (c:=⟨nx,⟨#[]⟩,0⟩) hs).mono ?_
          clear hs;rintro e w7 ⟨rfl,hs⟩;go_wp2_with fail
          refine(gy (i:=4) (c:=⟨nx,⟨#[]⟩,0⟩) hs).mono ?_
          clear hs;rintro e w8 ⟨rfl,hs⟩;go_wp2
          go_ret;exact⟨t++[row],_,by rw[Hlt.out];push_cast;rfl,HX,(hs.re [1,2,3,4,0] rfl).tail.tail.tail.tail⟩
         ·have hAp:A.length<=ps.length:=HR.out.2.1.len
          have HN:=aq3 (HP.out.next HQ.out.1 (fun h=>(HQ.out.2.2.1 h).2) HQ.out.2.2.2 hone hAp (by rw[List.length_append,HP.out.tl];rfl) Hst.out)
          have hms:A.length<S.length+(if (ak:Int)=0 then 1 else 0):=by
           obtain⟨h1,h2⟩:=HP.out.uV HQ.out.1 (fun h=>(HQ.out.2.2.1 h).2) HQ.out.2.2.2 hone
           split
           ·omega
           ·have:=(h2 (by omega)).2;omega
          have Hms:=aq3 hms;clear hms;go_wp2
          go_roundw
          case rel=>exact⟨_,nx+ps.length,ak+1,A,t++[row],mP,mQ,bU d L' row,rfl,rfl,by go_num,by go_num,by omega,by omega,HN,(hs.re [1,3,2,0] rfl).tail.tail⟩
          case measure=>
           have h:=Hms.out;simp only[aag,intOf];have e0:¬ ((ak:Int)+1=0):=by omega
           by_cases hl:(ak:Int)=0
           ·simp only[e0,hl,if_true,if_false]at h ⊢
            simp at h ⊢;omega
           ·simp only[e0,hl,if_false]at h ⊢;omega
end
end
section
section
variable {K:aL}{w:World}{F:List aC}{b bm bc:Nat}{d:aR}{L:List aO}{acc:Nat}{key:ByteArray}{level:Nat}{s:pO}{t:List (List Nd)}{m:Nat}
theorem kj.done (h:kj d L t key level s m)(h2:2<=s.pc):s.pc=2/\Tv t key level s:=by
 rcases h with⟨h,_⟩|⟨h,_⟩|⟨h,r⟩
 ·omega
 ·omega
 ·exact⟨h,r⟩
end
theorem uW {d:aR}(hd:d.Ok)(j:Int)(h:nP d j):ah (ck d) j=aO.zero:=by
 have hf:=hd.fo;have hA:=hd.eC;have hB:=hd.jU;have hl:=(iy d hd).2.2 j (by rcases h with h|h <;> omega)
 rw[hl,if_neg (h.node hd (by omega) hd.Jo (by omega) (by omega)),if_neg (by rcases h with h|h <;> omega),if_neg (by rcases h with h|h <;> omega)]
theorem xD {d:aR}(hd:d.Ok)(id:Int)(h1:1<=id)(h2:id<=d.no):ah (ck d) (d.node id 0)=aO.zero:=by
 have hf:=hd.fo;have n0:=bV hd h1 h2 (k:=0) (by omega) (by omega)
 have hA:=hd.eC;have m3:0<=(id-1)*(d.fa+4):=Int.mul_nonneg (by omega) (by omega)
 have hl:=(iy d hd).2.2 (d.node id 0) n0.2.1;rw[hl];split
 ·rename_i h
  exfalso
  by_cases e:id=1
  ·subst e;exact dw hd h1 h2 (k:=0) (k' := 2) (by omega) (by omega) (by omega) (by omega) (by omega) h
  ·exact cK hd h1 h2 (by omega) hd.Jo (k:=0) (k' := 2) (by omega) (by omega) (by omega) (by omega) e h
 ·split
  ·omega
  ·split
   ·omega
   ·rfl
section
variable {w0 w:World}{F:List aC}{a:Option Addr}{len cap:Nat}{f:Nat->ByteArray}{fanout sh:Int}{dV:Bool}
end
section
variable {K:aL}{w:World}{cs:List aC}
end
theorem qG:∀t:List (List Nd),(∀l,l∈t->0<l.length)->t.length<=(t.map List.length).sum
 | [],_=>Nat.le_refl _
 | l::t,h=>by
  have:=qG t (fun x hx=>h x (List.mem_cons_of_mem _ hx))
  have:=h l List.mem_cons_self;simp only[List.length_cons,List.map_cons,List.sum_cons];omega
theorem cD.zh {d:aR}{L:List aO}{t:List (List Nd)}(ht:cD d L t)(hd:d.Ok):t.length<=4096:=by
 refine Nat.le_trans (qG t fun l hl=>?_) (by have:=ht.count;have:=ht.n4;have:=hd.mJ;omega)
 obtain⟨k,hk⟩:=aq4 hl;exact(ht.rows k l hk).ne
theorem wu {K:aL}{w:World}{F:List aC}{d:aR}{L:List aO}{t:List (List Nd)}{g:Nat}(hd:d.Ok)(ht:cD d L t)(hl:(L.length:Int)=d.cells)(hg:K.map g=some (.cells (flat L).toArray 63))(hs:St K w F) :
  Calls Tryz.prog 26 #[.agg #[.int .i64 (d).th,.int .i64 (d).sn,.int .i64 (d).no,.int .i64 (d).ch,.int .i64 (d).re,.int .i64 (d).fa,.int .u64 (d).cl,.slice (some ⟨g,0,none⟩) L.length L.length]] w fun e w' => e=.returned (.int .i64 t.length)/\St K w' F:=by
 have h4:=hd.eb;have hT:=ht.zh hd;have h0:=ht.ne;obtain⟨nd,rest,h1,h2⟩:=ht.top;have hn:=ht.nodes _ _ h1 nd List.mem_cons_self;have bZ:=(ht.rows _ _ h1).ak nd List.mem_cons_self;refine(vW (pg:=nd.pg) hd (by rw[h2];exact hn.id.1) (by rw[h2];exact hn.id.2) (by rw[h2];exact hn.page) (by omega) hg (by omega) hs).mono ?_
 rintro e w' ⟨rfl,hs'⟩;refine⟨?_,hs'⟩;rw[show nd.pg.ak+1=(t.length:Int)by omega]
end
section
def nT (t:List (List Nd))(key:ByteArray)(level:Nat)(nd:Nd):Prop:=
 ∃(l:List Nd) (i:Nat),t[level]?=some l/\l[i]?=some nd/\cA key nd.low=false/\(nd.pg.la || cA key nd.pg.hi)=true
def lG (d:aR)(L:List aO)(nd:Nd):Int:=(ah L (d.node nd.id 0)).n
def qH (d:aR)(L:List aO)(nd:Nd):List aO:=aP L (d.node nd.id 0) ⟨aN (lG d L nd),⟨#[]⟩,0⟩
theorem jw {x:Int}(h:x%4=0):aN x=x+1:=by
 unfold aN;rw[if_pos (by omega)]
theorem jq {x:Int}(h:x%4=0):aG (x+1)=x:=by
 unfold aG;omega
def Yu (d:aR)(L:List aO)(t:List (List Nd))(key:ByteArray)(level:Nat)(s:vB)(L1:List aO)(m:Nat):Prop:=
 (s.pc=0/\s.h=l6/\L1=L/\s.fd.pc≠2/\∃m0,kj d L t key level s.fd m0/\m0+(d.fa.toNat+6)<=m) \/
 (s.pc=1/\s.h=l6/\L1=L/\∃nd,nT t key level nd/\s.id=nd.id/\((s.aq.pc=0/\s.aq.word=0/\d.fa.toNat+5<=m)\/(s.aq.pc=1/\s.aq.word=aN (lG d L nd)/\d.fa.toNat+4<=m))) \/
 (s.pc=2/\s.h=l6/\∃nd n,nT t key level nd/\s.id=nd.id/\L1=qH d L nd/\s.ow=it (bA d nd.id L1) n (nC (aN (lG d L nd)))/\s.ow.pc≠6/\n<nd.pg.sl.length+3/\nd.pg.sl.length+3-n<=m) \/
 (s.pc=4/\((∃nd,nT t key level nd/\s.h=⟨nd.id,aN (lG d L nd),nd.pg⟩/\L1=qH d L nd)\/(t.length<=level/\s.h=l6/\L1=L)))
section
variable {d:aR}{L:List aO}{t:List (List Nd)}{key:ByteArray}{level:Nat}{s:vB}{L1:List aO}{m:Nat}
theorem Yu.start (m:Nat)(h:(t.map List.length).sum*bJ d+1+(d.fa.toNat+6)<=m):Yu d L t key level oA L m:=
 .inl ⟨rfl,rfl,rfl,by show(0:Nat)≠2;decide,_,kj.start,h⟩
theorem nT.nd (ht:cD d L t){nd:Nd}(h:nT t key level nd):uM d L nd:=by
 obtain⟨l,i,hl,hi,_⟩:=h;exact ht.nodes level l hl nd (aq7 hi)
theorem zi (hL:bD L){nd:Nd}(h:(lG d L nd)%4=0):0<=aN (lG d L nd)/\aN (lG d L nd)<18446744073709551616:=by
 have h1:=(hL (d.node nd.id 0)).1;have h2:=(hL (d.node nd.id 0)).2;rw[jw h];unfold lG at *;omega
theorem Dn (hL:bD L){nd:Nd}(h:(lG d L nd)%4=0):bD (qH d L nd):=hL.put (zi hL h)
theorem Yv (hd:d.Ok){id:Int}{L:List aO}(hL:bD L){s:jX}(h:s.Wi d)(n:Nat):(it (bA d id L) n s).Wi d:=by
 induction n with
 | zero=>exact h
 | succ n ih=>rw[qh];exact o7 hd hL ih
theorem Uf {id:Int}{L:List aO}{pg:Pg}(h:cT d id L pg){word:Int}{n:Nat}(h6:(it (bA d id L) n (nC word)).pc=6):it (bA d id L) n (nC word)=⟨6,pg,0,word,false⟩:=by
 have h3:=xe h (word:=word);rcases Nat.le_total n (pg.sl.length+3)with hle|hle
 ·rw[show pg.sl.length+3=n+(pg.sl.length+3-n)by omega,tZ,Fp (yl h6)]at h3
  exact h3
 ·exact yc h3 (yl rfl) hle
theorem Ug {id:Int}{L:List aO}{pg:Pg}(h:cT d id L pg){word:Int}{n:Nat}(h6:(it (bA d id L) n (nC word)).pc≠6):n<pg.sl.length+3:=by
 refine Nat.lt_of_not_le fun hle=>h6 ?_
 rw[yc (xe h) (yl rfl) hle]
theorem Yu.step (hd:d.Ok)(hL:bD L)(hlen:(L.length:Int)=d.cells)(ht:cD d L t)(h:Yu d L t key level s L1 m)(pM:s.pc≠4) :
  1<=m/\s.Ok d key level L1/\s.h=l6/\bD L1/\Yu d L t key level (aK d key level L1 s).1 (aK d key level L1 s).2 (m-1):=by
 have iX:=hd.mJ;have vT:=hd.mK;obtain⟨pc,fd,id,aq,ow,hh⟩:=s;rcases h with⟨h0,h1,rfl,h2,m0,hI,hm⟩|⟨h0,h1,rfl,nd,hc,h2,h3⟩|⟨h0,h1,nd,n,hc,h2,rfl,h3,h4,h5,hm⟩|⟨h0,_⟩
 ·simp only at h0 h1 h2 hI
  subst h0 h1;obtain⟨q1,q2,q3,q4⟩:=hI.step hd hL ht h2;have hid:(bS d L1 key level fd).pc=2->Tv t key level (bS d L1 key level fd):=fun e=>(q2.done (by omega)).2
  have hbd:(bS d L1 key level fd).pc=2->(0<=(bS d L1 key level fd).id/\(bS d L1 key level fd).id<18446744073709551616)/\(bS d L1 key level fd).pg.sl.length<=1000000:=by
   intro e;obtain⟨r1,r2⟩:=hid e;rcases Nat.lt_or_ge level t.length with hl|hl
   ·obtain⟨l,i,nd,hl,hi,e1,e2,_⟩:=r1 hl
    have hN:=ht.nodes level l hl nd (aq7 hi);have h3:=hN.id;have h4:=hN.page.le;rw[e1,e2];exact⟨by omega,by omega⟩
   ·obtain⟨e1,e2⟩:=r2 hl
    rw[e1,e2];exact⟨by omega,by show(0:Nat)<=1000000;omega⟩
  refine⟨by omega,⟨Nat.zero_le _,fun _=>⟨q3,h2,q4,hbd⟩,fun h=>by simp at h,fun h=>by simp at h,fun h=>by simp at h,fun h=>by simp at h⟩,rfl,hL,?_⟩
  unfold aK;simp only;by_cases hp:(bS d L1 key level fd).pc=2
  ·rw[if_pos hp]
   obtain⟨r1,r2⟩:=hid hp;rcases Nat.lt_or_ge level t.length with hl|hl
   ·obtain⟨l,i,nd,hl,hi,e1,e2,e3,e4⟩:=r1 hl
    have hN:=ht.nodes level l hl nd (aq7 hi);have h3:=hN.id;rw[if_neg (by rw[e1];omega)]
    exact .inr (.inl ⟨rfl,rfl,rfl,nd,⟨l,i,hl,hi,e3,e4⟩,e1,.inl ⟨rfl,rfl,by omega⟩⟩)
   ·rw[if_pos (r2 hl).1]
    exact .inr (.inr (.inr ⟨rfl,.inr ⟨hl,rfl,rfl⟩⟩))
  ·rw[if_neg hp]
   exact .inl ⟨rfl,rfl,rfl,hp,_,q2,by omega⟩
 ·simp only at h0 h1 h2 h3
  subst h0 h1 h2;have hN:=hc.nd ht;have hid:=hN.id;have hw4:lG d L1 nd%4=0:=hN.free.n;have hlk:=jw hw4;have hbd:=zi hL hw4;have hw:(ah L1 (d.node nd.id 0)).n=lG d L1 nd:=rfl;have hpos:=bV hd hid.1 hid.2 (k:=0) (by omega) (by have:=hd.fo;omega)
  refine⟨by rcases h3 with⟨_,_,h⟩|⟨_,_,h⟩ <;> omega,⟨by show 1<=3;omega,fun h=>by simp at h,fun _=>by simp only;omega,fun _=>?_,fun h=>by simp at h,fun h=>by simp at h⟩,rfl,hL,?_⟩
  ·rcases h3 with⟨e1,e2,_⟩|⟨e1,e2,_⟩
   ·exact⟨⟨by simp only[e1];omega,by simp only[e2];omega⟩,by simp only[e1];omega⟩
   ·exact⟨⟨by simp only[e1];omega,by simp only[e2];exact hbd⟩,by simp only[e1];omega⟩
  ·obtain⟨ap,aw⟩:=aq
   simp only at h3;unfold aK bM;rcases h3 with⟨rfl,rfl,h⟩|⟨rfl,rfl,h⟩
   ·have h2:¬ (lG d L1 nd%2=1):=by omega
    simp only[hw,if_neg h2];rw[if_neg (by simp)]
    exact .inr (.inl ⟨rfl,rfl,rfl,nd,hc,rfl,.inr ⟨rfl,rfl,by omega⟩⟩)
   ·have hsw:bX L1 (d.node nd.id 0) (aG (aN (lG d L1 nd)))=true:=by
     unfold bX;rw[hw,hlk,jq hw4];rw[decide_eq_true (by omega:0<=d.node nd.id 0),decide_eq_true (by omega:d.node nd.id 0<(L1.length:Int)),decide_eq_true (by rfl)]
     rfl
    simp only[hsw,if_true];refine .inr (.inr (.inl ⟨rfl,rfl,nd,0,hc,rfl,rfl,rfl,by show(1:Nat)≠6;decide,by omega,?_⟩))
    have:=hN.page.le;omega
 ·simp only at h0 h1 h2 h3 h4
  subst h0 h1 h2;have hN:=hc.nd ht;have hid:=hN.id;have hp:cT d nd.id (qH d L nd) nd.pg:=cT.wR hd hid.1 hid.2 hN.page;have hLc:=Dn (d:=d) hL (nd:=nd) hN.free.n;have hok:ow.Wi d:=by rw[h3];exact Yv hd hLc (Ki d _) n
  refine⟨by omega,⟨by show 2<=3;omega,fun h=>by simp at h,fun _=>by simp only;omega,fun h=>by simp at h,fun _=>⟨hok,h4⟩,fun h=>by simp at h⟩,rfl,hLc,?_⟩
  unfold aK;simp only;have hst:bA d nd.id (qH d L nd) ow=it (bA d nd.id (qH d L nd)) (n+1) (nC (aN (lG d L nd))):=by rw[qh,←h3]
  by_cases h6:(bA d nd.id (qH d L nd) ow).pc=6
  ·rw[if_pos h6]
   have dB:=Uf hp (by rw[←hst];exact h6)
   rw[←hst]at dB;rw[dB];simp only;have hin:qE key nd.pg=true:=by obtain⟨_,_,_,_,_,h⟩:=hc;exact h
   rw[if_pos hin];exact .inr (.inr (.inr ⟨rfl,.inl ⟨nd,hc,rfl,rfl⟩⟩))
  ·rw[if_neg h6]
   have:=Ug hp (by rw[←hst];exact h6)
   exact .inr (.inr (.inl ⟨rfl,rfl,nd,n+1,hc,rfl,rfl,hst,h6,by omega,by omega⟩))
 ·exact absurd h0 pM
end
end
section
theorem Uh {d:aR}{id:Int}{L:List aO}{p q:Pg}(h1:cT d id L p)(h2:cT d id L q):p=q:=by
 rw[←Kv h1,←Kv h2]
section
variable {d:aR}{L:List aO}{t:List (List Nd)}
theorem cD.inj (ht:cD d L t)(k k':Nat)(l l':List Nd)(i i':Nat)(a b:Nd)(hk:t[k]?=some l)(hk':t[k']?=some l')(ha:l[i]?=some a)(hb:l'[i']?=some b)(he:a.id=b.id):k=k' /\ i=i' := by
 have h1:=ht.nodes k l hk a (aq7 ha);have h2:=ht.nodes k' l' hk' b (aq7 hb);have e:a.pg=b.pg:=Uh h1.page (by rw[he];exact h2.page)
 have l1:=(ht.rows k l hk).ak a (aq7 ha);have l2:=(ht.rows k' l' hk').ak b (aq7 hb);rw[e]at l1;have ek:k=k' := by omega
 subst ek;rw[hk]at hk';obtain rfl:=aq9 hk';refine⟨rfl,?_⟩;have hR:=ht.rows k l hk;have key:∀(p q:Nat) (x y:Nd),l[p]?=some x->l[q]?=some y->x.pg=y.pg->p<q->False:=by
  intro p q x y hx hy hxy hpq;have hq:=(aq5.1 hy).1;obtain⟨z,hz⟩:∃z,l[p+1]?=some z:=⟨_,aq8 (by omega)⟩
  obtain⟨n1,n2,n3,n4⟩:=hR.next p x z hx hz;rcases Nat.lt_or_ge (q+1) l.length with hlt|hge
  ·obtain⟨u,hu⟩:∃u,l[q+1]?=some u:=⟨_,aq8 hlt⟩
   obtain⟨_,m2,_,_⟩:=hR.next q y u hy hu;have:=hR.pH (q+1) (p+1) z u hz hu (by omega)
   rw[←n2,←m2,hxy,dm]at this;cases this
  ·have:=(hR.last q y hy (by omega)).1
   rw[←hxy,n1]at this;cases this
 rcases Nat.lt_trichotomy i i' with h|h|h
 ·exact(key i i' a b ha hb e h).elim
 ·exact h
 ·exact(key i' i b a hb ha e.symm h).elim
theorem cD.shp (ht:cD d L t):r9 (ah L 4).n t:=
 ⟨ht.ne,ht.rows,fun k l hk nd hn=>by
  have h:=ht.nodes k l hk nd hn;exact⟨⟨h.id.1,ht.used k l hk nd hn⟩,h.jA,h.rf,h.bd⟩,ht.down,ht.inj,ht.count⟩
structure aeP (d:aR)(L:List aO)(nd:Nd):Prop where
 page:cT d nd.id L nd.pg
 hold:Holds L (bP d nd.id nd.pg)
 free:iQ (ah L (d.node nd.id 0))
theorem cD.of (hs:r9 (ah L 4).n t)(tz:(ah L 4).n<=d.no)(fU:∃nd rest,t[t.length-1]?=some (nd::rest)/\(ah L 0).n=nd.id)(hm:∀(k:Nat)(l:List Nd),t[k]?=some l->∀nd,nd∈l->aeP d L nd):cD d L t:=by
 refine⟨hs.ne,hs.rows,fun k l hk nd hn=>?_,fU,hs.down,hs.count,tz,fun k l hk nd hn=>(hs.nodes k l hk nd hn).1.2⟩
 obtain⟨q1,q2⟩:=hs.nodes k l hk nd hn;have q3:=hm k l hk nd hn;exact⟨⟨q1.1,by omega⟩,q3.page,q3.hold,q3.free,q2.jA,q2.rf,q2.bd⟩
end
theorem qI {l:List Sl}{key:ByteArray}{r:Int}{i:Nat}{s:Sl}(h:(eQ l key r)[i]?=some s):(i<gD l key/\l[i]?=some s)\/(i=gD l key/\s=⟨key,r⟩)\/(gD l key<i/\l[i-1]?=some s):=by
 have hle:=ue l key;unfold eQ at h;have hlen:(l.take (gD l key)).length=gD l key:=by rw[List.length_take];omega
 rcases Nat.lt_trichotomy i (gD l key)with h1|h1|h1
 ·rw[List.getElem?_append_left (by rw[hlen];exact h1),List.getElem?_take,if_pos h1]at h
  exact .inl ⟨h1,h⟩
 ·rw[List.getElem?_append_right (by rw[hlen];omega),hlen,h1,Nat.sub_self]at h
  exact .inr (.inl ⟨h1,(aq9 h).symm⟩)
 ·rw[List.getElem?_append_right (by rw[hlen];omega),hlen]at h
  obtain⟨m,rfl⟩:∃m,i=gD l key+1+m:=⟨i-(gD l key+1),by omega⟩
  rw[show gD l key+1+m-gD l key=m+1 by omega,List.getElem?_cons_succ,List.getElem?_drop]at h
  exact .inr (.inr ⟨h1,by rw[show gD l key+1+m-1=gD l key+m by omega];exact h⟩)
theorem Oe {l:List Sl}{key:ByteArray}{r:Int}(ha:kV l)(hno:∀s,s∈l->s.k≠key):kV (eQ l key r):=by
 have hlo:∀(i:Nat) (s:Sl),l[i]?=some s->i<gD l key->cA s.k key=true:=fun i s hs h=>(jK ha hs).2 h
 have hhi:∀(i:Nat) (s:Sl),l[i]?=some s->gD l key<=i->cA key s.k=true:=fun i s hs h=>by
  cases hc:cA key s.k with
  | true=>rfl
  | false=>
   cases hc2:cA s.k key with
   | true=>have:=(jK ha hs).1 hc2;omega
   | false=>exact absurd (gB hc2 hc) (hno s (aq7 hs))
 unfold kV;rw[List.pairwise_iff_getElem];intro i j hi hj hij;obtain⟨x,hx⟩:∃x,(eQ l key r)[i]?=some x:=⟨_,aq8 hi⟩;obtain⟨y,hy⟩:∃y,(eQ l key r)[j]?=some y:=⟨_,aq8 hj⟩;rw[(aq5.1 hx).2,(aq5.1 hy).2];rcases qI hx with⟨a1,a2⟩|⟨a1,rfl⟩|⟨a1,a2⟩
 ·rcases qI hy with⟨b1,b2⟩|⟨b1,rfl⟩|⟨b1,b2⟩
  ·exact kQ ha a2 b2 hij
  ·exact hlo i x a2 a1
  ·exact kQ ha a2 b2 (by omega)
 ·rcases qI hy with⟨b1,b2⟩|⟨b1,rfl⟩|⟨b1,b2⟩
  ·omega
  ·omega
  ·exact hhi _ y b2 (by omega)
 ·rcases qI hy with⟨b1,b2⟩|⟨b1,rfl⟩|⟨b1,b2⟩
  ·omega
  ·omega
  ·exact kQ ha a2 b2 (by omega)
theorem xE {pg:Pg}{x y:Sl}(hx:pg.sl[gh pg.sl.length-1]?=some x)(hy:pg.sl[gh pg.sl.length]?=some y):bN pg=if pg.ak=0 then lY x.k y.k else y.k:=by
 unfold bN;rw[hx,hy]
theorem Ld {pg:Pg}(h2:2<=pg.sl.length):∃x y:Sl,1<=gh pg.sl.length/\pg.sl[gh pg.sl.length-1]?=some x/\pg.sl[gh pg.sl.length]?=some y:=by
 have hk:1<=gh pg.sl.length/\gh pg.sl.length<pg.sl.length:=by unfold gh;omega
 exact⟨_,_,hk.1,aq8 (by omega),aq8 hk.2⟩
theorem Yw {pg:Pg}(ha:kV pg.sl)(h2:2<=pg.sl.length):(∀s,s∈pg.sl.take (gh pg.sl.length)->cA s.k (bN pg)=true)/\(∀s,s∈pg.sl.drop (gh pg.sl.length)->cA s.k (bN pg)=false) /\
  (∃x,x∈pg.sl/\cA x.k (bN pg)=true)/\(∃y,y∈pg.sl/\cA y.k (bN pg)=false):=by
 obtain⟨x,y,h1,hx,hy⟩:=Ld h2;have hxy:=kQ ha hx hy (by omega)
 have hsep:cA x.k (bN pg)=true/\cA y.k (bN pg)=false:=by
  rw[xE hx hy];split
  ·exact s5 hxy
  ·exact⟨hxy,dm _⟩
 refine⟨fun s hs=>?_,fun s hs=>?_,⟨x,aq7 hx,hsep.1⟩,⟨y,aq7 hy,hsep.2⟩⟩
 ·obtain⟨i,hi⟩:=aq4 hs
  rw[List.getElem?_take]at hi;split at hi
  ·exact iz (yV ha hi hx (by omega)) hsep.1
  ·cases hi
 ·obtain⟨i,hi⟩:=aq4 hs
  rw[List.getElem?_drop]at hi;exact ql hsep.2 (yV ha hy hi (by omega))
theorem Ui {l:List Sl}(h:kV l)(n:Nat):kV (l.take n):=h.sublist (List.take_sublist _ _)
theorem Uj {l:List Sl}(h:kV l)(n:Nat):kV (l.drop n):=h.sublist (List.drop_sublist _ _)
section
variable {nd:Nd}{key:ByteArray}{r:Int}{fu:Pg}{n:Int}
theorem Yx (h:Lb nd)(dW:cA key nd.low=false)(hin:(nd.pg.la || cA key nd.pg.hi)=true)(hno:∀s,s∈nd.pg.sl->s.k≠key)(hr:1<=r):Lb { nd with pg:=aZ nd.pg key r }:=by
 refine⟨Oe h.jA hno,fun s hs=>?_,fun s hs=>?_⟩
 ·rcases jS hs with hs|rfl
  ·exact h.rf s hs
  ·exact hr
 ·rcases jS hs with hs|rfl
  ·exact h.bd s hs
  ·refine⟨dW,fun kN=>?_⟩
   have kN:nd.pg.la=false:=kN;rw[kN,Bool.false_or]at hin;exact hin
theorem Yy (h:Lb { nd with pg:=fu }) (h2:2<=fu.sl.length):Lb { nd with pg:=fA fu n }/\Lb ⟨n,bN fu,dI fu⟩/\cA nd.low (bN fu)=true/\(fu.la=false->cA (bN fu) fu.hi=true):=by
 obtain⟨s1,s2,⟨x,hx,s3⟩,⟨y,hy,s4⟩⟩:=Yw (show kV fu.sl from h.jA) h2
 refine⟨⟨Ui h.jA _,fun s hs=>h.rf s (List.mem_of_mem_take hs),fun s hs=>⟨(h.bd s (List.mem_of_mem_take hs)).1,fun _=>s1 s hs⟩⟩,⟨Uj h.jA _,fun s hs=>h.rf s (List.mem_of_mem_drop hs),fun s hs=>⟨s2 s hs,fun kN=>(h.bd s (List.mem_of_mem_drop hs)).2 kN⟩⟩,iz (h.bd x hx).1 s3,fun kN=>iz s4 ((h.bd y hy).2 kN)⟩
theorem Uk {l0:List Nd}(h:Lb nd)(hd:kg l0 nd)(dW:cA key nd.low=false)(hno:∀s,s∈nd.pg.sl->s.k≠key)(hc:∃c,c∈l0/\c.id=r/\c.low=key):kg l0 { nd with pg:=aZ nd.pg key r }:=by
 obtain⟨⟨s,rest,e1,e2⟩,e3⟩:=hd;refine⟨?_,fun s hs=>?_⟩
 ·have hs0:nd.pg.sl[0]?=some s:=by rw[e1];rfl
  have hlt:cA s.k key=true:=by
   cases hcc:cA s.k key with
   | true=>rfl
   | false=>exact absurd (gB hcc (by rw[e2];exact dW)) (hno s (by rw[e1];simp))
  have h0:=(jK h.jA hs0).1 hlt;obtain⟨m,hm⟩:∃m,gD nd.pg.sl key=m+1:=⟨gD nd.pg.sl key-1,by omega⟩
  refine⟨s,(rest.take m)++⟨key,r⟩::nd.pg.sl.drop (m+1),?_,e2⟩;show eQ nd.pg.sl key r=_
  unfold eQ;rw[hm,e1];rfl
 ·rcases jS hs with hs|rfl
  ·exact e3 s hs
  ·exact hc
theorem Ul {l0:List Nd}(bZ:fu.ak≠0)(h:kg l0 { nd with pg:=fu }) (h2:2<=fu.sl.length):kg l0 { nd with pg:=fA fu n }/\kg l0 ⟨n,bN fu,dI fu⟩:=by
 obtain⟨⟨s,rest,e1,e2⟩,e3⟩:=h;obtain⟨x,y,h1,hx,hy⟩:=Ld h2;obtain⟨m,hm⟩:∃m,gh fu.sl.length=m+1:=⟨gh fu.sl.length-1,by omega⟩
 refine⟨⟨⟨s,rest.take m,?_,e2⟩,fun s hs=>e3 s (List.mem_of_mem_take hs)⟩,⟨⟨y,fu.sl.drop (gh fu.sl.length+1),?_,?_⟩,fun s hs=>e3 s (List.mem_of_mem_drop hs)⟩⟩
 ·show fu.sl.take (gh fu.sl.length)=_
  have e1:fu.sl=s::rest:=e1;rw[hm,e1];rfl
 ·show fu.sl.drop (gh fu.sl.length)=_
  have hlt:=(aq5.1 hy).1;rw[List.drop_eq_getElem_cons hlt,(aq5.1 hy).2]
 ·rw[xE hx hy,if_neg bZ]
end
def mo (t:List (List Nd))(k i:Nat)(l:List Nd)(nd:Nd)(fu:Pg)(n:Int)(sp:Bool):List (List Nd):=
 if sp then t.set k (wo l i { nd with pg:=fA fu n } ⟨n,bN fu,dI fu⟩)else t.set k (l.set i { nd with pg:=fu })
theorem Lf {t:List (List Nd)}{k:Nat}{l l':List Nd}{rt:Nd}{rest:List Nd}(hne:0<t.length)(hl:t[k]?=some l)(fU:t[t.length-1]?=some (rt::rest))(h0:∀a,l[0]?=some a->∃b,l'[0]?=some b/\b.id=a.id) :
  ∃nd rest',(t.set k l')[(t.set k l').length-1]?=some (nd::rest')/\nd.id=rt.id:=by
 rw[List.length_set,List.getElem?_set];split
 ·rename_i e
  rw[if_pos (by omega)]
  rw[e]at hl;rw[hl]at fU;obtain rfl:=aq9 fU;obtain⟨b,hb,e2⟩:=h0 rt rfl;cases l' with
  | nil=>simp at hb
  | cons c rest' =>
   obtain rfl:c=b:=by simpa using hb
   exact⟨c,rest',rfl,e2⟩
 ·exact⟨rt,rest,fU,rfl⟩
section
variable {d:aR}{L L3:List aO}{t:List (List Nd)}{k i:Nat}{l:List Nd}{nd:Nd}{key:ByteArray}{r:Int}{sp:Bool}{p:Pg}
end
end
section
def zj (pg:Pg)(s:jX):Prop:=match s.pc with
 | 1=>True
 | 2=>s.pg=⟨pg.ak,[],⟨#[]⟩,false,0⟩/\s.left=pg.sl.length
 | 3=>s.pg=⟨pg.ak,[],pg.hi,pg.la,0⟩/\s.left=pg.sl.length
 | 4=>∃j,j<pg.sl.length/\s.pg=⟨pg.ak,pg.sl.take j,pg.hi,pg.la,pg.ri⟩/\s.left=pg.sl.length-j
 | 5=>s.pg=pg
 | _=>False
theorem zk {pg:Pg}{j:Nat}(h:pg.sl.length<=j):(⟨pg.ak,pg.sl.take j,pg.hi,pg.la,pg.ri⟩:Pg)=pg:=by
 rw[List.take_of_length_le h]
theorem zj.step {d:aR}{id:Int}{L:List aO}{pg:Pg}{s:jX}(hp:cT d id L pg)(h:zj pg s)(h4:s.pc<=4):zj pg (rdStep d id L s):=by
 have jZ:leftOf d (ah L (d.node id 1))=pg.sl.length:=by
  have:=hp.le;unfold leftOf;rw[hp.n,Int.min_eq_left this];omega
 obtain⟨pc,Ge,left,word,tt⟩:=s;match pc,h,h4 with
 | 0,h,_=>exact h.elim
 | 1,_,_=>
  unfold rdStep;simp only[hp.ak,jZ];exact⟨rfl,rfl⟩
 | 2,h,_=>
  obtain⟨h1,h2⟩:=h;simp only at h1 h2;subst h1 h2;unfold rdStep Pg.high;simp only[hp.hi,hp.la];exact⟨rfl,rfl⟩
 | 3,h,_=>
  obtain⟨h1,h2⟩:=h;simp only at h1 h2;subst h1 h2;unfold rdStep Pg.right;simp only[hp.ri];by_cases h0:pg.sl.length=0
  ·rw[if_pos h0]
   show _=pg
   have:=zk (pg:=pg) (j:=0) (by omega)
   rw[List.take_zero]at this;exact this
  ·rw[if_neg h0]
   exact⟨0,by omega,rfl,rfl⟩
 | 4,h,_=>
  obtain⟨j,hj,h1,h2⟩:=h;simp only at h1 h2;subst h1 h2;obtain⟨x,hx⟩:∃x,pg.sl[j]?=some x:=⟨_,aq8 hj⟩;obtain⟨e1,e2⟩:=hp.sl _ _ hx;have hlen:(pg.sl.take j).length=j:=by rw[List.length_take];omega
  have dY:(pg.sl.take j)++[⟨x.k,x.r⟩]=pg.sl.take (j+1):=by rw[List.take_add_one,hx];rfl
  unfold rdStep Pg.push;simp only[hlen,e1,e2,dY];by_cases h0:pg.sl.length-j-1=0
  ·rw[if_pos h0]
   exact zk (by omega)
  ·rw[if_neg h0]
   exact⟨j+1,by omega,rfl,by show pg.sl.length-j-1=pg.sl.length-(j+1);omega⟩
 | n+5,h,h4=>exact absurd h4 (by simp)
def uX (pg:Pg)(s:jX):Prop:=match s.pc with
 | 1=>True
 | 2=>s.pg=⟨pg.ak,[],⟨#[]⟩,false,0⟩/\s.left=pg.sl.length
 | 3=>s.pg=⟨pg.ak,[],pg.hi,pg.la,0⟩/\s.left=pg.sl.length
 | 4=>∃j,j<pg.sl.length/\s.pg=⟨pg.ak,pg.sl.take j,pg.hi,pg.la,pg.ri⟩/\s.left=pg.sl.length-j
 | 6=>s.pg=pg
 | _=>False
def kS (d:aR)(s:jX):Nat:=match s.pc with
 | 1=>d.fa.toNat+3
 | 2=>s.left+2
 | 3=>s.left+1
 | 4=>s.left
 | _=>0
theorem uX.step {d:aR}{id:Int}{L:List aO}{pg:Pg}{s:jX}(hp:cT d id L pg)(h:uX pg s)(h6:s.pc≠6):uX pg (bA d id L s)/\(bA d id L s).word=s.word/\kS d (bA d id L s)<kS d s:=by
 have hle:=hp.le;have jZ:leftOf d (ah L (d.node id 1))=pg.sl.length:=by
  unfold leftOf;rw[hp.n,Int.min_eq_left hle];omega
 obtain⟨pc,Ge,left,word,tt⟩:=s;match pc,h,h6 with
 | 0,h,_=>exact h.elim
 | 1,_,_=>
  unfold bA;simp only[hp.ak,jZ];exact⟨⟨rfl,rfl⟩,trivial,by simp only[kS];omega⟩
 | 2,h,_=>
  obtain⟨h1,h2⟩:=h;simp only at h1 h2;subst h1 h2;unfold bA Pg.high;simp only[hp.hi,hp.la];exact⟨⟨rfl,rfl⟩,trivial,by simp only[kS];omega⟩
 | 3,h,_=>
  obtain⟨h1,h2⟩:=h;simp only at h1 h2;subst h1 h2;unfold bA Pg.right;simp only[hp.ri];by_cases h0:pg.sl.length=0
  ·rw[if_pos h0]
   refine⟨?_,trivial,by simp only[kS];omega⟩
   show _=pg
   have:=zk (pg:=pg) (j:=0) (by omega)
   rw[List.take_zero]at this;exact this
  ·rw[if_neg h0]
   exact⟨⟨0,by omega,rfl,rfl⟩,trivial,by simp only[kS];omega⟩
 | 4,h,_=>
  obtain⟨j,hj,h1,h2⟩:=h;simp only at h1 h2;subst h1 h2;obtain⟨x,hx⟩:∃x,pg.sl[j]?=some x:=⟨_,aq8 hj⟩;obtain⟨e1,e2⟩:=hp.sl _ _ hx;have hlen:(pg.sl.take j).length=j:=by rw[List.length_take];omega
  have dY:(pg.sl.take j)++[⟨x.k,x.r⟩]=pg.sl.take (j+1):=by rw[List.take_add_one,hx];rfl
  unfold bA Pg.push;simp only[hlen,e1,e2,dY];by_cases h0:pg.sl.length-j-1=0
  ·rw[if_pos h0]
   exact⟨zk (by omega),trivial,by simp only[kS];omega⟩
  ·rw[if_neg h0]
   exact⟨⟨j+1,by omega,rfl,by show pg.sl.length-j-1=pg.sl.length-(j+1);omega⟩,trivial,by simp only[kS];omega⟩
 | 5,h,_=>exact h.elim
 | 6,_,h6=>exact absurd rfl h6
 | n+7,h,_=>exact h.elim
structure kG (c c':Int)(pg lN:Pg):Prop where
 le:c / 4<=c' / 4
 same:c / 4=c' / 4->bW c'=false->bW c=false/\lN=pg
theorem kG.refl (c:Int)(pg:Pg):kG c c pg pg:=⟨Int.le_refl _,fun _ h=>⟨h,rfl⟩⟩
structure RdC (c:Int)(pg:Pg)(s:jX):Prop where
 pc:s.pc<=5
 ok:1<=s.pc->bW s.word=false/\s.word / 4<=c / 4/\(s.word / 4=c / 4->bW c=false->zj pg s)
theorem aeQ (c:Int)(pg:Pg):RdC c pg oI:=⟨by decide,fun h=>absurd h (by decide)⟩
theorem mq {v c:Int}(hv:bW v=false)(h:aG v=aG c):v / 4=c / 4/\bW c=false:=by
 unfold aG at h;unfold bW at hv ⊢;have hv' := of_decide_eq_false hv;exact⟨by omega,decide_eq_false (by omega)⟩
theorem sP {v c:Int}(hv:bW v=false)(hc:bW c=false)(h:v / 4=c / 4):aG v=aG c:=by
 unfold aG;unfold bW at hv hc;have hv' := of_decide_eq_false hv;have hc' := of_decide_eq_false hc;omega
theorem RdC.step {d:aR}{id:Int}{L:List aO}{pg:Pg}{s:jX}(hp:bW (ah L (d.node id 0)).n=false->cT d id L pg)(h:RdC (ah L (d.node id 0)).n pg s) :
  ((rdStep d id L s).pc<=5/\RdC (ah L (d.node id 0)).n pg (rdStep d id L s))\/((rdStep d id L s).pc=6/\bW (ah L (d.node id 0)).n=false/\(rdStep d id L s).pg=pg):=by
 have h5:=h.pc;by_cases h0:s.pc=0
 ·obtain⟨pc,Ge,left,word,tt⟩:=s
  simp only at h0;subst h0;refine .inl ?_
  unfold rdStep;simp only;cases hc:bW (ah L (d.node id 0)).n with
  | true=>exact⟨by simp,by simp,fun h=>absurd h (by simp)⟩
  | false=>exact⟨by simp,by simp,fun _=>⟨hc,Int.le_refl _,fun _ _=>trivial⟩⟩
 ·obtain⟨q1,q2,q3⟩:=h.ok (by omega)
  by_cases h4:s.pc<=4
  ·have hw:(rdStep d id L s).word=s.word/\1<=(rdStep d id L s).pc/\(rdStep d id L s).pc<=5:=by
    obtain⟨pc,Ge,left,word,tt⟩:=s;simp only at h0 h4;rcases(by omega:pc=1\/pc=2\/pc=3\/pc=4)with rfl|rfl|rfl|rfl
    ·exact⟨rfl,by show 1<=2;omega,by show 2<=5;omega⟩
    ·exact⟨rfl,by show 1<=3;omega,by show 3<=5;omega⟩
    ·refine⟨rfl,?_,?_⟩ <;> (simp only[rdStep];split <;> omega)
    ·refine⟨rfl,?_,?_⟩ <;> (simp only[rdStep];split <;> omega)
   refine .inl ⟨hw.2.2,hw.2.2,fun _=>?_⟩
   rw[hw.1];exact⟨q1,q2,fun e1 e2=>(q3 e1 e2).step (hp e2) h4⟩
  ·obtain⟨pc,Ge,left,word,tt⟩:=s
   simp only at h0 h4 h5 q1 q2 q3;obtain rfl:pc=5:=by omega
   unfold rdStep;simp only;by_cases hu:aG word=aG (ah L (d.node id 0)).n
   ·rw[if_pos (by rw[hu];exact beq_self_eq_true _)]
    obtain⟨r1,r2⟩:=mq q1 hu;exact .inr ⟨rfl,r2,q3 r1 r2⟩
   ·rw[if_neg (by simpa using hu)]
    exact .inl ⟨by simp,by simp,fun h=>absurd h (by simp)⟩
def fP (d:aR)(s:jX):Nat:=match s.pc with
 | 0=>d.fa.toNat+5
 | 1=>d.fa.toNat+4
 | 2=>s.left+3
 | 3=>s.left+2
 | 4=>s.left+1
 | 5=>1
 | _=>0
def xF (d:aR)(c:Int)(s:jX):Nat:=fP d s+(if s.pc=0\/(s.word / 4=c / 4/\bW c=false)then 0 else d.fa.toNat+5)
theorem Um {d:aR}(hd:d.Ok){id:Int}{L:List aO}{pg:Pg}{s:jX}(hL:bD L)(hok:s.Ok d)(h:RdC (ah L (d.node id 0)).n pg s)(hc:bW (ah L (d.node id 0)).n=false) :
  xF d (ah L (d.node id 0)).n (rdStep d id L s)<xF d (ah L (d.node id 0)).n s:=by
 have h5:=h.pc;have hk:=h.ok;have hl4:=hok.left;have hl:=og hd (c:=ah L (d.node id 1)) (hL _);have f1:=hd.fo;obtain⟨pc,Ge,left,word,tt⟩:=s;simp only at h5 hk hl4;rcases(by omega:pc=0\/pc=1\/pc=2\/pc=3\/pc=4\/pc=5)with rfl|rfl|rfl|rfl|rfl|rfl
 ·simp only[rdStep,hc,xF,fP]
  simp
 ·simp only[rdStep,xF,fP,hc,and_true]
  simp only[show ¬ (2=0)by omega,show ¬ (1=0)by omega,false_or]
  omega
 ·simp only[rdStep,xF,fP,hc,and_true]
  simp only[show ¬ (2=0)by omega,show ¬ (3=0)by omega,false_or]
  omega
 ·simp only[rdStep,xF,hc,and_true]
  by_cases h0:left=0
  ·simp only[if_pos h0,fP,show ¬ (5=0)by omega,show ¬ (3=0)by omega,false_or];omega
  ·simp only[if_neg h0,fP,show ¬ (4=0)by omega,show ¬ (3=0)by omega,false_or];omega
 ·have:=hl4 rfl
  simp only[rdStep,xF,hc,and_true];by_cases h0:left-1=0
  ·simp only[if_pos h0,fP,show ¬ (5=0)by omega,show ¬ (4=0)by omega,false_or];omega
  ·simp only[if_neg h0,fP,show ¬ (4=0)by omega,false_or];omega
 ·obtain⟨q1,_,_⟩:=hk (by omega)
  simp only[rdStep];by_cases hu:aG word=aG (ah L (d.node id 0)).n
  ·rw[if_pos (by rw[hu];exact beq_self_eq_true _)]
   obtain⟨r1,_⟩:=mq q1 hu;simp only[xF,fP,r1,hc,and_true];simp
  ·rw[if_neg (by simpa using hu)]
   have hne:¬ (word / 4=(ah L (d.node id 0)).n / 4):=fun e=>hu (sP q1 hc e)
   simp only[xF,fP,hc,and_true,show ¬ (5=0)by omega,false_or,if_neg hne]
   simp
theorem Yz {d:aR}(hd:d.Ok){id:Int}{L:List aO}{pg:Pg}{s:jX}(hL:bD L)(hok:s.Ok d)(h:RdC (ah L (d.node id 0)).n pg s)(hc:bW (ah L (d.node id 0)).n=true) :
  xF d (ah L (d.node id 0)).n (rdStep d id L s)<=xF d (ah L (d.node id 0)).n s:=by
 have h5:=h.pc;have hk:=h.ok;have hl4:=hok.left;have hl:=og hd (c:=ah L (d.node id 1)) (hL _);have f1:=hd.fo;obtain⟨pc,Ge,left,word,tt⟩:=s;simp only at h5 hk hl4;rcases(by omega:pc=0\/pc=1\/pc=2\/pc=3\/pc=4\/pc=5)with rfl|rfl|rfl|rfl|rfl|rfl
 ·simp only[rdStep,hc,xF,fP]
  simp
 ·simp only[rdStep,xF,fP,hc,Bool.true_eq_false,and_false,or_false]
  simp only[show ¬ (2=0)by omega,show ¬ (1=0)by omega,if_false]
  omega
 ·simp only[rdStep,xF,fP,hc,Bool.true_eq_false,and_false,or_false]
  simp only[show ¬ (2=0)by omega,show ¬ (3=0)by omega,if_false]
  omega
 ·simp only[rdStep,xF,hc,Bool.true_eq_false,and_false,or_false]
  by_cases h0:left=0
  ·simp only[if_pos h0,fP,show ¬ (5=0)by omega,show ¬ (3=0)by omega,if_false];omega
  ·simp only[if_neg h0,fP,show ¬ (4=0)by omega,show ¬ (3=0)by omega,if_false];omega
 ·have:=hl4 rfl
  simp only[rdStep,xF,hc,Bool.true_eq_false,and_false,or_false];by_cases h0:left-1=0
  ·simp only[if_pos h0,fP,show ¬ (5=0)by omega,show ¬ (4=0)by omega,if_false];omega
  ·simp only[if_neg h0,fP,show ¬ (4=0)by omega,if_false];omega
 ·obtain⟨q1,_,_⟩:=hk (by omega)
  simp only[rdStep];by_cases hu:aG word=aG (ah L (d.node id 0)).n
  ·obtain⟨_,r2⟩:=mq q1 hu
   rw[hc]at r2;cases r2
  ·rw[if_neg (by simpa using hu)]
   simp only[xF,fP,hc,Bool.true_eq_false,and_false,or_false,show ¬ (5=0)by omega,if_false]
   simp
structure Un (d:aR)(L:List aO)(nd:Nd):Prop where
 page:cT d nd.id L nd.pg
 hold:Holds L (bP d nd.id nd.pg)
 k:(ah L (d.node nd.id 0)).k=⟨#[]⟩
 m:(ah L (d.node nd.id 0)).m=0
theorem Un.frame {d:aR}{L L':List aO}{nd:Nd}(hd:d.Ok)(h1:1<=nd.id)(h2:nd.id<=d.no)(h:Un d L nd)(he:∀j:Int,0<=j->j<d.fa+4->ah L' (d.node nd.id j)=ah L (d.node nd.id j)):Un d L' nd:=by
 have f1:=hd.fo;refine⟨h.page.frame h1 h2 f1 (fun k a b=>he k (by omega) b),h.hold.frame hd h1 h2 h.page.le (fun k a b=>he k (by omega) b),?_,?_⟩
 ·rw[he 0 (by omega) (by omega)];exact h.k
 ·rw[he 0 (by omega) (by omega)];exact h.m
structure dQ (d:aR)(L:List aO)(t:List (List Nd)):Prop where
 sh:r9 (ah L 4).n t
 n4:(ah L 4).n<=d.no
 root:∃nd rest,t[t.length-1]?=some (nd::rest)/\(ah L 0).n=nd.id
 node:∀(k:Nat) (l:List Nd),t[k]?=some l->∀nd,nd∈l->bW (ah L (d.node nd.id 0)).n=false->Un d L nd
 wd:∀(k:Nat) (l:List Nd),t[k]?=some l->∀nd,nd∈l->(ah L (d.node nd.id 0)).n%2=0->(ah L (d.node nd.id 0)).n%4=0
theorem dQ.page {d:aR}{L:List aO}{t:List (List Nd)}(h:dQ d L t)(k:Nat)(l:List Nd)(hk:t[k]?=some l)(nd:Nd)(hn:nd∈l)(hc:bW (ah L (d.node nd.id 0)).n=false):cT d nd.id L nd.pg:=(h.node k l hk nd hn hc).page
def Quiet (d:aR)(L:List aO)(t:List (List Nd)):Prop:=∀(k:Nat) (l:List Nd),t[k]?=some l->∀nd,nd∈l->bW (ah L (d.node nd.id 0)).n=false
def wA (d:aR)(L:List aO)(t:List (List Nd))(L':List aO)(t':List (List Nd)):Prop:=
 ∀(k:Nat) (l:List Nd),t[k]?=some l->∀nd,nd∈l->∃l' l8,t'[k]?=some l' /\ l8∈l' /\ l8.id=nd.id/\l8.low=nd.low/\kG (ah L (d.node nd.id 0)).n (ah L' (d.node nd.id 0)).n nd.pg l8.pg
theorem wA.refl (d:aR)(L:List aO)(t:List (List Nd)):wA d L t L t:=fun _ l hk nd hn=>⟨l,nd,hk,hn,rfl,rfl,kG.refl _ _⟩
theorem sg (t:List (List Nd)){a b:Nat}(h:a<=b):cg t a<=cg t b:=by
 induction b with
 | zero=>
  obtain rfl:a=0:=by omega
  exact Nat.le_refl _
 | succ b ih=>
  by_cases e:a=b+1
  ·rw[e];exact Nat.le_refl _
  ·refine Nat.le_trans (ih (by omega)) ?_
   unfold cg;rw[List.take_add_one,List.map_append,List.sum_append];exact Nat.le_add_right _ _
def pP (t:List (List Nd))(lo:Nat):Nat:=(t.map List.length).sum-cg t lo
def Ix (d:aR)(L:List aO)(t:List (List Nd))(key:ByteArray)(lo:Nat)(s:pO)(m:Nat):Prop:=
 (s.pc=0/\(∃l nd,t[lo]?=some l/\nd∈l)/\pP t lo*bJ d+1<=m) \/
 (s.pc=1/\∃(k i:Nat) (l:List Nd) (nd:Nd),t[k]?=some l/\l[i]?=some nd/\s.id=nd.id/\lo<=k/\s.rd.Ok d/\cA key nd.low=false/\RdC (ah L (d.node nd.id 0)).n nd.pg s.rd /\
  (l.length-i+(cg t k-cg t lo)-1)*bJ d+xF d (ah L (d.node nd.id 0)).n s.rd<=m) \/
 s.pc=2
def aeR (d:aR)(L:List aO)(t:List (List Nd))(key:ByteArray)(level lo:Nat)(s:pO):Prop:=
 (s.id=0/\s.pg=Fu/\∃(k:Nat) (l:List Nd),lo<=k/\k<level/\t[k]?=some l)\/∃(l:List Nd) (nd:Nd),t[level]?=some l/\nd∈l/\s.id=nd.id/\s.pg=nd.pg/\cA key nd.low=false/\(nd.pg.la || cA key nd.pg.hi)=true/\bW (ah L (d.node nd.id 0)).n=false
section
variable {d:aR}{L:List aO}{t:List (List Nd)}{key:ByteArray}{level lo:Nat}{s:pO}{m:Nat}
theorem Ix.start (h:∃l nd,t[lo]?=some l/\nd∈l):Ix d L t key lo fd0 (pP t lo*bJ d+1):= .inl ⟨rfl,h,Nat.le_refl _⟩
theorem aeS (c:Int):xF d c oI=bJ d:=rfl
theorem Ix.still (h:Ix d L t key lo s m)(hQ:Quiet d L t)(h1:s.pc=1):bW (ah L (d.node s.id 0)).n=false:=by
 rcases h with⟨h,_⟩|⟨_,k,i,l,nd,hk,hi,hid,_⟩|h
 ·omega
 ·rw[hid];exact hQ k l hk nd (aq7 hi)
 ·omega
theorem Ix.go {N:Int}(ht:r9 N t){k i:Nat}{l:List Nd}{nd:Nd}(hk:t[k]?=some l)(hi:l[i]?=some nd)(dW:cA key nd.low=false)(hlo:lo<=k){s0:pO}
  (hm:(l.length-i+(cg t k-cg t lo))*bJ d<=m):Ix d L t key lo (gP s0 nd.id) m:=by
 have hid:=(ht.nodes k l hk nd (aq7 hi)).1.1;have hil:=(aq5.1 hi).1;have e:gP s0 nd.id=⟨1,nd.id,s0.pg,oI⟩:=by unfold gP;rw[if_neg (by omega)]
 rw[e];refine .inr (.inl ⟨rfl,k,i,l,nd,hk,hi,rfl,hlo,Rq d,dW,aeQ _ _,?_⟩);rw[aeS];have h1:l.length-i+(cg t k-cg t lo)=(l.length-i+(cg t k-cg t lo)-1)+1:=by omega
 rw[h1,Nat.add_mul,Nat.one_mul]at hm;exact hm
theorem Ix.step (hd:d.Ok)(hL:bD L)(ht:dQ d L t)(h:Ix d L t key lo s m)(pM:s.pc≠2)(hlv:lo<=level) :
  (∃m',Ix d L t key lo (bS d L key (level:Nat) s) m' /\ m' <= m/\((s.pc=1->bW (ah L (d.node s.id 0)).n=false)->m' + 1<=m))/\s.Ok d/\(s.pc=1->(rdStep d s.id L s.rd).pc=6->oX level (rdStep d s.id L s.rd).pg)/\((bS d L key (level:Nat) s).pc=2->aeR d L t key level lo (bS d L key (level:Nat) s)):=by
 have iX:=hd.mJ;have hS:=ht.sh;have tz:=ht.n4;rcases h with⟨h0,⟨l0,nd0,hl0,_⟩,hm⟩|⟨h1,k,i,l,nd,hk,hi,hid,hlo,hok,dW,hrd,hm⟩|h2
 ·obtain⟨pc,id,pg,rd⟩:=s
  simp only at h0;subst h0;obtain⟨nd,rest,fU,hroot⟩:=ht.root;have nQ:=(hS.rows _ _ fU).first nd rfl
  have hid:=(hS.nodes _ _ fU nd List.mem_cons_self).1.1;have e:bS d L key level ⟨0,id,pg,rd⟩=⟨1,nd.id,pg,oI⟩:=by
   show gP _ (ah L 0).n=_
   rw[hroot];unfold gP;rw[if_neg (by omega)]
  refine⟨⟨m-1,?_,by omega,fun _=>by omega⟩,⟨(show(0:Nat)<=2 by omega),fun h=>absurd h (by simp)⟩,fun h=>absurd h (by simp),fun h=>?_⟩
  ·show Ix d L t key lo (gP _ (ah L 0).n) _
   rw[hroot];have aos:=(aq5.1 hl0).1;refine Ix.go hS fU (i:=0) rfl (by rw[nQ];exact jd _) (by omega) ?_
   have hne:=hS.ne;have hb:=kF fU;have hle:=xC t (t.length-1+1);have hmo:=sg t (show lo<=t.length-1 by omega)
   have e:(nd::rest).length-0+(cg t (t.length-1)-cg t lo)<=pP t lo:=by
    unfold pP;simp only[List.length_cons,List.length_nil]at hb ⊢;omega
   have:=Nat.mul_le_mul_right (bJ d) e;omega
  ·rw[e]at h
   simp at h
 ·obtain⟨pc,id,pg,rd⟩:=s
  simp only at h1 hid hok hrd hm;subst h1 hid;have hmem:=aq7 hi;obtain⟨hN1,hNS⟩:=hS.nodes k l hk nd hmem;have hR:=hS.rows k l hk;have hil:=(aq5.1 hi).1;have ajK:=hrd.pc;have hq:=Um hd hL hok hrd;have hstep:=hrd.step (ht.page k l hk nd hmem);have ajL:0<=nd.pg.ri:=by
   rcases Nat.lt_or_ge (i+1) l.length with hlt|hge
   ·obtain⟨b,hb⟩:∃b,l[i+1]?=some b:=⟨_,aq8 hlt⟩
    rw[(hR.next i nd b hi hb).2.2.1];have:=(hS.nodes k l hk b (aq7 hb)).1.1;omega
   ·rw[(hR.last i nd hi (by omega)).2.2];omega
  have hpage:(rdStep d nd.id L rd).pc=6->bW (ah L (d.node nd.id 0)).n=false/\(rdStep d nd.id L rd).pg=nd.pg:=fun h6=>by
   rcases hstep with⟨h5,_⟩|⟨_,q1,q2⟩
   ·omega
   ·exact⟨q1,q2⟩
  have aak:(rdStep d nd.id L rd).pc=6->oX level (rdStep d nd.id L rd).pg:=fun h6=>by
   rw[(hpage h6).2];exact⟨ajL,fun s hs=>by have:=hNS.rf s hs;omega,fun _=>hNS.jA⟩
  have aeU:(⟨1,nd.id,pg,rd⟩:pO).Ok d:=⟨by show 1<=2;omega,fun _=>⟨hN1.1,by show nd.id<_;omega,hok,ajK⟩⟩
  rcases hstep with⟨h5,ajM⟩|⟨h6,Tw,kW⟩
  ·have e:bS d L key level ⟨1,nd.id,pg,rd⟩=⟨1,nd.id,pg,rdStep d nd.id L rd⟩:=by
    show(if _ then _ else _)=_
    rw[if_neg (by show ¬ (rdStep d nd.id L rd).pc=6;omega)]
   rw[e];refine⟨⟨(l.length-i+(cg t k-cg t lo)-1)*bJ d+xF d (ah L (d.node nd.id 0)).n (rdStep d nd.id L rd),.inr (.inl ⟨rfl,k,i,l,nd,hk,hi,rfl,hlo,oh hd hL hok,dW,ajM,Nat.le_refl _⟩),?_,fun hQ=>?_⟩,aeU,fun _=>aak,fun h=>by simp at h⟩
   ·cases hc:bW (ah L (d.node nd.id 0)).n with
    | true=>have:=Yz hd hL hok hrd hc;omega
    | false=>have:=hq hc;omega
   ·have:=hq (hQ rfl)
    omega
  ·have e:bS d L key level ⟨1,nd.id,pg,rd⟩=iK key level nd.id nd.pg:=by
    show(if _ then _ else _)=_
    rw[if_pos h6,kW]
   rw[e];have aeH:=hR.ak nd hmem;have hq1:=hq Tw;have hmm:(l.length-i+(cg t k-cg t lo)-1)*bJ d+1<=m:=by omega
   refine⟨?_,aeU,fun _=>aak,?_⟩
   ·refine⟨m-1,?_,by omega,fun _=>by omega⟩
    unfold iK;by_cases hlt:nd.pg.ak<level
    ·rw[if_pos hlt]
     exact .inr (.inr rfl)
    ·rw[if_neg hlt]
     cases hin:(nd.pg.la || cA key nd.pg.hi)with
     | true=>
      rw[if_pos rfl];by_cases heq:nd.pg.ak=level
      ·rw[if_pos heq]
       exact .inr (.inr rfl)
      ·rw[if_neg heq]
       obtain⟨k',rfl⟩:∃k',k=k' + 1:=⟨k-1,by omega⟩
       obtain⟨l',hk'⟩:∃l',t[k']?=some l' := ⟨_,aq8 (by have:=(aq5.1 hk).1;omega)⟩
       obtain⟨⟨s0,r,eY,hs0⟩,hall⟩:=hS.down k' l' l hk' hk nd hmem;have hpos:0<iE nd.pg.sl key:=(jm hNS.jA (i:=0) (s:=s0) (by rw[eY];rfl)).1 (by rw[hs0];exact dW)
       have ajx:=uf nd.pg.sl key;obtain⟨sv,Wh⟩:∃sv,nd.pg.sl[iE nd.pg.sl key-1]?=some sv:=⟨_,aq8 (by omega)⟩
       have hsk:=(jm hNS.jA (key:=key) Wh).2 (by omega)
       have hcr:js key nd.pg.sl=sv.r:=by
        unfold js jG;rw[if_neg (by omega),show((iE nd.pg.sl key:Int)-1).toNat=iE nd.pg.sl key-1 by omega,Wh]
       obtain⟨c,hc,Tx,Ty⟩:=hall sv (aq7 Wh);obtain⟨j,hj⟩:=aq4 hc;rw[hcr,←Tx];refine Ix.go hS hk' hj (by rw[Ty];exact hsk) (by omega) ?_
       have hb:=kF hk';have hmo:=sg t (show lo<=k' by omega)
       have e2:l'.length-j+(cg t k' - cg t lo)<=l.length-i+(cg t (k' + 1)-cg t lo)-1:=by omega
       exact Nat.le_trans (Nat.mul_le_mul_right _ e2) (by omega)
     | false=>
      rw[if_neg (by simp)]
      simp only[Bool.or_eq_false_iff]at hin;have hlt2:i+1<l.length:=by
       rcases Nat.lt_or_ge (i+1) l.length with h|h
       ·exact h
       ·have:=(hR.last i nd hi (by omega)).1
        rw[hin.1]at this;cases this
      obtain⟨b,hb⟩:∃b,l[i+1]?=some b:=⟨_,aq8 hlt2⟩;obtain⟨_,q2,q3,_⟩:=hR.next i nd b hi hb;rw[q3];refine Ix.go hS hk hb (by rw[←q2];exact hin.2) hlo ?_
      have e2:l.length-(i+1)+(cg t k-cg t lo)<=l.length-i+(cg t k-cg t lo)-1:=by omega
      exact Nat.le_trans (Nat.mul_le_mul_right _ e2) (by omega)
   ·have hgo:∀(s0:pO) (id':Int),(gP s0 id').pc≠2:=fun s0 id' => by
     unfold gP;split <;> simp
    unfold iK;by_cases hlt:nd.pg.ak<level
    ·rw[if_pos hlt]
     exact fun _=> .inl ⟨rfl,rfl,k,l,hlo,by omega,hk⟩
    ·rw[if_neg hlt]
     cases hin:(nd.pg.la || cA key nd.pg.hi)with
     | true=>
      rw[if_pos rfl];by_cases heq:nd.pg.ak=level
      ·rw[if_pos heq]
       obtain rfl:k=level:=by omega
       exact fun _=> .inr ⟨l,nd,hk,hmem,rfl,rfl,dW,hin,Tw⟩
      ·rw[if_neg heq]
       exact fun h=>absurd h (hgo _ _)
     | false=>
      rw[if_neg (by simp)]
      exact fun h=>absurd h (hgo _ _)
 ·exact absurd h2 pM
end
end
section
theorem rB:∀(N:Nat)(l:List Int),l.Nodup->(∀x,x∈l->1<=x/\x<=N)->l.length<=N
 | 0,l,_,h=>by
  cases l with
  | nil=>exact Nat.le_refl _
  | cons x l=>have:=h x List.mem_cons_self;omega
 | N+1,l,hn,h=>by
  by_cases hm:((N+1:Nat):Int)∈l
  ·have h1:=List.length_erase_of_mem hm
   have h2:=rB N (l.erase ((N+1:Nat):Int)) (hn.erase _) (fun x hx=>by
    obtain⟨q1,q2⟩:=(List.Nodup.mem_erase_iff hn).1 hx;have:=h x q2;omega)
   omega
  ·have:=rB N l hn (fun x hx=>by
    have:=h x hx;have hne:x≠((N+1:Nat):Int):=fun e=>hm (e ▸ hx)
    omega)
   omega
theorem Dp (t:List (List Nd)):(t.map List.length).sum=t.flatten.length:=by rw[List.length_flatten]
theorem Dq {N:Int}{t:List (List Nd)}(hN:0<=N)(hb:∀(k:Nat)(l:List Nd),t[k]?=some l->∀nd,nd∈l->1<=nd.id/\nd.id<=N)
  (Dr:∀(k k':Nat) (l l':List Nd) (i i':Nat) (a b:Nd),t[k]?=some l->t[k']?=some l' -> l[i]?=some a->l'[i']?=some b->a.id=b.id->k=k' /\ i=i'):((t.map List.length).sum:Int)<=N:=by
 have hnd:(t.flatten.map (·.id)).Nodup:=by
  rw[List.nodup_iff_pairwise_ne,List.pairwise_map,List.pairwise_flatten];refine⟨fun l hl=>?_,?_⟩
  ·obtain⟨k,hk⟩:=aq4 hl
   rw[List.pairwise_iff_getElem];intro i j hi hj hij e;have:=(Dr k k l l i j _ _ hk hk (aq8 hi) (aq8 hj) e).2;omega
  ·rw[List.pairwise_iff_getElem]
   intro k k' hk hk' hkk x hx y hy e;obtain⟨i,hi⟩:=aq4 hx;obtain⟨i',hi'⟩:=aq4 hy;have:=(Dr k k' _ _ i i' _ _ (aq8 hk) (aq8 hk') hi hi' e).1;omega
 have h:=rB N.toNat _ hnd (fun x hx=>by
  obtain⟨nd,hm,rfl⟩:=List.mem_map.1 hx;obtain⟨l,hl,hn⟩:=List.mem_flatten.1 hm;obtain⟨k,hk⟩:=aq4 hl;have:=hb k l hk nd hn;omega)
 rw[List.length_map]at h;rw[Dp];omega
theorem r9.mono {N N':Int}{t:List (List Nd)}(h:r9 N t)(hN:N<=N'):r9 N' t:=
 ⟨h.ne,h.rows,fun k l hk nd hn=>by
  obtain⟨⟨q1,q2⟩,q3⟩:=h.nodes k l hk nd hn;exact⟨⟨q1,by omega⟩,q3⟩,h.down,h.inj,by have:=h.count;omega⟩
theorem r9.ace {N:Int}{t:List (List Nd)}{k i:Nat}{l:List Nd}{nd a b:Nd}(h:r9 N t)(hl:t[k]?=some l)(hi:l[i]?=some nd)(hb0:1<=b.id)(hN':b.id<=N)(hfr:∀(k':Nat)(l':List Nd),t[k']?=some l' -> ∀c,c∈l' -> c.id≠b.id)(x8:a.low=nd.low)(Iu:a.id=nd.id)(ha1:a.pg.ak=k)(ha2:a.pg.la=false)(ha3:a.pg.hi=b.low)(ha4:a.pg.ri=b.id)
  (hb1:b.pg.ak=k) (hb2:b.pg.la=nd.pg.la) (hb3:b.pg.hi=nd.pg.hi) (hb4:b.pg.ri=nd.pg.ri) (h1:cA nd.low b.low=true) (h2:nd.pg.la=false->cA b.low nd.pg.hi=true) (hna:Lb a) (hnb:Lb b)
  (hdn:∀(m:Nat) (l0:List Nd),k=m+1->t[m]?=some l0->kg l0 a/\kg l0 b):r9 N (t.set k (wo l i a b)):=by
 have hm:=aq7 hi;have hlen:=(aq5.1 hi).1;have xG:=(aq5.1 hl).1;have hne:=h.ne;have hat:∀(k':Nat) (l':List Nd) (j:Nat) (z:Nd),(t.set k (wo l i a b))[k']?=some l' -> l'[j]?=some z ->
   (k'=k/\j=i+1/\z=b)\/((k' ≠ k\/j≠i+1)/\z.id≠b.id/\∃(l0:List Nd) (z0:Nd),t[k']?=some l0/\l0[if k'=k/\i+1<j then j-1 else j]?=some z0/\z0.id=z.id):=by
  intro k' l' j z hk' hz;rcases ei hk' with⟨rfl,rfl⟩|⟨hne,hk2⟩
  ·rw[fO hlen]at hz
   by_cases c1:j<i
   ·rw[if_pos c1]at hz
    rw[if_neg (by omega)]
    exact .inr ⟨.inr (by omega),hfr _ _ hl z (aq7 hz),l,z,hl,hz,rfl⟩
   ·rw[if_neg c1]at hz
    by_cases c2:j=i
    ·rw[if_pos c2]at hz
     obtain rfl:=aq9 hz;rw[if_neg (by omega),c2]
     exact .inr ⟨.inr (by omega),by rw[Iu];exact hfr _ _ hl nd hm,l,nd,hl,hi,Iu.symm⟩
    ·rw[if_neg c2]at hz
     by_cases c3:j=i+1
     ·rw[if_pos c3]at hz
      exact .inl ⟨rfl,c3,(aq9 hz).symm⟩
     ·rw[if_neg c3]at hz
      rw[if_pos (by omega)]
      exact .inr ⟨.inr c3,hfr _ _ hl z (aq7 hz),l,z,hl,hz,rfl⟩
  ·rw[if_neg (fun h=>hne h.1)]
   exact .inr ⟨.inl hne,hfr _ _ hk2 z (aq7 hz),l',z,hk2,hz,rfl⟩
 have Dr:∀(k1 k2:Nat) (l1 l2:List Nd) (i1 i2:Nat) (x y:Nd),(t.set k (wo l i a b))[k1]?=some l1->(t.set k (wo l i a b))[k2]?=some l2->l1[i1]?=some x->l2[i2]?=some y->x.id=y.id->k1=k2/\i1=i2:=by
  intro k1 k2 l1 l2 i1 i2 x y h1 h2 hx hy e;rcases hat k1 l1 i1 x h1 hx with⟨p1,p2,p3⟩|⟨p1,p2,l0,z0,p3,p4,p5⟩
  ·rcases hat k2 l2 i2 y h2 hy with⟨q1,q2,q3⟩|⟨q1,q2,_⟩
   ·omega
   ·rw[←e,p3]at q2;exact absurd rfl q2
  ·rcases hat k2 l2 i2 y h2 hy with⟨q1,q2,q3⟩|⟨q1,q2,l0',z0',q3,q4,q5⟩
   ·rw[e,q3]at p2;exact absurd rfl p2
   ·have:=h.inj k1 k2 l0 l0' _ _ z0 z0' p3 q3 p4 q4 (by rw[p5,q5];exact e)
    obtain⟨e1,e2⟩:=this;refine⟨e1,?_⟩;subst e1;split at e2 <;> split at e2 <;> omega
 have hnodes:∀(k':Nat) (l':List Nd),(t.set k (wo l i a b))[k']?=some l' -> ∀x,x∈l' -> (1<=x.id/\x.id<=N)/\Lb x:=by
  intro k' l' hk' x hx;rcases ei hk' with⟨rfl,rfl⟩|⟨_,hk2⟩
  ·rcases zg hx with rfl|rfl|hx
   ·have:=(h.nodes _ l hl nd hm).1
    rw[Iu];exact⟨this,hna⟩
   ·exact⟨⟨hb0,hN'⟩,hnb⟩
   ·exact h.nodes _ l hl x hx
  ·exact h.nodes k' l' hk2 x hx
 have hN0:0<=N:=by have:=(h.nodes k l hl nd hm).1;omega
 refine⟨by rw[List.length_set];exact h.ne,fun k' l' hk' =>?_,hnodes,fun k' x y hx hy c hc=>?_,Dr,Dq hN0 (fun k' l' hk' x hx=>(hnodes k' l' hk' x hx).1) Dr⟩
 ·rcases ei hk' with⟨rfl,rfl⟩|⟨_,hk2⟩
  ·exact(h.rows _ l hl).split hi x8 Iu ha1 ha2 ha3 ha4 hb1 hb2 hb3 hb4 h1 h2
  ·exact h.rows k' l' hk2
 ·have hkeep:∀c,c∈l->∃c',c' ∈ wo l i a b/\c'.id=c.id/\c'.low=c.low:=fun c hc=>by
   obtain⟨j,hj⟩:=aq4 hc;rcases Nat.lt_trichotomy j i with hji|rfl|hji
   ·exact⟨c,aq7 (i:=j) (by rw[fO hlen,if_pos hji];exact hj),rfl,rfl⟩
   ·rw[hi]at hj
    obtain rfl:=aq9 hj;exact⟨a,aq7 (i:=j) (by rw[fO hlen,if_neg (by omega),if_pos rfl]),Iu,x8⟩
   ·exact⟨c,aq7 (i:=j+1) (by rw[fO hlen,if_neg (by omega),if_neg (by omega),if_neg (by omega)];exact hj),rfl,rfl⟩
  rcases ei hx with⟨e1,rfl⟩|⟨e1,hx2⟩
  ·rcases ei hy with⟨e2,_⟩|⟨_,hy2⟩
   ·omega
   ·subst e1
    obtain⟨q1,q2⟩:=h.down k' l y hl hy2 c hc;refine⟨q1,fun s hs=>?_⟩
    obtain⟨c0,hc0,e3,e4⟩:=q2 s hs;obtain⟨c',hc',e5,e6⟩:=hkeep c0 hc0;exact⟨c',hc',e5.trans e3,e6.trans e4⟩
  ·rcases ei hy with⟨e2,rfl⟩|⟨_,hy2⟩
   ·subst e2
    obtain⟨d1,d2⟩:=hdn k' x rfl hx2;rcases zg hc with rfl|rfl|hc
    ·exact d1
    ·exact d2
    ·exact h.down k' x l hx2 hl c hc
   ·exact h.down k' x y hx2 hy2 c hc
end
end Go.Proofs.YtlpdhhhgckpcfaaGreat
