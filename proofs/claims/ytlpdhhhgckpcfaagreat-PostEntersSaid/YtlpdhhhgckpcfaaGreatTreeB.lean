/- blinktreekit.Keys: the keys of raw. -/
import Derived.Test.YtlpdhhhgckpcfaaGreatInsA
namespace Go.Proofs.YtlpdhhhgckpcfaaGreat
set_option linter.unusedSimpArgs false
set_option linter.unusedVariables false
open Go.RowKit
set_option maxHeartbeats 16000000
set_option maxRecDepth 100000
section
def Kr (k:ByteArray):List Value:=[.string k,.string ⟨#[]⟩]
def iO (l:List ByteArray):List Value:=l.flatMap Kr
theorem nL (l:List ByteArray):∀(i:Nat)(s:ByteArray),l[i]?=some s->(iO l)[i*2]?=some (.string s)/\(iO l)[i*2+1]?=some (.string ⟨#[]⟩):=by
 induction l with
 | nil=>intro i s h;simp at h
 | cons a l ih=>
  intro i s h;have e:iO (a::l)=.string a :: .string ⟨#[]⟩::iO l:=rfl;rw[e];cases i with
  | zero=>simp at h;subst h;exact⟨rfl,rfl⟩
  | succ i=>
   have:=ih i s (by simpa using h)
   rw[show(i+1)*2=i*2+2 by omega]
   simpa using this
theorem pE (l:List ByteArray)(k:ByteArray):iO (l++[k])=iO l++Kr k:=by simp[iO]
def sJ (l:List ByteArray):Prop:=l.Pairwise fun x y=>cA x y=true
theorem Nv:(Tryz.prog.info? 119).map (fun i=>(i.zero,i.size,i.bytes))=some (some (.agg #[.string ⟨#[]⟩,.string ⟨#[]⟩]),2,32):=by kernel_rfl
theorem pF:(Tryz.prog.info? 9).map (fun i=>(i.zero,i.size,i.bytes))=some (some (.string ⟨#[]⟩),1,16):=by kernel_rfl
structure oB (ks:List ByteArray)(key:ByteArray)(i:Nat)(b:Bool)(out:List ByteArray):Prop where
 before:b=false->∀x,x∈out->cA x key=true
 jA:sJ out
 later:∀x,x∈out->∀(j:Nat) (y:ByteArray),i<=j->ks[j]?=some y->y≠key->cA x y=true
 len:out.length<=i+(if b then 1 else 0)
 mem:∀x,x∈out->x=key\/x∈ks
theorem uI {out:List ByteArray}{y:ByteArray}(h:sJ out)(hy:∀x,x∈out->cA x y=true):sJ (out++[y]):=by
 refine List.pairwise_append.2 ⟨h,List.pairwise_singleton _ _,fun x hx z hz=>?_⟩
 simp at hz;subst hz;exact hy x hx
theorem Te {ks:List ByteArray}(h:sJ ks){i j:Nat}{x y:ByteArray}(hx:ks[i]?=some x)(hy:ks[j]?=some y)(hij:i<j):cA x y=true:=by
 have:=List.pairwise_iff_getElem.1 h i j (aq5.1 hx).1 (aq5.1 hy).1 hij;rwa [(aq5.1 hx).2,(aq5.1 hy).2]at this
section
variable {ks:List ByteArray}{key:ByteArray}{i:Nat}{out:List ByteArray}
theorem oB.start:oB ks key 0 false []:=⟨fun _ x h=>(by cases h),List.Pairwise.nil,fun x h=>(by cases h),by simp,fun x h=>(by cases h)⟩
theorem oB.own (h:oB ks key i false out)(hk:sJ ks){y:ByteArray}(hy:ks[i]?=some y)(hle:cA y key=false):oB ks key i true (out++[key]):=by
 refine⟨fun e=>(by cases e),uI h.jA (h.before rfl),fun x hx j z hj hz hne=>?_,by have:=h.len;simp at this ⊢;omega,fun x hx=>?_⟩
 ·rcases List.mem_append.1 hx with hx|hx
  ·exact h.later x hx j z hj hz hne
  ·simp at hx;subst hx
   cases e:cA x z with
   | true=>rfl
   | false=>
    have hzx:cA z x=false:=by
     rcases Nat.eq_or_lt_of_le hj with rfl|hlt
     ·rw[hy]at hz;cases hz;exact hle
     ·cases e2:cA z x with
      | false=>rfl
      | true=>have:=gA (Te hk hy hz hlt) e2;rw[hle]at this;cases this
    exact absurd (gB hzx e) hne
 ·rcases List.mem_append.1 hx with hx|hx
  ·exact h.mem x hx
  ·simp at hx;exact .inl hx
theorem oB.elem {b:Bool}(h:oB ks key i b out)(hk:sJ ks){y:ByteArray}(hy:ks[i]?=some y)(hne:y≠key)(hb:b=false->cA y key=true):oB ks key (i+1) b (out++[y]):=by
 refine⟨fun e x hx=>?_,uI h.jA (fun x hx=>h.later x hx i y (Nat.le_refl _) hy hne),fun x hx j z hj hz hnz=>?_,by have:=h.len;simp at this ⊢;omega,fun x hx=>?_⟩
 ·rcases List.mem_append.1 hx with hx|hx
  ·exact h.before e x hx
  ·simp at hx;subst hx;exact hb e
 ·rcases List.mem_append.1 hx with hx|hx
  ·exact h.later x hx j z (by omega) hz hnz
  ·simp at hx;subst hx;exact Te hk hy hz (by omega)
 ·rcases List.mem_append.1 hx with hx|hx
  ·exact h.mem x hx
  ·simp at hx;subst hx;exact .inr (aq7 hy)
theorem oB.skip {b:Bool}(h:oB ks key i b out):oB ks key (i+1) b out:=
 ⟨h.before,h.jA,fun x hx j z hj hz hne=>h.later x hx j z (by omega) hz hne,by have:=h.len;omega,h.mem⟩
theorem oB.last (h:oB ks key i false out):sJ (out++[key])/\(out++[key]).length<=i+1/\∀x,x∈out++[key]->x=key\/x∈ks:=by
 refine⟨uI h.jA (h.before rfl),by have:=h.len;simp at this ⊢;omega,fun x hx=>?_⟩
 rcases List.mem_append.1 hx with hx|hx
 ·exact h.mem x hx
 ·simp at hx;exact .inl hx
end
section
variable {K:aL}{w:World}{F:List aC}{ks:List ByteArray}{key:ByteArray}{v:Value}
theorem Cx (hk:sJ ks)(hlen:ks.length<=1000)(hs:St K w (az v 119 2 ks.length (iO ks)::F)) :
  Calls Tryz.prog 72 #[v,.agg #[.string key,.string ⟨#[]⟩]] w fun e w' => ∃(v':Value) (ks':List ByteArray),e=.returned v' /\ Hid (sJ ks' /\ ks'.length<=ks.length+1/\∀x,x∈ks' -> x=key\/x∈ks)/\St K w' (az v' 119 2 ks'.length (iO ks')::az v 119 2 ks.length (iO ks)::F):=by
 obtain⟨a,cap,rfl,_,_⟩:=hs.aH;obtain⟨n,hn⟩:∃n,n=ks.length:=⟨_,rfl⟩;have hs:=hs.made (.cells #[.string key,.string ⟨#[]⟩] 119);have Hk:=aq3 hk;have Hn:=aq3 hn;rw[←hn]at hlen hs ⊢;obtain⟨iv,cZ,dc,dg,dh⟩:=info_parts Nv;have lI:=aq3 cZ;have lJ:=aq3 dc;have lK:=aq3 dg;have lM:=aq3 dh;clear cZ dc dg dh hk hn;obtain⟨bx,hbx⟩:∃bx,bx=w.heap.size:=⟨_,rfl⟩;have hs:=hs.cF (T:=119) (size:=2);go_enter Tryz.func72,Tryz.ntmps72
 go_wp2
 rw[←hbx]at hs ⊢;clear hbx;go_loopw [5,6,7] (fun v5 v6 v7 wr=>∃(i:Nat) (b:Bool) (out:List ByteArray) (ao:Option Addr) (co:Nat),v5=.slice ao out.length co/\v6=.bool b/\v7=.int .i64 i/\i<=n/\Hid (oB ks key i b out) /\
  St K wr (az (.slice ao out.length co) 119 2 out.length (iO out)::blk bx (.cells #[.string key,.string ⟨#[]⟩] 119)::az (.slice a n cap) 119 2 n (iO ks)::F)) (fun _ _ v7 _=>n-(intOf v7).toNat)
 case atStart=>exact⟨0,false,[],none,0,rfl,rfl,rfl,by omega,aq3 oB.start,hs⟩
 case round=>
  clear hs;obtain⟨i,b,out,ao,co,rfl,rfl,rfl,hi,HP,hs⟩:=hrel;have hol:out.length<=1001:=by have:=HP.out.len;split at this <;> omega
  by_cases hin:i<n
  ·obtain⟨y,hy⟩:∃y,ks[i]?=some y:=⟨_,aq8 (by have:=Hn.out;omega)⟩
   obtain⟨r0,r1⟩:=nL ks i y hy;obtain⟨g,rfl,c0⟩:=hs.b2.cQ r0;obtain⟨g1,e1,c1⟩:=hs.b2.cQ r1;obtain rfl:g1=g:=by simpa using e1.symm
   clear e1 r0 r1;have kx:=hs.k1;have Hy:=aq3 hy;clear hy;go_upto_region 6 with(fail)
   go_cut [25] (fun v25 wx=>v25=.bool (!b && !cA y key)/\St K wx (az (.slice ao out.length co) 119 2 out.length (iO out)::blk bx (.cells #[.string key,.string ⟨#[]⟩] 119)::az (.slice (some ⟨g1,0,none⟩) n cap) 119 2 n (iO ks)::F))
   case first=>
    as_aux_lemma=>
    refine bI (by kernel_rfl) (by kernel_rfl) ?_
    cases b with
    | true=>
     repeat (go_big_quiet_step (fail))
     refine wpQuiet_nil ?_
     intro w2 hb2;have hs:=hs.same hb2;clear kx c0 c1 hb2;go_wp2
     go_meet;exact⟨rfl,hs⟩
    | false=>
     repeat (go_big_quiet_step (fail))
     refine wpQuiet_nil ?_
     intro w2 hb2;have hs:=hs.same hb2;clear kx c0 c1 hb2;go_wp2
     go_meet;exact⟨rfl,hs⟩
   case rest=>
    clear hs kx c0 c1;obtain⟨rfl,hs⟩:=hcut;apply_assumption
    go_cut [5,6] (fun v5 v6 wx=>∃(b':Bool) (out':List ByteArray) (zy:Option Addr) (zz:Nat),v5=.slice zy out'.length zz/\v6=.bool b' /\ Hid (oB ks key i b' out' /\ (b'=false->cA y key=true)) /\
     St K wx (az (.slice zy out'.length zz) 119 2 out'.length (iO out')::blk bx (.cells #[.string key,.string ⟨#[]⟩] 119)::az (.slice (some ⟨g1,0,none⟩) n cap) 119 2 n (iO ks)::F))
    case first=>
     as_aux_lemma=>
     cases hc:(!b && !cA y key)with
     | true=>
      obtain⟨rfl,hle⟩:b=false/\cA y key=false:=by cases b <;> simp_all
      have Ks:=aq3 hle;have kx:=hs.k1;clear hc hle;go_wp2_with (at_builtin;refine dF _ _ 116 119 _ out.length 2 32 _ [.string key,.string ⟨#[]⟩] (.agg #[.string ⟨#[]⟩,.string ⟨#[]⟩]) iv hs rfl rfl Tryz.underlying116 lI.out lJ.out lK.out lM.out rfl (by decide) rfl rfl rfl (fun u hu=>by simp at hu;rcases hu with rfl|rfl <;> rfl) (by omega) (by decide) ?_)
      clear hs kx;intro v' w' hs;obtain⟨zy,zz,hv,_,_⟩:=hs.aH;subst hv;go_wp2
      go_meet;exact⟨true,out++[key],zy,zz,by rw[List.length_append];rfl,rfl,aq3 ⟨HP.out.own Hk.out Hy.out Ks.out,fun e=>(by cases e)⟩,by rw[pE,List.length_append];exact hs⟩
     | false=>
      have Hc:=aq3 hc;clear hc;go_wp2
      go_meet;exact⟨b,out,ao,co,rfl,rfl,aq3 ⟨HP.out,fun e=>by have:=Hc.out;subst e;simpa using this⟩,hs⟩
    case rest=>
     clear hs;obtain⟨b',out',zy,zz,rfl,rfl,HP',hs⟩:=hcut;have anT:out'.length<=1001:=by have:=HP'.out.1.len;split at this <;> omega
     obtain⟨r0,r1⟩:=nL ks i y Hy.out;have c0:=hs.b2.bK r0;have c1:=hs.b2.bK r1;have kx:=hs.k1;clear r0 r1 HP;go_upto_region 9 with(fail)
     refine bI (by kernel_rfl) (by kernel_rfl) ?_
     repeat (go_big_quiet_step (fail))
     refine wpQuiet_nil ?_
     intro w2 hb2;have hs:=hs.same hb2;clear kx c0 c1 hb2;by_cases hyk:y=key
     ·obtain rfl:=hyk
      have he:(y.toList == y.toList)=true:=beq_self_eq_true _;rw[he];go_wp2
      go_roundw
      case rel=>exact⟨i+1,b',out',zy,zz,rfl,rfl,by go_num,by omega,aq3 HP'.out.1.skip,hs⟩
      case measure=>simp[intOf];omega
     ·have he:=jJ hyk
      rw[he];have Hne:=aq3 hyk;obtain⟨r0,r1⟩:=nL ks i y Hy.out;have c0:=hs.b2.bK r0;have c1:=hs.b2.bK r1;clear r0 r1 hyk;go_wp2_with (at_builtin;refine dF _ _ 116 119 _ out'.length 2 32 _ [.string y,.string ⟨#[]⟩] (.agg #[.string ⟨#[]⟩,.string ⟨#[]⟩]) iv hs rfl rfl Tryz.underlying116 lI.out lJ.out lK.out lM.out rfl (by decide) rfl rfl rfl (fun u hu=>by simp at hu;rcases hu with rfl|rfl <;> rfl) (by omega) (by decide) ?_)
      clear hs c0 c1;intro v' w' hs;obtain⟨mP,mQ,hv,_,_⟩:=hs.aH;subst hv;go_wp2
      go_roundw
      case rel=>exact⟨i+1,b',out' ++ [y],mP,mQ,by rw[List.length_append];rfl,rfl,by go_num,by omega,aq3 (HP'.out.1.elem Hk.out Hy.out Hne.out HP'.out.2),by rw[pE,List.length_append];exact hs⟩
      case measure=>simp[intOf];omega
  ·obtain rfl:i=n:=by omega
   cases b with
   | true=>
    go_wp2
    go_ret;exact⟨_,out,rfl,aq3 ⟨HP.out.jA,HP.out.len,HP.out.mem⟩,hs.bY⟩
   | false=>
    have kx:=hs.k1;go_wp2_with (at_builtin;refine dF _ _ 116 119 _ out.length 2 32 _ [.string key,.string ⟨#[]⟩] (.agg #[.string ⟨#[]⟩,.string ⟨#[]⟩]) iv hs rfl rfl Tryz.underlying116 lI.out lJ.out lK.out lM.out rfl (by decide) rfl rfl rfl (fun u hu=>by simp at hu;rcases hu with rfl|rfl <;> rfl) (by omega) (by decide) ?_)
    clear hs kx;intro v' w' hs;obtain⟨mP,mQ,hv,_,_⟩:=hs.aH;subst hv;go_wp2
    go_ret;exact⟨_,out++[key],rfl,aq3 HP.out.last,by rw[pE,List.length_append];exact hs.bY⟩
end
open Go.Joins Go.ChangeShapes Go.WideShapes Go.ChangeAt Go.RowKit Go.Deep
def yU (w:World)(a:Option Addr)(len:Nat)(f:Nat->ByteArray):Prop:=
 len<=maxLen/\∀i,i<len->∃b off,a=some ⟨b,off,none⟩/\b<w.heap.size/\w.cell? ⟨b,off+i,none⟩=some (.string (f i))/\(f i).size<=maxLen
theorem open_strs {H:Type}{enc:TypeId × Value->H}{w:World}{base:Nat}{spare:Nat->Bool}{held:Bool}{a:Option Addr}{len cap:Nat}{d:DataW H}{p:List MemPlace}
  (h:DataW.Trod enc Tryz.prog w base spare held 22 (.slice a len cap) d p):∃f:Nat->ByteArray,yU w a len f:=by
 obtain⟨fuel,hf⟩:=h;rcases open_slice Tryz.underlying22 hf with⟨hcs,_⟩|⟨x,l,c,m,n,D,Pl,hcs,_,hl,hcap,hm,_,hx⟩
 ·simp[Value.cells]at hcs
  obtain⟨rfl,rfl,rfl⟩:=hcs;exact⟨fun _=>⟨#[]⟩,by simp[maxLen],fun i hi=>by omega⟩
 ·simp[Value.cells]at hcs
  obtain⟨rfl,rfl,rfl⟩:=hcs;have hlm:len<=m:=by rw[hm];split <;> omega
  have ce:Tryz.prog.cellsOf 9=1:=by kernel_rfl
  have each:∀i,i<len->∃q:ByteArray,w.cell? (x.add i)=some (.string q)/\q.size<=maxLen:=by
   intro i hi;obtain⟨cs',h1,h2⟩:=hx i (by omega)
   rw[ce,Nat.mul_one]at h1;obtain⟨_,hlen,hcell⟩:=World.cells?_some h1;match cs',hlen with
   | [v0],_=>
    have e0:=hcell 0 (by omega)
    rw[add_add]at e0;obtain⟨a0,q0,_,w0⟩:=DataW.trod_string Tryz.underlying9 h2;simp only[List.cons.injEq,and_true]at q0;subst q0;exact⟨a0,by simpa using e0,w0⟩
  obtain⟨f,hf'⟩:=choose_lt each;refine⟨f,by omega,fun i hi=>?_⟩
  have h0:=(hf' 0 (by omega)).1
  rw[show x.add 0=x from rfl]at h0
  have hsp:x.spot=none:=by
   cases hs:x.spot with
   | none=>rfl
   | some s=>
    simp only[World.cell?,hs]at h0;split at h0 <;> simp at h0
  obtain⟨b,off,sp⟩:=x;simp only at hsp;subst hsp;obtain⟨k0,r⟩:=hf' i hi;rw[add_plain]at k0;exact⟨b,off,rfl,World.block_lt_of_cell? _ _ k0,k0,r⟩
def bO (l:List ByteArray):List Value:=l.map Value.string
theorem l7 (l:List ByteArray)(k:ByteArray):bO (l++[k])=bO l++[.string k]:=by simp[bO]
structure ru (most:Nat)(ks:List ByteArray):Prop where
 jA:sJ ks
 len:ks.length<=most
 size:∀x,x∈ks->x.size<=32
section
variable {w0 w:World}{F:List aC}{a:Option Addr}{len cap most:Nat}{f:Nat->ByteArray}
theorem Yb (hz:yU w0 a len f)(hm:most<=100)(hs:St (aL.of w0) w F) :
  Calls Tryz.prog 16 #[.slice a len cap,.int .i64 most] w fun e w' => ∃(v:Value) (ks:List ByteArray),e=.returned v/\Hid (ru most ks)/\St (aL.of w0) w' (az v 9 1 ks.length (bO ks)::F):=by
 have hl:=hz.1;simp only[maxLen]at hl;have Hz:=aq3 hz;obtain⟨iv,cZ,dc,dg,dh⟩:=info_parts pF;have lI:=aq3 cZ;have lJ:=aq3 dc;have lK:=aq3 dg;have lM:=aq3 dh;clear cZ dc dg dh hz;have hs:=hs.cF (T:=119) (size:=2);go_enter Tryz.func16,Tryz.ntmps16
 go_wp2
 go_loopw [5,6,7] (fun v5 v6 _ wr=>∃(i:Nat) (ks:List ByteArray) (ao:Option Addr) (co:Nat),v5=.slice ao ks.length co/\v6=.int .i64 i/\i<=len/\i<=most/\Hid (ru i ks) /\
  St (aL.of w0) wr (az (.slice ao ks.length co) 119 2 ks.length (iO ks)::F)) (fun _ v6 _ _=>len-(intOf v6).toNat)
 case atStart=>exact⟨0,[],none,0,rfl,rfl,by omega,by omega,aq3 ⟨List.Pairwise.nil,Nat.le_refl _,fun x h=>(by cases h)⟩,hs⟩
 case round=>
  clear hs;obtain⟨i,ks,ao,co,rfl,rfl,hi,him,HK,hs⟩:=hrel;have hol:ks.length<=100:=by have:=HK.out.len;omega
  by_cases hin:i<len/\i<most
  ·obtain⟨h1,h2⟩:=hin
   obtain⟨qb,anU,rfl,adz,kq,hsz⟩:=Hz.out.2 i h1;rw[←(hs.below (aL.Le.refl _)).cell (p:=⟨qb,_,none⟩) adz]at kq;simp only[maxLen]at hsz;generalize f i=y at kq hsz;by_cases Yc:y.size<=32
   ·go_wp2_with fail
    refine(Cx HK.out.jA (by omega) hs).mono ?_
    clear hs kq;rintro e w2 ⟨v',ks',rfl,HK',hs⟩;obtain⟨zy,zz,rfl,_,_⟩:=hs.aH;have hs:=hs.bY;go_wp2
    go_roundw
    case rel=>exact⟨i+1,ks',zy,zz,rfl,by go_num,by omega,by omega,aq3 ⟨HK'.out.1,by have:=HK'.out.2.1;have:=HK.out.len;omega,fun x hx=>by rcases HK'.out.2.2 x hx with rfl|hx;exact Yc;exact HK.out.size x hx⟩,hs⟩
    case measure=>simp[intOf];omega
   ·have anV:¬ ((y.size:Int)<=32):=by omega
    go_wp2_with fail
    refine(Cx HK.out.jA (by omega) hs).mono ?_
    clear hs kq;rintro e w2 ⟨v',ks',rfl,HK',hs⟩;obtain⟨zy,zz,rfl,_,_⟩:=hs.aH;have hs:=hs.bY;go_wp2
    go_roundw
    case rel=>exact⟨i+1,ks',zy,zz,rfl,by go_num,by omega,by omega,aq3 ⟨HK'.out.1,by have:=HK'.out.2.1;have:=HK.out.len;omega,fun x hx=>by rcases HK'.out.2.2 x hx with rfl|hx;exact(by rw[ByteArray.size_extract];omega);exact HK.out.size x hx⟩,hs⟩
    case measure=>simp[intOf];omega
  ·obtain⟨n,hn⟩:∃n,n=ks.length:=⟨_,rfl⟩
   have Hn:=aq3 hn;rw[←hn]at hs hol ⊢;clear hn;have hs:=hs.cF (T:=9) (size:=1);have Hks:Hid (ru most ks):=aq3 ⟨HK.out.jA,by have:=HK.out.len;omega,HK.out.size⟩
   by_cases h1:i<len
   ·have h2:¬ i<most:=fun h=>hin ⟨h1,h⟩
    go_wp2
    clear h1 h2 hin;go_loopw [8,9] (fun v8 v9 wr=>∃(j:Nat) (zy:Option Addr) (zz:Nat),v8=.slice zy j zz/\v9=.int .i64 j/\j<=n /\
     St (aL.of w0) wr (az (.slice zy j zz) 9 1 j (bO (ks.take j))::az (.slice ao n co) 119 2 n (iO ks)::F)) (fun _ v9 _=>n-(intOf v9).toNat)
    case atStart=>exact⟨0,none,0,rfl,rfl,by omega,hs⟩
    case round=>
     clear hs;obtain⟨j,zy,zz,rfl,rfl,hj,hs⟩:=hrel;by_cases hjn:j<n
     ·obtain⟨y,hy⟩:∃y,ks[j]?=some y:=⟨_,aq8 (by have:=Hn.out;omega)⟩
      obtain⟨r0,r1⟩:=nL ks j y hy;obtain⟨g,rfl,c0⟩:=hs.b1.cQ r0;have dY:ks.take (j+1)=ks.take j++[y]:=by rw[List.take_add_one,hy];rfl
      have iP:=aq3 dY;clear r0 r1 hy dY;go_wp2_with (at_builtin;refine dF _ _ 22 9 _ j 1 16 _ [.string y] (.string ⟨#[]⟩) iv hs rfl rfl Tryz.underlying22 lI.out lJ.out lK.out lM.out rfl (by decide) rfl rfl rfl (fun u hu=>by simp at hu;subst hu;rfl) (by omega) (by decide) ?_)
      clear hs c0;intro v' w' hs;obtain⟨mP,mQ,hv,_,_⟩:=hs.aH;subst hv;go_wp2
      go_roundw
      case rel=>exact⟨j+1,mP,mQ,rfl,by go_num,by omega,by rw[iP.out,l7];exact hs⟩
      case measure=>simp[intOf];omega
     ·obtain rfl:j=n:=by omega
      go_wp2
      go_ret;refine⟨_,ks,rfl,Hks,?_⟩;have e:ks.take j=ks:=List.take_of_length_le (by rw[←Hn.out];exact Nat.le_refl _)
      rw[e]at hs;rw[←Hn.out];exact hs.bY
   ·go_wp2
    clear h1 hin;go_loopw [8,9] (fun v8 v9 wr=>∃(j:Nat) (zy:Option Addr) (zz:Nat),v8=.slice zy j zz/\v9=.int .i64 j/\j<=n /\
     St (aL.of w0) wr (az (.slice zy j zz) 9 1 j (bO (ks.take j))::az (.slice ao n co) 119 2 n (iO ks)::F)) (fun _ v9 _=>n-(intOf v9).toNat)
    case atStart=>exact⟨0,none,0,rfl,rfl,by omega,hs⟩
    case round=>
     clear hs;obtain⟨j,zy,zz,rfl,rfl,hj,hs⟩:=hrel;by_cases hjn:j<n
     ·obtain⟨y,hy⟩:∃y,ks[j]?=some y:=⟨_,aq8 (by have:=Hn.out;omega)⟩
      obtain⟨r0,r1⟩:=nL ks j y hy;obtain⟨g,rfl,c0⟩:=hs.b1.cQ r0;have dY:ks.take (j+1)=ks.take j++[y]:=by rw[List.take_add_one,hy];rfl
      have iP:=aq3 dY;clear r0 r1 hy dY;go_wp2_with (at_builtin;refine dF _ _ 22 9 _ j 1 16 _ [.string y] (.string ⟨#[]⟩) iv hs rfl rfl Tryz.underlying22 lI.out lJ.out lK.out lM.out rfl (by decide) rfl rfl rfl (fun u hu=>by simp at hu;subst hu;rfl) (by omega) (by decide) ?_)
      clear hs c0;intro v' w' hs;obtain⟨mP,mQ,hv,_,_⟩:=hs.aH;subst hv;go_wp2
      go_roundw
      case rel=>exact⟨j+1,mP,mQ,rfl,by go_num,by omega,by rw[iP.out,l7];exact hs⟩
      case measure=>simp[intOf];omega
     ·obtain rfl:j=n:=by omega
      go_wp2
      go_ret;refine⟨_,ks,rfl,Hks,?_⟩;have e:ks.take j=ks:=List.take_of_length_le (by rw[←Hn.out];exact Nat.le_refl _)
      rw[e]at hs;rw[←Hn.out];exact hs.bY
end
def gm (l:List Nat):List Value:=l.map fun(p:Nat)=>Value.int .i64 (p:Int)
theorem uJ (l:List Nat)(p:Nat):gm (l++[p])=gm l++[.int .i64 (p:Int)]:=by simp[gm]
theorem Yd:(Tryz.prog.info? 3).map (fun i=>(i.zero,i.size,i.bytes))=some (some (.int .i64 0),1,8):=by kernel_rfl
structure tj (n least fa:Nat)(ps:List Nat):Prop where
 sum:ps.sum=n
 bd:∀p,p∈ps->1<=p/\p<=fa
 len:ps.length*least<=n+(least-1)
structure ry (n least fa r:Nat)(ps:List Nat):Prop where
 sum:ps.sum+r=n
 bd:∀p,p∈ps->1<=p/\p<=fa
 len:ps.length*least<=ps.sum+(if r=0 then least-1 else 0)
theorem ry.step {n least fa r x:Nat}{ps:List Nat}(h:ry n least fa r ps)(hr:0<r)(hl:1<=least)(hx:least<=x)(hxf:x<=fa):ry n least fa (r-min x r) (ps++[min x r]):=by
 have h1:=h.sum;have h3:=h.len;rw[if_neg (by omega)]at h3
 have e:(ps++[min x r]).sum=ps.sum+min x r:=by simp
 refine⟨by rw[e];omega,fun p hp=>?_,?_⟩
 ·rcases List.mem_append.1 hp with hp|hp
  ·exact h.bd p hp
  ·simp at hp;omega
 ·rw[e,List.length_append]
  simp only[List.length_cons,List.length_nil,Nat.add_mul,Nat.one_mul,Nat.zero_mul,Nat.zero_add];by_cases hm:x<=r
  ·rw[Nat.min_eq_left hm];omega
  ·rw[Nat.min_eq_right (by omega),if_pos (by omega)];omega
theorem ry.last {n least fa:Nat}{ps:List Nat}(h:ry n least fa 0 ps):tj n least fa ps:=by
 have h1:=h.sum;have h3:=h.len;rw[if_pos rfl]at h3;exact⟨by omega,h.bd,by omega⟩
theorem uK (z:Int):0<=IntKind.u64.wrap z/\IntKind.u64.wrap z<18446744073709551616:=by
 rw[IntKind.wrap_u64];omega
theorem j6 {z:Int}(h:0<=z)(h2:z<1000000):wrap64 z=z:=by unfold wrap64;omega
theorem rz:∀ {ps:List Nat},(∀p,p∈ps->1<=p)->ps.length<=ps.sum
 | [],_=>by simp
 | a::l,h=>by
  have h1:=h a (by simp)
  have h2:=rz (ps:=l) (fun p hp=>h p (by simp[hp]))
  simp only[List.length_cons,List.sum_cons];omega
section
variable {K:aL}{w:World}{F:List aC}{n least fa:Nat}{sh:Int}
theorem uL (hn:n<=1000)(hl:1<=least/\least<=2)(hf:least<=fa/\fa<=32)(hsh:0<=sh/\sh<18446744073709551616)(hs:St K w F) :
  Calls Tryz.prog 70 #[.int .i64 n,.int .i64 least,.int .i64 fa,.int .u64 sh] w fun e w' => ∃(v:Value) (ps:List Nat),e=.returned v/\Hid (tj n least fa ps)/\St K w' (az v 3 1 ps.length (gm ps)::F):=by
 obtain⟨iv,cZ,dc,dg,dh⟩:=info_parts Yd;have lI:=aq3 cZ;have lJ:=aq3 dc;have lK:=aq3 dg;have lM:=aq3 dh;clear cZ dc dg dh;have hs:=hs.cF (T:=3) (size:=1);go_enter Tryz.func70,Tryz.ntmps70
 go_wp2
 go_loopw [0,3,9,10] (fun v0 v3 v9 _ wr=>∃(r:Nat) (s:Int) (ps:List Nat) (ao:Option Addr) (co:Nat),v0=.int .i64 r/\v3=.int .u64 s/\v9=.slice ao ps.length co/\r<=n/\0<=s/\s<18446744073709551616/\ps.length<=n/\Hid (ry n least fa r ps) /\
  St K wr (az (.slice ao ps.length co) 3 1 ps.length (gm ps)::F)) (fun v0 _ _ _ _=>(intOf v0).toNat)
 case atStart=>exact⟨n,sh,[],none,0,rfl,rfl,rfl,Nat.le_refl _,hsh.1,hsh.2,by simp,aq3 ⟨by simp,fun p h=>(by cases h),by simp⟩,by simpa[gm] using hs⟩
 case round=>
  clear hs;obtain⟨r,s,ps,ao,co,rfl,rfl,rfl,hr,hs0,hs1,hpl,HG,hs⟩:=hrel;by_cases h0:0<r
  ·go_upto_region 4 with(fail)
   obtain⟨x,hx,hx1,hx2⟩:∃x:Nat,wrap64 ((least:Int)+wrap64 (s%((fa:Int)-least+1)))=x/\least<=x/\x<=fa:=by
    have hpos:(0:Int)<(fa:Int)-least+1:=by omega
    have m1:=Int.emod_nonneg s (by omega:(fa:Int)-least+1≠0)
    have m2:=Int.emod_lt_of_pos s hpos;generalize s%((fa:Int)-least+1)=m at *;refine⟨least+m.toNat,?_,by omega,by omega⟩
    rw[j6 (z:=m) (by omega) (by omega),j6 (by omega) (by omega)]
    omega
   rw[hx];have HG2:=aq3 (HG.out.step h0 hl.1 hx1 hx2);clear hx;by_cases Et:x<=r
   ·have ajf:¬ (r:Int)<x:=by omega
    rw[Nat.min_eq_left Et]at HG2;go_wp2_with (at_builtin;refine dF _ _ 39 3 _ ps.length 1 8 _ [.int .i64 (x:Int)] (.int .i64 0) iv hs rfl rfl Tryz.underlying39 lI.out lJ.out lK.out lM.out rfl (by decide) rfl rfl rfl (fun u hu=>by simp at hu;subst hu;rfl) (by omega) (by decide) ?_)
    clear hs;intro v' w' hs;obtain⟨mP,mQ,hv,_,_⟩:=hs.aH;subst hv;have hw:=uK (IntKind.u64.wrap (s / 3+IntKind.u64.wrap (s*7))+1);go_wp2
    go_roundw
    case rel=>exact⟨r-x,_,ps++[x],mP,mQ,by go_num,rfl,by rw[List.length_append];rfl,by omega,hw.1,hw.2,by have h2:=HG2.out.sum;have h3:=rz (fun p hp=>(HG2.out.bd p hp).1);omega,HG2,by rw[uJ,List.length_append];exact hs⟩
    case measure=>simp[intOf];omega
   ·have ajf:(r:Int)<x:=by omega
    rw[Nat.min_eq_right (by omega),Nat.sub_self]at HG2
    go_wp2_with (at_builtin;refine dF _ _ 39 3 _ ps.length 1 8 _ [.int .i64 (r:Int)] (.int .i64 0) iv hs rfl rfl Tryz.underlying39 lI.out lJ.out lK.out lM.out rfl (by decide) rfl rfl rfl (fun u hu=>by simp at hu;subst hu;rfl) (by omega) (by decide) ?_)
    clear hs;intro v' w' hs;obtain⟨mP,mQ,hv,_,_⟩:=hs.aH;subst hv;have hw:=uK (IntKind.u64.wrap (s / 3+IntKind.u64.wrap (s*7))+1);go_wp2
    go_roundw
    case rel=>exact⟨0,_,ps++[r],mP,mQ,by go_num,rfl,by rw[List.length_append];rfl,by omega,hw.1,hw.2,by have h2:=HG2.out.sum;have h3:=rz (fun p hp=>(HG2.out.bd p hp).1);omega,HG2,by rw[uJ,List.length_append];exact hs⟩
    case measure=>simp[intOf];omega
  ·obtain rfl:r=0:=by omega
   go_wp2
   go_ret;exact⟨_,ps,rfl,aq3 HG.out.last,hs⟩
end
structure Nd where
 id:Int
 low:ByteArray
 pg:Pg
def nM (ak:Nat)(l:List Sl)(p:Nat):ByteArray:=match l[p-1]?,l[p]? with
 | some a,some b=>if ak=0 then lY a.k b.k else b.k
 | _,some b=>b.k
 | _,_=>⟨#[]⟩
def dO (ak:Nat):ByteArray->Int->List Sl->List Nat->List Nd
 | _,_,_,[]=>[]
 | low,id,l,[p]=>[⟨id,low,⟨ak,l.take p,⟨#[]⟩,true,0⟩⟩]
 | low,id,l,p::q::ps=>⟨id,low,⟨ak,l.take p,nM ak l p,false,id+1⟩⟩::dO ak (nM ak l p) (id+1) (l.drop p) (q::ps)
theorem eV (ak:Nat):∀(ps:List Nat)(low:ByteArray)(id:Int)(l:List Sl),(dO ak low id l ps).length=ps.length
 | [],_,_,_=>rfl
 | [p],_,_,_=>rfl
 | p::q::ps,low,id,l=>by
  show(dO ak _ _ _ (q::ps)).length+1=_
  rw[eV ak (q::ps)];rfl
structure fL (ak:Nat)(l:List Nd):Prop where
 ne:0<l.length
 ak:∀nd,nd∈l->nd.pg.ak=ak
 first:∀nd,l[0]?=some nd->nd.low=⟨#[]⟩
 next:∀(i:Nat) (a b:Nd),l[i]?=some a->l[i+1]?=some b->a.pg.la=false/\a.pg.hi=b.low/\a.pg.ri=b.id/\cA a.low b.low=true
 last:∀(i:Nat) (a:Nd),l[i]?=some a->i+1=l.length->a.pg.la=true/\a.pg.hi=⟨#[]⟩/\a.pg.ri=0
structure iQ (c:aO):Prop where
 n:c.n%4=0
 k:c.k=⟨#[]⟩
 m:c.m=0
theorem iQ.zero:iQ aO.zero:=⟨rfl,rfl,rfl⟩
theorem iQ.vD {c:aO}(h:iQ c):bW c.n=false:=by
 have:=h.n;unfold bW;exact decide_eq_false (by omega)
theorem iQ.eq {c:aO}(h:iQ c):c=⟨c.n,⟨#[]⟩,0⟩:=by
 obtain⟨n,k,m⟩:=c;have h1:=h.k;have h2:=h.m;simp only at h1 h2;subst h1 h2;rfl
structure uM (d:aR)(L:List aO)(nd:Nd):Prop where
 id:1<=nd.id/\nd.id<=d.no
 page:cT d nd.id L nd.pg
 hold:Holds L (bP d nd.id nd.pg)
 free:iQ (ah L (d.node nd.id 0))
 jA:kV nd.pg.sl
 rf:∀s,s∈nd.pg.sl->1<=s.r
 bd:∀s,s∈nd.pg.sl->cA s.k nd.low=false/\(nd.pg.la=false->cA s.k nd.pg.hi=true)
structure cD (d:aR)(L:List aO)(t:List (List Nd)):Prop where
 ne:0<t.length
 rows:∀(k:Nat) (l:List Nd),t[k]?=some l->fL k l
 nodes:∀(k:Nat) (l:List Nd),t[k]?=some l->∀nd,nd∈l->uM d L nd
 top:∃nd rest,t[t.length-1]?=some (nd::rest)/\(ah L 0).n=nd.id
 down:∀(k:Nat) (l l':List Nd),t[k]?=some l->t[k+1]?=some l' -> ∀nd,nd∈l' -> (∃s r,nd.pg.sl=s::r/\s.k=nd.low)/\∀s,s∈nd.pg.sl->∃c,c∈l/\c.id=s.r/\c.low=s.k
 count:((t.map List.length).sum:Int)<=(ah L 4).n
 n4:(ah L 4).n<=d.no
 used:∀(k:Nat) (l:List Nd),t[k]?=some l->∀nd,nd∈l->nd.id<=(ah L 4).n
theorem nN (ak:Nat):∀(ps:List Nat)(low:ByteArray)(id:Int)(l:List Sl)(i p:Nat),ps[i]?=some p ->
  ∃nd:Nd,(dO ak low id l ps)[i]?=some nd/\nd.id=id+i/\(i=0->nd.low=low) /\
   nd.pg=(if i+1=ps.length then⟨ak,(l.drop (ps.take i).sum).take p,⟨#[]⟩,true,0⟩else⟨ak,(l.drop (ps.take i).sum).take p,nM ak (l.drop (ps.take i).sum) p,false,id+i+1⟩) /\
   ∀l8,(dO ak low id l ps)[i+1]?=some l8->l8.low=nM ak (l.drop (ps.take i).sum) p
 | [],_,_,_,i,p,h=>by simp at h
 | [q],low,id,l,i,p,h=>by
  cases i with
  | zero=>
   simp at h;subst h;exact⟨_,rfl,by simp,fun _=>rfl,by simp,fun l8 h' => by simp[dO]at h'⟩
  | succ i=>simp at h
 | q::r::ps,low,id,l,i,p,h=>by
  cases i with
  | zero=>
   simp at h;subst h;refine⟨_,rfl,by simp,fun _=>rfl,by simp,fun l8 h' =>?_⟩
   have h2:(dO ak (nM ak l q) (id+1) (l.drop q) (r::ps))[0]?=some l8:=h';obtain⟨nd2,e2,_,e3,_⟩:=nN ak (r::ps) (nM ak l q) (id+1) (l.drop q) 0 r rfl;rw[e2]at h2;cases h2;simpa using e3 rfl
  | succ i=>
   obtain⟨nd,h1,h2,h3,h4,h5⟩:=nN ak (r::ps) (nM ak l q) (id+1) (l.drop q) i p (by simpa using h)
   have e:(q::r::ps).take (i+1)=q::(r::ps).take i:=rfl;refine⟨nd,h1,by rw[h2];push_cast;omega,fun h=>by omega,?_,fun l8 h' =>?_⟩
   ·rw[h4,e,List.sum_cons,List.drop_drop]
    simp only[List.length_cons];rw[show id+1+(i:Int)+1=id+((i+1:Nat):Int)+1 by push_cast;omega]
    by_cases hx:i+1=ps.length+1
    ·rw[if_pos hx,if_pos (by omega)]
    ·rw[if_neg hx,if_neg (by omega)]
   ·rw[e,List.sum_cons,←List.drop_drop]
    exact h5 l8 h'
theorem gV {ps:List Nat}{i p:Nat}(h:ps[i]?=some p):(ps.take (i+1)).sum=(ps.take i).sum+p:=by
 rw[List.take_add_one,h];simp
theorem rY (ps:List Nat)(i:Nat):(ps.take i).sum<=ps.sum:=by
 have h:ps.sum=(ps.take i).sum+(ps.drop i).sum:=by rw[←List.sum_append,List.take_append_drop]
 omega
theorem kQ {S:List Sl}(h:kV S){i j:Nat}{x y:Sl}(hx:S[i]?=some x)(hy:S[j]?=some y)(hij:i<j):cA x.k y.k=true:=by
 have:=List.pairwise_iff_getElem.1 h i j (aq5.1 hx).1 (aq5.1 hy).1 hij;rwa [(aq5.1 hx).2,(aq5.1 hy).2]at this
theorem yV {S:List Sl}(h:kV S){i j:Nat}{x y:Sl}(hx:S[i]?=some x)(hy:S[j]?=some y)(hij:i<=j):cA y.k x.k=false:=by
 rcases Nat.eq_or_lt_of_le hij with rfl|hlt
 ·rw[hx]at hy;cases hy;exact dm _
 ·exact jc (kQ h hx hy hlt)
structure eW (S:List Sl)(ps:List Nat):Prop where
 jA:kV S
 ne:0<ps.length
 sum:ps.sum=S.length
 pos:(∀p,p∈ps->1<=p)\/ps=[0]
section
variable {ak:Nat}{S:List Sl}{ps:List Nat}{id:Int}
theorem eW.at (h:eW S ps){i p:Nat}(hp:ps[i]?=some p)(hi:i+1<ps.length):∃x y:Sl,S[(ps.take (i+1)).sum-1]?=some x/\S[(ps.take (i+1)).sum]?=some y/\(ps.take (i+1)).sum=(ps.take i).sum+p/\1<=p/\nM ak (S.drop (ps.take i).sum) p=(if ak=0 then lY x.k y.k else y.k)/\cA x.k y.k=true:=by
 have hpos:∀p,p∈ps->1<=p:=by
  rcases h.pos with h|h
  ·exact h
  ·rw[h]at hi;simp at hi
 obtain⟨q,hq⟩:∃q,ps[i+1]?=some q:=⟨_,aq8 hi⟩;have e1:=gV hp;have e2:=gV hq;have h1:=hpos p (aq7 hp);have h2:=hpos q (aq7 hq);have h3:=rY ps (i+1+1);have h4:=h.sum;obtain⟨x,hx⟩:∃x,S[(ps.take (i+1)).sum-1]?=some x:=⟨_,aq8 (by omega)⟩
 obtain⟨y,hy⟩:∃y,S[(ps.take (i+1)).sum]?=some y:=⟨_,aq8 (by omega)⟩
 refine⟨x,y,hx,hy,e1,h1,?_,kQ h.jA hx hy (by omega)⟩
 unfold nM;rw[List.getElem?_drop,List.getElem?_drop,show(ps.take i).sum+(p-1)=(ps.take (i+1)).sum-1 by omega,←e1,hx,hy]
theorem yX (h:eW S ps){i:Nat}{nd:Nd}(hn:(dO ak ⟨#[]⟩ id S ps)[i]?=some nd) :
  (i=0/\nd.low=⟨#[]⟩)\/(∃x y:Sl,1<=i/\S[(ps.take i).sum-1]?=some x/\S[(ps.take i).sum]?=some y/\1<=(ps.take i).sum/\nd.low=(if ak=0 then lY x.k y.k else y.k)/\cA x.k nd.low=true/\cA y.k nd.low=false):=by
 have hlt:i<ps.length:=by rw[←eV ak ps ⟨#[]⟩ id S];exact(aq5.1 hn).1
 cases i with
 | zero=>
  left
  obtain⟨l8,e,_,e3,_⟩:=nN ak ps ⟨#[]⟩ id S 0 ps[0] (aq8 hlt);rw[hn]at e;cases e;exact⟨rfl,e3 rfl⟩
 | succ i=>
  right
  have hp:ps[i]?=some ps[i]:=aq8 (by omega)
  obtain⟨x,y,hx,hy,e1,h1,e2,hxy⟩:=h.at (ak:=ak) hp hlt;obtain⟨l8,_,_,_,_,e5⟩:=nN ak ps ⟨#[]⟩ id S i ps[i] hp;have e6:=e5 nd hn;rw[e2]at e6;refine⟨x,y,by omega,hx,hy,by omega,e6,?_⟩
  rw[e6];split
  ·exact⟨(s5 hxy).1,(s5 hxy).2⟩
  ·exact⟨hxy,dm _⟩
theorem Tf (h:eW S ps){i:Nat}{nd:Nd}(hn:(dO ak ⟨#[]⟩ id S ps)[i]?=some nd){j:Nat}{s:Sl}(hj:(ps.take i).sum<=j)(hs:S[j]?=some s):cA s.k nd.low=false:=by
 rcases yX h hn with⟨_,e⟩|⟨x,y,_,_,hy,_,_,_,h2⟩
 ·rw[e];exact jd _
 ·exact ql h2 (yV h.jA hy hs hj)
theorem gG (h:eW S ps){i:Nat}{nd:Nd}(hn:(dO ak ⟨#[]⟩ id S ps)[i]?=some nd):∃p,ps[i]?=some p/\nd.id=id+i/\nd.pg.ak=ak/\nd.pg.sl=(S.drop (ps.take i).sum).take p/\(ps.take i).sum+p<=S.length /\
  ((i+1=ps.length/\nd.pg=⟨ak,(S.drop (ps.take i).sum).take p,⟨#[]⟩,true,0⟩)\/(i+1<ps.length/\nd.pg=⟨ak,(S.drop (ps.take i).sum).take p,nM ak (S.drop (ps.take i).sum) p,false,id+i+1⟩)):=by
 have hlt:i<ps.length:=by rw[←eV ak ps ⟨#[]⟩ id S];exact(aq5.1 hn).1
 have hp:ps[i]?=some ps[i]:=aq8 hlt;obtain⟨l8,e,e2,_,e4,_⟩:=nN ak ps ⟨#[]⟩ id S i ps[i] hp;rw[hn]at e;cases e;have h3:=rY ps (i+1);rw[gV hp,h.sum]at h3;refine⟨ps[i],hp,e2,?_,?_,h3,?_⟩
 ·rw[e4];split <;> rfl
 ·rw[e4];split <;> rfl
 ·by_cases hx:i+1=ps.length
  ·rw[if_pos hx]at e4;exact .inl ⟨hx,e4⟩
  ·rw[if_neg hx]at e4;exact .inr ⟨by omega,e4⟩
theorem Cy (h:eW S ps):fL ak (dO ak ⟨#[]⟩ id S ps):=by
 refine⟨by rw[eV];exact h.ne,fun nd hn=>?_,fun nd hn=>?_,fun i a b ha hb=>?_,fun i a ha hi=>?_⟩
 ·obtain⟨i,hi⟩:=aq4 hn
  obtain⟨p,_,_,e,_⟩:=gG h hi;exact e
 ·rcases yX h hn with⟨_,e⟩|⟨_,_,h0,_⟩
  ·exact e
  ·omega
 ·have hlt:i+1<ps.length:=by rw[←eV ak ps ⟨#[]⟩ id S];exact(aq5.1 hb).1
  obtain⟨p,hp,e1,e2,e3,e4,e5⟩:=gG h ha;obtain⟨_,_,e1',_⟩:=gG h hb;obtain⟨x,y,hx,hy,q1,q2,q3,q4⟩:=h.at (ak:=ak) hp hlt;rcases e5 with⟨e5,_⟩|⟨_,e5⟩
  ·omega
  ·rcases yX h hb with⟨h0,_⟩|⟨x',y',_,hx',hy',_,el,k1,k2⟩
   ·omega
   ·rw[hx]at hx';cases hx'
    rw[hy]at hy';cases hy';rw[e5];refine⟨rfl,by rw[el];exact q3,by rw[e1'];push_cast;show id+i+1=_;omega,?_⟩
    exact iz (Tf h ha (by omega) hx) k1
 ·rw[eV]at hi
  obtain⟨p,_,_,_,_,_,e5⟩:=gG h ha;rcases e5 with⟨_,e5⟩|⟨e5,_⟩
  ·rw[e5];exact⟨rfl,rfl,rfl⟩
  ·omega
theorem Cz (h:eW S ps){i:Nat}{nd:Nd}(hn:(dO ak ⟨#[]⟩ id S ps)[i]?=some nd){s:Sl}(hs:s∈nd.pg.sl):s∈S/\cA s.k nd.low=false/\(nd.pg.la=false->cA s.k nd.pg.hi=true):=by
 obtain⟨p,hp,e1,e2,e3,e4,e5⟩:=gG h hn;rw[e3]at hs;obtain⟨j,hj⟩:=aq4 hs;have hjp:j<p:=by
  have:=(aq5.1 hj).1;simp at this;omega
 rw[List.getElem?_take,if_pos hjp,List.getElem?_drop]at hj;refine⟨aq7 hj,Tf h hn (by omega) hj,fun kN=>?_⟩
 rcases e5 with⟨_,e5⟩|⟨hlt,e5⟩
 ·rw[e5]at kN;cases kN
 ·obtain⟨x,y,hx,hy,q1,q2,q3,q4⟩:=h.at (ak:=ak) hp hlt
  rw[e5];show cA s.k (nM ak _ p)=true
  rw[q3];have hsx:=yV h.jA hj hx (by omega)
  split
  ·exact iz hsx (s5 q4).1
  ·exact iz hsx q4
theorem Ye (h:eW S ps){i:Nat}{nd:Nd}(hn:(dO ak ⟨#[]⟩ id S ps)[i]?=some nd):kV nd.pg.sl:=by
 obtain⟨p,hp,e1,e2,e3,e4,e5⟩:=gG h hn;rw[e3];exact(h.jA.sublist (List.drop_sublist _ _)).sublist (List.take_sublist _ _)
theorem Il (h:eW S ps)(bZ:0<ak)(h0:∀s,S[0]?=some s->s.k=⟨#[]⟩)(hS:S≠[]){i:Nat}{nd:Nd}(hn:(dO ak ⟨#[]⟩ id S ps)[i]?=some nd):∃s r,nd.pg.sl=s::r/\s.k=nd.low:=by
 obtain⟨p,hp,e1,e2,e3,e4,e5⟩:=gG h hn;have hpos:1<=p:=by
  rcases h.pos with hq|hq
  ·exact hq p (aq7 hp)
  ·have:=h.sum;rw[hq]at this;simp at this;exact absurd (List.length_eq_zero_iff.1 this.symm) hS
 obtain⟨s,hs⟩:∃s,S[(ps.take i).sum]?=some s:=⟨_,aq8 (by omega)⟩
 have hf:nd.pg.sl[0]?=some s:=by rw[e3,List.getElem?_take,if_pos (by omega),List.getElem?_drop];simpa using hs
 cases hl:nd.pg.sl with
 | nil=>rw[hl]at hf;simp at hf
 | cons s' r=>
  rw[hl]at hf;simp at hf;subst hf;refine⟨s',r,rfl,?_⟩;rcases yX h hn with⟨hi,e⟩|⟨x,y,_,hx,hy,_,el,_⟩
  ·subst hi;rw[e];exact h0 s' (by simpa using hs)
  ·rw[hs]at hy;cases hy
   rw[el,if_neg (by omega)]
end
section
variable {d:aR}
theorem cT.frame {id:Int}(h1:1<=id)(h2:id<=d.no){L L':List aO}{pg:Pg}(h:cT d id L pg)(f1:4<=d.fa)(he:∀k:Int,1<=k->k<d.fa+4->ah L' (d.node id k)=ah L (d.node id k)):cT d id L' pg:=by
 refine⟨by rw[he 1 (by omega) (by omega)];exact h.n,by rw[he 1 (by omega) (by omega)];exact h.ak,by rw[he 2 (by omega) (by omega)];exact h.hi,by rw[he 2 (by omega) (by omega)];exact h.la,by rw[he 3 (by omega) (by omega)];exact h.ri,h.le,fun i s hs=>?_⟩
 have hi:i<pg.sl.length:=(aq5.1 hs).1;have:=h.le;have es:d.slot id i=d.node id (4+(i:Int)):=by
  unfold aR.slot;rw[if_pos ⟨by omega,by omega⟩]
 rw[es,he _ (by omega) (by omega),←es]
 exact h.sl i s hs
theorem Da {id:Int}{L:List aO}{pg:Pg}(f1:4<=d.fa)(hle:(pg.sl.length:Int)<=d.fa){j:Int}(hj:∀k:Int,1<=k->k<d.fa+4->j≠d.node id k):ah (eZ d id pg L) j=ah L j:=by
 unfold eZ;rw[eP _ _ _ _ (fun k a b=>hj _ (by omega) (by omega))]
 unfold nv;rw[bj (hj 3 (by omega) (by omega)),bj (hj 2 (by omega) (by omega)),bj (hj 1 (by omega) (by omega))]
theorem cK (hd:d.Ok){id id' k k':Int}(h1:1<=id)(h2:id<=d.no)(h1':1<=id')(h2':id' <= d.no)(hk:0<=k)(hk2:k<d.fa+4)(hk':0<=k')(abb:k' < d.fa+4)(h:id≠id'):d.node id k≠d.node id' k' := by
 have a:=(bV hd h1 h2 hk hk2).1;have b:=(bV hd h1' h2' hk' abb).1;have f1:=hd.fo;intro e;rw[a,b]at e;rcases Int.lt_or_gt_of_ne h with hlt|hlt
 ·have:=Int.mul_le_mul_of_nonneg_right (show id-1+1<=id' - 1 by omega) (show 0<=d.fa+4 by omega)
  rw[Int.add_mul]at this;omega
 ·have:=Int.mul_le_mul_of_nonneg_right (show id' - 1+1<=id-1 by omega) (show 0<=d.fa+4 by omega)
  rw[Int.add_mul]at this;omega
def bU (d:aR)(L:List aO)(row:List Nd):List aO:=row.foldl (fun L nd=>eZ d nd.id nd.pg L) L
theorem vU (L:List aO)(row:List Nd)(nd:Nd):bU d L (row++[nd])=eZ d nd.id nd.pg (bU d L row):=by simp[bU]
structure pG (d:aR)(row:List Nd):Prop where
 id:∀nd,nd∈row->1<=nd.id/\nd.id<=d.no
 le:∀nd,nd∈row->(nd.pg.sl.length:Int)<=d.fa
 ak:∀nd,nd∈row->0<=nd.pg.ak/\nd.pg.ak<1000000
 ri:∀nd,nd∈row->0<=nd.pg.ri/\nd.pg.ri<18446744073709551616
 rf:∀nd,nd∈row->∀s,s∈nd.pg.sl->0<=s.r/\s.r<18446744073709551616
 ne:row.Pairwise fun a b=>a.id≠b.id
theorem jD (row:List Nd):∀L:List aO,(bU d L row).length=L.length:=by
 induction row with
 | nil=>intro L;rfl
 | cons nd row ih=>intro L;show(bU d _ row).length=_;rw[ih,lZ]
theorem oN {row:List Nd}(hd:d.Ok):∀ {L:List aO},pG d row->bD L->bD (bU d L row):=by
 induction row with
 | nil=>intro L _ h;exact h
 | cons nd row ih=>
  intro L hr h;refine ih ⟨fun a ha=>hr.id a (by simp[ha]),fun a ha=>hr.le a (by simp[ha]),fun a ha=>hr.ak a (by simp[ha]),fun a ha=>hr.ri a (by simp[ha]),fun a ha=>hr.rf a (by simp[ha]),(List.pairwise_cons.1 hr.ne).2⟩ ?_
  have:=hr.le nd (by simp);have:=hd.mK
  exact Sd h (by omega) (hr.ri nd (by simp)) (hr.rf nd (by simp))
theorem ed {row:List Nd}(f1:4<=d.fa):∀ {L:List aO},(∀nd,nd∈row->(nd.pg.sl.length:Int)<=d.fa)->∀ {j:Int},(∀nd,nd∈row->∀k:Int,1<=k->k<d.fa+4->j≠d.node nd.id k)->ah (bU d L row) j=ah L j:=by
 induction row with
 | nil=>intro L _ j _;rfl
 | cons nd row ih=>
  intro L hr j hj;show ah (bU d _ row) j=_
  rw[ih (fun a ha=>hr a (by simp[ha])) (fun a ha=>hj a (by simp[ha])),Da f1 (hr nd (by simp)) (hj nd (by simp))]
theorem rZ {row:List Nd}(hd:d.Ok):∀ {L:List aO},(L.length:Int)=d.cells->pG d row->∀nd,nd∈row->cT d nd.id (bU d L row) nd.pg:=by
 induction row with
 | nil=>intro L _ _ nd h;cases h
 | cons a row ih=>
  intro L hlen hr nd hn;have hr':pG d row:=⟨fun a ha=>hr.id a (by simp[ha]),fun a ha=>hr.le a (by simp[ha]),fun a ha=>hr.ak a (by simp[ha]),fun a ha=>hr.ri a (by simp[ha]),fun a ha=>hr.rf a (by simp[ha]),(List.pairwise_cons.1 hr.ne).2⟩
  have kN:((eZ d a.id a.pg L).length:Int)=d.cells:=by rw[lZ];exact hlen
  rcases List.mem_cons.1 hn with rfl|hn'
  ·have hp:=Sb hd (hr.id nd (by simp)).1 (hr.id nd (by simp)).2 hlen (hr.ak nd (by simp)) (hr.le nd (by simp))
   refine hp.frame (hr.id nd (by simp)).1 (hr.id nd (by simp)).2 hd.fo (fun k k1 k2=>?_)
   refine ed hd.fo (fun b hb=>hr'.le b hb) (fun b hb k' a1 a2=>?_)
   exact cK hd (hr.id nd (by simp)).1 (hr.id nd (by simp)).2 (hr'.id b hb).1 (hr'.id b hb).2 (by omega) k2 (by omega) a2 ((List.pairwise_cons.1 hr.ne).1 b hb)
  ·exact ih kN hr' nd hn'
end
def eA:Nat->List ByteArray->List Sl
 | _,[]=>[]
 | i,k::ks=>⟨k,((i+1:Nat):Int)⟩::eA (i+1) ks
theorem jN:∀(ks:List ByteArray)(i:Nat),(eA i ks).length=ks.length
 | [],_=>rfl
 | k::ks,i=>by simp[eA,jN ks]
theorem uN:∀(ks:List ByteArray)(i:Nat)(k:ByteArray),eA i (ks++[k])=eA i ks++[⟨k,((i+ks.length+1:Nat):Int)⟩]
 | [],i,k=>rfl
 | a::ks,i,k=>by
  show _::eA (i+1) (ks++[k])=_
  rw[uN ks (i+1) k];simp only[eA,List.cons_append,List.length_cons];congr 4
  omega
theorem lD:∀ {ks:List ByteArray}{i:Nat}{s:Sl},s∈eA i ks->s.k∈ks/\1<=s.r/\s.r<=((i+ks.length:Nat):Int)
 | [],_,_,h=>by cases h
 | k::ks,i,s,h=>by
  rcases List.mem_cons.1 h with rfl|h
  ·exact⟨by simp,by show(1:Int)<=((i+1:Nat):Int);omega,by show((i+1:Nat):Int)<=_;simp only[List.length_cons];omega⟩
  ·have:=lD h
   exact⟨by simp[this.1],this.2.1,by have:=this.2.2;simp only[List.length_cons];omega⟩
theorem xy:∀ {ks:List ByteArray}(i:Nat),sJ ks->kV (eA i ks)
 | [],_,_=>List.Pairwise.nil
 | k::ks,i,h=>by
  have h' := List.pairwise_cons.1 h;exact List.pairwise_cons.2 ⟨fun s hs=>h'.1 _ (lD hs).1,xy (i+1) h'.2⟩
def j7 (nd:Nd):Sl:=⟨nd.low,nd.id⟩
structure gZ (row:List Nd)(i:Nat)(A:List Sl)(dV:Bool):Prop where
 mem:∀s,s∈A->∃nd,nd∈row.take i/\s=j7 nd
 jA:kV A
 len:A.length<=i
 first:0<i->∃s,A[0]?=some s/\s.k=⟨#[]⟩
 full:dV=false->A=(row.take i).map j7
theorem fL.pH {ak:Nat}{row:List Nd}(h:fL ak row):∀(j i:Nat)(a b:Nd),row[i]?=some a->row[j]?=some b->i<j->cA a.low b.low=true
 | 0,_,_,_,_,_,hij=>by omega
 | j+1,i,a,b,ha,hb,hij=>by
  obtain⟨c,hc⟩:∃c,row[j]?=some c:=⟨_,aq8 (by have:=(aq5.1 hb).1;omega)⟩
  have h1:=(h.next j c b hc hb).2.2.2;rcases Nat.eq_or_lt_of_le (show i<=j by omega)with rfl|hlt
  ·rw[ha]at hc;cases hc;exact h1
  ·exact gA (fL.pH h j i a c ha hc hlt) h1
theorem gZ.start (row:List Nd)(dV:Bool):gZ row 0 [] dV:=⟨fun s h=>(by cases h),List.Pairwise.nil,Nat.le_refl _,fun h=>by omega,fun _=>rfl⟩
theorem gZ.skip {row:List Nd}{i:Nat}{A:List Sl}{dV:Bool}(h:gZ row i A dV)(hi:0<i)(hh:dV=true):gZ row (i+1) A dV:=by
 refine⟨fun s hs=>?_,h.jA,by have:=h.len;omega,fun _=>h.first hi,fun e=>by rw[hh]at e;cases e⟩
 obtain⟨nd,hn,e⟩:=h.mem s hs;refine⟨nd,?_,e⟩;obtain⟨j,hj⟩:=aq4 hn;have hji:j<i:=by
  have:=(aq5.1 hj).1;simp at this;omega
 rw[List.getElem?_take,if_pos hji]at hj;exact aq7 (i:=j) (by rw[List.getElem?_take,if_pos (by omega)];exact hj)
theorem gZ.push {ak:Nat}{row:List Nd}{i:Nat}{A:List Sl}{dV:Bool}(h:gZ row i A dV)(hr:fL ak row){nd:Nd}(hn:row[i]?=some nd):gZ row (i+1) (A++[j7 nd]) dV:=by
 have et:row.take (i+1)=row.take i++[nd]:=by rw[List.take_add_one,hn];rfl
 refine⟨fun s hs=>?_,?_,by have:=h.len;simp;omega,fun _=>?_,fun e=>?_⟩
 ·rcases List.mem_append.1 hs with hs|hs
  ·obtain⟨a,ha,e⟩:=h.mem s hs
   exact⟨a,by rw[et];simp[ha],e⟩
  ·simp at hs;exact⟨nd,by rw[et];simp,hs⟩
 ·refine List.pairwise_append.2 ⟨h.jA,List.pairwise_singleton _ _,fun x hx y hy=>?_⟩
  simp at hy;subst hy;obtain⟨a,ha,rfl⟩:=h.mem x hx;obtain⟨j,hj⟩:=aq4 ha;have hji:j<i:=by
   have:=(aq5.1 hj).1;simp at this;omega
  rw[List.getElem?_take,if_pos hji]at hj;exact hr.pH i j a nd hj hn hji
 ·rcases Nat.eq_zero_or_pos i with h0|h0
  ·subst h0
   have:A=[]:=List.length_eq_zero_iff.1 (by have:=h.len;omega)
   subst this;exact⟨j7 nd,rfl,hr.first nd hn⟩
  ·obtain⟨s,hs,e⟩:=h.first h0
   exact⟨s,by rw[List.getElem?_append_left (aq5.1 hs).1];exact hs,e⟩
 ·rw[et,List.map_append,h.full e];rfl
theorem uO (ak:Nat):∀(ps:List Nat)(low:ByteArray)(id:Int)(l:List Sl),ps.sum=l.length->0<ps.length->(dO ak low id l ps).flatMap (fun nd=>nd.pg.sl)=l
 | [],_,_,_,_,h=>by simp at h
 | [p],_,_,l,h,_=>by
  have h':p=l.length:=by simpa using h
  simp[dO,h']
 | p::q::ps,low,id,l,h,_=>by
  show l.take p++(dO ak _ _ (l.drop p) (q::ps)).flatMap _=l
  have hs:p+(q::ps).sum=l.length:=by simpa using h
  rw[uO ak (q::ps) _ _ (l.drop p) (by rw[List.length_drop];omega) (by simp),List.take_append_drop]
def fbF:Nat->Nat->Nat
 | 0,_=>0
 | f+1,m=>if m<=2 then 1 else(m+1) / 2+fbF f ((m+1) / 2)
def fb (m:Nat):Nat:=fbF 10 m
theorem Kt:∀m,m<=40->∀s,s<=m->fb s<=fb m:=by decide +kernel
theorem Ku:∀m,m<=40->3<=m->(m+1) / 2+fb ((m+1) / 2)<=fb m:=by decide +kernel
theorem Im:∀m,m<=40->1<=fb m:=by decide +kernel
theorem Holds.frame {d:aR}(hd:d.Ok){id:Int}(h1:1<=id)(h2:id<=d.no){L L':List aO}{pg:Pg}(hle:(pg.sl.length:Int)<=d.fa)(h:Holds L (bP d id pg))(he:∀k:Int,1<=k->k<d.fa+4->ah L' (d.node id k)=ah L (d.node id k)):Holds L' (bP d id pg):=fun q hq=>by
 obtain⟨k,k1,k2,e⟩:=fJ hd h1 h2 hle q hq;rw[←h q hq,e];exact he k k1 k2
theorem fL.xz {ak:Nat}{row:List Nd}(h:fL ak row){nd:Nd}(hn:nd∈row)(kN:nd.pg.la=true):nd.pg.hi=⟨#[]⟩/\nd.pg.ri=0:=by
 obtain⟨i,hi⟩:=aq4 hn;have hil:=(aq5.1 hi).1;rcases Nat.lt_or_ge (i+1) row.length with hlt|hge
 ·have:=(h.next i nd _ hi (aq8 hlt)).1
  rw[kN]at this;cases this
 ·exact(h.last i nd hi (by omega)).2
theorem nO {d:aR}{row:List Nd}(hd:d.Ok):∀ {L:List aO},(L.length:Int)=d.cells->pG d row->(∀nd,nd∈row->nd.pg.la=true->nd.pg.hi=⟨#[]⟩)->∀nd,nd∈row->Holds (bU d L row) (bP d nd.id nd.pg):=by
 induction row with
 | nil=>intro L _ _ _ nd h;cases h
 | cons a row ih=>
  intro L hlen hr kN nd hn;have hr':pG d row:=⟨fun a ha=>hr.id a (by simp[ha]),fun a ha=>hr.le a (by simp[ha]),fun a ha=>hr.ak a (by simp[ha]),fun a ha=>hr.ri a (by simp[ha]),fun a ha=>hr.rf a (by simp[ha]),(List.pairwise_cons.1 hr.ne).2⟩
  have hln:((eZ d a.id a.pg L).length:Int)=d.cells:=by rw[lZ];exact hlen
  rcases List.mem_cons.1 hn with rfl|hn'
  ·have hp:=Cl hd (hr.id nd (by simp)).1 (hr.id nd (by simp)).2 hlen (hr.le nd (by simp)) (kN nd (by simp))
   refine hp.frame hd (hr.id nd (by simp)).1 (hr.id nd (by simp)).2 (hr.le nd (by simp)) (fun k k1 k2=>?_)
   refine ed hd.fo (fun b hb=>hr'.le b hb) (fun b hb k' a1 a2=>?_)
   exact cK hd (hr.id nd (by simp)).1 (hr.id nd (by simp)).2 (hr'.id b hb).1 (hr'.id b hb).2 (by omega) k2 (by omega) a2 ((List.pairwise_cons.1 hr.ne).1 b hb)
  ·exact ih hln hr' (fun b hb=>kN b (by simp[hb])) nd hn'
def nP (d:aR)(j:Int):Prop:=(1<=j/\j<d.A/\j≠4/\j≠5)\/d.B<=j
theorem nP.node {d:aR}(hd:d.Ok){j:Int}(h:nP d j){id k:Int}(h1:1<=id)(h2:id<=d.no)(hk:0<=k)(hk2:k<d.fa+4):j≠d.node id k:=by
 have h0:=bV hd h1 h2 hk hk2;have hA:=hd.eC;have f1:=hd.fo;have m1:(id-1)*(d.fa+4)+(d.fa+4)=id*(d.fa+4):=by rw[Int.sub_mul];omega
 have m2:id*(d.fa+4)<=d.no*(d.fa+4):=Int.mul_le_mul_of_nonneg_right h2 (by omega)
 have m3:0<=(id-1)*(d.fa+4):=Int.mul_nonneg (by omega) (by omega)
 have eB:d.B=d.A+d.no*(d.fa+4):=rfl;rcases h with h|h <;> omega
structure Ph (d:aR)(ks:List ByteArray)(dV:Bool)(L:List aO)(S:List Sl)(t:List (List Nd))(nx:Nat):Prop where
 eu:(L.length:Int)=d.cells
 gQ:bD L
 lat:∀id:Int,1<=id->id<=d.no->ah L (d.node id 0)=aO.zero
 zero:∀j:Int,nP d j->ah L j=aO.zero
 n5:ah L 5=⟨ks.length,⟨#[]⟩,0⟩
 rows:∀(k:Nat) (l:List Nd),t[k]?=some l->fL k l
 nodes:∀(k:Nat) (l:List Nd),t[k]?=some l->∀nd,nd∈l->uM d L nd/\nd.id<nx
 down:∀(k:Nat) (l l':List Nd),t[k]?=some l->t[k+1]?=some l' -> (∀nd,nd∈l' -> (∃s r,nd.pg.sl=s::r/\s.k=nd.low)/\∀s,s∈nd.pg.sl->∃c,c∈l/\c.id=s.r/\c.low=s.k)/\(dV=false->l'.flatMap (fun nd=>nd.pg.sl)=l.map j7)
 count:(t.map List.length).sum+1=nx
 leaves:∀l,t[0]?=some l->l.flatMap (fun nd=>nd.pg.sl)=eA 0 ks
 jA:kV S
 rf:∀s,s∈S->1<=s.r/\s.r<=1000000
 s0:t=[]->S=eA 0 ks
 s1:t≠[]->S≠[]/\(∀s,S[0]?=some s->s.k=⟨#[]⟩)/\∃l,t[t.length-1]?=some l/\(∀s,s∈S->∃c,c∈l/\c.id=s.r/\c.low=s.k)/\(dV=false->S=l.map j7)
 szS:∀s,s∈S->s.k.size<=32
 szL:∀(k:Nat) (l:List Nd),t[k]?=some l->∀nd,nd∈l->nd.low.size<=32
 half:∀(k:Nat) (l l':List Nd),t[k]?=some l->t[k+1]?=some l' -> 2*l'.length<=l.length+1
 ajg:∀(k:Nat) (l:List Nd),k+1=t.length->t[k]?=some l->S.length<=l.length
 r0:t=[]->S.length<=36\/36<ks.length
 r1:∀l,t[0]?=some l->l.length<=36\/36<ks.length
 id1:∀l,t[0]?=some l->∀nd,l[0]?=some nd->nd.id=1
section
variable {d:aR}{ks:List ByteArray}{dV:Bool}{L:List aO}{S:List Sl}{t:List (List Nd)}{nx:Nat}
theorem Io (a b:ByteArray):∀(f n:Nat),(eO a b f n).size<=b.size:=by
 intro f;induction f with
 | zero=>intro n;exact Nat.zero_le _
 | succ f ih=>
  intro n;unfold eO;split
  ·rw[ByteArray.size_extract];omega
  ·exact ih _
theorem Tg:∀(i:Nat)(ks:List ByteArray),(∀x,x∈ks->x.size<=32)->∀s,s∈eA i ks->s.k.size<=32:=fun i ks h s hs=>h _ (lD hs).1
theorem Yf (ak:Nat)(l:List Sl)(p:Nat)(h:∀s,s∈l->s.k.size<=32):(nM ak l p).size<=32:=by
 unfold nM;split
 ·rename_i a b h1 h2
  split
  ·exact Nat.le_trans (Io _ _ _ _) (h b (aq7 h2))
  ·exact h b (aq7 h2)
 ·rename_i b h2 _
  exact h b (aq7 h2)
 ·exact Nat.zero_le _
theorem Db (ak:Nat):∀(ps:List Nat)(low:ByteArray)(id:Int)(l:List Sl),low.size<=32->(∀s,s∈l->s.k.size<=32)->∀nd,nd∈dO ak low id l ps->nd.low.size<=32
 | [],_,_,_,_,_,nd,hn=>by cases hn
 | [p],low,id,l,h1,_,nd,hn=>by
  obtain rfl:nd=_:=List.mem_singleton.1 hn;exact h1
 | p::q::ps,low,id,l,h1,h2,nd,hn=>by
  rcases List.mem_cons.1 (show nd∈(⟨id,low,⟨ak,l.take p,nM ak l p,false,id+1⟩⟩:Nd)::dO ak (nM ak l p) (id+1) (l.drop p) (q::ps)from hn)with rfl|hn
  ·exact h1
  ·exact Db ak (q::ps) _ _ _ (Yf ak l p h2) (fun s hs=>h2 s (List.mem_of_mem_drop hs)) nd hn
theorem Ph.start (hd:d.Ok)(hsz:∀x,x∈ks->x.size<=32)(hk:sJ ks)(hlen:ks.length<=40)(hL:bD L)(hcl:(L.length:Int)=d.cells)(oC:∀id:Int,1<=id->id<=d.no->ah L (d.node id 0)=aO.zero)(hzero:∀j:Int,nP d j->ah L j=aO.zero)(Yg:ah L 5=⟨ks.length,⟨#[]⟩,0⟩):Ph d ks dV L (eA 0 ks) [] 1:=
 ⟨hcl,hL,oC,hzero,Yg,fun k l h=>by simp at h,fun k l h=>by simp at h,fun k l l' h=>by simp at h,rfl,fun l h=>by simp at h,xy 0 hk,fun s hs=>by have:=(lD hs).2;omega,fun _=>rfl,fun h=>absurd rfl h,Tg 0 ks hsz,fun k l h=>by simp at h,fun k l l' h=>by simp at h,fun k l h=>by simp at h,fun _=>by rw[jN];omega,fun l h=>by simp at h,fun l h=>by simp at h⟩
theorem Th (h:Ph d ks dV L S t nx){least fa:Nat}{ps:List Nat}(hl:1<=least)(hg:tj S.length least fa ps):eW S (if ps.length=0 then [0]else ps):=by
 split
 ·rename_i h0
  have hp:ps=[]:=List.length_eq_zero_iff.1 h0;have:=hg.sum;rw[hp]at this;exact⟨h.jA,by simp,by simpa using this,.inr rfl⟩
 ·rename_i h0
  exact⟨h.jA,by omega,hg.sum,.inl (fun p hp=>(hg.bd p hp).1)⟩
theorem Yh (hd:d.Ok)(h:Ph d ks dV L S t nx){ps:List Nat}(hp:eW S ps)(rO:∀p,p∈ps->(p:Int)<=d.fa)(zA:1<=nx)(hno:((nx+ps.length:Nat):Int)<=d.no+1)(bZ:t.length<=1000) :
  pG d (dO t.length ⟨#[]⟩ nx S ps):=by
 have iX:=hd.mJ;have at' : ∀nd,nd∈dO t.length ⟨#[]⟩ nx S ps->∃(i p:Nat),(dO t.length ⟨#[]⟩ nx S ps)[i]?=some nd/\ps[i]?=some p/\i<ps.length/\nd.id=nx+i/\nd.pg.ak=t.length/\nd.pg.sl=(S.drop (ps.take i).sum).take p/\((i+1=ps.length/\nd.pg.ri=0)\/(i+1<ps.length/\nd.pg.ri=nx+i+1)):=by
  intro nd hn;obtain⟨i,hi⟩:=aq4 hn;obtain⟨p,q1,q2,q3,q4,q5,q6⟩:=gG hp hi;refine⟨i,p,hi,q1,(aq5.1 q1).1,q2,q3,q4,?_⟩;rcases q6 with⟨a,b⟩|⟨a,b⟩
  ·rw[b];exact .inl ⟨a,rfl⟩
  ·rw[b];exact .inr ⟨a,rfl⟩
 refine⟨fun nd hn=>?_,fun nd hn=>?_,fun nd hn=>?_,fun nd hn=>?_,fun nd hn s hs=>?_,?_⟩
 ·obtain⟨i,p,_,_,hi,e,_⟩:=at' nd hn
  rw[e];omega
 ·obtain⟨i,p,_,hpi,hi,_,_,e,_⟩:=at' nd hn
  rw[e];have:=rO p (aq7 hpi);have h2:((S.drop (ps.take i).sum).take p).length<=p:=List.length_take_le _ _;omega
 ·obtain⟨i,p,_,_,hi,_,e,_⟩:=at' nd hn
  rw[e];omega
 ·obtain⟨i,p,_,_,hi,_,_,_,e⟩:=at' nd hn
  rcases e with⟨_,e⟩|⟨_,e⟩ <;> rw[e] <;> omega
 ·obtain⟨i,hi⟩:=aq4 hn
  have:=h.rf s (Cz hp hi hs).1;omega
 ·rw[List.pairwise_iff_getElem]
  intro i j hi hj hij;obtain⟨_,_,e1,_⟩:=gG hp (aq8 hi);obtain⟨_,_,e2,_⟩:=gG hp (aq8 hj);rw[e1,e2];omega
theorem uM.frame (hd:d.Ok){L':List aO}{nd:Nd}(h:uM d L nd)(he:∀k:Int,0<=k->k<d.fa+4->ah L' (d.node nd.id k)=ah L (d.node nd.id k)):uM d L' nd:=
 ⟨h.id,h.page.frame h.id.1 h.id.2 hd.fo (fun k a b=>he k (by omega) b),h.hold.frame hd h.id.1 h.id.2 h.page.le (fun k a b=>he k (by omega) b),by rw[he 0 (by omega) (by have:=hd.fo;omega)];exact h.free,h.jA,h.rf,h.bd⟩
theorem getElem?_push {α:Type}(l:List α)(a:α)(k:Nat)(x:α)(h:(l++[a])[k]?=some x):l[k]?=some x\/(k=l.length/\x=a):=by
 rcases Nat.lt_or_ge k l.length with hk|hk
 ·left;rwa [List.getElem?_append_left hk]at h
 ·right
  rw[List.getElem?_append_right hk]at h;have:k-l.length=0:=by
   have:=(aq5.1 h).1;simp at this;omega
  rw[this]at h;exact⟨by omega,by simpa using h.symm⟩
theorem Ph.step (hd:d.Ok)(h:Ph d ks dV L S t nx){ps:List Nat}{A:List Sl}(hp:eW S ps)(rO:∀p,p∈ps->(p:Int)<=d.fa)(zA:1<=nx)(hno:((nx+ps.length:Nat):Int)<=d.no+1)(bZ:t.length<=1000)
  (hA:gZ (dO t.length ⟨#[]⟩ nx S ps) ps.length A dV) (hh:t≠[]->2*ps.length<=S.length+1):Ph d ks dV (bU d L (dO t.length ⟨#[]⟩ nx S ps)) A (t++[dO t.length ⟨#[]⟩ nx S ps]) (nx+ps.length):=by
 have fK:=Yh hd h hp rO zA hno bZ;have hrow:=Cy (ak:=t.length) (id:=(nx:Int)) hp;have hrl:=eV t.length ps ⟨#[]⟩ (nx:Int) S;have aac:=uO t.length ps ⟨#[]⟩ (nx:Int) S hp.sum hp.ne;have Xf:=hd.fo;have hat:=rZ hd h.eu fK;have nQ:t≠[]->∀nd,nd∈dO t.length ⟨#[]⟩ nx S ps->∃s r,nd.pg.sl=s::r/\s.k=nd.low:=fun ht nd hn=>by
  obtain⟨i,hi⟩:=aq4 hn;obtain⟨q1,q2,_⟩:=h.s1 ht;exact Il hp (by rcases t with _|_;exact absurd rfl ht;simp) q2 q1 hi
 have hidge:∀nd,nd∈dO t.length ⟨#[]⟩ nx S ps->(nx:Int)<=nd.id/\nd.id<((nx+ps.length:Nat):Int):=fun nd hn=>by
  obtain⟨i,hi⟩:=aq4 hn;obtain⟨p,q1,q2,_⟩:=gG hp hi;have:=(aq5.1 q1).1;rw[q2];omega
 have hslots:∀nd,nd∈dO t.length ⟨#[]⟩ nx S ps->∀s,s∈nd.pg.sl->s∈S/\cA s.k nd.low=false/\(nd.pg.la=false->cA s.k nd.pg.hi=true):=fun nd hn s hs=>by
  obtain⟨i,hi⟩:=aq4 hn;exact Cz hp hi hs
 have dJ:∀nd,nd∈dO t.length ⟨#[]⟩ nx S ps->kV nd.pg.sl:=fun nd hn=>by
  obtain⟨i,hi⟩:=aq4 hn;exact Ye hp hi
 have Su:∀nd,(dO t.length ⟨#[]⟩ nx S ps)[0]?=some nd->nd.id=(nx:Int):=fun nd h=>by
  obtain⟨p,_,q2,_⟩:=gG hp h;rw[q2];simp
 have aew:=Db t.length ps ⟨#[]⟩ (nx:Int) S (Nat.zero_le _) h.szS;generalize dO t.length ⟨#[]⟩ nx S ps=row at *;have ju:∀id:Int,1<=id->id<=d.no->id<nx->∀k:Int,0<=k->k<d.fa+4->ah (bU d L row) (d.node id k)=ah L (d.node id k):=by
  intro id i1 i2 i3 k k0 k1;refine ed Xf fK.le (fun nd hn k' a b=>?_)
  have:=hidge nd hn;exact cK hd i1 i2 (fK.id nd hn).1 (fK.id nd hn).2 k0 k1 (by omega) b (by omega)
 have oC:∀id:Int,1<=id->id<=d.no->ah (bU d L row) (d.node id 0)=aO.zero:=by
  intro id i1 i2;rw[ed Xf fK.le (fun nd hn k' a b=>?_)]
  ·exact h.lat id i1 i2
  ·by_cases e:id=nd.id
   ·subst e;exact dw hd i1 i2 (by omega) (by omega) (by omega) b (by omega)
   ·exact cK hd i1 i2 (fK.id nd hn).1 (fK.id nd hn).2 (by omega) (by omega) (by omega) b e
 have hnew:∀nd,nd∈row->uM d (bU d L row) nd:=fun nd hn=>
  ⟨fK.id nd hn,hat nd hn,nO hd h.eu fK (fun b hb hl=>(hrow.xz hb hl).1) nd hn,by rw[oC nd.id (fK.id nd hn).1 (fK.id nd hn).2];exact iQ.zero,dJ nd hn,fun s hs=>(h.rf s (hslots nd hn s hs).1).1,fun s hs=>(hslots nd hn s hs).2⟩
 have Ti:∀s,s∈A->∃nd,nd∈row/\s=j7 nd:=fun s hs=>by
  obtain⟨nd,hn,e⟩:=hA.mem s hs;exact⟨nd,List.mem_of_mem_take hn,e⟩
 have hzero:∀j:Int,nP d j->ah (bU d L row) j=aO.zero:=fun j hj=>by
  rw[ed Xf fK.le (fun nd hn k' a b=>hj.node hd (fK.id nd hn).1 (fK.id nd hn).2 (by omega) b)]
  exact h.zero j hj
 have Yg:ah (bU d L row) 5=⟨ks.length,⟨#[]⟩,0⟩:=by
  rw[ed Xf fK.le (fun nd hn k' a b=>?_)]
  ·exact h.n5
  ·have hA:=hd.eC
   have h0:=(bV hd (fK.id nd hn).1 (fK.id nd hn).2 (k:=k') (by omega) b).1
   have m3:0<=(nd.id-1)*(d.fa+4):=Int.mul_nonneg (by have:=(fK.id nd hn).1;omega) (by omega)
   omega
 refine⟨by rw[jD];exact h.eu,oN hd fK h.gQ,oC,hzero,Yg,fun k l hk=>?_,fun k l hk nd hn=>?_,fun k l l' hk hk' =>?_,?_,fun l hl=>?_,hA.jA,fun s hs=>?_,fun e=>by simp at e,fun _=>⟨?_,fun s hs=>?_,row,by simp,fun s hs=>?_,fun e=>?_⟩,fun s hs=>?_,fun k l hk nd hn=>?_,fun k l l' hk hk' =>?_,fun k l qu hk=>?_,fun e=>by simp at e,fun l hl=>?_,fun l hl nd hnd=>?_⟩
 ·rcases getElem?_push _ _ _ _ hk with hk|⟨rfl,rfl⟩
  ·exact h.rows k l hk
  ·exact hrow
 ·rcases getElem?_push _ _ _ _ hk with hk|⟨rfl,rfl⟩
  ·obtain⟨q1,q2⟩:=h.nodes k l hk nd hn
   exact⟨q1.frame hd (fun k a b=>ju nd.id q1.id.1 q1.id.2 q2 k a b),by push_cast;omega⟩
  ·exact⟨hnew nd hn,(hidge nd hn).2⟩
 ·rcases getElem?_push _ _ _ _ hk with hk1|⟨rfl,rfl⟩
  ·rcases getElem?_push _ _ _ _ hk' with hk2|⟨e,rfl⟩
   ·exact h.down k l l' hk1 hk2
   ·have ht:t≠[]:=fun e2=>by subst e2;simp at hk1
    obtain⟨q1,q2,l2,q3,q4,q5⟩:=h.s1 ht;rw[show t.length-1=k by omega,hk1]at q3
    cases q3;refine⟨fun nd hn=>⟨nQ ht nd hn,fun s hs=>q4 s (hslots nd hn s hs).1⟩,fun e=>by rw[aac];exact q5 e⟩
  ·have:=(aq5.1 hk').1
   simp at this
 ·rw[List.map_append,List.sum_append]
  have:=h.count;simp only[List.map_cons,List.map_nil,List.sum_cons,List.sum_nil,hrl];omega
 ·rcases getElem?_push _ _ _ _ hl with hl|⟨e,rfl⟩
  ·exact h.leaves l hl
  ·rw[aac]
   exact h.s0 (List.length_eq_zero_iff.1 e.symm)
 ·obtain⟨nd,hn,rfl⟩:=Ti s hs
  have:=fK.id nd hn;have iX:=hd.mJ;show 1<=nd.id/\nd.id<=1000000
  omega
 ·obtain⟨s,hs,_⟩:=hA.first hp.ne
  intro e;rw[e]at hs;simp at hs
 ·obtain⟨s',hs',e⟩:=hA.first hp.ne
  rw[hs]at hs';cases hs';exact e
 ·obtain⟨nd,hn,rfl⟩:=Ti s hs
  exact⟨nd,hn,rfl,rfl⟩
 ·rw[hA.full e,←hrl,List.take_length]
 ·obtain⟨nd,hn,rfl⟩:=Ti s hs
  exact aew nd hn
 ·rcases getElem?_push _ _ _ _ hk with hk|⟨rfl,rfl⟩
  ·exact h.szL k l hk nd hn
  ·exact aew nd hn
 ·rcases getElem?_push _ _ _ _ hk with hk1|⟨rfl,rfl⟩
  ·rcases getElem?_push _ _ _ _ hk' with hk2|⟨e,rfl⟩
   ·exact h.half k l l' hk1 hk2
   ·have h1:=h.ajg k l e hk1
    have h2:=hh (fun e=>by subst e;simp at hk1)
    omega
  ·have:=(aq5.1 hk').1
   simp at this
 ·have qu:k=t.length:=by simpa using qu
  rw[qu,List.getElem?_append_right (Nat.le_refl _),Nat.sub_self]at hk;obtain rfl:row=l:=by simpa using hk
  rw[hrl];exact hA.len
 ·rcases getElem?_push _ _ _ _ hl with hl|⟨e,rfl⟩
  ·exact h.r1 l hl
  ·have ht:t=[]:=List.length_eq_zero_iff.1 e.symm
   have h1:=h.r0 ht;have h2:ps.length<=S.length\/ps.length<=1:=by
    rcases hp.pos with hq|hq
    ·have:=rz hq;rw[hp.sum]at this;exact .inl this
    ·rw[hq];exact .inr (Nat.le_refl _)
   rw[hrl];omega
 ·rcases getElem?_push _ _ _ _ hl with hl|⟨e,rfl⟩
  ·exact h.id1 l hl nd hnd
  ·have ht:t=[]:=List.length_eq_zero_iff.1 e.symm
   have h1:=h.count;rw[ht]at h1;simp at h1;rw[Su nd hnd];omega
structure oO (d:aR)(ks:List ByteArray)(dV:Bool)(L:List aO)(t:List (List Nd)):Prop where
 ok:cD d L t
 gQ:bD L
 eu:(L.length:Int)=d.cells
 leaves:∀l,t[0]?=some l->l.flatMap (fun nd=>nd.pg.sl)=eA 0 ks
 full:dV=false->∀(k:Nat) (l l':List Nd),t[k]?=some l->t[k+1]?=some l' -> l'.flatMap (fun nd=>nd.pg.sl)=l.map j7
 lat:∀id:Int,1<=id->id<=d.no->ah L (d.node id 0)=aO.zero
 zero:∀j:Int,nP d j->ah L j=aO.zero
 n5:(ah L 5).n=ks.length
 aex:(t.map List.length).sum<=100
 low:∀(k:Nat) (l:List Nd),t[k]?=some l->∀nd,nd∈l->nd.low.size<=32
 half:∀(k:Nat) (l l':List Nd),t[k]?=some l->t[k+1]?=some l' -> 2*l'.length<=l.length+1
 r36:∀l,t[0]?=some l->l.length<=36\/36<ks.length
 id1:∀l,t[0]?=some l->∀nd,l[0]?=some nd->nd.id=1
 ajh:∀l,t[t.length-1]?=some l->l.length=1
 Yi:(ah L 4).n<=100
theorem Ph.last (hd:d.Ok)(h:Ph d ks dV L S t nx){nd:Nd}(ht:t[t.length-1]?=some [nd])(hid:nd.id=(nx:Int)-1)(zA:nx<=101){L':List aO}(h0:(ah L' 0).n=(nx:Int)-1)(h4:(ah L' 4).n=(nx:Int)-1)(ju:∀j:Int,1<=j->j≠4->ah L' j=ah L j)(hc:bD L')(hcl:L'.length=L.length):oO d ks dV L' t:=by
 have htl:0<t.length:=by
  have:=(aq5.1 ht).1;omega
 have Xf:=hd.fo;have hA:=hd.eC;have qF:∀id k:Int,1<=id->id<=d.no->0<=k->k<d.fa+4->8<=d.node id k:=fun id k i1 i2 a b=>by
  have n0:=(bV hd i1 i2 a b).1;have m3:0<=(id-1)*(d.fa+4):=Int.mul_nonneg (by omega) (by omega)
  omega
 have oY:=((h.nodes _ _ ht nd (by simp)).1).id
 refine⟨⟨htl,h.rows,fun k l hk nd hn=>?_,⟨nd,[],ht,by rw[h0,hid]⟩,fun k l l' hk hk' => (h.down k l l' hk hk').1,by have:=h.count;omega,by omega,fun k l hk nd hn=>by have:=(h.nodes k l hk nd hn).2;rw[h4];omega⟩,hc,by rw[hcl];exact h.eu,h.leaves,fun e k l l' hk hk' => (h.down k l l' hk hk').2 e,fun id a b=>?_,fun j hj=>?_,?_,by have:=h.count;omega,h.szL,h.half,h.r1,h.id1,fun l hl=>by rw[ht]at hl;rw[←aq9 hl];rfl,by omega⟩
 ·have q:=(h.nodes k l hk nd hn).1
  exact q.frame hd (fun k a b=>ju _ (by have:=qF nd.id k q.id.1 q.id.2 a b;omega) (by have:=qF nd.id k q.id.1 q.id.2 a b;omega))
 ·rw[ju _ (by have:=qF id 0 a b (by omega) (by omega);omega) (by have:=qF id 0 a b (by omega) (by omega);omega)]
  exact h.lat id a b
 ·have hB:d.A<=d.B:=by
   have:=Int.mul_nonneg (a:=d.no) (b:=d.fa+4) (by have:=hd.Jo;omega) (by omega)
   show d.A<=d.A+d.no*(d.fa+4)
   omega
  rw[ju j (by rcases hj with h|h <;> omega) (by rcases hj with h|h <;> omega)]
  exact h.zero j hj
 ·rw[ju 5 (by omega) (by omega),h.n5]
end
end
section
set_option linter.unusedSectionVars false
section
variable {d:aR}(hd:d.Ok){fr:cm}{fu p:Pg}{L:List aO}{ps:List Pt}{id:Int}
include hd
theorem nI.addr (h:nI d fr p ps)(h1:1<=fr.id)(h2:fr.id<=d.no)(hle:(p.sl.length:Int)<=d.fa):∀q,q∈ps->∃k:Int,0<=k/\k<d.fa+4/\q.i=d.node fr.id k:=by
 have f1:=hd.fo;obtain⟨mid,hn,rfl⟩:=h;intro q hq;simp only[List.cons_append,List.mem_cons,List.mem_append,List.not_mem_nil,or_false]at hq;rcases hq with rfl|hq|rfl
 ·exact⟨0,by omega,by omega,rfl⟩
 ·obtain⟨k,k1,k2,e⟩:=fJ hd h1 h2 hle q (hn.1.subset hq)
  exact⟨k,by omega,k2,e⟩
 ·exact⟨0,by omega,by omega,rfl⟩
theorem abL (hw:nI d fr p ps)(h1:1<=fr.id)(h2:fr.id<=d.no)(hle:(p.sl.length:Int)<=d.fa)(hlen:(L.length:Int)=d.cells)(hx:Holds L (bP d fr.id fr.pg)) :
  Holds (fy L ps) (bP d fr.id p)/\(ah (fy L ps) (d.node fr.id 0)).n=dM (bE fr.word)/\∀j:Int,(∀k:Int,0<=k->k<d.fa+4->j≠d.node fr.id k)->ah (fy L ps) j=ah L j:=by
 have ha:=hw.addr hd h1 h2 hle;obtain⟨mid,hn,rfl⟩:=hw;refine⟨Ni hd h1 h2 hx hn hlen hle,?_,fun j hj=>iN _ _ _ fun q hq=>?_⟩
 ·rw[uC hd h1 h2 hlen]
 ·obtain⟨k,k1,k2,e⟩:=ha q hq
  rw[e];exact hj k k1 k2
end
theorem uP {d:aR}{id:Int}:∀(l:List Sl)(i:Nat),(∀s,s∈l->0<=s.r/\s.r<18446744073709551616)->∀q,q∈fR d id i l->nk q.c
 | [],_,_,q,h=>by cases h
 | s::l,i,hr,q,h=>by
  rcases List.mem_cons.1 h with rfl|h
  ·exact hr s List.mem_cons_self
  ·exact uP l (i+1) (fun s hs=>hr s (List.mem_cons_of_mem _ hs)) q h
theorem pI {d:aR}{id:Int}{pg:Pg}(hd:d.Ok)(h:oW d pg):∀q,q∈bP d id pg->nk q.c:=fun q hq=>by
 have f2:=hd.mK;have hle:=h.le;rcases List.mem_append.1 hq with hq|hq
 ·exact uP pg.sl 0 h.r q hq
 ·simp only[List.mem_cons,List.not_mem_nil,or_false]at hq
  rcases hq with rfl|rfl|rfl
  ·show nk (mG pg)
   unfold mG;cases pg.la
   ·exact⟨by show(0:Int)<=0;omega,by show(0:Int)<18446744073709551616;omega⟩
   ·exact⟨by show(0:Int)<=0;omega,by show(0:Int)<18446744073709551616;omega⟩
  ·exact h.ri
  ·exact⟨by show(0:Int)<=pg.sl.length;omega,by show(pg.sl.length:Int)<_;omega⟩
theorem Nw {d:aR}{fr:cm}{p:Pg}{ps:List Pt}(hd:d.Ok)(hfr:fr.Ok d)(hp:oW d p)(hw:nI d fr p ps):∀q,q∈ps->nk q.c:=by
 obtain⟨mid,hn,rfl⟩:=hw;intro q hq;have hb:=hfr.word;simp only[List.cons_append,List.mem_cons,List.mem_append,List.not_mem_nil,or_false]at hq;rcases hq with rfl|hq|rfl
 ·show 0<=bE fr.word/\bE fr.word<18446744073709551616
  unfold bE;split <;> omega
 ·exact pI hd hp q (hn.1.subset hq)
 ·show 0<=dM (bE fr.word)/\dM (bE fr.word)<18446744073709551616
  unfold dM;rw[IntKind.wrap_u64];omega
theorem gH {d:aR}(hd:d.Ok){id:Int}(h1:1<=id)(h2:id<=d.no):∀k:Int,0<=k->k<d.fa+4->(4:Int)≠d.node id k:=fun k k1 k2=>by
 have hA:=hd.eC;have f1:=hd.fo;have h:=bV hd h1 h2 k1 k2;have h0:0<=(id-1)*(d.fa+4):=Int.mul_nonneg (by omega) (by omega)
 omega
theorem jS {l:List Sl}{key:ByteArray}{r:Int}{s:Sl}(h:s∈eQ l key r):s∈l\/s=⟨key,r⟩:=by
 unfold eQ at h;rcases List.mem_append.1 h with h|h
 ·exact .inl (List.mem_of_mem_take h)
 ·rcases List.mem_cons.1 h with h|h
  ·exact .inr h
  ·exact .inl (List.mem_of_mem_drop h)
theorem lB.ins {d:aR}{fr:cm}{key:ByteArray}{r:Int}(kW:oW d fr.pg)(hk:∀s,s∈fr.pg.sl->s.k.size<=1000000)(hkey:key.size<=1000000)(hr:0<=r/\r<18446744073709551616):lB d fr (aZ fr.pg key r):=by
 refine⟨rfl,?_,fun s hs=>?_,fun s hs=>?_,kW.hi,kW.la,kW.ri⟩
 ·show((eQ fr.pg.sl key r).length:Int)<=_
  rw[fH];have:=kW.le;omega
 ·rcases jS hs with h|h
  ·exact kW.r s h
  ·rw[h];exact hr
 ·rcases jS hs with h|h
  ·exact hk s h
  ·rw[h];exact hkey
end
section
theorem vV (n:Nat)(hn:n<=1048576)(w:World):(Instr.makeSlice 50 (.int .i64 n) (.int .i64 n)).run Tryz.prog w=.ok (.slice (some ⟨w.heap.size,0,none⟩) n n) (w.alloc (.cells (flat (List.replicate n aO.zero)).toArray 63)):=by
 obtain⟨i,hi,hz,h3,hby⟩:=info_parts zK;have:=run_make w 50 63 i _ Tryz.underlying50 hi hz .i64 .i64 (n:Int) n (by omega) (by omega) (by rw[hby];omega) (by omega)
 rw[this,h3,Int.toNat_natCast,show(Value.agg #[.int .u64 0,.string ⟨#[]⟩,.int .u64 0]).cells= #[.int .u64 0,.string ⟨#[]⟩,.int .u64 0]from rfl,wN]
section
variable {K:aL}{w w':World}{c d:aC}{cs F:List aC}
theorem St.aji {g:Nat}{X:List aO}{T:TypeId}(h:St K w (blk g (.cells (flat X).toArray T)::F))(i:Nat)(c:aO) :
  St K (((w.setCell ⟨g,i*3,none⟩ (.int .u64 c.n)).setCell ⟨g,i*3+1,none⟩ (.string c.k)).setCell ⟨g,i*3+2,none⟩ (.int .u64 c.m)) (blk g (.cells (flat (X.set i c)).toArray T)::F):=by
 have:=((h.aI (i*3) (.int .u64 c.n)).aI (i*3+1) (.string c.k)).aI (i*3+2) (.int .u64 c.m);rwa [zI]at this
theorem rA {w:World}{g:Nat}{X:List aO}{T:TypeId}(h:w.heap[g]?=some (.cells (flat X).toArray T)){i:Nat}{c:aO}(hi:X[i]?=some c) :
  w.cell? ⟨g,i*3,none⟩=some (.int .u64 c.n)/\w.cell? ⟨g,i*3+1,none⟩=some (.string c.k)/\w.cell? ⟨g,i*3+2,none⟩=some (.int .u64 c.m):=by
 have:=sW X i c hi;simpa[bq h] using this
theorem Dc {bm bc:Nat}{L:List aO}{acc:Nat}(hs:St K w (aJ bm bc L acc::F)) :
  Calls Tryz.prog 34 #[.pointer (some ⟨bm,0,none⟩)] w fun e w' => ∃g,e=.returned (.slice (some ⟨g,0,none⟩) L.length L.length)/\St K w' (blk g (.cells (flat L).toArray 63)::aJ bm bc L acc::F):=by
 have hlen:=hs.mem.len;obtain⟨n,hn⟩:∃n,n=L.length:=⟨_,rfl⟩;have q1:=pW w bm bc L acc hs.mem;rw[←hn]at hlen q1 ⊢;have Hn:=aq3 hn;have Q1:=aq3 q1;clear q1 hn;have hmk:=vV n hlen;have hs:=hs.made (.cells (flat (List.replicate n aO.zero)).toArray 63);go_enter Tryz.func34,Tryz.ntmps34
 go_wp2_with fail
 refine(Q1.out).mono ?_
 rintro e w1 ⟨rfl,rfl⟩;go_wp2
 clear hmk;obtain⟨g,hg⟩:∃g,g=w.heap.size:=⟨_,rfl⟩;rw[←hg]at hs ⊢;clear hg Q1;go_loopw [4] (fun v wr=>∃k:Nat,k<=n/\v=.int .i64 k/\St K wr (blk g (.cells (flat (L.take k++List.replicate (n-k) aO.zero)).toArray 63)::aJ bm bc L acc::F)) (fun v _=>n-(intOf v).toNat)
 case atStart=>exact⟨0,by omega,rfl,by simpa using hs⟩
 case round=>
  clear hs;obtain⟨k,hk,rfl,hs⟩:=hrel;by_cases hlt:k<n
  ·obtain⟨c,hc,hz⟩:∃c,ah L k=c/\L[k]?=some c:=⟨_,rfl,sY (by rw[←Hn.out];exact hlt)⟩
   have Hz:=aq3 hz;have q:=Jq hs hs.adC (i:=(k:Int));rw[hc]at q;have Q:=aq3 q;clear q hc hz hs;go_wp2_with fail
   refine(Q.out).mono ?_
   clear Q;rintro e w2 ⟨rfl,hs⟩;obtain⟨c0,c1,c2⟩:=rA hs.head (i:=k) (c:=aO.zero) (by have:=Hn.out;rw[List.getElem?_append_right (by simp;omega)];simp[List.getElem?_replicate];omega)
   have kf:=hs.f0;have hs:=hs.aji k c;have e:(L.take k++List.replicate (n-k) aO.zero).set k c=L.take (k+1)++List.replicate (n-(k+1)) aO.zero:=by
    rw[List.set_append_right _ _ (by simp;omega),List.take_add_one,Hz.out,show n-k=(n-(k+1))+1 by omega,List.replicate_succ]
    simp[show k-min k L.length=0 by rw[←Hn.out];omega]
   rw[e]at hs;clear e;go_wp2
   go_roundw
   case rel=>exact⟨k+1,by omega,by go_num,hs⟩
   case measure=>simp[intOf];omega
  ·obtain rfl:k=n:=by omega
   have e:L.take k++List.replicate (k-k) aO.zero=L:=by rw[Nat.sub_self];simp[Hn.out]
   rw[e]at hs;clear e;go_wp2
   go_ret;exact⟨g,rfl,hs⟩
end
def aey (d:aR)(id:Int)(L:List aO)(i:Nat):Sl:=⟨(ah L (d.slot id i)).k,(ah L (d.slot id i)).n⟩
def aez (d:aR)(id:Int)(L:List aO):Pg:=
 ⟨wrap64 (ah L (d.node id 1)).m,(List.range (leftOf d (ah L (d.node id 1)))).map (aey d id L),(ah L (d.node id 2)).k,decide ((ah L (d.node id 2)).m=1),(ah L (d.node id 3)).n⟩
theorem Kv {d:aR}{id:Int}{L:List aO}{pg:Pg}(h:cT d id L pg):aez d id L=pg:=by
 have hl:leftOf d (ah L (d.node id 1))=pg.sl.length:=by
  have:=h.le;unfold leftOf;rw[h.n,Int.min_eq_left this];omega
 obtain⟨ak,sl,hi,la,ri⟩:=pg;have h1:=h.ak;have h2:=h.hi;have h3:=h.la;have h4:=h.ri;simp only at h1 h2 h3 h4 hl;unfold aez;rw[h1,h2,h3,h4,hl];congr 1
 apply List.ext_getElem?
 intro i;rw[List.getElem?_map];rcases Nat.lt_or_ge i sl.length with hi|hi
 ·rw[List.getElem?_range hi]
  obtain⟨e1,e2⟩:=h.sl i sl[i] (aq8 hi);rw[aq8 hi];simp only[Option.map_some,aey,e1,e2]
 ·rw[List.getElem?_eq_none (by simpa using hi),List.getElem?_eq_none hi];rfl
section
variable {K:aL}{W:World}{REST:List aC}{c1 c2:aO}{ρ:Nat->Option Value}{v10 v11:Value}
end
section
variable {K:aL}{w:World}{F:List aC}{bm bc acc:Nat}{L:List aO}{d:aR}{id:Int}
end
structure VAt (w:World)(g:Nat)(L:List aO):Prop where
 lt:g<w.heap.size
 len:L.length<=1000000
 cell:∀(i:Nat) (c:aO),L[i]?=some c->w.cell? ⟨g,i*3,none⟩=some (.int .u64 c.n)/\w.cell? ⟨g,i*3+1,none⟩=some (.string c.k)/\w.cell? ⟨g,i*3+2,none⟩=some (.int .u64 c.m)
theorem VAt.same {w w':World}{g:Nat}{L:List aO}(h:VAt w g L)(hb:Below w.heap.size w w'):VAt w' g L:=
 ⟨Nat.lt_of_lt_of_le h.lt hb.size,h.len,fun i c hc=>by
  have:=h.cell i c hc;rw[hb.cell (p:=⟨g,_,none⟩) h.lt,hb.cell (p:=⟨g,_,none⟩) h.lt,hb.cell (p:=⟨g,_,none⟩) h.lt];exact this⟩
theorem yY (tmps:Array Value)(w:World)(b:Nat)(v0 v1 v2:Value)(hp:tmps[4]?=some (.pointer (some ⟨b,0,none⟩)))(hk:∀k,w.cell? ⟨b,k,none⟩=(#[v0,v1,v2]:Array Value)[k]?) :
  (results Tryz.f83 tmps).run Tryz.prog w=.ok (.agg #[v0,v1,v2]) w:=by
 simp[results,Tryz.results83,go_sem,hp,hk]
section
variable {d:aR}{g:Nat}{L:List aO}
theorem gq (i:Int)(w:World)(hv:VAt w g L) :
  Calls Tryz.prog 83 #[.agg #[.int .i64 (d).th,.int .i64 (d).sn,.int .i64 (d).no,.int .i64 (d).ch,.int .i64 (d).re,.int .i64 (d).fa,.int .u64 (d).cl,.slice (some ⟨g,0,none⟩) L.length L.length],.int .i64 i] w fun e w' => e=.returned (.agg #[.int .u64 (ah L i).n,.string (ah L i).k,.int .u64 (ah L i).m])/\Below w.heap.size w w' := by
 have hs:=(St.start w).made (.cells #[.int .i64 (d).th,.int .i64 (d).sn,.int .i64 (d).no,.int .i64 (d).ch,.int .i64 (d).re,.int .i64 (d).fa,.int .u64 (d).cl,.slice (some ⟨g,0,none⟩) L.length L.length] 52);have hl:=hv.len;obtain⟨n,hn⟩:∃n,n=L.length:=⟨_,rfl⟩;by_cases h0:i<0
 ·have e:ah L i=aO.zero:=qi h0
  rw[e];show Calls Tryz.prog 83 #[.agg #[.int .i64 (d).th,.int .i64 (d).sn,.int .i64 (d).no,.int .i64 (d).ch,.int .i64 (d).re,.int .i64 (d).fa,.int .u64 (d).cl,.slice (some ⟨g,0,none⟩) L.length L.length],.int .i64 i] w fun e w' => e=.returned (.agg #[.int .u64 0,.string ⟨#[]⟩,.int .u64 0])/\Below w.heap.size w w'
  rw[←hn]at hs hl ⊢;clear e hn hv;have hs:=hs.made (.cells #[.int .u64 0,.string ⟨#[]⟩,.int .u64 0] 63);simp only[World.size_alloc]at hs;go_enter Tryz.func83,Tryz.ntmps83
  go_wp2
  refine bodyPost_ret (yY _ _ (w.heap.size+1) _ _ _ rfl hs.k0) rfl ⟨rfl,hs.below (aL.Le.refl _)⟩
 ·by_cases h1:i<n
  ·obtain⟨k,rfl⟩:∃k:Nat,i=k:=⟨i.toNat,by omega⟩
   obtain⟨c,hc⟩:∃c,L[k]?=some c:=⟨_,aq8 (by omega)⟩
   have e:ah L k=c:=by unfold ah;rw[if_pos (by omega),show(k:Int).toNat=k by omega,hc];rfl
   rw[e];obtain⟨c0,c1,c2⟩:=hv.cell k c hc;have hlt:=hv.lt;rw[←hn]at hs hl ⊢;clear e hn hv hc;have hs:=hs.made (.cells #[.int .u64 c.n,.string c.k,.int .u64 c.m] 63);simp only[World.size_alloc]at hs;go_enter Tryz.func83,Tryz.ntmps83
   go_wp2
   refine bodyPost_ret (yY _ _ (w.heap.size+1) _ _ _ rfl hs.k0) rfl ⟨rfl,hs.below (aL.Le.refl _)⟩
  ·have e:ah L i=aO.zero:=by
    unfold ah;rw[if_pos (by omega),List.getElem?_eq_none (by omega)];rfl
   rw[e];show Calls Tryz.prog 83 #[.agg #[.int .i64 (d).th,.int .i64 (d).sn,.int .i64 (d).no,.int .i64 (d).ch,.int .i64 (d).re,.int .i64 (d).fa,.int .u64 (d).cl,.slice (some ⟨g,0,none⟩) L.length L.length],.int .i64 i] w fun e w' => e=.returned (.agg #[.int .u64 0,.string ⟨#[]⟩,.int .u64 0])/\Below w.heap.size w w'
   rw[←hn]at hs hl ⊢;clear e hn hv;have hs:=hs.made (.cells #[.int .u64 0,.string ⟨#[]⟩,.int .u64 0] 63);simp only[World.size_alloc]at hs;go_enter Tryz.func83,Tryz.ntmps83
   go_wp2
   refine bodyPost_ret (yY _ _ (w.heap.size+1) _ _ _ rfl hs.k0) rfl ⟨rfl,hs.below (aL.Le.refl _)⟩
theorem Nx (tmps:Array Value)(w:World)(b:Nat)(v0 v1 v2:Value)(hp:tmps[6]?=some (.pointer (some ⟨b,0,none⟩)))(hk:∀k,w.cell? ⟨b,k,none⟩=(#[v0,v1,v2]:Array Value)[k]?) :
  (results Tryz.f87 tmps).run Tryz.prog w=.ok (.agg #[v0,v1,v2]) w:=by
 simp[results,Tryz.results87,go_sem,hp,hk]
theorem l9 (hd:d.Ok)(id k:Int)(hid:0<=id/\id<18446744073709551616)(hk:0<=k/\k<d.fa+4)(w:World)(hv:VAt w g L) :
  Calls Tryz.prog 87 #[.agg #[.int .i64 (d).th,.int .i64 (d).sn,.int .i64 (d).no,.int .i64 (d).ch,.int .i64 (d).re,.int .i64 (d).fa,.int .u64 (d).cl,.slice (some ⟨g,0,none⟩) L.length L.length],.int .u64 id,.int .i64 k] w fun e w' => e=.returned (.agg #[.int .u64 (ah L (d.node id k)).n,.string (ah L (d.node id k)).k,.int .u64 (ah L (d.node id k)).m])/\Below w.heap.size w w' := by
 have hs:=(St.start w).made (.cells #[.int .i64 (d).th,.int .i64 (d).sn,.int .i64 (d).no,.int .i64 (d).ch,.int .i64 (d).re,.int .i64 (d).fa,.int .u64 (d).cl,.slice (some ⟨g,0,none⟩) L.length L.length] 52);have hs:=hs.made (.cells #[.int .u64 0,.string ⟨#[]⟩,.int .u64 0] 63);simp only[World.size_alloc]at hs;have Q1:=aq3 (fun w=>mZ d hd id k hid.1 hid.2 hk.1 hk.2 w)
 have Q2:=aq3 (fun W (hb:Below w.heap.size w W)=>gq (d:=d) (d.node id k) W (hv.same hb))
 generalize ah L (d.node id k)=c at *;generalize L.length=n at *;clear hv;go_enter Tryz.func87,Tryz.ntmps87
 go_upto_region 1 with(fail)
 have k1:=hs.k1;have hb0:=hs.below (aL.Le.refl _);have Hb0:=aq3 hb0;clear hb0;refine bQ 7 (by kernel_rfl) (by as_aux_lemma=>kernel_rfl) ?_
 have Qy:=aq3 (fun wz (hy:∃x:Ext,wz=over ((w.alloc (.cells #[.int .i64 (d).th,.int .i64 (d).sn,.int .i64 (d).no,.int .i64 (d).ch,.int .i64 (d).re,.int .i64 (d).fa,.int .u64 (d).cl,.slice (some ⟨g,0,none⟩) n n] 52)).alloc (.cells #[.int .u64 0,.string ⟨#[]⟩,.int .u64 0] 63)) x)=>Q2.out wz (Hb0.out.trans ((Pure.below hy).mono Hb0.out.size)))
 simp only[List.take_succ_cons,List.take_zero,List.drop_succ_cons,List.drop_zero];repeat (go_big_quiet_step (first|(go_at_call 21;exact aX (Q1.out _))|(go_at_call 83;exact aX (Qy.out _ ⟨_,rfl⟩))))
 refine wpQuiet_nil ?_
 intro w3 hb3;have hs:=hs.same hb3;clear k1 hb3;have f0:=hs.f0;have k0:=hs.k0;have hs:=((hs.aI 0 (.int .u64 c.n)).aI 1 (.string c.k)).aI 2 (.int .u64 c.m);simp only[List.set_cons_zero,List.set_cons_succ]at hs;go_wp2
 refine bodyPost_ret (Nx _ _ (w.heap.size+1) _ _ _ rfl hs.k0) rfl ⟨rfl,hs.below (aL.Le.refl _)⟩
end
theorem Ny (tmps:Array Value)(w:World)(b:Nat)(v0 v1 v2 v3 v4:Value)(hp:tmps[4]?=some (.pointer (some ⟨b,0,none⟩)))(hk:∀k,w.cell? ⟨b,k,none⟩=(#[v0,v1,v2,v3,v4]:Array Value)[k]?) :
  (results Tryz.f28 tmps).run Tryz.prog w=.ok (.agg #[v0,v1,v2,v3,v4]) w:=by
 simp[results,Tryz.results28,go_sem,hp,hk]
theorem St.row_eq {K:aL}{w:World}{F:List aC}{v:Value}{T:TypeId}{size n:Nat}{xs ys:List Value}(h:St K w (az v T size n xs::F))(e:xs=ys):St K w (az v T size n ys::F):=by subst e;exact h
section
variable {K:aL}{w:World}{F:List aC}{d:aR}{g:Nat}{L:List aO}{id:Int}{pg:Pg}
theorem kR {W:World}{cs:List aC}(hg:K.map g=some (.cells (flat L).toArray 63))(hl:L.length<=1000000)(hs:St K W cs):VAt W g L:=by
 have hk:=hs.jT g _ hg;refine⟨ia hk,hl,fun i c hc=>?_⟩
 obtain⟨r0,r1,r2⟩:=sW L i c hc;have k:=bq hk;exact⟨by rw[k];simpa using r0,by rw[k];simpa using r1,by rw[k];simpa using r2⟩
theorem fD (hd:d.Ok)(h1:1<=id)(h2:id<=d.no)(hp:cT d id L pg)(hg:K.map g=some (.cells (flat L).toArray 63))(hl:L.length<=1000000)(hs:St K w F) :
  Calls Tryz.prog 28 #[.agg #[.int .i64 (d).th,.int .i64 (d).sn,.int .i64 (d).no,.int .i64 (d).ch,.int .i64 (d).re,.int .i64 (d).fa,.int .u64 (d).cl,.slice (some ⟨g,0,none⟩) L.length L.length],.int .u64 id] w fun e w' => ∃va,e=.returned (.agg #[.int .i64 (pg).ak,va,.string (pg).hi,.bool (pg).la,.int .u64 (pg).ri])/\St K w' (az va 69 2 pg.sl.length (aD pg.sl)::F):=by
 have f1:=hd.fo;have f2:=hd.mK;have hno:=hd.mJ;have hid:0<=id/\id<18446744073709551616:=by omega
 have hpos:=(bV hd h1 h2 (k:=0) (by omega) (by omega)).2.1
 have hle:=hp.le;obtain⟨n,hn⟩:∃n,n=pg.sl.length:=⟨_,rfl⟩;obtain⟨nl,hnl⟩:∃nl,nl=L.length:=⟨_,rfl⟩;obtain⟨c1,hc1⟩:∃c,c=ah L (d.node id 1):=⟨_,rfl⟩;obtain⟨cf,hcf⟩:∃cf:Int->aO,cf=fun k=>ah L (d.node id k):=⟨_,rfl⟩
 have hc2:cf 2=ah L (d.node id 2):=by rw[hcf]
 have hc3:cf 3=ah L (d.node id 3):=by rw[hcf]
 have kW:pg=⟨wrap64 c1.m,pg.sl,(cf 2).k,((cf 2).m == 1),(cf 3).n⟩:=by
  obtain⟨ak,sl,hi,la,ri⟩:=pg;have e1:=hp.ak;have e2:=hp.hi;have e3:=hp.la;have e4:=hp.ri;rw[←hc1]at e1;rw[←hc2]at e2 e3;rw[←hc3]at e4;simp only at e1 e2 e3 e4 ⊢;rw[e1,e2,e4,←e3];rfl
 have hn1:c1.n=n:=by rw[hc1,hn];exact hp.n
 have hw:∀k:Int,0<=k->k<d.fa+4->∀W cs,St K W cs->Calls Tryz.prog 87 #[.agg #[.int .i64 (d).th,.int .i64 (d).sn,.int .i64 (d).no,.int .i64 (d).ch,.int .i64 (d).re,.int .i64 (d).fa,.int .u64 (d).cl,.slice (some ⟨g,0,none⟩) nl nl],.int .u64 id,.int .i64 k] W fun e w' => e=.returned (.agg #[.int .u64 (ah L (d.node id k)).n,.string (ah L (d.node id k)).k,.int .u64 (ah L (d.node id k)).m])/\Below W.heap.size W w' := fun k k0 k1 W cs h=>by
  rw[hnl];exact l9 hd id k hid ⟨k0,k1⟩ W (kR hg hl h)
 have q1:=fun W cs h=>hw 1 (by omega) (by omega) W cs h
 have q2:∀k:Int,2<=k->k<=3->∀W cs,St K W cs->Calls Tryz.prog 87 #[.agg #[.int .i64 (d).th,.int .i64 (d).sn,.int .i64 (d).no,.int .i64 (d).ch,.int .i64 (d).re,.int .i64 (d).fa,.int .u64 (d).cl,.slice (some ⟨g,0,none⟩) nl nl],.int .u64 id,.int .i64 k] W fun e w' => e=.returned (.agg #[.int .u64 (cf k).n,.string (cf k).k,.int .u64 (cf k).m])/\Below W.heap.size W w' := fun k a b W cs h=>by rw[hcf];exact hw k (by omega) (by omega) W cs h
 have qs:∀i:Nat,i<n->∃s:Sl,∃m:Int,pg.sl[i]?=some s/\∀W cs,St K W cs->Calls Tryz.prog 87 #[.agg #[.int .i64 (d).th,.int .i64 (d).sn,.int .i64 (d).no,.int .i64 (d).ch,.int .i64 (d).re,.int .i64 (d).fa,.int .u64 (d).cl,.slice (some ⟨g,0,none⟩) nl nl],.int .u64 id,.int .i64 (4+(i:Int))] W fun e w' => e=.returned (.agg #[.int .u64 s.r,.string s.k,.int .u64 m])/\Below W.heap.size W w' := fun i hi=>by
  obtain⟨s,eY⟩:∃s,pg.sl[i]?=some s:=⟨_,aq8 (by omega)⟩
  obtain⟨e1,e2⟩:=hp.sl i s eY;have es:d.slot id i=d.node id (4+(i:Int)):=by
   unfold aR.slot;rw[if_pos ⟨by omega,by omega⟩]
  rw[es]at e1 e2;refine⟨s,(ah L (d.node id (4+(i:Int)))).m,eY,fun W cs h=>?_⟩
  have:=hw (4+(i:Int)) (by omega) (by omega) W cs h
  rw[e1,e2]at this;exact this
 have Qs:=aq3 qs;rw[←hc1,hn1]at q1;have Q1:=aq3 q1;have Q2:=aq3 q2;have Ql:=aq3 (fun w=>mZ d hd id 0 hid.1 hid.2 (by omega) (by omega) w)
 have Hpg:=aq3 kW;have Hn:=aq3 hn;obtain⟨j0,hj0⟩:∃j,j=d.node id 0:=⟨_,rfl⟩;rw[←hj0]at Ql hpos;rw[←hn]at hle ⊢;rw[←hnl];clear hw q1 q2 qs hc1 hc2 hc3 hcf hn1 kW hn hnl hj0 hp hg hl h1 h2 hno;obtain⟨i64,cZ,dc,dg,dh⟩:=info_parts gU;have lI:=aq3 cZ;have lJ:=aq3 dc;have lK:=aq3 dg;have lM:=aq3 dh;clear cZ dc dg dh;have hs:=(hs.made (.cells #[.int .i64 (d).th,.int .i64 (d).sn,.int .i64 (d).no,.int .i64 (d).ch,.int .i64 (d).re,.int .i64 (d).fa,.int .u64 (d).cl,.slice (some ⟨g,0,none⟩) nl nl] 52)).made (.cells #[.int .i64 0,.slice none 0 0,.string ⟨#[]⟩,.bool false,.int .u64 0] 43);rw[World.size_alloc]at hs;have kv:=hs.k1;go_enter Tryz.func28,Tryz.ntmps28
 go_wp2_with fail
 refine(bH hs (Ql.out _)).mono ?_
 clear hs kv;generalize w.heap.size=b0;rintro e w1 ⟨rfl,hs⟩;have kv:=hs.k1;go_wp2_with fail
 refine(bH hs (Q1.out _ _ hs)).mono ?_
 clear hs kv;rintro e w2 ⟨rfl,hs⟩;have hs:=hs.made (.cells #[.int .u64 n,.string c1.k,.int .u64 c1.m] 63);obtain⟨b5,hb5⟩:∃b,b=w2.heap.size:=⟨_,rfl⟩;go_upto_region 4 with(fail)
 rw[←hb5]at hs ⊢;clear hb5;have Hs:=aq3 hs;clear hs;refine fY [false,false,false,false,false,false,false,false,false,false,false,false,false,false,false,false,false,true,true] 17 18
  (fun W=>St K W (blk b5 (.cells #[.int .u64 n,.string c1.k,.int .u64 c1.m] 63)::blk (b0+1) (.cells #[.int .i64 0,.slice none 0 0,.string ⟨#[]⟩,.bool false,.int .u64 0] 43)::blk b0 (.cells #[.int .i64 (d).th,.int .i64 (d).sn,.int .i64 (d).no,.int .i64 (d).ch,.int .i64 (d).re,.int .i64 (d).fa,.int .u64 (d).cl,.slice (some ⟨g,0,none⟩) nl nl] 52)::F))
  (fun v W=>∃b6:Nat,v=(.pointer (some ⟨b6,0,none⟩))/\St K W (blk b6 (.cells #[.int .i64 0,.slice none 0 0,.string ⟨#[]⟩,.bool false,.int .u64 0] 43)::blk b5 (.cells #[.int .u64 n,.string c1.k,.int .u64 c1.m] 63)::blk (b0+1) (.cells #[.int .i64 0,.slice none 0 0,.string ⟨#[]⟩,.bool false,.int .u64 0] 43)::blk b0 (.cells #[.int .i64 (d).th,.int .i64 (d).sn,.int .i64 (d).no,.int .i64 (d).ch,.int .i64 (d).re,.int .i64 (d).fa,.int .u64 (d).cl,.slice (some ⟨g,0,none⟩) nl nl] 52)::F))
  (fun v u W=>u=undef/\∃b6:Nat,v=(.pointer (some ⟨b6,0,none⟩))/\St K W (blk b6 (.cells #[.int .i64 (wrap64 c1.m),.slice none 0 0,.string (cf 2).k,.bool ((cf 2).m == 1),.int .u64 (cf 3).n] 43)::blk b5 (.cells #[.int .u64 n,.string c1.k,.int .u64 c1.m] 63)::blk (b0+1) (.cells #[.int .i64 0,.slice none 0 0,.string ⟨#[]⟩,.bool false,.int .u64 0] 43)::blk b0 (.cells #[.int .i64 (d).th,.int .i64 (d).sn,.int .i64 (d).no,.int .i64 (d).ch,.int .i64 (d).re,.int .i64 (d).fa,.int .u64 (d).cl,.slice (some ⟨g,0,none⟩) nl nl] 52)::F))
  (fun W=>∃cs,St K W (blk b5 (.cells #[.int .u64 n,.string c1.k,.int .u64 c1.m] 63)::blk (b0+1) (.cells #[.int .i64 0,.slice none 0 0,.string ⟨#[]⟩,.bool false,.int .u64 0] 43)::blk b0 (.cells #[.int .i64 (d).th,.int .i64 (d).sn,.int .i64 (d).no,.int .i64 (d).ch,.int .i64 (d).re,.int .i64 (d).fa,.int .u64 (d).cl,.slice (some ⟨g,0,none⟩) nl nl] 52)::cs)) ?aS (by decide) (by kernel_rfl) ?hB ?H ?iD Hs.out ?hI ?hR ?Fx ?vK ?hQ
 case hB=>as_aux_lemma=>kernel_rfl
 case H=>
  rintro W2 ⟨cs,hs⟩;have k5:=hs.k0;have kv:=hs.k2;have Q2y:=aq3 (fun wz (hy:∃x:Ext,wz=over W2 x) (k:Int) (ka:2<=k) (kb:k<=3)=>Q2.out k ka kb wz _ (hs.same (Pure.below hy)))
  clear hs;simp only[bL];repeat (go_big_quiet_step ((go_at_call 87;exact aX (Q2y.out _ ⟨_,rfl⟩ _ (by omega) (by omega)))))
  refine wpQuiet_nil ?_
  rfl
 case iD=>rfl
 case hI=>exact⟨fun W h=>⟨_,h⟩,fun v W ⟨_,_,h⟩=>⟨_,h.tail⟩,fun v u W ⟨_,_,_,h⟩=>⟨_,h.tail⟩⟩
 case hR=>exact⟨fun W W' h hb=>h.same hb,fun v W W' ⟨b,e,h⟩ hb=>⟨b,e,h.same hb⟩,fun v u W W' ⟨e0,b,e,h⟩ hb=>⟨e0,b,e,h.same hb⟩⟩
 case Fx=>
  intro rj o ho ρ W2 hs hk af aB;obtain rfl:=aq9 ho;subst aB;have Hk:=aq3 hk;clear hk;have hs:=hs.made (.cells #[.int .i64 0,.slice none 0 0,.string ⟨#[]⟩,.bool false,.int .u64 0] 43);go_wp2
  exact⟨rfl,_,rfl,Hk.out _ _ ⟨_,rfl,hs⟩⟩
 case vK=>
  rintro rj o ho ρ v W2 ⟨b6,rfl,hs⟩ hk af aB;obtain rfl:=aq9 ho;have Hk:=aq3 hk;clear hk;simp only[aM,List.getElem?_cons_succ,List.getElem?_cons_zero,Option.bind_some,Act.put,List.setIfInBounds_toArray,List.set_cons_zero,List.set_cons_succ]at aB;subst aB;have k0:=hs.k0;have f0:=hs.f0;have hs:=((((hs.aI 0 (.int .i64 (wrap64 c1.m))).aI 1 (.slice none 0 0)).aI 2 (.string (cf 2).k)).aI 3 (.bool ((cf 2).m == 1))).aI 4 (.int .u64 (cf 3).n);simp only[List.set_cons_zero,List.set_cons_succ]at hs;go_wp2
  exact⟨rfl,undef,rfl,Hk.out _ _ ⟨rfl,b6,rfl,hs⟩⟩
 case hQ=>
  rintro v u W2 ⟨rfl,b6,rfl,hs⟩;simp only[aM,Act.put,ara];have hs:=hs.cF (T:=69) (size:=2);go_wp2
  go_loopw [7,8] (fun v7 _ wr=>∃(i:Nat) (a:Option Addr) (co:Nat),v7=.int .i64 i/\i<=n/\St K wr (az (.slice a i co) 69 2 i (aD (pg.sl.take i))::blk b6 (.cells #[.int .i64 (wrap64 c1.m),.slice a i co,.string (cf 2).k,.bool ((cf 2).m == 1),.int .u64 (cf 3).n] 43)::blk b5 (.cells #[.int .u64 n,.string c1.k,.int .u64 c1.m] 63)::blk (b0+1) (.cells #[.int .i64 0,.slice none 0 0,.string ⟨#[]⟩,.bool false,.int .u64 0] 43)::blk b0 (.cells #[.int .i64 (d).th,.int .i64 (d).sn,.int .i64 (d).no,.int .i64 (d).ch,.int .i64 (d).re,.int .i64 (d).fa,.int .u64 (d).cl,.slice (some ⟨g,0,none⟩) nl nl] 52)::F)) (fun v7 _ _=>n-(intOf v7).toNat)
  case atStart=>exact⟨0,none,0,rfl,by omega,hs⟩
  case round=>
   clear hs;obtain⟨i,a,co,rfl,hi,hs⟩:=hrel;by_cases hin:i<n
   ·obtain⟨s,m,eY,hq⟩:=Qs.out i hin
    have kp:=hs.k1;have k5:=hs.k2;have kv:=hs.b4.k0;have qR:=hq _ _ hs;have HQ:=aq3 qR;have dY:pg.sl.take (i+1)=pg.sl.take i++[s]:=by rw[List.take_add_one,eY];rfl
    have iP:=aq3 dY;have hif:(i:Int)<d.fa:=by omega
    clear hq qR eY dY;go_wp2_with fail
    refine(bH hs HQ.out).mono ?_
    clear hs kp k5 kv HQ;rintro e w4 ⟨rfl,hs⟩;have hs:=hs.made (.cells #[.int .u64 s.r,.string s.k,.int .u64 m] 63);go_upto_region 9 with(fail)
    refine cP hs ?_
    generalize w4.heap.size=b8 at *;clear hs;intro W hs;have k8:=hs.k0;have kp:=hs.k2;have hs:=hs.b1;go_wp2_with (at_builtin;refine dF _ _ 41 69 _ i 2 24 _ (gY s) (.agg #[.string ⟨#[]⟩,.int .u64 0]) i64 hs rfl rfl Tryz.underlying41 lI.out lJ.out lK.out lM.out rfl (by decide) rfl rfl rfl (fun u hu=>by simp[gY]at hu;rcases hu with rfl|rfl <;> rfl) (by omega) (by decide) ?_)
    clear hs k8 kp;intro v' w' hs;obtain⟨mP,mQ,hv,_,_⟩:=hs.aH;subst hv;have hs:=hs.bY.b1;have kp:=hs.k0;have fp:=hs.f0;have hs:=hs.aI 1 (.slice mP (i+1) mQ);simp only[List.set_cons_zero,List.set_cons_succ]at hs;go_wp2
    go_roundw
    case rel=>exact⟨i+1,mP,mQ,by go_num,by omega,by rw[iP.out];unfold aD;rw[List.flatMap_append];exact(show St K _ (az _ _ _ _ (aD (pg.sl.take i)++gY s)::_)from hs.b1).row_eq (by simp[aD])⟩
    case measure=>simp[intOf];omega
   ·obtain rfl:i=n:=by omega
    rw[List.take_of_length_le (by rw[←Hn.out];exact Nat.le_refl _)]at hs
    have k5:=hs.k2;have kp:=hs.k1;have hs:=hs.b3;have k4:=hs.k0;have f4:=hs.f0;have hs:=((((hs.aI 0 (.int .i64 (wrap64 c1.m))).aI 1 (.slice a i co)).aI 2 (.string (cf 2).k)).aI 3 (.bool ((cf 2).m == 1))).aI 4 (.int .u64 (cf 3).n);simp only[List.set_cons_zero,List.set_cons_succ]at hs;have hif:¬ (i:Int)<i:=by omega
    go_wp2
    refine bodyPost_ret (Ny _ _ (b0+1) _ _ _ _ _ rfl hs.k0) rfl ⟨_,by rw[Hpg.out],?_⟩
    exact(hs.re [1,0,2,3,4] rfl).bY.bY.bY.bY
end
section
variable {K:aL}{w:World}{F:List aC}{d:aR}{g:Nat}{L:List aO}
theorem nR (hd:d.Ok)(id:Int)(hid:0<=id/\id<18446744073709551616)(hg:K.map g=some (.cells (flat L).toArray 63))(hl:L.length<=1000000)(hs:St K w F) :
  Calls Tryz.prog 82 #[.agg #[.int .i64 (d).th,.int .i64 (d).sn,.int .i64 (d).no,.int .i64 (d).ch,.int .i64 (d).re,.int .i64 (d).fa,.int .u64 (d).cl,.slice (some ⟨g,0,none⟩) L.length L.length],.int .u64 id] w fun e w' => e=.returned (.bool (decide (1<=id/\id<=d.no/\id<=(ah L 4).n)))/\St K w' F:=by
 have Xv:=hd.Jo;have iX:=hd.mJ;have hs:=hs.made (.cells #[.int .i64 (d).th,.int .i64 (d).sn,.int .i64 (d).no,.int .i64 (d).ch,.int .i64 (d).re,.int .i64 (d).fa,.int .u64 (d).cl,.slice (some ⟨g,0,none⟩) L.length L.length] 52);have Q:=aq3 (fun W cs (h:St K W cs)=>gq (d:=d) 4 W (kR hg hl h))
 generalize L.length=n at *;generalize ah L 4=c at *;have k:=hs.k0;by_cases h1:1<=id
 ·by_cases h2:id<=d.no
  ·rw[show decide (1<=id/\id<=d.no/\id<=c.n)=decide (id<=c.n)by simp[h1,h2]]
   go_enter Tryz.func82,Tryz.ntmps82
   go_wp2_with fail
   refine(bH hs (Q.out _ _ hs)).mono ?_
   clear hs k Q;rintro e w1 ⟨rfl,hs⟩;go_wp2
   go_ret;exact⟨rfl,hs.tail⟩
  ·rw[show decide (1<=id/\id<=d.no/\id<=c.n)=false by simp[h2]]
   go_enter Tryz.func82,Tryz.ntmps82
   go_wp2
   go_ret;exact⟨rfl,hs.tail⟩
 ·rw[show decide (1<=id/\id<=d.no/\id<=c.n)=false by simp[h1]]
  go_enter Tryz.func82,Tryz.ntmps82
  go_wp2
  go_ret;exact⟨rfl,hs.tail⟩
theorem Dd (w:World)(ak ri:Int)(a:Option Addr)(n c:Nat)(hi:ByteArray)(la:Bool):(Instr.field 43 (.agg #[.int .i64 ak,.slice a n c,.string hi,.bool la,.int .u64 ri]) 0).run Tryz.prog w=.ok (.int .i64 ak) w:=rfl
theorem De (w:World)(ak ri:Int)(a:Option Addr)(n c:Nat)(hi:ByteArray)(la:Bool):(Instr.field 43 (.agg #[.int .i64 ak,.slice a n c,.string hi,.bool la,.int .u64 ri]) 2).run Tryz.prog w=.ok (.string hi) w:=rfl
theorem yZ (w:World)(ak ri:Int)(a:Option Addr)(n c:Nat)(hi:ByteArray)(la:Bool):(Instr.field 43 (.agg #[.int .i64 ak,.slice a n c,.string hi,.bool la,.int .u64 ri]) 4).run Tryz.prog w=.ok (.int .u64 ri) w:=rfl
attribute [go_sem] Dd De yZ
def HtR (K:aL)(pg:Pg)(REST:List aC)(ρ:Nat->Option Value)(W:World):Prop:=
 St K W REST/\(∀v,ρ 4=some v->∃(a:Option Addr) (c:Nat),v=.agg #[.int .i64 pg.ak,.slice a pg.sl.length c,.string pg.hi,.bool pg.la,.int .u64 pg.ri])/\(∀v,ρ 5=some v->v=.int .i64 pg.ak)/\(∀v,ρ 6=some v->v=.int .i64 (pg.ak+1))/\(∀v,ρ 7=some v->v=.int .i64 (pg.ak+1))
theorem vW {pg:Pg}(hd:d.Ok)(h1:1<=(ah L 0).n)(h2:(ah L 0).n<=d.no)(hp:cT d (ah L 0).n L pg)(bZ:0<=pg.ak/\pg.ak<1000000)(hg:K.map g=some (.cells (flat L).toArray 63))(hl:L.length<=1000000)(hs:St K w F) :
  Calls Tryz.prog 26 #[.agg #[.int .i64 (d).th,.int .i64 (d).sn,.int .i64 (d).no,.int .i64 (d).ch,.int .i64 (d).re,.int .i64 (d).fa,.int .u64 (d).cl,.slice (some ⟨g,0,none⟩) L.length L.length]] w fun e w' => e=.returned (.int .i64 (pg.ak+1))/\St K w' F:=by
 have hs:=hs.made (.cells #[.int .i64 (d).th,.int .i64 (d).sn,.int .i64 (d).no,.int .i64 (d).ch,.int .i64 (d).re,.int .i64 (d).fa,.int .u64 (d).cl,.slice (some ⟨g,0,none⟩) L.length L.length] 52);have Q:=aq3 (fun W cs (h:St K W cs)=>gq (d:=d) 0 W (kR hg hl h))
 have Q2:=aq3 (fun W cs (h:St K W cs)=>fD hd h1 h2 hp hg hl h)
 generalize L.length=n at *;generalize ah L 0=c at *;go_enter Tryz.func26,Tryz.ntmps26
 go_upto_region 1 with(fail)
 have Hs:=aq3 hs;clear hs;refine aT [false,false,false,false,true,true,true,true] [4,5,6,7] (fun|5=>[4] | 6=>[5] | 7=>[6] | _=>[])
  (HtR K pg (blk w.heap.size (.cells #[.int .i64 (d).th,.int .i64 (d).sn,.int .i64 (d).no,.int .i64 (d).ch,.int .i64 (d).re,.int .i64 (d).fa,.int .u64 (d).cl,.slice (some ⟨g,0,none⟩) n n] 52)::F))
  (fun W=>St K W (blk w.heap.size (.cells #[.int .i64 (d).th,.int .i64 (d).sn,.int .i64 (d).no,.int .i64 (d).ch,.int .i64 (d).re,.int .i64 (d).fa,.int .u64 (d).cl,.slice (some ⟨g,0,none⟩) n n] 52)::F)) ?aS (by kernel_rfl) ?hB ?H ?iD ?h0 ?hI ?hR ?hE ?hQ
 case hB=>as_aux_lemma=>kernel_rfl
 case H=>
  intro W2 hs;have kv:=hs.k0;have Qy:=aq3 (fun wz (hy:∃x:Ext,wz=over W2 x)=>Q.out wz _ (hs.same (Pure.below hy)))
  clear hs;simp only[bL];repeat (go_big_quiet_step ((go_at_call 83;exact aX (Qy.out _ ⟨_,rfl⟩))))
  refine wpQuiet_nil ?_
  rfl
 case iD=>rfl
 case h0=>exact⟨Hs.out,fun v h=>(by cases h),fun v h=>(by cases h),fun v h=>(by cases h),fun v h=>(by cases h)⟩
 case hI=>exact fun ρ W2 h=>h.1
 case hR=>exact fun ρ W2 W3 h hb=>⟨h.1.same hb,h.2⟩
 case hE=>
  refine⟨?e4,?e5,?e6,?e7,trivial⟩;case e4=>
   intro o ho ρ W2 h hcl h4 hd2 af aB;obtain rfl:=aq9 ho;replace aB:af=aj _ ρ [] _:=aB;simp only[aj]at aB;subst aB;obtain⟨hs,q4,q5,q6,q7⟩:=h;have H5:=aq3 q5;have H6:=aq3 q6;have H7:=aq3 q7;clear q4 q5 q6 q7 hcl hd2;go_wp2_with fail
   refine(Q2.out _ _ hs).mono ?_
   rintro e W3 ⟨va,rfl,hs'⟩;obtain⟨a,c,rfl,_,_⟩:=hs'.aH;go_wp2
   refine⟨rfl,_,rfl,hs'.tail,fun v h=>⟨a,c,by simpa[upd] using h.symm⟩,fun v h=>H5.out v (by simpa[upd] using h),fun v h=>H6.out v (by simpa[upd] using h),fun v h=>H7.out v (by simpa[upd] using h)⟩
  case e5=>
   intro o ho ρ W2 h hcl h5 hd2 af aB;obtain rfl:=aq9 ho;replace aB:af=aj _ ρ [4] _:=aB;obtain⟨v4,h4⟩:=aq6.1 (hd2 4 (by show _∈[4];simp))
   obtain⟨hs,q4,q5,q6,q7⟩:=h;obtain⟨a,c,rfl⟩:=q4 v4 h4;simp only[aj,h4,Option.getD_some,aM,Act.put,ara]at aB;subst aB;have H4:=aq3 q4;have H6:=aq3 q6;have H7:=aq3 q7;have Eo:=aq3 hs;clear q4 q5 q6 q7 hcl hd2 h4 hs;go_wp2
   refine⟨rfl,_,rfl,Eo.out,fun v h=>H4.out v (by simpa[upd] using h),fun v h=>by simpa[upd] using h.symm,fun v h=>H6.out v (by simpa[upd] using h),fun v h=>H7.out v (by simpa[upd] using h)⟩
  case e6=>
   intro o ho ρ W2 h hcl h6 hd2 af aB;obtain rfl:=aq9 ho;replace aB:af=aj _ ρ [5] _:=aB;obtain⟨v5,h5⟩:=aq6.1 (hd2 5 (by show _∈[5];simp))
   obtain⟨hs,q4,q5,q6,q7⟩:=h;obtain rfl:=q5 v5 h5;simp only[aj,h5,Option.getD_some,aM,Act.put,ara]at aB;subst aB;have H4:=aq3 q4;have H5:=aq3 q5;have H7:=aq3 q7;have Eo:=aq3 hs;clear q4 q5 q6 q7 hcl hd2 h5 hs;go_wp2
   refine⟨rfl,_,rfl,Eo.out,fun v h=>H4.out v (by simpa[upd] using h),fun v h=>H5.out v (by simpa[upd] using h),fun v h=>by simpa[upd] using h.symm,fun v h=>H7.out v (by simpa[upd] using h)⟩
  case e7=>
   intro o ho ρ W2 h hcl h7 hd2 af aB;obtain rfl:=aq9 ho;replace aB:af=aj _ ρ [6] _:=aB;obtain⟨v6,h6⟩:=aq6.1 (hd2 6 (by show _∈[6];simp))
   obtain⟨hs,q4,q5,q6,q7⟩:=h;obtain rfl:=q6 v6 h6;simp only[aj,h6,Option.getD_some,aM,Act.put,ara]at aB;subst aB;have H4:=aq3 q4;have H5:=aq3 q5;have H6:=aq3 q6;have Eo:=aq3 hs;clear q4 q5 q6 q7 hcl hd2 h6 hs;go_wp2
   refine⟨rfl,_,rfl,Eo.out,fun v h=>H4.out v (by simpa[upd] using h),fun v h=>H5.out v (by simpa[upd] using h),fun v h=>H6.out v (by simpa[upd] using h),fun v h=>by simpa[upd] using h.symm⟩
 case hQ=>
  intro ρ W2 h hall;obtain⟨v4,h4⟩:=aq6.1 (hall 4 (by simp))
  obtain⟨v5,h5⟩:=aq6.1 (hall 5 (by simp))
  obtain⟨v6,h6⟩:=aq6.1 (hall 6 (by simp))
  obtain⟨v7,h7⟩:=aq6.1 (hall 7 (by simp))
  obtain⟨hs,q4,q5,q6,q7⟩:=h;obtain⟨a,c,rfl⟩:=q4 v4 h4;obtain rfl:=q5 v5 h5;obtain rfl:=q6 v6 h6;obtain rfl:=q7 v7 h7;simp only[aj,h4,h5,h6,h7,Option.getD_some,aM,Act.put,ara];clear q4 q5 q6 q7 h4 h5 h6 h7 hall;go_wp2
  go_ret;exact⟨rfl,hs.tail⟩
theorem Nz (tmps:Array Value)(w:World)(b:Nat)(v0 v1 v2 v3 v4 v5 v6 v7:Value)(hp:tmps[4]?=some (.pointer (some ⟨b,0,none⟩)))(hk:∀k,w.cell? ⟨b,k,none⟩=(#[v0,v1,v2,v3,v4,v5,v6,v7]:Array Value)[k]?) :
  (results Tryz.f23 tmps).run Tryz.prog w=.ok (.agg #[v0,v1,v2,v3,v4,v5,v6,v7]) w:=by
 simp[results,Tryz.results23,go_sem,hp,hk]
def KvR (K:aL)(d:aR)(L:List aO)(b:Nat)(REST:List aC)(ρ:Nat->Option Value)(W:World):Prop:=
 ∃g:Nat,(∀v,ρ 2=some v->v=.slice (some ⟨g,0,none⟩) L.length L.length)/\(∀v,ρ 3=some v->v=.agg #[.int .i64 (d).th,.int .i64 (d).sn,.int .i64 (d).no,.int .i64 (d).ch,.int .i64 (d).re,.int .i64 (d).fa,.int .u64 (d).cl,.slice (some ⟨g,0,none⟩) L.length L.length])/\(∀v,ρ 4=some v->(ρ 3).isSome=true) /\
  St K W (blk (b+1) (.cells (if (ρ 4).isSome then #[.int .i64 (d).th,.int .i64 (d).sn,.int .i64 (d).no,.int .i64 (d).ch,.int .i64 (d).re,.int .i64 (d).fa,.int .u64 (d).cl,.slice (some ⟨g,0,none⟩) L.length L.length]else #[.int .i64 0,.int .i64 0,.int .i64 0,.int .i64 0,.int .i64 0,.int .i64 0,.int .u64 0,.slice none 0 0]) 52)::dH (ρ 2) (blk g (.cells (flat L).toArray 63))::blk b (.cells #[.int .i64 (d).th,.int .i64 (d).sn,.int .i64 (d).no,.int .i64 (d).ch,.int .i64 (d).re,.int .i64 (d).fa,.int .u64 (d).cl] 26)::REST)
theorem uQ {bm bc acc:Nat}(hs:St K w (aJ bm bc L acc::F)) :
  Calls Tryz.prog 23 #[.agg #[.int .i64 (d).th,.int .i64 (d).sn,.int .i64 (d).no,.int .i64 (d).ch,.int .i64 (d).re,.int .i64 (d).fa,.int .u64 (d).cl],(.pointer (some ⟨bm,0,none⟩))] w fun e w' => ∃g,e=.returned (.agg #[.int .i64 (d).th,.int .i64 (d).sn,.int .i64 (d).no,.int .i64 (d).ch,.int .i64 (d).re,.int .i64 (d).fa,.int .u64 (d).cl,.slice (some ⟨g,0,none⟩) L.length L.length])/\K.Le (K.add g (.cells (flat L).toArray 63))/\(K.add g (.cells (flat L).toArray 63)).map g=some (.cells (flat L).toArray 63)/\St (K.add g (.cells (flat L).toArray 63)) w' (aJ bm bc L acc::F):=by
 have hs:=hs.made (.cells #[.int .i64 (d).th,.int .i64 (d).sn,.int .i64 (d).no,.int .i64 (d).ch,.int .i64 (d).re,.int .i64 (d).fa,.int .u64 (d).cl] 26);have hs:=hs.made (.cells #[.int .i64 0,.int .i64 0,.int .i64 0,.int .i64 0,.int .i64 0,.int .i64 0,.int .u64 0,.slice none 0 0] 52);simp only[World.size_alloc]at hs;go_enter Tryz.func23,Tryz.ntmps23
 go_upto_region 1 with(fail)
 have Hs:=aq3 hs;clear hs;refine aT [false,false,true,true,true] [2,3,4] (fun|3=>[2] | 4=>[3] | _=>[])
  (KvR K d L w.heap.size (aJ bm bc L acc::F))
  (fun W=>∃cs,St K W (blk w.heap.size (.cells #[.int .i64 (d).th,.int .i64 (d).sn,.int .i64 (d).no,.int .i64 (d).ch,.int .i64 (d).re,.int .i64 (d).fa,.int .u64 (d).cl] 26)::cs)) ?aS (by kernel_rfl) ?hB ?H ?iD ?h0 ?hI ?hR ?hE ?hQ
 case hB=>as_aux_lemma=>kernel_rfl
 case H=>
  rintro W2 ⟨cs,hs⟩;have kv:=hs.k0;clear hs;simp only[bL];repeat (go_big_quiet_step (fail))
  refine wpQuiet_nil ?_
  rfl
 case iD=>rfl
 case h0=>exact⟨0,fun v h=>(by cases h),fun v h=>(by cases h),fun v h=>(by cases h),(Hs.out.b1.empty.b2:St K _ (_::gN::_))⟩
 case hI=>exact fun ρ W2 ⟨g,_,_,_,hs⟩=>⟨_,hs.b2⟩
 case hR=>exact fun ρ W2 W3 ⟨g,a,b,c,hs⟩ hb=>⟨g,a,b,c,hs.same hb⟩
 case hE=>
  refine⟨?e2,?e3,?e4,trivial⟩;case e2=>
   intro o ho ρ W2 h hcl h2 hd2 af aB;obtain rfl:=aq9 ho;replace aB:af=aj _ ρ [] _:=aB;have h3:ρ 3=none:=hcl.none (by simp) (show 2∈[2]by simp) h2
   have h4:ρ 4=none:=hcl.none (by simp) (show 3∈[3]by simp) h3
   simp only[aj]at aB;subst aB;obtain⟨g,q2,q3,q4,hs⟩:=h;rw[h2,h4]at hs;have hs:=(show St K W2 (_::gN::_::aJ bm bc L acc::F)from hs).bY.b2
   have H3:=aq3 h3;have H4:=aq3 h4;clear q2 q3 q4 hcl hd2 h2 h3 h4;go_wp2_with fail
   refine(Dc hs).mono ?_
   rintro e W3 ⟨g',rfl,hs'⟩;have eG:=aq3 hs';clear hs hs';go_wp2
   refine⟨rfl,_,rfl,g',fun v h=>by simpa[upd] using h.symm,fun v h=>?_,fun v h=>?_,?_⟩
   ·have:ρ 3=some v:=by simpa[upd] using h
    rw[H3.out]at this;cases this
   ·have:ρ 4=some v:=by simpa[upd] using h
    rw[H4.out]at this;cases this
   ·have e4:upd ρ 2 (.slice (some ⟨g',0,none⟩) L.length L.length) 4=none:=by simp[upd,H4.out]
    have e2:upd ρ 2 (.slice (some ⟨g',0,none⟩) L.length L.length) 2=some (.slice (some ⟨g',0,none⟩) L.length L.length):=by simp[upd]
    rw[e4,e2];exact eG.out.re [2,0,3,1] rfl
  case e3=>
   intro o ho ρ W2 h hcl h3 hd2 af aB;obtain rfl:=aq9 ho;replace aB:af=aj _ ρ [2] _:=aB;obtain⟨v2,h2⟩:=aq6.1 (hd2 2 (by show _∈[2];simp))
   have h4:ρ 4=none:=hcl.none (by simp) (show 3∈[3]by simp) h3
   obtain⟨g,q2,q3,q4,hs⟩:=h;obtain rfl:=q2 v2 h2;simp only[aj,h2,Option.getD_some,aM,Act.put,ara]at aB;subst aB;have Hq2:=aq3 q2;have H4:=aq3 h4;have Eo:=aq3 hs;clear q2 q3 q4 hcl hd2 h2 h3 h4 hs;go_wp2
   refine⟨rfl,_,rfl,g,fun v h=>Hq2.out v (by simpa[upd] using h),fun v h=>by simpa[upd] using h.symm,fun v h=>?_,by simpa[upd] using Eo.out⟩
   have:ρ 4=some v:=by simpa[upd] using h
   rw[H4.out]at this;cases this
  case e4=>
   intro o ho ρ W2 h hcl h4 hd2 af aB;obtain rfl:=aq9 ho;replace aB:af=aj _ ρ [3] _:=aB;obtain⟨v3,h3⟩:=aq6.1 (hd2 3 (by show _∈[3];simp))
   obtain⟨g,q2,q3,q4,hs⟩:=h;obtain rfl:=q3 v3 h3;simp only[aj,h3,Option.getD_some,aM,Act.put,ara]at aB;subst aB;rw[h4]at hs;have hs:St K W2 (blk (w.heap.size+1) (.cells #[.int .i64 0,.int .i64 0,.int .i64 0,.int .i64 0,.int .i64 0,.int .i64 0,.int .u64 0,.slice none 0 0] 52)::_):=hs;have k0:=hs.k0;have f0:=hs.f0;have hs:=(((((((hs.aI 0 (.int .i64 d.th)).aI 1 (.int .i64 d.sn)).aI 2 (.int .i64 d.no)).aI 3 (.int .i64 d.ch)).aI 4 (.int .i64 d.re)).aI 5 (.int .i64 d.fa)).aI 6 (.int .u64 d.cl)).aI 7 (.slice (some ⟨g,0,none⟩) L.length L.length);simp only[List.set_cons_zero,List.set_cons_succ]at hs;have Hq2:=aq3 q2;have Hq3:=aq3 q3;have H3:=aq3 h3;have Eo:=aq3 hs;clear q2 q3 q4 hcl hd2 h3 h4 hs;go_wp2
   refine⟨rfl,undef,rfl,g,fun v h=>Hq2.out v (by simpa[upd] using h),fun v h=>Hq3.out v (by simpa[upd] using h),fun v h=>by simp[upd,H3.out],by simpa[upd] using Eo.out⟩
 case hQ=>
  intro ρ W2 h hall;obtain⟨v2,h2⟩:=aq6.1 (hall 2 (by simp))
  obtain⟨v3,h3⟩:=aq6.1 (hall 3 (by simp))
  obtain⟨v4,h4⟩:=aq6.1 (hall 4 (by simp))
  obtain⟨g,q2,q3,q4,hs⟩:=h;rw[h2,h4]at hs;have hs:St K W2 (blk (w.heap.size+1) (.cells #[.int .i64 (d).th,.int .i64 (d).sn,.int .i64 (d).no,.int .i64 (d).ch,.int .i64 (d).re,.int .i64 (d).fa,.int .u64 (d).cl,.slice (some ⟨g,0,none⟩) L.length L.length] 52)::blk g (.cells (flat L).toArray 63)::_::aJ bm bc L acc::F):=hs;obtain rfl:=q2 v2 h2;obtain rfl:=q3 v3 h3;simp only[aj,h2,h3,h4,Option.getD_some,aM,Act.put,ara];clear q2 q3 q4 h2 h3 h4 hall;obtain⟨z1,z2,z3⟩:=hs.b1.freeze;have Hz1:=aq3 z1;have Hz2:=aq3 z2;clear z1 z2;go_wp2
  refine bodyPost_ret (Nz _ _ (w.heap.size+1) _ _ _ _ _ _ _ _ rfl z3.k0) rfl ⟨g,rfl,Hz1.out,Hz2.out,z3.tail.tail⟩
end
end
section
section
variable {pg:Pg}{a:Option Addr}{cap:Nat}{key:ByteArray}
end
end
section
section
variable {K:aL}{w:World}{F:List aC}{pg:Pg}{a:Option Addr}{cap:Nat}{key:ByteArray}{r:Int}
end
end
end Go.Proofs.YtlpdhhhgckpcfaaGreat
