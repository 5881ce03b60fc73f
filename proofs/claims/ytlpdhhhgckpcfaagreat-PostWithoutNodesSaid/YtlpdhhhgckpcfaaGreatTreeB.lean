
/- blinktreekit.Keys: the keys of raw ones, in ascending order. A slice of strings that came in, as a function of the index. blinktreekit.Keys: the whole. blinktreekit.group: how slots are agd into nodes. Trees as lists of nodes: a row of a level, what is yC. What is yC is a row. The memory in which a row has been yC. Rw level by level. Rw: what is known between two levels, and at the end. The nodes of a tree that cover one key are nested. -/
import Derived.Test.YtlpdhhhgckpcfaaGreatKeys
import Derived.Test.YtlpdhhhgckpcfaaGreatNodeW
namespace Go.Proofs.YtlpdhhhgckpcfaaGreat
set_option maxHeartbeats 16000000
open Go.RowKit
set_option maxRecDepth 100000
def Ju (k:ByteArray):List Value:=[.string k,.string ⟨#[]⟩]
def iJ (l:List ByteArray):List Value:=l.flatMap Ju
theorem nI (l:List ByteArray):∀ (i:Nat)(s:ByteArray),l[i]?=some s->(iJ l)[i*2]?=some (.string s)/\(iJ l)[i*2+1]?=some (.string ⟨#[]⟩):=by
 induction l with
 | nil=>intro i s h;simp at h
 | cons a l ih=>
  intro i s h;have e:iJ (a::l)=.string a :: .string ⟨#[]⟩::iJ l:=rfl;rw[e];cases i with
  | zero=>simp at h;subst h;exact⟨rfl,rfl⟩
  | succ i=>
   have:=ih i s (by simpa using h)
   rw[show(i+1)*2=i*2+2 by omega]
   simpa using this
theorem oY (l:List ByteArray)(k:ByteArray):iJ (l++[k])=iJ l++Ju k:=by simp[iJ]
def sk (l:List ByteArray):Prop:=l.Pairwise fun x y=>cE x y=true
theorem Mx:(Tryz.prog.info? 119).map (fun i=>(i.zero,i.size,i.bytes))=some (some (.agg #[.string ⟨#[]⟩,.string ⟨#[]⟩]),2,32):=by kernel_rfl
theorem oZ:(Tryz.prog.info? 9).map (fun i=>(i.zero,i.size,i.bytes))=some (some (.string ⟨#[]⟩),1,16):=by kernel_rfl
structure om (ks:List ByteArray)(key:ByteArray)(i:Nat)(b:Bool)(out:List ByteArray):Prop where
 before:b=false->∀ x,x∈out->cE x key=true
 j7:sk out
 later:∀ x,x∈out->∀ (j:Nat) (y:ByteArray),i<=j->ks[j]?=some y->y≠key->cE x y=true
 len:out.length<=i+(if b then 1 else 0)
 mem:∀ x,x∈out->x=key\/x∈ks
theorem ux {out:List ByteArray}{y:ByteArray}(h:sk out)(hy:∀ x,x∈out->cE x y=true):sk (out++[y]):=by
 refine List.pairwise_append.2 ⟨h,List.pairwise_singleton _ _,fun x hx z hz=>?_⟩
 simp at hz;subst hz;exact hy x hx
theorem Rx {ks:List ByteArray}(h:sk ks){i j:Nat}{x y:ByteArray}(hx:ks[i]?=some x)(hy:ks[j]?=some y)(hij:i<j):cE x y=true:=by
 have:=List.pairwise_iff_getElem.1 h i j (aqq.1 hx).1 (aqq.1 hy).1 hij;rwa [(aqq.1 hx).2,(aqq.1 hy).2]at this
section
variable {ks:List ByteArray}{key:ByteArray}{i:Nat}{out:List ByteArray}
theorem om.start:om ks key 0 false []:=⟨fun _ x h=>(by cases h),List.Pairwise.nil,fun x h=>(by cases h),by simp,fun x h=>(by cases h)⟩
theorem om.own (h:om ks key i false out)(hk:sk ks){y:ByteArray}(hy:ks[i]?=some y)(hle:cE y key=false):om ks key i true (out++[key]):=by
 refine⟨fun e=>(by cases e),ux h.j7 (h.before rfl),fun x hx j z hj hz hne=>?_,by have:=h.len;simp at this ⊢;omega,fun x hx=>?_⟩
 ·rcases List.mem_append.1 hx with hx|hx
  ·exact h.later x hx j z hj hz hne
  ·simp at hx;subst hx
   cases e:cE x z with
   | true=>rfl
   | false=>
    have hzx:cE z x=false:=by
     rcases Nat.eq_or_lt_of_le hj with rfl|hlt
     ·rw[hy]at hz;cases hz;exact hle
     ·cases e2:cE z x with
      | false=>rfl
      | true=>have:=gz (Rx hk hy hz hlt) e2;rw[hle]at this;cases this
    exact absurd (gA hzx e) hne
 ·rcases List.mem_append.1 hx with hx|hx
  ·exact h.mem x hx
  ·simp at hx;exact .inl hx
theorem om.elem {b:Bool}(h:om ks key i b out)(hk:sk ks){y:ByteArray}(hy:ks[i]?=some y)(hne:y≠key)(hb:b=false->cE y key=true):om ks key (i+1) b (out++[y]):=by
 refine⟨fun e x hx=>?_,ux h.j7 (fun x hx=>h.later x hx i y (Nat.le_refl _) hy hne),fun x hx j z hj hz hnz=>?_,by have:=h.len;simp at this ⊢;omega,fun x hx=>?_⟩
 ·rcases List.mem_append.1 hx with hx|hx
  ·exact h.before e x hx
  ·simp at hx;subst hx;exact hb e
 ·rcases List.mem_append.1 hx with hx|hx
  ·exact h.later x hx j z (by omega) hz hnz
  ·simp at hx;subst hx;exact Rx hk hy hz (by omega)
 ·rcases List.mem_append.1 hx with hx|hx
  ·exact h.mem x hx
  ·simp at hx;subst hx;exact .inr (aqs hy)
theorem om.skip {b:Bool}(h:om ks key i b out):om ks key (i+1) b out:=
 ⟨h.before,h.j7,fun x hx j z hj hz hne=>h.later x hx j z (by omega) hz hne,by have:=h.len;omega,h.mem⟩
theorem om.last (h:om ks key i false out):sk (out++[key])/\(out++[key]).length<=i+1/\∀ x,x∈out++[key]->x=key\/x∈ks:=by
 refine⟨ux h.j7 (h.before rfl),by have:=h.len;simp at this ⊢;omega,fun x hx=>?_⟩
 rcases List.mem_append.1 hx with hx|hx
 ·exact h.mem x hx
 ·simp at hx;exact .inl hx
end
section
variable {K:aK}{w:World}{F:List aB}{ks:List ByteArray}{key:ByteArray}{v:Value}
theorem Cc (hk:sk ks)(hlen:ks.length<=1000)(hs:St K w (ak v 119 2 ks.length (iJ ks)::F)) :
  Calls Tryz.prog 72 #[v,.agg #[.string key,.string ⟨#[]⟩]] w fun e w' => ∃ (v':Value) (ks':List ByteArray),e=.returned v' /\ Hid (sk ks' /\ ks'.length<=ks.length+1/\∀ x,x∈ks' -> x=key\/x∈ks)/\St K w' (ak v' 119 2 ks'.length (iJ ks')::ak v 119 2 ks.length (iJ ks)::F):=by
 obtain⟨a,cap,rfl,_,_⟩:=hs.aF;obtain⟨n,hn⟩:∃ n,n=ks.length:=⟨_,rfl⟩;have hs:=hs.made (.cells #[.string key,.string ⟨#[]⟩] 119);have Hk:=aqo hk;have Hn:=aqo hn;rw[← hn]at hlen hs ⊢;obtain⟨iv,cZ,dc,dg,dh⟩:=info_parts Mx;have lC:=aqo cZ;have lD:=aqo dc;have lF:=aqo dg;have lG:=aqo dh;clear cZ dc dg dh hk hn;obtain⟨bx,hbx⟩:∃ bx,bx=w.heap.size:=⟨_,rfl⟩;have hs:=hs.cD (T:=119) (size:=2);go_enter Tryz.func72,Tryz.ntmps72
 go_wp2
 rw[← hbx]at hs ⊢;clear hbx;go_loopw [5,6,7] (fun v5 v6 v7 wr=>∃ (i:Nat) (b:Bool) (out:List ByteArray) (ao:Option Addr) (co:Nat),v5=.slice ao out.length co/\v6=.bool b/\v7=.int .i64 i/\i<=n/\Hid (om ks key i b out) /\
  St K wr (ak (.slice ao out.length co) 119 2 out.length (iJ out)::blk bx (.cells #[.string key,.string ⟨#[]⟩] 119)::ak (.slice a n cap) 119 2 n (iJ ks)::F)) (fun _ _ v7 _=>n-(intOf v7).toNat)
 case atStart=>exact⟨0,false,[],none,0,rfl,rfl,rfl,by omega,aqo om.start,hs⟩
 case round=>
  clear hs;obtain⟨i,b,out,ao,co,rfl,rfl,rfl,hi,HP,hs⟩:=hrel;have hol:out.length<=1001:=by have:=HP.out.len;split at this <;> omega
  by_cases hin:i<n
  ·obtain⟨y,hy⟩:∃ y,ks[i]?=some y:=⟨_,aqt (by have:=Hn.out;omega)⟩
   obtain⟨r0,r1⟩:=nI ks i y hy;obtain⟨g,rfl,c0⟩:=hs.b2.cP r0;obtain⟨g1,e1,c1⟩:=hs.b2.cP r1;obtain rfl:g1=g:=by simpa using e1.symm
   clear e1 r0 r1;have kx:=hs.k1;have Hy:=aqo hy;clear hy;go_upto_region 6 with(fail)
   go_cut [25] (fun v25 wx=>v25=.bool (!b && !cE y key)/\St K wx (ak (.slice ao out.length co) 119 2 out.length (iJ out)::blk bx (.cells #[.string key,.string ⟨#[]⟩] 119)::ak (.slice (some ⟨g1,0,none⟩) n cap) 119 2 n (iJ ks)::F))
   case first=>
    as_aux_lemma=>
    refine bH (by kernel_rfl) (by kernel_rfl) ?_
    cases b with
    | true=>
     repeat (go_big_quiet_step (fail))
     refine wpQuiet_nil ?_
     intro w2 hb2;have hs:=hs.same hb2;clear kx c0 c1 hb2;go_wp2
     go_meet;exact⟨rfl,hs⟩
    | false=>
     repeat (go_big_quiet_step (fail))
     refine wpQuiet_nil ?_
     intro w2 hb2;have hs:=hs.same hb2;clear kx c0 c1 hb2;go_wp2
     go_meet;exact⟨rfl,hs⟩
   case rest=>
    clear hs kx c0 c1;obtain⟨rfl,hs⟩:=hcut;apply_assumption
    go_cut [5,6] (fun v5 v6 wx=>∃ (b':Bool) (out':List ByteArray) (y9:Option Addr) (za:Nat),v5=.slice y9 out'.length za/\v6=.bool b' /\ Hid (om ks key i b' out' /\ (b'=false->cE y key=true)) /\
     St K wx (ak (.slice y9 out'.length za) 119 2 out'.length (iJ out')::blk bx (.cells #[.string key,.string ⟨#[]⟩] 119)::ak (.slice (some ⟨g1,0,none⟩) n cap) 119 2 n (iJ ks)::F))
    case first=>
     as_aux_lemma=>
     cases hc:(!b && !cE y key)with
     | true=>
      obtain⟨rfl,hle⟩:b=false/\cE y key=false:=by cases b <;> simp_all
      have Vm:=aqo hle;have kx:=hs.k1;clear hc hle;go_wp2_with (at_builtin;refine dB _ _ 116 119 _ out.length 2 32 _ [.string key,.string ⟨#[]⟩] (.agg #[.string ⟨#[]⟩,.string ⟨#[]⟩]) iv hs rfl rfl Tryz.underlying116 lC.out lD.out lF.out lG.out rfl (by decide) rfl rfl rfl (fun u hu=>by simp at hu;rcases hu with rfl|rfl <;> rfl) (by omega) (by decide) ?_)
      clear hs kx;intro v' w' hs;obtain⟨y9,za,hv,_,_⟩:=hs.aF;subst hv;go_wp2
      go_meet;exact⟨true,out++[key],y9,za,by rw[List.length_append];rfl,rfl,aqo ⟨HP.out.own Hk.out Hy.out Vm.out,fun e=>(by cases e)⟩,by rw[oY,List.length_append];exact hs⟩
     | false=>
      have Hc:=aqo hc;clear hc;go_wp2
      go_meet;exact⟨b,out,ao,co,rfl,rfl,aqo ⟨HP.out,fun e=>by have:=Hc.out;subst e;simpa using this⟩,hs⟩
    case rest=>
     clear hs;obtain⟨b',out',y9,za,rfl,rfl,HP',hs⟩:=hcut;have anh:out'.length<=1001:=by have:=HP'.out.1.len;split at this <;> omega
     obtain⟨r0,r1⟩:=nI ks i y Hy.out;have c0:=hs.b2.bJ r0;have c1:=hs.b2.bJ r1;have kx:=hs.k1;clear r0 r1 HP;go_upto_region 9 with(fail)
     refine bH (by kernel_rfl) (by kernel_rfl) ?_
     repeat (go_big_quiet_step (fail))
     refine wpQuiet_nil ?_
     intro w2 hb2;have hs:=hs.same hb2;clear kx c0 c1 hb2;by_cases hyk:y=key
     ·obtain rfl:=hyk
      have he:(y.toList == y.toList)=true:=beq_self_eq_true _;rw[he];go_wp2
      go_roundw
      case rel=>exact⟨i+1,b',out',y9,za,rfl,rfl,by go_num,by omega,aqo HP'.out.1.skip,hs⟩
      case measure=>simp[intOf];omega
     ·have he:=jA hyk
      rw[he];have Hne:=aqo hyk;obtain⟨r0,r1⟩:=nI ks i y Hy.out;have c0:=hs.b2.bJ r0;have c1:=hs.b2.bJ r1;clear r0 r1 hyk;go_wp2_with (at_builtin;refine dB _ _ 116 119 _ out'.length 2 32 _ [.string y,.string ⟨#[]⟩] (.agg #[.string ⟨#[]⟩,.string ⟨#[]⟩]) iv hs rfl rfl Tryz.underlying116 lC.out lD.out lF.out lG.out rfl (by decide) rfl rfl rfl (fun u hu=>by simp at hu;rcases hu with rfl|rfl <;> rfl) (by omega) (by decide) ?_)
      clear hs c0 c1;intro v' w' hs;obtain⟨mJ,mK,hv,_,_⟩:=hs.aF;subst hv;go_wp2
      go_roundw
      case rel=>exact⟨i+1,b',out' ++ [y],mJ,mK,by rw[List.length_append];rfl,rfl,by go_num,by omega,aqo (HP'.out.1.elem Hk.out Hy.out Hne.out HP'.out.2),by rw[oY,List.length_append];exact hs⟩
      case measure=>simp[intOf];omega
  ·obtain rfl:i=n:=by omega
   cases b with
   | true=>
    go_wp2
    go_ret;exact⟨_,out,rfl,aqo ⟨HP.out.j7,HP.out.len,HP.out.mem⟩,hs.bV⟩
   | false=>
    have kx:=hs.k1;go_wp2_with (at_builtin;refine dB _ _ 116 119 _ out.length 2 32 _ [.string key,.string ⟨#[]⟩] (.agg #[.string ⟨#[]⟩,.string ⟨#[]⟩]) iv hs rfl rfl Tryz.underlying116 lC.out lD.out lF.out lG.out rfl (by decide) rfl rfl rfl (fun u hu=>by simp at hu;rcases hu with rfl|rfl <;> rfl) (by omega) (by decide) ?_)
    clear hs kx;intro v' w' hs;obtain⟨mJ,mK,hv,_,_⟩:=hs.aF;subst hv;go_wp2
    go_ret;exact⟨_,out++[key],rfl,aqo HP.out.last,by rw[oY,List.length_append];exact hs.bV⟩
end
open Go.Joins Go.ChangeShapes Go.WideShapes Go.ChangeAt Go.RowKit Go.Deep
def yD (w:World)(a:Option Addr)(len:Nat)(f:Nat->ByteArray):Prop:=
 len<=maxLen/\∀ i,i<len->∃ b off,a=some ⟨b,off,none⟩/\b<w.heap.size/\w.cell? ⟨b,off+i,none⟩=some (.string (f i))/\(f i).size<=maxLen
theorem open_strs {H:Type}{enc:TypeId × Value->H}{w:World}{base:Nat}{spare:Nat->Bool}{held:Bool}{a:Option Addr}{len cap:Nat}{d:DataW H}{p:List MemPlace}
  (h:DataW.Trod enc Tryz.prog w base spare held 22 (.slice a len cap) d p):∃ f:Nat->ByteArray,yD w a len f:=by
 obtain⟨fuel,hf⟩:=h;rcases open_slice Tryz.underlying22 hf with⟨hcs,_⟩|⟨x,l,c,m,n,D,Pl,hcs,_,hl,hcap,hm,_,hx⟩
 ·simp[Value.cells]at hcs
  obtain⟨rfl,rfl,rfl⟩:=hcs;exact⟨fun _=>⟨#[]⟩,by simp[maxLen],fun i hi=>by omega⟩
 ·simp[Value.cells]at hcs
  obtain⟨rfl,rfl,rfl⟩:=hcs;have hlm:len<=m:=by rw[hm];split <;> omega
  have ce:Tryz.prog.cellsOf 9=1:=by kernel_rfl
  have each:∀ i,i<len->∃ q:ByteArray,w.cell? (x.add i)=some (.string q)/\q.size<=maxLen:=by
   intro i hi;obtain⟨cs',h1,h2⟩:=hx i (by omega)
   rw[ce,Nat.mul_one]at h1;obtain⟨_,hlen,hcell⟩:=World.cells?_some h1;match cs',hlen with
   | [v0],_=>
    have e0:=hcell 0 (by omega)
    rw[add_add]at e0;obtain⟨a0,q0,_,w0⟩:=DataW.trod_string Tryz.underlying9 h2;simp only[List.cons.injEq,and_true]at q0;subst q0;exact⟨a0,by simpa using e0,w0⟩
  obtain⟨f,hf'⟩:=choose_lt each;refine⟨f,by omega,fun i hi=>?_⟩
  have h0:=(hf' 0 (by omega)).1
  rw[show x.add 0=x from rfl]at h0
  have hsp:x.spot=none:=by
   cases hs:x.spot with
   | none=>rfl
   | some s=>
    simp only[World.cell?,hs]at h0;split at h0 <;> simp at h0
  obtain⟨b,off,sp⟩:=x;simp only at hsp;subst hsp;obtain⟨k0,r⟩:=hf' i hi;rw[add_plain]at k0;exact⟨b,off,rfl,World.block_lt_of_cell? _ _ k0,k0,r⟩
def bG (l:List ByteArray):List Value:=l.map Value.string
theorem jT (l:List ByteArray)(k:ByteArray):bG (l++[k])=bG l++[.string k]:=by simp[bG]
structure qU (most:Nat)(ks:List ByteArray):Prop where
 j7:sk ks
 len:ks.length<=most
 size:∀ x,x∈ks->x.size<=32
section
variable {w0 w:World}{F:List aB}{a:Option Addr}{len cap most:Nat}{f:Nat->ByteArray}
theorem Xc (hz:yD w0 a len f)(hm:most<=100)(hs:St (aK.of w0) w F) :
  Calls Tryz.prog 16 #[.slice a len cap,.int .i64 most] w fun e w' => ∃ (v:Value) (ks:List ByteArray),e=.returned v/\Hid (qU most ks)/\St (aK.of w0) w' (ak v 9 1 ks.length (bG ks)::F):=by
 have hl:=hz.1;simp only[maxLen]at hl;have Hz:=aqo hz;obtain⟨iv,cZ,dc,dg,dh⟩:=info_parts oZ;have lC:=aqo cZ;have lD:=aqo dc;have lF:=aqo dg;have lG:=aqo dh;clear cZ dc dg dh hz;have hs:=hs.cD (T:=119) (size:=2);go_enter Tryz.func16,Tryz.ntmps16
 go_wp2
 go_loopw [5,6,7] (fun v5 v6 _ wr=>∃ (i:Nat) (ks:List ByteArray) (ao:Option Addr) (co:Nat),v5=.slice ao ks.length co/\v6=.int .i64 i/\i<=len/\i<=most/\Hid (qU i ks) /\
  St (aK.of w0) wr (ak (.slice ao ks.length co) 119 2 ks.length (iJ ks)::F)) (fun _ v6 _ _=>len-(intOf v6).toNat)
 case atStart=>exact⟨0,[],none,0,rfl,rfl,by omega,by omega,aqo ⟨List.Pairwise.nil,Nat.le_refl _,fun x h=>(by cases h)⟩,hs⟩
 case round=>
  clear hs;obtain⟨i,ks,ao,co,rfl,rfl,hi,him,HK,hs⟩:=hrel;have hol:ks.length<=100:=by have:=HK.out.len;omega
  by_cases hin:i<len/\i<most
  ·obtain⟨h1,h2⟩:=hin
   obtain⟨qb,ani,rfl,ac7,kq,hsz⟩:=Hz.out.2 i h1;rw[← (hs.below (aK.Le.refl _)).cell (p:=⟨qb,_,none⟩) ac7]at kq;simp only[maxLen]at hsz;generalize f i=y at kq hsz;by_cases h32:y.size<=32
   ·go_wp2_with fail
    refine(Cc HK.out.j7 (by omega) hs).mono ?_
    clear hs kq;rintro e w2 ⟨v',ks',rfl,HK',hs⟩;obtain⟨y9,za,rfl,_,_⟩:=hs.aF;have hs:=hs.bV;go_wp2
    go_roundw
    case rel=>exact⟨i+1,ks',y9,za,rfl,by go_num,by omega,by omega,aqo ⟨HK'.out.1,by have:=HK'.out.2.1;have:=HK.out.len;omega,fun x hx=>by rcases HK'.out.2.2 x hx with rfl|hx;exact h32;exact HK.out.size x hx⟩,hs⟩
    case measure=>simp[intOf];omega
   ·have ank:¬ ((y.size:Int)<=32):=by omega
    go_wp2_with fail
    refine(Cc HK.out.j7 (by omega) hs).mono ?_
    clear hs kq;rintro e w2 ⟨v',ks',rfl,HK',hs⟩;obtain⟨y9,za,rfl,_,_⟩:=hs.aF;have hs:=hs.bV;go_wp2
    go_roundw
    case rel=>exact⟨i+1,ks',y9,za,rfl,by go_num,by omega,by omega,aqo ⟨HK'.out.1,by have:=HK'.out.2.1;have:=HK.out.len;omega,fun x hx=>by rcases HK'.out.2.2 x hx with rfl|hx;exact(by rw[ByteArray.size_extract];omega);exact HK.out.size x hx⟩,hs⟩
    case measure=>simp[intOf];omega
  ·obtain⟨n,hn⟩:∃ n,n=ks.length:=⟨_,rfl⟩
   have Hn:=aqo hn;rw[← hn]at hs hol ⊢;clear hn;have hs:=hs.cD (T:=9) (size:=1);have Hks:Hid (qU most ks):=aqo ⟨HK.out.j7,by have:=HK.out.len;omega,HK.out.size⟩
   by_cases h1:i<len
   ·have h2:¬ i<most:=fun h=>hin ⟨h1,h⟩
    go_wp2
    clear h1 h2 hin;go_loopw [8,9] (fun v8 v9 wr=>∃ (j:Nat) (y9:Option Addr) (za:Nat),v8=.slice y9 j za/\v9=.int .i64 j/\j<=n /\
     St (aK.of w0) wr (ak (.slice y9 j za) 9 1 j (bG (ks.take j))::ak (.slice ao n co) 119 2 n (iJ ks)::F)) (fun _ v9 _=>n-(intOf v9).toNat)
    case atStart=>exact⟨0,none,0,rfl,rfl,by omega,hs⟩
    case round=>
     clear hs;obtain⟨j,y9,za,rfl,rfl,hj,hs⟩:=hrel;by_cases hjn:j<n
     ·obtain⟨y,hy⟩:∃ y,ks[j]?=some y:=⟨_,aqt (by have:=Hn.out;omega)⟩
      obtain⟨r0,r1⟩:=nI ks j y hy;obtain⟨g,rfl,c0⟩:=hs.b1.cP r0;have dX:ks.take (j+1)=ks.take j++[y]:=by rw[List.take_add_one,hy];rfl
      have iK:=aqo dX;clear r0 r1 hy dX;go_wp2_with (at_builtin;refine dB _ _ 22 9 _ j 1 16 _ [.string y] (.string ⟨#[]⟩) iv hs rfl rfl Tryz.underlying22 lC.out lD.out lF.out lG.out rfl (by decide) rfl rfl rfl (fun u hu=>by simp at hu;subst hu;rfl) (by omega) (by decide) ?_)
      clear hs c0;intro v' w' hs;obtain⟨mJ,mK,hv,_,_⟩:=hs.aF;subst hv;go_wp2
      go_roundw
      case rel=>exact⟨j+1,mJ,mK,rfl,by go_num,by omega,by rw[iK.out,jT];exact hs⟩
      case measure=>simp[intOf];omega
     ·obtain rfl:j=n:=by omega
      go_wp2
      go_ret;refine⟨_,ks,rfl,Hks,?_⟩;have e:ks.take j=ks:=List.take_of_length_le (by rw[← Hn.out];exact Nat.le_refl _)
      rw[e]at hs;rw[← Hn.out];exact hs.bV
   ·go_wp2
    clear h1 hin;go_loopw [8,9] (fun v8 v9 wr=>∃ (j:Nat) (y9:Option Addr) (za:Nat),v8=.slice y9 j za/\v9=.int .i64 j/\j<=n /\
     St (aK.of w0) wr (ak (.slice y9 j za) 9 1 j (bG (ks.take j))::ak (.slice ao n co) 119 2 n (iJ ks)::F)) (fun _ v9 _=>n-(intOf v9).toNat)
    case atStart=>exact⟨0,none,0,rfl,rfl,by omega,hs⟩
    case round=>
     clear hs;obtain⟨j,y9,za,rfl,rfl,hj,hs⟩:=hrel;by_cases hjn:j<n
     ·obtain⟨y,hy⟩:∃ y,ks[j]?=some y:=⟨_,aqt (by have:=Hn.out;omega)⟩
      obtain⟨r0,r1⟩:=nI ks j y hy;obtain⟨g,rfl,c0⟩:=hs.b1.cP r0;have dX:ks.take (j+1)=ks.take j++[y]:=by rw[List.take_add_one,hy];rfl
      have iK:=aqo dX;clear r0 r1 hy dX;go_wp2_with (at_builtin;refine dB _ _ 22 9 _ j 1 16 _ [.string y] (.string ⟨#[]⟩) iv hs rfl rfl Tryz.underlying22 lC.out lD.out lF.out lG.out rfl (by decide) rfl rfl rfl (fun u hu=>by simp at hu;subst hu;rfl) (by omega) (by decide) ?_)
      clear hs c0;intro v' w' hs;obtain⟨mJ,mK,hv,_,_⟩:=hs.aF;subst hv;go_wp2
      go_roundw
      case rel=>exact⟨j+1,mJ,mK,rfl,by go_num,by omega,by rw[iK.out,jT];exact hs⟩
      case measure=>simp[intOf];omega
     ·obtain rfl:j=n:=by omega
      go_wp2
      go_ret;refine⟨_,ks,rfl,Hks,?_⟩;have e:ks.take j=ks:=List.take_of_length_le (by rw[← Hn.out];exact Nat.le_refl _)
      rw[e]at hs;rw[← Hn.out];exact hs.bV
end
def gq (l:List Nat):List Value:=l.map fun(p:Nat)=>Value.int .i64 (p:Int)
theorem uy (l:List Nat)(p:Nat):gq (l++[p])=gq l++[.int .i64 (p:Int)]:=by simp[gq]
theorem Xd:(Tryz.prog.info? 3).map (fun i=>(i.zero,i.size,i.bytes))=some (some (.int .i64 0),1,8):=by kernel_rfl
structure sW (n least fa:Nat)(ps:List Nat):Prop where
 sum:ps.sum=n
 bd:∀ p,p∈ps->1<=p/\p<=fa
 len:ps.length*least<=n+(least-1)
structure qV (n least fa r:Nat)(ps:List Nat):Prop where
 sum:ps.sum+r=n
 bd:∀ p,p∈ps->1<=p/\p<=fa
 len:ps.length*least<=ps.sum+(if r=0 then least-1 else 0)
theorem qV.step {n least fa r x:Nat}{ps:List Nat}(h:qV n least fa r ps)(hr:0<r)(hl:1<=least)(hx:least<=x)(hxf:x<=fa):qV n least fa (r-min x r) (ps++[min x r]):=by
 have h1:=h.sum;have h3:=h.len;rw[if_neg (by omega)]at h3
 have e:(ps++[min x r]).sum=ps.sum+min x r:=by simp
 refine⟨by rw[e];omega,fun p hp=>?_,?_⟩
 ·rcases List.mem_append.1 hp with hp|hp
  ·exact h.bd p hp
  ·simp at hp;omega
 ·rw[e,List.length_append]
  simp only[List.length_cons,List.length_nil,Nat.add_mul,Nat.one_mul,Nat.zero_mul,Nat.zero_add];by_cases hm:x<=r
  ·rw[Nat.min_eq_left hm];omega
  ·rw[Nat.min_eq_right (by omega),if_pos (by omega)];omega
theorem qV.last {n least fa:Nat}{ps:List Nat}(h:qV n least fa 0 ps):sW n least fa ps:=by
 have h1:=h.sum;have h3:=h.len;rw[if_pos rfl]at h3;exact⟨by omega,h.bd,by omega⟩
theorem uz (z:Int):0<=IntKind.u64.wrap z/\IntKind.u64.wrap z<18446744073709551616:=by
 rw[IntKind.wrap_u64];omega
theorem jU {z:Int}(h:0<=z)(h2:z<1000000):wrap64 z=z:=by unfold wrap64;omega
theorem qW:∀ {ps:List Nat},(∀ p,p∈ps->1<=p)->ps.length<=ps.sum
 | [],_=>by simp
 | a::l,h=>by
  have h1:=h a (by simp)
  have h2:=qW (ps:=l) (fun p hp=>h p (by simp[hp]))
  simp only[List.length_cons,List.sum_cons];omega
section
variable {K:aK}{w:World}{F:List aB}{n least fa:Nat}{sh:Int}
theorem uA (hn:n<=1000)(hl:1<=least/\least<=2)(hf:least<=fa/\fa<=32)(hsh:0<=sh/\sh<18446744073709551616)(hs:St K w F) :
  Calls Tryz.prog 70 #[.int .i64 n,.int .i64 least,.int .i64 fa,.int .u64 sh] w fun e w' => ∃ (v:Value) (ps:List Nat),e=.returned v/\Hid (sW n least fa ps)/\St K w' (ak v 3 1 ps.length (gq ps)::F):=by
 obtain⟨iv,cZ,dc,dg,dh⟩:=info_parts Xd;have lC:=aqo cZ;have lD:=aqo dc;have lF:=aqo dg;have lG:=aqo dh;clear cZ dc dg dh;have hs:=hs.cD (T:=3) (size:=1);go_enter Tryz.func70,Tryz.ntmps70
 go_wp2
 go_loopw [0,3,9,10] (fun v0 v3 v9 _ wr=>∃ (r:Nat) (s:Int) (ps:List Nat) (ao:Option Addr) (co:Nat),v0=.int .i64 r/\v3=.int .u64 s/\v9=.slice ao ps.length co/\r<=n/\0<=s/\s<18446744073709551616/\ps.length<=n/\Hid (qV n least fa r ps) /\
  St K wr (ak (.slice ao ps.length co) 3 1 ps.length (gq ps)::F)) (fun v0 _ _ _ _=>(intOf v0).toNat)
 case atStart=>exact⟨n,sh,[],none,0,rfl,rfl,rfl,Nat.le_refl _,hsh.1,hsh.2,by simp,aqo ⟨by simp,fun p h=>(by cases h),by simp⟩,by simpa[gq] using hs⟩
 case round=>
  clear hs;obtain⟨r,s,ps,ao,co,rfl,rfl,rfl,hr,hs0,hs1,hpl,HG,hs⟩:=hrel;by_cases h0:0<r
  ·go_upto_region 4 with(fail)
   obtain⟨x,hx,hx1,hx2⟩:∃ x:Nat,wrap64 ((least:Int)+wrap64 (s%((fa:Int)-least+1)))=x/\least<=x/\x<=fa:=by
    have hpos:(0:Int)<(fa:Int)-least+1:=by omega
    have m1:=Int.emod_nonneg s (by omega:(fa:Int)-least+1≠0)
    have m2:=Int.emod_lt_of_pos s hpos;generalize s%((fa:Int)-least+1)=m at *;refine⟨least+m.toNat,?_,by omega,by omega⟩
    rw[jU (z:=m) (by omega) (by omega),jU (by omega) (by omega)]
    omega
   rw[hx];have Yz:=aqo (HG.out.step h0 hl.1 hx1 hx2);clear hx;by_cases Jv:x<=r
   ·have aiY:¬ (r:Int)<x:=by omega
    rw[Nat.min_eq_left Jv]at Yz;go_wp2_with (at_builtin;refine dB _ _ 39 3 _ ps.length 1 8 _ [.int .i64 (x:Int)] (.int .i64 0) iv hs rfl rfl Tryz.underlying39 lC.out lD.out lF.out lG.out rfl (by decide) rfl rfl rfl (fun u hu=>by simp at hu;subst hu;rfl) (by omega) (by decide) ?_)
    clear hs;intro v' w' hs;obtain⟨mJ,mK,hv,_,_⟩:=hs.aF;subst hv;have hw:=uz (IntKind.u64.wrap (s / 3+IntKind.u64.wrap (s*7))+1);go_wp2
    go_roundw
    case rel=>exact⟨r-x,_,ps++[x],mJ,mK,by go_num,rfl,by rw[List.length_append];rfl,by omega,hw.1,hw.2,by have h2:=Yz.out.sum;have h3:=qW (fun p hp=>(Yz.out.bd p hp).1);omega,Yz,by rw[uy,List.length_append];exact hs⟩
    case measure=>simp[intOf];omega
   ·have aiY:(r:Int)<x:=by omega
    rw[Nat.min_eq_right (by omega),Nat.sub_self]at Yz
    go_wp2_with (at_builtin;refine dB _ _ 39 3 _ ps.length 1 8 _ [.int .i64 (r:Int)] (.int .i64 0) iv hs rfl rfl Tryz.underlying39 lC.out lD.out lF.out lG.out rfl (by decide) rfl rfl rfl (fun u hu=>by simp at hu;subst hu;rfl) (by omega) (by decide) ?_)
    clear hs;intro v' w' hs;obtain⟨mJ,mK,hv,_,_⟩:=hs.aF;subst hv;have hw:=uz (IntKind.u64.wrap (s / 3+IntKind.u64.wrap (s*7))+1);go_wp2
    go_roundw
    case rel=>exact⟨0,_,ps++[r],mJ,mK,by go_num,rfl,by rw[List.length_append];rfl,by omega,hw.1,hw.2,by have h2:=Yz.out.sum;have h3:=qW (fun p hp=>(Yz.out.bd p hp).1);omega,Yz,by rw[uy,List.length_append];exact hs⟩
    case measure=>simp[intOf];omega
  ·obtain rfl:r=0:=by omega
   go_wp2
   go_ret;exact⟨_,ps,rfl,aqo HG.out.last,hs⟩
end
structure Nd where
 id:Int
 low:ByteArray
 pg:Pg
def nJ (az:Nat)(l:List Sl)(p:Nat):ByteArray:=match l[p-1]?,l[p]? with
 | some a,some b=>if az=0 then lU a.k b.k else b.k
 | _,some b=>b.k
 | _,_=>⟨#[]⟩
def dO (az:Nat):ByteArray->Int->List Sl->List Nat->List Nd
 | _,_,_,[]=>[]
 | low,id,l,[p]=>[⟨id,low,⟨az,l.take p,⟨#[]⟩,true,0⟩⟩]
 | low,id,l,p::q::ps=>⟨id,low,⟨az,l.take p,nJ az l p,false,id+1⟩⟩::dO az (nJ az l p) (id+1) (l.drop p) (q::ps)
theorem eU (az:Nat):∀ (ps:List Nat)(low:ByteArray)(id:Int)(l:List Sl),(dO az low id l ps).length=ps.length
 | [],_,_,_=>rfl
 | [p],_,_,_=>rfl
 | p::q::ps,low,id,l=>by
  show(dO az _ _ _ (q::ps)).length+1=_
  rw[eU az (q::ps)];rfl
structure gS (az:Nat)(l:List Nd):Prop where
 ne:0<l.length
 az:∀ nd,nd∈l->nd.pg.az=az
 first:∀ nd,l[0]?=some nd->nd.low=⟨#[]⟩
 next:∀ (i:Nat) (a b:Nd),l[i]?=some a->l[i+1]?=some b->a.pg.la=false/\a.pg.hi=b.low/\a.pg.ri=b.id/\cE a.low b.low=true
 last:∀ (i:Nat) (a:Nd),l[i]?=some a->i+1=l.length->a.pg.la=true/\a.pg.hi=⟨#[]⟩/\a.pg.ri=0
structure kj (c:aP):Prop where
 n:c.n%4=0
 k:c.k=⟨#[]⟩
 m:c.m=0
theorem kj.zero:kj aP.zero:=⟨rfl,rfl,rfl⟩
theorem kj.eq {c:aP}(h:kj c):c=⟨c.n,⟨#[]⟩,0⟩:=by
 obtain⟨n,k,m⟩:=c;have h1:=h.k;have h2:=h.m;simp only at h1 h2;subst h1 h2;rfl
structure sq (d:aR)(L:List aP)(nd:Nd):Prop where
 id:1<=nd.id/\nd.id<=d.no
 page:eA d nd.id L nd.pg
 hold:Holds L (bN d nd.id nd.pg)
 free:kj (ah L (d.node nd.id 0))
 j7:kV nd.pg.sl
 rf:∀ s,s∈nd.pg.sl->1<=s.r
 bd:∀ s,s∈nd.pg.sl->cE s.k nd.low=false/\(nd.pg.la=false->cE s.k nd.pg.hi=true)
structure cA (d:aR)(L:List aP)(t:List (List Nd)):Prop where
 ne:0<t.length
 rows:∀ (k:Nat) (l:List Nd),t[k]?=some l->gS k l
 nodes:∀ (k:Nat) (l:List Nd),t[k]?=some l->∀ nd,nd∈l->sq d L nd
 top:∃ nd rest,t[t.length-1]?=some (nd::rest)/\(ah L 0).n=nd.id
 down:∀ (k:Nat) (l l':List Nd),t[k]?=some l->t[k+1]?=some l' -> ∀ nd,nd∈l' -> (∃ s r,nd.pg.sl=s::r/\s.k=nd.low)/\∀ s,s∈nd.pg.sl->∃ c,c∈l/\c.id=s.r/\c.low=s.k
 count:((t.map List.length).sum:Int)<=(ah L 4).n
 n4:(ah L 4).n<=d.no
 used:∀ (k:Nat) (l:List Nd),t[k]?=some l->∀ nd,nd∈l->nd.id<=(ah L 4).n
theorem nK (az:Nat):∀ (ps:List Nat)(low:ByteArray)(id:Int)(l:List Sl)(i p:Nat),ps[i]?=some p ->
  ∃ nd:Nd,(dO az low id l ps)[i]?=some nd/\nd.id=id+i/\(i=0->nd.low=low) /\
   nd.pg=(if i+1=ps.length then⟨az,(l.drop (ps.take i).sum).take p,⟨#[]⟩,true,0⟩else⟨az,(l.drop (ps.take i).sum).take p,nJ az (l.drop (ps.take i).sum) p,false,id+i+1⟩) /\
   ∀ lY,(dO az low id l ps)[i+1]?=some lY->lY.low=nJ az (l.drop (ps.take i).sum) p
 | [],_,_,_,i,p,h=>by simp at h
 | [q],low,id,l,i,p,h=>by
  cases i with
  | zero=>
   simp at h;subst h;exact⟨_,rfl,by simp,fun _=>rfl,by simp,fun lY h' => by simp[dO]at h'⟩
  | succ i=>simp at h
 | q::r::ps,low,id,l,i,p,h=>by
  cases i with
  | zero=>
   simp at h;subst h;refine⟨_,rfl,by simp,fun _=>rfl,by simp,fun lY h' =>?_⟩
   have h2:(dO az (nJ az l q) (id+1) (l.drop q) (r::ps))[0]?=some lY:=h';obtain⟨nd2,e2,_,e3,_⟩:=nK az (r::ps) (nJ az l q) (id+1) (l.drop q) 0 r rfl;rw[e2]at h2;cases h2;simpa using e3 rfl
  | succ i=>
   obtain⟨nd,h1,h2,h3,h4,h5⟩:=nK az (r::ps) (nJ az l q) (id+1) (l.drop q) i p (by simpa using h)
   have e:(q::r::ps).take (i+1)=q::(r::ps).take i:=rfl;refine⟨nd,h1,by rw[h2];push_cast;omega,fun h=>by omega,?_,fun lY h' =>?_⟩
   ·rw[h4,e,List.sum_cons,List.drop_drop]
    simp only[List.length_cons];rw[show id+1+(i:Int)+1=id+((i+1:Nat):Int)+1 by push_cast;omega]
    by_cases hx:i+1=ps.length+1
    ·rw[if_pos hx,if_pos (by omega)]
    ·rw[if_neg hx,if_neg (by omega)]
   ·rw[e,List.sum_cons,← List.drop_drop]
    exact h5 lY h'
theorem gT {ps:List Nat}{i p:Nat}(h:ps[i]?=some p):(ps.take (i+1)).sum=(ps.take i).sum+p:=by
 rw[List.take_add_one,h];simp
theorem rN (ps:List Nat)(i:Nat):(ps.take i).sum<=ps.sum:=by
 have h:ps.sum=(ps.take i).sum+(ps.drop i).sum:=by rw[← List.sum_append,List.take_append_drop]
 omega
theorem kJ {S:List Sl}(h:kV S){i j:Nat}{x y:Sl}(hx:S[i]?=some x)(hy:S[j]?=some y)(hij:i<j):cE x.k y.k=true:=by
 have:=List.pairwise_iff_getElem.1 h i j (aqq.1 hx).1 (aqq.1 hy).1 hij;rwa [(aqq.1 hx).2,(aqq.1 hy).2]at this
theorem yE {S:List Sl}(h:kV S){i j:Nat}{x y:Sl}(hx:S[i]?=some x)(hy:S[j]?=some y)(hij:i<=j):cE y.k x.k=false:=by
 rcases Nat.eq_or_lt_of_le hij with rfl|hlt
 ·rw[hx]at hy;cases hy;exact dI _
 ·exact jI (kJ h hx hy hlt)
structure eV (S:List Sl)(ps:List Nat):Prop where
 j7:kV S
 ne:0<ps.length
 sum:ps.sum=S.length
 pos:(∀ p,p∈ps->1<=p)\/ps=[0]
section
variable {az:Nat}{S:List Sl}{ps:List Nat}{id:Int}
theorem eV.at (h:eV S ps){i p:Nat}(hp:ps[i]?=some p)(hi:i+1<ps.length):∃ x y:Sl,S[(ps.take (i+1)).sum-1]?=some x/\S[(ps.take (i+1)).sum]?=some y/\(ps.take (i+1)).sum=(ps.take i).sum+p/\1<=p/\nJ az (S.drop (ps.take i).sum) p=(if az=0 then lU x.k y.k else y.k)/\cE x.k y.k=true:=by
 have hpos:∀ p,p∈ps->1<=p:=by
  rcases h.pos with h|h
  ·exact h
  ·rw[h]at hi;simp at hi
 obtain⟨q,hq⟩:∃ q,ps[i+1]?=some q:=⟨_,aqt hi⟩;have e1:=gT hp;have e2:=gT hq;have h1:=hpos p (aqs hp);have h2:=hpos q (aqs hq);have h3:=rN ps (i+1+1);have h4:=h.sum;obtain⟨x,hx⟩:∃ x,S[(ps.take (i+1)).sum-1]?=some x:=⟨_,aqt (by omega)⟩
 obtain⟨y,hy⟩:∃ y,S[(ps.take (i+1)).sum]?=some y:=⟨_,aqt (by omega)⟩
 refine⟨x,y,hx,hy,e1,h1,?_,kJ h.j7 hx hy (by omega)⟩
 unfold nJ;rw[List.getElem?_drop,List.getElem?_drop,show(ps.take i).sum+(p-1)=(ps.take (i+1)).sum-1 by omega,← e1,hx,hy]
theorem yF (h:eV S ps){i:Nat}{nd:Nd}(hn:(dO az ⟨#[]⟩ id S ps)[i]?=some nd) :
  (i=0/\nd.low=⟨#[]⟩)\/(∃ x y:Sl,1<=i/\S[(ps.take i).sum-1]?=some x/\S[(ps.take i).sum]?=some y/\1<=(ps.take i).sum/\nd.low=(if az=0 then lU x.k y.k else y.k)/\cE x.k nd.low=true/\cE y.k nd.low=false):=by
 have hlt:i<ps.length:=by rw[← eU az ps ⟨#[]⟩ id S];exact(aqq.1 hn).1
 cases i with
 | zero=>
  left
  obtain⟨lY,e,_,e3,_⟩:=nK az ps ⟨#[]⟩ id S 0 ps[0] (aqt hlt);rw[hn]at e;cases e;exact⟨rfl,e3 rfl⟩
 | succ i=>
  right
  have hp:ps[i]?=some ps[i]:=aqt (by omega)
  obtain⟨x,y,hx,hy,e1,h1,e2,hxy⟩:=h.at (az:=az) hp hlt;obtain⟨lY,_,_,_,_,e5⟩:=nK az ps ⟨#[]⟩ id S i ps[i] hp;have e6:=e5 nd hn;rw[e2]at e6;refine⟨x,y,by omega,hx,hy,by omega,e6,?_⟩
  rw[e6];split
  ·exact⟨(sN hxy).1,(sN hxy).2⟩
  ·exact⟨hxy,dI _⟩
theorem Ry (h:eV S ps){i:Nat}{nd:Nd}(hn:(dO az ⟨#[]⟩ id S ps)[i]?=some nd){j:Nat}{s:Sl}(hj:(ps.take i).sum<=j)(hs:S[j]?=some s):cE s.k nd.low=false:=by
 rcases yF h hn with⟨_,e⟩|⟨x,y,_,_,hy,_,_,_,h2⟩
 ·rw[e];exact jK _
 ·exact pY h2 (yE h.j7 hy hs hj)
theorem gD (h:eV S ps){i:Nat}{nd:Nd}(hn:(dO az ⟨#[]⟩ id S ps)[i]?=some nd):∃ p,ps[i]?=some p/\nd.id=id+i/\nd.pg.az=az/\nd.pg.sl=(S.drop (ps.take i).sum).take p/\(ps.take i).sum+p<=S.length /\
  ((i+1=ps.length/\nd.pg=⟨az,(S.drop (ps.take i).sum).take p,⟨#[]⟩,true,0⟩)\/(i+1<ps.length/\nd.pg=⟨az,(S.drop (ps.take i).sum).take p,nJ az (S.drop (ps.take i).sum) p,false,id+i+1⟩)):=by
 have hlt:i<ps.length:=by rw[← eU az ps ⟨#[]⟩ id S];exact(aqq.1 hn).1
 have hp:ps[i]?=some ps[i]:=aqt hlt;obtain⟨lY,e,e2,_,e4,_⟩:=nK az ps ⟨#[]⟩ id S i ps[i] hp;rw[hn]at e;cases e;have h3:=rN ps (i+1);rw[gT hp,h.sum]at h3;refine⟨ps[i],hp,e2,?_,?_,h3,?_⟩
 ·rw[e4];split <;> rfl
 ·rw[e4];split <;> rfl
 ·by_cases hx:i+1=ps.length
  ·rw[if_pos hx]at e4;exact .inl ⟨hx,e4⟩
  ·rw[if_neg hx]at e4;exact .inr ⟨by omega,e4⟩
theorem Ce (h:eV S ps):gS az (dO az ⟨#[]⟩ id S ps):=by
 refine⟨by rw[eU];exact h.ne,fun nd hn=>?_,fun nd hn=>?_,fun i a b ha hb=>?_,fun i a ha hi=>?_⟩
 ·obtain⟨i,hi⟩:=aqp hn
  obtain⟨p,_,_,e,_⟩:=gD h hi;exact e
 ·rcases yF h hn with⟨_,e⟩|⟨_,_,h0,_⟩
  ·exact e
  ·omega
 ·have hlt:i+1<ps.length:=by rw[← eU az ps ⟨#[]⟩ id S];exact(aqq.1 hb).1
  obtain⟨p,hp,e1,e2,e3,e4,e5⟩:=gD h ha;obtain⟨_,_,e1',_⟩:=gD h hb;obtain⟨x,y,hx,hy,q1,q2,q3,q4⟩:=h.at (az:=az) hp hlt;rcases e5 with⟨e5,_⟩|⟨_,e5⟩
  ·omega
  ·rcases yF h hb with⟨h0,_⟩|⟨x',y',_,hx',hy',_,el,k1,k2⟩
   ·omega
   ·rw[hx]at hx';cases hx'
    rw[hy]at hy';cases hy';rw[e5];refine⟨rfl,by rw[el];exact q3,by rw[e1'];push_cast;show id+i+1=_;omega,?_⟩
    exact jJ (Ry h ha (by omega) hx) k1
 ·rw[eU]at hi
  obtain⟨p,_,_,_,_,_,e5⟩:=gD h ha;rcases e5 with⟨_,e5⟩|⟨e5,_⟩
  ·rw[e5];exact⟨rfl,rfl,rfl⟩
  ·omega
theorem Cf (h:eV S ps){i:Nat}{nd:Nd}(hn:(dO az ⟨#[]⟩ id S ps)[i]?=some nd){s:Sl}(hs:s∈nd.pg.sl):s∈S/\cE s.k nd.low=false/\(nd.pg.la=false->cE s.k nd.pg.hi=true):=by
 obtain⟨p,hp,e1,e2,e3,e4,e5⟩:=gD h hn;rw[e3]at hs;obtain⟨j,hj⟩:=aqp hs;have hjp:j<p:=by
  have:=(aqq.1 hj).1;simp at this;omega
 rw[List.getElem?_take,if_pos hjp,List.getElem?_drop]at hj;refine⟨aqs hj,Ry h hn (by omega) hj,fun lj=>?_⟩
 rcases e5 with⟨_,e5⟩|⟨hlt,e5⟩
 ·rw[e5]at lj;cases lj
 ·obtain⟨x,y,hx,hy,q1,q2,q3,q4⟩:=h.at (az:=az) hp hlt
  rw[e5];show cE s.k (nJ az _ p)=true
  rw[q3];have hsx:=yE h.j7 hj hx (by omega)
  split
  ·exact jJ hsx (sN q4).1
  ·exact jJ hsx q4
theorem Xe (h:eV S ps){i:Nat}{nd:Nd}(hn:(dO az ⟨#[]⟩ id S ps)[i]?=some nd):kV nd.pg.sl:=by
 obtain⟨p,hp,e1,e2,e3,e4,e5⟩:=gD h hn;rw[e3];exact(h.j7.sublist (List.drop_sublist _ _)).sublist (List.take_sublist _ _)
theorem Gr (h:eV S ps)(cg:0<az)(h0:∀ s,S[0]?=some s->s.k=⟨#[]⟩)(hS:S≠[]){i:Nat}{nd:Nd}(hn:(dO az ⟨#[]⟩ id S ps)[i]?=some nd):∃ s r,nd.pg.sl=s::r/\s.k=nd.low:=by
 obtain⟨p,hp,e1,e2,e3,e4,e5⟩:=gD h hn;have hpos:1<=p:=by
  rcases h.pos with hq|hq
  ·exact hq p (aqs hp)
  ·have:=h.sum;rw[hq]at this;simp at this;exact absurd (List.length_eq_zero_iff.1 this.symm) hS
 obtain⟨s,hs⟩:∃ s,S[(ps.take i).sum]?=some s:=⟨_,aqt (by omega)⟩
 have hf:nd.pg.sl[0]?=some s:=by rw[e3,List.getElem?_take,if_pos (by omega),List.getElem?_drop];simpa using hs
 cases hl:nd.pg.sl with
 | nil=>rw[hl]at hf;simp at hf
 | cons s' r=>
  rw[hl]at hf;simp at hf;subst hf;refine⟨s',r,rfl,?_⟩;rcases yF h hn with⟨hi,e⟩|⟨x,y,_,hx,hy,_,el,_⟩
  ·subst hi;rw[e];exact h0 s' (by simpa using hs)
  ·rw[hs]at hy;cases hy
   rw[el,if_neg (by omega)]
end
section
variable {d:aR}
theorem eA.frame {id:Int}(h1:1<=id)(h2:id<=d.no){L L':List aP}{pg:Pg}(h:eA d id L pg)(f1:4<=d.fa)(he:∀ k:Int,1<=k->k<d.fa+4->ah L' (d.node id k)=ah L (d.node id k)):eA d id L' pg:=by
 refine⟨by rw[he 1 (by omega) (by omega)];exact h.n,by rw[he 1 (by omega) (by omega)];exact h.az,by rw[he 2 (by omega) (by omega)];exact h.hi,by rw[he 2 (by omega) (by omega)];exact h.la,by rw[he 3 (by omega) (by omega)];exact h.ri,h.le,fun i s hs=>?_⟩
 have hi:i<pg.sl.length:=(aqq.1 hs).1;have:=h.le;have es:d.slot id i=d.node id (4+(i:Int)):=by
  unfold aR.slot;rw[if_pos ⟨by omega,by omega⟩]
 rw[es,he _ (by omega) (by omega),← es]
 exact h.sl i s hs
theorem Cg {id:Int}{L:List aP}{pg:Pg}(f1:4<=d.fa)(hle:(pg.sl.length:Int)<=d.fa){j:Int}(hj:∀ k:Int,1<=k->k<d.fa+4->j≠d.node id k):ah (eY d id pg L) j=ah L j:=by
 unfold eY;rw[eO _ _ _ _ (fun k a b=>hj _ (by omega) (by omega))]
 unfold nr;rw[bg (hj 3 (by omega) (by omega)),bg (hj 2 (by omega) (by omega)),bg (hj 1 (by omega) (by omega))]
theorem cJ (hd:d.Ok){id id' k k':Int}(h1:1<=id)(h2:id<=d.no)(h1':1<=id')(h2':id' <= d.no)(hk:0<=k)(hk2:k<d.fa+4)(hk':0<=k')(aaJ:k' < d.fa+4)(h:id≠id'):d.node id k≠d.node id' k' := by
 have a:=(bU hd h1 h2 hk hk2).1;have b:=(bU hd h1' h2' hk' aaJ).1;have f1:=hd.fw;intro e;rw[a,b]at e;rcases Int.lt_or_gt_of_ne h with hlt|hlt
 ·have:=Int.mul_le_mul_of_nonneg_right (show id-1+1<=id' - 1 by omega) (show 0<=d.fa+4 by omega)
  rw[Int.add_mul]at this;omega
 ·have:=Int.mul_le_mul_of_nonneg_right (show id' - 1+1<=id-1 by omega) (show 0<=d.fa+4 by omega)
  rw[Int.add_mul]at this;omega
def bS (d:aR)(L:List aP)(row:List Nd):List aP:=row.foldl (fun L nd=>eY d nd.id nd.pg L) L
theorem vG (L:List aP)(row:List Nd)(nd:Nd):bS d L (row++[nd])=eY d nd.id nd.pg (bS d L row):=by simp[bS]
structure o5 (d:aR)(row:List Nd):Prop where
 id:∀ nd,nd∈row->1<=nd.id/\nd.id<=d.no
 le:∀ nd,nd∈row->(nd.pg.sl.length:Int)<=d.fa
 az:∀ nd,nd∈row->0<=nd.pg.az/\nd.pg.az<1000000
 ri:∀ nd,nd∈row->0<=nd.pg.ri/\nd.pg.ri<18446744073709551616
 rf:∀ nd,nd∈row->∀ s,s∈nd.pg.sl->0<=s.r/\s.r<18446744073709551616
 ne:row.Pairwise fun a b=>a.id≠b.id
theorem ju (row:List Nd):∀ L:List aP,(bS d L row).length=L.length:=by
 induction row with
 | nil=>intro L;rfl
 | cons nd row ih=>intro L;show(bS d _ row).length=_;rw[ih,lV]
theorem oD {row:List Nd}(hd:d.Ok):∀ {L:List aP},o5 d row->bI L->bI (bS d L row):=by
 induction row with
 | nil=>intro L _ h;exact h
 | cons nd row ih=>
  intro L hr h;refine ih ⟨fun a ha=>hr.id a (by simp[ha]),fun a ha=>hr.le a (by simp[ha]),fun a ha=>hr.az a (by simp[ha]),fun a ha=>hr.ri a (by simp[ha]),fun a ha=>hr.rf a (by simp[ha]),(List.pairwise_cons.1 hr.ne).2⟩ ?_
  have:=hr.le nd (by simp);have:=hd.mV
  exact Rb h (by omega) (hr.ri nd (by simp)) (hr.rf nd (by simp))
theorem ed {row:List Nd}(f1:4<=d.fa):∀ {L:List aP},(∀ nd,nd∈row->(nd.pg.sl.length:Int)<=d.fa)->∀ {j:Int},(∀ nd,nd∈row->∀ k:Int,1<=k->k<d.fa+4->j≠d.node nd.id k)->ah (bS d L row) j=ah L j:=by
 induction row with
 | nil=>intro L _ j _;rfl
 | cons nd row ih=>
  intro L hr j hj;show ah (bS d _ row) j=_
  rw[ih (fun a ha=>hr a (by simp[ha])) (fun a ha=>hj a (by simp[ha])),Cg f1 (hr nd (by simp)) (hj nd (by simp))]
theorem rO {row:List Nd}(hd:d.Ok):∀ {L:List aP},(L.length:Int)=d.cells->o5 d row->∀ nd,nd∈row->eA d nd.id (bS d L row) nd.pg:=by
 induction row with
 | nil=>intro L _ _ nd h;cases h
 | cons a row ih=>
  intro L hlen hr nd hn;have hr':o5 d row:=⟨fun a ha=>hr.id a (by simp[ha]),fun a ha=>hr.le a (by simp[ha]),fun a ha=>hr.az a (by simp[ha]),fun a ha=>hr.ri a (by simp[ha]),fun a ha=>hr.rf a (by simp[ha]),(List.pairwise_cons.1 hr.ne).2⟩
  have lj:((eY d a.id a.pg L).length:Int)=d.cells:=by rw[lV];exact hlen
  rcases List.mem_cons.1 hn with rfl|hn'
  ·have hp:=Qv hd (hr.id nd (by simp)).1 (hr.id nd (by simp)).2 hlen (hr.az nd (by simp)) (hr.le nd (by simp))
   refine hp.frame (hr.id nd (by simp)).1 (hr.id nd (by simp)).2 hd.fw (fun k k1 k2=>?_)
   refine ed hd.fw (fun b hb=>hr'.le b hb) (fun b hb k' a1 a2=>?_)
   exact cJ hd (hr.id nd (by simp)).1 (hr.id nd (by simp)).2 (hr'.id b hb).1 (hr'.id b hb).2 (by omega) k2 (by omega) a2 ((List.pairwise_cons.1 hr.ne).1 b hb)
  ·exact ih lj hr' nd hn'
end
def ee:Nat->List ByteArray->List Sl
 | _,[]=>[]
 | i,k::ks=>⟨k,((i+1:Nat):Int)⟩::ee (i+1) ks
theorem jD:∀ (ks:List ByteArray)(i:Nat),(ee i ks).length=ks.length
 | [],_=>rfl
 | k::ks,i=>by simp[ee,jD ks]
theorem uB:∀ (ks:List ByteArray)(i:Nat)(k:ByteArray),ee i (ks++[k])=ee i ks++[⟨k,((i+ks.length+1:Nat):Int)⟩]
 | [],i,k=>rfl
 | a::ks,i,k=>by
  show _::ee (i+1) (ks++[k])=_
  rw[uB ks (i+1) k];simp only[ee,List.cons_append,List.length_cons];congr 4
  omega
theorem lu:∀ {ks:List ByteArray}{i:Nat}{s:Sl},s∈ee i ks->s.k∈ks/\1<=s.r/\s.r<=((i+ks.length:Nat):Int)
 | [],_,_,h=>by cases h
 | k::ks,i,s,h=>by
  rcases List.mem_cons.1 h with rfl|h
  ·exact⟨by simp,by show(1:Int)<=((i+1:Nat):Int);omega,by show((i+1:Nat):Int)<=_;simp only[List.length_cons];omega⟩
  ·have:=lu h
   exact⟨by simp[this.1],this.2.1,by have:=this.2.2;simp only[List.length_cons];omega⟩
theorem wX:∀ {ks:List ByteArray}(i:Nat),sk ks->kV (ee i ks)
 | [],_,_=>List.Pairwise.nil
 | k::ks,i,h=>by
  have h' := List.pairwise_cons.1 h;exact List.pairwise_cons.2 ⟨fun s hs=>h'.1 _ (lu hs).1,wX (i+1) h'.2⟩
def jV (nd:Nd):Sl:=⟨nd.low,nd.id⟩
structure gX (row:List Nd)(i:Nat)(A:List Sl)(dV:Bool):Prop where
 mem:∀ s,s∈A->∃ nd,nd∈row.take i/\s=jV nd
 j7:kV A
 len:A.length<=i
 first:0<i->∃ s,A[0]?=some s/\s.k=⟨#[]⟩
 full:dV=false->A=(row.take i).map jV
theorem gS.qX {az:Nat}{row:List Nd}(h:gS az row):∀ (j i:Nat)(a b:Nd),row[i]?=some a->row[j]?=some b->i<j->cE a.low b.low=true
 | 0,_,_,_,_,_,hij=>by omega
 | j+1,i,a,b,ha,hb,hij=>by
  obtain⟨c,hc⟩:∃ c,row[j]?=some c:=⟨_,aqt (by have:=(aqq.1 hb).1;omega)⟩
  have h1:=(h.next j c b hc hb).2.2.2;rcases Nat.eq_or_lt_of_le (show i<=j by omega)with rfl|hlt
  ·rw[ha]at hc;cases hc;exact h1
  ·exact gz (gS.qX h j i a c ha hc hlt) h1
theorem gX.start (row:List Nd)(dV:Bool):gX row 0 [] dV:=⟨fun s h=>(by cases h),List.Pairwise.nil,Nat.le_refl _,fun h=>by omega,fun _=>rfl⟩
theorem gX.skip {row:List Nd}{i:Nat}{A:List Sl}{dV:Bool}(h:gX row i A dV)(hi:0<i)(hh:dV=true):gX row (i+1) A dV:=by
 refine⟨fun s hs=>?_,h.j7,by have:=h.len;omega,fun _=>h.first hi,fun e=>by rw[hh]at e;cases e⟩
 obtain⟨nd,hn,e⟩:=h.mem s hs;refine⟨nd,?_,e⟩;obtain⟨j,hj⟩:=aqp hn;have hji:j<i:=by
  have:=(aqq.1 hj).1;simp at this;omega
 rw[List.getElem?_take,if_pos hji]at hj;exact aqs (i:=j) (by rw[List.getElem?_take,if_pos (by omega)];exact hj)
theorem gX.push {az:Nat}{row:List Nd}{i:Nat}{A:List Sl}{dV:Bool}(h:gX row i A dV)(hr:gS az row){nd:Nd}(hn:row[i]?=some nd):gX row (i+1) (A++[jV nd]) dV:=by
 have et:row.take (i+1)=row.take i++[nd]:=by rw[List.take_add_one,hn];rfl
 refine⟨fun s hs=>?_,?_,by have:=h.len;simp;omega,fun _=>?_,fun e=>?_⟩
 ·rcases List.mem_append.1 hs with hs|hs
  ·obtain⟨a,ha,e⟩:=h.mem s hs
   exact⟨a,by rw[et];simp[ha],e⟩
  ·simp at hs;exact⟨nd,by rw[et];simp,hs⟩
 ·refine List.pairwise_append.2 ⟨h.j7,List.pairwise_singleton _ _,fun x hx y hy=>?_⟩
  simp at hy;subst hy;obtain⟨a,ha,rfl⟩:=h.mem x hx;obtain⟨j,hj⟩:=aqp ha;have hji:j<i:=by
   have:=(aqq.1 hj).1;simp at this;omega
  rw[List.getElem?_take,if_pos hji]at hj;exact hr.qX i j a nd hj hn hji
 ·rcases Nat.eq_zero_or_pos i with h0|h0
  ·subst h0
   have:A=[]:=List.length_eq_zero_iff.1 (by have:=h.len;omega)
   subst this;exact⟨jV nd,rfl,hr.first nd hn⟩
  ·obtain⟨s,hs,e⟩:=h.first h0
   exact⟨s,by rw[List.getElem?_append_left (aqq.1 hs).1];exact hs,e⟩
 ·rw[et,List.map_append,h.full e];rfl
theorem uC (az:Nat):∀ (ps:List Nat)(low:ByteArray)(id:Int)(l:List Sl),ps.sum=l.length->0<ps.length->(dO az low id l ps).flatMap (fun nd=>nd.pg.sl)=l
 | [],_,_,_,_,h=>by simp at h
 | [p],_,_,l,h,_=>by
  have h':p=l.length:=by simpa using h
  simp[dO,h']
 | p::q::ps,low,id,l,h,_=>by
  show l.take p++(dO az _ _ (l.drop p) (q::ps)).flatMap _=l
  have hs:p+(q::ps).sum=l.length:=by simpa using h
  rw[uC az (q::ps) _ _ (l.drop p) (by rw[List.length_drop];omega) (by simp),List.take_append_drop]
def fbF:Nat->Nat->Nat
 | 0,_=>0
 | f+1,m=>if m<=2 then 1 else(m+1) / 2+fbF f ((m+1) / 2)
def fb (m:Nat):Nat:=fbF 10 m
theorem Jw:∀ m,m<=40->∀ s,s<=m->fb s<=fb m:=by decide +kernel
theorem Jy:∀ m,m<=40->3<=m->(m+1) / 2+fb ((m+1) / 2)<=fb m:=by decide +kernel
theorem Gs:∀ m,m<=40->1<=fb m:=by decide +kernel
theorem Holds.frame {d:aR}(hd:d.Ok){id:Int}(h1:1<=id)(h2:id<=d.no){L L':List aP}{pg:Pg}(hle:(pg.sl.length:Int)<=d.fa)(h:Holds L (bN d id pg))(he:∀ k:Int,1<=k->k<d.fa+4->ah L' (d.node id k)=ah L (d.node id k)):Holds L' (bN d id pg):=fun q hq=>by
 obtain⟨k,k1,k2,e⟩:=fH hd h1 h2 hle q hq;rw[← h q hq,e];exact he k k1 k2
theorem gS.wY {az:Nat}{row:List Nd}(h:gS az row){nd:Nd}(hn:nd∈row)(lj:nd.pg.la=true):nd.pg.hi=⟨#[]⟩/\nd.pg.ri=0:=by
 obtain⟨i,hi⟩:=aqp hn;have hil:=(aqq.1 hi).1;rcases Nat.lt_or_ge (i+1) row.length with hlt|hge
 ·have:=(h.next i nd _ hi (aqt hlt)).1
  rw[lj]at this;cases this
 ·exact(h.last i nd hi (by omega)).2
theorem nL {d:aR}{row:List Nd}(hd:d.Ok):∀ {L:List aP},(L.length:Int)=d.cells->o5 d row->(∀ nd,nd∈row->nd.pg.la=true->nd.pg.hi=⟨#[]⟩)->∀ nd,nd∈row->Holds (bS d L row) (bN d nd.id nd.pg):=by
 induction row with
 | nil=>intro L _ _ _ nd h;cases h
 | cons a row ih=>
  intro L hlen hr lj nd hn;have hr':o5 d row:=⟨fun a ha=>hr.id a (by simp[ha]),fun a ha=>hr.le a (by simp[ha]),fun a ha=>hr.az a (by simp[ha]),fun a ha=>hr.ri a (by simp[ha]),fun a ha=>hr.rf a (by simp[ha]),(List.pairwise_cons.1 hr.ne).2⟩
  have hln:((eY d a.id a.pg L).length:Int)=d.cells:=by rw[lV];exact hlen
  rcases List.mem_cons.1 hn with rfl|hn'
  ·have hp:=Bl hd (hr.id nd (by simp)).1 (hr.id nd (by simp)).2 hlen (hr.le nd (by simp)) (lj nd (by simp))
   refine hp.frame hd (hr.id nd (by simp)).1 (hr.id nd (by simp)).2 (hr.le nd (by simp)) (fun k k1 k2=>?_)
   refine ed hd.fw (fun b hb=>hr'.le b hb) (fun b hb k' a1 a2=>?_)
   exact cJ hd (hr.id nd (by simp)).1 (hr.id nd (by simp)).2 (hr'.id b hb).1 (hr'.id b hb).2 (by omega) k2 (by omega) a2 ((List.pairwise_cons.1 hr.ne).1 b hb)
  ·exact ih hln hr' (fun b hb=>lj b (by simp[hb])) nd hn'
def mC (d:aR)(j:Int):Prop:=(1<=j/\j<d.A/\j≠4/\j≠5)\/d.B<=j
theorem mC.node {d:aR}(hd:d.Ok){j:Int}(h:mC d j){id k:Int}(h1:1<=id)(h2:id<=d.no)(hk:0<=k)(hk2:k<d.fa+4):j≠d.node id k:=by
 have h0:=bU hd h1 h2 hk hk2;have hA:=hd.eb;have f1:=hd.fw;have m1:(id-1)*(d.fa+4)+(d.fa+4)=id*(d.fa+4):=by rw[Int.sub_mul];omega
 have m2:id*(d.fa+4)<=d.no*(d.fa+4):=Int.mul_le_mul_of_nonneg_right h2 (by omega)
 have m3:0<=(id-1)*(d.fa+4):=Int.mul_nonneg (by omega) (by omega)
 have eB:d.B=d.A+d.no*(d.fa+4):=rfl;rcases h with h|h <;> omega
structure Od (d:aR)(ks:List ByteArray)(dV:Bool)(L:List aP)(S:List Sl)(t:List (List Nd))(nx:Nat):Prop where
 eW:(L.length:Int)=d.cells
 iR:bI L
 lat:∀ id:Int,1<=id->id<=d.no->ah L (d.node id 0)=aP.zero
 zero:∀ j:Int,mC d j->ah L j=aP.zero
 n5:ah L 5=⟨ks.length,⟨#[]⟩,0⟩
 rows:∀ (k:Nat) (l:List Nd),t[k]?=some l->gS k l
 nodes:∀ (k:Nat) (l:List Nd),t[k]?=some l->∀ nd,nd∈l->sq d L nd/\nd.id<nx
 down:∀ (k:Nat) (l l':List Nd),t[k]?=some l->t[k+1]?=some l' -> (∀ nd,nd∈l' -> (∃ s r,nd.pg.sl=s::r/\s.k=nd.low)/\∀ s,s∈nd.pg.sl->∃ c,c∈l/\c.id=s.r/\c.low=s.k)/\(dV=false->l'.flatMap (fun nd=>nd.pg.sl)=l.map jV)
 count:(t.map List.length).sum+1=nx
 leaves:∀ l,t[0]?=some l->l.flatMap (fun nd=>nd.pg.sl)=ee 0 ks
 j7:kV S
 rf:∀ s,s∈S->1<=s.r/\s.r<=1000000
 s0:t=[]->S=ee 0 ks
 s1:t≠[]->S≠[]/\(∀ s,S[0]?=some s->s.k=⟨#[]⟩)/\∃ l,t[t.length-1]?=some l/\(∀ s,s∈S->∃ c,c∈l/\c.id=s.r/\c.low=s.k)/\(dV=false->S=l.map jV)
 szS:∀ s,s∈S->s.k.size<=32
 szL:∀ (k:Nat) (l:List Nd),t[k]?=some l->∀ nd,nd∈l->nd.low.size<=32
 half:∀ (k:Nat) (l l':List Nd),t[k]?=some l->t[k+1]?=some l' -> 2*l'.length<=l.length+1
 aiZ:∀ (k:Nat) (l:List Nd),k+1=t.length->t[k]?=some l->S.length<=l.length
 r0:t=[]->S.length<=36\/36<ks.length
 r1:∀ l,t[0]?=some l->l.length<=36\/36<ks.length
 id1:∀ l,t[0]?=some l->∀ nd,l[0]?=some nd->nd.id=1
section
variable {d:aR}{ks:List ByteArray}{dV:Bool}{L:List aP}{S:List Sl}{t:List (List Nd)}{nx:Nat}
theorem Gt (a b:ByteArray):∀ (f n:Nat),(eN a b f n).size<=b.size:=by
 intro f;induction f with
 | zero=>intro n;exact Nat.zero_le _
 | succ f ih=>
  intro n;unfold eN;split
  ·rw[ByteArray.size_extract];omega
  ·exact ih _
theorem Rz:∀ (i:Nat)(ks:List ByteArray),(∀ x,x∈ks->x.size<=32)->∀ s,s∈ee i ks->s.k.size<=32:=fun i ks h s hs=>h _ (lu hs).1
theorem Xf (az:Nat)(l:List Sl)(p:Nat)(h:∀ s,s∈l->s.k.size<=32):(nJ az l p).size<=32:=by
 unfold nJ;split
 ·rename_i a b h1 h2
  split
  ·exact Nat.le_trans (Gt _ _ _ _) (h b (aqs h2))
  ·exact h b (aqs h2)
 ·rename_i b h2 _
  exact h b (aqs h2)
 ·exact Nat.zero_le _
theorem Ch (az:Nat):∀ (ps:List Nat)(low:ByteArray)(id:Int)(l:List Sl),low.size<=32->(∀ s,s∈l->s.k.size<=32)->∀ nd,nd∈dO az low id l ps->nd.low.size<=32
 | [],_,_,_,_,_,nd,hn=>by cases hn
 | [p],low,id,l,h1,_,nd,hn=>by
  obtain rfl:nd=_:=List.mem_singleton.1 hn;exact h1
 | p::q::ps,low,id,l,h1,h2,nd,hn=>by
  rcases List.mem_cons.1 (show nd∈(⟨id,low,⟨az,l.take p,nJ az l p,false,id+1⟩⟩:Nd)::dO az (nJ az l p) (id+1) (l.drop p) (q::ps)from hn)with rfl|hn
  ·exact h1
  ·exact Ch az (q::ps) _ _ _ (Xf az l p h2) (fun s hs=>h2 s (List.mem_of_mem_drop hs)) nd hn
theorem Od.start (hd:d.Ok)(hsz:∀ x,x∈ks->x.size<=32)(hk:sk ks)(hlen:ks.length<=40)(hL:bI L)(hcl:(L.length:Int)=d.cells)(qh:∀ id:Int,1<=id->id<=d.no->ah L (d.node id 0)=aP.zero)(hzero:∀ j:Int,mC d j->ah L j=aP.zero)(Za:ah L 5=⟨ks.length,⟨#[]⟩,0⟩):Od d ks dV L (ee 0 ks) [] 1:=
 ⟨hcl,hL,qh,hzero,Za,fun k l h=>by simp at h,fun k l h=>by simp at h,fun k l l' h=>by simp at h,rfl,fun l h=>by simp at h,wX 0 hk,fun s hs=>by have:=(lu hs).2;omega,fun _=>rfl,fun h=>absurd rfl h,Rz 0 ks hsz,fun k l h=>by simp at h,fun k l l' h=>by simp at h,fun k l h=>by simp at h,fun _=>by rw[jD];omega,fun l h=>by simp at h,fun l h=>by simp at h⟩
theorem Sa (h:Od d ks dV L S t nx){least fa:Nat}{ps:List Nat}(hl:1<=least)(hg:sW S.length least fa ps):eV S (if ps.length=0 then [0]else ps):=by
 split
 ·rename_i h0
  have hp:ps=[]:=List.length_eq_zero_iff.1 h0;have:=hg.sum;rw[hp]at this;exact⟨h.j7,by simp,by simpa using this,.inr rfl⟩
 ·rename_i h0
  exact⟨h.j7,by omega,hg.sum,.inl (fun p hp=>(hg.bd p hp).1)⟩
theorem Xg (hd:d.Ok)(h:Od d ks dV L S t nx){ps:List Nat}(hp:eV S ps)(sP:∀ p,p∈ps->(p:Int)<=d.fa)(zb:1<=nx)(hno:((nx+ps.length:Nat):Int)<=d.no+1)(cg:t.length<=1000) :
  o5 d (dO t.length ⟨#[]⟩ nx S ps):=by
 have iY:=hd.mM;have at' : ∀ nd,nd∈dO t.length ⟨#[]⟩ nx S ps->∃ (i p:Nat),(dO t.length ⟨#[]⟩ nx S ps)[i]?=some nd/\ps[i]?=some p/\i<ps.length/\nd.id=nx+i/\nd.pg.az=t.length/\nd.pg.sl=(S.drop (ps.take i).sum).take p/\((i+1=ps.length/\nd.pg.ri=0)\/(i+1<ps.length/\nd.pg.ri=nx+i+1)):=by
  intro nd hn;obtain⟨i,hi⟩:=aqp hn;obtain⟨p,q1,q2,q3,q4,q5,q6⟩:=gD hp hi;refine⟨i,p,hi,q1,(aqq.1 q1).1,q2,q3,q4,?_⟩;rcases q6 with⟨a,b⟩|⟨a,b⟩
  ·rw[b];exact .inl ⟨a,rfl⟩
  ·rw[b];exact .inr ⟨a,rfl⟩
 refine⟨fun nd hn=>?_,fun nd hn=>?_,fun nd hn=>?_,fun nd hn=>?_,fun nd hn s hs=>?_,?_⟩
 ·obtain⟨i,p,_,_,hi,e,_⟩:=at' nd hn
  rw[e];omega
 ·obtain⟨i,p,_,hpi,hi,_,_,e,_⟩:=at' nd hn
  rw[e];have:=sP p (aqs hpi);have h2:((S.drop (ps.take i).sum).take p).length<=p:=List.length_take_le _ _;omega
 ·obtain⟨i,p,_,_,hi,_,e,_⟩:=at' nd hn
  rw[e];omega
 ·obtain⟨i,p,_,_,hi,_,_,_,e⟩:=at' nd hn
  rcases e with⟨_,e⟩|⟨_,e⟩ <;> rw[e] <;> omega
 ·obtain⟨i,hi⟩:=aqp hn
  have:=h.rf s (Cf hp hi hs).1;omega
 ·rw[List.pairwise_iff_getElem]
  intro i j hi hj hij;obtain⟨_,_,e1,_⟩:=gD hp (aqt hi);obtain⟨_,_,e2,_⟩:=gD hp (aqt hj);rw[e1,e2];omega
theorem sq.frame (hd:d.Ok){L':List aP}{nd:Nd}(h:sq d L nd)(he:∀ k:Int,0<=k->k<d.fa+4->ah L' (d.node nd.id k)=ah L (d.node nd.id k)):sq d L' nd:=
 ⟨h.id,h.page.frame h.id.1 h.id.2 hd.fw (fun k a b=>he k (by omega) b),h.hold.frame hd h.id.1 h.id.2 h.page.le (fun k a b=>he k (by omega) b),by rw[he 0 (by omega) (by have:=hd.fw;omega)];exact h.free,h.j7,h.rf,h.bd⟩
theorem getElem?_push {α:Type}(l:List α)(a:α)(k:Nat)(x:α)(h:(l++[a])[k]?=some x):l[k]?=some x\/(k=l.length/\x=a):=by
 rcases Nat.lt_or_ge k l.length with hk|hk
 ·left;rwa [List.getElem?_append_left hk]at h
 ·right
  rw[List.getElem?_append_right hk]at h;have:k-l.length=0:=by
   have:=(aqq.1 h).1;simp at this;omega
  rw[this]at h;exact⟨by omega,by simpa using h.symm⟩
theorem Od.step (hd:d.Ok)(h:Od d ks dV L S t nx){ps:List Nat}{A:List Sl}(hp:eV S ps)(sP:∀ p,p∈ps->(p:Int)<=d.fa)(zb:1<=nx)(hno:((nx+ps.length:Nat):Int)<=d.no+1)(cg:t.length<=1000)
  (hA:gX (dO t.length ⟨#[]⟩ nx S ps) ps.length A dV) (hh:t≠[]->2*ps.length<=S.length+1):Od d ks dV (bS d L (dO t.length ⟨#[]⟩ nx S ps)) A (t++[dO t.length ⟨#[]⟩ nx S ps]) (nx+ps.length):=by
 have fJ:=Xg hd h hp sP zb hno cg;have hrow:=Ce (az:=t.length) (id:=(nx:Int)) hp;have hrl:=eU t.length ps ⟨#[]⟩ (nx:Int) S;have Zb:=uC t.length ps ⟨#[]⟩ (nx:Int) S hp.sum hp.ne;have Wc:=hd.fw;have hat:=rO hd h.eW fJ;have qY:t≠[]->∀ nd,nd∈dO t.length ⟨#[]⟩ nx S ps->∃ s r,nd.pg.sl=s::r/\s.k=nd.low:=fun ht nd hn=>by
  obtain⟨i,hi⟩:=aqp hn;obtain⟨q1,q2,_⟩:=h.s1 ht;exact Gr hp (by rcases t with _|_;exact absurd rfl ht;simp) q2 q1 hi
 have hidge:∀ nd,nd∈dO t.length ⟨#[]⟩ nx S ps->(nx:Int)<=nd.id/\nd.id<((nx+ps.length:Nat):Int):=fun nd hn=>by
  obtain⟨i,hi⟩:=aqp hn;obtain⟨p,q1,q2,_⟩:=gD hp hi;have:=(aqq.1 q1).1;rw[q2];omega
 have hslots:∀ nd,nd∈dO t.length ⟨#[]⟩ nx S ps->∀ s,s∈nd.pg.sl->s∈S/\cE s.k nd.low=false/\(nd.pg.la=false->cE s.k nd.pg.hi=true):=fun nd hn s hs=>by
  obtain⟨i,hi⟩:=aqp hn;exact Cf hp hi hs
 have dF:∀ nd,nd∈dO t.length ⟨#[]⟩ nx S ps->kV nd.pg.sl:=fun nd hn=>by
  obtain⟨i,hi⟩:=aqp hn;exact Xe hp hi
 have Rn:∀ nd,(dO t.length ⟨#[]⟩ nx S ps)[0]?=some nd->nd.id=(nx:Int):=fun nd h=>by
  obtain⟨p,_,q2,_⟩:=gD hp h;rw[q2];simp
 have ad4:=Ch t.length ps ⟨#[]⟩ (nx:Int) S (Nat.zero_le _) h.szS;generalize dO t.length ⟨#[]⟩ nx S ps=row at *;have jk:∀ id:Int,1<=id->id<=d.no->id<nx->∀ k:Int,0<=k->k<d.fa+4->ah (bS d L row) (d.node id k)=ah L (d.node id k):=by
  intro id i1 i2 i3 k k0 k1;refine ed Wc fJ.le (fun nd hn k' a b=>?_)
  have:=hidge nd hn;exact cJ hd i1 i2 (fJ.id nd hn).1 (fJ.id nd hn).2 k0 k1 (by omega) b (by omega)
 have qh:∀ id:Int,1<=id->id<=d.no->ah (bS d L row) (d.node id 0)=aP.zero:=by
  intro id i1 i2;rw[ed Wc fJ.le (fun nd hn k' a b=>?_)]
  ·exact h.lat id i1 i2
  ·by_cases e:id=nd.id
   ·subst e;exact dw hd i1 i2 (by omega) (by omega) (by omega) b (by omega)
   ·exact cJ hd i1 i2 (fJ.id nd hn).1 (fJ.id nd hn).2 (by omega) (by omega) (by omega) b e
 have hnew:∀ nd,nd∈row->sq d (bS d L row) nd:=fun nd hn=>
  ⟨fJ.id nd hn,hat nd hn,nL hd h.eW fJ (fun b hb hl=>(hrow.wY hb hl).1) nd hn,by rw[qh nd.id (fJ.id nd hn).1 (fJ.id nd hn).2];exact kj.zero,dF nd hn,fun s hs=>(h.rf s (hslots nd hn s hs).1).1,fun s hs=>(hslots nd hn s hs).2⟩
 have Sb:∀ s,s∈A->∃ nd,nd∈row/\s=jV nd:=fun s hs=>by
  obtain⟨nd,hn,e⟩:=hA.mem s hs;exact⟨nd,List.mem_of_mem_take hn,e⟩
 have hzero:∀ j:Int,mC d j->ah (bS d L row) j=aP.zero:=fun j hj=>by
  rw[ed Wc fJ.le (fun nd hn k' a b=>hj.node hd (fJ.id nd hn).1 (fJ.id nd hn).2 (by omega) b)]
  exact h.zero j hj
 have Za:ah (bS d L row) 5=⟨ks.length,⟨#[]⟩,0⟩:=by
  rw[ed Wc fJ.le (fun nd hn k' a b=>?_)]
  ·exact h.n5
  ·have hA:=hd.eb
   have h0:=(bU hd (fJ.id nd hn).1 (fJ.id nd hn).2 (k:=k') (by omega) b).1
   have m3:0<=(nd.id-1)*(d.fa+4):=Int.mul_nonneg (by have:=(fJ.id nd hn).1;omega) (by omega)
   omega
 refine⟨by rw[ju];exact h.eW,oD hd fJ h.iR,qh,hzero,Za,fun k l hk=>?_,fun k l hk nd hn=>?_,fun k l l' hk hk' =>?_,?_,fun l hl=>?_,hA.j7,fun s hs=>?_,fun e=>by simp at e,fun _=>⟨?_,fun s hs=>?_,row,by simp,fun s hs=>?_,fun e=>?_⟩,fun s hs=>?_,fun k l hk nd hn=>?_,fun k l l' hk hk' =>?_,fun k l qQ hk=>?_,fun e=>by simp at e,fun l hl=>?_,fun l hl nd hnd=>?_⟩
 ·rcases getElem?_push _ _ _ _ hk with hk|⟨rfl,rfl⟩
  ·exact h.rows k l hk
  ·exact hrow
 ·rcases getElem?_push _ _ _ _ hk with hk|⟨rfl,rfl⟩
  ·obtain⟨q1,q2⟩:=h.nodes k l hk nd hn
   exact⟨q1.frame hd (fun k a b=>jk nd.id q1.id.1 q1.id.2 q2 k a b),by push_cast;omega⟩
  ·exact⟨hnew nd hn,(hidge nd hn).2⟩
 ·rcases getElem?_push _ _ _ _ hk with hk1|⟨rfl,rfl⟩
  ·rcases getElem?_push _ _ _ _ hk' with hk2|⟨e,rfl⟩
   ·exact h.down k l l' hk1 hk2
   ·have ht:t≠[]:=fun e2=>by subst e2;simp at hk1
    obtain⟨q1,q2,l2,q3,q4,q5⟩:=h.s1 ht;rw[show t.length-1=k by omega,hk1]at q3
    cases q3;refine⟨fun nd hn=>⟨qY ht nd hn,fun s hs=>q4 s (hslots nd hn s hs).1⟩,fun e=>by rw[Zb];exact q5 e⟩
  ·have:=(aqq.1 hk').1
   simp at this
 ·rw[List.map_append,List.sum_append]
  have:=h.count;simp only[List.map_cons,List.map_nil,List.sum_cons,List.sum_nil,hrl];omega
 ·rcases getElem?_push _ _ _ _ hl with hl|⟨e,rfl⟩
  ·exact h.leaves l hl
  ·rw[Zb]
   exact h.s0 (List.length_eq_zero_iff.1 e.symm)
 ·obtain⟨nd,hn,rfl⟩:=Sb s hs
  have:=fJ.id nd hn;have iY:=hd.mM;show 1<=nd.id/\nd.id<=1000000
  omega
 ·obtain⟨s,hs,_⟩:=hA.first hp.ne
  intro e;rw[e]at hs;simp at hs
 ·obtain⟨s',hs',e⟩:=hA.first hp.ne
  rw[hs]at hs';cases hs';exact e
 ·obtain⟨nd,hn,rfl⟩:=Sb s hs
  exact⟨nd,hn,rfl,rfl⟩
 ·rw[hA.full e,← hrl,List.take_length]
 ·obtain⟨nd,hn,rfl⟩:=Sb s hs
  exact ad4 nd hn
 ·rcases getElem?_push _ _ _ _ hk with hk|⟨rfl,rfl⟩
  ·exact h.szL k l hk nd hn
  ·exact ad4 nd hn
 ·rcases getElem?_push _ _ _ _ hk with hk1|⟨rfl,rfl⟩
  ·rcases getElem?_push _ _ _ _ hk' with hk2|⟨e,rfl⟩
   ·exact h.half k l l' hk1 hk2
   ·have h1:=h.aiZ k l e hk1
    have h2:=hh (fun e=>by subst e;simp at hk1)
    omega
  ·have:=(aqq.1 hk').1
   simp at this
 ·have qQ:k=t.length:=by simpa using qQ
  rw[qQ,List.getElem?_append_right (Nat.le_refl _),Nat.sub_self]at hk;obtain rfl:row=l:=by simpa using hk
  rw[hrl];exact hA.len
 ·rcases getElem?_push _ _ _ _ hl with hl|⟨e,rfl⟩
  ·exact h.r1 l hl
  ·have ht:t=[]:=List.length_eq_zero_iff.1 e.symm
   have h1:=h.r0 ht;have h2:ps.length<=S.length\/ps.length<=1:=by
    rcases hp.pos with hq|hq
    ·have:=qW hq;rw[hp.sum]at this;exact .inl this
    ·rw[hq];exact .inr (Nat.le_refl _)
   rw[hrl];omega
 ·rcases getElem?_push _ _ _ _ hl with hl|⟨e,rfl⟩
  ·exact h.id1 l hl nd hnd
  ·have ht:t=[]:=List.length_eq_zero_iff.1 e.symm
   have h1:=h.count;rw[ht]at h1;simp at h1;rw[Rn nd hnd];omega
structure oF (d:aR)(ks:List ByteArray)(dV:Bool)(L:List aP)(t:List (List Nd)):Prop where
 ok:cA d L t
 iR:bI L
 eW:(L.length:Int)=d.cells
 leaves:∀ l,t[0]?=some l->l.flatMap (fun nd=>nd.pg.sl)=ee 0 ks
 full:dV=false->∀ (k:Nat) (l l':List Nd),t[k]?=some l->t[k+1]?=some l' -> l'.flatMap (fun nd=>nd.pg.sl)=l.map jV
 lat:∀ id:Int,1<=id->id<=d.no->ah L (d.node id 0)=aP.zero
 zero:∀ j:Int,mC d j->ah L j=aP.zero
 n5:(ah L 5).n=ks.length
 ad5:(t.map List.length).sum<=100
 low:∀ (k:Nat) (l:List Nd),t[k]?=some l->∀ nd,nd∈l->nd.low.size<=32
 half:∀ (k:Nat) (l l':List Nd),t[k]?=some l->t[k+1]?=some l' -> 2*l'.length<=l.length+1
 r36:∀ l,t[0]?=some l->l.length<=36\/36<ks.length
 id1:∀ l,t[0]?=some l->∀ nd,l[0]?=some nd->nd.id=1
 ai0:∀ l,t[t.length-1]?=some l->l.length=1
 abg:(ah L 4).n<=100
theorem Od.last (hd:d.Ok)(h:Od d ks dV L S t nx){nd:Nd}(ht:t[t.length-1]?=some [nd])(hid:nd.id=(nx:Int)-1)(zb:nx<=101){L':List aP}(h0:(ah L' 0).n=(nx:Int)-1)(h4:(ah L' 4).n=(nx:Int)-1)(jk:∀ j:Int,1<=j->j≠4->ah L' j=ah L j)(hc:bI L')(hcl:L'.length=L.length):oF d ks dV L' t:=by
 have htl:0<t.length:=by
  have:=(aqq.1 ht).1;omega
 have Wc:=hd.fw;have hA:=hd.eb;have qi:∀ id k:Int,1<=id->id<=d.no->0<=k->k<d.fa+4->8<=d.node id k:=fun id k i1 i2 a b=>by
  have n0:=(bU hd i1 i2 a b).1;have m3:0<=(id-1)*(d.fa+4):=Int.mul_nonneg (by omega) (by omega)
  omega
 have oN:=((h.nodes _ _ ht nd (by simp)).1).id
 refine⟨⟨htl,h.rows,fun k l hk nd hn=>?_,⟨nd,[],ht,by rw[h0,hid]⟩,fun k l l' hk hk' => (h.down k l l' hk hk').1,by have:=h.count;omega,by omega,fun k l hk nd hn=>by have:=(h.nodes k l hk nd hn).2;rw[h4];omega⟩,hc,by rw[hcl];exact h.eW,h.leaves,fun e k l l' hk hk' => (h.down k l l' hk hk').2 e,fun id a b=>?_,fun j hj=>?_,?_,by have:=h.count;omega,h.szL,h.half,h.r1,h.id1,fun l hl=>by rw[ht]at hl;rw[← aqu hl];rfl,by omega⟩
 ·have q:=(h.nodes k l hk nd hn).1
  exact q.frame hd (fun k a b=>jk _ (by have:=qi nd.id k q.id.1 q.id.2 a b;omega) (by have:=qi nd.id k q.id.1 q.id.2 a b;omega))
 ·rw[jk _ (by have:=qi id 0 a b (by omega) (by omega);omega) (by have:=qi id 0 a b (by omega) (by omega);omega)]
  exact h.lat id a b
 ·have hB:d.A<=d.B:=by
   have:=Int.mul_nonneg (a:=d.no) (b:=d.fa+4) (by have:=hd.Iw;omega) (by omega)
   show d.A<=d.A+d.no*(d.fa+4)
   omega
  rw[jk j (by rcases hj with h|h <;> omega) (by rcases hj with h|h <;> omega)]
  exact h.zero j hj
 ·rw[jk 5 (by omega) (by omega),h.n5]
end
end Go.Proofs.YtlpdhhhgckpcfaaGreat
