/- blinktreekit.Keys: the keys of raw. -/
import Derived.Test.YtlpdhhhgckpcfaaGreatInsA
namespace Go.Proofs.YtlpdhhhgckpcfaaGreat
set_option linter.unusedSimpArgs false
set_option linter.unusedVariables false
open Go.RowKit
set_option maxHeartbeats 16000000
set_option maxRecDepth 100000
section
def Lc (k:ByteArray):List Value:=[.string k,.string ⟨#[]⟩]
def iT (l:List ByteArray):List Value:=l.flatMap Lc
theorem nN (l:List ByteArray):∀(i:Nat)(s:ByteArray),l[i]?=some s->(iT l)[i*2]?=some (.string s)/\(iT l)[i*2+1]?=some (.string ⟨#[]⟩):=by
 induction l with
 | nil=>intro i s h;simp at h
 | cons a l ih=>
  intro i s h;have e:iT (a::l)=.string a :: .string ⟨#[]⟩::iT l:=rfl;rw[e];cases i with
  | zero=>simp at h;subst h;exact⟨rfl,rfl⟩
  | succ i=>
   have:=ih i s (by simpa using h)
   rw[show(i+1)*2=i*2+2 by omega]
   simpa using this
theorem pI (l:List ByteArray)(k:ByteArray):iT (l++[k])=iT l++Lc k:=by simp[iT]
def s5 (l:List ByteArray):Prop:=l.Pairwise fun x y=>cA x y=true
theorem Og:(Tryz.prog.info? 119).map (fun i=>(i.zero,i.size,i.bytes))=some (some (.agg #[.string ⟨#[]⟩,.string ⟨#[]⟩]),2,32):=by kernel_rfl
theorem pJ:(Tryz.prog.info? 9).map (fun i=>(i.zero,i.size,i.bytes))=some (some (.string ⟨#[]⟩),1,16):=by kernel_rfl
structure oJ (ks:List ByteArray)(key:ByteArray)(i:Nat)(b:Bool)(out:List ByteArray):Prop where
 before:b=false->∀x,x∈out->cA x key=true
 jP:s5 out
 later:∀x,x∈out->∀(j:Nat) (y:ByteArray),i<=j->ks[j]?=some y->y≠key->cA x y=true
 len:out.length<=i+(if b then 1 else 0)
 mem:∀x,x∈out->x=key\/x∈ks
theorem uU {out:List ByteArray}{y:ByteArray}(h:s5 out)(c:∀x,x∈out->cA x y=true):s5 (out++[y]):=by
 refine List.pairwise_append.2 ⟨h,List.pairwise_singleton _ _,fun x e z b=>?_⟩
 simp at b;subst b;exact c x e
theorem Ug {ks:List ByteArray}(h:s5 ks){i j:Nat}{x y:ByteArray}(c:ks[i]?=some x)(e:ks[j]?=some y)(b:i<j):cA x y=true:=by
 have:=List.pairwise_iff_getElem.1 h i j (asu.1 c).1 (asu.1 e).1 b;rwa [(asu.1 c).2,(asu.1 e).2]at this
section
variable {ks:List ByteArray}{key:ByteArray}{i:Nat}{out:List ByteArray}
theorem oJ.start:oJ ks key 0 false []:=⟨fun _ x h=>(by cases h),List.Pairwise.nil,fun x h=>(by cases h),by simp,fun x h=>(by cases h)⟩
theorem oJ.own (h:oJ ks key i false out)(hk:s5 ks){y:ByteArray}(m:ks[i]?=some y)(hle:cA y key=false):oJ ks key i true (out++[key]):=by
 refine⟨fun e=>(by cases e),uU h.jP (h.before rfl),fun x b j z o g c=>?_,by have:=h.len;simp at this ⊢;omega,fun x b=>?_⟩
 ·rcases List.mem_append.1 b with b|b
  ·exact h.later x b j z o g c
  ·simp at b;subst b
   cases e:cA x z with
   | true=>rfl
   | false=>
    have k:cA z x=false:=by
     rcases Nat.eq_or_lt_of_le o with rfl|l
     ·rw[m]at g;cases g;exact hle
     ·cases e2:cA z x with
      | false=>rfl
      | true=>have:=gN (Ug hk m g l) e2;rw[hle]at this;cases this
    exact absurd (gP k e) c
 ·rcases List.mem_append.1 b with b|b
  ·exact h.mem x b
  ·simp at b;exact .inl b
theorem oJ.elem {b:Bool}(h:oJ ks key i b out)(hk:s5 ks){y:ByteArray}(g:ks[i]?=some y)(k:y≠key)(o:b=false->cA y key=true):oJ ks key (i+1) b (out++[y]):=by
 refine⟨fun e x c=>?_,uU h.jP (fun x c=>h.later x c i y (Nat.le_refl _) g k),fun x c j z q m l=>?_,by have:=h.len;simp at this ⊢;omega,fun x c=>?_⟩
 ·rcases List.mem_append.1 c with c|c
  ·exact h.before e x c
  ·simp at c;subst c;exact o e
 ·rcases List.mem_append.1 c with c|c
  ·exact h.later x c j z (by omega) m l
  ·simp at c;subst c;exact Ug hk g m (by omega)
 ·rcases List.mem_append.1 c with c|c
  ·exact h.mem x c
  ·simp at c;subst c;exact .inr (asw g)
theorem oJ.skip {b:Bool}(h:oJ ks key i b out):oJ ks key (i+1) b out:=
 ⟨h.before,h.jP,fun x e j z k g c=>h.later x e j z (by omega) g c,by have:=h.len;omega,h.mem⟩
theorem oJ.last (h:oJ ks key i false out):s5 (out++[key])/\(out++[key]).length<=i+1/\∀x,x∈out++[key]->x=key\/x∈ks:=by
 refine⟨uU h.jP (h.before rfl),by have:=h.len;simp at this ⊢;omega,fun x b=>?_⟩
 rcases List.mem_append.1 b with b|b
 ·exact h.mem x b
 ·simp at b;exact .inl b
end
section
variable {K:aM}{w:World}{F:List aC}{ks:List ByteArray}{key:ByteArray}{v:Value}
theorem Dj (hk:s5 ks)(hlen:ks.length<=1000)(c:St K w (az v 119 2 ks.length (iT ks)::F)) :
  Calls Tryz.prog 72 #[v,.agg #[.string key,.string ⟨#[]⟩]] w fun e w' => ∃(C:Value) (k:List ByteArray),e=.returned C /\ Hid (s5 k /\ k.length<=ks.length+1/\∀x,x∈k -> x=key\/x∈ks)/\St K w' (az C 119 2 k.length (iT k)::az v 119 2 ks.length (iT ks)::F):=by
 obtain⟨a,cap,rfl,_,_⟩:=c.aJ;obtain⟨n,J⟩:∃n,n=ks.length:=⟨_,rfl⟩;have c:=c.made (.cells #[.string key,.string ⟨#[]⟩] 119);have X:=ass hk;have Hn:=ass J;rw[←J]at hlen c ⊢;obtain⟨M,Y,Z,dw,dx⟩:=info_parts Og;have N:=ass Y;have O:=ass Z;have P:=ass dw;have Q:=ass dx;clear Y Z dw dx hk J;obtain⟨D,E⟩:∃D,D=w.heap.size:=⟨_,rfl⟩;have c:=c.cJ (T:=119) (size:=2);go_enter Tryz.func72,Tryz.ntmps72
 go_wp2
 rw[←E]at c ⊢;clear E;go_loopw [5,6,7] (fun v5 v6 v7 wr=>∃(i:Nat) (b:Bool) (out:List ByteArray) (G:Option Addr) (co:Nat),v5=.slice G out.length co/\v6=.bool b/\v7=.int .i64 i/\i<=n/\Hid (oJ ks key i b out) /\
  St K wr (az (.slice G out.length co) 119 2 out.length (iT out)::blk D (.cells #[.string key,.string ⟨#[]⟩] 119)::az (.slice a n cap) 119 2 n (iT ks)::F)) (fun _ _ v7 _=>n-(intOf v7).toNat)
 case atStart=>exact⟨0,false,[],none,0,rfl,rfl,rfl,by omega,ass oJ.start,c⟩
 case round=>
  clear c;obtain⟨i,b,out,G,co,rfl,rfl,rfl,hi,q,c⟩:=hrel;have hol:out.length<=1001:=by have:=q.out.len;split at this <;> omega
  by_cases hin:i<n
  ·obtain⟨y,R⟩:∃y,ks[i]?=some y:=⟨_,asx (by have:=Hn.out;omega)⟩
   obtain⟨r0,r1⟩:=nN ks i y R;obtain⟨g,rfl,r⟩:=c.b2.cQ r0;obtain⟨U,e1,s⟩:=c.b2.cQ r1;obtain rfl:U=g:=by simpa using e1.symm
   clear e1 r0 r1;have l:=c.k1;have I:=ass R;clear R;go_upto_region 6 with(fail)
   go_cut [25] (fun v25 V=>v25=.bool (!b && !cA y key)/\St K V (az (.slice G out.length co) 119 2 out.length (iT out)::blk D (.cells #[.string key,.string ⟨#[]⟩] 119)::az (.slice (some ⟨U,0,none⟩) n cap) 119 2 n (iT ks)::F))
   case first=>
    as_aux_lemma=>
    refine bK (by kernel_rfl) (by kernel_rfl) ?_
    cases b with
    | true=>
     repeat (go_big_quiet_step (fail))
     refine wpQuiet_nil ?_
     intro w2 j;have c:=c.same j;clear l r s j;go_wp2
     go_meet;exact⟨rfl,c⟩
    | false=>
     repeat (go_big_quiet_step (fail))
     refine wpQuiet_nil ?_
     intro w2 j;have c:=c.same j;clear l r s j;go_wp2
     go_meet;exact⟨rfl,c⟩
   case rest=>
    clear c l r s;obtain⟨rfl,c⟩:=hcut;apply_assumption
    go_cut [5,6] (fun v5 v6 V=>∃(z:Bool) (h:List ByteArray) (A:Option Addr) (B:Nat),v5=.slice A h.length B/\v6=.bool z /\ Hid (oJ ks key i z h /\ (z=false->cA y key=true)) /\
     St K V (az (.slice A h.length B) 119 2 h.length (iT h)::blk D (.cells #[.string key,.string ⟨#[]⟩] 119)::az (.slice (some ⟨U,0,none⟩) n cap) 119 2 n (iT ks)::F))
    case first=>
     as_aux_lemma=>
     cases hc:(!b && !cA y key)with
     | true=>
      obtain⟨rfl,hle⟩:b=false/\cA y key=false:=by cases b <;> simp_all
      have Uh:=ass hle;have l:=c.k1;clear hc hle;go_wp2_with (at_builtin;refine dM _ _ 116 119 _ out.length 2 32 _ [.string key,.string ⟨#[]⟩] (.agg #[.string ⟨#[]⟩,.string ⟨#[]⟩]) M c rfl rfl Tryz.underlying116 N.out O.out P.out Q.out rfl (by decide) rfl rfl rfl (fun u hu=>by simp at hu;rcases hu with rfl|rfl <;> rfl) (by omega) (by decide) ?_)
      clear c l;intro C w' c;obtain⟨A,B,H,_,_⟩:=c.aJ;subst H;go_wp2
      go_meet;exact⟨true,out++[key],A,B,by rw[List.length_append];rfl,rfl,ass ⟨q.out.own X.out I.out Uh.out,fun e=>(by cases e)⟩,by rw[pI,List.length_append];exact c⟩
     | false=>
      have Hc:=ass hc;clear hc;go_wp2
      go_meet;exact⟨b,out,G,co,rfl,rfl,ass ⟨q.out,fun e=>by have:=Hc.out;subst e;simpa using this⟩,c⟩
    case rest=>
     clear c;obtain⟨z,h,A,B,rfl,rfl,m,c⟩:=hcut;have aoO:h.length<=1001:=by have:=m.out.1.len;split at this <;> omega
     obtain⟨r0,r1⟩:=nN ks i y I.out;have r:=c.b2.bG r0;have s:=c.b2.bG r1;have l:=c.k1;clear r0 r1 q;go_upto_region 9 with(fail)
     refine bK (by kernel_rfl) (by kernel_rfl) ?_
     repeat (go_big_quiet_step (fail))
     refine wpQuiet_nil ?_
     intro w2 j;have c:=c.same j;clear l r s j;by_cases o:y=key
     ·obtain rfl:=o
      have he:(y.toList == y.toList)=true:=beq_self_eq_true _;rw[he];go_wp2
      go_roundw
      case rel=>exact⟨i+1,z,h,A,B,rfl,rfl,by go_num,by omega,ass m.out.1.skip,c⟩
      case measure=>simp[intOf];omega
     ·have he:=jL o
      rw[he];have W:=ass o;obtain⟨r0,r1⟩:=nN ks i y I.out;have r:=c.b2.bG r0;have s:=c.b2.bG r1;clear r0 r1 o;go_wp2_with (at_builtin;refine dM _ _ 116 119 _ h.length 2 32 _ [.string y,.string ⟨#[]⟩] (.agg #[.string ⟨#[]⟩,.string ⟨#[]⟩]) M c rfl rfl Tryz.underlying116 N.out O.out P.out Q.out rfl (by decide) rfl rfl rfl (fun u hu=>by simp at hu;rcases hu with rfl|rfl <;> rfl) (by omega) (by decide) ?_)
      clear c r s;intro C w' c;obtain⟨mP,mQ,H,_,_⟩:=c.aJ;subst H;go_wp2
      go_roundw
      case rel=>exact⟨i+1,z,h ++ [y],mP,mQ,by rw[List.length_append];rfl,rfl,by go_num,by omega,ass (m.out.1.elem X.out I.out W.out m.out.2),by rw[pI,List.length_append];exact c⟩
      case measure=>simp[intOf];omega
  ·obtain rfl:i=n:=by omega
   cases b with
   | true=>
    go_wp2
    go_ret;exact⟨_,out,rfl,ass ⟨q.out.jP,q.out.len,q.out.mem⟩,c.b9⟩
   | false=>
    have l:=c.k1;go_wp2_with (at_builtin;refine dM _ _ 116 119 _ out.length 2 32 _ [.string key,.string ⟨#[]⟩] (.agg #[.string ⟨#[]⟩,.string ⟨#[]⟩]) M c rfl rfl Tryz.underlying116 N.out O.out P.out Q.out rfl (by decide) rfl rfl rfl (fun u hu=>by simp at hu;rcases hu with rfl|rfl <;> rfl) (by omega) (by decide) ?_)
    clear c l;intro C w' c;obtain⟨mP,mQ,H,_,_⟩:=c.aJ;subst H;go_wp2
    go_ret;exact⟨_,out++[key],rfl,ass q.out.last,by rw[pI,List.length_append];exact c.b9⟩
end
open Go.Joins Go.ChangeShapes Go.WideShapes Go.ChangeAt Go.RowKit Go.Deep
def zh (w:World)(a:Option Addr)(len:Nat)(f:Nat->ByteArray):Prop:=
 len<=maxLen/\∀i,i<len->∃b off,a=some ⟨b,off,none⟩/\b<w.heap.size/\w.cell? ⟨b,off+i,none⟩=some (.string (f i))/\(f i).size<=maxLen
theorem open_strs {H:Type}{enc:TypeId × Value->H}{w:World}{base:Nat}{spare:Nat->Bool}{held:Bool}{a:Option Addr}{len cap:Nat}{d:DataW H}{p:List MemPlace}
  (h:DataW.Trod enc Tryz.prog w base spare held 22 (.slice a len cap) d p):∃f:Nat->ByteArray,zh w a len f:=by
 obtain⟨fuel,B⟩:=h;rcases open_slice Tryz.underlying22 B with⟨e,_⟩|⟨x,l,c,m,n,D,M,e,_,hl,u,hm,_,C⟩
 ·simp[Value.cells]at e
  obtain⟨rfl,rfl,rfl⟩:=e;exact⟨fun _=>⟨#[]⟩,by simp[maxLen],fun i hi=>by omega⟩
 ·simp[Value.cells]at e
  obtain⟨rfl,rfl,rfl⟩:=e;have E:len<=m:=by rw[hm];split <;> omega
  have ce:Tryz.prog.cellsOf 9=1:=by kernel_rfl
  have each:∀i,i<len->∃q:ByteArray,w.cell? (x.add i)=some (.string q)/\q.size<=maxLen:=by
   intro i hi;obtain⟨o,y,G⟩:=C i (by omega)
   rw[ce,Nat.mul_one]at y;obtain⟨_,hlen,g⟩:=World.cells?_some y;match o,hlen with
   | [v0],_=>
    have z:=g 0 (by omega)
    rw[add_add]at z;obtain⟨I,A,_,w0⟩:=DataW.trod_string Tryz.underlying9 G;simp only[List.cons.injEq,and_true]at A;subst A;exact⟨I,by simpa using z,w0⟩
  obtain⟨f,j⟩:=choose_lt each;refine⟨f,by omega,fun i hi=>?_⟩
  have h0:=(j 0 (by omega)).1
  rw[show x.add 0=x from rfl]at h0
  have k:x.spot=none:=by
   cases J:x.spot with
   | none=>rfl
   | some s=>
    simp only[World.cell?,J]at h0;split at h0 <;> simp at h0
  obtain⟨b,off,sp⟩:=x;simp only at k;subst k;obtain⟨k0,r⟩:=j i hi;rw[add_plain]at k0;exact⟨b,off,rfl,World.block_lt_of_cell? _ _ k0,k0,r⟩
def bO (l:List ByteArray):List Value:=l.map Value.string
theorem mh (l:List ByteArray)(k:ByteArray):bO (l++[k])=bO l++[.string k]:=by simp[bO]
structure rE (most:Nat)(ks:List ByteArray):Prop where
 jP:s5 ks
 len:ks.length<=most
 size:∀x,x∈ks->x.size<=32
section
variable {w0 w:World}{F:List aC}{a:Option Addr}{len cap most:Nat}{f:Nat->ByteArray}
theorem Zo (H:zh w0 a len f)(hm:most<=100)(b:St (aM.of w0) w F) :
  Calls Tryz.prog 16 #[.slice a len cap,.int .i64 most] w fun e w' => ∃(v:Value) (ks:List ByteArray),e=.returned v/\Hid (rE most ks)/\St (aM.of w0) w' (az v 9 1 ks.length (bO ks)::F):=by
 have hl:=H.1;simp only[maxLen]at hl;have Hz:=ass H;obtain⟨W,X,Y,Z,dx⟩:=info_parts pJ;have lO:=ass X;have lQ:=ass Y;have lR:=ass Z;have lS:=ass dx;clear X Y Z dx H;have b:=b.cJ (T:=119) (size:=2);go_enter Tryz.func16,Tryz.ntmps16
 go_wp2
 go_loopw [5,6,7] (fun v5 v6 _ wr=>∃(i:Nat) (ks:List ByteArray) (A:Option Addr) (co:Nat),v5=.slice A ks.length co/\v6=.int .i64 i/\i<=len/\i<=most/\Hid (rE i ks) /\
  St (aM.of w0) wr (az (.slice A ks.length co) 119 2 ks.length (iT ks)::F)) (fun _ v6 _ _=>len-(intOf v6).toNat)
 case atStart=>exact⟨0,[],none,0,rfl,rfl,by omega,by omega,ass ⟨List.Pairwise.nil,Nat.le_refl _,fun x h=>(by cases h)⟩,b⟩
 case round=>
  clear b;obtain⟨i,ks,A,co,rfl,rfl,hi,him,m,b⟩:=hrel;have I:ks.length<=100:=by have:=m.out.len;omega
  by_cases o:i<len/\i<most
  ·obtain⟨B,h2⟩:=o
   obtain⟨qb,ae6,rfl,Ye,G,C⟩:=Hz.out.2 i B;rw[←(b.below (aM.Le.refl _)).cell (p:=⟨qb,_,none⟩) Ye]at G;simp only[maxLen]at C;generalize f i=y at G C;by_cases J:y.size<=32
   ·go_wp2_with fail
    refine(Dj m.out.jP (by omega) b).mono ?_
    clear b G;rintro e w2 ⟨M,q,rfl,c,b⟩;obtain⟨k,l,rfl,_,_⟩:=b.aJ;have b:=b.b9;go_wp2
    go_roundw
    case rel=>exact⟨i+1,q,k,l,rfl,by go_num,by omega,by omega,ass ⟨c.out.1,by have:=c.out.2.1;have:=m.out.len;omega,fun x r=>by rcases c.out.2.2 x r with rfl|r;exact J;exact m.out.size x r⟩,b⟩
    case measure=>simp[intOf];omega
   ·have aoQ:¬ ((y.size:Int)<=32):=by omega
    go_wp2_with fail
    refine(Dj m.out.jP (by omega) b).mono ?_
    clear b G;rintro e w2 ⟨M,q,rfl,c,b⟩;obtain⟨k,l,rfl,_,_⟩:=b.aJ;have b:=b.b9;go_wp2
    go_roundw
    case rel=>exact⟨i+1,q,k,l,rfl,by go_num,by omega,by omega,ass ⟨c.out.1,by have:=c.out.2.1;have:=m.out.len;omega,fun x r=>by rcases c.out.2.2 x r with rfl|r;exact(by rw[ByteArray.size_extract];omega);exact m.out.size x r⟩,b⟩
    case measure=>simp[intOf];omega
  ·obtain⟨n,N⟩:∃n,n=ks.length:=⟨_,rfl⟩
   have z:=ass N;rw[←N]at b I ⊢;clear N;have b:=b.cJ (T:=9) (size:=1);have D:Hid (rE most ks):=ass ⟨m.out.jP,by have:=m.out.len;omega,m.out.size⟩
   by_cases B:i<len
   ·have h2:¬ i<most:=fun h=>o ⟨B,h⟩
    go_wp2
    clear B h2 o;go_loopw [8,9] (fun v8 v9 wr=>∃(j:Nat) (k:Option Addr) (l:Nat),v8=.slice k j l/\v9=.int .i64 j/\j<=n /\
     St (aM.of w0) wr (az (.slice k j l) 9 1 j (bO (ks.take j))::az (.slice A n co) 119 2 n (iT ks)::F)) (fun _ v9 _=>n-(intOf v9).toNat)
    case atStart=>exact⟨0,none,0,rfl,rfl,by omega,b⟩
    case round=>
     clear b;obtain⟨j,k,l,rfl,rfl,hj,b⟩:=hrel;by_cases O:j<n
     ·obtain⟨y,s⟩:∃y,ks[j]?=some y:=⟨_,asx (by have:=z.out;omega)⟩
      obtain⟨r0,r1⟩:=nN ks j y s;obtain⟨g,rfl,P⟩:=b.b1.cQ r0;have E:ks.take (j+1)=ks.take j++[y]:=by rw[List.take_add_one,s];rfl
      have Q:=ass E;clear r0 r1 s E;go_wp2_with (at_builtin;refine dM _ _ 22 9 _ j 1 16 _ [.string y] (.string ⟨#[]⟩) W b rfl rfl Tryz.underlying22 lO.out lQ.out lR.out lS.out rfl (by decide) rfl rfl rfl (fun u hu=>by simp at hu;subst hu;rfl) (by omega) (by decide) ?_)
      clear b P;intro M w' b;obtain⟨R,U,V,_,_⟩:=b.aJ;subst V;go_wp2
      go_roundw
      case rel=>exact⟨j+1,R,U,rfl,by go_num,by omega,by rw[Q.out,mh];exact b⟩
      case measure=>simp[intOf];omega
     ·obtain rfl:j=n:=by omega
      go_wp2
      go_ret;refine⟨_,ks,rfl,D,?_⟩;have e:ks.take j=ks:=List.take_of_length_le (by rw[←z.out];exact Nat.le_refl _)
      rw[e]at b;rw[←z.out];exact b.b9
   ·go_wp2
    clear B o;go_loopw [8,9] (fun v8 v9 wr=>∃(j:Nat) (k:Option Addr) (l:Nat),v8=.slice k j l/\v9=.int .i64 j/\j<=n /\
     St (aM.of w0) wr (az (.slice k j l) 9 1 j (bO (ks.take j))::az (.slice A n co) 119 2 n (iT ks)::F)) (fun _ v9 _=>n-(intOf v9).toNat)
    case atStart=>exact⟨0,none,0,rfl,rfl,by omega,b⟩
    case round=>
     clear b;obtain⟨j,k,l,rfl,rfl,hj,b⟩:=hrel;by_cases O:j<n
     ·obtain⟨y,s⟩:∃y,ks[j]?=some y:=⟨_,asx (by have:=z.out;omega)⟩
      obtain⟨r0,r1⟩:=nN ks j y s;obtain⟨g,rfl,P⟩:=b.b1.cQ r0;have E:ks.take (j+1)=ks.take j++[y]:=by rw[List.take_add_one,s];rfl
      have Q:=ass E;clear r0 r1 s E;go_wp2_with (at_builtin;refine dM _ _ 22 9 _ j 1 16 _ [.string y] (.string ⟨#[]⟩) W b rfl rfl Tryz.underlying22 lO.out lQ.out lR.out lS.out rfl (by decide) rfl rfl rfl (fun u hu=>by simp at hu;subst hu;rfl) (by omega) (by decide) ?_)
      clear b P;intro M w' b;obtain⟨R,U,V,_,_⟩:=b.aJ;subst V;go_wp2
      go_roundw
      case rel=>exact⟨j+1,R,U,rfl,by go_num,by omega,by rw[Q.out,mh];exact b⟩
      case measure=>simp[intOf];omega
     ·obtain rfl:j=n:=by omega
      go_wp2
      go_ret;refine⟨_,ks,rfl,D,?_⟩;have e:ks.take j=ks:=List.take_of_length_le (by rw[←z.out];exact Nat.le_refl _)
      rw[e]at b;rw[←z.out];exact b.b9
end
def gK (l:List Nat):List Value:=l.map fun(p:Nat)=>Value.int .i64 (p:Int)
theorem uV (l:List Nat)(p:Nat):gK (l++[p])=gK l++[.int .i64 (p:Int)]:=by simp[gK]
theorem Zp:(Tryz.prog.info? 3).map (fun i=>(i.zero,i.size,i.bytes))=some (some (.int .i64 0),1,8):=by kernel_rfl
structure tI (n least fa:Nat)(ps:List Nat):Prop where
 sum:ps.sum=n
 bd:∀p,p∈ps->1<=p/\p<=fa
 len:ps.length*least<=n+(least-1)
 Xu:∀(i p:Nat),ps[i]?=some p->i+1<ps.length->least<=p
structure rF (n least fa r:Nat)(ps:List Nat):Prop where
 sum:ps.sum+r=n
 bd:∀p,p∈ps->1<=p/\p<=fa
 len:ps.length*least<=ps.sum+(if r=0 then least-1 else 0)
 Xu:∀(i p:Nat),ps[i]?=some p->(i+1<ps.length\/0<r)->least<=p
theorem rF.step {n least fa r x:Nat}{ps:List Nat}(h:rF n least fa r ps)(c:0<r)(hl:1<=least)(l:least<=x)(g:x<=fa):rF n least fa (r-min x r) (ps++[min x r]):=by
 have m:=h.sum;have j:=h.len;rw[if_neg (by omega)]at j
 have e:(ps++[min x r]).sum=ps.sum+min x r:=by simp
 refine⟨by rw[e];omega,fun p hp=>?_,?_,fun i p hp hi=>?_⟩
 ·rcases List.mem_append.1 hp with hp|hp
  ·exact h.bd p hp
  ·simp at hp;omega
 ·rw[e,List.length_append]
  simp only[List.length_cons,List.length_nil,Nat.add_mul,Nat.one_mul,Nat.zero_mul,Nat.zero_add];by_cases hm:x<=r
  ·rw[Nat.min_eq_left hm];omega
  ·rw[Nat.min_eq_right (by omega),if_pos (by omega)];omega
 ·rw[List.length_append]at hi
  simp only[List.length_cons,List.length_nil]at hi;rcases Nat.lt_or_ge i ps.length with b|b
  ·rw[List.getElem?_append_left b]at hp
   exact h.Xu i p hp (.inr c)
  ·rw[List.getElem?_append_right b]at hp
   obtain⟨q,k⟩:∃q,i-ps.length=q:=⟨_,rfl⟩;rw[k]at hp;cases q with
   | zero=>
    have hp:some (min x r)=some p:=hp;have:=asy hp;omega
   | succ q=>simp at hp
theorem rF.last {n least fa:Nat}{ps:List Nat}(h:rF n least fa 0 ps):tI n least fa ps:=by
 have c:=h.sum;have b:=h.len;rw[if_pos rfl]at b;exact⟨by omega,h.bd,by omega,fun i p hp hi=>h.Xu i p hp (.inl hi)⟩
theorem uW (z:Int):0<=IntKind.u64.wrap z/\IntKind.u64.wrap z<18446744073709551616:=by
 rw[IntKind.wrap_u64];omega
theorem j9 {z:Int}(h:0<=z)(b:z<1000000):wrap64 z=z:=by unfold wrap64;omega
theorem rG:∀ {ps:List Nat},(∀p,p∈ps->1<=p)->ps.length<=ps.sum
 | [],_=>by simp
 | a::l,h=>by
  have b:=h a (by simp)
  have c:=rG (ps:=l) (fun p hp=>h p (by simp[hp]))
  simp only[List.length_cons,List.sum_cons];omega
section
variable {K:aM}{w:World}{F:List aC}{n least fa:Nat}{sh:Int}
theorem uX (Z:n<=1000)(hl:1<=least/\least<=2)(hf:least<=fa/\fa<=32)(g:0<=sh/\sh<18446744073709551616)(c:St K w F) :
  Calls Tryz.prog 70 #[.int .i64 n,.int .i64 least,.int .i64 fa,.int .u64 sh] w fun e w' => ∃(v:Value) (ps:List Nat),e=.returned v/\Hid (tI n least fa ps)/\St K w' (az v 3 1 ps.length (gK ps)::F):=by
 obtain⟨C,D,E,G,H⟩:=info_parts Zp;have I:=ass D;have J:=ass E;have M:=ass G;have N:=ass H;clear D E G H;have c:=c.cJ (T:=3) (size:=1);go_enter Tryz.func70,Tryz.ntmps70
 go_wp2
 go_loopw [0,3,9,10] (fun v0 v3 v9 _ wr=>∃(r:Nat) (s:Int) (ps:List Nat) (k:Option Addr) (co:Nat),v0=.int .i64 r/\v3=.int .u64 s/\v9=.slice k ps.length co/\r<=n/\0<=s/\s<18446744073709551616/\ps.length<=n/\Hid (rF n least fa r ps) /\
  St K wr (az (.slice k ps.length co) 3 1 ps.length (gK ps)::F)) (fun v0 _ _ _ _=>(intOf v0).toNat)
 case atStart=>exact⟨n,sh,[],none,0,rfl,rfl,rfl,Nat.le_refl _,g.1,g.2,by simp,ass ⟨by simp,fun p h=>(by cases h),by simp,fun i p h=>by simp at h⟩,by simpa[gK] using c⟩
 case round=>
  clear c;obtain⟨r,s,ps,k,co,rfl,rfl,rfl,hr,Q,R,U,O,c⟩:=hrel;by_cases h0:0<r
  ·go_upto_region 4 with(fail)
   obtain⟨x,P,l,o⟩:∃x:Nat,wrap64 ((least:Int)+wrap64 (s%((fa:Int)-least+1)))=x/\least<=x/\x<=fa:=by
    have j:(0:Int)<(fa:Int)-least+1:=by omega
    have m1:=Int.emod_nonneg s (by omega:(fa:Int)-least+1≠0)
    have m2:=Int.emod_lt_of_pos s j;generalize s%((fa:Int)-least+1)=m at *;refine⟨least+m.toNat,?_,by omega,by omega⟩
    rw[j9 (z:=m) (by omega) (by omega),j9 (by omega) (by omega)]
    omega
   rw[P];have b:=ass (O.out.step h0 hl.1 l o);clear P;by_cases V:x<=r
   ·have q:¬ (r:Int)<x:=by omega
    rw[Nat.min_eq_left V]at b;go_wp2_with (at_builtin;refine dM _ _ 39 3 _ ps.length 1 8 _ [.int .i64 (x:Int)] (.int .i64 0) C c rfl rfl Tryz.underlying39 I.out J.out M.out N.out rfl (by decide) rfl rfl rfl (fun u hu=>by simp at hu;subst hu;rfl) (by omega) (by decide) ?_)
    clear c;intro W w' c;obtain⟨y,A,B,_,_⟩:=c.aJ;subst B;have hw:=uW (IntKind.u64.wrap (s / 3+IntKind.u64.wrap (s*7))+1);go_wp2
    go_roundw
    case rel=>exact⟨r-x,_,ps++[x],y,A,by go_num,rfl,by rw[List.length_append];rfl,by omega,hw.1,hw.2,by have X:=b.out.sum;have Y:=rG (fun p hp=>(b.out.bd p hp).1);omega,b,by rw[uV,List.length_append];exact c⟩
    case measure=>simp[intOf];omega
   ·have q:(r:Int)<x:=by omega
    rw[Nat.min_eq_right (by omega),Nat.sub_self]at b
    go_wp2_with (at_builtin;refine dM _ _ 39 3 _ ps.length 1 8 _ [.int .i64 (r:Int)] (.int .i64 0) C c rfl rfl Tryz.underlying39 I.out J.out M.out N.out rfl (by decide) rfl rfl rfl (fun u hu=>by simp at hu;subst hu;rfl) (by omega) (by decide) ?_)
    clear c;intro W w' c;obtain⟨y,A,B,_,_⟩:=c.aJ;subst B;have hw:=uW (IntKind.u64.wrap (s / 3+IntKind.u64.wrap (s*7))+1);go_wp2
    go_roundw
    case rel=>exact⟨0,_,ps++[r],y,A,by go_num,rfl,by rw[List.length_append];rfl,by omega,hw.1,hw.2,by have X:=b.out.sum;have Y:=rG (fun p hp=>(b.out.bd p hp).1);omega,b,by rw[uV,List.length_append];exact c⟩
    case measure=>simp[intOf];omega
  ·obtain rfl:r=0:=by omega
   go_wp2
   go_ret;exact⟨_,ps,rfl,ass O.out.last,c⟩
end
structure Nd where
 id:Int
 low:ByteArray
 pg:Pg
def nO (aA:Nat)(l:List Sl)(p:Nat):ByteArray:=match l[p-1]?,l[p]? with
 | some a,some b=>if aA=0 then l6 a.k b.k else b.k
 | _,some b=>b.k
 | _,_=>⟨#[]⟩
def dR (aA:Nat):ByteArray->Int->List Sl->List Nat->List Nd
 | _,_,_,[]=>[]
 | low,id,l,[p]=>[⟨id,low,⟨aA,l.take p,⟨#[]⟩,true,0⟩⟩]
 | low,id,l,p::q::ps=>⟨id,low,⟨aA,l.take p,nO aA l p,false,id+1⟩⟩::dR aA (nO aA l p) (id+1) (l.drop p) (q::ps)
theorem fk (aA:Nat):∀(ps:List Nat)(low:ByteArray)(id:Int)(l:List Sl),(dR aA low id l ps).length=ps.length
 | [],_,_,_=>rfl
 | [p],_,_,_=>rfl
 | p::q::ps,low,id,l=>by
  show(dR aA _ _ _ (q::ps)).length+1=_
  rw[fk aA (q::ps)];rfl
structure fS (aA:Nat)(l:List Nd):Prop where
 ne:0<l.length
 aA:∀nd,nd∈l->nd.pg.aA=aA
 first:∀nd,l[0]?=some nd->nd.low=⟨#[]⟩
 next:∀(i:Nat) (a b:Nd),l[i]?=some a->l[i+1]?=some b->a.pg.la=false/\a.pg.hi=b.low/\a.pg.ri=b.id/\cA a.low b.low=true
 last:∀(i:Nat) (a:Nd),l[i]?=some a->i+1=l.length->a.pg.la=true/\a.pg.hi=⟨#[]⟩/\a.pg.ri=0
structure ou (c:aQ):Prop where
 n:c.n%4=0
 k:c.k=⟨#[]⟩
 m:c.m=0
theorem ou.zero:ou aQ.zero:=⟨rfl,rfl,rfl⟩
structure wo (d:aU)(L:List aQ)(nd:Nd):Prop where
 id:1<=nd.id/\nd.id<=d.no
 page:eO d nd.id L nd.pg
 hold:Holds L (bQ d nd.id nd.pg)
 free:ou (ah L (d.node nd.id 0))
 jP:kY nd.pg.sl
 rf:∀s,s∈nd.pg.sl->1<=s.r
 bd:∀s,s∈nd.pg.sl->cA s.k nd.low=false/\(nd.pg.la=false->cA s.k nd.pg.hi=true)
structure cT (d:aU)(L:List aQ)(t:List (List Nd)):Prop where
 ne:0<t.length
 rows:∀(k:Nat) (l:List Nd),t[k]?=some l->fS k l
 nodes:∀(k:Nat) (l:List Nd),t[k]?=some l->∀nd,nd∈l->wo d L nd
 top:∃nd rest,t[t.length-1]?=some (nd::rest)/\(ah L 0).n=nd.id
 down:∀(k:Nat) (l l':List Nd),t[k]?=some l->t[k+1]?=some l' -> ∀nd,nd∈l' -> (∃s r,nd.pg.sl=s::r/\s.k=nd.low)/\∀s,s∈nd.pg.sl->∃c,c∈l/\c.id=s.r/\c.low=s.k
 count:((t.map List.length).sum:Int)<=(ah L 4).n
 n4:(ah L 4).n<=d.no
 used:∀(k:Nat) (l:List Nd),t[k]?=some l->∀nd,nd∈l->nd.id<=(ah L 4).n
theorem nP (aA:Nat):∀(ps:List Nat)(low:ByteArray)(id:Int)(l:List Sl)(i p:Nat),ps[i]?=some p ->
  ∃nd:Nd,(dR aA low id l ps)[i]?=some nd/\nd.id=id+i/\(i=0->nd.low=low) /\
   nd.pg=(if i+1=ps.length then⟨aA,(l.drop (ps.take i).sum).take p,⟨#[]⟩,true,0⟩else⟨aA,(l.drop (ps.take i).sum).take p,nO aA (l.drop (ps.take i).sum) p,false,id+i+1⟩) /\
   ∀b,(dR aA low id l ps)[i+1]?=some b->b.low=nO aA (l.drop (ps.take i).sum) p
 | [],_,_,_,i,p,h=>by simp at h
 | [q],low,id,l,i,p,h=>by
  cases i with
  | zero=>
   simp at h;subst h;exact⟨_,rfl,by simp,fun _=>rfl,by simp,fun b c => by simp[dR]at c⟩
  | succ i=>simp at h
 | q::r::ps,low,id,l,i,p,h=>by
  cases i with
  | zero=>
   simp at h;subst h;refine⟨_,rfl,by simp,fun _=>rfl,by simp,fun b c =>?_⟩
   have g:(dR aA (nO aA l q) (id+1) (l.drop q) (r::ps))[0]?=some b:=c;obtain⟨k,e2,_,e3,_⟩:=nP aA (r::ps) (nO aA l q) (id+1) (l.drop q) 0 r rfl;rw[e2]at g;cases g;simpa using e3 rfl
  | succ i=>
   obtain⟨nd,m,g,u,o,s⟩:=nP aA (r::ps) (nO aA l q) (id+1) (l.drop q) i p (by simpa using h)
   have e:(q::r::ps).take (i+1)=q::(r::ps).take i:=rfl;refine⟨nd,m,by rw[g];push_cast;omega,fun h=>by omega,?_,fun b c =>?_⟩
   ·rw[o,e,List.sum_cons,List.drop_drop]
    simp only[List.length_cons];rw[show id+1+(i:Int)+1=id+((i+1:Nat):Int)+1 by push_cast;omega]
    by_cases j:i+1=ps.length+1
    ·rw[if_pos j,if_pos (by omega)]
    ·rw[if_neg j,if_neg (by omega)]
   ·rw[e,List.sum_cons,←List.drop_drop]
    exact s b c
theorem ij {ps:List Nat}{i p:Nat}(h:ps[i]?=some p):(ps.take (i+1)).sum=(ps.take i).sum+p:=by
 rw[List.take_add_one,h];simp
theorem sF (ps:List Nat)(i:Nat):(ps.take i).sum<=ps.sum:=by
 have h:ps.sum=(ps.take i).sum+(ps.drop i).sum:=by rw[←List.sum_append,List.take_append_drop]
 omega
theorem kg {S:List Sl}(h:kY S){i j:Nat}{x y:Sl}(c:S[i]?=some x)(e:S[j]?=some y)(b:i<j):cA x.k y.k=true:=by
 have:=List.pairwise_iff_getElem.1 h i j (asu.1 c).1 (asu.1 e).1 b;rwa [(asu.1 c).2,(asu.1 e).2]at this
theorem zi {S:List Sl}(h:kY S){i j:Nat}{x y:Sl}(g:S[i]?=some x)(b:S[j]?=some y)(c:i<=j):cA y.k x.k=false:=by
 rcases Nat.eq_or_lt_of_le c with rfl|e
 ·rw[g]at b;cases b;exact cS _
 ·exact gO (kg h g b e)
structure fo (S:List Sl)(ps:List Nat):Prop where
 jP:kY S
 ne:0<ps.length
 sum:ps.sum=S.length
 pos:(∀p,p∈ps->1<=p)\/ps=[0]
section
variable {aA:Nat}{S:List Sl}{ps:List Nat}{id:Int}
theorem fo.at (h:fo S ps){i p:Nat}(hp:ps[i]?=some p)(hi:i+1<ps.length):∃x y:Sl,S[(ps.take (i+1)).sum-1]?=some x/\S[(ps.take (i+1)).sum]?=some y/\(ps.take (i+1)).sum=(ps.take i).sum+p/\1<=p/\nO aA (S.drop (ps.take i).sum) p=(if aA=0 then l6 x.k y.k else y.k)/\cA x.k y.k=true:=by
 have b:∀p,p∈ps->1<=p:=by
  rcases h.pos with h|h
  ·exact h
  ·rw[h]at hi;simp at hi
 obtain⟨q,g⟩:∃q,ps[i+1]?=some q:=⟨_,asx hi⟩;have j:=ij hp;have e2:=ij g;have l:=b p (asw hp);have m:=b q (asw g);have o:=sF ps (i+1+1);have r:=h.sum;obtain⟨x,c⟩:∃x,S[(ps.take (i+1)).sum-1]?=some x:=⟨_,asx (by omega)⟩
 obtain⟨y,e⟩:∃y,S[(ps.take (i+1)).sum]?=some y:=⟨_,asx (by omega)⟩
 refine⟨x,y,c,e,j,l,?_,kg h.jP c e (by omega)⟩
 unfold nO;rw[List.getElem?_drop,List.getElem?_drop,show(ps.take i).sum+(p-1)=(ps.take (i+1)).sum-1 by omega,←j,c,e]
theorem zj (h:fo S ps){i:Nat}{nd:Nd}(g:(dR aA ⟨#[]⟩ id S ps)[i]?=some nd) :
  (i=0/\nd.low=⟨#[]⟩)\/(∃x y:Sl,1<=i/\S[(ps.take i).sum-1]?=some x/\S[(ps.take i).sum]?=some y/\1<=(ps.take i).sum/\nd.low=(if aA=0 then l6 x.k y.k else y.k)/\cA x.k nd.low=true/\cA y.k nd.low=false):=by
 have c:i<ps.length:=by rw[←fk aA ps ⟨#[]⟩ id S];exact(asu.1 g).1
 cases i with
 | zero=>
  left
  obtain⟨j,e,_,e3,_⟩:=nP aA ps ⟨#[]⟩ id S 0 ps[0] (asx c);rw[g]at e;cases e;exact⟨rfl,e3 rfl⟩
 | succ i=>
  right
  have hp:ps[i]?=some ps[i]:=asx (by omega)
  obtain⟨x,y,l,m,o,q,e2,b⟩:=h.at (aA:=aA) hp c;obtain⟨j,_,_,_,_,e5⟩:=nP aA ps ⟨#[]⟩ id S i ps[i] hp;have e6:=e5 nd g;rw[e2]at e6;refine⟨x,y,by omega,l,m,by omega,e6,?_⟩
  rw[e6];split
  ·exact⟨(tD b).1,(tD b).2⟩
  ·exact⟨b,cS _⟩
theorem Ui (h:fo S ps){i:Nat}{nd:Nd}(b:(dR aA ⟨#[]⟩ id S ps)[i]?=some nd){j:Nat}{s:Sl}(c:(ps.take i).sum<=j)(g:S[j]?=some s):cA s.k nd.low=false:=by
 rcases zj h b with⟨_,e⟩|⟨x,y,_,_,l,_,_,_,m⟩
 ·rw[e];exact jX _
 ·exact qu m (zi h.jP l g c)
theorem gB (h:fo S ps){i:Nat}{nd:Nd}(g:(dR aA ⟨#[]⟩ id S ps)[i]?=some nd):∃p,ps[i]?=some p/\nd.id=id+i/\nd.pg.aA=aA/\nd.pg.sl=(S.drop (ps.take i).sum).take p/\(ps.take i).sum+p<=S.length /\
  ((i+1=ps.length/\nd.pg=⟨aA,(S.drop (ps.take i).sum).take p,⟨#[]⟩,true,0⟩)\/(i+1<ps.length/\nd.pg=⟨aA,(S.drop (ps.take i).sum).take p,nO aA (S.drop (ps.take i).sum) p,false,id+i+1⟩)):=by
 have b:i<ps.length:=by rw[←fk aA ps ⟨#[]⟩ id S];exact(asu.1 g).1
 have hp:ps[i]?=some ps[i]:=asx b;obtain⟨k,e,e2,_,e4,_⟩:=nP aA ps ⟨#[]⟩ id S i ps[i] hp;rw[g]at e;cases e;have j:=sF ps (i+1);rw[ij hp,h.sum]at j;refine⟨ps[i],hp,e2,?_,?_,j,?_⟩
 ·rw[e4];split <;> rfl
 ·rw[e4];split <;> rfl
 ·by_cases c:i+1=ps.length
  ·rw[if_pos c]at e4;exact .inl ⟨c,e4⟩
  ·rw[if_neg c]at e4;exact .inr ⟨by omega,e4⟩
theorem Dk (h:fo S ps):fS aA (dR aA ⟨#[]⟩ id S ps):=by
 refine⟨by rw[fk];exact h.ne,fun nd k=>?_,fun nd k=>?_,fun i a b j l=>?_,fun i a j hi=>?_⟩
 ·obtain⟨i,hi⟩:=ast k
  obtain⟨p,_,_,e,_⟩:=gB h hi;exact e
 ·rcases zj h k with⟨_,e⟩|⟨_,_,h0,_⟩
  ·exact e
  ·omega
 ·have m:i+1<ps.length:=by rw[←fk aA ps ⟨#[]⟩ id S];exact(asu.1 l).1
  obtain⟨p,hp,u,e2,e3,e4,e5⟩:=gB h j;obtain⟨_,_,o,_⟩:=gB h l;obtain⟨x,y,q,r,z,A,s,B⟩:=h.at (aA:=aA) hp m;rcases e5 with⟨e5,_⟩|⟨_,e5⟩
  ·omega
  ·rcases zj h l with⟨h0,_⟩|⟨C,D,_,c,g,_,el,k1,k2⟩
   ·omega
   ·rw[q]at c;cases c
    rw[r]at g;cases g;rw[e5];refine⟨rfl,by rw[el];exact s,by rw[o];push_cast;show id+i+1=_;omega,?_⟩
    exact gq (Ui h j (by omega) q) k1
 ·rw[fk]at hi
  obtain⟨p,_,_,_,_,_,e5⟩:=gB h j;rcases e5 with⟨_,e5⟩|⟨e5,_⟩
  ·rw[e5];exact⟨rfl,rfl,rfl⟩
  ·omega
theorem Dl (h:fo S ps){i:Nat}{nd:Nd}(l:(dR aA ⟨#[]⟩ id S ps)[i]?=some nd){s:Sl}(m:s∈nd.pg.sl):s∈S/\cA s.k nd.low=false/\(nd.pg.la=false->cA s.k nd.pg.hi=true):=by
 obtain⟨p,hp,z,e2,e3,e4,e5⟩:=gB h l;rw[e3]at m;obtain⟨j,b⟩:=ast m;have e:j<p:=by
  have:=(asu.1 b).1;simp at this;omega
 rw[List.getElem?_take,if_pos e,List.getElem?_drop]at b;refine⟨asw b,Ui h l (by omega) b,fun o=>?_⟩
 rcases e5 with⟨_,e5⟩|⟨g,e5⟩
 ·rw[e5]at o;cases o
 ·obtain⟨x,y,r,A,B,C,u,q⟩:=h.at (aA:=aA) hp g
  rw[e5];show cA s.k (nO aA _ p)=true
  rw[u];have c:=zi h.jP b r (by omega)
  split
  ·exact gq c (tD q).1
  ·exact gq c q
theorem Zq (h:fo S ps){i:Nat}{nd:Nd}(b:(dR aA ⟨#[]⟩ id S ps)[i]?=some nd):kY nd.pg.sl:=by
 obtain⟨p,hp,c,e2,e3,e4,e5⟩:=gB h b;rw[e3];exact(h.jP.sublist (List.drop_sublist _ _)).sublist (List.take_sublist _ _)
theorem Ja (h:fo S ps)(q:0<aA)(h0:∀s,S[0]?=some s->s.k=⟨#[]⟩)(o:S≠[]){i:Nat}{nd:Nd}(j:(dR aA ⟨#[]⟩ id S ps)[i]?=some nd):∃s r,nd.pg.sl=s::r/\s.k=nd.low:=by
 obtain⟨p,hp,u,e2,e3,e4,e5⟩:=gB h j;have l:1<=p:=by
  rcases h.pos with c|c
  ·exact c p (asw hp)
  ·have:=h.sum;rw[c]at this;simp at this;exact absurd (List.length_eq_zero_iff.1 this.symm) o
 obtain⟨s,g⟩:∃s,S[(ps.take i).sum]?=some s:=⟨_,asx (by omega)⟩
 have b:nd.pg.sl[0]?=some s:=by rw[e3,List.getElem?_take,if_pos (by omega),List.getElem?_drop];simpa using g
 cases hl:nd.pg.sl with
 | nil=>rw[hl]at b;simp at b
 | cons s' r=>
  rw[hl]at b;simp at b;subst b;refine⟨s',r,rfl,?_⟩;rcases zj h j with⟨hi,e⟩|⟨x,y,_,z,m,_,el,_⟩
  ·subst hi;rw[e];exact h0 s' (by simpa using g)
  ·rw[g]at m;cases m
   rw[el,if_neg (by omega)]
end
section
variable {d:aU}
theorem eO.frame {id:Int}(c:1<=id)(e:id<=d.no){L L':List aQ}{pg:Pg}(h:eO d id L pg)(f1:4<=d.fa)(he:∀k:Int,1<=k->k<d.fa+4->ah L' (d.node id k)=ah L (d.node id k)):eO d id L' pg:=by
 refine⟨by rw[he 1 (by omega) (by omega)];exact h.n,by rw[he 1 (by omega) (by omega)];exact h.aA,by rw[he 2 (by omega) (by omega)];exact h.hi,by rw[he 2 (by omega) (by omega)];exact h.la,by rw[he 3 (by omega) (by omega)];exact h.ri,h.le,fun i s b=>?_⟩
 have hi:i<pg.sl.length:=(asu.1 b).1;have:=h.le;have es:d.slot id i=d.node id (4+(i:Int)):=by
  unfold aU.slot;rw[if_pos ⟨by omega,by omega⟩]
 rw[es,he _ (by omega) (by omega),←es]
 exact h.sl i s b
theorem Dm {id:Int}{L:List aQ}{pg:Pg}(f1:4<=d.fa)(hle:(pg.sl.length:Int)<=d.fa){j:Int}(c:∀k:Int,1<=k->k<d.fa+4->j≠d.node id k):ah (fD d id pg L) j=ah L j:=by
 unfold fD;rw[eZ _ _ _ _ (fun k a b=>c _ (by omega) (by omega))]
 unfold nv;rw[bu (c 3 (by omega) (by omega)),bu (c 2 (by omega) (by omega)),bu (c 1 (by omega) (by omega))]
theorem cO (hd:d.Ok){id id' k k':Int}(q:1<=id)(r:id<=d.no)(c:1<=id')(g:id' <= d.no)(hk:0<=k)(j:k<d.fa+4)(l:0<=k')(m:k' < d.fa+4)(h:id≠id'):d.node id k≠d.node id' k' := by
 have a:=(bZ hd q r hk j).1;have b:=(bZ hd c g l m).1;have f1:=hd.fy;intro e;rw[a,b]at e;rcases Int.lt_or_gt_of_ne h with o|o
 ·have:=Int.mul_le_mul_of_nonneg_right (show id-1+1<=id' - 1 by omega) (show 0<=d.fa+4 by omega)
  rw[Int.add_mul]at this;omega
 ·have:=Int.mul_le_mul_of_nonneg_right (show id' - 1+1<=id-1 by omega) (show 0<=d.fa+4 by omega)
  rw[Int.add_mul]at this;omega
def bT (d:aU)(L:List aQ)(row:List Nd):List aQ:=row.foldl (fun L nd=>fD d nd.id nd.pg L) L
theorem wu (L:List aQ)(row:List Nd)(nd:Nd):bT d L (row++[nd])=fD d nd.id nd.pg (bT d L row):=by simp[bT]
structure pK (d:aU)(row:List Nd):Prop where
 id:∀nd,nd∈row->1<=nd.id/\nd.id<=d.no
 le:∀nd,nd∈row->(nd.pg.sl.length:Int)<=d.fa
 aA:∀nd,nd∈row->0<=nd.pg.aA/\nd.pg.aA<1000000
 ri:∀nd,nd∈row->0<=nd.pg.ri/\nd.pg.ri<18446744073709551616
 rf:∀nd,nd∈row->∀s,s∈nd.pg.sl->0<=s.r/\s.r<18446744073709551616
 ne:row.Pairwise fun a b=>a.id≠b.id
theorem jE (row:List Nd):∀L:List aQ,(bT d L row).length=L.length:=by
 induction row with
 | nil=>intro L;rfl
 | cons nd row ih=>intro L;show(bT d _ row).length=_;rw[ih,l8]
theorem oU {row:List Nd}(hd:d.Ok):∀ {L:List aQ},pK d row->bL L->bL (bT d L row):=by
 induction row with
 | nil=>intro L _ h;exact h
 | cons nd row ih=>
  intro L b h;refine ih ⟨fun a c=>b.id a (by simp[c]),fun a c=>b.le a (by simp[c]),fun a c=>b.aA a (by simp[c]),fun a c=>b.ri a (by simp[c]),fun a c=>b.rf a (by simp[c]),(List.pairwise_cons.1 b.ne).2⟩ ?_
  have:=b.le nd (by simp);have:=hd.m7
  exact Tg h (by omega) (b.ri nd (by simp)) (b.rf nd (by simp))
theorem eH {row:List Nd}(f1:4<=d.fa):∀ {L:List aQ},(∀nd,nd∈row->(nd.pg.sl.length:Int)<=d.fa)->∀ {j:Int},(∀nd,nd∈row->∀k:Int,1<=k->k<d.fa+4->j≠d.node nd.id k)->ah (bT d L row) j=ah L j:=by
 induction row with
 | nil=>intro L _ j _;rfl
 | cons nd row ih=>
  intro L c j e;show ah (bT d _ row) j=_
  rw[ih (fun a b=>c a (by simp[b])) (fun a b=>e a (by simp[b])),Dm f1 (c nd (by simp)) (e nd (by simp))]
theorem sG {row:List Nd}(hd:d.Ok):∀ {L:List aQ},(L.length:Int)=d.cells->pK d row->∀nd,nd∈row->eO d nd.id (bT d L row) nd.pg:=by
 induction row with
 | nil=>intro L _ _ nd h;cases h
 | cons a row ih=>
  intro L hlen c nd m;have e:pK d row:=⟨fun a g=>c.id a (by simp[g]),fun a g=>c.le a (by simp[g]),fun a g=>c.aA a (by simp[g]),fun a g=>c.ri a (by simp[g]),fun a g=>c.rf a (by simp[g]),(List.pairwise_cons.1 c.ne).2⟩
  have o:((fD d a.id a.pg L).length:Int)=d.cells:=by rw[l8];exact hlen
  rcases List.mem_cons.1 m with rfl|l
  ·have hp:=Te hd (c.id nd (by simp)).1 (c.id nd (by simp)).2 hlen (c.aA nd (by simp)) (c.le nd (by simp))
   refine hp.frame (c.id nd (by simp)).1 (c.id nd (by simp)).2 hd.fy (fun k k1 k2=>?_)
   refine eH hd.fy (fun b j=>e.le b j) (fun b j k' r q=>?_)
   exact cO hd (c.id nd (by simp)).1 (c.id nd (by simp)).2 (e.id b j).1 (e.id b j).2 (by omega) k2 (by omega) q ((List.pairwise_cons.1 c.ne).1 b j)
  ·exact ih o e nd l
end
def cN:Nat->List ByteArray->List Sl
 | _,[]=>[]
 | i,k::ks=>⟨k,((i+1:Nat):Int)⟩::cN (i+1) ks
theorem gQ:∀(ks:List ByteArray)(i:Nat),(cN i ks).length=ks.length
 | [],_=>rfl
 | k::ks,i=>by simp[cN,gQ ks]
theorem uY:∀(ks:List ByteArray)(i:Nat)(k:ByteArray),cN i (ks++[k])=cN i ks++[⟨k,((i+ks.length+1:Nat):Int)⟩]
 | [],i,k=>rfl
 | a::ks,i,k=>by
  show _::cN (i+1) (ks++[k])=_
  rw[uY ks (i+1) k];simp only[cN,List.cons_append,List.length_cons];congr 4
  omega
theorem uZ:∀(ks:List ByteArray)(i j:Nat)(k:ByteArray),ks[j]?=some k->(cN i ks)[j]?=some ⟨k,((i+j+1:Nat):Int)⟩
 | [],i,j,k,h=>by simp at h
 | a::ks,i,0,k,h=>by simp at h;subst h;rfl
 | a::ks,i,j+1,k,h=>by
  have:=uZ ks (i+1) j k (by simpa using h)
  show(cN (i+1) ks)[j]?=_
  rw[this];congr 3
  omega
theorem lD:∀ {ks:List ByteArray}{i:Nat}{s:Sl},s∈cN i ks->s.k∈ks/\1<=s.r/\s.r<=((i+ks.length:Nat):Int)
 | [],_,_,h=>by cases h
 | k::ks,i,s,h=>by
  rcases List.mem_cons.1 h with rfl|h
  ·exact⟨by simp,by show(1:Int)<=((i+1:Nat):Int);omega,by show((i+1:Nat):Int)<=_;simp only[List.length_cons];omega⟩
  ·have:=lD h
   exact⟨by simp[this.1],this.2.1,by have:=this.2.2;simp only[List.length_cons];omega⟩
theorem xK:∀ {ks:List ByteArray}(i:Nat),s5 ks->kY (cN i ks)
 | [],_,_=>List.Pairwise.nil
 | k::ks,i,h=>by
  have b := List.pairwise_cons.1 h;exact List.pairwise_cons.2 ⟨fun s c=>b.1 _ (lD c).1,xK (i+1) b.2⟩
def kj (nd:Nd):Sl:=⟨nd.low,nd.id⟩
structure iA (row:List Nd)(i:Nat)(A:List Sl)(ee:Bool):Prop where
 mem:∀s,s∈A->∃nd,nd∈row.take i/\s=kj nd
 jP:kY A
 len:A.length<=i
 first:0<i->∃s,A[0]?=some s/\s.k=⟨#[]⟩
 full:ee=false->A=(row.take i).map kj
theorem fS.nQ {aA:Nat}{row:List Nd}(h:fS aA row):∀(j i:Nat)(a b:Nd),row[i]?=some a->row[j]?=some b->i<j->cA a.low b.low=true
 | 0,_,_,_,_,_,e=>by omega
 | j+1,i,a,b,k,l,e=>by
  obtain⟨c,hc⟩:∃c,row[j]?=some c:=⟨_,asx (by have:=(asu.1 l).1;omega)⟩
  have m:=(h.next j c b hc l).2.2.2;rcases Nat.eq_or_lt_of_le (show i<=j by omega)with rfl|g
  ·rw[k]at hc;cases hc;exact m
  ·exact gN (fS.nQ h j i a c k hc g) m
theorem iA.start (row:List Nd)(ee:Bool):iA row 0 [] ee:=⟨fun s h=>(by cases h),List.Pairwise.nil,Nat.le_refl _,fun h=>by omega,fun _=>rfl⟩
theorem iA.skip {row:List Nd}{i:Nat}{A:List Sl}{ee:Bool}(h:iA row i A ee)(hi:0<i)(g:ee=true):iA row (i+1) A ee:=by
 refine⟨fun s k=>?_,h.jP,by have:=h.len;omega,fun _=>h.first hi,fun e=>by rw[g]at e;cases e⟩
 obtain⟨nd,l,e⟩:=h.mem s k;refine⟨nd,?_,e⟩;obtain⟨j,b⟩:=ast l;have c:j<i:=by
  have:=(asu.1 b).1;simp at this;omega
 rw[List.getElem?_take,if_pos c]at b;exact asw (i:=j) (by rw[List.getElem?_take,if_pos (by omega)];exact b)
theorem iA.push {aA:Nat}{row:List Nd}{i:Nat}{A:List Sl}{ee:Bool}(h:iA row i A ee)(o:fS aA row){nd:Nd}(g:row[i]?=some nd):iA row (i+1) (A++[kj nd]) ee:=by
 have k:row.take (i+1)=row.take i++[nd]:=by rw[List.take_add_one,g];rfl
 refine⟨fun s b=>?_,?_,by have:=h.len;simp;omega,fun _=>?_,fun e=>?_⟩
 ·rcases List.mem_append.1 b with b|b
  ·obtain⟨a,l,e⟩:=h.mem s b
   exact⟨a,by rw[k];simp[l],e⟩
  ·simp at b;exact⟨nd,by rw[k];simp,b⟩
 ·refine List.pairwise_append.2 ⟨h.jP,List.pairwise_singleton _ _,fun x r y q=>?_⟩
  simp at q;subst q;obtain⟨a,l,rfl⟩:=h.mem x r;obtain⟨j,m⟩:=ast l;have c:j<i:=by
   have:=(asu.1 m).1;simp at this;omega
  rw[List.getElem?_take,if_pos c]at m;exact o.nQ i j a nd m g c
 ·rcases Nat.eq_zero_or_pos i with h0|h0
  ·subst h0
   have:A=[]:=List.length_eq_zero_iff.1 (by have:=h.len;omega)
   subst this;exact⟨kj nd,rfl,o.first nd g⟩
  ·obtain⟨s,b,e⟩:=h.first h0
   exact⟨s,by rw[List.getElem?_append_left (asu.1 b).1];exact b,e⟩
 ·rw[k,List.map_append,h.full e];rfl
theorem u6 (aA:Nat):∀(ps:List Nat)(low:ByteArray)(id:Int)(l:List Sl),ps.sum=l.length->0<ps.length->(dR aA low id l ps).flatMap (fun nd=>nd.pg.sl)=l
 | [],_,_,_,_,h=>by simp at h
 | [p],_,_,l,h,_=>by
  have b:p=l.length:=by simpa using h
  simp[dR,b]
 | p::q::ps,low,id,l,h,_=>by
  show l.take p++(dR aA _ _ (l.drop p) (q::ps)).flatMap _=l
  have c:p+(q::ps).sum=l.length:=by simpa using h
  rw[u6 aA (q::ps) _ _ (l.drop p) (by rw[List.length_drop];omega) (by simp),List.take_append_drop]
def fbF:Nat->Nat->Nat
 | 0,_=>0
 | f+1,m=>if m<=2 then 1 else(m+1) / 2+fbF f ((m+1) / 2)
def fb (m:Nat):Nat:=fbF 10 m
theorem Ld:∀m,m<=40->∀s,s<=m->fb s<=fb m:=by decide +kernel
theorem Lf:∀m,m<=40->3<=m->(m+1) / 2+fb ((m+1) / 2)<=fb m:=by decide +kernel
theorem Jb:∀m,m<=40->1<=fb m:=by decide +kernel
theorem Holds.frame {d:aU}(hd:d.Ok){id:Int}(c:1<=id)(g:id<=d.no){L L':List aQ}{pg:Pg}(hle:(pg.sl.length:Int)<=d.fa)(h:Holds L (bQ d id pg))(he:∀k:Int,1<=k->k<d.fa+4->ah L' (d.node id k)=ah L (d.node id k)):Holds L' (bQ d id pg):=fun q b=>by
 obtain⟨k,k1,k2,e⟩:=fZ hd c g hle q b;rw[←h q b,e];exact he k k1 k2
theorem fS.xL {aA:Nat}{row:List Nd}(h:fS aA row){nd:Nd}(c:nd∈row)(e:nd.pg.la=true):nd.pg.hi=⟨#[]⟩/\nd.pg.ri=0:=by
 obtain⟨i,hi⟩:=ast c;have g:=(asu.1 hi).1;rcases Nat.lt_or_ge (i+1) row.length with b|j
 ·have:=(h.next i nd _ hi (asx b)).1
  rw[e]at this;cases this
 ·exact(h.last i nd hi (by omega)).2
theorem nR {d:aU}{row:List Nd}(hd:d.Ok):∀ {L:List aQ},(L.length:Int)=d.cells->pK d row->(∀nd,nd∈row->nd.pg.la=true->nd.pg.hi=⟨#[]⟩)->∀nd,nd∈row->Holds (bT d L row) (bQ d nd.id nd.pg):=by
 induction row with
 | nil=>intro L _ _ _ nd h;cases h
 | cons a row ih=>
  intro L hlen c o nd q;have e:pK d row:=⟨fun a g=>c.id a (by simp[g]),fun a g=>c.le a (by simp[g]),fun a g=>c.aA a (by simp[g]),fun a g=>c.ri a (by simp[g]),fun a g=>c.rf a (by simp[g]),(List.pairwise_cons.1 c.ne).2⟩
  have l:((fD d a.id a.pg L).length:Int)=d.cells:=by rw[l8];exact hlen
  rcases List.mem_cons.1 q with rfl|m
  ·have hp:=Cy hd (c.id nd (by simp)).1 (c.id nd (by simp)).2 hlen (c.le nd (by simp)) (o nd (by simp))
   refine hp.frame hd (c.id nd (by simp)).1 (c.id nd (by simp)).2 (c.le nd (by simp)) (fun k k1 k2=>?_)
   refine eH hd.fy (fun b j=>e.le b j) (fun b j k' s r=>?_)
   exact cO hd (c.id nd (by simp)).1 (c.id nd (by simp)).2 (e.id b j).1 (e.id b j).2 (by omega) k2 (by omega) r ((List.pairwise_cons.1 c.ne).1 b j)
  ·exact ih l e (fun b j=>o b (by simp[j])) nd m
def nT (d:aU)(j:Int):Prop:=(1<=j/\j<d.A/\j≠4/\j≠5)\/d.B<=j
theorem nT.node {d:aU}(hd:d.Ok){j:Int}(h:nT d j){id k:Int}(e:1<=id)(c:id<=d.no)(hk:0<=k)(b:k<d.fa+4):j≠d.node id k:=by
 have h0:=bZ hd e c hk b;have g:=hd.eN;have f1:=hd.fy;have l:(id-1)*(d.fa+4)+(d.fa+4)=id*(d.fa+4):=by rw[Int.sub_mul];omega
 have m:id*(d.fa+4)<=d.no*(d.fa+4):=Int.mul_le_mul_of_nonneg_right c (by omega)
 have o:0<=(id-1)*(d.fa+4):=Int.mul_nonneg (by omega) (by omega)
 have q:d.B=d.A+d.no*(d.fa+4):=rfl;rcases h with h|h <;> omega
structure Ra (d:aU)(ks:List ByteArray)(ee:Bool)(L:List aQ)(S:List Sl)(t:List (List Nd))(nx:Nat):Prop where
 fq:(L.length:Int)=d.cells
 iq:bL L
 lat:∀id:Int,1<=id->id<=d.no->ah L (d.node id 0)=aQ.zero
 zero:∀j:Int,nT d j->ah L j=aQ.zero
 n5:ah L 5=⟨ks.length,⟨#[]⟩,0⟩
 rows:∀(k:Nat) (l:List Nd),t[k]?=some l->fS k l
 nodes:∀(k:Nat) (l:List Nd),t[k]?=some l->∀nd,nd∈l->wo d L nd/\nd.id<nx
 down:∀(k:Nat) (l l':List Nd),t[k]?=some l->t[k+1]?=some l' -> (∀nd,nd∈l' -> (∃s r,nd.pg.sl=s::r/\s.k=nd.low)/\∀s,s∈nd.pg.sl->∃c,c∈l/\c.id=s.r/\c.low=s.k)/\(ee=false->l'.flatMap (fun nd=>nd.pg.sl)=l.map kj)
 count:(t.map List.length).sum+1=nx
 leaves:∀l,t[0]?=some l->l.flatMap (fun nd=>nd.pg.sl)=cN 0 ks
 jP:kY S
 rf:∀s,s∈S->1<=s.r/\s.r<=1000000
 s0:t=[]->S=cN 0 ks
 s1:t≠[]->S≠[]/\(∀s,S[0]?=some s->s.k=⟨#[]⟩)/\∃l,t[t.length-1]?=some l/\(∀s,s∈S->∃c,c∈l/\c.id=s.r/\c.low=s.k)/\(ee=false->S=l.map kj)
 szS:∀s,s∈S->s.k.size<=32
 szL:∀(k:Nat) (l:List Nd),t[k]?=some l->∀nd,nd∈l->nd.low.size<=32
 half:∀(k:Nat) (l l':List Nd),t[k]?=some l->t[k+1]?=some l' -> 2*l'.length<=l.length+1
 ajP:∀(k:Nat) (l:List Nd),k+1=t.length->t[k]?=some l->S.length<=l.length
 r0:t=[]->S.length<=36\/36<ks.length
 r1:∀l,t[0]?=some l->l.length<=36\/36<ks.length
 id1:∀l,t[0]?=some l->∀nd,l[0]?=some nd->nd.id=1
 two:∀(k:Nat) (l:List Nd),t[k+1]?=some l->∀(i:Nat) (nd:Nd),l[i]?=some nd->i+1<l.length->2<=nd.pg.sl.length
 one:∀(k:Nat) (l:List Nd),t[k]?=some l->k+1<t.length->2<=l.length
section
variable {d:aU}{ks:List ByteArray}{ee:Bool}{L:List aQ}{S:List Sl}{t:List (List Nd)}{nx:Nat}
theorem Jc (a b:ByteArray):∀(f n:Nat),(eY a b f n).size<=b.size:=by
 intro f;induction f with
 | zero=>intro n;exact Nat.zero_le _
 | succ f ih=>
  intro n;unfold eY;split
  ·rw[ByteArray.size_extract];omega
  ·exact ih _
theorem Uj:∀(i:Nat)(ks:List ByteArray),(∀x,x∈ks->x.size<=32)->∀s,s∈cN i ks->s.k.size<=32:=fun i ks h s b=>h _ (lD b).1
theorem Zr (aA:Nat)(l:List Sl)(p:Nat)(h:∀s,s∈l->s.k.size<=32):(nO aA l p).size<=32:=by
 unfold nO;split
 ·rename_i a b e c
  split
  ·exact Nat.le_trans (Jc _ _ _ _) (h b (asw c))
  ·exact h b (asw c)
 ·rename_i b c _
  exact h b (asw c)
 ·exact Nat.zero_le _
theorem Dn (aA:Nat):∀(ps:List Nat)(low:ByteArray)(id:Int)(l:List Sl),low.size<=32->(∀s,s∈l->s.k.size<=32)->∀nd,nd∈dR aA low id l ps->nd.low.size<=32
 | [],_,_,_,_,_,nd,b=>by cases b
 | [p],low,id,l,c,_,nd,b=>by
  obtain rfl:nd=_:=List.mem_singleton.1 b;exact c
 | p::q::ps,low,id,l,c,e,nd,b=>by
  rcases List.mem_cons.1 (show nd∈(⟨id,low,⟨aA,l.take p,nO aA l p,false,id+1⟩⟩:Nd)::dR aA (nO aA l p) (id+1) (l.drop p) (q::ps)from b)with rfl|b
  ·exact c
  ·exact Dn aA (q::ps) _ _ _ (Zr aA l p e) (fun s g=>e s (List.mem_of_mem_drop g)) nd b
theorem Ra.start (hd:d.Ok)(b:∀x,x∈ks->x.size<=32)(hk:s5 ks)(hlen:ks.length<=40)(g:bL L)(c:(L.length:Int)=d.cells)(m:∀id:Int,1<=id->id<=d.no->ah L (d.node id 0)=aQ.zero)(hzero:∀j:Int,nT d j->ah L j=aQ.zero)(e:ah L 5=⟨ks.length,⟨#[]⟩,0⟩):Ra d ks ee L (cN 0 ks) [] 1:=
 ⟨c,g,m,hzero,e,fun k l h=>by simp at h,fun k l h=>by simp at h,fun k l l' h=>by simp at h,rfl,fun l h=>by simp at h,xK 0 hk,fun s o=>by have:=(lD o).2;omega,fun _=>rfl,fun h=>absurd rfl h,Uj 0 ks b,fun k l h=>by simp at h,fun k l l' h=>by simp at h,fun k l h=>by simp at h,fun _=>by rw[gQ];omega,fun l h=>by simp at h,fun l h=>by simp at h,fun k l h=>by simp at h,fun k l h=>by simp at h⟩
theorem Uk (h:Ra d ks ee L S t nx){least fa:Nat}{ps:List Nat}(hl:1<=least)(b:tI S.length least fa ps):fo S (if ps.length=0 then [0]else ps):=by
 split
 ·rename_i h0
  have hp:ps=[]:=List.length_eq_zero_iff.1 h0;have:=b.sum;rw[hp]at this;exact⟨h.jP,by simp,by simpa using this,.inr rfl⟩
 ·rename_i h0
  exact⟨h.jP,by omega,b.sum,.inl (fun p hp=>(b.bd p hp).1)⟩
theorem Zs (hd:d.Ok)(h:Ra d ks ee L S t nx){ps:List Nat}(hp:fo S ps)(m:∀p,p∈ps->(p:Int)<=d.fa)(C:1<=nx)(o:((nx+ps.length:Nat):Int)<=d.no+1)(D:t.length<=1000) :
  pK d (dR t.length ⟨#[]⟩ nx S ps):=by
 have E:=hd.m6;have g : ∀nd,nd∈dR t.length ⟨#[]⟩ nx S ps->∃(i p:Nat),(dR t.length ⟨#[]⟩ nx S ps)[i]?=some nd/\ps[i]?=some p/\i<ps.length/\nd.id=nx+i/\nd.pg.aA=t.length/\nd.pg.sl=(S.drop (ps.take i).sum).take p/\((i+1=ps.length/\nd.pg.ri=0)\/(i+1<ps.length/\nd.pg.ri=nx+i+1)):=by
  intro nd c;obtain⟨i,hi⟩:=ast c;obtain⟨p,l,q,r,u,G,x⟩:=gB hp hi;refine⟨i,p,hi,l,(asu.1 l).1,q,r,u,?_⟩;rcases x with⟨a,b⟩|⟨a,b⟩
  ·rw[b];exact .inl ⟨a,rfl⟩
  ·rw[b];exact .inr ⟨a,rfl⟩
 refine⟨fun nd c=>?_,fun nd c=>?_,fun nd c=>?_,fun nd c=>?_,fun nd c s y=>?_,?_⟩
 ·obtain⟨i,p,_,_,hi,e,_⟩:=g nd c
  rw[e];omega
 ·obtain⟨i,p,_,k,hi,_,_,e,_⟩:=g nd c
  rw[e];have:=m p (asw k);have H:((S.drop (ps.take i).sum).take p).length<=p:=List.length_take_le _ _;omega
 ·obtain⟨i,p,_,_,hi,_,e,_⟩:=g nd c
  rw[e];omega
 ·obtain⟨i,p,_,_,hi,_,_,_,e⟩:=g nd c
  rcases e with⟨_,e⟩|⟨_,e⟩ <;> rw[e] <;> omega
 ·obtain⟨i,hi⟩:=ast c
  have:=h.rf s (Dl hp hi y).1;omega
 ·rw[List.pairwise_iff_getElem]
  intro i j hi z A;obtain⟨_,_,B,_⟩:=gB hp (asx hi);obtain⟨_,_,e2,_⟩:=gB hp (asx z);rw[B,e2];omega
theorem wo.frame (hd:d.Ok){L':List aQ}{nd:Nd}(h:wo d L nd)(he:∀k:Int,0<=k->k<d.fa+4->ah L' (d.node nd.id k)=ah L (d.node nd.id k)):wo d L' nd:=
 ⟨h.id,h.page.frame h.id.1 h.id.2 hd.fy (fun k a b=>he k (by omega) b),h.hold.frame hd h.id.1 h.id.2 h.page.le (fun k a b=>he k (by omega) b),by rw[he 0 (by omega) (by have:=hd.fy;omega)];exact h.free,h.jP,h.rf,h.bd⟩
theorem getElem?_push {α:Type}(l:List α)(a:α)(k:Nat)(x:α)(h:(l++[a])[k]?=some x):l[k]?=some x\/(k=l.length/\x=a):=by
 rcases Nat.lt_or_ge k l.length with hk|hk
 ·left;rwa [List.getElem?_append_left hk]at h
 ·right
  rw[List.getElem?_append_right hk]at h;have:k-l.length=0:=by
   have:=(asu.1 h).1;simp at this;omega
  rw[this]at h;exact⟨by omega,by simpa using h.symm⟩
theorem Ra.step (hd:d.Ok)(h:Ra d ks ee L S t nx){ps:List Nat}{A:List Sl}(hp:fo S ps)(pQ:∀p,p∈ps->(p:Int)<=d.fa)(zQ:1<=nx)(R:((nx+ps.length:Nat):Int)<=d.no+1)(cj:t.length<=1000)
  (E:iA (dR t.length ⟨#[]⟩ nx S ps) ps.length A ee) (hh:t≠[]->2*ps.length<=S.length+1) (T:t≠[]->∀(i p:Nat),ps[i]?=some p->i+1<ps.length->2<=p) (H:∀l,t[t.length-1]?=some l->2<=l.length):Ra d ks ee (bT d L (dR t.length ⟨#[]⟩ nx S ps)) A (t++[dR t.length ⟨#[]⟩ nx S ps]) (nx+ps.length):=by
 have g:=Zs hd h hp pQ zQ R cj;have D:=Dk (aA:=t.length) (id:=(nx:Int)) hp;have B:=fk t.length ps ⟨#[]⟩ (nx:Int) S;have I:=u6 t.length ps ⟨#[]⟩ (nx:Int) S hp.sum hp.ne;have Q:=hd.fy;have U:=sG hd h.fq g;have rH:t≠[]->∀nd,nd∈dR t.length ⟨#[]⟩ nx S ps->∃s r,nd.pg.sl=s::r/\s.k=nd.low:=fun C nd c=>by
  obtain⟨i,hi⟩:=ast c;obtain⟨u,z,_⟩:=h.s1 C;exact Ja hp (by rcases t with _|_;exact absurd rfl C;simp) z u hi
 have x:∀nd,nd∈dR t.length ⟨#[]⟩ nx S ps->(nx:Int)<=nd.id/\nd.id<((nx+ps.length:Nat):Int):=fun nd c=>by
  obtain⟨i,hi⟩:=ast c;obtain⟨p,u,z,_⟩:=gB hp hi;have:=(asu.1 u).1;rw[z];omega
 have o:∀nd,nd∈dR t.length ⟨#[]⟩ nx S ps->∀s,s∈nd.pg.sl->s∈S/\cA s.k nd.low=false/\(nd.pg.la=false->cA s.k nd.pg.hi=true):=fun nd c s m=>by
  obtain⟨i,hi⟩:=ast c;exact Dl hp hi m
 have dL:∀nd,nd∈dR t.length ⟨#[]⟩ nx S ps->kY nd.pg.sl:=fun nd c=>by
  obtain⟨i,hi⟩:=ast c;exact Zq hp hi
 have Tx:∀nd,(dR t.length ⟨#[]⟩ nx S ps)[0]?=some nd->nd.id=(nx:Int):=fun nd h=>by
  obtain⟨p,_,z,_⟩:=gB hp h;rw[z];simp
 have J:=Dn t.length ps ⟨#[]⟩ (nx:Int) S (Nat.zero_le _) h.szS;have V:∀(i:Nat) (nd:Nd),(dR t.length ⟨#[]⟩ nx S ps)[i]?=some nd->∃p,ps[i]?=some p/\nd.pg.sl.length=p:=fun i nd hi=>by
  obtain⟨p,u,_,_,W,q5,_⟩:=gB hp hi;exact⟨p,u,by rw[W,List.length_take,List.length_drop];omega⟩
 generalize dR t.length ⟨#[]⟩ nx S ps=row at *;have jx:∀id:Int,1<=id->id<=d.no->id<nx->∀k:Int,0<=k->k<d.fa+4->ah (bT d L row) (d.node id k)=ah L (d.node id k):=by
  intro id i1 i2 i3 k k0 k1;refine eH Q g.le (fun nd c k' a b=>?_)
  have:=x nd c;exact cO hd i1 i2 (g.id nd c).1 (g.id nd c).2 k0 k1 (by omega) b (by omega)
 have qI:∀id:Int,1<=id->id<=d.no->ah (bT d L row) (d.node id 0)=aQ.zero:=by
  intro id i1 i2;rw[eH Q g.le (fun nd c k' a b=>?_)]
  ·exact h.lat id i1 i2
  ·by_cases e:id=nd.id
   ·subst e;exact dH hd i1 i2 (by omega) (by omega) (by omega) b (by omega)
   ·exact cO hd i1 i2 (g.id nd c).1 (g.id nd c).2 (by omega) (by omega) (by omega) b e
 have M:∀nd,nd∈row->wo d (bT d L row) nd:=fun nd c=>
  ⟨g.id nd c,U nd c,nR hd h.fq g (fun b hb hl=>(D.xL hb hl).1) nd c,by rw[qI nd.id (g.id nd c).1 (g.id nd c).2];exact ou.zero,dL nd c,fun s m=>(h.rf s (o nd c s m).1).1,fun s m=>(o nd c s m).2⟩
 have X:∀s,s∈A->∃nd,nd∈row/\s=kj nd:=fun s m=>by
  obtain⟨nd,c,e⟩:=E.mem s m;exact⟨nd,List.mem_of_mem_take c,e⟩
 have hzero:∀j:Int,nT d j->ah (bT d L row) j=aQ.zero:=fun j hj=>by
  rw[eH Q g.le (fun nd c k' a b=>hj.node hd (g.id nd c).1 (g.id nd c).2 (by omega) b)]
  exact h.zero j hj
 have Y:ah (bT d L row) 5=⟨ks.length,⟨#[]⟩,0⟩:=by
  rw[eH Q g.le (fun nd c k' a b=>?_)]
  ·exact h.n5
  ·have E:=hd.eN
   have h0:=(bZ hd (g.id nd c).1 (g.id nd c).2 (k:=k') (by omega) b).1
   have m3:0<=(nd.id-1)*(d.fa+4):=Int.mul_nonneg (by have:=(g.id nd c).1;omega) (by omega)
   omega
 refine⟨by rw[jE];exact h.fq,oU hd g h.iq,qI,hzero,Y,fun k l hk=>?_,fun k l hk nd c=>?_,fun k l l' hk y =>?_,?_,fun l hl=>?_,E.jP,fun s m=>?_,fun e=>by simp at e,fun _=>⟨?_,fun s m=>?_,row,by simp,fun s m=>?_,fun e=>?_⟩,fun s m=>?_,fun k l hk nd c=>?_,fun k l l' hk y =>?_,fun k l N hk=>?_,fun e=>by simp at e,fun l hl=>?_,fun l hl nd O=>?_,fun k l hk i nd hi Z=>?_,fun k l hk N=>?_⟩
 ·rcases getElem?_push _ _ _ _ hk with hk|⟨rfl,rfl⟩
  ·exact h.rows k l hk
  ·exact D
 ·rcases getElem?_push _ _ _ _ hk with hk|⟨rfl,rfl⟩
  ·obtain⟨u,z⟩:=h.nodes k l hk nd c
   exact⟨u.frame hd (fun k a b=>jx nd.id u.id.1 u.id.2 z k a b),by push_cast;omega⟩
  ·exact⟨M nd c,(x nd c).2⟩
 ·rcases getElem?_push _ _ _ _ hk with q|⟨rfl,rfl⟩
  ·rcases getElem?_push _ _ _ _ y with G|⟨e,rfl⟩
   ·exact h.down k l l' q G
   ·have C:t≠[]:=fun e2=>by subst e2;simp at q
    obtain⟨u,z,l2,q3,W,q5⟩:=h.s1 C;rw[show t.length-1=k by omega,q]at q3
    cases q3;refine⟨fun nd c=>⟨rH C nd c,fun s m=>W s (o nd c s m).1⟩,fun e=>by rw[I];exact q5 e⟩
  ·have:=(asu.1 y).1
   simp at this
 ·rw[List.map_append,List.sum_append]
  have:=h.count;simp only[List.map_cons,List.map_nil,List.sum_cons,List.sum_nil,B];omega
 ·rcases getElem?_push _ _ _ _ hl with hl|⟨e,rfl⟩
  ·exact h.leaves l hl
  ·rw[I]
   exact h.s0 (List.length_eq_zero_iff.1 e.symm)
 ·obtain⟨nd,c,rfl⟩:=X s m
  have:=g.id nd c;have jw:=hd.m6;show 1<=nd.id/\nd.id<=1000000
  omega
 ·obtain⟨s,m,_⟩:=E.first hp.ne
  intro e;rw[e]at m;simp at m
 ·obtain⟨s',P,e⟩:=E.first hp.ne
  rw[m]at P;cases P;exact e
 ·obtain⟨nd,c,rfl⟩:=X s m
  exact⟨nd,c,rfl,rfl⟩
 ·rw[E.full e,←B,List.take_length]
 ·obtain⟨nd,c,rfl⟩:=X s m
  exact J nd c
 ·rcases getElem?_push _ _ _ _ hk with hk|⟨rfl,rfl⟩
  ·exact h.szL k l hk nd c
  ·exact J nd c
 ·rcases getElem?_push _ _ _ _ hk with q|⟨rfl,rfl⟩
  ·rcases getElem?_push _ _ _ _ y with G|⟨e,rfl⟩
   ·exact h.half k l l' q G
   ·have H:=h.ajP k l e q
    have T:=hh (fun e=>by subst e;simp at q)
    omega
  ·have:=(asu.1 y).1
   simp at this
 ·have N:k=t.length:=by simpa using N
  rw[N,List.getElem?_append_right (Nat.le_refl _),Nat.sub_self]at hk;obtain rfl:row=l:=by simpa using hk
  rw[B];exact E.len
 ·rcases getElem?_push _ _ _ _ hl with hl|⟨e,rfl⟩
  ·exact h.r1 l hl
  ·have C:t=[]:=List.length_eq_zero_iff.1 e.symm
   have H:=h.r0 C;have T:ps.length<=S.length\/ps.length<=1:=by
    rcases hp.pos with hq|hq
    ·have:=rG hq;rw[hp.sum]at this;exact .inl this
    ·rw[hq];exact .inr (Nat.le_refl _)
   rw[B];omega
 ·rcases getElem?_push _ _ _ _ hl with hl|⟨e,rfl⟩
  ·exact h.id1 l hl nd O
  ·have C:t=[]:=List.length_eq_zero_iff.1 e.symm
   have H:=h.count;rw[C]at H;simp at H;rw[Tx nd O];omega
 ·rcases getElem?_push _ _ _ _ hk with hk|⟨e,rfl⟩
  ·exact h.two k l hk i nd hi Z
  ·obtain⟨p,u,z⟩:=V i nd hi
   rw[z];exact T (fun e2=>by subst e2;simp at e) i p u (by omega)
 ·have ox:k<t.length:=by simp at N;omega
  rw[List.getElem?_append_left ox]at hk;rcases Nat.lt_or_ge (k+1) t.length with h3|h3
  ·exact h.one k l hk h3
  ·exact H l (by rw[show t.length-1=k by omega];exact hk)
structure oV (d:aU)(ks:List ByteArray)(ee:Bool)(L:List aQ)(t:List (List Nd)):Prop where
 ok:cT d L t
 iq:bL L
 fq:(L.length:Int)=d.cells
 leaves:∀l,t[0]?=some l->l.flatMap (fun nd=>nd.pg.sl)=cN 0 ks
 full:ee=false->∀(k:Nat) (l l':List Nd),t[k]?=some l->t[k+1]?=some l' -> l'.flatMap (fun nd=>nd.pg.sl)=l.map kj
 lat:∀id:Int,1<=id->id<=d.no->ah L (d.node id 0)=aQ.zero
 zero:∀j:Int,nT d j->ah L j=aQ.zero
 n5:(ah L 5).n=ks.length
 ae9:(t.map List.length).sum<=100
 low:∀(k:Nat) (l:List Nd),t[k]?=some l->∀nd,nd∈l->nd.low.size<=32
 half:∀(k:Nat) (l l':List Nd),t[k]?=some l->t[k+1]?=some l' -> 2*l'.length<=l.length+1
 Zt:∀l,t[0]?=some l->l.length<=36\/36<ks.length
 id1:∀l,t[0]?=some l->∀nd,l[0]?=some nd->nd.id=1
 Um:∀l,t[t.length-1]?=some l->l.length=1
 Zu:(ah L 4).n<=100
 two:∀(k:Nat) (l:List Nd),t[k+1]?=some l->∀(i:Nat) (nd:Nd),l[i]?=some nd->i+1<l.length->2<=nd.pg.sl.length
 one:∀(k:Nat) (l:List Nd),t[k]?=some l->k+1<t.length->2<=l.length
theorem Ra.last (hd:d.Ok)(h:Ra d ks ee L S t nx){nd:Nd}(g:t[t.length-1]?=some [nd])(hid:nd.id=(nx:Int)-1)(z:nx<=101){L':List aQ}(h0:(ah L' 0).n=(nx:Int)-1)(y:(ah L' 4).n=(nx:Int)-1)(m:∀j:Int,1<=j->j≠4->ah L' j=ah L j)(hc:bL L')(r:L'.length=L.length):oV d ks ee L' t:=by
 have s:0<t.length:=by
  have:=(asu.1 g).1;omega
 have C:=hd.fy;have D:=hd.eN;have o:∀id k:Int,1<=id->id<=d.no->0<=k->k<d.fa+4->8<=d.node id k:=fun id k i1 i2 a b=>by
  have n0:=(bZ hd i1 i2 a b).1;have E:0<=(id-1)*(d.fa+4):=Int.mul_nonneg (by omega) (by omega)
  omega
 have G:=((h.nodes _ _ g nd (by simp)).1).id
 refine⟨⟨s,h.rows,fun k l hk nd u=>?_,⟨nd,[],g,by rw[h0,hid]⟩,fun k l l' hk c => (h.down k l l' hk c).1,by have:=h.count;omega,by omega,fun k l hk nd u=>by have:=(h.nodes k l hk nd u).2;rw[y];omega⟩,hc,by rw[r];exact h.fq,h.leaves,fun e k l l' hk c => (h.down k l l' hk c).2 e,fun id a b=>?_,fun j x=>?_,?_,by have:=h.count;omega,h.szL,h.half,h.r1,h.id1,fun l hl=>by rw[g]at hl;rw[←asy hl];rfl,by omega,h.two,h.one⟩
 ·have q:=(h.nodes k l hk nd u).1
  exact q.frame hd (fun k a b=>m _ (by have:=o nd.id k q.id.1 q.id.2 a b;omega) (by have:=o nd.id k q.id.1 q.id.2 a b;omega))
 ·rw[m _ (by have:=o id 0 a b (by omega) (by omega);omega) (by have:=o id 0 a b (by omega) (by omega);omega)]
  exact h.lat id a b
 ·have hB:d.A<=d.B:=by
   have:=Int.mul_nonneg (a:=d.no) (b:=d.fa+4) (by have:=hd.Ke;omega) (by omega)
   show d.A<=d.A+d.no*(d.fa+4)
   omega
  rw[m j (by rcases x with h|h <;> omega) (by rcases x with h|h <;> omega)]
  exact h.zero j x
 ·rw[m 5 (by omega) (by omega),h.n5]
end
end
section
set_option linter.unusedSectionVars false
section
variable {d:aU}(hd:d.Ok){fr:cC}{fu p:Pg}{L:List aQ}{ps:List Pt}{id:Int}
include hd
theorem nI.addr (h:nI d fr p ps)(c:1<=fr.id)(g:fr.id<=d.no)(hle:(p.sl.length:Int)<=d.fa):∀q,q∈ps->∃k:Int,0<=k/\k<d.fa+4/\q.i=d.node fr.id k:=by
 have f1:=hd.fy;obtain⟨mid,j,rfl⟩:=h;intro q b;simp only[List.cons_append,List.mem_cons,List.mem_append,List.not_mem_nil,or_false]at b;rcases b with rfl|b|rfl
 ·exact⟨0,by omega,by omega,rfl⟩
 ·obtain⟨k,k1,k2,e⟩:=fZ hd c g hle q (j.1.subset b)
  exact⟨k,by omega,k2,e⟩
 ·exact⟨0,by omega,by omega,rfl⟩
theorem aco (hw:nI d fr p ps)(b:1<=fr.id)(c:fr.id<=d.no)(hle:(p.sl.length:Int)<=d.fa)(hlen:(L.length:Int)=d.cells)(g:Holds L (bQ d fr.id fr.pg)) :
  Holds (fN L ps) (bQ d fr.id p)/\(ah (fN L ps) (d.node fr.id 0)).n=dW (bH fr.word)/\∀j:Int,(∀k:Int,0<=k->k<d.fa+4->j≠d.node fr.id k)->ah (fN L ps) j=ah L j:=by
 have h:=hw.addr hd b c hle;obtain⟨mid,l,rfl⟩:=hw;refine⟨Nv hd b c g l hlen hle,?_,fun j m=>iR _ _ _ fun q o=>?_⟩
 ·rw[uO hd b c hlen]
 ·obtain⟨k,k1,k2,e⟩:=h q o
  rw[e];exact m k k1 k2
end
theorem ve {d:aU}{id:Int}:∀(l:List Sl)(i:Nat),(∀s,s∈l->0<=s.r/\s.r<18446744073709551616)->∀q,q∈gA d id i l->nk q.c
 | [],_,_,q,h=>by cases h
 | s::l,i,b,q,h=>by
  rcases List.mem_cons.1 h with rfl|h
  ·exact b s List.mem_cons_self
  ·exact ve l (i+1) (fun s e=>b s (List.mem_cons_of_mem _ e)) q h
theorem pL {d:aU}{id:Int}{pg:Pg}(hd:d.Ok)(h:o9 d pg):∀q,q∈bQ d id pg->nk q.c:=fun q b=>by
 have f2:=hd.m7;have hle:=h.le;rcases List.mem_append.1 b with b|b
 ·exact ve pg.sl 0 h.r q b
 ·simp only[List.mem_cons,List.not_mem_nil,or_false]at b
  rcases b with rfl|rfl|rfl
  ·show nk (mI pg)
   unfold mI;cases pg.la
   ·exact⟨by show(0:Int)<=0;omega,by show(0:Int)<18446744073709551616;omega⟩
   ·exact⟨by show(0:Int)<=0;omega,by show(0:Int)<18446744073709551616;omega⟩
  ·exact h.ri
  ·exact⟨by show(0:Int)<=pg.sl.length;omega,by show(pg.sl.length:Int)<_;omega⟩
theorem Oh {d:aU}{fr:cC}{p:Pg}{ps:List Pt}(hd:d.Ok)(e:fr.Ok d)(hp:o9 d p)(hw:nI d fr p ps):∀q,q∈ps->nk q.c:=by
 obtain⟨mid,g,rfl⟩:=hw;intro q b;have h:=e.word;simp only[List.cons_append,List.mem_cons,List.mem_append,List.not_mem_nil,or_false]at b;rcases b with rfl|b|rfl
 ·show 0<=bH fr.word/\bH fr.word<18446744073709551616
  unfold bH;split <;> omega
 ·exact pL hd hp q (g.1.subset b)
 ·show 0<=dW (bH fr.word)/\dW (bH fr.word)<18446744073709551616
  unfold dW;rw[IntKind.wrap_u64];omega
theorem gR {d:aU}(hd:d.Ok){id:Int}(b:1<=id)(c:id<=d.no):∀k:Int,0<=k->k<d.fa+4->(4:Int)≠d.node id k:=fun k k1 k2=>by
 have e:=hd.eN;have f1:=hd.fy;have h:=bZ hd b c k1 k2;have h0:0<=(id-1)*(d.fa+4):=Int.mul_nonneg (by omega) (by omega)
 omega
theorem jY {l:List Sl}{key:ByteArray}{r:Int}{s:Sl}(h:s∈fc l key r):s∈l\/s=⟨key,r⟩:=by
 unfold fc at h;rcases List.mem_append.1 h with h|h
 ·exact .inl (List.mem_of_mem_take h)
 ·rcases List.mem_cons.1 h with h|h
  ·exact .inr h
  ·exact .inl (List.mem_of_mem_drop h)
theorem lB.ins {d:aU}{fr:cC}{key:ByteArray}{r:Int}(b:o9 d fr.pg)(hk:∀s,s∈fr.pg.sl->s.k.size<=1000000)(c:key.size<=1000000)(g:0<=r/\r<18446744073709551616):lB d fr (aI fr.pg key r):=by
 refine⟨rfl,?_,fun s e=>?_,fun s e=>?_,b.hi,b.la,b.ri⟩
 ·show((fc fr.pg.sl key r).length:Int)<=_
  rw[dU];have:=b.le;omega
 ·rcases jY e with h|h
  ·exact b.r s h
  ·rw[h];exact g
 ·rcases jY e with h|h
  ·exact hk s h
  ·rw[h];exact c
end
end Go.Proofs.YtlpdhhhgckpcfaaGreat
