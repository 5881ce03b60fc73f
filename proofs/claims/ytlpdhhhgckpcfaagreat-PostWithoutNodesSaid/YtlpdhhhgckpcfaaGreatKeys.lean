
/- The order of keys; keys.Compare, keys.ag5; page.Find, page.Child, page.Below. akt aaH of keys. -/
import Derived.Test.YtlpdhhhgckpcfaaGreatNodeB
namespace Go.Proofs.YtlpdhhhgckpcfaaGreat
set_option maxHeartbeats 16000000
open Go.RowKit
set_option maxRecDepth 100000
abbrev cE (a b:ByteArray):Bool:=Op.bytesLess a.toList b.toList
theorem wH:∀ x:List UInt8,Op.bytesLess x x=false
 | []=>rfl
 | a::x=>by simp[Op.bytesLess,wH x]
theorem Aa:∀ x y z:List UInt8,Op.bytesLess x y=true->Op.bytesLess y z=true->Op.bytesLess x z=true
 | _,[],_,h,_=>by cases ‹List UInt8› <;> simp[Op.bytesLess]at h
 | _,_::_,[],_,h=>by simp[Op.bytesLess]at h
 | [],_::_,_::_,_,_=>rfl
 | a::x,b::y,c::z,h,k=>by
  simp only[Op.bytesLess,Bool.or_eq_true,decide_eq_true_eq,Bool.and_eq_true,beq_iff_eq]at h k ⊢;have ih:=Aa x y z;rcases h with h|⟨rfl,h⟩
  ·rcases k with k|⟨rfl,k⟩
   ·left;exact UInt8.lt_trans h k
   ·left;exact h
  ·rcases k with k|⟨rfl,k⟩
   ·left;exact k
   ·right;exact⟨rfl,ih h k⟩
theorem Ab:∀ x y:List UInt8,Op.bytesLess x y=false->Op.bytesLess y x=false->x=y
 | [],[],_,_=>rfl
 | [],_::_,h,_=>by simp[Op.bytesLess]at h
 | _::_,[],_,h=>by simp[Op.bytesLess]at h
 | a::x,b::y,h,k=>by
  simp only[Op.bytesLess,Bool.or_eq_false_iff,decide_eq_false_iff_not,Bool.and_eq_false_iff,beq_eq_false_iff_ne,ne_eq]at h k;have hab:a=b:=UInt8.le_antisymm (UInt8.not_lt.1 k.1) (UInt8.not_lt.1 h.1);subst hab;rw[Ab x y (by simpa using h.2) (by simpa using k.2)]
theorem dI (a:ByteArray):cE a a=false:=wH _
theorem gz {a b c:ByteArray}(h:cE a b=true)(k:cE b c=true):cE a c=true:=Aa _ _ _ h k
theorem jI {a b:ByteArray}(h:cE a b=true):cE b a=false:=by
 cases e:cE b a with
 | false=>rfl
 | true=>have:=gz h e;rw[dI]at this;cases this
theorem xO {a b:ByteArray}(h:a.toList=b.toList):a=b:=by
 rw[ByteArray.toList_eq,ByteArray.toList_eq]at h;exact ByteArray.ext (Array.ext' h)
theorem gA {a b:ByteArray}(h:cE a b=false)(k:cE b a=false):a=b:=xO (Ab _ _ h k)
theorem Fg {a b:ByteArray}(h:cE a b=true):a≠b:=fun e=>by subst e;rw[dI]at h;cases h
theorem jJ {a b c:ByteArray}(h:cE b a=false)(k:cE b c=true):cE a c=true:=by
 cases e:cE a b with
 | true=>exact gz e k
 | false=>rw[gA e h];exact k
theorem Ll {a b c:ByteArray}(h:cE a b=true)(k:cE c b=false):cE a c=true:=by
 cases e:cE b c with
 | true=>exact gz h e
 | false=>rw[← gA e k];exact h
theorem pY {a b c:ByteArray}(h:cE b a=false)(k:cE c b=false):cE c a=false:=by
 cases e:cE c a with
 | false=>rfl
 | true=>have:=Ll e h;rw[k]at this;cases this
theorem jK (a:ByteArray):cE a ⟨#[]⟩=false:=by
 unfold cE;have:(⟨#[]⟩:ByteArray).toList=[]:=by rw[ByteArray.toList_eq]
 rw[this];cases a.toList <;> rfl
theorem jA {a b:ByteArray}(h:a≠b):(a.toList == b.toList)=false:=by
 rw[beq_eq_false_iff_ne];exact fun e=>h (xO e)
theorem Ac (a b:ByteArray)(w:World):Calls Tryz.prog 160 #[.string a,.string b] w fun e w' => e=.returned (.int .i64 (if cE a b then -1 else if cE b a then 1 else 0))/\w=w' := by
 go_enter Tryz.func160,Tryz.ntmps160
 cases h:cE a b with
 | true=>
  go_wp2
  go_ret;exact⟨rfl,rfl⟩
 | false=>
  cases h2:cE b a with
  | true=>
   have h3:=jA (Fg h2).symm;go_wp2
   go_ret;exact⟨rfl,rfl⟩
  | false=>
   obtain rfl:=gA h h2;have h3:(a.toList == a.toList)=true:=beq_self_eq_true _;go_wp2
   go_ret;exact⟨rfl,rfl⟩
theorem tQ (key low high:ByteArray)(last:Bool)(w:World):Calls Tryz.prog 138 #[.string key,.string low,.string high,.bool last] w fun e w' => e=.returned (.bool (!cE key low && (last || cE key high)))/\w=w' := by
 go_enter Tryz.func138,Tryz.ntmps138
 cases h:cE key low <;> cases h2:last <;> cases h3:cE key high <;> go_wp2 <;> go_ret <;> exact⟨rfl,rfl⟩
def kV (l:List Sl):Prop:=l.Pairwise fun x y=>cE x.k y.k=true
def gM (l:List Sl)(key:ByteArray):Nat:=l.countP fun s=>cE s.k key
def je (l:List Sl)(key:ByteArray):Nat:=l.countP fun s => !cE key s.k
theorem tR (l:List Sl)(key:ByteArray):gM l key<=l.length:=List.countP_le_length
theorem xP (l:List Sl)(key:ByteArray):je l key<=l.length:=List.countP_le_length
theorem j9 {key:ByteArray}:∀ {l:List Sl},kV l->∀ {i:Nat}{s:Sl},l[i]?=some s->(cE s.k key=true↔i<gM l key)
 | [],_,i,s,h=>by simp at h
 | a::l,h,i,s,hs=>by
  have h' := List.pairwise_cons.1 h;cases ha:cE a.k key with
  | true=>
   have e:gM (a::l) key=gM l key+1:=by simp[gM,ha]
   rw[e];cases i with
   | zero=>simp at hs;subst hs;simp[ha]
   | succ i=>rw[j9 h'.2 (by simpa using hs)];omega
  | false=>
   have e:gM (a::l) key=0:=by
    unfold gM;rw[List.countP_eq_zero];intro x hx;rcases List.mem_cons.1 hx with rfl|hx
    ·simp[ha]
    ·have h1:=h'.1 x hx
     cases hxk:cE x.k key with
     | false=>simp
     | true=>have:=gz h1 hxk;rw[ha]at this;cases this
   rw[e];have:cE s.k key=false:=by
    cases i with
    | zero=>simp at hs;subst hs;exact ha
    | succ i=>
     have h1:=h'.1 s (aqs (by simpa using hs))
     cases hxk:cE s.k key with
     | false=>rfl
     | true=>have:=gz h1 hxk;rw[ha]at this;cases this
   simp[this]
theorem lT {key:ByteArray}:∀ {l:List Sl},kV l->∀ {i:Nat}{s:Sl},l[i]?=some s->(cE key s.k=false↔i<je l key)
 | [],_,i,s,h=>by simp at h
 | a::l,h,i,s,hs=>by
  have h' := List.pairwise_cons.1 h;cases ha:cE key a.k with
  | false=>
   have e:je (a::l) key=je l key+1:=by simp[je,ha]
   rw[e];cases i with
   | zero=>simp at hs;subst hs;simp[ha]
   | succ i=>rw[lT h'.2 (by simpa using hs)];omega
  | true=>
   have e:je (a::l) key=0:=by
    unfold je;rw[List.countP_eq_zero];intro x hx;rcases List.mem_cons.1 hx with rfl|hx
    ·simp[ha]
    ·simp[gz ha (h'.1 x hx)]
   rw[e];have:cE key s.k=true:=by
    cases i with
    | zero=>simp at hs;subst hs;exact ha
    | succ i=>exact gz ha (h'.1 s (aqs (by simpa using hs)))
   simp[this]
theorem sM {key:ByteArray}{l:List Sl}(h:kV l):je l key=gM l key\/(je l key=gM l key+1/\∃ s,l[gM l key]?=some s/\s.k=key):=by
 have h1:=tR l key;have h2:=xP l key;have le:gM l key<=je l key:=by
  rcases Nat.lt_or_ge (je l key) (gM l key)with h3|h3
  ·obtain⟨s,hs⟩:∃ s,l[je l key]?=some s:=⟨_,aqt (by omega)⟩
   have a:=(j9 h hs).2 h3;have b:=mt (lT (key:=key) h hs).1 (by omega)
   rw[jI a]at b;simp at b
  ·exact h3
 rcases Nat.lt_or_ge (gM l key) (je l key)with h3|h3
 ·right
  have one:∀ i,gM l key<=i->i<je l key->∃ s,l[i]?=some s/\s.k=key:=by
   intro i hi hi2;obtain⟨s,hs⟩:∃ s,l[i]?=some s:=⟨_,aqt (by omega)⟩
   have a:=mt (j9 (key:=key) h hs).1 (by omega)
   have b:=(lT h hs).2 hi2;exact⟨s,hs,gA (by simpa using a) b⟩
  refine⟨?_,one _ (Nat.le_refl _) h3⟩;rcases Nat.lt_or_ge (gM l key+1) (je l key)with h4|h4
  ·obtain⟨s,hs,e⟩:=one _ (Nat.le_refl _) h3
   obtain⟨s',hs',e'⟩:=one (gM l key+1) (by omega) h4
   have:=List.pairwise_iff_getElem.1 h _ _ (aqq.1 hs).1 (aqq.1 hs').1 (by omega)
   rw[(aqq.1 hs).2,(aqq.1 hs').2,e,e',dI]at this;cases this
  ·omega
 ·left;omega
theorem xQ (s:Sl)(key:ByteArray)(w:World):Calls Tryz.prog 159 #[.agg #[.string s.k,.int .u64 s.r],.string key] w fun e w' => e=.returned (.int .i64 (if cE s.k key then -1 else if cE key s.k then 1 else 0))/\Below w.heap.size w w' := by
 have hs:=(St.start w).made (.cells #[.string s.k,.int .u64 s.r] 69);have Q:=aqo (fun w=>Ac s.k key w)
 generalize (if cE s.k key then(-1:Int)else if cE key s.k then 1 else 0)=r at *
 go_enter Tryz.func159,Tryz.ntmps159
 go_wp2_with fail
 refine(Q.out _).mono ?_
 rintro e w1 ⟨rfl,rfl⟩;go_wp2
 go_ret;exact⟨rfl,hs.below (aK.Le.refl _)⟩
section
variable {a:Option Addr}{cap:Nat}{l:List Sl}{key:ByteArray}
theorem Fh (w:World)(h:eo w a l)(dF:kV l) :
  Calls Tryz.prog 158 #[.slice a l.length cap,.string key,.func (.func 159) #[] #[]] w fun e w' => e=.returned (.tuple #[.int .i64 (gM l key),.bool (decide (gM l key<je l key))])/\Below w.heap.size w w' := by
 obtain⟨n,hn⟩:∃ n,n=l.length:=⟨_,rfl⟩;obtain⟨m,hm⟩:∃ m,m=gM l key:=⟨_,rfl⟩;have hmn:m<=n:=by rw[hm,hn];exact tR _ _
 have hl:=h.1;rw[← hn]at hl ⊢;have Hc:Hid (∀ i,i<n->∃ (s:Sl) (b off:Nat),a=some ⟨b,off,none⟩/\b<w.heap.size/\w.cell? ⟨b,off+i*2,none⟩=some (.string s.k)/\w.cell? ⟨b,off+i*2+1,none⟩=some (.int .u64 s.r)/\(cE s.k key=true↔i<m)/\(cE key s.k=false↔i<je l key)):=aqo (by
  intro i hi;obtain⟨s,hs⟩:∃ s,l[i]?=some s:=⟨_,aqt (by omega)⟩
  obtain⟨b,off,e,hlt,c0,c1⟩:=h.2 i s hs;exact⟨s,b,off,e,hlt,c0,c1,by rw[hm];exact j9 dF hs,lT dF hs⟩)
 have Hhi:Hid (je l key<=n/\m<=je l key):=aqo ⟨by rw[hn];exact xP _ _,by have:=sM (key:=key) dF;omega⟩
 rw[← hm];generalize je l key=m2 at *;have hs:=St.start w;clear h hn hm dF;go_enter Tryz.func158,Tryz.ntmps158
 go_wp2
 go_loopw [9,10,11] (fun v9 v10 v11 wr=>∃ (i j:Nat),v9=.int .i64 i/\v10=.int .i64 j/\i<=m/\m<=j/\j<=n/\St (aK.of w) wr []) (fun v9 v10 _ _=>(intOf v10).toNat-(intOf v9).toNat)
 case atStart=>exact⟨0,n,rfl,rfl,by omega,hmn,by omega,hs⟩
 case round=>
  clear hs;obtain⟨i,j,rfl,rfl,hi,hj,hjn,hs⟩:=hrel;by_cases hij:i<j
  ·go_upto_region 5 with(fail)
   obtain⟨k,hk⟩:∃ k:Nat,k=(i+j) / 2:=⟨_,rfl⟩;have hk1:((i:Int)+j) / 2=k:=by omega
   have hkj:k<j:=by omega
   have hik:i<=k:=by omega
   obtain⟨s,b,off,rfl,hlt,c0,c1,hlo,_⟩:=Hc.out k (by omega)
   have hb:=hs.below (aK.Le.refl _);rw[← hb.cell (p:=⟨b,_,none⟩) hlt]at c0 c1;have Q:=aqo (fun w=>xQ s key w)
   have Yr:=aqo hlo;clear hlo hb;rw[hk1];have Hk:=aqo hk;clear hk hk1;have hkn:k<n:=by omega
   cases hx:cE s.k key with
   | true=>
    have hkm:=Yr.out.1 hx;go_wp2_with fail
    refine(Q.out _).mono ?_
    rw[hx];rintro e w2 ⟨rfl,hb2⟩;have hs:=hs.same hb2;clear c0 c1 hb2;go_wp2
    go_roundw
    case rel=>exact⟨k+1,j,by go_num,rfl,by omega,hj,hjn,hs⟩
    case measure=>simp[intOf];have:=Hk.out;omega
   | false=>
    have hkm:m<=k:=by
     have:=mt Yr.out.2 (by rw[hx];simp)
     omega
    have Q2:Hid (∃ r:Int,(r=0\/r=1)/\∀ w,Calls Tryz.prog 159 #[.agg #[.string s.k,.int .u64 s.r],.string key] w fun e w' => e=.returned (.int .i64 r)/\Below w.heap.size w w'):=aqo (by
     cases hy:cE key s.k with
     | true=>exact⟨1,.inr rfl,fun w=>by have:=Q.out w;rw[hx,hy]at this;exact this⟩
     | false=>exact⟨0,.inl rfl,fun w=>by have:=Q.out w;rw[hx,hy]at this;exact this⟩)
    clear hx Q;obtain⟨r,hr,q⟩:=Q2.out;have Em:¬ r<0:=by omega
    have Q:=aqo q;clear q hr Q2;go_wp2_with fail
    refine(Q.out _).mono ?_
    rintro e w2 ⟨rfl,hb2⟩;have hs:=hs.same hb2;clear c0 c1 hb2;go_wp2
    go_roundw
    case rel=>exact⟨i,k,rfl,by go_num,hi,hkm,by omega,hs⟩
    case measure=>simp[intOf];have:=Hk.out;omega
  ·obtain rfl:i=m:=by omega
   by_cases hin:i<n
   ·obtain⟨s,b,off,rfl,hlt,c0,c1,hlo,hhi⟩:=Hc.out i hin
    have hb:=hs.below (aK.Le.refl _);rw[← hb.cell (p:=⟨b,_,none⟩) hlt]at c0 c1;have hf:cE s.k key=false:=by
     cases hx:cE s.k key with
     | true=>have:=hlo.1 hx;omega
     | false=>rfl
    have Q2:Hid (∃ r:Int,(r == 0)=decide (i<m2)/\∀ w,Calls Tryz.prog 159 #[.agg #[.string s.k,.int .u64 s.r],.string key] w fun e w' => e=.returned (.int .i64 r)/\Below w.heap.size w w'):=aqo (by
     cases hy:cE key s.k with
     | true=>
      refine⟨1,?_,fun w=>by have:=xQ s key w;rw[hf,hy]at this;exact this⟩
      have:=mt hhi.2 (by rw[hy];simp)
      rw[decide_eq_false this];rfl
     | false=>
      refine⟨0,?_,fun w=>by have:=xQ s key w;rw[hf,hy]at this;exact this⟩
      rw[decide_eq_true (hhi.1 hy)];rfl)
    clear hlo hhi hb hf;obtain⟨r,hr,q⟩:=Q2.out;have Hr:=aqo hr;have Q:=aqo q;clear q hr Q2;go_wp2_with fail
    refine(Q.out _).mono ?_
    rintro e w2 ⟨rfl,hb2⟩;have hs:=hs.same hb2;clear c0 c1 hb2;go_wp2
    go_ret2
    exact⟨by rw[← Hr.out];rfl,hs.below (aK.Le.refl _)⟩
   ·have h2:=Hhi.out
    have e:decide (i<m2)=false:=decide_eq_false (by omega)
    go_wp2
    go_ret2
    exact⟨by rw[e];rfl,hs.below (aK.Le.refl _)⟩
theorem nk (w:World){pg:Pg}(h:eo w a pg.sl)(dF:kV pg.sl) :
  Calls Tryz.prog 131 #[.agg #[.int .i64 (pg).az,(.slice a pg.sl.length cap),.string (pg).hi,.bool (pg).la,.int .u64 (pg).ri],.string key] w fun e w' => e=.returned (.tuple #[.int .i64 (gM pg.sl key),.bool (decide (gM pg.sl key<je pg.sl key))])/\Below w.heap.size w w' := by
 have hs:=(St.start w).made (.cells #[.int .i64 pg.az,.slice a pg.sl.length cap,.string pg.hi,.bool pg.la,.int .u64 pg.ri] 43);have Q:=aqo (Fh (cap:=cap) (key:=key) _ (h.same (hs.below (aK.Le.refl _))) dF);obtain⟨n,hn⟩:∃ n,n=pg.sl.length:=⟨_,rfl⟩;rw[← hn]at Q hs ⊢;clear hn;generalize gM pg.sl key=m at *;generalize je pg.sl key=m2 at *;go_enter Tryz.func131,Tryz.ntmps131
 go_wp2_with fail
 refine(Q.out).mono ?_
 rintro e w1 ⟨rfl,hb⟩;go_wp2
 go_ret2
 exact⟨rfl,(hs.same hb).below (aK.Le.refl _)⟩
def jQ (l:List Sl)(i:Int):Option Sl:=if i<0 then none else l[i.toNat]?
def tS:Option Sl->Value
 | some s=> .agg #[.string s.k,.int .u64 s.r]
 | none=> .agg #[.string ⟨#[]⟩,.int .u64 0]
theorem Qo (tmps:Array Value)(w:World)(b:Nat)(v0 v1 u:Value)(hp:tmps[4]?=some (.pointer (some ⟨b,0,none⟩)))(hq:tmps[5]?=some u)(hk:∀ k,w.cell? ⟨b,k,none⟩=(#[v0,v1]:Array Value)[k]?) :
  (results Tryz.f168 tmps).run Tryz.prog w=.ok (.tuple #[.agg #[v0,v1],u]) w:=by
 simp[results,Tryz.results168,go_sem,hp,hq,hk]
theorem nX (tmps:Array Value)(w:World)(b:Nat)(v0 v1 u:Value)(hp:tmps[4]?=some (.pointer (some ⟨b,0,none⟩)))(hq:tmps[5]?=some u)(hk:∀ k,w.cell? ⟨b,k,none⟩=(#[v0,v1]:Array Value)[k]?) :
  (results Tryz.f140 tmps).run Tryz.prog w=.ok (.tuple #[.agg #[v0,v1],u]) w:=by
 simp[results,Tryz.results140,go_sem,hp,hq,hk]
theorem Fi (w:World){pg:Pg}{i:Int}(hi:i<pg.sl.length)(ox : -2<i)(h:eo w a pg.sl) :
  Calls Tryz.prog 168 #[.agg #[.int .i64 (pg).az,(.slice a pg.sl.length cap),.string (pg).hi,.bool (pg).la,.int .u64 (pg).ri],.int .i64 i] w fun e w' => e=.returned (.tuple #[tS (jQ pg.sl i),.bool (jQ pg.sl i).isSome])/\Below w.heap.size w w' := by
 have hs:=(St.start w).made (.cells #[.int .i64 pg.az,.slice a pg.sl.length cap,.string pg.hi,.bool pg.la,.int .u64 pg.ri] 43);obtain⟨n,hn⟩:∃ n,n=pg.sl.length:=⟨_,rfl⟩;have hl:=h.1;by_cases h0:i<0
 ·have e:jQ pg.sl i=none:=by unfold jQ;rw[if_pos h0]
  rw[e];rw[← hn]at hs ⊢;clear hn h e;have hs:=hs.made (.cells #[.string ⟨#[]⟩,.int .u64 0] 69);simp only[World.size_alloc]at hs;go_enter Tryz.func168,Tryz.ntmps168
  go_wp2
  refine bodyPost_ret (Qo _ _ (w.heap.size+1) _ _ _ rfl rfl hs.k0) rfl ⟨rfl,hs.below (aK.Le.refl _)⟩
 ·obtain⟨k,rfl⟩:∃ k:Nat,i=k:=⟨i.toNat,by omega⟩
  obtain⟨s,fj⟩:∃ s,pg.sl[k]?=some s:=⟨_,aqt (by omega)⟩
  have e:jQ pg.sl k=some s:=by unfold jQ;rw[if_neg h0];exact fj
  rw[e];obtain⟨b,off,rfl,hlt,c0,c1⟩:=h.2 k s fj;rw[← hn]at hs hi hl ⊢;clear hn h e fj;have hs:=hs.made (.cells #[.string s.k,.int .u64 s.r] 69);simp only[World.size_alloc]at hs;go_enter Tryz.func168,Tryz.ntmps168
  go_wp2
  refine bodyPost_ret (Qo _ _ (w.heap.size+1) _ _ _ rfl rfl hs.k0) rfl ⟨rfl,hs.below (aK.Le.refl _)⟩
theorem Lm (w:World){pg:Pg}(h:eo w a pg.sl)(dF:kV pg.sl) :
  Calls Tryz.prog 140 #[.agg #[.int .i64 (pg).az,(.slice a pg.sl.length cap),.string (pg).hi,.bool (pg).la,.int .u64 (pg).ri],.string key] w fun e w' => e=.returned (.tuple #[tS (jQ pg.sl ((je pg.sl key:Int)-1)),.bool (jQ pg.sl ((je pg.sl key:Int)-1)).isSome])/\Below w.heap.size w w' := by
 have hs:=(St.start w).made (.cells #[.int .i64 pg.az,.slice a pg.sl.length cap,.string pg.hi,.bool pg.la,.int .u64 pg.ri] 43);have hs:=hs.made (.cells #[.string ⟨#[]⟩,.int .u64 0] 69);simp only[World.size_alloc]at hs;have hl:=h.1;have Q:=aqo (fun W (hb:Below w.heap.size w W)=>nk (cap:=cap) (key:=key) W (h.same hb) dF)
 have h1:=xP pg.sl key;have hh:=sM (key:=key) dF;have Q2:=aqo (fun W (hb:Below w.heap.size w W)=>Fi (cap:=cap) (i:=(je pg.sl key:Int)-1) W (by omega) (by omega) (h.same hb))
 generalize jQ pg.sl ((je pg.sl key:Int)-1)=so at *;obtain⟨m2,hm2⟩:∃ m,m=je pg.sl key:=⟨_,rfl⟩;obtain⟨m,hm⟩:∃ m,m=gM pg.sl key:=⟨_,rfl⟩;obtain⟨n,hn⟩:∃ n,n=pg.sl.length:=⟨_,rfl⟩;rw[← hm2,← hm,← hn]at Q;rw[← hm2,← hn]at Q2 h1;rw[← hm2,← hm]at hh;rw[← hn]at hs hl ⊢;have hle:m<=m2/\m2<=m+1:=by rcases hh with h|⟨h,_⟩ <;> omega
 clear hm hm2 hn h dF hh;obtain⟨ads,xN⟩:=hle;go_enter Tryz.func140,Tryz.ntmps140
 go_wp2_with fail
 refine(Q.out _ (hs.below (aK.Le.refl _))).mono ?_
 rintro e w1 ⟨rfl,hb⟩;have hs:=hs.same hb;clear hb Q;have k1:=hs.k1;by_cases hlt:m<m2
 ·obtain rfl:m2=m+1:=by omega
  rw[show((m+1:Nat):Int)-1=m by omega]at Q2
  go_wp2_with fail
  refine(Q2.out _ (hs.below (aK.Le.refl _))).mono ?_
  rintro e w2 ⟨rfl,hb⟩;have hs:=hs.same hb;clear hb Q2 k1;have k0:=hs.k0;have f0:=hs.f0;cases so with
  | none=>
   have hs:=(hs.aI 0 (.string ⟨#[]⟩)).aI 1 (.int .u64 0);simp only[List.set_cons_zero,List.set_cons_succ]at hs;simp only[tS];go_wp2
   refine bodyPost_ret (nX _ _ (w.heap.size+1) _ _ _ rfl rfl hs.k0) rfl ⟨rfl,hs.below (aK.Le.refl _)⟩
  | some s=>
   have hs:=(hs.aI 0 (.string s.k)).aI 1 (.int .u64 s.r);simp only[List.set_cons_zero,List.set_cons_succ]at hs;simp only[tS];go_wp2
   refine bodyPost_ret (nX _ _ (w.heap.size+1) _ _ _ rfl rfl hs.k0) rfl ⟨rfl,hs.below (aK.Le.refl _)⟩
 ·obtain rfl:m2=m:=by omega
  go_wp2_with fail
  refine(Q2.out _ (hs.below (aK.Le.refl _))).mono ?_
  rintro e w2 ⟨rfl,hb⟩;have hs:=hs.same hb;clear hb Q2 k1;have k0:=hs.k0;have f0:=hs.f0;cases so with
  | none=>
   have hs:=(hs.aI 0 (.string ⟨#[]⟩)).aI 1 (.int .u64 0);simp only[List.set_cons_zero,List.set_cons_succ]at hs;simp only[tS];go_wp2
   refine bodyPost_ret (nX _ _ (w.heap.size+1) _ _ _ rfl rfl hs.k0) rfl ⟨rfl,hs.below (aK.Le.refl _)⟩
  | some s=>
   have hs:=(hs.aI 0 (.string s.k)).aI 1 (.int .u64 s.r);simp only[List.set_cons_zero,List.set_cons_succ]at hs;simp only[tS];go_wp2
   refine bodyPost_ret (nX _ _ (w.heap.size+1) _ _ _ rfl rfl hs.k0) rfl ⟨rfl,hs.below (aK.Le.refl _)⟩
end
def eN (a b:ByteArray):Nat->Nat->ByteArray
 | 0,_=>⟨#[]⟩
 | f+1,n=>if cE a (b.extract 0 n)then b.extract 0 n else eN a b f (n+1)
def lU (a b:ByteArray):ByteArray:=eN a b (b.size+1) 0
theorem wJ:∀ (x:List UInt8)(n:Nat),Op.bytesLess x (x.take n)=false
 | [],n=>by cases n <;> rfl
 | a::x,0=>rfl
 | a::x,n+1=>by simp[Op.bytesLess,wJ x n]
theorem Fj (b:ByteArray)(n:Nat):cE b (b.extract 0 n)=false:=by
 unfold cE;rw[ByteArray.toList_eq,ByteArray.toList_eq,ByteArray.data_extract];have:=wJ b.data.toList n;simpa using this
theorem Ad (b:ByteArray):b.extract 0 b.size=b:=by
 apply ByteArray.ext
 rw[ByteArray.data_extract];exact Array.extract_size
theorem tT {a b:ByteArray}(h:cE a b=true):∀ (f n:Nat),n+f=b.size+1->0<f->cE a (eN a b f n)=true/\cE b (eN a b f n)=false
 | 0,n,_,h0=>by omega
 | f+1,n,hn,_=>by
  unfold eN;split
  ·rename_i hx
   exact⟨hx,Fj b n⟩
  ·rename_i hx
   rcases Nat.eq_zero_or_pos f with h0|h0
   ·subst h0
    have:n=b.size:=by omega
    subst this;rw[Ad]at hx;exact absurd h hx
   ·exact tT h f (n+1) (by omega) h0
theorem sN {a b:ByteArray}(h:cE a b=true):cE a (lU a b)=true/\cE b (lU a b)=false:=tT h _ _ (by omega) (by omega)
theorem Fk (a b:ByteArray)(hb:b.size<=1000000)(w:World):Calls Tryz.prog 71 #[.string a,.string b] w fun e w' => e=.returned (.string (lU a b))/\w=w' := by
 obtain⟨r,hr⟩:∃ r,r=lU a b:=⟨_,rfl⟩;rw[← hr];have Hr:=aqo hr;clear hr;go_enter Tryz.func71,Tryz.ntmps71
 go_wp2
 go_loopw [5] (fun v5 wr=>∃ n:Nat,v5=.int .i64 n/\n<=b.size+1/\Hid (r=eN a b (b.size+1-n) n)/\wr=w) (fun v5 _=>b.size+1-(intOf v5).toNat)
 case atStart=>exact⟨0,rfl,by omega,aqo Hr.out,rfl⟩
 case round=>
  obtain⟨n,rfl,hn,HR,rfl⟩:=hrel;by_cases hlt:n<=b.size
  ·have e:r=if cE a (b.extract 0 n)then b.extract 0 n else eN a b (b.size+1-(n+1)) (n+1):=by
    rw[HR.out,show b.size+1-n=(b.size+1-(n+1))+1 by omega];rfl
   have hE:=aqo e;clear e;cases hx:cE a (b.extract 0 n)with
   | true=>
    rw[hx]at hE;have h1:=jI hx;have h3:=jA (Fg hx).symm;go_wp2
    go_ret;exact⟨by rw[hE.out];rfl,rfl⟩
   | false=>
    rw[hx]at hE;have vv:=aqo (show r=eN a b (b.size+1-(n+1)) (n+1)from hE.out)
    cases hy:cE (b.extract 0 n) a with
    | true=>
     go_wp2
     go_roundw
     case rel=>exact⟨n+1,by go_num,by omega,vv,trivial⟩
     case measure=>simp[intOf];omega
    | false=>
     have hz:=gA hy hx;have h3:((b.extract 0 n).toList == a.toList)=true:=by rw[hz];exact beq_self_eq_true _
     clear hz;go_wp2
     go_roundw
     case rel=>exact⟨n+1,by go_num,by omega,vv,trivial⟩
     case measure=>simp[intOf];omega
  ·obtain rfl:n=b.size+1:=by omega
   rw[Nat.sub_self]at HR;go_wp2
   go_ret;exact⟨by rw[HR.out];rfl,rfl⟩
end Go.Proofs.YtlpdhhhgckpcfaaGreat
