
/- Rows of zU; slices of zU that are only read; Vq.Check. -/
import Derived.Test.YtlpdhhhgckpcfaaGreatPageA
namespace Go.Proofs.YtlpdhhhgckpcfaaGreat
open Go.RowKit
set_option maxRecDepth 100000
def qB (v:zY):List Value:=[.int .u64 v.st,.string v.k,.bool v.del]
def gP (vs:List zY):List Value:=vs.flatMap qB
theorem xw (vs:List zY):∀ (i:Nat)(v:zY),vs[i]?=some v->(gP vs)[i*3]?=some (.int .u64 v.st)/\(gP vs)[i*3+1]?=some (.string v.k)/\(gP vs)[i*3+2]?=some (.bool v.del):=by
 induction vs with
 | nil=>intro i v h;simp at h
 | cons a vs ih=>
  intro i v h;have e:gP (a::vs)=.int .u64 a.st :: .string a.k :: .bool a.del::gP vs:=rfl;rw[e];cases i with
  | zero=>simp at h;subst h;exact⟨rfl,rfl,rfl⟩
  | succ i=>
   have:=ih i v (by simpa using h)
   rw[show(i+1)*3=i*3+3 by omega]
   simpa using this
theorem Yg:(Tryz.prog.info? 186).map (fun i=>(i.zero,i.size,i.bytes))=some (some (.agg #[.int .u64 0,.string ⟨#[]⟩,.bool false]),3,32):=by kernel_rfl
def uN (w:World)(a:Option Addr)(vs:List zY):Prop:=vs.length<=1000000000/\∀ (i:Nat) (v:zY),vs[i]?=some v ->
 ∃ b off,a=some ⟨b,off,none⟩/\b<w.heap.size/\w.cell? ⟨b,off+i*3,none⟩=some (.int .u64 v.st)/\w.cell? ⟨b,off+i*3+1,none⟩=some (.string v.k)/\w.cell? ⟨b,off+i*3+2,none⟩=some (.bool v.del)
theorem uN.same {w w':World}{a:Option Addr}{vs:List zY}(h:uN w a vs)(hb:Below w.heap.size w w'):uN w' a vs:=
 ⟨h.1,fun i v hv=>by
  obtain⟨b,off,e,hlt,c0,c1,c2⟩:=h.2 i v hv;exact⟨b,off,e,Nat.lt_of_lt_of_le hlt hb.size,by rw[hb.cell (p:=⟨b,_,none⟩) hlt];exact c0,by rw[hb.cell (p:=⟨b,_,none⟩) hlt];exact c1,by rw[hb.cell (p:=⟨b,_,none⟩) hlt];exact c2⟩⟩
theorem St.Ty {K:aK}{w:World}{F:List aB}{a:Option Addr}{n cap:Nat}{T:TypeId}{vs:List zY}(h:St K w (ak (.slice a n cap) T 3 n (gP vs)::F))(hn:vs.length<=1000000000):uN w a vs:=by
 refine⟨hn,fun i v hv=>?_⟩
 obtain⟨r0,r1,r2⟩:=xw vs i v hv;obtain⟨g,e,c0⟩:=h.cP r0;obtain⟨g1,e1,c1⟩:=h.cP r1;obtain⟨g2,e2,c2⟩:=h.cP r2;rw[e]at e1 e2;simp only[Option.some.injEq,Addr.mk.injEq,and_true]at e1 e2;subst e1 e2;exact⟨g,0,e,World.block_lt_of_cell? _ _ c0,by rw[Nat.zero_add];exact c0,by rw[Nat.zero_add];exact c1,by rw[Nat.zero_add];exact c2⟩
def V9 (N:Int)(vs:List zY):Prop:=∀ (i:Nat) (v:zY),vs[i]?=some v->0<v.st/\v.st<=N/\(v.del=true->v.k=⟨#[]⟩)/\∀ u,vs[i+1]?=some u->u.st<v.st
theorem Ii {a:Option Addr}{cap:Nat}{vs:List zY}{N:Int}(w:World)(h:uN w a vs)(hv:V9 N vs):Calls Tryz.prog 125 #[.slice a vs.length cap] w fun e w' => e=.returned (.bool true)/\Below w.heap.size w w' := by
 have hlen:=h.1;have H:=aqo h;have HV:=aqo hv;obtain⟨n,hn⟩:∃ n,n=vs.length:=⟨_,rfl⟩;rw[← hn]at hlen ⊢;have Hn:=aqo hn;clear h hn hv;go_enter Tryz.func125,Tryz.ntmps125
 go_wp2
 go_loopw [3] (fun v wr=>∃ i:Nat,i<=n/\v=.int .i64 i/\Hid (Below w.heap.size w wr)) (fun v _=>n-(intOf v).toNat)
 case atStart=>exact⟨0,by omega,rfl,aqo (Below.refl _ _)⟩
 case round=>
  obtain⟨i,hi,rfl,HB⟩:=hrel;by_cases hlt:i<n
  ·have hl':i<vs.length:=by rw[← Hn.out];exact hlt
   obtain⟨u,hu⟩:∃ u,vs[i]?=some u:=⟨_,aqt hl'⟩;have hvw:=H.out.same HB.out;obtain⟨b,off,rfl,hb,c0,c1,c2⟩:=hvw.2 i u hu;obtain⟨q1,q2,q3,q4⟩:=HV.out i u hu;have z1:(u.st == 0)=false:=by simp;omega
   obtain⟨de,hde⟩:∃ de,de=u.del:=⟨_,rfl⟩;obtain⟨ke,Pv⟩:∃ ke,ke=u.k:=⟨_,rfl⟩;rw[← hde]at c2 q3;rw[← Pv]at c1 q3;rcases Nat.eq_zero_or_pos i with h0|h0
   ·subst h0
    have c0':wr.cell? ⟨b,off,none⟩=some (.int .u64 u.st):=by simpa using c0
    have c1':wr.cell? ⟨b,off+1,none⟩=some (.string ke):=by simpa using c1
    have c2':wr.cell? ⟨b,off+2,none⟩=some (.bool de):=by simpa using c2
    clear q4 hvw;rcases Bool.eq_false_or_eq_true de with rfl|rfl
    ·rw[q3 rfl]at c1 c1'
     clear q3 Pv hde;as_aux_lemma=>
     go_upto_region 6 with(fail)
     refine bH (by kernel_rfl) (by kernel_rfl) ?_
     repeat (go_big_quiet_step (fail))
     refine wpQuiet_nil ?_
     intro w2 hb2;go_wp2
     go_roundw
     case rel=>exact⟨1,by omega,by go_num,aqo (HB.out.trans (hb2.mono HB.out.size))⟩
     case measure=>simp[intOf];omega
    ·clear q3 Pv hde
     as_aux_lemma=>
     go_upto_region 6 with(fail)
     refine bH (by kernel_rfl) (by kernel_rfl) ?_
     repeat (go_big_quiet_step (fail))
     refine wpQuiet_nil ?_
     intro w2 hb2;go_wp2
     go_roundw
     case rel=>exact⟨1,by omega,by go_num,aqo (HB.out.trans (hb2.mono HB.out.size))⟩
     case measure=>simp[intOf];omega
   ·obtain⟨j,rfl⟩:∃ j,i=j+1:=⟨i-1,by omega⟩
    obtain⟨p,hp⟩:∃ p,vs[j]?=some p:=⟨_,aqt (by have:=Hn.out;omega)⟩
    obtain⟨b',off',e',hb',p0,p1,p2⟩:=hvw.2 j p hp;simp only[Option.some.injEq,Addr.mk.injEq,and_true]at e';obtain⟨rfl,rfl⟩:=e';obtain⟨r1,_,_,r4⟩:=HV.out j p hp;have z2:(p.st != 0)=true:=by simp;omega
    have z3:¬ (p.st<=u.st):=by have:=r4 u hu;omega
    have hj:((j+1:Nat):Int)-1=j:=by omega
    clear q4 hvw r4 p1 p2 hp;rcases Bool.eq_false_or_eq_true de with rfl|rfl
    ·rw[q3 rfl]at c1
     clear q3 Pv hde;as_aux_lemma=>
     go_upto_region 6 with(fail)
     refine bH (by kernel_rfl) (by kernel_rfl) ?_
     repeat (go_big_quiet_step (fail))
     refine wpQuiet_nil ?_
     intro w2 hb2;go_wp2
     go_roundw
     case rel=>exact⟨j+2,by omega,by go_num,aqo (HB.out.trans (hb2.mono HB.out.size))⟩
     case measure=>simp[intOf];omega
    ·clear q3 Pv hde
     as_aux_lemma=>
     go_upto_region 6 with(fail)
     refine bH (by kernel_rfl) (by kernel_rfl) ?_
     repeat (go_big_quiet_step (fail))
     refine wpQuiet_nil ?_
     intro w2 hb2;go_wp2
     go_roundw
     case rel=>exact⟨j+2,by omega,by go_num,aqo (HB.out.trans (hb2.mono HB.out.size))⟩
     case measure=>simp[intOf];omega
  ·obtain rfl:i=n:=by omega
   go_wp2
   go_ret;exact⟨rfl,HB.out⟩
end Go.Proofs.YtlpdhhhgckpcfaaGreat
