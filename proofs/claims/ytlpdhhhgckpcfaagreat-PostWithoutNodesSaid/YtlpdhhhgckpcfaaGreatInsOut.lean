
/- What Insert leaves; what a law asks of it (Err, Md, View.akV), the halves of a page. -/
import Derived.Test.YtlpdhhhgckpcfaaGreatInsLaw
import Derived.Test.YtlpdhhhgckpcfaaGreatRefIns
import Derived.Test.YtlpdhhhgckpcfaaGreatCelSame
namespace Go.Proofs.YtlpdhhhgckpcfaaGreat
open Go.RowKit
set_option maxRecDepth 100000
section
variable {K:aK}{w:World}{F:List aB}{b:Nat}{d:aR}{x:oQ}{nx:Value}
theorem Sc (hs:St K w (bz b nx d x::F)):Calls Tryz.prog 52 #[(.pointer (some ⟨b,0,none⟩))] w fun e w' => e=.returned (.int .i64 x.err)/\w=w' := by
 obtain⟨fr,vf,fu,vu,err,le,vl,ri,vr,sep,on⟩:=x;have k:=hs.k0;unfold dK vD at k;clear hs;go_enter Tryz.func52,Tryz.ntmps52
 go_wp2
 go_ret;exact⟨rfl,rfl⟩
theorem Sd (hon:x.on=true)(hs:St K w (bz b .nilFunc d x::F)):Calls Tryz.prog 178 #[(.pointer (some ⟨b,0,none⟩))] w fun e w' => e=.returned (.string x.sep)/\w=w' := by
 obtain⟨fr,vf,fu,vu,err,le,vl,ri,vr,sep,on⟩:=x;simp only at hon;subst hon;have k:=hs.k0;have Qd:=aqo (fY w b (k 0) (k 1));unfold dK vD at k;clear hs;go_enter Tryz.func178,Tryz.ntmps178
 go_wp2_with fail
 refine(Qd.out).mono ?_
 clear Qd;rintro e w1 ⟨rfl,rfl⟩;go_wp2
 go_ret;exact⟨rfl,rfl⟩
end
section
variable {K:aK}{w:World}{F:List aB}{b:Nat}{d:aR}{fr:cB}{fu:Pg}{vu:Value}{af:Option Addr}{cf:Nat}{nx:Value}
end
section
variable {K:aK}{w:World}{F:List aB}{b:Nat}{d:aR}{fr:cB}{fu p:Pg}{L L':List aP}{x:oQ}{sp:Bool}
end
theorem vJ {d:aR}{L:List aP}{g:Nat}(hd:d.Ok)(id:Int)(hid:0<=id/\id<18446744073709551616)(w:World)(hv:VAt w g L) :
  Calls Tryz.prog 31 #[.agg #[.int .i64 (d).th,.int .i64 (d).sn,.int .i64 (d).no,.int .i64 (d).ch,.int .i64 (d).re,.int .i64 (d).fa,.int .u64 (d).cl,.slice (some ⟨g,0,none⟩) L.length L.length],.int .u64 id] w fun e w' => e=.returned (.int .u64 (ah L (d.node id 0)).n)/\Below w.heap.size w w' := by
 have f1:=hd.fw;have hs:=(St.start w).made (.cells #[.int .i64 (d).th,.int .i64 (d).sn,.int .i64 (d).no,.int .i64 (d).ch,.int .i64 (d).re,.int .i64 (d).fa,.int .u64 (d).cl,.slice (some ⟨g,0,none⟩) L.length L.length] 52);have q:=lZ hd id 0 hid ⟨by omega,by omega⟩ (w.alloc (.cells #[.int .i64 (d).th,.int .i64 (d).sn,.int .i64 (d).no,.int .i64 (d).ch,.int .i64 (d).re,.int .i64 (d).fa,.int .u64 (d).cl,.slice (some ⟨g,0,none⟩) L.length L.length] 52)) (hv.same ((Below.refl _ _).alloc (Nat.le_refl _) _))
 generalize ah L (d.node id 0)=c at *;obtain⟨n,k,m⟩:=c;generalize L.length=nn at *;have Q:=aqo q;clear q hv f1;have k:=hs.k0;go_enter Tryz.func31,Tryz.ntmps31
 go_wp2_with fail
 refine(bE hs Q.out).mono ?_
 clear hs k Q;rintro e w1 ⟨rfl,hs⟩;go_wp2
 go_ret;exact⟨rfl,hs.below (aK.Le.refl _)⟩
section
variable {d:aR}{id:Int}{L:List aP}{pg:Pg}
theorem Co:∀ (l:List Sl)(i:Nat),Holds L (fS d id i l)->∀ (k:Nat)(s:Sl),l[k]?=some s->ah L (d.slot id ((i+k:Nat):Int))=⟨s.r,s.k,0⟩
 | [],_,_,k,s,h=>by simp at h
 | s0::l,i,hh,0,s,h=>by
  obtain rfl:s0=s:=by simpa using h
  exact hh _ List.mem_cons_self
 | s0::l,i,hh,k+1,s,h=>by
  have:=Co l (i+1) (fun p hp=>hh p (List.mem_cons_of_mem _ hp)) k s (by simpa using h)
  rw[show i+(k+1)=i+1+k by omega]
  exact this
theorem lz (hh:Holds L (bN d id pg))(cg:0<=pg.az/\pg.az<1000000)(hle:(pg.sl.length:Int)<=d.fa)(lj:pg.la=true->pg.hi=⟨#[]⟩):eA d id L pg:=by
 have h1:ah L (d.node id 1)=⟨pg.sl.length,⟨#[]⟩,pg.az⟩:=hh ⟨d.node id 1,⟨pg.sl.length,⟨#[]⟩,pg.az⟩⟩ (by simp[bN])
 have h2:ah L (d.node id 2)=mr pg:=hh ⟨d.node id 2,mr pg⟩ (by simp[bN])
 have h3:ah L (d.node id 3)=⟨pg.ri,⟨#[]⟩,0⟩:=hh ⟨d.node id 3,⟨pg.ri,⟨#[]⟩,0⟩⟩ (by simp[bN])
 refine⟨by rw[h1],by rw[h1];exact jU cg.1 cg.2,?_,?_,by rw[h3],hle,fun i s hi=>?_⟩
 ·rw[h2]
  unfold mr;cases h:pg.la with
  | true=>rw[lj h];rfl
  | false=>rfl
 ·rw[h2]
  unfold mr;cases h:pg.la <;> rfl
 ·have:=Co pg.sl 0 (fun p hp=>hh p (List.mem_append_left _ hp)) i s hi
  rw[Nat.zero_add]at this;rw[this];exact⟨rfl,rfl⟩
end
end Go.Proofs.YtlpdhhhgckpcfaaGreat
