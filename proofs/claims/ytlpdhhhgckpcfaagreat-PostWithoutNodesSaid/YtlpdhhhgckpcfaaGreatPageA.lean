
/- What the row's step of every law of this seat leans on: the arguments read as they did; a oo opened to its seven numbers. A slice of integers that came in, as a function of the index. A page that came in: its five fields, its slots as a function of the index. r8 content: a page made from raw slots. adp that content has made; the tu of the laws of layer 8. -/
import Derived.ProofKit
import Derived.Lib.SmallJoins
import Derived.Deep.Slices
import Derived.Test.YtlpdhhhgckpcfaaGreatNodeLawB
namespace Go.Proofs.YtlpdhhhgckpcfaaGreat
open Go.Joins Go.ChangeShapes Go.WideShapes Go.ChangeAt Go.RowKit Go.Deep
theorem own:ownKnob Tryz.prog.godebug=none:=by kernel_rfl
theorem laidOut:laidOutB Tryz.prog=true:=by kernel_rfl
section
variable {H:Type}{enc:TypeId × Value->H}{P:Program}{W W':World}
theorem vw (hl:laidOutB P=true)(hb:Below W.heap.size W W'):∀ {ts:List TypeId}{vs:List Value}{ds:List (DataW H)}{ps:List MemPlace},
  (∀ t,t∈ts->P.readableRec t=true/\t<P.types.size)->DataW.TrodAll enc P W 0 (fun _=>true) true ts vs ds ps->DataW.TrodAll enc P W' 0 (fun b=>decide (b<W.heap.size)) true ts vs ds ps:=by
 intro ts;induction ts with
 | nil=>
  intro vs ds ps _ h;obtain⟨rfl,rfl,rfl⟩:=trodAll_nil h;exact trodAll_mk0
 | cons t ts ih=>
  intro vs ds ps hts h;obtain⟨v,vs',d,ds',p,q,rfl,rfl,rfl,h0,r0⟩:=trodAll_cons h;have lt0:∀ x,x∈p->x.block<W.heap.size:=by obtain⟨m,hm⟩:=h0;exact DataW.trod_lt m _ _ _ hm
  exact trodAll_cons_mk (Below.trod hl (hts t (by simp)).1 (hts t (by simp)).2 h0 hb lt0) (ih (fun t' ht' => hts t' (by simp[ht'])) r0)
end
section
variable {H:Type}{enc:TypeId × Value->H}{P:Program}{w:World}{base:Nat}{spare:Nat->Bool}{held:Bool}
end
theorem wf_u64 {n:Int}(h:(Lit.int .u64 n).wf=true):0<=n/\n<18446744073709551616:=by have:=bounds_u64 h;omega
open Go.ChangeShapes Go.WideShapes Go.ChangeAt Go.RowKit
open Go.Joins Go.ChangeShapes Go.WideShapes Go.ChangeAt Go.RowKit Go.Deep
set_option maxRecDepth 100000
instance:Inhabited Sl:=⟨⟨⟨#[]⟩,0⟩⟩
section
variable {H:Type}{enc:TypeId × Value->H}{w:World}{base:Nat}{spare:Nat->Bool}{held:Bool}
end
section
variable {K:aK}{w:World}{F:List aB}{d:aR}{az level ri:Int}{a:Option Addr}{len cap:Nat}{hi:ByteArray}{la:Bool}{f:Nat->Sl}
end
theorem Jj (fa:Int):(mY 1 (4+fa%3) 1000).Ok:=by
 have h0:0<=fa%3:=by omega
 have h1:fa%3<=2:=by omega
 constructor <;> simp only[mY] <;> omega
structure oM (d:aR)(pg:Pg):Prop where
 le:(pg.sl.length:Int)<=d.fa
 ri:0<=pg.ri/\pg.ri<18446744073709551616
 r:∀ s,s∈pg.sl->0<=s.r/\s.r<18446744073709551616
 k:∀ s,s∈pg.sl->s.k.size<=maxLen
 hi:pg.hi.size<=maxLen
 la:pg.la=true->pg.hi=⟨#[]⟩
def dA (o:Option Value)(c:aB):aB:=match o with
 | some _=>c
 | none=>gK
theorem nc.none {ρ:Nat->Option Value}{all:List Nat}{deps:Nat->List Nat}{j d:Nat}(h:nc all deps ρ)(hj:j∈all)(hd:d∈deps j)(hn:ρ d=none):ρ j=none:=by
 cases hx:ρ j with
 | none=>rfl
 | some v=>
  have:=h j hj (by rw[hx];rfl) d hd
  rw[hn]at this;cases this
theorem wL {w:World}{b:Nat}{xs:List Value}(h:∀ k,w.cell? ⟨b,k,none⟩=xs.toArray[k]?):∀ (j:Nat)(u:Value),xs[j]?=some u->∃ g off,(some ⟨b,0,none⟩:Option Addr)=some ⟨g,off,none⟩/\w.cell? ⟨g,off+j,none⟩=some u:=
 fun j u hu=>⟨b,0,rfl,by rw[Nat.zero_add,h j];simpa using hu⟩
end Go.Proofs.YtlpdhhhgckpcfaaGreat
