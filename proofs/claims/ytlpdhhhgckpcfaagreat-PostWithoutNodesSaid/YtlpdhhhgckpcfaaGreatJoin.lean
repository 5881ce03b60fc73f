
/- The closed facts of a row, one by one: in one piece they cost the kernel too much memory. -/
import Derived.Test.YtlpdhhhgckpcfaaGreatPageA
namespace Go.Proofs.YtlpdhhhgckpcfaaGreat
open Go.ChangeShapes Go.WideShapes Go.ChangeAt Go.RowKit
theorem Ny {P:Program}{f:FuncId}{fn:Func}{s:ChangeSpec}{c:OpenClaim}
  (k1:c.wf (OpenSpec.ofChange s)=true) (k2:laidOutB P=true) (k3:mapsRowed P=true) (k4:fn.params.all (P.readableRec ·)=true) (k5:namedTie P c.named s.vars=true) (k6:(c.stops == [])=true) (k7:(P.stops == [])=true) (k8:(c.knobs == [])=true) (k9:(P.stopKnobs == [])=true)
  (k10:(c.inPlace == P.inPlace f)=true) (k11:(c.unfollowed == P.unfollowed f)=true) (k12:(c.recurses == P.recurses f)=true) (k13:(c.named == P.varsNamed f)=true)
  (k14:(c.maps == (fn.params.toList++s.plain.varTypes P).any (P.mapsRec ·))=true) (k15:(c.ifaces == (fn.params.toList++s.plain.varTypes P).any (P.ifacesRec ·))=true) (k16:(c.mapsOut == P.mapsAmong fn.resultTypes.toList)=true)
  (k17:(c.loops == (fn.params.toList++s.plain.varTypes P).any (P.loopsFrom ·))=true) (ake:(c.wideKeys == (fn.params.toList++s.plain.varTypes P++fn.resultTypes.toList).any (P.wideKeysFrom ·))=true)
  (k18:s.vars.all (P.varReadable ·)=true) (k19:fn.resultTypes.all (fun t=>P.readableRec t && decide (t<P.types.size))=true) (k20:(c.ifacesOut == fn.resultTypes.toList.any (P.ifacesRec ·))=true) (k21:(c.loopsOut == fn.resultTypes.toList.any (P.loopsFrom ·))=true) (k22:(c.plainKeys == P.plainKeys)=true)
  (k23:c.shortTexts.isNone=true) (akf:P.stopsHeard=true) (k24:P.mayEnter=true) (akg:(c.lifted == P.liftsFinal)=true) (akh:(P.make == some c.make)=true)
  (k25:(c.kinds == (if c.domain.isEmpty then []else fn.params.toList.map fun t=>match P.underlying t with|some (.int k)=>some k|_=>none))=true) (k26:(c.pinned == c.pinnedBy)=true)
  (k27:(c.veiled == (fn.params.toList++s.plain.varTypes P++fn.resultTypes.toList).any (P.veiledRec ·))=true) (k28:c.veiledFits P fn.params.toList (fn.params.toList++s.plain.varTypes P++fn.resultTypes.toList)=true):joinedFacts P f fn s c=true:=by
 unfold joinedFacts;simp only[Bool.and_eq_true];exact⟨⟨⟨⟨⟨⟨⟨⟨⟨⟨⟨⟨⟨⟨⟨⟨⟨⟨⟨⟨⟨⟨⟨⟨⟨⟨⟨⟨⟨⟨⟨k1,k2⟩,k3⟩,k4⟩,k5⟩,k6⟩,k7⟩,k8⟩,k9⟩,k10⟩,k11⟩,k12⟩,k13⟩,k14⟩,k15⟩,k16⟩,k17⟩,ake⟩,k18⟩,k19⟩,k20⟩,k21⟩,k22⟩,k23⟩,akf⟩,k24⟩,akg⟩,akh⟩,k25⟩,k26⟩,k27⟩,k28⟩
theorem uV:mapsRowed Tryz.prog=true:=by kernel_rfl
theorem Iu:(Tryz.prog.stops == [])=true:=by kernel_rfl
theorem uW:(Tryz.prog.stopKnobs == [])=true:=by kernel_rfl
theorem sH:Tryz.prog.stopsHeard=true:=by kernel_rfl
theorem vY:Tryz.prog.mayEnter=true:=by kernel_rfl
theorem sI:Tryz.prog.liftsFinal=false:=by kernel_rfl
end Go.Proofs.YtlpdhhhgckpcfaaGreat
