/- PostKeepsReaders: for every input the law returns true, and each argument reads as it did. -/
import Derived.Test.YtlpdhhhgckpcfaaGreatPoFine
namespace Go.Proofs.YtlpdhhhgckpcfaaGreat
set_option linter.unusedSimpArgs false
set_option linter.unusedVariables false
set_option maxHeartbeats 16000000
open Go.ChangeShapes Go.WideShapes Go.ChangeAt Go.RowKit
set_option maxRecDepth 100000 in
theorem lJ (os:Os)(started:os.Started)(H:Type)(enc:TypeId × Value->H) :
  ReturnsInHanded {} Tryz.checked os 9 .any (Rows.postKeepsReadersSpec.pre6 enc Tryz.prog Tryz.f9 Rows.postKeepsReadersRow.domain false) (Rows.postKeepsReadersSpec.post enc Tryz.prog Tryz.f9 false true false false):=by
 refine returnsInHanded_of_change (C:=Tryz.checked) own started (by kernel_rfl) Tryz.func9
  (ChangeSpec.witness6 (enc:=enc) (C:=Tryz.checked) false ⟨#[], #[.slice none 0 0,.int .i64 0,.int .u64 0,.bool false,.slice none 0 0],[]⟩ 8 (by kernel_rfl) (by kernel_rfl) (by kernel_rfl) (by kernel_rfl)) ?_
 intro W base args ds gs before b r _ _;have a:∀(j:Nat) t v,Tryz.f9.params[j]?=some t->args[j]?=some v->Value.okWide Tryz.prog W .any base t v:=b;have i := r;obtain⟨p,q,c,u,rfl,w,x⟩:=r;have k:DataW.TrodAll enc Tryz.prog W 0 (fun _=>true) true Tryz.f9.params.toList args.toList ds p:=c
 have l:=k;rw[Tryz.params9]at k a;obtain⟨v0,y,d0,z,p0,q0,m,rfl,rfl,h0,r0⟩:=trodAll_cons k;obtain⟨v1,A,d1,B,p1,q1,rfl,rfl,rfl,D,r1⟩:=trodAll_cons r0;obtain⟨v2,E,d2,F,p2,q2,rfl,rfl,rfl,G,I⟩:=trodAll_cons r1;obtain⟨v3,J,d3,K,p3,q3,rfl,rfl,rfl,L,M⟩:=trodAll_cons I;obtain⟨v4,N,d4,O,p4,q4,rfl,rfl,rfl,P,Q⟩:=trodAll_cons M;obtain⟨rfl,rfl,rfl⟩:=trodAll_nil Q;obtain rfl:args= #[v0,v1,v2,v3,v4]:=by cases args;simp_all
 obtain⟨rfl,rfl⟩:=trodVars_none u;obtain⟨R,n,S,rfl⟩:=okWide_slice Tryz.underlying22 (a 0 22 v0 rfl rfl);obtain⟨T,U⟩:=open_strs h0;obtain⟨V,rfl,rfl,rfl,w1⟩:=open_int Tryz.underlying3 (a 1 3 v1 rfl rfl) D;obtain⟨X,rfl,rfl,rfl,Y⟩:=open_int Tryz.underlying23 (a 2 23 v2 rfl rfl) G;obtain⟨Z,rfl,rfl,rfl⟩:=open_bool Tryz.underlying4 (a 3 4 v3 rfl rfl) L;obtain⟨s,d,o,rfl⟩:=okWide_slice Tryz.underlying24 (a 4 24 v4 rfl rfl);obtain⟨z4,w4⟩:∃f,Th .u8 W s d f:=Ti Tryz.underlying24 Tryz.underlying5 (by kernel_rfl) P
 clear c b;refine(mS R n S T V X Z s d o z4 (wf_u64 Y) W U w4).mono fun e W' ⟨he,g⟩=>?_
 subst he;exact⟨_,rfl,_,_,_,[],_,[],i,trodAll_mk1 (shut_bool Tryz.underlying4 _),vW laidOut g (by rw[Tryz.params9];decide +kernel) l,rfl,g.frame _,fun h=>by cases h⟩
set_option maxRecDepth 100000 in
theorem postKeepsReaders_holds:Rows.PostKeepsReadersSaid:=
 OpenClaim.holds_of_wide 9 Tryz.f9 rfl rfl rfl rfl rfl rfl rfl ⟨rfl,rfl,rfl,rfl,rfl⟩ rfl rfl rfl rfl rfl (by as_aux_lemma=>kernel_rfl) Tryz.func9
  (Qo (P:=Tryz.prog) (by as_aux_lemma=>kernel_rfl) laidOut vL (by as_aux_lemma=>kernel_rfl) (by as_aux_lemma=>kernel_rfl) (by as_aux_lemma=>kernel_rfl) Kc (by as_aux_lemma=>kernel_rfl) vM (by as_aux_lemma=>kernel_rfl) (by as_aux_lemma=>kernel_rfl) (by as_aux_lemma=>kernel_rfl) (by as_aux_lemma=>kernel_rfl) (by as_aux_lemma=>kernel_rfl) (by as_aux_lemma=>kernel_rfl) (by as_aux_lemma=>kernel_rfl) (by as_aux_lemma=>kernel_rfl) (by as_aux_lemma=>kernel_rfl) (by as_aux_lemma=>kernel_rfl) (by as_aux_lemma=>kernel_rfl) (by as_aux_lemma=>kernel_rfl) (by as_aux_lemma=>kernel_rfl) (by as_aux_lemma=>kernel_rfl) (by as_aux_lemma=>kernel_rfl) tu wT (by rw[tz];rfl) (by as_aux_lemma=>kernel_rfl) (by as_aux_lemma=>kernel_rfl) (by as_aux_lemma=>kernel_rfl) (by as_aux_lemma=>kernel_rfl) (by as_aux_lemma=>kernel_rfl))
  (of_decide_eq_true (by kernel_rfl)) (by unfold Func.isWrapper;rw[if_neg (of_decide_eq_false (by kernel_rfl))];exact⟨rfl,rfl⟩)
  (fun os started H enc _=>lJ os started H enc)
#print axioms postKeepsReaders_holds
end Go.Proofs.YtlpdhhhgckpcfaaGreat
