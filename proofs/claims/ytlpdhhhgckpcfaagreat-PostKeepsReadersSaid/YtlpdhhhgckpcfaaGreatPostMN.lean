/- The machine post.Post as a transiti. -/
import Derived.Test.YtlpdhhhgckpcfaaGreatPostS
namespace Go.Proofs.YtlpdhhhgckpcfaaGreat
set_option linter.unusedSimpArgs false
set_option linter.unusedVariables false
open Go.RowKit
set_option maxHeartbeats 16000000
set_option maxRecDepth 100000
section
structure dS where
 pc:Nat
 f:jF
 lk:xI
 fr:cC
 ins:gh
 aq:oG
 root:Int
 word:Int
 tk:iJ
 id:Int
 k:Nat
def dS.fu (s:dS):Pg:=aI s.fr.pg s.f.sep s.f.ch
def dS.left (s:dS):cC:=if s.ins.full then s.fr else⟨s.fr.id,dW (bH s.fr.word),s.ins.pg s.fu⟩
def dS.right (s:dS):cC:=s.ins.right s.fu
def dS.Uv (s:dS):ByteArray:=if s.ins.sp then bM s.fu else⟨#[]⟩
def dS.ps (d:aU)(s:dS):List Pt:=⟨d.node s.id 0,⟨aT 0,⟨#[]⟩,0⟩⟩::bQ d s.id (fH s.f.aA s.root)
def jF.end (p:jF)(x:Bool):jF:=⟨p.aA,p.sep,p.ch,x⟩
def eQ (d:aU)(L:List aQ)(s:dS):List aQ:=match s.pc with
 | 0=>(aN d s.f.sep s.f.aA L s.lk).2
 | 1=>bS d L s.ins
 | 2=>aR L (d.node s.left.id 0) ⟨aH s.left.word,⟨#[]⟩,0⟩
 | 3=>aR L (d.node s.right.id 0) ⟨aH s.right.word,⟨#[]⟩,0⟩
 | 4=>aR L (d.node s.fr.id 0) ⟨aH s.fr.word,⟨#[]⟩,0⟩
 | 5=>(bP 7 L s.aq).2
 | 8=>aR L 7 ⟨aH s.word,⟨#[]⟩,0⟩
 | 9=>(aG 4 d.no L s.tk).2
 | 10=>match (s.ps d)[s.k]? with
  | some pt=>aR L pt.i pt.c
  | none=>L
 | 11=>aR L (d.node s.id 0) ⟨aH (aT 0),⟨#[]⟩,0⟩
 | 12=>aR L 0 ⟨s.id,⟨#[]⟩,0⟩
 | 13=>aR L 7 ⟨aH s.word,⟨#[]⟩,0⟩
 | _=>L
def jm (d:aU)(L:List aQ)(s s':dS):Prop:=match s.pc with
 | 0=>((aN d s.f.sep s.f.aA L s.lk).1.pc≠4/\s' = { s with lk:=(aN d s.f.sep s.f.aA L s.lk).1 }) \/
   ((aN d s.f.sep s.f.aA L s.lk).1.pc=4/\(((aN d s.f.sep s.f.aA L s.lk).1.h.id=0/\s' = { s with pc:=5,lk:=(aN d s.f.sep s.f.aA L s.lk).1,aq:=mL }) \/
    ((aN d s.f.sep s.f.aA L s.lk).1.h.id≠0/\fR (aN d s.f.sep s.f.aA L s.lk).1.h.pg.sl s.f.sep<iN (aN d s.f.sep s.f.aA L s.lk).1.h.pg.sl s.f.sep/\s' = { s with pc:=4,lk:=(aN d s.f.sep s.f.aA L s.lk).1,fr:=(aN d s.f.sep s.f.aA L s.lk).1.h }) \/
    ((aN d s.f.sep s.f.aA L s.lk).1.h.id≠0/\¬ fR (aN d s.f.sep s.f.aA L s.lk).1.h.pg.sl s.f.sep<iN (aN d s.f.sep s.f.aA L s.lk).1.h.pg.sl s.f.sep/\∃ins,nM d (aN d s.f.sep s.f.aA L s.lk).1.h (aI (aN d s.f.sep s.f.aA L s.lk).1.h.pg s.f.sep s.f.ch) ins/\s' = { s with pc:=1,lk:=(aN d s.f.sep s.f.aA L s.lk).1,fr:=(aN d s.f.sep s.f.aA L s.lk).1.h,ins:=ins })))
 | 1=>∃ins',ig d s.fr s.fu L s.ins ins' /\ ((ins'.pc<3/\s' = { s with ins:=ins' })\/(3<=ins'.pc/\s' = { s with pc:=2,ins:=ins' }))
 | 2=>(s.ins.full=true/\s' = { s with pc:=14,f:=s.f.end false })\/(s.ins.full=false/\s.right.id=0/\s' = { s with pc:=14,f:=s.f.end true })\/(s.ins.full=false/\s.right.id≠0/\s' = { s with pc:=3 })
 | 3=>s' = { s with pc:=0,f:=⟨s.f.aA+1,s.Uv,s.right.id,s.f.po⟩,lk:=nK }
 | 4=>s' = { s with pc:=14,f:=s.f.end true }
 | 5=>((bP 7 L s.aq).1.pc≠2/\s' = { s with aq:=(bP 7 L s.aq).1 })\/((bP 7 L s.aq).1.pc=2/\s' = { s with pc:=6,aq:=(bP 7 L s.aq).1 })
 | 6=>s' = { s with pc:=7,root:=(ah L 0).n }
 | 7=>(s.f.aA<=(ah L (d.node s.root 1)).m/\s' = { s with pc:=8,word:=s.aq.word })\/(¬ s.f.aA<=(ah L (d.node s.root 1)).m/\s' = { s with pc:=9,word:=s.aq.word,tk:=⟨0,0,false⟩ })
 | 8=>s' = { s with pc:=0,lk:=nK }
 | 9=>((aG 4 d.no L s.tk).1.pc<2/\s' = { s with tk:=(aG 4 d.no L s.tk).1 }) \/
   (2<=(aG 4 d.no L s.tk).1.pc/\(aG 4 d.no L s.tk).1.ok=false/\s' = { s with pc:=13,tk:=(aG 4 d.no L s.tk).1 }) \/
   (2<=(aG 4 d.no L s.tk).1.pc/\(aG 4 d.no L s.tk).1.ok=true/\s' = { s with pc:=10,tk:=(aG 4 d.no L s.tk).1,id:=(aG 4 d.no L s.tk).1.seen+1,k:=0 })
 | 10=>(s.k+1≠(s.ps d).length/\s' = { s with k:=s.k+1 })\/(s.k+1=(s.ps d).length/\s' = { s with pc:=11,k:=s.k+1 })
 | 11=>s' = { s with pc:=12 }
 | 12=>s' = { s with pc:=8 }
 | 13=>s' = { s with pc:=14,f:=s.f.end false }
 | _=>s'=s
def fU (d:aU)(b:Nat)(s:dS)(C:List aC):Prop:=match s.pc with
 | 0=>∃b2 b3 b5 bk jc bD Ck,lC d s.f.sep s.f.aA bk s.lk Ck/\C=blk b (.cells ((aY (some (aB b2 b3 b5))) :: .bool true::bA d s.f).toArray 167)::bI b2 b3 b5 (.iface 37 (.pointer (some ⟨bk,0,none⟩))) (jr jc bD)::([blk jc (.cells #[(.pointer (some ⟨bk,0,none⟩))] 37),blk bD (.cells #[(.pointer (some ⟨b,0,none⟩))] 100)]++Ck)
 | 1=>∃b2 b3 b5 bi bD eI Ci,kS d s.fr s.fu bi s.ins Ci/\C=blk b (.cells ((aY (some (aB b2 b3 b5))) :: .bool true::bA d s.f).toArray 167)::bI b2 b3 b5 (.iface 82 (.pointer (some ⟨bi,0,none⟩))) (mj bD eI)::([blk bD (.cells #[(.pointer (some ⟨b,0,none⟩))] 100),blk eI (.cells #[(.pointer (some ⟨bi,0,none⟩))] 82)]++Ci)
 | 2=>∃b2 b3 b5 br jk jl bD eI bi x,ze s.fr s.fu s.ins x/\C=blk b (.cells ((aY (some (aB b2 b3 b5))) :: .bool true::bA d s.f).toArray 167)::bI b2 b3 b5 (.iface 47 (.pointer (some ⟨br,0,none⟩))) (kH eI bD)::([blk bD (.cells #[(.pointer (some ⟨b,0,none⟩))] 100),blk eI (.cells #[(.pointer (some ⟨bi,0,none⟩))] 82),bC bi .nilFunc d x,bz x.vl x.le.pg,bz x.vr x.ri.pg]++fF br jk jl (d.node s.left.id 0) s.left.word 0)
 | 3=>∃b2 b3 b5 br jk jl bD eI bi x,ze s.fr s.fu s.ins x/\C=blk b (.cells ((aY (some (aB b2 b3 b5))) :: .bool true::bA d s.f).toArray 167)::bI b2 b3 b5 (.iface 47 (.pointer (some ⟨br,0,none⟩))) (jU bD eI)::([blk bD (.cells #[(.pointer (some ⟨b,0,none⟩))] 100),blk eI (.cells #[(.pointer (some ⟨bi,0,none⟩))] 82),bC bi .nilFunc d x,bz x.vr x.ri.pg]++fF br jk jl (d.node s.right.id 0) s.right.word 0)
 | 4=>∃b2 b3 b5 br jk jl bD,C=blk b (.cells ((aY (some (aB b2 b3 b5))) :: .bool true::bA d s.f).toArray 167)::bI b2 b3 b5 (.iface 47 (.pointer (some ⟨br,0,none⟩))) (Lh bD)::([blk bD (.cells #[(.pointer (some ⟨b,0,none⟩))] 100)]++fF br jk jl (d.node s.fr.id 0) s.fr.word 0)
 | 5=>∃b2 b3 b5 ba bD fj,C=blk b (.cells ((aY (some (aB b2 b3 b5))) :: .bool true::bA d s.f).toArray 167)::bI b2 b3 b5 (.iface 175 (.pointer (some ⟨ba,0,none⟩))) (zn bD fj)::([blk bD (.cells #[(.pointer (some ⟨b,0,none⟩))] 100),blk fj (.cells #[(.pointer (some ⟨ba,0,none⟩))] 175)]++[gD ba 7 s.aq])
 | 6=>∃ba bD fj,C=blk b (.cells ((aY (some (Dx bD fj))) :: .bool true::bA d s.f).toArray 167)::[blk bD (.cells #[(.pointer (some ⟨b,0,none⟩))] 100),blk fj (.cells #[(.pointer (some ⟨ba,0,none⟩))] 175),gD ba 7 s.aq]
 | 7=>∃ba bD fj jT,C=blk b (.cells ((aY (some (Dy bD jT fj))) :: .bool true::bA d s.f).toArray 167)::[blk bD (.cells #[(.pointer (some ⟨b,0,none⟩))] 100),blk jT (.cells #[.int .u64 s.root] 23),blk fj (.cells #[(.pointer (some ⟨ba,0,none⟩))] 175),gD ba 7 s.aq]
 | 8=>∃b2 b3 b5 br jk jl,C=blk b (.cells ((aY (some (aB b2 b3 b5))) :: .bool true::bA d s.f).toArray 167)::bI b2 b3 b5 (.iface 47 (.pointer (some ⟨br,0,none⟩))) (Ut b)::([]++fF br jk jl 7 s.word 0)
 | 9=>∃b2 b3 b5 bt xM bD fG jT,C=blk b (.cells ((aY (some (aB b2 b3 b5))) :: .bool true::bA d s.f).toArray 167)::bI b2 b3 b5 (.iface 156 (.pointer (some ⟨bt,0,none⟩))) (zo xM bD fG jT)::([blk xM (.cells #[(.pointer (some ⟨bt,0,none⟩))] 156),blk bD (.cells #[(.pointer (some ⟨b,0,none⟩))] 100),blk fG (.cells #[.int .u64 s.word] 23),blk jT (.cells #[.int .u64 s.root] 23)]++[gT bt 4 d.no s.tk])
 | 10=>∃b2 b3 b5 bf bF g cap av cv bD jq gY fG,C=blk b (.cells ((aY (some (aB b2 b3 b5))) :: .bool true::bA d s.f).toArray 167)::bI b2 b3 b5 (.iface 74 (.pointer (some ⟨bf,0,none⟩))) (tK bD jq gY fG)::([blk jq (.cells #[(.pointer (some ⟨bf,0,none⟩))] 74),blk gY (.cells #[.int .u64 s.id] 23),blk bD (.cells #[(.pointer (some ⟨b,0,none⟩))] 100),blk fG (.cells #[.int .u64 s.word] 23)]++Jd bf bF s.id (fH s.f.aA s.root) (.slice av (fH s.f.aA s.root).sl.length cv) g cap (s.ps d) s.k)
 | 11=>∃b2 b3 b5 br jk jl bD gY fG,C=blk b (.cells ((aY (some (aB b2 b3 b5))) :: .bool true::bA d s.f).toArray 167)::bI b2 b3 b5 (.iface 47 (.pointer (some ⟨br,0,none⟩))) (mz bD gY fG)::([blk bD (.cells #[(.pointer (some ⟨b,0,none⟩))] 100),blk gY (.cells #[.int .u64 s.id] 23),blk fG (.cells #[.int .u64 s.word] 23)]++fF br jk jl (d.node s.id 0) (aT 0) 0)
 | 12=>∃bD gY fG,C=blk b (.cells ((aY (some (Uu bD gY fG))) :: .bool true::bA d s.f).toArray 167)::[blk bD (.cells #[(.pointer (some ⟨b,0,none⟩))] 100),blk gY (.cells #[.int .u64 s.id] 23),blk fG (.cells #[.int .u64 s.word] 23)]
 | 13=>∃b2 b3 b5 br jk jl bD,C=blk b (.cells ((aY (some (aB b2 b3 b5))) :: .bool true::bA d s.f).toArray 167)::bI b2 b3 b5 (.iface 47 (.pointer (some ⟨br,0,none⟩))) (Lj bD)::([blk bD (.cells #[(.pointer (some ⟨b,0,none⟩))] 100)]++fF br jk jl 7 s.word 0)
 | _=>C=[blk b (.cells (.nilFunc :: .bool true::bA d s.f).toArray 167)]
structure dS.Ok (d:aU)(L:List aQ)(s:dS):Prop where
 pc:s.pc<=13
 aA:0<=s.f.aA/\s.f.aA<1000
 lk:s.pc=0->s.lk.Ok d s.f.sep s.f.aA L/\s.lk.h=oq/\(aN d s.f.sep s.f.aA L s.lk).1.pc<=4/\((aN d s.f.sep s.f.aA L s.lk).1.pc=4->(aN d s.f.sep s.f.aA L s.lk).1.h.pg.sl.length<=1000000 /\
  ((aN d s.f.sep s.f.aA L s.lk).1.h.id≠0->(aN d s.f.sep s.f.aA L s.lk).1.h.Ok d/\kY (aN d s.f.sep s.f.aA L s.lk).1.h.pg.sl/\(¬ fR (aN d s.f.sep s.f.aA L s.lk).1.h.pg.sl s.f.sep<iN (aN d s.f.sep s.f.aA L s.lk).1.h.pg.sl s.f.sep->lB d (aN d s.f.sep s.f.aA L s.lk).1.h (aI (aN d s.f.sep s.f.aA L s.lk).1.h.pg s.f.sep s.f.ch))))
 ins:s.pc=1->s.fr.Ok d/\lB d s.fr s.fu/\s.ins.Ok d s.fu
 left:s.pc=2->(0<=s.left.word/\s.left.word<18446744073709551616)/\s.right.pg.sl.length<=1000000/\(0<=s.right.id/\s.right.id<18446744073709551616)
 right:s.pc=3->(0<=s.right.word/\s.right.word<18446744073709551616)/\s.right.pg.sl.length<=1000000
 found:s.pc=4->0<=s.fr.word/\s.fr.word<18446744073709551616
 acq:s.pc=5->s.aq.Ok/\s.aq.pc≠2
 root:s.pc=7->(0<=s.root/\s.root<18446744073709551616)/\s.aq.pc=2/\(0<=(ah L (d.node s.root 1)).m/\(ah L (d.node s.root 1)).m<1000000)
 word:s.pc=8\/s.pc=13->0<=s.word/\s.word<18446744073709551616
 take:s.pc=9->s.tk.pc<2/\(s.tk.pc=1->0<=s.tk.seen/\s.tk.seen<18446744073709551615)/\((aG 4 d.no L s.tk).1.ok=true->0<=(aG 4 d.no L s.tk).1.seen/\(aG 4 d.no L s.tk).1.seen<18446744073709551615)
 fresh:s.pc=10->s.k<(s.ps d).length/\(0<=s.id/\s.id<18446744073709551616)
theorem Dz (n : Nat) (a : Addr) (w : World) : (method (n + 1) 37 (.pointer (some a)) "Step").run Tryz.prog w = .ok (18, .pointer (some a)) w := by kernel_rfl
theorem wK (n : Nat) (a : Addr) (w : World) : (method (n + 1) 82 (.pointer (some a)) "Step").run Tryz.prog w = .ok (48, .pointer (some a)) w := by kernel_rfl
section
variable {K:aM}{w:World}{F:List aC}{b bm bc acc:Nat}{d:aU}{L:List aQ}{s:dS}{C:List aC}
def gy (K:aM)(b bm bc:Nat)(d:aU)(L:List aQ)(acc:Nat)(s:dS)(F:List aC)(e:Ending)(w':World):Prop:=
 ∃s' C',e=.returned (.bool (decide (14<=s'.pc)))/\jm d L s s' /\ fU d b s' C' /\ St K w' (C' ++ aL bm bc (eQ d L s) (acc+1)::F)
def Uw (K:aM)(b bm bc:Nat)(d:aU)(L:List aQ)(acc:Nat)(s:dS)(nx:Value)(F:List aC)(e:Ending)(w':World):Prop:=
 ∃(o:Option FV) (C2:List aC) (s':dS),e=.returned (aY o)/\jm d L s s' /\ o.isNone=decide (14<=s'.pc)/\fU d b s' (blk b (.cells ((aY o) :: .bool true::bA d s'.f).toArray 167)::C2)/\St K w' (blk b (.cells (nx :: .bool true::bA d s'.f).toArray 167)::(C2++aL bm bc (eQ d L s) (acc+1)::F))
theorem Ux {fv:FV}(n:Enters fv.f)(hc:w.cell? ⟨b,0,none⟩=some (aY (some fv)))(h:Calls Tryz.prog fv.f (fv.x ++ #[(.pointer (some ⟨bm,0,none⟩))]++fv.y) w (Uw K b bm bc d L acc s (aY (some fv)) F)):Calls Tryz.prog 77 #[(.pointer (some ⟨b,0,none⟩)),(.pointer (some ⟨bm,0,none⟩))] w (gy K b bm bc d L acc s F):=by
 refine(iC (K:=K) (α:={ x:Option FV × List aC × dS // jm d L s x.2.2/\x.1.isNone=decide (14<=x.2.2.pc)/\fU d b x.2.2 (blk b (.cells ((aY x.1) :: .bool true::bA d x.2.2.f).toArray 167)::x.2.1) })
  (f:=fv) (o:=fun x=>x.1.1) (nx:=aY (some fv)) (tl:=fun x=> .bool true::bA d x.1.2.2.f) (F' := fun x=>x.1.2.1++aL bm bc (eQ d L s) (acc+1)::F) (T:=167) n hc (h.mono ?_)).mono ?_
 ·rintro e p ⟨o,l,s',he,c,g,i,j⟩
  exact⟨⟨(o,l,s'),c,g,i⟩,he,j⟩
 ·rintro e p ⟨⟨⟨o,l,s'⟩,c,g,i⟩,he,j⟩
  exact⟨s',_,by rw[he,show o.isNone=decide (14<=s'.pc)from g],c,i,j⟩
theorem ko {b2 b3 b5:Nat}{T2:TypeId}{xv:Value}{g f:Nat}{tx ty:Array Value}{V Cm:List aC}{R:Bool->List aC->Prop}
  (u:kG K bm bc g xv L acc Cm (eQ d L s) (acc+1) R)
  (hm : ∀ (n : Nat) (w : World), (method (n + 1) T2 xv "Step").run Tryz.prog w = .ok (g, xv) w) (z : Enters g) (A : Enters f)
  (h:∀(c:List aC) (w:World) (F:List aC),R true c -> St K w (blk b (.cells ((aY (some (aB b2 b3 b5))) :: .bool true::bA d s.f).toArray 167)::(V++(c ++ aL bm bc (eQ d L s) (acc+1)::F)))->Calls Tryz.prog f (tx++ty) w (Uw K b bm bc d L acc s (aY (some (aB b2 b3 b5))) F))
  (i:∀c,R false c -> ∃s',jm d L s s' /\ s'.pc<14/\fU d b s' (blk b (.cells ((aY (some (aB b2 b3 b5))) :: .bool true::bA d s.f).toArray 167)::bI b2 b3 b5 (.iface T2 xv) (.func (.func f) tx ty)::(V++c)))
  (v:St K w (blk b (.cells ((aY (some (aB b2 b3 b5))) :: .bool true::bA d s.f).toArray 167)::bI b2 b3 b5 (.iface T2 xv) (.func (.func f) tx ty)::(V++(Cm++aL bm bc L acc::F)))) :
  Calls Tryz.prog 77 #[(.pointer (some ⟨b,0,none⟩)),(.pointer (some ⟨bm,0,none⟩))] w (gy K b bm bc d L acc s F):=by
 refine(kG.nC (R:=R) (R2:=fun o y q=>∃s',y=.bool true::bA d s'.f/\jm d L s s' /\ o.isNone=decide (14<=s'.pc)/\fU d b s' (blk b (.cells ((aY o) :: .bool true::bA d s'.f).toArray 167)::q)) u hm z A (fun c w F hR v=>(h c w F hR v).mono ?_) w F v).mono ?_
 ·rintro e B ⟨o,q,s',he,j,r,l,x⟩
  exact⟨o,_,q,he,⟨s',rfl,j,r,l⟩,x⟩
 ·rintro e w' ⟨o,y,q,he,p,⟨rfl,rfl,c,hR,rfl⟩|⟨s',rfl,j,r,l⟩⟩
  ·obtain⟨s',j,r,l⟩:=i c hR
   refine⟨s',_,?_,j,l,p⟩;rw[he,decide_eq_false (by omega)]
   rfl
  ·exact⟨s',_,by rw[he,r],j,l,p⟩
end
section
variable {K:aM}{w:World}{F:List aC}{b bm bc acc:Nat}{d:aU}{L:List aQ}{f:jF}{lk:xI}{fr:cC}{ins:gh}{aq:oG}{root word:Int}{tk:iJ}{id:Int}{k:Nat}{C:List aC}
theorem acC (N:d.Ok)(T:bL L)(U:acc<=1000000000000)(hok:dS.Ok d L ⟨0,f,lk,fr,ins,aq,root,word,tk,id,k⟩)(W:fU d b ⟨0,f,lk,fr,ins,aq,root,word,tk,id,k⟩ C)(g:St K w (C++aL bm bc L acc::F)):Calls Tryz.prog 77 #[(.pointer (some ⟨b,0,none⟩)),(.pointer (some ⟨bm,0,none⟩))] w (gy K b bm bc d L acc ⟨0,f,lk,fr,ins,aq,root,word,tk,id,k⟩ F):=by
 obtain⟨b2,b3,b5,j,x,y,O,z,rfl⟩:=W;obtain⟨k1,k2,X,P⟩:=hok.lk rfl;simp only at k1 k2 X P z g;have g:St K w (blk b (.cells ((aY (some (aB b2 b3 b5))) :: .bool true::bA d f).toArray 167)::bI b2 b3 b5 (.iface 37 (.pointer (some ⟨j,0,none⟩))) (jr x y)::([blk x (.cells #[(.pointer (some ⟨j,0,none⟩))] 37),blk y (.cells #[(.pointer (some ⟨b,0,none⟩))] 100)]++(O++aL bm bc L acc::F))):=by simpa using g
 refine ko (V:=[blk x (.cells #[(.pointer (some ⟨j,0,none⟩))] 37),blk y (.cells #[(.pointer (some ⟨b,0,none⟩))] 100)]) (Cm:=O) (R:=fun fin u => fin=decide (4<=(aN d f.sep f.aA L lk).1.pc)/\lC d f.sep f.aA j (aN d f.sep f.aA L lk).1 u)
  (fun w F g=>?_) (fun n w=>Dz n _ w) (fun _ _=>by kernel_rfl) (fun _ _=>by kernel_rfl) ?_ ?_ g
 ·refine(Dg N T U k1 k2 z g).mono ?_
  rintro e w' ⟨u,rfl,E,G⟩;exact⟨_,u,rfl,⟨rfl,E⟩,G⟩
 ·rintro u Q Y ⟨H,I⟩ g
  have A:(aN d f.sep f.aA L lk).1.pc=4:=by
   have:=of_decide_eq_true H.symm;omega
  obtain⟨Z,j2⟩:=P A;have B:eQ d L ⟨0,f,lk,fr,ins,aq,root,word,tk,id,k⟩=(aN d f.sep f.aA L lk).2:=rfl;have J:∀s',((aN d f.sep f.aA L lk).1.h.id=0/\s'=(⟨5,f,(aN d f.sep f.aA L lk).1,fr,ins,mL,root,word,tk,id,k⟩:dS)) \/
    ((aN d f.sep f.aA L lk).1.h.id≠0/\fR (aN d f.sep f.aA L lk).1.h.pg.sl f.sep<iN (aN d f.sep f.aA L lk).1.h.pg.sl f.sep/\s'=⟨4,f,(aN d f.sep f.aA L lk).1,(aN d f.sep f.aA L lk).1.h,ins,aq,root,word,tk,id,k⟩) \/
    ((aN d f.sep f.aA L lk).1.h.id≠0/\¬ fR (aN d f.sep f.aA L lk).1.h.pg.sl f.sep<iN (aN d f.sep f.aA L lk).1.h.pg.sl f.sep/\∃o,nM d (aN d f.sep f.aA L lk).1.h (aI (aN d f.sep f.aA L lk).1.h.pg f.sep f.ch) o /\ s'=⟨1,f,(aN d f.sep f.aA L lk).1,(aN d f.sep f.aA L lk).1.h,o,aq,root,word,tk,id,k⟩)->jm d L ⟨0,f,lk,fr,ins,aq,root,word,tk,id,k⟩ s' := fun s' h=> .inr ⟨A,h⟩
  rw[B]at g;unfold Uw;rw[B];generalize (aN d f.sep f.aA L lk).2=L' at *;generalize (aN d f.sep f.aA L lk).1=l at *;have hx:∃v,u = [blk j (.cells (.nilFunc :: .bool true::eE d f.sep l.h v).toArray 125),bz v l.h.pg]:=by
   obtain⟨pc,fd,lid,laq,ow,hh⟩:=l;simp only at A;subst A;exact I
  obtain⟨v,rfl⟩:=hx;have g:St K Q (blk b (.cells ((aY (some (aB b2 b3 b5))) :: .bool true::bA d f).toArray 167)::blk x (.cells #[(.pointer (some ⟨j,0,none⟩))] 37)::blk y (.cells #[(.pointer (some ⟨b,0,none⟩))] 100)::blk j (.cells (.nilFunc :: .bool true::eE d f.sep l.h v).toArray 125)::bz v l.h.pg::aL bm bc L' (acc+1)::Y):=g;obtain⟨a,c,rfl,_,_⟩:=(show St K Q (az v 69 2 l.h.pg.sl.length (aF l.h.pg.sl)::_)from g.b4).aJ
  refine(vk N Z j2 g).mono ?_
  rintro e w2 (⟨h0,p,q,r,ba,D,fj,rfl,i⟩|⟨h0,M,p,q,r,br,bi,bw,D,rfl,i⟩|⟨h0,M,p,q,r,bi,D,eI,s0,S,rfl,hb,Ga,i⟩)
  ·exact⟨some (aB p q r),[_,_,_,_],_,rfl,J _ (.inl ⟨h0,rfl⟩),rfl,⟨p,q,r,ba,D,fj,rfl⟩,i⟩
  ·exact⟨some (aB p q r),[_,_,_,_,_],_,rfl,J _ (.inr (.inl ⟨h0,M,rfl⟩)),rfl,⟨p,q,r,br,bi,bw,D,rfl⟩,i⟩
  ·exact⟨some (aB p q r),_::([_,_]++S),_,rfl,J _ (.inr (.inr ⟨h0,M,s0,hb,rfl⟩)),rfl,⟨p,q,r,bi,D,eI,S,Ga,rfl⟩,by simpa using i⟩
 ·rintro u ⟨H,I⟩
  have A:¬ 4<=(aN d f.sep f.aA L lk).1.pc:=of_decide_eq_false H.symm;exact⟨⟨0,f,(aN d f.sep f.aA L lk).1,fr,ins,aq,root,word,tk,id,k⟩,.inl ⟨by show(aN d f.sep f.aA L lk).1.pc≠4;omega,rfl⟩,by show 0<14;decide,b2,b3,b5,j,x,y,u,I,rfl⟩
theorem acD (o:acc<=1000000000000)(hok:dS.Ok d L ⟨4,f,lk,fr,ins,aq,root,word,tk,id,k⟩)(p:fU d b ⟨4,f,lk,fr,ins,aq,root,word,tk,id,k⟩ C)(c:St K w (C++aL bm bc L acc::F)):Calls Tryz.prog 77 #[(.pointer (some ⟨b,0,none⟩)),(.pointer (some ⟨bm,0,none⟩))] w (gy K b bm bc d L acc ⟨4,f,lk,fr,ins,aq,root,word,tk,id,k⟩ F):=by
 obtain⟨b2,b3,b5,br,j,l,q,rfl⟩:=p;have k1:=hok.found rfl;simp only at k1 c;refine ko (V:=[blk q (.cells #[(.pointer (some ⟨b,0,none⟩))] 100)]) (Cm:=fF br j l (d.node fr.id 0) fr.word 0) (R:=fun fin g => fin=true/\g=fF br j l (d.node fr.id 0) fr.word 1)
  (fun w F c=>?_) (fun n w=>iE n _ w) (fun _ _=>by kernel_rfl) (fun _ _=>by kernel_rfl) ?_ ?_ c
 ·refine(iD k1 o c).mono ?_
  rintro e w' ⟨rfl,h⟩;exact⟨_,_,rfl,⟨rfl,rfl⟩,h⟩
 ·rintro g x r ⟨_,rfl⟩ c
  refine(s7 c).mono ?_
  rintro e u ⟨rfl,i⟩;refine⟨none,[],⟨14,f.end true,lk,fr,ins,aq,root,word,tk,id,k⟩,rfl,rfl,rfl,rfl,?_⟩;exact(show St K u (_::_::_::_::_::_::r)from i).sub (.cons_cons _ (.cons _ (.cons _ (.cons _ (.cons _ (.cons_cons _ (List.Sublist.refl _)))))))
 ·rintro g ⟨v,_⟩
  cases v
theorem Zx (o:acc<=1000000000000)(hok:dS.Ok d L ⟨13,f,lk,fr,ins,aq,root,word,tk,id,k⟩)(p:fU d b ⟨13,f,lk,fr,ins,aq,root,word,tk,id,k⟩ C)(c:St K w (C++aL bm bc L acc::F)):Calls Tryz.prog 77 #[(.pointer (some ⟨b,0,none⟩)),(.pointer (some ⟨bm,0,none⟩))] w (gy K b bm bc d L acc ⟨13,f,lk,fr,ins,aq,root,word,tk,id,k⟩ F):=by
 obtain⟨b2,b3,b5,br,j,l,q,rfl⟩:=p;have k1:=hok.word (.inr rfl);simp only at k1 c;refine ko (V:=[blk q (.cells #[(.pointer (some ⟨b,0,none⟩))] 100)]) (Cm:=fF br j l 7 word 0) (R:=fun fin g => fin=true/\g=fF br j l 7 word 1)
  (fun w F c=>?_) (fun n w=>iE n _ w) (fun _ _=>by kernel_rfl) (fun _ _=>by kernel_rfl) ?_ ?_ c
 ·refine(iD k1 o c).mono ?_
  rintro e w' ⟨rfl,h⟩;exact⟨_,_,rfl,⟨rfl,rfl⟩,h⟩
 ·rintro g x r ⟨_,rfl⟩ c
  refine(s8 c).mono ?_
  rintro e u ⟨rfl,i⟩;refine⟨none,[],⟨14,f.end false,lk,fr,ins,aq,root,word,tk,id,k⟩,rfl,rfl,rfl,rfl,?_⟩;exact(show St K u (_::_::_::_::_::_::r)from i).sub (.cons_cons _ (.cons _ (.cons _ (.cons _ (.cons _ (.cons_cons _ (List.Sublist.refl _)))))))
 ·rintro g ⟨v,_⟩
  cases v
theorem acE (u:bL L)(x:acc<=1000000000000)(hok:dS.Ok d L ⟨5,f,lk,fr,ins,aq,root,word,tk,id,k⟩)(y:fU d b ⟨5,f,lk,fr,ins,aq,root,word,tk,id,k⟩ C)(c:St K w (C++aL bm bc L acc::F)):Calls Tryz.prog 77 #[(.pointer (some ⟨b,0,none⟩)),(.pointer (some ⟨bm,0,none⟩))] w (gy K b bm bc d L acc ⟨5,f,lk,fr,ins,aq,root,word,tk,id,k⟩ F):=by
 obtain⟨b2,b3,b5,g,h,j,rfl⟩:=y;obtain⟨k1,k2⟩:=hok.acq rfl;simp only at k1 k2 c;have l:=uC (i:=7) u k1;refine ko (V:=[blk h (.cells #[(.pointer (some ⟨b,0,none⟩))] 100),blk j (.cells #[(.pointer (some ⟨g,0,none⟩))] 175)]) (Cm:=[gD g 7 aq]) (R:=fun fin o => fin=decide (2<=(bP 7 L aq).1.pc)/\o = [gD g 7 (bP 7 L aq).1])
  (fun w F c=>?_) (fun n w=>uR n _ w) (fun _ _=>by kernel_rfl) (fun _ _=>by kernel_rfl) ?_ ?_ c
 ·refine(uD u x k1 k2 c).mono ?_
  rintro e w' ⟨rfl,p⟩;exact⟨_,_,rfl,⟨rfl,rfl⟩,p⟩
 ·rintro o z A ⟨q,rfl⟩ c
  have v:(bP 7 L aq).1.pc=2:=by
   have:=of_decide_eq_true q.symm;have:=l.pc;omega
  refine(zt c).mono ?_
  rintro e B ⟨rfl,r⟩;exact⟨some (Dx h j),[_,_,_],⟨6,f,lk,fr,ins,(bP 7 L aq).1,root,word,tk,id,k⟩,rfl,.inr ⟨v,rfl⟩,rfl,⟨g,h,j,rfl⟩,r⟩
 ·rintro o ⟨q,rfl⟩
  have v:¬ 2<=(bP 7 L aq).1.pc:=of_decide_eq_false q.symm;exact⟨⟨5,f,lk,fr,ins,(bP 7 L aq).1,root,word,tk,id,k⟩,.inl ⟨by show(bP 7 L aq).1.pc≠2;omega,rfl⟩,by show 5<14;decide,b2,b3,b5,g,h,j,rfl⟩
theorem acF (o:acc<=1000000000000)(p:fU d b ⟨6,f,lk,fr,ins,aq,root,word,tk,id,k⟩ C)(h:St K w (C++aL bm bc L acc::F)):Calls Tryz.prog 77 #[(.pointer (some ⟨b,0,none⟩)),(.pointer (some ⟨bm,0,none⟩))] w (gy K b bm bc d L acc ⟨6,f,lk,fr,ins,aq,root,word,tk,id,k⟩ F):=by
 obtain⟨i,c,g,rfl⟩:=p;simp only at h;have h:St K w (blk b (.cells ((aY (some (Dx c g))) :: .bool true::bA d f).toArray 167)::blk c (.cells #[(.pointer (some ⟨b,0,none⟩))] 100)::blk g (.cells #[(.pointer (some ⟨i,0,none⟩))] 175)::gD i 7 aq::aL bm bc L acc::F):=h;refine Ux (fv:=Dx c g) (fun _ _=>by kernel_rfl) (h.k0 0) ?_
 show Calls Tryz.prog 171 #[(.pointer (some ⟨bm,0,none⟩)),(.pointer (some ⟨c,0,none⟩)),(.pointer (some ⟨g,0,none⟩))] w _
 refine(zu o (h.re [0,1,4,2,3] rfl)).mono ?_
 rintro e q ⟨l,rfl,j⟩;exact⟨some (Dy c l g),[_,_,_,_],⟨7,f,lk,fr,ins,aq,(ah L 0).n,word,tk,id,k⟩,rfl,rfl,rfl,⟨i,c,g,l,rfl⟩,j.re [0,2,1,4,5,3] rfl⟩
theorem acG (x:d.Ok)(y:acc<=1000000000000)(hok:dS.Ok d L ⟨7,f,lk,fr,ins,aq,root,word,tk,id,k⟩)(z:fU d b ⟨7,f,lk,fr,ins,aq,root,word,tk,id,k⟩ C)(g:St K w (C++aL bm bc L acc::F)):Calls Tryz.prog 77 #[(.pointer (some ⟨b,0,none⟩)),(.pointer (some ⟨bm,0,none⟩))] w (gy K b bm bc d L acc ⟨7,f,lk,fr,ins,aq,root,word,tk,id,k⟩ F):=by
 obtain⟨r,l,n,o,rfl⟩:=z;obtain⟨k1,k2,u⟩:=hok.root rfl;simp only at k1 k2 u g;have g:St K w (blk b (.cells ((aY (some (Dy l o n))) :: .bool true::bA d f).toArray 167)::blk l (.cells #[(.pointer (some ⟨b,0,none⟩))] 100)::blk o (.cells #[.int .u64 root] 23)::blk n (.cells #[(.pointer (some ⟨r,0,none⟩))] 175)::gD r 7 aq::aL bm bc L acc::F):=g;refine Ux (fv:=Dy l o n) (fun _ _=>by kernel_rfl) (g.k0 0) ?_
 show Calls Tryz.prog 172 #[(.pointer (some ⟨bm,0,none⟩)),(.pointer (some ⟨l,0,none⟩)),(.pointer (some ⟨o,0,none⟩)),(.pointer (some ⟨n,0,none⟩))] w _
 refine(zv x y k1 k2 u g).mono ?_
 rintro e v (⟨p,h,i,j,rfl,br,bi,bw,c⟩|⟨p,h,i,j,rfl,bt,A,B,fG,q,c⟩)
 ·refine⟨some (aB h i j),[_,_,_,_],⟨8,f,lk,fr,ins,aq,root,aq.word,tk,id,k⟩,rfl,.inl ⟨p,rfl⟩,rfl,⟨h,i,j,br,bi,bw,rfl⟩,?_⟩
  exact(show St K v (_::_::_::_::_::_::_::_::_::_::F)from c).sub (.cons_cons _ (.cons_cons _ (.cons_cons _ (.cons_cons _ (.cons_cons _ (.cons _ (.cons _ (.cons _ (.cons _ (.cons_cons _ (List.Sublist.refl _)))))))))))
 ·refine⟨some (aB h i j),[_,_,_,_,_,_],⟨9,f,lk,fr,ins,aq,root,aq.word,⟨0,0,false⟩,id,k⟩,rfl,.inr ⟨p,rfl⟩,rfl,⟨h,i,j,bt,A,B,fG,q,rfl⟩,?_⟩
  exact(show St K v (_::_::_::_::_::_::_::_::_::_::_::_::F)from c).sub (.cons_cons _ (.cons_cons _ (.cons_cons _ (.cons_cons _ (.cons_cons _ (.cons_cons _ (.cons_cons _ (.cons _ (.cons _ (.cons _ (.cons _ (.cons_cons _ (List.Sublist.refl _)))))))))))))
theorem acH (y:acc<=1000000000000)(hok:dS.Ok d L ⟨8,f,lk,fr,ins,aq,root,word,tk,id,k⟩)(z:fU d b ⟨8,f,lk,fr,ins,aq,root,word,tk,id,k⟩ C)(c:St K w (C++aL bm bc L acc::F)):Calls Tryz.prog 77 #[(.pointer (some ⟨b,0,none⟩)),(.pointer (some ⟨bm,0,none⟩))] w (gy K b bm bc d L acc ⟨8,f,lk,fr,ins,aq,root,word,tk,id,k⟩ F):=by
 obtain⟨b2,b3,b5,br,g,h,rfl⟩:=z;have k1:=hok.word (.inl rfl);simp only at k1 c;refine ko (V:=[]) (Cm:=fF br g h 7 word 0) (R:=fun fin i => fin=true/\i=fF br g h 7 word 1)
  (fun w F c=>?_) (fun n w=>iE n _ w) (fun _ _=>by kernel_rfl) (fun _ _=>by kernel_rfl) ?_ ?_ c
 ·refine(iD k1 y c).mono ?_
  rintro e w' ⟨rfl,j⟩;exact⟨_,_,rfl,⟨rfl,rfl⟩,j⟩
 ·rintro i I A ⟨_,rfl⟩ c
  refine(mo c).mono ?_
  rintro e B ⟨l,o,p,q,r,u,v,rfl,D,x⟩;refine⟨some (aB l o p),_::([_,_]++v),⟨0,f,nK,fr,ins,aq,root,word,tk,id,k⟩,rfl,rfl,rfl,⟨l,o,p,q,r,u,v,D,rfl⟩,?_⟩;have E:St K B ([blk b (.cells ((aY (some (aB b2 b3 b5))) :: .bool true::bA d f).toArray 167),bI l o p (.iface 37 (.pointer (some ⟨q,0,none⟩))) (jr r u),blk r (.cells #[(.pointer (some ⟨q,0,none⟩))] 37),blk u (.cells #[(.pointer (some ⟨b,0,none⟩))] 100)]++(v++(fF br g h 7 word 1++(aL bm bc (eQ d L ⟨8,f,lk,fr,ins,aq,root,word,tk,id,k⟩) (acc+1)::A)))):=x;have G:=E.mid.Cf;simpa using G
 ·rintro i ⟨H,_⟩
  cases H
theorem Zy (p:acc<=1000000000000)(q:fU d b ⟨11,f,lk,fr,ins,aq,root,word,tk,id,k⟩ C)(c:St K w (C++aL bm bc L acc::F)):Calls Tryz.prog 77 #[(.pointer (some ⟨b,0,none⟩)),(.pointer (some ⟨bm,0,none⟩))] w (gy K b bm bc d L acc ⟨11,f,lk,fr,ins,aq,root,word,tk,id,k⟩ F):=by
 obtain⟨b2,b3,b5,br,l,o,g,gY,fG,rfl⟩:=q;simp only at c;refine ko (V:=[blk g (.cells #[(.pointer (some ⟨b,0,none⟩))] 100),blk gY (.cells #[.int .u64 id] 23),blk fG (.cells #[.int .u64 word] 23)]) (Cm:=fF br l o (d.node id 0) (aT 0) 0) (R:=fun fin h => fin=true/\h=fF br l o (d.node id 0) (aT 0) 1)
  (fun w F c=>?_) (fun n w=>iE n _ w) (fun _ _=>by kernel_rfl) (fun _ _=>by kernel_rfl) ?_ ?_ c
 ·refine(iD ⟨by decide,by decide⟩ p c).mono ?_
  rintro e w' ⟨rfl,i⟩;exact⟨_,_,rfl,⟨rfl,rfl⟩,i⟩
 ·rintro h x r ⟨_,rfl⟩ c
  refine(wH c).mono ?_
  rintro e u ⟨rfl,j⟩;refine⟨some (Uu g gY fG),[_,_,_],⟨12,f,lk,fr,ins,aq,root,word,tk,id,k⟩,rfl,rfl,rfl,⟨g,gY,fG,rfl⟩,?_⟩;exact(show St K u (_::_::_::_::_::_::_::_::r)from j).sub (.cons_cons _ (.cons_cons _ (.cons_cons _ (.cons_cons _ (.cons _ (.cons _ (.cons _ (.cons_cons _ (List.Sublist.refl _)))))))))
 ·rintro h ⟨v,_⟩
  cases v
theorem Zz (n:acc<=1000000000000)(o:fU d b ⟨12,f,lk,fr,ins,aq,root,word,tk,id,k⟩ C)(c:St K w (C++aL bm bc L acc::F)):Calls Tryz.prog 77 #[(.pointer (some ⟨b,0,none⟩)),(.pointer (some ⟨bm,0,none⟩))] w (gy K b bm bc d L acc ⟨12,f,lk,fr,ins,aq,root,word,tk,id,k⟩ F):=by
 obtain⟨g,gY,fG,rfl⟩:=o;simp only at c;have c:St K w (blk b (.cells ((aY (some (Uu g gY fG))) :: .bool true::bA d f).toArray 167)::blk g (.cells #[(.pointer (some ⟨b,0,none⟩))] 100)::blk gY (.cells #[.int .u64 id] 23)::blk fG (.cells #[.int .u64 word] 23)::aL bm bc L acc::F):=c;refine Ux (fv:=Uu g gY fG) (fun _ _=>by kernel_rfl) (c.k0 0) ?_
 show Calls Tryz.prog 188 #[(.pointer (some ⟨bm,0,none⟩)),(.pointer (some ⟨g,0,none⟩)),(.pointer (some ⟨gY,0,none⟩)),(.pointer (some ⟨fG,0,none⟩))] w _
 refine(wJ n c).mono ?_
 rintro e p ⟨i,j,l,rfl,br,bi,bw,h⟩;refine⟨some (aB i j l),[_,_,_,_],⟨8,f,lk,fr,ins,aq,root,word,tk,id,k⟩,rfl,rfl,rfl,⟨i,j,l,br,bi,bw,rfl⟩,?_⟩;exact(show St K p (_::_::_::_::_::_::_::_::_::F)from h).sub (.cons_cons _ (.cons_cons _ (.cons_cons _ (.cons_cons _ (.cons_cons _ (.cons _ (.cons _ (.cons _ (.cons_cons _ (List.Sublist.refl _))))))))))
theorem acI (H:d.Ok)(I:acc<=1000000000000)(hok:dS.Ok d L ⟨9,f,lk,fr,ins,aq,root,word,tk,id,k⟩)(J:fU d b ⟨9,f,lk,fr,ins,aq,root,word,tk,id,k⟩ C)(h:St K w (C++aL bm bc L acc::F)):Calls Tryz.prog 77 #[(.pointer (some ⟨b,0,none⟩)),(.pointer (some ⟨bm,0,none⟩))] w (gy K b bm bc d L acc ⟨9,f,lk,fr,ins,aq,root,word,tk,id,k⟩ F):=by
 obtain⟨b2,b3,b5,bt,A,i,fG,B,rfl⟩:=J;obtain⟨k1,k2,D⟩:=hok.take rfl;have E:=hok.aA;simp only at k1 k2 D h E;refine ko (V:=[blk A (.cells #[(.pointer (some ⟨bt,0,none⟩))] 156),blk i (.cells #[(.pointer (some ⟨b,0,none⟩))] 100),blk fG (.cells #[.int .u64 word] 23),blk B (.cells #[.int .u64 root] 23)]) (Cm:=[gT bt 4 d.no tk]) (R:=fun fin r => fin=decide (2<=(aG 4 d.no L tk).1.pc)/\r = [gT bt 4 d.no (aG 4 d.no L tk).1])
  (fun w F h=>?_) (fun n w=>sj n _ w) (fun _ _=>by kernel_rfl) (fun _ _=>by kernel_rfl) ?_ ?_ h
 ·refine(sk h I k2).mono ?_
  rintro e w' ⟨rfl,p⟩;rw[if_neg (by omega)]at p
  exact⟨_,_,rfl,⟨rfl,rfl⟩,p⟩
 ·rintro r P G ⟨u,rfl⟩ h
  have v:2<=(aG 4 d.no L tk).1.pc:=of_decide_eq_true u.symm;refine(wF H ⟨E.1,by omega⟩ D h).mono ?_
  rintro e x (⟨y,j,l,o,rfl,br,bi,bw,c⟩|⟨y,j,l,o,rfl,q,M,g,cap,va,z,gY,c⟩)
  ·refine⟨some (aB j l o),[_,_,_,_,_],⟨13,f,lk,fr,ins,aq,root,word,(aG 4 d.no L tk).1,id,k⟩,rfl,.inr (.inl ⟨v,y,rfl⟩),rfl,⟨j,l,o,br,bi,bw,i,rfl⟩,?_⟩
   exact(((show St K x (_::_::_::_::_::_::_::_::G)from c).re [6,0,1,5,2,3,4,7] rfl).tail)
  ·have c:St K x (blk b (.cells ((aY (some (aB b2 b3 b5))) :: .bool true::bA d f).toArray 167)::bI j l o (.iface 74 (.pointer (some ⟨q,0,none⟩))) (tK i z gY fG)::blk z (.cells #[(.pointer (some ⟨q,0,none⟩))] 74)::blk gY (.cells #[.int .u64 ((aG 4 d.no L tk).1.seen+1)] 23)::mJ _ _ _ _ _ _ _ _ _::az _ _ _ _ _::blk q _::bz va (fH f.aA root)::blk i (.cells #[(.pointer (some ⟨b,0,none⟩))] 100)::blk fG (.cells #[.int .u64 word] 23)::aL bm bc (eQ d L ⟨9,f,lk,fr,ins,aq,root,word,tk,id,k⟩) (acc+1)::G):=c
   obtain⟨N,O,rfl,_,_⟩:=(show St K x (az va 69 2 (fH f.aA root).sl.length (aF (fH f.aA root).sl)::_)from c.b7).aJ
   refine⟨some (aB j l o),[_,_,_,_,_,_,_,_,_],⟨10,f,lk,fr,ins,aq,root,word,(aG 4 d.no L tk).1,(aG 4 d.no L tk).1.seen+1,0⟩,rfl,.inr (.inr ⟨v,y,rfl⟩),rfl,⟨j,l,o,q,M,g,cap,N,O,i,z,gY,fG,rfl⟩,?_⟩;exact c.re [0,1,2,3,8,9,4,5,6,7,10] rfl
 ·rintro r ⟨u,rfl⟩
  have v:¬ 2<=(aG 4 d.no L tk).1.pc:=of_decide_eq_false u.symm;exact⟨⟨9,f,lk,fr,ins,aq,root,word,(aG 4 d.no L tk).1,id,k⟩,.inl ⟨by show(aG 4 d.no L tk).1.pc<2;omega,rfl⟩,by show 9<14;decide,b2,b3,b5,bt,A,i,fG,B,rfl⟩
theorem acJ (y:d.Ok)(S:bL L)(T:acc<=1000000000000)(hok:dS.Ok d L ⟨1,f,lk,fr,ins,aq,root,word,tk,id,k⟩)(U:fU d b ⟨1,f,lk,fr,ins,aq,root,word,tk,id,k⟩ C)(h:St K w (C++aL bm bc L acc::F)):Calls Tryz.prog 77 #[(.pointer (some ⟨b,0,none⟩)),(.pointer (some ⟨bm,0,none⟩))] w (gy K b bm bc d L acc ⟨1,f,lk,fr,ins,aq,root,word,tk,id,k⟩ F):=by
 obtain⟨b2,b3,b5,bi,i,j,O,o,rfl⟩:=U;obtain⟨k1,k2,A⟩:=hok.ins rfl;simp only at k1 k2 A o h;obtain⟨fu,r⟩:∃fu,fu=(⟨1,f,lk,fr,ins,aq,root,word,tk,id,k⟩:dS).fu:=⟨_,rfl⟩;rw[←r]at k2 A o;have h:St K w (blk b (.cells ((aY (some (aB b2 b3 b5))) :: .bool true::bA d f).toArray 167)::bI b2 b3 b5 (.iface 82 (.pointer (some ⟨bi,0,none⟩))) (mj i j)::([blk i (.cells #[(.pointer (some ⟨b,0,none⟩))] 100),blk j (.cells #[(.pointer (some ⟨bi,0,none⟩))] 82)]++(O++aL bm bc L acc::F))):=by simpa using h
 have jw:=y.m6;have zf:=y.m7;have hid:=k1.id;have xJ:=k2.len;have W:=k1.pg.le;refine ko (V:=[blk i (.cells #[(.pointer (some ⟨b,0,none⟩))] 100),blk j (.cells #[(.pointer (some ⟨bi,0,none⟩))] 82)]) (Cm:=O) (R:=fun fin p => ∃g,fin=decide (3<=g.pc)/\ig d fr fu L ins g /\ kS d fr fu bi g p)
  (fun w F h=>?_) (fun n w=>wK n _ w) (fun _ _=>by kernel_rfl) (fun _ _=>by kernel_rfl) ?_ ?_ h
 ·refine(Oe y S T k1 k2 A o h).mono ?_
  rintro e w' ⟨s',p,rfl,v,B,D⟩;exact⟨_,p,rfl,⟨s',rfl,v,B⟩,D⟩
 ·rintro p X P ⟨g,E,v,z⟩ h
  have G:3<=g.pc:=of_decide_eq_true E.symm;have l:∃x:pE,ze fr fu g x/\p = [bC bi .nilFunc d x,bz x.vl x.le.pg,bz x.vr x.ri.pg]:=by
   obtain⟨Q,Y,k',Z,sp',id',Ea⟩:=g;obtain⟨m,rfl⟩:∃m,Q=m+3:=⟨Q-3,by simp only at G;omega⟩
   exact z
  obtain⟨x,l,rfl⟩:=l;obtain⟨a,c,hv⟩:=l.vl;have hle:x.le.pg.sl.length<=1000000/\(0<=x.le.id/\x.le.id<18446744073709551616):=by
   rw[l.le];split
   ·exact⟨by omega,by omega⟩
   ·refine⟨?_,by show 0<=fr.id/\fr.id<_;omega⟩
    show(g.pg fu).sl.length<=_
    unfold gh.pg;split
    ·show(fu.sl.take _).length<=_
     rw[List.length_take];omega
    ·omega
  have h:St K X (blk b (.cells ((aY (some (aB b2 b3 b5))) :: .bool true::bA d f).toArray 167)::blk i (.cells #[(.pointer (some ⟨b,0,none⟩))] 100)::blk j (.cells #[(.pointer (some ⟨bi,0,none⟩))] 82)::bC bi .nilFunc d x::bz x.vl x.le.pg::bz x.vr x.ri.pg::aL bm bc (eQ d L ⟨1,f,lk,fr,ins,aq,root,word,tk,id,k⟩) (acc+1)::P):=h;refine(s9 y l.on hle.1 hv hle.2 h).mono ?_
  rintro e w2 ⟨u,rfl,H,I,J,rfl,br,M,N,q⟩;have q:St K w2 (blk b (.cells ((aY (some (aB b2 b3 b5))) :: .bool true::bA d f).toArray 167)::bI H I J (.iface 47 (.pointer (some ⟨br,0,none⟩))) (kH j i)::blk br _::blk M _::blk N _::blk i (.cells #[(.pointer (some ⟨b,0,none⟩))] 100)::blk j (.cells #[(.pointer (some ⟨bi,0,none⟩))] 82)::bC bi .nilFunc d x::bz x.vl x.le.pg::bz x.vr x.ri.pg::aL bm bc (eQ d L ⟨1,f,lk,fr,ins,aq,root,word,tk,id,k⟩) (acc+1)::P):=q;have Eb:x.le=(⟨2,f,lk,fr,g,aq,root,word,tk,id,k⟩:dS).left:=by rw[l.le,r];rfl
  refine⟨some (aB H I J),_::([_,_,_,_,_]++fF br M N (d.node x.le.id 0) x.le.word 0),⟨2,f,lk,fr,g,aq,root,word,tk,id,k⟩,rfl,⟨g,by rw[←r];exact v,.inr ⟨G,rfl⟩⟩,rfl,⟨H,I,J,br,M,N,i,j,bi,x,by rw[r]at l;exact l,by rw[←Eb]⟩,?_⟩
  exact q.re [0,1,5,6,7,8,9,2,3,4,10] rfl
 ·rintro p ⟨g,E,v,z⟩
  have G:¬ 3<=g.pc:=of_decide_eq_false E.symm;exact⟨⟨1,f,lk,fr,g,aq,root,word,tk,id,k⟩,⟨g,by rw[←r];exact v,.inl ⟨by omega,rfl⟩⟩,by show 1<14;decide,b2,b3,b5,bi,i,j,p,by rw[r]at z;exact z,rfl⟩
theorem acM (S:d.Ok)(T:acc<=1000000000000)(hok:dS.Ok d L ⟨2,f,lk,fr,ins,aq,root,word,tk,id,k⟩)(U:fU d b ⟨2,f,lk,fr,ins,aq,root,word,tk,id,k⟩ C)(h:St K w (C++aL bm bc L acc::F)):Calls Tryz.prog 77 #[(.pointer (some ⟨b,0,none⟩)),(.pointer (some ⟨bm,0,none⟩))] w (gy K b bm bc d L acc ⟨2,f,lk,fr,ins,aq,root,word,tk,id,k⟩ F):=by
 obtain⟨b2,b3,b5,br,q,r,j,l,bi,x,p,rfl⟩:=U;obtain⟨k1,k2,Q⟩:=hok.left rfl;obtain⟨i,v⟩:∃i,i=(⟨2,f,lk,fr,ins,aq,root,word,tk,id,k⟩:dS).left:=⟨_,rfl⟩;have G:x.ri=(⟨2,f,lk,fr,ins,aq,root,word,tk,id,k⟩:dS).right:=p.ri;rw[←v]at k1 h;rw[←G]at k2 Q;simp only at h;have o:=p.err;simp only at o;have h:St K w (blk b (.cells ((aY (some (aB b2 b3 b5))) :: .bool true::bA d f).toArray 167)::bI b2 b3 b5 (.iface 47 (.pointer (some ⟨br,0,none⟩))) (kH l j)::([blk j (.cells #[(.pointer (some ⟨b,0,none⟩))] 100),blk l (.cells #[(.pointer (some ⟨bi,0,none⟩))] 82),bC bi .nilFunc d x,bz x.vl x.le.pg,bz x.vr x.ri.pg]++(fF br q r (d.node i.id 0) i.word 0++aL bm bc L acc::F))):=h;have H:eQ d L ⟨2,f,lk,fr,ins,aq,root,word,tk,id,k⟩=aR L (d.node i.id 0) ⟨aH i.word,⟨#[]⟩,0⟩:=by rw[v];rfl
 refine ko (V:=[blk j (.cells #[(.pointer (some ⟨b,0,none⟩))] 100),blk l (.cells #[(.pointer (some ⟨bi,0,none⟩))] 82),bC bi .nilFunc d x,bz x.vl x.le.pg,bz x.vr x.ri.pg]) (Cm:=fF br q r (d.node i.id 0) i.word 0) (R:=fun fin I => fin=true/\I=fF br q r (d.node i.id 0) i.word 1)
  (fun w F h=>?_) (fun n w=>iE n _ w) (fun _ _=>by kernel_rfl) (fun _ _=>by kernel_rfl) ?_ ?_ h
 ·refine(iD k1 T h).mono ?_
  rintro e w' ⟨rfl,J⟩;exact⟨_,_,rfl,⟨rfl,rfl⟩,by rw[H];exact J⟩
 ·rintro I W A ⟨_,rfl⟩ h
  obtain⟨a,c,X⟩:=p.vr;have h:St K W (blk b (.cells ((aY (some (aB b2 b3 b5))) :: .bool true::bA d f).toArray 167)::blk j (.cells #[(.pointer (some ⟨b,0,none⟩))] 100)::blk l (.cells #[(.pointer (some ⟨bi,0,none⟩))] 82)::bC bi .nilFunc d x::bz x.vl x.le.pg::bz x.vr x.ri.pg::blk br _::blk q _::blk r _::aL bm bc (eQ d L ⟨2,f,lk,fr,ins,aq,root,word,tk,id,k⟩) (acc+1)::A):=h;refine(Dv S p.on k2 X Q (h.re [0,2,1,3,5,4,6,7,8,9] rfl)).mono ?_
  rintro e M (⟨he,rfl,g⟩|⟨he,hi,rfl,g⟩|⟨he,hi,u,rfl,B,D,E,rfl,y,N,O,g⟩)
  ·have z:ins.full=true:=by
    cases hc:ins.full with
    | true=>rfl
    | false=>rw[hc]at o;exact absurd o he
   refine⟨none,[],⟨14,f.end false,lk,fr,ins,aq,root,word,tk,id,k⟩,rfl,.inl ⟨z,rfl⟩,rfl,rfl,?_⟩;exact(show St K M (_::_::_::_::_::_::_::_::_::_::A)from g).sub (.cons_cons _ (.cons _ (.cons _ (.cons _ (.cons _ (.cons _ (.cons _ (.cons _ (.cons _ (.cons_cons _ (List.Sublist.refl _)))))))))))
  ·have z:ins.full=false:=by
    cases hc:ins.full with
    | false=>rfl
    | true=>rw[hc]at o;rw[o]at he;exact absurd he (by decide)
   refine⟨none,[],⟨14,f.end true,lk,fr,ins,aq,root,word,tk,id,k⟩,rfl,.inr (.inl ⟨z,by rw[←G];exact hi,rfl⟩),rfl,rfl,?_⟩
   exact(show St K M (_::_::_::_::_::_::_::_::_::_::A)from g).sub (.cons_cons _ (.cons _ (.cons _ (.cons _ (.cons _ (.cons _ (.cons _ (.cons _ (.cons _ (.cons_cons _ (List.Sublist.refl _)))))))))))
  ·have z:ins.full=false:=by
    cases hc:ins.full with
    | false=>rfl
    | true=>rw[hc]at o;rw[o]at he;exact absurd he (by decide)
   have g:St K M (blk b (.cells ((aY (some (aB b2 b3 b5))) :: .bool true::bA d f).toArray 167)::bI B D E (.iface 47 (.pointer (some ⟨y,0,none⟩))) (jU j l)::blk y _::blk N _::blk O _::blk l (.cells #[(.pointer (some ⟨bi,0,none⟩))] 82)::blk j (.cells #[(.pointer (some ⟨b,0,none⟩))] 100)::bC bi .nilFunc d x::bz x.vr x.ri.pg::bz x.vl x.le.pg::blk br _::blk q _::blk r _::aL bm bc (eQ d L ⟨2,f,lk,fr,ins,aq,root,word,tk,id,k⟩) (acc+1)::A):=g;have P:x.ri=(⟨3,f,lk,fr,ins,aq,root,word,tk,id,k⟩:dS).right:=p.ri;refine⟨some (aB B D E),bI B D E (.iface 47 (.pointer (some ⟨y,0,none⟩))) (jU j l)::([blk j (.cells #[(.pointer (some ⟨b,0,none⟩))] 100),blk l (.cells #[(.pointer (some ⟨bi,0,none⟩))] 82),bC bi .nilFunc d x,bz x.vr x.ri.pg]++fF y N O (d.node x.ri.id 0) x.ri.word 0),⟨3,f,lk,fr,ins,aq,root,word,tk,id,k⟩,rfl,.inr (.inr ⟨z,by rw[←G];exact hi,rfl⟩),rfl,⟨B,D,E,y,N,O,j,l,bi,x,p,by rw[←P]⟩,?_⟩
   exact(g.re [0,1,6,5,7,8,2,3,4,13,9,10,11,12] rfl).sub (.cons_cons _ (.cons_cons _ (.cons_cons _ (.cons_cons _ (.cons_cons _ (.cons_cons _ (.cons_cons _ (.cons_cons _ (.cons_cons _ (.cons_cons _ (.cons _ (.cons _ (.cons _ (.cons _ (List.Sublist.refl _)))))))))))))))
 ·rintro I ⟨Y,_⟩
  cases Y
theorem acN (M:acc<=1000000000000)(hok:dS.Ok d L ⟨3,f,lk,fr,ins,aq,root,word,tk,id,k⟩)(N:fU d b ⟨3,f,lk,fr,ins,aq,root,word,tk,id,k⟩ C)(g:St K w (C++aL bm bc L acc::F)):Calls Tryz.prog 77 #[(.pointer (some ⟨b,0,none⟩)),(.pointer (some ⟨bm,0,none⟩))] w (gy K b bm bc d L acc ⟨3,f,lk,fr,ins,aq,root,word,tk,id,k⟩ F):=by
 obtain⟨b2,b3,b5,br,r,u,v,y,bi,x,z,rfl⟩:=N;obtain⟨k1,k2⟩:=hok.right rfl;have J:=hok.aA;have A:x.ri=(⟨3,f,lk,fr,ins,aq,root,word,tk,id,k⟩:dS).right:=z.ri;have h:x.sep=(⟨3,f,lk,fr,ins,aq,root,word,tk,id,k⟩:dS).Uv:=z.sep;rw[←A]at k1 k2 g;simp only at g J;have g:St K w (blk b (.cells ((aY (some (aB b2 b3 b5))) :: .bool true::bA d f).toArray 167)::bI b2 b3 b5 (.iface 47 (.pointer (some ⟨br,0,none⟩))) (jU v y)::([blk v (.cells #[(.pointer (some ⟨b,0,none⟩))] 100),blk y (.cells #[(.pointer (some ⟨bi,0,none⟩))] 82),bC bi .nilFunc d x,bz x.vr x.ri.pg]++(fF br r u (d.node x.ri.id 0) x.ri.word 0++aL bm bc L acc::F))):=g;have B:eQ d L ⟨3,f,lk,fr,ins,aq,root,word,tk,id,k⟩=aR L (d.node x.ri.id 0) ⟨aH x.ri.word,⟨#[]⟩,0⟩:=by rw[A];rfl
 refine ko (V:=[blk v (.cells #[(.pointer (some ⟨b,0,none⟩))] 100),blk y (.cells #[(.pointer (some ⟨bi,0,none⟩))] 82),bC bi .nilFunc d x,bz x.vr x.ri.pg]) (Cm:=fF br r u (d.node x.ri.id 0) x.ri.word 0) (R:=fun fin D => fin=true/\D=fF br r u (d.node x.ri.id 0) x.ri.word 1)
  (fun w F g=>?_) (fun n w=>iE n _ w) (fun _ _=>by kernel_rfl) (fun _ _=>by kernel_rfl) ?_ ?_ g
 ·refine(iD k1 M g).mono ?_
  rintro e w' ⟨rfl,E⟩;exact⟨_,_,rfl,⟨rfl,rfl⟩,by rw[B];exact E⟩
 ·rintro D Y O ⟨_,rfl⟩ g
  obtain⟨a,c,P⟩:=z.vr;refine(Dw z.on k2 P J g).mono ?_
  rintro e Q ⟨i,j,l,o,p,q,G,rfl,S,H⟩;have I:fU d b ⟨0,⟨f.aA+1,x.sep,x.ri.id,f.po⟩,nK,fr,ins,aq,root,word,tk,id,k⟩ (blk b (.cells ((aY (some (aB i j l))) :: .bool true::bA d (⟨f.aA+1,x.sep,x.ri.id,f.po⟩:jF)).toArray 167)::bI i j l (.iface 37 (.pointer (some ⟨o,0,none⟩))) (jr p q)::([blk p (.cells #[(.pointer (some ⟨o,0,none⟩))] 37),blk q (.cells #[(.pointer (some ⟨b,0,none⟩))] 100)]++G)):=⟨i,j,l,o,p,q,G,S,rfl⟩;have T:jm d L ⟨3,f,lk,fr,ins,aq,root,word,tk,id,k⟩ ⟨0,⟨f.aA+1,x.sep,x.ri.id,f.po⟩,nK,fr,ins,aq,root,word,tk,id,k⟩:=by rw[h,A];rfl
  refine⟨some (aB i j l),_,_,rfl,T,rfl,I,?_⟩;have U:St K Q ([blk b (.cells ((aY (some (aB b2 b3 b5))) :: .bool true::bA d (⟨f.aA+1,x.sep,x.ri.id,f.po⟩:jF)).toArray 167),bI i j l (.iface 37 (.pointer (some ⟨o,0,none⟩))) (jr p q),blk p (.cells #[(.pointer (some ⟨o,0,none⟩))] 37),blk q (.cells #[(.pointer (some ⟨b,0,none⟩))] 100)]++(G++((blk v (.cells #[(.pointer (some ⟨b,0,none⟩))] 100)::blk y (.cells #[(.pointer (some ⟨bi,0,none⟩))] 82)::bC bi .nilFunc d x::bz x.vr x.ri.pg::fF br r u (d.node x.ri.id 0) x.ri.word 1)++(aL bm bc (eQ d L ⟨3,f,lk,fr,ins,aq,root,word,tk,id,k⟩) (acc+1)::O)))):=H;have W:=U.mid.Cf;simpa using W
 ·rintro D ⟨X,_⟩
  cases X
theorem aaa (O:d.Ok)(P:acc<=1000000000000)(hok:dS.Ok d L ⟨10,f,lk,fr,ins,aq,root,word,tk,id,k⟩)(Q:fU d b ⟨10,f,lk,fr,ins,aq,root,word,tk,id,k⟩ C)(j:St K w (C++aL bm bc L acc::F)):Calls Tryz.prog 77 #[(.pointer (some ⟨b,0,none⟩)),(.pointer (some ⟨bm,0,none⟩))] w (gy K b bm bc d L acc ⟨10,f,lk,fr,ins,aq,root,word,tk,id,k⟩ F):=by
 obtain⟨b2,b3,b5,h,r,g,cap,v,x,o,q,gY,fG,rfl⟩:=Q;obtain⟨k1,k2⟩:=hok.fresh rfl;obtain⟨ps,l⟩:∃ps,ps=(⟨10,f,lk,fr,ins,aq,root,word,tk,id,k⟩:dS).ps d:=⟨_,rfl⟩;rw[←l]at k1 j;simp only at k1 k2 j;have J:=asx k1;have y:eQ d L ⟨10,f,lk,fr,ins,aq,root,word,tk,id,k⟩=aR L ps[k].i ps[k].c:=by
  show(match ((⟨10,f,lk,fr,ins,aq,root,word,tk,id,k⟩:dS).ps d)[k]? with|some M=>aR L M.i M.c|none=>L)=_
  rw[←l,J]
 have j:St K w (blk b (.cells ((aY (some (aB b2 b3 b5))) :: .bool true::bA d f).toArray 167)::bI b2 b3 b5 (.iface 74 (.pointer (some ⟨h,0,none⟩))) (tK o q gY fG)::([blk q (.cells #[(.pointer (some ⟨h,0,none⟩))] 74),blk gY (.cells #[.int .u64 id] 23),blk o (.cells #[(.pointer (some ⟨b,0,none⟩))] 100),blk fG (.cells #[.int .u64 word] 23)]++(Jd h r id (fH f.aA root) (.slice v (fH f.aA root).sl.length x) g cap ps k++aL bm bc L acc::F))):=j;refine ko (V:=[blk q (.cells #[(.pointer (some ⟨h,0,none⟩))] 74),blk gY (.cells #[.int .u64 id] 23),blk o (.cells #[(.pointer (some ⟨b,0,none⟩))] 100),blk fG (.cells #[.int .u64 word] 23)]) (Cm:=Jd h r id (fH f.aA root) (.slice v (fH f.aA root).sl.length x) g cap ps k) (R:=fun fin z => fin=decide (k+1=ps.length)/\z=Jd h r id (fH f.aA root) (.slice v (fH f.aA root).sl.length x) g cap ps (k+1))
  (fun w F j=>?_) (fun n w=>qA n _ w) (fun _ _=>by kernel_rfl) (fun _ _=>by kernel_rfl) ?_ ?_ j
 ·refine(qG J P ((show St K w (mJ _ _ _ _ _ _ _ _ _::az _ _ _ _ _::blk h _::bz _ _::aL bm bc L acc::F)from j).re [0,4,1,2,3] rfl)).mono ?_
  rintro e w' ⟨rfl,A⟩;exact⟨_,_,rfl,⟨rfl,rfl⟩,by rw[y];exact(show St K w' (mJ _ _ _ _ _ _ _ _ _::aL bm bc _ _::az _ _ _ _ _::blk h _::bz _ _::F)from A).re [0,2,3,4,1] rfl⟩
 ·rintro z S N ⟨B,rfl⟩ j
  have he:k+1=ps.length:=of_decide_eq_true B.symm;rw[he]at j;have j:St K S (blk b (.cells ((aY (some (aB b2 b3 b5))) :: .bool true::bA d f).toArray 167)::blk q (.cells #[(.pointer (some ⟨h,0,none⟩))] 74)::blk gY (.cells #[.int .u64 id] 23)::blk o (.cells #[(.pointer (some ⟨b,0,none⟩))] 100)::blk fG (.cells #[.int .u64 word] 23)::mJ _ _ _ _ _ _ _ _ _::az _ _ _ _ _::blk h _::bz _ _::aL bm bc (eQ d L ⟨10,f,lk,fr,ins,aq,root,word,tk,id,k⟩) (acc+1)::N):=j;refine(wG (gY:=gY) (fG:=fG) O (by show 1<=1000000;decide) k2 (j.re [0,3,1,5,6,7,8,2,4,9] rfl)).mono ?_
  rintro e T ⟨u,rfl,D,E,G,rfl,br,H,I,p⟩;have p:St K T (blk b (.cells ((aY (some (aB b2 b3 b5))) :: .bool true::bA d f).toArray 167)::bI D E G (.iface 47 (.pointer (some ⟨br,0,none⟩))) (mz o gY fG)::blk br _::blk H _::blk I _::blk o (.cells #[(.pointer (some ⟨b,0,none⟩))] 100)::blk q (.cells #[(.pointer (some ⟨h,0,none⟩))] 74)::mJ _ _ _ _ _ _ _ _ _::az _ _ _ _ _::blk h _::bz _ _::blk gY (.cells #[.int .u64 id] 23)::blk fG (.cells #[.int .u64 word] 23)::aL bm bc (eQ d L ⟨10,f,lk,fr,ins,aq,root,word,tk,id,k⟩) (acc+1)::N):=p;refine⟨some (aB D E G),_::([_,_,_]++fF br H I (d.node id 0) (aT 0) 0),⟨11,f,lk,fr,ins,aq,root,word,tk,id,k+1⟩,rfl,.inr ⟨by rw[←l];exact he,rfl⟩,rfl,⟨D,E,G,br,H,I,o,gY,fG,rfl⟩,?_⟩
  exact(p.re [0,1,5,11,12,2,3,4,13,6,7,8,9,10] rfl).sub (.cons_cons _ (.cons_cons _ (.cons_cons _ (.cons_cons _ (.cons_cons _ (.cons_cons _ (.cons_cons _ (.cons_cons _ (.cons_cons _ (.cons _ (.cons _ (.cons _ (.cons _ (.cons _ (List.Sublist.refl _)))))))))))))))
 ·rintro z ⟨B,rfl⟩
  have he:¬ k+1=ps.length:=of_decide_eq_false B.symm;exact⟨⟨10,f,lk,fr,ins,aq,root,word,tk,id,k+1⟩,.inl ⟨by rw[←l];exact he,rfl⟩,by show 10<14;decide,b2,b3,b5,h,r,g,cap,v,x,o,q,gY,fG,by rw[l];rfl⟩
end
section
variable {K:aM}{w:World}{F:List aC}{b bm bc acc:Nat}{d:aU}{L:List aQ}{s:dS}{C:List aC}
theorem Uy (h:d.Ok)(i:bL L)(c:acc<=1000000000000)(hok:s.Ok d L)(e:fU d b s C)(g:St K w (C++aL bm bc L acc::F)):Calls Tryz.prog 77 #[(.pointer (some ⟨b,0,none⟩)),(.pointer (some ⟨bm,0,none⟩))] w (gy K b bm bc d L acc s F):=by
 have j:=hok.pc;obtain⟨pc,f,lk,fr,ins,aq,root,word,tk,id,k⟩:=s;simp only at j;match pc,j with
 | 0,_=>exact acC h i c hok e g
 | 1,_=>exact acJ h i c hok e g
 | 2,_=>exact acM h c hok e g
 | 3,_=>exact acN c hok e g
 | 4,_=>exact acD c hok e g
 | 5,_=>exact acE i c hok e g
 | 6,_=>exact acF c e g
 | 7,_=>exact acG h c hok e g
 | 8,_=>exact acH c hok e g
 | 9,_=>exact acI h c hok e g
 | 10,_=>exact aaa h c hok e g
 | 11,_=>exact Zy c e g
 | 12,_=>exact Zz c e g
 | 13,_=>exact Zx c hok e g
theorem xN (i:d.Ok)(j:bL L)(l:acc<=1000000000000)(hok:s.Ok d L)(n:fU d b s C)(c:St K w (C++aL bm bc L acc::F)):Calls Tryz.prog 60 #[(.pointer (some ⟨b,0,none⟩)),(.pointer (some ⟨bm,0,none⟩))] w (gy K b bm bc d L acc s F):=by
 have Q:=ass (Uy i j l hok n c);clear c;go_enter Tryz.func60,Tryz.ntmps60
 go_wp2_with fail
 refine(Q.out).mono ?_
 clear Q;rintro e p ⟨s',o,rfl,g,h,c⟩;have H:=ass (And.intro g (And.intro h c));clear g h c;go_wp2
 go_ret;exact⟨s',o,rfl,H.out.1,H.out.2.1,H.out.2.2⟩
def Ll (p:jF):dS:=⟨0,p,nK,oq,acj,mL,0,0,⟨0,0,false⟩,0,0⟩
theorem xO {aA ch:Int}{sep:ByteArray}(g:St K w F):Calls Tryz.prog 59 #[.agg #[.int .i64 d.th,.int .i64 d.sn,.int .i64 d.no,.int .i64 d.ch,.int .i64 d.re,.int .i64 d.fa,.int .u64 d.cl],.int .i64 aA,.string sep,.int .u64 ch] w fun e w' => ∃b C,e=.returned (.pointer (some ⟨b,0,none⟩))/\fU d b (Ll ⟨aA,sep,ch,false⟩) C/\St K w' (C++F):=by
 refine(Je g).mono ?_
 rintro e w' ⟨b,b2,b3,b5,h,i,j,l,rfl,n,c⟩;exact⟨b,_,rfl,⟨b2,b3,b5,h,i,j,l,n,rfl⟩,by simpa[Ll] using c⟩
end
end
section
structure Jg (nd:Nd):Prop where
 jP:kY nd.pg.sl
 rf:∀s,s∈nd.pg.sl->1<=s.r
 bd:∀s,s∈nd.pg.sl->cA s.k nd.low=false/\(nd.pg.la=false->cA s.k nd.pg.hi=true)
def ku (l0:List Nd)(nd:Nd):Prop:=(∃s r,nd.pg.sl=s::r/\s.k=nd.low)/\∀s,s∈nd.pg.sl->∃c,c∈l0/\c.id=s.r/\c.low=s.k
structure mA (N:Int)(t:List (List Nd)):Prop where
 ne:0<t.length
 rows:∀(k:Nat) (l:List Nd),t[k]?=some l->fS k l
 nodes:∀(k:Nat) (l:List Nd),t[k]?=some l->∀nd,nd∈l->(1<=nd.id/\nd.id<=N)/\Jg nd
 down:∀(k:Nat) (l l':List Nd),t[k]?=some l->t[k+1]?=some l' -> ∀nd,nd∈l' -> ku l nd
 inj:∀(k k':Nat) (l l':List Nd) (i i':Nat) (a b:Nd),t[k]?=some l->t[k']?=some l' -> l[i]?=some a->l'[i']?=some b->a.id=b.id->k=k' /\ i=i'
 count:((t.map List.length).sum:Int)<=N
theorem aab {t:List (List Nd)}:∀ {k:Nat}{l l':List Nd},t[k]?=some l->((t.set k l').map List.length).sum+l.length=(t.map List.length).sum+l'.length:=by
 induction t with
 | nil=>intro k l l' h;simp at h
 | cons x t ih=>
  intro k l l' h;cases k with
  | zero=>
   obtain rfl:x=l:=by simpa using h
   simp;omega
  | succ k=>
   have:=ih (l' := l') (show t[k]?=some l by simpa using h)
   simp at this ⊢;omega
theorem eJ {t:List (List Nd)}{k j:Nat}{l' x:List Nd}(h:(t.set k l')[j]?=some x):(j=k/\x=l')\/(j≠k/\t[j]?=some x):=by
 rw[List.getElem?_set]at h;split at h
 ·rename_i e
  split at h
  ·exact .inl ⟨e.symm,(asy h).symm⟩
  ·cases h
 ·rename_i e
  exact .inr ⟨fun q=>e q.symm,h⟩
theorem mA.row {N E:Int}{t:List (List Nd)}{k:Nat}{l l':List Nd}(h:mA N t)(hl:t[k]?=some l)(hN:N<=E)(U:fS k l')(V:∀nd,nd∈l' -> (1<=nd.id/\nd.id<=E)/\Jg nd)
  (o:∀c,c∈l->∃c',c' ∈ l' /\ c'.id=c.id/\c'.low=c.low) (W:∀(i j:Nat) (a b:Nd),l'[i]?=some a->l'[j]?=some b->a.id=b.id->i=j)
  (z:∀a,a∈l' -> (∃c,c∈l/\c.id=a.id)\/N<a.id) (H:∀(m:Nat) (l0:List Nd),k=m+1->t[m]?=some l0->∀nd,nd∈l' -> ku l0 nd) (hc:(l'.length:Int)-l.length<=E - N):mA E (t.set k l'):=by
 have A:∀(k':Nat) (l1:List Nd) (i p:Nat) (a b:Nd),k' ≠ k->t[k']?=some l1->l1[i]?=some a->l'[p]?=some b->a.id≠b.id:=by
  intro k' l1 i p a b I G q v e;rcases z b (asw v)with⟨c,hc,e2⟩|X
  ·obtain⟨j,Y⟩:=ast hc
   exact I (h.inj k' k l1 l i j a c G hl q Y (e.trans e2.symm)).1
  ·have:=(h.nodes k' l1 G a (asw q)).1.2
   omega
 refine⟨by rw[List.length_set];exact h.ne,fun j x n=>?_,fun j x n nd g=>?_,fun j x y n O nd g=>?_,fun k1 k2 l1 P i p a b G Q q v e=>?_,?_⟩
 ·rcases eJ n with⟨rfl,rfl⟩|⟨_,n⟩
  ·exact U
  ·exact h.rows j x n
 ·rcases eJ n with⟨rfl,rfl⟩|⟨_,n⟩
  ·exact V nd g
  ·obtain⟨⟨J,R⟩,Z⟩:=h.nodes j x n nd g
   exact⟨⟨J,by omega⟩,Z⟩
 ·rcases eJ n with⟨S,rfl⟩|⟨S,B⟩
  ·rcases eJ O with⟨e2,_⟩|⟨_,r⟩
   ·omega
   ·subst S
    obtain⟨J,R⟩:=h.down j l y hl r nd g;refine⟨J,fun s hs=>?_⟩
    obtain⟨c,hc,e3,e4⟩:=R s hs;obtain⟨c',M,e5,e6⟩:=o c hc;exact⟨c',M,e5.trans e3,e6.trans e4⟩
  ·rcases eJ O with⟨e2,rfl⟩|⟨_,r⟩
   ·exact H j x e2.symm B nd g
   ·exact h.down j x y B r nd g
 ·rcases eJ G with⟨rfl,rfl⟩|⟨n1,D⟩
  ·rcases eJ Q with⟨rfl,rfl⟩|⟨T,u⟩
   ·exact⟨rfl,W i p a b q v e⟩
   ·exact absurd e.symm (A k2 P p i b a T u v q)
  ·rcases eJ Q with⟨rfl,rfl⟩|⟨T,u⟩
   ·exact absurd e (A k1 l1 i p a b n1 D q v)
   ·exact h.inj k1 k2 l1 P i p a b D u q v e
 ·have:=aab (l' := l') hl
  have:=h.count;omega
theorem fS.put {aA:Nat}{l:List Nd}{i:Nat}{nd:Nd}(h:fS aA l)(hi:l[i]?=some nd){pg:Pg}(H:pg.aA=nd.pg.aA)(e2:pg.hi=nd.pg.hi)(e3:pg.la=nd.pg.la)(e4:pg.ri=nd.pg.ri):fS aA (l.set i { nd with pg:=pg }):=by
 have c:∀(j:Nat) (x:Nd),(l.set i { nd with pg:=pg })[j]?=some x->∃y,l[j]?=some y/\y.id=x.id/\y.low=x.low/\y.pg.aA=x.pg.aA/\y.pg.hi=x.pg.hi/\y.pg.la=x.pg.la/\y.pg.ri=x.pg.ri:=by
  intro j x g;rw[List.getElem?_set]at g;split at g
  ·rename_i e
   subst e;split at g
   ·obtain rfl:=asy g
    exact⟨nd,hi,rfl,rfl,H.symm,e2.symm,e3.symm,e4.symm⟩
   ·cases g
  ·exact⟨x,g,rfl,rfl,rfl,rfl,rfl,rfl⟩
 refine⟨by rw[List.length_set];exact h.ne,fun x g=>?_,fun x g=>?_,fun j a b p I=>?_,fun j a p o=>?_⟩
 ·obtain⟨j,o⟩:=ast g
  obtain⟨y,n,_,_,q,_⟩:=c j x o;rw[←q];exact h.aA y (asw n)
 ·obtain⟨y,n,_,q,_⟩:=c 0 x g
  rw[←q];exact h.first y n
 ·obtain⟨y,n,J,E,M,r,u,v⟩:=c j a p
  obtain⟨z,N,O,G,Q,R,S,T⟩:=c (j+1) b I;obtain⟨A,B,D,P⟩:=h.next j y z n N;exact⟨by rw[←u];exact A,by rw[←r,←G];exact B,by rw[←v,←O];exact D,by rw[←E,←G];exact P⟩
 ·obtain⟨y,n,J,E,M,r,u,v⟩:=c j a p
  rw[List.length_set]at o;obtain⟨A,B,D⟩:=h.last j y n o;exact⟨by rw[←u];exact A,by rw[←r];exact B,by rw[←v];exact D⟩
theorem mem_set {l:List Nd}{i:Nat}{a x:Nd}(h:x∈l.set i a):x=a\/x∈l:=by
 obtain⟨j,c⟩:=ast h;rw[List.getElem?_set]at c;split at c
 ·split at c
  ·exact .inl (asy c).symm
  ·cases c
 ·exact .inr (asw c)
theorem Uz {l:List Nd}{i:Nat}{nd a c:Nd}(hi:l[i]?=some nd)(g:a.id=nd.id)(e2:a.low=nd.low)(hc:c∈l):∃c',c' ∈ l.set i a/\c'.id=c.id/\c'.low=c.low:=by
 obtain⟨j,e⟩:=ast hc;have hlen:=(asu.1 hi).1;by_cases h:i=j
 ·subst h
  rw[hi]at e;obtain rfl:=asy e;exact⟨a,asw (i:=i) (by rw[List.getElem?_set_self hlen]),g,e2⟩
 ·exact⟨c,asw (i:=j) (by rw[List.getElem?_set_ne h];exact e),rfl,rfl⟩
theorem mA.put {N:Int}{t:List (List Nd)}{k i:Nat}{l:List Nd}{nd:Nd}(h:mA N t)(hl:t[k]?=some l)(hi:l[i]?=some nd){pg:Pg}(A:pg.aA=nd.pg.aA)(e2:pg.hi=nd.pg.hi)(e3:pg.la=nd.pg.la)(e4:pg.ri=nd.pg.ri)
  (B:Jg { nd with pg:=pg }) (p:∀(m:Nat) (l0:List Nd),k=m+1->t[m]?=some l0->ku l0 { nd with pg:=pg }):mA N (t.set k (l.set i { nd with pg:=pg })):=by
 have hm:=asw hi;refine h.row hl (Int.le_refl _) ((h.rows k l hl).put hi A e2 e3 e4) (fun x g=>?_) (fun c hc=>Uz hi rfl rfl hc) (fun a b x y g D e=>?_) (fun a q=>?_) (fun m l0 hk h0 x g=>?_) (by rw[List.length_set];omega)
 ·rcases mem_set g with rfl|g
  ·exact⟨(h.nodes k l hl nd hm).1,B⟩
  ·exact h.nodes k l hl x g
 ·have o:∀(j:Nat) (z:Nd),(l.set i { nd with pg:=pg })[j]?=some z->∃v,l[j]?=some v /\ v.id=z.id:=by
   intro j z n;rw[List.getElem?_set]at n;split at n
   ·rename_i e
    subst e;split at n
    ·obtain rfl:=asy n
     exact⟨nd,hi,rfl⟩
    ·cases n
   ·exact⟨z,n,rfl⟩
  obtain⟨E,r,ex⟩:=o a x g;obtain⟨G,u,H⟩:=o b y D;exact(h.inj k k l l a b E G hl hl r u (by rw[ex,H];exact e)).2
 ·rcases mem_set q with rfl|q
  ·exact .inl ⟨nd,hm,rfl⟩
  ·exact .inl ⟨a,q,rfl⟩
 ·rcases mem_set g with rfl|g
  ·exact p m l0 hk h0
  ·subst hk
   exact h.down m l0 l h0 hl x g
def pM (l:List Nd)(i:Nat)(a b:Nd):List Nd:=l.take i++a::b::l.drop (i+1)
theorem oy {l:List Nd}{i:Nat}{a b:Nd}(hi:i<l.length):(pM l i a b).length=l.length+1:=by
 simp[pM];omega
theorem fO {l:List Nd}{i:Nat}{a b:Nd}(hi:i<l.length)(j:Nat):(pM l i a b)[j]?=if j<i then l[j]? else if j=i then some a else if j=i+1 then some b else l[j-1]? := by
 unfold pM;have hlen:(l.take i).length=i:=by rw[List.length_take];omega
 by_cases c:j<i
 ·rw[if_pos c,List.getElem?_append_left (by rw[hlen];exact c),List.getElem?_take,if_pos c]
 ·rw[if_neg c,List.getElem?_append_right (by rw[hlen];omega),hlen]
  by_cases e:j=i
  ·rw[if_pos e,e,Nat.sub_self];rfl
  ·rw[if_neg e]
   by_cases g:j=i+1
   ·rw[if_pos g,g,show i+1-i=1 by omega];rfl
   ·rw[if_neg g]
    obtain⟨m,rfl⟩:∃m,j=i+2+m:=⟨j-(i+2),by omega⟩
    rw[show i+2+m-i=m+1+1 by omega,List.getElem?_cons_succ,List.getElem?_cons_succ,List.getElem?_drop]
    congr 1;omega
theorem zw {l:List Nd}{i:Nat}{a b x:Nd}(h:x∈pM l i a b):x=a\/x=b\/x∈l:=by
 unfold pM at h;rcases List.mem_append.1 h with h|h
 ·exact .inr (.inr (List.mem_of_mem_take h))
 ·rcases List.mem_cons.1 h with h|h
  ·exact .inl h
  ·rcases List.mem_cons.1 h with h|h
   ·exact .inr (.inl h)
   ·exact .inr (.inr (List.mem_of_mem_drop h))
theorem fS.split {aA:Nat}{l:List Nd}{i:Nat}{nd a b:Nd}(h:fS aA l)(hi:l[i]?=some nd)(yo:a.low=nd.low)(I:a.id=nd.id)(v:a.pg.aA=aA)(z:a.pg.la=false)(A:a.pg.hi=b.low)(B:a.pg.ri=b.id)
  (D:b.pg.aA=aA) (p:b.pg.la=nd.pg.la) (q:b.pg.hi=nd.pg.hi) (r:b.pg.ri=nd.pg.ri) (J:cA nd.low b.low=true) (M:nd.pg.la=false->cA b.low nd.pg.hi=true):fS aA (pM l i a b):=by
 have hlen:=(asu.1 hi).1;refine⟨by rw[oy hlen];omega,fun x c=>?_,fun x c=>?_,fun j x y c e=>?_,fun j x c N=>?_⟩
 ·rcases zw c with rfl|rfl|c
  ·exact v
  ·exact D
  ·exact h.aA x c
 ·rw[fO hlen]at c
  by_cases h0:0<i
  ·rw[if_pos h0]at c;exact h.first x c
  ·obtain rfl:i=0:=by omega
   rw[if_neg h0,if_pos rfl]at c;obtain rfl:=asy c;rw[yo];exact h.first nd hi
 ·rw[fO hlen]at c e
  by_cases G:j+1<i
  ·rw[if_pos (by omega)]at c
   rw[if_pos G]at e;exact h.next j x y c e
  ·rw[if_neg G]at e
   by_cases E:j+1=i
   ·rw[if_pos (by omega)]at c
    rw[if_pos E]at e;obtain rfl:=asy e;subst E;obtain⟨g,n,u,H⟩:=h.next j x nd c hi;exact⟨g,by rw[yo];exact n,by rw[I];exact u,by rw[yo];exact H⟩
   ·rw[if_neg E]at e
    by_cases O:j+1=i+1
    ·obtain rfl:j=i:=by omega
     rw[if_neg (by omega),if_pos rfl]at c
     rw[if_pos rfl]at e;obtain rfl:=asy c;obtain rfl:=asy e;exact⟨z,A,B,by rw[yo];exact J⟩
    ·rw[if_neg O]at e
     rw[if_neg (by omega),if_neg (by omega)]at c
     by_cases o:j=i+1
     ·rw[if_pos o]at c
      obtain rfl:=asy c;rw[o,show i+1+1-1=i+1 by omega]at e
      obtain⟨g,n,u,H⟩:=h.next i nd y hi e;exact⟨by rw[p];exact g,by rw[q];exact n,by rw[r];exact u,by rw[←n];exact M g⟩
     ·rw[if_neg o]at c
      exact h.next (j-1) x y c (by rw[show j-1+1=j+1-1 by omega];exact e)
 ·rw[oy hlen]at N
  rw[fO hlen]at c;rw[if_neg (by omega),if_neg (by omega)]at c
  by_cases o:j=i+1
  ·rw[if_pos o]at c
   obtain rfl:=asy c;obtain⟨g,n,u⟩:=h.last i nd hi (by omega)
   exact⟨by rw[p];exact g,by rw[q];exact n,by rw[r];exact u⟩
  ·rw[if_neg o]at c
   exact h.last (j-1) x c (by omega)
end
section
def gz (t:List (List Nd))(k:Nat):Nat:=((t.take k).map List.length).sum
theorem nW {t:List (List Nd)}{k:Nat}{l:List Nd}(h:t[k]?=some l):gz t (k+1)=gz t k+l.length:=by
 unfold gz;rw[List.take_add_one,h];simp
theorem Oo (t:List (List Nd))(k:Nat):gz t k<=(t.map List.length).sum:=by
 unfold gz;have h:(t.map List.length).sum=((t.take k).map List.length).sum+((t.drop k).map List.length).sum:=by
  rw[←List.sum_append,←List.map_append,List.take_append_drop]
 omega
def bj (d:aU):Nat:=d.fa.toNat+5
section
variable {d:aU}{L:List aQ}{t:List (List Nd)}{key:ByteArray}{level:Nat}{s:pR}{m:Nat}
end
end
section
theorem vo (l:List Sl)(s:Sl):aF (l++[s])=aF l++iz s:=by simp[aF]
theorem Va {W:World}{g:Nat}{S:List Sl}{fr p:Nat}(h:eG W (some ⟨g,0,none⟩) S)(q:fr+p<=S.length):eG W (some ⟨g,fr*2,none⟩) ((S.drop fr).take p):=by
 refine⟨by have:=h.1;simp;omega,fun i s c=>?_⟩
 have j:i<p:=by
  have:=(asu.1 c).1;simp at this;omega
 rw[List.getElem?_take,if_pos j,List.getElem?_drop]at c;obtain⟨b,off,e,l,n,o⟩:=h.2 _ _ c;simp only[Option.some.injEq,Addr.mk.injEq,and_true]at e;obtain⟨rfl,rfl⟩:=e;rw[show 0+(fr+i)*2=fr*2+i*2 by omega]at n o
 exact⟨g,fr*2,rfl,l,n,o⟩
theorem vp {W:World}{a:Option Addr}{S:List Sl}(h:S=[]):eG W a S:=by
 subst h;exact⟨by simp,fun i s c=>by simp at c⟩
theorem St.Oq {K:aM}{w:World}{F:List aC}{a:Option Addr}{n cap:Nat}{T:TypeId}{size:Nat}{xs:List Value}(h:St K w (az (.slice a n cap) T size n xs::F)):(a=none/\n=0/\cap=0)\/(∃g,a=some ⟨g,0,none⟩/\n<=cap):=by
 obtain⟨hl,k⟩:=h.head;rcases k with⟨c,h0⟩|⟨g,e,cur,c,hB,hc,i,j,l,o⟩
 ·simp only[Value.slice.injEq]at c
  exact .inl ⟨c.1,h0,c.2.2⟩
 ·simp only[Value.slice.injEq]at c
  exact .inr ⟨g,c.1,by omega⟩
def aaM:Value->Nat
 | .slice _ n _=>n
 | _=>0
structure Pl2 (d:aU)(ks:List ByteArray)(ee:Bool)(L:List aQ)(S:List Sl)(t:List (List Nd))(nx aA:Nat):Prop where
 pi:Ra d ks ee L S t nx
 tl:t.length=aA
 z:aA=0->nx=1/\S.length<=40
 p:0<aA->nx-1+fb S.length<=100/\1<=S.length/\aA+S.length<=41
 nx1:1<=nx
 many:∀l,t[t.length-1]?=some l->2<=l.length
theorem Pl2.le {d:aU}{ks:List ByteArray}{ee:Bool}{L:List aQ}{S:List Sl}{t:List (List Nd)}{nx aA:Nat}(h:Pl2 d ks ee L S t nx aA):S.length<=40/\aA<=40:=by
 rcases Nat.eq_zero_or_pos aA with h0|h0
 ·have:=h.z h0;omega
 ·have:=h.p h0;omega
theorem Pl2.vv {d:aU}{ks:List ByteArray}{ee:Bool}{L:List aQ}{S:List Sl}{t:List (List Nd)}{nx aA:Nat}{ps:List Nat}(h:Pl2 d ks ee L S t nx aA)(hp:fo S ps)
  (h0:aA=0->ps.length<=40) (g:0<aA->ps.length<=(S.length+1) / 2) (c:ps.length≠1):ps.length<=S.length/\(0<aA->3<=S.length/\ps.length<S.length):=by
 have i:=hp.ne;have hle:ps.length<=S.length:=by
  rcases hp.pos with e|e
  ·have:=rG e;rw[hp.sum]at this;exact this
  ·rw[e]at c;simp at c
 refine⟨hle,fun h=>?_⟩
 have:=g h;omega
theorem Pl2.next {d:aU}{ks:List ByteArray}{ee:Bool}{L j:List aQ}{S A:List Sl}{t t2:List (List Nd)}{nx aA:Nat}{ps:List Nat}(h:Pl2 d ks ee L S t nx aA)(hp:fo S ps)
  (h0:aA=0->ps.length<=40) (n:0<aA->ps.length<=(S.length+1) / 2) (g:ps.length≠1) (D:A.length<=ps.length) (c:t2.length=aA+1) (hi:Ra d ks ee j A t2 (nx+ps.length)) (i:∀l,t2[t2.length-1]?=some l->2<=l.length):Pl2 d ks ee j A t2 (nx+ps.length) (aA+1):=by
 obtain⟨hle,o⟩:=h.vv hp h0 n g;have r:=h.le.1;have u:1<=A.length:=by
  obtain⟨q,_⟩:=hi.s1 (fun e=>by rw[e]at c;simp at c)
  rcases Nat.eq_zero_or_pos A.length with h|h
  ·exact absurd (List.length_eq_zero_iff.1 h) q
  ·exact h
 refine⟨hi,c,fun e=>by omega,fun _=>?_,by have:=h.nx1;omega,i⟩
 rcases Nat.eq_zero_or_pos aA with hl|hl
 ·have v:=h.z hl
  have x:=h0 hl;have hm:=Ld 40 (by omega) A.length (by omega)
  have y:fb 40=41:=by decide +kernel
  omega
 ·have v:=h.p hl
  have hc:=n hl;obtain⟨B,E⟩:=o hl;have G:=Lf S.length r B;have hm:=Ld ((S.length+1) / 2) (by omega) A.length (by omega)
  omega
def PlR (K:aM)(bp:Nat)(aA:Nat)(sa:Option Addr)(p sc:Nat)(hi:ByteArray)(ri:Int)(REST:List aC)(ρ:Nat->Option Value)(W:World):Prop:=
 St K W (blk bp (.cells #[.int .i64 aA,.slice sa p sc,.string (if (ρ 10).isSome then hi else⟨#[]⟩),.bool false,.int .u64 (if (ρ 8).isSome then ri else 0)] 43)::REST)
section
variable {K:aM}{w:World}{F:List aC}{d:aU}{bm bc:Nat}{L:List aQ}{acc:Nat}{ks:List ByteArray}{ka:Option Addr}{kc:Nat}{sh:Int}{ee:Bool}
theorem Vb (hd:d.Ok)(hno:100<=d.no)(hk:rE 40 ks)(hL:bL L)(G:(L.length:Int)=d.cells)(qI:∀id:Int,1<=id->id<=d.no->ah L (d.node id 0)=aQ.zero)(hzero:∀j:Int,nT d j->ah L j=aQ.zero)(hsh:0<=sh/\sh<18446744073709551616)
  (r:St K w (aL bm bc L acc::az (.slice ka ks.length kc) 9 1 ks.length (bO ks)::F)) :
  Calls Tryz.prog 15 #[.agg #[.int .i64 d.th,.int .i64 d.sn,.int .i64 d.no,.int .i64 d.ch,.int .i64 d.re,.int .i64 d.fa,.int .u64 d.cl],(.pointer (some ⟨bm,0,none⟩)),.slice ka ks.length kc,.int .u64 sh,.bool ee] w fun e w' => ∃(t:List (List Nd)) (L':List aQ),e=.returned (.int .i64 t.length)/\Hid (oV d ks ee L' t)/\St K w' (aL bm bc L' acc::az (.slice ka ks.length kc) 9 1 ks.length (bO ks)::F):=by
 have f1:=hd.fy;have f2:=hd.m7;have Ji:=hk.len;obtain⟨n,hn⟩:∃n,n=ks.length:=⟨_,rfl⟩;rw[←hn]at r Ji ⊢;have Hn:=ass hn;have J:=ass hd;have Hk:=ass hk;have HL:=ass hL;have Hcl:=ass G;have aj7:=ass qI;have afj:=ass hzero;have Hno:=ass hno;obtain⟨sh0,sh1⟩:=hsh;obtain⟨iv,dm,dr,dw,dx⟩:=info_parts ic;have lO:=ass dm;have lQ:=ass dr;have lR:=ass dw;have lS:=ass dx;clear dm dr dw dx hd hk hL G qI hzero hno hn;have r:=r.made (.cells #[.int .i64 d.th,.int .i64 d.sn,.int .i64 d.no,.int .i64 d.ch,.int .i64 d.re,.int .i64 d.fa,.int .u64 d.cl] 26);obtain⟨E,afl⟩:∃E,E=w.heap.size:=⟨_,rfl⟩;have r:=r.cJ (T:=69) (size:=2);go_enter Tryz.func15,Tryz.ntmps15
 go_wp2
 rw[←afl]at r ⊢;clear afl;go_loopw [11,12] (fun v11 v12 wr=>∃(i:Nat) (D:Option Addr) (co:Nat),v11=.slice D i co/\v12=.int .i64 i/\i<=n /\
  St K wr (az (.slice D i co) 69 2 i (aF (cN 0 (ks.take i)))::blk E (.cells #[.int .i64 d.th,.int .i64 d.sn,.int .i64 d.no,.int .i64 d.ch,.int .i64 d.re,.int .i64 d.fa,.int .u64 d.cl] 26)::aL bm bc L acc::az (.slice ka n kc) 9 1 n (bO ks)::F)) (fun _ v12 _=>n-(intOf v12).toNat)
 case atStart=>exact⟨0,none,0,rfl,rfl,by omega,r⟩
 case round=>
  clear r;obtain⟨i,D,co,rfl,rfl,hi,r⟩:=hrel;by_cases hin:i<n
  ·obtain⟨y,hy⟩:∃y,ks[i]?=some y:=⟨_,asx (by have:=Hn.out;omega)⟩
   obtain⟨g,rfl,c0⟩:=r.b3.cQ (show(bO ks)[i]?=some (.string y)by simp[bO,hy])
   have eu:cN 0 (ks.take (i+1))=cN 0 (ks.take i)++[⟨y,(i:Int)+1⟩]:=by
    rw[List.take_add_one,hy];show cN 0 (ks.take i++[y])=_
    rw[uY];have:(ks.take i).length=i:=by rw[List.length_take];have:=Hn.out;omega
    rw[this];congr 3;push_cast;omega
   have iU:=ass eu;clear hy eu;go_wp2_with (at_builtin;refine dM _ _ 41 69 _ i 2 24 _ (iz ⟨y,(i:Int)+1⟩) (.agg #[.string ⟨#[]⟩,.int .u64 0]) iv r rfl rfl Tryz.underlying41 lO.out lQ.out lR.out lS.out rfl (by decide) rfl rfl rfl (fun u hu=>by simp[iz]at hu;rcases hu with rfl|rfl <;> rfl) (by omega) (by decide) ?_)
   clear r c0;intro v' w' r;obtain⟨N,O,hv,_,_⟩:=r.aJ;subst hv;go_wp2
   go_roundw
   case rel=>exact⟨i+1,N,O,rfl,by go_num,by omega,by rw[iU.out,vo];exact r⟩
   case measure=>simp[intOf];omega
  ·obtain rfl:i=n:=by omega
   rw[List.take_of_length_le (by rw[←Hn.out];exact Nat.le_refl _)]at r
   have qC:(cN 0 ks).length=i:=by rw[gQ,Hn.out]
   go_wp2_with fail
   refine(gM (i:=5) (c:=⟨i,⟨#[]⟩,0⟩) r.b2).mono ?_
   clear r;rintro e w2 ⟨rfl,r⟩;have hP:Pl2 d ks ee (aR L 5 ⟨i,⟨#[]⟩,0⟩) (cN 0 ks) [] 1 0:=by
    refine⟨Ra.start J.out Hk.out.size Hk.out.jP (by rw[←Hn.out];exact Ji) (HL.out.put ⟨by show(0:Int)<=i;omega,by show(i:Int)<_;omega⟩) (by rw[bg];exact Hcl.out) (fun id a b=>?_) (fun j hj=>?_) ?_,rfl,fun _=>⟨rfl,by omega⟩,fun h=>by omega,Nat.le_refl _,fun l h=>by simp at h⟩
    rotate_left
    ·have hA:=J.out.eN
     have hB:=J.out.jZ;rw[bu (by rcases hj with h|h <;> omega)]
     exact afj.out j hj
    ·have hA:=J.out.eN
     have hB:=J.out.jZ;have hC:=J.out.oD;have hcb:=J.out.eF;have G:=Hcl.out;rw[cD (by omega) (by omega),Hn.out]
    have n0:=(bZ J.out a b (k:=0) (by omega) (by omega)).1
    have m3:0<=(id-1)*(d.fa+4):=Int.mul_nonneg (by omega) (by omega)
    have hA:=J.out.eN;rw[bu (by omega)]
    exact aj7.out id a b
   have v:=ass hP;generalize aR L 5 ⟨i,⟨#[]⟩,0⟩=L5 at *;have r:St K w2 (aL bm bc L5 acc::az (.slice D (cN 0 ks).length co) 69 2 (cN 0 ks).length (aF (cN 0 ks))::blk E (.cells #[.int .i64 d.th,.int .i64 d.sn,.int .i64 d.no,.int .i64 d.ch,.int .i64 d.re,.int .i64 d.fa,.int .u64 d.cl] 26)::az (.slice ka i kc) 9 1 i (bO ks)::F):=by rw[qC];exact r
   have Hkl:=ass qC.symm;clear hP qC;rename_i n
   go_wp2
   go_loopw [3,11,13,14,15,16,17,18,19,20,21] (fun v3 v11 v13 v14 _ _ _ _ _ _ _ wr=>∃(s:Int) (nx aA:Nat) (S:List Sl) (t:List (List Nd)) (D:Option Addr) (co:Nat) (L':List aQ),v3=.int .u64 s/\v11=.slice D S.length co/\v13=.int .u64 nx/\v14=.int .i64 aA/\0<=s/\s<18446744073709551616/\Hid (Pl2 d ks ee L' S t nx aA) /\
    St K wr (aL bm bc L' acc::az (.slice D S.length co) 69 2 S.length (aF S)::blk E (.cells #[.int .i64 d.th,.int .i64 d.sn,.int .i64 d.no,.int .i64 d.ch,.int .i64 d.re,.int .i64 d.fa,.int .u64 d.cl] 26)::az (.slice ka i kc) 9 1 i (bO ks)::F)) (fun _ v11 _ v14 _ _ _ _ _ _ _ _=>aaM v11+(if intOf v14=0 then 1 else 0))
   case atStart=>exact⟨sh,1,0,cN 0 ks,[],D,co,L5,rfl,by rw[←Hkl.out],rfl,rfl,sh0,sh1,v,r⟩
   case round=>
    clear r v;obtain⟨s,nx,aA,S,t,D,co,L',rfl,rfl,rfl,rfl,s0,s1,v,r⟩:=hrel;obtain⟨acO,aj8⟩:=v.out.le;have ape:nx<=101/\1<=nx:=by
     refine⟨?_,v.out.nx1⟩;rcases Nat.eq_zero_or_pos aA with h|h
     ·have:=v.out.z h;omega
     ·have:=v.out.p h;omega
    have X:=r.b2.k0;go_upto_region 8 with(fail)
    go_cut [15] (fun v15 P=>∃(ps:List Nat) (Y:Option Addr) (pc:Nat),v15=.slice Y ps.length pc/\Hid (tI S.length (if aA=0 then 1 else 2) d.fa.toNat ps) /\
     St K P (az (.slice Y ps.length pc) 3 1 ps.length (gK ps)::aL bm bc L' acc::az (.slice D S.length co) 69 2 S.length (aF S)::blk E (.cells #[.int .i64 d.th,.int .i64 d.sn,.int .i64 d.no,.int .i64 d.ch,.int .i64 d.re,.int .i64 d.fa,.int .u64 d.cl] 26)::az (.slice ka i kc) 9 1 i (bO ks)::F))
    case first=>
     as_aux_lemma=>
     have Z:((d.fa.toNat:Nat):Int)=d.fa:=by omega
     by_cases h0:aA=0
     ·subst h0
      have q:=uX (n:=S.length) (least:=1) (fa:=d.fa.toNat) (sh:=s) (by omega) (by omega) (by omega) ⟨s0,s1⟩ r
      rw[Z]at q;have Q:=ass q;clear q r Z;go_wp2_with fail
      refine(Q.out).mono ?_
      clear Q X;rintro e w3 ⟨v15,ps,rfl,HG,r⟩;obtain⟨Y,pc,rfl,_,_⟩:=r.aJ;go_wp2
      go_meet;exact⟨ps,Y,pc,rfl,HG,r⟩
     ·have H0:=ass h0
      by_cases dG:aA=1
      ·subst dG
       have q:=uX (n:=S.length) (least:=2) (fa:=d.fa.toNat) (sh:=s) (by omega) (by omega) (by omega) ⟨s0,s1⟩ r
       rw[Z]at q;have Q:=ass q;clear q r Z h0;go_wp2_with fail
       refine(Q.out).mono ?_
       clear Q X;rintro e w3 ⟨v15,ps,rfl,HG,r⟩;obtain⟨Y,pc,rfl,_,_⟩:=r.aJ;go_wp2
       go_meet;exact⟨ps,Y,pc,rfl,by rw[if_neg H0.out];exact HG,r⟩
      ·have h2:¬ ((aA:Int)+1<=2):=by omega
       have h3:(2:Int)<aA+1:=by omega
       clear dG;have q:=uX (n:=S.length) (least:=2) (fa:=d.fa.toNat) (sh:=s) (by omega) (by omega) (by omega) ⟨s0,s1⟩ r
       rw[Z]at q;have Q:=ass q;clear q r Z h0;go_wp2_with fail
       refine(Q.out).mono ?_
       clear Q X;rintro e w3 ⟨v15,ps,rfl,HG,r⟩;obtain⟨Y,pc,rfl,_,_⟩:=r.aJ;go_wp2
       go_meet;exact⟨ps,Y,pc,rfl,by rw[if_neg H0.out];exact HG,r⟩
    case rest=>
     clear r X;obtain⟨M,pa0,pc0,rfl,HG,r⟩:=hcut;go_upto_region 9 with(fail)
     go_cut [56] (fun v56 P=>v56=.bool (decide (M.length=0))/\St K P (az (.slice pa0 M.length pc0) 3 1 M.length (gK M)::aL bm bc L' acc::az (.slice D S.length co) 69 2 S.length (aF S)::blk E (.cells #[.int .i64 d.th,.int .i64 d.sn,.int .i64 d.no,.int .i64 d.ch,.int .i64 d.re,.int .i64 d.fa,.int .u64 d.cl] 26)::az (.slice ka i kc) 9 1 i (bO ks)::F))
     case first=>
      as_aux_lemma=>
      go_wp2
      go_meet;exact⟨by congr 1;rw[Bool.eq_iff_iff];simp only[beq_iff_eq,decide_eq_true_eq];omega,r⟩
     case rest=>
      clear r;obtain⟨rfl,r⟩:=hcut;apply_assumption
      go_cut [15] (fun v15 P=>∃(ps:List Nat) (Y:Option Addr) (pc:Nat),v15=.slice Y ps.length pc/\Hid (fo S ps/\(∀p,p∈ps->(p:Int)<=d.fa)/\(aA=0->ps.length<=S.length+1/\ps.length<=40)/\(0<aA->ps.length<=(S.length+1) / 2))/\1<=ps.length/\ps.length<=40/\Hid (0<aA->∀(i p:Nat),ps[i]?=some p->i+1<ps.length->2<=p) /\
       St K P (az (.slice Y ps.length pc) 3 1 ps.length (gK ps)::aL bm bc L' acc::az (.slice D S.length co) 69 2 S.length (aF S)::blk E (.cells #[.int .i64 d.th,.int .i64 d.sn,.int .i64 d.no,.int .i64 d.ch,.int .i64 d.re,.int .i64 d.fa,.int .u64 d.cl] 26)::az (.slice ka i kc) 9 1 i (bO ks)::F))
      case first=>
       as_aux_lemma=>
       have hpk:=Uk v.out.pi (show 1<=(if aA=0 then 1 else 2)by split <;> omega) HG.out
       have hlen:=HG.out.len;have hbd:=HG.out.bd;have hz:=v.out.z;have hpp:=v.out.p;by_cases h0:M.length=0
       ·rw[decide_eq_true h0]
        rw[if_pos h0]at hpk;have HQ:Hid (fo S [0]/\(∀p:Nat,p∈[0]->(p:Int)<=d.fa)/\(aA=0->[0].length<=S.length+1/\[0].length<=40)/\(0<aA->[0].length<=(S.length+1) / 2)):=
         ass ⟨hpk,fun p hp=>by simp at hp;subst hp;omega,fun _=>by simp,fun h=>by have:=hpp h;simp only[List.length_cons,List.length_nil];omega⟩
        clear hpk hlen hbd hz hpp h0;have r:=(r.made (.cells #[.int .i64 0] 3)).lV (n:=1) (size:=1) (xs:=[.int .i64 0]) rfl (by simp[maxLen])
        go_wp2
        go_meet;exact⟨[0],_,_,rfl,HQ,by simp,by simp,ass (fun _ i p _ hi=>by simp at hi),r.b9⟩
       ·rw[decide_eq_false h0]
        rw[if_neg h0]at hpk;have B:(aA=0->M.length<=S.length)/\(0<aA->M.length<=(S.length+1) / 2):=by
         constructor
         ·intro h;rw[if_pos h]at hlen;omega
         ·intro h;rw[if_neg (by omega)]at hlen;omega
        have aaN:M.length<=40:=by
         rcases Nat.eq_zero_or_pos aA with h|h
         ·have:=B.1 h;omega
         ·have:=B.2 h;omega
        have HQ:Hid (fo S M/\(∀p,p∈M->(p:Int)<=d.fa)/\(aA=0->M.length<=S.length+1/\M.length<=40)/\(0<aA->M.length<=(S.length+1) / 2)):=
         ass ⟨hpk,fun p hp=>by have:=(hbd p hp).2;omega,fun h=>⟨by have:=B.1 h;omega,aaN⟩,B.2⟩
        have HT2:Hid (0<aA->∀(i p:Nat),M[i]?=some p->i+1<M.length->2<=p):=ass (fun h i p hp hi=>by
         have:=HG.out.Xu i p hp hi;rw[if_neg (by omega)]at this
         exact this)
        clear hpk hlen hbd hz hpp B;go_wp2
        go_meet;exact⟨M,_,_,rfl,HQ,by omega,aaN,HT2,r⟩
      case rest=>
       clear r HG;obtain⟨ps,Y,pc,rfl,HQ,hp1,hp2,HT2,r⟩:=hcut;have Hnx:=ass v.out.nx1;have Ec:Hid (fS t.length (dR t.length ⟨#[]⟩ nx S ps)/\(dR t.length ⟨#[]⟩ nx S ps).length=ps.length):=ass ⟨Dk HQ.out.1,fk _ _ _ _ _⟩;have Hat:Hid (∀(j:Nat) (nd:Nd),(dR t.length ⟨#[]⟩ nx S ps)[j]?=some nd->∃p,ps[j]?=some p/\nd.id=nx+j/\nd.pg.aA=aA/\nd.pg.sl=(S.drop (ps.take j).sum).take p/\(ps.take j).sum+p<=S.length /\
        ((j+1=ps.length/\nd.pg=⟨aA,(S.drop (ps.take j).sum).take p,⟨#[]⟩,true,0⟩)\/(j+1<ps.length/\nd.pg=⟨aA,(S.drop (ps.take j).sum).take p,nO aA (S.drop (ps.take j).sum) p,false,nx+j+1⟩))):=ass (fun j nd h=>by
        have:=gB HQ.out.1 h;rwa [v.out.tl]at this)
       obtain⟨row,hrow⟩:∃row,row=dR t.length ⟨#[]⟩ nx S ps:=⟨_,rfl⟩;rw[←hrow]at Ec Hat;have aaO:=ass hrow;clear hrow;have r:=r.cJ (T:=69) (size:=2);go_wp2
       go_loopw [16,17,18,19,20,21] (fun v16 v17 v18 v19 _ _ wr=>∃(j fr:Nat) (A:List Sl) (N:Option Addr) (O:Nat) (low:ByteArray),v16=.slice N A.length O/\v17=.string low/\v18=.int .i64 fr/\v19=.int .i64 j/\j<=ps.length/\fr<=S.length/\A.length<=j /\
        Hid (fr=(ps.take j).sum/\iA row j A ee/\∀nd,row[j]?=some nd->nd.low=low) /\
        St K wr (az (.slice N A.length O) 69 2 A.length (aF A)::az (.slice Y ps.length pc) 3 1 ps.length (gK ps)::aL bm bc (bT d L' (row.take j)) acc::az (.slice D S.length co) 69 2 S.length (aF S)::blk E (.cells #[.int .i64 d.th,.int .i64 d.sn,.int .i64 d.no,.int .i64 d.ch,.int .i64 d.re,.int .i64 d.fa,.int .u64 d.cl] 26)::az (.slice ka i kc) 9 1 i (bO ks)::F)) (fun _ _ _ v19 _ _ _=>ps.length-(intOf v19).toNat)
       case atStart=>exact⟨0,0,[],none,0,⟨#[]⟩,rfl,rfl,rfl,rfl,by omega,by omega,Nat.le_refl _,ass ⟨rfl,iA.start _ _,fun nd h=>Ec.out.1.first nd h⟩,r⟩
       case round=>
        clear r;obtain⟨j,fr,A,N,O,low,rfl,rfl,rfl,rfl,hj,hfr,hAj,HR,r⟩:=hrel;by_cases hjn:j<ps.length
        ·obtain⟨nd,hnd⟩:∃nd,row[j]?=some nd:=⟨_,asx (by rw[Ec.out.2];exact hjn)⟩
         obtain⟨p,hpj,hid,cj,fB,hfp,lN⟩:=Hat.out j nd hnd;rw[←HR.out.1]at fB hfp lN;obtain⟨gp,rfl,c0⟩:=r.b1.cQ (show(gK ps)[j]?=some (.int .i64 p)by simp[gK,hpj])
         have Ot:=ass hnd;have Hpj:=ass hpj;have Hid' := ass hid;have tE:=ass fB;have Hpg:=ass lN;have uQ:=ass cj;clear hnd hpj hid fB lN cj;go_upto_region 16 with(fail)
         go_cut [20] (fun v20 P=>∃(bp:Nat) (sa:Option Addr) (sc:Nat),v20=(.pointer (some ⟨bp,0,none⟩))/\Hid (∀W F',St K W (az (.slice D S.length co) 69 2 S.length (aF S)::F')->eG W sa nd.pg.sl) /\
          St K P (blk bp (.cells #[.int .i64 aA,.slice sa p sc,.string ⟨#[]⟩,.bool (decide (j+1=ps.length)),.int .u64 0] 43)::az (.slice N A.length O) 69 2 A.length (aF A)::az (.slice (some ⟨gp,0,none⟩) ps.length pc) 3 1 ps.length (gK ps)::aL bm bc (bT d L' (row.take j)) acc::az (.slice D S.length co) 69 2 S.length (aF S)::blk E (.cells #[.int .i64 d.th,.int .i64 d.sn,.int .i64 d.no,.int .i64 d.ch,.int .i64 d.re,.int .i64 d.fa,.int .u64 d.cl] 26)::az (.slice ka i kc) 9 1 i (bO ks)::F))
         case first=>
          as_aux_lemma=>
          have hbe:((j:Int) == (ps.length:Int)-1)=decide (j+1=ps.length):=by rw[Bool.eq_iff_iff];simp only[beq_iff_eq,decide_eq_true_eq];omega
          have hcap:=r.b3.Oq;rcases hcap with⟨rfl,h0,rfl⟩|⟨g,rfl,hco⟩
          ·have hS0:S=[]:=List.length_eq_zero_iff.1 h0
           obtain rfl:fr=0:=by omega
           obtain rfl:p=0:=by omega
           have HS0:=ass hS0;have Hbe:=ass hbe;clear hS0 hbe;have r:=r.made (.cells #[.int .i64 aA,.slice none 0 0,.string ⟨#[]⟩,.bool (decide (j+1=ps.length)),.int .u64 0] 43);go_wp2
           rw[Hbe.out];go_meet;exact⟨_,_,_,rfl,ass (fun W F' h=>vp (by rw[tE.out,HS0.out];simp)),r⟩
          ·have Hbe:=ass hbe
           clear hbe;by_cases Lm:p=0
           ·have hS0:S=[]:=by
             have hm:=asw Hpj.out;rcases HQ.out.1.pos with hq|hq
             ·have:=hq p hm;omega
             ·have:=HQ.out.1.sum;rw[hq]at this;exact List.length_eq_zero_iff.1 (by simpa using this.symm)
            have h0:S.length=0:=by rw[hS0];rfl
            have HS0:=ass hS0;subst Lm;obtain rfl:fr=0:=by omega
            clear hS0;rcases Nat.eq_zero_or_pos co with hc|hc
            ·subst hc
             have r:=r.made (.cells #[.int .i64 aA,.slice (some ⟨g,0,none⟩) 0 0,.string ⟨#[]⟩,.bool (decide (j+1=ps.length)),.int .u64 0] 43);go_wp2
             rw[Hbe.out];go_meet;exact⟨_,_,_,rfl,ass (fun W F' h=>vp (by rw[tE.out,HS0.out];simp)),r⟩
            ·have r:=r.made (.cells #[.int .i64 aA,.slice (some ⟨g,0,none⟩) 0 co,.string ⟨#[]⟩,.bool (decide (j+1=ps.length)),.int .u64 0] 43)
             go_wp2
             rw[Hbe.out];go_meet;exact⟨_,_,_,rfl,ass (fun W F' h=>vp (by rw[tE.out,HS0.out];simp)),r⟩
           ·have hfc:fr<co:=by omega
            have r:=r.made (.cells #[.int .i64 aA,.slice (some ⟨g,fr*2,none⟩) p (co-fr),.string ⟨#[]⟩,.bool (decide (j+1=ps.length)),.int .u64 0] 43);go_wp2
            rw[Hbe.out];go_meet;exact⟨_,_,_,rfl,ass (fun W F' h=>by rw[tE.out];exact Va (h.cM (by omega)) hfp),r⟩
         case rest=>
          clear r;obtain⟨bp,sa,sc,rfl,Hsa,r⟩:=hcut;have kp:=r.k0;have c0:=r.b2.bG (show(gK ps)[j]?=some (.int .i64 p)by simp[gK,Hpj.out])
          go_upto_region 19 with(fail)
          go_cut [92] (fun v92 P=>v92=.bool (!decide (j+1=ps.length))/\St K P (blk bp (.cells #[.int .i64 aA,.slice sa p sc,.string ⟨#[]⟩,.bool (decide (j+1=ps.length)),.int .u64 0] 43)::az (.slice N A.length O) 69 2 A.length (aF A)::az (.slice (some ⟨gp,0,none⟩) ps.length pc) 3 1 ps.length (gK ps)::aL bm bc (bT d L' (row.take j)) acc::az (.slice D S.length co) 69 2 S.length (aF S)::blk E (.cells #[.int .i64 d.th,.int .i64 d.sn,.int .i64 d.no,.int .i64 d.ch,.int .i64 d.re,.int .i64 d.fa,.int .u64 d.cl] 26)::az (.slice ka i kc) 9 1 i (bO ks)::F))
          case first=>
           as_aux_lemma=>
           go_wp2
           go_meet;exact⟨rfl,r⟩
          case rest=>
           clear r kp c0;obtain⟨rfl,r⟩:=hcut;apply_assumption
           go_cut [93] (fun _ P=>St K P (blk bp (.cells #[.int .i64 aA,.slice sa p sc,.string nd.pg.hi,.bool nd.pg.la,.int .u64 nd.pg.ri] 43)::az (.slice N A.length O) 69 2 A.length (aF A)::az (.slice (some ⟨gp,0,none⟩) ps.length pc) 3 1 ps.length (gK ps)::aL bm bc (bT d L' (row.take j)) acc::az (.slice D S.length co) 69 2 S.length (aF S)::blk E (.cells #[.int .i64 d.th,.int .i64 d.sn,.int .i64 d.no,.int .i64 d.ch,.int .i64 d.re,.int .i64 d.fa,.int .u64 d.cl] 26)::az (.slice ka i kc) 9 1 i (bO ks)::F))
           case first=>
            as_aux_lemma=>
            by_cases hl:j+1=ps.length
            ·have Jj:nd.pg.hi=⟨#[]⟩/\nd.pg.la=true/\nd.pg.ri=0:=by
              rcases Hpg.out with⟨_,h⟩|⟨h,_⟩
              ·rw[h];exact⟨rfl,rfl,rfl⟩
              ·omega
             rw[decide_eq_true hl]at r ⊢;have wL:=ass Jj;clear Jj hl;go_wp2
             go_meet;rw[wL.out.1,wL.out.2.1,wL.out.2.2];exact r
            ·have hlt:j+1<ps.length:=by omega
             obtain⟨x,y,hx,hy,q1,q2,q3,q4⟩:=HQ.out.1.at (aA:=aA) Hpj.out hlt;rw[←HR.out.1]at q1;rw[ij Hpj.out,←HR.out.1]at hx hy;have Jj:nd.pg.hi=(if aA=0 then l6 x.k y.k else y.k)/\nd.pg.la=false/\nd.pg.ri=nx+j+1:=by
              rcases Hpg.out with⟨h,_⟩|⟨_,h⟩
              ·omega
              ·rw[h];exact⟨by show nO aA _ p=_;rw[HR.out.1];exact q3,rfl,rfl⟩
             have wL:=ass Jj;obtain⟨rx0,rx1⟩:=fM S _ x hx;obtain⟨ry0,ry1⟩:=fM S _ y hy;have hylt:fr+p<S.length:=(asu.1 hy).1;obtain⟨gs,rfl,_⟩:=r.b4.cQ ry0;have Hrx:=ass rx0;have Hry:=ass ry0;have akf:aA=0->y.k.size<=1000000:=by
              intro h;have ht:t=[]:=List.length_eq_zero_iff.1 (by rw[v.out.tl];exact h)
              have hm:=asw hy;rw[v.out.pi.s0 ht]at hm;have:=Hk.out.size _ (lD hm).1;omega
             have hw1:IntKind.u64.wrap ((nx:Int)+j+1)=(nx:Int)+j+1:=by rw[IntKind.wrap_u64];omega
             have Hw1:=ass hw1;clear Jj q1 q3 q4 rx0 rx1 ry0 ry1 hx hy hw1;rw[decide_eq_false hl]at r ⊢;clear hl;go_upto_region 20 with(fail)
             have Hs:=ass r;clear r;refine aX [false,false,false,false,false,false,false,false,true,false,true] [8,10] (fun _=>[])
              (PlR K bp aA sa p sc y.k ((nx:Int)+j+1) (az (.slice N A.length O) 69 2 A.length (aF A)::az (.slice (some ⟨gp,0,none⟩) ps.length pc) 3 1 ps.length (gK ps)::aL bm bc (bT d L' (row.take j)) acc::az (.slice (some ⟨gs,0,none⟩) S.length co) 69 2 S.length (aF S)::blk E (.cells #[.int .i64 d.th,.int .i64 d.sn,.int .i64 d.no,.int .i64 d.ch,.int .i64 d.re,.int .i64 d.fa,.int .u64 d.cl] 26)::az (.slice ka i kc) 9 1 i (bO ks)::F))
              (fun W=>St K W (az (.slice N A.length O) 69 2 A.length (aF A)::az (.slice (some ⟨gp,0,none⟩) ps.length pc) 3 1 ps.length (gK ps)::aL bm bc (bT d L' (row.take j)) acc::az (.slice (some ⟨gs,0,none⟩) S.length co) 69 2 S.length (aF S)::blk E (.cells #[.int .i64 d.th,.int .i64 d.sn,.int .i64 d.no,.int .i64 d.ch,.int .i64 d.re,.int .i64 d.fa,.int .u64 d.cl] 26)::az (.slice ka i kc) 9 1 i (bO ks)::F)) ?aS (by kernel_rfl) ?hB ?H ?ja ?h0 ?hI ?hR ?hE ?hQ
             case hB=>as_aux_lemma=>kernel_rfl
             case H=>
              intro W2 r;have c0:=r.b3.bG Hry.out;clear r;simp only[cG];repeat (go_big_quiet_step (fail))
              refine wpQuiet_nil ?_
              rfl
             case ja=>rfl
             case h0=>exact Hs.out
             case hI=>exact fun ρ W2 h=>St.tail h
             case hR=>exact fun ρ W2 W3 h hb=>St.same h hb
             case hE=>
              refine⟨?e8,?Zf,trivial⟩;case e8=>
               intro o ho ρ W2 h G h8 hd2 af aD;obtain rfl:=asy ho;replace aD:af=aj _ ρ [] _:=aD;simp only[aj]at aD;subst aD;have r:St K W2 (blk bp (.cells _ 43)::_):=h;have k0:=r.k0;have f0:=r.f0;have r:=r.aK 4 (.int .u64 ((nx:Int)+j+1));have gJ:=ass r;clear h r G hd2;go_wp2
               refine⟨rfl,undef,rfl,?_⟩;have e1:upd ρ 8 undef 8=some undef:=by simp[upd]
               have e2:upd ρ 8 undef 10=ρ 10:=by simp[upd]
               unfold PlR;rw[e1,e2];exact gJ.out
              case Zf=>
               intro o ho ρ W2 h G h10 hd2 af aD;obtain rfl:=asy ho;replace aD:af=aj _ ρ [] _:=aD;simp only[aj]at aD;subst aD;have r:St K W2 (blk bp (.cells _ 43)::_):=h;have k0:=r.k0;have f0:=r.f0;have r:=r.aK 2 (.string y.k);have gJ:=ass r;clear h r G hd2;go_wp2
               refine⟨rfl,undef,rfl,?_⟩;have e1:upd ρ 10 undef 10=some undef:=by simp[upd]
               have e2:upd ρ 10 undef 8=ρ 8:=by simp[upd]
               unfold PlR;rw[e1,e2];exact gJ.out
             case hQ=>
              intro ρ W2 h hall;obtain⟨v8,h8⟩:=asv.1 (hall 8 (by simp))
              obtain⟨v10,h10⟩:=asv.1 (hall 10 (by simp))
              unfold PlR at h;rw[h8,h10]at h;have r:St K W2 (blk bp (.cells #[.int .i64 aA,.slice sa p sc,.string y.k,.bool false,.int .u64 ((nx:Int)+j+1)] 43)::az (.slice N A.length O) 69 2 A.length (aF A)::az (.slice (some ⟨gp,0,none⟩) ps.length pc) 3 1 ps.length (gK ps)::aL bm bc (bT d L' (row.take j)) acc::az (.slice (some ⟨gs,0,none⟩) S.length co) 69 2 S.length (aF S)::blk E (.cells #[.int .i64 d.th,.int .i64 d.sn,.int .i64 d.no,.int .i64 d.ch,.int .i64 d.re,.int .i64 d.fa,.int .u64 d.cl] 26)::az (.slice ka i kc) 9 1 i (bO ks)::F):=h;simp only[aj,h8,h10,Option.getD_some,aP,List.getElem?_cons_succ,List.getElem?_cons_zero,Option.bind_some,Option.bind_none,Act.put];clear h hall h8 h10;by_cases hl0:aA=0
              ·subst hl0
               have kp:=r.k0;have cx:=r.b4.bG Hrx.out;have cy:=r.b4.bG Hry.out;have Qs:=ass (fun wz=>(Gt x.k y.k (akf rfl) wz).mono (by rintro e w' ⟨rfl,rfl⟩;exact And.intro rfl (Below.refl _ _):∀e w',_->(e=.returned (.string (l6 x.k y.k))/\Below wz.heap.size wz w')))
               go_upto_region 22 with(fail)
               refine bN 13 (by kernel_rfl) (by as_aux_lemma=>kernel_rfl) ?_
               simp only[List.take_succ_cons,List.take_zero,List.drop_succ_cons,List.drop_zero];repeat (go_big_quiet_step ((go_at_call 71;exact aZ (Qs.out _))))
               refine wpQuiet_nil ?_
               intro w7 hb7;have r:=r.same hb7;clear kp cx cy hb7;have k0:=r.k0;have f0:=r.f0;have r:=r.aK 2 (.string (l6 x.k y.k));have Ou:nd.pg.hi=l6 x.k y.k:=by rw[wL.out.1,if_pos rfl]
               have Hp3:=ass Ou;clear Ou;go_wp2
               go_meet;rw[Hp3.out,wL.out.2.1,wL.out.2.2];exact r
              ·have Ou:nd.pg.hi=y.k:=by rw[wL.out.1,if_neg hl0]
               have Hp3:=ass Ou;clear Ou;go_wp2
               go_meet;rw[Hp3.out,wL.out.2.1,wL.out.2.2];exact r
           case rest=>
            clear r;have r:=hcut;clear hcut;have hpl:p=nd.pg.sl.length:=by rw[tE.out];simp;omega
            have I:nd.id=(nx:Int)+j:=Hid'.out;have aad:(nd.pg.sl.length:Int)<=d.fa:=by rw[←hpl];exact HQ.out.2.1 p (asw Hpj.out)
            have kK:bT d L' (row.take (j+1))=fD d nd.id nd.pg (bT d L' (row.take j)):=by
             rw[List.take_add_one,Ot.out];exact wu _ _ _
            have r:St K wc (aL bm bc (bT d L' (row.take j)) acc::blk bp (.cells #[.int .i64 nd.pg.aA,.slice sa nd.pg.sl.length sc,.string nd.pg.hi,.bool nd.pg.la,.int .u64 nd.pg.ri] 43)::az (.slice N A.length O) 69 2 A.length (aF A)::az (.slice (some ⟨gp,0,none⟩) ps.length pc) 3 1 ps.length (gK ps)::az (.slice D S.length co) 69 2 S.length (aF S)::blk E (.cells #[.int .i64 d.th,.int .i64 d.sn,.int .i64 d.no,.int .i64 d.ch,.int .i64 d.re,.int .i64 d.fa,.int .u64 d.cl] 26)::az (.slice ka i kc) 9 1 i (bO ks)::F):=by
             rw[←hpl,uQ.out];exact r.re [3,0,1,2,4,5,6] rfl
            have U:=ux (pg:=nd.pg) (id:=nd.id) (a:=sa) (cap:=sc) J.out (by rw[I];omega) (by rw[uQ.out];omega) aad (fun W h=>Hsa.out W _ (h.re [3,0,1,2,4,5] rfl)) r
            rw[I]at U;rw[←I,←kK,I]at U;have afn:=ass U;have kp:=r.k1;have X:=r.b5.k0;clear U kK I aad hpl;go_wp2_with fail
            refine(afn.out).mono ?_
            clear r kp X afn;rintro e w5 ⟨rfl,r⟩;go_upto_region 24 with(fail)
            go_cut [136] (fun akh P=>∃b:Bool,akh=.bool b/\Hid (b=false->0<j/\ee=true)/\St K P (aL bm bc (bT d L' (row.take (j+1))) acc::blk bp (.cells #[.int .i64 nd.pg.aA,.slice sa nd.pg.sl.length sc,.string nd.pg.hi,.bool nd.pg.la,.int .u64 nd.pg.ri] 43)::az (.slice N A.length O) 69 2 A.length (aF A)::az (.slice (some ⟨gp,0,none⟩) ps.length pc) 3 1 ps.length (gK ps)::az (.slice D S.length co) 69 2 S.length (aF S)::blk E (.cells #[.int .i64 d.th,.int .i64 d.sn,.int .i64 d.no,.int .i64 d.ch,.int .i64 d.re,.int .i64 d.fa,.int .u64 d.cl] 26)::az (.slice ka i kc) 9 1 i (bO ks)::F))
            case first=>
             as_aux_lemma=>
             by_cases hj0:j=0
             ·subst hj0
              go_wp2
              go_meet;exact⟨true,rfl,ass (fun h=>by cases h),r⟩
             ·have Yo:0<j:=by omega
              cases ee with
              | false=>
               go_wp2
               go_meet;exact⟨true,rfl,ass (fun h=>by cases h),r⟩
              | true=>
               go_wp2
               go_meet;exact⟨_,rfl,ass (fun _=>⟨Yo,by first|rfl|trivial⟩),r⟩
            case rest=>
             clear r;obtain⟨b,rfl,Hb,r⟩:=hcut;apply_assumption
             go_cut [16] (fun v16 P=>∃(A':List Sl) (ao3:Option Addr) (co3:Nat),v16=.slice ao3 A'.length co3/\Hid (iA row (j+1) A' ee)/\St K P (aL bm bc (bT d L' (row.take (j+1))) acc::blk bp (.cells #[.int .i64 nd.pg.aA,.slice sa nd.pg.sl.length sc,.string nd.pg.hi,.bool nd.pg.la,.int .u64 nd.pg.ri] 43)::az (.slice ao3 A'.length co3) 69 2 A'.length (aF A')::az (.slice (some ⟨gp,0,none⟩) ps.length pc) 3 1 ps.length (gK ps)::az (.slice D S.length co) 69 2 S.length (aF S)::blk E (.cells #[.int .i64 d.th,.int .i64 d.sn,.int .i64 d.no,.int .i64 d.ch,.int .i64 d.re,.int .i64 d.fa,.int .u64 d.cl] 26)::az (.slice ka i kc) 9 1 i (bO ks)::F))
             case first=>
              as_aux_lemma=>
              cases b with
              | false=>
               go_wp2
               go_meet;exact⟨A,N,O,rfl,ass (HR.out.2.1.skip (Hb.out (by first|rfl|trivial)).1 (Hb.out (by first|rfl|trivial)).2),r⟩
              | true=>
               have e0:kj nd=⟨low,(nx:Int)+j⟩:=by unfold kj;rw[HR.out.2.2 nd Ot.out,Hid'.out]
               have E0:=ass e0;clear e0;go_wp2_with (at_builtin;refine dM _ _ 41 69 _ A.length 2 24 _ (iz ⟨low,(nx:Int)+j⟩) (.agg #[.string ⟨#[]⟩,.int .u64 0]) iv r.b2 rfl rfl Tryz.underlying41 lO.out lQ.out lR.out lS.out rfl (by decide) rfl rfl rfl (fun u hu=>by simp[iz]at hu;rcases hu with rfl|rfl <;> rfl) (by omega) (by decide) ?_)
               clear r;intro v' w' r;obtain⟨ao3,co3,hv,_,_⟩:=r.aJ;subst hv;go_wp2
               go_meet;exact⟨A++[kj nd],ao3,co3,by rw[List.length_append];rfl,ass (HR.out.2.1.push Ec.out.1 Ot.out),by rw[List.length_append,E0.out,vo];exact r.re [1,2,0] rfl⟩
             case rest=>
              clear r;obtain⟨A',ao3,co3,rfl,HA',r⟩:=hcut;have kp:=r.k1;have aki:A'.length<=j+1:=HA'.out.len;have afo:∀jD,row[j+1]?=some jD->jD.low=nd.pg.hi:=fun jD h=>((Ec.out.1.next j nd jD Ot.out h).2.1).symm
              have akj:=ass afo;clear afo;go_wp2
              go_roundw
              case rel=>exact⟨j+1,fr+p,A',ao3,co3,nd.pg.hi,rfl,rfl,by go_num,by go_num,by omega,hfp,aki,ass ⟨by rw[ij Hpj.out,HR.out.1],HA'.out,akj.out⟩,(r.re [1,2,3,0] rfl).tail⟩
              case measure=>simp[intOf];omega
        ·obtain rfl:j=ps.length:=by omega
         have acP:((nx+ps.length:Nat):Int)<=d.no+1:=by
          have yE:=Hno.out;rcases Nat.eq_zero_or_pos aA with h|h
          ·have:=v.out.z h;have:=(HQ.out.2.2.1 h).2;omega
          ·have h1:=v.out.p h
           have h2:=HQ.out.2.2.2 h;have h3:S.length<=2\/3<=S.length:=by omega
           rcases h3 with h3|h3
           ·have:=Jb S.length acO;omega
           ·have h4:=Lf S.length acO h3
            have h5:=Jb ((S.length+1) / 2) (by omega)
            omega
         have aaP:t≠[]->2*ps.length<=S.length+1:=fun hne=>by
          have h0:0<aA:=by rw[←v.out.tl];exact List.length_pos_iff.2 hne
          have:=HQ.out.2.2.2 h0;omega
         have R:=v.out.pi.step J.out (A:=A) HQ.out.1 HQ.out.2.1 v.out.nx1 acP (by rw[v.out.tl];omega) (by rw[←aaO.out];exact HR.out.2.1) aaP (fun hne=>HT2.out (by rw[←v.out.tl];exact List.length_pos_iff.2 hne)) v.out.many
         clear aaP;rw[←aaO.out]at R;have kK:row.take ps.length=row:=by rw[←Ec.out.2,List.take_length]
         rw[kK]at r;have Hst:=ass R;have apm:=ass acP;clear R kK acP;by_cases V:ps.length=1
         ·have hn1:nx+1<=101:=by
           rcases Nat.eq_zero_or_pos aA with h|h
           ·have:=v.out.z h;omega
           ·have:=v.out.p h;have:=Jb S.length acO;omega
          obtain⟨nd,Vc⟩:∃nd,row=[nd]:=List.length_eq_one_iff.1 (by rw[Ec.out.2];exact V)
          have HX:Hid (oV d ks ee (aR (aR (bT d L' row) 0 ⟨nx,⟨#[]⟩,0⟩) 4 ⟨nx,⟨#[]⟩,0⟩) (t++[row])):=ass (by
           have hcn:nk ⟨nx,⟨#[]⟩,0⟩:=⟨by show(0:Int)<=nx;omega,by show(nx:Int)<_;omega⟩
           have hlen:(bT d L' row).length=L'.length:=jE _ _;have G:=v.out.pi.fq;have hcells:=J.out.eF;have hA8:=J.out.eN;have hB8:=J.out.jZ;have hC8:=J.out.oD;have hz:(row[0]?)=some nd:=by rw[Vc];rfl
           obtain⟨_,_,hid,_⟩:=Hat.out 0 nd hz;have R:=Hst.out;rw[V]at R;refine R.last J.out (nd:=nd) (by rw[List.length_append,Vc];simp) (by rw[hid];push_cast;omega) hn1 ?_ ?_ (fun k hk hk4=>by rw[bu (by omega),bu (by omega)]) ((R.iq.put hcn).put hcn) (by rw[bg,bg])
           ·rw[bu (by omega),cD (by omega) (by rw[hlen];omega)]
            push_cast;omega
           ·rw[cD (by omega) (by rw[bg,hlen];omega)]
            push_cast;omega)
          have Hlt:=ass (show(t++[row]).length=aA+1 by rw[List.length_append,v.out.tl];rfl)
          have r:=r.b2;clear Vc hn1;go_wp2_with fail
          refine(gM (i:=0) (c:=⟨nx,⟨#[]⟩,0⟩) r).mono ?_
          clear r;rintro e w7 ⟨rfl,r⟩;go_wp2_with fail
          refine(gM (i:=4) (c:=⟨nx,⟨#[]⟩,0⟩) r).mono ?_
          clear r;rintro e w8 ⟨rfl,r⟩;go_wp2
          go_ret;exact⟨t++[row],_,by rw[Hlt.out];push_cast;rfl,HX,(r.re [1,2,3,4,0] rfl).tail.tail.tail.tail⟩
         ·have hAp:A.length<=ps.length:=HR.out.2.1.len
          have HN:=ass (v.out.next HQ.out.1 (fun h=>(HQ.out.2.2.1 h).2) HQ.out.2.2.2 V hAp (by rw[List.length_append,v.out.tl];rfl) Hst.out (fun l hl=>by
           rw[List.length_append,List.length_singleton,Nat.add_sub_cancel,List.getElem?_append_right (Nat.le_refl _),Nat.sub_self]at hl;obtain rfl:row=l:=by simpa using hl
           rw[Ec.out.2];have:=HQ.out.1.ne;omega))
          have hms:A.length<S.length+(if (aA:Int)=0 then 1 else 0):=by
           obtain⟨h1,h2⟩:=v.out.vv HQ.out.1 (fun h=>(HQ.out.2.2.1 h).2) HQ.out.2.2.2 V
           split
           ·omega
           ·have:=(h2 (by omega)).2;omega
          have Hms:=ass hms;clear hms;go_wp2
          go_roundw
          case rel=>exact⟨_,nx+ps.length,aA+1,A,t++[row],N,O,bT d L' row,rfl,rfl,by go_num,by go_num,by omega,by omega,HN,(r.re [1,3,2,0] rfl).tail.tail⟩
          case measure=>
           have h:=Hms.out;simp only[aaM,intOf];have e0:¬ ((aA:Int)+1=0):=by omega
           by_cases hl:(aA:Int)=0
           ·simp only[e0,hl,if_true,if_false]at h ⊢
            simp at h ⊢;omega
           ·simp only[e0,hl,if_false]at h ⊢;omega
end
end
section
section
variable {K:aM}{w:World}{F:List aC}{b bm bc:Nat}{d:aU}{L:List aQ}{acc:Nat}{key:ByteArray}{level:Nat}{s:pR}{t:List (List Nd)}{m:Nat}
end
theorem vw {d:aU}(c:d.Ok)(j:Int)(h:nT d j):ah (cB d) j=aQ.zero:=by
 have e:=c.fy;have g:=c.eN;have hB:=c.jZ;have hl:=(iH d c).2.2 j (by rcases h with h|h <;> omega)
 rw[hl,if_neg (h.node c (by omega) c.Ke (by omega) (by omega)),if_neg (by rcases h with h|h <;> omega),if_neg (by rcases h with h|h <;> omega)]
theorem xP {d:aU}(c:d.Ok)(id:Int)(g:1<=id)(i:id<=d.no):ah (cB d) (d.node id 0)=aQ.zero:=by
 have j:=c.fy;have n0:=bZ c g i (k:=0) (by omega) (by omega)
 have l:=c.eN;have n:0<=(id-1)*(d.fa+4):=Int.mul_nonneg (by omega) (by omega)
 have hl:=(iH d c).2.2 (d.node id 0) n0.2.1;rw[hl];split
 ·rename_i h
  exfalso
  by_cases e:id=1
  ·subst e;exact dH c g i (k:=0) (k' := 2) (by omega) (by omega) (by omega) (by omega) (by omega) h
  ·exact cO c g i (by omega) c.Ke (k:=0) (k' := 2) (by omega) (by omega) (by omega) (by omega) e h
 ·split
  ·omega
  ·split
   ·omega
   ·rfl
section
variable {w0 w:World}{F:List aC}{a:Option Addr}{len cap:Nat}{f:Nat->ByteArray}{fanout sh:Int}{ee:Bool}
end
section
variable {K:aM}{w:World}{cs:List aC}
end
theorem qK:∀t:List (List Nd),(∀l,l∈t->0<l.length)->t.length<=(t.map List.length).sum
 | [],_=>Nat.le_refl _
 | l::t,h=>by
  have:=qK t (fun x c=>h x (List.mem_cons_of_mem _ c))
  have:=h l List.mem_cons_self;simp only[List.length_cons,List.map_cons,List.sum_cons];omega
theorem cT.wM {d:aU}{L:List aQ}{t:List (List Nd)}(c:cT d L t)(e:d.Ok):t.length<=4096:=by
 refine Nat.le_trans (qK t fun l hl=>?_) (by have:=c.count;have:=c.n4;have:=e.m6;omega)
 obtain⟨k,hk⟩:=ast hl;exact(c.rows k l hk).ne
theorem wN {K:aM}{w:World}{F:List aC}{d:aU}{L:List aQ}{t:List (List Nd)}{g:Nat}(h:d.Ok)(c:cT d L t)(hl:(L.length:Int)=d.cells)(o:K.map g=some (.cells (flat L).toArray 63))(p:St K w F) :
  Calls Tryz.prog 26 #[.agg #[.int .i64 (d).th,.int .i64 (d).sn,.int .i64 (d).no,.int .i64 (d).ch,.int .i64 (d).re,.int .i64 (d).fa,.int .u64 (d).cl,.slice (some ⟨g,0,none⟩) L.length L.length]] w fun e w' => e=.returned (.int .i64 t.length)/\St K w' F:=by
 have q:=h.eF;have r:=c.wM h;have h0:=c.ne;obtain⟨nd,rest,n,i⟩:=c.top;have j:=c.nodes _ _ n nd List.mem_cons_self;have u:=(c.rows _ _ n).aA nd List.mem_cons_self;refine(wB (pg:=nd.pg) h (by rw[i];exact j.id.1) (by rw[i];exact j.id.2) (by rw[i];exact j.page) (by omega) o (by omega) p).mono ?_
 rintro e w' ⟨rfl,l⟩;refine⟨?_,l⟩;rw[show nd.pg.aA+1=(t.length:Int)by omega]
end
section
theorem sK {x:Int}(h:x%4=0):aT x=x+1:=by
 unfold aT;rw[if_pos (by omega)]
theorem kU {x:Int}(h:x%4=0):aH (x+1)=x:=by
 unfold aH;omega
section
variable {d:aU}{L:List aQ}{t:List (List Nd)}{key:ByteArray}{level:Nat}{s:xI}{L1:List aQ}{m:Nat}
end
end
end Go.Proofs.YtlpdhhhgckpcfaaGreat
