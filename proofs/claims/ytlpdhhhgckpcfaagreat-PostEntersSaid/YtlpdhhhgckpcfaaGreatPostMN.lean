/- The machine post.Post as a transiti. -/
import Derived.Test.YtlpdhhhgckpcfaaGreatPostS
namespace Go.Proofs.YtlpdhhhgckpcfaaGreat
set_option linter.unusedSimpArgs false
set_option linter.unusedVariables false
open Go.RowKit
set_option maxRecDepth 100000
section
structure eE where
 pc:Nat
 f:j8
 lk:vB
 fr:cm
 ins:fT
 aq:oZ
 root:Int
 word:Int
 tk:iB
 id:Int
 k:Nat
def eE.fu (s:eE):Pg:=aZ s.fr.pg s.f.sep s.f.ch
def eE.left (s:eE):cm:=if s.ins.full then s.fr else⟨s.fr.id,dM (bE s.fr.word),s.ins.pg s.fu⟩
def eE.right (s:eE):cm:=s.ins.right s.fu
def eE.Yl (s:eE):ByteArray:=if s.ins.sp then bN s.fu else⟨#[]⟩
def eE.ps (d:aR)(s:eE):List Pt:=⟨d.node s.id 0,⟨aN 0,⟨#[]⟩,0⟩⟩::bP d s.id (fk s.f.ak s.root)
def j8.end (p:j8)(x:Bool):j8:=⟨p.ak,p.sep,p.ch,x⟩
def gK (d:aR)(L:List aO)(s:eE):List aO:=match s.pc with
 | 0=>(aK d s.f.sep s.f.ak L s.lk).2
 | 1=>bT d L s.ins
 | 2=>aP L (d.node s.left.id 0) ⟨aG s.left.word,⟨#[]⟩,0⟩
 | 3=>aP L (d.node s.right.id 0) ⟨aG s.right.word,⟨#[]⟩,0⟩
 | 4=>aP L (d.node s.fr.id 0) ⟨aG s.fr.word,⟨#[]⟩,0⟩
 | 5=>(bM 7 L s.aq).2
 | 8=>aP L 7 ⟨aG s.word,⟨#[]⟩,0⟩
 | 9=>(aF 4 d.no L s.tk).2
 | 10=>match (s.ps d)[s.k]? with
  | some pt=>aP L pt.i pt.c
  | none=>L
 | 11=>aP L (d.node s.id 0) ⟨aG (aN 0),⟨#[]⟩,0⟩
 | 12=>aP L 0 ⟨s.id,⟨#[]⟩,0⟩
 | 13=>aP L 7 ⟨aG s.word,⟨#[]⟩,0⟩
 | _=>L
def pJ (d:aR)(L:List aO)(s s':eE):Prop:=match s.pc with
 | 0=>((aK d s.f.sep s.f.ak L s.lk).1.pc≠4/\s' = { s with lk:=(aK d s.f.sep s.f.ak L s.lk).1 }) \/
   ((aK d s.f.sep s.f.ak L s.lk).1.pc=4/\(((aK d s.f.sep s.f.ak L s.lk).1.h.id=0/\s' = { s with pc:=5,lk:=(aK d s.f.sep s.f.ak L s.lk).1,aq:=mL }) \/
    ((aK d s.f.sep s.f.ak L s.lk).1.h.id≠0/\gD (aK d s.f.sep s.f.ak L s.lk).1.h.pg.sl s.f.sep<iE (aK d s.f.sep s.f.ak L s.lk).1.h.pg.sl s.f.sep/\s' = { s with pc:=4,lk:=(aK d s.f.sep s.f.ak L s.lk).1,fr:=(aK d s.f.sep s.f.ak L s.lk).1.h }) \/
    ((aK d s.f.sep s.f.ak L s.lk).1.h.id≠0/\¬ gD (aK d s.f.sep s.f.ak L s.lk).1.h.pg.sl s.f.sep<iE (aK d s.f.sep s.f.ak L s.lk).1.h.pg.sl s.f.sep/\∃ins,pz d (aK d s.f.sep s.f.ak L s.lk).1.h (aZ (aK d s.f.sep s.f.ak L s.lk).1.h.pg s.f.sep s.f.ch) ins/\s' = { s with pc:=1,lk:=(aK d s.f.sep s.f.ak L s.lk).1,fr:=(aK d s.f.sep s.f.ak L s.lk).1.h,ins:=ins })))
 | 1=>∃ins',iC d s.fr s.fu L s.ins ins' /\ ((ins'.pc<3/\s' = { s with ins:=ins' })\/(3<=ins'.pc/\s' = { s with pc:=2,ins:=ins' }))
 | 2=>(s.ins.full=true/\s' = { s with pc:=14,f:=s.f.end false })\/(s.ins.full=false/\s.right.id=0/\s' = { s with pc:=14,f:=s.f.end true })\/(s.ins.full=false/\s.right.id≠0/\s' = { s with pc:=3 })
 | 3=>s' = { s with pc:=0,f:=⟨s.f.ak+1,s.Yl,s.right.id,s.f.po⟩,lk:=oA }
 | 4=>s' = { s with pc:=14,f:=s.f.end true }
 | 5=>((bM 7 L s.aq).1.pc≠2/\s' = { s with aq:=(bM 7 L s.aq).1 })\/((bM 7 L s.aq).1.pc=2/\s' = { s with pc:=6,aq:=(bM 7 L s.aq).1 })
 | 6=>s' = { s with pc:=7,root:=(ah L 0).n }
 | 7=>(s.f.ak<=(ah L (d.node s.root 1)).m/\s' = { s with pc:=8,word:=s.aq.word })\/(¬ s.f.ak<=(ah L (d.node s.root 1)).m/\s' = { s with pc:=9,word:=s.aq.word,tk:=⟨0,0,false⟩ })
 | 8=>s' = { s with pc:=0,lk:=oA }
 | 9=>((aF 4 d.no L s.tk).1.pc<2/\s' = { s with tk:=(aF 4 d.no L s.tk).1 }) \/
   (2<=(aF 4 d.no L s.tk).1.pc/\(aF 4 d.no L s.tk).1.ok=false/\s' = { s with pc:=13,tk:=(aF 4 d.no L s.tk).1 }) \/
   (2<=(aF 4 d.no L s.tk).1.pc/\(aF 4 d.no L s.tk).1.ok=true/\s' = { s with pc:=10,tk:=(aF 4 d.no L s.tk).1,id:=(aF 4 d.no L s.tk).1.seen+1,k:=0 })
 | 10=>(s.k+1≠(s.ps d).length/\s' = { s with k:=s.k+1 })\/(s.k+1=(s.ps d).length/\s' = { s with pc:=11,k:=s.k+1 })
 | 11=>s' = { s with pc:=12 }
 | 12=>s' = { s with pc:=8 }
 | 13=>s' = { s with pc:=14,f:=s.f.end false }
 | _=>s'=s
def fM (d:aR)(b:Nat)(s:eE)(C:List aC):Prop:=match s.pc with
 | 0=>∃b2 b3 b5 bk iY bB Ck,lC d s.f.sep s.f.ak bk s.lk Ck/\C=blk b (.cells ((aW (some (aA b2 b3 b5))) :: .bool true::bg d s.f).toArray 167)::bG b2 b3 b5 (.iface 37 (.pointer (some ⟨bk,0,none⟩))) (jo iY bB)::([blk iY (.cells #[(.pointer (some ⟨bk,0,none⟩))] 37),blk bB (.cells #[(.pointer (some ⟨b,0,none⟩))] 100)]++Ck)
 | 1=>∃b2 b3 b5 bi bB ee Ci,kP d s.fr s.fu bi s.ins Ci/\C=blk b (.cells ((aW (some (aA b2 b3 b5))) :: .bool true::bg d s.f).toArray 167)::bG b2 b3 b5 (.iface 82 (.pointer (some ⟨bi,0,none⟩))) (mg bB ee)::([blk bB (.cells #[(.pointer (some ⟨b,0,none⟩))] 100),blk ee (.cells #[(.pointer (some ⟨bi,0,none⟩))] 82)]++Ci)
 | 2=>∃b2 b3 b5 br jf jg bB ee bi x,yS s.fr s.fu s.ins x/\C=blk b (.cells ((aW (some (aA b2 b3 b5))) :: .bool true::bg d s.f).toArray 167)::bG b2 b3 b5 (.iface 47 (.pointer (some ⟨br,0,none⟩))) (kE ee bB)::([blk bB (.cells #[(.pointer (some ⟨b,0,none⟩))] 100),blk ee (.cells #[(.pointer (some ⟨bi,0,none⟩))] 82),bz bi .nilFunc d x,bu x.vl x.le.pg,bu x.vr x.ri.pg]++fe br jf jg (d.node s.left.id 0) s.left.word 0)
 | 3=>∃b2 b3 b5 br jf jg bB ee bi x,yS s.fr s.fu s.ins x/\C=blk b (.cells ((aW (some (aA b2 b3 b5))) :: .bool true::bg d s.f).toArray 167)::bG b2 b3 b5 (.iface 47 (.pointer (some ⟨br,0,none⟩))) (jP bB ee)::([blk bB (.cells #[(.pointer (some ⟨b,0,none⟩))] 100),blk ee (.cells #[(.pointer (some ⟨bi,0,none⟩))] 82),bz bi .nilFunc d x,bu x.vr x.ri.pg]++fe br jf jg (d.node s.right.id 0) s.right.word 0)
 | 4=>∃b2 b3 b5 br jf jg bB,C=blk b (.cells ((aW (some (aA b2 b3 b5))) :: .bool true::bg d s.f).toArray 167)::bG b2 b3 b5 (.iface 47 (.pointer (some ⟨br,0,none⟩))) (Kw bB)::([blk bB (.cells #[(.pointer (some ⟨b,0,none⟩))] 100)]++fe br jf jg (d.node s.fr.id 0) s.fr.word 0)
 | 5=>∃b2 b3 b5 ba bB eU,C=blk b (.cells ((aW (some (aA b2 b3 b5))) :: .bool true::bg d s.f).toArray 167)::bG b2 b3 b5 (.iface 175 (.pointer (some ⟨ba,0,none⟩))) (y7 bB eU)::([blk bB (.cells #[(.pointer (some ⟨b,0,none⟩))] 100),blk eU (.cells #[(.pointer (some ⟨ba,0,none⟩))] 175)]++[fS ba 7 s.aq])
 | 6=>∃ba bB eU,C=blk b (.cells ((aW (some (Dj bB eU))) :: .bool true::bg d s.f).toArray 167)::[blk bB (.cells #[(.pointer (some ⟨b,0,none⟩))] 100),blk eU (.cells #[(.pointer (some ⟨ba,0,none⟩))] 175),fS ba 7 s.aq]
 | 7=>∃ba bB eU jO,C=blk b (.cells ((aW (some (Dk bB jO eU))) :: .bool true::bg d s.f).toArray 167)::[blk bB (.cells #[(.pointer (some ⟨b,0,none⟩))] 100),blk jO (.cells #[.int .u64 s.root] 23),blk eU (.cells #[(.pointer (some ⟨ba,0,none⟩))] 175),fS ba 7 s.aq]
 | 8=>∃b2 b3 b5 br jf jg,C=blk b (.cells ((aW (some (aA b2 b3 b5))) :: .bool true::bg d s.f).toArray 167)::bG b2 b3 b5 (.iface 47 (.pointer (some ⟨br,0,none⟩))) (Tp b)::([]++fe br jf jg 7 s.word 0)
 | 9=>∃b2 b3 b5 bt xA bB fj jO,C=blk b (.cells ((aW (some (aA b2 b3 b5))) :: .bool true::bg d s.f).toArray 167)::bG b2 b3 b5 (.iface 156 (.pointer (some ⟨bt,0,none⟩))) (y8 xA bB fj jO)::([blk xA (.cells #[(.pointer (some ⟨bt,0,none⟩))] 156),blk bB (.cells #[(.pointer (some ⟨b,0,none⟩))] 100),blk fj (.cells #[.int .u64 s.word] 23),blk jO (.cells #[.int .u64 s.root] 23)]++[gL bt 4 d.no s.tk])
 | 10=>∃b2 b3 b5 bf bF g cap av cv bB jn gR fj,C=blk b (.cells ((aW (some (aA b2 b3 b5))) :: .bool true::bg d s.f).toArray 167)::bG b2 b3 b5 (.iface 74 (.pointer (some ⟨bf,0,none⟩))) (tu bB jn gR fj)::([blk jn (.cells #[(.pointer (some ⟨bf,0,none⟩))] 74),blk gR (.cells #[.int .u64 s.id] 23),blk bB (.cells #[(.pointer (some ⟨b,0,none⟩))] 100),blk fj (.cells #[.int .u64 s.word] 23)]++Ip bf bF s.id (fk s.f.ak s.root) (.slice av (fk s.f.ak s.root).sl.length cv) g cap (s.ps d) s.k)
 | 11=>∃b2 b3 b5 br jf jg bB gR fj,C=blk b (.cells ((aW (some (aA b2 b3 b5))) :: .bool true::bg d s.f).toArray 167)::bG b2 b3 b5 (.iface 47 (.pointer (some ⟨br,0,none⟩))) (mm bB gR fj)::([blk bB (.cells #[(.pointer (some ⟨b,0,none⟩))] 100),blk gR (.cells #[.int .u64 s.id] 23),blk fj (.cells #[.int .u64 s.word] 23)]++fe br jf jg (d.node s.id 0) (aN 0) 0)
 | 12=>∃bB gR fj,C=blk b (.cells ((aW (some (Tq bB gR fj))) :: .bool true::bg d s.f).toArray 167)::[blk bB (.cells #[(.pointer (some ⟨b,0,none⟩))] 100),blk gR (.cells #[.int .u64 s.id] 23),blk fj (.cells #[.int .u64 s.word] 23)]
 | 13=>∃b2 b3 b5 br jf jg bB,C=blk b (.cells ((aW (some (aA b2 b3 b5))) :: .bool true::bg d s.f).toArray 167)::bG b2 b3 b5 (.iface 47 (.pointer (some ⟨br,0,none⟩))) (Kz bB)::([blk bB (.cells #[(.pointer (some ⟨b,0,none⟩))] 100)]++fe br jf jg 7 s.word 0)
 | _=>C=[blk b (.cells (.nilFunc :: .bool true::bg d s.f).toArray 167)]
structure eE.Ok (d:aR)(L:List aO)(s:eE):Prop where
 pc:s.pc<=13
 ak:0<=s.f.ak/\s.f.ak<1000
 lk:s.pc=0->s.lk.Ok d s.f.sep s.f.ak L/\s.lk.h=l6/\(aK d s.f.sep s.f.ak L s.lk).1.pc<=4/\((aK d s.f.sep s.f.ak L s.lk).1.pc=4->(aK d s.f.sep s.f.ak L s.lk).1.h.pg.sl.length<=1000000 /\
  ((aK d s.f.sep s.f.ak L s.lk).1.h.id≠0->(aK d s.f.sep s.f.ak L s.lk).1.h.Ok d/\kV (aK d s.f.sep s.f.ak L s.lk).1.h.pg.sl/\(¬ gD (aK d s.f.sep s.f.ak L s.lk).1.h.pg.sl s.f.sep<iE (aK d s.f.sep s.f.ak L s.lk).1.h.pg.sl s.f.sep->lB d (aK d s.f.sep s.f.ak L s.lk).1.h (aZ (aK d s.f.sep s.f.ak L s.lk).1.h.pg s.f.sep s.f.ch))))
 ins:s.pc=1->s.fr.Ok d/\lB d s.fr s.fu/\s.ins.Ok d s.fu
 left:s.pc=2->(0<=s.left.word/\s.left.word<18446744073709551616)/\s.right.pg.sl.length<=1000000/\(0<=s.right.id/\s.right.id<18446744073709551616)
 right:s.pc=3->(0<=s.right.word/\s.right.word<18446744073709551616)/\s.right.pg.sl.length<=1000000
 found:s.pc=4->0<=s.fr.word/\s.fr.word<18446744073709551616
 acq:s.pc=5->s.aq.Ok/\s.aq.pc≠2
 root:s.pc=7->(0<=s.root/\s.root<18446744073709551616)/\s.aq.pc=2/\(0<=(ah L (d.node s.root 1)).m/\(ah L (d.node s.root 1)).m<1000000)
 word:s.pc=8\/s.pc=13->0<=s.word/\s.word<18446744073709551616
 take:s.pc=9->s.tk.pc<2/\(s.tk.pc=1->0<=s.tk.seen/\s.tk.seen<18446744073709551615)/\((aF 4 d.no L s.tk).1.ok=true->0<=(aF 4 d.no L s.tk).1.seen/\(aF 4 d.no L s.tk).1.seen<18446744073709551615)
 fresh:s.pc=10->s.k<(s.ps d).length/\(0<=s.id/\s.id<18446744073709551616)
theorem Dl (n : Nat) (a : Addr) (w : World) : (method (n + 1) 37 (.pointer (some a)) "Step").run Tryz.prog w = .ok (18, .pointer (some a)) w := by kernel_rfl
theorem wm (n : Nat) (a : Addr) (w : World) : (method (n + 1) 82 (.pointer (some a)) "Step").run Tryz.prog w = .ok (48, .pointer (some a)) w := by kernel_rfl
section
variable {K:aL}{w:World}{F:List aC}{b bm bc acc:Nat}{d:aR}{L:List aO}{s:eE}{C:List aC}
def fN (K:aL)(b bm bc:Nat)(d:aR)(L:List aO)(acc:Nat)(s:eE)(F:List aC)(e:Ending)(w':World):Prop:=
 ∃s' C',e=.returned (.bool (decide (14<=s'.pc)))/\pJ d L s s' /\ fM d b s' C' /\ St K w' (C' ++ aJ bm bc (gK d L s) (acc+1)::F)
def Tr (K:aL)(b bm bc:Nat)(d:aR)(L:List aO)(acc:Nat)(s:eE)(nx:Value)(F:List aC)(e:Ending)(w':World):Prop:=
 ∃(o:Option FV) (C2:List aC) (s':eE),e=.returned (aW o)/\pJ d L s s' /\ o.isNone=decide (14<=s'.pc)/\fM d b s' (blk b (.cells ((aW o) :: .bool true::bg d s'.f).toArray 167)::C2)/\St K w' (blk b (.cells (nx :: .bool true::bg d s'.f).toArray 167)::(C2++aJ bm bc (gK d L s) (acc+1)::F))
theorem Ts {fv:FV}(hf:Enters fv.f)(hc:w.cell? ⟨b,0,none⟩=some (aW (some fv)))(h:Calls Tryz.prog fv.f (fv.x ++ #[(.pointer (some ⟨bm,0,none⟩))]++fv.y) w (Tr K b bm bc d L acc s (aW (some fv)) F)):Calls Tryz.prog 77 #[(.pointer (some ⟨b,0,none⟩)),(.pointer (some ⟨bm,0,none⟩))] w (fN K b bm bc d L acc s F):=by
 refine(ic (K:=K) (α:={ x:Option FV × List aC × eE // pJ d L s x.2.2/\x.1.isNone=decide (14<=x.2.2.pc)/\fM d b x.2.2 (blk b (.cells ((aW x.1) :: .bool true::bg d x.2.2.f).toArray 167)::x.2.1) })
  (f:=fv) (o:=fun x=>x.1.1) (nx:=aW (some fv)) (tl:=fun x=> .bool true::bg d x.1.2.2.f) (F' := fun x=>x.1.2.1++aJ bm bc (gK d L s) (acc+1)::F) (T:=167) hf hc (h.mono ?_)).mono ?_
 ·rintro e w1 ⟨o,C2,s',he,h1,h2,h3,hs⟩
  exact⟨⟨(o,C2,s'),h1,h2,h3⟩,he,hs⟩
 ·rintro e w1 ⟨⟨⟨o,C2,s'⟩,h1,h2,h3⟩,he,hs⟩
  exact⟨s',_,by rw[he,show o.isNone=decide (14<=s'.pc)from h2],h1,h3,hs⟩
theorem j9 {b2 b3 b5:Nat}{T2:TypeId}{xv:Value}{g f:Nat}{tx ty:Array Value}{V Cm:List aC}{R:Bool->List aC->Prop}
  (hin:kD K bm bc g xv L acc Cm (gK d L s) (acc+1) R)
  (hm : ∀ (n : Nat) (w : World), (method (n + 1) T2 xv "Step").run Tryz.prog w = .ok (g, xv) w) (hg : Enters g) (hf : Enters f)
  (hnext:∀(C':List aC) (w:World) (F:List aC),R true C' -> St K w (blk b (.cells ((aW (some (aA b2 b3 b5))) :: .bool true::bg d s.f).toArray 167)::(V++(C' ++ aJ bm bc (gK d L s) (acc+1)::F)))->Calls Tryz.prog f (tx++ty) w (Tr K b bm bc d L acc s (aW (some (aA b2 b3 b5))) F))
  (hstay:∀C',R false C' -> ∃s',pJ d L s s' /\ s'.pc<14/\fM d b s' (blk b (.cells ((aW (some (aA b2 b3 b5))) :: .bool true::bg d s.f).toArray 167)::bG b2 b3 b5 (.iface T2 xv) (.func (.func f) tx ty)::(V++C')))
  (hs:St K w (blk b (.cells ((aW (some (aA b2 b3 b5))) :: .bool true::bg d s.f).toArray 167)::bG b2 b3 b5 (.iface T2 xv) (.func (.func f) tx ty)::(V++(Cm++aJ bm bc L acc::F)))) :
  Calls Tryz.prog 77 #[(.pointer (some ⟨b,0,none⟩)),(.pointer (some ⟨bm,0,none⟩))] w (fN K b bm bc d L acc s F):=by
 refine(kD.nD (R:=R) (R2:=fun o oy C2=>∃s',oy=.bool true::bg d s'.f/\pJ d L s s' /\ o.isNone=decide (14<=s'.pc)/\fM d b s' (blk b (.cells ((aW o) :: .bool true::bg d s'.f).toArray 167)::C2)) hin hm hg hf (fun C' w F hR hs=>(hnext C' w F hR hs).mono ?_) w F hs).mono ?_
 ·rintro e w2 ⟨o,C2,s',he,h1,h2,h3,hs2⟩
  exact⟨o,_,C2,he,⟨s',rfl,h1,h2,h3⟩,hs2⟩
 ·rintro e w' ⟨o,oy,C2,he,hs',⟨rfl,rfl,C',hR,rfl⟩|⟨s',rfl,h1,h2,h3⟩⟩
  ·obtain⟨s',h1,h2,h3⟩:=hstay C' hR
   refine⟨s',_,?_,h1,h3,hs'⟩;rw[he,decide_eq_false (by omega)]
   rfl
  ·exact⟨s',_,by rw[he,h2],h1,h3,hs'⟩
end
section
variable {K:aL}{w:World}{F:List aC}{b bm bc acc:Nat}{d:aR}{L:List aO}{f:j8}{lk:vB}{fr:cm}{ins:fT}{aq:oZ}{root word:Int}{tk:iB}{id:Int}{k:Nat}{C:List aC}
theorem abW (hd:d.Ok)(hL:bD L)(ha:acc<=1000000000000)(hok:eE.Ok d L ⟨0,f,lk,fr,ins,aq,root,word,tk,id,k⟩)(cS:fM d b ⟨0,f,lk,fr,ins,aq,root,word,tk,id,k⟩ C)(hs:St K w (C++aJ bm bc L acc::F)):Calls Tryz.prog 77 #[(.pointer (some ⟨b,0,none⟩)),(.pointer (some ⟨bm,0,none⟩))] w (fN K b bm bc d L acc ⟨0,f,lk,fr,ins,aq,root,word,tk,id,k⟩ F):=by
 obtain⟨b2,b3,b5,bk,iY,bB,Ck,hlk,rfl⟩:=cS;obtain⟨k1,k2,k3,k4⟩:=hok.lk rfl;simp only at k1 k2 k3 k4 hlk hs;have hs:St K w (blk b (.cells ((aW (some (aA b2 b3 b5))) :: .bool true::bg d f).toArray 167)::bG b2 b3 b5 (.iface 37 (.pointer (some ⟨bk,0,none⟩))) (jo iY bB)::([blk iY (.cells #[(.pointer (some ⟨bk,0,none⟩))] 37),blk bB (.cells #[(.pointer (some ⟨b,0,none⟩))] 100)]++(Ck++aJ bm bc L acc::F))):=by simpa using hs
 refine j9 (V:=[blk iY (.cells #[(.pointer (some ⟨bk,0,none⟩))] 37),blk bB (.cells #[(.pointer (some ⟨b,0,none⟩))] 100)]) (Cm:=Ck) (R:=fun fin C' => fin=decide (4<=(aK d f.sep f.ak L lk).1.pc)/\lC d f.sep f.ak bk (aK d f.sep f.ak L lk).1 C')
  (fun w F hs=>?_) (fun n w=>Dl n _ w) (fun _ _=>by kernel_rfl) (fun _ _=>by kernel_rfl) ?_ ?_ hs
 ·refine(Cu hd hL ha k1 k2 hlk hs).mono ?_
  rintro e w' ⟨C',rfl,hr',hs'⟩;exact⟨_,C',rfl,⟨rfl,hr'⟩,hs'⟩
 ·rintro C' w1 F1 ⟨dB,hr⟩ hs
  have h4:(aK d f.sep f.ak L lk).1.pc=4:=by
   have:=of_decide_eq_true dB.symm;omega
  obtain⟨j1,j2⟩:=k4 h4;have hmm:gK d L ⟨0,f,lk,fr,ins,aq,root,word,tk,id,k⟩=(aK d f.sep f.ak L lk).2:=rfl;have zA:∀s',((aK d f.sep f.ak L lk).1.h.id=0/\s'=(⟨5,f,(aK d f.sep f.ak L lk).1,fr,ins,mL,root,word,tk,id,k⟩:eE)) \/
    ((aK d f.sep f.ak L lk).1.h.id≠0/\gD (aK d f.sep f.ak L lk).1.h.pg.sl f.sep<iE (aK d f.sep f.ak L lk).1.h.pg.sl f.sep/\s'=⟨4,f,(aK d f.sep f.ak L lk).1,(aK d f.sep f.ak L lk).1.h,ins,aq,root,word,tk,id,k⟩) \/
    ((aK d f.sep f.ak L lk).1.h.id≠0/\¬ gD (aK d f.sep f.ak L lk).1.h.pg.sl f.sep<iE (aK d f.sep f.ak L lk).1.h.pg.sl f.sep/\∃ins',pz d (aK d f.sep f.ak L lk).1.h (aZ (aK d f.sep f.ak L lk).1.h.pg f.sep f.ch) ins' /\ s'=⟨1,f,(aK d f.sep f.ak L lk).1,(aK d f.sep f.ak L lk).1.h,ins',aq,root,word,tk,id,k⟩)->pJ d L ⟨0,f,lk,fr,ins,aq,root,word,tk,id,k⟩ s' := fun s' h=> .inr ⟨h4,h⟩
  rw[hmm]at hs;unfold Tr;rw[hmm];generalize (aK d f.sep f.ak L lk).2=L' at *;generalize (aK d f.sep f.ak L lk).1=l at *;have hx:∃lj,C' = [blk bk (.cells (.nilFunc :: .bool true::ea d f.sep l.h lj).toArray 125),bu lj l.h.pg]:=by
   obtain⟨pc,fd,lid,laq,ow,hh⟩:=l;simp only at h4;subst h4;exact hr
  obtain⟨lj,rfl⟩:=hx;have hs:St K w1 (blk b (.cells ((aW (some (aA b2 b3 b5))) :: .bool true::bg d f).toArray 167)::blk iY (.cells #[(.pointer (some ⟨bk,0,none⟩))] 37)::blk bB (.cells #[(.pointer (some ⟨b,0,none⟩))] 100)::blk bk (.cells (.nilFunc :: .bool true::ea d f.sep l.h lj).toArray 125)::bu lj l.h.pg::aJ bm bc L' (acc+1)::F1):=hs;obtain⟨a,c,rfl,_,_⟩:=(show St K w1 (az lj 69 2 l.h.pg.sl.length (aD l.h.pg.sl)::_)from hs.b4).aH
  refine(uS hd j1 j2 hs).mono ?_
  rintro e w2 (⟨h0,x2,x3,x5,ba,jv,eU,rfl,hs2⟩|⟨h0,h1,x2,x3,x5,br,bi,bw,jv,rfl,hs2⟩|⟨h0,h1,x2,x3,x5,bi,jv,ee,s0,C0,rfl,hb,zv,hs2⟩)
  ·exact⟨some (aA x2 x3 x5),[_,_,_,_],_,rfl,zA _ (.inl ⟨h0,rfl⟩),rfl,⟨x2,x3,x5,ba,jv,eU,rfl⟩,hs2⟩
  ·exact⟨some (aA x2 x3 x5),[_,_,_,_,_],_,rfl,zA _ (.inr (.inl ⟨h0,h1,rfl⟩)),rfl,⟨x2,x3,x5,br,bi,bw,jv,rfl⟩,hs2⟩
  ·exact⟨some (aA x2 x3 x5),_::([_,_]++C0),_,rfl,zA _ (.inr (.inr ⟨h0,h1,s0,hb,rfl⟩)),rfl,⟨x2,x3,x5,bi,jv,ee,C0,zv,rfl⟩,by simpa using hs2⟩
 ·rintro C' ⟨dB,hr⟩
  have h4:¬ 4<=(aK d f.sep f.ak L lk).1.pc:=of_decide_eq_false dB.symm;exact⟨⟨0,f,(aK d f.sep f.ak L lk).1,fr,ins,aq,root,word,tk,id,k⟩,.inl ⟨by show(aK d f.sep f.ak L lk).1.pc≠4;omega,rfl⟩,by show 0<14;decide,b2,b3,b5,bk,iY,bB,C',hr,rfl⟩
theorem abX (ha:acc<=1000000000000)(hok:eE.Ok d L ⟨4,f,lk,fr,ins,aq,root,word,tk,id,k⟩)(cS:fM d b ⟨4,f,lk,fr,ins,aq,root,word,tk,id,k⟩ C)(hs:St K w (C++aJ bm bc L acc::F)):Calls Tryz.prog 77 #[(.pointer (some ⟨b,0,none⟩)),(.pointer (some ⟨bm,0,none⟩))] w (fN K b bm bc d L acc ⟨4,f,lk,fr,ins,aq,root,word,tk,id,k⟩ F):=by
 obtain⟨b2,b3,b5,br,jf,jg,bB,rfl⟩:=cS;have k1:=hok.found rfl;simp only at k1 hs;refine j9 (V:=[blk bB (.cells #[(.pointer (some ⟨b,0,none⟩))] 100)]) (Cm:=fe br jf jg (d.node fr.id 0) fr.word 0) (R:=fun fin C' => fin=true/\C'=fe br jf jg (d.node fr.id 0) fr.word 1)
  (fun w F hs=>?_) (fun n w=>ij n _ w) (fun _ _=>by kernel_rfl) (fun _ _=>by kernel_rfl) ?_ ?_ hs
 ·refine(ig k1 ha hs).mono ?_
  rintro e w' ⟨rfl,hs'⟩;exact⟨_,_,rfl,⟨rfl,rfl⟩,hs'⟩
 ·rintro C' w1 F1 ⟨_,rfl⟩ hs
  refine(sM hs).mono ?_
  rintro e w2 ⟨rfl,hs2⟩;refine⟨none,[],⟨14,f.end true,lk,fr,ins,aq,root,word,tk,id,k⟩,rfl,rfl,rfl,rfl,?_⟩;exact(show St K w2 (_::_::_::_::_::_::F1)from hs2).sub (.cons_cons _ (.cons _ (.cons _ (.cons _ (.cons _ (.cons_cons _ (List.Sublist.refl _)))))))
 ·rintro C' ⟨dB,_⟩
  cases dB
theorem Ym (ha:acc<=1000000000000)(hok:eE.Ok d L ⟨13,f,lk,fr,ins,aq,root,word,tk,id,k⟩)(cS:fM d b ⟨13,f,lk,fr,ins,aq,root,word,tk,id,k⟩ C)(hs:St K w (C++aJ bm bc L acc::F)):Calls Tryz.prog 77 #[(.pointer (some ⟨b,0,none⟩)),(.pointer (some ⟨bm,0,none⟩))] w (fN K b bm bc d L acc ⟨13,f,lk,fr,ins,aq,root,word,tk,id,k⟩ F):=by
 obtain⟨b2,b3,b5,br,jf,jg,bB,rfl⟩:=cS;have k1:=hok.word (.inr rfl);simp only at k1 hs;refine j9 (V:=[blk bB (.cells #[(.pointer (some ⟨b,0,none⟩))] 100)]) (Cm:=fe br jf jg 7 word 0) (R:=fun fin C' => fin=true/\C'=fe br jf jg 7 word 1)
  (fun w F hs=>?_) (fun n w=>ij n _ w) (fun _ _=>by kernel_rfl) (fun _ _=>by kernel_rfl) ?_ ?_ hs
 ·refine(ig k1 ha hs).mono ?_
  rintro e w' ⟨rfl,hs'⟩;exact⟨_,_,rfl,⟨rfl,rfl⟩,hs'⟩
 ·rintro C' w1 F1 ⟨_,rfl⟩ hs
  refine(sN hs).mono ?_
  rintro e w2 ⟨rfl,hs2⟩;refine⟨none,[],⟨14,f.end false,lk,fr,ins,aq,root,word,tk,id,k⟩,rfl,rfl,rfl,rfl,?_⟩;exact(show St K w2 (_::_::_::_::_::_::F1)from hs2).sub (.cons_cons _ (.cons _ (.cons _ (.cons _ (.cons _ (.cons_cons _ (List.Sublist.refl _)))))))
 ·rintro C' ⟨dB,_⟩
  cases dB
theorem abY (hL:bD L)(ha:acc<=1000000000000)(hok:eE.Ok d L ⟨5,f,lk,fr,ins,aq,root,word,tk,id,k⟩)(cS:fM d b ⟨5,f,lk,fr,ins,aq,root,word,tk,id,k⟩ C)(hs:St K w (C++aJ bm bc L acc::F)):Calls Tryz.prog 77 #[(.pointer (some ⟨b,0,none⟩)),(.pointer (some ⟨bm,0,none⟩))] w (fN K b bm bc d L acc ⟨5,f,lk,fr,ins,aq,root,word,tk,id,k⟩ F):=by
 obtain⟨b2,b3,b5,ba,bB,eU,rfl⟩:=cS;obtain⟨k1,k2⟩:=hok.acq rfl;simp only at k1 k2 hs;have hst:=um (i:=7) hL k1;refine j9 (V:=[blk bB (.cells #[(.pointer (some ⟨b,0,none⟩))] 100),blk eU (.cells #[(.pointer (some ⟨ba,0,none⟩))] 175)]) (Cm:=[fS ba 7 aq]) (R:=fun fin C' => fin=decide (2<=(bM 7 L aq).1.pc)/\C' = [fS ba 7 (bM 7 L aq).1])
  (fun w F hs=>?_) (fun n w=>uF n _ w) (fun _ _=>by kernel_rfl) (fun _ _=>by kernel_rfl) ?_ ?_ hs
 ·refine(uo hL ha k1 k2 hs).mono ?_
  rintro e w' ⟨rfl,hs'⟩;exact⟨_,_,rfl,⟨rfl,rfl⟩,hs'⟩
 ·rintro C' w1 F1 ⟨dB,rfl⟩ hs
  have h2:(bM 7 L aq).1.pc=2:=by
   have:=of_decide_eq_true dB.symm;have:=hst.pc;omega
  refine(za hs).mono ?_
  rintro e w2 ⟨rfl,hs2⟩;exact⟨some (Dj bB eU),[_,_,_],⟨6,f,lk,fr,ins,(bM 7 L aq).1,root,word,tk,id,k⟩,rfl,.inr ⟨h2,rfl⟩,rfl,⟨ba,bB,eU,rfl⟩,hs2⟩
 ·rintro C' ⟨dB,rfl⟩
  have h2:¬ 2<=(bM 7 L aq).1.pc:=of_decide_eq_false dB.symm;exact⟨⟨5,f,lk,fr,ins,(bM 7 L aq).1,root,word,tk,id,k⟩,.inl ⟨by show(bM 7 L aq).1.pc≠2;omega,rfl⟩,by show 5<14;decide,b2,b3,b5,ba,bB,eU,rfl⟩
theorem abZ (ha:acc<=1000000000000)(cS:fM d b ⟨6,f,lk,fr,ins,aq,root,word,tk,id,k⟩ C)(hs:St K w (C++aJ bm bc L acc::F)):Calls Tryz.prog 77 #[(.pointer (some ⟨b,0,none⟩)),(.pointer (some ⟨bm,0,none⟩))] w (fN K b bm bc d L acc ⟨6,f,lk,fr,ins,aq,root,word,tk,id,k⟩ F):=by
 obtain⟨ba,bB,eU,rfl⟩:=cS;simp only at hs;have hs:St K w (blk b (.cells ((aW (some (Dj bB eU))) :: .bool true::bg d f).toArray 167)::blk bB (.cells #[(.pointer (some ⟨b,0,none⟩))] 100)::blk eU (.cells #[(.pointer (some ⟨ba,0,none⟩))] 175)::fS ba 7 aq::aJ bm bc L acc::F):=hs;refine Ts (fv:=Dj bB eU) (fun _ _=>by kernel_rfl) (hs.k0 0) ?_
 show Calls Tryz.prog 171 #[(.pointer (some ⟨bm,0,none⟩)),(.pointer (some ⟨bB,0,none⟩)),(.pointer (some ⟨eU,0,none⟩))] w _
 refine(zb ha (hs.re [0,1,4,2,3] rfl)).mono ?_
 rintro e w2 ⟨jO,rfl,hs2⟩;exact⟨some (Dk bB jO eU),[_,_,_,_],⟨7,f,lk,fr,ins,aq,(ah L 0).n,word,tk,id,k⟩,rfl,rfl,rfl,⟨ba,bB,eU,jO,rfl⟩,hs2.re [0,2,1,4,5,3] rfl⟩
theorem ab0 (hd:d.Ok)(ha:acc<=1000000000000)(hok:eE.Ok d L ⟨7,f,lk,fr,ins,aq,root,word,tk,id,k⟩)(cS:fM d b ⟨7,f,lk,fr,ins,aq,root,word,tk,id,k⟩ C)(hs:St K w (C++aJ bm bc L acc::F)):Calls Tryz.prog 77 #[(.pointer (some ⟨b,0,none⟩)),(.pointer (some ⟨bm,0,none⟩))] w (fN K b bm bc d L acc ⟨7,f,lk,fr,ins,aq,root,word,tk,id,k⟩ F):=by
 obtain⟨ba,bB,eU,jO,rfl⟩:=cS;obtain⟨k1,k2,k3⟩:=hok.root rfl;simp only at k1 k2 k3 hs;have hs:St K w (blk b (.cells ((aW (some (Dk bB jO eU))) :: .bool true::bg d f).toArray 167)::blk bB (.cells #[(.pointer (some ⟨b,0,none⟩))] 100)::blk jO (.cells #[.int .u64 root] 23)::blk eU (.cells #[(.pointer (some ⟨ba,0,none⟩))] 175)::fS ba 7 aq::aJ bm bc L acc::F):=hs;refine Ts (fv:=Dk bB jO eU) (fun _ _=>by kernel_rfl) (hs.k0 0) ?_
 show Calls Tryz.prog 172 #[(.pointer (some ⟨bm,0,none⟩)),(.pointer (some ⟨bB,0,none⟩)),(.pointer (some ⟨jO,0,none⟩)),(.pointer (some ⟨eU,0,none⟩))] w _
 refine(ze hd ha k1 k2 k3 hs).mono ?_
 rintro e w2 (⟨h1,x2,x3,x5,rfl,br,bi,bw,hs2⟩|⟨h1,x2,x3,x5,rfl,bt,xA,jv,fj,abU,hs2⟩)
 ·refine⟨some (aA x2 x3 x5),[_,_,_,_],⟨8,f,lk,fr,ins,aq,root,aq.word,tk,id,k⟩,rfl,.inl ⟨h1,rfl⟩,rfl,⟨x2,x3,x5,br,bi,bw,rfl⟩,?_⟩
  exact(show St K w2 (_::_::_::_::_::_::_::_::_::_::F)from hs2).sub (.cons_cons _ (.cons_cons _ (.cons_cons _ (.cons_cons _ (.cons_cons _ (.cons _ (.cons _ (.cons _ (.cons _ (.cons_cons _ (List.Sublist.refl _)))))))))))
 ·refine⟨some (aA x2 x3 x5),[_,_,_,_,_,_],⟨9,f,lk,fr,ins,aq,root,aq.word,⟨0,0,false⟩,id,k⟩,rfl,.inr ⟨h1,rfl⟩,rfl,⟨x2,x3,x5,bt,xA,jv,fj,abU,rfl⟩,?_⟩
  exact(show St K w2 (_::_::_::_::_::_::_::_::_::_::_::_::F)from hs2).sub (.cons_cons _ (.cons_cons _ (.cons_cons _ (.cons_cons _ (.cons_cons _ (.cons_cons _ (.cons_cons _ (.cons _ (.cons _ (.cons _ (.cons _ (.cons_cons _ (List.Sublist.refl _)))))))))))))
theorem ab1 (ha:acc<=1000000000000)(hok:eE.Ok d L ⟨8,f,lk,fr,ins,aq,root,word,tk,id,k⟩)(cS:fM d b ⟨8,f,lk,fr,ins,aq,root,word,tk,id,k⟩ C)(hs:St K w (C++aJ bm bc L acc::F)):Calls Tryz.prog 77 #[(.pointer (some ⟨b,0,none⟩)),(.pointer (some ⟨bm,0,none⟩))] w (fN K b bm bc d L acc ⟨8,f,lk,fr,ins,aq,root,word,tk,id,k⟩ F):=by
 obtain⟨b2,b3,b5,br,jf,jg,rfl⟩:=cS;have k1:=hok.word (.inl rfl);simp only at k1 hs;refine j9 (V:=[]) (Cm:=fe br jf jg 7 word 0) (R:=fun fin C' => fin=true/\C'=fe br jf jg 7 word 1)
  (fun w F hs=>?_) (fun n w=>ij n _ w) (fun _ _=>by kernel_rfl) (fun _ _=>by kernel_rfl) ?_ ?_ hs
 ·refine(ig k1 ha hs).mono ?_
  rintro e w' ⟨rfl,hs'⟩;exact⟨_,_,rfl,⟨rfl,rfl⟩,hs'⟩
 ·rintro C' w1 F1 ⟨_,rfl⟩ hs
  refine(mh hs).mono ?_
  rintro e w2 ⟨x2,x3,x5,bk,iY,bB,Ck,rfl,hr,hs2⟩;refine⟨some (aA x2 x3 x5),_::([_,_]++Ck),⟨0,f,oA,fr,ins,aq,root,word,tk,id,k⟩,rfl,rfl,rfl,⟨x2,x3,x5,bk,iY,bB,Ck,hr,rfl⟩,?_⟩;have h1:St K w2 ([blk b (.cells ((aW (some (aA b2 b3 b5))) :: .bool true::bg d f).toArray 167),bG x2 x3 x5 (.iface 37 (.pointer (some ⟨bk,0,none⟩))) (jo iY bB),blk iY (.cells #[(.pointer (some ⟨bk,0,none⟩))] 37),blk bB (.cells #[(.pointer (some ⟨b,0,none⟩))] 100)]++(Ck++(fe br jf jg 7 word 1++(aJ bm bc (gK d L ⟨8,f,lk,fr,ins,aq,root,word,tk,id,k⟩) (acc+1)::F1)))):=hs2;have h2:=h1.mid.Bo;simpa using h2
 ·rintro C' ⟨dB,_⟩
  cases dB
theorem Yn (ha:acc<=1000000000000)(cS:fM d b ⟨11,f,lk,fr,ins,aq,root,word,tk,id,k⟩ C)(hs:St K w (C++aJ bm bc L acc::F)):Calls Tryz.prog 77 #[(.pointer (some ⟨b,0,none⟩)),(.pointer (some ⟨bm,0,none⟩))] w (fN K b bm bc d L acc ⟨11,f,lk,fr,ins,aq,root,word,tk,id,k⟩ F):=by
 obtain⟨b2,b3,b5,br,jf,jg,bB,gR,fj,rfl⟩:=cS;simp only at hs;refine j9 (V:=[blk bB (.cells #[(.pointer (some ⟨b,0,none⟩))] 100),blk gR (.cells #[.int .u64 id] 23),blk fj (.cells #[.int .u64 word] 23)]) (Cm:=fe br jf jg (d.node id 0) (aN 0) 0) (R:=fun fin C' => fin=true/\C'=fe br jf jg (d.node id 0) (aN 0) 1)
  (fun w F hs=>?_) (fun n w=>ij n _ w) (fun _ _=>by kernel_rfl) (fun _ _=>by kernel_rfl) ?_ ?_ hs
 ·refine(ig ⟨by decide,by decide⟩ ha hs).mono ?_
  rintro e w' ⟨rfl,hs'⟩;exact⟨_,_,rfl,⟨rfl,rfl⟩,hs'⟩
 ·rintro C' w1 F1 ⟨_,rfl⟩ hs
  refine(wj hs).mono ?_
  rintro e w2 ⟨rfl,hs2⟩;refine⟨some (Tq bB gR fj),[_,_,_],⟨12,f,lk,fr,ins,aq,root,word,tk,id,k⟩,rfl,rfl,rfl,⟨bB,gR,fj,rfl⟩,?_⟩;exact(show St K w2 (_::_::_::_::_::_::_::_::F1)from hs2).sub (.cons_cons _ (.cons_cons _ (.cons_cons _ (.cons_cons _ (.cons _ (.cons _ (.cons _ (.cons_cons _ (List.Sublist.refl _)))))))))
 ·rintro C' ⟨dB,_⟩
  cases dB
theorem Yo (ha:acc<=1000000000000)(cS:fM d b ⟨12,f,lk,fr,ins,aq,root,word,tk,id,k⟩ C)(hs:St K w (C++aJ bm bc L acc::F)):Calls Tryz.prog 77 #[(.pointer (some ⟨b,0,none⟩)),(.pointer (some ⟨bm,0,none⟩))] w (fN K b bm bc d L acc ⟨12,f,lk,fr,ins,aq,root,word,tk,id,k⟩ F):=by
 obtain⟨bB,gR,fj,rfl⟩:=cS;simp only at hs;have hs:St K w (blk b (.cells ((aW (some (Tq bB gR fj))) :: .bool true::bg d f).toArray 167)::blk bB (.cells #[(.pointer (some ⟨b,0,none⟩))] 100)::blk gR (.cells #[.int .u64 id] 23)::blk fj (.cells #[.int .u64 word] 23)::aJ bm bc L acc::F):=hs;refine Ts (fv:=Tq bB gR fj) (fun _ _=>by kernel_rfl) (hs.k0 0) ?_
 show Calls Tryz.prog 188 #[(.pointer (some ⟨bm,0,none⟩)),(.pointer (some ⟨bB,0,none⟩)),(.pointer (some ⟨gR,0,none⟩)),(.pointer (some ⟨fj,0,none⟩))] w _
 refine(wk ha hs).mono ?_
 rintro e w2 ⟨x2,x3,x5,rfl,br,bi,bw,hs2⟩;refine⟨some (aA x2 x3 x5),[_,_,_,_],⟨8,f,lk,fr,ins,aq,root,word,tk,id,k⟩,rfl,rfl,rfl,⟨x2,x3,x5,br,bi,bw,rfl⟩,?_⟩;exact(show St K w2 (_::_::_::_::_::_::_::_::_::F)from hs2).sub (.cons_cons _ (.cons_cons _ (.cons_cons _ (.cons_cons _ (.cons_cons _ (.cons _ (.cons _ (.cons _ (.cons_cons _ (List.Sublist.refl _))))))))))
theorem ab2 (hd:d.Ok)(ha:acc<=1000000000000)(hok:eE.Ok d L ⟨9,f,lk,fr,ins,aq,root,word,tk,id,k⟩)(cS:fM d b ⟨9,f,lk,fr,ins,aq,root,word,tk,id,k⟩ C)(hs:St K w (C++aJ bm bc L acc::F)):Calls Tryz.prog 77 #[(.pointer (some ⟨b,0,none⟩)),(.pointer (some ⟨bm,0,none⟩))] w (fN K b bm bc d L acc ⟨9,f,lk,fr,ins,aq,root,word,tk,id,k⟩ F):=by
 obtain⟨b2,b3,b5,bt,xA,bB,fj,jO,rfl⟩:=cS;obtain⟨k1,k2,k3⟩:=hok.take rfl;have bZ:=hok.ak;simp only at k1 k2 k3 hs bZ;refine j9 (V:=[blk xA (.cells #[(.pointer (some ⟨bt,0,none⟩))] 156),blk bB (.cells #[(.pointer (some ⟨b,0,none⟩))] 100),blk fj (.cells #[.int .u64 word] 23),blk jO (.cells #[.int .u64 root] 23)]) (Cm:=[gL bt 4 d.no tk]) (R:=fun fin C' => fin=decide (2<=(aF 4 d.no L tk).1.pc)/\C' = [gL bt 4 d.no (aF 4 d.no L tk).1])
  (fun w F hs=>?_) (fun n w=>rS n _ w) (fun _ _=>by kernel_rfl) (fun _ _=>by kernel_rfl) ?_ ?_ hs
 ·refine(rT hs ha k2).mono ?_
  rintro e w' ⟨rfl,hs'⟩;rw[if_neg (by omega)]at hs'
  exact⟨_,_,rfl,⟨rfl,rfl⟩,hs'⟩
 ·rintro C' w1 F1 ⟨dB,rfl⟩ hs
  have h2:2<=(aF 4 d.no L tk).1.pc:=of_decide_eq_true dB.symm;refine(vZ hd ⟨bZ.1,by omega⟩ k3 hs).mono ?_
  rintro e w2 (⟨ho,x2,x3,x5,rfl,br,bi,bw,hs2⟩|⟨ho,x2,x3,x5,rfl,bf,bF,g,cap,va,jn,gR,hs2⟩)
  ·refine⟨some (aA x2 x3 x5),[_,_,_,_,_],⟨13,f,lk,fr,ins,aq,root,word,(aF 4 d.no L tk).1,id,k⟩,rfl,.inr (.inl ⟨h2,ho,rfl⟩),rfl,⟨x2,x3,x5,br,bi,bw,bB,rfl⟩,?_⟩
   exact(((show St K w2 (_::_::_::_::_::_::_::_::F1)from hs2).re [6,0,1,5,2,3,4,7] rfl).tail)
  ·have hs2:St K w2 (blk b (.cells ((aW (some (aA b2 b3 b5))) :: .bool true::bg d f).toArray 167)::bG x2 x3 x5 (.iface 74 (.pointer (some ⟨bf,0,none⟩))) (tu bB jn gR fj)::blk jn (.cells #[(.pointer (some ⟨bf,0,none⟩))] 74)::blk gR (.cells #[.int .u64 ((aF 4 d.no L tk).1.seen+1)] 23)::mH _ _ _ _ _ _ _ _ _::az _ _ _ _ _::blk bf _::bu va (fk f.ak root)::blk bB (.cells #[(.pointer (some ⟨b,0,none⟩))] 100)::blk fj (.cells #[.int .u64 word] 23)::aJ bm bc (gK d L ⟨9,f,lk,fr,ins,aq,root,word,tk,id,k⟩) (acc+1)::F1):=hs2
   obtain⟨av,cv,rfl,_,_⟩:=(show St K w2 (az va 69 2 (fk f.ak root).sl.length (aD (fk f.ak root).sl)::_)from hs2.b7).aH
   refine⟨some (aA x2 x3 x5),[_,_,_,_,_,_,_,_,_],⟨10,f,lk,fr,ins,aq,root,word,(aF 4 d.no L tk).1,(aF 4 d.no L tk).1.seen+1,0⟩,rfl,.inr (.inr ⟨h2,ho,rfl⟩),rfl,⟨x2,x3,x5,bf,bF,g,cap,av,cv,bB,jn,gR,fj,rfl⟩,?_⟩;exact hs2.re [0,1,2,3,8,9,4,5,6,7,10] rfl
 ·rintro C' ⟨dB,rfl⟩
  have h2:¬ 2<=(aF 4 d.no L tk).1.pc:=of_decide_eq_false dB.symm;exact⟨⟨9,f,lk,fr,ins,aq,root,word,(aF 4 d.no L tk).1,id,k⟩,.inl ⟨by show(aF 4 d.no L tk).1.pc<2;omega,rfl⟩,by show 9<14;decide,b2,b3,b5,bt,xA,bB,fj,jO,rfl⟩
theorem ab3 (hd:d.Ok)(hL:bD L)(ha:acc<=1000000000000)(hok:eE.Ok d L ⟨1,f,lk,fr,ins,aq,root,word,tk,id,k⟩)(cS:fM d b ⟨1,f,lk,fr,ins,aq,root,word,tk,id,k⟩ C)(hs:St K w (C++aJ bm bc L acc::F)):Calls Tryz.prog 77 #[(.pointer (some ⟨b,0,none⟩)),(.pointer (some ⟨bm,0,none⟩))] w (fN K b bm bc d L acc ⟨1,f,lk,fr,ins,aq,root,word,tk,id,k⟩ F):=by
 obtain⟨b2,b3,b5,bi,bB,ee,Ci,ab4,rfl⟩:=cS;obtain⟨k1,k2,k3⟩:=hok.ins rfl;simp only at k1 k2 k3 ab4 hs;obtain⟨fu,lA⟩:∃fu,fu=(⟨1,f,lk,fr,ins,aq,root,word,tk,id,k⟩:eE).fu:=⟨_,rfl⟩;rw[←lA]at k2 k3 ab4;have hs:St K w (blk b (.cells ((aW (some (aA b2 b3 b5))) :: .bool true::bg d f).toArray 167)::bG b2 b3 b5 (.iface 82 (.pointer (some ⟨bi,0,none⟩))) (mg bB ee)::([blk bB (.cells #[(.pointer (some ⟨b,0,none⟩))] 100),blk ee (.cells #[(.pointer (some ⟨bi,0,none⟩))] 82)]++(Ci++aJ bm bc L acc::F))):=by simpa using hs
 have iX:=hd.mJ;have vT:=hd.mK;have hid:=k1.id;have xx:=k2.len;have hpl:=k1.pg.le;refine j9 (V:=[blk bB (.cells #[(.pointer (some ⟨b,0,none⟩))] 100),blk ee (.cells #[(.pointer (some ⟨bi,0,none⟩))] 82)]) (Cm:=Ci) (R:=fun fin C' => ∃ins',fin=decide (3<=ins'.pc)/\iC d fr fu L ins ins' /\ kP d fr fu bi ins' C')
  (fun w F hs=>?_) (fun n w=>wm n _ w) (fun _ _=>by kernel_rfl) (fun _ _=>by kernel_rfl) ?_ ?_ hs
 ·refine(Nt hd hL ha k1 k2 k3 ab4 hs).mono ?_
  rintro e w' ⟨s',C',rfl,hn,hr',hs'⟩;exact⟨_,C',rfl,⟨s',rfl,hn,hr'⟩,hs'⟩
 ·rintro C' w1 F1 ⟨ins',dB,hn,hr⟩ hs
  have h3:3<=ins'.pc:=of_decide_eq_true dB.symm;have hx:∃x:o8,yS fr fu ins' x/\C' = [bz bi .nilFunc d x,bu x.vl x.le.pg,bu x.vr x.ri.pg]:=by
   obtain⟨La,tk',k',ps',sp',id',Dm⟩:=ins';obtain⟨m,rfl⟩:∃m,La=m+3:=⟨La-3,by simp only at h3;omega⟩
   exact hr
  obtain⟨x,hx,rfl⟩:=hx;obtain⟨a,c,hv⟩:=hx.vl;have hle:x.le.pg.sl.length<=1000000/\(0<=x.le.id/\x.le.id<18446744073709551616):=by
   rw[hx.le];split
   ·exact⟨by omega,by omega⟩
   ·refine⟨?_,by show 0<=fr.id/\fr.id<_;omega⟩
    show(ins'.pg fu).sl.length<=_
    unfold fT.pg;split
    ·show(fu.sl.take _).length<=_
     rw[List.length_take];omega
    ·omega
  have hs:St K w1 (blk b (.cells ((aW (some (aA b2 b3 b5))) :: .bool true::bg d f).toArray 167)::blk bB (.cells #[(.pointer (some ⟨b,0,none⟩))] 100)::blk ee (.cells #[(.pointer (some ⟨bi,0,none⟩))] 82)::bz bi .nilFunc d x::bu x.vl x.le.pg::bu x.vr x.ri.pg::aJ bm bc (gK d L ⟨1,f,lk,fr,ins,aq,root,word,tk,id,k⟩) (acc+1)::F1):=hs;refine(sO hd hx.on hle.1 hv hle.2 hs).mono ?_
  rintro e w2 ⟨u,rfl,x2,x3,x5,rfl,br,jf,jg,hs2⟩;have hs2:St K w2 (blk b (.cells ((aW (some (aA b2 b3 b5))) :: .bool true::bg d f).toArray 167)::bG x2 x3 x5 (.iface 47 (.pointer (some ⟨br,0,none⟩))) (kE ee bB)::blk br _::blk jf _::blk jg _::blk bB (.cells #[(.pointer (some ⟨b,0,none⟩))] 100)::blk ee (.cells #[(.pointer (some ⟨bi,0,none⟩))] 82)::bz bi .nilFunc d x::bu x.vl x.le.pg::bu x.vr x.ri.pg::aJ bm bc (gK d L ⟨1,f,lk,fr,ins,aq,root,word,tk,id,k⟩) (acc+1)::F1):=hs2;have jZ:x.le=(⟨2,f,lk,fr,ins',aq,root,word,tk,id,k⟩:eE).left:=by rw[hx.le,lA];rfl
  refine⟨some (aA x2 x3 x5),_::([_,_,_,_,_]++fe br jf jg (d.node x.le.id 0) x.le.word 0),⟨2,f,lk,fr,ins',aq,root,word,tk,id,k⟩,rfl,⟨ins',by rw[←lA];exact hn,.inr ⟨h3,rfl⟩⟩,rfl,⟨x2,x3,x5,br,jf,jg,bB,ee,bi,x,by rw[lA]at hx;exact hx,by rw[←jZ]⟩,?_⟩
  exact hs2.re [0,1,5,6,7,8,9,2,3,4,10] rfl
 ·rintro C' ⟨ins',dB,hn,hr⟩
  have h3:¬ 3<=ins'.pc:=of_decide_eq_false dB.symm;exact⟨⟨1,f,lk,fr,ins',aq,root,word,tk,id,k⟩,⟨ins',by rw[←lA];exact hn,.inl ⟨by omega,rfl⟩⟩,by show 1<14;decide,b2,b3,b5,bi,bB,ee,C',by rw[lA]at hr;exact hr,rfl⟩
theorem ab6 (hd:d.Ok)(ha:acc<=1000000000000)(hok:eE.Ok d L ⟨2,f,lk,fr,ins,aq,root,word,tk,id,k⟩)(cS:fM d b ⟨2,f,lk,fr,ins,aq,root,word,tk,id,k⟩ C)(hs:St K w (C++aJ bm bc L acc::F)):Calls Tryz.prog 77 #[(.pointer (some ⟨b,0,none⟩)),(.pointer (some ⟨bm,0,none⟩))] w (fN K b bm bc d L acc ⟨2,f,lk,fr,ins,aq,root,word,tk,id,k⟩ F):=by
 obtain⟨b2,b3,b5,br,jf,jg,bB,ee,bi,x,hx,rfl⟩:=cS;obtain⟨k1,k2,k3⟩:=hok.left rfl;obtain⟨lf,hlf⟩:∃lf,lf=(⟨2,f,lk,fr,ins,aq,root,word,tk,id,k⟩:eE).left:=⟨_,rfl⟩;have mF:x.ri=(⟨2,f,lk,fr,ins,aq,root,word,tk,id,k⟩:eE).right:=hx.ri;rw[←hlf]at k1 hs;rw[←mF]at k2 k3;simp only at hs;have Ir:=hx.err;simp only at Ir;have hs:St K w (blk b (.cells ((aW (some (aA b2 b3 b5))) :: .bool true::bg d f).toArray 167)::bG b2 b3 b5 (.iface 47 (.pointer (some ⟨br,0,none⟩))) (kE ee bB)::([blk bB (.cells #[(.pointer (some ⟨b,0,none⟩))] 100),blk ee (.cells #[(.pointer (some ⟨bi,0,none⟩))] 82),bz bi .nilFunc d x,bu x.vl x.le.pg,bu x.vr x.ri.pg]++(fe br jf jg (d.node lf.id 0) lf.word 0++aJ bm bc L acc::F))):=hs;have hmm:gK d L ⟨2,f,lk,fr,ins,aq,root,word,tk,id,k⟩=aP L (d.node lf.id 0) ⟨aG lf.word,⟨#[]⟩,0⟩:=by rw[hlf];rfl
 refine j9 (V:=[blk bB (.cells #[(.pointer (some ⟨b,0,none⟩))] 100),blk ee (.cells #[(.pointer (some ⟨bi,0,none⟩))] 82),bz bi .nilFunc d x,bu x.vl x.le.pg,bu x.vr x.ri.pg]) (Cm:=fe br jf jg (d.node lf.id 0) lf.word 0) (R:=fun fin C' => fin=true/\C'=fe br jf jg (d.node lf.id 0) lf.word 1)
  (fun w F hs=>?_) (fun n w=>ij n _ w) (fun _ _=>by kernel_rfl) (fun _ _=>by kernel_rfl) ?_ ?_ hs
 ·refine(ig k1 ha hs).mono ?_
  rintro e w' ⟨rfl,hs'⟩;exact⟨_,_,rfl,⟨rfl,rfl⟩,by rw[hmm];exact hs'⟩
 ·rintro C' w1 F1 ⟨_,rfl⟩ hs
  obtain⟨a,c,hv⟩:=hx.vr;have hs:St K w1 (blk b (.cells ((aW (some (aA b2 b3 b5))) :: .bool true::bg d f).toArray 167)::blk bB (.cells #[(.pointer (some ⟨b,0,none⟩))] 100)::blk ee (.cells #[(.pointer (some ⟨bi,0,none⟩))] 82)::bz bi .nilFunc d x::bu x.vl x.le.pg::bu x.vr x.ri.pg::blk br _::blk jf _::blk jg _::aJ bm bc (gK d L ⟨2,f,lk,fr,ins,aq,root,word,tk,id,k⟩) (acc+1)::F1):=hs;refine(Dh hd hx.on k2 hv k3 (hs.re [0,2,1,3,5,4,6,7,8,9] rfl)).mono ?_
  rintro e w2 (⟨he,rfl,hs2⟩|⟨he,hi,rfl,hs2⟩|⟨he,hi,u,rfl,x2,x3,x5,rfl,ar,ai,aw,hs2⟩)
  ·have xx:ins.full=true:=by
    cases hc:ins.full with
    | true=>rfl
    | false=>rw[hc]at Ir;exact absurd Ir he
   refine⟨none,[],⟨14,f.end false,lk,fr,ins,aq,root,word,tk,id,k⟩,rfl,.inl ⟨xx,rfl⟩,rfl,rfl,?_⟩;exact(show St K w2 (_::_::_::_::_::_::_::_::_::_::F1)from hs2).sub (.cons_cons _ (.cons _ (.cons _ (.cons _ (.cons _ (.cons _ (.cons _ (.cons _ (.cons _ (.cons_cons _ (List.Sublist.refl _)))))))))))
  ·have xx:ins.full=false:=by
    cases hc:ins.full with
    | false=>rfl
    | true=>rw[hc]at Ir;rw[Ir]at he;exact absurd he (by decide)
   refine⟨none,[],⟨14,f.end true,lk,fr,ins,aq,root,word,tk,id,k⟩,rfl,.inr (.inl ⟨xx,by rw[←mF];exact hi,rfl⟩),rfl,rfl,?_⟩
   exact(show St K w2 (_::_::_::_::_::_::_::_::_::_::F1)from hs2).sub (.cons_cons _ (.cons _ (.cons _ (.cons _ (.cons _ (.cons _ (.cons _ (.cons _ (.cons _ (.cons_cons _ (List.Sublist.refl _)))))))))))
  ·have xx:ins.full=false:=by
    cases hc:ins.full with
    | false=>rfl
    | true=>rw[hc]at Ir;rw[Ir]at he;exact absurd he (by decide)
   have hs2:St K w2 (blk b (.cells ((aW (some (aA b2 b3 b5))) :: .bool true::bg d f).toArray 167)::bG x2 x3 x5 (.iface 47 (.pointer (some ⟨ar,0,none⟩))) (jP bB ee)::blk ar _::blk ai _::blk aw _::blk ee (.cells #[(.pointer (some ⟨bi,0,none⟩))] 82)::blk bB (.cells #[(.pointer (some ⟨b,0,none⟩))] 100)::bz bi .nilFunc d x::bu x.vr x.ri.pg::bu x.vl x.le.pg::blk br _::blk jf _::blk jg _::aJ bm bc (gK d L ⟨2,f,lk,fr,ins,aq,root,word,tk,id,k⟩) (acc+1)::F1):=hs2;have ajt:x.ri=(⟨3,f,lk,fr,ins,aq,root,word,tk,id,k⟩:eE).right:=hx.ri;refine⟨some (aA x2 x3 x5),bG x2 x3 x5 (.iface 47 (.pointer (some ⟨ar,0,none⟩))) (jP bB ee)::([blk bB (.cells #[(.pointer (some ⟨b,0,none⟩))] 100),blk ee (.cells #[(.pointer (some ⟨bi,0,none⟩))] 82),bz bi .nilFunc d x,bu x.vr x.ri.pg]++fe ar ai aw (d.node x.ri.id 0) x.ri.word 0),⟨3,f,lk,fr,ins,aq,root,word,tk,id,k⟩,rfl,.inr (.inr ⟨xx,by rw[←mF];exact hi,rfl⟩),rfl,⟨x2,x3,x5,ar,ai,aw,bB,ee,bi,x,hx,by rw[←ajt]⟩,?_⟩
   exact(hs2.re [0,1,6,5,7,8,2,3,4,13,9,10,11,12] rfl).sub (.cons_cons _ (.cons_cons _ (.cons_cons _ (.cons_cons _ (.cons_cons _ (.cons_cons _ (.cons_cons _ (.cons_cons _ (.cons_cons _ (.cons_cons _ (.cons _ (.cons _ (.cons _ (.cons _ (List.Sublist.refl _)))))))))))))))
 ·rintro C' ⟨dB,_⟩
  cases dB
theorem ab7 (ha:acc<=1000000000000)(hok:eE.Ok d L ⟨3,f,lk,fr,ins,aq,root,word,tk,id,k⟩)(cS:fM d b ⟨3,f,lk,fr,ins,aq,root,word,tk,id,k⟩ C)(hs:St K w (C++aJ bm bc L acc::F)):Calls Tryz.prog 77 #[(.pointer (some ⟨b,0,none⟩)),(.pointer (some ⟨bm,0,none⟩))] w (fN K b bm bc d L acc ⟨3,f,lk,fr,ins,aq,root,word,tk,id,k⟩ F):=by
 obtain⟨b2,b3,b5,br,jf,jg,bB,ee,bi,x,hx,rfl⟩:=cS;obtain⟨k1,k2⟩:=hok.right rfl;have bZ:=hok.ak;have mF:x.ri=(⟨3,f,lk,fr,ins,aq,root,word,tk,id,k⟩:eE).right:=hx.ri;have hsep:x.sep=(⟨3,f,lk,fr,ins,aq,root,word,tk,id,k⟩:eE).Yl:=hx.sep;rw[←mF]at k1 k2 hs;simp only at hs bZ;have hs:St K w (blk b (.cells ((aW (some (aA b2 b3 b5))) :: .bool true::bg d f).toArray 167)::bG b2 b3 b5 (.iface 47 (.pointer (some ⟨br,0,none⟩))) (jP bB ee)::([blk bB (.cells #[(.pointer (some ⟨b,0,none⟩))] 100),blk ee (.cells #[(.pointer (some ⟨bi,0,none⟩))] 82),bz bi .nilFunc d x,bu x.vr x.ri.pg]++(fe br jf jg (d.node x.ri.id 0) x.ri.word 0++aJ bm bc L acc::F))):=hs;have hmm:gK d L ⟨3,f,lk,fr,ins,aq,root,word,tk,id,k⟩=aP L (d.node x.ri.id 0) ⟨aG x.ri.word,⟨#[]⟩,0⟩:=by rw[mF];rfl
 refine j9 (V:=[blk bB (.cells #[(.pointer (some ⟨b,0,none⟩))] 100),blk ee (.cells #[(.pointer (some ⟨bi,0,none⟩))] 82),bz bi .nilFunc d x,bu x.vr x.ri.pg]) (Cm:=fe br jf jg (d.node x.ri.id 0) x.ri.word 0) (R:=fun fin C' => fin=true/\C'=fe br jf jg (d.node x.ri.id 0) x.ri.word 1)
  (fun w F hs=>?_) (fun n w=>ij n _ w) (fun _ _=>by kernel_rfl) (fun _ _=>by kernel_rfl) ?_ ?_ hs
 ·refine(ig k1 ha hs).mono ?_
  rintro e w' ⟨rfl,hs'⟩;exact⟨_,_,rfl,⟨rfl,rfl⟩,by rw[hmm];exact hs'⟩
 ·rintro C' w1 F1 ⟨_,rfl⟩ hs
  obtain⟨a,c,hv⟩:=hx.vr;refine(Di hx.on k2 hv bZ hs).mono ?_
  rintro e w2 ⟨x2,x3,x5,bk,iY,jv,Ck,rfl,hr,hs2⟩;have aeF:fM d b ⟨0,⟨f.ak+1,x.sep,x.ri.id,f.po⟩,oA,fr,ins,aq,root,word,tk,id,k⟩ (blk b (.cells ((aW (some (aA x2 x3 x5))) :: .bool true::bg d (⟨f.ak+1,x.sep,x.ri.id,f.po⟩:j8)).toArray 167)::bG x2 x3 x5 (.iface 37 (.pointer (some ⟨bk,0,none⟩))) (jo iY jv)::([blk iY (.cells #[(.pointer (some ⟨bk,0,none⟩))] 37),blk jv (.cells #[(.pointer (some ⟨b,0,none⟩))] 100)]++Ck)):=⟨x2,x3,x5,bk,iY,jv,Ck,hr,rfl⟩;have zA:pJ d L ⟨3,f,lk,fr,ins,aq,root,word,tk,id,k⟩ ⟨0,⟨f.ak+1,x.sep,x.ri.id,f.po⟩,oA,fr,ins,aq,root,word,tk,id,k⟩:=by rw[hsep,mF];rfl
  refine⟨some (aA x2 x3 x5),_,_,rfl,zA,rfl,aeF,?_⟩;have h1:St K w2 ([blk b (.cells ((aW (some (aA b2 b3 b5))) :: .bool true::bg d (⟨f.ak+1,x.sep,x.ri.id,f.po⟩:j8)).toArray 167),bG x2 x3 x5 (.iface 37 (.pointer (some ⟨bk,0,none⟩))) (jo iY jv),blk iY (.cells #[(.pointer (some ⟨bk,0,none⟩))] 37),blk jv (.cells #[(.pointer (some ⟨b,0,none⟩))] 100)]++(Ck++((blk bB (.cells #[(.pointer (some ⟨b,0,none⟩))] 100)::blk ee (.cells #[(.pointer (some ⟨bi,0,none⟩))] 82)::bz bi .nilFunc d x::bu x.vr x.ri.pg::fe br jf jg (d.node x.ri.id 0) x.ri.word 1)++(aJ bm bc (gK d L ⟨3,f,lk,fr,ins,aq,root,word,tk,id,k⟩) (acc+1)::F1)))):=hs2;have h2:=h1.mid.Bo;simpa using h2
 ·rintro C' ⟨dB,_⟩
  cases dB
theorem Yp (hd:d.Ok)(ha:acc<=1000000000000)(hok:eE.Ok d L ⟨10,f,lk,fr,ins,aq,root,word,tk,id,k⟩)(cS:fM d b ⟨10,f,lk,fr,ins,aq,root,word,tk,id,k⟩ C)(hs:St K w (C++aJ bm bc L acc::F)):Calls Tryz.prog 77 #[(.pointer (some ⟨b,0,none⟩)),(.pointer (some ⟨bm,0,none⟩))] w (fN K b bm bc d L acc ⟨10,f,lk,fr,ins,aq,root,word,tk,id,k⟩ F):=by
 obtain⟨b2,b3,b5,bf,bF,g,cap,av,cv,bB,jn,gR,fj,rfl⟩:=cS;obtain⟨k1,k2⟩:=hok.fresh rfl;obtain⟨ps,hps⟩:∃ps,ps=(⟨10,f,lk,fr,ins,aq,root,word,tk,id,k⟩:eE).ps d:=⟨_,rfl⟩;rw[←hps]at k1 hs;simp only at k1 k2 hs;have hg:=aq8 k1;have hmm:gK d L ⟨10,f,lk,fr,ins,aq,root,word,tk,id,k⟩=aP L ps[k].i ps[k].c:=by
  show(match ((⟨10,f,lk,fr,ins,aq,root,word,tk,id,k⟩:eE).ps d)[k]? with|some pt=>aP L pt.i pt.c|none=>L)=_
  rw[←hps,hg]
 have hs:St K w (blk b (.cells ((aW (some (aA b2 b3 b5))) :: .bool true::bg d f).toArray 167)::bG b2 b3 b5 (.iface 74 (.pointer (some ⟨bf,0,none⟩))) (tu bB jn gR fj)::([blk jn (.cells #[(.pointer (some ⟨bf,0,none⟩))] 74),blk gR (.cells #[.int .u64 id] 23),blk bB (.cells #[(.pointer (some ⟨b,0,none⟩))] 100),blk fj (.cells #[.int .u64 word] 23)]++(Ip bf bF id (fk f.ak root) (.slice av (fk f.ak root).sl.length cv) g cap ps k++aJ bm bc L acc::F))):=hs;refine j9 (V:=[blk jn (.cells #[(.pointer (some ⟨bf,0,none⟩))] 74),blk gR (.cells #[.int .u64 id] 23),blk bB (.cells #[(.pointer (some ⟨b,0,none⟩))] 100),blk fj (.cells #[.int .u64 word] 23)]) (Cm:=Ip bf bF id (fk f.ak root) (.slice av (fk f.ak root).sl.length cv) g cap ps k) (R:=fun fin C' => fin=decide (k+1=ps.length)/\C'=Ip bf bF id (fk f.ak root) (.slice av (fk f.ak root).sl.length cv) g cap ps (k+1))
  (fun w F hs=>?_) (fun n w=>qo n _ w) (fun _ _=>by kernel_rfl) (fun _ _=>by kernel_rfl) ?_ ?_ hs
 ·refine(qC hg ha ((show St K w (mH _ _ _ _ _ _ _ _ _::az _ _ _ _ _::blk bf _::bu _ _::aJ bm bc L acc::F)from hs).re [0,4,1,2,3] rfl)).mono ?_
  rintro e w' ⟨rfl,hs'⟩;exact⟨_,_,rfl,⟨rfl,rfl⟩,by rw[hmm];exact(show St K w' (mH _ _ _ _ _ _ _ _ _::aJ bm bc _ _::az _ _ _ _ _::blk bf _::bu _ _::F)from hs').re [0,2,3,4,1] rfl⟩
 ·rintro C' w1 F1 ⟨dB,rfl⟩ hs
  have he:k+1=ps.length:=of_decide_eq_true dB.symm;rw[he]at hs;have hs:St K w1 (blk b (.cells ((aW (some (aA b2 b3 b5))) :: .bool true::bg d f).toArray 167)::blk jn (.cells #[(.pointer (some ⟨bf,0,none⟩))] 74)::blk gR (.cells #[.int .u64 id] 23)::blk bB (.cells #[(.pointer (some ⟨b,0,none⟩))] 100)::blk fj (.cells #[.int .u64 word] 23)::mH _ _ _ _ _ _ _ _ _::az _ _ _ _ _::blk bf _::bu _ _::aJ bm bc (gK d L ⟨10,f,lk,fr,ins,aq,root,word,tk,id,k⟩) (acc+1)::F1):=hs;refine(wh (gR:=gR) (fj:=fj) hd (by show 1<=1000000;decide) k2 (hs.re [0,3,1,5,6,7,8,2,4,9] rfl)).mono ?_
  rintro e w2 ⟨u,rfl,x2,x3,x5,rfl,br,jf,jg,hs2⟩;have hs2:St K w2 (blk b (.cells ((aW (some (aA b2 b3 b5))) :: .bool true::bg d f).toArray 167)::bG x2 x3 x5 (.iface 47 (.pointer (some ⟨br,0,none⟩))) (mm bB gR fj)::blk br _::blk jf _::blk jg _::blk bB (.cells #[(.pointer (some ⟨b,0,none⟩))] 100)::blk jn (.cells #[(.pointer (some ⟨bf,0,none⟩))] 74)::mH _ _ _ _ _ _ _ _ _::az _ _ _ _ _::blk bf _::bu _ _::blk gR (.cells #[.int .u64 id] 23)::blk fj (.cells #[.int .u64 word] 23)::aJ bm bc (gK d L ⟨10,f,lk,fr,ins,aq,root,word,tk,id,k⟩) (acc+1)::F1):=hs2;refine⟨some (aA x2 x3 x5),_::([_,_,_]++fe br jf jg (d.node id 0) (aN 0) 0),⟨11,f,lk,fr,ins,aq,root,word,tk,id,k+1⟩,rfl,.inr ⟨by rw[←hps];exact he,rfl⟩,rfl,⟨x2,x3,x5,br,jf,jg,bB,gR,fj,rfl⟩,?_⟩
  exact(hs2.re [0,1,5,11,12,2,3,4,13,6,7,8,9,10] rfl).sub (.cons_cons _ (.cons_cons _ (.cons_cons _ (.cons_cons _ (.cons_cons _ (.cons_cons _ (.cons_cons _ (.cons_cons _ (.cons_cons _ (.cons _ (.cons _ (.cons _ (.cons _ (.cons _ (List.Sublist.refl _)))))))))))))))
 ·rintro C' ⟨dB,rfl⟩
  have he:¬ k+1=ps.length:=of_decide_eq_false dB.symm;exact⟨⟨10,f,lk,fr,ins,aq,root,word,tk,id,k+1⟩,.inl ⟨by rw[←hps];exact he,rfl⟩,by show 10<14;decide,b2,b3,b5,bf,bF,g,cap,av,cv,bB,jn,gR,fj,by rw[hps];rfl⟩
end
section
variable {K:aL}{w:World}{F:List aC}{b bm bc acc:Nat}{d:aR}{L:List aO}{s:eE}{C:List aC}
theorem Tt (hd:d.Ok)(hL:bD L)(ha:acc<=1000000000000)(hok:s.Ok d L)(cS:fM d b s C)(hs:St K w (C++aJ bm bc L acc::F)):Calls Tryz.prog 77 #[(.pointer (some ⟨b,0,none⟩)),(.pointer (some ⟨bm,0,none⟩))] w (fN K b bm bc d L acc s F):=by
 have pM:=hok.pc;obtain⟨pc,f,lk,fr,ins,aq,root,word,tk,id,k⟩:=s;simp only at pM;match pc,pM with
 | 0,_=>exact abW hd hL ha hok cS hs
 | 1,_=>exact ab3 hd hL ha hok cS hs
 | 2,_=>exact ab6 hd ha hok cS hs
 | 3,_=>exact ab7 ha hok cS hs
 | 4,_=>exact abX ha hok cS hs
 | 5,_=>exact abY hL ha hok cS hs
 | 6,_=>exact abZ ha cS hs
 | 7,_=>exact ab0 hd ha hok cS hs
 | 8,_=>exact ab1 ha hok cS hs
 | 9,_=>exact ab2 hd ha hok cS hs
 | 10,_=>exact Yp hd ha hok cS hs
 | 11,_=>exact Yn ha cS hs
 | 12,_=>exact Yo ha cS hs
 | 13,_=>exact Ym ha hok cS hs
theorem Oa (hd:d.Ok)(hL:bD L)(ha:acc<=1000000000000)(hok:s.Ok d L)(cS:fM d b s C)(hs:St K w (C++aJ bm bc L acc::F)):Calls Tryz.prog 60 #[(.pointer (some ⟨b,0,none⟩)),(.pointer (some ⟨bm,0,none⟩))] w (fN K b bm bc d L acc s F):=by
 have Q:=aq3 (Tt hd hL ha hok cS hs);clear hs;go_enter Tryz.func60,Tryz.ntmps60
 go_wp2_with fail
 refine(Q.out).mono ?_
 clear Q;rintro e w1 ⟨s',C',rfl,h1,h2,hs⟩;have H:=aq3 (And.intro h1 (And.intro h2 hs));clear h1 h2 hs;go_wp2
 go_ret;exact⟨s',C',rfl,H.out.1,H.out.2.1,H.out.2.2⟩
def Pj (p:j8):eE:=⟨0,p,oA,l6,abG,mL,0,0,⟨0,0,false⟩,0,0⟩
theorem xB {ak ch:Int}{sep:ByteArray}(hs:St K w F):Calls Tryz.prog 59 #[.agg #[.int .i64 d.th,.int .i64 d.sn,.int .i64 d.no,.int .i64 d.ch,.int .i64 d.re,.int .i64 d.fa,.int .u64 d.cl],.int .i64 ak,.string sep,.int .u64 ch] w fun e w' => ∃b C,e=.returned (.pointer (some ⟨b,0,none⟩))/\fM d b (Pj ⟨ak,sep,ch,false⟩) C/\St K w' (C++F):=by
 refine(Iq hs).mono ?_
 rintro e w' ⟨b,b2,b3,b5,bk,iY,bB,Ck,rfl,hr,hs'⟩;exact⟨b,_,rfl,⟨b2,b3,b5,bk,iY,bB,Ck,hr,rfl⟩,by simpa[Pj] using hs'⟩
end
end
section
structure Lb (nd:Nd):Prop where
 jA:kV nd.pg.sl
 rf:∀s,s∈nd.pg.sl->1<=s.r
 bd:∀s,s∈nd.pg.sl->cA s.k nd.low=false/\(nd.pg.la=false->cA s.k nd.pg.hi=true)
def kg (l0:List Nd)(nd:Nd):Prop:=(∃s r,nd.pg.sl=s::r/\s.k=nd.low)/\∀s,s∈nd.pg.sl->∃c,c∈l0/\c.id=s.r/\c.low=s.k
structure r9 (N:Int)(t:List (List Nd)):Prop where
 ne:0<t.length
 rows:∀(k:Nat) (l:List Nd),t[k]?=some l->fL k l
 nodes:∀(k:Nat) (l:List Nd),t[k]?=some l->∀nd,nd∈l->(1<=nd.id/\nd.id<=N)/\Lb nd
 down:∀(k:Nat) (l l':List Nd),t[k]?=some l->t[k+1]?=some l' -> ∀nd,nd∈l' -> kg l nd
 inj:∀(k k':Nat) (l l':List Nd) (i i':Nat) (a b:Nd),t[k]?=some l->t[k']?=some l' -> l[i]?=some a->l'[i']?=some b->a.id=b.id->k=k' /\ i=i'
 count:((t.map List.length).sum:Int)<=N
theorem Yq {t:List (List Nd)}:∀ {k:Nat}{l l':List Nd},t[k]?=some l->((t.set k l').map List.length).sum+l.length=(t.map List.length).sum+l'.length:=by
 induction t with
 | nil=>intro k l l' h;simp at h
 | cons x t ih=>
  intro k l l' h;cases k with
  | zero=>
   obtain rfl:x=l:=by simpa using h
   simp;omega
  | succ k=>
   have:=ih (l' := l') (show t[k]?=some l by simpa using h)
   simp at this ⊢;omega
theorem ei {t:List (List Nd)}{k j:Nat}{l' x:List Nd}(h:(t.set k l')[j]?=some x):(j=k/\x=l')\/(j≠k/\t[j]?=some x):=by
 rw[List.getElem?_set]at h;split at h
 ·rename_i e
  split at h
  ·exact .inl ⟨e.symm,(aq9 h).symm⟩
  ·cases h
 ·rename_i e
  exact .inr ⟨fun q=>e q.symm,h⟩
theorem r9.row {N N':Int}{t:List (List Nd)}{k:Nat}{l l':List Nd}(h:r9 N t)(hl:t[k]?=some l)(hN:N<=N')(hr:fL k l')(hn:∀nd,nd∈l' -> (1<=nd.id/\nd.id<=N')/\Lb nd)
  (hkeep:∀c,c∈l->∃c',c' ∈ l' /\ c'.id=c.id/\c'.low=c.low) (fK:∀(i j:Nat) (a b:Nd),l'[i]?=some a->l'[j]?=some b->a.id=b.id->i=j)
  (hnew:∀a,a∈l' -> (∃c,c∈l/\c.id=a.id)\/N<a.id) (hdn:∀(m:Nat) (l0:List Nd),k=m+1->t[m]?=some l0->∀nd,nd∈l' -> kg l0 nd) (hc:(l'.length:Int)-l.length<=N' - N):r9 N' (t.set k l'):=by
 have aeG:∀(k':Nat) (l1:List Nd) (i i':Nat) (a b:Nd),k' ≠ k->t[k']?=some l1->l1[i]?=some a->l'[i']?=some b->a.id≠b.id:=by
  intro k' l1 i i' a b hne h1 ha hb e;rcases hnew b (aq7 hb)with⟨c,hc,e2⟩|hlt
  ·obtain⟨j,hj⟩:=aq4 hc
   exact hne (h.inj k' k l1 l i j a c h1 hl ha hj (e.trans e2.symm)).1
  ·have:=(h.nodes k' l1 h1 a (aq7 ha)).1.2
   omega
 refine⟨by rw[List.length_set];exact h.ne,fun j x hx=>?_,fun j x hx nd hnd=>?_,fun j x y hx hy nd hnd=>?_,fun k1 k2 l1 l2 i i' a b h1 h2 ha hb e=>?_,?_⟩
 ·rcases ei hx with⟨rfl,rfl⟩|⟨_,hx⟩
  ·exact hr
  ·exact h.rows j x hx
 ·rcases ei hx with⟨rfl,rfl⟩|⟨_,hx⟩
  ·exact hn nd hnd
  ·obtain⟨⟨q1,q2⟩,q3⟩:=h.nodes j x hx nd hnd
   exact⟨⟨q1,by omega⟩,q3⟩
 ·rcases ei hx with⟨e1,rfl⟩|⟨e1,hx2⟩
  ·rcases ei hy with⟨e2,_⟩|⟨_,hy2⟩
   ·omega
   ·subst e1
    obtain⟨q1,q2⟩:=h.down j l y hl hy2 nd hnd;refine⟨q1,fun s hs=>?_⟩
    obtain⟨c,hc,e3,e4⟩:=q2 s hs;obtain⟨c',hc',e5,e6⟩:=hkeep c hc;exact⟨c',hc',e5.trans e3,e6.trans e4⟩
  ·rcases ei hy with⟨e2,rfl⟩|⟨_,hy2⟩
   ·exact hdn j x e2.symm hx2 nd hnd
   ·exact h.down j x y hx2 hy2 nd hnd
 ·rcases ei h1 with⟨rfl,rfl⟩|⟨n1,h1'⟩
  ·rcases ei h2 with⟨rfl,rfl⟩|⟨n2,h2'⟩
   ·exact⟨rfl,fK i i' a b ha hb e⟩
   ·exact absurd e.symm (aeG k2 l2 i' i b a n2 h2' hb ha)
  ·rcases ei h2 with⟨rfl,rfl⟩|⟨n2,h2'⟩
   ·exact absurd e (aeG k1 l1 i i' a b n1 h1' ha hb)
   ·exact h.inj k1 k2 l1 l2 i i' a b h1' h2' ha hb e
 ·have:=Yq (l' := l') hl
  have:=h.count;omega
theorem fL.put {ak:Nat}{l:List Nd}{i:Nat}{nd:Nd}(h:fL ak l)(hi:l[i]?=some nd){pg:Pg}(e1:pg.ak=nd.pg.ak)(e2:pg.hi=nd.pg.hi)(e3:pg.la=nd.pg.la)(e4:pg.ri=nd.pg.ri):fL ak (l.set i { nd with pg:=pg }):=by
 have hat:∀(j:Nat) (x:Nd),(l.set i { nd with pg:=pg })[j]?=some x->∃y,l[j]?=some y/\y.id=x.id/\y.low=x.low/\y.pg.ak=x.pg.ak/\y.pg.hi=x.pg.hi/\y.pg.la=x.pg.la/\y.pg.ri=x.pg.ri:=by
  intro j x hx;rw[List.getElem?_set]at hx;split at hx
  ·rename_i e
   subst e;split at hx
   ·obtain rfl:=aq9 hx
    exact⟨nd,hi,rfl,rfl,e1.symm,e2.symm,e3.symm,e4.symm⟩
   ·cases hx
  ·exact⟨x,hx,rfl,rfl,rfl,rfl,rfl,rfl⟩
 refine⟨by rw[List.length_set];exact h.ne,fun x hx=>?_,fun x hx=>?_,fun j a b ha hb=>?_,fun j a ha hj=>?_⟩
 ·obtain⟨j,hj⟩:=aq4 hx
  obtain⟨y,hy,_,_,q,_⟩:=hat j x hj;rw[←q];exact h.ak y (aq7 hy)
 ·obtain⟨y,hy,_,q,_⟩:=hat 0 x hx
  rw[←q];exact h.first y hy
 ·obtain⟨y,hy,y1,y2,y3,y4,y5,y6⟩:=hat j a ha
  obtain⟨z,hz,z1,z2,z3,z4,z5,z6⟩:=hat (j+1) b hb;obtain⟨q1,q2,q3,q4⟩:=h.next j y z hy hz;exact⟨by rw[←y5];exact q1,by rw[←y4,←z2];exact q2,by rw[←y6,←z1];exact q3,by rw[←y2,←z2];exact q4⟩
 ·obtain⟨y,hy,y1,y2,y3,y4,y5,y6⟩:=hat j a ha
  rw[List.length_set]at hj;obtain⟨q1,q2,q3⟩:=h.last j y hy hj;exact⟨by rw[←y5];exact q1,by rw[←y4];exact q2,by rw[←y6];exact q3⟩
theorem mem_set {l:List Nd}{i:Nat}{a x:Nd}(h:x∈l.set i a):x=a\/x∈l:=by
 obtain⟨j,hj⟩:=aq4 h;rw[List.getElem?_set]at hj;split at hj
 ·split at hj
  ·exact .inl (aq9 hj).symm
  ·cases hj
 ·exact .inr (aq7 hj)
theorem Tu {l:List Nd}{i:Nat}{nd a c:Nd}(hi:l[i]?=some nd)(e1:a.id=nd.id)(e2:a.low=nd.low)(hc:c∈l):∃c',c' ∈ l.set i a/\c'.id=c.id/\c'.low=c.low:=by
 obtain⟨j,hj⟩:=aq4 hc;have hlen:=(aq5.1 hi).1;by_cases h:i=j
 ·subst h
  rw[hi]at hj;obtain rfl:=aq9 hj;exact⟨a,aq7 (i:=i) (by rw[List.getElem?_set_self hlen]),e1,e2⟩
 ·exact⟨c,aq7 (i:=j) (by rw[List.getElem?_set_ne h];exact hj),rfl,rfl⟩
theorem r9.put {N:Int}{t:List (List Nd)}{k i:Nat}{l:List Nd}{nd:Nd}(h:r9 N t)(hl:t[k]?=some l)(hi:l[i]?=some nd){pg:Pg}(e1:pg.ak=nd.pg.ak)(e2:pg.hi=nd.pg.hi)(e3:pg.la=nd.pg.la)(e4:pg.ri=nd.pg.ri)
  (hn:Lb { nd with pg:=pg }) (hdn:∀(m:Nat) (l0:List Nd),k=m+1->t[m]?=some l0->kg l0 { nd with pg:=pg }):r9 N (t.set k (l.set i { nd with pg:=pg })):=by
 have hm:=aq7 hi;refine h.row hl (Int.le_refl _) ((h.rows k l hl).put hi e1 e2 e3 e4) (fun x hx=>?_) (fun c hc=>Tu hi rfl rfl hc) (fun a b x y hx hy e=>?_) (fun a ha=>?_) (fun m l0 hk h0 x hx=>?_) (by rw[List.length_set];omega)
 ·rcases mem_set hx with rfl|hx
  ·exact⟨(h.nodes k l hl nd hm).1,hn⟩
  ·exact h.nodes k l hl x hx
 ·have hat:∀(j:Nat) (z:Nd),(l.set i { nd with pg:=pg })[j]?=some z->∃z',l[j]?=some z' /\ z'.id=z.id:=by
   intro j z hz;rw[List.getElem?_set]at hz;split at hz
   ·rename_i e
    subst e;split at hz
    ·obtain rfl:=aq9 hz
     exact⟨nd,hi,rfl⟩
    ·cases hz
   ·exact⟨z,hz,rfl⟩
  obtain⟨x',hx',ex⟩:=hat a x hx;obtain⟨y',hy',ey⟩:=hat b y hy;exact(h.inj k k l l a b x' y' hl hl hx' hy' (by rw[ex,ey];exact e)).2
 ·rcases mem_set ha with rfl|ha
  ·exact .inl ⟨nd,hm,rfl⟩
  ·exact .inl ⟨a,ha,rfl⟩
 ·rcases mem_set hx with rfl|hx
  ·exact hdn m l0 hk h0
  ·subst hk
   exact h.down m l0 l h0 hl x hx
def wo (l:List Nd)(i:Nat)(a b:Nd):List Nd:=l.take i++a::b::l.drop (i+1)
theorem zf {l:List Nd}{i:Nat}{a b:Nd}(hi:i<l.length):(wo l i a b).length=l.length+1:=by
 simp[wo];omega
theorem fO {l:List Nd}{i:Nat}{a b:Nd}(hi:i<l.length)(j:Nat):(wo l i a b)[j]?=if j<i then l[j]? else if j=i then some a else if j=i+1 then some b else l[j-1]? := by
 unfold wo;have hlen:(l.take i).length=i:=by rw[List.length_take];omega
 by_cases h1:j<i
 ·rw[if_pos h1,List.getElem?_append_left (by rw[hlen];exact h1),List.getElem?_take,if_pos h1]
 ·rw[if_neg h1,List.getElem?_append_right (by rw[hlen];omega),hlen]
  by_cases h2:j=i
  ·rw[if_pos h2,h2,Nat.sub_self];rfl
  ·rw[if_neg h2]
   by_cases h3:j=i+1
   ·rw[if_pos h3,h3,show i+1-i=1 by omega];rfl
   ·rw[if_neg h3]
    obtain⟨m,rfl⟩:∃m,j=i+2+m:=⟨j-(i+2),by omega⟩
    rw[show i+2+m-i=m+1+1 by omega,List.getElem?_cons_succ,List.getElem?_cons_succ,List.getElem?_drop]
    congr 1;omega
theorem zg {l:List Nd}{i:Nat}{a b x:Nd}(h:x∈wo l i a b):x=a\/x=b\/x∈l:=by
 unfold wo at h;rcases List.mem_append.1 h with h|h
 ·exact .inr (.inr (List.mem_of_mem_take h))
 ·rcases List.mem_cons.1 h with h|h
  ·exact .inl h
  ·rcases List.mem_cons.1 h with h|h
   ·exact .inr (.inl h)
   ·exact .inr (.inr (List.mem_of_mem_drop h))
theorem fL.split {ak:Nat}{l:List Nd}{i:Nat}{nd a b:Nd}(h:fL ak l)(hi:l[i]?=some nd)(x8:a.low=nd.low)(Iu:a.id=nd.id)(ha1:a.pg.ak=ak)(ha2:a.pg.la=false)(ha3:a.pg.hi=b.low)(ha4:a.pg.ri=b.id)
  (hb1:b.pg.ak=ak) (hb2:b.pg.la=nd.pg.la) (hb3:b.pg.hi=nd.pg.hi) (hb4:b.pg.ri=nd.pg.ri) (h1:cA nd.low b.low=true) (h2:nd.pg.la=false->cA b.low nd.pg.hi=true):fL ak (wo l i a b):=by
 have hlen:=(aq5.1 hi).1;refine⟨by rw[zf hlen];omega,fun x hx=>?_,fun x hx=>?_,fun j x y hx hy=>?_,fun j x hx hj=>?_⟩
 ·rcases zg hx with rfl|rfl|hx
  ·exact ha1
  ·exact hb1
  ·exact h.ak x hx
 ·rw[fO hlen]at hx
  by_cases h0:0<i
  ·rw[if_pos h0]at hx;exact h.first x hx
  ·obtain rfl:i=0:=by omega
   rw[if_neg h0,if_pos rfl]at hx;obtain rfl:=aq9 hx;rw[x8];exact h.first nd hi
 ·rw[fO hlen]at hx hy
  by_cases c1:j+1<i
  ·rw[if_pos (by omega)]at hx
   rw[if_pos c1]at hy;exact h.next j x y hx hy
  ·rw[if_neg c1]at hy
   by_cases c2:j+1=i
   ·rw[if_pos (by omega)]at hx
    rw[if_pos c2]at hy;obtain rfl:=aq9 hy;subst c2;obtain⟨q1,q2,q3,q4⟩:=h.next j x nd hx hi;exact⟨q1,by rw[x8];exact q2,by rw[Iu];exact q3,by rw[x8];exact q4⟩
   ·rw[if_neg c2]at hy
    by_cases c3:j+1=i+1
    ·obtain rfl:j=i:=by omega
     rw[if_neg (by omega),if_pos rfl]at hx
     rw[if_pos rfl]at hy;obtain rfl:=aq9 hx;obtain rfl:=aq9 hy;exact⟨ha2,ha3,ha4,by rw[x8];exact h1⟩
    ·rw[if_neg c3]at hy
     rw[if_neg (by omega),if_neg (by omega)]at hx
     by_cases c4:j=i+1
     ·rw[if_pos c4]at hx
      obtain rfl:=aq9 hx;rw[c4,show i+1+1-1=i+1 by omega]at hy
      obtain⟨q1,q2,q3,q4⟩:=h.next i nd y hi hy;exact⟨by rw[hb2];exact q1,by rw[hb3];exact q2,by rw[hb4];exact q3,by rw[←q2];exact h2 q1⟩
     ·rw[if_neg c4]at hx
      exact h.next (j-1) x y hx (by rw[show j-1+1=j+1-1 by omega];exact hy)
 ·rw[zf hlen]at hj
  rw[fO hlen]at hx;rw[if_neg (by omega),if_neg (by omega)]at hx
  by_cases c4:j=i+1
  ·rw[if_pos c4]at hx
   obtain rfl:=aq9 hx;obtain⟨q1,q2,q3⟩:=h.last i nd hi (by omega)
   exact⟨by rw[hb2];exact q1,by rw[hb3];exact q2,by rw[hb4];exact q3⟩
  ·rw[if_neg c4]at hx
   exact h.last (j-1) x hx (by omega)
end
section
def cg (t:List (List Nd))(k:Nat):Nat:=((t.take k).map List.length).sum
theorem kF {t:List (List Nd)}{k:Nat}{l:List Nd}(h:t[k]?=some l):cg t (k+1)=cg t k+l.length:=by
 unfold cg;rw[List.take_add_one,h];simp
theorem xC (t:List (List Nd))(k:Nat):cg t k<=(t.map List.length).sum:=by
 unfold cg;have h:(t.map List.length).sum=((t.take k).map List.length).sum+((t.drop k).map List.length).sum:=by
  rw[←List.sum_append,←List.map_append,List.take_append_drop]
 omega
def Tv (t:List (List Nd))(key:ByteArray)(level:Nat)(s:pO):Prop:=
 (level<t.length->∃(l:List Nd) (i:Nat) (nd:Nd),t[level]?=some l/\l[i]?=some nd/\s.id=nd.id/\s.pg=nd.pg/\cA key nd.low=false/\(nd.pg.la || cA key nd.pg.hi)=true)/\(t.length<=level->s.id=0/\s.pg=Fu)
def bJ (d:aR):Nat:=d.fa.toNat+5
def kj (d:aR)(L:List aO)(t:List (List Nd))(key:ByteArray)(level:Nat)(s:pO)(m:Nat):Prop:=
 (s.pc=0/\(t.map List.length).sum*bJ d+1<=m) \/
 (s.pc=1/\∃(k i:Nat) (l:List Nd) (nd:Nd) (n:Nat),t[k]?=some l/\l[i]?=some nd/\s.id=nd.id/\s.rd=it (rdStep d nd.id L) n oI/\s.rd.pc<6/\cA key nd.low=false/\(level<=k\/k+1=t.length) /\
  (l.length-i+cg t k-1)*bJ d+(bJ d-n)<=m) \/
 (s.pc=2/\Tv t key level s)
section
variable {d:aR}{L:List aO}{t:List (List Nd)}{key:ByteArray}{level:Nat}{s:pO}{m:Nat}
theorem kj.start:kj d L t key level fd0 ((t.map List.length).sum*bJ d+1):= .inl ⟨rfl,Nat.le_refl _⟩
theorem kj.go (ht:cD d L t){k i:Nat}{l:List Nd}{nd:Nd}(hk:t[k]?=some l)(hi:l[i]?=some nd)(dW:cA key nd.low=false)(bZ:level<=k\/k+1=t.length){s0:pO}
  (hm:(l.length-i+cg t k)*bJ d<=m):kj d L t key level (gP s0 nd.id) m:=by
 have hid:=(ht.nodes k l hk nd (aq7 hi)).id.1;have hil:=(aq5.1 hi).1;have e:gP s0 nd.id=⟨1,nd.id,s0.pg,oI⟩:=by unfold gP;rw[if_neg (by omega)]
 rw[e];refine .inr (.inl ⟨rfl,k,i,l,nd,0,hk,hi,rfl,rfl,(show(0:Nat)<6 by omega),dW,bZ,?_⟩)
 have h1:l.length-i+cg t k=(l.length-i+cg t k-1)+1:=by omega
 rw[h1,Nat.add_mul,Nat.one_mul]at hm;omega
theorem kj.step (hd:d.Ok)(hL:bD L)(ht:cD d L t)(h:kj d L t key level s m)(pM:s.pc≠2) :
  1<=m/\kj d L t key (level:Nat) (bS d L key level s) (m-1)/\s.Ok d/\(s.pc=1->(rdStep d s.id L s.rd).pc=6->oX level (rdStep d s.id L s.rd).pg):=by
 have rO:=hd.fo;have iX:=hd.mJ;rcases h with⟨h0,hm⟩|⟨h1,k,i,l,nd,n,hk,hi,hid,hrd,h6,dW,bZ,hm⟩|⟨h2,_⟩
 ·obtain⟨pc,id,pg,rd⟩:=s
  simp only at h0;subst h0;obtain⟨nd,rest,fU,hroot⟩:=ht.top;refine⟨by omega,?_,⟨(show(0:Nat)<=2 by omega),fun h=>by cases h⟩,fun h=>by cases h⟩
  show kj d L t key level (gP _ (ah L 0).n) _
  rw[hroot];have hne:=ht.ne;have nQ:=(ht.rows _ _ fU).first nd rfl
  refine kj.go ht fU (i:=0) rfl (by rw[nQ];exact jd _) (.inr (by omega)) ?_
  have hb:=kF fU;have hle:=xC t (t.length-1+1);have e:(nd::rest).length-0+cg t (t.length-1)<=(t.map List.length).sum:=by
   simp only[List.length_cons,List.length_nil]at hb ⊢;omega
  have:=Nat.mul_le_mul_right (bJ d) e;omega
 ·obtain⟨pc,id,pg,rd⟩:=s
  simp only at h1 hid hrd h6;subst h1 hid;have hmem:=aq7 hi;have hN:=ht.nodes k l hk nd hmem;have hR:=ht.rows k l hk;have hil:=(aq5.1 hi).1;have Tw:bW (ah L (d.node nd.id 0)).n=false:=hN.free.vD;have hle:=hN.page.le;have Yg:n<nd.pg.sl.length+5:=Xh hN.page Tw rfl (by rw[←hrd];exact h6)
  have Ju:bJ d=d.fa.toNat+5:=rfl;have aaf:rd.Ok d:=by rw[hrd];exact abc hd hL (Rq d) n
  have hnext:rdStep d nd.id L rd=it (rdStep d nd.id L) (n+1) oI:=by rw[qh,←hrd]
  have hpage:(rdStep d nd.id L rd).pc=6->(rdStep d nd.id L rd).pg=nd.pg:=fun h=>by
   rw[hnext]at h ⊢;exact Xi hN.page Tw rfl h
  refine⟨by omega,?_,⟨by show 1<=2;omega,fun _=>⟨hN.id.1,by have:=hN.id.2;show nd.id<_;omega,aaf,by show rd.pc<=5;omega⟩⟩,fun _ h=>?_⟩
  rotate_left
  ·show oX (level:Int) (rdStep d nd.id L rd).pg
   rw[hpage h];refine⟨?_,fun s hs=>by have:=hN.rf s hs;omega,fun _=>hN.jA⟩
   rcases Nat.lt_or_ge (i+1) l.length with hlt|hge
   ·obtain⟨b,hb⟩:∃b,l[i+1]?=some b:=⟨_,aq8 hlt⟩
    rw[(hR.next i nd b hi hb).2.2.1];have:=(ht.nodes k l hk b (aq7 hb)).id.1;omega
   ·rw[(hR.last i nd hi (by omega)).2.2];omega
  by_cases h6':(rdStep d nd.id L rd).pc=6
  ·have e:bS d L key level ⟨1,nd.id,pg,rd⟩=iK key level nd.id nd.pg:=by
    show(if _ then _ else _)=_
    rw[if_pos h6',hpage h6']
   rw[e];have aeH:=hR.ak nd hmem;have aoc:1<=l.length-i+cg t k:=by omega
   have hmm:(l.length-i+cg t k-1)*bJ d<=m-1:=by omega
   unfold iK;by_cases hlt:nd.pg.ak<level
   ·rw[if_pos hlt]
    refine .inr (.inr ⟨rfl,fun h=>by omega,fun _=>⟨rfl,rfl⟩⟩)
   ·rw[if_neg hlt]
    cases hin:(nd.pg.la || cA key nd.pg.hi)with
    | true=>
     rw[if_pos rfl];by_cases heq:nd.pg.ak=level
     ·rw[if_pos heq]
      have qu:k=level:=by omega
      subst qu;refine .inr (.inr ⟨rfl,fun _=>⟨l,i,nd,hk,hi,rfl,rfl,dW,hin⟩,fun h=>?_⟩)
      have:=(aq5.1 hk).1;omega
     ·rw[if_neg heq]
      obtain⟨k',rfl⟩:∃k',k=k' + 1:=⟨k-1,by omega⟩
      obtain⟨l',hk'⟩:∃l',t[k']?=some l' := ⟨_,aq8 (by have:=(aq5.1 hk).1;omega)⟩
      obtain⟨⟨s0,r,eY,hs0⟩,hall⟩:=ht.down k' l' l hk' hk nd hmem;have hpos:0<iE nd.pg.sl key:=(jm hN.jA (i:=0) (s:=s0) (by rw[eY];rfl)).1 (by rw[hs0];exact dW)
      have ajx:=uf nd.pg.sl key;obtain⟨sv,Wh⟩:∃sv,nd.pg.sl[iE nd.pg.sl key-1]?=some sv:=⟨_,aq8 (by omega)⟩
      have hsk:=(jm hN.jA (key:=key) Wh).2 (by omega)
      have hcr:js key nd.pg.sl=sv.r:=by
       unfold js jG;rw[if_neg (by omega),show((iE nd.pg.sl key:Int)-1).toNat=iE nd.pg.sl key-1 by omega,Wh]
      obtain⟨c,hc,Tx,Ty⟩:=hall sv (aq7 Wh);obtain⟨j,hj⟩:=aq4 hc;rw[hcr,←Tx];refine kj.go ht hk' hj (by rw[Ty];exact hsk) (.inl (by omega)) ?_
      have hb:=kF hk';have e2:l'.length-j+cg t k' <= l.length-i+cg t (k' + 1)-1:=by omega
      exact Nat.le_trans (Nat.mul_le_mul_right _ e2) hmm
    | false=>
     rw[if_neg (by simp)]
     simp only[Bool.or_eq_false_iff]at hin;have hlt2:i+1<l.length:=by
      rcases Nat.lt_or_ge (i+1) l.length with h|h
      ·exact h
      ·have:=(hR.last i nd hi (by omega)).1
       rw[hin.1]at this;cases this
     obtain⟨b,hb⟩:∃b,l[i+1]?=some b:=⟨_,aq8 hlt2⟩;obtain⟨_,q2,q3,_⟩:=hR.next i nd b hi hb;rw[q3];refine kj.go ht hk hb (by rw[←q2];exact hin.2) bZ ?_
     have e2:l.length-(i+1)+cg t k<=l.length-i+cg t k-1:=by omega
     exact Nat.le_trans (Nat.mul_le_mul_right _ e2) hmm
  ·have e:bS d L key level ⟨1,nd.id,pg,rd⟩=⟨1,nd.id,pg,rdStep d nd.id L rd⟩:=by
    show(if _ then _ else _)=_
    rw[if_neg h6']
   rw[e];have hok:=oh hd (id:=nd.id) hL aaf;refine .inr (.inl ⟨rfl,k,i,l,nd,n+1,hk,hi,rfl,hnext,by have:=hok.pc;show(rdStep d nd.id L rd).pc<6;omega,dW,bZ,by omega⟩)
 ·exact absurd h2 pM
end
end
end Go.Proofs.YtlpdhhhgckpcfaaGreat
