
/- The machine post.Post as a transition system: its state, its parts, its step. The machine post.Post: its step. -/
import Derived.Test.YtlpdhhhgckpcfaaGreatPostS
namespace Go.Proofs.YtlpdhhhgckpcfaaGreat
open Go.RowKit
set_option maxRecDepth 100000
structure eE where
 pc:Nat
 f:j4
 lk:u6
 fr:cB
 ins:fU
 aq:oO
 root:Int
 word:Int
 tk:iy
 id:Int
 k:Nat
def eE.fu (s:eE):Pg:=aZ s.fr.pg s.f.sep s.f.ch
def eE.left (s:eE):cB:=if s.ins.full then s.fr else⟨s.fr.id,dM (bC s.fr.word),s.ins.pg s.fu⟩
def eE.right (s:eE):cB:=s.ins.right s.fu
def eE.Xj (s:eE):ByteArray:=if s.ins.sp then bM s.fu else⟨#[]⟩
def eE.ps (d:aR)(s:eE):List Pt:=⟨d.node s.id 0,⟨aO 0,⟨#[]⟩,0⟩⟩::bN d s.id (fe s.f.az s.root)
def j4.end (p:j4)(x:Bool):j4:=⟨p.az,p.sep,p.ch,x⟩
def gO (d:aR)(L:List aP)(s:eE):List aP:=match s.pc with
 | 0=>(aM d s.f.sep s.f.az L s.lk).2
 | 1=>bQ d L s.ins
 | 2=>aN L (d.node s.left.id 0) ⟨aH s.left.word,⟨#[]⟩,0⟩
 | 3=>aN L (d.node s.right.id 0) ⟨aH s.right.word,⟨#[]⟩,0⟩
 | 4=>aN L (d.node s.fr.id 0) ⟨aH s.fr.word,⟨#[]⟩,0⟩
 | 5=>(bL 7 L s.aq).2
 | 8=>aN L 7 ⟨aH s.word,⟨#[]⟩,0⟩
 | 9=>(aG 4 d.no L s.tk).2
 | 10=>match (s.ps d)[s.k]? with
  | some pt=>aN L pt.i pt.c
  | none=>L
 | 11=>aN L (d.node s.id 0) ⟨aH (aO 0),⟨#[]⟩,0⟩
 | 12=>aN L 0 ⟨s.id,⟨#[]⟩,0⟩
 | 13=>aN L 7 ⟨aH s.word,⟨#[]⟩,0⟩
 | _=>L
def o8 (d:aR)(L:List aP)(s s':eE):Prop:=match s.pc with
 | 0=>((aM d s.f.sep s.f.az L s.lk).1.pc≠4/\s' = { s with lk:=(aM d s.f.sep s.f.az L s.lk).1 }) \/
   ((aM d s.f.sep s.f.az L s.lk).1.pc=4/\(((aM d s.f.sep s.f.az L s.lk).1.h.id=0/\s' = { s with pc:=5,lk:=(aM d s.f.sep s.f.az L s.lk).1,aq:=mF }) \/
    ((aM d s.f.sep s.f.az L s.lk).1.h.id≠0/\gM (aM d s.f.sep s.f.az L s.lk).1.h.pg.sl s.f.sep<je (aM d s.f.sep s.f.az L s.lk).1.h.pg.sl s.f.sep/\s' = { s with pc:=4,lk:=(aM d s.f.sep s.f.az L s.lk).1,fr:=(aM d s.f.sep s.f.az L s.lk).1.h }) \/
    ((aM d s.f.sep s.f.az L s.lk).1.h.id≠0/\¬ gM (aM d s.f.sep s.f.az L s.lk).1.h.pg.sl s.f.sep<je (aM d s.f.sep s.f.az L s.lk).1.h.pg.sl s.f.sep/\∃ ins,oX d (aM d s.f.sep s.f.az L s.lk).1.h (aZ (aM d s.f.sep s.f.az L s.lk).1.h.pg s.f.sep s.f.ch) ins/\s' = { s with pc:=1,lk:=(aM d s.f.sep s.f.az L s.lk).1,fr:=(aM d s.f.sep s.f.az L s.lk).1.h,ins:=ins })))
 | 1=>∃ ins',iz d s.fr s.fu L s.ins ins' /\ ((ins'.pc<3/\s' = { s with ins:=ins' })\/(3<=ins'.pc/\s' = { s with pc:=2,ins:=ins' }))
 | 2=>(s.ins.full=true/\s' = { s with pc:=14,f:=s.f.end false })\/(s.ins.full=false/\s.right.id=0/\s' = { s with pc:=14,f:=s.f.end true })\/(s.ins.full=false/\s.right.id≠0/\s' = { s with pc:=3 })
 | 3=>s' = { s with pc:=0,f:=⟨s.f.az+1,s.Xj,s.right.id,s.f.po⟩,lk:=oU }
 | 4=>s' = { s with pc:=14,f:=s.f.end true }
 | 5=>((bL 7 L s.aq).1.pc≠2/\s' = { s with aq:=(bL 7 L s.aq).1 })\/((bL 7 L s.aq).1.pc=2/\s' = { s with pc:=6,aq:=(bL 7 L s.aq).1 })
 | 6=>s' = { s with pc:=7,root:=(ah L 0).n }
 | 7=>(s.f.az<=(ah L (d.node s.root 1)).m/\s' = { s with pc:=8,word:=s.aq.word })\/(¬ s.f.az<=(ah L (d.node s.root 1)).m/\s' = { s with pc:=9,word:=s.aq.word,tk:=⟨0,0,false⟩ })
 | 8=>s' = { s with pc:=0,lk:=oU }
 | 9=>((aG 4 d.no L s.tk).1.pc<2/\s' = { s with tk:=(aG 4 d.no L s.tk).1 }) \/
   (2<=(aG 4 d.no L s.tk).1.pc/\(aG 4 d.no L s.tk).1.ok=false/\s' = { s with pc:=13,tk:=(aG 4 d.no L s.tk).1 }) \/
   (2<=(aG 4 d.no L s.tk).1.pc/\(aG 4 d.no L s.tk).1.ok=true/\s' = { s with pc:=10,tk:=(aG 4 d.no L s.tk).1,id:=(aG 4 d.no L s.tk).1.seen+1,k:=0 })
 | 10=>(s.k+1≠(s.ps d).length/\s' = { s with k:=s.k+1 })\/(s.k+1=(s.ps d).length/\s' = { s with pc:=11,k:=s.k+1 })
 | 11=>s' = { s with pc:=12 }
 | 12=>s' = { s with pc:=8 }
 | 13=>s' = { s with pc:=14,f:=s.f.end false }
 | _=>s'=s
def fK (d:aR)(b:Nat)(s:eE)(C:List aB):Prop:=match s.pc with
 | 0=>∃ b2 b3 b5 bk iQ bA Ck,lr d s.f.sep s.f.az bk s.lk Ck/\C=blk b (.cells ((aX (some (aA b2 b3 b5))) :: .bool true::bj d s.f).toArray 167)::bD b2 b3 b5 (.iface 37 (.pointer (some ⟨bk,0,none⟩))) (jg iQ bA)::([blk iQ (.cells #[(.pointer (some ⟨bk,0,none⟩))] 37),blk bA (.cells #[(.pointer (some ⟨b,0,none⟩))] 100)]++Ck)
 | 1=>∃ b2 b3 b5 bi bA ei Ci,kI d s.fr s.fu bi s.ins Ci/\C=blk b (.cells ((aX (some (aA b2 b3 b5))) :: .bool true::bj d s.f).toArray 167)::bD b2 b3 b5 (.iface 82 (.pointer (some ⟨bi,0,none⟩))) (l4 bA ei)::([blk bA (.cells #[(.pointer (some ⟨b,0,none⟩))] 100),blk ei (.cells #[(.pointer (some ⟨bi,0,none⟩))] 82)]++Ci)
 | 2=>∃ b2 b3 b5 br iZ ja bA ei bi x,yA s.fr s.fu s.ins x/\C=blk b (.cells ((aX (some (aA b2 b3 b5))) :: .bool true::bj d s.f).toArray 167)::bD b2 b3 b5 (.iface 47 (.pointer (some ⟨br,0,none⟩))) (ko ei bA)::([blk bA (.cells #[(.pointer (some ⟨b,0,none⟩))] 100),blk ei (.cells #[(.pointer (some ⟨bi,0,none⟩))] 82),bz bi .nilFunc d x,bq x.vl x.le.pg,bq x.vr x.ri.pg]++eZ br iZ ja (d.node s.left.id 0) s.left.word 0)
 | 3=>∃ b2 b3 b5 br iZ ja bA ei bi x,yA s.fr s.fu s.ins x/\C=blk b (.cells ((aX (some (aA b2 b3 b5))) :: .bool true::bj d s.f).toArray 167)::bD b2 b3 b5 (.iface 47 (.pointer (some ⟨br,0,none⟩))) (jF bA ei)::([blk bA (.cells #[(.pointer (some ⟨b,0,none⟩))] 100),blk ei (.cells #[(.pointer (some ⟨bi,0,none⟩))] 82),bz bi .nilFunc d x,bq x.vr x.ri.pg]++eZ br iZ ja (d.node s.right.id 0) s.right.word 0)
 | 4=>∃ b2 b3 b5 br iZ ja bA,C=blk b (.cells ((aX (some (aA b2 b3 b5))) :: .bool true::bj d s.f).toArray 167)::bD b2 b3 b5 (.iface 47 (.pointer (some ⟨br,0,none⟩))) (Ka bA)::([blk bA (.cells #[(.pointer (some ⟨b,0,none⟩))] 100)]++eZ br iZ ja (d.node s.fr.id 0) s.fr.word 0)
 | 5=>∃ b2 b3 b5 ba bA eT,C=blk b (.cells ((aX (some (aA b2 b3 b5))) :: .bool true::bj d s.f).toArray 167)::bD b2 b3 b5 (.iface 175 (.pointer (some ⟨ba,0,none⟩))) (yI bA eT)::([blk bA (.cells #[(.pointer (some ⟨b,0,none⟩))] 100),blk eT (.cells #[(.pointer (some ⟨ba,0,none⟩))] 175)]++[fT ba 7 s.aq])
 | 6=>∃ ba bA eT,C=blk b (.cells ((aX (some (Cs bA eT))) :: .bool true::bj d s.f).toArray 167)::[blk bA (.cells #[(.pointer (some ⟨b,0,none⟩))] 100),blk eT (.cells #[(.pointer (some ⟨ba,0,none⟩))] 175),fT ba 7 s.aq]
 | 7=>∃ ba bA eT jE,C=blk b (.cells ((aX (some (Ct bA jE eT))) :: .bool true::bj d s.f).toArray 167)::[blk bA (.cells #[(.pointer (some ⟨b,0,none⟩))] 100),blk jE (.cells #[.int .u64 s.root] 23),blk eT (.cells #[(.pointer (some ⟨ba,0,none⟩))] 175),fT ba 7 s.aq]
 | 8=>∃ b2 b3 b5 br iZ ja,C=blk b (.cells ((aX (some (aA b2 b3 b5))) :: .bool true::bj d s.f).toArray 167)::bD b2 b3 b5 (.iface 47 (.pointer (some ⟨br,0,none⟩))) (Si b)::([]++eZ br iZ ja 7 s.word 0)
 | 9=>∃ b2 b3 b5 bt wZ bA fc jE,C=blk b (.cells ((aX (some (aA b2 b3 b5))) :: .bool true::bj d s.f).toArray 167)::bD b2 b3 b5 (.iface 156 (.pointer (some ⟨bt,0,none⟩))) (yJ wZ bA fc jE)::([blk wZ (.cells #[(.pointer (some ⟨bt,0,none⟩))] 156),blk bA (.cells #[(.pointer (some ⟨b,0,none⟩))] 100),blk fc (.cells #[.int .u64 s.word] 23),blk jE (.cells #[.int .u64 s.root] 23)]++[gH bt 4 d.no s.tk])
 | 10=>∃ b2 b3 b5 bf bF g cap av cv bA jf gN fc,C=blk b (.cells ((aX (some (aA b2 b3 b5))) :: .bool true::bj d s.f).toArray 167)::bD b2 b3 b5 (.iface 74 (.pointer (some ⟨bf,0,none⟩))) (sY bA jf gN fc)::([blk jf (.cells #[(.pointer (some ⟨bf,0,none⟩))] 74),blk gN (.cells #[.int .u64 s.id] 23),blk bA (.cells #[(.pointer (some ⟨b,0,none⟩))] 100),blk fc (.cells #[.int .u64 s.word] 23)]++Gu bf bF s.id (fe s.f.az s.root) (.slice av (fe s.f.az s.root).sl.length cv) g cap (s.ps d) s.k)
 | 11=>∃ b2 b3 b5 br iZ ja bA gN fc,C=blk b (.cells ((aX (some (aA b2 b3 b5))) :: .bool true::bj d s.f).toArray 167)::bD b2 b3 b5 (.iface 47 (.pointer (some ⟨br,0,none⟩))) (l8 bA gN fc)::([blk bA (.cells #[(.pointer (some ⟨b,0,none⟩))] 100),blk gN (.cells #[.int .u64 s.id] 23),blk fc (.cells #[.int .u64 s.word] 23)]++eZ br iZ ja (d.node s.id 0) (aO 0) 0)
 | 12=>∃ bA gN fc,C=blk b (.cells ((aX (some (Sj bA gN fc))) :: .bool true::bj d s.f).toArray 167)::[blk bA (.cells #[(.pointer (some ⟨b,0,none⟩))] 100),blk gN (.cells #[.int .u64 s.id] 23),blk fc (.cells #[.int .u64 s.word] 23)]
 | 13=>∃ b2 b3 b5 br iZ ja bA,C=blk b (.cells ((aX (some (aA b2 b3 b5))) :: .bool true::bj d s.f).toArray 167)::bD b2 b3 b5 (.iface 47 (.pointer (some ⟨br,0,none⟩))) (Kc bA)::([blk bA (.cells #[(.pointer (some ⟨b,0,none⟩))] 100)]++eZ br iZ ja 7 s.word 0)
 | _=>C=[blk b (.cells (.nilFunc :: .bool true::bj d s.f).toArray 167)]
structure eE.Ok (d:aR)(L:List aP)(s:eE):Prop where
 pc:s.pc<=13
 az:0<=s.f.az/\s.f.az<1000
 lk:s.pc=0->s.lk.Ok d s.f.sep s.f.az L/\s.lk.h=mA/\(aM d s.f.sep s.f.az L s.lk).1.pc<=4/\((aM d s.f.sep s.f.az L s.lk).1.pc=4->(aM d s.f.sep s.f.az L s.lk).1.h.pg.sl.length<=1000000 /\
  ((aM d s.f.sep s.f.az L s.lk).1.h.id≠0->(aM d s.f.sep s.f.az L s.lk).1.h.Ok d/\kV (aM d s.f.sep s.f.az L s.lk).1.h.pg.sl/\(¬ gM (aM d s.f.sep s.f.az L s.lk).1.h.pg.sl s.f.sep<je (aM d s.f.sep s.f.az L s.lk).1.h.pg.sl s.f.sep->lq d (aM d s.f.sep s.f.az L s.lk).1.h (aZ (aM d s.f.sep s.f.az L s.lk).1.h.pg s.f.sep s.f.ch))))
 ins:s.pc=1->s.fr.Ok d/\lq d s.fr s.fu/\s.ins.Ok d s.fu
 left:s.pc=2->(0<=s.left.word/\s.left.word<18446744073709551616)/\s.right.pg.sl.length<=1000000/\(0<=s.right.id/\s.right.id<18446744073709551616)
 right:s.pc=3->(0<=s.right.word/\s.right.word<18446744073709551616)/\s.right.pg.sl.length<=1000000
 found:s.pc=4->0<=s.fr.word/\s.fr.word<18446744073709551616
 acq:s.pc=5->s.aq.Ok/\s.aq.pc≠2
 root:s.pc=7->(0<=s.root/\s.root<18446744073709551616)/\s.aq.pc=2/\(0<=(ah L (d.node s.root 1)).m/\(ah L (d.node s.root 1)).m<1000000)
 word:s.pc=8\/s.pc=13->0<=s.word/\s.word<18446744073709551616
 take:s.pc=9->s.tk.pc<2/\(s.tk.pc=1->0<=s.tk.seen/\s.tk.seen<18446744073709551615)/\((aG 4 d.no L s.tk).1.ok=true->0<=(aG 4 d.no L s.tk).1.seen/\(aG 4 d.no L s.tk).1.seen<18446744073709551615)
 fresh:s.pc=10->s.k<(s.ps d).length/\(0<=s.id/\s.id<18446744073709551616)
theorem Cu (n : Nat) (a : Addr) (w : World) : (method (n + 1) 37 (.pointer (some a)) "Step").run Tryz.prog w = .ok (18, .pointer (some a)) w := by kernel_rfl
theorem vP (n : Nat) (a : Addr) (w : World) : (method (n + 1) 82 (.pointer (some a)) "Step").run Tryz.prog w = .ok (48, .pointer (some a)) w := by kernel_rfl
section
variable {K:aK}{w:World}{F:List aB}{b bm bc acc:Nat}{d:aR}{L:List aP}{s:eE}{C:List aB}
def fN (K:aK)(b bm bc:Nat)(d:aR)(L:List aP)(acc:Nat)(s:eE)(F:List aB)(e:Ending)(w':World):Prop:=
 ∃ s' C',e=.returned (.bool (decide (14<=s'.pc)))/\o8 d L s s' /\ fK d b s' C' /\ St K w' (C' ++ aJ bm bc (gO d L s) (acc+1)::F)
def Sk (K:aK)(b bm bc:Nat)(d:aR)(L:List aP)(acc:Nat)(s:eE)(nx:Value)(F:List aB)(e:Ending)(w':World):Prop:=
 ∃ (o:Option FV) (C2:List aB) (s':eE),e=.returned (aX o)/\o8 d L s s' /\ o.isNone=decide (14<=s'.pc)/\fK d b s' (blk b (.cells ((aX o) :: .bool true::bj d s'.f).toArray 167)::C2)/\St K w' (blk b (.cells (nx :: .bool true::bj d s'.f).toArray 167)::(C2++aJ bm bc (gO d L s) (acc+1)::F))
theorem Sn {fv:FV}(hf:Enters fv.f)(hc:w.cell? ⟨b,0,none⟩=some (aX (some fv)))(h:Calls Tryz.prog fv.f (fv.x ++ #[(.pointer (some ⟨bm,0,none⟩))]++fv.y) w (Sk K b bm bc d L acc s (aX (some fv)) F)):Calls Tryz.prog 77 #[(.pointer (some ⟨b,0,none⟩)),(.pointer (some ⟨bm,0,none⟩))] w (fN K b bm bc d L acc s F):=by
 refine(gZ (K:=K) (α:={ x:Option FV × List aB × eE // o8 d L s x.2.2/\x.1.isNone=decide (14<=x.2.2.pc)/\fK d b x.2.2 (blk b (.cells ((aX x.1) :: .bool true::bj d x.2.2.f).toArray 167)::x.2.1) })
  (f:=fv) (o:=fun x=>x.1.1) (nx:=aX (some fv)) (tl:=fun x=> .bool true::bj d x.1.2.2.f) (F' := fun x=>x.1.2.1++aJ bm bc (gO d L s) (acc+1)::F) (T:=167) hf hc (h.mono ?_)).mono ?_
 ·rintro e w1 ⟨o,C2,s',he,h1,h2,h3,hs⟩
  exact⟨⟨(o,C2,s'),h1,h2,h3⟩,he,hs⟩
 ·rintro e w1 ⟨⟨⟨o,C2,s'⟩,h1,h2,h3⟩,he,hs⟩
  exact⟨s',_,by rw[he,show o.isNone=decide (14<=s'.pc)from h2],h1,h3,hs⟩
theorem jW {b2 b3 b5:Nat}{T2:TypeId}{xv:Value}{g f:Nat}{tx ty:Array Value}{V Cm:List aB}{R:Bool->List aB->Prop}
  (hin:kg K bm bc g xv L acc Cm (gO d L s) (acc+1) R)
  (hm : ∀ (n : Nat) (w : World), (method (n + 1) T2 xv "Step").run Tryz.prog w = .ok (g, xv) w) (hg : Enters g) (hf : Enters f)
  (hnext:∀ (C':List aB) (w:World) (F:List aB),R true C' -> St K w (blk b (.cells ((aX (some (aA b2 b3 b5))) :: .bool true::bj d s.f).toArray 167)::(V++(C' ++ aJ bm bc (gO d L s) (acc+1)::F)))->Calls Tryz.prog f (tx++ty) w (Sk K b bm bc d L acc s (aX (some (aA b2 b3 b5))) F))
  (hstay:∀ C',R false C' -> ∃ s',o8 d L s s' /\ s'.pc<14/\fK d b s' (blk b (.cells ((aX (some (aA b2 b3 b5))) :: .bool true::bj d s.f).toArray 167)::bD b2 b3 b5 (.iface T2 xv) (.func (.func f) tx ty)::(V++C')))
  (hs:St K w (blk b (.cells ((aX (some (aA b2 b3 b5))) :: .bool true::bj d s.f).toArray 167)::bD b2 b3 b5 (.iface T2 xv) (.func (.func f) tx ty)::(V++(Cm++aJ bm bc L acc::F)))) :
  Calls Tryz.prog 77 #[(.pointer (some ⟨b,0,none⟩)),(.pointer (some ⟨bm,0,none⟩))] w (fN K b bm bc d L acc s F):=by
 refine(kg.nA (R:=R) (R2:=fun o og C2=>∃ s',og=.bool true::bj d s'.f/\o8 d L s s' /\ o.isNone=decide (14<=s'.pc)/\fK d b s' (blk b (.cells ((aX o) :: .bool true::bj d s'.f).toArray 167)::C2)) hin hm hg hf (fun C' w F hR hs=>(hnext C' w F hR hs).mono ?_) w F hs).mono ?_
 ·rintro e w2 ⟨o,C2,s',he,h1,h2,h3,hs2⟩
  exact⟨o,_,C2,he,⟨s',rfl,h1,h2,h3⟩,hs2⟩
 ·rintro e w' ⟨o,og,C2,he,hs',⟨rfl,rfl,C',hR,rfl⟩|⟨s',rfl,h1,h2,h3⟩⟩
  ·obtain⟨s',h1,h2,h3⟩:=hstay C' hR
   refine⟨s',_,?_,h1,h3,hs'⟩;rw[he,decide_eq_false (by omega)]
   rfl
  ·exact⟨s',_,by rw[he,h2],h1,h3,hs'⟩
end
section
variable {K:aK}{w:World}{F:List aB}{b bm bc acc:Nat}{d:aR}{L:List aP}{f:j4}{lk:u6}{fr:cB}{ins:fU}{aq:oO}{root word:Int}{tk:iy}{id:Int}{k:Nat}{C:List aB}
theorem abt (hd:d.Ok)(hL:bI L)(ha:acc<=1000000000000)(hok:eE.Ok d L ⟨0,f,lk,fr,ins,aq,root,word,tk,id,k⟩)(dm:fK d b ⟨0,f,lk,fr,ins,aq,root,word,tk,id,k⟩ C)(hs:St K w (C++aJ bm bc L acc::F)):Calls Tryz.prog 77 #[(.pointer (some ⟨b,0,none⟩)),(.pointer (some ⟨bm,0,none⟩))] w (fN K b bm bc d L acc ⟨0,f,lk,fr,ins,aq,root,word,tk,id,k⟩ F):=by
 obtain⟨b2,b3,b5,bk,iQ,bA,Ck,hlk,rfl⟩:=dm;obtain⟨k1,k2,k3,k4⟩:=hok.lk rfl;simp only at k1 k2 k3 k4 hlk hs;have hs:St K w (blk b (.cells ((aX (some (aA b2 b3 b5))) :: .bool true::bj d f).toArray 167)::bD b2 b3 b5 (.iface 37 (.pointer (some ⟨bk,0,none⟩))) (jg iQ bA)::([blk iQ (.cells #[(.pointer (some ⟨bk,0,none⟩))] 37),blk bA (.cells #[(.pointer (some ⟨b,0,none⟩))] 100)]++(Ck++aJ bm bc L acc::F))):=by simpa using hs
 refine jW (V:=[blk iQ (.cells #[(.pointer (some ⟨bk,0,none⟩))] 37),blk bA (.cells #[(.pointer (some ⟨b,0,none⟩))] 100)]) (Cm:=Ck) (R:=fun fin C' => fin=decide (4<=(aM d f.sep f.az L lk).1.pc)/\lr d f.sep f.az bk (aM d f.sep f.az L lk).1 C')
  (fun w F hs=>?_) (fun n w=>Cu n _ w) (fun _ _=>by kernel_rfl) (fun _ _=>by kernel_rfl) ?_ ?_ hs
 ·refine(Bz hd hL ha k1 k2 hlk hs).mono ?_
  rintro e w' ⟨C',rfl,hr',hs'⟩;exact⟨_,C',rfl,⟨rfl,hr'⟩,hs'⟩
 ·rintro C' w1 F1 ⟨dG,hr⟩ hs
  have h4:(aM d f.sep f.az L lk).1.pc=4:=by
   have:=of_decide_eq_true dG.symm;omega
  obtain⟨j1,j2⟩:=k4 h4;have hmm:gO d L ⟨0,f,lk,fr,ins,aq,root,word,tk,id,k⟩=(aM d f.sep f.az L lk).2:=rfl;have zb:∀ s',((aM d f.sep f.az L lk).1.h.id=0/\s'=(⟨5,f,(aM d f.sep f.az L lk).1,fr,ins,mF,root,word,tk,id,k⟩:eE)) \/
    ((aM d f.sep f.az L lk).1.h.id≠0/\gM (aM d f.sep f.az L lk).1.h.pg.sl f.sep<je (aM d f.sep f.az L lk).1.h.pg.sl f.sep/\s'=⟨4,f,(aM d f.sep f.az L lk).1,(aM d f.sep f.az L lk).1.h,ins,aq,root,word,tk,id,k⟩) \/
    ((aM d f.sep f.az L lk).1.h.id≠0/\¬ gM (aM d f.sep f.az L lk).1.h.pg.sl f.sep<je (aM d f.sep f.az L lk).1.h.pg.sl f.sep/\∃ ins',oX d (aM d f.sep f.az L lk).1.h (aZ (aM d f.sep f.az L lk).1.h.pg f.sep f.ch) ins' /\ s'=⟨1,f,(aM d f.sep f.az L lk).1,(aM d f.sep f.az L lk).1.h,ins',aq,root,word,tk,id,k⟩)->o8 d L ⟨0,f,lk,fr,ins,aq,root,word,tk,id,k⟩ s' := fun s' h=> .inr ⟨h4,h⟩
  rw[hmm]at hs;unfold Sk;rw[hmm];generalize (aM d f.sep f.az L lk).2=L' at *;generalize (aM d f.sep f.az L lk).1=l at *;have hx:∃ kW,C' = [blk bk (.cells (.nilFunc :: .bool true::ea d f.sep l.h kW).toArray 125),bq kW l.h.pg]:=by
   obtain⟨pc,fd,lid,laq,ow,hh⟩:=l;simp only at h4;subst h4;exact hr
  obtain⟨kW,rfl⟩:=hx;have hs:St K w1 (blk b (.cells ((aX (some (aA b2 b3 b5))) :: .bool true::bj d f).toArray 167)::blk iQ (.cells #[(.pointer (some ⟨bk,0,none⟩))] 37)::blk bA (.cells #[(.pointer (some ⟨b,0,none⟩))] 100)::blk bk (.cells (.nilFunc :: .bool true::ea d f.sep l.h kW).toArray 125)::bq kW l.h.pg::aJ bm bc L' (acc+1)::F1):=hs;obtain⟨a,c,rfl,_,_⟩:=(show St K w1 (ak kW 69 2 l.h.pg.sl.length (aD l.h.pg.sl)::_)from hs.b4).aF
  refine(uG hd j1 j2 hs).mono ?_
  rintro e w2 (⟨h0,x2,x3,x5,ba,jl,eT,rfl,hs2⟩|⟨h0,h1,x2,x3,x5,br,bi,bw,jl,rfl,hs2⟩|⟨h0,h1,x2,x3,x5,bi,jl,ei,s0,C0,rfl,hb,Em,hs2⟩)
  ·exact⟨some (aA x2 x3 x5),[_,_,_,_],_,rfl,zb _ (.inl ⟨h0,rfl⟩),rfl,⟨x2,x3,x5,ba,jl,eT,rfl⟩,hs2⟩
  ·exact⟨some (aA x2 x3 x5),[_,_,_,_,_],_,rfl,zb _ (.inr (.inl ⟨h0,h1,rfl⟩)),rfl,⟨x2,x3,x5,br,bi,bw,jl,rfl⟩,hs2⟩
  ·exact⟨some (aA x2 x3 x5),_::([_,_]++C0),_,rfl,zb _ (.inr (.inr ⟨h0,h1,s0,hb,rfl⟩)),rfl,⟨x2,x3,x5,bi,jl,ei,C0,Em,rfl⟩,by simpa using hs2⟩
 ·rintro C' ⟨dG,hr⟩
  have h4:¬ 4<=(aM d f.sep f.az L lk).1.pc:=of_decide_eq_false dG.symm;exact⟨⟨0,f,(aM d f.sep f.az L lk).1,fr,ins,aq,root,word,tk,id,k⟩,.inl ⟨by show(aM d f.sep f.az L lk).1.pc≠4;omega,rfl⟩,by show 0<14;decide,b2,b3,b5,bk,iQ,bA,C',hr,rfl⟩
theorem abu (ha:acc<=1000000000000)(hok:eE.Ok d L ⟨4,f,lk,fr,ins,aq,root,word,tk,id,k⟩)(dm:fK d b ⟨4,f,lk,fr,ins,aq,root,word,tk,id,k⟩ C)(hs:St K w (C++aJ bm bc L acc::F)):Calls Tryz.prog 77 #[(.pointer (some ⟨b,0,none⟩)),(.pointer (some ⟨bm,0,none⟩))] w (fN K b bm bc d L acc ⟨4,f,lk,fr,ins,aq,root,word,tk,id,k⟩ F):=by
 obtain⟨b2,b3,b5,br,iZ,ja,bA,rfl⟩:=dm;have k1:=hok.found rfl;simp only at k1 hs;refine jW (V:=[blk bA (.cells #[(.pointer (some ⟨b,0,none⟩))] 100)]) (Cm:=eZ br iZ ja (d.node fr.id 0) fr.word 0) (R:=fun fin C' => fin=true/\C'=eZ br iZ ja (d.node fr.id 0) fr.word 1)
  (fun w F hs=>?_) (fun n w=>ic n _ w) (fun _ _=>by kernel_rfl) (fun _ _=>by kernel_rfl) ?_ ?_ hs
 ·refine(ia k1 ha hs).mono ?_
  rintro e w' ⟨rfl,hs'⟩;exact⟨_,_,rfl,⟨rfl,rfl⟩,hs'⟩
 ·rintro C' w1 F1 ⟨_,rfl⟩ hs
  refine(sw hs).mono ?_
  rintro e w2 ⟨rfl,hs2⟩;refine⟨none,[],⟨14,f.end true,lk,fr,ins,aq,root,word,tk,id,k⟩,rfl,rfl,rfl,rfl,?_⟩;exact(show St K w2 (_::_::_::_::_::_::F1)from hs2).sub (.cons_cons _ (.cons _ (.cons _ (.cons _ (.cons _ (.cons_cons _ (List.Sublist.refl _)))))))
 ·rintro C' ⟨dG,_⟩
  cases dG
theorem Xk (ha:acc<=1000000000000)(hok:eE.Ok d L ⟨13,f,lk,fr,ins,aq,root,word,tk,id,k⟩)(dm:fK d b ⟨13,f,lk,fr,ins,aq,root,word,tk,id,k⟩ C)(hs:St K w (C++aJ bm bc L acc::F)):Calls Tryz.prog 77 #[(.pointer (some ⟨b,0,none⟩)),(.pointer (some ⟨bm,0,none⟩))] w (fN K b bm bc d L acc ⟨13,f,lk,fr,ins,aq,root,word,tk,id,k⟩ F):=by
 obtain⟨b2,b3,b5,br,iZ,ja,bA,rfl⟩:=dm;have k1:=hok.word (.inr rfl);simp only at k1 hs;refine jW (V:=[blk bA (.cells #[(.pointer (some ⟨b,0,none⟩))] 100)]) (Cm:=eZ br iZ ja 7 word 0) (R:=fun fin C' => fin=true/\C'=eZ br iZ ja 7 word 1)
  (fun w F hs=>?_) (fun n w=>ic n _ w) (fun _ _=>by kernel_rfl) (fun _ _=>by kernel_rfl) ?_ ?_ hs
 ·refine(ia k1 ha hs).mono ?_
  rintro e w' ⟨rfl,hs'⟩;exact⟨_,_,rfl,⟨rfl,rfl⟩,hs'⟩
 ·rintro C' w1 F1 ⟨_,rfl⟩ hs
  refine(sx hs).mono ?_
  rintro e w2 ⟨rfl,hs2⟩;refine⟨none,[],⟨14,f.end false,lk,fr,ins,aq,root,word,tk,id,k⟩,rfl,rfl,rfl,rfl,?_⟩;exact(show St K w2 (_::_::_::_::_::_::F1)from hs2).sub (.cons_cons _ (.cons _ (.cons _ (.cons _ (.cons _ (.cons_cons _ (List.Sublist.refl _)))))))
 ·rintro C' ⟨dG,_⟩
  cases dG
theorem abv (hL:bI L)(ha:acc<=1000000000000)(hok:eE.Ok d L ⟨5,f,lk,fr,ins,aq,root,word,tk,id,k⟩)(dm:fK d b ⟨5,f,lk,fr,ins,aq,root,word,tk,id,k⟩ C)(hs:St K w (C++aJ bm bc L acc::F)):Calls Tryz.prog 77 #[(.pointer (some ⟨b,0,none⟩)),(.pointer (some ⟨bm,0,none⟩))] w (fN K b bm bc d L acc ⟨5,f,lk,fr,ins,aq,root,word,tk,id,k⟩ F):=by
 obtain⟨b2,b3,b5,ba,bA,eT,rfl⟩:=dm;obtain⟨k1,k2⟩:=hok.acq rfl;simp only at k1 k2 hs;have hst:=tY (i:=7) hL k1;refine jW (V:=[blk bA (.cells #[(.pointer (some ⟨b,0,none⟩))] 100),blk eT (.cells #[(.pointer (some ⟨ba,0,none⟩))] 175)]) (Cm:=[fT ba 7 aq]) (R:=fun fin C' => fin=decide (2<=(bL 7 L aq).1.pc)/\C' = [fT ba 7 (bL 7 L aq).1])
  (fun w F hs=>?_) (fun n w=>ur n _ w) (fun _ _=>by kernel_rfl) (fun _ _=>by kernel_rfl) ?_ ?_ hs
 ·refine(tZ hL ha k1 k2 hs).mono ?_
  rintro e w' ⟨rfl,hs'⟩;exact⟨_,_,rfl,⟨rfl,rfl⟩,hs'⟩
 ·rintro C' w1 F1 ⟨dG,rfl⟩ hs
  have h2:(bL 7 L aq).1.pc=2:=by
   have:=of_decide_eq_true dG.symm;have:=hst.pc;omega
  refine(yL hs).mono ?_
  rintro e w2 ⟨rfl,hs2⟩;exact⟨some (Cs bA eT),[_,_,_],⟨6,f,lk,fr,ins,(bL 7 L aq).1,root,word,tk,id,k⟩,rfl,.inr ⟨h2,rfl⟩,rfl,⟨ba,bA,eT,rfl⟩,hs2⟩
 ·rintro C' ⟨dG,rfl⟩
  have h2:¬ 2<=(bL 7 L aq).1.pc:=of_decide_eq_false dG.symm;exact⟨⟨5,f,lk,fr,ins,(bL 7 L aq).1,root,word,tk,id,k⟩,.inl ⟨by show(bL 7 L aq).1.pc≠2;omega,rfl⟩,by show 5<14;decide,b2,b3,b5,ba,bA,eT,rfl⟩
theorem abw (ha:acc<=1000000000000)(dm:fK d b ⟨6,f,lk,fr,ins,aq,root,word,tk,id,k⟩ C)(hs:St K w (C++aJ bm bc L acc::F)):Calls Tryz.prog 77 #[(.pointer (some ⟨b,0,none⟩)),(.pointer (some ⟨bm,0,none⟩))] w (fN K b bm bc d L acc ⟨6,f,lk,fr,ins,aq,root,word,tk,id,k⟩ F):=by
 obtain⟨ba,bA,eT,rfl⟩:=dm;simp only at hs;have hs:St K w (blk b (.cells ((aX (some (Cs bA eT))) :: .bool true::bj d f).toArray 167)::blk bA (.cells #[(.pointer (some ⟨b,0,none⟩))] 100)::blk eT (.cells #[(.pointer (some ⟨ba,0,none⟩))] 175)::fT ba 7 aq::aJ bm bc L acc::F):=hs;refine Sn (fv:=Cs bA eT) (fun _ _=>by kernel_rfl) (hs.k0 0) ?_
 show Calls Tryz.prog 171 #[(.pointer (some ⟨bm,0,none⟩)),(.pointer (some ⟨bA,0,none⟩)),(.pointer (some ⟨eT,0,none⟩))] w _
 refine(yM ha (hs.re [0,1,4,2,3] rfl)).mono ?_
 rintro e w2 ⟨jE,rfl,hs2⟩;exact⟨some (Ct bA jE eT),[_,_,_,_],⟨7,f,lk,fr,ins,aq,(ah L 0).n,word,tk,id,k⟩,rfl,rfl,rfl,⟨ba,bA,eT,jE,rfl⟩,hs2.re [0,2,1,4,5,3] rfl⟩
theorem abx (hd:d.Ok)(ha:acc<=1000000000000)(hok:eE.Ok d L ⟨7,f,lk,fr,ins,aq,root,word,tk,id,k⟩)(dm:fK d b ⟨7,f,lk,fr,ins,aq,root,word,tk,id,k⟩ C)(hs:St K w (C++aJ bm bc L acc::F)):Calls Tryz.prog 77 #[(.pointer (some ⟨b,0,none⟩)),(.pointer (some ⟨bm,0,none⟩))] w (fN K b bm bc d L acc ⟨7,f,lk,fr,ins,aq,root,word,tk,id,k⟩ F):=by
 obtain⟨ba,bA,eT,jE,rfl⟩:=dm;obtain⟨k1,k2,k3⟩:=hok.root rfl;simp only at k1 k2 k3 hs;have hs:St K w (blk b (.cells ((aX (some (Ct bA jE eT))) :: .bool true::bj d f).toArray 167)::blk bA (.cells #[(.pointer (some ⟨b,0,none⟩))] 100)::blk jE (.cells #[.int .u64 root] 23)::blk eT (.cells #[(.pointer (some ⟨ba,0,none⟩))] 175)::fT ba 7 aq::aJ bm bc L acc::F):=hs;refine Sn (fv:=Ct bA jE eT) (fun _ _=>by kernel_rfl) (hs.k0 0) ?_
 show Calls Tryz.prog 172 #[(.pointer (some ⟨bm,0,none⟩)),(.pointer (some ⟨bA,0,none⟩)),(.pointer (some ⟨jE,0,none⟩)),(.pointer (some ⟨eT,0,none⟩))] w _
 refine(yN hd ha k1 k2 k3 hs).mono ?_
 rintro e w2 (⟨h1,x2,x3,x5,rfl,br,bi,bw,hs2⟩|⟨h1,x2,x3,x5,rfl,bt,wZ,jl,fc,abq,hs2⟩)
 ·refine⟨some (aA x2 x3 x5),[_,_,_,_],⟨8,f,lk,fr,ins,aq,root,aq.word,tk,id,k⟩,rfl,.inl ⟨h1,rfl⟩,rfl,⟨x2,x3,x5,br,bi,bw,rfl⟩,?_⟩
  exact(show St K w2 (_::_::_::_::_::_::_::_::_::_::F)from hs2).sub (.cons_cons _ (.cons_cons _ (.cons_cons _ (.cons_cons _ (.cons_cons _ (.cons _ (.cons _ (.cons _ (.cons _ (.cons_cons _ (List.Sublist.refl _)))))))))))
 ·refine⟨some (aA x2 x3 x5),[_,_,_,_,_,_],⟨9,f,lk,fr,ins,aq,root,aq.word,⟨0,0,false⟩,id,k⟩,rfl,.inr ⟨h1,rfl⟩,rfl,⟨x2,x3,x5,bt,wZ,jl,fc,abq,rfl⟩,?_⟩
  exact(show St K w2 (_::_::_::_::_::_::_::_::_::_::_::_::F)from hs2).sub (.cons_cons _ (.cons_cons _ (.cons_cons _ (.cons_cons _ (.cons_cons _ (.cons_cons _ (.cons_cons _ (.cons _ (.cons _ (.cons _ (.cons _ (.cons_cons _ (List.Sublist.refl _)))))))))))))
theorem aby (ha:acc<=1000000000000)(hok:eE.Ok d L ⟨8,f,lk,fr,ins,aq,root,word,tk,id,k⟩)(dm:fK d b ⟨8,f,lk,fr,ins,aq,root,word,tk,id,k⟩ C)(hs:St K w (C++aJ bm bc L acc::F)):Calls Tryz.prog 77 #[(.pointer (some ⟨b,0,none⟩)),(.pointer (some ⟨bm,0,none⟩))] w (fN K b bm bc d L acc ⟨8,f,lk,fr,ins,aq,root,word,tk,id,k⟩ F):=by
 obtain⟨b2,b3,b5,br,iZ,ja,rfl⟩:=dm;have k1:=hok.word (.inl rfl);simp only at k1 hs;refine jW (V:=[]) (Cm:=eZ br iZ ja 7 word 0) (R:=fun fin C' => fin=true/\C'=eZ br iZ ja 7 word 1)
  (fun w F hs=>?_) (fun n w=>ic n _ w) (fun _ _=>by kernel_rfl) (fun _ _=>by kernel_rfl) ?_ ?_ hs
 ·refine(ia k1 ha hs).mono ?_
  rintro e w' ⟨rfl,hs'⟩;exact⟨_,_,rfl,⟨rfl,rfl⟩,hs'⟩
 ·rintro C' w1 F1 ⟨_,rfl⟩ hs
  refine(l5 hs).mono ?_
  rintro e w2 ⟨x2,x3,x5,bk,iQ,bA,Ck,rfl,hr,hs2⟩;refine⟨some (aA x2 x3 x5),_::([_,_]++Ck),⟨0,f,oU,fr,ins,aq,root,word,tk,id,k⟩,rfl,rfl,rfl,⟨x2,x3,x5,bk,iQ,bA,Ck,hr,rfl⟩,?_⟩;have h1:St K w2 ([blk b (.cells ((aX (some (aA b2 b3 b5))) :: .bool true::bj d f).toArray 167),bD x2 x3 x5 (.iface 37 (.pointer (some ⟨bk,0,none⟩))) (jg iQ bA),blk iQ (.cells #[(.pointer (some ⟨bk,0,none⟩))] 37),blk bA (.cells #[(.pointer (some ⟨b,0,none⟩))] 100)]++(Ck++(eZ br iZ ja 7 word 1++(aJ bm bc (gO d L ⟨8,f,lk,fr,ins,aq,root,word,tk,id,k⟩) (acc+1)::F1)))):=hs2;have h2:=h1.mid.Au;simpa using h2
 ·rintro C' ⟨dG,_⟩
  cases dG
theorem Xl (ha:acc<=1000000000000)(dm:fK d b ⟨11,f,lk,fr,ins,aq,root,word,tk,id,k⟩ C)(hs:St K w (C++aJ bm bc L acc::F)):Calls Tryz.prog 77 #[(.pointer (some ⟨b,0,none⟩)),(.pointer (some ⟨bm,0,none⟩))] w (fN K b bm bc d L acc ⟨11,f,lk,fr,ins,aq,root,word,tk,id,k⟩ F):=by
 obtain⟨b2,b3,b5,br,iZ,ja,bA,gN,fc,rfl⟩:=dm;simp only at hs;refine jW (V:=[blk bA (.cells #[(.pointer (some ⟨b,0,none⟩))] 100),blk gN (.cells #[.int .u64 id] 23),blk fc (.cells #[.int .u64 word] 23)]) (Cm:=eZ br iZ ja (d.node id 0) (aO 0) 0) (R:=fun fin C' => fin=true/\C'=eZ br iZ ja (d.node id 0) (aO 0) 1)
  (fun w F hs=>?_) (fun n w=>ic n _ w) (fun _ _=>by kernel_rfl) (fun _ _=>by kernel_rfl) ?_ ?_ hs
 ·refine(ia ⟨by decide,by decide⟩ ha hs).mono ?_
  rintro e w' ⟨rfl,hs'⟩;exact⟨_,_,rfl,⟨rfl,rfl⟩,hs'⟩
 ·rintro C' w1 F1 ⟨_,rfl⟩ hs
  refine(vN hs).mono ?_
  rintro e w2 ⟨rfl,hs2⟩;refine⟨some (Sj bA gN fc),[_,_,_],⟨12,f,lk,fr,ins,aq,root,word,tk,id,k⟩,rfl,rfl,rfl,⟨bA,gN,fc,rfl⟩,?_⟩;exact(show St K w2 (_::_::_::_::_::_::_::_::F1)from hs2).sub (.cons_cons _ (.cons_cons _ (.cons_cons _ (.cons_cons _ (.cons _ (.cons _ (.cons _ (.cons_cons _ (List.Sublist.refl _)))))))))
 ·rintro C' ⟨dG,_⟩
  cases dG
theorem Xm (ha:acc<=1000000000000)(dm:fK d b ⟨12,f,lk,fr,ins,aq,root,word,tk,id,k⟩ C)(hs:St K w (C++aJ bm bc L acc::F)):Calls Tryz.prog 77 #[(.pointer (some ⟨b,0,none⟩)),(.pointer (some ⟨bm,0,none⟩))] w (fN K b bm bc d L acc ⟨12,f,lk,fr,ins,aq,root,word,tk,id,k⟩ F):=by
 obtain⟨bA,gN,fc,rfl⟩:=dm;simp only at hs;have hs:St K w (blk b (.cells ((aX (some (Sj bA gN fc))) :: .bool true::bj d f).toArray 167)::blk bA (.cells #[(.pointer (some ⟨b,0,none⟩))] 100)::blk gN (.cells #[.int .u64 id] 23)::blk fc (.cells #[.int .u64 word] 23)::aJ bm bc L acc::F):=hs;refine Sn (fv:=Sj bA gN fc) (fun _ _=>by kernel_rfl) (hs.k0 0) ?_
 show Calls Tryz.prog 188 #[(.pointer (some ⟨bm,0,none⟩)),(.pointer (some ⟨bA,0,none⟩)),(.pointer (some ⟨gN,0,none⟩)),(.pointer (some ⟨fc,0,none⟩))] w _
 refine(vO ha hs).mono ?_
 rintro e w2 ⟨x2,x3,x5,rfl,br,bi,bw,hs2⟩;refine⟨some (aA x2 x3 x5),[_,_,_,_],⟨8,f,lk,fr,ins,aq,root,word,tk,id,k⟩,rfl,rfl,rfl,⟨x2,x3,x5,br,bi,bw,rfl⟩,?_⟩;exact(show St K w2 (_::_::_::_::_::_::_::_::_::F)from hs2).sub (.cons_cons _ (.cons_cons _ (.cons_cons _ (.cons_cons _ (.cons_cons _ (.cons _ (.cons _ (.cons _ (.cons_cons _ (List.Sublist.refl _))))))))))
theorem abz (hd:d.Ok)(ha:acc<=1000000000000)(hok:eE.Ok d L ⟨9,f,lk,fr,ins,aq,root,word,tk,id,k⟩)(dm:fK d b ⟨9,f,lk,fr,ins,aq,root,word,tk,id,k⟩ C)(hs:St K w (C++aJ bm bc L acc::F)):Calls Tryz.prog 77 #[(.pointer (some ⟨b,0,none⟩)),(.pointer (some ⟨bm,0,none⟩))] w (fN K b bm bc d L acc ⟨9,f,lk,fr,ins,aq,root,word,tk,id,k⟩ F):=by
 obtain⟨b2,b3,b5,bt,wZ,bA,fc,jE,rfl⟩:=dm;obtain⟨k1,k2,k3⟩:=hok.take rfl;have cg:=hok.az;simp only at k1 k2 k3 hs cg;refine jW (V:=[blk wZ (.cells #[(.pointer (some ⟨bt,0,none⟩))] 156),blk bA (.cells #[(.pointer (some ⟨b,0,none⟩))] 100),blk fc (.cells #[.int .u64 word] 23),blk jE (.cells #[.int .u64 root] 23)]) (Cm:=[gH bt 4 d.no tk]) (R:=fun fin C' => fin=decide (2<=(aG 4 d.no L tk).1.pc)/\C' = [gH bt 4 d.no (aG 4 d.no L tk).1])
  (fun w F hs=>?_) (fun n w=>rH n _ w) (fun _ _=>by kernel_rfl) (fun _ _=>by kernel_rfl) ?_ ?_ hs
 ·refine(rI hs ha k2).mono ?_
  rintro e w' ⟨rfl,hs'⟩;rw[if_neg (by omega)]at hs'
  exact⟨_,_,rfl,⟨rfl,rfl⟩,hs'⟩
 ·rintro C' w1 F1 ⟨dG,rfl⟩ hs
  have h2:2<=(aG 4 d.no L tk).1.pc:=of_decide_eq_true dG.symm;refine(vL hd ⟨cg.1,by omega⟩ k3 hs).mono ?_
  rintro e w2 (⟨ho,x2,x3,x5,rfl,br,bi,bw,hs2⟩|⟨ho,x2,x3,x5,rfl,bf,bF,g,cap,va,jf,gN,hs2⟩)
  ·refine⟨some (aA x2 x3 x5),[_,_,_,_,_],⟨13,f,lk,fr,ins,aq,root,word,(aG 4 d.no L tk).1,id,k⟩,rfl,.inr (.inl ⟨h2,ho,rfl⟩),rfl,⟨x2,x3,x5,br,bi,bw,bA,rfl⟩,?_⟩
   exact(((show St K w2 (_::_::_::_::_::_::_::_::F1)from hs2).re [6,0,1,5,2,3,4,7] rfl).tail)
  ·have hs2:St K w2 (blk b (.cells ((aX (some (aA b2 b3 b5))) :: .bool true::bj d f).toArray 167)::bD x2 x3 x5 (.iface 74 (.pointer (some ⟨bf,0,none⟩))) (sY bA jf gN fc)::blk jf (.cells #[(.pointer (some ⟨bf,0,none⟩))] 74)::blk gN (.cells #[.int .u64 ((aG 4 d.no L tk).1.seen+1)] 23)::mz _ _ _ _ _ _ _ _ _::ak _ _ _ _ _::blk bf _::bq va (fe f.az root)::blk bA (.cells #[(.pointer (some ⟨b,0,none⟩))] 100)::blk fc (.cells #[.int .u64 word] 23)::aJ bm bc (gO d L ⟨9,f,lk,fr,ins,aq,root,word,tk,id,k⟩) (acc+1)::F1):=hs2
   obtain⟨av,cv,rfl,_,_⟩:=(show St K w2 (ak va 69 2 (fe f.az root).sl.length (aD (fe f.az root).sl)::_)from hs2.b7).aF
   refine⟨some (aA x2 x3 x5),[_,_,_,_,_,_,_,_,_],⟨10,f,lk,fr,ins,aq,root,word,(aG 4 d.no L tk).1,(aG 4 d.no L tk).1.seen+1,0⟩,rfl,.inr (.inr ⟨h2,ho,rfl⟩),rfl,⟨x2,x3,x5,bf,bF,g,cap,av,cv,bA,jf,gN,fc,rfl⟩,?_⟩;exact hs2.re [0,1,2,3,8,9,4,5,6,7,10] rfl
 ·rintro C' ⟨dG,rfl⟩
  have h2:¬ 2<=(aG 4 d.no L tk).1.pc:=of_decide_eq_false dG.symm;exact⟨⟨9,f,lk,fr,ins,aq,root,word,(aG 4 d.no L tk).1,id,k⟩,.inl ⟨by show(aG 4 d.no L tk).1.pc<2;omega,rfl⟩,by show 9<14;decide,b2,b3,b5,bt,wZ,bA,fc,jE,rfl⟩
theorem abA (hd:d.Ok)(hL:bI L)(ha:acc<=1000000000000)(hok:eE.Ok d L ⟨1,f,lk,fr,ins,aq,root,word,tk,id,k⟩)(dm:fK d b ⟨1,f,lk,fr,ins,aq,root,word,tk,id,k⟩ C)(hs:St K w (C++aJ bm bc L acc::F)):Calls Tryz.prog 77 #[(.pointer (some ⟨b,0,none⟩)),(.pointer (some ⟨bm,0,none⟩))] w (fN K b bm bc d L acc ⟨1,f,lk,fr,ins,aq,root,word,tk,id,k⟩ F):=by
 obtain⟨b2,b3,b5,bi,bA,ei,Ci,abB,rfl⟩:=dm;obtain⟨k1,k2,k3⟩:=hok.ins rfl;simp only at k1 k2 k3 abB hs;obtain⟨fu,lp⟩:∃ fu,fu=(⟨1,f,lk,fr,ins,aq,root,word,tk,id,k⟩:eE).fu:=⟨_,rfl⟩;rw[← lp]at k2 k3 abB;have hs:St K w (blk b (.cells ((aX (some (aA b2 b3 b5))) :: .bool true::bj d f).toArray 167)::bD b2 b3 b5 (.iface 82 (.pointer (some ⟨bi,0,none⟩))) (l4 bA ei)::([blk bA (.cells #[(.pointer (some ⟨b,0,none⟩))] 100),blk ei (.cells #[(.pointer (some ⟨bi,0,none⟩))] 82)]++(Ci++aJ bm bc L acc::F))):=by simpa using hs
 have iY:=hd.mM;have yB:=hd.mV;have hid:=k1.id;have wW:=k2.len;have hpl:=k1.pg.le;refine jW (V:=[blk bA (.cells #[(.pointer (some ⟨b,0,none⟩))] 100),blk ei (.cells #[(.pointer (some ⟨bi,0,none⟩))] 82)]) (Cm:=Ci) (R:=fun fin C' => ∃ ins',fin=decide (3<=ins'.pc)/\iz d fr fu L ins ins' /\ kI d fr fu bi ins' C')
  (fun w F hs=>?_) (fun n w=>vP n _ w) (fun _ _=>by kernel_rfl) (fun _ _=>by kernel_rfl) ?_ ?_ hs
 ·refine(Mv hd hL ha k1 k2 k3 abB hs).mono ?_
  rintro e w' ⟨s',C',rfl,hn,hr',hs'⟩;exact⟨_,C',rfl,⟨s',rfl,hn,hr'⟩,hs'⟩
 ·rintro C' w1 F1 ⟨ins',dG,hn,hr⟩ hs
  have h3:3<=ins'.pc:=of_decide_eq_true dG.symm;have hx:∃ x:oQ,yA fr fu ins' x/\C' = [bz bi .nilFunc d x,bq x.vl x.le.pg,bq x.vr x.ri.pg]:=by
   obtain⟨Ke,tk',k',ps',sp',id',Cv⟩:=ins';obtain⟨m,rfl⟩:∃ m,Ke=m+3:=⟨Ke-3,by simp only at h3;omega⟩
   exact hr
  obtain⟨x,hx,rfl⟩:=hx;obtain⟨a,c,hv⟩:=hx.vl;have hle:x.le.pg.sl.length<=1000000/\(0<=x.le.id/\x.le.id<18446744073709551616):=by
   rw[hx.le];split
   ·exact⟨by omega,by omega⟩
   ·refine⟨?_,by show 0<=fr.id/\fr.id<_;omega⟩
    show(ins'.pg fu).sl.length<=_
    unfold fU.pg;split
    ·show(fu.sl.take _).length<=_
     rw[List.length_take];omega
    ·omega
  have hs:St K w1 (blk b (.cells ((aX (some (aA b2 b3 b5))) :: .bool true::bj d f).toArray 167)::blk bA (.cells #[(.pointer (some ⟨b,0,none⟩))] 100)::blk ei (.cells #[(.pointer (some ⟨bi,0,none⟩))] 82)::bz bi .nilFunc d x::bq x.vl x.le.pg::bq x.vr x.ri.pg::aJ bm bc (gO d L ⟨1,f,lk,fr,ins,aq,root,word,tk,id,k⟩) (acc+1)::F1):=hs;refine(sD hd hx.on hle.1 hv hle.2 hs).mono ?_
  rintro e w2 ⟨u,rfl,x2,x3,x5,rfl,br,iZ,ja,hs2⟩;have hs2:St K w2 (blk b (.cells ((aX (some (aA b2 b3 b5))) :: .bool true::bj d f).toArray 167)::bD x2 x3 x5 (.iface 47 (.pointer (some ⟨br,0,none⟩))) (ko ei bA)::blk br _::blk iZ _::blk ja _::blk bA (.cells #[(.pointer (some ⟨b,0,none⟩))] 100)::blk ei (.cells #[(.pointer (some ⟨bi,0,none⟩))] 82)::bz bi .nilFunc d x::bq x.vl x.le.pg::bq x.vr x.ri.pg::aJ bm bc (gO d L ⟨1,f,lk,fr,ins,aq,root,word,tk,id,k⟩) (acc+1)::F1):=hs2;have Cw:x.le=(⟨2,f,lk,fr,ins',aq,root,word,tk,id,k⟩:eE).left:=by rw[hx.le,lp];rfl
  refine⟨some (aA x2 x3 x5),_::([_,_,_,_,_]++eZ br iZ ja (d.node x.le.id 0) x.le.word 0),⟨2,f,lk,fr,ins',aq,root,word,tk,id,k⟩,rfl,⟨ins',by rw[← lp];exact hn,.inr ⟨h3,rfl⟩⟩,rfl,⟨x2,x3,x5,br,iZ,ja,bA,ei,bi,x,by rw[lp]at hx;exact hx,by rw[← Cw]⟩,?_⟩
  exact hs2.re [0,1,5,6,7,8,9,2,3,4,10] rfl
 ·rintro C' ⟨ins',dG,hn,hr⟩
  have h3:¬ 3<=ins'.pc:=of_decide_eq_false dG.symm;exact⟨⟨1,f,lk,fr,ins',aq,root,word,tk,id,k⟩,⟨ins',by rw[← lp];exact hn,.inl ⟨by omega,rfl⟩⟩,by show 1<14;decide,b2,b3,b5,bi,bA,ei,C',by rw[lp]at hr;exact hr,rfl⟩
theorem abD (hd:d.Ok)(ha:acc<=1000000000000)(hok:eE.Ok d L ⟨2,f,lk,fr,ins,aq,root,word,tk,id,k⟩)(dm:fK d b ⟨2,f,lk,fr,ins,aq,root,word,tk,id,k⟩ C)(hs:St K w (C++aJ bm bc L acc::F)):Calls Tryz.prog 77 #[(.pointer (some ⟨b,0,none⟩)),(.pointer (some ⟨bm,0,none⟩))] w (fN K b bm bc d L acc ⟨2,f,lk,fr,ins,aq,root,word,tk,id,k⟩ F):=by
 obtain⟨b2,b3,b5,br,iZ,ja,bA,ei,bi,x,hx,rfl⟩:=dm;obtain⟨k1,k2,k3⟩:=hok.left rfl;obtain⟨lf,hlf⟩:∃ lf,lf=(⟨2,f,lk,fr,ins,aq,root,word,tk,id,k⟩:eE).left:=⟨_,rfl⟩;have mq:x.ri=(⟨2,f,lk,fr,ins,aq,root,word,tk,id,k⟩:eE).right:=hx.ri;rw[← hlf]at k1 hs;rw[← mq]at k2 k3;simp only at hs;have Gw:=hx.err;simp only at Gw;have hs:St K w (blk b (.cells ((aX (some (aA b2 b3 b5))) :: .bool true::bj d f).toArray 167)::bD b2 b3 b5 (.iface 47 (.pointer (some ⟨br,0,none⟩))) (ko ei bA)::([blk bA (.cells #[(.pointer (some ⟨b,0,none⟩))] 100),blk ei (.cells #[(.pointer (some ⟨bi,0,none⟩))] 82),bz bi .nilFunc d x,bq x.vl x.le.pg,bq x.vr x.ri.pg]++(eZ br iZ ja (d.node lf.id 0) lf.word 0++aJ bm bc L acc::F))):=hs;have hmm:gO d L ⟨2,f,lk,fr,ins,aq,root,word,tk,id,k⟩=aN L (d.node lf.id 0) ⟨aH lf.word,⟨#[]⟩,0⟩:=by rw[hlf];rfl
 refine jW (V:=[blk bA (.cells #[(.pointer (some ⟨b,0,none⟩))] 100),blk ei (.cells #[(.pointer (some ⟨bi,0,none⟩))] 82),bz bi .nilFunc d x,bq x.vl x.le.pg,bq x.vr x.ri.pg]) (Cm:=eZ br iZ ja (d.node lf.id 0) lf.word 0) (R:=fun fin C' => fin=true/\C'=eZ br iZ ja (d.node lf.id 0) lf.word 1)
  (fun w F hs=>?_) (fun n w=>ic n _ w) (fun _ _=>by kernel_rfl) (fun _ _=>by kernel_rfl) ?_ ?_ hs
 ·refine(ia k1 ha hs).mono ?_
  rintro e w' ⟨rfl,hs'⟩;exact⟨_,_,rfl,⟨rfl,rfl⟩,by rw[hmm];exact hs'⟩
 ·rintro C' w1 F1 ⟨_,rfl⟩ hs
  obtain⟨a,c,hv⟩:=hx.vr;have hs:St K w1 (blk b (.cells ((aX (some (aA b2 b3 b5))) :: .bool true::bj d f).toArray 167)::blk bA (.cells #[(.pointer (some ⟨b,0,none⟩))] 100)::blk ei (.cells #[(.pointer (some ⟨bi,0,none⟩))] 82)::bz bi .nilFunc d x::bq x.vl x.le.pg::bq x.vr x.ri.pg::blk br _::blk iZ _::blk ja _::aJ bm bc (gO d L ⟨2,f,lk,fr,ins,aq,root,word,tk,id,k⟩) (acc+1)::F1):=hs;refine(Cq hd hx.on k2 hv k3 (hs.re [0,2,1,3,5,4,6,7,8,9] rfl)).mono ?_
  rintro e w2 (⟨he,rfl,hs2⟩|⟨he,hi,rfl,hs2⟩|⟨he,hi,u,rfl,x2,x3,x5,rfl,ar,ai,aw,hs2⟩)
  ·have wW:ins.full=true:=by
    cases hc:ins.full with
    | true=>rfl
    | false=>rw[hc]at Gw;exact absurd Gw he
   refine⟨none,[],⟨14,f.end false,lk,fr,ins,aq,root,word,tk,id,k⟩,rfl,.inl ⟨wW,rfl⟩,rfl,rfl,?_⟩;exact(show St K w2 (_::_::_::_::_::_::_::_::_::_::F1)from hs2).sub (.cons_cons _ (.cons _ (.cons _ (.cons _ (.cons _ (.cons _ (.cons _ (.cons _ (.cons _ (.cons_cons _ (List.Sublist.refl _)))))))))))
  ·have wW:ins.full=false:=by
    cases hc:ins.full with
    | false=>rfl
    | true=>rw[hc]at Gw;rw[Gw]at he;exact absurd he (by decide)
   refine⟨none,[],⟨14,f.end true,lk,fr,ins,aq,root,word,tk,id,k⟩,rfl,.inr (.inl ⟨wW,by rw[← mq];exact hi,rfl⟩),rfl,rfl,?_⟩
   exact(show St K w2 (_::_::_::_::_::_::_::_::_::_::F1)from hs2).sub (.cons_cons _ (.cons _ (.cons _ (.cons _ (.cons _ (.cons _ (.cons _ (.cons _ (.cons _ (.cons_cons _ (List.Sublist.refl _)))))))))))
  ·have wW:ins.full=false:=by
    cases hc:ins.full with
    | false=>rfl
    | true=>rw[hc]at Gw;rw[Gw]at he;exact absurd he (by decide)
   have hs2:St K w2 (blk b (.cells ((aX (some (aA b2 b3 b5))) :: .bool true::bj d f).toArray 167)::bD x2 x3 x5 (.iface 47 (.pointer (some ⟨ar,0,none⟩))) (jF bA ei)::blk ar _::blk ai _::blk aw _::blk ei (.cells #[(.pointer (some ⟨bi,0,none⟩))] 82)::blk bA (.cells #[(.pointer (some ⟨b,0,none⟩))] 100)::bz bi .nilFunc d x::bq x.vr x.ri.pg::bq x.vl x.le.pg::blk br _::blk iZ _::blk ja _::aJ bm bc (gO d L ⟨2,f,lk,fr,ins,aq,root,word,tk,id,k⟩) (acc+1)::F1):=hs2;have ajc:x.ri=(⟨3,f,lk,fr,ins,aq,root,word,tk,id,k⟩:eE).right:=hx.ri;refine⟨some (aA x2 x3 x5),bD x2 x3 x5 (.iface 47 (.pointer (some ⟨ar,0,none⟩))) (jF bA ei)::([blk bA (.cells #[(.pointer (some ⟨b,0,none⟩))] 100),blk ei (.cells #[(.pointer (some ⟨bi,0,none⟩))] 82),bz bi .nilFunc d x,bq x.vr x.ri.pg]++eZ ar ai aw (d.node x.ri.id 0) x.ri.word 0),⟨3,f,lk,fr,ins,aq,root,word,tk,id,k⟩,rfl,.inr (.inr ⟨wW,by rw[← mq];exact hi,rfl⟩),rfl,⟨x2,x3,x5,ar,ai,aw,bA,ei,bi,x,hx,by rw[← ajc]⟩,?_⟩
   exact(hs2.re [0,1,6,5,7,8,2,3,4,13,9,10,11,12] rfl).sub (.cons_cons _ (.cons_cons _ (.cons_cons _ (.cons_cons _ (.cons_cons _ (.cons_cons _ (.cons_cons _ (.cons_cons _ (.cons_cons _ (.cons_cons _ (.cons _ (.cons _ (.cons _ (.cons _ (List.Sublist.refl _)))))))))))))))
 ·rintro C' ⟨dG,_⟩
  cases dG
theorem abE (ha:acc<=1000000000000)(hok:eE.Ok d L ⟨3,f,lk,fr,ins,aq,root,word,tk,id,k⟩)(dm:fK d b ⟨3,f,lk,fr,ins,aq,root,word,tk,id,k⟩ C)(hs:St K w (C++aJ bm bc L acc::F)):Calls Tryz.prog 77 #[(.pointer (some ⟨b,0,none⟩)),(.pointer (some ⟨bm,0,none⟩))] w (fN K b bm bc d L acc ⟨3,f,lk,fr,ins,aq,root,word,tk,id,k⟩ F):=by
 obtain⟨b2,b3,b5,br,iZ,ja,bA,ei,bi,x,hx,rfl⟩:=dm;obtain⟨k1,k2⟩:=hok.right rfl;have cg:=hok.az;have mq:x.ri=(⟨3,f,lk,fr,ins,aq,root,word,tk,id,k⟩:eE).right:=hx.ri;have hsep:x.sep=(⟨3,f,lk,fr,ins,aq,root,word,tk,id,k⟩:eE).Xj:=hx.sep;rw[← mq]at k1 k2 hs;simp only at hs cg;have hs:St K w (blk b (.cells ((aX (some (aA b2 b3 b5))) :: .bool true::bj d f).toArray 167)::bD b2 b3 b5 (.iface 47 (.pointer (some ⟨br,0,none⟩))) (jF bA ei)::([blk bA (.cells #[(.pointer (some ⟨b,0,none⟩))] 100),blk ei (.cells #[(.pointer (some ⟨bi,0,none⟩))] 82),bz bi .nilFunc d x,bq x.vr x.ri.pg]++(eZ br iZ ja (d.node x.ri.id 0) x.ri.word 0++aJ bm bc L acc::F))):=hs;have hmm:gO d L ⟨3,f,lk,fr,ins,aq,root,word,tk,id,k⟩=aN L (d.node x.ri.id 0) ⟨aH x.ri.word,⟨#[]⟩,0⟩:=by rw[mq];rfl
 refine jW (V:=[blk bA (.cells #[(.pointer (some ⟨b,0,none⟩))] 100),blk ei (.cells #[(.pointer (some ⟨bi,0,none⟩))] 82),bz bi .nilFunc d x,bq x.vr x.ri.pg]) (Cm:=eZ br iZ ja (d.node x.ri.id 0) x.ri.word 0) (R:=fun fin C' => fin=true/\C'=eZ br iZ ja (d.node x.ri.id 0) x.ri.word 1)
  (fun w F hs=>?_) (fun n w=>ic n _ w) (fun _ _=>by kernel_rfl) (fun _ _=>by kernel_rfl) ?_ ?_ hs
 ·refine(ia k1 ha hs).mono ?_
  rintro e w' ⟨rfl,hs'⟩;exact⟨_,_,rfl,⟨rfl,rfl⟩,by rw[hmm];exact hs'⟩
 ·rintro C' w1 F1 ⟨_,rfl⟩ hs
  obtain⟨a,c,hv⟩:=hx.vr;refine(Cr hx.on k2 hv cg hs).mono ?_
  rintro e w2 ⟨x2,x3,x5,bk,iQ,jl,Ck,rfl,hr,hs2⟩;have aed:fK d b ⟨0,⟨f.az+1,x.sep,x.ri.id,f.po⟩,oU,fr,ins,aq,root,word,tk,id,k⟩ (blk b (.cells ((aX (some (aA x2 x3 x5))) :: .bool true::bj d (⟨f.az+1,x.sep,x.ri.id,f.po⟩:j4)).toArray 167)::bD x2 x3 x5 (.iface 37 (.pointer (some ⟨bk,0,none⟩))) (jg iQ jl)::([blk iQ (.cells #[(.pointer (some ⟨bk,0,none⟩))] 37),blk jl (.cells #[(.pointer (some ⟨b,0,none⟩))] 100)]++Ck)):=⟨x2,x3,x5,bk,iQ,jl,Ck,hr,rfl⟩;have zb:o8 d L ⟨3,f,lk,fr,ins,aq,root,word,tk,id,k⟩ ⟨0,⟨f.az+1,x.sep,x.ri.id,f.po⟩,oU,fr,ins,aq,root,word,tk,id,k⟩:=by rw[hsep,mq];rfl
  refine⟨some (aA x2 x3 x5),_,_,rfl,zb,rfl,aed,?_⟩;have h1:St K w2 ([blk b (.cells ((aX (some (aA b2 b3 b5))) :: .bool true::bj d (⟨f.az+1,x.sep,x.ri.id,f.po⟩:j4)).toArray 167),bD x2 x3 x5 (.iface 37 (.pointer (some ⟨bk,0,none⟩))) (jg iQ jl),blk iQ (.cells #[(.pointer (some ⟨bk,0,none⟩))] 37),blk jl (.cells #[(.pointer (some ⟨b,0,none⟩))] 100)]++(Ck++((blk bA (.cells #[(.pointer (some ⟨b,0,none⟩))] 100)::blk ei (.cells #[(.pointer (some ⟨bi,0,none⟩))] 82)::bz bi .nilFunc d x::bq x.vr x.ri.pg::eZ br iZ ja (d.node x.ri.id 0) x.ri.word 1)++(aJ bm bc (gO d L ⟨3,f,lk,fr,ins,aq,root,word,tk,id,k⟩) (acc+1)::F1)))):=hs2;have h2:=h1.mid.Au;simpa using h2
 ·rintro C' ⟨dG,_⟩
  cases dG
theorem Xn (hd:d.Ok)(ha:acc<=1000000000000)(hok:eE.Ok d L ⟨10,f,lk,fr,ins,aq,root,word,tk,id,k⟩)(dm:fK d b ⟨10,f,lk,fr,ins,aq,root,word,tk,id,k⟩ C)(hs:St K w (C++aJ bm bc L acc::F)):Calls Tryz.prog 77 #[(.pointer (some ⟨b,0,none⟩)),(.pointer (some ⟨bm,0,none⟩))] w (fN K b bm bc d L acc ⟨10,f,lk,fr,ins,aq,root,word,tk,id,k⟩ F):=by
 obtain⟨b2,b3,b5,bf,bF,g,cap,av,cv,bA,jf,gN,fc,rfl⟩:=dm;obtain⟨k1,k2⟩:=hok.fresh rfl;obtain⟨ps,hps⟩:∃ ps,ps=(⟨10,f,lk,fr,ins,aq,root,word,tk,id,k⟩:eE).ps d:=⟨_,rfl⟩;rw[← hps]at k1 hs;simp only at k1 k2 hs;have hg:=aqt k1;have hmm:gO d L ⟨10,f,lk,fr,ins,aq,root,word,tk,id,k⟩=aN L ps[k].i ps[k].c:=by
  show(match ((⟨10,f,lk,fr,ins,aq,root,word,tk,id,k⟩:eE).ps d)[k]? with|some pt=>aN L pt.i pt.c|none=>L)=_
  rw[← hps,hg]
 have hs:St K w (blk b (.cells ((aX (some (aA b2 b3 b5))) :: .bool true::bj d f).toArray 167)::bD b2 b3 b5 (.iface 74 (.pointer (some ⟨bf,0,none⟩))) (sY bA jf gN fc)::([blk jf (.cells #[(.pointer (some ⟨bf,0,none⟩))] 74),blk gN (.cells #[.int .u64 id] 23),blk bA (.cells #[(.pointer (some ⟨b,0,none⟩))] 100),blk fc (.cells #[.int .u64 word] 23)]++(Gu bf bF id (fe f.az root) (.slice av (fe f.az root).sl.length cv) g cap ps k++aJ bm bc L acc::F))):=hs;refine jW (V:=[blk jf (.cells #[(.pointer (some ⟨bf,0,none⟩))] 74),blk gN (.cells #[.int .u64 id] 23),blk bA (.cells #[(.pointer (some ⟨b,0,none⟩))] 100),blk fc (.cells #[.int .u64 word] 23)]) (Cm:=Gu bf bF id (fe f.az root) (.slice av (fe f.az root).sl.length cv) g cap ps k) (R:=fun fin C' => fin=decide (k+1=ps.length)/\C'=Gu bf bF id (fe f.az root) (.slice av (fe f.az root).sl.length cv) g cap ps (k+1))
  (fun w F hs=>?_) (fun n w=>p6 n _ w) (fun _ _=>by kernel_rfl) (fun _ _=>by kernel_rfl) ?_ ?_ hs
 ·refine(qd hg ha ((show St K w (mz _ _ _ _ _ _ _ _ _::ak _ _ _ _ _::blk bf _::bq _ _::aJ bm bc L acc::F)from hs).re [0,4,1,2,3] rfl)).mono ?_
  rintro e w' ⟨rfl,hs'⟩;exact⟨_,_,rfl,⟨rfl,rfl⟩,by rw[hmm];exact(show St K w' (mz _ _ _ _ _ _ _ _ _::aJ bm bc _ _::ak _ _ _ _ _::blk bf _::bq _ _::F)from hs').re [0,2,3,4,1] rfl⟩
 ·rintro C' w1 F1 ⟨dG,rfl⟩ hs
  have he:k+1=ps.length:=of_decide_eq_true dG.symm;rw[he]at hs;have hs:St K w1 (blk b (.cells ((aX (some (aA b2 b3 b5))) :: .bool true::bj d f).toArray 167)::blk jf (.cells #[(.pointer (some ⟨bf,0,none⟩))] 74)::blk gN (.cells #[.int .u64 id] 23)::blk bA (.cells #[(.pointer (some ⟨b,0,none⟩))] 100)::blk fc (.cells #[.int .u64 word] 23)::mz _ _ _ _ _ _ _ _ _::ak _ _ _ _ _::blk bf _::bq _ _::aJ bm bc (gO d L ⟨10,f,lk,fr,ins,aq,root,word,tk,id,k⟩) (acc+1)::F1):=hs;refine(vM (gN:=gN) (fc:=fc) hd (by show 1<=1000000;decide) k2 (hs.re [0,3,1,5,6,7,8,2,4,9] rfl)).mono ?_
  rintro e w2 ⟨u,rfl,x2,x3,x5,rfl,br,iZ,ja,hs2⟩;have hs2:St K w2 (blk b (.cells ((aX (some (aA b2 b3 b5))) :: .bool true::bj d f).toArray 167)::bD x2 x3 x5 (.iface 47 (.pointer (some ⟨br,0,none⟩))) (l8 bA gN fc)::blk br _::blk iZ _::blk ja _::blk bA (.cells #[(.pointer (some ⟨b,0,none⟩))] 100)::blk jf (.cells #[(.pointer (some ⟨bf,0,none⟩))] 74)::mz _ _ _ _ _ _ _ _ _::ak _ _ _ _ _::blk bf _::bq _ _::blk gN (.cells #[.int .u64 id] 23)::blk fc (.cells #[.int .u64 word] 23)::aJ bm bc (gO d L ⟨10,f,lk,fr,ins,aq,root,word,tk,id,k⟩) (acc+1)::F1):=hs2;refine⟨some (aA x2 x3 x5),_::([_,_,_]++eZ br iZ ja (d.node id 0) (aO 0) 0),⟨11,f,lk,fr,ins,aq,root,word,tk,id,k+1⟩,rfl,.inr ⟨by rw[← hps];exact he,rfl⟩,rfl,⟨x2,x3,x5,br,iZ,ja,bA,gN,fc,rfl⟩,?_⟩
  exact(hs2.re [0,1,5,11,12,2,3,4,13,6,7,8,9,10] rfl).sub (.cons_cons _ (.cons_cons _ (.cons_cons _ (.cons_cons _ (.cons_cons _ (.cons_cons _ (.cons_cons _ (.cons_cons _ (.cons_cons _ (.cons _ (.cons _ (.cons _ (.cons _ (.cons _ (List.Sublist.refl _)))))))))))))))
 ·rintro C' ⟨dG,rfl⟩
  have he:¬ k+1=ps.length:=of_decide_eq_false dG.symm;exact⟨⟨10,f,lk,fr,ins,aq,root,word,tk,id,k+1⟩,.inl ⟨by rw[← hps];exact he,rfl⟩,by show 10<14;decide,b2,b3,b5,bf,bF,g,cap,av,cv,bA,jf,gN,fc,by rw[hps];rfl⟩
end
section
variable {K:aK}{w:World}{F:List aB}{b bm bc acc:Nat}{d:aR}{L:List aP}{s:eE}{C:List aB}
theorem Sp (hd:d.Ok)(hL:bI L)(ha:acc<=1000000000000)(hok:s.Ok d L)(dm:fK d b s C)(hs:St K w (C++aJ bm bc L acc::F)):Calls Tryz.prog 77 #[(.pointer (some ⟨b,0,none⟩)),(.pointer (some ⟨bm,0,none⟩))] w (fN K b bm bc d L acc s F):=by
 have Ag:=hok.pc;obtain⟨pc,f,lk,fr,ins,aq,root,word,tk,id,k⟩:=s;simp only at Ag;match pc,Ag with
 | 0,_=>exact abt hd hL ha hok dm hs
 | 1,_=>exact abA hd hL ha hok dm hs
 | 2,_=>exact abD hd ha hok dm hs
 | 3,_=>exact abE ha hok dm hs
 | 4,_=>exact abu ha hok dm hs
 | 5,_=>exact abv hL ha hok dm hs
 | 6,_=>exact abw ha dm hs
 | 7,_=>exact abx hd ha hok dm hs
 | 8,_=>exact aby ha hok dm hs
 | 9,_=>exact abz hd ha hok dm hs
 | 10,_=>exact Xn hd ha hok dm hs
 | 11,_=>exact Xl ha dm hs
 | 12,_=>exact Xm ha dm hs
 | 13,_=>exact Xk ha hok dm hs
theorem Nf (hd:d.Ok)(hL:bI L)(ha:acc<=1000000000000)(hok:s.Ok d L)(dm:fK d b s C)(hs:St K w (C++aJ bm bc L acc::F)):Calls Tryz.prog 60 #[(.pointer (some ⟨b,0,none⟩)),(.pointer (some ⟨bm,0,none⟩))] w (fN K b bm bc d L acc s F):=by
 have Q:=aqo (Sp hd hL ha hok dm hs);clear hs;go_enter Tryz.func60,Tryz.ntmps60
 go_wp2_with fail
 refine(Q.out).mono ?_
 clear Q;rintro e w1 ⟨s',C',rfl,h1,h2,hs⟩;have H:=aqo (And.intro h1 (And.intro h2 hs));clear h1 h2 hs;go_wp2
 go_ret;exact⟨s',C',rfl,H.out.1,H.out.2.1,H.out.2.2⟩
def Oe (p:j4):eE:=⟨0,p,oU,mA,abc,mF,0,0,⟨0,0,false⟩,0,0⟩
theorem xa {az ch:Int}{sep:ByteArray}(hs:St K w F):Calls Tryz.prog 59 #[.agg #[.int .i64 d.th,.int .i64 d.sn,.int .i64 d.no,.int .i64 d.ch,.int .i64 d.re,.int .i64 d.fa,.int .u64 d.cl],.int .i64 az,.string sep,.int .u64 ch] w fun e w' => ∃ b C,e=.returned (.pointer (some ⟨b,0,none⟩))/\fK d b (Oe ⟨az,sep,ch,false⟩) C/\St K w' (C++F):=by
 refine(Gv hs).mono ?_
 rintro e w' ⟨b,b2,b3,b5,bk,iQ,bA,Ck,rfl,hr,hs'⟩;exact⟨b,_,rfl,⟨b2,b3,b5,bk,iQ,bA,Ck,hr,rfl⟩,by simpa[Oe] using hs'⟩
end
end Go.Proofs.YtlpdhhhgckpcfaaGreat
