
/- aj8 pieces of the walks of PostEnters and PostWithoutNodes. -/
import Derived.Test.YtlpdhhhgckpcfaaGreatPoK
import Derived.Test.YtlpdhhhgckpcfaaGreatTasks
namespace Go.Proofs.YtlpdhhhgckpcfaaGreat
open Go.RowKit
set_option maxRecDepth 100000
def pG (d:aR):Array Value:= #[.int .i64 (d).th,.int .i64 (d).sn,.int .i64 (d).no,.int .i64 (d).ch,.int .i64 (d).re,.int .i64 (d).fa,.int .u64 (d).cl]
def xx (d:aR)(g n:Nat):Array Value:= #[.int .i64 (d).th,.int .i64 (d).sn,.int .i64 (d).no,.int .i64 (d).ch,.int .i64 (d).re,.int .i64 (d).fa,.int .u64 (d).cl,.slice (some ⟨g,0,none⟩) n n]
theorem uU:∀ (ks:List ByteArray)(i:Nat),(ee i ks).map (·.k)=ks
 | [],i=>rfl
 | k::ks,i=>by
  show k::(ee (i+1) ks).map (·.k)=_
  rw[uU ks (i+1)]
def Vb (fa:Int):aR:=⟨1,2,300,100,200,4+fa%3,1000⟩
theorem Dx (fa:Int):(Vb fa).Ok:=by
 have h0:0<=fa%3:=by omega
 have h1:fa%3<=2:=by omega
 constructor <;> simp only[Vb] <;> omega
theorem Vc (fanout:Int):∃ d:aR,Hid d.Ok/\Hid (d.fa<=6)/\Hid (d.no=300)/\Hid (d.ch=100)/\Hid (∀ w,Calls Tryz.prog 12 #[.int .i64 1,.int .i64 fanout] w fun e w' => e=.returned (.agg #[.int .i64 d.th,.int .i64 d.sn,.int .i64 100,.int .i64 d.ch,.int .i64 d.re,.int .i64 d.fa,.int .u64 d.cl])/\Below w.heap.size w w') /\
  Hid (∀ w K cs,St K w cs->Calls Tryz.prog 13 #[.agg #[.int .i64 (d).th,.int .i64 (d).sn,.int .i64 (d).no,.int .i64 (d).ch,.int .i64 (d).re,.int .i64 (d).fa,.int .u64 (d).cl]] w fun e w'' => ∃ bm bc,e=.returned (.tuple #[.agg #[.int .i64 (d).th,.int .i64 (d).sn,.int .i64 (d).no,.int .i64 (d).ch,.int .i64 (d).re,.int .i64 (d).fa,.int .u64 (d).cl],(.pointer (some ⟨bm,0,none⟩))])/\St K w'' (aJ bm bc (cm d) 0::cs)):=
 ⟨Vb fanout,aqo (Dx fanout),aqo (by show 4+fanout%3<=6;omega),aqo rfl,aqo rfl,aqo (fun w=>ou 1 fanout w),aqo (fun w K cs hs=>pQ (Dx fanout) hs)⟩
theorem afv {α:Type}(a b c m:α)(l:List α):(a::b::c::m::l).Perm (m::a::b::c::l):=List.perm_middle (l₁:=[a,b,c])
theorem afw {t:List (List Nd)}{l0:List Nd}{j:Nat}{c:Nd}(h:(fV l0 (t[1]?.getD []))[j]?=some c):c∈l0.drop 1/\¬ qF t 1 c.id:=by
 have h1:=List.mem_filter.1 (aqs h);refine⟨h1.1,fun h2=>?_⟩
 rw[lA]at h2;have h3:=h1.2;rw[decide_eq_true h2]at h3;cases h3
def jx (tk:List Nd)(ks:List ByteArray)(et el k1 k2:Nat)(e:Nat)(_ρ:Nat->Option Value)(v:Value)(cs:List aB):Prop:=
 if e=et then ∃ a c,v=.slice a tk.length c/\cs=[ak (.slice a tk.length c) 99 2 tk.length (fM tk)]
 else if e=el then v=.int .i64 (tk.length:Nat)/\cs=[]
 else if e=k1\/e=k2 then ∃ a c,v=.slice a ks.length c/\cs=[ak (.slice a ks.length c) 9 1 ks.length (bG ks)]
 else v=.bool true/\cs=[]
theorem jx.mono {tk:List Nd}{ks:List ByteArray}{et el k1 k2:Nat}{es:List Nat}:Qj es (jx tk ks et el k1 k2):=fun _ _ _ _ _ _ _ _ h=>h
section
variable {K:aK}{w:World}{F:List aB}{d:aR}{g:Nat}{L:List aP}{t:List (List Nd)}{l0:List Nd}{ks:List ByteArray}
theorem Io (hd:d.Ok)(hch:d.ch=100)(h:Ut d ks l0 L t)(hk:ks.length<=36)(hg:K.map g=some (.cells (flat L).toArray 63)) :
  L.length<=1000000/\(∀ W F,St K W F->Calls Tryz.prog 58 #[.agg #[.int .i64 (d).th,.int .i64 (d).sn,.int .i64 (d).no,.int .i64 (d).ch,.int .i64 (d).re,.int .i64 (d).fa,.int .u64 (d).cl,.slice (some ⟨g,0,none⟩) L.length L.length]] W fun e w' => ∃ v,e=.returned v/\St K w' (ak v 99 2 (fV l0 (t[1]?.getD [])).length (fM (fV l0 (t[1]?.getD [])))::F)) /\
  (∀ W F,St K W F->Calls Tryz.prog 55 #[.agg #[.int .i64 (d).th,.int .i64 (d).sn,.int .i64 (d).no,.int .i64 (d).ch,.int .i64 (d).re,.int .i64 (d).fa,.int .u64 (d).cl,.slice (some ⟨g,0,none⟩) L.length L.length]] W fun e w' => ∃ v,e=.returned v/\St K w' (ak v 9 1 ks.length (bG ks)::F)) /\
  (∀ W,W.heap[g]?=some (.cells (flat L).toArray 63)->Calls Tryz.prog 24 #[.agg #[.int .i64 (d).th,.int .i64 (d).sn,.int .i64 (d).no,.int .i64 (d).ch,.int .i64 (d).re,.int .i64 (d).fa,.int .u64 (d).cl,.slice (some ⟨g,0,none⟩) L.length L.length]] W fun e w' => e=.returned (.bool true)/\Below W.heap.size W w'):=by
 have hcb:=hd.dL;have hl:L.length<=1000000:=by have:=h.eW;omega
 have hkeys:(l0.flatMap fun nd=>nd.pg.sl).length=ks.length/\(l0.flatMap fun nd=>nd.pg.sl).map (·.k)=ks:=by
  rw[h.leaves];exact⟨jD ks 0,uU ks 0⟩
 refine⟨hl,fun W F hs=>Va hd h.ok h.r0 rfl hg hl hs,fun W F hs=>?_,fun W hW=>?_⟩
 ·have q:=Dp hd h.ok h.r0 hg hl hs
  rw[hkeys.1,hkeys.2]at q;exact q
 ·exact(yY (K:=aK.of W) hd h.iR h.eW (h.snd hd (by omega)) hW (St.start W)).mono (fun e w' (h:_/\_)=>(⟨h.1,h.2.below (aK.Le.refl _)⟩:_/\Below W.heap.size W w'))
end
end Go.Proofs.YtlpdhhhgckpcfaaGreat
