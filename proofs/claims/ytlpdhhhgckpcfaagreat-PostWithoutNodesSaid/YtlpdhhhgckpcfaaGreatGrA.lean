
/- af1 af2 of a region, each with parts of its own (GR). steps.Call: a machine that runs another one to its end. A region that draws its order, with a call and one operation that looks at what it returns (a store, an assignment). -/
import Derived.Test.YtlpdhhhgckpcfaaGreatTailC
import Derived.Test.YtlpdhhhgckpcfaaGreatBaseA
namespace Go.Proofs.YtlpdhhhgckpcfaaGreat
open Go.RowKit
set_option linter.unusedSectionVars false
theorem St.bring {K:aK}{w:World}{A B:List aB}{c:aB}(h:St K w (A++c::B)):St K w (c::(A++B)):=h.perm List.perm_middle
theorem St.sink {K:aK}{w:World}{A B:List aB}{c:aB}(h:St K w (c::(A++B))):St K w (A++c::B):=h.perm List.perm_middle.symm
theorem St.b7 {K:aK}{w:World}{c d e f g a b z:aB}{cs:List aB}(h:St K w (c::d::e::f::g::a::b::z::cs)):St K w (z::c::d::e::f::g::a::b::cs):=St.bring (A:=[c,d,e,f,g,a,b]) h
theorem St.b8 {K:aK}{w:World}{c0 c1 c2 c3 c4 c5 c6 c7 c8:aB}{cs:List aB}(h:St K w (c0::c1::c2::c3::c4::c5::c6::c7::c8::cs)):St K w (c8::c0::c1::c2::c3::c4::c5::c6::c7::cs):=St.bring (A:=[c0,c1,c2,c3,c4,c5,c6,c7]) h
theorem St.b10 {K:aK}{w:World}{c0 c1 c2 c3 c4 c5 c6 c7 c8 c9 c10:aB}{cs:List aB}(h:St K w (c0::c1::c2::c3::c4::c5::c6::c7::c8::c9::c10::cs)):St K w (c10::c0::c1::c2::c3::c4::c5::c6::c7::c8::c9::cs):=St.bring (A:=[c0,c1,c2,c3,c4,c5,c6,c7,c8,c9]) h
theorem St.qD {K:aK}{w:World}{c0 c1 c2 c3 c4 c5 c6 c7 c8 c9 c10 c11 c12:aB}{cs:List aB}(h:St K w (c0::c1::c2::c3::c4::c5::c6::c7::c8::c9::c10::c11::c12::cs)):St K w (c12::c0::c1::c2::c3::c4::c5::c6::c7::c8::c9::c10::c11::cs):=St.bring (A:=[c0,c1,c2,c3,c4,c5,c6,c7,c8,c9,c10,c11]) h
set_option linter.unusedSectionVars false
theorem lS {α β : Type}(f:α->List β){l l':List α}(h:l.Perm l'):(l.flatMap f).Perm (l'.flatMap f):=by
 induction h with
 | nil=>exact List.Perm.refl _
 | cons x _ ih=>rw[List.flatMap_cons,List.flatMap_cons];exact ih.append_left _
 | swap x y l=>
  rw[List.flatMap_cons,List.flatMap_cons,List.flatMap_cons,List.flatMap_cons,← List.append_assoc,← List.append_assoc];exact List.perm_append_comm.append_right _
 | trans _ _ ih1 ih2=>exact ih1.trans ih2
theorem iE {α β : Type}{f g:α->List β}:∀ {l:List α},(∀ a,a∈l->f a=g a)->l.flatMap f=l.flatMap g
 | [],_=>rfl
 | a::l,h=>by rw[List.flatMap_cons,List.flatMap_cons,h a List.mem_cons_self,iE fun b hb=>h b (List.mem_cons_of_mem _ hb)]
theorem tP:∀ (ds es:List Nat),ds.Nodup->(∀ d,d∈ds->d∈es)->∃ r,es.Perm (ds++r)
 | [],es,_,_=>⟨es,List.Perm.refl _⟩
 | d::ds,es,hn,h=>by
  rw[List.nodup_cons]at hn;have h1:=List.perm_cons_erase (h d List.mem_cons_self);obtain⟨r,hr⟩:=tP ds (es.erase d) hn.2 (fun x hx=>by
   have hne:x≠d:=fun e=>hn.1 (e ▸ hx)
   exact(List.mem_erase_of_ne hne).2 (h x (List.mem_cons_of_mem _ hx)))
  exact⟨r,h1.trans (hr.cons d)⟩
def qM (ρ:Nat->Option Value)(C:Nat->List aB)(es:List Nat):List aB:=es.flatMap fun e=>if (ρ e).isSome then C e else []
def GR (K:aK)(REST:List aB)(es:List Nat)(Φ:Nat->(Nat->Option Value)->Value->List aB->Prop)(ρ:Nat->Option Value)(W:World):Prop:=
 ∃ C:Nat->List aB,(∀ e v,e∈es->ρ e=some v->Φ e ρ v (C e))/\St K W (qM ρ C es++REST)
def Qj (es:List Nat)(Φ:Nat->(Nat->Option Value)->Value->List aB->Prop):Prop:=
 ∀ e ρ v cs k u,e∈es->ρ k=none->Φ e ρ v cs->Φ e (upd ρ k u) v cs
section
variable {K:aK}{REST:List aB}{es:List Nat}{Φ:Nat->(Nat->Option Value)->Value->List aB->Prop}{ρ:Nat->Option Value}{W:World}
theorem wG:∀ (es:List Nat)(C:Nat->List aB),qM (fun _=>none) C es=[]
 | [],_=>rfl
 | e::es,C=>by
  have:=wG es C;unfold qM at this ⊢;rw[List.flatMap_cons,this];rfl
theorem GR.start (hs:St K W REST):GR K REST es Φ (fun _=>none) W:=
 ⟨fun _=>[],fun e v _ h=>(by cases h),by rw[wG];exact hs⟩
theorem GR.same {W':World}(h:GR K REST es Φ ρ W)(hb:Below W.heap.size W W'):GR K REST es Φ ρ W' := by
 obtain⟨C,h1,hs⟩:=h;exact⟨C,h1,hs.same hb⟩
theorem GR.rest (h:GR K REST es Φ ρ W):St K W REST:=by
 obtain⟨C,h1,hs⟩:=h;exact hs.right
theorem GR.step (h:GR K REST es Φ ρ W)(hm:Qj es Φ)(e:Nat)(ds:List Nat)(hn:es.Nodup)(hd:(e::ds).Nodup)(hin:∀ d,d∈e::ds->d∈es)(he:ρ e=none)(hds:∀ d,d∈ds->(ρ d).isSome=true) :
  ∃ (C:Nat->List aB) (R:List aB),(∀ d v,d∈es->ρ d=some v->Φ d ρ v (C d))/\St K W (ds.flatMap C++(REST++R)) /\
   ∀ v cs W',Φ e (upd ρ e v) v cs->St K W' (cs++(ds.flatMap C++(REST++R)))->GR K REST es Φ (upd ρ e v) W' := by
 obtain⟨C,h1,hs⟩:=h;obtain⟨r,hr⟩:=tP (e::ds) es hd hin;have hnr:((e::ds)++r).Nodup:=hr.nodup_iff.1 hn;have ag4:ds.flatMap (fun e=>if (ρ e).isSome then C e else [])=ds.flatMap C:=iE fun d iB=>by rw[if_pos (hds d iB)]
 have p1:(qM ρ C es).Perm (ds.flatMap C++qM ρ C r):=by
  refine(lS _ hr).trans ?_
  rw[List.cons_append,List.flatMap_cons,List.flatMap_append,he];simp only[Option.isSome_none,Bool.false_eq_true,if_false,List.nil_append];rw[ag4];exact List.Perm.refl _
 refine⟨C,qM ρ C r,h1,hs.perm ?_,fun v cs W' hΦ hs' =>?_⟩
 ·refine(p1.append_right REST).trans ?_
  rw[List.append_assoc];exact List.perm_append_comm.append_left _
 ·have hne:∀ d,d∈ds++r->d≠e:=fun d iB e' => by
   rw[List.cons_append,List.nodup_cons]at hnr;exact hnr.1 (e' ▸ iB)
  refine⟨fun k=>if k=e then cs else C k,fun k u hk hu=>?_,hs'.perm ?_⟩
  ·by_cases Pv:k=e
   ·subst Pv
    have:v=u:=by simpa[upd] using hu
    subst this;show Φ k _ v (if k=k then cs else C k)
    rw[if_pos rfl];exact hΦ
   ·show Φ k _ u (if k=e then cs else C k)
    rw[if_neg Pv];have hu' : ρ k=some u:=by simpa[upd,Pv] using hu
    exact hm k ρ u _ e v hk he (h1 k u hk hu')
  ·have p2:(qM (upd ρ e v) (fun k=>if k=e then cs else C k) es).Perm (cs++(ds.flatMap C++qM ρ C r)):=by
    refine(lS _ hr).trans ?_
    rw[List.cons_append,List.flatMap_cons,List.flatMap_append];have a1:ds.flatMap (fun e_1=>if (upd ρ e v e_1).isSome=true then(if e_1=e then cs else C e_1)else [])=ds.flatMap C:=iE fun d iB=>by
     have:=hne d (List.mem_append_left _ iB);have u:upd ρ e v d=ρ d:=by simp[upd,this]
     rw[u,if_pos (hds d iB),if_neg this]
    have a2:r.flatMap (fun e_1=>if (upd ρ e v e_1).isSome=true then(if e_1=e then cs else C e_1)else [])=qM ρ C r:=iE fun d iB=>by
     have:=hne d (List.mem_append_right _ iB);have u:upd ρ e v d=ρ d:=by simp[upd,this]
     rw[u,if_neg this]
    rw[a1,a2];have u:(upd ρ e v e).isSome=true:=by simp[upd]
    rw[if_pos u];show((if e=e then cs else C e)++_).Perm _
    rw[if_pos rfl]
   refine List.Perm.trans ?_ (p2.append_right REST).symm;rw[List.append_assoc,List.append_assoc];exact(List.Perm.append_left _ (List.Perm.append_left _ List.perm_append_comm))
theorem GR.jM (h:GR K REST es Φ ρ W)(hm:Qj es Φ)(e:Nat)(hn:es.Nodup)(hin:e∈es)(he:ρ e=none)(v:Value)(hΦ:Φ e (upd ρ e v) v []):GR K REST es Φ (upd ρ e v) W:=by
 obtain⟨C,R,h1,hs,hnext⟩:=h.step hm e [] hn (by simp) (by simpa using hin) he (by simp)
 exact hnext v [] W hΦ hs
theorem GR.at (h:GR K REST es Φ ρ W)(d:Nat)(hd:d∈es){v:Value}(hv:ρ d=some v):∃ cs R,Φ d ρ v cs/\St K W (cs++(REST++R)):=by
 obtain⟨C,h1,hs⟩:=h;obtain⟨r,hr⟩:=tP [d] es (by simp) (by simpa using hd)
 refine⟨C d,qM ρ C r,h1 d v hd hv,hs.perm ?_⟩;have p1:(qM ρ C es).Perm (C d++qM ρ C r):=by
  refine(lS _ hr).trans ?_
  rw[List.cons_append,List.flatMap_cons,hv];exact List.Perm.refl _
 refine(p1.append_right REST).trans ?_
 rw[List.append_assoc];exact List.perm_append_comm.append_left _
theorem GR.last (h:GR K REST es Φ ρ W)(hall:∀ e,e∈es->(ρ e).isSome=true):∃ C:Nat->List aB,(∀ e,e∈es->∃ v,ρ e=some v/\Φ e ρ v (C e))/\St K W (es.flatMap C++REST):=by
 obtain⟨C,h1,hs⟩:=h;refine⟨C,fun e he=>?_,?_⟩
 ·obtain⟨v,hv⟩:=aqr.1 (hall e he)
  exact⟨v,hv,h1 e v he hv⟩
 ·have:qM ρ C es=es.flatMap C:=iE fun d iB=>by rw[if_pos (hall d iB)]
  rw[← this];exact hs
end
set_option maxRecDepth 100000
theorem Lk {α:Type}(l:List α):∀ (n:Nat),l.length<=n->(List.range n).filterMap (fun i=>l[i]?)=l:=by
 induction l with
 | nil=>intro n _;simp
 | cons a l ih=>
  intro n h;cases n with
  | zero=>simp at h
  | succ n=>
   rw[List.range_succ_eq_map,List.filterMap_cons,List.filterMap_map];simp only[List.getElem?_cons_zero];congr 1
   exact ih n (by simpa using h)
theorem St.re {K:aK}{w:World}{cs cs':List aB}(hs:St K w cs)(p:List Nat)(e:p.filterMap ((cs.take p.length)[·]?)++cs.drop p.length=cs')(hp:p.Perm (List.range p.length):=by decide):St K w cs' := by
 subst e;refine hs.perm ?_
 have h:=Lk (cs.take p.length) p.length (by simp;omega)
 have h2:=(hp.filterMap ((cs.take p.length)[·]?))
 rw[h]at h2;have h3:=(h2.append_right (cs.drop p.length)).symm;rwa [List.take_append_drop]at h3
def aA (b2 b3 b5:Nat):FV:=⟨115, #[], #[.pointer (some ⟨b2,0,none⟩),.pointer (some ⟨b3,0,none⟩),.pointer (some ⟨b5,0,none⟩)]⟩
theorem jP:Enters 115:=fun _ _=>by kernel_rfl
def bD (b2 b3 b5:Nat)(x t:Value):aB:=group [blk b2 (.cells #[x] 174),blk b3 (.cells #[t] 129),blk b5 (.cells #[aX (some (aA b2 b3 b5))] 121)]
section
variable {K:aK}{w:World}{F:List aB}{b2 b3 b5:Nat}{x t:Value}
theorem St.callParts (h:St K w (bD b2 b3 b5 x t::F)):St K w (blk b2 (.cells #[x] 174)::blk b3 (.cells #[t] 129)::blk b5 (.cells #[aX (some (aA b2 b3 b5))] 121)::F):=St.nS.1 h
theorem St.Qk (h:St K w (blk b2 (.cells #[x] 174)::blk b3 (.cells #[t] 129)::blk b5 (.cells #[aX (some (aA b2 b3 b5))] 121)::F)):St K w (bD b2 b3 b5 x t::F):=(St.nS (l:=[_,_,_])).2 h
theorem fF {T2:TypeId}{xv:Value}{f:Nat}{tx ty:Array Value}(hs:St K w F) :
  Calls Tryz.prog 74 #[.iface T2 xv,.func (.func f) tx ty] w fun e w' => ∃ b2 b3 b5,e=.returned (aX (some (aA b2 b3 b5)))/\St K w' (bD b2 b3 b5 (.iface T2 xv) (.func (.func f) tx ty)::F):=by
 have hs:=hs.made (.cells #[.iface T2 xv] 174);have hs:=hs.made (.cells #[.func (.func f) tx ty] 129);have hs:=hs.made (.cells #[aX (some (aA w.heap.size (w.heap.size+1) (w.heap.size+2)))] 121);simp only[World.size_alloc]at hs;have Hs:=aqo hs;clear hs;go_enter Tryz.func74,Tryz.ntmps74
 go_wp2
 go_ret;exact⟨w.heap.size,w.heap.size+1,w.heap.size+2,rfl,St.Qk Hs.out.u2.b1⟩
theorem jh {T2:TypeId}{xv:Value}{f g:Nat}{tx ty:Array Value}{m:Nat}{P0:World->Prop}{P1:Option FV->World->Prop}(hs:St K w (bD b2 b3 b5 (.iface T2 xv) (.func (.func f) tx ty)::F))
  (hm : ∀ (n : Nat) (w : World), (method (n + 1) T2 xv "Step").run Tryz.prog w = .ok (g, xv) w) (hg : Enters g) (hf : Enters f)
  (hcall:Calls Tryz.prog g #[xv,.pointer (some ⟨m,0,none⟩)] w fun e w1=>(∃ K' F',St K' w1 (bD b2 b3 b5 (.iface T2 xv) (.func (.func f) tx ty)::F'))/\((e=.returned (.bool false)/\P0 w1)\/(e=.returned (.bool true)/\Calls Tryz.prog f (tx++ty) w1 fun e w2=>∃ o,e=.returned (aX o)/\P1 o w2))) :
  Calls Tryz.prog 115 #[.pointer (some ⟨m,0,none⟩),.pointer (some ⟨b2,0,none⟩),.pointer (some ⟨b3,0,none⟩),.pointer (some ⟨b5,0,none⟩)] w fun e w' => ∃ o,e=.returned (aX o)/\((o=some (aA b2 b3 b5)/\P0 w')\/P1 o w'):=by
 have hf' : ∀ (args:Array Value) (w:World),(callFunc f args).run Tryz.prog w=.ok (.enter f args) w:=hf;have hg' : ∀ (args:Array Value) (w:World),(callFunc g args).run Tryz.prog w=.ok (.enter g args) w:=hg;have k2:=hs.callParts.k0;have HC:=aqo hcall;clear hcall hs;go_enter Tryz.func115,Tryz.ntmps115
 go_wp2_with fail
 refine(HC.out).mono ?_
 clear HC k2;rintro e w1 ⟨⟨K',F',hs⟩,h⟩;have k3:=hs.callParts.k1;have k5:=hs.callParts.k2;clear hs;rcases h with⟨rfl,h⟩|⟨rfl,h⟩
 ·go_wp2
  go_ret;exact⟨some (aA b2 b3 b5),rfl,.inl ⟨rfl,h⟩⟩
 ·have HC:=aqo h
  clear h;go_wp2_with fail
  refine(HC.out).mono ?_
  clear HC k3 k5;rintro e w2 ⟨o,rfl,h⟩;cases o with
  | none=>
   simp only[aX];go_wp2
   go_ret;exact⟨none,rfl,.inr h⟩
  | some s=>
   simp only[aX];go_wp2
   go_ret;exact⟨some s,rfl,.inr h⟩
theorem zZ (n : Nat) (a : Addr) (w : World) : (method (n + 1) 213 (.pointer (some a)) "Step").run Tryz.prog w = .ok (215, .pointer (some a)) w := by kernel_rfl
theorem z8 (n : Nat) (a : Addr) (w : World) : (method (n + 1) 84 (.pointer (some a)) "Step").run Tryz.prog w = .ok (49, .pointer (some a)) w := by kernel_rfl
end
def R2 (i j:Nat)(Pre:World->Prop)(Mid:Value->World->Prop)(Post:Value->Value->World->Prop)(ρ:Nat->Option Value)(W:World):Prop:=
 match ρ i,ρ j with
 | none,_=>ρ j=none/\Pre W
 | some v,none=>Mid v W
 | some v,some u=>Post v u W
theorem fZ {P:Program}{id:Nat}{Q:Exit->Act->World->Prop}{a:Act}{w:World}{l:List Oper}(m:List Bool)(i j:Nat)(Pre:World->Prop)(Mid:Value->World->Prop)(Post:Value->Value->World->Prop)(Inv:World->Prop)(aS:Act)
  (hij:i≠j) (hm:P.follows .mixedOrders=true) (hB:zT l m [i,j] (fun e=>if e=j then [i]else []) a.tmps.size=true)
  (H:∀ W,Inv W->wpQuiet P (bK m l).toArray (fun w' => ∃ x:Ext,w'=over W x) (fun a' => a'=aS) (bK m l) a)
  (iA:aS.tmps.size=a.tmps.size) (h0:Pre w)
  (hI:(∀ W,Pre W->Inv W)/\(∀ v W,Mid v W->Inv W)/\(∀ v u W,Post v u W->Inv W))
  (hR:(∀ W W',Pre W->Below W.heap.size W W' -> Pre W')/\(∀ v W W',Mid v W->Below W.heap.size W W' -> Mid v W')/\(∀ v u W W',Post v u W->Below W.heap.size W W' -> Post v u W'))
  (Ff:∀ (R:(Nat->Option Value)->World->Prop) o,l[i]?=some o->∀ ρ W,Pre W->(∀ v W',Mid v W' -> R (upd ρ i v) W')->∀ af,af=aS->wpList P l.toArray (zS ρ af R i o) [o] af W)
  (vv:∀ (R:(Nat->Option Value)->World->Prop) o,l[j]?=some o->∀ ρ v W,Mid v W->(∀ u W',Post v u W' -> R (upd ρ j u) W')->∀ af,af=aS.put (aL l i) v->wpList P l.toArray (zS ρ af R j o) [o] af W)
  (hQ:∀ v u W,Post v u W->Q .normal ((aS.put (aL l i) v).put (aL l j) u) W):(Code.region id l.toArray true).wp P Q a w:=by
 have hji:j≠i:=hij.symm;refine aT m [i,j] (fun e=>if e=j then [i]else []) (R2 i j Pre Mid Post) Inv aS hm hB H iA ⟨rfl,h0⟩ ?_ ?_ ⟨?_,?_,trivial⟩ ?_
 ·intro ρ W h
  unfold R2 at h;cases hi:ρ i with
  | none=>rw[hi]at h;exact hI.1 W h.2
  | some v=>
   cases hj:ρ j with
   | none=>rw[hi,hj]at h;exact hI.2.1 v W h
   | some u=>rw[hi,hj]at h;exact hI.2.2 v u W h
 ·intro ρ W W' h hb
  unfold R2 at h ⊢;cases hi:ρ i with
  | none=>rw[hi]at h;exact⟨h.1,hR.1 W W' h.2 hb⟩
  | some v=>
   cases hj:ρ j with
   | none=>rw[hi,hj]at h;exact hR.2.1 v W W' h hb
   | some u=>rw[hi,hj]at h;exact hR.2.2 v u W W' h hb
 ·intro o ho ρ W h hcl hi hd af aC
  have aC:af=aj l ρ (if i=j then [i]else []) aS:=aC
  rw[if_neg hij]at aC;obtain rfl:af=aS:=aC;unfold R2 at h;rw[hi]at h;refine Ff _ o ho ρ W h.2 (fun v W' hM=>?_) _ rfl
  unfold R2;have e1:upd ρ i v i=some v:=by simp[upd]
  have e2:upd ρ i v j=none:=by simp[upd,hji,h.1]
  rw[e1,e2];exact hM
 ·intro o ho ρ W h hcl hj hd af aC
  have aC:af=aj l ρ (if j=j then [i]else []) aS:=aC
  rw[if_pos rfl]at aC;obtain⟨v,hi⟩:=aqr.1 (hd i (by show i∈(if j=j then [i]else []);simp))
  have aC:af=aS.put (aL l i) v:=by rw[aC];simp[aj,hi]
  unfold R2 at h;rw[hi,hj]at h;refine vv _ o ho ρ v W h (fun u W' hM=>?_) _ aC
  unfold R2;have e1:upd ρ j u i=some v:=by simp[upd,hij,hi]
  have e2:upd ρ j u j=some u:=by simp[upd]
  rw[e1,e2];exact hM
 ·intro ρ W h hall
  obtain⟨v,hi⟩:=aqr.1 (hall i (by simp))
  obtain⟨u,hj⟩:=aqr.1 (hall j (by simp))
  unfold R2 at h;rw[hi,hj]at h;have:=hQ v u W h;simpa[aj,hi,hj] using this
end Go.Proofs.YtlpdhhhgckpcfaaGreat
