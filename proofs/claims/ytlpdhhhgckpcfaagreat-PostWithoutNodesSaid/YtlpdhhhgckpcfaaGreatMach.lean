
/- Oy that are made of zV: one step of 'steps.aky. -/
import Derived.Test.YtlpdhhhgckpcfaaGreatFindA
import Derived.Test.YtlpdhhhgckpcfaaGreatCallVar
namespace Go.Proofs.YtlpdhhhgckpcfaaGreat
open Go.RowKit
set_option maxRecDepth 100000
def kg (K:aK)(bm bc:Nat)(g:Nat)(xv:Value)(L:List aP)(acc:Nat)(C:List aB)(L':List aP)(acc':Nat)(R:Bool->List aB->Prop):Prop:=
 ∀ (w:World) (F:List aB),St K w (C++aJ bm bc L acc::F)->Calls Tryz.prog g #[xv,(.pointer (some ⟨bm,0,none⟩))] w fun e w' => ∃ fin C',e=.returned (.bool fin)/\R fin C' /\ St K w' (C' ++ aJ bm bc L' acc' :: F)
section
variable {K:aK}{bm bc:Nat}{g:Nat}{xv:Value}{L L':List aP}{acc acc':Nat}{C:List aB}{R:Bool->List aB->Prop}
theorem St.turn {w:World}{A B:List aB}(h:St K w (A++B)):St K w (B++A):=h.perm List.perm_append_comm
theorem St.front {w:World}{A B F:List aB}(h:St K w (A++(B++F))):St K w (B++(A++F)):=by
 rw[← List.append_assoc]at h ⊢;exact h.perm (List.Perm.append_right F List.perm_append_comm)
theorem St.Au {w:World}:∀ {A B:List aB},St K w (A++B)->St K w B
 | [],_,h=>h
 | _::_,_,h=>St.Au h.tail
theorem kg.nA {b b2 b3 b5:Nat}{T T2:TypeId}{f:Nat}{tx ty:Array Value}{tl:List Value}{V:List aB}{R2:Option FV->List Value->List aB->Prop}
  (hin:kg K bm bc g xv L acc C L' acc' R)
  (hm : ∀ (n : Nat) (w : World), (method (n + 1) T2 xv "Step").run Tryz.prog w = .ok (g, xv) w) (hg : Enters g) (hf : Enters f)
  (hnext:∀ (C':List aB) (w:World) (F:List aB),R true C' -> St K w (blk b (.cells (aX (some (aA b2 b3 b5))::tl).toArray T)::(V++(C' ++ aJ bm bc L' acc' :: F))) ->
   Calls Tryz.prog f (tx++ty) w fun e w2=>∃ o og C2,e=.returned (aX o)/\R2 o og C2/\St K w2 (blk b (.cells (aX (some (aA b2 b3 b5))::og).toArray T)::(C2++aJ bm bc L' acc' :: F)))
  (w:World) (F:List aB)
  (hs:St K w (blk b (.cells (aX (some (aA b2 b3 b5))::tl).toArray T)::bD b2 b3 b5 (.iface T2 xv) (.func (.func f) tx ty)::(V++(C++aJ bm bc L acc::F)))) :
  Calls Tryz.prog 77 #[(.pointer (some ⟨b,0,none⟩)),(.pointer (some ⟨bm,0,none⟩))] w fun e w' => ∃ o og C2,e=.returned (.bool o.isNone)/\St K w' (blk b (.cells (aX o::og).toArray T)::(C2++aJ bm bc L' acc' :: F)) /\
   ((o=some (aA b2 b3 b5)/\og=tl/\∃ C',R false C' /\ C2=bD b2 b3 b5 (.iface T2 xv) (.func (.func f) tx ty)::(V++C'))\/R2 o og C2):=by
 have hc:=hs.k0 0;refine(gZ (K:=K) (α:={ x:Option FV × List Value × List aB // (x.1=some (aA b2 b3 b5)/\x.2.1=tl/\∃ C',R false C' /\ x.2.2=bD b2 b3 b5 (.iface T2 xv) (.func (.func f) tx ty)::(V++C'))\/R2 x.1 x.2.1 x.2.2 })
  (f:=aA b2 b3 b5) (o:=fun x=>x.1.1) (nx:=aX (some (aA b2 b3 b5))) (tl:=fun x=>x.1.2.1) (F' := fun x=>x.1.2.2++aJ bm bc L' acc' :: F) (T:=T) jP hc ?_).mono
  (fun e w' ⟨⟨⟨o,og,C2⟩,h⟩,he,hs⟩=>⟨o,og,C2,he,hs,h⟩)
 show Calls Tryz.prog 115 #[(.pointer (some ⟨bm,0,none⟩)),(.pointer (some ⟨b2,0,none⟩)),(.pointer (some ⟨b3,0,none⟩)),(.pointer (some ⟨b5,0,none⟩))] w _
 have hb:St K w (C++aJ bm bc L acc::((blk b (.cells (aX (some (aA b2 b3 b5))::tl).toArray T)::bD b2 b3 b5 (.iface T2 xv) (.func (.func f) tx ty)::V)++F)):=by
  have h1:St K w ((blk b (.cells (aX (some (aA b2 b3 b5))::tl).toArray T)::bD b2 b3 b5 (.iface T2 xv) (.func (.func f) tx ty)::V)++((C++[aJ bm bc L acc])++F)):=by simpa using hs
  have h2:=h1.front;simpa using h2
 have hrs:=hin w _ hb;refine(jh (P0:=fun w' => ∃ C',R false C' /\ St K w' (blk b (.cells (aX (some (aA b2 b3 b5))::tl).toArray T)::((bD b2 b3 b5 (.iface T2 xv) (.func (.func f) tx ty)::(V++C'))++aJ bm bc L' acc' :: F)))
  (P1:=fun o w' => ∃ og C2,R2 o og C2/\St K w' (blk b (.cells (aX (some (aA b2 b3 b5))::og).toArray T)::(C2++aJ bm bc L' acc' :: F)))
  (F:=blk b (.cells (aX (some (aA b2 b3 b5))::tl).toArray T)::(V++(C++aJ bm bc L acc::F))) (K:=K) hs.b1 hm hg hf (hrs.mono ?_)).mono ?_
 ·rintro e w1 ⟨fin,C',rfl,hR,h⟩
  have h2:St K w1 ((blk b (.cells (aX (some (aA b2 b3 b5))::tl).toArray T)::bD b2 b3 b5 (.iface T2 xv) (.func (.func f) tx ty)::V)++((C' ++ [aJ bm bc L' acc'])++F)):=by
   have h1:St K w1 ((C' ++ [aJ bm bc L' acc'])++((blk b (.cells (aX (some (aA b2 b3 b5))::tl).toArray T)::bD b2 b3 b5 (.iface T2 xv) (.func (.func f) tx ty)::V)++F)):=by simpa using h
   exact h1.front
  have h3:St K w1 (blk b (.cells (aX (some (aA b2 b3 b5))::tl).toArray T)::bD b2 b3 b5 (.iface T2 xv) (.func (.func f) tx ty)::(V++(C' ++ aJ bm bc L' acc' :: F))):=by simpa using h2
  refine⟨⟨K,_,h3.b1⟩,?_⟩;cases fin with
  | false=>exact .inl ⟨rfl,C',hR,by simpa using h3⟩
  | true=>
   refine .inr ⟨rfl,?_⟩;refine(hnext C' w1 F hR h3.b1.tail).mono ?_
   rintro e w2 ⟨o,og,C2,rfl,hR2,hs2⟩;exact⟨o,rfl,og,C2,hR2,hs2⟩
 ·rintro e w1 ⟨o,rfl,⟨rfl,C',hR,h⟩|⟨og,C2,hR2,h⟩⟩
  ·exact⟨⟨(_,tl,_),.inl ⟨rfl,rfl,C',hR,rfl⟩⟩,rfl,h⟩
  ·exact⟨⟨(o,og,C2),.inr hR2⟩,rfl,h⟩
end
def wN (K:aK)(REST:List aB)(b:Nat)(T:TypeId)(tl:List Value)(e1 e2 e3:Nat)(Φ:FV->List aB->Prop)(ρ:Nat->Option Value)(W:World):Prop:=
 ∃ (fv:FV) (C:List aB),(∀ v,ρ e1=some v->v=aX (some fv)/\Φ fv C)/\(∀ v,ρ e2=some v->v=.agg #[aX (some fv),.bool true]) /\
  St K W ((if (ρ e1).isSome then C else [])++(blk b (.cells ((if (ρ e3).isSome then aX (some fv)else .nilFunc) :: .bool (ρ e3).isSome::tl).toArray T)::REST))
section
variable {K:aK}{REST:List aB}{b:Nat}{T:TypeId}{tl:List Value}{e1 e2 e3:Nat}{Φ:FV->List aB->Prop}{ρ:Nat->Option Value}{W:World}{v1 v2:Value}
theorem wN.start (hs:St K W (blk b (.cells (.nilFunc :: .bool false::tl).toArray T)::REST)):wN K REST b T tl e1 e2 e3 Φ (fun _=>none) W:=
 ⟨⟨0, #[], #[]⟩,[],fun v h=>(by cases h),fun v h=>(by cases h),hs⟩
theorem wN.same {W':World}(h:wN K REST b T tl e1 e2 e3 Φ ρ W)(hb:Below W.heap.size W W'):wN K REST b T tl e1 e2 e3 Φ ρ W' := by
 obtain⟨fv,C,q1,q2,hs⟩:=h;exact⟨fv,C,q1,q2,hs.same hb⟩
theorem wN.rest (h:wN K REST b T tl e1 e2 e3 Φ ρ W):St K W REST:=by
 obtain⟨fv,C,q1,q2,hs⟩:=h;exact(hs.right).tail
theorem wN.call (h:wN K REST b T tl e1 e2 e3 Φ ρ W)(dS:e1≠e3)(dr:e1≠e2)(h1:ρ e1=none)(h2:ρ e2=none)(h3:ρ e3=none):St K W (blk b (.cells (.nilFunc :: .bool false::tl).toArray T)::REST) /\
  ∀ fv C W',Φ fv C->St K W' (C++(blk b (.cells (.nilFunc :: .bool false::tl).toArray T)::REST))->wN K REST b T tl e1 e2 e3 Φ (upd ρ e1 (aX (some fv))) W' := by
 obtain⟨fv0,C0,q1,q2,hs⟩:=h;rw[h1,h3]at hs;refine⟨hs,fun fv C W' hΦ hs' => ⟨fv,C,fun v hv=>?_,fun v hv=>?_,?_⟩⟩
 ·rw[cC]at hv
  exact⟨(aqu hv).symm,hΦ⟩
 ·rw[upd_ne (Ne.symm dr),h2]at hv;cases hv
 ·rw[cC,upd_ne (Ne.symm dS),h3];exact hs'
theorem wN.begin (h:wN K REST b T tl e1 e2 e3 Φ ρ W)(dr:e1≠e2)(h23:e2≠e3)(h1:ρ e1=some v1):∃ fv,v1=aX (some fv)/\∀ W',Below W.heap.size W W' -> wN K REST b T tl e1 e2 e3 Φ (upd ρ e2 (.agg #[aX (some fv),.bool true])) W' := by
 obtain⟨fv,C,q1,q2,hs⟩:=h;refine⟨fv,(q1 v1 h1).1,fun W' hb=>⟨fv,C,fun v hv=>q1 v (by rwa [upd_ne dr]at hv),fun v hv=>by rw[cC]at hv;exact(aqu hv).symm,?_⟩⟩
 rw[upd_ne dr,upd_ne (Ne.symm h23)];exact hs.same hb
theorem wN.store (h:wN K REST b T tl e1 e2 e3 Φ ρ W)(dS:e1≠e3)(h23:e2≠e3)(h2:ρ e2=some v2)(h3:ρ e3=none):∃ (fv:FV)(R':List aB),v2=.agg #[aX (some fv),.bool true]/\St K W (blk b (.cells (.nilFunc :: .bool false::tl).toArray T)::R') /\
  ∀ W',St K W' (blk b (.cells (aX (some fv) :: .bool true::tl).toArray T)::R')->wN K REST b T tl e1 e2 e3 Φ (upd ρ e3 undef) W' := by
 obtain⟨fv,C,q1,q2,hs⟩:=h;rw[h3]at hs;refine⟨fv,(if (ρ e1).isSome then C else [])++REST,q2 v2 h2,hs.perm List.perm_middle,fun W' hs' => ⟨fv,C,fun v hv=>q1 v (by rwa [upd_ne dS]at hv),fun v hv=>q2 v (by rwa [upd_ne h23]at hv),?_⟩⟩
 rw[upd_ne dS,cC];exact hs'.perm (List.perm_middle.symm)
theorem wN.last (h:wN K REST b T tl e1 e2 e3 Φ ρ W)(hall:∀ e,e∈[e1,e2,e3]->(ρ e).isSome=true):∃ (fv:FV)(C:List aB),ρ e1=some (aX (some fv))/\ρ e2=some (.agg #[aX (some fv),.bool true])/\(∃ v,ρ e3=some v)/\Φ fv C/\St K W (C++(blk b (.cells (aX (some fv) :: .bool true::tl).toArray T)::REST)):=by
 obtain⟨v1,h1⟩:=aqr.1 (hall e1 (by simp))
 obtain⟨v2,h2⟩:=aqr.1 (hall e2 (by simp))
 obtain⟨v3,h3⟩:=aqr.1 (hall e3 (by simp))
 obtain⟨fv,C,q1,q2,hs⟩:=h;rw[h1,h3]at hs;exact⟨fv,C,by rw[h1,(q1 v1 h1).1],by rw[h2,q2 v2 h2],⟨v3,h3⟩,(q1 v1 h1).2,hs⟩
end
def aho (T2:TypeId)(xv t:Value)(fv:FV)(C:List aB):Prop:=∃ b2 b3 b5,fv=aA b2 b3 b5/\C=[bD b2 b3 b5 (.iface T2 xv) t]
def R3 (i j k:Nat)(Pre:World->Prop)(M1:Value->World->Prop)(M2:Value->Value->World->Prop)(Post:Value->Value->Value->World->Prop)(ρ:Nat->Option Value)(W:World):Prop:=
 match ρ i,ρ j,ρ k with
 | none,_,_=>ρ j=none/\ρ k=none/\Pre W
 | some v,none,_=>ρ k=none/\M1 v W
 | some v,some u,none=>M2 v u W
 | some v,some u,some x=>Post v u x W
theorem jB {P:Program}{id:Nat}{Q:Exit->Act->World->Prop}{a:Act}{w:World}{l:List Oper}(m:List Bool)(i j k:Nat)(Pre:World->Prop)(M1:Value->World->Prop)(M2:Value->Value->World->Prop)(Post:Value->Value->Value->World->Prop)(Inv:World->Prop)(aS:Act)
  (hne:i≠j/\i≠k/\j≠k) (hm:P.follows .mixedOrders=true) (hB:zT l m [i,j,k] (fun e=>if e=j then [i]else if e=k then [j]else []) a.tmps.size=true)
  (H:∀ W,Inv W->wpQuiet P (bK m l).toArray (fun w' => ∃ x:Ext,w'=over W x) (fun a' => a'=aS) (bK m l) a)
  (iA:aS.tmps.size=a.tmps.size) (h0:Pre w)
  (hI:(∀ W,Pre W->Inv W)/\(∀ v W,M1 v W->Inv W)/\(∀ v u W,M2 v u W->Inv W)/\(∀ v u x W,Post v u x W->Inv W))
  (hR:(∀ W W',Pre W->Below W.heap.size W W' -> Pre W')/\(∀ v W W',M1 v W->Below W.heap.size W W' -> M1 v W')/\(∀ v u W W',M2 v u W->Below W.heap.size W W' -> M2 v u W')/\(∀ v u x W W',Post v u x W->Below W.heap.size W W' -> Post v u x W'))
  (Ff:∀ (R:(Nat->Option Value)->World->Prop) o,l[i]?=some o->∀ ρ W,Pre W->(∀ v W',M1 v W' -> R (upd ρ i v) W')->∀ af,af=aS->wpList P l.toArray (zS ρ af R i o) [o] af W)
  (vv:∀ (R:(Nat->Option Value)->World->Prop) o,l[j]?=some o->∀ ρ v W,M1 v W->(∀ u W',M2 v u W' -> R (upd ρ j u) W')->∀ af,af=aS.put (aL l i) v->wpList P l.toArray (zS ρ af R j o) [o] af W)
  (hE3:∀ (R:(Nat->Option Value)->World->Prop) o,l[k]?=some o->∀ ρ v u W,M2 v u W->(∀ x W',Post v u x W' -> R (upd ρ k x) W')->∀ af,af=aS.put (aL l j) u->wpList P l.toArray (zS ρ af R k o) [o] af W)
  (hQ:∀ v u x W,Post v u x W->Q .normal (((aS.put (aL l i) v).put (aL l j) u).put (aL l k) x) W):(Code.region id l.toArray true).wp P Q a w:=by
 obtain⟨hij,hik,hjk⟩:=hne;refine aT m [i,j,k] (fun e=>if e=j then [i]else if e=k then [j]else []) (R3 i j k Pre M1 M2 Post) Inv aS hm hB H iA ⟨rfl,rfl,h0⟩ ?_ ?_ ⟨?_,?_,?_,trivial⟩ ?_
 ·intro ρ W h
  unfold R3 at h;cases hi:ρ i with
  | none=>rw[hi]at h;exact hI.1 W h.2.2
  | some v=>
   cases hj:ρ j with
   | none=>rw[hi,hj]at h;exact hI.2.1 v W h.2
   | some u=>
    cases hk:ρ k with
    | none=>rw[hi,hj,hk]at h;exact hI.2.2.1 v u W h
    | some x=>rw[hi,hj,hk]at h;exact hI.2.2.2 v u x W h
 ·intro ρ W W' h hb
  unfold R3 at h ⊢;cases hi:ρ i with
  | none=>rw[hi]at h;exact⟨h.1,h.2.1,hR.1 W W' h.2.2 hb⟩
  | some v=>
   cases hj:ρ j with
   | none=>rw[hi,hj]at h;exact⟨h.1,hR.2.1 v W W' h.2 hb⟩
   | some u=>
    cases hk:ρ k with
    | none=>rw[hi,hj,hk]at h;exact hR.2.2.1 v u W W' h hb
    | some x=>rw[hi,hj,hk]at h;exact hR.2.2.2 v u x W W' h hb
 ·intro o ho ρ W h hcl hi hd af aC
  have aC:af=aj l ρ (if i=j then [i]else if i=k then [j]else []) aS:=aC
  rw[if_neg hij,if_neg hik]at aC;obtain rfl:af=aS:=aC;unfold R3 at h;rw[hi]at h;refine Ff _ o ho ρ W h.2.2 (fun v W' hM=>?_) _ rfl
  unfold R3;have e1:upd ρ i v i=some v:=by simp[upd]
  have e2:upd ρ i v j=none:=by simp[upd,Ne.symm hij,h.1]
  have e3:upd ρ i v k=none:=by simp[upd,Ne.symm hik,h.2.1]
  rw[e1,e2,e3];exact⟨rfl,hM⟩
 ·intro o ho ρ W h hcl hj hd af aC
  have aC:af=aj l ρ (if j=j then [i]else if j=k then [j]else []) aS:=aC
  rw[if_pos rfl]at aC;obtain⟨v,hi⟩:=aqr.1 (hd i (by show i∈(if j=j then [i]else if j=k then [j]else []);simp))
  have aC:af=aS.put (aL l i) v:=by rw[aC];simp[aj,hi]
  unfold R3 at h;rw[hi,hj]at h;refine vv _ o ho ρ v W h.2 (fun u W' hM=>?_) _ aC
  unfold R3;have e1:upd ρ j u i=some v:=by simp[upd,hij,hi]
  have e2:upd ρ j u j=some u:=by simp[upd]
  have e3:upd ρ j u k=none:=by simp[upd,Ne.symm hjk,h.1]
  rw[e1,e2,e3];exact hM
 ·intro o ho ρ W h hcl hk hd af aC
  have aC:af=aj l ρ (if k=j then [i]else if k=k then [j]else []) aS:=aC
  rw[if_neg (Ne.symm hjk),if_pos rfl]at aC;obtain⟨u,hj⟩:=aqr.1 (hd j (by show j∈(if k=j then [i]else if k=k then [j]else []);simp[Ne.symm hjk]))
  have aC:af=aS.put (aL l j) u:=by rw[aC];simp[aj,hj]
  have hi':(ρ i).isSome=true:=hcl j (by simp) (by rw[hj];rfl) i (by show i∈(if j=j then [i]else if j=k then [j]else []);simp)
  obtain⟨v,hi⟩:=aqr.1 hi';unfold R3 at h;rw[hi,hj,hk]at h;refine hE3 _ o ho ρ v u W h (fun x W' hM=>?_) _ aC
  unfold R3;have e1:upd ρ k x i=some v:=by simp[upd,hik,hi]
  have e2:upd ρ k x j=some u:=by simp[upd,hjk,hj]
  have e3:upd ρ k x k=some x:=by simp[upd]
  rw[e1,e2,e3];exact hM
 ·intro ρ W h hall
  obtain⟨v,hi⟩:=aqr.1 (hall i (by simp))
  obtain⟨u,hj⟩:=aqr.1 (hall j (by simp))
  obtain⟨x,hk⟩:=aqr.1 (hall k (by simp))
  unfold R3 at h;rw[hi,hj,hk]at h;have:=hQ v u x W h;simpa[aj,hi,hj,hk] using this
def mG (T2:TypeId)(thn:Value)(Φ1:Value->List aB->Prop)(e1 e2 e3 e4:Nat)(e:Nat)(ρ:Nat->Option Value)(v:Value)(cs:List aB):Prop:=
 if e=e1 then Φ1 v cs
 else if e=e2 then(∃ u,ρ e1=some u/\v=.iface T2 u)/\cs=[]
 else if e=e3 then ∃ u b2 b3 b5,ρ e1=some u/\v=aX (some (aA b2 b3 b5))/\cs=[bD b2 b3 b5 (.iface T2 u) thn]
 else if e=e4 then(∃ b2 b3 b5,v=aX (some (aA b2 b3 b5))/\ρ e3=some v)/\cs=[]
 else False
section
variable {T2:TypeId}{thn:Value}{Φ1:Value->List aB->Prop}{e1 e2 e3 e4:Nat}
theorem iG {ρ:Nat->Option Value}{k j:Nat}{u v:Value}(hk:ρ k=none)(hj:ρ j=some v):upd ρ k u j=some v:=by
 unfold upd;rw[if_neg (fun e=>by rw[e,hk]at hj;cases hj)]
 exact hj
theorem mG.mono {es:List Nat}:Qj es (mG T2 thn Φ1 e1 e2 e3 e4):=by
 intro e ρ v cs k u he hk h;unfold mG at h ⊢;by_cases c1:e=e1
 ·rw[if_pos c1]at h ⊢;exact h
 rw[if_neg c1]at h ⊢;by_cases c2:e=e2
 ·rw[if_pos c2]at h ⊢
  obtain⟨⟨u1,h1,h2⟩,h3⟩:=h;exact⟨⟨u1,iG hk h1,h2⟩,h3⟩
 rw[if_neg c2]at h ⊢;by_cases c3:e=e3
 ·rw[if_pos c3]at h ⊢
  obtain⟨u1,b2,b3,b5,h1,h2⟩:=h;exact⟨u1,b2,b3,b5,iG hk h1,h2⟩
 rw[if_neg c3]at h ⊢;by_cases c4:e=e4
 ·rw[if_pos c4]at h ⊢
  obtain⟨⟨b2,b3,b5,h1,h2⟩,h3⟩:=h;exact⟨⟨b2,b3,b5,h1,iG hk h2⟩,h3⟩
 rw[if_neg c4]at h ⊢;exact h
theorem mG.last {K:aK}{REST:List aB}{ρ:Nat->Option Value}{W:World}(hne:[e1,e2,e3,e4].Nodup)(h:GR K REST [e1,e2,e3,e4] (mG T2 thn Φ1 e1 e2 e3 e4) ρ W)(hall:∀ e,e∈[e1,e2,e3,e4]->(ρ e).isSome=true) :
  ∃ u b2 b3 b5 C,Φ1 u C/\ρ e1=some u/\ρ e2=some (.iface T2 u)/\ρ e3=some (aX (some (aA b2 b3 b5)))/\ρ e4=some (aX (some (aA b2 b3 b5)))/\St K W (bD b2 b3 b5 (.iface T2 u) thn::(C++REST)):=by
 obtain⟨C,hC,hs⟩:=h.last hall;simp only[List.nodup_cons,List.mem_cons,List.not_mem_nil,or_false,not_or,List.nodup_nil,and_true]at hne;obtain⟨⟨n12,n13,n14⟩,⟨n23,n24⟩,n34,_⟩:=hne;obtain⟨v1,h1,p1⟩:=hC e1 (by simp)
 obtain⟨v2,h2,p2⟩:=hC e2 (by simp)
 obtain⟨v3,h3,p3⟩:=hC e3 (by simp)
 obtain⟨v4,h4,p4⟩:=hC e4 (by simp)
 unfold mG at p1 p2 p3 p4;rw[if_pos rfl]at p1;rw[if_neg (Ne.symm n12),if_pos rfl]at p2;rw[if_neg (Ne.symm n13),if_neg (Ne.symm n23),if_pos rfl]at p3;rw[if_neg (Ne.symm n14),if_neg (Ne.symm n24),if_neg (Ne.symm n34),if_pos rfl]at p4;obtain⟨⟨u2,q2,rfl⟩,c2⟩:=p2;obtain⟨u3,b2,b3,b5,q3,rfl,c3⟩:=p3;obtain⟨⟨x2,x3,x5,rfl,q4⟩,c4⟩:=p4;rw[h1]at q2 q3;obtain rfl:=aqu q2;obtain rfl:=aqu q3;rw[h3]at q4;have q5:=aqu q4;refine⟨_,b2,b3,b5,C e1,p1,h1,h2,h3,by rw[h4,q5],?_⟩
 simp only[List.flatMap_cons,List.flatMap_nil,List.append_nil,c2,c3,c4,List.nil_append]at hs;have hs2:St K W (C e1++([bD b2 b3 b5 (.iface T2 v1) thn]++REST)):=by simpa using hs
 simpa using hs2.front
end
end Go.Proofs.YtlpdhhhgckpcfaaGreat
