
/- Rows of cells: a store into one, Same at two. -/
import Derived.Test.YtlpdhhhgckpcfaaGreatCelSame
namespace Go.Proofs.YtlpdhhhgckpcfaaGreat
open Go.RowKit
set_option maxRecDepth 100000
theorem St.Yk {K:aK}{w:World}{F:List aB}{g cap n size j:Nat}{T:TypeId}{xs:List Value}(h:St K w (ak (.slice (some ⟨g,0,none⟩) n cap) T size n xs::F))(u:Value) :
  St K (w.setCell ⟨g,j,none⟩ u) (ak (.slice (some ⟨g,0,none⟩) n cap) T size n (xs.set j u)::F):=by
 refine h.Ej (c' := ak (.slice (some ⟨g,0,none⟩) n cap) T size n (xs.set j u)) ((eG.refl _ _).setCell (.inl (by simp[ak,Value.ownBlock])) _) ?_ rfl
 obtain⟨hl,k⟩:=h.head;refine⟨by rw[List.length_set];exact hl,?_⟩
 rcases k with⟨hv,h0⟩|⟨g',cap',cur,hv,hB,hc,h1,h2,h3,h4⟩
 ·cases hv
 ·injection hv with e1 e2 e3
  injection e1 with e1
  injection e1 with e1
  subst e1 e3;refine .inr ⟨g,cap,cur.setIfInBounds j u,rfl,hB,cK hc j u,h1,h2,by simpa using h3,?_⟩
  rw[Array.toList_setIfInBounds,List.take_set,h4]
theorem St.Uw {K:aK}{w:World}{F:List aB}{g cap n size:Nat}{T:TypeId}{xs:List Value}(h:St K w (ak (.slice (some ⟨g,0,none⟩) n cap) T size n xs::F))(hn:0<n):∀ k,w.frozen? ⟨g,k,none⟩=false:=by
 obtain⟨g',cap',cur,hv,_,_,_,_,_,hs⟩:=h.Pa hn;injection hv with e1 e2 e3
 injection e1 with e1
 injection e1 with e1
 subst e1;exact hs.f0
end Go.Proofs.YtlpdhhhgckpcfaaGreat
