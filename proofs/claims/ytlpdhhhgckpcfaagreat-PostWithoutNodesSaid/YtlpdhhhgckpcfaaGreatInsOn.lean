
/- Insert beside a reader: its steps in a world, also behind its end; what it keeps; how many steps it makes alone. -/
import Derived.Test.YtlpdhhhgckpcfaaGreatConcIT
namespace Go.Proofs.YtlpdhhhgckpcfaaGreat
open Go.RowKit
set_option maxRecDepth 100000
section
variable {K:aK}{w:World}{F:List aB}{b bf bm bc acc:Nat}{d:aR}{fr:cB}{fu:Pg}{L:List aP}{s:fU}{C:List aB}{key:ByteArray}{f:pZ}
end
section
variable {d:aR}{L:List aP}{t:List (List Nd)}{fr:cB}{fu:Pg}{s s':fU}
theorem Ie (hd:d.Ok)(K:kM d fr fu)(hL:bI L)(h:iT d L fr fu s):bI (bQ d L s):=by
 have iY:=hd.mM;obtain⟨pc,tk,k,ps,sp,id,full⟩:=s;match pc,h with
 | 0,h=>
  obtain⟨_,_,_,a4,_⟩:=h;obtain⟨tp,seen,ok⟩:=tk;simp only at a4;show bI (aG 4 d.no L ⟨tp,seen,ok⟩).2
  rcases a4 with⟨rfl,rfl⟩|⟨rfl,rfl,b1,b2⟩
  ·exact hL
  ·unfold aG
   simp only;split
   ·exact bI.put (L:=L) (i:=4) (c:=⟨seen+1,⟨#[]⟩,0⟩) hL ⟨by show 0<=seen+1;omega,by show seen+1<_;omega⟩
   ·exact hL
 | 1,h=>
  obtain⟨_,_,_,hid,hps,hk,_⟩:=h;simp only at hps hk hid;show bI (match ps[k]? with|some pt=>aN L pt.i pt.c|none=>L)
  rw[aqt hk];refine hL.put ?_
  have hm:ps[k]∈ps:=List.getElem_mem hk;generalize ps[k]=q at hm;rw[hps]at hm;rcases List.mem_cons.1 hm with rfl|hm
  ·exact⟨by show(0:Int)<=aO 0;decide,by show aO 0<(18446744073709551616:Int);decide⟩
  ·exact o7 hd (K.Vo.right hd) q hm
 | 2,h=>
  obtain⟨_,hsp,hw,hk,hn,_⟩:=h;replace hk:k<ps.length:=hk;show bI (match ps[k]? with|some pt=>aN L pt.i pt.c|none=>L)
  rw[aqt hk];refine hL.put (My hd K.hok ?_ hw _ (List.getElem_mem hk));cases sp with
  | false=>exact K.Vo.fit (hsp rfl)
  | true=>
   obtain⟨_,hid,_⟩:=hn rfl;have h1:1<=id:=hid.lo;have h2:id<=d.no:=hid.hi;exact K.Vo.left (id:=id) hd ⟨by omega,by omega⟩
 | n+3,h=>exact hL
def Kj (d:aR)(L:List aP)(s:fU):Prop:=s.full=false/\(s.pc=0->(ah L 4).n<d.no/\(s.tk.pc=1->s.tk.seen=(ah L 4).n))
def oH (fu:Pg)(s:fU):Nat:=match s.pc with
 | 0=>(fu.sl.length+5)+(fu.sl.length+5)+(2-s.tk.pc)
 | 1=>(s.ps.length-s.k)+(fu.sl.length+5)
 | 2=>s.ps.length-s.k
 | _=>0
theorem xo (d:aR)(id:Int)(pg:Pg):(bN d id pg).length=pg.sl.length+3:=by simp[bN,eQ]
theorem Kj.step (hd:d.Ok)(hlen:(L.length:Int)=d.cells)(h:Kj d L s)(hI:iT d L fr fu s)(h2:s.pc<=2)(hn:iz d fr fu L s s'):Kj d (bQ d L s) s' /\ oH fu s' < oH fu s:=by
 have hcl:=gB hd;obtain⟨pc,tk,k,ps,sp,id,full⟩:=s;simp only at h2;obtain⟨hf,h0⟩:=h;simp only at hf h0;subst hf;rcases(by omega:pc=0\/pc=1\/pc=2)with rfl|rfl|rfl
 ·obtain⟨a1,a2,a3,a4,_⟩:=hI
  obtain⟨c3,c4⟩:=h0 rfl;obtain⟨tp,seen,ok⟩:=tk;simp only at a4 c4;rcases a4 with⟨rfl,rfl⟩|⟨rfl,rfl,b1,b2⟩
  ·have e1:aG 4 d.no L ⟨0,seen,false⟩=(⟨1,(ah L 4).n,false⟩,L):=by
    show((⟨if d.no<=(ah L 4).n then 2 else 1,(ah L 4).n,false⟩:iy),L)=_
    rw[if_neg (by omega)]
   have em:bQ d L ⟨0,⟨0,seen,false⟩,k,ps,sp,id,false⟩=L:=congrArg Prod.snd e1;rw[em];simp only[iz,e1]at hn;rcases hn with⟨_,rfl⟩|⟨q,_⟩|⟨q,_⟩
   ·exact⟨⟨rfl,fun _=>⟨c3,fun _=>rfl⟩⟩,by show _+(2-1)<_+(2-0);omega⟩
   ·omega
   ·omega
  ·have hsw:bW L 4 seen=true:=by
    unfold bW;rw[decide_eq_true (by omega),decide_eq_true (by omega),decide_eq_true (c4 rfl).symm]
    rfl
   have e1:aG 4 d.no L ⟨1,seen,false⟩=(⟨2,seen,true⟩,aN L 4 ⟨seen+1,⟨#[]⟩,0⟩):=by
    show(if bW L 4 seen then _ else _)=_
    rw[if_pos hsw]
   simp only[iz,e1]at hn;rcases hn with⟨q,_⟩|⟨_,q,_⟩|⟨_,_,rfl⟩
   ·omega
   ·cases q
   ·refine⟨⟨rfl,fun q=>(by cases q)⟩,?_⟩
    show((_::bN d (seen+1) (dD fu)).length-0)+(fu.sl.length+5)<(fu.sl.length+5)+(fu.sl.length+5)+(2-1)
    rw[List.length_cons,xo];have:(dD fu).sl.length<=fu.sl.length:=by
     show(fu.sl.drop _).length<=_
     rw[List.length_drop];omega
    omega
 ·obtain⟨_,_,_,_,_,a6,_⟩:=hI
  simp only at a6;rcases hn with⟨c1,rfl⟩|⟨c1,ps',hw,rfl⟩
  ·exact⟨⟨rfl,fun q=>(by cases q)⟩,by show(ps.length-(k+1))+_<(ps.length-k)+_;omega⟩
  ·refine⟨⟨rfl,fun q=>(by cases q)⟩,?_⟩
   have hl:=hw.len.2;have:(fy fu id).sl.length<=fu.sl.length:=by
    show(fu.sl.take _).length<=_
    rw[List.length_take];omega
   show ps'.length-0<(ps.length-k)+(fu.sl.length+5)
   simp only at hl;omega
 ·obtain⟨_,_,_,a4,_⟩:=hI
  simp only at a4;rcases hn with⟨c1,rfl⟩|⟨c1,rfl⟩
  ·exact⟨⟨rfl,fun q=>(by cases q)⟩,by show ps.length-(k+1)<ps.length-k;omega⟩
  ·exact⟨⟨rfl,fun q=>(by cases q)⟩,by show 0<ps.length-k;omega⟩
end
end Go.Proofs.YtlpdhhhgckpcfaaGreat
