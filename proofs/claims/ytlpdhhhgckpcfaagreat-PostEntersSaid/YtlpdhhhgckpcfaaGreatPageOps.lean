/- slices.Grow of nothing, slices.ak7. -/
import Derived.Test.YtlpdhhhgckpcfaaGreatPageA
namespace Go.Proofs.YtlpdhhhgckpcfaaGreat
set_option linter.unusedSimpArgs false
set_option linter.unusedVariables false
open Go.RowKit
set_option maxHeartbeats 16000000
set_option maxRecDepth 100000
section
theorem St.xg {K:aL}{w:World}{F:List aC}{a:Option Addr}{n cap:Nat}{T:TypeId}{size:Nat}{xs:List Value}(h:St K w (az (.slice a n cap) T size n xs::F)):(a=none/\n=0/\cap=0)\/(∃g,a=some ⟨g,0,none⟩/\n<=cap):=by
 obtain⟨hl,k⟩:=h.head;rcases k with⟨hv,h0⟩|⟨g,cap',cur,hv,hB,hc,h1,h2,h3,h4⟩
 ·simp only[Value.slice.injEq]at hv
  exact .inl ⟨hv.1,h0,hv.2.2⟩
 ·simp only[Value.slice.injEq]at hv
  exact .inr ⟨g,hv.1,by omega⟩
theorem rk {P:Program}(w:World)(t u ty e:TypeId)(i:TypeInfo)(z:Value)(size bytes:Nat)(ht:P.underlying t=some (.slice e))(hu:P.underlying u=some (.int .i64))(hi:P.info? e=some i)(hz:i.zero=some z)(hsize:i.size=size)(hby:i.bytes=bytes)(hzs:z.cells.size=size)(hsz:0<size)(hb:bytes<=64)(n:Nat)(h0:0<n)(hn:n<=1000000) :
  ∃c w' cur,(Builtin.append_ #[t,u] ty #[.slice none 0 0,.int .i64 n]).run P w=.ok (.slice (some ⟨w.heap.size,0,none⟩) n c) w' /\ n<=c/\c<=maxLen/\w'.heap[w.heap.size]?=some (.cells cur e (0,0))/\cur.size=c*size/\w.grownBy w' none:=by
 subst hsize;subst hby;have hge:=grownCap_ge w n 0 e;have hcm:grownCap w n 0 e<=maxLen:=grownCap_le_maxLen w n 0 e (by unfold maxLen;omega)
 have hw:IntKind.i64.wrap (n:Int)=n:=by rw[IntKind.wrap_i64];omega
 have h1:¬ ((n:Int)<0):=by omega
 have hmul:n*i.bytes<=1000000*64:=Nat.mul_le_mul hn hb;have h2:¬ (281474976710656<(n:Int)*(i.bytes:Int)):=by
  have:(n:Int)*(i.bytes:Int)=((n*i.bytes:Nat):Int):=by rw[Int.natCast_mul]
  rw[this];omega
 have h3:¬ (9223372036854775807<(n:Int)):=by omega
 have h4:¬ (281474976710656<Builtin.nextslicecap n 0*i.bytes):=by rw[nextslicecap_zero h0];omega
 have h5:¬ (n*i.size=0):=by
  have:=Nat.mul_pos h0 hsz;omega
 have h6:n≠0:=by omega
 refine⟨grownCap w n 0 e,w.drew.alloc (.cells (Builtin.zeroCells z.cells n++Builtin.zeroCells z.cells (grownCap w n 0 e-n)) e),_,?_,hge,hcm,heap_alloc_new w.drew _,?_,⟨rfl,rfl,rfl,by simp,fun k hk _=>heap_alloc_old w.drew _ hk⟩⟩
 ·simp[Builtin.append_,run_underlying ht,run_underlying hu,sizeOf,typeInfo,zeroValue,hi,hz,hw,h1,h2,h3,h4,h5,h6,asInt,asIntOf,Builtin.firstCells,Question.forced,newRow,grownCap]
 ·simp only[Array.size_append,size_zeroCells,hzs,←Nat.add_mul]
  congr 1
  omega
section
variable {K:aL}{w:World}{F:List aC}
theorem St.abg {w':World}{c:aC}(hs:St K w F)(hg:w.grownBy w' none)(hc:c.ok w')(hf:∀b,b∈c.foot->b=w.heap.size)(hn:c.foot.Nodup):St K w' (c::F):=by
 refine St.vD (ms:=[]) (ms' := [c]) (F:=F) hs ⟨hg.os,hg.tape,hg.output,hg.size,fun k hk hn=>hg.block k hk (by simp)⟩ (fun c' hc' =>?_) (fun b hb=>?_) ?_
 ·simp at hc';subst hc';exact hc
 ·right
  have:=hf b (by simpa[cR] using hb)
  omega
 ·simpa[cR] using hn
theorem sG {ops:Array Oper}{rest:List Oper}{o:Oper}{a:Act}{Q:Exit->Act->World->Prop}(s x:Operand)(t u e:TypeId)(i:TypeInfo)(z:Value)(size bytes n:Nat)(hs:St K w F)
  (hgd:o.guard=none) (ho:o.op=.call { callee:= .builtin .append,args:= #[s,x],argTypes:= #[t,u] })
  (ht:Tryz.prog.underlying t=some (.slice e)) (hu:Tryz.prog.underlying u=some (.int .i64)) (hi:Tryz.prog.info? e=some i) (hz:i.zero=some z) (hsize:i.size=size) (hby:i.bytes=bytes) (hzs:z.cells.size=size) (hsz:0<size) (hb:bytes<=64) (h0:0<n) (hn:n<=1000000)
  (hes:a.eval s=.slice none 0 0) (hx:a.eval x=.int .i64 n)
  (h:∀g c w',n<=c->St K w' (az (.slice (some ⟨g,0,none⟩) 0 c) e size 0 []::F)->wpList Tryz.prog ops Q rest (a.put o.dst (.slice (some ⟨g,0,none⟩) n c)) w'):wpList Tryz.prog ops Q (o::rest) a w:=by
 obtain⟨c,w',cur,hr,hge,hcm,adY,hcs,hg⟩:=rk (P:=Tryz.prog) w t u o.type e i z size bytes ht hu hi hz hsize hby hzs hsz hb n h0 hn;have hs':St K w' (az (.slice (some ⟨w.heap.size,0,none⟩) 0 c) e size 0 []::F):=
  hs.abg hg ⟨by simp,.inr ⟨w.heap.size,c,cur,rfl,Nat.zero_le _,adY,Nat.zero_le _,hcm,hcs,by simp⟩⟩ (fun b hb=>by simpa[az,Value.ownBlock] using hb) (by simp[az,Value.ownBlock])
 refine wpList_plain hgd fun K' hK=>?_
 unfold Oper.wp execOp;simp only[ho,resolve,invoke,builtin,Sem.run_bind,Sem.run_pure,Result.andThen_ok,List.map_toArray,List.map_cons,List.map_nil,hes,hx,hr];exact hK _ _ (h _ c w' hge hs')
theorem sH {ops:Array Oper}{rest:List Oper}{o:Oper}{a:Act}{Q:Exit->Act->World->Prop}(s x:Operand)(t e:TypeId)(i:TypeInfo)(z:Value)(size bytes m c:Nat)(b ad:Addr)(news:List Value)(hs:St K w F)
  (hgd:o.guard=none) (ho:o.op=.call { callee:= .builtin .append,args:= #[s,x],argTypes:= #[t,t] })
  (ht:Tryz.prog.underlying t=some (.slice e)) (hi:Tryz.prog.info? e=some i) (hz:i.zero=some z) (hsize:i.size=size) (hby:i.bytes=bytes) (hzs:z.cells.size=size) (hsz:0<size) (Qu:bytes<=64) (h0:0<m) (hn:m<=1000000)
  (hes:a.eval s=.slice (some b) 0 0) (hx:a.eval x=.slice (some ad) m c) (hl:news.length=m*size) (hnews:∀j u,news[j]?=some u->w.cell? (ad.add j)=some u)
  (h:∀v' w',St K w' (az v' e size m news::F)->wpList Tryz.prog ops Q rest (a.put o.dst v') w'):wpList Tryz.prog ops Q (o::rest) a w:=by
 have hbytes:(0+m)*bytes<=140737488355328:=by
  calc (0+m)*bytes<=1000000*64:=Nat.mul_le_mul (by omega) Qu
   _<=140737488355328:=by decide
 obtain⟨v',w',hr,hown,hg⟩:=run_append_arg_grows (P:=Tryz.prog) (w:=w) t o.type e i z size bytes ht hi hz hsize hby hzs hsz b 0 0 [] (by simp) (fun j u hj=>by simp at hj) ad m c news hl hnews (by omega) (by unfold maxLen;omega) hbytes
 simp only[List.nil_append,Nat.zero_add]at hown;have hs':St K w' (az v' e size m news::F):=by
  obtain⟨h1,h2⟩:=hown;rcases h2 with⟨_,h2⟩|⟨g,cap,cur,hv,hgb,hc,r⟩
  ·omega
  ·have hlt:g<w'.heap.size:=ia hc
   refine hs.new (ms:=[az v' e size m news]) ⟨hg.os,hg.tape,hg.output,hg.size,fun k hk=>hg.block k hk (by simp)⟩ (fun c' hc' =>?_) (fun b' hb' =>?_) ?_
   ·simp at hc';subst hc'
    exact⟨h1,.inr ⟨g,cap,cur,hv,Nat.zero_le _,hc,r⟩⟩
   ·rw[hv]at hb'
    simp[cR,az,Value.ownBlock]at hb';omega
   ·rw[hv];simp[cR,az,Value.ownBlock]
 refine wpList_plain hgd fun K' hK=>?_
 unfold Oper.wp execOp;simp only[ho,resolve,invoke,builtin,Sem.run_bind,Sem.run_pure,Result.andThen_ok,List.map_toArray,List.map_cons,List.map_nil,hes,hx,hr];exact hK _ _ (h v' w' hs')
theorem My (n:Nat)(hn:n<=1000000)(hs:St K w F) :
  Calls Tryz.prog 161 #[.slice none 0 0,.int .i64 n] w fun e w' => ∃a c,e=.returned (.slice a 0 c)/\St K w' (az (.slice a 0 c) 69 2 0 []::F):=by
 by_cases h0:0<n
 ·obtain⟨iv,cZ,dc,dg,dh⟩:=info_parts gU
  have lI:=aq3 cZ;have lJ:=aq3 dc;have lK:=aq3 dg;have lM:=aq3 dh;clear cZ dc dg dh;have Hs:=aq3 hs;clear hs;go_enter Tryz.func161,Tryz.ntmps161
  go_wp2_with (at_builtin;refine sG _ _ 41 3 69 iv (.agg #[.string ⟨#[]⟩,.int .u64 0]) 2 24 n Hs.out rfl rfl Tryz.underlying41 Tryz.underlying3 lI.out lJ.out lK.out lM.out rfl (by decide) (by decide) h0 hn rfl rfl ?_)
  intro g c w' hc hs;go_wp2
  go_ret;exact⟨_,_,rfl,hs⟩
 ·obtain rfl:n=0:=by omega
  go_enter Tryz.func161,Tryz.ntmps161
  go_wp2
  go_ret;exact⟨none,0,rfl,hs.cF⟩
theorem Mz (ad:Addr)(n cap:Nat)(w:World):(binOp .eql 41 (.slice (some ad) n cap) (.slice none 0 0)).run Tryz.prog w=.ok (.bool false) w:=by kernel_rfl
theorem ur {ad:Addr}{cap:Nat}{l:List Sl}(hl:ej w (some ad) l)(hn:0<l.length)(hn2:l.length<=1000000)(hs:St K w F) :
  Calls Tryz.prog 164 #[.slice (some ad) l.length cap] w fun e w' => ∃a' c,e=.returned (.slice a' l.length c)/\St K w' (az (.slice a' l.length c) 69 2 l.length (aD l)::F):=by
 obtain⟨iv,cZ,dc,dg,dh⟩:=info_parts gU;have lI:=aq3 cZ;have lJ:=aq3 dc;have lK:=aq3 dg;have lM:=aq3 dh;clear cZ dc dg dh;have Hs:=aq3 (hs.pass (.cells #[] 69));have hl:=hl.same ((Below.refl w.heap.size w).alloc (Nat.le_refl _) (.cells #[] 69));have xY:=aq3 (fF l);have Sp:Hid (∀j u,(aD l)[j]?=some u->(w.alloc (.cells #[] 69)).cell? (ad.add j)=some u):=aq3 (fun j u hu=>by
  obtain⟨g,off,e,hc⟩:=hl.news j u hu;simp only[Option.some.injEq]at e;subst e;have:(⟨g,off,none⟩:Addr).add j=⟨g,off+j,none⟩:=by
   unfold Addr.add;split
   ·rename_i h;rw[h];rfl
   ·rfl
  rw[this];exact hc)
 clear hs hl;have hq:=Mz ad l.length cap w;go_enter Tryz.func164,Tryz.ntmps164
 go_wp2_with (at_builtin;refine sH _ _ 41 69 iv (.agg #[.string ⟨#[]⟩,.int .u64 0]) 2 24 l.length cap ⟨w.heap.size,0,none⟩ ad (aD l) Hs.out rfl rfl Tryz.underlying41 lI.out lJ.out lK.out lM.out rfl (by decide) (by decide) hn hn2 rfl rfl xY.out Sp.out ?_)
 intro v' w' hs;obtain⟨a',c',rfl,_,_⟩:=hs.aH;go_wp2
 go_ret;exact⟨_,_,rfl,hs⟩
def iW (X:Nat->List Sl):Nat->List Sl
 | 0=>[]
 | i+1=>iW X i++X i
theorem Bp {X:Nat->List Sl}{k:Nat}(h:∀i,i<k->(X i).length<=1000):∀j,j<=k->(iW X j).length<=j*1000
 | 0,_=>Nat.le_refl _
 | j+1,hj=>by
  have h1:=Bp h j (by omega)
  have h2:=h j (by omega)
  show(iW X j++X j).length<=_
  rw[List.length_append];omega
theorem nE {bs:Nat}{A:Nat->Option Addr}{C:Nat->Nat}{X:Nat->List Sl}(k:Nat)(hk:k<=3)(hlen:∀i,i<k->(X i).length<=1000)
  (hsrc:∀W R,St K W (R++F)->∀i,i<k->ej W (A i) (X i)/\W.cell? ⟨bs,i,none⟩=some (.slice (A i) (X i).length (C i))) (hs:St K w F) :
  Calls Tryz.prog 132 #[.slice (some ⟨bs,0,none⟩) k k] w fun e w' => ∃a c,e=.returned (.slice a (iW X k).length c)/\St K w' (az (.slice a (iW X k).length c) 69 2 (iW X k).length (aD (iW X k))::F):=by
 obtain⟨iv,cZ,dc,dg,dh⟩:=info_parts gU;have lI:=aq3 cZ;have lJ:=aq3 dc;have lK:=aq3 dg;have lM:=aq3 dh;have adZ:=aq3 hsrc;have xY:=aq3 (Bp hlen);have Hl:=aq3 hlen;clear cZ dc dg dh hsrc hlen;go_enter Tryz.func132,Tryz.ntmps132
 go_wp2_with fail
 go_loopw [3,5,11] (fun v3 _ v11 wr=>∃j:Nat,j<=k/\v3=.int .i64 ((iW X j).length:Nat)/\v11=.int .i64 j/\St K wr F) (fun _ _ v11 _=>k-(intOf v11).toNat)
 case atStart=>exact⟨0,by omega,rfl,rfl,hs⟩
 case round=>
  clear hs;obtain⟨j,hj,rfl,rfl,hs⟩:=hrel;by_cases hjk:j<k
  ·obtain⟨_,c0⟩:=adZ.out wr [] hs j hjk
   have h1:=xY.out j (by omega)
   have h2:=Hl.out j hjk;have e:(iW X (j+1)).length=(iW X j).length+(X j).length:=by show(iW X j++X j).length=_;rw[List.length_append]
   have E:=aq3 e;have hw:wrap64 (((iW X j).length:Int)+((X j).length:Int))=((iW X j).length:Int)+((X j).length:Int):=by unfold wrap64;omega
   clear e;go_wp2
   go_roundw
   case rel=>exact⟨j+1,by omega,by rw[E.out];go_num,by go_num,hs⟩
   case measure=>simp[intOf];omega
  ·obtain rfl:j=k:=by omega
   have h1:=xY.out j (by omega)
   have q:=My (iW X j).length (by omega) hs
   have Q:=aq3 q;clear q hs;go_wp2_with fail
   refine(Q.out).mono ?_
   rintro e w2 ⟨a,c,rfl,hs⟩;clear Q hjk hj;go_wp2_with fail
   go_loopw [6,8,27] (fun v6 _ v27 wr=>∃(i:Nat) (a:Option Addr) (c:Nat),i<=j/\v6=.slice a (iW X i).length c/\v27=.int .i64 i/\St K wr (az (.slice a (iW X i).length c) 69 2 (iW X i).length (aD (iW X i))::F)) (fun _ _ v27 _=>j-(intOf v27).toNat)
   case atStart=>exact⟨0,a,c,by omega,rfl,rfl,hs⟩
   case round=>
    clear hs;obtain⟨i,a,c,hi,rfl,rfl,hs⟩:=hrel;by_cases hij:i<j
    ·obtain⟨eY,c0⟩:=adZ.out wr [_] hs i hij
     have h2:=xY.out i (by omega)
     have h3:=Hl.out i hij;have H0:Hid (A i=none->(X i).length=0):=aq3 (fun e=>by rw[e]at eY;rw[eY.no];rfl)
     have Sp:=aq3 eY.news;have ahH:=aq3 (lh (X i));have Hxl:=aq3 (fF (X i));have E:Hid (aD (iW X (i+1))=aD (iW X i)++aD (X i)/\(iW X (i+1)).length=(iW X i).length+(X i).length):=aq3 ⟨by show aD (iW X i++X i)=_;simp[aD],by show(iW X i++X i).length=_;rw[List.length_append]⟩
     have Hs:=aq3 hs;clear hs eY;go_wp2_with (at_builtin;refine cG _ _ 41 69 _ (iW X i).length (X i).length (C i) 2 24 _ (aD (X i)) (.agg #[.string ⟨#[]⟩,.int .u64 0]) iv (A i) Hs.out rfl rfl Tryz.underlying41 lI.out lJ.out lK.out lM.out rfl (by decide) rfl rfl Hxl.out H0.out Sp.out ahH.out (by omega) (by decide) ?_)
     intro v' w' hs;rw[←E.out.1,←E.out.2]at hs;obtain⟨a',c',hv,_,_⟩:=hs.aH;subst hv;clear c0;go_wp2
     go_roundw
     case rel=>exact⟨i+1,a',c',by omega,rfl,by go_num,hs⟩
     case measure=>simp[intOf];omega
    ·obtain rfl:i=j:=by omega
     go_wp2
     go_ret;exact⟨a,c,rfl,hs⟩
end
def eQ (l:List Sl)(key:ByteArray)(r:Int):List Sl:=l.take (gD l key)++⟨key,r⟩::l.drop (gD l key)
def aZ (pg:Pg)(key:ByteArray)(r:Int):Pg:=⟨pg.ak,eQ pg.sl key r,pg.hi,pg.la,pg.ri⟩
theorem fH (l:List Sl)(key:ByteArray)(r:Int):(eQ l key r).length=l.length+1:=by
 have:=ue l key;unfold eQ;rw[List.length_append,List.length_cons,List.length_take,List.length_drop];omega
theorem ej.take {W:World}{a:Option Addr}{l:List Sl}(h:ej W a l)(k:Nat):ej W a (l.take k):=by
 refine⟨by rw[List.length_take];have:=h.1;omega,fun i s hs=>h.2 i s ?_⟩
 rw[List.getElem?_take]at hs;split at hs
 ·exact hs
 ·cases hs
theorem ej.drop {W:World}{g:Nat}{l:List Sl}(h:ej W (some ⟨g,0,none⟩) l)(k:Nat):ej W (some ⟨g,k*2,none⟩) (l.drop k):=by
 refine⟨by rw[List.length_drop];have:=h.1;omega,fun i s hs=>?_⟩
 rw[List.getElem?_drop]at hs;obtain⟨b,off,e,h1,h2,h3⟩:=h.2 (k+i) s hs;simp only[Option.some.injEq,Addr.mk.injEq,and_true]at e;obtain⟨rfl,rfl⟩:=e;refine⟨g,k*2,rfl,h1,?_,?_⟩
 ·rw[←h2];congr 2;omega
 ·rw[←h3];congr 2;omega
theorem ej.nil {W:World}{a:Option Addr}:ej W a []:=⟨by simp,fun i s hs=>by simp at hs⟩
theorem ej.one {K:aL}{W:World}{F:List aC}{b:Nat}{key:ByteArray}{r:Int}(h:St K W (blk b (.cells #[.string key,.int .u64 r] 69)::F)):ej W (some ⟨b,0,none⟩) [⟨key,r⟩]:=by
 refine⟨by simp,fun i s hs=>?_⟩
 cases i with
 | zero=>
  simp at hs;subst hs;exact⟨b,0,rfl,h.n0,h.k0 0,h.k0 1⟩
 | succ i=>simp at hs
def oL (K:aL)(REST:List aC)(bp:Nat)(pg lN:Pg)(va v0 v2:Value)(key:ByteArray)(r:Int)(N:Nat)(ρ:Nat->Option Value)(W:World):Prop:=
 ∃(b7 rp:Nat) (an:Option Addr) (cn:Nat),(∀v,ρ 7=some v->v=.slice (some ⟨b7,0,none⟩) 1 1)/\(∀v,ρ 12=some v->v=.slice (some ⟨rp,0,none⟩) 3 3)/\(∀v,ρ 13=some v->v=.slice an N cn) /\
  St K W (dH (ρ 7) (blk b7 (.cells #[.string key,.int .u64 r] 69))::dH (ρ 12) (blk rp (.cells #[v0,.slice (some ⟨b7,0,none⟩) 1 1,v2] 41))::dH (ρ 13) (az (.slice an N cn) 69 2 N (aD lN.sl)) ::
   blk bp (.cells (if (ρ 15).isSome then #[.int .i64 (lN).ak,(.slice an N cn),.string (lN).hi,.bool (lN).la,.int .u64 (lN).ri]else #[.int .i64 (pg).ak,va,.string (pg).hi,.bool (pg).la,.int .u64 (pg).ri]) 43)::REST)
section
variable {K:aL}{REST:List aC}{bp:Nat}{pg lN:Pg}{va v0 v2:Value}{key:ByteArray}{r:Int}{N:Nat}{ρ:Nat->Option Value}{W:World}{v7 v12 v13:Value}
theorem oL.start (hs:St K W (blk bp (.cells #[.int .i64 (pg).ak,va,.string (pg).hi,.bool (pg).la,.int .u64 (pg).ri] 43)::REST)):oL K REST bp pg lN va v0 v2 key r N (fun _=>none) W:=
 ⟨0,0,none,0,fun v h=>(by cases h),fun v h=>(by cases h),fun v h=>(by cases h),hs.empty.empty.empty⟩
theorem oL.same {W':World}(h:oL K REST bp pg lN va v0 v2 key r N ρ W)(hb:Below W.heap.size W W'):oL K REST bp pg lN va v0 v2 key r N ρ W' := by
 obtain⟨b7,rp,an,cn,e1,e2,e3,hs⟩:=h;exact⟨b7,rp,an,cn,e1,e2,e3,hs.same hb⟩
theorem oL.page (h:oL K REST bp pg lN va v0 v2 key r N ρ W)(cY:ρ 15=none):St K W (blk bp (.cells #[.int .i64 (pg).ak,va,.string (pg).hi,.bool (pg).la,.int .u64 (pg).ri] 43)::REST):=by
 obtain⟨b7,rp,an,cn,e1,e2,e3,hs⟩:=h;rw[cY]at hs;exact hs.tail.tail.tail
theorem oL.e7 (h:oL K REST bp pg lN va v0 v2 key r N ρ W)(h7:ρ 7=none)(dr:ρ 12=none):oL K REST bp pg lN va v0 v2 key r N (upd ρ 7 (.slice (some ⟨W.heap.size,0,none⟩) 1 1)) (W.alloc (.cells #[.string key,.int .u64 r] 69)):=by
 obtain⟨b7,rp,an,cn,e1,e2,e3,hs⟩:=h;rw[h7,dr]at hs;refine⟨W.heap.size,rp,an,cn,fun v h=>by simpa[upd] using h.symm,fun v h=>?_,fun v h=>e3 v (by simpa[upd] using h),?_⟩
 ·have:ρ 12=some v:=by simpa[upd] using h
  rw[dr]at this;cases this
 ·have:St K (W.alloc (.cells #[.string key,.int .u64 r] 69)) (dH (some (.slice (some ⟨W.heap.size,0,none⟩) 1 1)) (blk W.heap.size (.cells #[.string key,.int .u64 r] 69))::dH none (blk rp (.cells #[v0,.slice (some ⟨W.heap.size,0,none⟩) 1 1,v2] 41))::_):=hs.tail.made (.cells #[.string key,.int .u64 r] 69)
  simpa[upd,dr] using this
theorem oL.xh (h:oL K REST bp pg lN va v0 v2 key r N ρ W)(h7:ρ 7=some v7)(dr:ρ 12=none):∃b7:Nat,v7=.slice (some ⟨b7,0,none⟩) 1 1 /\
  oL K REST bp pg lN va v0 v2 key r N (upd ρ 12 (.slice (some ⟨W.heap.size,0,none⟩) 3 3)) (W.alloc (.cells #[v0,.slice (some ⟨b7,0,none⟩) 1 1,v2] 41)):=by
 obtain⟨b7,rp,an,cn,e1,e2,e3,hs⟩:=h;rw[dr]at hs;refine⟨b7,e1 v7 h7,b7,W.heap.size,an,cn,fun v h=>e1 v (by simpa[upd] using h),fun v h=>by simpa[upd] using h.symm,fun v h=>e3 v (by simpa[upd] using h),?_⟩
 have h2:St K W (gN::dH (ρ 7) (blk b7 (.cells #[.string key,.int .u64 r] 69))::_):=hs.b1;have h3:=(h2.tail.made (.cells #[v0,.slice (some ⟨b7,0,none⟩) 1 1,v2] 41)).b1;have:St K (W.alloc (.cells #[v0,.slice (some ⟨b7,0,none⟩) 1 1,v2] 41)) (dH (ρ 7) (blk b7 (.cells #[.string key,.int .u64 r] 69))::dH (some (.slice (some ⟨W.heap.size,0,none⟩) 3 3)) (blk W.heap.size (.cells #[v0,.slice (some ⟨b7,0,none⟩) 1 1,v2] 41))::_):=h3;simpa[upd] using this
theorem oL.Xo (h:oL K REST bp pg lN va v0 v2 key r N ρ W)(h7:ρ 7=some v7)(dr:ρ 12=some v12)(dS:ρ 13=none)(cY:ρ 15=none):∃b7 rp:Nat,v12=.slice (some ⟨rp,0,none⟩) 3 3 /\
  St K W (blk b7 (.cells #[.string key,.int .u64 r] 69)::blk rp (.cells #[v0,.slice (some ⟨b7,0,none⟩) 1 1,v2] 41)::blk bp (.cells #[.int .i64 (pg).ak,va,.string (pg).hi,.bool (pg).la,.int .u64 (pg).ri] 43)::REST) /\
  ∀(an:Option Addr) (cn:Nat) W',St K W' (az (.slice an N cn) 69 2 N (aD lN.sl)::blk b7 (.cells #[.string key,.int .u64 r] 69)::blk rp (.cells #[v0,.slice (some ⟨b7,0,none⟩) 1 1,v2] 41)::blk bp (.cells #[.int .i64 (pg).ak,va,.string (pg).hi,.bool (pg).la,.int .u64 (pg).ri] 43)::REST)->oL K REST bp pg lN va v0 v2 key r N (upd ρ 13 (.slice an N cn)) W' := by
 obtain⟨b7,rp,an,cn,e1,e2,e3,hs⟩:=h;rw[h7,dr,dS,cY]at hs;have hs:St K W (blk b7 (.cells #[.string key,.int .u64 r] 69)::blk rp (.cells #[v0,.slice (some ⟨b7,0,none⟩) 1 1,v2] 41)::gN::blk bp (.cells #[.int .i64 (pg).ak,va,.string (pg).hi,.bool (pg).la,.int .u64 (pg).ri] 43)::REST):=hs;refine⟨b7,rp,e2 v12 dr,(hs.re [2,0,1,3] rfl).tail,fun an' cn' W' hs' => ⟨b7,rp,an',cn',fun v h=>e1 v (by simpa[upd] using h),fun v h=>e2 v (by simpa[upd] using h),fun v h=>by simpa[upd] using h.symm,?_⟩⟩
 have:St K W' (dH (some v7) (blk b7 (.cells #[.string key,.int .u64 r] 69))::dH (some v12) (blk rp (.cells #[v0,.slice (some ⟨b7,0,none⟩) 1 1,v2] 41))::dH (some (.slice an' N cn')) (az (.slice an' N cn') 69 2 N (aD lN.sl))::blk bp (.cells #[.int .i64 (pg).ak,va,.string (pg).hi,.bool (pg).la,.int .u64 (pg).ri] 43)::REST):=hs'.re [1,2,0,3] rfl;simpa[upd,h7,dr,cY] using this
theorem oL.Mw (h:oL K REST bp pg lN va v0 v2 key r N ρ W)(dS:ρ 13=some v13)(cY:ρ 15=none):∃(an:Option Addr)(cn:Nat)(R':List aC),v13=.slice an N cn/\St K W (blk bp (.cells #[.int .i64 (pg).ak,va,.string (pg).hi,.bool (pg).la,.int .u64 (pg).ri] 43)::R') /\
  ∀W',St K W' (blk bp (.cells #[.int .i64 (lN).ak,(.slice an N cn),.string (lN).hi,.bool (lN).la,.int .u64 (lN).ri] 43)::R')->oL K REST bp pg lN va v0 v2 key r N (upd ρ 15 undef) W' := by
 obtain⟨b7,rp,an,cn,e1,e2,e3,hs⟩:=h;rw[cY]at hs;refine⟨an,cn,_,e3 v13 dS,hs.b3,fun W' hs' => ⟨b7,rp,an,cn,fun v h=>e1 v (by simpa[upd] using h),fun v h=>e2 v (by simpa[upd] using h),fun v h=>e3 v (by simpa[upd] using h),?_⟩⟩
 have:=hs'.u3;simpa[upd] using this
theorem oL.last (h:oL K REST bp pg lN va v0 v2 key r N ρ W)(hall:∀e,e∈[7,12,13,15]->(ρ e).isSome=true):∃(an:Option Addr)(cn:Nat),ρ 13=some (.slice an N cn)/\(∃v,ρ 7=some v)/\(∃v,ρ 12=some v)/\(∃v,ρ 15=some v) /\
  St K W (az (.slice an N cn) 69 2 N (aD lN.sl)::blk bp (.cells #[.int .i64 (lN).ak,(.slice an N cn),.string (lN).hi,.bool (lN).la,.int .u64 (lN).ri] 43)::REST):=by
 obtain⟨v7,h7⟩:=aq6.1 (hall 7 (by simp))
 obtain⟨v12,dr⟩:=aq6.1 (hall 12 (by simp))
 obtain⟨v13,dS⟩:=aq6.1 (hall 13 (by simp))
 obtain⟨v15,cY⟩:=aq6.1 (hall 15 (by simp))
 obtain⟨b7,rp,an,cn,e1,e2,e3,hs⟩:=h;rw[h7,dr,dS,cY]at hs;exact⟨an,cn,by rw[dS,e3 v13 dS],⟨v7,h7⟩,⟨v12,dr⟩,⟨v15,cY⟩,hs.tail.tail⟩
end
theorem j5 (tmps:Array Value)(w:World)(b:Nat)(v0 v1 v2 v3 v4 u:Value)(hp:tmps[6]?=some (.pointer (some ⟨b,0,none⟩)))(hq:tmps[7]?=some u)(hk:∀k,w.cell? ⟨b,k,none⟩=(#[v0,v1,v2,v3,v4]:Array Value)[k]?) :
  (results Tryz.f95 tmps).run Tryz.prog w=.ok (.tuple #[.agg #[v0,v1,v2,v3,v4],u]) w:=by
 simp[results,Tryz.results95,go_sem,hp,hq,hk]
theorem oL.rq {K:aL}{REST:List aC}{bp:Nat}{pg lN:Pg}{va v0 v2:Value}{key:ByteArray}{r:Int}{N:Nat}{ρ:Nat->Option Value}{W:World}(h:oL K REST bp pg lN va v0 v2 key r N ρ W)(e:Nat)(he:e=1\/e=9)(v:Value):oL K REST bp pg lN va v0 v2 key r N (upd ρ e v) W:=by
 rcases he with rfl|rfl
 ·simpa[oL,upd] using h
 ·simpa[oL,upd] using h
theorem vM {K:aL}{w:World}{F:List aC}{pg:Pg}{g:Nat}{lo n cap:Nat}{key:ByteArray}{r:Int}(h1:lo<=n)(h2:n<=cap)(h3:lo<cap)(hn:n=pg.sl.length)(hlo:lo=gD pg.sl key)(hno:decide (gD pg.sl key<iE pg.sl key)=false)(dJ:kV pg.sl)(ym:n<=100)
  (hs:St K w (az (.slice (some ⟨g,0,none⟩) n cap) 69 2 n (aD pg.sl)::F)) :
  Calls Tryz.prog 95 #[(.agg #[.int .i64 (pg).ak,(.slice (some ⟨g,0,none⟩) n cap),.string (pg).hi,.bool (pg).la,.int .u64 (pg).ri]),.string key,.int .u64 r] w fun e w' => ∃a' c',e=.returned (.tuple #[(.agg #[.int .i64 ((aZ pg key r)).ak,(.slice a' (n+1) c'),.string ((aZ pg key r)).hi,.bool ((aZ pg key r)).la,.int .u64 ((aZ pg key r)).ri]),.bool true])/\St K w' (az (.slice a' (n+1) c') 69 2 (n+1) (aD (aZ pg key r).sl)::az (.slice (some ⟨g,0,none⟩) n cap) 69 2 n (aD pg.sl)::F):=by
 have hs:=(hs.made (.cells #[.int .i64 (pg).ak,(.slice (some ⟨g,0,none⟩) n cap),.string (pg).hi,.bool (pg).la,.int .u64 (pg).ri] 43)).made (.cells #[.int .i64 0,.slice none 0 0,.string ⟨#[]⟩,.bool false,.int .u64 0] 43);rw[World.size_alloc]at hs;have s6:Hid (∀W R,St K W (R++az (.slice (some ⟨g,0,none⟩) n cap) 69 2 n (aD pg.sl)::F)->ej W (some ⟨g,0,none⟩) pg.sl):=aq3 (fun W R h=>(h.right).cO (by omega))
 have q:=nu (cap:=cap) (key:=key) _ (s6.out _ [_,_] hs) dJ;rw[hno,←hn,←hlo]at q;have Q:=aq3 q;have Hn:=aq3 hn;have Zt:=aq3 hlo;clear q hno hn hlo dJ;obtain⟨bp,mS⟩:∃bp,bp=w.heap.size:=⟨_,rfl⟩;go_enter Tryz.func95,Tryz.ntmps95
 go_wp2_with fail
 refine(bH hs Q.out).mono ?_
 clear hs Q;rintro e w2 ⟨rfl,hs⟩;go_upto_region 4 with(fail)
 rw[←mS]at hs ⊢;have Hs:=aq3 (hs.re [1,0] rfl);clear hs mS;refine dG [false,true,false,false,false,false,false,true,false,true,false,false,true,true,false,true] (fun|1=>some (.slice (some ⟨g,0,none⟩) n cap)|9=>some (.slice (some ⟨g,0,none⟩) n cap)|_=>none) [1,7,9,12,13,15] (fun|12=>[7] | 13=>[12] | 15=>[1,9,13] | _=>[])
  (oL K (blk (bp+1) (.cells #[.int .i64 0,.slice none 0 0,.string ⟨#[]⟩,.bool false,.int .u64 0] 43)::az (.slice (some ⟨g,0,none⟩) n cap) 69 2 n (aD pg.sl)::F) bp pg (aZ pg key r) (.slice (some ⟨g,0,none⟩) n cap) (.slice (some ⟨g,0,none⟩) lo cap) (.slice (some ⟨g,lo*2,none⟩) (n-lo) (cap-lo)) key r (n+1))
  (fun _=>True) ?am7 (by kernel_rfl) ?hBlt ?Hlt ?ad1 ?ahK ?ahL ?ahM ?ahN ?ahO
 case hBlt=>as_aux_lemma=>kernel_rfl
 case Hlt=>
  intro W2 _;simp only[cN];repeat (go_big_quiet_step (fail))
  refine wpQuiet_nil ?_
  rfl
 case ad1=>rfl
 case ahK=>exact oL.start Hs.out
 case ahL=>exact fun ρ W2 h=>trivial
 case ahM=>exact fun ρ W2 W3 h hb=>h.same hb
 case ahN=>
  refine⟨?ahP,?ahQ,?ahR,?ad2,?ad3,?ad4,trivial⟩;case ahP=>
   intro o ho ρ W2 h hcl h1' hd2 af aB;obtain rfl:=aq9 ho;replace aB:af=aj _ ρ [] _:=aB;have cY:ρ 15=none:=hcl.none (by simp) (show 1∈[1,9,13]by simp) h1'
   have kp:=(h.page cY).k0;have Hk:=aq3 (h.rq 1 (.inl rfl));simp only[aj]at aB;subst aB;clear h hcl hd2 h1' cY;go_wp2
   exact⟨rfl,_,rfl,fun u hu=>aq9 hu,Hk.out _⟩
  case ahR=>
   intro o ho ρ W2 h hcl h1' hd2 af aB;obtain rfl:=aq9 ho;replace aB:af=aj _ ρ [] _:=aB;have cY:ρ 15=none:=hcl.none (by simp) (show 9∈[1,9,13]by simp) h1'
   have kp:=(h.page cY).k0;have Hk:=aq3 (h.rq 9 (.inr rfl));simp only[aj]at aB;subst aB;clear h hcl hd2 h1' cY;go_wp2
   exact⟨rfl,_,rfl,fun u hu=>aq9 hu,Hk.out _⟩
  case ahQ=>
   intro o ho ρ W2 h hcl h7 hd2 af aB;obtain rfl:=aq9 ho;replace aB:af=aj _ ρ [] _:=aB;have dr:ρ 12=none:=hcl.none (by simp) (show 7∈[7]by simp) h7
   have Hk:=aq3 (h.e7 h7 dr);simp only[aj]at aB;subst aB;clear h hcl hd2 h7 dr;go_wp2
   exact⟨rfl,_,rfl,fun u hu=>(by cases hu),Hk.out⟩
  case ad2=>
   intro o ho ρ W2 h hcl dr hd2 af aB;obtain rfl:=aq9 ho;replace aB:af=aj _ ρ [7] _:=aB;obtain⟨v7,h7⟩:=aq6.1 (hd2 7 (by show _∈[7];simp))
   obtain⟨b7,rfl,hk⟩:=h.xh h7 dr;have Hk:=aq3 hk;simp only[aj,h7,Option.getD_some,aM,Act.put,ara]at aB;subst aB;clear h hk hcl hd2 h7 dr;go_wp2
   exact⟨rfl,_,rfl,fun u hu=>(by cases hu),Hk.out⟩
  case ad3=>
   intro o ho ρ W2 h hcl dS hd2 af aB;obtain rfl:=aq9 ho;replace aB:af=aj _ ρ [12] _:=aB;obtain⟨v12,dr⟩:=aq6.1 (hd2 12 (by show _∈[12];simp))
   obtain⟨v7,h7⟩:=aq6.1 (hcl 12 (by simp) (by rw[dr];rfl) 7 (by show _∈[7];simp))
   have cY:ρ 15=none:=hcl.none (by simp) (show 13∈[1,9,13]by simp) dS
   obtain⟨b7,rp,rfl,hs,hnext⟩:=h.Xo h7 dr dS cY;have Gs:=aq3 hnext;have Bq:Hid (iW (fun i=>if i=0 then pg.sl.take lo else if i=1 then [⟨key,r⟩]else pg.sl.drop lo) 3=(aZ pg key r).sl/\(aZ pg key r).sl.length=n+1):=aq3 ⟨by
    show(([]++pg.sl.take lo)++[⟨key,r⟩])++pg.sl.drop lo=eQ pg.sl key r
    unfold eQ;rw[←Zt.out];simp,by show(eQ pg.sl key r).length=_;rw[fH,Hn.out]⟩
   have qc:=nE (bs:=rp) (A:=fun i=>if i=0 then(some ⟨g,0,none⟩)else if i=1 then some ⟨b7,0,none⟩else(some ⟨g,lo*2,none⟩)) (C:=fun i=>if i=0 then cap else if i=1 then 1 else(cap-lo)) (X:=fun i=>if i=0 then pg.sl.take lo else if i=1 then [⟨key,r⟩]else pg.sl.drop lo) 3 (by omega) (fun i _=>by
     have:=Hn.out;match i with
     | 0=>simp only[if_true,List.length_take];omega
     | 1=>simp
     | i+2=>simp only[show i+2≠0 by omega,show i+2≠1 by omega,if_false,List.length_drop];omega) (fun W R hW i hi=>by
     have hn' := Hn.out;have hsW:=s6.out W (R++[_,_,_,_]) (by simpa using hW)
     have uu:=(hW.right).k1;match i,hi with
     | 0,_=>
      refine⟨hsW.take lo,?_⟩;have:=uu 0;simpa[List.length_take,show min lo pg.sl.length=lo by omega] using this
     | 1,_=>
      refine⟨ej.one (hW.right),?_⟩;have:=uu 1;simpa using this
     | 2,_=>
      refine⟨?_,?_⟩
      ·show ej W (some ⟨g,lo*2,none⟩) (pg.sl.drop lo)
       exact hsW.drop lo
      ·have:=uu 2
       simpa[List.length_drop,←hn'] using this) hs
   rw[Bq.out.1,Bq.out.2]at qc;have Qc:=aq3 qc;simp only[aj,dr,Option.getD_some,aM,Act.put,ara]at aB;subst aB;clear h hs qc hnext hcl hd2 h7 dr dS cY;go_wp2_with fail
   refine(Qc.out).mono ?_
   rintro e W3 ⟨an,cn,rfl,hs'⟩;have eG:=aq3 hs';clear hs';go_wp2
   exact⟨rfl,_,rfl,fun u hu=>(by cases hu),Gs.out an cn W3 eG.out⟩
  case ad4=>
   intro o ho ρ W2 h hcl cY hd2 af aB;obtain rfl:=aq9 ho;replace aB:af=aj _ ρ [1,9,13] _:=aB;obtain⟨v1,h1'⟩:=aq6.1 (hd2 1 (by show _∈[1,9,13];simp))
   obtain⟨v9,h9⟩:=aq6.1 (hd2 9 (by show _∈[1,9,13];simp))
   obtain⟨v13,dS⟩:=aq6.1 (hd2 13 (by show _∈[1,9,13];simp))
   obtain⟨an,cn,R',rfl,hs,hnext⟩:=h.Mw dS cY;simp only[aj,h1',h9,dS,Option.getD_some,aM,Act.put,ara]at aB;subst aB;have k0:=hs.k0;have f0:=hs.f0;have Gs:=aq3 hnext;have fZ:Hid (St K _ (blk bp (.cells #[.int .i64 ((aZ pg key r)).ak,(.slice an (n+1) cn),.string ((aZ pg key r)).hi,.bool ((aZ pg key r)).la,.int .u64 ((aZ pg key r)).ri] 43)::R')):=aq3 (hs.aI 1 (.slice an (n+1) cn));clear h hs hnext hcl hd2 h1' h9 dS cY;go_wp2
   exact⟨rfl,undef,rfl,fun u hu=>(by cases hu),Gs.out _ fZ.out⟩
 case ahO=>
  intro ρ W2 h hall;obtain⟨v1,h1'⟩:=aq6.1 (hall 1 (by simp))
  obtain⟨v9,h9⟩:=aq6.1 (hall 9 (by simp))
  obtain⟨an,cn,dS,⟨v7,h7⟩,⟨v12,dr⟩,⟨v15,cY⟩,hs⟩:=h.last (fun e he=>hall e (by simp at he ⊢;omega))
  simp only[aj,h1',h7,h9,dr,dS,cY,Option.getD_some,aM,Act.put,ara];clear h hall h1' h7 h9 dr dS cY;have kp:=hs.k1;have kz:=hs.k2;have fz:=hs.f2;have hs:St K _ (blk (bp+1) (.cells #[.int .i64 ((aZ pg key r)).ak,(.slice an (n+1) cn),.string ((aZ pg key r)).hi,.bool ((aZ pg key r)).la,.int .u64 ((aZ pg key r)).ri] 43)::_):=((((hs.b2.aI 0 (.int .i64 (aZ pg key r).ak)).aI 1 (.slice an (n+1) cn)).aI 2 (.string (aZ pg key r).hi)).aI 3 (.bool (aZ pg key r).la)).aI 4 (.int .u64 (aZ pg key r).ri);go_wp2
  refine bodyPost_ret (j5 _ _ (bp+1) _ _ _ _ _ _ rfl rfl hs.k0) rfl ?_
  exact⟨an,cn,rfl,(hs.re [1,2,0] rfl).bY.bY⟩
theorem vN {K:aL}{w:World}{F:List aC}{pg:Pg}{g:Nat}{n:Nat}{key:ByteArray}{r:Int}(h1:n<=n)(h2:n<=n)(h4:0<n)(hn:n=pg.sl.length)(hlo:n=gD pg.sl key)(hno:decide (gD pg.sl key<iE pg.sl key)=false)(dJ:kV pg.sl)(ym:n<=100)
  (hs:St K w (az (.slice (some ⟨g,0,none⟩) n n) 69 2 n (aD pg.sl)::F)) :
  Calls Tryz.prog 95 #[(.agg #[.int .i64 (pg).ak,(.slice (some ⟨g,0,none⟩) n n),.string (pg).hi,.bool (pg).la,.int .u64 (pg).ri]),.string key,.int .u64 r] w fun e w' => ∃a' c',e=.returned (.tuple #[(.agg #[.int .i64 ((aZ pg key r)).ak,(.slice a' (n+1) c'),.string ((aZ pg key r)).hi,.bool ((aZ pg key r)).la,.int .u64 ((aZ pg key r)).ri]),.bool true])/\St K w' (az (.slice a' (n+1) c') 69 2 (n+1) (aD (aZ pg key r).sl)::az (.slice (some ⟨g,0,none⟩) n n) 69 2 n (aD pg.sl)::F):=by
 have hs:=(hs.made (.cells #[.int .i64 (pg).ak,(.slice (some ⟨g,0,none⟩) n n),.string (pg).hi,.bool (pg).la,.int .u64 (pg).ri] 43)).made (.cells #[.int .i64 0,.slice none 0 0,.string ⟨#[]⟩,.bool false,.int .u64 0] 43);rw[World.size_alloc]at hs;have s6:Hid (∀W R,St K W (R++az (.slice (some ⟨g,0,none⟩) n n) 69 2 n (aD pg.sl)::F)->ej W (some ⟨g,0,none⟩) pg.sl):=aq3 (fun W R h=>(h.right).cO (by omega))
 have q:=nu (cap:=n) (key:=key) _ (s6.out _ [_,_] hs) dJ;rw[hno,←hn,←hlo]at q;have Q:=aq3 q;have Hn:=aq3 hn;have Zt:=aq3 hlo;clear q hno hn hlo dJ;obtain⟨bp,mS⟩:∃bp,bp=w.heap.size:=⟨_,rfl⟩;go_enter Tryz.func95,Tryz.ntmps95
 go_wp2_with fail
 refine(bH hs Q.out).mono ?_
 clear hs Q;rintro e w2 ⟨rfl,hs⟩;go_upto_region 4 with(fail)
 rw[←mS]at hs ⊢;have Hs:=aq3 (hs.re [1,0] rfl);clear hs mS;refine dG [false,true,false,false,false,false,false,true,false,true,false,false,true,true,false,true] (fun|1=>some (.slice (some ⟨g,0,none⟩) n n)|9=>some (.slice (some ⟨g,0,none⟩) n n)|_=>none) [1,7,9,12,13,15] (fun|12=>[7] | 13=>[12] | 15=>[1,9,13] | _=>[])
  (oL K (blk (bp+1) (.cells #[.int .i64 0,.slice none 0 0,.string ⟨#[]⟩,.bool false,.int .u64 0] 43)::az (.slice (some ⟨g,0,none⟩) n n) 69 2 n (aD pg.sl)::F) bp pg (aZ pg key r) (.slice (some ⟨g,0,none⟩) n n) (.slice (some ⟨g,0,none⟩) n n) (.slice (some ⟨g,0,none⟩) 0 0) key r (n+1))
  (fun _=>True) ?am8 (by kernel_rfl) ?ahS ?Heq ?ad5 ?ahT ?ahU ?ahV ?ahW ?ahX
 case ahS=>as_aux_lemma=>kernel_rfl
 case Heq=>
  intro W2 _;simp only[cN];repeat (go_big_quiet_step (fail))
  refine wpQuiet_nil ?_
  rfl
 case ad5=>rfl
 case ahT=>exact oL.start Hs.out
 case ahU=>exact fun ρ W2 h=>trivial
 case ahV=>exact fun ρ W2 W3 h hb=>h.same hb
 case ahW=>
  refine⟨?ahY,?ahZ,?ah0,?ad6,?ad7,?ad8,trivial⟩;case ahY=>
   intro o ho ρ W2 h hcl h1' hd2 af aB;obtain rfl:=aq9 ho;replace aB:af=aj _ ρ [] _:=aB;have cY:ρ 15=none:=hcl.none (by simp) (show 1∈[1,9,13]by simp) h1'
   have kp:=(h.page cY).k0;have Hk:=aq3 (h.rq 1 (.inl rfl));simp only[aj]at aB;subst aB;clear h hcl hd2 h1' cY;go_wp2
   exact⟨rfl,_,rfl,fun u hu=>aq9 hu,Hk.out _⟩
  case ah0=>
   intro o ho ρ W2 h hcl h1' hd2 af aB;obtain rfl:=aq9 ho;replace aB:af=aj _ ρ [] _:=aB;have cY:ρ 15=none:=hcl.none (by simp) (show 9∈[1,9,13]by simp) h1'
   have kp:=(h.page cY).k0;have Hk:=aq3 (h.rq 9 (.inr rfl));simp only[aj]at aB;subst aB;clear h hcl hd2 h1' cY;go_wp2
   exact⟨rfl,_,rfl,fun u hu=>aq9 hu,Hk.out _⟩
  case ahZ=>
   intro o ho ρ W2 h hcl h7 hd2 af aB;obtain rfl:=aq9 ho;replace aB:af=aj _ ρ [] _:=aB;have dr:ρ 12=none:=hcl.none (by simp) (show 7∈[7]by simp) h7
   have Hk:=aq3 (h.e7 h7 dr);simp only[aj]at aB;subst aB;clear h hcl hd2 h7 dr;go_wp2
   exact⟨rfl,_,rfl,fun u hu=>(by cases hu),Hk.out⟩
  case ad6=>
   intro o ho ρ W2 h hcl dr hd2 af aB;obtain rfl:=aq9 ho;replace aB:af=aj _ ρ [7] _:=aB;obtain⟨v7,h7⟩:=aq6.1 (hd2 7 (by show _∈[7];simp))
   obtain⟨b7,rfl,hk⟩:=h.xh h7 dr;have Hk:=aq3 hk;simp only[aj,h7,Option.getD_some,aM,Act.put,ara]at aB;subst aB;clear h hk hcl hd2 h7 dr;go_wp2
   exact⟨rfl,_,rfl,fun u hu=>(by cases hu),Hk.out⟩
  case ad7=>
   intro o ho ρ W2 h hcl dS hd2 af aB;obtain rfl:=aq9 ho;replace aB:af=aj _ ρ [12] _:=aB;obtain⟨v12,dr⟩:=aq6.1 (hd2 12 (by show _∈[12];simp))
   obtain⟨v7,h7⟩:=aq6.1 (hcl 12 (by simp) (by rw[dr];rfl) 7 (by show _∈[7];simp))
   have cY:ρ 15=none:=hcl.none (by simp) (show 13∈[1,9,13]by simp) dS
   obtain⟨b7,rp,rfl,hs,hnext⟩:=h.Xo h7 dr dS cY;have Gs:=aq3 hnext;have Bq:Hid (iW (fun i=>if i=0 then pg.sl.take n else if i=1 then [⟨key,r⟩]else pg.sl.drop n) 3=(aZ pg key r).sl/\(aZ pg key r).sl.length=n+1):=aq3 ⟨by
    show(([]++pg.sl.take n)++[⟨key,r⟩])++pg.sl.drop n=eQ pg.sl key r
    unfold eQ;rw[←Zt.out];simp,by show(eQ pg.sl key r).length=_;rw[fH,Hn.out]⟩
   have qc:=nE (bs:=rp) (A:=fun i=>if i=0 then(some ⟨g,0,none⟩)else if i=1 then some ⟨b7,0,none⟩else(some ⟨g,0,none⟩)) (C:=fun i=>if i=0 then n else if i=1 then 1 else 0) (X:=fun i=>if i=0 then pg.sl.take n else if i=1 then [⟨key,r⟩]else pg.sl.drop n) 3 (by omega) (fun i _=>by
     have:=Hn.out;match i with
     | 0=>simp only[if_true,List.length_take];omega
     | 1=>simp
     | i+2=>simp only[show i+2≠0 by omega,show i+2≠1 by omega,if_false,List.length_drop];omega) (fun W R hW i hi=>by
     have hn' := Hn.out;have hsW:=s6.out W (R++[_,_,_,_]) (by simpa using hW)
     have uu:=(hW.right).k1;match i,hi with
     | 0,_=>
      refine⟨hsW.take n,?_⟩;have:=uu 0;simpa[List.length_take,show min n pg.sl.length=n by omega] using this
     | 1,_=>
      refine⟨ej.one (hW.right),?_⟩;have:=uu 1;simpa using this
     | 2,_=>
      refine⟨?_,?_⟩
      ·show ej W (some ⟨g,0,none⟩) (pg.sl.drop n)
       rw[List.drop_eq_nil_of_le (by omega)];exact ej.nil
      ·have:=uu 2
       simpa[List.length_drop,←hn'] using this) hs
   rw[Bq.out.1,Bq.out.2]at qc;have Qc:=aq3 qc;simp only[aj,dr,Option.getD_some,aM,Act.put,ara]at aB;subst aB;clear h hs qc hnext hcl hd2 h7 dr dS cY;go_wp2_with fail
   refine(Qc.out).mono ?_
   rintro e W3 ⟨an,cn,rfl,hs'⟩;have eG:=aq3 hs';clear hs';go_wp2
   exact⟨rfl,_,rfl,fun u hu=>(by cases hu),Gs.out an cn W3 eG.out⟩
  case ad8=>
   intro o ho ρ W2 h hcl cY hd2 af aB;obtain rfl:=aq9 ho;replace aB:af=aj _ ρ [1,9,13] _:=aB;obtain⟨v1,h1'⟩:=aq6.1 (hd2 1 (by show _∈[1,9,13];simp))
   obtain⟨v9,h9⟩:=aq6.1 (hd2 9 (by show _∈[1,9,13];simp))
   obtain⟨v13,dS⟩:=aq6.1 (hd2 13 (by show _∈[1,9,13];simp))
   obtain⟨an,cn,R',rfl,hs,hnext⟩:=h.Mw dS cY;simp only[aj,h1',h9,dS,Option.getD_some,aM,Act.put,ara]at aB;subst aB;have k0:=hs.k0;have f0:=hs.f0;have Gs:=aq3 hnext;have fZ:Hid (St K _ (blk bp (.cells #[.int .i64 ((aZ pg key r)).ak,(.slice an (n+1) cn),.string ((aZ pg key r)).hi,.bool ((aZ pg key r)).la,.int .u64 ((aZ pg key r)).ri] 43)::R')):=aq3 (hs.aI 1 (.slice an (n+1) cn));clear h hs hnext hcl hd2 h1' h9 dS cY;go_wp2
   exact⟨rfl,undef,rfl,fun u hu=>(by cases hu),Gs.out _ fZ.out⟩
 case ahX=>
  intro ρ W2 h hall;obtain⟨v1,h1'⟩:=aq6.1 (hall 1 (by simp))
  obtain⟨v9,h9⟩:=aq6.1 (hall 9 (by simp))
  obtain⟨an,cn,dS,⟨v7,h7⟩,⟨v12,dr⟩,⟨v15,cY⟩,hs⟩:=h.last (fun e he=>hall e (by simp at he ⊢;omega))
  simp only[aj,h1',h7,h9,dr,dS,cY,Option.getD_some,aM,Act.put,ara];clear h hall h1' h7 h9 dr dS cY;have kp:=hs.k1;have kz:=hs.k2;have fz:=hs.f2;have hs:St K _ (blk (bp+1) (.cells #[.int .i64 ((aZ pg key r)).ak,(.slice an (n+1) cn),.string ((aZ pg key r)).hi,.bool ((aZ pg key r)).la,.int .u64 ((aZ pg key r)).ri] 43)::_):=((((hs.b2.aI 0 (.int .i64 (aZ pg key r).ak)).aI 1 (.slice an (n+1) cn)).aI 2 (.string (aZ pg key r).hi)).aI 3 (.bool (aZ pg key r).la)).aI 4 (.int .u64 (aZ pg key r).ri);go_wp2
  refine bodyPost_ret (j5 _ _ (bp+1) _ _ _ _ _ _ rfl rfl hs.k0) rfl ?_
  exact⟨an,cn,rfl,(hs.re [1,2,0] rfl).bY.bY⟩
theorem oM {K:aL}{w:World}{F:List aC}{pg:Pg}{a:Option Addr}{key:ByteArray}{r:Int}(h1:0<=0)(h2:0<=0)  (hn:0=pg.sl.length)(hlo:0=gD pg.sl key)(hno:decide (gD pg.sl key<iE pg.sl key)=false)(dJ:kV pg.sl)(ym:0<=100)
  (hs:St K w (az (.slice a 0 0) 69 2 0 (aD pg.sl)::F)) :
  Calls Tryz.prog 95 #[(.agg #[.int .i64 (pg).ak,(.slice a 0 0),.string (pg).hi,.bool (pg).la,.int .u64 (pg).ri]),.string key,.int .u64 r] w fun e w' => ∃a' c',e=.returned (.tuple #[(.agg #[.int .i64 ((aZ pg key r)).ak,(.slice a' (0+1) c'),.string ((aZ pg key r)).hi,.bool ((aZ pg key r)).la,.int .u64 ((aZ pg key r)).ri]),.bool true])/\St K w' (az (.slice a' (0+1) c') 69 2 (0+1) (aD (aZ pg key r).sl)::az (.slice a 0 0) 69 2 0 (aD pg.sl)::F):=by
 have hs:=(hs.made (.cells #[.int .i64 (pg).ak,(.slice a 0 0),.string (pg).hi,.bool (pg).la,.int .u64 (pg).ri] 43)).made (.cells #[.int .i64 0,.slice none 0 0,.string ⟨#[]⟩,.bool false,.int .u64 0] 43);rw[World.size_alloc]at hs;have s6:Hid (∀W R,St K W (R++az (.slice a 0 0) 69 2 0 (aD pg.sl)::F)->ej W a pg.sl):=aq3 (fun W R h=>(h.right).cO (by omega))
 have q:=nu (cap:=0) (key:=key) _ (s6.out _ [_,_] hs) dJ;rw[hno,←hn,←hlo]at q;have Q:=aq3 q;have Hn:=aq3 hn;have Zt:=aq3 hlo;clear q hno hn hlo dJ;obtain⟨bp,mS⟩:∃bp,bp=w.heap.size:=⟨_,rfl⟩;go_enter Tryz.func95,Tryz.ntmps95
 go_wp2_with fail
 refine(bH hs Q.out).mono ?_
 clear hs Q;rintro e w2 ⟨rfl,hs⟩;go_upto_region 4 with(fail)
 rw[←mS]at hs ⊢;have Hs:=aq3 (hs.re [1,0] rfl);clear hs mS;refine dG [false,true,false,false,false,false,false,true,false,true,false,false,true,true,false,true] (fun|1=>some (.slice a 0 0)|9=>some (.slice a 0 0)|_=>none) [1,7,9,12,13,15] (fun|12=>[7] | 13=>[12] | 15=>[1,9,13] | _=>[])
  (oL K (blk (bp+1) (.cells #[.int .i64 0,.slice none 0 0,.string ⟨#[]⟩,.bool false,.int .u64 0] 43)::az (.slice a 0 0) 69 2 0 (aD pg.sl)::F) bp pg (aZ pg key r) (.slice a 0 0) (.slice a 0 0) (.slice a 0 0) key r (0+1))
  (fun _=>True) ?ana (by kernel_rfl) ?ah1 ?Hze ?ad9 ?ah2 ?ah3 ?ah4 ?ah5 ?ah6
 case ah1=>as_aux_lemma=>kernel_rfl
 case Hze=>
  intro W2 _;simp only[cN];repeat (go_big_quiet_step (fail))
  refine wpQuiet_nil ?_
  rfl
 case ad9=>rfl
 case ah2=>exact oL.start Hs.out
 case ah3=>exact fun ρ W2 h=>trivial
 case ah4=>exact fun ρ W2 W3 h hb=>h.same hb
 case ah5=>
  refine⟨?ah7,?ah8,?ah9,?aea,?aeb,?aec,trivial⟩;case ah7=>
   intro o ho ρ W2 h hcl h1' hd2 af aB;obtain rfl:=aq9 ho;replace aB:af=aj _ ρ [] _:=aB;have cY:ρ 15=none:=hcl.none (by simp) (show 1∈[1,9,13]by simp) h1'
   have kp:=(h.page cY).k0;have Hk:=aq3 (h.rq 1 (.inl rfl));simp only[aj]at aB;subst aB;clear h hcl hd2 h1' cY;go_wp2
   exact⟨rfl,_,rfl,fun u hu=>aq9 hu,Hk.out _⟩
  case ah9=>
   intro o ho ρ W2 h hcl h1' hd2 af aB;obtain rfl:=aq9 ho;replace aB:af=aj _ ρ [] _:=aB;have cY:ρ 15=none:=hcl.none (by simp) (show 9∈[1,9,13]by simp) h1'
   have kp:=(h.page cY).k0;have Hk:=aq3 (h.rq 9 (.inr rfl));simp only[aj]at aB;subst aB;clear h hcl hd2 h1' cY;go_wp2
   exact⟨rfl,_,rfl,fun u hu=>aq9 hu,Hk.out _⟩
  case ah8=>
   intro o ho ρ W2 h hcl h7 hd2 af aB;obtain rfl:=aq9 ho;replace aB:af=aj _ ρ [] _:=aB;have dr:ρ 12=none:=hcl.none (by simp) (show 7∈[7]by simp) h7
   have Hk:=aq3 (h.e7 h7 dr);simp only[aj]at aB;subst aB;clear h hcl hd2 h7 dr;go_wp2
   exact⟨rfl,_,rfl,fun u hu=>(by cases hu),Hk.out⟩
  case aea=>
   intro o ho ρ W2 h hcl dr hd2 af aB;obtain rfl:=aq9 ho;replace aB:af=aj _ ρ [7] _:=aB;obtain⟨v7,h7⟩:=aq6.1 (hd2 7 (by show _∈[7];simp))
   obtain⟨b7,rfl,hk⟩:=h.xh h7 dr;have Hk:=aq3 hk;simp only[aj,h7,Option.getD_some,aM,Act.put,ara]at aB;subst aB;clear h hk hcl hd2 h7 dr;go_wp2
   exact⟨rfl,_,rfl,fun u hu=>(by cases hu),Hk.out⟩
  case aeb=>
   intro o ho ρ W2 h hcl dS hd2 af aB;obtain rfl:=aq9 ho;replace aB:af=aj _ ρ [12] _:=aB;obtain⟨v12,dr⟩:=aq6.1 (hd2 12 (by show _∈[12];simp))
   obtain⟨v7,h7⟩:=aq6.1 (hcl 12 (by simp) (by rw[dr];rfl) 7 (by show _∈[7];simp))
   have cY:ρ 15=none:=hcl.none (by simp) (show 13∈[1,9,13]by simp) dS
   obtain⟨b7,rp,rfl,hs,hnext⟩:=h.Xo h7 dr dS cY;have Gs:=aq3 hnext;have Bq:Hid (iW (fun i=>if i=0 then pg.sl.take 0 else if i=1 then [⟨key,r⟩]else pg.sl.drop 0) 3=(aZ pg key r).sl/\(aZ pg key r).sl.length=0+1):=aq3 ⟨by
    show(([]++pg.sl.take 0)++[⟨key,r⟩])++pg.sl.drop 0=eQ pg.sl key r
    unfold eQ;rw[←Zt.out];simp,by show(eQ pg.sl key r).length=_;rw[fH,Hn.out]⟩
   have qc:=nE (bs:=rp) (A:=fun i=>if i=0 then a else if i=1 then some ⟨b7,0,none⟩else a) (C:=fun i=>if i=0 then 0 else if i=1 then 1 else 0) (X:=fun i=>if i=0 then pg.sl.take 0 else if i=1 then [⟨key,r⟩]else pg.sl.drop 0) 3 (by omega) (fun i _=>by
     have:=Hn.out;match i with
     | 0=>simp only[if_true,List.length_take];omega
     | 1=>simp
     | i+2=>simp only[show i+2≠0 by omega,show i+2≠1 by omega,if_false,List.length_drop];omega) (fun W R hW i hi=>by
     have hn' := Hn.out;have hsW:=s6.out W (R++[_,_,_,_]) (by simpa using hW)
     have uu:=(hW.right).k1;match i,hi with
     | 0,_=>
      refine⟨hsW.take 0,?_⟩;have:=uu 0;simpa[List.length_take,show min 0 pg.sl.length=0 by omega] using this
     | 1,_=>
      refine⟨ej.one (hW.right),?_⟩;have:=uu 1;simpa using this
     | 2,_=>
      refine⟨?_,?_⟩
      ·show ej W a (pg.sl.drop 0)
       rw[List.drop_eq_nil_of_le (by omega)];exact ej.nil
      ·have:=uu 2
       simpa[List.length_drop,←hn'] using this) hs
   rw[Bq.out.1,Bq.out.2]at qc;have Qc:=aq3 qc;simp only[aj,dr,Option.getD_some,aM,Act.put,ara]at aB;subst aB;clear h hs qc hnext hcl hd2 h7 dr dS cY;go_wp2_with fail
   refine(Qc.out).mono ?_
   rintro e W3 ⟨an,cn,rfl,hs'⟩;have eG:=aq3 hs';clear hs';go_wp2
   exact⟨rfl,_,rfl,fun u hu=>(by cases hu),Gs.out an cn W3 eG.out⟩
  case aec=>
   intro o ho ρ W2 h hcl cY hd2 af aB;obtain rfl:=aq9 ho;replace aB:af=aj _ ρ [1,9,13] _:=aB;obtain⟨v1,h1'⟩:=aq6.1 (hd2 1 (by show _∈[1,9,13];simp))
   obtain⟨v9,h9⟩:=aq6.1 (hd2 9 (by show _∈[1,9,13];simp))
   obtain⟨v13,dS⟩:=aq6.1 (hd2 13 (by show _∈[1,9,13];simp))
   obtain⟨an,cn,R',rfl,hs,hnext⟩:=h.Mw dS cY;simp only[aj,h1',h9,dS,Option.getD_some,aM,Act.put,ara]at aB;subst aB;have k0:=hs.k0;have f0:=hs.f0;have Gs:=aq3 hnext;have fZ:Hid (St K _ (blk bp (.cells #[.int .i64 ((aZ pg key r)).ak,(.slice an (0+1) cn),.string ((aZ pg key r)).hi,.bool ((aZ pg key r)).la,.int .u64 ((aZ pg key r)).ri] 43)::R')):=aq3 (hs.aI 1 (.slice an (0+1) cn));clear h hs hnext hcl hd2 h1' h9 dS cY;go_wp2
   exact⟨rfl,undef,rfl,fun u hu=>(by cases hu),Gs.out _ fZ.out⟩
 case ah6=>
  intro ρ W2 h hall;obtain⟨v1,h1'⟩:=aq6.1 (hall 1 (by simp))
  obtain⟨v9,h9⟩:=aq6.1 (hall 9 (by simp))
  obtain⟨an,cn,dS,⟨v7,h7⟩,⟨v12,dr⟩,⟨v15,cY⟩,hs⟩:=h.last (fun e he=>hall e (by simp at he ⊢;omega))
  simp only[aj,h1',h7,h9,dr,dS,cY,Option.getD_some,aM,Act.put,ara];clear h hall h1' h7 h9 dr dS cY;have kp:=hs.k1;have kz:=hs.k2;have fz:=hs.f2;have hs:St K _ (blk (bp+1) (.cells #[.int .i64 ((aZ pg key r)).ak,(.slice an (0+1) cn),.string ((aZ pg key r)).hi,.bool ((aZ pg key r)).la,.int .u64 ((aZ pg key r)).ri] 43)::_):=((((hs.b2.aI 0 (.int .i64 (aZ pg key r).ak)).aI 1 (.slice an (0+1) cn)).aI 2 (.string (aZ pg key r).hi)).aI 3 (.bool (aZ pg key r).la)).aI 4 (.int .u64 (aZ pg key r).ri);go_wp2
  refine bodyPost_ret (j5 _ _ (bp+1) _ _ _ _ _ _ rfl rfl hs.k0) rfl ?_
  exact⟨an,cn,rfl,(hs.re [1,2,0] rfl).bY.bY⟩
theorem vO {K:aL}{w:World}{F:List aC}{pg:Pg}{a:Option Addr}{cap:Nat}{key:ByteArray}{r:Int}(hno:decide (gD pg.sl key<iE pg.sl key)=false)(dJ:kV pg.sl)(ym:pg.sl.length<=100)
  (hs:St K w (bu (.slice a pg.sl.length cap) pg::F)) :
  Calls Tryz.prog 95 #[(.agg #[.int .i64 (pg).ak,(.slice a pg.sl.length cap),.string (pg).hi,.bool (pg).la,.int .u64 (pg).ri]),.string key,.int .u64 r] w fun e w' => ∃a' c',e=.returned (.tuple #[(.agg #[.int .i64 ((aZ pg key r)).ak,(.slice a' (aZ pg key r).sl.length c'),.string ((aZ pg key r)).hi,.bool ((aZ pg key r)).la,.int .u64 ((aZ pg key r)).ri]),.bool true])/\St K w' (bu (.slice a' (aZ pg key r).sl.length c') (aZ pg key r)::bu (.slice a pg.sl.length cap) pg::F):=by
 have hl:=ue pg.sl key;have e:(aZ pg key r).sl.length=pg.sl.length+1:=fH _ _ _;unfold bu;replace hs:St K w (az (.slice a pg.sl.length cap) 69 2 pg.sl.length (aD pg.sl)::F):=hs;rw[e];rcases(show St K w (az (.slice a pg.sl.length cap) 69 2 pg.sl.length (aD pg.sl)::F)from hs).xg with⟨rfl,h0,rfl⟩|⟨g,rfl,hc⟩
 ·rw[h0]at hs ⊢
  exact oM (Nat.le_refl _) (Nat.le_refl _) h0.symm (by omega) hno dJ (by omega) hs
 ·rcases(show gD pg.sl key<cap\/(gD pg.sl key=cap/\0<cap)\/cap=0 by omega)with h|⟨h,h'⟩|h
  ·exact vM hl hc h rfl rfl hno dJ ym hs
  ·have hcn:cap=pg.sl.length:=by omega
   subst hcn;exact vN (Nat.le_refl _) (Nat.le_refl _) h' rfl h.symm hno dJ ym hs
  ·have h0:pg.sl.length=0:=by omega
   subst h;rw[h0]at hs ⊢;exact oM (Nat.le_refl _) (Nat.le_refl _) h0.symm (by omega) hno dJ (by omega) hs
theorem Xp (a:ByteArray)(b:ByteArray):cA a (b.extract 0 0)=false:=by
 have:b.extract 0 0=⟨#[]⟩:=by
  apply ByteArray.ext
  rw[ByteArray.data_extract];simp
 rw[this];exact jd a
theorem Xq (a b:ByteArray)(hb:b.size<=1000000)(w:World):Calls Tryz.prog 163 #[.string a,.string b] w fun e w' => e=.returned (.string (lY a b))/\w=w' := by
 obtain⟨r,hr⟩:∃r,r=lY a b:=⟨_,rfl⟩;rw[←hr];have Hr:Hid (r=eO a b b.size 1):=aq3 (by
  rw[hr];unfold lY;show(if cA a (b.extract 0 0)then _ else eO a b b.size (0+1))=_
  rw[Xp];rfl)
 clear hr;go_enter Tryz.func163,Tryz.ntmps163
 go_wp2
 go_loopw [5] (fun v5 wr=>∃n:Nat,v5=.int .i64 n/\1<=n/\n<=b.size+1/\Hid (r=eO a b (b.size+1-n) n)/\wr=w) (fun v5 _=>b.size+1-(intOf v5).toNat)
 case atStart=>exact⟨1,rfl,by omega,by omega,aq3 Hr.out,rfl⟩
 case round=>
  obtain⟨n,rfl,hn1,hn,HR,rfl⟩:=hrel;by_cases hlt:n<=b.size
  ·have e:r=if cA a (b.extract 0 n)then b.extract 0 n else eO a b (b.size+1-(n+1)) (n+1):=by
    rw[HR.out,show b.size+1-n=(b.size+1-(n+1))+1 by omega];rfl
   have hE:=aq3 e;clear e;cases hx:cA a (b.extract 0 n)with
   | true=>
    rw[hx]at hE;have h1:=jc hx;have h3:=jJ (Fy hx).symm;go_wp2
    go_ret;exact⟨by rw[hE.out];rfl,rfl⟩
   | false=>
    rw[hx]at hE;have vK:=aq3 (show r=eO a b (b.size+1-(n+1)) (n+1)from hE.out)
    cases hy:cA (b.extract 0 n) a with
    | true=>
     go_wp2
     go_roundw
     case rel=>exact⟨n+1,by go_num,by omega,by omega,vK,trivial⟩
     case measure=>simp[intOf];omega
    | false=>
     have hz:=gB hy hx;have h3:((b.extract 0 n).toList == a.toList)=true:=by rw[hz];exact beq_self_eq_true _
     clear hz;go_wp2
     go_roundw
     case rel=>exact⟨n+1,by go_num,by omega,by omega,vK,trivial⟩
     case measure=>simp[intOf];omega
  ·obtain rfl:n=b.size+1:=by omega
   rw[Nat.sub_self]at HR;go_wp2
   go_ret;exact⟨by rw[HR.out];rfl,rfl⟩
def gh (n:Nat):Nat:=n-n / 2
def bN (pg:Pg):ByteArray:=match pg.sl[gh pg.sl.length-1]?,pg.sl[gh pg.sl.length]? with
 | some x,some y=>if pg.ak=0 then lY x.k y.k else y.k
 | _,_=>⟨#[]⟩
def fA (pg:Pg)(right:Int):Pg:=⟨pg.ak,pg.sl.take (gh pg.sl.length),bN pg,false,right⟩
def dI (pg:Pg):Pg:=⟨pg.ak,pg.sl.drop (gh pg.sl.length),pg.hi,pg.la,pg.ri⟩
def uw (K:aL)(REST:List aC)(pa:Array Value)(ρ:Nat->Option Value)(W:World):Prop:=
 ∃(b2 b3:Nat),(∀v,ρ 2=some v->v=(.pointer (some ⟨b2,0,none⟩)))/\(∀v,ρ 3=some v->v=(.pointer (some ⟨b3,0,none⟩))) /\
  St K W (dH (ρ 2) (blk b2 (.cells (if (ρ 4).isSome then pa else #[.int .i64 0,.slice none 0 0,.string ⟨#[]⟩,.bool false,.int .u64 0]) 43))::dH (ρ 3) (blk b3 (.cells (if (ρ 5).isSome then pa else #[.int .i64 0,.slice none 0 0,.string ⟨#[]⟩,.bool false,.int .u64 0]) 43))::REST)
section
variable {K:aL}{REST:List aC}{pa:Array Value}{ρ:Nat->Option Value}{W:World}{v2 v3:Value}
theorem uw.start (hs:St K W REST):uw K REST pa (fun _=>none) W:=
 ⟨0,0,fun v h=>(by cases h),fun v h=>(by cases h),hs.empty.empty⟩
theorem uw.same {W':World}(h:uw K REST pa ρ W)(hb:Below W.heap.size W W'):uw K REST pa ρ W' := by
 obtain⟨b2,b3,e1,e2,hs⟩:=h;exact⟨b2,b3,e1,e2,hs.same hb⟩
theorem uw.rest (h:uw K REST pa ρ W):St K W REST:=by
 obtain⟨b2,b3,e1,e2,hs⟩:=h;exact hs.tail.tail
theorem uw.e2 (h:uw K REST pa ρ W)(h2:ρ 2=none)(h4:ρ 4=none):uw K REST pa (upd ρ 2 (.pointer (some ⟨W.heap.size,0,none⟩))) (W.alloc (.cells #[.int .i64 0,.slice none 0 0,.string ⟨#[]⟩,.bool false,.int .u64 0] 43)):=by
 obtain⟨b2,b3,e1,e2,hs⟩:=h;rw[h2]at hs;refine⟨W.heap.size,b3,fun v h=>by simpa[upd] using h.symm,fun v h=>e2 v (by simpa[upd] using h),?_⟩
 have:St K (W.alloc (.cells #[.int .i64 0,.slice none 0 0,.string ⟨#[]⟩,.bool false,.int .u64 0] 43)) (dH (some (.pointer (some ⟨W.heap.size,0,none⟩))) (blk W.heap.size (.cells #[.int .i64 0,.slice none 0 0,.string ⟨#[]⟩,.bool false,.int .u64 0] 43))::_):=hs.tail.made (.cells #[.int .i64 0,.slice none 0 0,.string ⟨#[]⟩,.bool false,.int .u64 0] 43);simpa[upd,h4] using this
theorem uw.e3 (h:uw K REST pa ρ W)(h3:ρ 3=none)(h5:ρ 5=none):uw K REST pa (upd ρ 3 (.pointer (some ⟨W.heap.size,0,none⟩))) (W.alloc (.cells #[.int .i64 0,.slice none 0 0,.string ⟨#[]⟩,.bool false,.int .u64 0] 43)):=by
 obtain⟨b2,b3,e1,e2,hs⟩:=h;rw[h3]at hs;refine⟨b2,W.heap.size,fun v h=>e1 v (by simpa[upd] using h),fun v h=>by simpa[upd] using h.symm,?_⟩
 have h2:St K W (gN::dH (ρ 2) (blk b2 (.cells (if (ρ 4).isSome then pa else #[.int .i64 0,.slice none 0 0,.string ⟨#[]⟩,.bool false,.int .u64 0]) 43))::REST):=hs.b1
 have:St K (W.alloc (.cells #[.int .i64 0,.slice none 0 0,.string ⟨#[]⟩,.bool false,.int .u64 0] 43)) (dH (ρ 2) (blk b2 (.cells (if (ρ 4).isSome then pa else #[.int .i64 0,.slice none 0 0,.string ⟨#[]⟩,.bool false,.int .u64 0]) 43))::dH (some (.pointer (some ⟨W.heap.size,0,none⟩))) (blk W.heap.size (.cells #[.int .i64 0,.slice none 0 0,.string ⟨#[]⟩,.bool false,.int .u64 0] 43))::REST):=(h2.tail.made (.cells #[.int .i64 0,.slice none 0 0,.string ⟨#[]⟩,.bool false,.int .u64 0] 43)).b1
 simpa[upd,h5] using this
theorem uw.e4 (h:uw K REST pa ρ W)(h2:ρ 2=some v2)(h4:ρ 4=none):∃(b:Nat)(R':List aC),v2=(.pointer (some ⟨b,0,none⟩))/\St K W (blk b (.cells #[.int .i64 0,.slice none 0 0,.string ⟨#[]⟩,.bool false,.int .u64 0] 43)::R')/\∀W',St K W' (blk b (.cells pa 43)::R')->uw K REST pa (upd ρ 4 undef) W' := by
 obtain⟨b2,b3,e1,e2,hs⟩:=h;rw[h2,h4]at hs;have hs:St K W (blk b2 (.cells #[.int .i64 0,.slice none 0 0,.string ⟨#[]⟩,.bool false,.int .u64 0] 43)::_):=hs;refine⟨b2,_,e1 v2 h2,hs,fun W' hs' => ⟨b2,b3,fun v h=>e1 v (by simpa[upd] using h),fun v h=>e2 v (by simpa[upd] using h),?_⟩⟩
 have:St K W' (dH (some v2) (blk b2 (.cells pa 43))::_):=hs';simpa[upd,h2] using this
theorem uw.e5 (h:uw K REST pa ρ W)(h3:ρ 3=some v3)(h5:ρ 5=none):∃(b:Nat)(R':List aC),v3=(.pointer (some ⟨b,0,none⟩))/\St K W (blk b (.cells #[.int .i64 0,.slice none 0 0,.string ⟨#[]⟩,.bool false,.int .u64 0] 43)::R')/\∀W',St K W' (blk b (.cells pa 43)::R')->uw K REST pa (upd ρ 5 undef) W' := by
 obtain⟨b2,b3,e1,e2,hs⟩:=h;rw[h3,h5]at hs;have hs:St K W (_::blk b3 (.cells #[.int .i64 0,.slice none 0 0,.string ⟨#[]⟩,.bool false,.int .u64 0] 43)::_):=hs;refine⟨b3,_,e2 v3 h3,hs.b1,fun W' hs' => ⟨b2,b3,fun v h=>e1 v (by simpa[upd] using h),fun v h=>e2 v (by simpa[upd] using h),?_⟩⟩
 have:St K W' (dH (ρ 2) (blk b2 (.cells (if (ρ 4).isSome then pa else #[.int .i64 0,.slice none 0 0,.string ⟨#[]⟩,.bool false,.int .u64 0]) 43))::dH (some v3) (blk b3 (.cells pa 43))::REST):=hs'.b1
 simpa[upd,h3] using this
theorem uw.last (h:uw K REST pa ρ W)(hall:∀e,e∈[2,3,4,5]->(ρ e).isSome=true):∃b2 b3:Nat,ρ 2=some (.pointer (some ⟨b2,0,none⟩))/\ρ 3=some (.pointer (some ⟨b3,0,none⟩))/\(∃v,ρ 4=some v)/\(∃v,ρ 5=some v) /\
  St K W (blk b2 (.cells pa 43)::blk b3 (.cells pa 43)::REST):=by
 obtain⟨v2,h2⟩:=aq6.1 (hall 2 (by simp))
 obtain⟨v3,h3⟩:=aq6.1 (hall 3 (by simp))
 obtain⟨v4,h4⟩:=aq6.1 (hall 4 (by simp))
 obtain⟨v5,h5⟩:=aq6.1 (hall 5 (by simp))
 obtain⟨b2,b3,e1,e2,hs⟩:=h;rw[h2,h3,h4,h5]at hs;exact⟨b2,b3,by rw[h2,e1 v2 h2],by rw[h3,e2 v3 h3],⟨v4,h4⟩,⟨v5,h5⟩,hs⟩
end
def SqR (K:aL)(b1 b2:Nat)(p1 p2:Array Value)(REST:List aC)(ρ:Nat->Option Value)(W:World):Prop:=
 St K W (blk b1 (.cells (if (ρ 3).isSome then p1 else #[.int .i64 0,.slice none 0 0,.string ⟨#[]⟩,.bool false,.int .u64 0]) 43)::blk b2 (.cells (if (ρ 4).isSome then p2 else #[.int .i64 0,.slice none 0 0,.string ⟨#[]⟩,.bool false,.int .u64 0]) 43)::REST)
theorem vP (tmps:Array Value)(w:World)(b1 b2:Nat)(v0 v1 v2 v3 v4 u0 u1 u2 u3 u4 x y:Value)(hp:tmps[4]?=some (.pointer (some ⟨b1,0,none⟩)))(hq:tmps[5]?=some (.pointer (some ⟨b2,0,none⟩)))(hx:tmps[6]?=some x)(hy:tmps[7]?=some y)
  (hk:∀k,w.cell? ⟨b1,k,none⟩=(#[v0,v1,v2,v3,v4]:Array Value)[k]?) (hl:∀k,w.cell? ⟨b2,k,none⟩=(#[u0,u1,u2,u3,u4]:Array Value)[k]?) :
  (results Tryz.f135 tmps).run Tryz.prog w=.ok (.tuple #[.agg #[v0,v1,v2,v3,v4],.agg #[u0,u1,u2,u3,u4],x,y]) w:=by
 simp[results,Tryz.results135,go_sem,hp,hq,hx,hy,hk,hl]
section
variable {K:aL}{w:World}{F:List aC}{pg:Pg}{a:Option Addr}{cap:Nat}{right:Int}
theorem yo (h2:2<=pg.sl.length)(ym:pg.sl.length<=100)(hsz:∀s,s∈pg.sl->s.k.size<=1000000)(hs:St K w (bu (.slice a pg.sl.length cap) pg::F)) :
  Calls Tryz.prog 135 #[(.agg #[.int .i64 (pg).ak,(.slice a pg.sl.length cap),.string (pg).hi,.bool (pg).la,.int .u64 (pg).ri]),.int .u64 right] w fun e w' => ∃a1 c1 a2 c2,e=.returned (.tuple #[(.agg #[.int .i64 ((fA pg right)).ak,(.slice a1 (fA pg right).sl.length c1),.string ((fA pg right)).hi,.bool ((fA pg right)).la,.int .u64 ((fA pg right)).ri]),(.agg #[.int .i64 ((dI pg)).ak,(.slice a2 (dI pg).sl.length c2),.string ((dI pg)).hi,.bool ((dI pg)).la,.int .u64 ((dI pg)).ri]),.string (bN pg),.bool true]) /\
   St K w' (bu (.slice a1 (fA pg right).sl.length c1) (fA pg right)::bu (.slice a2 (dI pg).sl.length c2) (dI pg)::bu (.slice a pg.sl.length cap) pg::F):=by
 obtain⟨g,hg,hc⟩:∃g,a=some ⟨g,0,none⟩/\pg.sl.length<=cap:=by
  rcases(show St K w (az (.slice a pg.sl.length cap) 69 2 pg.sl.length (aD pg.sl)::F)from hs).xg with⟨_,h0,_⟩|h
  ·omega
  ·exact h
 subst hg;obtain⟨k,hk⟩:∃k,k=gh pg.sl.length:=⟨_,rfl⟩;have hk1:1<=k/\k<pg.sl.length:=by rw[hk];unfold gh;omega
 obtain⟨x,hx⟩:∃x,pg.sl[k-1]?=some x:=⟨_,aq8 (by omega)⟩
 obtain⟨y,hy⟩:∃y,pg.sl[k]?=some y:=⟨_,aq8 hk1.2⟩;have hsep:bN pg=if pg.ak=0 then lY x.k y.k else y.k:=by unfold bN;rw[←hk,hx,hy]
 have hki:(pg.sl.length:Int)-(pg.sl.length:Int) / 2=(k:Int):=by rw[hk];unfold gh;omega
 have Hki:=aq3 hki;clear hki;have Hy:=aq3 hy;have Hx:=aq3 hx;have abh:=aq3 hsep;have Hk:=aq3 hk;have hs:=((hs.made (.cells #[.int .i64 (pg).ak,(.slice (some ⟨g,0,none⟩) pg.sl.length cap),.string (pg).hi,.bool (pg).la,.int .u64 (pg).ri] 43)).made (.cells #[.int .i64 0,.slice none 0 0,.string ⟨#[]⟩,.bool false,.int .u64 0] 43)).made (.cells #[.int .i64 0,.slice none 0 0,.string ⟨#[]⟩,.bool false,.int .u64 0] 43);simp only[World.size_alloc]at hs;clear hx hy hsep hk;obtain⟨bp,mS⟩:∃bp,bp=w.heap.size:=⟨_,rfl⟩;rw[show w.heap.size+1+1=w.heap.size+2 by omega,←mS]at hs
 have hs:St K _ (blk (bp+2) (.cells #[.int .i64 0,.slice none 0 0,.string ⟨#[]⟩,.bool false,.int .u64 0] 43)::blk (bp+1) (.cells #[.int .i64 0,.slice none 0 0,.string ⟨#[]⟩,.bool false,.int .u64 0] 43)::blk bp (.cells #[.int .i64 (pg).ak,(.slice (some ⟨g,0,none⟩) pg.sl.length cap),.string (pg).hi,.bool (pg).la,.int .u64 (pg).ri] 43)::az (.slice (some ⟨g,0,none⟩) pg.sl.length cap) 69 2 pg.sl.length (aD pg.sl)::F):=hs;go_enter Tryz.func135,Tryz.ntmps135
 go_upto_region 4 with(fail)
 rw[show w.heap.size+1+1=w.heap.size+2 by omega,←mS]
 clear mS;go_cut [9] (fun v wx=>v=.int .i64 k/\St K wx (blk (bp+2) (.cells #[.int .i64 0,.slice none 0 0,.string ⟨#[]⟩,.bool false,.int .u64 0] 43)::blk (bp+1) (.cells #[.int .i64 0,.slice none 0 0,.string ⟨#[]⟩,.bool false,.int .u64 0] 43)::blk bp (.cells #[.int .i64 (pg).ak,(.slice (some ⟨g,0,none⟩) pg.sl.length cap),.string (pg).hi,.bool (pg).la,.int .u64 (pg).ri] 43)::az (.slice (some ⟨g,0,none⟩) pg.sl.length cap) 69 2 pg.sl.length (aD pg.sl)::F))
 case first=>
  as_aux_lemma=>
  go_wp2
  go_meet;exact⟨by rw[Hki.out],hs⟩
 case rest=>
 clear hs;obtain⟨rfl,hs⟩:=hcut;have kp:=hs.k2;have c1:=(show St K wc (az _ 69 2 pg.sl.length (aD pg.sl)::F)from hs.tail.tail.tail).bK (fW _ _ _ Hy.out).1
 have c0:=(show St K wc (az _ 69 2 pg.sl.length (aD pg.sl)::F)from hs.tail.tail.tail).bK (fW _ _ _ Hx.out).1
 go_upto_region 6 with(fail)
 clear c1;go_cut [32] (fun v wx=>v=.bool (pg.ak == 0)/\St K wx (blk (bp+2) (.cells #[.int .i64 0,.slice none 0 0,.string ⟨#[]⟩,.bool false,.int .u64 0] 43)::blk (bp+1) (.cells #[.int .i64 0,.slice none 0 0,.string ⟨#[]⟩,.bool false,.int .u64 0] 43)::blk bp (.cells #[.int .i64 (pg).ak,(.slice (some ⟨g,0,none⟩) pg.sl.length cap),.string (pg).hi,.bool (pg).la,.int .u64 (pg).ri] 43)::az (.slice (some ⟨g,0,none⟩) pg.sl.length cap) 69 2 pg.sl.length (aD pg.sl)::F))
 case first=>
  as_aux_lemma=>
  clear c0;go_wp2
  go_meet;exact⟨rfl,hs⟩
 case rest=>
 clear hs kp c0;obtain⟨rfl,hs⟩:=hcut;apply_assumption
 go_cut [10] (fun v wx=>v=.string (bN pg)/\St K wx (blk (bp+2) (.cells #[.int .i64 0,.slice none 0 0,.string ⟨#[]⟩,.bool false,.int .u64 0] 43)::blk (bp+1) (.cells #[.int .i64 0,.slice none 0 0,.string ⟨#[]⟩,.bool false,.int .u64 0] 43)::blk bp (.cells #[.int .i64 (pg).ak,(.slice (some ⟨g,0,none⟩) pg.sl.length cap),.string (pg).hi,.bool (pg).la,.int .u64 (pg).ri] 43)::az (.slice (some ⟨g,0,none⟩) pg.sl.length cap) 69 2 pg.sl.length (aD pg.sl)::F))
 case first=>
  as_aux_lemma=>
  by_cases hlv:pg.ak=0
  ·have Bt:(pg.ak == 0)=true:=by rw[hlv];rfl
   have kp:=hs.k2;have c0:=(show St K _ (az _ 69 2 pg.sl.length (aD pg.sl)::F)from hs.tail.tail.tail).bK (fW _ _ _ Hx.out).1
   have Hf:Hid (bN pg=lY x.k y.k):=aq3 (by rw[abh.out,if_pos hlv])
   have Qs:=aq3 (fun w=>Xq x.k y.k (hsz y (aq7 Hy.out)) w)
   clear hlv;rw[Bt];clear Bt;go_wp2_with fail
   refine(Qs.out _).mono ?_
   rintro e w3 ⟨rfl,rfl⟩;clear kp c0;go_wp2
   go_meet;exact⟨by rw[Hf.out],hs⟩
  ·have Bt:(pg.ak == 0)=false:=by simp[hlv]
   have Hf:Hid (bN pg=y.k):=aq3 (by rw[abh.out,if_neg hlv])
   clear hlv;rw[Bt];clear Bt;go_wp2
   go_meet;exact⟨by rw[Hf.out],hs⟩
 case rest=>
 clear hs;obtain⟨rfl,hs⟩:=hcut;obtain⟨sep,hsep⟩:∃sep,sep=bN pg:=⟨_,rfl⟩;rw[←hsep];have Hsp:=aq3 hsep;clear hsep abh;go_upto_region 8 with(fail)
 have Hs:=aq3 hs;clear hs;refine aT [false,false,true,true,true,true] [2,3,4,5] (fun|4=>[2] | 5=>[3] | _=>[])
  (uw K (blk (bp+2) (.cells #[.int .i64 0,.slice none 0 0,.string ⟨#[]⟩,.bool false,.int .u64 0] 43)::blk (bp+1) (.cells #[.int .i64 0,.slice none 0 0,.string ⟨#[]⟩,.bool false,.int .u64 0] 43)::blk bp (.cells #[.int .i64 (pg).ak,(.slice (some ⟨g,0,none⟩) pg.sl.length cap),.string (pg).hi,.bool (pg).la,.int .u64 (pg).ri] 43)::az (.slice (some ⟨g,0,none⟩) pg.sl.length cap) 69 2 pg.sl.length (aD pg.sl)::F) #[.int .i64 (pg).ak,(.slice (some ⟨g,0,none⟩) pg.sl.length cap),.string (pg).hi,.bool (pg).la,.int .u64 (pg).ri])
  (fun W=>St K W (blk (bp+2) (.cells #[.int .i64 0,.slice none 0 0,.string ⟨#[]⟩,.bool false,.int .u64 0] 43)::blk (bp+1) (.cells #[.int .i64 0,.slice none 0 0,.string ⟨#[]⟩,.bool false,.int .u64 0] 43)::blk bp (.cells #[.int .i64 (pg).ak,(.slice (some ⟨g,0,none⟩) pg.sl.length cap),.string (pg).hi,.bool (pg).la,.int .u64 (pg).ri] 43)::az (.slice (some ⟨g,0,none⟩) pg.sl.length cap) 69 2 pg.sl.length (aD pg.sl)::F)) ?aS (by kernel_rfl) ?hB ?H ?iD ?h0 ?hI ?hR ?hE ?hQ
 case hB=>as_aux_lemma=>kernel_rfl
 case H=>
  intro W2 hs;have kp:=hs.k2;clear hs;simp only[bL];repeat (go_big_quiet_step (fail))
  refine wpQuiet_nil ?_
  rfl
 case iD=>rfl
 case h0=>exact uw.start Hs.out
 case hI=>exact fun ρ W2 h=>h.rest
 case hR=>exact fun ρ W2 W3 h hb=>h.same hb
 case hE=>
  refine⟨?e2,?e3,?e4,?e5,trivial⟩;case e2=>
   intro o ho ρ W2 h hcl h2' hd2 af aB;obtain rfl:=aq9 ho;replace aB:af=aj _ ρ [] _:=aB;have h4:ρ 4=none:=hcl.none (by simp) (show 2∈[2]by simp) h2'
   have Hk2:=aq3 (h.e2 h2' h4);simp only[aj]at aB;subst aB;clear h hcl hd2 h2' h4;go_wp2
   exact⟨rfl,_,rfl,Hk2.out⟩
  case e3=>
   intro o ho ρ W2 h hcl h3' hd2 af aB;obtain rfl:=aq9 ho;replace aB:af=aj _ ρ [] _:=aB;have h5:ρ 5=none:=hcl.none (by simp) (show 3∈[3]by simp) h3'
   have Hk2:=aq3 (h.e3 h3' h5);simp only[aj]at aB;subst aB;clear h hcl hd2 h3' h5;go_wp2
   exact⟨rfl,_,rfl,Hk2.out⟩
  case e4=>
   intro o ho ρ W2 h hcl h4 hd2 af aB;obtain rfl:=aq9 ho;replace aB:af=aj _ ρ [2] _:=aB;obtain⟨v2,h2'⟩:=aq6.1 (hd2 2 (by show _∈[2];simp))
   obtain⟨b,R',rfl,hs,hnext⟩:=h.e4 h2' h4;simp only[aj,h2',Option.getD_some,aM,Act.put,ara]at aB;subst aB;have k0:=hs.k0;have f0:=hs.f0;have Gs:=aq3 hnext;have fZ:Hid (St K _ (blk b (.cells #[.int .i64 (pg).ak,(.slice (some ⟨g,0,none⟩) pg.sl.length cap),.string (pg).hi,.bool (pg).la,.int .u64 (pg).ri] 43)::R')):=aq3 (((((hs.aI 0 (.int .i64 pg.ak)).aI 1 (.slice (some ⟨g,0,none⟩) pg.sl.length cap)).aI 2 (.string pg.hi)).aI 3 (.bool pg.la)).aI 4 (.int .u64 pg.ri));clear h hs hnext hcl hd2 h2' h4;go_wp2
   exact⟨rfl,undef,rfl,Gs.out _ fZ.out⟩
  case e5=>
   intro o ho ρ W2 h hcl h5 hd2 af aB;obtain rfl:=aq9 ho;replace aB:af=aj _ ρ [3] _:=aB;obtain⟨v3,h3'⟩:=aq6.1 (hd2 3 (by show _∈[3];simp))
   obtain⟨b,R',rfl,hs,hnext⟩:=h.e5 h3' h5;simp only[aj,h3',Option.getD_some,aM,Act.put,ara]at aB;subst aB;have k0:=hs.k0;have f0:=hs.f0;have Gs:=aq3 hnext;have fZ:Hid (St K _ (blk b (.cells #[.int .i64 (pg).ak,(.slice (some ⟨g,0,none⟩) pg.sl.length cap),.string (pg).hi,.bool (pg).la,.int .u64 (pg).ri] 43)::R')):=aq3 (((((hs.aI 0 (.int .i64 pg.ak)).aI 1 (.slice (some ⟨g,0,none⟩) pg.sl.length cap)).aI 2 (.string pg.hi)).aI 3 (.bool pg.la)).aI 4 (.int .u64 pg.ri));clear h hs hnext hcl hd2 h3' h5;go_wp2
   exact⟨rfl,undef,rfl,Gs.out _ fZ.out⟩
 case hQ=>
 intro ρ W2 h hall;obtain⟨b2,b3,h2',h3',⟨v4,h4⟩,⟨v5,h5⟩,hs⟩:=h.last hall;simp only[aj,h2',h3',h4,h5,Option.getD_some,aM,Act.put,ara];clear h hall h2' h3' h4 h5 Hs;have kp:=hs.tail.tail.k2;have eY:=(show St K W2 (az (.slice (some ⟨g,0,none⟩) pg.sl.length cap) 69 2 pg.sl.length (aD pg.sl)::F)from hs.tail.tail.tail.tail.tail).cO (by omega)
 have q:=ur (cap:=cap) (eY.take k) (by rw[List.length_take];omega) (by rw[List.length_take];omega) hs
 rw[List.length_take,show min k pg.sl.length=k by omega]at q
 have Q:=aq3 q;clear q hs eY;go_wp2_with fail
 refine(Q.out).mono ?_
 clear Q kp;rintro e w4 ⟨a1,c1,rfl,hs⟩;have kb:=hs.k1;have fb:=hs.f1;have hs:St K _ (blk b2 (.cells #[.int .i64 pg.ak,.slice a1 k c1,.string sep,.bool false,.int .u64 right] 43)::az (.slice a1 k c1) 69 2 k (aD (pg.sl.take k))::blk b3 (.cells #[.int .i64 (pg).ak,(.slice (some ⟨g,0,none⟩) pg.sl.length cap),.string (pg).hi,.bool (pg).la,.int .u64 (pg).ri] 43)::blk (bp+2) (.cells #[.int .i64 0,.slice none 0 0,.string ⟨#[]⟩,.bool false,.int .u64 0] 43)::blk (bp+1) (.cells #[.int .i64 0,.slice none 0 0,.string ⟨#[]⟩,.bool false,.int .u64 0] 43)::blk bp (.cells #[.int .i64 (pg).ak,(.slice (some ⟨g,0,none⟩) pg.sl.length cap),.string (pg).hi,.bool (pg).la,.int .u64 (pg).ri] 43)::az (.slice (some ⟨g,0,none⟩) pg.sl.length cap) 69 2 pg.sl.length (aD pg.sl)::F):=(((hs.b1.aI 1 (.slice a1 k c1)).aI 2 (.string sep)).aI 3 (.bool false)).aI 4 (.int .u64 right);go_upto_region 10 with(fail)
 clear kb fb;have kp:=hs.tail.tail.tail.k2;have eY:=(show St K _ (az (.slice (some ⟨g,0,none⟩) pg.sl.length cap) 69 2 pg.sl.length (aD pg.sl)::F)from hs.tail.tail.tail.tail.tail.tail).cO (by omega)
 have q:=ur (cap:=cap-k) (eY.drop k) (by rw[List.length_drop];omega) (by rw[List.length_drop];omega) hs
 rw[List.length_drop]at q;have Q:=aq3 q;have Hs:=aq3 hs;clear q hs eY;go_wp2_with fail
 refine(Q.out).mono ?_
 clear Q kp Hs;rintro e w5 ⟨a2,c2,rfl,hs⟩;have kb:=hs.tail.k2;have fb:=hs.tail.f2;have hs:St K _ (blk b3 (.cells #[.int .i64 pg.ak,.slice a2 (pg.sl.length-k) c2,.string pg.hi,.bool pg.la,.int .u64 pg.ri] 43)::az (.slice a2 (pg.sl.length-k) c2) 69 2 (pg.sl.length-k) (aD (pg.sl.drop k))::blk b2 (.cells #[.int .i64 pg.ak,.slice a1 k c1,.string sep,.bool false,.int .u64 right] 43)::az (.slice a1 k c1) 69 2 k (aD (pg.sl.take k))::blk (bp+2) (.cells #[.int .i64 0,.slice none 0 0,.string ⟨#[]⟩,.bool false,.int .u64 0] 43)::blk (bp+1) (.cells #[.int .i64 0,.slice none 0 0,.string ⟨#[]⟩,.bool false,.int .u64 0] 43)::blk bp (.cells #[.int .i64 (pg).ak,(.slice (some ⟨g,0,none⟩) pg.sl.length cap),.string (pg).hi,.bool (pg).la,.int .u64 (pg).ri] 43)::az (.slice (some ⟨g,0,none⟩) pg.sl.length cap) 69 2 pg.sl.length (aD pg.sl)::F):=hs.b3.aI 1 (.slice a2 (pg.sl.length-k) c2);go_upto_region 11 with(fail)
 clear kb fb;have Hs:=aq3 (hs.re [5,4,0,1,2,3,6,7] rfl);clear hs;refine aT [false,false,false,true,true,false,false] [3,4] (fun _=>[])
  (SqR K (bp+1) (bp+2) #[.int .i64 pg.ak,.slice a1 k c1,.string sep,.bool false,.int .u64 right] #[.int .i64 pg.ak,.slice a2 (pg.sl.length-k) c2,.string pg.hi,.bool pg.la,.int .u64 pg.ri] (blk b3 (.cells #[.int .i64 pg.ak,.slice a2 (pg.sl.length-k) c2,.string pg.hi,.bool pg.la,.int .u64 pg.ri] 43)::az (.slice a2 (pg.sl.length-k) c2) 69 2 (pg.sl.length-k) (aD (pg.sl.drop k))::blk b2 (.cells #[.int .i64 pg.ak,.slice a1 k c1,.string sep,.bool false,.int .u64 right] 43)::az (.slice a1 k c1) 69 2 k (aD (pg.sl.take k))::blk bp (.cells #[.int .i64 (pg).ak,(.slice (some ⟨g,0,none⟩) pg.sl.length cap),.string (pg).hi,.bool (pg).la,.int .u64 (pg).ri] 43)::az (.slice (some ⟨g,0,none⟩) pg.sl.length cap) 69 2 pg.sl.length (aD pg.sl)::F))
  (fun W=>St K W (blk b3 (.cells #[.int .i64 pg.ak,.slice a2 (pg.sl.length-k) c2,.string pg.hi,.bool pg.la,.int .u64 pg.ri] 43)::az (.slice a2 (pg.sl.length-k) c2) 69 2 (pg.sl.length-k) (aD (pg.sl.drop k))::blk b2 (.cells #[.int .i64 pg.ak,.slice a1 k c1,.string sep,.bool false,.int .u64 right] 43)::az (.slice a1 k c1) 69 2 k (aD (pg.sl.take k))::blk bp (.cells #[.int .i64 (pg).ak,(.slice (some ⟨g,0,none⟩) pg.sl.length cap),.string (pg).hi,.bool (pg).la,.int .u64 (pg).ri] 43)::az (.slice (some ⟨g,0,none⟩) pg.sl.length cap) 69 2 pg.sl.length (aD pg.sl)::F)) ?aSf (by kernel_rfl) ?hBf ?Hf ?aid ?h0f ?hIf ?hRf ?hEf ?hQf
 case hBf=>as_aux_lemma=>kernel_rfl
 case Hf=>
  intro W2 hs;have c3:=hs.k0;have c2' := hs.k2;clear hs;simp only[bL];repeat (go_big_quiet_step (fail))
  refine wpQuiet_nil ?_
  rfl
 case aid=>rfl
 case h0f=>exact Hs.out
 case hIf=>exact fun ρ W2 h=>St.tail (St.tail h)
 case hRf=>exact fun ρ W2 W3 h hb=>St.same h hb
 case hEf=>
  refine⟨?e3f,?e4f,trivial⟩;case e3f=>
   intro o ho ρ W2 h hcl h3' hd2 af aB;obtain rfl:=aq9 ho;replace aB:af=aj _ ρ [] _:=aB;simp only[aj]at aB;subst aB;unfold SqR at h;rw[h3']at h;obtain⟨yy,hyy⟩:∃yy:Array Value,yy=(if (ρ 4).isSome=true then #[.int .i64 pg.ak,.slice a2 (pg.sl.length-k) c2,.string pg.hi,.bool pg.la,.int .u64 pg.ri]else #[.int .i64 0,.slice none 0 0,.string ⟨#[]⟩,.bool false,.int .u64 0]):=⟨_,rfl⟩
   rw[←hyy]at h;have HY:=aq3 hyy;clear hyy;have hs:St K W2 (blk (bp+1) (.cells #[.int .i64 0,.slice none 0 0,.string ⟨#[]⟩,.bool false,.int .u64 0] 43)::blk (bp+2) (.cells yy 43)::blk b3 (.cells #[.int .i64 pg.ak,.slice a2 (pg.sl.length-k) c2,.string pg.hi,.bool pg.la,.int .u64 pg.ri] 43)::az (.slice a2 (pg.sl.length-k) c2) 69 2 (pg.sl.length-k) (aD (pg.sl.drop k))::blk b2 (.cells #[.int .i64 pg.ak,.slice a1 k c1,.string sep,.bool false,.int .u64 right] 43)::az (.slice a1 k c1) 69 2 k (aD (pg.sl.take k))::blk bp (.cells #[.int .i64 (pg).ak,(.slice (some ⟨g,0,none⟩) pg.sl.length cap),.string (pg).hi,.bool (pg).la,.int .u64 (pg).ri] 43)::az (.slice (some ⟨g,0,none⟩) pg.sl.length cap) 69 2 pg.sl.length (aD pg.sl)::F):=h;have k0:=hs.k0;have f0:=hs.f0;have hs:=((((hs.aI 0 (.int .i64 pg.ak)).aI 1 (.slice a1 k c1)).aI 2 (.string sep)).aI 3 (.bool false)).aI 4 (.int .u64 right);have fZ:=aq3 hs;clear h hs hcl hd2;go_wp2
   refine⟨rfl,undef,rfl,?_⟩;unfold SqR;rw[show upd ρ 3 undef 3=some undef by simp[upd],show upd ρ 3 undef 4=ρ 4 by simp[upd],←HY.out]
   exact fZ.out
  case e4f=>
   intro o ho ρ W2 h hcl h4 hd2 af aB;obtain rfl:=aq9 ho;replace aB:af=aj _ ρ [] _:=aB;simp only[aj]at aB;subst aB;unfold SqR at h;rw[h4]at h;obtain⟨yy,hyy⟩:∃yy:Array Value,yy=(if (ρ 3).isSome=true then #[.int .i64 pg.ak,.slice a1 k c1,.string sep,.bool false,.int .u64 right]else #[.int .i64 0,.slice none 0 0,.string ⟨#[]⟩,.bool false,.int .u64 0]):=⟨_,rfl⟩
   rw[←hyy]at h;have HY:=aq3 hyy;clear hyy;have hs:St K W2 (blk (bp+2) (.cells #[.int .i64 0,.slice none 0 0,.string ⟨#[]⟩,.bool false,.int .u64 0] 43)::blk (bp+1) (.cells yy 43)::blk b3 (.cells #[.int .i64 pg.ak,.slice a2 (pg.sl.length-k) c2,.string pg.hi,.bool pg.la,.int .u64 pg.ri] 43)::az (.slice a2 (pg.sl.length-k) c2) 69 2 (pg.sl.length-k) (aD (pg.sl.drop k))::blk b2 (.cells #[.int .i64 pg.ak,.slice a1 k c1,.string sep,.bool false,.int .u64 right] 43)::az (.slice a1 k c1) 69 2 k (aD (pg.sl.take k))::blk bp (.cells #[.int .i64 (pg).ak,(.slice (some ⟨g,0,none⟩) pg.sl.length cap),.string (pg).hi,.bool (pg).la,.int .u64 (pg).ri] 43)::az (.slice (some ⟨g,0,none⟩) pg.sl.length cap) 69 2 pg.sl.length (aD pg.sl)::F):=h.re [1,0] rfl;have k0:=hs.k0;have f0:=hs.f0;have hs:=((((hs.aI 0 (.int .i64 pg.ak)).aI 1 (.slice a2 (pg.sl.length-k) c2)).aI 2 (.string pg.hi)).aI 3 (.bool pg.la)).aI 4 (.int .u64 pg.ri);have fZ:=aq3 (hs.re [1,0] rfl);clear h hs hcl hd2;go_wp2
   refine⟨rfl,undef,rfl,?_⟩;unfold SqR;rw[show upd ρ 4 undef 4=some undef by simp[upd],show upd ρ 4 undef 3=ρ 3 by simp[upd],←HY.out]
   exact fZ.out
 case hQf=>
  intro ρ W2 h hall;obtain⟨v3,h3'⟩:=aq6.1 (hall 3 (by simp))
  obtain⟨v4,h4⟩:=aq6.1 (hall 4 (by simp))
  unfold SqR at h;rw[h3',h4]at h;have hs:St K W2 (blk (bp+1) (.cells #[.int .i64 pg.ak,.slice a1 k c1,.string sep,.bool false,.int .u64 right] 43)::blk (bp+2) (.cells #[.int .i64 pg.ak,.slice a2 (pg.sl.length-k) c2,.string pg.hi,.bool pg.la,.int .u64 pg.ri] 43)::blk b3 (.cells #[.int .i64 pg.ak,.slice a2 (pg.sl.length-k) c2,.string pg.hi,.bool pg.la,.int .u64 pg.ri] 43)::az (.slice a2 (pg.sl.length-k) c2) 69 2 (pg.sl.length-k) (aD (pg.sl.drop k))::blk b2 (.cells #[.int .i64 pg.ak,.slice a1 k c1,.string sep,.bool false,.int .u64 right] 43)::az (.slice a1 k c1) 69 2 k (aD (pg.sl.take k))::blk bp (.cells #[.int .i64 (pg).ak,(.slice (some ⟨g,0,none⟩) pg.sl.length cap),.string (pg).hi,.bool (pg).la,.int .u64 (pg).ri] 43)::az (.slice (some ⟨g,0,none⟩) pg.sl.length cap) 69 2 pg.sl.length (aD pg.sl)::F):=h;simp only[aj,h3',h4,Option.getD_some,aM,List.getElem?_cons_succ,List.getElem?_cons_zero,Option.bind_some,Option.bind_none,Act.put];clear h hall h3' h4;have q1:=hs.k0;have q2:=hs.k1;have eL:(fA pg right).sl.length=k:=by
   show(pg.sl.take (gh pg.sl.length)).length=k
   rw[←Hk.out,List.length_take];omega
  have eR:(dI pg).sl.length=pg.sl.length-k:=by
   show(pg.sl.drop (gh pg.sl.length)).length=_
   rw[←Hk.out,List.length_drop]
  have eL2:(fA pg right).sl=pg.sl.take k:=by show pg.sl.take (gh pg.sl.length)=_;rw[←Hk.out]
  have eR2:(dI pg).sl=pg.sl.drop k:=by show pg.sl.drop (gh pg.sl.length)=_;rw[←Hk.out]
  have EL:=aq3 (And.intro eL eL2);have ER:=aq3 (And.intro eR eR2);clear eL eR eL2 eR2;go_wp2
  refine bodyPost_ret (vP _ _ (bp+1) (bp+2) _ _ _ _ _ _ _ _ _ _ _ _ rfl rfl rfl rfl q1 q2) rfl ?_
  refine⟨a1,c1,a2,c2,?_,?_⟩
  ·rw[EL.out.1,ER.out.1,Hsp.out];rfl
  ·unfold bu
   rw[EL.out.1,ER.out.1,EL.out.2,ER.out.2];exact(hs.re [0,1,2,4,6,5,3,7] rfl).tail.tail.tail.tail.tail
end
end
section
structure iB where
 pc:Nat
 seen:Int
 ok:Bool
def Sq (bt:Nat):Nat->Value
 | 0=> .func (.func 134) #[.pointer (some ⟨bt,0,none⟩)] #[]
 | 1=> .func (.func 162) #[.pointer (some ⟨bt,0,none⟩)] #[]
 | _=> .nilFunc
def ux (w:World)(bt:Nat)(i lim:Int)(s:iB):Prop:=
 w.heap[bt]?=some (.cells #[Sq bt s.pc,.bool true,.int .i64 i,.int .u64 lim,.int .u64 s.seen,.bool s.ok] 190)
theorem rQ:Enters 134:=fun _ _=>rfl
theorem rR:Enters 162:=fun _ _=>rfl
theorem Bu (w:World)(i lim:Int):Calls Tryz.prog 98 #[.int .i64 i,.int .u64 lim] w fun e w' => e=.returned (.pointer (some ⟨w.heap.size,0,none⟩))/\ux w' w.heap.size i lim ⟨0,0,false⟩/\Below w.heap.size w w' /\ w.heap.size<w'.heap.size:=by
 go_enter Tryz.func98,Tryz.ntmps98
 go_wp2_with fail
 refine(fq 134 #[.pointer (some ⟨w.heap.size,0,none⟩)] #[] _).mono ?_
 rintro e w1 ⟨rfl,hb⟩;have B1:=cE hb (dU w _);have hlt:=ia B1;have k:=bq B1;have kf:=dK B1;have B2:=cM (cM B1 0 (.func (.func 134) #[.pointer (some ⟨w.heap.size,0,none⟩)] #[])) 1 (.bool true);simp only[List.setIfInBounds_toArray,List.set_cons_zero,List.set_cons_succ]at B2;go_wp2
 go_ret;refine⟨rfl,B2,?_,by simp only[World.size_setCell];exact hlt⟩
 iterate 2 refine Below.setCell ?_ (by simp) _
 exact((Below.refl _ _).alloc (Nat.le_refl _) _).trans (hb.mono (by simp))
theorem yq (w:World)(bt bm bc:Nat)(i lim seen acc:Int)(v0:Value)(ok:Bool)(L:List aO)(h:w.heap[bt]?=some (.cells #[v0,.bool true,.int .i64 i,.int .u64 lim,.int .u64 seen,.bool ok] 190))(M:bR w bm bc L acc)(h1:bt≠bm)(h2:bt≠bc)(ha0:0<=acc)(ha:acc<=1000000000000)(hx:lim<=(ah L i).n) :
  Calls Tryz.prog 134 #[.pointer (some ⟨bt,0,none⟩),.pointer (some ⟨bm,0,none⟩)] w fun e w' => e=.returned (.nilFunc)/\w'.heap[bt]?=some (.cells #[v0,.bool true,.int .i64 i,.int .u64 lim,.int .u64 (ah L i).n,.bool ok] 190)/\bR w' bm bc L (acc+1)/\eI [bt,bm,bc] w w' := by
 have k:=bq h;go_enter Tryz.func134,Tryz.ntmps134
 go_wp2_with fail
 refine(tG _ bm bc L acc i M ha0 ha).mono ?_
 rintro e w1 ⟨rfl,M1,hg⟩;have T1:=hg.blk h (by simp[h1])
 clear k;have k:=bq T1;have kf:=dK T1;have T2:=cM T1 4 (.int .u64 (ah L i).n);simp only[List.setIfInBounds_toArray,List.set_cons_zero,List.set_cons_succ]at T2;go_upto_region 2 with(fail)
 obtain⟨W,hW⟩:∃W,W=w1.setCell ⟨bt,4,none⟩ (.int .u64 (ah L i).n):=⟨_,rfl⟩;have hg2:eI [bt,bm,bc] w W:=by rw[hW];exact(hg.mono (by simp)).setCell (.inl (by simp)) _
 have M2:bR W bm bc L (acc+1):=by rw[hW];exact M1.keep (S:=[bt]) ((eI.refl _ _).setCell (.inl (by simp)) _) (by simp[Ne.symm h1]) (by simp[Ne.symm h2])
 rw[←hW]at T2 ⊢;clear hW k kf T1 hg M1 h;have k:=bq T2;refine bI (by kernel_rfl) (by kernel_rfl) ?_
 repeat (go_big_quiet_step (fail))
 refine wpQuiet_nil ?_
 intro w3 hb;clear k;go_wp2
 go_ret;exact⟨rfl,cE hb T2,M2.same hb,hg2.trans (eI.of_below hb)⟩
theorem Bv (w:World)(bt bm bc:Nat)(i lim seen acc:Int)(v0:Value)(ok:Bool)(L:List aO)(h:w.heap[bt]?=some (.cells #[v0,.bool true,.int .i64 i,.int .u64 lim,.int .u64 seen,.bool ok] 190))(M:bR w bm bc L acc)(h1:bt≠bm)(h2:bt≠bc)(ha0:0<=acc)(ha:acc<=1000000000000)(hx:(ah L i).n<lim) :
  Calls Tryz.prog 134 #[.pointer (some ⟨bt,0,none⟩),.pointer (some ⟨bm,0,none⟩)] w fun e w' => e=.returned (.func (.func 162) #[.pointer (some ⟨bt,0,none⟩)] #[])/\w'.heap[bt]?=some (.cells #[v0,.bool true,.int .i64 i,.int .u64 lim,.int .u64 (ah L i).n,.bool ok] 190)/\bR w' bm bc L (acc+1)/\eI [bt,bm,bc] w w' := by
 have k:=bq h;go_enter Tryz.func134,Tryz.ntmps134
 go_wp2_with fail
 refine(tG _ bm bc L acc i M ha0 ha).mono ?_
 rintro e w1 ⟨rfl,M1,hg⟩;have T1:=hg.blk h (by simp[h1])
 clear k;have k:=bq T1;have kf:=dK T1;have T2:=cM T1 4 (.int .u64 (ah L i).n);simp only[List.setIfInBounds_toArray,List.set_cons_zero,List.set_cons_succ]at T2;go_upto_region 2 with(fail)
 obtain⟨W,hW⟩:∃W,W=w1.setCell ⟨bt,4,none⟩ (.int .u64 (ah L i).n):=⟨_,rfl⟩;have hg2:eI [bt,bm,bc] w W:=by rw[hW];exact(hg.mono (by simp)).setCell (.inl (by simp)) _
 have M2:bR W bm bc L (acc+1):=by rw[hW];exact M1.keep (S:=[bt]) ((eI.refl _ _).setCell (.inl (by simp)) _) (by simp[Ne.symm h1]) (by simp[Ne.symm h2])
 rw[←hW]at T2 ⊢;clear hW k kf T1 hg M1 h;have k:=bq T2;refine bI (by kernel_rfl) (by kernel_rfl) ?_
 repeat (go_big_quiet_step (fail))
 refine wpQuiet_nil ?_
 intro w3 hb;clear k;go_wp2
 go_ret;exact⟨rfl,cE hb T2,M2.same hb,hg2.trans (eI.of_below hb)⟩
theorem yt (w:World)(bt bm bc:Nat)(i lim seen acc:Int)(v0:Value)(ok:Bool)(L:List aO)(h:w.heap[bt]?=some (.cells #[v0,.bool true,.int .i64 i,.int .u64 lim,.int .u64 seen,.bool ok] 190))(M:bR w bm bc L acc)(h1:bt≠bm)(h2:bt≠bc)(ha0:0<=acc)(ha:acc<=1000000000000)(s0:0<=seen)(s1:seen<18446744073709551615)(hx:bX L i seen=true) :
  Calls Tryz.prog 162 #[.pointer (some ⟨bt,0,none⟩),.pointer (some ⟨bm,0,none⟩)] w fun e w' => e=.returned (.nilFunc)/\w'.heap[bt]?=some (.cells #[v0,.bool true,.int .i64 i,.int .u64 lim,.int .u64 seen,.bool true] 190)/\bR w' bm bc (aP L i ⟨seen+1,⟨#[]⟩,0⟩) (acc+1)/\eI [bt,bm,bc] w w' := by
 have k:=bq h;have q:=fun w' (M':bR w' bm bc L acc)=>tH w' bm bc L acc i seen ⟨seen+1,⟨#[]⟩,0⟩ M' ha0 ha
 simp only[hx,if_true]at q;have Q:=aq3 q;clear q hx;go_enter Tryz.func162,Tryz.ntmps162
 go_wp2
 refine bQ 15 (by kernel_rfl) (by kernel_rfl) ?_
 simp only[List.take_succ_cons,List.take_zero,List.drop_succ_cons,List.drop_zero];repeat (go_big_quiet_step (fail))
 refine wpQuiet_nil ?_
 intro w1 hb;go_wp2_with fail
 refine(Q.out _ (M.same hb)).mono ?_
 rintro e w2 ⟨rfl,M2,hg⟩;have T2:=hg.blk (cE hb h) (by simp[h1,h2])
 have hg2:eI [bt,bm,bc] w w2:=(eI.of_below hb).trans (hg.mono (by simp))
 clear k h;have k:=bq T2;have kf:=dK T2;have T3:=cM T2 5 (.bool true);simp only[List.setIfInBounds_toArray,List.set_cons_zero,List.set_cons_succ]at T3;go_wp2
 go_ret;exact⟨rfl,T3,M2.keep (S:=[bt]) ((eI.refl _ _).setCell (.inl (by simp)) _) (by simp[Ne.symm h1]) (by simp[Ne.symm h2]),hg2.setCell (.inl (by simp)) _⟩
theorem Bx (w:World)(bt bm bc:Nat)(i lim seen acc:Int)(v0:Value)(ok:Bool)(L:List aO)(h:w.heap[bt]?=some (.cells #[v0,.bool true,.int .i64 i,.int .u64 lim,.int .u64 seen,.bool ok] 190))(M:bR w bm bc L acc)(h1:bt≠bm)(h2:bt≠bc)(ha0:0<=acc)(ha:acc<=1000000000000)(s0:0<=seen)(s1:seen<18446744073709551615)(hx:bX L i seen=false) :
  Calls Tryz.prog 162 #[.pointer (some ⟨bt,0,none⟩),.pointer (some ⟨bm,0,none⟩)] w fun e w' => e=.returned (.func (.func 134) #[.pointer (some ⟨bt,0,none⟩)] #[])/\w'.heap[bt]?=some (.cells #[v0,.bool true,.int .i64 i,.int .u64 lim,.int .u64 seen,.bool ok] 190)/\bR w' bm bc (L) (acc+1)/\eI [bt,bm,bc] w w' := by
 have k:=bq h;have q:=fun w' (M':bR w' bm bc L acc)=>tH w' bm bc L acc i seen ⟨seen+1,⟨#[]⟩,0⟩ M' ha0 ha
 simp only[hx,Bool.false_eq_true,if_false]at q;have Q:=aq3 q;clear q hx;go_enter Tryz.func162,Tryz.ntmps162
 go_wp2
 refine bQ 15 (by kernel_rfl) (by kernel_rfl) ?_
 simp only[List.take_succ_cons,List.take_zero,List.drop_succ_cons,List.drop_zero];repeat (go_big_quiet_step (fail))
 refine wpQuiet_nil ?_
 intro w1 hb;go_wp2_with fail
 refine(Q.out _ (M.same hb)).mono ?_
 rintro e w2 ⟨rfl,M2,hg⟩;have T2:=hg.blk (cE hb h) (by simp[h1,h2])
 have hg2:eI [bt,bm,bc] w w2:=(eI.of_below hb).trans (hg.mono (by simp))
 clear k h;have k:=bq T2;have kf:=dK T2;go_wp2
 go_ret;exact⟨rfl,T2,M2,hg2⟩
def aF (i lim:Int)(L:List aO)(s:iB):iB × List aO:=
 match s.pc with
 | 0=>(⟨if lim<=(ah L i).n then 2 else 1,(ah L i).n,s.ok⟩,L)
 | 1=>if bX L i s.seen then(⟨2,s.seen,true⟩,aP L i ⟨s.seen+1,⟨#[]⟩,0⟩)else(⟨0,s.seen,s.ok⟩,L)
 | _=>(s,L)
theorem Na (w:World)(bt bm bc:Nat)(i lim acc:Int)(s:iB)(L:List aO)(hT:ux w bt i lim s)(M:bR w bm bc L acc)(h1:bt≠bm)(h2:bt≠bc)(ha0:0<=acc)(ha:acc<=1000000000000)(hs:s.pc=1->0<=s.seen/\s.seen<18446744073709551615) :
  Calls Tryz.prog 212 #[.pointer (some ⟨bt,0,none⟩),.pointer (some ⟨bm,0,none⟩)] w fun e w' => e=.returned (.bool (decide (2<=(aF i lim L s).1.pc)))/\ux w' bt i lim (aF i lim L s).1/\bR w' bm bc (aF i lim L s).2 (if 2<=s.pc then acc else acc+1)/\eI [bt,bm,bc] w w' := by
 have Bz:∀(w1:World) (v0 v:Value) (seen:Int) (ok:Bool) (L':List aO) (a:Int),w1.heap[bt]?=some (.cells #[v0,.bool true,.int .i64 i,.int .u64 lim,.int .u64 seen,.bool ok] 190)->bR w1 bm bc L' a->eI [bt,bm,bc] w w1 ->
   (w1.setCell ⟨bt,0,none⟩ v).heap[bt]?=some (.cells #[v,.bool true,.int .i64 i,.int .u64 lim,.int .u64 seen,.bool ok] 190)/\bR (w1.setCell ⟨bt,0,none⟩ v) bm bc L' a/\eI [bt,bm,bc] w (w1.setCell ⟨bt,0,none⟩ v):=by
  intro w1 v0 v seen ok L' a hb hM hg;refine⟨?_,hM.keep (S:=[bt]) ((eI.refl _ _).setCell (.inl (by simp)) _) (by simp[Ne.symm h1]) (by simp[Ne.symm h2]),hg.setCell (.inl (by simp)) _⟩
  have:=cM hb 0 v;simpa using this
 obtain⟨pc,seen,ok⟩:=s;have hc:=bq hT 0;match pc,hs with
 | 0,_=>
  by_cases hx:lim<=(ah L i).n
  ·have e:aF i lim L ⟨0,seen,ok⟩=(⟨2,(ah L i).n,ok⟩,L):=by simp[aF,hx]
   have hcall:=yq w bt bm bc i lim seen acc _ ok L hT M h1 h2 ha0 ha hx;rw[e];clear hs;go_enter Tryz.func212,Tryz.ntmps212
   go_wp2_with fail
   refine(rH w bt bm _ ⟨bt,0,none⟩ rQ hc hcall (fun w1 hR=>⟨_,_,_,hR.1,rfl⟩)).mono ?_
   rintro e w' ⟨rfl,w1,⟨hb,hM,hg⟩,rfl⟩;go_wp2
   go_ret;exact⟨rfl,Bz _ _ _ _ _ _ _ hb hM hg⟩
  ·have e:aF i lim L ⟨0,seen,ok⟩=(⟨1,(ah L i).n,ok⟩,L):=by simp[aF,hx]
   have hcall:=Bv w bt bm bc i lim seen acc _ ok L hT M h1 h2 ha0 ha (by omega)
   rw[e];clear hs;go_enter Tryz.func212,Tryz.ntmps212
   go_wp2_with fail
   refine(tO w bt bm _ _ ⟨bt,0,none⟩ rQ hc hcall (fun w1 hR=>⟨_,_,_,hR.1,rfl⟩)).mono ?_
   rintro e w' ⟨rfl,w1,⟨hb,hM,hg⟩,rfl⟩;go_wp2
   go_ret;exact⟨rfl,Bz _ _ _ _ _ _ _ hb hM hg⟩
 | 1,hs=>
  obtain⟨s0,s1⟩:=hs rfl;by_cases hx:bX L i seen=true
  ·have e:aF i lim L ⟨1,seen,ok⟩=(⟨2,seen,true⟩,aP L i ⟨seen+1,⟨#[]⟩,0⟩):=by simp[aF,hx]
   have hcall:=yt w bt bm bc i lim seen acc _ ok L hT M h1 h2 ha0 ha s0 s1 hx;rw[e];clear hs hx;go_enter Tryz.func212,Tryz.ntmps212
   go_wp2_with fail
   refine(rH w bt bm _ ⟨bt,0,none⟩ rR hc hcall (fun w1 hR=>⟨_,_,_,hR.1,rfl⟩)).mono ?_
   rintro e w' ⟨rfl,w1,⟨hb,hM,hg⟩,rfl⟩;go_wp2
   go_ret;exact⟨rfl,Bz _ _ _ _ _ _ _ hb hM hg⟩
  ·have hx':bX L i seen=false:=by simpa using hx
   have e:aF i lim L ⟨1,seen,ok⟩=(⟨0,seen,ok⟩,L):=by simp[aF,hx']
   have hcall:=Bx w bt bm bc i lim seen acc _ ok L hT M h1 h2 ha0 ha s0 s1 hx';rw[e];clear hs hx hx';go_enter Tryz.func212,Tryz.ntmps212
   go_wp2_with fail
   refine(tO w bt bm _ _ ⟨bt,0,none⟩ rR hc hcall (fun w1 hR=>⟨_,_,_,hR.1,rfl⟩)).mono ?_
   rintro e w' ⟨rfl,w1,⟨hb,hM,hg⟩,rfl⟩;go_wp2
   go_ret;exact⟨rfl,Bz _ _ _ _ _ _ _ hb hM hg⟩
 | n+2,_=>
  have e:aF i lim L ⟨n+2,seen,ok⟩=(⟨n+2,seen,ok⟩,L):=rfl;rw[e];clear hs;go_enter Tryz.func212,Tryz.ntmps212
  go_wp2_with fail
  refine(p8 w bt bm hc).mono ?_
  rintro e w' ⟨rfl,rfl⟩;go_wp2
  go_ret;exact⟨by simp,hT,by simpa using M,eI.refl _ _⟩
theorem uy (w:World)(bt:Nat)(i lim:Int)(s:iB)(h:ux w bt i lim s)(hs:s.ok=true->0<=s.seen/\s.seen<18446744073709551615) :
  Calls Tryz.prog 101 #[.pointer (some ⟨bt,0,none⟩)] w fun e w' => e=.returned (.tuple #[.int .u64 (if s.ok then s.seen+1 else 0),.bool s.ok])/\w=w' := by
 obtain⟨pc,seen,ok⟩:=s;have k:=bq h;cases ok with
 | false=>
  clear hs;go_enter Tryz.func101,Tryz.ntmps101
  go_wp2
  go_ret2
  exact⟨rfl,rfl⟩
 | true=>
  obtain⟨s0,s1⟩:0<=seen/\seen<18446744073709551615:=hs rfl;clear hs;go_enter Tryz.func101,Tryz.ntmps101
  go_wp2
  go_ret2
  exact⟨rfl,rfl⟩
theorem Gt:Enters 212:=fun _ _=>by kernel_rfl
theorem rS (n : Nat) (a : Addr) (w : World) : (method (n + 1) 156 (.pointer (some a)) "Step").run Tryz.prog w = .ok (212, .pointer (some a)) w := by kernel_rfl
theorem yu (n : Nat) (a : Addr) (w : World) : (method (n + 1) 76 (.pointer (some a)) "Step").run Tryz.prog w = .ok (41, .pointer (some a)) w := by kernel_rfl
theorem qo (n : Nat) (a : Addr) (w : World) : (method (n + 1) 74 (.pointer (some a)) "Step").run Tryz.prog w = .ok (40, .pointer (some a)) w := by kernel_rfl
theorem Ca:Enters 41:=fun _ _=>by kernel_rfl
theorem Cb:Enters 40:=fun _ _=>by kernel_rfl
section
variable {K:aL}{w w':World}{c d:aC}{cs F:List aC}
def gL (b:Nat)(i lim:Int)(s:iB):aC:=blk b (.cells #[Sq b s.pc,.bool true,.int .i64 i,.int .u64 lim,.int .u64 s.seen,.bool s.ok] 190)
theorem uz {i lim:Int}(hs:St K w cs):Calls Tryz.prog 98 #[.int .i64 i,.int .u64 lim] w fun e w' => ∃b,e=.returned (.pointer (some ⟨b,0,none⟩))/\St K w' (gL b i lim ⟨0,0,false⟩::cs):=by
 refine(Bu w i lim).mono fun e w' ⟨he,hT,hb,hz⟩=>⟨_,he,?_⟩
 exact St.vD (ms:=[]) (ms' := [gL w.heap.size i lim ⟨0,0,false⟩]) (F:=cs) hs (eI.of_below hb) (fun x hx=>by simp at hx;subst hx;exact hT) (fun b hb=>by simp[cR,gL,blk]at hb;omega) (by simp[cR,gL,blk])
theorem rT {b bm bc:Nat}{i lim:Int}{L:List aO}{acc:Nat}{s:iB}(hs:St K w (gL b i lim s::aJ bm bc L acc::F))(ha:acc<=1000000000000)(h1:s.pc=1->0<=s.seen/\s.seen<18446744073709551615) :
  Calls Tryz.prog 212 #[.pointer (some ⟨b,0,none⟩),.pointer (some ⟨bm,0,none⟩)] w fun e w' => e=.returned (.bool (decide (2<=(aF i lim L s).1.pc)))/\St K w' (gL b i lim (aF i lim L s).1::aJ bm bc (aF i lim L s).2 (if 2<=s.pc then acc else acc+1)::F):=by
 have hne:=St.aaQ (F:=F) hs;refine(Na w b bm bc i lim acc s L hs.head hs.adC hne.1 hne.2 (by omega) (by omega) h1).mono fun e w' ⟨he,hT,hM,hg⟩=>⟨he,?_⟩
 refine hs.ag0 (by simpa[gL,blk,aJ] using hg) hT ?_ rfl rfl
 show bR _ _ _ _ _
 by_cases h2:2<=s.pc
 ·rw[if_pos h2]at hM ⊢;exact hM
 ·rw[if_neg h2]at hM ⊢;exact_mod_cast hM
theorem kK {b:Nat}{i lim:Int}{s:iB}(h:ux w b i lim s)(hb:s.ok=true->0<=s.seen/\s.seen<18446744073709551615) :
  Calls Tryz.prog 101 #[.pointer (some ⟨b,0,none⟩)] w fun e w' => e=.returned (.tuple #[.int .u64 (if s.ok then s.seen+1 else 0),.bool s.ok])/\w=w' := uy w b i lim s h hb
end
end
end Go.Proofs.YtlpdhhhgckpcfaaGreat
