
/- slices.Grow of nothing, slices.akA and slices.Concat at slots. page.Insert and page.Split. keys.Md and page.Split. -/
import Derived.Test.YtlpdhhhgckpcfaaGreatKeys
import Derived.Test.YtlpdhhhgckpcfaaGreatGrA
import Derived.Test.YtlpdhhhgckpcfaaGreatPageA
namespace Go.Proofs.YtlpdhhhgckpcfaaGreat
set_option maxHeartbeats 16000000
open Go.RowKit
set_option maxRecDepth 100000
theorem St.wO {K:aK}{w:World}{F:List aB}{a:Option Addr}{n cap:Nat}{T:TypeId}{size:Nat}{xs:List Value}(h:St K w (ak (.slice a n cap) T size n xs::F)):(a=none/\n=0/\cap=0)\/(∃ g,a=some ⟨g,0,none⟩/\n<=cap):=by
 obtain⟨hl,k⟩:=h.head;rcases k with⟨hv,h0⟩|⟨g,cap',cur,hv,hB,hc,h1,h2,h3,h4⟩
 ·simp only[Value.slice.injEq]at hv
  exact .inl ⟨hv.1,h0,hv.2.2⟩
 ·simp only[Value.slice.injEq]at hv
  exact .inr ⟨g,hv.1,by omega⟩
theorem qO {P:Program}(w:World)(t u ty e:TypeId)(i:TypeInfo)(z:Value)(size bytes:Nat)(ht:P.underlying t=some (.slice e))(hu:P.underlying u=some (.int .i64))(hi:P.info? e=some i)(hz:i.zero=some z)(hsize:i.size=size)(hby:i.bytes=bytes)(hzs:z.cells.size=size)(hsz:0<size)(hb:bytes<=64)(n:Nat)(h0:0<n)(hn:n<=1000000) :
  ∃ c w' cur,(Builtin.append_ #[t,u] ty #[.slice none 0 0,.int .i64 n]).run P w=.ok (.slice (some ⟨w.heap.size,0,none⟩) n c) w' /\ n<=c/\c<=maxLen/\w'.heap[w.heap.size]?=some (.cells cur e (0,0))/\cur.size=c*size/\w.grownBy w' none:=by
 subst hsize;subst hby;have hge:=grownCap_ge w n 0 e;have hcm:grownCap w n 0 e<=maxLen:=grownCap_le_maxLen w n 0 e (by unfold maxLen;omega)
 have hw:IntKind.i64.wrap (n:Int)=n:=by rw[IntKind.wrap_i64];omega
 have h1:¬ ((n:Int)<0):=by omega
 have hmul:n*i.bytes<=1000000*64:=Nat.mul_le_mul hn hb;have h2:¬ (281474976710656<(n:Int)*(i.bytes:Int)):=by
  have:(n:Int)*(i.bytes:Int)=((n*i.bytes:Nat):Int):=by rw[Int.natCast_mul]
  rw[this];omega
 have h3:¬ (9223372036854775807<(n:Int)):=by omega
 have h4:¬ (281474976710656<Builtin.nextslicecap n 0*i.bytes):=by rw[nextslicecap_zero h0];omega
 have h5:¬ (n*i.size=0):=by
  have:=Nat.mul_pos h0 hsz;omega
 have h6:n≠0:=by omega
 refine⟨grownCap w n 0 e,w.drew.alloc (.cells (Builtin.zeroCells z.cells n++Builtin.zeroCells z.cells (grownCap w n 0 e-n)) e),_,?_,hge,hcm,heap_alloc_new w.drew _,?_,⟨rfl,rfl,rfl,by simp,fun k hk _=>heap_alloc_old w.drew _ hk⟩⟩
 ·simp[Builtin.append_,run_underlying ht,run_underlying hu,sizeOf,typeInfo,zeroValue,hi,hz,hw,h1,h2,h3,h4,h5,h6,asInt,asIntOf,Builtin.firstCells,Question.forced,newRow,grownCap]
 ·simp only[Array.size_append,size_zeroCells,hzs,← Nat.add_mul]
  congr 1
  omega
section
variable {K:aK}{w:World}{F:List aB}
theorem St.aaO {w':World}{c:aB}(hs:St K w F)(hg:w.grownBy w' none)(hc:c.ok w')(hf:∀ b,b∈c.foot->b=w.heap.size)(hn:c.foot.Nodup):St K w' (c::F):=by
 refine St.y7 (ms:=[]) (ms' := [c]) (F:=F) hs ⟨hg.os,hg.tape,hg.output,hg.size,fun k hk hn=>hg.block k hk (by simp)⟩ (fun c' hc' =>?_) (fun b hb=>?_) ?_
 ·simp at hc';subst hc';exact hc
 ·right
  have:=hf b (by simpa[cQ] using hb)
  omega
 ·simpa[cQ] using hn
theorem sg {ops:Array Oper}{rest:List Oper}{o:Oper}{a:Act}{Q:Exit->Act->World->Prop}(s x:Operand)(t u e:TypeId)(i:TypeInfo)(z:Value)(size bytes n:Nat)(hs:St K w F)
  (hgd:o.guard=none) (ho:o.op=.call { callee:= .builtin .append,args:= #[s,x],argTypes:= #[t,u] })
  (ht:Tryz.prog.underlying t=some (.slice e)) (hu:Tryz.prog.underlying u=some (.int .i64)) (hi:Tryz.prog.info? e=some i) (hz:i.zero=some z) (hsize:i.size=size) (hby:i.bytes=bytes) (hzs:z.cells.size=size) (hsz:0<size) (hb:bytes<=64) (h0:0<n) (hn:n<=1000000)
  (hes:a.eval s=.slice none 0 0) (hx:a.eval x=.int .i64 n)
  (h:∀ g c w',n<=c->St K w' (ak (.slice (some ⟨g,0,none⟩) 0 c) e size 0 []::F)->wpList Tryz.prog ops Q rest (a.put o.dst (.slice (some ⟨g,0,none⟩) n c)) w'):wpList Tryz.prog ops Q (o::rest) a w:=by
 obtain⟨c,w',cur,hr,hge,hcm,adx,hcs,hg⟩:=qO (P:=Tryz.prog) w t u o.type e i z size bytes ht hu hi hz hsize hby hzs hsz hb n h0 hn;have hs':St K w' (ak (.slice (some ⟨w.heap.size,0,none⟩) 0 c) e size 0 []::F):=
  hs.aaO hg ⟨by simp,.inr ⟨w.heap.size,c,cur,rfl,Nat.zero_le _,adx,Nat.zero_le _,hcm,hcs,by simp⟩⟩ (fun b hb=>by simpa[ak,Value.ownBlock] using hb) (by simp[ak,Value.ownBlock])
 refine wpList_plain hgd fun K' hK=>?_
 unfold Oper.wp execOp;simp only[ho,resolve,invoke,builtin,Sem.run_bind,Sem.run_pure,Result.andThen_ok,List.map_toArray,List.map_cons,List.map_nil,hes,hx,hr];exact hK _ _ (h _ c w' hge hs')
theorem si {ops:Array Oper}{rest:List Oper}{o:Oper}{a:Act}{Q:Exit->Act->World->Prop}(s x:Operand)(t e:TypeId)(i:TypeInfo)(z:Value)(size bytes m c:Nat)(b ad:Addr)(news:List Value)(hs:St K w F)
  (hgd:o.guard=none) (ho:o.op=.call { callee:= .builtin .append,args:= #[s,x],argTypes:= #[t,t] })
  (ht:Tryz.prog.underlying t=some (.slice e)) (hi:Tryz.prog.info? e=some i) (hz:i.zero=some z) (hsize:i.size=size) (hby:i.bytes=bytes) (hzs:z.cells.size=size) (hsz:0<size) (Pc:bytes<=64) (h0:0<m) (hn:m<=1000000)
  (hes:a.eval s=.slice (some b) 0 0) (hx:a.eval x=.slice (some ad) m c) (hl:news.length=m*size) (hnews:∀ j u,news[j]?=some u->w.cell? (ad.add j)=some u)
  (h:∀ v' w',St K w' (ak v' e size m news::F)->wpList Tryz.prog ops Q rest (a.put o.dst v') w'):wpList Tryz.prog ops Q (o::rest) a w:=by
 have hbytes:(0+m)*bytes<=140737488355328:=by
  calc (0+m)*bytes<=1000000*64:=Nat.mul_le_mul (by omega) Pc
   _<=140737488355328:=by decide
 obtain⟨v',w',hr,hown,hg⟩:=run_append_arg_grows (P:=Tryz.prog) (w:=w) t o.type e i z size bytes ht hi hz hsize hby hzs hsz b 0 0 [] (by simp) (fun j u hj=>by simp at hj) ad m c news hl hnews (by omega) (by unfold maxLen;omega) hbytes
 simp only[List.nil_append,Nat.zero_add]at hown;have hs':St K w' (ak v' e size m news::F):=by
  obtain⟨h1,h2⟩:=hown;rcases h2 with⟨_,h2⟩|⟨g,cap,cur,hv,hgb,hc,r⟩
  ·omega
  ·have hlt:g<w'.heap.size:=gY hc
   refine hs.new (ms:=[ak v' e size m news]) ⟨hg.os,hg.tape,hg.output,hg.size,fun k hk=>hg.block k hk (by simp)⟩ (fun c' hc' =>?_) (fun b' hb' =>?_) ?_
   ·simp at hc';subst hc'
    exact⟨h1,.inr ⟨g,cap,cur,hv,Nat.zero_le _,hc,r⟩⟩
   ·rw[hv]at hb'
    simp[cQ,ak,Value.ownBlock]at hb';omega
   ·rw[hv];simp[cQ,ak,Value.ownBlock]
 refine wpList_plain hgd fun K' hK=>?_
 unfold Oper.wp execOp;simp only[ho,resolve,invoke,builtin,Sem.run_bind,Sem.run_pure,Result.andThen_ok,List.map_toArray,List.map_cons,List.map_nil,hes,hx,hr];exact hK _ _ (h v' w' hs')
theorem Me (n:Nat)(hn:n<=1000000)(hs:St K w F) :
  Calls Tryz.prog 161 #[.slice none 0 0,.int .i64 n] w fun e w' => ∃ a c,e=.returned (.slice a 0 c)/\St K w' (ak (.slice a 0 c) 69 2 0 []::F):=by
 by_cases h0:0<n
 ·obtain⟨iv,cZ,dc,dg,dh⟩:=info_parts gR
  have lC:=aqo cZ;have lD:=aqo dc;have lF:=aqo dg;have lG:=aqo dh;clear cZ dc dg dh;have Hs:=aqo hs;clear hs;go_enter Tryz.func161,Tryz.ntmps161
  go_wp2_with (at_builtin;refine sg _ _ 41 3 69 iv (.agg #[.string ⟨#[]⟩,.int .u64 0]) 2 24 n Hs.out rfl rfl Tryz.underlying41 Tryz.underlying3 lC.out lD.out lF.out lG.out rfl (by decide) (by decide) h0 hn rfl rfl ?_)
  intro g c w' hc hs;go_wp2
  go_ret;exact⟨_,_,rfl,hs⟩
 ·obtain rfl:n=0:=by omega
  go_enter Tryz.func161,Tryz.ntmps161
  go_wp2
  go_ret;exact⟨none,0,rfl,hs.cD⟩
theorem Mf (ad:Addr)(n cap:Nat)(w:World):(binOp .eql 41 (.slice (some ad) n cap) (.slice none 0 0)).run Tryz.prog w=.ok (.bool false) w:=by kernel_rfl
theorem ud {ad:Addr}{cap:Nat}{l:List Sl}(hl:eo w (some ad) l)(hn:0<l.length)(hn2:l.length<=1000000)(hs:St K w F) :
  Calls Tryz.prog 164 #[.slice (some ad) l.length cap] w fun e w' => ∃ a' c,e=.returned (.slice a' l.length c)/\St K w' (ak (.slice a' l.length c) 69 2 l.length (aD l)::F):=by
 obtain⟨iv,cZ,dc,dg,dh⟩:=info_parts gR;have lC:=aqo cZ;have lD:=aqo dc;have lF:=aqo dg;have lG:=aqo dh;clear cZ dc dg dh;have Hs:=aqo (hs.pass (.cells #[] 69));have hl:=hl.same ((Below.refl w.heap.size w).alloc (Nat.le_refl _) (.cells #[] 69));have En:=aqo (fE l);have Rj:Hid (∀ j u,(aD l)[j]?=some u->(w.alloc (.cells #[] 69)).cell? (ad.add j)=some u):=aqo (fun j u hu=>by
  obtain⟨g,off,e,hc⟩:=hl.news j u hu;simp only[Option.some.injEq]at e;subst e;have:(⟨g,off,none⟩:Addr).add j=⟨g,off+j,none⟩:=by
   unfold Addr.add;split
   ·rename_i h;rw[h];rfl
   ·rfl
  rw[this];exact hc)
 clear hs hl;have hq:=Mf ad l.length cap w;go_enter Tryz.func164,Tryz.ntmps164
 go_wp2_with (at_builtin;refine si _ _ 41 69 iv (.agg #[.string ⟨#[]⟩,.int .u64 0]) 2 24 l.length cap ⟨w.heap.size,0,none⟩ ad (aD l) Hs.out rfl rfl Tryz.underlying41 lC.out lD.out lF.out lG.out rfl (by decide) (by decide) hn hn2 rfl rfl En.out Rj.out ?_)
 intro v' w' hs;obtain⟨a',c',rfl,_,_⟩:=hs.aF;go_wp2
 go_ret;exact⟨_,_,rfl,hs⟩
def iP (X:Nat->List Sl):Nat->List Sl
 | 0=>[]
 | i+1=>iP X i++X i
theorem Av {X:Nat->List Sl}{k:Nat}(h:∀ i,i<k->(X i).length<=1000):∀ j,j<=k->(iP X j).length<=j*1000
 | 0,_=>Nat.le_refl _
 | j+1,hj=>by
  have h1:=Av h j (by omega)
  have h2:=h j (by omega)
  show(iP X j++X j).length<=_
  rw[List.length_append];omega
theorem nB {bs:Nat}{A:Nat->Option Addr}{C:Nat->Nat}{X:Nat->List Sl}(k:Nat)(hk:k<=3)(hlen:∀ i,i<k->(X i).length<=1000)
  (hsrc:∀ W R,St K W (R++F)->∀ i,i<k->eo W (A i) (X i)/\W.cell? ⟨bs,i,none⟩=some (.slice (A i) (X i).length (C i))) (hs:St K w F) :
  Calls Tryz.prog 132 #[.slice (some ⟨bs,0,none⟩) k k] w fun e w' => ∃ a c,e=.returned (.slice a (iP X k).length c)/\St K w' (ak (.slice a (iP X k).length c) 69 2 (iP X k).length (aD (iP X k))::F):=by
 obtain⟨iv,cZ,dc,dg,dh⟩:=info_parts gR;have lC:=aqo cZ;have lD:=aqo dc;have lF:=aqo dg;have lG:=aqo dh;have ady:=aqo hsrc;have En:=aqo (Av hlen);have Hl:=aqo hlen;clear cZ dc dg dh hsrc hlen;go_enter Tryz.func132,Tryz.ntmps132
 go_wp2_with fail
 go_loopw [3,5,11] (fun v3 _ v11 wr=>∃ j:Nat,j<=k/\v3=.int .i64 ((iP X j).length:Nat)/\v11=.int .i64 j/\St K wr F) (fun _ _ v11 _=>k-(intOf v11).toNat)
 case atStart=>exact⟨0,by omega,rfl,rfl,hs⟩
 case round=>
  clear hs;obtain⟨j,hj,rfl,rfl,hs⟩:=hrel;by_cases hjk:j<k
  ·obtain⟨_,c0⟩:=ady.out wr [] hs j hjk
   have h1:=En.out j (by omega)
   have h2:=Hl.out j hjk;have e:(iP X (j+1)).length=(iP X j).length+(X j).length:=by show(iP X j++X j).length=_;rw[List.length_append]
   have E:=aqo e;have hw:wrap64 (((iP X j).length:Int)+((X j).length:Int))=((iP X j).length:Int)+((X j).length:Int):=by unfold wrap64;omega
   clear e;go_wp2
   go_roundw
   case rel=>exact⟨j+1,by omega,by rw[E.out];go_num,by go_num,hs⟩
   case measure=>simp[intOf];omega
  ·obtain rfl:j=k:=by omega
   have h1:=En.out j (by omega)
   have q:=Me (iP X j).length (by omega) hs
   have Q:=aqo q;clear q hs;go_wp2_with fail
   refine(Q.out).mono ?_
   rintro e w2 ⟨a,c,rfl,hs⟩;clear Q hjk hj;go_wp2_with fail
   go_loopw [6,8,27] (fun v6 _ v27 wr=>∃ (i:Nat) (a:Option Addr) (c:Nat),i<=j/\v6=.slice a (iP X i).length c/\v27=.int .i64 i/\St K wr (ak (.slice a (iP X i).length c) 69 2 (iP X i).length (aD (iP X i))::F)) (fun _ _ v27 _=>j-(intOf v27).toNat)
   case atStart=>exact⟨0,a,c,by omega,rfl,rfl,hs⟩
   case round=>
    clear hs;obtain⟨i,a,c,hi,rfl,rfl,hs⟩:=hrel;by_cases hij:i<j
    ·obtain⟨fj,c0⟩:=ady.out wr [_] hs i hij
     have h2:=En.out i (by omega)
     have h3:=Hl.out i hij;have H0:Hid (A i=none->(X i).length=0):=aqo (fun e=>by rw[e]at fj;rw[fj.no];rfl)
     have Rj:=aqo fj.news;have ahq:=aqo (kU (X i));have Hxl:=aqo (fE (X i));have E:Hid (aD (iP X (i+1))=aD (iP X i)++aD (X i)/\(iP X (i+1)).length=(iP X i).length+(X i).length):=aqo ⟨by show aD (iP X i++X i)=_;simp[aD],by show(iP X i++X i).length=_;rw[List.length_append]⟩
     have Hs:=aqo hs;clear hs fj;go_wp2_with (at_builtin;refine cF _ _ 41 69 _ (iP X i).length (X i).length (C i) 2 24 _ (aD (X i)) (.agg #[.string ⟨#[]⟩,.int .u64 0]) iv (A i) Hs.out rfl rfl Tryz.underlying41 lC.out lD.out lF.out lG.out rfl (by decide) rfl rfl Hxl.out H0.out Rj.out ahq.out (by omega) (by decide) ?_)
     intro v' w' hs;rw[← E.out.1,← E.out.2]at hs;obtain⟨a',c',hv,_,_⟩:=hs.aF;subst hv;clear c0;go_wp2
     go_roundw
     case rel=>exact⟨i+1,a',c',by omega,rfl,by go_num,hs⟩
     case measure=>simp[intOf];omega
    ·obtain rfl:i=j:=by omega
     go_wp2
     go_ret;exact⟨a,c,rfl,hs⟩
end
def eP (l:List Sl)(key:ByteArray)(r:Int):List Sl:=l.take (gM l key)++⟨key,r⟩::l.drop (gM l key)
def aZ (pg:Pg)(key:ByteArray)(r:Int):Pg:=⟨pg.az,eP pg.sl key r,pg.hi,pg.la,pg.ri⟩
theorem fG (l:List Sl)(key:ByteArray)(r:Int):(eP l key r).length=l.length+1:=by
 have:=tR l key;unfold eP;rw[List.length_append,List.length_cons,List.length_take,List.length_drop];omega
theorem eo.take {W:World}{a:Option Addr}{l:List Sl}(h:eo W a l)(k:Nat):eo W a (l.take k):=by
 refine⟨by rw[List.length_take];have:=h.1;omega,fun i s hs=>h.2 i s ?_⟩
 rw[List.getElem?_take]at hs;split at hs
 ·exact hs
 ·cases hs
theorem eo.drop {W:World}{g:Nat}{l:List Sl}(h:eo W (some ⟨g,0,none⟩) l)(k:Nat):eo W (some ⟨g,k*2,none⟩) (l.drop k):=by
 refine⟨by rw[List.length_drop];have:=h.1;omega,fun i s hs=>?_⟩
 rw[List.getElem?_drop]at hs;obtain⟨b,off,e,h1,h2,h3⟩:=h.2 (k+i) s hs;simp only[Option.some.injEq,Addr.mk.injEq,and_true]at e;obtain⟨rfl,rfl⟩:=e;refine⟨g,k*2,rfl,h1,?_,?_⟩
 ·rw[← h2];congr 2;omega
 ·rw[← h3];congr 2;omega
theorem eo.nil {W:World}{a:Option Addr}:eo W a []:=⟨by simp,fun i s hs=>by simp at hs⟩
theorem eo.one {K:aK}{W:World}{F:List aB}{b:Nat}{key:ByteArray}{r:Int}(h:St K W (blk b (.cells #[.string key,.int .u64 r] 69)::F)):eo W (some ⟨b,0,none⟩) [⟨key,r⟩]:=by
 refine⟨by simp,fun i s hs=>?_⟩
 cases i with
 | zero=>
  simp at hs;subst hs;exact⟨b,0,rfl,h.n0,h.k0 0,h.k0 1⟩
 | succ i=>simp at hs
def oB (K:aK)(REST:List aB)(bp:Nat)(pg lH:Pg)(va v0 v2:Value)(key:ByteArray)(r:Int)(N:Nat)(ρ:Nat->Option Value)(W:World):Prop:=
 ∃ (b7 qD:Nat) (an:Option Addr) (cn:Nat),(∀ v,ρ 7=some v->v=.slice (some ⟨b7,0,none⟩) 1 1)/\(∀ v,ρ 12=some v->v=.slice (some ⟨qD,0,none⟩) 3 3)/\(∀ v,ρ 13=some v->v=.slice an N cn) /\
  St K W (dA (ρ 7) (blk b7 (.cells #[.string key,.int .u64 r] 69))::dA (ρ 12) (blk qD (.cells #[v0,.slice (some ⟨b7,0,none⟩) 1 1,v2] 41))::dA (ρ 13) (ak (.slice an N cn) 69 2 N (aD lH.sl)) ::
   blk bp (.cells (if (ρ 15).isSome then #[.int .i64 (lH).az,(.slice an N cn),.string (lH).hi,.bool (lH).la,.int .u64 (lH).ri]else #[.int .i64 (pg).az,va,.string (pg).hi,.bool (pg).la,.int .u64 (pg).ri]) 43)::REST)
section
variable {K:aK}{REST:List aB}{bp:Nat}{pg lH:Pg}{va v0 v2:Value}{key:ByteArray}{r:Int}{N:Nat}{ρ:Nat->Option Value}{W:World}{v7 v12 v13:Value}
theorem oB.start (hs:St K W (blk bp (.cells #[.int .i64 (pg).az,va,.string (pg).hi,.bool (pg).la,.int .u64 (pg).ri] 43)::REST)):oB K REST bp pg lH va v0 v2 key r N (fun _=>none) W:=
 ⟨0,0,none,0,fun v h=>(by cases h),fun v h=>(by cases h),fun v h=>(by cases h),hs.empty.empty.empty⟩
theorem oB.same {W':World}(h:oB K REST bp pg lH va v0 v2 key r N ρ W)(hb:Below W.heap.size W W'):oB K REST bp pg lH va v0 v2 key r N ρ W' := by
 obtain⟨b7,qD,an,cn,e1,e2,e3,hs⟩:=h;exact⟨b7,qD,an,cn,e1,e2,e3,hs.same hb⟩
theorem oB.page (h:oB K REST bp pg lH va v0 v2 key r N ρ W)(cX:ρ 15=none):St K W (blk bp (.cells #[.int .i64 (pg).az,va,.string (pg).hi,.bool (pg).la,.int .u64 (pg).ri] 43)::REST):=by
 obtain⟨b7,qD,an,cn,e1,e2,e3,hs⟩:=h;rw[cX]at hs;exact hs.tail.tail.tail
theorem oB.e7 (h:oB K REST bp pg lH va v0 v2 key r N ρ W)(h7:ρ 7=none)(dr:ρ 12=none):oB K REST bp pg lH va v0 v2 key r N (upd ρ 7 (.slice (some ⟨W.heap.size,0,none⟩) 1 1)) (W.alloc (.cells #[.string key,.int .u64 r] 69)):=by
 obtain⟨b7,qD,an,cn,e1,e2,e3,hs⟩:=h;rw[h7,dr]at hs;refine⟨W.heap.size,qD,an,cn,fun v h=>by simpa[upd] using h.symm,fun v h=>?_,fun v h=>e3 v (by simpa[upd] using h),?_⟩
 ·have:ρ 12=some v:=by simpa[upd] using h
  rw[dr]at this;cases this
 ·have:St K (W.alloc (.cells #[.string key,.int .u64 r] 69)) (dA (some (.slice (some ⟨W.heap.size,0,none⟩) 1 1)) (blk W.heap.size (.cells #[.string key,.int .u64 r] 69))::dA none (blk qD (.cells #[v0,.slice (some ⟨W.heap.size,0,none⟩) 1 1,v2] 41))::_):=hs.tail.made (.cells #[.string key,.int .u64 r] 69)
  simpa[upd,dr] using this
theorem oB.wP (h:oB K REST bp pg lH va v0 v2 key r N ρ W)(h7:ρ 7=some v7)(dr:ρ 12=none):∃ b7:Nat,v7=.slice (some ⟨b7,0,none⟩) 1 1 /\
  oB K REST bp pg lH va v0 v2 key r N (upd ρ 12 (.slice (some ⟨W.heap.size,0,none⟩) 3 3)) (W.alloc (.cells #[v0,.slice (some ⟨b7,0,none⟩) 1 1,v2] 41)):=by
 obtain⟨b7,qD,an,cn,e1,e2,e3,hs⟩:=h;rw[dr]at hs;refine⟨b7,e1 v7 h7,b7,W.heap.size,an,cn,fun v h=>e1 v (by simpa[upd] using h),fun v h=>by simpa[upd] using h.symm,fun v h=>e3 v (by simpa[upd] using h),?_⟩
 have h2:St K W (gK::dA (ρ 7) (blk b7 (.cells #[.string key,.int .u64 r] 69))::_):=hs.b1;have h3:=(h2.tail.made (.cells #[v0,.slice (some ⟨b7,0,none⟩) 1 1,v2] 41)).b1;have:St K (W.alloc (.cells #[v0,.slice (some ⟨b7,0,none⟩) 1 1,v2] 41)) (dA (ρ 7) (blk b7 (.cells #[.string key,.int .u64 r] 69))::dA (some (.slice (some ⟨W.heap.size,0,none⟩) 3 3)) (blk W.heap.size (.cells #[v0,.slice (some ⟨b7,0,none⟩) 1 1,v2] 41))::_):=h3;simpa[upd] using this
theorem oB.Wn (h:oB K REST bp pg lH va v0 v2 key r N ρ W)(h7:ρ 7=some v7)(dr:ρ 12=some v12)(dS:ρ 13=none)(cX:ρ 15=none):∃ b7 qD:Nat,v12=.slice (some ⟨qD,0,none⟩) 3 3 /\
  St K W (blk b7 (.cells #[.string key,.int .u64 r] 69)::blk qD (.cells #[v0,.slice (some ⟨b7,0,none⟩) 1 1,v2] 41)::blk bp (.cells #[.int .i64 (pg).az,va,.string (pg).hi,.bool (pg).la,.int .u64 (pg).ri] 43)::REST) /\
  ∀ (an:Option Addr) (cn:Nat) W',St K W' (ak (.slice an N cn) 69 2 N (aD lH.sl)::blk b7 (.cells #[.string key,.int .u64 r] 69)::blk qD (.cells #[v0,.slice (some ⟨b7,0,none⟩) 1 1,v2] 41)::blk bp (.cells #[.int .i64 (pg).az,va,.string (pg).hi,.bool (pg).la,.int .u64 (pg).ri] 43)::REST)->oB K REST bp pg lH va v0 v2 key r N (upd ρ 13 (.slice an N cn)) W' := by
 obtain⟨b7,qD,an,cn,e1,e2,e3,hs⟩:=h;rw[h7,dr,dS,cX]at hs;have hs:St K W (blk b7 (.cells #[.string key,.int .u64 r] 69)::blk qD (.cells #[v0,.slice (some ⟨b7,0,none⟩) 1 1,v2] 41)::gK::blk bp (.cells #[.int .i64 (pg).az,va,.string (pg).hi,.bool (pg).la,.int .u64 (pg).ri] 43)::REST):=hs;refine⟨b7,qD,e2 v12 dr,(hs.re [2,0,1,3] rfl).tail,fun an' cn' W' hs' => ⟨b7,qD,an',cn',fun v h=>e1 v (by simpa[upd] using h),fun v h=>e2 v (by simpa[upd] using h),fun v h=>by simpa[upd] using h.symm,?_⟩⟩
 have:St K W' (dA (some v7) (blk b7 (.cells #[.string key,.int .u64 r] 69))::dA (some v12) (blk qD (.cells #[v0,.slice (some ⟨b7,0,none⟩) 1 1,v2] 41))::dA (some (.slice an' N cn')) (ak (.slice an' N cn') 69 2 N (aD lH.sl))::blk bp (.cells #[.int .i64 (pg).az,va,.string (pg).hi,.bool (pg).la,.int .u64 (pg).ri] 43)::REST):=hs'.re [1,2,0,3] rfl;simpa[upd,h7,dr,cX] using this
theorem oB.Mc (h:oB K REST bp pg lH va v0 v2 key r N ρ W)(dS:ρ 13=some v13)(cX:ρ 15=none):∃ (an:Option Addr)(cn:Nat)(R':List aB),v13=.slice an N cn/\St K W (blk bp (.cells #[.int .i64 (pg).az,va,.string (pg).hi,.bool (pg).la,.int .u64 (pg).ri] 43)::R') /\
  ∀ W',St K W' (blk bp (.cells #[.int .i64 (lH).az,(.slice an N cn),.string (lH).hi,.bool (lH).la,.int .u64 (lH).ri] 43)::R')->oB K REST bp pg lH va v0 v2 key r N (upd ρ 15 undef) W' := by
 obtain⟨b7,qD,an,cn,e1,e2,e3,hs⟩:=h;rw[cX]at hs;refine⟨an,cn,_,e3 v13 dS,hs.b3,fun W' hs' => ⟨b7,qD,an,cn,fun v h=>e1 v (by simpa[upd] using h),fun v h=>e2 v (by simpa[upd] using h),fun v h=>e3 v (by simpa[upd] using h),?_⟩⟩
 have:=hs'.u3;simpa[upd] using this
theorem oB.last (h:oB K REST bp pg lH va v0 v2 key r N ρ W)(hall:∀ e,e∈[7,12,13,15]->(ρ e).isSome=true):∃ (an:Option Addr)(cn:Nat),ρ 13=some (.slice an N cn)/\(∃ v,ρ 7=some v)/\(∃ v,ρ 12=some v)/\(∃ v,ρ 15=some v) /\
  St K W (ak (.slice an N cn) 69 2 N (aD lH.sl)::blk bp (.cells #[.int .i64 (lH).az,(.slice an N cn),.string (lH).hi,.bool (lH).la,.int .u64 (lH).ri] 43)::REST):=by
 obtain⟨v7,h7⟩:=aqr.1 (hall 7 (by simp))
 obtain⟨v12,dr⟩:=aqr.1 (hall 12 (by simp))
 obtain⟨v13,dS⟩:=aqr.1 (hall 13 (by simp))
 obtain⟨v15,cX⟩:=aqr.1 (hall 15 (by simp))
 obtain⟨b7,qD,an,cn,e1,e2,e3,hs⟩:=h;rw[h7,dr,dS,cX]at hs;exact⟨an,cn,by rw[dS,e3 v13 dS],⟨v7,h7⟩,⟨v12,dr⟩,⟨v15,cX⟩,hs.tail.tail⟩
end
theorem jS (tmps:Array Value)(w:World)(b:Nat)(v0 v1 v2 v3 v4 u:Value)(hp:tmps[6]?=some (.pointer (some ⟨b,0,none⟩)))(hq:tmps[7]?=some u)(hk:∀ k,w.cell? ⟨b,k,none⟩=(#[v0,v1,v2,v3,v4]:Array Value)[k]?) :
  (results Tryz.f95 tmps).run Tryz.prog w=.ok (.tuple #[.agg #[v0,v1,v2,v3,v4],u]) w:=by
 simp[results,Tryz.results95,go_sem,hp,hq,hk]
theorem oB.qP {K:aK}{REST:List aB}{bp:Nat}{pg lH:Pg}{va v0 v2:Value}{key:ByteArray}{r:Int}{N:Nat}{ρ:Nat->Option Value}{W:World}(h:oB K REST bp pg lH va v0 v2 key r N ρ W)(e:Nat)(he:e=1\/e=9)(v:Value):oB K REST bp pg lH va v0 v2 key r N (upd ρ e v) W:=by
 rcases he with rfl|rfl
 ·simpa[oB,upd] using h
 ·simpa[oB,upd] using h
theorem vz {K:aK}{w:World}{F:List aB}{pg:Pg}{g:Nat}{lo n cap:Nat}{key:ByteArray}{r:Int}(h1:lo<=n)(h2:n<=cap)(h3:lo<cap)(hn:n=pg.sl.length)(hlo:lo=gM pg.sl key)(hno:decide (gM pg.sl key<je pg.sl key)=false)(dF:kV pg.sl)(xV:n<=100)
  (hs:St K w (ak (.slice (some ⟨g,0,none⟩) n cap) 69 2 n (aD pg.sl)::F)) :
  Calls Tryz.prog 95 #[(.agg #[.int .i64 (pg).az,(.slice (some ⟨g,0,none⟩) n cap),.string (pg).hi,.bool (pg).la,.int .u64 (pg).ri]),.string key,.int .u64 r] w fun e w' => ∃ a' c',e=.returned (.tuple #[(.agg #[.int .i64 ((aZ pg key r)).az,(.slice a' (n+1) c'),.string ((aZ pg key r)).hi,.bool ((aZ pg key r)).la,.int .u64 ((aZ pg key r)).ri]),.bool true])/\St K w' (ak (.slice a' (n+1) c') 69 2 (n+1) (aD (aZ pg key r).sl)::ak (.slice (some ⟨g,0,none⟩) n cap) 69 2 n (aD pg.sl)::F):=by
 have hs:=(hs.made (.cells #[.int .i64 (pg).az,(.slice (some ⟨g,0,none⟩) n cap),.string (pg).hi,.bool (pg).la,.int .u64 (pg).ri] 43)).made (.cells #[.int .i64 0,.slice none 0 0,.string ⟨#[]⟩,.bool false,.int .u64 0] 43);rw[World.size_alloc]at hs;have sO:Hid (∀ W R,St K W (R++ak (.slice (some ⟨g,0,none⟩) n cap) 69 2 n (aD pg.sl)::F)->eo W (some ⟨g,0,none⟩) pg.sl):=aqo (fun W R h=>(h.right).cN (by omega))
 have q:=nk (cap:=cap) (key:=key) _ (sO.out _ [_,_] hs) dF;rw[hno,← hn,← hlo]at q;have Q:=aqo q;have Hn:=aqo hn;have Yr:=aqo hlo;clear q hno hn hlo dF;obtain⟨bp,mP⟩:∃ bp,bp=w.heap.size:=⟨_,rfl⟩;go_enter Tryz.func95,Tryz.ntmps95
 go_wp2_with fail
 refine(bE hs Q.out).mono ?_
 clear hs Q;rintro e w2 ⟨rfl,hs⟩;go_upto_region 4 with(fail)
 rw[← mP]at hs ⊢;have Hs:=aqo (hs.re [1,0] rfl);clear hs mP;refine cY [false,true,false,false,false,false,false,true,false,true,false,false,true,true,false,true] (fun|1=>some (.slice (some ⟨g,0,none⟩) n cap)|9=>some (.slice (some ⟨g,0,none⟩) n cap)|_=>none) [1,7,9,12,13,15] (fun|12=>[7] | 13=>[12] | 15=>[1,9,13] | _=>[])
  (oB K (blk (bp+1) (.cells #[.int .i64 0,.slice none 0 0,.string ⟨#[]⟩,.bool false,.int .u64 0] 43)::ak (.slice (some ⟨g,0,none⟩) n cap) 69 2 n (aD pg.sl)::F) bp pg (aZ pg key r) (.slice (some ⟨g,0,none⟩) n cap) (.slice (some ⟨g,0,none⟩) lo cap) (.slice (some ⟨g,lo*2,none⟩) (n-lo) (cap-lo)) key r (n+1))
  (fun _=>True) ?amw (by kernel_rfl) ?hBlt ?Hlt ?adA ?aht ?ahu ?ahv ?ahw ?ahx
 case hBlt=>as_aux_lemma=>kernel_rfl
 case Hlt=>
  intro W2 _;simp only[cM];repeat (go_big_quiet_step (fail))
  refine wpQuiet_nil ?_
  rfl
 case adA=>rfl
 case aht=>exact oB.start Hs.out
 case ahu=>exact fun ρ W2 h=>trivial
 case ahv=>exact fun ρ W2 W3 h hb=>h.same hb
 case ahw=>
  refine⟨?ahy,?ahz,?ahA,?adB,?adC,?adD,trivial⟩;case ahy=>
   intro o ho ρ W2 h hcl h1' hd2 af aC;obtain rfl:=aqu ho;replace aC:af=aj _ ρ [] _:=aC;have cX:ρ 15=none:=hcl.none (by simp) (show 1∈[1,9,13]by simp) h1'
   have kp:=(h.page cX).k0;have Hk:=aqo (h.qP 1 (.inl rfl));simp only[aj]at aC;subst aC;clear h hcl hd2 h1' cX;go_wp2
   exact⟨rfl,_,rfl,fun u hu=>aqu hu,Hk.out _⟩
  case ahA=>
   intro o ho ρ W2 h hcl h1' hd2 af aC;obtain rfl:=aqu ho;replace aC:af=aj _ ρ [] _:=aC;have cX:ρ 15=none:=hcl.none (by simp) (show 9∈[1,9,13]by simp) h1'
   have kp:=(h.page cX).k0;have Hk:=aqo (h.qP 9 (.inr rfl));simp only[aj]at aC;subst aC;clear h hcl hd2 h1' cX;go_wp2
   exact⟨rfl,_,rfl,fun u hu=>aqu hu,Hk.out _⟩
  case ahz=>
   intro o ho ρ W2 h hcl h7 hd2 af aC;obtain rfl:=aqu ho;replace aC:af=aj _ ρ [] _:=aC;have dr:ρ 12=none:=hcl.none (by simp) (show 7∈[7]by simp) h7
   have Hk:=aqo (h.e7 h7 dr);simp only[aj]at aC;subst aC;clear h hcl hd2 h7 dr;go_wp2
   exact⟨rfl,_,rfl,fun u hu=>(by cases hu),Hk.out⟩
  case adB=>
   intro o ho ρ W2 h hcl dr hd2 af aC;obtain rfl:=aqu ho;replace aC:af=aj _ ρ [7] _:=aC;obtain⟨v7,h7⟩:=aqr.1 (hd2 7 (by show _∈[7];simp))
   obtain⟨b7,rfl,hk⟩:=h.wP h7 dr;have Hk:=aqo hk;simp only[aj,h7,Option.getD_some,aL,Act.put,aqv]at aC;subst aC;clear h hk hcl hd2 h7 dr;go_wp2
   exact⟨rfl,_,rfl,fun u hu=>(by cases hu),Hk.out⟩
  case adC=>
   intro o ho ρ W2 h hcl dS hd2 af aC;obtain rfl:=aqu ho;replace aC:af=aj _ ρ [12] _:=aC;obtain⟨v12,dr⟩:=aqr.1 (hd2 12 (by show _∈[12];simp))
   obtain⟨v7,h7⟩:=aqr.1 (hcl 12 (by simp) (by rw[dr];rfl) 7 (by show _∈[7];simp))
   have cX:ρ 15=none:=hcl.none (by simp) (show 13∈[1,9,13]by simp) dS
   obtain⟨b7,qD,rfl,hs,hnext⟩:=h.Wn h7 dr dS cX;have Ga:=aqo hnext;have Aw:Hid (iP (fun i=>if i=0 then pg.sl.take lo else if i=1 then [⟨key,r⟩]else pg.sl.drop lo) 3=(aZ pg key r).sl/\(aZ pg key r).sl.length=n+1):=aqo ⟨by
    show(([]++pg.sl.take lo)++[⟨key,r⟩])++pg.sl.drop lo=eP pg.sl key r
    unfold eP;rw[← Yr.out];simp,by show(eP pg.sl key r).length=_;rw[fG,Hn.out]⟩
   have qc:=nB (bs:=qD) (A:=fun i=>if i=0 then(some ⟨g,0,none⟩)else if i=1 then some ⟨b7,0,none⟩else(some ⟨g,lo*2,none⟩)) (C:=fun i=>if i=0 then cap else if i=1 then 1 else(cap-lo)) (X:=fun i=>if i=0 then pg.sl.take lo else if i=1 then [⟨key,r⟩]else pg.sl.drop lo) 3 (by omega) (fun i _=>by
     have:=Hn.out;match i with
     | 0=>simp only[if_true,List.length_take];omega
     | 1=>simp
     | i+2=>simp only[show i+2≠0 by omega,show i+2≠1 by omega,if_false,List.length_drop];omega) (fun W R hW i hi=>by
     have hn' := Hn.out;have hsW:=sO.out W (R++[_,_,_,_]) (by simpa using hW)
     have ue:=(hW.right).k1;match i,hi with
     | 0,_=>
      refine⟨hsW.take lo,?_⟩;have:=ue 0;simpa[List.length_take,show min lo pg.sl.length=lo by omega] using this
     | 1,_=>
      refine⟨eo.one (hW.right),?_⟩;have:=ue 1;simpa using this
     | 2,_=>
      refine⟨?_,?_⟩
      ·show eo W (some ⟨g,lo*2,none⟩) (pg.sl.drop lo)
       exact hsW.drop lo
      ·have:=ue 2
       simpa[List.length_drop,← hn'] using this) hs
   rw[Aw.out.1,Aw.out.2]at qc;have Qc:=aqo qc;simp only[aj,dr,Option.getD_some,aL,Act.put,aqv]at aC;subst aC;clear h hs qc hnext hcl hd2 h7 dr dS cX;go_wp2_with fail
   refine(Qc.out).mono ?_
   rintro e W3 ⟨an,cn,rfl,hs'⟩;have dZ:=aqo hs';clear hs';go_wp2
   exact⟨rfl,_,rfl,fun u hu=>(by cases hu),Ga.out an cn W3 dZ.out⟩
  case adD=>
   intro o ho ρ W2 h hcl cX hd2 af aC;obtain rfl:=aqu ho;replace aC:af=aj _ ρ [1,9,13] _:=aC;obtain⟨v1,h1'⟩:=aqr.1 (hd2 1 (by show _∈[1,9,13];simp))
   obtain⟨v9,h9⟩:=aqr.1 (hd2 9 (by show _∈[1,9,13];simp))
   obtain⟨v13,dS⟩:=aqr.1 (hd2 13 (by show _∈[1,9,13];simp))
   obtain⟨an,cn,R',rfl,hs,hnext⟩:=h.Mc dS cX;simp only[aj,h1',h9,dS,Option.getD_some,aL,Act.put,aqv]at aC;subst aC;have k0:=hs.k0;have f0:=hs.f0;have Ga:=aqo hnext;have gh:Hid (St K _ (blk bp (.cells #[.int .i64 ((aZ pg key r)).az,(.slice an (n+1) cn),.string ((aZ pg key r)).hi,.bool ((aZ pg key r)).la,.int .u64 ((aZ pg key r)).ri] 43)::R')):=aqo (hs.aI 1 (.slice an (n+1) cn));clear h hs hnext hcl hd2 h1' h9 dS cX;go_wp2
   exact⟨rfl,undef,rfl,fun u hu=>(by cases hu),Ga.out _ gh.out⟩
 case ahx=>
  intro ρ W2 h hall;obtain⟨v1,h1'⟩:=aqr.1 (hall 1 (by simp))
  obtain⟨v9,h9⟩:=aqr.1 (hall 9 (by simp))
  obtain⟨an,cn,dS,⟨v7,h7⟩,⟨v12,dr⟩,⟨v15,cX⟩,hs⟩:=h.last (fun e he=>hall e (by simp at he ⊢;omega))
  simp only[aj,h1',h7,h9,dr,dS,cX,Option.getD_some,aL,Act.put,aqv];clear h hall h1' h7 h9 dr dS cX;have kp:=hs.k1;have kz:=hs.k2;have fz:=hs.f2;have hs:St K _ (blk (bp+1) (.cells #[.int .i64 ((aZ pg key r)).az,(.slice an (n+1) cn),.string ((aZ pg key r)).hi,.bool ((aZ pg key r)).la,.int .u64 ((aZ pg key r)).ri] 43)::_):=((((hs.b2.aI 0 (.int .i64 (aZ pg key r).az)).aI 1 (.slice an (n+1) cn)).aI 2 (.string (aZ pg key r).hi)).aI 3 (.bool (aZ pg key r).la)).aI 4 (.int .u64 (aZ pg key r).ri);go_wp2
  refine bodyPost_ret (jS _ _ (bp+1) _ _ _ _ _ _ rfl rfl hs.k0) rfl ?_
  exact⟨an,cn,rfl,(hs.re [1,2,0] rfl).bV.bV⟩
theorem vA {K:aK}{w:World}{F:List aB}{pg:Pg}{g:Nat}{n:Nat}{key:ByteArray}{r:Int}(h1:n<=n)(h2:n<=n)(h4:0<n)(hn:n=pg.sl.length)(hlo:n=gM pg.sl key)(hno:decide (gM pg.sl key<je pg.sl key)=false)(dF:kV pg.sl)(xV:n<=100)
  (hs:St K w (ak (.slice (some ⟨g,0,none⟩) n n) 69 2 n (aD pg.sl)::F)) :
  Calls Tryz.prog 95 #[(.agg #[.int .i64 (pg).az,(.slice (some ⟨g,0,none⟩) n n),.string (pg).hi,.bool (pg).la,.int .u64 (pg).ri]),.string key,.int .u64 r] w fun e w' => ∃ a' c',e=.returned (.tuple #[(.agg #[.int .i64 ((aZ pg key r)).az,(.slice a' (n+1) c'),.string ((aZ pg key r)).hi,.bool ((aZ pg key r)).la,.int .u64 ((aZ pg key r)).ri]),.bool true])/\St K w' (ak (.slice a' (n+1) c') 69 2 (n+1) (aD (aZ pg key r).sl)::ak (.slice (some ⟨g,0,none⟩) n n) 69 2 n (aD pg.sl)::F):=by
 have hs:=(hs.made (.cells #[.int .i64 (pg).az,(.slice (some ⟨g,0,none⟩) n n),.string (pg).hi,.bool (pg).la,.int .u64 (pg).ri] 43)).made (.cells #[.int .i64 0,.slice none 0 0,.string ⟨#[]⟩,.bool false,.int .u64 0] 43);rw[World.size_alloc]at hs;have sO:Hid (∀ W R,St K W (R++ak (.slice (some ⟨g,0,none⟩) n n) 69 2 n (aD pg.sl)::F)->eo W (some ⟨g,0,none⟩) pg.sl):=aqo (fun W R h=>(h.right).cN (by omega))
 have q:=nk (cap:=n) (key:=key) _ (sO.out _ [_,_] hs) dF;rw[hno,← hn,← hlo]at q;have Q:=aqo q;have Hn:=aqo hn;have Yr:=aqo hlo;clear q hno hn hlo dF;obtain⟨bp,mP⟩:∃ bp,bp=w.heap.size:=⟨_,rfl⟩;go_enter Tryz.func95,Tryz.ntmps95
 go_wp2_with fail
 refine(bE hs Q.out).mono ?_
 clear hs Q;rintro e w2 ⟨rfl,hs⟩;go_upto_region 4 with(fail)
 rw[← mP]at hs ⊢;have Hs:=aqo (hs.re [1,0] rfl);clear hs mP;refine cY [false,true,false,false,false,false,false,true,false,true,false,false,true,true,false,true] (fun|1=>some (.slice (some ⟨g,0,none⟩) n n)|9=>some (.slice (some ⟨g,0,none⟩) n n)|_=>none) [1,7,9,12,13,15] (fun|12=>[7] | 13=>[12] | 15=>[1,9,13] | _=>[])
  (oB K (blk (bp+1) (.cells #[.int .i64 0,.slice none 0 0,.string ⟨#[]⟩,.bool false,.int .u64 0] 43)::ak (.slice (some ⟨g,0,none⟩) n n) 69 2 n (aD pg.sl)::F) bp pg (aZ pg key r) (.slice (some ⟨g,0,none⟩) n n) (.slice (some ⟨g,0,none⟩) n n) (.slice (some ⟨g,0,none⟩) 0 0) key r (n+1))
  (fun _=>True) ?amx (by kernel_rfl) ?ahB ?Heq ?adE ?ahC ?ahD ?ahE ?ahF ?ahG
 case ahB=>as_aux_lemma=>kernel_rfl
 case Heq=>
  intro W2 _;simp only[cM];repeat (go_big_quiet_step (fail))
  refine wpQuiet_nil ?_
  rfl
 case adE=>rfl
 case ahC=>exact oB.start Hs.out
 case ahD=>exact fun ρ W2 h=>trivial
 case ahE=>exact fun ρ W2 W3 h hb=>h.same hb
 case ahF=>
  refine⟨?ahH,?ahI,?ahJ,?adF,?adG,?adH,trivial⟩;case ahH=>
   intro o ho ρ W2 h hcl h1' hd2 af aC;obtain rfl:=aqu ho;replace aC:af=aj _ ρ [] _:=aC;have cX:ρ 15=none:=hcl.none (by simp) (show 1∈[1,9,13]by simp) h1'
   have kp:=(h.page cX).k0;have Hk:=aqo (h.qP 1 (.inl rfl));simp only[aj]at aC;subst aC;clear h hcl hd2 h1' cX;go_wp2
   exact⟨rfl,_,rfl,fun u hu=>aqu hu,Hk.out _⟩
  case ahJ=>
   intro o ho ρ W2 h hcl h1' hd2 af aC;obtain rfl:=aqu ho;replace aC:af=aj _ ρ [] _:=aC;have cX:ρ 15=none:=hcl.none (by simp) (show 9∈[1,9,13]by simp) h1'
   have kp:=(h.page cX).k0;have Hk:=aqo (h.qP 9 (.inr rfl));simp only[aj]at aC;subst aC;clear h hcl hd2 h1' cX;go_wp2
   exact⟨rfl,_,rfl,fun u hu=>aqu hu,Hk.out _⟩
  case ahI=>
   intro o ho ρ W2 h hcl h7 hd2 af aC;obtain rfl:=aqu ho;replace aC:af=aj _ ρ [] _:=aC;have dr:ρ 12=none:=hcl.none (by simp) (show 7∈[7]by simp) h7
   have Hk:=aqo (h.e7 h7 dr);simp only[aj]at aC;subst aC;clear h hcl hd2 h7 dr;go_wp2
   exact⟨rfl,_,rfl,fun u hu=>(by cases hu),Hk.out⟩
  case adF=>
   intro o ho ρ W2 h hcl dr hd2 af aC;obtain rfl:=aqu ho;replace aC:af=aj _ ρ [7] _:=aC;obtain⟨v7,h7⟩:=aqr.1 (hd2 7 (by show _∈[7];simp))
   obtain⟨b7,rfl,hk⟩:=h.wP h7 dr;have Hk:=aqo hk;simp only[aj,h7,Option.getD_some,aL,Act.put,aqv]at aC;subst aC;clear h hk hcl hd2 h7 dr;go_wp2
   exact⟨rfl,_,rfl,fun u hu=>(by cases hu),Hk.out⟩
  case adG=>
   intro o ho ρ W2 h hcl dS hd2 af aC;obtain rfl:=aqu ho;replace aC:af=aj _ ρ [12] _:=aC;obtain⟨v12,dr⟩:=aqr.1 (hd2 12 (by show _∈[12];simp))
   obtain⟨v7,h7⟩:=aqr.1 (hcl 12 (by simp) (by rw[dr];rfl) 7 (by show _∈[7];simp))
   have cX:ρ 15=none:=hcl.none (by simp) (show 13∈[1,9,13]by simp) dS
   obtain⟨b7,qD,rfl,hs,hnext⟩:=h.Wn h7 dr dS cX;have Ga:=aqo hnext;have Aw:Hid (iP (fun i=>if i=0 then pg.sl.take n else if i=1 then [⟨key,r⟩]else pg.sl.drop n) 3=(aZ pg key r).sl/\(aZ pg key r).sl.length=n+1):=aqo ⟨by
    show(([]++pg.sl.take n)++[⟨key,r⟩])++pg.sl.drop n=eP pg.sl key r
    unfold eP;rw[← Yr.out];simp,by show(eP pg.sl key r).length=_;rw[fG,Hn.out]⟩
   have qc:=nB (bs:=qD) (A:=fun i=>if i=0 then(some ⟨g,0,none⟩)else if i=1 then some ⟨b7,0,none⟩else(some ⟨g,0,none⟩)) (C:=fun i=>if i=0 then n else if i=1 then 1 else 0) (X:=fun i=>if i=0 then pg.sl.take n else if i=1 then [⟨key,r⟩]else pg.sl.drop n) 3 (by omega) (fun i _=>by
     have:=Hn.out;match i with
     | 0=>simp only[if_true,List.length_take];omega
     | 1=>simp
     | i+2=>simp only[show i+2≠0 by omega,show i+2≠1 by omega,if_false,List.length_drop];omega) (fun W R hW i hi=>by
     have hn' := Hn.out;have hsW:=sO.out W (R++[_,_,_,_]) (by simpa using hW)
     have ue:=(hW.right).k1;match i,hi with
     | 0,_=>
      refine⟨hsW.take n,?_⟩;have:=ue 0;simpa[List.length_take,show min n pg.sl.length=n by omega] using this
     | 1,_=>
      refine⟨eo.one (hW.right),?_⟩;have:=ue 1;simpa using this
     | 2,_=>
      refine⟨?_,?_⟩
      ·show eo W (some ⟨g,0,none⟩) (pg.sl.drop n)
       rw[List.drop_eq_nil_of_le (by omega)];exact eo.nil
      ·have:=ue 2
       simpa[List.length_drop,← hn'] using this) hs
   rw[Aw.out.1,Aw.out.2]at qc;have Qc:=aqo qc;simp only[aj,dr,Option.getD_some,aL,Act.put,aqv]at aC;subst aC;clear h hs qc hnext hcl hd2 h7 dr dS cX;go_wp2_with fail
   refine(Qc.out).mono ?_
   rintro e W3 ⟨an,cn,rfl,hs'⟩;have dZ:=aqo hs';clear hs';go_wp2
   exact⟨rfl,_,rfl,fun u hu=>(by cases hu),Ga.out an cn W3 dZ.out⟩
  case adH=>
   intro o ho ρ W2 h hcl cX hd2 af aC;obtain rfl:=aqu ho;replace aC:af=aj _ ρ [1,9,13] _:=aC;obtain⟨v1,h1'⟩:=aqr.1 (hd2 1 (by show _∈[1,9,13];simp))
   obtain⟨v9,h9⟩:=aqr.1 (hd2 9 (by show _∈[1,9,13];simp))
   obtain⟨v13,dS⟩:=aqr.1 (hd2 13 (by show _∈[1,9,13];simp))
   obtain⟨an,cn,R',rfl,hs,hnext⟩:=h.Mc dS cX;simp only[aj,h1',h9,dS,Option.getD_some,aL,Act.put,aqv]at aC;subst aC;have k0:=hs.k0;have f0:=hs.f0;have Ga:=aqo hnext;have gh:Hid (St K _ (blk bp (.cells #[.int .i64 ((aZ pg key r)).az,(.slice an (n+1) cn),.string ((aZ pg key r)).hi,.bool ((aZ pg key r)).la,.int .u64 ((aZ pg key r)).ri] 43)::R')):=aqo (hs.aI 1 (.slice an (n+1) cn));clear h hs hnext hcl hd2 h1' h9 dS cX;go_wp2
   exact⟨rfl,undef,rfl,fun u hu=>(by cases hu),Ga.out _ gh.out⟩
 case ahG=>
  intro ρ W2 h hall;obtain⟨v1,h1'⟩:=aqr.1 (hall 1 (by simp))
  obtain⟨v9,h9⟩:=aqr.1 (hall 9 (by simp))
  obtain⟨an,cn,dS,⟨v7,h7⟩,⟨v12,dr⟩,⟨v15,cX⟩,hs⟩:=h.last (fun e he=>hall e (by simp at he ⊢;omega))
  simp only[aj,h1',h7,h9,dr,dS,cX,Option.getD_some,aL,Act.put,aqv];clear h hall h1' h7 h9 dr dS cX;have kp:=hs.k1;have kz:=hs.k2;have fz:=hs.f2;have hs:St K _ (blk (bp+1) (.cells #[.int .i64 ((aZ pg key r)).az,(.slice an (n+1) cn),.string ((aZ pg key r)).hi,.bool ((aZ pg key r)).la,.int .u64 ((aZ pg key r)).ri] 43)::_):=((((hs.b2.aI 0 (.int .i64 (aZ pg key r).az)).aI 1 (.slice an (n+1) cn)).aI 2 (.string (aZ pg key r).hi)).aI 3 (.bool (aZ pg key r).la)).aI 4 (.int .u64 (aZ pg key r).ri);go_wp2
  refine bodyPost_ret (jS _ _ (bp+1) _ _ _ _ _ _ rfl rfl hs.k0) rfl ?_
  exact⟨an,cn,rfl,(hs.re [1,2,0] rfl).bV.bV⟩
theorem oC {K:aK}{w:World}{F:List aB}{pg:Pg}{a:Option Addr}{key:ByteArray}{r:Int}(h1:0<=0)(h2:0<=0)  (hn:0=pg.sl.length)(hlo:0=gM pg.sl key)(hno:decide (gM pg.sl key<je pg.sl key)=false)(dF:kV pg.sl)(xV:0<=100)
  (hs:St K w (ak (.slice a 0 0) 69 2 0 (aD pg.sl)::F)) :
  Calls Tryz.prog 95 #[(.agg #[.int .i64 (pg).az,(.slice a 0 0),.string (pg).hi,.bool (pg).la,.int .u64 (pg).ri]),.string key,.int .u64 r] w fun e w' => ∃ a' c',e=.returned (.tuple #[(.agg #[.int .i64 ((aZ pg key r)).az,(.slice a' (0+1) c'),.string ((aZ pg key r)).hi,.bool ((aZ pg key r)).la,.int .u64 ((aZ pg key r)).ri]),.bool true])/\St K w' (ak (.slice a' (0+1) c') 69 2 (0+1) (aD (aZ pg key r).sl)::ak (.slice a 0 0) 69 2 0 (aD pg.sl)::F):=by
 have hs:=(hs.made (.cells #[.int .i64 (pg).az,(.slice a 0 0),.string (pg).hi,.bool (pg).la,.int .u64 (pg).ri] 43)).made (.cells #[.int .i64 0,.slice none 0 0,.string ⟨#[]⟩,.bool false,.int .u64 0] 43);rw[World.size_alloc]at hs;have sO:Hid (∀ W R,St K W (R++ak (.slice a 0 0) 69 2 0 (aD pg.sl)::F)->eo W a pg.sl):=aqo (fun W R h=>(h.right).cN (by omega))
 have q:=nk (cap:=0) (key:=key) _ (sO.out _ [_,_] hs) dF;rw[hno,← hn,← hlo]at q;have Q:=aqo q;have Hn:=aqo hn;have Yr:=aqo hlo;clear q hno hn hlo dF;obtain⟨bp,mP⟩:∃ bp,bp=w.heap.size:=⟨_,rfl⟩;go_enter Tryz.func95,Tryz.ntmps95
 go_wp2_with fail
 refine(bE hs Q.out).mono ?_
 clear hs Q;rintro e w2 ⟨rfl,hs⟩;go_upto_region 4 with(fail)
 rw[← mP]at hs ⊢;have Hs:=aqo (hs.re [1,0] rfl);clear hs mP;refine cY [false,true,false,false,false,false,false,true,false,true,false,false,true,true,false,true] (fun|1=>some (.slice a 0 0)|9=>some (.slice a 0 0)|_=>none) [1,7,9,12,13,15] (fun|12=>[7] | 13=>[12] | 15=>[1,9,13] | _=>[])
  (oB K (blk (bp+1) (.cells #[.int .i64 0,.slice none 0 0,.string ⟨#[]⟩,.bool false,.int .u64 0] 43)::ak (.slice a 0 0) 69 2 0 (aD pg.sl)::F) bp pg (aZ pg key r) (.slice a 0 0) (.slice a 0 0) (.slice a 0 0) key r (0+1))
  (fun _=>True) ?amz (by kernel_rfl) ?ahK ?Hze ?adI ?ahL ?ahM ?ahN ?ahO ?ahP
 case ahK=>as_aux_lemma=>kernel_rfl
 case Hze=>
  intro W2 _;simp only[cM];repeat (go_big_quiet_step (fail))
  refine wpQuiet_nil ?_
  rfl
 case adI=>rfl
 case ahL=>exact oB.start Hs.out
 case ahM=>exact fun ρ W2 h=>trivial
 case ahN=>exact fun ρ W2 W3 h hb=>h.same hb
 case ahO=>
  refine⟨?ahQ,?ahR,?ahS,?adJ,?adK,?adL,trivial⟩;case ahQ=>
   intro o ho ρ W2 h hcl h1' hd2 af aC;obtain rfl:=aqu ho;replace aC:af=aj _ ρ [] _:=aC;have cX:ρ 15=none:=hcl.none (by simp) (show 1∈[1,9,13]by simp) h1'
   have kp:=(h.page cX).k0;have Hk:=aqo (h.qP 1 (.inl rfl));simp only[aj]at aC;subst aC;clear h hcl hd2 h1' cX;go_wp2
   exact⟨rfl,_,rfl,fun u hu=>aqu hu,Hk.out _⟩
  case ahS=>
   intro o ho ρ W2 h hcl h1' hd2 af aC;obtain rfl:=aqu ho;replace aC:af=aj _ ρ [] _:=aC;have cX:ρ 15=none:=hcl.none (by simp) (show 9∈[1,9,13]by simp) h1'
   have kp:=(h.page cX).k0;have Hk:=aqo (h.qP 9 (.inr rfl));simp only[aj]at aC;subst aC;clear h hcl hd2 h1' cX;go_wp2
   exact⟨rfl,_,rfl,fun u hu=>aqu hu,Hk.out _⟩
  case ahR=>
   intro o ho ρ W2 h hcl h7 hd2 af aC;obtain rfl:=aqu ho;replace aC:af=aj _ ρ [] _:=aC;have dr:ρ 12=none:=hcl.none (by simp) (show 7∈[7]by simp) h7
   have Hk:=aqo (h.e7 h7 dr);simp only[aj]at aC;subst aC;clear h hcl hd2 h7 dr;go_wp2
   exact⟨rfl,_,rfl,fun u hu=>(by cases hu),Hk.out⟩
  case adJ=>
   intro o ho ρ W2 h hcl dr hd2 af aC;obtain rfl:=aqu ho;replace aC:af=aj _ ρ [7] _:=aC;obtain⟨v7,h7⟩:=aqr.1 (hd2 7 (by show _∈[7];simp))
   obtain⟨b7,rfl,hk⟩:=h.wP h7 dr;have Hk:=aqo hk;simp only[aj,h7,Option.getD_some,aL,Act.put,aqv]at aC;subst aC;clear h hk hcl hd2 h7 dr;go_wp2
   exact⟨rfl,_,rfl,fun u hu=>(by cases hu),Hk.out⟩
  case adK=>
   intro o ho ρ W2 h hcl dS hd2 af aC;obtain rfl:=aqu ho;replace aC:af=aj _ ρ [12] _:=aC;obtain⟨v12,dr⟩:=aqr.1 (hd2 12 (by show _∈[12];simp))
   obtain⟨v7,h7⟩:=aqr.1 (hcl 12 (by simp) (by rw[dr];rfl) 7 (by show _∈[7];simp))
   have cX:ρ 15=none:=hcl.none (by simp) (show 13∈[1,9,13]by simp) dS
   obtain⟨b7,qD,rfl,hs,hnext⟩:=h.Wn h7 dr dS cX;have Ga:=aqo hnext;have Aw:Hid (iP (fun i=>if i=0 then pg.sl.take 0 else if i=1 then [⟨key,r⟩]else pg.sl.drop 0) 3=(aZ pg key r).sl/\(aZ pg key r).sl.length=0+1):=aqo ⟨by
    show(([]++pg.sl.take 0)++[⟨key,r⟩])++pg.sl.drop 0=eP pg.sl key r
    unfold eP;rw[← Yr.out];simp,by show(eP pg.sl key r).length=_;rw[fG,Hn.out]⟩
   have qc:=nB (bs:=qD) (A:=fun i=>if i=0 then a else if i=1 then some ⟨b7,0,none⟩else a) (C:=fun i=>if i=0 then 0 else if i=1 then 1 else 0) (X:=fun i=>if i=0 then pg.sl.take 0 else if i=1 then [⟨key,r⟩]else pg.sl.drop 0) 3 (by omega) (fun i _=>by
     have:=Hn.out;match i with
     | 0=>simp only[if_true,List.length_take];omega
     | 1=>simp
     | i+2=>simp only[show i+2≠0 by omega,show i+2≠1 by omega,if_false,List.length_drop];omega) (fun W R hW i hi=>by
     have hn' := Hn.out;have hsW:=sO.out W (R++[_,_,_,_]) (by simpa using hW)
     have ue:=(hW.right).k1;match i,hi with
     | 0,_=>
      refine⟨hsW.take 0,?_⟩;have:=ue 0;simpa[List.length_take,show min 0 pg.sl.length=0 by omega] using this
     | 1,_=>
      refine⟨eo.one (hW.right),?_⟩;have:=ue 1;simpa using this
     | 2,_=>
      refine⟨?_,?_⟩
      ·show eo W a (pg.sl.drop 0)
       rw[List.drop_eq_nil_of_le (by omega)];exact eo.nil
      ·have:=ue 2
       simpa[List.length_drop,← hn'] using this) hs
   rw[Aw.out.1,Aw.out.2]at qc;have Qc:=aqo qc;simp only[aj,dr,Option.getD_some,aL,Act.put,aqv]at aC;subst aC;clear h hs qc hnext hcl hd2 h7 dr dS cX;go_wp2_with fail
   refine(Qc.out).mono ?_
   rintro e W3 ⟨an,cn,rfl,hs'⟩;have dZ:=aqo hs';clear hs';go_wp2
   exact⟨rfl,_,rfl,fun u hu=>(by cases hu),Ga.out an cn W3 dZ.out⟩
  case adL=>
   intro o ho ρ W2 h hcl cX hd2 af aC;obtain rfl:=aqu ho;replace aC:af=aj _ ρ [1,9,13] _:=aC;obtain⟨v1,h1'⟩:=aqr.1 (hd2 1 (by show _∈[1,9,13];simp))
   obtain⟨v9,h9⟩:=aqr.1 (hd2 9 (by show _∈[1,9,13];simp))
   obtain⟨v13,dS⟩:=aqr.1 (hd2 13 (by show _∈[1,9,13];simp))
   obtain⟨an,cn,R',rfl,hs,hnext⟩:=h.Mc dS cX;simp only[aj,h1',h9,dS,Option.getD_some,aL,Act.put,aqv]at aC;subst aC;have k0:=hs.k0;have f0:=hs.f0;have Ga:=aqo hnext;have gh:Hid (St K _ (blk bp (.cells #[.int .i64 ((aZ pg key r)).az,(.slice an (0+1) cn),.string ((aZ pg key r)).hi,.bool ((aZ pg key r)).la,.int .u64 ((aZ pg key r)).ri] 43)::R')):=aqo (hs.aI 1 (.slice an (0+1) cn));clear h hs hnext hcl hd2 h1' h9 dS cX;go_wp2
   exact⟨rfl,undef,rfl,fun u hu=>(by cases hu),Ga.out _ gh.out⟩
 case ahP=>
  intro ρ W2 h hall;obtain⟨v1,h1'⟩:=aqr.1 (hall 1 (by simp))
  obtain⟨v9,h9⟩:=aqr.1 (hall 9 (by simp))
  obtain⟨an,cn,dS,⟨v7,h7⟩,⟨v12,dr⟩,⟨v15,cX⟩,hs⟩:=h.last (fun e he=>hall e (by simp at he ⊢;omega))
  simp only[aj,h1',h7,h9,dr,dS,cX,Option.getD_some,aL,Act.put,aqv];clear h hall h1' h7 h9 dr dS cX;have kp:=hs.k1;have kz:=hs.k2;have fz:=hs.f2;have hs:St K _ (blk (bp+1) (.cells #[.int .i64 ((aZ pg key r)).az,(.slice an (0+1) cn),.string ((aZ pg key r)).hi,.bool ((aZ pg key r)).la,.int .u64 ((aZ pg key r)).ri] 43)::_):=((((hs.b2.aI 0 (.int .i64 (aZ pg key r).az)).aI 1 (.slice an (0+1) cn)).aI 2 (.string (aZ pg key r).hi)).aI 3 (.bool (aZ pg key r).la)).aI 4 (.int .u64 (aZ pg key r).ri);go_wp2
  refine bodyPost_ret (jS _ _ (bp+1) _ _ _ _ _ _ rfl rfl hs.k0) rfl ?_
  exact⟨an,cn,rfl,(hs.re [1,2,0] rfl).bV.bV⟩
theorem vB {K:aK}{w:World}{F:List aB}{pg:Pg}{a:Option Addr}{cap:Nat}{key:ByteArray}{r:Int}(hno:decide (gM pg.sl key<je pg.sl key)=false)(dF:kV pg.sl)(xV:pg.sl.length<=100)
  (hs:St K w (bq (.slice a pg.sl.length cap) pg::F)) :
  Calls Tryz.prog 95 #[(.agg #[.int .i64 (pg).az,(.slice a pg.sl.length cap),.string (pg).hi,.bool (pg).la,.int .u64 (pg).ri]),.string key,.int .u64 r] w fun e w' => ∃ a' c',e=.returned (.tuple #[(.agg #[.int .i64 ((aZ pg key r)).az,(.slice a' (aZ pg key r).sl.length c'),.string ((aZ pg key r)).hi,.bool ((aZ pg key r)).la,.int .u64 ((aZ pg key r)).ri]),.bool true])/\St K w' (bq (.slice a' (aZ pg key r).sl.length c') (aZ pg key r)::bq (.slice a pg.sl.length cap) pg::F):=by
 have hl:=tR pg.sl key;have e:(aZ pg key r).sl.length=pg.sl.length+1:=fG _ _ _;unfold bq;replace hs:St K w (ak (.slice a pg.sl.length cap) 69 2 pg.sl.length (aD pg.sl)::F):=hs;rw[e];rcases(show St K w (ak (.slice a pg.sl.length cap) 69 2 pg.sl.length (aD pg.sl)::F)from hs).wO with⟨rfl,h0,rfl⟩|⟨g,rfl,hc⟩
 ·rw[h0]at hs ⊢
  exact oC (Nat.le_refl _) (Nat.le_refl _) h0.symm (by omega) hno dF (by omega) hs
 ·rcases(show gM pg.sl key<cap\/(gM pg.sl key=cap/\0<cap)\/cap=0 by omega)with h|⟨h,h'⟩|h
  ·exact vz hl hc h rfl rfl hno dF xV hs
  ·have hcn:cap=pg.sl.length:=by omega
   subst hcn;exact vA (Nat.le_refl _) (Nat.le_refl _) h' rfl h.symm hno dF xV hs
  ·have h0:pg.sl.length=0:=by omega
   subst h;rw[h0]at hs ⊢;exact oC (Nat.le_refl _) (Nat.le_refl _) h0.symm (by omega) hno dF (by omega) hs
theorem Wo (a:ByteArray)(b:ByteArray):cE a (b.extract 0 0)=false:=by
 have:b.extract 0 0=⟨#[]⟩:=by
  apply ByteArray.ext
  rw[ByteArray.data_extract];simp
 rw[this];exact jK a
theorem Wp (a b:ByteArray)(hb:b.size<=1000000)(w:World):Calls Tryz.prog 163 #[.string a,.string b] w fun e w' => e=.returned (.string (lU a b))/\w=w' := by
 obtain⟨r,hr⟩:∃ r,r=lU a b:=⟨_,rfl⟩;rw[← hr];have Hr:Hid (r=eN a b b.size 1):=aqo (by
  rw[hr];unfold lU;show(if cE a (b.extract 0 0)then _ else eN a b b.size (0+1))=_
  rw[Wo];rfl)
 clear hr;go_enter Tryz.func163,Tryz.ntmps163
 go_wp2
 go_loopw [5] (fun v5 wr=>∃ n:Nat,v5=.int .i64 n/\1<=n/\n<=b.size+1/\Hid (r=eN a b (b.size+1-n) n)/\wr=w) (fun v5 _=>b.size+1-(intOf v5).toNat)
 case atStart=>exact⟨1,rfl,by omega,by omega,aqo Hr.out,rfl⟩
 case round=>
  obtain⟨n,rfl,hn1,hn,HR,rfl⟩:=hrel;by_cases hlt:n<=b.size
  ·have e:r=if cE a (b.extract 0 n)then b.extract 0 n else eN a b (b.size+1-(n+1)) (n+1):=by
    rw[HR.out,show b.size+1-n=(b.size+1-(n+1))+1 by omega];rfl
   have hE:=aqo e;clear e;cases hx:cE a (b.extract 0 n)with
   | true=>
    rw[hx]at hE;have h1:=jI hx;have h3:=jA (Fg hx).symm;go_wp2
    go_ret;exact⟨by rw[hE.out];rfl,rfl⟩
   | false=>
    rw[hx]at hE;have vv:=aqo (show r=eN a b (b.size+1-(n+1)) (n+1)from hE.out)
    cases hy:cE (b.extract 0 n) a with
    | true=>
     go_wp2
     go_roundw
     case rel=>exact⟨n+1,by go_num,by omega,by omega,vv,trivial⟩
     case measure=>simp[intOf];omega
    | false=>
     have hz:=gA hy hx;have h3:((b.extract 0 n).toList == a.toList)=true:=by rw[hz];exact beq_self_eq_true _
     clear hz;go_wp2
     go_roundw
     case rel=>exact⟨n+1,by go_num,by omega,by omega,vv,trivial⟩
     case measure=>simp[intOf];omega
  ·obtain rfl:n=b.size+1:=by omega
   rw[Nat.sub_self]at HR;go_wp2
   go_ret;exact⟨by rw[HR.out];rfl,rfl⟩
def gm (n:Nat):Nat:=n-n / 2
def bM (pg:Pg):ByteArray:=match pg.sl[gm pg.sl.length-1]?,pg.sl[gm pg.sl.length]? with
 | some x,some y=>if pg.az=0 then lU x.k y.k else y.k
 | _,_=>⟨#[]⟩
def fy (pg:Pg)(right:Int):Pg:=⟨pg.az,pg.sl.take (gm pg.sl.length),bM pg,false,right⟩
def dD (pg:Pg):Pg:=⟨pg.az,pg.sl.drop (gm pg.sl.length),pg.hi,pg.la,pg.ri⟩
def uf (K:aK)(REST:List aB)(pa:Array Value)(ρ:Nat->Option Value)(W:World):Prop:=
 ∃ (b2 b3:Nat),(∀ v,ρ 2=some v->v=(.pointer (some ⟨b2,0,none⟩)))/\(∀ v,ρ 3=some v->v=(.pointer (some ⟨b3,0,none⟩))) /\
  St K W (dA (ρ 2) (blk b2 (.cells (if (ρ 4).isSome then pa else #[.int .i64 0,.slice none 0 0,.string ⟨#[]⟩,.bool false,.int .u64 0]) 43))::dA (ρ 3) (blk b3 (.cells (if (ρ 5).isSome then pa else #[.int .i64 0,.slice none 0 0,.string ⟨#[]⟩,.bool false,.int .u64 0]) 43))::REST)
section
variable {K:aK}{REST:List aB}{pa:Array Value}{ρ:Nat->Option Value}{W:World}{v2 v3:Value}
theorem uf.start (hs:St K W REST):uf K REST pa (fun _=>none) W:=
 ⟨0,0,fun v h=>(by cases h),fun v h=>(by cases h),hs.empty.empty⟩
theorem uf.same {W':World}(h:uf K REST pa ρ W)(hb:Below W.heap.size W W'):uf K REST pa ρ W' := by
 obtain⟨b2,b3,e1,e2,hs⟩:=h;exact⟨b2,b3,e1,e2,hs.same hb⟩
theorem uf.rest (h:uf K REST pa ρ W):St K W REST:=by
 obtain⟨b2,b3,e1,e2,hs⟩:=h;exact hs.tail.tail
theorem uf.e2 (h:uf K REST pa ρ W)(h2:ρ 2=none)(h4:ρ 4=none):uf K REST pa (upd ρ 2 (.pointer (some ⟨W.heap.size,0,none⟩))) (W.alloc (.cells #[.int .i64 0,.slice none 0 0,.string ⟨#[]⟩,.bool false,.int .u64 0] 43)):=by
 obtain⟨b2,b3,e1,e2,hs⟩:=h;rw[h2]at hs;refine⟨W.heap.size,b3,fun v h=>by simpa[upd] using h.symm,fun v h=>e2 v (by simpa[upd] using h),?_⟩
 have:St K (W.alloc (.cells #[.int .i64 0,.slice none 0 0,.string ⟨#[]⟩,.bool false,.int .u64 0] 43)) (dA (some (.pointer (some ⟨W.heap.size,0,none⟩))) (blk W.heap.size (.cells #[.int .i64 0,.slice none 0 0,.string ⟨#[]⟩,.bool false,.int .u64 0] 43))::_):=hs.tail.made (.cells #[.int .i64 0,.slice none 0 0,.string ⟨#[]⟩,.bool false,.int .u64 0] 43);simpa[upd,h4] using this
theorem uf.e3 (h:uf K REST pa ρ W)(h3:ρ 3=none)(h5:ρ 5=none):uf K REST pa (upd ρ 3 (.pointer (some ⟨W.heap.size,0,none⟩))) (W.alloc (.cells #[.int .i64 0,.slice none 0 0,.string ⟨#[]⟩,.bool false,.int .u64 0] 43)):=by
 obtain⟨b2,b3,e1,e2,hs⟩:=h;rw[h3]at hs;refine⟨b2,W.heap.size,fun v h=>e1 v (by simpa[upd] using h),fun v h=>by simpa[upd] using h.symm,?_⟩
 have h2:St K W (gK::dA (ρ 2) (blk b2 (.cells (if (ρ 4).isSome then pa else #[.int .i64 0,.slice none 0 0,.string ⟨#[]⟩,.bool false,.int .u64 0]) 43))::REST):=hs.b1
 have:St K (W.alloc (.cells #[.int .i64 0,.slice none 0 0,.string ⟨#[]⟩,.bool false,.int .u64 0] 43)) (dA (ρ 2) (blk b2 (.cells (if (ρ 4).isSome then pa else #[.int .i64 0,.slice none 0 0,.string ⟨#[]⟩,.bool false,.int .u64 0]) 43))::dA (some (.pointer (some ⟨W.heap.size,0,none⟩))) (blk W.heap.size (.cells #[.int .i64 0,.slice none 0 0,.string ⟨#[]⟩,.bool false,.int .u64 0] 43))::REST):=(h2.tail.made (.cells #[.int .i64 0,.slice none 0 0,.string ⟨#[]⟩,.bool false,.int .u64 0] 43)).b1
 simpa[upd,h5] using this
theorem uf.e4 (h:uf K REST pa ρ W)(h2:ρ 2=some v2)(h4:ρ 4=none):∃ (b:Nat)(R':List aB),v2=(.pointer (some ⟨b,0,none⟩))/\St K W (blk b (.cells #[.int .i64 0,.slice none 0 0,.string ⟨#[]⟩,.bool false,.int .u64 0] 43)::R')/\∀ W',St K W' (blk b (.cells pa 43)::R')->uf K REST pa (upd ρ 4 undef) W' := by
 obtain⟨b2,b3,e1,e2,hs⟩:=h;rw[h2,h4]at hs;have hs:St K W (blk b2 (.cells #[.int .i64 0,.slice none 0 0,.string ⟨#[]⟩,.bool false,.int .u64 0] 43)::_):=hs;refine⟨b2,_,e1 v2 h2,hs,fun W' hs' => ⟨b2,b3,fun v h=>e1 v (by simpa[upd] using h),fun v h=>e2 v (by simpa[upd] using h),?_⟩⟩
 have:St K W' (dA (some v2) (blk b2 (.cells pa 43))::_):=hs';simpa[upd,h2] using this
theorem uf.e5 (h:uf K REST pa ρ W)(h3:ρ 3=some v3)(h5:ρ 5=none):∃ (b:Nat)(R':List aB),v3=(.pointer (some ⟨b,0,none⟩))/\St K W (blk b (.cells #[.int .i64 0,.slice none 0 0,.string ⟨#[]⟩,.bool false,.int .u64 0] 43)::R')/\∀ W',St K W' (blk b (.cells pa 43)::R')->uf K REST pa (upd ρ 5 undef) W' := by
 obtain⟨b2,b3,e1,e2,hs⟩:=h;rw[h3,h5]at hs;have hs:St K W (_::blk b3 (.cells #[.int .i64 0,.slice none 0 0,.string ⟨#[]⟩,.bool false,.int .u64 0] 43)::_):=hs;refine⟨b3,_,e2 v3 h3,hs.b1,fun W' hs' => ⟨b2,b3,fun v h=>e1 v (by simpa[upd] using h),fun v h=>e2 v (by simpa[upd] using h),?_⟩⟩
 have:St K W' (dA (ρ 2) (blk b2 (.cells (if (ρ 4).isSome then pa else #[.int .i64 0,.slice none 0 0,.string ⟨#[]⟩,.bool false,.int .u64 0]) 43))::dA (some v3) (blk b3 (.cells pa 43))::REST):=hs'.b1
 simpa[upd,h3] using this
theorem uf.last (h:uf K REST pa ρ W)(hall:∀ e,e∈[2,3,4,5]->(ρ e).isSome=true):∃ b2 b3:Nat,ρ 2=some (.pointer (some ⟨b2,0,none⟩))/\ρ 3=some (.pointer (some ⟨b3,0,none⟩))/\(∃ v,ρ 4=some v)/\(∃ v,ρ 5=some v) /\
  St K W (blk b2 (.cells pa 43)::blk b3 (.cells pa 43)::REST):=by
 obtain⟨v2,h2⟩:=aqr.1 (hall 2 (by simp))
 obtain⟨v3,h3⟩:=aqr.1 (hall 3 (by simp))
 obtain⟨v4,h4⟩:=aqr.1 (hall 4 (by simp))
 obtain⟨v5,h5⟩:=aqr.1 (hall 5 (by simp))
 obtain⟨b2,b3,e1,e2,hs⟩:=h;rw[h2,h3,h4,h5]at hs;exact⟨b2,b3,by rw[h2,e1 v2 h2],by rw[h3,e2 v3 h3],⟨v4,h4⟩,⟨v5,h5⟩,hs⟩
end
def SqR (K:aK)(b1 b2:Nat)(p1 p2:Array Value)(REST:List aB)(ρ:Nat->Option Value)(W:World):Prop:=
 St K W (blk b1 (.cells (if (ρ 3).isSome then p1 else #[.int .i64 0,.slice none 0 0,.string ⟨#[]⟩,.bool false,.int .u64 0]) 43)::blk b2 (.cells (if (ρ 4).isSome then p2 else #[.int .i64 0,.slice none 0 0,.string ⟨#[]⟩,.bool false,.int .u64 0]) 43)::REST)
theorem vC (tmps:Array Value)(w:World)(b1 b2:Nat)(v0 v1 v2 v3 v4 u0 u1 u2 u3 u4 x y:Value)(hp:tmps[4]?=some (.pointer (some ⟨b1,0,none⟩)))(hq:tmps[5]?=some (.pointer (some ⟨b2,0,none⟩)))(hx:tmps[6]?=some x)(hy:tmps[7]?=some y)
  (hk:∀ k,w.cell? ⟨b1,k,none⟩=(#[v0,v1,v2,v3,v4]:Array Value)[k]?) (hl:∀ k,w.cell? ⟨b2,k,none⟩=(#[u0,u1,u2,u3,u4]:Array Value)[k]?) :
  (results Tryz.f135 tmps).run Tryz.prog w=.ok (.tuple #[.agg #[v0,v1,v2,v3,v4],.agg #[u0,u1,u2,u3,u4],x,y]) w:=by
 simp[results,Tryz.results135,go_sem,hp,hq,hx,hy,hk,hl]
section
variable {K:aK}{w:World}{F:List aB}{pg:Pg}{a:Option Addr}{cap:Nat}{right:Int}
theorem xW (h2:2<=pg.sl.length)(xV:pg.sl.length<=100)(hsz:∀ s,s∈pg.sl->s.k.size<=1000000)(hs:St K w (bq (.slice a pg.sl.length cap) pg::F)) :
  Calls Tryz.prog 135 #[(.agg #[.int .i64 (pg).az,(.slice a pg.sl.length cap),.string (pg).hi,.bool (pg).la,.int .u64 (pg).ri]),.int .u64 right] w fun e w' => ∃ a1 c1 a2 c2,e=.returned (.tuple #[(.agg #[.int .i64 ((fy pg right)).az,(.slice a1 (fy pg right).sl.length c1),.string ((fy pg right)).hi,.bool ((fy pg right)).la,.int .u64 ((fy pg right)).ri]),(.agg #[.int .i64 ((dD pg)).az,(.slice a2 (dD pg).sl.length c2),.string ((dD pg)).hi,.bool ((dD pg)).la,.int .u64 ((dD pg)).ri]),.string (bM pg),.bool true]) /\
   St K w' (bq (.slice a1 (fy pg right).sl.length c1) (fy pg right)::bq (.slice a2 (dD pg).sl.length c2) (dD pg)::bq (.slice a pg.sl.length cap) pg::F):=by
 obtain⟨g,hg,hc⟩:∃ g,a=some ⟨g,0,none⟩/\pg.sl.length<=cap:=by
  rcases(show St K w (ak (.slice a pg.sl.length cap) 69 2 pg.sl.length (aD pg.sl)::F)from hs).wO with⟨_,h0,_⟩|h
  ·omega
  ·exact h
 subst hg;obtain⟨k,hk⟩:∃ k,k=gm pg.sl.length:=⟨_,rfl⟩;have hk1:1<=k/\k<pg.sl.length:=by rw[hk];unfold gm;omega
 obtain⟨x,hx⟩:∃ x,pg.sl[k-1]?=some x:=⟨_,aqt (by omega)⟩
 obtain⟨y,hy⟩:∃ y,pg.sl[k]?=some y:=⟨_,aqt hk1.2⟩;have hsep:bM pg=if pg.az=0 then lU x.k y.k else y.k:=by unfold bM;rw[← hk,hx,hy]
 have hki:(pg.sl.length:Int)-(pg.sl.length:Int) / 2=(k:Int):=by rw[hk];unfold gm;omega
 have Hki:=aqo hki;clear hki;have Hy:=aqo hy;have Hx:=aqo hx;have aaP:=aqo hsep;have Hk:=aqo hk;have hs:=((hs.made (.cells #[.int .i64 (pg).az,(.slice (some ⟨g,0,none⟩) pg.sl.length cap),.string (pg).hi,.bool (pg).la,.int .u64 (pg).ri] 43)).made (.cells #[.int .i64 0,.slice none 0 0,.string ⟨#[]⟩,.bool false,.int .u64 0] 43)).made (.cells #[.int .i64 0,.slice none 0 0,.string ⟨#[]⟩,.bool false,.int .u64 0] 43);simp only[World.size_alloc]at hs;clear hx hy hsep hk;obtain⟨bp,mP⟩:∃ bp,bp=w.heap.size:=⟨_,rfl⟩;rw[show w.heap.size+1+1=w.heap.size+2 by omega,← mP]at hs
 have hs:St K _ (blk (bp+2) (.cells #[.int .i64 0,.slice none 0 0,.string ⟨#[]⟩,.bool false,.int .u64 0] 43)::blk (bp+1) (.cells #[.int .i64 0,.slice none 0 0,.string ⟨#[]⟩,.bool false,.int .u64 0] 43)::blk bp (.cells #[.int .i64 (pg).az,(.slice (some ⟨g,0,none⟩) pg.sl.length cap),.string (pg).hi,.bool (pg).la,.int .u64 (pg).ri] 43)::ak (.slice (some ⟨g,0,none⟩) pg.sl.length cap) 69 2 pg.sl.length (aD pg.sl)::F):=hs;go_enter Tryz.func135,Tryz.ntmps135
 go_upto_region 4 with(fail)
 rw[show w.heap.size+1+1=w.heap.size+2 by omega,← mP]
 clear mP;go_cut [9] (fun v wx=>v=.int .i64 k/\St K wx (blk (bp+2) (.cells #[.int .i64 0,.slice none 0 0,.string ⟨#[]⟩,.bool false,.int .u64 0] 43)::blk (bp+1) (.cells #[.int .i64 0,.slice none 0 0,.string ⟨#[]⟩,.bool false,.int .u64 0] 43)::blk bp (.cells #[.int .i64 (pg).az,(.slice (some ⟨g,0,none⟩) pg.sl.length cap),.string (pg).hi,.bool (pg).la,.int .u64 (pg).ri] 43)::ak (.slice (some ⟨g,0,none⟩) pg.sl.length cap) 69 2 pg.sl.length (aD pg.sl)::F))
 case first=>
  as_aux_lemma=>
  go_wp2
  go_meet;exact⟨by rw[Hki.out],hs⟩
 case rest=>
 clear hs;obtain⟨rfl,hs⟩:=hcut;have kp:=hs.k2;have c1:=(show St K wc (ak _ 69 2 pg.sl.length (aD pg.sl)::F)from hs.tail.tail.tail).bJ (fX _ _ _ Hy.out).1
 have c0:=(show St K wc (ak _ 69 2 pg.sl.length (aD pg.sl)::F)from hs.tail.tail.tail).bJ (fX _ _ _ Hx.out).1
 go_upto_region 6 with(fail)
 clear c1;go_cut [32] (fun v wx=>v=.bool (pg.az == 0)/\St K wx (blk (bp+2) (.cells #[.int .i64 0,.slice none 0 0,.string ⟨#[]⟩,.bool false,.int .u64 0] 43)::blk (bp+1) (.cells #[.int .i64 0,.slice none 0 0,.string ⟨#[]⟩,.bool false,.int .u64 0] 43)::blk bp (.cells #[.int .i64 (pg).az,(.slice (some ⟨g,0,none⟩) pg.sl.length cap),.string (pg).hi,.bool (pg).la,.int .u64 (pg).ri] 43)::ak (.slice (some ⟨g,0,none⟩) pg.sl.length cap) 69 2 pg.sl.length (aD pg.sl)::F))
 case first=>
  as_aux_lemma=>
  clear c0;go_wp2
  go_meet;exact⟨rfl,hs⟩
 case rest=>
 clear hs kp c0;obtain⟨rfl,hs⟩:=hcut;apply_assumption
 go_cut [10] (fun v wx=>v=.string (bM pg)/\St K wx (blk (bp+2) (.cells #[.int .i64 0,.slice none 0 0,.string ⟨#[]⟩,.bool false,.int .u64 0] 43)::blk (bp+1) (.cells #[.int .i64 0,.slice none 0 0,.string ⟨#[]⟩,.bool false,.int .u64 0] 43)::blk bp (.cells #[.int .i64 (pg).az,(.slice (some ⟨g,0,none⟩) pg.sl.length cap),.string (pg).hi,.bool (pg).la,.int .u64 (pg).ri] 43)::ak (.slice (some ⟨g,0,none⟩) pg.sl.length cap) 69 2 pg.sl.length (aD pg.sl)::F))
 case first=>
  as_aux_lemma=>
  by_cases hlv:pg.az=0
  ·have Ax:(pg.az == 0)=true:=by rw[hlv];rfl
   have kp:=hs.k2;have c0:=(show St K _ (ak _ 69 2 pg.sl.length (aD pg.sl)::F)from hs.tail.tail.tail).bJ (fX _ _ _ Hx.out).1
   have Hf:Hid (bM pg=lU x.k y.k):=aqo (by rw[aaP.out,if_pos hlv])
   have Qs:=aqo (fun w=>Wp x.k y.k (hsz y (aqs Hy.out)) w)
   clear hlv;rw[Ax];clear Ax;go_wp2_with fail
   refine(Qs.out _).mono ?_
   rintro e w3 ⟨rfl,rfl⟩;clear kp c0;go_wp2
   go_meet;exact⟨by rw[Hf.out],hs⟩
  ·have Ax:(pg.az == 0)=false:=by simp[hlv]
   have Hf:Hid (bM pg=y.k):=aqo (by rw[aaP.out,if_neg hlv])
   clear hlv;rw[Ax];clear Ax;go_wp2
   go_meet;exact⟨by rw[Hf.out],hs⟩
 case rest=>
 clear hs;obtain⟨rfl,hs⟩:=hcut;obtain⟨sep,hsep⟩:∃ sep,sep=bM pg:=⟨_,rfl⟩;rw[← hsep];have Hsp:=aqo hsep;clear hsep aaP;go_upto_region 8 with(fail)
 have Hs:=aqo hs;clear hs;refine aT [false,false,true,true,true,true] [2,3,4,5] (fun|4=>[2] | 5=>[3] | _=>[])
  (uf K (blk (bp+2) (.cells #[.int .i64 0,.slice none 0 0,.string ⟨#[]⟩,.bool false,.int .u64 0] 43)::blk (bp+1) (.cells #[.int .i64 0,.slice none 0 0,.string ⟨#[]⟩,.bool false,.int .u64 0] 43)::blk bp (.cells #[.int .i64 (pg).az,(.slice (some ⟨g,0,none⟩) pg.sl.length cap),.string (pg).hi,.bool (pg).la,.int .u64 (pg).ri] 43)::ak (.slice (some ⟨g,0,none⟩) pg.sl.length cap) 69 2 pg.sl.length (aD pg.sl)::F) #[.int .i64 (pg).az,(.slice (some ⟨g,0,none⟩) pg.sl.length cap),.string (pg).hi,.bool (pg).la,.int .u64 (pg).ri])
  (fun W=>St K W (blk (bp+2) (.cells #[.int .i64 0,.slice none 0 0,.string ⟨#[]⟩,.bool false,.int .u64 0] 43)::blk (bp+1) (.cells #[.int .i64 0,.slice none 0 0,.string ⟨#[]⟩,.bool false,.int .u64 0] 43)::blk bp (.cells #[.int .i64 (pg).az,(.slice (some ⟨g,0,none⟩) pg.sl.length cap),.string (pg).hi,.bool (pg).la,.int .u64 (pg).ri] 43)::ak (.slice (some ⟨g,0,none⟩) pg.sl.length cap) 69 2 pg.sl.length (aD pg.sl)::F)) ?aS (by kernel_rfl) ?hB ?H ?iA ?h0 ?hI ?hR ?hE ?hQ
 case hB=>as_aux_lemma=>kernel_rfl
 case H=>
  intro W2 hs;have kp:=hs.k2;clear hs;simp only[bK];repeat (go_big_quiet_step (fail))
  refine wpQuiet_nil ?_
  rfl
 case iA=>rfl
 case h0=>exact uf.start Hs.out
 case hI=>exact fun ρ W2 h=>h.rest
 case hR=>exact fun ρ W2 W3 h hb=>h.same hb
 case hE=>
  refine⟨?e2,?e3,?e4,?e5,trivial⟩;case e2=>
   intro o ho ρ W2 h hcl h2' hd2 af aC;obtain rfl:=aqu ho;replace aC:af=aj _ ρ [] _:=aC;have h4:ρ 4=none:=hcl.none (by simp) (show 2∈[2]by simp) h2'
   have Hk2:=aqo (h.e2 h2' h4);simp only[aj]at aC;subst aC;clear h hcl hd2 h2' h4;go_wp2
   exact⟨rfl,_,rfl,Hk2.out⟩
  case e3=>
   intro o ho ρ W2 h hcl h3' hd2 af aC;obtain rfl:=aqu ho;replace aC:af=aj _ ρ [] _:=aC;have h5:ρ 5=none:=hcl.none (by simp) (show 3∈[3]by simp) h3'
   have Hk2:=aqo (h.e3 h3' h5);simp only[aj]at aC;subst aC;clear h hcl hd2 h3' h5;go_wp2
   exact⟨rfl,_,rfl,Hk2.out⟩
  case e4=>
   intro o ho ρ W2 h hcl h4 hd2 af aC;obtain rfl:=aqu ho;replace aC:af=aj _ ρ [2] _:=aC;obtain⟨v2,h2'⟩:=aqr.1 (hd2 2 (by show _∈[2];simp))
   obtain⟨b,R',rfl,hs,hnext⟩:=h.e4 h2' h4;simp only[aj,h2',Option.getD_some,aL,Act.put,aqv]at aC;subst aC;have k0:=hs.k0;have f0:=hs.f0;have Ga:=aqo hnext;have gh:Hid (St K _ (blk b (.cells #[.int .i64 (pg).az,(.slice (some ⟨g,0,none⟩) pg.sl.length cap),.string (pg).hi,.bool (pg).la,.int .u64 (pg).ri] 43)::R')):=aqo (((((hs.aI 0 (.int .i64 pg.az)).aI 1 (.slice (some ⟨g,0,none⟩) pg.sl.length cap)).aI 2 (.string pg.hi)).aI 3 (.bool pg.la)).aI 4 (.int .u64 pg.ri));clear h hs hnext hcl hd2 h2' h4;go_wp2
   exact⟨rfl,undef,rfl,Ga.out _ gh.out⟩
  case e5=>
   intro o ho ρ W2 h hcl h5 hd2 af aC;obtain rfl:=aqu ho;replace aC:af=aj _ ρ [3] _:=aC;obtain⟨v3,h3'⟩:=aqr.1 (hd2 3 (by show _∈[3];simp))
   obtain⟨b,R',rfl,hs,hnext⟩:=h.e5 h3' h5;simp only[aj,h3',Option.getD_some,aL,Act.put,aqv]at aC;subst aC;have k0:=hs.k0;have f0:=hs.f0;have Ga:=aqo hnext;have gh:Hid (St K _ (blk b (.cells #[.int .i64 (pg).az,(.slice (some ⟨g,0,none⟩) pg.sl.length cap),.string (pg).hi,.bool (pg).la,.int .u64 (pg).ri] 43)::R')):=aqo (((((hs.aI 0 (.int .i64 pg.az)).aI 1 (.slice (some ⟨g,0,none⟩) pg.sl.length cap)).aI 2 (.string pg.hi)).aI 3 (.bool pg.la)).aI 4 (.int .u64 pg.ri));clear h hs hnext hcl hd2 h3' h5;go_wp2
   exact⟨rfl,undef,rfl,Ga.out _ gh.out⟩
 case hQ=>
 intro ρ W2 h hall;obtain⟨b2,b3,h2',h3',⟨v4,h4⟩,⟨v5,h5⟩,hs⟩:=h.last hall;simp only[aj,h2',h3',h4,h5,Option.getD_some,aL,Act.put,aqv];clear h hall h2' h3' h4 h5 Hs;have kp:=hs.tail.tail.k2;have fj:=(show St K W2 (ak (.slice (some ⟨g,0,none⟩) pg.sl.length cap) 69 2 pg.sl.length (aD pg.sl)::F)from hs.tail.tail.tail.tail.tail).cN (by omega)
 have q:=ud (cap:=cap) (fj.take k) (by rw[List.length_take];omega) (by rw[List.length_take];omega) hs
 rw[List.length_take,show min k pg.sl.length=k by omega]at q
 have Q:=aqo q;clear q hs fj;go_wp2_with fail
 refine(Q.out).mono ?_
 clear Q kp;rintro e w4 ⟨a1,c1,rfl,hs⟩;have kb:=hs.k1;have fb:=hs.f1;have hs:St K _ (blk b2 (.cells #[.int .i64 pg.az,.slice a1 k c1,.string sep,.bool false,.int .u64 right] 43)::ak (.slice a1 k c1) 69 2 k (aD (pg.sl.take k))::blk b3 (.cells #[.int .i64 (pg).az,(.slice (some ⟨g,0,none⟩) pg.sl.length cap),.string (pg).hi,.bool (pg).la,.int .u64 (pg).ri] 43)::blk (bp+2) (.cells #[.int .i64 0,.slice none 0 0,.string ⟨#[]⟩,.bool false,.int .u64 0] 43)::blk (bp+1) (.cells #[.int .i64 0,.slice none 0 0,.string ⟨#[]⟩,.bool false,.int .u64 0] 43)::blk bp (.cells #[.int .i64 (pg).az,(.slice (some ⟨g,0,none⟩) pg.sl.length cap),.string (pg).hi,.bool (pg).la,.int .u64 (pg).ri] 43)::ak (.slice (some ⟨g,0,none⟩) pg.sl.length cap) 69 2 pg.sl.length (aD pg.sl)::F):=(((hs.b1.aI 1 (.slice a1 k c1)).aI 2 (.string sep)).aI 3 (.bool false)).aI 4 (.int .u64 right);go_upto_region 10 with(fail)
 clear kb fb;have kp:=hs.tail.tail.tail.k2;have fj:=(show St K _ (ak (.slice (some ⟨g,0,none⟩) pg.sl.length cap) 69 2 pg.sl.length (aD pg.sl)::F)from hs.tail.tail.tail.tail.tail.tail).cN (by omega)
 have q:=ud (cap:=cap-k) (fj.drop k) (by rw[List.length_drop];omega) (by rw[List.length_drop];omega) hs
 rw[List.length_drop]at q;have Q:=aqo q;have Hs:=aqo hs;clear q hs fj;go_wp2_with fail
 refine(Q.out).mono ?_
 clear Q kp Hs;rintro e w5 ⟨a2,c2,rfl,hs⟩;have kb:=hs.tail.k2;have fb:=hs.tail.f2;have hs:St K _ (blk b3 (.cells #[.int .i64 pg.az,.slice a2 (pg.sl.length-k) c2,.string pg.hi,.bool pg.la,.int .u64 pg.ri] 43)::ak (.slice a2 (pg.sl.length-k) c2) 69 2 (pg.sl.length-k) (aD (pg.sl.drop k))::blk b2 (.cells #[.int .i64 pg.az,.slice a1 k c1,.string sep,.bool false,.int .u64 right] 43)::ak (.slice a1 k c1) 69 2 k (aD (pg.sl.take k))::blk (bp+2) (.cells #[.int .i64 0,.slice none 0 0,.string ⟨#[]⟩,.bool false,.int .u64 0] 43)::blk (bp+1) (.cells #[.int .i64 0,.slice none 0 0,.string ⟨#[]⟩,.bool false,.int .u64 0] 43)::blk bp (.cells #[.int .i64 (pg).az,(.slice (some ⟨g,0,none⟩) pg.sl.length cap),.string (pg).hi,.bool (pg).la,.int .u64 (pg).ri] 43)::ak (.slice (some ⟨g,0,none⟩) pg.sl.length cap) 69 2 pg.sl.length (aD pg.sl)::F):=hs.b3.aI 1 (.slice a2 (pg.sl.length-k) c2);go_upto_region 11 with(fail)
 clear kb fb;have Hs:=aqo (hs.re [5,4,0,1,2,3,6,7] rfl);clear hs;refine aT [false,false,false,true,true,false,false] [3,4] (fun _=>[])
  (SqR K (bp+1) (bp+2) #[.int .i64 pg.az,.slice a1 k c1,.string sep,.bool false,.int .u64 right] #[.int .i64 pg.az,.slice a2 (pg.sl.length-k) c2,.string pg.hi,.bool pg.la,.int .u64 pg.ri] (blk b3 (.cells #[.int .i64 pg.az,.slice a2 (pg.sl.length-k) c2,.string pg.hi,.bool pg.la,.int .u64 pg.ri] 43)::ak (.slice a2 (pg.sl.length-k) c2) 69 2 (pg.sl.length-k) (aD (pg.sl.drop k))::blk b2 (.cells #[.int .i64 pg.az,.slice a1 k c1,.string sep,.bool false,.int .u64 right] 43)::ak (.slice a1 k c1) 69 2 k (aD (pg.sl.take k))::blk bp (.cells #[.int .i64 (pg).az,(.slice (some ⟨g,0,none⟩) pg.sl.length cap),.string (pg).hi,.bool (pg).la,.int .u64 (pg).ri] 43)::ak (.slice (some ⟨g,0,none⟩) pg.sl.length cap) 69 2 pg.sl.length (aD pg.sl)::F))
  (fun W=>St K W (blk b3 (.cells #[.int .i64 pg.az,.slice a2 (pg.sl.length-k) c2,.string pg.hi,.bool pg.la,.int .u64 pg.ri] 43)::ak (.slice a2 (pg.sl.length-k) c2) 69 2 (pg.sl.length-k) (aD (pg.sl.drop k))::blk b2 (.cells #[.int .i64 pg.az,.slice a1 k c1,.string sep,.bool false,.int .u64 right] 43)::ak (.slice a1 k c1) 69 2 k (aD (pg.sl.take k))::blk bp (.cells #[.int .i64 (pg).az,(.slice (some ⟨g,0,none⟩) pg.sl.length cap),.string (pg).hi,.bool (pg).la,.int .u64 (pg).ri] 43)::ak (.slice (some ⟨g,0,none⟩) pg.sl.length cap) 69 2 pg.sl.length (aD pg.sl)::F)) ?aSf (by kernel_rfl) ?hBf ?Hf ?ahW ?h0f ?hIf ?hRf ?hEf ?hQf
 case hBf=>as_aux_lemma=>kernel_rfl
 case Hf=>
  intro W2 hs;have c3:=hs.k0;have c2' := hs.k2;clear hs;simp only[bK];repeat (go_big_quiet_step (fail))
  refine wpQuiet_nil ?_
  rfl
 case ahW=>rfl
 case h0f=>exact Hs.out
 case hIf=>exact fun ρ W2 h=>St.tail (St.tail h)
 case hRf=>exact fun ρ W2 W3 h hb=>St.same h hb
 case hEf=>
  refine⟨?e3f,?e4f,trivial⟩;case e3f=>
   intro o ho ρ W2 h hcl h3' hd2 af aC;obtain rfl:=aqu ho;replace aC:af=aj _ ρ [] _:=aC;simp only[aj]at aC;subst aC;unfold SqR at h;rw[h3']at h;obtain⟨yy,hyy⟩:∃ yy:Array Value,yy=(if (ρ 4).isSome=true then #[.int .i64 pg.az,.slice a2 (pg.sl.length-k) c2,.string pg.hi,.bool pg.la,.int .u64 pg.ri]else #[.int .i64 0,.slice none 0 0,.string ⟨#[]⟩,.bool false,.int .u64 0]):=⟨_,rfl⟩
   rw[← hyy]at h;have HY:=aqo hyy;clear hyy;have hs:St K W2 (blk (bp+1) (.cells #[.int .i64 0,.slice none 0 0,.string ⟨#[]⟩,.bool false,.int .u64 0] 43)::blk (bp+2) (.cells yy 43)::blk b3 (.cells #[.int .i64 pg.az,.slice a2 (pg.sl.length-k) c2,.string pg.hi,.bool pg.la,.int .u64 pg.ri] 43)::ak (.slice a2 (pg.sl.length-k) c2) 69 2 (pg.sl.length-k) (aD (pg.sl.drop k))::blk b2 (.cells #[.int .i64 pg.az,.slice a1 k c1,.string sep,.bool false,.int .u64 right] 43)::ak (.slice a1 k c1) 69 2 k (aD (pg.sl.take k))::blk bp (.cells #[.int .i64 (pg).az,(.slice (some ⟨g,0,none⟩) pg.sl.length cap),.string (pg).hi,.bool (pg).la,.int .u64 (pg).ri] 43)::ak (.slice (some ⟨g,0,none⟩) pg.sl.length cap) 69 2 pg.sl.length (aD pg.sl)::F):=h;have k0:=hs.k0;have f0:=hs.f0;have hs:=((((hs.aI 0 (.int .i64 pg.az)).aI 1 (.slice a1 k c1)).aI 2 (.string sep)).aI 3 (.bool false)).aI 4 (.int .u64 right);have gh:=aqo hs;clear h hs hcl hd2;go_wp2
   refine⟨rfl,undef,rfl,?_⟩;unfold SqR;rw[show upd ρ 3 undef 3=some undef by simp[upd],show upd ρ 3 undef 4=ρ 4 by simp[upd],← HY.out]
   exact gh.out
  case e4f=>
   intro o ho ρ W2 h hcl h4 hd2 af aC;obtain rfl:=aqu ho;replace aC:af=aj _ ρ [] _:=aC;simp only[aj]at aC;subst aC;unfold SqR at h;rw[h4]at h;obtain⟨yy,hyy⟩:∃ yy:Array Value,yy=(if (ρ 3).isSome=true then #[.int .i64 pg.az,.slice a1 k c1,.string sep,.bool false,.int .u64 right]else #[.int .i64 0,.slice none 0 0,.string ⟨#[]⟩,.bool false,.int .u64 0]):=⟨_,rfl⟩
   rw[← hyy]at h;have HY:=aqo hyy;clear hyy;have hs:St K W2 (blk (bp+2) (.cells #[.int .i64 0,.slice none 0 0,.string ⟨#[]⟩,.bool false,.int .u64 0] 43)::blk (bp+1) (.cells yy 43)::blk b3 (.cells #[.int .i64 pg.az,.slice a2 (pg.sl.length-k) c2,.string pg.hi,.bool pg.la,.int .u64 pg.ri] 43)::ak (.slice a2 (pg.sl.length-k) c2) 69 2 (pg.sl.length-k) (aD (pg.sl.drop k))::blk b2 (.cells #[.int .i64 pg.az,.slice a1 k c1,.string sep,.bool false,.int .u64 right] 43)::ak (.slice a1 k c1) 69 2 k (aD (pg.sl.take k))::blk bp (.cells #[.int .i64 (pg).az,(.slice (some ⟨g,0,none⟩) pg.sl.length cap),.string (pg).hi,.bool (pg).la,.int .u64 (pg).ri] 43)::ak (.slice (some ⟨g,0,none⟩) pg.sl.length cap) 69 2 pg.sl.length (aD pg.sl)::F):=h.re [1,0] rfl;have k0:=hs.k0;have f0:=hs.f0;have hs:=((((hs.aI 0 (.int .i64 pg.az)).aI 1 (.slice a2 (pg.sl.length-k) c2)).aI 2 (.string pg.hi)).aI 3 (.bool pg.la)).aI 4 (.int .u64 pg.ri);have gh:=aqo (hs.re [1,0] rfl);clear h hs hcl hd2;go_wp2
   refine⟨rfl,undef,rfl,?_⟩;unfold SqR;rw[show upd ρ 4 undef 4=some undef by simp[upd],show upd ρ 4 undef 3=ρ 3 by simp[upd],← HY.out]
   exact gh.out
 case hQf=>
  intro ρ W2 h hall;obtain⟨v3,h3'⟩:=aqr.1 (hall 3 (by simp))
  obtain⟨v4,h4⟩:=aqr.1 (hall 4 (by simp))
  unfold SqR at h;rw[h3',h4]at h;have hs:St K W2 (blk (bp+1) (.cells #[.int .i64 pg.az,.slice a1 k c1,.string sep,.bool false,.int .u64 right] 43)::blk (bp+2) (.cells #[.int .i64 pg.az,.slice a2 (pg.sl.length-k) c2,.string pg.hi,.bool pg.la,.int .u64 pg.ri] 43)::blk b3 (.cells #[.int .i64 pg.az,.slice a2 (pg.sl.length-k) c2,.string pg.hi,.bool pg.la,.int .u64 pg.ri] 43)::ak (.slice a2 (pg.sl.length-k) c2) 69 2 (pg.sl.length-k) (aD (pg.sl.drop k))::blk b2 (.cells #[.int .i64 pg.az,.slice a1 k c1,.string sep,.bool false,.int .u64 right] 43)::ak (.slice a1 k c1) 69 2 k (aD (pg.sl.take k))::blk bp (.cells #[.int .i64 (pg).az,(.slice (some ⟨g,0,none⟩) pg.sl.length cap),.string (pg).hi,.bool (pg).la,.int .u64 (pg).ri] 43)::ak (.slice (some ⟨g,0,none⟩) pg.sl.length cap) 69 2 pg.sl.length (aD pg.sl)::F):=h;simp only[aj,h3',h4,Option.getD_some,aL,List.getElem?_cons_succ,List.getElem?_cons_zero,Option.bind_some,Option.bind_none,Act.put];clear h hall h3' h4;have q1:=hs.k0;have q2:=hs.k1;have eL:(fy pg right).sl.length=k:=by
   show(pg.sl.take (gm pg.sl.length)).length=k
   rw[← Hk.out,List.length_take];omega
  have eR:(dD pg).sl.length=pg.sl.length-k:=by
   show(pg.sl.drop (gm pg.sl.length)).length=_
   rw[← Hk.out,List.length_drop]
  have eL2:(fy pg right).sl=pg.sl.take k:=by show pg.sl.take (gm pg.sl.length)=_;rw[← Hk.out]
  have eR2:(dD pg).sl=pg.sl.drop k:=by show pg.sl.drop (gm pg.sl.length)=_;rw[← Hk.out]
  have EL:=aqo (And.intro eL eL2);have ER:=aqo (And.intro eR eR2);clear eL eR eL2 eR2;go_wp2
  refine bodyPost_ret (vC _ _ (bp+1) (bp+2) _ _ _ _ _ _ _ _ _ _ _ _ rfl rfl rfl rfl q1 q2) rfl ?_
  refine⟨a1,c1,a2,c2,?_,?_⟩
  ·rw[EL.out.1,ER.out.1,Hsp.out];rfl
  ·unfold bq
   rw[EL.out.1,ER.out.1,EL.out.2,ER.out.2];exact(hs.re [0,1,2,4,6,5,3,7] rfl).tail.tail.tail.tail.tail
end
end Go.Proofs.YtlpdhhhgckpcfaaGreat
