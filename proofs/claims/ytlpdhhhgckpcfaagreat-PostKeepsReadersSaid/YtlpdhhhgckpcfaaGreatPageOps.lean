/- slices.Grow of nothing, slices.al0. -/
import Derived.Test.YtlpdhhhgckpcfaaGreatNodeB
namespace Go.Proofs.YtlpdhhhgckpcfaaGreat
set_option linter.unusedSimpArgs false
set_option linter.unusedVariables false
open Go.RowKit
set_option maxHeartbeats 16000000
set_option maxRecDepth 100000
section
theorem St.xA {K:aM}{w:World}{F:List aC}{a:Option Addr}{n cap:Nat}{T:TypeId}{size:Nat}{xs:List Value}(h:St K w (az (.slice a n cap) T size n xs::F)):(a=none/\n=0/\cap=0)\/(∃g,a=some ⟨g,0,none⟩/\n<=cap):=by
 obtain⟨hl,k⟩:=h.head;rcases k with⟨b,h0⟩|⟨g,e,cur,b,hB,hc,f,i,j,l⟩
 ·simp only[Value.slice.injEq]at b
  exact .inl ⟨b.1,h0,b.2.2⟩
 ·simp only[Value.slice.injEq]at b
  exact .inr ⟨g,b.1,by omega⟩
theorem ry {P:Program}(w:World)(t u ty e:TypeId)(i:TypeInfo)(z:Value)(size bytes:Nat)(m:P.underlying t=some (.slice e))(hu:P.underlying u=some (.int .i64))(hi:P.info? e=some i)(o:i.zero=some z)(b:i.size=size)(f:i.bytes=bytes)(g:z.cells.size=size)(h:0<size)(p:bytes<=64)(n:Nat)(h0:0<n)(q:n<=1000000) :
  ∃c w' cur,(Builtin.append_ #[t,u] ty #[.slice none 0 0,.int .i64 n]).run P w=.ok (.slice (some ⟨w.heap.size,0,none⟩) n c) w' /\ n<=c/\c<=maxLen/\w'.heap[w.heap.size]?=some (.cells cur e (0,0))/\cur.size=c*size/\w.grownBy w' none:=by
 subst b;subst f;have j:=grownCap_ge w n 0 e;have l:grownCap w n 0 e<=maxLen:=grownCap_le_maxLen w n 0 e (by unfold maxLen;omega)
 have hw:IntKind.i64.wrap (n:Int)=n:=by rw[IntKind.wrap_i64];omega
 have s:¬ ((n:Int)<0):=by omega
 have hmul:n*i.bytes<=1000000*64:=Nat.mul_le_mul q p;have v:¬ (281474976710656<(n:Int)*(i.bytes:Int)):=by
  have:(n:Int)*(i.bytes:Int)=((n*i.bytes:Nat):Int):=by rw[Int.natCast_mul]
  rw[this];omega
 have x:¬ (9223372036854775807<(n:Int)):=by omega
 have y:¬ (281474976710656<Builtin.nextslicecap n 0*i.bytes):=by rw[nextslicecap_zero h0];omega
 have A:¬ (n*i.size=0):=by
  have:=Nat.mul_pos h0 h;omega
 have B:n≠0:=by omega
 refine⟨grownCap w n 0 e,w.drew.alloc (.cells (Builtin.zeroCells z.cells n++Builtin.zeroCells z.cells (grownCap w n 0 e-n)) e),_,?_,j,l,heap_alloc_new w.drew _,?_,⟨rfl,rfl,rfl,by simp,fun k hk _=>heap_alloc_old w.drew _ hk⟩⟩
 ·simp[Builtin.append_,run_underlying m,run_underlying hu,sizeOf,typeInfo,zeroValue,hi,o,hw,s,v,x,y,A,B,asInt,asIntOf,Builtin.firstCells,Question.forced,newRow,grownCap]
 ·simp only[Array.size_append,size_zeroCells,g,←Nat.add_mul]
  congr 1
  omega
section
variable {K:aM}{w:World}{F:List aC}
theorem St.abR {w':World}{c:aC}(h:St K w F)(e:w.grownBy w' none)(hc:c.ok w')(i:∀b,b∈c.foot->b=w.heap.size)(g:c.foot.Nodup):St K w' (c::F):=by
 refine St.zK (ms:=[]) (ms' := [c]) (F:=F) h ⟨e.os,e.tape,e.output,e.size,fun k hk g=>e.block k hk (by simp)⟩ (fun c' f =>?_) (fun b j=>?_) ?_
 ·simp at f;subst f;exact hc
 ·right
  have:=i b (by simpa[cY] using j)
  omega
 ·simpa[cY] using g
theorem sX {ops:Array Oper}{rest:List Oper}{o:Oper}{a:Act}{Q:Exit->Act->World->Prop}(s x:Operand)(t u e:TypeId)(i:TypeInfo)(z:Value)(size bytes n:Nat)(D:St K w F)
  (j:o.guard=none) (E:o.op=.call { callee:= .builtin .append,args:= #[s,x],argTypes:= #[t,u] })
  (G:Tryz.prog.underlying t=some (.slice e)) (hu:Tryz.prog.underlying u=some (.int .i64)) (hi:Tryz.prog.info? e=some i) (H:i.zero=some z) (f:i.size=size) (k:i.bytes=bytes) (l:z.cells.size=size) (m:0<size) (p:bytes<=64) (h0:0<n) (I:n<=1000000)
  (q:a.eval s=.slice none 0 0) (J:a.eval x=.int .i64 n)
  (h:∀g c w',n<=c->St K w' (az (.slice (some ⟨g,0,none⟩) 0 c) e size 0 []::F)->wpList Tryz.prog ops Q rest (a.put o.dst (.slice (some ⟨g,0,none⟩) n c)) w'):wpList Tryz.prog ops Q (o::rest) a w:=by
 obtain⟨c,w',cur,L,v,y,A,B,M⟩:=ry (P:=Tryz.prog) w t u o.type e i z size bytes G hu hi H f k l m p n h0 I;have C:St K w' (az (.slice (some ⟨w.heap.size,0,none⟩) 0 c) e size 0 []::F):=
  D.abR M ⟨by simp,.inr ⟨w.heap.size,c,cur,rfl,Nat.zero_le _,A,Nat.zero_le _,y,B,by simp⟩⟩ (fun b p=>by simpa[az,Value.ownBlock] using p) (by simp[az,Value.ownBlock])
 refine wpList_plain j fun R O=>?_
 unfold Oper.wp execOp;simp only[E,resolve,invoke,builtin,Sem.run_bind,Sem.run_pure,Result.andThen_ok,List.map_toArray,List.map_cons,List.map_nil,q,J,L];exact O _ _ (h _ c w' v C)
theorem sY {ops:Array Oper}{rest:List Oper}{o:Oper}{a:Act}{Q:Exit->Act->World->Prop}(s x:Operand)(t e:TypeId)(i:TypeInfo)(z:Value)(size bytes m c:Nat)(b B:Addr)(news:List Value)(M:St K w F)
  (C:o.guard=none) (O:o.op=.call { callee:= .builtin .append,args:= #[s,x],argTypes:= #[t,t] })
  (R:Tryz.prog.underlying t=some (.slice e)) (hi:Tryz.prog.info? e=some i) (S:i.zero=some z) (n:i.size=size) (D:i.bytes=bytes) (E:z.cells.size=size) (G:0<size) (T:bytes<=64) (h0:0<m) (hn:m<=1000000)
  (H:a.eval s=.slice (some b) 0 0) (U:a.eval x=.slice (some B) m c) (hl:news.length=m*size) (p:∀j u,news[j]?=some u->w.cell? (B.add j)=some u)
  (h:∀q w',St K w' (az q e size m news::F)->wpList Tryz.prog ops Q rest (a.put o.dst q) w'):wpList Tryz.prog ops Q (o::rest) a w:=by
 have f:(0+m)*bytes<=140737488355328:=by
  calc (0+m)*bytes<=1000000*64:=Nat.mul_le_mul (by omega) T
   _<=140737488355328:=by decide
 obtain⟨q,w',V,l,v⟩:=run_append_arg_grows (P:=Tryz.prog) (w:=w) t o.type e i z size bytes R hi S n D E G b 0 0 [] (by simp) (fun j u X=>by simp at X) B m c news hl p (by omega) (by unfold maxLen;omega) f
 simp only[List.nil_append,Nat.zero_add]at l;have I:St K w' (az q e size m news::F):=by
  obtain⟨Y,L⟩:=l;rcases L with⟨_,L⟩|⟨g,cap,cur,J,Z,hc,r⟩
  ·omega
  ·have hlt:g<w'.heap.size:=iB hc
   refine M.new (ms:=[az q e size m news]) ⟨v.os,v.tape,v.output,v.size,fun k hk=>v.block k hk (by simp)⟩ (fun c' y =>?_) (fun b' A =>?_) ?_
   ·simp at y;subst y
    exact⟨Y,.inr ⟨g,cap,cur,J,Nat.zero_le _,hc,r⟩⟩
   ·rw[J]at A
    simp[cY,az,Value.ownBlock]at A;omega
   ·rw[J];simp[cY,az,Value.ownBlock]
 refine wpList_plain C fun K' hK=>?_
 unfold Oper.wp execOp;simp only[O,resolve,invoke,builtin,Sem.run_bind,Sem.run_pure,Result.andThen_ok,List.map_toArray,List.map_cons,List.map_nil,H,U,V];exact hK _ _ (h q w' I)
theorem Nl (n:Nat)(k:n<=1000000)(b:St K w F) :
  Calls Tryz.prog 161 #[.slice none 0 0,.int .i64 n] w fun e w' => ∃a c,e=.returned (.slice a 0 c)/\St K w' (az (.slice a 0 c) 69 2 0 []::F):=by
 by_cases h0:0<n
 ·obtain⟨l,f,h,i,j⟩:=info_parts ic
  have m:=ass f;have o:=ass h;have p:=ass i;have q:=ass j;clear f h i j;have s:=ass b;clear b;go_enter Tryz.func161,Tryz.ntmps161
  go_wp2_with (at_builtin;refine sX _ _ 41 3 69 l (.agg #[.string ⟨#[]⟩,.int .u64 0]) 2 24 n s.out rfl rfl Tryz.underlying41 Tryz.underlying3 m.out o.out p.out q.out rfl (by decide) (by decide) h0 k rfl rfl ?_)
  intro g c w' hc b;go_wp2
  go_ret;exact⟨_,_,rfl,b⟩
 ·obtain rfl:n=0:=by omega
  go_enter Tryz.func161,Tryz.ntmps161
  go_wp2
  go_ret;exact⟨none,0,rfl,b.cJ⟩
theorem Nn (b:Addr)(n cap:Nat)(w:World):(binOp .eql 41 (.slice (some b) n cap) (.slice none 0 0)).run Tryz.prog w=.ok (.bool false) w:=by kernel_rfl
theorem uG {b:Addr}{cap:Nat}{l:List Sl}(hl:eG w (some b) l)(q:0<l.length)(i:l.length<=1000000)(f:St K w F) :
  Calls Tryz.prog 164 #[.slice (some b) l.length cap] w fun e w' => ∃k c,e=.returned (.slice k l.length c)/\St K w' (az (.slice k l.length c) 69 2 l.length (aF l)::F):=by
 obtain⟨s,m,n,o,p⟩:=info_parts ic;have t:=ass m;have v:=ass n;have x:=ass o;have y:=ass p;clear m n o p;have z:=ass (f.pass (.cells #[] 69));have hl:=hl.same ((Below.refl w.heap.size w).alloc (Nat.le_refl _) (.cells #[] 69));have A:=ass (fX l);have B:Hid (∀j u,(aF l)[j]?=some u->(w.alloc (.cells #[] 69)).cell? (b.add j)=some u):=ass (fun j u hu=>by
  obtain⟨g,off,e,hc⟩:=hl.news j u hu;simp only[Option.some.injEq]at e;subst e;have:(⟨g,off,none⟩:Addr).add j=⟨g,off+j,none⟩:=by
   unfold Addr.add;split
   ·rename_i h;rw[h];rfl
   ·rfl
  rw[this];exact hc)
 clear f hl;have C:=Nn b l.length cap w;go_enter Tryz.func164,Tryz.ntmps164
 go_wp2_with (at_builtin;refine sY _ _ 41 69 s (.agg #[.string ⟨#[]⟩,.int .u64 0]) 2 24 l.length cap ⟨w.heap.size,0,none⟩ b (aF l) z.out rfl rfl Tryz.underlying41 t.out v.out x.out y.out rfl (by decide) (by decide) q i rfl rfl A.out B.out ?_)
 intro D w' f;obtain⟨k,c',rfl,_,_⟩:=f.aJ;go_wp2
 go_ret;exact⟨_,_,rfl,f⟩
def jb (X:Nat->List Sl):Nat->List Sl
 | 0=>[]
 | i+1=>jb X i++X i
theorem Cg {X:Nat->List Sl}{k:Nat}(h:∀i,i<k->(X i).length<=1000):∀j,j<=k->(jb X j).length<=j*1000
 | 0,_=>Nat.le_refl _
 | j+1,b=>by
  have e:=Cg h j (by omega)
  have f:=h j (by omega)
  show(jb X j++X j).length<=_
  rw[List.length_append];omega
theorem nD {bs:Nat}{A:Nat->Option Addr}{C:Nat->Nat}{X:Nat->List Sl}(k:Nat)(hk:k<=3)(hlen:∀i,i<k->(X i).length<=1000)
  (f:∀W R,St K W (R++F)->∀i,i<k->eG W (A i) (X i)/\W.cell? ⟨bs,i,none⟩=some (.slice (A i) (X i).length (C i))) (b:St K w F) :
  Calls Tryz.prog 132 #[.slice (some ⟨bs,0,none⟩) k k] w fun e w' => ∃a c,e=.returned (.slice a (jb X k).length c)/\St K w' (az (.slice a (jb X k).length c) 69 2 (jb X k).length (aF (jb X k))::F):=by
 obtain⟨z,s,t,u,v⟩:=info_parts ic;have B:=ass s;have D:=ass t;have G:=ass u;have H:=ass v;have h:=ass f;have n:=ass (Cg hlen);have x:=ass hlen;clear s t u v f hlen;go_enter Tryz.func132,Tryz.ntmps132
 go_wp2_with fail
 go_loopw [3,5,11] (fun v3 _ v11 wr=>∃j:Nat,j<=k/\v3=.int .i64 ((jb X j).length:Nat)/\v11=.int .i64 j/\St K wr F) (fun _ _ v11 _=>k-(intOf v11).toNat)
 case atStart=>exact⟨0,by omega,rfl,rfl,b⟩
 case round=>
  clear b;obtain⟨j,I,rfl,rfl,b⟩:=hrel;by_cases g:j<k
  ·obtain⟨_,y⟩:=h.out wr [] b j g
   have J:=n.out j (by omega)
   have L:=x.out j g;have e:(jb X (j+1)).length=(jb X j).length+(X j).length:=by show(jb X j++X j).length=_;rw[List.length_append]
   have E:=ass e;have hw:wrap64 (((jb X j).length:Int)+((X j).length:Int))=((jb X j).length:Int)+((X j).length:Int):=by unfold wrap64;omega
   clear e;go_wp2
   go_roundw
   case rel=>exact⟨j+1,by omega,by rw[E.out];go_num,by go_num,b⟩
   case measure=>simp[intOf];omega
  ·obtain rfl:j=k:=by omega
   have J:=n.out j (by omega)
   have q:=Nl (jb X j).length (by omega) b
   have Q:=ass q;clear q b;go_wp2_with fail
   refine(Q.out).mono ?_
   rintro e U ⟨a,c,rfl,b⟩;clear Q g I;go_wp2_with fail
   go_loopw [6,8,27] (fun v6 _ v27 wr=>∃(i:Nat) (a:Option Addr) (c:Nat),i<=j/\v6=.slice a (jb X i).length c/\v27=.int .i64 i/\St K wr (az (.slice a (jb X i).length c) 69 2 (jb X i).length (aF (jb X i))::F)) (fun _ _ v27 _=>j-(intOf v27).toNat)
   case atStart=>exact⟨0,a,c,by omega,rfl,rfl,b⟩
   case round=>
    clear b;obtain⟨i,a,c,hi,rfl,rfl,b⟩:=hrel;by_cases l:i<j
    ·obtain⟨m,y⟩:=h.out wr [_] b i l
     have L:=n.out i (by omega)
     have V:=x.out i l;have M:Hid (A i=none->(X i).length=0):=ass (fun e=>by rw[e]at m;rw[m.no];rfl)
     have O:=ass m.news;have o:=ass (lh (X i));have p:=ass (fX (X i));have E:Hid (aF (jb X (i+1))=aF (jb X i)++aF (X i)/\(jb X (i+1)).length=(jb X i).length+(X i).length):=ass ⟨by show aF (jb X i++X i)=_;simp[aF],by show(jb X i++X i).length=_;rw[List.length_append]⟩
     have P:=ass b;clear b m;go_wp2_with (at_builtin;refine cK _ _ 41 69 _ (jb X i).length (X i).length (C i) 2 24 _ (aF (X i)) (.agg #[.string ⟨#[]⟩,.int .u64 0]) z (A i) P.out rfl rfl Tryz.underlying41 B.out D.out G.out H.out rfl (by decide) rfl rfl p.out M.out O.out o.out (by omega) (by decide) ?_)
     intro Y w' b;rw[←E.out.1,←E.out.2]at b;obtain⟨S,c',T,_,_⟩:=b.aJ;subst T;clear y;go_wp2
     go_roundw
     case rel=>exact⟨i+1,S,c',by omega,rfl,by go_num,b⟩
     case measure=>simp[intOf];omega
    ·obtain rfl:i=j:=by omega
     go_wp2
     go_ret;exact⟨a,c,rfl,b⟩
end
def fc (l:List Sl)(key:ByteArray)(r:Int):List Sl:=l.take (fR l key)++⟨key,r⟩::l.drop (fR l key)
def aI (pg:Pg)(key:ByteArray)(r:Int):Pg:=⟨pg.aA,fc pg.sl key r,pg.hi,pg.la,pg.ri⟩
theorem dU (l:List Sl)(key:ByteArray)(r:Int):(fc l key r).length=l.length+1:=by
 have:=rq l key;unfold fc;rw[List.length_append,List.length_cons,List.length_take,List.length_drop];omega
theorem eG.take {W:World}{a:Option Addr}{l:List Sl}(h:eG W a l)(k:Nat):eG W a (l.take k):=by
 refine⟨by rw[List.length_take];have:=h.1;omega,fun i s b=>h.2 i s ?_⟩
 rw[List.getElem?_take]at b;split at b
 ·exact b
 ·cases b
theorem eG.drop {W:World}{g:Nat}{l:List Sl}(h:eG W (some ⟨g,0,none⟩) l)(k:Nat):eG W (some ⟨g,k*2,none⟩) (l.drop k):=by
 refine⟨by rw[List.length_drop];have:=h.1;omega,fun i s f=>?_⟩
 rw[List.getElem?_drop]at f;obtain⟨b,off,e,j,m,n⟩:=h.2 (k+i) s f;simp only[Option.some.injEq,Addr.mk.injEq,and_true]at e;obtain⟨rfl,rfl⟩:=e;refine⟨g,k*2,rfl,j,?_,?_⟩
 ·rw[←m];congr 2;omega
 ·rw[←n];congr 2;omega
theorem eG.nil {W:World}{a:Option Addr}:eG W a []:=⟨by simp,fun i s b=>by simp at b⟩
theorem eG.one {K:aM}{W:World}{F:List aC}{b:Nat}{key:ByteArray}{r:Int}(h:St K W (blk b (.cells #[.string key,.int .u64 r] 69)::F)):eG W (some ⟨b,0,none⟩) [⟨key,r⟩]:=by
 refine⟨by simp,fun i s e=>?_⟩
 cases i with
 | zero=>
  simp at e;subst e;exact⟨b,0,rfl,h.n0,h.k0 0,h.k0 1⟩
 | succ i=>simp at e
def oQ (K:aM)(REST:List aC)(bp:Nat)(pg kN:Pg)(va v0 v2:Value)(key:ByteArray)(r:Int)(N:Nat)(ρ:Nat->Option Value)(W:World):Prop:=
 ∃(b7 rz:Nat) (an:Option Addr) (cn:Nat),(∀v,ρ 7=some v->v=.slice (some ⟨b7,0,none⟩) 1 1)/\(∀v,ρ 12=some v->v=.slice (some ⟨rz,0,none⟩) 3 3)/\(∀v,ρ 13=some v->v=.slice an N cn) /\
  St K W (dO (ρ 7) (blk b7 (.cells #[.string key,.int .u64 r] 69))::dO (ρ 12) (blk rz (.cells #[v0,.slice (some ⟨b7,0,none⟩) 1 1,v2] 41))::dO (ρ 13) (az (.slice an N cn) 69 2 N (aF kN.sl)) ::
   blk bp (.cells (if (ρ 15).isSome then #[.int .i64 (kN).aA,(.slice an N cn),.string (kN).hi,.bool (kN).la,.int .u64 (kN).ri]else #[.int .i64 (pg).aA,va,.string (pg).hi,.bool (pg).la,.int .u64 (pg).ri]) 43)::REST)
section
variable {K:aM}{REST:List aC}{bp:Nat}{pg kN:Pg}{va v0 v2:Value}{key:ByteArray}{r:Int}{N:Nat}{ρ:Nat->Option Value}{W:World}{v7 v12 v13:Value}
theorem oQ.start (b:St K W (blk bp (.cells #[.int .i64 (pg).aA,va,.string (pg).hi,.bool (pg).la,.int .u64 (pg).ri] 43)::REST)):oQ K REST bp pg kN va v0 v2 key r N (fun _=>none) W:=
 ⟨0,0,none,0,fun v h=>(by cases h),fun v h=>(by cases h),fun v h=>(by cases h),b.empty.empty.empty⟩
theorem oQ.same {b:World}(h:oQ K REST bp pg kN va v0 v2 key r N ρ W)(e:Below W.heap.size W b):oQ K REST bp pg kN va v0 v2 key r N ρ b := by
 obtain⟨b7,f,g,i,j,e2,e3,k⟩:=h;exact⟨b7,f,g,i,j,e2,e3,k.same e⟩
theorem oQ.page (h:oQ K REST bp pg kN va v0 v2 key r N ρ W)(e:ρ 15=none):St K W (blk bp (.cells #[.int .i64 (pg).aA,va,.string (pg).hi,.bool (pg).la,.int .u64 (pg).ri] 43)::REST):=by
 obtain⟨b7,f,g,i,j,e2,e3,b⟩:=h;rw[e]at b;exact b.tail.tail.tail
theorem oQ.e7 (h:oQ K REST bp pg kN va v0 v2 key r N ρ W)(g:ρ 7=none)(b:ρ 12=none):oQ K REST bp pg kN va v0 v2 key r N (upd ρ 7 (.slice (some ⟨W.heap.size,0,none⟩) 1 1)) (W.alloc (.cells #[.string key,.int .u64 r] 69)):=by
 obtain⟨b7,e,i,j,k,e2,e3,f⟩:=h;rw[g,b]at f;refine⟨W.heap.size,e,i,j,fun v h=>by simpa[upd] using h.symm,fun v h=>?_,fun v h=>e3 v (by simpa[upd] using h),?_⟩
 ·have:ρ 12=some v:=by simpa[upd] using h
  rw[b]at this;cases this
 ·have:St K (W.alloc (.cells #[.string key,.int .u64 r] 69)) (dO (some (.slice (some ⟨W.heap.size,0,none⟩) 1 1)) (blk W.heap.size (.cells #[.string key,.int .u64 r] 69))::dO none (blk e (.cells #[v0,.slice (some ⟨W.heap.size,0,none⟩) 1 1,v2] 41))::_):=f.tail.made (.cells #[.string key,.int .u64 r] 69)
  simpa[upd,b] using this
theorem oQ.xB (h:oQ K REST bp pg kN va v0 v2 key r N ρ W)(f:ρ 7=some v7)(g:ρ 12=none):∃b7:Nat,v7=.slice (some ⟨b7,0,none⟩) 1 1 /\
  oQ K REST bp pg kN va v0 v2 key r N (upd ρ 12 (.slice (some ⟨W.heap.size,0,none⟩) 3 3)) (W.alloc (.cells #[v0,.slice (some ⟨b7,0,none⟩) 1 1,v2] 41)):=by
 obtain⟨b7,m,i,j,b,e2,e3,e⟩:=h;rw[g]at e;refine⟨b7,b v7 f,b7,W.heap.size,i,j,fun v h=>b v (by simpa[upd] using h),fun v h=>by simpa[upd] using h.symm,fun v h=>e3 v (by simpa[upd] using h),?_⟩
 have k:St K W (gW::dO (ρ 7) (blk b7 (.cells #[.string key,.int .u64 r] 69))::_):=e.b1;have l:=(k.tail.made (.cells #[v0,.slice (some ⟨b7,0,none⟩) 1 1,v2] 41)).b1;have:St K (W.alloc (.cells #[v0,.slice (some ⟨b7,0,none⟩) 1 1,v2] 41)) (dO (ρ 7) (blk b7 (.cells #[.string key,.int .u64 r] 69))::dO (some (.slice (some ⟨W.heap.size,0,none⟩) 3 3)) (blk W.heap.size (.cells #[v0,.slice (some ⟨b7,0,none⟩) 1 1,v2] 41))::_):=l;simpa[upd] using this
theorem oQ.Za (h:oQ K REST bp pg kN va v0 v2 key r N ρ W)(n:ρ 7=some v7)(j:ρ 12=some v12)(p:ρ 13=none)(o:ρ 15=none):∃b7 b:Nat,v12=.slice (some ⟨b,0,none⟩) 3 3 /\
  St K W (blk b7 (.cells #[.string key,.int .u64 r] 69)::blk b (.cells #[v0,.slice (some ⟨b7,0,none⟩) 1 1,v2] 41)::blk bp (.cells #[.int .i64 (pg).aA,va,.string (pg).hi,.bool (pg).la,.int .u64 (pg).ri] 43)::REST) /\
  ∀(k:Option Addr) (l:Nat) g,St K g (az (.slice k N l) 69 2 N (aF kN.sl)::blk b7 (.cells #[.string key,.int .u64 r] 69)::blk b (.cells #[v0,.slice (some ⟨b7,0,none⟩) 1 1,v2] 41)::blk bp (.cells #[.int .i64 (pg).aA,va,.string (pg).hi,.bool (pg).la,.int .u64 (pg).ri] 43)::REST)->oQ K REST bp pg kN va v0 v2 key r N (upd ρ 13 (.slice k N l)) g := by
 obtain⟨b7,b,k,l,q,e2,e3,i⟩:=h;rw[n,j,p,o]at i;have i:St K W (blk b7 (.cells #[.string key,.int .u64 r] 69)::blk b (.cells #[v0,.slice (some ⟨b7,0,none⟩) 1 1,v2] 41)::gW::blk bp (.cells #[.int .i64 (pg).aA,va,.string (pg).hi,.bool (pg).la,.int .u64 (pg).ri] 43)::REST):=i;refine⟨b7,b,e2 v12 j,(i.re [2,0,1,3] rfl).tail,fun e f g m => ⟨b7,b,e,f,fun v h=>q v (by simpa[upd] using h),fun v h=>e2 v (by simpa[upd] using h),fun v h=>by simpa[upd] using h.symm,?_⟩⟩
 have:St K g (dO (some v7) (blk b7 (.cells #[.string key,.int .u64 r] 69))::dO (some v12) (blk b (.cells #[v0,.slice (some ⟨b7,0,none⟩) 1 1,v2] 41))::dO (some (.slice e N f)) (az (.slice e N f) 69 2 N (aF kN.sl))::blk bp (.cells #[.int .i64 (pg).aA,va,.string (pg).hi,.bool (pg).la,.int .u64 (pg).ri] 43)::REST):=m.re [1,2,0,3] rfl;simpa[upd,n,j,o] using this
theorem oQ.Nj (h:oQ K REST bp pg kN va v0 v2 key r N ρ W)(k:ρ 13=some v13)(l:ρ 15=none):∃(b:Option Addr)(e:Nat)(i:List aC),v13=.slice b N e/\St K W (blk bp (.cells #[.int .i64 (pg).aA,va,.string (pg).hi,.bool (pg).la,.int .u64 (pg).ri] 43)::i) /\
  ∀f,St K f (blk bp (.cells #[.int .i64 (kN).aA,(.slice b N e),.string (kN).hi,.bool (kN).la,.int .u64 (kN).ri] 43)::i)->oQ K REST bp pg kN va v0 v2 key r N (upd ρ 15 undef) f := by
 obtain⟨b7,m,b,e,n,e2,e3,j⟩:=h;rw[l]at j;refine⟨b,e,_,e3 v13 k,j.b3,fun f g => ⟨b7,m,b,e,fun v h=>n v (by simpa[upd] using h),fun v h=>e2 v (by simpa[upd] using h),fun v h=>e3 v (by simpa[upd] using h),?_⟩⟩
 have:=g.u3;simpa[upd] using this
theorem oQ.last (h:oQ K REST bp pg kN va v0 v2 key r N ρ W)(b:∀e,e∈[7,12,13,15]->(ρ e).isSome=true):∃(f:Option Addr)(g:Nat),ρ 13=some (.slice f N g)/\(∃v,ρ 7=some v)/\(∃v,ρ 12=some v)/\(∃v,ρ 15=some v) /\
  St K W (az (.slice f N g) 69 2 N (aF kN.sl)::blk bp (.cells #[.int .i64 (kN).aA,(.slice f N g),.string (kN).hi,.bool (kN).la,.int .u64 (kN).ri] 43)::REST):=by
 obtain⟨v7,j⟩:=asv.1 (b 7 (by simp))
 obtain⟨v12,k⟩:=asv.1 (b 12 (by simp))
 obtain⟨v13,i⟩:=asv.1 (b 13 (by simp))
 obtain⟨v15,l⟩:=asv.1 (b 15 (by simp))
 obtain⟨b7,n,f,g,o,e2,e3,m⟩:=h;rw[j,k,i,l]at m;exact⟨f,g,by rw[i,e3 v13 i],⟨v7,j⟩,⟨v12,k⟩,⟨v15,l⟩,m.tail.tail⟩
end
theorem j7 (tmps:Array Value)(w:World)(b:Nat)(v0 v1 v2 v3 v4 u:Value)(hp:tmps[6]?=some (.pointer (some ⟨b,0,none⟩)))(e:tmps[7]?=some u)(hk:∀k,w.cell? ⟨b,k,none⟩=(#[v0,v1,v2,v3,v4]:Array Value)[k]?) :
  (results Tryz.f95 tmps).run Tryz.prog w=.ok (.tuple #[.agg #[v0,v1,v2,v3,v4],u]) w:=by
 simp[results,Tryz.results95,go_sem,hp,e,hk]
theorem oQ.rA {K:aM}{REST:List aC}{bp:Nat}{pg kN:Pg}{va v0 v2:Value}{key:ByteArray}{r:Int}{N:Nat}{ρ:Nat->Option Value}{W:World}(h:oQ K REST bp pg kN va v0 v2 key r N ρ W)(e:Nat)(he:e=1\/e=9)(v:Value):oQ K REST bp pg kN va v0 v2 key r N (upd ρ e v) W:=by
 rcases he with rfl|rfl
 ·simpa[oQ,upd] using h
 ·simpa[oQ,upd] using h
theorem vX {K:aM}{w:World}{F:List aC}{pg:Pg}{g:Nat}{lo n cap:Nat}{key:ByteArray}{r:Int}(h1:lo<=n)(h2:n<=cap)(h3:lo<cap)(M:n=pg.sl.length)(E:lo=fR pg.sl key)(H:decide (fR pg.sl key<iN pg.sl key)=false)(Y:kY pg.sl)(yE:n<=100)
  (k:St K w (az (.slice (some ⟨g,0,none⟩) n cap) 69 2 n (aF pg.sl)::F)) :
  Calls Tryz.prog 95 #[(.agg #[.int .i64 (pg).aA,(.slice (some ⟨g,0,none⟩) n cap),.string (pg).hi,.bool (pg).la,.int .u64 (pg).ri]),.string key,.int .u64 r] w fun e w' => ∃Z c',e=.returned (.tuple #[(.agg #[.int .i64 ((aI pg key r)).aA,(.slice Z (n+1) c'),.string ((aI pg key r)).hi,.bool ((aI pg key r)).la,.int .u64 ((aI pg key r)).ri]),.bool true])/\St K w' (az (.slice Z (n+1) c') 69 2 (n+1) (aF (aI pg key r).sl)::az (.slice (some ⟨g,0,none⟩) n cap) 69 2 n (aF pg.sl)::F):=by
 have k:=(k.made (.cells #[.int .i64 (pg).aA,(.slice (some ⟨g,0,none⟩) n cap),.string (pg).hi,.bool (pg).la,.int .u64 (pg).ri] 43)).made (.cells #[.int .i64 0,.slice none 0 0,.string ⟨#[]⟩,.bool false,.int .u64 0] 43);rw[World.size_alloc]at k;have tE:Hid (∀W R,St K W (R++az (.slice (some ⟨g,0,none⟩) n cap) 69 2 n (aF pg.sl)::F)->eG W (some ⟨g,0,none⟩) pg.sl):=ass (fun W R h=>(h.right).cM (by omega))
 have q:=nu (cap:=cap) (key:=key) _ (tE.out _ [_,_] k) Y;rw[H,←M,←E]at q;have Q:=ass q;have O:=ass M;have Gq:=ass E;clear q H M E Y;obtain⟨bp,mV⟩:∃bp,bp=w.heap.size:=⟨_,rfl⟩;go_enter Tryz.func95,Tryz.ntmps95
 go_wp2_with fail
 refine(bJ k Q.out).mono ?_
 clear k Q;rintro e w2 ⟨rfl,k⟩;go_upto_region 4 with(fail)
 rw[←mV]at k ⊢;have Hs:=ass (k.re [1,0] rfl);clear k mV;refine cX [false,true,false,false,false,false,false,true,false,true,false,false,true,true,false,true] (fun|1=>some (.slice (some ⟨g,0,none⟩) n cap)|9=>some (.slice (some ⟨g,0,none⟩) n cap)|_=>none) [1,7,9,12,13,15] (fun|12=>[7] | 13=>[12] | 15=>[1,9,13] | _=>[])
  (oQ K (blk (bp+1) (.cells #[.int .i64 0,.slice none 0 0,.string ⟨#[]⟩,.bool false,.int .u64 0] 43)::az (.slice (some ⟨g,0,none⟩) n cap) 69 2 n (aF pg.sl)::F) bp pg (aI pg key r) (.slice (some ⟨g,0,none⟩) n cap) (.slice (some ⟨g,0,none⟩) lo cap) (.slice (some ⟨g,lo*2,none⟩) (n-lo) (cap-lo)) key r (n+1))
  (fun _=>True) ?an4 (by kernel_rfl) ?hBlt ?Hlt ?aeD ?aik ?ail ?aim ?ain ?aio
 case hBlt=>as_aux_lemma=>kernel_rfl
 case Hlt=>
  intro z _;simp only[cF];repeat (go_big_quiet_step (fail))
  refine wpQuiet_nil ?_
  rfl
 case aeD=>rfl
 case aik=>exact oQ.start Hs.out
 case ail=>exact fun ρ z h=>trivial
 case aim=>exact fun ρ z W3 h hb=>h.same hb
 case ain=>
  refine⟨?aip,?aiq,?air,?aeE,?aeF,?aeG,trivial⟩;case aip=>
   intro o x ρ z h b l f af j;obtain rfl:=asy x;replace j:af=aj _ ρ [] _:=j;have p:ρ 15=none:=b.none (by simp) (show 1∈[1,9,13]by simp) l
   have kp:=(h.page p).k0;have G:=ass (h.rA 1 (.inl rfl));simp only[aj]at j;subst j;clear h b f l p;go_wp2
   exact⟨rfl,_,rfl,fun u hu=>asy hu,G.out _⟩
  case air=>
   intro o x ρ z h b l f af j;obtain rfl:=asy x;replace j:af=aj _ ρ [] _:=j;have p:ρ 15=none:=b.none (by simp) (show 9∈[1,9,13]by simp) l
   have kp:=(h.page p).k0;have G:=ass (h.rA 9 (.inr rfl));simp only[aj]at j;subst j;clear h b f l p;go_wp2
   exact⟨rfl,_,rfl,fun u hu=>asy hu,G.out _⟩
  case aiq=>
   intro o x ρ z h b t f af j;obtain rfl:=asy x;replace j:af=aj _ ρ [] _:=j;have v:ρ 12=none:=b.none (by simp) (show 7∈[7]by simp) t
   have G:=ass (h.e7 t v);simp only[aj]at j;subst j;clear h b f t v;go_wp2
   exact⟨rfl,_,rfl,fun u hu=>(by cases hu),G.out⟩
  case aeE=>
   intro o x ρ z h b v f af j;obtain rfl:=asy x;replace j:af=aj _ ρ [7] _:=j;obtain⟨v7,t⟩:=asv.1 (f 7 (by show _∈[7];simp))
   obtain⟨b7,rfl,hk⟩:=h.xB t v;have G:=ass hk;simp only[aj,t,Option.getD_some,aP,Act.put,asz]at j;subst j;clear h hk b f t v;go_wp2
   exact⟨rfl,_,rfl,fun u hu=>(by cases hu),G.out⟩
  case aeF=>
   intro o x ρ z h b y f af j;obtain rfl:=asy x;replace j:af=aj _ ρ [12] _:=j;obtain⟨v12,v⟩:=asv.1 (f 12 (by show _∈[12];simp))
   obtain⟨v7,t⟩:=asv.1 (b 12 (by simp) (by rw[v];rfl) 7 (by show _∈[7];simp))
   have p:ρ 15=none:=b.none (by simp) (show 13∈[1,9,13]by simp) y
   obtain⟨b7,rz,rfl,k,m⟩:=h.Za t v y p;have P:=ass m;have Ch:Hid (jb (fun i=>if i=0 then pg.sl.take lo else if i=1 then [⟨key,r⟩]else pg.sl.drop lo) 3=(aI pg key r).sl/\(aI pg key r).sl.length=n+1):=ass ⟨by
    show(([]++pg.sl.take lo)++[⟨key,r⟩])++pg.sl.drop lo=fc pg.sl key r
    unfold fc;rw[←Gq.out];simp,by show(fc pg.sl key r).length=_;rw[dU,O.out]⟩
   have S:=nD (bs:=rz) (A:=fun i=>if i=0 then(some ⟨g,0,none⟩)else if i=1 then some ⟨b7,0,none⟩else(some ⟨g,lo*2,none⟩)) (C:=fun i=>if i=0 then cap else if i=1 then 1 else(cap-lo)) (X:=fun i=>if i=0 then pg.sl.take lo else if i=1 then [⟨key,r⟩]else pg.sl.drop lo) 3 (by omega) (fun i _=>by
     have:=O.out;match i with
     | 0=>simp only[if_true,List.length_take];omega
     | 1=>simp
     | i+2=>simp only[show i+2≠0 by omega,show i+2≠1 by omega,if_false,List.length_drop];omega) (fun W R T i hi=>by
     have U := O.out;have I:=tE.out W (R++[_,_,_,_]) (by simpa using T)
     have V:=(T.right).k1;match i,hi with
     | 0,_=>
      refine⟨I.take lo,?_⟩;have:=V 0;simpa[List.length_take,show min lo pg.sl.length=lo by omega] using this
     | 1,_=>
      refine⟨eG.one (T.right),?_⟩;have:=V 1;simpa using this
     | 2,_=>
      refine⟨?_,?_⟩
      ·show eG W (some ⟨g,lo*2,none⟩) (pg.sl.drop lo)
       exact I.drop lo
      ·have:=V 2
       simpa[List.length_drop,←U] using this) k
   rw[Ch.out.1,Ch.out.2]at S;have Qc:=ass S;simp only[aj,v,Option.getD_some,aP,Act.put,asz]at j;subst j;clear h k S m b f t v y p;go_wp2_with fail
   refine(Qc.out).mono ?_
   rintro e W3 ⟨B,D,rfl,J⟩;have eT:=ass J;clear J;go_wp2
   exact⟨rfl,_,rfl,fun u hu=>(by cases hu),P.out B D W3 eT.out⟩
  case aeG=>
   intro o x ρ z h b p f af j;obtain rfl:=asy x;replace j:af=aj _ ρ [1,9,13] _:=j;obtain⟨v1,l⟩:=asv.1 (f 1 (by show _∈[1,9,13];simp))
   obtain⟨v9,L⟩:=asv.1 (f 9 (by show _∈[1,9,13];simp))
   obtain⟨v13,y⟩:=asv.1 (f 13 (by show _∈[1,9,13];simp))
   obtain⟨B,D,R',rfl,k,m⟩:=h.Nj y p;simp only[aj,l,L,y,Option.getD_some,aP,Act.put,asz]at j;subst j;have k0:=k.k0;have f0:=k.f0;have P:=ass m;have gJ:Hid (St K _ (blk bp (.cells #[.int .i64 ((aI pg key r)).aA,(.slice B (n+1) D),.string ((aI pg key r)).hi,.bool ((aI pg key r)).la,.int .u64 ((aI pg key r)).ri] 43)::R')):=ass (k.aK 1 (.slice B (n+1) D));clear h k m b f l L y p;go_wp2
   exact⟨rfl,undef,rfl,fun u hu=>(by cases hu),P.out _ gJ.out⟩
 case aio=>
  intro ρ z h s;obtain⟨v1,l⟩:=asv.1 (s 1 (by simp))
  obtain⟨v9,L⟩:=asv.1 (s 9 (by simp))
  obtain⟨B,D,y,⟨v7,t⟩,⟨v12,v⟩,⟨v15,p⟩,k⟩:=h.last (fun e he=>s e (by simp at he ⊢;omega))
  simp only[aj,l,t,L,v,y,p,Option.getD_some,aP,Act.put,asz];clear h s l t L v y p;have kp:=k.k1;have kz:=k.k2;have fz:=k.f2;have k:St K _ (blk (bp+1) (.cells #[.int .i64 ((aI pg key r)).aA,(.slice B (n+1) D),.string ((aI pg key r)).hi,.bool ((aI pg key r)).la,.int .u64 ((aI pg key r)).ri] 43)::_):=((((k.b2.aK 0 (.int .i64 (aI pg key r).aA)).aK 1 (.slice B (n+1) D)).aK 2 (.string (aI pg key r).hi)).aK 3 (.bool (aI pg key r).la)).aK 4 (.int .u64 (aI pg key r).ri);go_wp2
  refine bodyPost_ret (j7 _ _ (bp+1) _ _ _ _ _ _ rfl rfl k.k0) rfl ?_
  exact⟨B,D,rfl,(k.re [1,2,0] rfl).b9.b9⟩
theorem vY {K:aM}{w:World}{F:List aC}{pg:Pg}{g:Nat}{n:Nat}{key:ByteArray}{r:Int}(h1:n<=n)(h2:n<=n)(h4:0<n)(L:n=pg.sl.length)(E:n=fR pg.sl key)(H:decide (fR pg.sl key<iN pg.sl key)=false)(Y:kY pg.sl)(yE:n<=100)
  (k:St K w (az (.slice (some ⟨g,0,none⟩) n n) 69 2 n (aF pg.sl)::F)) :
  Calls Tryz.prog 95 #[(.agg #[.int .i64 (pg).aA,(.slice (some ⟨g,0,none⟩) n n),.string (pg).hi,.bool (pg).la,.int .u64 (pg).ri]),.string key,.int .u64 r] w fun e w' => ∃Z c',e=.returned (.tuple #[(.agg #[.int .i64 ((aI pg key r)).aA,(.slice Z (n+1) c'),.string ((aI pg key r)).hi,.bool ((aI pg key r)).la,.int .u64 ((aI pg key r)).ri]),.bool true])/\St K w' (az (.slice Z (n+1) c') 69 2 (n+1) (aF (aI pg key r).sl)::az (.slice (some ⟨g,0,none⟩) n n) 69 2 n (aF pg.sl)::F):=by
 have k:=(k.made (.cells #[.int .i64 (pg).aA,(.slice (some ⟨g,0,none⟩) n n),.string (pg).hi,.bool (pg).la,.int .u64 (pg).ri] 43)).made (.cells #[.int .i64 0,.slice none 0 0,.string ⟨#[]⟩,.bool false,.int .u64 0] 43);rw[World.size_alloc]at k;have tE:Hid (∀W R,St K W (R++az (.slice (some ⟨g,0,none⟩) n n) 69 2 n (aF pg.sl)::F)->eG W (some ⟨g,0,none⟩) pg.sl):=ass (fun W R h=>(h.right).cM (by omega))
 have q:=nu (cap:=n) (key:=key) _ (tE.out _ [_,_] k) Y;rw[H,←L,←E]at q;have Q:=ass q;have M:=ass L;have Gq:=ass E;clear q H L E Y;obtain⟨bp,mV⟩:∃bp,bp=w.heap.size:=⟨_,rfl⟩;go_enter Tryz.func95,Tryz.ntmps95
 go_wp2_with fail
 refine(bJ k Q.out).mono ?_
 clear k Q;rintro e w2 ⟨rfl,k⟩;go_upto_region 4 with(fail)
 rw[←mV]at k ⊢;have Hs:=ass (k.re [1,0] rfl);clear k mV;refine cX [false,true,false,false,false,false,false,true,false,true,false,false,true,true,false,true] (fun|1=>some (.slice (some ⟨g,0,none⟩) n n)|9=>some (.slice (some ⟨g,0,none⟩) n n)|_=>none) [1,7,9,12,13,15] (fun|12=>[7] | 13=>[12] | 15=>[1,9,13] | _=>[])
  (oQ K (blk (bp+1) (.cells #[.int .i64 0,.slice none 0 0,.string ⟨#[]⟩,.bool false,.int .u64 0] 43)::az (.slice (some ⟨g,0,none⟩) n n) 69 2 n (aF pg.sl)::F) bp pg (aI pg key r) (.slice (some ⟨g,0,none⟩) n n) (.slice (some ⟨g,0,none⟩) n n) (.slice (some ⟨g,0,none⟩) 0 0) key r (n+1))
  (fun _=>True) ?an5 (by kernel_rfl) ?ais ?Heq ?aeH ?ait ?aiu ?aiv ?aiw ?aix
 case ais=>as_aux_lemma=>kernel_rfl
 case Heq=>
  intro z _;simp only[cF];repeat (go_big_quiet_step (fail))
  refine wpQuiet_nil ?_
  rfl
 case aeH=>rfl
 case ait=>exact oQ.start Hs.out
 case aiu=>exact fun ρ z h=>trivial
 case aiv=>exact fun ρ z W3 h hb=>h.same hb
 case aiw=>
  refine⟨?aiy,?aiz,?aiA,?aeI,?aeJ,?aeK,trivial⟩;case aiy=>
   intro o x ρ z h b l f af j;obtain rfl:=asy x;replace j:af=aj _ ρ [] _:=j;have p:ρ 15=none:=b.none (by simp) (show 1∈[1,9,13]by simp) l
   have kp:=(h.page p).k0;have G:=ass (h.rA 1 (.inl rfl));simp only[aj]at j;subst j;clear h b f l p;go_wp2
   exact⟨rfl,_,rfl,fun u hu=>asy hu,G.out _⟩
  case aiA=>
   intro o x ρ z h b l f af j;obtain rfl:=asy x;replace j:af=aj _ ρ [] _:=j;have p:ρ 15=none:=b.none (by simp) (show 9∈[1,9,13]by simp) l
   have kp:=(h.page p).k0;have G:=ass (h.rA 9 (.inr rfl));simp only[aj]at j;subst j;clear h b f l p;go_wp2
   exact⟨rfl,_,rfl,fun u hu=>asy hu,G.out _⟩
  case aiz=>
   intro o x ρ z h b t f af j;obtain rfl:=asy x;replace j:af=aj _ ρ [] _:=j;have v:ρ 12=none:=b.none (by simp) (show 7∈[7]by simp) t
   have G:=ass (h.e7 t v);simp only[aj]at j;subst j;clear h b f t v;go_wp2
   exact⟨rfl,_,rfl,fun u hu=>(by cases hu),G.out⟩
  case aeI=>
   intro o x ρ z h b v f af j;obtain rfl:=asy x;replace j:af=aj _ ρ [7] _:=j;obtain⟨v7,t⟩:=asv.1 (f 7 (by show _∈[7];simp))
   obtain⟨b7,rfl,hk⟩:=h.xB t v;have G:=ass hk;simp only[aj,t,Option.getD_some,aP,Act.put,asz]at j;subst j;clear h hk b f t v;go_wp2
   exact⟨rfl,_,rfl,fun u hu=>(by cases hu),G.out⟩
  case aeJ=>
   intro o x ρ z h b y f af j;obtain rfl:=asy x;replace j:af=aj _ ρ [12] _:=j;obtain⟨v12,v⟩:=asv.1 (f 12 (by show _∈[12];simp))
   obtain⟨v7,t⟩:=asv.1 (b 12 (by simp) (by rw[v];rfl) 7 (by show _∈[7];simp))
   have p:ρ 15=none:=b.none (by simp) (show 13∈[1,9,13]by simp) y
   obtain⟨b7,rz,rfl,k,m⟩:=h.Za t v y p;have O:=ass m;have Ch:Hid (jb (fun i=>if i=0 then pg.sl.take n else if i=1 then [⟨key,r⟩]else pg.sl.drop n) 3=(aI pg key r).sl/\(aI pg key r).sl.length=n+1):=ass ⟨by
    show(([]++pg.sl.take n)++[⟨key,r⟩])++pg.sl.drop n=fc pg.sl key r
    unfold fc;rw[←Gq.out];simp,by show(fc pg.sl key r).length=_;rw[dU,M.out]⟩
   have P:=nD (bs:=rz) (A:=fun i=>if i=0 then(some ⟨g,0,none⟩)else if i=1 then some ⟨b7,0,none⟩else(some ⟨g,0,none⟩)) (C:=fun i=>if i=0 then n else if i=1 then 1 else 0) (X:=fun i=>if i=0 then pg.sl.take n else if i=1 then [⟨key,r⟩]else pg.sl.drop n) 3 (by omega) (fun i _=>by
     have:=M.out;match i with
     | 0=>simp only[if_true,List.length_take];omega
     | 1=>simp
     | i+2=>simp only[show i+2≠0 by omega,show i+2≠1 by omega,if_false,List.length_drop];omega) (fun W R S i hi=>by
     have T := M.out;have U:=tE.out W (R++[_,_,_,_]) (by simpa using S)
     have V:=(S.right).k1;match i,hi with
     | 0,_=>
      refine⟨U.take n,?_⟩;have:=V 0;simpa[List.length_take,show min n pg.sl.length=n by omega] using this
     | 1,_=>
      refine⟨eG.one (S.right),?_⟩;have:=V 1;simpa using this
     | 2,_=>
      refine⟨?_,?_⟩
      ·show eG W (some ⟨g,0,none⟩) (pg.sl.drop n)
       rw[List.drop_eq_nil_of_le (by omega)];exact eG.nil
      ·have:=V 2
       simpa[List.length_drop,←T] using this) k
   rw[Ch.out.1,Ch.out.2]at P;have Qc:=ass P;simp only[aj,v,Option.getD_some,aP,Act.put,asz]at j;subst j;clear h k P m b f t v y p;go_wp2_with fail
   refine(Qc.out).mono ?_
   rintro e W3 ⟨B,D,rfl,I⟩;have eT:=ass I;clear I;go_wp2
   exact⟨rfl,_,rfl,fun u hu=>(by cases hu),O.out B D W3 eT.out⟩
  case aeK=>
   intro o x ρ z h b p f af j;obtain rfl:=asy x;replace j:af=aj _ ρ [1,9,13] _:=j;obtain⟨v1,l⟩:=asv.1 (f 1 (by show _∈[1,9,13];simp))
   obtain⟨v9,J⟩:=asv.1 (f 9 (by show _∈[1,9,13];simp))
   obtain⟨v13,y⟩:=asv.1 (f 13 (by show _∈[1,9,13];simp))
   obtain⟨B,D,R',rfl,k,m⟩:=h.Nj y p;simp only[aj,l,J,y,Option.getD_some,aP,Act.put,asz]at j;subst j;have k0:=k.k0;have f0:=k.f0;have O:=ass m;have gJ:Hid (St K _ (blk bp (.cells #[.int .i64 ((aI pg key r)).aA,(.slice B (n+1) D),.string ((aI pg key r)).hi,.bool ((aI pg key r)).la,.int .u64 ((aI pg key r)).ri] 43)::R')):=ass (k.aK 1 (.slice B (n+1) D));clear h k m b f l J y p;go_wp2
   exact⟨rfl,undef,rfl,fun u hu=>(by cases hu),O.out _ gJ.out⟩
 case aix=>
  intro ρ z h s;obtain⟨v1,l⟩:=asv.1 (s 1 (by simp))
  obtain⟨v9,J⟩:=asv.1 (s 9 (by simp))
  obtain⟨B,D,y,⟨v7,t⟩,⟨v12,v⟩,⟨v15,p⟩,k⟩:=h.last (fun e he=>s e (by simp at he ⊢;omega))
  simp only[aj,l,t,J,v,y,p,Option.getD_some,aP,Act.put,asz];clear h s l t J v y p;have kp:=k.k1;have kz:=k.k2;have fz:=k.f2;have k:St K _ (blk (bp+1) (.cells #[.int .i64 ((aI pg key r)).aA,(.slice B (n+1) D),.string ((aI pg key r)).hi,.bool ((aI pg key r)).la,.int .u64 ((aI pg key r)).ri] 43)::_):=((((k.b2.aK 0 (.int .i64 (aI pg key r).aA)).aK 1 (.slice B (n+1) D)).aK 2 (.string (aI pg key r).hi)).aK 3 (.bool (aI pg key r).la)).aK 4 (.int .u64 (aI pg key r).ri);go_wp2
  refine bodyPost_ret (j7 _ _ (bp+1) _ _ _ _ _ _ rfl rfl k.k0) rfl ?_
  exact⟨B,D,rfl,(k.re [1,2,0] rfl).b9.b9⟩
theorem oT {K:aM}{w:World}{F:List aC}{pg:Pg}{a:Option Addr}{key:ByteArray}{r:Int}(h1:0<=0)(h2:0<=0)  (I:0=pg.sl.length)(B:0=fR pg.sl key)(E:decide (fR pg.sl key<iN pg.sl key)=false)(U:kY pg.sl)(yE:0<=100)
  (j:St K w (az (.slice a 0 0) 69 2 0 (aF pg.sl)::F)) :
  Calls Tryz.prog 95 #[(.agg #[.int .i64 (pg).aA,(.slice a 0 0),.string (pg).hi,.bool (pg).la,.int .u64 (pg).ri]),.string key,.int .u64 r] w fun e w' => ∃V c',e=.returned (.tuple #[(.agg #[.int .i64 ((aI pg key r)).aA,(.slice V (0+1) c'),.string ((aI pg key r)).hi,.bool ((aI pg key r)).la,.int .u64 ((aI pg key r)).ri]),.bool true])/\St K w' (az (.slice V (0+1) c') 69 2 (0+1) (aF (aI pg key r).sl)::az (.slice a 0 0) 69 2 0 (aF pg.sl)::F):=by
 have j:=(j.made (.cells #[.int .i64 (pg).aA,(.slice a 0 0),.string (pg).hi,.bool (pg).la,.int .u64 (pg).ri] 43)).made (.cells #[.int .i64 0,.slice none 0 0,.string ⟨#[]⟩,.bool false,.int .u64 0] 43);rw[World.size_alloc]at j;have Y:Hid (∀W R,St K W (R++az (.slice a 0 0) 69 2 0 (aF pg.sl)::F)->eG W a pg.sl):=ass (fun W R h=>(h.right).cM (by omega))
 have q:=nu (cap:=0) (key:=key) _ (Y.out _ [_,_] j) U;rw[E,←I,←B]at q;have Q:=ass q;have J:=ass I;have Gq:=ass B;clear q E I B U;obtain⟨bp,Z⟩:∃bp,bp=w.heap.size:=⟨_,rfl⟩;go_enter Tryz.func95,Tryz.ntmps95
 go_wp2_with fail
 refine(bJ j Q.out).mono ?_
 clear j Q;rintro e w2 ⟨rfl,j⟩;go_upto_region 4 with(fail)
 rw[←Z]at j ⊢;have Hs:=ass (j.re [1,0] rfl);clear j Z;refine cX [false,true,false,false,false,false,false,true,false,true,false,false,true,true,false,true] (fun|1=>some (.slice a 0 0)|9=>some (.slice a 0 0)|_=>none) [1,7,9,12,13,15] (fun|12=>[7] | 13=>[12] | 15=>[1,9,13] | _=>[])
  (oQ K (blk (bp+1) (.cells #[.int .i64 0,.slice none 0 0,.string ⟨#[]⟩,.bool false,.int .u64 0] 43)::az (.slice a 0 0) 69 2 0 (aF pg.sl)::F) bp pg (aI pg key r) (.slice a 0 0) (.slice a 0 0) (.slice a 0 0) key r (0+1))
  (fun _=>True) ?an7 (by kernel_rfl) ?aiB ?Hze ?aeL ?aiC ?aiD ?aiE ?aiF ?aiG
 case aiB=>as_aux_lemma=>kernel_rfl
 case Hze=>
  intro x _;simp only[cF];repeat (go_big_quiet_step (fail))
  refine wpQuiet_nil ?_
  rfl
 case aeL=>rfl
 case aiC=>exact oQ.start Hs.out
 case aiD=>exact fun ρ x h=>trivial
 case aiE=>exact fun ρ x W3 h hb=>h.same hb
 case aiF=>
  refine⟨?aiH,?aiI,?aiJ,?aeM,?aeN,?aeO,trivial⟩;case aiH=>
   intro o t ρ x h b k f af g;obtain rfl:=asy t;replace g:af=aj _ ρ [] _:=g;have m:ρ 15=none:=b.none (by simp) (show 1∈[1,9,13]by simp) k
   have kp:=(h.page m).k0;have D:=ass (h.rA 1 (.inl rfl));simp only[aj]at g;subst g;clear h b f k m;go_wp2
   exact⟨rfl,_,rfl,fun u hu=>asy hu,D.out _⟩
  case aiJ=>
   intro o t ρ x h b k f af g;obtain rfl:=asy t;replace g:af=aj _ ρ [] _:=g;have m:ρ 15=none:=b.none (by simp) (show 9∈[1,9,13]by simp) k
   have kp:=(h.page m).k0;have D:=ass (h.rA 9 (.inr rfl));simp only[aj]at g;subst g;clear h b f k m;go_wp2
   exact⟨rfl,_,rfl,fun u hu=>asy hu,D.out _⟩
  case aiI=>
   intro o t ρ x h b p f af g;obtain rfl:=asy t;replace g:af=aj _ ρ [] _:=g;have s:ρ 12=none:=b.none (by simp) (show 7∈[7]by simp) p
   have D:=ass (h.e7 p s);simp only[aj]at g;subst g;clear h b f p s;go_wp2
   exact⟨rfl,_,rfl,fun u hu=>(by cases hu),D.out⟩
  case aeM=>
   intro o t ρ x h b s f af g;obtain rfl:=asy t;replace g:af=aj _ ρ [7] _:=g;obtain⟨v7,p⟩:=asv.1 (f 7 (by show _∈[7];simp))
   obtain⟨b7,rfl,hk⟩:=h.xB p s;have D:=ass hk;simp only[aj,p,Option.getD_some,aP,Act.put,asz]at g;subst g;clear h hk b f p s;go_wp2
   exact⟨rfl,_,rfl,fun u hu=>(by cases hu),D.out⟩
  case aeN=>
   intro o t ρ x h b v f af g;obtain rfl:=asy t;replace g:af=aj _ ρ [12] _:=g;obtain⟨v12,s⟩:=asv.1 (f 12 (by show _∈[12];simp))
   obtain⟨v7,p⟩:=asv.1 (b 12 (by simp) (by rw[s];rfl) 7 (by show _∈[7];simp))
   have m:ρ 15=none:=b.none (by simp) (show 13∈[1,9,13]by simp) v
   obtain⟨b7,rz,rfl,j,l⟩:=h.Za p s v m;have L:=ass l;have Ch:Hid (jb (fun i=>if i=0 then pg.sl.take 0 else if i=1 then [⟨key,r⟩]else pg.sl.drop 0) 3=(aI pg key r).sl/\(aI pg key r).sl.length=0+1):=ass ⟨by
    show(([]++pg.sl.take 0)++[⟨key,r⟩])++pg.sl.drop 0=fc pg.sl key r
    unfold fc;rw[←Gq.out];simp,by show(fc pg.sl key r).length=_;rw[dU,J.out]⟩
   have M:=nD (bs:=rz) (A:=fun i=>if i=0 then a else if i=1 then some ⟨b7,0,none⟩else a) (C:=fun i=>if i=0 then 0 else if i=1 then 1 else 0) (X:=fun i=>if i=0 then pg.sl.take 0 else if i=1 then [⟨key,r⟩]else pg.sl.drop 0) 3 (by omega) (fun i _=>by
     have:=J.out;match i with
     | 0=>simp only[if_true,List.length_take];omega
     | 1=>simp
     | i+2=>simp only[show i+2≠0 by omega,show i+2≠1 by omega,if_false,List.length_drop];omega) (fun W R O i hi=>by
     have P := J.out;have S:=Y.out W (R++[_,_,_,_]) (by simpa using O)
     have T:=(O.right).k1;match i,hi with
     | 0,_=>
      refine⟨S.take 0,?_⟩;have:=T 0;simpa[List.length_take,show min 0 pg.sl.length=0 by omega] using this
     | 1,_=>
      refine⟨eG.one (O.right),?_⟩;have:=T 1;simpa using this
     | 2,_=>
      refine⟨?_,?_⟩
      ·show eG W a (pg.sl.drop 0)
       rw[List.drop_eq_nil_of_le (by omega)];exact eG.nil
      ·have:=T 2
       simpa[List.length_drop,←P] using this) j
   rw[Ch.out.1,Ch.out.2]at M;have Qc:=ass M;simp only[aj,s,Option.getD_some,aP,Act.put,asz]at g;subst g;clear h j M l b f p s v m;go_wp2_with fail
   refine(Qc.out).mono ?_
   rintro e W3 ⟨y,z,rfl,G⟩;have eT:=ass G;clear G;go_wp2
   exact⟨rfl,_,rfl,fun u hu=>(by cases hu),L.out y z W3 eT.out⟩
  case aeO=>
   intro o t ρ x h b m f af g;obtain rfl:=asy t;replace g:af=aj _ ρ [1,9,13] _:=g;obtain⟨v1,k⟩:=asv.1 (f 1 (by show _∈[1,9,13];simp))
   obtain⟨v9,H⟩:=asv.1 (f 9 (by show _∈[1,9,13];simp))
   obtain⟨v13,v⟩:=asv.1 (f 13 (by show _∈[1,9,13];simp))
   obtain⟨y,z,R',rfl,j,l⟩:=h.Nj v m;simp only[aj,k,H,v,Option.getD_some,aP,Act.put,asz]at g;subst g;have k0:=j.k0;have f0:=j.f0;have L:=ass l;have gJ:Hid (St K _ (blk bp (.cells #[.int .i64 ((aI pg key r)).aA,(.slice y (0+1) z),.string ((aI pg key r)).hi,.bool ((aI pg key r)).la,.int .u64 ((aI pg key r)).ri] 43)::R')):=ass (j.aK 1 (.slice y (0+1) z));clear h j l b f k H v m;go_wp2
   exact⟨rfl,undef,rfl,fun u hu=>(by cases hu),L.out _ gJ.out⟩
 case aiG=>
  intro ρ x h n;obtain⟨v1,k⟩:=asv.1 (n 1 (by simp))
  obtain⟨v9,H⟩:=asv.1 (n 9 (by simp))
  obtain⟨y,z,v,⟨v7,p⟩,⟨v12,s⟩,⟨v15,m⟩,j⟩:=h.last (fun e he=>n e (by simp at he ⊢;omega))
  simp only[aj,k,p,H,s,v,m,Option.getD_some,aP,Act.put,asz];clear h n k p H s v m;have kp:=j.k1;have kz:=j.k2;have fz:=j.f2;have j:St K _ (blk (bp+1) (.cells #[.int .i64 ((aI pg key r)).aA,(.slice y (0+1) z),.string ((aI pg key r)).hi,.bool ((aI pg key r)).la,.int .u64 ((aI pg key r)).ri] 43)::_):=((((j.b2.aK 0 (.int .i64 (aI pg key r).aA)).aK 1 (.slice y (0+1) z)).aK 2 (.string (aI pg key r).hi)).aK 3 (.bool (aI pg key r).la)).aK 4 (.int .u64 (aI pg key r).ri);go_wp2
  refine bodyPost_ret (j7 _ _ (bp+1) _ _ _ _ _ _ rfl rfl j.k0) rfl ?_
  exact⟨y,z,rfl,(j.re [1,2,0] rfl).b9.b9⟩
theorem vZ {K:aM}{w:World}{F:List aC}{pg:Pg}{a:Option Addr}{cap:Nat}{key:ByteArray}{r:Int}(b:decide (fR pg.sl key<iN pg.sl key)=false)(i:kY pg.sl)(k:pg.sl.length<=100)
  (f:St K w (bz (.slice a pg.sl.length cap) pg::F)) :
  Calls Tryz.prog 95 #[(.agg #[.int .i64 (pg).aA,(.slice a pg.sl.length cap),.string (pg).hi,.bool (pg).la,.int .u64 (pg).ri]),.string key,.int .u64 r] w fun e w' => ∃l c',e=.returned (.tuple #[(.agg #[.int .i64 ((aI pg key r)).aA,(.slice l (aI pg key r).sl.length c'),.string ((aI pg key r)).hi,.bool ((aI pg key r)).la,.int .u64 ((aI pg key r)).ri]),.bool true])/\St K w' (bz (.slice l (aI pg key r).sl.length c') (aI pg key r)::bz (.slice a pg.sl.length cap) pg::F):=by
 have hl:=rq pg.sl key;have e:(aI pg key r).sl.length=pg.sl.length+1:=dU _ _ _;unfold bz;replace f:St K w (az (.slice a pg.sl.length cap) 69 2 pg.sl.length (aF pg.sl)::F):=f;rw[e];rcases(show St K w (az (.slice a pg.sl.length cap) 69 2 pg.sl.length (aF pg.sl)::F)from f).xA with⟨rfl,h0,rfl⟩|⟨g,rfl,hc⟩
 ·rw[h0]at f ⊢
  exact oT (Nat.le_refl _) (Nat.le_refl _) h0.symm (by omega) b i (by omega) f
 ·rcases(show fR pg.sl key<cap\/(fR pg.sl key=cap/\0<cap)\/cap=0 by omega)with h|⟨h,m⟩|h
  ·exact vX hl hc h rfl rfl b i k f
  ·have j:cap=pg.sl.length:=by omega
   subst j;exact vY (Nat.le_refl _) (Nat.le_refl _) m rfl h.symm b i k f
  ·have h0:pg.sl.length=0:=by omega
   subst h;rw[h0]at f ⊢;exact oT (Nat.le_refl _) (Nat.le_refl _) h0.symm (by omega) b i (by omega) f
theorem Zb (a:ByteArray)(b:ByteArray):cA a (b.extract 0 0)=false:=by
 have:b.extract 0 0=⟨#[]⟩:=by
  apply ByteArray.ext
  rw[ByteArray.data_extract];simp
 rw[this];exact jX a
theorem Zc (a b:ByteArray)(p:b.size<=1000000)(w:World):Calls Tryz.prog 163 #[.string a,.string b] w fun e w' => e=.returned (.string (l6 a b))/\w=w' := by
 obtain⟨r,g⟩:∃r,r=l6 a b:=⟨_,rfl⟩;rw[←g];have j:Hid (r=eY a b b.size 1):=ass (by
  rw[g];unfold l6;show(if cA a (b.extract 0 0)then _ else eY a b b.size (0+1))=_
  rw[Zb];rfl)
 clear g;go_enter Tryz.func163,Tryz.ntmps163
 go_wp2
 go_loopw [5] (fun v5 wr=>∃n:Nat,v5=.int .i64 n/\1<=n/\n<=b.size+1/\Hid (r=eY a b (b.size+1-n) n)/\wr=w) (fun v5 _=>b.size+1-(intOf v5).toNat)
 case atStart=>exact⟨1,rfl,by omega,by omega,ass j.out,rfl⟩
 case round=>
  obtain⟨n,rfl,k,q,h,rfl⟩:=hrel;by_cases l:n<=b.size
  ·have e:r=if cA a (b.extract 0 n)then b.extract 0 n else eY a b (b.size+1-(n+1)) (n+1):=by
    rw[h.out,show b.size+1-n=(b.size+1-(n+1))+1 by omega];rfl
   have hE:=ass e;clear e;cases f:cA a (b.extract 0 n)with
   | true=>
    rw[f]at hE;have s:=gO f;have m:=jL (Gn f).symm;go_wp2
    go_ret;exact⟨by rw[hE.out];rfl,rfl⟩
   | false=>
    rw[f]at hE;have vV:=ass (show r=eY a b (b.size+1-(n+1)) (n+1)from hE.out)
    cases o:cA (b.extract 0 n) a with
    | true=>
     go_wp2
     go_roundw
     case rel=>exact⟨n+1,by go_num,by omega,by omega,vV,trivial⟩
     case measure=>simp[intOf];omega
    | false=>
     have i:=gP o f;have m:((b.extract 0 n).toList == a.toList)=true:=by rw[i];exact beq_self_eq_true _
     clear i;go_wp2
     go_roundw
     case rel=>exact⟨n+1,by go_num,by omega,by omega,vV,trivial⟩
     case measure=>simp[intOf];omega
  ·obtain rfl:n=b.size+1:=by omega
   rw[Nat.sub_self]at h;go_wp2
   go_ret;exact⟨by rw[h.out];rfl,rfl⟩
def gm (n:Nat):Nat:=n-n / 2
def bM (pg:Pg):ByteArray:=match pg.sl[gm pg.sl.length-1]?,pg.sl[gm pg.sl.length]? with
 | some x,some y=>if pg.aA=0 then l6 x.k y.k else y.k
 | _,_=>⟨#[]⟩
def ed (pg:Pg)(right:Int):Pg:=⟨pg.aA,pg.sl.take (gm pg.sl.length),bM pg,false,right⟩
def cZ (pg:Pg):Pg:=⟨pg.aA,pg.sl.drop (gm pg.sl.length),pg.hi,pg.la,pg.ri⟩
def uI (K:aM)(REST:List aC)(pa:Array Value)(ρ:Nat->Option Value)(W:World):Prop:=
 ∃(b2 b3:Nat),(∀v,ρ 2=some v->v=(.pointer (some ⟨b2,0,none⟩)))/\(∀v,ρ 3=some v->v=(.pointer (some ⟨b3,0,none⟩))) /\
  St K W (dO (ρ 2) (blk b2 (.cells (if (ρ 4).isSome then pa else #[.int .i64 0,.slice none 0 0,.string ⟨#[]⟩,.bool false,.int .u64 0]) 43))::dO (ρ 3) (blk b3 (.cells (if (ρ 5).isSome then pa else #[.int .i64 0,.slice none 0 0,.string ⟨#[]⟩,.bool false,.int .u64 0]) 43))::REST)
section
variable {K:aM}{REST:List aC}{pa:Array Value}{ρ:Nat->Option Value}{W:World}{v2 v3:Value}
theorem uI.start (b:St K W REST):uI K REST pa (fun _=>none) W:=
 ⟨0,0,fun v h=>(by cases h),fun v h=>(by cases h),b.empty.empty⟩
theorem uI.same {b:World}(h:uI K REST pa ρ W)(e:Below W.heap.size W b):uI K REST pa ρ b := by
 obtain⟨b2,b3,f,e2,g⟩:=h;exact⟨b2,b3,f,e2,g.same e⟩
theorem uI.rest (h:uI K REST pa ρ W):St K W REST:=by
 obtain⟨b2,b3,e,e2,b⟩:=h;exact b.tail.tail
theorem uI.e2 (h:uI K REST pa ρ W)(e:ρ 2=none)(f:ρ 4=none):uI K REST pa (upd ρ 2 (.pointer (some ⟨W.heap.size,0,none⟩))) (W.alloc (.cells #[.int .i64 0,.slice none 0 0,.string ⟨#[]⟩,.bool false,.int .u64 0] 43)):=by
 obtain⟨b2,b3,g,e2,b⟩:=h;rw[e]at b;refine⟨W.heap.size,b3,fun v h=>by simpa[upd] using h.symm,fun v h=>e2 v (by simpa[upd] using h),?_⟩
 have:St K (W.alloc (.cells #[.int .i64 0,.slice none 0 0,.string ⟨#[]⟩,.bool false,.int .u64 0] 43)) (dO (some (.pointer (some ⟨W.heap.size,0,none⟩))) (blk W.heap.size (.cells #[.int .i64 0,.slice none 0 0,.string ⟨#[]⟩,.bool false,.int .u64 0] 43))::_):=b.tail.made (.cells #[.int .i64 0,.slice none 0 0,.string ⟨#[]⟩,.bool false,.int .u64 0] 43);simpa[upd,f] using this
theorem uI.e3 (h:uI K REST pa ρ W)(e:ρ 3=none)(f:ρ 5=none):uI K REST pa (upd ρ 3 (.pointer (some ⟨W.heap.size,0,none⟩))) (W.alloc (.cells #[.int .i64 0,.slice none 0 0,.string ⟨#[]⟩,.bool false,.int .u64 0] 43)):=by
 obtain⟨b2,b3,g,e2,b⟩:=h;rw[e]at b;refine⟨b2,W.heap.size,fun v h=>g v (by simpa[upd] using h),fun v h=>by simpa[upd] using h.symm,?_⟩
 have i:St K W (gW::dO (ρ 2) (blk b2 (.cells (if (ρ 4).isSome then pa else #[.int .i64 0,.slice none 0 0,.string ⟨#[]⟩,.bool false,.int .u64 0]) 43))::REST):=b.b1
 have:St K (W.alloc (.cells #[.int .i64 0,.slice none 0 0,.string ⟨#[]⟩,.bool false,.int .u64 0] 43)) (dO (ρ 2) (blk b2 (.cells (if (ρ 4).isSome then pa else #[.int .i64 0,.slice none 0 0,.string ⟨#[]⟩,.bool false,.int .u64 0]) 43))::dO (some (.pointer (some ⟨W.heap.size,0,none⟩))) (blk W.heap.size (.cells #[.int .i64 0,.slice none 0 0,.string ⟨#[]⟩,.bool false,.int .u64 0] 43))::REST):=(i.tail.made (.cells #[.int .i64 0,.slice none 0 0,.string ⟨#[]⟩,.bool false,.int .u64 0] 43)).b1
 simpa[upd,f] using this
theorem uI.e4 (h:uI K REST pa ρ W)(g:ρ 2=some v2)(l:ρ 4=none):∃(b:Nat)(j:List aC),v2=(.pointer (some ⟨b,0,none⟩))/\St K W (blk b (.cells #[.int .i64 0,.slice none 0 0,.string ⟨#[]⟩,.bool false,.int .u64 0] 43)::j)/\∀e,St K e (blk b (.cells pa 43)::j)->uI K REST pa (upd ρ 4 undef) e := by
 obtain⟨b2,b3,k,e2,f⟩:=h;rw[g,l]at f;have f:St K W (blk b2 (.cells #[.int .i64 0,.slice none 0 0,.string ⟨#[]⟩,.bool false,.int .u64 0] 43)::_):=f;refine⟨b2,_,k v2 g,f,fun e i => ⟨b2,b3,fun v h=>k v (by simpa[upd] using h),fun v h=>e2 v (by simpa[upd] using h),?_⟩⟩
 have:St K e (dO (some v2) (blk b2 (.cells pa 43))::_):=i;simpa[upd,g] using this
theorem uI.e5 (h:uI K REST pa ρ W)(g:ρ 3=some v3)(k:ρ 5=none):∃(b:Nat)(j:List aC),v3=(.pointer (some ⟨b,0,none⟩))/\St K W (blk b (.cells #[.int .i64 0,.slice none 0 0,.string ⟨#[]⟩,.bool false,.int .u64 0] 43)::j)/\∀e,St K e (blk b (.cells pa 43)::j)->uI K REST pa (upd ρ 5 undef) e := by
 obtain⟨b2,b3,l,e2,f⟩:=h;rw[g,k]at f;have f:St K W (_::blk b3 (.cells #[.int .i64 0,.slice none 0 0,.string ⟨#[]⟩,.bool false,.int .u64 0] 43)::_):=f;refine⟨b3,_,e2 v3 g,f.b1,fun e i => ⟨b2,b3,fun v h=>l v (by simpa[upd] using h),fun v h=>e2 v (by simpa[upd] using h),?_⟩⟩
 have:St K e (dO (ρ 2) (blk b2 (.cells (if (ρ 4).isSome then pa else #[.int .i64 0,.slice none 0 0,.string ⟨#[]⟩,.bool false,.int .u64 0]) 43))::dO (some v3) (blk b3 (.cells pa 43))::REST):=i.b1
 simpa[upd,g] using this
theorem uI.last (h:uI K REST pa ρ W)(b:∀e,e∈[2,3,4,5]->(ρ e).isSome=true):∃b2 b3:Nat,ρ 2=some (.pointer (some ⟨b2,0,none⟩))/\ρ 3=some (.pointer (some ⟨b3,0,none⟩))/\(∃v,ρ 4=some v)/\(∃v,ρ 5=some v) /\
  St K W (blk b2 (.cells pa 43)::blk b3 (.cells pa 43)::REST):=by
 obtain⟨v2,f⟩:=asv.1 (b 2 (by simp))
 obtain⟨v3,g⟩:=asv.1 (b 3 (by simp))
 obtain⟨v4,i⟩:=asv.1 (b 4 (by simp))
 obtain⟨v5,j⟩:=asv.1 (b 5 (by simp))
 obtain⟨b2,b3,l,e2,k⟩:=h;rw[f,g,i,j]at k;exact⟨b2,b3,by rw[f,l v2 f],by rw[g,e2 v3 g],⟨v4,i⟩,⟨v5,j⟩,k⟩
end
def SqR (K:aM)(b1 b2:Nat)(p1 p2:Array Value)(REST:List aC)(ρ:Nat->Option Value)(W:World):Prop:=
 St K W (blk b1 (.cells (if (ρ 3).isSome then p1 else #[.int .i64 0,.slice none 0 0,.string ⟨#[]⟩,.bool false,.int .u64 0]) 43)::blk b2 (.cells (if (ρ 4).isSome then p2 else #[.int .i64 0,.slice none 0 0,.string ⟨#[]⟩,.bool false,.int .u64 0]) 43)::REST)
theorem wh (tmps:Array Value)(w:World)(b1 b2:Nat)(v0 v1 v2 v3 v4 u0 u1 u2 u3 u4 x y:Value)(hp:tmps[4]?=some (.pointer (some ⟨b1,0,none⟩)))(b:tmps[5]?=some (.pointer (some ⟨b2,0,none⟩)))(e:tmps[6]?=some x)(f:tmps[7]?=some y)
  (hk:∀k,w.cell? ⟨b1,k,none⟩=(#[v0,v1,v2,v3,v4]:Array Value)[k]?) (hl:∀k,w.cell? ⟨b2,k,none⟩=(#[u0,u1,u2,u3,u4]:Array Value)[k]?) :
  (results Tryz.f135 tmps).run Tryz.prog w=.ok (.tuple #[.agg #[v0,v1,v2,v3,v4],.agg #[u0,u1,u2,u3,u4],x,y]) w:=by
 simp[results,Tryz.results135,go_sem,hp,b,e,f,hk,hl]
section
variable {K:aM}{w:World}{F:List aC}{pg:Pg}{a:Option Addr}{cap:Nat}{right:Int}
theorem yF (h2:2<=pg.sl.length)(yE:pg.sl.length<=100)(hsz:∀s,s∈pg.sl->s.k.size<=1000000)(f:St K w (bz (.slice a pg.sl.length cap) pg::F)) :
  Calls Tryz.prog 135 #[(.agg #[.int .i64 (pg).aA,(.slice a pg.sl.length cap),.string (pg).hi,.bool (pg).la,.int .u64 (pg).ri]),.int .u64 right] w fun e w' => ∃p n u z,e=.returned (.tuple #[(.agg #[.int .i64 ((ed pg right)).aA,(.slice p (ed pg right).sl.length n),.string ((ed pg right)).hi,.bool ((ed pg right)).la,.int .u64 ((ed pg right)).ri]),(.agg #[.int .i64 ((cZ pg)).aA,(.slice u (cZ pg).sl.length z),.string ((cZ pg)).hi,.bool ((cZ pg)).la,.int .u64 ((cZ pg)).ri]),.string (bM pg),.bool true]) /\
   St K w' (bz (.slice p (ed pg right).sl.length n) (ed pg right)::bz (.slice u (cZ pg).sl.length z) (cZ pg)::bz (.slice a pg.sl.length cap) pg::F):=by
 obtain⟨g,hg,hc⟩:∃g,a=some ⟨g,0,none⟩/\pg.sl.length<=cap:=by
  rcases(show St K w (az (.slice a pg.sl.length cap) 69 2 pg.sl.length (aF pg.sl)::F)from f).xA with⟨_,h0,_⟩|h
  ·omega
  ·exact h
 subst hg;obtain⟨k,hk⟩:∃k,k=gm pg.sl.length:=⟨_,rfl⟩;have hk1:1<=k/\k<pg.sl.length:=by rw[hk];unfold gm;omega
 obtain⟨x,hx⟩:∃x,pg.sl[k-1]?=some x:=⟨_,asx (by omega)⟩
 obtain⟨y,hy⟩:∃y,pg.sl[k]?=some y:=⟨_,asx hk1.2⟩;have B:bM pg=if pg.aA=0 then l6 x.k y.k else y.k:=by unfold bM;rw[←hk,hx,hy]
 have U:(pg.sl.length:Int)-(pg.sl.length:Int) / 2=(k:Int):=by rw[hk];unfold gm;omega
 have Hki:=ass U;clear U;have Hy:=ass hy;have Hx:=ass hx;have O:=ass B;have Hk:=ass hk;have f:=((f.made (.cells #[.int .i64 (pg).aA,(.slice (some ⟨g,0,none⟩) pg.sl.length cap),.string (pg).hi,.bool (pg).la,.int .u64 (pg).ri] 43)).made (.cells #[.int .i64 0,.slice none 0 0,.string ⟨#[]⟩,.bool false,.int .u64 0] 43)).made (.cells #[.int .i64 0,.slice none 0 0,.string ⟨#[]⟩,.bool false,.int .u64 0] 43);simp only[World.size_alloc]at f;clear hx hy B hk;obtain⟨bp,mV⟩:∃bp,bp=w.heap.size:=⟨_,rfl⟩;rw[show w.heap.size+1+1=w.heap.size+2 by omega,←mV]at f
 have f:St K _ (blk (bp+2) (.cells #[.int .i64 0,.slice none 0 0,.string ⟨#[]⟩,.bool false,.int .u64 0] 43)::blk (bp+1) (.cells #[.int .i64 0,.slice none 0 0,.string ⟨#[]⟩,.bool false,.int .u64 0] 43)::blk bp (.cells #[.int .i64 (pg).aA,(.slice (some ⟨g,0,none⟩) pg.sl.length cap),.string (pg).hi,.bool (pg).la,.int .u64 (pg).ri] 43)::az (.slice (some ⟨g,0,none⟩) pg.sl.length cap) 69 2 pg.sl.length (aF pg.sl)::F):=f;go_enter Tryz.func135,Tryz.ntmps135
 go_upto_region 4 with(fail)
 rw[show w.heap.size+1+1=w.heap.size+2 by omega,←mV]
 clear mV;go_cut [9] (fun v V=>v=.int .i64 k/\St K V (blk (bp+2) (.cells #[.int .i64 0,.slice none 0 0,.string ⟨#[]⟩,.bool false,.int .u64 0] 43)::blk (bp+1) (.cells #[.int .i64 0,.slice none 0 0,.string ⟨#[]⟩,.bool false,.int .u64 0] 43)::blk bp (.cells #[.int .i64 (pg).aA,(.slice (some ⟨g,0,none⟩) pg.sl.length cap),.string (pg).hi,.bool (pg).la,.int .u64 (pg).ri] 43)::az (.slice (some ⟨g,0,none⟩) pg.sl.length cap) 69 2 pg.sl.length (aF pg.sl)::F))
 case first=>
  as_aux_lemma=>
  go_wp2
  go_meet;exact⟨by rw[Hki.out],f⟩
 case rest=>
 clear f;obtain⟨rfl,f⟩:=hcut;have L:=f.k2;have n:=(show St K wc (az _ 69 2 pg.sl.length (aF pg.sl)::F)from f.tail.tail.tail).bG (fM _ _ _ Hy.out).1
 have c0:=(show St K wc (az _ 69 2 pg.sl.length (aF pg.sl)::F)from f.tail.tail.tail).bG (fM _ _ _ Hx.out).1
 go_upto_region 6 with(fail)
 clear n;go_cut [32] (fun v V=>v=.bool (pg.aA == 0)/\St K V (blk (bp+2) (.cells #[.int .i64 0,.slice none 0 0,.string ⟨#[]⟩,.bool false,.int .u64 0] 43)::blk (bp+1) (.cells #[.int .i64 0,.slice none 0 0,.string ⟨#[]⟩,.bool false,.int .u64 0] 43)::blk bp (.cells #[.int .i64 (pg).aA,(.slice (some ⟨g,0,none⟩) pg.sl.length cap),.string (pg).hi,.bool (pg).la,.int .u64 (pg).ri] 43)::az (.slice (some ⟨g,0,none⟩) pg.sl.length cap) 69 2 pg.sl.length (aF pg.sl)::F))
 case first=>
  as_aux_lemma=>
  clear c0;go_wp2
  go_meet;exact⟨rfl,f⟩
 case rest=>
 clear f L c0;obtain⟨rfl,f⟩:=hcut;apply_assumption
 go_cut [10] (fun v V=>v=.string (bM pg)/\St K V (blk (bp+2) (.cells #[.int .i64 0,.slice none 0 0,.string ⟨#[]⟩,.bool false,.int .u64 0] 43)::blk (bp+1) (.cells #[.int .i64 0,.slice none 0 0,.string ⟨#[]⟩,.bool false,.int .u64 0] 43)::blk bp (.cells #[.int .i64 (pg).aA,(.slice (some ⟨g,0,none⟩) pg.sl.length cap),.string (pg).hi,.bool (pg).la,.int .u64 (pg).ri] 43)::az (.slice (some ⟨g,0,none⟩) pg.sl.length cap) 69 2 pg.sl.length (aF pg.sl)::F))
 case first=>
  as_aux_lemma=>
  by_cases I:pg.aA=0
  ·have X:(pg.aA == 0)=true:=by rw[I];rfl
   have L:=f.k2;have c0:=(show St K _ (az _ 69 2 pg.sl.length (aF pg.sl)::F)from f.tail.tail.tail).bG (fM _ _ _ Hx.out).1
   have Hf:Hid (bM pg=l6 x.k y.k):=ass (by rw[O.out,if_pos I])
   have Qs:=ass (fun w=>Zc x.k y.k (hsz y (asw Hy.out)) w)
   clear I;rw[X];clear X;go_wp2_with fail
   refine(Qs.out _).mono ?_
   rintro e w3 ⟨rfl,rfl⟩;clear L c0;go_wp2
   go_meet;exact⟨by rw[Hf.out],f⟩
  ·have X:(pg.aA == 0)=false:=by simp[I]
   have Hf:Hid (bM pg=y.k):=ass (by rw[O.out,if_neg I])
   clear I;rw[X];clear X;go_wp2
   go_meet;exact⟨by rw[Hf.out],f⟩
 case rest=>
 clear f;obtain⟨rfl,f⟩:=hcut;obtain⟨sep,B⟩:∃sep,sep=bM pg:=⟨_,rfl⟩;rw[←B];have Hsp:=ass B;clear B O;go_upto_region 8 with(fail)
 have T:=ass f;clear f;refine aX [false,false,true,true,true,true] [2,3,4,5] (fun|4=>[2] | 5=>[3] | _=>[])
  (uI K (blk (bp+2) (.cells #[.int .i64 0,.slice none 0 0,.string ⟨#[]⟩,.bool false,.int .u64 0] 43)::blk (bp+1) (.cells #[.int .i64 0,.slice none 0 0,.string ⟨#[]⟩,.bool false,.int .u64 0] 43)::blk bp (.cells #[.int .i64 (pg).aA,(.slice (some ⟨g,0,none⟩) pg.sl.length cap),.string (pg).hi,.bool (pg).la,.int .u64 (pg).ri] 43)::az (.slice (some ⟨g,0,none⟩) pg.sl.length cap) 69 2 pg.sl.length (aF pg.sl)::F) #[.int .i64 (pg).aA,(.slice (some ⟨g,0,none⟩) pg.sl.length cap),.string (pg).hi,.bool (pg).la,.int .u64 (pg).ri])
  (fun W=>St K W (blk (bp+2) (.cells #[.int .i64 0,.slice none 0 0,.string ⟨#[]⟩,.bool false,.int .u64 0] 43)::blk (bp+1) (.cells #[.int .i64 0,.slice none 0 0,.string ⟨#[]⟩,.bool false,.int .u64 0] 43)::blk bp (.cells #[.int .i64 (pg).aA,(.slice (some ⟨g,0,none⟩) pg.sl.length cap),.string (pg).hi,.bool (pg).la,.int .u64 (pg).ri] 43)::az (.slice (some ⟨g,0,none⟩) pg.sl.length cap) 69 2 pg.sl.length (aF pg.sl)::F)) ?aS (by kernel_rfl) ?hB ?H ?ja ?h0 ?hI ?hR ?hE ?hQ
 case hB=>as_aux_lemma=>kernel_rfl
 case H=>
  intro D f;have L:=f.k2;clear f;simp only[cG];repeat (go_big_quiet_step (fail))
  refine wpQuiet_nil ?_
  rfl
 case ja=>rfl
 case h0=>exact uI.start T.out
 case hI=>exact fun ρ D h=>h.rest
 case hR=>exact fun ρ D W3 h hb=>h.same hb
 case hE=>
  refine⟨?e2,?e3,?e4,?e5,trivial⟩;case e2=>
   intro o J ρ D h l A m af j;obtain rfl:=asy J;replace j:af=aj _ ρ [] _:=j;have G:ρ 4=none:=l.none (by simp) (show 2∈[2]by simp) A
   have P:=ass (h.e2 A G);simp only[aj]at j;subst j;clear h l m A G;go_wp2
   exact⟨rfl,_,rfl,P.out⟩
  case e3=>
   intro o J ρ D h l i m af j;obtain rfl:=asy J;replace j:af=aj _ ρ [] _:=j;have M:ρ 5=none:=l.none (by simp) (show 3∈[3]by simp) i
   have P:=ass (h.e3 i M);simp only[aj]at j;subst j;clear h l m i M;go_wp2
   exact⟨rfl,_,rfl,P.out⟩
  case e4=>
   intro o J ρ D h l G m af j;obtain rfl:=asy J;replace j:af=aj _ ρ [2] _:=j;obtain⟨v2,A⟩:=asv.1 (m 2 (by show _∈[2];simp))
   obtain⟨b,R',rfl,f,t⟩:=h.e4 A G;simp only[aj,A,Option.getD_some,aP,Act.put,asz]at j;subst j;have k0:=f.k0;have f0:=f.f0;have Ig:=ass t;have R:Hid (St K _ (blk b (.cells #[.int .i64 (pg).aA,(.slice (some ⟨g,0,none⟩) pg.sl.length cap),.string (pg).hi,.bool (pg).la,.int .u64 (pg).ri] 43)::R')):=ass (((((f.aK 0 (.int .i64 pg.aA)).aK 1 (.slice (some ⟨g,0,none⟩) pg.sl.length cap)).aK 2 (.string pg.hi)).aK 3 (.bool pg.la)).aK 4 (.int .u64 pg.ri));clear h f t l m A G;go_wp2
   exact⟨rfl,undef,rfl,Ig.out _ R.out⟩
  case e5=>
   intro o J ρ D h l M m af j;obtain rfl:=asy J;replace j:af=aj _ ρ [3] _:=j;obtain⟨v3,i⟩:=asv.1 (m 3 (by show _∈[3];simp))
   obtain⟨b,R',rfl,f,t⟩:=h.e5 i M;simp only[aj,i,Option.getD_some,aP,Act.put,asz]at j;subst j;have k0:=f.k0;have f0:=f.f0;have Ig:=ass t;have R:Hid (St K _ (blk b (.cells #[.int .i64 (pg).aA,(.slice (some ⟨g,0,none⟩) pg.sl.length cap),.string (pg).hi,.bool (pg).la,.int .u64 (pg).ri] 43)::R')):=ass (((((f.aK 0 (.int .i64 pg.aA)).aK 1 (.slice (some ⟨g,0,none⟩) pg.sl.length cap)).aK 2 (.string pg.hi)).aK 3 (.bool pg.la)).aK 4 (.int .u64 pg.ri));clear h f t l m i M;go_wp2
   exact⟨rfl,undef,rfl,Ig.out _ R.out⟩
 case hQ=>
 intro ρ D h C;obtain⟨b2,b3,A,i,⟨v4,G⟩,⟨v5,M⟩,f⟩:=h.last C;simp only[aj,A,i,G,M,Option.getD_some,aP,Act.put,asz];clear h C A i G M T;have L:=f.tail.tail.k2;have Y:=(show St K D (az (.slice (some ⟨g,0,none⟩) pg.sl.length cap) 69 2 pg.sl.length (aF pg.sl)::F)from f.tail.tail.tail.tail.tail).cM (by omega)
 have q:=uG (cap:=cap) (Y.take k) (by rw[List.length_take];omega) (by rw[List.length_take];omega) f
 rw[List.length_take,show min k pg.sl.length=k by omega]at q
 have Q:=ass q;clear q f Y;go_wp2_with fail
 refine(Q.out).mono ?_
 clear Q L;rintro e w4 ⟨p,n,rfl,f⟩;have kb:=f.k1;have fb:=f.f1;have f:St K _ (blk b2 (.cells #[.int .i64 pg.aA,.slice p k n,.string sep,.bool false,.int .u64 right] 43)::az (.slice p k n) 69 2 k (aF (pg.sl.take k))::blk b3 (.cells #[.int .i64 (pg).aA,(.slice (some ⟨g,0,none⟩) pg.sl.length cap),.string (pg).hi,.bool (pg).la,.int .u64 (pg).ri] 43)::blk (bp+2) (.cells #[.int .i64 0,.slice none 0 0,.string ⟨#[]⟩,.bool false,.int .u64 0] 43)::blk (bp+1) (.cells #[.int .i64 0,.slice none 0 0,.string ⟨#[]⟩,.bool false,.int .u64 0] 43)::blk bp (.cells #[.int .i64 (pg).aA,(.slice (some ⟨g,0,none⟩) pg.sl.length cap),.string (pg).hi,.bool (pg).la,.int .u64 (pg).ri] 43)::az (.slice (some ⟨g,0,none⟩) pg.sl.length cap) 69 2 pg.sl.length (aF pg.sl)::F):=(((f.b1.aK 1 (.slice p k n)).aK 2 (.string sep)).aK 3 (.bool false)).aK 4 (.int .u64 right);go_upto_region 10 with(fail)
 clear kb fb;have L:=f.tail.tail.tail.k2;have Y:=(show St K _ (az (.slice (some ⟨g,0,none⟩) pg.sl.length cap) 69 2 pg.sl.length (aF pg.sl)::F)from f.tail.tail.tail.tail.tail.tail).cM (by omega)
 have q:=uG (cap:=cap-k) (Y.drop k) (by rw[List.length_drop];omega) (by rw[List.length_drop];omega) f
 rw[List.length_drop]at q;have Q:=ass q;have T:=ass f;clear q f Y;go_wp2_with fail
 refine(Q.out).mono ?_
 clear Q L T;rintro e w5 ⟨u,z,rfl,f⟩;have kb:=f.tail.k2;have fb:=f.tail.f2;have f:St K _ (blk b3 (.cells #[.int .i64 pg.aA,.slice u (pg.sl.length-k) z,.string pg.hi,.bool pg.la,.int .u64 pg.ri] 43)::az (.slice u (pg.sl.length-k) z) 69 2 (pg.sl.length-k) (aF (pg.sl.drop k))::blk b2 (.cells #[.int .i64 pg.aA,.slice p k n,.string sep,.bool false,.int .u64 right] 43)::az (.slice p k n) 69 2 k (aF (pg.sl.take k))::blk (bp+2) (.cells #[.int .i64 0,.slice none 0 0,.string ⟨#[]⟩,.bool false,.int .u64 0] 43)::blk (bp+1) (.cells #[.int .i64 0,.slice none 0 0,.string ⟨#[]⟩,.bool false,.int .u64 0] 43)::blk bp (.cells #[.int .i64 (pg).aA,(.slice (some ⟨g,0,none⟩) pg.sl.length cap),.string (pg).hi,.bool (pg).la,.int .u64 (pg).ri] 43)::az (.slice (some ⟨g,0,none⟩) pg.sl.length cap) 69 2 pg.sl.length (aF pg.sl)::F):=f.b3.aK 1 (.slice u (pg.sl.length-k) z);go_upto_region 11 with(fail)
 clear kb fb;have T:=ass (f.re [5,4,0,1,2,3,6,7] rfl);clear f;refine aX [false,false,false,true,true,false,false] [3,4] (fun _=>[])
  (SqR K (bp+1) (bp+2) #[.int .i64 pg.aA,.slice p k n,.string sep,.bool false,.int .u64 right] #[.int .i64 pg.aA,.slice u (pg.sl.length-k) z,.string pg.hi,.bool pg.la,.int .u64 pg.ri] (blk b3 (.cells #[.int .i64 pg.aA,.slice u (pg.sl.length-k) z,.string pg.hi,.bool pg.la,.int .u64 pg.ri] 43)::az (.slice u (pg.sl.length-k) z) 69 2 (pg.sl.length-k) (aF (pg.sl.drop k))::blk b2 (.cells #[.int .i64 pg.aA,.slice p k n,.string sep,.bool false,.int .u64 right] 43)::az (.slice p k n) 69 2 k (aF (pg.sl.take k))::blk bp (.cells #[.int .i64 (pg).aA,(.slice (some ⟨g,0,none⟩) pg.sl.length cap),.string (pg).hi,.bool (pg).la,.int .u64 (pg).ri] 43)::az (.slice (some ⟨g,0,none⟩) pg.sl.length cap) 69 2 pg.sl.length (aF pg.sl)::F))
  (fun W=>St K W (blk b3 (.cells #[.int .i64 pg.aA,.slice u (pg.sl.length-k) z,.string pg.hi,.bool pg.la,.int .u64 pg.ri] 43)::az (.slice u (pg.sl.length-k) z) 69 2 (pg.sl.length-k) (aF (pg.sl.drop k))::blk b2 (.cells #[.int .i64 pg.aA,.slice p k n,.string sep,.bool false,.int .u64 right] 43)::az (.slice p k n) 69 2 k (aF (pg.sl.take k))::blk bp (.cells #[.int .i64 (pg).aA,(.slice (some ⟨g,0,none⟩) pg.sl.length cap),.string (pg).hi,.bool (pg).la,.int .u64 (pg).ri] 43)::az (.slice (some ⟨g,0,none⟩) pg.sl.length cap) 69 2 pg.sl.length (aF pg.sl)::F)) ?aSf (by kernel_rfl) ?hBf ?Hf ?aiN ?h0f ?hIf ?hRf ?hEf ?hQf
 case hBf=>as_aux_lemma=>kernel_rfl
 case Hf=>
  intro D f;have c3:=f.k0;have c2' := f.k2;clear f;simp only[cG];repeat (go_big_quiet_step (fail))
  refine wpQuiet_nil ?_
  rfl
 case aiN=>rfl
 case h0f=>exact T.out
 case hIf=>exact fun ρ D h=>St.tail (St.tail h)
 case hRf=>exact fun ρ D W3 h hb=>St.same h hb
 case hEf=>
  refine⟨?e3f,?e4f,trivial⟩;case e3f=>
   intro o J ρ D h l i m af j;obtain rfl:=asy J;replace j:af=aj _ ρ [] _:=j;simp only[aj]at j;subst j;unfold SqR at h;rw[i]at h;obtain⟨S,E⟩:∃S:Array Value,S=(if (ρ 4).isSome=true then #[.int .i64 pg.aA,.slice u (pg.sl.length-k) z,.string pg.hi,.bool pg.la,.int .u64 pg.ri]else #[.int .i64 0,.slice none 0 0,.string ⟨#[]⟩,.bool false,.int .u64 0]):=⟨_,rfl⟩
   rw[←E]at h;have HY:=ass E;clear E;have f:St K D (blk (bp+1) (.cells #[.int .i64 0,.slice none 0 0,.string ⟨#[]⟩,.bool false,.int .u64 0] 43)::blk (bp+2) (.cells S 43)::blk b3 (.cells #[.int .i64 pg.aA,.slice u (pg.sl.length-k) z,.string pg.hi,.bool pg.la,.int .u64 pg.ri] 43)::az (.slice u (pg.sl.length-k) z) 69 2 (pg.sl.length-k) (aF (pg.sl.drop k))::blk b2 (.cells #[.int .i64 pg.aA,.slice p k n,.string sep,.bool false,.int .u64 right] 43)::az (.slice p k n) 69 2 k (aF (pg.sl.take k))::blk bp (.cells #[.int .i64 (pg).aA,(.slice (some ⟨g,0,none⟩) pg.sl.length cap),.string (pg).hi,.bool (pg).la,.int .u64 (pg).ri] 43)::az (.slice (some ⟨g,0,none⟩) pg.sl.length cap) 69 2 pg.sl.length (aF pg.sl)::F):=h;have k0:=f.k0;have f0:=f.f0;have f:=((((f.aK 0 (.int .i64 pg.aA)).aK 1 (.slice p k n)).aK 2 (.string sep)).aK 3 (.bool false)).aK 4 (.int .u64 right);have R:=ass f;clear h f l m;go_wp2
   refine⟨rfl,undef,rfl,?_⟩;unfold SqR;rw[show upd ρ 3 undef 3=some undef by simp[upd],show upd ρ 3 undef 4=ρ 4 by simp[upd],←HY.out]
   exact R.out
  case e4f=>
   intro o J ρ D h l G m af j;obtain rfl:=asy J;replace j:af=aj _ ρ [] _:=j;simp only[aj]at j;subst j;unfold SqR at h;rw[G]at h;obtain⟨S,E⟩:∃S:Array Value,S=(if (ρ 3).isSome=true then #[.int .i64 pg.aA,.slice p k n,.string sep,.bool false,.int .u64 right]else #[.int .i64 0,.slice none 0 0,.string ⟨#[]⟩,.bool false,.int .u64 0]):=⟨_,rfl⟩
   rw[←E]at h;have HY:=ass E;clear E;have f:St K D (blk (bp+2) (.cells #[.int .i64 0,.slice none 0 0,.string ⟨#[]⟩,.bool false,.int .u64 0] 43)::blk (bp+1) (.cells S 43)::blk b3 (.cells #[.int .i64 pg.aA,.slice u (pg.sl.length-k) z,.string pg.hi,.bool pg.la,.int .u64 pg.ri] 43)::az (.slice u (pg.sl.length-k) z) 69 2 (pg.sl.length-k) (aF (pg.sl.drop k))::blk b2 (.cells #[.int .i64 pg.aA,.slice p k n,.string sep,.bool false,.int .u64 right] 43)::az (.slice p k n) 69 2 k (aF (pg.sl.take k))::blk bp (.cells #[.int .i64 (pg).aA,(.slice (some ⟨g,0,none⟩) pg.sl.length cap),.string (pg).hi,.bool (pg).la,.int .u64 (pg).ri] 43)::az (.slice (some ⟨g,0,none⟩) pg.sl.length cap) 69 2 pg.sl.length (aF pg.sl)::F):=h.re [1,0] rfl;have k0:=f.k0;have f0:=f.f0;have f:=((((f.aK 0 (.int .i64 pg.aA)).aK 1 (.slice u (pg.sl.length-k) z)).aK 2 (.string pg.hi)).aK 3 (.bool pg.la)).aK 4 (.int .u64 pg.ri);have R:=ass (f.re [1,0] rfl);clear h f l m;go_wp2
   refine⟨rfl,undef,rfl,?_⟩;unfold SqR;rw[show upd ρ 4 undef 4=some undef by simp[upd],show upd ρ 4 undef 3=ρ 3 by simp[upd],←HY.out]
   exact R.out
 case hQf=>
  intro ρ D h C;obtain⟨v3,i⟩:=asv.1 (C 3 (by simp))
  obtain⟨v4,G⟩:=asv.1 (C 4 (by simp))
  unfold SqR at h;rw[i,G]at h;have f:St K D (blk (bp+1) (.cells #[.int .i64 pg.aA,.slice p k n,.string sep,.bool false,.int .u64 right] 43)::blk (bp+2) (.cells #[.int .i64 pg.aA,.slice u (pg.sl.length-k) z,.string pg.hi,.bool pg.la,.int .u64 pg.ri] 43)::blk b3 (.cells #[.int .i64 pg.aA,.slice u (pg.sl.length-k) z,.string pg.hi,.bool pg.la,.int .u64 pg.ri] 43)::az (.slice u (pg.sl.length-k) z) 69 2 (pg.sl.length-k) (aF (pg.sl.drop k))::blk b2 (.cells #[.int .i64 pg.aA,.slice p k n,.string sep,.bool false,.int .u64 right] 43)::az (.slice p k n) 69 2 k (aF (pg.sl.take k))::blk bp (.cells #[.int .i64 (pg).aA,(.slice (some ⟨g,0,none⟩) pg.sl.length cap),.string (pg).hi,.bool (pg).la,.int .u64 (pg).ri] 43)::az (.slice (some ⟨g,0,none⟩) pg.sl.length cap) 69 2 pg.sl.length (aF pg.sl)::F):=h;simp only[aj,i,G,Option.getD_some,aP,List.getElem?_cons_succ,List.getElem?_cons_zero,Option.bind_some,Option.bind_none,Act.put];clear h C i G;have q1:=f.k0;have q2:=f.k1;have eL:(ed pg right).sl.length=k:=by
   show(pg.sl.take (gm pg.sl.length)).length=k
   rw[←Hk.out,List.length_take];omega
  have eR:(cZ pg).sl.length=pg.sl.length-k:=by
   show(pg.sl.drop (gm pg.sl.length)).length=_
   rw[←Hk.out,List.length_drop]
  have Z:(ed pg right).sl=pg.sl.take k:=by show pg.sl.take (gm pg.sl.length)=_;rw[←Hk.out]
  have eR2:(cZ pg).sl=pg.sl.drop k:=by show pg.sl.drop (gm pg.sl.length)=_;rw[←Hk.out]
  have EL:=ass (And.intro eL Z);have ER:=ass (And.intro eR eR2);clear eL eR Z eR2;go_wp2
  refine bodyPost_ret (wh _ _ (bp+1) (bp+2) _ _ _ _ _ _ _ _ _ _ _ _ rfl rfl rfl rfl q1 q2) rfl ?_
  refine⟨p,n,u,z,?_,?_⟩
  ·rw[EL.out.1,ER.out.1,Hsp.out];rfl
  ·unfold bz
   rw[EL.out.1,ER.out.1,EL.out.2,ER.out.2];exact(f.re [0,1,2,4,6,5,3,7] rfl).tail.tail.tail.tail.tail
end
end
section
structure iJ where
 pc:Nat
 seen:Int
 ok:Bool
def Tt (bt:Nat):Nat->Value
 | 0=> .func (.func 134) #[.pointer (some ⟨bt,0,none⟩)] #[]
 | 1=> .func (.func 162) #[.pointer (some ⟨bt,0,none⟩)] #[]
 | _=> .nilFunc
def uJ (w:World)(bt:Nat)(i lim:Int)(s:iJ):Prop:=
 w.heap[bt]?=some (.cells #[Tt bt s.pc,.bool true,.int .i64 i,.int .u64 lim,.int .u64 s.seen,.bool s.ok] 190)
theorem sg:Enters 134:=fun _ _=>rfl
theorem si:Enters 162:=fun _ _=>rfl
theorem Cl (w:World)(i lim:Int):Calls Tryz.prog 98 #[.int .i64 i,.int .u64 lim] w fun e w' => e=.returned (.pointer (some ⟨w.heap.size,0,none⟩))/\uJ w' w.heap.size i lim ⟨0,0,false⟩/\Below w.heap.size w w' /\ w.heap.size<w'.heap.size:=by
 go_enter Tryz.func98,Tryz.ntmps98
 go_wp2_with fail
 refine(fJ 134 #[.pointer (some ⟨w.heap.size,0,none⟩)] #[] _).mono ?_
 rintro e j ⟨rfl,g⟩;have b:=cR g (ea w _);have f:=iB b;have k:=bB b;have l:=dQ b;have h:=cP (cP b 0 (.func (.func 134) #[.pointer (some ⟨w.heap.size,0,none⟩)] #[])) 1 (.bool true);simp only[List.setIfInBounds_toArray,List.set_cons_zero,List.set_cons_succ]at h;go_wp2
 go_ret;refine⟨rfl,h,?_,by simp only[World.size_setCell];exact f⟩
 iterate 2 refine Below.setCell ?_ (by simp) _
 exact((Below.refl _ _).alloc (Nat.le_refl _) _).trans (g.mono (by simp))
theorem yG (w:World)(bt b f:Nat)(i lim seen acc:Int)(v0:Value)(ok:Bool)(L:List aQ)(h:w.heap[bt]?=some (.cells #[v0,.bool true,.int .i64 i,.int .u64 lim,.int .u64 seen,.bool ok] 190))(M:bR w b f L acc)(q:bt≠b)(t:bt≠f)(l:0<=acc)(u:acc<=1000000000000)(y:lim<=(ah L i).n) :
  Calls Tryz.prog 134 #[.pointer (some ⟨bt,0,none⟩),.pointer (some ⟨b,0,none⟩)] w fun e w' => e=.returned (.nilFunc)/\w'.heap[bt]?=some (.cells #[v0,.bool true,.int .i64 i,.int .u64 lim,.int .u64 (ah L i).n,.bool ok] 190)/\bR w' b f L (acc+1)/\eU [bt,b,f] w w' := by
 have k:=bB h;go_enter Tryz.func134,Tryz.ntmps134
 go_wp2_with fail
 refine(tR _ b f L acc i M l u).mono ?_
 rintro e v ⟨rfl,s,m⟩;have g:=m.blk h (by simp[q])
 clear k;have k:=bB g;have x:=dQ g;have T2:=cP g 4 (.int .u64 (ah L i).n);simp only[List.setIfInBounds_toArray,List.set_cons_zero,List.set_cons_succ]at T2;go_upto_region 2 with(fail)
 obtain⟨W,j⟩:∃W,W=v.setCell ⟨bt,4,none⟩ (.int .u64 (ah L i).n):=⟨_,rfl⟩;have o:eU [bt,b,f] w W:=by rw[j];exact(m.mono (by simp)).setCell (.inl (by simp)) _
 have M2:bR W b f L (acc+1):=by rw[j];exact s.keep (S:=[bt]) ((eU.refl _ _).setCell (.inl (by simp)) _) (by simp[Ne.symm q]) (by simp[Ne.symm t])
 rw[←j]at T2 ⊢;clear j k x g m s h;have k:=bB T2;refine bK (by kernel_rfl) (by kernel_rfl) ?_
 repeat (go_big_quiet_step (fail))
 refine wpQuiet_nil ?_
 intro z p;clear k;go_wp2
 go_ret;exact⟨rfl,cR p T2,M2.same p,o.trans (eU.of_below p)⟩
theorem Cn (w:World)(bt b f:Nat)(i lim seen acc:Int)(v0:Value)(ok:Bool)(L:List aQ)(h:w.heap[bt]?=some (.cells #[v0,.bool true,.int .i64 i,.int .u64 lim,.int .u64 seen,.bool ok] 190))(M:bR w b f L acc)(q:bt≠b)(t:bt≠f)(l:0<=acc)(u:acc<=1000000000000)(y:(ah L i).n<lim) :
  Calls Tryz.prog 134 #[.pointer (some ⟨bt,0,none⟩),.pointer (some ⟨b,0,none⟩)] w fun e w' => e=.returned (.func (.func 162) #[.pointer (some ⟨bt,0,none⟩)] #[])/\w'.heap[bt]?=some (.cells #[v0,.bool true,.int .i64 i,.int .u64 lim,.int .u64 (ah L i).n,.bool ok] 190)/\bR w' b f L (acc+1)/\eU [bt,b,f] w w' := by
 have k:=bB h;go_enter Tryz.func134,Tryz.ntmps134
 go_wp2_with fail
 refine(tR _ b f L acc i M l u).mono ?_
 rintro e v ⟨rfl,s,m⟩;have g:=m.blk h (by simp[q])
 clear k;have k:=bB g;have x:=dQ g;have T2:=cP g 4 (.int .u64 (ah L i).n);simp only[List.setIfInBounds_toArray,List.set_cons_zero,List.set_cons_succ]at T2;go_upto_region 2 with(fail)
 obtain⟨W,j⟩:∃W,W=v.setCell ⟨bt,4,none⟩ (.int .u64 (ah L i).n):=⟨_,rfl⟩;have o:eU [bt,b,f] w W:=by rw[j];exact(m.mono (by simp)).setCell (.inl (by simp)) _
 have M2:bR W b f L (acc+1):=by rw[j];exact s.keep (S:=[bt]) ((eU.refl _ _).setCell (.inl (by simp)) _) (by simp[Ne.symm q]) (by simp[Ne.symm t])
 rw[←j]at T2 ⊢;clear j k x g m s h;have k:=bB T2;refine bK (by kernel_rfl) (by kernel_rfl) ?_
 repeat (go_big_quiet_step (fail))
 refine wpQuiet_nil ?_
 intro z p;clear k;go_wp2
 go_ret;exact⟨rfl,cR p T2,M2.same p,o.trans (eU.of_below p)⟩
theorem yH (w:World)(bt b f:Nat)(i lim seen acc:Int)(v0:Value)(ok:Bool)(L:List aQ)(h:w.heap[bt]?=some (.cells #[v0,.bool true,.int .i64 i,.int .u64 lim,.int .u64 seen,.bool ok] 190))(M:bR w b f L acc)(m:bt≠b)(n:bt≠f)(g:0<=acc)(t:acc<=1000000000000)(s0:0<=seen)(s1:seen<18446744073709551615)(o:bU L i seen=true) :
  Calls Tryz.prog 162 #[.pointer (some ⟨bt,0,none⟩),.pointer (some ⟨b,0,none⟩)] w fun e w' => e=.returned (.nilFunc)/\w'.heap[bt]?=some (.cells #[v0,.bool true,.int .i64 i,.int .u64 lim,.int .u64 seen,.bool true] 190)/\bR w' b f (aR L i ⟨seen+1,⟨#[]⟩,0⟩) (acc+1)/\eU [bt,b,f] w w' := by
 have k:=bB h;have q:=fun w' (u:bR w' b f L acc)=>tS w' b f L acc i seen ⟨seen+1,⟨#[]⟩,0⟩ u g t
 simp only[o,if_true]at q;have Q:=ass q;clear q o;go_enter Tryz.func162,Tryz.ntmps162
 go_wp2
 refine bN 15 (by kernel_rfl) (by kernel_rfl) ?_
 simp only[List.take_succ_cons,List.take_zero,List.drop_succ_cons,List.drop_zero];repeat (go_big_quiet_step (fail))
 refine wpQuiet_nil ?_
 intro x j;go_wp2_with fail
 refine(Q.out _ (M.same j)).mono ?_
 rintro e v ⟨rfl,M2,p⟩;have T2:=p.blk (cR j h) (by simp[m,n])
 have l:eU [bt,b,f] w v:=(eU.of_below j).trans (p.mono (by simp))
 clear k h;have k:=bB T2;have y:=dQ T2;have s:=cP T2 5 (.bool true);simp only[List.setIfInBounds_toArray,List.set_cons_zero,List.set_cons_succ]at s;go_wp2
 go_ret;exact⟨rfl,s,M2.keep (S:=[bt]) ((eU.refl _ _).setCell (.inl (by simp)) _) (by simp[Ne.symm m]) (by simp[Ne.symm n]),l.setCell (.inl (by simp)) _⟩
theorem Co (w:World)(bt b f:Nat)(i lim seen acc:Int)(v0:Value)(ok:Bool)(L:List aQ)(h:w.heap[bt]?=some (.cells #[v0,.bool true,.int .i64 i,.int .u64 lim,.int .u64 seen,.bool ok] 190))(M:bR w b f L acc)(o:bt≠b)(p:bt≠f)(g:0<=acc)(s:acc<=1000000000000)(s0:0<=seen)(s1:seen<18446744073709551615)(m:bU L i seen=false) :
  Calls Tryz.prog 162 #[.pointer (some ⟨bt,0,none⟩),.pointer (some ⟨b,0,none⟩)] w fun e w' => e=.returned (.func (.func 134) #[.pointer (some ⟨bt,0,none⟩)] #[])/\w'.heap[bt]?=some (.cells #[v0,.bool true,.int .i64 i,.int .u64 lim,.int .u64 seen,.bool ok] 190)/\bR w' b f (L) (acc+1)/\eU [bt,b,f] w w' := by
 have k:=bB h;have q:=fun w' (t:bR w' b f L acc)=>tS w' b f L acc i seen ⟨seen+1,⟨#[]⟩,0⟩ t g s
 simp only[m,Bool.false_eq_true,if_false]at q;have Q:=ass q;clear q m;go_enter Tryz.func162,Tryz.ntmps162
 go_wp2
 refine bN 15 (by kernel_rfl) (by kernel_rfl) ?_
 simp only[List.take_succ_cons,List.take_zero,List.drop_succ_cons,List.drop_zero];repeat (go_big_quiet_step (fail))
 refine wpQuiet_nil ?_
 intro v j;go_wp2_with fail
 refine(Q.out _ (M.same j)).mono ?_
 rintro e u ⟨rfl,M2,n⟩;have T2:=n.blk (cR j h) (by simp[o,p])
 have l:eU [bt,b,f] w u:=(eU.of_below j).trans (n.mono (by simp))
 clear k h;have k:=bB T2;have x:=dQ T2;go_wp2
 go_ret;exact⟨rfl,T2,M2,l⟩
def aG (i lim:Int)(L:List aQ)(s:iJ):iJ × List aQ:=
 match s.pc with
 | 0=>(⟨if lim<=(ah L i).n then 2 else 1,(ah L i).n,s.ok⟩,L)
 | 1=>if bU L i s.seen then(⟨2,s.seen,true⟩,aR L i ⟨s.seen+1,⟨#[]⟩,0⟩)else(⟨0,s.seen,s.ok⟩,L)
 | _=>(s,L)
theorem Np (w:World)(bt f h:Nat)(i lim acc:Int)(s:iJ)(L:List aQ)(t:uJ w bt i lim s)(M:bR w f h L acc)(u:bt≠f)(x:bt≠h)(j:0<=acc)(y:acc<=1000000000000)(p:s.pc=1->0<=s.seen/\s.seen<18446744073709551615) :
  Calls Tryz.prog 212 #[.pointer (some ⟨bt,0,none⟩),.pointer (some ⟨f,0,none⟩)] w fun e w' => e=.returned (.bool (decide (2<=(aG i lim L s).1.pc)))/\uJ w' bt i lim (aG i lim L s).1/\bR w' f h (aG i lim L s).2 (if 2<=s.pc then acc else acc+1)/\eU [bt,f,h] w w' := by
 have z:∀(g:World) (v0 v:Value) (seen:Int) (ok:Bool) (L':List aQ) (a:Int),g.heap[bt]?=some (.cells #[v0,.bool true,.int .i64 i,.int .u64 lim,.int .u64 seen,.bool ok] 190)->bR g f h L' a->eU [bt,f,h] w g ->
   (g.setCell ⟨bt,0,none⟩ v).heap[bt]?=some (.cells #[v,.bool true,.int .i64 i,.int .u64 lim,.int .u64 seen,.bool ok] 190)/\bR (g.setCell ⟨bt,0,none⟩ v) f h L' a/\eU [bt,f,h] w (g.setCell ⟨bt,0,none⟩ v):=by
  intro g v0 v seen ok L' a k l m;refine⟨?_,l.keep (S:=[bt]) ((eU.refl _ _).setCell (.inl (by simp)) _) (by simp[Ne.symm u]) (by simp[Ne.symm x]),m.setCell (.inl (by simp)) _⟩
  have:=cP k 0 v;simpa using this
 obtain⟨pc,seen,ok⟩:=s;have hc:=bB t 0;match pc,p with
 | 0,_=>
  by_cases o:lim<=(ah L i).n
  ·have e:aG i lim L ⟨0,seen,ok⟩=(⟨2,(ah L i).n,ok⟩,L):=by simp[aG,o]
   have b:=yG w bt f h i lim seen acc _ ok L t M u x j y o;rw[e];clear p;go_enter Tryz.func212,Tryz.ntmps212
   go_wp2_with fail
   refine(rR w bt f _ ⟨bt,0,none⟩ sg hc b (fun g hR=>⟨_,_,_,hR.1,rfl⟩)).mono ?_
   rintro e w' ⟨rfl,g,⟨k,l,m⟩,rfl⟩;go_wp2
   go_ret;exact⟨rfl,z _ _ _ _ _ _ _ k l m⟩
  ·have e:aG i lim L ⟨0,seen,ok⟩=(⟨1,(ah L i).n,ok⟩,L):=by simp[aG,o]
   have b:=Cn w bt f h i lim seen acc _ ok L t M u x j y (by omega)
   rw[e];clear p;go_enter Tryz.func212,Tryz.ntmps212
   go_wp2_with fail
   refine(tZ w bt f _ _ ⟨bt,0,none⟩ sg hc b (fun g hR=>⟨_,_,_,hR.1,rfl⟩)).mono ?_
   rintro e w' ⟨rfl,g,⟨k,l,m⟩,rfl⟩;go_wp2
   go_ret;exact⟨rfl,z _ _ _ _ _ _ _ k l m⟩
 | 1,p=>
  obtain⟨s0,s1⟩:=p rfl;by_cases o:bU L i seen=true
  ·have e:aG i lim L ⟨1,seen,ok⟩=(⟨2,seen,true⟩,aR L i ⟨seen+1,⟨#[]⟩,0⟩):=by simp[aG,o]
   have b:=yH w bt f h i lim seen acc _ ok L t M u x j y s0 s1 o;rw[e];clear p o;go_enter Tryz.func212,Tryz.ntmps212
   go_wp2_with fail
   refine(rR w bt f _ ⟨bt,0,none⟩ si hc b (fun g hR=>⟨_,_,_,hR.1,rfl⟩)).mono ?_
   rintro e w' ⟨rfl,g,⟨k,l,m⟩,rfl⟩;go_wp2
   go_ret;exact⟨rfl,z _ _ _ _ _ _ _ k l m⟩
  ·have q:bU L i seen=false:=by simpa using o
   have e:aG i lim L ⟨1,seen,ok⟩=(⟨0,seen,ok⟩,L):=by simp[aG,q]
   have b:=Co w bt f h i lim seen acc _ ok L t M u x j y s0 s1 q;rw[e];clear p o q;go_enter Tryz.func212,Tryz.ntmps212
   go_wp2_with fail
   refine(tZ w bt f _ _ ⟨bt,0,none⟩ si hc b (fun g hR=>⟨_,_,_,hR.1,rfl⟩)).mono ?_
   rintro e w' ⟨rfl,g,⟨k,l,m⟩,rfl⟩;go_wp2
   go_ret;exact⟨rfl,z _ _ _ _ _ _ _ k l m⟩
 | n+2,_=>
  have e:aG i lim L ⟨n+2,seen,ok⟩=(⟨n+2,seen,ok⟩,L):=rfl;rw[e];clear p;go_enter Tryz.func212,Tryz.ntmps212
  go_wp2_with fail
  refine(p9 w bt f hc).mono ?_
  rintro e w' ⟨rfl,rfl⟩;go_wp2
  go_ret;exact⟨by simp,t,by simpa using M,eU.refl _ _⟩
theorem uK (w:World)(bt:Nat)(i lim:Int)(s:iJ)(h:uJ w bt i lim s)(b:s.ok=true->0<=s.seen/\s.seen<18446744073709551615) :
  Calls Tryz.prog 101 #[.pointer (some ⟨bt,0,none⟩)] w fun e w' => e=.returned (.tuple #[.int .u64 (if s.ok then s.seen+1 else 0),.bool s.ok])/\w=w' := by
 obtain⟨pc,seen,ok⟩:=s;have k:=bB h;cases ok with
 | false=>
  clear b;go_enter Tryz.func101,Tryz.ntmps101
  go_wp2
  go_ret2
  exact⟨rfl,rfl⟩
 | true=>
  obtain⟨s0,s1⟩:0<=seen/\seen<18446744073709551615:=b rfl;clear b;go_enter Tryz.func101,Tryz.ntmps101
  go_wp2
  go_ret2
  exact⟨rfl,rfl⟩
theorem Ih:Enters 212:=fun _ _=>by kernel_rfl
theorem sj (n : Nat) (a : Addr) (w : World) : (method (n + 1) 156 (.pointer (some a)) "Step").run Tryz.prog w = .ok (212, .pointer (some a)) w := by kernel_rfl
theorem yI (n : Nat) (a : Addr) (w : World) : (method (n + 1) 76 (.pointer (some a)) "Step").run Tryz.prog w = .ok (41, .pointer (some a)) w := by kernel_rfl
theorem qA (n : Nat) (a : Addr) (w : World) : (method (n + 1) 74 (.pointer (some a)) "Step").run Tryz.prog w = .ok (40, .pointer (some a)) w := by kernel_rfl
theorem Cq:Enters 41:=fun _ _=>by kernel_rfl
theorem Cr:Enters 40:=fun _ _=>by kernel_rfl
section
variable {K:aM}{w w':World}{c d:aC}{cs F:List aC}
def gT (b:Nat)(i lim:Int)(s:iJ):aC:=blk b (.cells #[Tt b s.pc,.bool true,.int .i64 i,.int .u64 lim,.int .u64 s.seen,.bool s.ok] 190)
theorem uL {i lim:Int}(h:St K w cs):Calls Tryz.prog 98 #[.int .i64 i,.int .u64 lim] w fun e w' => ∃b,e=.returned (.pointer (some ⟨b,0,none⟩))/\St K w' (gT b i lim ⟨0,0,false⟩::cs):=by
 refine(Cl w i lim).mono fun e w' ⟨he,j,f,k⟩=>⟨_,he,?_⟩
 exact St.zK (ms:=[]) (ms' := [gT w.heap.size i lim ⟨0,0,false⟩]) (F:=cs) h (eU.of_below f) (fun x g=>by simp at g;subst g;exact j) (fun b f=>by simp[cY,gT,blk]at f;omega) (by simp[cY,gT,blk])
theorem sk {b g k:Nat}{i lim:Int}{L:List aQ}{acc:Nat}{s:iJ}(h:St K w (gT b i lim s::aL g k L acc::F))(p:acc<=1000000000000)(m:s.pc=1->0<=s.seen/\s.seen<18446744073709551615) :
  Calls Tryz.prog 212 #[.pointer (some ⟨b,0,none⟩),.pointer (some ⟨g,0,none⟩)] w fun e w' => e=.returned (.bool (decide (2<=(aG i lim L s).1.pc)))/\St K w' (gT b i lim (aG i lim L s).1::aL g k (aG i lim L s).2 (if 2<=s.pc then acc else acc+1)::F):=by
 have f:=St.abr (F:=F) h;refine(Np w b g k i lim acc s L h.head h.aeg f.1 f.2 (by omega) (by omega) m).mono fun e w' ⟨he,n,j,o⟩=>⟨he,?_⟩
 refine h.ahA (by simpa[gT,blk,aL] using o) n ?_ rfl rfl
 show bR _ _ _ _ _
 by_cases l:2<=s.pc
 ·rw[if_pos l]at j ⊢;exact j
 ·rw[if_neg l]at j ⊢;exact_mod_cast j
theorem kO {b:Nat}{i lim:Int}{s:iJ}(h:uJ w b i lim s)(f:s.ok=true->0<=s.seen/\s.seen<18446744073709551615) :
  Calls Tryz.prog 101 #[.pointer (some ⟨b,0,none⟩)] w fun e w' => e=.returned (.tuple #[.int .u64 (if s.ok then s.seen+1 else 0),.bool s.ok])/\w=w' := uK w b i lim s h f
end
end
end Go.Proofs.YtlpdhhhgckpcfaaGreat
