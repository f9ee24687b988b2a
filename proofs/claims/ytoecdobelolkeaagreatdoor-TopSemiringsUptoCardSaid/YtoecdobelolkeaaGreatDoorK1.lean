/- Part of TopSemirings. -/
import Derived.Test.YtoecdobelolkeaaGreatDoorRows
import Derived.Test.YtoecdobelolkeaaGreatDoorProg
import Derived.Test.YtoecdobelolkeaaGreatDoorK0
set_option linter.unusedVariables false
set_option linter.unusedSimpArgs false
set_option maxRecDepth 100000
set_option maxHeartbeats 4000000
namespace Go.Proofs.YtoecdobelolkeaaGreatDoor
theorem zhw {n m:Nat} (h:n≤m):(2:Nat) ^ n≤2 ^ m:=Nat.pow_le_pow_right jo h
theorem zck (n:Nat):((2 ^ n:Nat):Int)=(2:Int) ^ n:=vz
theorem zf7 {s v:Nat} (hs:s<2 ^ 32) (hv:32≤v):s.testBit v=false:=
 Nat.testBit_lt_two_pow (uj hs (zhw hv))
def nth (es:List Nat) (k:Nat):Nat:=es.getD k 0
def zv (es:List Int) (k:Nat):Int:=es.getD k 0
theorem Zu {es:List Nat} {k:Nat} (h:k<es.length):nth es k=es[k]:=by simp[nth,List.getD,h]
theorem Yn {es:List Int} {k:Nat} (h:k<es.length):zv es k=es[k]:=by simp[zv,List.getD,h]
theorem yD {es:List Nat} {k:Nat} (h:k<es.length):nth es k∈es:=by rw[Zu h];exact List.getElem_mem h
theorem Yi {es:List Int} {k:Nat} (h:k<es.length):zv es k∈es:=by rw[Yn h];exact List.getElem_mem h
def U32 (es:List Nat):List Value:=es.map fun (e:Nat)=>Value.int .u32 (e:Int)
theorem zbw (es:List Nat):(U32 es).length=es.length:=by simp[U32]
theorem ziF {es:List Nat} {k:Nat} {u:Value} (h:(U32 es)[k]? = some u):u = .int .u32 ((nth es k:Nat):Int):=by
 simp only[U32,uz,Option.map_eq_some_iff] at h;obtain⟨e,he,rfl⟩:=h;simp[nth,List.getD,he]
def I64 (xs:List Int):List Value:=xs.map fun e=>Value.int .i64 e
theorem zoa {es:List Int} {k:Nat} {u:Value} (h:(I64 es)[k]? = some u):u = .int .i64 (zv es k):=by
 simp only[I64,uz,Option.map_eq_some_iff] at h;obtain⟨e,he,rfl⟩:=h;simp[zv,List.getD,he]
def zf8 (a b:Nat):Nat:=a &&& (4294967295 - b)
theorem zbN {a b i:Nat} (hb:b<2 ^ 32) (ha:a<2 ^ 32):(zf8 a b).testBit i=(a.testBit i && !b.testBit i):=by
 unfold zf8;rw[Nat.testBit_and,show 4294967295 - b=2 ^ 32 - (b+1) from by omega,Nat.testBit_two_pow_sub_succ hb];by_cases h:i<32
 ·simp[h]
 ·rw[zf7 ha jo];simp
theorem zob {a b:Nat} (ha:a<2 ^ 32):zf8 a b<2 ^ 32:=uw Nat.and_le_left ha
theorem zcL (a b:Nat) (ha:a<2 ^ 32) (hb:b<2 ^ 32):bits .andNot .u32 (a:Int) (b:Int)=((zf8 a b:Nat):Int):=u32_andNot_nat a b ha hb
theorem zdh (a b:Nat) (ha:a<2 ^ 32) (hb:b<2 ^ 32):bits .and .u32 (a:Int) (b:Int)=((a &&& b:Nat):Int):=u32_and_nat a b ha hb
theorem ziG (a b:Nat) (ha:a<2 ^ 32) (hb:b<2 ^ 32):bits .or .u32 (a:Int) (b:Int)=((a ||| b:Nat):Int):=u32_or_nat a b ha hb
theorem zf9 (e v:Nat):(e / 2 ^ v) &&& 1=if e.testBit v then 1 else 0:=by
 rw[nat_mask1,Nat.testBit_eq_decide_div_mod_eq];by_cases h:e / 2 ^ v % 2=1
 ·simp[h]
 ·simp[h];omega
theorem zaz (e v:Nat) (he:e<2 ^ 32):bits .and .u32 ((e:Int) / 2 ^ v) 1=((if e.testBit v then 1 else 0:Nat):Int):=by
 rw[←zck,show ((e:Int) / ((2 ^ v:Nat):Int))=((e / 2 ^ v:Nat):Int) from by simp,show (1:Int)=((1:Nat):Int) from rfl,
  zdh _ _ (uw (Nat.div_le_self _ _) he) jo,zf9]
theorem ztv (b:Bool) (j:Nat) (hj:j<32):((if b then 1 else 0:Nat):Int)*2 ^ min j 32 % 4294967296=((if b then 2 ^ j else 0:Nat):Int):=by
 rw[Nat.min_eq_left jo,←zck];have h1:2 ^ j<2 ^ 32:=Nat.pow_lt_pow_right jo hj;cases b
 ·simp
 ·simp only[if_true];generalize 2 ^ j=x at *;omega
theorem zah {v:Nat} (hv:v<32):2 ^ v<2 ^ 32:=Nat.pow_lt_pow_right jo hv
theorem zc3 (v:Nat) (hv:v<32):(2:Int) ^ v % 4294967296=((2 ^ v:Nat):Int):=by
 rw[←zck];have h1:2 ^ v<2 ^ 32:=Nat.pow_lt_pow_right jo hv;generalize 2 ^ v=x at *;omega
open Go.RowKit Go.WideShapes Go.ChangeShapes
theorem yd (a:Addr) (n:Nat):(a.add n).block=a.block:=by unfold Addr.add;split <;> rfl
theorem zhx (a:Addr) (i j:Nat):(a.add i).add j=a.add (i+j):=by
 unfold Addr.add;by_cases hi:i=0 <;> by_cases hj:j=0 <;> simp[hi,hj,Nat.add_assoc]
def Reads (w:World) (B size:Nat) (A:Option Addr) (n:Nat) (xs:List Value):Prop:=
 xs.length=n*size∧(0<n→∃ad,A=some ad∧ad.block<B∧∀j u,xs[j]? = some u→w.cell? (ad.add j)=some u)
section
variable {w w' : World} {B B' size n : Nat} {A : Option Addr} {xs : List Value}
theorem Reads.none_:Reads w B size A 0 []:=⟨vz,fun h=>absurd h jo⟩
theorem Reads.at_ {k:Nat} (h:Reads w B 1 A n xs) (hk:k<n):∃ad u,A=some ad∧ad.block<B∧xs[k]? = some u∧w.cell? (ad.add k)=some u:=by
 obtain⟨ad,e,hb,hc⟩:=h.2 jo;have hl:k<xs.length:=by have:=h.1;omega
 exact⟨ad,xs[k],e,hb,uf hl,hc k _ (uf hl)⟩
theorem Reads.keep (h:Reads w B size A n xs) (hk:∀p:Addr,p.block<B→w'.cell? p=w.cell? p):Reads w' B size A n xs:=
 ⟨h.1,fun hn=>by
  obtain⟨ad,e,hb,hc⟩:=h.2 hn
  exact⟨ad,e,hb,fun j u hu=>(hk _ (by rw[yd];exact hb)).trans (hc j u hu)⟩⟩
theorem Reads.more (h:Reads w B size A n xs) (hB:B≤B'):Reads w B' size A n xs:=
 ⟨h.1,fun hn=>by
  obtain⟨ad,e,hb,hc⟩:=h.2 hn
  exact⟨ad,e,jo,hc⟩⟩
theorem Reads.below (h:Reads w B size A n xs) (hb:Below B w w'):Reads w' B size A n xs:=h.keep fun _ hp=>hb.cell hp
theorem Reads.alloc (h:Reads w B size A n xs) (hB:B≤w.heap.size) (o:Obj):Reads (w.alloc o) B size A n xs:=h.keep fun p hp=>World.cell?_alloc_lt w o p jo
theorem Reads.of_own {base:Nat} {e:TypeId} {c:Nat} (h:w.ownsRow base e size (.slice A n c) n xs):Reads w w.heap.size size A n xs:=by
 refine⟨h.1,fun hn=>?_⟩;obtain⟨g,cap,hv,_,hlt⟩:=h.form hn;have hA:A=some ⟨g,0,none⟩:=by injection hv
 subst hA;exact⟨_,rfl,hlt,h.cells (g:=g) rfl⟩
end
def Blk (w:World) (g:Nat) (t:TypeId) (cs:Array Value):Prop:=w.heap[g]? = some (.cells cs t (0,0))
section
variable {w w' : World} {g : Nat} {t : TypeId} {cs : Array Value}
theorem Blk.lt (h:Blk w g t cs):g<w.heap.size:=by
 rcases Nat.lt_or_ge g w.heap.size with hlt | hge
 ·exact hlt
 ·unfold Blk at h;rw[Array.getElem?_eq_none hge] at h;cases h
theorem Blk.lt' {w:World} {g:Nat} {o:Obj} (h:w.heap[g]? = some o):g<w.heap.size:=(Array.getElem?_eq_some_iff.1 h).1
theorem Blk.cell (h:Blk w g t cs) (i:Nat):w.cell? ⟨g,i,none⟩=cs[i]?:=cell_of_row w g i cs t (0,0) h
theorem Blk.frozen (h:Blk w g t cs) (i:Nat):w.frozen? ⟨g,i,none⟩=false:=by
 unfold Blk at h;simp[World.frozen?,h]
theorem Blk.new (w:World) (t:TypeId) (cs:Array Value):Blk (w.alloc (.cells cs t)) w.heap.size t cs:=heap_alloc_new w _
theorem Blk.drewN (h:Blk w g t cs) (n:Nat):Blk (w.drewN n) g t cs:=h
theorem Blk.set_ (h:Blk w g t cs) (i:Nat) (u:Value):Blk (w.setCell ⟨g,i,none⟩ u) g t (cs.setIfInBounds i u):=by
 unfold Blk at h ⊢;simp[World.setCell,Array.getElem?_modify,h]
theorem Blk.below {B:Nat} (h:Blk w g t cs) (hb:Below B w w') (hg:g<B):Blk w' g t cs:=(hb.block g hg).trans h
theorem Blk.grown {row:Option Nat} (h:Blk w g t cs) (hb:w.grownBy w' row) (hg:some g≠row):Blk w' g t cs:=(hb.block g h.lt hg).trans h
theorem Blk.ne_ {g':Nat} {t':TypeId} {cs':Array Value} (h:Blk w g t cs) (h':Blk w g' t' cs') (hne:t≠t'):g≠g':=by
 rintro rfl;unfold Blk at h h';rw[h] at h';injection h' with h';injection h' with _ ht;exact hne ht
theorem yg {base:Nat} {e:TypeId} {size n:Nat} {v:Value} {xs:List Value} (h:w.ownsRow base e size v n xs) (hg:Blk w g t cs) (hne:e≠t):v.ownBlock≠some g:=by
 rcases h.2 with ⟨rfl,_⟩ | ⟨g',cap,cur,rfl,_,hh,_⟩
 ·simp[Value.ownBlock]
 ·intro he;have:g'=g:=by simpa [Value.ownBlock] using he
  subst this;exact Blk.ne_ (t:=e) hh hg hne rfl
end
section
variable {P : Program} (w : World)
theorem ZY (base:Nat) (t ty e:TypeId) (i:TypeInfo) (size:Nat) (ht:P.underlying t=some (.slice e)) (hi:P.info? e=some i)
  (v:Value) (n:Nat) (xs:List Value) (hown:w.ownsRow base e size v n xs) (c:Nat):(Builtin.append_ #[t,t] ty #[v,.slice none 0 c]).run P w = .ok v w:=by
 rcases hown.2 with ⟨rfl,rfl⟩ | ⟨g,cap,cur,rfl,_,_,hnc,_⟩
 ·simp[Builtin.append_,run_underlying ht,sizeOf,typeInfo,hi,Builtin.lenOf,Builtin.firstCells]
 ·simp[Builtin.append_,run_underlying ht,sizeOf,typeInfo,hi,Builtin.lenOf,Builtin.firstCells,hnc,storeCells]
theorem ZK (base:Nat) (t ty e:TypeId) (i:TypeInfo) (z:Value) (size bytes:Nat) (ht:P.underlying t=some (.slice e)) (hi:P.info? e=some i) (hz:i.zero=some z)
  (hsize:i.size=size) (hby:i.bytes=bytes) (hzs:z.cells.size=size) (hsz:0<size)
  (v:Value) (n:Nat) (xs:List Value) (hown:w.ownsRow base e size v n xs)
  (B:Nat) (A:Option Addr) (m c:Nat) (news:List Value) (hr:Reads w B size A m news) (h1:∀u∈news,u.oneCell'=true)
  (h63:n+m≤maxLen) (hbytes:(n+m)*bytes≤140737488355328) (hbase:base≤w.heap.size) :
  ∃v' w',(Builtin.append_ #[t,t] ty #[v,.slice A m c]).run P w = .ok v' w'∧w'.ownsRow base e size v' (n+m) (xs++news)∧w.grownBy w' v.ownBlock∧
   (v'.ownBlock=v.ownBlock∨v'.ownBlock=some w.heap.size):=by
 rcases A with _ | ad
 ·have hm:m=0:=by
   exact zqC
  subst hm;have hn:news=[]:=uo (by simpa using hr.1);subst hn;exact⟨v,w,ZY w base t ty e i size ht hi v n xs hown c,by simpa using hown,World.grownBy.refl w _,.inl rfl⟩
 ·have hcells:∀j u,news[j]? = some u→w.cell? (ad.add j)=some u:=by
   intro j u hu;rcases Nat.eq_zero_or_pos m with h0 | h0
   ·subst h0;have hn:news=[]:=uo (by simpa using hr.1);subst hn;simp at hu
   ·obtain⟨ad',h,_,hc⟩:=hr.2 h0;injection h with h;subst h;exact hc j u hu
  obtain⟨v',w',hrun,h2,h3,_,h5⟩:=run_append_own_at (P:=P) w base t ty e i z size bytes ht hi hz hsize hby hzs hsz v n xs hown ad m c news hr.1 hcells h1 h63 hbytes hbase;exact⟨v',w',hrun,h2,h3,h5⟩
theorem zek {o:Oper} {a:Act} {K:Act→World→Prop} {Q:Exit→Act→World→Prop} (s x:Operand) (t:TypeId)
  (ho:o.op = .call {callee:= .builtin .append,args:=#[s,x],argTypes:=#[t,t]})
  (base:Nat) (e:TypeId) (i:TypeInfo) (z:Value) (size bytes:Nat) (ht:P.underlying t=some (.slice e)) (hi:P.info? e=some i) (hz:i.zero=some z)
  (hsize:i.size=size) (hby:i.bytes=bytes) (hzs:z.cells.size=size) (hsz:0<size)
  (v:Value) (n:Nat) (xs:List Value) (hs:a.eval s=v) (hown:w.ownsRow base e size v n xs)
  (B:Nat) (A:Option Addr) (m c:Nat) (news:List Value) (hx:a.eval x = .slice A m c) (hr:Reads w B size A m news) (h1:∀u∈news,u.oneCell'=true)
  (h63:n+m≤maxLen) (hbytes:(n+m)*bytes≤140737488355328) (hbase:base≤w.heap.size)
  (h:∀v' w',w'.ownsRow base e size v' (n+m) (xs++news)→w.grownBy w' v.ownBlock→(v'.ownBlock=v.ownBlock∨v'.ownBlock=some w.heap.size)→K (a.put o.dst v') w'):o.wp P a w K Q:=by
 obtain⟨v',w',hrun,h2,h3,h4⟩:=ZK (P:=P) w base t o.type e i z size bytes ht hi hz hsize hby hzs hsz v n xs hown B A m c news hr h1 h63 hbytes hbase;unfold Oper.wp execOp;refine vs2 ?_;exact h v' w' h2 h3 h4
theorem zbO {ops:Array Oper} {rest:List Oper} {o:Oper} {a:Act} {Q:Exit→Act→World→Prop} (hgd:o.guard=none) (s x:Operand) (t:TypeId)
  (ho:o.op = .call {callee:= .builtin .append,args:=#[s,x],argTypes:=#[t,t]})
  (base:Nat) (e:TypeId) (i:TypeInfo) (z:Value) (size bytes:Nat) (ht:P.underlying t=some (.slice e)) (hi:P.info? e=some i) (hz:i.zero=some z)
  (hsize:i.size=size) (hby:i.bytes=bytes) (hzs:z.cells.size=size) (hsz:0<size)
  (v:Value) (n:Nat) (xs:List Value) (hs:a.eval s=v) (hown:w.ownsRow base e size v n xs)
  (B:Nat) (A:Option Addr) (m c:Nat) (news:List Value) (hx:a.eval x = .slice A m c) (hr:Reads w B size A m news) (h1:∀u∈news,u.oneCell'=true)
  (h63:n+m≤maxLen) (hbytes:(n+m)*bytes≤140737488355328) (hbase:base≤w.heap.size)
  (h:∀v' w',w'.ownsRow base e size v' (n+m) (xs++news)→w.grownBy w' v.ownBlock→(v'.ownBlock=v.ownBlock∨v'.ownBlock=some w.heap.size)→wpList P ops Q rest (a.put o.dst v') w'):wpList P ops Q (o :: rest) a w:=
 wpList_plain hgd fun _ hK=>zek w s x t ho base e i z size bytes ht hi hz hsize hby hzs hsz v n xs hs hown B A m c news hx hr h1 h63 hbytes hbase fun v' w' h2 h3 h4=>hK _ _ (h v' w' h2 h3 h4)
end
theorem YI {B:Nat} {a w:World} (h:Below B a w) (n:Nat):Below B a (w.drewN n):=⟨h.os,h.tape,h.output,h.size,h.block⟩
theorem YM {a w:World} {g:Nat} (h:a.grownBy w (some g)) {p:Addr} (hp:p.block=g∨a.heap.size≤p.block) (u:Value):a.grownBy (w.setCell p u) (some g):=
 ⟨h.os,h.tape,h.output,by simpa [World.setCell] using h.size,fun i hi hne=>(Below.heap_setCell w p u i (by
  rintro rfl
  rcases hp with hp | hp
  ·exact hne (by rw[hp])
  ·omega)).trans (h.block i hi hne)⟩
theorem zbq {P:Program} (t e:TypeId) (i:TypeInfo) (z:Value) (ht:P.underlying t=some (.slice e)) (hi:P.info? e=some i) (hz:i.zero=some z)
  (kl kc:IntKind) (n c:Nat) (hnc:n≤c) (hbytes:i.bytes*c≤281474976710656) (h63:c≤9223372036854775807) (w:World) :
  (Instr.makeSlice t (.int kl (n:Int)) (.int kc (c:Int))).run P w = .ok (.slice (some ⟨w.heap.size,0,none⟩) n c) (w.alloc (.cells (madeCells z.cells (c*i.size)) e)):=by
 have hb:(i.bytes:Int)*(c:Int)≤281474976710656:=by
  have h:((i.bytes*c:Nat):Int)≤281474976710656:=jo;rwa [Int.natCast_mul] at h
 have hr:=run_make (P:=P) w t e i z ht hi hz kl kc n c jo jo hb jo;simp only[Int.toNat_natCast] at hr;exact hr
section
variable {H : Type} {enc : TypeId × Value → H} {P : Program}
end
theorem zdi {P:Program} {f:FuncId} {args:Array Value} {w:World} {a n:Nat} {v:Value}
  (h:Calls P f args (w.drewN (a+n)) fun e w'=>e = .returned v∧w.drewN (a+n)=w') :
  Calls P f args (w.drewN (a+n)) fun e w''=>e = .returned v∧∃m,w''=w.drewN (a+m):=
 h.mono fun _ _ ⟨he,hm⟩=>⟨he,n,hm.symm⟩
theorem zbP {fn:Func} {t u v x:Tmp} (h:fn.results=#[.tmp t,.tmp u,.tmp v,.tmp x]) (tmps:Array Value) (P:Program) (w:World) :
  (results fn tmps).run P w = .ok (.tuple #[tmps.getD t undef,tmps.getD u undef,tmps.getD v undef,tmps.getD x undef]) w:=by simp[results,h]
def Es (w:World) (B:Nat) (A:Option Addr) (len:Nat) (es:List Nat):Prop:=
 Reads w B 1 A len (U32 es)∧(len=es.length∧len≤9223372036854775807)∧∀e∈es,e<4294967296
def Xs (w:World) (B:Nat) (A:Option Addr) (len:Nat) (xs:List Int):Prop:=
 Reads w B 1 A len (I64 xs)∧(len=xs.length∧len≤9223372036854775807)∧∀x∈xs,-9223372036854775808≤x∧x≤9223372036854775807
section
variable {w w' : World} {B B' n k : Nat} {A : Option Addr} {es : List Nat} {xs : List Int}
theorem Es.len (h:Es w B A n es):n=es.length:=h.2.1.1
theorem Es.le (h:Es w B A n es):n≤9223372036854775807:=h.2.1.2
theorem Es.lt (h:Es w B A n es) (hk:k<n):nth es k<4294967296:=h.2.2 _ (yD (by rw[←h.len];exact hk))
theorem Es.at_ (h:Es w B A n es) (hk:k<n):∃ad,A=some ad∧ad.block<B∧w.cell? (ad.add k)=some (.int .u32 (nth es k:Int)):=by
 obtain⟨ad,u,e,hb,hx,hc⟩:=h.1.at_ hk;obtain rfl:=ziF hx;exact⟨ad,e,hb,hc⟩
theorem Es.below (h:Es w B A n es) (hb:Below B w w'):Es w' B A n es:=⟨h.1.below hb,h.2⟩
theorem Es.more (h:Es w B A n es) (hB:B≤B'):Es w B' A n es:=⟨h.1.more hB,h.2⟩
theorem Es.new (h:Es w w.heap.size A n es) (hb:Below w.heap.size w w'):Es w' w'.heap.size A n es:=(h.below hb).more hb.size
theorem Xs.len (h:Xs w B A n xs):n=xs.length:=h.2.1.1
theorem Xs.le (h:Xs w B A n xs):n≤9223372036854775807:=h.2.1.2
theorem Xs.at_ (h:Xs w B A n xs) (hk:k<n):∃ad,A=some ad∧ad.block<B∧w.cell? (ad.add k)=some (.int .i64 (zv xs k)):=by
 obtain⟨ad,u,e,hb,hx,hc⟩:=h.1.at_ hk;obtain rfl:=zoa hx;exact⟨ad,e,hb,hc⟩
theorem Xs.below (h:Xs w B A n xs) (hb:Below B w w'):Xs w' B A n xs:=⟨h.1.below hb,h.2⟩
end
def zbx (l:List Nat):Array Value:=(U32 l).toArray
theorem zbQ {l:List Nat} {k:Nat} (h:k<l.length):(zbx l)[k]? = some (.int .u32 (nth l k:Int)):=by simp[zbx,U32,nth,List.getD,h]
theorem zaR (l:List Nat) (k x:Nat):(zbx l).setIfInBounds k (.int .u32 (x:Int))=zbx (l.set k x):=by simp[zbx,U32,List.map_set]
theorem zjU (n:Nat):madeCells #[.int .u32 0] n=zbx (List.replicate n 0):=by
 apply Array.ext';rw[toList_madeCells_one];simp[zbx,U32]
def zer (n:Nat):List Nat:=List.replicate n 0
theorem zdj (n:Nat):(zer n).length=n:=by simp[zer]
theorem ziH {l:List Nat} {k x j:Nat} (hk:k<l.length):nth (l.set k x) j=if j=k then x else nth l j:=by
 simp only[nth,List.getD,List.getElem?_set];by_cases h:k=j
 ·subst h;simp[hk]
 ·simp[h,Ne.symm h]
theorem zel (n j:Nat):nth (List.replicate n 0) j=0:=by
 simp only[nth,List.getD,List.getElem?_replicate];split <;> rfl
theorem zoc (n j:Nat):nth (zer n) j=0:=zel n j
theorem Es.of_blk {w:World} {g t:Nat} {l:List Nat} (h:Blk w g t (zbx l)) (hl:l.length≤9223372036854775807) (hb:∀e∈l,e<4294967296):Es w w.heap.size (some ⟨g,0,none⟩) l.length l:=
 ⟨⟨by simp[zbw],fun _=>⟨_,rfl,h.lt,fun j u hu=>by
  have e:(Addr.add ⟨g,0,none⟩ j)=⟨g,j,none⟩:=by unfold Addr.add;split <;> simp_all
  rw[e,h.cell];simpa [zbx] using hu⟩⟩,⟨rfl,hl⟩,hb⟩
theorem zbR {k:IntKind} {a b:Int} (h:a=b):Ending.returned (.int k a) = .returned (.int k b):=by rw[h]
theorem zdk {a b:Bool} (h:a=b):Ending.returned (.bool a) = .returned (.bool b):=by rw[h]
section
variable {w w' : World} {g : Nat} {t : TypeId} {x y : Value}
end
theorem zbr {a:World} {g:Nat} (vs:List Value):∀(w:World) (o:Nat),a.grownBy w (some g)→a.grownBy (w.setCells g o vs) (some g):=by
 induction vs with
 |nil=>intro w o h;exact h
 |cons v r ih=>intro w o h;rw[World.setCells];exact ih _ _ (YM h (.inl rfl) v)
theorem al (w:World) (o:Obj):Below w.heap.size w (w.alloc o):=(ue _ _).alloc (ug _) _
theorem ze {B:Nat} {a b c:World} (h:Below B a b) (k:Below b.heap.size b c) (hB:B≤b.heap.size):Below B a c:=h.trans (k.mono hB)
open Go.ChangeShapes Go.WideShapes Go.ChangeAt Go.RowKit Go.Joins
theorem zll:ownKnob Tryz.prog.godebug=none:=by kernel_rfl
theorem zdl:laidOutB Tryz.prog=true:=by kernel_rfl
section
variable {H : Type} {enc : TypeId × Value → H} {P : Program} {w : World} {base : Nat} {spare : Nat → Bool} {held : Bool}
end
end Go.Proofs.YtoecdobelolkeaaGreatDoor
namespace Go.Proofs
open Go.Shelf
def Tryz.lays125_ren:Go.Shelf.Ren:=⟨fun | 125=>135 | 128=>161 | 129=>162 | n=>n,fun | 46=>108 | 3=>3 | 51=>107 | 53=>36 | 4=>4 | 5=>5 | 9=>9 | n=>n,fun | n=>n⟩
theorem Tryz.lays125:Go.Proofs.Lays.n125 Tryz.prog Tryz.lays125_ren:={
 mixed:=by kernel_rfl
 f125:=Tryz.func135.trans (ut some vk)
 f128:=Tryz.func161.trans (ut some vk)
 f129:=Tryz.func162.trans (ut some vk)
 t3:=Tryz.underlying3
 a3:=Tryz.isAgg3
 z3:=Tryz.sizeOf3
 v3:=Tryz.zeroValue3
 t4:=Tryz.underlying4
 a4:=Tryz.isAgg4
 z4:=Tryz.sizeOf4
 v4:=Tryz.zeroValue4
 t5:=Tryz.underlying5
 a5:=Tryz.isAgg5
 z5:=Tryz.sizeOf5
 v5:=Tryz.zeroValue5
 t9:=Tryz.underlying9
 a9:=Tryz.isAgg9
 z9:=Tryz.sizeOf9
 v9:=Tryz.zeroValue9
 t46:=Tryz.underlying108
 a46:=Tryz.isAgg108
 z46:=Tryz.sizeOf108
 v46:=Tryz.zeroValue108
 t51:=Tryz.underlying107
 a51:=Tryz.isAgg107
 z51:=Tryz.sizeOf107
 v51:=Tryz.zeroValue107
 t53:=Tryz.underlying36
 a53:=Tryz.isAgg36
 z53:=Tryz.sizeOf36
 v53:=Tryz.zeroValue36}
theorem Tryz.bits_Len (x:Int) (w:World) (h0:0≤x) (h1:x≤18446744073709551615) :
  Calls Tryz.prog 135 #[.int .u64 x] w fun e w'=>e = .returned (.int .i64 (Lib.bitLen x.toNat))∧w'=w:=Any.bits_Len Tryz.lays125 x w h0 h1
def Tryz.lays106_ren:Go.Shelf.Ren:=⟨fun | 106=>164 | 213=>174 | 265=>185 | n=>n,fun | 9=>9 | 3=>3 | n=>n,fun | n=>n⟩
theorem Tryz.lays106:Go.Proofs.Lays.n106 Tryz.prog Tryz.lays106_ren:={
 mixed:=by kernel_rfl
 f106:=Tryz.func164.trans (ut some vk)
 f213:=Tryz.func174.trans (ut some vk)
 f265:=Tryz.func185.trans (ut some vk)
 t3:=Tryz.underlying3
 a3:=Tryz.isAgg3
 z3:=Tryz.sizeOf3
 v3:=Tryz.zeroValue3
 t9:=Tryz.underlying9
 a9:=Tryz.isAgg9
 z9:=Tryz.sizeOf9
 v9:=Tryz.zeroValue9}
open Go.RowKit in
theorem Tryz.strings_Compare (a b:ByteArray) (w:World) :
  Calls Tryz.prog 164 #[.string a,.string b] w fun e w'=>e = .returned (.int .i64 (Lib.compareBytes a.data.toList b.data.toList))∧w'=w:=Any.strings_Compare Tryz.lays106 a b w
def Tryz.lays189_ren:Go.Shelf.Ren:=⟨fun | 189=>228 | 125=>135 | 257=>236 | 128=>161 | 129=>162 | 294=>238 | 295=>239 | 296=>240 | 297=>241 | 298=>242 | 299=>243 | 216=>244 | 300=>245 | 301=>246 | 328=>255 | 329=>169 | 330=>170 | 331=>256 | 332=>257 | 215=>76 | 343=>261 | n=>n,fun | 28=>26 | 3=>3 | 46=>108 | 0=>0 | 51=>107 | 53=>36 | 4=>4 | 183=>275 | 182=>274 | 131=>264 | 5=>5 | 9=>9 | 218=>286 | 222=>290 | 228=>298 | 229=>299 | n=>n,fun | n=>n⟩
theorem Tryz.lays189:Go.Proofs.Lays.n189 Tryz.prog Tryz.lays189_ren:={
 mixed:=by kernel_rfl
 f125:=Tryz.func135.trans (ut some vk)
 f128:=Tryz.func161.trans (ut some vk)
 f129:=Tryz.func162.trans (ut some vk)
 f189:=Tryz.func228.trans (ut some vk)
 f215:=Tryz.func76.trans (ut some vk)
 f216:=Tryz.func244.trans (ut some vk)
 f257:=Tryz.func236.trans (ut some vk)
 f294:=Tryz.func238.trans (ut some vk)
 f295:=Tryz.func239.trans (ut some vk)
 f296:=Tryz.func240.trans (ut some vk)
 f297:=Tryz.func241.trans (ut some vk)
 f298:=Tryz.func242.trans (ut some vk)
 f299:=Tryz.func243.trans (ut some vk)
 f300:=Tryz.func245.trans (ut some vk)
 f301:=Tryz.func246.trans (ut some vk)
 f328:=Tryz.func255.trans (ut some vk)
 f329:=Tryz.func169.trans (ut some vk)
 f330:=Tryz.func170.trans (ut some vk)
 f331:=Tryz.func256.trans (ut some vk)
 f332:=Tryz.func257.trans (ut some vk)
 f343:=Tryz.func261.trans (ut some vk)
 t0:=Tryz.underlying0
 a0:=Tryz.isAgg0
 z0:=Tryz.sizeOf0
 v0:=Tryz.zeroValue0
 t3:=Tryz.underlying3
 a3:=Tryz.isAgg3
 z3:=Tryz.sizeOf3
 v3:=Tryz.zeroValue3
 t4:=Tryz.underlying4
 a4:=Tryz.isAgg4
 z4:=Tryz.sizeOf4
 v4:=Tryz.zeroValue4
 t5:=Tryz.underlying5
 a5:=Tryz.isAgg5
 z5:=Tryz.sizeOf5
 v5:=Tryz.zeroValue5
 t9:=Tryz.underlying9
 a9:=Tryz.isAgg9
 z9:=Tryz.sizeOf9
 v9:=Tryz.zeroValue9
 t28:=Tryz.underlying26
 a28:=Tryz.isAgg26
 z28:=Tryz.sizeOf26
 v28:=Tryz.zeroValue26
 t46:=Tryz.underlying108
 a46:=Tryz.isAgg108
 z46:=Tryz.sizeOf108
 v46:=Tryz.zeroValue108
 t51:=Tryz.underlying107
 a51:=Tryz.isAgg107
 z51:=Tryz.sizeOf107
 v51:=Tryz.zeroValue107
 t53:=Tryz.underlying36
 a53:=Tryz.isAgg36
 z53:=Tryz.sizeOf36
 v53:=Tryz.zeroValue36
 t131:=Tryz.underlying264
 a131:=Tryz.isAgg264
 z131:=Tryz.sizeOf264
 v131:=Tryz.zeroValue264
 t182:=Tryz.underlying274
 a182:=Tryz.isAgg274
 z182:=Tryz.sizeOf274
 v182:=Tryz.zeroValue274
 t183:=Tryz.underlying275
 a183:=Tryz.isAgg275
 z183:=Tryz.sizeOf275
 v183:=Tryz.zeroValue275
 t218:=Tryz.underlying286
 a218:=Tryz.isAgg286
 z218:=Tryz.sizeOf286
 v218:=Tryz.zeroValue286
 t222:=Tryz.underlying290
 a222:=Tryz.isAgg290
 z222:=Tryz.sizeOf290
 v222:=Tryz.zeroValue290
 t228:=Tryz.underlying298
 a228:=Tryz.isAgg298
 z228:=Tryz.sizeOf298
 v228:=Tryz.zeroValue298
 t229:=Tryz.underlying299
 a229:=Tryz.isAgg299
 z229:=Tryz.sizeOf299
 v229:=Tryz.zeroValue299}
open Go.Sort Go.RowKit in
theorem Tryz.slices_Sort_int (blk off cap:Nat) (zs:List Int) (w:World) (hH:Holds (Value.int .i64) w blk off zs.toArray) (hblk:blk<w.heap.size) (hsz:zs.length<4611686018427387904) :
  Calls Tryz.prog 228 #[.slice (some ⟨blk,off,none⟩) zs.length cap] w fun e w'=>
   e = .returned (.tuple #[])∧∃n os,w'=grow (putRow (Value.int .i64) (Sort.ahead w n) blk off (zs.mergeSort fun x y=>decide (x≤y)).toArray) os:=Any.slices_Sort_int Tryz.lays189 blk off cap zs w hH hblk hsz
def Tryz.laysM288_ren:Go.Shelf.Ren:=⟨fun | 288=>186 | 283=>190 | 284=>191 | 285=>192 | 286=>193 | 129=>162 | 317=>195 | 318=>196 | 319=>197 | 320=>198 | 337=>199 | 338=>200 | n=>n,fun | 37=>23 | 53=>36 | 3=>3 | 4=>4 | 9=>9 | 171=>305 | 0=>0 | 173=>307 | 212=>311 | 51=>107 | 5=>5 | 20=>20 | 213=>312 | 46=>108 | 232=>313 | 233=>314 | n=>n,fun | 17=>1 | 18=>2 | 19=>3 | n=>n⟩
theorem Tryz.laysM288:Go.Proofs.LaysM.n288 Tryz.prog Tryz.laysM288_ren:={
 mixed:=by kernel_rfl
 f129:=Tryz.func162.trans (ut some vk)
 f283:=Tryz.func190.trans (ut some vk)
 f284:=Tryz.func191.trans (ut some vk)
 f285:=Tryz.func192.trans (ut some vk)
 f286:=Tryz.func193.trans (ut some vk)
 f288:=Tryz.func186.trans (ut some vk)
 f317:=Tryz.func195.trans (ut some vk)
 f318:=Tryz.func196.trans (ut some vk)
 f319:=Tryz.func197.trans (ut some vk)
 f320:=Tryz.func198.trans (ut some vk)
 f337:=Tryz.func199.trans (ut some vk)
 f338:=Tryz.func200.trans (ut some vk)
 t0:=Tryz.underlying0
 a0:=Tryz.isAgg0
 z0:=Tryz.sizeOf0
 v0:=Tryz.zeroValue0
 t3:=Tryz.underlying3
 a3:=Tryz.isAgg3
 z3:=Tryz.sizeOf3
 v3:=Tryz.zeroValue3
 t4:=Tryz.underlying4
 a4:=Tryz.isAgg4
 z4:=Tryz.sizeOf4
 v4:=Tryz.zeroValue4
 t5:=Tryz.underlying5
 a5:=Tryz.isAgg5
 z5:=Tryz.sizeOf5
 v5:=Tryz.zeroValue5
 t9:=Tryz.underlying9
 a9:=Tryz.isAgg9
 z9:=Tryz.sizeOf9
 v9:=Tryz.zeroValue9
 t20:=Tryz.underlying20
 a20:=Tryz.isAgg20
 z20:=Tryz.sizeOf20
 v20:=Tryz.zeroValue20
 t37:=Tryz.underlying23
 a37:=Tryz.isAgg23
 z37:=Tryz.sizeOf23
 v37:=Tryz.zeroValue23
 t46:=Tryz.underlying108
 a46:=Tryz.isAgg108
 z46:=Tryz.sizeOf108
 v46:=Tryz.zeroValue108
 t51:=Tryz.underlying107
 a51:=Tryz.isAgg107
 z51:=Tryz.sizeOf107
 v51:=Tryz.zeroValue107
 t53:=Tryz.underlying36
 a53:=Tryz.isAgg36
 z53:=Tryz.sizeOf36
 v53:=Tryz.zeroValue36
 t171:=Tryz.underlying305
 a171:=Tryz.isAgg305
 z171:=Tryz.sizeOf305
 v171:=Tryz.zeroValue305
 t173:=Tryz.underlying307
 a173:=Tryz.isAgg307
 z173:=Tryz.sizeOf307
 v173:=Tryz.zeroValue307
 t212:=Tryz.underlying311
 a212:=Tryz.isAgg311
 z212:=Tryz.sizeOf311
 v212:=Tryz.zeroValue311
 t213:=Tryz.underlying312
 a213:=Tryz.isAgg312
 z213:=Tryz.sizeOf312
 t232:=Tryz.underlying313
 a232:=Tryz.isAgg313
 z232:=Tryz.sizeOf313
 v232:=Tryz.zeroValue313
 t233:=Tryz.underlying314
 a233:=Tryz.isAgg314
 z233:=Tryz.sizeOf314
 v233:=Tryz.zeroValue314
 g17:=by kernel_rfl
 g18:=by kernel_rfl
 g19:=by kernel_rfl
 i0:=by kernel_rfl
 i3:=by kernel_rfl
 i4:=by kernel_rfl
 i5:=by kernel_rfl
 i9:=by kernel_rfl
 i20:=by kernel_rfl
 i37:=by kernel_rfl
 i46:=by kernel_rfl
 i51:=by kernel_rfl
 i53:=by kernel_rfl
 i171:=by kernel_rfl
 i173:=by kernel_rfl
 i212:=by kernel_rfl
 i232:=by kernel_rfl
 i233:=by kernel_rfl
 m17:=by kernel_rfl
 m18:=by kernel_rfl
 m19:=by kernel_rfl}
open Go.RowKit Go.Sort Go.Lib in
theorem Tryz.internal_strconv_AppendUint_10_small (B n u:Nat) (hu:u<100) (sv:Value) (xs:List Value) (w:World) (hown:w.ownsRow B 5 1 sv n xs) (hBw:B≤w.heap.size) (hlim:n+20≤140737488355328) :
  Calls Tryz.prog 186 #[sv,.int .u64 u,.int .i64 10] w fun e w'=>∃v',e = .returned v'∧w'.ownsRow B 5 1 v' (n+(Lib.decDigits u).length) (xs++Lib.byteCells (Lib.decDigits u))∧Below B w w'∧Lib.OthersKept 5 none w w':=Any.internal_strconv_AppendUint_10_small Tryz.laysM288 B n u hu sv xs w hown hBw hlim
def Tryz.lays107_ren:Go.Shelf.Ren:=⟨fun | 107=>91 | 108=>136 | n=>n,fun | 28=>26 | 3=>3 | 4=>4 | 0=>0 | n=>n,fun | n=>n⟩
theorem Tryz.lays107:Go.Proofs.Lays.n107 Tryz.prog Tryz.lays107_ren:={
 mixed:=by kernel_rfl
 f107:=Tryz.func91.trans (ut some vk)
 f108:=Tryz.func136.trans (ut some vk)
 t0:=Tryz.underlying0
 a0:=Tryz.isAgg0
 z0:=Tryz.sizeOf0
 v0:=Tryz.zeroValue0
 t3:=Tryz.underlying3
 a3:=Tryz.isAgg3
 z3:=Tryz.sizeOf3
 v3:=Tryz.zeroValue3
 t4:=Tryz.underlying4
 a4:=Tryz.isAgg4
 z4:=Tryz.sizeOf4
 v4:=Tryz.zeroValue4
 t28:=Tryz.underlying26
 a28:=Tryz.isAgg26
 z28:=Tryz.sizeOf26
 v28:=Tryz.zeroValue26}
open Go.Lib in
theorem Tryz.slices_Contains_int (b off n c:Nat) (zs:List Int) (x:Int) (w:World) (hz:n≤zs.length) (hbig:n≤9223372036854775807) (hc:∀j,j<zs.length→w.cell? ⟨b,off+j,none⟩=some (.int .i64 (zs.getD j 0))) :
  Calls Tryz.prog 91 #[.slice (some ⟨b,off,none⟩) n c,.int .i64 x] w fun e w'=>e = .returned (.bool ((zs.take n).contains x))∧w'=w:=Any.slices_Contains_int Tryz.lays107 b off n c zs x w hz hbig hc
def Tryz.laysNm220_ren:Go.Shelf.Ren:=⟨fun | 20=>229 | n=>n,fun | 22=>26 | 3=>3 | 4=>4 | 0=>0 | n=>n,fun | n=>n⟩
theorem Tryz.laysNm220:Go.Proofs.Lays2.n20 Tryz.prog Tryz.laysNm220_ren:={
 mixed:=by kernel_rfl
 f20:=Tryz.func229.trans (ut some vk)
 t0:=Tryz.underlying0
 a0:=Tryz.isAgg0
 z0:=Tryz.sizeOf0
 v0:=Tryz.zeroValue0
 t3:=Tryz.underlying3
 a3:=Tryz.isAgg3
 z3:=Tryz.sizeOf3
 v3:=Tryz.zeroValue3
 t4:=Tryz.underlying4
 a4:=Tryz.isAgg4
 z4:=Tryz.sizeOf4
 v4:=Tryz.zeroValue4
 t22:=Tryz.underlying26
 a22:=Tryz.isAgg26
 z22:=Tryz.sizeOf26
 v22:=Tryz.zeroValue26
 i3:=by kernel_rfl}
open Go.RowKit Go.Lib Go.Sort in
theorem Tryz.slices_Compact_int (blk off cap:Nat) (zs:List Int) (w:World) (hH:Holds (Value.int .i64) w blk off zs.toArray) (hsz:zs.length≤9223372036854775807) (hcap:zs.length≤cap) :
  Calls Tryz.prog 229 #[.slice (some ⟨blk,off,none⟩) zs.length cap] w fun e w'=>e = .returned (.slice (some ⟨blk,off,none⟩) (Lib.compact zs).length cap)∧∃q,w'=putRow (Value.int .i64) (Sort.ahead w q) blk off (Lib.compact zs++List.replicate (zs.length - (Lib.compact zs).length) 0).toArray:=Any.slices_Compact_int Tryz.laysNm220 blk off cap zs w hH hsz hcap
open Go.RowKit Go.Lib Go.Sort in
theorem Tryz.slices_Compact_int_empty (a:Option Addr) (cap:Nat) (w:World) :
  Calls Tryz.prog 229 #[.slice a 0 cap] w fun e w'=>e = .returned (.slice a 0 cap)∧w'=w:=Any.slices_Compact_int_empty Tryz.laysNm220 a cap w
open Go.RowKit Go.Sort in
theorem Tryz.slices_Sort_int_none (p:Option Addr) (cap:Nat) (w:World) :
  Calls Tryz.prog 228 #[.slice p 0 cap] w fun e w'=>e = .returned (.tuple #[])∧w'=w:=Any.slices_Sort_int_none Tryz.lays189 p cap w
end Go.Proofs
namespace Go.Proofs.YtoecdobelolkeaaGreatDoor
open Go.RowKit Go.Shelf
open Go.RowKit
theorem zF {w:World} {base:Nat} {e:TypeId} {size n:Nat} {v:Value} {xs:List Value} (h:w.ownsRow base e size v n xs):∃A c,v = .slice A n c:=by
 rcases h.2 with ⟨rfl,hn⟩ | ⟨g,cap,cur,rfl,_⟩
 ·exact⟨none,0,by rw[hn]⟩
 ·exact⟨_,_,rfl⟩
theorem zrL {w:World} {base:Nat} {e:TypeId} {n:Nat} {v:Value} {xs:List Value} (h:w.ownsRow base e 1 v n xs):n≤9223372036854775807:=by
 rcases h.2 with ⟨_,hn⟩ | ⟨g,cap,cur,_,_,_,h1,h2,_⟩
 ·omega
 ·unfold maxLen at h2;omega
theorem Es.of_own {w:World} {base:Nat} {e:TypeId} {n:Nat} {v:Value} {L:List Nat} (h:w.ownsRow base e 1 v n (U32 L)) (hb:∀e∈L,e<4294967296):∃A c,v = .slice A n c∧Es w w.heap.size A n L:=by
 obtain⟨A,c,rfl⟩:=zF h;refine⟨A,c,rfl,Reads.of_own h,⟨?_,zrL h⟩,hb⟩;have:=h.1;simpa [zbw] using this.symm
theorem zjV (w:World) (e:TypeId):(w.alloc (.cells #[] e)).ownsRow w.heap.size e 1 (.slice (some ⟨w.heap.size,0,none⟩) 0 0) 0 []:=
 ⟨rfl,.inr ⟨w.heap.size,0,#[],rfl,ug _,heap_alloc_new w _,ug _,Nat.zero_le _,rfl,rfl⟩⟩
theorem zod (l:List Nat):∀u∈U32 l,u.oneCell'=true:=by
 intro v hv;simp only[U32,List.mem_map] at hv;obtain⟨_,_,rfl⟩:=hv;rfl
theorem zoe (w:World) (base:Nat) (e:TypeId):w.ownsRow base e 1 (.slice none 0 0) 0 []:=⟨rfl,.inl ⟨rfl,rfl⟩⟩
theorem yJ {w w':World} {e:TypeId} {base size n:Nat} {v:Value} {xs:List Value} (h:w.ownsRow base e size v n xs) (hb:Below w.heap.size w w'):w'.ownsRow base e size v n xs:=by
 refine⟨h.1,?_⟩;rcases h.2 with h0 | ⟨g',cap,cur,rfl,h1,h2,h3⟩
 ·exact .inl h0
 ·have hlt:g'<w.heap.size:=Blk.lt' h2;exact .inr ⟨g',cap,cur,rfl,h1,(hb.block g' hlt).trans h2,h3⟩
theorem zga {w:World} {base:Nat} {e:TypeId} {size n:Nat} {v:Value} {xs:List Value} (h:w.ownsRow base e size v n xs):∀k,v.ownBlock=some k→base≤k:=by
 intro k hk;rcases h.2 with ⟨rfl,_⟩ | ⟨g,cap,cur,rfl,hb,_⟩
 ·simp[Value.ownBlock] at hk
 ·simp[Value.ownBlock] at hk;omega
theorem Below.appended {B base:Nat} {a w w':World} {e:TypeId} {size n:Nat} {v:Value} {xs:List Value} (h:Below B a w) (hown:w.ownsRow base e size v n xs) (hg:w.grownBy w' v.ownBlock) (hB:B≤w.heap.size) (hbase:B≤base):Below B a w':=
 h.grown hg hB (fun k hk=>by have:=zga hown k hk;omega)
def zV (b:Nat):List Nat→Nat
 |[]=>0
 |d :: l=>d+b*zV b l
def Nrm (b:Nat) (l:List Nat) (n:Nat):Prop:=zV b l=n∧(∀d∈l,d<b)∧(l=[]∨nth l (l.length - 1)≠0)
theorem zaS (b:Nat) (l m:List Nat):zV b (l++m)=zV b l+b ^ l.length*zV b m:=by
 induction l with
 |nil=>simp[zV]
 |cons d l ih=>simp only[List.cons_append,zV,ih,List.length_cons,Nat.pow_succ];rw[Nat.mul_add,Nat.add_assoc,←Nat.mul_assoc,Nat.mul_comm b (b ^ l.length)]
theorem zcM (b d:Nat):zV b [d]=d:=by simp[zV]
theorem zfj {b:Nat} {l:List Nat} (h:∀d∈l,d<b):zV b l<b ^ l.length:=by
 induction l with
 |nil=>simp[zV]
 |cons d l ih=>
  have h1:=ih (fun x hx=>h x (by simp[hx]));have h2:=h d vz;simp only[zV,List.length_cons,Nat.pow_succ];have h3:b*(zV b l+1)≤b*b ^ l.length:=Nat.mul_le_mul_left b h1;rw[Nat.mul_comm (b ^ l.length) b];rw[Nat.mul_add] at h3;omega
theorem YJ {b:Nat} {l:List Nat} {k:Nat} (h:k<l.length):zV b (l.take (k+1))=zV b (l.take k)+b ^ k*nth l k:=by
 rw[List.take_succ_eq_append_getElem h,zaS,zcM,Zu h,List.length_take,Nat.min_eq_left jo]
theorem ZL (b:Nat) (l:List Nat) (k:Nat) (h:k≤l.length):zV b l=zV b (l.take k)+b ^ k*zV b (l.drop k):=by
 have h1:=zaS b (l.take k) (l.drop k);rw[List.take_append_drop,List.length_take,Nat.min_eq_left h] at h1;exact h1
theorem zex {b:Nat} {l:List Nat} {k:Nat} (h:k<l.length):zV b (l.drop k)=nth l k+b*zV b (l.drop (k+1)):=by
 rw[List.drop_eq_getElem_cons h,zV,Zu h]
theorem zjW (b n:Nat):zV b (List.replicate n 0)=0:=by
 induction n with
 |zero=>rfl
 |succ n ih=>simp[List.replicate_succ,zV,ih]
theorem zgb {b:Nat} {l:List Nat} {k x:Nat} (h:k<l.length):zV b (l.set k x)+b ^ k*nth l k=zV b l+b ^ k*x:=by
 have h1:=ZL b (l.set k x) k vj2;have h2:=ZL b l k jo;have h3:(l.set k x).take k=l.take k:=by rw[List.take_set];exact List.set_eq_of_length_le vj2
 have h4:zV b ((l.set k x).drop k)=x+b*zV b (l.drop (k+1)):=by
  rw[zex (by simp;exact h),Zu (by simp;exact h)];simp[List.drop_set]
 rw[h3,h4,Nat.mul_add] at h1;rw[zex h,Nat.mul_add] at h2;omega
theorem zem {b:Nat} {l:List Nat} (h:∀k,k<l.length→nth l k=0):zV b l=0:=by
 induction l with
 |nil=>rfl
 |cons d l ih=>
  have h0:=h 0 vz;simp only[nth,List.getD,List.getElem?_cons_zero,Option.getD_some] at h0;rw[zV,h0,ih (fun k hk=>?_)]
  ·simp
  ·have:=h (k+1) vj2;simpa [nth,List.getD] using this
theorem zlm {l:List Nat} {k j:Nat} (h:j<k):nth (l.take k) j=nth l j:=by
 simp[nth,List.getD,h]
theorem zjX {b:Nat} {l:List Nat} {k:Nat} (hk:k≤l.length) (h:∀j,k≤j→j<l.length→nth l j=0):zV b (l.take k)=zV b l:=by
 rw[ZL b l k hk,zem (l:=l.drop k) (fun j hj=>?_)]
 ·simp
 ·rw[List.length_drop] at hj;have:=h (k+j) jo jo;simpa [nth,List.getD,List.getElem?_drop] using this
theorem Nrm.pos {b:Nat} {l:List Nat} {n:Nat} (h:Nrm b l n) (hl:0<l.length):b ^ (l.length - 1)≤n:=by
 have h1:nth l (l.length - 1)≠0:=by
  rcases h.2.2 with h0 | h0
  ·subst h0;simp at hl
  ·exact h0
 have h2:=YJ (b:=b) (l:=l) (k:=l.length - 1) jo;rw[Nat.sub_add_cancel hl,List.take_length,h.1] at h2;rw[h2];have:b ^ (l.length - 1)*1≤b ^ (l.length - 1)*nth l (l.length - 1):=Nat.mul_le_mul_left _ jo;omega
theorem Nrm.lt {b:Nat} {l:List Nat} {n:Nat} (h:Nrm b l n):n<b ^ l.length:=by
 rw[←h.1];exact zfj h.2.1
theorem Nrm.zero_iff {b:Nat} {l:List Nat} {n:Nat} (h:Nrm b l n) (hb:0<b):l.length=0↔n=0:=by
 constructor
 ·intro h0;have:=h.lt;rw[h0] at this;simp at this;exact this
 ·intro h0;rcases Nat.eq_zero_or_pos l.length with h1 | h1
  ·exact h1
  ·have h2:=h.pos h1;have h3:0<b ^ (l.length - 1):=Nat.pow_pos hb;omega
theorem Nrm.len_lt {b:Nat} {l m:List Nat} {x y:Nat} (h:Nrm b l x) (k:Nrm b m y) (hb:0<b) (hlt:l.length<m.length):x<y:=by
 have h1:=h.lt;have h2:=k.pos jo;have h3:b ^ l.length≤b ^ (m.length - 1):=Nat.pow_le_pow_right hb jo;omega
theorem ziI {b:Nat} {l m:List Nat} {k:Nat} (hl:∀d∈l,d<b) (hlen:l.length=m.length) (hk:k<l.length)
  (hd:l.drop (k+1)=m.drop (k+1)) (hlt:nth l k<nth m k):zV b l<zV b m:=by
 rw[ZL b l (k+1) jo,ZL b m (k+1) jo,hd,YJ hk,YJ jo];have h1:zV b (l.take k)<b ^ k:=by
  have:=zfj (b:=b) (l:=l.take k) (fun d hd=>hl d (List.mem_of_mem_take hd));rwa [List.length_take,Nat.min_eq_left jo] at this
 have h2:b ^ k*(nth l k+1)≤b ^ k*nth m k:=Nat.mul_le_mul_left _ hlt;rw[Nat.mul_add] at h2;omega
theorem Nrm.mk_trim {b:Nat} {l:List Nat} {k:Nat} (hl:∀d∈l,d<b) (hk:k≤l.length) (h:∀j,k≤j→j<l.length→nth l j=0) (hlast:k=0∨nth l (k - 1)≠0):Nrm b (l.take k) (zV b l):=by
 refine⟨zjX hk h,fun d hd=>hl d (List.mem_of_mem_take hd),?_⟩;rcases hlast with h0 | h0
 ·left;subst h0;simp
 ·by_cases hk0:k=0
  ·left;subst hk0;simp
  ·right;rw[List.length_take,Nat.min_eq_left hk,zlm jo];exact h0
theorem Es.take {w:World} {B n k:Nat} {A:Option Addr} {es:List Nat} (h:Es w B A n es) (hk:k≤n):Es w B A k (es.take k):=by
 have hl:=h.2.1.1;refine⟨⟨by rw[zbw];simp;omega,fun hp=>?_⟩,⟨vj2,by have:=h.2.1.2;omega⟩,fun e he=>h.2.2 e (List.mem_of_mem_take he)⟩;obtain⟨ad,rfl,hb,hc⟩:=h.1.2 jo;refine⟨ad,rfl,hb,fun j u hu=>hc j u ?_⟩;simp only[U32,List.map_take] at hu ⊢;rw[List.getElem?_take] at hu;split at hu
 ·exact hu
 ·cases hu
def zof (A:Option Addr) (n N:Nat) (w:World) (e:Ending) (w':World):Prop:=∃k l,e = .returned (.slice A k k)∧k≤n∧Es w w.heap.size A k l∧Nrm 4294967296 l N∧w=w'
def zfk (w:World) (N:Nat) (e:Ending) (w':World):Prop:=∃A k c l,e = .returned (.slice A k c)∧k≤c∧Es w' w'.heap.size A k l∧Nrm 4294967296 l N∧Below w.heap.size w w'
theorem Yj (A:Option Addr) (ds:List Nat) (n c:Nat) (hc:n≤c) (w:World) (hr:Es w w.heap.size A n ds) :
  Calls Tryz.prog 32 #[.slice A n c] w (zof A n (zV 4294967296 ds) w):=by
 have hle:=hr.le;have HR:=vh hr;clear hr;go_enter Tryz.func32,Tryz.ntmps32;go_wp2_with fail;go_loop [3] (fun i=>∃k:Nat,k≤n∧i = .int .i64 k∧Hid (∀j,k≤j→j<n→nth ds j=0)) (fun i=>(intOf i).toNat);case atStart=>exact⟨n,ug _,rfl,vh (fun j h1 h2=>absurd h2 jo)⟩
 case round=>
  obtain⟨k,hk,rfl,HJ⟩:=hrel;by_cases hk0:0<k
  ·obtain⟨k,rfl⟩:∃m,k=m+1:=⟨k - 1,jo⟩;obtain⟨ad,rfl,hb,hcell⟩:=HR.at_ (show k<n by omega);have i1:((k+1:Nat):Int) - 1=(k:Int):=jo;by_cases hz:nth ds k=0
   ·have ht:((nth ds k:Int) == 0)=true:=by simp[hz]
    have HZ:=vh hz;clear hz;go_wp2_with fail;refine⟨⟨k,jo,rfl,vh (fun j h1 h2=>?_)⟩,by simp[intOf]⟩;by_cases hj:j=k
    ·subst hj;exact HZ.out
    ·exact HJ.out j jo h2
   ·have ht:((nth ds k:Int) == 0)=false:=by simp[hz]
    have HZ:=vh hz;clear hz;go_wp2_with fail;go_ret;exact⟨k+1,ds.take (k+1),rfl,jo,HR.take jo,Nrm.mk_trim HR.2.2 (by have:=HR.len;omega) (by have:=HR.len;rw[←this];exact HJ.out) (.inr HZ.out),rfl⟩
  ·obtain rfl:k=0:=jo;have h0:((0:Nat):Int)=0:=rfl;go_wp2_with fail;go_ret;exact⟨0,ds.take 0,rfl,jo,HR.take jo,Nrm.mk_trim HR.2.2 jo (by have:=HR.len;rw[←this];exact HJ.out) (.inl rfl),rfl⟩
theorem zhy (n:Nat):n<18446744073709551616→zV 4294967296 [n % 4294967296,n / 4294967296]=n:=by
 intro h;simp only[zV];omega
theorem zog (n:Nat) (hn:n<18446744073709551616) (w:World):Calls Tryz.prog 8 #[.int .u64 n] w (zfk w n):=by
 go_enter Tryz.func8,Tryz.ntmps8;go_wp2_with fail;have hE:Es (w.alloc (Obj.cells #[Value.int IntKind.u32 ((n:Int) % 4294967296),Value.int IntKind.u32 ((n:Int) / 4294967296)] 107)) (w.alloc (Obj.cells #[Value.int IntKind.u32 ((n:Int) % 4294967296),Value.int IntKind.u32 ((n:Int) / 4294967296)] 107)).heap.size (some ⟨w.heap.size,0,none⟩) 2 [n % 4294967296,n / 4294967296]:=by
  refine Es.of_blk (l:=[n % 4294967296,n / 4294967296]) (t:=107) ?_ vz ?_
  ·have:=Blk.new w 107 (zbx [n % 4294967296,n / 4294967296]);simpa [zbx,U32] using this
  ·intro e he;simp at he;omega
 refine(Yj _ _ 2 2 (ug _) _ hE).mono ?_;rintro e w1 ⟨k,l,rfl,hk,hl,hN,rfl⟩;rw[zhy n hn] at hN;have H1:=vh hl;clear hl hE;have H2:=vh hN;clear hN;go_wp2_with fail;go_ret;exact⟨_,k,k,l,rfl,ug _,H1.out,H2.out,al _ _⟩
def yr (a b:Int):Int:=if a<b then -1 else if b<a then 1 else 0
def YE (a b:Nat):Int:=if a<b then -1 else if b<a then 1 else 0
theorem zdm (a b:Int) (w:World):Calls Tryz.prog 41 #[.int .i64 a,.int .i64 b] w fun e w'=>e = .returned (.int .i64 (yr a b))∧w=w':=by
 by_cases h1:a<b
 ·rw[show yr a b = -1 by simp[yr,h1]];exact znS
 ·by_cases h2:b<a
  ·rw[show yr a b=1 by simp[yr,h1,h2]];exact znS
  ·rw[show yr a b=0 by simp[yr,h1,h2]];exact znS
theorem zhz (a b:Nat) (w:World):Calls Tryz.prog 42 #[.int .u32 a,.int .u32 b] w fun e w'=>e = .returned (.int .i64 (YE a b))∧w=w':=by
 by_cases h1:a<b
 ·rw[show YE a b = -1 by simp[YE,h1]];exact znT
 ·by_cases h2:b<a
  ·rw[show YE a b=1 by simp[YE,h1,h2]];exact znT
  ·rw[show YE a b=0 by simp[YE,h1,h2]];exact znT
theorem zgc:(Tryz.prog.info? 107).map (fun i=>(i.zero,i.size,i.bytes))=some (some (.int .u32 0),1,4):=by kernel_rfl
def zhA (w:World) (n:Nat) (ds:List Nat) (e:Ending) (w':World):Prop:=∃v,e = .returned v∧w'.ownsRow w.heap.size 107 1 v n (U32 ds)∧Below w.heap.size w w'
theorem zjY (A:Option Addr) (ds:List Nat) (n c:Nat) (hn:n≤1000000) (w:World) (hr:Es w w.heap.size A n ds) :
  Calls Tryz.prog 131 #[.slice A n c] w (zhA w n ds):=by
 have HR:=vh hr;clear hr;cases A with
 |none=>
  have h0:n=0:=by
   rcases Nat.eq_zero_or_pos n with h | h
   ·exact h
   ·obtain⟨_,h1,_⟩:=HR.1.2 h;cases h1
  subst h0;have hd:ds=[]:=uo HR.len.symm;subst hd;have hq:=fun W=>Lib.run_eql_slice_nil (P:=Tryz.prog) W 32 107 none 0 c 0 0 Tryz.underlying32;go_enter Tryz.func131,Tryz.ntmps131;go_wp2_with fail;go_ret;exact⟨_,rfl,zoe _ _ _,ue _ _⟩
 |some ad=>
  have hq:=fun W=>Lib.run_eql_slice_nil (P:=Tryz.prog) W 32 107 (some ad) n c 0 0 Tryz.underlying32;obtain⟨i,hi,hz,hs1,hby⟩:=info_parts zgc;go_enter Tryz.func131,Tryz.ntmps131;go_wp2_with (at_builtin;refine zbO _ rfl (.tmp 5) (.tmp 6) 32 rfl w.heap.size 107 i _ 1 4 Tryz.underlying32 hi hz hs1 hby rfl jo _ 0 [] rfl (zjV w _) w.heap.size (some ad) n c (U32 ds) rfl (HR.1.alloc (ug _) _) (zod ds) zcK jo vz ?_;intro v1 w1 hown1 hg1 hat1;have H1:=vh hown1;have H2:=vh hg1;clear hown1 hg1 hat1);go_ret;refine⟨v1,rfl,?_,?_⟩
  ·have:=H1.out;simpa using this
  ·exact(al w _).grown H2.out vz (fun k hk=>by cases hk;exact ug _)
theorem zln (A:Option Addr) (ds:List Nat) (n c:Nat) (hc:n≤c) (hn:n≤1000000) (w:World) (hr:Es w w.heap.size A n ds) :
  Calls Tryz.prog 83 #[.slice A n c] w fun e w'=>∃k l,zhA w k l e w'∧k≤n∧k=l.length∧Nrm 4294967296 l (zV 4294967296 ds):=by
 have HR:=vh hr;clear hr;have key:Calls Tryz.prog 83 #[.slice A n c] w fun e w'=>Hid (∃k l,zhA w k l e w'∧k≤n∧k=l.length∧Nrm 4294967296 l (zV 4294967296 ds)):=by
  go_enter Tryz.func83,Tryz.ntmps83;go_wp2_with fail;refine(Yj A ds n c hc _ HR.out).mono ?_;rintro e w1 ⟨k,l,rfl,hk,hl,hN,rfl⟩;have H1:=vh hl;clear hl;have H2:=vh hN;clear hN;go_wp2_with fail;refine(zjY A l k k jo _ H1.out).mono ?_;rintro e w2 ⟨v,rfl,hown,hb⟩;have H3:=vh hown;clear hown;have H4:=vh hb;clear hb;go_wp2_with fail;go_ret;exact vh ⟨k,l,⟨v,rfl,H3.out,H4.out⟩,hk,H1.len,H2.out⟩
 exact key
theorem zlo (A:Option Addr) (ds:List Nat) (n c:Nat) (hc:n≤c) (B:Option Addr) (fs:List Nat) (m d:Nat) (hd:m≤d) (w:World) (hr:Es w w.heap.size A n ds) (hs:Es w w.heap.size B m fs) :
  Calls Tryz.prog 18 #[.slice A n c,.slice B m d] w fun e w'=>e = .returned (.int .i64 (YE (zV 4294967296 ds) (zV 4294967296 fs)))∧Below w.heap.size w w':=by
 have HR:=vh hr;clear hr;have HS:=vh hs;clear hs;go_enter Tryz.func18,Tryz.ntmps18;go_wp2_with fail;refine(Yj A ds n c hc _ HR.out).mono ?_;rintro e w1 ⟨k,l,rfl,hk,hl,hN,rfl⟩;have H1:=vh hl;clear hl;have N1:=vh hN;clear hN;go_wp2_with fail;refine(Yj B fs m d hd _ HS.out).mono ?_;rintro e w2 ⟨j,f,rfl,hj,hf,hM,rfl⟩;have H2:=vh hf;clear hf;have N2:=vh hM;clear hM;have hk2:=H1.le;have hj2:=H2.le;by_cases hkj:k=j
 ·have hb:((k:Int) != (j:Int))=false:=by simp[hkj]
  obtain rfl:k=j:=hkj;go_wp2_with fail;go_loopw [5] (fun i wr=>∃a:Int,-1≤a∧a<k∧i = .int .i64 a∧Hid (l.drop (a+1).toNat=f.drop (a+1).toNat∧Below w.heap.size w wr)) (fun i _=>(intOf i+1).toNat);case atStart=>
   refine⟨(k:Int) - 1,jo,jo,rfl,vh ⟨?_,ue _ _⟩⟩;have h1:=H1.len;have h2:=H2.len;rw[show ((k:Int) - 1+1).toNat=k by omega,List.drop_of_length_le jo,List.drop_of_length_le jo]
  case round=>
   obtain⟨a,ha,ha2,rfl,HJ⟩:=hrel;by_cases ha3:0≤a
   ·obtain⟨a,rfl⟩:=Int.eq_ofNat_of_zero_le ha3;obtain⟨ad,rfl,hb1,hcell⟩:=(H1.below HJ.2).at_ (show a<k by omega);obtain⟨ad2,rfl,hb2,hcell2⟩:=(H2.below HJ.2).at_ (show a<k by omega);by_cases hne:nth l a=nth f a
    ·have hq:((nth l a:Int) != (nth f a:Int))=false:=by simp[hne]
     have HNE:=vh hne;clear hne;go_wp2_with fail;go_quiet (fail);go_wp2_with fail;refine⟨⟨(a:Int) - 1,jo,jo,vj1,vh ⟨?_,YI HJ.2 _⟩⟩,by simp[intOf]⟩;have h0:=HJ.1;have h1:a<l.length:=by have:=H1.len;omega
     have h2:a<f.length:=by have:=H2.len;omega
     rw[show ((a:Int)+1).toNat=a+1 by omega] at h0;rw[show ((a:Int) - 1+1).toNat=a by omega,List.drop_eq_getElem_cons h1,List.drop_eq_getElem_cons h2,h0,←Zu h1,←Zu h2,HNE]
    ·have hq:((nth l a:Int) != (nth f a:Int))=true:=by simp;omega
     have HNE:=vh hne;clear hne;go_wp2_with fail;go_quiet (fail);go_wp2_with fail;go_quiet ((go_at_call 42;exact zdi (zhz _ _ _)));go_wp2_with fail;go_ret;refine⟨zbR ?_,YI (YI HJ.2 _) _⟩;have h0:=HJ.1;rw[show ((a:Int)+1).toNat=a+1 by omega] at h0;have h1:=H1.len;have h2:=H2.len;rw[←N1.out.1,←N2.out.1];have hne:=HNE.out;rcases Nat.lt_or_gt_of_ne hne with h | h
     ·have:=ziI (b:=4294967296) N1.out.2.1 jo jo h0 h;simp[YE,h,this]
     ·have:=ziI (b:=4294967296) N2.out.2.1 jo jo h0.symm h;simp[YE,h,this,Nat.not_lt_of_gt h,Nat.not_lt_of_gt this]
   ·have ha4:a = -1:=jo;subst ha4;go_wp2_with fail;go_ret;refine⟨zbR ?_,HJ.2⟩;have h0:=HJ.1;simp only[show ((-1:Int)+1).toNat=0 from rfl,List.drop_zero] at h0;have h1:=N1.out.1;have h2:=N2.out.1;rw[h0] at h1;simp[YE,←h1,←h2]
 ·have hb:((k:Int) != (j:Int))=true:=by simp;omega
  go_wp2_with fail;refine(zdm _ _ _).mono ?_;rintro e w3 ⟨rfl,rfl⟩;have HKJ:=vh hkj;clear hkj;go_wp2_with fail;go_ret;refine⟨zbR ?_,ue _ _⟩;have h1:=H1.len;have h2:=H2.len;rcases Nat.lt_or_gt_of_ne HKJ.out with h | h
  ·have:=N1.out.len_lt N2.out jo jo;simp[YE,yr,h,this]
  ·have:=N2.out.len_lt N1.out jo jo;simp[YE,yr,h,this,Nat.not_lt_of_gt h,Nat.not_lt_of_gt this]
theorem zlp (n:Nat) (hn:n≤60000000000000) (W:World):(Instr.makeSlice 32 (.int .i64 (n:Int)) (.int .i64 (n:Int))).run Tryz.prog W = .ok (.slice (some ⟨W.heap.size,0,none⟩) n n) (W.alloc (.cells (zbx (zer n)) 107)):=by
 obtain⟨i,hi,hz,hs,hb⟩:=info_parts zgc;have h:=zbq (P:=Tryz.prog) 32 107 i (.int .u32 0) Tryz.underlying32 hi hz .i64 .i64 n n (ug _) (by rw[hb];omega) jo W;rw[hs,Nat.mul_one] at h;rw[h,zer,←zjU];rfl
def AddInv (l f L:List Nat) (i c:Nat):Prop:=L.length=l.length+1∧(∀d∈L,d<4294967296)∧zV 4294967296 (L.take i)+4294967296 ^ i*c=zV 4294967296 (l.take i)+zV 4294967296 (f.take i)∧c≤1
theorem zcN {L:List Nat} {i x:Nat} (h:i<L.length):(L.set i x).take (i+1)=L.take i++[x]:=by
 rw[List.take_succ_eq_append_getElem (by simp;exact h)];simp only[List.getElem_set_self,List.take_set];rw[List.set_eq_of_length_le vj2]
theorem zc4 {L:List Nat} {i x b:Nat} (h:∀d∈L,d<b) (hx:x<b):∀d∈L.set i x,d<b:=by
 intro d hd;rcases List.mem_or_eq_of_mem_set hd with h1 | h1
 ·exact h d h1
 ·omega
theorem zey (b:Nat) (l:List Nat) (x:Nat):zV b (l++[x])=zV b l+b ^ l.length*x:=by rw[zaS,zcM]
theorem AddInv.step {l f L:List Nat} {i c s:Nat} (h:AddInv l f L i c) (hi:i<l.length) (hl:∀d∈l,d<4294967296) (hf:∀d∈f,d<4294967296)
  (hs:s=c+nth l i+(if i<f.length then nth f i else 0)):AddInv l f (L.set i (s % 4294967296)) (i+1) (s / 4294967296)∧s<8589934592:=by
 obtain⟨h1,h2,h3,h4⟩:=h;have d1:=hl _ (yD hi);have d2:(if i<f.length then nth f i else 0)<4294967296:=by
  split
  ·rename_i hlt;exact hf _ (yD hlt)
  ·omega
 have e1:=YJ (b:=4294967296) hi;have e2:zV 4294967296 (f.take (i+1))=zV 4294967296 (f.take i)+4294967296 ^ i*(if i<f.length then nth f i else 0):=by
  split
  ·rename_i hlt;exact YJ hlt
  ·rw[um jo,um jo];simp
 have e3:zV 4294967296 ((L.set i (s % 4294967296)).take (i+1))=zV 4294967296 (L.take i)+4294967296 ^ i*(s % 4294967296):=by
  rw[zcN jo,zey,List.length_take,Nat.min_eq_left jo]
 refine⟨⟨by rw[List.length_set];exact h1,zc4 h2 (Nat.mod_lt _ jo),?_,jo⟩,jo⟩;rw[e1,e2,e3,Nat.pow_succ];generalize hx:(if i<f.length then nth f i else 0)=x at *;have hsx:4294967296 ^ i*(s % 4294967296)+4294967296 ^ i*4294967296*(s / 4294967296)=4294967296 ^ i*s:=by
  rw[Nat.mul_assoc,←Nat.mul_add,Nat.mod_add_div]
 rw[Nat.add_assoc,hsx,hs,Nat.mul_add,Nat.mul_add];omega
theorem zoh (A:Option Addr) (ds:List Nat) (n c:Nat) (hc:n≤c) (B:Option Addr) (fs:List Nat) (m d:Nat) (hd:m≤d) (w:World) (hr:Es w w.heap.size A n ds) (hs:Es w w.heap.size B m fs) (hn:n≤40000000000000) (hm:m≤40000000000000) :
  Calls Tryz.prog 45 #[.slice A n c,.slice B m d] w (zfk w (zV 4294967296 ds+zV 4294967296 fs)):=by
 have HR:=vh hr;clear hr;have HS:=vh hs;clear hs;go_enter Tryz.func45,Tryz.ntmps45;go_wp2_with fail;refine(Yj A ds n c hc _ HR.out).mono ?_;rintro e w1 ⟨k,l,rfl,hk,hl,hN,rfl⟩;have H1:=vh hl;clear hl;have N1:=vh hN;clear hN;go_wp2_with fail;refine(Yj B fs m d hd _ HS.out).mono ?_;rintro e w2 ⟨j,f,rfl,hj,hf,hM,rfl⟩;have H2:=vh hf;clear hf;have N2:=vh hM;clear hM;go_upto_if 16 with (fail);go_cut [0,1] (fun s0 s1 wx=>∃(A' B':Option Addr) (k' j':Nat) (l' f':List Nat),s0 = .slice A' k' k'∧s1 = .slice B' j' j'∧(j'≤k'∧k'≤40000000000000)∧Hid (Es w w.heap.size A' k' l'∧Es w w.heap.size B' j' f'∧zV 4294967296 l'+zV 4294967296 f'=zV 4294967296 ds+zV 4294967296 fs)∧wx=w);case first=>
  by_cases hlt:k<j
  ·go_wp2_with fail;go_meet;exact⟨B,A,j,k,f,l,rfl,rfl,jo,vh ⟨H2.out,H1.out,by rw[N1.out.1,N2.out.1,Nat.add_comm]⟩,rfl⟩
  ·go_wp2_with fail;go_meet;exact⟨A,B,k,j,l,f,rfl,rfl,jo,vh ⟨H1.out,H2.out,by rw[N1.out.1,N2.out.1]⟩,rfl⟩
 case rest=>
  obtain⟨A',B',k',j',l',f',rfl,rfl,⟨hjk,hk6⟩,HI,rfl⟩:=hcut;clear H1 N1 H2 N2 hk hj k j l f HR HS;have hmk:=zlp (k'+1) jo;simp only[Int.natCast_add,Int.natCast_one] at hmk;go_wp2_with fail;clear hmk;go_loopw [6,7,25] (fun cv _ i wr=>∃(i' cr:Nat) (L:List Nat),i'≤k'∧cr≤1∧i = .int .i64 i'∧cv = .int .u64 cr∧Hid (AddInv l' f' L i' cr∧Blk wr wc.heap.size 107 (zbx L)∧Below wc.heap.size wc wr)) (fun _ _ i _=>k' - (intOf i).toNat);case atStart=>
   refine⟨0,0,zer (k'+1),Nat.zero_le _,jo,rfl,rfl,vh ⟨⟨?_,?_,?_,jo⟩,Blk.new _ _ _,al _ _⟩⟩
   ·rw[zdj,HI.1.len]
   ·intro d hd;have:=List.eq_of_mem_replicate hd;omega
   ·simp[zV]
  case round=>
   obtain⟨i,cr,L,hi,hcr,rfl,rfl,HJ⟩:=hrel;by_cases hlt:i<k'
   ·obtain⟨ad,rfl,hb1,hcell⟩:=(HI.1.below HJ.2.2).at_ hlt;have hli:i<l'.length:=by have:=HI.1.len;omega
    have hd1:=HI.1.lt hlt;have hL:i<L.length:=by rw[HJ.1.1];omega
    have cR:wr.cell? ⟨wc.heap.size,i,none⟩=some (.int .u32 (nth L i:Int)):=by rw[HJ.2.1.cell,zbQ hL]
    have fR:wr.frozen? ⟨wc.heap.size,i,none⟩=false:=HJ.2.1.frozen i;clear hL;by_cases hf:i<j'
    ·obtain⟨ad2,rfl,hb2,hcell2⟩:=(HI.2.1.below HJ.2.2).at_ hf;have hfi:i<f'.length:=by have:=HI.2.1.len;omega
     have hd2:=HI.2.1.lt hf;have hst:=vh (HJ.1.step hli HI.1.2.2 HI.2.1.2.2 (s:=cr+nth l' i+nth f' i) (by rw[if_pos hfi]));go_wp2_with fail;refine⟨⟨i+1,(cr+nth l' i+nth f' i) / 4294967296,L.set i ((cr+nth l' i+nth f' i) % 4294967296),jo,hst.out.1.2.2.2,vj1,vz,vh ⟨hst.out.1,?_,HJ.2.2.setCell (ug _) _⟩⟩,ziD⟩;have:=HJ.2.1.set_ i (.int .u32 (((cr+nth l' i+nth f' i) % 4294967296:Nat):Int));rw[zaR] at this;simpa using this
    ·have hfi:¬i<f'.length:=by have:=HI.2.1.len;omega
     have hst:=vh (HJ.1.step hli HI.1.2.2 HI.2.1.2.2 (s:=cr+nth l' i) (by rw[if_neg hfi];omega));go_wp2_with fail;refine⟨⟨i+1,(cr+nth l' i) / 4294967296,L.set i ((cr+nth l' i) % 4294967296),jo,hst.out.1.2.2.2,vj1,vz,vh ⟨hst.out.1,?_,HJ.2.2.setCell (ug _) _⟩⟩,ziD⟩;have:=HJ.2.1.set_ i (.int .u32 (((cr+nth l' i) % 4294967296:Nat):Int));rw[zaR] at this;simpa using this
   ·obtain rfl:i=k':=jo;have hL:i<L.length:=by rw[HJ.1.1,HI.1.len];omega
    have cR:wr.cell? ⟨wc.heap.size,i,none⟩=some (.int .u32 (nth L i:Int)):=by rw[HJ.2.1.cell,zbQ hL]
    have fR:wr.frozen? ⟨wc.heap.size,i,none⟩=false:=HJ.2.1.frozen i;have HL:=vh hL;clear hL;go_wp2_with fail;have hset:=HJ.2.1.set_ i (.int .u32 ((cr:Nat):Int));rw[zaR] at hset;have hlen:(L.set i cr).length=i+1:=by rw[List.length_set,HJ.1.1,HI.1.len]
    have hE:=Es.of_blk hset jo (zc4 HJ.1.2.1 jo);rw[hlen] at hE;have hv:zV 4294967296 (L.set i cr)=zV 4294967296 ds+zV 4294967296 fs:=by
     have h1:(L.set i cr).take (i+1)=L.set i cr:=um jo;rw[←h1,zcN HL.out,zey,List.length_take,Nat.min_eq_left vj8,HJ.1.2.2.1,←HI.2.2,um (by rw[HI.1.len];omega),um (by have:=HI.2.1.len;omega)]
    have hB:=HJ.2.2.setCell (p:=⟨wc.heap.size,i,none⟩) (ug _) (.int .u32 (cr:Int));refine(Yj _ _ (i+1) (i+1) (ug _) _ hE).mono ?_;rintro e w3 ⟨k2,l2,rfl,hk2,hl2,hN2,rfl⟩;rw[hv] at hN2;have HE:=vh hl2;have HN:=vh hN2;have HBB:=vh hB;clear hl2 hN2 hB hE hset hv hlen;go_wp2_with fail;go_ret;exact⟨_,k2,k2,l2,rfl,ug _,HE.out,HN.out,HBB.out⟩
def MulInv (b:Nat) (l f L:List Nat) (i j cr:Nat):Prop:=L.length=l.length+f.length∧(∀d∈L,d<b)∧cr<b∧
 (∀t,i+f.length≤t→t<L.length→nth L t=0)∧
 zV b L+b ^ (i+j)*cr=zV b (l.take i)*zV b f+b ^ i*(nth l i*zV b (f.take j))
theorem zjZ {a b c d:Nat} (ha:a<4294967296) (hb:b<4294967296) (hc:c<4294967296) (hd:d<4294967296):d+(a*b+c)<18446744073709551616:=by
 have:a*b≤4294967295*4294967295:=Nat.mul_le_mul jo jo;omega
theorem zhB {p a b c d:Nat} (ha:a<p) (hb:b<p) (hc:c<p) (hd:d<p):d+(a*b+c)<p*p:=by
 obtain⟨q,rfl⟩:∃q,p=q+1:=⟨p - 1,jo⟩;have h:a*b≤q*q:=Nat.mul_le_mul jo jo;have e:(q+1)*(q+1)=q*q+q+q+1:=by rw[Nat.add_mul,Nat.mul_add];omega
 omega
theorem MulInv.step {p:Nat} {l f L:List Nat} {i j cr s:Nat} (h:MulInv p l f L i j cr) (hi:i<l.length) (hj:j<f.length) (hl:∀d∈l,d<p) (hf:∀d∈f,d<p)
  (hs:s=cr+(nth l i*nth f j+nth L (i+j))):MulInv p l f (L.set (i+j) (s % p)) i (j+1) (s / p):=by
 obtain⟨h1,h2,h3,h4,h5⟩:=h;have d1:=hl _ (yD hi);have d2:=hf _ (yD hj);have d3:=h2 _ (yD (show i+j<L.length by omega));have hb:=zhB d1 d2 d3 h3;rw[←hs] at hb;refine⟨by rw[List.length_set];exact h1,zc4 h2 (Nat.mod_lt _ jo),Nat.div_lt_of_lt_mul hb,fun t ht1 ht2=>?_,?_⟩
 ·rw[ziH jo,if_neg jo];exact h4 t ht1 (by rw[List.length_set] at ht2;exact ht2)
 ·have e1:=zgb (b:=p) (l:=L) (k:=i+j) (x:=s % p) jo;have e2:=YJ (b:=p) hj;rw[e2];have e3:p ^ (i+(j+1))*(s / p)=p ^ (i+j)*(p*(s / p)):=by
   rw[←Nat.add_assoc,Nat.pow_succ,Nat.mul_assoc]
  have e4:p ^ (i+j)*s=p ^ (i+j)*cr+p ^ (i+j)*(nth l i*nth f j)+p ^ (i+j)*nth L (i+j):=by
   rw[hs,Nat.mul_add,Nat.mul_add,Nat.add_assoc]
  have e5:p ^ (i+j)*(s % p)+p ^ (i+j)*(p*(s / p))=p ^ (i+j)*s:=by
   rw[←Nat.mul_add,Nat.mod_add_div]
  have e6:p ^ i*(nth l i*(zV p (f.take j)+p ^ j*nth f j))=p ^ i*(nth l i*zV p (f.take j))+p ^ (i+j)*(nth l i*nth f j):=by
   rw[Nat.mul_add,Nat.mul_add,Nat.pow_add];congr 1;rw[Nat.mul_assoc (p ^ i),Nat.mul_left_comm (nth l i)]
  rw[e3,e6];omega
theorem MulInv.row {p:Nat} {l f L:List Nat} {i cr:Nat} (h:MulInv p l f L i f.length cr) (hi:i<l.length):MulInv p l f (L.set (i+f.length) cr) (i+1) 0 0:=by
 obtain⟨h1,h2,h3,h4,h5⟩:=h;have h0:=h4 (i+f.length) (ug _) jo;refine⟨by rw[List.length_set];exact h1,zc4 h2 h3,jo,fun t ht1 ht2=>?_,?_⟩
 ·rw[ziH jo,if_neg jo];exact h4 t jo (by rw[List.length_set] at ht2;exact ht2)
 ·have e1:=zgb (b:=p) (l:=L) (k:=i+f.length) (x:=cr) jo;rw[h0,Nat.mul_zero,Nat.add_zero] at e1;rw[List.take_length] at h5;have e2:=YJ (b:=p) hi;rw[e1,h5,e2,Nat.add_mul,Nat.mul_assoc];simp[zV]
theorem zoi (A:Option Addr) (ds:List Nat) (n c:Nat) (hc:n≤c) (B:Option Addr) (fs:List Nat) (m d:Nat) (hd:m≤d) (w:World) (hr:Es w w.heap.size A n ds) (hs:Es w w.heap.size B m fs) (hn:n≤1000000) (hm:m≤1000000) :
  Calls Tryz.prog 220 #[.slice A n c,.slice B m d] w (zfk w (zV 4294967296 ds*zV 4294967296 fs)):=by
 have HR:=vh hr;clear hr;have HS:=vh hs;clear hs;go_enter Tryz.func220,Tryz.ntmps220;go_wp2_with fail;refine(Yj A ds n c hc _ HR.out).mono ?_;rintro e w1 ⟨k,l,rfl,hk,hl,hN,rfl⟩;have H1:=vh hl;clear hl;have N1:=vh hN;clear hN;go_wp2_with fail;refine(Yj B fs m d hd _ HS.out).mono ?_;rintro e w2 ⟨j,f,rfl,hj,hf,hM,rfl⟩;have H2:=vh hf;clear hf;have N2:=vh hM;clear hM;have hmk:=zlp (k+j) jo;simp only[Int.natCast_add] at hmk;go_wp2_with fail;clear hmk;go_loopw [6,7,8,21] (fun _ _ _ i wr=>∃(i':Nat) (L:List Nat),i'≤k∧i = .int .i64 i'∧Hid (MulInv 4294967296 l f L i' 0 0∧Blk wr w.heap.size 107 (zbx L)∧Below w.heap.size w wr)) (fun _ _ _ i _=>k - (intOf i).toNat);case atStart=>
  refine⟨0,zer (k+j),Nat.zero_le _,rfl,vh ⟨⟨?_,?_,jo,?_,?_⟩,Blk.new _ _ _,al _ _⟩⟩
  ·rw[zdj,←H1.len,←H2.len]
  ·intro d hd;have:=List.eq_of_mem_replicate hd;omega
  ·intro t _ _;exact zoc _ _
  ·simp[zV,zer,zjW]
 case round=>
  obtain⟨i,L,hi,rfl,HJ⟩:=hrel;by_cases hlt:i<k
  ·have hli:i<l.length:=by have:=H1.len;omega
   have hd1:=H1.lt hlt;obtain⟨wo,rfl⟩:∃wo:World,wo=wr:=⟨_,rfl⟩;go_wp2_with fail;go_loopw [7,8,26] (fun cv _ q wr=>∃(j' cr:Nat) (L:List Nat),j'≤j∧cr<4294967296∧q = .int .i64 j'∧cv = .int .u64 cr∧Hid (MulInv 4294967296 l f L i j' cr∧Blk wr w.heap.size 107 (zbx L)∧Below w.heap.size w wr)) (fun _ _ q _=>j - (intOf q).toNat);case atStart=>exact⟨0,0,L,Nat.zero_le _,jo,rfl,rfl,HJ⟩
   case round=>
    obtain⟨j',cr,L,hj',hcr,rfl,rfl,HJ⟩:=hrel;by_cases hjt:j'<j
    ·obtain⟨ad,rfl,hb1,hcell⟩:=(H1.below HJ.2.2).at_ hlt;obtain⟨ad2,rfl,hb2,hcell2⟩:=(H2.below HJ.2.2).at_ hjt;have hfj:j'<f.length:=by have:=H2.len;omega
     have hd2:=H2.lt hjt;have hL:i+j'<L.length:=by rw[HJ.1.1];omega
     have hd3:=HJ.1.2.1 _ (yD hL);have cR:wr.cell? ⟨w.heap.size,i+j',none⟩=some (.int .u32 (nth L (i+j'):Int)):=by rw[HJ.2.1.cell,zbQ hL]
     have fR:wr.frozen? ⟨w.heap.size,i+j',none⟩=false:=HJ.2.1.frozen _;clear hL;have hbd:=zjZ hd1 hd2 hd3 hcr;have hst:=vh (HJ.1.step hli hfj H1.2.2 H2.2.2 rfl);have i1:IntKind.i64.wrap ((i:Int)+(j':Int))=(i:Int)+(j':Int):=IntWalk.i64_in _ jo;have i2:(0:Int)≤(i:Int)+(j':Int):=jo;have i3:((i:Int)+(j':Int)).toNat=i+j':=jo;have i4:(i:Int)+(j':Int)<((k+j:Nat):Int):=jo;go_wp2_with fail;go_quiet (fail);rw[show ((cr:Int)+((nth l i:Int)*(nth f j':Int)+(nth L (i+j'):Int)))=((cr+(nth l i*nth f j'+nth L (i+j')):Nat):Int) by simp];generalize cr+(nth l i*nth f j'+nth L (i+j'))=sm at *;clear i1 i2 i3 i4;go_wp2_with fail;have hset:=(HJ.2.1.drewN nq).set_ (i+j') (.int .u32 ((sm % 4294967296:Nat):Int));rw[zaR] at hset;refine⟨⟨j'+1,sm / 4294967296,_,jo,hst.out.2.2.1,vj1,vz,vh ⟨hst.out,?_,(YI HJ.2.2 _).setCell (ug _) _⟩⟩,ziD⟩;simpa using hset
    ·obtain rfl:j'=j:=jo;have hL:i+j'<L.length:=by rw[HJ.1.1,←H2.len];omega
     have cR:wr.cell? ⟨w.heap.size,i+j',none⟩=some (.int .u32 (nth L (i+j'):Int)):=by rw[HJ.2.1.cell,zbQ hL]
     have fR:wr.frozen? ⟨w.heap.size,i+j',none⟩=false:=HJ.2.1.frozen _;have HL:=vh hL;clear hL;go_wp2_with fail;have hset:=HJ.2.1.set_ (i+j') (.int .u32 (cr:Int));rw[zaR] at hset;have h1:=HJ.1;rw[H2.len] at h1;have h2:=h1.row hli;rw[←H2.len] at h2;exact⟨⟨i+1,_,jo,vj1,vh ⟨h2,hset,HJ.2.2.setCell (ug _) _⟩⟩,ziD⟩
  ·obtain rfl:i=k:=jo;go_wp2_with fail;have hlen:L.length=i+j:=by rw[HJ.1.1,H1.len,H2.len]
   have hE:=Es.of_blk HJ.2.1 jo HJ.1.2.1;rw[hlen] at hE;have hv:zV 4294967296 L=zV 4294967296 ds*zV 4294967296 fs:=by
    have h1:=HJ.1.2.2.2.2;rw[um (by rw[H1.len];exact ug _),N1.out.1,N2.out.1] at h1;simpa [zV] using h1
   refine(Yj _ _ (i+j) (i+j) (ug _) _ hE).mono ?_;rintro e w4 ⟨k2,l2,rfl,hk2,hl2,hN2,rfl⟩;rw[hv] at hN2;have HE:=vh hl2;have HN:=vh hN2;clear hl2 hN2 hE hv hlen;go_wp2_with fail;go_ret;exact⟨_,k2,k2,l2,rfl,ug _,HE.out,HN.out,HJ.2.2⟩
theorem zoj {w:World} {base:Nat} {e:TypeId} {n:Nat} {v:Value} {xs:List Value} (h:w.ownsRow base e 1 v n xs):∃A c,v = .slice A n c∧n≤c:=by
 rcases h.2 with ⟨rfl,hn⟩ | ⟨g,cap,cur,rfl,_,_,hc,_⟩
 ·exact⟨none,0,by rw[hn],jo⟩
 ·exact⟨_,_,rfl,hc⟩
def zlq (w:World) (N:Nat) (e:Ending) (w':World):Prop:=
 (N<18446744073709551616→e = .returned (.tuple #[.int .u64 N,.bool true]))∧(18446744073709551616≤N→e = .returned (.tuple #[.int .u64 0,.bool false]))∧w=w'
theorem zlr (a x i:Nat) (hi:i≤1) (ha:a<4294967296 ^ i) (hx:x<4294967296):bits .or .u64 (a:Int) (IntKind.u64.wrap ((x:Int)*2 ^ (32*i)))=((a+4294967296 ^ i*x:Nat):Int):=by
 have:i=0∨i=1:=jo;rcases this with rfl | rfl
 ·simp only[Nat.pow_zero] at ha;obtain rfl:a=0:=jo;have e:IntKind.u64.wrap ((x:Int)*2 ^ (32*0))=((x:Nat):Int):=by
   simp only[IntKind.wrap,IntKind.bits,IntKind.signed];simp;omega
  rw[e,u64_or_nat _ _ jo jo];simp
 ·simp only[Nat.pow_one] at ha;have e:IntKind.u64.wrap ((x:Int)*2 ^ (32*1))=((x*4294967296:Nat):Int):=by
   simp only[IntKind.wrap,IntKind.bits,IntKind.signed];simp;omega
  rw[e,u64_or_nat _ _ jo jo,Nat.or_comm,nat_join 32 _ _ jo jo];simp only[Nat.pow_one];congr 1;omega
theorem zhC (A:Option Addr) (ds:List Nat) (n c:Nat) (hc:n≤c) (w:World) (hr:Es w w.heap.size A n ds) :
  Calls Tryz.prog 20 #[.slice A n c] w (zlq w (zV 4294967296 ds)):=by
 have HR:=vh hr;clear hr;go_enter Tryz.func20,Tryz.ntmps20;go_wp2_with fail;refine(Yj A ds n c hc _ HR.out).mono ?_;rintro e w1 ⟨k,l,rfl,hk,hl,hN,rfl⟩;have H1:=vh hl;clear hl;have N1:=vh hN;clear hN;have hkl:=H1.le;by_cases hk2:2<k
 ·have hbig:18446744073709551616≤zV 4294967296 ds:=by
   have h1:=N1.out.pos (by rw[←H1.len];omega);rw[←H1.len] at h1;have h2:4294967296 ^ 2≤4294967296 ^ (k - 1):=Nat.pow_le_pow_right jo jo;simp only[show (4294967296:Nat) ^ 2=18446744073709551616 from rfl] at h2;exact ud h2 h1
  have HBIG:=vh hbig;clear hbig;go_wp2_with fail;go_ret2;exact⟨fun h=>by have:=HBIG.out;omega,fun _=>rfl,rfl⟩
 ·have hsmall:zV 4294967296 ds<18446744073709551616:=by
   have h1:=N1.out.lt;rw[←H1.len] at h1;have h2:4294967296 ^ k≤4294967296 ^ 2:=Nat.pow_le_pow_right jo jo;simp only[show (4294967296:Nat) ^ 2=18446744073709551616 from rfl] at h2;exact uj h1 h2
  have HSM:=vh hsmall;clear hsmall;go_wp2_with fail;go_loop [4,5,13] (fun nv _ i=>∃(i' a:Nat),i'≤k∧i = .int .i64 i'∧nv = .int .u64 a∧Hid (a=zV 4294967296 (l.take i'))) (fun _ _ i=>k - (intOf i).toNat);case atStart=>exact⟨0,0,Nat.zero_le _,rfl,rfl,vh rfl⟩
  case round=>
   obtain⟨i,a,hi,rfl,rfl,HJ⟩:=hrel;by_cases hlt:i<k
   ·obtain⟨ad,rfl,hb,cA⟩:=H1.at_ hlt;have hx:=H1.lt hlt;have hli:i<l.length:=by have:=H1.len;omega
    have hst:=vh (YJ (b:=4294967296) hli);have ha:a<4294967296 ^ i:=by
     have h1:=zfj (b:=4294967296) (l:=l.take i) (fun d h=>H1.2.2 d (List.mem_of_mem_take h));rw[List.length_take,Nat.min_eq_left (uA hli),←HJ] at h1;exact h1
    have HO:=vh (zlr a (nth l i) i jo ha hx);clear ha;go_wp2_with fail;rw[HO];exact⟨⟨i+1,_,jo,vj1,rfl,vh (by rw[hst,←HJ])⟩,ziD⟩
   ·go_wp2_with fail;go_ret2;refine⟨fun _=>?_,fun h=>by have:=HSM.out;omega,rfl⟩;have h1:=HJ.out;rw[um (by rw[←H1.len];omega),N1.out.1] at h1;subst h1;rfl
section
variable {ops : Array Oper} {rest : List Oper} {o : Oper} {a : Act} {w : World} {Q : Exit → Act → World → Prop}
end
def PB (b:Nat):Nat:=4294967296 ^ b
theorem zrM {p a b:Nat}:p ^ a*p ^ b=p ^ (a+b):=(Nat.pow_add p a b).symm
theorem zrN {a b N M:Nat} (h:N<PB a) (k:M<PB b):N*M<PB (a+b):=by
 have:N*M<PB a*PB b:=Nat.mul_lt_mul_of_lt_of_lt h k;rw[PB,PB,zrM] at this;exact this
theorem zrO {p a b:Nat} (hp:2≤p) (ha:1≤a) (hb:1≤b):p ^ a+p ^ b≤p ^ (a+b):=by
 have h1:p ^ (a+b)=p ^ a*p ^ b:=Nat.pow_add ..;have ea:2≤p ^ a:=ud hp (Nat.le_self_pow jo p);have eb:2≤p ^ b:=ud hp (Nat.le_self_pow jo p);rw[h1];have h2:p ^ a*2≤p ^ a*p ^ b:=Nat.mul_le_mul_left _ eb;have h3:2*p ^ b≤p ^ a*p ^ b:=uk _ ea;omega
theorem zrP {a b N M:Nat} (h:N<PB a) (k:M<PB b) (ha:1≤a) (hb:1≤b):N+M<PB (a+b):=by
 have:=zrO (p:=4294967296) jo ha hb;change PB a+PB b≤PB (a+b) at this;omega
theorem zrQ {p b:Nat} {l:List Nat} {V:Nat} (hp:0<p) (h:Nrm p l V) (hV:V<p ^ b):l.length≤b:=by
 rcases Nat.lt_or_ge b l.length with h1 | h1
 ·have h2:=h.pos jo;have h3:p ^ b≤p ^ (l.length - 1):=Nat.pow_le_pow_right hp jo;omega
 ·exact h1
theorem zrR {b:Nat} {l:List Nat} {V:Nat} (h:Nrm 4294967296 l V) (hV:V<PB b):l.length≤b:=zrQ jo h hV
def Num (w:World) (A:Option Addr) (k c b N:Nat):Prop:=k≤c∧1≤b∧k≤10000∧N<PB b∧∃l,Es w w.heap.size A k l∧zV 4294967296 l=N
def Norm (w:World) (A:Option Addr) (k N:Nat):Prop:=∃l,Es w w.heap.size A k l∧Nrm 4294967296 l N
theorem Num.new {w w':World} {A:Option Addr} {k c b N:Nat} (h:Num w A k c b N) (hb:Below w.heap.size w w'):Num w' A k c b N:=by
 obtain⟨h1,h2,h3,h4,l,h5,h6⟩:=h;exact⟨h1,h2,h3,h4,l,h5.new hb,h6⟩
theorem Num.of_nrm {w:World} {A:Option Addr} {k c b N:Nat} {l:List Nat} (h:Es w w.heap.size A k l) (hc:k≤c) (hN:Nrm 4294967296 l N) (hV:N<PB b) (hb:1≤b) (hb2:b≤10000):Num w A k c b N∧Norm w A k N:=by
 have h1:=zrR hN hV;have h2:=h.len;exact⟨⟨hc,hb,jo,hV,l,h,hN.1⟩,l,h,hN⟩
def RetN (w:World) (b N:Nat) (e:Ending) (w':World):Prop:=∃A k c,e = .returned (.slice A k c)∧Num w' A k c b N∧Norm w' A k N∧Below w.heap.size w w'
theorem RetN.of {w:World} {b N:Nat} {e:Ending} {w':World} (h:zfk w N e w') (hV:N<PB b) (hb:1≤b) (hb2:b≤10000):RetN w b N e w':=by
 obtain⟨A,k,c,l,h1,h2,h3,h4,h5⟩:=h;obtain⟨n1,n2⟩:=Num.of_nrm h3 h2 h4 hV hb hb2;exact⟨A,k,c,h1,n1,n2,h5⟩
theorem zhD (n:Nat) (hn:n<18446744073709551616) (w:World):Calls Tryz.prog 8 #[.int .u64 n] w (RetN w 2 n):=
 (zog n hn w).mono fun _ _ h=>RetN.of h (by rw[PB];exact hn) jo jo
section
variable {w : World} {A B : Option Addr} {n c m d a b N M : Nat}
theorem zqm (ha:Num w A n c a N) (hb:Num w B m d b M) (hab:a+b≤10000):Calls Tryz.prog 45 #[.slice A n c,.slice B m d] w (RetN w (a+b) (N+M)):=by
 obtain⟨a1,a2,a3,a4,l,a5,rfl⟩:=ha;obtain⟨b1,b2,b3,b4,f,b5,rfl⟩:=hb;exact(zoh A l n c a1 B f m d b1 w a5 b5 jo jo).mono fun _ _ h=>RetN.of h (zrP a4 b4 a2 b2) jo hab
theorem zth (ha:Num w A n c a N) (hb:Num w B m d b M) (hab:a+b≤10000):Calls Tryz.prog 220 #[.slice A n c,.slice B m d] w (RetN w (a+b) (N*M)):=by
 obtain⟨a1,a2,a3,a4,l,a5,rfl⟩:=ha;obtain⟨b1,b2,b3,b4,f,b5,rfl⟩:=hb;exact(zoi A l n c a1 B f m d b1 w a5 b5 jo jo).mono fun _ _ h=>RetN.of h (zrN a4 b4) jo hab
theorem zgd (ha:Num w A n c a N) (hb:Num w B m d b M):Calls Tryz.prog 18 #[.slice A n c,.slice B m d] w fun e w'=>e = .returned (.int .i64 (YE N M))∧Below w.heap.size w w':=by
 obtain⟨a1,a2,a3,a4,l,a5,rfl⟩:=ha;obtain⟨b1,b2,b3,b4,f,b5,rfl⟩:=hb;exact zlo A l n c a1 B f m d b1 w a5 b5
theorem zqn (ha:Num w A n c a N):Calls Tryz.prog 20 #[.slice A n c] w (zlq w N):=by
 obtain⟨a1,a2,a3,a4,l,a5,rfl⟩:=ha;exact zhC A l n c a1 w a5
theorem zrS (ha:Num w A n c a N) (hab:a≤10000):Calls Tryz.prog 83 #[.slice A n c] w (RetN w a N):=by
 obtain⟨a1,a2,a3,a4,l,a5,rfl⟩:=ha;refine(zln A l n c a1 jo w a5).mono fun _ w1 h=>?_;obtain⟨k,l',⟨v,h1,h2,h3⟩,h4,h5,h6⟩:=h;obtain⟨A',c',rfl,hc'⟩:=zoj h2;obtain⟨A2,c2,he,hE⟩:=Es.of_own h2 h6.2.1;cases he;obtain⟨n1,n2⟩:=Num.of_nrm hE hc' h6 a4 a2 hab;exact⟨A',k,c',h1,n1,n2,h3⟩
end
theorem Norm.zero {w:World} {A:Option Addr} {k N:Nat} (h:Norm w A k N):k=0↔N=0:=by
 obtain⟨l,hE,hN⟩:=h;rw[hE.len];exact hN.zero_iff jo
def qv (s:Bool) (N M:Nat):Rat:=mkRat (if s then -(N:Int) else (N:Int)) (if M=0 then 1 else M)
theorem Num.up {w:World} {A:Option Addr} {k c a b N:Nat} (h:Num w A k c a N) (hV:N<PB b) (hb:1≤b):Num w A k c b N:=⟨h.1,hb,h.2.2.1,hV,h.2.2.2.2⟩
section
variable {w w' : World} {g : Nat} {t : TypeId} {x y z : Value}
end
section
variable {w w' : World} {s : Bool} {A B : Option Addr} {n c m d b : Nat} {x : Rat}
end
theorem Yo (w:World) (p:Addr) (u:Value):(w.setCell p u).heap.size=w.heap.size:=by simp[World.setCell]
section
variable {w : World} {g : Nat} {t : TypeId} {q : Bool} {a1 b1 : Option Addr} {a2 a3 b2 b3 : Nat}
end
section
variable {w : World} {s : Bool} {A B : Option Addr} {n c m d b : Nat} {x : Rat}
end
end Go.Proofs.YtoecdobelolkeaaGreatDoor
