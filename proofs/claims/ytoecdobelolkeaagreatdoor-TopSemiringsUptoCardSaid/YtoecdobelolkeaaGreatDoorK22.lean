/- Part of TopSemirings. -/
import Derived.Test.YtoecdobelolkeaaGreatDoorRows
import Derived.Test.YtoecdobelolkeaaGreatDoorK21
set_option linter.unusedVariables false
set_option linter.unusedSimpArgs false
set_option maxRecDepth 100000
set_option maxHeartbeats 8000000
namespace Go.Proofs.YtoecdobelolkeaaGreatDoor
open Go.RowKit Go.ChangeShapes Go.WideShapes Go.ChangeAt Go.Joins
variable {H S S':Type} {n fuel k:Nat} {L:List (List Nat)} {cs:List Value}
namespace tsb
theorem tb1 (d:DataW H):1≤Rows.uptoBulk d:=by
 cases d with
 |lit l=>cases l <;> simp[Rows.uptoBulk]
 |nil=>simp[Rows.uptoBulk]
 |ptr d=>simp[Rows.uptoBulk]
 |slice elems spare=>simp[Rows.uptoBulk]
 |agg parts=>simp[Rows.uptoBulk]
 |iface t d=>simp[Rows.uptoBulk]
 |map entries=>simp[Rows.uptoBulk]
 |held h=>simp[Rows.uptoBulk]
theorem tb2 {d:DataW H}:∀ {l:List (DataW H)},d∈l→Rows.uptoBulk d≤Rows.uptoBulkAll l
 |[],h=>by cases h
 |x :: r,h=>by
  simp only[Rows.uptoBulkAll]
  rcases List.mem_cons.1 h with e | e
  ·subst e;omega
  ·have:=tb2 e;omega
theorem tb3:∀(l:List (DataW H)),l.length≤Rows.uptoBulkAll l
 |[]=>by simp
 |x :: r=>by have:=tb1 x;have:=tb3 r;simp only[Rows.uptoBulkAll,List.length_cons];omega
theorem tb4 {d:DataW H} {l:List (DataW H)} (h:d∈l):Rows.uptoBulk d≤Rows.uptoBulk (.agg l):=by
 have:=tb2 h;simp only[Rows.uptoBulk];omega
theorem tb5 (E:Nat→DataW H) (sp:List (DataW H)):n≤Rows.uptoBulk (.slice ((List.range n).map E) sp):=by
 have h:=tb3 ((List.range n).map E);simp only[uy,List.length_range] at h;simp only[Rows.uptoBulk];omega
theorem tb6 {i:Nat} (E:Nat→DataW H) (sp:List (DataW H)) (hi:i<n):Rows.uptoBulk (E i)≤Rows.uptoBulk (.slice ((List.range n).map E) sp):=by
 have h:=tb2 (l:=(List.range n).map E) (List.mem_map.2 ⟨i,List.mem_range.2 hi,rfl⟩);simp only[Rows.uptoBulk];omega
theorem tb7 {d:DataW H} {l:List (DataW H)} (hk:Rows.uptoSmall H l=true) (h:d∈l):Rows.uptoBulk d≤1048576:=by
 have h1:Rows.uptoBulkAll l≤1048576:=by simpa [Rows.uptoSmall] using hk
 exact ud (tb2 h) h1
end tsb
theorem zsr {R:World→List Value→S→Prop} {w:World} {a:Addr} {cl:List (List Value)} {xs:List S} (hn:n=xs.length) (hk:∀c∈cl,c.length=k) (hb:0<n→a.block<w.heap.size) (hc:∀(i:Nat) (c:List Value),cl[i]? = some c→∀(j:Nat) (u:Value),c[j]? = some u→w.cell? ((a.add (i*k)).add j)=some u) (hR:All2 (R w) cl xs):LsR k R w (some a) xs:=by
 refine⟨cl,hk,⟨by rw[YC hk,hR.len],fun h0=>⟨a,rfl,hb jo,fun j u hu=>?_⟩⟩,hR⟩;have hl:=(List.getElem?_eq_some_iff.1 hu).1;rw[YC hk] at hl;have hk0:0<k:=by
  rcases Nat.eq_zero_or_pos k with e | e
  ·subst e;omega
  ·exact e
 have hi:j / k<cl.length:=(Nat.div_lt_iff_lt_mul hk0).2 hl;have hcl:cl[j / k]? = some cl[j / k]:=uf hi;have hjm:j / k*k+j % k=j:=by rw[Nat.mul_comm];exact Nat.div_add_mod j k
 have h1:=zbf hk hcl (j % k) (Nat.mod_lt _ hk0);rw[hjm,hu] at h1;have h2:=hc _ _ hcl (j % k) u h1.symm;rw[Addr.add_add,hjm] at h2;exact h2
section
variable {H : Type} {enc : TypeId × Value → H} {w : World} {base : Nat} {spare : Nat → Bool} {held : Bool}
theorem zeb [Inhabited S] {t e:TypeId} {R:World→List Value→S→Prop} {v:Value} {x:DataW H×List MemPlace} (ht:Tryz.prog.underlying t=some (.slice e)) (ce:Tryz.prog.cellsOf e=k) (hk:0<k)
  (hel:∀(n:Nat) (cs:List Value) (y:DataW H×List MemPlace),DataW.trod enc Tryz.prog w base spare held n e cs=some y→cs.length=k→Rows.uptoBulk y.1≤1048576→∃s,R w cs s)
  (h:DataW.trod enc Tryz.prog w base spare held fuel t [v]=some x) (hx:Rows.uptoBulk x.1≤1048576):∃(A:Option Addr) (cap:Nat) (xs:List S),v = .slice A xs.length cap∧LsR k R w A xs∧xs.length≤1048576:=by
 rcases Deep.open_slice ht h with ⟨hcs,hx2⟩ | ⟨a,len,cap,m,n,D,Pl,hcs,hb,hl,hm,hmm,hx2,hc⟩
 ·cases hcs;exact⟨none,0,[],rfl,⟨[],vz,⟨vz,fun h=>absurd h vz⟩,uC⟩,vz⟩
 ·cases hcs;have hlm:len≤m:=by rw[hmm];split <;> omega
  rw[hx2] at hx;have each:∀i,i<len→∃q:List Value×S,q.1.length=k∧(∀j u,q.1[j]? = some u→w.cell? ((a.add (i*k)).add j)=some u)∧R w q.1 q.2:=by
   intro i hi;obtain⟨cs',h1,h2⟩:=hc i jo;rw[ce] at h1;obtain⟨_,hlen,hcell⟩:=World.cells?_some h1;obtain⟨s,hs⟩:=hel n cs' _ h2 hlen (ud (tsb.tb6 D _ hi) hx);exact⟨(cs',s),hlen,fun j u hu=>by rw[hcell j (by rw[←hlen];exact(List.getElem?_eq_some_iff.1 hu).1)];exact hu,hs⟩
  obtain⟨q,hq⟩:=Deep.choose_lt each;have hxl:((List.range len).map fun i=>(q i).2).length=len:=vz;refine⟨some a,cap,(List.range len).map fun i=>(q i).2,by rw[hxl],zsr (n:=len) (cl:=(List.range len).map fun i=>(q i).1) hxl.symm (fun c hc2=>?_) (fun h0=>?_) (fun i c hic j u hu=>?_) (All2.of vz fun i c s h1 h2=>?_),by rw[hxl];exact ud (tsb.tb5 D _) hx⟩
  ·obtain⟨i,hi,rfl⟩:=List.mem_map.1 hc2;exact(hq i (List.mem_range.1 hi)).1
  ·obtain⟨h1,h2,-⟩:=hq 0 h0;have:=block_lt_of_cell (h2 0 _ (uf jo));rwa [yd,yd] at this
  ·have hi:i<len:=by have:=(List.getElem?_eq_some_iff.1 hic).1;simpa using this
   rw[uz,List.getElem?_range hi] at hic;have hic2:(q i).1=c:=Option.some.inj hic;exact(hq i hi).2.1 j u (by rw[hic2];exact hu)
  ·have hi:i<len:=by have:=(List.getElem?_eq_some_iff.1 h1).1;simpa using this
   rw[uz,List.getElem?_range hi] at h1 h2;rw[←Option.some.inj h1,←Option.some.inj h2];exact(hq i hi).2.2
theorem zbL {v:Value} {y:DataW H×List MemPlace} (h:DataW.trod enc Tryz.prog w base spare held n 5 [v]=some y):∃b:Nat,v = .int .u8 (b:Int)∧b<256:=by
 obtain⟨z,f0,-,w0⟩:=DataW.trod_int Tryz.underlying5 h;simp only[List.cons.injEq,and_true] at f0;have b0:=bounds_u8 w0;exact⟨z.toNat,by rw[f0,Int.toNat_of_nonneg b0.1],jo⟩
theorem c_5:Tryz.prog.cellsOf 5=1:=by kernel_rfl
theorem c_81:Tryz.prog.cellsOf 81=1:=by kernel_rfl
theorem zps {y:DataW H×List MemPlace} (h:DataW.trod enc Tryz.prog w base spare held n 85 cs=some y) (hl:cs.length=4):∃r,RiC w cs r:=by
 obtain⟨xs,m,-,-,-,hxl,hf⟩:=DataW.trod_array Tryz.underlying85 h;match xs,hxl,cs,hl with
 |[y0,y1,y2,y3],_,[v0,v1,v2,v3],_=>
  have g0:=hf 0 jd;have g1:=hf 1 jd;have g2:=hf 2 jd;have g3:=hf 3 jd;simp[c_5] at g0 g1 g2 g3;obtain⟨b0,rfl,l0⟩:=zbL g0;obtain⟨b1,rfl,l1⟩:=zbL g1;obtain⟨b2,rfl,l2⟩:=zbL g2;obtain⟨b3,rfl,l3⟩:=zbL g3;refine⟨[b0,b1,b2,b3],rfl,fun y hy=>?_,rfl⟩;simp only[List.mem_cons,List.not_mem_nil,or_false] at hy;rcases hy with rfl | rfl | rfl | rfl <;> assumption
theorem zpt {y:DataW H×List MemPlace} (h:DataW.trod enc Tryz.prog w base spare held n 83 cs=some y) (hl:cs.length=3) (hy:Rows.uptoBulk y.1≤1048576):∃a:AIn,AiC w cs a:=by
 obtain⟨xs,m,-,hxy,-,hxl,hf⟩:=DataW.trod_struct Tryz.underlying83 h;match xs,hxl,cs,hl with
 |[y0,y1,y2],_,[v0,v1,v2],_=>
  have g0:=hf 0 _ rfl;have g1:=hf 1 _ rfl;have g2:=hf 2 _ rfl;simp[c_5,c_81] at g0 g1 g2;obtain⟨b0,rfl,l0⟩:=zbL g0;obtain⟨b2,rfl,l2⟩:=zbL g2;have hb:Rows.uptoBulk y1.1≤1048576:=by
   rw[hxy] at hy;exact ud (tsb.tb4 vz) hy
  obtain⟨A,cap,rs,rfl,hrs,hrl⟩:=zeb (R:=RiC) Tryz.underlying81 (show Tryz.prog.cellsOf 85=4 by kernel_rfl) jo (fun n cs y h hl _=>zps h hl) g1 hb;exact⟨(b0,rs,b2),A,cap,rfl,l0,l2,hrs,by show rs.length≤1100000;omega⟩
theorem zit {v:Value} {x:DataW H×List MemPlace} {l:List (DataW H)} (h:DataW.trod enc Tryz.prog w base spare held fuel 22 [v]=some x) (hk:Rows.uptoSmall H l=true) (hm:x.1∈l):∃l9:List AIn,ArgA w v l9:=by
 obtain⟨A,cap,l9,rfl,has,hal⟩:=zeb (R:=AiC) Tryz.underlying22 (show Tryz.prog.cellsOf 83=3 by kernel_rfl) jo (fun n cs y h hl hy=>zpt h hl hy) h (tsb.tb7 hk hm);exact⟨l9,A,cap,rfl,has,jo⟩
theorem ziu {v:Value} {x:DataW H×List MemPlace} {l:List (DataW H)} (h:DataW.trod enc Tryz.prog w base spare held fuel 23 [v]=some x) (hk:Rows.uptoSmall H l=true) (hm:x.1∈l):∃(A:Option Addr) (n c:Nat) (bs:List Nat),v = .slice A n c∧ByV w A n bs∧n≤1100000:=by
 obtain⟨A,cap,bs,rfl,⟨cl,h1,h2,h3⟩,hbl⟩:=zeb (R:=fun _ cs (b:Nat)=>cs=[.int .u8 (b:Int)]∧b<256) Tryz.underlying23 c_5 jo (fun n cs y h hl _=>by
  match cs,hl with
  |[v],_=>
   obtain⟨b,rfl,hb⟩:=zbL h
   exact⟨b,rfl,hb⟩) h (tsb.tb7 hk hm)
 have hcl:∀(cl:List (List Value)) (bs:List Nat),All2 (fun cs (b:Nat)=>cs=[Value.int .u8 (b:Int)]∧b<256) cl bs→cl.flatten=bs.map (fun b:Nat=>Value.int .u8 (b:Int))∧∀b∈bs,b<256:=by
  intro cl;induction cl with
  |nil=>intro bs hA;cases bs with
   |nil=>exact⟨rfl,vz⟩
   |cons b bs=>exact hA.elim
  |cons c cl ih=>intro bs hA;cases bs with
   |nil=>exact hA.elim
   |cons b bs=>
    obtain⟨⟨e,hb⟩,hA⟩:=hA
    obtain⟨q1,q2⟩:=ih bs hA
    refine⟨by rw[e,List.flatten_cons,q1];rfl,fun x hx=>?_⟩
    rcases List.mem_cons.1 hx with rfl | hx
    ·exact hb
    ·exact q2 x hx
 obtain⟨q1,q2⟩:=hcl cl bs h3;rw[q1] at h2;exact⟨A,_,cap,bs,rfl,⟨h2,rfl,q2⟩,jo⟩
end
open Go.RowKit
abbrev AtL:=List (List Nat×List (List Int))
def zag:Nat→AtL→(Nat→Nat)→List Nat
 |_,[],_=>[]
 |off,a :: l,x=>(off+a.2.idxOf (ptF a.1 x)) :: zag (off+a.2.length) l x
theorem zec (x:Nat→Nat):zax [] x:=fun a ha=>by cases ha
theorem alla_cons {a:List Nat×List (List Int)} {l:AtL} {x:Nat→Nat}:zax (a :: l) x↔ptF a.1 x∈a.2∧zax l x:=
 ⟨fun h=>⟨h a (List.mem_cons_self ..),fun b hb=>h b (uq _ hb)⟩,fun ⟨h1,h2⟩ b hb=>by
  rcases List.mem_cons.1 hb with e | hb
  ·rw[e];exact h1
  ·exact h2 b hb⟩
section
variable {S : Type} (R : CSr S)
theorem zhc (val:Nat→S) (vs:List Nat) (x:Nat→Nat):∀(rows:List (List Int)) (off:Nat),rows.Nodup→zar R vs (rows.zip ((List.range rows.length).map fun j=>val (off+j))) x=if ptF vs x∈rows then val (off+rows.idxOf (ptF vs x)) else R.zero
 |[],off,_=>rfl
 |r :: rows,off,h=>by
  have hn:=List.nodup_cons.1 h
  have ih:=zhc val vs x rows (off+1) hn.2
  have e:(List.range (r :: rows).length).map (fun j=>val (off+j))=val off :: (List.range rows.length).map fun j=>val (off+1+j):=by
   rw[List.length_cons,List.range_succ_eq_map,List.map_cons,List.map_map]
   congr 1
   apply List.map_congr_left
   intro j _
   show val (off+(j+1))=_
   rw[show off+(j+1)=off+1+j by omega]
  rw[e,List.zip_cons_cons]
  show R.add (Ya R (r=ptF vs x) (val off)) (zar R vs _ x)=_
  rw[ih]
  by_cases hr:r=ptF vs x
  ·subst hr
   rw[zS R rfl,if_neg hn.1,R.add_zero,if_pos (List.mem_cons_self ..),List.idxOf_cons_self,Nat.add_zero]
  ·rw[zQ R hr,R.zero_add]
   by_cases hm:ptF vs x∈rows
   ·rw[if_pos hm,if_pos (uq _ hm),show (r :: rows).idxOf (ptF vs x)=rows.idxOf (ptF vs x)+1 from by rw[List.idxOf_cons,show (r == ptF vs x)=false from beq_eq_false_iff_ne.2 hr];rfl,show off+1+rows.idxOf (ptF vs x)=off+(rows.idxOf (ptF vs x)+1) by omega]
   ·rw[if_neg hm,if_neg (fun h=>by rcases List.mem_cons.1 h with h | h;exact hr h.symm;exact hm h)]
theorem YU (val:Nat→S) (x:Nat→Nat):∀(ats:AtL) (off:Nat),(∀a∈ats,a.2.Nodup)→YZ R (zB val off ats) x=if zax ats x then yw R val (zag off ats x) else R.zero
 |[],off,_=>by rw[if_pos (zec x)];rfl
 |a :: l,off,h=>by
  have ih:=YU val x l (off+a.2.length) fun b hb=>h b (uq _ hb)
  show R.mul (den R _ x) (YZ R (zB val (off+a.2.length) l) x)=_
  rw[ih]
  have hd:=zhc R val a.1 x a.2 off (h a (List.mem_cons_self ..))
  have hd2:den R ⟨a.1,a.2,(List.range a.2.length).map fun j=>val (off+j)⟩ x=if ptF a.1 x∈a.2 then val (off+a.2.idxOf (ptF a.1 x)) else R.zero:=hd
  rw[hd2]
  by_cases h1:ptF a.1 x∈a.2
  ·rw[if_pos h1]
   by_cases h2:zax l x
   ·rw[if_pos h2,if_pos (alla_cons.2 ⟨h1,h2⟩)];rfl
   ·rw[if_neg h2,if_neg (fun h=>h2 (alla_cons.1 h).2),R.mul_zero]
  ·rw[if_neg h1,R.zero_mul,if_neg (fun h=>h1 (alla_cons.1 h).1)]
end
def Rch (K:Nat):List Nat→(Nat→Nat)→(Nat→Nat)→Prop
 |[],x,y=>y=x
 |v :: l,x,y=>∃d,d<K∧Rch K l (yG x v d) y
theorem zhd (R:CSr S) (R':CSr S') (φ:S→S') (h0:φ R.zero=R'.zero) (ha:∀a b,φ (R.add a b)=R'.add (φ a) (φ b)) (f:Nat→S):∀k,φ (yl R f k)=yl R' (fun i=>φ (f i)) k
 |0=>h0
 |k+1=>by rw[yl,yl,ha,zhd R R' φ h0 ha f k]
theorem zcf (R:CSr S) (R':CSr S') (φ:S→S') (h0:φ R.zero=R'.zero) (ha:∀a b,φ (R.add a b)=R'.add (φ a) (φ b)) (K:Nat) (F:(Nat→Nat)→S):∀(l:List Nat) (x:Nat→Nat),φ (Ys R K l F x)=Ys R' K l (fun y=>φ (F y)) x
 |[],x=>rfl
 |v :: l,x=>by
  rw[Ys,Ys,zhd R R' φ h0 ha]
  exact yz R' fun d _=>zcf R R' φ h0 ha K F l _
theorem zjx (f:Nat→Nat):∀k,yl FN.vq14 f k=0↔∀d,d<k→f d=0
 |0=>⟨fun _ d hd=>absurd hd jo,fun _=>rfl⟩
 |k+1=>by
  show yl FN.vq14 f k+f k=0↔_
  rw[Nat.add_eq_zero_iff,zjx f k]
  constructor
  ·rintro⟨h1,h2⟩ d hd
   rcases Nat.lt_or_ge d k with h | h
   ·exact h1 d h
   ·rw[show d=k by omega];exact h2
  ·exact fun h=>⟨fun d hd=>h d jo,h k jo⟩
theorem zf2 (K:Nat) (F:(Nat→Nat)→Nat):∀(l:List Nat) (x:Nat→Nat),Ys FN.vq14 K l F x=0↔∀y,Rch K l x y→F y=0
 |[],x=>⟨fun h y hy=>by rw[show y=x from hy];exact h,fun h=>h x rfl⟩
 |v :: l,x=>by
  rw[Ys,zjx]
  constructor
  ·rintro h y ⟨d,hd,hy⟩
   exact(zf2 K F l _).1 (h d hd) y hy
  ·intro h d hd
   exact(zf2 K F l _).2 fun y hy=>h y ⟨d,hd,hy⟩
theorem zno (f:Nat→WS×Nat) (s:Nat→Prop):∀k,(yl FW.vq14 f k).1 s↔∃d,d<k∧(f d).1 s
 |0=>⟨fun h=>h.elim,fun ⟨d,hd,_⟩=>absurd hd jo⟩
 |k+1=>by
  show ((yl FW.vq14 f k).1 s∨(f k).1 s)↔_
  rw[zno f s k]
  constructor
  ·rintro(⟨d,hd,h⟩ | h)
   ·exact⟨d,jo,h⟩
   ·exact⟨k,jo,h⟩
  ·rintro⟨d,hd,h⟩
   rcases Nat.lt_or_ge d k with h1 | h1
   ·exact .inl ⟨d,h1,h⟩
   ·rw[show d=k by omega] at h;exact .inr h
theorem ziv (K:Nat) (F:(Nat→Nat)→WS×Nat) (s:Nat→Prop):∀(l:List Nat) (x:Nat→Nat),(Ys FW.vq14 K l F x).1 s↔∃y,Rch K l x y∧(F y).1 s
 |[],x=>⟨fun h=>⟨x,rfl,h⟩,fun ⟨y,hy,h⟩=>by rw[show y=x from hy] at h;exact h⟩
 |v :: l,x=>by
  rw[Ys,zno]
  constructor
  ·rintro⟨d,hd,h⟩
   obtain⟨y,hy,h⟩:=(ziv K F s l _).1 h
   exact⟨y,⟨d,hd,hy⟩,h⟩
  ·rintro⟨y,⟨d,hd,hy⟩,h⟩
   exact⟨d,hd,(ziv K F s l _).2 ⟨y,hy,h⟩⟩
def IsMin (o:Option Nat) (P:Nat→Prop):Prop:=match o with
 |none=>∀c,¬P c
 |some m=>P m∧∀c,P c→m≤c
theorem IsMin.uniq {o o':Option Nat} {P Q:Nat→Prop} (h:IsMin o P) (h':IsMin o' Q) (hpq:∀c,P c↔Q c):o=o':=by
 cases o with
 |none=>
  cases o' with
  |none=>rfl
  |some m=>exact(h m ((hpq m).2 h'.1)).elim
 |some n=>
  cases o' with
  |none=>exact(h' n ((hpq n).1 h.1)).elim
  |some m=>rw[Nat.le_antisymm (h.2 m ((hpq m).2 h'.1)) (h'.2 n ((hpq n).1 h.1))]
theorem IsMin.add {a b:Option Nat} {P Q T:Nat→Prop} (h:IsMin a P) (h':IsMin b Q) (ht:∀c,T c↔P c∨Q c):IsMin (YQ a b) T:=by
 cases a with
 |none=>
  cases b with
  |none=>exact fun c hc=>by rcases(ht c).1 hc with h1 | h1;exact h c h1;exact h' c h1
  |some m=>exact⟨(ht m).2 (.inr h'.1),fun c hc=>by rcases(ht c).1 hc with h1 | h1;exact(h c h1).elim;exact h'.2 c h1⟩
 |some n=>
  cases b with
  |none=>exact⟨(ht n).2 (.inl h.1),fun c hc=>by rcases(ht c).1 hc with h1 | h1;exact h.2 c h1;exact(h' c h1).elim⟩
  |some m=>
   refine⟨?_,fun c hc=>?_⟩
   ·rcases Nat.le_total n m with h1 | h1
    ·rw[Nat.min_eq_left h1];exact(ht n).2 (.inl h.1)
    ·rw[Nat.min_eq_right h1];exact(ht m).2 (.inr h'.1)
   ·rcases(ht c).1 hc with h1 | h1
    ·exact ud (Nat.min_le_left _ _) (h.2 c h1)
    ·exact ud (Nat.min_le_right _ _) (h'.2 c h1)
theorem IsMin.self (o:Option Nat):IsMin o fun c=>o=some c:=by
 cases o with
 |none=>intro c h;cases h
 |some m=>exact⟨rfl,fun c h=>by injection h with h;omega⟩
theorem znp (f:Nat→Option Nat) (P:Nat→Nat→Prop) (h:∀d,IsMin (f d) (P d)):∀k,IsMin (yl FC.vq14 f k) fun c=>∃d,d<k∧P d c
 |0=>fun c ⟨d,hd,_⟩=>absurd hd jo
 |k+1=>IsMin.add (znp f P h k) (h k) fun c=>by
  constructor
  ·rintro⟨d,hd,hc⟩
   rcases Nat.lt_or_ge d k with h1 | h1
   ·exact .inl ⟨d,h1,hc⟩
   ·rw[show d=k by omega] at hc;exact .inr hc
  ·rintro(⟨d,hd,hc⟩ | hc)
   ·exact⟨d,jo,hc⟩
   ·exact⟨k,jo,hc⟩
theorem sumV_C (K:Nat) (F:(Nat→Nat)→Option Nat):∀(l:List Nat) (x:Nat→Nat),IsMin (Ys FC.vq14 K l F x) fun c=>∃y,Rch K l x y∧F y=some c
 |[],x=>IsMin.uniq9 (IsMin.self (F x)) fun c=>⟨fun h=>⟨x,rfl,h⟩,fun ⟨y,hy,h⟩=>by rw[show y=x from hy] at h;exact h⟩
 |v :: l,x=>IsMin.uniq9 (znp _ (fun d c=>∃y,Rch K l (yG x v d) y∧F y=some c) (fun d=>sumV_C K F l _) K) fun c=>
  ⟨fun ⟨d,hd,y,hy,h⟩=>⟨y,⟨d,hd,hy⟩,h⟩,fun ⟨y,⟨d,hd,hy⟩,h⟩=>⟨d,hd,y,hy,h⟩⟩
where
 IsMin.uniq9 {o:Option Nat} {P Q:Nat→Prop} (h:IsMin o P) (hpq:∀c,P c↔Q c):IsMin o Q:=by
  cases o with
  |none=>exact fun c hc=>h c ((hpq c).2 hc)
  |some m=>exact⟨(hpq m).1 h.1,fun c hc=>h.2 c ((hpq c).2 hc)⟩
def ZF:Nat→Nat:=fun _=>1
def Zj (bs:List Nat) (k:Nat):Option Nat:=some (yN bs k)
def zbM (bs:List Nat) (k:Nat):Nat×Option Nat:=(1,some (yN bs k))
def Zt (bs:List Nat):List Nat→Nat
 |[]=>0
 |k :: l=>yN bs k+Zt bs l
theorem znq:∀l:List Nat,yw FN.vq14 ZF l=1
 |[]=>rfl
 |k :: l=>by show 1*yw FN.vq14 ZF l=1;rw[znq l]
theorem zss (bs:List Nat):∀l:List Nat,yw FC.vq14 (Zj bs) l=some (Zt bs l)
 |[]=>rfl
 |k :: l=>by show ZX (some (yN bs k)) (yw FC.vq14 (Zj bs) l)=_;rw[zss bs l];rfl
theorem zst (bs:List Nat):∀l:List Nat,yw FP.vq14 (zbM bs) l=(1,some (Zt bs l))
 |[]=>rfl
 |k :: l=>by show (1*(yw FP.vq14 (zbM bs) l).1,ZX (some (yN bs k)) (yw FP.vq14 (zbM bs) l).2)=_;rw[zst bs l];rfl
theorem zsu:∀l:List Nat,yw FW.vq14 ZE l=(fun s=>s=YV l,1)
 |[]=>by
  show (wSr.one,1)=_
  congr 1
  funext s
  have:YV []=fun _=>False:=by funext k;simp[YV]
  show (s=fun _=>False)=_
  rw[this]
 |k :: l=>by
  show (wSr.mul (ZE k).1 (yw FW.vq14 ZE l).1,1*(yw FW.vq14 ZE l).2)=_
  rw[zsu l]
  congr 1
  funext s
  apply propext
  show (∃a b,a=YV [k]∧b=YV l∧s=fun j=>a j∨b j)↔s=YV (k :: l)
  constructor
  ·rintro⟨a,b,rfl,rfl,rfl⟩
   rw[show k :: l=[k]++l from rfl,zb3]
  ·rintro rfl
   exact⟨_,_,rfl,rfl,by rw[show k :: l=[k]++l from rfl,zb3]⟩
theorem zkV {d:Nat} {rs:List (List Int)} (h:RsOk d rs):rs.Nodup:=h.asc.imp fun hxy e=>by
 subst e
 exact za5 _ hxy
theorem zhe:∀(ats:AtL) (off:Nat) (x:Nat→Nat),(zag off ats x).length=ats.length
 |[],_,_=>rfl
 |a :: l,off,x=>by rw[zag,List.length_cons,zhe l,List.length_cons]
theorem zjy:∀(ats:AtL) (off:Nat) (x:Nat→Nat),∀k∈zag off ats x,off≤k
 |[],_,_,k,hk=>by cases hk
 |a :: l,off,x,k,hk=>by
  rcases List.mem_cons.1 hk with rfl | hk
  ·omega
  ·have:=zjy l _ x k hk
   omega
theorem zed:∀(ats:AtL) (off:Nat) (x:Nat→Nat),zax ats x→(zag off ats x).Pairwise (· < ·)
 |[],_,_,_=>List.Pairwise.nil
 |a :: l,off,x,h=>by
  refine List.Pairwise.cons (fun k hk=>?_) (zed l _ x fun b hb=>h b (uq _ hb))
  have h1:=zjy l _ x k hk
  have h2:=List.idxOf_lt_length_of_mem (h a (List.mem_cons_self ..))
  show off+a.2.idxOf (ptF a.1 x)<k
  omega
def Yy (bs:List Nat) (L:List (List Nat)):Option Nat:=L.foldl (fun a l=>YQ a (some (Zt bs l))) none
theorem zff (bs:List Nat):∀(L:List (List Nat)) (a:Option Nat) (P:Nat→Prop),IsMin a P→IsMin (L.foldl (fun a l=>YQ a (some (Zt bs l))) a) fun c=>P c∨∃l∈L,c=Zt bs l
 |[],a,P,h=>sumV_C.IsMin.uniq9 h fun c=>⟨.inl,fun h=>by rcases h with h | ⟨_,h,_⟩;exact h;cases h⟩
 |l :: L,a,P,h=>by
  rw[List.foldl_cons]
  refine sumV_C.IsMin.uniq9 (zff bs L _ (fun c=>P c∨c=Zt bs l) (IsMin.add h (IsMin.self _) fun c=>by
   constructor
   ·rintro(h | rfl)
    ·exact .inl h
    ·exact .inr rfl
   ·rintro(h | h)
    ·exact .inl h
    ·injection h with h;exact .inr h.symm)) fun c=>?_
  constructor
  ·rintro((h | rfl) | ⟨m,hm,rfl⟩)
   ·exact .inl h
   ·exact .inr ⟨l,List.mem_cons_self ..,rfl⟩
   ·exact .inr ⟨m,uq _ hm,rfl⟩
  ·rintro(h | ⟨m,hm,rfl⟩)
   ·exact .inl (.inl h)
   ·rcases List.mem_cons.1 hm with rfl | hm
    ·exact .inl (.inr rfl)
    ·exact .inr ⟨m,hm,rfl⟩
def yB {S:Type} (R:CSr S) (val:Nat→S) (n:Nat) (ats:AtL):S:=Ys R 4 (zN (2 ^ n - 1)) (YZ R (zB val 0 ats)) (fun _=>0)
theorem ziw:∀n:Nat,n≤5→zN (2 ^ n - 1)=List.range n
 |0,_=>by decide
 |1,_=>by decide
 |2,_=>by decide
 |3,_=>by decide
 |4,_=>by decide
 |5,_=>by decide
 |n+6,h=>absurd h jo
section
variable {n : Nat} {ats : AtL}
theorem Yd (hw:WfA n ats) :∀a∈ats,a.2.Nodup:=fun a ha=>zkV (hw a ha).2
theorem zjz (hn:n ≤ 5) (hw:WfA n ats) :yB FN.vq14 ZF n ats=yA ats n 0 (fun _=>0):=by
 unfold yB yA;rw[ziw n hn,Nat.sub_zero,←List.range_eq_range'];refine YH FN.vq14 (fun x=>?_) _ _;rw[YU FN.vq14 ZF x ats 0 (Yd hw),znq];rfl
theorem zsv (hw:WfA n ats) (bs:List Nat):(yB FP.vq14 (zbM bs) n ats).1=yB FN.vq14 ZF n ats:=by
 unfold yB;rw[zcf FP.vq14 FN.vq14 (fun z=>z.1) rfl (fun _ _=>rfl)];refine YH FN.vq14 (fun x=>?_) _ _;rw[YU FN.vq14 ZF x ats 0 (Yd hw),YU FP.vq14 (zbM bs) x ats 0 (Yd hw),znq,zst];split <;> rfl
theorem zsw (hw:WfA n ats) (bs:List Nat):(yB FP.vq14 (zbM bs) n ats).2=yB FC.vq14 (Zj bs) n ats:=by
 unfold yB;rw[zcf FP.vq14 FC.vq14 (fun z=>z.2) rfl (fun _ _=>rfl)];refine YH FC.vq14 (fun x=>?_) _ _;rw[YU FC.vq14 (Zj bs) x ats 0 (Yd hw),YU FP.vq14 (zbM bs) x ats 0 (Yd hw),zss,zst];split <;> rfl
theorem zsx (hw:WfA n ats) :(yB FW.vq14 ZE n ats).2=yB FN.vq14 ZF n ats:=by
 unfold yB;rw[zcf FW.vq14 FN.vq14 (fun z=>z.2) rfl (fun _ _=>rfl)];refine YH FN.vq14 (fun x=>?_) _ _;rw[YU FN.vq14 ZF x ats 0 (Yd hw),YU FW.vq14 ZE x ats 0 (Yd hw),znq,zsu];split <;> rfl
theorem znr (hw:WfA n ats) :yB FN.vq14 ZF n ats=0↔∀y,Rch 4 (zN (2 ^ n - 1)) (fun _=>0) y→¬zax ats y:=by
 unfold yB;rw[zf2];refine forall_congr' fun y=>forall_congr' fun _=>?_;rw[YU FN.vq14 ZF y ats 0 (Yd hw),znq];by_cases h:zax ats y
 ·rw[if_pos h];simp[h]
 ·rw[if_neg h];simp[h];rfl
theorem zqr (hw:WfA n ats) (bs:List Nat):IsMin (yB FC.vq14 (Zj bs) n ats) fun c=>∃y,(Rch 4 (zN (2 ^ n - 1)) (fun _=>0) y∧zax ats y)∧c=Zt bs (zag 0 ats y):=by
 unfold yB;refine sumV_C.IsMin.uniq9 (sumV_C 4 _ _ _) fun c=>exists_congr fun y=>?_;rw[YU FC.vq14 (Zj bs) y ats 0 (Yd hw),zss];by_cases h:zax ats y
 ·rw[if_pos h];constructor
  ·rintro⟨h1,h2⟩;injection h2 with h2;exact⟨⟨h1,h⟩,h2.symm⟩
  ·rintro⟨⟨h1,-⟩,rfl⟩;exact⟨h1,rfl⟩
 ·rw[if_neg h];constructor
  ·rintro⟨_,h2⟩;cases h2
  ·rintro⟨⟨_,h2⟩,_⟩;exact(h h2).elim
theorem zqs (hw:WfA n ats) (s:Nat→Prop):(yB FW.vq14 ZE n ats).1 s↔∃y,(Rch 4 (zN (2 ^ n - 1)) (fun _=>0) y∧zax ats y)∧s=YV (zag 0 ats y):=by
 unfold yB;rw[ziv];refine exists_congr fun y=>?_;rw[YU FW.vq14 ZE y ats 0 (Yd hw),zsu];by_cases h:zax ats y
 ·rw[if_pos h];exact⟨fun ⟨h1,h2⟩=>⟨⟨h1,h⟩,h2⟩,fun ⟨⟨h1,_⟩,h2⟩=>⟨h1,h2⟩⟩
 ·rw[if_neg h];exact⟨fun ⟨_,h2⟩=>h2.elim,fun ⟨⟨_,h2⟩,_⟩=>(h h2).elim⟩
theorem zns (hw:WfA n ats) (bs:List Nat):yB FC.vq14 (Zj bs) n ats=none↔yB FN.vq14 ZF n ats=0:=by
 have h:=zqr hw bs (n:=n);rw[znr hw];constructor
 ·intro e y hy ha;rw[e] at h;exact h _ ⟨y,⟨hy,ha⟩,rfl⟩
 ·intro h2;cases e:yB FC.vq14 (Zj bs) n ats with
  |none=>rfl
  |some m=>
   rw[e] at h;obtain⟨y,⟨hy,ha⟩,-⟩:=h.1;exact(h2 y hy ha).elim
theorem zcg (hw:WfA n ats) (hL:zeM L) (hr:RepW (yB FW.vq14 ZE n ats).1 L) (l:List Nat):l∈L↔∃y,(Rch 4 (zN (2 ^ n - 1)) (fun _=>0) y∧zax ats y)∧l=zag 0 ats y:=by
 constructor
 ·intro h;obtain⟨y,hy,e⟩:=(zqs hw (YV l)).1 ((hr _).2 ⟨l,h,rfl⟩);exact⟨y,hy,ZC (hL.1 l h) (zed ats 0 y hy.2) fun v=>iff_of_eq (congrFun e v)⟩
 ·rintro⟨y,hy,rfl⟩;obtain⟨m,hm,e⟩:=(hr _).1 ((zqs hw (YV (zag 0 ats y))).2 ⟨y,hy,rfl⟩);rw[ZC (zed ats 0 y hy.2) (hL.1 m hm) fun v=>iff_of_eq (congrFun e v)];exact hm
theorem zpu (hw:WfA n ats) (hL:zeM L) (hr:RepW (yB FW.vq14 ZE n ats).1 L):L=[]↔yB FN.vq14 ZF n ats=0:=by
 rw[znr hw];constructor
 ·intro e y hy ha;have:=(zcg hw hL hr _).2 ⟨y,⟨hy,ha⟩,rfl⟩;rw[e] at this;cases this
 ·intro h;cases L with
  |nil=>rfl
  |cons l L=>
   obtain⟨y,⟨hy,ha⟩,-⟩:=(zcg hw hL hr l).1 (List.mem_cons_self ..);exact(h y hy ha).elim
theorem zpv (hw:WfA n ats) (hL:zeM L) (hr:RepW (yB FW.vq14 ZE n ats).1 L):∀l∈L,l.length=ats.length:=by
 intro l hl;obtain⟨y,-,rfl⟩:=(zcg hw hL hr l).1 hl;exact zhe _ _ _
theorem zkW (hw:WfA n ats) (bs:List Nat) (hL:zeM L) (hr:RepW (yB FW.vq14 ZE n ats).1 L):Yy bs L=yB FC.vq14 (Zj bs) n ats:=by
 refine IsMin.uniq (zff bs L none (fun _=>False) fun c h=>h) (zqr hw bs) fun c=>?_;constructor
 ·rintro(h | ⟨l,hl,rfl⟩)
  ·exact h.elim
  ·obtain⟨y,hy,rfl⟩:=(zcg hw hL hr l).1 hl;exact⟨y,hy,rfl⟩
 ·rintro⟨y,hy,rfl⟩;exact .inr ⟨_,(zcg hw hL hr _).2 ⟨y,hy,rfl⟩,rfl⟩
end
theorem vm1 {P:Prop} (h:P:=by
 obtain⟨A,na,ca,rfl,-⟩:=id ha;obtain⟨U,nu,cu,rfl,-⟩:=id hu;obtain⟨D,cd,rfl,-,hD,hn5⟩:=hr.form;obtain⟨n,hn⟩:=vx (rs.length);rw[←hn] at hD hn5 ⊢;have HA:=vh ha;have HU:=vh hu;have HRS:=vh hr;have HN:=vh hn;have HV:=vh hvs;have HVA:=vh hva;have HLn:=vh hl;clear ha hu hr hD hn hvs hva hl;rw[←HN] at HRS;obtain⟨cm,hcm⟩:=vx ((zr ovs &&& all));have hcm2:cm<4294967296:=by rw[hcm];exact uw Nat.and_le_right hall
 have hso:zr ovs<4294967296:=ZB (n:=32) HV.out;rw[←hcm];have HCm:=vh hcm;clear hcm;first | go_enter Tryz.func107,Tryz.ntmps107 | go_enter Tryz.func117,Tryz.ntmps117 | go_enter Tryz.func123,Tryz.ntmps123 | go_enter Tryz.func129,Tryz.ntmps129
 go_upto_region 1 with (fail);have hbw:=ze (al w (.cells #[.slice A na ca,.slice D n cd,c] vq1)) (al _ (.cells #[.slice none 0 0,.map none] 224)) vz;have HF:=vh ((Blk.new w vq1 #[.slice A na ca,.slice D n cd,c]).keep (al _ (.cells #[.slice none 0 0,.map none] 224)));have HR:=vh (Blk.new (w.alloc (.cells #[.slice A na ca,.slice D n cd,c] vq1)) 224 #[.slice none 0 0,.map none]);rw[show (w.alloc (.cells #[.slice A na ca,.slice D n cd,c] vq1)).heap.size=w.heap.size+1 from by simp] at HR;have HB:=vh hbw;clear hbw;generalize (w.alloc (.cells #[.slice A na ca,.slice D n cd,c] vq1)).alloc (.cells #[.slice none 0 0,.map none] 224)=w1 at *;obtain⟨g3,hg3⟩:=vx (w.heap.size);obtain⟨g6,hg6⟩:=vx (w.heap.size+1);rw[←hg6] at HR ⊢;rw[←hg3] at HF ⊢;have HGg3:=vh (show w.heap.size≤g3∧w.heap.size≤g6 from by omega);clear hg3 hg6;have HGg6:=vh HGg3.2;refine zj (kss:=[[],[(0,12)],[],[(1,13),(2,14)],[(3,15)]]) [(3,.pointer (some (⟨g3,0,none⟩))),(2,.int .u32 ((all:Int)))] [EV (.agg #[.slice A na ca,.slice D n cd,c]),EV (.int .u32 (((zr ovs:Nat):Int))),EV (.int .u32 ((all:Int))),EV (.int .u32 ((cm:Int))),EV (.int .u32 ((cm:Int)))] vk vt ?_ ?_ ?_
 ·exact js
 ·exact⟨(fun aa ww hb he hd=>za rfl (zg (cs:=[.slice A na ca,.slice D n cd,c]) rfl vk vk he.1 (Blk.at_k HF.out rfl hb))),(fun aa ww hb he hd=>za rfl (zq _ _ _ rfl vk (by rw[show aa.eval (.tmp 12) = .agg #[.slice A na ca,.slice D n cd,c] from hd.1];exact zU (vq2 _ _ _ ovs ww (HA.below (ze HB.out hb HB.size)) HV.out)))),vi1,(fun aa ww hb he hd=>za rfl (by rw[HCm];exact zdJ _ _ rfl hd.1 hd.2.1 hso hall)),vi3,uC⟩
 intro vs w2 hb hR;refine vs0 ?_;rw[(hR 4 jd:vs 4=_)];clear hR;replace HB:=vh (ze HB.out hb HB.size);replace HF:=vh (HF.keep hb);replace HR:=vh (HR.keep hb);clear hb;have hmm:=@run_makeMap Tryz.prog;go_wp2_with fail;refine(zaa (.slice U nu cu) uvs cm hcm2 w2 (HU.below HB.out) HVA.out).mono ?_;rintro e w3 ⟨u9,rfl,hu9,hb⟩;replace HB:=vh (ze HB.out hb HB.size);replace HF:=vh (HF.keep hb);replace HR:=vh (HR.keep hb);clear hb;have HCo:=vh hu9;clear hu9;obtain⟨A9,n9,c9,rfl,-⟩:=id HCo.out;go_upto_region 3 with (fail);clear hmm;obtain⟨w4,hw4⟩:=vx ((w3.alloc (.map #[] 0)).alloc (.cells #[.slice A9 n9 c9,.map (some w3.heap.size)] 224));obtain⟨gm,hgm⟩:=vx (w3.heap.size);obtain⟨g8,hg8⟩:=vx (w3.heap.size+1);have hst:MpK w4 gm []∧Blk w4 g8 224 #[.slice A9 n9 c9,.map (some gm)]∧Below gm w3 w4:=by
  rw[hw4,hgm,hg8];exact⟨(MpK.new_ w3).keep (al _ _),Blk.new2 w3 _ _ _,(al _ _).trans ((al _ _).mono vz)⟩
 have HI:=vh hst;have HG:=vh (uh hgm (show gm<g8 by omega));have HBs:=vh HB.size;have HG6:=vh (show g6<gm by rw[hgm];exact HR.lt);clear hst;rw[←hw4,←hg8,←hgm];have hb:Below w3.heap.size w3 w4:=by rw[←HG.1];exact HI.2.2
 clear hw4 hg8 hgm;replace HB:=vh (ze HB.out hb HB.size);replace HF:=vh (HF.keep hb);replace HR:=vh (HR.keep hb);replace HCo:=vh (HCo.below hb);clear hb;have c0:=Blk.at0 HF.out (ue _ _);go_wp2_with fail;refine(zaa (.slice A na ca) ovs cm hcm2 w4 (HA.below HB.out) HV.out).mono ?_;rintro e w5 ⟨u8,rfl,hu8,hb⟩;have HC8:=vh hu8;clear hu8 c0;have HJ0:=vh (show MpK w5 gm (zdK (rs.take 0) (yu ovs cm))∧Blk w5 g8 224 #[.slice A9 n9 c9,.map (some gm)]∧Below gm w3 w5∧KD [3] w5 w5∧gm≤w5.heap.size from⟨HI.1.keep hb,HI.2.1.keep hb,HI.2.2.trans (hb.mono (uA HI.1.lt)),KD.refl _ _,ud (uA HI.1.lt) hb.size⟩);replace HB:=vh (ze HB.out hb HB.size);replace HF:=vh (HF.keep hb);replace HR:=vh (HR.keep hb);replace HCo:=vh (HCo.below hb);clear hb;obtain⟨A8,n8,c8,rfl,-⟩:=id HC8.out;have c1:=Blk.at1 HF.out (ue _ _);go_wp2_with fail;clear c1 HI;go_loopg [28] n (fun g iv wr=>∃(i:Nat),iv = .int .i64 i∧i+g=n∧Hid (MpK wr gm (zdK (rs.take i) (yu ovs cm))∧Blk wr g8 224 #[.slice A9 n9 c9,.map (some gm)]∧Below gm w5 wr∧KD [3] w5 wr∧gm≤wr.heap.size));case atStart=>exact⟨0,rfl,jo,vh ⟨HJ0.1,HJ0.2.1,ue _ _,HJ0.2.2.2⟩⟩
 case round=>
  obtain⟨i,rfl,him,HJ⟩:=hrel;clear HJ0;have HB5:=vh (show Below w.heap.size w wr from HB.trans (HJ.2.2.1.mono (by rw[HG.1];exact HBs.out)));by_cases hi:i<n
  ·have i1:((i:Int)<(n:Int)):=jo;obtain⟨xr,hxr⟩:∃x,rs[i]? = some x:=⟨_,uf ziE⟩;have t1:zdK (rs.take (i+1)) (yu ovs cm)=asg (zdK (rs.take i) (yu ovs cm)) (ye xr (yu ovs cm)) (.bool true):=by rw[List.take_add_one,hxr];exact zkg _ _ _
   have hlr:=HLn.out xr (ui hxr);obtain⟨adr,csr,rfl,-,hcr,hRr⟩:=(RowsV.below HRS.out HB5.out).atA hxr;obtain⟨ur,rfl,hur⟩:=hRr;obtain⟨Au,nu2,cu2,rfl,-⟩:=id hur;replace hcr:=hcr 0 _ rfl;rw[adz,Nat.mul_one] at hcr;have HT1:=vh t1;have HRr:=vh hur;have HLr:=vh hlr;clear t1 hur hxr hlr;go_upto_region 7 with (fail);clear hcr;refine zt (kss:=[[],[(0,32)],[],[],[(2,34),(3,35)]]) [(8,.pointer (some (⟨g8,0,none⟩))),(11,.slice Au nu2 cu2),(9,.slice A8 n8 c8)] [EV (.pointer (some (⟨g8,1,none⟩))),EV (.map (some gm)),EV (.slice Au nu2 cu2),EV (.slice A8 n8 c8),EV (.string (yV (ye xr (yu ovs cm))))] 5 [] vk vk vt [false,false,false,false,false] ?_ ?_ ?_ ?_
   ·exact fun i hi=>absurd hi vz
   ·exact js
   ·exact⟨zeg,vi89,vi1,vi4,(fun aa ww hb he hd=>za rfl (zE _ _ _ _ rfl vk (by rw[show aa.eval (.tmp 34) = .slice Au nu2 cu2 from hd.1,show aa.eval (.tmp 35) = .slice A8 n8 c8 from hd.2.1];exact zU (zaX _ _ xr (yu ovs cm) ww (HRr.below hb) ((HC8.kd HJ.2.2.2.1 rfl).below hb) (fun k hk=>by rw[HLr.1];exact ZZ hk))))),uC⟩
   intro vs w6 hb hR _;have e33:vs 1=_:=hR 1 jd;have e36:vs 4=_:=hR 4 jd;clear hR;refine vs0 ?_;rw[e33,e36];clear e33 e36;have HJ6:=vh (show MpK w6 gm (zdK (rs.take i) (yu ovs cm))∧Blk w6 g8 224 #[.slice A9 n9 c9,.map (some gm)]∧Below gm w5 w6∧KD [3] w5 w6∧gm≤w6.heap.size from⟨HJ.1.keep hb,HJ.2.1.keep hb,HJ.2.2.1.trans (hb.mono HJ.2.2.2.2),HJ.2.2.2.1.trans (KD.below hb),ud HJ.2.2.2.2 hb.size⟩);clear hb HJ HB5;refine zA (i:=5) vk rfl rfl (zhY (ks:=ye xr (yu ovs cm)) (v:= .bool true) rfl rfl Tryz.underlying222 Tryz.underlying9 rfl rfl rfl HJ6.1 (fun x hx=>by obtain⟨k,hk,rfl⟩:=List.mem_map.1 hx;exact HLr.2 _ (Yi (by rw[HLr.1];exact ZZ hk))) ?_);intro w7 hm hg hs kn;refine zR vk (zy ?_) _;have HN2:=vh (show MpK w7 gm (zdK (rs.take (i+1)) (yu ovs cm))∧Blk w7 g8 224 #[.slice A9 n9 c9,.map (some gm)]∧Below gm w5 w7∧KD [3] w5 w7∧gm≤w7.heap.size from by
    rw[HT1]
    have kd:KD [3,224] w6 w7:=KD.map HJ6.1 hg kn
    exact⟨hm,kd.b 224 vz _ _ HJ6.2.1,HJ6.2.2.1.grown hg HJ6.2.2.2.2 (fun k e=>by cases e;exact ug _),HJ6.2.2.2.1.trans (kd.sub vz),by rw[hs];exact HJ6.2.2.2.2⟩)
   clear hm hg hs kn HJ6 HT1 HRr HLr;exact zfg
  ·obtain rfl:n=i:=jo;rw[um zlf] at HJ;have HR5:=vh (HR.low HJ.2.2.1 HG6.out);go_upto_region 9 with (fail);refine zc (kss:=[[]]) [(8,.pointer (some (⟨g8,0,none⟩)))] [EV (.agg #[.slice A9 n9 c9,.map (some gm)])] 1 vk vt [false] ?_ ?_ ?_
   ·exact js
   ·exact⟨(fun aa ww hb he hd=>za rfl (zg (cs:=[.slice A9 n9 c9,.map (some gm)]) rfl vk vk he.1 (Blk.at_k HJ.2.1 rfl hb))),uC⟩
   intro vs w8 hb hR;refine vw0 ?_;clear hR;have hr8:=HR5.keep hb;show wpOps _ _ _ [1] _ _;refine zb rfl rfl (zC (vs:=[.slice A9 n9 c9,.map (some gm)]) (off:=0) rfl rfl vk rfl rfl rfl hr8 vj6 (fun j _ _ x=>zD rfl j x) ?_);intro w9 kn hg hs hb3;have HW:=vh (show Below w.heap.size w w9 from(ze HB5.out hb HB5.size).grown hg (ud HB5.size hb.size) (fun k e=>by cases e;exact HGg6.out));have kd:KD [3] w8 w9:=KD.blk hr8 hg kn rfl;have hm9:=(HJ.1.keep hb).grown hg (row:=some g6) (fun e=>by injection e with e;exact MpK.ne (HJ.1.keep hb) hr8 e.symm);have HFin:=vh (show FltV w9 [.slice A9 n9 c9,.map (some gm)] (yu uvs cm,fun k=>rs.any fun y=>decide (ye y (yu ovs cm)=k))∧Blk w9 g6 224 #[.slice A9 n9 c9,.map (some gm)] from⟨⟨_,_,_,gm,_,rfl,(((HCo.kd HJ.2.2.2.1 rfl).below hb).kd kd rfl),hm9,fun k=>zoB _ k rs⟩,hb3⟩);clear kn hg hs hb3 kd hm9 hr8 hb HJ HR5 HB5;unfold wpOps;go_wp2_with fail;refine bodyPost_ret (v:= .agg #[.slice A9 n9 c9,.map (some gm)]) (results_cell_row vq3 _ _ _ _ _ (0,0) _ rfl HFin.2 Tryz.underlying224 rfl vk) rfl ?_;exact⟨_,rfl,⟨_,rfl,HFin.1⟩,HW.out⟩):P:=h
def zpw (vq4:Nat):Prop:=∀(a u c b:Value) (ovs uvs:List Nat) (rs:List (List Int)) (all:Nat) (w:World) (ha:IntsV w a ovs) (hr:RowsV w b rs) (hu:IntsV w u uvs) (hvs:∀v∈ovs,v<32) (hva:∀v∈uvs,v<32) (hall:all<4294967296) (hl:∀r∈rs,r.length=ovs.length∧∀x∈r,0≤x∧x≤9),Calls Tryz.prog vq4 #[.agg #[a,b,c],u,.int .u32 (all:Int)] w (RV w (fun v w'=>∃cs,v = .agg cs.toArray∧FltV w' cs (yu uvs (zr ovs &&& all),fun k=>rs.any fun y=>decide (ye y (yu ovs (zr ovs &&& all))=k))))
theorem FN.vq12:zpw 107:=by
 exact zjL
theorem vm14 {P:Prop} (h:P:=by
 obtain⟨ad1,c1,cs1,e1,-,hc1,hR1⟩:=hr.at_ (i:=i) (x:=rs.getD i []) (by simp[hi]);obtain⟨ad2,c2,cs2,e2,-,hc2,hR2⟩:=hr.at_ (i:=k) (x:=rs.getD k []) (by simp[hk]);cases e1;cases e2;obtain⟨u1,rfl,hu1⟩:=hR1;obtain⟨u2,rfl,hu2⟩:=hR2;obtain⟨A1,n1,k1,rfl,-,-,hx1⟩:=hu1.x;obtain⟨A2,n2,k2,rfl,-,-,hx2⟩:=hu2.x;have hd1:W.cell? (Addr.add ad1 (i*1))=some (.slice A1 n1 k1):=by have hh:=hc1 0 _ rfl;rwa [adz] at hh
 have hd2:W.cell? (Addr.add ad1 (k*1))=some (.slice A2 n2 k2):=by have hh:=hc2 0 _ rfl;rwa [adz] at hh
 obtain⟨n,hn⟩:=vx (rs.length);rw[←hn] at hb hi hk;obtain⟨r1,hr1⟩:∃r,r=rs.getD i []:=⟨_,rfl⟩;obtain⟨r2,hr2⟩:∃r,r=rs.getD k []:=⟨_,rfl⟩;rw[←hr1] at hx1 ⊢;rw[←hr2] at hx2 ⊢;have HB:=vh hb;have H1:=vh hx1;have H2:=vh hx2;have HD1:=vh hd1;have HD2:=vh hd2;clear hb hr hx1 hx2 hd1 hd2 hc1 hc2 hu1 hu2 hn hr1 hr2;first | go_enter Tryz.func146,Tryz.ntmps146 | go_enter Tryz.func148,Tryz.ntmps148 | go_enter Tryz.func150,Tryz.ntmps150 | go_enter Tryz.func152,Tryz.ntmps152
 go_upto_region 1 with (fail);refine D.wp_region_each (kss:=[[],[(0,6)],[],[(1,7),(2,8)],[(3,9)],[],[(5,11)],[],[(6,12),(7,13)],[(8,14)],[(4,10),(9,15)],[(10,16)]]) [(2,.pointer (some (⟨g1,0,none⟩))),(0,.int .i64 ((i:Int))),(1,.int .i64 ((k:Int)))] [fun zz _=>zz = .pointer (some (⟨g1,1,none⟩)),fun zz _=>zz = .slice ((some ad1)) n rc,fun zz _=>zz = .int .i64 ((i:Int)),fun zz _=>zz = .pointer (some (Addr.add ad1 (i*1))),fun zz _=>zz = .slice A1 n1 k1,fun zz _=>zz = .pointer (some (⟨g1,1,none⟩)),fun zz _=>zz = .slice ((some ad1)) n rc,fun zz _=>zz = .int .i64 ((k:Int)),fun zz _=>zz = .pointer (some (Addr.add ad1 (k*1))),fun zz _=>zz = .slice A2 n2 k2,fun zz _=>zz = .int .i64 ((zH r1 r2)),fun zz _=>zz = .int .i64 ((zH r1 r2))] vk vk vt ?_ ?_ ?_
 ·exact⟨fun _ _ _ h _=>h,fun _ _ _ h _=>h,fun _ _ _ h _=>h,fun _ _ _ h _=>h,fun _ _ _ h _=>h,fun _ _ _ h _=>h,fun _ _ _ h _=>h,fun _ _ _ h _=>h,fun _ _ _ h _=>h,fun _ _ _ h _=>h,fun _ _ _ h _=>h,fun _ _ _ h _=>h,uC⟩
 ·exact⟨zrs,zrt,(fun aa ww hb he hd=>za rfl (zi _ rfl ⟨he.2.1,BelowD.refl _ _⟩)),(fun aa ww hb he hd=>za rfl (zdG (e:=87) (s:=1) (k:=i) rfl vk jo hd.1 hd.2.1)),(fun aa ww hb he hd=>za rfl (zbG rfl vk hd.1 ((hb.cell (zh HD1.out)).trans HD1.out))),zrs,zrt,(fun aa ww hb he hd=>za rfl (zi _ rfl ⟨he.2.2.1,BelowD.refl _ _⟩)),(fun aa ww hb he hd=>za rfl (zdG (e:=87) (s:=1) (k:=k) rfl vk jo hd.1 hd.2.1)),(fun aa ww hb he hd=>za rfl (zbG rfl vk hd.1 ((hb.cell (zh HD2.out)).trans HD2.out))),(fun aa ww hb he hd=>za rfl (zE _ _ _ _ rfl vk (by rw[show aa.eval (.tmp 10) = .slice A1 n1 k1 from hd.1,show aa.eval (.tmp 15) = .slice A2 n2 k2 from hd.2.1];exact zfD (zeN n1 n2 k1 k2 A1 A2 _ _ ww (H1.new hb.b) (H2.new hb.b))))),(fun aa ww hb he hd=>za rfl (YO _ rfl ⟨hd.1,BelowD.refl _ _⟩)),uC⟩
 intro vs w2 hb hR;refine zpP ?_;clear hR;go_wp2_with fail;go_ret;exact⟨rfl,hb⟩):P:=h
def zjA (vq1:Nat) (vq5:Nat):Prop:=∀(a c:Value) (ad1:Addr) (rc g1 i k:Nat) (rs:List (List Int)) (W:World) (hb:Blk W g1 vq1 #[a,.slice (some ad1) rs.length rc,c]) (hr:RowsV W (.slice (some ad1) rs.length rc) rs) (hi:i<rs.length) (hk:k<rs.length),Calls Tryz.prog vq5 #[.int .i64 (i:Int),.int .i64 (k:Int),.pointer (some ⟨g1,0,none⟩)] W fun e w'=>e = .returned (.int .i64 (zH (rs.getD i []) (rs.getD k [])))∧BelowD W.heap.size W w'
theorem FN.vq6:zjA 104 146:=by
 exact zjR
theorem FC.vq6:zjA 119 148:=by
 exact zjR
theorem FP.vq6:zjA 128 150:=by
 exact zjR
theorem FW.vq6:zjA 140 152:=by
 exact zjR
theorem vm2 {P:Prop} (h:P:=by
 obtain⟨a,b,c,rfl,ha,hbr,hcv⟩:=h;obtain⟨A,ca,rfl,-,hA,hn5⟩:=hbr.form;obtain⟨n,hn⟩:=vx (f.rows.length);rw[←hn] at hA hn5 ⊢;obtain⟨C,cc,rfl,-,hC,-⟩:=hcv.form;rw[←hl,←hn] at hC ⊢;have HRS:=vh hbr;have HVS:=vh hcv;have HIA:=vh ha;have HN:=vh hn;have HL:=vh hl;have HST:=vh hst;have HSTb:=vh (show ∀(w w':World) (c:List Value) (x:S),Below w.heap.size w w'→R w c x→R w' c x from fun w w' c x hb h=>hst w w' c x (KD.below hb) h);have HSH:=vh hsh;clear ha hbr hcv hA hC hl hst hsh hn;have e1:f.rows.length=n:=HN.symm;have e2:f.vals.length=n:=by rw[←HL,e1]
 rw[e1] at HRS;rw[e2] at HVS;have HE1:=vh e1;have HE2:=vh e2;clear e1 e2;have mk:=zoz n hn5;first | go_enter Tryz.func112,Tryz.ntmps112 | go_enter Tryz.func118,Tryz.ntmps118 | go_enter Tryz.func124,Tryz.ntmps124 | go_enter Tryz.func130,Tryz.ntmps130
 go_upto_region 1 with (fail);have hbw:=ze (al w (.cells #[a,.slice A n ca,.slice C n cc] vq1)) (al _ (.cells #[.slice none 0 0,.slice none 0 0,.slice none 0 0] vq1)) vz;have HF:=vh ((Blk.new w vq1 #[a,.slice A n ca,.slice C n cc]).keep (al _ (.cells #[.slice none 0 0,.slice none 0 0,.slice none 0 0] vq1)));have HR:=vh (Blk.new (w.alloc (.cells #[a,.slice A n ca,.slice C n cc] vq1)) vq1 #[.slice none 0 0,.slice none 0 0,.slice none 0 0]);rw[show (w.alloc (.cells #[a,.slice A n ca,.slice C n cc] vq1)).heap.size=w.heap.size+1 from by simp] at HR;have HB:=vh hbw;clear hbw;generalize (w.alloc (.cells #[a,.slice A n ca,.slice C n cc] vq1)).alloc (.cells #[.slice none 0 0,.slice none 0 0,.slice none 0 0] vq1)=w1 at *;obtain⟨g1,hg1⟩:=vx (w.heap.size);obtain⟨g2,hg2⟩:=vx (w.heap.size+1);rw[←hg2] at HR ⊢;rw[←hg1] at HF ⊢;have HGg1:=vh (show w.heap.size≤g1∧w.heap.size≤g2 from by omega);clear hg1 hg2;have c0:=Blk.at0 HF.out (ue _ _);have c1:=Blk.at1 HF.out (ue _ _);have c2:=Blk.at2 HF.out (ue _ _);go_upto_region 2 with (fail);obtain⟨w2,hw2⟩:=vx (w1.alloc (.cells (Ye n 0).toArray 3));obtain⟨g3,hg3⟩:=vx (w1.heap.size);have hst:Blk w2 g3 3 (Ye n 0).toArray∧Below w.heap.size w w2∧Below w1.heap.size w1 w2∧w1.heap.size≤g3:=by
  rw[hw2,hg3];refine⟨?_,ze HB.out (al _ _) HB.size,al _ _,ug _⟩;exact Blk.new w1 _ _
 have HI:=vh hst;clear hst c0 c1 c2;rw[←hw2,←hg3];clear hw2 hg3 mk;go_wp2_with fail;go_loopg [14] n (fun g iv wr=>∃i:Nat,iv = .int .i64 i∧i+g=n∧Hid (Blk wr g3 3 (Ye n i).toArray∧Below w.heap.size w wr∧Below w1.heap.size w1 wr∧w1.heap.size≤g3));case atStart=>exact⟨0,rfl,jo,HI⟩
 case round=>
  obtain⟨i,rfl,him,HJ⟩:=hrel;clear HI;by_cases hi:i<n
  ·have i1:((i:Int)<(n:Int)):=jo;go_upto_region 5 with (fail);refine zc (kss:=[[],[],[],[(0,17),(1,18)]]) [(3,.slice ((some ⟨g3,0,none⟩)) n n),(4,.int .i64 ((i:Int)))] [EV (.slice ((some ⟨g3,0,none⟩)) n n),EV (.int .i64 ((i:Int))),EV (.int .i64 ((i:Int))),EV (.pointer (some (Addr.add (⟨g3,0,none⟩) (i*1))))] 4 vk vt [false,false,false,false] ?_ ?_ ?_
   ·exact js
   ·exact⟨vi0,vi1,vi1,zn0,uC⟩
   intro vs w3 hb hR;refine vs0 ?_;rw[(hR 2 jd:vs 2=_),(hR 3 jd:vs 3=_)];clear hR;show wpOps _ _ _ [4] _ _;rw[yy,Nat.mul_one];refine zb rfl rfl (yZ (g:=g3) (off:=i) (v:= .int .i64 (i:Int)) rfl rfl vk rfl rfl rfl (HJ.1.keep hb) (by simp[Ye];omega) (zlZ n i) ?_);intro w4 kp hg hs hB;have HN2:=vh (show Blk w4 g3 3 (Ye n (i+1)).toArray∧Below w.heap.size w w4∧Below w1.heap.size w1 w4∧w1.heap.size≤g3 from by
    have h1:=ze HJ.2.1 hb HJ.2.1.size
    have h2:=ze HJ.2.2.1 hb HJ.2.2.1.size
    refine⟨by rw[←zhX n i hi];simpa [yt] using hB,h1.grown hg h1.size (fun k e=>by cases e;exact ud HB.size HJ.2.2.2),h2.grown hg h2.size (fun k e=>by cases e;exact HJ.2.2.2),HJ.2.2.2⟩)
   clear hb kp hg hs hB HJ;exact znD
  ·obtain rfl:n=i:=jo;have HO3:=vh HJ.1;have HB2:=vh HJ.2.1;have HF2:=vh (HF.keep HJ.2.2.1);have HR2:=vh (HR.keep HJ.2.2.1);have HG3:=vh HJ.2.2.2;have HF0:=vh HF.lt;have HR0:=vh HR.lt;clear HJ HF HR;go_wp2_with fail;obtain⟨AA,na,nc,rfl,-⟩:=id HIA.out;refine(zfF n g3 vq5 #[.pointer (some ⟨g1,0,none⟩)] wr f.rows hn5 HO3.out (fun args w=>Yq vk args) ?_).mono ?_
   ·intro W hg hk i k hi hk2;have hn:=HN.out;subst hn;have hW:KD [87,89] wr W:=KD.blk HO3.out hg hk rfl;have hr:RowsV W (.slice A f.rows.length ca) f.rows:=RowsV.kd (RowsV.below HRS.out HB2.out) hW rfl rfl;have hf:Blk W g1 vq1 #[.slice AA na nc,.slice A f.rows.length ca,.slice C f.rows.length cc]:=HF2.grown hg (fun e=>by injection e with e;have:=HF0.out;have:=HG3.out;omega);obtain⟨ad,c,cs,e,-⟩:=hr.at_ (i:=i) (x:=f.rows.getD i []) (by simp[hi]);cases e;exact vq6 _ _ ad ca g1 i k f.rows W hf hr hi hk2
   rintro e w3 ⟨rfl,ks,hperm,hblk,hg,hkn⟩;have HB3:=vh (HB2.grown hg HB2.size (fun k e=>by cases e;exact ud HB.size HG3.out));have HF3:=vh (HF2.grown hg (fun e=>by injection e with e;have:=HF0.out;have:=HG3.out;omega));have HR3:=vh (HR2.grown hg (fun e=>by injection e with e;have:=HR0.out;have:=HG3.out;omega));have HP:=vh hperm;have HO:=vh hblk;clear hperm hblk hg hkn HB2 HF2 HR2 HO3;have c0:=Blk.at0 HF3.out (ue _ _);go_upto_region 9 with (fail);clear c0;have hkl:ks.length=n:=by have:=HP.length_eq;simpa using this
   have hks:∀j∈ks,j<n:=fun j hj=>by have:=HP.mem_iff.1 hj;simpa using this
   have HKL:=vh hkl;have HKS:=vh hks;clear hkl hks;obtain⟨w4,hw4⟩:=vx (w3.alloc (.cells #[.slice AA na nc,.slice none 0 0,.slice none 0 0] vq1));obtain⟨g5,hg5⟩:=vx (w3.heap.size);have hst:OwnL 87 1 (fun _=>RowC w3) w4 g5 (.slice none 0 0) ((ks.take 0).filterMap fun j=>f.rows[j]?)∧OwnL vq7 vq8 (fun _=>R w3) w4 g5 (.slice none 0 0) ((ks.take 0).filterMap fun j=>f.vals[j]?)∧Blk w4 g5 vq1 #[.slice AA na nc,(.slice none 0 0),(.slice none 0 0)]∧Below g5 w3 w4∧g5≤w4.heap.size:=by
    rw[hw4,hg5];exact⟨OwnL.nil _ _,OwnL.nil _ _,Blk.new _ _ _,al _ _,(al _ _).size⟩
   have HI:=vh hst;have HG5:=vh hg5;clear hst;rw[←hw4,←hg5];clear hw4 hg5;go_wp2_with fail;go_loopg [30] n (fun g iv wr=>∃(i:Nat) (s1 s2:Value),iv = .int .i64 i∧i+g=n∧Hid (OwnL 87 1 (fun _=>RowC w3) wr g5 s1 ((ks.take i).filterMap fun j=>f.rows[j]?)∧OwnL vq7 vq8 (fun _=>R w3) wr g5 s2 ((ks.take i).filterMap fun j=>f.vals[j]?)∧Blk wr g5 vq1 #[.slice AA na nc,s1,s2]∧Below g5 w3 wr∧g5≤wr.heap.size));case atStart=>exact⟨0,_,_,rfl,jo,HI⟩
   case round=>
    obtain⟨i,s1,s2,rfl,him,HJ⟩:=hrel;clear HI;by_cases hi:i<n
    ·have i1:((i:Int)<(n:Int)):=jo;have hkn:nth ks i<n:=HKS.out _ (yD (by rw[HKL];exact hi));obtain⟨xr,hxr⟩:∃x,f.rows[nth ks i]? = some x:=⟨_,uf (by rw[HE1];exact hkn)⟩;obtain⟨xv,hxv⟩:∃x,f.vals[nth ks i]? = some x:=⟨_,uf (by rw[HE2];exact hkn)⟩;have t1:=zi1 (ks:=ks) (by rw[HKL];exact hi) hxr;have t2:=zi1 (ks:=ks) (by rw[HKL];exact hi) hxv;have l1:((ks.take i).filterMap fun j=>f.rows[j]?).length≤5000000:=by rw[zdI (fun j hj=>by rw[HE1];exact HKS.out j (List.mem_of_mem_take hj)),List.length_take];omega
     have l2:((ks.take i).filterMap fun j=>f.vals[j]?).length≤5000000:=by rw[zdI (fun j hj=>by rw[HE2];exact HKS.out j (List.mem_of_mem_take hj)),List.length_take];omega
     have HBr:=vh (show Below w3.heap.size w3 wr by rw[←HG5];exact HJ.2.2.2.1);have hco:(I64 (zu ks)).toArray[i]? = some (.int .i64 (nth ks i:Int)):=by simp[I64,zu,nth,List.getD,HKL.out,hi]
     obtain⟨q,hq⟩:=vx (nth ks i);rw[←hq] at hkn hxr hxv hco;clear hq;obtain⟨adr,csr,rfl,-,hcr,hRr⟩:=(RowsV.below HRS.out HB3.out).atA hxr;obtain⟨ur,rfl,hur⟩:=hRr;obtain⟨Au,nu,cu,rfl,-⟩:=id hur;replace hcr:=hcr 0 _ rfl;rw[adz] at hcr;obtain⟨adv,csv,rfl,hlv,hcv,hRv⟩:=(HVS.below HB3.out (fun c x h=>HSTb.out _ _ c x HB3.out h)).atA hxv;have hRv2:=hRv;first
     |guard_expr ins =~ 1
      obtain⟨b9,A9,k9,c9,rfl⟩:=HSH.out _ _ _ hRv
     |guard_expr ins =~ 2
      obtain⟨A9,k9,c9,b9,B9,m9,d9,rfl⟩:=HSH.out _ _ _ hRv
     |obtain⟨A9,k9,c9,rfl⟩:=HSH.out _ _ _ hRv
     have HKc:=vh (show wr.cell? ⟨g3,i,none⟩=some (.int .i64 (q:Int)) by rw[(HO.keep HBr.out).cell];exact hco);have HC1:=vh (show wr.cell? ⟨g1,1,none⟩=some (.slice (some adr) n ca)∧g1<g5 from⟨Blk.at1 HF3.out HBr.out,by rw[HG5];exact HF3.lt⟩);have HC2:=vh (show wr.cell? ⟨g1,2,none⟩=some (.slice (some adv) n cc) from Blk.at2 HF3.out HBr.out);have HCr:=vh (show wr.cell? (Addr.add adr (q*1))=some (.slice Au nu cu)∧(Addr.add adr (q*1)).block<g5 from⟨(HBr.cell (zh hcr)).trans hcr,by rw[HG5];exact zh hcr⟩);first
     |guard_expr ins =~ 1
      have HCv:=vh (show (∀(j:Nat) (u:Value),[.bool b9,.slice A9 k9 c9][j]? = some u→wr.cell? ((Addr.add adv (q*2)).add j)=some u∧((Addr.add adv (q*2)).add j).block<g5) from fun j u hj=>⟨(HBr.cell (zh (hcv j u hj))).trans (hcv j u hj),ztc⟩)
     |guard_expr ins =~ 2
      have HCv:=vh (show (∀(j:Nat) (u:Value),[.slice A9 k9 c9,.bool b9,.slice B9 m9 d9][j]? = some u→wr.cell? ((Addr.add adv (q*3)).add j)=some u∧((Addr.add adv (q*3)).add j).block<g5) from fun j u hj=>⟨(HBr.cell (zh (hcv j u hj))).trans (hcv j u hj),ztc⟩)
     |have HCv:=vh (show (∀(j:Nat) (u:Value),[.slice A9 k9 c9][j]? = some u→wr.cell? ((Addr.add adv (q*1)).add j)=some u∧((Addr.add adv (q*1)).add j).block<g5) from fun j u hj=>⟨(HBr.cell (zh (hcv j u hj))).trans (hcv j u hj),ztc⟩)
     have HT1:=vh t1;have HT2:=vh t2;have HRr:=vh hur;have HRv:=vh hRv2;have HL1:=vh l1;have HL2:=vh l2;clear t1 t2 hcr hcv hRv hur hco hRv2 hlv hxr hxv l1 l2;go_upto_region 11 with (fail);refine zj (kss:=[[],[(0,32)],[(1,33)]]) [(28,.slice ((some ⟨g3,0,none⟩)) n n),(30,.int .i64 ((i:Int)))] [EV (.pointer (some (Addr.add (⟨g3,0,none⟩) (i*1)))),EV (.int .i64 ((q:Int))),EV (.int .i64 ((q:Int)))] vk vt ?_ ?_ ?_
     ·exact js
     ·exact⟨(fun aa ww hb he hd=>za rfl (zm (e:=3) (s:=1) (k:=i) rfl vk jo he.1 he.2.1)),(fun aa ww hb he hd=>za rfl (zd rfl vk hd.1 (by rw[yy,Nat.mul_one];exact(hb.cell (zh HKc.out)).trans HKc.out))),vi3,uC⟩
     intro vs w5 hb hR;refine vw4 ?_;clear hR;have HJ5:=vh (show OwnL 87 1 (fun _=>RowC w3) w5 g5 s1 ((ks.take i).filterMap fun j=>f.rows[j]?)∧OwnL vq7 vq8 (fun _=>R w3) w5 g5 s2 ((ks.take i).filterMap fun j=>f.vals[j]?)∧Blk w5 g5 vq1 #[.slice AA na nc,s1,s2]∧Below g5 w3 w5∧g5≤w5.heap.size from⟨HJ.1.below hb vj7,HJ.2.1.below hb vj7,HJ.2.2.1.keep hb,HJ.2.2.2.1.trans (hb.mono HJ.2.2.2.2),ud HJ.2.2.2.2 hb.size⟩);replace HC1:=vh (show w5.cell? ⟨g1,1,none⟩=some (.slice (some adr) n ca)∧g1<g5 from⟨(hb.cell (zh HC1.1)).trans HC1.1,HC1.2⟩);replace HC2:=vh (show w5.cell? ⟨g1,2,none⟩=some (.slice (some adv) n cc) from(hb.cell (zh HC2.out)).trans HC2.out);first
     |guard_expr ins =~ 1
      replace HCr:=vh (show w5.cell? (Addr.add adr (q*1))=some (.slice Au nu cu)∧(Addr.add adr (q*1)).block<g5 from⟨(hb.cell (zh HCr.1)).trans HCr.1,HCr.2⟩);replace HCv:=vh (show (∀(j:Nat) (u:Value),[.bool b9,.slice A9 k9 c9][j]? = some u→w5.cell? ((Addr.add adv (q*2)).add j)=some u∧((Addr.add adv (q*2)).add j).block<g5) from fun j u hj=>⟨(hb.cell (zh (HCv.out j u hj).1)).trans (HCv.out j u hj).1,(HCv.out j u hj).2⟩)
     |guard_expr ins =~ 2
      replace HCr:=vh (show w5.cell? (Addr.add adr (q*1))=some (.slice Au nu cu)∧(Addr.add adr (q*1)).block<g5 from⟨(hb.cell (zh HCr.1)).trans HCr.1,HCr.2⟩);replace HCv:=vh (show (∀(j:Nat) (u:Value),[.slice A9 k9 c9,.bool b9,.slice B9 m9 d9][j]? = some u→w5.cell? ((Addr.add adv (q*3)).add j)=some u∧((Addr.add adv (q*3)).add j).block<g5) from fun j u hj=>⟨(hb.cell (zh (HCv.out j u hj).1)).trans (HCv.out j u hj).1,(HCv.out j u hj).2⟩)
     |replace HCr:=vh (show w5.cell? (Addr.add adr (q*1))=some (.slice Au nu cu)∧(Addr.add adr (q*1)).block<g5 from⟨(hb.cell (zh HCr.1)).trans HCr.1,HCr.2⟩);replace HCv:=vh (show (∀(j:Nat) (u:Value),[.slice A9 k9 c9][j]? = some u→w5.cell? ((Addr.add adv (q*1)).add j)=some u∧((Addr.add adv (q*1)).add j).block<g5) from fun j u hj=>⟨(hb.cell (zh (HCv.out j u hj).1)).trans (HCv.out j u hj).1,(HCv.out j u hj).2⟩)
     clear hb HJ HKc HBr;have HLs:=vh (show okC s1=true∧okC s2=true from⟨HJ5.1.len,HJ5.2.1.len⟩);obtain⟨cl1,h11,h12,h13⟩:=HJ5.1;have HO1:=vh h12;have HX5:=vh HJ5.2.2.1;have HS5:=vh HJ5.2.2.2.2;have HA1:=vh (uh h11 h13);clear h11 h12 h13;go_upto_region 12 with (fail);refine yn (kss:=[[],[(0,34)],[],[(2,36)],[],[(3,37),(4,38)],[(5,39)],[(6,40)],[(1,35),(7,41)],[],[(8,42),(9,43)]]) (PuI g5 [vq7] w5) (PuE g5 87 1 s1 (((ks.take i).filterMap fun j=>f.rows[j]?).length) cl1.flatten g5 vq1 #[.slice AA na nc,s1,s2]) [(5,.pointer (some (⟨g5,0,none⟩))),(1,.pointer (some (⟨g1,0,none⟩))),(7,.int .i64 ((q:Int)))] [EV (.pointer (some (⟨g5,1,none⟩))),EV (s1),EV (.pointer (some (⟨g1,1,none⟩))),EV (.slice ((some adr)) n ca),EV (.int .i64 ((q:Int))),EV (.pointer (some (Addr.add adr (q*1)))),EV (.slice Au nu cu),fun zz ww=>∃g:Nat,zz = .slice (some ⟨g,0,none⟩) 1 1∧True∧Blk ww g 87 #[.slice Au nu cu],fun zz ww=>OwnC ww g5 87 1 zz (((ks.take i).filterMap fun j=>f.rows[j]?).length+1) (cl1.flatten++[.slice Au nu cu]),EV (.pointer (some (⟨g5,1,none⟩))),fun _ ww=>∃sv':Value,Blk ww g5 vq1 #[.slice AA na nc,sv',s2]∧OwnC ww g5 87 1 sv' (((ks.take i).filterMap fun j=>f.rows[j]?).length+1) (cl1.flatten++[.slice Au nu cu])] 11 [(8,PuA g5 87 1 s1 (((ks.take i).filterMap fun j=>f.rows[j]?).length) cl1.flatten),(10,PuS g5 vq1 #[.slice AA na nc,s1,s2])] [(8,7),(10,7),(8,10)] [(8,0),(10,1)] vk vk vk vt (PuI.start HS5.out) (PuE.all HO1.out HX5.out) zcJ PuE.below ?_ ?_ ?_ ?_
     ·exact vt47
     ·exact vt18
     ·exact⟨(zf rfl (fun aa ww hI hE he hd=>za rfl (zw (off:=1) rfl vk he.1))),(zf rfl (fun aa ww hI hE he hd=>za rfl (zd rfl vk hd.1 (Blk.at1 (hE 1 vk) (ue _ _))))),(zf rfl (fun aa ww hI hE he hd=>za rfl (zw (off:=1) rfl vk he.2.1))),(zf rfl (fun aa ww hI hE he hd=>za rfl (zd rfl vk hd.1 ((hI.b.cell HC1.2).trans HC1.1)))),(zf rfl (fun aa ww hI hE he hd=>za rfl (zi _ rfl ⟨he.2.2.1,ue _ _⟩))),(zf rfl (fun aa ww hI hE he hd=>za rfl (zm (e:=87) (s:=1) (k:=q) rfl vk jo hd.1 hd.2.1))),(zf rfl (fun aa ww hI hE he hd=>za rfl (zd rfl vk hd.1 ((hI.b.cell HCr.2).trans HCr.1)))),(zf rfl (fun aa ww hI hE he hd=>have hb:=ue ww.heap.size ww;za rfl (zk (zP (e:=87) (k:=1) rfl vk vk jo hd.1 rfl) zlg))),(yx rfl rfl (fun aa ww hI hE he hd=>(by obtain⟨g9,h1,h2,h3⟩:=hd.2.1;exact zk (Yb (s:= .tmp 35) (x:= .tmp 41) (e:=87) (k:=1) rfl vk vk g5 s1 _ _ hd.1 (hE 0 vk) g9 _ h1 h3 rfl rfl (ud HL1.out jo) hI.size) (fun _ _ ⟨q1,q2,_,q4⟩=>⟨q1,hE 0 vk,q2,q4⟩)))),(zf rfl (fun aa ww hI hE he hd=>za rfl (zw (off:=1) rfl vk he.1))),(yx rfl rfl (fun aa ww hI hE he hd=>(by have h1:=hd.1;exact zk (Yt (g:=g5) (off:=1) rfl vk hd.2.1 rfl h1.ok (hE 1 vk) vz (Yk HLs.1 rfl)) vj90))),uC⟩
     intro vs w6 hI hR;obtain⟨sv',hbx,hos⟩:=hR 10 jd vk;clear hR;refine Yr vk (zy ?_) _;refine vs0 ?_;have HJ6:=vh (show OwnL 87 1 (fun _=>RowC w3) w6 g5 sv' (((ks.take (i+1)).filterMap fun j=>f.rows[j]?))∧OwnL vq7 vq8 (fun _=>R w3) w6 g5 s2 ((ks.take i).filterMap fun j=>f.vals[j]?)∧Blk w6 g5 vq1 #[.slice AA na nc,sv',s2]∧Below g5 w3 w6∧g5≤w6.heap.size from⟨by rw[HT1];exact OwnL.push (w:=w5) HA1.1 HA1.2 hos rfl vj7 ⟨_,rfl,HRr.out⟩,HJ5.2.1.kd hI.k rfl vj7,hbx,HJ5.2.2.2.1.trans hI.b,hI.size⟩);first
     |guard_expr ins =~ 1
      replace HC2:=vh (show w6.cell? ⟨g1,2,none⟩=some (.slice (some adv) n cc)∧g1<g5 from⟨(hI.b.cell HC1.2).trans HC2.out,HC1.2⟩);replace HCv:=vh (show (∀(j:Nat) (u:Value),[.bool b9,.slice A9 k9 c9][j]? = some u→w6.cell? ((Addr.add adv (q*2)).add j)=some u∧((Addr.add adv (q*2)).add j).block<g5) from fun j u hj=>⟨(hI.b.cell (HCv.out j u hj).2).trans (HCv.out j u hj).1,(HCv.out j u hj).2⟩)
     |guard_expr ins =~ 2
      replace HC2:=vh (show w6.cell? ⟨g1,2,none⟩=some (.slice (some adv) n cc)∧g1<g5 from⟨(hI.b.cell HC1.2).trans HC2.out,HC1.2⟩);replace HCv:=vh (show (∀(j:Nat) (u:Value),[.slice A9 k9 c9,.bool b9,.slice B9 m9 d9][j]? = some u→w6.cell? ((Addr.add adv (q*3)).add j)=some u∧((Addr.add adv (q*3)).add j).block<g5) from fun j u hj=>⟨(hI.b.cell (HCv.out j u hj).2).trans (HCv.out j u hj).1,(HCv.out j u hj).2⟩)
     |replace HC2:=vh (show w6.cell? ⟨g1,2,none⟩=some (.slice (some adv) n cc)∧g1<g5 from⟨(hI.b.cell HC1.2).trans HC2.out,HC1.2⟩);replace HCv:=vh (show (∀(j:Nat) (u:Value),[.slice A9 k9 c9][j]? = some u→w6.cell? ((Addr.add adv (q*1)).add j)=some u∧((Addr.add adv (q*1)).add j).block<g5) from fun j u hj=>⟨(hI.b.cell (HCv.out j u hj).2).trans (HCv.out j u hj).1,(HCv.out j u hj).2⟩)
     replace HLs:=vh (show okC s2=true from HLs.2);clear hI hbx hos HA1 HO1 HX5 HS5 HJ5 HC1 HCr HRr HT1 HL1;obtain⟨cl2,h21,h22,h23⟩:=HJ6.2.1;have HO1:=vh h22;have HX5:=vh HJ6.2.2.1;have HS5:=vh HJ6.2.2.2.2;have HA1:=vh (uh h21 h23);clear h21 h22 h23;obtain⟨r1,hr1⟩:=vx (sv');rw[←hr1] at HJ6 HX5;clear hr1;go_upto_region 13 with (fail);first
     |guard_expr ins =~ 1
      refine yn (kss:=[[],[(0,44)],[],[(2,46)],[],[(3,47),(4,48)],[(5,49)],[(6,50)],[(1,45),(7,51)],[],[(8,52),(9,53)]]) (PuI g5 [87] w6) (PuE g5 34 2 s2 (((ks.take i).filterMap fun j=>f.vals[j]?).length) cl2.flatten g5 119 #[.slice AA na nc,r1,s2]) [(5,.pointer (some (⟨g5,0,none⟩))),(1,.pointer (some (⟨g1,0,none⟩))),(7,.int .i64 ((q:Int)))] [EV (.pointer (some (⟨g5,2,none⟩))),EV (s2),EV (.pointer (some (⟨g1,2,none⟩))),EV (.slice ((some adv)) n cc),EV (.int .i64 ((q:Int))),EV (.pointer (some (Addr.add adv (q*2)))),EV (.agg #[.bool b9,.slice A9 k9 c9]),fun zz ww=>∃g:Nat,zz = .slice (some ⟨g,0,none⟩) 1 1∧True∧Blk ww g 34 #[.bool b9,.slice A9 k9 c9],fun zz ww=>OwnC ww g5 34 2 zz (((ks.take i).filterMap fun j=>f.vals[j]?).length+1) (cl2.flatten++[.bool b9,.slice A9 k9 c9]),EV (.pointer (some (⟨g5,2,none⟩))),fun _ ww=>∃sv':Value,Blk ww g5 119 #[.slice AA na nc,r1,sv']∧OwnC ww g5 34 2 sv' (((ks.take i).filterMap fun j=>f.vals[j]?).length+1) (cl2.flatten++[.bool b9,.slice A9 k9 c9])] 11 [(8,PuA g5 34 2 s2 (((ks.take i).filterMap fun j=>f.vals[j]?).length) cl2.flatten),(10,PuS g5 119 #[.slice AA na nc,r1,s2])] [(8,7),(10,7),(8,10)] [(8,0),(10,1)] vk vk vk vt (PuI.start HS5.out) (PuE.all HO1.out HX5.out) zcJ PuE.below ?_ ?_ ?_ ?_
     |guard_expr ins =~ 2
      refine yn (kss:=[[],[(0,44)],[],[(2,46)],[],[(3,47),(4,48)],[(5,49)],[(6,50)],[(1,45),(7,51)],[],[(8,52),(9,53)]]) (PuI g5 [87] w6) (PuE g5 61 3 s2 (((ks.take i).filterMap fun j=>f.vals[j]?).length) cl2.flatten g5 128 #[.slice AA na nc,r1,s2]) [(5,.pointer (some (⟨g5,0,none⟩))),(1,.pointer (some (⟨g1,0,none⟩))),(7,.int .i64 ((q:Int)))] [EV (.pointer (some (⟨g5,2,none⟩))),EV (s2),EV (.pointer (some (⟨g1,2,none⟩))),EV (.slice ((some adv)) n cc),EV (.int .i64 ((q:Int))),EV (.pointer (some (Addr.add adv (q*3)))),EV (.agg #[.slice A9 k9 c9,.bool b9,.slice B9 m9 d9]),fun zz ww=>∃g:Nat,zz = .slice (some ⟨g,0,none⟩) 1 1∧True∧Blk ww g 61 #[.slice A9 k9 c9,.bool b9,.slice B9 m9 d9],fun zz ww=>OwnC ww g5 61 3 zz (((ks.take i).filterMap fun j=>f.vals[j]?).length+1) (cl2.flatten++[.slice A9 k9 c9,.bool b9,.slice B9 m9 d9]),EV (.pointer (some (⟨g5,2,none⟩))),fun _ ww=>∃sv':Value,Blk ww g5 128 #[.slice AA na nc,r1,sv']∧OwnC ww g5 61 3 sv' (((ks.take i).filterMap fun j=>f.vals[j]?).length+1) (cl2.flatten++[.slice A9 k9 c9,.bool b9,.slice B9 m9 d9])] 11 [(8,PuA g5 61 3 s2 (((ks.take i).filterMap fun j=>f.vals[j]?).length) cl2.flatten),(10,PuS g5 128 #[.slice AA na nc,r1,s2])] [(8,7),(10,7),(8,10)] [(8,0),(10,1)] vk vk vk vt (PuI.start HS5.out) (PuE.all HO1.out HX5.out) zcJ PuE.below ?_ ?_ ?_ ?_
     |refine yn (kss:=[[],[(0,44)],[],[(2,46)],[],[(3,47),(4,48)],[(5,49)],[(6,50)],[(1,45),(7,51)],[],[(8,52),(9,53)]]) (PuI g5 [87] w6) (PuE g5 vq7 1 s2 (((ks.take i).filterMap fun j=>f.vals[j]?).length) cl2.flatten g5 vq1 #[.slice AA na nc,r1,s2]) [(5,.pointer (some (⟨g5,0,none⟩))),(1,.pointer (some (⟨g1,0,none⟩))),(7,.int .i64 ((q:Int)))] [EV (.pointer (some (⟨g5,2,none⟩))),EV (s2),EV (.pointer (some (⟨g1,2,none⟩))),EV (.slice ((some adv)) n cc),EV (.int .i64 ((q:Int))),EV (.pointer (some (Addr.add adv (q*1)))),EV (.slice A9 k9 c9),fun zz ww=>∃g:Nat,zz = .slice (some ⟨g,0,none⟩) 1 1∧True∧Blk ww g vq7 #[.slice A9 k9 c9],fun zz ww=>OwnC ww g5 vq7 1 zz (((ks.take i).filterMap fun j=>f.vals[j]?).length+1) (cl2.flatten++[.slice A9 k9 c9]),EV (.pointer (some (⟨g5,2,none⟩))),fun _ ww=>∃sv':Value,Blk ww g5 vq1 #[.slice AA na nc,r1,sv']∧OwnC ww g5 vq7 1 sv' (((ks.take i).filterMap fun j=>f.vals[j]?).length+1) (cl2.flatten++[.slice A9 k9 c9])] 11 [(8,PuA g5 vq7 1 s2 (((ks.take i).filterMap fun j=>f.vals[j]?).length) cl2.flatten),(10,PuS g5 vq1 #[.slice AA na nc,r1,s2])] [(8,7),(10,7),(8,10)] [(8,0),(10,1)] vk vk vk vt (PuI.start HS5.out) (PuE.all HO1.out HX5.out) zcJ PuE.below ?_ ?_ ?_ ?_
     ·exact vt47
     ·exact vt18
     ·refine⟨?_,?_,?_,?_,?_,?_,?_,?_,?_,?_,?_,uC⟩
      ·exact zhp
      ·exact zpR
      ·exact zf rfl (fun aa ww hI hE he hd=>za rfl (zw (off:=2) rfl vk he.2.1))
      ·exact zf rfl (fun aa ww hI hE he hd=>za rfl (zd rfl vk hd.1 ((hI.b.cell HC2.2).trans HC2.1)))
      ·exact zf rfl (fun aa ww hI hE he hd=>za rfl (zi _ rfl ⟨he.2.2.1,ue _ _⟩))
      ·exact zf rfl (fun aa ww hI hE he hd=>za rfl (zm (e:=vq7) (s:=vq8) (k:=q) rfl vk jo hd.1 hd.2.1))
      ·first
       |guard_expr ins =~ 1
        exact zf rfl (fun aa ww hI hE he hd=>za rfl (zg (cs:=[.bool b9,.slice A9 k9 c9]) rfl vk vk hd.1 (fun j u hj=>(hI.b.cell (HCv.out j u hj).2).trans (HCv.out j u hj).1)))
       |guard_expr ins =~ 2
        exact zf rfl (fun aa ww hI hE he hd=>za rfl (zg (cs:=[.slice A9 k9 c9,.bool b9,.slice B9 m9 d9]) rfl vk vk hd.1 (fun j u hj=>(hI.b.cell (HCv.out j u hj).2).trans (HCv.out j u hj).1)))
       |exact zf rfl (fun aa ww hI hE he hd=>za rfl (zd rfl vk hd.1 (by have hh:=HCv.out 0 _ rfl;rw[adz] at hh;exact(hI.b.cell hh.2).trans hh.1)))
      ·exact zf rfl (fun aa ww hI hE he hd=>have hb:=ue ww.heap.size ww;za rfl (zk (zP (e:=vq7) (k:=vq8) rfl vk vk jd hd.1 rfl) zlg))
      ·exact yx rfl rfl (fun aa ww hI hE he hd=>(by obtain⟨g9,h1,h2,h3⟩:=hd.2.1;exact zk (Yb (s:= .tmp 45) (x:= .tmp 51) (e:=vq7) (k:=vq8) rfl vk vk g5 s2 _ _ hd.1 (hE 0 vk) g9 _ h1 h3 rfl rfl (ud HL2.out jo) hI.size) (fun _ _ ⟨q1,q2,_,q4⟩=>⟨q1,hE 0 vk,q2,q4⟩)))
      ·exact zhp
      ·exact yx rfl rfl (fun aa ww hI hE he hd=>(by have h1:=hd.1;exact zk (Yt (g:=g5) (off:=2) rfl vk hd.2.1 rfl h1.ok (hE 1 vk) vz (Yk HLs.out rfl)) vj90))
     intro vs w7 hI hR;obtain⟨sv',hbx,hos⟩:=hR 10 jd vk;clear hR;refine Yr vk (zy ?_) _;refine vs0 ?_;have HJ7:=vh (show OwnL 87 1 (fun _=>RowC w3) w7 g5 r1 (((ks.take (i+1)).filterMap fun j=>f.rows[j]?))∧OwnL vq7 vq8 (fun _=>R w3) w7 g5 sv' ((ks.take (i+1)).filterMap fun j=>f.vals[j]?)∧Blk w7 g5 vq1 #[.slice AA na nc,r1,sv']∧Below g5 w3 w7∧g5≤w7.heap.size from⟨HJ6.1.kd hI.k rfl vj7,by rw[HT2];exact OwnL.push (w:=w6) HA1.1 HA1.2 hos rfl vj7 HRv.out,hbx,HJ6.2.2.2.1.trans hI.b,hI.size⟩);clear hI hbx hos HA1 HO1 HX5 HS5 HJ6 HC2 HCv HRv HT2 HL2 HLs;go_wp2_with fail;go_roundg (gk - 1);case measure=>omega
     case rel=>exact⟨i+1,_,_,vj1,jo,HJ7⟩
    ·obtain rfl:n=i:=jo;rw[um (by rw[HKL];exact ug _)] at HJ;obtain⟨cl1,-,h12,-⟩:=HJ.1;obtain⟨A1,c1,rfl⟩:=zF h12.own;obtain⟨cl2,-,h22,-⟩:=HJ.2.1;obtain⟨A2,c2,rfl⟩:=zF h22.own;clear h12 h22;have HB4:=vh (show Below w3.heap.size w3 wr by rw[←HG5];exact HJ.2.2.2.1);have HR4:=vh (HR3.keep HB4.out);have hz1:(ks.filterMap fun j=>f.rows[j]?).length=n:=by rw[zdI (fun j hj=>by rw[HE1];exact HKS.out j hj),HKL.out]
     have hz2:(ks.filterMap fun j=>f.vals[j]?).length=n:=by rw[zdI (fun j hj=>by rw[HE2];exact HKS.out j hj),HKL.out]
     rw[hz1,hz2] at HJ;have HZ:=vh (uh hz1 hz2);clear hz1 hz2;go_upto_region 15 with (fail);refine zc (kss:=[[]]) [(5,.pointer (some (⟨g5,0,none⟩)))] [EV (.agg #[.slice AA na nc,.slice A1 n c1,.slice A2 n c2])] 1 vk vt [false] ?_ ?_ ?_
     ·exact js
     ·exact⟨(fun aa ww hb he hd=>za rfl (zg (cs:=[.slice AA na nc,.slice A1 n c1,.slice A2 n c2]) rfl vk vk he.1 (Blk.at_k HJ.2.2.1 rfl hb))),uC⟩
     intro vs w8 hb hR;refine vw0 ?_;clear hR;have HB8:=vh (ze HB4.out hb HB4.size);have HR8:=vh (HR4.keep hb);have HJ8:=vh (uh (HJ.1.below hb vj7) (HJ.2.1.below hb vj7));clear hb HJ HB4 HR4 HR3;show wpOps _ _ _ [1] _ _;refine zb rfl rfl (zC (vs:=[.slice AA na nc,.slice A1 n c1,.slice A2 n c2]) (off:=0) rfl rfl vk rfl rfl rfl HR8.out vj4 (fun j _ _ x=>zD rfl j x) ?_);intro w9 kn hg hs hb3;have hg2:w.heap.size≤g2:=HGg1.2;have HW:=vh (show Below w.heap.size w w9 from(ze HB3.out HB8.out HB3.size).grown hg (ud HB3.size HB8.size) (fun k e=>by cases e;exact hg2));have kd:KD [3,26,87,89,vq7] w8 w9:=KD.blk HR8.out hg kn rfl;have hr:OwnL 87 1 RowC w9 g5 (.slice A1 n c1) (ks.filterMap fun j=>f.rows[j]?):=(HJ8.1.kd kd rfl vj7).mono fun _ _ h=>((RowC.below h HB8.out).kd kd rfl)
     have hv:OwnL vq7 vq8 R w9 g5 (.slice A2 n c2) (ks.filterMap fun j=>f.vals[j]?):=(HJ8.2.kd kd rfl vj7).mono fun _ _ h=>HST.out _ _ _ _ (kd.sub jd) (HSTb.out _ _ _ _ HB8.out h);have HFin:=vh (show FacG vq7 vq8 R w9 [.slice AA na nc,.slice A1 n c1,.slice A2 n c2] ⟨f.vars,ks.filterMap fun j=>f.rows[j]?,ks.filterMap fun j=>f.vals[j]?⟩ from⟨_,_,_,rfl,HIA.below HW.out,hr.sls (by rw[HZ.1];exact hn5),hv.sls (by rw[HZ.2];exact hn5)⟩);have HBk:=vh (show Blk w9 g2 vq1 #[.slice AA na nc,.slice A1 n c1,.slice A2 n c2] from hb3);clear kn hg hs hb3 kd hr hv HJ8 HR8 HB8;unfold wpOps;go_wp2_with fail;refine bodyPost_ret (v:= .agg #[.slice AA na nc,.slice A1 n c1,.slice A2 n c2]) (results_cell_row vq9 _ _ _ _ _ (0,0) _ rfl HBk.out vq10 rfl vk) rfl ?_;refine⟨_,rfl,⟨_,_,rfl,HFin.out,rfl,by show (ks.filterMap _).length=(ks.filterMap _).length;rw[HZ.1,HZ.2],?_⟩,HW.out⟩;show ((ks.filterMap fun j=>f.rows[j]?).zip (ks.filterMap fun j=>f.vals[j]?)).Perm f.prs;rw[zl0 HL.out (fun j hj=>by rw[HE1];exact HKS.out j hj)];have h9:=HP.filterMap (fun k=>(f.rows.zip f.vals)[k]?);have h8:(List.range n).filterMap (fun k=>(f.rows.zip f.vals)[k]?)=f.rows.zip f.vals:=by
      have h7:=zl1 (f.rows.zip f.vals);rw[List.length_zip,←HL,Nat.min_self,HE1] at h7;exact h7
     rw[h8] at h9;exact h9):P:=h
theorem FN.vq23 {R:World→List Value→S→Prop} {f:PF S} (w:World) (h:FacG 32 1 R w cs f) (hl:f.rows.length=f.vals.length) (hst:∀w w' c x,KD [3,26] w w'→R w c x→R w' c x) (hsh:∀w c x,R w c x→∃A k n,c=[.slice A k n]) :
  Calls Tryz.prog 112 #[.agg cs.toArray] w (RV w (fun v w'=>∃(cs':List Value) (f':PF S),v = .agg cs'.toArray∧FacG 32 1 R w' cs' f'∧IsP f.vars f.prs f')):=by
 exact vm2
abbrev FN.vq17:=@yW
abbrev FN.vq18:=@FN.vq22
abbrev FN.vq20:=@zao
abbrev FN.vq21:=@zh0
abbrev FN.vq28:=@zap
abbrev FN.vq29:=@zh1
abbrev FN.vq30:=@zaC
abbrev FN.vq31:=@zft
abbrev FN.vq42:=@zbh
abbrev FN.vq43:=@ziT
abbrev FC.vq17:=@yW
abbrev FC.vq18:=@FN.vq22
abbrev FC.vq20:=@zao
abbrev FC.vq21:=@zh0
abbrev FC.vq28:=@zap
abbrev FC.vq29:=@zh1
abbrev FC.vq30:=@zbD
abbrev FC.vq31:=@zfu
abbrev FC.vq42:=@zcn
abbrev FC.vq43:=@ziU
abbrev FP.vq17:=@yW
abbrev FP.vq18:=@FN.vq22
abbrev FP.vq20:=@zao
abbrev FP.vq21:=@zh0
abbrev FP.vq28:=@zap
abbrev FP.vq29:=@zh1
abbrev FP.vq30:=@zaC
abbrev FP.vq31:=@zft
abbrev FP.vq42:=@zbh
abbrev FP.vq43:=@ziT
abbrev FW.vq17:=@zc1
abbrev FW.vq18:=@FW.vq22
abbrev FW.vq20:=@zj4
abbrev FW.vq21:=@zsl
abbrev FW.vq28:=@zj5
abbrev FW.vq29:=@zsk
abbrev FW.vq30:=@zhL
abbrev FW.vq31:=@zsj
abbrev FW.vq42:=@zj6
abbrev FW.vq43:=@ztp
end Go.Proofs.YtoecdobelolkeaaGreatDoor
