/- Part of TopSemirings. -/
import Derived.Test.YtoecdobelolkeaaGreatDoorK10
set_option linter.unusedVariables false
set_option linter.unusedSimpArgs false
set_option maxRecDepth 100000
set_option maxHeartbeats 16000000
namespace Go.Proofs.YtoecdobelolkeaaGreatDoor
open Go.RowKit Go.Lib Go.Sort
variable {w:World} {B n g cap:Nat} {l m:List Nat} {α β:Type} {zs:List Int} {o:Oper} {a:Act}
theorem zjg [Inhabited α] {enc:α→Value} {e:TypeId} {us:List Value} (h:OwnC w B e 1 (.slice (some ⟨g,0,none⟩) n cap) n us) (hok:∀x,okC (enc x)=true) (m:Nat) (os:Array Obj) (d':Array α) (hd:d'.size=n) :
  w.grownBy (sortWorld enc w g 0 m d' os) (some g)∧KeepsN w (sortWorld enc w g 0 m d' os)∧∀k,k≤n→OwnC (sortWorld enc w g 0 m d' os) B e 1 (.slice (some ⟨g,0,none⟩) k cap) k ((d'.toList.map enc).take k):=by
 rcases h.own.2 with ⟨e1,hz⟩ | ⟨g2,cap2,cur,e1,hbg,hcur,hcap,hmx,hsz,htk⟩
 ·cases e1
 ·injection e1 with e1 e2 e3;injection e1 with e1;injection e1 with e1;subst e1;subst e3;have hb:Blk w g e cur:=hcur;have hno:∀(j:Nat) (x:Int),cur[j]?≠some (.int .u32 x):=fun j x hx=>h.cl g rfl j x (by rw[hb.cell];exact hx);rw[Nat.mul_one] at htk hsz;have hg:=Zg (enc:=enc) (w:=w) (g:=g) (d':=d') m os;have kn:=zeO (enc:=enc) (d':=d') hb hno m os;obtain⟨W,hWe⟩:=vx (sortWorld enc w g 0 m d' os);have hbW:Blk W g e (putCells enc 0 d' cur):=by rw[hWe];exact zjb hb m os
  rw[←hWe] at hg kn ⊢;refine⟨hg,kn,fun k hk=>⟨⟨by rw[List.length_take,uy,Array.length_toList,hd,Nat.mul_one];omega,.inr ⟨g,cap,_,rfl,hbg,hbW,jo,hmx,by rw[zeP,Nat.mul_one];exact hsz,?_⟩⟩,?_⟩⟩
  ·rw[Nat.mul_one,←zgF (cur:=cur) hd jo,List.take_take,Nat.min_eq_left hk]
  ·intro g' hg' j x hx;simp only[Value.ownBlock,Option.some.injEq] at hg';subst hg';rw[hbW.cell] at hx;rcases zjc hx with h9 | ⟨i,h9⟩
   ·exact hno j x h9
   ·have:=hok i;rw[←h9] at this;cases this
theorem zeZ (h:OwnC w B 3 1 (.slice (some ⟨g,0,none⟩) n cap) n (I64 zs)) (hn:zs.length=n):Holds (Value.int .i64) w g 0 zs.toArray∧g<w.heap.size∧n≤cap:=by
 rcases h.own.2 with ⟨e1,hz⟩ | ⟨g2,cap2,cur,e1,hbg,hcur,hcap,hmx,hsz,htk⟩
 ·cases e1
 ·injection e1 with e1 e2 e3;injection e1 with e1;injection e1 with e1;subst e1;subst e3;have hb:Blk w g 3 cur:=hcur;rw[Nat.mul_one] at htk;refine⟨fun j hj=>⟨?_,zs7⟩,hb.lt,hcap⟩;have hj2:j<zs.length:=by simpa using hj
  rw[Nat.zero_add,hb.cell,←Array.getElem?_toList];have h9:cur.toList[j]? = (I64 zs)[j]?:=by rw[←htk,List.getElem?_take,if_pos jo]
  rw[h9];simp[I64,hj2]
theorem zoV (h:∀z∈zs,0≤z):zs=zu (zs.map Int.toNat):=by
 induction zs with
 |nil=>rfl
 |cons z l ih=>
  have h1:=h z vz;have h2:=ih fun y hy=>h y (uq _ hy);show z :: l=((z.toNat:Nat):Int) :: zu (l.map Int.toNat);rw[←h2,Int.toNat_of_nonneg h1]
theorem zfL {v:Value} (h:OwnC w B 3 1 v l.length (I64 (zu l))) (hn:l.length≤5000000):Calls Tryz.prog 228 #[v] w fun e w'=>e = .returned (.tuple #[])∧∃m:List Nat,m.Perm l∧m.Pairwise (·≤·)∧OwnC w' B 3 1 v m.length (I64 (zu m))∧w.grownBy w' v.ownBlock∧KeepsN w w':=by
 obtain⟨A,c,rfl⟩:=zF h.own;rcases Nat.eq_zero_or_pos l.length with h0 | h0
 ·have hx:l=[]:=uo h0;subst hx;refine(Tryz.slices_Sort_int_none A c w).mono ?_;rintro e w' ⟨rfl,rfl⟩;exact⟨rfl,[],List.Perm.refl _,List.Pairwise.nil,h,World.grownBy.refl _ _,KeepsN.refl _⟩
 ·obtain⟨g,rfl⟩:∃g,A=some ⟨g,0,none⟩:=by
   exact zqw
  have hll:(zu l).length=l.length:=by simp[zu]
  obtain⟨hH,hlt,hcp⟩:=zeZ h hll;have hh:=Tryz.slices_Sort_int g 0 c (zu l) w hH hlt jo;rw[hll] at hh;refine hh.mono ?_;rintro e w' ⟨rfl,n,os,rfl⟩;obtain⟨zs,hzs⟩:=vx ((zu l).mergeSort fun x y=>decide (x≤y));have hp:zs.Perm (zu l):=by rw[hzs];exact List.mergeSort_perm _ _
  have hs:zs.Pairwise (·≤·):=by
   have h9:=List.pairwise_mergeSort (le:=fun x y:Int=>decide (x≤y)) (fun a b c h1 h2=>by simp only[decide_eq_true_eq] at *;omega) (fun a b=>by simp only[Bool.or_eq_true,decide_eq_true_eq];omega) (zu l);rw[←hzs] at h9;exact h9.imp fun h=>by simpa using h
  rw[←hzs];have hzl:zs.length=l.length:=by rw[hp.length_eq,hll]
  have hnn:∀z∈zs,0≤z:=fun z hz=>by
   have:=hp.mem_iff.1 hz;obtain⟨x,-,rfl⟩:=List.mem_map.1 this;omega
  obtain⟨hg,kn,ho⟩:=zjg (enc:=Value.int .i64) h (fun _=>rfl) n os zs.toArray (by simp[hzl]);have ho2:=ho l.length (ug _);have e9:=zoV hnn;have hml:(zs.map Int.toNat).length=l.length:=by simp[hzl]
  refine⟨rfl,zs.map Int.toNat,?_,?_,?_,hg,kn⟩
  ·have h8:=hp.map Int.toNat;have h7:(zu l).map Int.toNat=l:=by simp[zu,Function.comp_def]
   rwa [h7] at h8
  ·rw[List.pairwise_map];exact hs.imp fun h=>by omega
  ·rw[hml,←e9];have e8:((zs.toArray.toList.map (Value.int .i64)).take l.length)=I64 zs:=by
    rw[um (by simp[hzl])];simp[I64]
   rw[e8] at ho2;exact ho2
theorem zia (zs:List Int):Lib.compact zs=ddS zs:=by
 have:∀m,m≤zs.length→compactUpTo zs.toArray m=ddS (zs.take m):=by
  intro m;induction m with
  |zero=>intro _;rfl
  |succ m ih=>
   intro hm;have hx:zs[m]? = some zs[m]:=uf jo;have hd:zs.toArray[m]! = zs[m]:=by rw[getElem!_pos zs.toArray m vj2];simp
   rw[compactUpTo_succ,ih jo,hd];rcases m with _ | m
   ·have:zs.take 1=[zs[0]]:=by rw[List.take_add_one,hx];rfl
    rw[Nat.zero_add,this];simp[keeps,ddS]
   ·have hx0:zs[m]? = some zs[m]:=uf jo;have hd0:zs.toArray[m]! = zs[m]:=by rw[getElem!_pos zs.toArray m vj2];simp
    rw[za4 hx hx0 rfl];have hk:keeps zs.toArray (m+1)=decide (zs[m+1]≠zs[m]):=by
     unfold keeps;simp only[hd,Nat.add_sub_cancel,hd0];simp
    rw[hk];by_cases e:zs[m+1]=zs[m]
    ·simp[e]
    ·simp[e]
 have h:=this zs.length (ug _);rw[List.take_length] at h;exact h
theorem zoW (l:List Nat):ddS (zu l)=zu (ddS l):=by
 have:∀(n:Nat) (l:List Nat),l.length=n→ddS (zu l)=zu (ddS l):=by
  intro n;induction n with
  |zero=>intro l hl;rw[uo hl];rfl
  |succ n ih=>
   intro l hl;rcases List.eq_nil_or_concat l with rfl | ⟨m,y,rfl⟩
   ·simp at hl
   ·rw[List.concat_eq_append] at hl ⊢;have h1:=ih m (by simpa using hl);have h2:zu (m++[y])=zu m++[(y:Int)]:=by simp[zu]
    rw[h2,Zq,Zq,h1];have h3:(zu (ddS m)).getLast? = (ddS m).getLast?.map fun x:Nat=>(x:Int):=by unfold zu;rw[List.getLast?_map]
    rw[h3];rcases h4:(ddS m).getLast? with _ | z
    ·simp[zu]
    ·by_cases e:z=y
     ·subst e;simp
     ·have e2:¬((z:Int)=(y:Int)):=jo;simp[e,e2,zu]
 exact this _ l rfl
theorem zfM {v:Value} (h:OwnC w B 3 1 v l.length (I64 (zu l))) (hn:l.length≤5000000):Calls Tryz.prog 229 #[v] w fun e w'=>∃r,e = .returned r∧OwnC w' B 3 1 r (ddS l).length (I64 (zu (ddS l)))∧w.grownBy w' v.ownBlock∧KeepsN w w':=by
 obtain⟨A,c,rfl⟩:=zF h.own;rcases Nat.eq_zero_or_pos l.length with h0 | h0
 ·have hx:l=[]:=uo h0;subst hx;refine(Tryz.slices_Compact_int_empty A c w).mono ?_;rintro e w' ⟨rfl,rfl⟩;exact⟨_,rfl,h,World.grownBy.refl _ _,KeepsN.refl _⟩
 ·obtain⟨g,rfl⟩:∃g,A=some ⟨g,0,none⟩:=by
   exact zqw
  have hll:(zu l).length=l.length:=by simp[zu]
  obtain⟨hH,hlt,hcp⟩:=zeZ h hll;have hh:=Tryz.slices_Compact_int g 0 c (zu l) w hH jo jo;rw[hll,zia,zoW] at hh;refine hh.mono ?_;rintro e w' ⟨rfl,q,rfl⟩;have hdl:=zbk l;have hdl2:(zu (ddS l)).length=(ddS l).length:=by simp[zu]
  obtain⟨D,hD⟩:=vx ((zu (ddS l)++List.replicate (l.length - (zu (ddS l)).length) 0).toArray);have hDs:D.size=l.length:=by rw[hD];simp only[List.size_toArray,ul,List.length_replicate];omega
  rw[←hD];obtain⟨hg,kn,ho⟩:=zjg (enc:=Value.int .i64) h (fun _=>rfl) q #[] D hDs;have e8:sortWorld (Value.int .i64) w g 0 q D #[]=putRow (Value.int .i64) (Sort.ahead w q) g 0 D:=by unfold sortWorld;rw[grow_empty]
  rw[e8] at hg kn ho;have ho2:=ho (ddS l).length hdl;rw[hdl2];refine⟨_,rfl,?_,hg,kn⟩;have e9:(D.toList.map (Value.int .i64)).take (ddS l).length=I64 (zu (ddS l)):=by
   rw[hD];simp only[List.map_append];rw[List.take_left' (by simp[hdl2])];rfl
  rw[e9] at ho2;exact ho2
open Go.RowKit
def FilF {S:Type} (e:TypeId) (R:World→List Value→S→Prop) (w:World) (B g n i:Nat) (ys:List S):Prop:=∃us:List Value,us.length=n∧OwnC w B e 1 (.slice (some ⟨g,0,none⟩) n n) n us∧us.all okC=true∧All2 (R w) (Zy (us.take i)) ys
section
variable {S : Type} {e : TypeId} {R : World → List Value → S → Prop} {w w' : World} {B g n i : Nat} {ys : List S}
theorem zgN:∀n:Nat,(List.replicate n [Value.slice none 0 0]).flatten=List.replicate n (Value.slice none 0 0)
 |0=>rfl
 |n+1=>by rw[List.replicate_succ,List.flatten_cons,zgN n];rfl
theorem FilF.start (w:World) (B n:Nat) (hB:B≤w.heap.size) (hn:n≤maxLen):FilF e R (w.alloc (.cells (zdN n) e)) B w.heap.size n 0 ([]:List S):=by
 have hb:=Blk.new w e (zdN n);unfold zdN at hb ⊢;rw[zgN] at hb ⊢;refine⟨List.replicate n (.slice none 0 0),vz,⟨⟨vz,.inr ⟨w.heap.size,n,_,rfl,hB,hb,ug _,hn,vz,vz⟩⟩,?_⟩,?_,uC⟩
 ·intro g hg i x hx;simp only[Value.ownBlock,Option.some.injEq] at hg;subst hg;rw[hb.cell] at hx;rw[←Array.getElem?_toList] at hx;have:=ui hx;cases List.eq_of_mem_replicate this
 ·rw[List.all_eq_true];intro u hu;rw[List.eq_of_mem_replicate hu];rfl
theorem FilF.below (h:FilF e R w B g n i ys) (hb:Below w.heap.size w w') (hR:∀c x,R w c x→R w' c x):FilF e R w' B g n i ys:=by
 obtain⟨us,h1,h2,h3,h4⟩:=h;exact⟨us,h1,h2.below hb,h3,h4.mono hR⟩
theorem FilF.step (h:FilF e R w B g n i ys) (hi:i<n):∃cur,B≤g∧Blk w g e cur∧i<cur.size∧(∀x,cur[i]?≠some (Value.int .u32 x))∧∀(u:Value) (y:S) w',okC u=true→Blk w' g e (yt cur.toList i [u]).toArray→(∀c x,R w c x→R w' c x)→R w' [u] y→FilF e R w' B g n (i+1) (ys++[y]):=by
 obtain⟨us,h1,h2,h3,h4⟩:=h;have h2':OwnC w B e 1 (.slice (some ⟨g,0,none⟩) n n) (Zy us).length (Zy us).flatten:=by rw[zau,za3,h1];exact h2
 obtain⟨g2,cap2,cur,e1,hbg,hcur,hsz,hno,-⟩:=h2'.setk (zdQ us) (by rw[za3,h1];exact hi) (c:=[.slice none 0 0]) rfl rfl;have e5:g2=g:=by injection e1 with e1 _ _;injection e1 with e1;injection e1 with e1;exact e1.symm
 subst e5;refine⟨cur,hbg,hcur,zs8,hno i,fun u y w' hu hb hR hv=>?_⟩;obtain⟨g3,cap3,cur3,e3,-,hcur3,-,-,hset⟩:=h2'.setk (zdQ us) (by rw[za3,h1];exact hi) (c:=[u]) rfl (by simp[hu]);have e6:g3=g2:=by injection e3 with e3 _ _;injection e3 with e3;injection e3 with e3;exact e3.symm
 subst e6;have hcc:cur3=cur:=by
  have h5:w.heap[g3]? = some (.cells cur3 e (0,0)):=hcur3;have h6:w.heap[g3]? = some (.cells cur e (0,0)):=hcur;exact znZ
 subst hcc;have h7:=hset w' (by rw[Nat.mul_one];exact hb);have h8:(Zy us).set i [u]=Zy (us.set i u):=by simp[Zy,List.map_set]
 rw[h8,zau,za3,h1] at h7;refine⟨us.set i u,by simp[h1],h7,?_,?_⟩
 ·rw[List.all_eq_true] at h3 ⊢;intro x hx;rcases List.mem_or_eq_of_mem_set hx with h | h
  ·exact h3 x h
  ·rw[h];exact hu
 ·have e8:(us.set i u).take (i+1)=us.take i++[u]:=by
   exact zqv
  rw[e8];have e9:Zy (us.take i++[u])=Zy (us.take i)++[[u]]:=by simp[Zy]
  rw[e9];exact(h4.mono hR).snoc hv
theorem FilF.done (h:FilF e R w B g n n ys) (hn:ys.length=n):OwnL e 1 R w B (.slice (some ⟨g,0,none⟩) n n) ys:=by
 obtain⟨us,h1,h2,h3,h4⟩:=h;rw[um jo] at h4;exact zh6 (by rw[hn];exact h2) h4
end
def zdU (l m:List Nat):Prop:=m.Pairwise (· < ·)∧∀x,x∈m↔x∈l
theorem zgO (a b:Nat):zH [(a:Int)] [(b:Int)]=yr a b:=by
 rw[zH];by_cases e:(a:Int)=(b:Int)
 ·rw[if_pos e];unfold yr;rw[if_neg jo,if_neg jo];rfl
 ·rw[if_neg e]
theorem zr6 {q:List Nat} (hp:q.Perm l) (hs:q.Pairwise (·≤·)):zdU l (ddS q):=by
 refine⟨?_,fun x=>by rw[ddS_mem];exact hp.mem_iff⟩;have h1:=ZQ (fun x:Nat=>[(x:Int)]) (fun x y h=>by
  have:=Zi _ _ h
  injection this with this _
  omega) (l:=q) (hs.imp fun {a b} h=>by
  rw[zgO];unfold yr
  split
  ·omega
  ·split <;> omega)
 refine h1.imp fun {a b} h=>?_;rw[zgO] at h;unfold yr at h;split at h
 ·omega
 ·split at h <;> simp at h
theorem zmn {c:Nat} {A:Option Addr} (h:OwnC w B 3 1 (.slice A n c) m.length (I64 (zu m))) (hb:∀x∈m,x≤1000000000) (hn:m.length≤1000000):IntsV w (.slice A n c) m:=by
 obtain⟨A',c',e,hc,hr⟩:=zh4 h;injection e with e1 e2 e3;subst e1;subst e3;subst e2;exact⟨_,_,_,rfl,hc,hr,⟨rfl,hn⟩,hb⟩
def zdV (L M:List (List Nat)):Prop:=zeM M∧(∀s,(∃l∈M,s=YV l)↔∃l∈L,s=YV l)∧M.length≤L.length
theorem zdW {R:α→β→Prop}:∀ {l:List α} {m:List β},All2 R l m→∀b∈m,∃a∈l,R a b
 |[],[],_,b,hb=>by cases hb
 |_ :: _,[],h,_,_=>h.elim
 |[],_ :: _,h,_,_=>h.elim
 |a :: l,y :: m,h,b,hb=>by
  rcases List.mem_cons.1 hb with e | hb
  ·subst e;exact⟨a,vz,h.1⟩
  ·obtain⟨x,h1,h2⟩:=zdW (l:=l) (m:=m) h.2 b hb
   exact⟨x,uq _ h1,h2⟩
theorem ze0 {R:α→β→Prop}:∀ {l:List α} {m:List β},All2 R l m→∀a∈l,∃b∈m,R a b
 |[],[],_,b,hb=>by cases hb
 |_ :: _,[],h,_,_=>h.elim
 |[],_ :: _,h,_,_=>h.elim
 |a :: l,y :: m,h,b,hb=>by
  rcases List.mem_cons.1 hb with e | hb
  ·subst e;exact⟨y,vz,h.1⟩
  ·obtain⟨x,h1,h2⟩:=ze0 (l:=l) (m:=m) h.2 b hb
   exact⟨x,uq _ h1,h2⟩
theorem zgP (h:zdU l m):YV m=YV l:=by
 funext k;exact propext (h.2 k)
theorem zmo {L ms ys:List (List Nat)} (ha:All2 zdU L ms) (hp:ys.Perm ms) (hs:ys.Pairwise fun x y=>zH (zu x) (zu y)≤0):zdV L (ddS ys):=by
 have h1:=ZQ zu (fun x y h=>zgK (Zi _ _ h)) hs;refine⟨⟨fun l hl=>?_,h1.imp fun {a b} h e=>by subst e;rw[ZJ] at h;omega⟩,fun s=>?_,?_⟩
 ·obtain⟨a,-,h⟩:=zdW ha l (hp.mem_iff.1 (ddS_mem.1 hl));exact h.1
 ·constructor
  ·rintro⟨l,hl,rfl⟩;obtain⟨a,h3,h4⟩:=zdW ha l (hp.mem_iff.1 (ddS_mem.1 hl));exact⟨a,h3,zgP h4⟩
  ·rintro⟨l,hl,rfl⟩;obtain⟨b,h3,h4⟩:=ze0 ha l hl;exact⟨b,ddS_mem.2 (hp.mem_iff.2 h3),(zgP h4).symm⟩
 ·have:=zbk ys;rw[hp.length_eq,←ha.len] at this;exact this
theorem zr7 (n:Nat) (hn:n≤5000000) (W:World):(Instr.makeSlice 72 (.int .i64 (n:Int)) (.int .i64 (n:Int))).run Tryz.prog W = .ok (.slice (some ⟨W.heap.size,0,none⟩) n n) (W.alloc (.cells (zdN n) 26)):=
 zaB (e:=26) (k:=1) (b:=24) (z:= .slice none 0 0) vk vk rfl jo jo (ug _) jo W
theorem zfN (A:Option Addr) (n c:Nat) (cl:List Value) (w:World) (hA:A=none→n=0) (h:RdT w 3 1 A n cl) (hok:cl.all okC=true) (hn:n≤5000000):Calls Tryz.prog 53 #[.slice A n c] w (RV w (fun v w'=>OwnC w' w.heap.size 3 1 v n cl)):=by
 have HR:=vh h;have HOk:=vh hok;clear h hok;have en:=fun A n c w=>eqn (P:=Tryz.prog) 26 3 A n c w Tryz.underlying26;go_enter Tryz.func53,Tryz.ntmps53;cases A with
 |none=>
  exact vt55
 |some ad=>
  go_wp2_with (at_builtin;refine yo rfl (.tmp 5) (.tmp 6) rfl (e:=3) (k:=1) vk vk w.heap.size _ _ _ rfl (Yf w 3 1) (some ad) n c cl rfl (HR.below (al _ _)).rd HOk.out jo (al _ _).size ?_;intro v' w' ho hg hor kn);have hb:Below w.heap.size w w':=Below.appended (al w _) (Yf w 3 1).own hg (al _ _).size (ug _);exact vt48
theorem zad (v:Value) (L:List (List Nat)) (w:World) (h:SlsV 26 1 InC w v L):Calls Tryz.prog 225 #[v] w (RV w (fun r w'=>∃M,OwnL 26 1 InC w' w.heap.size r M∧zdV L M)):=by
 obtain⟨A,c,rfl,hnc,-,hn5⟩:=h.form;obtain⟨n,hn⟩:∃x,x=L.length:=⟨_,rfl⟩;rw[←hn] at h hn5 hnc ⊢;have HL:=vh h;have HN:=vh hn;clear h hn;go_enter Tryz.func225,Tryz.ntmps225;have mk:=zr7 n hn5;go_upto_region 2 with (fail);clear mk;obtain⟨w2,hw2⟩:∃x,x=w.alloc (.cells (zdN n) 26):=⟨_,rfl⟩;rw[←hw2];obtain⟨g,hg⟩:=vx (w.heap.size);have hF:FilF 26 InC w2 w.heap.size g n 0 ([]:List (List Nat)):=by rw[hw2,hg];exact FilF.start _ _ _ (ug _) zcK
 rw[←hg];have hb2:Below w.heap.size w w2:=by rw[hw2];exact al _ _
 have HI:=vh (show ∃ms:List (List Nat),FilF 26 InC w2 w.heap.size g n 0 ms∧All2 zdU (L.take 0) ms∧Below w.heap.size w w2∧w.heap.size≤w2.heap.size from⟨[],hF,trivial,hb2,hb2.size⟩);clear hw2 hg hF hb2;go_wp2_with fail;go_loopg [11] n (fun g0 iv wr=>∃i:Nat,iv = .int .i64 i∧i+g0=n∧Hid (∃ms:List (List Nat),FilF 26 InC wr w.heap.size g n i ms∧All2 zdU (L.take i) ms∧Below w.heap.size w wr∧w.heap.size≤wr.heap.size));case atStart=>exact⟨0,rfl,jo,HI⟩
 case round=>
  obtain⟨i,rfl,hio,HJ⟩:=hrel;clear HI;obtain⟨ms,hf,hms,hbw,hsz⟩:=HJ.out;clear HJ;have HF:=vh hf;have HMs:=vh hms;have HB:=vh (uh hbw hsz);clear hf hms hbw hsz;by_cases hi:i<n
  ·have i1:((i:Int)<(n:Int)):=jo;obtain⟨l,hl⟩:∃x,L[i]? = some x:=⟨_,uf ziE⟩;obtain⟨ad,cs,rfl,-,hco,hrc⟩:=HL.atA hl;obtain⟨u,rfl,hru⟩:=hrc;obtain⟨RA,m,rc,rfl,hmc,hrd,⟨hml,hm6⟩,hl9⟩:=id hru;have hcr:=hco 0 _ rfl;rw[adz,Nat.mul_one] at hcr;have hc2:=(HB.1.cell (zh hcr)).trans hcr;have HRd:=vh (hrd.below HB.1);have HL2:=vh hl;have HL9:=vh hl9;have HRN:=vh (show RA=none→m=0 from fun e=>by subst e;rcases Nat.eq_zero_or_pos m with h0 | h0;exact h0;obtain⟨_,_,e1,_⟩:=hrd.2 h0;cases e1);have HMl:=vh hml;clear hco hru hmc hrd hl9 hcr hl hml;obtain⟨wB,hwB⟩:∃x,x=wr:=⟨_,rfl⟩;subst hwB;go_wp2_with fail;clear hc2;refine(zfN RA m rc (I64 (zu l)) wB HRN.out HRd.out (zdT l) jo).mono ?_;rintro e w3 ⟨u,rfl,ho,hb3⟩;rw[HMl] at ho;have HO3:=vh ho;have HB3:=vh hb3;clear ho hb3;have hm5:l.length≤5000000:=by rw[←HMl];omega
   go_wp2_with fail;refine(zfL HO3.out hm5).mono ?_;rintro e w4 ⟨rfl,q,hp,hs,ho4,hg4,kn4⟩;have HB4:=vh (show Below wB.heap.size wB w4 from Below.appended HB3.out HO3.own hg4 HB3.size (ug _));have HO4:=vh ho4;have HQ:=vh (uh hp hs);clear hp hs ho4 hg4 kn4;go_wp2_with fail;refine(zfM HO4.out (by rw[HQ.1.length_eq];exact hm5)).mono ?_;rintro e w5 ⟨r,rfl,ho5,hg5,kn5⟩;have hb5:=Below.appended HB4.out HO4.own hg5 HB4.size (ug _);obtain⟨R5,c5,rfl⟩:=zF ho5.own;have hF5:=HF.below hb5 (fun _ _ h=>h.below hb5);obtain⟨cur,hbg,hcur,hcsz,hno,hset⟩:=hF5.step hi;have t1:w5.cell? ⟨g,i,none⟩=some cur[i]:=by rw[hcur.cell];exact Array.getElem?_eq_getElem hcsz
   have t2:w5.frozen? ⟨g,i,none⟩=false:=hcur.frozen _;obtain⟨old,hold⟩:∃o,o=cur[i]:=⟨_,rfl⟩;rw[←hold] at t1;have HS:=vh hset;have HC:=vh (uh hcur (uh hcsz (uh hno hbg)));have HO5:=vh ho5;have HB5:=vh hb5;clear hset hcur hno hbg ho5 hb5 hF5 hold hg5 kn5 hcsz;obtain⟨dl,hdl⟩:∃x,x=(ddS q).length:=⟨_,rfl⟩;rw[←hdl] at HO5 ⊢;have HDl:=vh hdl;clear hdl;go_wp2_with fail;clear t1 t2;obtain⟨w9,hw9⟩:∃x,x=w5.setCell ⟨g,i,none⟩ (.slice R5 dl c5):=⟨_,rfl⟩;rw[←hw9];have hcsz:=HC.2.1;have hb9:Blk w9 g 26 (yt cur.toList i [.slice R5 dl c5]).toArray:=by rw[hw9,show (yt cur.toList i [.slice R5 dl c5]).toArray=cur.setIfInBounds i (.slice R5 dl c5) from Array.ext' (by simp[yt])];exact HC.1.set_ i _
   have hg9:w5.grownBy w9 (some g):=by rw[hw9];exact YM (World.grownBy.refl w5 (some g)) (.inl rfl) _
   have kn9:KeepsN w5 w9:=by rw[hw9];exact KeepsN.blk HC.1 hcsz HC.2.2.1 _
   have hs9:w9.heap.size=w5.heap.size:=by rw[hw9];exact Yo _ _ _
   have kd:KD [3,87,89] w5 w9:=KD.blk HC.1 hg9 kn9 rfl;have hI5:IntsV w5 (.slice R5 dl c5) (ddS q):=zmn (by rw[←HDl];exact HO5.out) (fun x hx=>HL9.out x (HQ.1.mem_iff.1 (ddS_mem.1 hx))) (ud (zbk q) (by rw[HQ.1.length_eq,←HMl];exact hm6));have hnf:=HS.out (.slice R5 dl c5) (ddS q) w9 rfl hb9 zla ⟨_,rfl,hI5.kd kd rfl⟩;have hnr:zdU l (ddS q):=zr6 HQ.1 HQ.2;have hbb:Below w.heap.size w w9:=(HB.1.trans (HB5.mono HB.2)).grown hg9 (ud HB.2 HB5.size) (fun k e=>by cases e;exact HC.2.2.2);have HN2:=vh (show ∃ms:List (List Nat),FilF 26 InC w9 w.heap.size g n (i+1) ms∧All2 zdU (L.take (i+1)) ms∧Below w.heap.size w w9∧w.heap.size≤w9.heap.size from⟨ms++[ddS q],hnf,by rw[←yX HL2.out];exact HMs.snoc hnr,hbb,by rw[hs9];exact ud HB.2 HB5.size⟩);clear hnf hnr hbb hI5 kd hs9 kn9 hg9 hb9 hcsz hw9 HS HC HO5 HB5 HDl HQ HO4 HB4 HO3 HB3 HF HMs HB HRd HL2 HL9 HRN;exact zfg
  ·obtain rfl:n=i:=jo;rw[um (l:=L) zlf] at HMs;have hml:ms.length=n:=by rw[HN];exact HMs.len.symm
   have HO:=vh (HF.done hml);have HMl:=vh hml;clear hml HF;go_wp2_with fail;refine(zgM HO.out (by rw[HMl];exact hn5)).mono ?_;rintro e w3 ⟨rfl,ys,ho,hp,hs,hg,kn⟩;have hb3:Below w.heap.size w w3:=Below.appended HB.1 (show OwnC wr w.heap.size 26 1 (.slice (some ⟨g,0,none⟩) n n) _ _ from(Classical.choose_spec HO.out).2.1).own hg HB.2 (ug _);have HO3:=vh ho;have HP:=vh (uh hp hs);have HB3:=vh hb3;clear ho hp hs hg kn hb3 HO;go_wp2_with fail;refine(QB.compWhy_any HO3.out HB3.size (by rw[HP.1.length_eq,HMl];exact hn5)).mono ?_;rintro e w4 ⟨r,rfl,ho4,hb4,-⟩;have HO4:=vh ho4;have HB4:=vh (HB3.trans hb4);clear ho4 hb4;have hfin:=zmo HMs.out HP.1 HP.2;have HFin:=vh hfin;clear hfin;go_wp2_with fail;go_ret;exact⟨_,rfl,⟨_,HO4.out,HFin.out⟩,HB4.out⟩
def BldV (B:Nat) (ar:Nat) (w:World) (rs:List (List Int)) (z:Value) (w':World):Prop:=
 ∃(r:Value) (zs:List (List Int)),z = .tuple #[.agg #[.int .i64 (ar:Int),r],.int .i64 0]∧RowsV w' r zs∧Below B w w'∧(zs.Pairwise fun x y=>zH x y<0)∧(∀x,x∈zs↔x∈rs)∧zs.length≤rs.length
theorem Zl {t:Tmp} {i:Nat} {vs:Array Value} {x:Value} (ho:o.op = .extract (.tmp t) i) (h:tv a t = .tuple vs) (hx:vs[i]? = some x):zp Tryz.prog o a.eval w (fun v w'=>v=x∧w'=w):=by
 refine zo x ?_ ⟨rfl,rfl⟩;exact znP
theorem YS {P:Program} {Kp:Value→World→Prop} {f:FuncId} {x y:Operand} {ts:Array TypeId} (u v:Value) (ho:o.op = .call {callee:= .value (.func f),args:=#[x,y],argTypes:=ts}) (hf:Yw P f=true) (hx:a.eval x=u) (hy:a.eval y=v)
  (h:Calls P f #[u,v] w (fun e w''=>∃v,e = .returned v∧Kp v w'')):zp P o a.eval w Kp:=by
 subst hx;subst hy;exact zE _ _ _ _ ho hf h
theorem zoX {c:List Value} {r:List Int} (h:RowC w c r):c.all okC=true:=by obtain⟨u,rfl,h⟩:=h;simpa using h.ok
section
variable {o : Oper} {a : Act} {w : World} {K : Act → World → Prop} {Q : Exit → Act → World → Prop}
theorem zib (ho:o.op = .alloc 91) (next:K (a.put o.dst (.pointer (some ⟨w.heap.size,0,none⟩))) (w.alloc (.cells #[.int .i64 0,.slice none 0 0] 91))):o.wp Tryz.prog a w K Q:=by
 have hr:(execOp a.eval o).run Tryz.prog w = .ok (.value (.pointer (some ⟨w.heap.size,0,none⟩))) (w.alloc (.cells #[.int .i64 0,.slice none 0 0] 91)):=by
  unfold execOp;rw[ho];go_simp
 unfold Oper.wp;rw[hr];exact next
end
theorem zfO (A:Option Addr) (n c:Nat) (cl:List Value) (w:World) (hA:A=none→n=0) (h:RdT w 87 1 A n cl) (hok:cl.all okC=true) (hn:n≤5000000):Calls Tryz.prog 50 #[.slice A n c] w (RV w (fun v w'=>OwnC w' w.heap.size 87 1 v n cl)):=by
 have HR:=vh h;have HOk:=vh hok;clear h hok;have en:=fun A n c w=>eqn (P:=Tryz.prog) 84 87 A n c w Tryz.underlying84;go_enter Tryz.func50,Tryz.ntmps50;cases A with
 |none=>
  exact vt55
 |some ad=>
  go_wp2_with (at_builtin;refine yo rfl (.tmp 5) (.tmp 6) rfl (e:=87) (k:=1) vk vk w.heap.size _ _ _ rfl (Yf w 87 1) (some ad) n c cl rfl (HR.below (al _ _)).rd HOk.out jo (al _ _).size ?_;intro v' w' ho hg hor kn);have hb:Below w.heap.size w w':=Below.appended (al w _) (Yf w 87 1).own hg (al _ _).size (ug _);exact vt48
theorem zoY (ar:Nat) (v:Value) (rs:List (List Int)) (w:World) (h:RowsV w v rs) (har:ar≤32) (hlen:∀x∈rs,x.length=ar) (hn6:rs.length≤60000):Calls Tryz.prog 28 #[.int .i64 (ar:Int),v] w (zr5 w.heap.size ar w rs):=by
 obtain⟨A,c,rfl,hnc,-,-⟩:=h.form;obtain⟨n,hn⟩:∃x,x=rs.length:=⟨_,rfl⟩;rw[←hn] at h hnc hn6 ⊢;obtain⟨cl,k1,k2,k3,k4,k5⟩:=h.cells;have hAn:A=none→n=0:=fun e=>by subst e;rcases Nat.eq_zero_or_pos n with h0 | h0;exact h0;obtain⟨ad,_,e1,_⟩:=h.atA (i:=0) (uf (by rw[←hn];exact h0));cases e1
 have HR:=vh h;have HN:=vh hn;have HLen:=vh hlen;have HK:=vh (uh k1 (uh k4 k5));have HAn:=vh hAn;clear h hn hlen k1 k2 k3 k4 k5 hAn;go_enter Tryz.func28,Tryz.ntmps28;go_upto_region 1 with (fail);obtain⟨w1,hw0⟩:∃x,x=w.alloc (.cells #[.int .i64 0,.slice none 0 0] 91):=⟨_,rfl⟩;rw[←hw0];have hs0:w1.heap.size=w.heap.size+1:=by rw[hw0];simp
 have ha0:Below w.heap.size w w1:=by rw[hw0];exact al _ _
 obtain⟨g4,hg0⟩:∃g,g=w.heap.size:=⟨_,rfl⟩;have hx0:Blk w1 g4 91 #[.int .i64 0,.slice none 0 0]:=by rw[hw0,hg0];exact Blk.new _ _ _
 rw[←hg0];have X4:=vh hx0;have G4:=vh (show w.heap.size≤g4 by omega);have HB1:=vh (show Below w.heap.size w w1 from ha0);clear hw0 hs0 ha0 hg0 hx0;refine zc (kss:=[[],[(0,11)],[(1,12)],[(2,10)],[(2,10)]]) [(0,.int .i64 ((ar:Int)))] [EV (.int .i64 ((ar:Int))),EV (.tuple #[.agg #[.int .i64 ((ar:Int)),.slice none 0 0],.int .i64 0]),EV (.tuple #[.agg #[.int .i64 ((ar:Int)),.slice none 0 0],.int .i64 0]),EV (.agg #[.int .i64 ((ar:Int)),.slice none 0 0]),EV (.int .i64 0)] 5 vk vt [false,false,false,false,false] ?_ ?_ ?_
 ·exact js
 ·exact⟨vi0,(fun aa ww hb he hd=>za rfl (zq _ _ _ rfl vk (by rw[show aa.eval (.tmp 11)=_ from hd.1];exact zU (zml ar har ww)))),vi2,vi8,vi8,uC⟩
 intro vs w2 hb hR;refine vs0 ?_;rw[(hR 3 jd:vs 3=_),(hR 4 jd:vs 4=_)];clear hR;show wpOps _ _ _ [5,6,7] _ _;refine zb rfl rfl (zib rfl ?_);refine jp 6 ?_;refine zb rfl rfl (zC (vs:=[.int .i64 (ar:Int),.slice none 0 0]) (off:=0) rfl rfl vk rfl rfl rfl (Blk.new _ _ _) vj6 (fun j _ _ x=>zD rfl j x) ?_);intro w3 kn hg hs hbx;refine zb rfl rfl (zl 7 (.tmp 14) rfl rfl (.int .i64 0) rfl ?_);refine vs1 ?_;have hbw:Below w2.heap.size w2 w3:=(al w2 _).grown hg (al w2 _).size (fun k e=>by cases e;exact ug _);obtain⟨g6,hgb⟩:∃g,g=w2.heap.size:=⟨_,rfl⟩;rw[←hgb] at hbx ⊢;clear kn hg hs;unfold wpOps;have HB3:=vh (ze HB1.out (ze hb hbw hb.size) HB1.size);have X3:=vh (X4.keep (ze hb hbw hb.size));have X6:=vh (show Blk w3 g6 91 #[.int .i64 (ar:Int),.slice none 0 0] from hbx);clear hb hbw hbx hgb HB1 X4;have HI:=vh (show Blk w3 g6 91 #[.int .i64 (ar:Int),.slice none 0 0]∧Blk w3 g4 91 #[.int .i64 0,.slice none 0 0]∧Below w.heap.size w w3 from⟨X6.out,X3.out,HB3.out⟩);clear X6 X3 HB3;go_wp2_with fail;go_loopg [21] n (fun g iv wr=>∃i:Nat,iv = .int .i64 i∧i+g=n∧Hid (Blk wr g6 91 #[.int .i64 (ar:Int),.slice none 0 0]∧Blk wr g4 91 #[.int .i64 0,.slice none 0 0]∧Below w.heap.size w wr));case atStart=>exact⟨0,rfl,jo,HI⟩
 case round=>
  obtain⟨i,rfl,hio,HJ⟩:=hrel;clear HI;by_cases hi:i<n
  ·have i1:((i:Int)<(n:Int)):=jo;obtain⟨x,hx⟩:∃x,rs[i]? = some x:=⟨_,uf ziE⟩;obtain⟨ad,cs,rfl,-,hco,hrc⟩:=HR.atA hx;obtain⟨u,rfl,hru⟩:=hrc;obtain⟨RA,m,rc,rfl,-⟩:=id hru;have HC:=vh (hco 0 _ rfl);have HU:=vh hru;have HX:=vh (HLen.out x (ui hx));clear hco hru hx;go_upto_region 7 with (fail);refine wp_region_each (kss:=[[],[],[],[(1,25),(2,26)],[(3,27)],[(0,24),(4,28)],[(5,29)]]) [(6,.pointer (some (⟨g6,0,none⟩))),(1,.slice ((some ad)) n c),(8,.int .i64 ((i:Int)))] [EV (.agg #[.int .i64 ((ar:Int)),.slice none 0 0]),EV (.slice ((some ad)) n c),EV (.int .i64 ((i:Int))),EV (.pointer (some (Addr.add ad (i*1)))),EV (.slice RA m rc),EV (.int .i64 0),EV (.int .i64 0)] vk vk vt ?_ ?_ ?_
   ·exact js
   ·exact⟨(fun aa ww hb he hd=>za rfl (zg (cs:=[.int .i64 ((ar:Int)),.slice none 0 0]) rfl vk vk he.1 (Blk.at_k (l:=[.int .i64 (ar:Int),.slice none 0 0]) HJ.1 rfl hb))),vi1,vi4,zht,(fun aa ww hb he hd=>za rfl (zd rfl vk hd.1 (by have hh:=HC.out;rw[Addr.add_zero9] at hh;exact((ze HJ.2.2 hb HJ.2.2.size).cell (zh hh)).trans hh))),(fun aa ww hb he hd=>za rfl (zE _ _ _ _ rfl vk (by rw[show aa.eval (.tmp 24)=_ from hd.1,show aa.eval (.tmp 28)=_ from hd.2.1];exact zU (zgL ar _ _ x ww (HU.below (ze HJ.2.2 hb HJ.2.2.size)) HX.out)))),vi3,uC⟩
   intro vs w5 hb hR;refine vw8 ?_;clear hR;have HN2:=vh (show Blk w5 g6 91 #[.int .i64 (ar:Int),.slice none 0 0]∧Blk w5 g4 91 #[.int .i64 0,.slice none 0 0]∧Below w.heap.size w w5 from⟨HJ.1.keep hb,HJ.2.1.keep hb,(ze HJ.2.2 hb HJ.2.2.size)⟩);clear hb HJ HC HU HX;exact zfg
  ·obtain rfl:n=i:=jo;go_upto_region 11 with (fail);refine zc (kss:=[[],[],[(1,36)]]) [(0,.int .i64 ((ar:Int))),(1,.slice A n c)] [EV (.int .i64 ((ar:Int))),EV (.slice A n c),fun zz ww=>OwnL 87 1 RowC ww wr.heap.size zz rs] 3 vk vt [false,false,false] ?_ ?_ ?_
   ·exact⟨eI,eI,fun _ _ _ h hb=>h.below hb vj5,uC⟩
   ·exact⟨vi0,vi1,(fun aa ww hb he hd=>za rfl (zq _ _ _ rfl vk (by rw[show aa.eval (.tmp 36)=_ from hd.1];exact(zfO A n c cl.flatten ww HAn.out (HK.2.1.below (ze HJ.2.2 hb HJ.2.2.size)) (zat (w:=w) (R:=(fun _=>RowC w)) HK.2.2 (fun _ _ h=>zoX h)) jo).mono fun e w9 ⟨u,h1,h2,h3⟩=>⟨u,h1,OwnL.lower (B:=ww.heap.size) ⟨cl,HK.1,by rw[←HN];exact h2,HK.2.2.mono fun _ _ h=>h.below ((ze HJ.2.2 hb HJ.2.2.size).trans (h3.mono (ze HJ.2.2 hb HJ.2.2.size).size))⟩ hb.size,h3⟩))),uC⟩
   intro vs w4 hb hR;have r37:=hR 2 jd;refine vw0 ?_;clear hR;obtain⟨u4,hu4⟩:∃u,u=vs 2:=⟨_,rfl⟩;have ho4:OwnL 87 1 RowC w4 wr.heap.size u4 rs:=by rw[hu4];exact r37
   rw[←hu4];clear r37 hu4;have hbw:Below w.heap.size w w4:=ze HJ.2.2 hb HJ.2.2.size;have hlow:w.heap.size≤wr.heap.size:=HJ.2.2.size;have x4:=HJ.2.1.keep hb;have hg4:g4<wr.heap.size:=HJ.2.1.lt;have hcall:Calls Tryz.prog 49 #[.int .i64 (ar:Int),u4] w4 fun e w''=>∃v,e = .returned v∧BldV wr.heap.size ar w4 rs v w'':=(zeY (B:=wr.heap.size) ar _ rs w4 ho4 hb.size (by rw[←HN];exact hn6)).mono fun e w' ⟨r,zs,q1,q2⟩=>⟨_,q1,r,zs,rfl,q2⟩
   show wpOps _ _ _ [3,4,5,6,7] _ _;refine zb rfl rfl (zx (YS (.int .i64 (ar:Int)) u4 rfl vk rfl rfl hcall) ?_);clear hcall;rintro z w5 ⟨r,zs,rfl,hr5,hb5,hz5⟩;refine jp 38 ?_;refine zb rfl rfl (zx (Zl rfl rfl rfl) ?_);rintro z w8 ⟨rfl,hw8⟩;rw[hw8];clear hw8;refine jp 39 ?_;refine zb rfl rfl (zx (Zl rfl rfl rfl) ?_);rintro z w8 ⟨rfl,hw8⟩;rw[hw8];clear hw8;refine jp 40 ?_;obtain⟨A9,c9,rfl,hn9,-,-⟩:=hr5.form;obtain⟨n9,hn9e⟩:∃x,x=zs.length:=⟨_,rfl⟩;rw[←hn9e] at hr5 ⊢;have hx4:Blk w5 g4 91 #[.int .i64 0,.slice none 0 0]:=x4.low hb5 hg4;refine zb rfl rfl (zC (vs:=[.int .i64 (ar:Int),.slice A9 n9 c9]) (off:=0) rfl rfl vk rfl rfl rfl hx4 vj6 (fun j _ _ x=>zD rfl j x) ?_);intro w9 kn hg hs hb9;have HX9:=vh (show Blk w9 g4 91 #[.int .i64 (ar:Int),.slice A9 n9 c9] from hb9);have kd:KD [3,26,87,89] w5 w9:=KD.blk hx4 hg kn rfl;have HF9:=vh (RowsV.kd hr5 kd rfl rfl);have HZ:=vh hz5;have HB9:=vh (show Below w.heap.size w w9 from(hbw.trans (hb5.mono hlow)).grown hg (ud hbw.size hb5.size) (fun k e=>by cases e;exact G4.out));clear kn hg hs hb9 kd hx4 hr5 hb5 hz5 hn9e;refine zb rfl rfl (zl 5 (.tmp 40) rfl rfl (.int .i64 0) rfl ?_);refine vs1 ?_;unfold wpOps;go_wp2_with fail;refine bodyPost_ret (v:= .tuple #[.agg #[.int .i64 (ar:Int),.slice A9 n9 c9],.int .i64 0]) (yS Tryz.results28 _ _ _ _ _ (0,0) _ rfl HX9.out Tryz.underlying91 rfl rfl) rfl ?_;exact⟨_,zs,rfl,HF9.out,HB9.out,HZ.out⟩
theorem zfP (ar:Nat) (v u:Value) (rs:List (List Int)) (ks:List Nat) (w:World) (h:RowsV w v rs) (hk:IntsV w u ks) (hk6:ks.length≤32) (hcol:∀k∈ks,k<ar) (hlen:∀x∈rs,x.length=ar) (hn6:rs.length≤60000):Calls Tryz.prog 92 #[.agg #[.int .i64 (ar:Int),v],u] w (zr5 w.heap.size ks.length w (rs.map fun x=>ks.map (zv x))):=by
 obtain⟨A,c,rfl,hnc,-,-⟩:=h.form;obtain⟨n,hn⟩:∃x,x=rs.length:=⟨_,rfl⟩;rw[←hn] at h hnc hn6 ⊢;obtain⟨K,km,kc,rfl,hkc,hkm,hX⟩:=hk.x;have HR:=vh h;have HN:=vh hn;have HKs:=vh hk;have HX:=vh hX;have HKm:=vh hkm;have HLen:=vh hlen;have HCol:=vh hcol;clear h hn hk hX hlen hcol;have hk32:km≤32:=by rw[hkm];exact hk6
 have t0:¬((km:Int)>32):=jo;clear hkm hk6;go_enter Tryz.func92,Tryz.ntmps92;go_upto_region 1 with (fail);obtain⟨w1_0,hw0⟩:∃x,x=w.alloc (.cells #[.int .i64 (ar:Int),.slice A n c] 91):=⟨_,rfl⟩;rw[←hw0];have hs0:w1_0.heap.size=w.heap.size+1:=by rw[hw0];simp
 have ha0:Below w.heap.size w w1_0:=by rw[hw0];exact al _ _
 obtain⟨g2,hg0⟩:∃g,g=w.heap.size:=⟨_,rfl⟩;have hx0:Blk w1_0 g2 91 #[.int .i64 (ar:Int),.slice A n c]:=by rw[hw0,hg0];exact Blk.new _ _ _
 obtain⟨w1,hw1⟩:∃x,x=w1_0.alloc (.cells #[.int .i64 0,.slice none 0 0] 91):=⟨_,rfl⟩;rw[←hw1];have hs1:w1.heap.size=w.heap.size+1+1:=by rw[hw1];simp[hs0]
 have ha1:Below w1_0.heap.size w1_0 w1:=by rw[hw1];exact al _ _
 obtain⟨g4,hg1⟩:∃g,g=w.heap.size+1:=⟨_,rfl⟩;have hx1:Blk w1 g4 91 #[.int .i64 0,.slice none 0 0]:=by rw[hw1,hg1,←hs0];exact Blk.new _ _ _
 rw[←hg1,←hg0];have X2:=vh (hx0.keep ha1);have G2:=vh (show w.heap.size≤g2 by omega);have X4:=vh hx1;have G4:=vh (show w.heap.size≤g4 by omega);have HB1:=vh (show Below w.heap.size w w1 from(ze ha0 ha1 jo));clear hw1 hs1 ha1 hg1 hx1 hw0 hs0 ha0 hg0 hx0;have HI:=vh (show Blk w1 g2 91 #[.int .i64 (ar:Int),.slice A n c]∧Blk w1 g4 91 #[.int .i64 0,.slice none 0 0]∧Below w.heap.size w w1 from⟨X2.out,X4.out,HB1.out⟩);clear X2 X4 HB1;go_wp2_with fail;go_loopg [15] km (fun g iv wr=>∃i:Nat,iv = .int .i64 i∧i+g=km∧Hid (Blk wr g2 91 #[.int .i64 (ar:Int),.slice A n c]∧Blk wr g4 91 #[.int .i64 0,.slice none 0 0]∧Below w.heap.size w wr));case atStart=>exact⟨0,rfl,jo,HI⟩
 case round=>
  obtain⟨i,rfl,hio,HJ⟩:=hrel;clear HI;by_cases hi:i<km
  ·have i1:((i:Int)<(km:Int)):=jo;obtain⟨ad,hA,-,hc⟩:=(HX.below HJ.2.2).at_ hi;subst hA;have hil:i<ks.length:=by rw[←HKm];exact hi
   rw[yL hil] at hc;have hcl:=HCol.out _ (yD hil);obtain⟨kv,hkv⟩:∃v,v=nth ks i:=⟨_,rfl⟩;rw[←hkv] at hc hcl;clear hkv;have HC:=vh hc;clear hc;go_upto_region 6 with (fail);refine wp_region_each (kss:=[[],[],[(0,18),(1,19)],[(2,20)],[(3,21)],[(4,22)],[(5,23)],[(5,23)],[(5,23),(6,24),(7,25)],[(5,23),(8,26)],[(5,23)],[(5,23),(10,28)],[(5,23),(9,27),(11,29)],[(5,23),(12,30)]]) [(1,.slice ((some ad)) km kc),(6,.int .i64 ((i:Int))),(2,.pointer (some (⟨g2,0,none⟩)))] [EV (.slice ((some ad)) km kc),EV (.int .i64 ((i:Int))),EV (.pointer (some (Addr.add ad (i*1)))),EV (.int .i64 ((kv:Int))),EV (.bool false),EV (.bool false),EV (.slice ((some ad)) km kc),EV (.int .i64 ((i:Int))),EV (.pointer (some (Addr.add ad (i*1)))),EV (.int .i64 ((kv:Int))),EV (.pointer (some (⟨g2,0,none⟩))),EV (.int .i64 ((ar:Int))),EV (.bool false),EV (.bool false)] vk vk vt ?_ ?_ ?_
   ·exact js
   ·exact⟨vi0,vi1,zn0,vi79,(fun aa ww hb he hd=>za rfl (zZ ((kv:Int)) 0 .i64 _ _ _ _ rfl hd.1 rfl ⟨ut Value.bool (decide_eq_false jo),ue _ _⟩)),vi2,(fun aa ww hb he hd=>zn 23 rfl vk hd.1 (zi _ rfl ⟨he.1,ue _ _⟩)),(fun aa ww hb he hd=>zn 23 rfl vk hd.1 (zi _ rfl ⟨he.2.1,ue _ _⟩)),(fun aa ww hb he hd=>zn 23 rfl vk hd.1 (zm (e:=3) (s:=1) (k:=i) rfl vk jo hd.2.1 hd.2.2.1)),(fun aa ww hb he hd=>zn 23 rfl vk hd.1 (zd rfl vk hd.2.1 (by rw[Nat.mul_one];exact(hb.cell (zh HC.out)).trans HC.out))),(fun aa ww hb he hd=>zn 23 rfl vk hd.1 (zw (off:=0) rfl vk he.2.2.1)),(fun aa ww hb he hd=>zn 23 rfl vk hd.1 (zd rfl vk hd.2.1 (Blk.at0 HJ.1 hb))),(fun aa ww hb he hd=>zn 23 rfl vk hd.1 (yY ((kv:Int)) ((ar:Int)) .i64 _ _ _ _ rfl hd.2.1 hd.2.2.1 ⟨ut Value.bool (decide_eq_false jo),ue _ _⟩)),vi7,uC⟩
   intro vs w5 hb hR;refine vs0 ?_;rw[(hR 13 jd:vs 13=_)];clear hR;have HN2:=vh (show Blk w5 g2 91 #[.int .i64 (ar:Int),.slice A n c]∧Blk w5 g4 91 #[.int .i64 0,.slice none 0 0]∧Below w.heap.size w w5 from⟨HJ.1.keep hb,HJ.2.1.keep hb,(ze HJ.2.2 hb HJ.2.2.size)⟩);clear hb HJ HC hcl;exact zfg
  ·obtain rfl:km=i:=jo;have hn5:n≤5000000:=jo;have mk:=zja n hn5;have z1:=Blk.at1 HJ.1 (ue _ _);go_upto_region 10 with (fail);clear mk z1;obtain⟨wA,hwA⟩:∃x,x=wr:=⟨_,rfl⟩;subst hwA;obtain⟨w2,hw2⟩:∃x,x=wA.alloc (.cells (zdN n) 87):=⟨_,rfl⟩;rw[←hw2];obtain⟨g,hg⟩:=vx (wA.heap.size);have hF:FilF 87 RowC w2 wA.heap.size g n 0 ([]:List (List Int)):=by rw[hw2,hg];exact FilF.start _ _ _ (ug _) zcK
   rw[←hg];have hb2:Below wA.heap.size wA w2:=by rw[hw2];exact al _ _
   have HI:=vh (show FilF 87 RowC w2 wA.heap.size g n 0 ((rs.take 0).map fun x=>ks.map (zv x))∧Below wA.heap.size wA w2∧wA.heap.size≤w2.heap.size from⟨hF,hb2,hb2.size⟩);clear hw2 hg hF hb2;have HA:=vh HJ.out;clear HJ;go_wp2_with fail;go_loopg [40] n (fun g0 iv wr=>∃i:Nat,iv = .int .i64 i∧i+g0=n∧Hid (FilF 87 RowC wr wA.heap.size g n i ((rs.take i).map fun x=>ks.map (zv x))∧Below wA.heap.size wA wr∧wA.heap.size≤wr.heap.size));case atStart=>exact⟨0,rfl,jo,HI⟩
   case round=>
    obtain⟨i,rfl,hio,HJ⟩:=hrel;clear HI;by_cases hi:i<n
    ·have i1:((i:Int)<(n:Int)):=jo;obtain⟨x,hx⟩:∃x,rs[i]? = some x:=⟨_,uf ziE⟩;obtain⟨ad,cs,rfl,-,hco,hrc⟩:=HR.atA hx;obtain⟨u,rfl,hru⟩:=hrc;obtain⟨RA,m,rc,rfl,-⟩:=id hru;have hxl:=HLen.out x (ui hx);have hcol:∀k∈ks,k<x.length:=fun k hk=>by rw[hxl];exact HCol.out k hk
     have HC:=vh (hco 0 _ rfl);have HU:=vh hru;have HXc:=vh hcol;have HX2:=vh hx;clear hco hru hx hxl hcol;go_upto_region 13 with (fail);refine zc (kss:=[[],[],[],[(2,46)],[],[(3,47),(4,48)],[(5,49)],[],[(6,50),(7,51)],[(8,52)],[(9,43)],[(9,43)],[(0,44),(1,45)]]) [(7,.slice ((some ⟨g,0,none⟩)) n n),(8,.int .i64 ((i:Int))),(2,.pointer (some (⟨g2,0,none⟩))),(1,.slice K km kc)] [EV (.slice ((some ⟨g,0,none⟩)) n n),EV (.int .i64 ((i:Int))),EV (.pointer (some (⟨g2,1,none⟩))),EV (.slice ((some ad)) n c),EV (.int .i64 ((i:Int))),EV (.pointer (some (Addr.add ad (i*1)))),EV (.slice RA m rc),EV (.slice K km kc),fun zz ww=>∃v',zz = .tuple #[v',.int .i64 0]∧RowV ww v' (ks.map (zv x)),fun zz ww=>∃v',zz = .tuple #[v',.int .i64 0]∧RowV ww v' (ks.map (zv x)),fun zz ww=>RowV ww zz (ks.map (zv x)),EV (.int .i64 0),EV (.pointer (some (Addr.add (⟨g,0,none⟩) (i*1))))] 13 vk vt [false,false,false,false,false,false,false,false,false,false,false,false,false] ?_ ?_ ?_
     ·exact⟨eI,eI,eI,eI,eI,eI,eI,eI,fun _ _ _ ⟨v',h1,h2⟩ hb=>⟨v',h1,h2.below hb⟩,fun _ _ _ ⟨v',h1,h2⟩ hb=>⟨v',h1,h2.below hb⟩,fun _ _ _ h hb=>h.below hb,eI,eI,uC⟩
     ·exact⟨vi0,vi1,vi88,(fun aa ww hb he hd=>za rfl (zd rfl vk hd.1 (Blk.at1 HA.1 (HJ.2.1.trans (hb.mono HJ.2.2))))),vi1,zht,(fun aa ww hb he hd=>za rfl (zd rfl vk hd.1 (by have hh:=HC.out;rw[Addr.add_zero9] at hh;exact((HA.2.2.trans ((HJ.2.1.trans (hb.mono HJ.2.2)).mono HA.2.2.size)).cell (zh hh)).trans hh))),zbp,(fun aa ww hb he hd=>za rfl (zE _ _ _ _ rfl vk (by rw[show aa.eval (.tmp 50)=_ from hd.1,show aa.eval (.tmp 51)=_ from hd.2.1];exact zaW _ _ x ks ww (HU.below (HA.2.2.trans ((HJ.2.1.trans (hb.mono HJ.2.2)).mono HA.2.2.size))) (HKs.below (HA.2.2.trans ((HJ.2.1.trans (hb.mono HJ.2.2)).mono HA.2.2.size))) HXc.out))),vi2,(fun aa ww hb he hd=>za rfl (by obtain⟨v',e,h⟩:=hd.1;exact zk (zaK rfl e rfl) (fun _ _ ⟨h1,h2⟩=>⟨by rw[h1];exact h.below h2,h2⟩))),(fun aa ww hb he hd=>za rfl (by obtain⟨v',e,h⟩:=hd.1;exact zaK rfl e rfl)),zht,uC⟩
     intro vs w6 hb hR;have r53:=hR 10 jd;refine vs0 ?_;rw[(hR 12 jd:vs 12=_)];clear hR;rw[adm,Nat.zero_add];have hO:=HJ.1.below hb vj5;obtain⟨cur,hbg,hcur,hsz,hno,hset⟩:=hO.step hi;show wpOps _ _ _ [13] _ _;refine zb rfl rfl (yZ (g:=g) (off:=i) rfl rfl vk rfl rfl r53.ok hcur hsz hno ?_);intro w9 kn hg hs hbx;have kd:KD [3,26,89,91] w6 w9:=KD.blk hcur hg kn rfl;have hO9:=hset _ (ks.map (zv x)) w9 r53.ok hbx zla ⟨_,rfl,r53.kd kd rfl⟩;have HN2:=vh (show FilF 87 RowC w9 wA.heap.size g n (i+1) ((rs.take (i+1)).map fun x=>ks.map (zv x))∧Below wA.heap.size wA w9∧wA.heap.size≤w9.heap.size from⟨by rw[←yX HX2.out,List.map_append];exact hO9,(HJ.2.1.trans (hb.mono HJ.2.2)).grown hg (ud HJ.2.2 hb.size) (fun k e=>by cases e;exact hbg),by rw[hs];exact ud HJ.2.2 hb.size⟩);clear hO9 kd kn hg hs hbx hset hcur hsz hno hbg hO r53 hb HJ HC HU HXc HX2;exact znD
    ·obtain rfl:n=i:=jo;rw[um (l:=rs) zlf] at HJ;have hfin:=HJ.1.done (by rw[uy];exact HN.symm);have HFi:=vh hfin;clear hfin;go_upto_region 15 with (fail);refine zc (kss:=[[],[(0,57)],[]]) [(1,.slice K km kc),(7,.slice (some ⟨g,0,none⟩) n n)] [EV (.slice K km kc),EV (.int .i64 ((km:Int))),EV (.slice (some ⟨g,0,none⟩) n n)] 3 vk vt [false,false,false] ?_ ?_ ?_
     ·exact js
     ·exact⟨vi0,vi6,vi1,uC⟩
     intro vs w4 hb hR;refine vw9 ?_;clear hR;have ho4:=HFi.below hb vj5;have hbA:=HJ.2.1.trans (hb.mono HJ.2.2);have hbw:Below w.heap.size w w4:=HA.2.2.trans (hbA.mono HA.2.2.size);have hlow:w.heap.size≤wA.heap.size:=HA.2.2.size;have x4:=HA.2.1.keep hbA;have hg4:g4<wA.heap.size:=HA.2.1.lt;have hcall:Calls Tryz.prog 49 #[.int .i64 (km:Int),(.slice (some ⟨g,0,none⟩) n n)] w4 fun e w''=>∃v,e = .returned v∧BldV wA.heap.size km w4 (rs.map fun x=>ks.map (zv x)) v w'':=(zeY (B:=wA.heap.size) km _ (rs.map fun x=>ks.map (zv x)) w4 ho4 hbA.size (by rw[uy,←HN];exact hn6)).mono fun e w' ⟨r,zs,q1,q2⟩=>⟨_,q1,r,zs,rfl,q2⟩
     show wpOps _ _ _ [3,4,5,6,7] _ _;refine zb rfl rfl (zx (YS (.int .i64 (km:Int)) (.slice (some ⟨g,0,none⟩) n n) rfl vk rfl rfl hcall) ?_);clear hcall;rintro z w5 ⟨r,zs,rfl,hr5,hb5,hz5⟩;refine jp 60 ?_;refine zb rfl rfl (zx (Zl rfl rfl rfl) ?_);rintro z w8 ⟨rfl,hw8⟩;rw[hw8];clear hw8;refine jp 61 ?_;refine zb rfl rfl (zx (Zl rfl rfl rfl) ?_);rintro z w8 ⟨rfl,hw8⟩;rw[hw8];clear hw8;refine jp 62 ?_;obtain⟨A9,c9,rfl,hn9,-,-⟩:=hr5.form;obtain⟨n9,hn9e⟩:∃x,x=zs.length:=⟨_,rfl⟩;rw[←hn9e] at hr5 ⊢;have hx4:Blk w5 g4 91 #[.int .i64 0,.slice none 0 0]:=x4.low hb5 hg4;refine zb rfl rfl (zC (vs:=[.int .i64 (km:Int),.slice A9 n9 c9]) (off:=0) rfl rfl vk rfl rfl rfl hx4 vj6 (fun j _ _ x=>zD rfl j x) ?_);intro w9 kn hg hs hb9;have HX9:=vh (show Blk w9 g4 91 #[.int .i64 (km:Int),.slice A9 n9 c9] from hb9);have kd:KD [3,26,87,89] w5 w9:=KD.blk hx4 hg kn rfl;have HF9:=vh (RowsV.kd hr5 kd rfl rfl);have HZ:=vh hz5;have HB9:=vh (show Below w.heap.size w w9 from(hbw.trans (hb5.mono hlow)).grown hg (ud hbw.size hb5.size) (fun k e=>by cases e;exact G4.out));clear kn hg hs hb9 kd hx4 hr5 hb5 hz5 hn9e;refine zb rfl rfl (zl 5 (.tmp 62) rfl rfl (.int .i64 0) rfl ?_);refine vs1 ?_;unfold wpOps;go_wp2_with fail;refine bodyPost_ret (v:= .tuple #[.agg #[.int .i64 (km:Int),.slice A9 n9 c9],.int .i64 0]) (yS Tryz.results92 _ _ _ _ _ (0,0) _ rfl HX9.out Tryz.underlying91 rfl rfl) rfl ?_;rw[HKm];exact⟨_,zs,rfl,HF9.out,HB9.out,HZ.out⟩
end Go.Proofs.YtoecdobelolkeaaGreatDoor
