/- Part of TopSemirings. -/
import Derived.Test.YtoecdobelolkeaaGreatDoorK5
set_option linter.unusedVariables false
set_option linter.unusedSimpArgs false
set_option maxRecDepth 100000
namespace Go.Proofs.YtoecdobelolkeaaGreatDoor
variable {n i s k base:Nat} {vs V bv:List Nat} {w w':World} {r:List Int} {p q:Prop} {R:List (Value→World→Prop)} {ops:Array Oper} {L M:List (List Nat)} {A:Type} {o:Oper} {Q:Exit→Act→World→Prop} {a0:Act} {cs:Array Value} {e:TypeId} {c:List Value} {rs:List (List Int)}
def ym {S:Type} (R:CSr S) {A:Type} (f:A→S):List A→S
 |[]=>R.zero
 |a :: l=>R.add (f a) (ym R f l)
section
variable {S : Type} (R : CSr S) {A B : Type}
theorem zac (f:A→S) (l':List A):∀l,ym R f (l++l')=R.add (ym R f l) (ym R f l')
 |[]=>(R.zero_add _).symm
 |a :: l=>by show R.add (f a) (ym R f (l++l'))=R.add (R.add (f a) (ym R f l)) (ym R f l');rw[zac f l' l,R.add_assoc]
theorem Zf {f g:A→S}:∀ {l:List A},(∀a,a∈l→f a=g a)→ym R f l=ym R g l
 |[],_=>rfl
 |a :: l,h=>by rw[ym,ym,h a (List.mem_cons_self ..),Zf fun b hb=>h b (uq _ hb)]
theorem zbi {f:A→S}:∀ {l:List A},(∀a,a∈l→f a=R.zero)→ym R f l=R.zero
 |[],_=>rfl
 |a :: l,h=>by rw[ym,h a (List.mem_cons_self ..),zbi fun b hb=>h b (uq _ hb),R.zero_add]
theorem zka (f:A→S) {l l':List A} (h:l.Perm l'):ym R f l=ym R f l':=by
 induction h with
 |nil=>rfl
 |cons a _ ih=>rw[ym,ym,ih]
 |swap a b l=>rw[ym,ym,ym,ym,R.add_left]
 |trans _ _ h1 h2=>rw[h1,h2]
theorem zgn (f:B→S) (g:A→B):∀l:List A,ym R f (l.map g)=ym R (fun a=>f (g a)) l
 |[]=>rfl
 |a :: l=>by rw[List.map_cons,ym,ym,zgn f g l]
theorem zcp (f:B→S) (g:A→List B):∀l:List A,ym R f (l.flatMap g)=ym R (fun a=>ym R f (g a)) l
 |[]=>rfl
 |a :: l=>by rw[List.flatMap_cons,zac,ym,zcp f g l]
theorem zdA (a:S) (f:A→S):∀l,R.mul a (ym R f l)=ym R (fun b=>R.mul a (f b)) l
 |[]=>R.mul_zero a
 |b :: l=>by rw[ym,ym,R.mul_add,zdA a f l]
theorem zlK (a:S) (f:A→S) (l:List A):R.mul (ym R f l) a=ym R (fun b=>R.mul (f b) a) l:=by
 rw[R.mul_comm,zdA];exact Zf R fun b _=>R.mul_comm _ _
theorem zeJ (f:Nat→A→S) (k:Nat):∀l,yl R (fun d=>ym R (f d) l) k=ym R (fun a=>yl R (fun d=>f d a) k) l
 |[]=>ZI R fun _ _=>rfl
 |a :: l=>by
  show yl R (fun d=>R.add (f d a) (ym R (f d) l)) k=R.add _ _
  rw[zdz,zeJ f k l]
theorem zhO (f:Nat→S):∀k,ym R f (List.range k)=yl R f k
 |0=>rfl
 |k+1=>by rw[List.range_succ,zac,zhO f k,yl,ym,ym,R.add_zero]
def Ya (p:Prop) [Decidable p] (s:S):S:=if p then s else R.zero
theorem zS [Decidable p] (h:p) (s:S):Ya R p s=s:=if_pos h
theorem zQ [Decidable p] (h:¬p) (s:S):Ya R p s=R.zero:=if_neg h
theorem zdB [Decidable p] [Decidable q] (h:p↔q) (s:S):Ya R p s=Ya R q s:=by
 by_cases hp:p
 ·rw[zS R hp,zS R (h.1 hp)]
 ·rw[zQ R hp,zQ R (fun hq=>hp (h.2 hq))]
theorem zhP [Decidable p] [Decidable q] (s t:S):R.mul (Ya R p s) (Ya R q t)=Ya R (p∧q) (R.mul s t):=by
 by_cases hp:p
 ·by_cases hq:q
  ·rw[zS R hp,zS R hq,zS R ⟨hp,hq⟩]
  ·rw[zQ R hq,R.mul_zero,zQ R (fun h=>hq h.2)]
 ·rw[zQ R hp,R.zero_mul,zQ R (fun h=>hp h.1)]
end
structure PF (S:Type) where
 vars:List Nat
 rows:List (List Int)
 vals:List S
def ptF (vs:List Nat) (x:Nat→Nat):List Int:=vs.map fun v=>(x v:Int)
def rvF (vs:List Nat) (r:List Int) (v:Nat):Int:=zv r (vs.idxOf v)
def ye (r:List Int) (cs:List Nat):List Int:=cs.map (zv r)
def zr (vs:List Nat):Nat:=vs.foldl (fun a v=>a ||| 2 ^ v) 0
def Vrs (n:Nat) (vs:List Nat):Prop:=vs.Pairwise (· < ·)∧∀v∈vs,v<n
theorem Vrs.nodup (h:Vrs n vs):vs.Nodup:=h.1.imp fun h=>Nat.ne_of_lt h
theorem yK (vs:List Nat) (v:Nat):(zr vs).testBit v=decide (v∈vs):=by
 have:∀(l:List Nat) (a:Nat),(l.foldl (fun a v=>a ||| 2 ^ v) a).testBit v=(a.testBit v || decide (v∈l)):=by
  intro l;induction l with
  |nil=>intro a;simp
  |cons u l ih=>
   intro a;rw[List.foldl_cons,ih,Nat.testBit_or,Nat.testBit_two_pow];by_cases h:u=v
   ·subst h;simp
   ·simp[h,Ne.symm h]
 unfold zr;rw[this];simp
theorem ZB (h:∀v∈vs,v<n):zr vs<2 ^ n:=by
 apply Nat.lt_pow_two_of_testBit;intro i hi;rw[yK];exact decide_eq_false fun hm=>by have:=h i hm;omega
theorem ZC:∀ {l m:List Nat},l.Pairwise (· < ·)→m.Pairwise (· < ·)→(∀v,v∈l↔v∈m)→l=m
 |[],[],_,_,_=>rfl
 |[],b :: m,_,_,h=>absurd ((h b).2 vz) vz
 |a :: l,[],_,_,h=>absurd ((h a).1 vz) vz
 |a :: l,b :: m,hl,hm,h=>by
  rw[List.pairwise_cons] at hl hm
  have e:a=b:=by
   rcases List.mem_cons.1 ((h a).1 vz) with h1 | h1
   ·exact h1
   ·rcases List.mem_cons.1 ((h b).2 vz) with h2 | h2
    ·exact h2.symm
    ·have:=hl.1 b h2;have:=hm.1 a h1;omega
  subst e
  rw[ZC hl.2 hm.2 fun v=>⟨fun hv=>?_,fun hv=>?_⟩]
  ·rcases List.mem_cons.1 ((h v).1 (uq _ hv)) with h1 | h1
   ·have:=hl.1 v hv;omega
   ·exact h1
  ·rcases List.mem_cons.1 ((h v).2 (uq _ hv)) with h1 | h1
   ·have:=hm.1 v hv;omega
   ·exact h1
theorem zkb (n:Nat):(List.range n).Pairwise (· < ·):=List.pairwise_lt_range
theorem YR (s:Nat):(zN s).Pairwise (· < ·):=(zkb 32).filter _
theorem mem_memF {v:Nat}:v∈zN s↔v<32∧s.testBit v=true:=by simp[zN]
theorem ztj (h:Vrs n vs) (hn:n≤32):zN (zr vs)=vs:=
 ZC (YR _) h.1 fun v=>by
  rw[mem_memF,yK,decide_eq_true_eq]
  exact⟨fun h1=>h1.2,fun h1=>⟨by have:=h.2 v h1;omega,h1⟩⟩
theorem zlL (hs:s<2 ^ n):Vrs n (zN s):=⟨YR s,fun v hv=>by
 rcases Nat.lt_or_ge v n with h | h
 ·exact h
 ·have:=(mem_memF.1 hv).2
  rw[Nat.testBit_lt_two_pow (uj hs (Nat.pow_le_pow_right jo h))] at this
  cases this⟩
theorem zkc (hn:vs.Nodup) (hi:i<vs.length):vs.idxOf (nth vs i)=i:=by
 rw[Zu hi];exact List.Nodup.idxOf_getElem hn i hi
theorem zfw (hn:vs.Nodup) (r:List Int) (s:Nat):ye r (yu vs s)=(vs.filter fun v=>s.testBit v).map (rvF vs r):=by
 have e:vs=(List.range vs.length).map (nth vs):=by
  apply List.ext_getElem
  ·simp
  ·intro i h1 h2;simp[Zu h1]
 unfold ye yu;exact vt31
theorem ziV (hn:vs.Nodup) (hl:r.length=vs.length):r=vs.map (rvF vs r):=by
 apply List.ext_getElem
 ·simp[hl]
 ·intro i h1 h2;rw[List.getElem_map];unfold rvF;rw[List.Nodup.idxOf_getElem hn i jo,Yn h1]
theorem zhQ (hn:vs.Nodup) (hl:r.length=vs.length) (x:Nat→Nat):r=ptF vs x↔∀v∈vs,rvF vs r v=(x v:Int):=by
 constructor
 ·intro h v hv;have h2:=ziV hn hl;rw[h] at h2;have h3:=List.map_inj_left.1 h2 v hv;rw[h];exact h3.symm
 ·intro h;exact(ziV hn hl).trans (List.map_congr_left h)
theorem ztk (x:Nat→Nat) {v:Nat} (hv:v∈vs):rvF vs (ptF vs x) v=(x v:Int):=by
 unfold rvF ptF;have h:=List.idxOf_lt_length_of_mem hv;rw[Yn zej,List.getElem_map,List.getElem_idxOf h]
theorem zlM (hn:vs.Nodup) (x:Nat→Nat) (s:Nat):ye (ptF vs x) (yu vs s)=ptF (vs.filter fun v=>s.testBit v) x:=by
 rw[zfw hn];exact List.map_congr_left fun v hv=>ztk x (List.mem_filter.1 hv).1
theorem zeo {av:List Nat} (ha:Vrs n av) (hb:Vrs n bv) (hn:n≤32):(av.filter fun v=>(zr av &&& zr bv).testBit v)=(bv.filter fun v=>(zr av &&& zr bv).testBit v):=
 ZC (ha.1.filter _) (hb.1.filter _) fun v=>by
  simp only[List.mem_filter,Nat.testBit_and,yK,Bool.and_eq_true,decide_eq_true_eq]
  exact⟨fun h=>⟨h.2.2,h.2⟩,fun h=>⟨h.2.1,h.2⟩⟩
def PF.row {S:Type} (f:PF S) (i:Nat):List Int:=f.rows.getD i []
def PF.val {S:Type} (R:CSr S) (f:PF S) (i:Nat):S:=f.vals.getD i R.zero
structure WfF {S:Type} (n:Nat) (f:PF S):Prop where
 len:f.rows.length=f.vals.length
 vars:Vrs n f.vars
 row:∀r∈f.rows,r.length=f.vars.length∧∀x∈r,0≤x∧x≤3
section
variable {S : Type} (R : CSr S)
def PF.prs (f:PF S):List (List Int×S):=f.rows.zip f.vals
def zar (vs:List Nat) (P:List (List Int×S)) (x:Nat→Nat):S:=ym R (fun p=>Ya R (p.1=ptF vs x) p.2) P
def den (f:PF S) (x:Nat→Nat):S:=zar R f.vars f.prs x
theorem PF.row_mem {f:PF S} (h:i<f.rows.length):f.row i∈f.rows:=by
 unfold PF.row;rw[List.getD_eq_getElem?_getD,uf h];exact List.getElem_mem h
theorem PF.prs_range {f:PF S} (h:f.rows.length=f.vals.length):f.prs=(List.range f.rows.length).map fun i=>(f.row i,f.val R i):=by
 unfold PF.prs;apply List.ext_getElem
 ·simp[h]
 ·intro i h1 h2;have h3:i<f.rows.length:=by simpa using h2
  have h4:i<f.vals.length:=jo;simp[PF.row,PF.val,h3,h4]
theorem zbj {f:PF S} (h:f.rows.length=f.vals.length) (x:Nat→Nat):den R f x=ym R (fun i=>Ya R (f.row i=ptF f.vars x) (f.val R i)) (List.range f.rows.length):=by
 unfold den zar;rw[PF.prs_range R h,zgn]
theorem zlN {av:List Nat} {s:List Int} (ha:Vrs n av) (hb:Vrs n bv) (hn:n≤32) (hr:r.length=av.length) (hs:s.length=bv.length) (x:Nat→Nat) :
  (ye s (yu bv (zr av &&& zr bv))=ye r (yu av (zr av &&& zr bv))∧zaM (zN (zr av ||| zr bv)) av r bv s=ptF (zN (zr av ||| zr bv)) x)↔(r=ptF av x∧s=ptF bv x):=by
 rw[zfw hb.nodup,zfw ha.nodup,←zeo ha hb hn,zhQ ha.nodup hr,zhQ hb.nodup hs];have hm:∀v,v∈zN (zr av ||| zr bv)↔v∈av∨v∈bv:=fun v=>by
  rw[mem_memF,Nat.testBit_or,yK,yK,Bool.or_eq_true,decide_eq_true_eq,decide_eq_true_eq];constructor
  ·exact fun h=>h.2
  ·intro h;refine⟨?_,h⟩;rcases h with h | h
   ·have:=ha.2 v h;omega
   ·have:=hb.2 v h;omega
 have h1:(zaM (zN (zr av ||| zr bv)) av r bv s=ptF (zN (zr av ||| zr bv)) x)↔∀v,(v∈av∨v∈bv)→(if v∈av then rvF av r v else rvF bv s v)=(x v:Int):=by
  unfold zaM ptF;rw[List.map_inj_left];exact⟨fun h v hv=>h v ((hm v).2 hv),fun h v hv=>h v ((hm v).1 hv)⟩
 have h2:((av.filter fun v=>(zr av &&& zr bv).testBit v).map (rvF bv s)=(av.filter fun v=>(zr av &&& zr bv).testBit v).map (rvF av r))↔∀v,v∈av→v∈bv→rvF bv s v=rvF av r v:=by
  rw[List.map_inj_left];simp only[List.mem_filter,Nat.testBit_and,yK,Bool.and_eq_true,decide_eq_true_eq];exact⟨fun h v h3 h4=>h v ⟨h3,h3,h4⟩,fun h v h3=>h v h3.1 h3.2.2⟩
 rw[h1,h2];constructor
 ·rintro⟨g1,g2⟩;have g3:∀v∈av,rvF av r v=(x v:Int):=fun v hv=>by have:=g2 v (.inl hv);rwa [if_pos hv] at this
  refine⟨g3,fun v hv=>?_⟩;by_cases h:v∈av
  ·rw[g1 v h hv];exact g3 v h
  ·have:=g2 v (.inr hv);rwa [if_neg h] at this
 ·rintro⟨g1,g2⟩;refine⟨fun v h3 h4=>by rw[g1 v h3,g2 v h4],fun v hv=>?_⟩;by_cases h:v∈av
  ·rw[if_pos h];exact g1 v h
  ·rw[if_neg h];exact g2 v (hv.resolve_left h)
def zaL (others:List (PF S)) (vs:List Nat) (all:Nat) (m:List Int):Bool:=others.all fun o=>o.rows.any fun y=>decide (ye y (yu o.vars (zr o.vars &&& all))=ye m (yu vs (zr o.vars &&& all)))
def zc0 (a b:PF S) (others:List (PF S)) (i k:Nat):List (List Int×S):=
 if zaL others (zN (zr a.vars ||| zr b.vars)) (zr a.vars ||| zr b.vars) (zaM (zN (zr a.vars ||| zr b.vars)) a.vars (a.row i) b.vars (b.row k))=true then
  [(zaM (zN (zr a.vars ||| zr b.vars)) a.vars (a.row i) b.vars (b.row k),R.mul (a.val R i) (b.val R k))] else []
def Zo (b:PF S) (cm:Nat) (key:List Int) (n:Nat):List Nat:=(List.range n).filter fun k=>decide (ye (b.row k) (yu b.vars cm)=key)
def zep (a b:PF S) (others:List (PF S)) (i:Nat):List (List Int×S):=
 (Zo b (zr a.vars &&& zr b.vars) (ye (a.row i) (yu a.vars (zr a.vars &&& zr b.vars))) b.rows.length).flatMap (zc0 R a b others i)
def zbo (a b:PF S) (others:List (PF S)):List (List Int×S):=(List.range a.rows.length).flatMap (zep R a b others)
theorem zcR (f:A→S) (p:A→Bool):∀l:List A,ym R f (l.filter p)=ym R (fun a=>Ya R (p a=true) (f a)) l
 |[]=>rfl
 |a :: l=>by
  rw[ym,←zcR f p l]
  by_cases h:p a=true
  ·rw[List.filter_cons_of_pos h,ym,zS R h]
  ·rw[List.filter_cons_of_neg h,zQ R h,R.zero_add]
theorem zlO {a b:PF S} {others:List (PF S)} (ha:WfF n a) (hb:WfF n b) (hn:n≤32) (x:Nat→Nat) :
  zar R (zN (zr a.vars ||| zr b.vars)) (zbo R a b others) x=Ya R (zaL others (zN (zr a.vars ||| zr b.vars)) (zr a.vars ||| zr b.vars) (ptF (zN (zr a.vars ||| zr b.vars)) x)=true) (R.mul (den R a x) (den R b x)):=by
 rw[zbj R ha.len,zbj R hb.len];unfold zar zbo;rw[zcp,zlK];have key:∀i∈List.range a.rows.length,ym R (fun p:List Int×S=>Ya R (p.1=ptF (zN (zr a.vars ||| zr b.vars)) x) p.2) (zep R a b others i)=Ya R (zaL others (zN (zr a.vars ||| zr b.vars)) (zr a.vars ||| zr b.vars) (ptF (zN (zr a.vars ||| zr b.vars)) x)=true) (R.mul (Ya R (a.row i=ptF a.vars x) (a.val R i)) (ym R (fun k=>Ya R (b.row k=ptF b.vars x) (b.val R k)) (List.range b.rows.length))):=by
  intro i hi;have hi2:i<a.rows.length:=by simpa using hi
  unfold zep Zo;rw[zcp,zcR,zdA];by_cases hp:zaL others (zN (zr a.vars ||| zr b.vars)) (zr a.vars ||| zr b.vars) (ptF (zN (zr a.vars ||| zr b.vars)) x)=true
  ·rw[zS R hp];refine Zf R fun k hk=>?_;have hk2:k<b.rows.length:=by simpa using hk
   have hj:=zlN ha.vars hb.vars hn (ha.row _ (PF.row_mem hi2)).1 (hb.row _ (PF.row_mem hk2)).1 x;rw[zhP,←zdB R hj];unfold zc0;by_cases h1:ye (b.row k) (yu b.vars (zr a.vars &&& zr b.vars))=ye (a.row i) (yu a.vars (zr a.vars &&& zr b.vars))
   ·rw[zS R zf5];by_cases h2:zaM (zN (zr a.vars ||| zr b.vars)) a.vars (a.row i) b.vars (b.row k)=ptF (zN (zr a.vars ||| zr b.vars)) x
    ·rw[zS R ⟨h1,h2⟩,h2,if_pos hp,ym,ym,zS R rfl,R.add_zero]
    ·rw[zQ R (fun h=>h2 h.2)];split
     ·rw[ym,ym,zQ R h2,R.zero_add]
     ·rfl
   ·rw[zQ R zf5,zQ R (fun h=>h1 h.1)]
  ·rw[zQ R hp];refine zbi R fun k hk=>?_;unfold zc0;by_cases h1:(decide (ye (b.row k) (yu b.vars (zr a.vars &&& zr b.vars))=ye (a.row i) (yu a.vars (zr a.vars &&& zr b.vars))))=true
   ·rw[zS R h1];split
    ·rename_i h2;rw[ym,ym,R.add_zero];exact zQ R (fun h=>hp (by rw[←h];exact h2)) _
    ·rfl
   ·rw[zQ R h1]
 rw[Zf R key];by_cases hp:zaL others (zN (zr a.vars ||| zr b.vars)) (zr a.vars ||| zr b.vars) (ptF (zN (zr a.vars ||| zr b.vars)) x)=true
 ·rw[zS R hp];exact Zf R fun i _=>zS R hp _
 ·rw[zQ R hp];exact zbi R fun i _=>zQ R hp _
theorem zdC {f:A→S}:∀ {l:List A} {a:A},a∈l→f a=R.zero→yw R f l=R.zero
 |b :: l,a,h,hz=>by
  rw[yw]
  rcases List.mem_cons.1 h with h | h
  ·rw[←h,hz,R.zero_mul]
  ·rw[zdC h hz,R.mul_zero]
theorem zlP {o:PF S} {all:Nat} (ho:WfF n o) (hv:Vrs n vs) (hn:n≤32) (hall:∀v,v<32→(all.testBit v=true↔v∈vs)) (x:Nat→Nat)
  (h:(o.rows.any fun y=>decide (ye y (yu o.vars (zr o.vars &&& all))=ye (ptF vs x) (yu vs (zr o.vars &&& all))))=false):den R o x=R.zero:=by
 rw[zbj R ho.len];refine zbi R fun i hi=>zQ R (fun e=>?_) _;have hi2:i<o.rows.length:=by simpa using hi
 rw[List.any_eq_false] at h;refine h _ (PF.row_mem hi2) ?_;rw[decide_eq_true_eq,e,zlM ho.vars.nodup,zlM hv.nodup];unfold ptF;rw[ZC (ho.vars.1.filter _) (hv.1.filter _) fun v=>?_];simp only[List.mem_filter,Nat.testBit_and,yK,Bool.and_eq_true,decide_eq_true_eq];constructor
 ·intro g;exact⟨(hall v (by have:=ho.vars.2 v g.1;omega)).1 g.2.2,g.2⟩
 ·intro g;exact⟨g.2.1,g.2⟩
theorem zdD {av:List Nat} (ha:Vrs n av) (hb:Vrs n bv):Vrs n (zN (zr av ||| zr bv)):=
 zlL (Nat.or_lt_two_pow (ZB ha.2) (ZB hb.2))
theorem zou {a b:PF S} {others:List (PF S)} (ha:WfF n a) (hb:WfF n b) (hn:n≤32) (ho:∀o∈others,WfF n o) (x:Nat→Nat) :
  R.mul (zar R (zN (zr a.vars ||| zr b.vars)) (zbo R a b others) x) (yw R (fun o=>den R o x) others)=R.mul (den R a x) (R.mul (den R b x) (yw R (fun o=>den R o x) others)):=by
 rw[zlO R ha hb hn];by_cases hp:zaL others (zN (zr a.vars ||| zr b.vars)) (zr a.vars ||| zr b.vars) (ptF (zN (zr a.vars ||| zr b.vars)) x)=true
 ·rw[zS R hp,R.mul_assoc]
 ·have h1:∃o∈others,den R o x=R.zero:=by
   unfold zaL at hp;rw[List.all_eq_true] at hp;obtain⟨o,hom,h2⟩:=Classical.not_forall.1 hp |>.imp fun o h=>Classical.not_imp.1 h;refine⟨o,hom,zlP R (ho o hom) (zdD ha.vars hb.vars) hn (fun v hv=>?_) x (by simpa using h2)⟩;rw[mem_memF];exact⟨fun h=>⟨hv,h⟩,fun h=>h.2⟩
  obtain⟨o,hom,h2⟩:=h1;rw[zdC R hom h2,R.mul_zero,R.mul_zero,R.mul_zero]
def zbF (G:List (List Int×S)) (k:List Int) (u:S):List (List Int×S):=asg G k (R.add ((lk G k).getD R.zero) u)
def Yh (f:PF S) (rest:List Nat):Nat→List (List Int×S)
 |0=>[]
 |i+1=>zbF R (Yh f rest i) (ye (f.row i) rest) (f.val R i)
def yq (vs:List Nat) (v:Nat):List Nat:=(List.range vs.length).filter fun i=>decide (nth vs i≠v)
theorem zgo (vs:List Nat) (x:Nat→Nat) (k:List Int) (u:S):∀G:List (List Int×S),zar R vs (zbF R G k u) x=R.add (zar R vs G x) (Ya R (k=ptF vs x) u)
 |[]=>by
  unfold zar zbF
  simp only[asg,lk,ym,Option.getD_none]
  rw[R.zero_add,R.add_zero,R.zero_add]
 |p :: G=>by
  have ih:=zgo vs x k u G
  unfold zar zbF at ih ⊢
  simp only[asg,lk]
  by_cases h:p.1=k
  ·rw[if_pos h,if_pos h]
   simp only[ym,Option.getD_some,h]
   by_cases h2:k=ptF vs x
   ·rw[zS R h2,zS R h2,zS R h2,R.add_assoc,R.add_assoc,R.add_comm u]
   ·rw[zQ R h2,zQ R h2,zQ R h2,R.zero_add,R.add_zero]
  ·rw[if_neg h,if_neg h]
   simp only[ym]
   rw[ih,R.add_assoc]
theorem zgp (f:PF S) (rest vs:List Nat) (x:Nat→Nat):∀k,zar R vs (Yh R f rest k) x=ym R (fun i=>Ya R (ye (f.row i) rest=ptF vs x) (f.val R i)) (List.range k)
 |0=>rfl
 |k+1=>by
  rw[Yh,zgo,zgp f rest vs x k,List.range_succ,zac]
  simp only[ym]
  rw[R.add_zero]
theorem zgq (hn:vs.Nodup) (r:List Int) (v:Nat):ye r (yq vs v)=(vs.filter fun u=>decide (u≠v)).map (rvF vs r):=by
 have e:vs=(List.range vs.length).map (nth vs):=by
  apply List.ext_getElem
  ·simp
  ·intro i h1 h2;simp[Zu h1]
 unfold ye yq;exact vt31
theorem zov {f:PF S} (hf:WfF n f) {v:Nat} (hv:v∈f.vars) (x:Nat→Nat) :
  zar R (f.vars.filter fun u=>decide (u≠v)) (Yh R f (yq f.vars v) f.rows.length) x=yl R (fun d=>den R f (yG x v d)) 4:=by
 rw[zgp];have h0:yl R (fun d=>den R f (yG x v d)) 4=yl R (fun d=>ym R (fun i=>Ya R (f.row i=ptF f.vars (yG x v d)) (f.val R i)) (List.range f.rows.length)) 4:=yz R fun d _=>zbj R hf.len _;rw[h0,zeJ];refine Zf R fun i hi=>?_;have hi2:i<f.rows.length:=by simpa using hi
 have hrow:=hf.row _ (PF.row_mem hi2);have hvr:0≤rvF f.vars (f.row i) v∧rvF f.vars (f.row i) v≤3:=by
  refine hrow.2 _ ?_;unfold rvF;exact Yi (by rw[hrow.1];exact List.idxOf_lt_length_of_mem hv)
 obtain⟨d0,hd0⟩:∃d0:Nat,(d0:Int)=rvF f.vars (f.row i) v:=⟨_,Int.toNat_of_nonneg hvr.1⟩;have hpt:∀d,f.row i=ptF f.vars (yG x v d)↔(d0=d∧ye (f.row i) (yq f.vars v)=ptF (f.vars.filter fun u=>decide (u≠v)) x):=by
  intro d;rw[zhQ hf.vars.nodup hrow.1,zgq hf.vars.nodup];unfold ptF;rw[List.map_inj_left];constructor
  ·intro h;refine⟨?_,fun u hu=>?_⟩
   ·have:=h v hv;rw[zaq] at this;omega
   ·obtain⟨h1,h2⟩:=List.mem_filter.1 hu;have h3:=h u h1;rwa [zab x d (by simpa using h2)] at h3
  ·rintro⟨rfl,h⟩ u hu;by_cases e:u=v
   ·subst e;rw[zaq];exact hd0.symm
   ·rw[zab x d0 e];exact h u (List.mem_filter.2 ⟨hu,by simpa using e⟩)
 rw[zgl R (j:=d0) jo fun d _ hne=>zQ R (fun h=>hne (((hpt d).1 h).1).symm) _];exact zdB R ⟨fun h=>(hpt d0).2 ⟨rfl,h⟩,fun h=>((hpt d0).1 h).2⟩ _
structure IsP (V:List Nat) (P:List (List Int×S)) (f:PF S):Prop where
 vars:f.vars=V
 len:f.rows.length=f.vals.length
 prs:f.prs.Perm P
theorem IsP.den {P:List (List Int×S)} {f:PF S} (h:IsP V P f) (x:Nat→Nat):den R f x=zar R V P x:=by
 unfold Go.Proofs.YtoecdobelolkeaaGreatDoor.den zar;rw[zka R _ h.prs,h.vars]
theorem IsP.row {P:List (List Int×S)} {f:PF S} (h:IsP V P f) (hr:r∈f.rows):∃u,(r,u)∈P:=by
 obtain⟨i,hi⟩:=List.mem_iff_getElem?.1 hr;have h1:=(List.getElem?_eq_some_iff.1 hi).1;refine⟨f.vals[i]'(by have:=h.len;omega),h.prs.mem_iff.1 (ui (i:=i) ?_)⟩;unfold PF.prs;rw[List.getElem?_zip_eq_some];exact⟨hi,uf _⟩
theorem IsP.wf {P:List (List Int×S)} {f:PF S} (h:IsP V P f) (hV:Vrs n V) (hP:∀p∈P,p.1.length=V.length∧∀x∈p.1,0≤x∧x≤3):WfF n f:=
 ⟨h.len,by rw[h.vars];exact hV,fun r hr=>by
  obtain⟨u,hu⟩:=h.row hr
  rw[h.vars];exact hP _ hu⟩
theorem zgr {a b:PF S} {others:List (PF S)} (ha:WfF n a) (hb:WfF n b):∀p∈zbo R a b others,p.1.length=(zN (zr a.vars ||| zr b.vars)).length∧∀x∈p.1,0≤x∧x≤3:=by
 intro p hp;obtain⟨i,hi,hp⟩:=List.mem_flatMap.1 hp;obtain⟨k,hk,hp⟩:=List.mem_flatMap.1 hp;have hi2:i<a.rows.length:=by simpa using hi
 have hk2:k<b.rows.length:=by simpa using (List.mem_filter.1 hk).1
 unfold zc0 at hp;split at hp
 ·rw[uD] at hp;subst hp;have h1:=ha.row _ (PF.row_mem hi2);have h2:=hb.row _ (PF.row_mem hk2);refine⟨by simp[zaM],fun x hx=>?_⟩;obtain⟨v,hv,rfl⟩:=List.mem_map.1 hx;have hv2:=(mem_memF.1 hv).2;rw[Nat.testBit_or,yK,yK,Bool.or_eq_true,decide_eq_true_eq,decide_eq_true_eq] at hv2;by_cases h:v∈a.vars
  ·rw[if_pos h];exact h1.2 _ (Yi (by rw[h1.1];exact List.idxOf_lt_length_of_mem h))
  ·rw[if_neg h];exact h2.2 _ (Yi (by rw[h2.1];exact List.idxOf_lt_length_of_mem (hv2.resolve_left h)))
 ·cases hp
theorem ziW {α:Type}:∀ {M:List (List Int×α)} {k:List Int} {v:α} {p:List Int×α},p∈asg M k v→p=(k,v)∨p∈M
 |[],k,v,p,h=>by rw[asg,uD] at h;exact .inl h
 |q :: l,k,v,p,h=>by
  rw[asg] at h
  split at h
  ·rcases List.mem_cons.1 h with h | h
   ·exact .inl h
   ·exact .inr (uq _ h)
  ·rcases List.mem_cons.1 h with h | h
   ·exact .inr (by rw[h];exact List.mem_cons_self)
   ·rcases ziW (M:=l) h with h | h
    ·exact .inl h
    ·exact .inr (uq _ h)
theorem zdE {f:PF S} (hf:WfF n f) (v:Nat):∀k,k≤f.rows.length→∀p∈Yh R f (yq f.vars v) k,p.1.length=(f.vars.filter fun u=>decide (u≠v)).length∧∀x∈p.1,0≤x∧x≤3
 |0,_,p,hp=>by cases hp
 |k+1,hk,p,hp=>by
  rw[Yh] at hp
  rcases ziW hp with h | h
  ·subst h
   have h1:=hf.row _ (PF.row_mem (show k<f.rows.length by omega))
   show (ye (f.row k) (yq f.vars v)).length=_∧_
   rw[zgq hf.vars.nodup]
   refine⟨by rw[uy],fun x hx=>?_⟩
   obtain⟨u,hu,rfl⟩:=List.mem_map.1 (show x∈(f.vars.filter fun u=>decide (u≠v)).map (rvF f.vars (f.row k)) from hx)
   exact h1.2 _ (Yi (by rw[h1.1];exact List.idxOf_lt_length_of_mem (List.mem_filter.1 hu).1))
  ·exact zdE hf v k jo p h
structure MuOk (μ:S→Nat):Prop where
 one:∀a,1≤μ a
 add:∀a b,μ (R.add a b)≤μ a+μ b
 mul:∀a b,μ (R.mul a b)≤μ a*μ b
def smu (μ:S→Nat) (l:List S):Nat:=(l.map μ).sum
theorem zda (μ:S→Nat) (l m:List S):smu μ (l++m)=smu μ l+smu μ m:=by simp[smu]
theorem zlQ (μ:S→Nat) {l m:List S} (h:l.Perm m):smu μ l=smu μ m:=(h.map μ).sum_nat
theorem zfx {μ:S→Nat} {a:S} {l:List S} (h:a∈l):μ a≤smu μ l:=by
 induction l with
 |nil=>cases h
 |cons b l ih=>
  unfold smu at ih ⊢;rw[List.map_cons,List.sum_cons];rcases List.mem_cons.1 h with rfl | h
  ·omega
  ·have:=ih h;omega
def Mf (μ:S→Nat) (f:PF S):Nat:=max 1 (smu μ f.vals)
def MfP (μ:S→Nat):List (PF S)→Nat
 |[]=>1
 |f :: l=>Mf μ f*MfP μ l
theorem zfy (μ:S→Nat):∀l:List (PF S),1≤MfP μ l
 |[]=>ug _
 |f :: l=>by
  have h1:=zfy μ l
  have h2:1≤Mf μ f:=Nat.le_max_left _ _
  exact Nat.mul_le_mul h2 h1
theorem zfz (μ:S→Nat) (m:List (PF S)):∀l,MfP μ (l++m)=MfP μ l*MfP μ m
 |[]=>(Nat.one_mul _).symm
 |f :: l=>by rw[List.cons_append,MfP,MfP,zfz μ m l,Nat.mul_assoc]
theorem zeK (μ:S→Nat) (p:PF S→Bool):∀l:List (PF S),MfP μ l=MfP μ (l.filter p)*MfP μ (l.filter fun f=>!p f)
 |[]=>rfl
 |f :: l=>by
  have ih:=zeK μ p l
  cases h:p f with
  |true=>rw[List.filter_cons_of_pos h,List.filter_cons_of_neg (by simp[h]),MfP,MfP,ih,Nat.mul_assoc]
  |false=>rw[List.filter_cons_of_neg (by simp[h]),List.filter_cons_of_pos (by simp[h]),MfP,MfP,ih,Nat.mul_left_comm]
theorem IsP.smu {P:List (List Int×S)} {f:PF S} (h:IsP V P f) (μ:S→Nat):smu μ f.vals=smu μ (P.map (·.2)):=by
 have h1:=zlQ μ (h.prs.map (·.2));rw[←h1];unfold PF.prs;rw[List.map_snd_zip (by have:=h.len;omega)]
variable {R}
theorem zhR {μ:S→Nat} {g:Nat→List S} {B:Nat→Nat}:∀ {l:List Nat},(∀k∈l,smu μ (g k)≤B k)→smu μ (l.flatMap g)≤(l.map B).sum
 |[],_=>ug _
 |k :: l,h=>by
  rw[List.flatMap_cons,zda,List.map_cons,List.sum_cons]
  have h1:=h k vz
  have h2:=zhR (l:=l) fun j hj=>h j (uq _ hj)
  omega
theorem ziX {B:Nat→Nat} (p:Nat→Bool):∀l:List Nat,((l.filter p).map B).sum≤(l.map B).sum
 |[]=>ug _
 |k :: l=>by
  have ih:=ziX (B:=B) p l
  rw[List.filter_cons]
  split
  ·rw[List.map_cons,List.map_cons,List.sum_cons,List.sum_cons];omega
  ·rw[List.map_cons,List.sum_cons];omega
theorem zdF (R:CSr S) {f:PF S}:f.vals=(List.range f.vals.length).map (f.val R):=by
 apply List.ext_getElem
 ·simp
 ·intro i h1 h2;simp[PF.val,h1]
theorem zb2 (c:Nat) (B:Nat→Nat):∀l:List Nat,(l.map fun k=>c*B k).sum=c*(l.map B).sum
 |[]=>rfl
 |k :: l=>by rw[List.map_cons,List.map_cons,List.sum_cons,List.sum_cons,zb2 c B l,Nat.mul_add]
theorem zbu (c:Nat) (B:Nat→Nat):∀l:List Nat,(l.map fun k=>B k*c).sum=(l.map B).sum*c
 |[]=>(Nat.zero_mul _).symm
 |k :: l=>by rw[List.map_cons,List.map_cons,List.sum_cons,List.sum_cons,zbu c B l,Nat.add_mul]
theorem zfA {μ:S→Nat} (hμ:MuOk R μ) {a b:PF S} (ha:a.rows.length=a.vals.length) (hb:b.rows.length=b.vals.length) (others:List (PF S)):smu μ ((zbo R a b others).map (·.2))≤smu μ a.vals*smu μ b.vals:=by
 unfold zbo;rw[List.map_flatMap];refine ud (zhR (B:=fun i=>μ (a.val R i)*smu μ b.vals) fun i hi=>?_) ?_
 ·unfold zep Zo;rw[List.map_flatMap];refine ud (zhR (B:=fun k=>μ (a.val R i)*μ (b.val R k)) fun k hk=>?_) ?_
  ·unfold zc0;split
   ·simpa [smu] using hμ.mul _ _
   ·simp[smu]
  ·refine ud (ziX _ _) ?_;rw[zb2];refine Nat.mul_le_mul_left _ (Nat.le_of_eq ?_);conv=>rhs;rw[zdF R (f:=b)]
   unfold smu;rw[List.map_map,hb];rfl
 ·rw[zbu];refine uk _ (Nat.le_of_eq ?_);conv=>rhs;rw[zdF R (f:=a)]
  unfold smu;rw[List.map_map,ha];rfl
theorem ziY {μ:S→Nat} (hμ:MuOk R μ) (k:List Int) (u:S):∀G:List (List Int×S),smu μ ((zbF R G k u).map (·.2))≤smu μ (G.map (·.2))+μ u
 |[]=>by unfold zbF;simp[asg,lk,smu,R.zero_add]
 |p :: G=>by
  have ih:=ziY hμ k u G
  unfold zbF at ih ⊢
  simp only[asg,lk]
  by_cases h:p.1=k
  ·rw[if_pos h,if_pos h]
   have:=hμ.add p.2 u
   simp only[smu,List.map_cons,List.sum_cons,Option.getD_some] at *
   omega
  ·rw[if_neg h,if_neg h]
   simp only[smu,List.map_cons,List.sum_cons] at *
   omega
theorem zfB {μ:S→Nat} (hμ:MuOk R μ) (f:PF S) (rest:List Nat):∀k,k≤f.vals.length→smu μ ((Yh R f rest k).map (·.2))≤smu μ (f.vals.take k)
 |0,_=>by simp[Yh,smu]
 |k+1,hk=>by
  rw[Yh]
  refine ud (ziY hμ _ _ _) ?_
  have h1:=zfB hμ f rest k jo
  have h2:f.vals.take (k+1)=f.vals.take k++[f.val R k]:=by
   rw[List.take_add_one]
   have hk2:k<f.vals.length:=jo
   simp[PF.val,hk2]
  rw[h2,zda]
  have:smu μ [f.val R k]=μ (f.val R k):=by simp[smu]
  omega
variable (R)
def YZ (fs:List (PF S)) (x:Nat→Nat):S:=yw R (fun f=>den R f x) fs
def yh (v:Nat) (f:PF S):Bool:=decide (v∈f.vars)
structure ElI (n:Nat) (left:List (PF S)) (v k:Nat) (p:PF S):Prop where
 wf:WfF n p
 mem:v∈p.vars
 prd:∀x,R.mul (den R p x) (YZ R ((left.filter (yh v)).drop (k+1)++left.filter fun f=>!yh v f) x)=YZ R left x
 vs:∀u,u∈p.vars↔∃f∈(left.filter (yh v)).take (k+1),u∈f.vars
 mu:∀μ,MuOk R μ→Mf μ p*MfP μ ((left.filter (yh v)).drop (k+1)++left.filter fun f=>!yh v f)≤MfP μ left
variable {R} {n v k : Nat} {left : List (PF S)} {p q f : PF S}
theorem ElI.start (hw:∀f∈left,WfF n f) (h0:(left.filter (yh v))[0]? = some f):ElI R n left v 0 f:=by
 have hm:=List.mem_filter.1 (ui h0);have he:left.filter (yh v)=f :: (left.filter (yh v)).drop 1:=by
  cases h:left.filter (yh v) with
  |nil=>rw[h] at h0;cases h0
  |cons a l=>rw[h] at h0;injection h0 with h0;subst h0;rfl
 refine⟨hw f hm.1,by simpa [yh] using hm.2,fun x=>?_,fun u=>?_,fun μ _=>?_⟩
 ·show R.mul (den R f x) (yw R _ _)=yw R _ left;rw[zcQ R _ (yh v) left,zaE,←R.mul_assoc];conv=>rhs;rw[he]
  rfl
 ·rw[he];simp
 ·rw[zfz,←Nat.mul_assoc,zeK μ (yh v) left];conv=>rhs;rw[he]
  exact ug _
theorem ElI.next (h:ElI R n left v k p) (hn:n≤32) (hw:∀f∈left,WfF n f) (hk:(left.filter (yh v))[k+1]? = some f)
  (hq:IsP (zN (zr p.vars ||| zr f.vars)) (zbo R p f ((left.filter (yh v)).drop (k+2)++left.filter fun f=>!yh v f)) q):ElI R n left v (k+1) q:=by
 have hm:=List.mem_filter.1 (ui hk);have hf:=hw f hm.1;have hd:(left.filter (yh v)).drop (k+1)=f :: (left.filter (yh v)).drop (k+2):=by
  exact zqH
 have ho:∀o∈(left.filter (yh v)).drop (k+2)++left.filter fun f=>!yh v f,WfF n o:=fun o hom=>by
  rcases List.mem_append.1 hom with h1 | h1
  ·exact hw o (List.mem_filter.1 (List.mem_of_mem_drop h1)).1
  ·exact hw o (List.mem_filter.1 h1).1
 have hvs:∀u,u∈q.vars↔u∈p.vars∨u∈f.vars:=fun u=>by
  rw[hq.vars,mem_memF,Nat.testBit_or,yK,yK,Bool.or_eq_true,decide_eq_true_eq,decide_eq_true_eq];refine⟨fun h=>h.2,fun h2=>⟨?_,h2⟩⟩;rcases h2 with h2 | h2
  ·have:=h.wf.vars.2 u h2;omega
  ·have:=hf.vars.2 u h2;omega
 refine⟨hq.wf (zdD h.wf.vars hf.vars) (zgr R h.wf hf),(hvs v).2 (.inl h.mem),fun x=>?_,fun u=>?_,fun μ hμ=>?_⟩
 ·exact zqM
 ·rw[hvs,h.vs,List.take_add_one (i:=k+1),hk];simp only[uB,Option.toList_some,uD];constructor
  ·rintro(⟨g,h1,h2⟩ | h1)
   ·exact⟨g,.inl h1,h2⟩
   ·exact⟨f,.inr rfl,h1⟩
  ·rintro⟨g,h1 | rfl,h2⟩
   ·exact .inl ⟨g,h1,h2⟩
   ·exact .inr h2
 ·have h1:=h.mu μ hμ;rw[hd,List.cons_append,MfP,←Nat.mul_assoc] at h1;refine ud (uk _ ?_) h1;have h2:=zfA (R:=R) hμ h.wf.len hf.len ((left.filter (yh v)).drop (k+2)++left.filter fun f=>!yh v f);exact vt29
variable (R)
structure MgI (n:Nat) (out:Nat) (left:List (PF S)) (T:S):Prop where
 wf:∀f∈left,WfF n f
 lt:out<2 ^ n
 cov:∀v,out.testBit v=true↔∃f∈left,v∈f.vars
 few:∀f∈left,f.vars=[]→f.rows.length≤1
 tot:∀x,Ys R 4 (zN out) (YZ R left) x=T
variable {R}
theorem ElI.last (h:ElI R n left v k p) (hk:k+1=(left.filter (yh v)).length) (x:Nat→Nat):R.mul (den R p x) (YZ R (left.filter fun f=>!yh v f) x)=YZ R left x:=by
 have:=h.prd x;rwa [hk,List.drop_length,List.nil_append] at this
theorem zow {f:PF S} {x:Nat→Nat} {v d:Nat} (h:v∉f.vars):den R f (yG x v d)=den R f x:=by
 unfold den zar;have:ptF f.vars (yG x v d)=ptF f.vars x:=List.map_congr_left fun u hu=>by rw[zab x d (fun e=>h (by rw[←e];exact hu))]
 rw[this]
theorem MgI.next {out:Nat} {T:S} (hm:MgI R n out left T) (hn:n≤32) (hv:out.testBit v=true) (h:ElI R n left v k p) (hk:k+1=(left.filter (yh v)).length)
  (hq:IsP (p.vars.filter fun u=>decide (u≠v)) (Yh R p (yq p.vars v) p.rows.length) q) (hone:q.vars=[]→q.rows.length≤1) {out':Nat} (ho:∀u,out'.testBit u=(out.testBit u && decide (u≠v))) :
  MgI R n out' ((left.filter fun f=>!yh v f)++[q]) T∧∀μ,MuOk R μ→MfP μ ((left.filter fun f=>!yh v f)++[q])≤MfP μ left:=by
 have hqv:∀u,u∈q.vars↔u∈p.vars∧u≠v:=fun u=>by rw[hq.vars,List.mem_filter,decide_eq_true_eq]
 have hqw:WfF n q:=hq.wf ⟨h.wf.vars.1.filter _,fun u hu=>h.wf.vars.2 u (List.mem_filter.1 hu).1⟩ (zdE R h.wf v _ (ug _));have hv32:v<n:=by
  rcases Nat.lt_or_ge v n with h1 | h1
  ·exact h1
  ·rw[Nat.testBit_lt_two_pow (uj hm.lt (Nat.pow_le_pow_right jo h1))] at hv;cases hv
 refine⟨⟨fun f hf=>?_,?_,fun u=>?_,fun f hf=>?_,fun x=>?_⟩,fun μ hμ=>?_⟩
 ·rcases List.mem_append.1 hf with h1 | h1
  ·exact hm.wf f (List.mem_filter.1 h1).1
  ·rw[List.mem_singleton.1 h1];exact hqw
 ·apply Nat.lt_pow_two_of_testBit;intro i hi;rw[ho,Nat.testBit_lt_two_pow (uj hm.lt (Nat.pow_le_pow_right jo hi))];rfl
 ·rw[ho,Bool.and_eq_true,hm.cov,decide_eq_true_eq];constructor
  ·rintro⟨⟨f,h1,h2⟩,h3⟩;by_cases h4:yh v f=true
   ·refine⟨q,vz,(hqv u).2 ⟨(h.vs u).2 ⟨f,?_,h2⟩,h3⟩⟩;rw[hk,List.take_length];exact List.mem_filter.2 ⟨h1,h4⟩
   ·exact⟨f,List.mem_append_left _ (List.mem_filter.2 ⟨h1,by simpa using h4⟩),h2⟩
  ·rintro⟨f,h1,h2⟩;rcases List.mem_append.1 h1 with h1 | h1
   ·obtain⟨h3,h4⟩:=List.mem_filter.1 h1;refine⟨⟨f,h3,h2⟩,fun e=>?_⟩;subst e;simp[yh] at h4;exact h4 h2
   ·rw[List.mem_singleton.1 h1,hqv,h.vs] at h2;obtain⟨⟨g,h3,h4⟩,h5⟩:=h2;exact⟨⟨g,(List.mem_filter.1 (List.mem_of_mem_take h3)).1,h4⟩,h5⟩
 ·rcases List.mem_append.1 hf with h1 | h1
  ·exact hm.few f (List.mem_filter.1 h1).1
  ·rw[List.mem_singleton.1 h1];exact hone
 ·have hvm:v∈zN out:=mem_memF.2 ⟨jo,hv⟩;have hnd:(zN out).Nodup:=(YR out).imp fun h=>Nat.ne_of_lt h;have hperm:(zN out).Perm (v :: zN out'):=by
   have h1:zN out'=(zN out).erase v:=by
    exact vt57
   rw[h1];exact List.perm_cons_erase hvm
  rw[←hm.tot x,zj9 R hperm hnd,zeI R _ _ _ (fun hc=>by have:=(mem_memF.1 hc).2;rw[ho] at this;simp at this)];refine YH R (fun y=>?_) _ _;unfold YZ;rw[zaE];simp only[yw];rw[R.mul_one,hq.den,zov R h.wf h.mem,zgk];refine yz R fun d _=>?_;have h1:=h.last hk (yG y v d);unfold YZ at h1;rw[←h1,R.mul_comm];congr 1;exact zaY R fun f hf=>(zow (by have:=(List.mem_filter.1 hf).2;simpa [yh] using this)).symm
 ·have h1:=h.mu μ hμ;rw[hk,List.drop_length,List.nil_append] at h1;rw[zfz,MfP,MfP,Nat.mul_one,Nat.mul_comm];refine ud (uk _ ?_) h1;unfold Mf;have h2:=zfB hμ p (yq p.vars v) p.rows.length (by rw[h.wf.len];exact ug _);rw[←hq.smu μ,h.wf.len,List.take_length] at h2;omega
theorem zcq (f:PF S) (rest:List Nat):∀k,((Yh R f rest k).map (·.1)).Nodup
 |0=>by simp[Yh]
 |k+1=>zbg (zcq f rest k)
theorem IsP.count {P:List (List Int×S)} {f:PF S} (h:IsP V P f):f.rows.length=P.length:=by
 have:=h.prs.length_eq;unfold PF.prs at this;rw[List.length_zip,←h.len,Nat.min_self] at this;exact this
theorem zlR (hp:WfF n p) (hq:IsP (p.vars.filter fun u=>decide (u≠v)) (Yh R p (yq p.vars v) p.rows.length) q) (hz:q.vars=[]):q.rows.length≤1:=by
 have h1:=zcq (R:=R) p (yq p.vars v) p.rows.length;have h2:∀r∈(Yh R p (yq p.vars v) p.rows.length).map (·.1),r=[]:=by
  intro r hr;obtain⟨x,hx,rfl⟩:=List.mem_map.1 hr;have h3:=(zdE R hp v _ (ug _) x hx).1;rw[←hq.vars,hz] at h3;exact uo h3
 rw[hq.count];have h4:∀l:List (List Int),l.Nodup→(∀r∈l,r=[])→l.length≤1:=by
  intro l hn ha;rcases l with _ | ⟨a,_ | ⟨b,l⟩⟩
  ·simp
  ·simp
  ·rw[ha a vz,ha b vz] at hn;simp at hn
 have:=h4 _ h1 h2;simpa using this
structure FnI (R:CSr S) (n:Nat) (left:List (PF S)) (k:Nat) (p:PF S) (T:S):Prop where
 wf:WfF n p
 nil:p.vars=[]
 few:p.rows.length≤1
 prd:∀x,R.mul (den R p x) (YZ R (left.drop k) x)=T
 mu:∀μ,MuOk R μ→Mf μ p*MfP μ (left.drop k)≤μ R.one*MfP μ left
theorem FnI.start {T:S} (h:MgI R n 0 left T):FnI R n left 0 ⟨[],[[]],[R.one]⟩ T:=by
 refine⟨⟨rfl,⟨List.Pairwise.nil,fun v hv=>by cases hv⟩,fun r hr=>?_⟩,rfl,ug _,fun x=>?_,fun μ hμ=>?_⟩
 ·rw[uD] at hr;subst hr;exact⟨rfl,fun x hx=>by cases hx⟩
 ·have h1:=h.tot x;rw[show zN 0=[] by unfold zN;rw[List.filter_eq_nil_iff];simp] at h1;rw[←h1];have h2:den R ⟨[],[[]],[R.one]⟩ x=R.one:=by
   unfold den zar PF.prs;simp only[List.zip_cons_cons,List.zip_nil_right,ym];rw[zS R (show ([]:List Int)=ptF [] x from rfl),R.add_zero]
  rw[h2,R.one_mul];rfl
 ·have:=hμ.one R.one;refine Nat.mul_le_mul ?_ (ug _);unfold Mf smu;simp only[List.map_cons,List.map_nil,List.sum_cons,List.sum_nil];omega
theorem FnI.next {T:S} (h:FnI R n left k p T) (hn:n≤32) (hm:MgI R n 0 left T) (hk:left[k]? = some f)
  (hq:IsP (zN (zr p.vars ||| zr f.vars)) (zbo R p f (left.drop (k+1))) q):FnI R n left (k+1) q T:=by
 have hmem:=ui hk;have hf:=hm.wf f hmem;have hfz:f.vars=[]:=by
  rcases hv:f.vars with _ | ⟨u,l⟩
  ·rfl
  ·have:=(hm.cov u).2 ⟨f,hmem,by rw[hv];simp⟩;simp at this
 have hd:left.drop k=f :: left.drop (k+1):=by
  exact zqH
 have hz:zN (zr p.vars ||| zr f.vars)=[]:=by
  rw[h.nil,hfz];unfold zN zr;rw[List.filter_eq_nil_iff];simp
 have ho:∀o∈left.drop (k+1),WfF n o:=fun o hom=>hm.wf o (List.mem_of_mem_drop hom);refine⟨hq.wf (zdD h.wf.vars hf.vars) (zgr R h.wf hf),by rw[hq.vars,hz],?_,fun x=>?_,fun μ hμ=>?_⟩
 ·have h1:=zfA (R:=R) (μ:=fun _=>1) ⟨fun _=>ug _,fun _ _=>by omega,fun _ _=>by omega⟩ h.wf.len hf.len (left.drop (k+1));have h2:∀l:List S,smu (fun _=>1) l=l.length:=fun l=>by
   exact vt77
  rw[h2,h2,h2,uy,←h.wf.len,←hf.len] at h1;rw[hq.count];have h3:=hm.few f hmem hfz;have h4:=h.few;exact ud h1 (Nat.mul_le_mul h4 h3)
 ·exact zqM
 ·have h1:=h.mu μ hμ;rw[hd,MfP,←Nat.mul_assoc] at h1;refine ud (uk _ ?_) h1;have h2:=zfA (R:=R) hμ h.wf.len hf.len (left.drop (k+1));exact vt29
theorem FnI.last {T:S} (h:FnI R n left left.length p T):(p.vals=[]→T=R.zero)∧∀u l,p.vals=u :: l→T=u:=by
 have h1:den R p (fun _=>0)=T:=by
  rw[←h.prd (fun _=>0),List.drop_length];exact(R.mul_one _).symm
 constructor
 ·intro hv;rw[←h1];unfold den zar PF.prs;rw[hv,List.zip_nil_right];rfl
 ·intro u l hv;have h2:=h.few;have h3:=h.wf.len;rw[hv,List.length_cons] at h3;have h4:l=[]:=uo jo;subst h4;obtain⟨r,hr⟩:∃r,p.rows=[r]:=by
   rcases hp:p.rows with _ | ⟨a,_ | ⟨b,m⟩⟩
   ·rw[hp] at h3;simp at h3
   ·exact⟨a,rfl⟩
   ·rw[hp] at h2;simp at h2
  have h5:=(h.wf.row r (by rw[hr];simp)).1;rw[h.nil] at h5;have h6:r=[]:=uo h5;rw[←h1];show _=_;unfold den zar PF.prs;rw[hv,hr,h6,h.nil];simp only[List.zip_cons_cons,List.zip_nil_right,ym];rw[zS R (show ([]:List Int)=ptF [] (fun _=>0) from rfl),R.add_zero]
end
open Go.RowKit
def zbv (sp:List (Nat×(World→World→Prop))) (i:Nat):World→World→Prop:=(sp.lookup i).getD fun w w'=>Below w.heap.size w w'
def ObT (P:Program) (ops:Array Oper) (I:World→Prop) (E:Nat→World→Prop) (av:Nat→Bool) (env:List (Tmp×Value)) (R:List (Value→World→Prop)) (o:Oper) (ks:List (Nat×Tmp)) (Ri:Value→World→Prop) (T:World→World→Prop):Prop:=
 ∀(a:Act) (w:World),I w→(∀e,av e=true→E e w)→zY a env→YN R a w ks→
  if Region.wanted o (yielded ops a.tmps)=true then zp P o a.eval w (fun v w'=>Ri v w'∧T w w') else Ri undef w
def zfC (ops:Array Oper) (ek:List (Nat×Nat)) (i e:Nat):Bool:=ek.all fun p=>p.2 != e || p.1 == i || (zcZ ops p.1).contains i
def zlS (P:Program) (ops:Array Oper) (I:World→Prop) (E:Nat→World→Prop) (ek:List (Nat×Nat)) (env:List (Tmp×Value)) (R:List (Value→World→Prop)) (sp:List (Nat×(World→World→Prop))):Nat→List Oper→List (List (Nat×Tmp))→List (Value→World→Prop)→Prop
 |i,o :: l,ks :: r,Ri :: q=>ObT P ops I E (zfC ops ek i) env R o ks Ri (zbv sp i)∧zlS P ops I E ek env R sp (i+1) l r q
 |_,_,[],[]=>True
 |_,_,_,_=>False
theorem zgs {P:Program} {I:World→Prop} {E:Nat→World→Prop} {ek:List (Nat×Nat)} {env:List (Tmp×Value)} {sp:List (Nat×(World→World→Prop))}:∀(l:List Oper) (kss:List (List (Nat×Tmp))) (q:List (Value→World→Prop)) (n:Nat),zlS P ops I E ek env R sp n l kss q→
  ∀i o ks,l[i]? = some o→kss[i]? = some ks→ObT P ops I E (zfC ops ek (n+i)) env R o ks (q.getD i (fun _ _=>True)) (zbv sp (n+i))
 |o :: l,ks :: r,Ri :: q,n,⟨h1,h2⟩,0,o',ks',ho,hk=>by simp at ho hk;subst ho;subst hk;exact h1
 |o :: l,ks :: r,Ri :: q,n,⟨h1,h2⟩,i+1,o',ks',ho,hk=>by
  have:=zgs l r q (n+1) h2 i o' ks' vj9 (by simpa using hk)
  rw[show n+(i+1)=n+1+i by omega]
  simpa using this
 |_,[],_,_,_,i,o',ks',_,hk=>by simp at hk
 |[],_ :: _,_,_,h,_,_,_,ho,_=>by simp at ho
 |_ :: _,_ :: _,[],_,h,_,_,_,_,_=>by simp[zlS] at h
def ziZ (I:World→Prop) (T:World→World→Prop) (skip:Nat→Bool):Nat→List (Value→World→Prop)→Prop
 |_,[]=>True
 |k,Ri :: q=>(skip k=true∨∀v w w',I w→Ri v w→T w w'→Ri v w')∧ziZ I T skip (k+1) q
theorem zeL {I:World→Prop} {T:World→World→Prop} {skip:Nat→Bool}:∀ {R:List (Value→World→Prop)} {n:Nat},ziZ I T skip n R→∀i v w w',skip (n+i)=false→I w→zL R i v w→T w w'→zL R i v w'
 |[],_,_,i,v,w,w',_,_,_,_=>by simp[zL]
 |Ri :: q,n,⟨h1,h2⟩,0,v,w,w',hs,hi,h,hb=>by
  rcases h1 with h1 | h1
  ·rw[Nat.add_zero] at hs;rw[hs] at h1;cases h1
  ·simpa [zL] using h1 v w w' hi zlb hb
 |Ri :: q,n,⟨h1,h2⟩,i+1,v,w,w',hs,hi,h,hb=>by
  have:=zeL h2 i v w w' (by rw[show n+1+i=n+(i+1) by omega];exact hs) hi zlb hb
  simpa [zL] using this
def zlT (I:World→Prop) (E:Nat→World→Prop) (ek:List (Nat×Nat)) (R:List (Value→World→Prop)) (kl:List (Nat×Nat)):List (Nat×(World→World→Prop))→Prop
 |[]=>True
 |(s,T) :: r=>((∀w w',I w→T w w'→I w')∧(∀e w w',ek.contains (s,e)=false→I w→E e w→T w w'→E e w')∧ziZ I T (fun j=>j == s || kl.contains (s,j)) 0 R)∧zlT I E ek R kl r
theorem zgt {I:World→Prop} {E:Nat→World→Prop} {ek:List (Nat×Nat)} {kl:List (Nat×Nat)}:∀ {sp:List (Nat×(World→World→Prop))},zlT I E ek R kl sp→∀ {i:Nat} {T:World→World→Prop},sp.lookup i=some T→(∀w w',I w→T w w'→I w')∧(∀e w w',ek.contains (i,e)=false→I w→E e w→T w w'→E e w')∧ziZ I T (fun j=>j == i || kl.contains (i,j)) 0 R
 |[],_,i,T,h=>by cases h
 |(s,T') :: r,⟨h1,h2⟩,i,T,h=>by
  rw[List.lookup_cons] at h
  by_cases hs:i=s
  ·subst hs;simp at h;subst h;exact h1
  ·have:(i == s)=false:=by simp[hs]
   rw[this] at h
   exact zgt h2 h
def zlU (ops:Array Oper) (m:Nat) (kl:List (Nat×Nat)):Bool:=
 kl.all fun p=>decide (p.1<m) && ((zcZ ops p.2).contains p.1 || (List.range m).all fun i=>!((zJ ops m i).any fun k=>k.1 == p.2) || i == p.1 || (zcZ ops p.1).contains i)
def zlV (ops:Array Oper) (kl:List (Nat×Nat)) (i:Nat):Bool:=kl.all fun p=>p.2 != i || (zcZ ops i).contains p.1
theorem zf {P:Program} {I:World→Prop} {E:Nat→World→Prop} {av:Nat→Bool} {env:List (Tmp×Value)} {ks:List (Nat×Tmp)} {Ri:Value→World→Prop} {sp:List (Nat×(World→World→Prop))} (hl:(sp.lookup i).isNone=true)
  (h:∀(a:Act) (w:World),I w→(∀e,av e=true→E e w)→zY a env→YN R a w ks→if Region.wanted o (yielded ops a.tmps)=true then zp P o a.eval w (fun v w'=>Ri v w'∧Below w.heap.size w w') else Ri undef w):ObT P ops I E av env R o ks Ri (zbv sp i):=by
 have:zbv sp i=fun w w'=>Below w.heap.size w w':=by unfold zbv;rw[Option.isNone_iff_eq_none.1 hl];rfl
 rw[this];exact h
theorem yx {P:Program} {I:World→Prop} {E:Nat→World→Prop} {av:Nat→Bool} {env:List (Tmp×Value)} {ks:List (Nat×Tmp)} {Ri:Value→World→Prop} {sp:List (Nat×(World→World→Prop))} {T:World→World→Prop} (hl:sp.lookup i=some T) (hg:o.guard=none)
  (h:∀(a:Act) (w:World),I w→(∀e,av e=true→E e w)→zY a env→YN R a w ks→zp P o a.eval w (fun v w'=>Ri v w'∧T w w')):ObT P ops I E av env R o ks Ri (zbv sp i):=by
 have:zbv sp i=T:=by unfold zbv;rw[hl];rfl
 rw[this];exact fun a w hI hE he hd=>by rw[if_pos zn8];exact h a w hI hE he hd
section
variable {P : Program} {env : List (Tmp × Value)} {R : List (Value → World → Prop)} {m : Nat} {I : World → Prop} {sp : List (Nat × (World → World → Prop))} {kl ek : List (Nat × Nat)} {E : Nat → World → Prop}
theorem zhS (hIB:∀w w',I w→Below w.heap.size w w'→I w') (hEB:∀e w w',E e w→Below w.heap.size w w'→E e w') (hst:Stab R) (hsp:zlT I E ek R kl sp) (hi:I w) (ht:zbv sp i w w'):I w'∧(∀e,ek.contains (i,e)=false→E e w→E e w')∧∀j v,j≠i→kl.contains (i,j)=false→zL R j v w→zL R j v w':=by
 unfold zbv at ht;cases hl:sp.lookup i with
 |none=>
  rw[hl] at ht;exact⟨hIB w w' hi ht,fun e _ h=>hEB e w w' h ht,fun j v _ _ h=>stab_get hst j v w w' h ht⟩
 |some T=>
  rw[hl] at ht;obtain⟨h1,h3,h2⟩:=zgt hsp hl;exact⟨h1 w w' hi ht,fun e he h=>h3 e w w' he hi h ht,fun j v hj hk h=>zeL h2 j v w w' (by simp[hj];simpa using hk) hi h ht⟩
theorem zlW {l:List Oper} {sz:Nat} {kss:List (List (Nat×Tmp))} (hB:ZN l.toArray m sz kss (env.map (·.1)) []=true) (hK:zlU l.toArray m kl=true) (hsz:a0.tmps.size=sz) (henv:zY a0 env)
  (hIB:∀w w',I w→Below w.heap.size w w'→I w') (hEB:∀e w w',E e w→Below w.heap.size w w'→E e w') (hst:Stab R) (hsp:zlT I E ek R kl sp) (hob:zlS P l.toArray I E ek env R sp 0 l kss R)
  (fin:∀vs w,I w→(∀i,i<m→zlV l.toArray kl i=true→zL R i (vs i) w)→wpAnyH P .any l.toArray Q (fun _=>True) (l.length - m) (yF l.length m) (yI vs 0 (l.take m) a0) w) :
  ∀(fuel:Nat) (listed:Array Bool) (vs:Nat→Value) (w:World),listed.size=l.length→(∀j,m≤j→listed.getD j false=false)→(∀k,listed.getD k false=true→∀i∈Yz l.toArray k,listed.getD i false=true)→fuel=l.length - m+left (fun i=>listed.getD i false) m→I w→(∀e,(∀p∈ek,p.2=e→listed.getD p.1 false=false)→E e w)→
   (∀i,i<m→listed.getD i false=true→(∀p∈kl,p.2=i→listed.getD p.1 false=true→(zcZ l.toArray i).contains p.1=true)→zL R i (vs i) w)→wpAnyH P .any l.toArray Q (fun _=>True) fuel listed (yC l.toArray a0 vs (fun i=>listed.getD i false) m) w:=by
 simp only[ZN,Bool.and_eq_true,decide_eq_true_eq,List.all_eq_true,ux,List.size_toArray] at hB;obtain⟨⟨⟨⟨⟨⟨⟨hm,hns⟩,hts⟩,hdis⟩,hdep⟩,hkss⟩,hrest⟩,hfree⟩:=hB;have hkss:(List.range m).map (zJ l.toArray m)=kss:=by simpa using hkss
 have hdist:∀i j,i<m→j<m→j≠i→zX l.toArray i=none∨zX l.toArray i≠zX l.toArray j:=by
  exact zpQ
 have last:∀(fuel:Nat) (listed:Array Bool) (vs:Nat→Value) (w:World),listed.size=l.length→(∀j,m≤j→listed.getD j false=false)→fuel=l.length - m+left (fun i=>listed.getD i false) m→I w→
   (∀i,i<m→listed.getD i false=true→(∀p∈kl,p.2=i→listed.getD p.1 false=true→(zcZ l.toArray i).contains p.1=true)→zL R i (vs i) w)→left (fun i=>listed.getD i false) m=0→wpAnyH P .any l.toArray Q (fun _=>True) fuel listed (yC l.toArray a0 vs (fun i=>listed.getD i false) m) w:=by
  intro fuel listed vs w hls hj hf hI hR h0
  have hall:=zak m h0
  have e1:listed=yF l.length m:=by
   apply Array.ext
   ·simp[hls,yF];omega
   ·intro i h1 h2
    have h3:=Yp l.length m i false hm
    have h4:listed.getD i false=listed[i]:=by simp[h1]
    have h5:(yF l.length m).getD i false=(yF l.length m)[i]:=by simp[h2]
    rw[←h4,←h5,h3]
    by_cases hi:i<m
    ·rw[if_pos hi];exact hall i hi
    ·rw[if_neg hi,hj i jo];split <;> rfl
  have:=fin vs w hI (fun i hi hlive=>hR i hi (hall i hi) (fun p hp hpi _=>by
   simp only[zlV,List.all_eq_true,Bool.or_eq_true,bne_iff_ne] at hlive
   exact(hlive p hp).resolve_left (fun h=>h hpi)))
  rw[show l.length - m=fuel by omega] at this
  rw[e1]
  rw[zaj (vs':=vs) (L':=fun _=>true) a0 m (fun i hi=>⟨zs3,fun _=>rfl⟩),zdq l a0 vs m hm]
  exact this
 intro fuel;induction fuel with
 |zero=>
  intro listed vs w hls hj hcl hf hI hEx hR;exact last 0 listed vs w hls hj hf hI hR jo
 |succ fuel ih=>
  intro listed vs w hls hj hcl hf hI hEx hR;by_cases h0:left (fun i=>listed.getD i false) m=0
  ·exact last (fuel+1) listed vs w hls hj hf hI hR h0
  ·obtain⟨q,hq,hql,hqb⟩:=zbV m h0;have hqget:l.toArray[q]? = some l[q]:=by simp[show q<l.length by omega]
   have hqr:q∈Region.ready .any l.toArray listed:=by
    exact zsH
   refine⟨fun hnil=>(by rw[hnil] at hqr;cases hqr),fun i hi=>?_⟩;obtain⟨hun,o,ho,hall⟩:=mem_ready.1 hi;have hil:i<listed.size:=by
    exact znM
   have hun':listed.getD i false=false:=by simpa [hil] using hun
   have him:i<m:=by
    rcases Nat.lt_or_ge i m with h | h
    ·exact h
    ·exfalso;have h1:=hrest (i - m) jo q hq;simp only[Bool.or_eq_true,List.contains_iff_mem,List.not_mem_nil,false_or] at h1;rw[show m+(i - m)=i by omega] at h1;have h2:=zbS (fun k=>listed.getD k false=true) (zai ho hall) hcl q h1;rw[hql] at h2;cases h2
   have hdo:zX l.toArray i=o.dst:=by simp only[zX,ho];rfl
   have hanc:∀k,listed.getD k false=true→∀x∈zcZ l.toArray k,listed.getD x false=true:=fun k hk=>zbS (fun k=>listed.getD k false=true) (hcl k hk) hcl;have hmem:∀k∈zJ l.toArray m i,k.1<m∧zX l.toArray k.1=some k.2∧listed.getD k.1 false=true:=by
    intro k hk;have h1:=hdep i him;rw[ho] at h1;simp only[Bool.and_eq_true,List.all_eq_true] at h1;have h2:=h1.2 k hk;rw[Array.any_eq_true'] at h2;obtain⟨e,he,h3⟩:=h2;simp only[Bool.and_eq_true,beq_iff_eq] at h3;have h4:=hall e he h3.1;rw[h3.2] at h4;simp only[zJ,ho,List.mem_filterMap,ux] at hk;obtain⟨x,hx,hx2⟩:=hk;cases hd:zX l.toArray x with
    |none=>rw[hd] at hx2;cases hx2
    |some t=>
     rw[hd] at hx2;simp only at hx2;split at hx2
     ·injection hx2 with hx2;subst hx2;exact⟨hx,hd,h4⟩
     ·cases hx2
   have hE:zY (yC l.toArray a0 vs (fun i=>listed.getD i false) m) env:=YB (fun t ht=>zcl a0 m (fun j hj' hd=>by
     have:=hts j hj'
     rw[hd] at this
     simp only[Bool.and_eq_true,Bool.not_eq_true',←Bool.not_eq_true,List.contains_iff_mem] at this
     exact this.2 ht)) henv
   have hD:YN R (yC l.toArray a0 vs (fun i=>listed.getD i false) m) w (zJ l.toArray m i):=zbT _ (fun k hk=>by
     obtain⟨h1,h2,h3⟩:=hmem k hk
     have ht:=hts k.1 h1
     rw[h2] at ht
     simp only[Bool.and_eq_true,decide_eq_true_eq] at ht
     rw[zdo (vs:=vs) a0 m h1 h2 h3 zn5 (fun j hj' hjk hd=>by
      rcases hdist k.1 j h1 hj' hjk with h | h
      ·rw[h2] at h;cases h
      ·exact h (by rw[h2,hd]))]
     refine hR _ h1 h3 (fun p hp hpk hpl=>?_)
     simp only[zlU,List.all_eq_true,Bool.and_eq_true,Bool.or_eq_true,ux,decide_eq_true_eq,beq_iff_eq,Bool.not_eq_true'] at hK
     rcases(hK p hp).2 with h | h
     ·rw[←hpk];exact h
     ·exfalso
      rcases h i him with (h | h) | h
      ·have:((zJ l.toArray m i).any fun k=>k.1 == p.2)=true:=List.any_eq_true.2 ⟨k,hk,by simp[hpk]⟩
       rw[this] at h;cases h
      ·rw[h,hpl] at hun';cases hun'
      ·have:=hanc p.1 hpl i zej
       rw[hun'] at this;cases this)
   have hAv:∀e,zfC l.toArray ek i e=true→E e w:=fun e he=>hEx e (fun p hp hpe=>by
    simp only[zfC,List.all_eq_true,Bool.or_eq_true,bne_iff_ne,beq_iff_eq,List.contains_iff_mem] at he
    rcases he p hp with (h | h) | h
    ·exact absurd hpe h
    ·rw[h];exact hun'
    ·cases hl:listed.getD p.1 false with
     |false=>rfl
     |true=>have:=hanc p.1 hl i h;rw[hun'] at this;cases this)
   have next:∀v w',zL R i v w'→I w'→(∀e,ek.contains (i,e)=false→E e w→E e w')→(∀j u,j≠i→kl.contains (i,j)=false→zL R j u w→zL R j u w')→wpAnyH P .any l.toArray Q (fun _=>True) fuel (listed.setIfInBounds i true) ((yC l.toArray a0 vs (fun i=>listed.getD i false) m).put o.dst v) w':=by
    intro v w' hv hI' hEk hkeep;have hsame:∀j,j≠i→(listed.setIfInBounds i true).getD j false=listed.getD j false:=by
     intro j hji;simp only[Array.getD_eq_getD_getElem?];rw[Array.getElem?_setIfInBounds_ne (Ne.symm hji)]
    have hself:(listed.setIfInBounds i true).getD i false=true:=by simp[hil]
    have h1:=ih (listed.setIfInBounds i true) (upd vs i v) w' (by simp[hls]) (fun j hj'=>by
     rw[hsame j jo];exact hj j hj') (fun k hk=>by
      by_cases hki:k=i
      ·subst hki
       intro x hx
       have hx':=zai ho (L:=fun x=>listed.getD x false=true) hall x hx
       by_cases hxi:x=k
       ·subst hxi;rw[hun'] at hx';cases hx'
       ·rw[hsame x hxi];exact hx'
      ·intro x hx
       have hx':=hcl k (by rw[←hsame k hki];exact hk) x hx
       by_cases hxi:x=i
       ·subst hxi;rw[hun'] at hx';cases hx'
       ·rw[hsame x hxi];exact hx') (by rw[Zb _ _ hil];have:=zbU (L:=fun i=>listed.getD i false) m him hun';omega) hI' (fun e he=>hEk e (by
      cases hc:ek.contains (i,e) with
      |false=>rfl
      |true=>have:=he (i,e) (by simpa using hc) rfl;rw[hself] at this;cases this) (hEx e (fun p hp hpe=>by
       by_cases hpi:p.1=i
       ·rw[hpi];exact hun'
       ·rw[←hsame _ hpi];exact he p hp hpe))) (fun j hj' hjl hjd=>by
      by_cases hji:j=i
      ·subst hji;rw[yT];exact hv
      ·rw[yU _ _ hji]
       rw[hsame j hji] at hjl
       refine hkeep j _ hji ?_ (hR j hj' hjl (fun p hp hpj hpl=>?_))
       ·cases hc:kl.contains (i,j) with
        |false=>rfl
        |true=>
         exfalso
         have:=hjd (i,j) (by simpa using hc) rfl hself
         have:=hanc j hjl i (by simpa using this)
         rw[hun'] at this;cases this
       ·refine hjd p hp hpj ?_
        by_cases hpi:p.1=i
        ·rw[hpi];exact hself
        ·rw[hsame _ hpi];exact hpl)
    rw[Zb _ _ hil,zdn a0 v m him hun' (fun j hj' hji=>hdist i j him hj' hji),hdo] at h1;exact h1
   have hOb:=zgs l kss R 0 hob i o (zJ l.toArray m i) vj9 (by rw[←hkss];simp[him]) (yC l.toArray a0 vs (fun i=>listed.getD i false) m) w hI (by rw[Nat.zero_add];exact hAv) hE hD;rw[Nat.zero_add] at hOb;unfold wpOp;simp only[ho];by_cases hw:Region.wanted o (yielded l.toArray (yC l.toArray a0 vs (fun i=>listed.getD i false) m).tmps)=true
   ·rw[if_pos hw] at hOb ⊢;exact .inl (zx hOb (fun v w' ⟨h1,h2⟩=>by
     obtain⟨k1,k3,k2⟩:=zhS hIB hEB hst hsp hI h2
     exact⟨trivial,next v w' h1 k1 k3 k2⟩))
   ·rw[if_neg hw] at hOb ⊢;exact⟨trivial,next _ _ hOb hI (fun e _ h=>h) (fun j u _ _ h=>h)⟩
theorem yn {id:Nat} {l:List Oper} {kss:List (List (Nat×Tmp))} (I:World→Prop) (E:Nat→World→Prop) (env:List (Tmp×Value)) (R:List (Value→World→Prop)) (m:Nat) (sp:List (Nat×(World→World→Prop))) (kl ek:List (Nat×Nat)) (hm:P.follows .mixedOrders=true) (hB:ZN l.toArray m a0.tmps.size kss (env.map (·.1)) []=true) (hK:zlU l.toArray m kl=true) (henv:zY a0 env)
  (hI:I w) (hE:∀e,E e w) (hIB:∀w w',I w→Below w.heap.size w w'→I w') (hEB:∀e w w',E e w→Below w.heap.size w w'→E e w') (hst:Stab R) (hsp:zlT I E ek R kl sp) (hob:zlS P l.toArray I E ek env R sp 0 l kss R)
  (fin:∀vs w',I w'→(∀i,i<m→zlV l.toArray kl i=true→zL R i (vs i) w')→wpAny P .any l.toArray (zj0 Q) (l.length - m) (yF l.length m) (yI vs 0 (l.take m) a0) w'):(Code.region id l.toArray true).wp P Q a0 w:=by
 refine Code.wp_mono (Q:=zj0 Q) (fun e a w h=>by cases e <;> first | exact h | exact h.elim) ?_;refine wp_region_held (S:=fun _=>True) hm ?_;have h0:∀j b,(Array.replicate l.toArray.size false).getD j b=if j<l.length then false else b:=by
  exact zsL
 have hml:m≤l.length:=by
  exact zsN
 have hl0:(fun i=>(Array.replicate l.toArray.size false).getD i false)=fun _=>false:=by funext j;rw[h0];split <;> rfl
 have hst0:∀m,yC l.toArray a0 (fun _=>undef) (fun _=>false) m=a0:=by
  exact zhr
 have hlf:∀m,left (fun _=>false) m=m:=by
  exact zjM
 have:=zlW (P:=P) (Q:=zj0 Q) hB hK rfl henv hIB hEB hst hsp hob (fun vs w' h1 h2=>Zn _ _ _ _ (fin vs w' h1 h2)) l.toArray.size (Array.replicate l.toArray.size false) (fun _=>undef) {w with drawn:=w.drawn+1} vz (fun j _=>by rw[h0];split <;> rfl) (fun k hk=>by rw[h0] at hk;split at hk <;> cases hk)
  (by rw[hl0,hlf];simp;omega) (hIB _ _ hI (Below.drew (ue _ _))) (fun e _=>hEB e _ _ (hE e) (Below.drew (ue _ _))) (fun i _ h=>by rw[h0] at h;split at h <;> cases h)
 rw[hl0,hst0] at this;exact this
end
section
variable {P : Program} {o : Oper} {a : Act} {w : World} {t u : Tmp} {T e : TypeId}
theorem Yb {s x:Operand} (ho:o.op = .call {callee:= .builtin .append,args:=#[s,x],argTypes:=#[T,T]}) (hu:zbn P T e k=true) (hz:zgg P e k=true)
  (base:Nat) (v:Value) (n:Nat) (xs:List Value) (hs:a.eval s=v) (hown:OwnC w base e k v n xs) (g:Nat) (cs:Array Value) (hx:a.eval x = .slice (some ⟨g,0,none⟩) 1 1) (hb:Blk w g e cs) (hcs:cs.size=k) (hok:cs.toList.all okC=true)
  (hn:n≤600000000000) (hbase:base≤w.heap.size) :
  zp P o a.eval w (fun v' w'=>OwnC w' base e k v' (n+1) (xs++cs.toList)∧w.grownBy w' v.ownBlock∧(v'.ownBlock=v.ownBlock∨v'.ownBlock=some w.heap.size)∧KeepsN w w'):=by
 obtain⟨hu,-⟩:=yP hu;obtain⟨i,z,hi,hz,hs1,hby,hzs,hk0,hzc⟩:=ZG hz;rw[List.all_eq_true] at hok;have hr:Reads w w.heap.size k (some ⟨g,0,none⟩) 1 cs.toList:=⟨by simp[hcs],fun _=>⟨_,rfl,hb.lt,fun j u hu=>by
  rw[yy,hb.cell];simpa using hu⟩⟩
 obtain⟨v',w',hrun,h2,h3,h4,h5,h6⟩:=zal (P:=P) w base T o.type e i z k i.bytes hu hi hz hs1 rfl hzs hk0 v n xs hown.own hown.cl (fun u hu=>zby (hzc u hu)) w.heap.size _ 1 1 _ hr (fun u hu=>YP (hok u hu)) (fun u hu=>zby (hok u hu)) hown.xs zcK (ud (Nat.mul_le_mul_left _ hby) jo) hbase;unfold zp execOp;refine vs2 ?_;exact⟨⟨h2,h5⟩,h3,h4,h6⟩
theorem Yt {g off:Nat} {ty:TypeId} {v:Value} (ho:o.op = .store T (.tmp t) (.tmp u)) (hi:zbz P T 1=true) (ht:tv a t = .pointer (some ⟨g,off,none⟩)) (hu:tv a u=v) (hv:okC v=true)
  (hb:Blk w g ty cs) (hl:off<cs.size) (hc:∀x,cs[off]?≠some (.int .u32 x)) :
  zp P o a.eval w (fun _ w'=>KeepsN w w'∧w.grownBy w' (some g)∧w'.heap.size=w.heap.size∧Blk w' g ty (cs.setIfInBounds off v)):=by
 obtain⟨i,hi,hsz⟩:=Zd hi;have h1:=YP hv;have hcells:v.cells=#[v]:=by cases v <;> first | rfl | cases hv
 have hcell:w.cell? ⟨g,off,none⟩=some cs[off]:=by rw[hb.cell];exact Array.getElem?_eq_getElem hl
 have hr:(storeVar T ⟨g,off,none⟩ v).run P w = .ok () (w.setCell ⟨g,off,none⟩ v):=by
  have h0:(⟨g,off,none⟩:Addr).add 0=⟨g,off,none⟩:=by unfold Addr.add;simp
  simp[storeVar,sizeOf,typeInfo,hi,hsz,hcells,storeCells,h0,run_store P w ⟨g,off,none⟩ v _ h1,hcell,hb.frozen off,Result.andThen]
 unfold zp execOp;rw[ho];simp only[zK,ht,hu,Instr.storeAt,Instr.sureAddr,Sem.run_bind,Sem.run_pure,Result.andThen_ok,hr];exact⟨KeepsN.blk hb hl hc v,YM (World.grownBy.refl w (some g)) (.inl rfl) v,Yo _ _ _,hb.set_ off v⟩
end
theorem OwnC.kd {T:List TypeId} {v:Value} {xs:List Value} (h:OwnC w base e k v n xs) (kd:KD T w w') (he:T.contains e=true):OwnC w' base e k v n xs:=by
 have he:=List.contains_iff_mem.1 he;refine⟨⟨h.own.1,?_⟩,?_⟩
 ·rcases h.own.2 with h0 | ⟨g,cap,cur,e1,hbg,hg,h1,h2,h3,h4⟩
  ·exact .inl h0
  ·exact .inr ⟨g,cap,cur,e1,hbg,kd.b e he _ _ hg,h1,h2,h3,h4⟩
 ·rcases h.own.2 with ⟨rfl,rfl⟩ | ⟨g,cap,cur,rfl,hbg,hg,h1,h2,h3,h4⟩
  ·intro g hg;cases hg
  ·intro g' hg' i x hx;simp only[Value.ownBlock,Option.some.injEq] at hg';subst hg';have hg2:Blk w' g e cur:=kd.b e he _ _ hg;have hg3:Blk w g e cur:=hg;rw[hg2.cell] at hx;exact h.cl g rfl i x (by rw[hg3.cell];exact hx)
theorem adz (ad:Addr):ad.add 0=ad:=by unfold Addr.add;simp
theorem OwnC.ok {v:Value} {xs:List Value} (h:OwnC w base e k v n xs):okC v=true:=by
 obtain⟨A,c,rfl⟩:=zF h.own;rfl
theorem Yk {v:Value} (h:okC v=true) (hi:cs[i]? = some v) (x:Int):cs[i]?≠some (.int .u32 x):=by
 rw[hi];intro e;injection e with e;subst e;cases h
structure PuI (B:Nat) (T:List TypeId) (wr w:World):Prop where
 low:B≤wr.heap.size
 b:Below B wr w
 k:KD T wr w
 mp:∀g M,MpK wr g M→MpK w g M
def PuE (B:Nat) (e:TypeId) (k:Nat) (sv:Value) (n:Nat) (cl:List Value) (g:Nat) (tF:TypeId) (cs:Array Value):Nat→World→Prop
 |0,w=>OwnC w B e k sv n cl
 |1,w=>Blk w g tF cs
 |_,_=>True
def PuA (B:Nat) (e:TypeId) (k:Nat) (sv:Value) (n:Nat) (cl:List Value) (w w':World):Prop:=OwnC w B e k sv n cl∧w.grownBy w' sv.ownBlock∧KeepsN w w'
def PuS (g:Nat) (tF:TypeId) (cs:Array Value) (w w':World):Prop:=Blk w g tF cs∧w.grownBy w' (some g)∧KeepsN w w'
section
variable {B k n g : Nat} {T : List TypeId} {wr w w' : World} {e tF : TypeId} {sv : Value} {cl : List Value} {cs : Array Value}
theorem PuI.start (h:B≤wr.heap.size):PuI B T wr wr:=⟨h,ue _ _,KD.refl _ _,fun _ _ h=>h⟩
theorem PuI.size (h:PuI B T wr w):B≤w.heap.size:=ud h.low h.b.size
theorem PuI.below (h:PuI B T wr w) (hb:Below w.heap.size w w'):PuI B T wr w':=⟨h.low,h.b.trans (hb.mono h.size),h.k.trans (KD.below hb),fun g M hm=>(h.mp g M hm).keep hb⟩
theorem PuA.kd (h:PuA B e k sv n cl w w') (hne:T.contains e=false):KD T w w':=KD.own h.1.own h.2.1 h.2.2 hne
theorem PuS.kd (h:PuS g tF cs w w') (hne:T.contains tF=false):KD T w w':=KD.blk h.1 h.2.1 h.2.2 hne
theorem PuI.app (h:PuI B T wr w) (ht:PuA B e k sv n cl w w') (hne:T.contains e=false):PuI B T wr w':=
 ⟨h.low,Below.appended h.b ht.1.own ht.2.1 h.size (ug _),h.k.trans (ht.kd hne),fun g M hm=>(h.mp g M hm).grown ht.2.1 ((h.mp g M hm).ne_own ht.1.own)⟩
theorem PuI.sto (h:PuI B T wr w) (ht:PuS g tF cs w w') (hne:T.contains tF=false) (hg:B≤g):PuI B T wr w':=
 ⟨h.low,h.b.grown ht.2.1 h.size (fun k e=>by cases e;exact hg),h.k.trans (ht.kd hne),fun g' M hm=>(h.mp g' M hm).grown ht.2.1 (fun e=>by injection e with e;exact MpK.ne (h.mp g' M hm) ht.1 e.symm)⟩
theorem PuE.below:∀(i:Nat) (w w':World),PuE B e k sv n cl g tF cs i w→Below w.heap.size w w'→PuE B e k sv n cl g tF cs i w'
 |0,_,_,h,hb=>OwnC.below h hb
 |1,_,_,h,hb=>Blk.keep h hb
 |_+2,_,_,_,_=>trivial
theorem PuE.app {l:List (Nat×Nat)} {I:World→Prop} (hne:e≠tF) (h0:l.contains (s,0)=true):∀(i:Nat) (w w':World),l.contains (s,i)=false→I w→PuE B e k sv n cl g tF cs i w→PuA B e k sv n cl w w'→PuE B e k sv n cl g tF cs i w'
 |0,_,_,h,_,_,_=>by rw[h0] at h;cases h
 |1,_,_,_,_,h,ht=>(ht.kd (T:=[tF]) (by simp[hne])).b tF vz _ _ h
 |_+2,_,_,_,_,_,_=>trivial
theorem PuE.sto {l:List (Nat×Nat)} {I:World→Prop} (hne:e≠tF) (h1:l.contains (s,1)=true):∀(i:Nat) (w w':World),l.contains (s,i)=false→I w→PuE B e k sv n cl g tF cs i w→PuS g tF cs w w'→PuE B e k sv n cl g tF cs i w'
 |0,_,_,_,_,h,ht=>OwnC.blk h ht.1 hne ht.2.1
 |1,_,_,h,_,_,_=>by rw[h1] at h;cases h
 |_+2,_,_,_,_,_,_=>trivial
theorem PuE.all (ho:OwnC w B e k sv n cl) (hb:Blk w g tF cs):∀i,PuE B e k sv n cl g tF cs i w
 |0=>ho
 |1=>hb
 |_+2=>trivial
end
def RowC (w:World) (c:List Value) (r:List Int):Prop:=∃u,c=[u]∧RowV w u r
theorem RowC.kd {T:List TypeId} (h:RowC w c r) (k:KD T w w') (ht:T.contains 89=true):RowC w' c r:=by
 obtain⟨u,e,h⟩:=h;exact⟨u,e,h.kd k ht⟩
theorem RowC.below (h:RowC w c r) (k:Below w.heap.size w w'):RowC w' c r:=h.kd (T:=[89]) (KD.below k) rfl
theorem RowV.ok {v:Value} (h:RowV w v r):okC v=true:=by obtain⟨A,n,c,rfl,_⟩:=h;rfl
def SlsV {S:Type} (e:TypeId) (k:Nat) (R:World→List Value→S→Prop) (w:World) (v:Value) (xs:List S):Prop:=∃A n c,v = .slice A n c∧n≤c∧LsV e k R w A n xs∧n≤5000000
def OwnL {S:Type} (e:TypeId) (k:Nat) (R:World→List Value→S→Prop) (w:World) (B:Nat) (v:Value) (xs:List S):Prop:=∃cl:List (List Value),(∀c∈cl,c.length=k)∧OwnC w B e k v xs.length cl.flatten∧All2 (R w) cl xs
section
variable {S : Type} {e : TypeId} {k : Nat} {R : World → List Value → S → Prop} {w w' : World} {v : Value} {xs : List S} {B : Nat} {T : List TypeId}
theorem SlsV.kd (h:SlsV e k R w v xs) (kd:KD T w w') (ht:T.contains e=true) (hR:∀c x,R w c x→R w' c x):SlsV e k R w' v xs:=by
 obtain⟨A,n,c,e1,h1,h2,h3⟩:=h;exact⟨A,n,c,e1,h1,h2.kd kd (List.contains_iff_mem.1 ht) hR,h3⟩
theorem SlsV.below (h:SlsV e k R w v xs) (hb:Below w.heap.size w w') (hR:∀c x,R w c x→R w' c x):SlsV e k R w' v xs:=h.kd (T:=[e]) (KD.below hb) vz hR
theorem SlsV.form (h:SlsV e k R w v xs):∃A c,v = .slice A xs.length c∧xs.length≤c∧LsV e k R w A xs.length xs∧xs.length≤5000000:=by
 obtain⟨A,n,c,e1,h1,h2,h3⟩:=h;have:=h2.len;subst this;exact⟨A,c,e1,h1,h2,h3⟩
theorem OwnL.nil (w:World) (B:Nat):OwnL e k R w B (.slice none 0 0) ([]:List S):=⟨[],vz,OwnC.nil _ _ _ _,uC⟩
theorem OwnL.kd (h:OwnL e k R w B v xs) (kd:KD T w w') (ht:T.contains e=true) (hR:∀c x,R w c x→R w' c x):OwnL e k R w' B v xs:=by
 obtain⟨cl,h1,h2,h3⟩:=h;exact⟨cl,h1,h2.kd kd ht,h3.mono hR⟩
theorem OwnL.below (h:OwnL e k R w B v xs) (hb:Below w.heap.size w w') (hR:∀c x,R w c x→R w' c x):OwnL e k R w' B v xs:=h.kd (T:=[e]) (KD.below hb) vz hR
theorem OwnL.mono (h:OwnL e k R w B v xs) {R':World→List Value→S→Prop} (hR:∀c x,R w c x→R' w c x):OwnL e k R' w B v xs:=by
 obtain⟨cl,h1,h2,h3⟩:=h;exact⟨cl,h1,h2,h3.mono hR⟩
theorem OwnL.push {cl:List (List Value)} {cs:List Value} {x:S} (h1:∀c∈cl,c.length=k) (h3:All2 (R w) cl xs) (ho:OwnC w' B e k v (xs.length+1) (cl.flatten++cs)) (hc:cs.length=k) (hR:∀c x,R w c x→R w' c x) (hx:R w' cs x):OwnL e k R w' B v (xs++[x]):=
 ⟨cl++[cs],fun c hm=>by
  rcases List.mem_append.1 hm with h | h
  ·exact h1 c h
  ·rw[List.mem_singleton.1 h];exact hc,by rw[ul,List.flatten_append];simpa using ho,(h3.mono hR).snoc hx⟩
theorem OwnL.sls (h:OwnL e k R w B v xs) (hn:xs.length≤5000000):SlsV e k R w v xs:=by
 obtain⟨cl,h1,h2,h3⟩:=h;obtain⟨A,c,rfl⟩:=zF h2.own;have hc:xs.length≤c:=by
  rcases h2.own.2 with ⟨e1,h0⟩ | ⟨g,cap,cur,e1,_,_,h1,_⟩
  ·injection e1 with _ h2 h3;omega
  ·injection e1 with _ h2 h3;omega
 exact⟨A,xs.length,c,rfl,hc,⟨cl,rfl,h1,RdT.of_own h2.own,h3⟩,hn⟩
theorem SlsV.at_ (h:SlsV e k R w v xs) {x:S} (hi:xs[i]? = some x):∃ad c cs,v = .slice (some ad) xs.length c∧cs.length=k∧(∀j u,cs[j]? = some u→w.cell? ((Addr.add ad (i*k)).add j)=some u)∧R w cs x:=by
 obtain⟨A,c,rfl,-,h2,-⟩:=h.form;obtain⟨ad,cs,rfl,h3,h4,h5⟩:=h2.at_ hi;exact⟨ad,c,cs,rfl,h3,fun j u hu=>by rw[Addr.add_add];exact h4 j u hu,h5⟩
theorem SlsV.atA {A:Option Addr} {c:Nat} (h:SlsV e k R w (.slice A n c) xs) {x:S} (hi:xs[i]? = some x):∃ad cs,A=some ad∧cs.length=k∧(∀j u,cs[j]? = some u→w.cell? ((Addr.add ad (i*k)).add j)=some u)∧R w cs x:=by
 obtain⟨ad,c1,cs,e1,h1,h2,h3⟩:=h.at_ hi;injection e1 with e1;exact⟨ad,cs,e1,h1,h2,h3⟩
theorem OwnL.len (h:OwnL e k R w B v xs):okC v=true:=by obtain⟨_,_,h2,_⟩:=h;exact h2.ok
end
abbrev RowsV (w:World) (v:Value) (rs:List (List Int)):Prop:=SlsV 87 1 RowC w v rs
theorem RowsV.kd {T:List TypeId} {v:Value} (h:RowsV w v rs) (k:KD T w w') (h1:T.contains 87=true) (h2:T.contains 89=true):RowsV w' v rs:=SlsV.kd h k h1 fun _ _ h=>h.kd k h2
theorem RowsV.below {v:Value} (h:RowsV w v rs) (k:Below w.heap.size w w'):RowsV w' v rs:=SlsV.below h k fun _ _ h=>h.below k
def FacG {S:Type} (e:TypeId) (k:Nat) (R:World→List Value→S→Prop) (w:World) (cs:List Value) (f:PF S):Prop:=∃a b c,cs=[a,b,c]∧IntsV w a f.vars∧RowsV w b f.rows∧SlsV e k R w c f.vals
section
variable {S : Type} {e : TypeId} {k : Nat} {R : World → List Value → S → Prop} {w w' : World} {v : Value} {xs : List S} {B : Nat} {T : List TypeId} {cs : List Value} {f : PF S}
theorem FacG.kd (h:FacG e k R w cs f) (kd:KD T w w') (h0:T.contains 3=true) (h1:T.contains 87=true) (h2:T.contains 89=true) (h3:T.contains e=true) (hR:∀c x,R w c x→R w' c x):FacG e k R w' cs f:=by
 obtain⟨a,b,c,e1,g1,g2,g3⟩:=h;exact⟨a,b,c,e1,g1.kd kd h0,RowsV.kd g2 kd h1 h2,g3.kd kd h3 hR⟩
theorem FacG.below (h:FacG e k R w cs f) (hb:Below w.heap.size w w') (hR:∀c x,R w c x→R w' c x):FacG e k R w' cs f:=by
 obtain⟨a,b,c,e1,g1,g2,g3⟩:=h;exact⟨a,b,c,e1,g1.below hb,RowsV.below g2 hb,g3.below hb hR⟩
end
abbrev WS:=(Nat→Prop)→Prop
def wSr:CSr WS where
 zero:=fun _=>False
 one:=fun s=>s=fun _=>False
 add:=fun P Q s=>P s∨Q s
 mul:=fun P Q s=>∃a b,P a∧Q b∧s=fun k=>a k∨b k
 add_assoc:=fun a b c=>by funext s;exact propext or_assoc
 add_comm:=fun a b=>by funext s;exact propext or_comm
 zero_add:=fun a=>by funext s;simp
 mul_assoc:=fun P Q T=>by
  funext s
  apply propext
  constructor
  ·rintro⟨ab,c,⟨a,b,ha,hb,rfl⟩,hc,rfl⟩
   exact⟨a,fun k=>b k∨c k,ha,⟨b,c,hb,hc,rfl⟩,by funext k;exact propext or_assoc⟩
  ·rintro⟨a,bc,ha,⟨b,c,hb,hc,rfl⟩,rfl⟩
   exact⟨fun k=>a k∨b k,c,⟨a,b,ha,hb,rfl⟩,hc,by funext k;exact propext or_assoc.symm⟩
 mul_comm:=fun P Q=>by
  funext s
  apply propext
  constructor
  ·rintro⟨a,b,ha,hb,rfl⟩;exact⟨b,a,hb,ha,by funext k;exact propext or_comm⟩
  ·rintro⟨a,b,ha,hb,rfl⟩;exact⟨b,a,hb,ha,by funext k;exact propext or_comm⟩
 one_mul:=fun P=>by
  funext s
  apply propext
  constructor
  ·rintro⟨a,b,rfl,hb,rfl⟩
   have:(fun k=>False∨b k)=b:=by funext k;simp
   rw[this];exact hb
  ·intro h;exact⟨_,s,rfl,h,by funext k;simp⟩
 zero_mul:=fun P=>by funext s;simp
 mul_add:=fun P Q T=>by
  funext s
  apply propext
  constructor
  ·rintro⟨a,b,ha,hb | hb,rfl⟩
   ·exact .inl ⟨a,b,ha,hb,rfl⟩
   ·exact .inr ⟨a,b,ha,hb,rfl⟩
  ·rintro(⟨a,b,ha,hb,rfl⟩ | ⟨a,b,ha,hb,rfl⟩)
   ·exact⟨a,b,ha,.inl hb,rfl⟩
   ·exact⟨a,b,ha,.inr hb,rfl⟩
def YV (l:List Nat):Nat→Prop:=fun k=>k∈l
def RepW (P:WS) (L:List (List Nat)):Prop:=∀s,P s↔∃l∈L,s=YV l
theorem RepW.zero:RepW wSr.zero []:=fun s=>by simp[wSr]
theorem RepW.one:RepW wSr.one [[]]:=fun s=>by
 have:YV []=fun _=>False:=by funext k;simp[YV]
 rw[show wSr.one s↔s=fun _=>False from Iff.rfl,←this];simp
theorem RepW.add {P Q:WS} (h:RepW P L) (h':RepW Q M):RepW (wSr.add P Q) (L++M):=fun s=>by
 show (P s∨Q s)↔_
 rw[h,h']
 constructor
 ·rintro(⟨l,h1,h2⟩ | ⟨l,h1,h2⟩)
  ·exact⟨l,List.mem_append_left _ h1,h2⟩
  ·exact⟨l,List.mem_append_right _ h1,h2⟩
 ·rintro⟨l,h1,h2⟩
  rcases List.mem_append.1 h1 with h1 | h1
  ·exact .inl ⟨l,h1,h2⟩
  ·exact .inr ⟨l,h1,h2⟩
theorem zb3 (l m:List Nat):YV (l++m)=fun k=>YV l k∨YV m k:=by funext k;simp[YV]
theorem RepW.mul {P Q:WS} (h:RepW P L) (h':RepW Q M):RepW (wSr.mul P Q) (L.flatMap fun l=>M.map fun m=>l++m):=fun s=>by
 show (∃a b,P a∧Q b∧s=fun k=>a k∨b k)↔_
 constructor
 ·rintro⟨a,b,ha,hb,rfl⟩
  obtain⟨l,h1,rfl⟩:=(h a).1 ha
  obtain⟨m,h2,rfl⟩:=(h' b).1 hb
  exact⟨l++m,List.mem_flatMap.2 ⟨l,h1,List.mem_map.2 ⟨m,h2,rfl⟩⟩,(zb3 l m).symm⟩
 ·rintro⟨x,hx,rfl⟩
  obtain⟨l,h1,hx⟩:=List.mem_flatMap.1 hx
  obtain⟨m,h2,rfl⟩:=List.mem_map.1 hx
  exact⟨YV l,YV m,(h _).2 ⟨l,h1,rfl⟩,(h' _).2 ⟨m,h2,rfl⟩,zb3 l m⟩
theorem RepW.same {P:WS} (h:RepW P L) (hs:∀s,(∃l∈L,s=YV l)↔∃l∈M,s=YV l):RepW P M:=fun s=>(h s).trans (hs s)
def zeM (L:List (List Nat)):Prop:=(∀l∈L,l.Pairwise (· < ·))∧L.Nodup
def zrV {A B:Type} (R:CSr A) (Q:CSr B):CSr (A×B) where
 zero:=(R.zero,Q.zero)
 one:=(R.one,Q.one)
 add:=fun a b=>(R.add a.1 b.1,Q.add a.2 b.2)
 mul:=fun a b=>(R.mul a.1 b.1,Q.mul a.2 b.2)
 add_assoc:=fun a b c=>by simp only[R.add_assoc,Q.add_assoc]
 add_comm:=fun a b=>by rw[R.add_comm,Q.add_comm]
 zero_add:=fun a=>by simp only[R.zero_add,Q.zero_add]
 mul_assoc:=fun a b c=>by simp only[R.mul_assoc,Q.mul_assoc]
 mul_comm:=fun a b=>by rw[R.mul_comm,Q.mul_comm]
 one_mul:=fun a=>by simp only[R.one_mul,Q.one_mul]
 zero_mul:=fun a=>by simp only[R.zero_mul,Q.zero_mul]
 mul_add:=fun a b c=>by simp only[R.mul_add,Q.mul_add]
def FW.vq14:CSr (WS×Nat):=zrV wSr FN.vq14
end Go.Proofs.YtoecdobelolkeaaGreatDoor
