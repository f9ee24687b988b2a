/- Part of TopSemirings. -/
import Derived.Test.YtoecdobelolkeaaGreatDoorK1
set_option linter.unusedVariables false
set_option linter.unusedSimpArgs false
set_option maxRecDepth 100000
namespace Go.Proofs.YtoecdobelolkeaaGreatDoor
open Go.RowKit
variable {w w':World} {Q:Exit→Act→World→Prop} {g i n id base k c j:Nat} {a a0:Act} {t e T T2:TypeId} {o:Oper} {ops:Array Oper} {R:List (Value→World→Prop)} {r:List Value} {cs:Array Value} {v0 v1:Value} {α:Type} {want:Bool} {p:Addr} {A:Option Addr}
section
variable {w : World}
end
section
variable {ops : Array Oper} {rest : List Oper} {o : Oper} {a : Act} {w : World} {Q : Exit → Act → World → Prop}
end
def zp (P:Program) (o:Oper) (ρ:Operand→Value) (w:World) (K:Value→World→Prop):Prop:=
 match (execOp ρ o).run P w with
 |.ok (.value v) w'=>K v w'
 |.ok .skip w'=>K undef w'
 |.ok (.enter f args) w'=>Calls P f args w' (fun e w''=>∃v,e = .returned v∧K v w'')
 |_=>False
theorem zx {P:Program} {K:Value→World→Prop} {K':Act→World→Prop} (h:zp P o a.eval w K) (hk:∀v w',K v w'→K' (a.put o.dst v) w'):o.wp P a w K' Q:=by
 unfold zp at h;unfold Oper.wp;generalize (execOp a.eval o).run P w=r at *;cases r with
 |ok x w'=>
  cases x <;> simp only at h <;> simp only[Oper.upon];case value v=>exact hk _ _ h
  case skip=>exact hk _ _ h
  case enter f args=>
   refine h.mono ?_;rintro e w'' ⟨v,rfl,hv⟩;exact hk _ _ hv
 |halt x w'=>exact absurd h vz
def zX (ops:Array Oper) (i:Nat):Option Tmp:=(ops[i]?).bind (·.dst)
def tv (a:Act) (t:Tmp):Value:=a.tmps.getD t undef
theorem zK (a:Act) (t:Tmp):a.eval (.tmp t)=tv a t:=rfl
theorem ZM (a:Act) (v:Value):a.eval (.const v)=v:=rfl
def zJ (ops:Array Oper) (m i:Nat):List (Nat×Tmp):=
 match ops[i]? with
 |none=>[]
 |some o=>(List.range m).filterMap fun k=>match zX ops k with | some t=>if (o.looksAt ops).contains t then some (k,t) else none | none=>none
def Yz (ops:Array Oper) (i:Nat):List Nat:=match ops[i]? with | some o=>(o.after.toList.filter (Region.binds .any)).map (·.on) | none=>[]
def zcZ (ops:Array Oper) (j:Nat):List Nat:=(List.range ops.size).reverse.foldl (fun S k=>if S.contains k then S++Yz ops k else S) (Yz ops j)
theorem zbS (L:Nat→Prop) (hj:∀k∈Yz ops j,L k) (hc:∀k,L k→∀i∈Yz ops k,L i):∀k∈zcZ ops j,L k:=by
 unfold zcZ;generalize Yz ops j=S at hj;generalize (List.range ops.size).reverse=q;induction q generalizing S with
 |nil=>exact hj
 |cons x q ih=>
  rw[List.foldl_cons];refine ih _ ?_;split
  ·rename_i hx;intro k hk;rcases List.mem_append.1 hk with h | h
   ·exact hj k h
   ·exact hc x (hj x (by simpa using hx)) k h
  ·exact hj
theorem zai (ho:ops[i]? = some o) {L:Nat→Prop} (h:∀e∈o.after,Region.binds .any e=true→L e.on):∀k∈Yz ops i,L k:=by
 intro k hk;simp only[Yz,ho,List.mem_map,List.mem_filter] at hk;obtain⟨e,⟨he,hb⟩,rfl⟩:=hk;exact h e (by simpa using he) hb
def zls (ops:Array Oper) (i:Nat):Bool:=
 match ops[i]? with
 |none=>false
 |some oi=>(List.range ops.size).all fun j=>j == i || (zcZ ops i).contains j || match ops[j]? with
   |some oj=>oj.after.any (fun e=>Region.binds .any e && e.on == i) || oi.apart ops oj
   |none=>true
theorem zhE {oi:Oper} (hi:ops[i]? = some oi) (h:zls ops i=true) (j:Nat) (oj:Oper) (hj:ops[j]? = some oj) (hne:j≠i) (hna:j∉zcZ ops i) (hno:∀e∈oj.after,Region.binds .any e=true→e.on≠i):oi.apart ops oj=true:=by
 simp only[zls,hi,List.all_eq_true,ux] at h;have h1:=h j (Array.getElem?_eq_some_iff.1 hj).1;simp only[hj,Bool.or_eq_true,beq_iff_eq,hne,false_or,List.contains_iff_mem,hna] at h1;rcases h1 with h1 | h1
 ·obtain⟨e,he,hb⟩:=Array.any_eq_true'.1 h1;simp only[Bool.and_eq_true,beq_iff_eq] at hb;exact absurd hb.2 (hno e he hb.1)
 ·exact h1
def ZN (ops:Array Oper) (m sz:Nat) (kss:List (List (Nat×Tmp))) (ts:List Tmp) (lq:List Nat):Bool:=
 decide (m≤ops.size) && Region.noSelect ops &&
 ((List.range m).all fun i=>match zX ops i with | some t=>decide (t<sz) && !ts.contains t | none=>true) &&
 ((List.range m).all fun i=>(List.range m).all fun j=>i == j || zX ops i == none || zX ops i != zX ops j) &&
 ((List.range m).all fun i=>match ops[i]? with | some o=>(o.after.all fun e=>!Region.binds .any e || decide (e.on<i)) && (zJ ops m i).all fun k=>o.after.any fun e=>Region.binds .any e && e.on == k.1 | none=>false) &&
 ((List.range m).map (zJ ops m) == kss) &&
 ((List.range (ops.size - m)).all fun j=>(List.range m).all fun i=>lq.contains i || (zcZ ops (m+j)).contains i) &&
 (lq.all fun i=>zls ops i)
def zL (R:List (Value→World→Prop)) (k:Nat):Value→World→Prop:=R.getD k (fun _ _=>True)
def YN (R:List (Value→World→Prop)) (a:Act) (w:World):List (Nat×Tmp)→Prop
 |[]=>True
 |(k,t) :: r=>zL R k (tv a t) w∧YN R a w r
theorem zbT:∀(ks:List (Nat×Tmp)),(∀k∈ks,zL R k.1 (tv a k.2) w)→YN R a w ks
 |[],_=>trivial
 |(k,t) :: r,h=>⟨h (k,t) vz,zbT r (fun k' hk=>h k' (by simp[hk]))⟩
def YY:Value→Option Nat
 |.pointer (some p)=>some p.block
 |.slice (some p) _ _=>some p.block
 |_=>none
def ziJ (FL:List Bool) (a:Act) (ks:List (Nat×Tmp)):Prop:=∀x∈ks,∀y∈ks,x.1≠y.1→FL.getD x.1 false=true→FL.getD y.1 false=true→YY (tv a x.2)≠YY (tv a y.2)
def Za (D:Prop) (R:List (Value→World→Prop)) (a:Act) (w:World):List (Nat×Tmp)→Prop
 |[]=>D
 |(k,t) :: r=>zL R k (tv a t) w∧Za D R a w r
theorem Zk {D:Prop} (hD:D):∀(ks:List (Nat×Tmp)),(∀k∈ks,zL R k.1 (tv a k.2) w)→Za D R a w ks
 |[],_=>hD
 |(k,t) :: r,h=>⟨h (k,t) vz,Zk hD r (fun k' hk=>h k' (by simp[hk]))⟩
theorem Zv {D:Prop}:∀(ks:List (Nat×Tmp)),Za D R a w ks→YN R a w ks
 |[],_=>trivial
 |(_,_) :: r,h=>⟨h.1,Zv r h.2⟩
def zY (a:Act):List (Tmp×Value)→Prop
 |[]=>True
 |(t,v) :: r=>tv a t=v∧zY a r
theorem YB {a':Act}:∀ {env:List (Tmp×Value)},(∀t∈env.map (·.1),tv a' t=tv a t)→zY a env→zY a' env
 |[],_,_=>trivial
 |(t,v) :: r,h,⟨h1,h2⟩=>⟨(h t vz).trans h1,YB (fun t' ht=>h t' (by simp at ht ⊢;exact .inr ht)) h2⟩
def ziK (v:Value) (w w':World):Prop:=∃g,YY v=some g∧w.heap.size≤g∧g<w'.heap.size
def Ob (P:Program) (ops:Array Oper) (w0:World) (env:List (Tmp×Value)) (R:List (Value→World→Prop)) (FL:List Bool) (o:Oper) (ks:List (Nat×Tmp)) (Ri:Value→World→Prop) (f:Bool):Prop:=
 ∀(a:Act) (w:World),Below w0.heap.size w0 w→zY a env→Za (ziJ FL a ks) R a w ks→
  match f with
  |false=>if Region.wanted o (yielded ops a.tmps)=true then zp P o a.eval w (fun v w'=>Ri v w'∧Below w.heap.size w w') else Ri undef w
  |true=>Region.wanted o (yielded ops a.tmps)=true∧zp P o a.eval w (fun v w'=>(Ri v w'∧Below w.heap.size w w')∧ziK v w w')
def Obs (P:Program) (ops:Array Oper) (w0:World) (env:List (Tmp×Value)) (R:List (Value→World→Prop)) (FL:List Bool):List Oper→List (List (Nat×Tmp))→List (Value→World→Prop)→List Bool→Prop
 |o :: l,ks :: r,Ri :: q,f :: fl=>Ob P ops w0 env R FL o ks Ri f∧Obs P ops w0 env R FL l r q fl
 |_,[],[],[]=>True
 |_,_,_,_=>False
theorem obs_get {P:Program} {w0:World} {env:List (Tmp×Value)} {FL:List Bool}:∀(l:List Oper) (kss:List (List (Nat×Tmp))) (q:List (Value→World→Prop)) (fl:List Bool),Obs P ops w0 env R FL l kss q fl→
  ∀i o ks,l[i]? = some o→kss[i]? = some ks→Ob P ops w0 env R FL o ks (q.getD i (fun _ _=>True)) (fl.getD i false)
 |o :: l,ks :: r,Ri :: q,f :: fl,⟨h1,h2⟩,0,o',ks',ho,hk=>by simp at ho hk;subst ho;subst hk;exact h1
 |o :: l,ks :: r,Ri :: q,f :: fl,⟨h1,h2⟩,i+1,o',ks',ho,hk=>by simpa using obs_get l r q fl h2 i o' ks' vj9 (by simpa using hk)
 |_,[],_,_,_,i,o',ks',_,hk=>by simp at hk
 |[],_ :: _,_,_,h,_,_,_,ho,_=>by simp at ho
 |_ :: _,_ :: _,[],_,h,_,_,_,_,_=>by simp[Obs] at h
 |_ :: _,_ :: _,_ :: _,[],h,_,_,_,_,_=>by simp[Obs] at h
section
variable {P : Program} {ops : Array Oper} {w0 : World} {env : List (Tmp × Value)} {R : List (Value → World → Prop)} {m : Nat}
theorem zlt (a:Act) (d:Option Tmp) (v:Value):(a.put d v).tmps.size=a.tmps.size:=by cases d <;> simp[Act.put]
theorem zlu (a:Act) (d:Option Tmp) (v:Value) (t:Tmp) (h:d≠some t):tv (a.put d v) t=tv a t:=by
 cases d with
 |none=>rfl
 |some d=>
  have hne:d≠t:=fun e=>h (by rw[e]);simp[tv,Act.put,Array.getElem?_setIfInBounds_ne hne]
theorem zge (a:Act) (v:Value) (t:Tmp) (h:t<a.tmps.size):tv (a.put (some t) v) t=v:=by
 simp[tv,Act.put,h]
def yC (ops:Array Oper) (a0:Act) (vs:Nat→Value) (L:Nat→Bool):Nat→Act
 |0=>a0
 |m+1=>if L m=true then (yC ops a0 vs L m).put (zX ops m) (vs m) else yC ops a0 vs L m
def upd {α:Type} (f:Nat→α) (i:Nat) (x:α):Nat→α:=fun j=>if j=i then x else f j
theorem yT (f:Nat→α) (i:Nat) (x:α):upd f i x i=x:=by simp[upd]
theorem yU (f:Nat→α) (x:α) (h:j≠i):upd f i x j=f j:=by simp[upd,h]
theorem zaj (a0:Act) {vs vs':Nat→Value} {L L':Nat→Bool}:∀m,(∀i,i<m→L i=L' i∧(L i=true→vs i=vs' i))→yC ops a0 vs L m=yC ops a0 vs' L' m
 |0,_=>rfl
 |m+1,h=>by
  obtain⟨h1,h2⟩:=h m jo
  rw[yC,yC,zaj a0 m (fun i hi=>h i jo),←h1]
  by_cases hl:L m=true
  ·rw[if_pos hl,if_pos hl,h2 hl]
  ·rw[if_neg hl,if_neg hl]
theorem zdn (a0:Act) {vs:Nat→Value} {L:Nat→Bool} (v:Value):∀m,i<m→L i=false→(∀j,j<m→j≠i→zX ops i=none∨zX ops i≠zX ops j)→
  yC ops a0 (upd vs i v) (upd L i true) m=(yC ops a0 vs L m).put (zX ops i) v
 |0,h,_,_=>absurd h jo
 |m+1,h,hl,hd=>by
  rw[yC,yC]
  by_cases hm:m=i
  ·subst hm
   rw[if_pos (by rw[yT]),yT,if_neg (by rw[hl];simp)]
   congr 1
   exact zaj a0 m (fun j hj=>⟨yU _ _ jo,fun _=>yU _ _ jo⟩)
  ·rw[yU _ _ hm,yU _ _ hm,zdn a0 v m jo hl (fun j hj hji=>hd j jo hji)]
   by_cases hlm:L m=true
   ·rw[if_pos hlm,if_pos hlm]
    rcases hd m jo hm with h0 | h0
    ·rw[h0];rfl
    ·exact Act.put_comm _ _ _ (fun d h1 h2=>h0 (by rw[h1,h2]))
   ·rw[if_neg hlm,if_neg hlm]
theorem zfl (a0:Act) {vs:Nat→Value} {L:Nat→Bool}:∀m,(yC ops a0 vs L m).tmps.size=a0.tmps.size
 |0=>rfl
 |m+1=>by
  rw[yC]
  split
  ·rw[zlt,zfl a0 m]
  ·exact zfl a0 m
theorem zcl (a0:Act) {vs:Nat→Value} {L:Nat→Bool} {t:Tmp}:∀m,(∀i,i<m→zX ops i≠some t)→tv (yC ops a0 vs L m) t=tv a0 t
 |0,_=>rfl
 |m+1,h=>by
  rw[yC]
  split
  ·rw[zlu _ _ _ _ (h m jo),zcl a0 m (fun i hi=>h i jo)]
  ·exact zcl a0 m (fun i hi=>h i jo)
theorem zdo (a0:Act) {vs:Nat→Value} {L:Nat→Bool} {t:Tmp}:∀m,k<m→zX ops k=some t→L k=true→t<a0.tmps.size→(∀j,j<m→j≠k→zX ops j≠some t)→tv (yC ops a0 vs L m) t=vs k
 |0,h,_,_,_,_=>absurd h jo
 |m+1,h,hk,hl,ht,hd=>by
  rw[yC]
  by_cases hm:m=k
  ·subst hm
   rw[if_pos hl,hk,zge _ _ _ (by rw[zfl];exact ht)]
  ·have ih:=zdo (vs:=vs) a0 m jo hk hl ht (fun j hj hjk=>hd j jo hjk)
   split
   ·rw[zlu _ _ _ _ (hd m jo hm),ih]
   ·exact ih
def yI (vs:Nat→Value):Nat→List Oper→Act→Act
 |_,[],a=>a
 |i,o :: r,a=>yI vs (i+1) r (a.put o.dst (vs i))
theorem zdp (vs:Nat→Value) (o:Oper):∀(l:List Oper) (i:Nat) (a:Act),yI vs i (l++[o]) a=(yI vs i l a).put o.dst (vs (i+l.length))
 |[],i,a=>rfl
 |x :: l,i,a=>by rw[List.cons_append,yI,yI,zdp vs o l];congr 2;simp;omega
theorem zdq (l:List Oper) (a0:Act) (vs:Nat→Value):∀m,m≤l.length→yC l.toArray a0 vs (fun _=>true) m=yI vs 0 (l.take m) a0
 |0,_=>by simp[yC,yI]
 |m+1,h=>by
  rw[yC,if_pos rfl,zdq l a0 vs m jo,List.take_succ_eq_append_getElem jo,zdp]
  congr 1
  ·simp[zX,show m<l.length by omega]
  ·congr 1;simp;omega
theorem Zb (listed:Array Bool) (i:Nat) (hi:i<listed.size):(fun j=>(listed.setIfInBounds i true).getD j false)=upd (fun j=>listed.getD j false) i true:=by
 funext j;simp only[upd];by_cases h:j=i
 ·subst h;simp[hi]
 ·simp[h,Array.getElem?_setIfInBounds_ne (Ne.symm h)]
def left (L:Nat→Bool):Nat→Nat
 |0=>0
 |m+1=>left L m+if L m=true then 0 else 1
theorem zdr {L L':Nat→Bool}:∀m,(∀i,i<m→L i=L' i)→left L m=left L' m
 |0,_=>rfl
 |m+1,h=>by rw[left,left,zdr m (fun i hi=>h i jo),h m jo]
theorem zbU {L:Nat→Bool}:∀m,i<m→L i=false→left L m=left (upd L i true) m+1
 |0,h,_=>absurd h jo
 |m+1,h,hl=>by
  rw[left,left]
  by_cases hm:m=i
  ·subst hm
   rw[yT,hl,zdr m (fun j hj=>(yU L true (by omega:j≠m)).symm)]
   simp
  ·rw[yU _ _ hm,zbU m jo hl];omega
theorem zak {L:Nat→Bool}:∀m,left L m=0→∀i,i<m→L i=true
 |0,_,i,hi=>absurd hi jo
 |m+1,h,i,hi=>by
  rw[left] at h
  by_cases hm:i=m
  ·subst hm
   by_cases hl:L i=true
   ·exact hl
   ·rw[if_neg hl] at h;omega
  ·exact zak m jo i jo
theorem zbV {L:Nat→Bool}:∀m,left L m≠0→∃i,i<m∧L i=false∧∀j,j<i→L j=true
 |0,h=>absurd rfl h
 |m+1,h=>by
  by_cases h0:left L m=0
  ·have hall:=zak m h0
   rw[left,h0] at h
   refine⟨m,jo,?_,hall⟩
   by_cases hl:L m=true
   ·rw[if_pos hl] at h;omega
   ·simpa using hl
  ·obtain⟨i,hi,h1,h2⟩:=zbV m h0
   exact⟨i,jo,h1,h2⟩
def yF (n m:Nat):Array Bool:=(List.replicate m true++List.replicate (n - m) false).toArray
theorem Yp (n m i:Nat) (b:Bool) (h:m≤n):(yF n m).getD i b=if i<m then true else if i<n then false else b:=by
 simp only[yF,Array.getD_eq_getD_getElem?,List.getElem?_toArray,List.getElem?_append,List.length_replicate,List.getElem?_replicate];by_cases h1:i<m
 ·simp[h1]
 ·rw[if_neg h1,if_neg h1];by_cases h2:i<n
  ·rw[if_pos jo,if_pos h2];rfl
  ·rw[if_neg jo,if_neg h2];rfl
def LOb (P:Program) (ops:Array Oper) (w0:World) (env:List (Tmp×Value)) (R:List (Value→World→Prop)) (S:World→Prop) (o:Oper) (ks:List (Nat×Tmp)) (Ri:Value→World→Prop):Prop:=
 ∀(a:Act) (w:World),Below w0.heap.size w0 w→zY a env→YN R a w ks→Region.wanted o (yielded ops a.tmps)=true∧∃v,(∀w',S w'→(execOp a.eval o).run P w' = .ok (.value v) w')∧Ri v w
def Stab:List (Value→World→Prop)→Prop
 |[]=>True
 |Ri :: q=>(∀v w w',Ri v w→Below w.heap.size w w'→Ri v w')∧Stab q
theorem stab_get:∀ {R:List (Value→World→Prop)},Stab R→∀i v w w',zL R i v w→Below w.heap.size w w'→zL R i v w'
 |[],_,i,v,w,w',_,_=>by simp[zL]
 |Ri :: q,⟨h1,h2⟩,0,v,w,w',h,hb=>by simpa [zL] using h1 v w w' zlb hb
 |Ri :: q,⟨h1,h2⟩,i+1,v,w,w',h,hb=>by
  have:=stab_get h2 i v w w' zlb hb
  simpa [zL] using this
theorem Zn {l:List Oper}:∀(fuel:Nat) (listed:Array Bool) (a:Act) (w:World),wpAny P .any l.toArray Q fuel listed a w→wpAnyH P .any l.toArray Q (fun _=>True) fuel listed a w
 |0,_,_,_,h=>h
 |fuel+1,_,_,_,h=>⟨h.1,fun i hi=>wpOp_mono (fun a' w' h'=>⟨trivial,Zn fuel _ a' w' h'⟩) (h.2 i hi)⟩
theorem join_go {l:List Oper} {sz:Nat} {kss:List (List (Nat×Tmp))} {lq:List Nat} {S:World→Prop} (hS:∀w',Below w0.heap.size w0 w'→S w') (hB:ZN l.toArray m sz kss (env.map (·.1)) lq=true) (hsz:a0.tmps.size=sz) (henv:zY a0 env)
  (fl:List Bool) (hlq:∀i∈lq,fl.getD i false=false∧(∀o ks,l[i]? = some o→kss[i]? = some ks→LOb P l.toArray w0 env R S o ks (zL R i))∧∀d v c a w,Q (.panic c) (Act.put a d v) w→Q (.panic c) a w) (hst:Stab R) (hob:Obs P l.toArray w0 env R fl l kss R fl)
  (fin:∀vs w,Below w0.heap.size w0 w→(∀i,i<m→zL R i (vs i) w)→(∀i j,i<m→j<m→i≠j→fl.getD i false=true→fl.getD j false=true→YY (vs i)≠YY (vs j))→wpAnyH P .any l.toArray Q S (l.length - m) (yF l.length m) (yI vs 0 (l.take m) a0) w) :
  ∀(fuel:Nat) (listed:Array Bool) (vs:Nat→Value) (w:World),listed.size=l.length→(∀j,m≤j→listed.getD j false=false)→(∀k,listed.getD k false=true→∀i∈Yz l.toArray k,listed.getD i false=true)→fuel=l.length - m+left (fun i=>listed.getD i false) m→Below w0.heap.size w0 w→
   (∀i,i<m→listed.getD i false=true→zL R i (vs i) w)→(∀i,i<m→listed.getD i false=true→fl.getD i false=true→∃g,YY (vs i)=some g∧g<w.heap.size)→(∀i j,i<m→j<m→i≠j→listed.getD i false=true→listed.getD j false=true→fl.getD i false=true→fl.getD j false=true→YY (vs i)≠YY (vs j))→wpAnyH P .any l.toArray Q S fuel listed (yC l.toArray a0 vs (fun i=>listed.getD i false) m) w:=by
 simp only[ZN,Bool.and_eq_true,decide_eq_true_eq,List.all_eq_true,ux,List.size_toArray] at hB;obtain⟨⟨⟨⟨⟨⟨⟨hm,hns⟩,hts⟩,hdis⟩,hdep⟩,hkss⟩,hrest⟩,hfree⟩:=hB;have hkss:(List.range m).map (zJ l.toArray m)=kss:=by simpa using hkss
 have hdist:∀i j,i<m→j<m→j≠i→zX l.toArray i=none∨zX l.toArray i≠zX l.toArray j:=by
  exact zpQ
 intro fuel;induction fuel with
 |zero=>
  exact vt9
 |succ fuel ih=>
  intro listed vs w hls hj hcl hf hb hR hP hN;by_cases h0:left (fun i=>listed.getD i false) m=0
  ·exact vt11
  ·obtain⟨q,hq,hql,hqb⟩:=zbV m h0;have hqget:l.toArray[q]? = some l[q]:=by simp[show q<l.length by omega]
   have hqr:q∈Region.ready .any l.toArray listed:=by
    exact zsH
   have step:∀i o,i<m→i<listed.size→listed.getD i false=false→l.toArray[i]? = some o→(∀e∈o.after,Region.binds .any e=true→listed.getD e.on false=true)→
     (zY (yC l.toArray a0 vs (fun i=>listed.getD i false) m) env∧Za (ziJ fl (yC l.toArray a0 vs (fun i=>listed.getD i false) m) (zJ l.toArray m i)) R (yC l.toArray a0 vs (fun i=>listed.getD i false) m) w (zJ l.toArray m i))∧
     ∀v w',zL R i v w'→Below w.heap.size w w'→(fl.getD i false=true→ziK v w w')→wpAnyH P .any l.toArray Q S fuel (listed.setIfInBounds i true) ((yC l.toArray a0 vs (fun i=>listed.getD i false) m).put o.dst v) w':=by
    intro i o him hil hun' ho hall
    have hdo:zX l.toArray i=o.dst:=by simp only[zX,ho];rfl
    have hmem:∀k∈zJ l.toArray m i,k.1<m∧zX l.toArray k.1=some k.2∧listed.getD k.1 false=true:=by
     intro k hk
     have h1:=hdep i him
     rw[ho] at h1
     simp only[Bool.and_eq_true,List.all_eq_true] at h1
     have h2:=h1.2 k hk
     rw[Array.any_eq_true'] at h2
     obtain⟨e,he,h3⟩:=h2
     simp only[Bool.and_eq_true,beq_iff_eq] at h3
     have h4:=hall e he h3.1
     rw[h3.2] at h4
     simp only[zJ,ho,List.mem_filterMap,ux] at hk
     obtain⟨x,hx,hx2⟩:=hk
     cases hd:zX l.toArray x with
     |none=>rw[hd] at hx2;cases hx2
     |some t=>
      rw[hd] at hx2
      simp only at hx2
      split at hx2
      ·injection hx2 with hx2;subst hx2;exact⟨hx,hd,h4⟩
      ·cases hx2
    refine⟨⟨(YB (fun t ht=>zcl a0 m (fun j hj' hd=>by
      have:=hts j hj'
      rw[hd] at this
      simp only[Bool.and_eq_true,Bool.not_eq_true',←Bool.not_eq_true,List.contains_iff_mem] at this
      exact this.2 ht)) henv),(Zk (fun x hx y hy hne hfx hfy=>by
      have tvs:∀k∈zJ l.toArray m i,tv (yC l.toArray a0 vs (fun i=>listed.getD i false) m) k.2=vs k.1:=fun k hk=>by
       obtain⟨h1,h2,h3⟩:=hmem k hk
       have ht:=hts k.1 h1
       rw[h2] at ht
       simp only[Bool.and_eq_true,decide_eq_true_eq] at ht
       exact zdo (vs:=vs) a0 m h1 h2 h3 zn5 (fun j hj' hjk hd=>by
        rcases hdist k.1 j h1 hj' hjk with h | h
        ·rw[h2] at h;cases h
        ·exact h (by rw[h2,hd]))
      rw[tvs x hx,tvs y hy]
      exact hN x.1 y.1 (hmem x hx).1 (hmem y hy).1 hne (hmem x hx).2.2 (hmem y hy).2.2 hfx hfy) _ (fun k hk=>by
      obtain⟨h1,h2,h3⟩:=hmem k hk
      have ht:=hts k.1 h1
      rw[h2] at ht
      simp only[Bool.and_eq_true,decide_eq_true_eq] at ht
      rw[zdo (vs:=vs) a0 m h1 h2 h3 zn5 (fun j hj' hjk hd=>by
       rcases hdist k.1 j h1 hj' hjk with h | h
       ·rw[h2] at h;cases h
       ·exact h (by rw[h2,hd]))]
      exact hR _ h1 h3))⟩,?_⟩
    intro v w' hv hb' hfr
    have hsame:∀j,j≠i→(listed.setIfInBounds i true).getD j false=listed.getD j false:=by
     intro j hji
     simp only[Array.getD_eq_getD_getElem?];rw[Array.getElem?_setIfInBounds_ne (Ne.symm hji)]
    have h1:=ih (listed.setIfInBounds i true) (upd vs i v) w' (by simp[hls]) (fun j hj'=>by
     have:(listed.setIfInBounds i true).getD j false=listed.getD j false:=by simp only[Array.getD_eq_getD_getElem?];rw[Array.getElem?_setIfInBounds_ne jo]
     rw[this];exact hj j hj') (fun k hk=>by
      by_cases hki:k=i
      ·subst hki
       intro x hx
       have hx':=zai ho (L:=fun x=>listed.getD x false=true) hall x hx
       by_cases hxi:x=k
       ·subst hxi;rw[hun'] at hx';cases hx'
       ·rw[hsame x hxi];exact hx'
      ·intro x hx
       have hx':=hcl k (by rw[←hsame k hki];exact hk) x hx
       by_cases hxi:x=i
       ·subst hxi;rw[hun'] at hx';cases hx'
       ·rw[hsame x hxi];exact hx') (by rw[Zb _ _ hil];have:=zbU (L:=fun i=>listed.getD i false) m him hun';omega) (ze hb hb' hb.size) (fun j hj' hjl=>by
      by_cases hji:j=i
      ·subst hji;rw[yT];exact hv
      ·rw[yU _ _ hji]
       refine stab_get hst j _ w w' (hR j hj' ?_) hb'
       have:(listed.setIfInBounds i true).getD j false=listed.getD j false:=by simp only[Array.getD_eq_getD_getElem?];rw[Array.getElem?_setIfInBounds_ne (Ne.symm hji)]
       rw[←this];exact hjl)
     (fun j hj' hjl hjf=>by
      by_cases hji:j=i
      ·subst hji;rw[yT];obtain⟨g,h1,_,h3⟩:=hfr hjf;exact⟨g,h1,h3⟩
      ·rw[yU _ _ hji]
       obtain⟨g,h1,h2⟩:=hP j hj' zlc hjf
       exact⟨g,h1,uj h2 hb'.size⟩)
     (fun j k hj' hk' hjk hjl hkl hjf hkf=>by
      by_cases hji:j=i
      ·subst hji
       rw[yT,yU _ _ (Ne.symm hjk)]
       obtain⟨g,h1,h2,_⟩:=hfr hjf
       obtain⟨g',h4,h5⟩:=hP k hk' (by rw[←hsame k (Ne.symm hjk)];exact hkl) hkf
       rw[h1,h4];intro he;injection he with he;omega
      ·by_cases hki:k=i
       ·subst hki
        rw[yT,yU _ _ hji]
        obtain⟨g,h1,h2,_⟩:=hfr hkf
        obtain⟨g',h4,h5⟩:=hP j hj' zlc hjf
        rw[h1,h4];intro he;injection he with he;omega
       ·rw[yU _ _ hji,yU _ _ hki]
        exact hN j k hj' hk' hjk zlc (by rw[←hsame k hki];exact hkl) hjf hkf)
    rw[Zb _ _ hil,zdn a0 v m him hun' (fun j hj' hji=>hdist i j him hj' hji),hdo] at h1
    exact h1
   by_cases hex:∃p,p<m∧listed.getD p false=false∧p∉lq
   ·obtain⟨p,hp,hpl,hplq⟩:=hex;refine⟨fun hnil=>(by rw[hnil] at hqr;cases hqr),fun i hi=>?_⟩;obtain⟨hun,o,ho,hall⟩:=mem_ready.1 hi;have hil:i<listed.size:=by
     exact znM
    have hun':listed.getD i false=false:=by simpa [hil] using hun
    have him:i<m:=by
     exact vt26
    obtain⟨⟨hE,hD⟩,next⟩:=step i o him hil hun' ho hall;have hOb:=obs_get l kss R fl hob i o (zJ l.toArray m i) vj9 (by rw[←hkss];simp[him]) (yC l.toArray a0 vs (fun i=>listed.getD i false) m) w hb hE hD;unfold wpOp;simp only[ho];cases hfl:fl.getD i false with
    |false=>
     rw[hfl] at hOb next
     simp only at hOb;by_cases hw:Region.wanted o (yielded l.toArray (yC l.toArray a0 vs (fun i=>listed.getD i false) m).tmps)=true
     ·rw[if_pos hw] at hOb ⊢;exact .inl (zx hOb (fun v w' ⟨h1,h2⟩=>⟨hS _ (ze hb h2 hb.size),next v w' h1 h2 (fun h=>by cases h)⟩))
     ·rw[if_neg hw] at hOb ⊢;exact⟨hS _ hb,next _ _ hOb (ue _ _) (fun h=>by cases h)⟩
    |true=>
     rw[hfl] at hOb next
     simp only at hOb;rw[if_pos hOb.1];exact .inl (zx hOb.2 (fun v w' ⟨⟨h1,h2⟩,h3⟩=>⟨hS _ (ze hb h2 hb.size),next v w' h1 h2 (fun _=>h3)⟩))
   ·have hqlq:q∈lq:=Classical.byContradiction fun h=>hex ⟨q,hq,hql,h⟩;have hall:=(mem_ready.1 hqr).2;obtain⟨o,ho,hall⟩:=hall;obtain⟨⟨hE,hD⟩,next⟩:=step q o hq jo hql ho hall;obtain⟨hfl,hL,hQ⟩:=hlq q hqlq;obtain⟨hw,v,hv,hRv⟩:=hL o (zJ l.toArray m q) vj9 (by rw[←hkss];simp[hq]) _ w hb hE (Zv _ hD);refine wpAnyH_first ho (Region.noSelect_spec hns) (hQ _ _) fuel listed _ w ?_ hqr (.inl ⟨hw,hv⟩) (hS _ hb) (next v w hRv (ue _ _) (fun h=>by rw[hfl] at h;cases h));exact vt21
theorem wp_region_join' {l:List Oper} {kss:List (List (Nat×Tmp))} (env:List (Tmp×Value)) (R:List (Value→World→Prop)) (m:Nat) (lq:List Nat) (S:World→Prop) (hS:∀w',Below w.heap.size w w'→S w') (hm:P.follows .mixedOrders=true) (hB:ZN l.toArray m a0.tmps.size kss (env.map (·.1)) lq=true) (henv:zY a0 env)
  (fl:List Bool) (hlq:∀i∈lq,fl.getD i false=false∧(∀o ks,l[i]? = some o→kss[i]? = some ks→LOb P l.toArray w env R S o ks (zL R i))∧∀d v c a w,Q (.panic c) (Act.put a d v) w→Q (.panic c) a w) (hst:Stab R) (hob:Obs P l.toArray w env R fl l kss R fl)
  (fin:∀vs w',Below w.heap.size w w'→(∀i,i<m→zL R i (vs i) w')→(∀i j,i<m→j<m→i≠j→fl.getD i false=true→fl.getD j false=true→YY (vs i)≠YY (vs j))→wpAnyH P .any l.toArray Q S (l.length - m) (yF l.length m) (yI vs 0 (l.take m) a0) w'):(Code.region id l.toArray true).wp P Q a0 w:=by
 refine wp_region_held (S:=S) hm ?_;have hml:m≤l.length:=by
  exact zsN
 have h0:∀j b,(Array.replicate l.toArray.size false).getD j b=if j<l.length then false else b:=by
  exact zsL
 have hl0:(fun i=>(Array.replicate l.toArray.size false).getD i false)=fun _=>false:=by funext j;rw[h0];split <;> rfl
 have hst0:∀m,yC l.toArray a0 (fun _=>undef) (fun _=>false) m=a0:=by
  exact zhr
 have hlf:∀m,left (fun _=>false) m=m:=by
  exact zjM
 have:=join_go (P:=P) (w0:=w) (Q:=Q) hS hB rfl henv fl hlq hst hob fin l.toArray.size (Array.replicate l.toArray.size false) (fun _=>undef) {w with drawn:=w.drawn+1} vz (fun j _=>by rw[h0];split <;> rfl) (fun k hk=>by rw[h0] at hk;split at hk <;> cases hk)
  (by rw[hl0,hlf];simp;omega) (Below.drew (ue _ _)) (fun i _ h=>by rw[h0] at h;split at h <;> cases h) (fun i _ h=>by rw[h0] at h;split at h <;> cases h) (fun i _ _ _ _ h=>by rw[h0] at h;split at h <;> cases h)
 rw[hl0,hst0] at this;exact this
def zj0 (Q:Exit→Act→World→Prop):Exit→Act→World→Prop
 |.normal,a,w=>Q .normal a w
 |_,_,_=>False
theorem zy (h:Q .normal a w):zj0 Q .normal a w:=h
theorem zt {l:List Oper} {kss:List (List (Nat×Tmp))} (env:List (Tmp×Value)) (R:List (Value→World→Prop)) (m:Nat) (lq:List Nat) (hm:P.follows .mixedOrders=true) (hB:ZN l.toArray m a0.tmps.size kss (env.map (·.1)) lq=true) (henv:zY a0 env)
  (fl:List Bool) (hlq:∀i∈lq,fl.getD i false=false∧(∀o ks,l[i]? = some o→kss[i]? = some ks→LOb P l.toArray w env R (fun _=>True) o ks (zL R i))) (hst:Stab R) (hob:Obs P l.toArray w env R fl l kss R fl)
  (fin:∀vs w',Below w.heap.size w w'→(∀i,i<m→zL R i (vs i) w')→(∀i j,i<m→j<m→i≠j→fl.getD i false=true→fl.getD j false=true→vs i≠vs j)→wpAny P .any l.toArray (zj0 Q) (l.length - m) (yF l.length m) (yI vs 0 (l.take m) a0) w'):(Code.region id l.toArray true).wp P Q a0 w:=
 Code.wp_mono (Q:=zj0 Q) (fun e a w h=>by cases e <;> first | exact h | exact h.elim)
  (wp_region_join' env R m lq (fun _=>True) (fun _ _=>trivial) hm hB henv fl (fun i hi=>⟨(hlq i hi).1,(hlq i hi).2,fun _ _ _ _ _ h=>h⟩) hst hob (fun vs w' h1 h2 h3=>Zn _ _ _ _ (fin vs w' h1 h2 (fun i j a b c d e f=>h3 i j a b c d e (ut YY f)))))
theorem wp_region_each {l:List Oper} {kss:List (List (Nat×Tmp))} (env:List (Tmp×Value)) (R:List (Value→World→Prop)) (hm:P.follows .mixedOrders=true) (hB:ZN l.toArray l.length a0.tmps.size kss (env.map (·.1)) []=true) (henv:zY a0 env)
  (hst:Stab R) (hob:Obs P l.toArray w env R (List.replicate R.length false) l kss R (List.replicate R.length false))
  (fin:∀vs w',Below w.heap.size w w'→(∀i,i<l.length→zL R i (vs i) w')→Q .normal (yI vs 0 l a0) w'):(Code.region id l.toArray true).wp P Q a0 w:=by
 exact vt16
theorem zbW {l:List Oper} (hr:∀k,k<l.length→k∈Region.ready .any l.toArray (yF l.length k)):∀(j k:Nat),k+j=l.length→∀(a:Act) (w:World),
  wpAny P .any l.toArray Q j (yF l.length k) a w→wpOps P l.toArray Q (List.range' k j) a w
 |0,k,_,a,w,h=>h.2
 |j+1,k,hk,a,w,h=>by
  rw[List.range'_succ,wpOps_cons]
  refine wpOp_mono (fun a' w' h'=>?_) (h.2 k (hr k jo))
  refine zbW hr j (k+1) jo a' w' ?_
  have:(yF l.length k).setIfInBounds k true=yF l.length (k+1):=by
   apply Array.ext
   ·simp[yF];omega
   ·intro i h1 h2
    have h3:=Yp l.length k i false jo
    have h4:=Yp l.length (k+1) i false jo
    have h5:(yF l.length (k+1)).getD i false=(yF l.length (k+1))[i]:=by simp[h2]
    rw[←h5,h4]
    by_cases hik:k=i
    ·subst hik;rw[Array.getElem_setIfInBounds_self,if_pos jo]
    ·have h1':i<(yF l.length k).size:=by simpa using h1
     rw[Array.getElem_setIfInBounds_ne h1' hik]
     have h6:(yF l.length k).getD i false=(yF l.length k)[i]:=by simp[h1']
     rw[←h6,h3]
     by_cases h7:i<k
     ·rw[if_pos h7,if_pos jo]
     ·rw[if_neg h7];simp[show ¬i<k+1 by omega]
  rw[←this];exact h'
theorem zj {l:List Oper} {kss:List (List (Nat×Tmp))} (env:List (Tmp×Value)) (R:List (Value→World→Prop)) (hB:ZN l.toArray l.length a0.tmps.size kss (env.map (·.1)) []=true) (henv:zY a0 env)
  (hst:Stab R) (hob:Obs P l.toArray w env R (List.replicate R.length false) l kss R (List.replicate R.length false))
  (fin:∀vs w',Below w.heap.size w w'→(∀i,i<l.length→zL R i (vs i) w')→Q .normal (yI vs 0 l a0) w'):(Code.region id l.toArray false).wp P Q a0 w:=by
 refine wp_region ?_;have hdep:∀k,k<l.length→k∈Region.ready .any l.toArray (yF l.length k):=by
  intro k hk;have hB':=hB;simp only[ZN,Bool.and_eq_true,decide_eq_true_eq,List.all_eq_true,ux,List.size_toArray] at hB';obtain⟨⟨⟨⟨_,hdep⟩,_⟩,_⟩,_⟩:=hB';have hget:l.toArray[k]? = some l[k]:=by simp[hk]
  refine mem_ready.2 ⟨?_,l[k],hget,fun e he hbe=>?_⟩
  ·rw[Yp _ _ _ _ jo,if_neg jo,if_pos hk]
  ·have h1:=hdep k hk;rw[hget] at h1;simp only[Bool.and_eq_true,Array.all_eq_true_iff_forall_mem,Bool.or_eq_true,Bool.not_eq_true',decide_eq_true_eq] at h1;rcases h1.1 e he with h2 | h2
   ·rw[hbe] at h2;cases h2
   ·rw[Yp _ _ _ _ jo,if_pos h2]
 have h0:∀j b,(yF l.length 0).getD j b=if j<l.length then false else b:=by
  intro j b;rw[Yp _ _ _ _ jo,if_neg jo]
 have hl0:(fun i=>(yF l.length 0).getD i false)=fun _=>false:=by funext j;rw[h0];split <;> rfl
 have hst0:∀m,yC l.toArray a0 (fun _=>undef) (fun _=>false) m=a0:=by
  exact zhr
 have hlf:∀m,left (fun _=>false) m=m:=by
  exact zjM
 have:=join_go (P:=P) (w0:=w) (Q:=Q) (S:=fun _=>True) (fun _ _=>trivial) hB rfl henv _ vz hst hob (fun vs w' hb hR _=>by
   apply Zn
   rw[Nat.sub_self]
   have h1:=fin vs w' hb hR
   rw[List.take_length]
   refine⟨?_,h1⟩
   rw[List.eq_nil_iff_forall_not_mem]
   intro j hj
   obtain⟨h2,o,ho,-⟩:=mem_ready.1 hj
   have hjl:j<l.length:=by
    rcases Nat.lt_or_ge j l.length with h | h
    ·exact h
    ·simp[h] at ho
   rw[Yp _ _ _ _ (ug _),if_pos hjl] at h2
   cases h2) l.length (yF l.length 0) (fun _=>undef) w (by simp[yF]) (fun j _=>by rw[h0];split <;> rfl) (fun k hk=>by rw[h0] at hk;split at hk <;> cases hk)
  (by rw[hl0,hlf];omega) (ue _ _) (fun i _ h=>by rw[h0] at h;split at h <;> cases h) (fun i _ h=>by rw[h0] at h;split at h <;> cases h) (fun i _ _ _ _ h=>by rw[h0] at h;split at h <;> cases h)
 rw[hl0,hst0] at this;have h2:=zbW hdep l.length 0 jo a0 w (wpAny_of_held _ _ _ _ this);rw[List.size_toArray,List.range_eq_range'];exact h2
def seqB (ops:Array Oper) (m sz:Nat) (kss:List (List (Nat×Tmp))) (ts:List Tmp):Bool:=
 decide (m≤ops.size) &&
 ((List.range m).all fun i=>match zX ops i with | some t=>decide (t<sz) && !ts.contains t | none=>true) &&
 ((List.range m).all fun i=>(List.range m).all fun j=>i == j || zX ops i == none || zX ops i != zX ops j) &&
 ((List.range m).all fun i=>(zJ ops m i).all fun k=>decide (k.1<i)) &&
 ((List.range m).map (zJ ops m) == kss)
theorem zc {l:List Oper} {kss:List (List (Nat×Tmp))} (env:List (Tmp×Value)) (R:List (Value→World→Prop)) (m:Nat) (hB:seqB l.toArray m a0.tmps.size kss (env.map (·.1))=true) (henv:zY a0 env)
  (fl:List Bool) (hst:Stab R) (hob:Obs P l.toArray w env R [] l kss R fl)
  (fin:∀vs w',Below w.heap.size w w'→(∀i,i<m→zL R i (vs i) w')→wpOps P l.toArray Q (List.range' m (l.length - m)) (yI vs 0 (l.take m) a0) w'):(Code.region id l.toArray false).wp P Q a0 w:=by
 refine wp_region ?_;simp only[seqB,Bool.and_eq_true,decide_eq_true_eq,List.all_eq_true,ux,List.size_toArray] at hB;obtain⟨⟨⟨⟨hm,hts⟩,hdis⟩,hdep⟩,hkss⟩:=hB;have hkss:(List.range m).map (zJ l.toArray m)=kss:=by simpa using hkss
 have hdist:∀i j,i<m→j<m→j≠i→zX l.toArray i=none∨zX l.toArray i≠zX l.toArray j:=by
  exact zpQ
 have main:∀(j k:Nat),k+j=m→∀(vs:Nat→Value) (w':World),Below w.heap.size w w'→(∀i,i<k→zL R i (vs i) w')→
   wpOps P l.toArray Q (List.range' k (l.length - k)) (yC l.toArray a0 vs (fun i=>decide (i<k)) m) w':=by
  intro j
  induction j with
  |zero=>
   intro k hk vs w' hb hR
   obtain rfl:k=m:=jo
   have:=fin vs w' hb hR
   rw[zaj (vs':=vs) (L':=fun _=>true) a0 k (fun i hi=>⟨by simp[hi],fun _=>rfl⟩),zdq l a0 vs k hm]
   exact this
  |succ j ih=>
   intro k hk vs w' hb hR
   have hkl:k<l.length:=jo
   have ho:l.toArray[k]? = some l[k]:=by simp[hkl]
   have hdo:zX l.toArray k=l[k].dst:=by simp only[zX,ho];rfl
   have hmem:∀x∈zJ l.toArray m k,x.1<k∧zX l.toArray x.1=some x.2:=by
    intro x hx
    refine⟨hdep k jo x hx,?_⟩
    simp only[zJ,ho,List.mem_filterMap,ux] at hx
    obtain⟨y,hy,hy2⟩:=hx
    cases hd:zX l.toArray y with
    |none=>rw[hd] at hy2;cases hy2
    |some t=>
     rw[hd] at hy2
     simp only at hy2
     split at hy2
     ·injection hy2 with hy2;subst hy2;exact hd
     ·cases hy2
   have hOb:=obs_get l kss R fl hob k l[k] (zJ l.toArray m k) (by simp[hkl]) (by rw[←hkss];simp[show k<m by omega]) (yC l.toArray a0 vs (fun i=>decide (i<k)) m) w' hb
    (YB (fun t ht=>zcl a0 m (fun j hj' hd=>by
     have:=hts j hj'
     rw[hd] at this
     simp only[Bool.and_eq_true,Bool.not_eq_true',←Bool.not_eq_true,List.contains_iff_mem] at this
     exact this.2 ht)) henv)
    (Zk (fun x _ y _ _ h _=>by simp at h) _ (fun x hx=>by
     obtain⟨h1,h2⟩:=hmem x hx
     have ht:=hts x.1 jo
     rw[h2] at ht
     simp only[Bool.and_eq_true,decide_eq_true_eq] at ht
     rw[zdo (vs:=vs) a0 m (show x.1<m by omega) h2 (by simp[h1]) ht.1 (fun j hj' hjk hd=>by
      rcases hdist x.1 j jo hj' hjk with h | h
      ·rw[h2] at h;cases h
      ·exact h (by rw[h2,hd]))]
     exact hR _ h1))
   have next:∀v w2,zL R k v w2→Below w'.heap.size w' w2→wpOps P l.toArray Q (List.range' (k+1) (l.length - (k+1))) ((yC l.toArray a0 vs (fun i=>decide (i<k)) m).put l[k].dst v) w2:=by
    intro v w2 hv hb2
    have h1:=ih (k+1) jo (upd vs k v) w2 (ze hb hb2 hb.size) (fun i hi=>by
     by_cases hik:i=k
     ·subst hik;rw[yT];exact hv
     ·rw[yU _ _ hik];exact stab_get hst i _ w' w2 (hR i jo) hb2)
    have h2:(fun i=>decide (i<k+1))=upd (fun i=>decide (i<k)) k true:=by
     funext i
     simp only[upd]
     by_cases hik:i=k
     ·subst hik;simp
     ·simp only[hik,if_false,decide_eq_decide];omega
    rw[h2,zdn a0 v m jo vz (fun j hj' hji=>hdist k j jo hj' hji),hdo] at h1
    exact h1
   rw[show l.length - k=(l.length - (k+1))+1 by omega,List.range'_succ,wpOps_cons]
   unfold wpOp
   simp only[ho]
   cases hfl:fl.getD k false with
   |false=>
    rw[hfl] at hOb
    simp only at hOb
    by_cases hw:Region.wanted l[k] (yielded l.toArray (yC l.toArray a0 vs (fun i=>decide (i<k)) m).tmps)=true
    ·rw[if_pos hw] at hOb ⊢
     exact .inl (zx hOb (fun v w2 ⟨h1,h2⟩=>next v w2 h1 h2))
    ·rw[if_neg hw] at hOb ⊢
     exact next _ _ hOb (ue _ _)
   |true=>
    rw[hfl] at hOb
    simp only at hOb
    rw[if_pos hOb.1]
    exact .inl (zx hOb.2 (fun v w2 ⟨⟨h1,h2⟩,_⟩=>next v w2 h1 h2))
 have hst0:∀m,yC l.toArray a0 (fun _=>undef) (fun i=>decide (i<0)) m=a0:=by
  exact zhr
 have h2:=main m 0 jo (fun _=>undef) w (ue _ _) (fun i hi=>absurd hi jo);rw[hst0] at h2;rw[List.size_toArray,List.range_eq_range'];exact h2
end
section
variable {P : Program} {ops : Array Oper} {o : Oper} {a : Act} {w : World} {K : Value → World → Prop} {E : Prop}
theorem za {G:Prop} (hg:o.guard=none) (h:G):if Region.wanted o (yielded ops a.tmps)=true then G else E:=by
 rw[if_pos zn8];exact h
theorem zds {t:Tmp} {b:Bool} (ht:zX ops g=some t) (hv:tv a t = .bool b):yielded ops a.tmps g=some b:=by
 unfold yielded;simp only[zX] at ht;rw[ht];simp only[tv,Array.getD_eq_getD_getElem?] at hv;cases h:a.tmps[t]? with
 |none=>rw[h] at hv;simp[undef] at hv
 |some x=>rw[h] at hv;simp at hv;subst hv;simp[h]
theorem zn {G:Prop} (t:Tmp) (hg:o.guard=some (g,want)) (ht:zX ops g=some t) (hv:tv a t = .bool want) (h:G):if Region.wanted o (yielded ops a.tmps)=true then G else E:=by
 rw[if_pos (by simp[Region.wanted,hg,zds ht hv])];exact h
theorem Zw {G:Prop} (t:Tmp) (hg:o.guard=some (g,want)) (ht:zX ops g=some t) (hv:tv a t = .bool (!want)) (h:E):if Region.wanted o (yielded ops a.tmps)=true then G else E:=by
 rw[if_neg (by simp[Region.wanted,hg,zds ht hv])];exact h
theorem zo {ρ:Operand→Value} (v:Value) (h:(execOp ρ o).run P w = .ok (.value v) w) (hK:K v w):zp P o ρ w K:=by
 unfold zp;rw[h];exact hK
theorem zi (x:Operand) (ho:o.op = .move x) (hK:K (a.eval x) w):zp P o a.eval w K:=
 zo _ (by unfold execOp;rw[ho];rfl) hK
theorem YO (x:Operand) (ho:o.op = .assign x) (hK:K (a.eval x) w):zp P o a.eval w K:=
 zo _ (by unfold execOp;rw[ho];rfl) hK
theorem YF (b:Bool) (c x y:Operand) (ho:o.op = .pick c x y) (hc:a.eval c = .bool b) (hK:K (if b then a.eval x else a.eval y) w):zp P o a.eval w K:=
 zo _ (by unfold execOp;rw[ho];simp[hc,asBool]) hK
theorem YK (b:Bool) (t:TypeId) (x:Operand) (ho:o.op = .unOp .not t x) (hc:a.eval x = .bool b) (hK:K (.bool (!b)) w):zp P o a.eval w K:=
 zo _ (by unfold execOp;rw[ho];simp[hc,Op.unary]) hK
theorem zW (i j:Int) (k:IntKind) (t t2:TypeId) (x y:Operand) (ho:o.op = .binOp .eql t x y t2) (hx:a.eval x = .int k i) (hy:a.eval y = .int k j) (hK:K (.bool (i == j)) w):zp P o a.eval w K:=by
 exact zfh
theorem yH (i j:Int) (k:IntKind) (t t2:TypeId) (x y:Operand) (ho:o.op = .binOp .neq t x y t2) (hx:a.eval x = .int k i) (hy:a.eval y = .int k j) (hK:K (.bool (i != j)) w):zp P o a.eval w K:=by
 exact zfh
theorem zZ (i j:Int) (k:IntKind) (t t2:TypeId) (x y:Operand) (ho:o.op = .binOp .lss t x y t2) (hx:a.eval x = .int k i) (hy:a.eval y = .int k j) (hK:K (.bool (decide (i<j))) w):zp P o a.eval w K:=by
 exact zfh
theorem zbX (i j:Int) (k:IntKind) (t t2:TypeId) (x y:Operand) (ho:o.op = .binOp .leq t x y t2) (hx:a.eval x = .int k i) (hy:a.eval y = .int k j) (hK:K (.bool (decide (i≤j))) w):zp P o a.eval w K:=by
 exact zfh
theorem yi (i j:Int) (k:IntKind) (t t2:TypeId) (x y:Operand) (ho:o.op = .binOp .gtr t x y t2) (hx:a.eval x = .int k i) (hy:a.eval y = .int k j) (hK:K (.bool (decide (i>j))) w):zp P o a.eval w K:=by
 exact zfh
theorem yY (i j:Int) (k:IntKind) (t t2:TypeId) (x y:Operand) (ho:o.op = .binOp .geq t x y t2) (hx:a.eval x = .int k i) (hy:a.eval y = .int k j) (hK:K (.bool (decide (i≥j))) w):zp P o a.eval w K:=by
 exact zfh
theorem zbs (i j:Bool) (t t2:TypeId) (x y:Operand) (ho:o.op = .binOp .eql t x y t2) (hu:P.underlying t=some .bool) (hx:a.eval x = .bool i) (hy:a.eval y = .bool j) (hK:K (.bool (i == j)) w):zp P o a.eval w K:=by
 refine zo _ ?_ hK;unfold execOp;rw[ho];simp only[hx,hy];have hr:(Op.equal t (.bool i) (.bool j)).run P w = .ok (i == j) w:=by
  exact vt74
 simp[eqGuard,binOp,hr]
theorem zen (i j:Bool) (t t2:TypeId) (x y:Operand) (ho:o.op = .binOp .neq t x y t2) (hu:P.underlying t=some .bool) (hx:a.eval x = .bool i) (hy:a.eval y = .bool j) (hK:K (.bool (i != j)) w):zp P o a.eval w K:=by
 refine zo _ ?_ hK;unfold execOp;rw[ho];simp only[hx,hy];have hr:(Op.equal t (.bool i) (.bool j)).run P w = .ok (i == j) w:=by
  exact vt74
 simp[eqGuard,binOp,hr,bne]
def Yw (P:Program) (f:FuncId):Bool:=match P.funcs[f]? with | some fn=>fn.name != "runtime.NumGoroutine" && fn.body.isSome | none=>false
theorem Yq {f:FuncId} (h:Yw P f=true) (args:Array Value):(callFunc f args).run P w = .ok (.enter f args) w:=by
 unfold Yw at h;unfold callFunc;cases hf:P.funcs[f]? with
 |none=>rw[hf] at h;cases h
 |some fn=>
  rw[hf] at h;simp only[Bool.and_eq_true,bne_iff_ne,ne_eq] at h;have h2:fn.body.isNone=false:=by cases hb:fn.body <;> simp_all
  simp only[Sem.run_bind,run_program,Result.andThen_ok,hf,h2];simp[h.1]
theorem Zc (f:FuncId) (xs:Array Operand) (ts:Array TypeId) (ho:o.op = .call {callee:= .value (.func f),args:=xs,argTypes:=ts}) (hf:Yw P f=true)
  (h:Calls P f (xs.map a.eval) w (fun e w''=>∃v,e = .returned v∧K v w'')):zp P o a.eval w K:=by
 have hr:(execOp a.eval o).run P w = .ok (.enter f (xs.map a.eval)) w:=by
  unfold execOp;rw[ho];simp[resolve,Deferred.ofValue,invoke,Act.eval,Yq hf]
 unfold zp;rw[hr];exact h
theorem zq (f:FuncId) (x:Operand) (ts:Array TypeId) (ho:o.op = .call {callee:= .value (.func f),args:=#[x],argTypes:=ts}) (hf:Yw P f=true)
  (h:Calls P f #[a.eval x] w (fun e w''=>∃v,e = .returned v∧K v w'')):zp P o a.eval w K:=
 Zc f #[x] ts ho hf zej
theorem zE (f:FuncId) (x y:Operand) (ts:Array TypeId) (ho:o.op = .call {callee:= .value (.func f),args:=#[x,y],argTypes:=ts}) (hf:Yw P f=true)
  (h:Calls P f #[a.eval x,a.eval y] w (fun e w''=>∃v,e = .returned v∧K v w'')):zp P o a.eval w K:=
 Zc f #[x,y] ts ho hf zej
abbrev EV (x:Value):Value→World→Prop:=fun zz _=>zz=x
theorem eI {x:Value}:∀(v:Value) (w w':World),EV x v w→Below w.heap.size w w'→EV x v w':=fun _ _ _ h _=>h
theorem yM {P:Program} {E:Prop} {x:Operand} {K:Value→World→Prop} (hg:o.guard=none) (ho:o.op = .move x) (h:K (a.eval x) w):if Region.wanted o (yielded ops a.tmps)=true then zp P o a.eval w (fun u w'=>K u w'∧Below w.heap.size w w') else E:=
 za hg (zi _ ho ⟨h,ue _ _⟩)
theorem zM (f:FuncId) (x y z:Operand) (ts:Array TypeId) (ho:o.op = .call {callee:= .value (.func f),args:=#[x,y,z],argTypes:=ts}) (hf:Yw P f=true)
  (h:Calls P f #[a.eval x,a.eval y,a.eval z] w (fun e w''=>∃v,e = .returned v∧K v w'')):zp P o a.eval w K:=
 Zc f #[x,y,z] ts ho hf zej
def RV (w:World) (K:Value→World→Prop) (e:Ending) (w':World):Prop:=∃v,e = .returned v∧K v w'∧Below w.heap.size w w'
theorem zU {P:Program} {f:FuncId} {args:Array Value} {w:World} {v:Value} (h:Calls P f args w fun e w'=>e = .returned v∧Below w.heap.size w w'):Calls P f args w (RV w (fun u _=>u=v)):=
 h.mono fun _ _ ⟨he,hb⟩=>⟨v,he,rfl,hb⟩
theorem Yr {listed:Array Bool} (hr:Region.ready .any ops listed=[]) (h:Q .normal a w):∀fuel,wpAny P .any ops Q fuel listed a w
 |0=>⟨hr,h⟩
 |_+1=>⟨fun _=>h,fun j hj=>by rw[hr] at hj;cases hj⟩
end
section
variable {w : World} {s : Bool} {A B : Option Addr} {n c m d b : Nat} {x : Rat}
end
section
variable {w : World} {s : Bool} {A B : Option Addr} {n c m d b : Nat} {x : Rat}
end
section
variable {P : Program} (w : World)
end
section
variable {w : World} {s : Bool} {A B : Option Addr} {n c m d : Nat}
end
section
variable {w : World}
end
theorem zk {P:Program} {ρ:Operand→Value} {K K':Value→World→Prop} (h:zp P o ρ w K) (hk:∀v w',K v w'→K' v w'):zp P o ρ w K':=by
 unfold zp at *;generalize (execOp ρ o).run P w=r at *;cases r with
 |ok x w'=>
  cases x with
  |value v=>exact hk _ _ h
  |skip=>exact hk _ _ h
  |enter f args=>exact h.mono fun e w'' ⟨v,h1,h2⟩=>⟨v,h1,hk _ _ h2⟩
  |_=>exact h
 |halt x w'=>exact h
section
variable {P : Program} {ops : Array Oper} {o : Oper} {a : Act} {w : World}
theorem zA {fuel:Nat} {listed:Array Bool} (hr:Region.ready .any ops listed=[i]) (ho:ops[i]? = some o) (hg:o.guard=none) (h:o.wp P a w (fun a' w'=>wpAny P .any ops Q fuel (listed.setIfInBounds i true) a' w') Q):wpAny P .any ops Q (fuel+1) listed a w:=by
 refine⟨fun h0=>absurd (hr.symm.trans h0) vz,fun j hj=>?_⟩;rw[hr] at hj;simp at hj;subst hj;unfold wpOp;simp only[ho];rw[if_pos zn8];exact .inl h
theorem zR {listed:Array Bool} (hr:Region.ready .any ops listed=[]) (h:Q .normal a w):∀fuel,wpAny P .any ops Q fuel listed a w
 |0=>⟨hr,h⟩
 |_+1=>⟨fun _=>h,fun j hj=>by rw[hr] at hj;cases hj⟩
end
theorem zb {P:Program} {r:List Nat} (ho:ops[i]? = some o) (hg:o.guard=none) (h:o.wp P a w (wpOps P ops Q r) Q):wpOps P ops Q (i :: r) a w:=by
 unfold wpOps;simp only[ho];rw[if_pos zn8];exact .inl h
theorem zl {K:Act→World→Prop} (t:Tmp) (x:Operand) (ho:o.op = .assign x) (hd:o.dst=some t) (v:Value) (hv:a.eval x=v) (h:K (a.put (some t) v) w):o.wp Tryz.prog a w K Q:=by
 rw[←hd,←hv] at h;unfold Oper.wp execOp;rw[ho];exact h
section
variable {o : Oper} {a : Act} {w : World} {t : Tmp}
theorem zaK {vs:Array Value} {x:Value} (ho:o.op = .extract (.tmp t) i) (h:tv a t = .tuple vs) (hx:vs[i]? = some x):zp Tryz.prog o a.eval w (fun v w'=>v=x∧Below w.heap.size w w'):=by
 refine zo x ?_ ⟨rfl,ue _ _⟩;exact znP
theorem zok {u:Tmp} {x:Nat} (hk:k<32) (ho:o.op = .binOp .shr T (.tmp t) (.tmp u) T2) (h:tv a t = .int .u32 (x:Int)) (h2:tv a u = .int .i64 (k:Int)):zp Tryz.prog o a.eval w (fun v w'=>v = .int .u32 ((x:Int) / 2 ^ k)∧Below w.heap.size w w'):=by
 refine zo (.int .u32 ((x:Int) / 2 ^ k)) ?_ ⟨rfl,ue _ _⟩;have i1:(0:Int)≤(k:Int):=jo;have i2:(k:Int)<32:=jo;unfold execOp;rw[ho];simp only[zK,h,h2];go_simp
theorem zol {x:Nat} (hx:x<2 ^ 32) (ho:o.op = .binOp .and T (.tmp t) (.const (.int .u32 1)) T2) (h:tv a t = .int .u32 ((x:Int) / 2 ^ k)):zp Tryz.prog o a.eval w (fun v w'=>v = .int .u32 ((if x.testBit k then 1 else 0:Nat):Int)∧Below w.heap.size w w'):=by
 refine zo (.int .u32 ((if x.testBit k then 1 else 0:Nat):Int)) ?_ ⟨rfl,ue _ _⟩;have e:=zaz x k hx;unfold execOp;rw[ho];simp only[zK,ZM,h];go_simp
end
section
variable {w w' : World} {b b' g : Nat} {x y : Rat} {v v' : Value}
end
section
variable {P : Program} {o : Oper} {a : Act} {w : World} {K : Value → World → Prop}
end
def Win (z:Int):Prop:= -1048576≤z∧z≤1048576
instance (z:Int):Decidable (Win z):=inferInstanceAs (Decidable (_∧_))
section
variable {w w' : World} {g : Nat} {a b c d : Int}
end
section
variable {o : Oper} {a : Act} {w : World} {t : Tmp} {g : Nat}
end
section
variable {o : Oper} {a : Act} {w : World} {t : Tmp} {g : Nat}
end
section
variable {x y : Rat}
end
section
variable {o : Oper} {a : Act} {w : World} {t u : Tmp}
end
def KeepsN (w w':World):Prop:=w.heap.size≤w'.heap.size∧∀(p:Addr) x,w.cell? p=some (.int .u32 x)→w'.cell? p=some (.int .u32 x)
theorem zh {v:Value} (h:w.cell? p=some v):p.block<w.heap.size:=by
 rcases Nat.lt_or_ge p.block w.heap.size with h1 | h1
 ·exact h1
 ·have:w.heap[p.block]? = none:=Array.getElem?_eq_none h1;unfold World.cell? at h;simp[this] at h
section
variable {w w' w'' : World}
theorem KeepsN.refl (w:World):KeepsN w w:=⟨ug _,fun _ _ h=>h⟩
theorem KeepsN.trans (h:KeepsN w w') (h':KeepsN w' w''):KeepsN w w'':=⟨ud h.1 h'.1,fun p x hp=>h'.2 p x (h.2 p x hp)⟩
theorem KeepsN.below (h:Below w.heap.size w w'):KeepsN w w':=⟨h.size,fun p x hp=>(h.cell (zh hp)).trans hp⟩
theorem KeepsN.setCell {v:Value} (hc:w.cell? p=some v) (hv:∀x,v≠ .int .u32 x) (u:Value):KeepsN w (w.setCell p u):=by
 refine⟨by rw[Yo];exact ug _,fun q x hq=>?_⟩;rw[World.cell?_setCell_other w p q u]
 ·exact hq
 ·intro e;rw[←e,hc] at hq;cases hq;exact hv _ rfl
theorem KeepsN.blk (hb:Blk w g t cs) (hi:i<cs.size) (hv:∀x,cs[i]?≠some (.int .u32 x)) (u:Value):KeepsN w (w.setCell ⟨g,i,none⟩ u):=by
 refine KeepsN.setCell (v:=cs[i]) ?_ ?_ u
 ·rw[hb.cell];exact Array.getElem?_eq_getElem hi
 ·intro x he;exact hv x (by rw[Array.getElem?_eq_getElem hi,he])
theorem Es.keepN {es:List Nat} (h:Es w w.heap.size A n es) (k:KeepsN w w'):Es w' w'.heap.size A n es:=by
 refine⟨⟨h.1.1,fun hn=>?_⟩,h.2⟩;obtain⟨ad,rfl,hb,hx⟩:=h.1.2 hn;refine⟨ad,rfl,uj hb k.1,fun j y hj=>?_⟩;have h1:=hx j y hj;have h2:=ziF hj;rw[h2] at h1 ⊢;exact k.2 _ _ h1
theorem Num.keepN {b N:Nat} (h:Num w A k c b N) (hk:KeepsN w w'):Num w' A k c b N:=by
 obtain⟨h1,h2,h3,h4,l,h5,h6⟩:=h;exact⟨h1,h2,h3,h4,l,h5.keepN hk,h6⟩
end
section
variable {w w' : World} {B g n b : Nat} {A : Option Addr} {f : Nat → Rat} {P Q : Nat → Value → Prop}
theorem yy (g k:Nat):(Addr.add ⟨g,0,none⟩ k)=⟨g,k,none⟩:=by unfold Addr.add;split <;> simp_all
end
section
variable {o : Oper} {a : Act} {w : World} {t u : Tmp}
end
section
variable {ops : Array Oper} {rest : List Oper} {o : Oper} {a : Act} {w : World} {Q : Exit → Act → World → Prop}
end
section
variable {ops : Array Oper} {rest : List Oper} {o : Oper} {a : Act} {w : World} {Q : Exit → Act → World → Prop}
end
def sm (f:Nat→Rat):Nat→Rat
 |0=>0
 |n+1=>sm f n+f n
structure Tab where
 T:Nat→Nat→Rat
 G:Nat→Rat
 b:Nat→Nat
section
variable {m R : Nat} {S S' S0 : Tab}
end
section
variable {m R cols e r : Nat} {S : Tab}
end
section
variable {m R cols K : Nat} {S : Nat → Tab} {E Q : Nat → Nat}
end
section
variable {m R : Nat} {S S' : Tab} {H : Nat}
end
def hs:Nat→Nat→Nat
 |0,H=>H
 |c+1,H=>hs c (2*(H*H))
section
variable {base : Nat} {w w' : World} {p n m N b gg gr cr gb cb : Nat} {Ar Ab : Option Addr} {rs : Nat → Nat} {S : Tab}
end
section
variable {o : Oper} {a : Act} {w : World} {t u : Tmp}
end
section
variable {base : Nat} {w : World} {p n m : Nat} {v2 v3 v4 : Value}
end
section
variable {m R cols : Nat} {S S' : Tab} {K : Nat}
end
section
variable {base : Nat} {w w' : World} {p n m N b n3 d3 gg gr cr gb cb : Nat} {A3 Ar Ab : Option Addr} {rs : Nat → Nat} {S : Tab}
end
def Clean (w:World) (v:Value):Prop:=∀g,v.ownBlock=some g→∀(i:Nat) (x:Int),w.cell? ⟨g,i,none⟩≠some (.int .u32 x)
def ClV (u:Value):Prop:=∀x:Int,u≠ .int .u32 x
theorem zbe {cur:Array Value} (hg:w.heap[g]? = some (.cells cur e (0,0))) (h:∀u∈cur.toList,ClV u):Clean w (.slice (some ⟨g,0,none⟩) n c):=by
 intro g' hg' i x hx;simp only[Value.ownBlock,Option.some.injEq] at hg';subst hg';rw[cell_of_row w g i cur e (0,0) hg] at hx;exact h _ (by simpa using Array.mem_of_getElem? hx) x rfl
theorem Clean.cur {cur:Array Value} (hc:Clean w (.slice (some ⟨g,0,none⟩) n c)) (hg:w.heap[g]? = some (.cells cur e (0,0))):∀u∈cur.toList,ClV u:=by
 intro u hu x hx;obtain⟨i,hi⟩:=List.mem_iff_getElem?.1 hu;refine hc g rfl i x ?_;rw[cell_of_row w g i cur e (0,0) hg,←hx];simpa using hi
theorem zgf {z:Array Value} {u:Value} (h:u∈(Builtin.zeroCells z n).toList):u∈z.toList:=by
 simp only[Builtin.zeroCells,Array.mem_toList_iff,Array.mem_map,Array.mem_range] at h ⊢;obtain⟨a,h1,h2⟩:=h;have hz:0<z.size:=by
  rcases Nat.eq_zero_or_pos z.size with h0 | h0
  ·rw[h0] at h1;omega
  ·exact h0
 have hl:=Nat.mod_lt a hz;rw[getElem!_pos z _ hl] at h2;rw[←h2];exact Array.getElem_mem hl
section
variable {P : Program} (w : World)
theorem zal (base:Nat) (t ty e:TypeId) (i:TypeInfo) (z:Value) (size bytes:Nat) (ht:P.underlying t=some (.slice e)) (hi:P.info? e=some i) (hz:i.zero=some z)
  (hsize:i.size=size) (hby:i.bytes=bytes) (hzs:z.cells.size=size) (hsz:0<size)
  (v:Value) (n:Nat) (xs:List Value) (hown:w.ownsRow base e size v n xs) (hcl:Clean w v) (hzc:∀u∈z.cells.toList,ClV u)
  (B:Nat) (A:Option Addr) (m c:Nat) (news:List Value) (hr:Reads w B size A m news) (h1:∀u∈news,u.oneCell'=true) (hnc:∀u∈news,ClV u) (hxc:∀u∈xs,ClV u)
  (h63:n+m≤maxLen) (hbytes:(n+m)*bytes≤140737488355328) (hbase:base≤w.heap.size) :
  ∃v' w',(Builtin.append_ #[t,t] ty #[v,.slice A m c]).run P w = .ok v' w'∧w'.ownsRow base e size v' (n+m) (xs++news)∧w.grownBy w' v.ownBlock∧
   (v'.ownBlock=v.ownBlock∨v'.ownBlock=some w.heap.size)∧Clean w' v'∧KeepsN w w':=by
 obtain⟨v',w',hrun,h2,h3,h4⟩:=ZK (P:=P) w base t ty e i z size bytes ht hi hz hsize hby hzs hsz v n xs hown B A m c news hr h1 h63 hbytes hbase;refine⟨v',w',hrun,h2,h3,h4,?_,h3.size,fun p x hp=>?_⟩
 ·rcases A with _ | ad
  ·have hm:m=0:=by
    exact zqC
   subst hm;rw[ZY w base t ty e i size ht hi v n xs hown c] at hrun;injection hrun with e1 e2;subst e1;subst e2;exact hcl
  ·rcases Nat.eq_zero_or_pos m with h0 | h0
   ·subst h0;have hn:news=[]:=uo (by simpa using hr.1);subst hn;subst hsize;rcases hown.2 with ⟨rfl,rfl⟩ | ⟨g,cap,cur,rfl,hbg,hg,hnc',hcm,hcs,htake⟩
    ·have hr0:(Builtin.append_ #[t,t] ty #[.slice none 0 0,.slice (some ad) 0 c]).run P w = .ok (.slice none 0 0) w:=by
      simp[Builtin.append_,run_underlying ht,sizeOf,typeInfo,hi,Builtin.lenOf,Builtin.firstCells,loadCells,loadCellsFrom]
     rw[hr0] at hrun;injection hrun with e1 e2;subst e1;subst e2;exact hcl
    ·have hr0:=run_append_room (P:=P) w t ty e i ht hi g n cap cur hg ad 0 c [] vz vz vz jo (by simp;rw[hcs];exact uk _ hnc');rw[hr0] at hrun;injection hrun with e1 e2;subst e1;subst e2;refine zbe (setRow_heap w g cur _ e _ hg) ?_;intro u hu;have hc:=hcl.cur hg;simp at hu;exact hc u (by simpa using hu)
   ·obtain⟨ad',h,_,hcells⟩:=hr.2 h0;injection h with h;subst h;subst hsize;have hl:=hr.1;rcases hown.2 with ⟨rfl,rfl⟩ | ⟨g,cap,cur,rfl,hbg,hg,hnc',hcm,hcs,htake⟩
    ·have hr0:=run_append_nil (P:=P) w t ty e i z ht hi hz ad m c news hl hcells h0 (by simp only[maxLen] at h63;omega) (by rw[hby];have hb:=hbytes;simp only[Nat.zero_add] at hb;omega);rw[hr0] at hrun;injection hrun with e1 e2;subst e1;subst e2;refine zbe (heap_alloc_new w.drew _) ?_;intro u hu;simp only[Array.toList_append,uB] at hu;rcases hu with hu | hu
     ·exact hnc u hu
     ·exact hzc u (zgf hu)
    ·by_cases hroom:n+m≤cap
     ·have hfit:n*i.size+news.length≤cur.size:=by rw[hl,hcs,←Nat.add_mul];exact uk _ hroom
      have hr0:=run_append_room (P:=P) w t ty e i ht hi g n cap cur hg ad m c news hl hcells h1 hroom hfit;rw[hr0] at hrun;injection hrun with e1 e2;subst e1;subst e2;refine zbe (setRow_heap w g cur _ e _ hg) ?_;intro u hu;have hc:=hcl.cur hg;simp only[uB] at hu;rcases hu with (hu | hu) | hu
      ·exact hc u (List.mem_of_mem_take hu)
      ·exact hnc u hu
      ·exact hc u (List.mem_of_mem_drop hu)
     ·have holds:∀j u,xs[j]? = some u→w.cell? ((⟨g,0,none⟩:Addr).add j)=some u:=hown.cells (g:=g) rfl;have hr0:=run_append_grow (P:=P) w t ty e i z ht hi hz ⟨g,0,none⟩ n cap xs hown.1 holds ad m c news hl hcells jo (by simp only[maxLen] at h63;omega) (growslice_fits jo (by rw[hby];exact hbytes));rw[hr0] at hrun;injection hrun with e1 e2;subst e1;subst e2;refine zbe (heap_alloc_new w.drew _) ?_;intro u hu;simp only[Array.toList_append,uB] at hu;rcases hu with (hu | hu) | hu
      ·exact hxc u hu
      ·exact hnc u hu
      ·exact hzc u (zgf hu)
 ·by_cases hb:some p.block=v.ownBlock
  ·exfalso;have hlt:=World.block_lt_of_cell? w p hp;rcases hown.2 with ⟨rfl,rfl⟩ | ⟨g,cap,cur,rfl,hbg,hg,hnc',hcm,hcs,htake⟩
   ·cases hb
   ·simp only[Value.ownBlock,Option.some.injEq] at hb;have hc:=hcl.cur hg;unfold World.cell? at hp;rw[hb,hg] at hp;simp only at hp;split at hp
    ·cases hp
    ·exact hc (.int .u32 x) (by simpa using Array.mem_of_getElem? (by simpa using hp)) x rfl
  ·exact h3.cell hp hb
structure OwnC (w:World) (base:Nat) (e:TypeId) (size:Nat) (v:Value) (n:Nat) (xs:List Value):Prop where
 own:w.ownsRow base e size v n xs
 cl:Clean w v
end
theorem OwnC.nil (w:World) (base:Nat) (e:TypeId) (size:Nat):OwnC w base e size (.slice none 0 0) 0 []:=⟨World.ownsRow_nil w base e size,fun g h=>by cases h⟩
theorem OwnC.xs {size:Nat} {v:Value} {xs:List Value} (h:OwnC w base e size v n xs):∀u∈xs,ClV u:=by
 rcases h.own.2 with ⟨rfl,rfl⟩ | ⟨g,cap,cur,rfl,hbg,hg,hnc',hcm,hcs,htake⟩
 ·have hx:xs=[]:=uo (by simpa using h.own.1);subst hx;intro u hu;cases hu
 ·intro u hu;rw[←htake] at hu;exact h.cl.cur hg u (List.mem_of_mem_take hu)
theorem Clean.kept {size:Nat} {v:Value} {xs:List Value} (h:Clean w v) (ho:w.ownsRow base e size v n xs) {row:Option Nat} (hg:w.grownBy w' row) (hne:v.ownBlock=none∨v.ownBlock≠row):Clean w' v:=by
 intro g hgv i x hx;have hlt:=(ho.lt g hgv).2;have hb:some g≠row:=by
  rcases hne with h0 | h0
  ·rw[h0] at hgv;cases hgv
  ·rw[←hgv];exact h0
 rw[World.cell?_of_block (a:=⟨g,i,none⟩) (hg.block g hlt hb)] at hx;exact h g hgv i x hx
theorem OwnC.kept {size:Nat} {v:Value} {xs:List Value} (h:OwnC w base e size v n xs) {row:Option Nat} (hg:w.grownBy w' row) (hne:v.ownBlock=none∨v.ownBlock≠row):OwnC w' base e size v n xs:=
 ⟨h.own.kept hg hne,h.cl.kept h.own hg hne⟩
theorem OwnC.below {size:Nat} {v:Value} {xs:List Value} (h:OwnC w base e size v n xs) (hb:Below w.heap.size w w'):OwnC w' base e size v n xs:=by
 refine⟨yJ h.own hb,fun g hgv i x hx=>?_⟩;have hlt:=(h.own.lt g hgv).2;rw[hb.cell (p:=⟨g,i,none⟩) hlt] at hx;exact h.cl g hgv i x hx
theorem OwnC.blk {size:Nat} {v:Value} {xs:List Value} (h:OwnC w base e size v n xs) (hb:Blk w g t cs) (hne:e≠t) (hg:w.grownBy w' (some g)):OwnC w' base e size v n xs:=by
 refine h.kept hg ?_;rcases h.own.2 with ⟨rfl,rfl⟩ | ⟨g',cap,cur,rfl,hbg,hgc,_⟩
 ·exact .inl rfl
 ·right;simp only[Value.ownBlock,ne_eq,Option.some.injEq];intro he;subst he;exact Blk.ne_ (t:=e) hgc hb hne rfl
section
variable {ops : Array Oper} {o : Oper} {a : Act} {w : World} {K : Act → World → Prop} {Q : Exit → Act → World → Prop} {E : Prop}
theorem Zx {P:Program} (s x:Operand) (t:TypeId)
  (ho:o.op = .call {callee:= .builtin .append,args:=#[s,x],argTypes:=#[t,t]})
  (base:Nat) (e:TypeId) (i:TypeInfo) (z:Value) (size bytes:Nat) (ht:P.underlying t=some (.slice e)) (hi:P.info? e=some i) (hz:i.zero=some z)
  (hsize:i.size=size) (hby:i.bytes=bytes) (hzs:z.cells.size=size) (hsz:0<size) (hzc:∀u∈z.cells.toList,ClV u)
  (v:Value) (n:Nat) (xs:List Value) (hs:a.eval s=v) (hown:OwnC w base e size v n xs)
  (B:Nat) (A:Option Addr) (m c:Nat) (news:List Value) (hx:a.eval x = .slice A m c) (hr:Reads w B size A m news) (h1:∀u∈news,u.oneCell'=true) (hnc:∀u∈news,ClV u)
  (h63:n+m≤maxLen) (hbytes:(n+m)*bytes≤140737488355328) (hbase:base≤w.heap.size)
  (h:∀v' w',OwnC w' base e size v' (n+m) (xs++news)→w.grownBy w' v.ownBlock→(v'.ownBlock=v.ownBlock∨v'.ownBlock=some w.heap.size)→KeepsN w w'→K (a.put o.dst v') w'):o.wp P a w K Q:=by
 obtain⟨v',w',hrun,h2,h3,h4,h5,h6⟩:=zal (P:=P) w base t o.type e i z size bytes ht hi hz hsize hby hzs hsz v n xs hown.own hown.cl hzc B A m c news hr h1 hnc hown.xs h63 hbytes hbase;unfold Oper.wp execOp;refine vs2 ?_;exact h v' w' ⟨h2,h5⟩ h3 h4 h6
end
section
variable {S : Tab} {h x : Nat → Rat} {R n : Nat}
end
def tab0 (n m:Nat) (A:Nat→Nat→Rat) (B:Nat→Rat):Nat→Nat→Rat:=fun i j=>if j<n then A i j else if j<n+m then (if j=n+i then 1 else 0) else if j=n+m then -1 else B i
section
variable {n m : Nat} {A : Nat → Nat → Rat} {B : Nat → Rat}
end
def gArt (n m:Nat) (j:Nat):Rat:=if j=n+m then 1 else 0
section
variable {n m : Nat} {A : Nat → Nat → Rat} {B C : Nat → Rat} {S : Tab} {g : Nat → Rat}
end
section
variable {n m : Nat} {A : Nat → Nat → Rat} {B C : Nat → Rat} {S : Tab}
end
section
variable {m R cols : Nat} {S S1 S2 : Tab}
end
def P1 (n m:Nat) (A:Nat→Nat→Rat) (B:Nat→Rat):Tab:=⟨tab0 n m A B,gArt n m,fun i=>n+i⟩
section
variable {n m : Nat} {A : Nat → Nat → Rat} {B C : Nat → Rat} {S : Tab}
end
section
variable {n m : Nat} {A : Nat → Nat → Rat} {B C : Nat → Rat} {S : Tab}
end
section
variable {n m D a b : Nat} {A : Nat → Nat → Rat} {B C : Nat → Rat} {F : Tab}
end
section
variable {w w' : World} {b n m k : Nat} {AC AA AB : Option Addr} {Ar : Nat → Option Addr} {ln cp : Nat → Nat} {A : Nat → Nat → Rat} {C B : Nat → Rat}
end
section
variable {o : Oper} {a : Act} {w : World} {t u : Tmp}
theorem Blk.keep (h:Blk w g t cs) (hb:Below w.heap.size w w'):Blk w' g t cs:=h.below hb h.lt
theorem Blk.at0 {v:Value} (h:Blk w g t (v :: r).toArray) (hb:Below w.heap.size w w'):w'.cell? ⟨g,0,none⟩=some v:=by rw[(h.keep hb).cell];rfl
theorem Blk.at1 {v:Value} (h:Blk w g t (v0 :: v :: r).toArray) (hb:Below w.heap.size w w'):w'.cell? ⟨g,1,none⟩=some v:=by rw[(h.keep hb).cell];rfl
theorem Blk.at2 {v:Value} (h:Blk w g t (v0 :: v1 :: v :: r).toArray) (hb:Below w.heap.size w w'):w'.cell? ⟨g,2,none⟩=some v:=by rw[(h.keep hb).cell];rfl
theorem Blk.at3 {v2 v:Value} (h:Blk w g t (v0 :: v1 :: v2 :: v :: r).toArray) (hb:Below w.heap.size w w'):w'.cell? ⟨g,3,none⟩=some v:=by rw[(h.keep hb).cell];rfl
end
section
variable {base : Nat} {w w' : World} {p n m N b i k cr cb : Nat} {Ar Ab : Option Addr} {rs : Nat → Nat} {T : Nat → Nat → Rat}
end
end Go.Proofs.YtoecdobelolkeaaGreatDoor
