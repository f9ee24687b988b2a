/- Part of TopSemirings. -/
import Derived.Test.YtoecdobelolkeaaGreatDoorK4
set_option linter.unusedVariables false
set_option linter.unusedSimpArgs false
set_option maxRecDepth 100000
set_option maxHeartbeats 4000000
namespace Go.Proofs.YtoecdobelolkeaaGreatDoor
open Go.RowKit
variable {N u b base n i j a:Nat} {cs:Array Value} {k:List Int} {A:Type} {t e ty:TypeId} {w:World}
def lk {α:Type}:List (List Int×α)→List Int→Option α
 |[],_=>none
 |p :: l,k=>if p.1=k then some p.2 else lk l k
def asg {α:Type}:List (List Int×α)→List Int→α→List (List Int×α)
 |[],k,v=>[(k,v)]
 |p :: l,k,v=>if p.1=k then (k,v) :: l else p :: asg l k v
section
variable {α : Type}
theorem zc6:∀ {M:List (List Int×α)} {k:List Int},(∀p∈M,p.1≠k)→lk M k=none
 |[],_,_=>rfl
 |p :: l,k,h=>by rw[lk,if_neg (h p vz),zc6 (M:=l) fun q hq=>h q (uq _ hq)]
theorem zfq:∀ {M:List (List Int×α)} {k:List Int} {v:α},lk M k=some v→(k,v)∈M
 |[],_,_,h=>by cases h
 |p :: l,k,v,h=>by
  rw[lk] at h
  split at h
  ·rename_i e;injection h with h;subst h;subst e;exact List.mem_cons_self
  ·exact uq _ (zfq h)
theorem ziP:∀ {M:List (List Int×α)} {k:List Int} {v:α},(M.map (·.1)).Nodup→(k,v)∈M→lk M k=some v
 |[],_,_,_,h=>by cases h
 |p :: l,k,v,hn,h=>by
  rw[List.map_cons,List.nodup_cons] at hn
  rcases List.mem_cons.1 h with h | h
  ·subst h;rw[lk,if_pos rfl]
  ·rw[lk,if_neg (fun e=>hn.1 (List.mem_map.2 ⟨_,h,e.symm⟩))]
   exact ziP hn.2 h
theorem zc7:∀ {M:List (List Int×α)} {k:List Int} {v:α},(∀p∈M,p.1≠k)→asg M k v=M++[(k,v)]
 |[],_,_,_=>rfl
 |p :: l,k,v,h=>by rw[asg,if_neg (h p vz),zc7 fun q hq=>h q (uq _ hq)];rfl
theorem zhJ:∀ {M:List (List Int×α)} {k:List Int} {u v:α} {j:Nat},(M.map (·.1)).Nodup→M[j]? = some (k,u)→asg M k v=M.set j (k,v)
 |[],_,_,_,_,_,h=>by simp at h
 |p :: l,k,u,v,0,hn,h=>by simp at h;subst h;rw[asg,if_pos rfl];rfl
 |p :: l,k,u,v,j+1,hn,h=>by
  rw[List.map_cons,List.nodup_cons] at hn
  have h2:l[j]? = some (k,u):=by simpa using h
  rw[asg,if_neg (fun e=>hn.1 (List.mem_map.2 ⟨_,ui h2,e.symm⟩)),zhJ hn.2 h2];rfl
theorem zhK:∀(M:List (List Int×α)) (k:List Int) (v:α) (k':List Int),lk (asg M k v) k'=if k'=k then some v else lk M k'
 |[],k,v,k'=>by
  by_cases h:k'=k
  ·subst h;simp[asg,lk]
  ·rw[if_neg h];simp only[asg,lk];exact if_neg (fun e=>h e.symm)
 |p :: l,k,v,k'=>by
  rw[asg]
  by_cases h1:p.1=k
  ·rw[if_pos h1]
   by_cases h:k'=k
   ·subst h;simp[lk]
   ·rw[if_neg h,lk,if_neg (fun e=>h e.symm),lk,if_neg (fun e=>h (by rw[←e,h1]))]
  ·rw[if_neg h1,lk,lk]
   by_cases h2:p.1=k'
   ·rw[if_pos h2,if_pos h2,if_neg (fun e=>h1 (by rw[h2,e]))]
   ·rw[if_neg h2,if_neg h2,zhK l k v k']
theorem zdx:∀ {M:List (List Int×α)} {k:List Int} {v:α} {x:List Int},x∈(asg M k v).map (·.1)→x=k∨x∈M.map (·.1)
 |[],k,v,x,h=>by simp[asg] at h;exact .inl h
 |p :: l,k,v,x,h=>by
  rw[asg] at h
  split at h
  ·rcases List.mem_cons.1 h with h | h
   ·exact .inl h
   ·exact .inr (uq _ h)
  ·rcases List.mem_cons.1 h with h | h
   ·exact .inr (by rw[h];exact List.mem_cons_self)
   ·rcases zdx (M:=l) h with h | h
    ·exact .inl h
    ·exact .inr (uq _ h)
theorem zbg:∀ {M:List (List Int×α)} {k:List Int} {v:α},(M.map (·.1)).Nodup→((asg M k v).map (·.1)).Nodup
 |[],k,v,_=>by simp[asg]
 |p :: l,k,v,h=>by
  rw[List.map_cons,List.nodup_cons] at h
  rw[asg]
  split
  ·rename_i e;rw[List.map_cons,List.nodup_cons,←e];exact h
  ·rename_i e
   rw[List.map_cons,List.nodup_cons]
   refine⟨fun h2=>?_,zbg h.2⟩
   rcases zdx h2 with h3 | h3
   ·exact e h3
   ·exact h.1 h3
end
def MpK (w:World) (g:Nat) (M:List (List Int×Value)):Prop:=(∃(es:Array MapEntry) (clock:Nat),w.heap[g]? = some (.map es clock)∧es.toList.map (fun e=>(e.key,e.val))=M.map (fun p=>(Value.string (yV p.1),p.2)))∧(M.map (·.1)).Nodup∧∀p∈M,∀x∈p.1,0≤x∧x≤9
section
variable {w w' : World} {g : Nat} {M : List (List Int × Value)}
theorem MpK.new_ (w:World):MpK (w.alloc (.map #[] 0)) w.heap.size []:=⟨⟨#[],0,(MapKept.heap_alloc w _).1,rfl⟩,vz,vz⟩
theorem MpK.lt (h:MpK w g M):g<w.heap.size:=by
 obtain⟨⟨es,c,h1,_⟩,_⟩:=h;exact Blk.lt' h1
theorem MpK.keep (h:MpK w g M) (hb:Below w.heap.size w w'):MpK w' g M:=by
 have hl:=h.lt;obtain⟨⟨es,c,h1,h2⟩,h3⟩:=h;exact⟨⟨es,c,(hb.block g hl).trans h1,h2⟩,h3⟩
theorem MpK.grown (h:MpK w g M) {row:Option Nat} (hg:w.grownBy w' row) (hne:some g≠row):MpK w' g M:=by
 have hl:=h.lt;obtain⟨⟨es,c,h1,h2⟩,h3⟩:=h;exact⟨⟨es,c,(hg.block g hl hne).trans h1,h2⟩,h3⟩
theorem MpK.ne {g':Nat} (h:MpK w g M) (hb:Blk w g' t cs):g'≠g:=by
 rintro rfl;obtain⟨⟨es,c,h1,h2⟩,_⟩:=h;have h4:=h1.symm.trans hb;injection h4 with h4;cases h4
theorem MpK.ne_own {size:Nat} {v:Value} {xs:List Value} (h:MpK w g M) (ho:w.ownsRow base e size v n xs):some g≠v.ownBlock:=by
 rcases ho.2 with ⟨rfl,_⟩ | ⟨g',cap,cur,rfl,_,hg,_⟩
 ·simp[Value.ownBlock]
 ·intro he;injection he with he;exact h.ne hg he.symm
theorem KD.map {T:List TypeId} (h:MpK w g M) (hg:w.grownBy w' (some g)) (kn:KeepsN w w'):KD T w w':=
 ⟨kn,fun t ht g' cs hb=>hb.grown hg fun he=>h.ne hb (by injection he)⟩
theorem MpK.own {size:Nat} {v:Value} {xs:List Value} (h:MpK w g M) (hg:w.grownBy w' (some g)) (ho:OwnC w base e size v n xs):OwnC w' base e size v n xs:=ho.kept hg (.inr (h.ne_own ho.own).symm)
theorem zlF {es:Array MapEntry} (hk:∀x∈k,0≤x∧x≤9) (hn:(M.map (·.1)).Nodup) (hs:∀p∈M,∀x∈p.1,0≤x∧x≤9) (h2:es.toList.map (fun e=>(e.key,e.val))=M.map (fun p=>(Value.string (yV p.1),p.2))) :
  (Instr.findNow .string (.string (yV k)) es.toList 0=some none∧∀p∈M,p.1≠k)∨∃j v e,Instr.findNow .string (.string (yV k)) es.toList 0=some (some (j,v))∧M[j]? = some (k,v)∧es[j]? = some e∧e.key = .string (yV k):=by
 have hat:∀ {j:Nat} {e:MapEntry},es.toList[j]? = some e→∃p,M[j]? = some p∧e.key = .string (yV p.1)∧e.val=p.2:=by
  intro j e he;have h3:=ut (fun l=>l[j]?) h2;simp only[uz] at h3;rw[he] at h3;cases hM:M[j]? with
  |none=>rw[hM] at h3;cases h3
  |some p=>
   rw[hM] at h3;simp only[Option.map_some,Option.some.injEq,Prod.mk.injEq] at h3;exact⟨p,rfl,h3.1,h3.2⟩
 rcases MapKept.findNow_spec (d:= .string) (k:= .string (yV k)) zle es.toList 0 (fun x hx=>by
  obtain⟨j,hj⟩:=List.mem_iff_getElem?.1 hx
  obtain⟨p,_,e1,_⟩:=hat hj
  rw[e1];simp[MapKept.IsKey]) with ⟨h3,h4⟩ | ⟨j,e,h3,h4,h5⟩
 ·refine .inl ⟨h3,fun p hp e=>?_⟩;subst e;have:(Value.string (yV p.1),p.2)∈es.toList.map (fun e=>(e.key,e.val)):=by rw[h2];exact List.mem_map.2 ⟨p,hp,rfl⟩
  obtain⟨x,hx,e⟩:=List.mem_map.1 this;injection e with e1 e2;exact h4 x hx e1
 ·obtain⟨p,hp,e1,e2⟩:=hat h4;rw[Nat.zero_add,e2] at h3;have e3:p.1=k:=by
   have h6:Value.string (yV p.1) = .string (yV k):=by rw[←e1,h5]
   injection h6 with h6;exact zlD (hs p (ui hp)) hk h6
  refine .inr ⟨j,p.2,e,h3,?_,by simpa using h4,h5⟩;rw[hp,←e3]
section
variable {P : Program} {T e : TypeId} {z : Value}
theorem zb1 (hT:P.underlying T=some (.map 9 e)) (hS:P.underlying 9=some .string) (hz:∀w:World,(zeroValue e).run P w = .ok z w) (h:MpK w g M) (hk:∀x∈k,0≤x∧x≤9) (ok:Bool) :
  (Instr.lookup T (.map (some g)) (.string (yV k)) ok).run P w = .ok (if ok then .tuple #[(lk M k).getD z,.bool (lk M k).isSome] else (lk M k).getD z) w:=by
 obtain⟨⟨es,c,h1,h2⟩,hn,hs⟩:=h;rcases zlF hk hn hs h2 with ⟨h3,h4⟩ | ⟨j,v,e,h3,h4,-⟩
 ·rw[zc6 h4];cases ok <;> simp[Instr.lookup,run_underlying hT,MapKept.run_getObj_map h1,MapKept.run_checkKey hS (k:= .string (yV k)) zle,MapKept.run_findKey hS h3,hz w,Result.andThen]
 ·rw[ziP hn (ui h4)];cases ok <;> simp[Instr.lookup,run_underlying hT,MapKept.run_getObj_map h1,MapKept.run_checkKey hS (k:= .string (yV k)) zle,MapKept.run_findKey hS h3,Result.andThen]
theorem zfr {v:Value} (hT:P.underlying T=some (.map 9 e)) (hS:P.underlying 9=some .string) (h:MpK w g M) (hk:∀x∈k,0≤x∧x≤9) :
  ∃w',(Instr.mapUpdate T (.map (some g)) (.string (yV k)) v).run P w = .ok () w'∧MpK w' g (asg M k v)∧w.grownBy w' (some g)∧w'.heap.size=w.heap.size∧KeepsN w w':=by
 obtain⟨⟨es,c,h1,h2⟩,hn,hs⟩:=h;have hsm:∀p∈asg M k v,∀x∈p.1,0≤x∧x≤9:=fun p hp x hx=>by
  rcases zdx (List.mem_map_of_mem (f:=(·.1)) hp) with h3 | h3
  ·exact hk x (by rw[←h3];exact hx)
  ·obtain⟨q,hq,e⟩:=List.mem_map.1 h3;exact hs q hq x (by rw[e];exact hx)
 have hkn:∀(es':Array MapEntry) (c':Nat),KeepsN w {w with heap:=w.heap.setIfInBounds g (.map es' c')}:=fun es' c'=>⟨vz,fun p x hp=>by
  have hs2:=MapKept.heap_set (o':=Obj.map es' c') h1
  unfold World.cell? at hp ⊢
  by_cases e:p.block=g
  ·rw[e,h1] at hp;cases hp
  ·have:=hs2.2 p.block e
   simp only at this ⊢
   rw[this];exact hp⟩
 rcases zlF hk hn hs h2 with ⟨h3,h4⟩ | ⟨j,u,e0,h3,h4,h5,h6⟩
 ·have hs2:=MapKept.heap_set (o':=Obj.map (es.push ⟨.string (yV k),v,c⟩) (c+1)) h1;refine⟨{w with heap:=w.heap.setIfInBounds g (.map (es.push ⟨.string (yV k),v,c⟩) (c+1))},?_,⟨⟨_,_,hs2.1,?_⟩,zbg hn,hsm⟩,⟨rfl,rfl,rfl,vz,fun i hi hne=>hs2.2 i (fun e=>hne (by rw[e]))⟩,vz,hkn _ _⟩
  ·simp[Instr.mapUpdate,run_underlying hT,MapKept.run_getObj_map h1,MapKept.run_checkKey hS (k:= .string (yV k)) zle,MapKept.run_findKey hS h3,MapKept.run_setObj_map _ h1,Result.andThen]
  ·rw[Array.toList_push,List.map_append,h2,zc7 h4,List.map_append];rfl
 ·have hs2:=MapKept.heap_set (o':=Obj.map (es.modify j fun e=>{e with key:= .string (yV k),val:=v}) c) h1;refine⟨{w with heap:=w.heap.setIfInBounds g (.map (es.modify j fun e=>{e with key:= .string (yV k),val:=v}) c)},?_,⟨⟨_,_,hs2.1,?_⟩,zbg hn,hsm⟩,⟨rfl,rfl,rfl,vz,fun i hi hne=>hs2.2 i (fun e=>hne (by rw[e]))⟩,vz,hkn _ _⟩
  ·have hks:=MapKept.run_keyThatStays (P:=P) (w:=w) (d:= .string) (k:= .string (yV k)) zle;simp[Instr.mapUpdate,run_underlying hT,MapKept.run_getObj_map h1,MapKept.run_checkKey hS (k:= .string (yV k)) zle,MapKept.run_findKey hS h3,MapKept.run_setObj_map _ h1,Result.andThen,h5,h6,hks]
  ·rw[zhJ hn h4];refine List.ext_getElem? fun i=>?_;have h7:=ut (fun l=>l[i]?) h2;simp only[uz] at h7 ⊢;by_cases hij:j=i
   ·subst hij;have hjl:j<M.length:=(List.getElem?_eq_some_iff.1 h4).1;rw[List.getElem?_set_self hjl];simp[Array.getElem?_modify,h5]
   ·rw[List.getElem?_set_ne hij,←h7];simp[Array.getElem?_modify,hij]
end
end
def zaN (T:TypeId) (v:Value) (name:String) (K:FuncId):Prop:=∀w,(method (362+Made.depth) T v name).run Tryz.prog w = .ok (K,v) w
def zfs (T:TypeId) (v:Value) (name:String):Prop:=∀w,(nilAhead (362+Made.depth) T v name).run Tryz.prog w = .ok (some false) w
theorem zao:zaN 39 (.agg #[]) "Mul" 217:=fun w=>by kernel_rfl
theorem zap:zaN 39 (.agg #[]) "Add" 216:=fun w=>by kernel_rfl
theorem zbh:zaN 39 (.agg #[]) "One" 218:=fun w=>by kernel_rfl
theorem zaC:zaN 39 (.agg #[]) "Zero" 219:=fun w=>by kernel_rfl
theorem zeD:zaN 40 (.agg #[]) "Mul" 26:=fun w=>by kernel_rfl
theorem zcm:zaN 40 (.agg #[]) "Add" 27:=fun w=>by kernel_rfl
theorem zcn:zaN 40 (.agg #[]) "One" 25:=fun w=>by kernel_rfl
theorem zbD:zaN 40 (.agg #[]) "Zero" 24:=fun w=>by kernel_rfl
theorem zj4:zaN 41 (.agg #[]) "Mul" 222:=fun w=>by kernel_rfl
theorem zj5:zaN 41 (.agg #[]) "Add" 221:=fun w=>by kernel_rfl
theorem zj6:zaN 41 (.agg #[]) "One" 223:=fun w=>by kernel_rfl
theorem zhL:zaN 41 (.agg #[]) "Zero" 224:=fun w=>by kernel_rfl
theorem zj7:zaN 47 (.agg #[.iface 39 (.agg #[]),.iface 40 (.agg #[])]) "Mul" 264:=fun w=>by kernel_rfl
theorem zeE:zaN 47 (.agg #[.iface 39 (.agg #[]),.iface 40 (.agg #[])]) "Add" 263:=fun w=>by kernel_rfl
theorem zeF:zaN 47 (.agg #[.iface 39 (.agg #[]),.iface 40 (.agg #[])]) "One" 265:=fun w=>by kernel_rfl
theorem zdy:zaN 47 (.agg #[.iface 39 (.agg #[]),.iface 40 (.agg #[])]) "Zero" 266:=fun w=>by kernel_rfl
theorem FN.vq19:zfs 39 (.agg #[]) "Mul":=fun w=>by kernel_rfl
theorem FN.vq27:zfs 39 (.agg #[]) "Add":=fun w=>by kernel_rfl
theorem FC.vq19:zfs 40 (.agg #[]) "Mul":=fun w=>by kernel_rfl
theorem FC.vq27:zfs 40 (.agg #[]) "Add":=fun w=>by kernel_rfl
theorem FW.vq19:zfs 41 (.agg #[]) "Mul":=fun w=>by kernel_rfl
theorem FW.vq27:zfs 41 (.agg #[]) "Add":=fun w=>by kernel_rfl
theorem FP.vq19:zfs 47 (.agg #[.iface 39 (.agg #[]),.iface 40 (.agg #[])]) "Mul":=fun w=>by kernel_rfl
theorem FP.vq27:zfs 47 (.agg #[.iface 39 (.agg #[]),.iface 40 (.agg #[])]) "Add":=fun w=>by kernel_rfl
section
variable {o : Oper} {a : Act} {w : World} {t : Tmp} {T : TypeId} {v : Value} {name : String} {K : FuncId} {Kp : Value → World → Prop}
theorem yQ (ts:Array TypeId) (ho:o.op = .call {callee:= .invoke (.tmp t) name,args:=#[],argTypes:=ts}) (ht:tv a t = .iface T v) (hm:zaN T v name K) (hf:Yw Tryz.prog K=true)
  (h:Calls Tryz.prog K #[v] w (fun e w'=>∃u,e = .returned u∧Kp u w')):zp Tryz.prog o a.eval w Kp:=by
 have hr:(execOp a.eval o).run Tryz.prog w = .ok (.enter K #[v]) w:=by
  exact vt61
 unfold zp;rw[hr];exact h
theorem yE (x y:Operand) (ts:Array TypeId) (ho:o.op = .call {callee:= .invoke (.tmp t) name,args:=#[x,y],argTypes:=ts}) (ht:tv a t = .iface T v) (hm:zaN T v name K) (hf:Yw Tryz.prog K=true)
  (h:Calls Tryz.prog K #[v,a.eval x,a.eval y] w (fun e w'=>∃u,e = .returned u∧Kp u w')):zp Tryz.prog o a.eval w Kp:=by
 have hr:(execOp a.eval o).run Tryz.prog w = .ok (.enter K #[v,a.eval x,a.eval y]) w:=by
  exact vt61
 unfold zp;rw[hr];exact h
theorem zco (ho:o.op = .makeFunc (.method name) #[.tmp t] #[]) (h:tv a t=v):zp Tryz.prog o a.eval w (fun u w'=>u = .func (.method name) #[v] #[]∧Below w.heap.size w w'):=by
 refine zo (.func (.method name) #[v] #[]) ?_ ⟨rfl,ue _ _⟩;unfold execOp;rw[ho];have hh:a.eval (.tmp t)=v:=h;simp[Instr.makeFunc,hh,Result.andThen]
theorem zbE (ho:o.op = .nilCheck (.tmp t)) (hn:zfs T v name) (h:tv a t = .func (.method name) #[.iface T v] #[]):zp Tryz.prog o a.eval w (fun u w'=>u = .func (.method name) #[.iface T v] #[]∧Below w.heap.size w w'):=by
 refine zo (.func (.method name) #[.iface T v] #[]) ?_ ⟨rfl,ue _ _⟩;unfold execOp;rw[ho];have hh:a.eval (.tmp t) = .func (.method name) #[.iface T v] #[]:=h;simp[hh,hn w,Result.andThen]
theorem zaD {x:Operand} {u:Value} {cells:Array Value} (ho:o.op = .build ty #[(i,x)]) (hx:a.eval x=u) (hf:Tryz.prog.built ty [(i,u)]=some cells):zp Tryz.prog o a.eval w (fun v w'=>v = .agg cells∧Below w.heap.size w w'):=by
 refine zo (.agg cells) ?_ ⟨rfl,ue _ _⟩;unfold execOp;simp only[ho,Sem.run_bind];rw[run_build w ty _ cells (by simpa [hx] using hf)];rfl
theorem yR {x y:Operand} {u v1:Value} {cells:Array Value} (ho:o.op = .build ty #[(i,x),(j,y)]) (hx:a.eval x=u) (hy:a.eval y=v1) (hf:Tryz.prog.built ty [(i,u),(j,v1)]=some cells):zp Tryz.prog o a.eval w (fun v w'=>v = .agg cells∧Below w.heap.size w w'):=by
 refine zo (.agg cells) ?_ ⟨rfl,ue _ _⟩;unfold execOp;simp only[ho,Sem.run_bind];rw[run_build w ty _ cells (by simpa [hx,hy] using hf)];rfl
end
structure CSr (S:Type) where
 zero:S
 one:S
 add:S→S→S
 mul:S→S→S
 add_assoc:∀a b c,add (add a b) c=add a (add b c)
 add_comm:∀a b,add a b=add b a
 zero_add:∀a,add zero a=a
 mul_assoc:∀a b c,mul (mul a b) c=mul a (mul b c)
 mul_comm:∀a b,mul a b=mul b a
 one_mul:∀a,mul one a=a
 zero_mul:∀a,mul zero a=zero
 mul_add:∀a b c,mul a (add b c)=add (mul a b) (mul a c)
section
variable {S : Type} (R : CSr S)
theorem CSr.mul_one (a:S):R.mul a R.one=a:=by rw[R.mul_comm,R.one_mul]
theorem CSr.mul_zero (a:S):R.mul a R.zero=R.zero:=by rw[R.mul_comm,R.zero_mul]
theorem CSr.add_zero (a:S):R.add a R.zero=a:=by rw[R.add_comm,R.zero_add]
theorem CSr.mul_left (a b c:S):R.mul a (R.mul b c)=R.mul b (R.mul a c):=by rw[←R.mul_assoc,R.mul_comm a b,R.mul_assoc]
theorem CSr.add_left (a b c:S):R.add a (R.add b c)=R.add b (R.add a c):=by rw[←R.add_assoc,R.add_comm a b,R.add_assoc]
theorem CSr.add4 (a b c d:S):R.add (R.add a b) (R.add c d)=R.add (R.add a c) (R.add b d):=by
 rw[R.add_assoc,R.add_assoc,R.add_left b c d]
def yl (f:Nat→S):Nat→S
 |0=>R.zero
 |k+1=>R.add (yl f k) (f k)
theorem yz {f g:Nat→S}:∀ {k:Nat},(∀i,i<k→f i=g i)→yl R f k=yl R g k
 |0,_=>rfl
 |k+1,h=>by rw[yl,yl,yz fun i hi=>h i jo,h k jo]
theorem ZI {f:Nat→S}:∀ {k:Nat},(∀i,i<k→f i=R.zero)→yl R f k=R.zero
 |0,_=>rfl
 |k+1,h=>by rw[yl,ZI fun i hi=>h i jo,h k jo,R.zero_add]
theorem zdz (f g:Nat→S):∀k,yl R (fun i=>R.add (f i) (g i)) k=R.add (yl R f k) (yl R g k)
 |0=>(R.zero_add _).symm
 |k+1=>by rw[yl,yl,yl,zdz f g k,R.add4]
theorem zgk (a:S) (f:Nat→S):∀k,R.mul a (yl R f k)=yl R (fun i=>R.mul a (f i)) k
 |0=>R.mul_zero a
 |k+1=>by rw[yl,yl,R.mul_add,zgk a f k]
theorem zeG (f:Nat→Nat→S) (m:Nat):∀k,yl R (fun i=>yl R (f i) m) k=yl R (fun j=>yl R (fun i=>f i j) k) m
 |0=>by rw[yl];exact(ZI R fun _ _=>rfl).symm
 |k+1=>by rw[yl,zeG f m k,←zdz];rfl
theorem zgl {f:Nat→S}:∀ {k:Nat},j<k→(∀i,i<k→i≠j→f i=R.zero)→yl R f k=f j
 |0,h,_=>absurd h jo
 |k+1,h,hz=>by
  by_cases e:j=k
  ·subst e
   rw[yl,ZI R fun i hi=>hz i jo jo,R.zero_add]
  ·rw[yl,zgl (k:=k) jo fun i hi hn=>hz i jo hn,hz k jo (fun h=>e h.symm),R.add_zero]
def yG (x:Nat→Nat) (v d:Nat):Nat→Nat:=fun u=>if u=v then d else x u
theorem zaq (x:Nat→Nat) (v d:Nat):yG x v d v=d:=if_pos rfl
theorem zab (x:Nat→Nat) {v:Nat} (d:Nat) (h:u≠v):yG x v d u=x u:=if_neg h
theorem zj8 (x:Nat→Nat) {v:Nat} (d e:Nat) (h:u≠v):yG (yG x v d) u e=yG (yG x u e) v d:=by
 funext t;unfold yG;by_cases h1:t=u
 ·by_cases h2:t=v
  ·omega
  ·simp[h1,h]
 ·by_cases h2:t=v
  ·simp[h2];intro h3;exact absurd h3.symm h
  ·simp[h1,h2]
def Ys (K:Nat):List Nat→((Nat→Nat)→S)→(Nat→Nat)→S
 |[],F,x=>F x
 |v :: l,F,x=>yl R (fun d=>Ys K l F (yG x v d)) K
variable {K : Nat}
theorem YH {F G:(Nat→Nat)→S} (h:∀x,F x=G x):∀(l:List Nat) (x:Nat→Nat),Ys R K l F x=Ys R K l G x
 |[],x=>h x
 |v :: l,x=>yz R fun d _=>YH h l _
theorem zeH {v:Nat} (h:u≠v) (l:List Nat) (F:(Nat→Nat)→S) (x:Nat→Nat):Ys R K (v :: u :: l) F x=Ys R K (u :: v :: l) F x:=by
 show yl R (fun d=>yl R (fun e=>Ys R K l F (yG (yG x v d) u e)) K) K=yl R (fun e=>yl R (fun d=>Ys R K l F (yG (yG x u e) v d)) K) K;rw[zeG];exact yz R fun e _=>yz R fun d _=>by rw[zj8 x d e h]
theorem zeI {v:Nat} (F:(Nat→Nat)→S):∀(l:List Nat) (x:Nat→Nat),v∉l→Ys R K (v :: l) F x=Ys R K l (fun y=>yl R (fun d=>F (yG y v d)) K) x
 |[],x,_=>rfl
 |u :: l,x,h=>by
  have hne:u≠v:=fun e=>h zs6
  rw[zeH R hne]
  show yl R (fun d=>Ys R K (v :: l) F (yG x u d)) K=_
  exact yz R fun d _=>zeI F l _ (fun hm=>h (uq _ hm))
theorem zj9 {l l':List Nat} (hp:l.Perm l') (hn:l.Nodup) (F:(Nat→Nat)→S):∀x,Ys R K l F x=Ys R K l' F x:=by
 induction hp with
 |nil=>intro x;rfl
 |cons v _ ih=>intro x;exact yz R fun d _=>ih (List.nodup_cons.1 hn).2 _
 |swap u v l=>intro x;exact zeH R (fun e=>(List.nodup_cons.1 hn).1 zs6) l F x
 |trans h1 _ ih1 ih2=>intro x;rw[ih1 hn x];exact ih2 ((h1.nodup_iff).1 hn) x
def yw {A:Type} (f:A→S):List A→S
 |[]=>R.one
 |a :: l=>R.mul (f a) (yw f l)
theorem zaE (f:A→S) (l':List A):∀l,yw R f (l++l')=R.mul (yw R f l) (yw R f l')
 |[]=>(R.one_mul _).symm
 |a :: l=>by show R.mul (f a) (yw R f (l++l'))=R.mul (R.mul (f a) (yw R f l)) (yw R f l');rw[zaE f l' l,R.mul_assoc]
theorem zaY {f g:A→S}:∀ {l:List A},(∀a,a∈l→f a=g a)→yw R f l=yw R g l
 |[],_=>rfl
 |a :: l,h=>by rw[yw,yw,h a (List.mem_cons_self ..),zaY fun b hb=>h b (uq _ hb)]
theorem zcQ (f:A→S) (p:A→Bool):∀l:List A,yw R f l=R.mul (yw R f (l.filter p)) (yw R f (l.filter fun a=>!p a))
 |[]=>(R.one_mul _).symm
 |a :: l=>by
  have ih:=zcQ f p l
  cases h:p a with
  |true=>rw[List.filter_cons_of_pos h,List.filter_cons_of_neg (by simp[h]),yw,yw,ih,R.mul_assoc]
  |false=>rw[List.filter_cons_of_neg (by simp[h]),List.filter_cons_of_pos (by simp[h]),yw,yw,ih,R.mul_left]
end
def pw2 (n:Nat):Nat:=2 ^ n
theorem zrU (h:pw2 a≤pw2 b):a≤b:=(Nat.pow_le_pow_iff_right jo).1 h
theorem ziQ (a b:Nat):pw2 a*pw2 b=pw2 (a+b):=(Nat.pow_add 2 a b).symm
theorem zhM (h:a<b):pw2 a<pw2 b:=Nat.pow_lt_pow_right jo h
theorem zti (n:Nat):PB n=pw2 (32*n):=by
 unfold PB pw2;rw[show (4294967296:Nat)=2 ^ 32 by decide,←Nat.pow_mul]
def yW:Nat:=pw2 3000
theorem zc8 (h:N≤yW):N<PB 100:=by
 rw[show PB 100=pw2 3200 from zti 100];exact uw h (zhM jo)
theorem ZP (h:N≤3000):N<PB 100:=by
 have:(4294967296:Nat) ^ 1≤PB 100:=Nat.pow_le_pow_right jo jo;omega
def ZX:Option Nat→Option Nat→Option Nat
 |some n,some m=>some (n+m)
 |_,_=>none
def YQ:Option Nat→Option Nat→Option Nat
 |none,y=>y
 |x,none=>x
 |some n,some m=>some (min n m)
def nmC:Option Nat→Nat
 |none=>0
 |some n=>pw2 n
def FN.vq14:CSr Nat where
 zero:=0
 one:=1
 add:=(· + ·)
 mul:=(· * ·)
 add_assoc:=Nat.add_assoc
 add_comm:=Nat.add_comm
 zero_add:=Nat.zero_add
 mul_assoc:=Nat.mul_assoc
 mul_comm:=Nat.mul_comm
 one_mul:=Nat.one_mul
 zero_mul:=Nat.zero_mul
 mul_add:=Nat.mul_add
def FC.vq14:CSr (Option Nat) where
 zero:=none
 one:=some 0
 add:=YQ
 mul:=ZX
 add_assoc:=by intro a b c;cases a <;> cases b <;> cases c <;> simp[YQ,Nat.min_assoc]
 add_comm:=by intro a b;cases a <;> cases b <;> simp[YQ,Nat.min_comm]
 zero_add:=by intro a;cases a <;> rfl
 mul_assoc:=by intro a b c;cases a <;> cases b <;> cases c <;> simp[ZX,Nat.add_assoc]
 mul_comm:=by intro a b;cases a <;> cases b <;> simp[ZX,Nat.add_comm]
 one_mul:=by intro a;cases a <;> simp[ZX]
 zero_mul:=by intro a;cases a <;> rfl
 mul_add:=by intro a b c;cases a <;> cases b <;> cases c <;> simp[ZX,YQ]
def FP.vq14:CSr (Nat×Option Nat) where
 zero:=(0,none)
 one:=(1,some 0)
 add x y:=(x.1+y.1,YQ x.2 y.2)
 mul x y:=(x.1*y.1,ZX x.2 y.2)
 add_assoc a b c:=by simp[Nat.add_assoc,FC.vq14.add_assoc a.2 b.2 c.2,show ∀x y,YQ x y=FC.vq14.add x y from fun _ _=>rfl]
 add_comm a b:=by simp[Nat.add_comm,FC.vq14.add_comm a.2 b.2,show ∀x y,YQ x y=FC.vq14.add x y from fun _ _=>rfl]
 zero_add a:=by simp[show YQ none a.2=a.2 from FC.vq14.zero_add a.2]
 mul_assoc a b c:=by simp[Nat.mul_assoc,FC.vq14.mul_assoc a.2 b.2 c.2,show ∀x y,ZX x y=FC.vq14.mul x y from fun _ _=>rfl]
 mul_comm a b:=by simp[Nat.mul_comm,FC.vq14.mul_comm a.2 b.2,show ∀x y,ZX x y=FC.vq14.mul x y from fun _ _=>rfl]
 one_mul a:=by simp[show ZX (some 0) a.2=a.2 from FC.vq14.one_mul a.2]
 zero_mul a:=by simp[show ZX none a.2=none from FC.vq14.zero_mul a.2]
 mul_add a b c:=by simp[Nat.mul_add,FC.vq14.mul_add a.2 b.2 c.2,show ∀x y,ZX x y=FC.vq14.mul x y from fun _ _=>rfl,show ∀x y,YQ x y=FC.vq14.add x y from fun _ _=>rfl]
def FN.vq22 (w:World) (v:Value) (N:Nat):Prop:=∃A k c,v = .slice A k c∧Num w A k c 100 N∧N≤yW
def FC.vq22 (w:World) (v:Value) (x:Option Nat):Prop:=∃b A k c,v = .agg #[.bool b,.slice A k c]∧match x with | none=>b=true | some n=>b=false∧Num w A k c 100 n∧n≤3000
def FP.vq22 (w:World) (v:Value) (x:Nat×Option Nat):Prop:=∃A k c b A' k' c',v = .agg #[.slice A k c,.bool b,.slice A' k' c']∧FN.vq22 w (.slice A k c) x.1∧FC.vq22 w (.agg #[.bool b,.slice A' k' c']) x.2
section
variable {w w' : World} {v : Value}
theorem FN.vq22.keepN (h:FN.vq22 w v N) (k:KeepsN w w'):FN.vq22 w' v N:=by obtain⟨A,n,c,e,h1,h2⟩:=h;exact⟨A,n,c,e,h1.keepN k,h2⟩
theorem FC.vq22.keepN {x:Option Nat} (h:FC.vq22 w v x) (k:KeepsN w w'):FC.vq22 w' v x:=by
 obtain⟨b,A,n,c,e,h⟩:=h;refine⟨b,A,n,c,e,?_⟩;cases x with
 |none=>exact h
 |some m=>exact⟨h.1,h.2.1.keepN k,h.2.2⟩
theorem FP.vq22.keepN {x:Nat×Option Nat} (h:FP.vq22 w v x) (k:KeepsN w w'):FP.vq22 w' v x:=by
 obtain⟨A,n,c,b,A',n',c',e,h1,h2⟩:=h;exact⟨A,n,c,b,A',n',c',e,h1.keepN k,h2.keepN k⟩
end
theorem Num.re {A:Option Addr} {k c:Nat} (h:Num w A k c b N) (hN:N<PB 100):Num w A k c 100 N:=⟨h.1,jo,h.2.2.1,hN,h.2.2.2.2⟩
theorem ziR (w:World):Num w none 0 0 100 0:=⟨jo,jo,jo,ZP jo,[],⟨Reads.none_,⟨rfl,jo⟩,vz⟩,rfl⟩
theorem Blk.new2 (w:World) (o:Obj) (t:TypeId) (cs:Array Value):Blk ((w.alloc o).alloc (.cells cs t)) (w.heap.size+1) t cs:=by simpa using Blk.new (w.alloc o) t cs
section
variable {w : World} {u v : Value}
theorem zlG {x y:Nat} (hu:FN.vq22 w u x) (hv:FN.vq22 w v y) (h:x*y≤yW):Calls Tryz.prog 217 #[.agg #[],u,v] w (RV w (fun r w'=>FN.vq22 w' r (x*y))):=by
 obtain⟨A,n,c,rfl,ha,-⟩:=hu;obtain⟨B,m,d,rfl,hb,-⟩:=hv;have HA:=vh ha;have HB:=vh hb;have HX:=vh h;clear ha hb h;go_enter Tryz.func217,Tryz.ntmps217;go_wp2_with fail;refine(zth (HA.new (al _ _)) (HB.new (al _ _)) jo).mono ?_;rintro e w2 ⟨A',k,c',rfl,h1,-,h2⟩;have HR:=vh (show FN.vq22 w2 (.slice A' k c') (x*y)∧Below w.heap.size w w2 from⟨⟨_,_,_,rfl,h1.re (zc8 HX.out),HX.out⟩,ze (al _ _) h2 (al _ _).size⟩);exact znU
theorem zlH {x y:Nat} (hu:FN.vq22 w u x) (hv:FN.vq22 w v y) (h:x+y≤yW):Calls Tryz.prog 216 #[.agg #[],u,v] w (RV w (fun r w'=>FN.vq22 w' r (x+y))):=by
 obtain⟨A,n,c,rfl,ha,-⟩:=hu;obtain⟨B,m,d,rfl,hb,-⟩:=hv;have HA:=vh ha;have HB:=vh hb;have HX:=vh h;clear ha hb h;go_enter Tryz.func216,Tryz.ntmps216;go_wp2_with fail;refine(zqm (HA.new (al _ _)) (HB.new (al _ _)) jo).mono ?_;rintro e w2 ⟨A',k,c',rfl,h1,-,h2⟩;have HR:=vh (show FN.vq22 w2 (.slice A' k c') (x+y)∧Below w.heap.size w w2 from⟨⟨_,_,_,rfl,h1.re (zc8 HX.out),HX.out⟩,ze (al _ _) h2 (al _ _).size⟩);exact znU
theorem zc9 (n:Nat):1≤pw2 n:=Nat.pow_pos jo
theorem ziS:1≤yW:=zc9 3000
theorem ziT:Calls Tryz.prog 218 #[.agg #[]] w (RV w (fun r w'=>FN.vq22 w' r 1)):=by
 go_enter Tryz.func218,Tryz.ntmps218;go_wp2_with fail;refine(zhD 1 jo _).mono ?_;rintro e w2 ⟨A',k,c',rfl,h1,-,h2⟩;have HR:=vh (show FN.vq22 w2 (.slice A' k c') 1∧Below w.heap.size w w2 from⟨⟨_,_,_,rfl,h1.re (zc8 ziS),ziS⟩,ze (al _ _) h2 (al _ _).size⟩);exact znU
theorem zft:Calls Tryz.prog 219 #[.agg #[]] w (RV w (fun r w'=>FN.vq22 w' r 0)):=by
 go_enter Tryz.func219,Tryz.ntmps219;go_wp2_with fail;go_ret;exact⟨_,rfl,⟨_,_,_,rfl,ziR _,Nat.zero_le _⟩,al _ _⟩
theorem zfu:Calls Tryz.prog 24 #[.agg #[]] w (RV w (fun r w'=>FC.vq22 w' r none)):=by
 go_enter Tryz.func24,Tryz.ntmps24;go_wp2_with fail;refine bodyPost_ret (v:= .agg #[.bool true,.slice none 0 0]) (results_cell_row Tryz.results24 _ _ _ _ _ (0,0) _ rfl (Blk.new2 _ _ _ _) Tryz.underlying34 rfl vk) rfl ?_;exact⟨_,rfl,⟨_,_,_,_,rfl,rfl⟩,ze (al _ _) (al _ _) (al _ _).size⟩
theorem ziU:Calls Tryz.prog 25 #[.agg #[]] w (RV w (fun r w'=>FC.vq22 w' r (some 0))):=by
 go_enter Tryz.func25,Tryz.ntmps25;go_wp2_with fail;refine bodyPost_ret (v:= .agg #[.bool false,.slice none 0 0]) (results_cell_row Tryz.results25 _ _ _ _ _ (0,0) _ rfl (Blk.new2 _ _ _ _) Tryz.underlying34 rfl vk) rfl ?_;exact⟨_,rfl,⟨_,_,_,_,rfl,rfl,ziR _,jo⟩,ze (al _ _) (al _ _) (al _ _).size⟩
theorem zfv {x:Option Nat} (hu:FC.vq22 w u x):Calls Tryz.prog 46 #[u] w (RV w (fun r w'=>FC.vq22 w' r x)):=by
 obtain⟨b,A,n,c,rfl,h⟩:=hu;cases x with
 |none=>
  obtain rfl:b=true:=h;go_enter Tryz.func46,Tryz.ntmps46;go_wp2_with fail;refine bodyPost_ret (v:= .agg #[.bool true,.slice none 0 0]) (results_cell_row Tryz.results46 _ _ _ _ _ (0,0) _ rfl (Blk.new2 _ _ _ _) Tryz.underlying34 rfl vk) rfl ?_;exact⟨_,rfl,⟨_,_,_,_,rfl,rfl⟩,ze (al _ _) (al _ _) (al _ _).size⟩
 |some N=>
  obtain⟨rfl,hn,hl⟩:=h;have HN:=vh hn;have HL:=vh hl;clear hn hl;go_enter Tryz.func46,Tryz.ntmps46;go_upto_region 1 with (fail);have hbw:=ze (al w (.cells #[.bool false,.slice A n c] 34)) (al _ (.cells #[.bool false,.slice none 0 0] 34)) vz;have HX:=vh ((Blk.new w 34 #[.bool false,.slice A n c]).keep (al _ (.cells #[.bool false,.slice none 0 0] 34)));have HR:=vh (Blk.new (w.alloc (.cells #[.bool false,.slice A n c] 34)) 34 #[.bool false,.slice none 0 0]);rw[show (w.alloc (.cells #[.bool false,.slice A n c] 34)).heap.size=w.heap.size+1 from by simp] at HR;have HB:=vh hbw;replace HN:=vh (HN.new hbw);clear hbw;generalize (w.alloc (.cells #[.bool false,.slice A n c] 34)).alloc (.cells #[.bool false,.slice none 0 0] 34)=w1 at *;obtain⟨g1,hg1⟩:=vx (w.heap.size);obtain⟨g2,hg2⟩:=vx (w.heap.size+1);rw[←hg2] at HR ⊢;rw[←hg1] at HX ⊢;have HGg1:=vh (show w.heap.size≤g1∧w.heap.size≤g2 from by omega);clear hg1 hg2;have HGg2:=vh HGg1.2;have c0:=Blk.at0 HX.out (ue _ _);have c1:=Blk.at1 HX.out (ue _ _);go_wp2_with fail;refine(zrS HN.out jo).mono ?_;rintro e w2 ⟨A',k,c',rfl,h1,-,hb⟩;have HV:=vh h1;clear h1 c0 c1;replace HN:=vh (HN.new hb);replace HB:=vh (ze HB.out hb HB.size);replace HX:=vh (HX.keep hb);replace HR:=vh (HR.keep hb);clear hb;have r0:=Blk.at0 HR.out (ue _ _);have r1:=Blk.at1 HR.out (ue _ _);have f0:=HR.frozen 0;have f1:=HR.frozen 1;go_wp2_with fail;refine bodyPost_ret (v:= .agg #[.bool false,.slice A' k c']) (results_cell_row Tryz.results46 _ _ _ _ _ (0,0) _ rfl ((HR.set_ 0 _).set_ 1 _) Tryz.underlying34 rfl vk) rfl ?_;exact⟨_,rfl,FC.vq22.keepN (x:=some N) ⟨_,_,_,_,rfl,rfl,HV.out,HL.out⟩ ((KeepsN.blk HR.out (i:=0) zs1 zk9 _).trans (KeepsN.blk (HR.set_ 0 _) (i:=1) zs2 zk9 _)),((HB.setCell (p:=⟨g2,0,none⟩) HGg2.out _).setCell (p:=⟨g2,1,none⟩) HGg2.out _)⟩
theorem zlI {x y:Option Nat} (hu:FC.vq22 w u x) (hv:FC.vq22 w v y) (hxy:nmC x*nmC y≤yW):Calls Tryz.prog 26 #[.agg #[],u,v] w (RV w (fun r w'=>FC.vq22 w' r (ZX x y))):=by
 obtain⟨b,A,n,c,rfl,h⟩:=hu;obtain⟨b2,B,m,d,rfl,h2⟩:=hv;cases x with
 |none=>
  obtain rfl:b=true:=h;clear h2;go_enter Tryz.func26,Tryz.ntmps26;go_upto_region 1 with (fail);have hbw:=ze (ze (ze (al w (.cells #[] 40)) (al _ (.cells #[.bool true,.slice A n c] 34)) vz) (al _ (.cells #[.bool b2,.slice B m d] 34)) vj2) (al _ (.cells #[.bool false,.slice none 0 0] 34)) vj2;have HE:=vh ((((Blk.new w 40 #[]).keep (al _ (.cells #[.bool true,.slice A n c] 34))).keep (al _ (.cells #[.bool b2,.slice B m d] 34))).keep (al _ (.cells #[.bool false,.slice none 0 0] 34)));have HX:=vh (((Blk.new (w.alloc (.cells #[] 40)) 34 #[.bool true,.slice A n c]).keep (al _ (.cells #[.bool b2,.slice B m d] 34))).keep (al _ (.cells #[.bool false,.slice none 0 0] 34)));rw[show (w.alloc (.cells #[] 40)).heap.size=w.heap.size+1 from by simp] at HX;have HY:=vh ((Blk.new ((w.alloc (.cells #[] 40)).alloc (.cells #[.bool true,.slice A n c] 34)) 34 #[.bool b2,.slice B m d]).keep (al _ (.cells #[.bool false,.slice none 0 0] 34)));rw[show ((w.alloc (.cells #[] 40)).alloc (.cells #[.bool true,.slice A n c] 34)).heap.size=w.heap.size+1+1 from by simp] at HY;have HR:=vh (Blk.new (((w.alloc (.cells #[] 40)).alloc (.cells #[.bool true,.slice A n c] 34)).alloc (.cells #[.bool b2,.slice B m d] 34)) 34 #[.bool false,.slice none 0 0]);rw[show (((w.alloc (.cells #[] 40)).alloc (.cells #[.bool true,.slice A n c] 34)).alloc (.cells #[.bool b2,.slice B m d] 34)).heap.size=w.heap.size+1+1+1 from by simp] at HR;have HB:=vh hbw;clear hbw;generalize (((w.alloc (.cells #[] 40)).alloc (.cells #[.bool true,.slice A n c] 34)).alloc (.cells #[.bool b2,.slice B m d] 34)).alloc (.cells #[.bool false,.slice none 0 0] 34)=w1 at *;exact vt8
 |some N=>
  obtain⟨rfl,hn,hl⟩:=h;cases y with
  |none=>
   obtain rfl:b2=true:=h2;clear hn hl;go_enter Tryz.func26,Tryz.ntmps26;go_upto_region 1 with (fail);have hbw:=ze (ze (ze (al w (.cells #[] 40)) (al _ (.cells #[.bool false,.slice A n c] 34)) vz) (al _ (.cells #[.bool true,.slice B m d] 34)) vj2) (al _ (.cells #[.bool false,.slice none 0 0] 34)) vj2;have HE:=vh ((((Blk.new w 40 #[]).keep (al _ (.cells #[.bool false,.slice A n c] 34))).keep (al _ (.cells #[.bool true,.slice B m d] 34))).keep (al _ (.cells #[.bool false,.slice none 0 0] 34)));have HX:=vh (((Blk.new (w.alloc (.cells #[] 40)) 34 #[.bool false,.slice A n c]).keep (al _ (.cells #[.bool true,.slice B m d] 34))).keep (al _ (.cells #[.bool false,.slice none 0 0] 34)));rw[show (w.alloc (.cells #[] 40)).heap.size=w.heap.size+1 from by simp] at HX;have HY:=vh ((Blk.new ((w.alloc (.cells #[] 40)).alloc (.cells #[.bool false,.slice A n c] 34)) 34 #[.bool true,.slice B m d]).keep (al _ (.cells #[.bool false,.slice none 0 0] 34)));rw[show ((w.alloc (.cells #[] 40)).alloc (.cells #[.bool false,.slice A n c] 34)).heap.size=w.heap.size+1+1 from by simp] at HY;have HR:=vh (Blk.new (((w.alloc (.cells #[] 40)).alloc (.cells #[.bool false,.slice A n c] 34)).alloc (.cells #[.bool true,.slice B m d] 34)) 34 #[.bool false,.slice none 0 0]);rw[show (((w.alloc (.cells #[] 40)).alloc (.cells #[.bool false,.slice A n c] 34)).alloc (.cells #[.bool true,.slice B m d] 34)).heap.size=w.heap.size+1+1+1 from by simp] at HR;have HB:=vh hbw;clear hbw;generalize (((w.alloc (.cells #[] 40)).alloc (.cells #[.bool false,.slice A n c] 34)).alloc (.cells #[.bool true,.slice B m d] 34)).alloc (.cells #[.bool false,.slice none 0 0] 34)=w1 at *;exact vt8
  |some M=>
   obtain⟨rfl,hm,hl2⟩:=h2;have HN:=vh hn;have HM:=vh hm;have HL:=vh (show N+M≤3000 from zrU (by have:pw2 N*pw2 M≤yW:=hxy;rw[ziQ] at this;exact this));clear hn hl hm hl2 hxy;go_enter Tryz.func26,Tryz.ntmps26;go_upto_region 1 with (fail);have hbw:=ze (ze (ze (al w (.cells #[] 40)) (al _ (.cells #[.bool false,.slice A n c] 34)) vz) (al _ (.cells #[.bool false,.slice B m d] 34)) vj2) (al _ (.cells #[.bool false,.slice none 0 0] 34)) vj2;have HE:=vh ((((Blk.new w 40 #[]).keep (al _ (.cells #[.bool false,.slice A n c] 34))).keep (al _ (.cells #[.bool false,.slice B m d] 34))).keep (al _ (.cells #[.bool false,.slice none 0 0] 34)));have HX:=vh (((Blk.new (w.alloc (.cells #[] 40)) 34 #[.bool false,.slice A n c]).keep (al _ (.cells #[.bool false,.slice B m d] 34))).keep (al _ (.cells #[.bool false,.slice none 0 0] 34)));rw[show (w.alloc (.cells #[] 40)).heap.size=w.heap.size+1 from by simp] at HX;have HY:=vh ((Blk.new ((w.alloc (.cells #[] 40)).alloc (.cells #[.bool false,.slice A n c] 34)) 34 #[.bool false,.slice B m d]).keep (al _ (.cells #[.bool false,.slice none 0 0] 34)));rw[show ((w.alloc (.cells #[] 40)).alloc (.cells #[.bool false,.slice A n c] 34)).heap.size=w.heap.size+1+1 from by simp] at HY;have HR:=vh (Blk.new (((w.alloc (.cells #[] 40)).alloc (.cells #[.bool false,.slice A n c] 34)).alloc (.cells #[.bool false,.slice B m d] 34)) 34 #[.bool false,.slice none 0 0]);rw[show (((w.alloc (.cells #[] 40)).alloc (.cells #[.bool false,.slice A n c] 34)).alloc (.cells #[.bool false,.slice B m d] 34)).heap.size=w.heap.size+1+1+1 from by simp] at HR;have HB:=vh hbw;replace HN:=vh (HN.new hbw);replace HM:=vh (HM.new hbw);clear hbw;generalize (((w.alloc (.cells #[] 40)).alloc (.cells #[.bool false,.slice A n c] 34)).alloc (.cells #[.bool false,.slice B m d] 34)).alloc (.cells #[.bool false,.slice none 0 0] 34)=w1 at *;obtain⟨g0,hg0⟩:=vx (w.heap.size);obtain⟨g1,hg1⟩:=vx (w.heap.size+1);obtain⟨g2,hg2⟩:=vx (w.heap.size+1+1);obtain⟨g3,hg3⟩:=vx (w.heap.size+1+1+1);rw[←hg3] at HR ⊢;rw[←hg2] at HY ⊢;rw[←hg1] at HX ⊢;rw[←hg0] at HE ⊢;have HGg0:=vh (show w.heap.size≤g0∧w.heap.size≤g1∧w.heap.size≤g2∧w.heap.size≤g3 from by omega);clear hg0 hg1 hg2 hg3;have HGg3:=vh HGg0.2.2.2;have x0:=Blk.at0 HX.out (ue _ _);have x1:=Blk.at1 HX.out (ue _ _);have y0:=Blk.at0 HY.out (ue _ _);have y1:=Blk.at1 HY.out (ue _ _);go_wp2_with fail;refine(zqm HN.out HM.out jo).mono ?_;rintro e w2 ⟨A',k,c',rfl,h1,-,hb⟩;have HV:=vh h1;clear h1 x0 x1 y0 y1;replace HN:=vh (HN.new hb);replace HM:=vh (HM.new hb);replace HB:=vh (ze HB.out hb HB.size);replace HE:=vh (HE.keep hb);replace HX:=vh (HX.keep hb);replace HY:=vh (HY.keep hb);replace HR:=vh (HR.keep hb);clear hb;have r0:=Blk.at0 HR.out (ue _ _);have r1:=Blk.at1 HR.out (ue _ _);have f0:=HR.frozen 0;have f1:=HR.frozen 1;go_wp2_with fail;refine bodyPost_ret (v:= .agg #[.bool false,.slice A' k c']) (results_cell_row Tryz.results26 _ _ _ _ _ (0,0) _ rfl ((HR.set_ 0 _).set_ 1 _) Tryz.underlying34 rfl vk) rfl ?_;exact⟨_,rfl,FC.vq22.keepN (x:=some (N+M)) ⟨_,_,_,_,rfl,rfl,HV.re (ZP HL.out),HL.out⟩ ((KeepsN.blk HR.out (i:=0) zs1 zk9 _).trans (KeepsN.blk (HR.set_ 0 _) (i:=1) zs2 zk9 _)),((HB.setCell (p:=⟨g3,0,none⟩) HGg3.out _).setCell (p:=⟨g3,1,none⟩) HGg3.out _)⟩
theorem zlJ {x y:Option Nat} (hu:FC.vq22 w u x) (hv:FC.vq22 w v y):Calls Tryz.prog 27 #[.agg #[],u,v] w (RV w (fun r w'=>FC.vq22 w' r (YQ x y))):=by
 obtain⟨b,A,n,c,rfl,h⟩:=hu;obtain⟨b2,B,m,d,rfl,h2⟩:=hv;cases y with
 |none=>
  obtain rfl:b2=true:=h2;rw[show YQ x none=x by cases x <;> rfl];have HQ:=vh (show FC.vq22 w (.agg #[.bool b,.slice A n c]) x from⟨_,_,_,_,rfl,h⟩);clear h;go_enter Tryz.func27,Tryz.ntmps27;go_upto_region 1 with (fail);have hbw:=ze (ze (ze (al w (.cells #[] 40)) (al _ (.cells #[.bool b,.slice A n c] 34)) vz) (al _ (.cells #[.bool true,.slice B m d] 34)) vj2) (al _ (.cells #[.bool false,.slice none 0 0] 34)) vj2;have HE:=vh ((((Blk.new w 40 #[]).keep (al _ (.cells #[.bool b,.slice A n c] 34))).keep (al _ (.cells #[.bool true,.slice B m d] 34))).keep (al _ (.cells #[.bool false,.slice none 0 0] 34)));have HX:=vh (((Blk.new (w.alloc (.cells #[] 40)) 34 #[.bool b,.slice A n c]).keep (al _ (.cells #[.bool true,.slice B m d] 34))).keep (al _ (.cells #[.bool false,.slice none 0 0] 34)));rw[show (w.alloc (.cells #[] 40)).heap.size=w.heap.size+1 from by simp] at HX;have HY:=vh ((Blk.new ((w.alloc (.cells #[] 40)).alloc (.cells #[.bool b,.slice A n c] 34)) 34 #[.bool true,.slice B m d]).keep (al _ (.cells #[.bool false,.slice none 0 0] 34)));rw[show ((w.alloc (.cells #[] 40)).alloc (.cells #[.bool b,.slice A n c] 34)).heap.size=w.heap.size+1+1 from by simp] at HY;have HR:=vh (Blk.new (((w.alloc (.cells #[] 40)).alloc (.cells #[.bool b,.slice A n c] 34)).alloc (.cells #[.bool true,.slice B m d] 34)) 34 #[.bool false,.slice none 0 0]);rw[show (((w.alloc (.cells #[] 40)).alloc (.cells #[.bool b,.slice A n c] 34)).alloc (.cells #[.bool true,.slice B m d] 34)).heap.size=w.heap.size+1+1+1 from by simp] at HR;have HB:=vh hbw;clear hbw;generalize (((w.alloc (.cells #[] 40)).alloc (.cells #[.bool b,.slice A n c] 34)).alloc (.cells #[.bool true,.slice B m d] 34)).alloc (.cells #[.bool false,.slice none 0 0] 34)=w1 at *;obtain⟨g0,hg0⟩:=vx (w.heap.size);obtain⟨g1,hg1⟩:=vx (w.heap.size+1);obtain⟨g2,hg2⟩:=vx (w.heap.size+1+1);obtain⟨g3,hg3⟩:=vx (w.heap.size+1+1+1);rw[←hg3] at HR ⊢;rw[←hg2] at HY ⊢;rw[←hg1] at HX ⊢;rw[←hg0] at HE ⊢;have HGg0:=vh (show w.heap.size≤g0∧w.heap.size≤g1∧w.heap.size≤g2∧w.heap.size≤g3 from by omega);clear hg0 hg1 hg2 hg3;have HGg3:=vh HGg0.2.2.2;have x0:=Blk.at0 HX.out (ue _ _);have x1:=Blk.at1 HX.out (ue _ _);have y0:=Blk.at0 HY.out (ue _ _);have y1:=Blk.at1 HY.out (ue _ _);skip;go_wp2_with fail;refine(zfv (HQ.keepN (KeepsN.below (HB.mono (ug _))))).mono ?_;rintro e w2 ⟨r,rfl,hr,hb⟩;obtain⟨b9,A9,k9,c9,rfl,hr2⟩:=hr;have HV:=vh (show FC.vq22 w2 (.agg #[.bool b9,.slice A9 k9 c9]) (x) from⟨_,_,_,_,rfl,hr2⟩);clear hr2 x0 x1 y0 y1;exact vt10
 |some M=>
  obtain⟨rfl,hm,hl2⟩:=h2;cases x with
  |none=>
   obtain rfl:b=true:=h;have HQ:=vh (show FC.vq22 w (.agg #[.bool false,.slice B m d]) (some M) from⟨_,_,_,_,rfl,rfl,hm,hl2⟩);clear hm hl2;go_enter Tryz.func27,Tryz.ntmps27;go_upto_region 1 with (fail);have hbw:=ze (ze (ze (al w (.cells #[] 40)) (al _ (.cells #[.bool true,.slice A n c] 34)) vz) (al _ (.cells #[.bool false,.slice B m d] 34)) vj2) (al _ (.cells #[.bool false,.slice none 0 0] 34)) vj2;have HE:=vh ((((Blk.new w 40 #[]).keep (al _ (.cells #[.bool true,.slice A n c] 34))).keep (al _ (.cells #[.bool false,.slice B m d] 34))).keep (al _ (.cells #[.bool false,.slice none 0 0] 34)));have HX:=vh (((Blk.new (w.alloc (.cells #[] 40)) 34 #[.bool true,.slice A n c]).keep (al _ (.cells #[.bool false,.slice B m d] 34))).keep (al _ (.cells #[.bool false,.slice none 0 0] 34)));rw[show (w.alloc (.cells #[] 40)).heap.size=w.heap.size+1 from by simp] at HX;have HY:=vh ((Blk.new ((w.alloc (.cells #[] 40)).alloc (.cells #[.bool true,.slice A n c] 34)) 34 #[.bool false,.slice B m d]).keep (al _ (.cells #[.bool false,.slice none 0 0] 34)));rw[show ((w.alloc (.cells #[] 40)).alloc (.cells #[.bool true,.slice A n c] 34)).heap.size=w.heap.size+1+1 from by simp] at HY;have HR:=vh (Blk.new (((w.alloc (.cells #[] 40)).alloc (.cells #[.bool true,.slice A n c] 34)).alloc (.cells #[.bool false,.slice B m d] 34)) 34 #[.bool false,.slice none 0 0]);rw[show (((w.alloc (.cells #[] 40)).alloc (.cells #[.bool true,.slice A n c] 34)).alloc (.cells #[.bool false,.slice B m d] 34)).heap.size=w.heap.size+1+1+1 from by simp] at HR;have HB:=vh hbw;clear hbw;generalize (((w.alloc (.cells #[] 40)).alloc (.cells #[.bool true,.slice A n c] 34)).alloc (.cells #[.bool false,.slice B m d] 34)).alloc (.cells #[.bool false,.slice none 0 0] 34)=w1 at *;obtain⟨g0,hg0⟩:=vx (w.heap.size);obtain⟨g1,hg1⟩:=vx (w.heap.size+1);obtain⟨g2,hg2⟩:=vx (w.heap.size+1+1);obtain⟨g3,hg3⟩:=vx (w.heap.size+1+1+1);rw[←hg3] at HR ⊢;rw[←hg2] at HY ⊢;rw[←hg1] at HX ⊢;rw[←hg0] at HE ⊢;have HGg0:=vh (show w.heap.size≤g0∧w.heap.size≤g1∧w.heap.size≤g2∧w.heap.size≤g3 from by omega);clear hg0 hg1 hg2 hg3;have HGg3:=vh HGg0.2.2.2;have x0:=Blk.at0 HX.out (ue _ _);have x1:=Blk.at1 HX.out (ue _ _);have y0:=Blk.at0 HY.out (ue _ _);have y1:=Blk.at1 HY.out (ue _ _);go_wp2_with fail;refine(zfv (HQ.keepN (KeepsN.below HB.out))).mono ?_;rintro e w2 ⟨r,rfl,hr,hb⟩;obtain⟨b9,A9,k9,c9,rfl,hr2⟩:=hr;have HV:=vh (show FC.vq22 w2 (.agg #[.bool b9,.slice A9 k9 c9]) (some M) from⟨_,_,_,_,rfl,hr2⟩);clear hr2 x0 x1 y0 y1;exact vt10
  |some N=>
   obtain⟨rfl,hn,hl⟩:=h;have HQ:=vh (show FC.vq22 w (.agg #[.bool false,.slice A n c]) (some N) from⟨_,_,_,_,rfl,rfl,hn,hl⟩);have HQ2:=vh (show FC.vq22 w (.agg #[.bool false,.slice B m d]) (some M) from⟨_,_,_,_,rfl,rfl,hm,hl2⟩);have HN:=vh hn;have HM:=vh hm;clear hn hl hm hl2;go_enter Tryz.func27,Tryz.ntmps27;go_upto_region 1 with (fail);have hbw:=ze (ze (ze (al w (.cells #[] 40)) (al _ (.cells #[.bool false,.slice A n c] 34)) vz) (al _ (.cells #[.bool false,.slice B m d] 34)) vj2) (al _ (.cells #[.bool false,.slice none 0 0] 34)) vj2;have HE:=vh ((((Blk.new w 40 #[]).keep (al _ (.cells #[.bool false,.slice A n c] 34))).keep (al _ (.cells #[.bool false,.slice B m d] 34))).keep (al _ (.cells #[.bool false,.slice none 0 0] 34)));have HX:=vh (((Blk.new (w.alloc (.cells #[] 40)) 34 #[.bool false,.slice A n c]).keep (al _ (.cells #[.bool false,.slice B m d] 34))).keep (al _ (.cells #[.bool false,.slice none 0 0] 34)));rw[show (w.alloc (.cells #[] 40)).heap.size=w.heap.size+1 from by simp] at HX;have HY:=vh ((Blk.new ((w.alloc (.cells #[] 40)).alloc (.cells #[.bool false,.slice A n c] 34)) 34 #[.bool false,.slice B m d]).keep (al _ (.cells #[.bool false,.slice none 0 0] 34)));rw[show ((w.alloc (.cells #[] 40)).alloc (.cells #[.bool false,.slice A n c] 34)).heap.size=w.heap.size+1+1 from by simp] at HY;have HR:=vh (Blk.new (((w.alloc (.cells #[] 40)).alloc (.cells #[.bool false,.slice A n c] 34)).alloc (.cells #[.bool false,.slice B m d] 34)) 34 #[.bool false,.slice none 0 0]);rw[show (((w.alloc (.cells #[] 40)).alloc (.cells #[.bool false,.slice A n c] 34)).alloc (.cells #[.bool false,.slice B m d] 34)).heap.size=w.heap.size+1+1+1 from by simp] at HR;have HB:=vh hbw;replace HN:=vh (HN.new hbw);replace HM:=vh (HM.new hbw);clear hbw;generalize (((w.alloc (.cells #[] 40)).alloc (.cells #[.bool false,.slice A n c] 34)).alloc (.cells #[.bool false,.slice B m d] 34)).alloc (.cells #[.bool false,.slice none 0 0] 34)=w1 at *;obtain⟨g0,hg0⟩:=vx (w.heap.size);obtain⟨g1,hg1⟩:=vx (w.heap.size+1);obtain⟨g2,hg2⟩:=vx (w.heap.size+1+1);obtain⟨g3,hg3⟩:=vx (w.heap.size+1+1+1);rw[←hg3] at HR ⊢;rw[←hg2] at HY ⊢;rw[←hg1] at HX ⊢;rw[←hg0] at HE ⊢;have HGg0:=vh (show w.heap.size≤g0∧w.heap.size≤g1∧w.heap.size≤g2∧w.heap.size≤g3 from by omega);clear hg0 hg1 hg2 hg3;have HGg3:=vh HGg0.2.2.2;have x0:=Blk.at0 HX.out (ue _ _);have x1:=Blk.at1 HX.out (ue _ _);have y0:=Blk.at0 HY.out (ue _ _);have y1:=Blk.at1 HY.out (ue _ _);go_wp2_with fail;refine(zgd HN.out HM.out).mono ?_;rintro e w2 ⟨rfl,hb⟩;clear x0 x1 y0 y1;replace HN:=vh (HN.new hb);replace HM:=vh (HM.new hb);replace HB:=vh (ze HB.out hb HB.size);replace HE:=vh (HE.keep hb);replace HX:=vh (HX.keep hb);replace HY:=vh (HY.keep hb);replace HR:=vh (HR.keep hb);clear hb;have x0:=Blk.at0 HX.out (ue _ _);have x1:=Blk.at1 HX.out (ue _ _);have y0:=Blk.at0 HY.out (ue _ _);have y1:=Blk.at1 HY.out (ue _ _);by_cases hnm:N≤M
   ·have t1:(YE N M≤0):=by unfold YE;split <;> (try split) <;> omega
    have HAd:=vh (show YQ (some N) (some M)=some N by simp[YQ,Nat.min_eq_left hnm]);go_wp2_with fail;refine(zfv (HQ.keepN (KeepsN.below HB.out))).mono ?_;rintro e w3 ⟨r,rfl,hr,hb⟩;obtain⟨b9,A9,k9,c9,rfl,hr2⟩:=hr;have HV:=vh (show FC.vq22 w3 (.agg #[.bool b9,.slice A9 k9 c9]) (some N) from⟨_,_,_,_,rfl,hr2⟩);clear hr2 x0 x1 y0 y1;exact vt12
   ·have t1:¬(YE N M≤0):=by unfold YE;split <;> (try split) <;> omega
    have HAd:=vh (show YQ (some N) (some M)=some M by simp[YQ,Nat.min_eq_right (by omega:M≤N)]);go_wp2_with fail;refine(zfv (HQ2.keepN (KeepsN.below HB.out))).mono ?_;rintro e w3 ⟨r,rfl,hr,hb⟩;obtain⟨b9,A9,k9,c9,rfl,hr2⟩:=hr;have HV:=vh (show FC.vq22 w3 (.agg #[.bool b9,.slice A9 k9 c9]) (some M) from⟨_,_,_,_,rfl,hr2⟩);clear hr2 x0 x1 y0 y1;exact vt12
end
def nmP (x:Nat×Option Nat):Nat:=x.1+nmC x.2
theorem Blk.at_k {w':World} {g off:Nat} {l:List Value} (h:Blk w g t cs) (hl:(cs.toList.drop off).take l.length=l) (hb:Below w.heap.size w w'):∀(j:Nat) (u:Value),l[j]? = some u→w'.cell? ((⟨g,off,none⟩:Addr).add j)=some u:=by
 intro j u hj;rw[Addr.add_mid,(h.keep hb).cell];rw[←hl] at hj;have hjl:j<l.length:=by
  rcases Nat.lt_or_ge j l.length with h1 | h1
  ·exact h1
  ·rw[List.getElem?_take_eq_none h1] at hj;cases hj
 rw[List.getElem?_take_of_lt hjl,List.getElem?_drop] at hj;simpa using hj
theorem zhN (A:Option Addr) (k c:Nat) (b:Bool) (B:Option Addr) (m d:Nat):Tryz.prog.built 61 [(0,.slice A k c),(1,.agg #[.bool b,.slice B m d])]=some #[.slice A k c,.bool b,.slice B m d]:=by kernel_rfl
theorem zD (h:cs.toList.all okC=true) (j:Nat) (x:Int):cs[j]?≠some (.int .u32 x):=by
 intro he;have h1:Value.int .u32 x∈cs.toList:=ui (l:=cs.toList) (i:=j) (by simpa using he);have:=(List.all_eq_true.1 h) _ h1;cases this
def zgm:Value:= .agg #[.iface 39 (.agg #[]),.iface 40 (.agg #[])]
section
variable {w : World} {u v : Value}
theorem vn4 {P:Prop} (h:P:=by
 obtain⟨A,n,c,b,A',n',c',rfl,hn,hc⟩:=hu;obtain⟨B,m,d,b2,B',m',d',rfl,hm,hd⟩:=hv;have HN:=vh hn;have HC:=vh hc;have HM:=vh hm;have HD:=vh hd;first
 |guard_expr ins4 =~ 0
  have HX1:=vh (show x.1*y.1≤yW from ud (Nat.mul_le_mul (Nat.le_add_right _ _) (Nat.le_add_right _ _)) hxy)
  have HX2:=vh (show nmC x.2*nmC y.2≤yW from ud (Nat.mul_le_mul (Nat.le_add_left _ _) (Nat.le_add_left _ _)) hxy)
 |have HX1:=vh (show x.1+y.1≤yW from ud (Nat.add_le_add (Nat.le_add_right _ _) (Nat.le_add_right _ _)) hxy)
 clear hn hc hm hd hxy;unfold zgm;first | go_enter Tryz.func264,Tryz.ntmps264 | go_enter Tryz.func263,Tryz.ntmps263
 go_upto_region 1 with (fail);have hbw:=ze (ze (ze (al w (.cells #[.iface 39 (.agg #[]),.iface 40 (.agg #[])] 47)) (al _ (.cells #[.slice A n c,.bool b,.slice A' n' c'] 61)) vz) (al _ (.cells #[.slice B m d,.bool b2,.slice B' m' d'] 61)) vj2) (al _ (.cells #[.slice none 0 0,.bool false,.slice none 0 0] 61)) vj2;have HV:=vh ((((Blk.new w 47 #[.iface 39 (.agg #[]),.iface 40 (.agg #[])]).keep (al _ (.cells #[.slice A n c,.bool b,.slice A' n' c'] 61))).keep (al _ (.cells #[.slice B m d,.bool b2,.slice B' m' d'] 61))).keep (al _ (.cells #[.slice none 0 0,.bool false,.slice none 0 0] 61)));have HP:=vh (((Blk.new (w.alloc (.cells #[.iface 39 (.agg #[]),.iface 40 (.agg #[])] 47)) 61 #[.slice A n c,.bool b,.slice A' n' c']).keep (al _ (.cells #[.slice B m d,.bool b2,.slice B' m' d'] 61))).keep (al _ (.cells #[.slice none 0 0,.bool false,.slice none 0 0] 61)));rw[show (w.alloc (.cells #[.iface 39 (.agg #[]),.iface 40 (.agg #[])] 47)).heap.size=w.heap.size+1 from by simp] at HP;have HQ:=vh ((Blk.new ((w.alloc (.cells #[.iface 39 (.agg #[]),.iface 40 (.agg #[])] 47)).alloc (.cells #[.slice A n c,.bool b,.slice A' n' c'] 61)) 61 #[.slice B m d,.bool b2,.slice B' m' d']).keep (al _ (.cells #[.slice none 0 0,.bool false,.slice none 0 0] 61)));rw[show ((w.alloc (.cells #[.iface 39 (.agg #[]),.iface 40 (.agg #[])] 47)).alloc (.cells #[.slice A n c,.bool b,.slice A' n' c'] 61)).heap.size=w.heap.size+1+1 from by simp] at HQ;have HR:=vh (Blk.new (((w.alloc (.cells #[.iface 39 (.agg #[]),.iface 40 (.agg #[])] 47)).alloc (.cells #[.slice A n c,.bool b,.slice A' n' c'] 61)).alloc (.cells #[.slice B m d,.bool b2,.slice B' m' d'] 61)) 61 #[.slice none 0 0,.bool false,.slice none 0 0]);rw[show (((w.alloc (.cells #[.iface 39 (.agg #[]),.iface 40 (.agg #[])] 47)).alloc (.cells #[.slice A n c,.bool b,.slice A' n' c'] 61)).alloc (.cells #[.slice B m d,.bool b2,.slice B' m' d'] 61)).heap.size=w.heap.size+1+1+1 from by simp] at HR;have HB:=vh hbw;clear hbw;generalize (((w.alloc (.cells #[.iface 39 (.agg #[]),.iface 40 (.agg #[])] 47)).alloc (.cells #[.slice A n c,.bool b,.slice A' n' c'] 61)).alloc (.cells #[.slice B m d,.bool b2,.slice B' m' d'] 61)).alloc (.cells #[.slice none 0 0,.bool false,.slice none 0 0] 61)=w1 at *;obtain⟨g0,hg0⟩:=vx (w.heap.size);obtain⟨g1,hg1⟩:=vx (w.heap.size+1);obtain⟨g2,hg2⟩:=vx (w.heap.size+1+1);obtain⟨g3,hg3⟩:=vx (w.heap.size+1+1+1);rw[←hg3] at HR ⊢;rw[←hg2] at HQ ⊢;rw[←hg1] at HP ⊢;rw[←hg0] at HV ⊢;have HGg0:=vh (show w.heap.size≤g0∧w.heap.size≤g1∧w.heap.size≤g2∧w.heap.size≤g3 from by omega);clear hg0 hg1 hg2 hg3;have HGg3:=vh HGg0.2.2.2;first
 |guard_expr ins4 =~ 0
  refine zt (kss:=[[],[(0,7)],[],[(2,9)],[],[(4,11)],[(1,8),(3,10),(5,12)],[],[(7,14)],[],[(9,16)],[],[(11,18)],[(8,15),(10,17),(12,19)],[(6,13),(13,20)]]) [(3,.pointer (some (⟨g0,0,none⟩))),(4,.pointer (some (⟨g1,0,none⟩))),(5,.pointer (some (⟨g2,0,none⟩)))] [EV (.pointer (some (⟨g0,0,none⟩))),EV (.iface 39 (.agg #[])),EV (.pointer (some (⟨g1,0,none⟩))),EV (.slice A n c),EV (.pointer (some (⟨g2,0,none⟩))),EV (.slice B m d),fun zz ww=>FN.vq22 ww zz (x.1*y.1),EV (.pointer (some (⟨g0,1,none⟩))),EV (.iface 40 (.agg #[])),EV (.pointer (some (⟨g1,1,none⟩))),EV (.agg #[.bool b,.slice A' n' c']),EV (.pointer (some (⟨g2,1,none⟩))),EV (.agg #[.bool b2,.slice B' m' d']),fun zz ww=>FC.vq22 ww zz (ZX x.2 y.2),fun zz ww=>FP.vq22 ww zz (x.1*y.1,ZX x.2 y.2)] 15 [] vk vk vt [false,false,false,false,false,false,false,false,false,false,false,false,false,false,false] ?_ ?_ ?_ ?_
 |refine zt (kss:=[[],[(0,7)],[],[(2,9)],[],[(4,11)],[(1,8),(3,10),(5,12)],[],[(7,14)],[],[(9,16)],[],[(11,18)],[(8,15),(10,17),(12,19)],[(6,13),(13,20)]]) [(3,.pointer (some (⟨g0,0,none⟩))),(4,.pointer (some (⟨g1,0,none⟩))),(5,.pointer (some (⟨g2,0,none⟩)))] [EV (.pointer (some (⟨g0,0,none⟩))),EV (.iface 39 (.agg #[])),EV (.pointer (some (⟨g1,0,none⟩))),EV (.slice A n c),EV (.pointer (some (⟨g2,0,none⟩))),EV (.slice B m d),fun zz ww=>FN.vq22 ww zz (x.1+y.1),EV (.pointer (some (⟨g0,1,none⟩))),EV (.iface 40 (.agg #[])),EV (.pointer (some (⟨g1,1,none⟩))),EV (.agg #[.bool b,.slice A' n' c']),EV (.pointer (some (⟨g2,1,none⟩))),EV (.agg #[.bool b2,.slice B' m' d']),fun zz ww=>FC.vq22 ww zz (YQ x.2 y.2),fun zz ww=>FP.vq22 ww zz (x.1+y.1,YQ x.2 y.2)] 15 [] vk vk vt [false,false,false,false,false,false,false,false,false,false,false,false,false,false,false] ?_ ?_ ?_ ?_
 ·exact fun i hi=>absurd hi vz
 ·exact⟨eI,eI,eI,eI,eI,eI,fun _ _ _ h hb=>h.keepN (KeepsN.below hb),eI,eI,eI,eI,eI,eI,fun _ _ _ h hb=>h.keepN (KeepsN.below hb),fun _ _ _ h hb=>h.keepN (KeepsN.below hb),uC⟩
 ·refine⟨?_,?_,?_,?_,?_,?_,?_,?_,?_,?_,?_,?_,?_,?_,?_,uC⟩
  ·exact fun aa ww hb he hd=>za rfl (zw (off:=0) rfl vk he.1)
  ·exact fun aa ww hb he hd=>za rfl (zd rfl vk hd.1 (Blk.at0 HV.out hb))
  ·exact fun aa ww hb he hd=>za rfl (zw (off:=0) rfl vk he.2.1)
  ·exact fun aa ww hb he hd=>za rfl (zd rfl vk hd.1 (Blk.at0 HP.out hb))
  ·exact fun aa ww hb he hd=>za rfl (zw (off:=0) rfl vk he.2.2.1)
  ·exact fun aa ww hb he hd=>za rfl (zd rfl vk hd.1 (Blk.at0 HQ.out hb))
  ·exact fun aa ww hb he hd=>za rfl (yE _ _ _ rfl hd.1 vr9 vk (by rw[show aa.eval (.tmp 10)=_ from hd.2.1,show aa.eval (.tmp 12)=_ from hd.2.2.1];exact(vr10 (HN.keepN (KeepsN.below (ze HB.out hb HB.size))) (HM.keepN (KeepsN.below (ze HB.out hb HB.size))) HX1.out)))
  ·exact fun aa ww hb he hd=>za rfl (zw (off:=1) rfl vk he.1)
  ·exact fun aa ww hb he hd=>za rfl (zd rfl vk hd.1 (Blk.at1 HV.out hb))
  ·exact fun aa ww hb he hd=>za rfl (zw (off:=1) rfl vk he.2.1)
  ·exact fun aa ww hb he hd=>za rfl (zg (cs:=[.bool b,.slice A' n' c']) rfl vk vk hd.1 (Blk.at_k HP.out rfl hb))
  ·exact fun aa ww hb he hd=>za rfl (zw (off:=1) rfl vk he.2.2.1)
  ·exact fun aa ww hb he hd=>za rfl (zg (cs:=[.bool b2,.slice B' m' d']) rfl vk vk hd.1 (Blk.at_k HQ.out rfl hb))
  ·first
   |guard_expr ins4 =~ 0
    exact fun aa ww hb he hd=>za rfl (yE _ _ _ rfl hd.1 zeD vk (by rw[show aa.eval (.tmp 17)=_ from hd.2.1,show aa.eval (.tmp 19)=_ from hd.2.2.1];exact(zlI (HC.keepN (KeepsN.below (ze HB.out hb HB.size))) (HD.keepN (KeepsN.below (ze HB.out hb HB.size))) HX2.out)))
   |exact fun aa ww hb he hd=>za rfl (yE _ _ _ rfl hd.1 zcm vk (by rw[show aa.eval (.tmp 17)=_ from hd.2.1,show aa.eval (.tmp 19)=_ from hd.2.2.1];exact(zlJ (HC.keepN (KeepsN.below (ze HB.out hb HB.size))) (HD.keepN (KeepsN.below (ze HB.out hb HB.size))))))
  ·exact fun aa ww hb he hd=>za rfl vj83
 intro vs w2 hb hR _;have r21:=hR 14 jd;clear hR;refine vs0 ?_;obtain⟨A9,k9,c9,b9,B9,m9,d9,e9,hN9,hC9⟩:=r21;rw[e9];clear e9;first
 |guard_expr ins4 =~ 0
  have HV9:=vh (show FP.vq22 w2 (.agg #[.slice A9 k9 c9,.bool b9,.slice B9 m9 d9]) (x.1*y.1,ZX x.2 y.2) from⟨_,_,_,_,_,_,_,rfl,hN9,hC9⟩)
 |have HV9:=vh (show FP.vq22 w2 (.agg #[.slice A9 k9 c9,.bool b9,.slice B9 m9 d9]) (x.1+y.1,YQ x.2 y.2) from⟨_,_,_,_,_,_,_,rfl,hN9,hC9⟩)
 clear hN9 hC9;replace HR:=vh (HR.keep hb);replace HB:=vh (ze HB.out hb HB.size);clear hb;show wpAny _ _ _ _ 1 _ _ _;refine zA (i:=15) vk rfl rfl (zC (vs:=[.slice A9 k9 c9,.bool b9,.slice B9 m9 d9]) (off:=0) rfl rfl vk rfl rfl rfl HR.out vj4 (fun j _ _ x=>zD rfl j x) ?_);intro w3 kn hg hs hb3;refine zR vk (zy ?_) _;first
 |guard_expr ins4 =~ 0
  have HF:=vh (show FP.vq22 w3 (.agg #[.slice A9 k9 c9,.bool b9,.slice B9 m9 d9]) (x.1*y.1,ZX x.2 y.2)∧Below w.heap.size w w3∧Blk w3 g3 61 #[.slice A9 k9 c9,.bool b9,.slice B9 m9 d9] from⟨HV9.keepN kn,HB.grown hg HB.size (fun k e=>by cases e;exact HGg3.out),hb3⟩)
 |have HF:=vh (show FP.vq22 w3 (.agg #[.slice A9 k9 c9,.bool b9,.slice B9 m9 d9]) (x.1+y.1,YQ x.2 y.2)∧Below w.heap.size w w3∧Blk w3 g3 61 #[.slice A9 k9 c9,.bool b9,.slice B9 m9 d9] from⟨HV9.keepN kn,HB.grown hg HB.size (fun k e=>by cases e;exact HGg3.out),hb3⟩)
 clear kn hg hs hb3 HV9 HR HB;go_wp2_with fail;refine bodyPost_ret (v:= .agg #[.slice A9 k9 c9,.bool b9,.slice B9 m9 d9]) (results_cell_row vr11 _ _ _ _ _ (0,0) _ rfl HF.2.2 Tryz.underlying61 rfl vk) rfl ?_;exact⟨_,rfl,HF.1,HF.2.1⟩):P:=h
theorem QA.vr9:type_of% @zao:=@zao
theorem QA.vr10:type_of% @zlG:=@zlG
theorem QA.vr11:type_of% @Tryz.results264:=@Tryz.results264
abbrev QA.ins4:Nat:=0
theorem QA.p_mul {x y:Nat×Option Nat} (hu:FP.vq22 w u x) (hv:FP.vq22 w v y) (hxy:nmP x*nmP y≤yW):Calls Tryz.prog 264 #[zgm,u,v] w (RV w (fun r w'=>FP.vq22 w' r (FP.vq14.mul x y))):=by
 exact vn4
theorem QB.vr9:type_of% @zap:=@zap
theorem QB.vr10:type_of% @zlH:=@zlH
theorem QB.vr11:type_of% @Tryz.results263:=@Tryz.results263
abbrev QB.ins4:Nat:=1
theorem QB.p_add {x y:Nat×Option Nat} (hu:FP.vq22 w u x) (hv:FP.vq22 w v y) (hxy:nmP x+nmP y≤yW):Calls Tryz.prog 263 #[zgm,u,v] w (RV w (fun r w'=>FP.vq22 w' r (FP.vq14.add x y))):=by
 exact vn4
theorem vn5 {P:Prop} (h:P:=by
 unfold zgm;first | go_enter Tryz.func265,Tryz.ntmps265 | go_enter Tryz.func266,Tryz.ntmps266
 go_upto_region 1 with (fail);have hbw:=ze (al w (.cells #[.iface 39 (.agg #[]),.iface 40 (.agg #[])] 47)) (al _ (.cells #[.slice none 0 0,.bool false,.slice none 0 0] 61)) vz;have HV:=vh ((Blk.new w 47 #[.iface 39 (.agg #[]),.iface 40 (.agg #[])]).keep (al _ (.cells #[.slice none 0 0,.bool false,.slice none 0 0] 61)));have HR:=vh (Blk.new (w.alloc (.cells #[.iface 39 (.agg #[]),.iface 40 (.agg #[])] 47)) 61 #[.slice none 0 0,.bool false,.slice none 0 0]);rw[show (w.alloc (.cells #[.iface 39 (.agg #[]),.iface 40 (.agg #[])] 47)).heap.size=w.heap.size+1 from by simp] at HR;have HB:=vh hbw;clear hbw;generalize (w.alloc (.cells #[.iface 39 (.agg #[]),.iface 40 (.agg #[])] 47)).alloc (.cells #[.slice none 0 0,.bool false,.slice none 0 0] 61)=w1 at *;obtain⟨g0,hg0⟩:=vx (w.heap.size);obtain⟨g3,hg3⟩:=vx (w.heap.size+1);rw[←hg3] at HR ⊢;rw[←hg0] at HV ⊢;have HGg0:=vh (show w.heap.size≤g0∧w.heap.size≤g3 from by omega);clear hg0 hg3;have HGg3:=vh HGg0.2;first
 |guard_expr ins5 =~ 0
  refine zt (kss:=[[],[(0,3)],[(1,4)],[],[(3,6)],[(4,7)],[(2,5),(5,8)]]) [(1,.pointer (some (⟨g0,0,none⟩)))] [EV (.pointer (some (⟨g0,0,none⟩))),EV (.iface 39 (.agg #[])),fun zz ww=>FN.vq22 ww zz (1),EV (.pointer (some (⟨g0,1,none⟩))),EV (.iface 40 (.agg #[])),fun zz ww=>FC.vq22 ww zz (some 0),fun zz ww=>FP.vq22 ww zz (1,some 0)] 7 [] vk vk vt [false,false,false,false,false,false,false] ?_ ?_ ?_ ?_
 |refine zt (kss:=[[],[(0,3)],[(1,4)],[],[(3,6)],[(4,7)],[(2,5),(5,8)]]) [(1,.pointer (some (⟨g0,0,none⟩)))] [EV (.pointer (some (⟨g0,0,none⟩))),EV (.iface 39 (.agg #[])),fun zz ww=>FN.vq22 ww zz (0),EV (.pointer (some (⟨g0,1,none⟩))),EV (.iface 40 (.agg #[])),fun zz ww=>FC.vq22 ww zz (none),fun zz ww=>FP.vq22 ww zz (0,none)] 7 [] vk vk vt [false,false,false,false,false,false,false] ?_ ?_ ?_ ?_
 ·exact fun i hi=>absurd hi vz
 ·exact⟨eI,eI,fun _ _ _ h hb=>h.keepN (KeepsN.below hb),eI,eI,fun _ _ _ h hb=>h.keepN (KeepsN.below hb),fun _ _ _ h hb=>h.keepN (KeepsN.below hb),uC⟩
 ·exact⟨zcH,(fun aa ww hb he hd=>za rfl (zd rfl vk hd.1 (Blk.at0 HV.out hb))),(fun aa ww hb he hd=>za rfl (yQ _ rfl hd.1 vr12 vk vr13)),zeg,(fun aa ww hb he hd=>za rfl (zd rfl vk hd.1 (Blk.at1 HV.out hb))),(fun aa ww hb he hd=>za rfl (yQ _ rfl hd.1 vr14 vk vr15)),(fun aa ww hb he hd=>za rfl vj83),uC⟩
 intro vs w2 hb hR _;have r9:=hR 6 jd;clear hR;refine vs0 ?_;obtain⟨A9,k9,c9,b9,B9,m9,d9,e9,hN9,hC9⟩:=r9;rw[e9];clear e9;first
 |guard_expr ins5 =~ 0
  have HV9:=vh (show FP.vq22 w2 (.agg #[.slice A9 k9 c9,.bool b9,.slice B9 m9 d9]) (1,some 0) from⟨_,_,_,_,_,_,_,rfl,hN9,hC9⟩)
 |have HV9:=vh (show FP.vq22 w2 (.agg #[.slice A9 k9 c9,.bool b9,.slice B9 m9 d9]) (0,none) from⟨_,_,_,_,_,_,_,rfl,hN9,hC9⟩)
 clear hN9 hC9;replace HR:=vh (HR.keep hb);replace HB:=vh (ze HB.out hb HB.size);clear hb;show wpAny _ _ _ _ 1 _ _ _;refine zA (i:=7) vk rfl rfl (zC (vs:=[.slice A9 k9 c9,.bool b9,.slice B9 m9 d9]) (off:=0) rfl rfl vk rfl rfl rfl HR.out vj4 (fun j _ _ x=>zD rfl j x) ?_);intro w3 kn hg hs hb3;refine zR vk (zy ?_) _;first
 |guard_expr ins5 =~ 0
  have HF:=vh (show FP.vq22 w3 (.agg #[.slice A9 k9 c9,.bool b9,.slice B9 m9 d9]) (1,some 0)∧Below w.heap.size w w3∧Blk w3 g3 61 #[.slice A9 k9 c9,.bool b9,.slice B9 m9 d9] from⟨HV9.keepN kn,HB.grown hg HB.size (fun k e=>by cases e;exact HGg3.out),hb3⟩)
 |have HF:=vh (show FP.vq22 w3 (.agg #[.slice A9 k9 c9,.bool b9,.slice B9 m9 d9]) (0,none)∧Below w.heap.size w w3∧Blk w3 g3 61 #[.slice A9 k9 c9,.bool b9,.slice B9 m9 d9] from⟨HV9.keepN kn,HB.grown hg HB.size (fun k e=>by cases e;exact HGg3.out),hb3⟩)
 clear kn hg hs hb3 HV9 HR HB;go_wp2_with fail;refine bodyPost_ret (v:= .agg #[.slice A9 k9 c9,.bool b9,.slice B9 m9 d9]) (results_cell_row vr16 _ _ _ _ _ (0,0) _ rfl HF.2.2 Tryz.underlying61 rfl vk) rfl ?_;exact⟨_,rfl,HF.1,HF.2.1⟩):P:=h
theorem QA.vr12:type_of% @zbh:=@zbh
theorem QA.vr13:type_of% @ziT:=@ziT
theorem QA.vr14:type_of% @zcn:=@zcn
theorem QA.vr15:type_of% @ziU:=@ziU
theorem QA.vr16:type_of% @Tryz.results265:=@Tryz.results265
abbrev QA.ins5:Nat:=0
theorem QA.p_one:Calls Tryz.prog 265 #[zgm] w (RV w (fun r w'=>FP.vq22 w' r (1,some 0))):=by
 exact vn5
theorem QB.vr12:type_of% @zaC:=@zaC
theorem QB.vr13:type_of% @zft:=@zft
theorem QB.vr14:type_of% @zbD:=@zbD
theorem QB.vr15:type_of% @zfu:=@zfu
theorem QB.vr16:type_of% @Tryz.results266:=@Tryz.results266
abbrev QB.ins5:Nat:=1
theorem QB.p_zero:Calls Tryz.prog 266 #[zgm] w (RV w (fun r w'=>FP.vq22 w' r (0,none))):=by
 exact vn5
end
end Go.Proofs.YtoecdobelolkeaaGreatDoor
