/- Part of TopSemirings. -/
import Derived.Test.YtoecdobelolkeaaGreatDoorK7
set_option linter.unusedVariables false
set_option linter.unusedSimpArgs false
set_option maxRecDepth 100000
set_option maxHeartbeats 8000000
namespace Go.Proofs.YtoecdobelolkeaaGreatDoor
open Go.RowKit
variable {w:World} {k n i j B q:Nat} {S α:Type} {T T2 e:TypeId} {c:List Value} {ks:List (List Int)} {key:List Int} {u:Value} {o:Oper} {a:Act}
theorem zki (l c:List Value) (o m:Nat) (h:o+c.length≤m) (hm:m≤l.length):(yt l o c).take m=yt (l.take m) o c:=by
 apply List.ext_getElem?;intro j;rw[List.getElem?_take,zbZ c l o j jo,zbZ c (l.take m) o j zn9,List.getElem?_take];by_cases hj:j<m
 ·rw[if_pos hj,if_pos hj]
 ·rw[if_neg hj,if_neg jo,if_neg hj]
theorem zl4 {l:List Value} {o:Nat} (h:o+c.length≤l.length) (hu:u∈yt l o c):u∈l∨u∈c:=by
 obtain⟨j,hj⟩:=List.mem_iff_getElem?.1 hu;rw[zbZ c l o j h] at hj;split at hj
 ·exact .inr (ui hj)
 ·exact .inl (ui hj)
theorem OwnC.setk {v:Value} {cl:List (List Value)} (h:OwnC w B e k v cl.length cl.flatten) (hcl:∀c∈cl,c.length=k) (hi:i<cl.length) (hc:c.length=k) (hok:c.all okC=true) :
  ∃g cap cur,v = .slice (some ⟨g,0,none⟩) cl.length cap∧B≤g∧Blk w g e cur∧i*k+c.length≤cur.size∧(∀(j:Nat) (x:Int),cur[j]?≠some (Value.int .u32 x))∧∀w',Blk w' g e (yt cur.toList (i*k) c).toArray→OwnC w' B e k v cl.length (cl.set i c).flatten:=by
 rcases h.own.2 with ⟨rfl,h0⟩ | ⟨g,cap,cur,rfl,hbg,hg,h1,h2,h3,h4⟩
 ·omega
 ·have hb:Blk w g e cur:=hg;have hle:i*k+k≤cl.length*k:=by
   have:=uk k (show i+1≤cl.length from hi);rwa [Nat.add_mul,Nat.one_mul] at this
  have hsz:cl.length*k≤cur.size:=by rw[h3];exact uk k h1
  have hno:∀(j:Nat) (x:Int),cur[j]?≠some (.int .u32 x):=fun j x hx=>h.cl g rfl j x (by rw[hb.cell];exact hx);refine⟨g,cap,cur,rfl,hbg,hb,jo,hno,fun w' hb'=>⟨⟨?_,.inr ⟨g,cap,_,rfl,hbg,hb',h1,h2,?_,?_⟩⟩,?_⟩⟩
  ·rw[YC (k:=k),List.length_set];intro x hx;rcases List.mem_or_eq_of_mem_set hx with h5 | h5
   ·exact hcl x h5
   ·rw[h5,hc]
  ·simp[ZO,h3]
  ·show (yt cur.toList (i*k) c).take (cl.length*k)=_;rw[zki _ _ _ _ jo (by simpa using hsz),h4,zeB hcl hi hc]
  ·intro g' hg' j x hx;simp only[Value.ownBlock,Option.some.injEq] at hg';subst hg';rw[hb'.cell] at hx;have hm:Value.int .u32 x∈yt cur.toList (i*k) c:=ui (i:=j) (by simpa using hx);rcases zl4 vj2 hm with h5 | h5
   ·obtain⟨j2,hj2⟩:=List.mem_iff_getElem?.1 h5;exact hno j2 x (by simpa using hj2)
   ·have:=(List.all_eq_true.1 hok) _ h5;cases this
def zaZ (ks:List (List Int)):List (List Int×Value):=(List.range ks.length).map fun j=>(ks.getD j [],Value.int .i64 (j:Int))
theorem zcs (ks:List (List Int)):(zaZ ks).map (·.1)=ks:=by
 unfold zaZ;rw[List.map_map];apply List.ext_getElem
 ·simp
 ·intro j h1 h2;simp[h2]
theorem zoC {k:List Int} (hk:ks[j]? = some k):(k,Value.int .i64 (j:Int))∈zaZ ks:=by
 have hj:=(List.getElem?_eq_some_iff.1 hk).1;refine List.mem_map.2 ⟨j,by simpa using hj,?_⟩;rw[List.getD_eq_getElem?_getD,hk];rfl
theorem zoD {k:List Int} (hn:ks.Nodup) (hk:ks[j]? = some k):lk (zaZ ks) k=some (.int .i64 (j:Int)):=
 ziP (by rw[zcs];exact hn) (zoC hk)
theorem zkj {k:List Int} (hk:k∉ks):lk (zaZ ks) k=none:=zc6 fun p hp e=>hk (by rw[←zcs ks,←e];exact List.mem_map_of_mem hp)
theorem zl5 {k:List Int} (hk:k∉ks):asg (zaZ ks) k (.int .i64 (ks.length:Int))=zaZ (ks++[k]):=by
 rw[zc7 (fun p hp e=>hk (by rw[←zcs ks,←e];exact List.mem_map_of_mem hp))];unfold zaZ;rw[ul,List.length_singleton,List.range_succ,List.map_append];congr 1
 ·apply List.map_congr_left;intro j hj;have:j<ks.length:=by simpa using hj
  simp[List.getElem?_append_left this]
 ·simp
theorem FN.vq15.form {v:Value} {x:Nat} (h:FN.vq22 w v x):∃A k n,v = .slice A k n∧FN.vq15 w [.slice A k n] x:=by obtain⟨A,n,c,rfl,h1⟩:=h;exact⟨_,_,_,rfl,_,_,_,rfl,_,_,_,rfl,h1⟩
theorem FC.vq15.form {v:Value} {x:Option Nat} (h:FC.vq22 w v x):∃b A k n,v = .agg #[.bool b,.slice A k n]∧FC.vq15 w [.bool b,.slice A k n] x:=by obtain⟨b,A,n,c,rfl,h1⟩:=h;exact⟨_,_,_,_,rfl,_,_,_,_,rfl,_,_,_,_,rfl,h1⟩
theorem FP.vq15.form {v:Value} {x:Nat×Option Nat} (h:FP.vq22 w v x):∃A k n b B m d,v = .agg #[.slice A k n,.bool b,.slice B m d]∧FP.vq15 w [.slice A k n,.bool b,.slice B m d] x:=by obtain⟨A,n,c,b,B,m,d,rfl,h1⟩:=h;exact⟨_,_,_,_,_,_,_,rfl,_,_,_,_,_,_,_,rfl,_,_,_,_,_,_,_,rfl,h1⟩
theorem FW.vq15.form {v:Value} {x:WS×Nat} (h:FW.vq22 w v x):∃A k n,v = .slice A k n∧FW.vq15 w [.slice A k n] x:=by
 obtain⟨L,⟨A,n,c,rfl,h1⟩,h2⟩:=h;exact⟨_,_,_,rfl,_,_,_,rfl,L,⟨A,n,c,rfl,h1⟩,h2⟩
def apt (v u:Value):Prop:=v.ownBlock=none∨v.ownBlock≠u.ownBlock
theorem apt.symm {v:Value} (h:apt v u):apt u v:=by
 unfold apt at *;rcases h with h | h
 ·cases hu:u.ownBlock with
  |none=>exact .inl rfl
  |some g=>right;rw[h];simp
 ·exact .inr fun e=>h e.symm
theorem apt.nil (u:Value):apt (.slice none 0 0) u:= .inl rfl
theorem apt.app {v u':Value} {xs:List Value} (h:apt v u) (hv:OwnC w B e k v n xs) (hu:u'.ownBlock=u.ownBlock∨u'.ownBlock=some w.heap.size):apt v u':=by
 rcases hu with hu | hu
 ·unfold apt;rw[hu];exact h
 ·exact vt60
section
variable {P : Program} {o : Oper} {a : Act} {w : World} {t : Tmp} {T : TypeId} {K : Act → World → Prop} {Q : Exit → Act → World → Prop}
theorem zh2 {g off:Nat} (ho:o.op = .fieldAddr T (.tmp t) k) (hf:zfo P T k off=true) (h:tv a t = .pointer (some ⟨g,0,none⟩)) (next:K (a.put o.dst (.pointer (some ⟨g,off,none⟩))) w):o.wp P a w K Q:=by
 unfold zfo at hf;split at hf
 ·rename_i fs hfs;split at hf
  ·rename_i f hf0;rw[Bool.and_eq_true] at hf;obtain⟨h1,h2⟩:=hf;split at h2
   ·rename_i i hi;have h3:i.size≠0:=by simpa using h2
    have h4:f.offset=off:=by simpa using h1
    have hz:((Addr.mk g 0 none).add off)=⟨g,off,none⟩:=by rw[Addr.add_mid,Nat.zero_add]
    have hr:(execOp a.eval o).run P w = .ok (.value (.pointer (some ⟨g,off,none⟩))) w:=by
     unfold execOp;rw[ho];simp only[zK,h];simp[Instr.fieldAt,run_underlying hfs,hf0,Instr.sureAddr,fieldPlace,sizeOf,typeInfo,hi,h3,h4,Result.andThen,hz]
    unfold Oper.wp;rw[hr];exact next
   ·cases h2
  ·cases hf
 ·cases hf
end
theorem zh3 {β:Type}:∀l:List (α×β),(l.map (·.1)).zip (l.map (·.2))=l
 |[]=>rfl
 |p :: l=>by rw[List.map_cons,List.map_cons,List.zip_cons_cons,zh3 l]
theorem zeq {l:List α} {x:α} (h:l[q]? = some x):l.set q x=l:=by
 apply List.ext_getElem?;intro j;rw[List.getElem?_set];split
 ·rename_i e;subst e;split
  ·exact h.symm
  ·rename_i h2;exact absurd (List.getElem?_eq_some_iff.1 h).1 h2
 ·rfl
theorem zl6 {μ:S→Nat} {l:List S} {x:S} (h:l[i]? = some x):smu μ (l.take i)+μ x≤smu μ l:=by
 have hi:=(List.getElem?_eq_some_iff.1 h).1;have e:l=l.take (i+1)++l.drop (i+1):=(List.take_append_drop _ _).symm;have e2:l.take (i+1)=l.take i++[x]:=by rw[List.take_add_one,h];rfl
 conv=>rhs;rw[e,e2]
 rw[zda,zda];have:smu μ [x]=μ x:=by simp[smu]
 omega
theorem zi4:∀(M:List (List Int×α)) (k:List Int) (v:α),(asg M k v).length≤M.length+1
 |[],k,v=>ug _
 |p :: l,k,v=>by
  rw[asg]
  split
  ·simp
  ·have:=zi4 l k v;simp;omega
theorem zdL {R:CSr S} (f:PF S) (rest:List Nat):∀k,(Yh R f rest k).length≤k
 |0=>ug _
 |k+1=>by
  rw[Yh]
  have h1:=zdL (R:=R) f rest k
  have h2:=zi4 (Yh R f rest k) (ye (f.row k) rest) (R.add ((lk (Yh R f rest k) (ye (f.row k) rest)).getD R.zero) (f.val R k))
  unfold zbF
  omega
theorem zl7 {R:CSr S} {G:List (List Int×S)} {u y:S} (hn:(G.map (·.1)).Nodup) (hq:(G.map (·.1))[q]? = some key) (hy:(G.map (·.2))[q]? = some y):(zbF R G key u).map (·.1)=G.map (·.1)∧(zbF R G key u).map (·.2)=(G.map (·.2)).set q (R.add y u):=by
 have hg:G[q]? = some (key,y):=by
  rw[uz] at hq hy;cases h:G[q]? with
  |none=>rw[h] at hq;cases hq
  |some p=>rw[h] at hq hy;simp at hq hy;rw[←hq,←hy]
 unfold zbF;rw[ziP hn (ui hg),zhJ hn hg];refine⟨?_,by rw[List.map_set];rfl⟩;rw[List.map_set];exact zeq hq
theorem zl8 {R:CSr S} {G:List (List Int×S)} {u:S} (hk:key∉G.map (·.1)):(zbF R G key u).map (·.1)=G.map (·.1)++[key]∧(zbF R G key u).map (·.2)=(G.map (·.2)++[R.zero]).set (G.map (·.2)).length (R.add R.zero u):=by
 have hp:∀p∈G,p.1≠key:=fun p hp e=>hk (by rw[←e];exact List.mem_map_of_mem hp);unfold zbF;rw[zc6 hp,zc7 hp,List.map_append,List.map_append];refine⟨rfl,?_⟩;rw[List.set_append_right _ _ (ug _),Nat.sub_self];rfl
theorem zgx {vs:List Nat} {v:Nat} (h:i<vs.length):(vs.take (i+1)).filter (fun u=>decide (u≠v))=(vs.take i).filter (fun u=>decide (u≠v))++if decide (nth vs i≠v)=true then [nth vs i] else []:=by
 have e:vs.take (i+1)=vs.take i++[nth vs i]:=by rw[List.take_add_one];simp[nth,List.getD,h]
 rw[e,List.filter_append];congr 1;by_cases h2:nth vs i≠v <;> simp[List.filter,h2]
section
variable {S : Type} (R : CSr S) (a b : PF S) (others : List (PF S))
def zas (i j:Nat):List (List Int×S):=(List.range i).flatMap (zep R a b others)++((Zo b (zr a.vars &&& zr b.vars) (ye (a.row i) (yu a.vars (zr a.vars &&& zr b.vars))) b.rows.length).take j).flatMap (zc0 R a b others i)
theorem zkk:zas R a b others 0 0=[]:=by simp[zas]
theorem zkl (hk:(Zo b (zr a.vars &&& zr b.vars) (ye (a.row i) (yu a.vars (zr a.vars &&& zr b.vars))) b.rows.length)[j]? = some k):zas R a b others i (j+1)=zas R a b others i j++zc0 R a b others i k:=by
 unfold zas;rw[List.take_add_one,hk,List.flatMap_append,List.append_assoc];simp
theorem zl9 (i:Nat):zas R a b others i (Zo b (zr a.vars &&& zr b.vars) (ye (a.row i) (yu a.vars (zr a.vars &&& zr b.vars))) b.rows.length).length=zas R a b others (i+1) 0:=by
 unfold zas;rw[List.take_length,List.range_succ,List.flatMap_append];simp[zep]
theorem zma:zas R a b others a.rows.length 0=zbo R a b others:=by simp[zas,zbo]
theorem zgy (i k:Nat):(zc0 R a b others i k).length≤1:=by unfold zc0;split <;> simp
theorem zb5 {A B:Type} (f:A→List B) (m:Nat):∀l:List A,(∀x∈l,(f x).length≤m)→(l.flatMap f).length≤l.length*m
 |[],_=>by simp
 |x :: l,h=>by
  rw[List.flatMap_cons,ul,List.length_cons,Nat.add_mul]
  have h1:=h x vz
  have h2:=zb5 f m l fun y hy=>h y (uq _ hy)
  omega
theorem zb6 (cm:Nat) (key:List Int) (n:Nat):(Zo b cm key n).length≤n:=by
 unfold Zo;exact ud (List.length_filter_le _ _) vz
theorem zoE {cm:Nat} (h:k∈Zo b cm key n):k<n:=by
 exact znY
theorem zgz (i:Nat):(zep R a b others i).length≤b.rows.length:=by
 unfold zep;refine ud (zb5 _ 1 _ fun k _=>zgy R a b others i k) ?_;rw[Nat.mul_one];exact zb6 b _ _ _
theorem zmb (hi:i<a.rows.length):(zas R a b others i j).length≤a.rows.length*b.rows.length:=by
 unfold zas;rw[ul];have h1:=zb5 (zep R a b others) b.rows.length (List.range i) fun x _=>zgz R a b others x;have h2:=zb5 (zc0 R a b others i) 1 ((Zo b (zr a.vars &&& zr b.vars) (ye (a.row i) (yu a.vars (zr a.vars &&& zr b.vars))) b.rows.length).take j) fun k _=>zgy R a b others i k;have h3:=zb6 b (zr a.vars &&& zr b.vars) (ye (a.row i) (yu a.vars (zr a.vars &&& zr b.vars))) b.rows.length;rw[List.length_range] at h1;rw[List.length_take,Nat.mul_one] at h2;have h4:(i+1)*b.rows.length≤a.rows.length*b.rows.length:=uk _ hi;rw[Nat.add_mul,Nat.one_mul] at h4;have h5:=Nat.min_le_right j (Zo b (zr a.vars &&& zr b.vars) (ye (a.row i) (yu a.vars (zr a.vars &&& zr b.vars))) b.rows.length).length;omega
theorem zmc:(zbo R a b others).length≤a.rows.length*b.rows.length:=by
 unfold zbo;have h1:=zb5 (zep R a b others) b.rows.length (List.range a.rows.length) fun x _=>zgz R a b others x;rwa [List.length_range] at h1
theorem zct (cm:Nat) (key:List Int) (k:Nat):Zo b cm key (k+1)=Zo b cm key k++if decide (ye (b.row k) (yu b.vars cm)=key)=true then [k] else []:=by
 unfold Zo;exact YL
end
theorem zgA {P:Program} {K:Value→World→Prop} (f:FuncId) (x1 x2 x3 x4 x5:Operand) (ts:Array TypeId) (ho:o.op = .call {callee:= .value (.func f),args:=#[x1,x2,x3,x4,x5],argTypes:=ts}) (hf:Yw P f=true)
  (h:Calls P f #[a.eval x1,a.eval x2,a.eval x3,a.eval x4,a.eval x5] w (fun e w''=>∃v,e = .returned v∧K v w'')):zp P o a.eval w K:=
 Zc f #[x1,x2,x3,x4,x5] ts ho hf zej
def zcu {S:Type} (all:Nat) (o:PF S):List Nat×(List Int→Bool):=(yu (zN all) (zr o.vars &&& all),fun k=>o.rows.any fun y=>decide (ye y (yu o.vars (zr o.vars &&& all))=k))
theorem zoF (all:Nat) (m:List Int):∀others:List (PF S),(others.map (zcu all)).all (fun p=>p.2 (ye m p.1))=zaL others (zN all) all m:=by
 intro others;unfold zaL;rw[List.all_map];rfl
theorem zoG {av bv:List Nat} (ha:Vrs n av) (hb:Vrs n bv) (hn:n≤32):((zN (zr av ||| zr bv)).filter fun v=>decide (v∈av))=av∧((zN (zr av ||| zr bv)).filter fun v=>decide (v∈bv))=bv∧(zN (zr av ||| zr bv)).Nodup∧∀v∈zN (zr av ||| zr bv),v∈av∨v∈bv:=by
 have hm:∀v,v∈zN (zr av ||| zr bv)↔v∈av∨v∈bv:=fun v=>by
  rw[mem_memF,Nat.testBit_or,yK,yK,Bool.or_eq_true,decide_eq_true_eq,decide_eq_true_eq];refine⟨fun h=>h.2,fun h=>⟨?_,h⟩⟩;rcases h with h | h
  ·have:=ha.2 v h;omega
  ·have:=hb.2 v h;omega
 refine⟨ZC ((YR _).filter _) ha.1 fun v=>?_,ZC ((YR _).filter _) hb.1 fun v=>?_,(YR _).imp fun h=>Nat.ne_of_lt h,fun v hv=>(hm v).1 hv⟩
 ·rw[List.mem_filter,hm,decide_eq_true_eq];exact⟨fun h=>h.2,fun h=>⟨.inl h,h⟩⟩
 ·rw[List.mem_filter,hm,decide_eq_true_eq];exact⟨fun h=>h.2,fun h=>⟨.inr h,h⟩⟩
theorem za0:∀ {M:List (List Int×α)} {k:List Int} {v:α} {p:List Int×α},(M.map (·.1)).Nodup→p∈asg M k v→p=(k,v)∨(p∈M∧p.1≠k)
 |[],k,v,p,_,h=>by rw[asg,uD] at h;exact .inl h
 |q :: l,k,v,p,hn,h=>by
  rw[List.map_cons,List.nodup_cons] at hn
  rw[asg] at h
  split at h
  ·rename_i e
   rcases List.mem_cons.1 h with h | h
   ·exact .inl h
   ·exact .inr ⟨uq _ h,fun e2=>hn.1 (by rw[e,←e2];exact List.mem_map_of_mem h)⟩
  ·rename_i e
   rcases List.mem_cons.1 h with h | h
   ·exact .inr ⟨by rw[h];exact List.mem_cons_self,by rw[h];exact e⟩
   ·rcases za0 (M:=l) hn.2 h with h | h
    ·exact .inl h
    ·exact .inr ⟨uq _ h.1,h.2⟩
theorem FltV.km {w':World} {p:List Nat×(List Int→Bool)} (h:FltV w c p) (k:KD [3,26,224] w w') (mp:∀g M,MpK w g M→MpK w' g M):FltV w' c p:=by
 obtain⟨A,n,cp,gm,M,e,h1,h2,h3⟩:=h;exact⟨A,n,cp,gm,M,e,h1.kd k rfl,mp _ _ h2,h3⟩
theorem FltV.sh {p:List Nat×(List Int→Bool)} (h:FltV w c p):c.length=2∧c.all okC=true:=by
 obtain⟨A,n,cp,gm,M,rfl,_⟩:=h;exact⟨rfl,rfl⟩
structure PtI {S:Type} (b:PF S) (cm:Nat) (B g:Nat) (i:Nat) (w:World) (M:List (List Int×Value)):Prop where
 m:MpK w g M
 own:∀p∈M,OwnC w B 3 1 p.2 (Zo b cm p.1 i).length (I64 (zu (Zo b cm p.1 i)))
 ap:∀p∈M,∀q∈M,p.1≠q.1→apt p.2 q.2
 no:∀k,lk M k=none→Zo b cm k i=[]
section
variable {S : Type} {b : PF S} {cm B g i : Nat} {w w' w'' : World} {M : List (List Int × Value)}
theorem PtI.nil (w:World) (B:Nat):PtI b cm B w.heap.size 0 (w.alloc (.map #[] 0)) []:=⟨MpK.new_ w,vz,vz,fun k _=>rfl⟩
theorem PtI.below (h:PtI b cm B g i w M) (hb:Below w.heap.size w w'):PtI b cm B g i w' M:=⟨h.m.keep hb,fun p hp=>(h.own p hp).below hb,h.ap,h.no⟩
theorem PtI.kd (h:PtI b cm B g i w M) (k:KD [3] w w') (hm:MpK w g M→MpK w' g M):PtI b cm B g i w' M:=⟨hm h.m,fun p hp=>(h.own p hp).kd k rfl,h.ap,h.no⟩
theorem PtI.get (h:PtI b cm B g i w M) (key:List Int):OwnC w B 3 1 ((lk M key).getD (.slice none 0 0)) (Zo b cm key i).length (I64 (zu (Zo b cm key i))):=by
 cases hk:lk M key with
 |none=>rw[h.no key hk];exact OwnC.nil _ _ _ _
 |some v=>exact h.own _ (zfq hk)
theorem PtI.next (h:PtI b cm B g i w M) (hkey:key=ye (b.row i) (yu b.vars cm)) {v':Value} (ho:OwnC w' B 3 1 v' ((Zo b cm key i).length+1) (I64 (zu (Zo b cm key i))++[.int .i64 (i:Int)])) (hg:w.grownBy w' ((lk M key).getD (.slice none 0 0)).ownBlock) (hor:v'.ownBlock=((lk M key).getD (.slice none 0 0)).ownBlock∨v'.ownBlock=some w.heap.size)
  (hm:MpK w'' g (asg M key v')) (hg2:w'.grownBy w'' (some g)) (hm1:MpK w' g M):PtI b cm B g (i+1) w'' (asg M key v'):=by
 have hnd:=h.m.2.1;have hap:∀p∈M,p.1≠key→apt p.2 ((lk M key).getD (.slice none 0 0)):=fun p hp hne=>by
  cases hk:lk M key with
  |none=>exact(apt.nil p.2).symm
  |some u=>exact h.ap p hp _ (zfq hk) hne
 refine⟨hm,fun p hp=>?_,fun p hp q hq hne=>?_,fun k hk=>?_⟩
 ·rcases za0 hnd hp with rfl | ⟨h1,h2⟩
  ·show OwnC w'' B 3 1 v' (Zo b cm key (i+1)).length (I64 (zu (Zo b cm key (i+1))));rw[zct,if_pos (by simpa using hkey.symm),ul];have:=hm1.own hg2 ho;simpa [I64,zu] using this
  ·have h3:=(h.own p h1).kept hg (hap p h1 h2);have h4:=hm1.own hg2 h3;rw[zct,if_neg (by rw[←hkey];simpa using Ne.symm h2),List.append_nil];exact h4
 ·rcases za0 hnd hp with rfl | ⟨h1,h2⟩
  ·rcases za0 hnd hq with rfl | ⟨h3,h4⟩
   ·exact absurd rfl hne
   ·exact((hap q h3 h4).app (h.own q h3) hor).symm
  ·rcases za0 hnd hq with rfl | ⟨h3,h4⟩
   ·exact(hap p h1 h2).app (h.own p h1) hor
   ·exact h.ap p h1 q h3 hne
 ·rw[zhK] at hk;split at hk
  ·cases hk
  ·rename_i hne;rw[zct,if_neg (by rw[←hkey];simpa using Ne.symm hne),List.append_nil];exact h.no k hk
end
section
variable {P : Program} {o : Oper} {a : Act} {w : World} {T e : TypeId}
theorem yo {ops:Array Oper} {rest:List Oper} {Q:Exit→Act→World→Prop} (hgd:o.guard=none) (s x:Operand) (ho:o.op = .call {callee:= .builtin .append,args:=#[s,x],argTypes:=#[T,T]}) (hu:zbn P T e k=true) (hz:zgg P e k=true)
  (base:Nat) (v:Value) (n:Nat) (xs:List Value) (hs:a.eval s=v) (hown:OwnC w base e k v n xs) (A:Option Addr) (m c:Nat) (news:List Value) (hx:a.eval x = .slice A m c) (hr:Reads w w.heap.size k A m news) (hok:news.all okC=true)
  (hn:n+m≤600000000000) (hbase:base≤w.heap.size)
  (h:∀v' w',OwnC w' base e k v' (n+m) (xs++news)→w.grownBy w' v.ownBlock→(v'.ownBlock=v.ownBlock∨v'.ownBlock=some w.heap.size)→KeepsN w w'→wpList P ops Q rest (a.put o.dst v') w'):wpList P ops Q (o :: rest) a w:=by
 obtain⟨hu,-⟩:=yP hu;obtain⟨i,z,hi,hz,hs1,hby,hzs,hk0,hzc⟩:=ZG hz;rw[List.all_eq_true] at hok;exact wpList_plain hgd fun _ hK=>Zx s x T ho base e i z k i.bytes hu hi hz hs1 rfl hzs hk0 (fun u hu=>zby (hzc u hu)) v n xs hs hown w.heap.size _ m c _ hx hr (fun u hu=>YP (hok u hu)) (fun u hu=>zby (hok u hu)) zcK (ud (Nat.mul_le_mul_left _ hby) jo) hbase fun v' w' h2 h3 h4 h5=>hK _ _ (h v' w' h2 h3 h4 h5)
end
theorem Yf (w:World) (e:TypeId) (k:Nat):OwnC (w.alloc (.cells #[] e)) w.heap.size e k (.slice (some ⟨w.heap.size,0,none⟩) 0 0) 0 []:=
 ⟨⟨vz,.inr ⟨w.heap.size,0,#[],rfl,ug _,Blk.new w e #[],ug _,Nat.zero_le _,vz,vz⟩⟩,fun g hg i x hx=>by
  simp only[Value.ownBlock,Option.some.injEq] at hg
  subst hg
  rw[(Blk.new w e #[]).cell] at hx
  simp at hx⟩
theorem zh4 {base:Nat} {v:Value} {xs:List Value} (h:OwnC w base e k v n xs):∃A c,v = .slice A n c∧n≤c∧RdT w e k A n xs:=by
 obtain⟨A,c,rfl⟩:=zF h.own;have hc:n≤c:=by
  rcases h.own.2 with ⟨e1,h0⟩ | ⟨g,cap,cur,e1,_,_,h1,_⟩
  ·omega
  ·injection e1 with _ h2 h3;omega
 exact⟨A,c,rfl,hc,RdT.of_own h.own⟩
theorem eqn {P:Program} (T e:TypeId) (A:Option Addr) (n c:Nat) (w:World) (hu:P.underlying T=some (.slice e)):(binOp .eql T (.slice A n c) (.slice none 0 0)).run P w = .ok (.bool A.isNone) w:=by
 simp only[binOp];simp[Op.equal,Op.maxDepth,Lib.run_equalIn_slice_nil w 9999 T e A n c 0 0 hu]
def CpR (e:TypeId) (k n:Nat) (cl:List Value) (w:World) (v:Value):Prop:=∃A c,v = .slice A n c∧n≤c∧RdT w e k A n cl
theorem zb7 {z:Array Value} (hz:z.toList.all okC=true) (n:Nat):∀u∈(Builtin.zeroCells z n).toList,okC u=true:=by
 intro u hu;rw[List.all_eq_true] at hz;unfold Builtin.zeroCells at hu;simp only[Array.toList_map,List.mem_map] at hu;obtain⟨j,-,rfl⟩:=hu;by_cases h:j % z.size<z.size
 ·have:z[j % z.size]! = z[j % z.size]:=getElem!_pos z _ h;rw[this];exact hz _ vz
 ·have:z[j % z.size]! = default:=getElem!_neg z _ h;rw[this];rfl
theorem zdM {P:Program} {z:Value} (hz:z.cells.size=k) (hzo:z.cells.toList.all okC=true) (hn:n≤maxLen):OwnC (w.drew.alloc (.cells (Builtin.zeroCells z.cells n++Builtin.zeroCells z.cells (grownCap w n 0 e - n)) e)) w.heap.size e k (.slice (some ⟨w.heap.size,0,none⟩) 0 (grownCap w n 0 e)) 0 []:=by
 have hb:Blk (w.drew.alloc (.cells (Builtin.zeroCells z.cells n++Builtin.zeroCells z.cells (grownCap w n 0 e - n)) e)) w.heap.size e (Builtin.zeroCells z.cells n++Builtin.zeroCells z.cells (grownCap w n 0 e - n)):=Blk.new w.drew e _;have hge:=grownCap_ge w n 0 e;have hsz:∀m,(Builtin.zeroCells z.cells m).size=m*k:=fun m=>by simp[Builtin.zeroCells,hz]
 refine⟨⟨vz,.inr ⟨w.heap.size,grownCap w n 0 e,_,rfl,ug _,hb,Nat.zero_le _,grownCap_le_maxLen w n 0 e hn,?_,vz⟩⟩,fun g hg i x hx=>?_⟩
 ·rw[Array.size_append,hsz,hsz,←Nat.add_mul];congr 1;omega
 ·simp only[Value.ownBlock,Option.some.injEq] at hg;subst hg;rw[hb.cell] at hx;have h2:=Array.mem_of_getElem? hx;rcases Array.mem_append.1 h2 with h3 | h3
  ·have:=zb7 hzo n _ (by simpa using h3);cases this
  ·have:=zb7 hzo _ _ (by simpa using h3);cases this
theorem zqo (A:Option Addr) (n c:Nat) (cl:List Value) (w:World) (hA:A=none→n=0) (h:RdT w 87 1 A n cl) (hok:cl.all okC=true) (hn:n≤5000000):Calls Tryz.prog 50 #[.slice A n c] w (RV w (fun v w'=>CpR 87 1 n cl w' v)):=by
 have HR:=vh h;have HOk:=vh hok;clear h hok;have en:=fun A n c w=>eqn (P:=Tryz.prog) 84 87 A n c w Tryz.underlying84;go_enter Tryz.func50,Tryz.ntmps50;cases A with
 |none=>
  exact ziz
 |some ad=>
  go_wp2_with (at_builtin;refine yo rfl (.tmp 5) (.tmp 6) rfl (e:=87) (k:=1) vk vk w.heap.size _ _ _ rfl (Yf w 87 1) (some ad) n c cl rfl (HR.below (al _ _)).rd HOk.out jo (al _ _).size ?_;intro v' w' ho hg hor kn);have hb:Below w.heap.size w w':=Below.appended (al w _) (Yf w 87 1).own hg (al _ _).size (ug _);exact ziy
theorem zgB (A:Option Addr) (n c:Nat) (cl:List Value) (w:World) (hA:A=none→n=0) (h:RdT w 89 3 A n cl) (hok:cl.all okC=true) (hn:n≤5000000):Calls Tryz.prog 52 #[.slice A n c] w (RV w (fun v w'=>CpR 89 3 n cl w' v)):=by
 have HR:=vh h;have HOk:=vh hok;clear h hok;have en:=fun A n c w=>eqn (P:=Tryz.prog) 87 89 A n c w Tryz.underlying87;go_enter Tryz.func52,Tryz.ntmps52;cases A with
 |none=>
  exact ziz
 |some ad=>
  go_wp2_with (at_builtin;refine yo rfl (.tmp 5) (.tmp 6) rfl (e:=89) (k:=3) vk vk w.heap.size _ _ _ rfl (Yf w 89 3) (some ad) n c cl rfl (HR.below (al _ _)).rd HOk.out jo (al _ _).size ?_;intro v' w' ho hg hor kn);have hb:Below w.heap.size w w':=Below.appended (al w _) (Yf w 89 3).own hg (al _ _).size (ug _);exact ziy
theorem zgC (A:Option Addr) (n c:Nat) (cl:List Value) (w:World) (hA:A=none→n=0) (h:RdT w 3 1 A n cl) (hok:cl.all okC=true) (hn:n≤5000000):Calls Tryz.prog 53 #[.slice A n c] w (RV w (fun v w'=>CpR 3 1 n cl w' v)):=by
 have HR:=vh h;have HOk:=vh hok;clear h hok;have en:=fun A n c w=>eqn (P:=Tryz.prog) 26 3 A n c w Tryz.underlying26;go_enter Tryz.func53,Tryz.ntmps53;cases A with
 |none=>
  exact ziz
 |some ad=>
  go_wp2_with (at_builtin;refine yo rfl (.tmp 5) (.tmp 6) rfl (e:=3) (k:=1) vk vk w.heap.size _ _ _ rfl (Yf w 3 1) (some ad) n c cl rfl (HR.below (al _ _)).rd HOk.out jo (al _ _).size ?_;intro v' w' ho hg hor kn);have hb:Below w.heap.size w w':=Below.appended (al w _) (Yf w 3 1).own hg (al _ _).size (ug _);exact ziy
theorem FN.vq41 (A:Option Addr) (n c:Nat) (cl:List Value) (w:World) (hA:A=none→n=0) (h:RdT w 104 3 A n cl) (hok:cl.all okC=true) (hn:n≤5000000):Calls Tryz.prog 62 #[.slice A n c] w (RV w (fun v w'=>CpR 104 3 n cl w' v)):=by
 have HR:=vh h;have HOk:=vh hok;clear h hok;have en:=fun A n c w=>eqn (P:=Tryz.prog) 53 104 A n c w Tryz.underlying53;go_enter Tryz.func62,Tryz.ntmps62;cases A with
 |none=>
  exact ziz
 |some ad=>
  go_wp2_with (at_builtin;refine yo rfl (.tmp 5) (.tmp 6) rfl (e:=104) (k:=3) vk vk w.heap.size _ _ _ rfl (Yf w 104 3) (some ad) n c cl rfl (HR.below (al _ _)).rd HOk.out jo (al _ _).size ?_;intro v' w' ho hg hor kn);have hb:Below w.heap.size w w':=Below.appended (al w _) (Yf w 104 3).own hg (al _ _).size (ug _);exact ziy
theorem FC.vq41 (A:Option Addr) (n c:Nat) (cl:List Value) (w:World) (hA:A=none→n=0) (h:RdT w 119 3 A n cl) (hok:cl.all okC=true) (hn:n≤5000000):Calls Tryz.prog 67 #[.slice A n c] w (RV w (fun v w'=>CpR 119 3 n cl w' v)):=by
 have HR:=vh h;have HOk:=vh hok;clear h hok;have en:=fun A n c w=>eqn (P:=Tryz.prog) 58 119 A n c w Tryz.underlying58;go_enter Tryz.func67,Tryz.ntmps67;cases A with
 |none=>
  exact ziz
 |some ad=>
  go_wp2_with (at_builtin;refine yo rfl (.tmp 5) (.tmp 6) rfl (e:=119) (k:=3) vk vk w.heap.size _ _ _ rfl (Yf w 119 3) (some ad) n c cl rfl (HR.below (al _ _)).rd HOk.out jo (al _ _).size ?_;intro v' w' ho hg hor kn);have hb:Below w.heap.size w w':=Below.appended (al w _) (Yf w 119 3).own hg (al _ _).size (ug _);exact ziy
theorem FP.vq41 (A:Option Addr) (n c:Nat) (cl:List Value) (w:World) (hA:A=none→n=0) (h:RdT w 128 3 A n cl) (hok:cl.all okC=true) (hn:n≤5000000):Calls Tryz.prog 72 #[.slice A n c] w (RV w (fun v w'=>CpR 128 3 n cl w' v)):=by
 have HR:=vh h;have HOk:=vh hok;clear h hok;have en:=fun A n c w=>eqn (P:=Tryz.prog) 64 128 A n c w Tryz.underlying64;go_enter Tryz.func72,Tryz.ntmps72;cases A with
 |none=>
  exact ziz
 |some ad=>
  go_wp2_with (at_builtin;refine yo rfl (.tmp 5) (.tmp 6) rfl (e:=128) (k:=3) vk vk w.heap.size _ _ _ rfl (Yf w 128 3) (some ad) n c cl rfl (HR.below (al _ _)).rd HOk.out jo (al _ _).size ?_;intro v' w' ho hg hor kn);have hb:Below w.heap.size w w':=Below.appended (al w _) (Yf w 128 3).own hg (al _ _).size (ug _);exact ziy
theorem FW.vq41 (A:Option Addr) (n c:Nat) (cl:List Value) (w:World) (hA:A=none→n=0) (h:RdT w 140 3 A n cl) (hok:cl.all okC=true) (hn:n≤5000000):Calls Tryz.prog 79 #[.slice A n c] w (RV w (fun v w'=>CpR 140 3 n cl w' v)):=by
 have HR:=vh h;have HOk:=vh hok;clear h hok;have en:=fun A n c w=>eqn (P:=Tryz.prog) 75 140 A n c w Tryz.underlying75;go_enter Tryz.func79,Tryz.ntmps79;cases A with
 |none=>
  exact ziz
 |some ad=>
  go_wp2_with (at_builtin;refine yo rfl (.tmp 5) (.tmp 6) rfl (e:=140) (k:=3) vk vk w.heap.size _ _ _ rfl (Yf w 140 3) (some ad) n c cl rfl (HR.below (al _ _)).rd HOk.out jo (al _ _).size ?_;intro v' w' ho hg hor kn);have hb:Below w.heap.size w w':=Below.appended (al w _) (Yf w 140 3).own hg (al _ _).size (ug _);exact ziy
theorem zoH {P:Prop} (h:P:=by
 obtain⟨i,hi,hz,hs1,hby⟩:=info_parts (show (Tryz.prog.info? vq1).map (fun i=>(i.zero,i.size,i.bytes))=some (some (.agg #[.slice none 0 0,.slice none 0 0,.slice none 0 0]),3,72) from by kernel_rfl);rcases Nat.eq_zero_or_pos n with h0 | h0
 ·subst h0;first | go_enter Tryz.func143,Tryz.ntmps143 | go_enter Tryz.func147,Tryz.ntmps147 | go_enter Tryz.func149,Tryz.ntmps149 | go_enter Tryz.func151,Tryz.ntmps151
  exact znN
 ·have r:=Lib.run_append_nil_zeros (P:=Tryz.prog) w vq34 3 vq34 vq1 i (.agg #[.slice none 0 0,.slice none 0 0,.slice none 0 0]) .i64 .i64 vq63 Tryz.underlying3 hi hz n h0 jo jo (by rw[hby];omega);have ho:=zdM (P:=Tryz.prog) (w:=w) (e:=vq1) (k:=3) (n:=n) (z:= .agg #[.slice none 0 0,.slice none 0 0,.slice none 0 0]) rfl rfl zcK;have hcap:=grownCap_ge w n 0 vq1;have hb:Below w.heap.size w (w.drew.alloc (.cells (Builtin.zeroCells (.agg #[.slice none 0 0,.slice none 0 0,.slice none 0 0]:Value).cells n++Builtin.zeroCells (.agg #[.slice none 0 0,.slice none 0 0,.slice none 0 0]:Value).cells (grownCap w n 0 vq1 - n)) vq1)):=(Below.drew (ue w.heap.size w)).trans (show Below w.heap.size w.drew _ from al w.drew _);have HO:=vh (uh ho hb);clear hi hz hs1 hby ho hb;generalize hcp:grownCap w n 0 vq1=cp at *;have i1:(0:Int)<(n:Int):=jo;first | go_enter Tryz.func143,Tryz.ntmps143 | go_enter Tryz.func147,Tryz.ntmps147 | go_enter Tryz.func149,Tryz.ntmps149 | go_enter Tryz.func151,Tryz.ntmps151
  exact zsK):P:=h
def zi5 (vq64:Nat) (vq1:Nat):Prop:=∀(n:Nat) (w:World) (hn:n≤100000000),Calls Tryz.prog vq64 #[.slice none 0 0,.int .i64 (n:Int)] w (RV w (fun v w'=>OwnC w' w.heap.size vq1 3 v 0 []))
theorem FN.vq60:zi5 143 104:=by
 intro n w hn;exact zoH
theorem FC.vq60:zi5 147 119:=by
 intro n w hn;exact zoH
theorem FP.vq60:zi5 149 128:=by
 intro n w hn;exact zoH
theorem FW.vq60:zi5 151 140:=by
 intro n w hn;exact zoH
theorem zcT (n:Nat) (w:World) (hn:n≤100000000):Calls Tryz.prog 234 #[.slice none 0 0,.int .i64 (n:Int)] w (RV w (fun v w'=>OwnC w' w.heap.size 26 1 v 0 [])):=by
 obtain⟨i,hi,hz,hs1,hby⟩:=info_parts (show (Tryz.prog.info? 26).map (fun i=>(i.zero,i.size,i.bytes))=some (some (.slice none 0 0),1,24) from by kernel_rfl);rcases Nat.eq_zero_or_pos n with h0 | h0
 ·subst h0;go_enter Tryz.func234,Tryz.ntmps234;exact znN
 ·have r:=Lib.run_append_nil_zeros (P:=Tryz.prog) w 72 3 72 26 i (.slice none 0 0) .i64 .i64 Tryz.underlying72 Tryz.underlying3 hi hz n h0 jo jo (by rw[hby];omega);have ho:=zdM (P:=Tryz.prog) (w:=w) (e:=26) (k:=1) (n:=n) (z:= .slice none 0 0) rfl rfl zcK;have hcap:=grownCap_ge w n 0 26;have hb:Below w.heap.size w (w.drew.alloc (.cells (Builtin.zeroCells (.slice none 0 0:Value).cells n++Builtin.zeroCells (.slice none 0 0:Value).cells (grownCap w n 0 26 - n)) 26)):=(Below.drew (ue w.heap.size w)).trans (show Below w.heap.size w.drew _ from al w.drew _);have HO:=vh (uh ho hb);clear hi hz hs1 hby ho hb;generalize hcp:grownCap w n 0 26=cp at *;have i1:(0:Int)<(n:Int):=jo;go_enter Tryz.func234,Tryz.ntmps234;exact zsK
theorem zcU (n:Nat) (w:World) (hn:n≤100000000):Calls Tryz.prog 235 #[.slice none 0 0,.int .i64 (n:Int)] w (RV w (fun v w'=>OwnC w' w.heap.size 3 1 v 0 [])):=by
 obtain⟨i,hi,hz,hs1,hby⟩:=info_parts (show (Tryz.prog.info? 3).map (fun i=>(i.zero,i.size,i.bytes))=some (some (.int .i64 0),1,8) from by kernel_rfl);rcases Nat.eq_zero_or_pos n with h0 | h0
 ·subst h0;go_enter Tryz.func235,Tryz.ntmps235;exact znN
 ·have r:=Lib.run_append_nil_zeros (P:=Tryz.prog) w 26 3 26 3 i (.int .i64 0) .i64 .i64 Tryz.underlying26 Tryz.underlying3 hi hz n h0 jo jo (by rw[hby];omega);have ho:=zdM (P:=Tryz.prog) (w:=w) (e:=3) (k:=1) (n:=n) (z:= .int .i64 0) rfl rfl zcK;have hcap:=grownCap_ge w n 0 3;have hb:Below w.heap.size w (w.drew.alloc (.cells (Builtin.zeroCells (.int .i64 0:Value).cells n++Builtin.zeroCells (.int .i64 0:Value).cells (grownCap w n 0 3 - n)) 3)):=(Below.drew (ue w.heap.size w)).trans (show Below w.heap.size w.drew _ from al w.drew _);have HO:=vh (uh ho hb);clear hi hz hs1 hby ho hb;generalize hcp:grownCap w n 0 3=cp at *;have i1:(0:Int)<(n:Int):=jo;go_enter Tryz.func235,Tryz.ntmps235;exact zsK
theorem vm13 {P:Prop} (h:P:=by
 have HB:=vh hb;have H1:=vh h1;have H2:=vh h2;have HO1:=vh hok1;have HO2:=vh hok2;clear hb h1 h2 hok1 hok2;first | go_enter Tryz.func105,Tryz.ntmps105 | go_enter Tryz.func115,Tryz.ntmps115 | go_enter Tryz.func121,Tryz.ntmps121 | go_enter Tryz.func127,Tryz.ntmps127
 have c0:=Blk.at0 HB.out (ue _ _);have c1:=Blk.at1 HB.out (ue _ _);go_wp2_with fail;go_loopg [11,3] 2 (fun g' iv sv wr=>∃i:Nat,iv = .int .i64 i∧sv = .int .i64 ((if i=0 then 0 else if i=1 then n1 else n1+n2:Nat):Int)∧i+g'=2∧w=wr);case atStart=>exact⟨0,rfl,rfl,jo,rfl⟩
 case round=>
  obtain⟨i,rfl,rfl,hi,rfl⟩:=hrel;have hc:i=0∨i=1∨i=2:=jo;rcases hc with rfl | rfl | rfl
  ·exact vt72
  ·exact vt63
  ·go_wp2_with fail;refine(vq60 (n1+n2) w jo).mono ?_;rintro e w2 ⟨v,rfl,ho,hb⟩;have HI:=vh (show OwnC w2 w.heap.size vq1 3 v (if 0=0 then 0 else if 0=1 then n1 else n1+n2) (if 0=0 then [] else if 0=1 then cl1 else cl1++cl2)∧Below w.heap.size w w2∧w.heap.size≤w2.heap.size from⟨ho,hb,hb.size⟩);clear ho hb c0 c1;go_wp2_with fail;go_loopg [27,6] 2 (fun g' iv sv wr=>∃(i:Nat) (v:Value),iv = .int .i64 i∧sv=v∧i+g'=2∧Hid (OwnC wr w.heap.size vq1 3 v (if i=0 then 0 else if i=1 then n1 else n1+n2) (if i=0 then [] else if i=1 then cl1 else cl1++cl2)∧Below w.heap.size w wr∧w.heap.size≤wr.heap.size));case atStart=>exact⟨0,_,rfl,rfl,jo,HI⟩
   case round=>
    obtain⟨i,v,rfl,rfl,hi,HJ⟩:=hrel;clear HI;have c0:=Blk.at0 HB.out HJ.2.1;have c1:=Blk.at1 HB.out HJ.2.1;have hc:i=0∨i=1∨i=2:=jo;rcases hc with rfl | rfl | rfl
    ·go_wp2_with (at_builtin;refine yo rfl (.tmp 31) (.tmp 32) rfl (e:=vq1) (k:=3) vk vk w.heap.size _ _ _ rfl (show OwnC wr w.heap.size vq1 3 u6 0 [] from HJ.1) A1 n1 ca cl1 rfl (H1.below HJ.2.1).rd HO1.out jo HJ.2.2 ?_;intro v' w' ho hg hor kn);have HN:=vh (show OwnC w' w.heap.size vq1 3 v' (if 1=0 then 0 else if 1=1 then n1 else n1+n2) (if 1=0 then [] else if 1=1 then cl1 else cl1++cl2)∧Below w.heap.size w w'∧w.heap.size≤w'.heap.size from⟨vj9,Below.appended HJ.2.1 HJ.1.own hg HJ.2.2 (ug _),ud HJ.2.2 hg.size⟩);exact vt68
    ·go_wp2_with (at_builtin;refine yo rfl (.tmp 31) (.tmp 32) rfl (e:=vq1) (k:=3) vk vk w.heap.size _ _ _ rfl (show OwnC wr w.heap.size vq1 3 u6 n1 cl1 from HJ.1) A2 n2 cb cl2 rfl (H2.below HJ.2.1).rd HO2.out jo HJ.2.2 ?_;intro v' w' ho hg hor kn);have HN:=vh (show OwnC w' w.heap.size vq1 3 v' (if 2=0 then 0 else if 2=1 then n1 else n1+n2) (if 2=0 then [] else if 2=1 then cl1 else cl1++cl2)∧Below w.heap.size w w'∧w.heap.size≤w'.heap.size from⟨vj9,Below.appended HJ.2.1 HJ.1.own hg HJ.2.2 (ug _),ud HJ.2.2 hg.size⟩);exact vt69
    ·have ho:OwnC wr w.heap.size vq1 3 u6 (n1+n2) (cl1++cl2):=HJ.1;exact vt79):P:=h
def zi6 (vq34:Nat) (vq1:Nat) (vq61:Nat):Prop:=∀(g:Nat) (A1 A2:Option Addr) (n1 ca n2 cb:Nat) (cl1 cl2:List Value) (w:World) (hb:Blk w g vq34 #[.slice A1 n1 ca,.slice A2 n2 cb]) (h1:RdT w vq1 3 A1 n1 cl1) (h2:RdT w vq1 3 A2 n2 cl2) (hok1:cl1.all okC=true) (hok2:cl2.all okC=true) (hn:n1+n2≤100000000),Calls Tryz.prog vq61 #[.slice (some ⟨g,0,none⟩) 2 2] w (RV w (fun v w'=>CpR vq1 3 (n1+n2) (cl1++cl2) w' v))
theorem FN.vq36:zi6 53 104 105:=by
 exact zjK
theorem FC.vq36:zi6 58 119 115:=by
 exact zjK
theorem FP.vq36:zi6 64 128 121:=by
 exact zjK
theorem FW.vq36:zi6 75 140 127:=by
 exact zjK
theorem vn7 {P:Prop} (h:P:=by
 have HB:=vh hb;have H1:=vh h1;have H2:=vh h2;have HO1:=vh hok1;have HO2:=vh hok2;clear hb h1 h2 hok1 hok2;first | go_enter Tryz.func226,Tryz.ntmps226 | go_enter Tryz.func227,Tryz.ntmps227
 have c0:=Blk.at0 HB.out (ue _ _);have c1:=Blk.at1 HB.out (ue _ _);go_wp2_with fail;go_loopg [11,3] 2 (fun g' iv sv wr=>∃i:Nat,iv = .int .i64 i∧sv = .int .i64 ((if i=0 then 0 else if i=1 then n1 else n1+n2:Nat):Int)∧i+g'=2∧w=wr);case atStart=>exact⟨0,rfl,rfl,jo,rfl⟩
 case round=>
  obtain⟨i,rfl,rfl,hi,rfl⟩:=hrel;have hc:i=0∨i=1∨i=2:=jo;rcases hc with rfl | rfl | rfl
  ·exact vt72
  ·exact vt63
  ·go_wp2_with fail;refine(vr21 (n1+n2) w jo).mono ?_;rintro e w2 ⟨v,rfl,ho,hb⟩;have HI:=vh (show OwnC w2 w.heap.size vr22 1 v (if 0=0 then 0 else if 0=1 then n1 else n1+n2) (if 0=0 then [] else if 0=1 then cl1 else cl1++cl2)∧Below w.heap.size w w2∧w.heap.size≤w2.heap.size from⟨ho,hb,hb.size⟩);clear ho hb c0 c1;go_wp2_with fail;go_loopg [27,6] 2 (fun g' iv sv wr=>∃(i:Nat) (v:Value),iv = .int .i64 i∧sv=v∧i+g'=2∧Hid (OwnC wr w.heap.size vr22 1 v (if i=0 then 0 else if i=1 then n1 else n1+n2) (if i=0 then [] else if i=1 then cl1 else cl1++cl2)∧Below w.heap.size w wr∧w.heap.size≤wr.heap.size));case atStart=>exact⟨0,_,rfl,rfl,jo,HI⟩
   case round=>
    obtain⟨i,v,rfl,rfl,hi,HJ⟩:=hrel;clear HI;have c0:=Blk.at0 HB.out HJ.2.1;have c1:=Blk.at1 HB.out HJ.2.1;have hc:i=0∨i=1∨i=2:=jo;rcases hc with rfl | rfl | rfl
    ·go_wp2_with (at_builtin;refine yo rfl (.tmp 31) (.tmp 32) rfl (e:=vr22) (k:=1) vk vk w.heap.size _ _ _ rfl (show OwnC wr w.heap.size vr22 1 u6 0 [] from HJ.1) A1 n1 ca cl1 rfl (H1.below HJ.2.1).rd HO1.out jo HJ.2.2 ?_;intro v' w' ho hg hor kn);have HN:=vh (show OwnC w' w.heap.size vr22 1 v' (if 1=0 then 0 else if 1=1 then n1 else n1+n2) (if 1=0 then [] else if 1=1 then cl1 else cl1++cl2)∧Below w.heap.size w w'∧w.heap.size≤w'.heap.size from⟨vj9,Below.appended HJ.2.1 HJ.1.own hg HJ.2.2 (ug _),ud HJ.2.2 hg.size⟩);exact vt68
    ·go_wp2_with (at_builtin;refine yo rfl (.tmp 31) (.tmp 32) rfl (e:=vr22) (k:=1) vk vk w.heap.size _ _ _ rfl (show OwnC wr w.heap.size vr22 1 u6 n1 cl1 from HJ.1) A2 n2 cb cl2 rfl (H2.below HJ.2.1).rd HO2.out jo HJ.2.2 ?_;intro v' w' ho hg hor kn);have HN:=vh (show OwnC w' w.heap.size vr22 1 v' (if 2=0 then 0 else if 2=1 then n1 else n1+n2) (if 2=0 then [] else if 2=1 then cl1 else cl1++cl2)∧Below w.heap.size w w'∧w.heap.size≤w'.heap.size from⟨vj9,Below.appended HJ.2.1 HJ.1.own hg HJ.2.2 (ug _),ud HJ.2.2 hg.size⟩);exact vt69
    ·have ho:OwnC wr w.heap.size vr22 1 u6 (n1+n2) (cl1++cl2):=HJ.1;exact vt79):P:=h
theorem QA.vr21:type_of% @zcT:=@zcT
abbrev QA.vr22:Nat:=26
abbrev QA.ins7:Nat:=0
theorem QA.concat226_any (g:Nat) (A1 A2:Option Addr) (n1 ca n2 cb:Nat) (cl1 cl2:List Value) (w:World) (hb:Blk w g 72 #[.slice A1 n1 ca,.slice A2 n2 cb]) (h1:RdT w 26 1 A1 n1 cl1) (h2:RdT w 26 1 A2 n2 cl2) (hok1:cl1.all okC=true) (hok2:cl2.all okC=true) (hn:n1+n2≤100000000):Calls Tryz.prog 226 #[.slice (some ⟨g,0,none⟩) 2 2] w (RV w (fun v w'=>CpR 26 1 (n1+n2) (cl1++cl2) w' v)):=by
 exact vn7
theorem QB.vr21:type_of% @zcU:=@zcU
abbrev QB.vr22:Nat:=3
abbrev QB.ins7:Nat:=1
theorem QB.concat227_any (g:Nat) (A1 A2:Option Addr) (n1 ca n2 cb:Nat) (cl1 cl2:List Value) (w:World) (hb:Blk w g 26 #[.slice A1 n1 ca,.slice A2 n2 cb]) (h1:RdT w 3 1 A1 n1 cl1) (h2:RdT w 3 1 A2 n2 cl2) (hok1:cl1.all okC=true) (hok2:cl2.all okC=true) (hn:n1+n2≤100000000):Calls Tryz.prog 227 #[.slice (some ⟨g,0,none⟩) 2 2] w (RV w (fun v w'=>CpR 3 1 (n1+n2) (cl1++cl2) w' v)):=by
 exact vn7
theorem Zh {P:Program} {t2:TypeId} {x y:Operand} (i j s:Nat) (ho:o.op = .binOp .sub T x y t2) (hx:a.eval x = .int .i64 i) (hy:a.eval y = .int .i64 j) (hs:s+j=i) (hlt:i≤4611686018427387904):zp P o a.eval w (fun v w'=>v = .int .i64 (s:Int)∧Below w.heap.size w w'):=by
 refine zo (.int .i64 (s:Int)) ?_ ⟨rfl,ue _ _⟩;have e:IntKind.i64.wrap ((i:Int) - (j:Int))=(s:Int):=by rw[show (i:Int) - (j:Int)=(s:Int) by omega];exact IntWalk.i64_in _ jo
 exact zfi
theorem vm11 {P:Prop} (h:P:=by
 obtain⟨A,m,mc,rfl,hmc,hm,hX⟩:=ha.x;have hm6:m≤1000000:=by obtain⟨_,_,_,e,_,_,h3,_⟩:=ha;cases e;exact h3.2
 obtain⟨D,cd,rfl,-,-,hn5⟩:=hr.form;obtain⟨q,hq⟩:=vx (rs.length);rw[←hq] at hr hn5 ⊢;have HX:=vh hX;have HM:=vh hm;have HRS:=vh hr;have HQ:=vh hq;have HV:=vh hv;have HL:=vh hl;have HS:=vh hs;clear hX hm hr hq ha hv hl hs hmc;first | go_enter Tryz.func101,Tryz.ntmps101 | go_enter Tryz.func113,Tryz.ntmps113 | go_enter Tryz.func119,Tryz.ntmps119 | go_enter Tryz.func125,Tryz.ntmps125
 go_upto_region 1 with (fail);have hbw:=al w (.cells #[.slice A m mc,.slice D q cd,.slice C q cc] vq1);have HF:=vh (Blk.new w vq1 #[.slice A m mc,.slice D q cd,.slice C q cc]);have HB:=vh hbw;clear hbw;generalize w.alloc (.cells #[.slice A m mc,.slice D q cd,.slice C q cc] vq1)=w1 at *;obtain⟨g3,hg3⟩:=vx (w.heap.size);rw[←hg3] at HF ⊢;have HGg3:=vh (show w.heap.size≤g3 from by omega);clear hg3;have c0:=Blk.at0 HF.out (ue _ _);have c1:=Blk.at1 HF.out (ue _ _);have c2:=Blk.at2 HF.out (ue _ _);have HB1:=HB;go_wp2_with fail;go_loopg [15] m (fun g iv wr=>∃i:Nat,iv = .int .i64 i∧i+g=m∧w1=wr);case atStart=>exact⟨0,rfl,jo,rfl⟩
 case round=>
  obtain⟨i,rfl,him,rfl⟩:=hrel;by_cases hi:i<m
  ·have i1:((i:Int)<(m:Int)):=jo;obtain⟨ad,hA,-,hc⟩:=(HX.below HB.out).at_ hi;subst hA;have hil:i<vs.length:=by rw[←HM];exact hi
   rw[yL hil] at hc;have hvn:=HV.2 _ (yD hil);have hprev:0<i→w1.cell? (ad.add (i - 1))=some (.int .i64 (nth vs (i - 1):Int))∧nth vs (i - 1)<nth vs i:=fun h0=>by
    obtain⟨ad2,e2,-,hc2⟩:=(HX.below HB.out).at_ (k:=i - 1) jo;cases e2;rw[yL jo] at hc2;exact⟨hc2,by rw[Zu hil,Zu (show i - 1<vs.length by omega)];exact List.pairwise_iff_getElem.1 HV.1 (i - 1) i _ _ jo⟩
   obtain⟨v,hv⟩:=vx (nth vs i);rw[←hv] at hc hvn hprev;clear hv;have v0:¬((v:Int)<0):=jo;have v1:¬((v:Int)≥(n:Int)):=jo;rcases Nat.eq_zero_or_pos i with h0 | h0
   ·subst h0;rw[adz] at hc;clear hprev;go_wp2_with fail;go_roundg (gk - 1);case measure=>omega
    case rel=>exact⟨1,vj1,jo,rfl⟩
   ·obtain⟨hc2,hlt⟩:=hprev h0;clear hprev;obtain⟨u,hu⟩:=vx (nth vs (i - 1));rw[←hu] at hc2 hlt;clear hu;have i2:((i:Int)>0):=jo;have i3:((i:Int) - 1)=((i - 1:Nat):Int):=jo;have v2:¬((u:Int)≥(v:Int)):=jo;exact znE
  ·obtain rfl:m=i:=jo;go_wp2_with fail;go_loopg [52] q (fun g iv wr=>∃i:Nat,iv = .int .i64 i∧i+g=q∧w1=wr);case atStart=>exact⟨0,rfl,jo,rfl⟩
   case round=>
    obtain⟨i,rfl,hiq,rfl⟩:=hrel;by_cases hi:i<q
    ·have i1:((i:Int)<(q:Int)):=jo;obtain⟨xr,hxr⟩:∃x,rs[i]? = some x:=⟨_,uf (by rw[←HQ];exact hi)⟩;have hxl:=HL.out xr (ui hxr);obtain⟨adr,csr,rfl,-,hcr,hRr⟩:=(RowsV.below HRS.out HB.out).atA hxr;obtain⟨ur,rfl,hur⟩:=hRr;obtain⟨Au,nu,cu,rfl,-,hnu,-⟩:=hur.x;replace hcr:=hcr 0 _ rfl;rw[adz,Nat.mul_one] at hcr;obtain rfl:nu=m:=by rw[hnu,hxl,HM]
     clear hnu hxl hxr hur;exact znE
    ·obtain rfl:q=i:=jo;have HI:=vh (ue w1.heap.size w1);go_wp2_with fail;clear c0 c1 c2;go_loopg [66] q (fun g iv wr=>∃i:Nat,iv = .int .i64 i∧i+g=q∧Hid (Below w1.heap.size w1 wr));case atStart=>exact⟨0,rfl,jo,HI⟩
     case round=>
      obtain⟨i,rfl,hiq,HJ⟩:=hrel;clear HI;by_cases hi:i<q
      ·have i1:((i:Int)<(q:Int)):=jo;obtain⟨xr,hxr⟩:∃x,rs[i]? = some x:=⟨_,uf (by rw[←HQ];exact hi)⟩;have hbw:=ze HB.out HJ.out HB.size;obtain⟨adr,csr,rfl,-,hcr,hRr⟩:=(RowsV.below HRS.out hbw).atA hxr;obtain⟨ur,rfl,hur⟩:=hRr;obtain⟨Au,nu,cu,rfl,-,-,hx⟩:=hur.x;replace hcr:=hcr 0 _ rfl;rw[adz,Nat.mul_one] at hcr;have HXx:=vh hx;clear hx hur hxr hbw;go_wp2_with fail;refine(zcO nu cu Au xr wr HXx.out).mono ?_;rintro e w2 ⟨rfl,hb⟩;clear hcr HXx;have HN:=vh (HJ.trans (hb.mono HJ.size));clear hb HJ;exact znF
      ·obtain rfl:q=i:=jo;obtain⟨w3,hw3⟩:∃x,x=wr:=⟨_,rfl⟩;subst hw3;have HI:=HJ;go_wp2_with fail;go_loopg [11] q (fun g iv wr=>∃i:Nat,iv = .int .i64 i∧1≤i∧(i+g=q+1)∧Hid (Below w1.heap.size w1 wr));case atStart=>exact⟨1,rfl,jo,jo,HI⟩
       case round=>
        obtain⟨i,rfl,hi1,hiq,HK⟩:=hrel;clear HI;have c1:=Blk.at1 HF.out HK.out;by_cases hi:i<q
        ·have i1:((i:Int)<(q:Int)):=jo;obtain⟨x1,hx1⟩:∃x,rs[i - 1]? = some x:=⟨_,uf (by rw[←HQ];omega)⟩;obtain⟨x2,hx2⟩:∃x,rs[i]? = some x:=⟨_,uf (by rw[←HQ];exact hi)⟩;have hlt:zH x1 x2<0:=by
          obtain⟨h1,e1⟩:=List.getElem?_eq_some_iff.1 hx1;obtain⟨h2,e2⟩:=List.getElem?_eq_some_iff.1 hx2;rw[←e1,←e2];exact List.pairwise_iff_getElem.1 HS.out (i - 1) i h1 h2 jo
         have hbw:=ze HB.out HK.out HB.size;obtain⟨adr,cs1,rfl,-,hc1,hR1⟩:=(RowsV.below HRS.out hbw).atA hx1;obtain⟨ad2,cs2,e2,-,hc2,hR2⟩:=(RowsV.below HRS.out hbw).atA hx2;cases e2;obtain⟨u1,rfl,hu1⟩:=hR1;obtain⟨u2,rfl,hu2⟩:=hR2;obtain⟨A1,n1,k1,rfl,-,-,hX1⟩:=hu1.x;obtain⟨A2,n2,k2,rfl,-,-,hX2⟩:=hu2.x;replace hc1:=hc1 0 _ rfl;replace hc2:=hc2 0 _ rfl;rw[adz] at hc1 hc2;have H1:=vh hX1;have H2:=vh hX2;have HD1:=vh hc1;have HD2:=vh hc2;have HLt:=vh hlt;clear hX1 hX2 hc1 hc2 hlt hu1 hu2 hx1 hx2 hbw;go_upto_region 24 with (fail);refine wp_region_each (kss:=[[],[(0,81)],[],[(2,83)],[(1,82),(3,84)],[(4,85)],[],[(6,87)],[],[(7,88),(8,89)],[(9,90)],[(5,86),(10,91)],[(11,92)]]) [(3,.pointer (some (⟨g3,0,none⟩))),(11,.int .i64 ((i:Int)))] [EV (.pointer (some (⟨g3,1,none⟩))),EV (.slice ((some adr)) q cd),EV (.int .i64 ((i:Int))),EV (.int .i64 (((i - 1:Nat):Int))),EV (.pointer (some (Addr.add adr ((i - 1)*1)))),EV (.slice A1 n1 k1),EV (.pointer (some (⟨g3,1,none⟩))),EV (.slice ((some adr)) q cd),EV (.int .i64 ((i:Int))),EV (.pointer (some (Addr.add adr (i*1)))),EV (.slice A2 n2 k2),EV (.int .i64 ((zH x1 x2))),EV (.bool false)] vk vk vt ?_ ?_ ?_
         ·exact js
         ·exact⟨zeg,vi84,vi1,(fun aa ww hb he hd=>za rfl (Zh i 1 (i - 1) rfl hd.1 rfl jo jo)),(fun aa ww hb he hd=>za rfl (zm (e:=87) (s:=1) (k:=(i - 1)) rfl vk jo hd.1 hd.2.1)),(fun aa ww hb he hd=>za rfl (zd rfl vk hd.1 ((hb.cell (zh HD1.out)).trans HD1.out))),zeg,vi84,vi1,zht,(fun aa ww hb he hd=>za rfl (zd rfl vk hd.1 ((hb.cell (zh HD2.out)).trans HD2.out))),(fun aa ww hb he hd=>za rfl (zE _ _ _ _ rfl vk (by rw[show aa.eval (.tmp 86) = .slice A1 n1 k1 from hd.1,show aa.eval (.tmp 91) = .slice A2 n2 k2 from hd.2.1];exact zU (zaA n1 n2 k1 k2 A1 A2 _ _ ww (H1.new hb) (H2.new hb))))),(fun aa ww hb he hd=>za rfl (yY ((zH x1 x2)) 0 .i64 _ _ _ _ rfl hd.1 rfl ⟨ut Value.bool (by have:=HLt.out;simp;omega),ue _ _⟩)),uC⟩
         intro vs w4 hb hR;refine vs0 ?_;rw[(hR 12 jd:vs 12=_)];clear hR;have HN:=vh (HK.trans (hb.mono HK.size));clear hb HK H1 H2 HD1 HD2 HLt c1;go_wp2_with fail;go_roundg (gk - 1);case measure=>omega
         case rel=>exact⟨i+1,vj1,jo,jo,HN⟩
        ·have i2:¬((i:Int)<(q:Int)):=jo;go_wp2_with fail;go_ret;exact⟨rfl,ze HB.out HK.out HB.size⟩):P:=h
def zi7 (vq57:Nat):Prop:=∀(a b C':Value) (n:Nat) (vs:List Nat) (rs:List (List Int)) (C:Option Addr) (cc:Nat) (w:World) (ha:IntsV w a vs) (hr:RowsV w b rs) (hv:Vrs n vs) (hl:∀r∈rs,r.length=vs.length) (hs:rs.Pairwise fun x y=>zH x y<0),Calls Tryz.prog vq57 #[.int .i64 (n:Int),.agg #[a,b,.slice C rs.length cc]] w fun e w'=>e = .returned (.int .i64 0)∧Below w.heap.size w w'
theorem FN.vq58:zi7 101:=by
 exact zjQ
theorem FC.vq58:zi7 113:=by
 exact zjQ
theorem FP.vq58:zi7 119:=by
 exact zjQ
theorem FW.vq58:zi7 125:=by
 exact zjQ
def zaO {S:Type} (fs:List (PF S)):Nat:=fs.foldl (fun a f=>a ||| zr f.vars) 0
theorem zkm (fs:List (PF S)) (f:PF S):zaO (fs++[f])=(zaO fs ||| zr f.vars):=by unfold zaO;rw[List.foldl_append];rfl
theorem za1 (fs:List (PF S)) (v:Nat):(zaO fs).testBit v=true↔∃f∈fs,v∈f.vars:=by
 have:∀(l:List (PF S)) (a:Nat),(l.foldl (fun a f=>a ||| zr f.vars) a).testBit v=true↔a.testBit v=true∨∃f∈l,v∈f.vars:=by
  intro l;induction l with
  |nil=>intro a;simp
  |cons f l ih=>
   intro a;rw[List.foldl_cons,ih,Nat.testBit_or,yK,Bool.or_eq_true,decide_eq_true_eq];constructor
   ·rintro((h | h) | ⟨g,h1,h2⟩)
    ·exact .inl h
    ·exact .inr ⟨f,vz,h⟩
    ·exact .inr ⟨g,uq _ h1,h2⟩
   ·rintro(h | ⟨g,h1,h2⟩)
    ·exact .inl (.inl h)
    ·rcases List.mem_cons.1 h1 with rfl | h1
     ·exact .inl (.inr h2)
     ·exact .inr ⟨g,h1,h2⟩
 unfold zaO;rw[this];simp
theorem zoI {fs:List (PF S)} (h:∀f∈fs,∀v∈f.vars,v<n):zaO fs<2 ^ n:=by
 apply Nat.lt_pow_two_of_testBit;intro i hi;cases hb:(zaO fs).testBit i with
 |false=>rfl
 |true=>
  obtain⟨f,h1,h2⟩:=(za1 fs i).1 hb;have:=h f h1 i h2;omega
theorem zoJ {P:Prop} (h:P:=by
 obtain⟨O,co,rfl,-,-,hno5⟩:=h.form;obtain⟨no,hno⟩:∃x,x=fs.length:=⟨_,rfl⟩;rw[←hno] at h hno5 ⊢;have HO:=vh h;have HNo:=vh hno;clear h hno;have HOk:=vh hok;have HCov:=vh hcov;clear hok hcov;have t0:¬((n:Int)<0):=jo;have t1:¬((n:Int)>32):=jo;first | go_enter Tryz.func61,Tryz.ntmps61 | go_enter Tryz.func66,Tryz.ntmps66 | go_enter Tryz.func71,Tryz.ntmps71 | go_enter Tryz.func78,Tryz.ntmps78
 go_wp2_with fail;go_loopg [25,7] no (fun g iv cv wr=>∃i:Nat,iv = .int .i64 i∧cv = .int .u32 ((zaO (fs.take i):Nat):Int)∧i+g=no∧Hid (Below w.heap.size w wr));case atStart=>exact⟨0,rfl,rfl,jo,vh (ue _ _)⟩
 case round=>
  obtain⟨i,rfl,rfl,hio,HJ⟩:=hrel;by_cases hi:i<no
  ·have i1:((i:Int)<(no:Int)):=jo;obtain⟨xo,hxo⟩:∃x,fs[i]? = some x:=⟨_,uf (by rw[←HNo];exact hi)⟩;obtain⟨ado,cso,rfl,-,hco,hFo⟩:=HO.atA hxo;obtain⟨xo1,xo2,xo3,rfl,ho1,ho2,ho3⟩:=hFo;obtain⟨OA,mo,oc,rfl,-⟩:=id ho1;obtain⟨OD,od,rfl,-⟩:=ho2.form;obtain⟨OC,oe,rfl,-⟩:=ho3.form;have hmem:=ui hxo;have HCo:=vh hco;have HO1:=vh ho1;have HO2:=vh ho2;have HMem:=vh hmem;have HXo:=vh hxo;clear hco ho1 ho2 ho3 hmem hxo;have ht:zaO (fs.take (i+1))=(zaO (fs.take i) ||| zr xo.vars):=by rw[List.take_add_one,HXo];exact zkm _ _
   have hok:=HOk.out xo HMem.out;have hcb:zaO (fs.take i)<4294967296:=zoI (n:=32) fun f hf v hv=>by have:=(HOk.out f (List.mem_of_mem_take hf)).1.2 v hv;omega
   have hsb:zr xo.vars<4294967296:=ZB (n:=32) fun v hv=>by have:=hok.1.2 v hv;omega
   obtain⟨cv,hcv⟩:∃x,x=zaO (fs.take i):=⟨_,rfl⟩;rw[←hcv] at ht hcb ⊢;have HT:=vh ht;have HK:=vh hok;clear ht hok hcv;go_upto_region 6 with (fail);refine zc (kss:=[[],[(0,27)]]) [(23,.slice ((some ado)) no co),(25,.int .i64 ((i:Int)))] [EV (.pointer (some (Addr.add ado (i*3)))),EV (.agg #[.slice OA mo oc,.slice OD xo.rows.length od,.slice OC xo.vals.length oe])] 2 vk vt [false,false] ?_ ?_ ?_
   ·exact js
   ·exact⟨zsQ,(fun aa ww hb he hd=>za rfl (zg (cs:=[.slice OA mo oc,.slice OD xo.rows.length od,.slice OC xo.vals.length oe]) rfl vk vk hd.1 (fun j u hj=>((ze HJ.out hb HJ.size).cell (zh (HCo.out j u hj))).trans (HCo.out j u hj)))),uC⟩
   intro vs w2 hb hR;refine vw1 ?_;clear hR;show wpOps _ _ _ [2,3] _ _;refine zb rfl rfl (vq11 rfl ?_);refine jp 9 ?_;refine zb rfl rfl (zC (vs:=[.slice OA mo oc,.slice OD xo.rows.length od,.slice OC xo.vals.length oe]) (off:=0) rfl rfl vk rfl rfl rfl (Blk.new _ _ _) vj4 (fun j _ _ x=>zD rfl j x) ?_);intro w3 kn hg hs hbx;have hbw:Below w2.heap.size w2 w3:=(al w2 _).grown hg (al w2 _).size (fun k e=>by cases e;exact ug _);obtain⟨gb,hgb⟩:∃g,g=w2.heap.size:=⟨_,rfl⟩;rw[←hgb] at hbx ⊢;clear kn hg hs;unfold wpOps;have HB3:=vh (ze HJ.out (ze hb hbw hb.size) HJ.size);have HX:=vh hbx;clear hb hbw hbx hgb HJ HCo;go_upto_region 7 with (fail);refine zj (kss:=[[],[],[(0,29),(1,30)],[(2,31)]]) [(0,.int .i64 ((n:Int))),(9,.pointer (some (⟨gb,0,none⟩)))] [EV (.int .i64 ((n:Int))),EV (.agg #[.slice OA mo oc,.slice OD xo.rows.length od,.slice OC xo.vals.length oe]),EV (.int .i64 0),EV (.int .i64 0)] vk vt ?_ ?_ ?_
   ·exact js
   ·exact⟨vi0,(fun aa ww hb he hd=>za rfl (zg (cs:=[.slice OA mo oc,.slice OD xo.rows.length od,.slice OC xo.vals.length oe]) rfl vk vk he.2.1 (Blk.at_k HX.out rfl hb))),(fun aa ww hb he hd=>za rfl (zE _ _ _ _ rfl vk (by rw[show aa.eval (.tmp 29) = .int .i64 ((n:Int)) from hd.1,show aa.eval (.tmp 30) = .agg #[.slice OA mo oc,.slice OD xo.rows.length od,.slice OC xo.vals.length oe] from hd.2.1];exact zU ((by rw[←HK.2.1];exact vq58 _ _ (.slice OC xo.rows.length oe) n xo.vars xo.rows OC oe ww (HO1.below (ze HB3.out hb HB3.size)) (RowsV.below HO2.out (ze HB3.out hb HB3.size)) HK.1 HK.2.2.1 HK.2.2.2))))),vi3,uC⟩
   intro vs w4 hb hR;refine vw6 ?_;clear hR;have HB4:=vh (ze HB3.out hb HB3.size);have HX4:=vh (HX.keep hb);clear hb HB3 HX;go_upto_region 10 with (fail);refine zc (kss:=[[],[],[(1,36)],[(0,35),(2,37)]]) [(7,.int .u32 ((cv:Int))),(9,.pointer (some (⟨gb,0,none⟩)))] [EV (.int .u32 ((cv:Int))),EV (.agg #[.slice OA mo oc,.slice OD xo.rows.length od,.slice OC xo.vals.length oe]),EV (.int .u32 (((zr xo.vars:Nat):Int))),EV (.int .u32 (((cv ||| zr xo.vars:Nat):Int)))] 4 vk vt [false,false,false,false] ?_ ?_ ?_
   ·exact js
   ·exact⟨vi0,(fun aa ww hb he hd=>za rfl (zg (cs:=[.slice OA mo oc,.slice OD xo.rows.length od,.slice OC xo.vals.length oe]) rfl vk vk he.2.1 (Blk.at_k HX4.out rfl hb))),(fun aa ww hb he hd=>za rfl (zq _ _ _ rfl vk (by rw[show aa.eval (.tmp 36) = .agg #[.slice OA mo oc,.slice OD xo.rows.length od,.slice OC xo.vals.length oe] from hd.1];exact zU (vq2 _ _ _ xo.vars ww (HO1.below (ze HB4.out hb HB4.size)) (fun v hv=>by have:=HK.1.2 v hv;omega))))),(fun aa ww hb he hd=>za rfl (zcr _ _ rfl hd.1 hd.2.1 hcb hsb)),uC⟩
   intro vs w5 hb hR;refine vw6 ?_;clear hR;show wpOps _ _ _ [4] _ _;refine zb rfl rfl (zl 7 (.tmp 38) rfl rfl (.int .u32 ((cv ||| zr xo.vars:Nat):Int)) rfl ?_);refine vs1 ?_;unfold wpOps;have HN:=vh (ze HB4.out hb HB4.size);rw[←HT];clear hb HB4 HX4 HK HT HO1 HO2;go_wp2_with fail;go_roundg (gk - 1);case measure=>omega
   case rel=>exact⟨i+1,vj1,rfl,jo,HN⟩
  ·obtain rfl:no=i:=jo;rw[um zqg,HCov.out];obtain⟨p2,hp2⟩:∃x,x=2 ^ n:=⟨_,rfl⟩;have hlt:1≤p2∧p2<4294967296:=by rw[hp2];exact⟨Nat.one_le_two_pow,zah jo⟩
   have esh:=zc3 n jo;rw[←hp2] at esh ⊢;have esb:((p2:Int) - 1) % 4294967296=((p2 - 1:Nat):Int):=jo;clear hp2;go_wp2_with fail;go_ret;exact⟨rfl,HJ.out⟩):P:=h
def zi8 (vq1:Nat) (vq7:Nat) (vq8:Nat) (vq59:Nat):Prop:=∀ {S:Type} {R:World→List Value→S→Prop} (n:Nat) (vf:Value) (fs:List (PF S)) (w:World) (hn:n≤31) (h:SlsV vq1 3 (FacG vq7 vq8 R) w vf fs) (hok:∀f∈fs,Vrs n f.vars∧f.rows.length=f.vals.length∧(∀r∈f.rows,r.length=f.vars.length)∧f.rows.Pairwise fun x y=>zH x y<0) (hcov:zaO fs=2 ^ n - 1),Calls Tryz.prog vq59 #[.int .i64 (n:Int),.int .u32 0,vf] w fun e w'=>e = .returned (.int .i64 0)∧Below w.heap.size w w'
theorem FN.vq40:zi8 104 32 1 61:=fun {S} {R} n vf fs w hn h hok hcov=>zoJ
theorem FC.vq40:zi8 119 34 2 66:=fun {S} {R} n vf fs w hn h hok hcov=>zoJ
theorem FP.vq40:zi8 128 61 3 71:=fun {S} {R} n vf fs w hn h hok hcov=>zoJ
theorem FW.vq40:zi8 140 72 1 78:=fun {S} {R} n vf fs w hn h hok hcov=>zoJ
def bget (l:List Bool) (k:Nat):Bool:=l.getD k false
def zdc (r:List Nat) (g:List Bool) (e f:Nat):Bool:=decide (e≠f) && (!bget g e && (!bget g f && decide (zf8 (nth r e) (nth r f)=0)))
def zoK (r:List Nat) (g:List Bool):Option (Nat×Nat)→Prop
 |none=>∀e f,e<r.length→f<r.length→zdc r g e f=false
 |some (e,f)=>e<r.length∧f<r.length∧zdc r g e f=true∧(∀e' f',e'<e→f'<r.length→zdc r g e' f'=false)∧∀f',f'<f→zdc r g e f'=false
def occ (r:List Nat) (v:Nat):Nat:=r.countP fun e=>e.testBit v
def zoL (n:Nat) (r:List Nat):Option (Nat×Nat)→Prop
 |none=>∀v,v<n→occ r v≠1
 |some (e,v)=>v<n∧e<r.length∧(nth r e).testBit v=true∧occ r v=1∧∀v',v'<v→occ r v'≠1
section
variable {ops : Array Oper} {rest : List Oper} {o : Oper} {a : Act} {w : World} {Q : Exit → Act → World → Prop}
end
section
variable {w : World} {n : Nat} {es : List Nat} {A : Option Addr} {c : Nat} {A4 : Option Addr} {c4 gb : Nat} {v : Value} {l : List (Int × Int × Int)} {r : List Nat} {g : List Bool} {wr : World}
end
def Fin (n:Nat) (r:List Nat) (g:List Bool):Prop:=zoK r g none∧zoL n r none
section
variable {n : Nat} {r : List Nat} {g : List Bool} {e f v : Nat}
end
def sub (a b:Nat):Prop:=∀v,a.testBit v=true→b.testBit v=true
section
variable {n : Nat} {r : List Nat} {g : List Bool} {e f v : Nat}
end
section
variable {n : Nat} {es : List Nat}
end
section
variable {n : Nat} {es : List Nat} {v c b : Nat}
end
section
variable {n : Nat} {es l : List Nat} {left : Nat}
end
section
variable {n : Nat} {es : List Nat} {c r k v : Nat}
end
def zoM (w:World) (e:Ending) (w':World):Prop:=∃k:Int,e = .returned (.int .i64 k)∧Below w.heap.size w w'
def zaf (m:Nat) (v:Value) (_:World):Prop:=∃k:Nat,v = .int .u32 (k:Int)∧k<m
def U8k (v:Value) (_:World):Prop:=∃k:Nat,v = .int .u8 (k:Int)∧k<256
def zoN (v:Value) (_:World):Prop:=∃k:Int,v = .int .i64 k
section
variable {o : Oper} {a : Act} {w : World} {t u : Tmp}
theorem zrY (ho:o.op = .binOp .shr T (.tmp t) (.const (.int .u64 24)) T2) (h:zaf 4294967296 (tv a t) w):zp Tryz.prog o a.eval w (fun v w'=>zaf 256 v w'∧Below w.heap.size w w'):=by
 obtain⟨x,hx,hl⟩:=h;refine zo (.int .u32 ((x / 16777216:Nat):Int)) ?_ ⟨⟨_,rfl,jo⟩,ue _ _⟩;have e:((x / 16777216:Nat):Int)=(x:Int) / 2 ^ 24:=jo;exact znO
theorem zrZ (ho:o.op = .binOp .shr T (.tmp t) (.const (.int .u64 16)) T2) (h:zaf 4294967296 (tv a t) w):zp Tryz.prog o a.eval w (fun v w'=>zaf 4294967296 v w'∧Below w.heap.size w w'):=by
 obtain⟨x,hx,hl⟩:=h;refine zo (.int .u32 ((x / 65536:Nat):Int)) ?_ ⟨⟨_,rfl,jo⟩,ue _ _⟩;have e:((x / 65536:Nat):Int)=(x:Int) / 2 ^ 16:=jo;exact znO
theorem ztl (ho:o.op = .binOp .shr T (.tmp t) (.const (.int .u64 8)) T2) (h:zaf 4294967296 (tv a t) w):zp Tryz.prog o a.eval w (fun v w'=>zaf 4294967296 v w'∧Below w.heap.size w w'):=by
 obtain⟨x,hx,hl⟩:=h;refine zo (.int .u32 ((x / 256:Nat):Int)) ?_ ⟨⟨_,rfl,jo⟩,ue _ _⟩;have e:((x / 256:Nat):Int)=(x:Int) / 2 ^ 8:=jo;exact znO
theorem zoO (ho:o.op = .binOp .and T (.tmp t) (.const (.int .u32 255)) T2) (h:zaf 4294967296 (tv a t) w):zp Tryz.prog o a.eval w (fun v w'=>zaf 256 v w'∧Below w.heap.size w w'):=by
 obtain⟨x,hx,hl⟩:=h;refine zo (.int .u32 ((x &&& 255:Nat):Int)) ?_ ⟨⟨_,rfl,by have:x &&& 255≤255:=Nat.and_le_right;omega⟩,ue _ _⟩;have e:bits .and .u32 (x:Int) 255=((x &&& 255:Nat):Int):=zdh x 255 hl jo;unfold execOp;rw[ho];simp only[zK,ZM,hx];go_simp
theorem zr0 (ho:o.op = .binOp .add T (.tmp t) (.tmp u) T2) (h:U8k (tv a t) w) (h2:U8k (tv a u) w):zp Tryz.prog o a.eval w (fun v w'=>U8k v w'∧Below w.heap.size w w'):=by
 obtain⟨x,hx,hl⟩:=h;obtain⟨y,hy,hl2⟩:=h2;refine zo (.int .u8 (((x+y) % 256:Nat):Int)) ?_ ⟨⟨_,rfl,jo⟩,ue _ _⟩;have e:IntKind.u8.wrap ((x:Int)+(y:Int))=(((x+y) % 256:Nat):Int):=by rw[IntKind.wrap_u8];omega
 unfold execOp;rw[ho];simp only[zK,hx,hy];go_simp;try (rw[←e];rfl)
theorem zr1 (hT:T=5∧T2=3) (ho:o.op = .convert T T2 (.tmp t)) (h:U8k (tv a t) w):zp Tryz.prog o a.eval w (fun v w'=>zoN v w'∧Below w.heap.size w w'):=by
 obtain⟨rfl,rfl⟩:=hT;obtain⟨x,hx,hl⟩:=h;refine zo (.int .i64 (x:Int)) ?_ ⟨⟨_,rfl⟩,ue _ _⟩;have e:IntKind.i64.wrap (x:Int)=(x:Int):=IntWalk.i64_in _ jo;unfold execOp;rw[ho];simp only[zK,hx];go_simp
theorem zoP {S:ByteArray} (hT:T=9) (hS:S.size=256) (ho:o.op = .index T (.const (.string S)) (.tmp t)) (h:zaf 256 (tv a t) w):zp Tryz.prog o a.eval w (fun v w'=>U8k v w'∧Below w.heap.size w w'):=by
 subst hT;obtain⟨x,hx,hl⟩:=h;have hl':x<S.size:=jo;refine zo (.int .u8 (((S[x]'hl').toNat:Nat):Int)) ?_ ⟨⟨_,rfl,(S[x]'hl').toNat_lt⟩,ue _ _⟩;unfold execOp;rw[ho];simp only[zK,ZM,hx];go_simp;rw[dif_pos (show (x:Int)<256 by omega)];rfl
end
theorem zmd (x:Nat) (hx:x<4294967296) (w:World):Calls Tryz.prog 104 #[.int .u32 x] w (zoM w):=by
 go_enter Tryz.func104,Tryz.ntmps104;go_upto_region 1 with (fail);refine wp_region_each (kss:=[[],[(0,3)],[(1,4)],[],[(3,6)],[(4,7)],[(5,8)],[(2,5),(6,9)],[],[(8,11)],[(9,12)],[(10,13)],[(7,10),(11,14)],[],[(13,16)],[(14,17)],[(12,15),(15,18)],[(16,19)],[(17,20)]]) [(0,.int .u32 (x:Int))]
  [zaf 4294967296,zaf 256,U8k,zaf 4294967296,zaf 4294967296,zaf 256,U8k,U8k,zaf 4294967296,zaf 4294967296,zaf 256,U8k,U8k,zaf 4294967296,zaf 256,U8k,U8k,zoN,zoN] vk vk vt ?_ ?_ ?_
 ·exact vt24
 ·have mv:∀ {o:Oper} {a:Act} {w:World} {ops:Array Oper},o.op = .move (.tmp 0)→o.guard=none→tv a 0 = .int .u32 (x:Int)→if Region.wanted o (yielded ops a.tmps)=true then zp Tryz.prog o a.eval w (fun v w'=>zaf 4294967296 v w'∧Below w.heap.size w w') else zaf 4294967296 undef w:=fun h1 h2 h3=>za h2 (zi _ h1 ⟨⟨x,h3,hx⟩,ue _ _⟩)
  refine⟨?_,?_,?_,?_,?_,?_,?_,?_,?_,?_,?_,?_,?_,?_,?_,?_,?_,?_,?_,uC⟩
  ·exact fun aa ww hb he hd=>mv rfl rfl he.1
  ·exact fun aa ww hb he hd=>za rfl (zrY rfl hd.1)
  ·exact zjI
  ·exact fun aa ww hb he hd=>mv rfl rfl he.1
  ·exact fun aa ww hb he hd=>za rfl (zrZ rfl hd.1)
  ·exact znV
  ·exact zjI
  ·exact znR
  ·exact fun aa ww hb he hd=>mv rfl rfl he.1
  ·exact fun aa ww hb he hd=>za rfl (ztl rfl hd.1)
  ·exact znV
  ·exact zjI
  ·exact znR
  ·exact fun aa ww hb he hd=>mv rfl rfl he.1
  ·exact znV
  ·exact zjI
  ·exact znR
  ·exact fun aa ww hb he hd=>za rfl (zr1 ⟨rfl,rfl⟩ rfl hd.1)
  ·exact fun aa ww hb he hd=>za rfl (YO _ rfl ⟨hd.1,ue _ _⟩)
 intro vs w1 hb hR;obtain⟨k,hk⟩:zoN (vs 18) w1:=hR 18 jd;clear hR;simp only[yI,Nat.zero_add,Nat.reduceAdd,Act.put,List.setIfInBounds_toArray,List.set_cons_zero,List.set_cons_succ];rw[hk];clear hk;have HB:=vh hb;clear hb;go_wp2_with fail;go_ret;exact⟨k,rfl,HB.out⟩
end Go.Proofs.YtoecdobelolkeaaGreatDoor
