/- Part of TopSemirings. -/
import Derived.Test.YtoecdobelolkeaaGreatDoorK15
set_option linter.unusedVariables false
set_option linter.unusedSimpArgs false
set_option maxRecDepth 100000
set_option maxHeartbeats 64000000
namespace Go.Proofs.YtoecdobelolkeaaGreatDoor
open Go.RowKit
variable {j i c n cnt d k l cn B:Nat} {w w':World} {o:Oper} {a:Act} {b:Bool} {e:TypeId} {u:Value} {α:Type}
theorem zmG {ops:Array Oper} {S:World→Prop} {t:Tmp} {vs:Array Value} {x:Value} (ho:o.op = .extract (.tmp t) i) (hg:o.guard=none) (h:tv a t = .tuple vs) (hx:vs[i]? = some x):Region.wanted o (yielded ops a.tmps)=true∧∃v,(∀w',S w'→(execOp a.eval o).run Tryz.prog w' = .ok (.value v) w')∧v=x:=by
 refine⟨zn8,x,fun w' _=>?_,rfl⟩;exact znP
theorem Addr.add_zz (A:Addr):A.add 0=A:=by unfold Addr.add;simp
theorem Addr.add_zero9z (A:Addr):A.add (0*1)=A:=Addr.add_zz A
theorem zmH {cs:Array Value} {o:Nat} {vs:List Value} (h:∀(j:Nat) (x:Int),cs[j]?≠some (Value.int .u32 x)) (hv:vs.all okC=true) (j:Nat) (x:Int):(yt cs.toList o vs).toArray[j]?≠some (Value.int .u32 x):=by
 intro e;have e2:(yt cs.toList o vs)[j]? = some (Value.int .u32 x):=by simpa using e
 rcases zcx (ui e2) with h1 | h1
 ·obtain⟨i,hi,he⟩:=List.getElem_of_mem h1;exact h i x (by rw[←Array.getElem?_toList,uf hi,he])
 ·rw[List.all_eq_true] at hv;have:=hv _ h1;cases this
theorem zd5 {P:Program} {Kp:Value→World→Prop} {v:Value} {ts:Array TypeId} (K:FuncId) (caps:Array Value) (t u:Tmp) (ho:o.op = .call {callee:= .value (.tmp t),args:=#[.tmp u],argTypes:=ts}) (ht:tv a t = .func (.func K) #[] caps) (hf:Yw P K=true) (hu:tv a u=v)
  (h:Calls P K (#[v]++caps) w (fun e w''=>∃v,e = .returned v∧Kp v w'')):zp P o a.eval w Kp:=by
 exact vt30
theorem zif {P:Program} {T t2:TypeId} {x:Operand} (i:Nat) (hi:i≤1000000000000) (ho:o.op = .binOp .add T x (.const (.int .u64 1)) t2) (hx:a.eval x = .int .u64 (i:Int)):zp P o a.eval w (fun v w'=>v = .int .u64 ((i+1:Nat):Int)∧Below w.heap.size w w'):=by
 refine zo (.int .u64 ((i+1:Nat):Int)) ?_ ⟨rfl,ue _ _⟩;have e:IntKind.u64.wrap ((i:Int)+1)=((i+1:Nat):Int):=by
  rw[show (i:Int)+1=((i+1:Nat):Int) by omega];exact IntWalk.u64_in _ jo
 unfold execOp;rw[ho];simp only[hx];go_simp
def ExE (S:JnS) (v:Nat) (x:Nat→Nat) (cnt:Nat) (w:World) (e:Ending) (w':World):Prop:=
 e = .returned (.bool true)∧(∀i,i<S.na→AtQ w' (S.I i) (yO (S.at_ i) v x))∧S.St w' (cnt+yA S.ats S.n v x)∧OutG S.G w w'
theorem zpa {ats:List (List Nat×List (List Int))} {v:Nat} {x:Nat→Nat} (hv:v<n) (rem:Int→Prop) [DecidablePred rem]:zcb ats n v x rem≤yA ats n v x:=by
 rw[ze4 hv];unfold zcb;have:∀k,yl FN.vq14 (fun d=>if rem (d:Int) then 0 else yA ats n (v+1) (yG x v d)) k≤yl FN.vq14 (fun d=>yA ats n (v+1) (yG x v d)) k:=by
  intro k;induction k with
  |zero=>exact ug _
  |succ k ih=>
   show yl FN.vq14 _ k+_≤yl FN.vq14 _ k+_;refine Nat.add_le_add ih ?_;show (if rem (k:Int) then 0 else yA ats n (v+1) (yG x v k))≤yA ats n (v+1) (yG x v k);split
   ·exact Nat.zero_le _
   ·exact ug _
 exact this 4
theorem zd6 {ats:List (List Nat×List (List Int))} {v:Nat} {x:Nat→Nat} {rem rem':Int→Prop} [DecidablePred rem] [DecidablePred rem'] (h:∀z,rem z↔rem' z):zcb ats n v x rem=zcb ats n v x rem':=by
 refine yz FN.vq14 fun d _=>?_;by_cases h1:rem (d:Int)
 ·rw[if_pos h1,if_pos ((h _).1 h1)]
 ·rw[if_neg h1,if_neg (fun h2=>h1 ((h _).2 h2))]
structure ExP (S:JnS) (v:Nat) (x:Nat→Nat) (mv:Nat) (D:Nat→ItD) (IA:Addr) (it:Nat→Nat) (pa:Nat→List Int):Prop where
 mv_:mv=(S.its v).length
 D_:D=S.D v x
 IA_:IA=S.IA v
 it_:it=fun j=>(S.its v).getD j 0
 pa_:pa=fun i=>yO (S.at_ i) v x
 vn:v<S.n
 pre:PreOk S.ats v x
section
variable {S : JnS} {v mv : Nat} {x : Nat → Nat} {D : Nat → ItD} {IA : Addr} {it : Nat → Nat} {pa : Nat → List Int} {w w' : World}
theorem ExP.it_mem (h:ExP S v x mv D IA it pa) (hj:j<mv):it j<S.na∧v∈(S.at_ (it j)).1:=by
 rw[h.it_];rw[h.mv_] at hj;exact JnS.its_mem hj
theorem ExP.it_ne (h:ExP S v x mv D IA it pa) (hi:i<mv) (hj:j<mv) (hne:i≠j):it i≠it j:=by
 rw[h.mv_] at hi hj;rw[h.it_];intro e;have a1:=JnS.its_at hi;have a2:=JnS.its_at hj;have e':(S.its v).getD i 0=(S.its v).getD j 0:=e;rw[e'] at a1;exact hne ((List.getElem?_inj hi JnS.its_nodup).1 (a1.trans a2.symm))
theorem ExP.it_all (h:ExP S v x mv D IA it pa) (hi:i<S.na) (hm:v∈(S.at_ i).1):∃j,j<mv∧it j=i:=by
 obtain⟨j,hj,e⟩:=List.getElem_of_mem (JnS.mem_its.2 ⟨hi,hm⟩);refine⟨j,by rw[h.mv_];exact hj,?_⟩;rw[h.it_];show (S.its v).getD j 0=i;rw[List.getD_eq_getElem?_getD,uf hj,e];rfl
theorem ExP.D_at (h:ExP S v x mv D IA it pa) (j:Nat):D j=(S.I (it j)).at_ (pa (it j)):=by rw[h.D_,h.it_,h.pa_];rfl
theorem ExP.D_g (h:ExP S v x mv D IA it pa):(D j).g=(S.I (it j)).g:=by rw[h.D_at];rfl
theorem ExP.D_C (h:ExP S v x mv D IA it pa) (hok:S.Ok w) (hj:j<mv):(D j).C=chT (S.at_ (it j)).2 (pa (it j)):=by
 rw[h.D_at];show chT (S.I (it j)).rs (pa (it j))=_;rw[(hok.it _ (h.it_mem hj).1).2.1]
theorem ExP.mt (h:ExP S v x mv D IA it pa) (hok:S.Ok w) (hg:∀i,i<S.na→(S.I i).g≠S.gj):MtW S.G w S.gj mv D IA:=by
 have e1:=h.mv_;have e2:=h.D_;have e3:=h.IA_;subst e1;subst e2;subst e3;exact hok.mt h.vn h.pre fun j hj=>hg _ (JnS.its_mem hj).1
theorem ExP.low (h:ExP S v x mv D IA it pa) (hok:S.Ok w) (hj:j<mv):(pa (it j)).length<(S.I (it j)).d:=by
 rw[h.pa_];exact hok.low (h.it_mem hj).1 (h.it_mem hj).2
theorem ExP.prm (h:ExP S v x mv D IA it pa) (hok:S.Ok w) (hi:i<S.na):pa i∈zT (S.I i).rs (pa i).length:=by
 rw[h.pa_];exact hok.pre hi h.pre
theorem ExP.open_ (h:ExP S v x mv D IA it pa) (hok:S.Ok w) (hj:j<mv) (hat:AtQ w (S.I (it j)) (pa (it j))):Calls Tryz.prog 96 #[.pointer (some ⟨(D j).g,0,none⟩)] w fun e w'=>e = .returned (.bool true)∧(D j).on w' 0∧OutG (fun x=>x=(D j).g) w w':=by
 rw[h.D_at];exact zmF hat (hok.it _ (h.it_mem hj).1).1 (h.low hok hj) (h.prm hok (h.it_mem hj).1)
theorem ExP.up_ (h:ExP S v x mv D IA it pa) (hok:S.Ok w) (hj:j<mv) (hon:(D j).on w k):Calls Tryz.prog 100 #[.pointer (some ⟨(D j).g,0,none⟩)] w fun e w'=>e = .returned (.bool true)∧AtQ w' (S.I (it j)) (pa (it j))∧OutG (fun x=>x=(D j).g) w w':=by
 rw[h.D_at] at hon ⊢;exact zr9 hon (hok.it _ (h.it_mem hj).1).1 (h.low hok hj)
theorem ExP.C_pos (h:ExP S v x mv D IA it pa) (hok:S.Ok w) (hj:j<mv):0<(D j).C.length:=by
 rw[h.D_at];exact zfS (hok.it _ (h.it_mem hj).1).1.rk (h.low hok hj) (h.prm hok (h.it_mem hj).1)
theorem ExP.g_inj (h:ExP S v x mv D IA it pa) (hok:S.Ok w) (hj:j<mv) (hi:i<S.na) (e:(S.I i).g=(D j).g):it j=i:=by
 rw[h.D_g] at e;exact Classical.byContradiction fun hne=>hok.ne _ _ hi (h.it_mem hj).1 (fun e2=>hne e2.symm) e
theorem ExP.sub (h:ExP S v x mv D IA it pa) (hok:S.Ok w) {y:Nat} (hj:j<mv) (e:y=(D j).g):S.G y:= .inr (.inr (.inr ⟨it j,(h.it_mem hj).1,by rw[e,h.D_g]⟩))
theorem ExP.off (h:ExP S v x mv D IA it pa) (hok:S.Ok w) (hgj:(S.I i).g≠S.gj) (hi:i<S.na) (hm:v∉(S.at_ i).1):¬MeG S.gj mv D (S.I i).g:=by
 rintro(e | ⟨j,hj,e⟩)
 ·exact hgj e
 ·have:=h.g_inj hok hj hi e;exact hm (by rw[←this];exact(h.it_mem hj).2)
theorem ExP.offb (h:ExP S v x mv D IA it pa) (hn:∀j,j<mv→(D j).g≠S.gj∧(D j).g≠S.gr∧(D j).g≠S.gc):∀y,(y=S.gr∨y=S.gc)→y≠S.gj→¬MeG S.gj mv D y:=by
 rintro y hy hne (e | ⟨j,hj,e⟩)
 ·exact hne e
 ·rcases hy with rfl | rfl
  ·exact(hn j hj).2.1 e.symm
  ·exact(hn j hj).2.2 e.symm
theorem JnS.St.out2 {G':Nat→Prop} (h:S.St w cnt) (ho:OutG G' w w') (hj:JnB w' S.gj S.row S.av S.yf) (hn:∀y,(y=S.gr∨y=S.gc)→y≠S.gj→¬G' y):S.St w' cnt:=by
 obtain⟨cs,a1,a2⟩:=h.rw_;have hne:=h.ne;exact⟨hj,⟨cs,ho.blk a1 (hn _ (.inl rfl) (fun e=>hne.1 e.symm)),a2⟩,ho.blk h.ct (hn _ (.inr rfl) (fun e=>hne.2.1 e.symm))⟩
def FnR (S:JnS) (v:Nat) (x:Nat→Nat) (mv:Nat) (D:Nat→ItD) (cnt:Nat) (b:Bool) (k:Nat→Nat) (cn:Nat):Prop:=
 (∀j,j<mv→k j≤(D j).C.length)∧(b=true→∃c:Nat,c<4∧(∀j,j<mv→(D j).C[k j]? = some (c:Int))∧cn=cnt+zcb S.ats S.n v x (RemP mv (fun j=>(D j).C) k))∧(b=false→cn=cnt+yA S.ats S.n v x)
def msJ (D:Nat→ItD) (b:Bool) (k:Nat→Nat):Nat:=if b then (D 0).C.length - k 0 else 0
theorem ExP.rem0 (h:ExP S v x mv D IA it pa) (hok:S.Ok w):zcb S.ats S.n v x (RemP mv (fun j=>(D j).C) fun _=>0)=0:=by
 refine zic hok.wf fun z hz j hj=>?_;show z∈(D j).C.drop 0;rw[List.drop_zero,h.D_C hok hj,h.pa_];exact hz _ (hok.at_mem (h.it_mem hj).1) (h.it_mem hj).2
theorem ExP.fn_start (h:ExP S v x mv D IA it pa) (hok:S.Ok w) {k:Nat→Nat} (hR:MeetR mv (fun j=>(D j).C) (fun _=>0) b k):FnR S v x mv D cnt b k cnt:=by
 refine⟨hR.le,fun hb=>?_,fun hb=>?_⟩
 ·obtain⟨c,hc,h1,h2,-⟩:=hR.yes hb;refine⟨c.toNat,jo,fun j hj=>by rw[Int.toNat_of_nonneg hc.1];exact h1 j hj,?_⟩;rw[zd6 h2,h.rem0 hok];rfl
 ·have h1:=h.rem0 hok;rw[zdZ h.vn (hR.no hb)] at h1;rw[h1];rfl
theorem ExP.fn_next (h:ExP S v x mv D IA it pa) (hok:S.Ok w) {k k2:Nat→Nat} (hm:0<mv) (hc:c<4) (hall:∀j,j<mv→(D j).C[k j]? = some (c:Int)) (hcn:cn=cnt+zcb S.ats S.n v x (RemP mv (fun j=>(D j).C) k)) (hasc:∀j,j<mv→(D j).C.Pairwise (· < ·)) (hR:MeetR mv (fun j=>(D j).C) (YW k 0 (k 0+1)) b k2):FnR S v x mv D cnt b k2 (cn+yA S.ats S.n (v+1) (yG x v c)):=by
 have hnx:=RemP.next (m:=mv) (C:=fun j=>(D j).C) hm hasc hall
 have hst:=zcA (ats:=S.ats) (n:=S.n) (v:=v) (x:=x) hc (fun j hj=>by
  obtain⟨a1,a2⟩:=List.getElem?_eq_some_iff.1 (hall j hj)
  show (c:Int)∈(D j).C.drop (k j)
  rw[List.drop_eq_getElem_cons a1,a2];exact List.mem_cons_self ..) hnx
 refine⟨hR.le,fun hb=>?_,fun hb=>?_⟩
 ·obtain⟨c2,hc2,h1,h2,-⟩:=hR.yes hb;refine⟨c2.toNat,jo,fun j hj=>by rw[Int.toNat_of_nonneg hc2.1];exact h1 j hj,?_⟩;rw[zd6 h2,hst,hcn,Nat.add_assoc]
 ·rw[zdZ h.vn (hR.no hb)] at hst;rw[hst,hcn,Nat.add_assoc]
theorem ExP.fn_last (h:ExP S v x mv D IA it pa) {k:Nat→Nat} (hm:0<mv) (hc:c<4) (hall:∀j,j<mv→(D j).C[k j]? = some (c:Int)) (hcn:cn=cnt+zcb S.ats S.n v x (RemP mv (fun j=>(D j).C) k)) (hasc:∀j,j<mv→(D j).C.Pairwise (· < ·)) (hend:(D 0).C.length≤k 0+1):FnR S v x mv D cnt false (YW k 0 (k 0+1)) (cn+yA S.ats S.n (v+1) (yG x v c)):=by
 have hnx:=RemP.next (m:=mv) (C:=fun j=>(D j).C) hm hasc hall
 have hst:=zcA (ats:=S.ats) (n:=S.n) (v:=v) (x:=x) hc (fun j hj=>by
  obtain⟨a1,a2⟩:=List.getElem?_eq_some_iff.1 (hall j hj)
  show (c:Int)∈(D j).C.drop (k j)
  rw[List.drop_eq_getElem_cons a1,a2];exact List.mem_cons_self ..) hnx
 refine⟨fun j hj=>?_,fun hb=>(by cases hb),fun _=>?_⟩
 ·have hl:=(List.getElem?_eq_some_iff.1 (hall j hj)).1;by_cases e:j=0
  ·subst e;rw[yp];omega
  ·rw[YD k _ e];omega
 ·rw[zdZ h.vn (fun z=>RemP.none hm (by rw[yp];exact hend) z)] at hst;rw[hst,hcn,Nat.add_assoc]
theorem ExP.acc_le (h:ExP S v x mv D IA it pa) (hok:S.Ok w) {k:Nat→Nat} (hm:0<mv) (hc:c<4) (hall:∀j,j<mv→(D j).C[k j]? = some (c:Int)) (hasc:∀j,j<mv→(D j).C.Pairwise (· < ·)):zcb S.ats S.n v x (RemP mv (fun j=>(D j).C) k)+yA S.ats S.n (v+1) (yG x v c)≤yA S.ats S.n v x:=by
 have hnx:=RemP.next (m:=mv) (C:=fun j=>(D j).C) hm hasc hall
 have hst:=zcA (ats:=S.ats) (n:=S.n) (v:=v) (x:=x) hc (fun j hj=>by
  obtain⟨a1,a2⟩:=List.getElem?_eq_some_iff.1 (hall j hj)
  show (c:Int)∈(D j).C.drop (k j)
  rw[List.drop_eq_getElem_cons a1,a2];exact List.mem_cons_self ..) hnx
 rw[←hst];exact zpa h.vn _
theorem zjq {k k2:Nat→Nat} (hl:k 0<(D 0).C.length) (h:b=true→k 0+1≤k2 0):msJ D b k2<msJ D true k:=by
 unfold msJ;rw[if_pos rfl];cases b with
 |true=>rw[if_pos rfl];have:=h rfl;omega
 |false=>rw[if_neg vz];omega
theorem ExP.pre_next (h:ExP S v x mv D IA it pa) (hok:S.Ok w) {k:Nat→Nat} (hall:∀j,j<mv→(D j).C[k j]? = some (c:Int)):PreOk S.ats (v+1) (yG x v c):=by
 refine h.pre.next hok.wf fun a ha hm=>?_
 obtain⟨i,hi,e⟩:=List.getElem_of_mem ha;have hia:S.at_ i=a:=by unfold JnS.at_;rw[List.getD_eq_getElem?_getD,uf hi,e];rfl
 have hin:i<S.na:=by rw[hok.na];exact hi
 obtain⟨j,hj,hji⟩:=h.it_all hin (by rw[hia];exact hm);have:=ui (hall j hj);rw[h.D_C hok hj,hji,hia,h.pa_] at this;have e2:yO (S.at_ i) v x=yO a v x:=by rw[hia]
 rw[←e2];exact this
theorem ExP.pth_in (h:ExP S v x mv D IA it pa) (hok:S.Ok w) (hj:j<mv):yO (S.at_ (it j)) (v+1) (yG x v c)=pa (it j)++[(c:Int)]:=by
 obtain⟨h1,h2⟩:=h.it_mem hj;rw[zfU (hok.wf _ (hok.at_mem h1)).1.1 h2,zaq,h.pa_];congr 1;exact zaI fun u hu=>zab x c jo
theorem ExP.pth_out (h:ExP S v x mv D IA it pa) (hok:S.Ok w) (hi:i<S.na) (hm:v∉(S.at_ i).1):yO (S.at_ i) (v+1) (yG x v c)=pa i:=by
 rw[zgU (hok.wf _ (hok.at_mem hi)).1.1 hm,h.pa_];exact zaI fun u hu=>zab x c jo
theorem ExP.down (h:ExP S v x mv D IA it pa) (hok:S.Ok w) {k:Nat→Nat} (hall:∀j,j<mv→(D j).C[k j]? = some (c:Int)) (hon:∀j,j<mv→(D j).on w (k j)) (hat:∀i,i<S.na→v∉(S.at_ i).1→AtQ w (S.I i) (pa i)):∀i,i<S.na→AtQ w (S.I i) (yO (S.at_ i) (v+1) (yG x v c)):=by
 intro i hi;by_cases hm:v∈(S.at_ i).1
 ·obtain⟨j,hj,rfl⟩:=h.it_all hi hm;rw[h.pth_in hok hj];have h1:=hon j hj;have h2:=hall j hj;rw[h.D_at] at h1 h2;exact AtQ.of_on h1 (hok.it _ hi).1.rk (h.low hok hj) (h.prm hok hi) h2
 ·rw[h.pth_out hok hi hm];exact hat i hi hm
theorem ExP.back (h:ExP S v x mv D IA it pa) (hok:S.Ok w) {k:Nat→Nat} (hall:∀j,j<mv→(D j).C[k j]? = some (c:Int)) (hat:∀i,i<S.na→AtQ w (S.I i) (yO (S.at_ i) (v+1) (yG x v c))):(∀j,j<mv→(D j).on w (k j))∧(∀i,i<S.na→v∉(S.at_ i).1→AtQ w (S.I i) (pa i)):=by
 refine⟨fun j hj=>?_,fun i hi hm=>?_⟩
 ·have h1:=hat _ (h.it_mem hj).1;have h2:=hall j hj;rw[h.pth_in hok hj] at h1;rw[h.D_at] at h2 ⊢;exact AtQ.to_on h1 (hok.it _ (h.it_mem hj).1).1.rk (h.low hok hj) (h.prm hok (h.it_mem hj).1) h2
 ·have h1:=hat i hi;rwa [h.pth_out hok hi hm] at h1
end
theorem zig {gc:Nat} (u:Value) (h:Blk w gc 36 #[.int .u64 ((cnt:Nat):Int)]) (hc:cnt≤1000000000000):Calls Tryz.prog 35 (#[u]++#[.pointer (some ⟨gc,0,none⟩)]) w fun e w'=>e = .returned (.bool true)∧Blk w' gc 36 #[.int .u64 ((cnt+1:Nat):Int)]∧OutG (fun x=>x=gc) w w':=by
 have HX:=vh h;clear h;go_enter Tryz.func35,Tryz.ntmps35;go_upto_region 1 with (fail);refine zc (kss:=[[],[(0,4)]]) [(1,.pointer (some (⟨gc,0,none⟩)))] [EV (.int .u64 (cnt:Int)),EV (.int .u64 ((cnt+1:Nat):Int))] 2 vk vt [false,false] ?_ ?_ ?_
 ·exact js
 ·exact⟨(fun aa ww hb he hd=>za rfl (zd rfl vk he.1 (Blk.at0 HX.out hb))),(fun aa ww hb he hd=>za rfl (zif cnt hc rfl hd.1)),uC⟩
 intro vs w1 hb hR;refine vw1 ?_;clear hR;have hx1:=HX.keep hb;show wpOps _ _ _ [2] _ _;refine zb rfl rfl (yZ (off:=0) rfl rfl vk rfl rfl rfl hx1 (by show 0<1;omega) (fun x=>Yk (i:=0) (v:= .int .u64 (cnt:Int)) rfl rfl x) ?_);intro w2 kn hg hs hbx;have H2:=vh (show Blk w2 gc 36 #[.int .u64 ((cnt+1:Nat):Int)]∧OutG (fun x=>x=gc) w w2 from⟨hbx,(OutG.of_below hb).trans (OutG.of_grown hg rfl)⟩);clear hx1 kn hg hs hbx hb;unfold wpOps;go_wp2_with fail;go_ret;exact⟨rfl,H2.out⟩
theorem zih (S:JnS):∀(f v:Nat) (x:Nat→Nat) (w:World) (cnt:Nat),v+f=S.n→S.Ok w→PreOk S.ats v x→(∀i,i<S.na→AtQ w (S.I i) (yO (S.at_ i) v x))→S.St w cnt→cnt+yA S.ats S.n v x≤1000000000000→Calls Tryz.prog 59 #[.pointer (some ⟨S.gj,0,none⟩),.int .i64 (v:Int)] w (ExE S v x cnt w):=by
 intro f;induction f with
 |zero=>
  intro v x w cnt hvf hok hpre hat hst hlim;obtain⟨z,hz⟩:=hst.jn;have hz':Blk w S.gj 163 #[.slice (some ⟨S.gr,0,none⟩) S.n S.rc,.slice (some ⟨S.ga,0,none⟩) S.n S.ac,.int .i64 z,.func (.func 35) #[] #[.pointer (some ⟨S.gc,0,none⟩)]]:=hz;have HZ:=vh hz';have HSt:=vh hst;have HAt:=vh hat;have HV:=vh hvf;have HCn:=vh (zmu (x:=x) hok.wf (by rw[←show v=S.n by omega];exact hpre));have HL:=vh hlim;clear hz hz' hst hat hlim hok hpre;have t0:((v:Int) == (S.n:Int))=true:=by have:=HV.out;simp;omega
  clear hvf;go_enter Tryz.func59,Tryz.ntmps59;have z0:=Blk.at0 HZ.out (ue _ _);go_upto_region 2 with (fail);clear z0 t0;refine zc (kss:=[[],[(0,19)],[(1,20)],[(2,21)],[(3,22)],[(0,19)],[(5,24)]]) [(0,.pointer (some (⟨S.gj,0,none⟩)))] [EV (.pointer (some (⟨S.gj,0,none⟩))),EV (.pointer (some (⟨S.gj,0,none⟩))),EV (.pointer (some (⟨S.gj,2,none⟩))),EV (.int .i64 z),EV (.int .i64 (IntKind.i64.wrap (z+1))),EV (.pointer (some (⟨S.gj,0,none⟩))),EV (.pointer (some (⟨S.gj,2,none⟩)))] 7 vk vt [false,false,false,false,false,false,false] ?_ ?_ ?_
  ·exact js
  ·exact⟨vi0,vi5,zcj,(fun aa ww hb he hd=>za rfl (zd rfl vk hd.1 (Blk.at2 (HZ.keep hb) (ue _ _)))),zsS,vi5,zcj,uC⟩
  intro vs w1 hb hR;refine znC ?_;clear hR;have hz1:=HZ.keep hb;have hs1:=HSt.below hb;show wpOps _ _ _ [7] _ _;refine zb rfl rfl (yZ (off:=2) rfl rfl vk rfl rfl rfl hz1 (by show 2<4;omega) (fun x=>Yk (i:=2) (v:= .int .i64 z) rfl rfl x) ?_);intro w2 kn hg hs hbx;have hog:OutG (fun y=>y=S.gj) w w2:=(OutG.of_below hb).trans (OutG.of_grown hg rfl);have hs2:S.St w2 cnt:=by
   obtain⟨cs,a1,a2⟩:=HSt.rw_;exact⟨⟨_,hbx⟩,⟨cs,hog.blk a1 (fun e=>HSt.ne.1 e.symm),a2⟩,hog.blk HSt.ct (fun e=>HSt.ne.2.1 e.symm)⟩
  have HAt2:=vh (show ∀i,i<S.na→AtQ w2 (S.I i) (yO (S.at_ i) v x) from fun i hi=>(HAt.out i hi).out hog (HSt.nei (HAt.out i hi)).1);have HS2:=vh hs2;have HO2:=vh (show OutG S.G w w2 from hog.mono fun y _ e=> .inl e);obtain⟨z2,hz2⟩:=hs2.jn;have hz2':Blk w2 S.gj 163 #[.slice (some ⟨S.gr,0,none⟩) S.n S.rc,.slice (some ⟨S.ga,0,none⟩) S.n S.ac,.int .i64 z2,.func (.func 35) #[] #[.pointer (some ⟨S.gc,0,none⟩)]]:=hz2;have HZ2:=vh hz2';clear hz1 hs1 kn hg hs hbx hog hs2 hb HZ HSt HAt hz2 hz2';unfold wpOps;go_upto_region 3 with (fail);refine zt (kss:=[[],[(0,26)],[(1,27)],[(2,28)],[],[(4,30)],[(5,31)],[(6,32)]]) [(0,.pointer (some (⟨S.gj,0,none⟩)))] [EV (.pointer (some (⟨S.gj,0,none⟩))),EV (.pointer (some (⟨S.gj,0,none⟩))),EV (.pointer (some (⟨S.gj,3,none⟩))),EV (.func (.func 35) #[] #[.pointer (some ⟨S.gc,0,none⟩)]),EV (.pointer (some (⟨S.gj,0,none⟩))),EV (.pointer (some (⟨S.gj,0,none⟩))),EV (.pointer (some (⟨S.gj,0,none⟩))),EV (.slice ((some ⟨S.gr,0,none⟩)) (S.n) (S.rc))] 8 [] vk vk vt [false,false,false,false,false,false,false,false] ?_ ?_ ?_ ?_
  ·exact fun i hi=>absurd hi vz
  ·exact js
  ·exact⟨vi0,vi5,(fun aa ww hb he hd=>za rfl (zw (off:=3) rfl vk hd.1)),(fun aa ww hb he hd=>za rfl (zd rfl vk hd.1 (Blk.at3 (HZ2.keep hb) (ue _ _)))),vi0,vi5,zk7,(fun aa ww hb he hd=>za rfl (zd rfl vk hd.1 (Blk.at0 (HZ2.keep hb) (ue _ _)))),uC⟩
  intro vs w3 hb hR _;have e29:vs 3=_:=hR 3 jd;have e33:vs 7=_:=hR 7 jd;clear hR;refine vs0 ?_;rw[e29,e33];clear e29 e33;have hs3:=HS2.below hb;have hcall:Calls Tryz.prog 35 (#[.slice ((some ⟨S.gr,0,none⟩)) (S.n) (S.rc)]++#[.pointer (some ⟨S.gc,0,none⟩)]) w3 fun e w''=>∃v,e = .returned v∧v = .bool true∧Blk w'' S.gc 36 #[.int .u64 ((cnt+1:Nat):Int)]∧OutG (fun x=>x=S.gc) w3 w'':=(zig _ hs3.ct vj8).mono fun e w' ⟨q1,q2,q3⟩=>⟨_,q1,rfl,q2,q3⟩
  show wpAny _ _ _ _ 2 _ _ _;refine zA (i:=8) vk rfl rfl (zx (zd5 35 _ _ _ rfl rfl vk rfl hcall) ?_);rintro zz w4 ⟨rfl,hb4,ho4⟩;clear hcall;show wpAny _ _ _ _ _ _ (Act.put _ (some 34) _) _;refine vs1 ?_;show wpAny _ _ _ _ 1 _ _ _;refine zA (i:=9) vk rfl rfl (zl 4 (.tmp 34) rfl rfl (.bool true) rfl ?_);refine vs1 ?_;refine zR vk (zy ?_) _;have HF:=vh (show (∀i,i<S.na→AtQ w4 (S.I i) (yO (S.at_ i) v x))∧S.St w4 (cnt+1)∧OutG S.G w w4 from⟨fun i hi=>((HAt2.out i hi).below hb).out ho4 (HS2.nei (HAt2.out i hi)).2.2,by
   obtain⟨cs,a1,a2⟩:=hs3.rw_
   exact⟨hs3.jn.out ho4 (HS2.ne.2.1),⟨cs,ho4.blk a1 (HS2.ne.2.2),a2⟩,hb4⟩,HO2.trans ((OutG.of_below hb).trans (ho4.mono fun y _ e=> .inr (.inr (.inl e))))⟩)
  clear hs3 hb4 ho4 hb HS2 HAt2 HO2 HZ2;go_wp2_with fail;go_ret;have hnv:S.n=v:=by have:=HV.out;omega
  have hc1:=HCn.out;rw[hnv] at hc1;refine⟨rfl,HF.1,?_,HF.2.2⟩;rw[hnv,hc1];exact HF.2.1
 |succ f ih=>
  intro v x w cnt hvf hok hpre hat hst hlim;have hvn:v<S.n:=jo;obtain⟨z,hz⟩:=hst.jn;have hz':Blk w S.gj 163 #[.slice (some ⟨S.gr,0,none⟩) S.n S.rc,.slice (some ⟨S.ga,0,none⟩) S.n S.ac,.int .i64 z,.func (.func 35) #[] #[.pointer (some ⟨S.gc,0,none⟩)]]:=hz;have hslot:=hok.slot hvn;obtain⟨mv,hmv⟩:∃y,y=(S.its v).length:=⟨_,rfl⟩;obtain⟨D,hD⟩:∃y,y=S.D v x:=⟨_,rfl⟩;obtain⟨IA,hIA⟩:∃y,y=S.IA v:=⟨_,rfl⟩;obtain⟨ic,hic⟩:∃y,y=S.ic v:=⟨_,rfl⟩;obtain⟨it,hit⟩:∃y:Nat→Nat,y=fun j=>(S.its v).getD j 0:=⟨_,rfl⟩;obtain⟨pa,hpa⟩:∃y:Nat→List Int,y=fun i=>yO (S.at_ i) v x:=⟨_,rfl⟩;have XP:ExP S v x mv D IA it pa:=⟨hmv,hD,hIA,hit,hpa,hvn,hpre⟩;rw[←hmv,←hIA,←hic] at hslot;have hat':∀i,i<S.na→AtQ w (S.I i) (pa i):=fun i hi=>by rw[hpa];exact hat i hi
  have hmt:MtW S.G w S.gj mv D IA:=XP.mt hok (fun i hi=>(hst.nei (hat i hi)).1);have HX:=vh XP;have HOk:=vh hok;have HZ:=vh hz';have HSt:=vh hst;have HAt:=vh hat';have HL:=vh hlim;have HSl:=vh hslot;have HMt:=vh hmt;have HV:=vh (show v+1+f=S.n by omega);have HVn:=vh hvn;have hmv0:=hmt.pos;have hmv1:=hmt.few;have t0:((v:Int) == (S.n:Int))=false:=by simp;omega
  clear hz hz' hst hat hat' hlim hok hpre hvf hslot hmt hmv hD hIA hic hit hpa XP hvn;go_enter Tryz.func59,Tryz.ntmps59;have z0:=Blk.at0 HZ.out (ue _ _);go_upto_region 4 with (fail);clear z0 t0;refine zj (kss:=[[],[(0,35)],[(1,36)],[(2,37)],[],[(3,38),(4,39)],[(5,40)],[(6,41)]]) [(0,.pointer (some (⟨S.gj,0,none⟩))),(1,.int .i64 ((v:Int)))] [EV (.pointer (some (⟨S.gj,0,none⟩))),EV (.pointer (some (⟨S.gj,0,none⟩))),EV (.pointer (some (⟨S.gj,1,none⟩))),EV (.slice ((some ⟨S.ga,0,none⟩)) (S.n) (S.ac)),EV (.int .i64 ((v:Int))),EV (.pointer (some (Addr.add (⟨S.ga,0,none⟩) (v*1)))),EV (.slice ((some IA)) mv ic),EV (.slice ((some IA)) mv ic)] vk vt ?_ ?_ ?_
  ·exact js
  ·exact⟨vi0,vi5,zhu,(fun aa ww hb he hd=>za rfl (zd rfl vk hd.1 (Blk.at1 (HZ.keep hb) (ue _ _)))),vi1,(fun aa ww hb he hd=>za rfl (zm (e:=164) (s:=1) (k:=v) rfl vk HVn.out hd.1 hd.2.1)),(fun aa ww hb he hd=>za rfl (zd rfl vk hd.1 (by rw[Addr.add_mid,Nat.zero_add,Nat.mul_one];exact(hb.cell (zh HSl.out)).trans HSl.out))),vi3,uC⟩
  intro vs w1 hb hR;refine vw3 ?_;clear hR;have HI:=vh (show (∀j,j<0→(D j).on w1 0)∧(∀i,i<S.na→(∀j,j<0→it j≠i)→AtQ w1 (S.I i) (pa i))∧S.St w1 cnt∧OutG S.G w w1 from⟨fun j hj=>absurd hj jo,fun i hi _=>(HAt.out i hi).below hb,HSt.below hb,OutG.of_below hb⟩);clear hb HZ HSl HAt;go_wp2_with fail;go_loopg [44] mv (fun g9 av wr=>∃a:Nat,av = .int .i64 a∧a+g9=mv∧Hid ((∀j,j<a→(D j).on wr 0)∧(∀i,i<S.na→(∀j,j<a→it j≠i)→AtQ wr (S.I i) (pa i))∧S.St wr cnt∧OutG S.G w wr));case atStart=>exact⟨0,rfl,jo,HI⟩
  case round=>
   obtain⟨a,rfl,hag,HJ⟩:=hrel;clear HI;by_cases ha:a<mv
   ·have i1:((a:Int)<(mv:Int)):=jo;obtain⟨gx,hgx⟩:∃y,y=(D a).g:=⟨_,rfl⟩;have HGx:=vh hgx;clear hgx;have hcx:=(HMt.out.out HJ.2.2.2).cell ha;rw[←HGx] at hcx;have HCx:=vh hcx;clear hcx;go_upto_region 7 with (fail);refine zj (kss:=[[],[(0,46)],[(1,47)]]) [(42,.slice ((some IA)) mv ic),(44,.int .i64 ((a:Int)))] [EV (.pointer (some (Addr.add IA (a*1)))),EV (.pointer (some (⟨gx,0,none⟩))),EV (.pointer (some (⟨gx,0,none⟩)))] vk vt ?_ ?_ ?_
    ·exact js
    ·exact⟨(fun aa ww hb he hd=>za rfl (zm (e:=170) (s:=1) (k:=a) rfl vk jo he.1 he.2.1)),zqa,vi3,uC⟩
    intro vs w3 hb hR;refine vw4 ?_;clear hR;have HJ3:=vh (show (∀j,j<a→(D j).on w3 0)∧(∀i,i<S.na→(∀j,j<a→it j≠i)→AtQ w3 (S.I i) (pa i))∧S.St w3 cnt∧OutG S.G w w3 from⟨fun j hj=>(HJ.1 j hj).below hb,fun i hi h=>(HJ.2.1 i hi h).below hb,HJ.2.2.1.below hb,HJ.2.2.2.trans (OutG.of_below hb)⟩);clear HJ hb HCx;go_wp2_with fail;rw[HGx];refine(HX.open_ (HOk.out.out HJ3.2.2.2) ha (HJ3.2.1 _ (HX.it_mem ha).1 (fun j hj e=>HX.it_ne jo ha jo e))).mono ?_;rintro e w4 ⟨rfl,hi4,ho4⟩;have hni:=HJ3.2.2.1.nei (HJ3.2.1 _ (HX.it_mem ha).1 (fun j hj e=>HX.it_ne jo ha jo e));rw[←HX.D_g] at hni;have HN2:=vh (show (∀j,j<(a+1)→(D j).on w4 0)∧(∀i,i<S.na→(∀j,j<(a+1)→it j≠i)→AtQ w4 (S.I i) (pa i))∧S.St w4 cnt∧OutG S.G w w4 from⟨fun j hj=>by
     by_cases e:j=a
     ·subst e;exact hi4
     ·exact(HJ3.1 j jo).out ho4 (HMt.ne j a jo ha e),fun i hi h=>(HJ3.2.1 i hi (fun j hj=>h j jo)).out ho4 (fun e=>h a jo (HX.g_inj (HOk.out) ha hi e)),HJ3.2.2.1.out ho4 (fun e=>hni.1 e.symm) (fun e=>hni.2.1 e.symm) (fun e=>hni.2.2 e.symm),HJ3.2.2.2.trans (ho4.mono fun y _ e=>HX.sub HOk.out ha e)⟩)
    clear hi4 ho4 hni HJ3;go_wp2_with fail;go_roundg (gk - 1);case measure=>omega
    case rel=>exact⟨a+1,vj1,jo,HN2⟩
   ·obtain rfl:a=mv:=jo;have i1:¬((a:Int)<(a:Int)):=jo;have HA0:=vh (show (∀j,j<a→(D j).on wr 0)∧(∀i,i<S.na→v∉(S.at_ i).1→AtQ wr (S.I i) (pa i))∧S.St wr cnt∧OutG S.G w wr from⟨HJ.1,fun i hi h=>HJ.2.1 i hi (fun j hj e=>h (by rw[←e];exact(HX.it_mem hj).2)),HJ.2.2⟩);clear HJ;go_wp2_with fail;refine(zgY (k0:=fun _=>0) (HMt.out.out HA0.2.2.2) HA0.2.2.1.jn (fun j hj=>HA0.1 j hj) (Nat.zero_le _) (fun j _ hj=>(HX.C_pos (HOk.out) hj))).mono ?_;rintro e w5 ⟨b,k,rfl,hR,hon,hjn,ho⟩;have HI:=vh (show (∀j,j<a→(D j).on w5 (k j))∧(∀i,i<S.na→v∉(S.at_ i).1→AtQ w5 (S.I i) (pa i))∧S.St w5 cnt∧OutG S.G w w5∧FnR S v x a D cnt b k cnt from⟨hon,fun i hi h=>(HA0.2.1 i hi h).out ho (HX.off (HOk.out) (HA0.2.2.1.nei (HA0.2.1 i hi h)).1 hi h),HA0.2.2.1.out2 ho hjn (HX.offb (fun j hj=>(HA0.2.2.1.nei (HA0.1 j hj)))),HA0.2.2.2.trans (ho.mono fun y _ e=>(HMt.sub y e)),HX.fn_start HOk.out hR⟩);clear hR hon hjn ho HA0;go_wp2_with fail;go_loopg [9,8] (msJ D b k) (fun g9 fv ov wr=>∃(b:Bool) (k:Nat→Nat) (cn:Nat),fv = .bool b∧ov = .bool true∧g9=msJ D b k∧Hid ((∀j,j<a→(D j).on wr (k j))∧(∀i,i<S.na→v∉(S.at_ i).1→AtQ wr (S.I i) (pa i))∧S.St wr cn∧OutG S.G w wr∧FnR S v x a D cnt b k cn));case atStart=>exact⟨b,k,cnt,rfl,rfl,rfl,HI⟩
    case round=>
     clear HI;obtain⟨b,k,cn,rfl,rfl,hg9,HJ⟩:=hrel;have HG9:=vh hg9;clear hg9;cases b with
     |true=>
      obtain⟨c,hc4,hall,hcn⟩:=HJ.2.2.2.2.2.1 rfl;have HC:=vh (uh hc4 (uh hall hcn));clear hc4 hall hcn;obtain⟨z,hz⟩:=HJ.2.2.1.jn;have hz':Blk wr S.gj 163 #[.slice (some ⟨S.gr,0,none⟩) S.n S.rc,.slice (some ⟨S.ga,0,none⟩) S.n S.ac,.int .i64 z,.func (.func 35) #[] #[.pointer (some ⟨S.gc,0,none⟩)]]:=hz;obtain⟨cs,hcs1,hcs2,hcs3⟩:=HJ.2.2.1.rw_;have HZ:=vh hz';have HCs:=vh (uh hcs1 (uh hcs2 hcs3));clear hz hz' hcs1 hcs2 hcs3;obtain⟨gx,hgx⟩:∃y,y=(D 0).g:=⟨_,rfl⟩;have HGx:=vh hgx;clear hgx;have hcx:=(HMt.out.out HJ.2.2.2.1).cell hmv0;rw[←HGx] at hcx;have HCx:=vh hcx;clear hcx;go_upto_region 14 with (fail);refine zt (kss:=[[],[(0,65)],[(1,66)],[(2,67)],[],[],[(5,70)],[(6,71)],[(7,72)],[(8,73)],[(9,64)],[(9,64)],[(3,68),(4,69)]]) [(0,.pointer (some (⟨S.gj,0,none⟩))),(1,.int .i64 ((v:Int))),(5,.slice ((some IA)) a ic)] [EV (.pointer (some (⟨S.gj,0,none⟩))),EV (.pointer (some (⟨S.gj,0,none⟩))),EV (.pointer (some (⟨S.gj,0,none⟩))),EV (.slice ((some ⟨S.gr,0,none⟩)) (S.n) (S.rc)),EV (.int .i64 ((v:Int))),EV (.slice ((some IA)) a ic),EV (.pointer (some (Addr.add IA (0*1)))),EV (.pointer (some (⟨gx,0,none⟩))),EV (.tuple #[.agg #[.int .i64 1,.int .i64 (c:Int),.string S0],.bool true]),EV (.tuple #[.agg #[.int .i64 1,.int .i64 (c:Int),.string S0],.bool true]),EV (.agg #[.int .i64 1,.int .i64 (c:Int),.string S0]),EV (.bool true),EV (.pointer (some (⟨S.gr,v*3,none⟩)))] 13 [11] vk vk vt [false,false,false,false,false,false,false,false,false,false,false,false,false] ?_ ?_ ?_ ?_
      ·intro i hi;simp only[List.mem_cons,List.not_mem_nil,or_false] at hi;subst hi;exact⟨rfl,fun o ks ho hk=>by cases ho;cases hk;exact fun a w _ _ hd=>zmG rfl rfl hd.1 rfl⟩
      ·exact js
      ·exact⟨vi0,vi5,zk7,(fun aa ww hb he hd=>za rfl (zd rfl vk hd.1 (Blk.at0 (HZ.keep hb) (ue _ _)))),vi1,vi4,zsU,zqa,(fun aa ww hb he hd=>za rfl (zq _ _ _ rfl vk (by rw[show aa.eval (.tmp 72) = .pointer (some ⟨gx,0,none⟩) from hd.1,HGx];exact zU (zfY ((HJ.1 0 hmv0).below hb) (((HMt.out.out HJ.2.2.2.1).ok 0 hmv0).out (OutG.of_below hb)) (HC.2.1 0 hmv0))))),vi2,vi8,vi8,(fun aa ww hb he hd=>za rfl (Yv (e:=89) (s:=3) (k:=v) rfl vk HVn.out hd.1 hd.2.1)),uC⟩
      intro vs w3 hb hR _;have e74:vs 10=_:=hR 10 jd;have e76:vs 12=_:=hR 12 jd;clear hR;refine vs0 ?_;rw[e74,e76];clear e74 e76;have hx3:=HCs.1.keep hb;have hvs:v*3+3≤cs.size:=by rw[HCs.2.1];have:=HVn.out;omega
      show wpAny _ _ _ _ 1 _ _ _;refine zA (i:=13) vk rfl rfl (zC (vs:=[.int .i64 1,.int .i64 (c:Int),.string S0]) (off:=v*3) rfl rfl vk rfl rfl rfl hx3 (by show v*3+3≤cs.size;exact hvs) (fun j _ _=>HCs.2.2 j) ?_);intro w4 kn hg hs hbx;have hog:OutG (fun y=>y=S.gr) wr w4:=(OutG.of_below hb).trans (OutG.of_grown hg rfl);have H4:=vh (show (∀j,j<a→(D j).on w4 (k j))∧(∀i,i<S.na→v∉(S.at_ i).1→AtQ w4 (S.I i) (pa i))∧S.St w4 cn∧OutG S.G w w4 from⟨fun j hj=>(HJ.1 j hj).out hog (HJ.2.2.1.nei (HJ.1 j hj)).2.1,fun i hi h=>(HJ.2.1 i hi h).out hog (HJ.2.2.1.nei (HJ.2.1 i hi h)).2.1,⟨HJ.2.2.1.jn.out hog HJ.2.2.1.ne.1,⟨_,hbx,by simp[ZO,HCs.2.1],fun j y=>zmH HCs.2.2 rfl j y⟩,hog.blk HJ.2.2.1.ct (fun e=>HJ.2.2.1.ne.2.2 e.symm)⟩,HJ.2.2.2.1.trans (hog.mono fun y _ e=> .inr (.inl e))⟩);clear hx3 hvs kn hg hs hbx hog hb HJ HZ HCs HCx;refine zR vk (zy ?_) _;obtain⟨v1,hv1⟩:∃y,y=v+1:=⟨_,rfl⟩;have HV1:=vh hv1;have ew:IntKind.i64.wrap ((v:Int)+1)=(v1:Int):=by rw[hv1,show (v:Int)+1=((v+1:Nat):Int) by omega];exact IntWalk.i64_in _ (by have:=HVn.out;have:=HOk.n32;omega)
      clear hv1;go_wp2_with fail;rw[HV1];have hacc:zcb S.ats S.n v x (RemP a (fun j=>(D j).C) k)+yA S.ats S.n (v+1) (yG x v c)≤yA S.ats S.n v x:=HX.acc_le (HOk.out.out H4.2.2.2) hmv0 HC.1 HC.2.1 (fun j hj=>(HMt.ok j hj).asc);refine(ih (v+1) (yG x v c) w4 cn HV.out (HOk.out.out H4.2.2.2) (HX.pre_next (HOk.out.out H4.2.2.2) HC.2.1) (HX.down (HOk.out.out H4.2.2.2) HC.2.1 H4.1 H4.2.1) H4.2.2.1 (by have:=HL.out;have:=HC.2.2;omega)).mono ?_;clear ew hacc;rintro e w5 ⟨rfl,hat5,hst5,ho5⟩;have H5:=vh (show ((∀j,j<a→(D j).on w5 (k j))∧(∀i,i<S.na→v∉(S.at_ i).1→AtQ w5 (S.I i) (pa i)))∧S.St w5 (cn+yA S.ats S.n (v+1) (yG x v c))∧OutG S.G w w5 from⟨HX.back (HOk.out.out (H4.2.2.2.trans ho5)) HC.2.1 hat5,hst5,H4.2.2.2.trans ho5⟩);clear hat5 hst5 ho5 H4;have hcx:=(HMt.out.out H5.2.2).cell hmv0;rw[←HGx,Addr.add_zero9z] at hcx;have hcx2:w5.cell? (IA.add 0)=some (.pointer (some ⟨gx,0,none⟩)):=by rw[Addr.add_zz];exact hcx
      go_wp2_with fail;clear hcx hcx2;rw[HGx];refine(zmC (H5.1.1 0 hmv0) ((HMt.out.out H5.2.2).ok 0 hmv0) (List.getElem?_eq_some_iff.1 (HC.2.1 0 hmv0)).1).mono ?_;rintro e w6 ⟨rfl,hon6,ho6⟩;have hni:=H5.2.1.nei (H5.1.1 0 hmv0);have H6:=vh (show (∀j,j<a→(D j).on w6 (YW k 0 (k 0+1) j))∧(∀i,i<S.na→v∉(S.at_ i).1→AtQ w6 (S.I i) (pa i))∧S.St w6 (cn+yA S.ats S.n (v+1) (yG x v c))∧OutG S.G w w6 from⟨fun j hj=>by
       by_cases e:j=0
       ·subst e;rw[yp];exact hon6
       ·rw[YD k _ e];exact(H5.1.1 j hj).out ho6 (HMt.ne j 0 hj hmv0 e),fun i hi h=>(H5.1.2 i hi h).out ho6 (fun e=>h (by rw[←HX.g_inj (HOk.out.out H5.2.2) hmv0 hi e];exact(HX.it_mem hmv0).2)),H5.2.1.out ho6 (fun e=>hni.1 e.symm) (fun e=>hni.2.1 e.symm) (fun e=>hni.2.2 e.symm),H5.2.2.trans (ho6.mono fun y _ e=>HX.sub HOk.out hmv0 e)⟩)
      clear hon6 ho6 hni H5;by_cases hlast:k 0+1<(D 0).C.length
      ·rw[show decide (k 0+1<(D 0).C.length)=true by simpa using hlast];go_wp2_with fail;refine(zgY (k0:=YW k 0 (k 0+1)) (HMt.out.out H6.2.2.2) H6.2.2.1.jn (fun j hj=>H6.1 j hj) (by rw[yp];exact uA hlast) (fun j h0 hj=>by rw[YD k _ jo];exact(List.getElem?_eq_some_iff.1 (HC.2.1 j hj)).1)).mono ?_;rintro e w7 ⟨b2,k2,rfl,hR,hon,hjn,ho⟩;have HK:=vh (show (∀j,j<a→(D j).on w7 (k2 j))∧(∀i,i<S.na→v∉(S.at_ i).1→AtQ w7 (S.I i) (pa i))∧S.St w7 (cn+yA S.ats S.n (v+1) (yG x v c))∧OutG S.G w w7∧FnR S v x a D cnt b2 k2 (cn+yA S.ats S.n (v+1) (yG x v c)) from⟨hon,fun i hi h=>(H6.2.1 i hi h).out ho (HX.off (HOk.out) (H6.2.2.1.nei (H6.2.1 i hi h)).1 hi h),H6.2.2.1.out2 ho hjn (HX.offb (fun j hj=>(H6.2.2.1.nei (H6.1 j hj)))),H6.2.2.2.trans (ho.mono fun y _ e=>(HMt.sub y e)),HX.fn_next HOk.out hmv0 HC.1 HC.2.1 HC.2.2 (fun j hj=>(HMt.ok j hj).asc) hR⟩);have HMs:=vh (show msJ D b2 k2<msJ D true k from zjq (Nat.lt_of_succ_lt hlast) (fun hb2=>by obtain⟨_,_,_,_,h5⟩:=hR.yes hb2;have:=h5 0 hmv0;rw[yp] at this;exact this));clear hR hon hjn ho H6 hlast;go_wp2_with fail;go_roundg (msJ D b2 k2);case measure=>have:=HMs.out;have:=HG9.out;omega
       case rel=>exact⟨b2,k2,_,rfl,rfl,rfl,HK⟩
      ·rw[show decide (k 0+1<(D 0).C.length)=false by simpa using hlast];have HK:=vh (show (∀j,j<a→(D j).on w6 ((YW k 0 (k 0+1)) j))∧(∀i,i<S.na→v∉(S.at_ i).1→AtQ w6 (S.I i) (pa i))∧S.St w6 (cn+yA S.ats S.n (v+1) (yG x v c))∧OutG S.G w w6∧FnR S v x a D cnt false (YW k 0 (k 0+1)) (cn+yA S.ats S.n (v+1) (yG x v c)) from⟨H6.1,H6.2.1,H6.2.2.1,H6.2.2.2,HX.fn_last hmv0 HC.1 HC.2.1 HC.2.2 (fun j hj=>(HMt.ok j hj).asc) jo⟩);have HMs:=vh (show msJ D false (YW k 0 (k 0+1))<msJ D true k from zjq (by have:=(List.getElem?_eq_some_iff.1 (HC.2.1 0 hmv0)).1;exact this) (fun h=>(by cases h)));clear H6 hlast;go_wp2_with fail;go_roundg (msJ D false (YW k 0 (k 0+1)));case measure=>have:=HMs.out;have:=HG9.out;omega
       case rel=>exact⟨false,_,_,rfl,rfl,rfl,HK⟩
     |false=>
      have HI:=vh (show (∀j,0≤j→j<a→(D j).on wr (k j))∧(∀i,i<S.na→(v∉(S.at_ i).1∨∃j,j<0∧it j=i)→AtQ wr (S.I i) (pa i))∧S.St wr (cnt+yA S.ats S.n v x)∧OutG S.G w wr from⟨fun j _ hj=>HJ.1 j hj,fun i hi h=>by
       rcases h with h | ⟨j,hj,_⟩
       ·exact HJ.2.1 i hi h
       ·omega,by rw[←HJ.2.2.2.2.2.2 rfl];exact HJ.2.2.1,HJ.2.2.2.1⟩)
      clear HJ;go_wp2_with fail;go_loopg [85] a (fun g9 qv wr=>∃q:Nat,qv = .int .i64 q∧q+g9=a∧Hid ((∀j,q≤j→j<a→(D j).on wr (k j))∧(∀i,i<S.na→(v∉(S.at_ i).1∨∃j,j<q∧it j=i)→AtQ wr (S.I i) (pa i))∧S.St wr (cnt+yA S.ats S.n v x)∧OutG S.G w wr));case atStart=>exact⟨0,rfl,jo,HI⟩
      case round=>
       obtain⟨q,rfl,hqg,HJ⟩:=hrel;clear HI;by_cases hq:q<a
       ·have i2:((q:Int)<(a:Int)):=jo;obtain⟨gx,hgx⟩:∃y,y=(D q).g:=⟨_,rfl⟩;have HGx:=vh hgx;clear hgx;have hcx:=(HMt.out.out HJ.2.2.2).cell hq;rw[←HGx] at hcx;have HCx:=vh hcx;clear hcx;go_upto_region 19 with (fail);refine zj (kss:=[[],[(0,87)],[(1,88)]]) [(83,.slice ((some IA)) a ic),(85,.int .i64 ((q:Int)))] [EV (.pointer (some (Addr.add IA (q*1)))),EV (.pointer (some (⟨gx,0,none⟩))),EV (.pointer (some (⟨gx,0,none⟩)))] vk vt ?_ ?_ ?_
        ·exact js
        ·exact⟨zq0,zqa,vi3,uC⟩
        intro vs w3 hb hR;refine vw4 ?_;clear hR;have HJ3:=vh (show (∀j,q≤j→j<a→(D j).on w3 (k j))∧(∀i,i<S.na→(v∉(S.at_ i).1∨∃j,j<q∧it j=i)→AtQ w3 (S.I i) (pa i))∧S.St w3 (cnt+yA S.ats S.n v x)∧OutG S.G w w3 from⟨fun j h1 hj=>(HJ.1 j h1 hj).below hb,fun i hi h=>(HJ.2.1 i hi h).below hb,HJ.2.2.1.below hb,HJ.2.2.2.trans (OutG.of_below hb)⟩);clear HJ hb HCx;go_wp2_with fail;rw[HGx];refine(HX.up_ (HOk.out.out HJ3.2.2.2) hq (HJ3.1 q (ug _) hq)).mono ?_;rintro e w4 ⟨rfl,hi4,ho4⟩;have hni:=HJ3.2.2.1.nei (HJ3.1 q (ug _) hq);have HN2:=vh (show (∀j,(q+1)≤j→j<a→(D j).on w4 (k j))∧(∀i,i<S.na→(v∉(S.at_ i).1∨∃j,j<(q+1)∧it j=i)→AtQ w4 (S.I i) (pa i))∧S.St w4 (cnt+yA S.ats S.n v x)∧OutG S.G w w4 from⟨fun j h1 hj=>(HJ3.1 j jo hj).out ho4 (HMt.ne j q hj hq jo),fun i hi h=>by
         by_cases e:it q=i
         ·subst e;exact hi4
         ·refine(HJ3.2.1 i hi (by rcases h with h | ⟨j,hj,e2⟩;exact .inl h;exact .inr ⟨j,by rcases Nat.lt_or_ge j q with h3 | h3;exact h3;exact(e (by rw[show q=j by omega];exact e2)).elim,e2⟩)).out ho4 (fun e2=>e (HX.g_inj HOk.out hq hi e2)),HJ3.2.2.1.out ho4 (fun e=>hni.1 e.symm) (fun e=>hni.2.1 e.symm) (fun e=>hni.2.2 e.symm),HJ3.2.2.2.trans (ho4.mono fun y _ e=>HX.sub HOk.out hq e)⟩)
        clear hi4 ho4 hni HJ3;go_wp2_with fail;go_roundg (gk - 1);case measure=>omega
        case rel=>exact⟨q+1,vj1,jo,HN2⟩
       ·obtain rfl:q=a:=jo;have HF:=vh (show (∀i,i<S.na→AtQ wr (S.I i) (pa i))∧S.St wr (cnt+yA S.ats S.n v x)∧OutG S.G w wr from⟨fun i hi=>HJ.2.1 i hi (by by_cases hm:v∈(S.at_ i).1;exact .inr (HX.it_all hi hm);exact .inl hm),HJ.2.2⟩);clear HJ;go_wp2_with fail;go_ret;exact⟨rfl,by have:=HF.1;rw[HX.pa_] at this;exact this,HF.2⟩
theorem OwnC.out {G:Nat→Prop} {base:Nat} {size:Nat} {v:Value} {xs:List Value} (h:OwnC w base e size v n xs) (k:OutG G w w') (hg:∀b,v.ownBlock=some b→¬G b):OwnC w' base e size v n xs:=by
 refine⟨⟨h.own.1,?_⟩,fun g hgv i x hx=>?_⟩
 ·rcases h.own.2 with h0 | ⟨g,cap,cur,rfl,hbg,hgc,r⟩
  ·exact .inl h0
  ·exact .inr ⟨g,cap,cur,rfl,hbg,(k.block g (Blk.lt' hgc) (hg g rfl)).trans hgc,r⟩
 ·have hlt:=(h.own.lt g hgv).2;rw[World.cell?_of_block (a:=⟨g,i,none⟩) (k.block g hlt (hg g hgv))] at hx;exact h.cl g hgv i x hx
theorem OutG.of_row {G:Nat→Prop} {row:Option Nat} (h:w.grownBy w' row) (hg:∀k,row=some k→G k):OutG G w w':=⟨h.os,h.tape,h.output,h.size,fun k hk hn=>h.block k hk (fun e=>hn (hg k e.symm))⟩
structure PvI (B gl:Nat) (sv:Value) (wr w:World):Prop where
 low:B≤wr.heap.size
 o:OutG (fun k=>k=gl∨some k=sv.ownBlock) wr w
 n:KeepsN wr w
section
variable {B gl n k : Nat} {e tF : TypeId} {sv : Value} {cl : List Value} {cs : Array Value} {wr w w' : World}
theorem PvI.start (h:B≤wr.heap.size):PvI B gl sv wr wr:=⟨h,OutG.refl _ _,KeepsN.refl _⟩
theorem PvI.size (h:PvI B gl sv wr w):B≤w.heap.size:=ud h.low h.o.size
theorem PvI.below (h:PvI B gl sv wr w) (hb:Below w.heap.size w w'):PvI B gl sv wr w':=⟨h.low,h.o.trans (OutG.of_below hb),h.n.trans (KeepsN.below hb)⟩
theorem PvI.app (h:PvI B gl sv wr w) (ht:PuA B e k sv n cl w w'):PvI B gl sv wr w':=⟨h.low,h.o.trans (OutG.of_row ht.2.1 fun b hb=> .inr hb.symm),h.n.trans ht.2.2⟩
theorem PvI.sto (h:PvI B gl sv wr w) (ht:PuS gl tF cs w w'):PvI B gl sv wr w':=⟨h.low,h.o.trans (OutG.of_row ht.2.1 fun b hb=> .inl (by injection hb with hb;exact hb.symm)),h.n.trans ht.2.2⟩
theorem PvI.cell (h:PvI B gl sv wr w) {ad:Addr} (hc:wr.cell? ad=some u) (h1:ad.block≠gl) (h2:some ad.block≠sv.ownBlock):w.cell? ad=some u:=
 (World.cell?_of_block (h.o.block _ (zh hc) (fun e=>by rcases e with e | e;exact h1 e;exact h2 e))).trans hc
theorem PvI.blk (h:PvI B gl sv wr w) {g:Nat} {t:TypeId} {c:Array Value} (hb:Blk wr g t c) (h1:g≠gl) (h2:sv.ownBlock≠some g):Blk w g t c:=h.o.blk hb (fun e=>by rcases e with e | e;exact h1 e;exact h2 e.symm)
end
def yv {α:Type} (f:Nat→α) (i:Nat) (x:α):Nat→α:=fun j=>if j=i then x else f j
theorem zG (f:Nat→α) (i:Nat) (x:α):yv f i x i=x:=if_pos rfl
theorem zI (f:Nat→α) (x:α) (h:j≠i):yv f i x j=f j:=if_neg h
def lvC (d:Nat) (sv sf:Nat→Value):List Value:=(List.range d).flatMap fun l=>[sv l,sf l]
theorem Zm (d:Nat) (sv sf:Nat→Value):(lvC d sv sf).length=d*2:=by
 unfold lvC;induction d with
 |zero=>rfl
 |succ d ih=>rw[List.range_succ,List.flatMap_append,ul,ih];simp;omega
theorem zcC (sv sf:Nat→Value) (h:l<d):(lvC d sv sf)[l*2]? = some (sv l)∧(lvC d sv sf)[l*2+1]? = some (sf l):=by
 induction d with
 |zero=>omega
 |succ d ih=>
  have e:lvC (d+1) sv sf=lvC d sv sf++[sv d,sf d]:=by unfold lvC;rw[List.range_succ,List.flatMap_append];rfl
  have hl:=Zm d sv sf;by_cases h1:l<d
  ·rw[e,List.getElem?_append_left jo,List.getElem?_append_left jo];exact ih h1
  ·obtain rfl:l=d:=jo;rw[e,List.getElem?_append_right jo,List.getElem?_append_right jo,hl];simp
theorem zjr {c:List Value} {sv sf:Nat→Value} (hc:c.length=d*2) (h:∀l,l<d→c[l*2]? = some (sv l)∧c[l*2+1]? = some (sf l)):c=lvC d sv sf:=by
 refine List.ext_getElem? fun j=>?_;rcases Nat.lt_or_ge j (d*2) with hj | hj
 ·obtain⟨a1,a2⟩:=h (j / 2) jo;obtain⟨b1,b2⟩:=zcC sv sf (show j / 2<d by omega);rcases Nat.mod_two_eq_zero_or_one j with e | e
  ·rw[show j / 2*2=j by omega] at a1 b1;rw[a1,b1]
  ·rw[show j / 2*2+1=j by omega] at a2 b2;rw[a2,b2]
 ·rw[List.getElem?_eq_none jo,List.getElem?_eq_none (by rw[Zm];exact hj)]
theorem zmI (sv sf:Nat→Value) (v:Value) (h:l<d):yt (lvC d sv sf) (l*2) [v]=lvC d (yv sv l v) sf:=by
 refine zjr (by rw[ZO,Zm]) fun j hj=>?_;obtain⟨a1,a2⟩:=zcC sv sf hj;have hl:=Zm d sv sf;simp only[yt];by_cases e:j=l
 ·subst e;rw[zG,List.getElem?_set_self jo,List.getElem?_set_ne jo,a2];exact⟨rfl,rfl⟩
 ·rw[zI sv v e,List.getElem?_set_ne jo,List.getElem?_set_ne jo];exact⟨a1,a2⟩
theorem zmJ (sv sf:Nat→Value) (v:Value) (h:l<d):yt (lvC d sv sf) (l*2+1) [v]=lvC d sv (yv sf l v):=by
 refine zjr (by rw[ZO,Zm]) fun j hj=>?_;obtain⟨a1,a2⟩:=zcC sv sf hj;have hl:=Zm d sv sf;simp only[yt];by_cases e:j=l
 ·subst e;rw[zG,List.getElem?_set_ne jo,List.getElem?_set_self jo,a1];exact⟨rfl,rfl⟩
 ·rw[zI sf v e,List.getElem?_set_ne jo,List.getElem?_set_ne jo];exact⟨a1,a2⟩
structure LevS (w:World) (B gl d:Nat) (sv sf:Nat→Value) (V:Nat→List Int) (F:Nat→List Nat):Prop where
 blk:Blk w gl 205 (lvC d sv sf).toArray
 vals:∀l,l<d→OwnC w B 89 3 (sv l) (V l).length (VR (V l))
 firs:∀l,l<d→OwnC w B 3 1 (sf l) (F l).length (I64 (zu (F l)))
 av:∀l k,l<d→k<d→l≠k→apt (sv l) (sv k)
 af:∀l k,l<d→k<d→l≠k→apt (sf l) (sf k)
section
variable {w w' wr : World} {B gl d l : Nat} {sv sf : Nat → Value} {V : Nat → List Int} {F : Nat → List Nat} {v : Value}
theorem LevS.below (h:LevS w B gl d sv sf V F) (hb:Below w.heap.size w w'):LevS w' B gl d sv sf V F:=⟨h.blk.keep hb,fun l hl=>(h.vals l hl).below hb,fun l hl=>(h.firs l hl).below hb,h.av,h.af⟩
def zcD (w:World) (v u:Value):Prop:=u.ownBlock=v.ownBlock∨∃g,u.ownBlock=some g∧w.heap.size≤g
theorem apt.newB {v u':Value} {xs:List Value} (h:apt v u) (hv:OwnC w B e k v n xs) (hu:zcD w u u'):apt v u':=by
 rcases hu with hu | ⟨g',hu,hg⟩
 ·unfold apt;rw[hu];exact h
 ·exact vt60
theorem ze8 {m k' B':Nat} {e':TypeId} {v:Value} {xs ys:List Value} (h:OwnC w B e k v n xs) (h':OwnC w B' e' k' u m ys) (hne:e≠e'):∀b,v.ownBlock=some b→¬some b=u.ownBlock:=by
 intro b hb e0;rcases h.own.2 with ⟨rfl,_⟩ | ⟨g,cap,cur,rfl,_,hg,_⟩
 ·cases hb
 ·rcases h'.own.2 with ⟨rfl,_⟩ | ⟨g',cap',cur',rfl,_,hg',_⟩
  ·cases e0
  ·simp only[Value.ownBlock,Option.some.injEq] at hb e0;subst hb;subst e0;rw[hg] at hg';injection hg' with h1;injection h1 with _ h2;exact hne h2
theorem LevS.pushV (h:LevS wr B gl d sv sf V F) (hl:l<d) (hI:PvI B gl (sv l) wr w) {x:Int} (hb:Blk w gl 205 ((lvC d sv sf).toArray.setIfInBounds (l*2) v)) (ho:OwnC w B 89 3 v ((V l).length+1) (VR (V l)++VC x)) (hn:zcD wr (sv l) v):LevS w B gl d (yv sv l v) sf (yv V l (V l++[x])) F:=by
 have hne:∀j,j<d→∀b,(sv j).ownBlock=some b→b≠gl:=fun j hj b hb e=>yg (h.vals j hj).own h.blk jd (by rw[hb,e]);have hne2:∀j,j<d→∀b,(sf j).ownBlock=some b→b≠gl:=fun j hj b hb e=>yg (h.firs j hj).own h.blk jd (by rw[hb,e]);refine⟨by rw[show (lvC d sv sf).toArray.setIfInBounds (l*2) v=(yt (lvC d sv sf) (l*2) [v]).toArray from by simp[yt],zmI sv sf v hl] at hb;exact hb,fun j hj=>?_,fun j hj=>?_,fun j k hj hk hjk=>?_,h.af⟩
 ·by_cases e:j=l
  ·subst e;rw[zG,zG,ul,zam];simpa [VR] using ho
  ·rw[zI _ _ e,zI _ _ e];refine(h.vals j hj).out hI.o fun b hb e2=>?_;rcases e2 with e2 | e2
   ·exact hne j hj b hb e2
   ·rcases h.av j l hj hl e with h3 | h3
    ·rw[h3] at hb;cases hb
    ·exact h3 (by rw[hb,e2])
 ·refine(h.firs j hj).out hI.o fun b hb e2=>?_;rcases e2 with e2 | e2
  ·exact hne2 j hj b hb e2
  ·exact ze8 (h.firs j hj) (h.vals l hl) jd b hb e2
 ·by_cases e:j=l
  ·subst e;rw[zG,zI _ _ (fun e=>hjk e.symm)];exact((h.av k j hk hj (fun e=>hjk e.symm)).newB (h.vals k hk) hn).symm
  ·by_cases e2:k=l
   ·subst e2;rw[zG,zI _ _ e];exact(h.av j k hj hk hjk).newB (h.vals j hj) hn
   ·rw[zI _ _ e,zI _ _ e2];exact h.av j k hj hk hjk
theorem LevS.pushF (h:LevS wr B gl d sv sf V F) (hl:l<d) (hI:PvI B gl (sf l) wr w) {x:Nat} (hb:Blk w gl 205 ((lvC d sv sf).toArray.setIfInBounds (l*2+1) v)) (ho:OwnC w B 3 1 v ((F l).length+1) (I64 (zu (F l))++[.int .i64 (x:Int)])) (hn:zcD wr (sf l) v):LevS w B gl d sv (yv sf l v) V (yv F l (F l++[x])):=by
 have hne:∀j,j<d→∀b,(sv j).ownBlock=some b→b≠gl:=fun j hj b hb e=>yg (h.vals j hj).own h.blk jd (by rw[hb,e]);have hne2:∀j,j<d→∀b,(sf j).ownBlock=some b→b≠gl:=fun j hj b hb e=>yg (h.firs j hj).own h.blk jd (by rw[hb,e]);refine⟨by rw[show (lvC d sv sf).toArray.setIfInBounds (l*2+1) v=(yt (lvC d sv sf) (l*2+1) [v]).toArray from by simp[yt],zmJ sv sf v hl] at hb;exact hb,fun j hj=>?_,fun j hj=>?_,h.av,fun j k hj hk hjk=>?_⟩
 ·refine(h.vals j hj).out hI.o fun b hb e2=>?_;rcases e2 with e2 | e2
  ·exact hne j hj b hb e2
  ·exact ze8 (h.vals j hj) (h.firs l hl) jd b hb e2
 ·by_cases e:j=l
  ·subst e;rw[zG,zG,ul,zdt];simpa [I64,zu] using ho
  ·rw[zI _ _ e,zI _ _ e];refine(h.firs j hj).out hI.o fun b hb e2=>?_;rcases e2 with e2 | e2
   ·exact hne2 j hj b hb e2
   ·rcases h.af j l hj hl e with h3 | h3
    ·rw[h3] at hb;cases hb
    ·exact h3 (by rw[hb,e2])
 ·by_cases e:j=l
  ·subst e;rw[zG,zI _ _ (fun e=>hjk e.symm)];exact((h.af k j hk hj (fun e=>hjk e.symm)).newB (h.firs k hk) hn).symm
  ·by_cases e2:k=l
   ·subst e2;rw[zG,zI _ _ e];exact(h.af j k hj hk hjk).newB (h.firs j hj) hn
   ·rw[zI _ _ e,zI _ _ e2];exact h.af j k hj hk hjk
end
end Go.Proofs.YtoecdobelolkeaaGreatDoor
