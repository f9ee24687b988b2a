/- Part of TopSemirings. -/
import Derived.Below
import Derived.BigQuiet
import Derived.ChangeOld
import Derived.ChangeSame
import Derived.Deep.AppendLies
import Derived.Deep.DeepCutAuto
import Derived.Deep.DeepHandedRow
import Derived.Deep.DrawnRows
import Derived.Deep.Draws
import Derived.Deep.LoopGhost
import Derived.Deep.MidRow
import Derived.Deep.OwnRows
import Derived.Deep.QuietTactic
import Derived.Deep.RegionHeld3
import Derived.Deep.RegionLaw
import Derived.Deep.Slices
import Derived.Ground.Names2Prog
import Derived.Ground.SlgnProg
import Derived.Ground.SlsfProg
import Derived.IntWalk
import Derived.JoinedCond
import Derived.LaidMore
import Derived.Laws.AppendOwn
import Derived.Laws.BitsAllLaws
import Derived.Laws.BytesArg
import Derived.Laws.CopyOwn
import Derived.Laws.Entries
import Derived.Laws.EntriesVeiled
import Derived.Laws.IdiomCopy
import Derived.Laws.MakeOwn
import Derived.Laws.OwnMore
import Derived.Laws.Rows
import Derived.Lay
import Derived.Lib.AppendStr
import Derived.Lib.AppendZeros
import Derived.Lib.Hide
import Derived.Lib.QuietBelow
import Derived.Lib.SmallJoins
import Derived.MapKept
import Derived.Maps.AppendAt
import Derived.OpenShut
import Derived.OrdersHeld
import Derived.OwnWalk
import Derived.ProofKit
import Derived.RegionTactic
import Derived.SevenTiedAt
import Derived.Shelf.LaysM
import Derived.Shelf.SlGeneric
import Derived.Shelf.SlLaysF
import Derived.Shelf.SlSortCmp.NoneTotal
import Derived.Shelf.Slices.Cells
import Derived.Shelf.Slices.Clone
import Derived.Shelf.Slices.CompactI
import Derived.Shelf.Slices.Empties2
import Derived.Shelf.Slices.Equal
import Derived.Shelf.Slices.In.SortNone
import Derived.Shelf.Slices.SearchI
import Derived.Shelf.Slices.Turned
import Derived.Shelf.SlicesE.Clone
import Derived.Shelf.Small.Bits
import Derived.Shelf.Small.Strs
import Derived.Shelf.Small.Wraps
import Derived.Shelf.Sort.Plain
import Derived.Shelf.Strconv.AppendInt10
import Derived.Shelf.Strconv.AppendIntPublic10
import Derived.Shelf.Strconv.AppendUint10
import Derived.Shelf.Strconv.Itoa0
import Derived.Shelf.Strconv.Itoa1
import Derived.Shelf.Strconv.Itoa2
import Derived.ShutString
import Derived.StillTail
import Derived.Stop.Joined
import Derived.WalkKit
import Derived.WalkLawsBesides
import Derived.WalkSpells
set_option linter.unusedVariables false
set_option maxRecDepth 100000
namespace Go.Proofs
open RowKit
theorem ud:type_of% @Nat.le_trans:=@Nat.le_trans
theorem ue:type_of% @Below.refl:=@Below.refl
theorem uf:type_of% @List.getElem?_eq_getElem:=@List.getElem?_eq_getElem
theorem ug:type_of% @Nat.le_refl:=@Nat.le_refl
theorem uh:type_of% @And.intro:=@And.intro
theorem ui:type_of% @List.mem_of_getElem?:=@List.mem_of_getElem?
theorem uj:type_of% @Nat.lt_of_lt_of_le:=@Nat.lt_of_lt_of_le
theorem uk:type_of% @Nat.mul_le_mul_right:=@Nat.mul_le_mul_right
theorem ul:type_of% @List.length_append:=@List.length_append
theorem um:type_of% @List.take_of_length_le:=@List.take_of_length_le
theorem uo:type_of% @List.eq_nil_of_length_eq_zero:=@List.eq_nil_of_length_eq_zero
theorem uq:type_of% @List.mem_cons_of_mem:=@List.mem_cons_of_mem
theorem ut:type_of% @congrArg:=@congrArg
theorem uw:type_of% @Nat.lt_of_le_of_lt:=@Nat.lt_of_le_of_lt
theorem ux:type_of% @List.mem_range:=@List.mem_range
theorem uy:type_of% @List.length_map:=@List.length_map
theorem uz:type_of% @List.getElem?_map:=@List.getElem?_map
theorem uA:type_of% @Nat.le_of_lt:=@Nat.le_of_lt
theorem uB:type_of% @List.mem_append:=@List.mem_append
theorem uC:type_of% @trivial:=@trivial
theorem uD:type_of% @List.mem_singleton:=@List.mem_singleton
theorem vk {P:Prop}(h:P:=by kernel_rfl):P:=h
theorem jo {P:Prop}(h:P:=by omega):P:=h
theorem jd {P:Prop}(h:P:=by decide):P:=h
theorem vz {P:Prop}(h:P:=by simp):P:=h
theorem vh {p:Prop}(h:p):RowKit.Hid p:=Lib.hid h
theorem js {P:Prop}(h:P:=by
 repeat (first|exact trivial|refine ⟨eI,?_⟩)):P:=h
theorem vx {α:Sort _}(a:α):∃x,x=a:=⟨a,rfl⟩
theorem vt {P:Prop}(h:P:=by
 repeat (first|exact trivial|refine ⟨rfl,?_⟩)):P:=h
theorem vw0 {P Q:Prop}(q:Q)(h:Q→P:=by
 intro h;simp only[yI,Nat.zero_add,Nat.reduceAdd,List.take_succ_cons,List.take_zero,Act.put,List.setIfInBounds_toArray,List.set_cons_zero,List.set_cons_succ];rw[(hR 0 (by decide):vs 0=_)];exact h):P:=h q
theorem vw1 {P Q:Prop}(q:Q)(h:Q→P:=by
 intro h;simp only[yI,Nat.zero_add,Nat.reduceAdd,List.take_succ_cons,List.take_zero,Act.put,List.setIfInBounds_toArray,List.set_cons_zero,List.set_cons_succ];rw[(hR 1 (by decide):vs 1=_)];exact h):P:=h q
theorem vw2 {P Q:Prop}(q:Q)(h:Q→P:=by
 intro h;simp only[yI,Nat.zero_add,Nat.reduceAdd,List.take_succ_cons,List.take_zero,Act.put,List.setIfInBounds_toArray,List.set_cons_zero,List.set_cons_succ];rw[(hR 5 (by decide):vs 5=_)];exact h):P:=h q
theorem vw3 {P Q:Prop}(q:Q)(h:Q→P:=by
 intro h;simp only[yI,Nat.zero_add,Nat.reduceAdd,List.take_succ_cons,List.take_zero,Act.put,List.setIfInBounds_toArray,List.set_cons_zero,List.set_cons_succ];rw[(hR 7 (by decide):vs 7=_)];exact h):P:=h q
theorem vw4 {P Q:Prop}(q:Q)(h:Q→P:=by
 intro h;simp only[yI,Nat.zero_add,Nat.reduceAdd,List.take_succ_cons,List.take_zero,Act.put,List.setIfInBounds_toArray,List.set_cons_zero,List.set_cons_succ];rw[(hR 2 (by decide):vs 2=_)];exact h):P:=h q
theorem vw5 {P Q:Prop}(q:Q)(h:Q→P:=by
 intro h;simp only[yI,Nat.zero_add,Nat.reduceAdd,List.take_succ_cons,List.take_zero,Act.put,List.setIfInBounds_toArray,List.set_cons_zero,List.set_cons_succ];rw[(hR 24 (by decide):vs 24=_),(hR 25 (by decide):vs 25=_)];exact h):P:=h q
theorem vw6 {P Q:Prop}(q:Q)(h:Q→P:=by
 intro h;simp only[yI,Nat.zero_add,Nat.reduceAdd,List.take_succ_cons,List.take_zero,Act.put,List.setIfInBounds_toArray,List.set_cons_zero,List.set_cons_succ];rw[(hR 3 (by decide):vs 3=_)];exact h):P:=h q
theorem vw7 {P Q:Prop}(q:Q)(h:Q→P:=by
 intro h;simp only[yI,Nat.zero_add,Nat.reduceAdd,List.take_succ_cons,List.take_zero,Act.put,List.setIfInBounds_toArray,List.set_cons_zero,List.set_cons_succ];rw[(hR 8 (by decide):vs 8=_)];exact h):P:=h q
theorem vw8 {P Q:Prop}(q:Q)(h:Q→P:=by
 intro h;simp only[yI,Nat.zero_add,Nat.reduceAdd,List.take_succ_cons,List.take_zero,Act.put,List.setIfInBounds_toArray,List.set_cons_zero,List.set_cons_succ];rw[(hR 6 (by decide):vs 6=_)];exact h):P:=h q
theorem vw9 {P Q:Prop}(q:Q)(h:Q→P:=by
 intro h;simp only[yI,Nat.zero_add,Nat.reduceAdd,List.take_succ_cons,List.take_zero,Act.put,List.setIfInBounds_toArray,List.set_cons_zero,List.set_cons_succ];rw[(hR 1 (by decide):vs 1=_),(hR 2 (by decide):vs 2=_)];exact h):P:=h q
theorem znC {P Q:Prop}(q:Q)(h:Q→P:=by
 intro h;simp only[yI,Nat.zero_add,Nat.reduceAdd,List.take_succ_cons,List.take_zero,Act.put,List.setIfInBounds_toArray,List.set_cons_zero,List.set_cons_succ];rw[(hR 4 (by decide):vs 4=_),(hR 6 (by decide):vs 6=_)];exact h):P:=h q
theorem zpP {P Q:Prop}(q:Q)(h:Q→P:=by
 intro h;simp only[yI,Nat.zero_add,Nat.reduceAdd,List.take_succ_cons,List.take_zero,Act.put,List.setIfInBounds_toArray,List.set_cons_zero,List.set_cons_succ];rw[(hR 11 (by decide):vs 11=_)];exact h):P:=h q
theorem jp {R:Prop}(D:Nat){P:Program}{ops:Array Oper}{Q:Exit→Act→World→Prop}{l:List Nat}{a:Act}{y:Value}{w:World}(q:R)(h:R→wpOps P ops Q l (Act.put a (some D) y) w:=by
 intro h;simp only[Act.put,List.setIfInBounds_toArray,List.set_cons_zero,List.set_cons_succ];exact h):wpOps P ops Q l (Act.put a (some D) y) w:=h q
theorem vt1 {P:Prop}(h:P:=by
 refine vs1 ?_;unfold wpOps;exact vt2):P:=h
theorem vt2 {P:Prop}(h:P:=by
 have hoM:MdJ w.heap.size l k wq u6 u7 u8:=by
  have hbo:Below wo.heap.size wo wq:=by rw[←HRs];exact H9.2.1
  exact HM.below hbo
 obtain⟨xs,⟨hA,hxl,hgd⟩,h6,h7,h8⟩:=hoM;have hbk:∀q,u8.ownBlock=some q→q<R:=fun q e=>by
  obtain⟨_,_,_,_,h8o⟩:=HM.out;rw[HRs];exact(h8o.own.lt q e).2
 have hap:apZ u8.ownBlock (.slice AV mV cV):=zpp (m:=0) (k:=0) (e:=3) (xs:=I64 (YX bd V)) (zs:=[]) H9.1 hbk;have hiz:IntzV wq (.slice AV mV cV) (YX bd V):=znk H9.1 (znl HVv.2.1 jo) (znm HVv.2.2);have hBw:w.heap.size≤wq.heap.size:=ud zn4 H9.2.2.1;have hBel:Below w.heap.size w wq:=HB.trans (zis H9.2.1 zn4);have HA:=vh (uh hA (uh hxl hgd));have HAp:=vh hap;have HS:=vh (show OwnL 95 3 (AtZ u8.ownBlock) wq w.heap.size u6 xs∧OwnL 100 2 (RaZ u8.ownBlock) wq w.heap.size u7 (xs.map (·.1))∧OwnC wq w.heap.size 3 1 u8 k (I64 (zu (xs.map (·.2.1))))∧(IntzV wq (.slice AV mV cV) (YX bd V)∧RowsV wq rr zs∧Blk wq g18 91 #[.int .i64 (nV:Int),rr])∧Below w.heap.size w wq∧w.heap.size≤wq.heap.size from⟨h6,h7,h8,⟨hiz,H9.2.2.2.1,H9.2.2.2.2⟩,hBel,hBw⟩);clear hA hxl hgd h6 h7 h8 hbk hap hiz hBw hBel H9;go_upto_region 39 with (fail);refine zc (kss:=[[],[],[],[(1,107),(2,108)],[(3,109)]]) [(6,u6),(11,.slice AV mV cV),(18,.pointer (some (⟨g18,0,none⟩)))] [EV (u6),EV (.slice AV mV cV),EV (.agg #[.int .i64 (nV:Int),rr]),EV (.agg #[.slice AV mV cV,.int .i64 (nV:Int),rr]),fun zz ww=>∃g:Nat,zz = .slice (some ⟨g,0,none⟩) 1 1∧wq.heap.size≤g∧Blk ww g 95 #[.slice AV mV cV,.int .i64 (nV:Int),rr]] 5 vk vt [false,false,false,false,false] ?_ ?_ ?_
 ·exact⟨eI,eI,eI,eI,fun _ _ _ ⟨g,h1,h2,h3⟩ hb=>⟨g,h1,h2,h3.keep hb⟩,uC⟩
 ·exact⟨vi0,vi1,vi56,vi57,vi58,uC⟩
 intro vs w8 hb hR;have r110:=hR 4 jd;refine vw0 ?_;clear hR;obtain⟨g9,e9,-,hg9⟩:=r110;rw[e9];clear e9;have hrk:okC rr=true:=by obtain⟨_,_,_,e,_⟩:=HS.2.2.2.1.2.1;rw[e];rfl
 have kdb:KD [3,87,89,91,95,100] wq w8:=KD.below hb;obtain⟨cl,k1,k2,k3⟩:=HS.1.kd kdb rfl vj19;have hs8:w.heap.size≤w8.heap.size:=ud HS.2.2.2.2.2 hb.size;have hxl:=HA.2.1;show wpOps _ _ _ [5,6] _ _;refine zb rfl rfl (yk (e:=95) (k:=3) _ _ rfl vk vk w.heap.size u6 _ _ rfl k2 g9 _ rfl hg9 rfl vj52 jo hs8 ?_);intro s1 w9 ho hg hor kn;refine jp 111 ?_;have kd:KD [3,87,89,91,100] wq w9:=(kdb.sub jd).trans (KD.own k2.own hg kn rfl);have kd8:KD [3,87,89,91,100] w8 w9:=KD.own k2.own hg kn rfl;have hb9:Below w.heap.size w w9:=Below.appended (HS.2.2.2.2.1.trans (hb.mono HS.2.2.2.2.2)) k2.own hg hs8 (ug _);have HS2:=vh (show OwnL 95 3 (AtZ u8.ownBlock) w9 w.heap.size s1 (xs++[(YX bd V,nV,zs)])∧OwnL 100 2 (RaZ u8.ownBlock) w9 w.heap.size u7 (xs.map (·.1))∧OwnC w9 w.heap.size 3 1 u8 k (I64 (zu (xs.map (·.2.1))))∧(IntzV w9 (.slice AV mV cV) (YX bd V)∧RowsV w9 rr zs∧Blk w9 g18 91 #[.int .i64 (nV:Int),rr])∧Below w.heap.size w w9∧w.heap.size≤w9.heap.size from⟨OwnL.push k1 k3 ho rfl vj53 ⟨_,_,rfl,HS.2.2.2.1.1.kd kd rfl,RowsV.kd HS.2.2.2.1.2.1 kd rfl rfl,HAp.out⟩,HS.2.1.kd kd rfl zqd,HS.2.2.1.kd kd rfl,⟨HS.2.2.2.1.1.kd kd rfl,RowsV.kd HS.2.2.2.1.2.1 kd rfl rfl,kd.b 91 vz _ _ HS.2.2.2.1.2.2⟩,hb9,ud hs8 hg.size⟩);clear ho hg hor kn hb9 hs8 k1 k2 k3 kd kd8 kdb hg9 hb HS hrk;refine zb rfl rfl (zl 6 (.tmp 111) rfl rfl s1 rfl ?_);refine vs1 ?_;unfold wpOps;go_upto_region 40 with (fail);refine zc (kss:=[[],[],[],[(2,114)],[(3,115)],[(1,113),(4,116)],[(5,117)]]) [(7,u7),(11,.slice AV mV cV),(18,.pointer (some (⟨g18,0,none⟩)))] [EV (u7),EV (.slice AV mV cV),EV (.agg #[.int .i64 (nV:Int),rr]),fun zz ww=>RowsV ww zz zs,fun zz _=>∃A n c,zz = .slice A n c,fun zz _=>∃A n c,zz = .agg #[.slice AV mV cV,.slice A n c],fun zz ww=>∃(g9:Nat) (A9:Option Addr) (n9 c9:Nat),zz = .slice (some ⟨g9,0,none⟩) 1 1∧Blk ww g9 100 #[.slice AV mV cV,.slice A9 n9 c9]] 7 vk vt [false,false,false,false,false,false,false] ?_ ?_ ?_
 ·exact⟨fun _ _ _ h _=>h,fun _ _ _ h _=>h,fun _ _ _ h _=>h,fun _ _ _ h hb=>RowsV.below h hb,fun _ _ _ h _=>h,fun _ _ _ h _=>h,fun _ _ _ ⟨g9,A9,n9,c9,h1,h2⟩ hb=>⟨g9,A9,n9,c9,h1,h2.keep hb⟩,uC⟩
 ·exact⟨vi0,vi1,vi59,vi60,vi61,vi62,vi63,uC⟩
 intro vs w10 hb hR;have r118:=hR 6 jd;refine vw0 ?_;clear hR;obtain⟨g9,A9,n9,c9,e9,hg9⟩:=r118;rw[e9];clear e9;have kdb:KD [3,87,89,91,95,100] w9 w10:=KD.below hb;obtain⟨cl,k1,k2,k3⟩:=HS2.2.1.kd kdb rfl vj20;have hs8:w.heap.size≤w10.heap.size:=ud HS2.2.2.2.2.2 hb.size;have hxl:=HA.2.1;have hxl2:(xs.map (·.1)).length=k:=by rw[uy];exact hxl
 show wpOps _ _ _ [7,8] _ _;refine zb rfl rfl (yk (e:=100) (k:=2) _ _ rfl vk vk w.heap.size u7 _ _ rfl k2 g9 _ rfl hg9 rfl rfl jo hs8 ?_);intro s2 w11 ho hg hor kn;refine jp 119 ?_;have kd:KD [3,87,89,91,95] w9 w11:=(kdb.sub jd).trans (KD.own k2.own hg kn rfl);have kd8:KD [3,87,89,91,95] w10 w11:=KD.own k2.own hg kn rfl;have hb9:Below w.heap.size w w11:=Below.appended (HS2.2.2.2.2.1.trans (hb.mono HS2.2.2.2.2.2)) k2.own hg hs8 (ug _);have HS3:=vh (show OwnL 95 3 (AtZ u8.ownBlock) w11 w.heap.size s1 (xs++[(YX bd V,nV,zs)])∧OwnL 100 2 (RaZ u8.ownBlock) w11 w.heap.size s2 ((xs++[(YX bd V,nV,zs)]).map (·.1))∧OwnC w11 w.heap.size 3 1 u8 k (I64 (zu (xs.map (·.2.1))))∧(IntzV w11 (.slice AV mV cV) (YX bd V)∧RowsV w11 rr zs∧Blk w11 g18 91 #[.int .i64 (nV:Int),rr])∧Below w.heap.size w w11∧w.heap.size≤w11.heap.size from⟨HS2.1.kd kd rfl vj54,vj55,HS2.2.2.1.kd kd rfl,⟨HS2.2.2.2.1.1.kd kd rfl,RowsV.kd HS2.2.2.2.1.2.1 kd rfl rfl,kd.b 91 vz _ _ HS2.2.2.2.1.2.2⟩,hb9,ud hs8 hg.size⟩);clear ho hg hor kn hb9 hs8 k1 k2 k3 kd kd8 kdb hg9 hb HS2 hxl2;refine zb rfl rfl (zl 7 (.tmp 119) rfl rfl s2 rfl ?_);refine vs1 ?_;unfold wpOps;go_upto_region 41 with (fail);refine zc (kss:=[[],[],[(1,121)]]) [(8,u8),(20,.int .i64 ((nV:Int)))] [EV (u8),EV (.int .i64 ((nV:Int))),fun zz ww=>∃g:Nat,zz = .slice (some ⟨g,0,none⟩) 1 1∧w11.heap.size≤g∧Blk ww g 3 #[.int .i64 ((nV:Int))]] 3 vk vt [false,false,false] ?_ ?_ ?_
 ·exact zcX
 ·exact⟨vi0,vi1,zpV,uC⟩
 intro vs w12 hb hR;have r122:=hR 2 jd;refine vw0 ?_;clear hR;obtain⟨g9,e9,-,hg9⟩:=r122;rw[e9];clear e9;have kdb:KD [3,87,89,91,95,100] w11 w12:=KD.below hb;have q2:=HS3.2.2.1.kd kdb rfl;obtain⟨cl6,k1,k2,k3⟩:=HS3.1.kd kdb rfl vj19;obtain⟨cl7,m1,m2,m3⟩:=HS3.2.1.kd kdb rfl vj20;have hs8:w.heap.size≤w12.heap.size:=ud HS3.2.2.2.2.2 hb.size;show wpOps _ _ _ [3,4] _ _;refine zb rfl rfl (yk (e:=3) (k:=1) _ _ rfl vk vk w.heap.size u8 _ _ rfl q2 g9 _ rfl hg9 rfl rfl jo hs8 ?_);intro s3 w13 ho hg hor kn;refine jp 123 ?_;have kd8:KD [87,89,95,100] w12 w13:=KD.own q2.own hg kn rfl;have hb9:Below w.heap.size w w13:=Below.appended (HS3.2.2.2.2.1.trans (hb.mono HS3.2.2.2.2.2)) q2.own hg hs8 (ug _);have htk:l.take (k+1)=l.take k++[(sm,rs,bd)]:=by rw[List.take_add_one,HX];rfl
 have hmr:MdR (sm,rs,bd) (YX bd V,nV,zs):=⟨by rw[HVv.1],by rw[HVv.2.1,HVv.1],vj57,by show ∀r,r∈zs↔r∈rs.map (Zz (Yx sm 8).length);rw[←HVv.1,←HVv.2.1];exact HZ.2.1,HZ.2.2⟩;have hgk:gdA (sm,rs,bd):=⟨vj58,vj59⟩;have HN:=vh (show MdJ w.heap.size l (k+1) w13 s1 s2 s3 from⟨xs++[(YX bd V,nV,zs)],⟨vj60,vj61,fun a ha=>by
  rw[htk] at ha
  rcases List.mem_append.1 ha with h | h
  ·exact HA.2.2 a h
  ·rw[List.mem_singleton.1 h];exact hgk⟩,⟨cl6,k1,k2.kd kd8 rfl,k3.mono vj62⟩,⟨cl7,m1,m2.kd kd8 rfl,m3.mono vj63⟩,vj64⟩)
 have HBn:=vh hb9;clear ho hg hor kn hb9 hs8 k1 k2 k3 m1 m2 m3 q2 kd8 kdb hg9 hb HS3 htk hmr hgk;refine zb rfl rfl (zl 8 (.tmp 123) rfl rfl s3 rfl ?_);refine vs1 ?_;unfold wpOps;go_wp2_with fail;go_roundg (na - (k+1));case measure=>omega
 case rel=>exact⟨k+1,_,_,_,vj1,rfl,rfl,rfl,jo,HBn,HN⟩):P:=h
theorem vt3 {P:Prop}(h:P:=by
 go_wp2_with fail;clear z3 ew hmin;go_loopg [5,7] (hi - lo) (fun g9 lv hv wr=>∃(lo hi:Nat),lv = .int .i64 lo∧hv = .int .i64 hi∧g9=hi - lo∧Hid ((p≤lo∧lo<hi∧hi≤q)∧(∀i,p≤i→i≤lo→zv (V l) i<y)∧(hi<q→y≤zv (V l) hi)∧(ItB wr g A d c L p q fr∧Blk wr g3 89 #[.int .i64 1,.int .i64 y,.string S0])∧OutG (fun k=>k=g) w wr));case atStart=>exact⟨lo,hi,rfl,rfl,rfl,HK0⟩
 case round=>
  clear HK0 HM HG9;try clear hm
  obtain⟨lo,hi,rfl,rfl,hg9,HJ⟩:=hrel;have HG9:=vh hg9;clear hg9;obtain⟨dd,hdd⟩:∃x,x=hi - lo:=⟨_,rfl⟩;have HD:=vh hdd;clear hdd;have ew3:IntKind.i64.wrap ((hi:Int) - (lo:Int))=(dd:Int):=by rw[show (hi:Int) - (lo:Int)=(dd:Int) by have:=HD.out;have:=HJ.1;omega];exact IntWalk.i64_in _ (by have:=HD.out;have:=HJ.1;have:=HP.out;omega)
  by_cases hm2:1<dd
  ·have t2:((dd:Int)>1):=jo;have z3:=HJ.2.2.2.1.1.en;have x0:=Blk.at0 HJ.2.2.2.1.2 (ue _ _);have x1:=Blk.at1 HJ.2.2.2.1.2 (ue _ _);have x2:=Blk.at2 HJ.2.2.2.1.2 (ue _ _);obtain⟨hf,hhf⟩:∃x,x=dd / 2:=⟨_,rfl⟩;have HF:=vh hhf;clear hhf;obtain⟨md,hmd⟩:∃x,x=lo+hf:=⟨_,rfl⟩;have HMd:=vh hmd;clear hmd;have ew4:Int.tdiv (dd:Int) 2=(hf:Int):=by rw[Int.tdiv_eq_ediv_of_nonneg jo];have:=HF.out;omega
   have ew6:IntKind.i64.wrap (hf:Int)=(hf:Int):=IntWalk.i64_in _ (by have:=HD.out;have:=HF.out;have:=HJ.1;have:=HP.out;omega);have ew5:IntKind.i64.wrap ((lo:Int)+(hf:Int))=(md:Int):=by rw[show (lo:Int)+(hf:Int)=(md:Int) by have:=HMd.out;omega];exact IntWalk.i64_in _ vj86
   have HB:=vh (show lo<md∧md<hi from by have:=HMd.out;have:=HD.out;have:=HF.out;have:=HJ.1;omega);go_wp2_with fail;refine(zcB (y:=y) HJ.2.2.2.1.1 (HT.out.out (HJ.2.2.2.2.mono fun k _ e=>by rw[e];exact hG)) hG HL.out hld hd32 (by have:=HP.out;have:=HB.out;have:=HJ.1;omega)).mono ?_;rintro e w5 ⟨rfl,hi5,ho5⟩;have HX6:=vh (ho5.blk HJ.2.2.2.1.2 (fun e=>Nat.lt_irrefl _ (uj (by rw[e];exact HI.lt) G3.out)));have HI6:=vh hi5;have HO6:=vh (HJ.2.2.2.2.trans ho5);clear hi5 ho5 z3 x0 x1 x2 ew3 ew4 ew5 ew6 t2;by_cases hlt:zv (V l) md<y
   ·rw[show decide (zv (V l) md<y)=true by simpa using hlt];have HK:=vh (show (p≤md∧md<hi∧hi≤q)∧(∀i,p≤i→i≤md→zv (V l) i<y)∧(hi<q→y≤zv (V l) hi)∧(ItB w5 g A d c L p q fr∧Blk w5 g3 89 #[.int .i64 1,.int .i64 y,.string S0])∧OutG (fun k=>k=g) w w5 from⟨zs5,fun i h1 h2=>by rcases Nat.lt_or_ge i md with h3 | h3;exact Int.lt_trans (HA.out i md h1 h3 zs5) hlt;rw[show i=md by omega];exact hlt,HJ.2.2.1,⟨HI6.out,HX6.out⟩,HO6.out⟩);clear HJ HX6 HI6 HO6 hlt;go_wp2_with fail;go_roundg (hi - md);case measure=>have:=HB.out;have:=HG9.out;omega
    case rel=>exact⟨md,hi,rfl,rfl,rfl,HK⟩
   ·rw[show decide (zv (V l) md<y)=false by simpa using hlt];have HK:=vh (show (p≤lo∧lo<md∧md≤q)∧(∀i,p≤i→i≤lo→zv (V l) i<y)∧(md<q→y≤zv (V l) md)∧(ItB w5 g A d c L p q fr∧Blk w5 g3 89 #[.int .i64 1,.int .i64 y,.string S0])∧OutG (fun k=>k=g) w w5 from⟨zs5,HJ.2.1,fun _=>by omega,⟨HI6.out,HX6.out⟩,HO6.out⟩);clear HJ HX6 HI6 HO6 hlt;go_wp2_with fail;go_roundg (md - lo);case measure=>have:=HB.out;have:=HG9.out;omega
    case rel=>exact⟨lo,md,rfl,rfl,rfl,HK⟩
  ·have t2:¬((dd:Int)>1):=jo;go_upto_region 15 with (fail);clear ew3 t2;refine zc (kss:=[[],[],[(0,73)],[(2,75)],[(3,76)]]) [(0,.pointer (some (⟨g,0,none⟩))),(7,.int .i64 ((hi:Int)))] [EV (.pointer (some (⟨g,0,none⟩))),EV (.int .i64 ((hi:Int))),EV (.pointer (some (⟨g,0,none⟩))),EV (.pointer (some (⟨g,2,none⟩))),EV (.pointer (some (⟨g,2,none⟩)))] 5 vk vt [false,false,false,false,false] ?_ ?_ ?_
   ·exact js
   ·exact⟨vi0,vi1,vi5,zcj,ziB,uC⟩
   intro vs w6 hb hR;refine vs0 ?_;rw[(hR 1 jd:vs 1=_),(hR 4 jd:vs 4=_)];clear hR;have hi6:=HJ.2.2.2.1.1.below hb;show wpOps _ _ _ [5] _ _;refine zb rfl rfl (hi6.wp_ps (p':=hi) vj8 rfl rfl vk rfl rfl ?_);intro w7 hg kn hi7;have HI7:=vh hi7;have HO7:=vh (HJ.2.2.2.2.trans ((OutG.of_below hb).trans (OutG.of_grown hg rfl)));have HR:=vh (show p≤hi∧hi≤q∧(∀i,p≤i→i<hi→zv (V l) i<y)∧(hi<q→y≤zv (V l) hi) from⟨by have:=HJ.1;omega,by have:=HJ.1;omega,fun i h1 h2=>HJ.2.1 i h1 (by have:=HD.out;have:=HJ.1;omega),HJ.2.2.1⟩);clear hi6 hi7 hg kn hb HJ;unfold wpOps;go_wp2_with fail;refine(zaJ HI7.out).mono ?_;rintro e w8 ⟨rfl,hb⟩;rw[show decide (0<L∧hi<q)=decide (hi<q) by have:=HL.out;simp;omega];have HI8:=vh (HI7.below hb);have HO8:=vh (HO7.trans (OutG.of_below hb));clear hb;go_wp2_with fail;go_ret;exact⟨hi,HR.1,HR.2.1,HR.2.2.1,HR.2.2.2,rfl,HI8.out,HO8.out⟩):P:=h
theorem vt4 {P:Prop}(h:P:=by
 obtain⟨A5,c5,rfl⟩:=zF (Classical.choose_spec HO5.out).2.1.own;obtain⟨n,hn⟩:∃x,x=zs.length:=⟨_,rfl⟩;rw[←hn] at HO5 hdl ⊢;have HZn:=vh hn;clear hn;have hn6:n≤60000:=jo;have HI:=vh (show OwnL 87 1 RowC w5 B (.slice A5 n c5) zs∧Blk w5 g4 91 #[.int .i64 0,.slice none 0 0]∧Below B w w5∧B≤w5.heap.size from⟨HO5.out,X5.out,HW5.out,ud hB HW5.size⟩);clear HO5 HW5 X5;go_wp2_with fail;go_loopg [20] n (fun g iv wr=>∃i:Nat,iv = .int .i64 i∧i+g=n∧Hid (OwnL 87 1 RowC wr B (.slice A5 n c5) zs∧Blk wr g4 91 #[.int .i64 0,.slice none 0 0]∧Below B w wr∧B≤wr.heap.size));case atStart=>exact⟨0,rfl,jo,HI⟩
 case round=>
  obtain⟨i,rfl,hio,HJ⟩:=hrel;clear HI;by_cases hi:i<n
  ·have i1:((i:Int)<(n:Int)):=jo;obtain⟨x,hx⟩:∃x,zs[i]? = some x:=⟨_,uf (by rw[←HZn];exact hi)⟩;obtain⟨g,rfl⟩:∃g,A5=some ⟨g,0,none⟩:=by
    obtain⟨us,ho,-,-⟩:=ZD HJ.1;rcases ho.own.2 with ⟨e1,h0⟩ | ⟨g,cap2,cur,e1,_⟩
    ·rw[←HZn] at h0;omega
    ·injection e1 with e1 _ _;exact⟨g,e1⟩
   obtain⟨u,hu,hR⟩:=zdR HJ.1 hx;obtain⟨u',e,hru⟩:=hR;injection e with e;subst e;obtain⟨RA,m,rc,rfl,-⟩:=id hru;have HU:=vh (uh hu hru);have HX:=vh hx;clear hu hru hx;go_upto_region 9 with (fail);refine zc (kss:=[[],[],[],[],[(2,25),(3,26)],[(4,27)],[(5,28)],[(0,23),(1,24)]]) [(1,.slice ((some ⟨g,0,none⟩)) n c5),(6,.int .i64 ((i:Int)))] [EV (.slice ((some ⟨g,0,none⟩)) n c5),EV (.int .i64 ((i:Int))),EV (.slice ((some ⟨g,0,none⟩)) n c5),EV (.int .i64 ((i:Int))),EV (.pointer (some (Addr.add (⟨g,0,none⟩) (i*1)))),EV (.slice RA m rc),fun zz ww=>RowV ww zz x,EV (.pointer (some (Addr.add (⟨g,0,none⟩) (i*1))))] 8 vk vt [false,false,false,false,false,false,false,false] ?_ ?_ ?_
   ·exact⟨eI,eI,eI,eI,eI,eI,fun _ _ _ h hb=>h.below hb,eI,uC⟩
   ·exact⟨vi0,vi1,vi0,vi1,zht,vi92,vi93,zht,uC⟩
   intro vs w6 hb hR;have r29:=hR 6 jd;refine vw3 ?_;clear hR;rw[adm,Nat.zero_add];have hO:=HJ.1.below hb vj5;obtain⟨cur,hbg,hcur,hsz,hno,hset⟩:=zfJ hO (show i<zs.length by rw[←HZn];exact hi);show wpOps _ _ _ [8] _ _;refine zb rfl rfl (yZ (g:=g) (off:=i) rfl rfl vk rfl rfl r29.ok hcur hsz hno ?_);intro w9 kn hg hs hbx;have kd:KD [3,26,89,91] w6 w9:=KD.blk hcur hg kn rfl;have hO9:=hset _ x w9 r29.ok hbx zla ⟨_,rfl,r29.kd kd rfl⟩;rw[zmm HX.out] at hO9;have HN2:=vh (show OwnL 87 1 RowC w9 B (.slice (some ⟨g,0,none⟩) n c5) zs∧Blk w9 g4 91 #[.int .i64 0,.slice none 0 0]∧Below B w w9∧B≤w9.heap.size from⟨hO9,(KD.blk (T:=[91]) hcur hg kn rfl).b 91 vz _ _ (HJ.2.1.keep hb),(HJ.2.2.1.trans (hb.mono HJ.2.2.2)).grown hg (ud HJ.2.2.2 hb.size) (fun k e=>by cases e;exact hbg),vj72⟩);clear hO9 kd kn hg hs hbx hset hcur hsz hno hbg hO r29 hb HJ HU HX;exact znD
  ·obtain rfl:n=i:=jo;have HF:=vh (HJ.1.sls (by rw[←HZn];omega));have HB:=vh (uh HJ.2.2.1 HJ.2.2.2);have X8:=vh HJ.2.1;clear HJ;go_upto_region 11 with (fail);refine zc (kss:=[[],[],[(0,32),(1,33)]]) [(0,.int .i64 ((ar:Int))),(1,.slice A5 n c5)] [EV (.int .i64 ((ar:Int))),EV (.slice A5 n c5),EV (.agg #[.int .i64 (ar:Int),.slice A5 n c5])] 3 vk vt [false,false,false] ?_ ?_ ?_
   ·exact js
   ·exact⟨vi0,vi1,vi94,uC⟩
   intro vs w6 hb hR;have r34:=hR 2 jd;clear hR;refine vs0 ?_;rw[r34];clear r34;have hx:=X8.keep hb;show wpOps _ _ _ [3,4] _ _;refine zb rfl rfl (zC (vs:=[.int .i64 (ar:Int),.slice A5 n c5]) (off:=0) rfl rfl vk rfl rfl rfl hx vj6 (fun j _ _ x=>zD rfl j x) ?_);intro w9 kn hg hs hb9;have HX9:=vh (show Blk w9 g4 91 #[.int .i64 (ar:Int),.slice A5 n c5] from hb9);have kd:KD [3,87,89] w6 w9:=KD.blk hx hg kn rfl;have hB4:B≤g4:=ud hB G4.out;have HB9:=vh (show Below B w w9 from(HB.1.trans (hb.mono HB.2)).grown hg (ud HB.2 hb.size) (fun k e=>by cases e;exact hB4));have HF9:=vh (RowsV.kd (RowsV.below HF.out hb) kd rfl rfl);clear kn hg hs hb9 hx kd hb;refine zb rfl rfl (zl 5 (.const (.int .i64 0)) rfl rfl (.int .i64 0) rfl ?_);refine vs1 ?_;unfold wpOps;go_wp2_with fail;refine bodyPost_ret (v:= .tuple #[.agg #[.int .i64 (ar:Int),.slice A5 n c5],.int .i64 0]) (yS Tryz.results49 _ _ _ _ _ (0,0) _ rfl HX9.out Tryz.underlying91 rfl rfl) rfl ?_;exact⟨_,_,rfl,HF9.out,HB9.out,HZ.2.1,HZ.1,HZ.2.2⟩):P:=h
theorem vt5 {P:Prop}(h:P:=by
 have HO:=vh (HJ.1.below hb);have HBw:=vh (ze HJ.2 hb HJ.2.size);have HS2:=vh (ud HS.out hb.size);clear hb HJ HS;obtain⟨adr,hA,-⟩:=(HVB.below HBw.out).at_ hk2;subst hA;have HC3:=vh ((HVB.below HBw.out).c3 hk2);go_upto_region 10 with (fail);refine zc (kss:=[[],[],[],[(1,62),(2,63)],[(3,64)],[(4,65)]]) [(11,u11),(4,.slice ((some adr)) q2 vd),(13,.int .i64 ((k:Int)))] [EV (u11),EV (.slice ((some adr)) q2 vd),EV (.int .i64 ((k:Int))),EV (.pointer (some (Addr.add adr (k*3)))),EV (.agg #[.int .i64 1,.int .i64 (zv y k),.string S0]),fun zz ww=>∃g:Nat,zz = .slice (some ⟨g,0,none⟩) 1 1∧w2.heap.size≤g∧Blk ww g 89 #[.int .i64 1,.int .i64 (zv y k),.string S0]] 6 vk vt [false,false,false,false,false,false] ?_ ?_ ?_
 ·exact znI
 ·exact⟨vi0,vi1,vi4,vi64,vi83,zpW,uC⟩
 intro vs w3 hb hR;have r66:=hR 5 jd;refine vw0 ?_;clear hR;obtain⟨g3,e3,hg3,hb3'⟩:=r66;rw[e3];clear e3 HC3;show wpOps _ _ _ [6,7] _ _;refine zb rfl rfl (yk (T:=87) (e:=89) (k:=3) _ _ rfl vk vk B u11 j _ rfl (HO.below hb) g3 _ rfl hb3' rfl rfl jo (ud HS2.out hb.size) ?_);intro v' w4 ho hg _ _;have HN:=vh (show OwnC w4 B 89 3 v' (j+1) (VR ((zaM vars av x bv y).take (j+1)))∧Below w.heap.size w w4 from⟨by rw[HTk,if_neg hma,hb4,zam];exact ho,zs4⟩);clear ho hg hb3' hg3 hb HO HBw HS2;show wpOps _ _ _ [7] (Act.put _ (some 67) _) _;refine vs1 ?_;refine zb rfl rfl (zl 11 (.tmp 67) rfl rfl v' rfl ?_);refine vs1 ?_;unfold wpOps;go_wp2_with fail;go_roundg (gk - 1);case measure=>omega
 case rel=>exact⟨j+1,_,vj1,rfl,by rw[ha5],by rw[hb5];go_num,jo,HN⟩):P:=h
theorem vt6 {P:Prop}(h:P:=by
 have HO:=vh (HJ.1.below hb);have HBw:=vh (ze HJ.2 hb HJ.2.size);have HS2:=vh (ud HS.out hb.size);clear hb HJ HS;obtain⟨adr,hA,-⟩:=(HVA.below HBw.out).at_ hi2;subst hA;have HC3:=vh ((HVA.below HBw.out).c3 hi2);go_upto_region 8 with (fail);refine zc (kss:=[[],[],[],[(1,53),(2,54)],[(3,55)],[(4,56)]]) [(11,u11),(2,.slice ((some adr)) p2 vc),(12,.int .i64 ((i:Int)))] [EV (u11),EV (.slice ((some adr)) p2 vc),EV (.int .i64 ((i:Int))),EV (.pointer (some (Addr.add adr (i*3)))),EV (.agg #[.int .i64 1,.int .i64 (zv x i),.string S0]),fun zz ww=>∃g:Nat,zz = .slice (some ⟨g,0,none⟩) 1 1∧w2.heap.size≤g∧Blk ww g 89 #[.int .i64 1,.int .i64 (zv x i),.string S0]] 6 vk vt [false,false,false,false,false,false] ?_ ?_ ?_
 ·exact znI
 ·exact⟨vi0,vi1,vi4,ziA,vi67,zpW,uC⟩
 intro vs w3 hb hR;have r57:=hR 5 jd;refine vw0 ?_;clear hR;obtain⟨g3,e3,hg3,hb3'⟩:=r57;rw[e3];clear e3 HC3;show wpOps _ _ _ [6,7] _ _;refine zb rfl rfl (yk (T:=87) (e:=89) (k:=3) _ _ rfl vk vk B u11 j _ rfl (HO.below hb) g3 _ rfl hb3' rfl rfl jo (ud HS2.out hb.size) ?_);intro v' w4 ho hg _ _;have HN:=vh (show OwnC w4 B 89 3 v' (j+1) (VR ((zaM vars av x bv y).take (j+1)))∧Below w.heap.size w w4 from⟨vj68,zs4⟩);clear ho hg hb3' hg3 hb HO HBw HS2;show wpOps _ _ _ [7] (Act.put _ (some 58) _) _;refine vs1 ?_;refine zb rfl rfl (zl 11 (.tmp 58) rfl rfl v' rfl ?_);refine vs1 ?_;unfold wpOps;go_wp2_with fail;go_roundg (gk - 1);case measure=>omega
 case rel=>exact⟨j+1,_,vj1,rfl,by rw[ha5];go_num,by rw[hb5],jo,HN⟩):P:=h
theorem vt7 {P:Prop}(h:P:=by
 obtain⟨w1,hw2⟩:∃x,x=w1_1.alloc (.cells #[.bool true,.slice B m d] 34):=⟨_,rfl⟩;rw[←hw2];have hs2:w1.heap.size=w.heap.size+1+1+1:=by rw[hw2];simp[hs1]
 have ha2:Below w1_1.heap.size w1_1 w1:=by rw[hw2];exact al _ _
 obtain⟨g5,hg2⟩:∃g,g=w.heap.size+1+1:=⟨_,rfl⟩;have hx2:Blk w1 g5 34 #[.bool true,.slice B m d]:=by rw[hw2,hg2,←hs1];exact Blk.new _ _ _
 rw[←hg2,←hg1,←hg0];have X3:=vh ((hx0.keep ha1).keep ha2);have G3:=vh (show w.heap.size≤g3 by omega);have X4:=vh (hx1.keep ha2);have G4:=vh (show w.heap.size≤g4 by omega);have X5:=vh hx2;have G5:=vh (show w.heap.size≤g5 by omega);have HB1:=vh (show Below w.heap.size w w1 from(ze (ze ha0 ha1 jo) ha2 jo));clear hw2 hs2 ha2 hg2 hx2 hw1 hs1 ha1 hg1 hx1 hw0 hs0 ha0 hg0 hx0;have z40:=Blk.at0 X4.out (ue _ _);have z41:=Blk.at1 X4.out (ue _ _);have z50:=Blk.at0 X5.out (ue _ _);have z51:=Blk.at1 X5.out (ue _ _);go_wp2_with fail;go_ret;exact⟨rfl,HB1.out⟩):P:=h
theorem vt8 {P:Prop}(h:P:=by
 obtain⟨g0,hg0⟩:=vx (w.heap.size);obtain⟨g1,hg1⟩:=vx (w.heap.size+1);obtain⟨g2,hg2⟩:=vx (w.heap.size+1+1);obtain⟨g3,hg3⟩:=vx (w.heap.size+1+1+1);rw[←hg3] at HR ⊢;rw[←hg2] at HY ⊢;rw[←hg1] at HX ⊢;rw[←hg0] at HE ⊢;have HGg0:=vh (show w.heap.size≤g0∧w.heap.size≤g1∧w.heap.size≤g2∧w.heap.size≤g3 from by omega);clear hg0 hg1 hg2 hg3;have HGg3:=vh HGg0.2.2.2;have x0:=Blk.at0 HX.out (ue _ _);have x1:=Blk.at1 HX.out (ue _ _);have y0:=Blk.at0 HY.out (ue _ _);have y1:=Blk.at1 HY.out (ue _ _);have r0:=Blk.at0 HR.out (ue _ _);have r1:=Blk.at1 HR.out (ue _ _);have f0:=HR.frozen 0;have f1:=HR.frozen 1;go_wp2_with fail;refine bodyPost_ret (v:= .agg #[.bool true,.slice none 0 0]) (results_cell_row Tryz.results26 _ _ _ _ _ (0,0) _ rfl ((HR.set_ 0 _).set_ 1 _) Tryz.underlying34 rfl vk) rfl ?_;exact⟨_,rfl,⟨_,_,_,_,rfl,rfl⟩,((HB.setCell (p:=⟨g3,0,none⟩) HGg3.out _).setCell (p:=⟨g3,1,none⟩) HGg3.out _)⟩):P:=h
theorem vt9 {P:Prop}(h:P:=by
 intro listed vs w hls hj hcl hf hb hR hP hN;have h0:left (fun i=>listed.getD i false) m=0:=jo;have hall:=zak m h0;have e1:listed=yF l.length m:=by
  exact vt25
 have:=fin vs w hb (fun i hi=>hR i hi (hall i hi)) (fun i j hi hj' hij h1 h2=>hN i j hi hj' hij (hall i hi) (hall j hj') h1 h2);rw[show l.length - m=0 by omega] at this;rw[e1];rw[zaj (vs':=vs) (L':=fun _=>true) a0 m (fun i hi=>⟨zs3,fun _=>rfl⟩),zdq l a0 vs m hm];exact this):P:=h
theorem vt10 {P:Prop}(h:P:=by
 replace HB:=vh (ze HB.out hb HB.size);replace HE:=vh (HE.keep hb);replace HX:=vh (HX.keep hb);replace HY:=vh (HY.keep hb);replace HR:=vh (HR.keep hb);clear hb;have r0:=Blk.at0 HR.out (ue _ _);have r1:=Blk.at1 HR.out (ue _ _);have f0:=HR.frozen 0;have f1:=HR.frozen 1;go_wp2_with fail;refine bodyPost_ret (v:= .agg #[.bool b9,.slice A9 k9 c9]) (results_cell_row Tryz.results27 _ _ _ _ _ (0,0) _ rfl ((HR.set_ 0 _).set_ 1 _) Tryz.underlying34 rfl vk) rfl ?_;exact⟨_,rfl,FC.vq22.keepN HV.out ((KeepsN.blk HR.out (i:=0) zs1 zk9 _).trans (KeepsN.blk (HR.set_ 0 _) (i:=1) zs2 zk9 _)),((HB.setCell (p:=⟨g3,0,none⟩) HGg3.out _).setCell (p:=⟨g3,1,none⟩) HGg3.out _)⟩):P:=h
theorem vt11 {P:Prop}(h:P:=by
 have hall:=zak m h0;have e1:listed=yF l.length m:=by
  exact vt25
 have:=fin vs w hb (fun i hi=>hR i hi (hall i hi)) (fun i j hi hj' hij h1 h2=>hN i j hi hj' hij (hall i hi) (hall j hj') h1 h2);rw[show l.length - m=fuel+1 by omega] at this;rw[e1];rw[zaj (vs':=vs) (L':=fun _=>true) a0 m (fun i hi=>⟨zs3,fun _=>rfl⟩),zdq l a0 vs m hm];exact this):P:=h
theorem vt12 {P:Prop}(h:P:=by
 replace HN:=vh (HN.new hb);replace HM:=vh (HM.new hb);replace HB:=vh (ze HB.out hb HB.size);replace HE:=vh (HE.keep hb);replace HX:=vh (HX.keep hb);replace HY:=vh (HY.keep hb);replace HR:=vh (HR.keep hb);clear hb;have r0:=Blk.at0 HR.out (ue _ _);have r1:=Blk.at1 HR.out (ue _ _);have f0:=HR.frozen 0;have f1:=HR.frozen 1;go_wp2_with fail;refine bodyPost_ret (v:= .agg #[.bool b9,.slice A9 k9 c9]) (results_cell_row Tryz.results27 _ _ _ _ _ (0,0) _ rfl ((HR.set_ 0 _).set_ 1 _) Tryz.underlying34 rfl vk) rfl ?_;exact⟨_,rfl,vj82,((HB.setCell (p:=⟨g3,0,none⟩) HGg3.out _).setCell (p:=⟨g3,1,none⟩) HGg3.out _)⟩):P:=h
theorem vt13 {P:Prop}(h:P:=by
 refine zb rfl rfl (zl 7 (.const (.int .i64 0)) rfl rfl (.int .i64 0) rfl ?_);refine vs1 ?_;unfold wpOps;go_wp2_with fail;first
 |guard_expr ins =~ 1
  refine bodyPost_ret (v:= .tuple #[.agg #[.bool b9,.slice A9 k9 c9],.int .i64 0]) (yS Tryz.results13 _ _ _ _ _ (0,0) _ rfl HX9.out Tryz.underlying34 rfl rfl) rfl ?_
 |guard_expr ins =~ 2
  refine bodyPost_ret (v:= .tuple #[.agg #[.slice A9 k9 c9,.bool b9,.slice B9 m9 d9],.int .i64 0]) (yS Tryz.results15 _ _ _ _ _ (0,0) _ rfl HX9.out Tryz.underlying61 rfl rfl) rfl ?_
 |go_ret2
 exact⟨_,rfl,⟨_,rfl,HV9.out⟩,HB9.out⟩):P:=h
theorem vt14 {P:Prop}(h:P:=by
 first
 |guard_expr ins =~ 1
  exact fun aa ww hb he hd=>za rfl (zg (cs:=[.bool b8,.slice A8 k8 c8]) rfl vk vk hd.1 (fun j u hj=>(hb.cell (zh (HD2.out j u hj))).trans (HD2.out j u hj)))
 |guard_expr ins =~ 2
  exact fun aa ww hb he hd=>za rfl (zg (cs:=[.slice A8 k8 c8,.bool b8,.slice B8 m8 d8]) rfl vk vk hd.1 (fun j u hj=>(hb.cell (zh (HD2.out j u hj))).trans (HD2.out j u hj)))
 |exact fun aa ww hb he hd=>za rfl (zd rfl vk hd.1 vj91)):P:=h
theorem vt15 {P:Prop}(h:P:=by
 first
 |guard_expr ins =~ 1
  exact fun aa ww hb he hd=>za rfl (zg (cs:=[.bool b9,.slice A9 k9 c9]) rfl vk vk hd.1 (fun j u hj=>(hb.cell (zh (HDw.out j u hj))).trans (HDw.out j u hj)))
 |guard_expr ins =~ 2
  exact fun aa ww hb he hd=>za rfl (zg (cs:=[.slice A9 k9 c9,.bool b9,.slice B9 m9 d9]) rfl vk vk hd.1 (fun j u hj=>(hb.cell (zh (HDw.out j u hj))).trans (HDw.out j u hj)))
 |exact fun aa ww hb he hd=>za rfl (zd rfl vk hd.1 vj92)):P:=h
theorem vt16 {P:Prop}(h:P:=by
 refine wp_region_join' env R l.length [] (fun _=>True) (fun _ _=>trivial) hm hB henv _ vz hst hob (fun vs w' hb hR _=>Zn _ _ _ _ ?_);rw[Nat.sub_self];have h1:=fin vs w' hb hR;rw[List.take_length];refine⟨?_,h1⟩;rw[List.eq_nil_iff_forall_not_mem];intro j hj;obtain⟨h2,o,ho,-⟩:=mem_ready.1 hj;have hjl:j<l.length:=by
  rcases Nat.lt_or_ge j l.length with h | h
  ·exact h
  ·simp[h] at ho
 rw[Yp _ _ _ _ (ug _),if_pos hjl] at h2;cases h2):P:=h
theorem zsG {P:Prop}(h:P:=by
 exact⟨⟨fun _ _ h ht=>h.app ht,PuE.app jd rfl,⟨.inr vj0,.inr vj0,.inr vj0,.inr vj0,.inr vj0,.inr vj0,.inr vj0,.inr vj0,.inr vj0,.inr vj0,.inr vj0,.inr vj0,.inr vj0,.inl rfl,.inl rfl,.inr vj0,.inr vj0,.inl rfl,uC⟩⟩,⟨fun _ _ h ht=>h.sto ht,PuE.sto jd rfl,⟨.inr vj0,.inr vj0,.inr vj0,.inr vj0,.inr vj0,.inr vj0,.inr vj0,.inr vj0,.inr vj0,.inr vj0,.inr vj0,.inr vj0,.inr vj0,.inl rfl,.inr vj48,.inr vj0,.inr vj0,.inl rfl,uC⟩⟩,uC⟩):P:=h
theorem vt18 {P:Prop}(h:P:=by
 exact⟨⟨fun _ _ h ht=>h.app ht rfl,PuE.app jd rfl,⟨.inr vj0,.inr vj0,.inr vj0,.inr vj0,.inr vj0,.inr vj0,.inr vj0,.inl rfl,.inl rfl,.inr vj0,.inl rfl,uC⟩⟩,⟨fun _ _ h ht=>h.sto ht rfl (ug _),PuE.sto jd rfl,⟨.inr vj0,.inr vj0,.inr vj0,.inr vj0,.inr vj0,.inr vj0,.inr vj0,.inl rfl,.inr (fun _ _ _ _ h ht=>OwnC.blk h ht.1 jd ht.2.1),.inr vj0,.inl rfl,uC⟩⟩,uC⟩):P:=h
theorem zsH {P:Prop}(h:P:=by
 refine mem_ready.2 ⟨?_,l[q],hqget,fun e he hbe=>?_⟩
 ·have:listed.getD q false=listed.getD q true:=by simp[show q<listed.size by omega]
  rw[←this];exact hql
 ·have h1:=hdep q hq;rw[hqget] at h1;simp only[Bool.and_eq_true,Array.all_eq_true_iff_forall_mem,Bool.or_eq_true,Bool.not_eq_true',decide_eq_true_eq] at h1;rcases h1.1 e he with h2 | h2
  ·rw[hbe] at h2;cases h2
  ·exact hqb _ h2):P:=h
theorem vt20 {P:Prop}(h:P:=by
 intro vs w5 hb hR;refine vw7 ?_;clear hR;have h5:Below w.heap.size w w5:=HB.trans (zis (HJ.2.2.1.trans (hb.mono HJ.2.2.2)) zn4);go_wp2_with fail;refine bodyPost_ret (zbP rfl _ _ _) rfl ?_;exact MdE.bad (ui HX.out) (fun hh=>by have h1:=hh.1;have h2:=hh.2;have h3:=HVv.1;have h4:=HVv.2.1;have h5:=HRn.out;dsimp only at h1 h2;rw[←h3,←h4] at h1;omega) h5):P:=h
theorem vt21 {P:Prop}(h:P:=by
 intro j oj hj' hne hunj hno;refine zhE ho (hfree q hqlq) j oj hj' hne (fun hja=>?_) hno;have h2:=zbS (fun k=>listed.getD k false=true) (zai ho hall) hcl j hja;have:j<listed.size:=by
  rcases Nat.lt_or_ge j listed.size with h | h
  ·exact h
  ·simp[h] at h2
 have h3:listed.getD j true=listed.getD j false:=by simp[this]
 rw[h3,h2] at hunj;cases hunj):P:=h
theorem zsI {P:Prop}(h:P:=by
 intro vs w3 hb hR;refine vs0 ?_;rw[(hR 18 jd:vs 18=_)];clear hR;have HB3:=vh (HB2.trans (hb.mono HB2.size));have HX3:=vh (HX2.keep hb);have HX:=vh hb;clear hb HB2 HX2;go_wp2_with fail;refine(zae _).mono ?_;rintro e wz ⟨rfl,hb⟩;have HZ9:=vh (HB3.trans (hb.mono HB3.size));clear hb;go_wp2_with fail;go_ret;exact⟨rfl,HZ9.out⟩):P:=h
theorem vt23 {P:Prop}(h:P:=by
 exact⟨eI,eI,eI,eI,eI,eI,eI,eI,fun _ _ _ h hb=>SlsV.below h hb (fun _ _ h=>FacG.below h hb vj3),fun _ _ _ ⟨v,h1,h2⟩ hb=>⟨v,h1,⟨h2.1,h2.2.keepN (KeepsN.below hb)⟩⟩,fun _ _ _ ⟨v,h1,h2⟩ hb=>⟨v,h1,⟨h2.1,h2.2.keepN (KeepsN.below hb)⟩⟩,fun _ _ _ h2 hb=>⟨h2.1,h2.2.keepN (KeepsN.below hb)⟩,eI,fun _ _ _ ⟨g,h1,h2,h3⟩ hb=>⟨g,h1,h2,h3.keep hb⟩,uC⟩):P:=h
theorem vt24 {P:Prop}(h:P:=by
 exact⟨fun _ _ _ h _=>h,fun _ _ _ h _=>h,fun _ _ _ h _=>h,fun _ _ _ h _=>h,fun _ _ _ h _=>h,fun _ _ _ h _=>h,fun _ _ _ h _=>h,fun _ _ _ h _=>h,fun _ _ _ h _=>h,fun _ _ _ h _=>h,fun _ _ _ h _=>h,fun _ _ _ h _=>h,fun _ _ _ h _=>h,fun _ _ _ h _=>h,fun _ _ _ h _=>h,fun _ _ _ h _=>h,fun _ _ _ h _=>h,fun _ _ _ h _=>h,fun _ _ _ h _=>h,uC⟩):P:=h
theorem vt25 {P:Prop}(h:P:=by
 apply Array.ext
 ·simp[hls,yF];omega
 ·intro i h1 h2;have h3:=Yp l.length m i false hm;have h4:listed.getD i false=listed[i]:=by simp[h1]
  have h5:(yF l.length m).getD i false=(yF l.length m)[i]:=by simp[h2]
  rw[←h4,←h5,h3];by_cases hi:i<m
  ·rw[if_pos hi];exact hall i hi
  ·rw[if_neg hi,hj i jo];split <;> rfl):P:=h
theorem vt26 {P:Prop}(h:P:=by
 rcases Nat.lt_or_ge i m with h | h
 ·exact h
 ·exfalso;have h1:=hrest (i - m) jo p hp;simp only[Bool.or_eq_true,List.contains_iff_mem] at h1;rw[show m+(i - m)=i by omega] at h1;have h1:=h1.resolve_left hplq;have h2:=zbS (fun k=>listed.getD k false=true) (zai ho hall) hcl p h1;rw[hpl] at h2;cases h2):P:=h
theorem vt27 {P:Prop}(h:P:=by
 exact⟨eI,eI,eI,fun _ _ _ h hb=>h.kd (KD.below hb),fun _ _ _ ⟨g,c0,h1,h2,h3,h4,h5⟩ hb=>⟨g,c0,h1,h2.keep hb,h3,h4,h5.kd (KD.below hb)⟩,fun _ _ _ ⟨c0,h1,h2,h3⟩ hb=>⟨c0,h1,OwnC.below h2 hb,h3.kd (KD.below hb)⟩,eI,fun _ _ _ ⟨sv',c0,h0,h1,h2,h3⟩ hb=>⟨sv',c0,h0,h1.keep hb,OwnC.below h2 hb,h3.kd (KD.below hb)⟩,uC⟩):P:=h
theorem vt28 {P:Prop}(h:P:=by
 exact⟨⟨fun _ _ h ht=>h.app ht rfl,PuE.app jd rfl,⟨.inr vj0,.inr vj0,.inr vj0,.inr zqe,.inl rfl,.inl rfl,.inr vj0,.inl rfl,uC⟩⟩,⟨fun _ _ h ht=>h.sto ht rfl (ug _),PuE.sto jd rfl,⟨.inr vj0,.inr vj0,.inr vj0,.inr zqe,.inl rfl,.inr vj77,.inr vj0,.inl rfl,uC⟩⟩,uC⟩):P:=h
theorem vt29 {P:Prop}(h:P:=by
 rw[←hq.smu μ] at h2;unfold Mf;have a1:smu μ p.vals*smu μ f.vals≤max 1 (smu μ p.vals)*max 1 (smu μ f.vals):=Nat.mul_le_mul (Nat.le_max_right _ _) (Nat.le_max_right _ _);have a2:1*1≤max 1 (smu μ p.vals)*max 1 (smu μ f.vals):=Nat.mul_le_mul (Nat.le_max_left _ _) (Nat.le_max_left _ _);omega):P:=h
theorem vt30 {P:Prop}(h:P:=by
 subst hu;have hr:(execOp a.eval o).run P w = .ok (.enter K (#[a.eval (.tmp u)]++caps)) w:=by
  have hh:a.eval (.tmp t) = .func (.func K) #[] caps:=ht;exact zqK
 unfold zp;rw[hr];exact h):P:=h
theorem vt31 {P:Prop}(h:P:=by
 conv=>rhs;rw[e]
 rw[List.filter_map,List.map_map];apply List.map_congr_left;intro i hi;have hi2:i<vs.length:=by simpa using (List.mem_filter.1 hi).1
 show zv r i=rvF ((List.range vs.length).map (nth vs)) r (nth vs i);rw[←e];unfold rvF;rw[zkc hn hi2]):P:=h
theorem vt32 {P:Prop}(h:P:=by
 clear hN kn hg hs hbx ho21 kd hv21 hset2 hcur2 hsz2 hno2 hc103 hb HJ20 HO20 HO2 HD2 HR2 HBg HCur HF8 HB8 HDw HRw;go_wp2_with fail;go_roundg (gk - 1);case measure=>omega
 case rel=>exact⟨i+1,_,_,vj1,jo,vh ⟨_,_,HFi.1,HFi.2,HN2.2.1,HN2.1,HN2.2.2⟩⟩):P:=h
theorem vt33 {P:Prop}(h:P:=by
 rw[←hg0];have X1:=vh hx0;have G1:=vh (show w.heap.size≤g1 by omega);have HB1:=vh (show Below w.heap.size w w1 from ha0);clear hw0 hs0 ha0 hg0 hx0;have z0:=Blk.at0 X1.out (ue _ _);go_wp2_with fail;go_ret;exact⟨rfl,HB1.out⟩):P:=h
theorem vt34 {P:Prop}(h:P:=by
 have hr:(execOp a.eval o).run Tryz.prog w = .ok (.value (.pointer (some ⟨w.heap.size,0,none⟩))) (w.alloc (.cells #[.int .i64 0,.int .i64 0,.string S0] 89)):=by
  unfold execOp;rw[ho];go_simp;rfl
 unfold Oper.wp;rw[hr];exact next):P:=h
theorem vt35 {P:Prop}(h:P:=by
 go_wp2_with fail;rw[HC];refine bodyPost_ret (v:= .agg #[.bool false,.slice A9 k9 c9]) (results_cell_row Tryz.results7 _ _ _ _ _ (0,0) _ rfl HX9.out Tryz.underlying34 rfl vk) rfl ?_;exact⟨_,rfl,HV.out,HB9.out⟩):P:=h
theorem zsJ {P:Prop}(h:P:=by
 exact⟨eI,eI,eI,eI,eI,eI,eI,eI,eI,eI,eI,eI,eI,fun _ _ _ ⟨g,h1,h2,h3⟩ hb=>⟨g,h1,h2,h3.keep hb⟩,fun _ _ _ h hb=>⟨OwnC.below h.1 hb,h.2⟩,eI,eI,fun _ _ _ ⟨sv',h1,h2,h3⟩ hb=>⟨sv',h1.keep hb,OwnC.below h2 hb,h3⟩,uC⟩):P:=h
theorem vt37 {P:Prop}(h:P:=by
 intro i hi;simp only[List.mem_cons,List.not_mem_nil,or_false] at hi;subst hi;exact⟨rfl,fun o ks ho hk=>by cases ho;cases hk;exact fun a w _ _ hd=>by obtain⟨v,h1,_⟩:=hd.1;exact zmG rfl rfl h1 rfl⟩):P:=h
theorem vt38 {P:Prop}(h:P:=by
 have i1:(0:Int)≤(k:Int):=jo;have i2:(k:Int)<(n:Int):=jo;unfold execOp;rw[ho];simp only[zK,h,h2];simp[Instr.indexAt,asIntOf,run_underlying hu,i1,i2,hk,sizeOf,typeInfo,hi,hs,Result.andThen]):P:=h
theorem ziy {P:Prop}(h:P:=by
 rw[Nat.zero_add,List.nil_append] at ho;obtain⟨A',c',rfl,hc,hr⟩:=zh4 ho;have HF:=vh (uh hr hb);clear ho hg hor kn hb hr;go_wp2_with fail;go_ret;exact⟨_,rfl,⟨_,_,rfl,hc,HF.1⟩,HF.2⟩):P:=h
theorem zk3 {P:Prop}(h:P:=by
 have e1:a.tmps[t]?.getD undef = .slice A n c:=by have:=h1;simpa [tv] using this
 have e2:a.tmps[u]?.getD undef = .slice B m d:=by have:=h2;simpa [tv] using this
 unfold execOp;rw[ho];go_simp):P:=h
theorem vt41 {P:Prop}(h:P:=by
 intro vs w5 hb hR;refine vs0 ?_;rw[(hR 20 jd:vs 20=_)];clear hR;have HJ5:=vh (HJ4.below hb);clear hb HJ4;go_wp2_with fail;go_ret;exact⟨_,rfl,fun h0=>absurd h0 jd,HJ5.1⟩):P:=h
theorem vt42 {P:Prop}(h:P:=by
 have e:IntKind.u64.wrap (k:Int)=(k:Int):=IntWalk.u64_in _ jo;refine zo (.int .u64 (k:Int)) ?_ ⟨rfl,ue _ _⟩;unfold execOp;rw[ho];simp only[zK,hx];go_simp):P:=h
theorem vt43 {P:Prop}(h:P:=by
 unfold yr;by_cases h:x<y
 ·rw[if_pos h];have:x≠y:=jo;simp[this]
 ·rw[if_neg h];by_cases h2:y<x
  ·rw[if_pos h2];have:x≠y:=jo;simp[this]
  ·rw[if_neg h2];have:x=y:=jo;simp[this]):P:=h
theorem vt44 {P:Prop}(h:P:=by
 have e:IntKind.i64.wrap (x:Int)=(x:Int):=IntWalk.i64_in _ jo;refine zo (.int .i64 (x:Int)) ?_ ⟨rfl,ue _ _⟩;unfold execOp;rw[ho];simp only[zK,h];go_simp):P:=h
theorem zpQ {P:Prop}(h:P:=by
 intro i j hi hj hji;have:=hdis i hi j hj;simp only[Bool.or_eq_true,beq_iff_eq,bne_iff_ne] at this;rcases this with (h | h) | h
 ·exact absurd h.symm hji
 ·exact .inl h
 ·exact .inr h):P:=h
theorem vt46 {P:Prop}(h:P:=by
 have hagg:=zeA hu w;unfold execOp;rw[ho];simp only[zK,hx,Instr.loadAt,Instr.sureAddr,Sem.run_bind,Sem.run_pure,Result.andThen_ok,loadVar,hagg];simp[hc,Result.andThen]):P:=h
theorem vt47 {P:Prop}(h:P:=by
 exact⟨eI,eI,eI,eI,eI,eI,eI,fun _ _ _ ⟨g,h1,h2,h3⟩ hb=>⟨g,h1,h2,h3.keep hb⟩,fun _ _ _ h hb=>OwnC.below h hb,eI,fun _ _ _ ⟨sv',h1,h2⟩ hb=>⟨sv',h1.keep hb,OwnC.below h2 hb⟩,uC⟩):P:=h
theorem vt48 {P:Prop}(h:P:=by
 rw[Nat.zero_add,List.nil_append] at ho;obtain⟨A',c',rfl⟩:=zF ho.own;have HF:=vh (uh ho hb);clear ho hg hor kn hb;go_wp2_with fail;go_ret;exact⟨_,rfl,HF.1,HF.2⟩):P:=h
theorem ziz {P:Prop}(h:P:=by
 obtain rfl:n=0:=hA rfl;obtain rfl:cl=[]:=uo vj17;go_wp2_with fail;go_ret;exact⟨_,rfl,⟨none,0,rfl,ug _,RdT.nil _ _ _ _⟩,ue _ _⟩):P:=h
theorem vt50 {P:Prop}(h:P:=by
 have hc:n≤c:=by
  exact zqD
 exact⟨A,n,c,rfl,hc,RdT.of_own h.own,⟨hl,jo⟩,hL⟩):P:=h
theorem vt51 {P:Prop}(h:P:=by
 obtain rfl:n=i:=jo;obtain⟨us,ho⟩:=HJ.1;obtain⟨A9,c9,rfl⟩:=zF ho.own;have HB:=vh HJ.2.1;clear ho HJ;go_wp2_with fail;go_ret;exact⟨_,_,_,rfl,HB.out⟩):P:=h
theorem vt52 {P:Prop}(h:P:=by
 have hc:n≤c:=by
  exact zqD
 exact⟨A,n,c,rfl,hc,RdT.of_own h.own,⟨hl,jo⟩,hy⟩):P:=h
theorem vt53 {P:Prop}(h:P:=by
 first
 |guard_expr ins6 =~ 0
  exact fun _ _ _ he hd=>yM rfl rfl he.2.1
 |exact fun aa ww hb he hd=>za rfl (zi _ rfl ⟨he.2.1,BelowD.refl _ _⟩)):P:=h
theorem vt54 {P:Prop}(h:P:=by
 unfold execOp;rw[ho];simp only[zK,h];simp[Instr.fieldAt,run_underlying hfs,hf0,Instr.sureAddr,fieldPlace,sizeOf,typeInfo,hi,h3,h4,Result.andThen]):P:=h
theorem vt55 {P:Prop}(h:P:=by
 obtain rfl:n=0:=hA rfl;obtain rfl:cl=[]:=uo vj17;go_wp2_with fail;go_ret;exact⟨_,rfl,OwnC.nil _ _ _ _,ue _ _⟩):P:=h
theorem zpR {P:Prop}(h:P:=by
 exact zf rfl (fun aa ww hI hE he hd=>za rfl (zd rfl vk hd.1 (Blk.at2 (hE 1 vk) (ue _ _))))):P:=h
theorem vt57 {P:Prop}(h:P:=by
 rw[hnd.erase_eq_filter];exact ZC (YR _) ((YR _).filter _) fun u=>by
  rw[mem_memF,ho,List.mem_filter,mem_memF];simp[and_assoc]):P:=h
theorem vt58 {P:Prop}(h:P:=by
 intro vs w1 hb hR;refine vs0 ?_;rw[(hR 22 jd:vs 22=_)];clear hR;have HB:=vh hb;clear hb;go_wp2_with fail;go_ret;exact⟨by simp[hL],HB.out⟩):P:=h
theorem vt59 {P:Prop}(h:P:=by
 rw[zbf h2 hcl j (by
  rcases Nat.lt_or_ge j k with h0 | h0
  ·exact h0
  ·rw[List.getElem?_eq_none jo] at hu;cases hu)]
 exact hu):P:=h
theorem vt60 {P:Prop}(h:P:=by
 cases hb:v.ownBlock with
 |none=>exact .inl hb
 |some g=>
  right;rw[hb,hu];intro e;injection e with e;have:=(hv.own.lt g hb).2;omega):P:=h
theorem vt61 {P:Prop}(h:P:=by
 have hh:a.eval (.tmp t) = .iface T v:=ht;unfold execOp;rw[ho];simp[resolve,invoke,callMethod,hh,hm w,Yq hf,Result.andThen]):P:=h
theorem vt62 {P:Prop}(h:P:=by
 refine vs1 ?_;unfold wpOps;go_wp2_with fail;go_roundg (gk - 1);case measure=>omega
 case rel=>exact⟨i+1,_,_,vj1,rfl,rfl,jo,HN⟩):P:=h
theorem vt63 {P:Prop}(h:P:=by
 have q0:¬((n1:Int)+(n2:Int)<0):=jo;go_wp2_with fail;go_roundg (gk - 1);case measure=>omega
 case rel=>exact⟨2,vj1,vj1,jo,rfl⟩):P:=h
theorem vt64 {P:Prop}(h:P:=by
 refine List.map_congr_left fun q hq=>?_;by_cases hl1:l+1<d
 ·rw[if_pos hl1,if_pos hl1,hold q hq hl1]
 ·rw[if_neg hl1,if_neg hl1]):P:=h
theorem vt65 {P:Prop}(h:P:=by
 refine vs1 ?_;unfold wpOps;go_wp2_with fail;go_roundg (gk - 1);case measure=>omega
 case rel=>exact⟨i+1,_,vj1,rfl,jo,HN2⟩):P:=h
theorem vt66 {P:Prop}(h:P:=by
 refine vs1 ?_;unfold wpOps;go_wp2_with fail;go_roundg (gk - 1);case measure=>omega
 case rel=>exact⟨i+1,_,vj1,rfl,jo,HN⟩):P:=h
theorem vt67 {P:Prop}(h:P:=by
 intro c hc;rcases List.mem_append.1 hc with h | h
 ·obtain⟨k,-,rfl⟩:=List.mem_map.1 h;rfl
 ·rw[List.eq_of_mem_replicate h];rfl):P:=h
theorem vt68 {P:Prop}(h:P:=by
 clear ho hg hor kn HJ c0 c1;go_wp2_with fail;go_roundg (gk - 1);case measure=>omega
 case rel=>exact⟨1,_,vj1,rfl,jo,HN⟩):P:=h
theorem vt69 {P:Prop}(h:P:=by
 clear ho hg hor kn HJ c0 c1;go_wp2_with fail;go_roundg (gk - 1);case measure=>omega
 case rel=>exact⟨2,_,vj1,rfl,jo,HN⟩):P:=h
theorem vt70 {P:Prop}(h:P:=by
 unfold execOp;rw[ho];simp only[zK,hx,Instr.loadAt,Instr.sureAddr,Sem.run_bind,Sem.run_pure,Result.andThen_ok,hl];rfl):P:=h
theorem zsK {P:Prop}(h:P:=by
 go_wp2_with (at_builtin;refine Lib.wpList_append_run _ rfl _ _ _ _ rfl _ _ rfl rfl _ _ r ?_);go_ret;exact⟨_,rfl,HO.1,HO.2⟩):P:=h
theorem vt72 {P:Prop}(h:P:=by
 have q0:¬((n1:Int)<0):=jo;go_wp2_with fail;go_roundg (gk - 1);case measure=>omega
 case rel=>exact⟨1,vj1,vj1,jo,rfl⟩):P:=h
theorem vt73 {P:Prop}(h:P:=by
 rw[Zr];exact⟨zO (zO (h6 j hj).1 jo) jo,zO (zO (h6 j hj).2 jo) jo⟩):P:=h
theorem vt74 {P:Prop}(h:P:=by
 show (Op.equalIn (Op.maxDepth - 1+1) t (.bool i) (.bool j)).run P w=_;rw[Op.equalIn,Sem.run_bind,run_underlying hu];rfl):P:=h
theorem vt75 {P:Prop}(h:P:=by
 by_cases e:j=t % m
 ·subst e;rw[yp];exact(List.getElem?_eq_some_iff.1 hat).1
 ·rw[YD k k' e];exact h.on j hj):P:=h
theorem vt76 {P:Prop}(h:P:=by
 exact fun aa ww hb he hd=>za rfl (zm (e:=vq7) (s:=vq8) (k:=i) rfl vk jo hd.1 hd.2.1)):P:=h
theorem vt77 {P:Prop}(h:P:=by
 induction l with
 |nil=>rfl
 |cons a l ih=>unfold smu at ih ⊢;rw[List.map_cons,List.sum_cons,ih,List.length_cons];omega):P:=h
theorem vt78 {P:Prop}(h:P:=by
 clear hb HJ;go_wp2_with fail;go_roundg (gk - 1);case measure=>omega
 case rel=>exact⟨i+1,n,_,vj1,rfl,jo,HN⟩):P:=h
theorem vt79 {P:Prop}(h:P:=by
 have HF:=vh (uh (zh4 ho) HJ.2.1);clear ho HJ c0 c1;go_wp2_with fail;go_ret;exact⟨_,rfl,HF.1,HF.2⟩):P:=h
theorem zpS {P:Prop}(h:P:=by
 exact fun aa ww hb he hd=>za rfl (zm (e:=vq7) (s:=vq8) (k:=q) rfl vk vj67 hd.1 hd.2.1)):P:=h
theorem vt81 {P:Prop}(h:P:=by
 go_wp2_with fail;go_roundg (G - 1);case measure=>omega
 case rel=>exact⟨i+1,_,_,vj1,rfl,rfl,jo,HKp.out b0⟩):P:=h
theorem vt82 {P:Prop}(h:P:=by
 by_cases e:j=t % m
 ·subst e;rw[yp];exact ud (h.le _ hj) hk
 ·rw[YD k k' e];exact h.le j hj):P:=h
theorem zpT {P:Prop}(h:P:=by
 go_wp2_with fail;go_roundg (G - 1);case measure=>omega
 case rel=>exact⟨i+1,_,_,vj1,rfl,rfl,jo,HFn.out 0⟩):P:=h
theorem vt84 {P:Prop}(h:P:=by
 have i1:(0:Int)≤(k:Int):=jo;have i2:(k:Int)<(n:Int):=jo;unfold execOp;rw[ho];simp only[zK,h,h2];go_simp):P:=h
theorem znD {P:Prop}(h:P:=by
 unfold wpOps;go_wp2_with fail;go_roundg (gk - 1);case measure=>omega
 case rel=>exact⟨i+1,vj1,jo,HN2⟩):P:=h
theorem zsL {P:Prop}(h:P:=by
 intro j b;simp only[Array.getD_eq_getD_getElem?,Array.getElem?_replicate,List.size_toArray];split <;> rfl):P:=h
theorem vt87 {P:Prop}(h:P:=by
 unfold wpOps;go_wp2_with fail;go_roundg (gk - 1);case measure=>omega
 case rel=>exact⟨q+1,vj1,jo,HK⟩):P:=h
theorem zhp {P:Prop}(h:P:=by
 exact zf rfl (fun aa ww hI hE he hd=>za rfl (zw (off:=2) rfl vk he.1))):P:=h
theorem vt89 {P:Prop}(h:P:=by
 exact⟨eI,eI,eI,eI,eI,eI,eI,eI,eI,eI,eI,eI,eI,eI,eI,eI,eI,fun _ _ _ h hb=>h.kd (KD.below hb),eI,uC⟩):P:=h
theorem vt90 {P:Prop}(h:P:=by
 go_wp2_with fail;go_roundg (gk - 1);case measure=>omega
 case rel=>exact⟨i+1,n+1,_,vj1,rfl,jo,HN⟩):P:=h
theorem vt91 {P:Prop}(h:P:=by
 exact fun aa ww hb he hd=>zn 19 rfl vk hd.1 (zi _ rfl ⟨he.1,ue _ _⟩)):P:=h
theorem zsM {P:Prop}(h:P:=by
 exact zf rfl (fun aa ww hI hE he hd=>za rfl (zi _ rfl ⟨he.2.1,ue _ _⟩))):P:=h
theorem zsN {P:Prop}(h:P:=by
 simp only[ZN,Bool.and_eq_true,decide_eq_true_eq,List.size_toArray] at hB;exact hB.1.1.1.1.1.1.1):P:=h
theorem vt94 {P:Prop}(h:P:=by
 go_wp2_with fail;go_roundg (gk - 1);case measure=>omega
 case rel=>exact⟨j+1,_,vj1,rfl,jo,HN⟩):P:=h
theorem zpU {P:Prop}(h:P:=by
 exact fun aa ww hb he hd=>za rfl (zd rfl vk hd.1 (Blk.at2 HJ8.2.2.1 hb))):P:=h
theorem vt96 {P:Prop}(h:P:=by
 subst e;rcases Nat.eq_zero_or_pos n with h0 | h0
 ·exact h0
 ·obtain⟨ad,cs,e1,_⟩:=hrd.2 h0;cases e1):P:=h
theorem vt97 {P:Prop}(h:P:=by
 have HB2:=vh (ze HB1.out hb HB1.size);clear hb;go_wp2_with fail;go_ret;exact⟨rfl,HB2.out⟩):P:=h
theorem vt98 {P:Prop}(h:P:=by
 go_wp2_with fail;go_roundg (gk - 1);case measure=>omega
 case rel=>exact⟨j+1,_,_,vj1,jo,HN2⟩):P:=h
theorem vt99 {P:Prop}(h:P:=by
 exact fun aa ww hb he hd=>za rfl (YF false _ _ _ rfl hd.1 ⟨hd.2.1,ue _ _⟩)):P:=h
theorem zqt {P:Prop}(h:P:=by
 exact fun aa ww hb he hd=>za rfl (zd rfl vk hd.1 (Blk.at2 HF8.out hb))):P:=h
theorem zqu {P:Prop}(h:P:=by
 rw[World.cell?_of_block (hg.block p.block (zh hp) (fun e=>hne (by injection e)))];exact hp):P:=h
theorem zqv {P:Prop}(h:P:=by
 rw[List.take_add_one,List.getElem?_set_self jo,List.take_set_of_le (ug _)];rfl):P:=h
theorem zqw {P:Prop}(h:P:=by
 rcases h.own.2 with ⟨e1,hz⟩ | ⟨g2,cap2,cur,e1,_⟩
 ·omega
 ·injection e1 with e1 _ _;exact⟨g2,e1⟩):P:=h
theorem znE {P:Prop}(h:P:=by
 go_wp2_with fail;go_roundg (gk - 1);case measure=>omega
 case rel=>exact⟨i+1,vj1,jo,rfl⟩):P:=h
theorem zfg {P:Prop}(h:P:=by
 go_wp2_with fail;go_roundg (gk - 1);case measure=>omega
 case rel=>exact⟨i+1,vj1,jo,HN2⟩):P:=h
theorem znF {P:Prop}(h:P:=by
 go_wp2_with fail;go_roundg (gk - 1);case measure=>omega
 case rel=>exact⟨i+1,vj1,jo,HN⟩):P:=h
theorem zjH {P:Prop}(h:P:=by
 go_wp2_with fail;go_roundg (gk - 1);case measure=>omega
 case rel=>exact⟨i+1,vj1,jo,HK⟩):P:=h
theorem zqx {P:Prop}(h:P:=by
 by_cases e:i=v
 ·subst e;simp[yv]
 ·rw[List.getElem_set_ne (fun e2=>e e2.symm)];simp[yv,e]):P:=h
theorem znG {P:Prop}(h:P:=by
 rintro e w2 ⟨rfl,hb⟩;have HW:=vh hb;clear hb;go_wp2_with fail;go_ret;exact⟨rfl,HW.out⟩):P:=h
theorem zqy {P:Prop}(h:P:=by
 rintro e w' ⟨u,he,⟨A',c',hu,hc',hrd'⟩,hb⟩;exact⟨u,he,⟨A',n,c',hu,hc',hrd',⟨hn,hn6⟩,h9⟩,hb⟩):P:=h
theorem zqz {P:Prop}(h:P:=by
 rcases List.mem_append.1 hx with h1 | h1
 ·exact hV x h1
 ·rw[List.mem_singleton.1 h1];omega):P:=h
theorem zqA {P:Prop}(h:P:=by
 exact fun aa ww hb he hd=>za rfl (zw (off:=2) rfl vk he.2.2.2.1)):P:=h
theorem zqB {P:Prop}(h:P:=by
 exact⟨eI,fun _ _ _ ⟨b,A,k,c,h1,h2⟩ hb=>⟨b,A,k,c,h1,h2.keepN (KeepsN.below hb)⟩,uC⟩):P:=h
theorem znH {P:Prop}(h:P:=by
 obtain⟨A,n,c,e,h1,h2,h3⟩:=h;exact⟨A,n,c,e,h1,h2.kd k (List.contains_iff_mem.1 ht),h3⟩):P:=h
theorem zqC {P:Prop}(h:P:=by
 rcases Nat.eq_zero_or_pos m with h0 | h0
 ·exact h0
 ·obtain⟨ad,h,_⟩:=hr.2 h0;cases h):P:=h
theorem zqD {P:Prop}(h:P:=by
 rcases h.own.2 with ⟨e,h0⟩ | ⟨g,cap,cur,e,_,_,h1,_⟩
 ·cases e;omega
 ·cases e;exact h1):P:=h
theorem zqE {P:Prop}(h:P:=by
 exact fun aa ww hb he hd=>za rfl (zw (off:=2) rfl vk hd.1)):P:=h
theorem zhq {P:Prop}(h:P:=by
 exact fun aa ww hb he hd=>za rfl (zw (off:=2) rfl vk he.1)):P:=h
theorem zqF {P:Prop}(h:P:=by
 unfold ZA;rw[List.take_add_one,List.filter_append,ul];simp[hj,hm]):P:=h
theorem zqG {P:Prop}(h:P:=by
 exact fun aa ww hb he hd=>zn 19 rfl vk hd.1 (Ym rfl hd.2.1)):P:=h
theorem zhr {P:Prop}(h:P:=by
 intro m;induction m with
 |zero=>rfl
 |succ m ih=>rw[yC,if_neg vz];exact ih):P:=h
theorem zqH {P:Prop}(h:P:=by
 obtain⟨h1,h2⟩:=List.getElem?_eq_some_iff.1 hk;rw[List.drop_eq_getElem_cons h1,h2]):P:=h
theorem zqI {P:Prop}(h:P:=by
 exact⟨eI,fun _ _ _ ⟨cs',f',h1,h2,h3⟩ hb=>⟨cs',f',h1,h2.below hb vj3,h3⟩,uC⟩):P:=h
theorem zqJ {P:Prop}(h:P:=by
 rw[Yg];exact⟨zO (h6 j hj).1 jo,zO (h6 j hj).2 jo⟩):P:=h
theorem znI {P:Prop}(h:P:=by
 exact⟨eI,eI,eI,eI,eI,fun _ _ _ ⟨g,h1,h2,h3⟩ hb=>⟨g,h1,h2,h3.keep hb⟩,uC⟩):P:=h
theorem zjI {P:Prop}(h:P:=by
 exact fun aa ww hb he hd=>za rfl (zoP rfl vk rfl hd.1)):P:=h
theorem zqK {P:Prop}(h:P:=by
 unfold execOp;rw[ho];simp[resolve,Deferred.ofValue,invoke,hh,Yq hf]):P:=h
theorem zjJ {P:Prop}(h:P:=by
 intro a b others csa csb vo n32 w ha hbf ho wa wb wo hn32 hrows hmu;exact vm3):P:=h
theorem znJ {P:Prop}(h:P:=by
 go_wp2_with fail;go_ret;first | exact⟨rfl,HI.2⟩ | exact⟨by rw[e9];rfl,HI.2⟩):P:=h
theorem zqL {P:Prop}(h:P:=by
 unfold zT;have:=zbk (rs.map (·.take l));rwa [uy] at this):P:=h
theorem zqM {P:Prop}(h:P:=by
 rw[hq.den];refine(zou R h.wf hf hn ho x).trans ?_;rw[←h.prd x,hd];rfl):P:=h
theorem zqN {P:Prop}(h:P:=by
 exact fun aa ww hb he hd=>za rfl (vr17 jo rfl hd.1 hd.2.1)):P:=h
theorem znK {P:Prop}(h:P:=by
 go_wp2_with fail;go_ret;exact⟨_,rfl,fun h0=>absurd h0 jd,HJ5.1⟩):P:=h
theorem zqO {P:Prop}(h:P:=by
 rcases List.mem_or_eq_of_mem_set hc with h | h
 ·exact h1 c h
 ·rw[h];rfl):P:=h
theorem znL {P:Prop}(h:P:=by
 exact⟨eI,eI,eI,fun _ _ _ ⟨g,h1,h2,h3⟩ hb=>⟨g,h1,h2,h3.keep hb⟩,uC⟩):P:=h
theorem zfh {P:Prop}(h:P:=by
 refine zo _ ?_ hK;exact zfi):P:=h
theorem zqP {P:Prop}(h:P:=by
 unfold execOp;rw[ho];simp only[zK,hm,hk];simp[hr,Result.andThen]):P:=h
theorem znM {P:Prop}(h:P:=by
 rcases Nat.lt_or_ge i listed.size with h | h
 ·exact h
 ·simp[h] at hun):P:=h
theorem zef {P:Prop}(h:P:=by
 unfold zp;rw[hr];exact⟨⟨_,rfl,ug _,Blk.new _ _ _⟩,al _ _⟩):P:=h
theorem znN {P:Prop}(h:P:=by
 go_wp2_with fail;go_ret;exact⟨_,rfl,OwnC.nil _ _ _ _,ue _ _⟩):P:=h
theorem zjK {P:Prop}(h:P:=by
 intro g A1 A2 n1 ca n2 cb cl1 cl2 w hb h1 h2 hok1 hok2 hn;exact vm13):P:=h
theorem znO {P:Prop}(h:P:=by
 rw[e];unfold execOp;rw[ho];simp only[zK,ZM,hx];go_simp):P:=h
theorem zcX {P:Prop}(h:P:=by
 exact⟨eI,eI,fun _ _ _ ⟨g,h1,h2,h3⟩ hb=>⟨g,h1,h2,h3.keep hb⟩,uC⟩):P:=h
theorem znP {P:Prop}(h:P:=by
 unfold execOp;rw[ho];simp only[zK,h];simp[Instr.extract,hx]):P:=h
theorem zjL {P:Prop}(h:P:=by
 intro a u c b ovs uvs rs all w ha hr hu hvs hva hall hl;exact vm1):P:=h
theorem znQ {P:Prop}(h:P:=by
 go_enter Tryz.func163,Tryz.ntmps163;go_wp2;go_ret;exact⟨rfl,rfl⟩):P:=h
theorem zjM {P:Prop}(h:P:=by
 intro m;induction m with
 |zero=>rfl
 |succ m ih=>rw[left,ih];rfl):P:=h
theorem znR {P:Prop}(h:P:=by
 exact fun aa ww hb he hd=>za rfl (zr0 rfl hd.1 hd.2.1)):P:=h
theorem znS {P:Prop}(h:P:=by
 go_enter Tryz.func41,Tryz.ntmps41;go_wp2;go_ret;exact⟨rfl,rfl⟩):P:=h
theorem znT {P:Prop}(h:P:=by
 go_enter Tryz.func42,Tryz.ntmps42;go_wp2;go_ret;exact⟨rfl,rfl⟩):P:=h
theorem zjN {P:Prop}(h:P:=by
 intro fs n vf w hn31 h hw hok hcov hfew hL1 hL2 hfl;exact vm6):P:=h
theorem zjO {P:Prop}(h:P:=by
 intro fs n vf w hn31 h hw hok hcov hfew hL1 hL2 hfl;exact vm9):P:=h
theorem zhs {P:Prop}(h:P:=by
 exact fun aa ww hb he hd=>za rfl (Ym rfl hd.1)):P:=h
theorem zjP {P:Prop}(h:P:=by
 intro fs n32 v vf w h hw hn32 hv32 hne hL1 hL2 hfl;exact vm5):P:=h
theorem znU {P:Prop}(h:P:=by
 clear h1 h2;go_wp2_with fail;go_ret;exact⟨_,rfl,HR.1,HR.2⟩):P:=h
theorem znV {P:Prop}(h:P:=by
 exact fun aa ww hb he hd=>za rfl (zoO rfl hd.1)):P:=h
theorem znW {P:Prop}(h:P:=by
 go_wp2_with fail;go_ret;exact⟨zbR (by rw[HI,HE]),rfl⟩):P:=h
theorem zcY {P:Prop}(h:P:=by
 unfold zp;rw[hr];exact⟨⟨_,rfl,Blk.new _ _ _⟩,al _ _⟩):P:=h
theorem zjQ {P:Prop}(h:P:=by
 intro a b C' n vs rs C cc w ha hr hv hl hs;exact vm11):P:=h
theorem zjR {P:Prop}(h:P:=by
 intro a c ad1 rc g1 i k rs W hb hr hi hk;exact vm14):P:=h
theorem znX {P:Prop}(h:P:=by
 unfold execOp;rw[ho];simp only[zK,h];go_simp):P:=h
theorem zjS {P:Prop}(h:P:=by
 intro S R out vf fs w hout h hvs hne;exact vm10):P:=h
theorem znY {P:Prop}(h:P:=by
 have:=(List.mem_filter.1 h).1;simpa using this):P:=h
theorem znZ {P:Prop}(h:P:=by
 rw[h5] at h6;injection h6 with h6;injection h6):P:=h
theorem zfi {P:Prop}(h:P:=by
 unfold execOp;rw[ho];simp only[hx,hy];go_simp):P:=h
theorem zjT {P:Prop}(h:P:=by
 intro N val caps vf ats w h hN hval;exact vm8):P:=h
theorem vi0 {P:Prop}(h:P:=by exact fun _ _ _ he hd=>yM rfl rfl he.1):P:=h
theorem vi1 {P:Prop}(h:P:=by exact fun _ _ _ he hd=>yM rfl rfl he.2.1):P:=h
theorem vi2 {P:Prop}(h:P:=by exact fun _ _ _ he hd=>yM rfl rfl hd.1):P:=h
theorem vi3 {P:Prop}(h:P:=by exact fun aa ww hb he hd=>za rfl (YO _ rfl ⟨hd.1,ue _ _⟩)):P:=h
theorem vi4 {P:Prop}(h:P:=by exact fun _ _ _ he hd=>yM rfl rfl he.2.2.1):P:=h
theorem vi5 {P:Prop}(h:P:=by exact fun aa ww hb he hd=>za rfl (Ym rfl hd.1)):P:=h
theorem vi6 {P:Prop}(h:P:=by exact fun aa ww hb he hd=>za rfl (Ze rfl vk hd.1)):P:=h
theorem vi7 {P:Prop}(h:P:=by exact fun aa ww hb he hd=>za rfl (YF false _ _ _ rfl hd.1 ⟨hd.2.1,ue _ _⟩)):P:=h
theorem vi8 {P:Prop}(h:P:=by exact fun aa ww hb he hd=>za rfl (zaK rfl hd.1 rfl)):P:=h
theorem vi9 {P:Prop}(h:P:=by exact fun aa ww hb he hd=>Zw 55 rfl vk hd.1 rfl):P:=h
theorem zbd {P:Prop}(h:P:=by exact fun aa ww hb he hd=>za rfl (YF true _ _ _ rfl hd.1 ⟨hd.2.1,ue _ _⟩)):P:=h
theorem zbp {P:Prop}(h:P:=by exact fun _ _ _ he hd=>yM rfl rfl he.2.2.2.1):P:=h
theorem zcj {P:Prop}(h:P:=by exact fun aa ww hb he hd=>za rfl (zw (off:=2) rfl vk hd.1)):P:=h
theorem zcG {P:Prop}(h:P:=by exact fun aa ww hb he hd=>za rfl (ZH (off:=0) rfl vk hd.1)):P:=h
theorem zcH {P:Prop}(h:P:=by exact fun aa ww hb he hd=>za rfl (zw (off:=0) rfl vk he.1)):P:=h
theorem zcI {P:Prop}(h:P:=by exact fun aa ww hb he hd=>za rfl (zg (cs:=[]) rfl vk vk he.1 (fun j u hj=>by simp at hj))):P:=h
theorem zeg {P:Prop}(h:P:=by exact fun aa ww hb he hd=>za rfl (zw (off:=1) rfl vk he.1)):P:=h
theorem zeh {P:Prop}(h:P:=by exact fun aa ww hb he hd=>Zw 12 rfl vk hd.1 rfl):P:=h
theorem zei {P:Prop}(h:P:=by exact fun aa ww hb he hd=>za rfl (zkY rfl vk hd.1)):P:=h
theorem zht {P:Prop}(h:P:=by exact fun aa ww hb he hd=>za rfl (zm (e:=87) (s:=1) (k:=i) rfl vk jo hd.1 hd.2.1)):P:=h
theorem zet {P:Prop}(h:P:=by exact fun aa ww hb he hd=>Zw 10 rfl vk hd.1 rfl):P:=h
theorem zeu {P:Prop}(h:P:=by exact fun aa ww hb he hd=>za rfl (zm (e:=100) (s:=2) (k:=k) rfl vk jo hd.1 hd.2.1)):P:=h
theorem zev {P:Prop}(h:P:=by exact fun aa ww hb he hd=>Zw 75 rfl vk hd.1 rfl):P:=h
theorem zf4 {P:Prop}(h:P:=by exact fun _ _ _ he hd=>yM rfl rfl he.2.2.2.2.1):P:=h
theorem ziA {P:Prop}(h:P:=by exact fun aa ww hb he hd=>za rfl (zm (e:=89) (s:=3) (k:=i) rfl vk jo hd.1 hd.2.1)):P:=h
theorem zhu {P:Prop}(h:P:=by exact fun aa ww hb he hd=>za rfl (zw (off:=1) rfl vk hd.1)):P:=h
theorem ziB {P:Prop}(h:P:=by exact fun aa ww hb he hd=>za rfl (Yu (off:=0) rfl vk (by rfl) hd.1)):P:=h
theorem zhv {P:Prop}(h:P:=by exact fun aa ww hb he hd=>za rfl (YF true _ _ _ rfl hd.1 ⟨rfl,ue _ _⟩)):P:=h
theorem ziC {P:Prop}(h:P:=by exact fun aa ww hb he hd=>za rfl (zd rfl vk hd.1 (((HJ4.1.trans (hb.mono HJ4.1.size)).cell (zh HCo.out)).trans HCo.out))):P:=h
theorem zpV {P:Prop}(h:P:=by exact fun aa ww hb he hd=>za rfl (zk (zP (e:=3) (k:=1) rfl vk vk jo hd.1 rfl) (fun _ _ ⟨⟨g,h1,h2,h3⟩,h4⟩=>⟨⟨g,h1,ud hb.size h2,h3⟩,h4⟩))):P:=h
theorem zk4 {P:Prop}(h:P:=by exact fun aa ww hb he hd=>za rfl (YK true _ _ rfl hd.1 ⟨rfl,ue _ _⟩)):P:=h
theorem zpW {P:Prop}(h:P:=by exact fun aa ww hb he hd=>za rfl (zk (zP (e:=89) (k:=3) rfl vk vk jo hd.1 rfl) (fun _ _ ⟨⟨g,h1,h2,h3⟩,h4⟩=>⟨⟨g,h1,ud hb.size h2,h3⟩,h4⟩))):P:=h
theorem zk5 {P:Prop}(h:P:=by exact fun aa ww hb he hd=>Zw 43 rfl vk hd.1 rfl):P:=h
theorem zk6 {P:Prop}(h:P:=by exact fun aa ww hb he hd=>Zw 31 rfl vk hd.1 rfl):P:=h
theorem zk7 {P:Prop}(h:P:=by exact fun aa ww hb he hd=>za rfl (zw (off:=0) rfl vk hd.1)):P:=h
theorem zk8 {P:Prop}(h:P:=by exact fun aa ww hb he hd=>Zw 50 rfl vk hd.1 rfl):P:=h
theorem zn0 {P:Prop}(h:P:=by exact fun aa ww hb he hd=>za rfl (zm (e:=3) (s:=1) (k:=i) rfl vk jo hd.1 hd.2.1)):P:=h
theorem zn1 {P:Prop}(h:P:=by exact fun aa ww hb he hd=>za rfl (zd rfl vk hd.1 (by rw[Nat.mul_one];exact((HJ4.1.trans (hb.mono HJ4.1.size)).cell (zh HCa.out)).trans HCa.out))):P:=h
theorem zn2 {P:Prop}(h:P:=by exact fun aa ww hb he hd=>za rfl (by obtain⟨v,h1,h2⟩:=hd.1;exact zaK rfl h1 rfl)):P:=h
theorem zn3 {P:Prop}(h:P:=by exact fun aa ww hb he hd=>za rfl (zhi jo rfl hd.1)):P:=h
theorem zpX {P:Prop}(h:P:=by exact fun aa ww hb he hd=>za rfl (zZ ((i:Int)) ((p2:Int)) .i64 _ _ _ _ rfl hd.1 hd.2.1 ⟨ut Value.bool (decide_eq_true jo),ue _ _⟩)):P:=h
theorem zpY {P:Prop}(h:P:=by exact fun aa ww hb he hd=>zn 31 rfl vk hd.1 (zi _ rfl ⟨he.2.1,ue _ _⟩)):P:=h
theorem zpZ {P:Prop}(h:P:=by exact fun aa ww hb he hd=>zn 31 rfl vk hd.1 (zi _ rfl ⟨he.1,ue _ _⟩)):P:=h
theorem zp0 {P:Prop}(h:P:=by exact fun aa ww hb he hd=>zn 31 rfl vk hd.1 (zm (e:=3) (s:=1) (k:=i) rfl vk jo hd.2.1 hd.2.2.1)):P:=h
theorem zp1 {P:Prop}(h:P:=by exact fun aa ww hb he hd=>zn 31 rfl vk hd.1 (zd rfl vk hd.2.1 (by rw[Nat.mul_one];exact(hb.cell (zh HCa.out)).trans HCa.out))):P:=h
theorem zp2 {P:Prop}(h:P:=by exact fun aa ww hb he hd=>zn 31 rfl vk hd.1 (zi _ rfl ⟨he.2.2.1,ue _ _⟩)):P:=h
theorem zp3 {P:Prop}(h:P:=by exact fun aa ww hb he hd=>za rfl (zZ ((k:Int)) ((q2:Int)) .i64 _ _ _ _ rfl hd.1 hd.2.1 ⟨ut Value.bool (decide_eq_true jo),ue _ _⟩)):P:=h
theorem zp4 {P:Prop}(h:P:=by exact fun aa ww hb he hd=>zn 43 rfl vk hd.1 (zi _ rfl ⟨he.2.2.2.2.1,ue _ _⟩)):P:=h
theorem zp5 {P:Prop}(h:P:=by exact fun aa ww hb he hd=>zn 43 rfl vk hd.1 (zi _ rfl ⟨he.2.2.2.1,ue _ _⟩)):P:=h
theorem zp6 {P:Prop}(h:P:=by exact fun aa ww hb he hd=>zn 43 rfl vk hd.1 (zm (e:=3) (s:=1) (k:=k) rfl vk jo hd.2.1 hd.2.2.1)):P:=h
theorem zp7 {P:Prop}(h:P:=by exact fun aa ww hb he hd=>zn 43 rfl vk hd.1 (zd rfl vk hd.2.1 (by rw[Nat.mul_one];exact(hb.cell (zh HCb.out)).trans HCb.out))):P:=h
theorem zp8 {P:Prop}(h:P:=by exact fun aa ww hb he hd=>zn 43 rfl vk hd.1 (zi _ rfl ⟨he.2.2.1,ue _ _⟩)):P:=h
theorem zp9 {P:Prop}(h:P:=by exact fun aa ww hb he hd=>za rfl (YF false _ _ _ rfl hd.1 ⟨rfl,ue _ _⟩)):P:=h
theorem zqa {P:Prop}(h:P:=by exact fun aa ww hb he hd=>za rfl (zd rfl vk hd.1 ((hb.cell (zh HCx.out)).trans HCx.out))):P:=h
theorem zqb {P:Prop}(h:P:=by exact fun aa ww hb he hd=>za rfl (zd rfl vk hd.1 (by rw[Nat.mul_one];exact(hb.cell (zh HCu.out)).trans HCu.out))):P:=h
theorem zqc {P:Prop}(h:P:=by exact fun aa ww hb he hd=>Zw 44 rfl vk hd.1 rfl):P:=h
theorem vi56 {P:Prop}(h:P:=by exact fun aa ww hb he hd=>za rfl (zg (cs:=[.int .i64 (nV:Int),rr]) rfl vk vk he.2.2.1 (Blk.at_k (off:=0) (l:=[.int .i64 (nV:Int),rr]) HS.2.2.2.1.2.2 rfl hb))):P:=h
theorem vi57 {P:Prop}(h:P:=by exact fun aa ww hb he hd=>za rfl (yR (cells:=#[.slice AV mV cV,.int .i64 (nV:Int),rr]) rfl hd.1 hd.2.1 (znn _ _ _ _ _))):P:=h
theorem vi58 {P:Prop}(h:P:=by exact fun aa ww hb he hd=>za rfl (zk (zP (e:=95) (k:=3) rfl vk vk jo hd.1 rfl) (fun _ _ ⟨⟨g,h1,h2,h3⟩,h4⟩=>⟨⟨g,h1,ud hb.size h2,h3⟩,h4⟩))):P:=h
theorem vi59 {P:Prop}(h:P:=by exact fun aa ww hb he hd=>za rfl (zg (cs:=[.int .i64 (nV:Int),rr]) rfl vk vk he.2.2.1 (Blk.at_k (off:=0) (l:=[.int .i64 (nV:Int),rr]) HS2.2.2.2.1.2.2 rfl hb))):P:=h
theorem vi60 {P:Prop}(h:P:=by exact fun aa ww hb he hd=>za rfl (zq _ _ _ rfl vk (by rw[show aa.eval (.tmp 114) = .agg #[.int .i64 (nV:Int),rr] from hd.1];exact(zcw (nV:Int) rr zs ww (RowsV.below HS2.2.2.2.1.2.1 hb)).mono fun e w0 ⟨v0,q1,q2,q3⟩=>⟨v0,q1,q2.sls (by have:=HZ.2.2;omega),q3⟩))):P:=h
theorem vi61 {P:Prop}(h:P:=by exact fun aa ww hb he hd=>za rfl (zq _ _ _ rfl vk ((zkR _ zs ww hd.1).mono fun e w0 ⟨a0,b0,c0,q1,q2⟩=>⟨_,q1,⟨a0,b0,c0,rfl⟩,q2⟩))):P:=h
theorem vi62 {P:Prop}(h:P:=by exact fun aa ww hb he hd=>za rfl (by obtain⟨a0,b0,c0,e0⟩:=hd.2.1;exact zk (yR (cells:=#[.slice AV mV cV,.slice a0 b0 c0]) rfl hd.1 e0 (zkS _ _ _ _ _ _)) (fun _ _ ⟨q1,q2⟩=>⟨⟨a0,b0,c0,q1⟩,q2⟩))):P:=h
theorem vi63 {P:Prop}(h:P:=by exact fun aa ww hb he hd=>za rfl (by obtain⟨A9,n9,c9,e9⟩:=hd.1;exact zk (zP (e:=100) (k:=2) rfl vk vk jo e9 rfl) (fun _ _ ⟨⟨g9,q1,q2,q3⟩,q4⟩=>⟨⟨g9,A9,n9,c9,q1,q3⟩,q4⟩))):P:=h
theorem vi64 {P:Prop}(h:P:=by exact fun aa ww hb he hd=>za rfl (zm (e:=89) (s:=3) (k:=k) rfl vk jo hd.1 hd.2.1)):P:=h
theorem zsO {P:Prop}(h:P:=by exact fun aa ww hb he hd=>zn 31 rfl vk hd.1 (zW ((v:Int)) ((v:Int)) .i64 _ _ _ _ rfl hd.2.1 hd.2.2.1 ⟨ut Value.bool vz,ue _ _⟩)):P:=h
theorem zsP {P:Prop}(h:P:=by exact fun aa ww hb he hd=>zn 43 rfl vk hd.1 (zW ((v:Int)) ((v:Int)) .i64 _ _ _ _ rfl hd.2.1 hd.2.2.1 ⟨ut Value.bool vz,ue _ _⟩)):P:=h
theorem vi67 {P:Prop}(h:P:=by exact fun aa ww hb he hd=>za rfl (zg (cs:=[.int .i64 1,.int .i64 (zv x i),.string S0]) rfl vk vk hd.1 (fun j u hj=>(hb.cell (zh (HC3.out j u hj))).trans (HC3.out j u hj)))):P:=h
theorem zsQ {P:Prop}(h:P:=by exact fun aa ww hb he hd=>za rfl (zm (e:=vq1) (s:=3) (k:=i) rfl vk jo he.1 he.2.1)):P:=h
theorem zsR {P:Prop}(h:P:=by exact fun aa ww hb he hd=>za rfl (Zh L 1 l rfl hd.1 rfl (by have:=HL.out;omega) (by have:=HL.out;omega))):P:=h
theorem zsS {P:Prop}(h:P:=by exact fun aa ww hb he hd=>za rfl (zd0 z 1 rfl hd.1 rfl)):P:=h
theorem zsT {P:Prop}(h:P:=by exact fun aa ww hb he hd=>za rfl (zd rfl vk he.1 (((HB1.trans (hb.mono HB1.size)).cell (zh HP.out)).trans HP.out))):P:=h
theorem zsU {P:Prop}(h:P:=by exact fun aa ww hb he hd=>za rfl (zm (e:=170) (s:=1) (k:=0) rfl vk jo hd.1 rfl)):P:=h
theorem zsV {P:Prop}(h:P:=by exact fun aa ww hb he hd=>za rfl (zg (cs:=[.slice UA un uc,.int .i64 (un:Int),.slice RA rn rc]) rfl vk vk hd.1 (fun j u hj=>(hb.cell (zh (HC.out j u hj))).trans (HC.out j u hj)))):P:=h
theorem zsW {P:Prop}(h:P:=by exact fun aa ww hb he hd=>za rfl (zd rfl vk hd.1 (((HJ.1.trans (hb.mono HJ.1.size)).cell (zh HCo.out)).trans HCo.out))):P:=h
theorem zsX {P:Prop}(h:P:=by exact fun aa ww hb he hd=>za rfl (zm (e:=3) (s:=1) (k:=p) rfl vk jo hd.1 hd.2.1)):P:=h
theorem zsY {P:Prop}(h:P:=by exact fun aa ww hb he hd=>za rfl (zk (zP (e:=87) (k:=1) rfl vk vk jo hd.1 rfl) (fun _ _ ⟨⟨g,h1,h2,h3⟩,h4⟩=>⟨⟨g,h1,ud hb.size h2,h3⟩,h4⟩))):P:=h
theorem zsZ {P:Prop}(h:P:=by exact fun aa ww hb he hd=>za rfl (zk (zP (e:=vq1) (k:=3) rfl vk vk jo hd.1 rfl) (fun _ _ ⟨⟨g,h1,h2,h3⟩,h4⟩=>⟨⟨g,h1,ud hb.size h2,h3⟩,h4⟩))):P:=h
theorem zs0 {P:Prop}(h:P:=by exact fun aa ww hb he hd=>zn 46 rfl vk hd.1 (zi _ rfl ⟨he.2.1,ue _ _⟩)):P:=h
theorem vi79 {P:Prop}(h:P:=by exact fun aa ww hb he hd=>za rfl (zd rfl vk hd.1 (by rw[Nat.mul_one];exact(hb.cell (zh HC.out)).trans HC.out))):P:=h
theorem vi80 {P:Prop}(h:P:=by exact fun aa ww hb he hd=>za rfl (ZH (off:=1) rfl vk hd.1)):P:=h
theorem vi81 {P:Prop}(h:P:=by exact fun aa ww hb he hd=>za rfl (ZH (off:=2) rfl vk hd.1)):P:=h
theorem vi82 {P:Prop}(h:P:=by exact fun aa ww hb he hd=>za rfl (zd rfl vk hd.1 (by rw[Addr.add_add];exact(hb.cell (zh HC.2.2)).trans HC.2.2))):P:=h
theorem vi83 {P:Prop}(h:P:=by exact fun aa ww hb he hd=>za rfl (zg (cs:=[.int .i64 1,.int .i64 (zv y k),.string S0]) rfl vk vk hd.1 (fun j u hj=>(hb.cell (zh (HC3.out j u hj))).trans (HC3.out j u hj)))):P:=h
theorem vi84 {P:Prop}(h:P:=by exact fun aa ww hb he hd=>za rfl (zd rfl vk hd.1 (Blk.at1 (HF.keep HK.out) hb))):P:=h
theorem vi85 {P:Prop}(h:P:=by exact fun aa ww hb he hd=>za rfl (zok (x:=zr xo.vars) hv32 rfl hd.1 hd.2.1)):P:=h
theorem vi86 {P:Prop}(h:P:=by exact fun aa ww hb he hd=>za rfl (zol (x:=zr xo.vars) hsb rfl hd.1)):P:=h
theorem vi87 {P:Prop}(h:P:=by exact fun aa ww hb he hd=>za rfl (zW (((if (zr xo.vars).testBit v then 1 else 0:Nat):Int)) 1 .u32 _ _ _ _ rfl hd.1 rfl ⟨ut Value.bool (by rw[HTb];cases tb <;> rfl),ue _ _⟩)):P:=h
theorem vi88 {P:Prop}(h:P:=by exact fun aa ww hb he hd=>za rfl (zw (off:=1) rfl vk he.2.2.1)):P:=h
theorem vi89 {P:Prop}(h:P:=by exact fun aa ww hb he hd=>za rfl (zd rfl vk hd.1 (Blk.at1 HJ.2.1 hb))):P:=h
theorem vi90 {P:Prop}(h:P:=by exact fun aa ww hb he hd=>za rfl (by rw[HTb];exact zdS vr3 _ _ _ _ rfl hd.1 vk hd.2.1 hd.2.2.1 (zU (vr4 HU1.2 HU0.2 hb)))):P:=h
theorem vi91 {P:Prop}(h:P:=by exact fun aa ww hb he hd=>za rfl (zm (e:=vr1) (s:=1) (k:=j) rfl vk jo hd.1 hd.2.1)):P:=h
theorem vi92 {P:Prop}(h:P:=by exact fun aa ww hb he hd=>za rfl (zd rfl vk hd.1 (by rw[adm,Nat.zero_add];exact(hb.cell (zh HU.1)).trans HU.1))):P:=h
theorem vi93 {P:Prop}(h:P:=by exact fun aa ww hb he hd=>za rfl (zq _ _ _ rfl vk (by rw[show aa.eval (.tmp 28) = .slice RA m rc from hd.1];exact id (zdO _ x ww (HU.2.below hb))))):P:=h
theorem vi94 {P:Prop}(h:P:=by exact fun aa ww hb he hd=>za rfl (yR (cells:=#[.int .i64 (ar:Int),.slice A5 n c5]) rfl hd.1 hd.2.1 vk)):P:=h
theorem vi95 {P:Prop}(h:P:=by exact fun aa ww hb he hd=>zn 5 rfl vk hd.1 (zi _ rfl ⟨he.1,ue _ _⟩)):P:=h
theorem vi96 {P:Prop}(h:P:=by exact fun aa ww hb he hd=>zn 5 rfl vk hd.1 (Ym rfl hd.2.1)):P:=h
theorem vi97 {P:Prop}(h:P:=by exact fun aa ww hb he hd=>zn 5 rfl vk hd.1 (zw (off:=1) rfl vk hd.2.1)):P:=h
theorem vi98 {P:Prop}(h:P:=by exact fun aa ww hb he hd=>zn 5 rfl vk hd.1 (zd rfl vk hd.2.1 (ItB.lv (HI.below hb)))):P:=h
theorem vi99 {P:Prop}(h:P:=by exact fun aa ww hb he hd=>zn 5 rfl vk hd.1 (yi ((L:Int)) 0 .i64 _ _ _ _ rfl hd.2.1 rfl ⟨ut Value.bool (l0),ue _ _⟩)):P:=h
theorem zqQ {P:Prop}(h:P:=by exact fun aa ww hb he hd=>zn 12 rfl vk hd.1 (zi _ rfl ⟨he.1,ue _ _⟩)):P:=h
theorem zqR {P:Prop}(h:P:=by exact fun aa ww hb he hd=>zn 12 rfl vk hd.1 (Ym rfl hd.2.1)):P:=h
theorem zqS {P:Prop}(h:P:=by exact fun aa ww hb he hd=>zn 12 rfl vk hd.1 (zw (off:=2) rfl vk hd.2.1)):P:=h
theorem zqT {P:Prop}(h:P:=by exact fun aa ww hb he hd=>za rfl (zm (e:=205) (s:=2) (k:=l) rfl vk jo hd.1 hd.2.1)):P:=h
theorem zqU {P:Prop}(h:P:=by exact fun aa ww hb he hd=>za rfl (zw (off:=68) rfl vk hd.1)):P:=h
theorem zqV {P:Prop}(h:P:=by exact fun aa ww hb he hd=>za rfl (zd rfl vk hd.1 (by have hh:=(ItB.at_k (HI.below (ze HB2.out hb HB2.size))) 0 _ rfl;rw[Addr.add_mid] at hh;exact hh))):P:=h
theorem zqW {P:Prop}(h:P:=by exact fun aa ww hb he hd=>za rfl (zd rfl vk hd.1 (by have hh:=(ItB.at_k (HI.below (ze HB4.out hb HB4.size))) 0 _ rfl;rw[Addr.add_mid] at hh;exact hh))):P:=h
theorem zqX {P:Prop}(h:P:=by exact fun aa ww hb he hd=>za rfl (by obtain⟨A9,k9,c9,e9,h9⟩:=hd.1;exact zk (zaD (cells:=#[.bool false,.slice A9 k9 c9]) rfl e9 vk) (fun _ _ ⟨h1,h2⟩=>⟨⟨⟨_,_,_,_,h1,rfl,h9.new h2,jo⟩,_,_,_,h1⟩,h2⟩))):P:=h
theorem zqY {P:Prop}(h:P:=by exact fun aa ww hb he hd=>za rfl (zd rfl vk hd.1 ((hb.cell (zh HC0.out)).trans HC0.out))):P:=h
theorem zqZ {P:Prop}(h:P:=by exact fun aa ww hb he hd=>za rfl (zd rfl vk hd.1 (Blk.at2 HZ.out hb))):P:=h
theorem zq0 {P:Prop}(h:P:=by exact fun aa ww hb he hd=>za rfl (zm (e:=170) (s:=1) (k:=q) rfl vk jo he.1 he.2.1)):P:=h
theorem zq1 {P:Prop}(h:P:=by exact fun aa ww hb he hd=>zn 10 rfl vk hd.1 (zi _ rfl ⟨he.1,ue _ _⟩)):P:=h
theorem zq2 {P:Prop}(h:P:=by exact fun aa ww hb he hd=>zn 10 rfl vk hd.1 (zm (e:=89) (s:=3) (k:=i) rfl vk jo hd.2.1 hd.2.2.1)):P:=h
theorem zq3 {P:Prop}(h:P:=by exact fun aa ww hb he hd=>za rfl (zm (e:=95) (s:=3) (k:=i) rfl vk jo he.1 he.2.1)):P:=h
theorem zq4 {P:Prop}(h:P:=by exact fun aa ww hb he hd=>za rfl (zm (e:=95) (s:=3) (k:=k) rfl vk jo he.1 he.2.1)):P:=h
theorem zq5 {P:Prop}(h:P:=by exact fun aa ww hb he hd=>za rfl (zm (e:=3) (s:=1) (k:=p) rfl vk jo he.1 he.2.1)):P:=h
theorem zq6 {P:Prop}(h:P:=by exact fun aa ww hb he hd=>za rfl (zd rfl vk hd.1 ((hb.cell (zh HC.out)).trans HC.out))):P:=h
theorem zq7 {P:Prop}(h:P:=by exact fun aa ww hb he hd=>za rfl (zd rfl vk hd.1 (by have hh:=(Blk.at_k (off:=0) (l:=[.slice (some ua) un uc]) HJ.2 rfl hb) 0 _ rfl;rw[Addr.add_mid] at hh;exact hh))):P:=h
theorem zq8 {P:Prop}(h:P:=by exact fun aa ww hb he hd=>za rfl (Zh i 1 i0 rfl hd.1 rfl HI0.out jo)):P:=h
theorem zq9 {P:Prop}(h:P:=by exact fun aa ww hb he hd=>za rfl (zm (e:=3) (s:=1) (k:=i0) rfl vk (by have:=HI0.out;omega) hd.1 hd.2.1)):P:=h
theorem zra {P:Prop}(h:P:=by exact fun aa ww hb he hd=>za rfl (zZ va 0 .i64 _ _ _ _ rfl hd.1 rfl ⟨ut Value.bool (decide_eq_false hneg),ue _ _⟩)):P:=h
theorem zrb {P:Prop}(h:P:=by exact fun aa ww hb he hd=>zn 75 rfl vk hd.1 (zi _ rfl ⟨he.1,ue _ _⟩)):P:=h
theorem zrc {P:Prop}(h:P:=by exact fun aa ww hb he hd=>zn 75 rfl vk hd.1 (zi _ rfl ⟨he.2.1,ue _ _⟩)):P:=h
theorem zrd {P:Prop}(h:P:=by exact fun aa ww hb he hd=>zn 75 rfl vk hd.1 (zm (e:=100) (s:=2) (k:=k) rfl vk jo hd.2.1 hd.2.2.1)):P:=h
theorem zre {P:Prop}(h:P:=by exact fun aa ww hb he hd=>zn 75 rfl vk hd.1 (ZH (off:=0) rfl vk hd.2.1)):P:=h
theorem zrf {P:Prop}(h:P:=by exact fun aa ww hb he hd=>zn 75 rfl vk hd.1 (zd rfl vk hd.2.1 (((HJ4.1.trans (hb.mono HJ4.1.size)).cell (zh HCo.out)).trans HCo.out))):P:=h
theorem zrg {P:Prop}(h:P:=by exact fun aa ww hb he hd=>zn 75 rfl vk hd.1 (zi _ rfl ⟨he.2.2.1,ue _ _⟩)):P:=h
theorem zrh {P:Prop}(h:P:=by exact fun aa ww hb he hd=>zn 75 rfl vk hd.1 (zm (e:=3) (s:=1) (k:=p) rfl vk jo hd.2.1 hd.2.2.1)):P:=h
theorem zri {P:Prop}(h:P:=by exact fun aa ww hb he hd=>zn 75 rfl vk hd.1 (zd rfl vk hd.2.1 (by rw[Nat.mul_one];exact((HJ4.1.trans (hb.mono HJ4.1.size)).cell (zh HCa.out)).trans HCa.out))):P:=h
theorem zrj {P:Prop}(h:P:=by exact fun aa ww hb he hd=>zn 75 rfl vk hd.1 (zi _ rfl ⟨he.2.2.2.1,ue _ _⟩)):P:=h
theorem zrk {P:Prop}(h:P:=by exact fun aa ww hb he hd=>za rfl (zd rfl vk hd.1 (Blk.at0 HJ.2.1 hb))):P:=h
theorem zrl {P:Prop}(h:P:=by exact fun aa ww hb he hd=>za rfl (shr8 jo rfl hd.1 hd.2.1)):P:=h
theorem zrm {P:Prop}(h:P:=by exact fun aa ww hb he hd=>za rfl (rem8 2 jo (uw (Nat.div_le_self _ _) hvs) jo rfl hd.1)):P:=h
theorem zrn {P:Prop}(h:P:=by exact fun aa ww hb he hd=>za rfl (yi ((nV:Int)) 4 .i64 _ _ _ _ rfl hd.1 rfl ⟨ut Value.bool (decide_eq_false jo),ue _ _⟩)):P:=h
theorem zro {P:Prop}(h:P:=by exact fun aa ww hb he hd=>zn 44 rfl vk hd.1 (zw (off:=1) rfl vk he.2.1)):P:=h
theorem zrp {P:Prop}(h:P:=by exact fun aa ww hb he hd=>zn 44 rfl vk hd.1 (zd rfl vk hd.2.1 (Blk.at1 HJ.2.1 hb))):P:=h
theorem zrq {P:Prop}(h:P:=by exact fun aa ww hb he hd=>zn 44 rfl vk hd.1 (Ze rfl vk hd.2.1)):P:=h
theorem zrr {P:Prop}(h:P:=by exact fun aa ww hb he hd=>za rfl (zkT rfl jd)):P:=h
theorem zrs {P:Prop}(h:P:=by exact fun aa ww hb he hd=>za rfl (zhU (off:=1) rfl vk he.1)):P:=h
theorem zrt {P:Prop}(h:P:=by exact fun aa ww hb he hd=>za rfl (zbG rfl vk hd.1 (Blk.at1 HB.out hb.b))):P:=h
theorem zru {P:Prop}(h:P:=by exact fun aa ww hb he hd=>za rfl (zg (cs:=[.slice AA ma ca,.slice AD na da,.slice AC na ea]) rfl vk vk he.1 (Blk.at_k HFa.out rfl hb))):P:=h
theorem zrv {P:Prop}(h:P:=by exact fun aa ww hb he hd=>za rfl (zg (cs:=[.slice BA mb cb,.slice BD nb db,.slice BC nb eb]) rfl vk vk he.2.1 (Blk.at_k HFb.out rfl hb))):P:=h
theorem zrw {P:Prop}(h:P:=by exact fun aa ww hb he hd=>za rfl (zw (off:=0) rfl vk he.2.2.1)):P:=h
theorem zrx {P:Prop}(h:P:=by exact fun aa ww hb he hd=>za rfl (zi _ rfl ⟨rfl,ue _ _⟩)):P:=h
theorem zry {P:Prop}(h:P:=by exact fun aa ww hb he hd=>za rfl (zd rfl vk hd.1 (Blk.at1 HX5.out hb))):P:=h
theorem zrz {P:Prop}(h:P:=by exact fun aa ww hb he hd=>za rfl (zg (cs:=[.slice OA mo oc,.slice OD nr od,.slice OC nv oe]) rfl vk vk he.2.1 (Blk.at_k HXc.out rfl hb))):P:=h
theorem zrA {P:Prop}(h:P:=by exact fun aa ww hb he hd=>za rfl (zm (e:=vq1) (s:=3) (k:=i) rfl vk jo he.2.1 he.1)):P:=h
theorem zrB {P:Prop}(h:P:=by exact fun aa ww hb he hd=>za rfl (zg (cs:=[.slice OA mo oc,.slice OD nr od,.slice OC nv oe]) rfl vk vk hd.1 (fun j u hj=>((HBl.1.trans (hb.mono HBl.2.2)).cell (zh (HCo.out j u hj))).trans (HCo.out j u hj)))):P:=h
theorem zrC {P:Prop}(h:P:=by exact fun aa ww hb he hd=>za rfl (zg (cs:=[.slice C1 l1 d1,.slice C2 l2 d2,.slice C3 l3 d3]) rfl vk vk he.2.1 (Blk.at_k HX.out rfl hb))):P:=h
theorem zrD {P:Prop}(h:P:=by exact fun aa ww hb he hd=>za rfl (by obtain⟨v,h1,h2⟩:=hd.1;exact zk (zaK rfl h1 rfl) (fun _ _ ⟨q1,q2⟩=>⟨by rw[q1];exact h2.keepN (KeepsN.below q2),q2⟩))):P:=h
theorem zrE {P:Prop}(h:P:=by exact fun aa ww hb he hd=>Zw 46 rfl vk hd.1 rfl):P:=h
theorem zrF {P:Prop}(h:P:=by exact fun aa ww hb he hd=>zn 46 rfl vk hd.1 (yi ((n:Int)) 5 .u8 _ _ _ _ rfl hd.2.1 rfl ⟨ut Value.bool (decide_eq_false jo),ue _ _⟩)):P:=h
theorem zrG {P:Prop}(h:P:=by exact fun aa ww hb he hd=>zn 50 rfl vk hd.1 (zd rfl vk he.2.2.1 (Blk.at0 HX2.out hb))):P:=h
theorem zrH {P:Prop}(h:P:=by exact fun aa ww hb he hd=>zn 50 rfl vk hd.1 (Ze rfl vk hd.2.1)):P:=h
theorem zrI {P:Prop}(h:P:=by exact fun aa ww hb he hd=>za rfl (by obtain⟨v,h1,h2⟩:=hd.1;exact zk (zaK rfl h1 rfl) (fun _ _ ⟨q1,q2⟩=>⟨by rw[q1];exact⟨h2.1,h2.2.keepN (KeepsN.below q2)⟩,q2⟩))):P:=h
theorem zrJ {P:Prop}(h:P:=by exact fun aa ww hb he hd=>za rfl (zg (cs:=[.iface 39 (.agg #[]),.iface 40 (.agg #[])]) rfl vk vk he.1 (Blk.at_k (off:=0) (l:=[.iface 39 (.agg #[]),.iface 40 (.agg #[])]) HJ8.2.2.2.1 rfl hb))):P:=h
theorem zrK {P:Prop}(h:P:=by exact fun aa ww hb he hd=>zn 169 rfl vk hd.1 (zi _ rfl ⟨he.2.1,ue _ _⟩)):P:=h
theorem vj0 {P:Prop}(h:P:=by exact fun _ _ _ _ h _=>h):P:=h
theorem vj1 {P:Prop}(h:P:=by go_num):P:=h
theorem vj2 {P:Prop}(h:P:=by simp;omega):P:=h
theorem vj3 {P:Prop}(h:P:=by exact fun _ _ h=>h.kd (KD.below hb)):P:=h
theorem vj4 {P:Prop}(h:P:=by show 0+3≤3;omega):P:=h
theorem vj5 {P:Prop}(h:P:=by exact fun _ _ h=>h.below hb):P:=h
theorem vj6 {P:Prop}(h:P:=by show 0+2≤2;omega):P:=h
theorem vj7 {P:Prop}(h:P:=by exact fun _ _ h=>h):P:=h
theorem vj8 {P:Prop}(h:P:=by have:=HL.out;omega):P:=h
theorem vj9 {P:Prop}(h:P:=by simpa using ho):P:=h
theorem zcJ {P:Prop}(h:P:=by exact fun _ _ h hb=>h.below hb):P:=h
theorem zcK {P:Prop}(h:P:=by simp only[maxLen];omega):P:=h
theorem zk9 {P:Prop}(h:P:=by intro x;simp):P:=h
theorem zn4 {P:Prop}(h:P:=by rw[HRs];exact HB.size):P:=h
theorem zej {P:Prop}(h:P:=by simpa using h):P:=h
theorem zew {P:Prop}(h:P:=by rw[←HM];exact hi):P:=h
theorem zf5 {P:Prop}(h:P:=by simpa using h1):P:=h
theorem vj17 {P:Prop}(h:P:=by have:=HR.1;omega):P:=h
theorem zf6 {P:Prop}(h:P:=by exact fun _ _ h=>h.kd (kd.sub jd)):P:=h
theorem vj19 {P:Prop}(h:P:=by exact fun _ _ h=>h.kd kdb rfl rfl rfl):P:=h
theorem vj20 {P:Prop}(h:P:=by exact fun _ _ h=>h.kd kdb rfl):P:=h
theorem ziD {P:Prop}(h:P:=by simp[intOf];omega):P:=h
theorem ziE {P:Prop}(h:P:=by rw[←HN];exact hi):P:=h
theorem zla {P:Prop}(h:P:=by exact fun _ _ h=>h.kd9 kd):P:=h
theorem zqd {P:Prop}(h:P:=by exact fun _ _ h=>h.kd kd rfl):P:=h
theorem zlb {P:Prop}(h:P:=by simpa [zL] using h):P:=h
theorem zlc {P:Prop}(h:P:=by rw[←hsame j hji];exact hjl):P:=h
theorem zld {P:Prop}(h:P:=by rw[←HN];omega):P:=h
theorem zle {P:Prop}(h:P:=by simp[MapKept.IsKey]):P:=h
theorem zs1 {P:Prop}(h:P:=by show 0<2;omega):P:=h
theorem zs2 {P:Prop}(h:P:=by show 1<2;omega):P:=h
theorem zlf {P:Prop}(h:P:=by rw[←HN];exact ug _):P:=h
theorem zlg {P:Prop}(h:P:=by exact fun _ _ ⟨⟨g,h1,h2,h3⟩,h4⟩=>⟨⟨g,h1,trivial,h3⟩,h4⟩):P:=h
theorem zlh {P:Prop}(h:P:=by rw[HG.1];exact HB.size):P:=h
theorem zqe {P:Prop}(h:P:=by exact fun _ _ _ _ h ht=>h.kd (ht.kd rfl)):P:=h
theorem zli {P:Prop}(h:P:=by rw[hcl];exact HAt.out):P:=h
theorem zlj {P:Prop}(h:P:=by rw[HO2.2.2.2];exact HAt.out):P:=h
theorem zlk {P:Prop}(h:P:=by rw[List.length_set,←HO2.2.2.2];exact ho21):P:=h
theorem zs3 {P:Prop}(h:P:=by rw[←e1];exact hall i hi):P:=h
theorem zn5 {P:Prop}(h:P:=by rw[hsz];exact ht.1):P:=h
theorem zs4 {P:Prop}(h:P:=by rw[←HB0] at HBw ⊢;exact Below.appended (HBw.trans (hb.mono HS2.out)) (HO.below hb).own hg (ud HS2.out hb.size) (ug _)):P:=h
theorem zn6 {P:Prop}(h:P:=by exact fun _ _ ⟨⟨g,h1,h2,h3⟩,h4⟩=>⟨⟨g,h1,ud hb.size h2,h3⟩,h4⟩):P:=h
theorem zn7 {P:Prop}(h:P:=by exact fun _ _ h=>h.kd (hI.k.sub jd)):P:=h
theorem zn8 {P:Prop}(h:P:=by simp[Region.wanted,hg]):P:=h
theorem zqf {P:Prop}(h:P:=by rw[yd];exact h4.trans h2.symm):P:=h
theorem zn9 {P:Prop}(h:P:=by rw[List.length_take];omega):P:=h
theorem zqg {P:Prop}(h:P:=by rw[←HNo];exact ug _):P:=h
theorem zs5 {P:Prop}(h:P:=by have:=HB.out;have:=HJ.1;omega):P:=h
theorem vj48 {P:Prop}(h:P:=by exact fun _ _ _ _ h ht=>⟨OwnC.blk h.1 ht.1 jd ht.2.1,h.2⟩):P:=h
theorem zqh {P:Prop}(h:P:=by exact fun _ _ ⟨q1,q2,q3,q4⟩=>⟨⟨q1,q3.imp_right fun e=>⟨_,e,hI.o.size⟩⟩,hE 0 vk,q2,q4⟩):P:=h
theorem zqi {P:Prop}(h:P:=by exact fun _ _ ⟨q1,q2,_,q4⟩=>⟨⟨_,q4,OwnC.blk h1.1 (hE 1 vk) jd q2,h1.2⟩,hE 1 vk,q2,q1⟩):P:=h
theorem zqj {P:Prop}(h:P:=by rcases ht with rfl | rfl <;> decide):P:=h
theorem vj52 {P:Prop}(h:P:=by show List.all [_,_,_] okC=true;simp only[List.all_cons,List.all_nil,hrk,Bool.and_true];rfl):P:=h
theorem vj53 {P:Prop}(h:P:=by exact fun _ _ h=>h.kd kd8 rfl rfl rfl):P:=h
theorem vj54 {P:Prop}(h:P:=by exact fun _ _ h=>h.kd kd rfl rfl rfl):P:=h
theorem vj55 {P:Prop}(h:P:=by rw[List.map_append];exact OwnL.push k1 k3 ho rfl (fun _ _ h=>h.kd kd8 rfl) ⟨_,_,rfl,HS2.2.2.2.1.1.kd kd rfl,rfl,HAp.out⟩):P:=h
theorem vj56 {P:Prop}(h:P:=by exact fun _ _ h=>h.kd kd8 rfl):P:=h
theorem vj57 {P:Prop}(h:P:=by show RsOk (Yx sm 8).length zs;rw[←HVv.1,←HVv.2.1];exact HZ.1):P:=h
theorem vj58 {P:Prop}(h:P:=by show (Yx sm 8).length≤4;rw[←HVv.1,←HVv.2.1];omega):P:=h
theorem vj59 {P:Prop}(h:P:=by show rs.length≤12;rw[←HRn];omega):P:=h
theorem vj60 {P:Prop}(h:P:=by rw[htk];exact HA.1.snoc hmr):P:=h
theorem vj61 {P:Prop}(h:P:=by rw[ul,HA.2.1];rfl):P:=h
theorem vj62 {P:Prop}(h:P:=by exact fun _ _ h=>h.grow hg kd8 rfl rfl hor):P:=h
theorem vj63 {P:Prop}(h:P:=by exact fun _ _ h=>h.grow hg hor):P:=h
theorem vj64 {P:Prop}(h:P:=by rw[List.map_append,zdt,zbb];exact ho):P:=h
theorem zqk {P:Prop}(h:P:=by exact fun _ _ h=>h.kd hI.k rfl):P:=h
theorem zql {P:Prop}(h:P:=by rw[HG8.1];exact HB.size):P:=h
theorem vj67 {P:Prop}(h:P:=by have:=HAt.out;first | exact this | (simpa using this)):P:=h
theorem vj68 {P:Prop}(h:P:=by rw[HTk,if_pos hma,ha4,zam];exact ho):P:=h
theorem zs6 {P:Prop}(h:P:=by rw[e];exact List.mem_cons_self ..):P:=h
theorem zs7 {P:Prop}(h:P:=by rw[Nat.zero_add];exact hb.frozen j):P:=h
theorem zs8 {P:Prop}(h:P:=by have h8:i*1+1≤cur.size:=hsz;omega):P:=h
theorem vj72 {P:Prop}(h:P:=by rw[hs];exact ud HJ.2.2.2 hb.size):P:=h
theorem zs9 {P:Prop}(h:P:=by injection e with e;rw[e];exact HI.lt):P:=h
theorem zta {P:Prop}(h:P:=by rcases hk with hk | hk;(by_cases e:k=i;exact .inr ⟨e,rfl⟩;exact .inl jo);cases hk.2):P:=h
theorem ztb {P:Prop}(h:P:=by rw[H1.2.2.2.2.1];exact H1.1.size):P:=h
theorem ztc {P:Prop}(h:P:=by rw[HG5];exact zh (hcv j u hj)):P:=h
theorem vj77 {P:Prop}(h:P:=by exact fun _ _ _ _ ⟨c0,h0,h,h2⟩ ht=>⟨c0,h0,OwnC.blk h ht.1 jd ht.2.1,h2.kd (ht.kd rfl)⟩):P:=h
theorem ztd {P:Prop}(h:P:=by exact fun _ _ ⟨⟨g,h1,h2,h3⟩,h4⟩=>⟨⟨g,c0,h1,by rw[e1] at h3;exact h3,e2,e3,e4.kd (KD.below h4)⟩,h4⟩):P:=h
theorem zte {P:Prop}(h:P:=by exact fun _ _ ⟨q1,q2,_,q4⟩=>⟨⟨c0,h4,q1,h6.kd (PuA.kd (T:=[3,26]) ⟨hE 0 vk,q2,q4⟩ rfl)⟩,hE 0 vk,q2,q4⟩):P:=h
theorem ztf {P:Prop}(h:P:=by exact fun _ _ ⟨q1,q2,_,q4⟩=>⟨⟨_,c0,h0,q4,OwnC.blk h1 (hE 1 vk) jd q2,h2.kd (PuS.kd (T:=[3,26]) ⟨hE 1 vk,q2,q1⟩ rfl)⟩,hE 1 vk,q2,q1⟩):P:=h
theorem ztg {P:Prop}(h:P:=by have h1:=HMy.out;have h2:=HMg.out;have h3:=HMv.out;omega):P:=h
theorem vj82 {P:Prop}(h:P:=by rw[HAd];exact FC.vq22.keepN HV.out ((KeepsN.blk HR.out (i:=0) (by show 0<2;omega) (by intro x;simp) _).trans (KeepsN.blk (HR.set_ 0 _) (i:=1) (by show 1<2;omega) (by intro x;simp) _))):P:=h
theorem vj83 {P:Prop}(h:P:=by obtain⟨A9,k9,c9,e9,f9⟩:=hd.1;obtain⟨b8,A8,k8,c8,e8,f8⟩:=hd.2.1;exact zk (yR rfl e9 e8 (zhN _ _ _ _ _ _ _)) (fun zz w' ⟨q1,q2⟩=>⟨⟨_,_,_,_,_,_,_,q1,FN.vq22.keepN ⟨_,_,_,rfl,f9⟩ (KeepsN.below q2),FC.vq22.keepN ⟨_,_,_,_,rfl,f8⟩ (KeepsN.below q2)⟩,q2⟩)):P:=h
theorem vj84 {P:Prop}(h:P:=by rw[show k+(j+1) - 1=k9+1 by omega];exact zeS HY.2.2.2.1):P:=h
theorem vj85 {P:Prop}(h:P:=by rw[show k+(j+1) - 1=k9+1 by omega,List.drop_set_of_lt jo];exact zeS HY.2.2.2.1):P:=h
theorem vj86 {P:Prop}(h:P:=by have:=HMd.out;have:=HD.out;have:=HF.out;have:=HJ.1;have:=HP.out;omega):P:=h
theorem vj87 {P:Prop}(h:P:=by have hh:=(Blk.at_k (off:=0) (l:=[.slice (some ⟨gl,0,none⟩) d lc]) (hI.blk HJ.2.2.1 HNe.1 HNe.2.1) rfl (ue _ _)) 0 _ rfl;rw[Addr.add_mid] at hh;exact hh):P:=h
theorem vj88 {P:Prop}(h:P:=by have hh:=(Blk.at_k (off:=0) (l:=[.slice (some ⟨gl,0,none⟩) d lc]) (hI.blk H4.2.2.1 HNe.1 HNe.2) rfl (ue _ _)) 0 _ rfl;rw[Addr.add_mid] at hh;exact hh):P:=h
theorem vj89 {P:Prop}(h:P:=by have hh:=(Blk.at_k (off:=0) (l:=[.slice (some ⟨gl,0,none⟩) i i]) (hI.blk HJ.2.2.2 HNe.1 HNe.2) rfl (ue _ _)) 0 _ rfl;rw[Addr.add_mid] at hh;exact hh):P:=h
theorem vj90 {P:Prop}(h:P:=by exact fun _ _ ⟨q1,q2,_,q4⟩=>⟨⟨_,q4,OwnC.blk h1 (hE 1 vk) jd q2⟩,hE 1 vk,q2,q1⟩):P:=h
theorem vj91 {P:Prop}(h:P:=by have hh:=HD2.out 0 _ rfl;rw[adz] at hh;exact(hb.cell (zh hh)).trans hh):P:=h
theorem vj92 {P:Prop}(h:P:=by have hh:=HDw.out 0 _ rfl;rw[adz] at hh;exact(hb.cell (zh hh)).trans hh):P:=h
theorem vj93 {P:Prop}(h:P:=by exact fun _ _ h=>h.kd (KD.below (HB5.1.trans ((HBl.1.trans (hb.mono HBl.2.2)).mono HB5.2)))):P:=h
theorem vj94 {P:Prop}(h:P:=by exact fun _ _ ⟨⟨g,q1,q2,q3⟩,q4⟩=>⟨⟨g,q1,ud hb.size q2,q3⟩,q4⟩):P:=h
theorem vs0 {P Q:Prop}(q:Q)(h:Q→P:=by
 intro h;simp only[yI,Nat.zero_add,Nat.reduceAdd,List.take_succ_cons,List.take_zero,Act.put,List.setIfInBounds_toArray,List.set_cons_zero,List.set_cons_succ];exact h):P:=h q
theorem vs1 {P Q:Prop}(q:Q)(h:Q→P:=by
 intro h;simp only[Act.put,List.setIfInBounds_toArray,List.set_cons_zero,List.set_cons_succ];exact h):P:=h q
theorem vs2 {P Q:Prop}(q:Q)(h:Q→P:=by
 intro h;simp only[ho,resolve,invoke,builtin,Sem.run_bind,Sem.run_pure,Result.andThen_ok,List.map_toArray,List.map_cons,List.map_nil,hs,hx,hrun];exact h):P:=h q
end Go.Proofs
