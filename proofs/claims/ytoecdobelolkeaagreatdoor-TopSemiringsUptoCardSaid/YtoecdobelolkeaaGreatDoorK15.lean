/- Part of TopSemirings. -/
import Derived.Test.YtoecdobelolkeaaGreatDoorK14
set_option linter.unusedVariables false
set_option linter.unusedSimpArgs false
set_option maxRecDepth 100000
set_option maxHeartbeats 32000000
namespace Go.Proofs.YtoecdobelolkeaaGreatDoor
open Go.RowKit
variable {w w':World} {j i cnt g d c L p e:Nat} {A:Option Addr}
def ztn (w:World) (gj m:Nat) (D:Nat→ItD) (rv av yf:Value) (k0:Nat→Nat) (e:Ending) (w':World):Prop:=∃b k',e = .returned (.bool b)∧MeetR m (fun j=>(D j).C) k0 b k'∧(∀j,j<m→(D j).on w' (k' j))∧JnB w' gj rv av yf∧OutG (MeG gj m D) w w'
theorem ze7 (x y:Int):((yr x y == 0):Bool)=decide (x=y):=by
 exact vt43
section
variable {o : Oper} {a : Act} {w : World} {K : Act → World → Prop} {Q : Exit → Act → World → Prop}
theorem zfZ (ho:o.op = .alloc 89) (next:K (a.put o.dst (.pointer (some ⟨w.heap.size,0,none⟩))) (w.alloc (.cells #[.int .i64 0,.int .i64 0,.string S0] 89))):o.wp Tryz.prog a w K Q:=by
 exact vt34
end
theorem zgY {G:Nat→Prop} {gj m ic:Nat} {D:Nat→ItD} {IA:Addr} {rv av yf:Value} {k0:Nat→Nat} (hM:MtW G w gj m D IA) (hj:JnB w gj rv av yf) (hon:∀j,j<m→(D j).on w (k0 j)) (h0:k0 0≤(D 0).C.length) (hoth:∀j,0<j→j<m→k0 j<(D j).C.length):Calls Tryz.prog 97 #[.pointer (some ⟨gj,0,none⟩),.slice (some IA) m ic] w (ztn w gj m D rv av yf k0):=by
 have HM:=vh hM;have HON:=vh hon;have HO0:=vh hoth;have HK0:=vh h0;have HJn:=vh hj;clear hM hon hoth h0 hj;obtain⟨g0,hg0⟩:∃x,x=(D 0).g:=⟨_,rfl⟩;have HG0:=vh hg0;clear hg0;have hc0:=HM.cell HM.pos;rw[←HG0] at hc0;have HC0:=vh hc0;clear hc0;have hm1:=HM.pos;have hm2:=HM.few;go_enter Tryz.func97,Tryz.ntmps97;go_upto_region 1 with (fail);by_cases hk0:k0 0<(D 0).C.length
 ·obtain⟨kv,hkv⟩:∃c,(D 0).C[k0 0]? = some c:=⟨_,uf hk0⟩;have HKv:=vh hkv;clear hkv;refine zc (kss:=[[],[(0,13)],[(1,14)],[(2,15)],[(3,16)],[(4,12)],[(4,12)]]) [(1,.slice ((some IA)) m ic)] [EV (.slice ((some IA)) m ic),EV (.pointer (some (Addr.add IA (0*1)))),EV (.pointer (some (⟨g0,0,none⟩))),EV (.tuple #[.agg #[.int .i64 1,.int .i64 kv,.string S0],.bool true]),EV (.tuple #[.agg #[.int .i64 1,.int .i64 kv,.string S0],.bool true]),EV (.agg #[.int .i64 1,.int .i64 kv,.string S0]),EV (.bool true)] 7 vk vt [false,false,false,false,false,false,false] ?_ ?_ ?_
  ·exact js
  ·exact⟨vi0,zsU,zqY,(fun aa ww hb he hd=>za rfl (zq _ _ _ rfl vk (by rw[show aa.eval (.tmp 15) = .pointer (some ⟨g0,0,none⟩) from hd.1,HG0];exact zU (zfY ((HON.out 0 HM.pos).below hb) ((HM.ok 0 HM.pos).out (OutG.of_below hb)) HKv.out)))),vi2,vi8,vi8,uC⟩
  intro vs w1 hb hR;refine vs0 ?_;rw[(hR 5 jd:vs 5=_),(hR 6 jd:vs 6=_)];clear hR;show wpOps _ _ _ [7,8,9] _ _;refine zb rfl rfl (zfZ rfl ?_);refine jp 5 ?_;refine zb rfl rfl (zC (vs:=[.int .i64 1,.int .i64 kv,.string S0]) (off:=0) rfl rfl vk rfl rfl rfl (Blk.new _ _ _) vj4 (fun j _ _ x=>zD rfl j x) ?_);intro w2 kn hg hs hbx;refine zb rfl rfl (zl 6 (.tmp 18) rfl rfl (.bool true) rfl ?_);refine vs1 ?_;have hbw:Below w1.heap.size w1 w2:=(al w1 _).grown hg (al w1 _).size (fun k e=>by cases e;exact ug _);obtain⟨g5,hgb⟩:∃g,g=w1.heap.size:=⟨_,rfl⟩;rw[←hgb] at hbx ⊢;clear kn hg hs;unfold wpOps;have h2:=ze hb hbw hb.size;have HB2:=vh h2;have G5:=vh (show w.heap.size≤g5 from by rw[hgb];exact hb.size);have X5:=vh hbx;clear hb hbw hgb hbx h2;have HI:=vh (show MtI m (fun j=>(D j).C) k0 k0 1 1 kv∧Blk w2 g5 89 #[.int .i64 1,.int .i64 kv,.string S0]∧(∀j,j<m→(D j).on w2 (k0 j))∧JnB w2 gj rv av yf∧OutG (MeG gj m D) w w2 from⟨MtI.start HM.pos (fun j hj=>(HM.ok j hj).val) (fun j hj=>by by_cases e:j=0;subst e;exact hk0;exact HO0.out j jo hj) HKv.out,X5.out,fun j hj=>(HON.out j hj).below HB2.out,HJn.below HB2.out,OutG.of_below HB2.out⟩);clear X5 HB2 HKv;go_wp2_with fail;go_loopg [7,8] (((3 - kv)*((m:Int)+1)+(m - 1)).toNat) (fun g9 sv tv wr=>∃(s t:Nat) (key:Int) (k:Nat→Nat),sv = .int .i64 s∧tv = .int .i64 t∧g9=((3 - key)*((m:Int)+1)+(m - s)).toNat∧Hid (MtI m (fun j=>(D j).C) k0 k s t key∧Blk wr g5 89 #[.int .i64 1,.int .i64 key,.string S0]∧(∀j,j<m→(D j).on wr (k j))∧JnB wr gj rv av yf∧OutG (MeG gj m D) w wr));case atStart=>exact⟨1,1,kv,k0,rfl,rfl,rfl,HI⟩
  case round=>
   obtain⟨s,t,key,k,rfl,rfl,hg9,HJ⟩:=hrel;have HG9:=vh hg9;clear hg9 HI;by_cases hsm:s<m
   ·have i1:((s:Int)<(m:Int)):=jo;obtain⟨jx,hjx⟩:∃x,x=t % m:=⟨_,rfl⟩;have hjm:jx<m:=by rw[hjx];exact Nat.mod_lt _ jo
    have HJx:=vh hjx;clear hjx;obtain⟨gx,hgx⟩:∃x,x=(D jx).g:=⟨_,rfl⟩;have HGx:=vh hgx;clear hgx;have ht6:t≤1000000:=by have h1:=HJ.1.cnt;have h2:=HJ.1.kv;have h3:=HJ.1.sm;have:0≤(3 - key)*((m:Int)+1):=Int.mul_nonneg jo jo;omega
    have hcx:=(HM.outm HJ.2.2.2.2).cell hjm;rw[←HGx] at hcx;have HCx:=vh hcx;have HT6:=vh ht6;clear hcx ht6;go_upto_region 7 with (fail);refine zj (kss:=[[],[],[],[(2,29)],[(1,28),(3,30)],[(0,27),(4,31)],[(5,32)],[(6,33)]]) [(1,.slice ((some IA)) m ic),(8,.int .i64 ((t:Int)))] [EV (.slice ((some IA)) m ic),EV (.int .i64 ((t:Int))),EV (.slice ((some IA)) m ic),EV (.int .i64 ((m:Int))),EV (.int .i64 ((jx:Int))),EV (.pointer (some (Addr.add IA (jx*1)))),EV (.pointer (some (⟨gx,0,none⟩))),EV (.pointer (some (⟨gx,0,none⟩)))] vk vt ?_ ?_ ?_
    ·exact js
    ·exact⟨vi0,vi1,vi0,vi6,(fun aa ww hb he hd=>za rfl (zjn (x:=t) (y:=m) (m:=jx) jo HT6.out HJx.out rfl hd.1 hd.2.1)),(fun aa ww hb he hd=>za rfl (zm (e:=170) (s:=1) (k:=jx) rfl vk jo hd.1 hd.2.1)),zqa,vi3,uC⟩
    intro vs w3 hb hR;refine vw3 ?_;clear hR;have HJ3:=vh (show MtI m (fun j=>(D j).C) k0 k s t key∧Blk w3 g5 89 #[.int .i64 1,.int .i64 key,.string S0]∧(∀j,j<m→(D j).on w3 (k j))∧JnB w3 gj rv av yf∧OutG (MeG gj m D) w w3 from⟨HJ.1,HJ.2.1.keep hb,fun j hj=>(HJ.2.2.1 j hj).below hb,HJ.2.2.2.1.below hb,HJ.2.2.2.2.trans (OutG.of_below hb)⟩);clear HJ hb HCx;have x0:=Blk.at0 HJ3.2.1 (ue _ _);have x1:=Blk.at1 HJ3.2.1 (ue _ _);have x2:=Blk.at2 HJ3.2.1 (ue _ _);go_wp2_with fail;rw[HGx];refine(zmD (y:=key) (HJ3.2.2.1 jx hjm) ((HM.outm HJ3.2.2.2.2).ok jx hjm) (HJ3.1.on jx hjm)).mono ?_;rintro e w4 ⟨k',hk1,hk2,hlt,hge,rfl,hi4,ho4⟩;rw[←HGx];clear x0 x1 x2;have hj4:OutG (MeG gj m D) w3 w4:=ho4.mono fun x _ e=> .inr ⟨jx,hjm,e⟩;have hon4:∀j,j<m→(D j).on w4 (YW k jx k' j):=fun j hj=>by
     by_cases e:j=jx
     ·subst e;rw[yp];exact hi4
     ·rw[YD k k' e];exact(HJ3.2.2.1 j hj).out ho4 (HM.ne j jx hj hjm e)
    have hb4:Blk w4 g5 89 #[.int .i64 1,.int .i64 key,.string S0]:=ho4.blk HJ3.2.1 (fun e=>Nat.lt_irrefl g5 (uj (by rw[e];exact ItB.lt (HON.out jx hjm)) G5.out));have hjn4:JnB w4 gj rv av yf:=HJ3.2.2.2.1.out ho4 (fun e=>HM.nj jx hjm e.symm);have H4:=vh (show Blk w4 g5 89 #[.int .i64 1,.int .i64 key,.string S0]∧(∀j,j<m→(D j).on w4 (YW k jx k' j))∧JnB w4 gj rv av yf∧OutG (MeG gj m D) w w4 from⟨hb4,hon4,hjn4,HJ3.2.2.2.2.trans hj4⟩);have HS:=vh (uh hk1 (uh hk2 (uh hlt hge)));have HMt:=vh HJ3.1;clear HJ3 hi4 ho4 hj4 hon4 hb4 hjn4 hk1 hk2 hlt hge;by_cases hend:k'<(D jx).C.length;rotate_left
    ·rw[show decide (k'<(D jx).C.length)=false by simpa using hend];have hno:∀z,¬RemP m (fun j=>(D j).C) k0 z:=fun z=>by
      have h1:=HS.out;rw[HJx] at h1 hend;exact HMt.out.out HM.pos (fun j hj=>(HM.ok j hj).asc) h1.1 h1.2.2.1 jo z
     have HNo:=vh hno;clear hno;go_wp2_with fail;go_ret;refine⟨false,YW k jx k',rfl,⟨fun j hj=>?_,fun h=>(by cases h),fun _=>HNo.out⟩,H4.2.1,H4.2.2.1,H4.2.2.2⟩;by_cases e:j=jx
     ·subst e;rw[yp];exact HS.2.1
     ·rw[YD k k' e];exact uA (HMt.on j hj)
    ·rw[show decide (k'<(D jx).C.length)=true by simpa using hend];obtain⟨kx,hkx⟩:∃c,(D jx).C[k']? = some c:=⟨_,uf hend⟩;have HKx:=vh hkx;clear hkx;go_upto_region 10 with (fail);refine zc (kss:=[[],[(0,39)],[(1,40)],[(2,38)],[(2,38)]]) [(9,.pointer (some (⟨gx,0,none⟩)))] [EV (.pointer (some (⟨gx,0,none⟩))),EV (.tuple #[.agg #[.int .i64 1,.int .i64 kx,.string S0],.bool true]),EV (.tuple #[.agg #[.int .i64 1,.int .i64 kx,.string S0],.bool true]),EV (.agg #[.int .i64 1,.int .i64 kx,.string S0]),EV (.bool true)] 5 vk vt [false,false,false,false,false] ?_ ?_ ?_
     ·exact js
     ·exact⟨vi0,(fun aa ww hb he hd=>za rfl (zq _ _ _ rfl vk (by rw[show aa.eval (.tmp 39) = .pointer (some ⟨gx,0,none⟩) from hd.1,HGx];exact zU (zfY (k:=k') (by have hh:=H4.2.1 jx hjm;rw[yp] at hh;exact hh.below hb) (((HM.outm H4.2.2.2).ok jx hjm).out (OutG.of_below hb)) HKx.out)))),vi2,vi8,vi8,uC⟩
     intro vs w5 hb hR;refine vs0 ?_;rw[(hR 3 jd:vs 3=_),(hR 4 jd:vs 4=_)];clear hR;show wpOps _ _ _ [5,6,7] _ _;refine zb rfl rfl (zfZ rfl ?_);refine jp 10 ?_;refine zb rfl rfl (zC (vs:=[.int .i64 1,.int .i64 kx,.string S0]) (off:=0) rfl rfl vk rfl rfl rfl (Blk.new _ _ _) vj4 (fun j _ _ x=>zD rfl j x) ?_);intro w6 kn hg hs hbx;refine zb rfl rfl (zl 11 (.tmp 42) rfl rfl (.bool true) rfl ?_);refine vs1 ?_;have hbw:Below w5.heap.size w5 w6:=(al w5 _).grown hg (al w5 _).size (fun k e=>by cases e;exact ug _);obtain⟨g10,hgb⟩:∃g,g=w5.heap.size:=⟨_,rfl⟩;rw[←hgb] at hbx ⊢;clear kn hg hs;unfold wpOps;have h6:=ze hb hbw hb.size;have hlt10:w4.heap.size≤g10:=by rw[hgb];exact hb.size
     have H6:=vh (show Blk w6 g5 89 #[.int .i64 1,.int .i64 key,.string S0]∧(∀j,j<m→(D j).on w6 (YW k jx k' j))∧JnB w6 gj rv av yf∧OutG (MeG gj m D) w w6 from⟨H4.1.keep h6,fun j hj=>(H4.2.1 j hj).below h6,H4.2.2.1.below h6,H4.2.2.2.trans (OutG.of_below h6)⟩);have X10:=vh hbx;have HN10:=vh (show g10≠gj∧g10≠g5∧∀j,j<m→g10≠(D j).g from⟨fun e=>by obtain⟨z,hz⟩:=H4.2.2.1;have:=hz.lt;omega,fun e=>by have:=H4.1.lt;omega,fun j hj e=>by have:=ItB.lt (H4.2.1 j hj);omega⟩);clear hb hbw hgb hbx h6 hlt10 H4;obtain⟨z,hz⟩:=H6.2.2.1;have HZ:=vh hz;clear hz;go_upto_region 11 with (fail);refine zc (kss:=[[],[(0,43)],[(1,44)],[(2,45)],[(3,46)],[(0,43)],[(5,48)]]) [(0,.pointer (some (⟨gj,0,none⟩)))] [EV (.pointer (some (⟨gj,0,none⟩))),EV (.pointer (some (⟨gj,0,none⟩))),EV (.pointer (some (⟨gj,2,none⟩))),EV (.int .i64 z),EV (.int .i64 (IntKind.i64.wrap (z+1))),EV (.pointer (some (⟨gj,0,none⟩))),EV (.pointer (some (⟨gj,2,none⟩)))] 7 vk vt [false,false,false,false,false,false,false] ?_ ?_ ?_
     ·exact js
     ·exact⟨vi0,vi5,zcj,zqZ,zsS,vi5,zcj,uC⟩
     intro vs w7 hb hR;refine znC ?_;clear hR;have hz7:=HZ.keep hb;show wpOps _ _ _ [7] _ _;refine zb rfl rfl (yZ (off:=2) rfl rfl vk rfl rfl rfl hz7 (by show 2<4;omega) (fun x=>Yk (i:=2) (v:= .int .i64 z) rfl rfl x) ?_);intro w8 kn hg hs hbx;have hog:OutG (fun x=>x=gj) w6 w8:=(OutG.of_below hb).trans (OutG.of_grown hg rfl);have H8:=vh (show Blk w8 g5 89 #[.int .i64 1,.int .i64 key,.string S0]∧(∀j,j<m→(D j).on w8 (YW k jx k' j))∧JnB w8 gj rv av yf∧OutG (MeG gj m D) w w8 from⟨hog.blk H6.1 (fun e=>Nat.lt_irrefl g5 (uj (by rw[e];obtain⟨z,hz⟩:=HJn.out;exact hz.lt) G5.out)),fun j hj=>(H6.2.1 j hj).out hog (HM.nj j hj),⟨_,hbx⟩,H6.2.2.2.trans (hog.mono fun x _ e=> .inl e)⟩);have X8:=vh (hog.blk X10.out HN10.1);clear hz7 kn hg hs hbx hog hb HZ H6 X10;unfold wpOps;have x0:=Blk.at0 H8.1 (ue _ _);have x1:=Blk.at1 H8.1 (ue _ _);have x2:=Blk.at2 H8.1 (ue _ _);have y0:=Blk.at0 X8.out (ue _ _);have y1:=Blk.at1 X8.out (ue _ _);have y2:=Blk.at2 X8.out (ue _ _);go_wp2_with fail;refine(QA.vcompare_any kx key w8).mono ?_;rintro e w9 ⟨rfl,hb⟩;clear x0 x1 x2 y0 y1 y2;have H9:=vh (show Blk w9 g5 89 #[.int .i64 1,.int .i64 key,.string S0]∧(∀j,j<m→(D j).on w9 (YW k jx k' j))∧JnB w9 gj rv av yf∧OutG (MeG gj m D) w w9 from⟨H8.1.keep hb,fun j hj=>(H8.2.1 j hj).below hb,H8.2.2.1.below hb,H8.2.2.2.trans (OutG.of_below hb)⟩);have X9:=vh (X8.keep hb);clear hb H8 X8;by_cases he:kx=key
     ·have t2:(yr kx key == 0)=true:=by rw[ze7];simpa using he
      have hmt:MtI m (fun j=>(D j).C) k0 (YW k jx k') (s+1) (t+1) key:=by
       have h1:=HS.out;have h2:=HKx.out;rw[HJx] at h1 h2 ⊢;exact HMt.same hsm (fun j hj=>(HM.ok j hj).asc) h1.1 h1.2.2.1 (by rw[←he];exact h2)
      have HK:=vh (show MtI m (fun j=>(D j).C) k0 (YW k jx k') (s+1) (t+1) key∧Blk w9 g5 89 #[.int .i64 1,.int .i64 key,.string S0]∧(∀j,j<m→(D j).on w9 ((YW k jx k') j))∧JnB w9 gj rv av yf∧OutG (MeG gj m D) w w9 from⟨hmt,H9.out⟩);clear hmt H9 X9;have HE:=vh he;clear he;obtain⟨t1,ht1⟩:∃x,x=t+1:=⟨_,rfl⟩;have ew:IntKind.i64.wrap ((t:Int)+1)=(t1:Int):=by rw[ht1,show (t:Int)+1=((t+1:Nat):Int) by omega];exact IntWalk.i64_in _ (by have:=HT6.out;omega)
      rw[←ht1] at HK;clear ht1;go_wp2_with fail;go_roundg (((3 - key)*((m:Int)+1)+(m - ((s+1:Nat):Int))).toNat);case measure=>
       have h1:=HG9.out;have h2:=HMt.kv;have h3:0≤(3 - key)*((m:Int)+1):=Int.mul_nonneg jo jo;rw[h1];omega
      case rel=>exact⟨s+1,t1,key,YW k jx k',vj1,rfl,rfl,HK⟩
     ·have t2:(yr kx key == 0)=false:=by rw[ze7];simpa using he
      have hgt:key<kx:=by have:=HS.2.2.2 kx HKx.out;omega
      have hmt:MtI m (fun j=>(D j).C) k0 (YW k jx k') 1 (t+1) kx:=by
       have h1:=HS.out;have h2:=HKx.out;rw[HJx] at h1 h2 ⊢;exact HMt.more hsm (fun j hj=>(HM.ok j hj).asc) (fun j hj=>(HM.ok j hj).val) h1.1 h1.2.2.1 h2 hgt
      have HMt2:=vh hmt;have HGt:=vh hgt;clear hmt hgt;have HE:=vh he;clear he;go_upto_region 14 with (fail);refine zc (kss:=[[]]) [(10,.pointer (some (⟨g10,0,none⟩)))] [EV (.agg #[.int .i64 1,.int .i64 kx,.string S0])] 1 vk vt [false] ?_ ?_ ?_
      ·exact js
      ·exact⟨(fun aa ww hb he hd=>za rfl (zg (cs:=[.int .i64 1,.int .i64 kx,.string S0]) rfl vk vk he.1 (Blk.at_k (off:=0) (l:=[.int .i64 1,.int .i64 kx,.string S0]) X9.out rfl hb))),uC⟩
      intro vs w10 hb hR;refine vw0 ?_;clear hR;have hx10:=H9.1.keep hb;show wpOps _ _ _ [1,2] _ _;refine zb rfl rfl (zC (vs:=[.int .i64 1,.int .i64 kx,.string S0]) (off:=0) rfl rfl vk rfl rfl rfl hx10 vj4 (fun j _ _ x=>zD rfl j x) ?_);intro w11 kn hg hs hbx;refine zb rfl rfl (zl 7 (.const (.int .i64 1)) rfl rfl (.int .i64 1) rfl ?_);refine vs1 ?_;have hog:OutG (fun x=>x=g5) w9 w11:=(OutG.of_below hb).trans (OutG.of_grown hg rfl);have hgo:OutG (MeG gj m D) w w11:=⟨hog.os.trans H9.2.2.2.os,hog.tape.trans H9.2.2.2.tape,hog.output.trans H9.2.2.2.output,ud H9.2.2.2.size hog.size,fun x hx hn=>(hog.block x (uj hx H9.2.2.2.size) (fun e=>Nat.lt_irrefl x (uj hx (by rw[e];exact G5.out)))).trans (H9.2.2.2.block x hx hn)⟩;have hlg:∀x,x<w.heap.size→x≠g5:=fun x hx e=>Nat.lt_irrefl x (uj hx (by rw[e];exact G5.out));have HK:=vh (show MtI m (fun j=>(D j).C) k0 (YW k jx k') 1 (t+1) kx∧Blk w11 g5 89 #[.int .i64 1,.int .i64 kx,.string S0]∧(∀j,j<m→(D j).on w11 ((YW k jx k') j))∧JnB w11 gj rv av yf∧OutG (MeG gj m D) w w11 from⟨HMt2.out,hbx,fun j hj=>(H9.2.1 j hj).out hog (hlg _ (ItB.lt (HON.out j hj))),H9.2.2.1.out hog (hlg _ (by obtain⟨z,hz⟩:=HJn.out;exact hz.lt)),hgo⟩);clear hx10 kn hg hs hbx hog hgo hlg hb H9 X9;unfold wpOps;obtain⟨t1,ht1⟩:∃x,x=t+1:=⟨_,rfl⟩;have ew:IntKind.i64.wrap ((t:Int)+1)=(t1:Int):=by rw[ht1,show (t:Int)+1=((t+1:Nat):Int) by omega];exact IntWalk.i64_in _ (by have:=HT6.out;omega)
      rw[←ht1] at HK;clear ht1;go_wp2_with fail;go_roundg (((3 - kx)*((m:Int)+1)+(m - ((1:Nat):Int))).toNat);case measure=>
       have h1:=HG9.out;have h2:=HMt.kv;have h6:=HMt2.kv;have h7:=HMt.sm;have h8:=HGt.out;have h4:(3 - kx)*((m:Int)+1)≤(3 - key - 1)*(m+1):=Int.mul_le_mul_of_nonneg_right jo jo;have h5:(3 - key - 1)*((m:Int)+1)=(3 - key)*(m+1) - (m+1):=by rw[Int.sub_mul,Int.one_mul]
       have h3:0≤(3 - kx)*((m:Int)+1):=Int.mul_nonneg jo jo;rw[h1];omega
      case rel=>exact⟨1,t1,kx,YW k jx k',rfl,rfl,rfl,HK⟩
   ·have i1:¬((s:Int)<(m:Int)):=jo;obtain rfl:s=m:=by have:=HJ.1.sm;omega
    have HF:=vh HJ.out;clear HJ;go_wp2_with fail;go_ret;exact⟨true,k,rfl,⟨fun j hj=>uA (HF.1.on j hj),fun _=>⟨key,HF.1.kv,HF.1.all,HF.1.rem,HF.1.le⟩,fun h=>(by cases h)⟩,HF.2.2.1,HF.2.2.2.1,HF.2.2.2.2⟩
 ·have hk1:(D 0).C.length≤k0 0:=jo;refine zc (kss:=[[],[(0,13)],[(1,14)],[(2,15)],[(3,16)],[(4,12)],[(4,12)]]) [(1,.slice ((some IA)) m ic)] [EV (.slice ((some IA)) m ic),EV (.pointer (some (Addr.add IA (0*1)))),EV (.pointer (some (⟨g0,0,none⟩))),EV (.tuple #[.agg #[.int .i64 0,.int .i64 0,.string ⟨#[]⟩],.bool false]),EV (.tuple #[.agg #[.int .i64 0,.int .i64 0,.string ⟨#[]⟩],.bool false]),EV (.agg #[.int .i64 0,.int .i64 0,.string ⟨#[]⟩]),EV (.bool false)] 7 vk vt [false,false,false,false,false,false,false] ?_ ?_ ?_
  ·exact js
  ·exact⟨vi0,zsU,zqY,(fun aa ww hb he hd=>za rfl (zq _ _ _ rfl vk (by rw[show aa.eval (.tmp 15) = .pointer (some ⟨g0,0,none⟩) from hd.1,HG0];exact zU (zkH ((HON.out 0 HM.pos).below hb) hk1)))),vi2,vi8,vi8,uC⟩
  intro vs w1 hb hR;refine vs0 ?_;rw[(hR 5 jd:vs 5=_),(hR 6 jd:vs 6=_)];clear hR;show wpOps _ _ _ [7,8,9] _ _;refine zb rfl rfl (zfZ rfl ?_);refine jp 5 ?_;refine zb rfl rfl (zC (vs:=[.int .i64 0,.int .i64 0,.string ⟨#[]⟩]) (off:=0) rfl rfl vk rfl rfl rfl (Blk.new _ _ _) vj4 (fun j _ _ x=>zD rfl j x) ?_);intro w2 kn hg hs hbx;refine zb rfl rfl (zl 6 (.tmp 18) rfl rfl (.bool false) rfl ?_);refine vs1 ?_;have hbw:Below w1.heap.size w1 w2:=(al w1 _).grown hg (al w1 _).size (fun k e=>by cases e;exact ug _);obtain⟨g5,hgb⟩:∃g,g=w1.heap.size:=⟨_,rfl⟩;rw[←hgb] at hbx ⊢;clear kn hg hs;unfold wpOps;have h2:=ze hb hbw hb.size;have HB2:=vh h2;have G5:=vh (show w.heap.size≤g5 from by rw[hgb];exact hb.size);have X5:=vh hbx;clear hb hbw hgb hbx h2;go_wp2_with fail;go_ret;refine⟨false,k0,rfl,⟨fun j hj=>?_,fun h=>(by cases h),fun _ z=>RemP.none HM.pos hk1 z⟩,fun j hj=>(HON.out j hj).below HB2.out,HJn.below HB2.out,OutG.of_below HB2.out⟩;by_cases e:j=0
  ·subst e;exact HK0.out
  ·exact uA (HO0.out j jo hj)
def frT (rs:List (List Int)) (q:List Int) (j:Nat):Nat×Nat:=if j=0 then (0,0) else (zca rs (q.take j),stR rs (q.take (j - 1))+(chT rs (q.take (j - 1))).length)
theorem zjp (rs:List (List Int)) (q:List Int) (c:Int) (h:j≤q.length):frT rs (q++[c]) j=frT rs q j:=by
 unfold frT;by_cases e:j=0
 ·rw[if_pos e,if_pos e]
 ·rw[if_neg e,if_neg e,List.take_append_of_le_length h,List.take_append_of_le_length jo]
theorem zde (rs:List (List Int)) (q:List Int) (c:Int):frT rs (q++[c]) (q.length+1)=(zca rs (q++[c]),stR rs q+(chT rs q).length):=by
 unfold frT;rw[if_neg jo,um vz,Nat.add_sub_cancel,List.take_left'];rfl
structure ItS where
 g:Nat
 A:Option Addr
 c:Nat
 rs:List (List Int)
 d:Nat
def AtQ (w:World) (I:ItS) (q:List Int):Prop:=ItB w I.g I.A I.d I.c q.length (frT I.rs q q.length).1 (frT I.rs q q.length).2 (frT I.rs q)
structure ItS.Ok (I:ItS) (G:Nat→Prop) (w:World):Prop where
 tr:TrG G w I.A I.d (Yc I.rs) (zaP I.d I.rs)
 d32:I.d≤32
 gg:G I.g
 rk:RsOk I.d I.rs
 few:I.rs.length≤100000
theorem ItS.Ok.out {I:ItS} {G:Nat→Prop} (h:I.Ok G w) (ho:OutG G w w'):I.Ok G w':=⟨h.tr.out ho,h.d32,h.gg,h.rk,h.few⟩
def ItS.at_ (I:ItS) (q:List Int):ItD:=⟨I.g,I.A,I.d,I.c,q.length,stR I.rs q,chT I.rs q,Yc I.rs,zaP I.d I.rs,frT I.rs q⟩
theorem zgZ {rs:List (List Int)} {l:Nat}:(zT rs l).length≤rs.length:=by
 exact zqL
section
variable {I : ItS} {G : Nat → Prop} {w w' : World} {q : List Int} {k : Nat}
theorem AtQ.below (h:AtQ w I q) (hb:Below w.heap.size w w'):AtQ w' I q:=ItB.below h hb
theorem AtQ.out {G':Nat→Prop} (h:AtQ w I q) (ho:OutG G' w w') (hg:¬G' I.g):AtQ w' I q:=ItB.out h ho hg
theorem ItS.Ok.ok (h:I.Ok G w) (hl:q.length<I.d) (hq:q∈zT I.rs q.length):(I.at_ q).Ok G w:=by
 have hs:=zmp h.rk hl hq;have hf:=zgZ (rs:=I.rs) (l:=q.length+1);have hfew:=h.few;refine⟨h.tr,hl,h.d32,h.gg,fun u c hu=>?_,?_,?_,zjh _ _,fun c hc=>zoZ hc⟩
 ·have:=zo0 h.rk hl hq hu;show zv (Yc I.rs q.length) (stR I.rs q+u)=c;unfold zv;rw[List.getD_eq_getElem?_getD,this];rfl
 ·show stR I.rs q+(chT I.rs q).length≤(Yc I.rs q.length).length;rw[za7];exact hs
 ·show stR I.rs q+(chT I.rs q).length≤1000000;omega
theorem AtQ.of_on (h:(I.at_ q).on w k) (ho:RsOk I.d I.rs) (hl:q.length<I.d) (hq:q∈zT I.rs q.length) {c:Int} (hk:(chT I.rs q)[k]? = some c):AtQ w I (q++[c]):=by
 have e:=zbK ho hl hq hk;have hlen:(q++[c]).length=q.length+1:=vz;unfold AtQ;rw[hlen,zde,e];exact ItB.congr h fun j hj=>(zjp I.rs q c (by have:j<q.length+1:=hj;omega)).symm
theorem AtQ.to_on {c:Int} (h:AtQ w I (q++[c])) (ho:RsOk I.d I.rs) (hl:q.length<I.d) (hq:q∈zT I.rs q.length) (hk:(chT I.rs q)[k]? = some c):(I.at_ q).on w k:=by
 have e:=zbK ho hl hq hk;have hlen:(q++[c]).length=q.length+1:=vz;unfold AtQ at h;rw[hlen,zde,e] at h;exact ItB.congr h fun j hj=>zjp I.rs q c (by have:j<q.length+1:=hj;omega)
theorem ItB.cast {p' e':Nat} {fr fr':Nat→Nat×Nat} (h:ItB w g A d c L p e fr) (hp:p=p') (he:e=e') (hf:∀j,j<L→fr j=fr' j):ItB w g A d c L p' e' fr':=by
 subst hp;subst he;exact h.congr hf
theorem zmF (h:AtQ w I q) (ho:I.Ok G w) (hl:q.length<I.d) (hq:q∈zT I.rs q.length):Calls Tryz.prog 96 #[.pointer (some ⟨I.g,0,none⟩)] w fun e w'=>e = .returned (.bool true)∧(I.at_ q).on w' 0∧OutG (fun x=>x=I.g) w w':=by
 have hch:=zfS ho.rk hl hq;have hd32:=ho.d32;by_cases h0:q.length=0
 ·have e0:q=[]:=uo h0;subst e0;have hst:stR I.rs []=0:=by
   unfold stR;have hlt:=zfR hq;have h1:=ZR ho.rk 0;have h2:∀x∈zT I.rs 0,x=[]:=fun x hx=>uo (ZS ho.rk jo hx);have h3:zca I.rs []=0:=by
    rcases Nat.eq_zero_or_pos (zca I.rs []) with h4 | h4
    ·exact h4
    ·exfalso;have hlt':zca I.rs []<(zT I.rs 0).length:=hlt;have a1:=h2 _ (List.getElem_mem (show 0<(zT I.rs 0).length by omega));have a2:=h2 _ (List.getElem_mem hlt');have:=(List.getElem_inj h1).1 (a1.trans a2.symm);omega
   rw[h3];exact zkv _ _
  have hsz:(Yc I.rs 0).length=(chT I.rs []).length:=by
   rw[za7];have h1:=zbm ho.rk hq;have h2:=ze2 h1;have h3:=zgS ho.rk (l:=0) hl;have h4:(zT I.rs 0).length=zca I.rs []+1:=by
    have hlt:=zfR hq;have hlt':zca I.rs []<(zT I.rs 0).length:=hlt;rcases Nat.lt_or_ge (zca I.rs []+1) (zT I.rs 0).length with h5 | h5
    ·exfalso;have h6:∀x∈zT I.rs 0,x=[]:=fun x hx=>uo (ZS ho.rk jo hx);have a1:=h6 _ (List.getElem_mem hlt');have a2:=h6 _ (List.getElem_mem h5);have:=(List.getElem_inj (ZR ho.rk 0)).1 (a1.trans a2.symm);omega
    ·omega
   rw[h4] at h3;have h5:za6 I.rs ([]:List Int).length (zca I.rs [])=0:=hst;simp only[List.length_nil] at h2 h5 h3;omega
  refine(QA.topen_top h ho.tr rfl hl hd32 (by rw[hsz];exact hch)).mono fun e w' ⟨h1,h2,h3⟩=>⟨h1,?_,h3⟩
  refine ItB.cast h2 hst.symm (by show (Yc I.rs 0).length=stR I.rs []+(chT I.rs []).length;rw[hst,hsz,Nat.zero_add]) fun j hj=>?_;have hj0:j=0:=by have:j<0+1:=hj;omega
  subst hj0;rfl
 ·obtain⟨q0,c,rfl⟩:∃q0 c,q=q0++[c]:=by
   rcases List.eq_nil_or_concat q with e | ⟨m,y,e⟩
   ·exact absurd (by rw[e];rfl) h0
   ·exact⟨m,y,by rw[e,List.concat_eq_append]⟩
  have hlen:(q0++[c]).length=q0.length+1:=vz;have hat:=h;have hl0:q0.length<I.d:=jo;obtain⟨r,hr1,hr2⟩:=mem_preT.1 hq;have hq0:q0∈zT I.rs q0.length:=mem_preT.2 ⟨r,hr1,by
   have:=ut (List.take q0.length) hr2
   rw[List.take_take,Nat.min_eq_left jo,List.take_left] at this
   exact this⟩
  have hc0:c∈chT I.rs q0:=(zbl ho.rk hl0).2 ⟨r,hr1,by rw[←hlen];exact hr2⟩;obtain⟨k0,hk0,e0⟩:=List.getElem_of_mem hc0;have hk0':(chT I.rs q0)[k0]? = some c:=by rw[uf hk0,e0]
  have hix:=zbK ho.rk hl0 hq0 hk0';unfold AtQ at hat;rw[hlen] at hat hl hq;rw[zde,hix] at hat;have hp1:=zfR (q:=q0++[c]) (by rw[hlen];exact hq);rw[hlen,hix] at hp1;have hf0:=zji ho.rk (l:=q0.length) hl (uA hp1);have hf1:=zji ho.rk (l:=q0.length) hl (show stR I.rs q0+k0+1≤_ from hp1);have hat2:=zbm ho.rk (q:=q0++[c]) (by rw[hlen];exact hq);rw[hlen,hix] at hat2;have hos:=ze2 hat2;have hst:stR I.rs (q0++[c])=za6 I.rs (q0.length+1) (stR I.rs q0+k0):=by unfold stR;rw[hlen,hix];rfl
  have hfl:(zaP I.d I.rs q0.length).length≤1000000:=by
   rw[zmq];have:=zgZ (rs:=I.rs) (l:=q0.length+1);have:=ho.few;omega
  refine(QB.topen_any (l:=q0.length) hat ho.tr rfl hl hd32 jo hf0 hf1 (by rw[hos];omega) hfl).mono fun e w' ⟨h1,h2,h3⟩=>⟨h1,?_,h3⟩
  show ItB w' I.g I.A I.d I.c ((q0++[c]).length+1) (stR I.rs (q0++[c])+0) (stR I.rs (q0++[c])+(chT I.rs (q0++[c])).length) (frT I.rs (q0++[c]));rw[hlen];refine ItB.cast h2 hst.symm (by rw[hos,hst]) fun j hj=>?_;by_cases e2:j=q0.length+1
  ·rw[if_pos e2,e2,zde,hix]
  ·rw[if_neg e2]
theorem zr9 (h:(I.at_ q).on w k) (ho:I.Ok G w) (hl:q.length<I.d):Calls Tryz.prog 100 #[.pointer (some ⟨I.g,0,none⟩)] w fun e w'=>e = .returned (.bool true)∧AtQ w' I q∧OutG (fun x=>x=I.g) w w':=
 (zo7 (l:=q.length) h rfl (by have:=ho.d32;show q.length+1≤32;omega)).mono fun e w' ⟨h1,h2,h3⟩=>⟨h1,h2,h3⟩
end
structure JnS where
 n:Nat
 na:Nat
 gj:Nat
 gr:Nat
 gc:Nat
 rc:Nat
 ga:Nat
 ac:Nat
 I:Nat→ItS
 ats:List (List Nat×List (List Int))
 IA:Nat→Addr
 ic:Nat→Nat
def JnS.at_ (S:JnS) (i:Nat):List Nat×List (List Int):=S.ats.getD i ([],[])
def JnS.its (S:JnS) (v:Nat):List Nat:=(List.range S.na).filter fun i=>decide (v∈(S.at_ i).1)
def JnS.row (S:JnS):Value:= .slice (some ⟨S.gr,0,none⟩) S.n S.rc
def JnS.av (S:JnS):Value:= .slice (some ⟨S.ga,0,none⟩) S.n S.ac
def JnS.yf (S:JnS):Value:= .func (.func 35) #[] #[.pointer (some ⟨S.gc,0,none⟩)]
def JnS.G (S:JnS) (x:Nat):Prop:=x=S.gj∨x=S.gr∨x=S.gc∨∃i,i<S.na∧x=(S.I i).g
def JnS.D (S:JnS) (v:Nat) (x:Nat→Nat) (j:Nat):ItD:=(S.I ((S.its v).getD j 0)).at_ (yO (S.at_ ((S.its v).getD j 0)) v x)
structure JnS.Ok (S:JnS) (w:World):Prop where
 n32:S.n≤32
 na:S.na=S.ats.length
 na32:S.na≤1000
 wf:WfA S.n S.ats
 it:∀i,i<S.na→(S.I i).Ok S.G w∧(S.I i).rs=(S.at_ i).2∧(S.I i).d=(S.at_ i).1.length
 ne:∀i j,i<S.na→j<S.na→i≠j→(S.I i).g≠(S.I j).g
 cov:∀v,v<S.n→∃i,i<S.na∧v∈(S.at_ i).1
 lst:∀v,v<S.n→RdG S.G w 170 1 (some (S.IA v)) (S.its v).length ((S.its v).map fun i=> .pointer (some ⟨(S.I i).g,0,none⟩))
 at_:RdG S.G w 164 1 (some ⟨S.ga,0,none⟩) S.n ((List.range S.n).map fun v=> .slice (some (S.IA v)) (S.its v).length (S.ic v))
theorem JnS.Ok.out {S:JnS} (h:S.Ok w) (ho:OutG S.G w w'):S.Ok w':=⟨h.n32,h.na,h.na32,h.wf,fun i hi=>⟨(h.it i hi).1.out ho,(h.it i hi).2⟩,h.ne,h.cov,fun v hv=>(h.lst v hv).out ho,h.at_.out ho⟩
structure JnS.St (S:JnS) (w:World) (cnt:Nat):Prop where
 jn:JnB w S.gj S.row S.av S.yf
 rw_:∃cs,Blk w S.gr 89 cs∧cs.size=S.n*3∧∀(j:Nat) (x:Int),cs[j]?≠some (Value.int .u32 x)
 ct:Blk w S.gc 36 #[.int .u64 ((cnt:Nat):Int)]
theorem JnS.St.below {S:JnS} (h:S.St w cnt) (hb:Below w.heap.size w w'):S.St w' cnt:=by
 obtain⟨cs,h1,h2⟩:=h.rw_;exact⟨h.jn.below hb,⟨cs,h1.keep hb,h2⟩,h.ct.keep hb⟩
theorem JnS.St.ne {S:JnS} (h:S.St w cnt):S.gj≠S.gr∧S.gj≠S.gc∧S.gr≠S.gc:=by
 obtain⟨cs,h1,h2⟩:=h.rw_;obtain⟨z,h3⟩:=h.jn;exact⟨Blk.ne_ h3 h1 jd,Blk.ne_ h3 h.ct jd,Blk.ne_ h1 h.ct jd⟩
theorem ItB.neb {g':Nat} {t:TypeId} {cs:Array Value} {fr:Nat→Nat×Nat} (h:ItB w g A d c L p e fr) (h':Blk w g' t cs) (hne:211≠t):g≠g':=by
 obtain⟨cs',z,hb,_⟩:=h;exact Blk.ne_ hb h' hne
theorem JnS.St.nei {S:JnS} (h:S.St w cnt) {fr:Nat→Nat×Nat} (hi:ItB w g A d c L p e fr):g≠S.gj∧g≠S.gr∧g≠S.gc:=by
 obtain⟨cs,h1,h2⟩:=h.rw_;obtain⟨z,h3⟩:=h.jn;exact⟨hi.neb h3 jd,hi.neb h1 jd,hi.neb h.ct jd⟩
theorem JnS.St.out {S:JnS} {G':Nat→Prop} (h:S.St w cnt) (ho:OutG G' w w') (h1:¬G' S.gj) (h2:¬G' S.gr) (h3:¬G' S.gc):S.St w' cnt:=by
 obtain⟨cs,a1,a2⟩:=h.rw_;exact⟨h.jn.out ho h1,⟨cs,ho.blk a1 h2,a2⟩,ho.blk h.ct h3⟩
section
variable {S : JnS} {w w' : World} {v : Nat} {x : Nat → Nat}
theorem JnS.mem_its:i∈S.its v↔i<S.na∧v∈(S.at_ i).1:=by simp[JnS.its]
theorem JnS.its_nodup:(S.its v).Nodup:=(List.nodup_range).filter _
theorem JnS.its_at (h:j<(S.its v).length):(S.its v)[j]? = some ((S.its v).getD j 0):=by rw[List.getD_eq_getElem?_getD,uf h];rfl
theorem JnS.its_mem (h:j<(S.its v).length):(S.its v).getD j 0<S.na∧v∈(S.at_ ((S.its v).getD j 0)).1:=JnS.mem_its.1 (ui (JnS.its_at h))
theorem JnS.Ok.at_mem (h:S.Ok w) (hi:i<S.na):S.at_ i∈S.ats:=by
 unfold JnS.at_;rw[List.getD_eq_getElem?_getD,uf (by rw[←h.na];exact hi)];exact List.getElem_mem _
theorem JnS.Ok.pos (h:S.Ok w) (hv:v<S.n):0<(S.its v).length:=by
 obtain⟨i,hi,hm⟩:=h.cov v hv;exact List.length_pos_of_mem (JnS.mem_its.2 ⟨hi,hm⟩)
theorem JnS.its_le:(S.its v).length≤S.na:=by
 have:=List.length_filter_le (fun i=>decide (v∈(S.at_ i).1)) (List.range S.na);rwa [List.length_range] at this
theorem JnS.Ok.pre (h:S.Ok w) (hi:i<S.na) (hp:PreOk S.ats v x):yO (S.at_ i) v x∈zT (S.I i).rs (yO (S.at_ i) v x).length:=by
 rw[(h.it i hi).2.1];exact hp _ (h.at_mem hi)
theorem JnS.Ok.low (h:S.Ok w) (hi:i<S.na) (hm:v∈(S.at_ i).1):(yO (S.at_ i) v x).length<(S.I i).d:=by
 rw[za8,(h.it i hi).2.2];exact zfV (h.wf _ (h.at_mem hi)).1.1 hm
theorem JnS.Ok.ok (h:S.Ok w) (hp:PreOk S.ats v x) (hj:j<(S.its v).length):(S.D v x j).Ok S.G w:=by
 obtain⟨hi,hm⟩:=JnS.its_mem hj;exact(h.it _ hi).1.ok (h.low hi hm) (h.pre hi hp)
theorem JnS.D_ne (h:S.Ok w) (hi:i<(S.its v).length) (hj:j<(S.its v).length) (hne:i≠j):(S.D v x i).g≠(S.D v x j).g:=by
 refine h.ne _ _ (JnS.its_mem hi).1 (JnS.its_mem hj).1 fun e=>hne ?_;have a1:=JnS.its_at hi;have a2:=JnS.its_at hj;rw[e] at a1;exact(List.getElem?_inj hi JnS.its_nodup).1 (a1.trans a2.symm)
theorem JnS.Ok.mt (h:S.Ok w) (hv:v<S.n) (hp:PreOk S.ats v x) (hgj:∀j,j<(S.its v).length→(S.D v x j).g≠S.gj):MtW S.G w S.gj (S.its v).length (S.D v x) (S.IA v):=by
 refine⟨h.pos hv,ud JnS.its_le h.na32,?_,fun j hj=>h.ok hp hj,fun i j hi hj=>JnS.D_ne h hi hj,hgj,.inl rfl⟩;have e:zmE (S.D v x) (S.its v).length=(S.its v).map fun i=> .pointer (some ⟨(S.I i).g,0,none⟩):=by
  refine List.ext_getElem? fun j=>?_;rcases Nat.lt_or_ge j (S.its v).length with hj | hj
  ·rw[zjo hj,uz,JnS.its_at hj];rfl
  ·rw[List.getElem?_eq_none (by simpa [zmE] using hj),List.getElem?_eq_none (by simpa using hj)]
 rw[e];exact h.lst v hv
theorem JnS.Ok.slot (h:S.Ok w) (hv:v<S.n):w.cell? ⟨S.ga,v,none⟩=some (.slice (some (S.IA v)) (S.its v).length (S.ic v)):=by
 obtain⟨ad,e,hc⟩:=h.at_.cell (j:=v) (u:= .slice (some (S.IA v)) (S.its v).length (S.ic v)) (by simp[hv]);injection e with e;subst e;rwa [Addr.add_mid,Nat.zero_add] at hc
end
end Go.Proofs.YtoecdobelolkeaaGreatDoor
