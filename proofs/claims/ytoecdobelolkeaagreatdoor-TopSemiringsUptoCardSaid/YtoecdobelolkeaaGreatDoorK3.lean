/- Part of TopSemirings. -/
import Derived.Test.YtoecdobelolkeaaGreatDoorK2
set_option linter.unusedVariables false
set_option linter.unusedSimpArgs false
set_option maxRecDepth 100000
set_option maxHeartbeats 8000000
namespace Go.Proofs.YtoecdobelolkeaaGreatDoor
open Go.RowKit
variable {k n c g base i:Nat} {w w':World} {p ad:Addr} {Q:Exit→Act→World→Prop} {cs z:Array Value} {e ty:TypeId} {u:Value} {y:Operand} {K:Act→World→Prop} {ops:Array Oper}
def S0:ByteArray:=⟨#[]⟩
def VC (x:Int):List Value:=[.int .i64 1,.int .i64 x,.string S0]
def VA (x:Int):Value:= .agg #[.int .i64 1,.int .i64 x,.string S0]
def VR:List Int→List Value
 |[]=>[]
 |x :: l=>VC x++VR l
theorem zez:∀xs:List Int,(VR xs).length=xs.length*3
 |[]=>rfl
 |x :: l=>by rw[VR,ul,zez l,List.length_cons];show 3+l.length*3=_;omega
theorem zam:∀xs ys:List Int,VR (xs++ys)=VR xs++VR ys
 |[],ys=>rfl
 |x :: l,ys=>by rw[List.cons_append,VR,VR,zam l ys,List.append_assoc]
theorem zlv:∀ {xs:List Int} {k:Nat},k<xs.length→(VR xs)[k*3]? = some (.int .i64 1)∧(VR xs)[k*3+1]? = some (.int .i64 (zv xs k))∧(VR xs)[k*3+2]? = some (.string S0)
 |[],k,h=>absurd h vz
 |x :: l,0,_=>⟨rfl,rfl,rfl⟩
 |x :: l,k+1,h=>by
  have ih:=zlv (xs:=l) (k:=k) zej
  have e:∀j,(VR (x :: l))[3+j]? = (VR l)[j]?:=fun j=>by
   rw[VR,List.getElem?_append_right (by show 3≤3+j;omega)]
   show (VR l)[3+j - 3]? = _
   rw[show 3+j - 3=j by omega]
  rw[show (k+1)*3=3+k*3 by omega,show 3+k*3+1=3+(k*3+1) by omega,show 3+k*3+2=3+(k*3+2) by omega,e,e,e]
  exact ih
def RwX (w:World) (B:Nat) (A:Option Addr) (n:Nat) (xs:List Int):Prop:=Reads w B 3 A n (VR xs)∧(n=xs.length∧n≤1000000)∧∀x∈xs,0≤x∧x≤9
section
variable {w w' : World} {B B' n k : Nat} {A : Option Addr} {xs : List Int}
theorem RwX.below (h:RwX w B A n xs) (hb:Below B w w'):RwX w' B A n xs:=⟨h.1.below hb,h.2⟩
theorem RwX.more (h:RwX w B A n xs) (hB:B≤B'):RwX w B' A n xs:=⟨h.1.more hB,h.2⟩
theorem RwX.new (h:RwX w w.heap.size A n xs) (hb:Below w.heap.size w w'):RwX w' w'.heap.size A n xs:=(h.below hb).more hb.size
theorem RwX.lt (h:RwX w B A n xs) (hk:k<n):0≤zv xs k∧zv xs k≤9:=h.2.2 _ (Yi (by rw[←h.2.1.1];exact hk))
theorem RwX.at_ (h:RwX w B A n xs) (hk:k<n):∃ad,A=some ad∧ad.block<B∧w.cell? (ad.add (k*3))=some (.int .i64 1)∧w.cell? (ad.add (k*3+1))=some (.int .i64 (zv xs k))∧w.cell? (ad.add (k*3+2))=some (.string S0):=by
 obtain⟨ad,h1,h2,h3⟩:=h.1.2 jo;obtain⟨g0,g1,g2⟩:=zlv (xs:=xs) (k:=k) (by rw[←h.2.1.1];exact hk);exact⟨ad,h1,h2,h3 _ _ g0,h3 _ _ g1,h3 _ _ g2⟩
end
theorem zhF (a b:Int) (w:World):Calls Tryz.prog 163 #[.int .i64 a,.int .i64 b] w fun e w'=>e = .returned (.int .i64 (yr a b))∧w=w':=by
 by_cases h1:a<b
 ·rw[show yr a b = -1 by simp[yr,h1]];exact znQ
 ·by_cases h2:b<a
  ·rw[show yr a b=1 by simp[yr,h1,h2]];exact znQ
  ·rw[show yr a b=0 by simp[yr,h1,h2]];exact znQ
theorem vn8 {P:Prop} (h:P:=by
 unfold VA;go_enter Tryz.func138,Tryz.ntmps138;go_upto_region 1 with (fail);have hbw:=vr23 (vr24 w (.cells #[.int .i64 1,.int .i64 x,.string S0] 89)) (vr24 _ (.cells #[.int .i64 1,.int .i64 y,.string S0] 89)) vz;have HX:=vh ((Blk.new w 89 #[.int .i64 1,.int .i64 x,.string S0]).keep (al _ (.cells #[.int .i64 1,.int .i64 y,.string S0] 89)));have HY:=vh (Blk.new (w.alloc (.cells #[.int .i64 1,.int .i64 x,.string S0] 89)) 89 #[.int .i64 1,.int .i64 y,.string S0]);rw[show (w.alloc (.cells #[.int .i64 1,.int .i64 x,.string S0] 89)).heap.size=w.heap.size+1 from by simp] at HY;have HB:=vh hbw;clear hbw;generalize (w.alloc (.cells #[.int .i64 1,.int .i64 x,.string S0] 89)).alloc (.cells #[.int .i64 1,.int .i64 y,.string S0] 89)=w1 at *;obtain⟨g2,hg2⟩:=vx (w.heap.size);obtain⟨g3,hg3⟩:=vx (w.heap.size+1);rw[←hg3] at HY ⊢;rw[←hg2] at HX ⊢;have HGg2:=vh (show w.heap.size≤g2∧w.heap.size≤g3 from by omega);clear hg2 hg3;have x0:=Blk.at0 HX.out (ue _ _);have x1:=Blk.at1 HX.out (ue _ _);have x2:=Blk.at2 HX.out (ue _ _);have y0:=Blk.at0 HY.out (ue _ _);have y1:=Blk.at1 HY.out (ue _ _);have y2:=Blk.at2 HY.out (ue _ _);by_cases hxy:x=y
 ·subst hxy;go_wp2_with fail;refine(Tryz.strings_Compare S0 S0 _).mono ?_;rintro e w2 ⟨rfl,rfl⟩;go_wp2_with fail;go_ret;exact⟨by rw[show yr x x=0 from by simp[yr]];rfl,HB.out⟩
 ·have t0:(x != y)=true:=by simpa using hxy
  go_wp2_with fail;refine(zhF x y _).mono ?_;rintro e w2 ⟨rfl,rfl⟩;go_wp2_with fail;go_ret;exact⟨rfl,HB.out⟩):P:=h
theorem QA.vr23:type_of% @ze:=@ze
theorem QA.vr24:type_of% @al:=@al
abbrev QA.ins8:Nat:=0
theorem QA.vcompare_any (x y:Int) (w:World):Calls Tryz.prog 138 #[VA x,VA y] w fun e w'=>e = .returned (.int .i64 (yr x y))∧Below w.heap.size w w':=by
 exact vn8
theorem zhG (x:Int) (w:World):Calls Tryz.prog 132 #[VA x] w fun e w'=>e = .returned (.bool true)∧Below w.heap.size w w':=by
 unfold VA;go_enter Tryz.func132,Tryz.ntmps132;go_upto_region 1 with (fail);have hbw:=al w (.cells #[.int .i64 1,.int .i64 x,.string S0] 89);have HX:=vh (Blk.new w 89 #[.int .i64 1,.int .i64 x,.string S0]);have HB:=vh hbw;clear hbw;generalize w.alloc (.cells #[.int .i64 1,.int .i64 x,.string S0] 89)=w1 at *;obtain⟨g2,hg2⟩:=vx (w.heap.size);rw[←hg2] at HX ⊢;have HGg2:=vh (show w.heap.size≤g2 from by omega);clear hg2;have x0:=Blk.at0 HX.out (ue _ _);have x1:=Blk.at1 HX.out (ue _ _);have x2:=Blk.at2 HX.out (ue _ _);have hs:S0.toList.isEmpty=true:=by first | kernel_rfl | decide +kernel | rfl
 go_wp2_with fail;go_ret;exact⟨rfl,HB.out⟩
theorem zbY (w:World) (p:Addr) (x y z:Value) (h0:w.cell? p=some x) (h1:w.cell? (p.add 1)=some y) (h2:w.cell? (p.add 2)=some z):(loadVar 89 p).run Tryz.prog w = .ok (.agg #[x,y,z]) w:=by
 obtain⟨i,hi,hz,hs1,hby⟩:=info_parts (P:=Tryz.prog) (e:=89) (z:= .agg #[.int .i64 0,.int .i64 0,.string ⟨#[]⟩]) (size:=3) (bytes:=32) vk;have hl:=run_loadCells_list (P:=Tryz.prog) w p [x,y,z] (fun j v hv=>by
  match j with
  |0=>simp at hv;subst hv;simpa [Addr.add] using h0
  |1=>simp at hv;subst hv;exact h1
  |2=>simp at hv;subst hv;exact h2
  |j+3=>simp at hv)
 have hagg:(isAgg 89).run Tryz.prog w = .ok true w:=by
  unfold isAgg;rw[Sem.run_bind,run_underlying Tryz.underlying89 w];rfl
 simp only[List.length_cons,List.length_nil,Nat.zero_add,Nat.reduceAdd] at hl;simp[loadVar,sizeOf,typeInfo,hi,hs1,hl,hagg]
section
variable {o : Oper} {a : Act} {w : World} {t : Tmp}
theorem zfm {ad:Addr} {n c k:Nat} {y:Operand} (hk:k<n) (ho:o.op = .indexAddr 87 (.tmp t) y) (h:tv a t = .slice (some ad) n c) (h2:a.eval y = .int .i64 (k:Int)):zp Tryz.prog o a.eval w (fun v w'=>v = .pointer (some (ad.add (k*3)))∧Below w.heap.size w w'):=by
 refine zo (.pointer (some (ad.add (k*3)))) ?_ ⟨rfl,ue _ _⟩;exact vt84
theorem zfn {B:Nat} {xs:List Int} (ho:o.op = .load 89 (.tmp t)) (hx:tv a t = .pointer (some (ad.add (k*3)))) (h:RwX w B (some ad) n xs) (hk:k<n):zp Tryz.prog o a.eval w (fun v w'=>v=VA (zv xs k)∧Below w.heap.size w w'):=by
 obtain⟨ad',e,-,h0,h1,h2⟩:=h.at_ hk;cases e;have hl:=zbY w (ad.add (k*3)) _ _ _ h0 (by rw[Addr.add_add];exact h1) (by rw[Addr.add_add];exact h2);refine zo (VA (zv xs k)) ?_ ⟨rfl,ue _ _⟩;exact vt70
end
def zH:List Int→List Int→Int
 |[],[]=>0
 |[],_ :: _=> -1
 |_ :: _,[]=>1
 |x :: l,y :: m=>if x=y then zH l m else yr x y
theorem zlw:∀ {xs ys:List Int} {i:Nat},(∀j,j<i→zv xs j=zv ys j)→i<xs.length→i<ys.length→zv xs i≠zv ys i→zH xs ys=yr (zv xs i) (zv ys i)
 |[],_,_,_,h,_,_=>absurd h vz
 |_ :: _,[],_,_,_,h,_=>absurd h vz
 |x :: l,y :: m,0,_,_,_,hne=>if_neg hne
 |x :: l,y :: m,i+1,he,h1,h2,hne=>by
  have h0:x=y:=he 0 jo
  rw[zH,if_pos h0]
  exact zlw (xs:=l) (ys:=m) (i:=i) (fun j hj=>he (j+1) jo) zf5 (by simpa using h2) hne
theorem ziL:∀ {xs ys:List Int},(∀j,j<xs.length→j<ys.length→zv xs j=zv ys j)→zH xs ys=YE xs.length ys.length
 |[],[],_=>rfl
 |[],_ :: _,_=>by simp[zH,YE]
 |_ :: _,[],_=>by simp[zH,YE]
 |x :: l,y :: m,h=>by
  have h0:x=y:=h 0 vz vz
  rw[zH,if_pos h0,ziL (xs:=l) (ys:=m) (fun j h1 h2=>h (j+1) zf5 (by simpa using h2))]
  simp[YE]
theorem zom {x y:Int} (h:x≠y):yr x y≠0:=by
 unfold yr;split
 ·decide
 ·split
  ·decide
  ·omega
theorem vn6 {P:Prop} (h:P:=by
 have HA:=vh hA;have HB0:=vh hB;clear hA hB;go_enter Tryz.func133,Tryz.ntmps133;have hmin:(min (n:Int) (m:Int))=((min n m:Nat):Int):=jo;obtain⟨k,hk⟩:=vx (min n m);have HK:=vh hk;rw[←hk] at hmin;clear hk;go_wp2_with fail;first
 |guard_expr ins6 =~ 0
  go_loopg [14] k (fun g iv wr=>∃i:Nat,iv = .int .i64 i∧i+g=k∧Hid ((∀j,j<i→zv xs j=zv ys j)∧Below w.heap.size w wr))
  case atStart=>exact⟨0,rfl,jo,vh ⟨fun j hj=>absurd hj jo,ue _ _⟩⟩
 |go_loopg [14] k (fun g iv wr=>∃i:Nat,iv = .int .i64 i∧i+g=k∧Hid ((∀j,j<i→zv xs j=zv ys j)∧BelowD w.heap.size w wr))
  case atStart=>exact⟨0,rfl,jo,vh ⟨fun j hj=>absurd hj jo,BelowD.refl _ _⟩⟩
 case round=>
  obtain⟨i,rfl,hik,HI⟩:=hrel;by_cases hi:i<k
  ·have i1:((i:Int)<(k:Int)):=jo;have hkn:k≤n∧k≤m:=by have:=HK.out;omega
   have hn6:n≤1000000:=HA.2.1.2;obtain⟨adA,hAA,-⟩:=HA.at_ (k:=i) jo;obtain⟨adB,hBB,-⟩:=HB0.at_ (k:=i) jo;subst hAA;subst hBB;go_upto_region 4 with (fail);first
   |guard_expr ins6 =~ 0
    refine wp_region_each (kss:=[[],[],[(0,17),(1,18)],[(2,19)],[],[],[(4,21),(5,22)],[(6,23)],[(3,20),(7,24)],[(8,25)]]) [(0,.slice (some adA) n c),(7,.int .i64 ((i:Int))),(1,.slice (some adB) m d)] [EV (.slice (some adA) n c),EV (.int .i64 ((i:Int))),EV (.pointer (some (Addr.add adA (i*3)))),EV (VA (zv xs i)),EV (.slice (some adB) m d),EV (.int .i64 ((i:Int))),EV (.pointer (some (Addr.add adB (i*3)))),EV (VA (zv ys i)),EV (.int .i64 ((yr (zv xs i) (zv ys i)))),EV (.int .i64 ((yr (zv xs i) (zv ys i))))] vk vk vt ?_ ?_ ?_
   |refine D.wp_region_each (kss:=[[],[],[(0,17),(1,18)],[(2,19)],[],[],[(4,21),(5,22)],[(6,23)],[(3,20),(7,24)],[(8,25)]]) [(0,.slice (some adA) n c),(7,.int .i64 ((i:Int))),(1,.slice (some adB) m d)] [fun zz _=>zz = .slice (some adA) n c,fun zz _=>zz = .int .i64 ((i:Int)),fun zz _=>zz = .pointer (some (Addr.add adA (i*3))),fun zz _=>zz=VA (zv xs i),fun zz _=>zz = .slice (some adB) m d,fun zz _=>zz = .int .i64 ((i:Int)),fun zz _=>zz = .pointer (some (Addr.add adB (i*3))),fun zz _=>zz=VA (zv ys i),fun zz _=>zz = .int .i64 ((yr (zv xs i) (zv ys i))),fun zz _=>zz = .int .i64 ((yr (zv xs i) (zv ys i)))] vk vk vt ?_ ?_ ?_
   ·first
    |guard_expr ins6 =~ 0
     exact js
    |exact⟨fun _ _ _ h _=>h,fun _ _ _ h _=>h,fun _ _ _ h _=>h,fun _ _ _ h _=>h,fun _ _ _ h _=>h,fun _ _ _ h _=>h,fun _ _ _ h _=>h,fun _ _ _ h _=>h,fun _ _ _ h _=>h,fun _ _ _ h _=>h,uC⟩
   ·refine⟨?_,?_,?_,?_,?_,?_,?_,?_,?_,?_,uC⟩
    ·first
     |guard_expr ins6 =~ 0
      exact fun _ _ _ he hd=>yM rfl rfl he.1
     |exact fun aa ww hb he hd=>za rfl (zi _ rfl ⟨he.1,BelowD.refl _ _⟩)
    ·exact vt53
    ·exact zqN
    ·first
     |guard_expr ins6 =~ 0
      exact fun aa ww hb he hd=>za rfl (zfn rfl hd.1 ((HA.below (ze HI.2 hb HI.2.size))) jo)
     |exact fun aa ww hb he hd=>za rfl (zgv rfl hd.1 ((HA.below (zaF HI.2 hb HI.2.size).b)) jo)
    ·first
     |guard_expr ins6 =~ 0
      exact fun _ _ _ he hd=>yM rfl rfl he.2.2.1
     |exact fun aa ww hb he hd=>za rfl (zi _ rfl ⟨he.2.2.1,BelowD.refl _ _⟩)
    ·exact vt53
    ·exact zqN
    ·first
     |guard_expr ins6 =~ 0
      exact fun aa ww hb he hd=>za rfl (zfn rfl hd.1 ((HB0.below (ze HI.2 hb HI.2.size))) jo)
     |exact fun aa ww hb he hd=>za rfl (zgv rfl hd.1 ((HB0.below (zaF HI.2 hb HI.2.size).b)) jo)
    ·exact fun aa ww hb he hd=>za rfl (zE _ _ _ _ rfl vk (by rw[show aa.eval (.tmp 20)=_ from hd.1,show aa.eval (.tmp 24)=_ from hd.2.1];exact vr18 (vr19 _ _ _)))
    ·first
     |guard_expr ins6 =~ 0
      exact fun aa ww hb he hd=>za rfl (YO _ rfl ⟨hd.1,ue _ _⟩)
     |exact fun aa ww hb he hd=>za rfl (YO _ rfl ⟨hd.1,BelowD.refl _ _⟩)
   intro vs w2 hb hR;refine vs0 ?_;rw[(hR 9 jd:vs 9=_)];clear hR;have HW:=vh (vr20 HI.2 hb HI.2.size);clear hb;have HE:=vh HI.1;clear HI;by_cases hxy:zv xs i=zv ys i
   ·rw[hxy,show yr (zv ys i) (zv ys i)=0 from by simp[yr]];have HXY:=vh hxy;clear hxy;go_wp2_with fail;go_roundg (gk - 1);case measure=>omega
    case rel=>exact⟨i+1,vj1,jo,vh ⟨fun j hj=>by
     by_cases e:j=i
     ·subst e;exact HXY.out
     ·exact HE.out j jo,HW.out⟩⟩
   ·have hlx:=zlw HE.out (by rw[←HA.2.1.1];omega) (by rw[←HB0.2.1.1];omega) hxy;obtain⟨c9,hc9⟩:=vx (yr (zv xs i) (zv ys i));have hc0:c9≠0:=by rw[hc9];exact zom hxy
    rw[←hc9] at hlx ⊢;have t0:(c9 == 0)=false:=by simpa using hc0
    have HLx:=vh hlx;clear hlx hxy hc9 hc0;go_wp2_with fail;go_ret;exact⟨by rw[HLx];rfl,HW.out⟩
  ·obtain rfl:k=i:=jo;have hlx:zH xs ys=YE n m:=by rw[ziL (fun j h1 h2=>HI.1 j (by have:=HK.out;have:=HA.2.1.1;have:=HB0.2.1.1;omega)),←HA.2.1.1,←HB0.2.1.1]
   have HLx:=vh hlx;clear hlx;unfold YE at HLx;by_cases h1:(n:Int)<(m:Int)
   ·have e9:zH xs ys = -1:=by rw[HLx,if_pos jo]
    exact znJ
   by_cases h2:(n:Int)>(m:Int)
   ·have e9:zH xs ys=1:=by rw[HLx,if_neg jo,if_pos jo]
    exact znJ
   ·have e9:zH xs ys=0:=by rw[HLx,if_neg jo,if_neg jo]
    exact znJ):P:=h
theorem QA.vr17:type_of% @zfm:=@zfm
theorem QA.vr18:type_of% @zU:=@zU
theorem QA.vr19:type_of% @QA.vcompare_any:=@QA.vcompare_any
theorem QA.vr20:type_of% @ze:=@ze
abbrev QA.ins6:Nat:=0
theorem QA.rcompareBy_any (n m c d:Nat) (A B:Option Addr) (xs ys:List Int) (w:World) (hA:RwX w w.heap.size A n xs) (hB:RwX w w.heap.size B m ys):Calls Tryz.prog 133 #[.slice A n c,.slice B m d,.slice none 0 0] w fun e w'=>e = .returned (.int .i64 (zH xs ys))∧Below w.heap.size w w':=by
 exact vn6
theorem zaA (n m c d:Nat) (A B:Option Addr) (xs ys:List Int) (w:World) (hA:RwX w w.heap.size A n xs) (hB:RwX w w.heap.size B m ys):Calls Tryz.prog 86 #[.slice A n c,.slice B m d] w fun e w'=>e = .returned (.int .i64 (zH xs ys))∧Below w.heap.size w w':=by
 have HA:=vh hA;have HB:=vh hB;clear hA hB;go_enter Tryz.func86,Tryz.ntmps86;go_wp2_with fail;refine(QA.rcompareBy_any n m c d A B xs ys _ HA.out HB.out).mono ?_;exact znG
theorem zhH (n m c d:Nat) (A B:Option Addr) (xs ys:List Int) (w:World) (hA:RwX w w.heap.size A n xs) (hB:RwX w w.heap.size B m ys):Calls Tryz.prog 89 #[.slice A n c,.slice B m d] w fun e w'=>e = .returned (.bool (zH xs ys == 0))∧Below w.heap.size w w':=by
 have HA:=vh hA;have HB:=vh hB;clear hA hB;go_enter Tryz.func89,Tryz.ntmps89;go_wp2_with fail;refine(zaA n m c d A B xs ys _ HA.out HB.out).mono ?_;exact znG
theorem zcO (n c:Nat) (A:Option Addr) (xs:List Int) (w:World) (hA:RwX w w.heap.size A n xs):Calls Tryz.prog 84 #[.slice A n c] w fun e w'=>e = .returned (.bool true)∧Below w.heap.size w w':=by
 have HA:=vh hA;clear hA;go_enter Tryz.func84,Tryz.ntmps84;go_wp2_with fail;go_loopg [6] n (fun g iv wr=>∃i:Nat,iv = .int .i64 i∧i+g=n∧Hid (Below w.heap.size w wr));case atStart=>exact⟨0,rfl,jo,vh (ue _ _)⟩
 case round=>
  obtain⟨i,rfl,hin,HI⟩:=hrel;by_cases hi:i<n
  ·have i1:((i:Int)<(n:Int)):=jo;have hn6:n≤1000000:=HA.2.1.2;obtain⟨adA,hAA,-⟩:=HA.at_ (k:=i) hi;subst hAA;go_upto_region 4 with (fail);refine zj (kss:=[[],[],[(0,9),(1,10)],[(2,11)],[(3,12)],[(4,13)]]) [(0,.slice (some adA) n c),(3,.int .i64 ((i:Int)))] [EV (.slice (some adA) n c),EV (.int .i64 ((i:Int))),EV (.pointer (some (Addr.add adA (i*3)))),EV (VA (zv xs i)),EV (.bool true),EV (.bool false)] vk vt ?_ ?_ ?_
   ·exact js
   ·exact⟨vi0,vi1,(fun aa ww hb he hd=>za rfl (zfm jo rfl hd.1 hd.2.1)),(fun aa ww hb he hd=>za rfl (zfn rfl hd.1 ((HA.below (ze HI.out hb HI.size))) jo)),(fun aa ww hb he hd=>za rfl (zq _ _ _ rfl vk (by rw[show aa.eval (.tmp 12)=_ from hd.1];exact zU (zhG _ _)))),zk4,uC⟩
   intro vs w2 hb hR;refine vw2 ?_;clear hR;have HW:=vh (ze HI.out hb HI.size);clear hb;go_wp2_with fail;go_roundg (gk - 1);case measure=>omega
   case rel=>exact⟨i+1,vj1,jo,HW⟩
  ·obtain rfl:n=i:=jo;go_wp2_with fail;go_ret;exact⟨rfl,HI.out⟩
structure KD (T:List TypeId) (w w':World):Prop where
 n:KeepsN w w'
 b:∀t∈T,∀g cs,Blk w g t cs→Blk w' g t cs
section
variable {T T' : List TypeId} {w w' w'' : World}
theorem KD.refl (T:List TypeId) (w:World):KD T w w:=⟨KeepsN.refl w,fun _ _ _ _ h=>h⟩
theorem KD.trans (h:KD T w w') (h':KD T w' w''):KD T w w'':=⟨h.n.trans h'.n,fun t ht g cs hb=>h'.b t ht g cs (h.b t ht g cs hb)⟩
theorem KD.below (h:Below w.heap.size w w'):KD T w w':=⟨KeepsN.below h,fun _ _ _ _ hb=>hb.keep h⟩
theorem KD.sub (h:KD T w w') (hs:∀t∈T',t∈T):KD T' w w':=⟨h.n,fun t ht=>h.b t (hs t ht)⟩
theorem KD.own {size:Nat} {v:Value} {xs:List Value} (ho:w.ownsRow base e size v n xs) (hg:w.grownBy w' v.ownBlock) (kn:KeepsN w w') (hne:T.contains e=false):KD T w w':=
 ⟨kn,fun t ht g cs hb=>hb.grown hg fun he=>yg ho hb (fun h=>by subst h;rw[List.contains_eq_any_beq,List.any_eq_false] at hne;exact hne _ ht vz) he.symm⟩
theorem KD.blk {g0:Nat} {t0:TypeId} {cs0:Array Value} (h0:Blk w g0 t0 cs0) (hg:w.grownBy w' (some g0)) (kn:KeepsN w w') (hne:T.contains t0=false):KD T w w':=
 ⟨kn,fun t ht g cs hb=>hb.grown hg fun he=>by
  injection he with he
  exact Blk.ne_ hb h0 (fun h=>by subst h;rw[List.contains_eq_any_beq,List.any_eq_false] at hne;exact hne _ ht vz) he⟩
end
def All2 {α β:Type} (R:α→β→Prop):List α→List β→Prop
 |[],[]=>True
 |a :: l,b :: m=>R a b∧All2 R l m
 |_,_=>False
section
variable {α β : Type} {R Q : α → β → Prop}
theorem All2.len:∀ {l:List α} {m:List β},All2 R l m→l.length=m.length
 |[],[],_=>rfl
 |_ :: _,[],h=>h.elim
 |[],_ :: _,h=>h.elim
 |_ :: l,_ :: m,h=>ut (· + 1) (All2.len h.2)
theorem All2.mono (hq:∀a b,R a b→Q a b):∀ {l:List α} {m:List β},All2 R l m→All2 Q l m
 |[],[],_=>trivial
 |_ :: _,[],h=>h.elim
 |[],_ :: _,h=>h.elim
 |_ :: _,_ :: _,h=>⟨hq _ _ h.1,All2.mono hq h.2⟩
theorem All2.at_:∀ {l:List α} {m:List β} {i:Nat} {a:α} {b:β},All2 R l m→l[i]? = some a→m[i]? = some b→R a b
 |[],[],_,_,_,_,h,_=>by simp at h
 |_ :: _,[],_,_,_,h,_,_=>h.elim
 |[],_ :: _,_,_,_,h,_,_=>h.elim
 |x :: l,y :: m,0,a,b,h,h1,h2=>by simp at h1 h2;subst h1;subst h2;exact h.1
 |x :: l,y :: m,i+1,a,b,h,h1,h2=>All2.at_ (l:=l) (m:=m) (i:=i) h.2 zf5 (by simpa using h2)
theorem All2.app:∀ {l l':List α} {m m':List β},All2 R l m→All2 R l' m'→All2 R (l++l') (m++m')
 |[],_,[],_,_,h=>h
 |_ :: _,_,[],_,h,_=>h.elim
 |[],_,_ :: _,_,h,_=>h.elim
 |_ :: l,_,_ :: m,_,h,h'=>⟨h.1,All2.app h.2 h'⟩
theorem All2.snoc {l:List α} {m:List β} {a:α} {b:β} (h:All2 R l m) (hr:R a b):All2 R (l++[a]) (m++[b]):=h.app ⟨hr,uC⟩
theorem All2.drop:∀ {l:List α} {m:List β} (k:Nat),All2 R l m→All2 R (l.drop k) (m.drop k)
 |l,m,0,h=>by simpa using h
 |[],[],k+1,_=>trivial
 |_ :: _,[],_+1,h=>h.elim
 |[],_ :: _,_+1,h=>h.elim
 |_ :: l,_ :: m,k+1,h=>by simpa using All2.drop (l:=l) (m:=m) k h.2
theorem All2.set:∀ {l:List α} {m:List β} (k:Nat) {a:α} {b:β},All2 R l m→R a b→All2 R (l.set k a) (m.set k b)
 |[],[],_,_,_,_,_=>by simp;exact trivial
 |_ :: _,[],_,_,_,h,_=>h.elim
 |[],_ :: _,_,_,_,h,_=>h.elim
 |_ :: l,_ :: m,0,_,_,h,hr=>⟨hr,h.2⟩
 |_ :: l,_ :: m,k+1,_,_,h,hr=>⟨h.1,All2.set k h.2 hr⟩
theorem All2.of:∀ {l:List α} {m:List β},l.length=m.length→(∀(i:Nat) (a:α) (b:β),l[i]? = some a→m[i]? = some b→R a b)→All2 R l m
 |[],[],_,_=>trivial
 |_ :: _,[],h,_=>by simp at h
 |[],_ :: _,h,_=>by simp at h
 |a :: l,b :: m,hl,h=>⟨h 0 a b rfl rfl,All2.of (by simpa using hl) fun i x y h1 h2=>h (i+1) x y h1 h2⟩
end
def RdT (w:World) (t:TypeId) (size:Nat) (A:Option Addr) (n:Nat) (xs:List Value):Prop:=
 xs.length=n*size∧(0<n→∃ad cs,A=some ad∧Blk w ad.block t cs∧∀j u,xs[j]? = some u→w.cell? (ad.add j)=some u)
section
variable {T : List TypeId} {w w' : World} {t : TypeId} {size n : Nat} {A : Option Addr} {xs : List Value}
theorem RdT.nil (w:World) (t:TypeId) (size:Nat) (A:Option Addr):RdT w t size A 0 []:=⟨vz,fun h=>absurd h jo⟩
theorem RdT.rd (h:RdT w t size A n xs):Reads w w.heap.size size A n xs:=⟨h.1,fun hn=>by
 obtain⟨ad,cs,h1,h2,h3⟩:=h.2 hn
 exact⟨ad,h1,h2.lt,h3⟩⟩
theorem RdT.kd (h:RdT w t size A n xs) (k:KD T w w') (ht:t∈T):RdT w' t size A n xs:=⟨h.1,fun hn=>by
 obtain⟨ad,cs,h1,h2,h3⟩:=h.2 hn
 have h4:=k.b t ht _ _ h2
 refine⟨ad,cs,h1,h4,fun j u hu=>?_⟩
 rw[←h3 j u hu]
 exact World.cell?_of_block zqf⟩
theorem RdT.below (h:RdT w t size A n xs) (k:Below w.heap.size w w'):RdT w' t size A n xs:=h.kd (T:=[t]) (KD.below k) vz
theorem RdT.of_own (h:w.ownsRow base t size (.slice A n c) n xs):RdT w t size A n xs:=by
 refine⟨h.1,fun hn=>?_⟩;rcases h.2 with ⟨h0,_⟩ | ⟨g,cap,cur,hv,_,hg,_⟩
 ·injection h0 with _ h0;omega
 ·have hA:A=some ⟨g,0,none⟩:=by injection hv
  subst hA;exact⟨_,cur,rfl,hg,h.cells (g:=g) rfl⟩
theorem RdT.of_blk (h:Blk w g t cs) (hl:cs.size=n*size):RdT w t size (some ⟨g,0,none⟩) n cs.toList:=
 ⟨by simpa using hl,fun _=>⟨_,cs,rfl,h,fun j u hu=>by rw[yy,h.cell];simpa using hu⟩⟩
theorem RdT.drop (h:RdT w t size A n xs) (hk:k<n):RdT w t size (A.map (·.add (k*size))) (n - k) (xs.drop (k*size)):=by
 refine⟨by rw[List.length_drop,h.1,Nat.sub_mul],fun _=>?_⟩;obtain⟨ad,cs,rfl,h2,h3⟩:=h.2 jo;refine⟨_,cs,rfl,by rw[yd];exact h2,fun j u hu=>?_⟩;rw[zhx];exact h3 _ u (by rw[←hu,List.getElem?_drop])
end
theorem YC {cl:List (List Value)} (h:∀c∈cl,c.length=k):cl.flatten.length=cl.length*k:=by
 induction cl with
 |nil=>simp
 |cons c l ih=>rw[List.flatten_cons,ul,ih (fun c hc=>h c (uq _ hc)),h c vz,List.length_cons,Nat.add_mul];omega
theorem zbf:∀ {cl:List (List Value)} {i:Nat} {c:List Value},(∀c∈cl,c.length=k)→cl[i]? = some c→∀j,j<k→cl.flatten[i*k+j]? = c[j]?
 |[],_,_,_,h,_,_=>by simp at h
 |c0 :: l,0,c,hk,h,j,hj=>by
  simp at h;subst h
  rw[List.flatten_cons,List.getElem?_append_left (by rw[hk c0 vz];omega),Nat.zero_mul,Nat.zero_add]
 |c0 :: l,i+1,c,hk,h,j,hj=>by
  have h0:=hk c0 vz
  rw[List.flatten_cons,List.getElem?_append_right (by rw[h0,Nat.add_mul];omega),h0,show (i+1)*k+j - k=i*k+j by rw[Nat.add_mul];omega]
  exact zbf (cl:=l) (fun c hc=>hk c (uq _ hc)) zej j hj
def LsV {α:Type} (t:TypeId) (k:Nat) (R:World→List Value→α→Prop) (w:World) (A:Option Addr) (n:Nat) (xs:List α):Prop:=
 ∃cl:List (List Value),n=xs.length∧(∀c∈cl,c.length=k)∧RdT w t k A n cl.flatten∧All2 (R w) cl xs
section
variable {α : Type} {T : List TypeId} {w w' : World} {t : TypeId} {k n : Nat} {R : World → List Value → α → Prop} {A : Option Addr} {xs : List α}
theorem LsV.len (h:LsV t k R w A n xs):n=xs.length:=by obtain⟨_,h1,_⟩:=h;exact h1
theorem LsV.kd (h:LsV t k R w A n xs) (kd:KD T w w') (ht:t∈T) (hR:∀c x,R w c x→R w' c x):LsV t k R w' A n xs:=by
 obtain⟨cl,h1,h2,h3,h4⟩:=h;exact⟨cl,h1,h2,h3.kd kd ht,h4.mono hR⟩
theorem LsV.at_ (h:LsV t k R w A n xs) {x:α} (hi:xs[i]? = some x):∃ad c,A=some ad∧c.length=k∧(∀j u,c[j]? = some u→w.cell? (ad.add (i*k+j))=some u)∧R w c x:=by
 obtain⟨cl,h1,h2,h3,h4⟩:=h;have hl:=h4.len;have hi2:i<xs.length:=by
  rcases Nat.lt_or_ge i xs.length with h0 | h0
  ·exact h0
  ·rw[List.getElem?_eq_none h0] at hi;cases hi
 obtain⟨ad,cs,e,-,hc⟩:=h3.2 jo;have hcl:cl[i]? = some (cl[i]'jo):=uf jo;have hk:=h2 _ (List.getElem_mem (by omega:i<cl.length));refine⟨ad,_,e,hk,fun j u hu=>hc _ u ?_,h4.at_ hcl hi⟩;exact vt59
theorem LsV.mono {R':World→List Value→α→Prop} (h:LsV t k R w A n xs) (hq:∀c x,R w c x→R' w c x):LsV t k R' w A n xs:=by
 obtain⟨cl,h1,h2,h3,h4⟩:=h;exact⟨cl,h1,h2,h3,h4.mono hq⟩
end
def okC:Value→Bool
 |.agg _ | .tuple _=>false
 |.int k _=>k != .u32
 |_=>true
theorem YP (h:okC u=true):u.oneCell'=true:=by cases u <;> first | rfl | cases h
theorem zby (h:okC u=true):ClV u:=fun x e=>by subst e;cases h
def zlx (P:Program) (T:TypeId):Option Bool:=match P.underlying T with | some (.struct _)=>some true | some (.array _ _)=>some true | some _=>some false | none=>none
def zbz (P:Program) (T:TypeId) (k:Nat):Bool:=match P.info? T with | some i=>i.size == k | none=>false
def zbn (P:Program) (T e:TypeId) (k:Nat):Bool:=(match P.underlying T with | some (.slice e')=>e' == e | _=>false) && zbz P e k
def zfo (P:Program) (T:TypeId) (k off:Nat):Bool:=match P.underlying T with | some (.struct fs)=>(match fs[k]? with | some f=>f.offset == off && (match P.info? f.type with | some i=>i.size != 0 | none=>false) | none=>false) | _=>false
def zgg (P:Program) (e:TypeId) (k:Nat):Bool:=match P.info? e with | some i=>i.size == k && k != 0 && decide (i.bytes≤200) && (match i.zero with | some z=>z.cells.size == k && z.cells.toList.all okC | none=>false) | none=>false
section
variable {P : Program} {o : Oper} {a : Act} {w : World} {t : Tmp} {T e : TypeId}
theorem Zd (h:zbz P T k=true):∃i,P.info? T=some i∧i.size=k:=by
 unfold zbz at h;split at h
 ·rename_i i hi;exact⟨i,hi,zej⟩
 ·cases h
theorem yP (h:zbn P T e k=true):P.underlying T=some (.slice e)∧∃i,P.info? e=some i∧i.size=k:=by
 unfold zbn at h;rw[Bool.and_eq_true] at h;refine⟨?_,Zd h.2⟩;have h1:=h.1;split at h1
 ·rename_i e' he;rw[he,show e'=e by simpa using h1]
 ·cases h1
theorem ZG (h:zgg P e k=true):∃i z,P.info? e=some i∧i.zero=some z∧i.size=k∧i.bytes≤200∧z.cells.size=k∧0<k∧∀u∈z.cells.toList,okC u=true:=by
 unfold zgg at h;split at h
 ·rename_i i hi;simp only[Bool.and_eq_true,beq_iff_eq,bne_iff_ne,ne_eq,decide_eq_true_eq] at h;obtain⟨⟨⟨h1,h2⟩,h3⟩,h4⟩:=h;split at h4
  ·rename_i z hz;simp only[Bool.and_eq_true,beq_iff_eq,List.all_eq_true] at h4;exact⟨i,z,hi,hz,h1,h3,h4.1,jo,h4.2⟩
  ·cases h4
 ·cases h
theorem zeA {b:Bool} (h:zlx P T=some b) (w:World):(isAgg T).run P w = .ok b w:=by
 unfold isAgg;unfold zlx at h;cases hd:P.underlying T with
 |none=>rw[hd] at h;cases h
 |some d=>
  rw[hd] at h;rw[Sem.run_bind,run_underlying hd w];cases d <;> (injection h with h;subst h;rfl)
theorem zd {v:Value} (ho:o.op = .load T (.tmp t)) (hu:zlx P T=some false) (hx:tv a t = .pointer (some p)) (hc:w.cell? p=some v):zp P o a.eval w (fun z w'=>z=v∧Below w.heap.size w w'):=by
 refine zo v ?_ ⟨rfl,ue _ _⟩;exact vt46
theorem zg {cs:List Value} (ho:o.op = .load T (.tmp t)) (hu:zlx P T=some true) (hs:zbz P T cs.length=true) (hx:tv a t = .pointer (some p)) (hc:∀j u,cs[j]? = some u→w.cell? (p.add j)=some u):zp P o a.eval w (fun z w'=>z = .agg cs.toArray∧Below w.heap.size w w'):=by
 refine zo (.agg cs.toArray) ?_ ⟨rfl,ue _ _⟩;have hagg:=zeA hu w;obtain⟨i,hi,hsz⟩:=Zd hs;have hl:=run_loadCells_list (P:=P) w p cs hc;unfold execOp;rw[ho];simp only[zK,hx,Instr.loadAt,Instr.sureAddr,Sem.run_bind,Sem.run_pure,Result.andThen_ok];simp[loadVar,hagg,sizeOf,typeInfo,hi,hsz,hl]
theorem zm {s:Nat} (ho:o.op = .indexAddr T (.tmp t) y) (hu:zbn P T e s=true) (hk:k<n) (h:tv a t = .slice (some ad) n c) (h2:a.eval y = .int .i64 (k:Int)):zp P o a.eval w (fun v w'=>v = .pointer (some (ad.add (k*s)))∧Below w.heap.size w w'):=by
 obtain⟨hu,i,hi,hs⟩:=yP hu;refine zo (.pointer (some (ad.add (k*s)))) ?_ ⟨rfl,ue _ _⟩;exact vt38
theorem ZH {off:Nat} (ho:o.op = .fieldAddr T (.tmp t) k) (hf:zfo P T k off=true) (h:tv a t = .pointer (some p)):zp P o a.eval w (fun v w'=>v = .pointer (some (p.add off))∧Below w.heap.size w w'):=by
 unfold zfo at hf;split at hf
 ·rename_i fs hfs;split at hf
  ·rename_i f hf0;rw[Bool.and_eq_true] at hf;obtain⟨h1,h2⟩:=hf;split at h2
   ·rename_i i hi;have h3:i.size≠0:=by simpa using h2
    have h4:f.offset=off:=by simpa using h1
    refine zo (.pointer (some (p.add off))) ?_ ⟨rfl,ue _ _⟩;exact vt54
   ·cases h2
  ·cases hf
 ·cases hf
theorem zw {off:Nat} (ho:o.op = .fieldAddr T (.tmp t) k) (hf:zfo P T k off=true) (h:tv a t = .pointer (some ⟨g,0,none⟩)):zp P o a.eval w (fun v w'=>v = .pointer (some ⟨g,off,none⟩)∧Below w.heap.size w w'):=by
 have:=ZH (w:=w) ho hf h;rwa [Addr.add_mid,Nat.zero_add] at this
theorem Ze {A:Option Addr} (ho:o.op = .call {callee:= .builtin .len,args:=#[.tmp t],argTypes:=#[T]}) (hu:(match P.underlying T with | some (.slice _)=>true | _=>false)=true) (h:tv a t = .slice A n c):zp P o a.eval w (fun v w'=>v = .int .i64 (n:Int)∧Below w.heap.size w w'):=by
 split at hu
 ·rename_i e he;refine zo (.int .i64 (n:Int)) ?_ ⟨rfl,ue _ _⟩;unfold execOp;rw[ho];simp[zK,h,resolve,invoke,builtin,Builtin.len_,run_underlying he,goInt]
 ·cases hu
theorem zly {v:Value} (hv:v.cells.size=k) (hz:z.size=k):Instr.fill (fun i=>some (i*k,k)) z [(0,v)]=some v.cells:=by
 have h0:v.cells.zipIdx.foldl (fun (cs:Array Value) (x:Value×Nat)=>cs.setIfInBounds (0*k+x.2) x.1) z=v.cells:=by
  rw[←Array.foldl_toList];have key:∀(l:List Value) (m:Nat) (cs:Array Value),m+l.length=cs.size→(l.zipIdx m).foldl (fun (cs:Array Value) (x:Value×Nat)=>cs.setIfInBounds (0*k+x.2) x.1) cs=(cs.toList.take m++l).toArray:=by
   intro l;induction l with
   |nil=>intro m cs hl;rw[show m=cs.toList.length by simpa using hl,List.take_length];simp
   |cons c l ih=>
    intro m cs hl;rw[List.zipIdx_cons,List.foldl_cons,ih (m+1) _ (by simp at hl ⊢;omega)];congr 1;have hm:m<cs.size:=by simp at hl;omega
    simp only[Nat.zero_mul,Nat.zero_add,Array.toList_setIfInBounds];rw[List.take_add_one,List.take_set_of_le (ug m)];simp[hm]
  rw[Array.toList_zipIdx,key v.cells.toList 0 z (by simp[hv,hz])];simp
 simp only[Instr.fill];rw[if_neg (by simp[hv,hz])];exact ut some h0
theorem zP {v:Value} (ho:o.op = .buildSlice T 1 #[(0,.tmp t)]) (hu:zbn P T e k=true) (hz:zgg P e k=true) (hk:k≤1000) (h:tv a t=v) (hv:v.cells.size=k):zp P o a.eval w (fun z w'=>(∃g,z = .slice (some ⟨g,0,none⟩) 1 1∧w.heap.size≤g∧Blk w' g e v.cells)∧Below w.heap.size w w'):=by
 obtain⟨hu,-⟩:=yP hu;obtain⟨i,z,hi,hz,hs,-,hzs,hk0,-⟩:=ZG hz;have hr:(execOp a.eval o).run P w = .ok (.value (.slice (some ⟨w.heap.size,0,none⟩) 1 1)) (w.alloc (.cells v.cells e)):=by
  have hf:=zly (z:=((Array.range k).map (z.cells[· % z.cells.size]!))) hv vz;have h1:¬(k>2 ^ 24):=jo;have h2:¬(k=0):=jo;unfold execOp;rw[ho];simp[Instr.buildSlice,zK,h,run_underlying hu,sizeOf,typeInfo,zeroValue,hi,hz,hs,h1,h2,hf,Result.andThen,newRow];first | done | rfl | skip
 exact zef
theorem yk (s x:Operand) (ho:o.op = .call {callee:= .builtin .append,args:=#[s,x],argTypes:=#[T,T]}) (hu:zbn P T e k=true) (hz:zgg P e k=true)
  (base:Nat) (v:Value) (n:Nat) (xs:List Value) (hs:a.eval s=v) (hown:OwnC w base e k v n xs) (g:Nat) (cs:Array Value) (hx:a.eval x = .slice (some ⟨g,0,none⟩) 1 1) (hb:Blk w g e cs) (hcs:cs.size=k) (hok:cs.toList.all okC=true)
  (hn:n≤600000000000) (hbase:base≤w.heap.size)
  (h:∀v' w',OwnC w' base e k v' (n+1) (xs++cs.toList)→w.grownBy w' v.ownBlock→(v'.ownBlock=v.ownBlock∨v'.ownBlock=some w.heap.size)→KeepsN w w'→K (a.put o.dst v') w'):o.wp P a w K Q:=by
 obtain⟨hu,-⟩:=yP hu;obtain⟨i,z,hi,hz,hs1,hby,hzs,hk0,hzc⟩:=ZG hz;rw[List.all_eq_true] at hok;have hr:Reads w w.heap.size k (some ⟨g,0,none⟩) 1 cs.toList:=⟨by simp[hcs],fun _=>⟨_,rfl,hb.lt,fun j u hu=>by
  rw[yy,hb.cell];simpa using hu⟩⟩
 exact Zx s x T ho base e i z k i.bytes hu hi hz hs1 rfl hzs hk0 (fun u hu=>zby (hzc u hu)) v n xs hs hown w.heap.size _ 1 1 _ hx hr (fun u hu=>YP (hok u hu)) (fun u hu=>zby (hok u hu)) zcK (ud (Nat.mul_le_mul_left _ hby) jo) hbase h
theorem YG {t2 T2:TypeId} {x:Operand} (i j s:Nat) (ho:o.op = .binOp .add T2 x y t2) (hx:a.eval x = .int .i64 i) (hy:a.eval y = .int .i64 j) (hs:i+j=s) (hlt:s≤4611686018427387904):zp P o a.eval w (fun v w'=>v = .int .i64 (s:Int)∧Below w.heap.size w w'):=by
 refine zo (.int .i64 (s:Int)) ?_ ⟨rfl,ue _ _⟩;have e:IntKind.i64.wrap ((i:Int)+(j:Int))=(s:Int):=by rw[show (i:Int)+(j:Int)=(s:Int) by omega];exact IntWalk.i64_in _ jo
 exact zfi
theorem zrT {u:Tmp} {v v0:Value} (ho:o.op = .store T (.tmp t) (.tmp u)) (hd:o.dst=none) (hs:zbz P T 1=true) (ht:tv a t = .pointer (some p)) (hu:tv a u=v) (hv:okC v=true) (hc:w.cell? p=some v0) (hf:w.frozen? p=false) (h:K a (w.setCell p v)):o.wp P a w K Q:=by
 obtain⟨i,hi,hsz⟩:=Zd hs;have h1:=YP hv;have hcells:v.cells=#[v]:=by cases v <;> first | rfl | cases hv
 have hr:(storeVar T p v).run P w = .ok () (w.setCell p v):=by
  have h0:p.add 0=p:=by unfold Addr.add;simp
  simp[storeVar,sizeOf,typeInfo,hi,hsz,hcells,storeCells,h0,run_store P w p v _ h1,hc,hf,Result.andThen]
 unfold Oper.wp execOp;rw[ho];simp only[zK,ht,hu,Instr.storeAt,Instr.sureAddr,Sem.run_bind,Sem.run_pure,Result.andThen_ok,hr];show K (a.put o.dst undef) _;rw[hd];exact h
theorem zaT {rest:List Oper} (hgd:o.guard=none) (s x:Operand) (ho:o.op = .call {callee:= .builtin .append,args:=#[s,x],argTypes:=#[T,T]}) (hu:zbn P T e k=true) (hz:zgg P e k=true)
  (base:Nat) (v:Value) (n:Nat) (xs:List Value) (hs:a.eval s=v) (hown:OwnC w base e k v n xs) (g:Nat) (cs:Array Value) (hx:a.eval x = .slice (some ⟨g,0,none⟩) 1 1) (hb:Blk w g e cs) (hcs:cs.size=k) (hok:cs.toList.all okC=true)
  (hn:n≤600000000000) (hbase:base≤w.heap.size)
  (h:∀v' w',OwnC w' base e k v' (n+1) (xs++cs.toList)→w.grownBy w' v.ownBlock→(v'.ownBlock=v.ownBlock∨v'.ownBlock=some w.heap.size)→KeepsN w w'→wpList P ops Q rest (a.put o.dst v') w'):wpList P ops Q (o :: rest) a w:=
 wpList_plain hgd fun _ hK=>yk s x ho hu hz base v n xs hs hown g cs hx hb hcs hok hn hbase fun v' w' h2 h3 h4 h5=>hK _ _ (h v' w' h2 h3 h4 h5)
theorem zaU {rest:List Oper} (hgd:o.guard=none) (s x:Operand) (ho:o.op = .call {callee:= .builtin .append,args:=#[s,x],argTypes:=#[T,T]}) (hu:zbn P T e k=true) (hz:zgg P e k=true)
  (base:Nat) (v:Value) (n:Nat) (xs:List Value) (hs:a.eval s=v) (hown:w.ownsRow base e k v n xs) (g:Nat) (cs:Array Value) (hx:a.eval x = .slice (some ⟨g,0,none⟩) 1 1) (hb:Blk w g e cs) (hcs:cs.size=k) (hok:cs.toList.all okC=true)
  (hn:n≤600000000000) (hbase:base≤w.heap.size)
  (h:∀v' w',w'.ownsRow base e k v' (n+1) (xs++cs.toList)→w.grownBy w' v.ownBlock→(v'.ownBlock=v.ownBlock∨v'.ownBlock=some w.heap.size)→wpList P ops Q rest (a.put o.dst v') w'):wpList P ops Q (o :: rest) a w:=by
 obtain⟨hu,-⟩:=yP hu;obtain⟨i,z,hi,hz,hs1,hby,hzs,hk0,hzc⟩:=ZG hz;rw[List.all_eq_true] at hok;have hr:Reads w w.heap.size k (some ⟨g,0,none⟩) 1 cs.toList:=⟨by simp[hcs],fun _=>⟨_,rfl,hb.lt,fun j u hu=>by
  rw[yy,hb.cell];simpa using hu⟩⟩
 obtain⟨v',w',hrun,h2,h3,h4⟩:=ZK (P:=P) w base T o.type e i z k i.bytes hu hi hz hs1 rfl hzs hk0 v n xs hown w.heap.size _ 1 1 _ hr (fun u hu=>YP (hok u hu)) zcK (ud (Nat.mul_le_mul_left _ hby) jo) hbase;refine wpList_plain hgd fun _ hK=>?_;unfold Oper.wp execOp;refine vs2 ?_;exact hK _ _ (h v' w' h2 h3 h4)
end
def yt:List Value→Nat→List Value→List Value
 |l,_,[]=>l
 |l,o,v :: r=>yt (l.set o v) (o+1) r
theorem ZO:∀(vs:List Value) (l:List Value) (o:Nat),(yt l o vs).length=l.length
 |[],_,_=>rfl
 |v :: r,l,o=>by rw[yt,ZO r,List.length_set]
theorem zbZ:∀(vs:List Value) (l:List Value) (o j:Nat),o+vs.length≤l.length→(yt l o vs)[j]? = if o≤j∧j<o+vs.length then vs[j - o]? else l[j]?
 |[],l,o,j,_=>by rw[yt,if_neg vz]
 |v :: r,l,o,j,h=>by
  simp only[List.length_cons] at h ⊢
  rw[yt,zbZ r (l.set o v) (o+1) j (by rw[List.length_set];omega)]
  by_cases h1:o+1≤j∧j<o+1+r.length
  ·rw[if_pos h1,if_pos jo,show j - o=(j - (o+1))+1 by omega,List.getElem?_cons_succ]
  ·rw[if_neg h1]
   by_cases h2:o=j
   ·subst h2
    rw[if_pos jo,List.getElem?_set_self jo,Nat.sub_self];rfl
   ·rw[if_neg jo,List.getElem?_set_ne h2]
theorem zeB {cl:List (List Value)} (h:∀c∈cl,c.length=k) (hi:i<cl.length) {c:List Value} (hc:c.length=k):yt cl.flatten (i*k) c=(cl.set i c).flatten:=by
 have hs:∀x∈cl.set i c,x.length=k:=fun x hx=>by
  rcases List.mem_or_eq_of_mem_set hx with h1 | h1
  ·exact h x h1
  ·rw[h1,hc]
 have hl:=YC h;have hik:i*k+k≤cl.length*k:=by rw[←Nat.succ_mul];exact uk _ hi
 refine List.ext_getElem? fun j=>?_;rw[zbZ c _ _ _ jo];rcases Nat.lt_or_ge j (cl.length*k) with hj | hj
 ·have hk:0<k:=by
   rcases Nat.eq_zero_or_pos k with h0 | h0
   ·subst h0;omega
   ·exact h0
  have hq:j / k<cl.length:=by rw[Nat.div_lt_iff_lt_mul hk];exact hj
  have e:j=j / k*k+j % k:=by rw[Nat.mul_comm];exact(Nat.div_add_mod j k).symm
  have hm:=Nat.mod_lt j hk;by_cases hij:j / k=i
  ·have h1:i*k≤j∧j<i*k+c.length:=by rw[hij] at e;omega
   rw[if_pos h1];have h2:=zbf hs (i:=i) (c:=c) (by rw[List.getElem?_set_self hi]) (j % k) hm;rw[show i*k+j % k=j by rw[hij] at e;exact e.symm] at h2;rw[h2];congr 1;rw[hij] at e;omega
  ·have h1:¬(i*k≤j∧j<i*k+c.length):=by
    rintro⟨g1,g2⟩;apply hij;exact Nat.div_eq_of_lt_le jo (by rw[Nat.succ_mul];omega)
   rw[if_neg h1];have hg:cl[j / k]? = some (cl[j / k]):=uf hq;have h2:=zbf hs (i:=j / k) (c:=cl[j / k]) (by rw[List.getElem?_set_ne (Ne.symm hij)];exact hg) (j % k) hm;have h3:=zbf h hg (j % k) hm;have h4:=h3.trans h2.symm;rw[←e] at h4;exact h4
 ·rw[if_neg jo,List.getElem?_eq_none jo,List.getElem?_eq_none (by rw[YC hs,List.length_set];omega)]
section
variable {w : World} {g : Nat} {t : TypeId}
theorem Blk.stCells:∀(vs:List Value) (o:Nat) {w:World} {cs:Array Value},Blk w g t cs→Blk (w.setCells g o vs) g t (yt cs.toList o vs).toArray
 |[],o,w,cs,h=>by simpa [World.setCells,yt] using h
 |v :: r,o,w,cs,h=>by
  have h1:=Blk.stCells r (o+1) (h.set_ o v)
  rw[World.setCells,yt]
  simpa using h1
theorem KeepsN.cells:∀(vs:List Value) (o:Nat) {w:World} {cs:Array Value},Blk w g t cs→o+vs.length≤cs.size→(∀j,o≤j→j<o+vs.length→∀x,cs[j]?≠some (.int .u32 x))→KeepsN w (w.setCells g o vs)
 |[],_,w,_,_,_,_=>KeepsN.refl w
 |v :: r,o,w,cs,h,hl,hv=>by
  simp only[List.length_cons] at hl hv
  refine KeepsN.trans (KeepsN.blk h (i:=o) jo (hv o jo jo) v) (KeepsN.cells r (o+1) (h.set_ o v) (by simpa using (by omega:o+1+r.length≤cs.size)) fun j h1 h2 x=>?_)
  rw[Array.getElem?_setIfInBounds_ne jo]
  exact hv j jo jo x
end
section
variable {P : Program} {o : Oper} {a : Act} {w : World} {t u : Tmp} {T : TypeId} {K : Act → World → Prop} {Q : Exit → Act → World → Prop}
theorem zbt (g:Nat):∀(vs:List Value) (o:Nat) (w:World),(w.setCells g o vs).heap.size=w.heap.size
 |[],_,_=>rfl
 |v :: r,o,w=>by rw[World.setCells,zbt g r,Yo]
theorem zC {off: Nat} {vs: List Value} (ho : o.op = .store T (.tmp t) (.tmp u)) (hd : o.dst = none) (hi : zbz P T vs.length = true) (ht : tv a t = .pointer (some ⟨g, off, none⟩)) (hu : tv a u = .agg vs.toArray) (hv : vs.all okC = true)
    (hb : Blk w g ty cs) (hl : off + vs.length ≤ cs.size) (hc : ∀ j, off ≤ j → j < off + vs.length → ∀ x, cs[j]? ≠ some (.int .u32 x))
    (next : ∀ w', KeepsN w w' → w.grownBy w' (some g) → w'.heap.size = w.heap.size → Blk w' g ty (yt cs.toList off vs).toArray → K a w') : o.wp P a w K Q := by
  obtain ⟨i, hi, hsz⟩ := Zd hi
  rw[List.all_eq_true] at hv
  refine wp_store_mid T (.tmp t) (.tmp u) ho g off vs.toArray ht hu (fun j hj => ⟨?_, hb.frozen _⟩) (by simp [hi, hsz]) (all_oneCell_toArray fun x hx => YP (hv x hx)) ?_
  · rw [hb.cell, Array.getElem?_eq_getElem (by have : j < vs.length := by simpa using hj
                                               omega)]; rfl
  · rw[hd]
    exact next _ (KeepsN.cells _ _ hb (by simpa using hl) (by simpa using hc)) (zbr _ w off (World.grownBy.refl w (some g))) (zbt _ _ _ _) (by simpa using hb.stCells vs off)
theorem yZ {off:Nat} {v:Value} (ho:o.op = .store T (.tmp t) (.tmp u)) (hd:o.dst=none) (hi:zbz P T 1=true) (ht:tv a t = .pointer (some ⟨g,off,none⟩)) (hu:tv a u=v) (hv:okC v=true)
  (hb:Blk w g ty cs) (hl:off<cs.size) (hc:∀x,cs[off]?≠some (.int .u32 x))
  (next:∀w',KeepsN w w'→w.grownBy w' (some g)→w'.heap.size=w.heap.size→Blk w' g ty (yt cs.toList off [v]).toArray→K a w'):o.wp P a w K Q:=by
 refine zrT ho hd hi ht hu hv (v0:=cs[off]) (by rw[hb.cell];exact Array.getElem?_eq_getElem hl) (hb.frozen _) ?_;have:=hb.set_ off v;exact next _ (KeepsN.blk hb hl hc v) (YM (World.grownBy.refl w (some g)) (.inl rfl) v) (Yo _ _ _) (by rw[show (yt cs.toList off [v]).toArray=cs.setIfInBounds off v from Array.ext' (by simp[yt])];exact this)
end
theorem zj1 (hz:0<z.size):∀n:Nat,madeCells z (n*z.size)=(List.replicate n z.toList).flatten.toArray:=by
 intro n;apply Array.ext';show (madeCells z (n*z.size)).toList=(List.replicate n z.toList).flatten;unfold madeCells;rw[Array.toList_map,Array.toList_range];induction n with
 |zero=>simp
 |succ n ih=>
  rw[Nat.succ_mul,Nat.add_comm,List.range_add,List.map_append,List.map_map,List.replicate_succ,List.flatten_cons,←ih];congr 1
  ·refine List.ext_getElem vz fun j h1 h2=>?_;simp at h1;simp[Nat.mod_eq_of_lt h1,h1]
  ·refine List.map_congr_left fun j hj=>?_;simp
theorem zaB {P:Program} {T:TypeId} {b:Nat} {z:Value} (hu:zbn P T e k=true) (hz:(P.info? e).map (fun i=>(i.zero,i.size,i.bytes))=some (some z,k,b)) (hk:z.cells.size=k) (hk0:0<k) (hb:b≤200) (hn:n≤c) (hc:c≤1000000000000) (W:World) :
  (Instr.makeSlice T (.int .i64 (n:Int)) (.int .i64 (c:Int))).run P W = .ok (.slice (some ⟨W.heap.size,0,none⟩) n c) (W.alloc (.cells (List.replicate c z.cells.toList).flatten.toArray e)):=by
 obtain⟨hu,-⟩:=yP hu;obtain⟨i,hi,hz,hs,hby⟩:=info_parts hz;have h:=zbq (P:=P) T e i z hu hi hz .i64 .i64 n c hn (ud (uk _ (by omega:i.bytes≤200)) jo) jo W;rw[hs,←hk,zj1 jo] at h;exact h
def RowV (w:World) (v:Value) (xs:List Int):Prop:=∃A n c,v = .slice A n c∧n≤c∧RdT w 89 3 A n (VR xs)∧(n=xs.length∧n≤1000000)∧∀x∈xs,0≤x∧x≤9
theorem RowV.x {v:Value} {xs:List Int} (h:RowV w v xs):∃A n c,v = .slice A n c∧n≤c∧n=xs.length∧RwX w w.heap.size A n xs:=by
 obtain⟨A,n,c,e,h1,h2,h3,h4⟩:=h;exact⟨A,n,c,e,h1,h3.1,h2.rd,h3,h4⟩
theorem RowV.kd {T:List TypeId} {v:Value} {xs:List Int} (h:RowV w v xs) (k:KD T w w') (ht:T.contains 89=true):RowV w' v xs:=by
 exact znH
theorem RowV.below {v:Value} {xs:List Int} (h:RowV w v xs) (k:Below w.heap.size w w'):RowV w' v xs:=h.kd (T:=[89]) (KD.below k) rfl
def zu (L:List Nat):List Int:=L.map fun d:Nat=>(d:Int)
theorem yL {L:List Nat} (h:k<L.length):zv (zu L) k=(nth L k:Int):=by simp[zu,zv,nth,List.getD,h]
theorem zdt (L M:List Nat):zu (L++M)=zu L++zu M:=by simp[zu]
def IntsV (w:World) (v:Value) (xs:List Nat):Prop:=∃A n c,v = .slice A n c∧n≤c∧RdT w 3 1 A n (I64 (zu xs))∧(n=xs.length∧n≤1000000)∧∀x∈xs,x≤1000000000
theorem IntsV.x {v:Value} {xs:List Nat} (h:IntsV w v xs):∃A n c,v = .slice A n c∧n≤c∧n=xs.length∧Xs w w.heap.size A n (zu xs):=by
 obtain⟨A,n,c,e,h1,h2,h3,h4⟩:=h;refine⟨A,n,c,e,h1,h3.1,h2.rd,⟨by simp[zu,h3.1],jo⟩,fun x hx=>?_⟩;obtain⟨y,hy,rfl⟩:=List.mem_map.1 hx;have:=h4 y hy;omega
theorem IntsV.kd {T:List TypeId} {v:Value} {xs:List Nat} (h:IntsV w v xs) (k:KD T w w') (ht:T.contains 3=true):IntsV w' v xs:=by
 exact znH
theorem IntsV.below {v:Value} {xs:List Nat} (h:IntsV w v xs) (k:Below w.heap.size w w'):IntsV w' v xs:=h.kd (T:=[3]) (KD.below k) rfl
theorem zgh:(Tryz.prog.info? 89).map (fun i=>(i.zero,i.size,i.bytes))=some (some (.agg #[.int .i64 0,.int .i64 0,.string S0]),3,32):=by kernel_rfl
def ZV:List Value:=[.int .i64 0,.int .i64 0,.string S0]
theorem zlz (n:Nat) (hn:n≤1000000) (W:World):(Instr.makeSlice 87 (.int .i64 (n:Int)) (.int .i64 (n:Int))).run Tryz.prog W = .ok (.slice (some ⟨W.heap.size,0,none⟩) n n) (W.alloc (.cells (List.replicate n ZV).flatten.toArray 89)):=
 zaB (e:=89) (k:=3) (b:=32) (z:= .agg #[.int .i64 0,.int .i64 0,.string S0]) vk zgh rfl jo jo (ug _) jo W
theorem ziM:∀xs:List Int,VR xs=(xs.map VC).flatten
 |[]=>rfl
 |x :: l=>by rw[VR,ziM l];rfl
def zaV (xs:List Int) (ks:List Nat) (i:Nat):List (List Value):=((ks.take i).map fun k=>VC (zv xs k))++List.replicate (ks.length - i) ZV
theorem zdu (xs:List Int) (ks:List Nat) (i:Nat) (hi:i≤ks.length):(zaV xs ks i).length=ks.length:=by
 simp[zaV];omega
theorem zbA (xs:List Int) (ks:List Nat) (i:Nat):∀c∈zaV xs ks i,c.length=3:=by
 exact vt67
theorem zlA (xs:List Int) (ks:List Nat) (i:Nat) (hi:i<ks.length):(zaV xs ks i).set i (VC (zv xs (nth ks i)))=zaV xs ks (i+1):=by
 unfold zaV;have hl:((ks.take i).map fun k=>VC (zv xs k)).length=i:=by simp;omega
 rw[List.set_append_right _ _ jo,hl,Nat.sub_self,List.take_add_one,List.map_append,List.append_assoc];congr 1;rw[show ks.length - i=(ks.length - (i+1))+1 by omega,List.replicate_succ,List.set_cons_zero];simp[hi,nth,List.getD]
theorem zlB (xs:List Int) (ks:List Nat):(zaV xs ks ks.length).flatten=VR (ks.map (zv xs)):=by
 rw[ziM];simp[zaV,Function.comp_def]
theorem zfp (cl:List (List Value)) (h:∀c∈cl,c.all okC=true) (j:Nat) (x:Int):cl.flatten.toArray[j]?≠some (.int .u32 x):=by
 intro he;have h1:Value.int .u32 x∈cl.flatten:=by
  have:=ui (l:=cl.flatten) (i:=j) (by simpa using he);exact this
 obtain⟨c,hc,hx⟩:=List.mem_flatten.1 h1;have:=(List.all_eq_true.1 (h c hc)) _ hx;cases this
theorem zon (xs:List Int) (ks:List Nat) (i:Nat):∀c∈zaV xs ks i,c.all okC=true:=by
 exact vt67
theorem zaW (v u:Value) (xs:List Int) (ks:List Nat) (w:World) (hv:RowV w v xs) (hu:IntsV w u ks) (hk:∀k∈ks,k<xs.length) :
  Calls Tryz.prog 137 #[v,u] w (RV w (fun r w'=>∃v',r = .tuple #[v',.int .i64 0]∧RowV w' v' (ks.map (zv xs)))):=by
 obtain⟨A,n,c,rfl,hnc,hn,hX⟩:=hv.x;obtain⟨C,m,d,rfl,hmd,hm,hY⟩:=hu.x;have hm6:m≤1000000:=by obtain⟨_,_,_,e,_,_,h3,_⟩:=hu;cases e;exact h3.2
 have hn6:n≤1000000:=hX.2.1.2;have HX:=vh hX;have HY:=vh hY;have HK:=vh hk;have HN:=vh hn;have HM:=vh hm;clear hX hY hk hv hu hn hm;go_enter Tryz.func137,Tryz.ntmps137;go_wp2_with fail;go_loopg [11] m (fun g iv wr=>∃i:Nat,iv = .int .i64 i∧i+g=m∧w=wr);case atStart=>exact⟨0,rfl,jo,rfl⟩
 case round=>
  obtain⟨i,rfl,him,rfl⟩:=hrel;by_cases hi:i<m
  ·have i1:((i:Int)<(m:Int)):=jo;obtain⟨ad,hA,-,hc⟩:=HY.at_ hi;subst hA;rw[yL zew] at hc;have hkx:nth ks i<n:=by rw[HN];exact HK.out _ (yD zew)
   obtain⟨k,hk⟩:=vx (nth ks i);rw[←hk] at hc hkx;clear hk;have k1:¬((k:Int)<0):=jo;have k2:¬((k:Int)≥(n:Int)):=jo;exact znE
  ·obtain rfl:m=i:=jo;have mk:=zlz m hm6;go_wp2_with fail;obtain⟨w1,hw1⟩:=vx (w.alloc (.cells (List.replicate m ZV).flatten.toArray 89));obtain⟨g7,hg7⟩:=vx (w.heap.size);have hst:Blk w1 g7 89 (zaV xs ks 0).flatten.toArray∧Below w.heap.size w w1:=by
    rw[hw1,hg7];refine⟨?_,al _ _⟩;rw[show zaV xs ks 0=List.replicate m ZV by simp[zaV,HM.out]];exact Blk.new w _ _
   have HI:=vh hst;have HG:=vh (show w.heap.size≤g7 by omega);clear hst;rw[←hw1,←hg7];clear hw1 hg7 mk;go_loopg [34] m (fun g iv wr=>∃i:Nat,iv = .int .i64 i∧i+g=m∧Hid (Blk wr g7 89 (zaV xs ks i).flatten.toArray∧Below w.heap.size w wr));case atStart=>exact⟨0,rfl,jo,HI⟩
   case round=>
    obtain⟨i,rfl,him,HJ⟩:=hrel;clear HI;by_cases hi:i<m
    ·have i1:((i:Int)<(m:Int)):=jo;obtain⟨ad,hA,-,hc⟩:=(HY.below HJ.2).at_ hi;subst hA;rw[yL zew] at hc;have hkx:nth ks i<n:=by rw[HN];exact HK.out _ (yD zew)
     obtain⟨adx,hAx,-,c0,c1,c2⟩:=(HX.below HJ.2).at_ hkx;subst hAx;obtain⟨k,hk⟩:=vx (nth ks i);rw[←hk] at hc hkx c0 c1 c2;have HKk:=vh hk;clear hk;obtain⟨x,hx⟩:=vx (zv xs k);rw[←hx] at c1;have HXx:=vh hx;clear hx;have HC:=vh hc;have HC3:=vh (show ∀(j:Nat) (u:Value),(VC x)[j]? = some u→wr.cell? ((Addr.add adx (k*3)).add j)=some u from fun j u hj=>by
      rw[Addr.add_add]
      match j with
      |0=>simp[VC] at hj;subst hj;exact c0
      |1=>simp[VC] at hj;subst hj;exact c1
      |2=>simp[VC] at hj;subst hj;exact c2
      |j+3=>simp[VC] at hj)
     clear hc c0 c1 c2;go_upto_region 11 with (fail);refine zc (kss:=[[],[],[],[],[],[(3,40),(4,41)],[(5,42)],[(2,39),(6,43)],[(7,44)],[(0,37),(1,38)]]) [(7,.slice ((some ⟨g7,0,none⟩)) m m),(8,.int .i64 ((i:Int))),(0,.slice ((some adx)) n c),(1,.slice ((some ad)) m d)] [EV (.slice ((some ⟨g7,0,none⟩)) m m),EV (.int .i64 ((i:Int))),EV (.slice ((some adx)) n c),EV (.slice ((some ad)) m d),EV (.int .i64 ((i:Int))),EV (.pointer (some (Addr.add ad (i*1)))),EV (.int .i64 ((k:Int))),EV (.pointer (some (Addr.add adx (k*3)))),EV (.agg #[.int .i64 1,.int .i64 x,.string S0]),EV (.pointer (some (Addr.add (⟨g7,0,none⟩) (i*3))))] 10 vk vt [false,false,false,false,false,false,false,false,false,false] ?_ ?_ ?_
     ·exact js
     ·exact⟨vi0,vi1,vi4,zbp,vi1,zn0,vi79,vi64,(fun aa ww hb he hd=>za rfl (zg (cs:=[.int .i64 1,.int .i64 x,.string S0]) rfl vk vk hd.1 (fun j u hj=>(hb.cell (zh (HC3.out j u hj))).trans (HC3.out j u hj)))),ziA,uC⟩
     intro vs w2 hb hR;refine vs0 ?_;rw[(hR 8 jd:vs 8=_),(hR 9 jd:vs 9=_)];clear hR;have HB:=vh (ze HJ.2 hb HJ.2.size);have HJ2:=vh (HJ.1.keep hb);clear hb HC HC3;show wpOps _ _ _ [10] _ _;rw[yy];have hl:(zaV xs ks i).flatten.length=m*3:=by rw[YC (zbA xs ks i),zdu xs ks i (by rw[←HM];omega),HM.out]
     refine zb rfl rfl (zC (vs:=VC x) (off:=i*3) rfl rfl vk rfl rfl rfl HJ2.out (by show i*3+3≤_;simp[hl];omega) (fun j _ _ y=>zfp _ (zon xs ks i) j y) ?_);intro w3 kp hg hs hB;have hB2:Blk w3 g7 89 (zaV xs ks (i+1)).flatten.toArray:=by
      rw[←zlA xs ks i zew,←HKk.out,←HXx.out,←zeB (zbA xs ks i) (by rw[zdu xs ks i (by rw[←HM];omega),←HM.out];exact hi) rfl];simpa using hB
     have HN2:=vh (show Blk w3 g7 89 (zaV xs ks (i+1)).flatten.toArray∧Below w.heap.size w w3 from⟨hB2,HB.grown hg HB.size (fun k e=>by cases e;exact HG.out)⟩);clear kp hg hs hB hB2 hl HJ HJ2 HB;exact znD
    ·obtain rfl:m=i:=jo;go_wp2_with fail;go_ret2;refine⟨_,rfl,⟨_,rfl,_,m,m,rfl,ug _,?_,⟨by rw[HM];simp,hm6⟩,?_⟩,HJ.2⟩
     ·have hl:(zaV xs ks m).flatten.length=m*3:=by rw[YC (zbA xs ks m),zdu xs ks m (by rw[←HM];omega),HM.out]
      have h:=RdT.of_blk (n:=m) (size:=3) HJ.1 (by rw[List.size_toArray];exact hl);rw[HM] at h ⊢;rw[←zlB];simpa using h
     ·intro y hy;obtain⟨k,hk,rfl⟩:=List.mem_map.1 hy;exact HX.2.2 _ (Yi (HK.out k hk))
end Go.Proofs.YtoecdobelolkeaaGreatDoor
