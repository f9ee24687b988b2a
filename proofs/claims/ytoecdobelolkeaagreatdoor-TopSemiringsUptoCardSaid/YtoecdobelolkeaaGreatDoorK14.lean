/- Part of TopSemirings. -/
import Derived.Test.YtoecdobelolkeaaGreatDoorK13
set_option linter.unusedVariables false
set_option linter.unusedSimpArgs false
set_option maxRecDepth 100000
set_option maxHeartbeats 8000000
namespace Go.Proofs.YtoecdobelolkeaaGreatDoor
open Go.RowKit
variable {w w':World} {A:Option Addr} {d c g l k i L p q n j te B m gj:Nat} {S:Type} {r u f:Value} {o:Oper} {a:Act} {vars bs:List Nat} {rows:List (List Int)}
section
variable {o : Oper} {a : Act} {w : World} {K : Act → World → Prop} {Q : Exit → Act → World → Prop}
theorem zo6 (ho:o.op = .alloc 208) (next:K (a.put o.dst (.pointer (some ⟨w.heap.size,0,none⟩))) (w.alloc (.cells #[.int .i64 0,.int .i64 0] 208))):o.wp Tryz.prog a w K Q:=by
 have hr:(execOp a.eval o).run Tryz.prog w = .ok (.value (.pointer (some ⟨w.heap.size,0,none⟩))) (w.alloc (.cells #[.int .i64 0,.int .i64 0] 208)):=by
  unfold execOp;rw[ho];go_simp
 unfold Oper.wp;rw[hr];exact next
end
theorem ztm {o:Nat} {x y:Value} (h1:w.cell? ⟨g,o,none⟩=some x) (h2:w.cell? ⟨g,o+1,none⟩=some y):∀(j:Nat) (u:Value),[x,y][j]? = some u→w.cell? ((⟨g,o,none⟩:Addr).add j)=some u:=fun j u hj=>by
 rcases j with _ | _ | j
 ·rw[Addr.add_mid,←hj];exact h1
 ·rw[Addr.add_mid,←hj];exact h2
 ·simp at hj
theorem zgW (x y:Int):Tryz.prog.built 208 [(0,.int .i64 x),(1,.int .i64 y)]=some #[.int .i64 x,.int .i64 y]:=by kernel_rfl
def zcd (A:Option Addr) (d c:Nat):Array Value:=(.slice A d c :: List.replicate 68 (.int .i64 0)).toArray
theorem zmx (A:Option Addr) (d c:Nat):Tryz.prog.built 211 [(0,.agg #[.slice A d c])]=some (zcd A d c):=by kernel_rfl
theorem zr8 (w:World) (A:Option Addr) (d c:Nat):ItB (w.alloc (.cells (zcd A d c) 211)) w.heap.size A d c 0 0 0 (fun _=>(0,0)):=by
 refine⟨zcd A d c,0,Blk.new _ _ _,rfl,rfl,rfl,rfl,rfl,fun j hj=>absurd hj jo,rfl,fun j x=>zD rfl j x⟩
section
variable {o : Oper} {a : Act} {w : World} {t : Tmp} {K : Act → World → Prop} {Q : Exit → Act → World → Prop} {A : Option Addr} {d c : Nat}
theorem zie {ty:TypeId} {x:Operand} {cells:Array Value} (hf:Tryz.prog.built ty [(i,u)]=some cells) (ho:o.op = .build ty #[(i,x)]) (hx:a.eval x=u):zp Tryz.prog o a.eval w (fun v w'=>v = .agg cells∧Below w.heap.size w w'):=zaD ho hx hf
theorem zkD (ho:o.op = .box 211 (.tmp t)) (ht:tv a t = .agg (zcd A d c)) (next:K (a.put o.dst (.pointer (some ⟨w.heap.size,0,none⟩))) (w.alloc (.cells (zcd A d c) 211))):o.wp Tryz.prog a w K Q:=by
 have hh:a.eval (.tmp t) = .agg (zcd A d c):=ht;have hr:(execOp a.eval o).run Tryz.prog w = .ok (.value (.pointer (some ⟨w.heap.size,0,none⟩))) (w.alloc (.cells (zcd A d c) 211)):=by
  unfold execOp;rw[ho];simp only[hh];go_simp
 unfold Oper.wp;rw[hr];exact next
end
theorem zmy {z:Int} (hz:w.cell? ⟨g,68,none⟩=some (.int .i64 z)):Calls Tryz.prog 60 #[.pointer (some ⟨g,0,none⟩)] w fun e w'=>e = .returned (.int .i64 z)∧Below w.heap.size w w':=by
 have HZ:=vh hz;clear hz;go_enter Tryz.func60,Tryz.ntmps60;go_upto_region 1 with (fail);have t0:=HZ.out;go_wp2_with fail;go_ret;exact⟨rfl,ue _ _⟩
theorem zd1 (A:Option Addr) (d c:Nat) (w:World):Calls Tryz.prog 140 #[.agg #[.slice A d c]] w fun e w'=>e = .returned (.int .i64 (d:Int))∧Below w.heap.size w w':=by
 go_enter Tryz.func140,Tryz.ntmps140;go_upto_region 1 with (fail);obtain⟨w1,hw0⟩:∃x,x=w.alloc (.cells #[.slice A d c] 167):=⟨_,rfl⟩;rw[←hw0];have hs0:w1.heap.size=w.heap.size+1:=by rw[hw0];simp
 have ha0:Below w.heap.size w w1:=by rw[hw0];exact al _ _
 obtain⟨g1,hg0⟩:∃g,g=w.heap.size:=⟨_,rfl⟩;have hx0:Blk w1 g1 167 #[.slice A d c]:=by rw[hw0,hg0];exact Blk.new _ _ _
 exact vt33
theorem zjl {ad:Addr} {nv vc:Nat} {vA:Option Addr} (hc:w.cell? (ad.add (l*2))=some (.slice vA nv vc)) (hl:l<d) (hd32:d≤32):Calls Tryz.prog 95 #[.agg #[.slice (some ad) d c],.int .i64 (l:Int)] w fun e w'=>e = .returned (.int .i64 (nv:Int))∧Below w.heap.size w w':=by
 have HC:=vh hc;clear hc;have t0:¬((l:Int)≥(d:Int)):=jo;go_enter Tryz.func95,Tryz.ntmps95;go_upto_region 1 with (fail);obtain⟨w1,hw0⟩:∃x,x=w.alloc (.cells #[.slice (some ad) d c] 167):=⟨_,rfl⟩;rw[←hw0];have hs0:w1.heap.size=w.heap.size+1:=by rw[hw0];simp
 have ha0:Below w.heap.size w w1:=by rw[hw0];exact al _ _
 obtain⟨g2,hg0⟩:∃g,g=w.heap.size:=⟨_,rfl⟩;have hx0:Blk w1 g2 167 #[.slice (some ad) d c]:=by rw[hw0,hg0];exact Blk.new _ _ _
 rw[←hg0];have X2:=vh hx0;have G2:=vh (show w.heap.size≤g2 by omega);have HB1:=vh (show Below w.heap.size w w1 from ha0);clear hw0 hs0 ha0 hg0 hx0;have z0:=Blk.at0 X2.out (ue _ _);go_upto_region 3 with (fail);clear z0 t0;refine zj (kss:=[[],[(0,10)],[],[(1,11),(2,12)],[(3,13)],[(4,14)],[(5,15)],[(6,16)]]) [(2,.pointer (some (⟨g2,0,none⟩))),(1,.int .i64 ((l:Int)))] [EV (.pointer (some (⟨g2,0,none⟩))),EV (.slice ((some ad)) d c),EV (.int .i64 ((l:Int))),EV (.pointer (some (Addr.add ad (l*2)))),EV (.pointer (some (Addr.add (Addr.add ad (l*2)) 0))),EV (.slice vA nv vc),EV (.int .i64 ((nv:Int))),EV (.int .i64 ((nv:Int)))] vk vt ?_ ?_ ?_
 ·exact js
 ·exact⟨zcH,(fun aa ww hb he hd=>za rfl (zd rfl vk hd.1 (by have hh:=(Blk.at_k (off:=0) (l:=[.slice (some ad) d c]) X2.out rfl hb) 0 _ rfl;rw[Addr.add_mid] at hh;exact hh))),vi1,zqT,zcG,(fun aa ww hb he hd=>za rfl (zd rfl vk hd.1 (by rw[Addr.add_zero9];exact((ze HB1.out hb HB1.size).cell (zh HC.out)).trans HC.out))),vi6,vi3,uC⟩
 intro vs w2 hb hR;refine vw3 ?_;clear hR;exact vt97
theorem zkE {G:Nat→Prop} {V:Nat→List Int} {F:Nat→List Nat} (ht:TrG G w A d V F) (hl:l<d) (hd32:d≤32):Calls Tryz.prog 95 #[.agg #[.slice A d c],.int .i64 (l:Int)] w fun e w'=>e = .returned (.int .i64 ((V l).length:Int))∧Below w.heap.size w w':=by
 obtain⟨ad,vA,vc,rfl,hc⟩:=ht.size hl;exact zjl hc hl hd32
theorem zmz (hl:d≤l):Calls Tryz.prog 95 #[.agg #[.slice A d c],.int .i64 (l:Int)] w fun e w'=>e = .returned (.int .i64 0)∧Below w.heap.size w w':=by
 have t0:((l:Int)≥(d:Int)):=jo;go_enter Tryz.func95,Tryz.ntmps95;go_upto_region 1 with (fail);obtain⟨w1,hw0⟩:∃x,x=w.alloc (.cells #[.slice A d c] 167):=⟨_,rfl⟩;rw[←hw0];have hs0:w1.heap.size=w.heap.size+1:=by rw[hw0];simp
 have ha0:Below w.heap.size w w1:=by rw[hw0];exact al _ _
 obtain⟨g2,hg0⟩:∃g,g=w.heap.size:=⟨_,rfl⟩;have hx0:Blk w1 g2 167 #[.slice A d c]:=by rw[hw0,hg0];exact Blk.new _ _ _
 rw[←hg0];have X2:=vh hx0;have G2:=vh (show w.heap.size≤g2 by omega);have HB1:=vh (show Below w.heap.size w w1 from ha0);clear hw0 hs0 ha0 hg0 hx0;have z0:=Blk.at0 X2.out (ue _ _);go_wp2_with fail;go_ret;exact⟨rfl,HB1.out⟩
theorem zkF (A:Option Addr) (d c:Nat) (w:World):Calls Tryz.prog 58 #[.agg #[.slice A d c]] w fun e w'=>∃g,e = .returned (.pointer (some ⟨g,0,none⟩))∧w.heap.size≤g∧ItB w' g A d c 0 0 0 (fun _=>(0,0))∧Below w.heap.size w w':=by
 go_enter Tryz.func58,Tryz.ntmps58;go_upto_region 1 with (fail);obtain⟨w1,hw0⟩:∃x,x=w.alloc (.cells #[.slice A d c] 167):=⟨_,rfl⟩;rw[←hw0];have hs0:w1.heap.size=w.heap.size+1:=by rw[hw0];simp
 have ha0:Below w.heap.size w w1:=by rw[hw0];exact al _ _
 obtain⟨g1,hg0⟩:∃g,g=w.heap.size:=⟨_,rfl⟩;have hx0:Blk w1 g1 167 #[.slice A d c]:=by rw[hw0,hg0];exact Blk.new _ _ _
 rw[←hg0];have X1:=vh hx0;have G1:=vh (show w.heap.size≤g1 by omega);have HB1:=vh (show Below w.heap.size w w1 from ha0);clear hw0 hs0 ha0 hg0 hx0;refine zc (kss:=[[],[(0,3)]]) [(1,.pointer (some (⟨g1,0,none⟩)))] [EV (.agg #[.slice A d c]),EV (.agg (zcd A d c))] 2 vk vt [false,false] ?_ ?_ ?_
 ·exact js
 ·exact⟨(fun aa ww hb he hd=>za rfl (zg (cs:=[.slice A d c]) rfl vk vk he.1 (Blk.at_k (off:=0) (l:=[.slice A d c]) X1.out rfl hb))),(fun aa ww hb he hd=>za rfl (zie (zmx A d c) rfl hd.1)),uC⟩
 intro vs w2 hb hR;have r4:=hR 1 jd;clear hR;refine vs0 ?_;have HB2:=vh (ze HB1.out hb HB1.size);clear hb X1 HB1;rw[r4];clear r4;show wpOps _ _ _ [2,3] _ _;refine zb rfl rfl (zkD (A:=A) (d:=d) (c:=c) rfl rfl ?_);refine jp 5 ?_;refine zb rfl rfl (zl 2 (.tmp 5) rfl rfl (.pointer (some ⟨w2.heap.size,0,none⟩)) rfl ?_);refine vs1 ?_;unfold wpOps;have HB3:=vh (ze HB2.out (al w2 (.cells (zcd A d c) 211)) HB2.size);have HN:=vh (zr8 w2 A d c);go_wp2_with fail;go_ret;exact⟨w2.heap.size,rfl,HB2.size,HN.out,HB3.out⟩
theorem zo7 {fr:Nat→Nat×Nat} (h:ItB w g A d c L p q fr) (hl:L=l+1) (hL:L≤32):Calls Tryz.prog 100 #[.pointer (some ⟨g,0,none⟩)] w fun e w'=>e = .returned (.bool true)∧ItB w' g A d c l (fr l).1 (fr l).2 fr∧OutG (fun k=>k=g) w w':=by
 obtain⟨ha1,ha2⟩:=h.ab (j:=l) (by rw[hl];exact Nat.lt_succ_self l);have HI:=vh h;have HL:=vh hl;have HA:=vh (uh ha1 ha2);clear h hl ha1 ha2;go_enter Tryz.func100,Tryz.ntmps100;have z0:=HI.lv;have t1:((L:Int) == 0)=false:=by have:=HL.out;simp;omega
 go_upto_region 3 with (fail);clear z0 t1;refine zc (kss:=[[],[(0,12)],[(1,13)],[(2,14)],[(3,15)],[(0,12)],[(5,17)]]) [(0,.pointer (some (⟨g,0,none⟩)))] [EV (.pointer (some (⟨g,0,none⟩))),EV (.pointer (some (⟨g,0,none⟩))),EV (.pointer (some (⟨g,1,none⟩))),EV (.int .i64 ((L:Int))),EV (.int .i64 ((l:Int))),EV (.pointer (some (⟨g,0,none⟩))),EV (.pointer (some (⟨g,1,none⟩)))] 7 vk vt [false,false,false,false,false,false,false] ?_ ?_ ?_
 ·exact js
 ·exact⟨vi0,vi5,zhu,(fun aa ww hb he hd=>za rfl (zd rfl vk hd.1 (ItB.lv (HI.below hb)))),zsR,vi5,zhu,uC⟩
 intro vs w2 hb hR;refine znC ?_;clear hR;have hi2:=HI.below hb;show wpOps _ _ _ [7] _ _;refine zb rfl rfl (hi2.wp_lv (L':=l) (fr':=fr) (fun j hj=>hi2.ab vj8) vj8 rfl rfl vk rfl rfl ?_);intro w3 hg kn hi3 hsame;have HI3:=vh hi3;have HO:=vh (show OutG (fun k=>k=g) w w3 from(OutG.of_below hb).trans (OutG.of_grown hg rfl));have HA3:=vh (show w3.cell? ⟨g,4+l*2,none⟩=some (.int .i64 (((fr l).1:Nat):Int))∧w3.cell? ⟨g,4+l*2+1,none⟩=some (.int .i64 (((fr l).2:Nat):Int)) from⟨(hsame _ jo).trans ((hb.cell (zh HA.1)).trans HA.1),(hsame _ jo).trans ((hb.cell (zh HA.2)).trans HA.2)⟩);clear hi2 hi3 hg kn hb HI HA hsame;unfold wpOps;go_upto_region 4 with (fail);refine zt (kss:=[[],[],[],[(2,21)],[(3,22)],[(4,23)],[(1,20)],[(6,25)],[(5,24),(7,26)],[(8,27)],[(0,19)],[(10,29)]]) [(0,.pointer (some (⟨g,0,none⟩)))] [EV (.pointer (some (⟨g,0,none⟩))),EV (.pointer (some (⟨g,0,none⟩))),EV (.pointer (some (⟨g,0,none⟩))),EV (.pointer (some (⟨g,0,none⟩))),EV (.pointer (some (⟨g,1,none⟩))),EV (.int .i64 ((l:Int))),EV (.pointer (some (⟨g,0,none⟩))),EV (.pointer (some (⟨g,4,none⟩))),EV (.pointer (some (⟨g,4+l*2,none⟩))),EV (.agg #[.int .i64 (((fr l).1:Int)),.int .i64 (((fr l).2:Int))]),EV (.pointer (some (⟨g,0,none⟩))),EV (.pointer (some (⟨g,2,none⟩)))] 12 [] vk vk vt [false,false,false,false,false,false,false,false,false,false,false,false] ?_ ?_ ?_ ?_
 ·exact fun i hi=>absurd hi vz
 ·exact js
 ·exact⟨vi0,vi0,vi0,vi5,zhu,(fun aa ww hb he hd=>za rfl (zd rfl vk hd.1 (ItB.lv (HI3.below hb)))),vi5,(fun aa ww hb he hd=>za rfl (zw (off:=4) rfl vk hd.1)),(fun aa ww hb he hd=>za rfl (zay (e:=208) (n:=32) (s:=2) (k:=l) rfl vk vj8 hd.2.1 hd.1)),(fun aa ww hb he hd=>za rfl (zg (cs:=[.int .i64 (((fr l).1:Int)),.int .i64 (((fr l).2:Int))]) rfl vk vk hd.1 (ztm ((hb.cell (zh HA3.1)).trans HA3.1) ((hb.cell (zh HA3.2)).trans HA3.2)))),vi5,zcj,uC⟩
 intro vs w4 hb hR _;have e28:vs 9=_:=hR 9 jd;have e30:vs 11=_:=hR 11 jd;clear hR;refine vs0 ?_;rw[e28,e30];clear e28 e30;have hi4:=HI3.below hb;show wpAny _ _ _ _ 1 _ _ _;refine zA (i:=12) vk rfl rfl (hi4.wp_at (p':=(fr l).1) (e':=(fr l).2) vj8 rfl rfl vk rfl rfl ?_);intro w5 hg kn hi5 hs5;have HI5:=vh hi5;have HO5:=vh (HO.trans ((OutG.of_below hb).trans (OutG.of_grown hg rfl)));clear hi4 hi5 hs5 hg kn hb HI3 HA3 HO;refine zR vk (zy ?_) _;go_wp2_with fail;go_ret;exact⟨rfl,HI5.out,HO5.out⟩
theorem vn1 {P:Prop} (h:P:=by
 first
 |guard_expr ins1 =~ 0
  have HI:=vh h;have HT:=vh ht;clear h ht
  obtain⟨nv,hnv⟩:∃y,y=(V 0).length:=⟨_,rfl⟩
  rw[←hnv] at hv ⊢
  have HNv:=vh hnv;clear hnv
  have HL:=vh (show L=0 from hl);clear hl
 |obtain⟨ad,fA,fc,rfl,hc1,hc2⟩:=ht.fst (l:=l) jo
  obtain⟨fa,rfl,hc3⟩:=hc2 _ _ hf0
  obtain⟨fa',e0,hc4⟩:=hc2 _ _ hf1
  injection e0 with e0
  subst e0
  obtain⟨nf,hnf⟩:∃y,y=(F l).length:=⟨_,rfl⟩
  have hnf1:=(List.getElem?_eq_some_iff.1 hf1).1
  rw[←hnf] at hc1 hnf1 hlen
  have HI:=vh h;have HT:=vh ht;have HL:=vh (show L=l+1 from hl);have HC1:=vh hc1;have HC3:=vh hc3;have HC4:=vh hc4;have HNf:=vh hnf1;clear h ht hl hc1 hc2 hc3 hc4 hf0 hf1 hnf hnf1
 go_enter Tryz.func96,Tryz.ntmps96;go_upto_region 1 with (fail);first
 |guard_expr ins1 =~ 0
  have l0:decide ((L:Int)>0)=false:=by have:=HL.out;simp;omega
 |have l0:decide ((L:Int)>0)=true:=by have:=HL.out;simp;omega
 have l1:decide ((L:Int)≥(d:Int))=false:=by simp;omega
 first
 |guard_expr ins1 =~ 0
  refine wp_region_each (kss:=[[],[(0,5)],[(1,6)],[(2,7)],[(2,7),(3,8)],[(2,7),(4,9)],[(2,7),(5,10)],[(2,7),(6,11)],[(2,7),(7,12)],[(8,13)],[(8,13),(9,14)],[(8,13),(10,15)],[(2,7),(8,13),(11,16)],[(2,7),(12,17)],[(13,18)],[(14,19)],[(14,19),(15,20)],[(14,19),(16,21)],[(14,19),(17,22)],[(14,19)],[(14,19),(19,24)],[(14,19),(20,25)],[(14,19),(21,26)],[(14,19),(22,27)],[(14,19),(18,23),(23,28)],[(14,19),(24,29)]]) [(0,.pointer (some (⟨g,0,none⟩)))] [EV (.pointer (some (⟨g,0,none⟩))),EV (.bool false),EV (.bool false),EV (.pointer (some (⟨g,0,none⟩))),EV (.pointer (some (⟨g,0,none⟩))),EV (.pointer (some (⟨g,1,none⟩))),EV (.int .i64 ((L:Int))),EV (.bool false),EV (.bool false),EV (undef),EV (undef),EV (undef),EV (.bool false),EV (.bool false),EV (.bool false),EV (.pointer (some (⟨g,0,none⟩))),EV (.pointer (some (⟨g,0,none⟩))),EV (.pointer (some (⟨g,1,none⟩))),EV (.int .i64 ((L:Int))),EV (.pointer (some (⟨g,0,none⟩))),EV (.pointer (some (⟨g,0,none⟩))),EV (.pointer (some (⟨g,0,none⟩))),EV (.agg #[.slice A d c]),EV (.int .i64 ((d:Int))),EV (.bool false),EV (.bool false)] vk vk vt ?_ ?_ ?_
 |refine wp_region_each (kss:=[[],[(0,5)],[(1,6)],[(2,7)],[(2,7),(3,8)],[(2,7),(4,9)],[(2,7),(5,10)],[(2,7),(6,11)],[(2,7),(7,12)],[(8,13)],[(8,13),(9,14)],[(8,13),(10,15)],[(2,7),(8,13),(11,16)],[(2,7),(12,17)],[(13,18)],[(14,19)],[(14,19),(15,20)],[(14,19),(16,21)],[(14,19),(17,22)],[(14,19)],[(14,19),(19,24)],[(14,19),(20,25)],[(14,19),(21,26)],[(14,19),(22,27)],[(14,19),(18,23),(23,28)],[(14,19),(24,29)]]) [(0,.pointer (some (⟨g,0,none⟩)))] [EV (.pointer (some (⟨g,0,none⟩))),EV (.bool false),EV (.bool false),EV (.pointer (some (⟨g,0,none⟩))),EV (.pointer (some (⟨g,0,none⟩))),EV (.pointer (some (⟨g,1,none⟩))),EV (.int .i64 ((L:Int))),EV (.bool true),EV (.bool true),EV (.pointer (some (⟨g,0,none⟩))),EV (.bool true),EV (.bool false),EV (.bool false),EV (.bool false),EV (.bool false),EV (.pointer (some (⟨g,0,none⟩))),EV (.pointer (some (⟨g,0,none⟩))),EV (.pointer (some (⟨g,1,none⟩))),EV (.int .i64 ((L:Int))),EV (.pointer (some (⟨g,0,none⟩))),EV (.pointer (some (⟨g,0,none⟩))),EV (.pointer (some (⟨g,0,none⟩))),EV (.agg #[.slice ((some ad)) d c]),EV (.int .i64 ((d:Int))),EV (.bool false),EV (.bool false)] vk vk vt ?_ ?_ ?_
 ·exact js
 ·refine⟨?_,?_,?_,?_,?_,?_,?_,?_,?_,?_,?_,?_,?_,?_,?_,?_,?_,?_,?_,?_,?_,?_,?_,?_,?_,?_,uC⟩
  ·exact fun _ _ _ he hd=>yM rfl rfl he.1
  ·exact fun aa ww hb he hd=>za rfl (zkA rfl hd.1)
  ·exact fun _ _ _ he hd=>yM rfl rfl hd.1
  ·exact fun aa ww hb he hd=>zn 7 rfl vk hd.1 (zi _ rfl ⟨he.1,ue _ _⟩)
  ·exact fun aa ww hb he hd=>zn 7 rfl vk hd.1 (Ym rfl hd.2.1)
  ·exact fun aa ww hb he hd=>zn 7 rfl vk hd.1 (zw (off:=1) rfl vk hd.2.1)
  ·exact fun aa ww hb he hd=>zn 7 rfl vk hd.1 (zd rfl vk hd.2.1 (ItB.lv (HI.below hb)))
  ·exact fun aa ww hb he hd=>zn 7 rfl vk hd.1 (yi ((L:Int)) 0 .i64 _ _ _ _ rfl hd.2.1 rfl ⟨ut Value.bool (l0),ue _ _⟩)
  ·exact fun aa ww hb he hd=>zn 7 rfl vk hd.1 (zi _ rfl ⟨hd.2.1,ue _ _⟩)
  ·first
   |guard_expr ins1 =~ 0
    exact fun aa ww hb he hd=>Zw 13 rfl vk hd.1 rfl
   |exact fun aa ww hb he hd=>zn 13 rfl vk hd.1 (zi _ rfl ⟨he.1,ue _ _⟩)
  ·first
   |guard_expr ins1 =~ 0
    exact fun aa ww hb he hd=>Zw 13 rfl vk hd.1 rfl
   |exact fun aa ww hb he hd=>zn 13 rfl vk hd.1 (zq _ _ _ rfl vk (by rw[show aa.eval (.tmp 14)=_ from hd.2.1];exact zU ((zaJ (HI.below hb)).mono fun e w9 ⟨h1,h2⟩=>⟨by rw[h1];congr 2;have:=HL.out;simp;omega,h2⟩)))
  ·first
   |guard_expr ins1 =~ 0
    exact fun aa ww hb he hd=>Zw 13 rfl vk hd.1 rfl
   |exact fun aa ww hb he hd=>zn 13 rfl vk hd.1 (YK true _ _ rfl hd.2.1 ⟨rfl,ue _ _⟩)
  ·first
   |guard_expr ins1 =~ 0
    exact fun aa ww hb he hd=>zn 7 rfl vk hd.1 (YF false _ _ _ rfl hd.2.1 ⟨rfl,ue _ _⟩)
   |exact fun aa ww hb he hd=>zn 7 rfl vk hd.1 (YF true _ _ _ rfl hd.2.1 ⟨hd.2.2.1,ue _ _⟩)
  ·exact vt99
  ·exact fun _ _ _ he hd=>yM rfl rfl hd.1
  ·exact vt91
  ·exact zqG
  ·exact fun aa ww hb he hd=>zn 19 rfl vk hd.1 (zw (off:=1) rfl vk hd.2.1)
  ·exact fun aa ww hb he hd=>zn 19 rfl vk hd.1 (zd rfl vk hd.2.1 (ItB.lv (HI.below hb)))
  ·exact vt91
  ·exact zqG
  ·exact fun aa ww hb he hd=>zn 19 rfl vk hd.1 (zw (off:=0) rfl vk hd.2.1)
  ·first
   |guard_expr ins1 =~ 0
    exact fun aa ww hb he hd=>zn 19 rfl vk hd.1 (zg (cs:=[.slice A d c]) rfl vk vk hd.2.1 (ItB.tr_k (HI.below hb)))
   |exact fun aa ww hb he hd=>zn 19 rfl vk hd.1 (zg (cs:=[.slice ((some ad)) d c]) rfl vk vk hd.2.1 (ItB.tr_k (HI.below hb)))
  ·first
   |guard_expr ins1 =~ 0
    exact fun aa ww hb he hd=>zn 19 rfl vk hd.1 (zq _ _ _ rfl vk (by rw[show aa.eval (.tmp 27)=_ from hd.2.1];exact zU (zd1 A d c ww)))
   |exact fun aa ww hb he hd=>zn 19 rfl vk hd.1 (zq _ _ _ rfl vk (by rw[show aa.eval (.tmp 27)=_ from hd.2.1];exact zU (zd1 (some ad) d c ww)))
  ·exact fun aa ww hb he hd=>zn 19 rfl vk hd.1 (yY ((L:Int)) ((d:Int)) .i64 _ _ _ _ rfl hd.2.1 hd.2.2.1 ⟨ut Value.bool (l1),ue _ _⟩)
  ·exact vt99
 intro vs w1 hb hR;refine vs0 ?_;rw[(hR 25 jd:vs 25=_)];clear hR;have HB1:=vh hb;clear hb l0 l1;go_upto_region 3 with (fail);first
 |guard_expr ins1 =~ 0
  refine zc (kss:=[[],[(0,31)],[(1,32)],[(2,33)],[(3,34)],[(4,35)]]) [(0,.pointer (some (⟨g,0,none⟩)))] [EV (.pointer (some (⟨g,0,none⟩))),EV (.pointer (some (⟨g,0,none⟩))),EV (.pointer (some (⟨g,0,none⟩))),EV (.agg #[.slice A d c]),EV (.int .i64 ((nv:Int))),EV (.agg #[.int .i64 0,.int .i64 ((nv:Int))])] 6 vk vt [false,false,false,false,false,false] ?_ ?_ ?_
 |obtain⟨nv,hnv⟩:∃y,y=(V 0).length:=⟨_,rfl⟩
  have HNv:=vh hnv;clear hnv
  refine zc (kss:=[[],[(0,31)],[(1,32)],[(2,33)],[(3,34)],[(4,35)]]) [(0,.pointer (some (⟨g,0,none⟩)))] [EV (.pointer (some (⟨g,0,none⟩))),EV (.pointer (some (⟨g,0,none⟩))),EV (.pointer (some (⟨g,0,none⟩))),EV (.agg #[.slice ((some ad)) d c]),EV (.int .i64 ((nv:Int))),EV (.agg #[.int .i64 0,.int .i64 ((nv:Int))])] 6 vk vt [false,false,false,false,false,false] ?_ ?_ ?_
 ·exact js
 ·refine⟨?_,?_,?_,?_,?_,?_,uC⟩
  ·exact fun _ _ _ he hd=>yM rfl rfl he.1
  ·exact zhs
  ·exact fun aa ww hb he hd=>za rfl (zw (off:=0) rfl vk hd.1)
  ·first
   |guard_expr ins1 =~ 0
    exact fun aa ww hb he hd=>za rfl (zg (cs:=[.slice A d c]) rfl vk vk hd.1 (ItB.tr_k (HI.below (ze HB1.out hb HB1.size))))
   |exact fun aa ww hb he hd=>za rfl (zg (cs:=[.slice ((some ad)) d c]) rfl vk vk hd.1 (ItB.tr_k (HI.below (ze HB1.out hb HB1.size))))
  ·exact fun aa ww hb he hd=>za rfl (zE _ _ _ _ rfl vk (by rw[show aa.eval (.tmp 34)=_ from hd.1];exact zU (by rw[HNv];exact zkE (l:=0) (HT.below (ze HB1.out hb HB1.size)) jo hd32)))
  ·exact fun aa ww hb he hd=>za rfl (yR (cells:=#[.int .i64 0,.int .i64 (nv:Int)]) rfl rfl hd.1 (zgW _ _))
 intro vs w2 hb hR;refine vw2 ?_;clear hR;show wpOps _ _ _ [6,7] _ _;refine zb rfl rfl (zo6 rfl ?_);refine jp 3 ?_;refine zb rfl rfl (zC (vs:=[.int .i64 0,.int .i64 (nv:Int)]) (off:=0) rfl rfl vk rfl rfl rfl (Blk.new _ _ _) vj6 (fun j _ _ x=>zD rfl j x) ?_);intro w3 kn hg hs hbx;have hbw:Below w2.heap.size w2 w3:=(al w2 _).grown hg (al w2 _).size (fun k e=>by cases e;exact ug _);obtain⟨g3,hgb⟩:∃g,g=w2.heap.size:=⟨_,rfl⟩;rw[←hgb] at hbx ⊢;clear kn hg hs;unfold wpOps;have HB3:=vh (ze HB1.out (ze hb hbw hb.size) HB1.size);have HG3:=vh (show w.heap.size≤g3 from by rw[hgb];exact ud HB1.size hb.size);have HX3:=vh hbx;clear hb hbw hbx hgb HB1;have z0:=(HI.below HB3.out).lv;first
 |guard_expr ins1 =~ 0
  have t0:¬((L:Int)>0):=by have:=HL.out;omega
  go_upto_region 7 with (fail)
 |have t0:((L:Int)>0):=by have:=HL.out;omega
  go_upto_region 5 with (fail)
 clear z0 t0;first
 |guard_expr ins1 =~ 0
  have y0:=Blk.at0 HX3.out (ue _ _);have y1:=Blk.at1 HX3.out (ue _ _)
  have t1:((0:Int) == (nv:Int))=false:=by simp;omega
 |refine wp_region_each (kss:=[[],[(0,42)],[(1,43)],[(2,44)],[(3,45)],[],[(5,47)],[(6,48)],[(7,49)],[(8,50)],[(4,46),(9,51)],[(10,52)],[(11,53)],[(12,54)]]) [(0,.pointer (some (⟨g,0,none⟩)))] [EV (.pointer (some (⟨g,0,none⟩))),EV (.pointer (some (⟨g,0,none⟩))),EV (.pointer (some (⟨g,0,none⟩))),EV (.pointer (some (⟨g,0,none⟩))),EV (.slice ((some ad)) d c),EV (.pointer (some (⟨g,0,none⟩))),EV (.pointer (some (⟨g,0,none⟩))),EV (.pointer (some (⟨g,1,none⟩))),EV (.int .i64 ((L:Int))),EV (.int .i64 ((l:Int))),EV (.pointer (some (Addr.add ad (l*2)))),EV (.pointer (some (Addr.add (Addr.add ad (l*2)) 1))),EV (.slice ((some fa)) nf fc),EV (.slice ((some fa)) nf fc)] vk vk vt ?_ ?_ ?_
  ·exact js
  ·exact⟨vi0,vi5,zk7,zk7,(fun aa ww hb he hd=>za rfl (zd rfl vk hd.1 (by have hh:=(ItB.tr_k (HI.below (ze HB3.out hb HB3.size))) 0 _ rfl;rw[Addr.add_mid] at hh;exact hh))),vi0,vi5,zhu,(fun aa ww hb he hd=>za rfl (zd rfl vk hd.1 (ItB.lv (HI.below (ze HB3.out hb HB3.size))))),zsR,(fun aa ww hb he hd=>za rfl (zm (e:=205) (s:=2) (k:=l) rfl vk vj8 hd.1 hd.2.1)),vi80,(fun aa ww hb he hd=>za rfl (zd rfl vk hd.1 (((ze HB3.out hb HB3.size).cell (zh HC1.out)).trans HC1.out))),vi3,uC⟩
  intro vs w4 hb hR
  refine vs0 ?_
  rw[(hR 13 jd:vs 13=_)]
  clear hR
  have HB4:=vh (ze HB3.out hb HB3.size);have HX4:=vh (HX3.keep hb);clear hb HB3 HX3
  go_upto_region 6 with (fail)
  obtain⟨p9,hp9⟩:∃x,x=p+1:=⟨_,rfl⟩
  rw[←hp9] at HC4 HNf
  have HP9:=vh hp9;clear hp9
  refine zt (kss:=[[],[],[(1,56)],[(2,57)],[(3,58)],[(4,59)],[(0,55),(5,60)],[(6,61)],[],[],[(9,64)],[(10,65)],[(11,66)],[(12,67)],[(13,68)],[(8,63),(14,69)],[(15,70)],[(7,62),(16,71)]]) [(4,.slice ((some fa)) nf fc),(0,.pointer (some (⟨g,0,none⟩)))] [EV (.slice ((some fa)) nf fc),EV (.pointer (some (⟨g,0,none⟩))),EV (.pointer (some (⟨g,0,none⟩))),EV (.pointer (some (⟨g,2,none⟩))),EV (.pointer (some (⟨g,2,none⟩))),EV (.int .i64 ((p:Int))),EV (.pointer (some (Addr.add fa (p*1)))),EV (.int .i64 ((p0:Int))),EV (.slice ((some fa)) nf fc),EV (.pointer (some (⟨g,0,none⟩))),EV (.pointer (some (⟨g,0,none⟩))),EV (.pointer (some (⟨g,2,none⟩))),EV (.pointer (some (⟨g,2,none⟩))),EV (.int .i64 ((p:Int))),EV (.int .i64 ((p9:Int))),EV (.pointer (some (Addr.add fa (p9*1)))),EV (.int .i64 ((p1:Int))),EV (.agg #[.int .i64 ((p0:Int)),.int .i64 ((p1:Int))])] 18 [] vk vk vt [false,false,false,false,false,false,false,false,false,false,false,false,false,false,false,false,false,false] ?_ ?_ ?_ ?_
  ·exact fun i hi=>absurd hi vz
  ·exact js
  ·exact⟨vi0,vi1,vi5,zcj,ziB,zqW,(fun aa ww hb he hd=>za rfl (zm (e:=3) (s:=1) (k:=p) rfl vk (by have:=HNf.out;have:=HP9.out;omega) hd.1 hd.2.1)),(fun aa ww hb he hd=>za rfl (zd rfl vk hd.1 (((ze HB4.out hb HB4.size).cell (zh HC3.out)).trans HC3.out))),vi0,vi1,vi5,zcj,ziB,zqW,(fun aa ww hb he hd=>za rfl (YG p 1 p9 rfl hd.1 rfl (by have:=HP9.out;omega) (by have:=HP9.out;have:=HNf.out;omega))),(fun aa ww hb he hd=>za rfl (zm (e:=3) (s:=1) (k:=p9) rfl vk (by have:=HNf.out;have:=HP9.out;omega) hd.1 hd.2.1)),(fun aa ww hb he hd=>za rfl (zd rfl vk hd.1 (((ze HB4.out hb HB4.size).cell (zh HC4.out)).trans HC4.out))),(fun aa ww hb he hd=>za rfl (yR (cells:=#[.int .i64 (p0:Int),.int .i64 (p1:Int)]) rfl hd.1 hd.2.1 (zgW _ _))),uC⟩
  intro vs w5 hb hR _
  have e72:vs 17=_:=hR 17 jd
  clear hR
  refine vs0 ?_
  rw[e72]
  clear e72
  have hx5:=HX4.keep hb
  show wpAny _ _ _ _ 1 _ _ _
  refine zA (i:=18) vk rfl rfl (zC (vs:=[.int .i64 (p0:Int),.int .i64 (p1:Int)]) (off:=0) rfl rfl vk rfl rfl rfl hx5 vj6 (fun j _ _ x=>zD rfl j x) ?_)
  intro w6 kn hg hs hb9
  have HX6:=vh (show Blk w6 g3 208 #[.int .i64 (p0:Int),.int .i64 (p1:Int)] from hb9)
  have HB6:=vh (show Below w.heap.size w w6 from(HB4.trans (hb.mono HB4.size)).grown hg (ud HB4.size hb.size) (fun k e=>by cases e;exact HG3.out))
  clear kn hg hs hb9 hx5 hb HX4 HB4
  refine zR vk (zy ?_) _
  have y0:=Blk.at0 HX6.out (ue _ _);have y1:=Blk.at1 HX6.out (ue _ _)
  have t1:((p0:Int) == (p1:Int))=false:=by simp;omega
 go_upto_region 9 with (fail);clear y0 y1 t1;refine zt (kss:=[[],[],[(1,79)],[(2,80)],[(3,81)],[],[(5,83)],[(6,84)],[(7,85)],[(0,78)],[(9,87)],[(4,82),(10,88)]]) [(0,.pointer (some (⟨g,0,none⟩)))] [EV (.pointer (some (⟨g,0,none⟩))),EV (.pointer (some (⟨g,0,none⟩))),EV (.pointer (some (⟨g,0,none⟩))),EV (.pointer (some (⟨g,1,none⟩))),EV (.int .i64 ((L:Int))),EV (.pointer (some (⟨g,0,none⟩))),EV (.pointer (some (⟨g,0,none⟩))),EV (.pointer (some (⟨g,2,none⟩))),EV (.agg #[.int .i64 ((p:Int)),.int .i64 ((q:Int))]),EV (.pointer (some (⟨g,0,none⟩))),EV (.pointer (some (⟨g,4,none⟩))),EV (.pointer (some (⟨g,4+L*2,none⟩)))] 12 [] vk vk vt [false,false,false,false,false,false,false,false,false,false,false,false] ?_ ?_ ?_ ?_
 ·exact fun i hi=>absurd hi vz
 ·exact js
 ·refine⟨?_,?_,?_,?_,?_,?_,?_,?_,?_,?_,?_,?_,uC⟩
  ·exact fun _ _ _ he hd=>yM rfl rfl he.1
  ·exact fun _ _ _ he hd=>yM rfl rfl he.1
  ·exact zhs
  ·exact fun aa ww hb he hd=>za rfl (zw (off:=1) rfl vk hd.1)
  ·first
   |guard_expr ins1 =~ 0
    exact fun aa ww hb he hd=>za rfl (zd rfl vk hd.1 (ItB.lv (HI.below (ze HB3.out hb HB3.size))))
   |exact fun aa ww hb he hd=>za rfl (zd rfl vk hd.1 (ItB.lv (HI.below (ze HB6.out hb HB6.size))))
  ·exact fun _ _ _ he hd=>yM rfl rfl he.1
  ·exact zhs
  ·exact zqE
  ·first
   |guard_expr ins1 =~ 0
    exact fun aa ww hb he hd=>za rfl (zg (cs:=[.int .i64 ((p:Int)),.int .i64 ((q:Int))]) rfl vk vk hd.1 (ItB.at_k (HI.below (ze HB3.out hb HB3.size))))
   |exact fun aa ww hb he hd=>za rfl (zg (cs:=[.int .i64 ((p:Int)),.int .i64 ((q:Int))]) rfl vk vk hd.1 (ItB.at_k (HI.below (ze HB6.out hb HB6.size))))
  ·exact zhs
  ·exact fun aa ww hb he hd=>za rfl (zw (off:=4) rfl vk hd.1)
  ·exact fun aa ww hb he hd=>za rfl (zay (e:=208) (n:=32) (s:=2) (k:=L) rfl vk vj8 hd.2.1 hd.1)
 intro vs w7 hb hR _;have e86:vs 8=_:=hR 8 jd;have e89:vs 11=_:=hR 11 jd;clear hR;refine vs0 ?_;rw[e86,e89];clear e86 e89;first
 |guard_expr ins1 =~ 0
  have hi7:=HI.below (ze HB3.out hb HB3.size)
  have hx7:=HX3.keep hb
 |have hi7:=HI.below (ze HB6.out hb HB6.size)
  have hx7:=HX6.keep hb
 show wpAny _ _ _ _ 1 _ _ _;refine zA (i:=12) vk rfl rfl (hi7.wp_ab (p':=p) (e':=q) vj8 rfl rfl vk rfl rfl ?_);intro w8 hg kn hi8 hab;first
 |guard_expr ins1 =~ 0
  have HI8:=vh hi8;have HO8:=vh (show OutG (fun k=>k=g) w w8 from(OutG.of_below (ze HB3.out hb HB3.size)).trans (OutG.of_grown hg rfl));have HAb:=vh hab;have HX8:=vh (hx7.grown hg (fun e=>Nat.lt_irrefl _ (uj zs9 HG3.out)))
  clear hi7 hi8 hg kn hb hab hx7 HB3 HX3
 |have HI8:=vh hi8;have HO8:=vh (show OutG (fun k=>k=g) w w8 from(OutG.of_below (ze HB6.out hb HB6.size)).trans (OutG.of_grown hg rfl));have HAb:=vh hab;have HX8:=vh (hx7.grown hg (fun e=>Nat.lt_irrefl _ (uj zs9 HG3.out)))
  clear hi7 hi8 hg kn hb hab hx7 HB6 HX6
 refine zR vk (zy ?_) _;go_upto_region 10 with (fail);first
 |guard_expr ins1 =~ 0
  refine zc (kss:=[[],[],[(0,90)],[(2,92)]]) [(0,.pointer (some (⟨g,0,none⟩))),(3,.pointer (some (⟨g3,0,none⟩)))] [EV (.pointer (some (⟨g,0,none⟩))),EV (.agg #[.int .i64 0,.int .i64 (nv:Int)]),EV (.pointer (some (⟨g,0,none⟩))),EV (.pointer (some (⟨g,2,none⟩)))] 4 vk vt [false,false,false,false] ?_ ?_ ?_
 |refine zc (kss:=[[],[],[(0,90)],[(2,92)]]) [(0,.pointer (some (⟨g,0,none⟩))),(3,.pointer (some (⟨g3,0,none⟩)))] [EV (.pointer (some (⟨g,0,none⟩))),EV (.agg #[.int .i64 (p0:Int),.int .i64 (p1:Int)]),EV (.pointer (some (⟨g,0,none⟩))),EV (.pointer (some (⟨g,2,none⟩)))] 4 vk vt [false,false,false,false] ?_ ?_ ?_
 ·exact js
 ·refine⟨?_,?_,?_,?_,uC⟩
  ·exact fun _ _ _ he hd=>yM rfl rfl he.1
  ·first
   |guard_expr ins1 =~ 0
    exact fun aa ww hb he hd=>za rfl (zg (cs:=[.int .i64 0,.int .i64 (nv:Int)]) rfl vk vk he.2.1 (Blk.at_k (off:=0) (l:=[.int .i64 0,.int .i64 (nv:Int)]) HX8.out rfl hb))
   |exact fun aa ww hb he hd=>za rfl (zg (cs:=[.int .i64 (p0:Int),.int .i64 (p1:Int)]) rfl vk vk he.2.1 (Blk.at_k (off:=0) (l:=[.int .i64 (p0:Int),.int .i64 (p1:Int)]) HX8.out rfl hb))
  ·exact zhs
  ·exact zqE
 intro vs w9 hb hR;first
 |guard_expr ins1 =~ 0
  have e91:vs 1=_:=hR 1 jd
 |have e91:vs 1 = .agg #[.int .i64 (p0:Int),.int .i64 (p1:Int)]:=hR 1 jd
 have e93:vs 3=_:=hR 3 jd;clear hR;refine vs0 ?_;rw[e91,e93];clear e91 e93;have hi9:=HI8.below hb;show wpOps _ _ _ [4] _ _;first
 |guard_expr ins1 =~ 0
  refine zb rfl rfl (hi9.wp_at (p':=0) (e':=nv) vj8 rfl rfl vk rfl rfl ?_)
 |refine zb rfl rfl (hi9.wp_at (p':=p0) (e':=p1) vj8 rfl rfl vk rfl rfl ?_)
 intro w10 hg kn hi10 hsame;have HI10:=vh hi10;have HO10:=vh (HO8.trans ((OutG.of_below hb).trans (OutG.of_grown hg rfl)));have HAb2:=vh (show w10.cell? ⟨g,4+L*2,none⟩=some (.int .i64 (p:Int))∧w10.cell? ⟨g,4+L*2+1,none⟩=some (.int .i64 (q:Int)) from⟨(hsame _ jo).trans ((hb.cell (zh HAb.1)).trans HAb.1),(hsame _ jo).trans ((hb.cell (zh HAb.2)).trans HAb.2)⟩);clear hi9 hi10 hg kn hb hsame HI8 HX8 HO8 HAb;unfold wpOps;go_upto_region 11 with (fail);obtain⟨L1,hL1⟩:∃x,x=L+1:=⟨_,rfl⟩;have HL1:=vh hL1;clear hL1;refine zc (kss:=[[],[(0,94)],[(1,95)],[(2,96)],[(3,97)],[(0,94)],[(5,99)]]) [(0,.pointer (some (⟨g,0,none⟩)))] [EV (.pointer (some (⟨g,0,none⟩))),EV (.pointer (some (⟨g,0,none⟩))),EV (.pointer (some (⟨g,1,none⟩))),EV (.int .i64 ((L:Int))),EV (.int .i64 ((L1:Int))),EV (.pointer (some (⟨g,0,none⟩))),EV (.pointer (some (⟨g,1,none⟩)))] 7 vk vt [false,false,false,false,false,false,false] ?_ ?_ ?_
 ·exact js
 ·exact⟨vi0,vi5,zhu,(fun aa ww hb he hd=>za rfl (zd rfl vk hd.1 (ItB.lv (HI10.below hb)))),(fun aa ww hb he hd=>za rfl (YG L 1 L1 rfl hd.1 rfl (by have:=HL1.out;omega) (by have:=HL1.out;have:=HL.out;omega))),vi5,zhu,uC⟩
 intro vs w11 hb hR;refine znC ?_;clear hR;have hi11:=HI10.below hb;show wpOps _ _ _ [7] _ _;refine zb rfl rfl (hi11.wp_lv (L':=L1) (fr':=fun j=>if j=L then (p,q) else fr j) (fun j hj=>?_) (by have:=HL1.out;have:=HL.out;omega) rfl rfl vk rfl rfl ?_)
 ·by_cases e:j=L
  ·subst e;rw[if_pos rfl];exact⟨(hb.cell (zh HAb2.1)).trans HAb2.1,(hb.cell (zh HAb2.2)).trans HAb2.2⟩
  ·rw[if_neg e];exact hi11.ab (by have:=HL1.out;omega)
 intro w12 hg kn hi12 hsame;have HI12:=vh hi12;have HO12:=vh (HO10.trans ((OutG.of_below hb).trans (OutG.of_grown hg rfl)));clear hi11 hi12 hg kn hb hsame HI10 HO10;unfold wpOps;go_wp2_with fail;go_ret;exact⟨rfl,by rw[←HL1];exact HI12.out,HO12.out⟩):P:=h
abbrev QA.ins1:Nat:=0
theorem QA.topen_top {fr:Nat→Nat×Nat} {G:Nat→Prop} {V:Nat→List Int} {F:Nat→List Nat} (h:ItB w g A d c L p q fr) (ht:TrG G w A d V F) (hl:L=0) (hld:L<d) (hd32:d≤32) (hv:0<(V 0).length):Calls Tryz.prog 96 #[.pointer (some ⟨g,0,none⟩)] w fun e w'=>e = .returned (.bool true)∧ItB w' g A d c (L+1) 0 (V 0).length (fun j=>if j=L then (p,q) else fr j)∧OutG (fun k=>k=g) w w':=by
 exact vn1
abbrev QB.ins1:Nat:=1
theorem QB.topen_any {fr:Nat→Nat×Nat} {G:Nat→Prop} {V:Nat→List Int} {F:Nat→List Nat} {p0 p1:Nat} (h:ItB w g A d c L p q fr) (ht:TrG G w A d V F) (hl:L=l+1) (hld:L<d) (hd32:d≤32) (hp:p<q) (hf0:(F l)[p]? = some p0) (hf1:(F l)[p+1]? = some p1) (hlt:p0<p1) (hlen:(F l).length≤1000000):Calls Tryz.prog 96 #[.pointer (some ⟨g,0,none⟩)] w fun e w'=>e = .returned (.bool true)∧ItB w' g A d c (L+1) p0 p1 (fun j=>if j=L then (p,q) else fr j)∧OutG (fun k=>k=g) w w':=by
 exact vn1
def AtC (w:World) (cs:List Value) (a:List Nat×List (List Int)):Prop:=∃u b,cs=[u,.int .i64 ((a.1.length:Nat):Int),b]∧IntsV w u a.1∧RowsV w b a.2
theorem AtC.below {cs:List Value} {a:List Nat×List (List Int)} (h:AtC w cs a) (hb:Below w.heap.size w w'):AtC w' cs a:=by
 obtain⟨u,b,e,h1,h2⟩:=h;exact⟨u,b,e,h1.below hb,RowsV.below h2 hb⟩
def Zs:List (List Nat×List (List Int))→Nat
 |[]=>0
 |a :: l=>a.2.length+Zs l
theorem zgX (l m:List (List Nat×List (List Int))):Zs (l++m)=Zs l+Zs m:=by
 induction l with
 |nil=>simp[Zs]
 |cons a l ih=>rw[List.cons_append,Zs,Zs,ih];omega
theorem ze6 {l:List (List Nat×List (List Int))} {x:List Nat×List (List Int)} (h:l[i]? = some x):Zs (l.take (i+1))=Zs (l.take i)+x.2.length:=by
 rw[List.take_add_one,h,zgX];simp[Zs]
theorem zo8 {l:List (List Nat×List (List Int))} {x:List Nat×List (List Int)} (h:l[i]? = some x):Zs (l.take i)+x.2.length≤Zs l:=by
 rw[←ze6 h];conv=>rhs;rw[←List.take_append_drop (i+1) l,zgX]
 omega
def zB {S:Type} (val:Nat→S):Nat→List (List Nat×List (List Int))→List (PF S)
 |_,[]=>[]
 |off,a :: l=>⟨a.1,a.2,(List.range a.2.length).map fun j=>val (off+j)⟩ :: zB val (off+a.2.length) l
theorem zcV (val:Nat→S) (m:List (List Nat×List (List Int))):∀(l:List (List Nat×List (List Int))) (off:Nat),zB val off (l++m)=zB val off l++zB val (off+Zs l) m
 |[],off=>by simp[zB,Zs]
 |a :: l,off=>by rw[List.cons_append,zB,zB,zcV val m l,Zs,List.cons_append,Nat.add_assoc]
theorem zfW (val:Nat→S) {l:List (List Nat×List (List Int))} {x:List Nat×List (List Int)} (h:l[i]? = some x):zB val 0 (l.take (i+1))=zB val 0 (l.take i)++[⟨x.1,x.2,(List.range x.2.length).map fun j=>val (Zs (l.take i)+j)⟩]:=by
 rw[List.take_add_one,h,zcV];simp[zB]
theorem za9 (val:Nat→S):∀(l:List (List Nat×List (List Int))) (off:Nat),(zB val off l).length=l.length
 |[],_=>rfl
 |a :: l,off=>by rw[zB,List.length_cons,za9 val l,List.length_cons]
theorem zmA (val:Nat→S) (off:Nat) {z:S} (hj:j<n):(((List.range j).map fun i=>val (off+i))++List.replicate (n - j) z).set j (val (off+j))=((List.range (j+1)).map fun i=>val (off+i))++List.replicate (n - (j+1)) z:=by
 rw[List.set_append_right _ _ vz,List.range_succ,List.map_append,List.append_assoc];congr 1;rw[show n - j=n - (j+1)+1 by omega,List.replicate_succ];simp
theorem FrR.below {R:World→List Value→S→Prop} {us:List S} (h:FrR te k R B w r vars rows us) (hb:Below w.heap.size w w') (hR:∀c x,R w c x→R w' c x):FrR te k R B w' r vars rows us:=by
 obtain⟨a,b,c,e,h1,h2,h3⟩:=h;exact⟨a,b,c,e,h1.below hb,RowsV.below h2 hb,h3.below hb hR⟩
theorem FrR.lower {B':Nat} {R:World→List Value→S→Prop} {us:List S} (h:FrR te k R B w r vars rows us) (hb:B'≤B):FrR te k R B' w r vars rows us:=by
 obtain⟨a,b,c,e,h1,h2,h3⟩:=h;exact⟨a,b,c,e,h1,h2,h3.lower hb⟩
section
variable {o : Oper} {a : Act} {w : World} {K : Act → World → Prop} {Q : Exit → Act → World → Prop}
theorem zfX (ho:o.op = .alloc 95) (next:K (a.put o.dst (.pointer (some ⟨w.heap.size,0,none⟩))) (w.alloc (.cells #[.slice none 0 0,.int .i64 0,.slice none 0 0] 95))):o.wp Tryz.prog a w K Q:=by
 have hr:(execOp a.eval o).run Tryz.prog w = .ok (.value (.pointer (some ⟨w.heap.size,0,none⟩))) (w.alloc (.cells #[.slice none 0 0,.int .i64 0,.slice none 0 0] 95)):=by
  unfold execOp;rw[ho];go_simp
 unfold Oper.wp;rw[hr];exact next
end
theorem zd2 {P:Program} {Kp:Value→World→Prop} {v:Value} (K:FuncId) (caps:Array Value) (t u:Tmp) (ho:o.op = .call {callee:= .value (.tmp t),args:=#[.tmp u],argTypes:=#[3]}) (ht:tv a t = .func (.func K) #[] caps) (hf:Yw P K=true) (hu:tv a u=v)
  (h:Calls P K (#[v]++caps) w (fun e w''=>∃v,e = .returned v∧Kp v w'')):zp P o a.eval w Kp:=by
 exact vt30
def ByV (w:World) (A:Option Addr) (n:Nat) (bs:List Nat):Prop:=Reads w w.heap.size 1 A n (bs.map fun b:Nat=>Value.int .u8 (b:Int))∧n=bs.length∧∀b∈bs,b<256
theorem ByV.below (h:ByV w A n bs) (hb:Below w.heap.size w w'):ByV w' A n bs:=⟨(h.1.below hb).more hb.size,h.2⟩
theorem ByV.at_ (h:ByV w A n bs) (hk:k<n):∃ad,A=some ad∧ad.block<w.heap.size∧w.cell? (ad.add k)=some (.int .u8 ((nth bs k:Nat):Int)):=by
 obtain⟨ad,u,e,hb,hx,hc⟩:=h.1.at_ hk;refine⟨ad,e,hb,?_⟩;rw[hc];have hl:k<bs.length:=by rw[←h.2.1];exact hk
 rw[uz,uf hl] at hx;rw[Zu hl];exact hx.symm
def yN (bs:List Nat) (i:Nat):Nat:=if bs=[] then i else nth bs (i % bs.length)
theorem zcW:1<yW:=by
 have h:pw2 0<pw2 3000:=zhM jo;exact h
theorem zjm {t:Tmp} (hk:k<4294967296) (ho:o.op = .convert 3 36 (.tmp t)) (hx:tv a t = .int .i64 (k:Int)):zp Tryz.prog o a.eval w (fun v w'=>v = .int .u64 (k:Int)∧Below w.heap.size w w'):=by
 exact vt42
theorem zo9 {t:Tmp} (hk:k<256) (ho:o.op = .convert 5 36 (.tmp t)) (hx:tv a t = .int .u8 (k:Int)):zp Tryz.prog o a.eval w (fun v w'=>v = .int .u64 (k:Int)∧Below w.heap.size w w'):=by
 exact vt42
theorem zjn {t u:Tmp} {x y:Nat} {T T2:TypeId} (hy:0<y) (hx:x≤1000000) (hm:m=x % y) (ho:o.op = .binOp .rem T (.tmp t) (.tmp u) T2) (h:tv a t = .int .i64 (x:Int)) (h2:tv a u = .int .i64 (y:Int)):zp Tryz.prog o a.eval w (fun v w'=>v = .int .i64 (m:Int)∧Below w.heap.size w w'):=by
 have h0:¬((y:Int)=0):=jo;have e4:((x:Int) % (y:Int))=(m:Int):=jo;have e1:(x:Int).tmod (y:Int)=(m:Int):=by rw[IntWalk.rem_in _ _ jo];exact e4
 have hlt:x % y≤x:=Nat.mod_le _ _;have e3:IntKind.i64.wrap (m:Int)=(m:Int):=IntWalk.i64_in _ jo;clear hm hlt;refine zo (.int .i64 (m:Int)) ?_ ⟨rfl,ue _ _⟩;unfold execOp;rw[ho];simp only[zK,h,h2];go_simp;all_goals omega
theorem zd3 (p:Addr) (A:Option Addr) (n c:Nat) (bs:List Nat) (i:Nat) (w:World) (hp:w.cell? p=some (.slice A n c)) (hb:ByV w A n bs) (hi:i≤3000):Calls Tryz.prog 7 #[.int .i64 (i:Int),.pointer (some p)] w (fun e w'=>∃u,e = .returned u∧FC.vq22 w' u (some (yN bs i))∧Below w.heap.size w w'):=by
 have HB:=vh hb;have HP:=vh hp;clear hb hp;go_enter Tryz.func7,Tryz.ntmps7;go_upto_region 1 with (fail);obtain⟨w1,hw0⟩:∃x,x=w.alloc (.cells #[.bool false,.slice none 0 0] 34):=⟨_,rfl⟩;rw[←hw0];have hs0:w1.heap.size=w.heap.size+1:=by rw[hw0];simp
 have ha0:Below w.heap.size w w1:=by rw[hw0];exact al _ _
 obtain⟨g3,hg0⟩:∃g,g=w.heap.size:=⟨_,rfl⟩;have hx0:Blk w1 g3 34 #[.bool false,.slice none 0 0]:=by rw[hw0,hg0];exact Blk.new _ _ _
 rw[←hg0];have X3:=vh hx0;have G3:=vh (show w.heap.size≤g3 by omega);have HB1:=vh (show Below w.heap.size w w1 from ha0);clear hw0 hs0 ha0 hg0 hx0;have z1:w1.cell? p=some (.slice A n c):=(HB1.cell (zh HP.out)).trans HP.out;by_cases h0:n=0
 ·subst h0;have HC:=vh (show yN bs i=i by unfold yN;rw[if_pos (uo (by rw[←HB.2.1]))]);go_upto_region 2 with (fail);clear z1;refine zc (kss:=[[],[(0,7)],[(1,8)],[(2,9)]]) [(0,.int .i64 ((i:Int)))] [EV (.int .i64 ((i:Int))),EV (.int .u64 ((i:Int))),fun zz ww=>∃A9 k9 c9,zz = .slice A9 k9 c9∧Num ww A9 k9 c9 100 (i),fun zz ww=>FC.vq22 ww zz (some (i))∧∃A9 k9 c9,zz = .agg #[.bool false,.slice A9 k9 c9]] 4 vk vt [false,false,false,false] ?_ ?_ ?_
  ·exact⟨eI,eI,fun _ _ _ ⟨a,b,c,h1,h2⟩ hb=>⟨a,b,c,h1,h2.new hb⟩,fun _ _ _ ⟨h1,a,b,c,h2⟩ hb=>⟨h1.kd (KD.below hb),a,b,c,h2⟩,uC⟩
  ·exact⟨vi0,(fun aa ww hb he hd=>za rfl (zjm jo rfl hd.1)),(fun aa ww hb he hd=>za rfl (zq _ _ _ rfl vk (by rw[show aa.eval (.tmp 8)=_ from hd.1];exact(zhD (i) jo ww).mono fun e w9 ⟨a,b,c,h1,h2,_,h3⟩=>⟨_,h1,⟨a,b,c,rfl,h2.up (ZP jo) jo⟩,h3⟩))),zqX,uC⟩
  intro vs w2 hb hR;have r10:=hR 3 jd;clear hR;refine vs0 ?_;obtain⟨hrc,A9,k9,c9,e9⟩:=r10;rw[e9] at hrc ⊢;clear e9;have hx:=X3.keep hb;show wpOps _ _ _ [4] _ _;refine zb rfl rfl (zC (vs:=[.bool false,.slice A9 k9 c9]) (off:=0) rfl rfl vk rfl rfl rfl hx vj6 (fun j _ _ x=>zD rfl j x) ?_);intro w9 kn hg hs hb9;have kd:KD [3,26] w2 w9:=KD.blk hx hg kn rfl;have HV:=vh (hrc.kd kd);have HX9:=vh (show Blk w9 g3 34 #[.bool false,.slice A9 k9 c9] from hb9);have HB9:=vh (show Below w.heap.size w w9 from(HB1.trans (hb.mono HB1.size)).grown hg (ud HB1.size hb.size) (fun k e=>by cases e;exact G3.out));clear hrc kn hg hs hb9 kd hx hb;unfold wpOps;exact vt35
 ·have hn0:0<n:=jo;obtain⟨m,hm⟩:=vx (i % n);have hmn:m<n:=by rw[hm];exact Nat.mod_lt _ hn0
  obtain⟨ad,rfl,hab,hc⟩:=HB.at_ hmn;obtain⟨b,hbv⟩:=vx (nth bs m);have hb8:b<256:=by rw[hbv];exact HB.2.2 _ (yD (by rw[←HB.2.1];exact hmn))
  rw[←hbv] at hc;have HC:=vh (show yN bs i=b by unfold yN;rw[if_neg (fun h=>by have:=HB.2.1;rw[h] at this;simp at this;omega),←HB.2.1,←hm,←hbv]);have HAd:=vh hc;have HM:=vh hm;have n1:((n:Int) == 0)=false:=by simp;omega
  clear hc hbv hm;go_upto_region 3 with (fail);clear z1;refine zt (kss:=[[],[],[],[(2,13)],[(1,12),(3,14)],[(0,11),(4,15)],[(5,16)],[(6,17)],[(7,18)],[(8,19)]]) [(1,.pointer (some p)),(0,.int .i64 ((i:Int)))] [EV (.slice ((some ad)) n c),EV (.int .i64 ((i:Int))),EV (.slice ((some ad)) n c),EV (.int .i64 ((n:Int))),EV (.int .i64 ((m:Int))),EV (.pointer (some (Addr.add ad (m*1)))),EV (.int .u8 ((b:Int))),EV (.int .u64 ((b:Int))),fun zz ww=>∃A9 k9 c9,zz = .slice A9 k9 c9∧Num ww A9 k9 c9 100 (b),fun zz ww=>FC.vq22 ww zz (some (b))∧∃A9 k9 c9,zz = .agg #[.bool false,.slice A9 k9 c9]] 10 [] vk vk vt [false,false,false,false,false,false,false,false,false,false] ?_ ?_ ?_ ?_
  ·exact fun i hi=>absurd hi vz
  ·exact⟨eI,eI,eI,eI,eI,eI,eI,eI,fun _ _ _ ⟨a,b,c,h1,h2⟩ hb=>⟨a,b,c,h1,h2.new hb⟩,fun _ _ _ ⟨h1,a,b,c,h2⟩ hb=>⟨h1.kd (KD.below hb),a,b,c,h2⟩,uC⟩
  ·exact⟨zsT,vi1,zsT,vi6,(fun aa ww hb he hd=>za rfl (zjn hn0 jo HM.out rfl hd.1 hd.2.1)),(fun aa ww hb he hd=>za rfl (zm (e:=5) (s:=1) (k:=m) rfl vk hmn hd.1 hd.2.1)),(fun aa ww hb he hd=>za rfl (zd rfl vk hd.1 (by rw[Nat.mul_one];exact((HB1.trans (hb.mono HB1.size)).cell (zh HAd.out)).trans HAd.out))),(fun aa ww hb he hd=>za rfl (zo9 jo rfl hd.1)),(fun aa ww hb he hd=>za rfl (zq _ _ _ rfl vk (by rw[show aa.eval (.tmp 18)=_ from hd.1];exact(zhD (b) jo ww).mono fun e w9 ⟨a,b,c,h1,h2,_,h3⟩=>⟨_,h1,⟨a,b,c,rfl,h2.up (ZP jo) jo⟩,h3⟩))),zqX,uC⟩
  intro vs w2 hb hR _;have r20:=hR 9 jd;clear hR;refine vs0 ?_;obtain⟨hrc,A9,k9,c9,e9⟩:=r20;rw[e9] at hrc ⊢;clear e9;have hx:=X3.keep hb;refine zA (i:=10) vk rfl rfl (zC (vs:=[.bool false,.slice A9 k9 c9]) (off:=0) rfl rfl vk rfl rfl rfl hx vj6 (fun j _ _ x=>zD rfl j x) ?_);intro w9 kn hg hs hb9;refine zR vk (zy ?_) _;have kd:KD [3,26] w2 w9:=KD.blk hx hg kn rfl;have HV:=vh (hrc.kd kd);have HX9:=vh (show Blk w9 g3 34 #[.bool false,.slice A9 k9 c9] from hb9);have HB9:=vh (show Below w.heap.size w w9 from(HB1.trans (hb.mono HB1.size)).grown hg (ud HB1.size hb.size) (fun k e=>by cases e;exact G3.out));clear hrc kn hg hs hb9 kd hx hb;exact vt35
theorem zkG (p q:Addr) (i cv:Nat) (w:World) (hp:w.cell? p=some (.func (.func 7) #[] #[.pointer (some q)])) (hc:∀ww,Below w.heap.size w ww→Calls Tryz.prog 7 #[.int .i64 (i:Int),.pointer (some q)] ww (fun e w'=>∃u,e = .returned u∧FC.vq22 w' u (some cv)∧Below ww.heap.size ww w')):Calls Tryz.prog 17 #[.int .i64 (i:Int),.pointer (some p)] w (fun e w'=>∃u,e = .returned u∧FP.vq22 w' u (1,some cv)∧Below w.heap.size w w'):=by
 have HC:=vh hc;have HP:=vh hp;clear hc hp;go_enter Tryz.func17,Tryz.ntmps17;go_upto_region 1 with (fail);obtain⟨w1,hw0⟩:∃x,x=w.alloc (.cells #[.slice none 0 0,.bool false,.slice none 0 0] 61):=⟨_,rfl⟩;rw[←hw0];have hs0:w1.heap.size=w.heap.size+1:=by rw[hw0];simp
 have ha0:Below w.heap.size w w1:=by rw[hw0];exact al _ _
 obtain⟨g3,hg0⟩:∃g,g=w.heap.size:=⟨_,rfl⟩;have hx0:Blk w1 g3 61 #[.slice none 0 0,.bool false,.slice none 0 0]:=by rw[hw0,hg0];exact Blk.new _ _ _
 rw[←hg0];have X3:=vh hx0;have G3:=vh (show w.heap.size≤g3 by omega);have HB1:=vh (show Below w.heap.size w w1 from ha0);clear hw0 hs0 ha0 hg0 hx0;refine zt (kss:=[[],[],[],[(1,5),(2,6)],[(0,4),(3,7)]]) [(1,.pointer (some p)),(0,.int .i64 ((i:Int)))] [fun zz ww=>FN.vq22 ww zz 1,EV (.func (.func 7) #[] #[.pointer (some q)]),EV (.int .i64 ((i:Int))),fun zz ww=>FC.vq22 ww zz (some cv),fun zz ww=>FP.vq22 ww zz (1,some cv)] 5 [] vk vk vt [false,false,false,false,false] ?_ ?_ ?_ ?_
 ·exact fun i hi=>absurd hi vz
 ·exact⟨fun _ _ _ h hb=>h.kd (KD.below hb),eI,eI,fun _ _ _ h hb=>h.kd (KD.below hb),fun _ _ _ h hb=>h.kd (KD.below hb),uC⟩
 ·exact⟨(fun aa ww hb he hd=>za rfl (zq _ _ _ rfl vk ((zhD 1 jo ww).mono fun e w9 ⟨a,b,c,h1,h2,_,h3⟩=>⟨_,h1,⟨a,b,c,rfl,h2.up (ZP jo) jo,uA (zcW)⟩,h3⟩))),zsT,vi1,(fun aa ww hb he hd=>za rfl (zd2 7 _ _ _ rfl hd.1 vk hd.2.1 (HC.out ww (HB1.trans (hb.mono HB1.size))))),(fun aa ww hb he hd=>za rfl (by have h4:FN.vq22 ww (tv aa 4) 1:=hd.1;have h7:FC.vq22 ww (tv aa 7) (some cv):=hd.2.1;obtain⟨A,k,c,e4⟩:=h4.frm;obtain⟨b,A2,k2,c2,e7⟩:=h7.frm;rw[e4] at h4;rw[e7] at h7;exact zk (yR (cells:=#[.slice A k c,.bool b,.slice A2 k2 c2]) rfl e4 e7 vk) (fun _ _ ⟨h1,h2⟩=>⟨⟨_,_,_,_,_,_,_,h1,h4.kd (KD.below h2),h7.kd (KD.below h2)⟩,h2⟩))),uC⟩
 intro vs w2 hb hR _;have r8:=hR 4 jd;clear hR;refine vs0 ?_;have hrc:=r8;obtain⟨A9,k9,c9,b9,B9,m9,d9,e9⟩:=FP.vq22.frm hrc;rw[e9] at hrc ⊢;clear e9 r8;have hx:=X3.keep hb;refine zA (i:=5) vk rfl rfl (zC (vs:=[.slice A9 k9 c9,.bool b9,.slice B9 m9 d9]) (off:=0) rfl rfl vk rfl rfl rfl hx vj4 (fun j _ _ x=>zD rfl j x) ?_);intro w9 kn hg hs hb9;refine zR vk (zy ?_) _;have kd:KD [3,26] w2 w9:=KD.blk hx hg kn rfl;have HV:=vh (hrc.kd kd);have HX9:=vh (show Blk w9 g3 61 #[.slice A9 k9 c9,.bool b9,.slice B9 m9 d9] from hb9);have HB9:=vh (show Below w.heap.size w w9 from(HB1.trans (hb.mono HB1.size)).grown hg (ud HB1.size hb.size) (fun k e=>by cases e;exact G3.out));clear hrc kn hg hs hb9 kd hx hb;go_wp2_with fail;refine bodyPost_ret (v:= .agg #[.slice A9 k9 c9,.bool b9,.slice B9 m9 d9]) (results_cell_row Tryz.results17 _ _ _ _ _ (0,0) _ rfl HX9.out Tryz.underlying61 rfl vk) rfl ?_;exact⟨_,rfl,HV.out,HB9.out⟩
theorem zmB (i:Int) (w:World):Calls Tryz.prog 12 #[.int .i64 i] w (fun e w'=>∃u,e = .returned u∧FN.vq22 w' u 1∧Below w.heap.size w w'):=by
 go_enter Tryz.func12,Tryz.ntmps12;go_wp2_with fail;refine(zhD 1 jo _).mono ?_;rintro e w2 ⟨A,k,c,rfl,h1,-,h2⟩;have H1:=vh h1;have H2:=vh h2;clear h1 h2;go_wp2_with fail;go_ret;exact⟨_,rfl,⟨_,_,_,rfl,H1.up (ZP jo) jo,uA zcW⟩,H2.out⟩
theorem zd4 {v:Value} {x y:Option Nat} (w:World) (hu:FC.vq22 w u x) (hv:FC.vq22 w v y):Calls Tryz.prog 19 #[.agg #[],u,v] w (fun e w'=>e = .returned (.bool (decide (x=y)))∧Below w.heap.size w w'):=by
 obtain⟨b,A,n,c,rfl,h⟩:=hu;obtain⟨b2,B,m,d,rfl,h2⟩:=hv;cases x with
 |none=>
  obtain rfl:b=true:=h;cases y with
  |none=>
   obtain rfl:b2=true:=h2;skip;go_enter Tryz.func19,Tryz.ntmps19;go_upto_region 1 with (fail);obtain⟨w1_0,hw0⟩:∃x,x=w.alloc (.cells #[] 40):=⟨_,rfl⟩;rw[←hw0];have hs0:w1_0.heap.size=w.heap.size+1:=by rw[hw0];simp
   have ha0:Below w.heap.size w w1_0:=by rw[hw0];exact al _ _
   obtain⟨g3,hg0⟩:∃g,g=w.heap.size:=⟨_,rfl⟩;have hx0:Blk w1_0 g3 40 #[]:=by rw[hw0,hg0];exact Blk.new _ _ _
   obtain⟨w1_1,hw1⟩:∃x,x=w1_0.alloc (.cells #[.bool true,.slice A n c] 34):=⟨_,rfl⟩;rw[←hw1];have hs1:w1_1.heap.size=w.heap.size+1+1:=by rw[hw1];simp[hs0]
   have ha1:Below w1_0.heap.size w1_0 w1_1:=by rw[hw1];exact al _ _
   obtain⟨g4,hg1⟩:∃g,g=w.heap.size+1:=⟨_,rfl⟩;have hx1:Blk w1_1 g4 34 #[.bool true,.slice A n c]:=by rw[hw1,hg1,←hs0];exact Blk.new _ _ _
   exact vt7
  |some M=>
   obtain⟨rfl,hM,hM3⟩:=h2;clear hM hM3;go_enter Tryz.func19,Tryz.ntmps19;go_upto_region 1 with (fail);obtain⟨w1_0,hw0⟩:∃x,x=w.alloc (.cells #[] 40):=⟨_,rfl⟩;rw[←hw0];have hs0:w1_0.heap.size=w.heap.size+1:=by rw[hw0];simp
   have ha0:Below w.heap.size w w1_0:=by rw[hw0];exact al _ _
   obtain⟨g3,hg0⟩:∃g,g=w.heap.size:=⟨_,rfl⟩;have hx0:Blk w1_0 g3 40 #[]:=by rw[hw0,hg0];exact Blk.new _ _ _
   obtain⟨w1_1,hw1⟩:∃x,x=w1_0.alloc (.cells #[.bool true,.slice A n c] 34):=⟨_,rfl⟩;rw[←hw1];have hs1:w1_1.heap.size=w.heap.size+1+1:=by rw[hw1];simp[hs0]
   have ha1:Below w1_0.heap.size w1_0 w1_1:=by rw[hw1];exact al _ _
   obtain⟨g4,hg1⟩:∃g,g=w.heap.size+1:=⟨_,rfl⟩;have hx1:Blk w1_1 g4 34 #[.bool true,.slice A n c]:=by rw[hw1,hg1,←hs0];exact Blk.new _ _ _
   obtain⟨w1,hw2⟩:∃x,x=w1_1.alloc (.cells #[.bool false,.slice B m d] 34):=⟨_,rfl⟩;rw[←hw2];have hs2:w1.heap.size=w.heap.size+1+1+1:=by rw[hw2];simp[hs1]
   have ha2:Below w1_1.heap.size w1_1 w1:=by rw[hw2];exact al _ _
   obtain⟨g5,hg2⟩:∃g,g=w.heap.size+1+1:=⟨_,rfl⟩;have hx2:Blk w1 g5 34 #[.bool false,.slice B m d]:=by rw[hw2,hg2,←hs1];exact Blk.new _ _ _
   rw[←hg2,←hg1,←hg0];have X3:=vh ((hx0.keep ha1).keep ha2);have G3:=vh (show w.heap.size≤g3 by omega);have X4:=vh (hx1.keep ha2);have G4:=vh (show w.heap.size≤g4 by omega);have X5:=vh hx2;have G5:=vh (show w.heap.size≤g5 by omega);have HB1:=vh (show Below w.heap.size w w1 from(ze (ze ha0 ha1 jo) ha2 jo));clear hw2 hs2 ha2 hg2 hx2 hw1 hs1 ha1 hg1 hx1 hw0 hs0 ha0 hg0 hx0;have z40:=Blk.at0 X4.out (ue _ _);have z41:=Blk.at1 X4.out (ue _ _);have z50:=Blk.at0 X5.out (ue _ _);have z51:=Blk.at1 X5.out (ue _ _);go_wp2_with fail;go_ret;exact⟨rfl,HB1.out⟩
 |some N=>
  obtain⟨rfl,hN,hN3⟩:=h;cases y with
  |none=>
   obtain rfl:b2=true:=h2;clear hN hN3;go_enter Tryz.func19,Tryz.ntmps19;go_upto_region 1 with (fail);obtain⟨w1_0,hw0⟩:∃x,x=w.alloc (.cells #[] 40):=⟨_,rfl⟩;rw[←hw0];have hs0:w1_0.heap.size=w.heap.size+1:=by rw[hw0];simp
   have ha0:Below w.heap.size w w1_0:=by rw[hw0];exact al _ _
   obtain⟨g3,hg0⟩:∃g,g=w.heap.size:=⟨_,rfl⟩;have hx0:Blk w1_0 g3 40 #[]:=by rw[hw0,hg0];exact Blk.new _ _ _
   obtain⟨w1_1,hw1⟩:∃x,x=w1_0.alloc (.cells #[.bool false,.slice A n c] 34):=⟨_,rfl⟩;rw[←hw1];have hs1:w1_1.heap.size=w.heap.size+1+1:=by rw[hw1];simp[hs0]
   have ha1:Below w1_0.heap.size w1_0 w1_1:=by rw[hw1];exact al _ _
   obtain⟨g4,hg1⟩:∃g,g=w.heap.size+1:=⟨_,rfl⟩;have hx1:Blk w1_1 g4 34 #[.bool false,.slice A n c]:=by rw[hw1,hg1,←hs0];exact Blk.new _ _ _
   exact vt7
  |some M=>
   obtain⟨rfl,hM,hM3⟩:=h2;have HN:=vh hN;have HM:=vh hM;clear hN hN3 hM hM3;go_enter Tryz.func19,Tryz.ntmps19;go_upto_region 1 with (fail);obtain⟨w1_0,hw0⟩:∃x,x=w.alloc (.cells #[] 40):=⟨_,rfl⟩;rw[←hw0];have hs0:w1_0.heap.size=w.heap.size+1:=by rw[hw0];simp
   have ha0:Below w.heap.size w w1_0:=by rw[hw0];exact al _ _
   obtain⟨g3,hg0⟩:∃g,g=w.heap.size:=⟨_,rfl⟩;have hx0:Blk w1_0 g3 40 #[]:=by rw[hw0,hg0];exact Blk.new _ _ _
   obtain⟨w1_1,hw1⟩:∃x,x=w1_0.alloc (.cells #[.bool false,.slice A n c] 34):=⟨_,rfl⟩;rw[←hw1];have hs1:w1_1.heap.size=w.heap.size+1+1:=by rw[hw1];simp[hs0]
   have ha1:Below w1_0.heap.size w1_0 w1_1:=by rw[hw1];exact al _ _
   obtain⟨g4,hg1⟩:∃g,g=w.heap.size+1:=⟨_,rfl⟩;have hx1:Blk w1_1 g4 34 #[.bool false,.slice A n c]:=by rw[hw1,hg1,←hs0];exact Blk.new _ _ _
   obtain⟨w1,hw2⟩:∃x,x=w1_1.alloc (.cells #[.bool false,.slice B m d] 34):=⟨_,rfl⟩;rw[←hw2];have hs2:w1.heap.size=w.heap.size+1+1+1:=by rw[hw2];simp[hs1]
   have ha2:Below w1_1.heap.size w1_1 w1:=by rw[hw2];exact al _ _
   obtain⟨g5,hg2⟩:∃g,g=w.heap.size+1+1:=⟨_,rfl⟩;have hx2:Blk w1 g5 34 #[.bool false,.slice B m d]:=by rw[hw2,hg2,←hs1];exact Blk.new _ _ _
   rw[←hg2,←hg1,←hg0];have X3:=vh ((hx0.keep ha1).keep ha2);have G3:=vh (show w.heap.size≤g3 by omega);have X4:=vh (hx1.keep ha2);have G4:=vh (show w.heap.size≤g4 by omega);have X5:=vh hx2;have G5:=vh (show w.heap.size≤g5 by omega);have HB1:=vh (show Below w.heap.size w w1 from(ze (ze ha0 ha1 jo) ha2 jo));clear hw2 hs2 ha2 hg2 hx2 hw1 hs1 ha1 hg1 hx1 hw0 hs0 ha0 hg0 hx0;have z40:=Blk.at0 X4.out (ue _ _);have z41:=Blk.at1 X4.out (ue _ _);have z50:=Blk.at0 X5.out (ue _ _);have z51:=Blk.at1 X5.out (ue _ _);go_wp2_with fail;refine(zgd (HN.new HB1.out) (HM.new HB1.out)).mono ?_;rintro e w2 ⟨rfl,hb⟩;have HB2:=vh (ze HB1.out hb HB1.size);clear hb;by_cases hnm:N=M
   ·have t0:YE N M=0:=by unfold YE;rw[if_neg jo,if_neg jo]
    go_wp2_with fail;go_ret;exact⟨by subst hnm;simp[YE],HB2.out⟩
   ·have t0:(YE N M == 0)=false:=by unfold YE;split;rfl;split;rfl;omega
    go_wp2_with fail;go_ret;exact⟨by simp[hnm],HB2.out⟩
structure ItD where
 g:Nat
 A:Option Addr
 d:Nat
 c:Nat
 l:Nat
 st:Nat
 C:List Int
 V:Nat→List Int
 F:Nat→List Nat
 fr:Nat→Nat×Nat
def ItD.on (D:ItD) (w:World) (k:Nat):Prop:=ItB w D.g D.A D.d D.c (D.l+1) (D.st+k) (D.st+D.C.length) D.fr
structure ItD.Ok (D:ItD) (G:Nat→Prop) (w:World):Prop where
 tr:TrG G w D.A D.d D.V D.F
 lt:D.l<D.d
 d32:D.d≤32
 gg:G D.g
 seg:∀u c,D.C[u]? = some c→zv (D.V D.l) (D.st+u)=c
 len:D.st+D.C.length≤(D.V D.l).length
 big:D.st+D.C.length≤1000000
 asc:D.C.Pairwise (· < ·)
 val:∀c∈D.C,0≤c∧c≤3
section
variable {G : Nat → Prop} {w w' : World} {D : ItD} {k : Nat}
theorem ItD.Ok.out (h:D.Ok G w) (ho:OutG G w w'):D.Ok G w':=⟨h.tr.out ho,h.lt,h.d32,h.gg,h.seg,h.len,h.big,h.asc,h.val⟩
theorem ItD.on.below (h:D.on w k) (hb:Below w.heap.size w w'):D.on w' k:=ItB.below h hb
theorem ItD.on.out {G':Nat→Prop} (h:D.on w k) (ho:OutG G' w w') (hg:¬G' D.g):D.on w' k:=ItB.out h ho hg
theorem ItD.Ok.lt_len (h:D.Ok G w) (hk:k<D.C.length):D.st+k<(D.V D.l).length:=uj (Nat.add_lt_add_left hk _) h.len
theorem ItD.Ok.ascI (h:D.Ok G w):∀i j,D.st+k≤i→i<j→j<D.st+D.C.length→zv (D.V D.l) i<zv (D.V D.l) j:=by
 intro i j h1 h2 h3;have hi:i - D.st<D.C.length:=jo;have hj:j - D.st<D.C.length:=jo;have e1:=h.seg (i - D.st) _ (uf hi);have e2:=h.seg (j - D.st) _ (uf hj);rw[show D.st+(i - D.st)=i by omega] at e1;rw[show D.st+(j - D.st)=j by omega] at e2;rw[e1,e2];exact List.pairwise_iff_getElem.1 h.asc _ _ hi hj jo
theorem zmC (h:D.on w k) (ho:D.Ok G w) (hk:k<D.C.length):Calls Tryz.prog 98 #[.pointer (some ⟨D.g,0,none⟩)] w fun e w'=>e = .returned (.bool (decide (k+1<D.C.length)))∧D.on w' (k+1)∧OutG (fun x=>x=D.g) w w':=
 (zkB h ⟨Nat.succ_pos _,by have:=ho.lt;have:=ho.d32;omega⟩ ⟨jo,ho.big⟩).mono fun e w' ⟨h1,h2,h3⟩=>⟨by rw[h1];congr 2;simp;omega,h2,h3⟩
theorem zfY (h:D.on w k) (ho:D.Ok G w) {c:Int} (hk:D.C[k]? = some c):Calls Tryz.prog 99 #[.pointer (some ⟨D.g,0,none⟩)] w fun e w'=>e = .returned (.tuple #[VA c,.bool true])∧Below w.heap.size w w':=by
 have hl:=(List.getElem?_eq_some_iff.1 hk).1;have:=zmw h ho.tr rfl ho.lt ho.d32 (Nat.add_lt_add_left hl _) (ho.lt_len hl);rw[ho.seg k c hk] at this;exact this
theorem zkH (h:D.on w k) (hk:D.C.length≤k):Calls Tryz.prog 99 #[.pointer (some ⟨D.g,0,none⟩)] w fun e w'=>e = .returned (.tuple #[.agg #[.int .i64 0,.int .i64 0,.string ⟨#[]⟩],.bool false])∧Below w.heap.size w w':=
 zo5 h (Nat.add_le_add_left hk _)
theorem zmD {y:Int} (h:D.on w k) (ho:D.Ok G w) (hk:k<D.C.length):Calls Tryz.prog 141 #[.pointer (some ⟨D.g,0,none⟩),VA y] w fun e w'=>∃k',k≤k'∧k'≤D.C.length∧(∀u,k≤u→u<k'→∀c,D.C[u]? = some c→c<y)∧(∀c,D.C[k']? = some c→y≤c)∧e = .returned (.bool (decide (k'<D.C.length)))∧D.on w' k'∧OutG (fun x=>x=D.g) w w':=
 (zkC (y:=y) h ho.tr ho.gg rfl ho.lt ho.d32 ⟨Nat.add_lt_add_left hk _,ho.len,ho.big⟩ ho.ascI).mono fun e w' ⟨p',h1,h2,h3,h4,h5,h6,h7⟩=>by
  obtain⟨k',rfl⟩:∃k',p'=D.st+k':=⟨p' - D.st,jo⟩
  refine⟨k',jo,jo,fun u a1 a2 c hc=>?_,fun c hc=>?_,by rw[h5];congr 2;simp,h6,h7⟩
  ·rw[←ho.seg u c hc];exact h3 (D.st+u) jo jo
  ·rw[←ho.seg k' c hc];exact h4 (by have:=(List.getElem?_eq_some_iff.1 hc).1;omega)
end
def JnB (w:World) (gj:Nat) (r a f:Value):Prop:=∃z:Int,Blk w gj 163 #[r,a,.int .i64 z,f]
theorem JnB.below {a:Value} (h:JnB w gj r a f) (hb:Below w.heap.size w w'):JnB w' gj r a f:=by obtain⟨z,h⟩:=h;exact⟨z,h.keep hb⟩
theorem JnB.out {G:Nat→Prop} {a:Value} (h:JnB w gj r a f) (ho:OutG G w w') (hg:¬G gj):JnB w' gj r a f:=by obtain⟨z,h⟩:=h;exact⟨z,ho.blk h hg⟩
def zmE (D:Nat→ItD) (m:Nat):List Value:=(List.range m).map fun j=> .pointer (some ⟨(D j).g,0,none⟩)
theorem zjo {D:Nat→ItD} (h:j<m):(zmE D m)[j]? = some (.pointer (some ⟨(D j).g,0,none⟩)):=by simp[zmE,h]
def MeG (gj m:Nat) (D:Nat→ItD) (x:Nat):Prop:=x=gj∨∃j,j<m∧x=(D j).g
structure MtW (G:Nat→Prop) (w:World) (gj m:Nat) (D:Nat→ItD) (IA:Addr):Prop where
 pos:0<m
 few:m≤1000
 rd:RdG G w 170 1 (some IA) m (zmE D m)
 ok:∀j,j<m→(D j).Ok G w
 ne:∀i j,i<m→j<m→i≠j→(D i).g≠(D j).g
 nj:∀j,j<m→(D j).g≠gj
 gj:G gj
section
variable {G : Nat → Prop} {w w' : World} {gj m : Nat} {D : Nat → ItD} {IA : Addr}
theorem MtW.out (h:MtW G w gj m D IA) (ho:OutG G w w'):MtW G w' gj m D IA:=⟨h.pos,h.few,h.rd.out ho,fun j hj=>(h.ok j hj).out ho,h.ne,h.nj,h.gj⟩
theorem MtW.sub (h:MtW G w gj m D IA):∀x,MeG gj m D x→G x:=fun x hx=>by
 rcases hx with rfl | ⟨j,hj,rfl⟩
 ·exact h.gj
 ·exact(h.ok j hj).gg
theorem MtW.outm (h:MtW G w gj m D IA) (ho:OutG (MeG gj m D) w w'):MtW G w' gj m D IA:=h.out (ho.mono fun x _ hx=>h.sub x hx)
theorem MtW.cell (h:MtW G w gj m D IA) (hj:j<m):w.cell? (IA.add (j*1))=some (.pointer (some ⟨(D j).g,0,none⟩)):=by
 obtain⟨ad,e,hc⟩:=h.rd.cell (zjo hj);injection e with e;subst e;rw[Nat.mul_one];exact hc
end
structure MeetR (m:Nat) (C:Nat→List Int) (k:Nat→Nat) (b:Bool) (k':Nat→Nat):Prop where
 le:∀j,j<m→k' j≤(C j).length
 yes:b=true→∃c,(0≤c∧c≤3)∧(∀j,j<m→(C j)[k' j]? = some c)∧(∀z,RemP m C k' z↔RemP m C k z)∧∀j,j<m→k j≤k' j
 no:b=false→∀z,¬RemP m C k z
end Go.Proofs.YtoecdobelolkeaaGreatDoor
