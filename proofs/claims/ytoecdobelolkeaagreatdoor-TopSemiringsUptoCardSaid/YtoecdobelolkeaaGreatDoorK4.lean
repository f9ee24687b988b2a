/- Part of TopSemirings. -/
import Derived.Test.YtoecdobelolkeaaGreatDoorK3
set_option linter.unusedVariables false
set_option linter.unusedSimpArgs false
set_option maxRecDepth 100000
set_option maxHeartbeats 16000000
namespace Go.Proofs.YtoecdobelolkeaaGreatDoor
open Go.RowKit
variable {w:World} {n k j base:Nat} {o:Oper} {a:Act} {bv:List Nat} {y:List Int}
def zan:List Int→List Int
 |[]=>[]
 |x :: l=>[49,32,48+x,32,48,32]++zan l
def yV (xs:List Int):ByteArray:=strOfNums (zan xs)
theorem zeC:∀(xs:List Int) (x:Int),zan (xs++[x])=zan xs++[49,32,48+x,32,48,32]
 |[],x=>by simp[zan]
 |y :: l,x=>by rw[List.cons_append,zan,zan,zeC l x];simp
theorem zdv:∀xs:List Int,(zan xs).length=xs.length*6
 |[]=>rfl
 |x :: l=>by rw[zan,ul,zdv l,List.length_cons];simp;omega
theorem zgi:∀ {xs ys:List Int},zan xs=zan ys→xs=ys
 |[],[],_=>rfl
 |[],_ :: _,h=>by simp[zan] at h
 |_ :: _,[],h=>by simp[zan] at h
 |x :: l,y :: m,h=>by
  simp only[zan,List.cons_append,List.nil_append,List.cons.injEq,true_and] at h
  rw[show x=y by omega,zgi (xs:=l) (ys:=m) h.2]
theorem zbB:∀ {xs:List Int},(∀x∈xs,0≤x∧x≤9)→∀z∈zan xs,0≤z∧z≤255
 |[],_,z,hz=>by cases hz
 |x :: l,h,z,hz=>by
  rw[zan,uB] at hz
  rcases hz with hz | hz
  ·have:=h x vz
   simp only[List.mem_cons,List.not_mem_nil,or_false] at hz
   omega
  ·exact zbB (xs:=l) (fun x hx=>h x (uq _ hx)) z hz
theorem zlC:∀ {l m:List Int},(∀z∈l,0≤z∧z≤255)→(∀z∈m,0≤z∧z≤255)→(l.map fun n=>UInt8.ofNat n.toNat)=(m.map fun n=>UInt8.ofNat n.toNat)→l=m
 |[],[],_,_,_=>rfl
 |[],_ :: _,_,_,h=>by simp at h
 |_ :: _,[],_,_,h=>by simp at h
 |x :: l,y :: m,hl,hm,h=>by
  simp only[List.map_cons,List.cons.injEq] at h
  have h1:=hl x vz;have h2:=hm y vz
  have h3:=ut UInt8.toNat h.1
  rw[UInt8.toNat_ofNat',UInt8.toNat_ofNat'] at h3
  rw[show x=y by omega,zlC (fun z hz=>hl z (uq _ hz)) (fun z hz=>hm z (uq _ hz)) h.2]
theorem zlD {xs ys:List Int} (hx:∀x∈xs,0≤x∧x≤9) (hy:∀x∈ys,0≤x∧x≤9) (h:yV xs=yV ys):xs=ys:=
 zgi (zlC (zbB hx) (zbB hy) (by have:=ut (fun s=>s.data.toList) h;exact this))
def U8c (l:List Int):List Value:=l.map (Value.int .u8)
theorem zoo (l m:List Int):U8c (l++m)=U8c l++U8c m:=by simp[U8c]
theorem zop (k:Nat) (hk:k≤9):Lib.byteCells (Lib.decDigits k)=U8c [48+(k:Int)]∧(Lib.decDigits k).length=1:=by
 unfold Lib.decDigits;rw[dif_pos jo];refine⟨?_,rfl⟩;simp only[Lib.byteCells,List.map_cons,List.map_nil,U8c];rw[UInt8.toNat_ofNat'];have:(48+k) % 2 ^ 8=48+k:=jo;rw[this];simp
theorem zbC (B n k:Nat) (hk:k≤9) (sv:Value) (xs:List Value) (w:World) (hown:w.ownsRow B 5 1 sv n xs) (hBw:B≤w.heap.size) (hlim:n≤100000000) :
  Calls Tryz.prog 166 #[sv,.int .i64 (k:Int),.int .i64 10] w fun e w'=>∃v',e = .returned v'∧w'.ownsRow B 5 1 v' (n+1) (xs++U8c [48+(k:Int)])∧Below B w w':=by
 have HO:=vh hown;have HBw:=vh hBw;clear hown hBw;have k0:¬((k:Int)<0):=jo;have e1:IntKind.u64.wrap (k:Int)=(k:Int):=IntWalk.u64_in _ jo;go_enter Tryz.func166,Tryz.ntmps166;go_wp2_with fail;refine(show Calls Tryz.prog 175 #[sv,.int .i64 (k:Int),.int .i64 10] w (fun e w'=>∃v',e = .returned v'∧w'.ownsRow B 5 1 v' (n+1) (xs++U8c [48+(k:Int)])∧Below B w w') from ?_).mono ?_
 ·go_enter Tryz.func175,Tryz.ntmps175;go_wp2_with fail;refine(Tryz.internal_strconv_AppendUint_10_small B n k jo sv xs w HO.out HBw.out jo).mono ?_;rintro e w2 ⟨v',rfl,h1,h2,-⟩;obtain⟨d1,d2⟩:=zop k hk;rw[d1,d2] at h1;have HR:=vh h1;have HB:=vh h2;clear h1 h2 d1 d2;go_wp2_with fail;go_ret;exact⟨_,rfl,HR.out,HB.out⟩
 ·rintro e w2 ⟨v',rfl,h1,h2⟩;have HR:=vh h1;have HB:=vh h2;clear h1 h2;go_wp2_with fail;go_ret;exact⟨_,rfl,HR.out,HB.out⟩
theorem zoq {K:Act→World→Prop} {Q:Exit→Act→World→Prop} (s x:Operand) (ho:o.op = .call {callee:= .builtin .append,args:=#[s,x],argTypes:=#[23,9]})
  (base:Nat) (v:Value) (n:Nat) (xs:List Value) (hs:a.eval s=v) (hown:w.ownsRow base 5 1 v n xs) (hx:a.eval x = .string S0) (hn:n≤600000000000) (hbase:base≤w.heap.size)
  (h:∀v' w',w'.ownsRow base 5 1 v' n xs→w.grownBy w' v.ownBlock→K (a.put o.dst v') w'):o.wp Tryz.prog a w K Q:=by
 obtain⟨i,hi,hz,hs1,hby⟩:=info_parts (show (Tryz.prog.info? 5).map (fun i=>(i.zero,i.size,i.bytes))=some (some (.int .u8 0),1,1) from by kernel_rfl);obtain⟨v',w',hrun,h2,h3,-⟩:=Lib.run_append_own_string (P:=Tryz.prog) w base 23 9 o.type 5 i Tryz.underlying23 Tryz.underlying9 hi hz hs1 hby v n xs hown S0 (by rw[show n+S0.size=n from rfl];simp only[maxLen];omega) (by rw[show n+S0.size=n from rfl];omega) hbase;have h2':w'.ownsRow base 5 1 v' n xs:=by
  have e1:n+S0.size=n:=rfl;have e2:xs++Lib.strCells S0=xs:=by rw[show Lib.strCells S0=[] from rfl,List.append_nil]
  rw[e1,e2] at h2;exact h2
 unfold Oper.wp execOp;refine vs2 ?_;exact h v' w' h2' h3
section
variable {w : World} {B n k : Nat} {ad : Addr} {xs : List Int}
theorem RwX.c0 (h:RwX w B (some ad) n xs) (hk:k<n):w.cell? (ad.add (k*3))=some (.int .i64 1):=by obtain⟨a,e,-,h0,h1,h2⟩:=h.at_ hk;cases e;exact h0
theorem RwX.c1 (h:RwX w B (some ad) n xs) (hk:k<n) {x:Nat} (hx:(x:Int)=zv xs k):w.cell? (ad.add (k*3+1))=some (.int .i64 (x:Int)):=by obtain⟨a,e,-,h0,h1,h2⟩:=h.at_ hk;cases e;rw[hx];exact h1
theorem RwX.c2 (h:RwX w B (some ad) n xs) (hk:k<n):w.cell? (ad.add (k*3+2))=some (.string S0):=by obtain⟨a,e,-,h0,h1,h2⟩:=h.at_ hk;cases e;exact h2
end
theorem zor {t:Tmp} {s:ByteArray} (ho:o.op = .call {callee:= .builtin .len,args:=#[.tmp t],argTypes:=#[9]}) (h:tv a t = .string s):zp Tryz.prog o a.eval w (fun v w'=>v = .int .i64 (s.size:Int)∧Below w.heap.size w w'):=by
 refine zo (.int .i64 (s.size:Int)) ?_ ⟨rfl,ue _ _⟩;unfold execOp;rw[ho];simp[zK,h,resolve,invoke,builtin,Builtin.len_,run_underlying Tryz.underlying9,goInt]
theorem zos (v:Value) (xs:List Int) (w:World) (hv:RowV w v xs):Calls Tryz.prog 144 #[v] w fun e w'=>e = .returned (.string (yV xs))∧Below w.heap.size w w':=by
 obtain⟨A,n,c,rfl,hnc,hn,hX⟩:=hv.x;have hn6:n≤1000000:=hX.2.1.2;have HX:=vh hX;have HN:=vh hn;clear hX hv hn hnc;obtain⟨B,hB⟩:=vx (w.heap.size);rw[←hB] at HX ⊢;have HB0:=vh hB;clear hB;go_enter Tryz.func144,Tryz.ntmps144;go_wp2_with fail;go_loopg [7,3] n (fun g iv ov wr=>∃(i:Nat) (sv:Value),iv = .int .i64 i∧ov=sv∧i+g=n∧Hid (wr.ownsRow B 5 1 sv (i*6) (U8c (zan (xs.take i)))∧Below B w wr));case atStart=>exact⟨0,_,rfl,rfl,jo,vh ⟨World.ownsRow_nil _ _ _ _,ue _ _⟩⟩
 case round=>
  obtain⟨i,sv,rfl,rfl,him,HJ⟩:=hrel;have HS:=vh (show B≤wr.heap.size by have:=HJ.2.size;have:=HB0.out;omega);by_cases hi:i<n
  ·have i1:((i:Int)<(n:Int)):=jo;obtain⟨ad,hA,-,hc⟩:=(HX.below HJ.2).at_ hi;subst hA;obtain⟨hx0,hx9⟩:=HX.lt hi;obtain⟨x,hx⟩:∃x:Nat,(x:Int)=zv xs i:=⟨(zv xs i).toNat,jo⟩;rw[←hx] at hc;have HXx:=vh (show (x:Int)=zv xs i∧x≤9 from⟨hx,jo⟩);clear hx hx0 hx9;obtain⟨c0,c1,c2⟩:=hc;have HC:=vh (show _∧_∧_ from⟨c0,c1,c2⟩);have HLT:=vh (show ad.block<wr.heap.size from by have:=zh c0;rwa [yd] at this);have z0:(Addr.add ad (i*3)).add 0=Addr.add ad (i*3):=by rw[Addr.add_add,Nat.add_zero]
   have z1:(Addr.add ad (i*3)).add 1=Addr.add ad (i*3+1):=by rw[Addr.add_add]
   have z2:(Addr.add ad (i*3)).add 2=Addr.add ad (i*3+2):=by rw[Addr.add_add]
   clear c1 c2;have HO:=vh HJ.1;have HB:=vh HJ.2;clear HJ c0 z0 z1 z2;go_upto_region 5 with (fail);refine zc (kss:=[[],[],[],[(1,11),(2,12)],[(3,13)],[(4,14)]]) [(3,u3),(0,.slice ((some ad)) n c),(4,.int .i64 ((i:Int)))] [EV (u3),EV (.slice ((some ad)) n c),EV (.int .i64 ((i:Int))),EV (.pointer (some (Addr.add ad (i*3)))),EV (.pointer (some (Addr.add (Addr.add ad (i*3)) 0))),EV (.int .i64 (((1:Nat):Int)))] 6 vk vt [false,false,false,false,false,false] ?_ ?_ ?_
   ·exact js
   ·exact⟨vi0,vi1,vi4,ziA,zcG,(fun aa ww hb he hd=>za rfl (zd rfl vk hd.1 (by rw[Addr.add_add];exact(hb.cell (zh HC.1)).trans HC.1))),uC⟩
   intro vs v1 hb hR;refine vs0 ?_;rw[(hR 0 jd:vs 0=_),(hR 5 jd:vs 5=_)];clear hR;have HO1:=vh (yJ HO.out hb);have HS1:=vh (ud HS.out hb.size);have HB1:=vh (HB.trans (hb.mono HS.out));clear hb HO HS HB HC;show wpOps _ _ _ [6,7] _ _;refine zb rfl rfl (zx (K:=fun v w'=>w'.ownsRow B 5 1 v (i*6+0+1) (_++U8c [48+((1:Nat):Int)])∧Below B v1 w') (zM _ _ _ _ _ rfl vk ((zbC B (i*6+0) 1 jo _ _ _ HO1.out HS1.out jo).mono (fun e w' ⟨v',h1,h2,h3⟩=>⟨v',h1,h2,h3⟩))) ?_);rintro s1 w1 ⟨ho,hb⟩;have HB:=vh (HB1.trans hb);have HO:=vh ho;have HS:=vh (ud HS1.out hb.size);have HC:=True.intro;replace HC:=vh (show _∧_∧_ from⟨(HX.below HB.out).c0 hi,(HX.below HB.out).c1 hi HXx.1,(HX.below HB.out).c2 hi⟩);clear ho hb HO1 HS1 HB1;show wpOps _ _ _ [7] (Act.put _ (some 16) _) _;refine vs1 ?_;refine zb rfl rfl (zl 3 (.tmp 16) rfl rfl s1 rfl ?_);refine vs1 ?_;unfold wpOps;go_upto_region 7 with (at_builtin;refine zaU rfl (.tmp 17) (.tmp 18) rfl (e:=5) (k:=1) vk vk B s1 (i*6+1) _ rfl (yJ HO.out (al _ _)) w1.heap.size #[.int .u8 32] rfl (Blk.new _ _ _) rfl rfl jo (ud HS.out (al _ _).size) ?_;intro s2 w2 ho hg _);replace HB:=vh (Below.appended (HB.trans ((al w1 (.cells #[.int .u8 32] 5)).mono HS.out)) (yJ HO.out (al _ _)) hg (ud HS.out (al _ _).size) (ug _));replace HO:=vh ho;replace HS:=vh (ud HS.out (ud (al _ _).size hg.size));replace HC:=vh (show _∧_∧_ from⟨(HX.below HB.out).c0 hi,(HX.below HB.out).c1 hi HXx.1,(HX.below HB.out).c2 hi⟩);clear ho hg;refine zc (kss:=[[],[],[],[(1,21),(2,22)],[(3,23)],[(4,24)]]) [(3,s2),(0,.slice ((some ad)) n c),(4,.int .i64 ((i:Int)))] [EV (s2),EV (.slice ((some ad)) n c),EV (.int .i64 ((i:Int))),EV (.pointer (some (Addr.add ad (i*3)))),EV (.pointer (some (Addr.add (Addr.add ad (i*3)) 1))),EV (.int .i64 ((x:Int)))] 6 vk vt [false,false,false,false,false,false] ?_ ?_ ?_
   ·exact js
   ·exact⟨vi0,vi1,vi4,ziA,vi80,(fun aa ww hb he hd=>za rfl (zd rfl vk hd.1 (by rw[Addr.add_add];exact(hb.cell (zh HC.2.1)).trans HC.2.1))),uC⟩
   intro vs v3 hb hR;refine vs0 ?_;rw[(hR 0 jd:vs 0=_),(hR 5 jd:vs 5=_)];clear hR;have HO1:=vh (yJ HO.out hb);have HS1:=vh (ud HS.out hb.size);have HB1:=vh (HB.trans (hb.mono HS.out));clear hb HO HS HB HC;show wpOps _ _ _ [6,7] _ _;refine zb rfl rfl (zx (K:=fun v w'=>w'.ownsRow B 5 1 v (i*6+2+1) (_++U8c [48+((x:Nat):Int)])∧Below B v3 w') (zM _ _ _ _ _ rfl vk ((zbC B (i*6+2) x (HXx.2) _ _ _ HO1.out HS1.out jo).mono (fun e w' ⟨v',h1,h2,h3⟩=>⟨v',h1,h2,h3⟩))) ?_);rintro s3 w3 ⟨ho,hb⟩;have HB:=vh (HB1.trans hb);have HO:=vh ho;have HS:=vh (ud HS1.out hb.size);have HC:=True.intro;replace HC:=vh (show _∧_∧_ from⟨(HX.below HB.out).c0 hi,(HX.below HB.out).c1 hi HXx.1,(HX.below HB.out).c2 hi⟩);clear ho hb HO1 HS1 HB1;show wpOps _ _ _ [7] (Act.put _ (some 26) _) _;refine vs1 ?_;refine zb rfl rfl (zl 3 (.tmp 26) rfl rfl s3 rfl ?_);refine vs1 ?_;unfold wpOps;go_upto_region 9 with (at_builtin;refine zaU rfl (.tmp 27) (.tmp 28) rfl (e:=5) (k:=1) vk vk B s3 (i*6+3) _ rfl (yJ HO.out (al _ _)) w3.heap.size #[.int .u8 32] rfl (Blk.new _ _ _) rfl rfl jo (ud HS.out (al _ _).size) ?_;intro s4 w4 ho hg _);replace HB:=vh (Below.appended (HB.trans ((al w3 (.cells #[.int .u8 32] 5)).mono HS.out)) (yJ HO.out (al _ _)) hg (ud HS.out (al _ _).size) (ug _));replace HO:=vh ho;replace HS:=vh (ud HS.out (ud (al _ _).size hg.size));replace HC:=vh (show _∧_∧_ from⟨(HX.below HB.out).c0 hi,(HX.below HB.out).c1 hi HXx.1,(HX.below HB.out).c2 hi⟩);clear ho hg;refine zc (kss:=[[],[],[],[(1,31),(2,32)],[(3,33)],[(4,34)],[(5,35)]]) [(3,s4),(0,.slice ((some ad)) n c),(4,.int .i64 ((i:Int)))] [EV (s4),EV (.slice ((some ad)) n c),EV (.int .i64 ((i:Int))),EV (.pointer (some (Addr.add ad (i*3)))),EV (.pointer (some (Addr.add (Addr.add ad (i*3)) 2))),EV (.string S0),EV (.int .i64 (((0:Nat):Int)))] 7 vk vt [false,false,false,false,false,false,false] ?_ ?_ ?_
   ·exact js
   ·exact⟨vi0,vi1,vi4,ziA,vi81,vi82,(fun aa ww hb he hd=>za rfl (zor rfl hd.1)),uC⟩
   intro vs v5 hb hR;refine vs0 ?_;rw[(hR 0 jd:vs 0=_),(hR 6 jd:vs 6=_)];clear hR;have HO1:=vh (yJ HO.out hb);have HS1:=vh (ud HS.out hb.size);have HB1:=vh (HB.trans (hb.mono HS.out));clear hb HO HS HB HC;show wpOps _ _ _ [7,8] _ _;refine zb rfl rfl (zx (K:=fun v w'=>w'.ownsRow B 5 1 v (i*6+4+1) (_++U8c [48+((0:Nat):Int)])∧Below B v5 w') (zM _ _ _ _ _ rfl vk ((zbC B (i*6+4) 0 jo _ _ _ HO1.out HS1.out jo).mono (fun e w' ⟨v',h1,h2,h3⟩=>⟨v',h1,h2,h3⟩))) ?_);rintro s5 w5 ⟨ho,hb⟩;have HB:=vh (HB1.trans hb);have HO:=vh ho;have HS:=vh (ud HS1.out hb.size);have HC:=True.intro;replace HC:=vh (show _∧_∧_ from⟨(HX.below HB.out).c0 hi,(HX.below HB.out).c1 hi HXx.1,(HX.below HB.out).c2 hi⟩);clear ho hb HO1 HS1 HB1;show wpOps _ _ _ [8] (Act.put _ (some 37) _) _;refine vs1 ?_;refine zb rfl rfl (zl 3 (.tmp 37) rfl rfl s5 rfl ?_);refine vs1 ?_;unfold wpOps;go_upto_region 11 with (at_builtin;refine zaU rfl (.tmp 38) (.tmp 39) rfl (e:=5) (k:=1) vk vk B s5 (i*6+5) _ rfl (yJ HO.out (al _ _)) w5.heap.size #[.int .u8 32] rfl (Blk.new _ _ _) rfl rfl jo (ud HS.out (al _ _).size) ?_;intro s6 w6 ho hg _);replace HB:=vh (Below.appended (HB.trans ((al w5 (.cells #[.int .u8 32] 5)).mono HS.out)) (yJ HO.out (al _ _)) hg (ud HS.out (al _ _).size) (ug _));replace HO:=vh ho;replace HS:=vh (ud HS.out (ud (al _ _).size hg.size));replace HC:=vh (show _∧_∧_ from⟨(HX.below HB.out).c0 hi,(HX.below HB.out).c1 hi HXx.1,(HX.below HB.out).c2 hi⟩);clear ho hg;refine zc (kss:=[[],[],[],[(1,42),(2,43)],[(3,44)],[(4,45)]]) [(3,s6),(0,.slice ((some ad)) n c),(4,.int .i64 ((i:Int)))] [EV (s6),EV (.slice ((some ad)) n c),EV (.int .i64 ((i:Int))),EV (.pointer (some (Addr.add ad (i*3)))),EV (.pointer (some (Addr.add (Addr.add ad (i*3)) 2))),EV (.string S0)] 6 vk vt [false,false,false,false,false,false] ?_ ?_ ?_
   ·exact js
   ·exact⟨vi0,vi1,vi4,ziA,vi81,vi82,uC⟩
   intro vs v7 hb hR;refine vs0 ?_;rw[(hR 0 jd:vs 0=_),(hR 5 jd:vs 5=_)];clear hR;have HO1:=vh (yJ HO.out hb);have HS1:=vh (ud HS.out hb.size);have HB1:=vh (HB.trans (hb.mono HS.out));clear hb HO HS HB HC;show wpOps _ _ _ [6,7] _ _;refine zb rfl rfl (zoq (.tmp 41) (.tmp 46) rfl B s6 (i*6+6) _ rfl HO1.out rfl jo HS1.out ?_);intro s7 w7 ho hg;have HB:=vh (Below.appended HB1.out HO1.out hg HS1.out (ug _));have HO:=vh ho;clear ho hg HO1 HS1 HB1;show wpOps _ _ _ [7] (Act.put _ (some 47) _) _;refine vs1 ?_;refine zb rfl rfl (zl 3 (.tmp 47) rfl rfl s7 rfl ?_);refine vs1 ?_;unfold wpOps;go_wp2_with fail;go_roundg (gk - 1);case measure=>omega
   case rel=>
    refine⟨i+1,_,vj1,rfl,jo,vh ⟨?_,HB.out⟩⟩;have h:=HO.out;have ht:xs.take (i+1)=xs.take i++[(x:Int)]:=by
     rw[List.take_add_one,HXx.1];simp[zv,List.getD,(show i<xs.length by rw[←HN];exact hi)]
    rw[ht,zeC,zoo,show (i+1)*6=i*6+0+1+1+1+1+1+1 by omega];simpa [U8c] using h
  ·obtain rfl:n=i:=jo;have e1:xs.take n=xs:=um (by rw[HN];exact ug _);have hO:=HJ.1;rw[e1] at hO;rcases hO.2 with ⟨rfl,h0⟩ | ⟨g,cap,cur,rfl,-,hg,-⟩
   ·have hxs:xs=[]:=uo zld;have hcv:=run_convert_bytes_nil (P:=Tryz.prog) wr 23 5 Tryz.underlying23 Tryz.underlying5 0 0 9 Tryz.underlying9;have HR:=vh (show yV xs=ByteArray.empty from by rw[hxs];rfl);clear hO h0 e1 hxs;go_wp2_with fail;go_ret;exact⟨by rw[HR];rfl,HJ.2⟩
   ·have hcv:=run_convert_bytes_arg (P:=Tryz.prog) wr 23 5 Tryz.underlying23 Tryz.underlying5 g 0 (n*6) cap (zan xs) (by rw[zdv,HN]) (fun j hj=>by
     have h:=hO.cells (g:=g) rfl j (.int .u8 ((zan xs).getD j 0)) (by
      have hj2:j<(zan xs).length:=by rw[zdv,←HN];exact hj
      simp[U8c,hj2])
     rw[Nat.zero_add];rwa [yy] at h) 9 Tryz.underlying9
    clear hO hg e1;go_wp2_with fail;go_ret;exact⟨rfl,HJ.2⟩
def zN (x:Nat):List Nat:=(List.range 32).filter fun v=>x.testBit v
def yu (vs:List Nat) (x:Nat):List Nat:=(List.range vs.length).filter fun i=>x.testBit (nth vs i)
theorem ZZ {vs:List Nat} {x:Nat} (h:k∈yu vs x):k<vs.length:=by
 exact znY
theorem zhI {x v:Nat} (h:v∈zN x):v<32:=by
 exact znY
theorem YL {p:Nat→Bool} {i:Nat}:(List.range (i+1)).filter p=(List.range i).filter p++if p i then [i] else []:=by
 rw[List.range_succ,List.filter_append];congr 1;cases h:p i <;> simp[List.filter,h]
theorem zb0 {v:Value} {L:List Nat} (h:OwnC w base 3 1 v n (I64 (zu L))) (hn:L.length≤1000000) (hL:∀x∈L,x≤1000000000):IntsV w v L:=by
 obtain⟨A,c,rfl⟩:=zF h.own;have hl:n=L.length:=by have:=h.own.1;simp[I64,zu] at this;omega
 exact vt50
theorem zaX (v u:Value) (xs:List Int) (ks:List Nat) (w:World) (hv:RowV w v xs) (hu:IntsV w u ks) (hk:∀k∈ks,k<xs.length) :
  Calls Tryz.prog 109 #[v,u] w fun e w'=>e = .returned (.string (yV (ks.map (zv xs))))∧Below w.heap.size w w':=by
 have HV:=vh hv;have HU:=vh hu;have HK:=vh hk;clear hv hu hk;go_enter Tryz.func109,Tryz.ntmps109;go_wp2_with fail;refine(zaW v u xs ks w HV.out HU.out HK.out).mono ?_;rintro e w1 ⟨r,rfl,⟨v',rfl,h1⟩,hb⟩;have HR:=vh h1;have HB:=vh hb;clear h1 hb;go_wp2_with fail;refine(zos v' _ w1 HR.out).mono ?_;rintro e w2 ⟨rfl,hb⟩;have HB2:=vh (ze HB.out hb HB.size);clear hb;go_wp2_with fail;go_ret;exact⟨rfl,HB2.out⟩
theorem zcP (x:Nat) (hx:x<4294967296) (w:World):Calls Tryz.prog 103 #[.int .u32 (x:Int)] w (RV w (fun v w'=>IntsV w' v (zN x))):=by
 obtain⟨B,hB⟩:=vx (w.heap.size);have HB0:=vh hB;have hx2:x<2 ^ 32:=hx;clear hB;go_enter Tryz.func103,Tryz.ntmps103;go_wp2_with fail;go_loopg [5,3] 32 (fun g iv ov wr=>∃(i n:Nat) (sv:Value),iv = .int .i64 i∧ov=sv∧i+g=32∧Hid (OwnC wr B 3 1 sv n (I64 (zu ((List.range i).filter fun v=>x.testBit v)))∧n≤i∧Below B w wr));case atStart=>exact⟨0,0,_,rfl,rfl,jo,vh ⟨OwnC.nil _ _ _ _,ug _,ue _ _⟩⟩
 case round=>
  obtain⟨i,n,sv,rfl,rfl,him,HJ⟩:=hrel;by_cases hi:i<32
  ·have i1:((i:Int)<32):=jo;have e3:=zaz x i hx2;by_cases hb:x.testBit i=true
   ·rw[if_pos hb] at e3;have HS:=vh (show B≤wr.heap.size by have:=HJ.2.2.size;have:=HB0.out;omega);have HBi:=vh hb;clear hb;go_upto_region 7 with (at_builtin;refine zaT rfl (.tmp 13) (.tmp 15) rfl (e:=3) (k:=1) vk vk B u3 n _ rfl (HJ.1.below (al _ _)) wr.heap.size #[.int .i64 (i:Int)] rfl (Blk.new _ _ _) rfl rfl (by have:=HJ.2.1;omega) (ud HS.out (al _ _).size) ?_;intro s1 w1 ho hg _ _);have HN:=vh (show OwnC w1 B 3 1 s1 (n+1) (I64 (zu ((List.range (i+1)).filter fun v=>x.testBit v)))∧n+1≤i+1∧Below B w w1 from⟨by rw[YL,if_pos HBi.out];simpa [I64,zu] using ho,by have:=HJ.2.1;omega,Below.appended (HJ.2.2.trans ((al _ _).mono HS.out)) (yJ HJ.1.own (al _ _)) hg (ud HS.out (al _ _).size) (ug _)⟩);clear ho hg HJ HS e3 HBi;exact vt90
   ·rw[if_neg hb] at e3;have HN:=vh (show OwnC wr B 3 1 u3 n (I64 (zu ((List.range (i+1)).filter fun v=>x.testBit v)))∧n≤i+1∧Below B w wr from⟨by rw[YL,if_neg hb,List.append_nil];exact HJ.1,by have:=HJ.2.1;omega,HJ.2.2⟩);exact vt78
  ·obtain rfl:i=32:=jo;go_wp2_with fail;go_ret;refine⟨_,rfl,zb0 HJ.1 ?_ ?_,by have:=HJ.2.2;rwa [HB0.out] at this⟩
   ·exact ud (List.length_filter_le _ _) vz
   ·intro v hv;have:=zhI (x:=x) hv;omega
theorem zaa (u:Value) (vs:List Nat) (x:Nat) (hx:x<4294967296) (w:World) (hu:IntsV w u vs) (hv:∀v∈vs,v<32):Calls Tryz.prog 108 #[u,.int .u32 (x:Int)] w (RV w (fun v w'=>IntsV w' v (yu vs x))):=by
 obtain⟨A,m,c,rfl,hmc,hm,hX⟩:=hu.x;have hm6:m≤1000000:=by obtain⟨_,_,_,e,_,_,h3,_⟩:=hu;cases e;exact h3.2
 obtain⟨B,hB⟩:=vx (w.heap.size);have HB0:=vh hB;have HX:=vh hX;have HV:=vh hv;have HM:=vh hm;have hx2:x<2 ^ 32:=hx;clear hB hu hX hv hm hmc;go_enter Tryz.func108,Tryz.ntmps108;go_wp2_with fail;go_loopg [10,5] m (fun g iv ov wr=>∃(i n:Nat) (sv:Value),iv = .int .i64 i∧ov=sv∧i+g=m∧Hid (OwnC wr B 3 1 sv n (I64 (zu ((List.range i).filter fun i=>x.testBit (nth vs i))))∧n≤i∧Below B w wr));case atStart=>exact⟨0,0,_,rfl,rfl,jo,vh ⟨OwnC.nil _ _ _ _,ug _,ue _ _⟩⟩
 case round=>
  obtain⟨i,n,sv,rfl,rfl,him,HJ⟩:=hrel;by_cases hi:i<m
  ·have i1:((i:Int)<(m:Int)):=jo;obtain⟨ad,hA,-,hc⟩:=(HX.below (by have:=HJ.2.2;rwa [HB0.out] at this)).at_ hi;subst hA;rw[yL zew] at hc;have hv32:nth vs i<32:=HV.out _ (yD zew);obtain⟨v,hv⟩:=vx (nth vs i);rw[←hv] at hc hv32;have HVv:=vh hv;clear hv;have e3:=zaz x v hx2;have v0:¬((v:Int)<0):=jo;by_cases hb:x.testBit v=true
   ·rw[if_pos hb] at e3;have HS:=vh (show B≤wr.heap.size by have:=HJ.2.2.size;have:=HB0.out;omega);have HBi:=vh hb;clear hb;go_upto_region 7 with (at_builtin;refine zaT rfl (.tmp 20) (.tmp 22) rfl (e:=3) (k:=1) vk vk B u5 n _ rfl (HJ.1.below (al _ _)) wr.heap.size #[.int .i64 (i:Int)] rfl (Blk.new _ _ _) rfl rfl (by have:=HJ.2.1;omega) (ud HS.out (al _ _).size) ?_;intro s1 w1 ho hg _ _);have HN:=vh (show OwnC w1 B 3 1 s1 (n+1) (I64 (zu ((List.range (i+1)).filter fun i=>x.testBit (nth vs i))))∧n+1≤i+1∧Below B w w1 from⟨by rw[YL,if_pos (by rw[←HVv];exact HBi.out)];simpa [I64,zu] using ho,by have:=HJ.2.1;omega,Below.appended (HJ.2.2.trans ((al _ _).mono HS.out)) (yJ HJ.1.own (al _ _)) hg (ud HS.out (al _ _).size) (ug _)⟩);clear ho hg HJ HS e3 HBi hc;exact vt90
   ·rw[if_neg hb] at e3;have HN:=vh (show OwnC wr B 3 1 u5 n (I64 (zu ((List.range (i+1)).filter fun i=>x.testBit (nth vs i))))∧n≤i+1∧Below B w wr from⟨by rw[YL,if_neg (by rw[←HVv];exact hb),List.append_nil];exact HJ.1,by have:=HJ.2.1;omega,HJ.2.2⟩);exact vt78
  ·obtain rfl:m=i:=jo;go_wp2_with fail;go_ret;have hl:(yu vs x).length≤m:=by rw[HM];exact ud (List.length_filter_le _ _) vz
   have hO:=HJ.1;rw[HM] at hO;refine⟨_,rfl,zb0 (L:=yu vs x) hO jo ?_,by have:=HJ.2.2;rwa [HB0.out] at this⟩;intro v hv;have:=ZZ hv;have:=HM.out;omega
def ZA (vars av:List Nat) (j:Nat):Nat:=((vars.take j).filter fun v=>decide (v∈av)).length
def zaM (vars av:List Nat) (x:List Int) (bv:List Nat) (y:List Int):List Int:=vars.map fun v=>if v∈av then zv x (av.idxOf v) else zv y (bv.idxOf v)
section
variable {vars av : List Nat}
theorem zc5 (hA:(vars.filter fun v=>decide (v∈av))=av) (hn:vars.Nodup) (hj:j<vars.length) (hm:nth vars j∈av):ZA vars av j<av.length∧nth av (ZA vars av j)=nth vars j∧av.idxOf (nth vars j)=ZA vars av j∧ZA vars av (j+1)=ZA vars av j+1:=by
 have hv:nth vars j=vars[j]:=by simp[nth,List.getD,hj]
 rw[hv] at hm ⊢;have e:vars=vars.take j++vars[j] :: vars.drop (j+1):=by rw[List.getElem_cons_drop,List.take_append_drop]
 have e2:av=((vars.take j).filter fun v=>decide (v∈av))++vars[j] :: ((vars.drop (j+1)).filter fun v=>decide (v∈av)):=by
  have h:=ut (List.filter fun v=>decide (v∈av)) e;rw[List.filter_append,List.filter_cons_of_pos (by simpa using hm)] at h;rw[←h];exact hA.symm
 have hl:((vars.take j).filter fun v=>decide (v∈av)).length=ZA vars av j:=rfl;have hd:(vars.take j++vars[j] :: vars.drop (j+1)).Nodup:=by rw[←e];exact hn
 have hni:vars[j]∉((vars.take j).filter fun v=>decide (v∈av)):=fun h=>(List.nodup_append.1 hd).2.2 _ (List.mem_filter.1 h).1 _ List.mem_cons_self rfl;have hg:(((vars.take j).filter fun v=>decide (v∈av))++vars[j] :: ((vars.drop (j+1)).filter fun v=>decide (v∈av)))[ZA vars av j]? = some vars[j]:=by
  rw[←hl,List.getElem?_append_right (ug _),Nat.sub_self];rfl
 have hx:(((vars.take j).filter fun v=>decide (v∈av))++vars[j] :: ((vars.drop (j+1)).filter fun v=>decide (v∈av))).idxOf vars[j]=ZA vars av j:=by
  rw[List.idxOf_append,if_neg hni,List.idxOf_cons_self,hl];omega
 rw[←e2] at hg hx;refine⟨(List.getElem?_eq_some_iff.1 hg).1,by simp[nth,List.getD,hg],hx,?_⟩
 ·exact zqF
theorem zgj (hj:j<vars.length) (hm:nth vars j∉av):ZA vars av (j+1)=ZA vars av j∧(ZA vars av j<av.length→nth av (ZA vars av j)≠nth vars j):=by
 refine⟨?_,fun h e=>hm (by rw[←e];exact yD h)⟩;have hv:nth vars j=vars[j]:=by simp[nth,List.getD,hj]
 rw[hv] at hm;exact zqF
theorem ziN (j:Nat):ZA vars av j≤vars.length:=ud (List.length_filter_le _ _) vj2
theorem zj2 {x:List Int} (hj:j<vars.length):(zaM vars av x bv y).take (j+1)=(zaM vars av x bv y).take j++[if nth vars j∈av then zv x (av.idxOf (nth vars j)) else zv y (bv.idxOf (nth vars j))]:=by
 rw[List.take_add_one];simp[zaM,hj,nth,List.getD]
theorem zdw {x:List Int}:(zaM vars av x bv y).length=vars.length:=by simp[zaM]
end
theorem zot (n:Nat) (hn:n≤1000000) (W:World):(Instr.makeSlice 87 (.int .i64 0) (.int .i64 (n:Int))).run Tryz.prog W = .ok (.slice (some ⟨W.heap.size,0,none⟩) 0 n) (W.alloc (.cells (List.replicate n ZV).flatten.toArray 89)):=
 zaB (e:=89) (k:=3) (b:=32) (n:=0) (z:= .agg #[.int .i64 0,.int .i64 0,.string S0]) vk zgh rfl jo jo jo jo W
theorem zlE {e:TypeId} {z:List Value} (hz:z.length=k) (hk:z.all okC=true) (hn:n≤1000000):OwnC (w.alloc (.cells (List.replicate n z).flatten.toArray e)) w.heap.size e k (.slice (some ⟨w.heap.size,0,none⟩) 0 n) 0 []:=by
 have hb:=Blk.new w e (List.replicate n z).flatten.toArray;refine⟨⟨vz,.inr ⟨w.heap.size,n,_,rfl,ug _,hb,jo,zcK,?_,vz⟩⟩,fun g hg i x hx=>?_⟩
 ·rw[List.size_toArray,YC (k:=k) (fun c hc=>by rw[List.eq_of_mem_replicate hc,hz]),List.length_replicate]
 ·simp only[Value.ownBlock,Option.some.injEq] at hg;subst hg;rw[hb.cell] at hx;exact zfp _ (fun c hc=>by rw[List.eq_of_mem_replicate hc];exact hk) i x hx
theorem ziO {v:Value} {L:List Int} (h:OwnC w base 89 3 v n (VR L)) (hn:L.length≤1000000) (hL:∀x∈L,0≤x∧x≤9):RowV w v L:=by
 obtain⟨A,c,rfl⟩:=zF h.own;have hl:n=L.length:=by have:=h.own.1;rw[zez] at this;omega
 exact vt50
theorem RwX.c3 {B:Nat} {ad:Addr} {xs:List Int} (h:RwX w B (some ad) n xs) (hk:k<n):∀(j:Nat) (u:Value),(VC (zv xs k))[j]? = some u→w.cell? ((Addr.add ad (k*3)).add j)=some u:=by
 intro j u hj;obtain⟨a,e,-,h0,h1,h2⟩:=h.at_ hk;cases e;rw[Addr.add_add];match j with
 |0=>simp[VC] at hj;subst hj;exact h0
 |1=>simp[VC] at hj;subst hj;exact h1
 |2=>simp[VC] at hj;subst hj;exact h2
 |j+3=>simp[VC] at hj
theorem zj3 (u ua ub va vb:Value) (vars av bv:List Nat) (x y:List Int) (w:World) (hu:IntsV w u vars) (hua:IntsV w ua av) (hub:IntsV w ub bv) (hva:RowV w va x) (hvb:RowV w vb y)
  (hx:x.length=av.length) (hy:y.length=bv.length) (hA:(vars.filter fun v=>decide (v∈av))=av) (hB:(vars.filter fun v=>decide (v∈bv))=bv) (hn:vars.Nodup) (hab:∀v∈vars,v∈av∨v∈bv) :
  Calls Tryz.prog 110 #[u,ua,va,ub,vb] w (RV w (fun v w'=>RowV w' v (zaM vars av x bv y))):=by
 obtain⟨U,m,mc,rfl,hmc,hm,hU⟩:=hu.x;obtain⟨UA,p,pc,rfl,hpc,hp,hUA⟩:=hua.x;obtain⟨UB,q,qc,rfl,hqc,hq,hUB⟩:=hub.x;obtain⟨VA1,p2,vc,rfl,hvc,hp2,hVA⟩:=hva.x;obtain⟨VB1,q2,vd,rfl,hvd,hq2,hVB⟩:=hvb.x;obtain rfl:p2=p:=jo;obtain rfl:q2=q:=jo;have hm6:m≤1000000:=by obtain⟨_,_,_,e,_,_,h3,_⟩:=hu;cases e;exact h3.2
 have hpm:∀j,ZA vars av j≤m:=fun j=>by rw[hm];exact ziN j
 have hqm:∀j,ZA vars bv j≤m:=fun j=>by rw[hm];exact ziN j
 have HU:=vh hU;have HUA:=vh hUA;have HUB:=vh hUB;have HVA:=vh hVA;have HVB:=vh hVB;have HM:=vh hm;have HP:=vh hp;have HQ:=vh hq;have HPM:=vh hpm;have HQM:=vh hqm;have HAs:=vh hA;have HBs:=vh hB;have HNd:=vh hn;have HAb:=vh hab;clear hu hua hub hva hvb hmc hpc hqc hvc hvd hm hp hq hp2 hq2 hU hUA hUB hVA hVB hpm hqm hA hB hn hab hx hy;obtain⟨B,hB⟩:=vx (w.heap.size);have HB0:=vh hB;have mk:=zot m hm6;go_enter Tryz.func110,Tryz.ntmps110;go_wp2_with fail;obtain⟨w1,hw1⟩:=vx (w.alloc (.cells (List.replicate m ZV).flatten.toArray 89));have hst:OwnC w1 B 89 3 (.slice (some ⟨w.heap.size,0,none⟩) 0 m) 0 []∧Below w.heap.size w w1:=by
  rw[hw1,hB];exact⟨zlE rfl rfl hm6,al _ _⟩
 have HI:=vh hst;rw[←hw1];clear hst hw1 mk hB;go_loopg [23,11,12,13] m (fun g iv ov ia ib wr=>∃(j:Nat) (sv:Value),iv = .int .i64 j∧ov=sv∧ia = .int .i64 (ZA vars av j:Nat)∧ib = .int .i64 (ZA vars bv j:Nat)∧j+g=m∧Hid (OwnC wr B 89 3 sv j (VR ((zaM vars av x bv y).take j))∧Below w.heap.size w wr));case atStart=>exact⟨0,_,rfl,rfl,rfl,rfl,jo,HI⟩
 case round=>
  obtain⟨j,sv,rfl,rfl,rfl,rfl,him,HJ⟩:=hrel;clear HI;obtain⟨i,hi⟩:=vx (ZA vars av j);obtain⟨k,hk⟩:=vx (ZA vars bv j);have him6:i≤m:=by rw[hi];exact HPM.out j
  have hkm6:k≤m:=by rw[hk];exact HQM.out j
  rw[←hi,←hk];have HIi:=vh hi;have HKk:=vh hk;clear hi hk;by_cases hj:j<m
  ·have j1:((j:Int)<(m:Int)):=jo;have HS:=vh (show B≤wr.heap.size by have:=HJ.2.size;have:=HB0.out;omega);have hjl:j<vars.length:=by rw[←HM];exact hj
   obtain⟨ad,hA,-,hc⟩:=(HU.below HJ.2).at_ hj;subst hA;rw[yL hjl] at hc;obtain⟨v,hv⟩:=vx (nth vars j);rw[←hv] at hc;have HVv:=vh hv;have hor:=HAb.out (nth vars j) (yD hjl);have hpa:v∈av→i<p2∧nth av i=v∧av.idxOf v=i∧ZA vars av (j+1)=i+1:=fun hm=>by rw[HP,HIi,hv];exact zc5 HAs.out HNd.out hjl (by rw[←hv];exact hm)
   have hpb:v∈bv→k<q2∧nth bv k=v∧bv.idxOf v=k∧ZA vars bv (j+1)=k+1:=fun hm=>by rw[HQ,HKk,hv];exact zc5 HBs.out HNd.out hjl (by rw[←hv];exact hm)
   have hqa:v∉av→ZA vars av (j+1)=i∧(i<p2→nth av i≠v):=fun hm=>by rw[HP,HIi,hv];exact zgj hjl (by rw[←hv];exact hm)
   have hqb:v∉bv→ZA vars bv (j+1)=k∧(k<q2→nth bv k≠v):=fun hm=>by rw[HQ,HKk,hv];exact zgj hjl (by rw[←hv];exact hm)
   have htk:=zj2 (av:=av) (x:=x) (bv:=bv) (y:=y) hjl;rw[←hv] at htk hor;clear hv;have HTk:=vh htk;clear htk;go_upto_region 6 with (fail);clear hc;by_cases hma:v∈av
   ·obtain⟨hi2,ha2,ha4,ha5⟩:=hpa hma;by_cases hmb:v∈bv
    ·obtain⟨hk2,hb2,hb4,hb5⟩:=hpb hmb;clear hpa hpb hqa hqb hor;obtain⟨ada,hA,-,hca⟩:=(HUA.below HJ.2).at_ hi2;subst hA;rw[yL (by rw[←HP];exact hi2),ha2] at hca;have HCa:=vh hca;clear hca;obtain⟨adb,hA,-,hcb⟩:=(HUB.below HJ.2).at_ hk2;subst hA;rw[yL (by rw[←HQ];exact hk2),hb2] at hcb;have HCb:=vh hcb;clear hcb;refine wp_region_each (kss:=[[],[],[(1,28)],[(0,27),(2,29)],[(3,30)],[(4,31)],[(4,31)],[(4,31),(5,32),(6,33)],[(4,31),(7,34)],[(4,31)],[(4,31),(8,35),(9,36)],[(4,31),(10,37)],[],[],[(13,40)],[(12,39),(14,41)],[(15,42)],[(16,43)],[(16,43)],[(16,43),(17,44),(18,45)],[(16,43),(19,46)],[(16,43)],[(16,43),(20,47),(21,48)],[(16,43),(22,49)],[(11,38)],[(23,50)]]) [(12,.int .i64 ((i:Int))),(1,.slice ((some ada)) p2 pc),(15,.int .i64 ((v:Int))),(13,.int .i64 ((k:Int))),(3,.slice ((some adb)) q2 qc)] [EV (.int .i64 ((i:Int))),EV (.slice ((some ada)) p2 pc),EV (.int .i64 ((p2:Int))),EV (.bool true),EV (.bool true),EV (.slice ((some ada)) p2 pc),EV (.int .i64 ((i:Int))),EV (.pointer (some (Addr.add ada (i*1)))),EV (.int .i64 ((v:Int))),EV (.int .i64 ((v:Int))),EV (.bool true),EV (.bool true),EV (.int .i64 ((k:Int))),EV (.slice ((some adb)) q2 qc),EV (.int .i64 ((q2:Int))),EV (.bool true),EV (.bool true),EV (.slice ((some adb)) q2 qc),EV (.int .i64 ((k:Int))),EV (.pointer (some (Addr.add adb (k*1)))),EV (.int .i64 ((v:Int))),EV (.int .i64 ((v:Int))),EV (.bool true),EV (.bool true),EV (.bool true),EV (.bool true)] vk vk vt ?_ ?_ ?_
     ·exact js
     ·exact⟨vi0,vi1,vi6,zpX,vi2,zpY,zpZ,zp0,zp1,zp2,zsO,zbd,zbp,zf4,vi6,zp3,vi2,zp4,zp5,zp6,zp7,zp8,zsP,zbd,vi3,vi3,uC⟩
     intro vs w2 hb hR;refine vw5 ?_;clear hR;clear HCa HCb;have HO:=vh (HJ.1.below hb);have HBw:=vh (ze HJ.2 hb HJ.2.size);have HS2:=vh (ud HS.out hb.size);clear hb HJ HS;obtain⟨adr,hA,-⟩:=(HVA.below HBw.out).at_ hi2;subst hA;have HC3:=vh ((HVA.below HBw.out).c3 hi2);go_upto_region 8 with (fail);refine zc (kss:=[[],[],[],[(1,53),(2,54)],[(3,55)],[(4,56)]]) [(11,u11),(2,.slice ((some adr)) p2 vc),(12,.int .i64 ((i:Int)))] [EV (u11),EV (.slice ((some adr)) p2 vc),EV (.int .i64 ((i:Int))),EV (.pointer (some (Addr.add adr (i*3)))),EV (.agg #[.int .i64 1,.int .i64 (zv x i),.string S0]),fun zz ww=>∃g:Nat,zz = .slice (some ⟨g,0,none⟩) 1 1∧w2.heap.size≤g∧Blk ww g 89 #[.int .i64 1,.int .i64 (zv x i),.string S0]] 6 vk vt [false,false,false,false,false,false] ?_ ?_ ?_
     ·exact znI
     ·exact⟨vi0,vi1,vi4,ziA,vi67,zpW,uC⟩
     intro vs w3 hb hR;have r57:=hR 5 jd;refine vw0 ?_;clear hR;obtain⟨g3,e3,hg3,hb3'⟩:=r57;rw[e3];clear e3 HC3;show wpOps _ _ _ [6,7] _ _;refine zb rfl rfl (yk (T:=87) (e:=89) (k:=3) _ _ rfl vk vk B u11 j _ rfl (HO.below hb) g3 _ rfl hb3' rfl rfl jo (ud HS2.out hb.size) ?_);intro v' w4 ho hg _ _;have HN:=vh (show OwnC w4 B 89 3 v' (j+1) (VR ((zaM vars av x bv y).take (j+1)))∧Below w.heap.size w w4 from⟨vj68,zs4⟩);clear ho hg hb3' hg3 hb HO HBw HS2;show wpOps _ _ _ [7] (Act.put _ (some 58) _) _;refine vs1 ?_;refine zb rfl rfl (zl 11 (.tmp 58) rfl rfl v' rfl ?_);refine vs1 ?_;unfold wpOps;go_wp2_with fail;go_roundg (gk - 1);case measure=>omega
     case rel=>exact⟨j+1,_,vj1,rfl,by rw[ha5];go_num,by rw[hb5];go_num,jo,HN⟩
    ·obtain⟨hb5,hb2⟩:=hqb hmb;clear hpa hpb hqa hqb hor;by_cases hk2:k<q2
     ·replace hb2:=hb2 hk2;obtain⟨ada,hA,-,hca⟩:=(HUA.below HJ.2).at_ hi2;subst hA;rw[yL (by rw[←HP];exact hi2),ha2] at hca;have HCa:=vh hca;clear hca;obtain⟨adb,hA,-,hcb⟩:=(HUB.below HJ.2).at_ hk2;subst hA;rw[yL (by rw[←HQ];exact hk2)] at hcb;obtain⟨vb9,hvb9⟩:∃z,z=nth bv k:=⟨_,rfl⟩;rw[←hvb9] at hcb hb2;clear hvb9;skip;have HCb:=vh hcb;clear hcb;refine wp_region_each (kss:=[[],[],[(1,28)],[(0,27),(2,29)],[(3,30)],[(4,31)],[(4,31)],[(4,31),(5,32),(6,33)],[(4,31),(7,34)],[(4,31)],[(4,31),(8,35),(9,36)],[(4,31),(10,37)],[],[],[(13,40)],[(12,39),(14,41)],[(15,42)],[(16,43)],[(16,43)],[(16,43),(17,44),(18,45)],[(16,43),(19,46)],[(16,43)],[(16,43),(20,47),(21,48)],[(16,43),(22,49)],[(11,38)],[(23,50)]]) [(12,.int .i64 ((i:Int))),(1,.slice ((some ada)) p2 pc),(15,.int .i64 ((v:Int))),(13,.int .i64 ((k:Int))),(3,.slice ((some adb)) q2 qc)] [EV (.int .i64 ((i:Int))),EV (.slice ((some ada)) p2 pc),EV (.int .i64 ((p2:Int))),EV (.bool true),EV (.bool true),EV (.slice ((some ada)) p2 pc),EV (.int .i64 ((i:Int))),EV (.pointer (some (Addr.add ada (i*1)))),EV (.int .i64 ((v:Int))),EV (.int .i64 ((v:Int))),EV (.bool true),EV (.bool true),EV (.int .i64 ((k:Int))),EV (.slice ((some adb)) q2 qc),EV (.int .i64 ((q2:Int))),EV (.bool true),EV (.bool true),EV (.slice ((some adb)) q2 qc),EV (.int .i64 ((k:Int))),EV (.pointer (some (Addr.add adb (k*1)))),EV (.int .i64 ((vb9:Int))),EV (.int .i64 ((v:Int))),EV (.bool false),EV (.bool false),EV (.bool true),EV (.bool false)] vk vk vt ?_ ?_ ?_
      ·exact js
      ·exact⟨vi0,vi1,vi6,zpX,vi2,zpY,zpZ,zp0,zp1,zp2,zsO,zbd,zbp,zf4,vi6,zp3,vi2,zp4,zp5,zp6,zp7,zp8,(fun aa ww hb he hd=>zn 43 rfl vk hd.1 (zW ((vb9:Int)) ((v:Int)) .i64 _ _ _ _ rfl hd.2.1 hd.2.2.1 ⟨ut Value.bool (beq_false_of_ne jo),ue _ _⟩)),zbd,vi3,vi3,uC⟩
      intro vs w2 hb hR;refine vw5 ?_;clear hR;clear HCa HCb;exact vt6
     ·clear hb2;obtain⟨ada,hA,-,hca⟩:=(HUA.below HJ.2).at_ hi2;subst hA;rw[yL (by rw[←HP];exact hi2),ha2] at hca;have HCa:=vh hca;clear hca;refine wp_region_each (kss:=[[],[],[(1,28)],[(0,27),(2,29)],[(3,30)],[(4,31)],[(4,31)],[(4,31),(5,32),(6,33)],[(4,31),(7,34)],[(4,31)],[(4,31),(8,35),(9,36)],[(4,31),(10,37)],[],[],[(13,40)],[(12,39),(14,41)],[(15,42)],[(16,43)],[(16,43)],[(16,43),(17,44),(18,45)],[(16,43),(19,46)],[(16,43)],[(16,43),(20,47),(21,48)],[(16,43),(22,49)],[(11,38)],[(23,50)]]) [(12,.int .i64 ((i:Int))),(1,.slice ((some ada)) p2 pc),(15,.int .i64 ((v:Int))),(13,.int .i64 ((k:Int))),(3,.slice UB q2 qc)] [EV (.int .i64 ((i:Int))),EV (.slice ((some ada)) p2 pc),EV (.int .i64 ((p2:Int))),EV (.bool true),EV (.bool true),EV (.slice ((some ada)) p2 pc),EV (.int .i64 ((i:Int))),EV (.pointer (some (Addr.add ada (i*1)))),EV (.int .i64 ((v:Int))),EV (.int .i64 ((v:Int))),EV (.bool true),EV (.bool true),EV (.int .i64 ((k:Int))),EV (.slice UB q2 qc),EV (.int .i64 ((q2:Int))),EV (.bool false),EV (.bool false),EV (undef),EV (undef),EV (undef),EV (undef),EV (undef),EV (undef),EV (.bool false),EV (.bool true),EV (.bool false)] vk vk vt ?_ ?_ ?_
      ·exact js
      ·exact⟨vi0,vi1,vi6,zpX,vi2,zpY,zpZ,zp0,zp1,zp2,zsO,zbd,zbp,zf4,vi6,(fun aa ww hb he hd=>za rfl (zZ ((k:Int)) ((q2:Int)) .i64 _ _ _ _ rfl hd.1 hd.2.1 ⟨ut Value.bool (decide_eq_false jo),ue _ _⟩)),vi2,zk5,zk5,zk5,zk5,zk5,zk5,zp9,vi3,vi3,uC⟩
      intro vs w2 hb hR;refine vw5 ?_;clear hR;clear HCa;exact vt6
   ·obtain⟨ha5,ha2⟩:=hqa hma;obtain⟨hk2,hb2,hb4,hb5⟩:=hpb (by rcases hor with h | h;exact absurd h hma;exact h);clear hpa hpb hqa hqb hor;by_cases hi2:i<p2
    ·replace ha2:=ha2 hi2;obtain⟨ada,hA,-,hca⟩:=(HUA.below HJ.2).at_ hi2;subst hA;rw[yL (by rw[←HP];exact hi2)] at hca;obtain⟨va9,hva9⟩:∃z,z=nth av i:=⟨_,rfl⟩;rw[←hva9] at hca ha2;clear hva9;skip;have HCa:=vh hca;clear hca;obtain⟨adb,hA,-,hcb⟩:=(HUB.below HJ.2).at_ hk2;subst hA;rw[yL (by rw[←HQ];exact hk2),hb2] at hcb;have HCb:=vh hcb;clear hcb;refine wp_region_each (kss:=[[],[],[(1,28)],[(0,27),(2,29)],[(3,30)],[(4,31)],[(4,31)],[(4,31),(5,32),(6,33)],[(4,31),(7,34)],[(4,31)],[(4,31),(8,35),(9,36)],[(4,31),(10,37)],[],[],[(13,40)],[(12,39),(14,41)],[(15,42)],[(16,43)],[(16,43)],[(16,43),(17,44),(18,45)],[(16,43),(19,46)],[(16,43)],[(16,43),(20,47),(21,48)],[(16,43),(22,49)],[(11,38)],[(23,50)]]) [(12,.int .i64 ((i:Int))),(1,.slice ((some ada)) p2 pc),(15,.int .i64 ((v:Int))),(13,.int .i64 ((k:Int))),(3,.slice ((some adb)) q2 qc)] [EV (.int .i64 ((i:Int))),EV (.slice ((some ada)) p2 pc),EV (.int .i64 ((p2:Int))),EV (.bool true),EV (.bool true),EV (.slice ((some ada)) p2 pc),EV (.int .i64 ((i:Int))),EV (.pointer (some (Addr.add ada (i*1)))),EV (.int .i64 ((va9:Int))),EV (.int .i64 ((v:Int))),EV (.bool false),EV (.bool false),EV (.int .i64 ((k:Int))),EV (.slice ((some adb)) q2 qc),EV (.int .i64 ((q2:Int))),EV (.bool true),EV (.bool true),EV (.slice ((some adb)) q2 qc),EV (.int .i64 ((k:Int))),EV (.pointer (some (Addr.add adb (k*1)))),EV (.int .i64 ((v:Int))),EV (.int .i64 ((v:Int))),EV (.bool true),EV (.bool true),EV (.bool false),EV (.bool true)] vk vk vt ?_ ?_ ?_
     ·exact js
     ·exact⟨vi0,vi1,vi6,zpX,vi2,zpY,zpZ,zp0,zp1,zp2,(fun aa ww hb he hd=>zn 31 rfl vk hd.1 (zW ((va9:Int)) ((v:Int)) .i64 _ _ _ _ rfl hd.2.1 hd.2.2.1 ⟨ut Value.bool (beq_false_of_ne jo),ue _ _⟩)),zbd,zbp,zf4,vi6,zp3,vi2,zp4,zp5,zp6,zp7,zp8,zsP,zbd,vi3,vi3,uC⟩
     intro vs w2 hb hR;refine vw5 ?_;clear hR;clear HCa HCb;exact vt5
    ·clear ha2;obtain⟨adb,hA,-,hcb⟩:=(HUB.below HJ.2).at_ hk2;subst hA;rw[yL (by rw[←HQ];exact hk2),hb2] at hcb;have HCb:=vh hcb;clear hcb;refine wp_region_each (kss:=[[],[],[(1,28)],[(0,27),(2,29)],[(3,30)],[(4,31)],[(4,31)],[(4,31),(5,32),(6,33)],[(4,31),(7,34)],[(4,31)],[(4,31),(8,35),(9,36)],[(4,31),(10,37)],[],[],[(13,40)],[(12,39),(14,41)],[(15,42)],[(16,43)],[(16,43)],[(16,43),(17,44),(18,45)],[(16,43),(19,46)],[(16,43)],[(16,43),(20,47),(21,48)],[(16,43),(22,49)],[(11,38)],[(23,50)]]) [(12,.int .i64 ((i:Int))),(1,.slice UA p2 pc),(15,.int .i64 ((v:Int))),(13,.int .i64 ((k:Int))),(3,.slice ((some adb)) q2 qc)] [EV (.int .i64 ((i:Int))),EV (.slice UA p2 pc),EV (.int .i64 ((p2:Int))),EV (.bool false),EV (.bool false),EV (undef),EV (undef),EV (undef),EV (undef),EV (undef),EV (undef),EV (.bool false),EV (.int .i64 ((k:Int))),EV (.slice ((some adb)) q2 qc),EV (.int .i64 ((q2:Int))),EV (.bool true),EV (.bool true),EV (.slice ((some adb)) q2 qc),EV (.int .i64 ((k:Int))),EV (.pointer (some (Addr.add adb (k*1)))),EV (.int .i64 ((v:Int))),EV (.int .i64 ((v:Int))),EV (.bool true),EV (.bool true),EV (.bool false),EV (.bool true)] vk vk vt ?_ ?_ ?_
     ·exact js
     ·exact⟨vi0,vi1,vi6,(fun aa ww hb he hd=>za rfl (zZ ((i:Int)) ((p2:Int)) .i64 _ _ _ _ rfl hd.1 hd.2.1 ⟨ut Value.bool (decide_eq_false jo),ue _ _⟩)),vi2,zk6,zk6,zk6,zk6,zk6,zk6,zp9,zbp,zf4,vi6,zp3,vi2,zp4,zp5,zp6,zp7,zp8,zsP,zbd,vi3,vi3,uC⟩
     intro vs w2 hb hR;refine vw5 ?_;clear hR;clear HCb;exact vt5
  ·obtain rfl:m=j:=jo;have HO:=vh HJ.1;have HBw:=vh HJ.2;clear HJ;go_wp2_with fail;go_ret;have hO:=HO.out;rw[um (by rw[zdw,←HM];exact ug _)] at hO;refine⟨_,rfl,ziO hO (by rw[zdw,←HM];exact hm6) ?_,HBw.out⟩;intro z hz;obtain⟨v,hv,rfl⟩:=List.mem_map.1 hz;obtain⟨j,hj,rfl⟩:=List.mem_iff_getElem.1 hv;have hvj:nth vars j=vars[j]:=by simp[nth,List.getD,hj]
   by_cases h:vars[j]∈av
   ·rw[if_pos h];have:=zc5 HAs.out HNd.out hj (by rw[hvj];exact h);rw[hvj] at this;rw[this.2.2.1];exact HVA.lt (by rw[HP];exact this.1)
   ·rw[if_neg h];have h2:vars[j]∈bv:=by rcases HAb.out _ hv with h3 | h3;exact absurd h3 h;exact h3
    have:=zc5 HBs.out HNd.out hj (by rw[hvj];exact h2);rw[hvj] at this;rw[this.2.2.1];exact HVB.lt (by rw[HQ];exact this.1)
end Go.Proofs.YtoecdobelolkeaaGreatDoor
