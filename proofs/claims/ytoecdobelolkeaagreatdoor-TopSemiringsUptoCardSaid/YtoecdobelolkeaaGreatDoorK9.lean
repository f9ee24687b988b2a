/- Part of TopSemirings. -/
import Derived.Test.YtoecdobelolkeaaGreatDoorK8
set_option linter.unusedVariables false
set_option linter.unusedSimpArgs false
set_option maxRecDepth 100000
set_option maxHeartbeats 16000000
namespace Go.Proofs.YtoecdobelolkeaaGreatDoor
open Go.RowKit
variable {S:Type} {w w':World} {k n B g i te m a:Nat} {e:TypeId} {ys:List Int} {rs:List (List Int)} {cl us:List Value} {V:List Nat}
theorem vm10 {P:Prop} (h:P:=by
 obtain⟨O,co,rfl,-,-,hno5⟩:=h.form;obtain⟨no,hno⟩:∃x,x=fs.length:=⟨_,rfl⟩;rw[←hno] at h hno5 ⊢;have HO:=vh h;have HNo:=vh hno;clear h hno;have HV:=vh hvs;have HNe:=vh hne;clear hvs hne;have hx2:out<2 ^ 32:=hout;first | go_enter Tryz.func63,Tryz.ntmps63 | go_enter Tryz.func68,Tryz.ntmps68 | go_enter Tryz.func73,Tryz.ntmps73 | go_enter Tryz.func80,Tryz.ntmps80
 go_wp2_with fail;refine(zcP out hout w).mono ?_;rintro e w1 ⟨u,rfl,hu,hb⟩;obtain⟨L,m,mc,rfl,hmc,hm,hX⟩:=hu.x;have hm6:m≤1000000:=by obtain⟨_,_,_,e,_,_,h3,_⟩:=hu;cases e;exact h3.2
 have HX:=vh hX;have HM:=vh hm;have HB1:=vh hb;clear hX hm hu hmc hb;have hm0:0<m:=by rw[HM];exact List.length_pos_iff.2 HNe.out
 go_wp2_with fail;go_loopg [17,5,6] m (fun g iv bv lv wr=>∃(i:Nat) (bst lst:Int),iv = .int .i64 i∧bv = .int .i64 bst∧lv = .int .i64 lst∧i+g=m∧Hid ((0<i→∃v∈zN out,bst=(v:Int))∧(i=0→bst = -1)∧Below w1.heap.size w1 wr));case atStart=>exact⟨0,-1,0,rfl,rfl,rfl,jo,vh ⟨fun h=>absurd h jo,fun _=>rfl,ue _ _⟩⟩
 case round=>
  obtain⟨i,bst,lst,rfl,rfl,rfl,him,HJ⟩:=hrel;obtain⟨G,hG⟩:=vx (gk);subst hG;obtain⟨wC,hwC⟩:∃x,x=wr:=⟨_,rfl⟩;subst hwC;by_cases hi:i<m
  ·have i1:((i:Int)<(m:Int)):=jo;obtain⟨ad,hA,-,hc⟩:=(HX.below HJ.2.2).at_ hi;subst hA;have hil:i<(zN out).length:=by rw[←HM];exact hi
   rw[yL hil] at hc;have hvm:=yD hil;obtain⟨v,hv⟩:=vx (nth (zN out) i);rw[←hv] at hc hvm;clear hv;have hv32:=zhI hvm;have HVm:=vh hvm;clear hvm;have HI:=vh HJ.2.2;go_wp2_with fail;clear hc;go_loopg [23,9,10] no (fun g iv uv lv wr=>∃(j un:Nat) (la:Int),iv = .int .i64 j∧uv = .int .u32 (un:Int)∧lv = .int .i64 la∧j+g=no∧un<4294967296∧Hid (Below w1.heap.size w1 wr));case atStart=>exact⟨0,0,0,rfl,rfl,rfl,jo,jo,HI⟩
   case round=>
    obtain⟨j,un,la,rfl,rfl,rfl,hjo,hun,HK⟩:=hrel;clear HI;by_cases hj:j<no
    ·have j1:((j:Int)<(no:Int)):=jo;have hj2:=hj;have HBw:=vh (ze HB1.out HK.out HB1.size);obtain⟨xo,hxo⟩:∃x,fs[j]? = some x:=⟨_,uf (by rw[←HNo];exact hj)⟩;obtain⟨ado,cso,rfl,-,hco,hFo⟩:=HO.atA hxo;obtain⟨xo1,xo2,xo3,rfl,ho1,ho2,ho3⟩:=hFo;obtain⟨OA,mo,oc,rfl,-⟩:=id ho1;obtain⟨OD,od,rfl,-⟩:=ho2.form;obtain⟨OC,oe,rfl,-⟩:=ho3.form;have hsb:zr xo.vars<4294967296:=ZB (n:=32) (HV.out xo (ui hxo));have HCo:=vh hco;have HO1:=vh ho1;have HVx:=vh (HV.out xo (ui hxo));clear hco ho1 ho2 ho3 hxo;go_upto_region 9 with (fail);refine zc (kss:=[[],[(0,25)]]) [(21,.slice ((some ado)) no co),(23,.int .i64 ((j:Int)))] [EV (.pointer (some (Addr.add ado (j*3)))),EV (.agg #[.slice OA mo oc,.slice OD xo.rows.length od,.slice OC xo.vals.length oe])] 2 vk vt [false,false] ?_ ?_ ?_
     ·exact js
     ·exact⟨(fun aa ww hb he hd=>za rfl (zm (e:=vq1) (s:=3) (k:=j) rfl vk jo he.1 he.2.1)),(fun aa ww hb he hd=>za rfl (zg (cs:=[.slice OA mo oc,.slice OD xo.rows.length od,.slice OC xo.vals.length oe]) rfl vk vk hd.1 (fun j u hj=>((ze HBw.out hb HBw.size).cell (zh (HCo.out j u hj))).trans (HCo.out j u hj)))),uC⟩
     intro vs w2 hb hR;refine vw1 ?_;clear hR;show wpOps _ _ _ [2,3] _ _;refine zb rfl rfl (vq11 rfl ?_);refine jp 12 ?_;refine zb rfl rfl (zC (vs:=[.slice OA mo oc,.slice OD xo.rows.length od,.slice OC xo.vals.length oe]) (off:=0) rfl rfl vk rfl rfl rfl (Blk.new _ _ _) vj4 (fun j _ _ x=>zD rfl j x) ?_);intro w3 kn hg hs hbx;have hbw:Below w2.heap.size w2 w3:=(al w2 _).grown hg (al w2 _).size (fun k e=>by cases e;exact ug _);obtain⟨gb,hgb⟩:∃g,g=w2.heap.size:=⟨_,rfl⟩;rw[←hgb] at hbx ⊢;clear kn hg hs;unfold wpOps;have h3:=ze hb hbw hb.size;have HK3:=vh (HK.trans (h3.mono HK.size));have HB3:=vh (ze HBw.out h3 HBw.size);have HXb:=vh hbx;clear hb hbw hbx hgb h3 HK HBw HCo;go_upto_region 10 with (fail);obtain⟨tb,htb⟩:∃x,x=(zr xo.vars).testBit v:=⟨_,rfl⟩;have HTb:=vh htb.symm;clear htb;refine zj (kss:=[[],[(0,27)],[],[(1,28),(2,29)],[(3,30)],[(4,31)]]) [(12,.pointer (some (⟨gb,0,none⟩))),(8,.int .i64 ((v:Int)))] [EV (.agg #[.slice OA mo oc,.slice OD xo.rows.length od,.slice OC xo.vals.length oe]),EV (.int .u32 (((zr xo.vars:Nat):Int))),EV (.int .i64 ((v:Int))),EV (.int .u32 ((((zr xo.vars:Nat):Int) / 2 ^ v))),EV (.int .u32 (((if (zr xo.vars).testBit v then 1 else 0:Nat):Int))),EV (.bool tb)] vk vt ?_ ?_ ?_
     ·exact js
     ·exact⟨(fun aa ww hb he hd=>za rfl (zg (cs:=[.slice OA mo oc,.slice OD xo.rows.length od,.slice OC xo.vals.length oe]) rfl vk vk he.1 (Blk.at_k HXb.out rfl hb))),(fun aa ww hb he hd=>za rfl (zq _ _ _ rfl vk (by rw[show aa.eval (.tmp 27) = .agg #[.slice OA mo oc,.slice OD xo.rows.length od,.slice OC xo.vals.length oe] from hd.1];exact zU (vq2 _ _ _ xo.vars ww (HO1.below (ze HB3.out hb HB3.size)) HVx.out)))),vi1,vi85,vi86,vi87,uC⟩
     intro vs w4 hb hR;refine vw2 ?_;clear hR;have HK4:=vh (HK3.trans (hb.mono HK3.size));have HB4:=vh (ze HB3.out hb HB3.size);have HXc:=vh (HXb.keep hb);clear hb HK3 HB3 HXb HTb;cases tb with
     |false=>
      clear HXc HB4 HO1 HVx;go_wp2_with fail;go_roundg (gk - 1);case measure=>omega
      case rel=>exact⟨j+1,_,_,vj1,rfl,rfl,jo,hun,HK4⟩
     |true=>
      go_upto_region 11 with (fail);refine zc (kss:=[[],[],[(1,34)],[(0,33),(2,35)]]) [(9,.int .u32 ((un:Int))),(12,.pointer (some (⟨gb,0,none⟩)))] [EV (.int .u32 ((un:Int))),EV (.agg #[.slice OA mo oc,.slice OD xo.rows.length od,.slice OC xo.vals.length oe]),EV (.int .u32 (((zr xo.vars:Nat):Int))),EV (.int .u32 (((un ||| zr xo.vars:Nat):Int)))] 4 vk vt [false,false,false,false] ?_ ?_ ?_
      ·exact js
      ·exact⟨vi0,(fun aa ww hb he hd=>za rfl (zg (cs:=[.slice OA mo oc,.slice OD xo.rows.length od,.slice OC xo.vals.length oe]) rfl vk vk he.2.1 (Blk.at_k HXc.out rfl hb))),(fun aa ww hb he hd=>za rfl (zq _ _ _ rfl vk (by rw[show aa.eval (.tmp 34) = .agg #[.slice OA mo oc,.slice OD xo.rows.length od,.slice OC xo.vals.length oe] from hd.1];exact zU (vq2 _ _ _ xo.vars ww (HO1.below (ze HB4.out hb HB4.size)) HVx.out)))),(fun aa ww hb he hd=>za rfl (zcr _ _ rfl hd.1 hd.2.1 hun hsb)),uC⟩
      intro vs w5 hb hR;refine vw6 ?_;clear hR;show wpOps _ _ _ [4] _ _;refine zb rfl rfl (zl 9 (.tmp 36) rfl rfl (.int .u32 ((un ||| zr xo.vars:Nat):Int)) rfl ?_);refine vs1 ?_;unfold wpOps;have hun2:(un ||| zr xo.vars)<4294967296:=Nat.or_lt_two_pow (n:=32) hun hsb;have HK5:=vh (HK4.trans (hb.mono HK4.size));have z0:=Blk.at0 HXc.out hb;clear hb HK4 HB4 HXc HO1 HVx;go_wp2_with fail;go_roundg (gk - 1);case measure=>omega
      case rel=>exact⟨j+1,_,_,vj1,rfl,rfl,jo,hun2,HK5⟩
    ·obtain rfl:no=j:=jo;go_wp2_with fail;refine(zmd un hun wr).mono ?_;rintro e w6 ⟨cst,rfl,hb⟩;have HK6:=vh (HK.trans (hb.mono HK.size));clear hb HK;have fin:∀c2:Int,Hid ((0<i+1→∃u∈zN out,(v:Int)=(u:Int))∧(i+1=0→(v:Int) = -1)∧Below w1.heap.size w1 w6):=fun _=>vh ⟨fun _=>⟨v,HVm.out,rfl⟩,fun h=>absurd h jo,HK6.out⟩;have keep:¬(bst<0)→Hid ((0<i+1→∃u∈zN out,bst=(u:Int))∧(i+1=0→bst = -1)∧Below w1.heap.size w1 w6):=fun h0=>vh ⟨fun _=>by
      rcases Nat.eq_zero_or_pos i with hz | hz
      ·have:=HJ.2.1 hz;omega
      ·exact HJ.1 hz,fun h=>absurd h jo,HK6.out⟩
     have HFn:=vh fin;have HKp:=vh keep;clear fin keep HJ HK6 HVm;by_cases he:cst=la
     ·subst he;by_cases b0:bst<0
      ·exact zpT
      ·by_cases b1:(0:Int)<lst
       ·exact zpT
       ·exact vt81
     ·have e0:(cst == la)=false:=by simpa using he
      by_cases b0:bst<0
      ·exact zpT
      ·by_cases b1:cst<lst
       ·exact zpT
       ·exact vt81
  ·obtain rfl:m=i:=jo;obtain⟨v,hv,rfl⟩:=HJ.1 hm0;have HF:=vh (uh hv (ze HB1.out HJ.2.2 HB1.size));clear hv HJ;go_wp2_with fail;go_ret;exact⟨v,HF.1,rfl,HF.2⟩):P:=h
def zi9 (vq1:Nat) (vq7:Nat) (vq8:Nat) (vq56:Nat):Prop:=∀ {S:Type} {R:World→List Value→S→Prop} (out:Nat) (vf:Value) (fs:List (PF S)) (w:World) (hout:out<4294967296) (h:SlsV vq1 3 (FacG vq7 vq8 R) w vf fs) (hvs:∀f∈fs,∀v∈f.vars,v<32) (hne:zN out≠[]),Calls Tryz.prog vq56 #[vf,.int .u32 (out:Int)] w fun e w'=>∃v∈zN out,e = .returned (.int .i64 (v:Int))∧Below w.heap.size w w'
theorem FN.vq45:zi9 104 32 1 63:=fun {S} {R} out vf fs w hout h hvs hne=>vm10
theorem FC.vq45:zi9 119 34 2 68:=fun {S} {R} out vf fs w hout h hvs hne=>vm10
theorem FP.vq45:zi9 128 61 3 73:=fun {S} {R} out vf fs w hout h hvs hne=>vm10
theorem FW.vq45:zi9 140 72 1 80:=fun {S} {R} out vf fs w hout h hvs hne=>vm10
section
variable {P : Program} {o : Oper} {a : Act} {w : World} {t : Tmp} {T e : TypeId}
theorem zbI {A:Option Addr} {c lo:Nat} {x:Operand} (ho:o.op = .slice T (.tmp t) (some x) none none) (hu:zbn P T e k=true) (he:P.elem T=e) (h:tv a t = .slice A n c) (hx:a.eval x = .int .i64 (lo:Int)) (hlo:lo≤n) :
  zp P o a.eval w (fun v w'=>v = .slice (if c=lo then A else A.map (·.add (lo*k))) (n - lo) (c - lo)∧Below w.heap.size w w'):=by
 obtain⟨hu,i,hi,hs⟩:=yP hu;refine zo (.slice (if c=lo then A else A.map (·.add (lo*k))) (n - lo) (c - lo)) ?_ ⟨rfl,ue _ _⟩;have h1:=run_slice_l (P:=P) (w:=w) T A n c (by rw[he];exact hu) .i64 (lo:Int) jo jo;have h2:=run_sliceAt_slice (P:=P) (w:=w) T (.slice A n c) (some (.int .i64 (lo:Int))) none none (by rw[he];exact hu);rw[h1,he] at h2;unfold execOp;rw[ho];simp only[zK,h];simp only[Option.map_some,Option.map_none,hx];simp[h2,sizeOf,typeInfo,hi,hs,sliced,Result.andThen]
end
section
variable {S : Type} {e : TypeId} {k : Nat} {R : World → List Value → S → Prop} {w w' : World} {v : Value} {xs : List S} {A : Option Addr} {n c lo : Nat}
theorem RdT.from_ (h:RdT w e k A n cl) (hlo:lo≤n) (hc:n≤c):RdT w e k (if c=lo then A else A.map (·.add (lo*k))) (n - lo) (cl.drop (lo*k)):=by
 rcases Nat.lt_or_ge lo n with h1 | h1
 ·rw[if_neg jo];exact h.drop h1
 ·have:lo=n:=jo;subst this;have hz:cl.drop (lo*k)=[]:=by rw[List.drop_eq_nil_iff,h.1];exact ug _
  rw[hz,Nat.sub_self];exact RdT.nil _ _ _ _
theorem zkn {cl:List (List Value)} (h:∀c∈cl,c.length=k) (lo:Nat):cl.flatten.drop (lo*k)=(cl.drop lo).flatten:=by
 induction lo generalizing cl with
 |zero=>simp
 |succ lo ih=>
  cases cl with
  |nil=>simp
  |cons c l=>
   rw[List.flatten_cons,List.drop_succ_cons,Nat.add_mul,Nat.one_mul,List.drop_append,←ih fun c hc=>h c (uq _ hc)];have hc:=h c vz;rw[List.drop_eq_nil_of_le jo,List.nil_append,hc,Nat.add_sub_cancel]
theorem SlsV.from_ (h:SlsV e k R w (.slice A n c) xs) (hlo:lo≤n):SlsV e k R w (.slice (if c=lo then A else A.map (·.add (lo*k))) (n - lo) (c - lo)) (xs.drop lo):=by
 obtain⟨A',n',c',e1,hc,⟨cl,h1,h2,h3,h4⟩,h5⟩:=h;injection e1 with e2 e3 e4;subst e2;subst e3;subst e4;refine⟨_,_,_,rfl,jo,⟨cl.drop lo,by rw[List.length_drop,←h1],fun c hc=>h2 c (List.mem_of_mem_drop hc),?_,h4.drop lo⟩,jo⟩;rw[←zkn h2];exact h3.from_ hlo hc
theorem SlsV.cells (h:SlsV e k R w (.slice A n c) xs):∃cl:List (List Value),(∀c∈cl,c.length=k)∧n=xs.length∧n≤c∧RdT w e k A n cl.flatten∧All2 (R w) cl xs:=by
 obtain⟨A',n',c',e1,hc,⟨cl,h1,h2,h3,h4⟩,h5⟩:=h;injection e1 with e2 e3 e4;subst e2;subst e3;subst e4;exact⟨cl,h2,h1,hc,h3,h4⟩
theorem CpR.sls {cl:List (List Value)} (h:CpR e k n cl.flatten w v) (hk:∀c∈cl,c.length=k) (ha:All2 (R w) cl xs) (hn:n=xs.length) (h5:n≤5000000):SlsV e k R w v xs:=by
 obtain⟨A,c,rfl,h1,h2⟩:=h;exact⟨A,n,c,rfl,h1,⟨cl,hn,hk,h2,ha⟩,h5⟩
theorem zat {cl:List (List Value)} (ha:All2 (R w) cl xs) (hR:∀c x,R w c x→c.all okC=true):cl.flatten.all okC=true:=by
 induction cl generalizing xs with
 |nil=>rfl
 |cons c l ih=>
  cases xs with
  |nil=>exact ha.elim
  |cons x m=>rw[List.flatten_cons,List.all_append,hR c x ha.1,ih ha.2];rfl
theorem FacG.ok {kk:Nat} {R:World→List Value→S→Prop} {cs:List Value} {f:PF S} (h:FacG te kk R w cs f):cs.all okC=true∧cs.length=3:=by
 obtain⟨a,b,c,rfl,⟨_,_,_,rfl,_⟩,⟨_,_,_,rfl,_⟩,⟨_,_,_,rfl,_⟩⟩:=h;exact⟨rfl,rfl⟩
end
theorem zb8 {p:PF S→Bool} {fs:List (PF S)} {x:PF S} (h:fs[i]? = some x):(fs.take (i+1)).filter p=(fs.take i).filter p++if p x=true then [x] else []:=by
 rw[List.take_add_one,h,List.filter_append];congr 1;cases hp:p x <;> simp[hp]
theorem zme (v:Nat) (f:PF S):yh v f=(zr f.vars).testBit v:=by rw[yK];rfl
theorem za2 {P:Program} {o:Oper} {a:Act} {K:Value→World→Prop} (f:FuncId) (x1 x2 x3 x4:Operand) (ts:Array TypeId) (ho:o.op = .call {callee:= .value (.func f),args:=#[x1,x2,x3,x4],argTypes:=ts}) (hf:Yw P f=true)
  (h:Calls P f #[a.eval x1,a.eval x2,a.eval x3,a.eval x4] w (fun e w''=>∃v,e = .returned v∧K v w'')):zp P o a.eval w K:=
 Zc f #[x1,x2,x3,x4] ts ho hf zej
theorem CpR.below {v:Value} (h:CpR e k n cl w v) (hb:Below w.heap.size w w'):CpR e k n cl w' v:=by
 obtain⟨A,c,e1,h1,h2⟩:=h;exact⟨A,c,e1,h1,h2.below hb⟩
theorem zh5 (R:CSr S):MuOk R (fun _=>1):=⟨fun _=>ug _,fun _ _=>by omega,fun _ _=>by omega⟩
theorem zdd (l:List S):smu (fun _=>1) l=l.length:=by
 exact vt77
theorem zfG {μ:S→Nat} {p f:PF S} {l:List (PF S)} (h:Mf μ p*MfP μ (f :: l)≤m):smu μ p.vals*smu μ f.vals≤m:=by
 refine ud (Nat.mul_le_mul (Nat.le_max_right 1 _) ?_) h;show smu μ f.vals≤Mf μ f*MfP μ l;exact ud (Nat.le_max_right 1 _) (Nat.le_mul_of_pos_right _ (zfy μ l))
theorem zr2 {μ:S→Nat} {p:PF S} {l:List (PF S)} (h:Mf μ p*MfP μ l≤m):smu μ p.vals≤m:=
 ud (ud (Nat.le_max_right 1 _) (Nat.le_mul_of_pos_right _ (zfy μ l))) h
section
variable {o : Oper} {a : Act} {w : World} {t u : Tmp} {A B : Option Addr} {n c m d : Nat}
theorem FN.vq35 (ho:o.op = .buildSlice 261 2 #[(0,.tmp t),(1,.tmp u)]) (h1:tv a t = .slice A n c) (h2:tv a u = .slice B m d):zp Tryz.prog o a.eval w (fun v w'=>(∃g:Nat,v = .slice (some ⟨g,0,none⟩) 2 2∧Blk w' g 53 #[.slice A n c,.slice B m d])∧Below w.heap.size w w'):=by
 have hr:(execOp a.eval o).run Tryz.prog w = .ok (.value (.slice (some ⟨w.heap.size,0,none⟩) 2 2)) (w.alloc (.cells #[.slice A n c,.slice B m d] 53)):=by
  exact zk3
 exact zcY
theorem FC.vq35 (ho:o.op = .buildSlice 267 2 #[(0,.tmp t),(1,.tmp u)]) (h1:tv a t = .slice A n c) (h2:tv a u = .slice B m d):zp Tryz.prog o a.eval w (fun v w'=>(∃g:Nat,v = .slice (some ⟨g,0,none⟩) 2 2∧Blk w' g 58 #[.slice A n c,.slice B m d])∧Below w.heap.size w w'):=by
 have hr:(execOp a.eval o).run Tryz.prog w = .ok (.value (.slice (some ⟨w.heap.size,0,none⟩) 2 2)) (w.alloc (.cells #[.slice A n c,.slice B m d] 58)):=by
  exact zk3
 exact zcY
theorem FP.vq35 (ho:o.op = .buildSlice 269 2 #[(0,.tmp t),(1,.tmp u)]) (h1:tv a t = .slice A n c) (h2:tv a u = .slice B m d):zp Tryz.prog o a.eval w (fun v w'=>(∃g:Nat,v = .slice (some ⟨g,0,none⟩) 2 2∧Blk w' g 64 #[.slice A n c,.slice B m d])∧Below w.heap.size w w'):=by
 have hr:(execOp a.eval o).run Tryz.prog w = .ok (.value (.slice (some ⟨w.heap.size,0,none⟩) 2 2)) (w.alloc (.cells #[.slice A n c,.slice B m d] 64)):=by
  exact zk3
 exact zcY
theorem FW.vq35 (ho:o.op = .buildSlice 271 2 #[(0,.tmp t),(1,.tmp u)]) (h1:tv a t = .slice A n c) (h2:tv a u = .slice B m d):zp Tryz.prog o a.eval w (fun v w'=>(∃g:Nat,v = .slice (some ⟨g,0,none⟩) 2 2∧Blk w' g 75 #[.slice A n c,.slice B m d])∧Below w.heap.size w w'):=by
 have hr:(execOp a.eval o).run Tryz.prog w = .ok (.value (.slice (some ⟨w.heap.size,0,none⟩) 2 2)) (w.alloc (.cells #[.slice A n c,.slice B m d] 75)):=by
  exact zk3
 exact zcY
theorem zoQ (ho:o.op = .buildSlice 138 2 #[(0,.tmp t),(1,.tmp u)]) (h1:tv a t = .slice A n c) (h2:tv a u = .slice B m d):zp Tryz.prog o a.eval w (fun v w'=>(∃g:Nat,v = .slice (some ⟨g,0,none⟩) 2 2∧Blk w' g 72 #[.slice A n c,.slice B m d])∧Below w.heap.size w w'):=by
 have hr:(execOp a.eval o).run Tryz.prog w = .ok (.value (.slice (some ⟨w.heap.size,0,none⟩) 2 2)) (w.alloc (.cells #[.slice A n c,.slice B m d] 72)):=by
  exact zk3
 exact zcY
theorem zr3 (ho:o.op = .buildSlice 71 2 #[(0,.tmp t),(1,.tmp u)]) (h1:tv a t = .slice A n c) (h2:tv a u = .slice B m d):zp Tryz.prog o a.eval w (fun v w'=>(∃g:Nat,v = .slice (some ⟨g,0,none⟩) 2 2∧Blk w' g 26 #[.slice A n c,.slice B m d])∧Below w.heap.size w w'):=by
 have hr:(execOp a.eval o).run Tryz.prog w = .ok (.value (.slice (some ⟨w.heap.size,0,none⟩) 2 2)) (w.alloc (.cells #[.slice A n c,.slice B m d] 26)):=by
  exact zk3
 exact zcY
end
theorem zgD (R:CSr S) {K:Nat} {F:(Nat→Nat)→S} (hF:∀a b,(∀u∈V,a u=b u)→F a=F b):∀(l:List Nat) (x y:Nat→Nat),(∀u∈V,u∉l→x u=y u)→Ys R K l F x=Ys R K l F y
 |[],x,y,h=>hF _ _ fun u hu=>h u hu vz
 |v :: l,x,y,h=>yz R fun d _=>zgD R hF l _ _ fun u hu hl=>by
  unfold yG
  by_cases e:u=v
  ·simp[e]
  ·simp only[if_neg e];exact h u hu (by simp[e,hl])
theorem zko (R:CSr S) {fs:List (PF S)} (h:∀f∈fs,∀v∈f.vars,v∈V) (a b:Nat→Nat) (hab:∀u∈V,a u=b u):YZ R fs a=YZ R fs b:=
 zaY R fun f hf=>by
  have e:ptF f.vars a=ptF f.vars b:=List.map_congr_left fun v hv=>by rw[hab v (h f hf v hv)]
  unfold den zar
  rw[e]
theorem MgI.start (R:CSr S) {fs:List (PF S)} (hn:n≤32) (hw:∀f∈fs,WfF n f) (hcov:zaO fs=2 ^ n - 1) (hfew:∀f∈fs,f.vars=[]→f.rows.length≤1):MgI R n (2 ^ n - 1) fs (Ys R 4 (zN (2 ^ n - 1)) (YZ R fs) (fun _=>0)):=
 ⟨hw,Nat.sub_lt (Nat.two_pow_pos n) jo,fun v=>by rw[←hcov];exact za1 fs v,hfew,fun x=>zgD R (V:=zN (2 ^ n - 1)) (zko R fun f hf v hv=>mem_memF.2 ⟨by have:=(hw f hf).vars.2 v hv;omega,by rw[←hcov];exact(za1 fs v).2 ⟨f,hf,hv⟩⟩) _ _ _ fun u h1 h2=>absurd h1 h2⟩
theorem zkp (a:Nat) (h:a<4294967296):zf8 a 0=a:=by
 apply Nat.eq_of_testBit_eq;intro i;rw[zbN jo h];simp
theorem zmf {v:Nat} (h:a<4294967296) (hv:v<32) (u:Nat):(zf8 a (2 ^ v)).testBit u=(a.testBit u && decide (u≠v)):=by
 rw[zbN (zah hv) h,Nat.testBit_two_pow];by_cases e:v=u <;> simp[e,eq_comm]
theorem zoR (h:a<4294967296) (h0:a≠0):zN a≠[]:=by
 obtain⟨i,hi⟩:∃i,a.testBit i=true:=Nat.exists_testBit_of_ne_zero h0;refine List.ne_nil_of_mem (mem_memF.2 ⟨?_,hi⟩);rcases Nat.lt_or_ge i 32 with h1 | h1
 ·exact h1
 ·rw[Nat.testBit_lt_two_pow (uj h (Nat.pow_le_pow_right (n:=2) (i:=32) jo h1))] at hi;cases hi
theorem zmg {out o2 v:Nat} (ho:∀u,o2.testBit u=(out.testBit u && decide (u≠v))) (hvm:v∈zN out):(zN o2).length+1=(zN out).length:=by
 have hnd:(zN out).Nodup:=(YR out).imp fun h=>Nat.ne_of_lt h;have h1:zN o2=(zN out).erase v:=by
  exact vt57
 rw[h1,List.length_erase_of_mem hvm];have:=List.length_pos_of_mem hvm;omega
theorem zgE {p:PF S→Bool} {l:List (PF S)} (h:l.filter p≠[]) (q:PF S):((l.filter fun f=>!p f)++[q]).length≤l.length:=by
 have h1:∀l:List (PF S),(l.filter p).length+(l.filter fun f=>!p f).length=l.length:=fun l=>by
  induction l with
  |nil=>rfl
  |cons a l ih=>cases hp:p a <;> simp[hp] <;> omega
 have h2:=h1 l;have h3:=List.length_pos_iff.2 h;simp only[ul,List.length_singleton];omega
def MgR {S:Type} (te k:Nat) (R:World→List Value→S→Prop) (sr:CSr S) (n:Nat) (T:S) (w:World) (r:Value):Prop:=
 ∃(d1 d2 d3:Value) (left:List (PF S)) (f:PF S),r = .tuple #[.agg #[d1,d2,d3],.int .i64 0]∧FacG te k R w [d1,d2,d3] f∧FnI sr n left left.length f T
theorem yS {P:Program} {fn:Func} {p t:Tmp} {ty:TypeId} (h:fn.results=#[.cell p ty,.tmp t]) (tmps:Array Value) (w:World) (g:Nat) (t':TypeId) (cs:Array Value) (fr:Nat×Nat) (d:TypeDesc)
  (hp:tmps.getD p undef = .pointer (some ⟨g,0,none⟩)) (hg:w.heap[g]? = some (.cells cs t' fr))
  (hu:P.underlying ty=some d) (hd:(match d with | .struct _ | .array _ _=>true | _=>false)=true) (hi:(P.info? ty).map (·.size)=some cs.size) :
  (results fn tmps).run P w = .ok (.tuple #[.agg cs,tmps.getD t undef]) w:=by
 have hp':tmps[p]?.getD undef = .pointer (some ⟨g,0,none⟩):=by simpa using hp
 simp[results,h,hp',asAddr,run_loadVar_row w g t' ty cs fr d hg hu hd hi]
section
variable {P : Program} {o : Oper} {a : Act} {w : World} {T e : TypeId}
theorem zcv (ho:o.op = .buildSlice T 0 #[]) (hu:zbn P T e k=true):zp P o a.eval w (fun z w'=>(∃g:Nat,z = .slice (some ⟨g,0,none⟩) 0 0)∧Below w.heap.size w w'):=by
 obtain⟨hu,i,hi,hs⟩:=yP hu;have hr:(execOp a.eval o).run P w = .ok (.value (.slice (some ⟨w.heap.size,0,none⟩) 0 0)) (w.alloc (.cells #[] e)):=by
  unfold execOp;rw[ho];simp[Instr.buildSlice,Instr.fill,run_underlying hu,sizeOf,typeInfo,hi,Result.andThen,newRow];exact ut (fun c=>w.alloc (.cells c e)) (Array.eq_empty_of_size_eq_zero (by rw[Array.size_map];exact Array.size_range))
 unfold zp;rw[hr];exact⟨⟨_,rfl⟩,al _ _⟩
end
theorem zmh (w:World):IntsV w (.slice none 0 0) []:=⟨none,0,0,rfl,ug _,RdT.nil _ _ _ _,⟨rfl,jo⟩,fun x hx=>by cases hx⟩
theorem zoS {R:World→List Value→S→Prop} {c:List Value} {x:S} (h:Blk w g e c.toArray) (hk:c.length=k) (hR:R w c x):SlsV e k R w (.slice (some ⟨g,0,none⟩) 1 1) [x]:=by
 exact⟨_,1,1,rfl,ug _,⟨[c],rfl,by simp[hk],⟨by simp[hk],fun _=>⟨⟨g,0,none⟩,c.toArray,rfl,h,fun j u hj=>Blk.at_k (l:=c) h vz (ue _ _) j u (by simpa using hj)⟩⟩,⟨hR,uC⟩⟩,jo⟩
theorem row0 {g9:Nat} (h:Blk w g9 87 #[.slice (some ⟨g,0,none⟩) 0 0]):RowsV w (.slice (some ⟨g9,0,none⟩) 1 1) [[]]:=zoS (c:=[.slice (some ⟨g,0,none⟩) 0 0]) h rfl ⟨_,rfl,some ⟨g,0,none⟩,0,0,rfl,ug _,RdT.nil _ _ _ _,⟨rfl,jo⟩,fun x hx=>by cases hx⟩
theorem MgR.below {R:World→List Value→S→Prop} {sr:CSr S} {T:S} {r:Value} (h:MgR te k R sr n T w r) (hb:Below w.heap.size w w') (hR:∀c x,R w c x→R w' c x):MgR te k R sr n T w' r:=by
 obtain⟨d1,d2,d3,l,f,h1,h2,h3⟩:=h;exact⟨d1,d2,d3,l,f,h1,h2.below hb hR,h3⟩
theorem FN.vq22.frm {v:Value} {x:Nat} (h:FN.vq22 w v x):∃A k c,v = .slice A k c:=by obtain⟨A,k,c,e,_⟩:=h;exact⟨A,k,c,e⟩
theorem FC.vq22.frm {v:Value} {x:Option Nat} (h:FC.vq22 w v x):∃b A k c,v = .agg #[.bool b,.slice A k c]:=by obtain⟨b,A,k,c,e,_⟩:=h;exact⟨b,A,k,c,e⟩
theorem FP.vq22.frm {v:Value} {x:Nat×Option Nat} (h:FP.vq22 w v x):∃A k c b B m d,v = .agg #[.slice A k c,.bool b,.slice B m d]:=by obtain⟨A,k,c,b,B,m,d,e,_⟩:=h;exact⟨A,k,c,b,B,m,d,e⟩
theorem FW.vq22.frm {v:Value} {x:WS×Nat} (h:FW.vq22 w v x):∃A k c,v = .slice A k c:=by obtain⟨L,⟨A,k,c,e,_⟩,_⟩:=h;exact⟨A,k,c,e⟩
theorem Addr.add_zero9 (a:Addr) (i k:Nat):(Addr.add a (i*k)).add 0=Addr.add a (i*k):=by rw[Addr.add_add,Nat.add_zero]
def zdN (n:Nat):Array Value:=(List.replicate n [Value.slice none 0 0]).flatten.toArray
theorem zqp:∀xs:List Int,(VR xs).all okC=true
 |[]=>rfl
 |x :: l=>by rw[VR,List.all_append,zqp l];rfl
theorem zja (n:Nat) (hn:n≤5000000) (W:World):(Instr.makeSlice 84 (.int .i64 (n:Int)) (.int .i64 (n:Int))).run Tryz.prog W = .ok (.slice (some ⟨W.heap.size,0,none⟩) n n) (W.alloc (.cells (zdN n) 87)):=
 zaB (e:=87) (k:=1) (b:=24) (z:= .slice none 0 0) vk vk rfl jo jo (ug _) jo W
theorem zdO (v:Value) (xs:List Int) (w:World) (h:RowV w v xs):Calls Tryz.prog 52 #[v] w (fun e w'=>∃u,e = .returned u∧RowV w' u xs∧Below w.heap.size w w'):=by
 obtain⟨A,n,c,rfl,hnc,hrd,⟨hn,hn6⟩,h9⟩:=h;refine(zgB A n c (VR xs) w (fun e=>?_) hrd (zqp xs) jo).mono ?_
 ·exact vt96
 ·exact zqy
def RowsF (w:World) (B g n i:Nat) (rs:List (List Int)):Prop:=∃cl:List (List Value),(∀c∈cl,c.length=1)∧cl.length=n∧OwnC w B 87 1 (.slice (some ⟨g,0,none⟩) n n) n cl.flatten∧All2 (RowC w) (cl.take i) (rs.take i)
theorem zdP {α:Type} (n:Nat) (c:List α):((List.replicate n c).flatten).length=n*c.length:=by
 induction n with
 |zero=>simp
 |succ n ih=>rw[List.replicate_succ,List.flatten_cons,ul,ih,Nat.add_mul];omega
theorem RowsF.start (w:World) (B n:Nat) (rs:List (List Int)) (hB:B≤w.heap.size) (hn:n≤maxLen):RowsF (w.alloc (.cells (zdN n) 87)) B w.heap.size n 0 rs:=by
 have hb:=Blk.new w 87 (zdN n);unfold zdN at hb ⊢;refine⟨List.replicate n [Value.slice none 0 0],fun c hc=>by rw[List.eq_of_mem_replicate hc];rfl,vz,⟨⟨by rw[zdP];rfl,.inr ⟨w.heap.size,n,_,rfl,hB,hb,ug _,hn,by simp[zdP],?_⟩⟩,?_⟩,uC⟩
 ·rw[um (by simp[zdP])]
 ·intro g hg i x hx;simp only[Value.ownBlock,Option.some.injEq] at hg;subst hg;rw[hb.cell] at hx;exact zfp (List.replicate n [Value.slice none 0 0]) (fun c hc=>by rw[List.eq_of_mem_replicate hc];rfl) _ _ hx
theorem RowsF.below (h:RowsF w B g n i rs) (hb:Below w.heap.size w w'):RowsF w' B g n i rs:=by
 obtain⟨cl,h1,h2,h3,h4⟩:=h;exact⟨cl,h1,h2,h3.below hb,h4.mono fun _ _ h=>h.below hb⟩
theorem RowsF.step {r:List Int} (h:RowsF w B g n i rs) (hi:i<n) (hr:rs[i]? = some r) :
  ∃cur,B≤g∧Blk w g 87 cur∧i<cur.size∧(∀x,cur[i]?≠some (Value.int .u32 x))∧∀(u:Value) w',okC u=true→Blk w' g 87 (yt cur.toList i [u]).toArray→KD [89] w w'→RowV w' u r→RowsF w' B g n (i+1) rs:=by
 obtain⟨cl,h1,h2,h3,h4⟩:=h;subst h2;obtain⟨g2,cap,cur,e,hbg,hcur,hsz,hno,-⟩:=h3.setk h1 hi (c:=[.slice none 0 0]) rfl rfl;injection e with e _ _;injection e with e;injection e with e;subst e;refine⟨cur,hbg,hcur,zs8,hno i,fun u w' hu hb kd hv=>?_⟩;obtain⟨g2,cap2,cur2,e,-,hcur2,-,-,hset⟩:=h3.setk h1 hi (c:=[u]) rfl (by simp[hu]);injection e with e _ e3;injection e with e;injection e with e;subst e;subst e3;have hcc:cur2=cur:=by
  have h5:w.heap[g]? = some (.cells cur2 87 (0,0)):=hcur2;have h6:w.heap[g]? = some (.cells cur 87 (0,0)):=hcur;exact znZ
 subst hcc;have h7:=hset w' (by rw[Nat.mul_one];exact hb);refine⟨cl.set i [u],fun c hc=>?_,vz,h7,?_⟩
 ·exact zqO
 ·have e1:(cl.set i [u]).take (i+1)=cl.take i++[[u]]:=by
   exact zqv
  have e2:rs.take (i+1)=rs.take i++[r]:=by rw[List.take_add_one,hr];rfl
  rw[e1,e2];exact(h4.mono fun _ _ h=>h.kd kd rfl).snoc ⟨u,rfl,hv⟩
theorem RowsF.done (h:RowsF w B g n n rs) (hn:n=rs.length):OwnL 87 1 RowC w B (.slice (some ⟨g,0,none⟩) n n) rs:=by
 obtain⟨cl,h1,h2,h3,h4⟩:=h;rw[um jo,um jo] at h4;exact⟨cl,h1,by rw[←hn];exact h3,h4⟩
theorem zcw (ar:Int) (v:Value) (rs:List (List Int)) (w:World) (h:RowsV w v rs):Calls Tryz.prog 30 #[.agg #[.int .i64 ar,v]] w (RV w (fun r w'=>OwnL 87 1 RowC w' w.heap.size r rs)):=by
 obtain⟨A,c,rfl,hnc,-,hn5⟩:=h.form;obtain⟨n,hn⟩:∃x,x=rs.length:=⟨_,rfl⟩;rw[←hn] at h hn5 hnc ⊢;have HR:=vh h;have HN:=vh hn;clear h hn;go_enter Tryz.func30,Tryz.ntmps30;go_upto_region 1 with (fail);obtain⟨w1,hw0⟩:∃x,x=w.alloc (.cells #[.int .i64 ar,.slice A n c] 91):=⟨_,rfl⟩;rw[←hw0];have hs0:w1.heap.size=w.heap.size+1:=by rw[hw0];simp
 have ha0:Below w.heap.size w w1:=by rw[hw0];exact al _ _
 obtain⟨g1,hg0⟩:∃g,g=w.heap.size:=⟨_,rfl⟩;have hx0:Blk w1 g1 91 #[.int .i64 ar,.slice A n c]:=by rw[hw0,hg0];exact Blk.new _ _ _
 rw[←hg0];have X1:=vh hx0;have G1:=vh (show w.heap.size≤g1 by omega);have HB1:=vh (show Below w.heap.size w w1 from ha0);clear hw0 hs0 ha0 hg0 hx0;have z1:=Blk.at1 X1.out (ue _ _);have mk:=zja n hn5;go_upto_region 2 with (fail);clear z1 mk;obtain⟨w2,hw2⟩:∃x,x=w1.alloc (.cells (zdN n) 87):=⟨_,rfl⟩;rw[←hw2];obtain⟨g,hg⟩:=vx (w1.heap.size);have hF:RowsF w2 w.heap.size g n 0 rs:=by rw[hw2,hg];exact RowsF.start _ _ _ _ HB1.size zcK
 have hb2:Below w1.heap.size w1 w2:=by rw[hw2];exact al _ _
 rw[←hg];have HB2:=vh (ze HB1.out hb2 HB1.size);have X2:=vh (X1.keep hb2);have HI:=vh (show RowsF w2 w.heap.size g n 0 rs∧Blk w2 g1 91 #[.int .i64 ar,.slice A n c]∧Below w.heap.size w w2∧w.heap.size≤w2.heap.size from⟨hF,X2.out,HB2.out,HB2.size⟩);clear hw2 hg hF hb2 HB1 X1 HB2 X2;go_wp2_with fail;go_loopg [11] n (fun g0 iv wr=>∃i:Nat,iv = .int .i64 i∧i+g0=n∧Hid (RowsF wr w.heap.size g n i rs∧Blk wr g1 91 #[.int .i64 ar,.slice A n c]∧Below w.heap.size w wr∧w.heap.size≤wr.heap.size));case atStart=>exact⟨0,rfl,jo,HI⟩
 case round=>
  obtain⟨i,rfl,hio,HJ⟩:=hrel;clear HI;by_cases hi:i<n
  ·have i1:((i:Int)<(n:Int)):=jo;obtain⟨r,hr⟩:∃x,rs[i]? = some x:=⟨_,uf ziE⟩;obtain⟨ad,cs,rfl,-,hco,hrc⟩:=HR.atA hr;obtain⟨u,rfl,hru⟩:=hrc;obtain⟨RA,m,rc,rfl,hmc,hrd,hm6,hr9⟩:=id hru;have HCo:=vh hco;have HRu:=vh hru;have HR2:=vh hr;have HRd:=vh (uh hrd hm6);clear hco hru hr hmc hr9 hrd hm6;go_upto_region 5 with (fail);refine zc (kss:=[[],[],[],[(2,16)],[],[(3,17),(4,18)],[(5,19)],[(6,20)],[(0,14),(1,15)]]) [(3,.slice ((some ⟨g,0,none⟩)) n n),(4,.int .i64 ((i:Int))),(1,.pointer (some (⟨g1,0,none⟩)))] [EV (.slice ((some ⟨g,0,none⟩)) n n),EV (.int .i64 ((i:Int))),EV (.pointer (some (⟨g1,1,none⟩))),EV (.slice ((some ad)) n c),EV (.int .i64 ((i:Int))),EV (.pointer (some (Addr.add ad (i*1)))),EV (.slice RA m rc),fun zz ww=>RowV ww zz r,EV (.pointer (some (Addr.add (⟨g,0,none⟩) (i*1))))] 9 vk vt [false,false,false,false,false,false,false,false,false] ?_ ?_ ?_
   ·exact⟨eI,eI,eI,eI,eI,eI,eI,fun _ _ _ h hb=>h.below hb,eI,uC⟩
   ·exact⟨vi0,vi1,vi88,vi89,vi1,zht,(fun aa ww hb he hd=>za rfl (zd rfl vk hd.1 (by have hh:=HCo.out 0 _ rfl;rw[Addr.add_zero9] at hh;exact((ze HJ.2.2.1 hb HJ.2.2.1.size).cell (zh hh)).trans hh))),(fun aa ww hb he hd=>za rfl (zq _ _ _ rfl vk (by rw[show aa.eval (.tmp 20) = .slice RA m rc from hd.1];exact id (zdO _ r ww (HRu.below (ze HJ.2.2.1 hb HJ.2.2.1.size)))))),zht,uC⟩
   intro vs w2 hb hR;have r21:=hR 7 jd;refine vw7 ?_;clear hR;rw[yy,Nat.mul_one];have hF:=HJ.1.below hb;obtain⟨cur,hbg,hcur,hsz,hno,hset⟩:=hF.step hi HR2.out;show wpOps _ _ _ [9] _ _;refine zb rfl rfl (yZ (g:=g) (off:=i) rfl rfl vk rfl rfl r21.ok hcur hsz hno ?_);intro w9 kn hg hs hbx;have kd:KD [89] w2 w9:=KD.blk hcur hg kn rfl;have HK:=vh (show RowsF w9 w.heap.size g n (i+1) rs∧Blk w9 g1 91 #[.int .i64 ar,.slice (some ad) n c]∧Below w.heap.size w w9∧w.heap.size≤w9.heap.size from⟨hset _ w9 r21.ok hbx kd (r21.kd kd rfl),(KD.blk (T:=[91]) hcur hg kn rfl).b 91 vz _ _ (HJ.2.1.keep hb),(ze HJ.2.2.1 hb HJ.2.2.1.size).grown hg (ud HJ.2.2.2 hb.size) (fun k e=>by cases e;exact hbg),vj72⟩);clear kn hg hs hbx kd hset hcur hsz hno hbg hF r21 hb HJ HCo HRu HR2 HRd;unfold wpOps;exact zjH
  ·obtain rfl:n=i:=jo;have hfin:=HJ.1.done HN.out;have HB:=vh HJ.2.2.1;have HFin:=vh hfin;clear hfin HJ;go_wp2_with fail;go_ret;exact⟨_,rfl,HFin.out,HB.out⟩
open Go.RowKit Go.Lib Go.Sort
section
variable {α : Type} [Inhabited α] {enc : α → Value} {w : World} {g : Nat} {e : TypeId} {cur : Array Value} {d' : Array α}
theorem zjb (hb:Blk w g e cur) (m:Nat) (os:Array Obj):Blk (sortWorld enc w g 0 m d' os) g e (putCells enc 0 d' cur):=by
 have hg:=hb.lt;have hb2:w.heap[g]? = some (.cells cur e (0,0)):=hb;show (sortWorld enc w g 0 m d' os).heap[g]? = some (.cells _ e (0,0));unfold sortWorld grow putRow mapBlock Sort.ahead;simp only;rw[Array.getElem?_append_left (by simpa using hg),Array.getElem?_modify,if_pos rfl,hb2];simp only[Option.map_some,onCells]
theorem zeO (hb:Blk w g e cur) (hno:∀(j:Nat) (x:Int),cur[j]?≠some (.int .u32 x)) (m:Nat) (os:Array Obj):KeepsN w (sortWorld enc w g 0 m d' os):=by
 have hg:=Zg (enc:=enc) (w:=w) (g:=g) (d':=d') m os;refine⟨hg.size,fun p x hp=>?_⟩;by_cases hne:p.block=g
 ·exfalso;have h1:w.heap[p.block]? = some (.cells cur e (0,0)):=by rw[hne];exact hb
  unfold World.cell? at hp;rw[h1] at hp;simp only at hp;split at hp
  ·cases hp
  ·exact hno _ _ hp
 ·exact zqu
theorem zeP:(putCells enc 0 d' cur).size=cur.size:=by simp[putCells]
theorem zgF (hd:d'.size=n) (hn:n≤cur.size):(putCells enc 0 d' cur).toList.take n=d'.toList.map enc:=by
 apply List.ext_getElem?;intro j;rw[List.getElem?_take,uz];by_cases hj:j<n
 ·rw[if_pos hj];unfold putCells;rw[Array.getElem?_toList,Array.getElem?_mapIdx,Array.getElem?_eq_getElem jo,Option.map_some,if_pos jo,Nat.sub_zero,Array.getElem?_toList,Array.getElem?_eq_getElem jo,Option.map_some];have:d'[j]! = d'[j]:=getElem!_pos d' j jo;rw[this]
 ·rw[if_neg hj,Array.getElem?_toList,Array.getElem?_eq_none jo];rfl
theorem zjc {v:Value} {j:Nat} (h:(putCells enc 0 d' cur)[j]? = some v):cur[j]? = some v∨∃i,v=enc i:=by
 unfold putCells at h;rw[Array.getElem?_mapIdx] at h;cases hc:cur[j]? with
 |none=>rw[hc] at h;cases h
 |some u=>
  rw[hc,Option.map_some] at h;injection h with h;split at h
  ·exact .inr ⟨_,h.symm⟩
  ·exact .inl (by rw[h])
end
def Zy (us:List Value):List (List Value):=us.map fun u=>[u]
theorem zau:∀us:List Value,(Zy us).flatten=us
 |[]=>rfl
 |u :: l=>by
  show [u]++(Zy l).flatten=u :: l
  rw[zau l];rfl
theorem zjd:∀ {cl:List (List Value)},(∀c∈cl,c.length=1)→∃us,cl=Zy us
 |[],_=>⟨[],rfl⟩
 |c :: l,h=>by
  obtain⟨us,rfl⟩:=zjd (cl:=l) fun x hx=>h x (uq _ hx)
  obtain⟨u,rfl⟩:=List.length_eq_one_iff.1 (h c vz)
  exact⟨u :: us,rfl⟩
theorem za3 (us:List Value):(Zy us).length=us.length:=by simp[Zy]
theorem zdQ (us:List Value):∀c∈Zy us,c.length=1:=fun c hc=>by obtain⟨u,-,rfl⟩:=List.mem_map.1 hc;rfl
theorem zje {u:Value} (h:us[i]? = some u):(Zy us)[i]? = some [u]:=by simp[Zy,h]
theorem zmi {A:Type} (f:A→Value) (l:List A):Zy (l.map f)=l.map fun a=>[f a]:=by simp[Zy]
theorem ZD {R:World→List Value→S→Prop} {v:Value} {xs:List S} (h:OwnL e 1 R w B v xs):∃us,OwnC w B e 1 v xs.length us∧All2 (R w) (Zy us) xs∧us.length=xs.length:=by
 obtain⟨cl,h1,h2,h3⟩:=h;obtain⟨us,rfl⟩:=zjd h1;rw[zau] at h2;exact⟨us,h2,h3,by rw[←za3];exact h3.len⟩
theorem zh6 {R:World→List Value→S→Prop} {v:Value} {xs:List S} (h:OwnC w B e 1 v xs.length us) (ha:All2 (R w) (Zy us) xs):OwnL e 1 R w B v xs:=
 ⟨Zy us,zdQ us,by rw[zau];exact h,ha⟩
theorem zgG {R:World→List Value→S→Prop} {T:List TypeId} {v:Value} {xs:List S} (h:OwnL e 1 R w B v xs) (h0:0<xs.length) (hT:T.contains e=false) (hR:∀w w' c x,R w c x→KD T w w'→R w' c x) (hok:∀w c x,R w c x→c.all okC=true) :
  ∃(g cap:Nat) (enc:Nat→Value),v = .slice (some ⟨g,0,none⟩) xs.length cap∧g<w.heap.size∧(∀i,okC (enc i)=true)∧Holds enc w g 0 (List.range xs.length).toArray∧
   ∀(m:Nat) (os:Array Obj) (d':Array Nat),d'.size=xs.length→w.grownBy (sortWorld enc w g 0 m d' os) (some g)∧KeepsN w (sortWorld enc w g 0 m d' os)∧(∀i,R (sortWorld enc w g 0 m d' os) [enc i] (xs[i % xs.length]'(Nat.mod_lt _ h0)))∧
    OwnL e 1 R (sortWorld enc w g 0 m d' os) B v (d'.toList.map fun i=>xs[i % xs.length]'(Nat.mod_lt _ h0)):=by
 obtain⟨us,h2,h3,hul⟩:=ZD h;have hm:∀i,i % xs.length<us.length:=fun i=>by rw[hul];exact Nat.mod_lt _ h0
 have hRu:∀i,R w [us[i % xs.length]'(hm i)] (xs[i % xs.length]'(Nat.mod_lt _ h0)):=fun i=>h3.at_ (zje (uf (hm i))) (uf (Nat.mod_lt _ h0));have hokE:∀i,okC (us[i % xs.length]'(hm i))=true:=fun i=>by
  have:=hok w _ _ (hRu i);simpa using this
 obtain⟨enc,henc⟩:∃enc:Nat→Value,enc=fun i=>us[i % xs.length]'(hm i):=⟨_,rfl⟩;have hE:∀i,enc i=us[i % xs.length]'(hm i):=fun i=>by rw[henc]
 rcases h2.own.2 with ⟨rfl,hz⟩ | ⟨g,cap,cur,rfl,hbg,hcur,hcap,hmx,hsz,htk⟩
 ·omega
 ·have hb:Blk w g e cur:=hcur;have hno:∀(j:Nat) (x:Int),cur[j]?≠some (.int .u32 x):=fun j x hx=>h2.cl g rfl j x (by rw[hb.cell];exact hx);rw[Nat.mul_one] at htk hsz;refine⟨g,cap,enc,rfl,hb.lt,fun i=>by rw[hE];exact hokE i,fun j hj=>?_,fun m os d' hd=>?_⟩
  ·have hj2:j<xs.length:=by simpa using hj
   refine⟨?_,zs7⟩;rw[Nat.zero_add,hb.cell];have h9:cur.toList[j]? = us[j]?:=by rw[←htk,List.getElem?_take,if_pos hj2]
   have h10:(List.range xs.length).toArray[j]! = j:=by simp[hj2]
   rw[h10,hE,←Array.getElem?_toList,h9,uf jo];simp only[Nat.mod_eq_of_lt hj2]
  ·have hg:=Zg (enc:=enc) (w:=w) (g:=g) (d':=d') m os;have kn:=zeO (enc:=enc) (d':=d') hb hno m os;obtain⟨W,hWe⟩:=vx (sortWorld enc w g 0 m d' os);have hbW:Blk W g e (putCells enc 0 d' cur):=by rw[hWe];exact zjb hb m os
   rw[←hWe] at hg kn ⊢;clear hWe;have kd:KD T w W:=KD.blk hb hg kn hT;have hRe:∀i,R W [enc i] (xs[i % xs.length]'(Nat.mod_lt _ h0)):=fun i=>by rw[hE];exact hR _ _ _ _ (hRu i) kd
   have hln:(d'.toList.map fun i=>xs[i % xs.length]'(Nat.mod_lt _ h0)).length=xs.length:=by rw[uy,Array.length_toList,hd]
   refine⟨hg,kn,hRe,zh6 (us:=d'.toList.map enc) ?_ ?_⟩
   ·rw[hln];refine⟨⟨by rw[uy,Array.length_toList,hd,Nat.mul_one],.inr ⟨g,cap,_,rfl,hbg,hbW,hcap,hmx,by rw[zeP,Nat.mul_one];exact hsz,by rw[Nat.mul_one,zgF hd jo]⟩⟩,?_⟩;intro g' hg' j x hx;simp only[Value.ownBlock,Option.some.injEq] at hg';subst hg';rw[hbW.cell] at hx;rcases zjc hx with h9 | ⟨i,h9⟩
    ·exact hno j x h9
    ·have:=hokE i;rw[←hE,←h9] at this;cases this
   ·rw[zmi];generalize d'.toList=l;induction l with
    |nil=>trivial
    |cons a l ih=>exact⟨hRe a,ih⟩
theorem zeQ (key:S→List Int) {xs:List S} (h0:0<xs.length) {d':Array Nat} (hp:PermIn 0 xs.length (List.range xs.length).toArray d') (hs:SortedIn (ltOf fun x y:Nat=>zH (key (xs[x % xs.length]'(Nat.mod_lt _ h0))) (key (xs[y % xs.length]'(Nat.mod_lt _ h0)))) 0 xs.length d') :
  (d'.toList.map fun i=>xs[i % xs.length]'(Nat.mod_lt _ h0)).Perm xs∧(d'.toList.map fun i=>xs[i % xs.length]'(Nat.mod_lt _ h0)).Pairwise fun x y=>zH (key x) (key y)≤0:=by
 have hsn:d'.size=xs.length:=by rw[hp.1];simp
 constructor
 ·have h3:=hp.2.2;have e1:d'.extract 0 xs.length=d':=by
   have h9:=Array.extract_size (xs:=d');simpa only[hsn] using h9
  have e2:(List.range xs.length).toArray.extract 0 xs.length=(List.range xs.length).toArray:=by
   simp
  rw[e1,e2] at h3;have h4:d'.toList.Perm (List.range xs.length):=by simpa using h3
  refine(h4.map _).trans (List.Perm.of_eq ?_);apply List.ext_getElem
  ·simp
  ·intro i h1 h2;simp only[List.getElem_map,List.getElem_range,Nat.mod_eq_of_lt h2]
 ·rw[List.pairwise_map,List.pairwise_iff_getElem];intro i j hi hj hij;have h9:=hs i j (Nat.zero_le _) hij (by rw[←hsn];simpa using hj);have e1:d'[i]! = d'.toList[i]:=by rw[getElem!_pos d' i (by simpa using hi)];simp
  have e2:d'[j]! = d'.toList[j]:=by rw[getElem!_pos d' j (by simpa using hj)];simp
  rw[e1,e2] at h9;have h10:decide (zH (key (xs[d'.toList[j] % xs.length]'(Nat.mod_lt _ h0))) (key (xs[d'.toList[i] % xs.length]'(Nat.mod_lt _ h0)))<0)=false:=h9;rw[decide_eq_false_iff_not] at h10;have h11:=Zp (key (xs[d'.toList[j] % xs.length]'(Nat.mod_lt _ h0))) (key (xs[d'.toList[i] % xs.length]'(Nat.mod_lt _ h0)));omega
def zqq {S:Type} (e:TypeId) (R:World→List Value→S→Prop) (key:S→List Int) (B:Nat) (w:World) (v:Value) (xs:List S) (r:Ending) (w':World):Prop:=
 r = .returned (.tuple #[])∧∃ys,OwnL e 1 R w' B v ys∧ys.Perm xs∧(ys.Pairwise fun x y=>zH (key x) (key y)≤0)∧w.grownBy w' v.ownBlock∧KeepsN w w'
theorem zfH {v:Value} {xs:List (List Int)} (h:OwnL 87 1 RowC w B v xs) (hn:xs.length≤5000000):Calls Tryz.prog 87 #[v,.func (.func 86) #[] #[]] w (zqq 87 RowC id B w v xs):=by
 rcases Nat.eq_zero_or_pos xs.length with h0 | h0
 ·obtain⟨cl,h1,h2,h3⟩:=id h;obtain⟨A,c,rfl⟩:=zF h2.own;have hx:xs=[]:=uo h0;subst hx;have hh:=AnyF.slices_SortFunc_none (P:=Tryz.prog) (ρ:=Tryz.sortRows_ren) {Tryz.sortRows with} A c (.func (.func 86) #[] #[]) w;change Calls Tryz.prog 87 _ _ _ at hh;refine hh.mono ?_;rintro e w' ⟨rfl,rfl⟩;exact⟨rfl,[],h,List.Perm.refl _,List.Pairwise.nil,World.grownBy.refl _ _,KeepsN.refl _⟩
 ·obtain⟨g,cap,enc,rfl,hlt,hok,hH,hW⟩:=zgG (T:=[89]) h h0 rfl (fun _ _ _ _ h kd=>h.kd kd rfl) (fun _ _ _ ⟨u,e,h⟩=>by rw[e];simpa using h.ok);have hh:=Any.slices_SortFunc (P:=Tryz.prog) (ρ:=Tryz.sortRows_ren) Tryz.sortRows enc (fun x=>YP (hok x)) (fun x y:Nat=>zH (xs[x % xs.length]'(Nat.mod_lt _ h0)) (xs[y % xs.length]'(Nat.mod_lt _ h0))) (zdb fun x:Nat=>xs[x % xs.length]'(Nat.mod_lt _ h0)) 86 #[] g 0 cap (List.range xs.length).toArray w (fun args w=>Yq vk args)
   (zfE fun m os dk hs x y=>by
    obtain⟨-,-,hr,-⟩:=hW m os dk (by simpa using hs)
    obtain⟨u,e1,hu⟩:=hr x
    obtain⟨u2,e2,hu2⟩:=hr y
    injection e1 with e1
    injection e2 with e2
    obtain⟨A1,n1,c1,e3,hnc1,hm1,hX1⟩:=hu.x
    obtain⟨A2,n2,c2,e4,hnc2,hm2,hX2⟩:=hu2.x
    rw[e1,e2,e3,e4]
    exact zeN n1 n2 c1 c2 A1 A2 _ _ _ hX1 hX2) hH hlt vj2
  simp only[List.size_toArray,List.length_range] at hh;change Calls Tryz.prog 87 _ _ _ at hh;refine hh.mono ?_;rintro e w' ⟨rfl,d',m,os,hp,hs,rfl⟩;have hsn:d'.size=xs.length:=by rw[hp.1];simp
  obtain⟨hg,kn,-,ho⟩:=hW m os d' hsn;obtain⟨q1,q2⟩:=zeQ id h0 hp hs;exact⟨rfl,_,ho,q1,q2,hg,kn⟩
theorem zgH (x y:Int) (w:World):Calls Tryz.prog 41 #[.int .i64 x,.int .i64 y] w fun e w'=>e = .returned (.int .i64 (yr x y))∧w'=w:=(zdm x y w).mono fun _ _ ⟨h1,h2⟩=>⟨h1,h2.symm⟩
def zc2:List Int→List Int→Int
 |[],[]=>0
 |[],_ :: _=> -1
 |_ :: _,[]=>1
 |x :: xs,y :: ys=>if x<y then -1 else if y<x then 1 else zc2 xs ys
theorem zaH {l:List Int} (h:k<l.length):l.drop k=zv l k :: l.drop (k+1):=by
 rw[Yn h];exact List.drop_eq_getElem_cons h
theorem zkq {xs:List Int} (h1:k<xs.length) (h2:k<ys.length):zc2 (xs.drop k) (ys.drop k)=if yr (zv xs k) (zv ys k)=0 then zc2 (xs.drop (k+1)) (ys.drop (k+1)) else yr (zv xs k) (zv ys k):=by
 rw[zaH h1,zaH h2];unfold yr;rw[zc2];by_cases ha:zv xs k<zv ys k
 ·simp[ha]
 ·by_cases hb:zv ys k<zv xs k
  ·simp[ha,hb]
  ·simp[ha,hb]
theorem zkr {xs:List Int} (h1:k<xs.length) (h2:ys.length≤k):zc2 (xs.drop k) (ys.drop k)=1:=by
 rw[zaH h1,List.drop_of_length_le h2];rfl
theorem zh7 {xs:List Int} (h1:xs.length≤k) (h2:k<ys.length):zc2 (xs.drop k) (ys.drop k) = -1:=by
 rw[zaH h2,List.drop_of_length_le h1];rfl
theorem zks {xs:List Int} (h1:xs.length≤k) (h2:ys.length≤k):zc2 (xs.drop k) (ys.drop k)=0:=by
 rw[List.drop_of_length_le h1,List.drop_of_length_le h2];rfl
theorem zfI (A B:Option Addr) (xs ys:List Int) (n m c d:Nat) (w:World) (hx:Xs w w.heap.size A n xs) (hy:Xs w w.heap.size B m ys) :
  Calls Tryz.prog 231 #[.slice A n c,.slice B m d] w fun e w'=>e = .returned (.int .i64 (zc2 xs ys))∧w'=w:=by
 have hlx:=hx.le;have hly:=hy.le;have HLX:=vh hx.len;have HLY:=vh hy.len;have HX:=vh hx;clear hx;have HY:=vh hy;clear hy;go_enter Tryz.func231,Tryz.ntmps231;go_wp2_with fail;go_loop [11] (fun i=>∃k:Nat,k≤n∧k≤m∧i = .int .i64 k∧Hid (zc2 xs ys=zc2 (xs.drop k) (ys.drop k))) (fun i=>n - (intOf i).toNat);case atStart=>exact⟨0,Nat.zero_le _,Nat.zero_le _,rfl,vh rfl⟩
 case round=>
  obtain⟨k,hk,hkm,rfl,HI⟩:=hrel;by_cases hlt:k<n
  ·obtain⟨ad,rfl,hb1,hc⟩:=HX.at_ hlt;by_cases hltm:k<m
   ·obtain⟨ad2,rfl,hb2,hc2⟩:=HY.at_ hltm;have HST:=vh (zkq (xs:=xs) (ys:=ys) (k:=k) (by have:=HLX.out;omega) (by have:=HLY.out;omega));by_cases hz:yr (zv xs k) (zv ys k)=0
    ·have HC:=vh (fun W=>zgH (zv xs k) (zv ys k) W);rw[hz] at HC;have HZ:=vh hz;clear hz;go_wp2_with (go_at_call 41;refine(HC.out _).mono ?_;rintro e w' ⟨rfl,rfl⟩);exact⟨⟨k+1,jo,jo,vj1,vh (by rw[HI,HST,if_pos HZ.out])⟩,ziD⟩
    ·have HC:=vh (fun W=>zgH (zv xs k) (zv ys k) W);have HZ:=vh hz;generalize hq:yr (zv xs k) (zv ys k)=q at *;have tq:(q != 0)=true:=by simpa using hz
     clear hz hq;go_wp2_with (go_at_call 41;refine(HC.out _).mono ?_;rintro e w' ⟨rfl,rfl⟩);go_ret;exact⟨zbR (by rw[HI,HST,if_neg HZ.out]),rfl⟩
   ·have e:=zkr (xs:=xs) (ys:=ys) (k:=k) (by have:=HLX.out;omega) (by have:=HLY.out;omega);have HE:=vh e;clear e;exact znW
  ·by_cases hltm:n<m
   ·have HE:=vh (zh7 (xs:=xs) (ys:=ys) (k:=k) (by have:=HLX.out;omega) (by have:=HLY.out;omega));exact znW
   ·have HE:=vh (zks (xs:=xs) (ys:=ys) (k:=k) (by have:=HLX.out;omega) (by have:=HLY.out;omega));exact znW
theorem zh8 (A B:Option Addr) (xs ys:List Int) (n m c d:Nat) (w:World) (hx:Xs w w.heap.size A n xs) (hy:Xs w w.heap.size B m ys) :
  Calls Tryz.prog 233 #[.slice A n c,.slice B m d] w fun e w'=>e = .returned (.bool (xs == ys))∧Below w.heap.size w w':=by
 have hle:=hx.le;have hle2:=hy.le;have HX:=vh hx;clear hx;have HY:=vh hy;clear hy;by_cases hnm:n=m
 ·have hbq:((n:Int) != (m:Int))=false:=by simp[hnm]
  have hm:=vh hnm;clear hnm;go_enter Tryz.func233,Tryz.ntmps233;go_wp2_with fail;go_loopw [5,13] (fun _ i wr=>∃k:Nat,k≤n∧i = .int .i64 k∧xs.take k=ys.take k∧Below w.heap.size w wr) (fun _ i _=>n - (intOf i).toNat);case atStart=>exact⟨0,Nat.zero_le _,rfl,rfl,ue _ _⟩
  case round=>
   obtain⟨k,hk,rfl,ha,hbl⟩:=hrel;have HA:=vh ha;clear ha;by_cases hlt:k<n
   ·have hlt2:k<m:=by have:=hm.out;omega
    obtain⟨ad,rfl,hb1,hcell⟩:=(HX.below hbl).at_ hlt;obtain⟨ad2,rfl,hb2,hcell2⟩:=(HY.below hbl).at_ hlt2;go_wp2_with fail;go_quiet (fail);go_wp2_with fail
    ·go_ret;have ht:((zv xs k:Int) != (zv ys k:Int))=true:=by assumption
     refine⟨zdk ?_,YI hbl _⟩;have:xs≠ys:=by
      rintro rfl;simp at ht
     simp[this]
    ·have ht:((zv xs k:Int) != (zv ys k:Int))=false:=by assumption
     refine⟨⟨k+1,jo,vj1,?_,YI hbl _⟩,ziD⟩;have h1:=HX.len;have h2:=HY.len;rw[List.take_succ_eq_append_getElem jo,List.take_succ_eq_append_getElem jo,HA,←Yn jo,←Yn jo];have:zv xs k=zv ys k:=by
      simp at ht;omega
     rw[this]
   ·go_wp2_with fail;go_ret;refine⟨zdk ?_,hbl⟩;have h1:=HX.len;have h2:=HY.len;have h3:=HA.out;have h4:=hm.out;rw[um jo,um jo] at h3;simp[h3]
 ·have hbq:((n:Int) != (m:Int))=true:=by simp;omega
  go_enter Tryz.func233,Tryz.ntmps233;go_wp2_with fail;go_ret;refine⟨zdk ?_,ue _ _⟩;have h1:=HX.len;have h2:=HY.len;have:xs≠ys:=by
   rintro rfl;omega
  simp[this]
theorem zgI:∀xs ys:List Int,zc2 xs ys=zH xs ys
 |[],[]=>rfl
 |[],_ :: _=>rfl
 |_ :: _,[]=>rfl
 |x :: xs,y :: ys=>by
  rw[zc2,zH,zgI xs ys]
  unfold yr
  by_cases h:x=y
  ·subst h;simp
  ·rw[if_neg h]
   by_cases h1:x<y
   ·simp[h1]
   ·have:y<x:=jo
    simp[h1,this]
end Go.Proofs.YtoecdobelolkeaaGreatDoor
