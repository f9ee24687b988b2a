/- Part of TopSemirings. -/
import Derived.Test.YtoecdobelolkeaaGreatDoorProg
import Derived.Test.YtoecdobelolkeaaGreatDoorK6
set_option linter.unusedVariables false
set_option linter.unusedSimpArgs false
set_option maxRecDepth 100000
set_option maxHeartbeats 8000000
namespace Go.Proofs.YtoecdobelolkeaaGreatDoor
abbrev FN.ins:Nat:=0
abbrev FN.vq1:Nat:=104
theorem FN.vq3:type_of% @Tryz.results107:=@Tryz.results107
abbrev FN.vq4:Nat:=107
abbrev FN.vq5:Nat:=146
abbrev FN.vq7:Nat:=32
abbrev FN.vq8:Nat:=1
theorem FN.vq9:type_of% @Tryz.results112:=@Tryz.results112
theorem FN.vq10:type_of% @Tryz.underlying104:=@Tryz.underlying104
abbrev FN.vq13:=Nat
theorem FN.vq24:type_of% @Tryz.results65:=@Tryz.results65
abbrev FN.vq25:Nat:=65
theorem FN.vq32:type_of% @Tryz.results106:=@Tryz.results106
abbrev FN.vq33:Nat:=106
abbrev FN.vq34:Nat:=53
abbrev FN.vq39:Nat:=64
theorem FN.vq44:type_of% @Tryz.results36:=@Tryz.results36
abbrev FN.vq47:Nat:=36
theorem FN.vq49:type_of% @Tryz.results31:=@Tryz.results31
abbrev FN.vq50:Nat:=31
abbrev FN.vq52:Nat:=12
abbrev FN.vq53:Nat:=11
abbrev FN.vq55:Nat:=10
abbrev FN.vq56:Nat:=63
abbrev FN.vq57:Nat:=101
abbrev FN.vq59:Nat:=61
abbrev FN.vq61:Nat:=105
abbrev FN.vq62:Nat:=102
theorem FN.vq63:type_of% @Tryz.underlying53:=@Tryz.underlying53
abbrev FN.vq64:Nat:=143
abbrev FN.vq65:Value:= .iface 39 (.agg #[])
abbrev FC.ins:Nat:=1
abbrev FC.vq1:Nat:=119
theorem FC.vq3:type_of% @Tryz.results117:=@Tryz.results117
abbrev FC.vq4:Nat:=117
abbrev FC.vq5:Nat:=148
abbrev FC.vq7:Nat:=34
abbrev FC.vq8:Nat:=2
theorem FC.vq9:type_of% @Tryz.results118:=@Tryz.results118
theorem FC.vq10:type_of% @Tryz.underlying119:=@Tryz.underlying119
abbrev FC.vq13:=(Option Nat)
theorem FC.vq24:type_of% @Tryz.results70:=@Tryz.results70
abbrev FC.vq25:Nat:=70
theorem FC.vq32:type_of% @Tryz.results116:=@Tryz.results116
abbrev FC.vq33:Nat:=116
abbrev FC.vq34:Nat:=58
abbrev FC.vq39:Nat:=69
theorem FC.vq44:type_of% @Tryz.results37:=@Tryz.results37
abbrev FC.vq47:Nat:=37
theorem FC.vq49:type_of% @Tryz.results38:=@Tryz.results38
abbrev FC.vq50:Nat:=38
abbrev FC.vq52:Nat:=7
abbrev FC.vq53:Nat:=14
abbrev FC.vq55:Nat:=13
abbrev FC.vq56:Nat:=68
abbrev FC.vq57:Nat:=113
abbrev FC.vq59:Nat:=66
abbrev FC.vq61:Nat:=115
abbrev FC.vq62:Nat:=114
theorem FC.vq63:type_of% @Tryz.underlying58:=@Tryz.underlying58
abbrev FC.vq64:Nat:=147
abbrev FC.vq65:Value:= .iface 40 (.agg #[])
abbrev FP.ins:Nat:=2
abbrev FP.vq1:Nat:=128
theorem FP.vq3:type_of% @Tryz.results123:=@Tryz.results123
abbrev FP.vq4:Nat:=123
abbrev FP.vq5:Nat:=150
abbrev FP.vq7:Nat:=61
abbrev FP.vq8:Nat:=3
theorem FP.vq9:type_of% @Tryz.results124:=@Tryz.results124
theorem FP.vq10:type_of% @Tryz.underlying128:=@Tryz.underlying128
abbrev FP.vq13:=(Nat×Option Nat)
theorem FP.vq24:type_of% @Tryz.results75:=@Tryz.results75
abbrev FP.vq25:Nat:=75
theorem FP.vq32:type_of% @Tryz.results122:=@Tryz.results122
abbrev FP.vq33:Nat:=122
abbrev FP.vq34:Nat:=64
abbrev FP.vq39:Nat:=74
theorem FP.vq44:type_of% @Tryz.results39:=@Tryz.results39
abbrev FP.vq47:Nat:=39
theorem FP.vq49:type_of% @Tryz.results40:=@Tryz.results40
abbrev FP.vq50:Nat:=40
abbrev FP.vq52:Nat:=17
abbrev FP.vq53:Nat:=16
abbrev FP.vq55:Nat:=15
abbrev FP.vq56:Nat:=73
abbrev FP.vq57:Nat:=119
abbrev FP.vq59:Nat:=71
abbrev FP.vq61:Nat:=121
abbrev FP.vq62:Nat:=120
theorem FP.vq63:type_of% @Tryz.underlying64:=@Tryz.underlying64
abbrev FP.vq64:Nat:=149
abbrev FP.vq65:Value:= .iface 47 (.agg #[.iface 39 (.agg #[]),.iface 40 (.agg #[])])
abbrev FW.ins:Nat:=3
abbrev FW.vq1:Nat:=140
theorem FW.vq3:type_of% @Tryz.results129:=@Tryz.results129
abbrev FW.vq4:Nat:=129
abbrev FW.vq5:Nat:=152
abbrev FW.vq7:Nat:=72
abbrev FW.vq8:Nat:=1
theorem FW.vq9:type_of% @Tryz.results130:=@Tryz.results130
theorem FW.vq10:type_of% @Tryz.underlying140:=@Tryz.underlying140
abbrev FW.vq13:=(WS×Nat)
theorem FW.vq24:type_of% @Tryz.results82:=@Tryz.results82
abbrev FW.vq25:Nat:=82
theorem FW.vq32:type_of% @Tryz.results128:=@Tryz.results128
abbrev FW.vq33:Nat:=128
abbrev FW.vq34:Nat:=75
abbrev FW.vq39:Nat:=81
theorem FW.vq44:type_of% @Tryz.results43:=@Tryz.results43
abbrev FW.vq47:Nat:=43
theorem FW.vq49:type_of% @Tryz.results44:=@Tryz.results44
abbrev FW.vq50:Nat:=44
abbrev FW.vq52:Nat:=23
abbrev FW.vq53:Nat:=22
abbrev FW.vq55:Nat:=21
abbrev FW.vq56:Nat:=80
abbrev FW.vq57:Nat:=125
abbrev FW.vq59:Nat:=78
abbrev FW.vq61:Nat:=127
abbrev FW.vq62:Nat:=126
theorem FW.vq63:type_of% @Tryz.underlying75:=@Tryz.underlying75
abbrev FW.vq64:Nat:=151
abbrev FW.vq65:Value:= .iface 41 (.agg #[])
open Go.RowKit
theorem zkd {vs:List Nat} {i:Nat} (h:i<vs.length):zr (vs.take (i+1))=zr (vs.take i) ||| 2 ^ nth vs i:=by
 have e:vs.take (i+1)=vs.take i++[nth vs i]:=by rw[List.take_add_one];simp[nth,List.getD,h]
 unfold zr;rw[e,List.foldl_append];rfl
theorem zox {P:Prop} (h:P:=by
 obtain⟨A,m,mc,rfl,hmc,hm,hX⟩:=ha.x;have hm6:m≤1000000:=by obtain⟨_,_,_,e,_,_,h3,_⟩:=ha;cases e;exact h3.2
 have HX:=vh hX;have HV:=vh hv;have HM:=vh hm;clear ha hX hv hm hmc;first | go_enter Tryz.func102,Tryz.ntmps102 | go_enter Tryz.func114,Tryz.ntmps114 | go_enter Tryz.func120,Tryz.ntmps120 | go_enter Tryz.func126,Tryz.ntmps126
 go_upto_region 2 with (fail);have hbw:=al w (.cells #[.slice A m mc,b,c] vq1);have HF:=vh (Blk.new w vq1 #[.slice A m mc,b,c]);have HB:=vh hbw;clear hbw;generalize w.alloc (.cells #[.slice A m mc,b,c] vq1)=w1 at *;obtain⟨g1,hg1⟩:=vx (w.heap.size);rw[←hg1] at HF ⊢;have HGg1:=vh (show w.heap.size≤g1 from by omega);clear hg1;have c0:=Blk.at0 HF.out (ue _ _);go_wp2_with fail;go_loopg [9,3] m (fun g iv ov wr=>∃(i:Nat),iv = .int .i64 i∧ov = .int .u32 ((zr (vs.take i):Nat):Int)∧i+g=m∧w1=wr);case atStart=>exact⟨0,rfl,rfl,jo,rfl⟩
 case round=>
  obtain⟨i,rfl,rfl,him,rfl⟩:=hrel;by_cases hi:i<m
  ·have i1:((i:Int)<(m:Int)):=jo;obtain⟨ad,hA,-,hc⟩:=(HX.below HB.out).at_ hi;subst hA;rw[yL zew] at hc;have hv32:nth vs i<32:=HV.out _ (yD zew);have hbd:zr (vs.take i)<4294967296:=ZB (n:=32) fun v hv=>HV.out v (List.mem_of_mem_take hv);have hst:zr (vs.take (i+1))=zr (vs.take i) ||| 2 ^ nth vs i:=zkd zew;obtain⟨v,hv⟩:=vx (nth vs i);rw[←hv] at hc hv32 hst;clear hv;obtain⟨q,hq⟩:=vx (zr (vs.take i));rw[←hq] at hbd hst;rw[←hq];have HQ:=vh hst;have v0:¬((v:Int)<0):=jo;have eor:bits .or .u32 (q:Int) ((2:Int) ^ v % 4294967296)=((q ||| 2 ^ v:Nat):Int):=by rw[zc3 v hv32,ziG _ _ hbd (zah hv32)]
   clear hst hq;go_wp2_with fail;go_roundg (gk - 1);case measure=>omega
   case rel=>exact⟨i+1,vj1,by rw[HQ],jo,rfl⟩
  ·obtain rfl:m=i:=jo;rw[um (by rw[←HM];exact ug _)];go_wp2_with fail;go_ret;exact⟨rfl,HB.out⟩):P:=h
def zi0 (vq62:Nat):Prop:=∀(a b c:Value) (vs:List Nat) (w:World) (ha:IntsV w a vs) (hv:∀v∈vs,v<32),Calls Tryz.prog vq62 #[.agg #[a,b,c]] w fun e w'=>e = .returned (.int .u32 ((zr vs:Nat):Int))∧Below w.heap.size w w'
theorem FN.vq2:zi0 102:=by
 intro a b c vs w ha hv;exact zox
theorem FC.vq2:zi0 114:=by
 intro a b c vs w ha hv;exact zox
theorem FP.vq2:zi0 120:=by
 intro a b c vs w ha hv;exact zox
theorem FW.vq2:zi0 126:=by
 intro a b c vs w ha hv;exact zox
structure BelowD (B:Nat) (w w':World):Prop where
 b:Below B w w'
 dr:w.drawn≤w'.drawn
theorem BelowD.refl (B:Nat) (w:World):BelowD B w w:=⟨ue _ _,ug _⟩
theorem BelowD.trans {B:Nat} {a b c:World} (h:BelowD B a b) (k:BelowD B b c):BelowD B a c:=⟨h.b.trans k.b,ud h.dr k.dr⟩
theorem BelowD.mono {B B':Nat} {w w':World} (h:BelowD B w w') (hB:B'≤B):BelowD B' w w':=⟨h.b.mono hB,h.dr⟩
theorem BelowD.size {B:Nat} {w w':World} (h:BelowD B w w'):w.heap.size≤w'.heap.size:=h.b.size
theorem BelowD.drew {B:Nat} {w w':World} (h:BelowD B w w'):BelowD B w {w' with drawn:=w'.drawn+1}:=⟨Below.drew h.b,Nat.le_succ_of_le h.dr⟩
theorem BelowD.cell {B:Nat} {w w':World} (h:BelowD B w w') {a:Addr} (hk:a.block<B):w'.cell? a=w.cell? a:=h.b.cell hk
theorem BelowD.grown {w w':World} (h:BelowD w.heap.size w w'):∃q os,w'=Go.Sort.grow (w.drewN q) os:=by
 obtain⟨p,hp⟩:=regrown_of_below h.b;have hd:w'.drawn=p.d:=by rw[hp];rfl
 refine⟨p.d - w.drawn,p.os,?_⟩;rw[hp];have:=h.dr;unfold redrawn World.drewN;rw[show w.drawn+(p.d - w.drawn)=p.d by omega]
theorem zaF {w w1 w2:World} {B:Nat} (h:BelowD B w w1) (k:BelowD w1.heap.size w1 w2) (hB:B≤w1.heap.size):BelowD B w w2:=h.trans (k.mono hB)
namespace D
def Ob (P:Program) (ops:Array Oper) (w0:World) (env:List (Tmp×Value)) (R:List (Value→World→Prop)) (FL:List Bool) (o:Oper) (ks:List (Nat×Tmp)) (Ri:Value→World→Prop) (f:Bool):Prop:=
 ∀(a:Act) (w:World),BelowD w0.heap.size w0 w→zY a env→Za (ziJ FL a ks) R a w ks→
  match f with
  |false=>if Region.wanted o (yielded ops a.tmps)=true then zp P o a.eval w (fun v w'=>Ri v w'∧BelowD w.heap.size w w') else Ri undef w
  |true=>Region.wanted o (yielded ops a.tmps)=true∧zp P o a.eval w (fun v w'=>(Ri v w'∧BelowD w.heap.size w w')∧ziK v w w')
def Obs (P:Program) (ops:Array Oper) (w0:World) (env:List (Tmp×Value)) (R:List (Value→World→Prop)) (FL:List Bool):List Oper→List (List (Nat×Tmp))→List (Value→World→Prop)→List Bool→Prop
 |o :: l,ks :: r,Ri :: q,f :: fl=>Ob P ops w0 env R FL o ks Ri f∧Obs P ops w0 env R FL l r q fl
 |_,[],[],[]=>True
 |_,_,_,_=>False
theorem obs_get {P:Program} {ops:Array Oper} {w0:World} {env:List (Tmp×Value)} {R:List (Value→World→Prop)} {FL:List Bool}:∀(l:List Oper) (kss:List (List (Nat×Tmp))) (q:List (Value→World→Prop)) (fl:List Bool),Obs P ops w0 env R FL l kss q fl→
  ∀i o ks,l[i]? = some o→kss[i]? = some ks→Ob P ops w0 env R FL o ks (q.getD i (fun _ _=>True)) (fl.getD i false)
 |o :: l,ks :: r,Ri :: q,f :: fl,⟨h1,h2⟩,0,o',ks',ho,hk=>by simp at ho hk;subst ho;subst hk;exact h1
 |o :: l,ks :: r,Ri :: q,f :: fl,⟨h1,h2⟩,i+1,o',ks',ho,hk=>by simpa using obs_get l r q fl h2 i o' ks' vj9 (by simpa using hk)
 |_,[],_,_,_,i,o',ks',_,hk=>by simp at hk
 |[],_ :: _,_,_,h,_,_,_,ho,_=>by simp at ho
 |_ :: _,_ :: _,[],_,h,_,_,_,_,_=>by simp[Obs] at h
 |_ :: _,_ :: _,_ :: _,[],h,_,_,_,_,_=>by simp[Obs] at h
section
variable {P : Program} {ops : Array Oper} {w0 : World} {env : List (Tmp × Value)} {R : List (Value → World → Prop)} {m : Nat}
def LOb (P:Program) (ops:Array Oper) (w0:World) (env:List (Tmp×Value)) (R:List (Value→World→Prop)) (S:World→Prop) (o:Oper) (ks:List (Nat×Tmp)) (Ri:Value→World→Prop):Prop:=
 ∀(a:Act) (w:World),BelowD w0.heap.size w0 w→zY a env→YN R a w ks→Region.wanted o (yielded ops a.tmps)=true∧∃v,(∀w',S w'→(execOp a.eval o).run P w' = .ok (.value v) w')∧Ri v w
def Stab:List (Value→World→Prop)→Prop
 |[]=>True
 |Ri :: q=>(∀v w w',Ri v w→BelowD w.heap.size w w'→Ri v w')∧Stab q
theorem stab_get:∀ {R:List (Value→World→Prop)},Stab R→∀i v w w',zL R i v w→BelowD w.heap.size w w'→zL R i v w'
 |[],_,i,v,w,w',_,_=>by simp[zL]
 |Ri :: q,⟨h1,h2⟩,0,v,w,w',h,hb=>by simpa [zL] using h1 v w w' zlb hb
 |Ri :: q,⟨h1,h2⟩,i+1,v,w,w',h,hb=>by
  have:=stab_get h2 i v w w' zlb hb
  simpa [zL] using this
theorem join_go {l:List Oper} {Q:Exit→Act→World→Prop} {a0:Act} {sz:Nat} {kss:List (List (Nat×Tmp))} {lq:List Nat} {S:World→Prop} (hS:∀w',BelowD w0.heap.size w0 w'→S w') (hB:ZN l.toArray m sz kss (env.map (·.1)) lq=true) (hsz:a0.tmps.size=sz) (henv:zY a0 env)
  (fl:List Bool) (hlq:∀i∈lq,fl.getD i false=false∧(∀o ks,l[i]? = some o→kss[i]? = some ks→LOb P l.toArray w0 env R S o ks (zL R i))∧∀d v c a w,Q (.panic c) (Act.put a d v) w→Q (.panic c) a w) (hst:Stab R) (hob:Obs P l.toArray w0 env R fl l kss R fl)
  (fin:∀vs w,BelowD w0.heap.size w0 w→(∀i,i<m→zL R i (vs i) w)→(∀i j,i<m→j<m→i≠j→fl.getD i false=true→fl.getD j false=true→YY (vs i)≠YY (vs j))→wpAnyH P .any l.toArray Q S (l.length - m) (yF l.length m) (yI vs 0 (l.take m) a0) w) :
  ∀(fuel:Nat) (listed:Array Bool) (vs:Nat→Value) (w:World),listed.size=l.length→(∀j,m≤j→listed.getD j false=false)→(∀k,listed.getD k false=true→∀i∈Yz l.toArray k,listed.getD i false=true)→fuel=l.length - m+left (fun i=>listed.getD i false) m→BelowD w0.heap.size w0 w→
   (∀i,i<m→listed.getD i false=true→zL R i (vs i) w)→(∀i,i<m→listed.getD i false=true→fl.getD i false=true→∃g,YY (vs i)=some g∧g<w.heap.size)→(∀i j,i<m→j<m→i≠j→listed.getD i false=true→listed.getD j false=true→fl.getD i false=true→fl.getD j false=true→YY (vs i)≠YY (vs j))→wpAnyH P .any l.toArray Q S fuel listed (yC l.toArray a0 vs (fun i=>listed.getD i false) m) w:=by
 simp only[ZN,Bool.and_eq_true,decide_eq_true_eq,List.all_eq_true,ux,List.size_toArray] at hB;obtain⟨⟨⟨⟨⟨⟨⟨hm,hns⟩,hts⟩,hdis⟩,hdep⟩,hkss⟩,hrest⟩,hfree⟩:=hB;have hkss:(List.range m).map (zJ l.toArray m)=kss:=by simpa using hkss
 have hdist:∀i j,i<m→j<m→j≠i→zX l.toArray i=none∨zX l.toArray i≠zX l.toArray j:=by
  exact zpQ
 intro fuel;induction fuel with
 |zero=>
  exact vt9
 |succ fuel ih=>
  intro listed vs w hls hj hcl hf hb hR hP hN;by_cases h0:left (fun i=>listed.getD i false) m=0
  ·exact vt11
  ·obtain⟨q,hq,hql,hqb⟩:=zbV m h0;have hqget:l.toArray[q]? = some l[q]:=by simp[show q<l.length by omega]
   have hqr:q∈Region.ready .any l.toArray listed:=by
    exact zsH
   have step:∀i o,i<m→i<listed.size→listed.getD i false=false→l.toArray[i]? = some o→(∀e∈o.after,Region.binds .any e=true→listed.getD e.on false=true)→
     (zY (yC l.toArray a0 vs (fun i=>listed.getD i false) m) env∧Za (ziJ fl (yC l.toArray a0 vs (fun i=>listed.getD i false) m) (zJ l.toArray m i)) R (yC l.toArray a0 vs (fun i=>listed.getD i false) m) w (zJ l.toArray m i))∧
     ∀v w',zL R i v w'→BelowD w.heap.size w w'→(fl.getD i false=true→ziK v w w')→wpAnyH P .any l.toArray Q S fuel (listed.setIfInBounds i true) ((yC l.toArray a0 vs (fun i=>listed.getD i false) m).put o.dst v) w':=by
    intro i o him hil hun' ho hall
    have hdo:zX l.toArray i=o.dst:=by simp only[zX,ho];rfl
    have hmem:∀k∈zJ l.toArray m i,k.1<m∧zX l.toArray k.1=some k.2∧listed.getD k.1 false=true:=by
     intro k hk
     have h1:=hdep i him
     rw[ho] at h1
     simp only[Bool.and_eq_true,List.all_eq_true] at h1
     have h2:=h1.2 k hk
     rw[Array.any_eq_true'] at h2
     obtain⟨e,he,h3⟩:=h2
     simp only[Bool.and_eq_true,beq_iff_eq] at h3
     have h4:=hall e he h3.1
     rw[h3.2] at h4
     simp only[zJ,ho,List.mem_filterMap,ux] at hk
     obtain⟨x,hx,hx2⟩:=hk
     cases hd:zX l.toArray x with
     |none=>rw[hd] at hx2;cases hx2
     |some t=>
      rw[hd] at hx2
      simp only at hx2
      split at hx2
      ·injection hx2 with hx2;subst hx2;exact⟨hx,hd,h4⟩
      ·cases hx2
    refine⟨⟨(YB (fun t ht=>zcl a0 m (fun j hj' hd=>by
      have:=hts j hj'
      rw[hd] at this
      simp only[Bool.and_eq_true,Bool.not_eq_true',←Bool.not_eq_true,List.contains_iff_mem] at this
      exact this.2 ht)) henv),(Zk (fun x hx y hy hne hfx hfy=>by
      have tvs:∀k∈zJ l.toArray m i,tv (yC l.toArray a0 vs (fun i=>listed.getD i false) m) k.2=vs k.1:=fun k hk=>by
       obtain⟨h1,h2,h3⟩:=hmem k hk
       have ht:=hts k.1 h1
       rw[h2] at ht
       simp only[Bool.and_eq_true,decide_eq_true_eq] at ht
       exact zdo (vs:=vs) a0 m h1 h2 h3 zn5 (fun j hj' hjk hd=>by
        rcases hdist k.1 j h1 hj' hjk with h | h
        ·rw[h2] at h;cases h
        ·exact h (by rw[h2,hd]))
      rw[tvs x hx,tvs y hy]
      exact hN x.1 y.1 (hmem x hx).1 (hmem y hy).1 hne (hmem x hx).2.2 (hmem y hy).2.2 hfx hfy) _ (fun k hk=>by
      obtain⟨h1,h2,h3⟩:=hmem k hk
      have ht:=hts k.1 h1
      rw[h2] at ht
      simp only[Bool.and_eq_true,decide_eq_true_eq] at ht
      rw[zdo (vs:=vs) a0 m h1 h2 h3 zn5 (fun j hj' hjk hd=>by
       rcases hdist k.1 j h1 hj' hjk with h | h
       ·rw[h2] at h;cases h
       ·exact h (by rw[h2,hd]))]
      exact hR _ h1 h3))⟩,?_⟩
    intro v w' hv hb' hfr
    have hsame:∀j,j≠i→(listed.setIfInBounds i true).getD j false=listed.getD j false:=by
     intro j hji
     simp only[Array.getD_eq_getD_getElem?];rw[Array.getElem?_setIfInBounds_ne (Ne.symm hji)]
    have h1:=ih (listed.setIfInBounds i true) (upd vs i v) w' (by simp[hls]) (fun j hj'=>by
     have:(listed.setIfInBounds i true).getD j false=listed.getD j false:=by simp only[Array.getD_eq_getD_getElem?];rw[Array.getElem?_setIfInBounds_ne jo]
     rw[this];exact hj j hj') (fun k hk=>by
      by_cases hki:k=i
      ·subst hki
       intro x hx
       have hx':=zai ho (L:=fun x=>listed.getD x false=true) hall x hx
       by_cases hxi:x=k
       ·subst hxi;rw[hun'] at hx';cases hx'
       ·rw[hsame x hxi];exact hx'
      ·intro x hx
       have hx':=hcl k (by rw[←hsame k hki];exact hk) x hx
       by_cases hxi:x=i
       ·subst hxi;rw[hun'] at hx';cases hx'
       ·rw[hsame x hxi];exact hx') (by rw[Zb _ _ hil];have:=zbU (L:=fun i=>listed.getD i false) m him hun';omega) (zaF hb hb' hb.size) (fun j hj' hjl=>by
      by_cases hji:j=i
      ·subst hji;rw[yT];exact hv
      ·rw[yU _ _ hji]
       refine stab_get hst j _ w w' (hR j hj' ?_) hb'
       have:(listed.setIfInBounds i true).getD j false=listed.getD j false:=by simp only[Array.getD_eq_getD_getElem?];rw[Array.getElem?_setIfInBounds_ne (Ne.symm hji)]
       rw[←this];exact hjl)
     (fun j hj' hjl hjf=>by
      by_cases hji:j=i
      ·subst hji;rw[yT];obtain⟨g,h1,_,h3⟩:=hfr hjf;exact⟨g,h1,h3⟩
      ·rw[yU _ _ hji]
       obtain⟨g,h1,h2⟩:=hP j hj' zlc hjf
       exact⟨g,h1,uj h2 hb'.size⟩)
     (fun j k hj' hk' hjk hjl hkl hjf hkf=>by
      by_cases hji:j=i
      ·subst hji
       rw[yT,yU _ _ (Ne.symm hjk)]
       obtain⟨g,h1,h2,_⟩:=hfr hjf
       obtain⟨g',h4,h5⟩:=hP k hk' (by rw[←hsame k (Ne.symm hjk)];exact hkl) hkf
       rw[h1,h4];intro he;injection he with he;omega
      ·by_cases hki:k=i
       ·subst hki
        rw[yT,yU _ _ hji]
        obtain⟨g,h1,h2,_⟩:=hfr hkf
        obtain⟨g',h4,h5⟩:=hP j hj' zlc hjf
        rw[h1,h4];intro he;injection he with he;omega
       ·rw[yU _ _ hji,yU _ _ hki]
        exact hN j k hj' hk' hjk zlc (by rw[←hsame k hki];exact hkl) hjf hkf)
    rw[Zb _ _ hil,zdn a0 v m him hun' (fun j hj' hji=>hdist i j him hj' hji),hdo] at h1
    exact h1
   by_cases hex:∃p,p<m∧listed.getD p false=false∧p∉lq
   ·obtain⟨p,hp,hpl,hplq⟩:=hex;refine⟨fun hnil=>(by rw[hnil] at hqr;cases hqr),fun i hi=>?_⟩;obtain⟨hun,o,ho,hall⟩:=mem_ready.1 hi;have hil:i<listed.size:=by
     exact znM
    have hun':listed.getD i false=false:=by simpa [hil] using hun
    have him:i<m:=by
     exact vt26
    obtain⟨⟨hE,hD⟩,next⟩:=step i o him hil hun' ho hall;have hOb:=obs_get l kss R fl hob i o (zJ l.toArray m i) vj9 (by rw[←hkss];simp[him]) (yC l.toArray a0 vs (fun i=>listed.getD i false) m) w hb hE hD;unfold wpOp;simp only[ho];cases hfl:fl.getD i false with
    |false=>
     rw[hfl] at hOb next
     simp only at hOb;by_cases hw:Region.wanted o (yielded l.toArray (yC l.toArray a0 vs (fun i=>listed.getD i false) m).tmps)=true
     ·rw[if_pos hw] at hOb ⊢;exact .inl (zx hOb (fun v w' ⟨h1,h2⟩=>⟨hS _ (zaF hb h2 hb.size),next v w' h1 h2 (fun h=>by cases h)⟩))
     ·rw[if_neg hw] at hOb ⊢;exact⟨hS _ hb,next _ _ hOb (BelowD.refl _ _) (fun h=>by cases h)⟩
    |true=>
     rw[hfl] at hOb next
     simp only at hOb;rw[if_pos hOb.1];exact .inl (zx hOb.2 (fun v w' ⟨⟨h1,h2⟩,h3⟩=>⟨hS _ (zaF hb h2 hb.size),next v w' h1 h2 (fun _=>h3)⟩))
   ·have hqlq:q∈lq:=Classical.byContradiction fun h=>hex ⟨q,hq,hql,h⟩;have hall:=(mem_ready.1 hqr).2;obtain⟨o,ho,hall⟩:=hall;obtain⟨⟨hE,hD⟩,next⟩:=step q o hq jo hql ho hall;obtain⟨hfl,hL,hQ⟩:=hlq q hqlq;obtain⟨hw,v,hv,hRv⟩:=hL o (zJ l.toArray m q) vj9 (by rw[←hkss];simp[hq]) _ w hb hE (Zv _ hD);refine wpAnyH_first ho (Region.noSelect_spec hns) (hQ _ _) fuel listed _ w ?_ hqr (.inl ⟨hw,hv⟩) (hS _ hb) (next v w hRv (BelowD.refl _ _) (fun h=>by rw[hfl] at h;cases h));exact vt21
theorem wp_region_join' {id:Nat} {l:List Oper} {Q:Exit→Act→World→Prop} {a0:Act} {w:World} {kss:List (List (Nat×Tmp))} (env:List (Tmp×Value)) (R:List (Value→World→Prop)) (m:Nat) (lq:List Nat) (S:World→Prop) (hS:∀w',BelowD w.heap.size w w'→S w') (hm:P.follows .mixedOrders=true) (hB:ZN l.toArray m a0.tmps.size kss (env.map (·.1)) lq=true) (henv:zY a0 env)
  (fl:List Bool) (hlq:∀i∈lq,fl.getD i false=false∧(∀o ks,l[i]? = some o→kss[i]? = some ks→LOb P l.toArray w env R S o ks (zL R i))∧∀d v c a w,Q (.panic c) (Act.put a d v) w→Q (.panic c) a w) (hst:Stab R) (hob:Obs P l.toArray w env R fl l kss R fl)
  (fin:∀vs w',BelowD w.heap.size w w'→(∀i,i<m→zL R i (vs i) w')→(∀i j,i<m→j<m→i≠j→fl.getD i false=true→fl.getD j false=true→YY (vs i)≠YY (vs j))→wpAnyH P .any l.toArray Q S (l.length - m) (yF l.length m) (yI vs 0 (l.take m) a0) w'):(Code.region id l.toArray true).wp P Q a0 w:=by
 refine wp_region_held (S:=S) hm ?_;have hml:m≤l.length:=by
  exact zsN
 have h0:∀j b,(Array.replicate l.toArray.size false).getD j b=if j<l.length then false else b:=by
  exact zsL
 have hl0:(fun i=>(Array.replicate l.toArray.size false).getD i false)=fun _=>false:=by funext j;rw[h0];split <;> rfl
 have hst0:∀m,yC l.toArray a0 (fun _=>undef) (fun _=>false) m=a0:=by
  exact zhr
 have hlf:∀m,left (fun _=>false) m=m:=by
  exact zjM
 have:=join_go (P:=P) (w0:=w) (Q:=Q) hS hB rfl henv fl hlq hst hob fin l.toArray.size (Array.replicate l.toArray.size false) (fun _=>undef) {w with drawn:=w.drawn+1} vz (fun j _=>by rw[h0];split <;> rfl) (fun k hk=>by rw[h0] at hk;split at hk <;> cases hk)
  (by rw[hl0,hlf];simp;omega) (BelowD.drew (BelowD.refl _ _)) (fun i _ h=>by rw[h0] at h;split at h <;> cases h) (fun i _ h=>by rw[h0] at h;split at h <;> cases h) (fun i _ _ _ _ h=>by rw[h0] at h;split at h <;> cases h)
 rw[hl0,hst0] at this;exact this
theorem wp_region_each {id:Nat} {l:List Oper} {Q:Exit→Act→World→Prop} {a0:Act} {w:World} {kss:List (List (Nat×Tmp))} (env:List (Tmp×Value)) (R:List (Value→World→Prop)) (hm:P.follows .mixedOrders=true) (hB:ZN l.toArray l.length a0.tmps.size kss (env.map (·.1)) []=true) (henv:zY a0 env)
  (hst:Stab R) (hob:Obs P l.toArray w env R (List.replicate R.length false) l kss R (List.replicate R.length false))
  (fin:∀vs w',BelowD w.heap.size w w'→(∀i,i<l.length→zL R i (vs i) w')→Q .normal (yI vs 0 l a0) w'):(Code.region id l.toArray true).wp P Q a0 w:=by
 exact vt16
end
end D
theorem alD (w:World) (o:Obj):BelowD w.heap.size w (w.alloc o):=⟨al w o,ug _⟩
theorem zfD {P:Program} {f:FuncId} {args:Array Value} {w:World} {v:Value} (h:Calls P f args w fun e w'=>e = .returned v∧BelowD w.heap.size w w'):Calls P f args w (fun e w'=>∃u,e = .returned u∧u=v∧BelowD w.heap.size w w'):=
 h.mono fun _ _ ⟨he,hb⟩=>⟨v,he,rfl,hb⟩
section
variable {o : Oper} {a : Act} {w : World} {t : Tmp}
theorem zgu {ad:Addr} {n c k:Nat} {y:Operand} (hk:k<n) (ho:o.op = .indexAddr 87 (.tmp t) y) (h:tv a t = .slice (some ad) n c) (h2:a.eval y = .int .i64 (k:Int)):zp Tryz.prog o a.eval w (fun v w'=>v = .pointer (some (ad.add (k*3)))∧BelowD w.heap.size w w'):=by
 refine zo (.pointer (some (ad.add (k*3)))) ?_ ⟨rfl,BelowD.refl _ _⟩;exact vt84
theorem zgv {B n k:Nat} {ad:Addr} {xs:List Int} (ho:o.op = .load 89 (.tmp t)) (hx:tv a t = .pointer (some (ad.add (k*3)))) (h:RwX w B (some ad) n xs) (hk:k<n):zp Tryz.prog o a.eval w (fun v w'=>v=VA (zv xs k)∧BelowD w.heap.size w w'):=by
 obtain⟨ad',e,-,h0,h1,h2⟩:=h.at_ hk;cases e;have hl:=zbY w (ad.add (k*3)) _ _ _ h0 (by rw[Addr.add_add];exact h1) (by rw[Addr.add_add];exact h2);refine zo (VA (zv xs k)) ?_ ⟨rfl,BelowD.refl _ _⟩;exact vt70
end
section
variable {P : Program} {o : Oper} {a : Act} {w : World} {t : Tmp} {T e : TypeId}
theorem zbG {p:Addr} {v:Value} (ho:o.op = .load T (.tmp t)) (hu:zlx P T=some false) (hx:tv a t = .pointer (some p)) (hc:w.cell? p=some v):zp P o a.eval w (fun z w'=>z=v∧BelowD w.heap.size w w'):=by
 refine zo v ?_ ⟨rfl,BelowD.refl _ _⟩;exact vt46
theorem zdG {ad:Addr} {n c k s:Nat} {y:Operand} (ho:o.op = .indexAddr T (.tmp t) y) (hu:zbn P T e s=true) (hk:k<n) (h:tv a t = .slice (some ad) n c) (h2:a.eval y = .int .i64 (k:Int)):zp P o a.eval w (fun v w'=>v = .pointer (some (ad.add (k*s)))∧BelowD w.heap.size w w'):=by
 obtain⟨hu,i,hi,hs⟩:=yP hu;refine zo (.pointer (some (ad.add (k*s)))) ?_ ⟨rfl,BelowD.refl _ _⟩;exact vt38
theorem zhT {p:Addr} {k off:Nat} (ho:o.op = .fieldAddr T (.tmp t) k) (hf:zfo P T k off=true) (h:tv a t = .pointer (some p)):zp P o a.eval w (fun v w'=>v = .pointer (some (p.add off))∧BelowD w.heap.size w w'):=by
 unfold zfo at hf;split at hf
 ·rename_i fs hfs;split at hf
  ·rename_i f hf0;rw[Bool.and_eq_true] at hf;obtain⟨h1,h2⟩:=hf;split at h2
   ·rename_i i hi;have h3:i.size≠0:=by simpa using h2
    have h4:f.offset=off:=by simpa using h1
    refine zo (.pointer (some (p.add off))) ?_ ⟨rfl,BelowD.refl _ _⟩;exact vt54
   ·cases h2
  ·cases hf
 ·cases hf
theorem zhU {g k off:Nat} (ho:o.op = .fieldAddr T (.tmp t) k) (hf:zfo P T k off=true) (h:tv a t = .pointer (some ⟨g,0,none⟩)):zp P o a.eval w (fun v w'=>v = .pointer (some ⟨g,off,none⟩)∧BelowD w.heap.size w w'):=by
 have:=zhT (w:=w) ho hf h;rwa [Addr.add_mid,Nat.zero_add] at this
end
theorem QB.vr23:type_of% @zaF:=@zaF
theorem QB.vr24:type_of% @alD:=@alD
abbrev QB.ins8:Nat:=1
theorem QB.vcompareD (x y:Int) (w:World):Calls Tryz.prog 138 #[VA x,VA y] w fun e w'=>e = .returned (.int .i64 (yr x y))∧BelowD w.heap.size w w':=by
 exact vn8
theorem QB.vr17:type_of% @zgu:=@zgu
theorem QB.vr18:type_of% @zfD:=@zfD
theorem QB.vr19:type_of% @QB.vcompareD:=@QB.vcompareD
theorem QB.vr20:type_of% @zaF:=@zaF
abbrev QB.ins6:Nat:=1
theorem QB.rcompareByD (n m c d:Nat) (A B:Option Addr) (xs ys:List Int) (w:World) (hA:RwX w w.heap.size A n xs) (hB:RwX w w.heap.size B m ys):Calls Tryz.prog 133 #[.slice A n c,.slice B m d,.slice none 0 0] w fun e w'=>e = .returned (.int .i64 (zH xs ys))∧BelowD w.heap.size w w':=by
 exact vn6
theorem zeN (n m c d:Nat) (A B:Option Addr) (xs ys:List Int) (w:World) (hA:RwX w w.heap.size A n xs) (hB:RwX w w.heap.size B m ys):Calls Tryz.prog 86 #[.slice A n c,.slice B m d] w fun e w'=>e = .returned (.int .i64 (zH xs ys))∧BelowD w.heap.size w w':=by
 have HA:=vh hA;have HB:=vh hB;clear hA hB;go_enter Tryz.func86,Tryz.ntmps86;go_wp2_with fail;refine(QB.rcompareByD n m c d A B xs ys _ HA.out HB.out).mono ?_;exact znG
end Go.Proofs.YtoecdobelolkeaaGreatDoor
namespace Go.Proofs
open Go.Shelf
def Tryz.sortRows_ren:Go.Shelf.Ren:=⟨fun | 6=>87 | 15=>135 | 14=>134 | 28=>161 | 29=>162 | 20=>153 | 21=>154 | 22=>155 | 23=>156 | 24=>157 | 25=>158 | 26=>159 | 27=>160 | 46=>168 | 47=>169 | 48=>170 | 49=>171 | 50=>172 | 57=>184 | n=>n,fun | 22=>84 | 24=>87 | 25=>195 | 3=>3 | 39=>108 | 0=>0 | 53=>107 | 55=>36 | 4=>4 | 46=>275 | 45=>274 | 50=>264 | 5=>5 | 9=>9 | 66=>286 | 70=>290 | 76=>298 | 77=>299 | n=>n,fun | n=>n⟩
theorem Tryz.sortRows:Go.Proofs.SlLaysF.n6 Tryz.prog Tryz.sortRows_ren:={
 mixed:=by kernel_rfl
 f6:=⟨Tryz.f87.name,jd,Tryz.func87.trans (ut some vk)⟩
 f14:=⟨Tryz.f134.name,jd,Tryz.func134.trans (ut some vk)⟩
 f15:=Tryz.func135.trans (ut some vk)
 f20:=⟨Tryz.f153.name,jd,Tryz.func153.trans (ut some vk)⟩
 f21:=⟨Tryz.f154.name,jd,Tryz.func154.trans (ut some vk)⟩
 f22:=⟨Tryz.f155.name,jd,Tryz.func155.trans (ut some vk)⟩
 f23:=⟨Tryz.f156.name,jd,Tryz.func156.trans (ut some vk)⟩
 f24:=⟨Tryz.f157.name,jd,Tryz.func157.trans (ut some vk)⟩
 f25:=⟨Tryz.f158.name,jd,Tryz.func158.trans (ut some vk)⟩
 f26:=⟨Tryz.f159.name,jd,Tryz.func159.trans (ut some vk)⟩
 f27:=⟨Tryz.f160.name,jd,Tryz.func160.trans (ut some vk)⟩
 f28:=Tryz.func161.trans (ut some vk)
 f29:=Tryz.func162.trans (ut some vk)
 f46:=⟨Tryz.f168.name,jd,Tryz.func168.trans (ut some vk)⟩
 f47:=Tryz.func169.trans (ut some vk)
 f48:=Tryz.func170.trans (ut some vk)
 f49:=⟨Tryz.f171.name,jd,Tryz.func171.trans (ut some vk)⟩
 f50:=⟨Tryz.f172.name,jd,Tryz.func172.trans (ut some vk)⟩
 f57:=⟨Tryz.f184.name,jd,Tryz.func184.trans (ut some vk)⟩
 t0:=Tryz.underlying0
 a0:=Tryz.isAgg0
 z0:=Tryz.sizeOf0
 v0:=Tryz.zeroValue0
 t3:=Tryz.underlying3
 a3:=Tryz.isAgg3
 z3:=Tryz.sizeOf3
 v3:=Tryz.zeroValue3
 t4:=Tryz.underlying4
 a4:=Tryz.isAgg4
 z4:=Tryz.sizeOf4
 v4:=Tryz.zeroValue4
 t5:=Tryz.underlying5
 a5:=Tryz.isAgg5
 z5:=Tryz.sizeOf5
 v5:=Tryz.zeroValue5
 t9:=Tryz.underlying9
 a9:=Tryz.isAgg9
 z9:=Tryz.sizeOf9
 v9:=Tryz.zeroValue9
 t22:=Tryz.underlying84
 a22:=Tryz.isAgg84
 z22:=Tryz.sizeOf84
 v22:=Tryz.zeroValue84
 a24:=Tryz.isAgg87
 z24:=Tryz.sizeOf87
 t25:=Tryz.underlying195
 a25:=Tryz.isAgg195
 z25:=Tryz.sizeOf195
 v25:=Tryz.zeroValue195
 t39:=Tryz.underlying108
 a39:=Tryz.isAgg108
 z39:=Tryz.sizeOf108
 v39:=Tryz.zeroValue108
 t45:=Tryz.underlying274
 a45:=Tryz.isAgg274
 z45:=Tryz.sizeOf274
 v45:=Tryz.zeroValue274
 t46:=Tryz.underlying275
 a46:=Tryz.isAgg275
 z46:=Tryz.sizeOf275
 v46:=Tryz.zeroValue275
 t50:=Tryz.underlying264
 a50:=Tryz.isAgg264
 z50:=Tryz.sizeOf264
 v50:=Tryz.zeroValue264
 t53:=Tryz.underlying107
 a53:=Tryz.isAgg107
 z53:=Tryz.sizeOf107
 v53:=Tryz.zeroValue107
 t55:=Tryz.underlying36
 a55:=Tryz.isAgg36
 z55:=Tryz.sizeOf36
 v55:=Tryz.zeroValue36
 t66:=Tryz.underlying286
 a66:=Tryz.isAgg286
 z66:=Tryz.sizeOf286
 v66:=Tryz.zeroValue286
 t70:=Tryz.underlying290
 a70:=Tryz.isAgg290
 z70:=Tryz.sizeOf290
 v70:=Tryz.zeroValue290
 t76:=Tryz.underlying298
 a76:=Tryz.isAgg298
 z76:=Tryz.sizeOf298
 v76:=Tryz.zeroValue298
 t77:=Tryz.underlying299
 a77:=Tryz.isAgg299
 z77:=Tryz.sizeOf299
 v77:=Tryz.zeroValue299}
def Tryz.sortInts_ren:Go.Shelf.Ren:=⟨fun | 6=>145 | 15=>135 | 14=>167 | 28=>161 | 29=>162 | 20=>176 | 21=>177 | 22=>178 | 23=>179 | 24=>180 | 25=>181 | 26=>182 | 27=>183 | 46=>187 | 47=>169 | 48=>170 | 49=>188 | 50=>189 | 57=>194 | n=>n,fun | 22=>26 | 24=>3 | 25=>134 | 3=>3 | 39=>108 | 0=>0 | 53=>107 | 55=>36 | 4=>4 | 46=>275 | 45=>274 | 50=>264 | 5=>5 | 9=>9 | 66=>286 | 70=>290 | 76=>298 | 77=>299 | n=>n,fun | n=>n⟩
theorem Tryz.sortInts:Go.Proofs.SlLaysF.n6 Tryz.prog Tryz.sortInts_ren:={
 mixed:=by kernel_rfl
 f6:=⟨Tryz.f145.name,jd,Tryz.func145.trans (ut some vk)⟩
 f14:=⟨Tryz.f167.name,jd,Tryz.func167.trans (ut some vk)⟩
 f15:=Tryz.func135.trans (ut some vk)
 f20:=⟨Tryz.f176.name,jd,Tryz.func176.trans (ut some vk)⟩
 f21:=⟨Tryz.f177.name,jd,Tryz.func177.trans (ut some vk)⟩
 f22:=⟨Tryz.f178.name,jd,Tryz.func178.trans (ut some vk)⟩
 f23:=⟨Tryz.f179.name,jd,Tryz.func179.trans (ut some vk)⟩
 f24:=⟨Tryz.f180.name,jd,Tryz.func180.trans (ut some vk)⟩
 f25:=⟨Tryz.f181.name,jd,Tryz.func181.trans (ut some vk)⟩
 f26:=⟨Tryz.f182.name,jd,Tryz.func182.trans (ut some vk)⟩
 f27:=⟨Tryz.f183.name,jd,Tryz.func183.trans (ut some vk)⟩
 f28:=Tryz.func161.trans (ut some vk)
 f29:=Tryz.func162.trans (ut some vk)
 f46:=⟨Tryz.f187.name,jd,Tryz.func187.trans (ut some vk)⟩
 f47:=Tryz.func169.trans (ut some vk)
 f48:=Tryz.func170.trans (ut some vk)
 f49:=⟨Tryz.f188.name,jd,Tryz.func188.trans (ut some vk)⟩
 f50:=⟨Tryz.f189.name,jd,Tryz.func189.trans (ut some vk)⟩
 f57:=⟨Tryz.f194.name,jd,Tryz.func194.trans (ut some vk)⟩
 t0:=Tryz.underlying0
 a0:=Tryz.isAgg0
 z0:=Tryz.sizeOf0
 v0:=Tryz.zeroValue0
 t3:=Tryz.underlying3
 a3:=Tryz.isAgg3
 z3:=Tryz.sizeOf3
 v3:=Tryz.zeroValue3
 t4:=Tryz.underlying4
 a4:=Tryz.isAgg4
 z4:=Tryz.sizeOf4
 v4:=Tryz.zeroValue4
 t5:=Tryz.underlying5
 a5:=Tryz.isAgg5
 z5:=Tryz.sizeOf5
 v5:=Tryz.zeroValue5
 t9:=Tryz.underlying9
 a9:=Tryz.isAgg9
 z9:=Tryz.sizeOf9
 v9:=Tryz.zeroValue9
 t22:=Tryz.underlying26
 a22:=Tryz.isAgg26
 z22:=Tryz.sizeOf26
 v22:=Tryz.zeroValue26
 a24:=Tryz.isAgg3
 z24:=Tryz.sizeOf3
 t25:=Tryz.underlying134
 a25:=Tryz.isAgg134
 z25:=Tryz.sizeOf134
 v25:=Tryz.zeroValue134
 t39:=Tryz.underlying108
 a39:=Tryz.isAgg108
 z39:=Tryz.sizeOf108
 v39:=Tryz.zeroValue108
 t45:=Tryz.underlying274
 a45:=Tryz.isAgg274
 z45:=Tryz.sizeOf274
 v45:=Tryz.zeroValue274
 t46:=Tryz.underlying275
 a46:=Tryz.isAgg275
 z46:=Tryz.sizeOf275
 v46:=Tryz.zeroValue275
 t50:=Tryz.underlying264
 a50:=Tryz.isAgg264
 z50:=Tryz.sizeOf264
 v50:=Tryz.zeroValue264
 t53:=Tryz.underlying107
 a53:=Tryz.isAgg107
 z53:=Tryz.sizeOf107
 v53:=Tryz.zeroValue107
 t55:=Tryz.underlying36
 a55:=Tryz.isAgg36
 z55:=Tryz.sizeOf36
 v55:=Tryz.zeroValue36
 t66:=Tryz.underlying286
 a66:=Tryz.isAgg286
 z66:=Tryz.sizeOf286
 v66:=Tryz.zeroValue286
 t70:=Tryz.underlying290
 a70:=Tryz.isAgg290
 z70:=Tryz.sizeOf290
 v70:=Tryz.zeroValue290
 t76:=Tryz.underlying298
 a76:=Tryz.isAgg298
 z76:=Tryz.sizeOf298
 v76:=Tryz.zeroValue298
 t77:=Tryz.underlying299
 a77:=Tryz.isAgg299
 z77:=Tryz.sizeOf299
 v77:=Tryz.zeroValue299}
def Tryz.pdqWhy_ren:Go.Shelf.Ren:=⟨fun | 14=>237 | 20=>247 | 21=>248 | 22=>249 | 23=>250 | 24=>251 | 25=>252 | 26=>253 | 27=>254 | 46=>258 | 47=>169 | 48=>170 | 49=>259 | 50=>260 | 15=>135 | 57=>262 | 28=>161 | 29=>162 | n=>n,fun | 24=>26 | 22=>71 | 3=>3 | 25=>334 | 4=>4 | 0=>0 | 46=>275 | 45=>274 | 50=>264 | 66=>286 | 39=>108 | 55=>36 | 70=>290 | 76=>298 | 77=>299 | 53=>107 | 5=>5 | 9=>9 | n=>n,fun | n=>n⟩
theorem Tryz.pdqWhy:Go.Proofs.SlLaysF.n14 Tryz.prog Tryz.pdqWhy_ren:={
 mixed:=by kernel_rfl
 f14:=⟨Tryz.f237.name,jd,Tryz.func237.trans (ut some vk)⟩
 f15:=Tryz.func135.trans (ut some vk)
 f20:=⟨Tryz.f247.name,jd,Tryz.func247.trans (ut some vk)⟩
 f21:=⟨Tryz.f248.name,jd,Tryz.func248.trans (ut some vk)⟩
 f22:=⟨Tryz.f249.name,jd,Tryz.func249.trans (ut some vk)⟩
 f23:=⟨Tryz.f250.name,jd,Tryz.func250.trans (ut some vk)⟩
 f24:=⟨Tryz.f251.name,jd,Tryz.func251.trans (ut some vk)⟩
 f25:=⟨Tryz.f252.name,jd,Tryz.func252.trans (ut some vk)⟩
 f26:=⟨Tryz.f253.name,jd,Tryz.func253.trans (ut some vk)⟩
 f27:=⟨Tryz.f254.name,jd,Tryz.func254.trans (ut some vk)⟩
 f28:=Tryz.func161.trans (ut some vk)
 f29:=Tryz.func162.trans (ut some vk)
 f46:=⟨Tryz.f258.name,jd,Tryz.func258.trans (ut some vk)⟩
 f47:=Tryz.func169.trans (ut some vk)
 f48:=Tryz.func170.trans (ut some vk)
 f49:=⟨Tryz.f259.name,jd,Tryz.func259.trans (ut some vk)⟩
 f50:=⟨Tryz.f260.name,jd,Tryz.func260.trans (ut some vk)⟩
 f57:=⟨Tryz.f262.name,jd,Tryz.func262.trans (ut some vk)⟩
 t0:=Tryz.underlying0
 a0:=Tryz.isAgg0
 z0:=Tryz.sizeOf0
 v0:=Tryz.zeroValue0
 t3:=Tryz.underlying3
 a3:=Tryz.isAgg3
 z3:=Tryz.sizeOf3
 v3:=Tryz.zeroValue3
 t4:=Tryz.underlying4
 a4:=Tryz.isAgg4
 z4:=Tryz.sizeOf4
 v4:=Tryz.zeroValue4
 t5:=Tryz.underlying5
 a5:=Tryz.isAgg5
 z5:=Tryz.sizeOf5
 v5:=Tryz.zeroValue5
 t9:=Tryz.underlying9
 a9:=Tryz.isAgg9
 z9:=Tryz.sizeOf9
 v9:=Tryz.zeroValue9
 t22:=Tryz.underlying71
 a22:=Tryz.isAgg71
 z22:=Tryz.sizeOf71
 v22:=Tryz.zeroValue71
 a24:=Tryz.isAgg26
 z24:=Tryz.sizeOf26
 t25:=Tryz.underlying334
 a25:=Tryz.isAgg334
 z25:=Tryz.sizeOf334
 v25:=Tryz.zeroValue334
 t39:=Tryz.underlying108
 a39:=Tryz.isAgg108
 z39:=Tryz.sizeOf108
 v39:=Tryz.zeroValue108
 t45:=Tryz.underlying274
 a45:=Tryz.isAgg274
 z45:=Tryz.sizeOf274
 v45:=Tryz.zeroValue274
 t46:=Tryz.underlying275
 a46:=Tryz.isAgg275
 z46:=Tryz.sizeOf275
 v46:=Tryz.zeroValue275
 t50:=Tryz.underlying264
 a50:=Tryz.isAgg264
 z50:=Tryz.sizeOf264
 v50:=Tryz.zeroValue264
 t53:=Tryz.underlying107
 a53:=Tryz.isAgg107
 z53:=Tryz.sizeOf107
 v53:=Tryz.zeroValue107
 t55:=Tryz.underlying36
 a55:=Tryz.isAgg36
 z55:=Tryz.sizeOf36
 v55:=Tryz.zeroValue36
 t66:=Tryz.underlying286
 a66:=Tryz.isAgg286
 z66:=Tryz.sizeOf286
 v66:=Tryz.zeroValue286
 t70:=Tryz.underlying290
 a70:=Tryz.isAgg290
 z70:=Tryz.sizeOf290
 v70:=Tryz.zeroValue290
 t76:=Tryz.underlying298
 a76:=Tryz.isAgg298
 z76:=Tryz.sizeOf298
 v76:=Tryz.zeroValue298
 t77:=Tryz.underlying299
 a77:=Tryz.isAgg299
 z77:=Tryz.sizeOf299
 v77:=Tryz.zeroValue299}
end Go.Proofs
namespace Go.Proofs.YtoecdobelolkeaaGreatDoor
open Go.RowKit Go.Lib Go.Sort
section
variable {α : Type} [Inhabited α] {enc : α → Value} {w : World} {g : Nat} {e : TypeId} {d d' : Array α}
theorem zhV {d:Array α} {j:Nat} (hj:j<d.size):(d.map enc)[j]? = some (enc d[j]!):=by
 simp[hj]
theorem zhW (hb:Blk w g e (d.map enc)):Holds enc w g 0 d:=fun j hj=>⟨by rw[hb.cell,Nat.zero_add];exact zhV hj,zs7⟩
theorem zoy (hs:d'.size=d.size):putCells enc 0 d' (d.map enc)=d'.map enc:=by
 apply Array.ext_getElem?;intro j;unfold putCells;rw[Array.getElem?_mapIdx];by_cases hj:j<d.size
 ·rw[zhV (enc:=enc) hj,zhV (enc:=enc) (d:=d') jo,Option.map_some,if_pos jo,Nat.sub_zero]
 ·rw[Array.getElem?_eq_none (by simpa using hj),Array.getElem?_eq_none vj2];rfl
theorem zlX (hb:Blk w g e (d.map enc)) (hs:d'.size=d.size) (m:Nat) (os:Array Obj):Blk (sortWorld enc w g 0 m d' os) g e (d'.map enc):=by
 have hg:=hb.lt;have hb2:w.heap[g]? = some (.cells (d.map enc) e (0,0)):=hb;show (sortWorld enc w g 0 m d' os).heap[g]? = some (.cells (d'.map enc) e (0,0));unfold sortWorld grow putRow mapBlock Sort.ahead;simp only;rw[Array.getElem?_append_left (by simpa using hg),Array.getElem?_modify,if_pos rfl,hb2];simp only[Option.map_some,onCells,zoy hs]
theorem Zg (m:Nat) (os:Array Obj):w.grownBy (sortWorld enc w g 0 m d' os) (some g):=by
 refine⟨rfl,rfl,rfl,?_,fun k hk hne=>?_⟩
 ·unfold sortWorld grow putRow mapBlock Sort.ahead;simp
 ·have hne2:g≠k:=fun e=>hne (by rw[e]);unfold sortWorld grow putRow mapBlock Sort.ahead;simp only;rw[Array.getElem?_append_left (by simpa using hk),Array.getElem?_modify,if_neg hne2]
theorem zdH (hb:Blk w g e (d.map enc)) (hok:∀x,okC (enc x)=true) (m:Nat) (os:Array Obj):KeepsN w (sortWorld enc w g 0 m d' os):=by
 have hg:=Zg (enc:=enc) (w:=w) (g:=g) (d':=d') m os;refine⟨hg.size,fun p x hp=>?_⟩;by_cases hne:p.block=g
 ·exfalso;have h1:w.heap[p.block]? = some (.cells (d.map enc) e (0,0)):=by rw[hne];exact hb
  unfold World.cell? at hp;rw[h1] at hp;simp only at hp;split at hp
  ·cases hp
  ·have h2:=Array.mem_of_getElem? hp;obtain⟨y,-,hy⟩:=Array.mem_map.1 h2;have:=hok y;rw[hy] at this;cases this
 ·exact zqu
theorem zfE {P:Program} {f:Nat} {cb:Array Value} {cf:α→α→Int} {size:Nat}
  (h:∀(m:Nat) (os:Array Obj) (dk:Array α),dk.size=size→∀x y:α,Calls P f (#[enc x,enc y]++cb) (sortWorld enc w g 0 m dk os) fun e w'=>e = .returned (.int .i64 (cf x y))∧BelowD (sortWorld enc w g 0 m dk os).heap.size (sortWorld enc w g 0 m dk os) w'):CmpLays1 P f cb enc cf g 0 size w:=
 fun m os dk hs x y=>(h m os dk hs x y).mono fun _ _ ⟨he,hb⟩=>⟨he,hb.grown⟩
end
theorem zlY (x y:Int):yr y x = - yr x y:=by
 unfold yr;by_cases h1:x<y
 ·rw[if_neg jo,if_pos h1,if_pos h1];rfl
 ·by_cases h2:y<x
  ·rw[if_pos h2,if_neg h1,if_pos h2]
  ·rw[if_neg h2,if_neg h1,if_neg h1,if_neg h2];rfl
theorem ZJ:∀x:List Int,zH x x=0
 |[]=>rfl
 |a :: l=>by rw[zH,if_pos rfl,ZJ l]
theorem Zp:∀x y:List Int,zH y x = - zH x y
 |[],[]=>rfl
 |[],_ :: _=>rfl
 |_ :: _,[]=>rfl
 |a :: l,b :: m=>by
  rw[zH,zH]
  by_cases h:a=b
  ·rw[if_pos h,if_pos h.symm,Zp l m]
  ·rw[if_neg h,if_neg (fun e=>h e.symm),zlY]
theorem zaG:∀x y z:List Int,zH x y≤0→zH y z≤0→zH x z≤0∧(zH x y<0∨zH y z<0→zH x z<0)
 |[],[],[],_,_=>by simp[zH]
 |[],[],_ :: _,_,_=>by simp[zH]
 |[],_ :: _,[],_,h=>by simp[zH] at h
 |[],_ :: _,_ :: _,_,_=>by simp[zH]
 |_ :: _,[],_,h,_=>by simp[zH] at h
 |_ :: _,_ :: _,[],_,h=>by simp[zH] at h
 |a :: l,b :: m,c :: n,h1,h2=>by
  rw[zH] at h1 h2 ⊢
  rw[zH,zH]
  unfold yr at *
  by_cases e1:a=b
  ·subst e1
   by_cases e2:a=c
   ·subst e2
    simp only[↓reduceIte] at h1 h2 ⊢
    exact zaG l m n h1 h2
   ·rw[if_neg e2] at h2 ⊢
    by_cases h3:a<c
    ·rw[if_pos h3];exact⟨jo,fun _=>by omega⟩
    ·exfalso;rw[if_neg h3] at h2;rw[if_pos jo] at h2;omega
  ·rw[if_neg e1] at h1 ⊢
   have h3:a<b:=by
    by_cases h3:a<b
    ·exact h3
    ·exfalso;rw[if_neg h3,if_pos jo] at h1;omega
   have h4:b≤c:=by
    by_cases e2:b=c
    ·omega
    ·rw[if_neg e2] at h2
     by_cases h4:b<c
     ·omega
     ·exfalso;rw[if_neg h4,if_pos jo] at h2;omega
   rw[if_neg jo,if_pos jo]
   exact⟨jo,fun _=>by omega⟩
theorem zdb {α:Type} (f:α→List Int):SWO (ltOf fun x y:α=>zH (f x) (f y)) where
 irrefl x:=by show decide (zH (f x) (f x)<0)=false;rw[ZJ];rfl
 trans x y z h1 h2:=by
  have h1:decide (zH (f x) (f y)<0)=true:=h1
  have h2:decide (zH (f y) (f z)<0)=true:=h2
  show decide (zH (f x) (f z)<0)=true
  rw[decide_eq_true_eq] at *
  exact(zaG _ _ _ jo jo).2 (.inl h1)
 ntrans x y z h1 h2:=by
  have h1:decide (zH (f x) (f y)<0)=false:=h1
  have h2:decide (zH (f y) (f z)<0)=false:=h2
  show decide (zH (f x) (f z)<0)=false
  rw[decide_eq_false_iff_not] at *
  have e1:=Zp (f x) (f y);have e2:=Zp (f y) (f z);have e3:=Zp (f x) (f z)
  have:=(zaG (f z) (f y) (f x) jo jo).1
  omega
def Ye (n i:Nat):List Value:=(List.range i).map (fun j:Nat=>Value.int .i64 (j:Int))++List.replicate (n - i) (.int .i64 0)
theorem zgw (n:Nat):Ye n 0=(List.replicate n [Value.int .i64 0]).flatten:=by
 unfold Ye;simp only[List.range_zero,List.map_nil,List.nil_append,Nat.sub_zero];induction n with
 |zero=>rfl
 |succ n ih=>rw[List.replicate_succ,List.replicate_succ,List.flatten_cons,←ih];rfl
theorem zoz (n:Nat) (hn:n≤5000000) (W:World):(Instr.makeSlice 26 (.int .i64 (n:Int)) (.int .i64 (n:Int))).run Tryz.prog W = .ok (.slice (some ⟨W.heap.size,0,none⟩) n n) (W.alloc (.cells (Ye n 0).toArray 3)):=by
 rw[zgw];exact zaB (e:=3) (k:=1) (b:=8) (z:= .int .i64 0) vk vk rfl jo jo (ug _) jo W
theorem zhX (n i:Nat) (hi:i<n):(Ye n i).set i (.int .i64 (i:Int))=Ye n (i+1):=by
 unfold Ye;rw[List.set_append_right _ _ vz,List.range_succ,List.map_append,List.append_assoc];congr 1;rw[show n - i=n - (i+1)+1 by omega,List.replicate_succ];simp
theorem zke (n i:Nat):(Ye n i).all okC=true:=by
 rw[List.all_eq_true];intro u hu;unfold Ye at hu;rcases List.mem_append.1 hu with h | h
 ·obtain⟨j,-,rfl⟩:=List.mem_map.1 h;rfl
 ·rw[List.eq_of_mem_replicate h];rfl
theorem zlZ (n i:Nat) (x:Int):(Ye n i).toArray[i]?≠some (.int .u32 x):=zD (by simpa using zke n i) i x
theorem zkf (n:Nat):Ye n n=(List.range n).map (fun j:Nat=>Value.int .i64 (j:Int)):=by simp[Ye]
theorem zb4 (n:Nat):(List.finRange n).map Fin.val=List.range n:=by
 apply List.ext_getElem
 ·simp
 ·intro i h1 h2;simp
theorem zfF (n g:Nat) (cls:Nat) (cb:Array Value) (w:World) (rs:List (List Int)) (hn:n≤5000000) (hb:Blk w g 3 (Ye n n).toArray) (eg:∀args w,(callFunc cls args).run Tryz.prog w = .ok (.enter cls args) w)
  (hc:∀W,w.grownBy W (some g)→KeepsN w W→∀i k,i<n→k<n→Calls Tryz.prog cls (#[.int .i64 ((i:Nat):Int),.int .i64 ((k:Nat):Int)]++cb) W fun e w'=>e = .returned (.int .i64 (zH (rs.getD i []) (rs.getD k [])))∧BelowD W.heap.size W w') :
  Calls Tryz.prog 145 #[.slice (some ⟨g,0,none⟩) n n,.func (.func cls) #[] cb] w fun e w'=>e = .returned (.tuple #[])∧∃ks:List Nat,ks.Perm (List.range n)∧Blk w' g 3 (I64 (zu ks)).toArray∧w.grownBy w' (some g)∧KeepsN w w':=by
 rcases Nat.eq_zero_or_pos n with h0 | h0
 ·subst h0;have h:=AnyF.slices_SortFunc_none (P:=Tryz.prog) (ρ:=Tryz.sortInts_ren) {Tryz.sortInts with} (some ⟨g,0,none⟩) 0 (.func (.func cls) #[] cb) w;change Calls Tryz.prog 145 _ _ _ at h;refine h.mono ?_;rintro e w' ⟨rfl,rfl⟩;exact⟨rfl,[],List.Perm.refl _,hb,World.grownBy.refl _ _,KeepsN.refl _⟩
 ·haveI:Inhabited (Fin n):=⟨⟨0,h0⟩⟩;let enc:Fin n→Value:=fun i=> .int .i64 (i.val:Int);have hd:(List.finRange n).toArray.map enc=(Ye n n).toArray:=by
   rw[zkf,←zb4,List.map_map];simp[enc,Function.comp_def]
  have hb2:Blk w g 3 ((List.finRange n).toArray.map enc):=by rw[hd];exact hb
  have hok:∀x,okC (enc x)=true:=fun _=>rfl;have h:=Any.slices_SortFunc (P:=Tryz.prog) (ρ:=Tryz.sortInts_ren) Tryz.sortInts enc (fun _=>rfl) (fun x y:Fin n=>zH (rs.getD x.val []) (rs.getD y.val [])) (zdb fun x:Fin n=>rs.getD x.val []) cls cb g 0 n (List.finRange n).toArray w eg
   (zfE fun m os dk hs x y=>hc _ (Zg m os) (zdH hb2 hok m os) x.val y.val x.isLt y.isLt) (zhW hb2) hb.lt vj2
  simp only[List.size_toArray,List.length_finRange] at h;change Calls Tryz.prog 145 _ _ _ at h;refine h.mono ?_;rintro e w' ⟨rfl,d',m,os,hp,-,rfl⟩;have hs:d'.size=(List.finRange n).toArray.size:=hp.1;have hsn:d'.size=n:=by rw[hs];simp
  refine⟨rfl,d'.toList.map Fin.val,?_,?_,Zg m os,zdH hb2 hok m os⟩
  ·have h3:=hp.2.2;rw[←zb4];refine List.Perm.map _ ?_;have e1:d'.extract 0 n=d':=by
    have h9:=Array.extract_size (xs:=d');simpa only[hsn] using h9
   have e2:(List.finRange n).toArray.extract 0 n=(List.finRange n).toArray:=by
    have:=Array.extract_size (xs:=(List.finRange n).toArray);simpa using this
   rw[e1,e2] at h3;simpa using h3
  ·have h4:=zlX (m:=m) (os:=os) hb2 hs;have h5:d'.map enc=(I64 (zu (d'.toList.map Fin.val))).toArray:=by
    apply Array.ext';simp[I64,zu,enc,Function.comp_def]
   rw[h5] at h4;exact h4
theorem zl0 {α β:Type} {l:List α} {m:List β} (hl:l.length=m.length):∀ {ks:List Nat},(∀k∈ks,k<l.length)→(ks.filterMap fun k=>l[k]?).zip (ks.filterMap fun k=>m[k]?)=ks.filterMap fun k=>(l.zip m)[k]?
 |[],_=>rfl
 |k :: ks,h=>by
  have h1:k<l.length:=h k vz
  have h2:k<m.length:=jo
  have ih:=zl0 hl (ks:=ks) fun j hj=>h j (uq _ hj)
  have e1:l[k]? = some l[k]:=uf h1
  have e2:m[k]? = some m[k]:=uf h2
  have e3:(l.zip m)[k]? = some (l[k],m[k]):=by rw[List.getElem?_zip_eq_some];exact⟨e1,e2⟩
  rw[List.filterMap_cons_some e1,List.filterMap_cons_some e2,List.filterMap_cons_some e3,List.zip_cons_cons,ih]
theorem zl1 {α:Type} (l:List α):(List.range l.length).filterMap (fun k=>l[k]?)=l:=by
 have:∀(n:Nat),n≤l.length→(List.range n).filterMap (fun k=>l[k]?)=l.take n:=by
  intro n;induction n with
  |zero=>intro _;rfl
  |succ n ih=>
   intro hn;have e1:l[n]? = some l[n]:=uf jo;rw[List.range_succ,List.filterMap_append,ih jo,List.filterMap_cons_some e1,List.filterMap_nil,List.take_add_one,e1];rfl
 rw[this _ (ug _),List.take_length]
theorem zi1 {α:Type} {l:List α} {ks:List Nat} {i:Nat} {x:α} (hi:i<ks.length) (hx:l[nth ks i]? = some x):(ks.take (i+1)).filterMap (fun k=>l[k]?)=(ks.take i).filterMap (fun k=>l[k]?)++[x]:=by
 have e:ks.take (i+1)=ks.take i++[nth ks i]:=by rw[List.take_add_one];simp[nth,List.getD,hi]
 rw[e,List.filterMap_append,List.filterMap_cons_some hx,List.filterMap_nil]
theorem zdI {α:Type} {l:List α}:∀ {ks:List Nat},(∀k∈ks,k<l.length)→(ks.filterMap fun k=>l[k]?).length=ks.length
 |[],_=>rfl
 |k :: ks,h=>by
  rw[List.filterMap_cons_some (uf (h k vz)),List.length_cons,zdI fun j hj=>h j (uq _ hj),List.length_cons]
open Go.RowKit
section
variable {P : Program} {o : Oper} {a : Act} {w : World} {T e : TypeId} {z : Value} {g : Nat} {M : List (List Int × Value)} {ks : List Int} {tm tk : Tmp}
theorem zbH (ho:o.op = .lookup T (.tmp tm) (.tmp tk) false) (hT:P.underlying T=some (.map 9 e)) (hS:P.underlying 9=some .string) (hz:∀w:World,(zeroValue e).run P w = .ok z w) (hm:tv a tm = .map (some g)) (hk:tv a tk = .string (yV ks)) (h:MpK w g M) (h9:∀x∈ks,0≤x∧x≤9) :
  zp P o a.eval w (fun v w'=>v=(lk M ks).getD z∧Below w.heap.size w w'):=by
 refine zo ((lk M ks).getD z) ?_ ⟨rfl,ue _ _⟩;have hr:=zb1 hT hS hz h h9 false;exact zqP
theorem zcS (ho:o.op = .lookup T (.tmp tm) (.tmp tk) true) (hT:P.underlying T=some (.map 9 e)) (hS:P.underlying 9=some .string) (hz:∀w:World,(zeroValue e).run P w = .ok z w) (hm:tv a tm = .map (some g)) (hk:tv a tk = .string (yV ks)) (h:MpK w g M) (h9:∀x∈ks,0≤x∧x≤9) :
  zp P o a.eval w (fun v w'=>v = .tuple #[(lk M ks).getD z,.bool (lk M ks).isSome]∧Below w.heap.size w w'):=by
 refine zo (.tuple #[(lk M ks).getD z,.bool (lk M ks).isSome]) ?_ ⟨rfl,ue _ _⟩;have hr:=zb1 hT hS hz h h9 true;exact zqP
theorem zhY {x:Operand} {v:Value} {K:Act→World→Prop} {Q:Exit→Act→World→Prop} (ho:o.op = .mapUpdate T (.tmp tm) (.tmp tk) x) (hd:o.dst=none) (hT:P.underlying T=some (.map 9 e)) (hS:P.underlying 9=some .string) (hm:tv a tm = .map (some g)) (hk:tv a tk = .string (yV ks)) (hx:a.eval x=v) (h:MpK w g M) (h9:∀x∈ks,0≤x∧x≤9)
  (next:∀w',MpK w' g (asg M ks v)→w.grownBy w' (some g)→w'.heap.size=w.heap.size→KeepsN w w'→K a w'):o.wp P a w K Q:=by
 obtain⟨w',hr,h1,h2,h3,h4⟩:=zfr (v:=v) hT hS h h9;unfold Oper.wp execOp;rw[ho];simp only[zK,hm,hk,hx];simp only[hr,Sem.run_bind,Sem.run_pure,Result.andThen_ok];show K (a.put o.dst undef) _;rw[hd];exact next w' h1 h2 h3 h4
theorem zdJ {x y:Operand} {t2:TypeId} (i j:Nat) (ho:o.op = .binOp .and T x y t2) (hx:a.eval x = .int .u32 (i:Int)) (hy:a.eval y = .int .u32 (j:Int)) (hi:i<4294967296) (hj:j<4294967296):zp P o a.eval w (fun v w'=>v = .int .u32 ((i &&& j:Nat):Int)∧Below w.heap.size w w'):=by
 refine zo (.int .u32 ((i &&& j:Nat):Int)) ?_ ⟨rfl,ue _ _⟩;have e:=zdh i j hi hj;exact zfi
theorem zcr {x y:Operand} {t2:TypeId} (i j:Nat) (ho:o.op = .binOp .or T x y t2) (hx:a.eval x = .int .u32 (i:Int)) (hy:a.eval y = .int .u32 (j:Int)) (hi:i<4294967296) (hj:j<4294967296):zp P o a.eval w (fun v w'=>v = .int .u32 ((i ||| j:Nat):Int)∧Below w.heap.size w w'):=by
 refine zo (.int .u32 ((i ||| j:Nat):Int)) ?_ ⟨rfl,ue _ _⟩;have e:=ziG i j hi hj;exact zfi
end
section
variable {o : Oper} {a : Act} {w : World} {K : Act → World → Prop} {Q : Exit → Act → World → Prop}
theorem zoA (ho:o.op = .alloc 224) (next:K (a.put o.dst (.pointer (some ⟨w.heap.size,0,none⟩))) (w.alloc (.cells #[.slice none 0 0,.map none] 224))):o.wp Tryz.prog a w K Q:=by
 have hr:(execOp a.eval o).run Tryz.prog w = .ok (.value (.pointer (some ⟨w.heap.size,0,none⟩))) (w.alloc (.cells #[.slice none 0 0,.map none] 224)):=by
  unfold execOp;rw[ho];go_simp
 unfold Oper.wp;rw[hr];exact next
theorem FN.vq11 (ho:o.op = .alloc 104) (next:K (a.put o.dst (.pointer (some ⟨w.heap.size,0,none⟩))) (w.alloc (.cells #[.slice none 0 0,.slice none 0 0,.slice none 0 0] 104))):o.wp Tryz.prog a w K Q:=by
 have hr:(execOp a.eval o).run Tryz.prog w = .ok (.value (.pointer (some ⟨w.heap.size,0,none⟩))) (w.alloc (.cells #[.slice none 0 0,.slice none 0 0,.slice none 0 0] 104)):=by
  unfold execOp;rw[ho];go_simp
 unfold Oper.wp;rw[hr];exact next
theorem FC.vq11 (ho:o.op = .alloc 119) (next:K (a.put o.dst (.pointer (some ⟨w.heap.size,0,none⟩))) (w.alloc (.cells #[.slice none 0 0,.slice none 0 0,.slice none 0 0] 119))):o.wp Tryz.prog a w K Q:=by
 have hr:(execOp a.eval o).run Tryz.prog w = .ok (.value (.pointer (some ⟨w.heap.size,0,none⟩))) (w.alloc (.cells #[.slice none 0 0,.slice none 0 0,.slice none 0 0] 119)):=by
  unfold execOp;rw[ho];go_simp
 unfold Oper.wp;rw[hr];exact next
theorem FP.vq11 (ho:o.op = .alloc 128) (next:K (a.put o.dst (.pointer (some ⟨w.heap.size,0,none⟩))) (w.alloc (.cells #[.slice none 0 0,.slice none 0 0,.slice none 0 0] 128))):o.wp Tryz.prog a w K Q:=by
 have hr:(execOp a.eval o).run Tryz.prog w = .ok (.value (.pointer (some ⟨w.heap.size,0,none⟩))) (w.alloc (.cells #[.slice none 0 0,.slice none 0 0,.slice none 0 0] 128)):=by
  unfold execOp;rw[ho];go_simp
 unfold Oper.wp;rw[hr];exact next
theorem FW.vq11 (ho:o.op = .alloc 140) (next:K (a.put o.dst (.pointer (some ⟨w.heap.size,0,none⟩))) (w.alloc (.cells #[.slice none 0 0,.slice none 0 0,.slice none 0 0] 140))):o.wp Tryz.prog a w K Q:=by
 have hr:(execOp a.eval o).run Tryz.prog w = .ok (.value (.pointer (some ⟨w.heap.size,0,none⟩))) (w.alloc (.cells #[.slice none 0 0,.slice none 0 0,.slice none 0 0] 140)):=by
  unfold execOp;rw[ho];go_simp
 unfold Oper.wp;rw[hr];exact next
end
def zdK (rs:List (List Int)) (cs:List Nat):List (List Int×Value):=rs.foldl (fun M r=>asg M (ye r cs) (.bool true)) []
theorem zkg (rs:List (List Int)) (r:List Int) (cs:List Nat):zdK (rs++[r]) cs=asg (zdK rs cs) (ye r cs) (.bool true):=by
 unfold zdK;rw[List.foldl_append];rfl
theorem zoB (cs:List Nat) (k:List Int):∀rs:List (List Int),(lk (zdK rs cs) k).getD (.bool false) = .bool (rs.any fun r=>decide (ye r cs=k)):=by
 have:∀(rs:List (List Int)) (M:List (List Int×Value)) (b:Bool),(lk M k).getD (.bool false) = .bool b→(lk (rs.foldl (fun M r=>asg M (ye r cs) (.bool true)) M) k).getD (.bool false) = .bool (b || rs.any fun r=>decide (ye r cs=k)):=by
  intro rs;induction rs with
  |nil=>intro M b h;simpa using h
  |cons r l ih=>
   intro M b h;rw[List.foldl_cons,ih _ (b || decide (ye r cs=k)),List.any_cons,Bool.or_assoc];rw[zhK];by_cases e:k=ye r cs
   ·rw[if_pos e];simp[e]
   ·rw[if_neg e,h];simp[Ne.symm e]
 intro rs;have h:=this rs [] false rfl;unfold zdK;simpa using h
theorem Blk.low {w w':World} {g B:Nat} {t:TypeId} {cs:Array Value} (h:Blk w g t cs) (hb:Below B w w') (hg:g<B):Blk w' g t cs:=by
 show w'.heap[g]? = _;rw[hb.block g hg];exact h
def FltV (w:World) (c:List Value) (p:List Nat×(List Int→Bool)):Prop:=∃(A:Option Addr) (n cp gm:Nat) (M:List (List Int×Value)),c=[.slice A n cp,.map (some gm)]∧IntsV w (.slice A n cp) p.1∧MpK w gm M∧∀k,(lk M k).getD (.bool false) = .bool (p.2 k)
theorem FltV.below {w w':World} {c:List Value} {p:List Nat×(List Int→Bool)} (h:FltV w c p) (hb:Below w.heap.size w w'):FltV w' c p:=by
 obtain⟨A,n,cp,gm,M,e,h1,h2,h3⟩:=h;exact⟨A,n,cp,gm,M,e,h1.below hb,h2.keep hb,h3⟩
theorem FltV.own {w w':World} {c:List Value} {p:List Nat×(List Int→Bool)} (h:FltV w c p) {base size n:Nat} {e:TypeId} {v:Value} {xs:List Value} (ho:OwnC w base e size v n xs) (hg:w.grownBy w' v.ownBlock) (kn:KeepsN w w') (hne:e≠3):FltV w' c p:=by
 obtain⟨A,n,cp,gm,M,e1,h1,h2,h3⟩:=h;exact⟨A,n,cp,gm,M,e1,h1.kd (T:=[3]) (KD.own ho.own hg kn (by simp[hne])) rfl,h2.grown hg (h2.ne_own ho.own),h3⟩
theorem zhZ (fv u:Value) (fs:List (List Nat×(List Int→Bool))) (xs:List Int) (w:World) (hf:SlsV 224 2 FltV w fv fs) (hu:RowV w u xs) (hk:∀p∈fs,∀k∈p.1,k<xs.length) :
  Calls Tryz.prog 111 #[fv,u] w fun e w'=>e = .returned (.bool (fs.all fun p=>p.2 (ye xs p.1)))∧Below w.heap.size w w':=by
 obtain⟨A,ca,rfl,-,hA,hn5⟩:=hf.form;obtain⟨n,hn⟩:=vx (fs.length);rw[←hn] at hA hn5 ⊢;obtain⟨U,nu,cu,rfl,-⟩:=id hu;have HFs:=vh hf;have HU:=vh hu;have HK:=vh hk;have HN:=vh hn;have HU9:=vh (show ∀x∈xs,0≤x∧x≤9 from by obtain⟨_,_,_,_,_,_,_,h⟩:=hu;exact h);clear hf hu hk hn hA;rw[←HN] at HFs;go_enter Tryz.func111,Tryz.ntmps111;go_wp2_with fail;go_loopg [9] n (fun g iv wr=>∃i:Nat,iv = .int .i64 i∧i+g=n∧Hid (Below w.heap.size w wr∧(fs.take i).all (fun p=>p.2 (ye xs p.1))=true));case atStart=>exact⟨0,rfl,jo,vh ⟨ue _ _,rfl⟩⟩
 case round=>
  obtain⟨i,rfl,hin,HJ⟩:=hrel;by_cases hi:i<n
  ·have i1:((i:Int)<(n:Int)):=jo;obtain⟨p,hp⟩:∃x,fs[i]? = some x:=⟨_,uf ziE⟩;have t1:(fs.take (i+1)).all (fun p=>p.2 (ye xs p.1))=((fs.take i).all (fun p=>p.2 (ye xs p.1)) && p.2 (ye xs p.1)):=by rw[List.take_add_one,hp];simp
   have hpk:=HK.out p (ui hp);have hpf:p.2 (ye xs p.1)=false→fs.all (fun p=>p.2 (ye xs p.1))=false:=fun h=>by rw[List.all_eq_false];exact⟨p,ui hp,by simp[h]⟩
   obtain⟨adf,csf,rfl,-,hcf,hRf⟩:=(HFs.below HJ.1 (fun _ _ h=>h.below HJ.1)).atA hp;obtain⟨C,nc,cc,gm,M,rfl,hI,hM,hq⟩:=hRf;have HT1:=vh t1;have HPk:=vh hpk;have HI:=vh hI;have HM:=vh hM;have HQ:=vh hq;have HPf:=vh hpf;have HCf:=vh hcf;clear t1 hpk hI hM hq hp hpf hcf;go_upto_region 3 with (fail);refine zc (kss:=[[],[(0,11)]]) [(7,.slice ((some adf)) n ca),(9,.int .i64 ((i:Int)))] [EV (.pointer (some (Addr.add adf (i*2)))),EV (.agg #[.slice C nc cc,.map (some gm)])] 2 vk vt [false,false] ?_ ?_ ?_
   ·exact js
   ·exact⟨(fun aa ww hb he hd=>za rfl (zm (e:=224) (s:=2) (k:=i) rfl vk jo he.1 he.2.1)),(fun aa ww hb he hd=>za rfl (zg (cs:=[.slice C nc cc,.map (some gm)]) rfl vk vk hd.1 (fun j u hj=>(hb.cell (zh (HCf.out j u hj))).trans (HCf.out j u hj)))),uC⟩
   intro vs w2 hb hR;refine vw1 ?_;clear hR;have HB2:=vh (ze HJ.1 hb HJ.1.size);have HAl:=vh HJ.2;have HI:=vh (HI.below hb);have HM:=vh (HM.keep hb);clear hb HCf HJ;show wpOps _ _ _ [2,3] _ _;refine zb rfl rfl (zoA rfl ?_);refine jp 6 ?_;refine zb rfl rfl (zC (vs:=[.slice C nc cc,.map (some gm)]) (off:=0) rfl rfl vk rfl rfl rfl (Blk.new _ _ _) vj6 (fun j _ _ x=>zD rfl j x) ?_);intro w3 kn hg hs hbx;have hbw:Below w2.heap.size w2 w3:=(al w2 _).grown hg (al w2 _).size (fun k e=>by cases e;exact ug _);obtain⟨gb,hgb⟩:∃g,g=w2.heap.size:=⟨_,rfl⟩;rw[←hgb] at hbx ⊢;clear kn hg hs;unfold wpOps;have HB3:=vh (ze HB2.out hbw HB2.size);have HX:=vh hbx;have HI3:=vh (HI.below hbw);have HM3:=vh (HM.keep hbw);clear hbx hbw hgb HB2 HI HM;go_upto_region 4 with (fail);refine wp_region_each (kss:=[[],[(0,13)],[],[],[(3,16)],[(2,15),(4,17)],[(1,14),(5,18)],[(6,19)]]) [(6,.pointer (some (⟨gb,0,none⟩))),(1,.slice U nu cu)] [EV (.pointer (some (⟨gb,1,none⟩))),EV (.map (some gm)),EV (.slice U nu cu),EV (.pointer (some (⟨gb,0,none⟩))),EV (.slice C nc cc),EV (.string (yV (ye xs p.1))),EV (.bool ((p.2 (ye xs p.1)))),EV (.bool (!(p.2 (ye xs p.1))))] vk vk vt ?_ ?_ ?_
   ·exact js
   ·exact⟨zeg,(fun aa ww hb he hd=>za rfl (zd rfl vk hd.1 (Blk.at1 HX.out hb))),vi1,zcH,(fun aa ww hb he hd=>za rfl (zd rfl vk hd.1 (Blk.at0 HX.out hb))),(fun aa ww hb he hd=>za rfl (zE _ _ _ _ rfl vk (by rw[show aa.eval (.tmp 15) = .slice U nu cu from hd.1,show aa.eval (.tmp 17) = .slice C nc cc from hd.2.1];exact zU (zaX _ _ xs p.1 ww (HU.below (ze HB3.out hb HB3.size)) (HI3.below hb) HPk.out)))),(fun aa ww hb he hd=>za rfl (zk (zbH (z:= .bool false) rfl Tryz.underlying222 Tryz.underlying9 Tryz.zeroValue4 hd.1 hd.2.1 (HM3.keep hb) (fun x hx=>by obtain⟨k,hk,rfl⟩:=List.mem_map.1 hx;exact HU9.out _ (Yi (HPk.out k hk)))) (fun v w' ⟨h1,h2⟩=>⟨by rw[h1];exact HQ.out _,h2⟩))),(fun aa ww hb he hd=>za rfl (YK ((p.2 (ye xs p.1))) _ _ rfl hd.1 ⟨rfl,ue _ _⟩)),uC⟩
   intro vs w4 hb hR;refine vw3 ?_;clear hR;have HB4:=vh (ze HB3.out hb HB3.size);clear hb HB3 HX HI3 HM3 HQ;cases hp:p.2 (ye xs p.1) with
   |true=>
    have HN2:=vh (show Below w.heap.size w w4∧(fs.take (i+1)).all (fun p=>p.2 (ye xs p.1))=true from⟨HB4.out,by rw[HT1,HAl,hp];rfl⟩);clear hp HB4 HT1 HAl HPf HPk;exact zfg
   |false=>
    have HZ:=vh (HPf.out hp);clear hp HPf HPk HT1 HAl;go_wp2_with fail;go_ret;exact⟨by rw[HZ];rfl,HB4.out⟩
  ·obtain rfl:n=i:=jo;have hz:=HJ.2;rw[um zlf] at hz;have HZ:=vh hz;have HB4:=vh HJ.1;clear hz HJ;go_wp2_with fail;go_ret;exact⟨by rw[HZ];rfl,HB4.out⟩
def InC (w:World) (c:List Value) (l:List Nat):Prop:=∃u,c=[u]∧IntsV w u l
theorem InC.kd {w w':World} {c:List Value} {l:List Nat} (h:InC w c l) (k:KD [3,26] w w'):InC w' c l:=by
 obtain⟨u,e,h⟩:=h;exact⟨u,e,h.kd k rfl⟩
def FW.vq22 (w:World) (v:Value) (x:WS×Nat):Prop:=∃L:List (List Nat),SlsV 26 1 InC w v L∧zeM L∧RepW x.1 L∧L.length≤x.2∧(∀l∈L,∀j∈l,j<100)
theorem FW.vq22.kd {w w':World} {v:Value} {x:WS×Nat} (h:FW.vq22 w v x) (k:KD [3,26] w w'):FW.vq22 w' v x:=by
 obtain⟨L,h1,h2⟩:=h;exact⟨L,h1.kd k rfl (fun _ _ h=>h.kd k),h2⟩
theorem FN.vq22.kd {w w':World} {v:Value} {x:Nat} (h:FN.vq22 w v x) (k:KD [3,26] w w'):FN.vq22 w' v x:=h.keepN k.n
theorem FC.vq22.kd {w w':World} {v:Value} {x:Option Nat} (h:FC.vq22 w v x) (k:KD [3,26] w w'):FC.vq22 w' v x:=h.keepN k.n
theorem FP.vq22.kd {w w':World} {v:Value} {x:Nat×Option Nat} (h:FP.vq22 w v x) (k:KD [3,26] w w'):FP.vq22 w' v x:=h.keepN k.n
def FN.vq15 (w:World) (c:List Value) (x:Nat):Prop:=∃A k n,c=[.slice A k n]∧FN.vq22 w (.slice A k n) x
def FC.vq15 (w:World) (c:List Value) (x:Option Nat):Prop:=∃b A k n,c=[.bool b,.slice A k n]∧FC.vq22 w (.agg #[.bool b,.slice A k n]) x
def FP.vq15 (w:World) (c:List Value) (x:Nat×Option Nat):Prop:=∃A k n b B m d,c=[.slice A k n,.bool b,.slice B m d]∧FP.vq22 w (.agg #[.slice A k n,.bool b,.slice B m d]) x
def FW.vq15 (w:World) (c:List Value) (x:WS×Nat):Prop:=∃A k n,c=[.slice A k n]∧FW.vq22 w (.slice A k n) x
theorem FN.vq15.kd {w w':World} {c:List Value} {x:Nat} (h:FN.vq15 w c x) (k:KD [3,26] w w'):FN.vq15 w' c x:=by obtain⟨A,n,m,e,h⟩:=h;exact⟨A,n,m,e,h.kd k⟩
theorem FC.vq15.kd {w w':World} {c:List Value} {x:Option Nat} (h:FC.vq15 w c x) (k:KD [3,26] w w'):FC.vq15 w' c x:=by obtain⟨b,A,n,m,e,h⟩:=h;exact⟨b,A,n,m,e,h.kd k⟩
theorem FP.vq15.kd {w w':World} {c:List Value} {x:Nat×Option Nat} (h:FP.vq15 w c x) (k:KD [3,26] w w'):FP.vq15 w' c x:=by obtain⟨A,n,m,b,B,p,q,e,h⟩:=h;exact⟨A,n,m,b,B,p,q,e,h.kd k⟩
theorem FW.vq15.kd {w w':World} {c:List Value} {x:WS×Nat} (h:FW.vq15 w c x) (k:KD [3,26] w w'):FW.vq15 w' c x:=by obtain⟨A,n,m,e,h⟩:=h;exact⟨A,n,m,e,h.kd k⟩
theorem FN.vq15.sh {w:World} {c:List Value} {x:Nat} (h:FN.vq15 w c x):∃A k n,c=[.slice A k n]:=by obtain⟨A,n,m,e,h⟩:=h;exact⟨A,n,m,e⟩
theorem FC.vq15.sh {w:World} {c:List Value} {x:Option Nat} (h:FC.vq15 w c x):∃b A k n,c=[.bool b,.slice A k n]:=by obtain⟨b,A,n,m,e,h⟩:=h;exact⟨b,A,n,m,e⟩
theorem FP.vq15.sh {w:World} {c:List Value} {x:Nat×Option Nat} (h:FP.vq15 w c x):∃A k n b B m d,c=[.slice A k n,.bool b,.slice B m d]:=by obtain⟨A,n,m,b,B,p,q,e,h⟩:=h;exact⟨A,n,m,b,B,p,q,e⟩
theorem FW.vq15.sh {w:World} {c:List Value} {x:WS×Nat} (h:FW.vq15 w c x):∃A k n,c=[.slice A k n]:=by obtain⟨A,n,m,e,h⟩:=h;exact⟨A,n,m,e⟩
theorem FN.vq15.of {w:World} {v:Value} {x:Nat} (h:FN.vq22 w v x):∃cs:List Value,v.cells=cs.toArray∧cs.length=1∧cs.all okC=true∧FN.vq15 w cs x:=by obtain⟨A,n,c,rfl,h1⟩:=h;exact⟨[.slice A n c],rfl,rfl,rfl,_,_,_,rfl,_,_,_,rfl,h1⟩
theorem FC.vq15.of {w:World} {v:Value} {x:Option Nat} (h:FC.vq22 w v x):∃cs:List Value,v.cells=cs.toArray∧cs.length=2∧cs.all okC=true∧FC.vq15 w cs x:=by obtain⟨b,A,n,c,rfl,h1⟩:=h;exact⟨[.bool b,.slice A n c],rfl,rfl,rfl,_,_,_,_,rfl,_,_,_,_,rfl,h1⟩
theorem FP.vq15.of {w:World} {v:Value} {x:Nat×Option Nat} (h:FP.vq22 w v x):∃cs:List Value,v.cells=cs.toArray∧cs.length=3∧cs.all okC=true∧FP.vq15 w cs x:=by obtain⟨A,n,c,b,B,m,d,rfl,h1⟩:=h;exact⟨[.slice A n c,.bool b,.slice B m d],rfl,rfl,rfl,_,_,_,_,_,_,_,rfl,_,_,_,_,_,_,_,rfl,h1⟩
theorem FW.vq15.of {w:World} {v:Value} {x:WS×Nat} (h:FW.vq22 w v x):∃cs:List Value,v.cells=cs.toArray∧cs.length=1∧cs.all okC=true∧FW.vq15 w cs x:=by
 obtain⟨L,⟨A,n,c,rfl,h1⟩,h2⟩:=h;exact⟨[.slice A n c],rfl,rfl,rfl,_,_,_,rfl,L,⟨A,n,c,rfl,h1⟩,h2⟩
theorem FN.vq15.v {w:World} {A:Option Addr} {k n x:Nat} (h:FN.vq15 w [.slice A k n] x):FN.vq22 w (.slice A k n) x:=by obtain⟨A,n,c,e,h⟩:=h;cases e;exact h
theorem FC.vq15.v {w:World} {b:Bool} {A:Option Addr} {k n:Nat} {x:Option Nat} (h:FC.vq15 w [.bool b,.slice A k n] x):FC.vq22 w (.agg #[.bool b,.slice A k n]) x:=by obtain⟨b,A,n,c,e,h⟩:=h;cases e;exact h
theorem FP.vq15.v {w:World} {A:Option Addr} {k n:Nat} {b:Bool} {B:Option Addr} {m d:Nat} {x:Nat×Option Nat} (h:FP.vq15 w [.slice A k n,.bool b,.slice B m d] x):FP.vq22 w (.agg #[.slice A k n,.bool b,.slice B m d]) x:=by obtain⟨A,n,c,b,B,m,d,e,h⟩:=h;cases e;exact h
theorem FW.vq15.v {w:World} {A:Option Addr} {k n:Nat} {x:WS×Nat} (h:FW.vq15 w [.slice A k n] x):FW.vq22 w (.slice A k n) x:=by obtain⟨A,n,c,e,h⟩:=h;cases e;exact h
def FN.vq16 (x:Nat):Nat:=x+1
def FC.vq16 (x:Option Nat):Nat:=nmC x+1
def FP.vq16 (x:Nat×Option Nat):Nat:=nmP x+1
def FW.vq16 (x:WS×Nat):Nat:=max 1 x.2
def zc1:Nat:=3000000
theorem zkh (a b:Nat):a*b+1≤(a+1)*(b+1):=by rw[Nat.add_mul,Nat.mul_add];omega
theorem FN.vq26:MuOk FN.vq14 FN.vq16:=⟨fun _=>Nat.le_add_left _ _,fun a b=>by show a+b+1≤a+1+(b+1);omega,fun a b=>zkh a b⟩
theorem zi2 (a b:Option Nat):nmC (YQ a b)≤nmC a+nmC b:=by
 cases a with
 |none=>cases b <;> simp[YQ,nmC]
 |some n=>
  cases b with
  |none=>simp[YQ,nmC]
  |some m=>
   show pw2 (min n m)≤pw2 n+pw2 m;rcases Nat.le_total n m with h | h
   ·rw[Nat.min_eq_left h];omega
   ·rw[Nat.min_eq_right h];omega
theorem zi3 (a b:Option Nat):nmC (ZX a b)≤nmC a*nmC b:=by
 cases a <;> cases b <;> simp only[ZX,nmC] <;> first | omega | exact Nat.le_of_eq (ziQ _ _).symm | simp
theorem FC.vq26:MuOk FC.vq14 FC.vq16:=⟨fun _=>Nat.le_add_left _ _,fun a b=>by have:=zi2 a b;show nmC (YQ a b)+1≤nmC a+1+(nmC b+1);omega,fun a b=>ud (Nat.add_le_add_right (zi3 a b) 1) (zkh _ _)⟩
theorem FP.vq26:MuOk FP.vq14 FP.vq16:=⟨fun _=>Nat.le_add_left _ _,fun a b=>by
 have:=zi2 a.2 b.2
 show a.1+b.1+nmC (YQ a.2 b.2)+1≤a.1+nmC a.2+1+(b.1+nmC b.2+1);omega,fun a b=>by
 have h:=zi3 a.2 b.2
 show a.1*b.1+nmC (ZX a.2 b.2)+1≤(a.1+nmC a.2+1)*(b.1+nmC b.2+1)
 refine ud ?_ (zkh (a.1+nmC a.2) (b.1+nmC b.2))
 rw[Nat.add_mul,Nat.mul_add,Nat.mul_add]
 have h3:=Nat.zero_le (a.1*nmC b.2);have h4:=Nat.zero_le (nmC a.2*b.1)
 omega⟩
theorem FW.vq26:MuOk FW.vq14 FW.vq16:=⟨fun _=>Nat.le_max_left _ _,fun a b=>by show max 1 (a.2+b.2)≤max 1 a.2+max 1 b.2;omega,fun a b=>by
 show max 1 (a.2*b.2)≤max 1 a.2*max 1 b.2
 have h1:a.2*b.2≤max 1 a.2*max 1 b.2:=Nat.mul_le_mul (Nat.le_max_right _ _) (Nat.le_max_right _ _)
 have h2:1*1≤max 1 a.2*max 1 b.2:=Nat.mul_le_mul (Nat.le_max_left _ _) (Nat.le_max_left _ _)
 omega⟩
section
variable {w : World} {u v : Value}
theorem zh0 {x y:Nat} (hu:FN.vq22 w u x) (hv:FN.vq22 w v y) (h:FN.vq16 x*FN.vq16 y≤yW):Calls Tryz.prog 217 #[.agg #[],u,v] w (RV w (fun r w'=>FN.vq22 w' r (FN.vq14.mul x y))):=zlG hu hv (ud (ud (Nat.le_succ _) (zkh x y)) h)
theorem zh1 {x y:Nat} (hu:FN.vq22 w u x) (hv:FN.vq22 w v y) (h:FN.vq16 x+FN.vq16 y≤yW):Calls Tryz.prog 216 #[.agg #[],u,v] w (RV w (fun r w'=>FN.vq22 w' r (FN.vq14.add x y))):=zlH hu hv (by unfold FN.vq16 at h;omega)
theorem zrW {x y:Option Nat} (hu:FC.vq22 w u x) (hv:FC.vq22 w v y) (h:FC.vq16 x*FC.vq16 y≤yW):Calls Tryz.prog 26 #[.agg #[],u,v] w (RV w (fun r w'=>FC.vq22 w' r (FC.vq14.mul x y))):=zlI hu hv (ud (ud (Nat.le_succ _) (zkh _ _)) h)
theorem zl2 {x y:Option Nat} (hu:FC.vq22 w u x) (hv:FC.vq22 w v y) (h:FC.vq16 x+FC.vq16 y≤yW):Calls Tryz.prog 27 #[.agg #[],u,v] w (RV w (fun r w'=>FC.vq22 w' r (FC.vq14.add x y))):=zlJ hu hv
theorem zrX {x y:Nat×Option Nat} (hu:FP.vq22 w u x) (hv:FP.vq22 w v y) (h:FP.vq16 x*FP.vq16 y≤yW):Calls Tryz.prog 264 #[zgm,u,v] w (RV w (fun r w'=>FP.vq22 w' r (FP.vq14.mul x y))):=QA.p_mul hu hv (ud (ud (Nat.le_succ _) (zkh _ _)) h)
theorem zl3 {x y:Nat×Option Nat} (hu:FP.vq22 w u x) (hv:FP.vq22 w v y) (h:FP.vq16 x+FP.vq16 y≤yW):Calls Tryz.prog 263 #[zgm,u,v] w (RV w (fun r w'=>FP.vq22 w' r (FP.vq14.add x y))):=QB.p_add hu hv (by unfold FP.vq16 at h;omega)
end
end Go.Proofs.YtoecdobelolkeaaGreatDoor
