/- Part of TopSemirings. -/
import Derived.Test.YtoecdobelolkeaaGreatDoorK25
set_option linter.unusedVariables false
set_option linter.unusedSimpArgs false
set_option maxRecDepth 100000
set_option maxHeartbeats 32000000
namespace Go.Proofs.YtoecdobelolkeaaGreatDoor
open Go.RowKit
variable {c k a b m B:Nat} {w:World} {S:Type} {bs:List Nat} {cs:List Value} {T:TypeId}
theorem FC.vq12:zpw 117:=by
 exact zjL
theorem FC.vq23 {R:World→List Value→S→Prop} {f:PF S} (w:World) (h:FacG 34 2 R w cs f) (hl:f.rows.length=f.vals.length) (hst:∀w w' c x,KD [3,26] w w'→R w c x→R w' c x) (hsh:∀w c x,R w c x→∃b A k n,c=[.bool b,.slice A k n]) :
  Calls Tryz.prog 118 #[.agg cs.toArray] w (RV w (fun v w'=>∃(cs':List Value) (f':PF S),v = .agg cs'.toArray∧FacG 34 2 R w' cs' f'∧IsP f.vars f.prs f')):=by
 exact vm2
theorem FC.vq37:zpx (Option Nat) 34 2 119 70 (.iface 40 (.agg #[])) FC.vq15 FC.vq16 yW FC.vq14:=fun {a} {b} {others} {csa} {csb} {vo} n32 w ha hbf ho wa wb wo hn32 hrows hmu=>vm3
theorem FC.vq38:zpy (Option Nat) 34 2 116 (.iface 40 (.agg #[])) FC.vq15 FC.vq16 FC.vq14 yW:=fun {f} {cs} v n32 w h hw hn32 hmu=>vm4
theorem FC.vq46:zpz (Option Nat) 119 34 2 69 (.iface 40 (.agg #[])) FC.vq15 FC.vq16 FC.vq14 yW:=fun {fs} n32 v vf w h hw hn32 hv32 hne hL1 hL2 hfl=>vm5
theorem FC.vq54:zpA (Option Nat) 119 34 2 37 (.iface 40 (.agg #[])) FC.vq15 FC.vq16 FC.vq14 yW:=fun {fs} n vf w hn31 h hw hok hcov hfew hL1 hL2 hfl=>vm6
theorem FC.totalC_any:zpB (Option Nat) 119 34 2 13 (.iface 40 (.agg #[])) FC.vq15 FC.vq16 FC.vq14 yW FC.vq22:=fun {fs} n vf w hn31 h hw hok hcov hfew hL1 hL2 hfl=>vm9
theorem FP.vq12:zpw 123:=by
 exact zjL
theorem FP.vq23 {R:World→List Value→S→Prop} {f:PF S} (w:World) (h:FacG 61 3 R w cs f) (hl:f.rows.length=f.vals.length) (hst:∀w w' c x,KD [3,26] w w'→R w c x→R w' c x) (hsh:∀w c x,R w c x→∃A k n b B m d,c=[.slice A k n,.bool b,.slice B m d]) :
  Calls Tryz.prog 124 #[.agg cs.toArray] w (RV w (fun v w'=>∃(cs':List Value) (f':PF S),v = .agg cs'.toArray∧FacG 61 3 R w' cs' f'∧IsP f.vars f.prs f')):=by
 exact vm2
theorem FP.vq37:zpx (Nat×Option Nat) 61 3 128 75 (.iface 47 (.agg #[.iface 39 (.agg #[]),.iface 40 (.agg #[])])) FP.vq15 FP.vq16 yW FP.vq14:=fun {a} {b} {others} {csa} {csb} {vo} n32 w ha hbf ho wa wb wo hn32 hrows hmu=>vm3
theorem FP.vq38:zpy (Nat×Option Nat) 61 3 122 (.iface 47 (.agg #[.iface 39 (.agg #[]),.iface 40 (.agg #[])])) FP.vq15 FP.vq16 FP.vq14 yW:=fun {f} {cs} v n32 w h hw hn32 hmu=>vm4
theorem FP.vq46:zpz (Nat×Option Nat) 128 61 3 74 (.iface 47 (.agg #[.iface 39 (.agg #[]),.iface 40 (.agg #[])])) FP.vq15 FP.vq16 FP.vq14 yW:=fun {fs} n32 v vf w h hw hn32 hv32 hne hL1 hL2 hfl=>vm5
theorem FP.vq54:zpA (Nat×Option Nat) 128 61 3 39 (.iface 47 (.agg #[.iface 39 (.agg #[]),.iface 40 (.agg #[])])) FP.vq15 FP.vq16 FP.vq14 yW:=fun {fs} n vf w hn31 h hw hok hcov hfew hL1 hL2 hfl=>vm6
theorem FP.totalP_any:zpB (Nat×Option Nat) 128 61 3 15 (.iface 47 (.agg #[.iface 39 (.agg #[]),.iface 40 (.agg #[])])) FP.vq15 FP.vq16 FP.vq14 yW FP.vq22:=fun {fs} n vf w hn31 h hw hok hcov hfew hL1 hL2 hfl=>vm9
theorem FW.vq12:zpw 129:=by
 exact zjL
theorem FW.vq23 {R:World→List Value→S→Prop} {f:PF S} (w:World) (h:FacG 72 1 R w cs f) (hl:f.rows.length=f.vals.length) (hst:∀w w' c x,KD [3,26] w w'→R w c x→R w' c x) (hsh:∀w c x,R w c x→∃A k n,c=[.slice A k n]) :
  Calls Tryz.prog 130 #[.agg cs.toArray] w (RV w (fun v w'=>∃(cs':List Value) (f':PF S),v = .agg cs'.toArray∧FacG 72 1 R w' cs' f'∧IsP f.vars f.prs f')):=by
 exact vm2
theorem FW.vq37:zpx (WS×Nat) 72 1 140 82 (.iface 41 (.agg #[])) FW.vq15 FW.vq16 zc1 FW.vq14:=fun {a} {b} {others} {csa} {csb} {vo} n32 w ha hbf ho wa wb wo hn32 hrows hmu=>vm3
theorem FW.vq38:zpy (WS×Nat) 72 1 128 (.iface 41 (.agg #[])) FW.vq15 FW.vq16 FW.vq14 zc1:=fun {f} {cs} v n32 w h hw hn32 hmu=>vm4
theorem FW.vq46:zpz (WS×Nat) 140 72 1 81 (.iface 41 (.agg #[])) FW.vq15 FW.vq16 FW.vq14 zc1:=fun {fs} n32 v vf w h hw hn32 hv32 hne hL1 hL2 hfl=>vm5
theorem FW.vq54:zpA (WS×Nat) 140 72 1 43 (.iface 41 (.agg #[])) FW.vq15 FW.vq16 FW.vq14 zc1:=fun {fs} n vf w hn31 h hw hok hcov hfew hL1 hL2 hfl=>vm6
theorem FW.totalW_any:zpB (WS×Nat) 140 72 1 21 (.iface 41 (.agg #[])) FW.vq15 FW.vq16 FW.vq14 zc1 FW.vq22:=fun {fs} n vf w hn31 h hw hok hcov hfew hL1 hL2 hfl=>vm9
structure AtsOk (n:Nat) (ats:AtL):Prop where
 n5:n≤5
 wf:WfA n ats
 len:ats.length≤6
 rows:∀a∈ats,a.2.length≤12
 cov:∀v,v<n→∃a∈ats,v∈a.1
section
variable {S : Type} {val : Nat → S}
theorem zdf {a:List Nat×List (List Int)} {l:AtL}:Zs (a :: l)=a.2.length+Zs l:=rfl
theorem zch:∀ {ats:AtL} {off:Nat} {f:PF S},f∈zB val off ats→∃a∈ats,∃o,off≤o∧o+a.2.length≤off+Zs ats∧f=⟨a.1,a.2,(List.range a.2.length).map fun j=>val (o+j)⟩
 |[],_,_,h=>by cases h
 |a :: l,off,f,h=>by
  rcases List.mem_cons.1 h with rfl | h
  ·exact⟨a,List.mem_cons_self ..,off,ug _,by rw[zdf];omega,rfl⟩
  ·obtain⟨b,hb,o,h1,h2,e⟩:=zch h
   exact⟨b,uq _ hb,o,jo,by rw[zdf];omega,e⟩
theorem znt:∀ {ats:AtL} {off:Nat} {a:List Nat×List (List Int)},a∈ats→∃f∈zB val off ats,f.vars=a.1
 |[],_,_,h=>by cases h
 |b :: l,off,a,h=>by
  rcases List.mem_cons.1 h with rfl | h
  ·exact⟨_,List.mem_cons_self ..,rfl⟩
  ·obtain⟨f,hf,e⟩:=znt (off:=off+b.2.length) h
   exact⟨f,uq _ hf,e⟩
theorem zjB:∀(ats:AtL) (off:Nat),(zB val off ats).length=ats.length
 |[],_=>rfl
 |a :: l,off=>by
  show (zB val (off+a.2.length) l).length+1=l.length+1
  rw[zjB l]
theorem zjC {μ:S→Nat}:∀ {l:List S},(∀x∈l,μ x≤c)→smu μ l≤l.length*c
 |[],_=>Nat.zero_le _
 |a :: l,h=>by
  have h1:=zjC fun x hx=>h x (uq a hx)
  have h2:=h a (List.mem_cons_self ..)
  show μ a+smu μ l≤(l.length+1)*c
  rw[Nat.add_mul,Nat.one_mul]
  omega
theorem znu {μ:S→Nat} (hc:1≤c) (hv:∀k,k<72→μ (val k)≤c):∀(ats:AtL) (off:Nat),off+Zs ats≤72→(∀a∈ats,a.2.length≤12)→MfP μ (zB val off ats)≤(12*c) ^ ats.length
 |[],_,_,_=>ug _
 |a :: l,off,ho,h=>by
  rw[zdf] at ho
  have h1:=znu hc hv l (off+a.2.length) jo fun b hb=>h b (uq _ hb)
  have h12:=h a (List.mem_cons_self ..)
  have h2:smu μ ((List.range a.2.length).map fun j=>val (off+j))≤a.2.length*c:=by
   have:=zjC (μ:=μ) (c:=c) (l:=(List.range a.2.length).map fun j=>val (off+j)) fun x hx=>by
    obtain⟨j,hj,rfl⟩:=List.mem_map.1 hx
    have:=List.mem_range.1 hj
    exact hv _ jo
   simpa using this
  have h3:a.2.length*c≤12*c:=uk _ h12
  have h4:1≤12*c:=jo
  show max 1 (smu μ ((List.range a.2.length).map fun j=>val (off+j)))*MfP μ (zB val (off+a.2.length) l)≤(12*c) ^ (l.length+1)
  rw[Nat.pow_succ,Nat.mul_comm]
  exact Nat.mul_le_mul h1 jo
theorem zhf:∀ {ats:AtL},(∀a∈ats,a.2.length≤12)→Zs ats≤12*ats.length
 |[],_=>ug _
 |a :: l,h=>by
  have h1:=zhf fun b hb=>h b (uq a hb)
  have h2:=h a (List.mem_cons_self ..)
  rw[zdf,List.length_cons]
  omega
section
variable {n : Nat} {ats : AtL}
theorem AtsOk.c72 (h:AtsOk n ats) :Zs ats≤72:=by have:=zhf h.rows;have:=h.len;omega
theorem AtsOk.hw (h:AtsOk n ats) :∀f∈zB val 0 ats,WfF n f:=by
 intro f hf;obtain⟨a,ha,o,-,-,rfl⟩:=zch hf;have hq:=h.wf a ha;exact⟨vz,hq.1,fun r hr=>⟨hq.2.len r hr,hq.2.val r hr⟩⟩
theorem AtsOk.hok (h:AtsOk n ats) :∀f∈zB val 0 ats,Vrs n f.vars∧f.rows.length=f.vals.length∧(∀r∈f.rows,r.length=f.vars.length)∧f.rows.Pairwise fun x y=>zH x y<0:=by
 intro f hf;obtain⟨a,ha,o,-,-,rfl⟩:=zch hf;have hq:=h.wf a ha;exact⟨hq.1,vz,fun r hr=>hq.2.len r hr,hq.2.asc⟩
theorem AtsOk.hcov (h:AtsOk n ats) :zaO (zB val 0 ats)=2 ^ n - 1:=by
 apply Nat.eq_of_testBit_eq;intro v;rw[Nat.testBit_two_pow_sub_one];by_cases hv:v<n
 ·rw[decide_eq_true hv,za1];obtain⟨a,ha,hm⟩:=h.cov v hv;obtain⟨f,hf,e⟩:=znt (val:=val) (off:=0) ha;exact⟨f,hf,by rw[e];exact hm⟩
 ·rw[decide_eq_false hv];cases e:(zaO (zB val 0 ats)).testBit v with
  |false=>rfl
  |true=>
   obtain⟨f,hf,hm⟩:=(za1 _ _).1 e;obtain⟨a,ha,o,-,-,rfl⟩:=zch hf;exact(hv ((h.wf a ha).1.2 v hm)).elim
theorem AtsOk.hfew (h:AtsOk n ats) :∀f∈zB val 0 ats,f.vars=[]→f.rows.length≤1:=by
 intro f hf hv;obtain⟨a,ha,o,-,-,rfl⟩:=zch hf;have hq:=(h.wf a ha).2;have hv2:a.1=[]:=hv;show a.2.length≤1;match e:a.2 with
 |[]=>simp
 |[_]=>simp
 |r :: s :: l=>
  rw[e,hv2] at hq;have h1:=hq.len r vz;have h2:=hq.len s vz;have h3:=(List.pairwise_cons.1 hq.asc).1 s vz;rw[uo h1,uo h2] at h3;exact(za5 _ h3).elim
theorem AtsOk.mfp (h:AtsOk n ats) {μ:S→Nat} (hc:1≤c) (hv:∀k,k<72→μ (val k)≤c):MfP μ (zB val 0 ats)≤(12*c) ^ 6:=by
 have h1:=znu (val:=val) hc hv ats 0 (by rw[Nat.zero_add];exact h.c72) h.rows;exact ud h1 (Nat.pow_le_pow_right jo h.len)
theorem AtsOk.hL1 (h:AtsOk n ats) :MfP (fun _:S=>1) (zB val 0 ats)≤5000000:=ud (h.mfp (c:=1) (ug _) fun _ _=>ug _) jd
theorem AtsOk.hfl (h:AtsOk n ats) :(zB val 0 ats).length≤1000000:=by rw[zjB];have:=h.len;omega
end
end
theorem zdg (h:a+b=c):pw2 c=pw2 a*pw2 b:=by subst h;exact Nat.pow_add ..
theorem zbc (h:a≤b):pw2 a≤pw2 b:=Nat.pow_le_pow_right jo h
theorem zpC (h:a*6=c):pw2 c=pw2 a ^ 6:=by subst h;exact Nat.pow_mul ..
theorem zcE {z o:Nat} (hz:z≤1) (ho:o≤3) (hc:c≤pw2 256) (hm:m≤(12*c) ^ 6):z+o*m≤yW:=by
 have h1:12*c≤pw2 260:=by
  have h4:pw2 4=16:=rfl;rw[zdg (show 4+256=260 from rfl),h4];exact Nat.mul_le_mul jo hc
 have h2:(12*c) ^ 6≤pw2 1560:=by rw[zpC (show 260*6=1560 from rfl)];exact Nat.pow_le_pow_left h1 6
 have h3:m≤pw2 1560:=ud hm h2;have h4:1≤pw2 1560:=zc9 _;have h5:pw2 1562=pw2 2*pw2 1560:=zdg rfl;have h6:pw2 2=4:=rfl;have h7:pw2 1562≤yW:=zbc jo;rw[h5,h6] at h7;have h8:o*m≤3*pw2 1560:=Nat.mul_le_mul ho h3;omega
theorem zpD (hb:∀b∈bs,b<256) (hk:k<72):yN bs k<256:=by
 unfold yN;split
 ·omega
 ·rename_i h;have hl:0<bs.length:=List.length_pos_iff.2 h;exact hb _ (yD (Nat.mod_lt _ hl))
theorem zjD (hb:∀b∈bs,b<256) (hk:k<72):pw2 (yN bs k)+2≤pw2 256:=by
 have h1:pw2 (yN bs k)≤pw2 255:=zbc (by have:=zpD hb hk;omega);have h2:pw2 256=pw2 255*pw2 1:=zdg rfl;have h3:pw2 1=2:=rfl;have h4:pw2 1≤pw2 255:=zbc jo;rw[h3] at h2 h4;omega
section
variable {n : Nat} {ats : AtL} {vf : Value} {w : World}
theorem zhg (h:AtsOk n ats) (hs:SlsV 104 3 (FacG 32 1 FN.vq15) w vf (zB ZF 0 ats)):Calls Tryz.prog 10 #[.iface 39 (.agg #[]),.int .i64 (n:Int),vf] w (RV w (fun r w'=>∃v,r = .tuple #[v,.int .i64 0]∧FN.vq22 w' v (yB FN.vq14 ZF n ats))):=
 FN.totalN_any n vf w (by have:=h.n5;omega) hs h.hw h.hok h.hcov h.hfew h.hL1 (zcE (m:=MfP FN.vq16 (zB ZF 0 ats)) (z:=FN.vq16 FN.vq14.zero) (o:=FN.vq16 FN.vq14.one) (c:=2) jd jd (by have h2:pw2 1=2:=rfl;rw[←h2];exact zbc jo) (h.mfp jo fun _ _=>ug _)) h.hfl
theorem znv (h:AtsOk n ats) (hb:∀b∈bs,b<256) (hs:SlsV 119 3 (FacG 34 2 FC.vq15) w vf (zB (Zj bs) 0 ats)):Calls Tryz.prog 13 #[.iface 40 (.agg #[]),.int .i64 (n:Int),vf] w (RV w (fun r w'=>∃v,r = .tuple #[v,.int .i64 0]∧FC.vq22 w' v (yB FC.vq14 (Zj bs) n ats))):=
 FC.totalC_any n vf w (by have:=h.n5;omega) hs h.hw h.hok h.hcov h.hfew h.hL1 (zcE (m:=MfP FC.vq16 (zB (Zj bs) 0 ats)) (z:=FC.vq16 FC.vq14.zero) (o:=FC.vq16 FC.vq14.one) (c:=pw2 256) jd jd (ug _) (h.mfp (zc9 _) fun k hk=>by show pw2 (yN bs k)+1≤_;have:=zjD hb hk;omega)) h.hfl
theorem znw (h:AtsOk n ats) (hb:∀b∈bs,b<256) (hs:SlsV 128 3 (FacG 61 3 FP.vq15) w vf (zB (zbM bs) 0 ats)):Calls Tryz.prog 15 #[.iface 47 (.agg #[.iface 39 (.agg #[]),.iface 40 (.agg #[])]),.int .i64 (n:Int),vf] w (RV w (fun r w'=>∃v,r = .tuple #[v,.int .i64 0]∧FP.vq22 w' v (yB FP.vq14 (zbM bs) n ats))):=
 FP.totalP_any n vf w (by have:=h.n5;omega) hs h.hw h.hok h.hcov h.hfew h.hL1 (zcE (m:=MfP FP.vq16 (zB (zbM bs) 0 ats)) (z:=FP.vq16 FP.vq14.zero) (o:=FP.vq16 FP.vq14.one) (c:=pw2 256) jd jd (ug _) (h.mfp (zc9 _) fun k hk=>by show 1+pw2 (yN bs k)+1≤_;have:=zjD hb hk;omega)) h.hfl
theorem znx (h:AtsOk n ats) (hs:SlsV 140 3 (FacG 72 1 FW.vq15) w vf (zB ZE 0 ats)):Calls Tryz.prog 21 #[.iface 41 (.agg #[]),.int .i64 (n:Int),vf] w (RV w (fun r w'=>∃v,r = .tuple #[v,.int .i64 0]∧FW.vq22 w' v (yB FW.vq14 ZE n ats))):=
 FW.totalW_any n vf w (by have:=h.n5;omega) hs h.hw h.hok h.hcov h.hfew h.hL1 (by
  have h1:MfP FW.vq16 (zB ZE 0 ats)≤(12*1) ^ 6:=h.mfp (ug _) fun _ _=>ug _
  have h2:(12*1) ^ 6=2985984:=rfl
  have h3:FW.vq16 FW.vq14.zero=1:=rfl
  have h4:FW.vq16 FW.vq14.one=1:=rfl
  rw[h3,h4]
  show _≤3000000
  omega) h.hfl
end
def toA (x:zg9):List Nat×List (List Int):=(x.1.map Int.toNat,x.2.2)
theorem All2.mapR {α β γ:Type} {R:α→β→Prop} {Q:α→γ→Prop} {f:β→γ}:∀ {l:List α} {m:List β},(∀a b,b∈m→R a b→Q a (f b))→All2 R l m→All2 Q l (m.map f)
 |[],[],_,_=>trivial
 |_ :: _,[],_,h=>h.elim
 |[],_ :: _,_,h=>h.elim
 |a :: l,b :: m,hq,h=>⟨hq a b (List.mem_cons_self ..) h.1,All2.mapR (fun c d hd=>hq c d (uq _ hd)) h.2⟩
theorem zsy {x:List Int} (h:∀y∈x,0≤y):zu (x.map Int.toNat)=x:=by
 unfold zu;rw[List.map_map];conv=>rhs;rw[←List.map_id x]
 exact List.map_congr_left fun y hy=>Int.toNat_of_nonneg (h y hy)
theorem zkX {u:Value} {x:List Int} (h:IntzV w u x) (hp:∀y∈x,0≤y):IntsV w u (x.map Int.toNat):=by
 obtain⟨A,n,c,rfl,h1,h2,h3,h4⟩:=h;refine⟨A,n,c,rfl,h1,by rw[zsy hp];exact h2,⟨by simp;exact h3.1,jo⟩,fun y hy=>?_⟩;obtain⟨z,hz,rfl⟩:=List.mem_map.1 hy;have:=h4 z hz;omega
theorem zhh {v:Value} {xs:List zg9} (h:SlsV 95 3 (AtZ none) w v xs) (hp:∀x∈xs,(∀y∈x.1,0≤y)∧x.2.1=x.1.length):SlsV 95 3 AtC w v (xs.map toA):=by
 obtain⟨A,n,c,e,h1,⟨cl,h2,h3,h4,h5⟩,h6⟩:=h;refine⟨A,n,c,e,h1,⟨cl,by rw[uy];exact h2,h3,h4,All2.mapR (fun cs x hx hr=>?_) h5⟩,h6⟩;obtain⟨u,b,e,q1,q2,-⟩:=hr;have hq:=hp x hx;refine⟨u,b,?_,zkX q1 hq.1,q2⟩;rw[e,hq.2];show [_,Value.int .i64 ((x.1.length:Nat):Int),b]=[u,.int .i64 (((x.1.map Int.toNat).length:Nat):Int),b];rw[uy]
theorem vm7 {P:Prop} (h:P:=by
 obtain⟨A,m,mc,rfl,-⟩:=id hv;obtain⟨C,c,rfl,-,-,hn5⟩:=hr.form;obtain⟨n,hn⟩:∃x,x=rows.length:=⟨_,rfl⟩;rw[←hn] at hr hn5 ⊢;have HV:=vh hv;have HR:=vh hr;have HN:=vh hn;clear hv hr hn;first | go_enter Tryz.func31,Tryz.ntmps31 | go_enter Tryz.func38,Tryz.ntmps38 | go_enter Tryz.func40,Tryz.ntmps40 | go_enter Tryz.func44,Tryz.ntmps44
 go_upto_region 1 with (fail);obtain⟨w1_0,hw0⟩:∃x,x=w.alloc (.cells #[.slice A m mc,.int .i64 ar,.slice C n c] 95):=⟨_,rfl⟩;rw[←hw0];have hs0:w1_0.heap.size=w.heap.size+1:=by rw[hw0];simp
 have ha0:Below w.heap.size w w1_0:=by rw[hw0];exact al _ _
 obtain⟨g3,hg0⟩:∃g,g=w.heap.size:=⟨_,rfl⟩;have hx0:Blk w1_0 g3 95 #[.slice A m mc,.int .i64 ar,.slice C n c]:=by rw[hw0,hg0];exact Blk.new _ _ _
 obtain⟨w1,hw1⟩:∃x,x=w1_0.alloc (.cells #[.slice none 0 0,.slice none 0 0,.slice none 0 0] vq1):=⟨_,rfl⟩;rw[←hw1];have hs1:w1.heap.size=w.heap.size+1+1:=by rw[hw1];simp[hs0]
 have ha1:Below w1_0.heap.size w1_0 w1:=by rw[hw1];exact al _ _
 obtain⟨g4,hg1⟩:∃g,g=w.heap.size+1:=⟨_,rfl⟩;have hx1:Blk w1 g4 vq1 #[.slice none 0 0,.slice none 0 0,.slice none 0 0]:=by rw[hw1,hg1,←hs0];exact Blk.new _ _ _
 rw[←hg1,←hg0];have X3:=vh (hx0.keep ha1);have G3:=vh (show w.heap.size≤g3 by omega);have X4:=vh hx1;have G4:=vh (show w.heap.size≤g4 by omega);have HB1:=vh (show Below w.heap.size w w1 from(ze ha0 ha1 jo));clear hw1 hs1 ha1 hg1 hx1 hw0 hs0 ha0 hg0 hx0;refine zt (kss:=[[],[(0,6)],[(1,7)],[],[(3,9)],[(4,10)],[(2,8),(5,11)],[]]) [(3,.pointer (some (⟨g3,0,none⟩)))] [EV (.pointer (some (⟨g3,0,none⟩))),EV (.slice A m mc),fun zz ww=>IntsV ww zz vars,EV (.pointer (some (⟨g3,1,none⟩))),EV (.agg #[.int .i64 ar,.slice C n c]),fun zz ww=>RowsV ww zz rows,fun zz ww=>∃(P1:Option Addr) (m1 k1:Nat) (P2:Option Addr) (m2 k2:Nat),zz = .agg #[.slice P1 m1 k1,.slice P2 m2 k2,.slice none 0 0]∧IntsV ww (.slice P1 m1 k1) vars∧RowsV ww (.slice P2 m2 k2) rows,fun zz ww=>∃g:Nat,zz = .pointer (some ⟨g,0,none⟩)∧w1.heap.size≤g∧Blk ww g vq1 #[.slice none 0 0,.slice none 0 0,.slice none 0 0]] 8 [] vk vk vt [false,false,false,false,false,false,false,false] ?_ ?_ ?_ ?_
 ·exact fun i hi=>absurd hi vz
 ·exact⟨eI,eI,fun _ _ _ h hb=>h.below hb,eI,eI,fun _ _ _ h hb=>RowsV.below h hb,fun _ _ _ ⟨a,b,c,d,e,f,h1,h2,h3⟩ hb=>⟨a,b,c,d,e,f,h1,h2.below hb,RowsV.below h3 hb⟩,fun _ _ _ ⟨g,h1,h2,h3⟩ hb=>⟨g,h1,h2,h3.keep hb⟩,uC⟩
 ·exact⟨zcH,(fun aa ww hb he hd=>za rfl (zd rfl vk hd.1 (Blk.at0 X3.out hb))),(fun aa ww hb he hd=>za rfl (zq _ _ _ rfl vk (by rw[show aa.eval (.tmp 7) = .slice A m mc from hd.1];exact id (zh9 _ vars ww (HV.below (ze HB1.out hb HB1.size)))))),zeg,(fun aa ww hb he hd=>za rfl (zg (cs:=[.int .i64 ar,.slice C n c]) rfl vk vk hd.1 (Blk.at_k (l:=[.int .i64 ar,.slice C n c]) X3.out rfl hb))),(fun aa ww hb he hd=>za rfl (zq _ _ _ rfl vk (by rw[show aa.eval (.tmp 10) = .agg #[.int .i64 ar,.slice C n c] from hd.1];exact id ((zcw ar _ rows ww (RowsV.below HR.out (ze HB1.out hb HB1.size))).mono fun e w9 ⟨u,h1,h2,h3⟩=>⟨u,h1,h2.sls (by rw[←HN];exact hn5),h3⟩)))),(fun aa ww hb he hd=>za rfl (by have hq2:=hd.1;have hq3:=hd.2.1;obtain⟨A2,n2,c2,e2,-⟩:=id hq2;obtain⟨A3,c3,e3,-⟩:=hq3.form;rw[e2] at hq2;rw[e3] at hq3;exact zk (yR (cells:=#[.slice A2 _ c2,.slice A3 _ c3,.slice none 0 0]) rfl e2 e3 vk) (fun _ _ ⟨h1,h2⟩=>⟨⟨_,_,_,_,_,_,h1,hq2.below h2,RowsV.below hq3 h2⟩,h2⟩))),(fun aa ww hb he hd=>za rfl (zk (vq48 rfl) zn6)),uC⟩
 intro vs w2 hb hR _;have r12:=hR 6 jd;have r5:=hR 7 jd;clear hR;refine vs0 ?_;obtain⟨P1,m1,k1,P2,m2,k2,e12,hi1,hr1⟩:=r12;obtain⟨g5,e5,hg5,hx5⟩:=r5;rw[e12,e5];clear e12 e5;refine zA (i:=8) vk rfl rfl (zC (vs:=[.slice P1 m1 k1,.slice P2 m2 k2,.slice none 0 0]) (off:=0) rfl rfl vk rfl rfl rfl hx5 vj4 (fun j _ _ x=>zD rfl j x) ?_);intro w3 kn hg hs hb3;refine zR vk (zy ?_) _;have kd:KD [3,87,89,26,95] w2 w3:=KD.blk hx5 hg kn rfl;have hlt4:g4<g5:=by have h1:=X4.lt;omega
 have hgw5:w.heap.size≤g5:=ud HB1.size hg5;have hg53:g5≤w3.heap.size:=by rw[hs];exact uA hx5.lt
 have HI:=vh (show IntsV w3 (.slice P1 m1 k1) vars∧RowsV w3 (.slice P2 m2 k2) rows∧Blk w3 g5 vq1 #[.slice P1 m1 k1,.slice P2 m2 k2,(.slice none 0 0)]∧OwnL vq7 vq8 vq15 w3 g5 (.slice none 0 0) (List.replicate 0 vq14.one)∧Below g5 w3 w3∧g5≤w3.heap.size from⟨hi1.kd kd rfl,RowsV.kd hr1 kd rfl rfl,hb3,OwnL.nil _ _,ue _ _,hg53⟩);have HX4:=vh (show Blk w3 g4 vq1 #[.slice none 0 0,.slice none 0 0,.slice none 0 0] from(X4.keep hb).grown hg (fun e=>by injection e with e;omega));have HB3:=vh (show Below w.heap.size w w3 from(ze HB1.out hb HB1.size).grown hg (ud HB1.size hb.size) (fun k e=>by cases e;exact hgw5));have HLt:=vh (uh hlt4 (uh hgw5 hg53));have hm2:m2=n:=by obtain⟨A9,c9,e,-⟩:=hr1.form;injection e with _ e _;rw[e,HN]
 clear hi1 hr1 hx5 kn hg hs hb3 kd hb hlt4 hgw5 hg5 hg53 X3 X4 HB1;subst hm2;have z1:=Blk.at1 HI.2.2.1 (ue _ _);go_wp2_with fail;clear z1;go_loopg [16] m2 (fun g iv wr=>∃(i:Nat) (sv:Value),iv = .int .i64 i∧i+g=m2∧Hid (IntsV wr (.slice P1 m1 k1) vars∧RowsV wr (.slice P2 m2 k2) rows∧Blk wr g5 vq1 #[.slice P1 m1 k1,.slice P2 m2 k2,sv]∧OwnL vq7 vq8 vq15 wr g5 sv (List.replicate i vq14.one)∧Below g5 w3 wr∧g5≤wr.heap.size));case atStart=>exact⟨0,_,rfl,jo,HI⟩
 case round=>
  obtain⟨i,sv,rfl,hio,HJ⟩:=hrel;clear HI;by_cases hi:i<m2
  ·have i1:((i:Int)<(m2:Int)):=jo;obtain⟨cl2,h21,h22,h23⟩:=HJ.2.2.2.1;have HO1:=vh h22;have HX5:=vh HJ.2.2.1;have HS5:=vh HJ.2.2.2.2.2;have HA1:=vh (uh h21 h23);have HOk:=vh HJ.2.2.2.1.len;clear h21 h22 h23;go_upto_region 4 with (fail);refine yn (kss:=[[],[(0,18)],[],[(2,20)],[(3,21)],[(1,19),(4,22)],[],[(5,23),(6,24)]]) (PuI g5 [3,87,89,26] wr) (PuE g5 vq7 vq8 sv ((List.replicate i vq14.one).length) cl2.flatten g5 vq1 #[.slice P1 m1 k1,.slice P2 m2 k2,sv]) [(5,.pointer (some (⟨g5,0,none⟩))),(0,vq65)] [EV (.pointer (some (⟨g5,2,none⟩))),EV (sv),EV (vq65),fun zz ww=>vq22 ww zz (vq14.one),fun zz ww=>∃(g:Nat) (c0:List Value),zz = .slice (some ⟨g,0,none⟩) 1 1∧Blk ww g vq7 c0.toArray∧c0.length=vq8∧c0.all okC=true∧vq15 ww c0 (vq14.one),fun zz ww=>∃c0:List Value,c0.length=vq8∧OwnC ww g5 vq7 vq8 zz ((List.replicate i vq14.one).length+1) (cl2.flatten++c0)∧vq15 ww c0 (vq14.one),EV (.pointer (some (⟨g5,2,none⟩))),fun _ ww=>∃(sv':Value) (c0:List Value),c0.length=vq8∧Blk ww g5 vq1 #[.slice P1 m1 k1,.slice P2 m2 k2,sv']∧OwnC ww g5 vq7 vq8 sv' ((List.replicate i vq14.one).length+1) (cl2.flatten++c0)∧vq15 ww c0 (vq14.one)] 8 [(5,PuA g5 vq7 vq8 sv ((List.replicate i vq14.one).length) cl2.flatten),(7,PuS g5 vq1 #[.slice P1 m1 k1,.slice P2 m2 k2,sv])] [(5,4),(7,4),(5,7)] [(5,0),(7,1)] vk vk vk vt (PuI.start HS5.out) (PuE.all HO1.out HX5.out) zcJ PuE.below ?_ ?_ ?_ ?_
   ·exact vt27
   ·exact vt28
   ·refine⟨?_,?_,?_,?_,?_,?_,?_,?_,uC⟩
    ·exact zhp
    ·exact zpR
    ·exact zsM
    ·first
     |guard_expr ins =~ 2
      exact zf rfl (fun aa ww hI hE he hd=>za rfl (yQ _ rfl hd.1 zeF vk QA.p_one))
     |exact zf rfl (fun aa ww hI hE he hd=>za rfl (yQ _ rfl hd.1 vq42 vk vq43))
    ·exact zf rfl (fun aa ww hI hE he hd=>have hb:=ue ww.heap.size ww;za rfl (by obtain⟨c0,e1,e2,e3,e4⟩:=vq15.of (show vq22 ww (tv aa 21) (vq14.one) from hd.1);exact zk (zP (e:=vq7) (k:=vq8) rfl vk vk jd rfl (by rw[show tv aa 21=_ from rfl,e1];simpa using e2)) ztd))
    ·exact yx rfl rfl (fun aa ww hI hE he hd=>(by obtain⟨g9,c0,h1,h3,h4,h5,h6⟩:=hd.2.1;exact zk (Yb (s:= .tmp 19) (x:= .tmp 22) (e:=vq7) (k:=vq8) rfl vk vk g5 sv _ _ hd.1 (hE 0 vk) g9 _ h1 h3 (by simpa using h4) (by simpa using h5) (by rw[List.length_replicate];omega) hI.size) zte))
    ·exact zhp
    ·exact yx rfl rfl (fun aa ww hI hE he hd=>(by obtain⟨c0,h0,h1,h2⟩:=hd.1;exact zk (Yt (g:=g5) (off:=2) rfl vk hd.2.1 rfl h1.ok (hE 1 vk) vz (Yk HOk.out rfl)) ztf))
   intro vs w9 hI hR;obtain⟨sv',c0,hc0,hbx,hos,hrc⟩:=hR 7 jd vk;clear hR;refine Yr vk (zy ?_) _;refine vs0 ?_;have HK:=vh (show IntsV w9 (.slice P1 m1 k1) vars∧RowsV w9 (.slice P2 m2 k2) rows∧Blk w9 g5 vq1 #[.slice P1 m1 k1,.slice P2 m2 k2,sv']∧OwnL vq7 vq8 vq15 w9 g5 sv' (List.replicate (i+1) vq14.one)∧Below g5 w3 w9∧g5≤w9.heap.size from⟨HJ.1.kd hI.k rfl,RowsV.kd HJ.2.1 hI.k rfl rfl,hbx,by rw[List.replicate_succ'];exact OwnL.push HA1.1 HA1.2 hos hc0 zn7 hrc,HJ.2.2.2.2.1.trans hI.b,hI.size⟩);clear hI hbx hos hc0 hrc HO1 HX5 HS5 HA1 HOk HJ;go_wp2_with fail;go_roundg (gk - 1);case measure=>omega
   case rel=>exact⟨i+1,_,vj1,jo,HK⟩
  ·obtain rfl:m2=i:=jo;obtain⟨cl2,h21,h22,h23⟩:=HJ.2.2.2.1;obtain⟨P3,k3,rfl⟩:=zF h22.own;have HJ2:=vh HJ.out;clear h21 h22 h23 HJ;obtain⟨n3,hn3⟩:∃x,x=(List.replicate m2 vq14.one).length:=⟨_,rfl⟩;rw[←hn3] at HJ2;have HN3:=vh hn3;clear hn3;have HX5:=vh HJ2.2.2.1;go_upto_region 6 with (fail);refine zc (kss:=[[]]) [(5,.pointer (some (⟨g5,0,none⟩)))] [EV (.agg #[.slice P1 m1 k1,.slice P2 m2 k2,.slice P3 n3 k3])] 1 vk vt [false] ?_ ?_ ?_
   ·exact js
   ·exact⟨(fun aa ww hb he hd=>za rfl (zg (cs:=[.slice P1 m1 k1,.slice P2 m2 k2,.slice P3 n3 k3]) rfl vk vk he.1 (Blk.at_k HX5.out rfl hb))),uC⟩
   intro vs w8 hb hR;refine vw0 ?_;clear hR;have hx4:=(HX4.low HJ2.2.2.2.2.1 HLt.1).keep hb;show wpOps _ _ _ [1] _ _;refine zb rfl rfl (zC (vs:=[.slice P1 m1 k1,.slice P2 m2 k2,.slice P3 n3 k3]) (off:=0) rfl rfl vk rfl rfl rfl hx4 vj4 (fun j _ _ x=>zD rfl j x) ?_);intro w9 kn hg hs hb9;have kd:KD [3,87,89,vq7,26] w8 w9:=KD.blk hx4 hg kn rfl;have HP9:=vh (show IntsV w9 (.slice P1 m1 k1) vars∧RowsV w9 (.slice P2 m2 k2) rows∧OwnL vq7 vq8 vq15 w9 w.heap.size (.slice P3 n3 k3) (List.replicate m2 vq14.one) from⟨(HJ2.1.below hb).kd kd rfl,RowsV.kd (RowsV.below HJ2.2.1 hb) kd rfl rfl,OwnL.lower ((HJ2.2.2.2.1.below hb vj3).kd kd rfl zf6) HLt.2.1⟩);have HX9:=vh (show Blk w9 g4 vq1 #[.slice P1 m1 k1,.slice P2 m2 k2,.slice P3 n3 k3] from hb9);have HB9:=vh (show Below w.heap.size w w9 from(HB3.trans ((HJ2.2.2.2.2.1.trans (hb.mono HJ2.2.2.2.2.2)).mono HLt.2.1)).grown hg (ud HLt.2.1 (ud HJ2.2.2.2.2.2 hb.size)) (fun k e=>by cases e;exact G4.out));clear kn hg hs hb9 kd hx4 hb HJ2 HX5 HX4 HB3;unfold wpOps;go_wp2_with fail;refine bodyPost_ret (v:= .agg #[.slice P1 m1 k1,.slice P2 m2 k2,.slice P3 n3 k3]) (results_cell_row vq49 _ _ _ _ _ (0,0) _ rfl HX9.out vq10 rfl vk) rfl ?_;exact⟨_,rfl,⟨_,_,_,rfl,HP9.1,HP9.2.1,HP9.2.2⟩,HB9.out⟩):P:=h
def zpE (vqU:Type) (vq50:Nat) (vqS:Value) (vq7:Nat) (vq8:Nat) (vq15:World→List Value→vqU→Prop) (vq14:CSr vqU):Prop:=∀(ar:Int) (v u:Value) (vars:List Nat) (rows:List (List Int)) (w:World) (hv:IntsV w v vars) (hr:RowsV w u rows),Calls Tryz.prog vq50 #[vqS,.agg #[v,.int .i64 ar,u]] w (RV w (fun r w'=>FrR vq7 vq8 vq15 w.heap.size w' r vars rows (List.replicate rows.length vq14.one)))
theorem FN.vq51:zpE Nat 31 (.iface 39 (.agg #[])) 32 1 FN.vq15 FN.vq14:=by
 intro ar v u vars rows w hv hr;exact vm7
section
variable {o : Oper} {a : Act} {w : World} {t : Tmp}
theorem zkY {v:Value} (ho:o.op = .makeInterface T (.tmp t)) (hT:Tryz.prog.concrete T=true) (h:tv a t=v):zp Tryz.prog o a.eval w (fun z w'=>z = .iface T v∧Below w.heap.size w w'):=by
 refine zo (.iface T v) ?_ ⟨rfl,ue _ _⟩;unfold execOp;rw[ho];simp only[zK,h];rw[Sem.run_bind,run_makeInterface (h:=hT)];rfl
theorem zkZ {v:Value} (ho:o.op = .makeFunc (.func k) #[] #[.tmp t]) (h:tv a t=v):zp Tryz.prog o a.eval w (fun z w'=>z = .func (.func k) #[] #[v]∧Below w.heap.size w w'):=by
 refine zo (.func (.func k) #[] #[v]) ?_ ⟨rfl,ue _ _⟩;have hh:a.eval (.tmp t)=v:=h;unfold execOp;rw[ho];simp[Instr.makeFunc,hh,Result.andThen]
theorem zhi {x:Nat} (hx:x<256) (ho:o.op = .convert 5 3 (.tmp t)) (h:tv a t = .int .u8 (x:Int)):zp Tryz.prog o a.eval w (fun v w'=>v = .int .i64 (x:Int)∧Below w.heap.size w w'):=by
 exact vt44
theorem zhj {u:Tmp} {A B C A' B' C':Option Addr} {n d e n' c' m' d' k' e':Nat} (ho:o.op = .buildSlice 53 2 #[(0,.tmp t),(1,.tmp u)]) (h:tv a t = .agg #[.slice A n c,.slice B m d,.slice C k e]) (h2:tv a u = .agg #[.slice A' n' c',.slice B' m' d',.slice C' k' e']):zp Tryz.prog o a.eval w (fun z w'=>(∃g:Nat,z = .slice (some ⟨g,0,none⟩) 2 2∧Blk w' g 104 #[.slice A n c,.slice B m d,.slice C k e,.slice A' n' c',.slice B' m' d',.slice C' k' e'])∧Below w.heap.size w w'):=by
 have hr:(execOp a.eval o).run Tryz.prog w = .ok (.value (.slice (some ⟨w.heap.size,0,none⟩) 2 2)) (w.alloc (.cells #[.slice A n c,.slice B m d,.slice C k e,.slice A' n' c',.slice B' m' d',.slice C' k' e'] 104)):=by
  unfold execOp;rw[ho];have q1:a.eval (.tmp t)=_:=h;have q2:a.eval (.tmp u)=_:=h2;simp only[List.map_toArray,List.map_cons,List.map_nil,q1,q2];go_simp;try rfl
 exact zcY
end
theorem zf3 {R:World→List Value→S→Prop} {g:Nat} {cs:Array Value} {cl:List (List Value)} {xs:List S} (h:Blk w g T cs) (hcs:cs.toList=cl.flatten) (hk:∀c∈cl,c.length=k) (hR:All2 (R w) cl xs):LsR k R w (some ⟨g,0,none⟩) xs:=
 ⟨cl,hk,⟨by rw[YC hk,hR.len],fun _=>⟨_,rfl,h.lt,fun j u hu=>by rw[yy,h.cell,←Array.getElem?_toList,hcs];exact hu⟩⟩,hR⟩
theorem zhk (w:World) (a b c:Obj):Below w.heap.size w (((w.alloc a).alloc b).alloc c):=ze (ze (al w a) (al _ b) (al w a).size) (al _ c) (ze (al w a) (al _ b) (al w a).size).size
def zpF:List AIn:=[(3,[[1,2,0,0],[1,3,0,0]],0),(2,[[2,0,0,0],[3,0,0,0]],0)]
theorem zsz (w:World):ArgA (((w.alloc (.cells #[.int .u8 1,.int .u8 2,.int .u8 0,.int .u8 0,.int .u8 1,.int .u8 3,.int .u8 0,.int .u8 0] 85)).alloc (.cells #[.int .u8 2,.int .u8 0,.int .u8 0,.int .u8 0,.int .u8 3,.int .u8 0,.int .u8 0,.int .u8 0] 85)).alloc (.cells #[.int .u8 3,.slice (some ⟨w.heap.size,0,none⟩) 2 2,.int .u8 0,.int .u8 2,.slice (some ⟨w.heap.size+1,0,none⟩) 2 2,.int .u8 0] 83)) (.slice (some ⟨w.heap.size+1+1,0,none⟩) 2 2) zpF:=by
 obtain⟨w1,h1⟩:∃y,y=w.alloc (.cells #[.int .u8 1,.int .u8 2,.int .u8 0,.int .u8 0,.int .u8 1,.int .u8 3,.int .u8 0,.int .u8 0] 85):=⟨_,rfl⟩;have b1:Blk w1 w.heap.size 85 #[.int .u8 1,.int .u8 2,.int .u8 0,.int .u8 0,.int .u8 1,.int .u8 3,.int .u8 0,.int .u8 0]:=by rw[h1];exact Blk.new _ _ _
 have s1:w1.heap.size=w.heap.size+1:=by rw[h1];simp
 rw[←h1];obtain⟨w2,h2⟩:∃y,y=w1.alloc (.cells #[.int .u8 2,.int .u8 0,.int .u8 0,.int .u8 0,.int .u8 3,.int .u8 0,.int .u8 0,.int .u8 0] 85):=⟨_,rfl⟩;have b2:Blk w2 (w.heap.size+1) 85 #[.int .u8 2,.int .u8 0,.int .u8 0,.int .u8 0,.int .u8 3,.int .u8 0,.int .u8 0,.int .u8 0]:=by rw[h2,←s1];exact Blk.new _ _ _
 have b1':=b1.keep (show Below w1.heap.size w1 w2 by rw[h2];exact al _ _);have s2:w2.heap.size=w.heap.size+1+1:=by rw[h2];simp[s1]
 rw[←h2];obtain⟨w3,h3⟩:∃y,y=w2.alloc (.cells #[.int .u8 3,.slice (some ⟨w.heap.size,0,none⟩) 2 2,.int .u8 0,.int .u8 2,.slice (some ⟨w.heap.size+1,0,none⟩) 2 2,.int .u8 0] 83):=⟨_,rfl⟩;have b3:Blk w3 (w.heap.size+1+1) 83 #[.int .u8 3,.slice (some ⟨w.heap.size,0,none⟩) 2 2,.int .u8 0,.int .u8 2,.slice (some ⟨w.heap.size+1,0,none⟩) 2 2,.int .u8 0]:=by rw[h3,←s2];exact Blk.new _ _ _
 have hb:Below w2.heap.size w2 w3:=by rw[h3];exact al _ _
 have c1:=b1'.keep hb;have c2:=b2.keep hb;rw[←h3];refine⟨_,2,rfl,zf3 (cl:=[[.int .u8 3,.slice (some ⟨w.heap.size,0,none⟩) 2 2,.int .u8 0],[.int .u8 2,.slice (some ⟨w.heap.size+1,0,none⟩) 2 2,.int .u8 0]]) b3 rfl vz ⟨⟨_,2,rfl,jd,jd,zf3 (cl:=[[.int .u8 1,.int .u8 2,.int .u8 0,.int .u8 0],[.int .u8 1,.int .u8 3,.int .u8 0,.int .u8 0]]) c1 rfl vz ⟨⟨rfl,jd,rfl⟩,⟨rfl,jd,rfl⟩,uC⟩,jd⟩,⟨_,2,rfl,jd,jd,zf3 (cl:=[[.int .u8 2,.int .u8 0,.int .u8 0,.int .u8 0],[.int .u8 3,.int .u8 0,.int .u8 0,.int .u8 0]]) c2 rfl vz ⟨⟨rfl,jd,rfl⟩,⟨rfl,jd,rfl⟩,uC⟩,jd⟩,uC⟩,jd⟩
theorem zpG:∀a∈zpF,gdA a:=by
 intro a ha;simp only[zpF,List.mem_cons,List.not_mem_nil,or_false] at ha;rcases ha with rfl | rfl <;> exact⟨jd,jd⟩
theorem zjE (n off:Nat):((List.range n).map fun j=>ZF (off+j))=List.replicate n 1:=by
 show (List.range n).map (fun _=>1)=_;rw[List.map_const',List.length_range]
theorem zjF {v:Value} {vs:List Nat} {rs:List (List Int)} {us:List Nat} (h:FrR 32 1 FN.vq15 B w v vs rs us):∃A n c A' n' c' A9 n9 c9,v = .agg #[.slice A n c,.slice A' n' c',.slice A9 n9 c9]∧IntsV w (.slice A n c) vs∧RowsV w (.slice A' n' c') rs∧OwnL 32 1 FN.vq15 w B (.slice A9 n9 c9) us:=by
 obtain⟨a,b,c,e,h1,h2,h3⟩:=h;obtain⟨A,n,c1,rfl,-⟩:=id h1;obtain⟨A',c2,rfl,-⟩:=h2.form;obtain⟨cl,q1,q2,q3⟩:=id h3;obtain⟨A9,c3,rfl⟩:=zF q2.own;exact⟨_,_,_,_,_,_,_,_,_,e,h1,h2,h3⟩
theorem zpH {o:Oper} {a:Act} {t u:Tmp} {x y:List Nat} {r s:List (List Int)} (ho:o.op = .buildSlice 53 2 #[(0,.tmp t),(1,.tmp u)]) (h1:FrR 32 1 FN.vq15 B w (tv a t) x r (List.replicate r.length 1)) (h2:FrR 32 1 FN.vq15 B w (tv a u) y s (List.replicate s.length 1)) (hr:r.length≤12) (hs:s.length≤12):zp Tryz.prog o a.eval w (fun zz ww=>SlsV 104 3 (FacG 32 1 FN.vq15) ww zz (zB ZF 0 [(x,r),(y,s)])∧Below w.heap.size w ww):=by
 obtain⟨A,n,c,A',n',c',A9,n9,c9,e1,i1,j1,k1⟩:=zjF h1;obtain⟨B1,m,d,B',m',d',B9,m9,d9,e2,i2,j2,k2⟩:=zjF h2;refine zk (zhj ho e1 e2) ?_;rintro z w' ⟨⟨g,rfl,hb⟩,hbl⟩;refine⟨⟨_,2,2,rfl,ug _,⟨[[.slice A n c,.slice A' n' c',.slice A9 n9 c9],[.slice B1 m d,.slice B' m' d',.slice B9 m9 d9]],rfl,vz,RdT.of_blk hb rfl,⟨⟨_,_,_,rfl,i1.below hbl,RowsV.below j1 hbl,?_⟩,⟨_,_,_,rfl,i2.below hbl,RowsV.below j2 hbl,?_⟩,uC⟩⟩,jo⟩,hbl⟩
 ·show SlsV 32 1 FN.vq15 w' _ ((List.range r.length).map fun j=>ZF (0+j));rw[zjE];exact(k1.below hbl (fun _ _ h=>h.kd (KD.below hbl))).sls vj2
 ·show SlsV 32 1 FN.vq15 w' _ ((List.range s.length).map fun j=>ZF (0+r.length+j));rw[zjE];exact(k2.below hbl (fun _ _ h=>h.kd (KD.below hbl))).sls vj2
theorem zsA {xs:List zg9} (h:All2 MdR zpF xs):∃r s,xs=[([0,1],2,r),([1],1,s)]∧AtsOk 2 [([0,1],r),([1],s)]∧yB FN.vq14 ZF 2 [([0,1],r),([1],s)]=2:=by
 match xs,h with
 |[(a,b,r),(c,d,s)],⟨⟨h1,h2,h3,h4,h5⟩,⟨k1,k2,k3,k4,k5⟩,_⟩=>
  have e1:Yx 3 8=[0,1]:=jd;have e2:Yx 2 8=[1]:=jd;have h1':a=YX 0 (Yx 3 8):=h1;have h2':b=(Yx 3 8).length:=h2;have k1':c=YX 0 (Yx 2 8):=k1;have k2':d=(Yx 2 8).length:=k2;rw[e1] at h1' h2';rw[e2] at k1' k2';subst h1';subst h2';subst k1';subst k2';have h3':RsOk 2 r:=h3;have k3':RsOk 1 s:=k3;have hr:∀q,q∈r↔q∈([[1,2],[1,3]]:List (List Int)):=h4;have hs:∀q,q∈s↔q∈([[2],[3]]:List (List Int)):=k4;have hw:WfA 2 [([0,1],r),([1],s)]:=fun x hx=>by
   rcases List.mem_cons.1 hx with rfl | hx
   ·exact⟨show Vrs 2 [0,1] from⟨jd,jd⟩,h3'⟩
   ·rw[List.mem_singleton.1 hx];exact⟨show Vrs 2 [1] from⟨jd,jd⟩,k3'⟩
  have hcv:∀v,v<2→∃x∈([([0,1],r),([1],s)]:AtL),v∈x.1:=fun v hv=>⟨_,List.mem_cons_self ..,by
   show v∈[0,1]
   have:v=0∨v=1:=jo
   rcases this with rfl | rfl <;> decide⟩
  refine⟨r,s,rfl,⟨jo,hw,by show 2≤6;omega,fun x hx=>?_,hcv⟩,?_⟩
  ·rcases List.mem_cons.1 hx with rfl | hx
   ·exact h5
   ·rw[List.mem_singleton.1 hx];exact k5
  ·rw[zjz jo hw];have e:yA [([0,1],r),([1],s)] 2 0 (fun _=>0)=yA [([0,1],[[1,2],[1,3]]),([1],[[2],[3]])] 2 0 (fun _=>0):=by
    unfold yA;refine YH FN.vq14 (fun y=>?_) _ _;have:zax [([0,1],r),([1],s)] y↔zax [([0,1],[[1,2],[1,3]]),([1],[[2],[3]])] y:=by
     rw[alla_cons,alla_cons,alla_cons,alla_cons];exact and_congr (hr _) (and_congr (hs _) ⟨fun _=>zec y,fun _=>zec y⟩)
    by_cases hy:zax [([0,1],r),([1],s)] y
    ·rw[if_pos hy,if_pos (this.1 hy)]
    ·rw[if_neg hy,if_neg (fun h=>hy (this.2 h))]
   rw[e];decide
theorem zae (w:World):Calls Tryz.prog 6 #[] w fun e w'=>e = .returned (.bool true)∧Below w.heap.size w w':=by
 go_enter Tryz.func6,Tryz.ntmps6;go_wp2_with fail;refine(zea (zsz w)).mono ?_;rintro e w4 ⟨u2,u3,u4,b,rfl,hb,hif,hres⟩;have hb1:=hif.2 ⟨jd,zpG⟩;subst hb1;obtain⟨xs,hA,h2,-,-⟩:=hres rfl;obtain⟨r,s,rfl,hok,htot⟩:=zsA hA;have hat:=zhh h2 (fun x hx=>by
  rcases List.mem_cons.1 hx with rfl | hx
  ·exact⟨show ∀y∈([0,1]:List Int),0≤y by decide,rfl⟩
  ·rw[List.mem_singleton.1 hx];exact⟨show ∀y∈([1]:List Int),0≤y by decide,rfl⟩)
 have hbw:Below w.heap.size w w4:=ze (zhk _ _ _ _) hb (zhk _ _ _ _).size;have HW:=vh hbw;have HOk:=vh hok;have HT:=vh htot;obtain⟨A2,n2,c2,rfl,h2c,hl2,-⟩:=id hat;have hn2:n2=2:=hl2.len;subst hn2;have HAt:=vh hat;clear hif hres hA h2 hok htot hbw hat hl2 h2c hb;go_upto_region 5 with (fail);obtain⟨w5,hw5⟩:∃y,y=w4.alloc (.cells #[] 39):=⟨_,rfl⟩;have hb5:Below w4.heap.size w4 w5:=by rw[hw5];exact al _ _
 rw[←hw5];obtain⟨g5,hg5⟩:∃y,y=w4.heap.size:=⟨_,rfl⟩;rw[←hg5];have HA5:=vh (SlsV.below HAt.out hb5 (fun _ _ h=>AtC.below h hb5));have HW5:=vh (HW.trans (hb5.mono HW.size));clear hw5 hg5 hb5 HAt HW;obtain⟨a1,c1,q1,-,m1,v1,d1,rfl,i1,j1⟩:=HA5.atA (show (List.map toA [([0,1],2,r),([1],1,s)])[0]? = some ([0,1],r) from rfl);obtain⟨a2,c2',q2,-,m2,v2,d2,rfl,i2,j2⟩:=HA5.atA (show (List.map toA [([0,1],2,r),([1],1,s)])[1]? = some ([1],s) from rfl);rw[q1] at q2;injection q2 with q2;subst q2;subst q1;have HM1:=vh m1;have HM2:=vh m2;have HI1:=vh i1;have HI2:=vh i2;have HJ1:=vh j1;have HJ2:=vh j2;clear m1 m2 i1 i2 j1 j2 HA5;refine wp_region_each (kss:=[[],[(0,32)],[],[(2,34)],[],[(4,36)],[(5,37)],[(3,35),(6,38)],[],[(8,40)],[],[(10,42)],[(11,43)],[(9,41),(12,44)],[(7,39),(13,45)],[(1,33),(14,46)],[(15,47)],[(16,31)],[(16,31)],[(17,48)],[(18,49)]]) [(5,.pointer (some (⟨g5,0,none⟩))),(1,.slice ((some a1)) 2 c2)] [EV (.agg #[]),EV (.iface 39 (.agg #[])),EV (.agg #[]),EV (.iface 39 (.agg #[])),EV (.slice ((some a1)) 2 c2),EV (.pointer (some (Addr.add a1 (0*3)))),EV (.agg #[v1,.int .i64 2,d1]),fun zz ww=>FrR 32 1 FN.vq15 w5.heap.size ww zz [0,1] r (List.replicate r.length 1),EV (.agg #[]),EV (.iface 39 (.agg #[])),EV (.slice ((some a1)) 2 c2),EV (.pointer (some (Addr.add a1 (1*3)))),EV (.agg #[v2,.int .i64 1,d2]),fun zz ww=>FrR 32 1 FN.vq15 w5.heap.size ww zz [1] s (List.replicate s.length 1),fun zz ww=>SlsV 104 3 (FacG 32 1 FN.vq15) ww zz (zB ZF 0 [([0,1],r),([1],s)]),fun zz ww=>∃v,zz = .tuple #[v,.int .i64 0]∧FN.vq22 ww v 2,fun zz ww=>∃v,zz = .tuple #[v,.int .i64 0]∧FN.vq22 ww v 2,fun zz ww=>FN.vq22 ww zz 2,EV (.int .i64 0),fun zz ww=>FN.vq22 ww zz 2,EV (.int .i64 0)] vk vk vt ?_ ?_ ?_
 ·exact⟨eI,eI,eI,eI,eI,eI,eI,fun _ _ _ h hb=>FrR.below h hb vj3,eI,eI,eI,eI,eI,fun _ _ _ h hb=>FrR.below h hb vj3,fun _ _ _ h hb=>SlsV.below h hb (fun _ _ h=>FacG.below h hb vj3),fun _ _ _ ⟨v,h1,h2⟩ hb=>⟨v,h1,h2.keepN (KeepsN.below hb)⟩,fun _ _ _ ⟨v,h1,h2⟩ hb=>⟨v,h1,h2.keepN (KeepsN.below hb)⟩,fun _ _ _ h hb=>h.keepN (KeepsN.below hb),eI,fun _ _ _ h hb=>h.keepN (KeepsN.below hb),eI,uC⟩
 ·exact⟨zcI,zei,zcI,zei,vi1,(fun aa ww hb he hd=>za rfl (zm (e:=95) (s:=3) (k:=0) rfl vk jo hd.1 rfl)),(fun aa ww hb he hd=>za rfl (zg (cs:=[v1,.int .i64 2,d1]) rfl vk vk hd.1 (fun j u hj=>(hb.cell (zh (HM1.out j u hj))).trans (HM1.out j u hj)))),(fun aa ww hb he hd=>za rfl (zE _ _ _ _ rfl vk (by rw[show aa.eval (.tmp 35)=_ from hd.1,show aa.eval (.tmp 38)=_ from hd.2.1];exact(FN.vq51 _ _ _ [0,1] r ww (HI1.below hb) (RowsV.below HJ1.out hb)).mono fun e w9 ⟨u,h1,h2,h3⟩=>⟨u,h1,FrR.lower h2 hb.size,h3⟩))),zcI,zei,vi1,(fun aa ww hb he hd=>za rfl (zm (e:=95) (s:=3) (k:=1) rfl vk jo hd.1 rfl)),(fun aa ww hb he hd=>za rfl (zg (cs:=[v2,.int .i64 1,d2]) rfl vk vk hd.1 (fun j u hj=>(hb.cell (zh (HM2.out j u hj))).trans (HM2.out j u hj)))),(fun aa ww hb he hd=>za rfl (zE _ _ _ _ rfl vk (by rw[show aa.eval (.tmp 41)=_ from hd.1,show aa.eval (.tmp 44)=_ from hd.2.1];exact(FN.vq51 _ _ _ [1] s ww (HI2.below hb) (RowsV.below HJ2.out hb)).mono fun e w9 ⟨u,h1,h2,h3⟩=>⟨u,h1,FrR.lower h2 hb.size,h3⟩))),(fun aa ww hb he hd=>za rfl (zpH rfl hd.1 hd.2.1 (HOk.rows ([0,1],r) (List.mem_cons_self ..)) (HOk.rows ([1],s) (uq _ (List.mem_cons_self ..))))),(fun aa ww hb he hd=>za rfl (zM _ _ _ _ _ rfl vk (by rw[show aa.eval (.tmp 33)=_ from hd.1];exact(zhg HOk.out hd.2.1).mono fun e w9 ⟨u,h1,⟨v,h2,h3⟩,h4⟩=>⟨u,h1,⟨v,h2,by rw[HT] at h3;exact h3⟩,h4⟩))),vi2,zrD,zn2,vi3,vi3,uC⟩
 intro vs w6 hb hR;have r48:=hR 17 jd;have r49:=hR 18 jd;have r6:=hR 19 jd;have r7:=hR 20 jd;clear hR;refine vs0 ?_;rw[r49,r7];clear r49 r7 r48;obtain⟨z6,hz6⟩:∃y,y=vs 19:=⟨_,rfl⟩;rw[←hz6] at r6 ⊢;clear hz6;have HB6:=vh (HW5.trans (hb.mono HW5.size));clear hb HI1 HI2 HJ1 HJ2 HM1 HM2;obtain⟨A6,k6,c6,rfl,hn6,-⟩:=r6;have HN6:=vh hn6;clear hn6;go_upto_region 6 with (fail);refine zc (kss:=[[],[(0,50)],[(1,51)],[(2,52)],[(2,52)],[(2,52),(3,53),(4,54)],[(2,52),(5,55)],[(2,52),(6,56)]]) [(7,.int .i64 0),(6,.slice A6 k6 c6)] [EV (.int .i64 0),EV (.bool true),EV (.bool true),EV (.slice A6 k6 c6),fun zz ww=>∃A k c,zz = .slice A k c∧Num ww A k c 100 2,EV (.int .i64 0),EV (.bool true),EV (.bool true)] 8 vk vt [false,false,false,false,false,false,false,false] ?_ ?_ ?_
 ·exact⟨eI,eI,eI,eI,fun _ _ _ ⟨A,k,c,h1,h2⟩ hb=>⟨A,k,c,h1,h2.new hb⟩,eI,eI,eI,uC⟩
 ·exact⟨vi0,(fun aa ww hb he hd=>za rfl (zW 0 0 .i64 _ _ _ _ rfl hd.1 rfl ⟨ut Value.bool (rfl),ue _ _⟩)),vi2,(fun aa ww hb he hd=>zn 52 rfl vk hd.1 (zi _ rfl ⟨he.2.1,ue _ _⟩)),(fun aa ww hb he hd=>zn 52 rfl vk hd.1 (zq _ _ _ rfl vk ((zhD 2 jo ww).mono fun e w9 ⟨A,k,c,q1,q2,q3,q4⟩=>⟨_,q1,⟨A,k,c,rfl,q2.re (zc8 (ud jo zfb))⟩,q4⟩))),(fun aa ww hb he hd=>zn 52 rfl vk hd.1 (by obtain⟨A,k,c,q1,q2⟩:=hd.2.2.1;exact zE _ _ _ _ rfl vk (by rw[show aa.eval (.tmp 53)=_ from hd.2.1,show aa.eval (.tmp 54)=_ from q1];exact(zgd (HN6.new hb) q2).mono fun e w9 ⟨q3,q4⟩=>⟨_,q3,rfl,q4⟩))),(fun aa ww hb he hd=>zn 52 rfl vk hd.1 (zW 0 0 .i64 _ _ _ _ rfl hd.2.1 rfl ⟨ut Value.bool (rfl),ue _ _⟩)),zbd,uC⟩
 intro vs w7 hb hR;refine vw3 ?_;clear hR;have HB7:=vh (HB6.trans (hb.mono HB6.size));clear hb;skip;refine zb rfl rfl (zl 0 (.tmp 57) rfl rfl (.bool true) rfl ?_);refine vs1 ?_;unfold wpOps;go_wp2_with fail;go_ret;exact⟨rfl,HB7.out⟩
theorem vm8 {P:Prop} (h:P:=by
 obtain⟨O,co,rfl,-,-,hno5⟩:=h.form;obtain⟨no,hno⟩:∃x,x=ats.length:=⟨_,rfl⟩;rw[←hno] at h hno5 ⊢;have HO:=vh h;have HNo:=vh hno;have HVal:=vh hval;have HN:=vh hN;clear h hno hval hN;first | go_enter Tryz.func11,Tryz.ntmps11 | go_enter Tryz.func14,Tryz.ntmps14 | go_enter Tryz.func16,Tryz.ntmps16 | go_enter Tryz.func22,Tryz.ntmps22
 have HI:=vh (show OwnL vq1 3 (FacG vq7 vq8 vq15) w w.heap.size (.slice none 0 0) (zB val 0 (ats.take 0))∧Below w.heap.size w w∧w.heap.size≤w.heap.size from⟨OwnL.nil _ _,ue _ _,ug _⟩);go_wp2_with fail;go_loopg [15,7,8] no (fun g iv av cv wr=>∃(i:Nat) (sv:Value),iv = .int .i64 i∧av=sv∧cv = .int .i64 ((Zs (ats.take i):Nat):Int)∧i+g=no∧Hid (OwnL vq1 3 (FacG vq7 vq8 vq15) wr w.heap.size sv (zB val 0 (ats.take i))∧Below w.heap.size w wr∧w.heap.size≤wr.heap.size));case atStart=>exact⟨0,_,rfl,rfl,rfl,jo,HI⟩
 case round=>
  obtain⟨i,sv,rfl,rfl,rfl,hio,HJ⟩:=hrel;clear HI;by_cases hi:i<no
  ·have i1:((i:Int)<(no:Int)):=jo;obtain⟨xo,hxo⟩:∃x,ats[i]? = some x:=⟨_,uf (by rw[←HNo];exact hi)⟩;obtain⟨ado,cso,rfl,-,hco,hFo⟩:=HO.atA hxo;obtain⟨xo1,xo3,rfl,ho1,ho3⟩:=id hFo;obtain⟨V0,n0,c0,rfl,-⟩:=id ho1;obtain⟨D0,d0,rfl,-,-,hnr5⟩:=ho3.form;obtain⟨nr,hnr⟩:∃x,x=xo.2.length:=⟨_,rfl⟩;rw[←hnr] at hco ho3 hFo hnr5;obtain⟨off,hoff⟩:∃x,x=Zs (ats.take i):=⟨_,rfl⟩;rw[←hoff];have hoffn:off+nr≤N:=by rw[hoff,hnr];exact ud (zo8 hxo) HN.1
   have hstep:Zs (ats.take (i+1))=off+nr:=by rw[hoff,hnr];exact ze6 hxo
   have hfac:zB val 0 (ats.take (i+1))=zB val 0 (ats.take i)++[⟨xo.1,xo.2,(List.range nr).map fun j=>val (off+j)⟩]:=by rw[hoff,hnr];exact zfW val hxo
   have HCo:=vh hco;have HO1:=vh ho1;have HO3:=vh ho3;have HNr:=vh hnr;have HOff:=vh hoffn;have HStep:=vh (uh hstep hfac);have hN6:=HN.2;clear hco ho1 ho3 hFo hnr hoff hoffn hstep hfac hxo;have hofb:off≤1000000:=by have:=HOff.out;omega
   have hnrb:off+nr≤1000000:=by have:=HOff.out;omega
   clear hN6;go_upto_region 5 with (fail);refine zc (kss:=[[],[(0,17)]]) [(13,.slice ((some ado)) no co),(15,.int .i64 ((i:Int)))] [EV (.pointer (some (Addr.add ado (i*3)))),EV (.agg #[.slice V0 n0 c0,.int .i64 ((xo.1.length:Nat):Int),.slice D0 nr d0])] 2 vk vt [false,false] ?_ ?_ ?_
   ·exact js
   ·exact⟨zq3,(fun aa ww hb he hd=>za rfl (zg (cs:=[.slice V0 n0 c0,.int .i64 ((xo.1.length:Nat):Int),.slice D0 nr d0]) rfl vk vk hd.1 (fun j u hj=>((HJ.2.1.trans (hb.mono HJ.2.2)).cell (zh (HCo.out j u hj))).trans (HCo.out j u hj)))),uC⟩
   intro vs w2 hb hR;refine vw1 ?_;clear hR;show wpOps _ _ _ [2,3] _ _;refine zb rfl rfl (zfX rfl ?_);refine jp 10 ?_;refine zb rfl rfl (zC (vs:=[.slice V0 n0 c0,.int .i64 ((xo.1.length:Nat):Int),.slice D0 nr d0]) (off:=0) rfl rfl vk rfl rfl rfl (Blk.new _ _ _) vj4 (fun j _ _ x=>zD rfl j x) ?_);intro w3 kn hg hs hbx;have hbw:Below w2.heap.size w2 w3:=(al w2 _).grown hg (al w2 _).size (fun k e=>by cases e;exact ug _);obtain⟨g10,hgb⟩:∃g,g=w2.heap.size:=⟨_,rfl⟩;rw[←hgb] at hbx ⊢;clear kn hg hs;unfold wpOps;have h3:=ze hb hbw hb.size;have HJ3:=vh (show OwnL vq1 3 (FacG vq7 vq8 vq15) w3 w.heap.size u7 (zB val 0 (ats.take i))∧Below w.heap.size w w3∧w.heap.size≤w3.heap.size from⟨HJ.1.below h3 (fun _ _ h=>FacG.below h h3 (fun _ _ h=>h.kd (KD.below h3))),HJ.2.1.trans (h3.mono HJ.2.2),ud HJ.2.2 h3.size⟩);have HX10:=vh hbx;clear hb hbw hbx hgb h3 HJ HCo;go_upto_region 6 with (fail);refine zc (kss:=[[],[],[(0,19),(1,20)]]) [(0,vq65),(10,.pointer (some (⟨g10,0,none⟩)))] [EV (vq65),EV (.agg #[.slice V0 n0 c0,.int .i64 ((xo.1.length:Nat):Int),.slice D0 nr d0]),fun zz ww=>FrR vq7 vq8 vq15 w3.heap.size ww zz xo.1 xo.2 (List.replicate xo.2.length vq14.one)] 3 vk vt [false,false,false] ?_ ?_ ?_
   ·exact⟨eI,eI,fun _ _ _ h hb=>FrR.below h hb vj3,uC⟩
   ·exact⟨vi0,(fun aa ww hb he hd=>za rfl (zg (cs:=[.slice V0 n0 c0,.int .i64 ((xo.1.length:Nat):Int),.slice D0 nr d0]) rfl vk vk he.2.1 (Blk.at_k HX10.out rfl hb))),(fun aa ww hb he hd=>za rfl (zE _ _ _ _ rfl vk (by rw[show aa.eval (.tmp 19)=_ from hd.1,show aa.eval (.tmp 20)=_ from hd.2.1];exact(vq51 _ _ _ xo.1 xo.2 ww (HO1.below (HJ3.2.1.trans (hb.mono HJ3.2.2))) (RowsV.below HO3.out (HJ3.2.1.trans (hb.mono HJ3.2.2)))).mono fun e w9 ⟨u,h1,h2,h3⟩=>⟨u,h1,FrR.lower h2 hb.size,h3⟩))),uC⟩
   intro vs w4 hb hR;have r21:=hR 2 jd;clear hR;refine vs0 ?_;obtain⟨q1,q2,q3,e21,hq1,hq2,hq3⟩:=r21;rw[e21];clear e21;obtain⟨P1,m1,k1,rfl,-⟩:=id hq1;obtain⟨P2,k2,rfl,-⟩:=hq2.form;obtain⟨cl0,z1,z2,z3⟩:=id hq3;obtain⟨P3,k3,rfl⟩:=zF z2.own;rw[List.length_replicate] at z2 hq3;rw[List.length_replicate];clear z1 z2 z3 cl0;rw[←HNr] at hq2 hq3 ⊢;show wpOps _ _ _ [3,4] _ _;refine zb rfl rfl (vq11 rfl ?_);refine jp 11 ?_;refine zb rfl rfl (zC (vs:=[.slice P1 m1 k1,.slice P2 nr k2,.slice P3 nr k3]) (off:=0) rfl rfl vk rfl rfl rfl (Blk.new _ _ _) vj4 (fun j _ _ x=>zD rfl j x) ?_);intro w5 kn hg hs hbx;have hbw:Below w4.heap.size w4 w5:=(al w4 _).grown hg (al w4 _).size (fun k e=>by cases e;exact ug _);obtain⟨g11,hgb⟩:∃g,g=w4.heap.size:=⟨_,rfl⟩;rw[←hgb] at hbx ⊢;clear kn hg hs;unfold wpOps;have h5:=ze hb hbw hb.size;have HI:=vh (show IntsV w5 (.slice P1 m1 k1) xo.1∧RowsV w5 (.slice P2 nr k2) xo.2∧OwnL vq7 vq8 vq15 w5 w3.heap.size (.slice P3 nr k3) (((List.range 0).map fun j=>val (off+j))++List.replicate (nr - 0) vq14.one)∧Blk w5 g11 vq1 #[.slice P1 m1 k1,.slice P2 nr k2,.slice P3 nr k3]∧Below w3.heap.size w3 w5∧w3.heap.size≤w5.heap.size from⟨hq1.below hbw,RowsV.below hq2 hbw,hq3.below hbw (fun _ _ h=>h.kd (KD.below hbw)),hbx,h5,h5.size⟩);clear hb hbw hbx hgb h5 hq1 hq2 hq3 HX10;have z2:=Blk.at2 HI.2.2.2.1 (ue _ _);go_wp2_with fail;clear z2;obtain⟨G,hG⟩:=vx (gk);subst hG;obtain⟨wB,hwB⟩:∃x,x=w3:=⟨_,rfl⟩;subst hwB;go_loopg [25,8] nr (fun g iv cv wr=>∃j:Nat,iv = .int .i64 j∧cv = .int .i64 ((off+j:Nat):Int)∧j+g=nr∧Hid (IntsV wr (.slice P1 m1 k1) xo.1∧RowsV wr (.slice P2 nr k2) xo.2∧OwnL vq7 vq8 vq15 wr wB.heap.size (.slice P3 nr k3) (((List.range j).map fun j=>val (off+j))++List.replicate (nr - j) vq14.one)∧Blk wr g11 vq1 #[.slice P1 m1 k1,.slice P2 nr k2,.slice P3 nr k3]∧Below wB.heap.size wB wr∧wB.heap.size≤wr.heap.size));case atStart=>exact⟨0,rfl,rfl,jo,HI⟩
   case round=>
    obtain⟨j,rfl,rfl,hjo,HK⟩:=hrel;clear HI;by_cases hj:j<nr
    ·have j1:((j:Int)<(nr:Int)):=jo;have HJk:=HK;obtain⟨cl,hc1,hc2,hc3⟩:=HK.2.2.1;have hcl:=hc3.len;have hus:(((List.range j).map fun j=>val (off+j))++List.replicate (nr - j) vq14.one).length=nr:=by simp;omega
     rw[hus] at hc2 hcl;first
     |guard_expr ins =~ 1
      obtain⟨gv,cap,cur,e,hbg,hcur,hsz,hno,-⟩:=(show OwnC wr wB.heap.size 34 2 (.slice P3 nr k3) cl.length cl.flatten by rw[hcl];exact hc2).setk (i:=j) (c:=[.bool true,.slice none 0 0]) hc1 (by rw[hcl];exact hj) rfl rfl
     |guard_expr ins =~ 2
      obtain⟨gv,cap,cur,e,hbg,hcur,hsz,hno,-⟩:=(show OwnC wr wB.heap.size 61 3 (.slice P3 nr k3) cl.length cl.flatten by rw[hcl];exact hc2).setk (i:=j) (c:=[.slice none 0 0,.bool true,.slice none 0 0]) hc1 (by rw[hcl];exact hj) rfl rfl
     |obtain⟨gv,cap,cur,e,hbg,hcur,hsz,hno,-⟩:=(show OwnC wr wB.heap.size vq7 1 (.slice P3 nr k3) cl.length cl.flatten by rw[hcl];exact hc2).setk (i:=j) (c:=[.slice none 0 0]) hc1 (by rw[hcl];exact hj) rfl rfl
     have eP:P3=some ⟨gv,0,none⟩:=by injection e with e _ _
     subst eP;clear e hcur hsz hno;have HC:=vh (uh hc1 (uh hc2 (uh hc3 hcl)));have HBg:=vh hbg;clear hc1 hc2 hc3 hcl hus hbg HJk;have e9:off+(j+1)=off+j+1:=jo;go_upto_region 10 with (fail);refine zt (kss:=[[],[(0,28)],[],[],[],[(3,31),(4,32)],[(1,29),(2,30)]]) [(11,.pointer (some (⟨g11,0,none⟩))),(12,.int .i64 ((j:Int))),(2,.func (.func vq52) #[] caps),(8,.int .i64 (((off+j:Nat):Int)))] [EV (.pointer (some (⟨g11,2,none⟩))),EV (.slice ((some ⟨gv,0,none⟩)) nr k3),EV (.int .i64 ((j:Int))),EV (.func (.func vq52) #[] caps),EV (.int .i64 (((off+j:Nat):Int))),fun zz ww=>vq22 ww zz (val (off+j)),EV (.pointer (some (Addr.add (⟨gv,0,none⟩) (j*vq8))))] 7 [] vk vk vt [false,false,false,false,false,false,false] ?_ ?_ ?_ ?_
     ·exact fun i hi=>absurd hi vz
     ·exact⟨eI,eI,eI,eI,eI,fun _ _ _ h hb=>h.kd (KD.below hb),eI,uC⟩
     ·exact⟨(fun aa ww hb he hd=>za rfl (zw (off:=2) rfl vk he.1)),(fun aa ww hb he hd=>za rfl (zd rfl vk hd.1 (Blk.at2 HK.2.2.2.1 hb))),vi1,vi4,zbp,(fun aa ww hb he hd=>za rfl (zd2 vq52 _ _ _ rfl hd.1 vk hd.2.1 (HVal.out ww (HJ3.2.1.trans ((HK.2.2.2.2.1.trans (hb.mono HK.2.2.2.2.2)).mono HJ3.2.2)) (off+j) (by have:=HOff.out;omega)))),(fun aa ww hb he hd=>za rfl (zm (e:=vq7) (s:=vq8) (k:=j) rfl vk (by exact hj) hd.1 hd.2.1)),uC⟩
     intro vs w6 hb hR _;have r33:=hR 5 jd;have e34:vs 6=_:=hR 6 jd;clear hR;refine vs0 ?_;rw[e34];clear e34;obtain⟨c7,e33,hl7,hok7,hr7⟩:=vq15.of (show vq22 w6 (vs 5) (val (off+j)) from r33);first
     |guard_expr ins =~ 1
      obtain⟨b7,A7,k7,c8,e34⟩:=FC.vq22.frm (show FC.vq22 w6 (vs 5) (val (off+j)) from r33)
     |guard_expr ins =~ 2
      obtain⟨A7,k7,c8,b7,B7,m7,d7,e34⟩:=FP.vq22.frm (show FP.vq22 w6 (vs 5) (val (off+j)) from r33)
     |obtain⟨A7,k7,c8,e34⟩:=vq22.frm (show vq18 w6 (vs 5) (val (off+j)) from r33)
     rw[e34] at e33 ⊢;rw[yy];clear e34 r33;first
     |guard_expr ins =~ 1
      obtain rfl:c7=[.bool b7,.slice A7 k7 c8]:=(ut Array.toList e33).symm
     |guard_expr ins =~ 2
      obtain rfl:c7=[.slice A7 k7 c8,.bool b7,.slice B7 m7 d7]:=(ut Array.toList e33).symm
     |obtain rfl:c7=[.slice A7 k7 c8]:=(ut Array.toList e33).symm
     clear e33 hl7 hok7;have hO6:OwnC w6 wB.heap.size vq7 vq8 (.slice (some ⟨gv,0,none⟩) nr k3) cl.length cl.flatten:=by rw[HC.2.2.2];exact HC.2.1.below hb
     first
     |guard_expr ins =~ 1
      obtain⟨gv2,cap2,cur2,e2,-,hcur2,hsz2,hno2,hset2⟩:=hO6.setk (i:=j) (c:=[.bool b7,.slice A7 k7 c8]) HC.1 (by rw[HC.2.2.2];exact hj) rfl rfl
     |guard_expr ins =~ 2
      obtain⟨gv2,cap2,cur2,e2,-,hcur2,hsz2,hno2,hset2⟩:=hO6.setk (i:=j) (c:=[.slice A7 k7 c8,.bool b7,.slice B7 m7 d7]) HC.1 (by rw[HC.2.2.2];exact hj) rfl rfl
     |obtain⟨gv2,cap2,cur2,e2,-,hcur2,hsz2,hno2,hset2⟩:=hO6.setk (i:=j) (c:=[.slice A7 k7 c8]) HC.1 (by rw[HC.2.2.2];exact hj) rfl rfl
     have e4:gv=gv2:=by injection e2 with e2 _ _;injection e2 with e2;injection e2 with e2
     subst e4;clear e2;first
     |guard_expr ins =~ 1
      refine zA (i:=7) vk rfl rfl (zC (vs:=[.bool b7,.slice A7 k7 c8]) (g:=gv) (off:=j*2) rfl rfl vk rfl rfl rfl hcur2 hsz2 (fun j _ _=>hno2 j) ?_)
     |guard_expr ins =~ 2
      refine zA (i:=7) vk rfl rfl (zC (vs:=[.slice A7 k7 c8,.bool b7,.slice B7 m7 d7]) (g:=gv) (off:=j*3) rfl rfl vk rfl rfl rfl hcur2 hsz2 (fun j _ _=>hno2 j) ?_)
     |rw[Nat.mul_one] at hsz2 hset2 ⊢
      refine zA (i:=7) vk rfl rfl (yZ (g:=gv) (off:=j) rfl rfl vk rfl rfl rfl hcur2 hsz2 (hno2 _) ?_)
     intro w7 kn hg hs hbx;refine zR vk (zy ?_) _;have ho7:=hset2 w7 hbx;have kd:KD [3,87,89,vq1,26] w6 w7:=KD.blk hcur2 hg kn rfl;have hv7:OwnL vq7 vq8 vq15 w7 wB.heap.size (.slice (some ⟨gv,0,none⟩) nr k3) (((List.range (j+1)).map fun j=>val (off+j))++List.replicate (nr - (j+1)) vq14.one):=by
      first
      |guard_expr ins =~ 1
       have h1:OwnL 34 2 FC.vq15 w7 wB.heap.size (.slice (some ⟨gv,0,none⟩) nr k3) ((((List.range j).map fun j=>val (off+j))++List.replicate (nr - j) FC.vq14.one).set j (val (off+j))):=⟨cl.set j [.bool b7,.slice A7 k7 c8],fun c hc=>by rcases List.mem_or_eq_of_mem_set hc with h | h;exact HC.1 c h;rw[h];rfl,by rw[List.length_set,show (((List.range j).map fun j=>val (off+j))++List.replicate (nr - j) FC.vq14.one).length=cl.length by rw[HC.2.2.2];simp;omega];exact ho7,(HC.2.2.1.mono fun _ _ h=>(h.kd (KD.below hb)).kd (kd.sub jd)).set _ (hr7.kd (kd.sub jd))⟩
      |guard_expr ins =~ 2
       have h1:OwnL 61 3 FP.vq15 w7 wB.heap.size (.slice (some ⟨gv,0,none⟩) nr k3) ((((List.range j).map fun j=>val (off+j))++List.replicate (nr - j) FP.vq14.one).set j (val (off+j))):=⟨cl.set j [.slice A7 k7 c8,.bool b7,.slice B7 m7 d7],fun c hc=>by rcases List.mem_or_eq_of_mem_set hc with h | h;exact HC.1 c h;rw[h];rfl,by rw[List.length_set,show (((List.range j).map fun j=>val (off+j))++List.replicate (nr - j) FP.vq14.one).length=cl.length by rw[HC.2.2.2];simp;omega];exact ho7,(HC.2.2.1.mono fun _ _ h=>(h.kd (KD.below hb)).kd (kd.sub jd)).set _ (hr7.kd (kd.sub jd))⟩
      |have h1:OwnL vq7 1 vq15 w7 wB.heap.size (.slice (some ⟨gv,0,none⟩) nr k3) ((((List.range j).map fun j=>val (off+j))++List.replicate (nr - j) vq14.one).set j (val (off+j))):=⟨cl.set j [.slice A7 k7 c8],fun c hc=>by rcases List.mem_or_eq_of_mem_set hc with h | h;exact HC.1 c h;rw[h];rfl,by rw[List.length_set,show (((List.range j).map fun j=>val (off+j))++List.replicate (nr - j) vq14.one).length=cl.length by rw[HC.2.2.2];simp;omega];exact ho7,(HC.2.2.1.mono fun _ _ h=>(h.kd (KD.below hb)).kd (kd.sub jd)).set _ (hr7.kd (kd.sub jd))⟩
      rwa [zmA val off hj] at h1
     have HN2:=vh (show IntsV w7 (.slice P1 m1 k1) xo.1∧RowsV w7 (.slice P2 nr k2) xo.2∧OwnL vq7 vq8 vq15 w7 wB.heap.size (.slice (some ⟨gv,0,none⟩) nr k3) (((List.range (j+1)).map fun j=>val (off+j))++List.replicate (nr - (j+1)) vq14.one)∧Blk w7 g11 vq1 #[.slice P1 m1 k1,.slice P2 nr k2,.slice (some ⟨gv,0,none⟩) nr k3]∧Below wB.heap.size wB w7∧wB.heap.size≤w7.heap.size from⟨(HK.1.below hb).kd kd rfl,RowsV.kd (RowsV.below HK.2.1 hb) kd rfl rfl,hv7,kd.b vq1 vz _ _ (HK.2.2.2.1.keep hb),(HK.2.2.2.2.1.trans (hb.mono HK.2.2.2.2.2)).grown hg (ud HK.2.2.2.2.2 hb.size) (fun k e=>by cases e;exact HBg.out),by rw[hs];exact ud HK.2.2.2.2.2 hb.size⟩);clear hv7 ho7 kd kn hg hs hbx hset2 hcur2 hsz2 hno2 hO6 hr7 hb HK HC HBg;go_wp2_with fail;go_roundg (gk - 1);case measure=>omega
     case rel=>exact⟨j+1,vj1,vj1,jo,HN2⟩
    ·obtain rfl:nr=j:=jo;have husz:(((List.range nr).map fun j=>val (off+j))++List.replicate (nr - nr) vq14.one)=(List.range nr).map fun j=>val (off+j):=vz;rw[husz] at HK;clear husz;have hb3:=HK.2.2.2.2.1;have hF:FacG vq7 vq8 vq15 wr [.slice P1 m1 k1,.slice P2 nr k2,.slice P3 nr k3] ⟨xo.1,xo.2,(List.range nr).map fun j=>val (off+j)⟩:=⟨_,_,_,rfl,HK.1,HK.2.1,HK.2.2.1.sls vj2⟩;obtain⟨cl1,q1,q2,q3⟩:=HJ3.1.below hb3 (fun _ _ h=>FacG.below h hb3 (fun _ _ h=>h.kd (KD.below hb3)));have HF:=vh hF;have HQ:=vh (uh q1 (uh q2 q3));have HX11:=vh HK.2.2.2.1;have HB:=vh (uh (HJ3.2.1.trans (hb3.mono HJ3.2.2)) (ud HJ3.2.2 HK.2.2.2.2.2));clear hF q1 q2 q3 hb3 HK;go_upto_region 13 with (fail);refine zc (kss:=[[],[],[(1,39)]]) [(7,u7),(11,.pointer (some (⟨g11,0,none⟩)))] [EV (u7),EV (.agg #[.slice P1 m1 k1,.slice P2 nr k2,.slice P3 nr k3]),fun zz ww=>∃g:Nat,zz = .slice (some ⟨g,0,none⟩) 1 1∧wr.heap.size≤g∧Blk ww g vq1 #[.slice P1 m1 k1,.slice P2 nr k2,.slice P3 nr k3]] 3 vk vt [false,false,false] ?_ ?_ ?_
     ·exact zcX
     ·exact⟨vi0,(fun aa ww hb he hd=>za rfl (zg (cs:=[.slice P1 m1 k1,.slice P2 nr k2,.slice P3 nr k3]) rfl vk vk he.2.1 (Blk.at_k HX11.out rfl hb))),zsZ,uC⟩
     intro vs w8 hb hR;have r40:=hR 2 jd;refine vw0 ?_;clear hR;obtain⟨g9,e9,-,hg9⟩:=r40;rw[e9];clear e9;have q2:=HQ.2.1.below hb;have hs8:w.heap.size≤w8.heap.size:=ud HB.2 hb.size;show wpOps _ _ _ [3,4] _ _;refine zb rfl rfl (yk (e:=vq1) (k:=3) _ _ rfl vk vk w.heap.size u7 _ _ rfl q2 g9 _ rfl hg9 rfl rfl (by rw[za9,List.length_take];omega) hs8 ?_);intro s1 w9 ho hg hor kn;refine jp 41 ?_;have hb9:Below w.heap.size w w9:=Below.appended (HB.1.trans (hb.mono HB.2)) q2.own hg hs8 (ug _);have kd:KD [3,87,89,vq7,26] w8 w9:=KD.own q2.own hg kn rfl;have hpush:OwnL vq1 3 (FacG vq7 vq8 vq15) w9 w.heap.size s1 (zB val 0 (ats.take (i+1))):=by rw[HStep.2];exact OwnL.push (w:=w8) HQ.1 (HQ.2.2.mono fun _ _ h=>FacG.below h hb vj3) vj9 rfl (fun _ _ h=>FacG.kd h kd rfl rfl rfl rfl zf6) (FacG.kd (FacG.below HF.out hb vj3) kd rfl rfl rfl rfl zf6)
     have HN:=vh (show OwnL vq1 3 (FacG vq7 vq8 vq15) w9 w.heap.size s1 (zB val 0 (ats.take (i+1)))∧Below w.heap.size w w9∧w.heap.size≤w9.heap.size from⟨hpush,hb9,ud hs8 hg.size⟩);clear hpush kd ho hg hor kn q2 hg9 hb hb9 hs8 HQ HB HF HX11;refine zb rfl rfl (zl 7 (.tmp 41) rfl rfl s1 rfl ?_);refine vs1 ?_;unfold wpOps;go_wp2_with fail;go_roundg (G - 1);case measure=>omega
     case rel=>exact⟨i+1,_,vj1,rfl,by rw[HStep.1],jo,HN⟩
  ·obtain rfl:no=i:=jo;rw[um zqg] at HJ;have HB:=vh HJ.2.1;have HFin:=vh (HJ.1.sls (by rw[za9,←HNo];exact hno5));clear HJ;go_wp2_with fail;go_ret;exact⟨_,rfl,HFin.out,HB.out⟩):P:=h
def zpI (vq13:Type) (vq52:Nat) (vq53:Nat) (vqS:Value) (vq1:Nat) (vq7:Nat) (vq8:Nat) (vq22:World→Value→vq13→Prop) (vq15:World→List Value→vq13→Prop):Prop:=∀(N:Nat) (val:Nat→vq13) (caps:Array Value) (vf:Value) (ats:List (List Nat×List (List Int))) (w:World) (h:SlsV 95 3 AtC w vf ats) (hN:Zs ats≤N∧N≤1000000) (hval:∀ww,Below w.heap.size w ww→∀i,i<N→Calls Tryz.prog vq52 (#[.int .i64 ((i:Nat):Int)]++caps) ww (fun e w'=>∃u,e = .returned u∧vq22 w' u (val i)∧Below ww.heap.size ww w')),Calls Tryz.prog vq53 #[vqS,vf,.func (.func vq52) #[] caps] w (RV w (fun r w'=>SlsV vq1 3 (FacG vq7 vq8 vq15) w' r (zB val 0 ats)))
theorem FN.factorsN_any:zpI Nat 12 11 (.iface 39 (.agg #[])) 104 32 1 FN.vq22 FN.vq15:=by
 exact zjT
theorem FC.vq51:zpE (Option Nat) 38 (.iface 40 (.agg #[])) 34 2 FC.vq15 FC.vq14:=by
 intro ar v u vars rows w hv hr;exact vm7
theorem FC.factorsC_any:zpI (Option Nat) 7 14 (.iface 40 (.agg #[])) 119 34 2 FC.vq22 FC.vq15:=by
 exact zjT
theorem FP.vq51:zpE (Nat×Option Nat) 40 (.iface 47 (.agg #[.iface 39 (.agg #[]),.iface 40 (.agg #[])])) 61 3 FP.vq15 FP.vq14:=by
 intro ar v u vars rows w hv hr;exact vm7
theorem FP.factorsP_any:zpI (Nat×Option Nat) 17 16 (.iface 47 (.agg #[.iface 39 (.agg #[]),.iface 40 (.agg #[])])) 128 61 3 FP.vq22 FP.vq15:=by
 exact zjT
theorem FW.vq51:zpE (WS×Nat) 44 (.iface 41 (.agg #[])) 72 1 FW.vq15 FW.vq14:=by
 intro ar v u vars rows w hv hr;exact vm7
theorem FW.factorsW_any:zpI (WS×Nat) 23 22 (.iface 41 (.agg #[])) 140 72 1 FW.vq22 FW.vq15:=by
 exact zjT
end Go.Proofs.YtoecdobelolkeaaGreatDoor
