/- Part of TopSemirings. -/
import Derived.Test.YtoecdobelolkeaaGreatDoorK18
set_option linter.unusedVariables false
set_option linter.unusedSimpArgs false
set_option maxRecDepth 100000
set_option maxHeartbeats 64000000
namespace Go.Proofs.YtoecdobelolkeaaGreatDoor
open Go.RowKit
variable {w w' wr:World} {n gu:Nat} {ms:List (List Int)}
theorem zfb:3000≤yW:=by
 have h:pw2 12<pw2 3000:=zhM jo;exact ud (show 3000≤pw2 12 by unfold pw2;decide) (uA h)
theorem zin:(Tryz.prog.info? 4).map (fun i=>(i.zero,i.size,i.bytes))=some (some (.bool false),1,1):=by kernel_rfl
theorem zfc:∀n:Nat,(List.replicate n [Value.bool false]).flatten=(List.range n).map fun _=>Value.bool false
 |0=>rfl
 |n+1=>by rw[List.replicate_succ',List.flatten_append,zfc n,List.range_succ,List.map_append];rfl
theorem zm8 (n:Nat) (hn:n≤32) (W:World):(Instr.makeSlice 157 (.int .i64 (n:Int)) (.int .i64 (n:Int))).run Tryz.prog W = .ok (.slice (some ⟨W.heap.size,0,none⟩) n n) (W.alloc (.cells ((List.range n).map fun _=>Value.bool false).toArray 4)):=by
 rw[←zfc];exact zaB (e:=4) (k:=1) (z:= .bool false) vk zin rfl jo jo (ug _) jo W
theorem zg6 (n:Nat) (f:Nat→Bool) (j:Nat) (y:Int):((List.range n).map fun v=>(Value.bool (f v))).toArray[j]?≠some (.int .u32 y):=by
 intro e;simp only[List.getElem?_toArray,uz] at e;cases h:(List.range n)[j]? with
 |none=>rw[h] at e;cases e
 |some v=>rw[h] at e;cases e
theorem zfd {v:Nat} {f:Nat→Bool} (h:v<n):(yt ((List.range n).map fun v=>(Value.bool (f v))).toArray.toList v [.bool true]).toArray=((List.range n).map fun u=>(Value.bool (yv f v true u))).toArray:=by
 congr 1;refine List.ext_getElem (by simp[ZO]) fun i h1 h2=>?_;simp only[yt];exact zqx
theorem zsh {l:List Nat} (h:l.Pairwise (· < ·)) {i j a b:Nat} (ha:l[i]? = some a) (hb:l[j]? = some b) (hij:i+1=j):a<b:=by
 obtain⟨h1,e1⟩:=List.getElem?_eq_some_iff.1 ha;obtain⟨h2,e2⟩:=List.getElem?_eq_some_iff.1 hb;have:=List.pairwise_iff_getElem.1 h i j h1 h2 jo;rw[e1,e2] at this;exact this
section
variable {P : Program} {o : Oper} {a : Act} {w : World} {t : Tmp} {T : TypeId} {K : Act → World → Prop} {Q : Exit → Act → World → Prop}
theorem zio {g off:Nat} {ty:TypeId} {cs:Array Value} {v:Value} (ho:o.op = .store T (.tmp t) (.const v)) (hd:o.dst=none) (hi:zbz P T 1=true) (ht:tv a t = .pointer (some ⟨g,off,none⟩)) (hu:v=v) (hv:okC v=true)
  (hb:Blk w g ty cs) (hl:off<cs.size) (hc:∀x,cs[off]?≠some (.int .u32 x))
  (next:∀w',KeepsN w w'→w.grownBy w' (some g)→w'.heap.size=w.heap.size→Blk w' g ty (yt cs.toList off [v]).toArray→K a w'):o.wp P a w K Q:=by
 obtain⟨i,hi9,hsz⟩:=Zd hi;have h1:=YP hv;have hcells:v.cells=#[v]:=by cases v <;> first | rfl | cases hv
 have hc0:w.cell? ⟨g,off,none⟩=some cs[off]:=by rw[hb.cell];exact Array.getElem?_eq_getElem hl
 have hr:(storeVar T ⟨g,off,none⟩ v).run P w = .ok () (w.setCell ⟨g,off,none⟩ v):=by
  have h0:(⟨g,off,none⟩:Addr).add 0=⟨g,off,none⟩:=by unfold Addr.add;simp
  simp[storeVar,sizeOf,typeInfo,hi9,hsz,hcells,storeCells,h0,run_store P w ⟨g,off,none⟩ v _ h1,hc0,hb.frozen,Result.andThen]
 have hb2:=hb.set_ off v;unfold Oper.wp execOp;rw[ho];simp only[zK,ZM,ht,Instr.storeAt,Instr.sureAddr,Sem.run_bind,Sem.run_pure,Result.andThen_ok,hr];show K (a.put o.dst undef) _;rw[hd];exact next _ (KeepsN.blk hb hl hc v) (YM (World.grownBy.refl w (some g)) (.inl rfl) v) (Yo _ _ _) (by rw[show (yt cs.toList off [v]).toArray=cs.setIfInBounds off v from Array.ext' (by simp[yt])];exact hb2)
end
section
variable {o : Oper} {a : Act} {w : World} {K : Act → World → Prop} {Q : Exit → Act → World → Prop}
theorem zsi (ho:o.op = .alloc 36) (next:K (a.put o.dst (.pointer (some ⟨w.heap.size,0,none⟩))) (w.alloc (.cells #[.int .u64 0] 36))):o.wp Tryz.prog a w K Q:=by
 have hr:(execOp a.eval o).run Tryz.prog w = .ok (.value (.pointer (some ⟨w.heap.size,0,none⟩))) (w.alloc (.cells #[.int .u64 0] 36)):=by
  unfold execOp;rw[ho];go_simp
 unfold Oper.wp;rw[hr];exact next
end
theorem ziq {f:Nat→Bool} (hn:n≤32) (hb:Blk w gu 4 ((List.range n).map fun v=>(.bool (f v):Value)).toArray) (hf:∀v,v<n→f v=true):Calls Tryz.prog 90 #[.slice (some ⟨gu,0,none⟩) n n,.bool false] w fun e w'=>e = .returned (.int .i64 (-1))∧Below w.heap.size w w':=by
 have HB:=vh hb;have HF:=vh hf;clear hb hf;go_enter Tryz.func90,Tryz.ntmps90;go_wp2_with fail;go_loopg [8] n (fun g iv wr=>∃i:Nat,iv = .int .i64 i∧i+g=n∧Hid (Below w.heap.size w wr));case atStart=>exact⟨0,rfl,jo,vh (ue _ _)⟩
 case round=>
  obtain⟨i,rfl,hio,HJ⟩:=hrel;by_cases hi:i<n
  ·have i1:((i:Int)<(n:Int)):=jo;have hc:wr.cell? ⟨gu,i,none⟩=some (.bool true):=by rw[(HB.keep HJ.out).cell];simp[hi,HF.out i hi]
   have HC:=vh hc;clear hc;go_upto_region 4 with (fail);refine zj (kss:=[[],[],[],[(1,12),(2,13)],[(3,14)],[(0,11),(4,15)]]) [(1,.bool false),(0,.slice ((some ⟨gu,0,none⟩)) n n),(5,.int .i64 ((i:Int)))] [EV (.bool false),EV (.slice ((some ⟨gu,0,none⟩)) n n),EV (.int .i64 ((i:Int))),EV (.pointer (some (⟨gu,i,none⟩))),EV (.bool true),EV (.bool false)] vk vt ?_ ?_ ?_
   ·exact js
   ·exact⟨vi0,vi1,vi4,(fun aa ww hb he hd=>za rfl (ZW (e:=4) (k:=i) rfl vk jo hd.1 hd.2.1)),zq6,(fun aa ww hb he hd=>za rfl (zbs false true _ _ _ _ rfl Tryz.underlying4 hd.1 hd.2.1 ⟨ut Value.bool (rfl),ue _ _⟩)),uC⟩
   intro vs w2 hb hR;refine vw2 ?_;clear hR;have HK:=vh (HJ.trans (hb.mono HJ.size));clear hb HJ HC;exact zjH
  ·obtain rfl:i=n:=jo;have i1:¬((i:Int)<(i:Int)):=jo;go_wp2_with fail;go_ret;exact⟨rfl,HJ.out⟩
theorem zes {f:Nat→Bool} (hn:n≤32) (hb:Blk w gu 4 ((List.range n).map fun v=>(.bool (f v):Value)).toArray) (hf:∀v,v<n→f v=true):Calls Tryz.prog 55 #[.slice (some ⟨gu,0,none⟩) n n,.bool false] w fun e w'=>e = .returned (.bool false)∧Below w.heap.size w w':=by
 have HB:=vh hb;have HF:=vh hf;clear hb hf;go_enter Tryz.func55,Tryz.ntmps55;go_wp2_with fail;refine(ziq hn HB.out HF.out).mono ?_;rintro e w2 ⟨rfl,hb⟩;have HB2:=vh hb;clear hb;go_wp2_with fail;go_ret;exact⟨rfl,HB2.out⟩
theorem zg7 {v:Value} {ats:List (List Nat×List (List Int))} (h:SlsV 95 3 AtC w v ats) (hn:n≤32) (hna:ats.length≤32) (hw:WfA n ats) (hcov:∀v,v<n→∃a∈ats,v∈a.1):Calls Tryz.prog 33 #[.int .i64 (n:Int),v] w fun e w'=>e = .returned (.int .i64 0)∧Below w.heap.size w w':=by
 obtain⟨TA,tc,rfl,htc,-,-⟩:=h.form;obtain⟨na,hna0⟩:∃x,x=ats.length:=⟨_,rfl⟩;rw[←hna0] at h htc hna ⊢;have HA:=vh h;have HNa:=vh hna0;have HW:=vh hw;have HCv:=vh hcov;have t0:¬((n:Int)<0):=jo;have t1:¬((n:Int)>32):=jo;have t2:¬((na:Int)>32):=jo;clear h hna0 hw hcov;go_enter Tryz.func33,Tryz.ntmps33;go_upto_region 5 with (fail);clear t0 t1 t2;refine zc (kss:=[[]]) [(0,.int .i64 ((n:Int)))] [EV (.int .i64 ((n:Int)))] 1 vk vt [false] ?_ ?_ ?_
 ·exact js
 ·exact⟨vi0,uC⟩
 intro vs w1 hb hR;refine vw0 ?_;clear hR;show wpOps _ _ _ [1,2] _ _;refine zb rfl rfl (zmQ rfl rfl rfl (zm8 n hn w1) ?_);refine jp 21 ?_;obtain⟨w2,hw2⟩:∃x,x=w1.alloc (.cells ((List.range n).map fun _=>(.bool false:Value)).toArray 4):=⟨_,rfl⟩;rw[←hw2];obtain⟨gu,hgu⟩:∃g,g=w1.heap.size:=⟨_,rfl⟩;have hx2:Blk w2 gu 4 ((List.range n).map fun _=>(.bool false:Value)).toArray:=by rw[hw2,hgu];exact Blk.new _ _ _
 have hb2:Below w1.heap.size w1 w2:=by rw[hw2];exact al _ _
 rw[←hgu];refine zb rfl rfl (zl 5 (.tmp 21) rfl rfl (.slice (some ⟨gu,0,none⟩) n n) rfl ?_);refine vs1 ?_;unfold wpOps;have HI:=vh (show (∃f:Nat→Bool,Blk w2 gu 4 ((List.range n).map fun v=>(.bool (f v):Value)).toArray∧(∀k0 v,k0<0→v∈(ats.getD k0 ([],[])).1→f v=true))∧Below w.heap.size w w2 from⟨⟨fun _=>false,hx2,fun k v hk=>absurd hk jo⟩,ze hb hb2 hb.size⟩);have HGu:=vh (show w.heap.size≤gu from by rw[hgu];exact hb.size);clear hb hw2 hgu hx2 hb2;go_wp2_with fail;go_loopg [24] na (fun g iv wr=>∃i:Nat,iv = .int .i64 i∧i+g=na∧Hid ((∃f:Nat→Bool,Blk wr gu 4 ((List.range n).map fun v=>(.bool (f v):Value)).toArray∧(∀k0 v,k0<i→v∈(ats.getD k0 ([],[])).1→f v=true))∧Below w.heap.size w wr));case atStart=>exact⟨0,rfl,jo,HI⟩
 case round=>
  clear HI;obtain⟨k,rfl,hkg,HJ⟩:=hrel;by_cases hk:k<na
  ·have i2:((k:Int)<(na:Int)):=jo;obtain⟨x,hx⟩:∃x,ats[k]? = some x:=⟨_,uf (by rw[←HNa];omega)⟩;obtain⟨ad,cs,rfl,-,hco,hrc⟩:=HA.atA hx;obtain⟨u,b,rfl,hu,hbv⟩:=hrc;obtain⟨UA,un,uc,rfl,hunc,hUn,hUX⟩:=hu.x;obtain⟨RA,rc,rfl,-,-,-⟩:=hbv.form;obtain⟨rn,hrn⟩:∃y,y=x.2.length:=⟨_,rfl⟩;rw[←hrn] at hbv hco;rw[←hUn] at hco;have hcw:∀(j:Nat) (u:Value),[Value.slice UA un uc,.int .i64 (un:Int),.slice RA rn rc][j]? = some u→wr.cell? ((Addr.add ad (k*3)).add j)=some u:=fun j u hj=>(HJ.2.cell (zh (hco j u hj))).trans (hco j u hj);have hxk:ats.getD k ([],[])=x:=by rw[List.getD_eq_getElem?_getD,hx];rfl
   have hvr:=(HW.out x (ui hx)).1;have hun32:un≤32:=by rw[hUn];have:=zd8 hvr;omega
   have HC:=vh hcw;have HX:=vh hxk;have HUn:=vh hUn;have HUX:=vh hUX;have HVr:=vh hvr;clear hcw hco hu hbv hrn hx hUn hUX hunc hxk hvr;go_upto_region 8 with (fail);refine zc (kss:=[[],[(0,26)]]) [(22,.slice ((some ad)) na tc),(24,.int .i64 ((k:Int)))] [EV (.pointer (some (Addr.add ad (k*3)))),EV (.agg #[.slice UA un uc,.int .i64 (un:Int),.slice RA rn rc])] 2 vk vt [false,false] ?_ ?_ ?_
   ·exact js
   ·exact⟨zq4,zsV,uC⟩
   intro vs w4a hb hR;refine vw1 ?_;clear hR;show wpOps _ _ _ [2,3] _ _;refine zb rfl rfl (zfX rfl ?_);refine jp 7 ?_;refine zb rfl rfl (zC (vs:=[.slice UA un uc,.int .i64 (un:Int),.slice RA rn rc]) (off:=0) rfl rfl vk rfl rfl rfl (Blk.new _ _ _) vj4 (fun j _ _ x=>zD rfl j x) ?_);intro w4 kn hg hs hbx;have hbw:Below w4a.heap.size w4a w4:=(al w4a _).grown hg (al w4a _).size (fun k e=>by cases e;exact ug _);obtain⟨g7,hgb⟩:∃g,g=w4a.heap.size:=⟨_,rfl⟩;rw[←hgb] at hbx ⊢;clear kn hg hs;unfold wpOps;have h4:=ze hb hbw hb.size;have H4:=vh (show ((∃f:Nat→Bool,Blk w4 gu 4 ((List.range n).map fun v=>(.bool (f v):Value)).toArray∧(∀k0 v,k0<k→v∈(ats.getD k0 ([],[])).1→f v=true))∧Below w.heap.size w w4)∧Blk w4 g7 95 #[.slice UA un uc,.int .i64 (un:Int),.slice RA rn rc] from⟨⟨by obtain⟨f,q1,q2⟩:=HJ.1;exact⟨f,q1.keep h4,q2⟩,HJ.2.trans (h4.mono HJ.2.size)⟩,hbx⟩);clear hb hbw hbx hgb h4 HJ HC;go_wp2_with fail;go_loopg [8] un (fun g iv wr=>∃i:Nat,iv = .int .i64 i∧1≤i∧i≤un+1∧g=un+1 - i∧Hid (((∃f:Nat→Bool,Blk wr gu 4 ((List.range n).map fun v=>(.bool (f v):Value)).toArray∧(∀k0 v,k0<k→v∈(ats.getD k0 ([],[])).1→f v=true))∧Below w.heap.size w wr)∧Blk wr g7 95 #[.slice UA un uc,.int .i64 (un:Int),.slice RA rn rc]));case atStart=>exact⟨1,rfl,jo,jo,jo,H4⟩
   case round=>
    clear H4;obtain⟨i,rfl,hi1,hi9,hgi,HJ⟩:=hrel;have HGi:=vh hgi;clear hgi;have z0:=Blk.at0 HJ.2 (ue _ _);by_cases hi:i<un
    ·have i3:((i:Int)<(un:Int)):=jo;obtain⟨i0,hi0⟩:∃y,y=i - 1:=⟨_,rfl⟩;have HI0:=vh (show i0+1=i from by omega);obtain⟨va,hva⟩:∃y,x.1[i0]? = some y:=⟨_,uf (by rw[←HUn];omega)⟩;obtain⟨vb,hvb⟩:∃y,x.1[i]? = some y:=⟨_,uf (by rw[←HUn];omega)⟩;obtain⟨ua,rfl,hca⟩:=zfa HUX.out (show i0<un by omega) hva;obtain⟨ub,eb,hcb⟩:=zfa HUX.out hi hvb;injection eb with eb;subst eb;have hca2:=(HJ.1.2.cell (zh hca)).trans hca;have hcb2:=(HJ.1.2.cell (zh hcb)).trans hcb;have hab:va<vb:=zsh HVr.1 hva hvb HI0.out;have HCa:=vh hca2;have HCb:=vh hcb2;have HAB:=vh hab;clear hca hcb hca2 hcb2 hva hvb hi0 hab;go_upto_region 12 with (fail);clear z0;refine wp_region_each (kss:=[[],[(0,35)],[],[(2,37)],[(1,36),(3,38)],[(4,39)],[],[(6,41)],[],[(7,42),(8,43)],[(9,44)],[(5,40),(10,45)]]) [(7,.pointer (some (⟨g7,0,none⟩))),(8,.int .i64 ((i:Int)))] [EV (.pointer (some (⟨g7,0,none⟩))),EV (.slice ((some ua)) un uc),EV (.int .i64 ((i:Int))),EV (.int .i64 ((i0:Int))),EV (.pointer (some (Addr.add ua (i0*1)))),EV (.int .i64 ((va:Int))),EV (.pointer (some (⟨g7,0,none⟩))),EV (.slice ((some ua)) un uc),EV (.int .i64 ((i:Int))),EV (.pointer (some (Addr.add ua (i*1)))),EV (.int .i64 ((vb:Int))),EV (.bool false)] vk vk vt ?_ ?_ ?_
     ·exact js
     ·exact⟨zcH,zq7,vi1,zq8,zq9,(fun aa ww hb he hd=>za rfl (zd rfl vk hd.1 (by rw[Nat.mul_one];exact(hb.cell (zh HCa.out)).trans HCa.out))),zcH,zq7,vi1,zn0,(fun aa ww hb he hd=>za rfl (zd rfl vk hd.1 (by rw[Nat.mul_one];exact(hb.cell (zh HCb.out)).trans HCb.out))),(fun aa ww hb he hd=>za rfl (yY ((va:Int)) ((vb:Int)) .i64 _ _ _ _ rfl hd.1 hd.2.1 ⟨ut Value.bool (decide_eq_false (by have:=HAB.out;omega)),ue _ _⟩)),uC⟩
     intro vs w5 hb hR;refine zpP ?_;clear hR;have HK:=vh (show ((∃f:Nat→Bool,Blk w5 gu 4 ((List.range n).map fun v=>(.bool (f v):Value)).toArray∧(∀k0 v,k0<k→v∈(ats.getD k0 ([],[])).1→f v=true))∧Below w.heap.size w w5)∧Blk w5 g7 95 #[.slice (some ua) un uc,.int .i64 (un:Int),.slice RA rn rc] from⟨⟨by obtain⟨f,q1,q2⟩:=HJ.1.1;exact⟨f,q1.keep hb,q2⟩,HJ.1.2.trans (hb.mono HJ.1.2.size)⟩,HJ.2.keep hb⟩);clear hb HJ HCa HCb;go_wp2_with fail;go_roundg (un+1 - (i+1));case measure=>have:=HGi.out;omega
     case rel=>exact⟨i+1,vj1,jo,jo,rfl,HK⟩
    ·have i3:¬((i:Int)<(un:Int)):=jo;have H5:=vh (show (∃f:Nat→Bool,Blk wr gu 4 ((List.range n).map fun v=>(.bool (f v):Value)).toArray∧(∀k0 v,k0<k→v∈(ats.getD k0 ([],[])).1→f v=true)∧(∀v,v∈x.1.take 0→f v=true))∧Below w.heap.size w wr∧Blk wr g7 95 #[.slice UA un uc,.int .i64 (un:Int),.slice RA rn rc] from⟨by obtain⟨f,q1,q2⟩:=HJ.1.1;exact⟨f,q1,q2,fun v hv=>by simp at hv⟩,HJ.1.2,HJ.2⟩);clear HJ;go_wp2_with fail;clear z0;go_loopg [50] un (fun g iv wr=>∃p:Nat,iv = .int .i64 p∧p+g=un∧Hid ((∃f:Nat→Bool,Blk wr gu 4 ((List.range n).map fun v=>(.bool (f v):Value)).toArray∧(∀k0 v,k0<k→v∈(ats.getD k0 ([],[])).1→f v=true)∧(∀v,v∈x.1.take p→f v=true))∧Below w.heap.size w wr∧Blk wr g7 95 #[.slice UA un uc,.int .i64 (un:Int),.slice RA rn rc]));case atStart=>exact⟨0,rfl,jo,H5⟩
     case round=>
      clear H5;obtain⟨p,rfl,hpg,HJ⟩:=hrel;by_cases hp:p<un
      ·have i4:((p:Int)<(un:Int)):=jo;obtain⟨vv,hvv⟩:∃y,x.1[p]? = some y:=⟨_,uf (by rw[←HUn];exact hp)⟩;have hvn:vv<n:=HVr.2 vv (ui hvv);obtain⟨ua,rfl,hcu⟩:=zfa HUX.out hp hvv;have hcu2:=(HJ.2.1.cell (zh hcu)).trans hcu;have HCu:=vh hcu2;have HVv:=vh hvv;clear hcu hcu2 hvv;have t0:¬((vv:Int)<0):=jo;have t1:¬((vv:Int)≥(n:Int)):=jo;go_upto_region 16 with (fail);refine zj (kss:=[[],[(0,52)],[(1,53)]]) [(48,.slice ((some ua)) un uc),(50,.int .i64 ((p:Int)))] [EV (.pointer (some (Addr.add ua (p*1)))),EV (.int .i64 ((vv:Int))),EV (.int .i64 ((vv:Int)))] vk vt ?_ ?_ ?_
       ·exact js
       ·exact⟨zq5,zqb,vi3,uC⟩
       intro vs w6 hb hR;refine vw4 ?_;clear hR;have H6:=vh (show (∃f:Nat→Bool,Blk w6 gu 4 ((List.range n).map fun v=>(.bool (f v):Value)).toArray∧(∀k0 v,k0<k→v∈(ats.getD k0 ([],[])).1→f v=true)∧(∀v,v∈x.1.take p→f v=true))∧Below w.heap.size w w6∧Blk w6 g7 95 #[.slice (some ua) un uc,.int .i64 (un:Int),.slice RA rn rc] from⟨by obtain⟨f,q1,q2⟩:=HJ.1;exact⟨f,q1.keep hb,q2⟩,HJ.2.1.trans (hb.mono HJ.2.1.size),HJ.2.2.keep hb⟩);clear hb HJ HCu;obtain⟨f,hf1,hf2,hf3⟩:=H6.1;have HF1:=vh hf1;have HF2:=vh (uh hf2 hf3);clear hf1 hf2 hf3;go_upto_region 19 with (fail);clear t0 t1;refine zc (kss:=[[],[],[(0,61),(1,62)]]) [(5,.slice ((some ⟨gu,0,none⟩)) n n),(10,.int .i64 ((vv:Int)))] [EV (.slice ((some ⟨gu,0,none⟩)) n n),EV (.int .i64 ((vv:Int))),EV (.pointer (some (⟨gu,vv,none⟩)))] 3 vk vt [false,false,false] ?_ ?_ ?_
       ·exact js
       ·exact⟨vi0,vi1,(fun aa ww hb he hd=>za rfl (ZW (e:=4) (k:=vv) rfl vk jo hd.1 hd.2.1)),uC⟩
       intro vs w7 hb hR;refine vw4 ?_;clear hR;have hx7:=HF1.keep hb;show wpOps _ _ _ [3] _ _;refine zb rfl rfl (zio (off:=vv) (v:= .bool true) rfl rfl vk rfl rfl rfl hx7 (by simp;exact hvn) (fun y=>zg6 n f vv y) ?_);intro w8 kn hg hs hbx;have hog:OutG (fun y=>y=gu) w6 w8:=(OutG.of_below hb).trans (OutG.of_grown hg rfl);have hne:g7≠gu:=Blk.ne_ H6.2.2 HF1.out jd;have HK:=vh (show (∃f:Nat→Bool,Blk w8 gu 4 ((List.range n).map fun v=>(.bool (f v):Value)).toArray∧(∀k0 v,k0<k→v∈(ats.getD k0 ([],[])).1→f v=true)∧(∀v,v∈x.1.take (p+1)→f v=true))∧Below w.heap.size w w8∧Blk w8 g7 95 #[.slice (some ua) un uc,.int .i64 (un:Int),.slice RA rn rc] from⟨⟨yv f vv true,by rw[zfd hvn] at hbx;exact hbx,fun k0 v h1 h2=>by
        by_cases e:v=vv
        ·subst e;exact zG _ _ _
        ·rw[zI _ _ e];exact HF2.1 k0 v h1 h2,fun v hv=>by
        by_cases e:v=vv
        ·subst e;exact zG _ _ _
        ·rw[zI _ _ e]
         rw[←yX HVv.out,uB] at hv
         rcases hv with hv | hv
         ·exact HF2.2 v hv
         ·exact(e (List.mem_singleton.1 hv)).elim⟩,H6.2.1.trans (hog.below H6.2.1.size (fun y e=>by rw[e];exact HGu.out)),hog.blk H6.2.2 hne⟩)
       clear hx7 kn hg hs hbx hog hne hb H6 HF1 HF2;unfold wpOps;go_wp2_with fail;go_roundg (gk - 1);case measure=>omega
       case rel=>exact⟨p+1,vj1,jo,HK⟩
      ·obtain rfl:p=un:=jo;have i4:¬((p:Int)<(p:Int)):=jo;have hall:x.1.take p=x.1:=by rw[HUn];exact List.take_length
       have H7:=vh (show ((∃f:Nat→Bool,Blk wr gu 4 ((List.range n).map fun v=>(.bool (f v):Value)).toArray∧(∀k0 v,k0<(k+1)→v∈(ats.getD k0 ([],[])).1→f v=true))∧Below w.heap.size w wr)∧Blk wr g7 95 #[.slice UA p uc,.int .i64 (p:Int),.slice RA rn rc] from⟨⟨by obtain⟨f,q1,q2,q3⟩:=HJ.1;exact⟨f,q1,fun k0 v h1 h2=>by
        by_cases e:k0=k
        ·subst e;rw[HX] at h2;exact q3 v (by rw[hall];exact h2)
        ·exact q2 k0 v jo h2⟩,HJ.2.1⟩,HJ.2.2⟩)
       clear HJ hall;go_upto_region 21 with (fail);refine wp_region_each (kss:=[[],[(0,65)],[(1,66)],[],[(3,68)],[(4,69)],[(2,67),(5,70)]]) [(7,.pointer (some (⟨g7,0,none⟩)))] [EV (.pointer (some (⟨g7,0,none⟩))),EV (.slice UA p uc),EV (.int .i64 ((p:Int))),EV (.pointer (some (⟨g7,1,none⟩))),EV (.agg #[.int .i64 (p:Int),.slice RA rn rc]),EV (.int .i64 ((p:Int))),EV (.bool false)] vk vk vt ?_ ?_ ?_
       ·exact js
       ·exact⟨zcH,(fun aa ww hb he hd=>za rfl (zd rfl vk hd.1 (by have hh:=(Blk.at_k (off:=0) (l:=[.slice UA p uc]) H7.2 rfl hb) 0 _ rfl;rw[Addr.add_mid] at hh;exact hh))),vi6,zeg,(fun aa ww hb he hd=>za rfl (zg (cs:=[.int .i64 (p:Int),.slice RA rn rc]) rfl vk vk hd.1 (Blk.at_k (off:=1) (l:=[.int .i64 (p:Int),.slice RA rn rc]) H7.2 rfl hb))),(fun aa ww hb he hd=>za rfl (zq _ _ _ rfl vk (by rw[show aa.eval (.tmp 69)=_ from hd.1];exact zU (zeX (p:Int) _ ww)))),(fun aa ww hb he hd=>za rfl (yH ((p:Int)) ((p:Int)) .i64 _ _ _ _ rfl hd.1 hd.2.1 ⟨ut Value.bool vz,ue _ _⟩)),uC⟩
       intro vs w9 hb hR;refine vw8 ?_;clear hR;have HK:=vh (show (∃f:Nat→Bool,Blk w9 gu 4 ((List.range n).map fun v=>(.bool (f v):Value)).toArray∧(∀k0 v,k0<(k+1)→v∈(ats.getD k0 ([],[])).1→f v=true))∧Below w.heap.size w w9 from⟨by obtain⟨f,q1,q2⟩:=H7.1.1;exact⟨f,q1.keep hb,q2⟩,H7.1.2.trans (hb.mono H7.1.2.size)⟩);clear hb H7;go_wp2_with fail;go_roundg (na - (k+1));case measure=>omega
       case rel=>exact⟨k+1,vj1,jo,HK⟩
  ·obtain rfl:k=na:=jo;have i2:¬((k:Int)<(k:Int)):=jo;obtain⟨f,hf1,hf2⟩:=HJ.1;have hft:∀v,v<n→f v=true:=fun v hv=>by
    obtain⟨a,ha,hm⟩:=HCv.out v hv;obtain⟨j,hj,e⟩:=List.getElem_of_mem ha;exact hf2 j v (by rw[HNa];exact hj) (by rw[List.getD_eq_getElem?_getD,uf hj,e];exact hm)
   have HF:=vh (uh hf1 hft);have HB:=vh HJ.2;clear hf1 hf2 hft HJ;go_wp2_with fail;refine(zes hn HF.1 HF.2).mono ?_;rintro e w2 ⟨rfl,hb⟩;have HB2:=vh (HB.trans (hb.mono HB.size));clear hb;go_wp2_with fail;go_ret;exact⟨rfl,HB2.out⟩
theorem zkQ {v:Value} {ats:List (List Nat×List (List Int))} (h:SlsV 95 3 AtC w v ats) (hn:n≤32) (hna:ats.length≤32) (hw:WfA n ats) (hfew:∀a∈ats,a.2.length≤60000) (hcov:∀v,v<n→∃a∈ats,v∈a.1) (hlim:yA ats n 0 (fun _=>0)≤3000):Calls Tryz.prog 9 #[.int .i64 (n:Int),v] w fun e w'=>(∃(A:Option Addr) (k c:Nat),(∃z:Int,e = .returned (.tuple #[.slice A k c,.int .i64 z,.int .i64 0]))∧FN.vq22 w' (.slice A k c) (yA ats n 0 (fun _=>0))∧(k=0↔yA ats n 0 (fun _=>0)=0))∧Below w.heap.size w w':=by
 have HA:=vh h;have HW:=vh hw;have HCv:=vh hcov;have HFw:=vh hfew;have HLm:=vh hlim;clear h hw hcov hfew hlim;go_enter Tryz.func9,Tryz.ntmps9;go_wp2_with fail;refine(zg7 HA.out hn hna HW.out HCv.out).mono ?_;rintro e w1 ⟨rfl,hb1⟩;have HB1:=vh hb1;clear hb1;go_upto_region 4 with (fail);refine zc (kss:=[]) [] [] 0 vk trivial [] trivial trivial ?_;intro vs w2 hb hR;clear hR;refine vs0 ?_;show wpOps _ _ _ [0,1] _ _;refine zb rfl rfl (zsi rfl ?_);refine jp 8 ?_;refine zb rfl rfl (zio (off:=0) (v:= .int .u64 0) rfl rfl vk rfl rfl rfl (Blk.new _ _ _) (by show 0<1;omega) (fun y=>Yk (i:=0) (v:= .int .u64 0) rfl rfl y) ?_);intro w3 kn hg hs hbx;have hbw:Below w2.heap.size w2 w3:=(al w2 _).grown hg (al w2 _).size (fun k e=>by cases e;exact ug _);obtain⟨gc,hgb⟩:∃g,g=w2.heap.size:=⟨_,rfl⟩;rw[←hgb] at hbx ⊢;clear kn hg hs;unfold wpOps;have H3:=vh (show Below w.heap.size w w3∧Blk w3 gc 36 #[.int .u64 ((0:Nat):Int)]∧w.heap.size≤gc from⟨HB1.trans ((ze hb hbw hb.size).mono HB1.size),hbx,by rw[hgb];exact ud HB1.size hb.size⟩);clear hb hbw hgb hbx;go_wp2_with fail;refine(zpl (SlsV.below HA.out H3.1 (fun _ _ h=>h.below H3.1)) hn jo HW.out HFw.out HCv.out H3.2.1 (ud HLm.out jo)).mono ?_;rintro e w4 ⟨⟨z,rfl⟩,hc4,ho4⟩;have hb4:Below w.heap.size w w4:=H3.1.trans (ho4.below H3.1.size (fun y e=>by rw[e];exact H3.2.2));have z0:=Blk.at0 hc4 (ue _ _);have HB4:=vh hb4;clear hc4 ho4 hb4;go_wp2_with fail;refine(zhD (yA ats n 0 fun _=>0) (by have:=HLm.out;omega) w4).mono ?_;rintro e w5 ⟨A9,k9,c9,rfl,h2,hn9,h3⟩;have HN9:=vh hn9.zero;clear hn9;have H5:=vh (show FN.vq22 w5 (.slice A9 k9 c9) (yA ats n 0 fun _=>0)∧Below w.heap.size w w5 from⟨⟨_,_,_,rfl,h2.up (ZP (by have:=HLm.out;omega)) jo,ud HLm.out zfb⟩,HB4.trans (h3.mono HB4.size)⟩);clear h2 h3 z0;go_wp2_with fail;refine bodyPost_ret (results_tmp3 rfl _ _ _) rfl ?_;exact⟨⟨_,_,_,⟨z,rfl⟩,H5.1,HN9.out⟩,H5.2⟩
def IntzV (w:World) (v:Value) (xs:List Int):Prop:=∃A n c,v = .slice A n c∧n≤c∧RdT w 3 1 A n (I64 xs)∧(n=xs.length∧n≤1000)∧∀x∈xs,-1≤x∧x≤9
theorem IntzV.x {v:Value} {xs:List Int} (h:IntzV w v xs):∃A n c,v = .slice A n c∧n≤c∧n=xs.length∧n≤1000∧(∀x∈xs,-1≤x∧x≤9)∧Reads w w.heap.size 1 A n (I64 xs):=by
 obtain⟨A,n,c,e,h1,h2,h3,h4⟩:=h;exact⟨A,n,c,e,h1,h3.1,h3.2,h4,h2.rd⟩
theorem IntzV.kd {T:List TypeId} {v:Value} {xs:List Int} (h:IntzV w v xs) (k:KD T w w') (ht:T.contains 3=true):IntzV w' v xs:=by
 exact znH
theorem zju {B p:Nat} {A:Option Addr} {v:Int} {xs:List Int} (h:Reads w B 1 A n (I64 xs)) (hp:p<n) (hv:xs[p]? = some v):∃ua,A=some ua∧w.cell? (ua.add p)=some (.int .i64 v):=by
 obtain⟨ad,e,h2,h3⟩:=h.2 jo;exact⟨ad,e,h3 p _ (by simp[I64,hv])⟩
def RaC (w:World) (cs:List Value) (x:List Int):Prop:=∃u b,cs=[u,b]∧IntzV w u x∧okC b=true
theorem RaC.kd {T:List TypeId} {cs:List Value} {x:List Int} (h:RaC w cs x) (k:KD T w w') (ht:T.contains 3=true):RaC w' cs x:=by
 obtain⟨u,b,e,h1,h2⟩:=h;exact⟨u,b,e,h1.kd k ht,h2⟩
theorem zm9:∀x:List Int,(∀i a b,x[i]? = some a→x[i+1]? = some b→a<b)→x.Pairwise (· < ·)
 |[],_=>List.Pairwise.nil
 |[a],_=>List.pairwise_singleton _ _
 |a :: b :: l,h=>by
  have h1:=zm9 (b :: l) fun i c d e1 e2=>h (i+1) c d (by simpa using e1) (by simpa using e2)
  have h2:a<b:=h 0 a b rfl rfl
  refine List.Pairwise.cons (fun y hy=>?_) h1
  rcases List.mem_cons.1 hy with rfl | hy
  ·exact h2
  ·exact Int.lt_trans h2 ((List.pairwise_cons.1 h1).1 y hy)
def zpm (n:Nat) (ks:List Nat) (i:Nat) (x:List Int):Prop:=x.Pairwise (· < ·)∧(∀y∈x,0≤y∧y<(n:Int))∧ks[i]? = some x.length
def WOk (n:Nat) (ms:List (List Int)) (ks:List Nat):Prop:=(∀i x,ms[i]? = some x→zpm n ks i x)∧∀v:Nat,v<n→∃x∈ms,(v:Int)∈x
def WrE (n:Nat) (ms:List (List Int)) (ks:List Nat) (w:World) (e:Ending) (w':World):Prop:=∃c:Int,e = .returned (.int .i64 c)∧(c=0→WOk n ms ks)∧Below w.heap.size w w'
def WrJ (w:World) (gu:Nat) (ms:List (List Int)) (wr:World):Prop:=Below w.heap.size w wr∧w.heap.size≤gu∧∃f:Nat→Bool,Blk wr gu 101 ((List.range 32).map fun v=>(.bool (f v):Value)).toArray∧∀v:Nat,f v=true→∃x∈ms,(v:Int)∈x
theorem WrJ.below (h:WrJ w gu ms wr) (hb:Below wr.heap.size wr w'):WrJ w gu ms w':=by
 obtain⟨h1,h2,f,h3,h4⟩:=h;exact⟨h1.trans (hb.mono h1.size),h2,f,h3.keep hb,h4⟩
theorem WrJ.mark (h:WrJ w gu ms wr) {x:List Int} (hx:x∈ms) {v:Nat} (hv:(v:Int)∈x):∃cs:Array Value,Blk wr gu 101 cs∧cs.size=32∧(∀(j:Nat) (y:Int),cs[j]?≠some (Value.int .u32 y))∧∀w',v<32→wr.grownBy w' (some gu)→Blk w' gu 101 (yt cs.toList v [.bool true]).toArray→WrJ w gu ms w':=by
 obtain⟨h1,h2,f,h3,h4⟩:=h;refine⟨_,h3,vz,zg6 32 f,fun w' hv32 hg hb=>?_⟩;rw[zfd hv32] at hb;have hog:OutG (fun y=>y=gu) wr w':=OutG.of_grown hg rfl;refine⟨h1.trans (hog.below h1.size (fun y e=>by rw[e];exact h2)),h2,yv f v true,hb,fun u hu=>?_⟩;by_cases e:u=v
 ·subst e;exact⟨x,hx,hv⟩
 ·rw[zI _ _ e] at hu;exact h4 u hu
theorem zir {v u:Value} {ks:List Nat} (h:SlsV 100 2 RaC w v ms) (hk:IntsV w u ks) (hkl:ks.length=ms.length) (hn:n≤32) (hna:ms.length≤32):Calls Tryz.prog 5 #[.int .i64 (n:Int),v,u] w (WrE n ms ks w):=by
 obtain⟨TA,tc,rfl,htc,-,-⟩:=h.form;obtain⟨na,hna0⟩:∃x,x=ms.length:=⟨_,rfl⟩;rw[←hna0] at h htc hna hkl ⊢;obtain⟨KA,kn,kc,rfl,hknc,hkn,hkX⟩:=hk.x;obtain rfl:kn=na:=by rw[hkn,hkl]
 have HA:=vh h;have HNa:=vh hna0;have HKX:=vh hkX;have HKn:=vh hkn;have t0:¬((n:Int)<0):=jo;have t1:¬((n:Int)>32):=jo;have t2:¬((kn:Int)>32):=jo;clear h hna0 hk hkX hkn hkl;unfold WrE;go_enter Tryz.func5,Tryz.ntmps5;go_upto_region 6 with (fail);clear t0 t1 t2;obtain⟨w1,hw0⟩:∃x,x=w.alloc (.cells #[.bool false,.bool false,.bool false,.bool false,.bool false,.bool false,.bool false,.bool false,.bool false,.bool false,.bool false,.bool false,.bool false,.bool false,.bool false,.bool false,.bool false,.bool false,.bool false,.bool false,.bool false,.bool false,.bool false,.bool false,.bool false,.bool false,.bool false,.bool false,.bool false,.bool false,.bool false,.bool false] 101):=⟨_,rfl⟩;rw[←hw0];have hs0:w1.heap.size=w.heap.size+1:=by rw[hw0];simp
 have ha0:Below w.heap.size w w1:=by rw[hw0];exact al _ _
 obtain⟨gu,hg0⟩:∃g,g=w.heap.size:=⟨_,rfl⟩;have hx0:Blk w1 gu 101 #[.bool false,.bool false,.bool false,.bool false,.bool false,.bool false,.bool false,.bool false,.bool false,.bool false,.bool false,.bool false,.bool false,.bool false,.bool false,.bool false,.bool false,.bool false,.bool false,.bool false,.bool false,.bool false,.bool false,.bool false,.bool false,.bool false,.bool false,.bool false,.bool false,.bool false,.bool false,.bool false]:=by rw[hw0,hg0];exact Blk.new _ _ _
 rw[←hg0];have Xu:=vh hx0;have Gu:=vh (show w.heap.size≤gu by omega);have HB1:=vh (show Below w.heap.size w w1 from ha0);clear hw0 hs0 ha0 hg0 hx0;have HI:=vh (show WrJ w gu ms w1 from⟨HB1.out,Gu.out,fun _=>false,Xu.out,fun v hv=>by cases hv⟩);clear HB1 Gu Xu;go_wp2_with fail;go_loopg [8] kn (fun g iv wr=>∃k:Nat,iv = .int .i64 k∧k+g=kn∧Hid (WrJ w gu ms wr)∧Hid (∀i x,i<k→ms[i]? = some x→zpm n ks i x));case atStart=>exact⟨0,rfl,jo,HI,vh fun i x hi=>absurd hi jo⟩
 case round=>
  clear HI;obtain⟨k,rfl,hkg,HJ,HP⟩:=hrel;by_cases hk:k<kn
  ·have i1:((k:Int)<(kn:Int)):=jo;obtain⟨x,hx⟩:∃x,ms[k]? = some x:=⟨_,uf (by rw[←HNa];omega)⟩;obtain⟨ad,cs,rfl,-,hco,hrc⟩:=HA.atA hx;obtain⟨u,b,rfl,hu,hbv⟩:=hrc;obtain⟨UA,un,uc,rfl,hunc,hUn,hU1,hUz,hUX⟩:=hu.x;have HCo:=vh (hco 0 (.slice UA un uc) rfl);have HX:=vh hx;have HUn:=vh hUn;have HUz:=vh hUz;have HUX:=vh hUX;have HU1:=vh hU1;clear hx hco hu hbv hunc hUn hUz hUX hU1;go_wp2_with fail;go_loopg [9] un (fun g iv wr=>∃i:Nat,iv = .int .i64 i∧1≤i∧i≤un+1∧g=un+1 - i∧Hid (WrJ w gu ms wr)∧Hid (∀i9 a b,i9+1<i→x[i9]? = some a→x[i9+1]? = some b→a<b));case atStart=>exact⟨1,rfl,jo,jo,jo,HJ,vh fun i a b hi=>absurd hi jo⟩
   case round=>
    clear HJ;obtain⟨i,rfl,hi1,hi9,hgi,HJ,HQ⟩:=hrel;have HGi:=vh hgi;clear hgi;have hlu:=HU1.out;go_upto_region 10 with (fail);refine zj (kss:=[[],[],[],[(1,29),(2,30)],[(3,31)],[(4,32)],[(5,33)],[(0,28),(6,34)]]) [(9,.int .i64 ((i:Int))),(1,.slice ((some ad)) kn tc),(8,.int .i64 ((k:Int)))] [EV (.int .i64 ((i:Int))),EV (.slice ((some ad)) kn tc),EV (.int .i64 ((k:Int))),EV (.pointer (some (Addr.add ad (k*2)))),EV (.pointer (some (Addr.add (Addr.add ad (k*2)) 0))),EV (.slice UA un uc),EV (.int .i64 ((un:Int))),EV (.bool (decide (((i:Int))<((un:Int)))))] vk vt ?_ ?_ ?_
    ·exact js
    ·exact⟨vi0,vi1,vi4,zeu,zcG,zsW,vi6,(fun aa ww hb he hd=>za rfl (zZ ((i:Int)) ((un:Int)) .i64 _ _ _ _ rfl hd.1 hd.2.1 ⟨rfl,ue _ _⟩)),uC⟩
    intro vs w4 hb hR;refine vw3 ?_;clear hR;have HJ4:=vh (HJ.below hb);clear hb HJ;by_cases hi:i<un
    ·have i3:((i:Int)<(un:Int)):=jo;obtain⟨i0,hi0⟩:∃y,y=i - 1:=⟨_,rfl⟩;have HI0:=vh (show i0+1=i from by omega);obtain⟨va,hva⟩:∃y,x[i0]? = some y:=⟨_,uf (by rw[←HUn];omega)⟩;obtain⟨vb,hvb⟩:∃y,x[i]? = some y:=⟨_,uf (by rw[←HUn];omega)⟩;obtain⟨ua,rfl,hca⟩:=zju HUX.out (show i0<un by omega) hva;obtain⟨ub,eb,hcb⟩:=zju HUX.out hi hvb;injection eb with eb;subst eb;have HCa:=vh hca;have HCb:=vh hcb;have HVa:=vh hva;have HVb:=vh hvb;clear hca hcb hva hvb hi0;go_upto_region 12 with (fail);refine wp_region_each (kss:=[[],[],[(0,38),(1,39)],[(2,40)],[(3,41)],[],[(5,43)],[(4,42),(6,44)],[(7,45)],[],[],[(9,47),(10,48)],[(11,49)],[(12,50)],[],[(13,51),(14,52)],[(15,53)],[(8,46),(16,54)]]) [(1,.slice ((some ad)) kn tc),(8,.int .i64 ((k:Int))),(9,.int .i64 ((i:Int)))] [EV (.slice ((some ad)) kn tc),EV (.int .i64 ((k:Int))),EV (.pointer (some (Addr.add ad (k*2)))),EV (.pointer (some (Addr.add (Addr.add ad (k*2)) 0))),EV (.slice ((some ua)) un uc),EV (.int .i64 ((i:Int))),EV (.int .i64 ((i0:Int))),EV (.pointer (some (Addr.add ua (i0*1)))),EV (.int .i64 va),EV (.slice ((some ad)) kn tc),EV (.int .i64 ((k:Int))),EV (.pointer (some (Addr.add ad (k*2)))),EV (.pointer (some (Addr.add (Addr.add ad (k*2)) 0))),EV (.slice ((some ua)) un uc),EV (.int .i64 ((i:Int))),EV (.pointer (some (Addr.add ua (i*1)))),EV (.int .i64 vb),EV (.bool (decide (va≥vb)))] vk vk vt ?_ ?_ ?_
     ·exact js
     ·exact⟨vi0,vi1,zeu,zcG,ziC,vi4,zq8,zq9,zn1,vi0,vi1,zeu,zcG,ziC,vi4,zn0,(fun aa ww hb he hd=>za rfl (zd rfl vk hd.1 (by rw[Nat.mul_one];exact((HJ4.1.trans (hb.mono HJ4.1.size)).cell (zh HCb.out)).trans HCb.out))),(fun aa ww hb he hd=>za rfl (yY va vb .i64 _ _ _ _ rfl hd.1 hd.2.1 ⟨rfl,ue _ _⟩)),uC⟩
     intro vs w5 hb hR;refine vs0 ?_;rw[(hR 17 jd:vs 17=_)];clear hR;have HJ5:=vh (HJ4.below hb);clear hb HJ4;by_cases hge:va≥vb
     ·exact znK
     ·go_wp2_with fail;go_roundg (un+1 - (i+1));case measure=>have:=HGi.out;omega
      case rel=>exact⟨i+1,vj1,jo,jo,rfl,HJ5,vh fun j a b hj ha hb=>by
       by_cases e:j+1<i
       ·exact HQ.out j a b e ha hb
       ·obtain rfl:j=i0:=by have:=HI0.out;omega
        have h1:=HVa.out;have h2:=HVb.out;rw[←HI0] at h2
        rw[h1] at ha;rw[h2] at hb;cases ha;cases hb;omega⟩
    ·have i3:¬((i:Int)<(un:Int)):=jo;have HAsc:=vh (zm9 x fun j a b ha hb=>HQ.out j a b (by have h1:=(List.getElem?_eq_some_iff.1 hb).1;rw[←HUn] at h1;omega) ha hb);clear HQ;go_wp2_with fail;go_loopg [10] un (fun g iv wr=>∃p:Nat,iv = .int .i64 p∧p+g=un∧Hid (WrJ w gu ms wr)∧Hid (∀i a,i<p→x[i]? = some a→0≤a∧a<(n:Int)));case atStart=>exact⟨0,rfl,jo,HJ4,vh fun i a hi=>absurd hi jo⟩
     case round=>
      clear HJ4;obtain⟨p,rfl,hpg,HJ,HQ⟩:=hrel;have hlu:=HU1.out;go_upto_region 15 with (fail);refine zj (kss:=[[],[],[],[(1,57),(2,58)],[(3,59)],[(4,60)],[(5,61)],[(0,56),(6,62)]]) [(10,.int .i64 ((p:Int))),(1,.slice ((some ad)) kn tc),(8,.int .i64 ((k:Int)))] [EV (.int .i64 ((p:Int))),EV (.slice ((some ad)) kn tc),EV (.int .i64 ((k:Int))),EV (.pointer (some (Addr.add ad (k*2)))),EV (.pointer (some (Addr.add (Addr.add ad (k*2)) 0))),EV (.slice UA un uc),EV (.int .i64 ((un:Int))),EV (.bool (decide (((p:Int))<((un:Int)))))] vk vt ?_ ?_ ?_
      ·exact js
      ·exact⟨vi0,vi1,vi4,zeu,zcG,zsW,vi6,(fun aa ww hb he hd=>za rfl (zZ ((p:Int)) ((un:Int)) .i64 _ _ _ _ rfl hd.1 hd.2.1 ⟨rfl,ue _ _⟩)),uC⟩
      intro vs w4 hb hR;refine vw3 ?_;clear hR;have HJ4:=vh (HJ.below hb);clear hb HJ;by_cases hp:p<un
      ·have i4:((p:Int)<(un:Int)):=jo;obtain⟨va,hva⟩:∃y,x[p]? = some y:=⟨_,uf (by rw[←HUn];exact hp)⟩;obtain⟨ua,rfl,hca⟩:=zju HUX.out hp hva;have HCa:=vh hca;have HVa:=vh hva;clear hca hva;by_cases hneg:va<0
       ·skip;go_upto_region 17 with (fail);refine zj (kss:=[[],[],[(0,66),(1,67)],[(2,68)],[(3,69)],[],[(4,70),(5,71)],[(6,72)],[(7,73)],[(8,74)],[(9,75)],[(9,75)],[(9,75),(10,76),(11,77)],[(9,75),(12,78)],[(9,75),(13,79)],[(9,75)],[(9,75),(14,80),(15,81)],[(9,75),(16,82)],[(9,75)],[(9,75),(17,83),(18,84)],[(9,75),(19,85)]]) [(1,.slice ((some ad)) kn tc),(8,.int .i64 ((k:Int))),(10,.int .i64 ((p:Int))),(0,.int .i64 ((n:Int)))] [EV (.slice ((some ad)) kn tc),EV (.int .i64 ((k:Int))),EV (.pointer (some (Addr.add ad (k*2)))),EV (.pointer (some (Addr.add (Addr.add ad (k*2)) 0))),EV (.slice ((some ua)) un uc),EV (.int .i64 ((p:Int))),EV (.pointer (some (Addr.add ua (p*1)))),EV (.int .i64 va),EV (.bool true),EV (.bool true),EV (undef),EV (undef),EV (undef),EV (undef),EV (undef),EV (undef),EV (undef),EV (undef),EV (undef),EV (undef),EV (.bool true)] vk vt ?_ ?_ ?_
        ·exact js
        ·exact⟨vi0,vi1,zeu,zcG,ziC,vi4,zsX,zn1,(fun aa ww hb he hd=>za rfl (zZ va 0 .i64 _ _ _ _ rfl hd.1 rfl ⟨ut Value.bool (decide_eq_true hneg),ue _ _⟩)),vi2,zev,zev,zev,zev,zev,zev,zev,zev,zev,zev,zhv,uC⟩
        exact vt41
       ·by_cases hge:va≥(n:Int)
        ·skip;go_upto_region 17 with (fail);refine zj (kss:=[[],[],[(0,66),(1,67)],[(2,68)],[(3,69)],[],[(4,70),(5,71)],[(6,72)],[(7,73)],[(8,74)],[(9,75)],[(9,75)],[(9,75),(10,76),(11,77)],[(9,75),(12,78)],[(9,75),(13,79)],[(9,75)],[(9,75),(14,80),(15,81)],[(9,75),(16,82)],[(9,75)],[(9,75),(17,83),(18,84)],[(9,75),(19,85)]]) [(1,.slice ((some ad)) kn tc),(8,.int .i64 ((k:Int))),(10,.int .i64 ((p:Int))),(0,.int .i64 ((n:Int)))] [EV (.slice ((some ad)) kn tc),EV (.int .i64 ((k:Int))),EV (.pointer (some (Addr.add ad (k*2)))),EV (.pointer (some (Addr.add (Addr.add ad (k*2)) 0))),EV (.slice ((some ua)) un uc),EV (.int .i64 ((p:Int))),EV (.pointer (some (Addr.add ua (p*1)))),EV (.int .i64 va),EV (.bool false),EV (.bool false),EV (.slice ((some ad)) kn tc),EV (.int .i64 ((k:Int))),EV (.pointer (some (Addr.add ad (k*2)))),EV (.pointer (some (Addr.add (Addr.add ad (k*2)) 0))),EV (.slice ((some ua)) un uc),EV (.int .i64 ((p:Int))),EV (.pointer (some (Addr.add ua (p*1)))),EV (.int .i64 va),EV (.int .i64 ((n:Int))),EV (.bool true),EV (.bool true)] vk vt ?_ ?_ ?_
         ·exact js
         ·exact⟨vi0,vi1,zeu,zcG,ziC,vi4,zsX,zn1,zra,vi2,zrb,zrc,zrd,zre,zrf,zrg,zrh,zri,zrj,(fun aa ww hb he hd=>zn 75 rfl vk hd.1 (yY va ((n:Int)) .i64 _ _ _ _ rfl hd.2.1 hd.2.2.1 ⟨ut Value.bool (decide_eq_true hge),ue _ _⟩)),vi7,uC⟩
         exact vt41
        ·skip;go_upto_region 17 with (fail);refine zj (kss:=[[],[],[(0,66),(1,67)],[(2,68)],[(3,69)],[],[(4,70),(5,71)],[(6,72)],[(7,73)],[(8,74)],[(9,75)],[(9,75)],[(9,75),(10,76),(11,77)],[(9,75),(12,78)],[(9,75),(13,79)],[(9,75)],[(9,75),(14,80),(15,81)],[(9,75),(16,82)],[(9,75)],[(9,75),(17,83),(18,84)],[(9,75),(19,85)]]) [(1,.slice ((some ad)) kn tc),(8,.int .i64 ((k:Int))),(10,.int .i64 ((p:Int))),(0,.int .i64 ((n:Int)))] [EV (.slice ((some ad)) kn tc),EV (.int .i64 ((k:Int))),EV (.pointer (some (Addr.add ad (k*2)))),EV (.pointer (some (Addr.add (Addr.add ad (k*2)) 0))),EV (.slice ((some ua)) un uc),EV (.int .i64 ((p:Int))),EV (.pointer (some (Addr.add ua (p*1)))),EV (.int .i64 va),EV (.bool false),EV (.bool false),EV (.slice ((some ad)) kn tc),EV (.int .i64 ((k:Int))),EV (.pointer (some (Addr.add ad (k*2)))),EV (.pointer (some (Addr.add (Addr.add ad (k*2)) 0))),EV (.slice ((some ua)) un uc),EV (.int .i64 ((p:Int))),EV (.pointer (some (Addr.add ua (p*1)))),EV (.int .i64 va),EV (.int .i64 ((n:Int))),EV (.bool false),EV (.bool false)] vk vt ?_ ?_ ?_
         ·exact js
         ·exact⟨vi0,vi1,zeu,zcG,ziC,vi4,zsX,zn1,zra,vi2,zrb,zrc,zrd,zre,zrf,zrg,zrh,zri,zrj,(fun aa ww hb he hd=>zn 75 rfl vk hd.1 (yY va ((n:Int)) .i64 _ _ _ _ rfl hd.2.1 hd.2.2.1 ⟨ut Value.bool (decide_eq_false hge),ue _ _⟩)),vi7,uC⟩
         intro vs w5 hb hR;refine vs0 ?_;rw[(hR 20 jd:vs 20=_)];clear hR;have HJ5:=vh (HJ4.below hb);clear hb HJ4;go_wp2_with fail;go_roundg (gk - 1);case measure=>omega
         case rel=>exact⟨p+1,vj1,jo,HJ5,vh fun j a hj ha=>by
          by_cases e:j<p
          ·exact HQ.out j a e ha
          ·obtain rfl:j=p:=jo
           rw[HVa] at ha;cases ha;omega⟩
      ·obtain rfl:p=un:=jo;have i4:¬((p:Int)<(p:Int)):=jo;have HRg:=vh (show ∀y∈x,0≤y∧y<(n:Int) from fun y hy=>by
        obtain⟨j,hj,e⟩:=List.getElem_of_mem hy
        exact HQ.out j y (by rw[HUn];exact hj) (by rw[uf hj,e]))
       clear HQ;obtain⟨kv,hkv⟩:∃y,ks[k]? = some y:=⟨_,uf (by rw[←HKn];omega)⟩;obtain⟨ka,rfl,hck⟩:=zfa HKX.out hk hkv;have HCk:=vh hck;have HKv:=vh hkv;clear hck hkv;go_upto_region 19 with (fail);refine wp_region_each (kss:=[[],[],[(0,87),(1,88)],[(2,89)],[(3,90)],[(4,91)],[],[],[(6,93),(7,94)],[(8,95)],[(5,92),(9,96)]]) [(1,.slice ((some ad)) kn tc),(8,.int .i64 ((k:Int))),(2,.slice ((some ka)) kn kc)] [EV (.slice ((some ad)) kn tc),EV (.int .i64 ((k:Int))),EV (.pointer (some (Addr.add ad (k*2)))),EV (.pointer (some (Addr.add (Addr.add ad (k*2)) 0))),EV (.slice UA p uc),EV (.int .i64 ((p:Int))),EV (.slice ((some ka)) kn kc),EV (.int .i64 ((k:Int))),EV (.pointer (some (Addr.add ka (k*1)))),EV (.int .i64 ((kv:Int))),EV (.bool (((p:Int)) != ((kv:Int))))] vk vk vt ?_ ?_ ?_
       ·exact js
       ·exact⟨vi0,vi1,zeu,zcG,ziC,vi6,vi4,vi1,(fun aa ww hb he hd=>za rfl (zm (e:=3) (s:=1) (k:=k) rfl vk jo hd.1 hd.2.1)),(fun aa ww hb he hd=>za rfl (zd rfl vk hd.1 (by rw[Nat.mul_one];exact((HJ4.1.trans (hb.mono HJ4.1.size)).cell (zh HCk.out)).trans HCk.out))),(fun aa ww hb he hd=>za rfl (yH ((p:Int)) ((kv:Int)) .i64 _ _ _ _ rfl hd.1 hd.2.1 ⟨rfl,ue _ _⟩)),uC⟩
       intro vs w5 hb hR;refine vs0 ?_;rw[(hR 10 jd:vs 10=_)];clear hR;have HJ5:=vh (HJ4.below hb);clear hb HJ4;by_cases hne:p=kv
       ·skip;have i5:¬((p:Int)≠(kv:Int)):=jo;have HAt:=vh (show zpm n ks k x from⟨HAsc.out,HRg.out,by rw[HKv,←HUn,hne]⟩);subst hne;go_wp2_with fail;go_loopg [11] p (fun g iv wr=>∃q:Nat,iv = .int .i64 q∧q+g=p∧Hid (WrJ w gu ms wr));case atStart=>exact⟨0,rfl,jo,HJ5⟩
        case round=>
         clear HJ5;obtain⟨q,rfl,hqg,HJ⟩:=hrel;have hlu:=HU1.out;go_upto_region 22 with (fail);refine zj (kss:=[[],[],[],[(1,99),(2,100)],[(3,101)],[(4,102)],[(5,103)],[(0,98),(6,104)]]) [(11,.int .i64 ((q:Int))),(1,.slice ((some ad)) kn tc),(8,.int .i64 ((k:Int)))] [EV (.int .i64 ((q:Int))),EV (.slice ((some ad)) kn tc),EV (.int .i64 ((k:Int))),EV (.pointer (some (Addr.add ad (k*2)))),EV (.pointer (some (Addr.add (Addr.add ad (k*2)) 0))),EV (.slice UA p uc),EV (.int .i64 ((p:Int))),EV (.bool (decide (((q:Int))<((p:Int)))))] vk vt ?_ ?_ ?_
         ·exact js
         ·exact⟨vi0,vi1,vi4,zeu,zcG,zsW,vi6,(fun aa ww hb he hd=>za rfl (zZ ((q:Int)) ((p:Int)) .i64 _ _ _ _ rfl hd.1 hd.2.1 ⟨rfl,ue _ _⟩)),uC⟩
         intro vs w4 hb hR;refine vw3 ?_;clear hR;have HJ4:=vh (HJ.below hb);clear hb HJ;by_cases hq:q<p
         ·have i6:((q:Int)<(p:Int)):=jo;obtain⟨va,hva⟩:∃y,x[q]? = some y:=⟨_,uf (by rw[←HUn];exact hq)⟩;have hvr:=HRg.out va (ui hva);obtain⟨vv,rfl⟩:∃y:Nat,va=(y:Int):=⟨va.toNat,jo⟩;have hv32:vv<32:=jo;obtain⟨ua,rfl,hca⟩:=zju HUX.out hq hva;have HCa:=vh hca;have HMk:=vh (ui hva);clear hca hva hvr;go_upto_region 24 with (fail);refine zc (kss:=[[],[],[(0,108),(1,109)],[(2,110)],[(3,111)],[],[(4,112),(5,113)],[(6,114)],[(7,115)]]) [(1,.slice ((some ad)) kn tc),(8,.int .i64 ((k:Int))),(11,.int .i64 ((q:Int))),(7,.pointer (some (⟨gu,0,none⟩)))] [EV (.slice ((some ad)) kn tc),EV (.int .i64 ((k:Int))),EV (.pointer (some (Addr.add ad (k*2)))),EV (.pointer (some (Addr.add (Addr.add ad (k*2)) 0))),EV (.slice ((some ua)) p uc),EV (.int .i64 ((q:Int))),EV (.pointer (some (Addr.add ua (q*1)))),EV (.int .i64 ((vv:Int))),EV (.pointer (some (⟨gu,0+vv*1,none⟩)))] 9 vk vt [false,false,false,false,false,false,false,false,false] ?_ ?_ ?_
          ·exact js
          ·exact⟨vi0,vi1,zeu,zcG,ziC,vi4,(fun aa ww hb he hd=>za rfl (zm (e:=3) (s:=1) (k:=q) rfl vk jo hd.1 hd.2.1)),zn1,(fun aa ww hb he hd=>za rfl (zay (e:=4) (n:=32) (s:=1) (k:=vv) rfl vk jo he.2.2.2.1 hd.1)),uC⟩
          intro vs w5 hb hR;refine vw7 ?_;clear hR;obtain⟨cs0,hx5,hc5,hn5,hm5⟩:=(HJ4.below hb).mark (ui HX.out) HMk.out;show wpOps _ _ _ [9] _ _;refine zb rfl rfl (zio (off:=0+vv*1) (v:= .bool true) rfl rfl vk rfl rfl rfl hx5 (by rw[hc5];omega) (fun y=>hn5 _ y) ?_);intro w6 kn9 hg hs hbx;rw[Nat.zero_add,Nat.mul_one] at hbx;have HK:=vh (hm5 w6 hv32 hg hbx);clear hx5 hc5 hn5 hm5 kn9 hg hs hbx hb HJ4;exact vt87
         ·obtain rfl:q=p:=jo;have i6:¬((q:Int)<(q:Int)):=jo;go_wp2_with fail;go_roundg (kn - (k+1));case measure=>omega
          case rel=>exact⟨k+1,vj1,jo,HJ4,vh fun j z hj hz=>by
           by_cases e:j<k
           ·exact HP.out j z e hz
           ·obtain rfl:j=k:=jo
            rw[HX] at hz;cases hz;exact HAt.out⟩
       ·have i5:((p:Int)≠(kv:Int)):=jo;exact znK
  ·obtain rfl:k=kn:=jo;have i1:¬((k:Int)<(k:Int)):=jo;have HAll:=vh (show ∀i x,ms[i]? = some x→zpm n ks i x from fun i x hx=>HP.out i x (by have:=(List.getElem?_eq_some_iff.1 hx).1;rw[HNa];exact this) hx);clear HP;go_wp2_with fail;go_loopg [12] n (fun g iv wr=>∃p:Nat,iv = .int .i64 p∧p+g=n∧Hid (WrJ w gu ms wr)∧Hid (∀v:Nat,v<p→∃x∈ms,(v:Int)∈x));case atStart=>exact⟨0,rfl,jo,HJ,vh fun v hv=>absurd hv jo⟩
   case round=>
    clear HJ;obtain⟨p,rfl,hpg,HJ,HQ⟩:=hrel;by_cases hp:p<n
    ·have i2:((p:Int)<(n:Int)):=jo;have hj:=HJ.out;obtain⟨-,-,f,hf1,hf2⟩:=hj;obtain⟨b,hfb⟩:=vx (f p);have hc:wr.cell? ⟨gu,0+p*1,none⟩=some (.bool b):=by rw[hf1.cell];simp[hfb,show p<32 by omega]
     have HC:=vh hc;have HF:=vh (show b=true→∃x∈ms,(p:Int)∈x from fun e=>hf2 p (by rw[←hfb];exact e));clear hc hf1 hf2 hfb f;go_upto_region 28 with (fail);refine zj (kss:=[[],[(0,122)],[(1,123)],[(2,124)]]) [(12,.int .i64 ((p:Int))),(7,.pointer (some (⟨gu,0,none⟩)))] [EV (.int .i64 ((p:Int))),EV (.pointer (some (⟨gu,0+p*1,none⟩))),EV (.bool b),EV (.bool (!b))] vk vt ?_ ?_ ?_
     ·exact js
     ·exact⟨vi0,(fun aa ww hb he hd=>za rfl (zay (e:=4) (n:=32) (s:=1) (k:=p) rfl vk jo he.2.1 hd.1)),zq6,(fun aa ww hb he hd=>za rfl (YK b _ _ rfl hd.1 ⟨rfl,ue _ _⟩)),uC⟩
     intro vs w5 hb hR;refine vw6 ?_;clear hR;have HJ5:=vh (HJ.below hb);clear hb HJ HC;cases b with
     |false=>
      exact znK
     |true=>
      go_wp2_with fail;go_roundg (gk - 1);case measure=>omega
      case rel=>exact⟨p+1,vj1,jo,HJ5,vh fun v hv=>by
       by_cases e:v<p
       ·exact HQ.out v e
       ·obtain rfl:v=p:=jo
        first | exact HF.out rfl | exact HF.out trivial⟩
    ·obtain rfl:p=n:=jo;have i2:¬((p:Int)<(p:Int)):=jo;go_wp2_with fail;go_ret;exact⟨_,rfl,fun _=>⟨HAll.out,HQ.out⟩,HJ.1⟩
end Go.Proofs.YtoecdobelolkeaaGreatDoor
