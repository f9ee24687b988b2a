/-
  TopSemirings holds of the given program: whatever the input the law returns true, and each argument reads as it read before. Condition: the arguments are together of bulk at most 1048576 (the given form of second kind); the listed variables are tied to the text.
-/
import Derived.Test.YtoecdobelolkeaaGreatDoorTie
import Derived.Test.YtoecdobelolkeaaGreatDoorCards
import Derived.Test.YtoecdobelolkeaaGreatDoorK27
set_option linter.unusedVariables false
set_option linter.unusedSimpArgs false
set_option maxRecDepth 100000
namespace Go.Proofs.YtoecdobelolkeaaGreatDoor.topSemirings
open Go.ChangeShapes Go.WideShapes Go.ChangeAt Go.RowKit Go.Joins
theorem zsD {H:Type} {enc:TypeId×Value→H} (os:Os):(Rows.OpenSpec.upto Rows.topSemiringsSpec).preRow enc Tryz.prog Tryz.f3 Rows.topSemiringsUptoRow.domain false Rows.topSemiringsUptoRow.laid ((World.laidAll Tryz.prog os Rows.topSemiringsUptoRow.laid).forCall (fun _ _=>0) ⟨#[],#[.int .u8 0,.slice none 0 0,.slice none 0 0],[]⟩).memory #[.int .u8 0,.slice none 0 0,.slice none 0 0]:=
 ⟨⟨(OpenSpec.pre_some rfl _ _ _ _).2 ⟨[.lit (.int .u8 0),.nil,.nil],[],[],DataW.Whole_of_whole (fuel:=8) (x:=([.lit (.int .u8 0),.nil,.nil],[],[])) vk,vk,vk⟩,
  by rw[MakeChecks.laidMetH_plain _ _ _ vk];exact laidMet_laidAll _ vk vk⟩,sizedMet_of_sizedB (fuel:=8) vk⟩
theorem zsE (os:Os) (started:os.Started) (H:Type) (enc:TypeId×Value→H) (F:Stop.Interp) :
  ReturnsInHanded {} Tryz.checked os 3 .any ((Rows.OpenSpec.upto Rows.topSemiringsSpec).preRow enc Tryz.prog Tryz.f3 Rows.topSemiringsUptoRow.domain false Rows.topSemiringsUptoRow.laid) (((Rows.OpenSpec.upto Rows.topSemiringsSpec).at F).post enc Tryz.prog Tryz.f3 false true false false):=by
 refine returnsInHanded_of_row (C:=Tryz.checked) zll started vk Tryz.func3
  (witness_row_at (enc:=enc) (C:=Tryz.checked) false (World.laidAll Tryz.prog os Rows.topSemiringsUptoRow.laid) #[.int .u8 0,.slice none 0 0,.slice none 0 0] (World.laidAll_os _ _ _) vk vk vk (zsD os)) ?_
 intro W base args ds gs before hval0 hW hcnd hk0 _ _ _ _;have hk:Rows.uptoSmall H (ds++gs)=true:=hk0 _ rfl;have hval:∀(j:Nat) t v,Tryz.f3.params[j]? = some t→args[j]? = some v→Value.okWide Tryz.prog W .any base t v:=hval0;have hW':=hW;obtain⟨p,q,hA0,hV,rfl,hfz,hnd⟩:=hW;have hA:DataW.TrodAll enc Tryz.prog W 0 (fun _=>true) true Tryz.f3.params.toList args.toList ds p:=hA0;rw[Tryz.params3] at hA hval;obtain⟨v0,vs0,d0,ds0,p0,q0,hargs,rfl,rfl,h0,r0⟩:=trodAll_cons hA;obtain⟨v1,vs1,d1,ds1,p1,q1,rfl,rfl,rfl,h1,r1⟩:=trodAll_cons r0;obtain⟨v2,vs2,d2,ds2,p2,q2,rfl,rfl,rfl,h2,r2⟩:=trodAll_cons r1;obtain⟨rfl,rfl,rfl⟩:=trodAll_nil r2;obtain rfl:args=#[v0,v1,v2]:=by cases args;simp_all
 obtain⟨rfl,rfl⟩:=trodVars_none hV;simp only[List.append_nil] at hk;have k0:=h0;have lt0:∀x∈p0,x.block<W.heap.size:=by obtain⟨m,hm⟩:=k0;exact DataW.trod_lt m _ _ _ hm
 obtain⟨x0,rfl,-,-,wx0⟩:=open_int Tryz.underlying5 (hval 0 5 v0 rfl rfl) h0;have wx0:=bounds_u8 wx0;obtain⟨n0,rfl⟩:∃n:Nat,x0=(n:Int):=⟨x0.toNat,jo⟩;have k1:=h1;have lt1:∀x∈p1,x.block<W.heap.size:=by obtain⟨m,hm⟩:=k1;exact DataW.trod_lt m _ _ _ hm
 obtain⟨l1,hE1⟩:∃l9:List AIn,ArgA W v1 l9:=by
  obtain⟨a,l,c,rfl⟩:=okWide_slice Tryz.underlying22 (hval 1 22 v1 rfl rfl);obtain⟨fuel,hf⟩:=h1;exact zit hf hk vz
 have k2:=h2;have lt2:∀x∈p2,x.block<W.heap.size:=by obtain⟨m,hm⟩:=k2;exact DataW.trod_lt m _ _ _ hm
 obtain⟨A2,len2,cap2,bs2,rfl,hE2,hn2⟩:∃(A:Option Addr) (n c:Nat) (bs:List Nat),v2 = .slice A n c∧ByV W A n bs∧n≤1100000:=by
  obtain⟨a,l,c,rfl⟩:=okWide_slice Tryz.underlying23 (hval 2 23 v2 rfl rfl);obtain⟨fuel,hf⟩:=h2;exact ziu hf hk vz
 clear hA0 hval0 hk hk0;refine(zk2 (w:=W) (n:=n0) jo hE1 hE2 hn2).mono fun e W' ⟨he,bel⟩=>?_;subst he;exact⟨_,rfl,_,_,_,[],_,[],hW',trodAll_mk1 (shut_bool Tryz.underlying4 _),(trodAll_cons_mk (Below.trod zdl vk (of_decide_eq_true vk) k0 bel lt0) (trodAll_cons_mk (Below.trod zdl vk (of_decide_eq_true vk) k1 bel lt1) (trodAll_cons_mk (Below.trod zdl vk (of_decide_eq_true vk) k2 bel lt2) trodAll_mk0))),rfl,bel.frame _,fun h=>by cases h⟩
theorem over:Rows.topSemiringsUptoRow.holds Tryz.pinned (Rows.OpenSpec.upto Rows.topSemiringsSpec):=
 OpenClaim.holds_of_cond 3 Tryz.f3 rfl rfl rfl rfl rfl rfl rfl ⟨rfl,rfl,rfl,rfl,rfl⟩ rfl rfl rfl rfl rfl vk Tryz.func3 vk
  (of_decide_eq_true vk) (by unfold Func.isWrapper;first | (rw[if_pos (by decide +kernel)];kernel_rfl) | (rw[if_neg (by decide +kernel)];exact⟨rfl,rfl⟩))
  (fun os started H enc _ F=>by rw[OpenClaim.pre_eq_preRow];exact zsE os started H enc F)
theorem proved:Rows.TopSemiringsUptoCardSaid:=
 Claim7.holds_tied_plain_at .later [] [.data,.data,.data] true (true, "e9a2f633765749b2724689aacd22ba74616b11fbe982caa6d3d8a9b713b856f5") false over (fun _ h=>by cases h) vk (fun _ h=>by cases h) topSemiringsUpto_row_tie rfl ⟨rfl,rfl⟩ vk rfl
  (fun f fn hf hfn=>by
   obtain rfl:f=3:=Option.some.inj ((show Tryz.prog.funcNamed "ordinal/ordinaltop.TopSemirings" = some 3 by kernel_rfl).symm.trans hf) |>.symm
   obtain rfl:fn=Tryz.f3:=(Option.some.inj (Tryz.func3.symm.trans hfn)).symm
   exact⟨vk,fun j t ht=>by
    rw[Tryz.params3] at ht
    have hm:t∈[5,22,23]:=by simpa using Array.mem_of_getElem? ht
    have hall:([5,22,23].all fun u=>!Tryz.prog.wantsStandIn u)=true:=by kernel_rfl
    exact(show Tryz.prog.wantsStandIn t=false by simpa using List.all_eq_true.1 hall t hm)⟩)
  vk
#print axioms proved
end Go.Proofs.YtoecdobelolkeaaGreatDoor.topSemirings
