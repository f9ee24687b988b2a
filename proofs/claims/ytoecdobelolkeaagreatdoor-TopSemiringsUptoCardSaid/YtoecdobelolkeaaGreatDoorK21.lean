/- Part of TopSemirings. -/
import Derived.Test.YtoecdobelolkeaaGreatDoorK20
set_option linter.unusedVariables false
set_option linter.unusedSimpArgs false
set_option maxRecDepth 100000
set_option maxHeartbeats 128000000
namespace Go.Proofs.YtoecdobelolkeaaGreatDoor
open Go.RowKit
variable {w w':World} {k n B b i j y:Nat} {r V:List Nat} {S:Type} {e:TypeId} {A:Option Addr}
theorem zjw {cs:Array Value} {T:TypeId} {c:Nat} (h:cs.toList.all okC=true):Clean (w.alloc (.cells cs T)) (.slice (some ⟨w.heap.size,0,none⟩) n c):=by
 intro g hg i x hx;simp only[Value.ownBlock,Option.some.injEq] at hg;subst hg;rw[(Blk.new w T cs).cell] at hx;exact zD h i x hx
theorem zis {a:Nat} (h:Below b w w') (hab:a≤b):Below a w w':=h.mono hab
theorem SlsV.mono9 {R R':World→List Value→S→Prop} {v:Value} {xs:List S} (h:SlsV e k R w v xs) (hR:∀c x,R w c x→R' w c x):SlsV e k R' w v xs:=by
 obtain⟨A,n,c,e1,h1,h2,h3⟩:=h;exact⟨A,n,c,e1,h1,h2.mono hR,h3⟩
theorem zni {v:Value} {y:List Nat} (h:OwnC w B 3 1 v n (I64 (zu y))) (hn:n≤1000) (hy:∀x∈y,x≤1000000000):IntsV w v y:=by
 obtain⟨A,c,rfl⟩:=zF h.own;have hl:n=y.length:=by have:=h.own.1;simp[I64,zu] at this;omega
 exact vt52
abbrev AIn:=Nat×List (List Nat)×Nat
def LsR {S:Type} (k:Nat) (R:World→List Value→S→Prop) (w:World) (A:Option Addr) (xs:List S):Prop:=∃cl:List (List Value),(∀c∈cl,c.length=k)∧Reads w w.heap.size k A xs.length cl.flatten∧All2 (R w) cl xs
theorem LsR.atA {R:World→List Value→S→Prop} {xs:List S} (h:LsR k R w A xs) {x:S} (hi:xs[i]? = some x):∃ad cs,A=some ad∧cs.length=k∧(∀j u,cs[j]? = some u→w.cell? ((Addr.add ad (i*k)).add j)=some u)∧R w cs x:=by
 obtain⟨cl,h2,h3,h4⟩:=h;have hl:=h4.len;have hi2:i<xs.length:=(List.getElem?_eq_some_iff.1 hi).1;obtain⟨ad,e,-,hc⟩:=h3.2 jo;have hcl:cl[i]? = some (cl[i]'jo):=uf jo;have hk:=h2 _ (List.getElem_mem (by omega:i<cl.length));refine⟨ad,_,e,hk,fun j u hu=>?_,h4.at_ hcl hi⟩;rw[Addr.add_add];refine hc _ u ?_;exact vt59
def RiC (w:World) (c:List Value) (r:List Nat):Prop:=r.length=4∧(∀y∈r,y<256)∧c=r.map fun y:Nat=>Value.int .u8 (y:Int)
def AiC (w:World) (cs:List Value) (a:AIn):Prop:=∃RA rc,cs=[.int .u8 (a.1:Int),.slice RA a.2.1.length rc,.int .u8 (a.2.2:Int)]∧a.1<256∧a.2.2<256∧LsR 4 RiC w RA a.2.1∧a.2.1.length≤1100000
def ArgA (w:World) (v:Value) (l:List AIn):Prop:=∃A c,v = .slice A l.length c∧LsR 3 AiC w A l∧l.length≤1100000
def Yx (sm n:Nat):List Nat:=(List.range n).filter fun j=>sm / 2 ^ j % 2 == 1
def Zz (k:Nat) (r:List Nat):List Int:=(r.take k).map fun y=>((y % 4:Nat):Int)
def YX (b:Nat) (V:List Nat):List Int:=if b=0 then zu V else if b=1 then zu V++[9] else if b=2 then zu V++[0] else [-1]++zu V
def gdA (a:AIn):Prop:=(Yx a.1 8).length≤4∧a.2.1.length≤12
abbrev zg9:=List Int×Nat×List (List Int)
def MdR (a:AIn) (x:zg9):Prop:=x.1=YX a.2.2 (Yx a.1 8)∧x.2.1=(Yx a.1 8).length∧RsOk (Yx a.1 8).length x.2.2∧(∀r,r∈x.2.2↔r∈a.2.1.map (Zz (Yx a.1 8).length))∧x.2.2.length≤12
theorem ztq {sm:Nat} (h:sm / 2 ^ i % 2=1):Yx sm (i+1)=Yx sm i++[i]:=by
 unfold Yx;rw[List.range_succ,List.filter_append];simp[h]
theorem ztr {sm:Nat} (h:¬sm / 2 ^ i % 2=1):Yx sm (i+1)=Yx sm i:=by
 unfold Yx;rw[List.range_succ,List.filter_append];simp[h]
theorem zsn {sm v:Nat} (h:v∈Yx sm n):v<n:=List.mem_range.1 (List.mem_filter.1 h).1
theorem zf1 (sm n:Nat):(Yx sm n).length≤n:=ud (List.length_filter_le _ _) vz
theorem znj (h:r[j]? = some y):Zz (j+1) r=Zz j r++[((y % 4:Nat):Int)]:=by
 unfold Zz;rw[List.take_add_one,h];simp
theorem zd9 (h:k≤r.length):(Zz k r).length=k:=by unfold Zz;simp;omega
theorem zha {x:Int} (h:x∈Zz k r):0≤x∧x≤3:=by
 obtain⟨y,-,rfl⟩:=List.mem_map.1 h;omega
theorem zso (xs:List Int) (x:Int):VR (xs++[x])=VR xs++[.int .i64 1,.int .i64 x,.string S0]:=by
 rw[zam];rfl
theorem zbb (xs ys:List Int):I64 (xs++ys)=I64 xs++I64 ys:=by simp[I64]
theorem len4 (h:r.length=4):∃a b c d,r=[a,b,c,d]:=by
 match r,h with
 |[a,b,c,d],_=>exact⟨a,b,c,d,rfl⟩
theorem zts {g T y0 y1 y2 y3:Nat} (h:Blk w g T #[.int .u8 (y0:Int),.int .u8 (y1:Int),.int .u8 (y2:Int),.int .u8 (y3:Int)]) (hj:[y0,y1,y2,y3][j]? = some y):w.cell? ⟨g,0+j*1,none⟩=some (.int .u8 (y:Int)):=by
 rw[Nat.zero_add,Nat.mul_one,h.cell];match j,hj with
 |0,hj=>simp at hj;subst hj;rfl
 |1,hj=>simp at hj;subst hj;rfl
 |2,hj=>simp at hj;subst hj;rfl
 |3,hj=>simp at hj;subst hj;rfl
def apZ (bk:Option Nat) (u:Value):Prop:=∀ad n c,u = .slice (some ad) n c→0<n→bk≠some ad.block
def AtZ (bk:Option Nat) (w:World) (cs:List Value) (x:zg9):Prop:=∃u b,cs=[u,.int .i64 (x.2.1:Int),b]∧IntzV w u x.1∧RowsV w b x.2.2∧apZ bk u
def RaZ (bk:Option Nat) (w:World) (cs:List Value) (x:List Int):Prop:=∃u b,cs=[u,b]∧IntzV w u x∧okC b=true∧apZ bk u
section
variable {w w' : World} {bk bk' : Option Nat} {u v : Value} {cs : List Value} {x : zg9} {y xs : List Int} {T : List TypeId}
theorem AtZ.kd (h:AtZ bk w cs x) (k:KD T w w') (h1:T.contains 3=true) (h2:T.contains 87=true) (h3:T.contains 89=true):AtZ bk w' cs x:=by
 obtain⟨u,b,e,q1,q2,q3⟩:=h;exact⟨u,b,e,q1.kd k h1,RowsV.kd q2 k h2 h3,q3⟩
theorem RaZ.kd (h:RaZ bk w cs y) (k:KD T w w') (h1:T.contains 3=true):RaZ bk w' cs y:=by
 obtain⟨u,b,e,q1,q2,q3⟩:=h;exact⟨u,b,e,q1.kd k h1,q2,q3⟩
theorem RdT.grow {t:TypeId} {xs:List Value} (h:RdT w t k A n xs) (hg:w.grownBy w' bk) (hne:∀ad,A=some ad→0<n→bk≠some ad.block):RdT w' t k A n xs:=⟨h.1,fun hn=>by
 obtain⟨ad,cs,h1,h2,h3⟩:=h.2 hn
 have h4:=h2.grown hg fun he=>hne ad h1 hn he.symm
 refine⟨ad,cs,h1,h4,fun j u hu=>?_⟩
 rw[←h3 j u hu]
 exact World.cell?_of_block zqf⟩
theorem IntzV.grow (h:IntzV w u y) (hg:w.grownBy w' bk) (ha:apZ bk u):IntzV w' u y:=by
 obtain⟨A,n,c,rfl,h1,h2,h3⟩:=h;exact⟨A,n,c,rfl,h1,h2.grow hg (fun ad e hn=>by subst e;exact ha ad n c rfl hn),h3⟩
theorem apZ.next (h:IntzV w u y) (ha:apZ bk u) (hor:bk'=bk∨bk'=some w.heap.size):apZ bk' u:=by
 intro ad n c e hn;rcases hor with rfl | rfl
 ·exact ha ad n c e hn
 ·obtain⟨A,n',c',e2,-,h2,h3⟩:=h;rw[e] at e2;injection e2 with e2 e3 e4;subst e2;subst e3;obtain⟨ad',cs,h4,h5,-⟩:=h2.2 hn;cases h4;have:=h5.lt;intro e;injection e with e;omega
theorem AtZ.grow (h:AtZ bk w cs x) (hg:w.grownBy w' bk) (k:KD T w w') (h2:T.contains 87=true) (h3:T.contains 89=true) (hor:bk'=bk∨bk'=some w.heap.size):AtZ bk' w' cs x:=by
 obtain⟨u,b,e,q1,q2,q3⟩:=h;exact⟨u,b,e,q1.grow hg q3,RowsV.kd q2 k h2 h3,q3.next q1 hor⟩
theorem RaZ.grow (h:RaZ bk w cs y) (hg:w.grownBy w' bk) (hor:bk'=bk∨bk'=some w.heap.size):RaZ bk' w' cs y:=by
 obtain⟨u,b,e,q1,q2,q3⟩:=h;exact⟨u,b,e,q1.grow hg q3,q2,q3.next q1 hor⟩
theorem znk (h:OwnC w B 3 1 v n (I64 y)) (hn:y.length≤1000) (hy:∀x∈y,-1≤x∧x≤9):IntzV w v y:=by
 obtain⟨A,c,rfl⟩:=zF h.own;have hl:n=y.length:=by have:=h.own.1;simp[I64] at this;omega
 exact vt52
theorem zpp {m k:Nat} {e:TypeId} {xs zs:List Value} (h:OwnC w B 3 1 v n xs) (h8:∀k,bk=some k→k<B):apZ bk v:=by
 intro ad n' c e hn he;have h1:=h8 _ he;have h2:=zga h.own ad.block (by rw[e];rfl);omega
end
def MdJ (B:Nat) (l:List AIn) (k:Nat) (w:World) (v6 v7 v8:Value):Prop:=∃xs:List zg9,(All2 MdR (l.take k) xs∧xs.length=k∧∀a∈l.take k,gdA a)∧OwnL 95 3 (AtZ v8.ownBlock) w B v6 xs∧OwnL 100 2 (RaZ v8.ownBlock) w B v7 (xs.map (·.1))∧OwnC w B 3 1 v8 k (I64 (zu (xs.map (·.2.1))))
theorem MdJ.below {l:List AIn} {v6 v7 v8:Value} (h:MdJ B l k w v6 v7 v8) (hb:Below w.heap.size w w'):MdJ B l k w' v6 v7 v8:=by
 obtain⟨xs,h1,h2,h3,h4⟩:=h;exact⟨xs,h1,h2.below hb (fun _ _ h=>h.kd (T:=[3,87,89]) (KD.below hb) rfl rfl rfl),h3.below hb (fun _ _ h=>h.kd (T:=[3]) (KD.below hb) rfl),h4.below hb⟩
def MdE (l:List AIn) (w:World) (e:Ending) (w':World):Prop:=∃u2 u3 u4 b,e = .returned (.tuple #[u2,u3,u4,.bool b])∧Below w.heap.size w w'∧(b=true↔l.length≤6∧∀a∈l,gdA a)∧(b=true→∃xs,All2 MdR l xs∧SlsV 95 3 (AtZ none) w' u2 xs∧SlsV 100 2 RaC w' u3 (xs.map (·.1))∧IntsV w' u4 (xs.map (·.2.1)))
theorem MdE.bad {l:List AIn} {a:AIn} (ha:a∈l) (hbad:¬gdA a) (hb:Below w.heap.size w w'):MdE l w (.returned (.tuple #[.slice none 0 0,.slice none 0 0,.slice none 0 0,.bool false])) w':=
 ⟨_,_,_,false,rfl,hb,⟨fun h=>(by cases h),fun h=>absurd (h.2 a ha) hbad⟩,fun h=>(by cases h)⟩
theorem MdE.fin {l:List AIn} {u2 u3 u4:Value} {d:Bool} (hd:d=decide (l.length≤6)) (hb:Below w.heap.size w w') (h:MdJ w.heap.size l l.length w' u2 u3 u4):MdE l w (.returned (.tuple #[u2,u3,u4,.bool d])) w':=by
 obtain⟨xs,⟨h1,h2,h3⟩,h4,h5,h6⟩:=h;rw[List.take_length] at h1 h3;refine⟨_,_,_,d,rfl,hb,⟨fun h=>⟨by rw[hd] at h;exact of_decide_eq_true h,h3⟩,fun h=>by rw[hd];exact decide_eq_true h.1⟩,fun h=>?_⟩;rw[hd] at h;have hl:=of_decide_eq_true h;refine⟨xs,h1,(h4.sls jo).mono9 (fun _ _ h=>?_),(h5.sls vj2).mono9 (fun _ _ h=>?_),?_⟩
 ·obtain⟨u,b,e,q1,q2,-⟩:=h;exact⟨u,b,e,q1,q2,fun _ _ _ _ _ e=>by cases e⟩
 ·obtain⟨u,b,e,q1,q2,-⟩:=h;exact⟨u,b,e,q1,q2⟩
 ·refine zni h6 jo fun x hx=>?_;obtain⟨o,ho,rfl⟩:=List.mem_map.1 hx;obtain⟨i,hi,e⟩:=List.getElem_of_mem ho;have hz:l[i]? = some (l[i]'jo):=uf jo;have:=(h1.at_ hz (by rw[uf hi,e])).2.1;have h9:=zf1 (l[i]'jo).1 8;omega
section
variable {P : Program} {o : Oper} {a : Act} {w : World} {t u : Tmp} {T T2 : TypeId} {K : Act → World → Prop} {Q : Exit → Act → World → Prop}
theorem shr8 {x:Nat} (hk:k<8) (ho:o.op = .binOp .shr T (.tmp t) (.tmp u) T2) (h:tv a t = .int .u8 (x:Int)) (h2:tv a u = .int .i64 (k:Int)):zp Tryz.prog o a.eval w (fun v w'=>v = .int .u8 ((x / 2 ^ k:Nat):Int)∧Below w.heap.size w w'):=by
 refine zo (.int .u8 ((x / 2 ^ k:Nat):Int)) ?_ ⟨rfl,ue _ _⟩;have e:((x / 2 ^ k:Nat):Int)=(x:Int) / 2 ^ k:=by rw[Int.natCast_ediv];simp
 rw[e];have i1:(0:Int)≤(k:Int):=jo;have i2:(k:Int)<8:=jo;unfold execOp;rw[ho];simp only[zK,h,h2];go_simp
theorem rem8 {x:Nat} (c:Nat) (hc:0<c) (hx:x<256) (hc9:c<256) (ho:o.op = .binOp .rem T (.tmp t) (.const (.int .u8 (c:Int))) T2) (h:tv a t = .int .u8 (x:Int)):zp Tryz.prog o a.eval w (fun v w'=>v = .int .u8 ((x % c:Nat):Int)∧Below w.heap.size w w'):=by
 refine zo (.int .u8 ((x % c:Nat):Int)) ?_ ⟨rfl,ue _ _⟩;have i1:¬((c:Int)=0):=jo;have e:Int.tmod (x:Int) (c:Int)=((x % c:Nat):Int):=by rw[←Int.ofNat_tmod]
 have e2:IntKind.u8.wrap ((x % c:Nat):Int)=((x % c:Nat):Int):=by
  have:=Nat.mod_lt x hc;show ((x % c:Nat):Int) % 256=_;omega
 have h256:x % c<256:=uw (Nat.mod_le _ _) hx;unfold execOp;rw[ho];simp only[zK,h];go_simp;all_goals first | omega | (simp[e,e2];done) | (simp[e,e2];omega)
theorem ztt {x:Nat} (hx:x<256) (ho:o.op = .convert 5 2 (.tmp t)) (h:tv a t = .int .u8 (x:Int)):zp Tryz.prog o a.eval w (fun v w'=>v = .int .i64 (x:Int)∧Below w.heap.size w w'):=by
 exact vt44
theorem zsp (ho:o.op = .alloc 83) (next:K (a.put o.dst (.pointer (some ⟨w.heap.size,0,none⟩))) (w.alloc (.cells #[.int .u8 0,.slice none 0 0,.int .u8 0] 83))):o.wp Tryz.prog a w K Q:=by
 have hr:(execOp a.eval o).run Tryz.prog w = .ok (.value (.pointer (some ⟨w.heap.size,0,none⟩))) (w.alloc (.cells #[.int .u8 0,.slice none 0 0,.int .u8 0] 83)):=by
  unfold execOp;rw[ho];go_simp
 unfold Oper.wp;rw[hr];exact next
theorem zsq (ho:o.op = .alloc 85) (next:K (a.put o.dst (.pointer (some ⟨w.heap.size,0,none⟩))) (w.alloc (.cells #[.int .u8 0,.int .u8 0,.int .u8 0,.int .u8 0] 85))):o.wp Tryz.prog a w K Q:=by
 have hr:(execOp a.eval o).run Tryz.prog w = .ok (.value (.pointer (some ⟨w.heap.size,0,none⟩))) (w.alloc (.cells #[.int .u8 0,.int .u8 0,.int .u8 0,.int .u8 0] 85)):=by
  unfold execOp;rw[ho];go_simp
 unfold Oper.wp;rw[hr];exact next
theorem zhb (hB:B≤w.heap.size) (ho:o.op = .buildSlice 87 0 #[]):zp Tryz.prog o a.eval w (fun z w'=>(∃g:Nat,z = .slice (some ⟨g,0,none⟩) 0 0∧OwnC w' B 89 3 z 0 (VR []))∧Below w.heap.size w w'):=by
 have hr:(execOp a.eval o).run Tryz.prog w = .ok (.value (.slice (some ⟨w.heap.size,0,none⟩) 0 0)) (w.alloc (.cells #[] 89)):=by
  unfold execOp;rw[ho];go_simp;try rfl
 unfold zp;rw[hr];exact⟨⟨_,rfl,⟨rfl,.inr ⟨_,0,#[],rfl,hB,Blk.new _ _ _,ug _,vz,rfl,rfl⟩⟩,zjw rfl⟩,al _ _⟩
end
theorem zpq (xs:List Int):(I64 xs).all okC=true:=by
 rw[List.all_eq_true];intro u hu;obtain⟨x,-,rfl⟩:=List.mem_map.1 hu;rfl
theorem znl (h:n=V.length) (hn:n≤8):(YX b V).length≤1000:=by
 unfold YX;split
 ·simp[zu];omega
 ·split
  ·simp[zu];omega
  ·split
   ·simp[zu];omega
   ·simp[zu];omega
theorem znm (h:∀v∈V,v<8):∀x∈YX b V,-1≤x∧x≤9:=by
 have hV:∀x∈zu V,-1≤x∧x≤9:=fun x hx=>by
  obtain⟨v,hv,rfl⟩:=List.mem_map.1 hx;have:=h v hv;omega
 intro x hx;unfold YX at hx;split at hx
 ·exact hV x hx
 ·split at hx
  ·exact zqz
  ·split at hx
   ·exact zqz
   ·rcases List.mem_append.1 hx with h1 | h1
    ·rw[List.mem_singleton.1 h1];omega
    ·exact hV x h1
theorem znn (A:Option Addr) (n c:Nat) (m:Int) (r:Value):Tryz.prog.built 95 [(0,.slice A n c),(1,.agg #[.int .i64 m,r])]=some #[.slice A n c,.int .i64 m,r]:=by kernel_rfl
theorem zkS (A:Option Addr) (n c:Nat) (B:Option Addr) (m d:Nat):Tryz.prog.built 100 [(0,.slice A n c),(1,.slice B m d)]=some #[.slice A n c,.slice B m d]:=by kernel_rfl
section
variable {o : Oper} {a : Act} {w : World} {K : Act → World → Prop} {Q : Exit → Act → World → Prop}
theorem zkT {y:Int} (ho:o.op = .buildSlice 26 1 #[(0,.const (.int .i64 y))]) (hy:y=9∨y=0):zp Tryz.prog o a.eval w (fun z w'=>(∃g:Nat,z = .slice (some ⟨g,0,none⟩) 1 1∧Blk w' g 3 #[.int .i64 y])∧Below w.heap.size w w'):=by
 have hr:(execOp a.eval o).run Tryz.prog w = .ok (.value (.slice (some ⟨w.heap.size,0,none⟩) 1 1)) (w.alloc (.cells #[.int .i64 y] 3)):=by
  unfold execOp;rw[ho];rcases hy with rfl | rfl <;> (go_simp;try rfl)
 exact zcY
theorem zkU (hB:B≤w.heap.size) (ho:o.op = .buildSlice 26 1 #[(0,.const (.int .i64 (-1)))]):zp Tryz.prog o a.eval w (fun z w'=>(∃g:Nat,z = .slice (some ⟨g,0,none⟩) 1 1∧OwnC w' B 3 1 z 1 (I64 [-1]))∧Below w.heap.size w w'):=by
 have hr:(execOp a.eval o).run Tryz.prog w = .ok (.value (.slice (some ⟨w.heap.size,0,none⟩) 1 1)) (w.alloc (.cells #[.int .i64 (-1)] 3)):=by
  unfold execOp;rw[ho];go_simp;try rfl
 unfold zp;rw[hr];exact⟨⟨_,rfl,⟨rfl,.inr ⟨_,1,#[.int .i64 (-1)],rfl,hB,Blk.new _ _ _,ug _,jd,rfl,rfl⟩⟩,zjw rfl⟩,al _ _⟩
theorem zpr (s x:Operand) (ho:o.op = .call {callee:= .builtin .append,args:=#[s,x],argTypes:=#[26,26]})
  (base:Nat) (v:Value) (n:Nat) (xs:List Value) (hs:a.eval s=v) (hown:OwnC w base 3 1 v n xs) (A:Option Addr) (m c:Nat) (ys:List Value) (hx:a.eval x = .slice A m c) (hy:OwnC w base 3 1 (.slice A m c) m ys) (h1:ys.all okC=true)
  (hn:n+m≤1000) (hbase:base≤w.heap.size)
  (h:∀v' w',OwnC w' base 3 1 v' (n+m) (xs++ys)→w.grownBy w' v.ownBlock→(v'.ownBlock=v.ownBlock∨v'.ownBlock=some w.heap.size)→KeepsN w w'→K (a.put o.dst v') w'):o.wp Tryz.prog a w K Q:=by
 obtain⟨hu,-⟩:=yP (P:=Tryz.prog) (T:=26) (e:=3) (k:=1) vk;obtain⟨i,z,hi,hz,hs1,hby,hzs,hk0,hzc⟩:=ZG (P:=Tryz.prog) (e:=3) (k:=1) vk;exact Zx s x 26 ho base 3 i z 1 i.bytes hu hi hz hs1 rfl hzs hk0 (fun u hu=>zby (hzc u hu)) v n xs hs hown w.heap.size A m c ys hx (RdT.of_own hy.own).rd (fun u hu=>YP (List.all_eq_true.1 h1 u hu)) (fun u hu=>hy.xs u hu) zcK (ud (Nat.mul_le_mul_left _ hby) jo) hbase h
end
theorem zea {v:Value} {l:List AIn} (h:ArgA w v l):Calls Tryz.prog 4 #[v] w (MdE l w):=by
 obtain⟨TA,tc,rfl,hLs,hl9⟩:=h;obtain⟨na,hna0⟩:∃x,x=l.length:=⟨_,rfl⟩;rw[←hna0] at hl9 ⊢;have HLs:=vh hLs;have HNa:=vh hna0;clear hLs hna0;go_enter Tryz.func4,Tryz.ntmps4;have HI:=vh (show MdJ w.heap.size l 0 w (.slice none 0 0) (.slice none 0 0) (.slice none 0 0) from⟨[],⟨trivial,rfl,fun a ha=>by simp at ha⟩,OwnL.nil _ _,OwnL.nil _ _,OwnC.nil _ _ _ _⟩);go_wp2_with fail;go_loopg [23,6,7,8] na (fun g iv a6 a7 a8 wo=>∃(k:Nat) (s6 s7 s8:Value),iv = .int .i64 k∧a6=s6∧a7=s7∧a8=s8∧k+g=na∧Hid (Below w.heap.size w wo)∧Hid (MdJ w.heap.size l k wo s6 s7 s8));case atStart=>exact⟨0,_,_,_,rfl,rfl,rfl,rfl,jo,vh (ue _ _),HI⟩
 case round=>
  clear HI;obtain⟨k,s6,s7,s8,rfl,rfl,rfl,rfl,hkg,HB,HM⟩:=hrel;obtain⟨wo,hwo⟩:∃y,y=wr:=⟨_,rfl⟩;subst hwo;have hBs:=HB.size;by_cases hk:k<na
  ·have i1:((k:Int)<(na:Int)):=jo;obtain⟨x,hx⟩:∃x,l[k]? = some x:=⟨_,uf (by rw[←HNa];omega)⟩;obtain⟨ad,cs,rfl,-,hco,RA,rc,rfl,hvs,hbd,hrl,hr11⟩:=HLs.atA hx;obtain⟨sm,rs,bd⟩:=x;dsimp only at hco hvs hbd hrl hr11;obtain⟨rn,hrn⟩:∃y,y=rs.length:=⟨_,rfl⟩;rw[←hrn] at hco hr11;have HCo:=vh hco;have HX:=vh hx;have HRl:=vh hrl;have HRn:=vh hrn;have HR11:=vh hr11;clear hco hx hrl hrn hr11;have HR0:=vh (show ∃R,R=wo.heap.size from⟨_,rfl⟩);obtain⟨R,hR⟩:=HR0.out;clear HR0;have HRs:=vh hR;clear hR;go_upto_region 6 with (fail);refine zc (kss:=[[],[(0,25)]]) [(21,.slice ((some ad)) na tc),(23,.int .i64 ((k:Int)))] [EV (.pointer (some (Addr.add ad (k*3)))),EV (.agg #[.int .u8 (sm:Int),.slice RA rn rc,.int .u8 (bd:Int)])] 2 vk vt [false,false] ?_ ?_ ?_
   ·exact js
   ·exact⟨(fun aa ww hb he hd=>za rfl (zm (e:=83) (s:=3) (k:=k) rfl vk jo he.1 he.2.1)),(fun aa ww hb he hd=>za rfl (zg (cs:=[.int .u8 (sm:Int),.slice RA rn rc,.int .u8 (bd:Int)]) rfl vk vk hd.1 (fun j u hj=>((HB.trans (hb.mono HB.size)).cell (zh (HCo.out j u hj))).trans (HCo.out j u hj)))),uC⟩
   intro vs w4a hb hR;refine vw1 ?_;clear hR;show wpOps _ _ _ [2,3] _ _;refine zb rfl rfl (zsp rfl ?_);refine jp 10 ?_;refine zb rfl rfl (zC (vs:=[.int .u8 (sm:Int),.slice RA rn rc,.int .u8 (bd:Int)]) (off:=0) rfl rfl vk rfl rfl rfl (Blk.new _ _ _) vj4 (fun j _ _ x=>zD rfl j x) ?_);intro w4 kn hg hs hbx;have hbw:Below w4a.heap.size w4a w4:=(al w4a _).grown hg (al w4a _).size (fun k e=>by cases e;exact ug _);obtain⟨g10,hgb⟩:∃g,g=w4a.heap.size:=⟨_,rfl⟩;rw[←hgb] at hbx ⊢;clear kn hg hs;unfold wpOps;have h4:=ze hb hbw hb.size;have H4:=vh (show OwnC w4 R 3 1 (.slice none 0 0) (Yx sm 0).length (I64 (zu (Yx sm 0)))∧Blk w4 g10 83 #[.int .u8 (sm:Int),.slice RA rn rc,.int .u8 (bd:Int)]∧Below R wo w4∧R≤w4.heap.size from⟨OwnC.nil _ _ _ _,hbx,by rw[HRs];exact h4,by rw[HRs];exact h4.size⟩);clear hb hbw hbx hgb h4;go_wp2_with fail;go_loopg [27,11] 8 (fun g iv ov wr=>∃(i:Nat) (s:Value),iv = .int .i64 i∧ov=s∧i+g=8∧Hid (OwnC wr R 3 1 s (Yx sm i).length (I64 (zu (Yx sm i)))∧Blk wr g10 83 #[.int .u8 (sm:Int),.slice RA rn rc,.int .u8 (bd:Int)]∧Below R wo wr∧R≤wr.heap.size));case atStart=>exact⟨0,_,rfl,rfl,jo,H4⟩
   case round=>
    clear H4;obtain⟨i,s,rfl,rfl,hig,HJ⟩:=hrel;by_cases hi:i<8
    ·have i2:((i:Int)<8):=jo;by_cases hbit:sm / 2 ^ i % 2=1
     ·skip;go_upto_region 11 with (fail);refine zj (kss:=[[],[(0,30)],[],[(1,31),(2,32)],[(3,33)],[(4,34)]]) [(10,.pointer (some (⟨g10,0,none⟩))),(12,.int .i64 ((i:Int)))] [EV (.pointer (some (⟨g10,0,none⟩))),EV (.int .u8 ((sm:Int))),EV (.int .i64 ((i:Int))),EV (.int .u8 (((sm / 2 ^ i:Nat):Int))),EV (.int .u8 (((sm / 2 ^ i % 2:Nat):Int))),EV (.bool true)] vk vt ?_ ?_ ?_
      ·exact js
      ·exact⟨zcH,zrk,vi1,zrl,zrm,(fun aa ww hb he hd=>za rfl (zW (((sm / 2 ^ i % 2:Nat):Int)) 1 .u8 _ _ _ _ rfl hd.1 rfl ⟨ut Value.bool (decide_eq_true jo),ue _ _⟩)),uC⟩
      intro vs w5 hb hR;refine vw2 ?_;clear hR;have H5:=vh (show OwnC w5 R 3 1 u11 (Yx sm i).length (I64 (zu (Yx sm i)))∧Blk w5 g10 83 #[.int .u8 (sm:Int),.slice RA rn rc,.int .u8 (bd:Int)]∧Below R wo w5∧R≤w5.heap.size from⟨HJ.1.below hb,HJ.2.1.keep hb,HJ.2.2.1.trans (hb.mono HJ.2.2.2),ud HJ.2.2.2 hb.size⟩);clear hb HJ;go_upto_region 12 with (fail);refine zc (kss:=[[],[],[(1,37)]]) [(11,u11),(12,.int .i64 ((i:Int)))] [EV (u11),EV (.int .i64 ((i:Int))),fun zz ww=>∃g:Nat,zz = .slice (some ⟨g,0,none⟩) 1 1∧w5.heap.size≤g∧Blk ww g 3 #[.int .i64 ((i:Int))]] 3 vk vt [false,false,false] ?_ ?_ ?_
      ·exact zcX
      ·exact⟨vi0,vi1,zpV,uC⟩
      intro vs w8 hb hR;have r38:=hR 2 jd;refine vw0 ?_;clear hR;obtain⟨g9,e9,-,hg9⟩:=r38;rw[e9];clear e9;have q2:=H5.1.below hb;have hs8:R≤w8.heap.size:=ud H5.2.2.2 hb.size;have hl8:=zf1 sm i;show wpOps _ _ _ [3,4] _ _;refine zb rfl rfl (yk (e:=3) (k:=1) _ _ rfl vk vk R u11 _ _ rfl q2 g9 _ rfl hg9 rfl rfl jo hs8 ?_);intro s1 w9 ho hg hor kn;refine jp 39 ?_;have hb9:Below R wo w9:=Below.appended (H5.2.2.1.trans (hb.mono H5.2.2.2)) q2.own hg hs8 (ug _);have HN:=vh (show OwnC w9 R 3 1 s1 (Yx sm (i+1)).length (I64 (zu (Yx sm (i+1))))∧Blk w9 g10 83 #[.int .u8 (sm:Int),.slice RA rn rc,.int .u8 (bd:Int)]∧Below R wo w9∧R≤w9.heap.size from⟨by rw[ztq hbit,ul,zdt,zbb];exact ho,(KD.own (T:=[83]) q2.own hg kn rfl).b 83 vz _ _ (H5.2.1.keep hb),hb9,ud hs8 hg.size⟩);clear ho hg hor kn hb9 hs8 q2 hg9 hb H5 hl8;refine zb rfl rfl (zl 11 (.tmp 39) rfl rfl s1 rfl ?_);exact vt66
     ·skip;go_upto_region 11 with (fail);refine zj (kss:=[[],[(0,30)],[],[(1,31),(2,32)],[(3,33)],[(4,34)]]) [(10,.pointer (some (⟨g10,0,none⟩))),(12,.int .i64 ((i:Int)))] [EV (.pointer (some (⟨g10,0,none⟩))),EV (.int .u8 ((sm:Int))),EV (.int .i64 ((i:Int))),EV (.int .u8 (((sm / 2 ^ i:Nat):Int))),EV (.int .u8 (((sm / 2 ^ i % 2:Nat):Int))),EV (.bool false)] vk vt ?_ ?_ ?_
      ·exact js
      ·exact⟨zcH,zrk,vi1,zrl,zrm,(fun aa ww hb he hd=>za rfl (zW (((sm / 2 ^ i % 2:Nat):Int)) 1 .u8 _ _ _ _ rfl hd.1 rfl ⟨ut Value.bool (decide_eq_false jo),ue _ _⟩)),uC⟩
      intro vs w5 hb hR;refine vw2 ?_;clear hR;have H5:=vh (show OwnC w5 R 3 1 u11 (Yx sm i).length (I64 (zu (Yx sm i)))∧Blk w5 g10 83 #[.int .u8 (sm:Int),.slice RA rn rc,.int .u8 (bd:Int)]∧Below R wo w5∧R≤w5.heap.size from⟨HJ.1.below hb,HJ.2.1.keep hb,HJ.2.2.1.trans (hb.mono HJ.2.2.2),ud HJ.2.2.2 hb.size⟩);clear hb HJ;go_wp2_with fail;go_roundg (gk - 1);case measure=>omega
      case rel=>exact⟨i+1,_,vj1,rfl,jo,vh (by rw[ztr hbit];exact H5.out)⟩
    ·obtain rfl:i=8:=jo;have i2:¬(((8:Nat):Int)<8):=jo;obtain⟨V,hV⟩:∃y,y=Yx sm 8:=⟨_,rfl⟩;rw[←hV] at HJ;obtain⟨nV,hnV⟩:∃y,y=V.length:=⟨_,rfl⟩;rw[←hnV] at HJ;have hV8:∀v∈V,v<8:=fun v hv=>zsn (by rw[←hV];exact hv);have hnV8:nV≤8:=by rw[hnV,hV];exact zf1 _ _
     have HVv:=vh (uh hV (uh hnV hV8));clear hV hnV hV8;obtain⟨A11,c11,e11⟩:=zF HJ.1.own;subst e11;go_upto_region 14 with (fail);by_cases hv4:nV>4
     ·skip;refine zj (kss:=[[],[(0,41)],[(1,42)],[(2,43)],[(3,44)],[(3,44),(4,45)],[(3,44),(5,46)],[(3,44),(6,47)],[(3,44),(7,48)]]) [(11,.slice A11 nV c11),(10,.pointer (some (⟨g10,0,none⟩)))] [EV (.slice A11 nV c11),EV (.int .i64 ((nV:Int))),EV (.bool true),EV (.bool true),EV (undef),EV (undef),EV (undef),EV (undef),EV (.bool true)] vk vt ?_ ?_ ?_
      ·exact js
      ·exact⟨vi0,vi6,(fun aa ww hb he hd=>za rfl (yi ((nV:Int)) 4 .i64 _ _ _ _ rfl hd.1 rfl ⟨ut Value.bool (decide_eq_true jo),ue _ _⟩)),vi2,zqc,zqc,zqc,zqc,zhv,uC⟩
      exact vt20
     ·by_cases hr12:rn>12
      ·skip;refine zj (kss:=[[],[(0,41)],[(1,42)],[(2,43)],[(3,44)],[(3,44),(4,45)],[(3,44),(5,46)],[(3,44),(6,47)],[(3,44),(7,48)]]) [(11,.slice A11 nV c11),(10,.pointer (some (⟨g10,0,none⟩)))] [EV (.slice A11 nV c11),EV (.int .i64 ((nV:Int))),EV (.bool false),EV (.bool false),EV (.pointer (some (⟨g10,1,none⟩))),EV (.slice RA rn rc),EV (.int .i64 ((rn:Int))),EV (.bool true),EV (.bool true)] vk vt ?_ ?_ ?_
       ·exact js
       ·exact⟨vi0,vi6,zrn,vi2,zro,zrp,zrq,(fun aa ww hb he hd=>zn 44 rfl vk hd.1 (yi ((rn:Int)) 12 .i64 _ _ _ _ rfl hd.2.1 rfl ⟨ut Value.bool (decide_eq_true jo),ue _ _⟩)),vi7,uC⟩
       exact vt20
      ·skip;refine zj (kss:=[[],[(0,41)],[(1,42)],[(2,43)],[(3,44)],[(3,44),(4,45)],[(3,44),(5,46)],[(3,44),(6,47)],[(3,44),(7,48)]]) [(11,.slice A11 nV c11),(10,.pointer (some (⟨g10,0,none⟩)))] [EV (.slice A11 nV c11),EV (.int .i64 ((nV:Int))),EV (.bool false),EV (.bool false),EV (.pointer (some (⟨g10,1,none⟩))),EV (.slice RA rn rc),EV (.int .i64 ((rn:Int))),EV (.bool false),EV (.bool false)] vk vt ?_ ?_ ?_
       ·exact js
       ·exact⟨vi0,vi6,zrn,vi2,zro,zrp,zrq,(fun aa ww hb he hd=>zn 44 rfl vk hd.1 (yi ((rn:Int)) 12 .i64 _ _ _ _ rfl hd.2.1 rfl ⟨ut Value.bool (decide_eq_false jo),ue _ _⟩)),vi7,uC⟩
       intro vs w5 hb hR;refine vw7 ?_;clear hR;have H5:=vh (show OwnC w5 R 3 1 (.slice A11 nV c11) nV (I64 (zu V))∧Blk w5 g10 83 #[.int .u8 (sm:Int),.slice RA rn rc,.int .u8 (bd:Int)]∧Below R wo w5∧R≤w5.heap.size from⟨HJ.1.below hb,HJ.2.1.keep hb,HJ.2.2.1.trans (hb.mono HJ.2.2.2),ud HJ.2.2.2 hb.size⟩);clear hb HJ;have H6:=vh (show OwnL 87 1 RowC w5 R (.slice none 0 0) ((rs.take 0).map (Zz nV))∧OwnC w5 R 3 1 (.slice A11 nV c11) nV (I64 (zu V))∧Blk w5 g10 83 #[.int .u8 (sm:Int),.slice RA rn rc,.int .u8 (bd:Int)]∧Below R wo w5∧R≤w5.heap.size from⟨OwnL.nil _ _,H5.out⟩);clear H5;have z1:=Blk.at1 H6.2.2.1 (ue _ _);go_wp2_with fail;clear z1;go_loopg [53,13] rn (fun g iv ov wr=>∃(i:Nat) (s:Value),iv = .int .i64 i∧ov=s∧i+g=rn∧Hid (OwnL 87 1 RowC wr R s ((rs.take i).map (Zz nV))∧OwnC wr R 3 1 (.slice A11 nV c11) nV (I64 (zu V))∧Blk wr g10 83 #[.int .u8 (sm:Int),.slice RA rn rc,.int .u8 (bd:Int)]∧Below R wo wr∧R≤wr.heap.size));case atStart=>exact⟨0,_,rfl,rfl,jo,H6⟩
       case round=>
        clear H6;obtain⟨i,s,rfl,rfl,hig,HJ⟩:=hrel;by_cases hi:i<rn
        ·have i3:((i:Int)<(rn:Int)):=jo;obtain⟨r,hr⟩:∃x,rs[i]? = some x:=⟨_,uf (by rw[←HRn];exact hi)⟩;obtain⟨ra,cs9,rfl,-,hcr,hr4,hr256,rfl⟩:=HRl.atA hr;obtain⟨y0,y1,y2,y3,rfl⟩:=len4 hr4;simp only[List.map_cons,List.map_nil] at hcr;have HCr:=vh hcr;have HRr:=vh hr;have H256:=vh hr256;clear hcr hr hr256 hr4;go_upto_region 19 with (fail);refine zc (kss:=[[],[(0,55)]]) [(51,.slice ((some ra)) rn rc),(53,.int .i64 ((i:Int)))] [EV (.pointer (some (Addr.add ra (i*4)))),EV (.agg #[.int .u8 (y0:Int),.int .u8 (y1:Int),.int .u8 (y2:Int),.int .u8 (y3:Int)])] 2 vk vt [false,false] ?_ ?_ ?_
         ·exact js
         ·exact⟨(fun aa ww hb he hd=>za rfl (zm (e:=85) (s:=4) (k:=i) rfl vk jo he.1 he.2.1)),(fun aa ww hb he hd=>za rfl (zg (cs:=[.int .u8 (y0:Int),.int .u8 (y1:Int),.int .u8 (y2:Int),.int .u8 (y3:Int)]) rfl vk vk hd.1 (fun j u hj=>(((HB.trans (zis HJ.2.2.2.1 zn4)).trans (hb.mono (ud zn4 HJ.2.2.2.2))).cell (zh (HCr.out j u hj))).trans (HCr.out j u hj)))),uC⟩
         intro vs w4a hb hR;refine vw1 ?_;clear hR;show wpOps _ _ _ [2,3] _ _;refine zb rfl rfl (zsq rfl ?_);refine jp 15 ?_;refine zb rfl rfl (zC (vs:=[.int .u8 (y0:Int),.int .u8 (y1:Int),.int .u8 (y2:Int),.int .u8 (y3:Int)]) (off:=0) rfl rfl vk rfl rfl rfl (Blk.new _ _ _) (by show 0+4≤4;omega) (fun j _ _ x=>zD rfl j x) ?_);intro w4 kn hg hs hbx;have hbw:Below w4a.heap.size w4a w4:=(al w4a _).grown hg (al w4a _).size (fun k e=>by cases e;exact ug _);obtain⟨g15,hgb⟩:∃g,g=w4a.heap.size:=⟨_,rfl⟩;rw[←hgb] at hbx ⊢;clear kn hg hs;unfold wpOps;have h4:=ze hb hbw hb.size;have H4:=vh (show (OwnL 87 1 RowC w4 R u13 ((rs.take i).map (Zz nV))∧OwnC w4 R 3 1 (.slice A11 nV c11) nV (I64 (zu V))∧Blk w4 g10 83 #[.int .u8 (sm:Int),.slice (some ra) rn rc,.int .u8 (bd:Int)]∧Below R wo w4∧R≤w4.heap.size)∧Blk w4 g15 85 #[.int .u8 (y0:Int),.int .u8 (y1:Int),.int .u8 (y2:Int),.int .u8 (y3:Int)] from⟨⟨HJ.1.below h4 (fun _ _ h=>h.below h4),HJ.2.1.below h4,HJ.2.2.1.keep h4,HJ.2.2.2.1.trans (h4.mono HJ.2.2.2.2),ud HJ.2.2.2.2 h4.size⟩,hbx⟩);clear hb hbw hbx hgb h4 HJ HCr;go_upto_region 20 with (fail);obtain⟨R2,hR2⟩:∃y,y=w4.heap.size:=⟨_,rfl⟩;have HR2:=vh hR2;clear hR2;refine zc (kss:=[[]]) [] [fun zz ww=>∃g:Nat,zz = .slice (some ⟨g,0,none⟩) 0 0∧OwnC ww R2 89 3 zz 0 (VR [])] 1 vk trivial [false] ?_ ?_ ?_
         ·exact⟨fun _ _ _ ⟨g,h1,h2⟩ hb=>⟨g,h1,h2.below hb⟩,uC⟩
         ·exact⟨(fun aa ww hb he hd=>za rfl (zhb (by rw[HR2];exact hb.size) rfl)),uC⟩
         intro vs w5 hb hR;have r57:=hR 0 jd;clear hR;refine vs0 ?_;obtain⟨g16,e57,h57⟩:=r57;rw[e57];rw[e57] at h57;clear e57;have H5:=vh (show OwnC w5 R2 89 3 (.slice (some ⟨g16,0,none⟩) 0 0) 0 (VR (Zz 0 [y0,y1,y2,y3]))∧Below R2 w4 w5∧R2≤w5.heap.size∧Blk w5 g15 85 #[.int .u8 (y0:Int),.int .u8 (y1:Int),.int .u8 (y2:Int),.int .u8 (y3:Int)] from⟨h57,by rw[HR2];exact hb,by rw[HR2];exact hb.size,H4.2.keep hb⟩);clear h57 hb;show wpOps _ _ _ [1] _ _;refine zb rfl rfl (zl 16 (.tmp 57) rfl rfl (.slice (some ⟨g16,0,none⟩) 0 0) rfl ?_);refine vs1 ?_;unfold wpOps;go_wp2_with fail;go_loopg [60,16] nV (fun g iv ov wr=>∃(j:Nat) (s:Value),iv = .int .i64 j∧ov=s∧j+g=nV∧Hid (OwnC wr R2 89 3 s j (VR (Zz j [y0,y1,y2,y3]))∧Below R2 w4 wr∧R2≤wr.heap.size∧Blk wr g15 85 #[.int .u8 (y0:Int),.int .u8 (y1:Int),.int .u8 (y2:Int),.int .u8 (y3:Int)]));case atStart=>exact⟨0,_,rfl,rfl,jo,H5⟩
         case round=>
          clear H5;obtain⟨j,s,rfl,rfl,hjg,HJ⟩:=hrel;by_cases hj:j<nV
          ·have i4:((j:Int)<(nV:Int)):=jo;obtain⟨yj,hyj⟩:∃y,[y0,y1,y2,y3][j]? = some y:=⟨_,uf (by show j<4;omega)⟩;have hy256:=H256.out yj (ui hyj);have HYj:=vh hyj;clear hyj;go_upto_region 24 with (fail);refine zc (kss:=[[],[],[(1,64)],[(2,65)],[(3,66)],[(4,67)],[(5,68)],[(6,69)]]) [(16,u16),(17,.int .i64 ((j:Int))),(15,.pointer (some (⟨g15,0,none⟩)))] [EV (u16),EV (.int .i64 ((j:Int))),EV (.pointer (some (⟨g15,0+j*1,none⟩))),EV (.int .u8 ((yj:Int))),EV (.int .u8 (((yj % 4:Nat):Int))),EV (.int .i64 (((yj % 4:Nat):Int))),EV (.agg #[.int .i64 1,.int .i64 ((yj % 4:Nat):Int),.string S0]),fun zz ww=>∃g:Nat,zz = .slice (some ⟨g,0,none⟩) 1 1∧wr.heap.size≤g∧Blk ww g 89 #[.int .i64 1,.int .i64 ((yj % 4:Nat):Int),.string S0]] 8 vk vt [false,false,false,false,false,false,false,false] ?_ ?_ ?_
           ·exact⟨eI,eI,eI,eI,eI,eI,eI,fun _ _ _ ⟨g,h1,h2,h3⟩ hb=>⟨g,h1,h2,h3.keep hb⟩,uC⟩
           ·exact⟨vi0,vi1,(fun aa ww hb he hd=>za rfl (zay (e:=5) (n:=4) (s:=1) (k:=j) rfl vk jo he.2.2.1 hd.1)),(fun aa ww hb he hd=>za rfl (zd rfl vk hd.1 (zts (HJ.2.2.2.keep hb) HYj.out))),(fun aa ww hb he hd=>za rfl (rem8 4 jo hy256 jo rfl hd.1)),(fun aa ww hb he hd=>za rfl (ztt jo rfl hd.1)),(fun aa ww hb he hd=>za rfl (yR (cells:=#[.int .i64 1,.int .i64 ((yj % 4:Nat):Int),.string S0]) rfl rfl hd.1 vk)),zpW,uC⟩
           intro vs w8 hb hR;have r70:=hR 7 jd;refine vw0 ?_;clear hR;obtain⟨g9,e9,-,hg9⟩:=r70;rw[e9];clear e9;have q2:=HJ.1.below hb;have hs8:R2≤w8.heap.size:=ud HJ.2.2.1 hb.size;show wpOps _ _ _ [8,9] _ _;refine zb rfl rfl (yk (e:=89) (k:=3) _ _ rfl vk vk R2 u16 _ _ rfl q2 g9 _ rfl hg9 rfl rfl jo hs8 ?_);intro s1 w9 ho hg hor kn;refine jp 71 ?_;have hb9:Below R2 w4 w9:=Below.appended (HJ.2.1.trans (hb.mono HJ.2.2.1)) q2.own hg hs8 (ug _);have HN:=vh (show OwnC w9 R2 89 3 s1 (j+1) (VR (Zz (j+1) [y0,y1,y2,y3]))∧Below R2 w4 w9∧R2≤w9.heap.size∧Blk w9 g15 85 #[.int .u8 (y0:Int),.int .u8 (y1:Int),.int .u8 (y2:Int),.int .u8 (y3:Int)] from⟨by rw[znj HYj.out,zso];exact ho,hb9,ud hs8 hg.size,(KD.own (T:=[85]) q2.own hg kn rfl).b 85 vz _ _ (HJ.2.2.2.keep hb)⟩);clear ho hg hor kn hb9 hs8 q2 hg9 hb HJ;refine zb rfl rfl (zl 16 (.tmp 71) rfl rfl s1 rfl ?_);refine vs1 ?_;unfold wpOps;exact vt94
          ·obtain rfl:j=nV:=jo;have i4:¬((j:Int)<(j:Int)):=jo;obtain⟨A16,c16,e16⟩:=zF HJ.1.own;subst e16;have hrow:RowV wr (.slice A16 j c16) (Zz j [y0,y1,y2,y3]):=ziO HJ.1 (by rw[zd9 (by show j≤4;omega)];omega) (fun x hx=>by have:=zha hx;omega);have hbR:Below w4.heap.size w4 wr:=by rw[←HR2];exact HJ.2.1
           have H6:=vh (show (OwnL 87 1 RowC wr R u13 ((rs.take i).map (Zz j))∧OwnC wr R 3 1 (.slice A11 j c11) j (I64 (zu V))∧Blk wr g10 83 #[.int .u8 (sm:Int),.slice (some ra) rn rc,.int .u8 (bd:Int)]∧Below R wo wr∧R≤wr.heap.size)∧RowV wr (.slice A16 j c16) (Zz j [y0,y1,y2,y3]) from⟨⟨H4.1.1.below hbR (fun _ _ h=>h.below hbR),H4.1.2.1.below hbR,H4.1.2.2.1.keep hbR,H4.1.2.2.2.1.trans (hbR.mono H4.1.2.2.2.2),ud H4.1.2.2.2.2 hbR.size⟩,hrow⟩);clear HJ hrow hbR H4;go_upto_region 26 with (fail);refine zc (kss:=[[],[],[(1,74)]]) [(13,u13),(16,.slice A16 j c16)] [EV (u13),EV (.slice A16 j c16),fun zz ww=>∃g:Nat,zz = .slice (some ⟨g,0,none⟩) 1 1∧wr.heap.size≤g∧Blk ww g 87 #[.slice A16 j c16]] 3 vk vt [false,false,false] ?_ ?_ ?_
           ·exact zcX
           ·exact⟨vi0,vi1,zsY,uC⟩
           intro vs w8 hb hR;have r75:=hR 2 jd;refine vw0 ?_;clear hR;obtain⟨g9,e9,-,hg9⟩:=r75;rw[e9];clear e9;obtain⟨cl,k1,k2,k3⟩:=H6.1.1.below hb vj5;have hrow:=H6.2.below hb;have hs8:R≤w8.heap.size:=ud H6.1.2.2.2.2 hb.size;have hlt:((rs.take i).map (Zz j)).length≤12:=by simp;omega
           have hxi:(rs.take (i+1)).map (Zz j)=(rs.take i).map (Zz j)++[Zz j [y0,y1,y2,y3]]:=by rw[List.take_add_one,HRr];simp
           show wpOps _ _ _ [3,4] _ _;refine zb rfl rfl (yk (e:=87) (k:=1) _ _ rfl vk vk R u13 _ _ rfl k2 g9 _ rfl hg9 rfl rfl jo hs8 ?_);intro s1 w9 ho hg hor kn;refine jp 76 ?_;have kd:KD [3,83,89] w8 w9:=KD.own k2.own hg kn rfl;have hb9:Below R wo w9:=Below.appended (H6.1.2.2.2.1.trans (hb.mono H6.1.2.2.2.2)) k2.own hg hs8 (ug _);have HN:=vh (show OwnL 87 1 RowC w9 R s1 ((rs.take (i+1)).map (Zz j))∧OwnC w9 R 3 1 (.slice A11 j c11) j (I64 (zu V))∧Blk w9 g10 83 #[.int .u8 (sm:Int),.slice (some ra) rn rc,.int .u8 (bd:Int)]∧Below R wo w9∧R≤w9.heap.size from⟨by rw[hxi];exact OwnL.push k1 k3 ho rfl zqd ⟨_,rfl,hrow.kd kd rfl⟩,(H6.1.2.1.below hb).kd kd rfl,kd.b 83 vz _ _ (H6.1.2.2.1.keep hb),hb9,ud hs8 hg.size⟩);clear ho hg hor kn hb9 hs8 k1 k2 k3 hrow hlt hxi kd hg9 hb H6;refine zb rfl rfl (zl 13 (.tmp 76) rfl rfl s1 rfl ?_);refine vs1 ?_;unfold wpOps;go_wp2_with fail;go_roundg (rn - (i+1));case measure=>omega
           case rel=>exact⟨i+1,_,vj1,rfl,jo,HN⟩
        ·obtain rfl:rn=i:=jo;have i3:¬((rn:Int)<(rn:Int)):=jo;have htk:rs.take rn=rs:=by rw[HRn];exact List.take_length
         have hrw:=HJ.1.sls (by rw[htk,uy,←HRn];omega);rw[htk] at hrw;have H6:=vh (uh hrw HJ.2);clear hrw htk HJ;go_upto_region 28 with (fail);obtain⟨RU9,nb,cb,rfl,hcb,hLb⟩:=H6.1;have HRb:=vh (show RowsV wr (.slice RU9 nb cb) (rs.map (Zz nV)) from⟨_,_,_,rfl,hcb,hLb⟩);have H7:=vh H6.2;clear H6 hcb hLb;refine zc (kss:=[[],[(0,79)],[]]) [(11,.slice A11 nV c11),(13,.slice RU9 nb cb)] [EV (.slice A11 nV c11),EV (.int .i64 ((nV:Int))),EV (.slice RU9 nb cb)] 3 vk vt [false,false,false] ?_ ?_ ?_
         ·exact js
         ·exact⟨vi0,vi6,vi1,uC⟩
         intro vs w5 hb hR;refine vw9 ?_;clear hR;have hlen4:∀r,r∈rs→r.length=4:=fun r hr=>by
          obtain⟨q,hq,e⟩:=List.getElem_of_mem hr;obtain⟨_,_,_,_,_,h4,_⟩:=HRl.atA (uf hq);rw[←e];exact h4
         have HL4:=vh hlen4;clear hlen4;have hcall:Calls Tryz.prog 28 #[.int .i64 (nV:Int),.slice RU9 nb cb] w5 fun e w''=>∃v,e = .returned v∧(∃rr zs,v = .tuple #[.agg #[.int .i64 (nV:Int),rr],.int .i64 0]∧RowsV w'' rr zs∧Below w5.heap.size w5 w''∧(zs.Pairwise fun x y=>zH x y<0)∧(∀x,x∈zs↔x∈rs.map (Zz nV))∧zs.length≤(rs.map (Zz nV)).length):=(zoY nV _ _ w5 (RowsV.below HRb.out hb) jo (fun x hx=>by
          obtain⟨r,hr,rfl⟩:=List.mem_map.1 hx
          exact zd9 (by rw[HL4.out r hr];omega)) (by rw[uy,←HRn];omega)).mono fun e w' ⟨r,zs,q1,q2,q3,q4,q5,q6⟩=>⟨_,q1,r,zs,rfl,q2,q3,q4,q5,q6⟩
         show wpOps _ _ _ [3,4,5,6,7,8,9] _ _;refine zb rfl rfl (zx (YS _ _ rfl vk rfl rfl hcall) ?_);clear hcall;rintro z w6 ⟨rr,zs,rfl,hz1,hb6,hz2,hz3,hz4⟩;have hzi:RsOk nV zs:=⟨fun r hr=>by
          obtain⟨q,hq,rfl⟩:=List.mem_map.1 ((hz3 r).1 hr)
          exact zd9 (by rw[HL4.out q hq];omega),fun r hr x hx=>by
          obtain⟨q,hq,rfl⟩:=List.mem_map.1 ((hz3 r).1 hr)
          exact zha hx,hz2⟩
         have hzl:zs.length≤12:=by rw[uy,←HRn] at hz4;omega
         have HZ:=vh (uh hzi (uh hz3 hzl));clear hzi hz2 hz3 hz4 hzl;refine jp 82 ?_;refine zb rfl rfl (zx (zi (K:=fun v w'=>v = .tuple #[.agg #[.int .i64 (nV:Int),rr],.int .i64 0]∧w'=w6) _ rfl ⟨rfl,rfl⟩) ?_);rintro z wz ⟨rfl,hwz⟩;rw[hwz];clear hwz;refine jp 78 ?_;refine zb rfl rfl (zx (Zl rfl rfl rfl) ?_);rintro z wz ⟨rfl,hwz⟩;rw[hwz];clear hwz;refine jp 83 ?_;refine zb rfl rfl (zx (Zl rfl rfl rfl) ?_);rintro z wz ⟨rfl,hwz⟩;rw[hwz];clear hwz;refine jp 84 ?_;refine zb rfl rfl (zib rfl ?_);refine jp 18 ?_;have hrk:okC rr=true:=by obtain⟨_,_,_,rfl,_⟩:=hz1;rfl
         refine zb rfl rfl (zC (vs:=[.int .i64 (nV:Int),rr]) (off:=0) rfl rfl vk rfl rfl (by simp only[List.all_cons,List.all_nil,hrk,Bool.and_true];rfl) (Blk.new _ _ _) vj6 (fun j _ _ x=>zD rfl j x) ?_);intro w10 kn hg hs hbx;refine zb rfl rfl (zl 19 (.tmp 84) rfl rfl (.int .i64 0) rfl ?_);refine vs1 ?_;have hbw:Below w6.heap.size w6 w10:=(al w6 _).grown hg (al w6 _).size (fun k e=>by cases e;exact ug _);obtain⟨g18,hgb⟩:∃g,g=w6.heap.size:=⟨_,rfl⟩;rw[←hgb] at hbx ⊢;clear kn hg hs hrk;unfold wpOps;have h10:=ze hb (ze hb6 hbw hb6.size) hb.size;have H8:=vh (show OwnC w10 R 3 1 (.slice A11 nV c11) nV (I64 (zu V))∧Blk w10 g10 83 #[.int .u8 (sm:Int),.slice RA rn rc,.int .u8 (bd:Int)]∧Below R wo w10∧R≤w10.heap.size∧RowsV w10 rr zs∧Blk w10 g18 91 #[.int .i64 (nV:Int),rr] from⟨H7.1.below h10,H7.2.1.keep h10,H7.2.2.1.trans (h10.mono H7.2.2.2),ud H7.2.2.2 h10.size,RowsV.below hz1 hbw,hbx⟩);clear h10 hbw hbx hgb hz1 hb6 hb H7 HRb;have hbd9:bd=0∨bd=1∨bd=2∨3≤bd:=jo;have z2:=Blk.at2 H8.2.1 (ue _ _);rcases hbd9 with hq | hq | hq | hq
         ·skip;subst hq;go_upto_region 39 with (fail);clear z2;obtain⟨wq,hwq⟩:∃y,y=w10:=⟨_,rfl⟩;rw[←hwq] at H8 ⊢;clear hwq;obtain⟨AV,hAV⟩:∃y,y=A11:=⟨_,rfl⟩;obtain⟨mV,hmV⟩:∃y,y=nV:=⟨_,rfl⟩;obtain⟨cV,hcV⟩:∃y,y=c11:=⟨_,rfl⟩;obtain⟨bd,hbd⟩:∃y:Nat,y=0:=⟨_,rfl⟩;replace HX:=vh (show l[k]? = some (sm,rs,bd) from by rw[hbd];exact HX.out);rw[show Value.slice A11 nV c11=Value.slice AV mV cV from by rw[hAV,hmV,hcV]] at H8 ⊢;have H9:=vh (show (OwnC wq R 3 1 (.slice AV mV cV) mV (I64 (YX bd V))∧Below R wo wq∧R≤wq.heap.size∧RowsV wq rr zs∧Blk wq g18 91 #[.int .i64 (nV:Int),rr]) from⟨by show OwnC wq R 3 1 _ _ (I64 (YX bd V));rw[hbd];have q:=H8.1;rw[←hmV] at q;exact q,H8.2.2.1,H8.2.2.2.1,H8.2.2.2.2⟩);clear H8 hAV hmV hcV hbd;exact vt2
         ·skip;subst hq;go_upto_region 36 with (fail);clear z2;refine zc (kss:=[[],[]]) [(11,.slice A11 nV c11)] [EV (.slice A11 nV c11),fun zz ww=>∃g:Nat,zz = .slice (some ⟨g,0,none⟩) 1 1∧Blk ww g 3 #[.int .i64 9]] 2 vk vt [false,false] ?_ ?_ ?_
          ·exact⟨eI,fun _ _ _ ⟨g,h1,h2⟩ hb=>⟨g,h1,h2.keep hb⟩,uC⟩
          ·exact⟨vi0,zrr,uC⟩
          intro vs w8 hb hR;have r99:=hR 1 jd;refine vw0 ?_;clear hR;obtain⟨g9,e9,hg9⟩:=r99;rw[e9];clear e9;have q2:=H8.1.below hb;have hs8:R≤w8.heap.size:=ud H8.2.2.2.1 hb.size;show wpOps _ _ _ [2,3] _ _;refine zb rfl rfl (yk (e:=3) (k:=1) _ _ rfl vk vk R (.slice A11 nV c11) _ _ rfl q2 g9 _ rfl hg9 rfl rfl jo hs8 ?_);intro s9 wq ho hg hor kn;refine jp 100 ?_;have kd:KD [87,89,91] w8 wq:=KD.own q2.own hg kn rfl;have hb9:Below R wo wq:=Below.appended (H8.2.2.1.trans (hb.mono H8.2.2.2.1)) q2.own hg hs8 (ug _);obtain⟨AV,cV,e9⟩:=zF ho.own;subst e9;obtain⟨mV,hmV⟩:∃y,y=nV+1:=⟨_,rfl⟩;rw[←hmV] at ho ⊢;obtain⟨bd,hbd⟩:∃y:Nat,y=1:=⟨_,rfl⟩;replace HX:=vh (show l[k]? = some (sm,rs,bd) from by rw[hbd];exact HX.out);have H9:=vh (show (OwnC wq R 3 1 (.slice AV mV cV) mV (I64 (YX bd V))∧Below R wo wq∧R≤wq.heap.size∧RowsV wq rr zs∧Blk wq g18 91 #[.int .i64 (nV:Int),rr]) from⟨by show OwnC wq R 3 1 _ _ (I64 (YX bd V));rw[hbd,show YX 1 V=zu V++[9] from rfl,zbb];exact ho,hb9,ud hs8 hg.size,RowsV.kd (RowsV.below H8.2.2.2.2.1 hb) kd rfl rfl,kd.b 91 vz _ _ (H8.2.2.2.2.2.keep hb)⟩);clear ho hg hor kn hb9 hs8 q2 kd hg9 hb H8 hmV hbd;refine zb rfl rfl (zl 11 (.tmp 100) rfl rfl (.slice AV mV cV) rfl ?_);exact vt1
         ·skip;subst hq;go_upto_region 38 with (fail);clear z2;refine zc (kss:=[[],[]]) [(11,.slice A11 nV c11)] [EV (.slice A11 nV c11),fun zz ww=>∃g:Nat,zz = .slice (some ⟨g,0,none⟩) 1 1∧Blk ww g 3 #[.int .i64 0]] 2 vk vt [false,false] ?_ ?_ ?_
          ·exact⟨eI,fun _ _ _ ⟨g,h1,h2⟩ hb=>⟨g,h1,h2.keep hb⟩,uC⟩
          ·exact⟨vi0,zrr,uC⟩
          intro vs w8 hb hR;have r104:=hR 1 jd;refine vw0 ?_;clear hR;obtain⟨g9,e9,hg9⟩:=r104;rw[e9];clear e9;have q2:=H8.1.below hb;have hs8:R≤w8.heap.size:=ud H8.2.2.2.1 hb.size;show wpOps _ _ _ [2,3] _ _;refine zb rfl rfl (yk (e:=3) (k:=1) _ _ rfl vk vk R (.slice A11 nV c11) _ _ rfl q2 g9 _ rfl hg9 rfl rfl jo hs8 ?_);intro s9 wq ho hg hor kn;refine jp 105 ?_;have kd:KD [87,89,91] w8 wq:=KD.own q2.own hg kn rfl;have hb9:Below R wo wq:=Below.appended (H8.2.2.1.trans (hb.mono H8.2.2.2.1)) q2.own hg hs8 (ug _);obtain⟨AV,cV,e9⟩:=zF ho.own;subst e9;obtain⟨mV,hmV⟩:∃y,y=nV+1:=⟨_,rfl⟩;rw[←hmV] at ho ⊢;obtain⟨bd,hbd⟩:∃y:Nat,y=2:=⟨_,rfl⟩;replace HX:=vh (show l[k]? = some (sm,rs,bd) from by rw[hbd];exact HX.out);have H9:=vh (show (OwnC wq R 3 1 (.slice AV mV cV) mV (I64 (YX bd V))∧Below R wo wq∧R≤wq.heap.size∧RowsV wq rr zs∧Blk wq g18 91 #[.int .i64 (nV:Int),rr]) from⟨by show OwnC wq R 3 1 _ _ (I64 (YX bd V));rw[hbd,show YX 2 V=zu V++[0] from rfl,zbb];exact ho,hb9,ud hs8 hg.size,RowsV.kd (RowsV.below H8.2.2.2.2.1 hb) kd rfl rfl,kd.b 91 vz _ _ (H8.2.2.2.2.2.keep hb)⟩);clear ho hg hor kn hb9 hs8 q2 kd hg9 hb H8 hmV hbd;refine zb rfl rfl (zl 11 (.tmp 105) rfl rfl (.slice AV mV cV) rfl ?_);exact vt1
         ·skip;go_upto_region 33 with (fail);clear z2;refine zc (kss:=[[],[]]) [(11,.slice A11 nV c11)] [fun zz ww=>∃g:Nat,zz = .slice (some ⟨g,0,none⟩) 1 1∧OwnC ww R 3 1 zz 1 (I64 [-1]),EV (.slice A11 nV c11)] 2 vk vt [false,false] ?_ ?_ ?_
          ·exact⟨fun _ _ _ ⟨g,h1,h2⟩ hb=>⟨g,h1,h2.below hb⟩,eI,uC⟩
          ·exact⟨(fun aa ww hb he hd=>za rfl (zkU (ud H8.2.2.2.1 hb.size) rfl)),vi0,uC⟩
          intro vs w8 hb hR;have r91:=hR 0 jd;refine vw1 ?_;clear hR;obtain⟨g9,e9,hg9⟩:=r91;rw[e9];rw[e9] at hg9;clear e9;have q0:=H8.1.below hb;have hs8:R≤w8.heap.size:=ud H8.2.2.2.1 hb.size;show wpOps _ _ _ [2,3] _ _;refine zb rfl rfl (zpr _ _ rfl R (.slice (some ⟨g9,0,none⟩) 1 1) 1 _ rfl hg9 A11 nV c11 _ rfl q0 (zpq _) jo hs8 ?_);intro s9 wq ho hg hor kn;refine jp 93 ?_;have kd:KD [87,89,91] w8 wq:=KD.own hg9.own hg kn rfl;have hb9:Below R wo wq:=Below.appended (H8.2.2.1.trans (hb.mono H8.2.2.2.1)) hg9.own hg hs8 (ug _);obtain⟨AV,cV,e9⟩:=zF ho.own;subst e9;obtain⟨mV,hmV⟩:∃y,y=1+nV:=⟨_,rfl⟩;rw[←hmV] at ho ⊢;have hbi:YX bd V=[-1]++zu V:=by unfold YX;rw[if_neg jo,if_neg jo,if_neg jo]
          have H9:=vh (show (OwnC wq R 3 1 (.slice AV mV cV) mV (I64 (YX bd V))∧Below R wo wq∧R≤wq.heap.size∧RowsV wq rr zs∧Blk wq g18 91 #[.int .i64 (nV:Int),rr]) from⟨by rw[hbi,zbb];exact ho,hb9,ud hs8 hg.size,RowsV.kd (RowsV.below H8.2.2.2.2.1 hb) kd rfl rfl,kd.b 91 vz _ _ (H8.2.2.2.2.2.keep hb)⟩);clear ho hg hor kn hb9 hs8 q0 kd hg9 hb H8 hmV hbi;refine zb rfl rfl (zl 11 (.tmp 93) rfl rfl (.slice AV mV cV) rfl ?_);exact vt1
  ·obtain rfl:k=na:=jo;have i1:¬((k:Int)<(k:Int)):=jo;go_upto_region 43 with (fail);refine zc (kss:=[[],[],[],[],[(3,128)],[(4,129)]]) [(6,u6),(7,u7),(8,u8),(0,.slice TA k tc)] [EV (u6),EV (u7),EV (u8),EV (.slice TA k tc),EV (.int .i64 ((k:Int))),EV (.bool (decide (((k:Int))≤6)))] 6 vk vt [false,false,false,false,false,false] ?_ ?_ ?_
   ·exact js
   ·exact⟨vi0,vi1,vi4,zbp,vi6,(fun aa ww hb he hd=>za rfl (zbX ((k:Int)) 6 .i64 _ _ _ _ rfl hd.1 rfl ⟨rfl,ue _ _⟩)),uC⟩
   intro vs w5 hb hR;refine vs0 ?_;rw[(hR 0 jd:vs 0=_),(hR 1 jd:vs 1=_),(hR 2 jd:vs 2=_),(hR 5 jd:vs 5=_)];clear hR;have hbx:=HB.trans (hb.mono HB.size);have hm5:=HM.below hb;show wpOps _ _ _ [6,7,8,9] _ _;refine zb rfl rfl (zl 2 (.tmp 125) rfl rfl u6 rfl ?_);refine vs1 ?_;refine zb rfl rfl (zl 3 (.tmp 126) rfl rfl u7 rfl ?_);refine vs1 ?_;refine zb rfl rfl (zl 4 (.tmp 127) rfl rfl u8 rfl ?_);refine vs1 ?_;refine zb rfl rfl (zl 5 (.tmp 130) rfl rfl (.bool (decide ((k:Int)≤6))) rfl ?_);refine vs1 ?_;unfold wpOps;go_wp2_with fail;refine bodyPost_ret (zbP rfl _ _ _) rfl ?_;exact MdE.fin (by rw[HNa];exact decide_eq_decide.2 jo) hbx (by rw[←HNa];exact hm5)
end Go.Proofs.YtoecdobelolkeaaGreatDoor
