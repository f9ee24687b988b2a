/- Part of TopSemirings. -/
import Derived.Test.YtoecdobelolkeaaGreatDoorK9
set_option linter.unusedVariables false
set_option linter.unusedSimpArgs false
set_option maxRecDepth 100000
set_option maxHeartbeats 16000000
namespace Go.Proofs.YtoecdobelolkeaaGreatDoor
open Go.RowKit
variable {w w':World} {k B i d:Nat} {c:List Value} {u:Value} {o:Oper} {a:Act} {r:List Nat} {S:Type}
theorem adm (g o i:Nat):Addr.add ⟨g,o,none⟩ (i*1)=⟨g,o+i,none⟩:=by rw[Addr.add_mid,Nat.mul_one]
def ddS {S:Type} [DecidableEq S] (l:List S):List S:=l.foldl (fun a x=>if a.getLast? = some x then a else a++[x]) []
section
variable {S : Type} [DecidableEq S]
theorem Zq (l:List S) (x:S):ddS (l++[x])=if (ddS l).getLast? = some x then ddS l else ddS l++[x]:=by unfold ddS;rw[List.foldl_append];rfl
theorem zb9:∀l:List S,(ddS l).getLast? = l.getLast?:=by
 intro l;rcases List.eq_nil_or_concat l with rfl | ⟨m,x,rfl⟩
 ·rfl
 ·rw[List.concat_eq_append,Zq,List.getLast?_append];split
  ·rename_i h;rw[h];rfl
  ·rw[List.getLast?_append];rfl
theorem zeR {l:List S} (h:l.length≤1):ddS l=l:=by
 rcases l with _ | ⟨a,_ | ⟨b,l⟩⟩
 ·rfl
 ·rfl
 ·simp at h
theorem yX {S:Type} {xs:List S} {x:S} (h:xs[k]? = some x):xs.take k++[x]=xs.take (k+1):=by rw[List.take_add_one,h];rfl
theorem za4 {xs:List S} {k9:Nat} {x y:S} (h:xs[k]? = some x) (h0:xs[k9]? = some y) (hk:k9+1=k):ddS (xs.take (k+1))=if x=y then ddS (xs.take k) else ddS (xs.take k)++[x]:=by
 rw[←yX h,Zq,zb9];have h1:(xs.take k).getLast? = some y:=by
  subst hk;rw[←yX h0,List.getLast?_append];rfl
 rw[h1];by_cases e:x=y
 ·rw[if_pos e,if_pos (by rw[e])]
 ·rw[if_neg e,if_neg (fun h=>e (by injection h with h;exact h.symm))]
theorem ddS_mem {x:S}:∀ {l:List S},x∈ddS l↔x∈l:=by
 intro l;have:∀(n:Nat) (l:List S),l.length=n→(x∈ddS l↔x∈l):=by
  intro n;induction n with
  |zero=>intro l hl;rw[uo hl];exact Iff.rfl
  |succ n ih=>
   intro l hl;rcases List.eq_nil_or_concat l with rfl | ⟨m,y,rfl⟩
   ·simp at hl
   ·rw[List.concat_eq_append] at hl ⊢;have hm:m.length=n:=by simpa using hl
    have h1:=ih m hm;rw[Zq];split
    ·rename_i h2;rw[zb9] at h2;constructor
     ·intro h;exact List.mem_append_left _ (h1.1 h)
     ·intro h;rcases List.mem_append.1 h with h | h
      ·exact h1.2 h
      ·rw[uD] at h;subst h;exact h1.2 (List.mem_of_getLast? h2)
    ·rw[uB,uB,h1]
 exact this _ l rfl
theorem ZQ (key:S→List Int) (hk:∀x y,zH (key x) (key y)=0→x=y):∀ {l:List S},(l.Pairwise fun x y=>zH (key x) (key y)≤0)→(ddS l).Pairwise fun x y=>zH (key x) (key y)<0:=by
 have:∀(n:Nat) (l:List S),l.length=n→(l.Pairwise fun x y=>zH (key x) (key y)≤0)→(ddS l).Pairwise fun x y=>zH (key x) (key y)<0:=by
  intro n;induction n with
  |zero=>intro l hl _;rw[uo hl];exact List.Pairwise.nil
  |succ n ih=>
   intro l hl hp;rcases List.eq_nil_or_concat l with rfl | ⟨m,y,rfl⟩
   ·exact List.Pairwise.nil
   ·rw[List.concat_eq_append] at hl hp ⊢;have hm:m.length=n:=by simpa using hl
    obtain⟨p1,-,p3⟩:=List.pairwise_append.1 hp;have h1:=ih m hm p1;rw[Zq];split
    ·exact h1
    ·rename_i h2;rw[zb9] at h2;refine List.pairwise_append.2 ⟨h1,vz,fun a ha b hb=>?_⟩;rw[uD] at hb;subst hb;have h3:=p3 a (ddS_mem.1 ha) b vz;rcases Int.lt_or_eq_of_le h3 with h4 | h4
     ·exact h4
     ·exfalso;have h5:=hk _ _ h4;subst h5;rcases List.eq_nil_or_concat m with rfl | ⟨m',z,rfl⟩
      ·exact absurd (ddS_mem.1 ha) vz
      ·rw[List.concat_eq_append] at h2 p1 ha p3;have hz:=p3 z vz a vz;have ha2:=ddS_mem.1 ha;rcases List.mem_append.1 ha2 with h6 | h6
       ·have h7:=(List.pairwise_append.1 p1).2.2 a h6 z vz;have h8:=Zp (key a) (key z);have h9:=hk a z jo;subst h9;exact h2 vz
       ·rw[uD] at h6;subst h6;exact h2 vz
 intro l;exact this _ l rfl
theorem zbk (l:List S):(ddS l).length≤l.length:=by
 have:∀(n:Nat) (l:List S),l.length=n→(ddS l).length≤n:=by
  intro n;induction n with
  |zero=>intro l hl;rw[uo hl];exact ug _
  |succ n ih=>
   intro l hl;rcases List.eq_nil_or_concat l with rfl | ⟨m,y,rfl⟩
   ·exact Nat.zero_le _
   ·rw[List.concat_eq_append] at hl ⊢;have h1:=ih m (by simpa using hl);rw[Zq];split
    ·omega
    ·rw[ul,List.length_singleton];omega
 exact this _ l rfl
theorem zjf {S:Type} {xs ys:List S} (h:ys.drop d=xs.drop d) (hi:d≤i):xs[i]? = ys[i]?:=by
 have h1:(ys.drop d)[i - d]? = (xs.drop d)[i - d]?:=by rw[h]
 rw[List.getElem?_drop,List.getElem?_drop,show d+(i - d)=i by omega] at h1;exact h1.symm
theorem zeS {S:Type} {xs ys:List S} (h:ys.drop d=xs.drop d):ys.drop (d+1)=xs.drop (d+1):=by
 rw[←List.drop_drop,←List.drop_drop,h]
theorem zgJ {S:Type} {ys:List S} {x:S} (h:k<ys.length):(ys.set k x).take (k+1)=ys.take k++[x]:=by
 rw[List.take_add_one,List.getElem?_set_self h,List.take_set_of_le (ug _)];rfl
end
theorem zeT:∀(c l:List Value) (o k:Nat),k≤o→(yt l o c).take k=l.take k
 |[],_,_,_,_=>rfl
 |v :: r,l,o,k,h=>by rw[yt,zeT r _ (o+1) k jo,List.take_set_of_le h]
theorem zmj (l c:List Value) (k:Nat):(yt l k c).take k=l.take k:=zeT c l k k (ug _)
theorem zcx:∀ {c l:List Value} {o:Nat},u∈yt l o c→u∈l∨u∈c
 |[],_,_,h=> .inl h
 |v :: r,l,o,h=>by
  rw[yt] at h
  rcases zcx h with h1 | h1
  ·rcases List.mem_or_eq_of_mem_set h1 with h2 | h2
   ·exact .inl h2
   ·exact .inr (by rw[h2];simp)
  ·exact .inr (uq _ h1)
theorem zeU {α β:Type} {R:α→β→Prop}:∀ {l:List α} {m:List β} (k:Nat),All2 R l m→All2 R (l.take k) (m.take k)
 |l,m,0,h=>trivial
 |[],[],k+1,_=>trivial
 |_ :: _,[],_+1,h=>h.elim
 |[],_ :: _,_+1,h=>h.elim
 |_ :: l,_ :: m,k+1,h=>⟨h.1,zeU (l:=l) (m:=m) k h.2⟩
section
variable {S : Type} {e : TypeId} {R : World → List Value → S → Prop} {B : Nat} {w : World} {xs : List S} {g n cap : Nat}
theorem zdR (h:OwnL e 1 R w B (.slice (some ⟨g,0,none⟩) n cap) xs) {x:S} (hx:xs[i]? = some x):∃u,w.cell? ⟨g,i,none⟩=some u∧R w [u] x:=by
 obtain⟨us,ho,ha,hul⟩:=ZD h;have hi:=(List.getElem?_eq_some_iff.1 hx).1;rcases ho.own.2 with ⟨e1,h0⟩ | ⟨g2,cap2,cur,e1,-,hcur,-,-,-,htk⟩
 ·cases e1
 ·injection e1 with e1 _ _;injection e1 with e1;injection e1 with e1;subst e1;have hb:Blk w g e cur:=hcur;rw[Nat.mul_one] at htk;refine⟨us[i]'jo,?_,ha.at_ (zje (uf jo)) hx⟩;rw[hb.cell,←Array.getElem?_toList];have h9:cur.toList[i]? = us[i]?:=by rw[←htk,List.getElem?_take,if_pos hi]
  rw[h9,uf jo]
theorem zfJ (h:OwnL e 1 R w B (.slice (some ⟨g,0,none⟩) n cap) xs) (hi:i<xs.length) :
  ∃cur,B≤g∧Blk w g e cur∧i<cur.size∧(∀x,cur[i]?≠some (Value.int .u32 x))∧∀(u:Value) (y:S) w',okC u=true→Blk w' g e (yt cur.toList i [u]).toArray→(∀c x,R w c x→R w' c x)→R w' [u] y→OwnL e 1 R w' B (.slice (some ⟨g,0,none⟩) n cap) (xs.set i y):=by
 obtain⟨cl,h1,h3,h4⟩:=h;have hcl:=h4.len;rw[←hcl] at h3 hi;obtain⟨g2,cap2,cur,e1,hbg,hcur,hsz,hno,-⟩:=h3.setk h1 hi (c:=[.slice none 0 0]) rfl rfl;injection e1 with e1 e2 e3;injection e1 with e1;injection e1 with e1;subst e1;subst e3;refine⟨cur,hbg,hcur,zs8,hno i,fun u y w' hu hb hR hv=>?_⟩;obtain⟨g2,cap2,cur2,e1,-,hcur2,-,-,hset⟩:=h3.setk h1 hi (c:=[u]) rfl (by simp[hu]);have e5:g2=g:=by injection e1 with e1 _ _;injection e1 with e1;injection e1 with e1;exact e1.symm
 subst e5;have hcc:cur2=cur:=by
  have h5:w.heap[g2]? = some (.cells cur2 e (0,0)):=hcur2;have h6:w.heap[g2]? = some (.cells cur e (0,0)):=hcur;exact znZ
 subst hcc;have h7:=hset w' (by rw[Nat.mul_one];exact hb);refine⟨cl.set i [u],fun c hc=>?_,by rw[List.length_set,←hcl];exact h7,(h4.mono hR).set _ hv⟩;exact zqO
theorem zoT (h:OwnL e 1 R w B (.slice (some ⟨g,0,none⟩) n cap) xs) {cur:Array Value} (hcur:Blk w g e cur) (hn:xs.length=n):n≤cur.size:=by
 obtain⟨us,ho,ha,hul⟩:=ZD h;rcases ho.own.2 with ⟨e1,h0⟩ | ⟨g2,cap2,cur2,e1,-,hcur2,h5,-,h6,htk⟩
 ·cases e1
 ·injection e1 with e1 _ _;injection e1 with e1;injection e1 with e1;subst e1;have h7:w.heap[g]? = some (.cells cur e (0,0)):=hcur;rw[h7] at hcur2;injection hcur2 with hcur2;injection hcur2 with hcur2;subst hcur2;omega
theorem zr4 (h:OwnL e 1 R w B (.slice (some ⟨g,0,none⟩) n cap) xs) {cur:Array Value} (hcur:Blk w g e cur) (i:Nat) (x:Int):cur[i]?≠some (.int .u32 x):=by
 obtain⟨us,ho,ha,hul⟩:=ZD h;intro hx;exact ho.cl g rfl i x (by rw[hcur.cell];exact hx)
theorem zoU (h:OwnL e 1 R w B (.slice (some ⟨g,0,none⟩) n cap) xs) {cur:Array Value} (hcur:Blk w g e cur) {m:Nat} (hb:Blk w' g e (yt cur.toList k (List.replicate m (.slice none 0 0))).toArray) (hk:k≤xs.length) (hR:∀c x,R w c x→R w' c x) :
  OwnL e 1 R w' B (.slice (some ⟨g,0,none⟩) k cap) (xs.take k):=by
 obtain⟨us,ho,ha,hul⟩:=ZD h;rcases ho.own.2 with ⟨e1,h0⟩ | ⟨g2,cap2,cur2,e1,hbg,hcur2,h5,hmx,h6,htk⟩
 ·cases e1
 ·injection e1 with e1 e2 e3;injection e1 with e1;injection e1 with e1;subst e1;subst e3;have h7:w.heap[g]? = some (.cells cur e (0,0)):=hcur;rw[h7] at hcur2;injection hcur2 with hcur2;injection hcur2 with hcur2;subst hcur2;rw[Nat.mul_one] at htk h6;have hlen:(xs.take k).length=k:=by rw[List.length_take];omega
  have hpre:(yt cur.toList k (List.replicate m (.slice none 0 0))).take k=us.take k:=by
   rw[←htk,List.take_take,Nat.min_eq_left hk];exact zmj _ _ _
  refine zh6 (us:=us.take k) ?_ ?_
  ·rw[hlen];refine⟨⟨zn9,.inr ⟨g,cap,_,rfl,hbg,hb,jo,hmx,by simp[ZO,h6],by simp only[Nat.mul_one];exact hpre⟩⟩,?_⟩;intro g' hg' j x hx;simp only[Value.ownBlock,Option.some.injEq] at hg';subst hg';rw[hb.cell] at hx;have hm:Value.int .u32 x∈yt cur.toList k (List.replicate m (.slice none 0 0)):=ui (i:=j) (by simpa using hx);rcases zcx hm with h8 | h8
   ·obtain⟨j2,hj2⟩:=List.mem_iff_getElem?.1 h8;exact ho.cl g rfl j2 x (by rw[hcur.cell];simpa using hj2)
   ·have:=List.eq_of_mem_replicate h8;cases this
  ·have e9:Zy (us.take k)=(Zy us).take k:=by simp[Zy]
   rw[e9];exact zeU k (ha.mono hR)
end
theorem zdS {P:Program} {Kp:Value→World→Prop} {v:Value} (K:FuncId) (t x y:Tmp) (ts:Array TypeId) (ho:o.op = .call {callee:= .value (.tmp t),args:=#[.tmp x,.tmp y],argTypes:=ts}) (ht:tv a t = .func (.func K) #[] #[]) (hf:Yw P K=true) (hx:tv a x=u) (hy:tv a y=v)
  (h:Calls P K #[u,v] w (fun e w''=>∃v,e = .returned v∧Kp v w'')):zp P o a.eval w Kp:=by
 subst hx;subst hy;have hr:(execOp a.eval o).run P w = .ok (.enter K #[a.eval (.tmp x),a.eval (.tmp y)]) w:=by
  have hh:a.eval (.tmp t) = .func (.func K) #[] #[]:=ht;exact zqK
 unfold zp;rw[hr];exact h
theorem Zi:∀x y:List Int,zH x y=0→x=y
 |[],[],_=>rfl
 |[],_ :: _,h=>by simp[zH] at h
 |_ :: _,[],h=>by simp[zH] at h
 |a :: l,b :: m,h=>by
  rw[zH] at h
  by_cases e:a=b
  ·rw[if_pos e] at h;rw[e,Zi l m h]
  ·rw[if_neg e] at h
   unfold yr at h
   split at h
   ·simp at h
   ·split at h
    ·simp at h
    ·omega
theorem okR {w:World} {u:Value} {r:List Int} (h:RowC w [u] r):okC u=true:=by obtain⟨v,e,h⟩:=h;injection e with e;rw[e];exact h.ok
theorem okI {w:World} {u:Value} {r:List Nat} (h:InC w [u] r):okC u=true:=by obtain⟨v,e,A,n,c,e2,_⟩:=h;injection e with e;rw[e,e2];rfl
theorem RowC.kd9 {r:List Int} (h:RowC w c r) (k:KD [3,26,89,91] w w'):RowC w' c r:=h.kd k rfl
theorem InC.kd9 (h:InC w c r) (k:KD [3,87,89] w w'):InC w' c r:=by obtain⟨u,e,h⟩:=h;exact⟨u,e,h.kd k rfl⟩
theorem InC.below (h:InC w c r) (k:Below w.heap.size w w'):InC w' c r:=h.kd9 (KD.below k)
theorem zgK {l m:List Nat} (h:zu l=zu m):l=m:=by
 unfold zu at h;exact(List.map_inj_right (fun (a b:Nat) (e:(a:Int)=(b:Int))=>by omega)).1 h
theorem zeV {wr w:World} {u v:Value} {x y:List Int} (hu:RowC wr [u] x) (hv:RowC wr [v] y) (hb:Below wr.heap.size wr w):Calls Tryz.prog 89 #[u,v] w fun e w'=>e = .returned (.bool (decide (x=y)))∧Below w.heap.size w w':=by
 obtain⟨u1,e1,hu⟩:=hu.below hb;obtain⟨v1,e2,hv⟩:=hv.below hb;injection e1 with e1;injection e2 with e2;obtain⟨A1,n1,c1,e3,hnc1,hm1,hX1⟩:=hu.x;obtain⟨A2,n2,c2,e4,hnc2,hm2,hX2⟩:=hv.x;rw[e1,e2,e3,e4];refine(zhH n1 n2 c1 c2 A1 A2 x y w hX1 hX2).mono ?_;rintro e w' ⟨rfl,h⟩;refine⟨?_,h⟩;congr 2;by_cases e:x=y
 ·subst e;simp[ZJ]
 ·have:zH x y≠0:=fun h=>e (Zi x y h);simp[e,this]
theorem zeW {wr w:World} {u v:Value} {x y:List Nat} (hu:InC wr [u] x) (hv:InC wr [v] y) (hb:Below wr.heap.size wr w):Calls Tryz.prog 233 #[u,v] w fun e w'=>e = .returned (.bool (decide (x=y)))∧Below w.heap.size w w':=by
 obtain⟨u1,e1,hu⟩:=hu.below hb;obtain⟨v1,e2,hv⟩:=hv.below hb;injection e1 with e1;injection e2 with e2;obtain⟨A1,n1,c1,e3,hnc1,hm1,hX1⟩:=hu.x;obtain⟨A2,n2,c2,e4,hnc2,hm2,hX2⟩:=hv.x;rw[e1,e2,e3,e4];refine(zh8 A1 A2 (zu x) (zu y) n1 n2 c1 c2 w hX1 hX2).mono ?_;rintro e w' ⟨rfl,h⟩;refine⟨?_,h⟩;congr 2;by_cases e:x=y
 ·subst e;simp
 ·have:zu x≠zu y:=fun h=>e (zgK h);simp[e,this]
theorem vn2 {P:Prop} (h:P:=by
 obtain⟨us,ho,ha,hul⟩:=ZD h;obtain⟨A0,cap,rfl⟩:=zF ho.own;obtain⟨n,hn⟩:∃x,x=xs.length:=⟨_,rfl⟩;rw[←hn] at h ho hn5 hul ⊢;have HO:=vh h;have HN:=vh hn;clear ho ha us hul hn;by_cases h2:n<2
 ·have hi2:((n:Int)<2):=jo;have hdd:ddS xs=xs:=zeR zld;have HD:=vh hdd;clear hdd;first | go_enter Tryz.func88,Tryz.ntmps88 | go_enter Tryz.func232,Tryz.ntmps232
  go_wp2_with fail;go_ret;exact⟨_,rfl,by rw[HD];exact HO.out,ue _ _,KD.refl _ _⟩
 have hi2:¬((n:Int)<2):=jo;obtain⟨g,hg⟩:∃g,A0=some ⟨g,0,none⟩:=by
  obtain⟨us,ho,-,-⟩:=ZD h;rcases ho.own.2 with ⟨e1,h0⟩ | ⟨g,cap2,cur,e1,_⟩
  ·rw[←HN] at h0;omega
  ·injection e1 with e1 _ _;exact⟨g,e1⟩
 subst hg;clear h;first | go_enter Tryz.func88,Tryz.ntmps88 | go_enter Tryz.func232,Tryz.ntmps232
 go_wp2_with fail;go_loopg [5] n (fun gk kv wr=>∃k:Nat,kv = .int .i64 k∧1≤k∧k≤n∧n - k≤gk∧Hid (ddS (xs.take k)=xs.take k∧Below w.heap.size w wr));case atStart=>exact⟨1,rfl,jo,jo,jo,vh ⟨zeR zn9,ue _ _⟩⟩
 case round=>
  obtain⟨k,rfl,hk1,hkn,hgk,HJ⟩:=hrel;by_cases hk:k<n
  ·have i1:((k:Int)<(n:Int)):=jo;have HS:=vh (show OwnL vr1 1 vr2 wr B (.slice (some ⟨g,0,none⟩) n cap) xs from HO.below HJ.2 (fun _ _ h=>h.below HJ.2));obtain⟨x1,hx1⟩:∃x,xs[k]? = some x:=⟨_,uf (by rw[←HN];exact hk)⟩;obtain⟨u1,hu1,hR1⟩:=zdR HS.out hx1;obtain⟨x0,hx0⟩:∃x,xs[k - 1]? = some x:=⟨_,uf zld⟩;obtain⟨u0,hu0,hR0⟩:=zdR HS.out hx0;have HU1:=vh (uh hu1 hR1);have HU0:=vh (uh hu0 hR0);have HX1:=vh hx1;have HX0:=vh hx0;clear hu1 hR1 hu0 hR0 hx1 hx0;obtain⟨k9,hk9⟩:∃x,x=k - 1:=⟨_,rfl⟩;rw[←hk9] at HU0 HX0;have hk9b:k9+1=k:=jo;clear hk9;obtain⟨tb,htb⟩:∃b,b=decide (x1=x0):=⟨_,rfl⟩;have HTb:=vh htb;clear htb;go_upto_region 6 with (fail);refine wp_region_each (kss:=[[],[],[],[(1,19),(2,20)],[(3,21)],[],[],[(6,24)],[(5,23),(7,25)],[(8,26)],[(0,18),(4,22),(9,27)]]) [(1,.func (.func vr3) #[] #[]),(0,.slice ((some ⟨g,0,none⟩)) n cap),(5,.int .i64 ((k:Int)))] [EV (.func (.func vr3) #[] #[]),EV (.slice ((some ⟨g,0,none⟩)) n cap),EV (.int .i64 ((k:Int))),EV (.pointer (some (Addr.add (⟨g,0,none⟩) (k*1)))),EV (u1),EV (.slice ((some ⟨g,0,none⟩)) n cap),EV (.int .i64 ((k:Int))),EV (.int .i64 ((k9:Int))),EV (.pointer (some (Addr.add (⟨g,0,none⟩) (k9*1)))),EV (u0),EV (.bool tb)] vk vk vt ?_ ?_ ?_
   ·exact js
   ·exact⟨vi0,vi1,vi4,(fun aa ww hb he hd=>za rfl (zm (e:=vr1) (s:=1) (k:=k) rfl vk jo hd.1 hd.2.1)),(fun aa ww hb he hd=>za rfl (zd rfl vk hd.1 (by rw[adm,Nat.zero_add];exact(hb.cell (zh HU1.1)).trans HU1.1))),vi1,vi4,(fun aa ww hb he hd=>za rfl (Zh k 1 k9 rfl hd.1 rfl hk9b jo)),(fun aa ww hb he hd=>za rfl (zm (e:=vr1) (s:=1) (k:=k9) rfl vk jo hd.1 hd.2.1)),(fun aa ww hb he hd=>za rfl (zd rfl vk hd.1 (by rw[adm,Nat.zero_add];exact(hb.cell (zh HU0.1)).trans HU0.1))),vi90,uC⟩
   intro vs w2 hb hR;refine vs0 ?_;rw[(hR 10 jd:vs 10=_)];clear hR;have HB2:=vh (ze HJ.2 hb HJ.2.size);cases tb with
   |false=>
    have hne:x1≠x0:=fun e=>by have:=HTb.out;simp[e] at this
    have hdk:ddS (xs.take (k+1))=xs.take (k+1):=by rw[za4 HX1.out (by rw[hk9b] at *;exact(show xs[k9]? = some x0 from HX0.out)) hk9b,if_neg hne,HJ.1];exact yX HX1.out
    have HK:=vh (uh hdk HB2.out);clear hdk hne hb HS HU1 HU0 HX1 HX0 HTb HB2 HJ;go_wp2_with fail;go_roundg (n - (k+1));case measure=>omega
    case rel=>exact⟨k+1,vj1,jo,jo,ug _,HK⟩
   |true=>
    have heq:x1=x0:=by have:=HTb.out;simpa using this.symm
    have hdk:ddS (xs.take (k+1))=xs.take k:=by rw[za4 HX1.out HX0.out hk9b,if_pos heq];exact HJ.1
    first
    |guard_expr ins2 =~ 0
     have HI:=vh (show ∃ys:List (List Int),OwnL 87 1 RowC w2 B (.slice (some ⟨g,0,none⟩) n cap) ys∧ys.length=n∧ys.take k=ddS (xs.take (k+1))∧ys.drop (k+1 - 1)=xs.drop (k+1 - 1)∧k≤k+1 - 1∧Below B w w2∧KD [3,26,89,91] w w2∧B≤w2.heap.size from⟨xs,HO.below HB2.out (fun _ _ h=>h.below HB2.out),HN.symm,hdk.symm,rfl,jo,HB2.mono hB,KD.below HB2.out,ud hB HB2.size⟩)
    |have HI:=vh (show ∃ys:List (List Nat),OwnL 26 1 InC w2 B (.slice (some ⟨g,0,none⟩) n cap) ys∧ys.length=n∧ys.take k=ddS (xs.take (k+1))∧ys.drop (k+1 - 1)=xs.drop (k+1 - 1)∧k≤k+1 - 1∧Below B w w2∧KD [3,87,89] w w2∧B≤w2.heap.size from⟨xs,HO.below HB2.out (fun _ _ h=>h.below HB2.out),HN.symm,hdk.symm,rfl,jo,HB2.mono hB,KD.below HB2.out,ud hB HB2.size⟩)
    clear hdk heq hb HS HU1 HU0 HX1 HX0 HTb HB2 HJ;have hcapn:n≤cap:=by obtain⟨us,ho,-,-⟩:=ZD HO.out;rcases ho.own.2 with ⟨e1,h0⟩ | ⟨g,cap2,cur,e1,_,_,h9,_⟩;cases e1;injection e1 with _ e2 e3;rw[e3,HN];exact h9
    go_wp2_with fail;skip;first
    |guard_expr ins2 =~ 0
     go_loopg [5,7] n (fun gk kv jv wr=>∃(k2 j:Nat),kv = .int .i64 k2∧jv = .int .i64 j∧1≤j∧k+j≤n∧n - (k+j)≤gk∧Hid (∃ys:List (List Int),OwnL 87 1 RowC wr B (.slice (some ⟨g,0,none⟩) n cap) ys∧ys.length=n∧ys.take k2=ddS (xs.take (k+j))∧ys.drop (k+j - 1)=xs.drop (k+j - 1)∧k2≤k+j - 1∧Below B w wr∧KD [3,26,89,91] w wr∧B≤wr.heap.size))
    |go_loopg [5,7] n (fun gk kv jv wr=>∃(k2 j:Nat),kv = .int .i64 k2∧jv = .int .i64 j∧1≤j∧k+j≤n∧n - (k+j)≤gk∧Hid (∃ys:List (List Nat),OwnL 26 1 InC wr B (.slice (some ⟨g,0,none⟩) n cap) ys∧ys.length=n∧ys.take k2=ddS (xs.take (k+j))∧ys.drop (k+j - 1)=xs.drop (k+j - 1)∧k2≤k+j - 1∧Below B w wr∧KD [3,87,89] w wr∧B≤wr.heap.size))
    case atStart=>exact⟨k,1,rfl,rfl,jo,jo,jo,HI⟩
    case round=>
     obtain⟨k2,j,rfl,rfl,hj1,hjn,hgk2,HK⟩:=hrel;clear HI;obtain⟨ys,hys,hyl,hyt,hyd,hk2,hyb,hyk,hys5⟩:=HK.out;clear HK;by_cases hj:k+j<n
     ·have i2:((j:Int)<((n:Int) - (k:Int))):=jo;obtain⟨x1,hx1⟩:∃x,xs[k+j]? = some x:=⟨_,uf (by rw[←HN];exact hj)⟩;obtain⟨x0,hx0⟩:∃x,xs[k+j - 1]? = some x:=⟨_,uf zld⟩;have hy1:ys[k+j]? = some x1:=(zjf (i:=k+j) hyd jo).symm.trans hx1;have hy0:ys[k+j - 1]? = some x0:=(zjf (i:=k+j - 1) hyd jo).symm.trans hx0;obtain⟨u1,hu1,hR1⟩:=zdR hys hy1;obtain⟨u0,hu0,hR0⟩:=zdR hys hy0;obtain⟨k9,hk9⟩:∃x,x=k+j - 1:=⟨_,rfl⟩;rw[←hk9] at hu0 hx0 hy0 hyd hk2;have hk9b:k9+1=k+j:=jo;obtain⟨j9,hj9⟩:∃x,x=j - 1:=⟨_,rfl⟩;have hj9b:j9+1=j:=jo;have hkj:k+j9=k9:=jo;clear hk9 hj9;have HU1:=vh (uh hu1 hR1);have HU0:=vh (uh hu0 hR0);have HX:=vh (uh hx1 hx0);have HY:=vh (uh hys (uh hyl (uh hyt (uh hyd (uh hyb (uh hyk hys5))))));clear hu1 hR1 hu0 hR0 hx1 hx0 hy1 hy0 hys hyl hyt hyd hyb hyk hys5;obtain⟨tb,htb⟩:∃b,b=decide (x1=x0):=⟨_,rfl⟩;have HTb:=vh htb;clear htb;go_upto_region 11 with (fail);refine wp_region_each (kss:=[[],[],[],[(1,39),(2,40)],[(3,41)],[],[],[(6,44)],[(5,43),(7,45)],[(8,46)],[(0,38),(4,42),(9,47)],[(10,48)]]) [(1,.func (.func vr3) #[] #[]),(6,.slice ((some ⟨g,k,none⟩)) ((n - k)) ((cap - k))),(7,.int .i64 ((j:Int)))] [EV (.func (.func vr3) #[] #[]),EV (.slice ((some ⟨g,k,none⟩)) ((n - k)) ((cap - k))),EV (.int .i64 ((j:Int))),EV (.pointer (some (Addr.add (⟨g,k,none⟩) (j*1)))),EV (u1),EV (.slice ((some ⟨g,k,none⟩)) ((n - k)) ((cap - k))),EV (.int .i64 ((j:Int))),EV (.int .i64 ((j9:Int))),EV (.pointer (some (Addr.add (⟨g,k,none⟩) (j9*1)))),EV (u0),EV (.bool tb),EV (.bool (!tb))] vk vk vt ?_ ?_ ?_
      ·exact js
      ·exact⟨vi0,vi1,vi4,vi91,(fun aa ww hb he hd=>za rfl (zd rfl vk hd.1 (by rw[adm];exact(hb.cell (zh HU1.1)).trans HU1.1))),vi1,vi4,(fun aa ww hb he hd=>za rfl (Zh j 1 j9 rfl hd.1 rfl hj9b jo)),(fun aa ww hb he hd=>za rfl (zm (e:=vr1) (s:=1) (k:=j9) rfl vk jo hd.1 hd.2.1)),(fun aa ww hb he hd=>za rfl (zd rfl vk hd.1 (by rw[adm,hkj];exact(hb.cell (zh HU0.1)).trans HU0.1))),vi90,(fun aa ww hb he hd=>za rfl (YK tb _ _ rfl hd.1 ⟨rfl,ue _ _⟩)),uC⟩
      intro vs w2 hb hR;refine zpP ?_;clear hR;cases tb with
      |true=>
       have heq:x1=x0:=by have:=HTb.out;simpa using this.symm
       have hdk:ddS (xs.take (k+(j+1)))=ddS (xs.take (k+j)):=by rw[show k+(j+1)=(k+j)+1 by omega,za4 HX.1 HX.2 hk9b,if_pos heq]
       first
       |guard_expr ins2 =~ 0
        have HN2:=vh (show ∃ys:List (List Int),OwnL 87 1 RowC w2 B (.slice (some ⟨g,0,none⟩) n cap) ys∧ys.length=n∧ys.take k2=ddS (xs.take (k+(j+1)))∧ys.drop (k+(j+1) - 1)=xs.drop (k+(j+1) - 1)∧k2≤k+(j+1) - 1∧Below B w w2∧KD [3,26,89,91] w w2∧B≤w2.heap.size from⟨ys,HY.1.below hb vj5,HY.2.1,by rw[hdk];exact HY.2.2.1,vj84,jo,HY.2.2.2.2.1.trans (hb.mono HY.2.2.2.2.2.2),HY.2.2.2.2.2.1.trans (KD.below hb),ud HY.2.2.2.2.2.2 hb.size⟩)
       |have HN2:=vh (show ∃ys:List (List Nat),OwnL 26 1 InC w2 B (.slice (some ⟨g,0,none⟩) n cap) ys∧ys.length=n∧ys.take k2=ddS (xs.take (k+(j+1)))∧ys.drop (k+(j+1) - 1)=xs.drop (k+(j+1) - 1)∧k2≤k+(j+1) - 1∧Below B w w2∧KD [3,87,89] w w2∧B≤w2.heap.size from⟨ys,HY.1.below hb vj5,HY.2.1,by rw[hdk];exact HY.2.2.1,vj84,jo,HY.2.2.2.2.1.trans (hb.mono HY.2.2.2.2.2.2),HY.2.2.2.2.2.1.trans (KD.below hb),ud HY.2.2.2.2.2.2 hb.size⟩)
       clear hdk heq hb HU1 HU0 HX HY HTb;go_wp2_with fail;go_roundg (n - (k+(j+1)));case measure=>omega
       case rel=>exact⟨k2,j+1,rfl,vj1,jo,jo,ug _,HN2⟩
      |false=>
       have hne:x1≠x0:=fun e=>by have:=HTb.out;simp[e] at this
       have hdk:ddS (xs.take (k+(j+1)))=ddS (xs.take (k+j))++[x1]:=by rw[show k+(j+1)=(k+j)+1 by omega,za4 HX.1 HX.2 hk9b,if_neg hne]
       have HDk:=vh hdk;clear hdk hne HTb;have HW2:=vh hb;clear hb;go_upto_region 12 with (fail);refine zc (kss:=[[],[],[],[],[(2,52),(3,53)],[(4,54)],[(0,50),(1,51)]]) [(0,.slice ((some ⟨g,0,none⟩)) n cap),(5,.int .i64 ((k2:Int))),(6,.slice ((some ⟨g,k,none⟩)) ((n - k)) ((cap - k))),(7,.int .i64 ((j:Int)))] [EV (.slice ((some ⟨g,0,none⟩)) n cap),EV (.int .i64 ((k2:Int))),EV (.slice ((some ⟨g,k,none⟩)) ((n - k)) ((cap - k))),EV (.int .i64 ((j:Int))),EV (.pointer (some (Addr.add (⟨g,k,none⟩) (j*1)))),EV (u1),EV (.pointer (some (Addr.add (⟨g,0,none⟩) (k2*1))))] 7 vk vt [false,false,false,false,false,false,false] ?_ ?_ ?_
       ·exact js
       ·exact⟨vi0,vi1,vi4,zbp,vi91,(fun aa ww hb he hd=>za rfl (zd rfl vk hd.1 (by rw[adm];exact((HW2.trans (hb.mono HW2.size)).cell (zh HU1.1)).trans HU1.1))),(fun aa ww hb he hd=>za rfl (zm (e:=vr1) (s:=1) (k:=k2) rfl vk jo hd.1 hd.2.1)),uC⟩
       intro vs w3 hb hR;refine vs0 ?_;rw[(hR 5 jd:vs 5=_),(hR 6 jd:vs 6=_)];clear hR;rw[adm,Nat.zero_add];have hbb:=HW2.trans (hb.mono HW2.size);have hO:=HY.1.below hbb (fun _ _ h=>h.below hbb);obtain⟨cur,hbg,hcur,hsz,hno,hset⟩:=zfJ hO (show k2<ys.length by rw[HY.2.1];omega);have hR1:=HU1.2.below hbb;show wpOps _ _ _ [7] _ _;refine zb rfl rfl (yZ (g:=g) (off:=k2) rfl rfl vk rfl rfl (vr5 hR1) hcur hsz hno ?_);intro w9 kn hg hs hbx;first
       |guard_expr ins2 =~ 0
        have kd:KD [3,26,89,91] w3 w9:=KD.blk hcur hg kn rfl
       |have kd:KD [3,87,89] w3 w9:=KD.blk hcur hg kn rfl
       have hO9:=hset u1 x1 w9 (vr5 hR1) hbx zla (hR1.kd9 kd);first
       |guard_expr ins2 =~ 0
        have HN2:=vh (show ∃ys:List (List Int),OwnL 87 1 RowC w9 B (.slice (some ⟨g,0,none⟩) n cap) ys∧ys.length=n∧ys.take (k2+1)=ddS (xs.take (k+(j+1)))∧ys.drop (k+(j+1) - 1)=xs.drop (k+(j+1) - 1)∧(k2+1)≤k+(j+1) - 1∧Below B w w9∧KD [3,26,89,91] w w9∧B≤w9.heap.size from⟨_,hO9,by rw[List.length_set];exact HY.2.1,by rw[HDk,←HY.2.2.1];exact zgJ (by rw[HY.2.1];omega),vj85,jo,(HY.2.2.2.2.1.trans (hbb.mono HY.2.2.2.2.2.2)).grown hg (ud HY.2.2.2.2.2.2 hbb.size) (fun k e=>by cases e;exact hbg),(HY.2.2.2.2.2.1.trans (KD.below hbb)).trans kd,by rw[hs];exact ud HY.2.2.2.2.2.2 hbb.size⟩)
       |have HN2:=vh (show ∃ys:List (List Nat),OwnL 26 1 InC w9 B (.slice (some ⟨g,0,none⟩) n cap) ys∧ys.length=n∧ys.take (k2+1)=ddS (xs.take (k+(j+1)))∧ys.drop (k+(j+1) - 1)=xs.drop (k+(j+1) - 1)∧(k2+1)≤k+(j+1) - 1∧Below B w w9∧KD [3,87,89] w w9∧B≤w9.heap.size from⟨_,hO9,by rw[List.length_set];exact HY.2.1,by rw[HDk,←HY.2.2.1];exact zgJ (by rw[HY.2.1];omega),vj85,jo,(HY.2.2.2.2.1.trans (hbb.mono HY.2.2.2.2.2.2)).grown hg (ud HY.2.2.2.2.2.2 hbb.size) (fun k e=>by cases e;exact hbg),(HY.2.2.2.2.2.1.trans (KD.below hbb)).trans kd,by rw[hs];exact ud HY.2.2.2.2.2.2 hbb.size⟩)
       clear hO9 kd kn hg hs hbx hset hcur hsz hno hbg hO hR1 hbb hb HW2 HDk HU1 HU0 HX HY;unfold wpOps;go_wp2_with fail;go_roundg (n - (k+(j+1)));case measure=>omega
       case rel=>exact⟨k2+1,j+1,vj1,vj1,jo,jo,ug _,HN2⟩
     ·have hend:k+j=n:=jo;rw[hend,um (l:=xs) zlf] at hyt;have hk2n:k2<n:=jo;obtain⟨cur,hbg,hcur,hsz,hno,-⟩:=zfJ hys (show k2<ys.length by rw[hyl];exact hk2n);have hcs:n≤cur.size:=zoT hys hcur hyl;have hcl:∀ty,(Builtin.clear_ #[vr6] ty #[.slice (some ⟨g,k2,none⟩) (n - k2) (cap - k2)]).run Tryz.prog wr = .ok (.tuple #[]) (wr.setCells g k2 (List.replicate (n - k2) (.slice none 0 0))):=fun ty=>Lib.run_clear_slice wr vr6 vr1 ty (.slice none 0 0) vr7 vr8 rfl rfl g k2 _ _ jo (fun i hi=>by rw[hcur.cell,Array.getElem?_eq_getElem jo];rfl) (fun i hi=>hcur.frozen _);obtain⟨w9,hw9⟩:∃x,x=wr.setCells g k2 (List.replicate (n - k2) (.slice none 0 0)):=⟨_,rfl⟩;rw[←hw9] at hcl;have hb9:Blk w9 g vr1 (yt cur.toList k2 (List.replicate (n - k2) (.slice none 0 0))).toArray:=by rw[hw9];exact hcur.stCells _ _
      have kn:KeepsN wr w9:=by rw[hw9];exact KeepsN.cells _ _ hcur (by rw[List.length_replicate];omega) (fun i _ _=>zr4 hys hcur i)
      have hg:wr.grownBy w9 (some g):=by rw[hw9];exact zbr _ wr k2 (World.grownBy.refl wr (some g))
      first
      |guard_expr ins2 =~ 0
       have kd:KD [3,26,89,91] wr w9:=KD.blk hcur hg kn rfl
      |have kd:KD [3,87,89] wr w9:=KD.blk hcur hg kn rfl
      have hO:=zoU hys hcur hb9 (show k2≤ys.length by rw[hyl];omega) zla;rw[hyt] at hO;have hkl:k2=(ddS xs).length:=by rw[←hyt,List.length_take,hyl];omega
      have HF:=vh hO;have HB:=vh (show Below B w w9 from hyb.grown hg hys5 (fun k e=>by cases e;exact hbg));have HKd:=vh (hyk.trans kd);clear hO kd hg kn hb9 hw9 hcs hno hsz hcur hbg hyt hyd hyk hyb hys5 hys hkl hend;go_wp2_with fail;go_ret;exact⟨_,rfl,HF.out,HB.out,HKd.out⟩
  ·obtain rfl:n=k:=jo;have hdk:=HJ.1;rw[um (l:=xs) zlf] at hdk;have HD:=vh hdk;have HB:=vh HJ.2;clear hdk HJ;go_wp2_with fail;go_ret;exact⟨_,rfl,by rw[HD];exact HO.below HB.out (fun _ _ h=>h.below HB.out),HB.mono hB,KD.below HB.out⟩):P:=h
abbrev QA.vr1:Nat:=87
abbrev QA.vr2:=@RowC
abbrev QA.vr3:Nat:=89
theorem QA.vr4:type_of% @zeV:=@zeV
theorem QA.vr5:type_of% @okR:=@okR
abbrev QA.vr6:Nat:=84
theorem QA.vr7:type_of% @Tryz.underlying84:=@Tryz.underlying84
theorem QA.vr8:type_of% @Tryz.zeroValue87:=@Tryz.zeroValue87
abbrev QA.ins2:Nat:=0
theorem QA.compRows_any {v:Value} {xs:List (List Int)} (h:OwnL 87 1 RowC w B v xs) (hB:B≤w.heap.size) (hn5:xs.length≤5000000):Calls Tryz.prog 88 #[v,.func (.func 89) #[] #[]] w (fun e w'=>∃r,e = .returned r∧OwnL 87 1 RowC w' B r (ddS xs)∧Below B w w'∧KD [3,26,89,91] w w'):=by
 exact vn2
abbrev QB.vr1:Nat:=26
abbrev QB.vr2:=@InC
abbrev QB.vr3:Nat:=233
theorem QB.vr4:type_of% @zeW:=@zeW
theorem QB.vr5:type_of% @okI:=@okI
abbrev QB.vr6:Nat:=72
theorem QB.vr7:type_of% @Tryz.underlying72:=@Tryz.underlying72
theorem QB.vr8:type_of% @Tryz.zeroValue26:=@Tryz.zeroValue26
abbrev QB.ins2:Nat:=1
theorem QB.compWhy_any {v:Value} {xs:List (List Nat)} (h:OwnL 26 1 InC w B v xs) (hB:B≤w.heap.size) (hn5:xs.length≤5000000):Calls Tryz.prog 232 #[v,.func (.func 233) #[] #[]] w (fun e w'=>∃r,e = .returned r∧OwnL 26 1 InC w' B r (ddS xs)∧Below B w w'∧KD [3,87,89] w w'):=by
 exact vn2
theorem zdT (xs:List Nat):(I64 (zu xs)).all okC=true:=by
 rw[List.all_eq_true];intro u hu;simp only[I64,zu,List.map_map,List.mem_map] at hu;obtain⟨x,-,rfl⟩:=hu;rfl
theorem zh9 (v:Value) (xs:List Nat) (w:World) (h:IntsV w v xs):Calls Tryz.prog 53 #[v] w (fun e w'=>∃u,e = .returned u∧IntsV w' u xs∧Below w.heap.size w w'):=by
 obtain⟨A,n,c,rfl,hnc,hrd,⟨hn,hn6⟩,h9⟩:=h;refine(zgC A n c (I64 (zu xs)) w (fun e=>?_) hrd (zdT xs) jo).mono ?_
 ·exact vt96
 ·exact zqy
theorem OwnL.lower {e:TypeId} {R:World→List Value→S→Prop} {B':Nat} {v:Value} {xs:List S} (h:OwnL e k R w B v xs) (hb:B'≤B):OwnL e k R w B' v xs:=by
 obtain⟨cl,h1,⟨⟨h2,h3⟩,h4⟩,h5⟩:=h;refine⟨cl,h1,⟨⟨h2,?_⟩,h4⟩,h5⟩;rcases h3 with h3 | ⟨g,cap,cur,h6,h7,h8⟩
 ·exact .inl h3
 ·exact .inr ⟨g,cap,cur,h6,ud hb h7,h8⟩
def FrR {S:Type} (te k:Nat) (R:World→List Value→S→Prop) (B:Nat) (w:World) (r:Value) (vars:List Nat) (rows:List (List Int)) (us:List S):Prop:=
 ∃a b c:Value,r = .agg #[a,b,c]∧IntsV w a vars∧RowsV w b rows∧OwnL te k R w B c us
section
variable {o : Oper} {a : Act} {w : World}
theorem FN.vq48 (ho:o.op = .alloc 104):zp Tryz.prog o a.eval w (fun v w'=>(∃g:Nat,v = .pointer (some ⟨g,0,none⟩)∧w.heap.size≤g∧Blk w' g 104 #[.slice none 0 0,.slice none 0 0,.slice none 0 0])∧Below w.heap.size w w'):=by
 have hr:(execOp a.eval o).run Tryz.prog w = .ok (.value (.pointer (some ⟨w.heap.size,0,none⟩))) (w.alloc (.cells #[.slice none 0 0,.slice none 0 0,.slice none 0 0] 104)):=by
  unfold execOp;rw[ho];go_simp
 exact zef
theorem FC.vq48 (ho:o.op = .alloc 119):zp Tryz.prog o a.eval w (fun v w'=>(∃g:Nat,v = .pointer (some ⟨g,0,none⟩)∧w.heap.size≤g∧Blk w' g 119 #[.slice none 0 0,.slice none 0 0,.slice none 0 0])∧Below w.heap.size w w'):=by
 have hr:(execOp a.eval o).run Tryz.prog w = .ok (.value (.pointer (some ⟨w.heap.size,0,none⟩))) (w.alloc (.cells #[.slice none 0 0,.slice none 0 0,.slice none 0 0] 119)):=by
  unfold execOp;rw[ho];go_simp
 exact zef
theorem FP.vq48 (ho:o.op = .alloc 128):zp Tryz.prog o a.eval w (fun v w'=>(∃g:Nat,v = .pointer (some ⟨g,0,none⟩)∧w.heap.size≤g∧Blk w' g 128 #[.slice none 0 0,.slice none 0 0,.slice none 0 0])∧Below w.heap.size w w'):=by
 have hr:(execOp a.eval o).run Tryz.prog w = .ok (.value (.pointer (some ⟨w.heap.size,0,none⟩))) (w.alloc (.cells #[.slice none 0 0,.slice none 0 0,.slice none 0 0] 128)):=by
  unfold execOp;rw[ho];go_simp
 exact zef
theorem FW.vq48 (ho:o.op = .alloc 140):zp Tryz.prog o a.eval w (fun v w'=>(∃g:Nat,v = .pointer (some ⟨g,0,none⟩)∧w.heap.size≤g∧Blk w' g 140 #[.slice none 0 0,.slice none 0 0,.slice none 0 0])∧Below w.heap.size w w'):=by
 have hr:(execOp a.eval o).run Tryz.prog w = .ok (.value (.pointer (some ⟨w.heap.size,0,none⟩))) (w.alloc (.cells #[.slice none 0 0,.slice none 0 0,.slice none 0 0] 140)):=by
  unfold execOp;rw[ho];go_simp
 exact zef
end
def IsSo (w:World) (rs:List (List Int)) (e:Ending) (w':World):Prop:=∃b:Bool,e = .returned (.bool b)∧(b=true→rs.Pairwise fun x y=>zH x y≤0)∧Below w.heap.size w w'
theorem zkt {P:Program} {t:Tmp} {z:Int} {T T2:TypeId} (ho:o.op = .binOp .lss T (.tmp t) (.const (.int .i64 0)) T2) (h:tv a t = .int .i64 z):zp P o a.eval w (fun v w'=>v = .bool (decide (z<0))∧Below w.heap.size w w'):=by
 refine zo (.bool (decide (z<0))) ?_ ⟨rfl,ue _ _⟩;exact znX
theorem zku {rs:List (List Int)} {n:Nat} (hn:n=rs.length) (h:∀j,j<n→0<j→∀x y,rs[j]? = some x→rs[j - 1]? = some y→¬zH x y<0):rs.Pairwise fun x y=>zH x y≤0:=by
 subst hn;rw[List.pairwise_iff_getElem];have key:∀d i (hi:i<rs.length) (hj:i+d<rs.length),zH rs[i] rs[i+d]≤0:=by
  intro d;induction d with
  |zero=>intro i hi hj;simp only[Nat.add_zero];rw[ZJ];exact Int.le_refl _
  |succ d ih=>
   intro i hi hj;have h1:=ih i hi jo;have h2:=h (i+(d+1)) hj jo _ _ (uf hj) (by rw[show i+(d+1) - 1=i+d by omega];exact uf jo);have h3:=Zp (rs[i+(d+1)]'hj) (rs[i+d]'jo);exact(zaG _ _ _ h1 jo).1
 intro i j hi hj hij;have:=key (j - i) i hi jo;simpa only[show i+(j - i)=j by omega] using this
theorem zeX (ar:Int) (v:Value) (w:World):Calls Tryz.prog 54 #[.agg #[.int .i64 ar,v]] w fun e w'=>e = .returned (.int .i64 ar)∧Below w.heap.size w w':=by
 go_enter Tryz.func54,Tryz.ntmps54;go_upto_region 1 with (fail);obtain⟨w1,hw0⟩:∃x,x=w.alloc (.cells #[.int .i64 ar,v] 91):=⟨_,rfl⟩;rw[←hw0];have hs0:w1.heap.size=w.heap.size+1:=by rw[hw0];simp
 have ha0:Below w.heap.size w w1:=by rw[hw0];exact al _ _
 obtain⟨g1,hg0⟩:∃g,g=w.heap.size:=⟨_,rfl⟩;have hx0:Blk w1 g1 91 #[.int .i64 ar,v]:=by rw[hw0,hg0];exact Blk.new _ _ _
 exact vt33
theorem zmk (ar:Int) (A:Option Addr) (n c:Nat) (w:World):Calls Tryz.prog 56 #[.agg #[.int .i64 ar,.slice A n c]] w fun e w'=>e = .returned (.int .i64 (n:Int))∧Below w.heap.size w w':=by
 go_enter Tryz.func56,Tryz.ntmps56;go_upto_region 1 with (fail);obtain⟨w1,hw0⟩:∃x,x=w.alloc (.cells #[.int .i64 ar,.slice A n c] 91):=⟨_,rfl⟩;rw[←hw0];have hs0:w1.heap.size=w.heap.size+1:=by rw[hw0];simp
 have ha0:Below w.heap.size w w1:=by rw[hw0];exact al _ _
 obtain⟨g1,hg0⟩:∃g,g=w.heap.size:=⟨_,rfl⟩;have hx0:Blk w1 g1 91 #[.int .i64 ar,.slice A n c]:=by rw[hw0,hg0];exact Blk.new _ _ _
 rw[←hg0];have X1:=vh hx0;have G1:=vh (show w.heap.size≤g1 by omega);have HB1:=vh (show Below w.heap.size w w1 from ha0);clear hw0 hs0 ha0 hg0 hx0;have z1:=Blk.at1 X1.out (ue _ _);go_wp2_with fail;go_ret;exact⟨rfl,HB1.out⟩
theorem zgL (ar:Nat) (v u:Value) (xs:List Int) (w:World) (h:RowV w u xs) (hl:xs.length=ar):Calls Tryz.prog 48 #[.agg #[.int .i64 (ar:Int),v],u] w fun e w'=>e = .returned (.int .i64 0)∧Below w.heap.size w w':=by
 obtain⟨A,n,c,rfl,hnc,hn,hX⟩:=h.x;obtain rfl:n=ar:=by rw[hn,hl]
 have HX:=vh hX;clear hX h hn hl;go_enter Tryz.func48,Tryz.ntmps48;go_upto_region 1 with (fail);obtain⟨w1,hw0⟩:∃x,x=w.alloc (.cells #[.int .i64 (n:Int),v] 91):=⟨_,rfl⟩;rw[←hw0];have hs0:w1.heap.size=w.heap.size+1:=by rw[hw0];simp
 have ha0:Below w.heap.size w w1:=by rw[hw0];exact al _ _
 obtain⟨g2,hg0⟩:∃g,g=w.heap.size:=⟨_,rfl⟩;have hx0:Blk w1 g2 91 #[.int .i64 (n:Int),v]:=by rw[hw0,hg0];exact Blk.new _ _ _
 rw[←hg0];have X2:=vh hx0;have G2:=vh (show w.heap.size≤g2 by omega);have HB1:=vh (show Below w.heap.size w w1 from ha0);clear hw0 hs0 ha0 hg0 hx0;have z0:=Blk.at0 X2.out (ue _ _);go_wp2_with fail;refine(zcO n c A xs w1 (HX.new HB1.out)).mono ?_;rintro e w2 ⟨rfl,hb⟩;exact vt97
theorem zml (n:Nat) (hn:n≤32) (w:World):Calls Tryz.prog 47 #[.int .i64 (n:Int)] w fun e w'=>e = .returned (.tuple #[.agg #[.int .i64 (n:Int),.slice none 0 0],.int .i64 0])∧Below w.heap.size w w':=by
 have t0:¬((n:Int)<0):=jo;have t1:¬((n:Int)>32):=jo;go_enter Tryz.func47,Tryz.ntmps47;go_upto_region 1 with (fail);obtain⟨w1,hw0⟩:∃x,x=w.alloc (.cells #[.int .i64 0,.slice none 0 0] 91):=⟨_,rfl⟩;rw[←hw0];have hs0:w1.heap.size=w.heap.size+1:=by rw[hw0];simp
 have ha0:Below w.heap.size w w1:=by rw[hw0];exact al _ _
 obtain⟨g2,hg0⟩:∃g,g=w.heap.size:=⟨_,rfl⟩;have hx0:Blk w1 g2 91 #[.int .i64 0,.slice none 0 0]:=by rw[hw0,hg0];exact Blk.new _ _ _
 rw[←hg0];have X2:=vh hx0;have G2:=vh (show w.heap.size≤g2 by omega);have HB1:=vh (show Below w.heap.size w w1 from ha0);clear hw0 hs0 ha0 hg0 hx0;go_upto_region 3 with (fail);refine zc (kss:=[[],[(0,11)]]) [(0,.int .i64 ((n:Int)))] [EV (.int .i64 ((n:Int))),EV (.agg #[.int .i64 (n:Int),.slice none 0 0])] 2 vk vt [false,false] ?_ ?_ ?_
 ·exact js
 ·exact⟨vi0,(fun aa ww hb he hd=>za rfl (zaD (cells:=#[.int .i64 (n:Int),.slice none 0 0]) rfl hd.1 vk)),uC⟩
 intro vs w2 hb hR;have r12:=hR 1 jd;clear hR;refine vs0 ?_;rw[r12];clear r12;have hx:=X2.keep hb;show wpOps _ _ _ [2,3] _ _;refine zb rfl rfl (zC (vs:=[.int .i64 (n:Int),.slice none 0 0]) (off:=0) rfl rfl vk rfl rfl rfl hx vj6 (fun j _ _ x=>zD rfl j x) ?_);intro w9 kn hg hs hb9;have HX9:=vh (show Blk w9 g2 91 #[.int .i64 (n:Int),.slice none 0 0] from hb9);have HB9:=vh (show Below w.heap.size w w9 from(HB1.trans (hb.mono HB1.size)).grown hg (ud HB1.size hb.size) (fun k e=>by cases e;exact G2.out));clear kn hg hs hb9 hx hb;refine zb rfl rfl (zl 3 (.const (.int .i64 0)) rfl rfl (.int .i64 0) rfl ?_);refine vs1 ?_;unfold wpOps;go_wp2_with fail;refine bodyPost_ret (v:= .tuple #[.agg #[.int .i64 (n:Int),.slice none 0 0],.int .i64 0]) (yS Tryz.results47 _ _ _ _ _ (0,0) _ rfl HX9.out Tryz.underlying91 rfl rfl) rfl ?_;exact⟨rfl,HB9.out⟩
theorem zfK (v:Value) (rs:List (List Int)) (w:World) (h:RowsV w v rs):Calls Tryz.prog 85 #[v,.func (.func 86) #[] #[]] w (IsSo w rs):=by
 obtain⟨A,c,rfl,hnc,-,hn5⟩:=h.form;obtain⟨n,hn⟩:∃x,x=rs.length:=⟨_,rfl⟩;rw[←hn] at h hn5 hnc ⊢;have HR:=vh h;have HN:=vh hn;clear h hn;go_enter Tryz.func85,Tryz.ntmps85;go_wp2_with fail;go_loopg [5] n (fun g iv wr=>∃i:Nat,(iv = .int .i64 ((i:Int) - 1))∧i≤n∧i≤g∧Hid ((∀j,i≤j→j<n→0<j→∀x y,rs[j]? = some x→rs[j - 1]? = some y→¬zH x y<0)∧Below w.heap.size w wr));case atStart=>exact⟨n,rfl,ug _,ug _,vh ⟨fun j h1 h2=>by omega,ue _ _⟩⟩
 case round=>
  obtain⟨i,rfl,hin,hig,HJ⟩:=hrel;by_cases hi:2≤i
  ·have i1:((i:Int) - 1>0):=jo;obtain⟨k,hk⟩:=vx (i - 1);obtain⟨k9,hk9⟩:∃k,k=i - 2:=⟨_,rfl⟩;have ek:((i:Int) - 1)=(k:Int):=jo;rw[ek] at i1 ⊢;have hkk:k9+1=k:=jo;have hki:k+1=i:=jo;clear hk hk9 ek;obtain⟨x1,hx1⟩:∃x,rs[k]? = some x:=⟨_,uf zld⟩;obtain⟨x0,hx0⟩:∃x,rs[k9]? = some x:=⟨_,uf zld⟩;obtain⟨ad,cs1,rfl,-,hco1,hrc1⟩:=HR.atA hx1;obtain⟨ad',cs0,e0,-,hco0,hrc0⟩:=HR.atA hx0;injection e0 with e0;subst e0;obtain⟨u1,rfl,hu1⟩:=hrc1;obtain⟨u0,rfl,hu0⟩:=hrc0;obtain⟨A1,n1,c1,rfl,-,-,hX1⟩:=hu1.x;obtain⟨A0,n0,c0,rfl,-,-,hX0⟩:=hu0.x;have HC1:=vh (hco1 0 _ rfl);have HC0:=vh (hco0 0 _ rfl);have HX1:=vh hX1;have HX0:=vh hX0;have HX:=vh (uh hx1 hx0);clear hco1 hco0 hu1 hu0 hX1 hX0 hx1 hx0;obtain⟨z,hz⟩:=vx (zH x1 x0);have HZ:=vh hz;clear hz;obtain⟨tb,htb⟩:∃b,b=decide (z<0):=⟨_,rfl⟩;have HTb:=vh htb;clear htb;go_upto_region 4 with (fail);refine wp_region_each (kss:=[[],[],[],[(1,14),(2,15)],[(3,16)],[],[],[(6,19)],[(5,18),(7,20)],[(8,21)],[(0,13),(4,17),(9,22)],[(10,23)]]) [(1,.func (.func 86) #[] #[]),(0,.slice ((some ad)) n c),(5,.int .i64 ((k:Int)))] [EV (.func (.func 86) #[] #[]),EV (.slice ((some ad)) n c),EV (.int .i64 ((k:Int))),EV (.pointer (some (Addr.add ad (k*1)))),EV (.slice A1 n1 c1),EV (.slice ((some ad)) n c),EV (.int .i64 ((k:Int))),EV (.int .i64 ((k9:Int))),EV (.pointer (some (Addr.add ad (k9*1)))),EV (.slice A0 n0 c0),EV (.int .i64 z),EV (.bool tb)] vk vk vt ?_ ?_ ?_
   ·exact js
   ·exact⟨vi0,vi1,vi4,(fun aa ww hb he hd=>za rfl (zm (e:=87) (s:=1) (k:=k) rfl vk jo hd.1 hd.2.1)),(fun aa ww hb he hd=>za rfl (zd rfl vk hd.1 (by have hh:=HC1.out;rw[Addr.add_zero9] at hh;exact((HJ.2.trans (hb.mono HJ.2.size)).cell (zh hh)).trans hh))),vi1,vi4,(fun aa ww hb he hd=>za rfl (Zh k 1 k9 rfl hd.1 rfl hkk jo)),(fun aa ww hb he hd=>za rfl (zm (e:=87) (s:=1) (k:=k9) rfl vk jo hd.1 hd.2.1)),(fun aa ww hb he hd=>za rfl (zd rfl vk hd.1 (by have hh:=HC0.out;rw[Addr.add_zero9] at hh;exact((HJ.2.trans (hb.mono HJ.2.size)).cell (zh hh)).trans hh))),(fun aa ww hb he hd=>za rfl (by rw[HZ];exact zdS 86 _ _ _ _ rfl hd.1 vk hd.2.1 hd.2.2.1 (zU (zaA n1 n0 c1 c0 A1 A0 x1 x0 ww (HX1.new (HJ.2.trans (hb.mono HJ.2.size))) (HX0.new (HJ.2.trans (hb.mono HJ.2.size))))))),(fun aa ww hb he hd=>za rfl (by rw[HTb];exact zkt rfl hd.1)),uC⟩
   intro vs w2 hb hR;refine zpP ?_;clear hR;have HB2:=vh (ze HJ.2 hb HJ.2.size);cases tb with
   |true=>
    clear hb HJ;go_wp2_with fail;go_ret;exact⟨false,rfl,fun h=>(by cases h),HB2.out⟩
   |false=>
    have hz0:¬z<0:=fun h=>by have:=HTb.out;simp[h] at this
    have HK:=vh (show (∀j,k≤j→j<n→0<j→∀x y,rs[j]? = some x→rs[j - 1]? = some y→¬zH x y<0)∧Below w.heap.size w w2 from⟨fun j h1 h2 h3 x y h4 h5=>by
     by_cases e:j=k
     ·subst e;rw[show j - 1=k9 by omega] at h5;rw[HX.1] at h4;rw[HX.2] at h5;injection h4 with h4;injection h5 with h5;subst h4;subst h5;rw[←HZ];exact hz0
     ·exact HJ.1 j jo h2 h3 x y h4 h5,HB2.out⟩)
    clear hb HJ hz0 HTb HZ HX HC1 HC0 HX1 HX0 HB2;go_wp2_with fail;go_roundg k;case measure=>omega
    case rel=>exact⟨k,rfl,jo,ug _,HK⟩
  ·have i1:¬((i:Int) - 1>0):=jo;have HS:=vh (zku HN.out (fun j h2 h3=>HJ.1 j jo h2 h3));have HB:=vh HJ.2;clear HJ;go_wp2_with fail;go_ret;exact⟨true,rfl,fun _=>HS.out,HB.out⟩
def zr5 (B:Nat) (ar:Nat) (w:World) (rs:List (List Int)) (e:Ending) (w':World):Prop:=
 ∃(r:Value) (zs:List (List Int)),e = .returned (.tuple #[.agg #[.int .i64 (ar:Int),r],.int .i64 0])∧RowsV w' r zs∧Below B w w'∧(zs.Pairwise fun x y=>zH x y<0)∧(∀x,x∈zs↔x∈rs)∧zs.length≤rs.length
theorem zmm {l:List S} {x:S} (h:l[i]? = some x):l.set i x=l:=by
 apply List.ext_getElem?;intro j;by_cases e:i=j
 ·subst e;rw[List.getElem?_set_self (List.getElem?_eq_some_iff.1 h).1,h]
 ·rw[List.getElem?_set_ne e]
theorem zeY (ar:Nat) (v:Value) (rs:List (List Int)) (w:World) (h:OwnL 87 1 RowC w B v rs) (hB:B≤w.heap.size) (hn:rs.length≤60000):Calls Tryz.prog 49 #[.int .i64 (ar:Int),v] w (zr5 B ar w rs):=by
 have HO:=vh h;have HN6:=vh hn;clear h;go_enter Tryz.func49,Tryz.ntmps49;go_upto_region 1 with (fail);obtain⟨w1,hw0⟩:∃x,x=w.alloc (.cells #[.int .i64 0,.slice none 0 0] 91):=⟨_,rfl⟩;rw[←hw0];have hs0:w1.heap.size=w.heap.size+1:=by rw[hw0];simp
 have ha0:Below w.heap.size w w1:=by rw[hw0];exact al _ _
 obtain⟨g4,hg0⟩:∃g,g=w.heap.size:=⟨_,rfl⟩;have hx0:Blk w1 g4 91 #[.int .i64 0,.slice none 0 0]:=by rw[hw0,hg0];exact Blk.new _ _ _
 rw[←hg0];have X4:=vh hx0;have G4:=vh (show w.heap.size≤g4 by omega);have HB1:=vh (show Below w.heap.size w w1 from ha0);clear hw0 hs0 ha0 hg0 hx0;have HO1:=vh (HO.below HB1.out (fun _ _ h=>h.below HB1.out));have hn5:rs.length≤5000000:=by have:=HN6.out;omega
 go_wp2_with fail;refine(zfK v rs w1 (HO1.sls hn5)).mono ?_;rintro e w2 ⟨b,rfl,hb1,hb⟩;have HO2:=vh (HO1.below hb vj5);have HB2:=vh (ze HB1.out hb HB1.size);have X2:=vh (X4.keep hb);have HSo:=vh hb1;clear hb hb1 HO1 X4;cases b with
 |true=>
  have hso:=HSo.out rfl;have HSo2:=vh hso;clear hso HSo;go_wp2_with fail;have hyl:rs.length≤60000:=ud (Nat.le_of_eq (List.Perm.refl rs).length_eq) HN6.out;refine(QA.compRows_any HO2.out (ud hB (HB2.mono hB).size) jo).mono ?_;rintro e w5 ⟨r,rfl,ho5,hb5,kd5⟩;have hmem:∀x,x∈ddS rs↔x∈rs:=fun x=>ddS_mem.trans (List.Perm.refl rs).mem_iff;have hpw:=ZQ id (fun x y h=>Zi x y h) (l:=rs) (HSo2.out);have hdl:(ddS rs).length≤rs.length:=ud (zbk _) (Nat.le_of_eq (List.Perm.refl rs).length_eq);obtain⟨zs,hzs⟩:∃z,z=ddS rs:=⟨_,rfl⟩;rw[←hzs] at ho5 hmem hpw hdl;clear hzs;have HZ:=vh (uh hmem (uh hpw hdl));have HW5:=vh (show Below B w w5 from(HB2.mono hB).trans hb5);have X5:=vh (show Blk w5 g4 91 #[.int .i64 0,.slice none 0 0] from kd5.b 91 vz _ _ X2.out);have HO5:=vh ho5;clear hmem hpw hb5 kd5 ho5;exact vt4
 |false=>
  clear HSo;go_wp2_with fail;refine(zfH HO2.out hn5).mono ?_;rintro e w3 ⟨rfl,ys,ho3,hp3,hs3,hg3,kn3⟩;have HO3:=vh ho3;have HP3:=vh (uh hp3 hs3);have hx3:Blk w3 g4 91 #[.int .i64 0,.slice none 0 0]:=X2.grown hg3 (fun e=>yg (Classical.choose_spec HO2.out).2.1.own X2.out jd e.symm);have HB3:=vh (show Below B w w3 from Below.appended (HB2.mono hB) (Classical.choose_spec HO2.out).2.1.own hg3 (ud hB HB2.size) (ug _));have X3:=vh hx3;clear ho3 hp3 hs3 hg3 kn3 hx3 HO2 HB2 X2;go_wp2_with fail;have hyl:ys.length≤60000:=ud (Nat.le_of_eq (HP3.1).length_eq) HN6.out;refine(QA.compRows_any HO3.out (ud hB HB3.size) jo).mono ?_;rintro e w5 ⟨r,rfl,ho5,hb5,kd5⟩;have hmem:∀x,x∈ddS ys↔x∈rs:=fun x=>ddS_mem.trans (HP3.1).mem_iff;have hpw:=ZQ id (fun x y h=>Zi x y h) (l:=ys) (HP3.2);have hdl:(ddS ys).length≤rs.length:=ud (zbk _) (Nat.le_of_eq (HP3.1).length_eq);obtain⟨zs,hzs⟩:∃z,z=ddS ys:=⟨_,rfl⟩;rw[←hzs] at ho5 hmem hpw hdl;clear hzs;have HZ:=vh (uh hmem (uh hpw hdl));have HW5:=vh (show Below B w w5 from HB3.trans hb5);have X5:=vh (show Blk w5 g4 91 #[.int .i64 0,.slice none 0 0] from kd5.b 91 vz _ _ X3.out);have HO5:=vh ho5;clear hmem hpw hb5 kd5 ho5;exact vt4
open Go.RowKit Go.Lib Go.Sort
theorem zgM {v:Value} {xs:List (List Nat)} (h:OwnL 26 1 InC w B v xs) (hn:xs.length≤5000000):Calls Tryz.prog 230 #[v,.func (.func 231) #[] #[]] w (zqq 26 InC zu B w v xs):=by
 rcases Nat.eq_zero_or_pos xs.length with h0 | h0
 ·obtain⟨cl,h1,h2,h3⟩:=id h;obtain⟨A,c,rfl⟩:=zF h2.own;have hx:xs=[]:=uo h0;subst hx;have hp:=fun lim=>AnyF.pdqsortCmpFunc_none (P:=Tryz.prog) (ρ:=Tryz.pdqWhy_ren) {Tryz.pdqWhy with} A c lim (.func (.func 231) #[] #[]) w;have hl:=Tryz.bits_Len 0 w jo jo;have HO:=vh h;clear h h1 h2 h3;change ∀lim,Calls Tryz.prog 237 _ _ _ at hp;go_enter Tryz.func230,Tryz.ntmps230;go_wp2_with fail;refine hl.mono ?_;rintro e w' ⟨rfl,rfl⟩;go_wp2_with fail;refine(hp _).mono ?_;rintro e w' ⟨rfl,rfl⟩;go_wp2_with fail;go_end0;exact⟨rfl,[],HO.out,List.Perm.refl _,List.Pairwise.nil,World.grownBy.refl _ _,KeepsN.refl _⟩
 ·obtain⟨g,cap,enc,rfl,hlt,hok,hH,hW⟩:=zgG (T:=[3,87,89]) h h0 rfl (fun _ _ _ _ h kd=>h.kd9 kd) (fun _ _ _ ⟨u,e,A,n,c,e2,_⟩=>by rw[e,e2];rfl);have hp:=fun lim (hlim:lim<4611686018427387904)=>Any.pdqsortCmpFunc_all (P:=Tryz.prog) (ρ:=Tryz.pdqWhy_ren) Tryz.pdqWhy enc (fun x y:Nat=>zH (zu (xs[x % xs.length]'(Nat.mod_lt _ h0))) (zu (xs[y % xs.length]'(Nat.mod_lt _ h0)))) 231 #[] (zdb fun x:Nat=>zu (xs[x % xs.length]'(Nat.mod_lt _ h0))) g 0 cap (List.range xs.length).toArray w (fun args w=>Yq vk args)
   (zfE fun m os dk hs x y=>by
    obtain⟨-,-,hr,-⟩:=hW m os dk (by simpa using hs)
    obtain⟨u,e1,hu⟩:=hr x
    obtain⟨u2,e2,hu2⟩:=hr y
    injection e1 with e1
    injection e2 with e2
    obtain⟨A1,n1,c1,e3,hnc1,hm1,hX1⟩:=hu.x
    obtain⟨A2,n2,c2,e4,hnc2,hm2,hX2⟩:=hu2.x
    rw[e1,e2,e3,e4]
    refine(zfI A1 A2 _ _ n1 n2 c1 c2 _ hX1 hX2).mono ?_
    rintro e w' ⟨rfl,rfl⟩
    exact⟨by rw[zgI],BelowD.refl _ _⟩) ⟨fun x=>YP (hok x),hH,hlt⟩ ((List.range xs.length).toArray.size+1) 0 (List.range xs.length).toArray.size lim (List.range xs.length).toArray w jo rfl (SW.start hH) (Nat.zero_le _) (ug _) vj2 hlim (Or.inl rfl)
  simp only[List.size_toArray,List.length_range] at hp;change ∀lim,lim<4611686018427387904→Calls Tryz.prog 237 _ _ _ at hp;have hl:=Tryz.bits_Len (xs.length:Int) w jo jo;rw[Int.toNat_natCast] at hl;have hlim:Lib.bitLen xs.length<4611686018427387904:=uw (Lib.bitLen_le xs.length 62 jo jo) jo;have HP:=vh (hp _ hlim);have HW:=vh hW;have HN:=vh hn;have HS:=vh (pdq_sorts (ltOf fun x y:Nat=>zH (zu (xs[x % xs.length]'(Nat.mod_lt _ h0))) (zu (xs[y % xs.length]'(Nat.mod_lt _ h0)))) (zdb fun x:Nat=>zu (xs[x % xs.length]'(Nat.mod_lt _ h0))) (List.range xs.length).toArray 0 xs.length (Lib.bitLen xs.length) true true (Nat.zero_le _) vz (Or.inl rfl));have wr:IntKind.u64.wrap (xs.length:Int)=xs.length:=by simp[IntKind.wrap,IntKind.bits,IntKind.signed];omega
  clear hp hW hH hok h hn hlim;obtain⟨n,hnn⟩:=vx (xs.length);have HNn:=vh hnn;obtain⟨bl,hbl⟩:∃b,b=Lib.bitLen xs.length:=⟨_,rfl⟩;rw[←hbl] at HP HS hl;obtain⟨D,hD⟩:=vx (pdq (ltOf fun x y:Nat=>zH (zu (xs[x % xs.length]'(Nat.mod_lt _ h0))) (zu (xs[y % xs.length]'(Nat.mod_lt _ h0)))) (List.range xs.length).toArray 0 xs.length bl true true);rw[←hD] at HP HS;clear hD hbl;rw[←hnn] at hl wr HP ⊢;clear hnn;go_enter Tryz.func230,Tryz.ntmps230;go_wp2_with fail;refine hl.mono ?_;rintro e w' ⟨rfl,rfl⟩;go_wp2_with fail;refine(HP.out).mono ?_;rintro e w' ⟨rfl,m,os,rfl⟩;go_wp2_with fail;go_end0;obtain⟨hp1,hs1⟩:=HS.out;have hsn:=hp1.1;simp only[List.size_toArray,List.length_range] at hsn;obtain⟨hg,kn,-,ho⟩:=HW.out m os _ hsn;obtain⟨q1,q2⟩:=zeQ zu h0 hp1 hs1;refine⟨rfl,_,?_,q1,q2,hg,kn⟩;rw[HNn];exact ho
end Go.Proofs.YtoecdobelolkeaaGreatDoor
