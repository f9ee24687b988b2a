/- Part of TopSemirings. -/
import Derived.Test.YtoecdobelolkeaaGreatDoorK11
set_option linter.unusedVariables false
set_option linter.unusedSimpArgs false
set_option maxRecDepth 100000
namespace Go.Proofs.YtoecdobelolkeaaGreatDoor
variable {d l k i s p g t j k' p' n e':Nat} {rs:List (List Int)} {q:List Int} {c key:Int} {w w':World} {A:Option Addr} {cs:Array Value} {y:Operand} {u:Value} {o:Oper} {a:Act} {T e:TypeId}
structure RsOk (d:Nat) (rs:List (List Int)):Prop where
 len:∀r∈rs,r.length=d
 val:∀r∈rs,∀x∈r,0≤x∧x≤3
 asc:rs.Pairwise fun x y=>zH x y<0
theorem RsOk.take (h:RsOk d rs) (i:Nat):RsOk d (rs.take i):=
 ⟨fun r hr=>h.len r (List.mem_of_mem_take hr),fun r hr=>h.val r (List.mem_of_mem_take hr),h.asc.sublist (List.take_sublist _ _)⟩
def chT (rs:List (List Int)) (q:List Int):List Int:=([0,1,2,3]:List Int).filter fun c=>rs.any fun r=>decide (r.take (q.length+1)=q++[c])
def zT (rs:List (List Int)) (l:Nat):List (List Int):=ddS (rs.map (·.take l))
theorem mem_preT:q∈zT rs l↔∃r∈rs,r.take l=q:=by
 unfold zT;rw[ddS_mem,List.mem_map]
theorem zbl (h:RsOk d rs) (hq:q.length<d):c∈chT rs q↔∃r∈rs,r.take (q.length+1)=q++[c]:=by
 unfold chT;rw[List.mem_filter,List.any_eq_true];constructor
 ·rintro⟨-,r,h1,h2⟩;exact⟨r,h1,by simpa using h2⟩
 ·rintro⟨r,h1,h2⟩;refine⟨?_,r,h1,by simpa using h2⟩;have hc:c∈r:=by
   have:c∈r.take (q.length+1):=by rw[h2];simp
   exact List.mem_of_mem_take this
  have:=h.val r h1 c hc;simp;omega
theorem zjh (rs:List (List Int)) (q:List Int):(chT rs q).Pairwise (· < ·):=
 List.Pairwise.filter _ jd
theorem zoZ (h:c∈chT rs q):0≤c∧c≤3:=by
 have:=(List.mem_filter.1 h).1;simp at this;omega
theorem zgQ:∀(q:List Int) (x y:List Int),zH (q++x) (q++y)=zH x y
 |[],_,_=>rfl
 |a :: q,x,y=>by rw[List.cons_append,List.cons_append,zH,if_pos rfl,zgQ q x y]
theorem zgR:∀ {q q':List Int},q.length=q'.length→zH q q'<0→∀x y:List Int,zH (q++x) (q'++y)<0
 |[],[],_,h,_,_=>by simp[zH] at h
 |[],_ :: _,hl,_,_,_=>by simp at hl
 |_ :: _,[],hl,_,_,_=>by simp at hl
 |a :: q,b :: q',hl,h,x,y=>by
  rw[List.cons_append,List.cons_append,zH]
  rw[zH] at h
  by_cases e:a=b
  ·rw[if_pos e] at h ⊢;exact zgR (by simpa using hl) h x y
  ·rw[if_neg e] at h ⊢;exact h
theorem ze1:∀(l:Nat) (x y:List Int),zH x y≤0→zH (x.take l) (y.take l)≤0
 |0,_,_,_=>by simp[zH]
 |l+1,[],[],_=>by simp[zH]
 |l+1,[],_ :: _,_=>by simp[zH]
 |l+1,_ :: _,[],h=>by simp[zH] at h
 |l+1,a :: x,b :: y,h=>by
  rw[List.take_succ_cons,List.take_succ_cons,zH]
  rw[zH] at h
  by_cases e:a=b
  ·rw[if_pos e] at h ⊢;exact ze1 l x y h
  ·rw[if_neg e] at h ⊢;exact h
theorem zdX (h:RsOk d rs) (l:Nat):(zT rs l).Pairwise fun x y=>zH x y<0:=by
 refine ZQ id Zi (List.pairwise_map.2 ?_);refine h.asc.imp fun {x y} hxy=>?_;exact ze1 l x y (Int.le_of_lt hxy)
theorem za5 (x:List Int):¬zH x x<0:=by rw[ZJ];omega
theorem ZR (h:RsOk d rs) (l:Nat):(zT rs l).Nodup:=
 List.Pairwise.imp (R:=fun x y=>zH x y<0) (S:=(·≠·)) (fun {x y} hxy e=>za5 x (by rw[←e] at hxy;exact hxy)) (zdX h l)
theorem zfQ:∀ {l m:List (List Int)},(l.Pairwise fun x y=>zH x y<0)→(m.Pairwise fun x y=>zH x y<0)→(∀v,v∈l↔v∈m)→l=m
 |[],[],_,_,_=>rfl
 |[],b :: m,_,_,h=>absurd ((h b).2 vz) vz
 |a :: l,[],_,_,h=>absurd ((h a).1 vz) vz
 |a :: l,b :: m,hl,hm,h=>by
  rw[List.pairwise_cons] at hl hm
  have hne:∀x y:List Int,zH x y<0→zH y x<0→False:=fun x y h1 h2=>by rw[Zp x y] at h2;omega
  have e:a=b:=by
   rcases List.mem_cons.1 ((h a).1 vz) with h1 | h1
   ·exact h1
   ·rcases List.mem_cons.1 ((h b).2 vz) with h2 | h2
    ·exact h2.symm
    ·exact(hne _ _ (hl.1 b h2) (hm.1 a h1)).elim
  subst e
  rw[zfQ hl.2 hm.2 fun v=>⟨fun hv=>?_,fun hv=>?_⟩]
  ·rcases List.mem_cons.1 ((h v).1 (uq _ hv)) with h1 | h1
   ·subst h1;exact(za5 _ (hl.1 v hv)).elim
   ·exact h1
  ·rcases List.mem_cons.1 ((h v).2 (uq _ hv)) with h1 | h1
   ·subst h1;exact(za5 _ (hm.1 v hv)).elim
   ·exact h1
theorem ZS (h:RsOk d rs) (hl:l≤d) (hq:q∈zT rs l):q.length=l:=by
 obtain⟨r,h1,rfl⟩:=mem_preT.1 hq;rw[List.length_take,h.len r h1];omega
theorem zcy (h:RsOk d rs) (hl:l<d):zT rs (l+1)=(zT rs l).flatMap fun q=>(chT rs q).map fun c=>q++[c]:=by
 refine zfQ (zdX h _) ?_ fun v=>?_
 ·rw[List.pairwise_flatMap];refine⟨fun q hq=>?_,(zdX h l).imp_of_mem fun {q q'} hq hq' hlt x hx y hy=>?_⟩
  ·rw[List.pairwise_map];refine(zjh rs q).imp fun {a b} hab=>?_;rw[zgQ,zH,if_neg jo];unfold yr;rw[if_pos hab];omega
  ·obtain⟨a,-,rfl⟩:=List.mem_map.1 hx;obtain⟨b,-,rfl⟩:=List.mem_map.1 hy;exact zgR (by rw[ZS h jo hq,ZS h jo hq']) hlt _ _
 ·rw[List.mem_flatMap];constructor
  ·intro hv;obtain⟨r,h1,h2⟩:=mem_preT.1 hv;have hr:=h.len r h1;have hql:(r.take l).length=l:=by rw[List.length_take];omega
   have e:r.take (l+1)=r.take l++[zv r l]:=by rw[List.take_add_one,uf jo,Yn jo];rfl
   refine⟨r.take l,mem_preT.2 ⟨r,h1,rfl⟩,List.mem_map.2 ⟨zv r l,(zbl h jo).2 ⟨r,h1,?_⟩,?_⟩⟩
   ·rw[hql];exact e
   ·rw[←h2,e]
  ·rintro⟨q,hq,hm⟩;obtain⟨c,hc,rfl⟩:=List.mem_map.1 hm;have hql:=ZS h jo hq;obtain⟨r,h1,h2⟩:=(zbl h jo).1 hc;rw[hql] at h2;exact mem_preT.2 ⟨r,h1,h2⟩
def za6 (rs:List (List Int)) (l p:Nat):Nat:=(((zT rs l).take p).flatMap fun q=>(chT rs q).map fun c=>q++[c]).length
theorem zkv (rs:List (List Int)) (l:Nat):za6 rs l 0=0:=by simp[za6]
theorem ze2 (hp:(zT rs l)[p]? = some q):za6 rs l (p+1)=za6 rs l p+(chT rs q).length:=by
 unfold za6;rw[List.take_add_one,hp,List.flatMap_append,ul];simp
theorem zgS (h:RsOk d rs) (hl:l<d):za6 rs l (zT rs l).length=(zT rs (l+1)).length:=by
 unfold za6;rw[List.take_length,zcy h hl]
theorem zbJ (h:RsOk d rs) (hl:l<d) (hp:(zT rs l)[p]? = some q) (hk:(chT rs q)[k]? = some c):(zT rs (l+1))[za6 rs l p+k]? = some (q++[c]):=by
 obtain⟨h1,h2⟩:=List.getElem?_eq_some_iff.1 hp;have e:zT rs l=(zT rs l).take p++q :: (zT rs l).drop (p+1):=by
  conv=>lhs;rw[←List.take_append_drop p (zT rs l),List.drop_eq_getElem_cons h1,h2]
 have hkl:k<(chT rs q).length:=(List.getElem?_eq_some_iff.1 hk).1;rw[zcy h hl];conv=>lhs;rw[e]
 rw[List.flatMap_append,List.getElem?_append_right (by unfold za6;omega),List.flatMap_cons,show za6 rs l p+k - (((zT rs l).take p).flatMap fun q=>(chT rs q).map fun c=>q++[c]).length=k by unfold za6;omega,List.getElem?_append_left (by simpa using hkl),uz,hk];rfl
def zca (rs:List (List Int)) (q:List Int):Nat:=(zT rs q.length).idxOf q
theorem zbm (h:RsOk d rs) (hq:q∈zT rs q.length):(zT rs q.length)[zca rs q]? = some q:=by
 unfold zca;rw[uf (List.idxOf_lt_length_of_mem hq),List.getElem_idxOf]
theorem zfR (hq:q∈zT rs q.length):zca rs q<(zT rs q.length).length:=List.idxOf_lt_length_of_mem hq
def stR (rs:List (List Int)) (q:List Int):Nat:=za6 rs q.length (zca rs q)
theorem zbK (h:RsOk d rs) (hl:q.length<d) (hq:q∈zT rs q.length) (hk:(chT rs q)[k]? = some c):zca rs (q++[c])=stR rs q+k:=by
 have h1:=zbJ h hl (zbm h hq) hk;have h2:q++[c]∈zT rs (q++[c]).length:=by rw[ul];exact ui h1
 have h3:=zbm h h2;have e:(q++[c]).length=q.length+1:=vz;rw[e] at h3;have hn:=ZR h (q.length+1);obtain⟨a1,a2⟩:=List.getElem?_eq_some_iff.1 h1;obtain⟨b1,b2⟩:=List.getElem?_eq_some_iff.1 h3;exact(List.getElem_inj hn).1 (b2.trans a2.symm)
def Yc (rs:List (List Int)) (l:Nat):List Int:=(zT rs (l+1)).map fun q=>zv q l
theorem za7 (rs:List (List Int)) (l:Nat):(Yc rs l).length=(zT rs (l+1)).length:=by simp[Yc]
theorem zo0 (h:RsOk d rs) (hl:q.length<d) (hq:q∈zT rs q.length) (hk:(chT rs q)[k]? = some c):(Yc rs q.length)[stR rs q+k]? = some c:=by
 unfold Yc;rw[uz];have h1:=zbJ h hl (zbm h hq) hk;unfold stR;rw[h1];simp[zv,List.getD]
theorem zkw (h:RsOk d rs) (hl:q.length<d) (hc:c∈chT rs q):q++[c]∈zT rs (q++[c]).length:=by
 obtain⟨r,h1,h2⟩:=(zbl h hl).1 hc;rw[ul];exact mem_preT.2 ⟨r,h1,h2⟩
theorem zfS (h:RsOk d rs) (hl:q.length<d) (hq:q∈zT rs q.length):0<(chT rs q).length:=by
 obtain⟨r,h1,h2⟩:=mem_preT.1 hq;have hr:=h.len r h1;have:zv r q.length∈chT rs q:=(zbl h hl).2 ⟨r,h1,by rw[List.take_add_one,uf jo,Yn jo,h2];rfl⟩;exact List.length_pos_of_mem this
theorem zmp (h:RsOk d rs) (hl:q.length<d) (hq:q∈zT rs q.length):stR rs q+(chT rs q).length≤(zT rs (q.length+1)).length:=by
 have h1:=zbm h hq;have h2:=zfS h hl hq;obtain⟨c,hc⟩:∃c,(chT rs q)[(chT rs q).length - 1]? = some c:=⟨_,uf jo⟩;obtain⟨h3,-⟩:=List.getElem?_eq_some_iff.1 (zbJ h hl h1 hc);unfold stR;omega
def YT (d:Nat) (rs:List (List Int)) (l:Nat):List Nat:=(zT rs (l+1)).map fun q=>if l+1<d then (zT rs (l+2)).findIdx (fun q'=>decide (q'.take (l+1)=q)) else 0
theorem zav (d:Nat) (rs:List (List Int)) (l:Nat):(YT d rs l).length=(zT rs (l+1)).length:=by simp[YT]
theorem zo1 (h:RsOk d rs) (hl:l+1<d) (hp:p<(zT rs (l+1)).length):(YT d rs l)[p]? = some (za6 rs (l+1) p):=by
 unfold YT;rw[uz,uf hp];simp only[Option.map_some,hl,↓reduceIte];congr 1;obtain⟨q,hq⟩:=vx ((zT rs (l+1))[p]);rw[←hq];have hpq:(zT rs (l+1))[p]? = some q:=by rw[hq];exact uf hp
 have hqm:=ui hpq;have hql:=ZS h jo hqm;have e:zT rs (l+1)=(zT rs (l+1)).take p++q :: (zT rs (l+1)).drop (p+1):=by
  conv=>lhs;rw[←List.take_append_drop p (zT rs (l+1)),List.drop_eq_getElem_cons hp,←hq]
 have hn:=ZR h (l+1);rw[e,List.nodup_append] at hn;rw[zcy h hl];have e2:(zT rs (l+1)).flatMap (fun q=>(chT rs q).map fun c=>q++[c])=(((zT rs (l+1)).take p).flatMap fun q=>(chT rs q).map fun c=>q++[c])++((chT rs q).map (fun c=>q++[c])++((zT rs (l+1)).drop (p+1)).flatMap fun q=>(chT rs q).map fun c=>q++[c]):=by
  conv=>lhs;rw[e]
  rw[List.flatMap_append,List.flatMap_cons]
 rw[e2,List.findIdx_append];have h0:(((zT rs (l+1)).take p).flatMap fun q=>(chT rs q).map fun c=>q++[c]).findIdx (fun q'=>decide (q'.take (l+1)=q))=(((zT rs (l+1)).take p).flatMap fun q=>(chT rs q).map fun c=>q++[c]).length:=by
  rw[List.findIdx_eq_length];intro x hx;obtain⟨q',h1,h2⟩:=List.mem_flatMap.1 hx;obtain⟨c,-,rfl⟩:=List.mem_map.1 h2;have hl':=ZS h jo (List.mem_of_mem_take h1);rw[←hl',List.take_left];refine decide_eq_false fun e=>hn.2.2 q' h1 q vz e
 rw[h0,if_neg (Nat.lt_irrefl _)];obtain⟨c,hc⟩:∃c,(chT rs q)[0]? = some c:=⟨_,uf (zfS h jo (by rw[hql];exact hqm))⟩;have h3:((chT rs q).map (fun c=>q++[c])++((zT rs (l+1)).drop (p+1)).flatMap fun q=>(chT rs q).map fun c=>q++[c]).findIdx (fun q'=>decide (q'.take (l+1)=q))=0:=by
  cases hch:chT rs q with
  |nil=>rw[hch] at hc;simp at hc
  |cons a m=>
   rw[List.map_cons,List.cons_append,List.findIdx_cons];have:decide ((q++[a]).take (l+1)=q)=true:=by rw[←hql,List.take_left];simp
   rw[this];rfl
 rw[h3];simp[za6]
def Sh (last y:List Int) (n:Nat):Prop:=n≤last.length∧(∀j,j<n→zv last j=zv y j)∧(n<last.length→zv last n≠zv y n)
theorem zo2 {x y:List Int} (hx:l≤x.length) (hy:l≤y.length):x.take l=y.take l↔∀j,j<l→zv x j=zv y j:=by
 constructor
 ·intro h j hj;have h1:(x.take l)[j]? = (y.take l)[j]?:=by rw[h]
  rw[List.getElem?_take_of_lt hj,List.getElem?_take_of_lt hj,uf jo,uf jo] at h1;injection h1 with h1;rw[Yn jo,Yn jo,h1]
 ·intro h;refine List.ext_getElem vj2 fun j h1 h2=>?_;have hj:j<l:=by simp at h1;omega
  have:=h j hj;rw[Yn jo,Yn jo] at this;rw[List.getElem_take,List.getElem_take,this]
def Yl (rs:List (List Int)) (i:Nat):List Int:=if 0<i then rs.getD (i - 1) [] else []
section
variable {d i n : Nat} {rs : List (List Int)} {x : List Int}
theorem zgT (h:0<i) (hi:i≤rs.length):rs[i - 1]? = some (Yl rs i):=by
 unfold Yl;rw[if_pos h,List.getD_eq_getElem?_getD,uf jo];rfl
theorem zaw (h:RsOk d rs) (hx:rs[i]? = some x) (hs:Sh (Yl rs i) x n) (hl:l<d):zT (rs.take (i+1)) (l+1)=if l<n then zT (rs.take i) (l+1) else zT (rs.take i) (l+1)++[x.take (l+1)]:=by
 have hi:=(List.getElem?_eq_some_iff.1 hx).1;have hxl:=h.len x (ui hx);unfold zT;rw[←yX hx,List.map_append,List.map_singleton,Zq,zb9];by_cases h0:0<i
 ·have hla:=zgT h0 (uA hi);have hll:=h.len _ (ui hla);have h1:((rs.take i).map (·.take (l+1))).getLast? = some ((Yl rs i).take (l+1)):=by
   obtain⟨i',rfl⟩:∃i',i=i'+1:=⟨i - 1,jo⟩;rw[←yX (k:=i') hla,List.map_append,List.map_singleton,List.getLast?_append];rfl
  rw[h1];have he:(Yl rs i).take (l+1)=x.take (l+1)↔l<n:=by
   rw[zo2 jo jo];constructor
   ·intro h2;rcases Nat.lt_or_ge l n with h3 | h3
    ·exact h3
    ·exact(hs.2.2 jo (h2 n jo)).elim
   ·intro h2 j hj;exact hs.2.1 j jo
  by_cases h2:l<n
  ·rw[if_pos h2,if_pos (by rw[he.2 h2])]
  ·rw[if_neg h2,if_neg (fun e=>h2 (he.1 (by injection e)))]
 ·have e0:i=0:=jo;subst e0;have hn:n=0:=by have:=hs.1;simp[Yl] at this;exact this
  subst hn;rw[if_neg (Nat.not_lt_zero _),if_neg vz]
theorem zkx (h:RsOk d rs) (hx:rs[i]? = some x) (hs:Sh (Yl rs i) x n) (hl:l<d):Yc (rs.take (i+1)) l=if l<n then Yc (rs.take i) l else Yc (rs.take i) l++[zv x l]:=by
 have hxl:=h.len x (ui hx);unfold Yc;rw[zaw h hx hs hl];split
 ·rfl
 ·rw[List.map_append,List.map_singleton];congr 2;unfold zv;rw[List.getD_eq_getElem?_getD,List.getD_eq_getElem?_getD,List.getElem?_take_of_lt jo]
theorem zky (h:RsOk d rs) (hx:rs[i]? = some x) (hs:Sh (Yl rs i) x n) (hl:l<d):YT d (rs.take (i+1)) l=if l<n then YT d (rs.take i) l else YT d (rs.take i) l++[if l+1<d then (zT (rs.take i) (l+2)).length else 0]:=by
 have hxl:=h.len x (ui hx);have h':=h.take i;have hold:∀q∈zT (rs.take i) (l+1),l+1<d→(zT (rs.take (i+1)) (l+2)).findIdx (fun q'=>decide (q'.take (l+1)=q))=(zT (rs.take i) (l+2)).findIdx (fun q'=>decide (q'.take (l+1)=q)):=by
  intro q hq hl1;rw[zaw h hx hs hl1];split
  ·rfl
  ·rw[List.findIdx_append,if_pos];rw[List.findIdx_lt_length];obtain⟨r,h1,h2⟩:=mem_preT.1 hq;refine⟨r.take (l+2),mem_preT.2 ⟨r,h1,rfl⟩,?_⟩;rw[List.take_take,Nat.min_eq_left jo,h2];simp
 unfold YT;rw[zaw h hx hs hl];by_cases h2:l<n
 ·rw[if_pos h2,if_pos h2];exact vt64
 ·rw[if_neg h2,if_neg h2,List.map_append,List.map_singleton];congr 1
  ·exact vt64
  ·by_cases hl1:l+1<d
   ·rw[if_pos hl1,if_pos hl1,zaw h hx hs hl1,if_neg jo,List.findIdx_append];have hnew:x.take (l+1)∉zT (rs.take i) (l+1):=by
     have hn:=ZR (h.take (i+1)) (l+1);rw[zaw h hx hs hl,if_neg h2,List.nodup_append] at hn;exact fun hm=>hn.2.2 _ hm _ vz rfl
    have h3:(zT (rs.take i) (l+2)).findIdx (fun q'=>decide (q'.take (l+1)=x.take (l+1)))=(zT (rs.take i) (l+2)).length:=by
     rw[List.findIdx_eq_length];intro q hq;obtain⟨r,h4,rfl⟩:=mem_preT.1 hq;refine decide_eq_false fun e=>hnew (mem_preT.2 ⟨r,h4,?_⟩);rw[List.take_take,Nat.min_eq_left jo] at e;exact e
    rw[h3,if_neg (Nat.lt_irrefl _),List.findIdx_cons];have:decide ((x.take (l+2)).take (l+1)=x.take (l+1))=true:=by rw[List.take_take,Nat.min_eq_left jo];simp
    rw[this];simp
   ·rw[if_neg hl1,if_neg hl1]
def zo3 (d:Nat) (rs:List (List Int)) (l:Nat):Nat:=if l<d then (zT rs (l+1)).length else 0
def zaP (d:Nat) (rs:List (List Int)) (l:Nat):List Nat:=YT d rs l++[zo3 d rs (l+1)]
theorem zmq (l:Nat):(zaP d rs l).length=(zT rs (l+1)).length+1:=by rw[zaP,ul,zav];rfl
theorem zji (h:RsOk d rs) (hl:l+1<d) (hp:p≤(zT rs (l+1)).length):(zaP d rs l)[p]? = some (za6 rs (l+1) p):=by
 unfold zaP;rcases Nat.lt_or_ge p (zT rs (l+1)).length with h1 | h1
 ·rw[List.getElem?_append_left (by rw[zav];exact h1),zo1 h hl h1]
 ·have e:p=(zT rs (l+1)).length:=jo;rw[List.getElem?_append_right (by rw[zav];omega),zav,e,Nat.sub_self,zgS h hl];unfold zo3;rw[if_pos hl];rfl
end
def zax (ats:List (List Nat×List (List Int))) (x:Nat→Nat):Prop:=∀a∈ats,ptF a.1 x∈a.2
instance (ats:List (List Nat×List (List Int))) (x:Nat→Nat):Decidable (zax ats x):=by unfold zax;infer_instance
def yA (ats:List (List Nat×List (List Int))) (n v:Nat) (x:Nat→Nat):Nat:=Ys FN.vq14 4 (List.range' v (n - v)) (fun y=>if zax ats y then 1 else 0) x
def WfA (n:Nat) (ats:List (List Nat×List (List Int))):Prop:=∀a∈ats,Vrs n a.1∧RsOk a.1.length a.2
def zaQ (a:List Nat×List (List Int)) (v:Nat):List Nat:=a.1.filter fun u=>decide (u<v)
def yO (a:List Nat×List (List Int)) (v:Nat) (x:Nat→Nat):List Int:=ptF (zaQ a v) x
theorem za8 (a:List Nat×List (List Int)) (v:Nat) (x:Nat→Nat):(yO a v x).length=(zaQ a v).length:=by simp[yO,ptF]
theorem zfT:∀ {l:List Nat} (v:Nat),l.Pairwise (· < ·)→l=(l.filter fun u=>decide (u<v))++l.filter fun u=>decide (v≤u)
 |[],_,_=>rfl
 |a :: l,v,h=>by
  rw[List.pairwise_cons] at h
  by_cases h1:a<v
  ·rw[List.filter_cons_of_pos zf5,List.filter_cons_of_neg zf5,List.cons_append,←zfT v h.2]
  ·have h2:l.filter (fun u=>decide (u<v))=[]:=by
    rw[List.filter_eq_nil_iff];intro u hu;have:=h.1 u hu;simp;omega
   have h3:l.filter (fun u=>decide (v≤u))=l:=by
    rw[List.filter_eq_self];intro u hu;have:=h.1 u hu;simp;omega
   rw[List.filter_cons_of_neg zf5,List.filter_cons_of_pos vj2,h2,h3];rfl
theorem zdY:∀ {l:List Nat} (v:Nat),l.Pairwise (· < ·)→(l.filter fun u=>decide (u<v+1))=(l.filter fun u=>decide (u<v))++if v∈l then [v] else []
 |[],_,_=>by simp
 |a :: l,v,h=>by
  rw[List.pairwise_cons] at h
  rcases Nat.lt_trichotomy a v with h1 | h1 | h1
  ·rw[List.filter_cons_of_pos vj2,List.filter_cons_of_pos zf5,zdY v h.2,List.cons_append]
   have:(v∈a :: l)↔v∈l:=by simp;omega
   simp only[this]
  ·subst h1
   have h2:l.filter (fun u=>decide (u<a))=[]:=by
    rw[List.filter_eq_nil_iff];intro u hu;have:=h.1 u hu;simp;omega
   have h3:l.filter (fun u=>decide (u<a+1))=[]:=by
    rw[List.filter_eq_nil_iff];intro u hu;have:=h.1 u hu;simp;omega
   rw[List.filter_cons_of_pos vz,List.filter_cons_of_neg vz,h2,h3];simp
  ·have h2:l.filter (fun u=>decide (u<v))=[]:=by
    rw[List.filter_eq_nil_iff];intro u hu;have:=h.1 u hu;simp;omega
   have h3:l.filter (fun u=>decide (u<v+1))=[]:=by
    rw[List.filter_eq_nil_iff];intro u hu;have:=h.1 u hu;simp;omega
   have h4:v∉a :: l:=by
    intro hm
    rcases List.mem_cons.1 hm with h5 | h5
    ·omega
    ·have:=h.1 v h5;omega
   rw[List.filter_cons_of_neg vj2,List.filter_cons_of_neg vj2,h2,h3,if_neg h4];rfl
section
variable {ats : List (List Nat × List (List Int))} {n v d : Nat} {x y : Nat → Nat} {a : List Nat × List (List Int)}
theorem zaI (h:∀u,u<v→x u=y u):yO a v x=yO a v y:=by
 unfold yO ptF;refine List.map_congr_left fun u hu=>?_;have:=(List.mem_filter.1 hu).2;rw[h u (by simpa using this)]
theorem zjj (ha:a.1.Pairwise (· < ·)) (hv:v∈a.1):zaQ a (v+1)=zaQ a v++[v]:=by unfold zaQ;rw[zdY v ha,if_pos hv]
theorem zmr (ha:a.1.Pairwise (· < ·)) (hv:v∉a.1):zaQ a (v+1)=zaQ a v:=by unfold zaQ;rw[zdY v ha,if_neg hv,List.append_nil]
theorem zfU (ha:a.1.Pairwise (· < ·)) (hv:v∈a.1):yO a (v+1) x=yO a v x++[(x v:Int)]:=by
 unfold yO;rw[zjj ha hv];unfold ptF;rw[List.map_append];rfl
theorem zgU (ha:a.1.Pairwise (· < ·)) (hv:v∉a.1):yO a (v+1) x=yO a v x:=by unfold yO;rw[zmr ha hv]
theorem zcz:zaQ a 0=[]:=by unfold zaQ;rw[List.filter_eq_nil_iff];intro u _;simp
theorem zms (ha:Vrs n a.1):zaQ a n=a.1:=by
 unfold zaQ;rw[List.filter_eq_self];intro u hu;simpa using ha.2 u hu
theorem zfV (ha:a.1.Pairwise (· < ·)) (hv:v∈a.1):(zaQ a v).length<a.1.length:=by
 have h:=zfT v ha;have h2:0<(a.1.filter fun u=>decide (v≤u)).length:=List.length_pos_of_mem (List.mem_filter.2 ⟨hv,vz⟩);have h3:a.1.length=(zaQ a v).length+(a.1.filter fun u=>decide (v≤u)).length:=by
  conv=>lhs;rw[h]
  rw[ul];rfl
 omega
theorem zmt (ha:a.1.Pairwise (· < ·)):(ptF a.1 x).take (zaQ a v).length=yO a v x:=by
 have h:=zfT v ha;unfold yO;conv=>lhs;unfold ptF;rw[h]
 rw[List.map_append,List.take_left' (by simp[zaQ])];rfl
theorem ze3 {l:List Nat} {F:(Nat→Nat)→Nat}:∀ {x:Nat→Nat},(∀y,(∀u,u∉l→y u=x u)→F y=0)→Ys FN.vq14 4 l F x=0:=by
 induction l with
 |nil=>intro x h;exact h x fun _ _=>rfl
 |cons v l ih=>
  intro x h;refine ZI FN.vq14 fun d _=>ih fun y hy=>h y fun u hu=>?_;rw[hy u fun hm=>hu (uq _ hm),zab x d fun e=>hu zs6]
theorem ze4 (hv:v<n):yA ats n v x=yl FN.vq14 (fun d=>yA ats n (v+1) (yG x v d)) 4:=by
 unfold yA;rw[show n - v=n - (v+1)+1 by omega,List.range'_succ];rfl
theorem zkz (hw:WfA n ats) (ha:a∈ats) (hv:v∈a.1) (hd:(d:Int)∉chT a.2 (yO a v x)):yA ats n (v+1) (yG x v d)=0:=by
 refine ze3 fun y hy=>if_neg fun hall=>hd ?_;have hvs:=(hw a ha).1.1;have hlt:=zfV hvs hv;refine(zbl (hw a ha).2 (by rw[za8];exact hlt)).2 ⟨_,hall a ha,?_⟩;have hin:=zjj hvs hv;have h1:(zaQ a (v+1)).length=(zaQ a v).length+1:=by rw[hin];simp
 have hn:∀u,u≤v→u∉List.range' (v+1) (n - (v+1)):=fun u hu hm=>by rw[List.mem_range'_1] at hm;omega
 rw[za8,←h1,zmt hvs,zfU hvs hv,hy v (hn v (ug _)),zaq];congr 1;exact zaI fun u hu=>by rw[hy u (hn u jo),zab x d jo]
def PreOk (ats:List (List Nat×List (List Int))) (v:Nat) (x:Nat→Nat):Prop:=∀a∈ats,yO a v x∈zT a.2 (yO a v x).length
theorem PreOk.start (hne:∀a∈ats,a.2≠[]):PreOk ats 0 x:=fun a ha=>by
 have h0:yO a 0 x=[]:=by unfold yO;rw[zcz];rfl
 rw[h0]
 obtain⟨r,l,e⟩:∃r l,a.2=r :: l:=by
  cases h:a.2 with
  |nil=>exact(hne a ha h).elim
  |cons r l=>exact⟨r,l,rfl⟩
 exact mem_preT.2 ⟨r,by rw[e];simp,vz⟩
theorem PreOk.next (hw:WfA n ats) (h:PreOk ats v x) (hd:∀a∈ats,v∈a.1→(d:Int)∈chT a.2 (yO a v x)):PreOk ats (v+1) (yG x v d):=fun a ha=>by
 have hvs:=(hw a ha).1.1
 have e:yO a v (yG x v d)=yO a v x:=zaI fun u hu=>zab x d jo
 by_cases hv:v∈a.1
 ·rw[zfU hvs hv,zaq,e]
  exact zkw (hw a ha).2 (by rw[za8];exact zfV hvs hv) (hd a ha hv)
 ·rw[zgU hvs hv,e];exact h a ha
theorem zmu (hw:WfA n ats) (h:PreOk ats n x):yA ats n n x=1:=by
 unfold yA;rw[Nat.sub_self];show (if zax ats x then 1 else 0)=1;refine if_pos fun a ha=>?_;have h1:=h a ha;rw[za8] at h1;unfold yO at h1;rw[zms (hw a ha).1] at h1;obtain⟨r,h2,h3⟩:=mem_preT.1 h1;have h4:=(hw a ha).2.len r h2;rw[um jo] at h3;rw[←h3];exact h2
def zcb (ats:List (List Nat×List (List Int))) (n v:Nat) (x:Nat→Nat) (rem:Int→Prop) [DecidablePred rem]:Nat:=yl FN.vq14 (fun d=>if rem (d:Int) then 0 else yA ats n (v+1) (yG x v d)) 4
theorem zic (hw:WfA n ats) {rem:Int→Prop} [DecidablePred rem] (hr:∀z,(∀a∈ats,v∈a.1→z∈chT a.2 (yO a v x))→rem z):zcb ats n v x rem=0:=by
 refine ZI FN.vq14 fun d _=>?_;split
 ·rfl
 ·rename_i h;have:∃a∈ats,v∈a.1∧(d:Int)∉chT a.2 (yO a v x):=by
   apply Classical.byContradiction;intro hc;refine h (hr d fun a ha hv=>Classical.byContradiction fun hn=>hc ⟨a,ha,hv,hn⟩)
  obtain⟨a,ha,hv,hd⟩:=this;exact zkz hw ha hv hd
theorem zdZ (hv:v<n) {rem:Int→Prop} [DecidablePred rem] (hr:∀z,¬rem z):zcb ats n v x rem=yA ats n v x:=by
 rw[ze4 hv];exact yz FN.vq14 fun d _=>if_neg (hr d)
theorem zjk {f g:Nat→Nat} {c m:Nat}:∀ {k:Nat},c<k→f c=g c+m→(∀i,i<k→i≠c→f i=g i)→yl FN.vq14 f k=yl FN.vq14 g k+m
 |0,h,_,_=>absurd h jo
 |k+1,h,h1,h2=>by
  rw[yl,yl]
  show yl FN.vq14 f k+f k=yl FN.vq14 g k+g k+m
  by_cases e:c=k
  ·subst e
   rw[h1,yz FN.vq14 fun i hi=>h2 i jo jo];omega
  ·rw[zjk (k:=k) jo h1 fun i hi hn=>h2 i jo hn,h2 k jo (fun h=>e h.symm)];omega
theorem zcA {rem rem':Int→Prop} [DecidablePred rem] [DecidablePred rem'] {c:Nat} (hc:c<4) (hm:rem c) (hr:∀z,rem' z↔rem z∧z≠c):zcb ats n v x rem'=zcb ats n v x rem+yA ats n (v+1) (yG x v c):=by
 refine zjk hc ?_ fun i _ hi=>?_
 ·rw[if_neg (fun h=>((hr _).1 h).2 rfl),if_pos hm,Nat.zero_add]
 ·have:rem' (i:Int)↔rem i:=by rw[hr];exact⟨fun h=>h.1,fun h=>⟨h,jo⟩⟩
  by_cases h1:rem i
  ·rw[if_pos h1,if_pos (this.2 h1)]
  ·rw[if_neg h1,if_neg (fun h=>h1 (this.1 h))]
end
def RemP (m:Nat) (C:Nat→List Int) (k:Nat→Nat) (z:Int):Prop:=∀j,j<m→z∈(C j).drop (k j)
instance (m:Nat) (C:Nat→List Int) (k:Nat→Nat):DecidablePred (RemP m C k):=fun z=>by unfold RemP;infer_instance
def YW (k:Nat→Nat) (i d:Nat):Nat→Nat:=fun j=>if j=i then d else k j
theorem yp (k:Nat→Nat) (i d:Nat):YW k i d i=d:=if_pos rfl
theorem YD (k:Nat→Nat) (d:Nat) (h:j≠i):YW k i d j=k j:=if_neg h
section
variable {m : Nat} {C : Nat → List Int} {k : Nat → Nat}
theorem zo4 {l:List Int} (h:l.Pairwise (· < ·)) {z:Int} (hi:l[i]? = some c) (hz:z∈l.drop i):c≤z:=by
 obtain⟨h1,h2⟩:=List.getElem?_eq_some_iff.1 hi;rw[List.drop_eq_getElem_cons h1,h2] at hz;have hp:(l.drop i).Pairwise (· < ·):=h.sublist (List.drop_sublist _ _);rw[List.drop_eq_getElem_cons h1,h2,List.pairwise_cons] at hp;rcases List.mem_cons.1 hz with h3 | h3
 ·omega
 ·have:=hp.1 z h3;omega
theorem RemP.seek (hp:p<m) (hc:∀j,j<m→(C j).Pairwise (· < ·)) (hkey:(C p)[k p]? = some key) (hk:k i≤k') (hlt:∀u,k i≤u→u<k'→∀c,(C i)[u]? = some c→c<key) (z:Int):RemP m C (YW k i k') z↔RemP m C k z:=by
 constructor
 ·intro h j hj;have:=h j hj;by_cases e:j=i
  ·subst e;rw[yp] at this;have e2:(C j).drop k'=((C j).drop (k j)).drop (k' - k j):=by rw[List.drop_drop];congr 1;omega
   rw[e2] at this;exact List.mem_of_mem_drop this
  ·rwa [YD k k' e] at this
 ·intro h j hj;by_cases e:j=i
  ·subst e;rw[yp];have hz:=zo4 (hc p hp) hkey (h p hp);have h1:=h j hj;rw[←List.take_append_drop (k' - k j) ((C j).drop (k j)),List.drop_drop,show k j+(k' - k j)=k' by omega,uB] at h1;rcases h1 with h1 | h1
   ·obtain⟨u,hu,he⟩:=List.getElem_of_mem h1;rw[List.getElem_take,List.getElem_drop] at he;have hu2:u<k' - k j:=by simp at hu;omega
    have:=hlt (k j+u) jo jo z (by rw[←he];exact uf _);omega
   ·exact h1
  ·rw[YD k k' e];exact h j hj
theorem RemP.none (hi:i<m) (h:(C i).length≤k i) (z:Int):¬RemP m C k z:=fun hr=>by
 have:=hr i hi
 rw[List.drop_eq_nil_of_le h] at this
 simp at this
theorem RemP.next (hm:0<m) (hc:∀j,j<m→(C j).Pairwise (· < ·)) (hall:∀j,j<m→(C j)[k j]? = some c) (z:Int):RemP m C (YW k 0 (k 0+1)) z↔RemP m C k z∧z≠c:=by
 have hd:∀j,j<m→∀z,z∈(C j).drop (k j)↔z=c∨z∈(C j).drop (k j+1):=fun j hj z=>by
  obtain⟨h1,h2⟩:=List.getElem?_eq_some_iff.1 (hall j hj);rw[List.drop_eq_getElem_cons h1,h2,List.mem_cons]
 have hn:∀j,j<m→c∉(C j).drop (k j+1):=fun j hj hmem=>by
  obtain⟨h1,h2⟩:=List.getElem?_eq_some_iff.1 (hall j hj);have hp:((C j).drop (k j)).Pairwise (· < ·):=(hc j hj).sublist (List.drop_sublist _ _);rw[List.drop_eq_getElem_cons h1,h2,List.pairwise_cons] at hp;have:=hp.1 c hmem;omega
 constructor
 ·intro h;have h0:=h 0 hm;rw[yp] at h0;refine⟨fun j hj=>?_,fun e=>hn 0 hm (by rw[←e];exact h0)⟩;by_cases e:j=0
  ·subst e;exact(hd 0 hj z).2 (.inr h0)
  ·have:=h j hj;rwa [YD k _ e] at this
 ·rintro⟨h,hz⟩ j hj;by_cases e:j=0
  ·subst e;rw[yp];rcases(hd 0 hj z).1 (h 0 hj) with h1 | h1
   ·exact(hz h1).elim
   ·exact h1
  ·rw[YD k _ e];exact h j hj
structure MtI (m:Nat) (C:Nat→List Int) (k0 k:Nat→Nat) (s t:Nat) (key:Int):Prop where
 s1:1≤s
 st:s≤t
 sm:s≤m
 on:∀j,j<m→k j<(C j).length
 le:∀j,j<m→k0 j≤k j
 rem:∀z,RemP m C k z↔RemP m C k0 z
 at_:∀u,1≤u→u≤s→(C ((t - u) % m))[k ((t - u) % m)]? = some key
 kv:0≤key∧key≤3
 cnt:(t:Int)+(3 - key)*(m+1)+(m - s)≤4*(m+1)
theorem MtI.start (hm:0<m) {k0:Nat→Nat} (hv:∀j,j<m→∀c∈C j,0≤c∧c≤3) (hon:∀j,j<m→k0 j<(C j).length) (hk:(C 0)[k0 0]? = some key):MtI m C k0 k0 1 1 key:=by
 have hkv:=hv 0 hm key (ui hk);refine⟨ug _,ug _,hm,hon,fun _ _=>ug _,fun _=>Iff.rfl,fun u h1 h2=>?_,hkv,?_⟩
 ·obtain rfl:u=1:=jo;rw[Nat.sub_self,Nat.zero_mod];exact hk
 ·have:(3 - key)*((m:Int)+1)≤3*(m+1):=Int.mul_le_mul_of_nonneg_right jo jo;have h4:4*((m:Int)+1)=3*(m+1)+(m+1):=jo;omega
theorem MtI.pos {k0:Nat→Nat} (h:MtI m C k0 k s t key) (hs:s<m):∀u,1≤u→u≤s→(t - u) % m≠t % m:=by
 intro u h1 h2 e;have h3:=h.st;have hm:0<m:=jo;have e1:=Nat.sub_mod_eq_zero_of_mod_eq e.symm;rw[show t - (t - u)=u by omega,Nat.mod_eq_of_lt jo] at e1;omega
theorem MtI.same {k0:Nat→Nat} (h:MtI m C k0 k s t key) (hs:s<m) (hc:∀j,j<m→(C j).Pairwise (· < ·)) (hk:k (t % m)≤k') (hlt:∀u,k (t % m)≤u→u<k'→∀c,(C (t % m))[u]? = some c→c<key) (hat:(C (t % m))[k']? = some key):MtI m C k0 (YW k (t % m) k') (s+1) (t+1) key:=by
 have hm:0<m:=jo;have h1:=h.s1;have h2:=h.st;have hp:=h.pos hs;have hk1:=h.at_ 1 (ug _) h1;refine⟨jo,jo,jo,fun j hj=>?_,fun j hj=>?_,fun z=>(RemP.seek (p:=(t - 1) % m) (Nat.mod_lt _ hm) hc hk1 hk hlt z).trans (h.rem z),fun u u1 u2=>?_,h.kv,?_⟩
 ·exact vt75
 ·exact vt82
 ·by_cases e:u=1
  ·subst e;rw[show t+1 - 1=t by omega,yp];exact hat
  ·rw[show t+1 - u=t - (u - 1) by omega,YD k k' (hp (u - 1) jo jo)];exact h.at_ (u - 1) jo jo
 ·have:=h.cnt;push_cast;omega
theorem MtI.more {k0:Nat→Nat} {key':Int} (h:MtI m C k0 k s t key) (hs:s<m) (hc:∀j,j<m→(C j).Pairwise (· < ·)) (hv:∀j,j<m→∀c∈C j,0≤c∧c≤3) (hk:k (t % m)≤k') (hlt:∀u,k (t % m)≤u→u<k'→∀c,(C (t % m))[u]? = some c→c<key) (hat:(C (t % m))[k']? = some key') (hgt:key<key'):MtI m C k0 (YW k (t % m) k') 1 (t+1) key':=by
 have hm:0<m:=jo;have h1:=h.s1;have h2:=h.st;have hk1:=h.at_ 1 (ug _) h1;have hkv:=hv (t % m) (Nat.mod_lt _ hm) key' (ui hat);refine⟨ug _,jo,jo,fun j hj=>?_,fun j hj=>?_,fun z=>(RemP.seek (p:=(t - 1) % m) (Nat.mod_lt _ hm) hc hk1 hk hlt z).trans (h.rem z),fun u u1 u2=>?_,hkv,?_⟩
 ·exact vt75
 ·exact vt82
 ·obtain rfl:u=1:=jo;rw[show t+1 - 1=t by omega,yp];exact hat
 ·have h3:=h.cnt;have h4:(3 - key')*((m:Int)+1)≤(3 - key - 1)*(m+1):=Int.mul_le_mul_of_nonneg_right jo jo;have h5:(3 - key - 1)*((m:Int)+1)=(3 - key)*(m+1) - (m+1):=by rw[Int.sub_mul,Int.one_mul]
  push_cast;omega
theorem MtI.out {k0:Nat→Nat} (h:MtI m C k0 k s t key) (hm:0<m) (hc:∀j,j<m→(C j).Pairwise (· < ·)) (hk:k (t % m)≤k') (hlt:∀u,k (t % m)≤u→u<k'→∀c,(C (t % m))[u]? = some c→c<key) (hend:(C (t % m)).length≤k') (z:Int):¬RemP m C k0 z:=fun hr=>by
 have hk1:=h.at_ 1 (ug _) h.s1
 have h1:=(RemP.seek (p:=(t - 1) % m) (Nat.mod_lt _ hm) hc hk1 hk hlt z).2 ((h.rem z).2 hr)
 exact RemP.none (Nat.mod_lt t hm) (by rw[yp];exact hend) z h1
theorem MtI.all {k0:Nat→Nat} (h:MtI m C k0 k m t key):∀j,j<m→(C j)[k j]? = some key:=by
 intro j hj;have h1:=h.st;have hr:t % m<m:=Nat.mod_lt _ jo;have hq:(t / m)*m+t % m=t:=by rw[Nat.mul_comm];exact Nat.div_add_mod t m
 rcases Nat.lt_or_ge j (t % m) with h2 | h2
 ·have h3:=h.at_ (t % m - j) jo jo;have e:(t - (t % m - j)) % m=j:=by
   rw[show t - (t % m - j)=(t / m)*m+j by omega,Nat.mul_add_mod_self_right,Nat.mod_eq_of_lt hj]
  rw[e] at h3;exact h3
 ·have h3:=h.at_ (t % m+(m - j)) jo jo;have hd:1≤t / m:=by
   rw[Nat.le_div_iff_mul_le jo];omega
  have e:(t - (t % m+(m - j))) % m=j:=by
   have:(t / m)*m=(t / m - 1)*m+m:=by rw[←Nat.succ_mul];congr 1;omega
   rw[show t - (t % m+(m - j))=(t / m - 1)*m+j by omega,Nat.mul_add_mod_self_right,Nat.mod_eq_of_lt hj]
  rw[e] at h3;exact h3
end
open Go.RowKit
structure OutG (G:Nat→Prop) (w w':World):Prop where
 os:w'.os=w.os
 tape:w'.tape=w.tape
 output:w'.output=w.output
 size:w.heap.size≤w'.heap.size
 block:∀k,k<w.heap.size→¬G k→w'.heap[k]? = w.heap[k]?
section
variable {G G' : Nat → Prop} {w w' w'' : World}
theorem OutG.refl (G:Nat→Prop) (w:World):OutG G w w:=⟨rfl,rfl,rfl,ug _,fun _ _ _=>rfl⟩
theorem OutG.trans (h:OutG G w w') (k:OutG G w' w''):OutG G w w'':=
 ⟨k.os.trans h.os,k.tape.trans h.tape,k.output.trans h.output,ud h.size k.size,fun i hi hg=>(k.block i (uj hi h.size) hg).trans (h.block i hi hg)⟩
theorem OutG.of_below (h:Below w.heap.size w w'):OutG G w w':=⟨h.os,h.tape,h.output,h.size,fun k hk _=>h.block k hk⟩
theorem OutG.of_grown (h:w.grownBy w' (some g)) (hg:G g):OutG G w w':=⟨h.os,h.tape,h.output,h.size,fun k hk hn=>h.block k hk (fun e=>by injection e with e;subst e;exact hn hg)⟩
theorem OutG.mono (h:OutG G w w') (hs:∀k,k<w.heap.size→G k→G' k):OutG G' w w':=⟨h.os,h.tape,h.output,h.size,fun k hk hn=>h.block k hk (fun hg=>hn (hs k hk hg))⟩
theorem OutG.below {B:Nat} (h:OutG G w w') (hB:B≤w.heap.size) (hG:∀k,G k→B≤k):Below B w w':=⟨h.os,h.tape,h.output,h.size,fun k hk=>h.block k jo (fun hg=>by have:=hG k hg;omega)⟩
theorem OutG.blk {t:TypeId} (h:OutG G w w') (hb:Blk w g t cs) (hg:¬G g):Blk w' g t cs:=(h.block g hb.lt hg).trans hb
end
def RdG (G:Nat→Prop) (w:World) (t:TypeId) (size:Nat) (A:Option Addr) (n:Nat) (xs:List Value):Prop:=
 xs.length=n*size∧(0<n→∃ad cs,A=some ad∧¬G ad.block∧Blk w ad.block t cs∧∀j u,xs[j]? = some u→w.cell? (ad.add j)=some u)
section
variable {G : Nat → Prop} {w w' : World} {t : TypeId} {size n : Nat} {A : Option Addr} {xs : List Value}
theorem RdG.out (h:RdG G w t size A n xs) (k:OutG G w w'):RdG G w' t size A n xs:=⟨h.1,fun hn=>by
 obtain⟨ad,cs,h1,h0,h2,h3⟩:=h.2 hn
 have h4:=k.blk h2 h0
 refine⟨ad,cs,h1,h0,h4,fun j u hu=>?_⟩
 rw[←h3 j u hu]
 exact World.cell?_of_block zqf⟩
theorem RdG.rdt (h:RdG G w t size A n xs):RdT w t size A n xs:=⟨h.1,fun hn=>by
 obtain⟨ad,cs,h1,_,h2,h3⟩:=h.2 hn
 exact⟨ad,cs,h1,h2,h3⟩⟩
theorem RdG.of (h:RdT w t size A n xs) (hg:∀ad,A=some ad→¬G ad.block):RdG G w t size A n xs:=⟨h.1,fun hn=>by
 obtain⟨ad,cs,h1,h2,h3⟩:=h.2 hn
 exact⟨ad,cs,h1,hg ad h1,h2,h3⟩⟩
theorem RdG.mono {G':Nat→Prop} (h:RdG G w t size A n xs) (hg:∀k,G' k→G k):RdG G' w t size A n xs:=⟨h.1,fun hn=>by
 obtain⟨ad,cs,h1,h0,h2,h3⟩:=h.2 hn
 exact⟨ad,cs,h1,fun hk=>h0 (hg _ hk),h2,h3⟩⟩
theorem RdG.cell (h:RdG G w t size A n xs) (hj:xs[j]? = some u):∃ad,A=some ad∧w.cell? (ad.add j)=some u:=by
 have hn:0<n:=by
  rcases Nat.eq_zero_or_pos n with h0 | h0
  ·subst h0;have:=h.1;rw[Nat.zero_mul] at this;rw[uo this] at hj;cases hj
  ·exact h0
 obtain⟨ad,cs,h1,_,_,h3⟩:=h.2 hn;exact⟨ad,h1,h3 j u hj⟩
end
def TrG (G:Nat→Prop) (w:World) (A:Option Addr) (d:Nat) (V:Nat→List Int) (F:Nat→List Nat):Prop:=
 ∃L:List Value,RdG G w 205 2 A d L∧∀l,l<d→∃vA vc fA fc,L[l*2]? = some (.slice vA (V l).length vc)∧L[l*2+1]? = some (.slice fA (F l).length fc)∧RdG G w 89 3 vA (V l).length (VR (V l))∧RdG G w 3 1 fA (F l).length (I64 (zu (F l)))
theorem TrG.out {G:Nat→Prop} {V:Nat→List Int} {F:Nat→List Nat} (h:TrG G w A d V F) (k:OutG G w w'):TrG G w' A d V F:=by
 obtain⟨L,h1,h2⟩:=h;refine⟨L,h1.out k,fun l hl=>?_⟩;obtain⟨vA,vc,fA,fc,a1,a2,a3,a4⟩:=h2 l hl;exact⟨vA,vc,fA,fc,a1,a2,a3.out k,a4.out k⟩
theorem TrG.below {G:Nat→Prop} {V:Nat→List Int} {F:Nat→List Nat} (h:TrG G w A d V F) (k:Below w.heap.size w w'):TrG G w' A d V F:=h.out (OutG.of_below k)
theorem TrG.mono {G G':Nat→Prop} {V:Nat→List Int} {F:Nat→List Nat} (h:TrG G w A d V F) (k:∀b,G' b→G b):TrG G' w A d V F:=by
 obtain⟨L,h1,h2⟩:=h;refine⟨L,h1.mono k,fun l hl=>?_⟩;obtain⟨vA,vc,fA,fc,a1,a2,a3,a4⟩:=h2 l hl;exact⟨vA,vc,fA,fc,a1,a2,a3.mono k,a4.mono k⟩
theorem TrG.val {G:Nat→Prop} {V:Nat→List Int} {F:Nat→List Nat} (h:TrG G w A d V F) (hl:l<d) (hp:p<(V l).length):∃ad va vc,A=some ad∧w.cell? (ad.add (l*2))=some (.slice (some va) (V l).length vc)∧∀j u,(VC (zv (V l) p))[j]? = some u→w.cell? ((va.add (p*3)).add j)=some u:=by
 obtain⟨L,h1,h2⟩:=h;obtain⟨vA,vc,fA,fc,a1,a2,a3,a4⟩:=h2 l hl;obtain⟨ad,e1,c1⟩:=h1.cell a1;obtain⟨g0,g1,g2⟩:=zlv (xs:=V l) hp;obtain⟨va,e2,c2⟩:=a3.cell g0;refine⟨ad,va,vc,e1,by rw[c1,e2],fun j u hj=>?_⟩;rw[Addr.add_add];have e3:∀i x,(VR (V l))[i]? = some x→w.cell? (va.add i)=some x:=fun i x hx=>by
  obtain⟨va',e4,c4⟩:=a3.cell hx;rw[e2] at e4;injection e4 with e4;subst e4;exact c4
 rcases j with _ | _ | _ | j
 ·rw[Nat.add_zero,e3 _ _ g0];exact hj
 ·rw[e3 _ _ g1];exact hj
 ·rw[e3 _ _ g2];exact hj
 ·simp[VC] at hj
theorem TrG.fst {G:Nat→Prop} {V:Nat→List Int} {F:Nat→List Nat} (h:TrG G w A d V F) (hl:l<d):∃ad fA fc,A=some ad∧w.cell? ((ad.add (l*2)).add 1)=some (.slice fA (F l).length fc)∧∀p c,(F l)[p]? = some c→∃fa,fA=some fa∧w.cell? (fa.add (p*1))=some (.int .i64 ((c:Nat):Int)):=by
 obtain⟨L,h1,h2⟩:=h;obtain⟨vA,vc,fA,fc,a1,a2,a3,a4⟩:=h2 l hl;obtain⟨ad,e1,c1⟩:=h1.cell a2;refine⟨ad,fA,fc,e1,by rw[Addr.add_add];exact c1,fun p c hp=>?_⟩;have:(I64 (zu (F l)))[p]? = some (.int .i64 ((c:Nat):Int)):=by simp[I64,zu,hp]
 obtain⟨fa,e2,c2⟩:=a4.cell this;exact⟨fa,e2,by rw[Nat.mul_one];exact c2⟩
theorem TrG.size {G:Nat→Prop} {V:Nat→List Int} {F:Nat→List Nat} (h:TrG G w A d V F) (hl:l<d):∃ad vA vc,A=some ad∧w.cell? (ad.add (l*2))=some (.slice vA (V l).length vc):=by
 obtain⟨L,h1,h2⟩:=h;obtain⟨vA,vc,fA,fc,a1,a2,a3,a4⟩:=h2 l hl;obtain⟨ad,e1,c1⟩:=h1.cell a1;exact⟨ad,vA,vc,e1,c1⟩
def ItB (w:World) (g:Nat) (A:Option Addr) (d c:Nat) (L p e:Nat) (fr:Nat→Nat×Nat):Prop:=
 ∃(cs:Array Value) (z:Int),Blk w g 211 cs∧cs.size=69∧cs[0]? = some (.slice A d c)∧cs[1]? = some (.int .i64 ((L:Nat):Int))∧cs[2]? = some (.int .i64 ((p:Nat):Int))∧cs[3]? = some (.int .i64 ((e:Nat):Int))∧
  (∀j,j<L→cs[4+j*2]? = some (.int .i64 (((fr j).1:Nat):Int))∧cs[4+j*2+1]? = some (.int .i64 (((fr j).2:Nat):Int)))∧cs[68]? = some (.int .i64 z)∧∀(j:Nat) (x:Int),cs[j]?≠some (Value.int .u32 x)
section
variable {w w' : World} {g : Nat} {A : Option Addr} {d c L p e : Nat} {fr fr' : Nat → Nat × Nat}
theorem ItB.lt (h:ItB w g A d c L p e fr):g<w.heap.size:=by obtain⟨cs,z,hb,_⟩:=h;exact hb.lt
theorem ItB.below (h:ItB w g A d c L p e fr) (hb:Below w.heap.size w w'):ItB w' g A d c L p e fr:=by
 obtain⟨cs,z,h0,r⟩:=h;exact⟨cs,z,h0.keep hb,r⟩
theorem ItB.out {G:Nat→Prop} (h:ItB w g A d c L p e fr) (hb:OutG G w w') (hg:¬G g):ItB w' g A d c L p e fr:=by
 obtain⟨cs,z,h0,r⟩:=h;exact⟨cs,z,hb.blk h0 hg,r⟩
theorem ItB.congr (h:ItB w g A d c L p e fr) (hf:∀j,j<L→fr j=fr' j):ItB w g A d c L p e fr':=by
 obtain⟨cs,z,h0,h1,h2,h3,h4,h5,h6,r⟩:=h;exact⟨cs,z,h0,h1,h2,h3,h4,h5,fun j hj=>by rw[←hf j hj];exact h6 j hj,r⟩
theorem ItB.tr (h:ItB w g A d c L p e fr):w.cell? ⟨g,0,none⟩=some (.slice A d c):=by
 obtain⟨cs,z,h0,h1,h2,h3,h4,h5,h6,h7,h8⟩:=h;rw[h0.cell];exact h2
theorem ItB.lv (h:ItB w g A d c L p e fr):w.cell? ⟨g,1,none⟩=some (.int .i64 ((L:Nat):Int)):=by
 obtain⟨cs,z,h0,h1,h2,h3,h4,h5,h6,h7,h8⟩:=h;rw[h0.cell];exact h3
theorem ItB.ps (h:ItB w g A d c L p e fr):w.cell? ⟨g,2,none⟩=some (.int .i64 ((p:Nat):Int)):=by
 obtain⟨cs,z,h0,h1,h2,h3,h4,h5,h6,h7,h8⟩:=h;rw[h0.cell];exact h4
theorem ItB.en (h:ItB w g A d c L p e fr):w.cell? ⟨g,3,none⟩=some (.int .i64 ((e:Nat):Int)):=by
 obtain⟨cs,z,h0,h1,h2,h3,h4,h5,h6,h7,h8⟩:=h;rw[h0.cell];exact h5
theorem ItB.ab (h:ItB w g A d c L p e fr) (hj:j<L):w.cell? ⟨g,4+j*2,none⟩=some (.int .i64 (((fr j).1:Nat):Int))∧w.cell? ⟨g,4+j*2+1,none⟩=some (.int .i64 (((fr j).2:Nat):Int)):=by
 obtain⟨cs,z,h0,h1,h2,h3,h4,h5,h6,h7,h8⟩:=h;rw[h0.cell,h0.cell];exact h6 j hj
theorem ItB.st (h:ItB w g A d c L p e fr):∃z:Int,w.cell? ⟨g,68,none⟩=some (.int .i64 z):=by
 obtain⟨cs,z,h0,h1,h2,h3,h4,h5,h6,h7,h8⟩:=h;exact⟨z,by rw[h0.cell];exact h7⟩
theorem ZT {v:Value} (h:∀(j:Nat) (x:Int),cs[j]?≠some (Value.int .u32 x)) (hv:okC v=true):∀(j:Nat) (x:Int),(cs.setIfInBounds i v)[j]?≠some (Value.int .u32 x):=by
 intro j x hj;rw[Array.getElem?_setIfInBounds] at hj;split at hj
 ·split at hj
  ·injection hj with hj;subst hj;cases hv
  ·cases hj
 ·exact h j x hj
theorem zO {v:Value} (h:cs[j]? = some u) (hij:i≠j):(cs.setIfInBounds i v)[j]? = some u:=by
 rw[Array.getElem?_setIfInBounds_ne hij];exact h
theorem ZU {v:Value} (h:i<cs.size):(cs.setIfInBounds i v)[i]? = some v:=by
 rw[Array.getElem?_setIfInBounds_self_of_lt h]
theorem Yg (cs:Array Value) (i:Nat) (v:Value):(yt cs.toList i [v]).toArray=cs.setIfInBounds i v:=Array.ext' (by simp[yt])
theorem Zr (cs:Array Value) (i:Nat) (v u:Value):(yt cs.toList i [v,u]).toArray=(cs.setIfInBounds i v).setIfInBounds (i+1) u:=Array.ext' (by simp[yt])
variable {P : Program} {o : Oper} {a : Act} {t u : Tmp} {T : TypeId} {K : Act → World → Prop} {Q : Exit → Act → World → Prop}
theorem ItB.wp_lv {L':Nat} (h:ItB w g A d c L p e fr) (hfr:∀j,j<L'→w.cell? ⟨g,4+j*2,none⟩=some (.int .i64 (((fr' j).1:Nat):Int))∧w.cell? ⟨g,4+j*2+1,none⟩=some (.int .i64 (((fr' j).2:Nat):Int))) (hL':L'≤32) (ho:o.op = .store T (.tmp t) (.tmp u)) (hd:o.dst=none) (hi:zbz P T 1=true) (ht:tv a t = .pointer (some ⟨g,1,none⟩)) (hu:tv a u = .int .i64 ((L':Nat):Int))
  (next:∀w',w.grownBy w' (some g)→KeepsN w w'→ItB w' g A d c L' p e fr'→(∀j,j≠1→w'.cell? ⟨g,j,none⟩=w.cell? ⟨g,j,none⟩)→K a w'):o.wp P a w K Q:=by
 obtain⟨cs,z,h0,h1,h2,h3,h4,h5,h6,h7,h8⟩:=h;refine yZ ho hd hi ht hu rfl h0 jo (h8 1) fun w' kn hg hs hb=>next w' hg kn ⟨_,z,hb,?_,?_,?_,?_,?_,fun j hj=>?_,?_,?_⟩ (fun j hj=>by rw[hb.cell,h0.cell,Yg,Array.getElem?_setIfInBounds_ne jo])
 ·rw[Yg];simpa using h1
 ·rw[Yg];exact zO h2 jo
 ·rw[Yg];exact ZU jo
 ·rw[Yg];exact zO h4 jo
 ·rw[Yg];exact zO h5 jo
 ·have:=hfr j hj;rw[h0.cell,h0.cell] at this;rw[Yg];exact⟨zO this.1 jo,zO this.2 jo⟩
 ·rw[Yg];exact zO h7 jo
 ·rw[Yg];exact ZT h8 rfl
theorem ItB.wp_ps (h:ItB w g A d c L p e fr) (hL:L≤32) (ho:o.op = .store T (.tmp t) (.tmp u)) (hd:o.dst=none) (hi:zbz P T 1=true) (ht:tv a t = .pointer (some ⟨g,2,none⟩)) (hu:tv a u = .int .i64 ((p':Nat):Int))
  (next:∀w',w.grownBy w' (some g)→KeepsN w w'→ItB w' g A d c L p' e fr→K a w'):o.wp P a w K Q:=by
 obtain⟨cs,z,h0,h1,h2,h3,h4,h5,h6,h7,h8⟩:=h;refine yZ ho hd hi ht hu rfl h0 jo (h8 2) fun w' kn hg hs hb=>next w' hg kn ⟨_,z,hb,?_,?_,?_,?_,?_,fun j hj=>?_,?_,?_⟩
 ·rw[Yg];simpa using h1
 ·rw[Yg];exact zO h2 jo
 ·rw[Yg];exact zO h3 jo
 ·rw[Yg];exact ZU jo
 ·rw[Yg];exact zO h5 jo
 ·exact zqJ
 ·rw[Yg];exact zO h7 jo
 ·rw[Yg];exact ZT h8 rfl
theorem ItB.wp_st {z':Int} (h:ItB w g A d c L p e fr) (hL:L≤32) (ho:o.op = .store T (.tmp t) (.tmp u)) (hd:o.dst=none) (hi:zbz P T 1=true) (ht:tv a t = .pointer (some ⟨g,68,none⟩)) (hu:tv a u = .int .i64 z')
  (next:∀w',w.grownBy w' (some g)→KeepsN w w'→ItB w' g A d c L p e fr→K a w'):o.wp P a w K Q:=by
 obtain⟨cs,z,h0,h1,h2,h3,h4,h5,h6,h7,h8⟩:=h;refine yZ ho hd hi ht hu rfl h0 jo (h8 68) fun w' kn hg hs hb=>next w' hg kn ⟨_,z',hb,?_,?_,?_,?_,?_,fun j hj=>?_,?_,?_⟩
 ·rw[Yg];simpa using h1
 ·rw[Yg];exact zO h2 jo
 ·rw[Yg];exact zO h3 jo
 ·rw[Yg];exact zO h4 jo
 ·rw[Yg];exact zO h5 jo
 ·exact zqJ
 ·rw[Yg];exact ZU jo
 ·rw[Yg];exact ZT h8 rfl
theorem ItB.wp_at (h:ItB w g A d c L p e fr) (hL:L≤32) (ho:o.op = .store T (.tmp t) (.tmp u)) (hd:o.dst=none) (hi:zbz P T 2=true) (ht:tv a t = .pointer (some ⟨g,2,none⟩)) (hu:tv a u = .agg #[.int .i64 ((p':Nat):Int),.int .i64 ((e':Nat):Int)])
  (next:∀w',w.grownBy w' (some g)→KeepsN w w'→ItB w' g A d c L p' e' fr→(∀j,4≤j→w'.cell? ⟨g,j,none⟩=w.cell? ⟨g,j,none⟩)→K a w'):o.wp P a w K Q:=by
 obtain⟨cs,z,h0,h1,h2,h3,h4,h5,h6,h7,h8⟩:=h;refine zC (vs:=[.int .i64 ((p':Nat):Int),.int .i64 ((e':Nat):Int)]) ho hd hi ht hu rfl h0 (by show 2+2≤cs.size;omega) (fun j _ _=>h8 j) fun w' kn hg hs hb=>next w' hg kn ⟨_,z,hb,?_,?_,?_,?_,?_,fun j hj=>?_,?_,?_⟩ (fun j hj=>by rw[hb.cell,h0.cell,Zr,Array.getElem?_setIfInBounds_ne jo,Array.getElem?_setIfInBounds_ne jo])
 ·rw[Zr];simpa using h1
 ·rw[Zr];exact zO (zO h2 jo) jo
 ·rw[Zr];exact zO (zO h3 jo) jo
 ·rw[Zr];exact zO (ZU jo) jo
 ·rw[Zr];exact ZU vj2
 ·exact vt73
 ·rw[Zr];exact zO (zO h7 jo) jo
 ·rw[Zr];exact ZT (ZT h8 rfl) rfl
theorem ItB.wp_ab (h:ItB w g A d c L p e fr) (hL:L<32) (ho:o.op = .store T (.tmp t) (.tmp u)) (hd:o.dst=none) (hi:zbz P T 2=true) (ht:tv a t = .pointer (some ⟨g,4+L*2,none⟩)) (hu:tv a u = .agg #[.int .i64 ((p':Nat):Int),.int .i64 ((e':Nat):Int)])
  (next:∀w',w.grownBy w' (some g)→KeepsN w w'→ItB w' g A d c L p e fr→w'.cell? ⟨g,4+L*2,none⟩=some (.int .i64 ((p':Nat):Int))∧w'.cell? ⟨g,4+L*2+1,none⟩=some (.int .i64 ((e':Nat):Int))→K a w'):o.wp P a w K Q:=by
 obtain⟨cs,z,h0,h1,h2,h3,h4,h5,h6,h7,h8⟩:=h;refine zC (vs:=[.int .i64 ((p':Nat):Int),.int .i64 ((e':Nat):Int)]) ho hd hi ht hu rfl h0 (by show 4+L*2+2≤cs.size;omega) (fun j _ _=>h8 j) fun w' kn hg hs hb=>next w' hg kn ⟨_,z,hb,?_,?_,?_,?_,?_,fun j hj=>?_,?_,?_⟩ ?_
 ·rw[Zr];simpa using h1
 ·rw[Zr];exact zO (zO h2 jo) jo
 ·rw[Zr];exact zO (zO h3 jo) jo
 ·rw[Zr];exact zO (zO h4 jo) jo
 ·rw[Zr];exact zO (zO h5 jo) jo
 ·exact vt73
 ·rw[Zr];exact zO (zO h7 jo) jo
 ·rw[Zr];exact ZT (ZT h8 rfl) rfl
 ·rw[hb.cell,hb.cell,Zr];exact⟨zO (ZU jo) jo,ZU vj2⟩
end
section
variable {P : Program} {o : Oper} {a : Act} {w : World} {t : Tmp} {T T2 e : TypeId}
theorem Ym {p:Addr} (ho:o.op = .nilCheck (.tmp t)) (h:tv a t = .pointer (some p)):zp P o a.eval w (fun v w'=>v = .pointer (some p)∧Below w.heap.size w w'):=by
 refine zo (.pointer (some p)) ?_ ⟨rfl,ue _ _⟩;unfold execOp;rw[ho];simp only[zK,h];rfl
def ptrB (P:Program) (T:TypeId):Bool:=match P.underlying T with | some (.pointer _)=>true | _=>false
theorem Yu {o1 off:Nat} (ho:o.op = .fieldAddr T (.tmp t) k) (hf:zfo P T k off=true) (hs:o1+off=s) (h:tv a t = .pointer (some ⟨g,o1,none⟩)):zp P o a.eval w (fun v w'=>v = .pointer (some ⟨g,s,none⟩)∧Below w.heap.size w w'):=by
 have:=ZH (w:=w) ho hf h;rwa [Addr.add_mid,hs] at this
def arrB (P:Program) (T e:TypeId) (n k:Nat):Bool:=(match P.underlying T with | some (.array m e')=>m == n && e' == e | _=>false) && zbz P e k
theorem zay {off:Nat} (ho:o.op = .indexAddr T (.tmp t) y) (hu:arrB P T e n s=true) (hk:k<n) (h:tv a t = .pointer (some ⟨g,off,none⟩)) (h2:a.eval y = .int .i64 (k:Int)):zp P o a.eval w (fun v w'=>v = .pointer (some ⟨g,off+k*s,none⟩)∧Below w.heap.size w w'):=by
 unfold arrB at hu;rw[Bool.and_eq_true] at hu;obtain⟨h1,h3⟩:=hu;obtain⟨i,hi,hs⟩:=Zd h3;split at h1
 ·rename_i m e' he;rw[Bool.and_eq_true,beq_iff_eq,beq_iff_eq] at h1;obtain⟨rfl,rfl⟩:=h1;refine zo (.pointer (some ⟨g,off+k*s,none⟩)) ?_ ⟨rfl,ue _ _⟩;have i1:(0:Int)≤(k:Int):=jo;have i2:(k:Int)<(m:Int):=jo;unfold execOp;rw[ho];simp only[zK,h,h2];simp[Instr.indexAt,asIntOf,run_underlying he,i1,i2,hk,sizeOf,typeInfo,hi,hs,Result.andThen,Instr.sureAddr,Addr.add_mid]
 ·cases h1
end
theorem Yv {P:Program} {t:Tmp} {c:Nat} (ho:o.op = .indexAddr T (.tmp t) y) (hu:zbn P T e s=true) (hk:k<n) (h:tv a t = .slice (some ⟨g,0,none⟩) n c) (h2:a.eval y = .int .i64 (k:Int)):zp P o a.eval w (fun v w'=>v = .pointer (some ⟨g,k*s,none⟩)∧Below w.heap.size w w'):=by
 have:=zm (w:=w) ho hu hk h h2;rwa [Addr.add_mid,Nat.zero_add] at this
theorem ZW {P:Program} {t:Tmp} {c:Nat} (ho:o.op = .indexAddr T (.tmp t) y) (hu:zbn P T e 1=true) (hk:k<n) (h:tv a t = .slice (some ⟨g,0,none⟩) n c) (h2:a.eval y = .int .i64 (k:Int)):zp P o a.eval w (fun v w'=>v = .pointer (some ⟨g,k,none⟩)∧Below w.heap.size w w'):=by
 have:=Yv (w:=w) ho hu hk h h2;rwa [Nat.mul_one] at this
end Go.Proofs.YtoecdobelolkeaaGreatDoor
