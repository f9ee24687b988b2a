/- Part of TopSemirings. -/
import Derived.Test.YtoecdobelolkeaaGreatDoorK17
set_option linter.unusedVariables false
set_option linter.unusedSimpArgs false
set_option maxRecDepth 100000
set_option maxHeartbeats 64000000
namespace Go.Proofs.YtoecdobelolkeaaGreatDoor
open Go.RowKit
variable {n gj B i gr ga d gc p c q g L k:Nat} {w wr w' w3 w5:World} {A:Option Addr} {cs:Array Value} {ws l:List Nat} {t:TypeId} {full:Bool} {u:Value} {y:Operand}
theorem zd8 (h:Vrs n l):l.length≤n:=by
 have h1:l.Nodup:=h.1.imp fun h=>Nat.ne_of_lt h;have h2:=(List.nodup_range (n:=n));have:l.length≤(List.range n).length:=List.Nodup.length_le_of_subset h1 fun v hv=>List.mem_range.2 (h.2 v hv);simpa using this
theorem RdG.kd {G:Nat→Prop} {T:List TypeId} {size:Nat} {xs:List Value} (h:RdG G w t size A n xs) (k:KD T w w') (ht:t∈T):RdG G w' t size A n xs:=⟨h.1,fun hn=>by
 obtain⟨ad,cs,h1,h0,h2,h3⟩:=h.2 hn
 have h4:=k.b t ht _ _ h2
 refine⟨ad,cs,h1,h0,h4,fun j u hu=>?_⟩
 rw[←h3 j u hu]
 exact World.cell?_of_block zqf⟩
theorem TrG.kd {G:Nat→Prop} {T:List TypeId} {V:Nat→List Int} {F:Nat→List Nat} (h:TrG G w A d V F) (k:KD T w w') (h1:205∈T) (h2:89∈T) (h3:3∈T):TrG G w' A d V F:=by
 obtain⟨L,a1,a2⟩:=h;refine⟨L,a1.kd k h1,fun l hl=>?_⟩;obtain⟨vA,vc,fA,fc,b1,b2,b3,b4⟩:=a2 l hl;exact⟨vA,vc,fA,fc,b1,b2,b3.kd k h2,b4.kd k h3⟩
theorem ItB.kd {T:List TypeId} {e:Nat} {fr:Nat→Nat×Nat} (h:ItB w g A d c L p e fr) (k:KD T w w') (h1:211∈T):ItB w' g A d c L p e fr:=by
 obtain⟨cs,z,h0,r⟩:=h;exact⟨cs,z,k.b 211 h1 _ _ h0,r⟩
theorem RdG.types {G G':Nat→Prop} {size:Nat} {xs:List Value} (h:RdG G w t size A n xs) (hg:∀y,G' y→G y∨∃t' cs,Blk w y t' cs∧t'≠t):RdG G' w t size A n xs:=⟨h.1,fun hn=>by
 obtain⟨ad,cs,h1,h0,h2,h3⟩:=h.2 hn
 refine⟨ad,cs,h1,fun hk=>?_,h2,h3⟩
 rcases hg _ hk with h4 | ⟨t',cs',h4,h5⟩
 ·exact h0 h4
 ·exact Blk.ne_ h4 h2 h5 rfl⟩
theorem TrG.types {G G':Nat→Prop} {V:Nat→List Int} {F:Nat→List Nat} (h:TrG G w A d V F) (hg:∀y,G' y→G y∨∃t' cs,Blk w y t' cs∧t'≠205∧t'≠89∧t'≠3):TrG G' w A d V F:=by
 obtain⟨L,a1,a2⟩:=h;refine⟨L,a1.types fun y hy=>(hg y hy).imp_right fun ⟨t',cs,q,r,_⟩=>⟨t',cs,q,r⟩,fun l hl=>?_⟩;obtain⟨vA,vc,fA,fc,b1,b2,b3,b4⟩:=a2 l hl;exact⟨vA,vc,fA,fc,b1,b2,b3.types fun y hy=>(hg y hy).imp_right fun ⟨t',cs,q,_,r,_⟩=>⟨t',cs,q,r⟩,b4.types fun y hy=>(hg y hy).imp_right fun ⟨t',cs,q,_,_,r⟩=>⟨t',cs,q,r⟩⟩
theorem PvI.kd {gl:Nat} {sv:Value} {T:List TypeId} (h:PvI B gl sv wr w) {t1:TypeId} (h1:Blk wr gl t1 cs) (hn1:T.contains t1=false) {e:TypeId} {xs:List Value} (h2:OwnC wr B e k sv n xs) (hn2:T.contains e=false):KD T wr w:=⟨h.n,fun t ht g cs' hb=>h.o.blk hb fun e2=>by
 rcases e2 with e2 | e2
 ·exact Blk.ne_ hb h1 (fun e3=>by subst e3;rw[List.contains_eq_any_beq,List.any_eq_false] at hn1;exact hn1 _ ht vz) e2
 ·exact yg h2.own hb (fun e3=>by subst e3;rw[List.contains_eq_any_beq,List.any_eq_false] at hn2;exact hn2 _ ht vz) e2.symm⟩
structure AtS (w:World) (B ga n:Nat) (sv:Nat→Value) (L:Nat→List Value):Prop where
 blk:Blk w ga 164 ((List.range n).map sv).toArray
 own:∀v,v≤n→OwnC w B 170 1 (sv v) (L v).length (L v)
 ap:∀i j,i≤n→j≤n→i≠j→apt (sv i) (sv j)
theorem zsd {v:Nat} (sv:Nat→Value) (u:Value) (h:v<n):((List.range n).map sv).toArray.setIfInBounds v u=((List.range n).map (yv sv v u)).toArray:=by
 apply Array.ext';simp only[List.setIfInBounds_toArray];refine List.ext_getElem vz fun i h1 h2=>?_;exact zqx
section
variable {w w' wr : World} {B ga n v : Nat} {sv : Nat → Value} {L : Nat → List Value} {u : Value} {x : Value}
theorem AtS.below (h:AtS w B ga n sv L) (hb:Below w.heap.size w w'):AtS w' B ga n sv L:=⟨h.blk.keep hb,fun v hv=>(h.own v hv).below hb,h.ap⟩
theorem AtS.push (h:AtS wr B ga n sv L) (hv:v<n) (hI:PvI B ga (sv v) wr w) (hb:Blk w ga 164 (((List.range n).map sv).toArray.setIfInBounds v u)) (ho:OwnC w B 170 1 u ((L v).length+1) (L v++[x])) (hn:zcD wr (sv v) u):AtS w B ga n (yv sv v u) (yv L v (L v++[x])):=by
 have hne:∀j,j≤n→∀b,(sv j).ownBlock=some b→b≠ga:=fun j hj b hb e=>yg (h.own j hj).own h.blk jd (by rw[hb,e]);refine⟨by rw[zsd sv u hv] at hb;exact hb,fun j hj=>?_,fun j k hj hk hjk=>?_⟩
 ·by_cases e:j=v
  ·subst e;rw[zG,zG,ul];exact ho
  ·rw[zI _ _ e,zI _ _ e];refine(h.own j hj).out hI.o fun b hb e2=>?_;rcases e2 with e2 | e2
   ·exact hne j hj b hb e2
   ·rcases h.ap j v hj (uA hv) e with h3 | h3
    ·rw[h3] at hb;cases hb
    ·exact h3 (by rw[hb,e2])
 ·by_cases e:j=v
  ·subst e;rw[zG,zI _ _ (fun e=>hjk e.symm)];exact((h.ap k j hk hj (fun e=>hjk e.symm)).newB (h.own k hk) hn).symm
  ·by_cases e2:k=v
   ·subst e2;rw[zG,zI _ _ e];exact(h.ap j k hj hk hjk).newB (h.own j hj) hn
   ·rw[zI _ _ e,zI _ _ e2];exact h.ap j k hj hk hjk
theorem AtS.pushAll (h:AtS wr B ga n sv L) (hg:wr.grownBy w (sv n).ownBlock) (ho:OwnC w B 170 1 u ((L n).length+1) (L n++[x])) (hn:u.ownBlock=(sv n).ownBlock∨u.ownBlock=some wr.heap.size):AtS w B ga n (yv sv n u) (yv L n (L n++[x])):=by
 have hn':zcD wr (sv n) u:=hn.imp_right fun e=>⟨_,e,ug _⟩
 have hmap:(List.range n).map (yv sv n u)=(List.range n).map sv:=List.map_congr_left fun i hi=>zI _ _ (by have:=List.mem_range.1 hi;omega);refine⟨?_,fun j hj=>?_,fun j k hj hk hjk=>?_⟩
 ·rw[hmap];exact h.blk.grown hg (fun e=>yg (h.own n (ug _)).own h.blk jd e.symm)
 ·by_cases e:j=n
  ·subst e;rw[zG,zG,ul];exact ho
  ·rw[zI _ _ e,zI _ _ e];refine(h.own j hj).kept hg ?_;rcases h.ap j n hj (ug _) e with h3 | h3
   ·exact .inl h3
   ·exact .inr h3
 ·by_cases e:j=n
  ·subst e;rw[zG,zI _ _ (fun e=>hjk e.symm)];exact((h.ap k j hk hj (fun e=>hjk e.symm)).newB (h.own k hk) hn').symm
  ·by_cases e2:k=n
   ·subst e2;rw[zG,zI _ _ e];exact(h.ap j k hj hk hjk).newB (h.own j hj) hn'
   ·rw[zI _ _ e,zI _ _ e2];exact h.ap j k hj hk hjk
theorem AtS.congr {L':Nat→List Value} (h:AtS w B ga n sv L) (hL:∀v,v≤n→L v=L' v):AtS w B ga n sv L':=⟨h.blk,fun v hv=>by rw[←hL v hv];exact h.own v hv,h.ap⟩
theorem zpe (hb:Blk w ga 164 ((List.range n).map sv).toArray) (h:v<n):w.cell? ⟨ga,v,none⟩=some (sv v):=by rw[hb.cell];simp[h]
theorem zto (sv:Nat→Value) (h:v<n):((List.range n).map sv).toArray[v]? = some (sv v):=by simp[h]
end
def prL (vs:Nat→List Nat) (g:Nat→Nat) (n i:Nat) (ws:List Nat) (full:Bool) (v:Nat):List Value:=
 if v<n then (((List.range i).filter fun k=>decide (v∈vs k)).map fun k=> .pointer (some ⟨g k,0,none⟩))++(if v∈ws then [.pointer (some ⟨g i,0,none⟩)] else [])
 else ((List.range i).map fun k=> .pointer (some ⟨g k,0,none⟩))++(if full then [.pointer (some ⟨g i,0,none⟩)] else [])
theorem zpf {vs:Nat→List Nat} {g:Nat→Nat} (v:Nat) (hv:v≤n):yv (prL vs g n i [] false) n (prL vs g n i [] false n++[.pointer (some ⟨g i,0,none⟩)]) v=prL vs g n i [] true v:=by
 by_cases e:v=n
 ·subst e;rw[zG];unfold prL;simp
 ·have hvn:v<n:=jo;rw[zI _ _ e];unfold prL;simp[hvn]
theorem zpg {vs:Nat→List Nat} {g:Nat→Nat} {u:Nat} (hu:u<n) (hws:u∉ws) (v:Nat):yv (prL vs g n i ws true) u (prL vs g n i ws true u++[.pointer (some ⟨g i,0,none⟩)]) v=prL vs g n i (ws++[u]) true v:=by
 by_cases e:v=u
 ·subst e;rw[zG];unfold prL;rw[if_pos hu,if_pos hu,if_neg hws,if_pos vz,List.append_nil]
 ·rw[zI _ _ e];unfold prL;have:(v∈ws++[u])↔v∈ws:=by simp[e]
  simp only[this]
theorem zmZ {vs:Nat→List Nat} {g:Nat→Nat} (v:Nat):prL vs g n i (vs i) true v=prL vs g n (i+1) [] false v:=by
 unfold prL;by_cases h:v<n
 ·rw[if_pos h,if_pos h,List.range_succ,List.filter_append,List.map_append];by_cases h2:v∈vs i
  ·rw[if_pos h2];simp[h2]
  ·rw[if_neg h2];simp[h2]
 ·rw[if_neg h,if_neg h,List.range_succ,List.map_append];simp
structure RnS (w wr:World) (n gj gr ga B:Nat) (yf:Value) (ats:List (List Nat×List (List Int))) (i:Nat) (g c:Nat→Nat) (A:Nat→Option Addr) (sv:Nat→Value) (ws:List Nat) (full:Bool):Prop where
 b:Below w.heap.size w wr
 lo:B≤wr.heap.size
 jn:Blk wr gj 163 #[.slice (some ⟨gr,0,none⟩) n n,.slice (some ⟨ga,0,none⟩) n n,.int .i64 0,yf]
 rw_:∃cs,Blk wr gr 89 cs∧cs.size=n*3∧∀(j:Nat) (x:Int),cs[j]?≠some (Value.int .u32 x)
 at_:AtS wr B ga n sv (prL (fun k=>(ats.getD k ([],[])).1) g n i ws full)
 it:∀k,k<i∨(k=i∧full=true)→ItB wr (g k) (A k) (ats.getD k ([],[])).1.length (c k) 0 0 0 (fun _=>(0,0))∧TrG (fun y=>y<B) wr (A k) (ats.getD k ([],[])).1.length (Yc (ats.getD k ([],[])).2) (zaP (ats.getD k ([],[])).1.length (ats.getD k ([],[])).2)
 ne:∀k l,(k<i∨(k=i∧full=true))→(l<i∨(l=i∧full=true))→k≠l→g k≠g l
 glo:∀k,(k<i∨(k=i∧full=true))→B≤g k
theorem RnS.kd {yf:Value} {ats:List (List Nat×List (List Int))} {g c:Nat→Nat} {A:Nat→Option Addr} {sv sv':Nat→Value} {ws':List Nat} (h:RnS w wr n gj gr ga B yf ats i g c A sv ws full) (k:KD [3,89,205,211,163] wr w') (hb:Below w.heap.size w w') (hB:B≤w'.heap.size) (ha:AtS w' B ga n sv' (prL (fun k=>(ats.getD k ([],[])).1) g n i ws' full)):RnS w w' n gj gr ga B yf ats i g c A sv' ws' full:=by
 obtain⟨cs,r1,r2⟩:=h.rw_;exact⟨hb,hB,k.b 163 vz _ _ h.jn,⟨cs,k.b 89 vz _ _ r1,r2⟩,ha,fun j hj=>⟨(h.it j hj).1.kd k vz,(h.it j hj).2.kd k vz vz vz⟩,h.ne,h.glo⟩
theorem RnS.below {yf:Value} {ats:List (List Nat×List (List Int))} {g c:Nat→Nat} {A:Nat→Option Addr} {sv:Nat→Value} (h:RnS w wr n gj gr ga B yf ats i g c A sv ws full) (hb:Below wr.heap.size wr w'):RnS w w' n gj gr ga B yf ats i g c A sv ws full:=
 h.kd (KD.below hb) (h.b.trans (hb.mono h.b.size)) (ud h.lo hb.size) (h.at_.below hb)
theorem RnS.add {gn cn:Nat} {An:Option Addr} {yf:Value} {ats:List (List Nat×List (List Int))} {g c:Nat→Nat} {A:Nat→Option Addr} {sv:Nat→Value} (h:RnS w wr n gj gr ga B yf ats i g c A sv [] false) (hb:Below wr.heap.size wr w3) (hlt:wr.heap.size≤gn) (hi:ItB w3 gn An (ats.getD i ([],[])).1.length cn 0 0 0 (fun _=>(0,0))) (ht:TrG (fun y=>y<B) w3 An (ats.getD i ([],[])).1.length (Yc (ats.getD i ([],[])).2) (zaP (ats.getD i ([],[])).1.length (ats.getD i ([],[])).2))
  (hg:w3.grownBy w' (sv n).ownBlock) (kn:KeepsN w3 w') (ho:OwnC w' B 170 1 u ((prL (fun k=>(ats.getD k ([],[])).1) g n i [] false n).length+1) (prL (fun k=>(ats.getD k ([],[])).1) g n i [] false n++[.pointer (some ⟨gn,0,none⟩)])) (hn:u.ownBlock=(sv n).ownBlock∨u.ownBlock=some w3.heap.size) (hBw:w.heap.size≤B) :
  RnS w w' n gj gr ga B yf ats i (yv g i gn) (yv c i cn) (yv A i An) (yv sv n u) [] true:=by
 have h3:=h.below hb;have hown:=h3.at_.own n (ug _);have k:KD [3,89,205,211,163] w3 w':=KD.own hown.own hg kn rfl;have hb':Below w.heap.size w w':=h3.b.grown hg h3.b.size (fun b e=>ud hBw (hown.own.lt b e).1);obtain⟨cs,r1,r2⟩:=h3.rw_;have hat:AtS w' B ga n (yv sv n u) (yv (prL (fun k=>(ats.getD k ([],[])).1) g n i [] false) n (prL (fun k=>(ats.getD k ([],[])).1) g n i [] false n++[.pointer (some ⟨gn,0,none⟩)])):=h3.at_.pushAll hg ho hn;refine⟨hb',ud h3.lo hg.size,k.b 163 vz _ _ h3.jn,⟨cs,k.b 89 vz _ _ r1,r2⟩,hat.congr fun v hv=>?_,fun j hj=>?_,fun j l hj hl hjl=>?_,fun j hj=>?_⟩
 ·have e1:∀full ws v,prL (fun k=>(ats.getD k ([],[])).1) g n i ws full v=prL (fun k=>(ats.getD k ([],[])).1) g n i ws full v:=fun _ _ _=>rfl;rw[←zpf (vs:=fun k=>(ats.getD k ([],[])).1) (g:=yv g i gn) v hv,zG];have e2:prL (fun k=>(ats.getD k ([],[])).1) (yv g i gn) n i [] false=prL (fun k=>(ats.getD k ([],[])).1) g n i [] false:=by
   funext v;unfold prL;have h1:∀l:List Nat,(∀k∈l,k<i)→(l.map fun k=>(Value.pointer (some ⟨yv g i gn k,0,none⟩)))=l.map fun k=> .pointer (some ⟨g k,0,none⟩):=fun l hl=>List.map_congr_left fun k hk=>by rw[zI _ _ (by have:=hl k hk;omega)]
   rw[h1 _ fun k hk=>by have:=List.mem_range.1 (List.mem_filter.1 hk).1;omega,h1 _ fun k hk=>by have:=List.mem_range.1 hk;omega];simp
  rw[e2]
 ·by_cases e:j=i
  ·subst e;rw[zG,zG,zG];exact⟨hi.kd k vz,ht.kd k vz vz vz⟩
  ·rw[zI _ _ e,zI _ _ e,zI _ _ e];have:=h3.it j (.inl jo);exact⟨this.1.kd k vz,this.2.kd k vz vz vz⟩
 ·by_cases e:j=i
  ·subst e;have hl':l<j:=jo;rw[zG,zI _ _ (fun e=>hjl e.symm)];intro e2;have:=(h.it l (.inl hl')).1.lt;omega
  ·rw[zI _ _ e];by_cases e3:l=i
   ·subst e3;rw[zG];intro e2;have:=(h.it j (.inl jo)).1.lt;omega
   ·rw[zI _ _ e3];exact h.ne j l (.inl jo) (.inl jo) hjl
 ·by_cases e:j=i
  ·subst e;rw[zG];exact ud h.lo hlt
  ·rw[zI _ _ e];exact h.glo j (.inl jo)
theorem RnS.next {yf:Value} {ats:List (List Nat×List (List Int))} {g c:Nat→Nat} {A:Nat→Option Addr} {sv:Nat→Value} (h:RnS w wr n gj gr ga B yf ats i g c A sv (ats.getD i ([],[])).1 true):RnS w wr n gj gr ga B yf ats (i+1) g c A sv [] false:=
 ⟨h.b,h.lo,h.jn,h.rw_,h.at_.congr fun v _=>zmZ (vs:=fun k=>(ats.getD k ([],[])).1) v,fun k hk=>h.it k zta,fun k l hk hl=>h.ne k l zta (by rcases hl with hl | hl;(by_cases e:l=i;exact .inr ⟨e,rfl⟩;exact .inl jo);cases hl.2),fun k hk=>h.glo k zta⟩
def mkJ (n gj gr ga gc:Nat) (ats:List (List Nat×List (List Int))) (g c:Nat→Nat) (A:Nat→Option Addr) (sv:Nat→Value):JnS where
 n:=n
 na:=ats.length
 gj:=gj
 gr:=gr
 gc:=gc
 rc:=n
 ga:=ga
 ac:=n
 I:=fun k=>⟨g k,A k,c k,(ats.getD k ([],[])).2,(ats.getD k ([],[])).1.length⟩
 ats:=ats
 IA:=fun v=>match sv v with | .slice (some a) _ _=>a | _=>⟨0,0,none⟩
 ic:=fun v=>match sv v with | .slice _ _ c=>c | _=>0
theorem RnS.ok {ats:List (List Nat×List (List Int))} {g c:Nat→Nat} {A:Nat→Option Addr} {sv:Nat→Value} (h:RnS w wr n gj gr ga B (.func (.func 35) #[] #[.pointer (some ⟨gc,0,none⟩)]) ats ats.length g c A sv [] false) (hgc:Blk wr gc 36 cs) (hn:n≤32) (hna:ats.length≤1000) (hw:WfA n ats) (hfew:∀a∈ats,a.2.length≤60000) (hcov:∀v,v<n→∃a∈ats,v∈a.1) (hlt:gj<B∧gr<B∧ga<B):(mkJ n gj gr ga gc ats g c A sv).Ok wr:=by
 have hat:∀i,i<ats.length→ats.getD i ([],[])∈ats:=fun i hi=>by rw[List.getD_eq_getElem?_getD,uf hi];exact List.getElem_mem _
 have hG:∀y,(mkJ n gj gr ga gc ats g c A sv).G y→y<B∨∃t' cs,Blk wr y t' cs∧t'≠205∧t'≠89∧t'≠3:=by
  rintro y (e | e | e | ⟨i,hi,e⟩)
  ·exact .inl (by rw[e];exact hlt.1)
  ·exact .inl (by rw[e];exact hlt.2.1)
  ·exact .inr ⟨36,cs,by rw[e];exact hgc,jd,jd,jd⟩
  ·obtain⟨cs',z,hb,_⟩:=(h.it i (.inl hi)).1;exact .inr ⟨211,cs',by rw[e];exact hb,jd,jd,jd⟩
 have hG2:∀(t:TypeId),t=164∨t=170→∀y,(mkJ n gj gr ga gc ats g c A sv).G y→∃t' cs,Blk wr y t' cs∧t'≠t:=by
  rintro t ht y (e | e | e | ⟨i,hi,e⟩)
  ·exact⟨163,_,by rw[e];exact h.jn,zqj⟩
  ·obtain⟨cs',r1,_⟩:=h.rw_;exact⟨89,cs',by rw[e];exact r1,zqj⟩
  ·exact⟨36,cs,by rw[e];exact hgc,zqj⟩
  ·obtain⟨cs',z,hb,_⟩:=(h.it i (.inl hi)).1;exact⟨211,cs',by rw[e];exact hb,zqj⟩
 have hits:∀v,v<n→prL (fun k=>(ats.getD k ([],[])).1) g n ats.length [] false v=((mkJ n gj gr ga gc ats g c A sv).its v).map fun i=> .pointer (some ⟨g i,0,none⟩):=fun v hv=>by
  unfold prL;rw[if_pos hv];simp;rfl
 have hform:∀v,v<n→sv v = .slice (some ((mkJ n gj gr ga gc ats g c A sv).IA v)) ((mkJ n gj gr ga gc ats g c A sv).its v).length ((mkJ n gj gr ga gc ats g c A sv).ic v)∧RdT wr 170 1 (some ((mkJ n gj gr ga gc ats g c A sv).IA v)) ((mkJ n gj gr ga gc ats g c A sv).its v).length (((mkJ n gj gr ga gc ats g c A sv).its v).map fun i=> .pointer (some ⟨g i,0,none⟩)):=fun v hv=>by
  have ho:=h.at_.own v (uA hv);rw[hits v hv,uy] at ho;obtain⟨a,ha,hm⟩:=hcov v hv;obtain⟨i,hi,e⟩:=List.getElem_of_mem ha;have hpos:0<((mkJ n gj gr ga gc ats g c A sv).its v).length:=List.length_pos_of_mem (JnS.mem_its.2 ⟨hi,by
   show v∈(ats.getD i ([],[])).1
   rw[List.getD_eq_getElem?_getD,uf hi,e];exact hm⟩)
  obtain⟨A',c',e2⟩:=zF ho.own;have hA:∃a',A'=some a':=by
   rcases ho.own.2 with ⟨e3,h0⟩ | ⟨g',cap,cur,e3,_⟩
   ·omega
   ·rw[e2] at e3;injection e3 with e3;exact⟨_,e3⟩
  obtain⟨a',rfl⟩:=hA;have e4:(mkJ n gj gr ga gc ats g c A sv).IA v=a':=by show (match sv v with | .slice (some a) _ _=>a | _=>_)=a';rw[e2]
  have e5:(mkJ n gj gr ga gc ats g c A sv).ic v=c':=by show (match sv v with | .slice _ _ c=>c | _=>_)=c';rw[e2]
  rw[e4,e5];refine⟨e2,?_⟩;rw[e2] at ho;exact RdT.of_own ho.own
 refine⟨hn,rfl,hna,hw,fun i hi=>⟨⟨?_,?_,?_,?_,?_⟩,rfl,rfl⟩,fun i j hi hj hij=>h.ne i j (.inl hi) (.inl hj) hij,fun v hv=>?_,fun v hv=>?_,?_⟩
 ·exact(h.it i (.inl hi)).2.types hG
 ·have:=(hw _ (hat i hi)).1;show (ats.getD i ([],[])).1.length≤32;have hnd:=zd8 this;omega
 ·exact .inr (.inr (.inr ⟨i,hi,rfl⟩))
 ·exact(hw _ (hat i hi)).2
 ·have:=hfew _ (hat i hi);show (ats.getD i ([],[])).2.length≤100000;omega
 ·obtain⟨a,ha,hm⟩:=hcov v hv;obtain⟨i,hi,e⟩:=List.getElem_of_mem ha;refine⟨i,hi,?_⟩;show v∈(ats.getD i ([],[])).1;rw[List.getD_eq_getElem?_getD,uf hi,e];exact hm
 ·have:=(hform v hv).2;refine RdG.types (G:=fun _=>False) ⟨this.1,fun hn=>?_⟩ fun y hy=> .inr (hG2 170 (.inr rfl) y hy);obtain⟨ad,cs',q1,q2,q3⟩:=this.2 hn;exact⟨ad,cs',q1,fun h=>h,q2,q3⟩
 ·have hmap:(List.range n).map sv=(List.range n).map fun v=> .slice (some ((mkJ n gj gr ga gc ats g c A sv).IA v)) ((mkJ n gj gr ga gc ats g c A sv).its v).length ((mkJ n gj gr ga gc ats g c A sv).ic v):=List.map_congr_left fun v hv=>(hform v (List.mem_range.1 hv)).1;have hbk:=h.at_.blk;rw[hmap] at hbk;refine RdG.types (G:=fun _=>False) ⟨by simp[mkJ],fun hn=>⟨_,_,rfl,fun h=>h,hbk,fun j u hu=>?_⟩⟩ fun y hy=> .inr (hG2 164 (.inl rfl) y hy);rw[yy];show wr.cell? ⟨ga,j,none⟩=some u;rw[hbk.cell];simpa [mkJ] using hu
section
variable {P : Program} {o : Oper} {a : Act} {w : World} {t : Tmp} {T e : TypeId} {K : Act → World → Prop} {Q : Exit → Act → World → Prop}
theorem zg3 {x:Operand} {u1 u2:Value} (hr:∀W,(Instr.makeSlice T u1 u2).run P W = .ok (.slice (some ⟨W.heap.size,0,none⟩) n c) (W.alloc (.cells cs e))) (ho:o.op = .makeSlice T x y) (hx:a.eval x=u1) (hy:a.eval y=u2):zp P o a.eval w (fun z w'=>(∃g:Nat,z = .slice (some ⟨g,0,none⟩) n c∧w.heap.size≤g∧Blk w' g e cs)∧Below w.heap.size w w'):=by
 subst hx;subst hy;have hh:(execOp a.eval o).run P w = .ok (.value (.slice (some ⟨w.heap.size,0,none⟩) n c)) (w.alloc (.cells cs e)):=by
  unfold execOp;rw[ho];simp[hr,Result.andThen]
 unfold zp;rw[hh];exact⟨⟨_,rfl,ug _,Blk.new _ _ _⟩,al _ _⟩
end
theorem zm0:(Tryz.prog.info? 164).map (fun i=>(i.zero,i.size,i.bytes))=some (some (.slice none 0 0),1,24):=by kernel_rfl
theorem zjt:∀n:Nat,(List.replicate n [Value.slice none 0 0]).flatten=(List.range n).map fun _=>Value.slice none 0 0
 |0=>rfl
 |n+1=>by rw[List.replicate_succ',List.flatten_append,zjt n,List.range_succ,List.map_append];rfl
theorem zse (n:Nat) (hn:n≤32) (W:World):(Instr.makeSlice 161 (.int .i64 (n:Int)) (.int .i64 (n:Int))).run Tryz.prog W = .ok (.slice (some ⟨W.heap.size,0,none⟩) n n) (W.alloc (.cells ((List.range n).map fun _=>Value.slice none 0 0).toArray 164)):=by
 rw[←zjt];exact zaB (e:=164) (k:=1) (z:= .slice none 0 0) vk zm0 rfl jo jo (ug _) jo W
def zba (d q:Nat):List Nat:=List.range q++List.replicate (d - q) 0
theorem zkM (d:Nat):zba d 0=List.replicate d 0:=by simp[zba]
theorem zm1 (d:Nat):zba d d=List.range d:=by simp[zba]
theorem zkN:(I64 (zu (zba d q))).toArray.size=q+(d - q):=by simp[I64,zu,zba]
theorem zph (d q j:Nat) (y:Int):(I64 (zu (zba d q))).toArray[j]?≠some (.int .u32 y):=zD (by simpa using zdT (zba d q)) j y
theorem zm2 (h:q<d):(yt (I64 (zu (zba d q))).toArray.toList q [.int .i64 (q:Int)]).toArray=(I64 (zu (zba d (q+1)))).toArray:=by
 have e:(zba d q).set q q=zba d (q+1):=by
  unfold zba;rw[List.set_append_right _ _ vz,show d - q=d - (q+1)+1 by omega,List.replicate_succ,List.range_succ];simp
 rw[←e];congr 1;simp[yt,I64,zu,List.map_set]
theorem zkO:(Tryz.prog.info? 3).map (fun i=>(i.zero,i.size,i.bytes))=some (some (.int .i64 0),1,8):=by kernel_rfl
theorem zg4:∀n:Nat,(List.replicate n [Value.int .i64 0]).flatten=I64 (zu (List.replicate n 0))
 |0=>rfl
 |n+1=>by rw[List.replicate_succ,List.flatten_cons,zg4 n,List.replicate_succ];rfl
theorem zsf (n:Nat) (hn:n≤32) (W:World):(Instr.makeSlice 26 (.int .i64 (n:Int)) (.int .i64 (n:Int))).run Tryz.prog W = .ok (.slice (some ⟨W.heap.size,0,none⟩) n n) (W.alloc (.cells (I64 (zu (List.replicate n 0))).toArray 3)):=by
 rw[←zg4];exact zaB (e:=3) (k:=1) (z:= .int .i64 0) vk zkO rfl jo jo (ug _) jo W
section
variable {o : Oper} {a : Act} {w : World} {t : Tmp} {K : Act → World → Prop} {Q : Exit → Act → World → Prop} {n gr ga gc : Nat}
theorem zm3 (gr ga gc n:Nat):Tryz.prog.built 163 [(0,.slice (some ⟨gr,0,none⟩) n n),(1,.slice (some ⟨ga,0,none⟩) n n),(3,.func (.func 35) #[] #[.pointer (some ⟨gc,0,none⟩)])]=some #[.slice (some ⟨gr,0,none⟩) n n,.slice (some ⟨ga,0,none⟩) n n,.int .i64 0,.func (.func 35) #[] #[.pointer (some ⟨gc,0,none⟩)]]:=by kernel_rfl
theorem zg5 {ty:TypeId} {j:Nat} {x z:Operand} {v1 v2:Value} {cells:Array Value} (ho:o.op = .build ty #[(i,x),(j,y),(k,z)]) (hx:a.eval x=u) (hy:a.eval y=v1) (hz:a.eval z=v2) (hf:Tryz.prog.built ty [(i,u),(j,v1),(k,v2)]=some cells):zp Tryz.prog o a.eval w (fun v w'=>v = .agg cells∧Below w.heap.size w w'):=by
 refine zo (.agg cells) ?_ ⟨rfl,ue _ _⟩;unfold execOp;simp only[ho,Sem.run_bind];rw[run_build w ty _ cells (by simpa [hx,hy,hz] using hf)];rfl
theorem zkP (ho:o.op = .box 163 (.tmp t)) (ht:tv a t = .agg #[.slice (some ⟨gr,0,none⟩) n n,.slice (some ⟨ga,0,none⟩) n n,.int .i64 0,.func (.func 35) #[] #[.pointer (some ⟨gc,0,none⟩)]]) (next:K (a.put o.dst (.pointer (some ⟨w.heap.size,0,none⟩))) (w.alloc (.cells #[.slice (some ⟨gr,0,none⟩) n n,.slice (some ⟨ga,0,none⟩) n n,.int .i64 0,.func (.func 35) #[] #[.pointer (some ⟨gc,0,none⟩)]] 163))):o.wp Tryz.prog a w K Q:=by
 have hh:a.eval (.tmp t) = .agg #[.slice (some ⟨gr,0,none⟩) n n,.slice (some ⟨ga,0,none⟩) n n,.int .i64 0,.func (.func 35) #[] #[.pointer (some ⟨gc,0,none⟩)]]:=ht;have hr:(execOp a.eval o).run Tryz.prog w = .ok (.value (.pointer (some ⟨w.heap.size,0,none⟩))) (w.alloc (.cells #[.slice (some ⟨gr,0,none⟩) n n,.slice (some ⟨ga,0,none⟩) n n,.int .i64 0,.func (.func 35) #[] #[.pointer (some ⟨gc,0,none⟩)]] 163)):=by
  unfold execOp;rw[ho];simp only[hh];go_simp
 unfold Oper.wp;rw[hr];exact next
end
theorem zm4 {ats:List (List Nat×List (List Int))} {x:Nat→Nat} {a:List Nat×List (List Int)} (ha:a∈ats) (h:a.2=[]):yA ats n 0 x=0:=
 ze3 fun y _=>if_neg fun hall=>by have:=hall a ha;rw[h] at this;cases this
theorem RnS.start {yf:Value} {ats:List (List Nat×List (List Int))} (h:Below w.heap.size w w3) (hb:Below w3.heap.size w3 wr) (hj:Blk w3 gj 163 #[.slice (some ⟨gr,0,none⟩) n n,.slice (some ⟨ga,0,none⟩) n n,.int .i64 0,yf]) (hr:Blk w3 gr 89 (List.replicate n ZV).flatten.toArray) (ha:Blk w3 ga 164 ((List.range n).map fun _=>(.slice none 0 0:Value)).toArray) (hB:B=w3.heap.size):RnS w wr n gj gr ga B yf ats 0 (fun _=>0) (fun _=>0) (fun _=>none) (fun _=> .slice none 0 0) [] false:=by
 refine⟨h.trans (hb.mono h.size),by rw[hB];exact hb.size,hj.keep hb,⟨_,hr.keep hb,?_,fun j x=>?_⟩,⟨ha.keep hb,fun v hv=>?_,fun _ _ _ _ _=>apt.nil _⟩,fun k hk=>by simp at hk,fun k l hk=>by simp at hk,fun k hk=>by simp at hk⟩
 ·have:=YC (k:=3) (cl:=List.replicate n ZV) (fun c hc=>by rw[List.eq_of_mem_replicate hc];rfl);simpa using this
 ·refine zD ?_ j x;rw[List.all_eq_true];intro u hu;have hu2:u∈(List.replicate n ZV).flatten:=by simpa using hu
  obtain⟨c,hc,huc⟩:=List.mem_flatten.1 hu2;rw[List.eq_of_mem_replicate hc] at huc;have:∀u∈ZV,okC u=true:=jd;exact this u huc
 ·have e:prL (fun k=>(ats.getD k ([],[])).1) (fun _=>0) n 0 [] false v=[]:=by unfold prL;split <;> simp
  rw[e];exact OwnC.nil _ _ _ _
theorem zpi (vs:Nat→List Nat) (g:Nat→Nat) (n i:Nat):(prL vs g n i [] false n).length=i:=by unfold prL;simp
theorem zm5 (vs:Nat→List Nat) (g:Nat→Nat) (n i:Nat) (ws:List Nat) (full:Bool) (v:Nat):(prL vs g n i ws full v).length≤i+1:=by
 unfold prL;split
 ·rw[ul,uy];have h1:((List.range i).filter fun k=>decide (v∈vs k)).length≤i:=by
   have:=List.length_filter_le (fun k=>decide (v∈vs k)) (List.range i);rwa [List.length_range] at this
  split <;> simp <;> omega
 ·rw[ul,uy,List.length_range];split <;> simp
theorem zfa {v:Nat} {xs:List Nat} (h:Xs w w.heap.size A n (zu xs)) (hp:p<n) (hv:xs[p]? = some v):∃ua,A=some ua∧w.cell? (ua.add p)=some (.int .i64 (v:Int)):=by
 obtain⟨ad,e,h2,h3⟩:=h.1.2 jo;exact⟨ad,e,h3 p _ (by simp[I64,zu,hv])⟩
theorem zm6 {v:Nat} (h:Vrs n l) (hv:l[p]? = some v):v∉l.take p:=by
 intro hm;obtain⟨i,hi,e⟩:=List.getElem_of_mem hm;have hi2:i<p:=by simp at hi;omega
 obtain⟨h1,h2⟩:=List.getElem?_eq_some_iff.1 hv;have:=List.pairwise_iff_getElem.1 h.1 i p jo h1 hi2;rw[List.getElem_take] at e;omega
theorem RnS.all {ats:List (List Nat×List (List Int))} {g c:Nat→Nat} {A:Nat→Option Addr} {sv:Nat→Value} (h:RnS w wr n gj gr ga B (.func (.func 35) #[] #[.pointer (some ⟨gc,0,none⟩)]) ats ats.length g c A sv [] false) (hgc:Blk wr gc 36 cs):∃LA lc,sv n = .slice LA ats.length lc∧RdG (mkJ n gj gr ga gc ats g c A sv).G wr 170 1 LA ats.length ((List.range ats.length).map fun k=> .pointer (some ⟨g k,0,none⟩)):=by
 have ho:=h.at_.own n (ug _);have e1:prL (fun k=>(ats.getD k ([],[])).1) g n ats.length [] false n=(List.range ats.length).map fun k=> .pointer (some ⟨g k,0,none⟩):=by unfold prL;simp
 rw[e1,uy,List.length_range] at ho;obtain⟨LA,lc,e⟩:=zF ho.own;rw[e] at ho;refine⟨LA,lc,e,?_⟩;have hr:=RdT.of_own ho.own;refine RdG.types (G:=fun _=>False) ⟨hr.1,fun hn=>?_⟩ fun y hy=> .inr ?_
 ·obtain⟨ad,cs',q1,q2,q3⟩:=hr.2 hn;exact⟨ad,cs',q1,fun h=>h,q2,q3⟩
 ·rcases hy with e | e | e | ⟨i,hi,e⟩
  ·exact⟨163,_,by rw[e];exact h.jn,jd⟩
  ·obtain⟨cs',r1,_⟩:=h.rw_;exact⟨89,cs',by rw[e];exact r1,jd⟩
  ·exact⟨36,cs,by rw[e];exact hgc,jd⟩
  ·obtain⟨cs',z,hb,_⟩:=(h.it i (.inl hi)).1;exact⟨211,cs',by rw[e];exact hb,jd⟩
theorem zpj {W y:Nat} {ats:List (List Nat×List (List Int))} {g c:Nat→Nat} {A:Nat→Option Addr} {sv:Nat→Value} (h:W≤gj∧W≤gr∧W≤ga) (hg:∀j,j<ats.length→W≤g j) (hy:(mkJ n gj gr ga gc ats g c A sv).G y) (hlt:y<W):y=gc:=by
 rcases hy with e | e | e | ⟨i,hi,e⟩
 ·have:y=gj:=e;omega
 ·have:y=gr:=e;omega
 ·exact e
 ·have h1:y=g i:=e;have:=hg i hi;omega
theorem zsg {G:Nat→Prop} (h:Below w.heap.size w wr) (ho:OutG G wr w5) (hG:∀y,G y→y<w.heap.size→y=gc):OutG (fun y=>y=gc) w w5:=
 ⟨ho.os.trans h.os,ho.tape.trans h.tape,ho.output.trans h.output,ud h.size ho.size,fun k hk hn=>(ho.block k (uj hk h.size) (fun hg=>hn (hG k hg hk))).trans (h.block k hk)⟩
theorem zpk (h:OutG (fun y=>y=gc) w wr) (ho:OutG (fun y=>y=gj) wr w5) (hj:w.heap.size≤gj):OutG (fun y=>y=gc) w w5:=
 ⟨ho.os.trans h.os,ho.tape.trans h.tape,ho.output.trans h.output,ud h.size ho.size,fun k hk hn=>(ho.block k (uj hk h.size) (fun e=>by omega)).trans (h.block k hk hn)⟩
theorem zm7 {fr:Nat→Nat×Nat} (h:ItB w g A d c L p q fr):∃z:Int,∀ww,Below w.heap.size w ww→Calls Tryz.prog 60 #[.pointer (some ⟨g,0,none⟩)] ww fun e w'=>e = .returned (.int .i64 z)∧Below ww.heap.size ww w':=by
 obtain⟨z,hz⟩:=h.st;exact⟨z,fun ww hb=>zmy ((hb.cell (zh hz)).trans hz)⟩
theorem zpl {v:Value} {ats:List (List Nat×List (List Int))} (h:SlsV 95 3 AtC w v ats) (hn:n≤32) (hna:ats.length≤1000) (hw:WfA n ats) (hfew:∀a∈ats,a.2.length≤60000) (hcov:∀v,v<n→∃a∈ats,v∈a.1) (hgc:Blk w gc 36 #[.int .u64 ((0:Nat):Int)]) (hlim:yA ats n 0 (fun _=>0)≤1000000000000):Calls Tryz.prog 34 #[.int .i64 (n:Int),v,.func (.func 35) #[] #[.pointer (some ⟨gc,0,none⟩)]] w fun e w'=>(∃z:Int,e = .returned (.tuple #[.int .i64 z,.int .i64 0]))∧Blk w' gc 36 #[.int .u64 ((yA ats n 0 (fun _=>0):Nat):Int)]∧OutG (fun y=>y=gc) w w':=by
 obtain⟨TA,tc,rfl,htc,-,-⟩:=h.form;obtain⟨na,hna0⟩:∃x,x=ats.length:=⟨_,rfl⟩;rw[←hna0] at h htc ⊢;have HA:=vh h;have HNa:=vh hna0;have HW:=vh hw;have HF:=vh hfew;have HCv:=vh hcov;have HGc:=vh hgc;have HLm:=vh hlim;have hna3:na≤1000:=by rw[hna0];exact hna
 clear h hna0 hw hfew hcov hgc hlim hna;go_enter Tryz.func34,Tryz.ntmps34;go_upto_region 1 with (fail);refine zt (kss:=[[],[(0,23)],[],[(2,25)],[]]) [(0,.int .i64 ((n:Int))),(2,.func (.func 35) #[] #[.pointer (some ⟨gc,0,none⟩)])] [EV (.int .i64 ((n:Int))),fun zz ww=>∃g:Nat,zz = .slice (some ⟨g,0,none⟩) n n∧w.heap.size≤g∧Blk ww g 89 (List.replicate n ZV).flatten.toArray,EV (.int .i64 ((n:Int))),fun zz ww=>∃g:Nat,zz = .slice (some ⟨g,0,none⟩) n n∧w.heap.size≤g∧Blk ww g 164 ((List.range n).map fun _=>(.slice none 0 0:Value)).toArray,EV (.func (.func 35) #[] #[.pointer (some ⟨gc,0,none⟩)])] 5 [] vk vk vt [false,false,false,false,false] ?_ ?_ ?_ ?_
 ·exact fun i hi=>absurd hi vz
 ·exact⟨eI,fun _ _ _ ⟨g,h1,h2,h3⟩ hb=>⟨g,h1,h2,h3.keep hb⟩,eI,fun _ _ _ ⟨g,h1,h2,h3⟩ hb=>⟨g,h1,h2,h3.keep hb⟩,eI,uC⟩
 ·exact⟨vi0,(fun aa ww hb he hd=>za rfl (zk (zg3 (fun W=>zlz n jo W) rfl hd.1 hd.1) zn6)),vi0,(fun aa ww hb he hd=>za rfl (zk (zg3 (fun W=>zse n hn W) rfl hd.1 hd.1) zn6)),vi1,uC⟩
 intro vs w1 hb hR _;have r24:=hR 1 jd;have r26:=hR 3 jd;have e27:vs 4=_:=hR 4 jd;clear hR;refine vs0 ?_;rw[e27];clear e27;obtain⟨gr,e24,hgr,hbr⟩:=r24;obtain⟨ga,e26,hga,hba⟩:=r26;rw[e24,e26];clear e24 e26;show wpAny _ _ _ _ 3 _ _ _;refine zA (i:=5) vk rfl rfl (zx (zg5 (cells:=#[.slice (some ⟨gr,0,none⟩) n n,.slice (some ⟨ga,0,none⟩) n n,.int .i64 0,.func (.func 35) #[] #[.pointer (some ⟨gc,0,none⟩)]]) rfl rfl rfl rfl (zm3 _ _ _ _)) ?_);rintro z w2 ⟨rfl,hb2⟩;show wpAny _ _ _ _ _ _ (Act.put _ (some 28) _) _;refine vs1 ?_;show wpAny _ _ _ _ 2 _ _ _;refine zA (i:=6) vk rfl rfl (zkP rfl rfl ?_);show wpAny _ _ _ _ _ _ (Act.put _ (some 29) _) _;refine vs1 ?_;obtain⟨w3,hw3⟩:∃x,x=w2.alloc (.cells #[.slice (some ⟨gr,0,none⟩) n n,.slice (some ⟨ga,0,none⟩) n n,.int .i64 0,.func (.func 35) #[] #[.pointer (some ⟨gc,0,none⟩)]] 163):=⟨_,rfl⟩;rw[←hw3];obtain⟨gj,hgj⟩:∃g,g=w2.heap.size:=⟨_,rfl⟩;have hbj:Blk w3 gj 163 #[.slice (some ⟨gr,0,none⟩) n n,.slice (some ⟨ga,0,none⟩) n n,.int .i64 0,.func (.func 35) #[] #[.pointer (some ⟨gc,0,none⟩)]]:=by rw[hw3,hgj];exact Blk.new _ _ _
 have hb3:Below w2.heap.size w2 w3:=by rw[hw3];exact al _ _
 rw[←hgj];show wpAny _ _ _ _ 1 _ _ _;refine zA (i:=7) vk rfl rfl (zl 8 (.tmp 29) rfl rfl (.pointer (some ⟨gj,0,none⟩)) rfl ?_);refine vs1 ?_;refine zR vk (zy ?_) _;obtain⟨B,hB⟩:=vx (w3.heap.size);have H1:=vh (show Below w.heap.size w w3∧Blk w3 gj 163 #[.slice (some ⟨gr,0,none⟩) n n,.slice (some ⟨ga,0,none⟩) n n,.int .i64 0,.func (.func 35) #[] #[.pointer (some ⟨gc,0,none⟩)]]∧Blk w3 gr 89 (List.replicate n ZV).flatten.toArray∧Blk w3 ga 164 ((List.range n).map fun _=>(.slice none 0 0:Value)).toArray∧B=w3.heap.size∧(w.heap.size≤gj∧w.heap.size≤gr∧w.heap.size≤ga) from⟨ze (ze hb hb2 hb.size) hb3 (ud hb.size hb2.size),hbj,(hbr.keep hb2).keep hb3,(hba.keep hb2).keep hb3,hB,by rw[hgj];exact ud hb.size hb2.size,hgr,hga⟩);clear hb hbr hba hb2 hw3 hgj hbj hb3 hB hgr hga;go_wp2_with fail;go_loopg [32] na (fun g iv wr=>∃i:Nat,iv = .int .i64 i∧i+g=na∧Hid ((∀k,k<i→(ats.getD k ([],[])).2≠[])∧Below w3.heap.size w3 wr));case atStart=>exact⟨0,rfl,jo,vh ⟨fun k hk=>absurd hk jo,ue _ _⟩⟩
 case round=>
  obtain⟨i,rfl,hio,HJ⟩:=hrel;by_cases hi:i<na
  ·have i1:((i:Int)<(na:Int)):=jo;obtain⟨x,hx⟩:∃x,ats[i]? = some x:=⟨_,uf (by rw[←HNa];omega)⟩;obtain⟨ad,cs,rfl,-,hco,hrc⟩:=HA.atA hx;obtain⟨u,b,rfl,hu,hbv⟩:=hrc;obtain⟨UA,un,uc,rfl,hunc,hUn,hUX⟩:=hu.x;obtain⟨RA,rc,rfl,-,-,-⟩:=hbv.form;obtain⟨rn,hrn⟩:∃y,y=x.2.length:=⟨_,rfl⟩;rw[←hrn] at hbv hco;rw[←hUn] at hco;have hcw:∀(j:Nat) (u:Value),[Value.slice UA un uc,.int .i64 (un:Int),.slice RA rn rc][j]? = some u→wr.cell? ((Addr.add ad (i*3)).add j)=some u:=fun j u hj=>((H1.1.trans (HJ.2.mono H1.1.size)).cell (zh (hco j u hj))).trans (hco j u hj);have HC:=vh hcw;have HU:=vh hu;have HR:=vh hbv;have HRn:=vh hrn;have HX:=vh hx;have HUn:=vh (uh hUn hunc);have HUX:=vh hUX;clear hcw hco hu hbv hrn hx hUn hUX hunc;go_upto_region 4 with (fail);refine zc (kss:=[[],[(0,34)]]) [(30,.slice ((some ad)) na tc),(32,.int .i64 ((i:Int)))] [EV (.pointer (some (Addr.add ad (i*3)))),EV (.agg #[.slice UA un uc,.int .i64 (un:Int),.slice RA rn rc])] 2 vk vt [false,false] ?_ ?_ ?_
   ·exact js
   ·exact⟨zq3,zsV,uC⟩
   intro vs w4a hb hR;refine vw1 ?_;clear hR;show wpOps _ _ _ [2,3] _ _;refine zb rfl rfl (zfX rfl ?_);refine jp 10 ?_;refine zb rfl rfl (zC (vs:=[.slice UA un uc,.int .i64 (un:Int),.slice RA rn rc]) (off:=0) rfl rfl vk rfl rfl rfl (Blk.new _ _ _) vj4 (fun j _ _ x=>zD rfl j x) ?_);intro w4 kn hg hs hbx;have hbw:Below w4a.heap.size w4a w4:=(al w4a _).grown hg (al w4a _).size (fun k e=>by cases e;exact ug _);obtain⟨g10,hgb⟩:∃g,g=w4a.heap.size:=⟨_,rfl⟩;rw[←hgb] at hbx ⊢;clear kn hg hs;unfold wpOps;have HX4:=vh hbx;have HB4:=vh (HJ.2.trans ((ze hb hbw hb.size).mono HJ.2.size));have HP:=vh HJ.1;clear hb hbw hbx hgb HJ HC;go_upto_region 5 with (fail);obtain⟨tb,htb⟩:∃t,t=((rn:Int) == 0):=⟨_,rfl⟩;have HTb:=vh htb;clear htb;refine zj (kss:=[[],[(0,36)],[(1,37)],[(2,38)]]) [(10,.pointer (some (⟨g10,0,none⟩)))] [EV (.pointer (some (⟨g10,1,none⟩))),EV (.agg #[.int .i64 ((un:Int)),.slice RA rn rc]),EV (.int .i64 ((rn:Int))),EV (.bool tb)] vk vt ?_ ?_ ?_
   ·exact js
   ·exact⟨zeg,(fun aa ww hb he hd=>za rfl (zg (cs:=[.int .i64 ((un:Int)),.slice RA rn rc]) rfl vk vk hd.1 (Blk.at_k (off:=1) (l:=[.int .i64 (un:Int),.slice RA rn rc]) HX4.out rfl hb))),(fun aa ww hb he hd=>za rfl (zq _ _ _ rfl vk (by rw[show aa.eval (.tmp 37)=_ from hd.1];exact zU (zmk (un:Int) RA rn rc ww)))),(fun aa ww hb he hd=>za rfl (zW ((rn:Int)) 0 .i64 _ _ _ _ rfl hd.1 rfl ⟨ut Value.bool (HTb.symm),ue _ _⟩)),uC⟩
   intro vs w5 hb hR;refine vw6 ?_;clear hR;have HB5:=vh (HB4.trans (hb.mono HB4.size));clear hb HX4 HB4;cases tb with
   |true=>
    have hz:yA ats n 0 (fun _=>0)=0:=zm4 (a:=x) (ui HX.out) (uo (by have h1:=HTb.out;have h2:=HRn.out;simp at h1;omega));have HZ:=vh hz;clear hz;go_wp2_with fail;refine bodyPost_ret (results_tmp2 rfl _ _ _) rfl ?_;exact⟨⟨0,rfl⟩,by rw[HZ];exact(HGc.keep H1.1).keep HB5.out,OutG.of_below (H1.1.trans (HB5.mono H1.1.size))⟩
   |false=>
    have HK:=vh (show (∀k,k<i+1→(ats.getD k ([],[])).2≠[])∧Below w3.heap.size w3 w5 from⟨fun k hk=>by
     by_cases e:k=i
     ·subst e;rw[List.getD_eq_getElem?_getD,HX];intro e2;have h1:=HTb.out;have h2:=HRn.out;rw[show x.2=[] from e2] at h2;rw[h2] at h1;simp at h1
     ·exact HP.out k jo,HB5.out⟩)
    clear HB5 HP;exact zjH
  ·obtain rfl:i=na:=jo;have i1:¬((i:Int)<(i:Int)):=jo;have HNe:=vh HJ.1;have HI:=vh (show ∃(g c:Nat→Nat) (A:Nat→Option Addr) (sv:Nat→Value),sv n = .slice none 0 0∧RnS w wr n gj gr ga B (.func (.func 35) #[] #[.pointer (some ⟨gc,0,none⟩)]) ats 0 g c A sv [] false from⟨fun _=>0,fun _=>0,fun _=>none,fun _=> .slice none 0 0,rfl,RnS.start H1.1 HJ.2 H1.2.1 H1.2.2.1 H1.2.2.2.1 H1.2.2.2.2.1⟩);clear HJ;go_wp2_with fail;go_loopg [43,11] i (fun gg iv lv wr=>∃(k:Nat) (lx:Value) (g c:Nat→Nat) (A:Nat→Option Addr) (sv:Nat→Value),iv = .int .i64 k∧lv=lx∧k+gg=i∧Hid (lx=sv n∧RnS w wr n gj gr ga B (.func (.func 35) #[] #[.pointer (some ⟨gc,0,none⟩)]) ats k g c A sv [] false));case atStart=>
    obtain⟨g,c,A,sv,h1,h2⟩:=HI.out;exact⟨0,_,g,c,A,sv,rfl,rfl,jo,vh ⟨h1.symm,h2⟩⟩
   case round=>
    clear HI;obtain⟨k,lx,g,c,A,sv,rfl,rfl,hkg,HJ⟩:=hrel;by_cases hk:k<i
    ·have i2:((k:Int)<(i:Int)):=jo;obtain⟨x,hx⟩:∃x,ats[k]? = some x:=⟨_,uf (by rw[←HNa];omega)⟩;obtain⟨ad,cs,rfl,-,hco,hrc⟩:=HA.atA hx;obtain⟨u,b,rfl,hu,hbv⟩:=hrc;obtain⟨UA,un,uc,rfl,hunc,hUn,hUX⟩:=hu.x;obtain⟨RA,rc,rfl,-,-,-⟩:=hbv.form;obtain⟨rn,hrn⟩:∃y,y=x.2.length:=⟨_,rfl⟩;rw[←hrn] at hbv hco;rw[←hUn] at hco;have hcw:∀(j:Nat) (u:Value),[Value.slice UA un uc,.int .i64 (un:Int),.slice RA rn rc][j]? = some u→wr.cell? ((Addr.add ad (k*3)).add j)=some u:=fun j u hj=>(HJ.2.b.cell (zh (hco j u hj))).trans (hco j u hj);have HC:=vh hcw;have HU:=vh hu;have HR:=vh hbv;have HRn:=vh hrn;have HX:=vh hx;have HUn:=vh (uh hUn hunc);have HUX:=vh hUX;clear hcw hco hu hbv hrn hx hUn hUX hunc;go_upto_region 11 with (fail);refine zc (kss:=[[],[(0,45)]]) [(41,.slice ((some ad)) i tc),(43,.int .i64 ((k:Int)))] [EV (.pointer (some (Addr.add ad (k*3)))),EV (.agg #[.slice UA un uc,.int .i64 (un:Int),.slice RA rn rc])] 2 vk vt [false,false] ?_ ?_ ?_
     ·exact js
     ·exact⟨zq4,zsV,uC⟩
     intro vs w4a hb hR;refine vw1 ?_;clear hR;show wpOps _ _ _ [2,3] _ _;refine zb rfl rfl (zfX rfl ?_);refine jp 13 ?_;refine zb rfl rfl (zC (vs:=[.slice UA un uc,.int .i64 (un:Int),.slice RA rn rc]) (off:=0) rfl rfl vk rfl rfl rfl (Blk.new _ _ _) vj4 (fun j _ _ x=>zD rfl j x) ?_);intro w4 kn hg hs hbx;have hbw:Below w4a.heap.size w4a w4:=(al w4a _).grown hg (al w4a _).size (fun k e=>by cases e;exact ug _);obtain⟨g13,hgb⟩:∃g,g=w4a.heap.size:=⟨_,rfl⟩;rw[←hgb] at hbx ⊢;clear kn hg hs;unfold wpOps;have hxk:ats.getD k ([],[])=x:=by rw[List.getD_eq_getElem?_getD,HX];rfl
     have HXk:=vh hxk;clear hxk;have HX4:=vh hbx;have HR4:=vh (HJ.2.below (ze hb hbw hb.size));have HLx:=vh HJ.1;clear hb hbw hbx hgb HJ HC;have hun32:un≤32:=by rw[HUn.1];have:=zd8 (HW.out x (ui HX.out)).1;omega
     go_upto_region 12 with (fail);refine zc (kss:=[[],[(0,47)],[(1,48)]]) [(13,.pointer (some (⟨g13,0,none⟩)))] [EV (.pointer (some (⟨g13,0,none⟩))),EV (.slice UA un uc),EV (.int .i64 ((un:Int)))] 3 vk vt [false,false,false] ?_ ?_ ?_
     ·exact js
     ·exact⟨zcH,(fun aa ww hb he hd=>za rfl (zd rfl vk hd.1 (by have hh:=(Blk.at_k (off:=0) (l:=[.slice UA un uc]) HX4.out rfl hb) 0 _ rfl;rw[Addr.add_mid] at hh;exact hh))),vi6,uC⟩
     intro vs w5 hb hR;refine vw4 ?_;clear hR;show wpOps _ _ _ [3,4] _ _;refine zb rfl rfl (zmQ rfl rfl rfl (zsf un hun32 w5) ?_);refine jp 50 ?_;obtain⟨w6,hw6⟩:∃x,x=w5.alloc (.cells (I64 (zu (List.replicate un 0))).toArray 3):=⟨_,rfl⟩;rw[←hw6];obtain⟨gq,hgq⟩:∃g,g=w5.heap.size:=⟨_,rfl⟩;have hxq:Blk w6 gq 3 (I64 (zu (List.replicate un 0))).toArray:=by rw[hw6,hgq];exact Blk.new _ _ _
     have hb6:Below w5.heap.size w5 w6:=by rw[hw6];exact al _ _
     rw[←hgq];refine zb rfl rfl (zl 14 (.tmp 50) rfl rfl (.slice (some ⟨gq,0,none⟩) un un) rfl ?_);refine vs1 ?_;unfold wpOps;have hbb:=ze hb hb6 hb.size;have H6:=vh (show Blk w6 gq 3 (I64 (zu (zba un 0))).toArray∧Below w4.heap.size w4 w6 from⟨by rw[zkM];exact hxq,hbb⟩);have HGq:=vh (show w4.heap.size≤gq from by rw[hgq];exact hb.size);clear hb hw6 hgq hxq hb6 hbb;go_wp2_with fail;go_loopg [53] un (fun gg iv wr=>∃q:Nat,iv = .int .i64 q∧q+gg=un∧Hid (Blk wr gq 3 (I64 (zu (zba un q))).toArray∧Below w4.heap.size w4 wr));case atStart=>exact⟨0,rfl,jo,H6⟩
     case round=>
      obtain⟨q,rfl,hqg,HJ⟩:=hrel;clear H6;by_cases hq:q<un
      ·have i3:((q:Int)<(un:Int)):=jo;go_upto_region 16 with (fail);refine zc (kss:=[[],[],[],[(0,56),(1,57)]]) [(14,.slice ((some ⟨gq,0,none⟩)) un un),(15,.int .i64 ((q:Int)))] [EV (.slice ((some ⟨gq,0,none⟩)) un un),EV (.int .i64 ((q:Int))),EV (.int .i64 ((q:Int))),EV (.pointer (some (⟨gq,q,none⟩)))] 4 vk vt [false,false,false,false] ?_ ?_ ?_
       ·exact js
       ·exact⟨vi0,vi1,vi1,(fun aa ww hb he hd=>za rfl (ZW (e:=3) (k:=q) rfl vk jo hd.1 hd.2.1)),uC⟩
       intro vs w7 hb hR;refine vs0 ?_;rw[(hR 2 jd:vs 2=_),(hR 3 jd:vs 3=_)];clear hR;have hx7:=HJ.1.keep hb;show wpOps _ _ _ [4] _ _;refine zb rfl rfl (yZ (off:=q) rfl rfl vk rfl rfl rfl hx7 (by rw[zkN];omega) (fun y=>zph un q q y) ?_);intro w8 kn hg hs hbx;have HK:=vh (show Blk w8 gq 3 (I64 (zu (zba un (q+1)))).toArray∧Below w4.heap.size w4 w8 from⟨by have hb2:Blk w8 gq 3 (yt (I64 (zu (zba un q))).toArray.toList q [.int .i64 (q:Int)]).toArray:=hbx;rw[zm2 hq] at hb2;exact hb2,(HJ.2.trans (hb.mono HJ.2.size)).grown hg (ud HJ.2.size hb.size) (fun b e=>by cases e;exact HGq.out)⟩);clear hx7 kn hg hs hbx hb HJ;exact vt87
      ·obtain rfl:q=un:=jo;have i3:¬((q:Int)<(q:Int)):=jo;have H7:=vh (show Blk wr gq 3 (I64 (zu (List.range q))).toArray∧RnS w wr n gj gr ga B (.func (.func 35) #[] #[.pointer (some ⟨gc,0,none⟩)]) ats k g c A sv [] false∧Blk wr g13 95 #[.slice UA q uc,.int .i64 (q:Int),.slice RA rn rc] from⟨by have:=HJ.1;rwa [zm1] at this,HR4.below HJ.2,HX4.keep HJ.2⟩);clear HJ HR4 HX4;go_upto_region 18 with (fail);refine zc (kss:=[[],[(0,62)],[]]) [(13,.pointer (some (⟨g13,0,none⟩))),(14,.slice ((some ⟨gq,0,none⟩)) q q)] [EV (.pointer (some (⟨g13,1,none⟩))),EV (.agg #[.int .i64 (q:Int),.slice RA rn rc]),EV (.slice ((some ⟨gq,0,none⟩)) q q)] 3 vk vt [false,false,false] ?_ ?_ ?_
       ·exact js
       ·exact⟨zeg,(fun aa ww hb he hd=>za rfl (zg (cs:=[.int .i64 (q:Int),.slice RA rn rc]) rfl vk vk hd.1 (Blk.at_k (off:=1) (l:=[.int .i64 (q:Int),.slice RA rn rc]) H7.2.2 rfl hb))),vi1,uC⟩
       intro vs w8 hb hR;refine vw9 ?_;clear hR;have hcall:Calls Tryz.prog 57 #[.agg #[.int .i64 (q:Int),.slice RA rn rc],.slice (some ⟨gq,0,none⟩) q q] w8 fun e w''=>∃v,e = .returned v∧(∃A c,v = .tuple #[.agg #[.slice A q c],.int .i64 0]∧TrG (fun y=>y<w8.heap.size∨w''.heap.size≤y) w'' A q (Yc x.2) (zaP q x.2))∧Below w8.heap.size w8 w'':=(zmY (RowsV.below HR.out (H7.2.1.b.trans (hb.mono H7.2.1.b.size))) (by rw[HUn.1];exact(HW.out x (ui HX.out)).2) hun32 (HF.out x (ui HX.out)) (H7.1.keep hb)).mono fun e w' ⟨A,c,q1,q2,q3⟩=>⟨_,q1,⟨A,c,rfl,q2⟩,q3⟩
       show wpOps _ _ _ [3,4,5,6,7,8,9] _ _;refine zb rfl rfl (zx (YS _ _ rfl vk rfl rfl hcall) ?_);clear hcall;rintro z w9 ⟨⟨An,tcn,rfl,htr⟩,hb9⟩;refine jp 65 ?_;refine zb rfl rfl (zx (zi (K:=fun v w'=>v = .tuple #[.agg #[.slice An q tcn],.int .i64 0]∧w'=w9) _ rfl ⟨rfl,rfl⟩) ?_);rintro z wz ⟨rfl,hwz⟩;rw[hwz];clear hwz;refine jp 61 ?_;refine zb rfl rfl (zx (Zl rfl rfl rfl) ?_);rintro z wz ⟨rfl,hwz⟩;rw[hwz];clear hwz;refine jp 66 ?_;refine zb rfl rfl (zx (Zl rfl rfl rfl) ?_);rintro z wz ⟨rfl,hwz⟩;rw[hwz];clear hwz;refine jp 67 ?_;refine zb rfl rfl (zjs rfl ?_);refine jp 16 ?_;refine zb rfl rfl (zC (vs:=[.slice An q tcn]) (off:=0) rfl rfl vk rfl rfl rfl (Blk.new _ _ _) (by show 0+1≤1;omega) (fun j _ _ x=>zD rfl j x) ?_);intro w10 kn hg hs hbx;refine zb rfl rfl (zl 17 (.tmp 67) rfl rfl (.int .i64 0) rfl ?_);refine vs1 ?_;have hbw:Below w9.heap.size w9 w10:=(al w9 _).grown hg (al w9 _).size (fun k e=>by cases e;exact ug _);obtain⟨g16,hgb⟩:∃g,g=w9.heap.size:=⟨_,rfl⟩;rw[←hgb] at hbx ⊢;clear kn hg hs;unfold wpOps;have h10:=ze hb (ze hb9 hbw hb9.size) hb.size;have hBw8:B≤w8.heap.size:=ud H7.2.1.lo hb.size;have H10:=vh (show RnS w wr n gj gr ga B (.func (.func 35) #[] #[.pointer (some ⟨gc,0,none⟩)]) ats k g c A sv [] false∧Below wr.heap.size wr w10∧Blk w10 g13 95 #[.slice UA q uc,.int .i64 (q:Int),.slice RA rn rc]∧Blk w10 g16 167 #[.slice An q tcn]∧TrG (fun y=>y<B) w10 An q (Yc x.2) (zaP q x.2) from⟨H7.2.1,h10,H7.2.2.keep h10,hbx,(htr.mono (fun y hy=> .inl jo)).below hbw⟩);clear hb htr hb9 hbw hgb hbx h10 hBw8 H7;have z0:=Blk.at0 H10.2.2.2.1 (ue _ _);go_wp2_with fail;refine(zkF An q tcn w10).mono ?_;rintro e w11 ⟨gn,rfl,hgn,hit,hb11⟩;clear z0;have h11:=ze H10.2.1 hb11 H10.2.1.size;have H11:=vh (show RnS w wr n gj gr ga B (.func (.func 35) #[] #[.pointer (some ⟨gc,0,none⟩)]) ats k g c A sv [] false∧Below wr.heap.size wr w11∧Blk w11 g13 95 #[.slice UA q uc,.int .i64 (q:Int),.slice RA rn rc]∧wr.heap.size≤gn∧ItB w11 gn An q tcn 0 0 0 (fun _=>(0,0))∧TrG (fun y=>y<B) w11 An q (Yc x.2) (zaP q x.2) from⟨H10.1,h11,H10.2.2.1.keep hb11,ud H10.2.1.size hgn,hit,H10.2.2.2.2.below hb11⟩);clear hgn hit hb11 h11 H10;go_upto_region 22 with (fail);refine zc (kss:=[[],[],[(1,74)]]) [(11,u11),(18,.pointer (some (⟨gn,0,none⟩)))] [EV (u11),EV (.pointer (some (⟨gn,0,none⟩))),fun zz ww=>∃g:Nat,zz = .slice (some ⟨g,0,none⟩) 1 1∧w11.heap.size≤g∧Blk ww g 170 #[.pointer (some (⟨gn,0,none⟩))]] 3 vk vt [false,false,false] ?_ ?_ ?_
       ·exact zcX
       ·exact⟨vi0,vi1,(fun aa ww hb he hd=>za rfl (zk (zP (e:=170) (k:=1) rfl vk vk jo hd.1 rfl) zn6)),uC⟩
       intro vs w12 hb hR;have r75:=hR 2 jd;refine vw0 ?_;clear hR;obtain⟨gb,e75,-,hb75⟩:=r75;rw[e75];clear e75;have h12:=ze H11.2.1 hb H11.2.1.size;have hown:=(H11.1.below h12).at_.own n (ug _);rw[←HLx] at hown;show wpOps _ _ _ [3,4] _ _;refine zb rfl rfl (yk (e:=170) (k:=1) _ _ rfl vk vk B u11 _ _ rfl hown gb _ rfl hb75 rfl rfl (by have:=zpi (fun k=>(ats.getD k ([],[])).1) g n k;omega) (ud H11.1.lo h12.size) ?_);intro u1 w13 ho hg hor kn;refine jp 76 ?_;refine zb rfl rfl (zl 11 (.tmp 76) rfl rfl u1 rfl ?_);refine vs1 ?_;unfold wpOps;rw[HLx] at hg hor;have hrn:=RnS.add (i:=k) H11.1 h12 H11.2.2.2.1 (by rw[HXk,←HUn.1];exact H11.2.2.2.2.1.below hb) (by rw[HXk,←HUn.1];exact H11.2.2.2.2.2.below hb) hg kn ho hor ztb;have hk13:KD [95] w12 w13:=KD.own ((H11.1.below h12).at_.own n (ug _)).own hg kn rfl;have H13:=vh (show RnS w w13 n gj gr ga B (.func (.func 35) #[] #[.pointer (some ⟨gc,0,none⟩)]) ats k (yv g k gn) (yv c k tcn) (yv A k An) (yv sv n u1) (x.1.take 0) true∧u1=yv sv n u1 n∧Blk w13 g13 95 #[.slice UA q uc,.int .i64 (q:Int),.slice RA rn rc] from⟨hrn,(zG _ _ _).symm,hk13.b 95 vz _ _ (H11.2.2.1.keep hb)⟩);clear hb hb75 h12 hown ho hg hor kn hrn hk13 H11;obtain⟨g2,hg2⟩:∃y,y=yv g k gn:=⟨_,rfl⟩;have hgk:g2 k=gn:=by rw[hg2,zG]
       rw[←hg2] at H13;obtain⟨c2,hc2⟩:∃y,y=yv c k tcn:=⟨_,rfl⟩;rw[←hc2] at H13;obtain⟨A2,hA2⟩:∃y,y=yv A k An:=⟨_,rfl⟩;rw[←hA2] at H13;obtain⟨sv2,hsv2⟩:∃y,y=yv sv n u1:=⟨_,rfl⟩;rw[←hsv2] at H13;have HGk:=vh hgk;clear hgk hg2 hc2 hA2 hsv2;have z0:=Blk.at0 H13.2.2 (ue _ _);go_wp2_with fail;clear z0;go_loopg [80] q (fun gg iv wr=>∃(p:Nat) (sv:Nat→Value),iv = .int .i64 p∧p+gg=q∧Hid (RnS w wr n gj gr ga B (.func (.func 35) #[] #[.pointer (some ⟨gc,0,none⟩)]) ats k g2 c2 A2 sv (x.1.take p) true∧u1=sv n));case atStart=>exact⟨0,sv2,rfl,jo,vh ⟨H13.1,H13.2.1⟩⟩
       case round=>
        obtain⟨p,sv3,rfl,hpg,HJ⟩:=hrel;by_cases hp:p<q
        ·have i4:((p:Int)<(q:Int)):=jo;obtain⟨vv,hvv⟩:∃y,x.1[p]? = some y:=⟨_,uf (by rw[←HUn.1];exact hp)⟩;have hvn:vv<n:=(HW.out x (ui HX.out)).1.2 vv (ui hvv);obtain⟨ua,rfl,hcu⟩:=zfa HUX.out hp hvv;have hcu2:=(HJ.1.b.cell (zh hcu)).trans hcu;have HCu:=vh hcu2;have HVv:=vh hvv;clear hcu hcu2 hvv;go_upto_region 25 with (fail);refine zj (kss:=[[],[(0,82)],[(1,83)]]) [(78,.slice ((some ua)) q uc),(80,.int .i64 ((p:Int)))] [EV (.pointer (some (Addr.add ua (p*1)))),EV (.int .i64 ((vv:Int))),EV (.int .i64 ((vv:Int)))] vk vt ?_ ?_ ?_
         ·exact js
         ·exact⟨zq5,zqb,vi3,uC⟩
         intro vs w14 hb hR;refine vw4 ?_;clear hR;have hr14:=HJ.1.below hb;have hov:=hr14.at_.own vv (uA hvn);have HV0:=vh hov;have HR14:=vh hr14;have HU1:=vh HJ.2;have HNe2:=vh (show gj≠ga∧(sv3 vv).ownBlock≠some gj from⟨Blk.ne_ hr14.jn hr14.at_.blk jd,yg hov.own hr14.jn jd⟩);clear hb hr14 hov HJ HCu;go_upto_region 26 with (fail);refine yn (kss:=[[],[(0,84)],[(1,85)],[(2,86)],[],[],[(5,89)],[(6,90)],[(7,91)],[],[(8,92),(9,93)],[(10,94)],[],[(12,96)],[(11,95),(13,97)],[(3,87),(4,88)],[(14,98),(15,99)]]) (PvI B ga (sv3 vv) w14) (PuE B 170 1 (sv3 vv) ((prL (fun k=>(ats.getD k ([],[])).1) g2 n k (x.1.take p) true vv).length) ((prL (fun k=>(ats.getD k ([],[])).1) g2 n k (x.1.take p) true vv)) ga 164 (((List.range n).map sv3).toArray)) [(8,.pointer (some (⟨gj,0,none⟩))),(20,.int .i64 ((vv:Int))),(18,.pointer (some (⟨gn,0,none⟩)))] [EV (.pointer (some (⟨gj,0,none⟩))),EV (.pointer (some (⟨gj,0,none⟩))),EV (.pointer (some (⟨gj,1,none⟩))),EV (.slice ((some ⟨ga,0,none⟩)) n n),EV (.int .i64 ((vv:Int))),EV (.pointer (some (⟨gj,0,none⟩))),EV (.pointer (some (⟨gj,0,none⟩))),EV (.pointer (some (⟨gj,1,none⟩))),EV (.slice ((some ⟨ga,0,none⟩)) n n),EV (.int .i64 ((vv:Int))),EV (.pointer (some (⟨ga,vv,none⟩))),EV (sv3 vv),EV (.pointer (some (⟨gn,0,none⟩))),fun zz ww=>∃g:Nat,zz = .slice (some ⟨g,0,none⟩) 1 1∧True∧Blk ww g 170 #[.pointer (some (⟨gn,0,none⟩))],fun zz ww=>OwnC ww B 170 1 zz ((prL (fun k=>(ats.getD k ([],[])).1) g2 n k (x.1.take p) true vv).length+1) ((prL (fun k=>(ats.getD k ([],[])).1) g2 n k (x.1.take p) true vv)++[.pointer (some ⟨gn,0,none⟩)])∧zcD w14 (sv3 vv) zz,EV (.pointer (some (⟨ga,vv,none⟩))),fun _ ww=>∃sv':Value,Blk ww ga 164 (Array.setIfInBounds (((List.range n).map sv3).toArray) vv sv')∧OwnC ww B 170 1 sv' ((prL (fun k=>(ats.getD k ([],[])).1) g2 n k (x.1.take p) true vv).length+1) ((prL (fun k=>(ats.getD k ([],[])).1) g2 n k (x.1.take p) true vv)++[.pointer (some ⟨gn,0,none⟩)])∧zcD w14 (sv3 vv) sv'] 17 [(14,PuA B 170 1 (sv3 vv) ((prL (fun k=>(ats.getD k ([],[])).1) g2 n k (x.1.take p) true vv).length) ((prL (fun k=>(ats.getD k ([],[])).1) g2 n k (x.1.take p) true vv))),(16,PuS ga 164 (((List.range n).map sv3).toArray))] [(14,13),(16,13),(14,16)] [(14,0),(16,1)] vk vk vk vt (PvI.start HR14.lo) (PuE.all HV0.out HR14.at_.blk) zcJ PuE.below ?_ ?_ ?_ ?_
         ·exact⟨eI,eI,eI,eI,eI,eI,eI,eI,eI,eI,eI,eI,eI,fun _ _ _ ⟨g,h1,h2,h3⟩ hb=>⟨g,h1,h2,h3.keep hb⟩,fun _ _ _ h hb=>⟨OwnC.below h.1 hb,h.2⟩,eI,fun _ _ _ ⟨sv',h1,h2,h3⟩ hb=>⟨sv',h1.keep hb,OwnC.below h2 hb,h3⟩,uC⟩
         ·exact⟨⟨fun _ _ h ht=>h.app ht,PuE.app jd rfl,⟨.inr vj0,.inr vj0,.inr vj0,.inr vj0,.inr vj0,.inr vj0,.inr vj0,.inr vj0,.inr vj0,.inr vj0,.inr vj0,.inr vj0,.inr vj0,.inl rfl,.inl rfl,.inr vj0,.inl rfl,uC⟩⟩,⟨fun _ _ h ht=>h.sto ht,PuE.sto jd rfl,⟨.inr vj0,.inr vj0,.inr vj0,.inr vj0,.inr vj0,.inr vj0,.inr vj0,.inr vj0,.inr vj0,.inr vj0,.inr vj0,.inr vj0,.inr vj0,.inl rfl,.inr vj48,.inr vj0,.inl rfl,uC⟩⟩,uC⟩
         ·exact⟨(zf rfl (fun aa ww hI hE he hd=>za rfl (zi _ rfl ⟨he.1,ue _ _⟩))),(zf rfl (fun aa ww hI hE he hd=>za rfl (Ym rfl hd.1))),(zf rfl (fun aa ww hI hE he hd=>za rfl (zw (off:=1) rfl vk hd.1))),(zf rfl (fun aa ww hI hE he hd=>za rfl (zd rfl vk hd.1 (Blk.at1 (hI.blk HR14.jn HNe2.1 HNe2.2) (ue _ _))))),(zf rfl (fun aa ww hI hE he hd=>za rfl (zi _ rfl ⟨he.2.1,ue _ _⟩))),(zf rfl (fun aa ww hI hE he hd=>za rfl (zi _ rfl ⟨he.1,ue _ _⟩))),(zf rfl (fun aa ww hI hE he hd=>za rfl (Ym rfl hd.1))),(zf rfl (fun aa ww hI hE he hd=>za rfl (zw (off:=1) rfl vk hd.1))),(zf rfl (fun aa ww hI hE he hd=>za rfl (zd rfl vk hd.1 (Blk.at1 (hI.blk HR14.jn HNe2.1 HNe2.2) (ue _ _))))),(zf rfl (fun aa ww hI hE he hd=>za rfl (zi _ rfl ⟨he.2.1,ue _ _⟩))),(zf rfl (fun aa ww hI hE he hd=>za rfl (ZW (e:=164) (k:=vv) rfl vk jo hd.1 hd.2.1))),(zf rfl (fun aa ww hI hE he hd=>za rfl (zd rfl vk hd.1 (zpe (hE 1 vk) hvn)))),(zf rfl (fun aa ww hI hE he hd=>za rfl (zi _ rfl ⟨he.2.2.1,ue _ _⟩))),(zf rfl (fun aa ww hI hE he hd=>have hb:=ue ww.heap.size ww;za rfl (zk (zP (e:=170) (k:=1) rfl vk vk jo hd.1 rfl) zlg))),(yx rfl rfl (fun aa ww hI hE he hd=>(by obtain⟨g9,h1,h2,h3⟩:=hd.2.1;exact zk (Yb (s:= .tmp 95) (x:= .tmp 97) (e:=170) (k:=1) rfl vk vk B (sv3 vv) _ _ hd.1 (hE 0 vk) g9 _ h1 h3 rfl rfl (by have:=zm5 (fun k=>(ats.getD k ([],[])).1) g2 n k (x.1.take p) true vv;omega) hI.size) zqh))),(zf rfl (fun aa ww hI hE he hd=>za rfl (ZW (e:=164) (k:=vv) rfl vk jo hd.1 hd.2.1))),(yx rfl rfl (fun aa ww hI hE he hd=>(by have h1:=hd.1;exact zk (Yt (g:=ga) (off:=vv) rfl vk hd.2.1 rfl h1.1.ok (hE 1 vk) vj2 (Yk HV0.ok (zto sv3 hvn))) zqi))),uC⟩
         intro vs w15 hI hR;obtain⟨sv',hbx,hos,hnb⟩:=hR 16 jd vk;clear hR;refine Yr vk (zy ?_) _;refine vs0 ?_;have hat:=HR14.at_.push hvn hI hbx hos hnb;have hws:vv∉x.1.take p:=zm6 (HW.out x (ui HX.out)).1 HVv.out;have hat2:=hat.congr (L':=prL (fun k=>(ats.getD k ([],[])).1) g2 n k (x.1.take (p+1)) true) (fun v hv=>by rw[←yX HVv.out,←zpg hvn hws v,HGk]);have hkd:KD [3,89,205,211,163] w14 w15:=hI.kd HR14.at_.blk rfl HV0.out rfl;have hb15:Below w.heap.size w w15:=HR14.b.trans (hI.o.below HR14.b.size (fun y e=>by rcases e with e | e;rw[e];exact H1.2.2.2.2.2.2.2;exact ud ztb (HV0.own.lt y e.symm).1));have HK:=vh (show RnS w w15 n gj gr ga B (.func (.func 35) #[] #[.pointer (some ⟨gc,0,none⟩)]) ats k g2 c2 A2 (yv sv3 vv sv') (x.1.take (p+1)) true∧u1=yv sv3 vv sv' n from⟨HR14.kd hkd hb15 hI.size hat2,by rw[zI _ _ jo];exact HU1.out⟩);clear hI hbx hos hnb hat hws hat2 hkd hb15 HV0 HR14 HNe2 HU1;go_wp2_with fail;go_roundg (gk - 1);case measure=>omega
         case rel=>exact⟨p+1,yv sv3 vv sv',vj1,jo,HK⟩
        ·obtain rfl:p=q:=jo;have i4:¬((p:Int)<(p:Int)):=jo;have hfull:x.1.take p=(ats.getD k ([],[])).1:=by rw[HXk,HUn.1,List.take_length]
         have hr:=HJ.1;rw[hfull] at hr;have HK:=vh (show u1=sv3 n∧RnS w wr n gj gr ga B (.func (.func 35) #[] #[.pointer (some ⟨gc,0,none⟩)]) ats (k+1) g2 c2 A2 sv3 [] false from⟨HJ.2,hr.next⟩);clear HJ H13 hr hfull;go_wp2_with fail;go_roundg (i - (k+1));case measure=>omega
         case rel=>exact⟨k+1,u1,g2,c2,A2,sv3,vj1,rfl,jo,HK⟩
    ·obtain rfl:k=i:=jo;have i2:¬((k:Int)<(k:Int)):=jo;have hr:=HJ.2;have hkn:k=ats.length:=HNa.out;have hr2:RnS w wr n gj gr ga B (.func (.func 35) #[] #[.pointer (some ⟨gc,0,none⟩)]) ats ats.length g c A sv [] false:=by rw[←hkn];exact hr
     have hgcw:Blk wr gc 36 #[.int .u64 ((0:Nat):Int)]:=HGc.keep hr.b;have hok:(mkJ n gj gr ga gc ats g c A sv).Ok wr:=hr2.ok hgcw hn (by rw[←hkn];omega) HW.out HF.out HCv.out ⟨by rw[H1.2.2.2.2.1];exact H1.2.1.lt,by rw[H1.2.2.2.2.1];exact H1.2.2.1.lt,by rw[H1.2.2.2.2.1];exact H1.2.2.2.1.lt⟩;have hst:(mkJ n gj gr ga gc ats g c A sv).St wr 0:=⟨⟨0,hr2.jn⟩,hr2.rw_,hgcw⟩;have hpre:PreOk ats 0 (fun _=>0):=PreOk.start fun a ha=>by
      obtain⟨j,hj,e⟩:=List.getElem_of_mem ha;have:=HNe.out j (by rw[HNa];exact hj);rw[List.getD_eq_getElem?_getD,uf hj,e] at this;exact this
     have hat:∀j,j<(mkJ n gj gr ga gc ats g c A sv).na→AtQ wr ((mkJ n gj gr ga gc ats g c A sv).I j) (yO ((mkJ n gj gr ga gc ats g c A sv).at_ j) 0 (fun _=>0)):=fun j hj=>by
      have h0:yO ((mkJ n gj gr ga gc ats g c A sv).at_ j) 0 (fun _=>0)=[]:=by unfold yO;rw[zcz];rfl
      rw[h0];exact(hr2.it j (.inl hj)).1.congr fun q hq=>absurd hq jo
     have hall:=hr2.all hgcw;have hglo:∀j,j<ats.length→w.heap.size≤g j:=fun j hj=>ud ztb (hr2.glo j (.inl hj));have HE:=vh (uh hok (uh hst (uh hpre (uh hat (uh hall (uh hr.b hglo))))));have HLx:=vh HJ.1;clear hr hkn hr2 hgcw hok hst hpre hat hall hglo HJ;go_wp2_with fail;refine(zih (mkJ n gj gr ga gc ats g c A sv) n 0 (fun _=>0) wr 0 (Nat.zero_add _) HE.1 HE.2.2.1 HE.2.2.2.1 HE.2.1 (by rw[Nat.zero_add];exact HLm.out)).mono ?_;rintro e w5 ⟨rfl,hat5,hst5,ho5⟩;rw[Nat.zero_add] at hst5;obtain⟨LA,lc,hl1,hl2⟩:=HE.2.2.2.2.1;rw[HLx,hl1,←HNa];have H5:=vh (show (mkJ n gj gr ga gc ats g c A sv).St w5 (yA ats n 0 fun _=>0)∧(∀j,j<k→ItB w5 (g j) (A j) (ats.getD j ([],[])).1.length (c j) 0 0 0 (fun _=>(0,0)))∧RdG (mkJ n gj gr ga gc ats g c A sv).G w5 170 1 LA k ((List.range k).map fun k=> .pointer (some ⟨g k,0,none⟩))∧OutG (fun y=>y=gc) w w5 from⟨hst5,fun j hj=>by
      have h1:=hat5 j (by show j<ats.length;rw[←HNa];exact hj)
      have h0:yO ((mkJ n gj gr ga gc ats g c A sv).at_ j) 0 (fun _=>0)=[]:=by unfold yO;rw[zcz];rfl
      rw[h0] at h1
      exact h1.congr fun q hq=>absurd hq (Nat.not_lt_zero _),by rw[HNa];exact hl2.out ho5,zsg HE.2.2.2.2.2.1 ho5 (fun y hy hlt=>zpj H1.2.2.2.2.2 (fun j hj=>HE.2.2.2.2.2.2 j hj) hy hlt)⟩)
     clear hat5 hst5 ho5 hl1 hl2 HE;go_wp2_with fail;go_loopg [106] k (fun gg iv wr=>∃q:Nat,iv = .int .i64 q∧q+gg=k∧Hid ((mkJ n gj gr ga gc ats g c A sv).St wr (yA ats n 0 fun _=>0)∧(∀j,j<k→ItB wr (g j) (A j) (ats.getD j ([],[])).1.length (c j) 0 0 0 (fun _=>(0,0)))∧RdG (mkJ n gj gr ga gc ats g c A sv).G wr 170 1 LA k ((List.range k).map fun k=> .pointer (some ⟨g k,0,none⟩))∧OutG (fun y=>y=gc) w wr));case atStart=>exact⟨0,rfl,jo,H5⟩
     case round=>
      clear H5;obtain⟨q,rfl,hqg,HJ⟩:=hrel;by_cases hq:q<k
      ·have i5:((q:Int)<(k:Int)):=jo;obtain⟨la,rfl,hcl⟩:=HJ.2.2.1.cell (j:=q) (u:= .pointer (some ⟨g q,0,none⟩)) (by simp[hq]);obtain⟨gq,hgq⟩:∃y,y=g q:=⟨_,rfl⟩;rw[←hgq] at hcl;have HCl:=vh hcl;have HGq:=vh hgq;clear hcl hgq;go_upto_region 32 with (fail);refine zj (kss:=[[],[(0,108)],[(1,109)]]) [(104,.slice ((some la)) k lc),(106,.int .i64 ((q:Int)))] [EV (.pointer (some (Addr.add la (q*1)))),EV (.pointer (some (⟨gq,0,none⟩))),EV (.pointer (some (⟨gq,0,none⟩)))] vk vt ?_ ?_ ?_
       ·exact js
       ·exact⟨zq0,(fun aa ww hb he hd=>za rfl (zd rfl vk hd.1 (by rw[Nat.mul_one];exact(hb.cell (zh HCl.out)).trans HCl.out))),vi3,uC⟩
       intro vs w6 hb hR;refine vw4 ?_;clear hR;have HB6:=vh hb;obtain⟨z,hz⟩:=HJ.1.jn;have hz':Blk w6 gj 163 #[.slice (some ⟨gr,0,none⟩) n n,.slice (some ⟨ga,0,none⟩) n n,.int .i64 z,.func (.func 35) #[] #[.pointer (some ⟨gc,0,none⟩)]]:=Blk.keep hz hb;obtain⟨z2,hz2⟩:∃z:Int,∀ww,Below w6.heap.size w6 ww→Calls Tryz.prog 60 #[.pointer (some ⟨gq,0,none⟩)] ww fun e w'=>e = .returned (.int .i64 z)∧Below ww.heap.size ww w':=by rw[HGq];exact zm7 ((HJ.2.1 q hq).below hb)
       have HZ:=vh hz';have HZ2:=vh hz2;clear hz hz' hz2 hb HCl;go_upto_region 33 with (fail);refine zt (kss:=[[],[(0,110)],[(1,111)],[(2,112)],[],[(4,114)],[(3,113),(5,115)],[(0,110)],[(7,117)]]) [(8,.pointer (some (⟨gj,0,none⟩))),(22,.pointer (some (⟨gq,0,none⟩)))] [EV (.pointer (some (⟨gj,0,none⟩))),EV (.pointer (some (⟨gj,0,none⟩))),EV (.pointer (some (⟨gj,2,none⟩))),EV (.int .i64 z),EV (.pointer (some (⟨gq,0,none⟩))),EV (.int .i64 z2),EV (.int .i64 (IntKind.i64.wrap (z+z2))),EV (.pointer (some (⟨gj,0,none⟩))),EV (.pointer (some (⟨gj,2,none⟩)))] 9 [] vk vk vt [false,false,false,false,false,false,false,false,false] ?_ ?_ ?_ ?_
       ·exact fun i hi=>absurd hi vz
       ·exact js
       ·exact⟨vi0,vi5,zcj,zqZ,vi1,(fun aa ww hb he hd=>za rfl (zq _ _ _ rfl vk (by rw[show aa.eval (.tmp 114)=_ from hd.1];exact zU (HZ2.out ww hb)))),(fun aa ww hb he hd=>za rfl (zd0 z z2 rfl hd.1 hd.2.1)),vi5,zcj,uC⟩
       intro vs w7 hb hR _;have e116:vs 6=_:=hR 6 jd;have e118:vs 8=_:=hR 8 jd;clear hR;refine vs0 ?_;rw[e116,e118];clear e116 e118;have hz7:=HZ.keep hb;show wpAny _ _ _ _ 1 _ _ _;refine zA (i:=9) vk rfl rfl (yZ (off:=2) rfl rfl vk rfl rfl rfl hz7 (by show 2<4;omega) (fun x=>Yk (i:=2) (v:= .int .i64 z) rfl rfl x) ?_);intro w8 kn hg hs hbx;have hog:OutG (fun y=>y=gj) wr w8:=(OutG.of_below (ze HB6.out hb HB6.size)).trans (OutG.of_grown hg rfl);have hne:=HJ.1.ne;have HK:=vh (show (mkJ n gj gr ga gc ats g c A sv).St w8 (yA ats n 0 fun _=>0)∧(∀j,j<k→ItB w8 (g j) (A j) (ats.getD j ([],[])).1.length (c j) 0 0 0 (fun _=>(0,0)))∧RdG (mkJ n gj gr ga gc ats g c A sv).G w8 170 1 (some la) k ((List.range k).map fun k=> .pointer (some ⟨g k,0,none⟩))∧OutG (fun y=>y=gc) w w8 from⟨by
        obtain⟨cs,a1,a2⟩:=HJ.1.rw_
        exact⟨⟨_,hbx⟩,⟨cs,hog.blk a1 (fun e=>hne.1 e.symm),a2⟩,hog.blk HJ.1.ct (fun e=>hne.2.1 e.symm)⟩,fun j hj=>(HJ.2.1 j hj).out hog (HJ.1.nei (HJ.2.1 j hj)).1,HJ.2.2.1.out (hog.mono fun y _ e=> .inl e),zpk HJ.2.2.2 hog H1.2.2.2.2.2.1⟩)
       clear hz7 kn hg hs hbx hog hne hb HB6 HZ HZ2 HJ;refine zR vk (zy ?_) _;go_wp2_with fail;go_roundg (gk - 1);case measure=>omega
       case rel=>exact⟨q+1,vj1,jo,HK⟩
      ·obtain rfl:q=k:=jo;have i5:¬((q:Int)<(q:Int)):=jo;obtain⟨z,hz⟩:=HJ.1.jn;have hz':Blk wr gj 163 #[.slice (some ⟨gr,0,none⟩) n n,.slice (some ⟨ga,0,none⟩) n n,.int .i64 z,.func (.func 35) #[] #[.pointer (some ⟨gc,0,none⟩)]]:=hz;have z0:=Blk.at2 hz' (ue _ _);have HZ:=vh (uh HJ.1.ct HJ.2.2.2);clear hz hz' HJ;go_wp2_with fail;refine bodyPost_ret (results_tmp2 rfl _ _ _) rfl ?_;exact⟨⟨z,rfl⟩,HZ.1,HZ.2⟩
end Go.Proofs.YtoecdobelolkeaaGreatDoor
