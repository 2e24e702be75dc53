/-
  Part of the proof: see the last text.
-/
import Derived.Test.YthbfmjlcnfgnbaaGreatZWh
set_option linter.unusedVariables false
set_option maxHeartbeats 8000000
open Go.IntKind renaming i64→bg
open Go.IntWalk renaming i64_in→dz
open List renaming mem_cons→ag,not_mem_nil→ae,replicate→az
open Nat renaming le_of_ble_eq_true→ae8,succ_pos→aO
open Go.Proofs.Tryz renaming f43→aeS,prog→aa
section
namespace Go.Proofs
open Go.Sm Go.RowKit En
def mulR (x y:Int×Int):Int×Int:=(Nc x.1 x.2 y.1 y.2,Nf x.1 x.2 y.1 y.2)
def wR (x y:Int×Int):Bool:=Co false x.1 x.2 y.1 y.2
def Cs (v u:V6):V6:=⟨UT v.a v.b v.c v.d v.e v.f u.a u.b u.c u.d u.e u.f,UU v.a v.b v.c v.d v.e v.f u.a u.b u.c u.d u.e u.f,UW v.a v.b v.c v.d v.e v.f u.a u.b u.c u.d u.e u.f,UX v.a v.b v.c v.d v.e v.f u.a u.b u.c u.d u.e u.f,UY v.a v.b v.c v.d v.e v.f u.a u.b u.c u.d u.e u.f,UZ v.a v.b v.c v.d v.e v.f u.a u.b u.c u.d u.e u.f⟩
def El (v u:V6):Bool:=BP false v.a v.b v.c v.d v.e v.f u.a u.b u.c u.d u.e u.f
theorem Ej (c:Bool) (a0 a1 a2 a3:Int):Co c a0 a1 a2 a3=(c||Co false a0 a1 a2 a3):=by unfold Co; cases c<;>simp
theorem MX (c:Bool) (a0 a1 a2 a3:Int):wI c a0 a1 a2 a3=(c||wI false a0 a1 a2 a3):=by unfold wI; cases c<;>simp
theorem U1 (c:Bool) (a0 a1 a2 a3 a4 a5 a6 a7 a8 a9 a10 a11:Int):BP c a0 a1 a2 a3 a4 a5 a6 a7 a8 a9 a10 a11=(c||BP false a0 a1 a2 a3 a4 a5 a6 a7 a8 a9 a10 a11):=by unfold BP; cases c<;>simp
theorem DK (c:Bool) (a0 a1 a2 a3 a4 a5 a6 a7 a8 a9 a10 a11:Int):DJ c a0 a1 a2 a3 a4 a5 a6 a7 a8 a9 a10 a11=(c||DJ false a0 a1 a2 a3 a4 a5 a6 a7 a8 a9 a10 a11):=by unfold DJ; cases c<;>simp
theorem DT (c:Bool) (a0 a1 a2 a3 a4 a5 a6 a7:Int):DR c a0 a1 a2 a3 a4 a5 a6 a7=(c||DR false a0 a1 a2 a3 a4 a5 a6 a7):=by unfold DR; cases c<;>simp
def gU (neq:Bool) (ri rj:Int×Int):Int×Int:=bif neq then qH (mulR ri rj) (mulR ri rj) else mulR ri rj
def gF (turn:Bool) (ax vn:V6):V6:=bif turn then Cs ax vn else .z
def u7 (neq turn:Bool) (s:V6) (ri rj:Int×Int) (ax vn:V6):V6:=plusV s (iK (gF turn ax vn) (gU neq ri rj))
def xg (neq turn f:Bool) (s:V6) (ri rj:Int×Int) (ax vn:V6):Bool :=
 (((bif turn then (bif neq then (f||wR ri rj)||wI false (mulR ri rj).1 (mulR ri rj).2 (mulR ri rj).1 (mulR ri rj).2 else f||wR ri rj)||El ax vn else (bif neq then (f||wR ri rj)||wI false (mulR ri rj).1 (mulR ri rj).2 (mulR ri rj).1 (mulR ri rj).2 else f||wR ri rj))||tJ false (gF turn ax vn) (gU neq ri rj))||uZ false s (iK (gF turn ax vn) (gU neq ri rj)))
def z6:List Value:=[.int .i64 0,.int .i64 0,.int .i64 0,.int .i64 0,.int .i64 0,.int .i64 0]
def V6.l (v:V6):List Int:=[v.a,v.b,v.c,v.d,v.e,v.f]
def DU:List Value:=fK 84 [(2,dM 0),(3,.pointer (some ⟨0,0,some 0⟩)),(4,.pointer (some ⟨1,0,some 0⟩)),(6,.pointer (some ⟨2,0,some 0⟩)),(7,.pointer (some ⟨3,0,some 0⟩)),(18,dM 1),(19,var 1),(20,var 0)]
def VA:List Value:=fK 84 [(2,dM 0),(3,.pointer (some ⟨0,0,some 0⟩)),(4,.pointer (some ⟨1,0,some 0⟩)),(6,.pointer (some ⟨2,0,some 0⟩)),(7,.pointer (some ⟨3,0,some 0⟩))]
def BZ:List Value:=fK 84 [(2,dM 0),(3,.pointer (some ⟨0,0,some 0⟩)),(4,.pointer (some ⟨1,0,some 0⟩)),(6,.pointer (some ⟨2,0,some 0⟩)),(7,.pointer (some ⟨3,0,some 0⟩)),(18,dM 1),(19,var 1),(20,var 0),(8,var 0),(9,var 9),(29,dM 7),(30,var 11),(31,var 10)]
def oC:Hp:=[dQ [mB 1 [.int .i64 0]] 88]
def vD:Hp:=[dQ [.pointer (some ⟨0,0,none⟩),dM 3,dM 4,dM 5,dM 6] 92,dQ [var 2,dM 1,dM 2] 95,dQ (.pointer none::z6) 98,dQ (.pointer (some ⟨0,0,none⟩)::iE 3) 98]
def AZ (k n wt:Int) (s:V6):List Int:=[k,n,wt]++s.l
def J7 (k n wt:Int) (s:V6) (j i m:Int):List Int:=AZ k n wt s++[j,i,m]
def EW (neq turn:Bool) (k n wt:Int) (s:V6) (j i m ii:Int) (ri rj:Int×Int) (ax vn:V6) (kd:Int):List Int:=J7 k n wt s j i m++[ii,ri.1,ri.2,rj.1,rj.2]++ax.l++vn.l++[kd,(mulR ri rj).1,(mulR ri rj).2,(qH (mulR ri rj) (mulR ri rj)).1,(qH (mulR ri rj) (mulR ri rj)).2]++(Cs ax vn).l++(iK (gF turn ax vn) (gU neq ri rj)).l++(u7 neq turn s ri rj ax vn).l
def Ed (neq turn f:Bool) (s:V6) (ri rj:Int×Int) (ax vn:V6):List Bool:=[f,wR ri rj,wI false (mulR ri rj).1 (mulR ri rj).2 (mulR ri rj).1 (mulR ri rj).2,El ax vn,tJ false (gF turn ax vn) (gU neq ri rj),uZ false s (iK (gF turn ax vn) (gU neq ri rj))]
def Ma (W:dY) (n3 n4 n6 n7:Nat):List (Option Value):=dS 84 [(2,dJ W),(3,dK n3),(4,dK n4),(6,dK n6),(7,dK n7)]
def tK (W J:dY) (n3 n4 n6 n7:Nat) (k:Int):List (Option Value):=dS 84 [(2,dJ W),(3,dK n3),(4,dK n4),(6,dK n6),(7,dK n7),(18,dJ J),(19,num (J.2.1:Nat)),(20,num k)]
def jA (J:dY) (k:Int):dY:=(J.1,(k+1).toNat,J.2.2)
def su (W J:dY) (n3 n4 n6 n7:Nat) (k j i:Int):List (Option Value):=dS 84 [(2,dJ W),(3,dK n3),(4,dK n4),(6,dK n6),(7,dK n7),(18,dJ J),(19,num (J.2.1:Nat)),(20,num k),(8,num k),(9,num j),(29,dJ (jA J k)),(30,num ((jA J k).2.1:Nat)),(31,num i)]
def jg (nc:Nat) (f:Bool):List gQ:=[(nc,[.bool f],88)]
def j6 (nc n3 n4 n6 n7:Nat) (B3 B4 B5 B6 J V:dY) (wt:Int) (s:V6):List gQ:=[(n3,[dK nc,dJ B3,dJ B4,dJ B5,dJ B6],92),(n4,[num wt,dJ J,dJ V],95),(n6,.pointer none::z6,98),(n7,s.cs nc,98)]
variable {w0 w:World} {nc n3 n4 n6 n7:Nat} {W J V B3 B4 B5 B6:dY} {k wt:Int} {s:V6} {f:Bool} {a:Act} {Q:Exit→Act→World→Prop} {D:Code}
theorem abp (hown:∀g∈[nc]++[n3,n4,n6,n7],g∈[nc]∨w0.heap.size≤g) (hnd:([nc]++[n3,n4,n6,n7]).Nodup) (hlt:k<(J.2.1:Nat)) (h:dP (tK W J n3 n4 n6 n7 k) (jg nc f) (j6 nc n3 n4 n6 n7 B3 B4 B5 B6 J V wt s) a w) (hk:dO w0 [nc] w) (hQ:∀a' w',dP (tK W J n3 n4 n6 n7 k) (jg nc f) (j6 nc n3 n4 n6 n7 B3 B4 B5 B6 J V wt s) a' w'→dO w0 [nc] w'→D.wp aa Q a' w'):(fB [dZ (iW (dN aeS)),dZ (fU (iW (dN aeS)))] D).wp aa Q a w :=
 uf (AZ k (J.2.1:Nat) wt s) [f] [W,J,V,B3,B4,B5,B6] (g:=[(mB 20 [var 0,var 1],.bool true)]) (wt:=[]) (lt:=[]) (sb:=[]) (T:=[]) (K:=[]) (RT:=[]) (wb:=[]) (ws:=[]) (fr:=DU) (H:=oC) (lo:=vD) 43 _ [0] [0,1,2,3] (by kernel_rfl) (by kernel_rfl) (by exact hnd) ⟨o8 (by exact decide_eq_true hlt),gG,gD,fT,il _ _,fw (by exact hown),gH,fun _=>iI⟩ h hk hQ
theorem abr (hown:∀g∈[nc]++[n3,n4,n6,n7],g∈[nc]∨w0.heap.size≤g) (hnd:([nc]++[n3,n4,n6,n7]).Nodup) (hlt:¬k<(J.2.1:Nat)) (h:dP (tK W J n3 n4 n6 n7 k) (jg nc f) (j6 nc n3 n4 n6 n7 B3 B4 B5 B6 J V wt s) a w) (hk:dO w0 [nc] w) (hQ:∀a' w',dP (tK W J n3 n4 n6 n7 k) (jg nc f) (j6 nc n3 n4 n6 n7 B3 B4 B5 B6 J V wt s) a' w'→dO w0 [nc] w'→Q (.exit 0) a' w'):(iW (dN aeS)).wp aa Q a w :=
 j4 (AZ k (J.2.1:Nat) wt s) [f] [W,J,V,B3,B4,B5,B6] (g:=[(mB 20 [var 0,var 1],.bool false)]) (wt:=[]) (lt:=[]) (sb:=[]) (T:=[]) (K:=[]) (RT:=[]) (wb:=[]) (ws:=[]) (fr:=DU) (H:=oC) (lo:=vD) 43 (.exit 0) [0] [0,1,2,3] (by kernel_rfl) (by kernel_rfl) (by exact hnd) ⟨o8 (by exact decide_eq_false hlt),gG,gD,fT,il _ _,fw (by exact hown),gH,fun _=>iI⟩ h hk hQ
theorem aby (hown:∀g∈[nc]++[n3,n4,n6,n7],g∈[nc]∨w0.heap.size≤g) (hnd:([nc]++[n3,n4,n6,n7]).Nodup) (h:dP (tK W J n3 n4 n6 n7 k) (jg nc f) (j6 nc n3 n4 n6 n7 B3 B4 B5 B6 J V wt s) a w) (hk:dO w0 [nc] w) (hQ:∀a' w',dP (tK W J n3 n4 n6 n7 (bg.wrap (k+1))) (jg nc f) (j6 nc n3 n4 n6 n7 B3 B4 B5 B6 J V wt s) a' w'→dO w0 [nc] w'→Q .normal a' w'):(sR 3 (iW (dN aeS))).wp aa Q a w :=
 j4 (AZ k (J.2.1:Nat) wt s) [f] [W,J,V,B3,B4,B5,B6] (g:=[]) (wt:=[]) (lt:=[]) (sb:=[]) (T:=[]) (K:=[]) (RT:=[]) (wb:=[]) (ws:=[]) (fr:=DU) (H:=oC) (lo:=vD) 43 .normal [0] [0,1,2,3] (by kernel_rfl) (by kernel_rfl) (by exact hnd) ⟨ed _,gG,gD,fT,il _ _,fw (by exact hown),gH,fun _=>iI⟩ h hk hQ
variable {j:Int} {bJ oJ:Nat}
theorem abq (eJ:J.1=some ⟨bJ,oJ,none⟩) (h0:0≤k) (h1:k<(J.2.1:Nat)) (h2:J.2.1≤J.2.2) (h3:k<1000000) (lJ:bJ<w0.heap.size) (nJ:bJ≠nc) (cJ:∀(q:Nat) (x:Value),[num j][q]?=some x→w0.cell? ⟨bJ,oJ+k.toNat*1+q,none⟩=some x)
  (hown:∀g∈[nc]++[n3,n4,n6,n7],g∈[nc]∨w0.heap.size≤g) (hnd:([nc]++[n3,n4,n6,n7]).Nodup) (h:dP (tK W J n3 n4 n6 n7 k) (jg nc f) (j6 nc n3 n4 n6 n7 B3 B4 B5 B6 J V wt s) a w) (hk:dO w0 [nc] w) (hQ:∀a' w',dP (su W J n3 n4 n6 n7 k j 0) (jg nc (f)) (j6 nc n3 n4 n6 n7 B3 B4 B5 B6 J V wt (s)) a' w'→dO w0 [nc] w'→D.wp aa Q a' w'):(fB [dZ (rD (dN aeS)),dZ (fU (rD (dN aeS)))] D).wp aa Q a w:=by
 refine uf (J7 k (J.2.1:Nat) wt s j 0 ((jA J k).2.1:Nat)) [f] [W,J,V,B3,B4,B5,B6,jA J k] (g:=[]) (wt:=[(1,var 0,1,4)]) (lt:=[(7,var 11)]) (sb:=[(1,mI 2 [var 0,.int .i64 1],7)]) (T:=[]) (K:=[]) (RT:=[]) (wb:=[dU [var 9]]) (ws:=[(bJ,oJ+k.toNat*1,[num j])]) (fr:=DU) (H:=oC) (lo:=vD) 43 _ [0] [0,1,2,3] (by kernel_rfl) (by kernel_rfl) (by exact hnd) ⟨ed _,gG,gD,fT,?_,fw (by exact hown),gH,fun _=>?_⟩ h hk hQ
 ·intro x hx
  simp only [ag,ae,or_false] at hx
  subst hx
  exact ⟨⟨lJ,by simpa using nJ⟩,aO _,cJ⟩
 ·refine ⟨fun e he=>?_,fun e he=>?_,fun e he=>?_⟩
  ·simp only [fG,ag,ae,or_false] at he
   subst he
   exact ⟨⟨bJ,oJ,none⟩,J.2.1,J.2.2,k,2,(by show J=_; rw [←eJ]),rfl,rfl,h0,h1,rfl,rfl⟩
  ·simp only [fG,ag,ae,or_false] at he
   subst he
   exact ⟨2,by kernel_rfl⟩
  ·simp only [fG,ag,ae,or_false] at he
   subst he
   have e9:bg.wrap (k+1)=k+1:=dz _ (by omega)
   refine ⟨(by show 7<1000000; exact ae8 rfl),k+1,3,?_,by omega,(by show k+1≤((J.2.2:Nat):Int); omega),rfl⟩
   rw [←e9]
   kernel_rfl
variable {i:Int}
theorem abC (hown:∀g∈[nc]++[n3,n4,n6,n7],g∈[nc]∨w0.heap.size≤g) (hnd:([nc]++[n3,n4,n6,n7]).Nodup) (hlt:¬i<((jA J k).2.1:Nat)) (h:dP (su W J n3 n4 n6 n7 k j i) (jg nc (f)) (j6 nc n3 n4 n6 n7 B3 B4 B5 B6 J V wt (s)) a w) (hk:dO w0 [nc] w) (hQ:∀a' w',dP (tK W J n3 n4 n6 n7 k) (jg nc f) (j6 nc n3 n4 n6 n7 B3 B4 B5 B6 J V wt s) a' w'→dO w0 [nc] w'→Q (.exit 2) a' w'):(nP (dN aeS)).wp aa Q a w :=
 j4 (J7 k (J.2.1:Nat) wt s j i ((jA J k).2.1:Nat)) [f] [W,J,V,B3,B4,B5,B6,jA J k] (g:=[(mB 20 [var 10,var 11],.bool false)]) (wt:=[]) (lt:=[]) (sb:=[]) (T:=[]) (K:=[]) (RT:=[]) (wb:=[]) (ws:=[]) (fr:=BZ) (H:=oC) (lo:=vD) 43 (.exit 2) [0] [0,1,2,3] (by kernel_rfl) (by kernel_rfl) (by exact hnd) ⟨o8 (by exact decide_eq_false hlt),gG,gD,fT,il _ _,fw (by exact hown),gH,fun _=>iI⟩ h hk hQ
variable {ii kd:Int} {ri rj:Int×Int} {ax vn:V6} {nm:ByteArray} {bW oW bK oK bX oX bV oV:Nat}
theorem abu (eJ:J.1=some ⟨bJ,oJ,none⟩) (eW:W.1=some ⟨bW,oW,none⟩) (eK:B3.1=some ⟨bK,oK,none⟩) (eX:B5.1=some ⟨bX,oX,none⟩) (eV:V.1=some ⟨bV,oV,none⟩)
  (h0:0≤i) (h1:i<((jA J k).2.1:Nat)) (h2:0≤ii) (h3:ii<(W.2.1:Nat)) (h4:0≤j) (h5:j<(W.2.1:Nat)) (h6:ii<(B3.2.1:Nat)) (h7:ii<(B5.2.1:Nat)) (h8:0≤k) (h9:k<(V.2.1:Nat)) (hne:(ii != j)=false) (htu:kG kd=false)
  (lJ:bJ<w0.heap.size∧bJ≠nc) (lW:bW<w0.heap.size∧bW≠nc) (lK:bK<w0.heap.size∧bK≠nc) (lX:bX<w0.heap.size∧bX≠nc) (lV:bV<w0.heap.size∧bV≠nc) (cJ:∀(q:Nat) (x:Value),[num ii][q]?=some x→w0.cell? ⟨bJ,oJ+i.toNat*1+q,none⟩=some x) (cI:∀(q:Nat) (x:Value),[num ri.1,num ri.2][q]?=some x→w0.cell? ⟨bW,oW+ii.toNat*2+q,none⟩=some x) (cW:∀(q:Nat) (x:Value),[num rj.1,num rj.2][q]?=some x→w0.cell? ⟨bW,oW+j.toNat*2+q,none⟩=some x)
  (cK:∀(q:Nat) (x:Value),[.string nm,num kd][q]?=some x→w0.cell? ⟨bK,oK+ii.toNat*12+q,none⟩=some x) (cX:∀(q:Nat) (x:Value),(ax.cs nc)[q]?=some x→w0.cell? ⟨bX,oX+ii.toNat*7+q,none⟩=some x) (cV:∀(q:Nat) (x:Value),(vn.cs nc)[q]?=some x→w0.cell? ⟨bV,oV+k.toNat*7+q,none⟩=some x)
  (hown:∀g∈[nc]++[n3,n4,n6,n7],g∈[nc]∨w0.heap.size≤g) (hnd:([nc]++[n3,n4,n6,n7]).Nodup) (h:dP (su W J n3 n4 n6 n7 k j i) (jg nc (f)) (j6 nc n3 n4 n6 n7 B3 B4 B5 B6 J V wt (s)) a w) (hk:dO w0 [nc] w) (hQ:∀a' w',dP (su W J n3 n4 n6 n7 k j (bg.wrap (i+1))) (jg nc (xg false false f s ri rj ax vn)) (j6 nc n3 n4 n6 n7 B3 B4 B5 B6 J V wt (u7 false false s ri rj ax vn)) a' w'→dO w0 [nc] w'→Q .normal a' w'):(nP (dN aeS)).wp aa Q a w:=by
 refine j4 (EW false false k (J.2.1:Nat) wt s j i ((jA J k).2.1:Nat) ii ri rj ax vn kd) (Ed false false f s ri rj ax vn) [W,J,V,B3,B4,B5,B6,jA J k] (g:=[(mB 20 [var 10,var 11],.bool true),(mB 25 [var 12,var 9],.bool false),(mB 1242 [var 29],.bool false)]) (wt:=[(7,var 10,1,4),(0,var 12,2,5),(0,var 9,2,6),(3,var 12,12,7),(5,var 12,7,8),(2,var 0,7,9)]) (lt:=[]) (sb:=[]) (T:=[⟨53,[.pointer (some ⟨0,0,none⟩),.agg ⟨[var 13,var 14]⟩,.agg ⟨[var 15,var 16]⟩],.agg ⟨[var 30,var 31]⟩,mB 1 [.int .i64 1],[]⟩,⟨77,[.agg ⟨.pointer (some ⟨0,0,none⟩)::z6⟩,.agg ⟨[var 30,var 31]⟩],.agg ⟨.pointer (some ⟨0,0,none⟩)::iE 40⟩,mB 1 [.int .i64 4],[]⟩,⟨76,[.agg ⟨.pointer (some ⟨0,0,none⟩)::iE 3⟩,.agg ⟨.pointer (some ⟨0,0,none⟩)::iE 40⟩],.agg ⟨.pointer (some ⟨0,0,none⟩)::iE 46⟩,mB 1 [.int .i64 5],[]⟩]) (K:=[]) (RT:=[]) (wb:=[dU [var 12],dU [var 13,var 14],dU [var 15,var 16],dU [.string nm,var 29],dU (.pointer (some ⟨0,0,none⟩)::iE 17),dU (.pointer (some ⟨0,0,none⟩)::iE 23)]) (ws:=[(bJ,oJ+i.toNat*1,[num ii]),(bW,oW+ii.toNat*2,[num ri.1,num ri.2]),(bW,oW+j.toNat*2,[num rj.1,num rj.2]),(bK,oK+ii.toNat*12,[.string nm,num kd]),(bX,oX+ii.toNat*7,ax.cs nc),(bV,oV+k.toNat*7,vn.cs nc)]) (fr:=BZ) (H:=oC) (lo:=vD) 43 .normal [0] [0,1,2,3] (by kernel_rfl) (by kernel_rfl) (by exact hnd) ⟨?_,?_,gD,fT,?_,fw (by exact hown),gH,fun _=>?_⟩ h hk hQ
 ·refine o7 ⟨300,.bool true,(show _=some (.bool (decide (i<((jA J k).2.1:Nat)))) by kernel_rfl).trans (by rw [decide_eq_true h1]),rfl⟩ (o7 ⟨300,.bool false,(show _=some (.bool (ii != j)) by kernel_rfl).trans (by rw [hne]),rfl⟩ (o7 ⟨300,.bool false,(show _=some (.bool (kG kd)) by kernel_rfl).trans (by rw [htu]),rfl⟩ (ed _)))
 ·intro t ht
  simp only [ag,ae,or_false] at ht
  rcases ht with rfl | rfl | rfl
  ·exact ⟨rfl,fun nc c w _ _ hw=>⟨[dK nc,.agg ⟨[num ri.1,num ri.2]⟩,.agg ⟨[num rj.1,num rj.2]⟩],.agg ⟨[num (mulR ri rj).1,num (mulR ri rj).2]⟩,wR ri rj,by kernel_rfl,by kernel_rfl,by kernel_rfl,(Ei nc c ri.1 ri.2 rj.1 rj.2 w hw).mono (fun r w' ⟨q1,q2⟩=>⟨q1,by rw [Ej] at q2; exact q2⟩)⟩⟩
  ·exact ⟨rfl,fun nc c w _ _ hw=>⟨[(gF false ax vn).val nc,.agg ⟨[num (gU false ri rj).1,num (gU false ri rj).2]⟩],(iK (gF false ax vn) (gU false ri rj)).val nc,tJ false (gF false ax vn) (gU false ri rj),by kernel_rfl,by kernel_rfl,by kernel_rfl,(GZ nc c (gF false ax vn).a (gF false ax vn).b (gF false ax vn).c (gF false ax vn).d (gF false ax vn).e (gF false ax vn).f (gU false ri rj).1 (gU false ri rj).2 w hw).mono (fun r w' ⟨q1,q2⟩=>⟨q1,by rw [DT] at q2; exact q2⟩)⟩⟩
  ·exact ⟨rfl,fun nc c w _ _ hw=>⟨[s.val nc,(iK (gF false ax vn) (gU false ri rj)).val nc],(u7 false false s ri rj ax vn).val nc,uZ false s (iK (gF false ax vn) (gU false ri rj)),by kernel_rfl,by kernel_rfl,by kernel_rfl,(GY nc c s.a s.b s.c s.d s.e s.f (iK (gF false ax vn) (gU false ri rj)).a (iK (gF false ax vn) (gU false ri rj)).b (iK (gF false ax vn) (gU false ri rj)).c (iK (gF false ax vn) (gU false ri rj)).d (iK (gF false ax vn) (gU false ri rj)).e (iK (gF false ax vn) (gU false ri rj)).f w hw).mono (fun r w' ⟨q1,q2⟩=>⟨q1,by rw [DK] at q2; exact q2⟩)⟩⟩
 ·intro x hx
  simp only [ag,ae,or_false] at hx
  rcases hx with rfl | rfl | rfl | rfl | rfl | rfl
  ·exact ⟨⟨lJ.1,by simpa using lJ.2⟩,aO _,cJ⟩
  ·exact ⟨⟨lW.1,by simpa using lW.2⟩,aO _,cI⟩
  ·exact ⟨⟨lW.1,by simpa using lW.2⟩,aO _,cW⟩
  ·exact ⟨⟨lK.1,by simpa using lK.2⟩,aO _,cK⟩
  ·exact ⟨⟨lX.1,by simpa using lX.2⟩,aO _,cX⟩
  ·exact ⟨⟨lV.1,by simpa using lV.2⟩,aO _,cV⟩
 ·refine ⟨fun e he=>?_,(fun e he=>by cases he),fun e he=>by cases he⟩
  simp only [fG,ag,ae,or_false] at he
  rcases he with rfl | rfl | rfl | rfl | rfl | rfl
  ·exact ⟨⟨bJ,oJ,none⟩,(jA J k).2.1,J.2.2,i,2,(by show jA J k=_; rw [←eJ]; rfl),rfl,rfl,h0,h1,rfl,rfl⟩
  ·exact ⟨⟨bW,oW,none⟩,W.2.1,W.2.2,ii,2,(by show W=_; rw [←eW]),rfl,rfl,h2,h3,rfl,rfl⟩
  ·exact ⟨⟨bW,oW,none⟩,W.2.1,W.2.2,j,2,(by show W=_; rw [←eW]),rfl,rfl,h4,h5,rfl,rfl⟩
  ·exact ⟨⟨bK,oK,none⟩,B3.2.1,B3.2.2,ii,2,(by show B3=_; rw [←eK]),rfl,rfl,h2,h6,rfl,rfl⟩
  ·exact ⟨⟨bX,oX,none⟩,B5.2.1,B5.2.2,ii,2,(by show B5=_; rw [←eX]),rfl,rfl,h2,h7,rfl,rfl⟩
  ·exact ⟨⟨bV,oV,none⟩,V.2.1,V.2.2,k,2,(by show V=_; rw [←eV]),rfl,rfl,h8,h9,rfl,rfl⟩
theorem abv (eJ:J.1=some ⟨bJ,oJ,none⟩) (eW:W.1=some ⟨bW,oW,none⟩) (eK:B3.1=some ⟨bK,oK,none⟩) (eX:B5.1=some ⟨bX,oX,none⟩) (eV:V.1=some ⟨bV,oV,none⟩)
  (h0:0≤i) (h1:i<((jA J k).2.1:Nat)) (h2:0≤ii) (h3:ii<(W.2.1:Nat)) (h4:0≤j) (h5:j<(W.2.1:Nat)) (h6:ii<(B3.2.1:Nat)) (h7:ii<(B5.2.1:Nat)) (h8:0≤k) (h9:k<(V.2.1:Nat)) (hne:(ii != j)=false) (htu:kG kd=true)
  (lJ:bJ<w0.heap.size∧bJ≠nc) (lW:bW<w0.heap.size∧bW≠nc) (lK:bK<w0.heap.size∧bK≠nc) (lX:bX<w0.heap.size∧bX≠nc) (lV:bV<w0.heap.size∧bV≠nc) (cJ:∀(q:Nat) (x:Value),[num ii][q]?=some x→w0.cell? ⟨bJ,oJ+i.toNat*1+q,none⟩=some x) (cI:∀(q:Nat) (x:Value),[num ri.1,num ri.2][q]?=some x→w0.cell? ⟨bW,oW+ii.toNat*2+q,none⟩=some x) (cW:∀(q:Nat) (x:Value),[num rj.1,num rj.2][q]?=some x→w0.cell? ⟨bW,oW+j.toNat*2+q,none⟩=some x)
  (cK:∀(q:Nat) (x:Value),[.string nm,num kd][q]?=some x→w0.cell? ⟨bK,oK+ii.toNat*12+q,none⟩=some x) (cX:∀(q:Nat) (x:Value),(ax.cs nc)[q]?=some x→w0.cell? ⟨bX,oX+ii.toNat*7+q,none⟩=some x) (cV:∀(q:Nat) (x:Value),(vn.cs nc)[q]?=some x→w0.cell? ⟨bV,oV+k.toNat*7+q,none⟩=some x)
  (hown:∀g∈[nc]++[n3,n4,n6,n7],g∈[nc]∨w0.heap.size≤g) (hnd:([nc]++[n3,n4,n6,n7]).Nodup) (h:dP (su W J n3 n4 n6 n7 k j i) (jg nc (f)) (j6 nc n3 n4 n6 n7 B3 B4 B5 B6 J V wt (s)) a w) (hk:dO w0 [nc] w) (hQ:∀a' w',dP (su W J n3 n4 n6 n7 k j (bg.wrap (i+1))) (jg nc (xg false true f s ri rj ax vn)) (j6 nc n3 n4 n6 n7 B3 B4 B5 B6 J V wt (u7 false true s ri rj ax vn)) a' w'→dO w0 [nc] w'→Q .normal a' w'):(nP (dN aeS)).wp aa Q a w:=by
 refine j4 (EW false true k (J.2.1:Nat) wt s j i ((jA J k).2.1:Nat) ii ri rj ax vn kd) (Ed false true f s ri rj ax vn) [W,J,V,B3,B4,B5,B6,jA J k] (g:=[(mB 20 [var 10,var 11],.bool true),(mB 25 [var 12,var 9],.bool false),(mB 1242 [var 29],.bool true)]) (wt:=[(7,var 10,1,4),(0,var 12,2,5),(0,var 9,2,6),(3,var 12,12,7),(5,var 12,7,8),(2,var 0,7,9)]) (lt:=[]) (sb:=[]) (T:=[⟨53,[.pointer (some ⟨0,0,none⟩),.agg ⟨[var 13,var 14]⟩,.agg ⟨[var 15,var 16]⟩],.agg ⟨[var 30,var 31]⟩,mB 1 [.int .i64 1],[]⟩,⟨74,[.agg ⟨.pointer (some ⟨0,0,none⟩)::iE 17⟩,.agg ⟨.pointer (some ⟨0,0,none⟩)::iE 23⟩],.agg ⟨.pointer (some ⟨0,0,none⟩)::iE 34⟩,mB 1 [.int .i64 3],[]⟩,⟨77,[.agg ⟨.pointer (some ⟨0,0,none⟩)::iE 34⟩,.agg ⟨[var 30,var 31]⟩],.agg ⟨.pointer (some ⟨0,0,none⟩)::iE 40⟩,mB 1 [.int .i64 4],[]⟩,⟨76,[.agg ⟨.pointer (some ⟨0,0,none⟩)::iE 3⟩,.agg ⟨.pointer (some ⟨0,0,none⟩)::iE 40⟩],.agg ⟨.pointer (some ⟨0,0,none⟩)::iE 46⟩,mB 1 [.int .i64 5],[]⟩]) (K:=[]) (RT:=[]) (wb:=[dU [var 12],dU [var 13,var 14],dU [var 15,var 16],dU [.string nm,var 29],dU (.pointer (some ⟨0,0,none⟩)::iE 17),dU (.pointer (some ⟨0,0,none⟩)::iE 23)]) (ws:=[(bJ,oJ+i.toNat*1,[num ii]),(bW,oW+ii.toNat*2,[num ri.1,num ri.2]),(bW,oW+j.toNat*2,[num rj.1,num rj.2]),(bK,oK+ii.toNat*12,[.string nm,num kd]),(bX,oX+ii.toNat*7,ax.cs nc),(bV,oV+k.toNat*7,vn.cs nc)]) (fr:=BZ) (H:=oC) (lo:=vD) 43 .normal [0] [0,1,2,3] (by kernel_rfl) (by kernel_rfl) (by exact hnd) ⟨?_,?_,gD,fT,?_,fw (by exact hown),gH,fun _=>?_⟩ h hk hQ
 ·refine o7 ⟨300,.bool true,(show _=some (.bool (decide (i<((jA J k).2.1:Nat)))) by kernel_rfl).trans (by rw [decide_eq_true h1]),rfl⟩ (o7 ⟨300,.bool false,(show _=some (.bool (ii != j)) by kernel_rfl).trans (by rw [hne]),rfl⟩ (o7 ⟨300,.bool true,(show _=some (.bool (kG kd)) by kernel_rfl).trans (by rw [htu]),rfl⟩ (ed _)))
 ·intro t ht
  simp only [ag,ae,or_false] at ht
  rcases ht with rfl | rfl | rfl | rfl
  ·exact ⟨rfl,fun nc c w _ _ hw=>⟨[dK nc,.agg ⟨[num ri.1,num ri.2]⟩,.agg ⟨[num rj.1,num rj.2]⟩],.agg ⟨[num (mulR ri rj).1,num (mulR ri rj).2]⟩,wR ri rj,by kernel_rfl,by kernel_rfl,by kernel_rfl,(Ei nc c ri.1 ri.2 rj.1 rj.2 w hw).mono (fun r w' ⟨q1,q2⟩=>⟨q1,by rw [Ej] at q2; exact q2⟩)⟩⟩
  ·exact ⟨rfl,fun nc c w _ _ hw=>⟨[ax.val nc,vn.val nc],(Cs ax vn).val nc,El ax vn,by kernel_rfl,by kernel_rfl,by kernel_rfl,(U0 nc c ax.a ax.b ax.c ax.d ax.e ax.f vn.a vn.b vn.c vn.d vn.e vn.f w hw).mono (fun r w' ⟨q1,q2⟩=>⟨q1,by rw [U1] at q2; exact q2⟩)⟩⟩
  ·exact ⟨rfl,fun nc c w _ _ hw=>⟨[(gF true ax vn).val nc,.agg ⟨[num (gU false ri rj).1,num (gU false ri rj).2]⟩],(iK (gF true ax vn) (gU false ri rj)).val nc,tJ false (gF true ax vn) (gU false ri rj),by kernel_rfl,by kernel_rfl,by kernel_rfl,(GZ nc c (gF true ax vn).a (gF true ax vn).b (gF true ax vn).c (gF true ax vn).d (gF true ax vn).e (gF true ax vn).f (gU false ri rj).1 (gU false ri rj).2 w hw).mono (fun r w' ⟨q1,q2⟩=>⟨q1,by rw [DT] at q2; exact q2⟩)⟩⟩
  ·exact ⟨rfl,fun nc c w _ _ hw=>⟨[s.val nc,(iK (gF true ax vn) (gU false ri rj)).val nc],(u7 false true s ri rj ax vn).val nc,uZ false s (iK (gF true ax vn) (gU false ri rj)),by kernel_rfl,by kernel_rfl,by kernel_rfl,(GY nc c s.a s.b s.c s.d s.e s.f (iK (gF true ax vn) (gU false ri rj)).a (iK (gF true ax vn) (gU false ri rj)).b (iK (gF true ax vn) (gU false ri rj)).c (iK (gF true ax vn) (gU false ri rj)).d (iK (gF true ax vn) (gU false ri rj)).e (iK (gF true ax vn) (gU false ri rj)).f w hw).mono (fun r w' ⟨q1,q2⟩=>⟨q1,by rw [DK] at q2; exact q2⟩)⟩⟩
 ·intro x hx
  simp only [ag,ae,or_false] at hx
  rcases hx with rfl | rfl | rfl | rfl | rfl | rfl
  ·exact ⟨⟨lJ.1,by simpa using lJ.2⟩,aO _,cJ⟩
  ·exact ⟨⟨lW.1,by simpa using lW.2⟩,aO _,cI⟩
  ·exact ⟨⟨lW.1,by simpa using lW.2⟩,aO _,cW⟩
  ·exact ⟨⟨lK.1,by simpa using lK.2⟩,aO _,cK⟩
  ·exact ⟨⟨lX.1,by simpa using lX.2⟩,aO _,cX⟩
  ·exact ⟨⟨lV.1,by simpa using lV.2⟩,aO _,cV⟩
 ·refine ⟨fun e he=>?_,(fun e he=>by cases he),fun e he=>by cases he⟩
  simp only [fG,ag,ae,or_false] at he
  rcases he with rfl | rfl | rfl | rfl | rfl | rfl
  ·exact ⟨⟨bJ,oJ,none⟩,(jA J k).2.1,J.2.2,i,2,(by show jA J k=_; rw [←eJ]; rfl),rfl,rfl,h0,h1,rfl,rfl⟩
  ·exact ⟨⟨bW,oW,none⟩,W.2.1,W.2.2,ii,2,(by show W=_; rw [←eW]),rfl,rfl,h2,h3,rfl,rfl⟩
  ·exact ⟨⟨bW,oW,none⟩,W.2.1,W.2.2,j,2,(by show W=_; rw [←eW]),rfl,rfl,h4,h5,rfl,rfl⟩
  ·exact ⟨⟨bK,oK,none⟩,B3.2.1,B3.2.2,ii,2,(by show B3=_; rw [←eK]),rfl,rfl,h2,h6,rfl,rfl⟩
  ·exact ⟨⟨bX,oX,none⟩,B5.2.1,B5.2.2,ii,2,(by show B5=_; rw [←eX]),rfl,rfl,h2,h7,rfl,rfl⟩
  ·exact ⟨⟨bV,oV,none⟩,V.2.1,V.2.2,k,2,(by show V=_; rw [←eV]),rfl,rfl,h8,h9,rfl,rfl⟩
theorem abw (eJ:J.1=some ⟨bJ,oJ,none⟩) (eW:W.1=some ⟨bW,oW,none⟩) (eK:B3.1=some ⟨bK,oK,none⟩) (eX:B5.1=some ⟨bX,oX,none⟩) (eV:V.1=some ⟨bV,oV,none⟩)
  (h0:0≤i) (h1:i<((jA J k).2.1:Nat)) (h2:0≤ii) (h3:ii<(W.2.1:Nat)) (h4:0≤j) (h5:j<(W.2.1:Nat)) (h6:ii<(B3.2.1:Nat)) (h7:ii<(B5.2.1:Nat)) (h8:0≤k) (h9:k<(V.2.1:Nat)) (hne:(ii != j)=true) (htu:kG kd=false)
  (lJ:bJ<w0.heap.size∧bJ≠nc) (lW:bW<w0.heap.size∧bW≠nc) (lK:bK<w0.heap.size∧bK≠nc) (lX:bX<w0.heap.size∧bX≠nc) (lV:bV<w0.heap.size∧bV≠nc) (cJ:∀(q:Nat) (x:Value),[num ii][q]?=some x→w0.cell? ⟨bJ,oJ+i.toNat*1+q,none⟩=some x) (cI:∀(q:Nat) (x:Value),[num ri.1,num ri.2][q]?=some x→w0.cell? ⟨bW,oW+ii.toNat*2+q,none⟩=some x) (cW:∀(q:Nat) (x:Value),[num rj.1,num rj.2][q]?=some x→w0.cell? ⟨bW,oW+j.toNat*2+q,none⟩=some x)
  (cK:∀(q:Nat) (x:Value),[.string nm,num kd][q]?=some x→w0.cell? ⟨bK,oK+ii.toNat*12+q,none⟩=some x) (cX:∀(q:Nat) (x:Value),(ax.cs nc)[q]?=some x→w0.cell? ⟨bX,oX+ii.toNat*7+q,none⟩=some x) (cV:∀(q:Nat) (x:Value),(vn.cs nc)[q]?=some x→w0.cell? ⟨bV,oV+k.toNat*7+q,none⟩=some x)
  (hown:∀g∈[nc]++[n3,n4,n6,n7],g∈[nc]∨w0.heap.size≤g) (hnd:([nc]++[n3,n4,n6,n7]).Nodup) (h:dP (su W J n3 n4 n6 n7 k j i) (jg nc (f)) (j6 nc n3 n4 n6 n7 B3 B4 B5 B6 J V wt (s)) a w) (hk:dO w0 [nc] w) (hQ:∀a' w',dP (su W J n3 n4 n6 n7 k j (bg.wrap (i+1))) (jg nc (xg true false f s ri rj ax vn)) (j6 nc n3 n4 n6 n7 B3 B4 B5 B6 J V wt (u7 true false s ri rj ax vn)) a' w'→dO w0 [nc] w'→Q .normal a' w'):(nP (dN aeS)).wp aa Q a w:=by
 refine j4 (EW true false k (J.2.1:Nat) wt s j i ((jA J k).2.1:Nat) ii ri rj ax vn kd) (Ed true false f s ri rj ax vn) [W,J,V,B3,B4,B5,B6,jA J k] (g:=[(mB 20 [var 10,var 11],.bool true),(mB 25 [var 12,var 9],.bool true),(mB 1242 [var 29],.bool false)]) (wt:=[(7,var 10,1,4),(0,var 12,2,5),(0,var 9,2,6),(3,var 12,12,7),(5,var 12,7,8),(2,var 0,7,9)]) (lt:=[]) (sb:=[]) (T:=[⟨53,[.pointer (some ⟨0,0,none⟩),.agg ⟨[var 13,var 14]⟩,.agg ⟨[var 15,var 16]⟩],.agg ⟨[var 30,var 31]⟩,mB 1 [.int .i64 1],[]⟩,⟨78,[.pointer (some ⟨0,0,none⟩),.agg ⟨[var 30,var 31]⟩,.agg ⟨[var 30,var 31]⟩],.agg ⟨[var 32,var 33]⟩,mB 1 [.int .i64 2],[]⟩,⟨77,[.agg ⟨.pointer (some ⟨0,0,none⟩)::z6⟩,.agg ⟨[var 32,var 33]⟩],.agg ⟨.pointer (some ⟨0,0,none⟩)::iE 40⟩,mB 1 [.int .i64 4],[]⟩,⟨76,[.agg ⟨.pointer (some ⟨0,0,none⟩)::iE 3⟩,.agg ⟨.pointer (some ⟨0,0,none⟩)::iE 40⟩],.agg ⟨.pointer (some ⟨0,0,none⟩)::iE 46⟩,mB 1 [.int .i64 5],[]⟩]) (K:=[]) (RT:=[]) (wb:=[dU [var 12],dU [var 13,var 14],dU [var 15,var 16],dU [.string nm,var 29],dU (.pointer (some ⟨0,0,none⟩)::iE 17),dU (.pointer (some ⟨0,0,none⟩)::iE 23)]) (ws:=[(bJ,oJ+i.toNat*1,[num ii]),(bW,oW+ii.toNat*2,[num ri.1,num ri.2]),(bW,oW+j.toNat*2,[num rj.1,num rj.2]),(bK,oK+ii.toNat*12,[.string nm,num kd]),(bX,oX+ii.toNat*7,ax.cs nc),(bV,oV+k.toNat*7,vn.cs nc)]) (fr:=BZ) (H:=oC) (lo:=vD) 43 .normal [0] [0,1,2,3] (by kernel_rfl) (by kernel_rfl) (by exact hnd) ⟨?_,?_,gD,fT,?_,fw (by exact hown),gH,fun _=>?_⟩ h hk hQ
 ·refine o7 ⟨300,.bool true,(show _=some (.bool (decide (i<((jA J k).2.1:Nat)))) by kernel_rfl).trans (by rw [decide_eq_true h1]),rfl⟩ (o7 ⟨300,.bool true,(show _=some (.bool (ii != j)) by kernel_rfl).trans (by rw [hne]),rfl⟩ (o7 ⟨300,.bool false,(show _=some (.bool (kG kd)) by kernel_rfl).trans (by rw [htu]),rfl⟩ (ed _)))
 ·intro t ht
  simp only [ag,ae,or_false] at ht
  rcases ht with rfl | rfl | rfl | rfl
  ·exact ⟨rfl,fun nc c w _ _ hw=>⟨[dK nc,.agg ⟨[num ri.1,num ri.2]⟩,.agg ⟨[num rj.1,num rj.2]⟩],.agg ⟨[num (mulR ri rj).1,num (mulR ri rj).2]⟩,wR ri rj,by kernel_rfl,by kernel_rfl,by kernel_rfl,(Ei nc c ri.1 ri.2 rj.1 rj.2 w hw).mono (fun r w' ⟨q1,q2⟩=>⟨q1,by rw [Ej] at q2; exact q2⟩)⟩⟩
  ·exact ⟨rfl,fun nc c w _ _ hw=>⟨[dK nc,.agg ⟨[num (mulR ri rj).1,num (mulR ri rj).2]⟩,.agg ⟨[num (mulR ri rj).1,num (mulR ri rj).2]⟩],.agg ⟨[num (qH (mulR ri rj) (mulR ri rj)).1,num (qH (mulR ri rj) (mulR ri rj)).2]⟩,wI false (mulR ri rj).1 (mulR ri rj).2 (mulR ri rj).1 (mulR ri rj).2,by kernel_rfl,by kernel_rfl,by kernel_rfl,(MW nc c _ _ _ _ w hw).mono (fun r w' ⟨q1,q2⟩=>⟨q1,by rw [MX] at q2; exact q2⟩)⟩⟩
  ·exact ⟨rfl,fun nc c w _ _ hw=>⟨[(gF false ax vn).val nc,.agg ⟨[num (gU true ri rj).1,num (gU true ri rj).2]⟩],(iK (gF false ax vn) (gU true ri rj)).val nc,tJ false (gF false ax vn) (gU true ri rj),by kernel_rfl,by kernel_rfl,by kernel_rfl,(GZ nc c (gF false ax vn).a (gF false ax vn).b (gF false ax vn).c (gF false ax vn).d (gF false ax vn).e (gF false ax vn).f (gU true ri rj).1 (gU true ri rj).2 w hw).mono (fun r w' ⟨q1,q2⟩=>⟨q1,by rw [DT] at q2; exact q2⟩)⟩⟩
  ·exact ⟨rfl,fun nc c w _ _ hw=>⟨[s.val nc,(iK (gF false ax vn) (gU true ri rj)).val nc],(u7 true false s ri rj ax vn).val nc,uZ false s (iK (gF false ax vn) (gU true ri rj)),by kernel_rfl,by kernel_rfl,by kernel_rfl,(GY nc c s.a s.b s.c s.d s.e s.f (iK (gF false ax vn) (gU true ri rj)).a (iK (gF false ax vn) (gU true ri rj)).b (iK (gF false ax vn) (gU true ri rj)).c (iK (gF false ax vn) (gU true ri rj)).d (iK (gF false ax vn) (gU true ri rj)).e (iK (gF false ax vn) (gU true ri rj)).f w hw).mono (fun r w' ⟨q1,q2⟩=>⟨q1,by rw [DK] at q2; exact q2⟩)⟩⟩
 ·intro x hx
  simp only [ag,ae,or_false] at hx
  rcases hx with rfl | rfl | rfl | rfl | rfl | rfl
  ·exact ⟨⟨lJ.1,by simpa using lJ.2⟩,aO _,cJ⟩
  ·exact ⟨⟨lW.1,by simpa using lW.2⟩,aO _,cI⟩
  ·exact ⟨⟨lW.1,by simpa using lW.2⟩,aO _,cW⟩
  ·exact ⟨⟨lK.1,by simpa using lK.2⟩,aO _,cK⟩
  ·exact ⟨⟨lX.1,by simpa using lX.2⟩,aO _,cX⟩
  ·exact ⟨⟨lV.1,by simpa using lV.2⟩,aO _,cV⟩
 ·refine ⟨fun e he=>?_,(fun e he=>by cases he),fun e he=>by cases he⟩
  simp only [fG,ag,ae,or_false] at he
  rcases he with rfl | rfl | rfl | rfl | rfl | rfl
  ·exact ⟨⟨bJ,oJ,none⟩,(jA J k).2.1,J.2.2,i,2,(by show jA J k=_; rw [←eJ]; rfl),rfl,rfl,h0,h1,rfl,rfl⟩
  ·exact ⟨⟨bW,oW,none⟩,W.2.1,W.2.2,ii,2,(by show W=_; rw [←eW]),rfl,rfl,h2,h3,rfl,rfl⟩
  ·exact ⟨⟨bW,oW,none⟩,W.2.1,W.2.2,j,2,(by show W=_; rw [←eW]),rfl,rfl,h4,h5,rfl,rfl⟩
  ·exact ⟨⟨bK,oK,none⟩,B3.2.1,B3.2.2,ii,2,(by show B3=_; rw [←eK]),rfl,rfl,h2,h6,rfl,rfl⟩
  ·exact ⟨⟨bX,oX,none⟩,B5.2.1,B5.2.2,ii,2,(by show B5=_; rw [←eX]),rfl,rfl,h2,h7,rfl,rfl⟩
  ·exact ⟨⟨bV,oV,none⟩,V.2.1,V.2.2,k,2,(by show V=_; rw [←eV]),rfl,rfl,h8,h9,rfl,rfl⟩
theorem abx (eJ:J.1=some ⟨bJ,oJ,none⟩) (eW:W.1=some ⟨bW,oW,none⟩) (eK:B3.1=some ⟨bK,oK,none⟩) (eX:B5.1=some ⟨bX,oX,none⟩) (eV:V.1=some ⟨bV,oV,none⟩)
  (h0:0≤i) (h1:i<((jA J k).2.1:Nat)) (h2:0≤ii) (h3:ii<(W.2.1:Nat)) (h4:0≤j) (h5:j<(W.2.1:Nat)) (h6:ii<(B3.2.1:Nat)) (h7:ii<(B5.2.1:Nat)) (h8:0≤k) (h9:k<(V.2.1:Nat)) (hne:(ii != j)=true) (htu:kG kd=true)
  (lJ:bJ<w0.heap.size∧bJ≠nc) (lW:bW<w0.heap.size∧bW≠nc) (lK:bK<w0.heap.size∧bK≠nc) (lX:bX<w0.heap.size∧bX≠nc) (lV:bV<w0.heap.size∧bV≠nc) (cJ:∀(q:Nat) (x:Value),[num ii][q]?=some x→w0.cell? ⟨bJ,oJ+i.toNat*1+q,none⟩=some x) (cI:∀(q:Nat) (x:Value),[num ri.1,num ri.2][q]?=some x→w0.cell? ⟨bW,oW+ii.toNat*2+q,none⟩=some x) (cW:∀(q:Nat) (x:Value),[num rj.1,num rj.2][q]?=some x→w0.cell? ⟨bW,oW+j.toNat*2+q,none⟩=some x)
  (cK:∀(q:Nat) (x:Value),[.string nm,num kd][q]?=some x→w0.cell? ⟨bK,oK+ii.toNat*12+q,none⟩=some x) (cX:∀(q:Nat) (x:Value),(ax.cs nc)[q]?=some x→w0.cell? ⟨bX,oX+ii.toNat*7+q,none⟩=some x) (cV:∀(q:Nat) (x:Value),(vn.cs nc)[q]?=some x→w0.cell? ⟨bV,oV+k.toNat*7+q,none⟩=some x)
  (hown:∀g∈[nc]++[n3,n4,n6,n7],g∈[nc]∨w0.heap.size≤g) (hnd:([nc]++[n3,n4,n6,n7]).Nodup) (h:dP (su W J n3 n4 n6 n7 k j i) (jg nc (f)) (j6 nc n3 n4 n6 n7 B3 B4 B5 B6 J V wt (s)) a w) (hk:dO w0 [nc] w) (hQ:∀a' w',dP (su W J n3 n4 n6 n7 k j (bg.wrap (i+1))) (jg nc (xg true true f s ri rj ax vn)) (j6 nc n3 n4 n6 n7 B3 B4 B5 B6 J V wt (u7 true true s ri rj ax vn)) a' w'→dO w0 [nc] w'→Q .normal a' w'):(nP (dN aeS)).wp aa Q a w:=by
 refine j4 (EW true true k (J.2.1:Nat) wt s j i ((jA J k).2.1:Nat) ii ri rj ax vn kd) (Ed true true f s ri rj ax vn) [W,J,V,B3,B4,B5,B6,jA J k] (g:=[(mB 20 [var 10,var 11],.bool true),(mB 25 [var 12,var 9],.bool true),(mB 1242 [var 29],.bool true)]) (wt:=[(7,var 10,1,4),(0,var 12,2,5),(0,var 9,2,6),(3,var 12,12,7),(5,var 12,7,8),(2,var 0,7,9)]) (lt:=[]) (sb:=[]) (T:=[⟨53,[.pointer (some ⟨0,0,none⟩),.agg ⟨[var 13,var 14]⟩,.agg ⟨[var 15,var 16]⟩],.agg ⟨[var 30,var 31]⟩,mB 1 [.int .i64 1],[]⟩,⟨78,[.pointer (some ⟨0,0,none⟩),.agg ⟨[var 30,var 31]⟩,.agg ⟨[var 30,var 31]⟩],.agg ⟨[var 32,var 33]⟩,mB 1 [.int .i64 2],[]⟩,⟨74,[.agg ⟨.pointer (some ⟨0,0,none⟩)::iE 17⟩,.agg ⟨.pointer (some ⟨0,0,none⟩)::iE 23⟩],.agg ⟨.pointer (some ⟨0,0,none⟩)::iE 34⟩,mB 1 [.int .i64 3],[]⟩,⟨77,[.agg ⟨.pointer (some ⟨0,0,none⟩)::iE 34⟩,.agg ⟨[var 32,var 33]⟩],.agg ⟨.pointer (some ⟨0,0,none⟩)::iE 40⟩,mB 1 [.int .i64 4],[]⟩,⟨76,[.agg ⟨.pointer (some ⟨0,0,none⟩)::iE 3⟩,.agg ⟨.pointer (some ⟨0,0,none⟩)::iE 40⟩],.agg ⟨.pointer (some ⟨0,0,none⟩)::iE 46⟩,mB 1 [.int .i64 5],[]⟩]) (K:=[]) (RT:=[]) (wb:=[dU [var 12],dU [var 13,var 14],dU [var 15,var 16],dU [.string nm,var 29],dU (.pointer (some ⟨0,0,none⟩)::iE 17),dU (.pointer (some ⟨0,0,none⟩)::iE 23)]) (ws:=[(bJ,oJ+i.toNat*1,[num ii]),(bW,oW+ii.toNat*2,[num ri.1,num ri.2]),(bW,oW+j.toNat*2,[num rj.1,num rj.2]),(bK,oK+ii.toNat*12,[.string nm,num kd]),(bX,oX+ii.toNat*7,ax.cs nc),(bV,oV+k.toNat*7,vn.cs nc)]) (fr:=BZ) (H:=oC) (lo:=vD) 43 .normal [0] [0,1,2,3] (by kernel_rfl) (by kernel_rfl) (by exact hnd) ⟨?_,?_,gD,fT,?_,fw (by exact hown),gH,fun _=>?_⟩ h hk hQ
 ·refine o7 ⟨300,.bool true,(show _=some (.bool (decide (i<((jA J k).2.1:Nat)))) by kernel_rfl).trans (by rw [decide_eq_true h1]),rfl⟩ (o7 ⟨300,.bool true,(show _=some (.bool (ii != j)) by kernel_rfl).trans (by rw [hne]),rfl⟩ (o7 ⟨300,.bool true,(show _=some (.bool (kG kd)) by kernel_rfl).trans (by rw [htu]),rfl⟩ (ed _)))
 ·intro t ht
  simp only [ag,ae,or_false] at ht
  rcases ht with rfl | rfl | rfl | rfl | rfl
  ·exact ⟨rfl,fun nc c w _ _ hw=>⟨[dK nc,.agg ⟨[num ri.1,num ri.2]⟩,.agg ⟨[num rj.1,num rj.2]⟩],.agg ⟨[num (mulR ri rj).1,num (mulR ri rj).2]⟩,wR ri rj,by kernel_rfl,by kernel_rfl,by kernel_rfl,(Ei nc c ri.1 ri.2 rj.1 rj.2 w hw).mono (fun r w' ⟨q1,q2⟩=>⟨q1,by rw [Ej] at q2; exact q2⟩)⟩⟩
  ·exact ⟨rfl,fun nc c w _ _ hw=>⟨[dK nc,.agg ⟨[num (mulR ri rj).1,num (mulR ri rj).2]⟩,.agg ⟨[num (mulR ri rj).1,num (mulR ri rj).2]⟩],.agg ⟨[num (qH (mulR ri rj) (mulR ri rj)).1,num (qH (mulR ri rj) (mulR ri rj)).2]⟩,wI false (mulR ri rj).1 (mulR ri rj).2 (mulR ri rj).1 (mulR ri rj).2,by kernel_rfl,by kernel_rfl,by kernel_rfl,(MW nc c _ _ _ _ w hw).mono (fun r w' ⟨q1,q2⟩=>⟨q1,by rw [MX] at q2; exact q2⟩)⟩⟩
  ·exact ⟨rfl,fun nc c w _ _ hw=>⟨[ax.val nc,vn.val nc],(Cs ax vn).val nc,El ax vn,by kernel_rfl,by kernel_rfl,by kernel_rfl,(U0 nc c ax.a ax.b ax.c ax.d ax.e ax.f vn.a vn.b vn.c vn.d vn.e vn.f w hw).mono (fun r w' ⟨q1,q2⟩=>⟨q1,by rw [U1] at q2; exact q2⟩)⟩⟩
  ·exact ⟨rfl,fun nc c w _ _ hw=>⟨[(gF true ax vn).val nc,.agg ⟨[num (gU true ri rj).1,num (gU true ri rj).2]⟩],(iK (gF true ax vn) (gU true ri rj)).val nc,tJ false (gF true ax vn) (gU true ri rj),by kernel_rfl,by kernel_rfl,by kernel_rfl,(GZ nc c (gF true ax vn).a (gF true ax vn).b (gF true ax vn).c (gF true ax vn).d (gF true ax vn).e (gF true ax vn).f (gU true ri rj).1 (gU true ri rj).2 w hw).mono (fun r w' ⟨q1,q2⟩=>⟨q1,by rw [DT] at q2; exact q2⟩)⟩⟩
  ·exact ⟨rfl,fun nc c w _ _ hw=>⟨[s.val nc,(iK (gF true ax vn) (gU true ri rj)).val nc],(u7 true true s ri rj ax vn).val nc,uZ false s (iK (gF true ax vn) (gU true ri rj)),by kernel_rfl,by kernel_rfl,by kernel_rfl,(GY nc c s.a s.b s.c s.d s.e s.f (iK (gF true ax vn) (gU true ri rj)).a (iK (gF true ax vn) (gU true ri rj)).b (iK (gF true ax vn) (gU true ri rj)).c (iK (gF true ax vn) (gU true ri rj)).d (iK (gF true ax vn) (gU true ri rj)).e (iK (gF true ax vn) (gU true ri rj)).f w hw).mono (fun r w' ⟨q1,q2⟩=>⟨q1,by rw [DK] at q2; exact q2⟩)⟩⟩
 ·intro x hx
  simp only [ag,ae,or_false] at hx
  rcases hx with rfl | rfl | rfl | rfl | rfl | rfl
  ·exact ⟨⟨lJ.1,by simpa using lJ.2⟩,aO _,cJ⟩
  ·exact ⟨⟨lW.1,by simpa using lW.2⟩,aO _,cI⟩
  ·exact ⟨⟨lW.1,by simpa using lW.2⟩,aO _,cW⟩
  ·exact ⟨⟨lK.1,by simpa using lK.2⟩,aO _,cK⟩
  ·exact ⟨⟨lX.1,by simpa using lX.2⟩,aO _,cX⟩
  ·exact ⟨⟨lV.1,by simpa using lV.2⟩,aO _,cV⟩
 ·refine ⟨fun e he=>?_,(fun e he=>by cases he),fun e he=>by cases he⟩
  simp only [fG,ag,ae,or_false] at he
  rcases he with rfl | rfl | rfl | rfl | rfl | rfl
  ·exact ⟨⟨bJ,oJ,none⟩,(jA J k).2.1,J.2.2,i,2,(by show jA J k=_; rw [←eJ]; rfl),rfl,rfl,h0,h1,rfl,rfl⟩
  ·exact ⟨⟨bW,oW,none⟩,W.2.1,W.2.2,ii,2,(by show W=_; rw [←eW]),rfl,rfl,h2,h3,rfl,rfl⟩
  ·exact ⟨⟨bW,oW,none⟩,W.2.1,W.2.2,j,2,(by show W=_; rw [←eW]),rfl,rfl,h4,h5,rfl,rfl⟩
  ·exact ⟨⟨bK,oK,none⟩,B3.2.1,B3.2.2,ii,2,(by show B3=_; rw [←eK]),rfl,rfl,h2,h6,rfl,rfl⟩
  ·exact ⟨⟨bX,oX,none⟩,B5.2.1,B5.2.2,ii,2,(by show B5=_; rw [←eX]),rfl,rfl,h2,h7,rfl,rfl⟩
  ·exact ⟨⟨bV,oV,none⟩,V.2.1,V.2.2,k,2,(by show V=_; rw [←eV]),rfl,rfl,h8,h9,rfl,rfl⟩
theorem abA (h:dP ([some (.agg ⟨[dK nc,dJ B3,dJ B4,dJ B5,dJ B6]⟩),some (.agg ⟨[num wt,dJ J,dJ V]⟩),some (dJ W)]++az 81 (some undef)) (jg nc f) [] a w) (hk:dO w0 [nc] w)
  (hQ:∀a' w' n3 n4 n6 n7,(∀n∈[n3,n4,n6,n7],w.heap.size≤n)→([nc]++[n3,n4,n6,n7]).Nodup→dP (Ma W n3 n4 n6 n7) (jg nc f) (j6 nc n3 n4 n6 n7 B3 B4 B5 B6 J V wt .z) a' w'→dO w0 [nc] w'→D.wp aa Q a' w'):(fB [dZ (dN aeS),jM (dN aeS)] D).wp aa Q a w:=by
 refine jZ [0,0,wt] [f] [W,J,V,B3,B4,B5,B6] (g:=[]) (wt:=[]) (lt:=[]) (sb:=[]) (T:=[]) (K:=[]) (RT:=[]) (wb:=[]) (ws:=[]) (fr:=[.agg ⟨[.pointer (some ⟨0,0,none⟩),dM 3,dM 4,dM 5,dM 6]⟩,.agg ⟨[var 2,dM 1,dM 2]⟩,dM 0]++az 81 undef) (H:=oC) (lo:=[]) (us':=fun _ nl=>Ma W (nl.getD 0 0) (nl.getD 1 0) (nl.getD 2 0) (nl.getD 3 0)) (gs':=fun _ _=>jg nc f) (ls':=fun _ nl=>j6 nc (nl.getD 0 0) (nl.getD 1 0) (nl.getD 2 0) (nl.getD 3 0) B3 B4 B5 B6 J V wt .z) 43 _ [0] [0,1,2,3] [] [3,4,6,7] (fun ng nl e1 e2=>?_) (by kernel_rfl) (fun ng nl e1 e2 e3=>?_) ⟨ed _,gG,gD,fT,il _ _,fw (by simp [jg]),gH,fun _=>iI⟩ h hk (fun a' w' ng nl e1 e2 e3 e4 hs hk'=>?_)
 ·match ng,nl,e1,e2 with
  | [],[a,b,c,d],_,_=>show (_:Option _)=_; kernel_rfl
 ·match ng,nl,e1,e2 with
  | [],[a,b,c,d],_,_=>exact e3
 ·match ng,nl,e1,e2 with
  | [],[a,b,c,d],_,_=>exact hQ a' w' a b c d (fun n hn=>(e4 n (by simpa using hn)).1) e3 hs hk'
theorem abB (hown:∀g∈[nc]++[n3,n4,n6,n7],g∈[nc]∨w0.heap.size≤g) (hnd:([nc]++[n3,n4,n6,n7]).Nodup) (h:dP (Ma W n3 n4 n6 n7) (jg nc f) (j6 nc n3 n4 n6 n7 B3 B4 B5 B6 J V wt s) a w) (hk:dO w0 [nc] w) (hQ:∀a' w',dP (tK W J n3 n4 n6 n7 0) (jg nc f) (j6 nc n3 n4 n6 n7 B3 B4 B5 B6 J V wt s) a' w'→dO w0 [nc] w'→D.wp aa Q a' w'):(fB [dZ (jK (dN aeS))] D).wp aa Q a w :=
 uf (AZ 0 (J.2.1:Nat) wt s) [f] [W,J,V,B3,B4,B5,B6] (g:=[]) (wt:=[]) (lt:=[(1,var 1)]) (sb:=[]) (T:=[]) (K:=[]) (RT:=[]) (wb:=[]) (ws:=[]) (fr:=VA) (H:=oC) (lo:=vD) 43 _ [0] [0,1,2,3] (by kernel_rfl) (by kernel_rfl) (by exact hnd) ⟨ed _,gG,gD,fT,il _ _,fw (by exact hown),gH,fun _=>⟨(fun e he=>by cases he),(fun e he=>by
  simp only [fG,ag,ae,or_false] at he
  subst he
  exact ⟨2,by kernel_rfl⟩),fun e he=>by cases he⟩⟩ h hk hQ
theorem abz {R:Ending→World→Prop} (hown:∀g∈[nc]++[n6,n7],g∈[nc]∨w0.heap.size≤g) (h:dP (dS 84 [(6,dK n6),(7,dK n7)]) (jg nc f) [(n6,.pointer none::z6,98),(n7,s.cs nc,98)] a w) (hk:dO w0 [nc] w)
  (hQ:∀a' w',dP (dS 84 []) (jg nc f) [] a' w'→dO w0 [nc] w'→R (.returned (s.val nc)) w'):(sR 3 (dN aeS)).wp aa (bodyPost aa aeS R) a w :=
 qQ (AZ 0 0 0 s) [f] [] (g:=[]) (wt:=[]) (lt:=[]) (sb:=[]) (T:=[]) (K:=[]) (RT:=[]) (wb:=[]) (ws:=[]) (fr:=fK 84 [(6,.pointer (some ⟨0,0,some 0⟩)),(7,.pointer (some ⟨1,0,some 0⟩))]) (H:=oC) (lo:=[dQ (.pointer none::z6) 98,dQ (.pointer (some ⟨0,0,none⟩)::iE 3) 98]) (u:=s.val nc) 43 [0] [] (by kernel_rfl) (by kernel_rfl) (by simp [jg]) ⟨ed _,gG,gD,fT,il _ _,fw (by exact hown),gH,fun _=>iI⟩ h hk hQ
end Go.Proofs
end
