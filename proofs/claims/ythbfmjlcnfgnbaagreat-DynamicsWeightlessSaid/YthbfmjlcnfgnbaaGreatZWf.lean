/-
  Part of the proof: see the last text.
-/
import Derived.Test.YthbfmjlcnfgnbaaGreatZWd
set_option linter.unusedVariables false
set_option maxHeartbeats 8000000
open Go.IntKind renaming i64→bg
open List renaming length_cons→dB,length_nil→aeT,mem_cons→ag,not_mem_nil→ae,range→dh,replicate→az
open Nat renaming succ_pos→aO
open Go.Proofs.Tryz renaming f44→bE,prog→aa
section
namespace Go.Proofs
open Go.Sm Go.RowKit En
abbrev dY:=Option Addr×Nat×Nat
def tN (n:Nat):List Value:=fK 59 [(1,dM 4),(2,.pointer (some ⟨0,0,some 0⟩)),(5,.slice (some ⟨1,0,none⟩) n n),(16,dM 3),(17,var 1),(18,var 0)]
def Hu (n:Nat):List Value:=fK 59 [(1,dM 4),(2,.pointer (some ⟨0,0,some 0⟩)),(5,.slice (some ⟨1,0,none⟩) n n)]
def wm (n:Nat):List Value:=fK 59 [(1,dM 4),(2,.pointer (some ⟨0,0,some 0⟩)),(5,.slice (some ⟨1,0,none⟩) n n),(16,dM 3),(17,var 1),(18,var 0),(6,var 0),(7,.pointer (some ⟨1,0,some 0⟩)),(24,dM 5),(25,var 10),(26,var 9)]
def Hr (n:Nat):List Value:=fK 59 [(5,.slice (some ⟨1,0,none⟩) n n)]
def ku (n:Nat):Hp:=[dQ [mB 1 [.int .i64 0]] 88,dQ ((dh (2*n)).map fun i=>var (2+i)) 23]
def kN:eG:=dQ [.pointer (some ⟨0,0,none⟩),dM 0,dM 1,dM 2,dM 3] 92
def wu:eG:=dQ [var 8,dM 5,dM 6] 95
def eP (rs:List (Int×Int)):List Int:=rs.flatMap fun r=>[r.1,r.2]
def qO (rs:List (Int×Int)) (k M:Int):List Int:=[k,M]++eP rs
def zC (rs:List (Int×Int)) (k M wt i m:Int):List Int:=[k,M]++eP rs++az (6 - 2*rs.length) 0++[wt,i,m]
def A7 (rs:List (Int×Int)) (k M wt i m:Int) (v u:V6):List Int:=zC rs k M wt i m++[v.a,v.b,v.c,v.d,v.e,v.f,u.a,u.b,u.c,u.d,u.e,u.f,(jY (fQ v u) wt).1,(jY (fQ v u) wt).2,(fQ v u).1,(fQ v u).2]
def Ap (f:Bool) (v u:V6) (wt:Int):List Bool:=[f,!ma (fQ v u).1 (fQ v u).2 wt,rf v u]
def iE (i:Nat):List Value:=[var i,var (i+1),var (i+2),var (i+3),var (i+4),var (i+5)]
def tT:List pE:=[⟨80,[.agg ⟨.pointer (some ⟨0,0,none⟩)::iE 11⟩,.agg ⟨.pointer (some ⟨0,0,none⟩)::iE 17⟩],.agg ⟨[var 25,var 26]⟩,mB 1 [.int .i64 2],[]⟩,⟨79,[.pointer (some ⟨0,0,none⟩),.agg ⟨[var 25,var 26]⟩,var 8],.agg ⟨[var 23,var 24]⟩,mB 1 [.int .i64 1],[]⟩]
def vv (n:Nat) (VC:dY) (nb gl:Nat):List (Option Value):=dS 59 [(1,dJ VC),(2,dK nb),(5,.slice (some ⟨gl,0,none⟩) n n)]
def ja (n:Nat) (B3 VC:dY) (nb gl:Nat) (k M:Int):List (Option Value):=dS 59 [(1,dJ VC),(2,dK nb),(5,.slice (some ⟨gl,0,none⟩) n n),(16,dJ B3),(17,num M),(18,num k)]
def j5 (n:Nat) (B3 VC J:dY) (nb nm gl:Nat) (k M i:Int):List (Option Value):=dS 59 [(1,dJ VC),(2,dK nb),(5,.slice (some ⟨gl,0,none⟩) n n),(16,dJ B3),(17,num M),(18,num k),(6,num k),(7,dK nm),(24,dJ J),(25,num (J.2.1:Nat)),(26,num i)]
def xw (n gl:Nat):List (Option Value):=dS 59 [(5,.slice (some ⟨gl,0,none⟩) n n)]
def fO (nc gl:Nat) (f:Bool) (rs:List (Int×Int)):List gQ:=[(nc,[.bool f],88),(gl,(eP rs).map num,23)]
def gq (nb nc:Nat) (B0 B1 B2 B3:dY):gQ:=(nb,[dK nc,dJ B0,dJ B1,dJ B2,dJ B3],92)
def kg (nm:Nat) (wt:Int) (J V:dY):gQ:=(nm,[num wt,dJ J,dJ V],95)
variable {w0 w:World} {nc gl nb:Nat} {B0 B1 B2 B3 VC:dY} {k M:Int} {r0:Int×Int} {f:Bool} {a:Act} {Q:Exit→Act→World→Prop} {D:Code}
theorem abE (hown:∀g∈[nc,gl]++[nb],g∈[nc]∨w0.heap.size≤g) (hnd:([nc,gl]++[nb]).Nodup) (hlt:k<M) (h:dP (ja 1 B3 VC nb gl k M) (fO nc gl f [r0]) [gq nb nc B0 B1 B2 B3] a w) (hk:dO w0 [nc] w) (hQ:∀a' w',dP (ja 1 B3 VC nb gl k M) (fO nc gl f [r0]) [gq nb nc B0 B1 B2 B3] a' w'→dO w0 [nc] w'→D.wp aa Q a' w') :
  (fB [dZ (iW (dN bE)),dZ (fU (iW (dN bE)))] D).wp aa Q a w :=
 uf (qO [r0] k M) [f] [B0,B1,B2,B3,VC] (g:=[(mB 20 [var 0,var 1],.bool true)]) (wt:=[]) (lt:=[]) (sb:=[]) (T:=[]) (K:=[]) (RT:=[]) (wb:=[]) (ws:=[]) (fr:=tN 1) (H:=ku 1) (lo:=[kN]) 44 _ [0,1] [0] (by kernel_rfl) (by kernel_rfl) (by exact hnd) ⟨o8 (by exact decide_eq_true hlt),gG,gD,fT,il _ _,fw (by exact hown),gH,fun _=>iI⟩ h hk hQ
theorem abM (hown:∀g∈[nc,gl]++[nb],g∈[nc]∨w0.heap.size≤g) (hnd:([nc,gl]++[nb]).Nodup) (hlt:¬k<M) (h:dP (ja 1 B3 VC nb gl k M) (fO nc gl f [r0]) [gq nb nc B0 B1 B2 B3] a w) (hk:dO w0 [nc] w) (hQ:∀a' w',dP (ja 1 B3 VC nb gl k M) (fO nc gl f [r0]) [gq nb nc B0 B1 B2 B3] a' w'→dO w0 [nc] w'→Q (.exit 0) a' w') :
  (iW (dN bE)).wp aa Q a w :=
 j4 (qO [r0] k M) [f] [B0,B1,B2,B3,VC] (g:=[(mB 20 [var 0,var 1],.bool false)]) (wt:=[]) (lt:=[]) (sb:=[]) (T:=[]) (K:=[]) (RT:=[]) (wb:=[]) (ws:=[]) (fr:=tN 1) (H:=ku 1) (lo:=[kN]) 44 (.exit 0) [0,1] [0] (by kernel_rfl) (by kernel_rfl) (by exact hnd) ⟨o8 (by exact decide_eq_false hlt),gG,gD,fT,il _ _,fw (by exact hown),gH,fun _=>iI⟩ h hk hQ
theorem abX (hown:∀g∈[nc,gl]++[nb],g∈[nc]∨w0.heap.size≤g) (hnd:([nc,gl]++[nb]).Nodup) (h:dP (ja 1 B3 VC nb gl k M) (fO nc gl f [r0]) [gq nb nc B0 B1 B2 B3] a w) (hk:dO w0 [nc] w) (hQ:∀a' w',dP (ja 1 B3 VC nb gl (bg.wrap (k+1)) M) (fO nc gl f [r0]) [gq nb nc B0 B1 B2 B3] a' w'→dO w0 [nc] w'→Q .normal a' w') :
  (sR 3 (iW (dN bE))).wp aa Q a w :=
 j4 (qO [r0] k M) [f] [B0,B1,B2,B3,VC] (g:=[]) (wt:=[]) (lt:=[]) (sb:=[]) (T:=[]) (K:=[]) (RT:=[]) (wb:=[]) (ws:=[]) (fr:=tN 1) (H:=ku 1) (lo:=[kN]) 44 .normal [0,1] [0] (by kernel_rfl) (by kernel_rfl) (by exact hnd) ⟨ed _,gG,gD,fT,il _ _,fw (by exact hown),gH,fun _=>iI⟩ h hk hQ
variable {J V:dY} {wt:Int} {bM oM:Nat}
theorem abI (eM:B3.1=some ⟨bM,oM,none⟩) (h0:0≤k) (h1:k<(B3.2.1:Nat)) (lM:bM<w0.heap.size) (nM:bM≠nc) (cM:∀(q:Nat) (u:Value),[num wt,dJ J,dJ V][q]?=some u→w0.cell? ⟨bM,oM+k.toNat*3+q,none⟩=some u)
  (hown:∀g∈[nc,gl]++[nb],g∈[nc]∨w0.heap.size≤g) (h:dP (ja 1 B3 VC nb gl k M) (fO nc gl f [r0]) [gq nb nc B0 B1 B2 B3] a w) (hk:dO w0 [nc] w) (hQ:∀a' w' nm,w.heap.size≤nm→([nc,gl]++[nb,nm]).Nodup→dP (j5 1 B3 VC J nb nm gl k M 0) (fO nc gl (f) [r0]) [gq nb nc B0 B1 B2 B3,kg nm wt J V] a' w'→dO w0 [nc] w'→D.wp aa Q a' w') :
  (fB [dZ (rD (dN bE)),dZ (fU (rD (dN bE)))] D).wp aa Q a w:=by
 refine jZ (zC [r0] k M wt 0 (J.2.1:Nat)) [f] [B0,B1,B2,B3,VC,J,V] (g:=[]) (wt:=[(3,var 0,3,1)]) (lt:=[(5,var 10)]) (sb:=[]) (T:=[]) (K:=[]) (RT:=[]) (wb:=[dU [var 8,dM 5,dM 6]]) (ws:=[(bM,oM+k.toNat*3,[num wt,dJ J,dJ V])]) (fr:=tN 1) (H:=ku 1) (lo:=[kN]) (us':=fun _ nl=>j5 1 B3 VC J nb (nl.headD 0) gl k M 0) (gs':=fun _ _=>fO nc gl f [r0]) (ls':=fun _ nl=>[gq nb nc B0 B1 B2 B3,kg (nl.headD 0) wt J V]) 44 _ [0,1] [0,2] [] [7] (fun ng nl e1 e2=>?_) (by kernel_rfl) (fun ng nl e1 e2 e3=>?_) ⟨ed _,gG,gD,fT,?_,fw (by exact hown),gH,fun _=>?_⟩ h hk (fun a' w' ng nl e1 e2 e3 e4 hs hk'=>?_)
 ·match ng,nl,e1,e2 with
  | [],[x],_,_=>show (_:Option _)=_; kernel_rfl
 ·match ng,nl,e1,e2 with
  | [],[x],_,_=>exact e3
 ·intro x hx
  simp only [ag,ae,or_false] at hx
  subst hx
  exact ⟨⟨lM,by simpa using nM⟩,aO _,cM⟩
 ·refine ⟨fun e he=>?_,fun e he=>?_,fun e he=>by cases he⟩
  ·simp only [fG,ag,ae,or_false] at he
   subst he
   exact ⟨⟨bM,oM,none⟩,B3.2.1,B3.2.2,k,2,(by show B3=_; rw [←eM]),rfl,rfl,h0,h1,rfl,rfl⟩
  ·simp only [fG,ag,ae,or_false] at he
   subst he
   exact ⟨2,by kernel_rfl⟩
 ·match ng,nl,e1,e2 with
  | [],[x],_,_=>exact hQ a' w' x (e4 x (by simp)).1 e3 hs hk'
variable {nm:Nat} {i:Int}
theorem ace (hown:∀g∈[nc,gl]++[nb,nm],g∈[nc]∨w0.heap.size≤g) (hlt:¬i<(J.2.1:Nat)) (hnd:([nc,gl]++[nb]).Nodup) (h:dP (j5 1 B3 VC J nb nm gl k M i) (fO nc gl (f) [r0]) [gq nb nc B0 B1 B2 B3,kg nm wt J V] a w) (hk:dO w0 [nc] w) (hQ:∀a' w',dP (ja 1 B3 VC nb gl k M) (fO nc gl f [r0]) [gq nb nc B0 B1 B2 B3] a' w'→dO w0 [nc] w'→Q (.exit 2) a' w') :
  (nP (dN bE)).wp aa Q a w :=
 j4 (zC [r0] k M wt i (J.2.1:Nat)) [f] [B0,B1,B2,B3,VC,J,V] (g:=[(mB 20 [var 9,var 10],.bool false)]) (wt:=[]) (lt:=[]) (sb:=[]) (T:=[]) (K:=[]) (RT:=[]) (wb:=[]) (ws:=[]) (fr:=wm 1) (H:=ku 1) (lo:=[kN,wu]) 44 (.exit 2) [0,1] [0] (by kernel_rfl) (by kernel_rfl) (by exact hnd) ⟨o8 (by exact decide_eq_false hlt),gG,gD,fT,il _ _,fw (by exact hown),gH,fun _=>iI⟩ h hk hQ
variable {v u:V6} {bJ oJ bV oV bU oU:Nat}
theorem abQ (eJ:J.1=some ⟨bJ,oJ,none⟩) (eV:V.1=some ⟨bV,oV,none⟩) (eU:VC.1=some ⟨bU,oU,none⟩) (h0:0≤i) (h1:i<(J.2.1:Nat)) (h2:i<(V.2.1:Nat)) (h3:0≤k) (h4:k<(VC.2.1:Nat)) (hw1:1≤wt) (hw2:wt≤1000000000)
  (lJ:bJ<w0.heap.size) (nJ:bJ≠nc) (lV:bV<w0.heap.size) (nV:bV≠nc) (lU:bU<w0.heap.size) (nU:bU≠nc) (cJ:∀(q:Nat) (x:Value),[num 0][q]?=some x→w0.cell? ⟨bJ,oJ+i.toNat*1+q,none⟩=some x) (cV:∀(q:Nat) (x:Value),(v.cs nc)[q]?=some x→w0.cell? ⟨bV,oV+i.toNat*7+q,none⟩=some x) (cU:∀(q:Nat) (x:Value),(u.cs nc)[q]?=some x→w0.cell? ⟨bU,oU+k.toNat*7+q,none⟩=some x)
  (hown:∀g∈[nc,gl]++[nb,nm],g∈[nc]∨w0.heap.size≤g) (hnd:([nc,gl]++[nb,nm]).Nodup) (h:dP (j5 1 B3 VC J nb nm gl k M i) (fO nc gl (f) [r0]) [gq nb nc B0 B1 B2 B3,kg nm wt J V] a w) (hk:dO w0 [nc] w) (hQ:∀a' w',dP (j5 1 B3 VC J nb nm gl k M (bg.wrap (i+1))) (fO nc gl (((f||rf v u)||!ma (fQ v u).1 (fQ v u).2 wt)||zg r0 (jY (fQ v u) wt)) [qH r0 (jY (fQ v u) wt)]) [gq nb nc B0 B1 B2 B3,kg nm wt J V] a' w'→dO w0 [nc] w'→Q .normal a' w') :
  (nP (dN bE)).wp aa Q a w:=by
 refine j4 (A7 [r0] k M wt i (J.2.1:Nat) v u) (Ap f v u wt) [B0,B1,B2,B3,VC,J,V] (g:=[(mB 20 [var 9,var 10],.bool true)]) (wt:=[(5,var 9,1,2),(6,var 9,7,3),(4,var 0,7,4)]) (lt:=[]) (sb:=[]) (T:=tT) (K:=[]) (RT:=[]) (wb:=[dU [.int .i64 0],dU (.pointer (some ⟨0,0,none⟩)::iE 11),dU (.pointer (some ⟨0,0,none⟩)::iE 17)]) (ws:=[(bJ,oJ+i.toNat*1,[num 0]),(bV,oV+i.toNat*7,v.cs nc),(bU,oU+k.toNat*7,u.cs nc)]) (fr:=wm 1) (H:=ku 1) (lo:=[kN,wu]) 44 .normal [0,1] [0,1] (by kernel_rfl) (by kernel_rfl) (by exact hnd) ⟨o8 (by exact decide_eq_true h1),?_,gD,fT,?_,fw (by exact hown),gH,fun _=>?_⟩ h hk hQ
 ·intro t ht
  simp only [tT,ag,ae,or_false] at ht
  rcases ht with rfl | rfl
  ·exact ⟨rfl,fun nc c w _ _ hw=>⟨[v.val nc,u.val nc],.agg ⟨[num (fQ v u).1,num (fQ v u).2]⟩,rf v u,by kernel_rfl,by kernel_rfl,by kernel_rfl,(BQ nc c v.a v.b v.c v.d v.e v.f u.a u.b u.c u.d u.e u.f w hw).mono (fun r w' ⟨q1,q2⟩=>⟨q1,by rw [BR] at q2; exact q2⟩)⟩⟩
  ·exact ⟨rfl,fun nc c w _ _ hw=>⟨[.pointer (some ⟨nc,0,none⟩),.agg ⟨[num (fQ v u).1,num (fQ v u).2]⟩,num wt],.agg ⟨[num (jY (fQ v u) wt).1,num (jY (fQ v u) wt).2]⟩,!ma (fQ v u).1 (fQ v u).2 wt,by kernel_rfl,by kernel_rfl,by kernel_rfl,BL nc 88 _ _ wt c w hw hw1 hw2⟩⟩
 ·intro x hx
  simp only [ag,ae,or_false] at hx
  rcases hx with rfl | rfl | rfl
  ·exact ⟨⟨lJ,by simpa using nJ⟩,aO _,cJ⟩
  ·exact ⟨⟨lV,by simpa using nV⟩,aO _,cV⟩
  ·exact ⟨⟨lU,by simpa using nU⟩,aO _,cU⟩
 ·refine ⟨fun e he=>?_,(fun e he=>by cases he),fun e he=>by cases he⟩
  simp only [fG,ag,ae,or_false] at he
  rcases he with rfl | rfl | rfl
  ·exact ⟨⟨bJ,oJ,none⟩,J.2.1,J.2.2,i,2,(by show J=_; rw [←eJ]),rfl,rfl,h0,h1,rfl,rfl⟩
  ·exact ⟨⟨bV,oV,none⟩,V.2.1,V.2.2,i,2,(by show V=_; rw [←eV]),rfl,rfl,h0,h2,rfl,rfl⟩
  ·exact ⟨⟨bU,oU,none⟩,VC.2.1,VC.2.2,k,2,(by show VC=_; rw [←eU]),rfl,rfl,h3,h4,rfl,rfl⟩
theorem ab5 (hB:B0.2.1=1) (h:dP ([some (.agg ⟨[dK nc,dJ B0,dJ B1,dJ B2,dJ B3]⟩),some (dJ VC)]++az 57 (some undef)) [(nc,[.bool f],88)] [] a w) (hk:dO w0 [nc] w)
  (hQ:∀a' w' gl nb,w.heap.size≤gl→w.heap.size≤nb→([nc,gl]++[nb]).Nodup→dP (vv 1 VC nb gl) (fO nc gl f [(0,0)]) [gq nb nc B0 B1 B2 B3] a' w'→dO w0 [nc] w'→D.wp aa Q a' w') :
  (fB [dZ (dN bE),jM (dN bE)] D).wp aa Q a w:=by
 refine jZ [] [f] [B0,B1,B2,B3,VC] (g:=[]) (wt:=[]) (lt:=[(0,.int .i64 1)]) (sb:=[]) (T:=[]) (K:=[]) (RT:=[]) (wb:=[]) (ws:=[]) (fr:=[.agg ⟨[.pointer (some ⟨0,0,none⟩),dM 0,dM 1,dM 2,dM 3]⟩,dM 4]++az 57 undef) (H:=[dQ [mB 1 [.int .i64 0]] 88]) (lo:=[]) (us':=fun ng nl=>vv 1 VC (nl.headD 0) (ng.headD 0)) (gs':=fun ng _=>fO nc (ng.headD 0) f [(0,0)]) (ls':=fun _ nl=>[gq (nl.headD 0) nc B0 B1 B2 B3]) 44 _ [0,1] [0] [5] [2] (fun ng nl e1 e2=>?_) (by kernel_rfl) (fun ng nl e1 e2 e3=>?_) ⟨ed _,gG,gD,fT,il _ _,fw (by simp),gH,fun _=>?_⟩ h hk (fun a' w' ng nl e1 e2 e3 e4 hs hk'=>?_)
 ·match ng,nl,e1,e2 with
  | [y],[x],_,_=>show (_:Option _)=_; kernel_rfl
 ·match ng,nl,e1,e2 with
  | [y],[x],_,_=>exact e3
 ·refine ⟨(fun e he=>by cases he),fun e he=>?_,fun e he=>by cases he⟩
  simp only [fG,ag,ae,or_false] at he
  subst he
  exact ⟨2,by show some (num 1)=some (.int .i64 (B0.2.1:Nat)); rw [hB]; rfl⟩
 ·match ng,nl,e1,e2 with
  | [y],[x],_,_=>exact hQ a' w' y x (e4 y (by simp)).1 (e4 x (by simp)).1 e3 hs hk'
theorem ab9 (hown:∀g∈[nc,gl]++[nb],g∈[nc]∨w0.heap.size≤g) (hnd:([nc,gl]++[nb]).Nodup) (h:dP (vv 1 VC nb gl) (fO nc gl f [r0]) [gq nb nc B0 B1 B2 B3] a w) (hk:dO w0 [nc] w) (hQ:∀a' w',dP (ja 1 B3 VC nb gl 0 (B3.2.1:Nat)) (fO nc gl f [r0]) [gq nb nc B0 B1 B2 B3] a' w'→dO w0 [nc] w'→D.wp aa Q a' w') :
  (fB [dZ (jK (dN bE))] D).wp aa Q a w :=
 uf (qO [r0] 0 (B3.2.1:Nat)) [f] [B0,B1,B2,B3,VC] (g:=[]) (wt:=[]) (lt:=[(3,var 1)]) (sb:=[]) (T:=[]) (K:=[]) (RT:=[]) (wb:=[]) (ws:=[]) (fr:=Hu 1) (H:=ku 1) (lo:=[kN]) 44 _ [0,1] [0] (by kernel_rfl) (by kernel_rfl) (by exact hnd) ⟨ed _,gG,gD,fT,il _ _,fw (by exact hown),gH,fun _=>⟨(fun e he=>by cases he),(fun e he=>by
  simp only [fG,ag,ae,or_false] at he
  subst he
  exact ⟨2,by kernel_rfl⟩),fun e he=>by cases he⟩⟩ h hk hQ
variable {R:Ending→World→Prop}
theorem ab1 (hown:∀g∈[nc,gl]++[],g∈[nc]∨w0.heap.size≤g) (hnd:([nc,gl]++[]).Nodup) (h:dP (xw 1 gl) (fO nc gl f [r0]) [] a w) (hk:dO w0 [nc] w)
  (hQ:∀a' w',dP (xw 1 gl) (fO nc gl f [r0]) [] a' w'→dO w0 [nc] w'→R (.returned (.slice (some ⟨gl,0,none⟩) 1 1)) w') :
  (sR 3 (dN bE)).wp aa (bodyPost aa bE R) a w :=
 qQ (qO [r0] 0 0) [f] [] (g:=[]) (wt:=[]) (lt:=[]) (sb:=[]) (T:=[]) (K:=[]) (RT:=[]) (wb:=[]) (ws:=[]) (fr:=Hr 1) (H:=ku 1) (lo:=[]) (u:=.slice (some ⟨gl,0,none⟩) 1 1) 44 [0,1] [] (by kernel_rfl) (by kernel_rfl) (by exact hnd) ⟨ed _,gG,gD,fT,il _ _,fw (by exact hown),gH,fun _=>iI⟩ h hk hQ
variable {r1:Int×Int}
theorem abF (hown:∀g∈[nc,gl]++[nb],g∈[nc]∨w0.heap.size≤g) (hnd:([nc,gl]++[nb]).Nodup) (hlt:k<M) (h:dP (ja 2 B3 VC nb gl k M) (fO nc gl f [r0,r1]) [gq nb nc B0 B1 B2 B3] a w) (hk:dO w0 [nc] w) (hQ:∀a' w',dP (ja 2 B3 VC nb gl k M) (fO nc gl f [r0,r1]) [gq nb nc B0 B1 B2 B3] a' w'→dO w0 [nc] w'→D.wp aa Q a' w') :
  (fB [dZ (iW (dN bE)),dZ (fU (iW (dN bE)))] D).wp aa Q a w :=
 uf (qO [r0,r1] k M) [f] [B0,B1,B2,B3,VC] (g:=[(mB 20 [var 0,var 1],.bool true)]) (wt:=[]) (lt:=[]) (sb:=[]) (T:=[]) (K:=[]) (RT:=[]) (wb:=[]) (ws:=[]) (fr:=tN 2) (H:=ku 2) (lo:=[kN]) 44 _ [0,1] [0] (by kernel_rfl) (by kernel_rfl) (by exact hnd) ⟨o8 (by exact decide_eq_true hlt),gG,gD,fT,il _ _,fw (by exact hown),gH,fun _=>iI⟩ h hk hQ
theorem abN (hown:∀g∈[nc,gl]++[nb],g∈[nc]∨w0.heap.size≤g) (hnd:([nc,gl]++[nb]).Nodup) (hlt:¬k<M) (h:dP (ja 2 B3 VC nb gl k M) (fO nc gl f [r0,r1]) [gq nb nc B0 B1 B2 B3] a w) (hk:dO w0 [nc] w) (hQ:∀a' w',dP (ja 2 B3 VC nb gl k M) (fO nc gl f [r0,r1]) [gq nb nc B0 B1 B2 B3] a' w'→dO w0 [nc] w'→Q (.exit 0) a' w') :
  (iW (dN bE)).wp aa Q a w :=
 j4 (qO [r0,r1] k M) [f] [B0,B1,B2,B3,VC] (g:=[(mB 20 [var 0,var 1],.bool false)]) (wt:=[]) (lt:=[]) (sb:=[]) (T:=[]) (K:=[]) (RT:=[]) (wb:=[]) (ws:=[]) (fr:=tN 2) (H:=ku 2) (lo:=[kN]) 44 (.exit 0) [0,1] [0] (by kernel_rfl) (by kernel_rfl) (by exact hnd) ⟨o8 (by exact decide_eq_false hlt),gG,gD,fT,il _ _,fw (by exact hown),gH,fun _=>iI⟩ h hk hQ
theorem abY (hown:∀g∈[nc,gl]++[nb],g∈[nc]∨w0.heap.size≤g) (hnd:([nc,gl]++[nb]).Nodup) (h:dP (ja 2 B3 VC nb gl k M) (fO nc gl f [r0,r1]) [gq nb nc B0 B1 B2 B3] a w) (hk:dO w0 [nc] w) (hQ:∀a' w',dP (ja 2 B3 VC nb gl (bg.wrap (k+1)) M) (fO nc gl f [r0,r1]) [gq nb nc B0 B1 B2 B3] a' w'→dO w0 [nc] w'→Q .normal a' w') :
  (sR 3 (iW (dN bE))).wp aa Q a w :=
 j4 (qO [r0,r1] k M) [f] [B0,B1,B2,B3,VC] (g:=[]) (wt:=[]) (lt:=[]) (sb:=[]) (T:=[]) (K:=[]) (RT:=[]) (wb:=[]) (ws:=[]) (fr:=tN 2) (H:=ku 2) (lo:=[kN]) 44 .normal [0,1] [0] (by kernel_rfl) (by kernel_rfl) (by exact hnd) ⟨ed _,gG,gD,fT,il _ _,fw (by exact hown),gH,fun _=>iI⟩ h hk hQ
theorem abJ (eM:B3.1=some ⟨bM,oM,none⟩) (h0:0≤k) (h1:k<(B3.2.1:Nat)) (lM:bM<w0.heap.size) (nM:bM≠nc) (cM:∀(q:Nat) (u:Value),[num wt,dJ J,dJ V][q]?=some u→w0.cell? ⟨bM,oM+k.toNat*3+q,none⟩=some u)
  (hown:∀g∈[nc,gl]++[nb],g∈[nc]∨w0.heap.size≤g) (h:dP (ja 2 B3 VC nb gl k M) (fO nc gl f [r0,r1]) [gq nb nc B0 B1 B2 B3] a w) (hk:dO w0 [nc] w) (hQ:∀a' w' nm,w.heap.size≤nm→([nc,gl]++[nb,nm]).Nodup→dP (j5 2 B3 VC J nb nm gl k M 0) (fO nc gl (f) [r0,r1]) [gq nb nc B0 B1 B2 B3,kg nm wt J V] a' w'→dO w0 [nc] w'→D.wp aa Q a' w') :
  (fB [dZ (rD (dN bE)),dZ (fU (rD (dN bE)))] D).wp aa Q a w:=by
 refine jZ (zC [r0,r1] k M wt 0 (J.2.1:Nat)) [f] [B0,B1,B2,B3,VC,J,V] (g:=[]) (wt:=[(3,var 0,3,1)]) (lt:=[(5,var 10)]) (sb:=[]) (T:=[]) (K:=[]) (RT:=[]) (wb:=[dU [var 8,dM 5,dM 6]]) (ws:=[(bM,oM+k.toNat*3,[num wt,dJ J,dJ V])]) (fr:=tN 2) (H:=ku 2) (lo:=[kN]) (us':=fun _ nl=>j5 2 B3 VC J nb (nl.headD 0) gl k M 0) (gs':=fun _ _=>fO nc gl f [r0,r1]) (ls':=fun _ nl=>[gq nb nc B0 B1 B2 B3,kg (nl.headD 0) wt J V]) 44 _ [0,1] [0,2] [] [7] (fun ng nl e1 e2=>?_) (by kernel_rfl) (fun ng nl e1 e2 e3=>?_) ⟨ed _,gG,gD,fT,?_,fw (by exact hown),gH,fun _=>?_⟩ h hk (fun a' w' ng nl e1 e2 e3 e4 hs hk'=>?_)
 ·match ng,nl,e1,e2 with
  | [],[x],_,_=>show (_:Option _)=_; kernel_rfl
 ·match ng,nl,e1,e2 with
  | [],[x],_,_=>exact e3
 ·intro x hx
  simp only [ag,ae,or_false] at hx
  subst hx
  exact ⟨⟨lM,by simpa using nM⟩,aO _,cM⟩
 ·refine ⟨fun e he=>?_,fun e he=>?_,fun e he=>by cases he⟩
  ·simp only [fG,ag,ae,or_false] at he
   subst he
   exact ⟨⟨bM,oM,none⟩,B3.2.1,B3.2.2,k,2,(by show B3=_; rw [←eM]),rfl,rfl,h0,h1,rfl,rfl⟩
  ·simp only [fG,ag,ae,or_false] at he
   subst he
   exact ⟨2,by kernel_rfl⟩
 ·match ng,nl,e1,e2 with
  | [],[x],_,_=>exact hQ a' w' x (e4 x (by simp)).1 e3 hs hk'
theorem acf (hown:∀g∈[nc,gl]++[nb,nm],g∈[nc]∨w0.heap.size≤g) (hlt:¬i<(J.2.1:Nat)) (hnd:([nc,gl]++[nb]).Nodup) (h:dP (j5 2 B3 VC J nb nm gl k M i) (fO nc gl (f) [r0,r1]) [gq nb nc B0 B1 B2 B3,kg nm wt J V] a w) (hk:dO w0 [nc] w) (hQ:∀a' w',dP (ja 2 B3 VC nb gl k M) (fO nc gl f [r0,r1]) [gq nb nc B0 B1 B2 B3] a' w'→dO w0 [nc] w'→Q (.exit 2) a' w') :
  (nP (dN bE)).wp aa Q a w :=
 j4 (zC [r0,r1] k M wt i (J.2.1:Nat)) [f] [B0,B1,B2,B3,VC,J,V] (g:=[(mB 20 [var 9,var 10],.bool false)]) (wt:=[]) (lt:=[]) (sb:=[]) (T:=[]) (K:=[]) (RT:=[]) (wb:=[]) (ws:=[]) (fr:=wm 2) (H:=ku 2) (lo:=[kN,wu]) 44 (.exit 2) [0,1] [0] (by kernel_rfl) (by kernel_rfl) (by exact hnd) ⟨o8 (by exact decide_eq_false hlt),gG,gD,fT,il _ _,fw (by exact hown),gH,fun _=>iI⟩ h hk hQ
theorem abR (eJ:J.1=some ⟨bJ,oJ,none⟩) (eV:V.1=some ⟨bV,oV,none⟩) (eU:VC.1=some ⟨bU,oU,none⟩) (h0:0≤i) (h1:i<(J.2.1:Nat)) (h2:i<(V.2.1:Nat)) (h3:0≤k) (h4:k<(VC.2.1:Nat)) (hw1:1≤wt) (hw2:wt≤1000000000)
  (lJ:bJ<w0.heap.size) (nJ:bJ≠nc) (lV:bV<w0.heap.size) (nV:bV≠nc) (lU:bU<w0.heap.size) (nU:bU≠nc) (cJ:∀(q:Nat) (x:Value),[num 0][q]?=some x→w0.cell? ⟨bJ,oJ+i.toNat*1+q,none⟩=some x) (cV:∀(q:Nat) (x:Value),(v.cs nc)[q]?=some x→w0.cell? ⟨bV,oV+i.toNat*7+q,none⟩=some x) (cU:∀(q:Nat) (x:Value),(u.cs nc)[q]?=some x→w0.cell? ⟨bU,oU+k.toNat*7+q,none⟩=some x)
  (hown:∀g∈[nc,gl]++[nb,nm],g∈[nc]∨w0.heap.size≤g) (hnd:([nc,gl]++[nb,nm]).Nodup) (h:dP (j5 2 B3 VC J nb nm gl k M i) (fO nc gl (f) [r0,r1]) [gq nb nc B0 B1 B2 B3,kg nm wt J V] a w) (hk:dO w0 [nc] w) (hQ:∀a' w',dP (j5 2 B3 VC J nb nm gl k M (bg.wrap (i+1))) (fO nc gl (((f||rf v u)||!ma (fQ v u).1 (fQ v u).2 wt)||zg r0 (jY (fQ v u) wt)) [qH r0 (jY (fQ v u) wt),r1]) [gq nb nc B0 B1 B2 B3,kg nm wt J V] a' w'→dO w0 [nc] w'→Q .normal a' w') :
  (nP (dN bE)).wp aa Q a w:=by
 refine j4 (A7 [r0,r1] k M wt i (J.2.1:Nat) v u) (Ap f v u wt) [B0,B1,B2,B3,VC,J,V] (g:=[(mB 20 [var 9,var 10],.bool true)]) (wt:=[(5,var 9,1,2),(6,var 9,7,3),(4,var 0,7,4)]) (lt:=[]) (sb:=[]) (T:=tT) (K:=[]) (RT:=[]) (wb:=[dU [.int .i64 0],dU (.pointer (some ⟨0,0,none⟩)::iE 11),dU (.pointer (some ⟨0,0,none⟩)::iE 17)]) (ws:=[(bJ,oJ+i.toNat*1,[num 0]),(bV,oV+i.toNat*7,v.cs nc),(bU,oU+k.toNat*7,u.cs nc)]) (fr:=wm 2) (H:=ku 2) (lo:=[kN,wu]) 44 .normal [0,1] [0,1] (by kernel_rfl) (by kernel_rfl) (by exact hnd) ⟨o8 (by exact decide_eq_true h1),?_,gD,fT,?_,fw (by exact hown),gH,fun _=>?_⟩ h hk hQ
 ·intro t ht
  simp only [tT,ag,ae,or_false] at ht
  rcases ht with rfl | rfl
  ·exact ⟨rfl,fun nc c w _ _ hw=>⟨[v.val nc,u.val nc],.agg ⟨[num (fQ v u).1,num (fQ v u).2]⟩,rf v u,by kernel_rfl,by kernel_rfl,by kernel_rfl,(BQ nc c v.a v.b v.c v.d v.e v.f u.a u.b u.c u.d u.e u.f w hw).mono (fun r w' ⟨q1,q2⟩=>⟨q1,by rw [BR] at q2; exact q2⟩)⟩⟩
  ·exact ⟨rfl,fun nc c w _ _ hw=>⟨[.pointer (some ⟨nc,0,none⟩),.agg ⟨[num (fQ v u).1,num (fQ v u).2]⟩,num wt],.agg ⟨[num (jY (fQ v u) wt).1,num (jY (fQ v u) wt).2]⟩,!ma (fQ v u).1 (fQ v u).2 wt,by kernel_rfl,by kernel_rfl,by kernel_rfl,BL nc 88 _ _ wt c w hw hw1 hw2⟩⟩
 ·intro x hx
  simp only [ag,ae,or_false] at hx
  rcases hx with rfl | rfl | rfl
  ·exact ⟨⟨lJ,by simpa using nJ⟩,aO _,cJ⟩
  ·exact ⟨⟨lV,by simpa using nV⟩,aO _,cV⟩
  ·exact ⟨⟨lU,by simpa using nU⟩,aO _,cU⟩
 ·refine ⟨fun e he=>?_,(fun e he=>by cases he),fun e he=>by cases he⟩
  simp only [fG,ag,ae,or_false] at he
  rcases he with rfl | rfl | rfl
  ·exact ⟨⟨bJ,oJ,none⟩,J.2.1,J.2.2,i,2,(by show J=_; rw [←eJ]),rfl,rfl,h0,h1,rfl,rfl⟩
  ·exact ⟨⟨bV,oV,none⟩,V.2.1,V.2.2,i,2,(by show V=_; rw [←eV]),rfl,rfl,h0,h2,rfl,rfl⟩
  ·exact ⟨⟨bU,oU,none⟩,VC.2.1,VC.2.2,k,2,(by show VC=_; rw [←eU]),rfl,rfl,h3,h4,rfl,rfl⟩
theorem abS (eJ:J.1=some ⟨bJ,oJ,none⟩) (eV:V.1=some ⟨bV,oV,none⟩) (eU:VC.1=some ⟨bU,oU,none⟩) (h0:0≤i) (h1:i<(J.2.1:Nat)) (h2:i<(V.2.1:Nat)) (h3:0≤k) (h4:k<(VC.2.1:Nat)) (hw1:1≤wt) (hw2:wt≤1000000000)
  (lJ:bJ<w0.heap.size) (nJ:bJ≠nc) (lV:bV<w0.heap.size) (nV:bV≠nc) (lU:bU<w0.heap.size) (nU:bU≠nc) (cJ:∀(q:Nat) (x:Value),[num 1][q]?=some x→w0.cell? ⟨bJ,oJ+i.toNat*1+q,none⟩=some x) (cV:∀(q:Nat) (x:Value),(v.cs nc)[q]?=some x→w0.cell? ⟨bV,oV+i.toNat*7+q,none⟩=some x) (cU:∀(q:Nat) (x:Value),(u.cs nc)[q]?=some x→w0.cell? ⟨bU,oU+k.toNat*7+q,none⟩=some x)
  (hown:∀g∈[nc,gl]++[nb,nm],g∈[nc]∨w0.heap.size≤g) (hnd:([nc,gl]++[nb,nm]).Nodup) (h:dP (j5 2 B3 VC J nb nm gl k M i) (fO nc gl (f) [r0,r1]) [gq nb nc B0 B1 B2 B3,kg nm wt J V] a w) (hk:dO w0 [nc] w) (hQ:∀a' w',dP (j5 2 B3 VC J nb nm gl k M (bg.wrap (i+1))) (fO nc gl (((f||rf v u)||!ma (fQ v u).1 (fQ v u).2 wt)||zg r1 (jY (fQ v u) wt)) [r0,qH r1 (jY (fQ v u) wt)]) [gq nb nc B0 B1 B2 B3,kg nm wt J V] a' w'→dO w0 [nc] w'→Q .normal a' w') :
  (nP (dN bE)).wp aa Q a w:=by
 refine j4 (A7 [r0,r1] k M wt i (J.2.1:Nat) v u) (Ap f v u wt) [B0,B1,B2,B3,VC,J,V] (g:=[(mB 20 [var 9,var 10],.bool true)]) (wt:=[(5,var 9,1,2),(6,var 9,7,3),(4,var 0,7,4)]) (lt:=[]) (sb:=[]) (T:=tT) (K:=[]) (RT:=[]) (wb:=[dU [.int .i64 1],dU (.pointer (some ⟨0,0,none⟩)::iE 11),dU (.pointer (some ⟨0,0,none⟩)::iE 17)]) (ws:=[(bJ,oJ+i.toNat*1,[num 1]),(bV,oV+i.toNat*7,v.cs nc),(bU,oU+k.toNat*7,u.cs nc)]) (fr:=wm 2) (H:=ku 2) (lo:=[kN,wu]) 44 .normal [0,1] [0,1] (by kernel_rfl) (by kernel_rfl) (by exact hnd) ⟨o8 (by exact decide_eq_true h1),?_,gD,fT,?_,fw (by exact hown),gH,fun _=>?_⟩ h hk hQ
 ·intro t ht
  simp only [tT,ag,ae,or_false] at ht
  rcases ht with rfl | rfl
  ·exact ⟨rfl,fun nc c w _ _ hw=>⟨[v.val nc,u.val nc],.agg ⟨[num (fQ v u).1,num (fQ v u).2]⟩,rf v u,by kernel_rfl,by kernel_rfl,by kernel_rfl,(BQ nc c v.a v.b v.c v.d v.e v.f u.a u.b u.c u.d u.e u.f w hw).mono (fun r w' ⟨q1,q2⟩=>⟨q1,by rw [BR] at q2; exact q2⟩)⟩⟩
  ·exact ⟨rfl,fun nc c w _ _ hw=>⟨[.pointer (some ⟨nc,0,none⟩),.agg ⟨[num (fQ v u).1,num (fQ v u).2]⟩,num wt],.agg ⟨[num (jY (fQ v u) wt).1,num (jY (fQ v u) wt).2]⟩,!ma (fQ v u).1 (fQ v u).2 wt,by kernel_rfl,by kernel_rfl,by kernel_rfl,BL nc 88 _ _ wt c w hw hw1 hw2⟩⟩
 ·intro x hx
  simp only [ag,ae,or_false] at hx
  rcases hx with rfl | rfl | rfl
  ·exact ⟨⟨lJ,by simpa using nJ⟩,aO _,cJ⟩
  ·exact ⟨⟨lV,by simpa using nV⟩,aO _,cV⟩
  ·exact ⟨⟨lU,by simpa using nU⟩,aO _,cU⟩
 ·refine ⟨fun e he=>?_,(fun e he=>by cases he),fun e he=>by cases he⟩
  simp only [fG,ag,ae,or_false] at he
  rcases he with rfl | rfl | rfl
  ·exact ⟨⟨bJ,oJ,none⟩,J.2.1,J.2.2,i,2,(by show J=_; rw [←eJ]),rfl,rfl,h0,h1,rfl,rfl⟩
  ·exact ⟨⟨bV,oV,none⟩,V.2.1,V.2.2,i,2,(by show V=_; rw [←eV]),rfl,rfl,h0,h2,rfl,rfl⟩
  ·exact ⟨⟨bU,oU,none⟩,VC.2.1,VC.2.2,k,2,(by show VC=_; rw [←eU]),rfl,rfl,h3,h4,rfl,rfl⟩
theorem ab6 (hB:B0.2.1=2) (h:dP ([some (.agg ⟨[dK nc,dJ B0,dJ B1,dJ B2,dJ B3]⟩),some (dJ VC)]++az 57 (some undef)) [(nc,[.bool f],88)] [] a w) (hk:dO w0 [nc] w)
  (hQ:∀a' w' gl nb,w.heap.size≤gl→w.heap.size≤nb→([nc,gl]++[nb]).Nodup→dP (vv 2 VC nb gl) (fO nc gl f [(0,0),(0,0)]) [gq nb nc B0 B1 B2 B3] a' w'→dO w0 [nc] w'→D.wp aa Q a' w') :
  (fB [dZ (dN bE),jM (dN bE)] D).wp aa Q a w:=by
 refine jZ [] [f] [B0,B1,B2,B3,VC] (g:=[]) (wt:=[]) (lt:=[(0,.int .i64 2)]) (sb:=[]) (T:=[]) (K:=[]) (RT:=[]) (wb:=[]) (ws:=[]) (fr:=[.agg ⟨[.pointer (some ⟨0,0,none⟩),dM 0,dM 1,dM 2,dM 3]⟩,dM 4]++az 57 undef) (H:=[dQ [mB 1 [.int .i64 0]] 88]) (lo:=[]) (us':=fun ng nl=>vv 2 VC (nl.headD 0) (ng.headD 0)) (gs':=fun ng _=>fO nc (ng.headD 0) f [(0,0),(0,0)]) (ls':=fun _ nl=>[gq (nl.headD 0) nc B0 B1 B2 B3]) 44 _ [0,1] [0] [5] [2] (fun ng nl e1 e2=>?_) (by kernel_rfl) (fun ng nl e1 e2 e3=>?_) ⟨ed _,gG,gD,fT,il _ _,fw (by simp),gH,fun _=>?_⟩ h hk (fun a' w' ng nl e1 e2 e3 e4 hs hk'=>?_)
 ·match ng,nl,e1,e2 with
  | [y],[x],_,_=>show (_:Option _)=_; kernel_rfl
 ·match ng,nl,e1,e2 with
  | [y],[x],_,_=>exact e3
 ·refine ⟨(fun e he=>by cases he),fun e he=>?_,fun e he=>by cases he⟩
  simp only [fG,ag,ae,or_false] at he
  subst he
  exact ⟨2,by show some (num 2)=some (.int .i64 (B0.2.1:Nat)); rw [hB]; rfl⟩
 ·match ng,nl,e1,e2 with
  | [y],[x],_,_=>exact hQ a' w' y x (e4 y (by simp)).1 (e4 x (by simp)).1 e3 hs hk'
theorem aca (hown:∀g∈[nc,gl]++[nb],g∈[nc]∨w0.heap.size≤g) (hnd:([nc,gl]++[nb]).Nodup) (h:dP (vv 2 VC nb gl) (fO nc gl f [r0,r1]) [gq nb nc B0 B1 B2 B3] a w) (hk:dO w0 [nc] w) (hQ:∀a' w',dP (ja 2 B3 VC nb gl 0 (B3.2.1:Nat)) (fO nc gl f [r0,r1]) [gq nb nc B0 B1 B2 B3] a' w'→dO w0 [nc] w'→D.wp aa Q a' w') :
  (fB [dZ (jK (dN bE))] D).wp aa Q a w :=
 uf (qO [r0,r1] 0 (B3.2.1:Nat)) [f] [B0,B1,B2,B3,VC] (g:=[]) (wt:=[]) (lt:=[(3,var 1)]) (sb:=[]) (T:=[]) (K:=[]) (RT:=[]) (wb:=[]) (ws:=[]) (fr:=Hu 2) (H:=ku 2) (lo:=[kN]) 44 _ [0,1] [0] (by kernel_rfl) (by kernel_rfl) (by exact hnd) ⟨ed _,gG,gD,fT,il _ _,fw (by exact hown),gH,fun _=>⟨(fun e he=>by cases he),(fun e he=>by
  simp only [fG,ag,ae,or_false] at he
  subst he
  exact ⟨2,by kernel_rfl⟩),fun e he=>by cases he⟩⟩ h hk hQ
theorem ab2 (hown:∀g∈[nc,gl]++[],g∈[nc]∨w0.heap.size≤g) (hnd:([nc,gl]++[]).Nodup) (h:dP (xw 2 gl) (fO nc gl f [r0,r1]) [] a w) (hk:dO w0 [nc] w)
  (hQ:∀a' w',dP (xw 2 gl) (fO nc gl f [r0,r1]) [] a' w'→dO w0 [nc] w'→R (.returned (.slice (some ⟨gl,0,none⟩) 2 2)) w') :
  (sR 3 (dN bE)).wp aa (bodyPost aa bE R) a w :=
 qQ (qO [r0,r1] 0 0) [f] [] (g:=[]) (wt:=[]) (lt:=[]) (sb:=[]) (T:=[]) (K:=[]) (RT:=[]) (wb:=[]) (ws:=[]) (fr:=Hr 2) (H:=ku 2) (lo:=[]) (u:=.slice (some ⟨gl,0,none⟩) 2 2) 44 [0,1] [] (by kernel_rfl) (by kernel_rfl) (by exact hnd) ⟨ed _,gG,gD,fT,il _ _,fw (by exact hown),gH,fun _=>iI⟩ h hk hQ
variable {r2:Int×Int}
theorem abG (hown:∀g∈[nc,gl]++[nb],g∈[nc]∨w0.heap.size≤g) (hnd:([nc,gl]++[nb]).Nodup) (hlt:k<M) (h:dP (ja 3 B3 VC nb gl k M) (fO nc gl f [r0,r1,r2]) [gq nb nc B0 B1 B2 B3] a w) (hk:dO w0 [nc] w) (hQ:∀a' w',dP (ja 3 B3 VC nb gl k M) (fO nc gl f [r0,r1,r2]) [gq nb nc B0 B1 B2 B3] a' w'→dO w0 [nc] w'→D.wp aa Q a' w') :
  (fB [dZ (iW (dN bE)),dZ (fU (iW (dN bE)))] D).wp aa Q a w :=
 uf (qO [r0,r1,r2] k M) [f] [B0,B1,B2,B3,VC] (g:=[(mB 20 [var 0,var 1],.bool true)]) (wt:=[]) (lt:=[]) (sb:=[]) (T:=[]) (K:=[]) (RT:=[]) (wb:=[]) (ws:=[]) (fr:=tN 3) (H:=ku 3) (lo:=[kN]) 44 _ [0,1] [0] (by kernel_rfl) (by kernel_rfl) (by exact hnd) ⟨o8 (by exact decide_eq_true hlt),gG,gD,fT,il _ _,fw (by exact hown),gH,fun _=>iI⟩ h hk hQ
theorem abO (hown:∀g∈[nc,gl]++[nb],g∈[nc]∨w0.heap.size≤g) (hnd:([nc,gl]++[nb]).Nodup) (hlt:¬k<M) (h:dP (ja 3 B3 VC nb gl k M) (fO nc gl f [r0,r1,r2]) [gq nb nc B0 B1 B2 B3] a w) (hk:dO w0 [nc] w) (hQ:∀a' w',dP (ja 3 B3 VC nb gl k M) (fO nc gl f [r0,r1,r2]) [gq nb nc B0 B1 B2 B3] a' w'→dO w0 [nc] w'→Q (.exit 0) a' w') :
  (iW (dN bE)).wp aa Q a w :=
 j4 (qO [r0,r1,r2] k M) [f] [B0,B1,B2,B3,VC] (g:=[(mB 20 [var 0,var 1],.bool false)]) (wt:=[]) (lt:=[]) (sb:=[]) (T:=[]) (K:=[]) (RT:=[]) (wb:=[]) (ws:=[]) (fr:=tN 3) (H:=ku 3) (lo:=[kN]) 44 (.exit 0) [0,1] [0] (by kernel_rfl) (by kernel_rfl) (by exact hnd) ⟨o8 (by exact decide_eq_false hlt),gG,gD,fT,il _ _,fw (by exact hown),gH,fun _=>iI⟩ h hk hQ
theorem abZ (hown:∀g∈[nc,gl]++[nb],g∈[nc]∨w0.heap.size≤g) (hnd:([nc,gl]++[nb]).Nodup) (h:dP (ja 3 B3 VC nb gl k M) (fO nc gl f [r0,r1,r2]) [gq nb nc B0 B1 B2 B3] a w) (hk:dO w0 [nc] w) (hQ:∀a' w',dP (ja 3 B3 VC nb gl (bg.wrap (k+1)) M) (fO nc gl f [r0,r1,r2]) [gq nb nc B0 B1 B2 B3] a' w'→dO w0 [nc] w'→Q .normal a' w') :
  (sR 3 (iW (dN bE))).wp aa Q a w :=
 j4 (qO [r0,r1,r2] k M) [f] [B0,B1,B2,B3,VC] (g:=[]) (wt:=[]) (lt:=[]) (sb:=[]) (T:=[]) (K:=[]) (RT:=[]) (wb:=[]) (ws:=[]) (fr:=tN 3) (H:=ku 3) (lo:=[kN]) 44 .normal [0,1] [0] (by kernel_rfl) (by kernel_rfl) (by exact hnd) ⟨ed _,gG,gD,fT,il _ _,fw (by exact hown),gH,fun _=>iI⟩ h hk hQ
theorem abK (eM:B3.1=some ⟨bM,oM,none⟩) (h0:0≤k) (h1:k<(B3.2.1:Nat)) (lM:bM<w0.heap.size) (nM:bM≠nc) (cM:∀(q:Nat) (u:Value),[num wt,dJ J,dJ V][q]?=some u→w0.cell? ⟨bM,oM+k.toNat*3+q,none⟩=some u)
  (hown:∀g∈[nc,gl]++[nb],g∈[nc]∨w0.heap.size≤g) (h:dP (ja 3 B3 VC nb gl k M) (fO nc gl f [r0,r1,r2]) [gq nb nc B0 B1 B2 B3] a w) (hk:dO w0 [nc] w) (hQ:∀a' w' nm,w.heap.size≤nm→([nc,gl]++[nb,nm]).Nodup→dP (j5 3 B3 VC J nb nm gl k M 0) (fO nc gl (f) [r0,r1,r2]) [gq nb nc B0 B1 B2 B3,kg nm wt J V] a' w'→dO w0 [nc] w'→D.wp aa Q a' w') :
  (fB [dZ (rD (dN bE)),dZ (fU (rD (dN bE)))] D).wp aa Q a w:=by
 refine jZ (zC [r0,r1,r2] k M wt 0 (J.2.1:Nat)) [f] [B0,B1,B2,B3,VC,J,V] (g:=[]) (wt:=[(3,var 0,3,1)]) (lt:=[(5,var 10)]) (sb:=[]) (T:=[]) (K:=[]) (RT:=[]) (wb:=[dU [var 8,dM 5,dM 6]]) (ws:=[(bM,oM+k.toNat*3,[num wt,dJ J,dJ V])]) (fr:=tN 3) (H:=ku 3) (lo:=[kN]) (us':=fun _ nl=>j5 3 B3 VC J nb (nl.headD 0) gl k M 0) (gs':=fun _ _=>fO nc gl f [r0,r1,r2]) (ls':=fun _ nl=>[gq nb nc B0 B1 B2 B3,kg (nl.headD 0) wt J V]) 44 _ [0,1] [0,2] [] [7] (fun ng nl e1 e2=>?_) (by kernel_rfl) (fun ng nl e1 e2 e3=>?_) ⟨ed _,gG,gD,fT,?_,fw (by exact hown),gH,fun _=>?_⟩ h hk (fun a' w' ng nl e1 e2 e3 e4 hs hk'=>?_)
 ·match ng,nl,e1,e2 with
  | [],[x],_,_=>show (_:Option _)=_; kernel_rfl
 ·match ng,nl,e1,e2 with
  | [],[x],_,_=>exact e3
 ·intro x hx
  simp only [ag,ae,or_false] at hx
  subst hx
  exact ⟨⟨lM,by simpa using nM⟩,aO _,cM⟩
 ·refine ⟨fun e he=>?_,fun e he=>?_,fun e he=>by cases he⟩
  ·simp only [fG,ag,ae,or_false] at he
   subst he
   exact ⟨⟨bM,oM,none⟩,B3.2.1,B3.2.2,k,2,(by show B3=_; rw [←eM]),rfl,rfl,h0,h1,rfl,rfl⟩
  ·simp only [fG,ag,ae,or_false] at he
   subst he
   exact ⟨2,by kernel_rfl⟩
 ·match ng,nl,e1,e2 with
  | [],[x],_,_=>exact hQ a' w' x (e4 x (by simp)).1 e3 hs hk'
theorem acg (hown:∀g∈[nc,gl]++[nb,nm],g∈[nc]∨w0.heap.size≤g) (hlt:¬i<(J.2.1:Nat)) (hnd:([nc,gl]++[nb]).Nodup) (h:dP (j5 3 B3 VC J nb nm gl k M i) (fO nc gl (f) [r0,r1,r2]) [gq nb nc B0 B1 B2 B3,kg nm wt J V] a w) (hk:dO w0 [nc] w) (hQ:∀a' w',dP (ja 3 B3 VC nb gl k M) (fO nc gl f [r0,r1,r2]) [gq nb nc B0 B1 B2 B3] a' w'→dO w0 [nc] w'→Q (.exit 2) a' w') :
  (nP (dN bE)).wp aa Q a w :=
 j4 (zC [r0,r1,r2] k M wt i (J.2.1:Nat)) [f] [B0,B1,B2,B3,VC,J,V] (g:=[(mB 20 [var 9,var 10],.bool false)]) (wt:=[]) (lt:=[]) (sb:=[]) (T:=[]) (K:=[]) (RT:=[]) (wb:=[]) (ws:=[]) (fr:=wm 3) (H:=ku 3) (lo:=[kN,wu]) 44 (.exit 2) [0,1] [0] (by kernel_rfl) (by kernel_rfl) (by exact hnd) ⟨o8 (by exact decide_eq_false hlt),gG,gD,fT,il _ _,fw (by exact hown),gH,fun _=>iI⟩ h hk hQ
theorem abT (eJ:J.1=some ⟨bJ,oJ,none⟩) (eV:V.1=some ⟨bV,oV,none⟩) (eU:VC.1=some ⟨bU,oU,none⟩) (h0:0≤i) (h1:i<(J.2.1:Nat)) (h2:i<(V.2.1:Nat)) (h3:0≤k) (h4:k<(VC.2.1:Nat)) (hw1:1≤wt) (hw2:wt≤1000000000)
  (lJ:bJ<w0.heap.size) (nJ:bJ≠nc) (lV:bV<w0.heap.size) (nV:bV≠nc) (lU:bU<w0.heap.size) (nU:bU≠nc) (cJ:∀(q:Nat) (x:Value),[num 0][q]?=some x→w0.cell? ⟨bJ,oJ+i.toNat*1+q,none⟩=some x) (cV:∀(q:Nat) (x:Value),(v.cs nc)[q]?=some x→w0.cell? ⟨bV,oV+i.toNat*7+q,none⟩=some x) (cU:∀(q:Nat) (x:Value),(u.cs nc)[q]?=some x→w0.cell? ⟨bU,oU+k.toNat*7+q,none⟩=some x)
  (hown:∀g∈[nc,gl]++[nb,nm],g∈[nc]∨w0.heap.size≤g) (hnd:([nc,gl]++[nb,nm]).Nodup) (h:dP (j5 3 B3 VC J nb nm gl k M i) (fO nc gl (f) [r0,r1,r2]) [gq nb nc B0 B1 B2 B3,kg nm wt J V] a w) (hk:dO w0 [nc] w) (hQ:∀a' w',dP (j5 3 B3 VC J nb nm gl k M (bg.wrap (i+1))) (fO nc gl (((f||rf v u)||!ma (fQ v u).1 (fQ v u).2 wt)||zg r0 (jY (fQ v u) wt)) [qH r0 (jY (fQ v u) wt),r1,r2]) [gq nb nc B0 B1 B2 B3,kg nm wt J V] a' w'→dO w0 [nc] w'→Q .normal a' w') :
  (nP (dN bE)).wp aa Q a w:=by
 refine j4 (A7 [r0,r1,r2] k M wt i (J.2.1:Nat) v u) (Ap f v u wt) [B0,B1,B2,B3,VC,J,V] (g:=[(mB 20 [var 9,var 10],.bool true)]) (wt:=[(5,var 9,1,2),(6,var 9,7,3),(4,var 0,7,4)]) (lt:=[]) (sb:=[]) (T:=tT) (K:=[]) (RT:=[]) (wb:=[dU [.int .i64 0],dU (.pointer (some ⟨0,0,none⟩)::iE 11),dU (.pointer (some ⟨0,0,none⟩)::iE 17)]) (ws:=[(bJ,oJ+i.toNat*1,[num 0]),(bV,oV+i.toNat*7,v.cs nc),(bU,oU+k.toNat*7,u.cs nc)]) (fr:=wm 3) (H:=ku 3) (lo:=[kN,wu]) 44 .normal [0,1] [0,1] (by kernel_rfl) (by kernel_rfl) (by exact hnd) ⟨o8 (by exact decide_eq_true h1),?_,gD,fT,?_,fw (by exact hown),gH,fun _=>?_⟩ h hk hQ
 ·intro t ht
  simp only [tT,ag,ae,or_false] at ht
  rcases ht with rfl | rfl
  ·exact ⟨rfl,fun nc c w _ _ hw=>⟨[v.val nc,u.val nc],.agg ⟨[num (fQ v u).1,num (fQ v u).2]⟩,rf v u,by kernel_rfl,by kernel_rfl,by kernel_rfl,(BQ nc c v.a v.b v.c v.d v.e v.f u.a u.b u.c u.d u.e u.f w hw).mono (fun r w' ⟨q1,q2⟩=>⟨q1,by rw [BR] at q2; exact q2⟩)⟩⟩
  ·exact ⟨rfl,fun nc c w _ _ hw=>⟨[.pointer (some ⟨nc,0,none⟩),.agg ⟨[num (fQ v u).1,num (fQ v u).2]⟩,num wt],.agg ⟨[num (jY (fQ v u) wt).1,num (jY (fQ v u) wt).2]⟩,!ma (fQ v u).1 (fQ v u).2 wt,by kernel_rfl,by kernel_rfl,by kernel_rfl,BL nc 88 _ _ wt c w hw hw1 hw2⟩⟩
 ·intro x hx
  simp only [ag,ae,or_false] at hx
  rcases hx with rfl | rfl | rfl
  ·exact ⟨⟨lJ,by simpa using nJ⟩,aO _,cJ⟩
  ·exact ⟨⟨lV,by simpa using nV⟩,aO _,cV⟩
  ·exact ⟨⟨lU,by simpa using nU⟩,aO _,cU⟩
 ·refine ⟨fun e he=>?_,(fun e he=>by cases he),fun e he=>by cases he⟩
  simp only [fG,ag,ae,or_false] at he
  rcases he with rfl | rfl | rfl
  ·exact ⟨⟨bJ,oJ,none⟩,J.2.1,J.2.2,i,2,(by show J=_; rw [←eJ]),rfl,rfl,h0,h1,rfl,rfl⟩
  ·exact ⟨⟨bV,oV,none⟩,V.2.1,V.2.2,i,2,(by show V=_; rw [←eV]),rfl,rfl,h0,h2,rfl,rfl⟩
  ·exact ⟨⟨bU,oU,none⟩,VC.2.1,VC.2.2,k,2,(by show VC=_; rw [←eU]),rfl,rfl,h3,h4,rfl,rfl⟩
theorem abU (eJ:J.1=some ⟨bJ,oJ,none⟩) (eV:V.1=some ⟨bV,oV,none⟩) (eU:VC.1=some ⟨bU,oU,none⟩) (h0:0≤i) (h1:i<(J.2.1:Nat)) (h2:i<(V.2.1:Nat)) (h3:0≤k) (h4:k<(VC.2.1:Nat)) (hw1:1≤wt) (hw2:wt≤1000000000)
  (lJ:bJ<w0.heap.size) (nJ:bJ≠nc) (lV:bV<w0.heap.size) (nV:bV≠nc) (lU:bU<w0.heap.size) (nU:bU≠nc) (cJ:∀(q:Nat) (x:Value),[num 1][q]?=some x→w0.cell? ⟨bJ,oJ+i.toNat*1+q,none⟩=some x) (cV:∀(q:Nat) (x:Value),(v.cs nc)[q]?=some x→w0.cell? ⟨bV,oV+i.toNat*7+q,none⟩=some x) (cU:∀(q:Nat) (x:Value),(u.cs nc)[q]?=some x→w0.cell? ⟨bU,oU+k.toNat*7+q,none⟩=some x)
  (hown:∀g∈[nc,gl]++[nb,nm],g∈[nc]∨w0.heap.size≤g) (hnd:([nc,gl]++[nb,nm]).Nodup) (h:dP (j5 3 B3 VC J nb nm gl k M i) (fO nc gl (f) [r0,r1,r2]) [gq nb nc B0 B1 B2 B3,kg nm wt J V] a w) (hk:dO w0 [nc] w) (hQ:∀a' w',dP (j5 3 B3 VC J nb nm gl k M (bg.wrap (i+1))) (fO nc gl (((f||rf v u)||!ma (fQ v u).1 (fQ v u).2 wt)||zg r1 (jY (fQ v u) wt)) [r0,qH r1 (jY (fQ v u) wt),r2]) [gq nb nc B0 B1 B2 B3,kg nm wt J V] a' w'→dO w0 [nc] w'→Q .normal a' w') :
  (nP (dN bE)).wp aa Q a w:=by
 refine j4 (A7 [r0,r1,r2] k M wt i (J.2.1:Nat) v u) (Ap f v u wt) [B0,B1,B2,B3,VC,J,V] (g:=[(mB 20 [var 9,var 10],.bool true)]) (wt:=[(5,var 9,1,2),(6,var 9,7,3),(4,var 0,7,4)]) (lt:=[]) (sb:=[]) (T:=tT) (K:=[]) (RT:=[]) (wb:=[dU [.int .i64 1],dU (.pointer (some ⟨0,0,none⟩)::iE 11),dU (.pointer (some ⟨0,0,none⟩)::iE 17)]) (ws:=[(bJ,oJ+i.toNat*1,[num 1]),(bV,oV+i.toNat*7,v.cs nc),(bU,oU+k.toNat*7,u.cs nc)]) (fr:=wm 3) (H:=ku 3) (lo:=[kN,wu]) 44 .normal [0,1] [0,1] (by kernel_rfl) (by kernel_rfl) (by exact hnd) ⟨o8 (by exact decide_eq_true h1),?_,gD,fT,?_,fw (by exact hown),gH,fun _=>?_⟩ h hk hQ
 ·intro t ht
  simp only [tT,ag,ae,or_false] at ht
  rcases ht with rfl | rfl
  ·exact ⟨rfl,fun nc c w _ _ hw=>⟨[v.val nc,u.val nc],.agg ⟨[num (fQ v u).1,num (fQ v u).2]⟩,rf v u,by kernel_rfl,by kernel_rfl,by kernel_rfl,(BQ nc c v.a v.b v.c v.d v.e v.f u.a u.b u.c u.d u.e u.f w hw).mono (fun r w' ⟨q1,q2⟩=>⟨q1,by rw [BR] at q2; exact q2⟩)⟩⟩
  ·exact ⟨rfl,fun nc c w _ _ hw=>⟨[.pointer (some ⟨nc,0,none⟩),.agg ⟨[num (fQ v u).1,num (fQ v u).2]⟩,num wt],.agg ⟨[num (jY (fQ v u) wt).1,num (jY (fQ v u) wt).2]⟩,!ma (fQ v u).1 (fQ v u).2 wt,by kernel_rfl,by kernel_rfl,by kernel_rfl,BL nc 88 _ _ wt c w hw hw1 hw2⟩⟩
 ·intro x hx
  simp only [ag,ae,or_false] at hx
  rcases hx with rfl | rfl | rfl
  ·exact ⟨⟨lJ,by simpa using nJ⟩,aO _,cJ⟩
  ·exact ⟨⟨lV,by simpa using nV⟩,aO _,cV⟩
  ·exact ⟨⟨lU,by simpa using nU⟩,aO _,cU⟩
 ·refine ⟨fun e he=>?_,(fun e he=>by cases he),fun e he=>by cases he⟩
  simp only [fG,ag,ae,or_false] at he
  rcases he with rfl | rfl | rfl
  ·exact ⟨⟨bJ,oJ,none⟩,J.2.1,J.2.2,i,2,(by show J=_; rw [←eJ]),rfl,rfl,h0,h1,rfl,rfl⟩
  ·exact ⟨⟨bV,oV,none⟩,V.2.1,V.2.2,i,2,(by show V=_; rw [←eV]),rfl,rfl,h0,h2,rfl,rfl⟩
  ·exact ⟨⟨bU,oU,none⟩,VC.2.1,VC.2.2,k,2,(by show VC=_; rw [←eU]),rfl,rfl,h3,h4,rfl,rfl⟩
theorem abV (eJ:J.1=some ⟨bJ,oJ,none⟩) (eV:V.1=some ⟨bV,oV,none⟩) (eU:VC.1=some ⟨bU,oU,none⟩) (h0:0≤i) (h1:i<(J.2.1:Nat)) (h2:i<(V.2.1:Nat)) (h3:0≤k) (h4:k<(VC.2.1:Nat)) (hw1:1≤wt) (hw2:wt≤1000000000)
  (lJ:bJ<w0.heap.size) (nJ:bJ≠nc) (lV:bV<w0.heap.size) (nV:bV≠nc) (lU:bU<w0.heap.size) (nU:bU≠nc) (cJ:∀(q:Nat) (x:Value),[num 2][q]?=some x→w0.cell? ⟨bJ,oJ+i.toNat*1+q,none⟩=some x) (cV:∀(q:Nat) (x:Value),(v.cs nc)[q]?=some x→w0.cell? ⟨bV,oV+i.toNat*7+q,none⟩=some x) (cU:∀(q:Nat) (x:Value),(u.cs nc)[q]?=some x→w0.cell? ⟨bU,oU+k.toNat*7+q,none⟩=some x)
  (hown:∀g∈[nc,gl]++[nb,nm],g∈[nc]∨w0.heap.size≤g) (hnd:([nc,gl]++[nb,nm]).Nodup) (h:dP (j5 3 B3 VC J nb nm gl k M i) (fO nc gl (f) [r0,r1,r2]) [gq nb nc B0 B1 B2 B3,kg nm wt J V] a w) (hk:dO w0 [nc] w) (hQ:∀a' w',dP (j5 3 B3 VC J nb nm gl k M (bg.wrap (i+1))) (fO nc gl (((f||rf v u)||!ma (fQ v u).1 (fQ v u).2 wt)||zg r2 (jY (fQ v u) wt)) [r0,r1,qH r2 (jY (fQ v u) wt)]) [gq nb nc B0 B1 B2 B3,kg nm wt J V] a' w'→dO w0 [nc] w'→Q .normal a' w') :
  (nP (dN bE)).wp aa Q a w:=by
 refine j4 (A7 [r0,r1,r2] k M wt i (J.2.1:Nat) v u) (Ap f v u wt) [B0,B1,B2,B3,VC,J,V] (g:=[(mB 20 [var 9,var 10],.bool true)]) (wt:=[(5,var 9,1,2),(6,var 9,7,3),(4,var 0,7,4)]) (lt:=[]) (sb:=[]) (T:=tT) (K:=[]) (RT:=[]) (wb:=[dU [.int .i64 2],dU (.pointer (some ⟨0,0,none⟩)::iE 11),dU (.pointer (some ⟨0,0,none⟩)::iE 17)]) (ws:=[(bJ,oJ+i.toNat*1,[num 2]),(bV,oV+i.toNat*7,v.cs nc),(bU,oU+k.toNat*7,u.cs nc)]) (fr:=wm 3) (H:=ku 3) (lo:=[kN,wu]) 44 .normal [0,1] [0,1] (by kernel_rfl) (by kernel_rfl) (by exact hnd) ⟨o8 (by exact decide_eq_true h1),?_,gD,fT,?_,fw (by exact hown),gH,fun _=>?_⟩ h hk hQ
 ·intro t ht
  simp only [tT,ag,ae,or_false] at ht
  rcases ht with rfl | rfl
  ·exact ⟨rfl,fun nc c w _ _ hw=>⟨[v.val nc,u.val nc],.agg ⟨[num (fQ v u).1,num (fQ v u).2]⟩,rf v u,by kernel_rfl,by kernel_rfl,by kernel_rfl,(BQ nc c v.a v.b v.c v.d v.e v.f u.a u.b u.c u.d u.e u.f w hw).mono (fun r w' ⟨q1,q2⟩=>⟨q1,by rw [BR] at q2; exact q2⟩)⟩⟩
  ·exact ⟨rfl,fun nc c w _ _ hw=>⟨[.pointer (some ⟨nc,0,none⟩),.agg ⟨[num (fQ v u).1,num (fQ v u).2]⟩,num wt],.agg ⟨[num (jY (fQ v u) wt).1,num (jY (fQ v u) wt).2]⟩,!ma (fQ v u).1 (fQ v u).2 wt,by kernel_rfl,by kernel_rfl,by kernel_rfl,BL nc 88 _ _ wt c w hw hw1 hw2⟩⟩
 ·intro x hx
  simp only [ag,ae,or_false] at hx
  rcases hx with rfl | rfl | rfl
  ·exact ⟨⟨lJ,by simpa using nJ⟩,aO _,cJ⟩
  ·exact ⟨⟨lV,by simpa using nV⟩,aO _,cV⟩
  ·exact ⟨⟨lU,by simpa using nU⟩,aO _,cU⟩
 ·refine ⟨fun e he=>?_,(fun e he=>by cases he),fun e he=>by cases he⟩
  simp only [fG,ag,ae,or_false] at he
  rcases he with rfl | rfl | rfl
  ·exact ⟨⟨bJ,oJ,none⟩,J.2.1,J.2.2,i,2,(by show J=_; rw [←eJ]),rfl,rfl,h0,h1,rfl,rfl⟩
  ·exact ⟨⟨bV,oV,none⟩,V.2.1,V.2.2,i,2,(by show V=_; rw [←eV]),rfl,rfl,h0,h2,rfl,rfl⟩
  ·exact ⟨⟨bU,oU,none⟩,VC.2.1,VC.2.2,k,2,(by show VC=_; rw [←eU]),rfl,rfl,h3,h4,rfl,rfl⟩
theorem ab7 (hB:B0.2.1=3) (h:dP ([some (.agg ⟨[dK nc,dJ B0,dJ B1,dJ B2,dJ B3]⟩),some (dJ VC)]++az 57 (some undef)) [(nc,[.bool f],88)] [] a w) (hk:dO w0 [nc] w)
  (hQ:∀a' w' gl nb,w.heap.size≤gl→w.heap.size≤nb→([nc,gl]++[nb]).Nodup→dP (vv 3 VC nb gl) (fO nc gl f [(0,0),(0,0),(0,0)]) [gq nb nc B0 B1 B2 B3] a' w'→dO w0 [nc] w'→D.wp aa Q a' w') :
  (fB [dZ (dN bE),jM (dN bE)] D).wp aa Q a w:=by
 refine jZ [] [f] [B0,B1,B2,B3,VC] (g:=[]) (wt:=[]) (lt:=[(0,.int .i64 3)]) (sb:=[]) (T:=[]) (K:=[]) (RT:=[]) (wb:=[]) (ws:=[]) (fr:=[.agg ⟨[.pointer (some ⟨0,0,none⟩),dM 0,dM 1,dM 2,dM 3]⟩,dM 4]++az 57 undef) (H:=[dQ [mB 1 [.int .i64 0]] 88]) (lo:=[]) (us':=fun ng nl=>vv 3 VC (nl.headD 0) (ng.headD 0)) (gs':=fun ng _=>fO nc (ng.headD 0) f [(0,0),(0,0),(0,0)]) (ls':=fun _ nl=>[gq (nl.headD 0) nc B0 B1 B2 B3]) 44 _ [0,1] [0] [5] [2] (fun ng nl e1 e2=>?_) (by kernel_rfl) (fun ng nl e1 e2 e3=>?_) ⟨ed _,gG,gD,fT,il _ _,fw (by simp),gH,fun _=>?_⟩ h hk (fun a' w' ng nl e1 e2 e3 e4 hs hk'=>?_)
 ·match ng,nl,e1,e2 with
  | [y],[x],_,_=>show (_:Option _)=_; kernel_rfl
 ·match ng,nl,e1,e2 with
  | [y],[x],_,_=>exact e3
 ·refine ⟨(fun e he=>by cases he),fun e he=>?_,fun e he=>by cases he⟩
  simp only [fG,ag,ae,or_false] at he
  subst he
  exact ⟨2,by show some (num 3)=some (.int .i64 (B0.2.1:Nat)); rw [hB]; rfl⟩
 ·match ng,nl,e1,e2 with
  | [y],[x],_,_=>exact hQ a' w' y x (e4 y (by simp)).1 (e4 x (by simp)).1 e3 hs hk'
theorem acb (hown:∀g∈[nc,gl]++[nb],g∈[nc]∨w0.heap.size≤g) (hnd:([nc,gl]++[nb]).Nodup) (h:dP (vv 3 VC nb gl) (fO nc gl f [r0,r1,r2]) [gq nb nc B0 B1 B2 B3] a w) (hk:dO w0 [nc] w) (hQ:∀a' w',dP (ja 3 B3 VC nb gl 0 (B3.2.1:Nat)) (fO nc gl f [r0,r1,r2]) [gq nb nc B0 B1 B2 B3] a' w'→dO w0 [nc] w'→D.wp aa Q a' w') :
  (fB [dZ (jK (dN bE))] D).wp aa Q a w :=
 uf (qO [r0,r1,r2] 0 (B3.2.1:Nat)) [f] [B0,B1,B2,B3,VC] (g:=[]) (wt:=[]) (lt:=[(3,var 1)]) (sb:=[]) (T:=[]) (K:=[]) (RT:=[]) (wb:=[]) (ws:=[]) (fr:=Hu 3) (H:=ku 3) (lo:=[kN]) 44 _ [0,1] [0] (by kernel_rfl) (by kernel_rfl) (by exact hnd) ⟨ed _,gG,gD,fT,il _ _,fw (by exact hown),gH,fun _=>⟨(fun e he=>by cases he),(fun e he=>by
  simp only [fG,ag,ae,or_false] at he
  subst he
  exact ⟨2,by kernel_rfl⟩),fun e he=>by cases he⟩⟩ h hk hQ
theorem ab3 (hown:∀g∈[nc,gl]++[],g∈[nc]∨w0.heap.size≤g) (hnd:([nc,gl]++[]).Nodup) (h:dP (xw 3 gl) (fO nc gl f [r0,r1,r2]) [] a w) (hk:dO w0 [nc] w)
  (hQ:∀a' w',dP (xw 3 gl) (fO nc gl f [r0,r1,r2]) [] a' w'→dO w0 [nc] w'→R (.returned (.slice (some ⟨gl,0,none⟩) 3 3)) w') :
  (sR 3 (dN bE)).wp aa (bodyPost aa bE R) a w :=
 qQ (qO [r0,r1,r2] 0 0) [f] [] (g:=[]) (wt:=[]) (lt:=[]) (sb:=[]) (T:=[]) (K:=[]) (RT:=[]) (wb:=[]) (ws:=[]) (fr:=Hr 3) (H:=ku 3) (lo:=[]) (u:=.slice (some ⟨gl,0,none⟩) 3 3) 44 [0,1] [] (by kernel_rfl) (by kernel_rfl) (by exact hnd) ⟨ed _,gG,gD,fT,il _ _,fw (by exact hown),gH,fun _=>iI⟩ h hk hQ
variable {rs:List (Int×Int)}
theorem abD (hn:1≤rs.length∧rs.length≤3) (hown:∀g∈[nc,gl]++[nb],g∈[nc]∨w0.heap.size≤g) (hnd:([nc,gl]++[nb]).Nodup) (hlt:k<M) (h:dP (ja rs.length B3 VC nb gl k M) (fO nc gl f rs) [gq nb nc B0 B1 B2 B3] a w) (hk:dO w0 [nc] w) (hQ:∀a' w',dP (ja rs.length B3 VC nb gl k M) (fO nc gl f rs) [gq nb nc B0 B1 B2 B3] a' w'→dO w0 [nc] w'→D.wp aa Q a' w') :
  (fB [dZ (iW (dN bE)),dZ (fU (iW (dN bE)))] D).wp aa Q a w:=by
 match rs,hn with
 | [r0],_=>exact abE hown hnd hlt h hk hQ
 | [r0,r1],_=>exact abF hown hnd hlt h hk hQ
 | [r0,r1,r2],_=>exact abG hown hnd hlt h hk hQ
theorem abL (hn:1≤rs.length∧rs.length≤3) (hown:∀g∈[nc,gl]++[nb],g∈[nc]∨w0.heap.size≤g) (hnd:([nc,gl]++[nb]).Nodup) (hlt:¬k<M) (h:dP (ja rs.length B3 VC nb gl k M) (fO nc gl f rs) [gq nb nc B0 B1 B2 B3] a w) (hk:dO w0 [nc] w) (hQ:∀a' w',dP (ja rs.length B3 VC nb gl k M) (fO nc gl f rs) [gq nb nc B0 B1 B2 B3] a' w'→dO w0 [nc] w'→Q (.exit 0) a' w') :
  (iW (dN bE)).wp aa Q a w:=by
 match rs,hn with
 | [r0],_=>exact abM hown hnd hlt h hk hQ
 | [r0,r1],_=>exact abN hown hnd hlt h hk hQ
 | [r0,r1,r2],_=>exact abO hown hnd hlt h hk hQ
theorem abW (hn:1≤rs.length∧rs.length≤3) (hown:∀g∈[nc,gl]++[nb],g∈[nc]∨w0.heap.size≤g) (hnd:([nc,gl]++[nb]).Nodup) (h:dP (ja rs.length B3 VC nb gl k M) (fO nc gl f rs) [gq nb nc B0 B1 B2 B3] a w) (hk:dO w0 [nc] w) (hQ:∀a' w',dP (ja rs.length B3 VC nb gl (bg.wrap (k+1)) M) (fO nc gl f rs) [gq nb nc B0 B1 B2 B3] a' w'→dO w0 [nc] w'→Q .normal a' w') :
  (sR 3 (iW (dN bE))).wp aa Q a w:=by
 match rs,hn with
 | [r0],_=>exact abX hown hnd h hk hQ
 | [r0,r1],_=>exact abY hown hnd h hk hQ
 | [r0,r1,r2],_=>exact abZ hown hnd h hk hQ
theorem abH (hn:1≤rs.length∧rs.length≤3) (eM:B3.1=some ⟨bM,oM,none⟩) (h0:0≤k) (h1:k<(B3.2.1:Nat)) (lM:bM<w0.heap.size) (nM:bM≠nc) (cM:∀(q:Nat) (u:Value),[num wt,dJ J,dJ V][q]?=some u→w0.cell? ⟨bM,oM+k.toNat*3+q,none⟩=some u)
  (hown:∀g∈[nc,gl]++[nb],g∈[nc]∨w0.heap.size≤g) (h:dP (ja rs.length B3 VC nb gl k M) (fO nc gl f rs) [gq nb nc B0 B1 B2 B3] a w) (hk:dO w0 [nc] w) (hQ:∀a' w' nm,w.heap.size≤nm→([nc,gl]++[nb,nm]).Nodup→dP (j5 rs.length B3 VC J nb nm gl k M 0) (fO nc gl (f) rs) [gq nb nc B0 B1 B2 B3,kg nm wt J V] a' w'→dO w0 [nc] w'→D.wp aa Q a' w') :
  (fB [dZ (rD (dN bE)),dZ (fU (rD (dN bE)))] D).wp aa Q a w:=by
 match rs,hn with
 | [r0],_=>exact abI eM h0 h1 lM nM cM hown h hk hQ
 | [r0,r1],_=>exact abJ eM h0 h1 lM nM cM hown h hk hQ
 | [r0,r1,r2],_=>exact abK eM h0 h1 lM nM cM hown h hk hQ
theorem acd (hn:1≤rs.length∧rs.length≤3) (hown:∀g∈[nc,gl]++[nb,nm],g∈[nc]∨w0.heap.size≤g) (hlt:¬i<(J.2.1:Nat)) (hnd:([nc,gl]++[nb]).Nodup) (h:dP (j5 rs.length B3 VC J nb nm gl k M i) (fO nc gl (f) rs) [gq nb nc B0 B1 B2 B3,kg nm wt J V] a w) (hk:dO w0 [nc] w) (hQ:∀a' w',dP (ja rs.length B3 VC nb gl k M) (fO nc gl f rs) [gq nb nc B0 B1 B2 B3] a' w'→dO w0 [nc] w'→Q (.exit 2) a' w') :
  (nP (dN bE)).wp aa Q a w:=by
 match rs,hn with
 | [r0],_=>exact ace hown hlt hnd h hk hQ
 | [r0,r1],_=>exact acf hown hlt hnd h hk hQ
 | [r0,r1,r2],_=>exact acg hown hlt hnd h hk hQ
theorem ab8 (hn:1≤rs.length∧rs.length≤3) (hown:∀g∈[nc,gl]++[nb],g∈[nc]∨w0.heap.size≤g) (hnd:([nc,gl]++[nb]).Nodup) (h:dP (vv rs.length VC nb gl) (fO nc gl f rs) [gq nb nc B0 B1 B2 B3] a w) (hk:dO w0 [nc] w) (hQ:∀a' w',dP (ja rs.length B3 VC nb gl 0 (B3.2.1:Nat)) (fO nc gl f rs) [gq nb nc B0 B1 B2 B3] a' w'→dO w0 [nc] w'→D.wp aa Q a' w') :
  (fB [dZ (jK (dN bE))] D).wp aa Q a w:=by
 match rs,hn with
 | [r0],_=>exact ab9 hown hnd h hk hQ
 | [r0,r1],_=>exact aca hown hnd h hk hQ
 | [r0,r1,r2],_=>exact acb hown hnd h hk hQ
theorem ab0 (hn:1≤rs.length∧rs.length≤3) (hown:∀g∈[nc,gl]++[],g∈[nc]∨w0.heap.size≤g) (hnd:([nc,gl]++[]).Nodup) (h:dP (xw rs.length gl) (fO nc gl f rs) [] a w) (hk:dO w0 [nc] w)
  (hQ:∀a' w',dP (xw rs.length gl) (fO nc gl f rs) [] a' w'→dO w0 [nc] w'→R (.returned (.slice (some ⟨gl,0,none⟩) rs.length rs.length)) w') :
  (sR 3 (dN bE)).wp aa (bodyPost aa bE R) a w:=by
 match rs,hn with
 | [r0],_=>exact ab1 hown hnd h hk hQ
 | [r0,r1],_=>exact ab2 hown hnd h hk hQ
 | [r0,r1,r2],_=>exact ab3 hown hnd h hk hQ
theorem abP {j:Nat} (hn:1≤rs.length∧rs.length≤3) (hj:j<rs.length) (eJ:J.1=some ⟨bJ,oJ,none⟩) (eV:V.1=some ⟨bV,oV,none⟩) (eU:VC.1=some ⟨bU,oU,none⟩) (h0:0≤i) (h1:i<(J.2.1:Nat)) (h2:i<(V.2.1:Nat)) (h3:0≤k) (h4:k<(VC.2.1:Nat)) (hw1:1≤wt) (hw2:wt≤1000000000)
  (lJ:bJ<w0.heap.size) (nJ:bJ≠nc) (lV:bV<w0.heap.size) (nV:bV≠nc) (lU:bU<w0.heap.size) (nU:bU≠nc) (cJ:∀(q:Nat) (x:Value),[num j][q]?=some x→w0.cell? ⟨bJ,oJ+i.toNat*1+q,none⟩=some x) (cV:∀(q:Nat) (x:Value),(v.cs nc)[q]?=some x→w0.cell? ⟨bV,oV+i.toNat*7+q,none⟩=some x) (cU:∀(q:Nat) (x:Value),(u.cs nc)[q]?=some x→w0.cell? ⟨bU,oU+k.toNat*7+q,none⟩=some x)
  (hown:∀g∈[nc,gl]++[nb,nm],g∈[nc]∨w0.heap.size≤g) (hnd:([nc,gl]++[nb,nm]).Nodup) (h:dP (j5 rs.length B3 VC J nb nm gl k M i) (fO nc gl (f) rs) [gq nb nc B0 B1 B2 B3,kg nm wt J V] a w) (hk:dO w0 [nc] w) (hQ:∀a' w',dP (j5 rs.length B3 VC J nb nm gl k M (bg.wrap (i+1))) (fO nc gl (vg rs f j v u wt).2 (vg rs f j v u wt).1) [gq nb nc B0 B1 B2 B3,kg nm wt J V] a' w'→dO w0 [nc] w'→Q .normal a' w') :
  (nP (dN bE)).wp aa Q a w:=by
 match rs,hn,j,hj with
 | [r0],_,0,_=>exact abQ eJ eV eU h0 h1 h2 h3 h4 hw1 hw2 lJ nJ lV nV lU nU cJ cV cU hown hnd h hk hQ
 | [r0,r1],_,0,_=>exact abR eJ eV eU h0 h1 h2 h3 h4 hw1 hw2 lJ nJ lV nV lU nU cJ cV cU hown hnd h hk hQ
 | [r0,r1],_,1,_=>exact abS eJ eV eU h0 h1 h2 h3 h4 hw1 hw2 lJ nJ lV nV lU nU cJ cV cU hown hnd h hk hQ
 | [r0,r1,r2],_,0,_=>exact abT eJ eV eU h0 h1 h2 h3 h4 hw1 hw2 lJ nJ lV nV lU nU cJ cV cU hown hnd h hk hQ
 | [r0,r1,r2],_,1,_=>exact abU eJ eV eU h0 h1 h2 h3 h4 hw1 hw2 lJ nJ lV nV lU nU cJ cV cU hown hnd h hk hQ
 | [r0,r1,r2],_,2,_=>exact abV eJ eV eU h0 h1 h2 h3 h4 hw1 hw2 lJ nJ lV nV lU nU cJ cV cU hown hnd h hk hQ
 | [r0],_,j+1,hj=>exfalso; simp only [dB,aeT] at hj; omega
 | [r0,r1],_,j+2,hj=>exfalso; simp only [dB,aeT] at hj; omega
 | [r0,r1,r2],_,j+3,hj=>exfalso; simp only [dB,aeT] at hj; omega
theorem ab4 {n:Nat} (hn:1≤n∧n≤3) (hB:B0.2.1=n) (h:dP ([some (.agg ⟨[dK nc,dJ B0,dJ B1,dJ B2,dJ B3]⟩),some (dJ VC)]++az 57 (some undef)) [(nc,[.bool f],88)] [] a w) (hk:dO w0 [nc] w)
  (hQ:∀a' w' gl nb,w.heap.size≤gl→w.heap.size≤nb→([nc,gl]++[nb]).Nodup→dP (vv n VC nb gl) (fO nc gl f (az n (0,0))) [gq nb nc B0 B1 B2 B3] a' w'→dO w0 [nc] w'→D.wp aa Q a' w') :
  (fB [dZ (dN bE),jM (dN bE)] D).wp aa Q a w:=by
 match n,hn with
 | 1,_=>exact ab5 hB h hk hQ
 | 2,_=>exact ab6 hB h hk hQ
 | 3,_=>exact ab7 hB h hk hQ
 | 0,hn=>omega
 | n+4,hn=>omega
end Go.Proofs
end
