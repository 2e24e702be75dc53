/-
  Part of the proof: see the last text.
-/
import Derived.Test.YthbfmjlcnfgnbaaGreatZWm
import Derived.Test.YthbfmjlcnfgnbaaGreatZXd
set_option linter.unusedVariables false
set_option maxHeartbeats 8000000
open Array renaming getD_eq_getD_getElem?→bI,replicate→dn
open Bool renaming and_eq_true→aQ
open List renaming append_nil→afk,cons_append→dw,getElem?_eq_getElem→ah,getElem?_eq_some_iff→ai,getElem?_map→bY,length_cons→dB,map_cons→dI,map_nil→ae9,mem_append_left→aeY,mem_append_right→dm,mem_cons→ag,mem_cons_of_mem→aT,mem_cons_self→aA,nil_append→dD,nodup_append→afe,not_mem_nil→ae,replicate→az
open Nat renaming beq→ay,eq_of_beq_eq_true→bf,le_of_ble_eq_true→ae8,le_trans→aZ,succ_pos→aO
open Option renaming map_eq_some_iff→aR
open Option.some renaming injEq→ak
open Prod.mk renaming injEq→aP
open Go.Proofs.Tryz renaming f102→cz,f41→aD,prog→aa
section
namespace Go.Proofs
open Go.Sm Go.RowKit En
def mH (g:Nat):List Int→Value
 | []=>.slice none 0 0
 | _::ks=>.slice (some ⟨g,0,none⟩) (ks.length+1) (ks.length+1)
def gK (g:Nat):List Int→List gQ
 | []=>[]
 | k::ks=>[(g,(k::ks).map num,3)]
def uK (nb g:Nat) (link:Int) (ks:List Int):List (Option Value):=dS 28 [(1,num link),(2,dK nb),(5,mH g ks)]
def cK (nb:Nat) (B0 B1:dY):List gQ:=[(nb,[dJ B0,dJ B1],35)]
theorem WO:(dN cz)=fB [dZ (dN cz),jM (dN cz)] (.seq (.block 0 (.loop (uk (dN cz)))) (sR 3 (dN cz))):=by kernel_rfl
theorem Y3:(uk (dN cz))=fB [dZ (uk (dN cz))] (.block 1 (lT (dN cz))):=by kernel_rfl
theorem H7:(lT (dN cz))=fB [dZ (lT (dN cz)),dZ (fU (lT (dN cz))),dZ (fU (fU (lT (dN cz)))),dZ (sR 3 (lT (dN cz)))] (sR 4 (lT (dN cz))):=by kernel_rfl
theorem zV {Z:World×List Nat} {l:List Int} {bs:List Bool} {sl:List dY} {r:Bool} (h:(l.getD 0 0 != -1)=r):Sat (gB Z l bs sl) [(mB 25 [var 0,.int .i64 (-1)],.bool r)] :=
 o7 ⟨300,.bool r,(show eF (gB Z l bs sl) 300 (mB 25 [var 0,.int .i64 (-1)])=some (.bool (l.getD 0 0 != -1)) by kernel_rfl).trans (by rw [h]),rfl⟩ (ed _)
theorem kF {gs:List gQ}:∀c,([]:List Nat).head?=some c→(gs.map (·.1))[0]?=some c:=fun _ h=>by cases h
variable {w0 w:World} {nb g:Nat} {B0 B1:dY} {link:Int} {a:Act} {Q:Exit→Act→World→Prop} {D:Code}
theorem aa6 (hown:∀q∈[]++[nb],q∈([]:List Nat)∨w0.heap.size≤q) (hnd:([]++[nb]).Nodup) (hl:(link != -1)=true) (h:dP (uK nb g link []) (gK g []) (cK nb B0 B1) a w) (hk:dO w0 [] w) (hQ:∀a' w',dP (uK nb g link []) (gK g []) (cK nb B0 B1) a' w'→dO w0 [] w'→D.wp aa Q a' w'):(fB [dZ (uk (dN cz))] D).wp aa Q a w :=
 uf (link::[]) [] [B0,B1] (g:=[(mB 25 [var 0,.int .i64 (-1)],.bool true)]) (wt:=[]) (lt:=[]) (sb:=[]) (T:=[]) (K:=[]) (RT:=[]) (wb:=[]) (ws:=[]) (fr:=fK 28 [(1,var 0),(2,.pointer (some ⟨0,0,some 0⟩)),(5,.slice none 0 0)]) (H:=[]) (lo:=[dQ [dM 0,dM 1] 35]) 102 _ [] [0] (by kernel_rfl) (by kernel_rfl) (by exact hnd) ⟨zV (by exact hl),gG,gD,fT,il _ _,fw (by exact hown),kF,fun _=>iI⟩ h hk hQ
theorem aa9 (hown:∀q∈[]++[nb],q∈([]:List Nat)∨w0.heap.size≤q) (hnd:([]++[nb]).Nodup) (hl:(link != -1)=false) (h:dP (uK nb g link []) (gK g []) (cK nb B0 B1) a w) (hk:dO w0 [] w) (hQ:∀a' w',dP (uK nb g link []) (gK g []) (cK nb B0 B1) a' w'→dO w0 [] w'→Q (.exit 0) a' w'):(uk (dN cz)).wp aa Q a w :=
 j4 (link::[]) [] [B0,B1] (g:=[(mB 25 [var 0,.int .i64 (-1)],.bool false)]) (wt:=[]) (lt:=[]) (sb:=[]) (T:=[]) (K:=[]) (RT:=[]) (wb:=[]) (ws:=[]) (fr:=fK 28 [(1,var 0),(2,.pointer (some ⟨0,0,some 0⟩)),(5,.slice none 0 0)]) (H:=[]) (lo:=[dQ [dM 0,dM 1] 35]) 102 (.exit 0) [] [0] (by kernel_rfl) (by kernel_rfl) (by exact hnd) ⟨zV (by exact hl),gG,gD,fT,il _ _,fw (by exact hown),kF,fun _=>iI⟩ h hk hQ
variable {R:Ending→World→Prop}
theorem abl (hown:∀q∈[]++[],q∈([]:List Nat)∨w0.heap.size≤q) (h:dP (dS 28 [(5,mH g [])]) (gK g []) [] a w) (hk:dO w0 [] w) (hQ:∀a' w',dP (dS 28 []) (gK g []) [] a' w'→dO w0 [] w'→R (.returned (mH g [])) w'):(sR 3 (dN cz)).wp aa (bodyPost aa cz R) a w :=
 qQ (0::[]) [] [] (g:=[]) (wt:=[]) (lt:=[]) (sb:=[]) (T:=[]) (K:=[]) (RT:=[]) (wb:=[]) (ws:=[]) (fr:=fK 28 [(5,.slice none 0 0)]) (H:=[]) (lo:=[]) (u:=mH g []) 102 [] [] (by kernel_rfl) (by kernel_rfl) (by simp [gK]) ⟨ed _,gG,gD,fT,il _ _,fw (by exact hown),kF,fun _=>iI⟩ h hk hQ
theorem abe (hown:∀q∈[]++[nb],q∈([]:List Nat)∨w0.heap.size≤q) (hnd:([]++[nb]).Nodup) (h:dP (uK nb g link []) (gK g []) (cK nb B0 B1) a w) (hk:dO w0 [] w) (hQ:∀a' w' g',w.heap.size≤g'→([g']++[nb]).Nodup→dP (uK nb g' link (link::[])) (gK g' (link::[])) (cK nb B0 B1) a' w'→dO w0 [] w'→D.wp aa Q a' w'):(fB [dZ (lT (dN cz)),dZ (fU (lT (dN cz))),dZ (fU (fU (lT (dN cz)))),dZ (sR 3 (lT (dN cz)))] D).wp aa Q a w:=by
 refine jZ (link::[]) [] [B0,B1] (g:=[]) (wt:=[]) (lt:=[]) (sb:=[]) (T:=[]) (K:=[]) (RT:=[]) (wb:=[]) (ws:=[]) (fr:=fK 28 [(1,var 0),(2,.pointer (some ⟨0,0,some 0⟩)),(5,.slice none 0 0)]) (H:=[]) (lo:=[dQ [dM 0,dM 1] 35]) (us':=fun gn _=>uK nb (gn.headD 0) link (link::[])) (gs':=fun gn _=>gK (gn.headD 0) (link::[])) (ls':=fun _ _=>cK nb B0 B1) 102 _ [0] [0] [5] [] (fun gn nl e1 e2=>?_) (by kernel_rfl) (fun gn nl e1 e2 e3=>?_) ⟨ed _,gG,gD,fT,il _ _,fw (by exact hown),kF,fun _=>iI⟩ h hk (fun a' w' gn nl e1 e2 e3 e4 hs hk'=>?_)
 ·match gn,nl,e1,e2 with
  | [g'],[],_,_=>show (_:Option _)=_; kernel_rfl
 ·match gn,nl,e1,e2 with
  | [g'],[],_,_=>simp [gK,cK] at e3 ⊢; omega
 ·match gn,nl,e1,e2 with
  | [g'],[],_,_=>exact hQ a' w' g' (e4 g' (by simp)).1 (by simp [gK,cK] at e3 ⊢; omega) hs hk'
variable {t0:Int}
theorem aa7 (hown:∀q∈[g]++[nb],q∈([]:List Nat)∨w0.heap.size≤q) (hnd:([g]++[nb]).Nodup) (hl:(link != -1)=true) (h:dP (uK nb g link [t0]) (gK g [t0]) (cK nb B0 B1) a w) (hk:dO w0 [] w) (hQ:∀a' w',dP (uK nb g link [t0]) (gK g [t0]) (cK nb B0 B1) a' w'→dO w0 [] w'→D.wp aa Q a' w'):(fB [dZ (uk (dN cz))] D).wp aa Q a w :=
 uf (link::[t0]) [] [B0,B1] (g:=[(mB 25 [var 0,.int .i64 (-1)],.bool true)]) (wt:=[]) (lt:=[]) (sb:=[]) (T:=[]) (K:=[]) (RT:=[]) (wb:=[]) (ws:=[]) (fr:=fK 28 [(1,var 0),(2,.pointer (some ⟨0,0,some 0⟩)),(5,.slice (some ⟨0,0,none⟩) 1 1)]) (H:=[dQ [var 1] 3]) (lo:=[dQ [dM 0,dM 1] 35]) 102 _ [0] [0] (by kernel_rfl) (by kernel_rfl) (by exact hnd) ⟨zV (by exact hl),gG,gD,fT,il _ _,fw (by exact hown),kF,fun _=>iI⟩ h hk hQ
theorem aba (hown:∀q∈[g]++[nb],q∈([]:List Nat)∨w0.heap.size≤q) (hnd:([g]++[nb]).Nodup) (hl:(link != -1)=false) (h:dP (uK nb g link [t0]) (gK g [t0]) (cK nb B0 B1) a w) (hk:dO w0 [] w) (hQ:∀a' w',dP (uK nb g link [t0]) (gK g [t0]) (cK nb B0 B1) a' w'→dO w0 [] w'→Q (.exit 0) a' w'):(uk (dN cz)).wp aa Q a w :=
 j4 (link::[t0]) [] [B0,B1] (g:=[(mB 25 [var 0,.int .i64 (-1)],.bool false)]) (wt:=[]) (lt:=[]) (sb:=[]) (T:=[]) (K:=[]) (RT:=[]) (wb:=[]) (ws:=[]) (fr:=fK 28 [(1,var 0),(2,.pointer (some ⟨0,0,some 0⟩)),(5,.slice (some ⟨0,0,none⟩) 1 1)]) (H:=[dQ [var 1] 3]) (lo:=[dQ [dM 0,dM 1] 35]) 102 (.exit 0) [0] [0] (by kernel_rfl) (by kernel_rfl) (by exact hnd) ⟨zV (by exact hl),gG,gD,fT,il _ _,fw (by exact hown),kF,fun _=>iI⟩ h hk hQ
theorem abm (hown:∀q∈[g]++[],q∈([]:List Nat)∨w0.heap.size≤q) (h:dP (dS 28 [(5,mH g [t0])]) (gK g [t0]) [] a w) (hk:dO w0 [] w) (hQ:∀a' w',dP (dS 28 []) (gK g [t0]) [] a' w'→dO w0 [] w'→R (.returned (mH g [t0])) w'):(sR 3 (dN cz)).wp aa (bodyPost aa cz R) a w :=
 qQ (0::[t0]) [] [] (g:=[]) (wt:=[]) (lt:=[]) (sb:=[]) (T:=[]) (K:=[]) (RT:=[]) (wb:=[]) (ws:=[]) (fr:=fK 28 [(5,.slice (some ⟨0,0,none⟩) 1 1)]) (H:=[dQ [var 1] 3]) (lo:=[]) (u:=mH g [t0]) 102 [0] [] (by kernel_rfl) (by kernel_rfl) (by simp [gK]) ⟨ed _,gG,gD,fT,il _ _,fw (by exact hown),kF,fun _=>iI⟩ h hk hQ
variable {kd pa:Int} {nm:ByteArray} {bK oK:Nat}
theorem abh (eK:B0.1=some ⟨bK,oK,none⟩) (h0:0≤link) (h1:link<(B0.2.1:Nat)) (lK:bK<w0.heap.size) (cK':∀(q:Nat) (x:Value),[.string nm,num kd,num pa][q]?=some x→w0.cell? ⟨bK,oK+link.toNat*12+q,none⟩=some x) (hown:∀q∈[g]++[nb],q∈([]:List Nat)∨w0.heap.size≤q) (hnd:([g]++[nb]).Nodup) (h:dP (uK nb g link [t0]) (gK g [t0]) (cK nb B0 B1) a w) (hk:dO w0 [] w)
  (hQ:∀a' w',dP (uK nb g pa [t0]) (gK g [t0]) (cK nb B0 B1) a' w'→dO w0 [] w'→Q .normal a' w'):(sR 4 (lT (dN cz))).wp aa Q a w:=by
 refine j4 (link::[t0]++az 2 0++[kd,pa]) [] [B0,B1] (g:=[]) (wt:=[(0,var 0,12,1)]) (lt:=[]) (sb:=[]) (T:=[]) (K:=[]) (RT:=[]) (wb:=[dU [.string nm,var 4,var 5]]) (ws:=[(bK,oK+link.toNat*12,[.string nm,num kd,num pa])]) (fr:=fK 28 [(1,var 0),(2,.pointer (some ⟨0,0,some 0⟩)),(5,.slice (some ⟨0,0,none⟩) 1 1)]) (H:=[dQ [var 1] 3]) (lo:=[dQ [dM 0,dM 1] 35]) 102 .normal [0] [0] (by kernel_rfl) (by kernel_rfl) (by exact hnd) ⟨ed _,gG,gD,fT,?_,fw (by exact hown),kF,fun _=>?_⟩ h hk hQ
 ·intro x hx
  simp only [ag,ae,or_false] at hx
  subst hx
  exact ⟨⟨lK,by simp⟩,aO _,cK'⟩
 ·refine ⟨fun e he=>?_,(fun e he=>by cases he),fun e he=>by cases he⟩
  simp only [fG,ag,ae,or_false] at he
  subst he
  exact ⟨⟨bK,oK,none⟩,B0.2.1,B0.2.2,link,2,(by show B0=_; rw [←eK]),rfl,rfl,h0,h1,rfl,rfl⟩
theorem abf (hown:∀q∈[g]++[nb],q∈([]:List Nat)∨w0.heap.size≤q) (hnd:([g]++[nb]).Nodup) (h:dP (uK nb g link [t0]) (gK g [t0]) (cK nb B0 B1) a w) (hk:dO w0 [] w) (hQ:∀a' w' g',w.heap.size≤g'→([g']++[nb]).Nodup→dP (uK nb g' link (link::[t0])) (gK g' (link::[t0])) (cK nb B0 B1) a' w'→dO w0 [] w'→D.wp aa Q a' w'):(fB [dZ (lT (dN cz)),dZ (fU (lT (dN cz))),dZ (fU (fU (lT (dN cz)))),dZ (sR 3 (lT (dN cz)))] D).wp aa Q a w:=by
 refine jZ (link::[t0]) [] [B0,B1] (g:=[]) (wt:=[]) (lt:=[]) (sb:=[]) (T:=[]) (K:=[]) (RT:=[]) (wb:=[]) (ws:=[]) (fr:=fK 28 [(1,var 0),(2,.pointer (some ⟨0,0,some 0⟩)),(5,.slice (some ⟨0,0,none⟩) 1 1)]) (H:=[dQ [var 1] 3]) (lo:=[dQ [dM 0,dM 1] 35]) (us':=fun gn _=>uK nb (gn.headD 0) link (link::[t0])) (gs':=fun gn _=>gK (gn.headD 0) (link::[t0])) (ls':=fun _ _=>cK nb B0 B1) 102 _ [1] [0] [5] [] (fun gn nl e1 e2=>?_) (by kernel_rfl) (fun gn nl e1 e2 e3=>?_) ⟨ed _,gG,gD,fT,il _ _,fw (by exact hown),kF,fun _=>iI⟩ h hk (fun a' w' gn nl e1 e2 e3 e4 hs hk'=>?_)
 ·match gn,nl,e1,e2 with
  | [g'],[],_,_=>show (_:Option _)=_; kernel_rfl
 ·match gn,nl,e1,e2 with
  | [g'],[],_,_=>simp [gK,cK] at e3 ⊢; omega
 ·match gn,nl,e1,e2 with
  | [g'],[],_,_=>exact hQ a' w' g' (e4 g' (by simp)).1 (by simp [gK,cK] at e3 ⊢; omega) hs hk'
variable {t1:Int}
theorem aa8 (hown:∀q∈[g]++[nb],q∈([]:List Nat)∨w0.heap.size≤q) (hnd:([g]++[nb]).Nodup) (hl:(link != -1)=true) (h:dP (uK nb g link [t0,t1]) (gK g [t0,t1]) (cK nb B0 B1) a w) (hk:dO w0 [] w) (hQ:∀a' w',dP (uK nb g link [t0,t1]) (gK g [t0,t1]) (cK nb B0 B1) a' w'→dO w0 [] w'→D.wp aa Q a' w'):(fB [dZ (uk (dN cz))] D).wp aa Q a w :=
 uf (link::[t0,t1]) [] [B0,B1] (g:=[(mB 25 [var 0,.int .i64 (-1)],.bool true)]) (wt:=[]) (lt:=[]) (sb:=[]) (T:=[]) (K:=[]) (RT:=[]) (wb:=[]) (ws:=[]) (fr:=fK 28 [(1,var 0),(2,.pointer (some ⟨0,0,some 0⟩)),(5,.slice (some ⟨0,0,none⟩) 2 2)]) (H:=[dQ [var 1,var 2] 3]) (lo:=[dQ [dM 0,dM 1] 35]) 102 _ [0] [0] (by kernel_rfl) (by kernel_rfl) (by exact hnd) ⟨zV (by exact hl),gG,gD,fT,il _ _,fw (by exact hown),kF,fun _=>iI⟩ h hk hQ
theorem abb (hown:∀q∈[g]++[nb],q∈([]:List Nat)∨w0.heap.size≤q) (hnd:([g]++[nb]).Nodup) (hl:(link != -1)=false) (h:dP (uK nb g link [t0,t1]) (gK g [t0,t1]) (cK nb B0 B1) a w) (hk:dO w0 [] w) (hQ:∀a' w',dP (uK nb g link [t0,t1]) (gK g [t0,t1]) (cK nb B0 B1) a' w'→dO w0 [] w'→Q (.exit 0) a' w'):(uk (dN cz)).wp aa Q a w :=
 j4 (link::[t0,t1]) [] [B0,B1] (g:=[(mB 25 [var 0,.int .i64 (-1)],.bool false)]) (wt:=[]) (lt:=[]) (sb:=[]) (T:=[]) (K:=[]) (RT:=[]) (wb:=[]) (ws:=[]) (fr:=fK 28 [(1,var 0),(2,.pointer (some ⟨0,0,some 0⟩)),(5,.slice (some ⟨0,0,none⟩) 2 2)]) (H:=[dQ [var 1,var 2] 3]) (lo:=[dQ [dM 0,dM 1] 35]) 102 (.exit 0) [0] [0] (by kernel_rfl) (by kernel_rfl) (by exact hnd) ⟨zV (by exact hl),gG,gD,fT,il _ _,fw (by exact hown),kF,fun _=>iI⟩ h hk hQ
theorem abn (hown:∀q∈[g]++[],q∈([]:List Nat)∨w0.heap.size≤q) (h:dP (dS 28 [(5,mH g [t0,t1])]) (gK g [t0,t1]) [] a w) (hk:dO w0 [] w) (hQ:∀a' w',dP (dS 28 []) (gK g [t0,t1]) [] a' w'→dO w0 [] w'→R (.returned (mH g [t0,t1])) w'):(sR 3 (dN cz)).wp aa (bodyPost aa cz R) a w :=
 qQ (0::[t0,t1]) [] [] (g:=[]) (wt:=[]) (lt:=[]) (sb:=[]) (T:=[]) (K:=[]) (RT:=[]) (wb:=[]) (ws:=[]) (fr:=fK 28 [(5,.slice (some ⟨0,0,none⟩) 2 2)]) (H:=[dQ [var 1,var 2] 3]) (lo:=[]) (u:=mH g [t0,t1]) 102 [0] [] (by kernel_rfl) (by kernel_rfl) (by simp [gK]) ⟨ed _,gG,gD,fT,il _ _,fw (by exact hown),kF,fun _=>iI⟩ h hk hQ
theorem abj (eK:B0.1=some ⟨bK,oK,none⟩) (h0:0≤link) (h1:link<(B0.2.1:Nat)) (lK:bK<w0.heap.size) (cK':∀(q:Nat) (x:Value),[.string nm,num kd,num pa][q]?=some x→w0.cell? ⟨bK,oK+link.toNat*12+q,none⟩=some x) (hown:∀q∈[g]++[nb],q∈([]:List Nat)∨w0.heap.size≤q) (hnd:([g]++[nb]).Nodup) (h:dP (uK nb g link [t0,t1]) (gK g [t0,t1]) (cK nb B0 B1) a w) (hk:dO w0 [] w)
  (hQ:∀a' w',dP (uK nb g pa [t0,t1]) (gK g [t0,t1]) (cK nb B0 B1) a' w'→dO w0 [] w'→Q .normal a' w'):(sR 4 (lT (dN cz))).wp aa Q a w:=by
 refine j4 (link::[t0,t1]++az 1 0++[kd,pa]) [] [B0,B1] (g:=[]) (wt:=[(0,var 0,12,1)]) (lt:=[]) (sb:=[]) (T:=[]) (K:=[]) (RT:=[]) (wb:=[dU [.string nm,var 4,var 5]]) (ws:=[(bK,oK+link.toNat*12,[.string nm,num kd,num pa])]) (fr:=fK 28 [(1,var 0),(2,.pointer (some ⟨0,0,some 0⟩)),(5,.slice (some ⟨0,0,none⟩) 2 2)]) (H:=[dQ [var 1,var 2] 3]) (lo:=[dQ [dM 0,dM 1] 35]) 102 .normal [0] [0] (by kernel_rfl) (by kernel_rfl) (by exact hnd) ⟨ed _,gG,gD,fT,?_,fw (by exact hown),kF,fun _=>?_⟩ h hk hQ
 ·intro x hx
  simp only [ag,ae,or_false] at hx
  subst hx
  exact ⟨⟨lK,by simp⟩,aO _,cK'⟩
 ·refine ⟨fun e he=>?_,(fun e he=>by cases he),fun e he=>by cases he⟩
  simp only [fG,ag,ae,or_false] at he
  subst he
  exact ⟨⟨bK,oK,none⟩,B0.2.1,B0.2.2,link,2,(by show B0=_; rw [←eK]),rfl,rfl,h0,h1,rfl,rfl⟩
theorem abg (hown:∀q∈[g]++[nb],q∈([]:List Nat)∨w0.heap.size≤q) (hnd:([g]++[nb]).Nodup) (h:dP (uK nb g link [t0,t1]) (gK g [t0,t1]) (cK nb B0 B1) a w) (hk:dO w0 [] w) (hQ:∀a' w' g',w.heap.size≤g'→([g']++[nb]).Nodup→dP (uK nb g' link (link::[t0,t1])) (gK g' (link::[t0,t1])) (cK nb B0 B1) a' w'→dO w0 [] w'→D.wp aa Q a' w'):(fB [dZ (lT (dN cz)),dZ (fU (lT (dN cz))),dZ (fU (fU (lT (dN cz)))),dZ (sR 3 (lT (dN cz)))] D).wp aa Q a w:=by
 refine jZ (link::[t0,t1]) [] [B0,B1] (g:=[]) (wt:=[]) (lt:=[]) (sb:=[]) (T:=[]) (K:=[]) (RT:=[]) (wb:=[]) (ws:=[]) (fr:=fK 28 [(1,var 0),(2,.pointer (some ⟨0,0,some 0⟩)),(5,.slice (some ⟨0,0,none⟩) 2 2)]) (H:=[dQ [var 1,var 2] 3]) (lo:=[dQ [dM 0,dM 1] 35]) (us':=fun gn _=>uK nb (gn.headD 0) link (link::[t0,t1])) (gs':=fun gn _=>gK (gn.headD 0) (link::[t0,t1])) (ls':=fun _ _=>cK nb B0 B1) 102 _ [1] [0] [5] [] (fun gn nl e1 e2=>?_) (by kernel_rfl) (fun gn nl e1 e2 e3=>?_) ⟨ed _,gG,gD,fT,il _ _,fw (by exact hown),kF,fun _=>iI⟩ h hk (fun a' w' gn nl e1 e2 e3 e4 hs hk'=>?_)
 ·match gn,nl,e1,e2 with
  | [g'],[],_,_=>show (_:Option _)=_; kernel_rfl
 ·match gn,nl,e1,e2 with
  | [g'],[],_,_=>simp [gK,cK] at e3 ⊢; omega
 ·match gn,nl,e1,e2 with
  | [g'],[],_,_=>exact hQ a' w' g' (e4 g' (by simp)).1 (by simp [gK,cK] at e3 ⊢; omega) hs hk'
variable {t2:Int}
theorem abd (hown:∀q∈[g]++[nb],q∈([]:List Nat)∨w0.heap.size≤q) (hnd:([g]++[nb]).Nodup) (hl:(link != -1)=false) (h:dP (uK nb g link [t0,t1,t2]) (gK g [t0,t1,t2]) (cK nb B0 B1) a w) (hk:dO w0 [] w) (hQ:∀a' w',dP (uK nb g link [t0,t1,t2]) (gK g [t0,t1,t2]) (cK nb B0 B1) a' w'→dO w0 [] w'→Q (.exit 0) a' w'):(uk (dN cz)).wp aa Q a w :=
 j4 (link::[t0,t1,t2]) [] [B0,B1] (g:=[(mB 25 [var 0,.int .i64 (-1)],.bool false)]) (wt:=[]) (lt:=[]) (sb:=[]) (T:=[]) (K:=[]) (RT:=[]) (wb:=[]) (ws:=[]) (fr:=fK 28 [(1,var 0),(2,.pointer (some ⟨0,0,some 0⟩)),(5,.slice (some ⟨0,0,none⟩) 3 3)]) (H:=[dQ [var 1,var 2,var 3] 3]) (lo:=[dQ [dM 0,dM 1] 35]) 102 (.exit 0) [0] [0] (by kernel_rfl) (by kernel_rfl) (by exact hnd) ⟨zV (by exact hl),gG,gD,fT,il _ _,fw (by exact hown),kF,fun _=>iI⟩ h hk hQ
theorem abo (hown:∀q∈[g]++[],q∈([]:List Nat)∨w0.heap.size≤q) (h:dP (dS 28 [(5,mH g [t0,t1,t2])]) (gK g [t0,t1,t2]) [] a w) (hk:dO w0 [] w) (hQ:∀a' w',dP (dS 28 []) (gK g [t0,t1,t2]) [] a' w'→dO w0 [] w'→R (.returned (mH g [t0,t1,t2])) w'):(sR 3 (dN cz)).wp aa (bodyPost aa cz R) a w :=
 qQ (0::[t0,t1,t2]) [] [] (g:=[]) (wt:=[]) (lt:=[]) (sb:=[]) (T:=[]) (K:=[]) (RT:=[]) (wb:=[]) (ws:=[]) (fr:=fK 28 [(5,.slice (some ⟨0,0,none⟩) 3 3)]) (H:=[dQ [var 1,var 2,var 3] 3]) (lo:=[]) (u:=mH g [t0,t1,t2]) 102 [0] [] (by kernel_rfl) (by kernel_rfl) (by simp [gK]) ⟨ed _,gG,gD,fT,il _ _,fw (by exact hown),kF,fun _=>iI⟩ h hk hQ
theorem abk (eK:B0.1=some ⟨bK,oK,none⟩) (h0:0≤link) (h1:link<(B0.2.1:Nat)) (lK:bK<w0.heap.size) (cK':∀(q:Nat) (x:Value),[.string nm,num kd,num pa][q]?=some x→w0.cell? ⟨bK,oK+link.toNat*12+q,none⟩=some x) (hown:∀q∈[g]++[nb],q∈([]:List Nat)∨w0.heap.size≤q) (hnd:([g]++[nb]).Nodup) (h:dP (uK nb g link [t0,t1,t2]) (gK g [t0,t1,t2]) (cK nb B0 B1) a w) (hk:dO w0 [] w)
  (hQ:∀a' w',dP (uK nb g pa [t0,t1,t2]) (gK g [t0,t1,t2]) (cK nb B0 B1) a' w'→dO w0 [] w'→Q .normal a' w'):(sR 4 (lT (dN cz))).wp aa Q a w:=by
 refine j4 (link::[t0,t1,t2]++az 0 0++[kd,pa]) [] [B0,B1] (g:=[]) (wt:=[(0,var 0,12,1)]) (lt:=[]) (sb:=[]) (T:=[]) (K:=[]) (RT:=[]) (wb:=[dU [.string nm,var 4,var 5]]) (ws:=[(bK,oK+link.toNat*12,[.string nm,num kd,num pa])]) (fr:=fK 28 [(1,var 0),(2,.pointer (some ⟨0,0,some 0⟩)),(5,.slice (some ⟨0,0,none⟩) 3 3)]) (H:=[dQ [var 1,var 2,var 3] 3]) (lo:=[dQ [dM 0,dM 1] 35]) 102 .normal [0] [0] (by kernel_rfl) (by kernel_rfl) (by exact hnd) ⟨ed _,gG,gD,fT,?_,fw (by exact hown),kF,fun _=>?_⟩ h hk hQ
 ·intro x hx
  simp only [ag,ae,or_false] at hx
  subst hx
  exact ⟨⟨lK,by simp⟩,aO _,cK'⟩
 ·refine ⟨fun e he=>?_,(fun e he=>by cases he),fun e he=>by cases he⟩
  simp only [fG,ag,ae,or_false] at he
  subst he
  exact ⟨⟨bK,oK,none⟩,B0.2.1,B0.2.2,link,2,(by show B0=_; rw [←eK]),rfl,rfl,h0,h1,rfl,rfl⟩
def jd (js:List JV):Nat→Int→List Int→List Int
 | 0,_,ks=>ks
 | n+1,link,ks=>if link=-1 then ks else jd js n ((js.getD link.toNat ⟨⟨#[]⟩,0,-1,0,0,0,0,0,0,0,0,0⟩).parent) (link::ks)
structure KI (w0:World) (nb g:Nat) (B0 B1:dY) (link:Int) (ks:List Int) (a:Act) (w:World):Prop where
 s:dP (uK nb g link ks) (gK g ks) (cK nb B0 B1) a w
 k:dO w0 [] w
 fb:w0.heap.size≤nb
 fg:ks≠[]→w0.heap.size≤g∧g≠nb
variable {ks:List Int}
theorem KI.own {t:Int} (h:KI w0 nb g B0 B1 link (t::ks) a w):(∀q∈[g]++[nb],q∈([]:List Nat)∨w0.heap.size≤q)∧([g]++[nb]).Nodup:=by
 obtain ⟨h1,h2⟩:=h.fg (by simp)
 refine ⟨fun q hq=>?_,by simpa using h2⟩
 simp only [dw,dD,ag,ae,or_false] at hq
 rcases hq with rfl | rfl
 ·exact .inr h1
 ·exact .inr h.fb
theorem KI.Bp (h:KI w0 nb g B0 B1 link ks a w):(∀q∈[]++[nb],q∈([]:List Nat)∨w0.heap.size≤q)∧([]++[nb]).Nodup:=by
 refine ⟨fun q hq=>?_,by simp⟩
 simp only [dD,ag,ae,or_false] at hq
 subst hq
 exact .inr h.fb
theorem Xh (hl:ks.length≤3) (hk:link=-1) (h:KI w0 nb g B0 B1 link ks a w) (hQ:∀a' w',KI w0 nb g B0 B1 link ks a' w'→Q (.exit 0) a' w'):(uk (dN cz)).wp aa Q a w:=by
 match ks,hl,h,hQ with
 | [],_,h,hQ=>exact aa9 h.Bp.1 h.Bp.2 (by rw [hk]; rfl) h.s h.k fun a' w' s k=>hQ a' w' ⟨s,k,h.fb,h.fg⟩
 | [t0],_,h,hQ=>exact aba h.own.1 h.own.2 (by rw [hk]; rfl) h.s h.k fun a' w' s k=>hQ a' w' ⟨s,k,h.fb,h.fg⟩
 | [t0,t1],_,h,hQ=>exact abb h.own.1 h.own.2 (by rw [hk]; rfl) h.s h.k fun a' w' s k=>hQ a' w' ⟨s,k,h.fb,h.fg⟩
 | [t0,t1,t2],_,h,hQ=>exact abd h.own.1 h.own.2 (by rw [hk]; rfl) h.s h.k fun a' w' s k=>hQ a' w' ⟨s,k,h.fb,h.fg⟩
 | _::_::_::_::_,hl,_,_=>exact absurd hl (by simp)
theorem Xj {j:JV} (hl:ks.length≤2) (hk:(link != -1)=true) (eK:B0.1=some ⟨bK,oK,none⟩) (h0:0≤link) (h1:link<(B0.2.1:Nat)) (lK:bK<w0.heap.size) (cJ:∀(q:Nat) (x:Value),j.vals[q]?=some x→w0.cell? ⟨bK,oK+link.toNat*12+q,none⟩=some x)
  (h:KI w0 nb g B0 B1 link ks a w) (hQ:∀a' w' g',KI w0 nb g' B0 B1 j.parent (link::ks) a' w'→Q .normal a' w'):(uk (dN cz)).wp aa Q a w:=by
 have cJ':∀(q:Nat) (x:Value),[.string j.name,num j.kind,num j.parent][q]?=some x→w0.cell? ⟨bK,oK+link.toNat*12+q,none⟩=some x:=fun q x hx=>cJ q x (by
  match q,hx with
  | 0,hx=>simpa [JV.vals] using hx
  | 1,hx=>simpa [JV.vals,num] using hx
  | 2,hx=>simpa [JV.vals,num] using hx
  | _+3,hx=>simp at hx)
 rw [Y3]
 have hn:∀{g':Nat} {a1 a2:Act} {w1 w2:World},KI w0 nb g B0 B1 link ks a1 w1→w1.heap.size≤g'→([g']++[nb]).Nodup→dP (uK nb g' link (link::ks)) (gK g' (link::ks)) (cK nb B0 B1) a2 w2→dO w0 [] w2→KI w0 nb g' B0 B1 link (link::ks) a2 w2:=fun h1 h2 h3 h4 h5=>⟨h4,h5,h.fb,fun _=>⟨aZ h1.k.size h2,by simpa using h3⟩⟩
 match ks,hl,h,hQ,@hn with
 | [],_,h,hQ,hn =>
  refine aa6 h.Bp.1 h.Bp.2 hk h.s h.k fun a1 w1 s1 k1=>wp_block ?_
  rw [H7]
  refine abe h.Bp.1 h.Bp.2 s1 k1 fun a2 w2 g' hg nd s2 k2=>?_
  have h2:=hn (a1:=a1) (w1:=w1) ⟨s1,k1,h.fb,h.fg⟩ hg nd s2 k2
  exact abh eK h0 h1 lK cJ' h2.own.1 h2.own.2 h2.s h2.k fun a3 w3 s3 k3=>hQ a3 w3 g' ⟨s3,k3,h2.fb,h2.fg⟩
 | [t0],_,h,hQ,hn =>
  refine aa7 h.own.1 h.own.2 hk h.s h.k fun a1 w1 s1 k1=>wp_block ?_
  rw [H7]
  refine abf h.own.1 h.own.2 s1 k1 fun a2 w2 g' hg nd s2 k2=>?_
  have h2:=hn (a1:=a1) (w1:=w1) ⟨s1,k1,h.fb,h.fg⟩ hg nd s2 k2
  exact abj eK h0 h1 lK cJ' h2.own.1 h2.own.2 h2.s h2.k fun a3 w3 s3 k3=>hQ a3 w3 g' ⟨s3,k3,h2.fb,h2.fg⟩
 | [t0,t1],_,h,hQ,hn =>
  refine aa8 h.own.1 h.own.2 hk h.s h.k fun a1 w1 s1 k1=>wp_block ?_
  rw [H7]
  refine abg h.own.1 h.own.2 s1 k1 fun a2 w2 g' hg nd s2 k2=>?_
  have h2:=hn (a1:=a1) (w1:=w1) ⟨s1,k1,h.fb,h.fg⟩ hg nd s2 k2
  exact abk eK h0 h1 lK cJ' h2.own.1 h2.own.2 h2.s h2.k fun a3 w3 s3 k3=>hQ a3 w3 g' ⟨s3,k3,h2.fb,h2.fg⟩
 | _::_::_::_,hl,_,_,_=>exact absurd hl (by simp)
def vC (w0:World) (ks:List Int) (e:Ending) (w':World):Prop:=∃g,e=.returned (mH g ks)∧dO w0 [] w'∧(ks≠[]→w0.heap.size≤g∧w'.heap[g]?=some (.cells ⟨ks.map num⟩ 3 (0,0)))
theorem Xi (hl:ks.length≤3) (h:KI w0 nb g B0 B1 link ks a w):(sR 3 (dN cz)).wp aa (bodyPost aa cz (vC w0 ks)) a w:=by
 have s':dP (dS 28 [(5,mH g ks)]) (gK g ks) [] a w:=dP.sub h.s (fun x hx=>by simp only [ag,ae,or_false] at hx; subst hx; rfl) (fun x hx=>hx) (fun x hx=>by cases hx) (by simpa using (afe.1 h.s.nd).1)
 match ks,hl,h,s' with
 | [],_,h,s'=>exact abl (by simp) s' h.k fun a' w' s k=>⟨g,rfl,k,fun e=>absurd rfl e⟩
 | [t0],_,h,s'=>exact abm (fun q hq=>h.own.1 q (by simp at hq ⊢; exact .inl hq)) s' h.k fun a' w' s k=>⟨g,rfl,k,fun _=>⟨(h.fg (by simp)).1,s.gl _ aA⟩⟩
 | [t0,t1],_,h,s'=>exact abn (fun q hq=>h.own.1 q (by simp at hq ⊢; exact .inl hq)) s' h.k fun a' w' s k=>⟨g,rfl,k,fun _=>⟨(h.fg (by simp)).1,s.gl _ aA⟩⟩
 | [t0,t1,t2],_,h,s'=>exact abo (fun q hq=>h.own.1 q (by simp at hq ⊢; exact .inl hq)) s' h.k fun a' w' s k=>⟨g,rfl,k,fun _=>⟨(h.fg (by simp)).1,s.gl _ aA⟩⟩
 | _::_::_::_::_,hl,_,_=>exact absurd hl (by simp)
theorem Xf {js:List JV} (hn:js.length≤3) (hB:B0.2.1=js.length) (hJ:Sl w B0.1 12 (js.map JV.vals)) (hp:∀(i:Nat) (j:JV),js[i]?=some j→-1≤j.parent∧j.parent<i) (h0:-1≤link) (h1:link<js.length) :
  Calls aa 102 #[.agg ⟨[dJ B0,dJ B1]⟩,num link] w (vC w (jd js 4 link [])):=by
 refine calls_of_wp Tryz.func102 (c:=(dN cz)) (by kernel_rfl) ?_
 rw [WO]
 have hst:dP ([some (.agg ⟨[dJ B0,dJ B1]⟩),some (num link)]++az 26 (some undef)) [] [] { tmps:=#[.agg ⟨[dJ B0,dJ B1]⟩,num link]++dn (cz.ntmps - 2) undef,defers:=[] } w :=
  qF (xs:=[.agg ⟨[dJ B0,dJ B1]⟩,num link]) (m:=26) rfl (fun x hx=>by cases hx) (by simp)
 refine jZ [link] [] [B0,B1] (g:=[]) (wt:=[]) (lt:=[]) (sb:=[]) (T:=[]) (K:=[]) (RT:=[]) (wb:=[]) (ws:=[]) (fr:=[.agg ⟨[dM 0,dM 1]⟩,var 0]++az 26 undef) (H:=[]) (lo:=[]) (us':=fun _ nl=>uK (nl.headD 0) 0 link []) (gs':=fun _ _=>[]) (ls':=fun _ nl=>cK (nl.headD 0) B0 B1) 102 _ [] [0] [] [2] (fun gn nl e1 e2=>?_) (by kernel_rfl) (fun gn nl e1 e2 e3=>?_) ⟨ed _,gG,gD,fT,il _ _,fw (by simp),kF,fun _=>iI⟩ hst (dO.refl w []) (fun a' w' gn nl e1 e2 e3 e4 hs hk'=>?_)
 ·match gn,nl,e1,e2 with
  | [],[x],_,_=>show (_:Option _)=_; kernel_rfl
 ·match gn,nl,e1,e2 with
  | [],[x],_,_=>simp [cK]
 ·match gn,nl,e1,e2 with
  | [],[nb],_,_ =>
  have hI0:KI w nb 0 B0 B1 link [] a' w':=⟨hs,hk',(e4 nb (by simp)).1,fun e=>absurd rfl e⟩
  refine wp_seq (wp_block ?_)
  refine wp_loop (fun a w'=>∃lk ks g,jd js (4 - ks.length) lk ks=jd js 4 link []∧-1≤lk∧lk+ks.length<js.length∧KI w nb g B0 B1 lk ks a w') (fun a _=>(intOf (a.tmps.getD 1 undef)+1).toNat) ⟨link,[],0,rfl,h0,by simpa using h1,hI0⟩ ?_
  rintro a2 w2 ⟨lk,ks,g,hc,hl0,hl1,hI⟩
  have hmv:∀(a:Act) (w:World) (lk:Int) (ks:List Int) (g:Nat) (gg l:List gQ),dP (uK nb g lk ks) gg l a w→intOf (a.tmps.getD 1 undef)=lk:=fun a w lk ks g gg l s=>by
   have:=s.fr 1 (num lk) (Aa (by decide) rfl)
   rw [bI,this]; simp [intOf,num]
  by_cases hne:lk=-1
  ·have hk3:ks.length≤3:=by omega
   refine Xh hk3 hne hI fun a3 w3 hI3=>?_
   have hfin:jd js 4 link []=ks:=by
    rw [←hc]
    cases h4:4 - ks.length with
    | zero=>rfl
    | succ n=>unfold jd; rw [if_pos hne]
   rw [hfin]
   exact Xi hk3 hI3
  ·have hlk:0≤lk:=by omega
   obtain ⟨j,hj⟩:∃j,js[lk.toNat]?=some j:=⟨_,ah (by omega)⟩
   obtain ⟨bK,oK,eK,lK,cJ⟩:=o9 hJ (iX hj)
   obtain ⟨p0,p1⟩:=hp _ j hj
   refine Xj (j:=j) (by omega) (by simpa using hne) eK hlk (by rw [hB]; omega) lK cJ hI fun a3 w3 g' hI3=>?_
   refine ⟨⟨j.parent,lk::ks,g',?_,p0,by simp only [dB]; omega,hI3⟩,?_⟩
   ·rw [←hc]
    have h4:4 - ks.length=(4 - (lk::ks).length)+1:=by simp only [dB]; omega
    rw [h4]
    conv=>rhs; unfold jd
    rw [if_neg hne,getD_some hj]
   ·simp only [hmv _ _ _ _ _ _ _ hI.s,hmv _ _ _ _ _ _ _ hI3.s]
    omega
end Go.Proofs
end
section
namespace Go.Proofs
open Go.Sm Go.RowKit En
set_option maxHeartbeats 8000000
def M9 (P:Program) (c:Code) (k:Nat):Option (Tmp×Tmp×Tmp×TypeId×Nat):=match (opsOf c)[k]? with
 | some o=>match o.guard,o.dst,o.op with
  | none,some d,.call ⟨.builtin .append,⟨[.tmp x,.tmp y]⟩,⟨[tS,tX]⟩⟩=>match P.underlying tS,P.underlying tX with
   | some (.slice elem),some (.slice _)=>match P.info? elem with
    | some ti=>match ti.zero with
     | some z=>bif ay z.cells.size ti.size&&Nat.ble ti.bytes 1000000 then some (x,y,d,elem,ti.size) else none
     | none=>none
    | none=>none
   | _,_=>none
  | _,_,_=>none
 | none=>none
theorem Hz {c:Code} {k:Nat} {x y d:Tmp} {e:TypeId} {sz:Nat} (h:M9 aa c k=some (x,y,d,e,sz)):BX c k x y d e sz:=by
 unfold M9 at h
 split at h
 case h_2=>cases h
 rename_i o ho
 split at h
 case h_2=>cases h
 rename_i d' x' y' tS tX h1 h2 h3
 split at h
 case h_2=>cases h
 rename_i elem e' h4 h5
 split at h
 case h_2=>cases h
 rename_i ti h6
 split at h
 case h_2=>cases h
 rename_i z h7
 cases hb:(ay z.cells.size ti.size&&Nat.ble ti.bytes 1000000) with
 | false=>rw [hb] at h; cases h
 | true =>
  rw [hb] at h
  simp only [cond_true,ak,aP] at h
  obtain ⟨rfl,rfl,rfl,rfl,rfl⟩:=h
  simp only [aQ] at hb
  obtain ⟨hlt,he⟩:=ai.1 ho
  exact ⟨o,tS,tX,e',ti,z,by rw [←he]; exact List.drop_eq_getElem_cons hlt,h1,h2,h3,h4,h5,h6,h7,bf hb.1,rfl,ae8 hb.2⟩
theorem VH:BX (qg (dN aD)) 4 117 119 120 3 1:=Hz (by kernel_rfl)
theorem VI:BX (qj (dN aD)) 4 123 125 126 98 7:=Hz (by kernel_rfl)
theorem VJ:BX (qm (dN aD)) 4 130 132 133 95 3:=Hz (by kernel_rfl)
variable {n:Nat} {a:Act} {w:World}
theorem yX {d:Nat} {l:List (Nat×Value)} {v:Value} {gs ls:List gQ} (h:dP ((dS n l).set d (some v)) gs ls a w):dP (dS n ((d,v)::l)) gs ls a w:=by
 refine ⟨h.df,by rw [←h.sz]; simp [dS],fun t u e=>?_,h.gl,h.lo,h.nd⟩
 refine h.fr t u ?_
 unfold dS at e ⊢
 rw [List.getElem?_set]
 simp only [bY,aR] at e
 obtain ⟨y,y1,y2⟩:=e
 obtain ⟨hlt,hy⟩:=ai.1 y1
 simp only [List.getElem_range] at hy
 subst hy
 by_cases hd:d=t
 ·subst hd
  simp only [lookO,Nat.beq_refl,cond_true] at y2
  rw [if_pos rfl,if_pos (by simpa using hlt)]; exact congrArg some y2
 ·have:ay t d=false:=by
   cases hb:ay t d with
   | false=>rfl
   | true=>exact absurd (bf hb).symm hd
  rw [if_neg hd]
  simp only [lookO,this,cond_false] at y2
  simp only [bY,y1,Option.map_some,y2]
variable {Q:Exit→Act→World→Prop}
theorem y9 {P:Program} {ops:Array Oper} {l:List Oper} (h:wpList P ops Q (l++[]) a w):wpList P ops Q l a w:=by rwa [afk] at h
theorem aen (nc:Nat) (v:V6):∀x∈v.cs nc,x.oneCell'=true:=fun x hx=>by
 simp only [V6.cs,ag,ae,or_false] at hx
 rcases hx with rfl | rfl | rfl | rfl | rfl | rfl | rfl<;>rfl
theorem _root_.Go.Sm.dO.wide {w0:World} {ex ex2:List Nat} (h:dO w0 ex w) (hx:∀g∈ex,g∈ex2):dO w0 ex2 w:=⟨h.os,h.tape,h.output,h.size,fun g h1 h2=>h.frame g h1 fun hm=>h2 (hx g hm)⟩
variable {nc nr n6 nb n14 n15 n19:Nat} {B0 B1 Lk O A M K J V:dY} {f:Bool} {k m eT c i j:Int} {at_ vl:V6} {acc:List Value}
theorem Nq {link p0 p1 p2:Int} (h:dP (dS 137 [(0,dK nc),(4,dK nr),(6,dK n6),(7,dJ Lk),(8,dK nb),(9,dJ O),(64,dJ B1),(65,num (m)),(66,num (k)),(14,dK n14),(15,dK n15),(87,dJ K),(88,num (c)),(89,num (i)),(17,num (j)),(19,dK n19)]) [(nc,[.bool f],88)] [(nr,[dJ B0,dJ B1],35),(n6,[.pointer none,.slice none 0 0,.slice none 0 0,.slice none 0 0,.slice none 0 0],92),(nb,[dK nc,dJ B0,dJ B1,dJ A,dJ M],92),(n14,[dK nc,num at_.a,num at_.b,num at_.c,num at_.d,num at_.e,num at_.f],98),(n15,[num (eT),dJ J,dJ V],95),(n19,[dK nc,num vl.a,num vl.b,num vl.c,num vl.d,num vl.e,num vl.f],98)] a w) (hg:Grow w J 1 3 n acc) (hn:n≤1000) (hf:∀g∈blk J,g∉([nc,nr,n6,nb,n14,n15,n19]:List Nat))
  (hQ:∀(a':Act) (w':World) (S:dY),dP (dS 137 [(0,dK nc),(4,dK nr),(6,dK n6),(7,dJ Lk),(8,dK nb),(9,dJ O),(64,dJ B1),(65,num (m)),(66,num (k)),(14,dK n14),(15,dK n15),(87,dJ K),(88,num (c)),(89,num (i)),(17,num (j)),(19,dK n19)]) [(nc,[.bool f],88)] [(nr,[dJ B0,dJ B1],35),(n6,[.pointer none,.slice none 0 0,.slice none 0 0,.slice none 0 0,.slice none 0 0],92),(nb,[dK nc,dJ B0,dJ B1,dJ A,dJ M],92),(n14,[dK nc,num at_.a,num at_.b,num at_.c,num at_.d,num at_.e,num at_.f],98),(n15,[num (eT),dJ S,dJ V],95),(n19,[dK nc,num vl.a,num vl.b,num vl.c,num vl.d,num vl.e,num vl.f],98)] a' w'→Grow w' S 1 3 (n+1) (acc++[num j])→dO w (blk J++[nc,nr,n6,nb,n14,n15,n19]) w'→(∀g∈blk S,g∈blk J∨w.heap.size≤g)→Q .normal a' w'):(qg (dN aD)).wp aa Q a w:=by
 have hnd:=h.nd
 refine yC (by kernel_rfl) (xN 4 ?_)
 refine V5 (w0:=w) (ex':=[nr,n6,nb,n14,n15,n19]) (link:=link) (p0:=p0) (p1:=p1) (p2:=p2) (at_:=at_) (j:=j) (vl:=vl) (fun q hq=>.inl (by simpa using hq)) hnd h (dO.refl w _) fun a1 w1 ny hn1 nd s1 k1=>?_
 have hy:=s1.gl _ (aT _ aA)
 have hg1:=hg.keep k1 hf
 refine HZ VH hn rfl (fun v hv=>by simp only [ag,ae,or_false] at hv; subst hv; rfl) s1 rfl rfl hy hg1 (fun g hg' hm=>?_) fun w2 S g2 k2 f2 s2=>?_
 ·have h1:=hf g hg'
  have h2:=hg.lt g hg'
  have h3:=(hn1 ny (by simp)).1
  simp only [dI,ae9,dw,dD,ag,ae,or_false] at hm h1
  rcases hm with r | r | r
  ·exact h1 (.inl r)
  ·omega
  ·exact h1 (.inr r)
 have s3:=dP.sub (l':=[(0,dK nc),(4,dK nr),(6,dK n6),(7,dJ Lk),(8,dK nb),(9,dJ O),(64,dJ B1),(65,num (m)),(66,num (k)),(14,dK n14),(15,dK n15),(87,dJ K),(88,num (c)),(89,num (i)),(17,num (j)),(19,dK n19),(120,dJ S)]) (gs':=[(nc,[.bool f],88)]) (yX s2) (fun x hx=>by
  simp only [ag,ae,or_false] at hx
  rcases hx with rfl | rfl | rfl | rfl | rfl | rfl | rfl | rfl | rfl | rfl | rfl | rfl | rfl | rfl | rfl | rfl | rfl<;>rfl) (fun x hx=>by simp only [ag,ae,or_false] at hx; subst hx; exact aA) (fun x hx=>hx) hnd
 have hw:dO w (blk J++[nc,nr,n6,nb,n14,n15,n19]) w2:=(dO.comp (ex:=blk J++[nc,nr,n6,nb,n14,n15,n19]) (k1.wide fun g hm=>dm _ hm) k2 fun g hm=>.inl (aeY _ hm))
 have hfS:∀g∈blk S,g∉([nc,nr,n6,nb,n14,n15,n19]:List Nat):=fun g hm=>by
  rcases f2 g hm with r | r
  ·exact hf g r
  ·intro hm2
   have:=qE h g (by simpa using hm2)
   have:=k1.size
   omega
 refine y9 (V9 (w0:=w2) (ex':=[nr,n6,nb,n14,n15,n19]) (link:=link) (p0:=p0) (p1:=p1) (p2:=p2) (at_:=at_) (j:=j) (vl:=vl) (S:=S) (fun q hq=>.inl (by simpa using hq)) hnd s3 (dO.refl w2 _) fun a3 w3 s4 k4=>?_)
 exact hQ a3 w3 S s4 (g2.keep k4 hfS) (hw.comp k4 fun g hm=>.inl (dm _ hm)) fun g hm=>(f2 g hm).imp id fun r=>aZ k1.size r
theorem Nr {link p0 p1 p2:Int} (h:dP (dS 137 [(0,dK nc),(4,dK nr),(6,dK n6),(7,dJ Lk),(8,dK nb),(9,dJ O),(64,dJ B1),(65,num (m)),(66,num (k)),(14,dK n14),(15,dK n15),(87,dJ K),(88,num (c)),(89,num (i)),(17,num (j)),(19,dK n19)]) [(nc,[.bool f],88)] [(nr,[dJ B0,dJ B1],35),(n6,[.pointer none,.slice none 0 0,.slice none 0 0,.slice none 0 0,.slice none 0 0],92),(nb,[dK nc,dJ B0,dJ B1,dJ A,dJ M],92),(n14,[dK nc,num at_.a,num at_.b,num at_.c,num at_.d,num at_.e,num at_.f],98),(n15,[num (eT),dJ J,dJ V],95),(n19,[dK nc,num vl.a,num vl.b,num vl.c,num vl.d,num vl.e,num vl.f],98)] a w) (hg:Grow w V 7 98 n acc) (hn:n≤1000) (hf:∀g∈blk V,g∉([nc,nr,n6,nb,n14,n15,n19]:List Nat))
  (hQ:∀(a':Act) (w':World) (S:dY),dP (dS 137 [(0,dK nc),(4,dK nr),(6,dK n6),(7,dJ Lk),(8,dK nb),(9,dJ O),(64,dJ B1),(65,num (m)),(66,num (k)),(14,dK n14),(15,dK n15),(87,dJ K),(88,num (c)),(89,num (i)),(17,num (j)),(19,dK n19)]) [(nc,[.bool f],88)] [(nr,[dJ B0,dJ B1],35),(n6,[.pointer none,.slice none 0 0,.slice none 0 0,.slice none 0 0,.slice none 0 0],92),(nb,[dK nc,dJ B0,dJ B1,dJ A,dJ M],92),(n14,[dK nc,num at_.a,num at_.b,num at_.c,num at_.d,num at_.e,num at_.f],98),(n15,[num (eT),dJ J,dJ S],95),(n19,[dK nc,num vl.a,num vl.b,num vl.c,num vl.d,num vl.e,num vl.f],98)] a' w'→Grow w' S 7 98 (n+1) (acc++(vl.cs nc))→dO w (blk V++[nc,nr,n6,nb,n14,n15,n19]) w'→(∀g∈blk S,g∈blk V∨w.heap.size≤g)→Q .normal a' w'):(qj (dN aD)).wp aa Q a w:=by
 have hnd:=h.nd
 refine yC (by kernel_rfl) (xN 4 ?_)
 refine V7 (w0:=w) (ex':=[nr,n6,nb,n14,n15,n19]) (link:=link) (p0:=p0) (p1:=p1) (p2:=p2) (at_:=at_) (j:=j) (vl:=vl) (fun q hq=>.inl (by simpa using hq)) hnd h (dO.refl w _) fun a1 w1 ny hn1 nd s1 k1=>?_
 have hy:=s1.gl _ (aT _ aA)
 have hg1:=hg.keep k1 hf
 refine HZ VI hn rfl (aen nc vl) s1 rfl rfl hy hg1 (fun g hg' hm=>?_) fun w2 S g2 k2 f2 s2=>?_
 ·have h1:=hf g hg'
  have h2:=hg.lt g hg'
  have h3:=(hn1 ny (by simp)).1
  simp only [dI,ae9,dw,dD,ag,ae,or_false] at hm h1
  rcases hm with r | r | r
  ·exact h1 (.inl r)
  ·omega
  ·exact h1 (.inr r)
 have s3:=dP.sub (l':=[(0,dK nc),(4,dK nr),(6,dK n6),(7,dJ Lk),(8,dK nb),(9,dJ O),(64,dJ B1),(65,num (m)),(66,num (k)),(14,dK n14),(15,dK n15),(87,dJ K),(88,num (c)),(89,num (i)),(17,num (j)),(19,dK n19),(126,dJ S)]) (gs':=[(nc,[.bool f],88)]) (yX s2) (fun x hx=>by
  simp only [ag,ae,or_false] at hx
  rcases hx with rfl | rfl | rfl | rfl | rfl | rfl | rfl | rfl | rfl | rfl | rfl | rfl | rfl | rfl | rfl | rfl | rfl<;>rfl) (fun x hx=>by simp only [ag,ae,or_false] at hx; subst hx; exact aA) (fun x hx=>hx) hnd
 have hw:dO w (blk V++[nc,nr,n6,nb,n14,n15,n19]) w2:=(dO.comp (ex:=blk V++[nc,nr,n6,nb,n14,n15,n19]) (k1.wide fun g hm=>dm _ hm) k2 fun g hm=>.inl (aeY _ hm))
 have hfS:∀g∈blk S,g∉([nc,nr,n6,nb,n14,n15,n19]:List Nat):=fun g hm=>by
  rcases f2 g hm with r | r
  ·exact hf g r
  ·intro hm2
   have:=qE h g (by simpa using hm2)
   have:=k1.size
   omega
 refine y9 (Wd (w0:=w2) (ex':=[nr,n6,nb,n14,n15,n19]) (link:=link) (p0:=p0) (p1:=p1) (p2:=p2) (at_:=at_) (j:=j) (vl:=vl) (S:=S) (fun q hq=>.inl (by simpa using hq)) hnd s3 (dO.refl w2 _) fun a3 w3 s4 k4=>?_)
 exact hQ a3 w3 S s4 (g2.keep k4 hfS) (hw.comp k4 fun g hm=>.inl (dm _ hm)) fun g hm=>(f2 g hm).imp id fun r=>aZ k1.size r
theorem Xv {link p0 p1 p2:Int} (h:dP (dS 137 [(0,dK nc),(4,dK nr),(6,dK n6),(7,dJ Lk),(8,dK nb),(9,dJ O),(64,dJ B1),(65,num (m)),(66,num (k)),(14,dK n14),(15,dK n15)]) [(nc,[.bool f],88)] [(nr,[dJ B0,dJ B1],35),(n6,[.pointer none,.slice none 0 0,.slice none 0 0,.slice none 0 0,.slice none 0 0],92),(nb,[dK nc,dJ B0,dJ B1,dJ A,dJ M],92),(n14,[dK nc,num at_.a,num at_.b,num at_.c,num at_.d,num at_.e,num at_.f],98),(n15,[num (eT),dJ J,dJ V],95)] a w) (hg:Grow w M 3 95 n acc) (hn:n≤1000) (hf:∀g∈blk M,g∉([nc,nr,n6,nb,n14,n15]:List Nat))
  (hQ:∀(a':Act) (w':World) (S:dY),dP (dS 137 [(0,dK nc),(4,dK nr),(6,dK n6),(7,dJ Lk),(8,dK nb),(9,dJ O),(64,dJ B1),(65,num (m)),(66,num (k)),(14,dK n14),(15,dK n15)]) [(nc,[.bool f],88)] [(nr,[dJ B0,dJ B1],35),(n6,[.pointer none,.slice none 0 0,.slice none 0 0,.slice none 0 0,.slice none 0 0],92),(nb,[dK nc,dJ B0,dJ B1,dJ A,dJ S],92),(n14,[dK nc,num at_.a,num at_.b,num at_.c,num at_.d,num at_.e,num at_.f],98),(n15,[num (eT),dJ J,dJ V],95)] a' w'→Grow w' S 3 95 (n+1) (acc++[num eT,dJ J,dJ V])→dO w (blk M++[nc,nr,n6,nb,n14,n15]) w'→(∀g∈blk S,g∈blk M∨w.heap.size≤g)→Q .normal a' w'):(qm (dN aD)).wp aa Q a w:=by
 have hnd:=h.nd
 refine yC (by kernel_rfl) (xN 4 ?_)
 refine V8 (w0:=w) (ex':=[nr,n6,nb,n14,n15]) (K:=(none,0,0)) (link:=link) (p0:=p0) (p1:=p1) (p2:=p2) (at_:=at_) (fun q hq=>.inl (by simpa using hq)) hnd h (dO.refl w _) fun a1 w1 ny hn1 nd s1 k1=>?_
 have hy:=s1.gl _ (aT _ aA)
 have hg1:=hg.keep k1 hf
 refine HZ VJ hn rfl (fun v hv=>by simp only [ag,ae,or_false] at hv; rcases hv with rfl | rfl | rfl<;>rfl) s1 rfl rfl hy hg1 (fun g hg' hm=>?_) fun w2 S g2 k2 f2 s2=>?_
 ·have h1:=hf g hg'
  have h2:=hg.lt g hg'
  have h3:=(hn1 ny (by simp)).1
  simp only [dI,ae9,dw,dD,ag,ae,or_false] at hm h1
  rcases hm with r | r | r
  ·exact h1 (.inl r)
  ·omega
  ·exact h1 (.inr r)
 have s3:=dP.sub (l':=[(0,dK nc),(4,dK nr),(6,dK n6),(7,dJ Lk),(8,dK nb),(9,dJ O),(64,dJ B1),(65,num (m)),(66,num (k)),(14,dK n14),(15,dK n15),(133,dJ S)]) (gs':=[(nc,[.bool f],88)]) (yX s2) (fun x hx=>by
  simp only [ag,ae,or_false] at hx
  rcases hx with rfl | rfl | rfl | rfl | rfl | rfl | rfl | rfl | rfl | rfl | rfl | rfl<;>rfl) (fun x hx=>by simp only [ag,ae,or_false] at hx; subst hx; exact aA) (fun x hx=>hx) hnd
 have hw:dO w (blk M++[nc,nr,n6,nb,n14,n15]) w2:=(dO.comp (ex:=blk M++[nc,nr,n6,nb,n14,n15]) (k1.wide fun g hm=>dm _ hm) k2 fun g hm=>.inl (aeY _ hm))
 have hfS:∀g∈blk S,g∉([nc,nr,n6,nb,n14,n15]:List Nat):=fun g hm=>by
  rcases f2 g hm with r | r
  ·exact hf g r
  ·intro hm2
   have:=qE h g (by simpa using hm2)
   have:=k1.size
   omega
 refine y9 (We (w0:=w2) (ex':=[nr,n6,nb,n14,n15]) (K:=(none,0,0)) (link:=link) (p0:=p0) (p1:=p1) (p2:=p2) (at_:=at_) (S:=S) (fun q hq=>.inl (by simpa using hq)) hnd s3 (dO.refl w2 _) fun a3 w3 s4 k4=>?_)
 exact hQ a3 w3 S s4 (g2.keep k4 hfS) (hw.comp k4 fun g hm=>.inl (dm _ hm)) fun g hm=>(f2 g hm).imp id fun r=>aZ k1.size r
end Go.Proofs
end
