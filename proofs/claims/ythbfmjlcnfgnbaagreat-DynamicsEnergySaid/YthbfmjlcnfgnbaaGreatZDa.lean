/-
  Part of the proof: see the last text.
-/
import Derived.Deep.DeepCutAuto
import Derived.Deep.CutBlock
import Derived.Deep.RegionHeld3
import Derived.Deep.Slices
import Derived.OpenShut
import Derived.ChangeArms
import Derived.Test.YthbfmjlcnfgnbaaGreatZEa
import Derived.Test.YthbfmjlcnfgnbaaGreatZSb
import Derived.Test.YthbfmjlcnfgnbaaGreatZXj
set_option linter.unusedVariables false
set_option maxHeartbeats 8000000
open Array renaming getD_eq_getD_getElem?→bI,getElem?_eq_none→afc
open Go.RowKit.Below renaming heap_setCell→ae0,refl→aI
open Bool renaming and_eq_true→aQ
open Go.IntKind renaming i64→bg
open Go.IntWalk renaming i64_in→dz
open Go.Lib renaming hid→aG
open List renaming getD_cons_zero→bN,getElem?_append_left→aH,getElem?_append_right→bu,getElem?_eq_getElem→ah,getElem?_eq_none→bQ,getElem?_eq_some_iff→ai,getElem?_map→bY,getElem?_of_mem→cZ,length→ae1,length_append→afa,length_cons→dB,length_map→dF,map_cons→dI,mem_cons→ag,mem_cons_of_mem→aT,mem_cons_self→aA,mem_of_getElem?→aN,not_mem_nil→ae
open Nat renaming le_refl→au,le_trans→aZ,lt_of_lt_of_le→aC,lt_or_ge→cu
open Option renaming map_eq_some_iff→aR
open Go.Proofs.Tryz renaming f10→ajh,prog→aa
open Go.World renaming cell?→bS
section
namespace Go.Proofs
open Go.Sm Go.RowKit En
variable {w0 w:World} {a:Act} {B0 B1 Sp Sq:dY} {dp d ix i:Int} {n11:Nat} {Q:Exit→Act→World→Prop} {D:Code}
theorem ait (hd:d=0∨d=1∨d=2∨d=3∨d=4∨d=5) (hqt:∀z_∈([⟨14,[var 0,.int .i64 6],.val (.int .i64 d)⟩,⟨14,[var 1,.int .i64 (2^d.toNat)],.val (var 2)⟩,⟨20,[.agg ⟨[dM 0,dM 1]⟩,.agg ⟨[.int .i64 (0),.int .i64 (0),.int .i64 (0)]⟩,dM 2,dM 3,.int .i64 d,var 2],.val (.tuple ⟨[.slice none 0 0,.bool false]⟩)⟩]:List Qt),jB aa (gB (w0,[n11]) ([dp,ix,i]) ([]) [B0,B1,Sp,Sq]) z_)
  (hown:∀q∈[n11]++[],q∈([n11]:List Nat)∨w0.heap.size≤q) (hnd:([n11]++[]:List Nat).Nodup) (h:dP (dS 113 [(3,num (dp)),(4,num (ix)),(11,dK n11),(12,dJ Sp),(13,dJ Sq)]) [(n11,[dJ B0,dJ B1],35)] [] a w) (hk:dO w0 [n11] w)
  (hQ:∀a' w',dP (dS 113 [(11,dK n11),(12,dJ Sp),(13,dJ Sq),(15,.slice none 0 0),(16,.bool false)]) [(n11,[dJ B0,dJ B1],35)] [] a' w'→dO w0 [n11] w'→D.wp aa Q a' w'):(o7 [(rz (dN ajh)),(rC (dN ajh))] D).wp aa Q a w:=by
 rcases hd with rfl | rfl | rfl | rfl | rfl | rfl
 all_goals
  refine uN ([dp,ix,i]) ([]) [B0,B1,Sp,Sq] (w0:=w0) (ex:=[n11]) (g:=[]) (wt:=[]) (lt:=[]) (t:={ QT:=_ }) (ws:=[]) (fr:=fK 113 [(3,var 0),(4,var 1),(11,.pointer (some ⟨0,0,none⟩)),(12,dM 2),(13,dM 3)]) (H:=[dQ [dM 0,dM 1] 35]) (lo:=[]) (wb:=[])  10 _ [0] [] (by kernel_rfl) (by kernel_rfl) (by exact hnd) ⟨fB _,yA hqt,all_nil,(by exact hown),jG,fun _=>⟨all_nil,all_nil,all_nil⟩⟩ h hk hQ
variable {u0 u1 u2 u3 u4 u5:Int}
theorem aiu (hd:d=0∨d=1∨d=2∨d=3∨d=4∨d=5) (hqt:∀z_∈([⟨14,[var 0,.int .i64 6],.val (.int .i64 d)⟩,⟨14,[var 1,.int .i64 (2^d.toNat)],.val (var 2)⟩,⟨20,[.agg ⟨[dM 0,dM 1]⟩,.agg ⟨[.int .i64 (0),.int .i64 (0),.int .i64 (0)]⟩,dM 2,dM 3,.int .i64 d,var 2],.row true 1 1 (dQ (vs 3 6) 47)⟩]:List Qt),jB aa (gB (w0,[n11]) ([dp,ix,i,u0,u1,u2,u3,u4,u5]) ([]) [B0,B1,Sp,Sq]) z_)
  (hown:∀q∈[n11]++[],q∈([n11]:List Nat)∨w0.heap.size≤q) (hnd:([n11]++[]:List Nat).Nodup) (h:dP (dS 113 [(3,num (dp)),(4,num (ix)),(11,dK n11),(12,dJ Sp),(13,dJ Sq)]) [(n11,[dJ B0,dJ B1],35)] [] a w) (hk:dO w0 [n11] w)
  (hQ:∀(a':Act) (w':World) (gu:Nat),(∀q∈([gu]:List Nat),w.heap.size≤q∧q<w'.heap.size)→([n11]++[]++[gu]++[]:List Nat).Nodup→dP (dS 113 [(11,dK n11),(12,dJ Sp),(13,dJ Sq),(15,.slice (some ⟨gu,0,none⟩) 1 1),(16,.bool true)]) [(n11,[dJ B0,dJ B1],35),(gu,[num (u0),num (u1),num (u2),num (u3),num (u4),num (u5)],47)] [] a' w'→dO w0 [n11] w'→D.wp aa Q a' w'):(o7 [(rz (dN ajh)),(rC (dN ajh))] D).wp aa Q a w:=by
 rcases hd with rfl | rfl | rfl | rfl | rfl | rfl
 all_goals
  refine xI ([dp,ix,i,u0,u1,u2,u3,u4,u5]) ([]) [B0,B1,Sp,Sq] (w0:=w0) (ex:=[n11]) (g:=[]) (wt:=[]) (lt:=[]) (t:={ QT:=_ }) (ws:=[]) (fr:=fK 113 [(3,var 0),(4,var 1),(11,.pointer (some ⟨0,0,none⟩)),(12,dM 2),(13,dM 3)]) (H:=[dQ [dM 0,dM 1] 35]) (lo:=[]) (wb:=[]) (us':=fun gn nl=>dS 113 [(11,dK n11),(12,dJ Sp),(13,dJ Sq),(15,.slice (some ⟨(gn.getD 0 0),0,none⟩) 1 1),(16,.bool true)]) (gs':=fun gn nl=>[(n11,[dJ B0,dJ B1],35),((gn.getD 0 0),[num (u0),num (u1),num (u2),num (u3),num (u4),num (u5)],47)]) (ls':=fun gn nl=>[]) 10 _ [0,1] [] [15] [] (fun gn nl e1 e2=>?_) (by kernel_rfl) (fun gn nl e1 e2 e3=>?_) ⟨fB _,yA hqt,all_nil,(by exact hown),jG,fun _=>⟨all_nil,all_nil,all_nil⟩⟩ h hk (fun a' w' gn nl e1 e2 e3 e4 hs hk'=>?_)
  ·match gn,nl,e1,e2 with
   | [gu],[],_,_=>show (_:Option _)=_; kernel_rfl
  ·match gn,nl,e1,e2 with
   | [gu],[],_,_=>exact e3
  ·match gn,nl,e1,e2 with
   | [gu],[],_,_ =>
    simp only [bN] at hs
    exact hQ a' w' gu (fun q hq=>e4 q hq) e3 hs hk'
variable {u6 u7 u8 u9 u10 u11:Int}
theorem aiv (hd:d=0∨d=1∨d=2∨d=3∨d=4∨d=5) (hqt:∀z_∈([⟨14,[var 0,.int .i64 6],.val (.int .i64 d)⟩,⟨14,[var 1,.int .i64 (2^d.toNat)],.val (var 2)⟩,⟨20,[.agg ⟨[dM 0,dM 1]⟩,.agg ⟨[.int .i64 (0),.int .i64 (0),.int .i64 (0)]⟩,dM 2,dM 3,.int .i64 d,var 2],.row true 2 2 (dQ (vs 3 12) 47)⟩]:List Qt),jB aa (gB (w0,[n11]) ([dp,ix,i,u0,u1,u2,u3,u4,u5,u6,u7,u8,u9,u10,u11]) ([]) [B0,B1,Sp,Sq]) z_)
  (hown:∀q∈[n11]++[],q∈([n11]:List Nat)∨w0.heap.size≤q) (hnd:([n11]++[]:List Nat).Nodup) (h:dP (dS 113 [(3,num (dp)),(4,num (ix)),(11,dK n11),(12,dJ Sp),(13,dJ Sq)]) [(n11,[dJ B0,dJ B1],35)] [] a w) (hk:dO w0 [n11] w)
  (hQ:∀(a':Act) (w':World) (gu:Nat),(∀q∈([gu]:List Nat),w.heap.size≤q∧q<w'.heap.size)→([n11]++[]++[gu]++[]:List Nat).Nodup→dP (dS 113 [(11,dK n11),(12,dJ Sp),(13,dJ Sq),(15,.slice (some ⟨gu,0,none⟩) 2 2),(16,.bool true)]) [(n11,[dJ B0,dJ B1],35),(gu,[num (u0),num (u1),num (u2),num (u3),num (u4),num (u5),num (u6),num (u7),num (u8),num (u9),num (u10),num (u11)],47)] [] a' w'→dO w0 [n11] w'→D.wp aa Q a' w'):(o7 [(rz (dN ajh)),(rC (dN ajh))] D).wp aa Q a w:=by
 rcases hd with rfl | rfl | rfl | rfl | rfl | rfl
 all_goals
  refine xI ([dp,ix,i,u0,u1,u2,u3,u4,u5,u6,u7,u8,u9,u10,u11]) ([]) [B0,B1,Sp,Sq] (w0:=w0) (ex:=[n11]) (g:=[]) (wt:=[]) (lt:=[]) (t:={ QT:=_ }) (ws:=[]) (fr:=fK 113 [(3,var 0),(4,var 1),(11,.pointer (some ⟨0,0,none⟩)),(12,dM 2),(13,dM 3)]) (H:=[dQ [dM 0,dM 1] 35]) (lo:=[]) (wb:=[]) (us':=fun gn nl=>dS 113 [(11,dK n11),(12,dJ Sp),(13,dJ Sq),(15,.slice (some ⟨(gn.getD 0 0),0,none⟩) 2 2),(16,.bool true)]) (gs':=fun gn nl=>[(n11,[dJ B0,dJ B1],35),((gn.getD 0 0),[num (u0),num (u1),num (u2),num (u3),num (u4),num (u5),num (u6),num (u7),num (u8),num (u9),num (u10),num (u11)],47)]) (ls':=fun gn nl=>[]) 10 _ [0,1] [] [15] [] (fun gn nl e1 e2=>?_) (by kernel_rfl) (fun gn nl e1 e2 e3=>?_) ⟨fB _,yA hqt,all_nil,(by exact hown),jG,fun _=>⟨all_nil,all_nil,all_nil⟩⟩ h hk (fun a' w' gn nl e1 e2 e3 e4 hs hk'=>?_)
  ·match gn,nl,e1,e2 with
   | [gu],[],_,_=>show (_:Option _)=_; kernel_rfl
  ·match gn,nl,e1,e2 with
   | [gu],[],_,_=>exact e3
  ·match gn,nl,e1,e2 with
   | [gu],[],_,_ =>
    simp only [bN] at hs
    exact hQ a' w' gu (fun q hq=>e4 q hq) e3 hs hk'
theorem aiw {u12 u13 u14 u15 u16 u17:Int} (hd:d=0∨d=1∨d=2∨d=3∨d=4∨d=5) (hqt:∀z_∈([⟨14,[var 0,.int .i64 6],.val (.int .i64 d)⟩,⟨14,[var 1,.int .i64 (2^d.toNat)],.val (var 2)⟩,⟨20,[.agg ⟨[dM 0,dM 1]⟩,.agg ⟨[.int .i64 (0),.int .i64 (0),.int .i64 (0)]⟩,dM 2,dM 3,.int .i64 d,var 2],.row true 3 3 (dQ (vs 3 18) 47)⟩]:List Qt),jB aa (gB (w0,[n11]) ([dp,ix,i,u0,u1,u2,u3,u4,u5,u6,u7,u8,u9,u10,u11,u12,u13,u14,u15,u16,u17]) ([]) [B0,B1,Sp,Sq]) z_)
  (hown:∀q∈[n11]++[],q∈([n11]:List Nat)∨w0.heap.size≤q) (hnd:([n11]++[]:List Nat).Nodup) (h:dP (dS 113 [(3,num (dp)),(4,num (ix)),(11,dK n11),(12,dJ Sp),(13,dJ Sq)]) [(n11,[dJ B0,dJ B1],35)] [] a w) (hk:dO w0 [n11] w)
  (hQ:∀(a':Act) (w':World) (gu:Nat),(∀q∈([gu]:List Nat),w.heap.size≤q∧q<w'.heap.size)→([n11]++[]++[gu]++[]:List Nat).Nodup→dP (dS 113 [(11,dK n11),(12,dJ Sp),(13,dJ Sq),(15,.slice (some ⟨gu,0,none⟩) 3 3),(16,.bool true)]) [(n11,[dJ B0,dJ B1],35),(gu,[num (u0),num (u1),num (u2),num (u3),num (u4),num (u5),num (u6),num (u7),num (u8),num (u9),num (u10),num (u11),num (u12),num (u13),num (u14),num (u15),num (u16),num (u17)],47)] [] a' w'→dO w0 [n11] w'→D.wp aa Q a' w'):(o7 [(rz (dN ajh)),(rC (dN ajh))] D).wp aa Q a w:=by
 rcases hd with rfl | rfl | rfl | rfl | rfl | rfl
 all_goals
  refine xI ([dp,ix,i,u0,u1,u2,u3,u4,u5,u6,u7,u8,u9,u10,u11,u12,u13,u14,u15,u16,u17]) ([]) [B0,B1,Sp,Sq] (w0:=w0) (ex:=[n11]) (g:=[]) (wt:=[]) (lt:=[]) (t:={ QT:=_ }) (ws:=[]) (fr:=fK 113 [(3,var 0),(4,var 1),(11,.pointer (some ⟨0,0,none⟩)),(12,dM 2),(13,dM 3)]) (H:=[dQ [dM 0,dM 1] 35]) (lo:=[]) (wb:=[]) (us':=fun gn nl=>dS 113 [(11,dK n11),(12,dJ Sp),(13,dJ Sq),(15,.slice (some ⟨(gn.getD 0 0),0,none⟩) 3 3),(16,.bool true)]) (gs':=fun gn nl=>[(n11,[dJ B0,dJ B1],35),((gn.getD 0 0),[num (u0),num (u1),num (u2),num (u3),num (u4),num (u5),num (u6),num (u7),num (u8),num (u9),num (u10),num (u11),num (u12),num (u13),num (u14),num (u15),num (u16),num (u17)],47)]) (ls':=fun gn nl=>[]) 10 _ [0,1] [] [15] [] (fun gn nl e1 e2=>?_) (by kernel_rfl) (fun gn nl e1 e2 e3=>?_) ⟨fB _,yA hqt,all_nil,(by exact hown),jG,fun _=>⟨all_nil,all_nil,all_nil⟩⟩ h hk (fun a' w' gn nl e1 e2 e3 e4 hs hk'=>?_)
  ·match gn,nl,e1,e2 with
   | [gu],[],_,_=>show (_:Option _)=_; kernel_rfl
  ·match gn,nl,e1,e2 with
   | [gu],[],_,_=>exact e3
  ·match gn,nl,e1,e2 with
   | [gu],[],_,_ =>
    simp only [bN] at hs
    exact hQ a' w' gu (fun q hq=>e4 q hq) e3 hs hk'
variable {Tt:dY} {ok:Bool}
theorem aix {Wt:dY}
  (hown:∀q∈[n11]++[],q∈([n11]:List Nat)∨w0.heap.size≤q) (hnd:([n11]++[]:List Nat).Nodup) (h:dP (dS 113 [(11,dK n11),(12,dJ Sp),(13,dJ Sq),(15,dJ Tt),(16,.bool (ok))]) [(n11,[dJ B0,dJ B1],35)] [] a w) (hk:dO w0 [n11] w)
  (hQ:∀a' w',dP (dS 113 [(11,dK n11),(12,dJ Sp),(13,dJ Sq),(15,dJ Tt),(16,.bool (ok)),(48,.agg ⟨[dJ B0,dJ B1]⟩),(49,dJ Sp),(50,dJ Sq)]) [(n11,[dJ B0,dJ B1],35)] [] a' w'→dO w0 [n11] w'→wpList aa (opsOf (rD (dN ajh))).toArray Q ((opsOf (rD (dN ajh))).drop 3) a' w'):wpList aa (opsOf (rD (dN ajh))).toArray Q ((opsOf (rD (dN ajh))).take 3++((opsOf (rD (dN ajh))).drop 3)) a w:=by
 refine uw ([]) ([ok]) [B0,B1,Sp,Sq,Tt,Wt] (ops:=opsOf (rD (dN ajh))) (o1:=(opsOf (rD (dN ajh))).take 3) (tail:=((opsOf (rD (dN ajh))).drop 3)) (w0:=w0) (ex:=[n11]) (g:=[]) (wt:=[]) (lt:=[]) (t:={}) (ws:=[]) (fr:=fK 113 [(11,.pointer (some ⟨0,0,none⟩)),(12,dM 2),(13,dM 3),(15,dM 4),(16,mB 1 [.int .i64 0])]) (H:=[dQ [dM 0,dM 1] 35]) (lo:=[]) (wb:=[])  (by kernel_rfl) [0] [] (by kernel_rfl) (by kernel_rfl) (by exact hnd) ⟨fB _,jo,all_nil,(by exact hown),jG,fun _=>⟨all_nil,all_nil,all_nil⟩⟩ h hk hQ
variable {Wt:dY}
theorem aiy
  (hown:∀q∈[n11]++[],q∈([n11]:List Nat)∨w0.heap.size≤q) (hnd:([n11]++[]:List Nat).Nodup) (h:dP (dS 113 [(11,dK n11),(12,dJ Sp),(13,dJ Sq),(15,dJ Tt),(16,.bool (ok)),(51,.tuple ⟨[dJ Wt,.bool true]⟩)]) [(n11,[dJ B0,dJ B1],35)] [] a w) (hk:dO w0 [n11] w)
  (hQ:∀a' w',dP (dS 113 [(12,dJ Sp),(15,dJ Tt),(16,.bool (ok)),(17,dJ Wt),(18,.bool true)]) [(n11,[dJ B0,dJ B1],35)] [] a' w'→dO w0 [n11] w'→wpList aa (opsOf (rD (dN ajh))).toArray Q ([]) a' w'):wpList aa (opsOf (rD (dN ajh))).toArray Q ((opsOf (rD (dN ajh))).drop 4++([])) a w:=by
 refine uw ([]) ([ok]) [B0,B1,Sp,Sq,Tt,Wt] (ops:=opsOf (rD (dN ajh))) (o1:=(opsOf (rD (dN ajh))).drop 4) (tail:=([])) (w0:=w0) (ex:=[n11]) (g:=[]) (wt:=[]) (lt:=[]) (t:={}) (ws:=[]) (fr:=fK 113 [(11,.pointer (some ⟨0,0,none⟩)),(12,dM 2),(13,dM 3),(15,dM 4),(16,mB 1 [.int .i64 0]),(51,.tuple ⟨[dM 5,.bool true]⟩)]) (H:=[dQ [dM 0,dM 1] 35]) (lo:=[]) (wb:=[])  (by kernel_rfl) [0] [] (by kernel_rfl) (by kernel_rfl) (by exact hnd) ⟨fB _,jo,all_nil,(by exact hown),jG,fun _=>⟨all_nil,all_nil,all_nil⟩⟩ h hk hQ
variable {m:Int}
theorem aiA {B0 B1 Sq:dY} (hSp:(Sp.2.1:Int)=m) (hWt:(Wt.2.1:Int)=m) (hTt:(Tt.2.1:Int)=m)
  (hown:∀q∈[]++[],q∈([]:List Nat)∨w0.heap.size≤q) (hnd:([]++[]:List Nat).Nodup) (h:dP (dS 113 [(12,dJ Sp),(15,dJ Tt),(16,.bool true),(17,dJ Wt),(18,.bool true)]) [] [] a w) (hk:dO w0 [] w)
  (hQ:∀(a':Act) (w':World) (n19:Nat),(∀q∈([n19]:List Nat),w.heap.size≤q∧q<w'.heap.size)→([]++[]++[]++[n19]:List Nat).Nodup→dP (dS 113 [(12,dJ Sp),(15,dJ Tt),(16,.bool true),(17,dJ Wt),(19,dK n19)]) [] [(n19,[num (0),num (0)],23)] a' w'→dO w0 [] w'→D.wp aa Q a' w'):(o7 [(dZ (sR 6 (dN ajh))),(dZ (sR 7 (dN ajh)))] D).wp aa Q a w:=by
 refine xI ([m]) ([]) [B0,B1,Sp,Sq,Tt,Wt] (w0:=w0) (ex:=[]) (g:=[(mB 25 [var 0,var 0],.bool false)]) (wt:=[]) (lt:=[(2,var 0),(5,var 0),(4,var 0)]) (t:={}) (ws:=[]) (fr:=fK 113 [(12,dM 2),(15,dM 4),(16,.bool true),(17,dM 5),(18,.bool true)]) (H:=[]) (lo:=[]) (wb:=[]) (us':=fun gn nl=>dS 113 [(12,dJ Sp),(15,dJ Tt),(16,.bool true),(17,dJ Wt),(19,dK (nl.getD 0 0))]) (gs':=fun gn nl=>[]) (ls':=fun gn nl=>[((nl.getD 0 0),[num (0),num (0)],23)]) 10 _ [] [0] [] [19] (fun gn nl e1 e2=>?_) (by kernel_rfl) (fun gn nl e1 e2 e3=>?_) ⟨fq (b:=(m != m)) (by kernel_rfl) (by simp) (fB _),jo,all_nil,(by exact hown),kF,fun _=>⟨all_nil,dR (CZ rfl (show (Sp.2.1:Int)=m from hSp) (by kernel_rfl) (by kernel_rfl))<|dR (CZ rfl (show (Wt.2.1:Int)=m from hWt) (by kernel_rfl) (by kernel_rfl))<|dR (CZ rfl (show (Tt.2.1:Int)=m from hTt) (by kernel_rfl) (by kernel_rfl))<|all_nil,all_nil⟩⟩ h hk (fun a' w' gn nl e1 e2 e3 e4 hs hk'=>?_)
 ·match gn,nl,e1,e2 with
  | [],[n19],_,_=>show (_:Option _)=_; kernel_rfl
 ·match gn,nl,e1,e2 with
  | [],[n19],_,_=>exact e3
 ·match gn,nl,e1,e2 with
  | [],[n19],_,_ =>
   simp only [bN] at hs
   exact hQ a' w' n19 (fun q hq=>e4 q hq) e3 hs hk'
theorem aiz {B0 B1 Sq:dY} (hSp:(Sp.2.1:Int)=m) (hWt:(Wt.2.1:Int)=m)
  (hown:∀q∈[]++[],q∈([]:List Nat)∨w0.heap.size≤q) (hnd:([]++[]:List Nat).Nodup) (h:dP (dS 113 [(12,dJ Sp),(15,dJ Tt),(16,.bool false),(17,dJ Wt),(18,.bool true)]) [] [] a w) (hk:dO w0 [] w)
  (hQ:∀(a':Act) (w':World) (n19:Nat),(∀q∈([n19]:List Nat),w.heap.size≤q∧q<w'.heap.size)→([]++[]++[]++[n19]:List Nat).Nodup→dP (dS 113 [(12,dJ Sp),(15,dJ Tt),(16,.bool false),(17,dJ Wt),(19,dK n19)]) [] [(n19,[num (0),num (0)],23)] a' w'→dO w0 [] w'→D.wp aa Q a' w'):(o7 [(dZ (sR 6 (dN ajh))),(dZ (sR 7 (dN ajh)))] D).wp aa Q a w:=by
 refine xI ([m]) ([]) [B0,B1,Sp,Sq,Tt,Wt] (w0:=w0) (ex:=[]) (g:=[(mB 25 [var 0,var 0],.bool false)]) (wt:=[]) (lt:=[(2,var 0),(5,var 0)]) (t:={}) (ws:=[]) (fr:=fK 113 [(12,dM 2),(15,dM 4),(16,.bool false),(17,dM 5),(18,.bool true)]) (H:=[]) (lo:=[]) (wb:=[]) (us':=fun gn nl=>dS 113 [(12,dJ Sp),(15,dJ Tt),(16,.bool false),(17,dJ Wt),(19,dK (nl.getD 0 0))]) (gs':=fun gn nl=>[]) (ls':=fun gn nl=>[((nl.getD 0 0),[num (0),num (0)],23)]) 10 _ [] [0] [] [19] (fun gn nl e1 e2=>?_) (by kernel_rfl) (fun gn nl e1 e2 e3=>?_) ⟨fq (b:=(m != m)) (by kernel_rfl) (by simp) (fB _),jo,all_nil,(by exact hown),kF,fun _=>⟨all_nil,dR (CZ rfl (show (Sp.2.1:Int)=m from hSp) (by kernel_rfl) (by kernel_rfl))<|dR (CZ rfl (show (Wt.2.1:Int)=m from hWt) (by kernel_rfl) (by kernel_rfl))<|all_nil,all_nil⟩⟩ h hk (fun a' w' gn nl e1 e2 e3 e4 hs hk'=>?_)
 ·match gn,nl,e1,e2 with
  | [],[n19],_,_=>show (_:Option _)=_; kernel_rfl
 ·match gn,nl,e1,e2 with
  | [],[n19],_,_=>exact e3
 ·match gn,nl,e1,e2 with
  | [],[n19],_,_ =>
   simp only [bN] at hs
   exact hQ a' w' n19 (fun q hq=>e4 q hq) e3 hs hk'
variable {n19:Nat}
theorem ahP {B0 B1 Sq:dY}
  (hown:∀q∈[]++[n19],q∈([]:List Nat)∨w0.heap.size≤q) (hnd:([]++[n19]:List Nat).Nodup) (h:dP (dS 113 [(12,dJ Sp),(15,dJ Tt),(16,.bool (ok)),(17,dJ Wt),(19,dK n19)]) [] [(n19,[num (0),num (0)],23)] a w) (hk:dO w0 [] w)
  (hQ:∀a' w',dP (dS 113 [(12,dJ Sp),(15,dJ Tt),(16,.bool (ok)),(17,dJ Wt),(19,dK n19),(20,num (0))]) [] [(n19,[num (0),num (0)],23)] a' w'→dO w0 [] w'→D.wp aa Q a' w'):(o7 [(dZ (dZ (sR 8 (dN ajh))))] D).wp aa Q a w:=by
 refine uN ([]) ([ok]) [B0,B1,Sp,Sq,Tt,Wt] (w0:=w0) (ex:=[]) (g:=[]) (wt:=[]) (lt:=[]) (t:={}) (ws:=[]) (fr:=fK 113 [(12,dM 2),(15,dM 4),(16,mB 1 [.int .i64 0]),(17,dM 5),(19,.pointer (some ⟨0,0,some 0⟩))]) (H:=[]) (lo:=[dQ [.int .i64 (0),.int .i64 (0)] 23]) (wb:=[])  10 _ [] [0] (by kernel_rfl) (by kernel_rfl) (by exact hnd) ⟨fB _,jo,all_nil,(by exact hown),kF,fun _=>⟨all_nil,all_nil,all_nil⟩⟩ h hk hQ
variable {j lo hi:Int}
theorem aiF {B0 B1 Sq:dY} (hSp:(Sp.2.1:Int)=m) (hl:decide (j<m)=false)
  (hown:∀q∈[]++[n19],q∈([]:List Nat)∨w0.heap.size≤q) (hnd:([]++[n19]:List Nat).Nodup) (h:dP (dS 113 [(12,dJ Sp),(15,dJ Tt),(16,.bool true),(17,dJ Wt),(19,dK n19),(20,num (j))]) [] [(n19,[num (lo),num (hi)],23)] a w) (hk:dO w0 [] w)
  (hQ:∀a' w',dP (dS 113 [(12,dJ Sp),(15,dJ Tt),(16,.bool true),(17,dJ Wt),(19,dK n19),(20,num (j))]) [] [(n19,[num (lo),num (hi)],23)] a' w'→dO w0 [] w'→Q (.exit 0) a' w'):(kS (dN ajh)).wp aa Q a w:=by
 refine Cq ([m,j,lo,hi]) ([]) [B0,B1,Sp,Sq,Tt,Wt] (w0:=w0) (ex:=[]) (g:=[(mB 20 [var 1,var 0],.bool false)]) (wt:=[]) (lt:=[(2,var 0)]) (t:={}) (ws:=[]) (fr:=fK 113 [(12,dM 2),(15,dM 4),(16,.bool true),(17,dM 5),(19,.pointer (some ⟨0,0,some 0⟩)),(20,var 1)]) (H:=[]) (lo:=[dQ [var 2,var 3] 23]) (wb:=[])  10 (.exit 0) [] [0] (by kernel_rfl) (by kernel_rfl) (by exact hnd) ⟨fq (b:=(decide (j<m))) (by kernel_rfl) hl (fB _),jo,all_nil,(by exact hown),kF,fun _=>⟨all_nil,dR (CZ rfl (show (Sp.2.1:Int)=m from hSp) (by kernel_rfl) (by kernel_rfl))<|all_nil,all_nil⟩⟩ h hk hQ
theorem aiE {B0 B1 Sq:dY} {m:Int}
  (hown:∀q∈[]++[n19],q∈([]:List Nat)∨w0.heap.size≤q) (hnd:([]++[n19]:List Nat).Nodup) (h:dP (dS 113 [(12,dJ Sp),(15,dJ Tt),(16,.bool false),(17,dJ Wt),(19,dK n19),(20,num (j))]) [] [(n19,[num (lo),num (hi)],23)] a w) (hk:dO w0 [] w)
  (hQ:∀a' w',dP (dS 113 [(12,dJ Sp),(15,dJ Tt),(16,.bool false),(17,dJ Wt),(19,dK n19),(20,num (j))]) [] [(n19,[num (lo),num (hi)],23)] a' w'→dO w0 [] w'→Q (.exit 0) a' w'):(kS (dN ajh)).wp aa Q a w:=by
 refine Cq ([m,j,lo,hi]) ([]) [B0,B1,Sp,Sq,Tt,Wt] (w0:=w0) (ex:=[]) (g:=[]) (wt:=[]) (lt:=[]) (t:={}) (ws:=[]) (fr:=fK 113 [(12,dM 2),(15,dM 4),(16,.bool false),(17,dM 5),(19,.pointer (some ⟨0,0,some 0⟩)),(20,var 1)]) (H:=[]) (lo:=[dQ [var 2,var 3] 23]) (wb:=[])  10 (.exit 0) [] [0] (by kernel_rfl) (by kernel_rfl) (by exact hnd) ⟨fB _,jo,all_nil,(by exact hown),kF,fun _=>⟨all_nil,all_nil,all_nil⟩⟩ h hk hQ
variable {r0 r1 t0 t1 t2 t3 t4 t5 p0 p1 s0 s1:Int} {b0 o0 b1 o1:Nat}
theorem aiB (hSp:(Sp.2.1:Int)=m) (hl:decide (j<m)=true) (hqt:∀z_∈([⟨27,[.agg ⟨[var 4,var 5]⟩,.agg ⟨[var 6,var 7]⟩],.val (.tuple ⟨[.agg ⟨[var 12,var 13]⟩,.bool true]⟩)⟩,⟨28,[.agg ⟨[var 2,var 3]⟩,.agg ⟨[var 12,var 13]⟩],.val (.tuple ⟨[.agg ⟨[var 14,var 15]⟩,.bool true]⟩)⟩]:List Qt),jB aa (gB (w0,[]) ([m,j,lo,hi,r0,r1,t0,t1,t2,t3,t4,t5,p0,p1,s0,s1]) ([]) [B0,B1,Sp,Sq,Tt,Wt]) z_) (hw0:fu w0 [] Wt (j) 2 b0 o0 [num (r0),num (r1)]) (hw1:fu w0 [] Tt (j) 6 b1 o1 [num (t0),num (t1),num (t2),num (t3),num (t4),num (t5)])
  (hown:∀q∈[]++[n19],q∈([]:List Nat)∨w0.heap.size≤q) (hnd:([]++[n19]:List Nat).Nodup) (h:dP (dS 113 [(12,dJ Sp),(15,dJ Tt),(16,.bool true),(17,dJ Wt),(19,dK n19),(20,num (j))]) [] [(n19,[num (lo),num (hi)],23)] a w) (hk:dO w0 [] w)
  (hQ:∀a' w',dP (dS 113 [(12,dJ Sp),(15,dJ Tt),(16,.bool true),(17,dJ Wt),(19,dK n19),(20,num (bg.wrap (j+1)))]) [] [(n19,[num (s0),num (s1)],23)] a' w'→dO w0 [] w'→Q (.normal) a' w'):(kS (dN ajh)).wp aa Q a w:=by
 refine Cq ([m,j,lo,hi,r0,r1,t0,t1,t2,t3,t4,t5,p0,p1,s0,s1]) ([]) [B0,B1,Sp,Sq,Tt,Wt] (w0:=w0) (ex:=[]) (g:=[(mB 20 [var 1,var 0],.bool true)]) (wt:=[(5,var 1,2,1),(4,var 1,6,2)]) (lt:=[(2,var 0)]) (t:={ QT:=[⟨27,[.agg ⟨[var 4,var 5]⟩,.agg ⟨[var 6,var 7]⟩],.val (.tuple ⟨[.agg ⟨[var 12,var 13]⟩,.bool true]⟩)⟩,⟨28,[.agg ⟨[var 2,var 3]⟩,.agg ⟨[var 12,var 13]⟩],.val (.tuple ⟨[.agg ⟨[var 14,var 15]⟩,.bool true]⟩)⟩] }) (ws:=[(b0,o0,[num (r0),num (r1)]),(b1,o1,[num (t0),num (t1),num (t2),num (t3),num (t4),num (t5)])]) (fr:=fK 113 [(12,dM 2),(15,dM 4),(16,.bool true),(17,dM 5),(19,.pointer (some ⟨0,0,some 0⟩)),(20,var 1)]) (H:=[]) (lo:=[dQ [var 2,var 3] 23]) (wb:=[dU [var 4,var 5],dU (vs 6 6)])  10 (.normal) [] [0] (by kernel_rfl) (by kernel_rfl) (by exact hnd) ⟨fq (b:=(decide (j<m))) (by kernel_rfl) hl (fB _),yA hqt,dR hw0.wf<|dR hw1.wf<|all_nil,(by exact hown),kF,fun _=>⟨dR (qa hw0 rfl rfl rfl rfl)<|dR (qa hw1 rfl rfl rfl rfl)<|all_nil,dR (CZ rfl (show (Sp.2.1:Int)=m from hSp) (by kernel_rfl) (by kernel_rfl))<|all_nil,all_nil⟩⟩ h hk hQ
theorem aiC (hSp:(Sp.2.1:Int)=m) (hl:decide (j<m)=true) (hqt:∀z_∈([⟨27,[.agg ⟨[var 4,var 5]⟩,.agg ⟨[var 6,var 7]⟩],.val (.tuple ⟨[.agg ⟨[var 12,var 13]⟩,.bool false]⟩)⟩,⟨16,[],.val (.bool true)⟩]:List Qt),jB aa (gB (w0,[]) ([m,j,lo,hi,r0,r1,t0,t1,t2,t3,t4,t5,p0,p1,s0,s1]) ([]) [B0,B1,Sp,Sq,Tt,Wt]) z_) (hw0:fu w0 [] Wt (j) 2 b0 o0 [num (r0),num (r1)]) (hw1:fu w0 [] Tt (j) 6 b1 o1 [num (t0),num (t1),num (t2),num (t3),num (t4),num (t5)])
  (hown:∀q∈[]++[n19],q∈([]:List Nat)∨w0.heap.size≤q) (hnd:([]++[n19]:List Nat).Nodup) (h:dP (dS 113 [(12,dJ Sp),(15,dJ Tt),(16,.bool true),(17,dJ Wt),(19,dK n19),(20,num (j))]) [] [(n19,[num (lo),num (hi)],23)] a w) (hk:dO w0 [] w)
  (hQ:∀a' w',dP (dS 113 [(10,.bool true)]) [] [(n19,[num (lo),num (hi)],23)] a' w'→dO w0 [] w'→Q (.ret) a' w'):(kS (dN ajh)).wp aa Q a w:=by
 refine Cq ([m,j,lo,hi,r0,r1,t0,t1,t2,t3,t4,t5,p0,p1,s0,s1]) ([]) [B0,B1,Sp,Sq,Tt,Wt] (w0:=w0) (ex:=[]) (g:=[(mB 20 [var 1,var 0],.bool true)]) (wt:=[(5,var 1,2,1),(4,var 1,6,2)]) (lt:=[(2,var 0)]) (t:={ QT:=[⟨27,[.agg ⟨[var 4,var 5]⟩,.agg ⟨[var 6,var 7]⟩],.val (.tuple ⟨[.agg ⟨[var 12,var 13]⟩,.bool false]⟩)⟩,⟨16,[],.val (.bool true)⟩] }) (ws:=[(b0,o0,[num (r0),num (r1)]),(b1,o1,[num (t0),num (t1),num (t2),num (t3),num (t4),num (t5)])]) (fr:=fK 113 [(12,dM 2),(15,dM 4),(16,.bool true),(17,dM 5),(19,.pointer (some ⟨0,0,some 0⟩)),(20,var 1)]) (H:=[]) (lo:=[dQ [var 2,var 3] 23]) (wb:=[dU [var 4,var 5],dU (vs 6 6)])  10 (.ret) [] [0] (by kernel_rfl) (by kernel_rfl) (by exact hnd) ⟨fq (b:=(decide (j<m))) (by kernel_rfl) hl (fB _),yA hqt,dR hw0.wf<|dR hw1.wf<|all_nil,(by exact hown),kF,fun _=>⟨dR (qa hw0 rfl rfl rfl rfl)<|dR (qa hw1 rfl rfl rfl rfl)<|all_nil,dR (CZ rfl (show (Sp.2.1:Int)=m from hSp) (by kernel_rfl) (by kernel_rfl))<|all_nil,all_nil⟩⟩ h hk hQ
theorem aiD (hSp:(Sp.2.1:Int)=m) (hl:decide (j<m)=true) (hqt:∀z_∈([⟨27,[.agg ⟨[var 4,var 5]⟩,.agg ⟨[var 6,var 7]⟩],.val (.tuple ⟨[.agg ⟨[var 12,var 13]⟩,.bool true]⟩)⟩,⟨28,[.agg ⟨[var 2,var 3]⟩,.agg ⟨[var 12,var 13]⟩],.val (.tuple ⟨[.agg ⟨[var 14,var 15]⟩,.bool false]⟩)⟩,⟨16,[],.val (.bool true)⟩]:List Qt),jB aa (gB (w0,[]) ([m,j,lo,hi,r0,r1,t0,t1,t2,t3,t4,t5,p0,p1,s0,s1]) ([]) [B0,B1,Sp,Sq,Tt,Wt]) z_) (hw0:fu w0 [] Wt (j) 2 b0 o0 [num (r0),num (r1)]) (hw1:fu w0 [] Tt (j) 6 b1 o1 [num (t0),num (t1),num (t2),num (t3),num (t4),num (t5)])
  (hown:∀q∈[]++[n19],q∈([]:List Nat)∨w0.heap.size≤q) (hnd:([]++[n19]:List Nat).Nodup) (h:dP (dS 113 [(12,dJ Sp),(15,dJ Tt),(16,.bool true),(17,dJ Wt),(19,dK n19),(20,num (j))]) [] [(n19,[num (lo),num (hi)],23)] a w) (hk:dO w0 [] w)
  (hQ:∀a' w',dP (dS 113 [(10,.bool true)]) [] [(n19,[num (s0),num (s1)],23)] a' w'→dO w0 [] w'→Q (.ret) a' w'):(kS (dN ajh)).wp aa Q a w:=by
 refine Cq ([m,j,lo,hi,r0,r1,t0,t1,t2,t3,t4,t5,p0,p1,s0,s1]) ([]) [B0,B1,Sp,Sq,Tt,Wt] (w0:=w0) (ex:=[]) (g:=[(mB 20 [var 1,var 0],.bool true)]) (wt:=[(5,var 1,2,1),(4,var 1,6,2)]) (lt:=[(2,var 0)]) (t:={ QT:=[⟨27,[.agg ⟨[var 4,var 5]⟩,.agg ⟨[var 6,var 7]⟩],.val (.tuple ⟨[.agg ⟨[var 12,var 13]⟩,.bool true]⟩)⟩,⟨28,[.agg ⟨[var 2,var 3]⟩,.agg ⟨[var 12,var 13]⟩],.val (.tuple ⟨[.agg ⟨[var 14,var 15]⟩,.bool false]⟩)⟩,⟨16,[],.val (.bool true)⟩] }) (ws:=[(b0,o0,[num (r0),num (r1)]),(b1,o1,[num (t0),num (t1),num (t2),num (t3),num (t4),num (t5)])]) (fr:=fK 113 [(12,dM 2),(15,dM 4),(16,.bool true),(17,dM 5),(19,.pointer (some ⟨0,0,some 0⟩)),(20,var 1)]) (H:=[]) (lo:=[dQ [var 2,var 3] 23]) (wb:=[dU [var 4,var 5],dU (vs 6 6)])  10 (.ret) [] [0] (by kernel_rfl) (by kernel_rfl) (by exact hnd) ⟨fq (b:=(decide (j<m))) (by kernel_rfl) hl (fB _),yA hqt,dR hw0.wf<|dR hw1.wf<|all_nil,(by exact hown),kF,fun _=>⟨dR (qa hw0 rfl rfl rfl rfl)<|dR (qa hw1 rfl rfl rfl rfl)<|all_nil,dR (CZ rfl (show (Sp.2.1:Int)=m from hSp) (by kernel_rfl) (by kernel_rfl))<|all_nil,all_nil⟩⟩ h hk hQ
theorem aiG {RR:Ending→World→Prop} (hh:decide (hi≥0)=true) (hqt:∀z_∈([⟨16,[],.val (.bool true)⟩]:List Qt),jB aa (gB (w0,[]) ([lo,hi]) ([]) []) z_)
  (hown:∀q∈[]++[n19],q∈([]:List Nat)∨w0.heap.size≤q) (hnd:([]++[n19]:List Nat).Nodup) (h:dP (dS 113 [(19,dK n19)]) [] [(n19,[num (lo),num (hi)],23)] a w) (hk:dO w0 [] w)
  (hQ:∀a' w',dP (dS 113 []) [] [] a' w'→dO w0 [] w'→RR (.returned (.bool true)) w'):(sR 9 (dN ajh)).wp aa (bodyPost aa ajh RR) a w:=by
 refine Q7 ([lo,hi]) ([]) [] (w0:=w0) (ex:=[]) (g:=[(mB 23 [var 1,.int .i64 0],.bool true)]) (wt:=[]) (lt:=[]) (t:={ QT:=[⟨16,[],.val (.bool true)⟩] }) (ws:=[]) (fr:=fK 113 [(19,.pointer (some ⟨0,0,some 0⟩))]) (H:=[]) (lo:=[dQ [var 0,var 1] 23]) (wb:=[])  (u:=.bool true) 10 [] [] (by kernel_rfl) (by kernel_rfl) (by simp) ⟨fq (b:=(decide (hi≥0))) (by kernel_rfl) hh (fB _),yA hqt,all_nil,(by exact hown),kF,fun _=>⟨all_nil,all_nil,all_nil⟩⟩ h hk hQ
end Go.Proofs
end
section
namespace Go.Proofs
open Go.Sm Go.RowKit En
structure afo (w W:World) (Tt:dY) (n:Nat) (T:Mx):Prop where
 fl:T.fl=false
 ln:Tt.2.1=n
 sl:Sl W Tt.1 6 (pY T.us T.xs T.gs)
 bk:∀a,Tt.1=some a→w.heap.size≤a.block
variable {w:World} {Tt:dY} {n:Nat}
theorem afo.keep {W W':World} {T:Mx} {ex:List Nat} (h:afo w W Tt n T) (k:dO W ex W') (hx:∀g∈ex,g<w.heap.size):afo w W' Tt n T :=
 ⟨h.fl,h.ln,kI h.sl k fun a ha hm=>by have:=h.bk a ha; have:=hx _ hm; omega,h.bk⟩
theorem af8:∀(us xs gs:List (Int×Int)) (n:Nat),us.length=n→xs.length=n→gs.length=n→(pY us xs gs).length=n
 | [],_,_,n,h1,_,_=>by subst h1; rfl
 | _::us,[],_,n,h1,h2,_=>by subst h1; simp at h2
 | _::us,_::xs,[],n,h1,_,h3=>by subst h1; simp at h3
 | _::us,_::xs,_::gs,n,h1,h2,h3=>by
  subst h1
  simp only [dB,Nat.add_right_cancel_iff] at h2 h3
  show (pY us xs gs).length+1=_
  rw [af8 us xs gs us.length rfl h2 h3]
  rfl
def afC (us xs gs:List (Int×Int)) (k:Nat):List Value:=[num (us.getD k (0,0)).1,num (us.getD k (0,0)).2,num (xs.getD k (0,0)).1,num (xs.getD k (0,0)).2,num (gs.getD k (0,0)).1,num (gs.getD k (0,0)).2]
theorem af7:∀(us xs gs:List (Int×Int)) (n k:Nat),us.length=n→xs.length=n→gs.length=n→k<n→(pY us xs gs)[k]?=some (afC us xs gs k)
 | [],_,_,n,k,h1,_,_,hk=>by subst h1; cases hk
 | _::us,[],_,n,k,h1,h2,_,_=>by subst h1; simp at h2
 | _::us,_::xs,[],n,k,h1,_,h3,_=>by subst h1; simp at h3
 | _::us,_::xs,_::gs,n,0,_,_,_,_=>rfl
 | _::us,_::xs,_::gs,n,k+1,h1,h2,h3,hk=>by
  subst h1
  simp only [dB,Nat.add_right_cancel_iff] at h2 h3
  simp only [dB] at hk
  exact af7 us xs gs us.length k rfl h2 h3 (by omega)
theorem row_of {w0:World} {us xs gs:List (Int×Int)} {k:Nat} {r:List Value} (sl:Sl w Tt.1 6 (pY us xs gs)) (ln:Tt.2.1=n) (h1:us.length=n) (h2:xs.length=n) (h3:gs.length=n) (hk:k<n) (hr:afC us xs gs k=r) (h0:w0=w):∃b o,fu w0 [] Tt k 6 b o r:=by
 subst hr h0
 exact iy sl (by rw [ln,af8 us xs gs n h1 h2 h3]) (af7 us xs gs n k h1 h2 h3 hk) (by simp [afC]) (fun a ha=>by simp)
end Go.Proofs
end
section
namespace Go.Proofs
open Go.Sm Go.RowKit En
theorem ail:(sR 3 (dN ajh))=o7 [(rz (dN ajh)),(rC (dN ajh))] (.seq (rD (dN ajh)) (sR 6 (dN ajh))):=by kernel_rfl
theorem aim:(sR 6 (dN ajh))=o7 [(dZ (sR 6 (dN ajh))),(dZ (sR 7 (dN ajh)))] (.seq (o7 [(dZ (dZ (sR 8 (dN ajh))))] (.block 0 (.loop (kS (dN ajh))))) (sR 9 (dN ajh))):=by kernel_rfl
theorem ain:Hd (rD (dN ajh)) 3 26 [.tmp 48,.tmp 49,.tmp 50] 51:=WX (by kernel_rfl)
variable {P:Program} {E:Env}
theorem aha {f:FuncId} {xs vs:List Value} {v u:Value} (h1:eQ (fP E ⟨[],[]⟩ 5) xs=some vs) (h2:fP E ⟨[],[]⟩ 5 v=some u) (h:∀w,Calls P f vs.toArray w fun e w'=>e=.returned u∧Below w.heap.size w w'):jB P E ⟨f,xs,.val v⟩ :=
 fun w _=>⟨vs,h1,(h w).mono fun e w' ⟨q1,q2⟩=>⟨q2,u,h2,q1⟩⟩
theorem ag7 {z:Qt} {l:List Qt} (h:jB P E z) (hl:∀y∈l,jB P E y):∀y∈z::l,jB P E y:=fun y hy=>by
 rcases ag.1 hy with rfl | hy
 ·exact h
 ·exact hl y hy
theorem ahr:∀y∈([]:List Qt),jB P E y:=fun y hy=>by cases hy
theorem ah6 (x n:Int) (h1:1≤n) (h2:n≤64):∀w,Calls aa 14 #[num x,num n] w fun e w'=>e=.returned (num (x % n))∧Below w.heap.size w w':=fun w =>
 (ac3 x n w (by omega) (by omega)).mono fun e w' ⟨q1,q2⟩=>by subst q2; exact ⟨q1,aI _ _⟩
variable {w:World}
theorem ah0 {w':World} {gs ls:List gQ} {a:Act} (h:dP (dS 113 [(10,.bool true)]) gs ls a w') (hb:Below w.heap.size w w'):bodyPost aa ajh (wz w) .ret a w':=by
 have h10:a.tmps[10]?=some (.bool true):=h.fr 10 (.bool true) (Aa (by decide) rfl)
 exact bodyPost_ret (v:=.bool true) (by simp [results,Tryz.results10,go_sem,h10]) h.df ⟨rfl,hb⟩
variable {w0 w1:World} {a1:Act} {n19:Nat}
theorem ahS {lo hi:Int} (hb:Below w.heap.size w w0) (hh:0≤hi) (hn:w0.heap.size≤n19) (hs:dP (dS 113 [(19,dK n19)]) [] [(n19,[num lo,num hi],23)] a1 w1) (hk:dO w0 [] w1):(sR 9 (dN ajh)).wp aa (bodyPost aa ajh (wz w)) a1 w1 :=
 aiG (w0:=w0) (lo:=lo) (hi:=hi) (by simpa using hh) H6 (fun q hq=>.inr (by simp at hq; subst hq; exact hn)) (by simp) hs hk fun a3 w3 s4 k3=>⟨rfl,xG ((uo hb).trans k3)⟩
def usE (Sp Tt Wt:dY) (ok:Bool) (n19:Nat) (j:Int):List (Option Value):=dS 113 [(12,dJ Sp),(15,dJ Tt),(16,.bool ok),(17,dJ Wt),(19,dK n19),(20,num j)]
variable {Sp Tt Wt:dY}
theorem aiQ {v0:World} {n:Nat} {A:Mx} {rs:List (Int×Int)} (hb:Below w.heap.size w w0) (hn:w0.heap.size≤n19) (hn3:n≤3) (hSp:Sp.2.1=n) (hWl:Wt.2.1=rs.length) (hrs:rs.length=n) (hW:Sl w0 Wt.1 2 (rH rs)) (t:afo v0 w0 Tt n A) (hu:A.us.length=n) (hx:A.xs.length=n) (hg:A.gs.length=n) (hp:∀s,ahd rs A.us n=some s→0≤s.2)
  (hs:dP (usE Sp Tt Wt true n19 (0:Nat)) [] [(n19,[num 0,num 0],23)] a1 w1) (hk:dO w0 [] w1) :
  (Code.block 0 (.loop (kS (dN ajh)))).wp aa (Exit.then ((sR 9 (dN ajh)).wp aa (bodyPost aa ajh (wz w))) (bodyPost aa ajh (wz w))) a1 w1:=by
 have hown:∀q∈[]++[n19],q∈([]:List Nat)∨w0.heap.size≤q:=fun q hq=>.inr (by simp at hq; subst hq; exact hn)
 have hnd:([]++[n19]:List Nat).Nodup:=by simp
 refine wp_block (wp_loop (fun a w'=>∃(k:Nat) (s:Int×Int),k≤n∧ahd rs A.us k=some s∧dP (usE Sp Tt Wt true n19 k) [] [(n19,[num s.1,num s.2],23)] a w'∧dO w0 [] w') (fun a _=>n - (intOf (a.tmps.getD 20 undef)).toNat) ⟨0,(0,0),Nat.zero_le _,rfl,hs,hk⟩ ?_)
 have hmv:∀(a:Act) (w:World) (i:Nat) (g l:List gQ),dP (usE Sp Tt Wt true n19 i) g l a w→(intOf (a.tmps.getD 20 undef)).toNat=i:=fun a w i g l s=>by
  have:=s.fr 20 (num i) (Aa (by decide) rfl)
  rw [bI,this]; simp [intOf,num]
 rintro a3 w3 ⟨k,⟨lo,hi⟩,hkn,hps,s3,k3⟩
 have hSp':(Sp.2.1:Int)=((n:Nat):Int):=by rw [hSp]
 by_cases hlt:k<n
 ·obtain ⟨r,hr⟩:∃r,rs[k]?=some r:=⟨_,ah (by omega)⟩
  obtain ⟨b0,o0,R0⟩:=iy (ex:=[]) hW (by rw [hWl,rH,dF]) (K6 hr) (by simp) (fun a ha=>by simp)
  obtain ⟨b1,o1,R1⟩:=row_of (k:=k) (w0:=w0) t.sl t.ln hu hx hg hlt rfl rfl
  have er:rs.getD k (0,0)=r:=by rw [List.getD,hr]; rfl
  have eu:=ai3 r.1 r.2 (A.us.getD k (0,0)).1 (A.us.getD k (0,0)).2
  obtain ⟨p0,p1,ok,e1,e2,e3,hC⟩:=eu
  cases ok with
  | false =>
   refine aiC (w0:=w0) (B0:=Sp) (B1:=Sp) (Sq:=Sp) (m:=(n:Int)) (j:=(k:Int)) (p0:=p0) (p1:=p1) (s0:=0) (s1:=0) hSp' (by simp; omega) (ag7 (aha (vs:=[.agg ⟨[num r.1,num r.2]⟩,.agg ⟨[num (A.us.getD k (0,0)).1,num (A.us.getD k (0,0)).2]⟩]) (by kernel_rfl) (u:=.tuple ⟨[.agg ⟨[num p0,num p1]⟩,.bool false]⟩) (by kernel_rfl) hC) H6) R0 R1 hown hnd s3 k3 fun a4 w4 s4 k4=>?_
   exact ah0 s4 (xG ((uo hb).trans k4))
  | true =>
   obtain ⟨rfl,rfl⟩:=e2 rfl
   obtain ⟨c0,c1,ok,f1,f2,f3,hC2⟩:=aif lo hi (mulL r.1 r.2 (A.us.getD k (0,0)).1 (A.us.getD k (0,0)).2/65536) ((wS r.1 r.2 (A.us.getD k (0,0)).1 (A.us.getD k (0,0)).2+65535)/65536)
   have hst:ahd rs A.us (k+1)=some (lo+mulL r.1 r.2 (A.us.getD k (0,0)).1 (A.us.getD k (0,0)).2/65536,hi+(wS r.1 r.2 (A.us.getD k (0,0)).1 (A.us.getD k (0,0)).2+65535)/65536):=by
    unfold ahd
    rw [hps]
    simp only [er]
    rw [←e1]
    rfl
   generalize mulL r.1 r.2 (A.us.getD k (0,0)).1 (A.us.getD k (0,0)).2/65536=p0 at *
   generalize (wS r.1 r.2 (A.us.getD k (0,0)).1 (A.us.getD k (0,0)).2+65535)/65536=p1 at *
   have q27:=fun (E:Env) (h1:eQ (fP E ⟨[],[]⟩ 5) [.agg ⟨[var 4,var 5]⟩,.agg ⟨[var 6,var 7]⟩]=some [.agg ⟨[num r.1,num r.2]⟩,.agg ⟨[num (A.us.getD k (0,0)).1,num (A.us.getD k (0,0)).2]⟩]) (h2:fP E ⟨[],[]⟩ 5 (.tuple ⟨[.agg ⟨[var 12,var 13]⟩,.bool true]⟩)=some (.tuple ⟨[.agg ⟨[num p0,num p1]⟩,.bool true]⟩))=>aha (P:=aa) h1 h2 hC
   cases ok with
   | false =>
    refine aiD (w0:=w0) (B0:=Sp) (B1:=Sp) (Sq:=Sp) (m:=(n:Int)) (j:=(k:Int)) (p0:=p0) (p1:=p1) (s0:=c0) (s1:=c1) hSp' (by simp; omega) (ag7 (q27 _ (by kernel_rfl) (by kernel_rfl)) (ag7 (aha (vs:=[.agg ⟨[num lo,num hi]⟩,.agg ⟨[num p0,num p1]⟩]) (by kernel_rfl) (u:=.tuple ⟨[.agg ⟨[num c0,num c1]⟩,.bool false]⟩) (by kernel_rfl) hC2) H6)) R0 R1 hown hnd s3 k3 fun a4 w4 s4 k4=>?_
    exact ah0 s4 (xG ((uo hb).trans k4))
   | true =>
    obtain ⟨rfl,rfl⟩:=f2 rfl
    refine aiB (w0:=w0) (B0:=Sp) (B1:=Sp) (Sq:=Sp) (m:=(n:Int)) (j:=(k:Int)) (p0:=p0) (p1:=p1) (s0:=lo+p0) (s1:=hi+p1) hSp' (by simp; omega) (ag7 (q27 _ (by kernel_rfl) (by kernel_rfl)) (ag7 (aha (vs:=[.agg ⟨[num lo,num hi]⟩,.agg ⟨[num p0,num p1]⟩]) (by kernel_rfl) (u:=.tuple ⟨[.agg ⟨[num (lo+p0),num (hi+p1)]⟩,.bool true]⟩) (by kernel_rfl) hC2) ahr)) R0 R1 hown hnd s3 k3 fun a4 w4 s4 k4=>?_
    have e9:bg.wrap ((k:Int)+1)=((k+1:Nat):Int):=by rw [dz _ (by omega)]; omega
    rw [e9] at s4
    refine ⟨⟨k+1,_,by omega,hst,s4,k4⟩,?_⟩
    simp only [hmv _ _ _ _ _ s3,hmv _ _ _ _ _ s4]
    omega
 ·have hkn':k=n:=by omega
  subst hkn'
  refine aiF (w0:=w0) (B0:=Sp) (B1:=Sp) (Sq:=Sp) (m:=(k:Int)) (j:=(k:Int)) hSp' (by simp) hown hnd s3 k3 fun a4 w4 s4 k4=>?_
  show (sR 9 (dN ajh)).wp aa _ a4 w4
  exact ahS hb (hp _ hps) hn (dP.sub s4 (fun x hx=>by simp only [ag,ae,or_false] at hx; subst hx; rfl) (fun x hx=>hx) (fun x hx=>hx) (by simp)) k4
theorem aiR {j:Int} (hb:Below w.heap.size w w0) (hn:w0.heap.size≤n19) (hs:dP (usE Sp Tt Wt false n19 j) [] [(n19,[num 0,num 0],23)] a1 w1) (hk:dO w0 [] w1) :
  (Code.block 0 (.loop (kS (dN ajh)))).wp aa (Exit.then ((sR 9 (dN ajh)).wp aa (bodyPost aa ajh (wz w))) (bodyPost aa ajh (wz w))) a1 w1:=by
 refine wp_block (wp_loop (fun a w'=>a=a1∧w'=w1) (fun _ _=>0) ⟨rfl,rfl⟩ ?_)
 rintro a3 w3 ⟨rfl,rfl⟩
 refine aiE (w0:=w0) (B0:=Sp) (B1:=Sp) (Sq:=Sp) (m:=0) (j:=j) (fun q hq=>.inr (by simp at hq; subst hq; exact hn)) (by simp) hs hk fun a4 w4 s4 k4=>?_
 show (sR 9 (dN ajh)).wp aa _ a4 w4
 exact ahS hb (Int.le_refl _) hn (dP.sub s4 (fun x hx=>by simp only [ag,ae,or_false] at hx; subst hx; rfl) (fun x hx=>hx) (fun x hx=>hx) (by simp)) k4
end Go.Proofs
end
section
namespace Go.Proofs
open Go.Sm Go.RowKit En
theorem aia (js:List JV) (mvs:List MV) (ps qs:List Int) (d i x y z:Int):(xq js mvs ps qs d i x y z).us.length=js.length∧(xq js mvs ps qs d i x y z).xs.length=js.length∧(xq js mvs ps qs d i x y z).gs.length=js.length:=by
 unfold xq yY yZ iU
 simp [ry]
variable {w:World} {a:Act} {Sp Tt:dY} {ok:Bool}
theorem aiU {w0 v0:World} {Wt:dY} {n:Nat} {A:Mx} {rs:List (Int×Int)} (hb:Below w.heap.size w w0) (hn3:n≤3) (hSp:Sp.2.1=n) (hWl:Wt.2.1=rs.length) (hrs:rs.length=n) (hW:Sl w0 Wt.1 2 (rH rs)) (t:ok=true→afo v0 w0 Tt n A) (hu:A.us.length=n) (hx:A.xs.length=n) (hg:A.gs.length=n) (hp:ok=true→∀s,ahd rs A.us n=some s→0≤s.2)
  (hs:dP (dS 113 [(12,dJ Sp),(15,dJ Tt),(16,.bool ok),(17,dJ Wt),(18,.bool true)]) [] [] a w0):(sR 6 (dN ajh)).wp aa (bodyPost aa ajh (wz w)) a w0:=by
 rw [aim]
 have hSp':(Sp.2.1:Int)=((n:Nat):Int):=by rw [hSp]
 have hWt':(Wt.2.1:Int)=((n:Nat):Int):=by rw [hWl,hrs]
 cases ok with
 | false =>
  refine aiz (w0:=w0) (B0:=Sp) (B1:=Sp) (Sq:=Sp) (m:=(n:Int)) hSp' hWt' (fun q hq=>by cases hq) (by simp) hs (dO.refl w0 _) fun a1 w1 n19 hn _ s1 k1=>?_
  refine wp_seq (ahP (w0:=w0) (B0:=Sp) (B1:=Sp) (Sq:=Sp) (fun q hq=>.inr (by simp at hq; subst hq; exact (hn _ (by simp)).1)) (by simp) s1 k1 fun a2 w2 s2 k2=>?_)
  exact aiR hb (hn _ (by simp)).1 s2 k2
 | true =>
  have t:=t rfl
  refine aiA (w0:=w0) (B0:=Sp) (B1:=Sp) (Sq:=Sp) (m:=(n:Int)) hSp' hWt' (by rw [t.ln]) (fun q hq=>by cases hq) (by simp) hs (dO.refl w0 _) fun a1 w1 n19 hn _ s1 k1=>?_
  refine wp_seq (ahP (w0:=w0) (B0:=Sp) (B1:=Sp) (Sq:=Sp) (fun q hq=>.inr (by simp at hq; subst hq; exact (hn _ (by simp)).1)) (by simp) s1 k1 fun a2 w2 s2 k2=>?_)
  exact aiQ hb (hn _ (by simp)).1 hn3 hSp hWl hrs hW t hu hx hg (hp rfl) s2 k2
variable {W:World} {B0 B1 Sq:dY} {js:List JV} {mvs:List MV} {ps qs:List Int} {n11:Nat}
theorem aiS {w1:World} {d i:Int} {a1:Act} (h:jW W [n11] B0 B1 js mvs) (hm2:mvs.length≤2) (hP:Sp.2.1=ps.length) (hQ:Sq.2.1=qs.length) (sP:Sl W Sp.1 1 (fF ps)) (sQ:Sl W Sq.1 1 (fF qs)) (ip:mi js ps) (iq:mi js qs) (xP:∀a,Sp.1=some a→fF ps≠[]→a.block∉[n11]) (xQ:∀a,Sq.1=some a→fF qs≠[]→a.block∉[n11])
  (hb:Below w.heap.size w W) (l11:n11<W.heap.size) (s1:dP (dS 113 [(11,dK n11),(12,dJ Sp),(13,dJ Sq),(15,dJ Tt),(16,.bool ok)]) [(n11,[dJ B0,dJ B1],35)] [] a1 w1) (k1:dO W [] w1) (t:ok=true→afo W w1 Tt js.length (xq js mvs ps qs d i 0 0 0)):(Code.seq (rD (dN ajh)) (sR 6 (dN ajh))).wp aa (bodyPost aa ajh (wz w)) a1 w1:=by
 have hown:∀q∈[n11]++[],q∈([n11]:List Nat)∨w1.heap.size≤q:=fun q hq=>.inl (by simpa using hq)
 have hnd:([n11]++[]:List Nat).Nodup:=by simp
 have lx:∀g∈[n11],g<W.heap.size:=fun g hg=>by simp at hg; subst hg; exact l11
 refine wp_seq (yC (by kernel_rfl) (xN 3 ?_))
 refine aix (w0:=w1) (B0:=B0) (B1:=B1) (Wt:=Sp) hown hnd s1 (dO.refl w1 _) fun a2 w2 s2 k2=>?_
 have same:∀{u v:World} {x y:Act} {us us':List (Option Value)},dP us [(n11,[dJ B0,dJ B1],35)] [] x u→dP us' [(n11,[dJ B0,dJ B1],35)] [] y v→dO u [n11] v→dO u [] v:=fun p q k=>CX k fun g hg=>by
  simp at hg; subst hg
  exact (q.gl _ aA).trans (p.gl _ aA).symm
 have k2':=same s1 s2 k2
 have F2:iV (W,[n11]) w2:=aiV (nQ (k1.trans k2')) (by simp)
 refine Xa ain s2 (vs:=[.agg ⟨[dJ B0,dJ B1]⟩,dJ Sp,dJ Sq]) (by kernel_rfl) (acF (h.fz F2) hP hQ (l8 sP F2 (kX _) xP) (l8 sQ F2 (kX _) xQ) ip iq) fun e w3 hR=>?_
 obtain ⟨hb3,Wt,rfl,hWl,hWs⟩:=hR
 refine ⟨_,rfl,?_⟩
 have kb:=uo hb3
 have s3:=yX (BF (BG s2 fun q hq=>kb.frame q (qE s2 q hq) (by simp)) 51 (.tuple ⟨[dJ Wt,.bool true]⟩))
 have s3':=dP.sub (l':=[(11,dK n11),(12,dJ Sp),(13,dJ Sq),(15,dJ Tt),(16,.bool ok),(51,.tuple ⟨[dJ Wt,.bool true]⟩)]) (gs':=[(n11,[dJ B0,dJ B1],35)]) (ls':=[]) s3 (fun x hx=>by
  simp only [ag,ae,or_false] at hx
  rcases hx with rfl | rfl | rfl | rfl | rfl | rfl<;>rfl) (fun x hx=>hx) (fun x hx=>hx) hnd
 refine y9 (aiy (w0:=w3) (B0:=B0) (B1:=B1) (fun q hq=>.inl (by simpa using hq)) hnd s3' (dO.refl w3 _) fun a4 w4 s4 k4=>?_)
 show (sR 6 (dN ajh)).wp aa _ a4 w4
 have k4':=same s3' s4 k4
 have K4:dO W [] w4:=((k1.trans k2').trans kb).trans k4'
 have hl:=aia js mvs ps qs d i 0 0 0
 refine aiU (v0:=W) (n:=js.length) (rs:=gZ js ps qs js.length) (A:=xq js mvs ps qs d i 0 0 0) (xG ((uo hb).trans K4)) h.n.2 (by rw [hP,ip.1]) hWl (acC _ _ _ _) (kI hWs k4' fun a ha=>by simp) (fun e=>(((t e).keep k2' (by simp)).keep kb (by simp)).keep k4' (by simp)) hl.1 hl.2.1 hl.2.2 (fun e s hs=>?_) (dP.sub s4 (fun x hx=>by
  simp only [ag,ae,or_false] at hx
  rcases hx with rfl | rfl | rfl | rfl | rfl<;>rfl) (fun x hx=>by cases hx) (fun x hx=>by cases hx) (by simp))
 obtain ⟨P,T,q1,q2⟩:=aje (x:=0) (y:=0) (z:=0) h.pr (fun m hm=>by
  obtain ⟨i,hi⟩:=cZ hm
  exact ⟨(h.ms i m hi).1,(h.ms i m hi).2.1⟩) (t e).fl
 exact ai9 q1 q2 hs
theorem aiT {dp ix:Int} (h:jW W [n11] B0 B1 js mvs) (hm2:mvs.length≤2) (hP:Sp.2.1=ps.length) (hQ:Sq.2.1=qs.length) (sP:Sl W Sp.1 1 (fF ps)) (sQ:Sl W Sq.1 1 (fF qs)) (ip:mi js ps) (iq:mi js qs) (xP:∀a,Sp.1=some a→fF ps≠[]→a.block∉[n11]) (xQ:∀a,Sq.1=some a→fF qs≠[]→a.block∉[n11])
  (s0:dP (dS 113 [(3,num dp),(4,num ix),(11,dK n11),(12,dJ Sp),(13,dJ Sq)]) [(n11,[dJ B0,dJ B1],35)] [] a W) (hb:Below w.heap.size w W):(sR 3 (dN ajh)).wp aa (bodyPost aa ajh (wz w)) a W:=by
 have l11:n11<W.heap.size:=qE s0 n11 (by simp)
 have hown:∀q∈[n11]++[],q∈([n11]:List Nat)∨W.heap.size≤q:=fun q hq=>.inl (by simpa using hq)
 have hnd:([n11]++[]:List Nat).Nodup:=by simp
 have q14:=ah6 dp 6 (by omega) (by omega)
 have hd:dp % 6=0∨dp % 6=1∨dp % 6=2∨dp % 6=3∨dp % 6=4∨dp % 6=5:=by omega
 generalize dp % 6=d at q14 hd
 have hp2:1≤(2:Int)^d.toNat∧(2:Int)^d.toNat≤64:=by rcases hd with rfl | rfl | rfl | rfl | rfl | rfl<;>decide
 have q14b:=ah6 ix (2^d.toNat) hp2.1 hp2.2
 have hi0:0≤ix % 2^d.toNat∧ix % 2^d.toNat<2^d.toNat:=⟨Int.emod_nonneg _ (by omega),Int.emod_lt_of_pos _ (by omega)⟩
 generalize ix % 2^d.toNat=i at q14b hi0
 have key:∀w',iV (W,[n11]) w'→Calls aa 20 #[.agg ⟨[dJ B0,dJ B1]⟩,.agg ⟨[num 0,num 0,num 0]⟩,dJ Sp,dJ Sq,num d,num i] w' (VB w' js.length (xq js mvs ps qs d i 0 0 0)):=fun w' hF =>
  GX (h.fz hF).Fq hm2 hP hQ (l8 sP hF (kX _) xP) (l8 sQ hF (kX _) xQ) ip iq (by omega) hi0 (by omega) (by omega) (by omega)
 have hl:=aia js mvs ps qs d i 0 0 0
 have main:=fun (Tt:dY) (ok:Bool) (a1:Act) (w1:World)=>aiS (w:=w) (W:=W) (w1:=w1) (a1:=a1) (Tt:=Tt) (ok:=ok) (d:=d) (i:=i) h hm2 hP hQ sP sQ ip iq xP xQ hb l11
 rw [ail]
 cases hf:(xq js mvs ps qs d i 0 0 0).fl with
 | true =>
  refine ait (w0:=W) (i:=i) hd (ag7 (aha (vs:=[num dp,num 6]) (by kernel_rfl) (by kernel_rfl) q14) (ag7 (aha (vs:=[num ix,num (2^d.toNat)]) (by kernel_rfl) (by kernel_rfl) q14b) (ag7 (fun w' hF=>⟨[.agg ⟨[dJ B0,dJ B1]⟩,.agg ⟨[num 0,num 0,num 0]⟩,dJ Sp,dJ Sq,num d,num i],by kernel_rfl,(key w' hF).mono fun e w2 hR=>⟨hR.1,_,by kernel_rfl,hR.2.1 hf⟩⟩) ahr))) hown hnd s0 (dO.refl W _) fun a1 w1 s1 k1=>?_
  exact main (none,0,0) false a1 w1 s1 (CX k1 fun g hg=>by simp at hg; subst hg; exact (s1.gl _ aA).trans (s0.gl _ aA).symm) (fun e=>by cases e)
 | false =>
 rcases (show js.length=1∨js.length=2∨js.length=3 by have:=h.n; omega) with hn | hn | hn
 ·match hA:xq js mvs ps qs d i 0 0 0,hn▸hl,hf with
  | ⟨_,[u0],[x0],[g0]⟩,_,rfl =>
   refine aiu (w0:=W) (i:=i) (u0:=u0.1) (u1:=u0.2) (u2:=x0.1) (u3:=x0.2) (u4:=g0.1) (u5:=g0.2) hd (ag7 (aha (vs:=[num dp,num 6]) (by kernel_rfl) (by kernel_rfl) q14) (ag7 (aha (vs:=[num ix,num (2^d.toNat)]) (by kernel_rfl) (by kernel_rfl) q14b) (ag7 (fun w' hF=>⟨[.agg ⟨[dJ B0,dJ B1]⟩,.agg ⟨[num 0,num 0,num 0]⟩,dJ Sp,dJ Sq,num d,num i],by kernel_rfl,(key w' hF).mono fun e w2 hR=>?_⟩) ahr))) hown hnd s0 (dO.refl W _) fun a1 w1 gu hgu nd s1 k1=>?_
   ·rw [hA,hn] at hR
    obtain ⟨gl,r1,r2,r3,r4⟩:=hR.2.2 rfl
    exact ⟨hR.1,[num u0.1,num u0.2,num x0.1,num x0.2,num g0.1,num g0.2],gl,by kernel_rfl,r1,r2,r3,r4⟩
   have s1':=dP.sub (l':=[(11,dK n11),(12,dJ Sp),(13,dJ Sq),(15,dJ (some ⟨gu,0,none⟩,1,1)),(16,.bool true)]) (gs':=[(n11,[dJ B0,dJ B1],35)]) (ls':=[]) s1 (fun x hx=>by
    simp only [ag,ae,or_false] at hx
    rcases hx with rfl | rfl | rfl | rfl | rfl<;>rfl) (fun x hx=>by simp only [ag,ae,or_false] at hx; subst hx; exact aA) (fun x hx=>by cases hx) hnd
   refine main _ true a1 w1 s1' (CX k1 fun g hg=>by simp at hg; subst hg; exact (s1'.gl _ aA).trans (s0.gl _ aA).symm) (fun _=>?_)
   rw [hA,hn]
   exact ⟨rfl,rfl,aeg (s1.gl _ (aT _ aA)),fun a ha=>by injection ha with ha; subst ha; exact (hgu _ (by simp)).1⟩
 ·match hA:xq js mvs ps qs d i 0 0 0,hn▸hl,hf with
  | ⟨_,[u0,u1],[x0,x1],[g0,g1]⟩,_,rfl =>
   refine aiv (w0:=W) (i:=i) (u0:=u0.1) (u1:=u0.2) (u2:=x0.1) (u3:=x0.2) (u4:=g0.1) (u5:=g0.2) (u6:=u1.1) (u7:=u1.2) (u8:=x1.1) (u9:=x1.2) (u10:=g1.1) (u11:=g1.2) hd (ag7 (aha (vs:=[num dp,num 6]) (by kernel_rfl) (by kernel_rfl) q14) (ag7 (aha (vs:=[num ix,num (2^d.toNat)]) (by kernel_rfl) (by kernel_rfl) q14b) (ag7 (fun w' hF=>⟨[.agg ⟨[dJ B0,dJ B1]⟩,.agg ⟨[num 0,num 0,num 0]⟩,dJ Sp,dJ Sq,num d,num i],by kernel_rfl,(key w' hF).mono fun e w2 hR=>?_⟩) ahr))) hown hnd s0 (dO.refl W _) fun a1 w1 gu hgu nd s1 k1=>?_
   ·rw [hA,hn] at hR
    obtain ⟨gl,r1,r2,r3,r4⟩:=hR.2.2 rfl
    exact ⟨hR.1,[num u0.1,num u0.2,num x0.1,num x0.2,num g0.1,num g0.2,num u1.1,num u1.2,num x1.1,num x1.2,num g1.1,num g1.2],gl,by kernel_rfl,r1,r2,r3,r4⟩
   have s1':=dP.sub (l':=[(11,dK n11),(12,dJ Sp),(13,dJ Sq),(15,dJ (some ⟨gu,0,none⟩,2,2)),(16,.bool true)]) (gs':=[(n11,[dJ B0,dJ B1],35)]) (ls':=[]) s1 (fun x hx=>by
    simp only [ag,ae,or_false] at hx
    rcases hx with rfl | rfl | rfl | rfl | rfl<;>rfl) (fun x hx=>by simp only [ag,ae,or_false] at hx; subst hx; exact aA) (fun x hx=>by cases hx) hnd
   refine main _ true a1 w1 s1' (CX k1 fun g hg=>by simp at hg; subst hg; exact (s1'.gl _ aA).trans (s0.gl _ aA).symm) (fun _=>?_)
   rw [hA,hn]
   exact ⟨rfl,rfl,aeg (s1.gl _ (aT _ aA)),fun a ha=>by injection ha with ha; subst ha; exact (hgu _ (by simp)).1⟩
 ·match hA:xq js mvs ps qs d i 0 0 0,hn▸hl,hf with
  | ⟨_,[u0,u1,u2],[x0,x1,x2],[g0,g1,g2]⟩,_,rfl =>
   refine aiw (w0:=W) (i:=i) (u0:=u0.1) (u1:=u0.2) (u2:=x0.1) (u3:=x0.2) (u4:=g0.1) (u5:=g0.2) (u6:=u1.1) (u7:=u1.2) (u8:=x1.1) (u9:=x1.2) (u10:=g1.1) (u11:=g1.2) (u12:=u2.1) (u13:=u2.2) (u14:=x2.1) (u15:=x2.2) (u16:=g2.1) (u17:=g2.2) hd (ag7 (aha (vs:=[num dp,num 6]) (by kernel_rfl) (by kernel_rfl) q14) (ag7 (aha (vs:=[num ix,num (2^d.toNat)]) (by kernel_rfl) (by kernel_rfl) q14b) (ag7 (fun w' hF=>⟨[.agg ⟨[dJ B0,dJ B1]⟩,.agg ⟨[num 0,num 0,num 0]⟩,dJ Sp,dJ Sq,num d,num i],by kernel_rfl,(key w' hF).mono fun e w2 hR=>?_⟩) ahr))) hown hnd s0 (dO.refl W _) fun a1 w1 gu hgu nd s1 k1=>?_
   ·rw [hA,hn] at hR
    obtain ⟨gl,r1,r2,r3,r4⟩:=hR.2.2 rfl
    exact ⟨hR.1,[num u0.1,num u0.2,num x0.1,num x0.2,num g0.1,num g0.2,num u1.1,num u1.2,num x1.1,num x1.2,num g1.1,num g1.2,num u2.1,num u2.2,num x2.1,num x2.2,num g2.1,num g2.2],gl,by kernel_rfl,r1,r2,r3,r4⟩
   have s1':=dP.sub (l':=[(11,dK n11),(12,dJ Sp),(13,dJ Sq),(15,dJ (some ⟨gu,0,none⟩,3,3)),(16,.bool true)]) (gs':=[(n11,[dJ B0,dJ B1],35)]) (ls':=[]) s1 (fun x hx=>by
    simp only [ag,ae,or_false] at hx
    rcases hx with rfl | rfl | rfl | rfl | rfl<;>rfl) (fun x hx=>by simp only [ag,ae,or_false] at hx; subst hx; exact aA) (fun x hx=>by cases hx) hnd
   refine main _ true a1 w1 s1' (CX k1 fun g hg=>by simp at hg; subst hg; exact (s1'.gl _ aA).trans (s0.gl _ aA).symm) (fun _=>?_)
   rw [hA,hn]
   exact ⟨rfl,rfl,aeg (s1.gl _ (aT _ aA)),fun a ha=>by injection ha with ha; subst ha; exact (hgu _ (by simp)).1⟩
end Go.Proofs
end
section
namespace Go.Proofs.En
open Go.RowKit
theorem Yv:(aa.info? 80).map (fun i=>(i.zero,i.size,i.bytes))=some (some (.agg #[.string ⟨#[]⟩,.int .i64 0,.int .i64 0,.int .i64 0,.int .i64 0,.int .i64 0,.int .i64 0,.int .i64 0,.int .i64 0,.int .i64 0,.int .i64 0,.int .i64 0]),12,104):=by kernel_rfl
theorem Yu:(aa.info? 54).map (fun i=>(i.zero,i.size,i.bytes))=some (some (.agg #[.int .i64 0,.int .i64 0,.int .i64 0,.int .i64 0,.int .i64 0]),5,40):=by kernel_rfl
theorem Yt:(aa.info? 2).map (fun i=>(i.zero,i.size,i.bytes))=some (some (.int .i64 0),1,8):=by kernel_rfl
theorem aek:aa.underlying 32=some (.slice 80):=by kernel_rfl
theorem ael:aa.underlying 33=some (.slice 54):=by kernel_rfl
theorem Md:aa.underlying 37=some (.slice 2):=by kernel_rfl
theorem Dg (W:World) (l:List Value) (t:TypeId):∀(j:Nat) (u:Value),l[j]?=some u→(W.alloc (.cells l.toArray t)).cell? ((⟨W.heap.size,0,none⟩:Addr).add j)=some u:=by
 intro j u hu
 have:=(Row.new W l t).c j u hu
 rw [←this]
 congr 1
 unfold Addr.add
 split<;>simp_all
theorem YW (j:JV):∀u∈j.vals,u.oneCell'=true:=by
 intro u hu
 simp [JV.vals] at hu
 rcases hu with rfl | rfl | rfl | rfl | rfl | rfl | rfl | rfl | rfl | rfl | rfl | rfl<;>rfl
theorem ZM (j:MV):∀u∈j.vals,u.oneCell'=true:=by
 intro u hu
 simp [MV.vals] at hu
 rcases hu with rfl | rfl | rfl | rfl | rfl<;>rfl
theorem Zx (n:Nat) (a b c d:Int) (h1:0≤a∧a<n) (h2:0≤b∧b<9000) (h3:-3≤c∧c≤3) (h4:-2≤d∧d≤2):kK n ⟨a,bg.wrap (1+b),bg.wrap (c*32768),0,bg.wrap (d*32768)⟩=true:=by
 rw [dz _ (by omega),dz _ (by omega),dz _ (by omega)]
 simp [kK,lv,wD,AJ]; omega
variable {n:Nat}
theorem Zz {ms:List MV} {m:MV} (h:∀(k:Nat) (m:MV),ms[k]?=some m→kK n m=true) (hm:kK n m=true):∀(k:Nat) (m':MV),(ms++[m])[k]?=some m'→kK n m'=true:=by
 intro k m' hk
 have:=aN hk
 simp at this
 rcases this with h1 | rfl
 ·obtain ⟨i,hi⟩:=cZ h1
  exact h i _ hi
 ·exact hm
theorem agS {W:World} {base size cap m:Nat} {e:TypeId} {oa:Option Addr} {xs:List Value} (h:W.ownsRow base e size (.slice oa n cap) m xs):n≤cap∧(oa=none→cap=0):=by
 rcases h.2 with ⟨h1,_⟩ | ⟨g,cap',cur,h1,_,_,h2,_⟩
 ·injection h1 with h1 h3 h4
  exact ⟨by omega,fun _=>h4⟩
 ·injection h1 with h1 h3 h4
  subst h1 h3 h4
  exact ⟨h2,fun e=>by cases e⟩
def Vz (w:World) (nS:Nat) (e:Ending) (W':World):Prop:=∃js ms oa cj om cm,e=.returned (.agg #[.slice oa (ae1 js) cj,.slice om (ae1 ms) cm])∧(∀W'',(∀g,w.heap.size≤g→g<W'.heap.size→W''.heap[g]?=W'.heap[g]?)→Cf js ms oa om W'')∧w.grownBy W' (some nS)∧(ms.length≤cm∧(om=none→cm=0))
set_option maxRecDepth 100000 in
theorem ac2 (w:World) (nS:Nat) (os:Option Addr) (cap:Nat) (xs:List Int) (hS:Src w nS os cap xs) :
  Calls aa 36 #[.pointer (some ⟨nS,0,none⟩)] w (Vz w nS):=by
 go_enter Tryz.func36,Tryz.ntmps36
 go_wp2_with fail
 have hR:RB w nS w.heap.size (w.heap.size+1) os cap xs [] [] (.slice none 0 0) (.slice none 0 0) ((w.alloc (.cells #[.slice none 0 0,.slice none 0 0] 35)).alloc (.cells #[.slice none 0 0,.slice none 0 0] 35)):=by
  have hb1:Below w.heap.size w (w.alloc (.cells #[.slice none 0 0,.slice none 0 0] 35)):=(aI _ _).alloc (au _) _
  have hb2:Below (w.alloc (.cells #[.slice none 0 0,.slice none 0 0] 35)).heap.size (w.alloc (.cells #[.slice none 0 0,.slice none 0 0] 35)) ((w.alloc (.cells #[.slice none 0 0,.slice none 0 0] 35)).alloc (.cells #[.slice none 0 0,.slice none 0 0] 35)):=(aI _ _).alloc (au _) _
  have e:(w.alloc (.cells #[.slice none 0 0,.slice none 0 0] 35)).heap.size=w.heap.size+1:=by simp
  have B2:=eG.new (w.alloc (.cells #[.slice none 0 0,.slice none 0 0] 35)) [.slice none 0 0,.slice none 0 0] 35
  rw [e] at B2
  exact ⟨zy (jD hb1 hb2),(hS.yl hb1).yl hb2,⟨_,_,(eG.new w [.slice none 0 0,.slice none 0 0] 35).keep hb2⟩,B2,World.ownsRow_nil _ _ _ _,World.ownsRow_nil _ _ _ _,(fun g h=>by cases h),by simp,(fun k j h=>by simp at h),hS.ints,GM hS,au _,Nat.lt_succ_self _⟩
 generalize ((w.alloc (.cells #[.slice none 0 0,.slice none 0 0] 35)).alloc (.cells #[.slice none 0 0,.slice none 0 0] 35))=W0 at hR ⊢
 generalize hn2:w.heap.size=n2 at hR ⊢
 generalize hn3:n2+1=n3 at hR ⊢
 have HN2:=aG hn2
 clear hn2 hn3
 refine (oQ _ nS os cap xs 3 hR.src (by omega) (by omega)).mono ?_
 rintro e W1 ⟨r,r1,r2,rfl,hg1,hS1⟩
 replace hR:=hR.call hg1 hS1
 clear hg1 hS1 hS
 have hn1:1≤1+r∧1+r≤3:=by omega
 go_wp2_with fail
 generalize 1+r=n at hn1 ⊢
 clear r1 r2
 go_loopw [5] (fun i W=>∃js v,i=.int .i64 (ae1 js:Nat)∧(js.length:Int)≤n∧RB w nS n2 n3 os cap xs js [] v (.slice none 0 0) W) (fun i _=>(n - intOf i).toNat)
 case atStart=>exact ⟨[],_,rfl,by simp; omega,hR⟩
 case round =>
  clear hR
  obtain ⟨js,v,rfl,hk,hR⟩:=hrel
  by_cases hlt:(js.length:Int)<n
  ·obtain ⟨i0,hi,hz0,hz1,hz2⟩:=info_parts Yv
   go_upto_block 1 with fail
   go_cut [] (fun W=>∃j v',RB w nS n2 n3 os cap xs (js++[j]) [] v' (.slice none 0 0) W)
   case first =>
    have c0:wr.cell? ⟨n3,0,none⟩=some v:=hR.b3.c 0 _ rfl
    have f0:=hR.b3.f 0
    have l3:=hR.b3.lt
    go_wp2_with fail
    have hS0:Src wr.drew nS os cap xs:=hR.src.yl (aI _ _).drew
    have hk3:(js.length:Int)≤3:=by omega
    go_region_law (first
     | (refine step_append_lies _ rfl (.tmp 16) (.tmp 20) 32 rfl (n3+1) 80 i0 _ 12 104 aek hi hz0 hz1 hz2 rfl (by decide) v js.length (AV js) (by simp [Act.eval]) HA.out.oj ⟨W2.heap.size,0,none⟩ 1 1 j.vals (by simp [Act.eval]) rfl (Dg _ _ _) (YW j) (by decide) (by unfold maxLen; omega) (by omega) HA.out.hb _ rfl ?_; intro g c W3 hown hgrow hat hlt3; have hB3:=HA.out.b3.low (Nat.lt_succ_self _) (yh HA.out.oj hgrow HA.out.hb); have c04:=hB3.c 0 _ rfl; have f04:=hB3.f 0; have HO:=aG hown; clear hown)
     | (go_simp; go_at_call 61; refine (YG _ nS os cap xs _ hS0 (by omega) hk3).mono ?_; rintro e W2 ⟨j,hGj,he,hg2,hS2⟩; replace he:e=.returned (.agg #[.string j.name,.int .i64 j.kind,.int .i64 j.parent,.int .i64 j.o0,.int .i64 j.o1,.int .i64 j.o2,.int .i64 j.lo,.int .i64 j.hi,.int .i64 j.weight,.int .i64 j.speed,.int .i64 j.iL,.int .i64 j.iO]):=he; subst he; have HR2:=aG ((hR.gW (aI _ _).drew).call hg2 hS2); have c02:=HR2.out.b3.c 0 _ rfl; have HA:=aG (HR2.out.gW (W':=W2.alloc (.cells #[.string j.name,.int .i64 j.kind,.int .i64 j.parent,.int .i64 j.o0,.int .i64 j.o1,.int .i64 j.o2,.int .i64 j.lo,.int .i64 j.hi,.int .i64 j.weight,.int .i64 j.speed,.int .i64 j.iL,.int .i64 j.iO] 80)) ((aI _ _).alloc (au _) _)); have c03:=HA.out.b3.c 0 _ rfl))
    all_goals
     go_wp2_with fail
     go_meet
     exact ⟨j,_,HA.out.appJ j hGj g c HO.out hgrow hat⟩
   case rest =>
    clear hR
    obtain ⟨j,v',hR⟩:=hcut
    go_wp2
    go_roundw
    case rel=>exact ⟨js++[j],v',by simp,by simp; omega,hR⟩
    case measure=>simp [intOf]; omega
  ·have hle:n=(js.length:Int):=by omega
   go_wp2_with fail
   refine (oQ _ nS os cap xs 3 hR.src (by omega) (by omega)).mono ?_
   rintro e W2 ⟨q,q1,q2,rfl,hg2,hS2⟩
   replace hR:=hR.call hg2 hS2
   clear hg2 hS2
   have hjl:1≤js.length∧js.length≤3:=by omega
   clear hk hlt
   go_wp2_with fail
   go_loopw [6] (fun i W=>∃(k:Int) (ms:List MV) (u:Value),i=.int .i64 k∧0≤k∧(ms.length:Int)+k≤2∧(∀(k:Nat) (m:MV),ms[k]?=some m→kK js.length m=true)∧RB w nS n2 n3 os cap xs js ms v u W) (fun i _=>(intOf i).toNat)
   case atStart=>exact ⟨q,[],_,rfl,q1,by simp; omega,by simp,hR⟩
   case round =>
    clear hR q1 q2
    obtain ⟨k,ms,u,rfl,hk0,hk,hgm,hR⟩:=hrel
    have HGM:=aG hgm
    clear hgm
    by_cases hlt:0<k
    ·obtain ⟨i0,hi,hz0,hz1,hz2⟩:=info_parts Yu
     go_upto_block 3 with fail
     go_cut [] (fun W=>∃m u',kK js.length m=true∧RB w nS n2 n3 os cap xs js (ms++[m]) v u' W)
     case first =>
      have c0:wr.cell? ⟨n3,1,none⟩=some u:=hR.b3.c 1 _ rfl
      have f0:=hR.b3.f 1
      have l3:=hR.b3.lt
      have hS0:Src wr.drew nS os cap xs:=hR.src.yl (aI _ _).drew
      go_wp2_with fail
      go_region_law (first
       | (have hxx:=HA; clear hxx; refine step_append_lies _ rfl (.tmp 30) (.tmp 45) 33 rfl (n3+1) 54 i0 _ 5 40 ael hi hz0 hz1 hz2 rfl (by decide) u ms.length (Bc ms) (by simp [Act.eval]) HA.out.om ⟨V4.heap.size,0,none⟩ 1 1 (MV.vals ⟨a1,bg.wrap (1+a2),bg.wrap (a3*32768),0,bg.wrap (a4*32768)⟩) (by simp [Act.eval]) rfl (Dg _ _ _) (ZM _) (by decide) (by unfold maxLen; omega) (by omega) HA.out.hb _ rfl ?_; intro g c W3 hown hgrow hat hlt3; have hB3:=HA.out.b3.low (Nat.lt_succ_self _) (yh HA.out.om hgrow HA.out.hb); have c04:=hB3.c 1 _ rfl; have f04:=hB3.f 1; have HO:=aG hown; clear hown)
       | (have hxx:=hS3; clear hxx; go_simp; go_at_call 62; refine (GG _ nS os cap xs 2 hS3 (by omega) (by omega)).mono ?_; rintro e V4 ⟨a4,a41,a42,rfl,hg4,hS4⟩; have HR4:=aG (HR3.out.call hg4 hS4); clear hg4; have c14:=HR4.out.b3.c 1 _ rfl; have HA:=aG (HR4.out.gW (W':=V4.alloc (.cells #[.int .i64 a1,.int .i64 (bg.wrap (1+a2)),.int .i64 (bg.wrap (a3*32768)),.int .i64 0,.int .i64 (bg.wrap (a4*32768))] 54)) ((aI _ _).alloc (au _) _)); have c15:=HA.out.b3.c 1 _ rfl)
       | (have hxx:=hS2; clear hxx; go_simp; go_at_call 62; refine (GG _ nS os cap xs 3 hS2 (by omega) (by omega)).mono ?_; rintro e V3 ⟨a3,a31,a32,rfl,hg3,hS3⟩; have HR3:=aG (HR2.out.call hg3 hS3); clear hg3; have c13:=HR3.out.b3.c 1 _ rfl)
       | (have hxx:=hS1; clear hxx; go_simp; go_at_call 38; refine (oQ _ nS os cap xs 9000 hS1 (by omega) (by omega)).mono ?_; rintro e V2 ⟨a2,a21,a22,rfl,hg2,hS2⟩; have HR2:=aG (HR1.out.call hg2 hS2); clear hg2; have c12:=HR2.out.b3.c 1 _ rfl)
       | (go_simp; go_at_call 38; refine (oQ _ nS os cap xs js.length hS0 (by omega) (by omega)).mono ?_; rintro e V1 ⟨a1,a11,a12,rfl,hg1,hS1⟩; have HR1:=aG ((hR.gW (aI _ _).drew).call hg1 hS1); clear hg1; have c11:=HR1.out.b3.c 1 _ rfl))
      all_goals
       go_wp2_with fail
       go_meet
       exact ⟨_,_,Zx _ a1 a2 a3 a4 ⟨a11,a12⟩ ⟨a21,a22⟩ ⟨a31,a32⟩ ⟨a41,a42⟩,HA.out.VK _ g c HO.out hgrow hat⟩
     case rest =>
      clear hR
      obtain ⟨m,u',hm,hR⟩:=hcut
      go_wp2
      go_roundw
      case rel=>exact ⟨k - 1,ms++[m],u',by simp,by omega,by simp; omega,Zz HGM.out hm,hR⟩
      case measure=>simp [intOf]; omega
    ·obtain ⟨oa,cj,om,cm,rfl,rfl,s1,s2⟩:=hR.done
     obtain ⟨x,y,hb2⟩:=hR.b2
     have d0:=hR.b3.c 0 _ rfl
     have d1:=hR.b3.c 1 _ rfl
     have e0:=hb2.c 0 _ rfl
     have e1:=hb2.c 1 _ rfl
     have f0:=hb2.f 0
     have f1:=hb2.f 1
     have l2:=hb2.lt
     have l3:=hR.b3.lt
     have HC:=aG (agS hR.om)
     have HR:=aG hR
     have HS1:=aG s1
     have HS2:=aG s2
     clear hR s1 s2 hb2
     go_wp2_with fail
     have hF:=HR.out.acy (.slice oa js.length cj) (.slice om ms.length cm)
     refine bodyPost_ret (v:=.agg #[.slice oa js.length cj,.slice om ms.length cm]) (by simp [results,Tryz.results36,go_sem,e0,e1]) rfl ⟨js,ms,oa,cj,om,cm,rfl,?_,hF.gr,HC.out⟩
     intro W'' hag
     obtain ⟨oa',cj',om',cm',q1,q2,s1,s2⟩:=QG hF hag
     injection q1 with q1 _ q1'
     injection q2 with q2 _ q2'
     subst q1 q2
     exact ⟨hjl,by omega,hF.gj,HGM.out,s1,s2⟩
end Go.Proofs.En
end
section
namespace Go.Proofs.En
open Go.RowKit
def Vv (w:World) (e:Ending) (W':World):Prop:=∃js ms oa cj om cm,e=.returned (.agg #[.slice oa (ae1 js) cj,.slice om (ae1 ms) cm])∧Cf js ms oa om W'∧Below w.heap.size w W'
def age (w:World) (e:Ending) (W':World):Prop:=∃js ms oa cj om cm,e=.returned (.agg #[.slice oa (ae1 js) cj,.slice om (ae1 ms) cm])∧Cf js ms oa om W'∧Below w.heap.size w W'∧(ms.length≤cm∧(om=none→cm=0))
theorem UB (w:World) (os:Option Addr) (cap:Nat) (xs:List Int) (hI:Sl w os 1 (fF xs)) (hl:xs.length≤9223372036854775807):Src (w.alloc (.cells #[.slice os xs.length cap,.int .i64 0] 120)) w.heap.size os cap xs:=by
 refine ⟨⟨0,by omega,iw.new w _ _ 120⟩,hI.keep ((aI _ _).alloc (au _) _),?_,hl⟩
 intro hne b o s e
 obtain ⟨b',off',e',hr⟩:=hI (by intro h; exact hne (by simpa [fF] using h))
 rw [e] at e'
 injection e' with e'
 injection e' with e' _ _
 have:=hr.lt
 omega
theorem agP (w:World) (os:Option Addr) (cap:Nat) (xs:List Int) (hI:Sl w os 1 (fF xs)) (hl:xs.length≤9223372036854775807) :
  Calls aa 17 #[.slice os xs.length cap] w (age w):=by
 go_enter Tryz.func17,Tryz.ntmps17
 go_wp2_with fail
 have hB0:Below w.heap.size w (w.alloc (.cells #[.slice none 0 0,.slice none 0 0] 35)):=(aI _ _).alloc (au _) _
 have b0:=eG.new w [.slice none 0 0,.slice none 0 0] 35
 have hI0:=hI.keep hB0
 generalize (w.alloc (.cells #[.slice none 0 0,.slice none 0 0] 35))=W0 at hB0 b0 hI0 ⊢
 generalize hn:w.heap.size=n2 at b0 ⊢
 have HN:=aG hn
 clear hn
 refine (O8 os cap xs.length W0).mono ?_
 rintro e W1 ⟨rfl,rfl⟩
 have hS:=UB W0 os cap xs hI0 hl
 have hB1:Below W0.heap.size W0 (W0.alloc (.cells #[.slice os xs.length cap,.int .i64 0] 120)):=(aI _ _).alloc (au _) _
 have b1:=b0.keep hB1
 have hne:n2≠W0.heap.size:=Nat.ne_of_lt b0.lt
 have hn2:n2<(W0.alloc (.cells #[.slice os xs.length cap,.int .i64 0] 120)).heap.size:=b1.lt
 have hwS:w.heap.size≤W0.heap.size:=hB0.size
 have HB1:=aG (jD hB0 hB1)
 clear hB0 hB1 b0
 generalize (W0.alloc (.cells #[.slice os xs.length cap,.int .i64 0] 120))=W1 at hS b1 HB1 hn2 ⊢
 generalize W0.heap.size=nS at hS hne hwS ⊢
 go_wp2_with fail
 refine (ac2 W1 nS os cap xs hS).mono ?_
 rintro e W2 ⟨js,ms,oa,cj,om,cm,rfl,hP,hg,hcap⟩
 have HCP:=aG hcap
 clear hcap
 have b2:=b1.rF hg hne
 have hB2:Below w.heap.size w W2:=⟨hg.os.trans HB1.out.os,hg.tape.trans HB1.out.tape,hg.output.trans HB1.out.output,aZ HB1.out.size hg.size,fun k hk=>(hg.block k (aC hk HB1.out.size) (fun e=>by injection e; omega)).trans (HB1.out.block k hk)⟩
 have e0:=b2.c 0 _ rfl
 have e1:=b2.c 1 _ rfl
 have f0:=b2.f 0
 have f1:=b2.f 1
 have l2:=b2.lt
 have HP:=aG hP
 have HB2:=aG hB2
 clear hP hB2 b1 b2 hg HB1
 go_wp2_with fail
 have hBF:Below w.heap.size w ((W2.setCell ⟨n2,0,none⟩ (.slice oa js.length cj)).setCell ⟨n2,1,none⟩ (.slice om ms.length cm)):=(HB2.out.setCell (p:=⟨n2,0,none⟩) (Nat.le_of_eq HN.out) _).setCell (p:=⟨n2,1,none⟩) (Nat.le_of_eq HN.out) _
 refine bodyPost_ret (v:=.agg #[.slice oa js.length cj,.slice om ms.length cm]) (by simp [results,Tryz.results17,go_sem,e0,e1]) rfl ⟨js,ms,oa,cj,om,cm,rfl,HP.out _ ?_,hBF,HCP.out⟩
 intro g h1 h2
 exact (ae0 _ ⟨n2,1,none⟩ _ g (show g≠n2 by omega)).trans (ae0 _ ⟨n2,0,none⟩ _ g (show g≠n2 by omega))
theorem ZF (w:World) (os:Option Addr) (cap:Nat) (xs:List Int) (hI:Sl w os 1 (fF xs)) (hl:xs.length≤9223372036854775807) :
  Calls aa 17 #[.slice os xs.length cap] w (Vv w) :=
 (agP w os cap xs hI hl).mono fun _ _ ⟨js,ms,oa,cj,om,cm,h1,h2,h3,_⟩=>⟨js,ms,oa,cj,om,cm,h1,h2,h3⟩
end Go.Proofs.En
end
section
namespace Go.Proofs.En
open Go.RowKit
def Dl (ps:List Int):List Value:=ps.map fun p=>.int .i64 p
theorem FV (ps:List Int):(fF ps).flatten=Dl ps:=by
 induction ps with
 | nil=>rfl
 | cons a t ih=>simp only [fF,Dl,dI,List.flatten_cons] at ih ⊢; rw [ih]; rfl
theorem QX (ps:List Int):(fF ps).length=ps.length:=by simp [fF]
def AQ (js:List JV) (ps:List Int):Prop:=∀(k:Nat) (j:JV) (p:Int),js[k]?=some j→ps[k]?=some p→j.lo≤p∧p≤j.hi
variable {js:List JV} {ps:List Int} {j:JV} {p:Int}
theorem Ym (h:AQ js ps) (hj:js[ps.length]?=some j) (hp:j.lo≤p∧p≤j.hi):AQ js (ps++[p]):=by
 intro k j' p' h1 h2
 rcases cu k ps.length with hlt | hge
 ·rw [aH hlt] at h2
  exact h k j' p' h1 h2
 ·rw [bu hge] at h2
  have:k=ps.length:=by
   rcases Nat.eq_or_lt_of_le hge with h | h
   ·exact h.symm
   ·rw [bQ (by simp; omega)] at h2; cases h2
  subst this
  simp at h2
  subst h2
  rw [hj] at h1
  injection h1 with h1
  subst h1
  exact hp
structure CI (w Wb:World) (n2 nS:Nat) (rv:List Value) (os:Option Addr) (cap:Nat) (xs:List Int) (js:List JV) (ps:List Int) (v:Value) (W:World):Prop where
 gW:Below w.heap.size w W
 r2:Row W n2 rv
 src:Src W nS os cap xs
 own:W.ownsRow Wb.heap.size 2 1 v ps.length (Dl ps)
 hb:Wb.heap.size≤W.heap.size
 i0:Sl Wb os 1 (fF xs)
 h2:w.heap.size≤n2
 h3:n2<nS
 h4:nS<Wb.heap.size
 EP:AQ js ps
variable {w Wb W W':World} {n2 nS cap:Nat} {rv:List Value} {os:Option Addr} {xs:List Int} {v:Value}
theorem CI.call (h:CI w Wb n2 nS rv os cap xs js ps v W) (hg:W.grownBy W' (some nS)) (hS:Src W' nS os cap xs):CI w Wb n2 nS rv os cap xs js ps v W':=by
 have h2:=h.h2; have h3:=h.h3; have h4:=h.h4
 have ne:∀k,k≠nS→k<W.heap.size→W'.heap[k]?=W.heap[k]?:=fun k hk hl=>hg.block k hl (fun e=>hk (by injection e))
 refine ⟨⟨hg.os.trans h.gW.os,hg.tape.trans h.gW.tape,hg.output.trans h.gW.output,aZ h.gW.size hg.size,fun k hk=>(ne k (by omega) (aC hk h.gW.size)).trans (h.gW.block k hk)⟩,?_,hS,uY h.own fun g _ hl hb=>ne g (by omega) hl,aZ h.hb hg.size,h.i0,h2,h3,h4,h.EP⟩
 have e:=ne n2 (by omega) h.r2.lt
 refine ⟨fun j v hj=>?_,aC h.r2.lt hg.size⟩
 rw [←h.r2.c j v hj]
 simp [bS,e]
theorem CI.keep {w Wb W W':World} {n2 nS:Nat} {rv:List Value} {os:Option Addr} {cap:Nat} {xs:List Int} {js:List JV} {ps:List Int} {v:Value} (h:CI w Wb n2 nS rv os cap xs js ps v W) (hb:Below W.heap.size W W'):CI w Wb n2 nS rv os cap xs js ps v W' :=
 ⟨jD h.gW hb,h.r2.keep hb,h.src.yl hb,yx h.own hb,aZ h.hb hb.size,h.i0,h.h2,h.h3,h.h4,h.EP⟩
theorem CI.app {W1:World} {v':Value} (h:CI w Wb n2 nS rv os cap xs js ps v W) (hj:js[ps.length]?=some j) (hp:j.lo≤p∧p≤j.hi)
  (ho:W1.ownsRow Wb.heap.size 2 1 v' (ps.length+1) (Dl ps++[.int .i64 p])) (hg:W.grownBy W1 v.ownBlock):CI w Wb n2 nS rv os cap xs js (ps++[p]) v' W1:=by
 have h2:=h.h2; have h3:=h.h3; have h4:=h.h4
 have B:=yh h.own hg h.hb
 refine ⟨h.gW.trans (B.mono (by omega)),h.r2.low (by omega) B,h.src.low h.i0 h4 B,?_,aZ h.hb hg.size,h.i0,h2,h3,h4,Ym h.EP hj hp⟩
 rw [afa,Dl,List.map_append]
 exact ho
theorem CI.done (h:CI w Wb n2 nS rv os cap xs js ps v W):∃oa c,v=.slice oa ps.length c∧Sl W oa 1 (fF ps):=by
 obtain ⟨oa,c,e,s⟩:=KM (rows:=fF ps) (n:=1) (by intro r hr; simp [fF] at hr; obtain ⟨j,_,rfl⟩:=hr; rfl) (by rw [QX,FV]; exact h.own)
 rw [QX] at e
 exact ⟨oa,c,e,s⟩
def Vq (js:List JV) (w:World) (e:Ending) (W':World):Prop:=∃(ps:List Int) (oa:Option Addr) (c:Nat),e=.returned (.slice oa ps.length c)∧ps.length=js.length∧AQ js ps∧Sl W' oa 1 (fF ps)∧Below w.heap.size w W'
def agd (js:List JV) (w:World) (e:Ending) (W':World):Prop:=∃(ps:List Int) (oa:Option Addr) (c:Nat),e=.returned (.slice oa ps.length c)∧ps.length=js.length∧AQ js ps∧Sl W' oa 1 (fF ps)∧Below w.heap.size w W'∧∀a,oa=some a→w.heap.size≤a.block
theorem agT {base size n m:Nat} {e:TypeId} {oa:Option Addr} {xs:List Value} (h:W.ownsRow base e size (.slice oa n cap) m xs):∀a,oa=some a→base≤a.block:=fun a ha=>by
 rcases h.2 with ⟨h1,_⟩ | ⟨g,cap',cur,h1,h2,_⟩
 ·injection h1 with h1
  rw [h1] at ha; cases ha
 ·injection h1 with h1
  rw [h1] at ha; injection ha with ha; subst ha; exact h2
set_option maxRecDepth 100000 in
theorem afU (oa om os:Option Addr) (cj cm cap:Nat) (js:List JV) (nm:Nat) (xs:List Int) (w:World) (hj:js.length≤100) (hbd:∀(k:Nat) (j:JV),js[k]?=some j→-1000000000≤j.lo∧j.lo≤j.hi∧j.hi≤1000000000) (hJ:Sl w oa 12 (js.map JV.vals)) (hI:Sl w os 1 (fF xs)) (hl:xs.length≤9223372036854775807) :
  Calls aa 18 #[.agg #[.slice oa js.length cj,.slice om nm cm],.slice os xs.length cap] w (agd js w):=by
 go_enter Tryz.func18,Tryz.ntmps18
 go_wp2_with fail
 have hB0:Below w.heap.size w (w.alloc (.cells #[.slice oa js.length cj,.slice om nm cm] 35)):=(aI _ _).alloc (au _) _
 have r0:=Row.new w [.slice oa js.length cj,.slice om nm cm] 35
 have hI0:=hI.keep hB0
 generalize (w.alloc (.cells #[.slice oa js.length cj,.slice om nm cm] 35))=W0 at hB0 r0 hI0 ⊢
 generalize hn:w.heap.size=n2 at r0 ⊢
 have HN:=aG hn
 clear hn
 refine (O8 os cap xs.length W0).mono ?_
 rintro e W1 ⟨rfl,rfl⟩
 have hS:=UB W0 os cap xs hI0 hl
 have hB1:Below W0.heap.size W0 (W0.alloc (.cells #[.slice os xs.length cap,.int .i64 0] 120)):=(aI _ _).alloc (au _) _
 have hC:CI w (W0.alloc (.cells #[.slice os xs.length cap,.int .i64 0] 120)) n2 W0.heap.size [.slice oa js.length cj,.slice om nm cm] os cap xs js [] (.slice none 0 0) (W0.alloc (.cells #[.slice os xs.length cap,.int .i64 0] 120)) :=
  ⟨jD hB0 hB1,r0.keep hB1,hS,World.ownsRow_nil _ _ _ _,au _,hI0.keep hB1,Nat.le_of_eq HN.out,r0.lt,GM hS,fun k j p _ h=>by simp at h⟩
 clear hB0 hB1 hS r0 hI0 HN hI
 generalize (W0.alloc (.cells #[.slice os xs.length cap,.int .i64 0] 120))=W1 at hC ⊢
 generalize W0.heap.size=nS at hC ⊢
 have HBD:=aG hbd
 clear hbd
 go_wp2_with fail
 go_loopw [6,7] (fun v i W=>∃ps:List Int,ps.length≤js.length∧i=.int .i64 (ps.length:Nat)∧CI w W1 n2 nS [.slice oa js.length cj,.slice om nm cm] os cap xs js ps v W) (fun _ i _=>js.length - (intOf i).toNat)
 case atStart=>exact ⟨[],by simp,rfl,hC⟩
 case round =>
  clear hC
  obtain ⟨ps,hk,rfl,hC⟩:=hrel
  have s0:wr.cell? ⟨n2,0,none⟩=some (.slice oa js.length cj):=hC.r2.c 0 _ rfl
  have l2:=hC.r2.lt
  by_cases hlt:ps.length<js.length
  ·obtain ⟨j,hj'⟩:∃j,js[ps.length]?=some j:=⟨_,ah hlt⟩
   obtain ⟨b,off,rfl,hJr⟩:=(hJ.keep hC.gW) (AX hlt)
   have x6:wr.cell? ⟨b,off+ps.length*12+6,none⟩=some (.int .i64 j.lo):=hJr.c ps.length _ (Ba hj') 6 _ rfl
   have x7:wr.cell? ⟨b,off+ps.length*12+7,none⟩=some (.int .i64 j.hi):=hJr.c ps.length _ (Ba hj') 7 _ rfl
   have lb:=hJr.lt
   have hbj:=HBD.out _ _ hj'
   have HJ':=aG hj'
   clear hj' hJr
   go_wp2_with fail
   go_quiet (fail)
   replace hC:=hC.keep (vG wr nq)
   clear s0 l2 x6 x7 lb
   generalize wr.drewN nq=V at hC ⊢
   go_wp2_with fail
   refine (oQ _ nS os cap xs 6 hC.src (by omega) (by omega)).mono ?_
   rintro e W2 ⟨q,q1,q2,rfl,hg2,hS2⟩
   replace hC:=hC.call hg2 hS2
   clear hg2 hS2
   obtain ⟨i0,hi,hz0,hz1,hz2⟩:=info_parts Yt
   by_cases h0:q=0
   ·have h0':(q==0)=true:=by rw [h0]; rfl
    clear h0
    have HC2:=aG (hC.keep (W':=W2.alloc (.cells #[.int .i64 j.lo] 2)) ((aI _ _).alloc (au _) _))
    go_wp2_with (at_builtin; refine wpList_append_own _ rfl _ _ 37 rfl W1.heap.size 2 i0 (.int .i64 0) 1 8 Md hi hz0 hz1 hz2 rfl (by decide) _ _ _ rfl HC2.out.own ⟨W2.heap.size,0,none⟩ 1 1 [.int .i64 j.lo] rfl rfl ?c1 ?c2 ?c3 ?c4 ?c5 ?_)
    case c1=>exact Dg _ _ _
    case c2=>intro u hu; simp at hu; subst hu; rfl
    case c3=>unfold maxLen; omega
    case c4=>omega
    case c5=>exact HC2.out.hb
    intro v' w' hown' hgrow _
    have HN:=aG (HC2.out.app HJ'.out (p:=j.lo) (by omega) hown' hgrow)
    clear hown' hgrow HC2 hC hi hz0 hz1 hz2
    go_wp2
    go_roundw
    case rel=>exact ⟨ps++[j.lo],by simp; omega,by simp,HN.out⟩
    case measure=>simp [intOf]; omega
   ·have h0':(q==0)=false:=beq_eq_false_iff_ne.2 h0
    by_cases h1:q=1
    ·have h1':(q==1)=true:=by rw [h1]; rfl
     clear h1 h0
     have HC2:=aG (hC.keep (W':=W2.alloc (.cells #[.int .i64 j.hi] 2)) ((aI _ _).alloc (au _) _))
     go_wp2_with (at_builtin; refine wpList_append_own _ rfl _ _ 37 rfl W1.heap.size 2 i0 (.int .i64 0) 1 8 Md hi hz0 hz1 hz2 rfl (by decide) _ _ _ rfl HC2.out.own ⟨W2.heap.size,0,none⟩ 1 1 [.int .i64 j.hi] rfl rfl ?c1 ?c2 ?c3 ?c4 ?c5 ?_)
     case c1=>exact Dg _ _ _
     case c2=>intro u hu; simp at hu; subst hu; rfl
     case c3=>unfold maxLen; omega
     case c4=>omega
     case c5=>exact HC2.out.hb
     intro v' w' hown' hgrow _
     have HN:=aG (HC2.out.app HJ'.out (p:=j.hi) (by omega) hown' hgrow)
     clear hown' hgrow HC2 hC hi hz0 hz1 hz2
     go_wp2
     go_roundw
     case rel=>exact ⟨ps++[j.hi],by simp; omega,by simp,HN.out⟩
     case measure=>simp [intOf]; omega
    ·have h1':(q==1)=false:=beq_eq_false_iff_ne.2 h1
     go_wp2_with fail
     refine (oQ _ nS os cap xs _ hC.src (by omega) (by omega)).mono ?_
     rintro e W3 ⟨z,z1,z2,rfl,hg3,hS3⟩
     replace hC:=hC.call hg3 hS3
     clear hg3 hS3
     have HC2:=aG (hC.keep (W':=W3.alloc (.cells #[.int .i64 (j.lo+z)] 2)) ((aI _ _).alloc (au _) _))
     go_wp2_with (at_builtin; refine wpList_append_own _ rfl _ _ 37 rfl W1.heap.size 2 i0 (.int .i64 0) 1 8 Md hi hz0 hz1 hz2 rfl (by decide) _ _ _ rfl HC2.out.own ⟨W3.heap.size,0,none⟩ 1 1 [.int .i64 (j.lo+z)] rfl rfl ?c1 ?c2 ?c3 ?c4 ?c5 ?_)
     case c1=>exact Dg _ _ _
     case c2=>intro u hu; simp at hu; subst hu; rfl
     case c3=>unfold maxLen; omega
     case c4=>omega
     case c5=>exact HC2.out.hb
     intro v' w' hown' hgrow _
     have HN:=aG (HC2.out.app HJ'.out (p:=j.lo+z) (by omega) hown' hgrow)
     clear hown' hgrow HC2 hC hi hz0 hz1 hz2
     go_wp2
     go_roundw
     case rel=>exact ⟨ps++[j.lo+z],by simp; omega,by simp,HN.out⟩
     case measure=>simp [intOf]; omega
  ·have hke:ps.length=js.length:=by omega
   obtain ⟨oa',c',rfl,hs⟩:=hC.done
   have HS:=aG hs
   have HC:=aG hC
   have HK:=aG hke
   clear hC hs hke
   go_wp2
   go_ret
   exact ⟨ps,oa',c',rfl,HK.out,HC.out.EP,HS.out,HC.out.gW,fun a ha=>by have:=agT HC.out.own a ha; have:=HC.out.h2; have:=HC.out.h3; have:=HC.out.h4; omega⟩
theorem Nl (oa om os:Option Addr) (cj cm cap:Nat) (js:List JV) (nm:Nat) (xs:List Int) (w:World) (hj:js.length≤100) (hbd:∀(k:Nat) (j:JV),js[k]?=some j→-1000000000≤j.lo∧j.lo≤j.hi∧j.hi≤1000000000) (hJ:Sl w oa 12 (js.map JV.vals)) (hI:Sl w os 1 (fF xs)) (hl:xs.length≤9223372036854775807) :
  Calls aa 18 #[.agg #[.slice oa js.length cj,.slice om nm cm],.slice os xs.length cap] w (Vq js w) :=
 (afU oa om os cj cm cap js nm xs w hj hbd hJ hI hl).mono fun _ _ ⟨ps,o,c,h1,h2,h3,h4,h5,_⟩=>⟨ps,o,c,h1,h2,h3,h4,h5⟩
end Go.Proofs.En
end
section
namespace Go.Proofs.En
open Go.RowKit
theorem Kr:vV (nm 0)=true∧vV (nm 1)=true∧vV (nm 2)=true:=⟨by kernel_rfl,by kernel_rfl,by kernel_rfl⟩
theorem Kq:rq (nm 0) (nm 1)=false∧rq (nm 0) (nm 2)=false∧rq (nm 1) (nm 2)=false:=⟨by kernel_rfl,by kernel_rfl,by kernel_rfl⟩
theorem ZQ (k:Nat) (h:k<3):vV (nm k)=true:=by
 rcases (show k=0∨k=1∨k=2 by omega) with rfl | rfl | rfl
 ·exact Kr.1
 ·exact Kr.2.1
 ·exact Kr.2.2
theorem XE (i k:Nat) (h:i<k) (hk:k<3):rq (nm i) (nm k)=false:=by
 rcases (show (i=0∧k=1)∨(i=0∧k=2)∨(i=1∧k=2) by omega) with ⟨rfl,rfl⟩ | ⟨rfl,rfl⟩ | ⟨rfl,rfl⟩
 ·exact Kq.1
 ·exact Kq.2.1
 ·exact Kq.2.2
theorem ac1 {js:List JV} {ms:List MV} {oa om:Option Addr} {W:World} (h:Cf js ms oa om W):yu js ms:=by
 obtain ⟨⟨h1,h2⟩,h3,hj,hm,_,_⟩:=h
 refine ⟨⟨by omega,by omega⟩,fun k j hk=>?_,by omega,hm⟩
 have hlt:k<js.length:=by
  rcases cu k js.length with h | h
  ·exact h
  ·rw [bQ h] at hk; cases hk
 have g:=hj k j hk
 have hf:findF js j.name=k:=by
  refine OO hk (XF _) fun i j' hi hj'=>?_
  rw [(hj i j' hj').name,g.name]
  exact XE i k hi (by omega)
 have hn:vV j.name=true:=by rw [g.name]; exact ZQ k (by omega)
 have hk':=g.kind; have hp:=g.parent; have ho:=g.off; have hl:=g.lim; have hw:=g.weight; have hs:=g.speed; have ha:=g.iL; have ht:=g.iO
 have hb:wD j.o0 j.o1 j.o2=false:=by simp [wD,AJ]; omega
 have f1:lv j.weight 1024=true:=by simp [lv]; omega
 have f2:lv j.speed 1048576=true:=by simp [lv]; omega
 have f3:lv j.iL 1048576=true:=by simp [lv]; omega
 have f4:lv j.iO 1099511627776=true:=by simp [lv]; omega
 unfold qY
 rw [hn,hf,hb,f1,f2,f3,f4,if_neg (by simp),if_neg (by omega),if_neg (by omega),if_neg (by simp),if_neg (by omega),if_neg (by simp)]
end Go.Proofs.En
end
section
namespace Go.Proofs.En
open Go.RowKit
variable {W:World}
theorem ac0 {js:List JV} {ms:List MV} {oa om:Option Addr} (h:Cf js ms oa om W):∀(k:Nat) (j:JV),js[k]?=some j→-1000000000≤j.lo∧j.lo≤j.hi∧j.hi≤1000000000:=by
 intro k j hk
 have:=(h.2.2.1 k j hk).lim
 have:=EX j.kind
 omega
theorem CU {V W':World} {n6 n13:Nat} {a b c d:Value} (l6:n6<V.heap.size) (l13:n13<V.heap.size) (h:W.cell? ⟨n6,0,none⟩=some a∧W.cell? ⟨n6,1,none⟩=some b∧W.cell? ⟨n13,0,none⟩=some c∧W.cell? ⟨n13,1,none⟩=some d∧Below V.heap.size V W) (hb:Below W.heap.size W W') :
  W'.cell? ⟨n6,0,none⟩=some a∧W'.cell? ⟨n6,1,none⟩=some b∧W'.cell? ⟨n13,0,none⟩=some c∧W'.cell? ⟨n13,1,none⟩=some d∧Below V.heap.size V W':=by
 have h6:=aC l6 h.2.2.2.2.size
 have h13:=aC l13 h.2.2.2.2.size
 exact ⟨(hb.cell (p:=⟨n6,0,none⟩) h6).trans h.1,(hb.cell (p:=⟨n6,1,none⟩) h6).trans h.2.1,(hb.cell (p:=⟨n13,0,none⟩) h13).trans h.2.2.1,(hb.cell (p:=⟨n13,1,none⟩) h13).trans h.2.2.2.1,jD h.2.2.2.2 hb⟩
end Go.Proofs.En
end
section
namespace Go.Proofs.En
open Go.RowKit Go.Sm
variable {W:World} {n13:Nat}
theorem JN {p q r p' q' r'} {e:TypeId} (hblk:W.heap[n13]?=some (.cells #[.slice p q r,.slice p' q' r'] e (0,0))) {oa:Option Addr} {sz:Nat} {rows:List (List Value)} (h:Sl W oa sz rows) {l:List Value} {k:Nat} {t:IntKind} {i:Int} (h0:rows[0]?=some l) (h1:l[k]?=some (.int t i)):∀a,oa=some a→a.block∉[n13]∧a.block<W.heap.size:=fun a ha=>by
 obtain ⟨b,off,e1,hR⟩:=h (fun e2=>by rw [e2] at h0; cases h0)
 rw [ha] at e1
 injection e1 with e1
 subst e1
 refine ⟨fun hm=>?_,hR.lt⟩
 simp only [ag,ae,or_false] at hm
 subst hm
 have:=hR.c 0 l h0 k _ h1
 simp only [bS,hblk] at this
 generalize off+(0*sz+k)=j at this
 match j,this with
 | 0,this=>simp at this
 | 1,this=>simp at this
 | j+2,this=>simp at this
theorem Pv {V W':World} {c d:Value} (l13:n13<V.heap.size) (h:W.cell? ⟨n13,0,none⟩=some c∧W.cell? ⟨n13,1,none⟩=some d∧Below V.heap.size V W) (hb:Below W.heap.size W W') :
  W'.cell? ⟨n13,0,none⟩=some c∧W'.cell? ⟨n13,1,none⟩=some d∧Below V.heap.size V W':=by
 have h13:=aC l13 h.2.2.size
 exact ⟨(hb.cell (p:=⟨n13,0,none⟩) h13).trans h.1,(hb.cell (p:=⟨n13,1,none⟩) h13).trans h.2.1,jD h.2.2 hb⟩
end Go.Proofs.En
end
section
namespace Go.Proofs.En
open Go.RowKit Go.Sm
theorem aiO {w W W1:World} {ra rm ok1 ok2:Option Addr} {rc rd kc1 kc2 n13:Nat} {jr:List JV} {mr:List MV} {ks1 ks2:List Int} {x y:Int} {c:Code} {a:Act} (hc:c=(sR 3 (dN ajh))) (hR:Cf jr mr ra rm W1) (hRJ:Sl W ra 12 (jr.map JV.vals)) (hRM:Sl W rm 5 (mr.map MV.vals)) (hi1:AQ jr ks1) (hi2:AQ jr ks2) (he1:ks1.length=jr.length) (he2:ks2.length=jr.length) (k1:Sl W ok1 1 (fF ks1)) (k2:Sl W ok2 1 (fF ks2))
  (hblk:W.heap[n13]?=some (.cells #[.slice ra jr.length rc,.slice rm mr.length rd] 35 (0,0))) (hb:Below w.heap.size w W) (hd:a.defers=[]) (hz:a.tmps.size=113) (hf:∀p∈([(3,num x),(4,num y),(11,dK n13),(12,.slice ok1 ks1.length kc1),(13,.slice ok2 ks2.length kc2)]:List (Nat×Value)),a.tmps[p.1]?=some p.2) :
  c.wp aa (bodyPost aa ajh (wz w)) a W:=by
 subst hc
 have hs:dP (dS 113 [(3,num x),(4,num y),(11,dK n13),(12,dJ (ok1,ks1.length,kc1)),(13,dJ (ok2,ks2.length,kc2))]) [(n13,[dJ (ra,jr.length,rc),dJ (rm,mr.length,rd)],35)] [] a W:=by
  refine ⟨hd,by rw [hz]; simp [dS],fun t u e=>?_,fun q hq=>?_,(fun q hq=>by cases hq),by simp⟩
  ·simp only [dS,bY,aR] at e
   obtain ⟨q,q1,q2⟩:=e
   obtain ⟨hlt,hq⟩:=ai.1 q1
   simp only [List.getElem_range] at hq
   subst hq
   exact hf _ (Kb q2)
  ·simp only [ag,ae,or_false] at hq
   subst hq
   exact hblk
 have hn:=hR.1
 have xK:∀{ks:List Int} {o:Option Addr},Sl W o 1 (fF ks)→∀a,o=some a→fF ks≠[]→a.block∉[n13]:=fun {ks o} h a ha h0=>by
  match ks,h,h0 with
  | [],_,h0=>exact absurd rfl h0
  | k::ks,h,_=>exact (JN hblk h (l:=[.int .i64 k]) (k:=0) rfl rfl a ha).1
 have hRo:jW W [n13] (ra,jr.length,rc) (rm,mr.length,rd) jr mr :=
  {
   n:=hn,m:=by have:=hR.2.1; omega,b0:=rfl,b1:=rfl,sB:=hRJ,sM:=hRM
   xB:=fun a ha=>by
    match jr,hn,hRJ with
    | [],hn,_=>simp at hn
    | j::jr,_,hRJ=>exact JN hblk hRJ (l:=j.vals) (k:=1) rfl rfl a ha
   xM:=fun a ha h0=>by
    match mr,h0,hRM with
    | [],h0,_=>exact absurd rfl h0
    | m::mr,_,hRM=>exact JN hblk hRM (l:=m.vals) (k:=0) rfl rfl a ha
   ok:=ac1 hR
   pr:=fun i j hj=>by have:=(hR.2.2.1 i j hj).parent; omega
   kd:=fun i j hj=>by have:=(hR.2.2.1 i j hj).kind; omega
   ms:=fun i m hm=>by
    have:=hR.2.2.2.1 i m hm
    simp only [kK,lv,aQ,decide_eq_true_eq] at this
    omega }
 exact aiT hRo hR.2.1 rfl rfl k1 k2 ⟨he1.symm,hi1⟩ ⟨he2.symm,hi2⟩ (xK k1) (xK k2) hs hb
set_option maxRecDepth 100000 in
theorem aiP (ol oc od:Option Addr) (cl cc cd:Nat) (ls us bs:List Int) (x y:Int) (w:World) (hll:ls.length≤9223372036854775807) (hla:us.length≤9223372036854775807) (hlb:bs.length≤9223372036854775807)
  (hL:Sl w ol 1 (fF ls)) (hA:Sl w oc 1 (fF us)) (hB:Sl w od 1 (fF bs)) :
  Calls aa 10 #[.slice ol ls.length cl,.slice oc us.length cc,.slice od bs.length cd,.int .i64 x,.int .i64 y] w (wz w):=by
 go_enter Tryz.func10,Tryz.ntmps10
 go_wp2_with fail
 refine (ZF w ol cl ls hL hll).mono ?_
 rintro e W1 ⟨jr,mr,ra,rc,rm,rd,rfl,hR,hb1⟩
 go_wp2_with fail
 have hbA:Below W1.heap.size W1 (W1.alloc (.cells #[.slice ra jr.length rc,.slice rm mr.length rd] 35)):=(aI _ _).alloc (au _) _
 have r13:=Row.new W1 [.slice ra jr.length rc,.slice rm mr.length rd] 35
 have hBlk:=(MapKept.heap_alloc W1 (.cells #[.slice ra jr.length rc,.slice rm mr.length rd] 35)).1
 have hge:w.heap.size≤W1.heap.size:=hb1.size
 have HV:=aG (jD hb1 hbA)
 have HR:=aG hR
 have HRJ:=aG (hR.2.2.2.2.1.keep hbA)
 have HRM:=aG (hR.2.2.2.2.2.keep hbA)
 have HBD:=aG (ac0 hR)
 have HL1:=aG hR.1
 have HL2:=aG hR.2.1
 have HA:=aG (hA.keep HV.out)
 have HBB:=aG (hB.keep HV.out)
 clear hbA hR hb1 hL hA hB
 generalize (W1.alloc (.cells #[.slice ra jr.length rc,.slice rm mr.length rd] 35))=V at r13 hBlk HV HRJ HRM HA HBB ⊢
 generalize W1.heap.size=n13 at r13 hBlk hge ⊢
 have s2:V.cell? ⟨n13,0,none⟩=some (.slice ra jr.length rc):=r13.c 0 _ rfl
 have s3:V.cell? ⟨n13,1,none⟩=some (.slice rm mr.length rd):=r13.c 1 _ rfl
 have l13:=r13.lt
 clear r13
 have jl:jr.length≤100:=by have:=HL1.out; omega
 go_region_held3 (fun W=>W.cell? ⟨n13,0,none⟩=some (.slice ra jr.length rc)∧W.cell? ⟨n13,1,none⟩=some (.slice rm mr.length rd)∧Below V.heap.size V W)
  (first | exact Pv l13 ⟨s2,s3,aI _ _⟩ (aI _ _).drew | exact Pv l13 (by assumption) (by assumption))
  (first
   | (have hxx:=HB3; clear hxx; go_at_call 18; refine (Nl _ _ _ _ _ _ jr mr.length bs _ jl HBD.out (HRJ.out.keep HB3.out) (HBB.out.keep HB3.out) hlb).mono ?_; rintro e X4 ⟨ks2,ok2,kc2,rfl,kl2,ki2,kS2,hb4⟩; have HB4:=aG (jD HB3.out hb4); have HK2:=aG kS2; have HK1':=aG (HK1.out.keep hb4); have HI2:=aG ki2; have HE2:=aG kl2; clear kl2 kS2 ki2)
   | (go_at_call 18; refine (Nl _ _ _ _ _ _ jr mr.length us _ jl HBD.out (HRJ.out.keep (aI _ _).drew) (HA.out.keep (aI _ _).drew) hla).mono ?_; rintro e X3 ⟨ks1,ok1,kc1,rfl,kl1,ki1,kS1,hb3⟩; have HB3:=aG (jD (aI _ _).drew hb3); have HK1:=aG kS1; have HI1:=aG ki1; have HE1:=aG kl1; clear kl1 kS1 ki1))
 rename_i K hK hHeld
 refine hK _ _ ?_
 refine aiO (x:=x) (y:=y) (kc1:=kc1) (kc2:=kc2) (rc:=rc) (rd:=rd) (by kernel_rfl) HR.out (HRJ.out.keep HB4.out) (HRM.out.keep HB4.out) HI1.out HI2.out HE1.out HE2.out HK1'.out HK2.out ((HB4.out.block _ l13).trans hBlk) (jD HV.out HB4.out) rfl rfl (fun p hp=>?_)
 ·simp only [ag,ae,or_false] at hp
  rcases hp with rfl | rfl | rfl | rfl | rfl<;>rfl
end Go.Proofs.En
end
section
namespace Go.Proofs.En
open Go.RowKit
theorem Pw {A:Type} (P:Nat→A→Prop):∀n:Nat,(∀i,i<n→∃r,P i r)→∃rs:List A,rs.length=n∧∀(i:Nat) (r:A),rs[i]?=some r→P i r
 | 0,_=>⟨[],rfl,fun i r h=>by simp at h⟩
 | n+1,h=>by
  obtain ⟨rs,hl,hr⟩:=Pw P n fun i hi=>h i (by omega)
  obtain ⟨r,hp⟩:=h n (by omega)
  refine ⟨rs++[r],by simp [hl],fun i r' hi=>?_⟩
  rcases cu i rs.length with hlt | hge
  ·rw [aH hlt] at hi
   exact hr i r' hi
  ·rw [bu hge] at hi
   have:i=n:=by
    rcases Nat.eq_or_lt_of_le hge with h | h
    ·omega
    ·rw [bQ (by simp; omega)] at hi; cases hi
   subst this
   have e:i - rs.length=0:=by omega
   rw [e] at hi
   simp at hi
   subst hi
   exact hp
variable {w:World} {base fuel:Nat} {spare:Nat→Bool} {held:Bool} {t e:TypeId} {v:Value}
theorem aa0 {H:Type} {enc:TypeId×Value→H} {P:Program} {A:Type} (f:A→List Value) {n:Nat} {x:DataW H×List MemPlace} (ht:P.underlying t=some (.slice e)) (hc:P.cellsOf e=n) (hn:0<n)
  (hrow:∀(m:Nat) (cs:List Value) (y:DataW H×List MemPlace),DataW.trod enc P w base spare held m e cs=some y→∃r:A,cs=f r)
  (h:DataW.trod enc P w base spare held fuel t [v]=some x):∃(oa:Option Addr) (cap:Nat) (rs:List A),v=.slice oa rs.length cap∧rs.length≤9223372036854775807∧Sl w oa n (rs.map f):=by
 rcases Go.Deep.open_slice ht h with ⟨h0,_⟩ | ⟨a,len,cap,m,k,D,Pl,h1,hb,hl,hm,hmm,_,hx⟩
 ·injection h0 with h0 _
  subst h0
  exact ⟨none,0,[],rfl,by simp,fun h=>absurd rfl h⟩
 ·injection h1 with h1 _
  subst h1
  have hlm:len≤m:=by rw [hmm]; split<;>omega
  obtain ⟨rs,hrl,hr⟩:=Pw (fun i r=>w.cells? base (a.add (i*n)) n=some (f r)) len (fun i hi=>by
   obtain ⟨cs,c1,c2⟩:=hx i (by omega)
   rw [hc] at c1
   obtain ⟨r,rfl⟩:=hrow _ _ _ c2
   exact ⟨r,c1⟩)
  subst hrl
  refine ⟨some a,cap,rs,rfl,by unfold maxLen at hm; omega,fun hne=>?_⟩
  have hne':rs≠[]:=fun h=>hne (by simp [h])
  have cell:∀(i:Nat) (r:A),rs[i]?=some r→∀q u,(f r)[q]?=some u→w.cell? ((a.add (i*n)).add q)=some u:=by
   intro i r hi q u hq
   obtain ⟨_,c2,c3⟩:=World.cells?_some (hr i r hi)
   have hqn:q<n:=by
    rcases cu q (f r).length with h' | h'
    ·omega
    ·rw [bQ h'] at hq; cases hq
   rw [c3 q hqn,hq]
  have sp:a.spot=none:=by
   cases rs with
   | nil=>exact absurd rfl hne'
   | cons r0 rt =>
    obtain ⟨_,c2,c3⟩:=World.cells?_some (hr 0 r0 rfl)
    have c4:=c3 0 hn
    have:(f r0)[0]?=some ((f r0)[0]'(by omega)):=ah _
    rw [this] at c4
    cases hs:a.spot with
    | none=>rfl
    | some s =>
     exfalso
     have e0:((a.add (0*n)).add 0)=a:=by simp [Addr.add]
     rw [e0] at c4
     unfold bS at c4
     rw [hs] at c4
     revert c4
     cases w.heap[a.block]? with
     | none=>simp
     | some o=>cases o<;>simp
  obtain ⟨b,off,sp'⟩:=a
  simp at sp
  subst sp
  refine ⟨b,off,rfl,?_,fun i r hi q u hq=>?_⟩
  ·cases rs with
   | nil=>exact absurd rfl hne'
   | cons r0 rt =>
    obtain ⟨_,c2,c3⟩:=World.cells?_some (hr 0 r0 rfl)
    have c4:=c3 0 hn
    have:(f r0)[0]?=some ((f r0)[0]'(by omega)):=ah _
    rw [this] at c4
    rcases cu b w.heap.size with h' | h'
    ·exact h'
    ·exfalso
     have e0:(((⟨b,off,none⟩:Addr).add (0*n)).add 0)=⟨b,off,none⟩:=by simp [Addr.add]
     rw [e0] at c4
     simp [bS,afc h'] at c4
  ·rw [bY] at hi
   cases hri:rs[i]? with
   | none=>rw [hri] at hi; cases hi
   | some r' =>
    rw [hri] at hi
    simp at hi
    subst hi
    rw [←cell i r' hri q u hq]
    congr 1
    simp only [Addr.add]
    split<;>split<;>simp_all<;>omega
theorem ac7 {H:Type} {enc:TypeId×Value→H} (e:TypeId) (hu:aa.underlying e=some (.int .i64)) (m:Nat) (cs:List Value) (y:DataW H×List MemPlace) (h:DataW.trod enc aa w base spare held m e cs=some y):∃r:Int,cs=[.int .i64 r]:=by
 obtain ⟨n,rfl,_⟩:=DataW.trod_int hu h
 exact ⟨n,rfl⟩
theorem Io:aa.cellsOf 3=1:=by kernel_rfl
theorem KH {H:Type} {enc:TypeId×Value→H} {x:DataW H×List MemPlace} (ht:aa.underlying t=some (.slice e)) (hu:aa.underlying e=some (.int .i64)) (hc:aa.cellsOf e=1)
  (h:DataW.trod enc aa w base spare held fuel t [v]=some x):∃(oa:Option Addr) (cap:Nat) (rs:List Int),v=.slice oa rs.length cap∧rs.length≤9223372036854775807∧Sl w oa 1 (fF rs) :=
 aa0 (fun p:Int=>[.int .i64 p]) ht hc (by omega) (ac7 e hu) h
theorem laidOut:laidOutB aa=true:=by kernel_rfl
end Go.Proofs.En
end
