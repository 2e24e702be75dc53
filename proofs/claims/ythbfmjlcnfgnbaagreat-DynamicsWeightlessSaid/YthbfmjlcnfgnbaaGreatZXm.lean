/-
  Part of the proof: see the last text.
-/
import Derived.Test.YthbfmjlcnfgnbaaGreatZXk
set_option linter.unusedVariables false
set_option maxHeartbeats 8000000
open Array renaming getElem?_eq_some_iff→aB,replicate→dn
open Go.IntKind renaming i64→bg
open Go.IntWalk renaming i64_in→dz
open List renaming getD_cons_succ→bZ,getD_cons_zero→bN,getElem?_append_left→aH,getElem?_eq_some_iff→ai,getElem?_map→bY,length_cons→dB,length_map→dF,mem_cons→ag,mem_cons_of_mem→aT,mem_cons_self→aA,mem_map→aeZ,not_mem_nil→ae,replicate→az
open Nat renaming beq→ay,eq_of_beq_eq_true→bf,lt_of_lt_of_le→aC,succ_pos→aO
open Option renaming map_eq_some_iff→aR
open Option.some renaming injEq→ak
open Go.Proofs.Tryz renaming f20→aY,prog→aa
open Go.World renaming cell?→bS
section
namespace Go.Proofs
open Go.Sm Go.RowKit En
set_option maxHeartbeats 8000000
def lI (w0:World) (ex:List Nat) (b:Nat) (vs:List Value):Prop:=(b<w0.heap.size∧b∉ex)∧tV w0 (b,0,vs)
variable {w0 w:World} {a:Act} {B0 B1 Sp Sq:dY} {x y z d i:Int} {Q:Exit→Act→World→Prop} {D:Code}
theorem adY {X W A M:dY} {f:Bool}
  (hown:∀q∈[]++[],q∈([]:List Nat)∨w0.heap.size≤q) (hnd:([]++[]:List Nat).Nodup) (h:dP (dS 133 [(0,.agg ⟨[dJ B0,dJ B1]⟩),(1,.agg ⟨[num (x),num (y),num (z)]⟩),(2,dJ Sp),(3,dJ Sq),(4,num (d)),(5,num (i))]) [] [] a w) (hk:dO w0 [] w)
  (hQ:∀(a':Act) (w':World) (nr ng:Nat),(∀q∈([nr,ng]:List Nat),w.heap.size≤q∧q<w'.heap.size)→([]++[]++[]++[nr,ng]:List Nat).Nodup→dP (dS 133 [(2,dJ Sp),(3,dJ Sq),(4,num (d)),(5,num (i)),(6,dK nr),(7,dK ng)]) [] [(nr,[dJ B0,dJ B1],35),(ng,[num (x),num (y),num (z)],40)] a' w'→dO w0 [] w'→D.wp aa Q a' w'):(fB [(dZ (dN aY))] D).wp aa Q a w:=by
 refine xI ([x,y,z,d,i]) ([f]) [B0,B1,Sp,Sq,X,W,A,M] (w0:=w0) (ex:=[]) (g:=[]) (wt:=[]) (lt:=[]) (t:={}) (ws:=[]) (fr:=fK 133 [(0,.agg ⟨[dM 0,dM 1]⟩),(1,.agg ⟨(vs 0 3)⟩),(2,dM 2),(3,dM 3),(4,var 3),(5,var 4)]) (H:=[]) (lo:=[]) (wb:=[]) (us':=fun gn nl=>dS 133 [(2,dJ Sp),(3,dJ Sq),(4,num (d)),(5,num (i)),(6,dK (nl.getD 0 0)),(7,dK (nl.getD 1 0))]) (gs':=fun gn nl=>[]) (ls':=fun gn nl=>[((nl.getD 0 0),[dJ B0,dJ B1],35),((nl.getD 1 0),[num (x),num (y),num (z)],40)]) 20 _ [] [0,1] [] [6,7] (fun gn nl e1 e2=>?_) (by kernel_rfl) (fun gn nl e1 e2 e3=>?_) ⟨ed _,jo,all_nil,(by exact hown),kF,fun _=>⟨all_nil,all_nil,all_nil⟩⟩ h hk (fun a' w' gn nl e1 e2 e3 e4 hs hk'=>?_)
 ·match gn,nl,e1,e2 with
  | [],[nr,ng],_,_=>show (_:Option _)=_; kernel_rfl
 ·match gn,nl,e1,e2 with
  | [],[nr,ng],_,_=>exact oP e3
 ·match gn,nl,e1,e2 with
  | [],[nr,ng],_,_ =>
   simp only [bN,bZ] at hs
   exact hQ a' w' nr ng (fun q hq=>e4 q hq) e3 hs hk'
variable {nr ng:Nat}
theorem adZ {X W A M:dY} {f:Bool} {nc:Nat}  (hr0:lI w0 [] nr [dJ B0,dJ B1]) (hr1:lI w0 [] ng [num (x),num (y),num (z)])
  (hown:∀q∈[]++[],q∈([]:List Nat)∨w0.heap.size≤q) (hnd:([]++[]:List Nat).Nodup) (h:dP (dS 133 [(2,dJ Sp),(3,dJ Sq),(4,num (d)),(5,num (i)),(6,dK nr),(7,dK ng)]) [] [] a w) (hk:dO w0 [] w)
  (hQ:∀a' w',dP (dS 133 [(2,dJ Sp),(3,dJ Sq),(4,num (d)),(5,num (i)),(6,dK nr),(7,dK ng),(30,dJ Sp),(31,dJ Sq),(32,num (d)),(33,num (i))]) [] [] a' w'→dO w0 [] w'→wpList aa (opsOf (jM (dN aY))).toArray Q ((opsOf (jM (dN aY))).drop 4) a' w'):wpList aa (opsOf (jM (dN aY))).toArray Q ((opsOf (jM (dN aY))).take 4++((opsOf (jM (dN aY))).drop 4)) a w:=by
 refine uw ([x,y,z,d,i]) ([f]) [B0,B1,Sp,Sq,X,W,A,M] (ops:=opsOf (jM (dN aY))) (o1:=(opsOf (jM (dN aY))).take 4) (tail:=((opsOf (jM (dN aY))).drop 4)) (w0:=w0) (ex:=[]) (g:=[]) (wt:=[]) (lt:=[]) (t:={}) (ws:=[(nr,0,[dJ B0,dJ B1]),(ng,0,[num (x),num (y),num (z)])]) (fr:=fK 133 [(2,dM 2),(3,dM 3),(4,var 3),(5,var 4),(6,.pointer (some ⟨0,0,some 0⟩)),(7,.pointer (some ⟨1,0,some 0⟩))]) (H:=[]) (lo:=[]) (wb:=[dU [dM 0,dM 1],dU (vs 0 3)])  (by kernel_rfl) [] [] (by kernel_rfl) (by kernel_rfl) (by exact hnd) ⟨ed _,jo,dR hr0<|dR hr1<|all_nil,(by exact hown),kF,fun _=>⟨all_nil,all_nil,all_nil⟩⟩ h hk hQ
variable {X:dY}
theorem ad1 {W A M:dY} {f:Bool} {nc:Nat}  (hr0:lI w0 [] nr [dJ B0,dJ B1]) (hr1:lI w0 [] ng [num (x),num (y),num (z)])
  (hown:∀q∈[]++[],q∈([]:List Nat)∨w0.heap.size≤q) (hnd:([]++[]:List Nat).Nodup) (h:dP (dS 133 [(2,dJ Sp),(3,dJ Sq),(4,num (d)),(5,num (i)),(6,dK nr),(7,dK ng),(34,.tuple ⟨[dJ X,.bool true]⟩)]) [] [] a w) (hk:dO w0 [] w)
  (hQ:∀a' w',dP (dS 133 [(2,dJ Sp),(3,dJ Sq),(4,num (d)),(5,num (i)),(6,dK nr),(7,dK ng),(14,dJ X),(15,.bool true)]) [] [] a' w'→dO w0 [] w'→wpList aa (opsOf (jM (dN aY))).toArray Q ([]) a' w'):wpList aa (opsOf (jM (dN aY))).toArray Q ((opsOf (jM (dN aY))).drop 5++([])) a w:=by
 refine uw ([x,y,z,d,i]) ([f]) [B0,B1,Sp,Sq,X,W,A,M] (ops:=opsOf (jM (dN aY))) (o1:=(opsOf (jM (dN aY))).drop 5) (tail:=([])) (w0:=w0) (ex:=[]) (g:=[]) (wt:=[]) (lt:=[]) (t:={}) (ws:=[(nr,0,[dJ B0,dJ B1]),(ng,0,[num (x),num (y),num (z)])]) (fr:=fK 133 [(2,dM 2),(3,dM 3),(4,var 3),(5,var 4),(6,.pointer (some ⟨0,0,some 0⟩)),(7,.pointer (some ⟨1,0,some 0⟩)),(34,.tuple ⟨[dM 4,.bool true]⟩)]) (H:=[]) (lo:=[]) (wb:=[dU [dM 0,dM 1],dU (vs 0 3)])  (by kernel_rfl) [] [] (by kernel_rfl) (by kernel_rfl) (by exact hnd) ⟨ed _,jo,dR hr0<|dR hr1<|all_nil,(by exact hown),kF,fun _=>⟨all_nil,all_nil,all_nil⟩⟩ h hk hQ
theorem ad2 {W A M:dY} {f:Bool} {nc:Nat}  (hr0:lI w0 [] nr [dJ B0,dJ B1]) (hr1:lI w0 [] ng [num (x),num (y),num (z)])
  (hown:∀q∈[]++[],q∈([]:List Nat)∨w0.heap.size≤q) (hnd:([]++[]:List Nat).Nodup) (h:dP (dS 133 [(2,dJ Sp),(3,dJ Sq),(4,num (d)),(5,num (i)),(6,dK nr),(7,dK ng),(14,dJ X),(15,.bool true)]) [] [] a w) (hk:dO w0 [] w)
  (hQ:∀a' w',dP (dS 133 [(2,dJ Sp),(3,dJ Sq),(4,num (d)),(5,num (i)),(6,dK nr),(7,dK ng),(14,dJ X),(15,.bool true),(38,.agg ⟨[dJ B0,dJ B1]⟩),(39,dJ Sp),(40,dJ Sq)]) [] [] a' w'→dO w0 [] w'→wpList aa (opsOf (jK (dN aY))).toArray Q ((opsOf (jK (dN aY))).drop 3) a' w'):wpList aa (opsOf (jK (dN aY))).toArray Q ((opsOf (jK (dN aY))).take 3++((opsOf (jK (dN aY))).drop 3)) a w:=by
 refine uw ([x,y,z,d,i]) ([f]) [B0,B1,Sp,Sq,X,W,A,M] (ops:=opsOf (jK (dN aY))) (o1:=(opsOf (jK (dN aY))).take 3) (tail:=((opsOf (jK (dN aY))).drop 3)) (w0:=w0) (ex:=[]) (g:=[]) (wt:=[]) (lt:=[]) (t:={}) (ws:=[(nr,0,[dJ B0,dJ B1]),(ng,0,[num (x),num (y),num (z)])]) (fr:=fK 133 [(2,dM 2),(3,dM 3),(4,var 3),(5,var 4),(6,.pointer (some ⟨0,0,some 0⟩)),(7,.pointer (some ⟨1,0,some 0⟩)),(14,dM 4),(15,.bool true)]) (H:=[]) (lo:=[]) (wb:=[dU [dM 0,dM 1],dU (vs 0 3)])  (by kernel_rfl) [] [] (by kernel_rfl) (by kernel_rfl) (by exact hnd) ⟨ed _,jo,dR hr0<|dR hr1<|all_nil,(by exact hown),kF,fun _=>⟨all_nil,all_nil,all_nil⟩⟩ h hk hQ
variable {W:dY}
theorem ad3 {A M:dY} {f:Bool} {nc:Nat}  (hr0:lI w0 [] nr [dJ B0,dJ B1]) (hr1:lI w0 [] ng [num (x),num (y),num (z)])
  (hown:∀q∈[]++[],q∈([]:List Nat)∨w0.heap.size≤q) (hnd:([]++[]:List Nat).Nodup) (h:dP (dS 133 [(2,dJ Sp),(3,dJ Sq),(4,num (d)),(5,num (i)),(6,dK nr),(7,dK ng),(14,dJ X),(15,.bool true),(41,.tuple ⟨[dJ W,.bool true]⟩)]) [] [] a w) (hk:dO w0 [] w)
  (hQ:∀a' w',dP (dS 133 [(6,dK nr),(7,dK ng),(14,dJ X),(15,.bool true),(16,dJ W),(17,.bool true)]) [] [] a' w'→dO w0 [] w'→wpList aa (opsOf (jK (dN aY))).toArray Q ([]) a' w'):wpList aa (opsOf (jK (dN aY))).toArray Q ((opsOf (jK (dN aY))).drop 4++([])) a w:=by
 refine uw ([x,y,z,d,i]) ([f]) [B0,B1,Sp,Sq,X,W,A,M] (ops:=opsOf (jK (dN aY))) (o1:=(opsOf (jK (dN aY))).drop 4) (tail:=([])) (w0:=w0) (ex:=[]) (g:=[]) (wt:=[]) (lt:=[]) (t:={}) (ws:=[(nr,0,[dJ B0,dJ B1]),(ng,0,[num (x),num (y),num (z)])]) (fr:=fK 133 [(2,dM 2),(3,dM 3),(4,var 3),(5,var 4),(6,.pointer (some ⟨0,0,some 0⟩)),(7,.pointer (some ⟨1,0,some 0⟩)),(14,dM 4),(15,.bool true),(41,.tuple ⟨[dM 5,.bool true]⟩)]) (H:=[]) (lo:=[]) (wb:=[dU [dM 0,dM 1],dU (vs 0 3)])  (by kernel_rfl) [] [] (by kernel_rfl) (by kernel_rfl) (by exact hnd) ⟨ed _,jo,dR hr0<|dR hr1<|all_nil,(by exact hown),kF,fun _=>⟨all_nil,all_nil,all_nil⟩⟩ h hk hQ
variable {A M:dY} {f:Bool}
theorem ad4 {nc:Nat} (hqt:∀z_∈([⟨40,[.agg ⟨[dM 0,dM 1]⟩,.agg ⟨(vs 0 3)⟩,dM 4],.val (.bool true)⟩]:List Qt),jB aa (gB (w0,[]) ([x,y,z,d,i]) [f] [B0,B1,Sp,Sq,X,W,A,M]) z_) (hr0:lI w0 [] nr [dJ B0,dJ B1]) (hr1:lI w0 [] ng [num (x),num (y),num (z)])
  (hown:∀q∈[]++[],q∈([]:List Nat)∨w0.heap.size≤q) (hnd:([]++[]:List Nat).Nodup) (h:dP (dS 133 [(6,dK nr),(7,dK ng),(14,dJ X),(15,.bool true),(16,dJ W),(17,.bool true)]) [] [] a w) (hk:dO w0 [] w)
  (hQ:∀a' w',dP (dS 133 [(6,dK nr),(7,dK ng),(14,dJ X),(16,dJ W)]) [] [] a' w'→dO w0 [] w'→D.wp aa Q a' w'):(fB [(kS (dN aY))] D).wp aa Q a w:=by
 refine uN ([x,y,z,d,i]) ([f]) [B0,B1,Sp,Sq,X,W,A,M] (w0:=w0) (ex:=[]) (g:=[]) (wt:=[]) (lt:=[]) (t:={ QT:=[⟨40,[.agg ⟨[dM 0,dM 1]⟩,.agg ⟨(vs 0 3)⟩,dM 4],.val (.bool true)⟩] }) (ws:=[(nr,0,[dJ B0,dJ B1]),(ng,0,[num (x),num (y),num (z)])]) (fr:=fK 133 [(6,.pointer (some ⟨0,0,some 0⟩)),(7,.pointer (some ⟨1,0,some 0⟩)),(14,dM 4),(15,.bool true),(16,dM 5),(17,.bool true)]) (H:=[]) (lo:=[]) (wb:=[dU [dM 0,dM 1],dU (vs 0 3)])  20 _ [] [] (by kernel_rfl) (by kernel_rfl) (by exact hnd) ⟨ed _,yA hqt,dR hr0<|dR hr1<|all_nil,(by exact hown),kF,fun _=>⟨all_nil,all_nil,all_nil⟩⟩ h hk hQ
theorem ad5 {Sp Sq A M:dY} {d i:Int} {f:Bool}  (hr0:lI w0 [] nr [dJ B0,dJ B1]) (hr1:lI w0 [] ng [num (x),num (y),num (z)])
  (hown:∀q∈[]++[],q∈([]:List Nat)∨w0.heap.size≤q) (hnd:([]++[]:List Nat).Nodup) (h:dP (dS 133 [(6,dK nr),(7,dK ng),(14,dJ X),(16,dJ W)]) [] [] a w) (hk:dO w0 [] w)
  (hQ:∀(a':Act) (w':World) (nc:Nat),(∀q∈([nc]:List Nat),w.heap.size≤q∧q<w'.heap.size)→([]++[]++[nc]++[]:List Nat).Nodup→dP (dS 133 [(6,dK nr),(7,dK ng),(14,dJ X),(16,dJ W),(18,dK nc)]) [(nc,[.bool false],88)] [] a' w'→dO w0 [] w'→D.wp aa Q a' w'):(fB [(dZ (sR 4 (dN aY)))] D).wp aa Q a w:=by
 refine xI ([x,y,z,d,i]) ([f]) [B0,B1,Sp,Sq,X,W,A,M] (w0:=w0) (ex:=[]) (g:=[]) (wt:=[]) (lt:=[]) (t:={}) (ws:=[(nr,0,[dJ B0,dJ B1]),(ng,0,[num (x),num (y),num (z)])]) (fr:=fK 133 [(6,.pointer (some ⟨0,0,some 0⟩)),(7,.pointer (some ⟨1,0,some 0⟩)),(14,dM 4),(16,dM 5)]) (H:=[]) (lo:=[]) (wb:=[dU [dM 0,dM 1],dU (vs 0 3)]) (us':=fun gn nl=>dS 133 [(6,dK nr),(7,dK ng),(14,dJ X),(16,dJ W),(18,dK (gn.getD 0 0))]) (gs':=fun gn nl=>[((gn.getD 0 0),[.bool false],88)]) (ls':=fun gn nl=>[]) 20 _ [0] [] [18] [] (fun gn nl e1 e2=>?_) (by kernel_rfl) (fun gn nl e1 e2 e3=>?_) ⟨ed _,jo,dR hr0<|dR hr1<|all_nil,(by exact hown),kF,fun _=>⟨all_nil,all_nil,all_nil⟩⟩ h hk (fun a' w' gn nl e1 e2 e3 e4 hs hk'=>?_)
 ·match gn,nl,e1,e2 with
  | [nc],[],_,_=>show (_:Option _)=_; kernel_rfl
 ·match gn,nl,e1,e2 with
  | [nc],[],_,_=>exact oP e3
 ·match gn,nl,e1,e2 with
  | [nc],[],_,_ =>
   simp only [bN] at hs
   exact hQ a' w' nc (fun q hq=>e4 q hq) e3 hs hk'
variable {nc:Nat}
theorem ad6 {Sp Sq A M:dY} {d i:Int} {f:Bool}  (hr0:lI w0 [nc] nr [dJ B0,dJ B1]) (hr1:lI w0 [nc] ng [num (x),num (y),num (z)])
  (hown:∀q∈[nc]++[],q∈([nc]:List Nat)∨w0.heap.size≤q) (hnd:([nc]++[]:List Nat).Nodup) (h:dP (dS 133 [(6,dK nr),(7,dK ng),(14,dJ X),(16,dJ W),(18,dK nc)]) [(nc,[.bool false],88)] [] a w) (hk:dO w0 [nc] w)
  (hQ:∀a' w',dP (dS 133 [(6,dK nr),(7,dK ng),(14,dJ X),(16,dJ W),(18,dK nc),(59,dK nc),(60,.agg ⟨[dJ B0,dJ B1]⟩),(61,dJ X)]) [(nc,[.bool false],88)] [] a' w'→dO w0 [nc] w'→wpList aa (opsOf (jT (dN aY))).toArray Q ((opsOf (jT (dN aY))).drop 3) a' w'):wpList aa (opsOf (jT (dN aY))).toArray Q ((opsOf (jT (dN aY))).take 3++((opsOf (jT (dN aY))).drop 3)) a w:=by
 refine uw ([x,y,z,d,i]) ([f]) [B0,B1,Sp,Sq,X,W,A,M] (ops:=opsOf (jT (dN aY))) (o1:=(opsOf (jT (dN aY))).take 3) (tail:=((opsOf (jT (dN aY))).drop 3)) (w0:=w0) (ex:=[nc]) (g:=[]) (wt:=[]) (lt:=[]) (t:={}) (ws:=[(nr,0,[dJ B0,dJ B1]),(ng,0,[num (x),num (y),num (z)])]) (fr:=fK 133 [(6,.pointer (some ⟨0,0,some 0⟩)),(7,.pointer (some ⟨1,0,some 0⟩)),(14,dM 4),(16,dM 5),(18,.pointer (some ⟨0,0,none⟩))]) (H:=[dQ [.bool false] 88]) (lo:=[]) (wb:=[dU [dM 0,dM 1],dU (vs 0 3)])  (by kernel_rfl) [0] [] (by kernel_rfl) (by kernel_rfl) (by exact hnd) ⟨ed _,jo,dR hr0<|dR hr1<|all_nil,(by exact hown),jG,fun _=>⟨all_nil,all_nil,all_nil⟩⟩ h hk hQ
theorem ad7 {Sp Sq X:dY} {d i:Int}  (hr0:lI w0 [nc] nr [dJ B0,dJ B1]) (hr1:lI w0 [nc] ng [num (x),num (y),num (z)])
  (hown:∀q∈[nc]++[],q∈([nc]:List Nat)∨w0.heap.size≤q) (hnd:([nc]++[]:List Nat).Nodup) (h:dP (dS 133 [(6,dK nr),(7,dK ng),(16,dJ W),(18,dK nc),(62,.agg ⟨[dK nc,dJ B0,dJ B1,dJ A,dJ M]⟩)]) [(nc,[.bool (f)],88)] [] a w) (hk:dO w0 [nc] w)
  (hQ:∀(a':Act) (w':World) (nb:Nat),(∀q∈([nb]:List Nat),w.heap.size≤q∧q<w'.heap.size)→([nc]++[]++[nb]++[]:List Nat).Nodup→dP (dS 133 [(6,dK nr),(7,dK ng),(16,dJ W),(18,dK nc),(19,dK nb)]) [(nc,[.bool (f)],88),(nb,[dK nc,dJ B0,dJ B1,dJ A,dJ M],92)] [] a' w'→dO w0 [nc] w'→wpList aa (opsOf (jT (dN aY))).toArray Q ([]) a' w'):wpList aa (opsOf (jT (dN aY))).toArray Q ((opsOf (jT (dN aY))).drop 4++([])) a w:=by
 refine FJ ([x,y,z,d,i]) ([f]) [B0,B1,Sp,Sq,X,W,A,M] (ops:=opsOf (jT (dN aY))) (o1:=(opsOf (jT (dN aY))).drop 4) (tail:=([])) (w0:=w0) (ex:=[nc]) (g:=[]) (wt:=[]) (lt:=[]) (t:={}) (ws:=[(nr,0,[dJ B0,dJ B1]),(ng,0,[num (x),num (y),num (z)])]) (fr:=fK 133 [(6,.pointer (some ⟨0,0,some 0⟩)),(7,.pointer (some ⟨1,0,some 0⟩)),(16,dM 5),(18,.pointer (some ⟨0,0,none⟩)),(62,.agg ⟨[.pointer (some ⟨0,0,none⟩),dM 0,dM 1,dM 6,dM 7]⟩)]) (H:=[dQ [mB 1 [.int .i64 0]] 88]) (lo:=[]) (wb:=[dU [dM 0,dM 1],dU (vs 0 3)]) (us':=fun gn nl=>dS 133 [(6,dK nr),(7,dK ng),(16,dJ W),(18,dK nc),(19,dK (gn.getD 0 0))]) (gs':=fun gn nl=>[(nc,[.bool (f)],88),((gn.getD 0 0),[dK nc,dJ B0,dJ B1,dJ A,dJ M],92)]) (ls':=fun gn nl=>[]) (by kernel_rfl) [0,1] [] [19] [] (fun gn nl e1 e2=>?_) (by kernel_rfl) (fun gn nl e1 e2 e3=>?_) ⟨ed _,jo,dR hr0<|dR hr1<|all_nil,(by exact hown),jG,fun _=>⟨all_nil,all_nil,all_nil⟩⟩ h hk (fun a' w' gn nl e1 e2 e3 e4 hs hk'=>?_)
 ·match gn,nl,e1,e2 with
  | [nb],[],_,_=>show (_:Option _)=_; kernel_rfl
 ·match gn,nl,e1,e2 with
  | [nb],[],_,_=>exact oP e3
 ·match gn,nl,e1,e2 with
  | [nb],[],_,_ =>
   simp only [bN] at hs
   exact hQ a' w' nb (fun q hq=>e4 q hq) e3 hs hk'
theorem WY:Ae (jM (dN aY)) 4 39 [30,31,32,33] 34:=Eg (by kernel_rfl)
theorem WZ:Ae (jK (dN aY)) 3 26 [38,39,40] 41:=Eg (by kernel_rfl)
theorem WW:Ae (jT (dN aY)) 3 41 [59,60,61] 62:=Eg (by kernel_rfl)
end Go.Proofs
end
section
namespace Go.Proofs
open Go.Sm Go.RowKit En
set_option maxHeartbeats 8000000
def MD.mb (m:MD):MB:=⟨m.wt,m.ks,m.vs,(none,0,0),(none,0,0)⟩
theorem PO (m:MB) (u:V6) (st:List (Int×Int)×Bool):∀i,jI m u st i=jI m.md.mb u st i
 | 0=>rfl
 | i+1=>by unfold jI; rw [PO m u st i]; rfl
theorem Yg (ms:List MB) (k:Nat):(ms.map fun m=>m.md.mb).getD k .z=(ms.getD k .z).md.mb:=by
 simp only [List.getD,bY]
 cases ms[k]?<;>rfl
theorem EL (ms:List MB) (us:List V6) (st:List (Int×Int)×Bool):∀k,gm ms us st k=gm (ms.map fun m=>m.md.mb) us st k
 | 0=>rfl
 | k+1=>by
  unfold gm
  rw [EL ms us st k,Yg,PO]
  rfl
theorem UK (rs:List (Int×Int)) (axs:List V6) (js:List JV):∀(ms:List MB) (f:Bool),BN rs axs js f ms=BN rs axs js f (ms.map fun m=>m.md.mb)
 | [],_=>rfl
 | m::ms,f=>by
  unfold BN
  exact UK rs axs js ms _
theorem Fa (ms:List MB):(ms.map fun m=>m.md.mb)=(ms.map MB.md).map MD.mb:=by simp [List.map_map,Function.comp]
theorem UN (rs:List (Int×Int)) (ms:List MB) (n:Nat):yY rs ms n=yY rs ((ms.map MB.md).map MD.mb) n:=by
 unfold yY
 rw [EL,Fa,dF,dF,show zw rs ((ms.map MB.md).map MD.mb)=zw rs ms by simp [zw,List.map_map,Function.comp]; exact fun _ _=>rfl]
theorem UO (rs:List (Int×Int)) (axs:List V6) (js:List JV) (ms:List MB) (n:Nat):yZ rs axs js ms n=yZ rs axs js ((ms.map MB.md).map MD.mb) n:=by
 unfold yZ
 rw [EL,Fa,dF,dF,show zX rs axs js ((ms.map MB.md).map MD.mb)=zX rs axs js ms by simp [zX,List.map_map,Function.comp]; exact fun _ _=>rfl]
theorem Q5 (ms:List MB) (n:Nat) (x y z:Int):iU ms n x y z=iU ((ms.map MB.md).map MD.mb) n x y z:=by
 unfold iU
 rw [EL,Fa,dF,dF]
theorem aef (rs:List (Int×Int)) (axs:List V6) (js:List JV) (ms:List MB) (n:Nat) (x y z:Int) (f:Bool):BM rs axs js ms n x y z f=BM rs axs js ((ms.map MB.md).map MD.mb) n x y z f:=by
 unfold BM
 rw [UK,Fa,UN,UO,Q5]
structure Mx where
 fl:Bool
 us:List (Int×Int)
 xs:List (Int×Int)
 gs:List (Int×Int)
def acs (js:List JV) (ps qs:List Int) (d i:Int):List iF:=jH [] js (nX ps qs d i)
def xq (js:List JV) (mvs:List MV) (ps qs:List Int) (d i x y z:Int):Mx :=
 (fun (Ps:List iF) (rs:List (Int×Int))=>(fun (b:List MD×Bool)=>⟨BM rs (nu js Ps) js (b.1.map MD.mb) js.length x y z b.2,(yY rs (b.1.map MD.mb) js.length).1,(yZ rs (nu js Ps) js (b.1.map MD.mb) js.length).1,(iU (b.1.map MD.mb) js.length x y z).1.map iP⟩) (wG js Ps mvs false)) (acs js ps qs d i) (o6 js ps qs js.length)
def VB (w:World) (n:Nat) (t:Mx) (e:Ending) (w':World):Prop:=Below w.heap.size w w'∧(t.fl=true→e=.returned (.tuple ⟨[.slice none 0 0,.bool false]⟩))∧(t.fl=false→∃gl,w.heap.size≤gl∧gl<w'.heap.size∧e=.returned (.tuple ⟨[.slice (some ⟨gl,0,none⟩) n n,.bool true]⟩)∧w'.heap[gl]?=some (.cells ⟨xu t.us t.xs t.gs⟩ 47 (0,0)))
theorem Kb {t:Nat} {v:Value}:∀{l:List (Nat×Value)},lookO t l=some v→(t,v)∈l
 | [],h=>by cases h
 | (j,x)::l,h=>by
  unfold lookO at h
  cases hb:ay t j with
  | true =>
   rw [hb] at h
   simp only [cond_true,ak] at h
   subst h
   rw [bf hb]
   exact aA
  | false =>
   rw [hb] at h
   exact aT _ (Kb h)
variable {n:Nat} {gs:List gQ} {w:World}
theorem adD {m:Nat} {xs:List Value} {l:List (Nat×Value)} (hn:xs.length+m=n) (hl:∀p∈l,xs[p.1]?=some p.2) (hg:∀x∈gs,w.heap[x.1]?=some (.cells ⟨x.2.1⟩ x.2.2 (0,0))) (nd:(gs.map (·.1)).Nodup):dP (dS n l) gs [] { tmps:=xs.toArray++dn m undef,defers:=[] } w:=by
 have hst:=qF (us:=xs.map some++az m (some undef)) (w:=w) rfl hg nd
 refine ⟨rfl,by simp [dS,hn],fun t u e=>hst.fr t u ?_,hg,hst.lo,hst.nd⟩
 simp only [dS,bY,aR] at e
 obtain ⟨y,y1,y2⟩:=e
 obtain ⟨hlt,hy⟩:=ai.1 y1
 simp only [List.getElem_range] at hy
 subst hy
 have h1:=hl _ (Kb y2)
 simp only at h1
 have:=(ai.1 h1).1
 rw [aH (by simpa using this),bY,h1]; rfl
variable {b:Nat} {vs:List Value} {ex:List Nat}
theorem Q3 {us:List (Option Value)} {ls:List gQ} {a:Act} (h:dP us gs ls a w) {e:TypeId} (hm:(b,vs,e)∈ls) (hl:0<vs.length) (hx:b∉ex):lI w ex b vs:=by
 have:=h.lo _ hm
 exact ⟨⟨(aB.1 this).1,hx⟩,M0 this hl⟩
theorem lI.mv {w':World} {ex2:List Nat} (h:lI w ex b vs) (hk:dO w ex w') (hx:b∉ex2):lI w' ex2 b vs:=⟨⟨aC h.1.1 hk.size,hx⟩,hk.win h.1.1 h.1.2 h.2⟩
variable {B0 B1:dY} {js:List JV} {mvs:List MV}
theorem jW.Z8 {nc:Nat} (h:jW w [] B0 B1 js mvs) (h1:∀a,B0.1=some a→a.block≠nc) (h2:∀a,B1.1=some a→mvs≠[]→a.block≠nc):jW w [nc] B0 B1 js mvs :=
 { h with xB:=fun a ha=>⟨by simpa using h1 a ha,(h.xB a ha).2⟩,xM:=fun a ha h0=>⟨by simpa using h2 a ha h0,(h.xM a ha h0).2⟩ }
theorem acv {f:Func} {R R':Ending→World→Prop} (h:∀e w',R e w'→R' e w'):∀(e:Exit) (a:Act) (w:World),bodyPost aa f R e a w→bodyPost aa f R' e a w:=fun e a w hq=>by
 cases e with
 | normal=>obtain ⟨h1,v,h2,h3⟩:=hq; exact ⟨h1,v,h2,h _ _ h3⟩
 | ret=>obtain ⟨h1,v,h2,h3⟩:=hq; exact ⟨h1,v,h2,h _ _ h3⟩
 | panic c=>obtain ⟨h1,h2⟩:=hq; exact ⟨h1,h _ _ h2⟩
 | outgrown=>exact h _ _ hq
 | _=>exact hq
theorem QO:∀(ps qs:List Int) (d i:Int),qs.length=ps.length→(nX ps qs d i).length=ps.length
 | [],[],_,_,_=>rfl
 | _::ps,_::qs,d,i,h=>by
  unfold nX
  rw [dB,QO ps qs d i (by simpa using h),dB]
 | [],_::_,_,_,h=>by simp at h
 | _::_,[],_,_,h=>by simp at h
variable {bs:List (Int×Int)}
theorem WN {g:Nat} (h:w.heap[g]?=some (.cells ⟨bs.flatMap fun b=>[num b.1,num b.2]⟩ 64 (0,0))):Sl w ((some ⟨g,0,none⟩,n,n):dY).1 2 (jE bs):=fun _=>⟨g,0,rfl,(aB.1 h).1,fun i r hi k v hk=>by
 have:=flat_get (jE bs) 2 (fun r hr=>by obtain ⟨P,_,rfl⟩:=aeZ.1 hr; rfl) i r hi k v hk
 simpa [bS,h,List.flatMap,jE] using this⟩
theorem acn {Sp Sq:dY} {ps qs:List Int} {d i:Int} (h1:1≤ps.length) (h3:ps.length≤3) (hpq:qs.length=ps.length) (hP:Sp.2.1=ps.length) (hQ:Sq.2.1=qs.length) (sP:Sl w Sp.1 1 (fF ps)) (sQ:Sl w Sq.1 1 (fF qs)) (hd:0≤d∧d≤20) (hi:0≤i∧i<2^d.toNat) (bp:∀x∈ps++qs,-2147483648≤x∧x≤2147483648) :
  Calls aa 39 #[dJ Sp,dJ Sq,num d,num i] w fun r w'=>Below w.heap.size w w'∧∃gl,w.heap.size≤gl∧gl<w'.heap.size∧r=.returned (kC true gl ps.length ps.length)∧w'.heap[gl]?=some (.cells ⟨(nX ps qs d i).flatMap fun b=>[num b.1,num b.2]⟩ 64 (0,0)):=by
 have hw:bg.wrap (1*2^(min d.toNat 64))=2^d.toNat:=by
  rw [show min d.toNat 64=d.toNat by omega,Int.one_mul]
  refine dz _ ?_
  have h2:(2:Nat)^d.toNat≤2^20:=Nat.pow_le_pow_right (by decide) (by omega)
  have h3:((2^d.toNat:Nat):Int)≤((2^20:Nat):Int):=by exact_mod_cast h2
  have h4:(0:Int)<2^d.toNat:=Int.pow_pos (by decide)
  simp at h3
  omega
 match ps,qs,h1,h3,hpq with
 | [p0],[q0],_,_,_ =>
  obtain ⟨bp0,op0,rp0⟩:=iy (i:=0) (ex:=[]) sP (by simp [hP,fF]) (show (fF [p0])[0]?=some [num p0] from rfl) (aO _) (fun a ha=>by simp)
  obtain ⟨bq0,oq0,rq0⟩:=iy (i:=0) (ex:=[]) sQ (by simp [hQ,fF]) (show (fF [q0])[0]?=some [num q0] from rfl) (aO _) (fun a ha=>by simp)
  have b_p0:=bp p0 (by simp)
  have b_q0:=bp q0 (by simp)
  exact aci hP hQ (by simp; omega) (by simp; omega) (by simp; omega) (by simp; omega) (by simp; omega) (by simp; omega) (by simp; omega) (by simp; omega) (by rw [hw]; simp; omega) rp0 rq0 (kJ w [])
 | [p0,p1],[q0,q1],_,_,_ =>
  obtain ⟨bp0,op0,rp0⟩:=iy (i:=0) (ex:=[]) sP (by simp [hP,fF]) (show (fF [p0,p1])[0]?=some [num p0] from rfl) (aO _) (fun a ha=>by simp)
  obtain ⟨bp1,op1,rp1⟩:=iy (i:=1) (ex:=[]) sP (by simp [hP,fF]) (show (fF [p0,p1])[1]?=some [num p1] from rfl) (aO _) (fun a ha=>by simp)
  obtain ⟨bq0,oq0,rq0⟩:=iy (i:=0) (ex:=[]) sQ (by simp [hQ,fF]) (show (fF [q0,q1])[0]?=some [num q0] from rfl) (aO _) (fun a ha=>by simp)
  obtain ⟨bq1,oq1,rq1⟩:=iy (i:=1) (ex:=[]) sQ (by simp [hQ,fF]) (show (fF [q0,q1])[1]?=some [num q1] from rfl) (aO _) (fun a ha=>by simp)
  have b_p0:=bp p0 (by simp)
  have b_p1:=bp p1 (by simp)
  have b_q0:=bp q0 (by simp)
  have b_q1:=bp q1 (by simp)
  exact acj hP hQ (by simp; omega) (by simp; omega) (by simp; omega) (by simp; omega) (by simp; omega) (by simp; omega) (by simp; omega) (by simp; omega) (by simp; omega) (by simp; omega) (by simp; omega) (by simp; omega) (by rw [hw]; simp; omega) rp0 rp1 rq0 rq1 (kJ w [])
 | [p0,p1,p2],[q0,q1,q2],_,_,_ =>
  obtain ⟨bp0,op0,rp0⟩:=iy (i:=0) (ex:=[]) sP (by simp [hP,fF]) (show (fF [p0,p1,p2])[0]?=some [num p0] from rfl) (aO _) (fun a ha=>by simp)
  obtain ⟨bp1,op1,rp1⟩:=iy (i:=1) (ex:=[]) sP (by simp [hP,fF]) (show (fF [p0,p1,p2])[1]?=some [num p1] from rfl) (aO _) (fun a ha=>by simp)
  obtain ⟨bp2,op2,rp2⟩:=iy (i:=2) (ex:=[]) sP (by simp [hP,fF]) (show (fF [p0,p1,p2])[2]?=some [num p2] from rfl) (aO _) (fun a ha=>by simp)
  obtain ⟨bq0,oq0,rq0⟩:=iy (i:=0) (ex:=[]) sQ (by simp [hQ,fF]) (show (fF [q0,q1,q2])[0]?=some [num q0] from rfl) (aO _) (fun a ha=>by simp)
  obtain ⟨bq1,oq1,rq1⟩:=iy (i:=1) (ex:=[]) sQ (by simp [hQ,fF]) (show (fF [q0,q1,q2])[1]?=some [num q1] from rfl) (aO _) (fun a ha=>by simp)
  obtain ⟨bq2,oq2,rq2⟩:=iy (i:=2) (ex:=[]) sQ (by simp [hQ,fF]) (show (fF [q0,q1,q2])[2]?=some [num q2] from rfl) (aO _) (fun a ha=>by simp)
  have b_p0:=bp p0 (by simp)
  have b_p1:=bp p1 (by simp)
  have b_p2:=bp p2 (by simp)
  have b_q0:=bp q0 (by simp)
  have b_q1:=bp q1 (by simp)
  have b_q2:=bp q2 (by simp)
  exact ack hP hQ (by simp; omega) (by simp; omega) (by simp; omega) (by simp; omega) (by simp; omega) (by simp; omega) (by simp; omega) (by simp; omega) (by simp; omega) (by simp; omega) (by simp; omega) (by simp; omega) (by simp; omega) (by simp; omega) (by simp; omega) (by simp; omega) (by rw [hw]; simp; omega) rp0 rp1 rp2 rq0 rq1 rq2 (kJ w [])
 | [],_,h1,_,_=>exact absurd h1 (by simp)
 | _::_::_::_::_,_,_,h3,_=>exact absurd h3 (by simp)
 | [_],[],_,_,hl | [_],_::_::_,_,_,hl | [_,_],[],_,_,hl | [_,_],[_],_,_,hl | [_,_],_::_::_::_,_,_,hl | [_,_,_],[],_,_,hl | [_,_,_],[_],_,_,hl | [_,_,_],[_,_],_,_,hl | [_,_,_],_::_::_::_::_,_,_,hl=>exact absurd hl (by simp)
def MQ (js:List JV) (bs:List (Int×Int)):Prop:=∀(i:Nat) (j:JV) (b:Int×Int),js[i]?=some j→bs[i]?=some b→ou b.1 b.2 j.lo j.hi=true
theorem adH {X:dY} {x y z:Int} (h:jW w ex B0 B1 js mvs) (hl:bs.length=js.length) (hX:X.2.1=bs.length) (sX:Sl w X.1 2 (jE bs)) (xX:∀a,X.1=some a→a.block∉ex) (hv:MQ js bs) (hx:-16777216≤x∧x≤16777216) (hy:-16777216≤y∧y≤16777216) (hz:-16777216≤z∧z≤16777216) :
  Calls aa 40 #[.agg ⟨[dJ B0,dJ B1]⟩,.agg ⟨[num x,num y,num z]⟩,dJ X] w fun e w'=>e=.returned (.bool true)∧Below w.heap.size w w':=by
 have hn:=h.n
 match js,bs,h,hl,hX,sX,hv,hn with
 | [j0],[x0],h,_,hX,sX,hv,_ =>
  obtain ⟨bB0,oB0,rB0⟩:=iy (i:=0) (ex:=ex) h.sB (by simp [h.b0]) (show ([j0].map JV.vals)[0]?=some j0.vals from rfl) (aO _) (fun a ha=>(h.xB a ha).1)
  obtain ⟨bX0,oX0,rX0⟩:=iy (i:=0) (ex:=ex) sX (by simp [hX,jE]) (show (jE [x0])[0]?=some [num x0.1,num x0.2] from rfl) (aO _) xX
  exact adE h.b0 hX (by simp; omega) (by simp; omega) (by simp; omega) (by simp; omega) (by simp; omega) (by simp; omega) (hv 0 j0 x0 rfl rfl) rB0 rX0 (fun z_ hz_=>by simp only [ag,ae,or_false] at hz_; subst hz_; exact qI h) (kJ w ex)
 | [j0,j1],[x0,x1],h,_,hX,sX,hv,_ =>
  obtain ⟨bB0,oB0,rB0⟩:=iy (i:=0) (ex:=ex) h.sB (by simp [h.b0]) (show ([j0,j1].map JV.vals)[0]?=some j0.vals from rfl) (aO _) (fun a ha=>(h.xB a ha).1)
  obtain ⟨bX0,oX0,rX0⟩:=iy (i:=0) (ex:=ex) sX (by simp [hX,jE]) (show (jE [x0,x1])[0]?=some [num x0.1,num x0.2] from rfl) (aO _) xX
  obtain ⟨bB1,oB1,rB1⟩:=iy (i:=1) (ex:=ex) h.sB (by simp [h.b0]) (show ([j0,j1].map JV.vals)[1]?=some j1.vals from rfl) (aO _) (fun a ha=>(h.xB a ha).1)
  obtain ⟨bX1,oX1,rX1⟩:=iy (i:=1) (ex:=ex) sX (by simp [hX,jE]) (show (jE [x0,x1])[1]?=some [num x1.1,num x1.2] from rfl) (aO _) xX
  exact adF h.b0 hX (by simp; omega) (by simp; omega) (by simp; omega) (by simp; omega) (by simp; omega) (by simp; omega) (hv 0 j0 x0 rfl rfl) (hv 1 j1 x1 rfl rfl) rB0 rB1 rX0 rX1 (fun z_ hz_=>by simp only [ag,ae,or_false] at hz_; subst hz_; exact qI h) (kJ w ex)
 | [j0,j1,j2],[x0,x1,x2],h,_,hX,sX,hv,_ =>
  obtain ⟨bB0,oB0,rB0⟩:=iy (i:=0) (ex:=ex) h.sB (by simp [h.b0]) (show ([j0,j1,j2].map JV.vals)[0]?=some j0.vals from rfl) (aO _) (fun a ha=>(h.xB a ha).1)
  obtain ⟨bX0,oX0,rX0⟩:=iy (i:=0) (ex:=ex) sX (by simp [hX,jE]) (show (jE [x0,x1,x2])[0]?=some [num x0.1,num x0.2] from rfl) (aO _) xX
  obtain ⟨bB1,oB1,rB1⟩:=iy (i:=1) (ex:=ex) h.sB (by simp [h.b0]) (show ([j0,j1,j2].map JV.vals)[1]?=some j1.vals from rfl) (aO _) (fun a ha=>(h.xB a ha).1)
  obtain ⟨bX1,oX1,rX1⟩:=iy (i:=1) (ex:=ex) sX (by simp [hX,jE]) (show (jE [x0,x1,x2])[1]?=some [num x1.1,num x1.2] from rfl) (aO _) xX
  obtain ⟨bB2,oB2,rB2⟩:=iy (i:=2) (ex:=ex) h.sB (by simp [h.b0]) (show ([j0,j1,j2].map JV.vals)[2]?=some j2.vals from rfl) (aO _) (fun a ha=>(h.xB a ha).1)
  obtain ⟨bX2,oX2,rX2⟩:=iy (i:=2) (ex:=ex) sX (by simp [hX,jE]) (show (jE [x0,x1,x2])[2]?=some [num x2.1,num x2.2] from rfl) (aO _) xX
  exact adG h.b0 hX (by simp; omega) (by simp; omega) (by simp; omega) (by simp; omega) (by simp; omega) (by simp; omega) (hv 0 j0 x0 rfl rfl) (hv 1 j1 x1 rfl rfl) (hv 2 j2 x2 rfl rfl) rB0 rB1 rB2 rX0 rX1 rX2 (fun z_ hz_=>by simp only [ag,ae,or_false] at hz_; subst hz_; exact qI h) (kJ w ex)
 | [],_,_,_,_,_,_,hn=>exact absurd hn.1 (by simp)
 | _::_::_::_::_,_,_,_,_,_,_,hn=>exact absurd hn.2 (by simp)
 | [_],[],_,hl,_,_,_,_ | [_],_::_::_,_,hl,_,_,_,_ | [_,_],[],_,hl,_,_,_,_ | [_,_],[_],_,hl,_,_,_,_ | [_,_],_::_::_::_,_,hl,_,_,_,_ | [_,_,_],[],_,hl,_,_,_,_ | [_,_,_],[_],_,hl,_,_,_,_ | [_,_,_],[_,_],_,hl,_,_,_,_ | [_,_,_],_::_::_::_::_,_,hl,_,_,_,_=>exact absurd hl (by simp)
end Go.Proofs
end
