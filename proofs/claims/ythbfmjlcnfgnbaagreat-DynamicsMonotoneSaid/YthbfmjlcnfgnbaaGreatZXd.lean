/-
  Part of the proof: see the last text.
-/
import Derived.Test.YthbfmjlcnfgnbaaGreatZWg
set_option linter.unusedVariables false
set_option maxHeartbeats 8000000
open Array renaming getD_eq_getD_getElem?→bI,getElem?_eq_some_iff→aB,replicate→aji
open Bool renaming and_eq_true→aQ
open Go.IntKind renaming i64→bg
open Go.IntWalk renaming i64_in→dz
open List renaming all_eq_true→bn,append_assoc→afd,append_nil→afk,cons_append→dw,eq_nil_of_length_eq_zero→bR,getD→amI,getD_cons_succ→bZ,getD_cons_zero→bN,getElem?_append_left→aH,getElem?_append_right→bu,getElem?_drop→aeX,getElem?_eq_getElem→ah,getElem?_eq_none→bQ,getElem?_eq_some_iff→ai,getElem?_map→bY,getElem?_take→dx,length→ae1,length_cons→dB,length_nil→aeT,map_cons→dI,map_nil→ae9,mem_append→bH,mem_append_left→aeY,mem_append_right→dm,mem_cons→ag,mem_cons_of_mem→aT,mem_cons_self→aA,mem_map→aeZ,mem_of_getElem?→aN,nil_append→dD,nodup_append→afe,nodup_cons→ag5,not_mem_nil→ae,replicate→ag6,take_of_length_le→dH
open List.cons renaming injEq→afj
open Nat renaming beq→ay,ble→amE,eq_of_beq_eq_true→bf,le_of_ble_eq_true→ae8,le_trans→aZ,lt_of_lt_of_le→aC,succ_pos→aO
open Option renaming map_eq_some_iff→aR
open Option.some renaming injEq→ak
open Prod.mk renaming injEq→aP
open Go.Proofs.Tryz renaming f102→cz,f41→aD,prog→aa
open Go.World renaming cell?→bS
section
namespace Go.Proofs
open Go.Sm Go.RowKit En
def jS (P:iF) (p0 p1 p2:Int):V6:=pg 231 (pl P++(pg 62 [p0,p1,p2]).l)
def ahW (v u:V6):V6:=⟨aep v.a v.b v.c v.d v.e v.f u.a u.b u.c u.d u.e u.f,aeq v.a v.b v.c v.d v.e v.f u.a u.b u.c u.d u.e u.f,aer v.a v.b v.c v.d v.e v.f u.a u.b u.c u.d u.e u.f,aes v.a v.b v.c v.d v.e v.f u.a u.b u.c u.d u.e u.f,aet v.a v.b v.c v.d v.e v.f u.a u.b u.c u.d u.e u.f,aeu v.a v.b v.c v.d v.e v.f u.a u.b u.c u.d u.e u.f⟩
def ZE (c:Bool) (v u:V6):Bool:=aev c v.a v.b v.c v.d v.e v.f u.a u.b u.c u.d u.e u.f
def sj (at_ og ax:V6):V6:=Cs ax (ahW at_ og)
def DF (c:Bool) (at_ og ax:V6):Bool:=(fun u:V6=>BP (ZE c at_ og) ax.a ax.b ax.c ax.d ax.e ax.f u.a u.b u.c u.d u.e u.f) (ahW at_ og)
variable {w0 w:World} {a:Act} {nc nr n6 nb:Nat} {B0 B1 Lk O A M:dY} {f:Bool} {ex':List Nat} {k m:Int} {Q:Exit→Act→World→Prop}
theorem VV {K J V:dY} (hl:decide (k<m)=false)
  (hown:∀q∈[nc]++[nr,n6,nb],q∈((nc::ex'):List Nat)∨w0.heap.size≤q) (hnd:([nc]++[nr,n6,nb]:List Nat).Nodup) (h:dP (dS 137 [(0,dK nc),(4,dK nr),(6,dK n6),(7,dJ Lk),(8,dK nb),(9,dJ O),(64,dJ B1),(65,num (m)),(66,num (k))]) [(nc,[.bool (f)],88)] [(nr,[dJ B0,dJ B1],35),(n6,[.pointer none,.slice none 0 0,.slice none 0 0,.slice none 0 0,.slice none 0 0],92),(nb,[dK nc,dJ B0,dJ B1,dJ A,dJ M],92)] a w) (hk:dO w0 (nc::ex') w)
  (hQ:∀a' w',dP (dS 137 [(0,dK nc),(4,dK nr),(6,dK n6),(7,dJ Lk),(8,dK nb),(9,dJ O),(64,dJ B1),(65,num (m)),(66,num (k))]) [(nc,[.bool (f)],88)] [(nr,[dJ B0,dJ B1],35),(n6,[.pointer none,.slice none 0 0,.slice none 0 0,.slice none 0 0,.slice none 0 0],92),(nb,[dK nc,dJ B0,dJ B1,dJ A,dJ M],92)] a' w'→dO w0 (nc::ex') w'→Q (.exit 2) a' w'):(uU (dN aD)).wp aa Q a w:=by
 refine Cq ([k,m]) ([f]) [B0,B1,Lk,O,A,M,K,J,V] (w0:=w0) (ex:=(nc::ex')) (g:=[(mB 20 [var 0,var 1],.bool false)]) (wt:=[]) (lt:=[]) (t:={}) (ws:=[]) (fr:=fK 137 [(0,.pointer (some ⟨0,0,none⟩)),(4,.pointer (some ⟨0,0,some 0⟩)),(6,.pointer (some ⟨1,0,some 0⟩)),(7,dM 2),(8,.pointer (some ⟨2,0,some 0⟩)),(9,dM 3),(64,dM 1),(65,var 1),(66,var 0)]) (H:=[dQ [mB 1 [.int .i64 0]] 88]) (lo:=[dQ [dM 0,dM 1] 35,dQ [.pointer none,.slice none 0 0,.slice none 0 0,.slice none 0 0,.slice none 0 0] 92,dQ [.pointer (some ⟨0,0,none⟩),dM 0,dM 1,dM 4,dM 5] 92]) (wb:=[])  41 (.exit 2) [0] [0,1,2] (by kernel_rfl) (by kernel_rfl) (by exact hnd) ⟨fq (b:=(decide (k<m))) (by kernel_rfl) hl (fB _),jo,all_nil,(by exact hown),jG,fun _=>⟨all_nil,all_nil,all_nil⟩⟩ h hk hQ
variable {D:Code}
theorem alS {K J V:dY} (hl:decide (k<m)=true)
  (hown:∀q∈[nc]++[nr,n6,nb],q∈((nc::ex'):List Nat)∨w0.heap.size≤q) (hnd:([nc]++[nr,n6,nb]:List Nat).Nodup) (h:dP (dS 137 [(0,dK nc),(4,dK nr),(6,dK n6),(7,dJ Lk),(8,dK nb),(9,dJ O),(64,dJ B1),(65,num (m)),(66,num (k))]) [(nc,[.bool (f)],88)] [(nr,[dJ B0,dJ B1],35),(n6,[.pointer none,.slice none 0 0,.slice none 0 0,.slice none 0 0,.slice none 0 0],92),(nb,[dK nc,dJ B0,dJ B1,dJ A,dJ M],92)] a w) (hk:dO w0 (nc::ex') w)
  (hQ:∀a' w',dP (dS 137 [(0,dK nc),(4,dK nr),(6,dK n6),(7,dJ Lk),(8,dK nb),(9,dJ O),(64,dJ B1),(65,num (m)),(66,num (k))]) [(nc,[.bool (f)],88)] [(nr,[dJ B0,dJ B1],35),(n6,[.pointer none,.slice none 0 0,.slice none 0 0,.slice none 0 0,.slice none 0 0],92),(nb,[dK nc,dJ B0,dJ B1,dJ A,dJ M],92)] a' w'→dO w0 (nc::ex') w'→D.wp aa Q a' w'):(o7 [(dZ (uU (dN aD))),(dZ (fU (uU (dN aD))))] D).wp aa Q a w:=by
 refine uN ([k,m]) ([f]) [B0,B1,Lk,O,A,M,K,J,V] (w0:=w0) (ex:=(nc::ex')) (g:=[(mB 20 [var 0,var 1],.bool true)]) (wt:=[]) (lt:=[]) (t:={}) (ws:=[]) (fr:=fK 137 [(0,.pointer (some ⟨0,0,none⟩)),(4,.pointer (some ⟨0,0,some 0⟩)),(6,.pointer (some ⟨1,0,some 0⟩)),(7,dM 2),(8,.pointer (some ⟨2,0,some 0⟩)),(9,dM 3),(64,dM 1),(65,var 1),(66,var 0)]) (H:=[dQ [mB 1 [.int .i64 0]] 88]) (lo:=[dQ [dM 0,dM 1] 35,dQ [.pointer none,.slice none 0 0,.slice none 0 0,.slice none 0 0,.slice none 0 0] 92,dQ [.pointer (some ⟨0,0,none⟩),dM 0,dM 1,dM 4,dM 5] 92]) (wb:=[])  41 _ [0] [0,1,2] (by kernel_rfl) (by kernel_rfl) (by exact hnd) ⟨fq (b:=(decide (k<m))) (by kernel_rfl) hl (fB _),jo,all_nil,(by exact hown),jG,fun _=>⟨all_nil,all_nil,all_nil⟩⟩ h hk hQ
theorem Wm {K J V:dY}
  (hown:∀q∈[nc]++[nr,n6,nb],q∈((nc::ex'):List Nat)∨w0.heap.size≤q) (hnd:([nc]++[nr,n6,nb]:List Nat).Nodup) (h:dP (dS 137 [(0,dK nc),(4,dK nr),(6,dK n6),(7,dJ Lk),(8,dK nb),(9,dJ O),(64,dJ B1),(65,num (m)),(66,num (k))]) [(nc,[.bool (f)],88)] [(nr,[dJ B0,dJ B1],35),(n6,[.pointer none,.slice none 0 0,.slice none 0 0,.slice none 0 0,.slice none 0 0],92),(nb,[dK nc,dJ B0,dJ B1,dJ A,dJ M],92)] a w) (hk:dO w0 (nc::ex') w)
  (hQ:∀a' w',dP (dS 137 [(0,dK nc),(4,dK nr),(6,dK n6),(7,dJ Lk),(8,dK nb),(9,dJ O),(64,dJ B1),(65,num (m)),(66,num (bg.wrap (k+1)))]) [(nc,[.bool (f)],88)] [(nr,[dJ B0,dJ B1],35),(n6,[.pointer none,.slice none 0 0,.slice none 0 0,.slice none 0 0,.slice none 0 0],92),(nb,[dK nc,dJ B0,dJ B1,dJ A,dJ M],92)] a' w'→dO w0 (nc::ex') w'→Q (.normal) a' w'):(sR 3 (uU (dN aD))).wp aa Q a w:=by
 refine Cq ([k,m]) ([f]) [B0,B1,Lk,O,A,M,K,J,V] (w0:=w0) (ex:=(nc::ex')) (g:=[]) (wt:=[]) (lt:=[]) (t:={}) (ws:=[]) (fr:=fK 137 [(0,.pointer (some ⟨0,0,none⟩)),(4,.pointer (some ⟨0,0,some 0⟩)),(6,.pointer (some ⟨1,0,some 0⟩)),(7,dM 2),(8,.pointer (some ⟨2,0,some 0⟩)),(9,dM 3),(64,dM 1),(65,var 1),(66,var 0)]) (H:=[dQ [mB 1 [.int .i64 0]] 88]) (lo:=[dQ [dM 0,dM 1] 35,dQ [.pointer none,.slice none 0 0,.slice none 0 0,.slice none 0 0,.slice none 0 0] 92,dQ [.pointer (some ⟨0,0,none⟩),dM 0,dM 1,dM 4,dM 5] 92]) (wb:=[])  41 (.normal) [0] [0,1,2] (by kernel_rfl) (by kernel_rfl) (by exact hnd) ⟨fB _,jo,all_nil,(by exact hown),jG,fun _=>⟨all_nil,all_nil,all_nil⟩⟩ h hk hQ
theorem VX {k:Int} {K J V:dY} (hB1:(B1.2.1:Int)=m)
  (hown:∀q∈[nc]++[nr,n6,nb],q∈((nc::ex'):List Nat)∨w0.heap.size≤q) (hnd:([nc]++[nr,n6,nb]:List Nat).Nodup) (h:dP (dS 137 [(0,dK nc),(4,dK nr),(6,dK n6),(7,dJ Lk),(8,dK nb),(9,dJ O)]) [(nc,[.bool (f)],88)] [(nr,[dJ B0,dJ B1],35),(n6,[.pointer none,.slice none 0 0,.slice none 0 0,.slice none 0 0,.slice none 0 0],92),(nb,[dK nc,dJ B0,dJ B1,dJ A,dJ M],92)] a w) (hk:dO w0 (nc::ex') w)
  (hQ:∀a' w',dP (dS 137 [(0,dK nc),(4,dK nr),(6,dK n6),(7,dJ Lk),(8,dK nb),(9,dJ O),(64,dJ B1),(65,num (m)),(66,num (0))]) [(nc,[.bool (f)],88)] [(nr,[dJ B0,dJ B1],35),(n6,[.pointer none,.slice none 0 0,.slice none 0 0,.slice none 0 0,.slice none 0 0],92),(nb,[dK nc,dJ B0,dJ B1,dJ A,dJ M],92)] a' w'→dO w0 (nc::ex') w'→D.wp aa Q a' w'):(o7 [(dZ (CS (dN aD)))] D).wp aa Q a w:=by
 refine uN ([k,m]) ([f]) [B0,B1,Lk,O,A,M,K,J,V] (w0:=w0) (ex:=(nc::ex')) (g:=[]) (wt:=[]) (lt:=[(1,var 1)]) (t:={}) (ws:=[]) (fr:=fK 137 [(0,.pointer (some ⟨0,0,none⟩)),(4,.pointer (some ⟨0,0,some 0⟩)),(6,.pointer (some ⟨1,0,some 0⟩)),(7,dM 2),(8,.pointer (some ⟨2,0,some 0⟩)),(9,dM 3)]) (H:=[dQ [mB 1 [.int .i64 0]] 88]) (lo:=[dQ [dM 0,dM 1] 35,dQ [.pointer none,.slice none 0 0,.slice none 0 0,.slice none 0 0,.slice none 0 0] 92,dQ [.pointer (some ⟨0,0,none⟩),dM 0,dM 1,dM 4,dM 5] 92]) (wb:=[])  41 _ [0] [0,1,2] (by kernel_rfl) (by kernel_rfl) (by exact hnd) ⟨fB _,jo,all_nil,(by exact hown),jG,fun _=>⟨all_nil,dR (CZ rfl (show (B1.2.1:Int)=m from hB1) (by kernel_rfl) (by kernel_rfl))<|all_nil,all_nil⟩⟩ h hk hQ
variable {link eT p0 p1 p2:Int} {b0 o0 b1 o1:Nat}
theorem VZ {K J V:dY} {P:iF}  (hw0:fu w0 (nc::ex') B1 (k) 5 b0 o0 [num (link),num (eT),num (p0),num (p1),num (p2)]) (hw1:fu w0 (nc::ex') Lk (link) 24 b1 o1 [num (P 0),num (P 1),num (P 2),num (P 3),num (P 4),num (P 5),num (P 6),num (P 7),num (P 8),num (P 9),num (P 10),num (P 11),num (P 12),num (P 13),num (P 14),num (P 15),num (P 16),num (P 17),num (P 18),num (P 19),num (P 20),num (P 21),num (P 22),num (P 23)])
  (hown:∀q∈[nc]++[nr,n6,nb],q∈((nc::ex'):List Nat)∨w0.heap.size≤q) (hnd:([nc]++[nr,n6,nb]:List Nat).Nodup) (h:dP (dS 137 [(0,dK nc),(4,dK nr),(6,dK n6),(7,dJ Lk),(8,dK nb),(9,dJ O),(64,dJ B1),(65,num (m)),(66,num (k))]) [(nc,[.bool (f)],88)] [(nr,[dJ B0,dJ B1],35),(n6,[.pointer none,.slice none 0 0,.slice none 0 0,.slice none 0 0,.slice none 0 0],92),(nb,[dK nc,dJ B0,dJ B1,dJ A,dJ M],92)] a w) (hk:dO w0 (nc::ex') w)
  (hQ:∀(a':Act) (w':World) (n13 n14 n15:Nat),(∀q∈([n13,n14,n15]:List Nat),w.heap.size≤q∧q<w'.heap.size)→([nc]++[nr,n6,nb]++[]++[n13,n14,n15]:List Nat).Nodup→dP (dS 137 [(0,dK nc),(4,dK nr),(6,dK n6),(7,dJ Lk),(8,dK nb),(9,dJ O),(64,dJ B1),(65,num (m)),(66,num (k)),(13,dK n13),(14,dK n14),(15,dK n15)]) [(nc,[.bool (f)],88)] [(nr,[dJ B0,dJ B1],35),(n6,[.pointer none,.slice none 0 0,.slice none 0 0,.slice none 0 0,.slice none 0 0],92),(nb,[dK nc,dJ B0,dJ B1,dJ A,dJ M],92),(n13,[num (link),num (eT),num (p0),num (p1),num (p2)],54),(n14,[dK nc,num (jS P p0 p1 p2).a,num (jS P p0 p1 p2).b,num (jS P p0 p1 p2).c,num (jS P p0 p1 p2).d,num (jS P p0 p1 p2).e,num (jS P p0 p1 p2).f],98),(n15,[num (eT),.slice none 0 0,.slice none 0 0],95)] a' w'→dO w0 (nc::ex') w'→D.wp aa Q a' w'):(o7 [(dZ (uT (dN aD))),(dZ (fU (uT (dN aD)))),(dZ (fU (fU (uT (dN aD)))))] D).wp aa Q a w:=by
 refine xI ([k,m,link,eT,p0,p1,p2]++pl P) ([f]) [B0,B1,Lk,O,A,M,K,J,V] (w0:=w0) (ex:=(nc::ex')) (g:=[]) (wt:=[(1,var 0,5,3),(2,var 2,24,4)]) (lt:=[]) (t:={}) (ws:=[(b0,o0,[num (link),num (eT),num (p0),num (p1),num (p2)]),(b1,o1,[num (P 0),num (P 1),num (P 2),num (P 3),num (P 4),num (P 5),num (P 6),num (P 7),num (P 8),num (P 9),num (P 10),num (P 11),num (P 12),num (P 13),num (P 14),num (P 15),num (P 16),num (P 17),num (P 18),num (P 19),num (P 20),num (P 21),num (P 22),num (P 23)])]) (fr:=fK 137 [(0,.pointer (some ⟨0,0,none⟩)),(4,.pointer (some ⟨0,0,some 0⟩)),(6,.pointer (some ⟨1,0,some 0⟩)),(7,dM 2),(8,.pointer (some ⟨2,0,some 0⟩)),(9,dM 3),(64,dM 1),(65,var 1),(66,var 0)]) (H:=[dQ [mB 1 [.int .i64 0]] 88]) (lo:=[dQ [dM 0,dM 1] 35,dQ [.pointer none,.slice none 0 0,.slice none 0 0,.slice none 0 0,.slice none 0 0] 92,dQ [.pointer (some ⟨0,0,none⟩),dM 0,dM 1,dM 4,dM 5] 92]) (wb:=[dU (vs 2 5),dU (vs 7 24)]) (us':=fun gn nl=>dS 137 [(0,dK nc),(4,dK nr),(6,dK n6),(7,dJ Lk),(8,dK nb),(9,dJ O),(64,dJ B1),(65,num (m)),(66,num (k)),(13,dK (nl.getD 0 0)),(14,dK (nl.getD 1 0)),(15,dK (nl.getD 2 0))]) (gs':=fun gn nl=>[(nc,[.bool (f)],88)]) (ls':=fun gn nl=>[(nr,[dJ B0,dJ B1],35),(n6,[.pointer none,.slice none 0 0,.slice none 0 0,.slice none 0 0,.slice none 0 0],92),(nb,[dK nc,dJ B0,dJ B1,dJ A,dJ M],92),((nl.getD 0 0),[num (link),num (eT),num (p0),num (p1),num (p2)],54),((nl.getD 1 0),[dK nc,num (jS P p0 p1 p2).a,num (jS P p0 p1 p2).b,num (jS P p0 p1 p2).c,num (jS P p0 p1 p2).d,num (jS P p0 p1 p2).e,num (jS P p0 p1 p2).f],98),((nl.getD 2 0),[num (eT),.slice none 0 0,.slice none 0 0],95)]) 41 _ [0] [0,1,2,5,6,7] [] [13,14,15] (fun gn nl e1 e2=>?_) (by kernel_rfl) (fun gn nl e1 e2 e3=>?_) ⟨fB _,jo,dR hw0.wf<|dR hw1.wf<|all_nil,(by exact hown),jG,fun _=>⟨dR (qa hw0 rfl rfl rfl rfl)<|dR (qa hw1 rfl rfl rfl rfl)<|all_nil,all_nil,all_nil⟩⟩ h hk (fun a' w' gn nl e1 e2 e3 e4 hs hk'=>?_)
 ·match gn,nl,e1,e2 with
  | [],[n13,n14,n15],_,_=>show (_:Option _)=_; kernel_rfl
 ·match gn,nl,e1,e2 with
  | [],[n13,n14,n15],_,_=>exact oP e3
 ·match gn,nl,e1,e2 with
  | [],[n13,n14,n15],_,_ =>
   simp only [bN,bZ] at hs
   exact hQ a' w' n13 n14 n15 (fun q hq=>e4 q hq) e3 hs hk'
variable {at_:V6} {n14 n15:Nat}
theorem VT {K J V:dY} {n13:Nat}
  (hown:∀q∈[nc]++[nr,n6,nb,n13,n14,n15],q∈((nc::ex'):List Nat)∨w0.heap.size≤q) (hnd:([nc]++[nr,n6,nb,n13,n14,n15]:List Nat).Nodup) (h:dP (dS 137 [(0,dK nc),(4,dK nr),(6,dK n6),(7,dJ Lk),(8,dK nb),(9,dJ O),(64,dJ B1),(65,num (m)),(66,num (k)),(13,dK n13),(14,dK n14),(15,dK n15)]) [(nc,[.bool (f)],88)] [(nr,[dJ B0,dJ B1],35),(n6,[.pointer none,.slice none 0 0,.slice none 0 0,.slice none 0 0,.slice none 0 0],92),(nb,[dK nc,dJ B0,dJ B1,dJ A,dJ M],92),(n13,[num (link),num (eT),num (p0),num (p1),num (p2)],54),(n14,[dK nc,num at_.a,num at_.b,num at_.c,num at_.d,num at_.e,num at_.f],98),(n15,[num (eT),.slice none 0 0,.slice none 0 0],95)] a w) (hk:dO w0 (nc::ex') w)
  (hQ:∀a' w',dP (dS 137 [(0,dK nc),(4,dK nr),(6,dK n6),(7,dJ Lk),(8,dK nb),(9,dJ O),(64,dJ B1),(65,num (m)),(66,num (k)),(13,dK n13),(14,dK n14),(15,dK n15),(84,.agg ⟨[dJ B0,dJ B1]⟩),(86,num (link))]) [(nc,[.bool (f)],88)] [(nr,[dJ B0,dJ B1],35),(n6,[.pointer none,.slice none 0 0,.slice none 0 0,.slice none 0 0,.slice none 0 0],92),(nb,[dK nc,dJ B0,dJ B1,dJ A,dJ M],92),(n13,[num (link),num (eT),num (p0),num (p1),num (p2)],54),(n14,[dK nc,num at_.a,num at_.b,num at_.c,num at_.d,num at_.e,num at_.f],98),(n15,[num (eT),.slice none 0 0,.slice none 0 0],95)] a' w'→dO w0 (nc::ex') w'→wpList aa (opsOf (rz (dN aD))).toArray Q (((opsOf (rz (dN aD))).drop 3)) a' w'):wpList aa (opsOf (rz (dN aD))).toArray Q ((opsOf (rz (dN aD))).take 3++(((opsOf (rz (dN aD))).drop 3))) a w:=by
 refine uw ([k,m,link,eT,p0,p1,p2]++at_.l) ([f]) [B0,B1,Lk,O,A,M,K,J,V] (ops:=opsOf (rz (dN aD))) (o1:=(opsOf (rz (dN aD))).take 3) (tail:=(((opsOf (rz (dN aD))).drop 3))) (w0:=w0) (ex:=(nc::ex')) (g:=[]) (wt:=[]) (lt:=[]) (t:={}) (ws:=[]) (fr:=fK 137 [(0,.pointer (some ⟨0,0,none⟩)),(4,.pointer (some ⟨0,0,some 0⟩)),(6,.pointer (some ⟨1,0,some 0⟩)),(7,dM 2),(8,.pointer (some ⟨2,0,some 0⟩)),(9,dM 3),(64,dM 1),(65,var 1),(66,var 0),(13,.pointer (some ⟨3,0,some 0⟩)),(14,.pointer (some ⟨4,0,some 0⟩)),(15,.pointer (some ⟨5,0,some 0⟩))]) (H:=[dQ [mB 1 [.int .i64 0]] 88]) (lo:=[dQ [dM 0,dM 1] 35,dQ [.pointer none,.slice none 0 0,.slice none 0 0,.slice none 0 0,.slice none 0 0] 92,dQ [.pointer (some ⟨0,0,none⟩),dM 0,dM 1,dM 4,dM 5] 92,dQ (vs 2 5) 54,dQ (.pointer (some ⟨0,0,none⟩)::vs 7 6) 98,dQ [var 3,.slice none 0 0,.slice none 0 0] 95]) (wb:=[])  (by kernel_rfl) [0] [0,1,2,3,4,5] (by kernel_rfl) (by kernel_rfl) (by exact hnd) ⟨fB _,jo,all_nil,(by exact hown),jG,fun _=>⟨all_nil,all_nil,all_nil⟩⟩ h hk hQ
variable {K J V:dY} {c:Int}
theorem VU {link p0 p1 p2:Int} (hK:(K.2.1:Int)=c)
  (hown:∀q∈[nc]++[nr,n6,nb,n14,n15],q∈((nc::ex'):List Nat)∨w0.heap.size≤q) (hnd:([nc]++[nr,n6,nb,n14,n15]:List Nat).Nodup) (h:dP (dS 137 [(0,dK nc),(4,dK nr),(6,dK n6),(7,dJ Lk),(8,dK nb),(9,dJ O),(64,dJ B1),(65,num (m)),(66,num (k)),(14,dK n14),(15,dK n15),(87,dJ K)]) [(nc,[.bool (f)],88)] [(nr,[dJ B0,dJ B1],35),(n6,[.pointer none,.slice none 0 0,.slice none 0 0,.slice none 0 0,.slice none 0 0],92),(nb,[dK nc,dJ B0,dJ B1,dJ A,dJ M],92),(n14,[dK nc,num at_.a,num at_.b,num at_.c,num at_.d,num at_.e,num at_.f],98),(n15,[num (eT),dJ J,dJ V],95)] a w) (hk:dO w0 (nc::ex') w)
  (hQ:∀a' w',dP (dS 137 [(0,dK nc),(4,dK nr),(6,dK n6),(7,dJ Lk),(8,dK nb),(9,dJ O),(64,dJ B1),(65,num (m)),(66,num (k)),(14,dK n14),(15,dK n15),(87,dJ K),(88,num (c)),(89,num (0))]) [(nc,[.bool (f)],88)] [(nr,[dJ B0,dJ B1],35),(n6,[.pointer none,.slice none 0 0,.slice none 0 0,.slice none 0 0,.slice none 0 0],92),(nb,[dK nc,dJ B0,dJ B1,dJ A,dJ M],92),(n14,[dK nc,num at_.a,num at_.b,num at_.c,num at_.d,num at_.e,num at_.f],98),(n15,[num (eT),dJ J,dJ V],95)] a' w'→dO w0 (nc::ex') w'→wpList aa (opsOf (rz (dN aD))).toArray Q ([]) a' w'):wpList aa (opsOf (rz (dN aD))).toArray Q ((opsOf (rz (dN aD))).drop 4++([])) a w:=by
 refine uw ([k,m,link,eT,p0,p1,p2]++at_.l++[c]) ([f]) [B0,B1,Lk,O,A,M,K,J,V] (ops:=opsOf (rz (dN aD))) (o1:=(opsOf (rz (dN aD))).drop 4) (tail:=([])) (w0:=w0) (ex:=(nc::ex')) (g:=[]) (wt:=[]) (lt:=[(6,var 13)]) (t:={}) (ws:=[]) (fr:=fK 137 [(0,.pointer (some ⟨0,0,none⟩)),(4,.pointer (some ⟨0,0,some 0⟩)),(6,.pointer (some ⟨1,0,some 0⟩)),(7,dM 2),(8,.pointer (some ⟨2,0,some 0⟩)),(9,dM 3),(64,dM 1),(65,var 1),(66,var 0),(14,.pointer (some ⟨3,0,some 0⟩)),(15,.pointer (some ⟨4,0,some 0⟩)),(87,dM 6)]) (H:=[dQ [mB 1 [.int .i64 0]] 88]) (lo:=[dQ [dM 0,dM 1] 35,dQ [.pointer none,.slice none 0 0,.slice none 0 0,.slice none 0 0,.slice none 0 0] 92,dQ [.pointer (some ⟨0,0,none⟩),dM 0,dM 1,dM 4,dM 5] 92,dQ (.pointer (some ⟨0,0,none⟩)::vs 7 6) 98,dQ [var 3,dM 7,dM 8] 95]) (wb:=[])  (by kernel_rfl) [0] [0,1,2,3,4] (by kernel_rfl) (by kernel_rfl) (by exact hnd) ⟨fB _,jo,all_nil,(by exact hown),jG,fun _=>⟨all_nil,dR (CZ rfl (show (K.2.1:Int)=c from hK) (by kernel_rfl) (by kernel_rfl))<|all_nil,all_nil⟩⟩ h hk hQ
variable {i:Int}
theorem Wl {link p0 p1 p2:Int} (hl:decide (i<c)=false)
  (hown:∀q∈[nc]++[nr,n6,nb,n14,n15],q∈((nc::ex'):List Nat)∨w0.heap.size≤q) (hnd:([nc]++[nr,n6,nb,n14,n15]:List Nat).Nodup) (h:dP (dS 137 [(0,dK nc),(4,dK nr),(6,dK n6),(7,dJ Lk),(8,dK nb),(9,dJ O),(64,dJ B1),(65,num (m)),(66,num (k)),(14,dK n14),(15,dK n15),(87,dJ K),(88,num (c)),(89,num (i))]) [(nc,[.bool (f)],88)] [(nr,[dJ B0,dJ B1],35),(n6,[.pointer none,.slice none 0 0,.slice none 0 0,.slice none 0 0,.slice none 0 0],92),(nb,[dK nc,dJ B0,dJ B1,dJ A,dJ M],92),(n14,[dK nc,num at_.a,num at_.b,num at_.c,num at_.d,num at_.e,num at_.f],98),(n15,[num (eT),dJ J,dJ V],95)] a w) (hk:dO w0 (nc::ex') w)
  (hQ:∀a' w',dP (dS 137 [(0,dK nc),(4,dK nr),(6,dK n6),(7,dJ Lk),(8,dK nb),(9,dJ O),(64,dJ B1),(65,num (m)),(66,num (k)),(14,dK n14),(15,dK n15),(87,dJ K),(88,num (c)),(89,num (i))]) [(nc,[.bool (f)],88)] [(nr,[dJ B0,dJ B1],35),(n6,[.pointer none,.slice none 0 0,.slice none 0 0,.slice none 0 0,.slice none 0 0],92),(nb,[dK nc,dJ B0,dJ B1,dJ A,dJ M],92),(n14,[dK nc,num at_.a,num at_.b,num at_.c,num at_.d,num at_.e,num at_.f],98),(n15,[num (eT),dJ J,dJ V],95)] a' w'→dO w0 (nc::ex') w'→Q (.exit 4) a' w'):(rE (dN aD)).wp aa Q a w:=by
 refine Cq ([k,m,link,eT,p0,p1,p2]++at_.l++[c,i]) ([f]) [B0,B1,Lk,O,A,M,K,J,V] (w0:=w0) (ex:=(nc::ex')) (g:=[(mB 20 [var 14,var 13],.bool false)]) (wt:=[]) (lt:=[]) (t:={}) (ws:=[]) (fr:=fK 137 [(0,.pointer (some ⟨0,0,none⟩)),(4,.pointer (some ⟨0,0,some 0⟩)),(6,.pointer (some ⟨1,0,some 0⟩)),(7,dM 2),(8,.pointer (some ⟨2,0,some 0⟩)),(9,dM 3),(64,dM 1),(65,var 1),(66,var 0),(14,.pointer (some ⟨3,0,some 0⟩)),(15,.pointer (some ⟨4,0,some 0⟩)),(87,dM 6),(88,var 13),(89,var 14)]) (H:=[dQ [mB 1 [.int .i64 0]] 88]) (lo:=[dQ [dM 0,dM 1] 35,dQ [.pointer none,.slice none 0 0,.slice none 0 0,.slice none 0 0,.slice none 0 0] 92,dQ [.pointer (some ⟨0,0,none⟩),dM 0,dM 1,dM 4,dM 5] 92,dQ (.pointer (some ⟨0,0,none⟩)::vs 7 6) 98,dQ [var 3,dM 7,dM 8] 95]) (wb:=[])  41 (.exit 4) [0] [0,1,2,3,4] (by kernel_rfl) (by kernel_rfl) (by exact hnd) ⟨fq (b:=(decide (i<c))) (by kernel_rfl) hl (fB _),jo,all_nil,(by exact hown),jG,fun _=>⟨all_nil,all_nil,all_nil⟩⟩ h hk hQ
theorem VY {link p0 p1 p2:Int} (hl:decide (i<c)=true)
  (hown:∀q∈[nc]++[nr,n6,nb,n14,n15],q∈((nc::ex'):List Nat)∨w0.heap.size≤q) (hnd:([nc]++[nr,n6,nb,n14,n15]:List Nat).Nodup) (h:dP (dS 137 [(0,dK nc),(4,dK nr),(6,dK n6),(7,dJ Lk),(8,dK nb),(9,dJ O),(64,dJ B1),(65,num (m)),(66,num (k)),(14,dK n14),(15,dK n15),(87,dJ K),(88,num (c)),(89,num (i))]) [(nc,[.bool (f)],88)] [(nr,[dJ B0,dJ B1],35),(n6,[.pointer none,.slice none 0 0,.slice none 0 0,.slice none 0 0,.slice none 0 0],92),(nb,[dK nc,dJ B0,dJ B1,dJ A,dJ M],92),(n14,[dK nc,num at_.a,num at_.b,num at_.c,num at_.d,num at_.e,num at_.f],98),(n15,[num (eT),dJ J,dJ V],95)] a w) (hk:dO w0 (nc::ex') w)
  (hQ:∀a' w',dP (dS 137 [(0,dK nc),(4,dK nr),(6,dK n6),(7,dJ Lk),(8,dK nb),(9,dJ O),(64,dJ B1),(65,num (m)),(66,num (k)),(14,dK n14),(15,dK n15),(87,dJ K),(88,num (c)),(89,num (i))]) [(nc,[.bool (f)],88)] [(nr,[dJ B0,dJ B1],35),(n6,[.pointer none,.slice none 0 0,.slice none 0 0,.slice none 0 0,.slice none 0 0],92),(nb,[dK nc,dJ B0,dJ B1,dJ A,dJ M],92),(n14,[dK nc,num at_.a,num at_.b,num at_.c,num at_.d,num at_.e,num at_.f],98),(n15,[num (eT),dJ J,dJ V],95)] a' w'→dO w0 (nc::ex') w'→D.wp aa Q a' w'):(o7 [(dZ (rE (dN aD))),(dZ (fU (rE (dN aD))))] D).wp aa Q a w:=by
 refine uN ([k,m,link,eT,p0,p1,p2]++at_.l++[c,i]) ([f]) [B0,B1,Lk,O,A,M,K,J,V] (w0:=w0) (ex:=(nc::ex')) (g:=[(mB 20 [var 14,var 13],.bool true)]) (wt:=[]) (lt:=[]) (t:={}) (ws:=[]) (fr:=fK 137 [(0,.pointer (some ⟨0,0,none⟩)),(4,.pointer (some ⟨0,0,some 0⟩)),(6,.pointer (some ⟨1,0,some 0⟩)),(7,dM 2),(8,.pointer (some ⟨2,0,some 0⟩)),(9,dM 3),(64,dM 1),(65,var 1),(66,var 0),(14,.pointer (some ⟨3,0,some 0⟩)),(15,.pointer (some ⟨4,0,some 0⟩)),(87,dM 6),(88,var 13),(89,var 14)]) (H:=[dQ [mB 1 [.int .i64 0]] 88]) (lo:=[dQ [dM 0,dM 1] 35,dQ [.pointer none,.slice none 0 0,.slice none 0 0,.slice none 0 0,.slice none 0 0] 92,dQ [.pointer (some ⟨0,0,none⟩),dM 0,dM 1,dM 4,dM 5] 92,dQ (.pointer (some ⟨0,0,none⟩)::vs 7 6) 98,dQ [var 3,dM 7,dM 8] 95]) (wb:=[])  41 _ [0] [0,1,2,3,4] (by kernel_rfl) (by kernel_rfl) (by exact hnd) ⟨fq (b:=(decide (i<c))) (by kernel_rfl) hl (fB _),jo,all_nil,(by exact hown),jG,fun _=>⟨all_nil,all_nil,all_nil⟩⟩ h hk hQ
theorem MK {link p0 p1 p2:Int}
  (hown:∀q∈[nc]++[nr,n6,nb,n14,n15],q∈((nc::ex'):List Nat)∨w0.heap.size≤q) (hnd:([nc]++[nr,n6,nb,n14,n15]:List Nat).Nodup) (h:dP (dS 137 [(0,dK nc),(4,dK nr),(6,dK n6),(7,dJ Lk),(8,dK nb),(9,dJ O),(64,dJ B1),(65,num (m)),(66,num (k)),(14,dK n14),(15,dK n15),(87,dJ K),(88,num (c)),(89,num (i))]) [(nc,[.bool (f)],88)] [(nr,[dJ B0,dJ B1],35),(n6,[.pointer none,.slice none 0 0,.slice none 0 0,.slice none 0 0,.slice none 0 0],92),(nb,[dK nc,dJ B0,dJ B1,dJ A,dJ M],92),(n14,[dK nc,num at_.a,num at_.b,num at_.c,num at_.d,num at_.e,num at_.f],98),(n15,[num (eT),dJ J,dJ V],95)] a w) (hk:dO w0 (nc::ex') w)
  (hQ:∀a' w',dP (dS 137 [(0,dK nc),(4,dK nr),(6,dK n6),(7,dJ Lk),(8,dK nb),(9,dJ O),(64,dJ B1),(65,num (m)),(66,num (k)),(14,dK n14),(15,dK n15),(87,dJ K),(88,num (c)),(89,num (bg.wrap (i+1)))]) [(nc,[.bool (f)],88)] [(nr,[dJ B0,dJ B1],35),(n6,[.pointer none,.slice none 0 0,.slice none 0 0,.slice none 0 0,.slice none 0 0],92),(nb,[dK nc,dJ B0,dJ B1,dJ A,dJ M],92),(n14,[dK nc,num at_.a,num at_.b,num at_.c,num at_.d,num at_.e,num at_.f],98),(n15,[num (eT),dJ J,dJ V],95)] a' w'→dO w0 (nc::ex') w'→Q (.normal) a' w'):(sR 3 (rE (dN aD))).wp aa Q a w:=by
 refine Cq ([k,m,link,eT,p0,p1,p2]++at_.l++[c,i]) ([f]) [B0,B1,Lk,O,A,M,K,J,V] (w0:=w0) (ex:=(nc::ex')) (g:=[]) (wt:=[]) (lt:=[]) (t:={}) (ws:=[]) (fr:=fK 137 [(0,.pointer (some ⟨0,0,none⟩)),(4,.pointer (some ⟨0,0,some 0⟩)),(6,.pointer (some ⟨1,0,some 0⟩)),(7,dM 2),(8,.pointer (some ⟨2,0,some 0⟩)),(9,dM 3),(64,dM 1),(65,var 1),(66,var 0),(14,.pointer (some ⟨3,0,some 0⟩)),(15,.pointer (some ⟨4,0,some 0⟩)),(87,dM 6),(88,var 13),(89,var 14)]) (H:=[dQ [mB 1 [.int .i64 0]] 88]) (lo:=[dQ [dM 0,dM 1] 35,dQ [.pointer none,.slice none 0 0,.slice none 0 0,.slice none 0 0,.slice none 0 0] 92,dQ [.pointer (some ⟨0,0,none⟩),dM 0,dM 1,dM 4,dM 5] 92,dQ (.pointer (some ⟨0,0,none⟩)::vs 7 6) 98,dQ [var 3,dM 7,dM 8] 95]) (wb:=[])  41 (.normal) [0] [0,1,2,3,4] (by kernel_rfl) (by kernel_rfl) (by exact hnd) ⟨fB _,jo,all_nil,(by exact hown),jG,fun _=>⟨all_nil,all_nil,all_nil⟩⟩ h hk hQ
variable {j:Int} {jv:JV}
theorem VW {link p0 p1 p2:Int} (hf:(jv.kind==0)=true) (hw0:fu w0 (nc::ex') K (i) 1 b0 o0 [num (j)]) (hw1:fu w0 (nc::ex') B0 (j) 12 b1 o1 [.string jv.name,num jv.kind,num jv.parent,num jv.o0,num jv.o1,num jv.o2,num jv.lo,num jv.hi,num jv.weight,num jv.speed,num jv.iL,num jv.iO])
  (hown:∀q∈[nc]++[nr,n6,nb,n14,n15],q∈((nc::ex'):List Nat)∨w0.heap.size≤q) (hnd:([nc]++[nr,n6,nb,n14,n15]:List Nat).Nodup) (h:dP (dS 137 [(0,dK nc),(4,dK nr),(6,dK n6),(7,dJ Lk),(8,dK nb),(9,dJ O),(64,dJ B1),(65,num (m)),(66,num (k)),(14,dK n14),(15,dK n15),(87,dJ K),(88,num (c)),(89,num (i))]) [(nc,[.bool (f)],88)] [(nr,[dJ B0,dJ B1],35),(n6,[.pointer none,.slice none 0 0,.slice none 0 0,.slice none 0 0,.slice none 0 0],92),(nb,[dK nc,dJ B0,dJ B1,dJ A,dJ M],92),(n14,[dK nc,num at_.a,num at_.b,num at_.c,num at_.d,num at_.e,num at_.f],98),(n15,[num (eT),dJ J,dJ V],95)] a w) (hk:dO w0 (nc::ex') w)
  (hQ:∀a' w',dP (dS 137 [(0,dK nc),(4,dK nr),(6,dK n6),(7,dJ Lk),(8,dK nb),(9,dJ O),(64,dJ B1),(65,num (m)),(66,num (k)),(14,dK n14),(15,dK n15),(87,dJ K),(88,num (c)),(89,num (bg.wrap (i+1)))]) [(nc,[.bool (f)],88)] [(nr,[dJ B0,dJ B1],35),(n6,[.pointer none,.slice none 0 0,.slice none 0 0,.slice none 0 0,.slice none 0 0],92),(nb,[dK nc,dJ B0,dJ B1,dJ A,dJ M],92),(n14,[dK nc,num at_.a,num at_.b,num at_.c,num at_.d,num at_.e,num at_.f],98),(n15,[num (eT),dJ J,dJ V],95)] a' w'→dO w0 (nc::ex') w'→Q (.normal) a' w'):(fU (fU (rE (dN aD)))).wp aa Q a w:=by
 refine Cq ([k,m,link,eT,p0,p1,p2]++at_.l++[c,i]++[j]++fE jv) ([f]) [B0,B1,Lk,O,A,M,K,J,V] (w0:=w0) (ex:=(nc::ex')) (g:=[(mB 24 [var 16,.int .i64 0],.bool true)]) (wt:=[(6,var 14,1,5),(0,var 15,12,6)]) (lt:=[]) (t:={}) (ws:=[(b0,o0,[num (j)]),(b1,o1,[.string jv.name,num jv.kind,num jv.parent,num jv.o0,num jv.o1,num jv.o2,num jv.lo,num jv.hi,num jv.weight,num jv.speed,num jv.iL,num jv.iO])]) (fr:=fK 137 [(0,.pointer (some ⟨0,0,none⟩)),(4,.pointer (some ⟨0,0,some 0⟩)),(6,.pointer (some ⟨1,0,some 0⟩)),(7,dM 2),(8,.pointer (some ⟨2,0,some 0⟩)),(9,dM 3),(64,dM 1),(65,var 1),(66,var 0),(14,.pointer (some ⟨3,0,some 0⟩)),(15,.pointer (some ⟨4,0,some 0⟩)),(87,dM 6),(88,var 13),(89,var 14)]) (H:=[dQ [mB 1 [.int .i64 0]] 88]) (lo:=[dQ [dM 0,dM 1] 35,dQ [.pointer none,.slice none 0 0,.slice none 0 0,.slice none 0 0,.slice none 0 0] 92,dQ [.pointer (some ⟨0,0,none⟩),dM 0,dM 1,dM 4,dM 5] 92,dQ (.pointer (some ⟨0,0,none⟩)::vs 7 6) 98,dQ [var 3,dM 7,dM 8] 95]) (wb:=[dU [var 15],dU (.string jv.name::vs 16 11)])  41 (.normal) [0] [0,1,2,3,4] (by kernel_rfl) (by kernel_rfl) (by exact hnd) ⟨fq (b:=(jv.kind==0)) (by kernel_rfl) hf (fB _),jo,dR hw0.wf<|dR hw1.wf<|all_nil,(by exact hown),jG,fun _=>⟨dR (qa hw0 rfl rfl rfl rfl)<|dR (qa hw1 rfl rfl rfl rfl)<|all_nil,all_nil,all_nil⟩⟩ h hk hQ
variable {ax:V6} {b2 o2:Nat}
theorem Wi {link p0 p1 p2:Int} (hf:(jv.kind==0)=false) (ht:kG jv.kind=false) (hw0:fu w0 (nc::ex') K (i) 1 b0 o0 [num (j)]) (hw1:fu w0 (nc::ex') B0 (j) 12 b1 o1 [.string jv.name,num jv.kind,num jv.parent,num jv.o0,num jv.o1,num jv.o2,num jv.lo,num jv.hi,num jv.weight,num jv.speed,num jv.iL,num jv.iO]) (hw2:fu w0 (nc::ex') A (j) 7 b2 o2 [dK nc,num ax.a,num ax.b,num ax.c,num ax.d,num ax.e,num ax.f])
  (hown:∀q∈[nc]++[nr,n6,nb,n14,n15],q∈((nc::ex'):List Nat)∨w0.heap.size≤q) (hnd:([nc]++[nr,n6,nb,n14,n15]:List Nat).Nodup) (h:dP (dS 137 [(0,dK nc),(4,dK nr),(6,dK n6),(7,dJ Lk),(8,dK nb),(9,dJ O),(64,dJ B1),(65,num (m)),(66,num (k)),(14,dK n14),(15,dK n15),(87,dJ K),(88,num (c)),(89,num (i))]) [(nc,[.bool (f)],88)] [(nr,[dJ B0,dJ B1],35),(n6,[.pointer none,.slice none 0 0,.slice none 0 0,.slice none 0 0,.slice none 0 0],92),(nb,[dK nc,dJ B0,dJ B1,dJ A,dJ M],92),(n14,[dK nc,num at_.a,num at_.b,num at_.c,num at_.d,num at_.e,num at_.f],98),(n15,[num (eT),dJ J,dJ V],95)] a w) (hk:dO w0 (nc::ex') w)
  (hQ:∀(a':Act) (w':World) (n19:Nat),(∀q∈([n19]:List Nat),w.heap.size≤q∧q<w'.heap.size)→([nc]++[nr,n6,nb,n14,n15]++[]++[n19]:List Nat).Nodup→dP (dS 137 [(0,dK nc),(4,dK nr),(6,dK n6),(7,dJ Lk),(8,dK nb),(9,dJ O),(64,dJ B1),(65,num (m)),(66,num (k)),(14,dK n14),(15,dK n15),(87,dJ K),(88,num (c)),(89,num (i)),(17,num j),(19,dK n19)]) [(nc,[.bool (f)],88)] [(nr,[dJ B0,dJ B1],35),(n6,[.pointer none,.slice none 0 0,.slice none 0 0,.slice none 0 0,.slice none 0 0],92),(nb,[dK nc,dJ B0,dJ B1,dJ A,dJ M],92),(n14,[dK nc,num at_.a,num at_.b,num at_.c,num at_.d,num at_.e,num at_.f],98),(n15,[num (eT),dJ J,dJ V],95),(n19,[dK nc,num ax.a,num ax.b,num ax.c,num ax.d,num ax.e,num ax.f],98)] a' w'→dO w0 (nc::ex') w'→D.wp aa Q a' w'):(o7 [(dZ (nN (dN aD))),(dZ (fU (nN (dN aD)))),(dZ (fU (fU (nN (dN aD))))),(dZ (sR 3 (nN (dN aD)))),(dZ (sR 4 (nN (dN aD))))] D).wp aa Q a w:=by
 refine xI ([k,m,link,eT,p0,p1,p2]++at_.l++[c,i]++[j]++fE jv++ax.l) ([f]) [B0,B1,Lk,O,A,M,K,J,V] (w0:=w0) (ex:=(nc::ex')) (g:=[(mB 24 [var 16,.int .i64 0],.bool false),(mB 1242 [var 16],.bool false)]) (wt:=[(6,var 14,1,5),(0,var 15,12,6),(4,var 15,7,7)]) (lt:=[]) (t:={}) (ws:=[(b0,o0,[num (j)]),(b1,o1,[.string jv.name,num jv.kind,num jv.parent,num jv.o0,num jv.o1,num jv.o2,num jv.lo,num jv.hi,num jv.weight,num jv.speed,num jv.iL,num jv.iO]),(b2,o2,[dK nc,num ax.a,num ax.b,num ax.c,num ax.d,num ax.e,num ax.f])]) (fr:=fK 137 [(0,.pointer (some ⟨0,0,none⟩)),(4,.pointer (some ⟨0,0,some 0⟩)),(6,.pointer (some ⟨1,0,some 0⟩)),(7,dM 2),(8,.pointer (some ⟨2,0,some 0⟩)),(9,dM 3),(64,dM 1),(65,var 1),(66,var 0),(14,.pointer (some ⟨3,0,some 0⟩)),(15,.pointer (some ⟨4,0,some 0⟩)),(87,dM 6),(88,var 13),(89,var 14)]) (H:=[dQ [mB 1 [.int .i64 0]] 88]) (lo:=[dQ [dM 0,dM 1] 35,dQ [.pointer none,.slice none 0 0,.slice none 0 0,.slice none 0 0,.slice none 0 0] 92,dQ [.pointer (some ⟨0,0,none⟩),dM 0,dM 1,dM 4,dM 5] 92,dQ (.pointer (some ⟨0,0,none⟩)::vs 7 6) 98,dQ [var 3,dM 7,dM 8] 95]) (wb:=[dU [var 15],dU (.string jv.name::vs 16 11),dU (.pointer (some ⟨0,0,none⟩)::vs 27 6)]) (us':=fun gn nl=>dS 137 [(0,dK nc),(4,dK nr),(6,dK n6),(7,dJ Lk),(8,dK nb),(9,dJ O),(64,dJ B1),(65,num (m)),(66,num (k)),(14,dK n14),(15,dK n15),(87,dJ K),(88,num (c)),(89,num (i)),(17,num j),(19,dK (nl.getD 0 0))]) (gs':=fun gn nl=>[(nc,[.bool (f)],88)]) (ls':=fun gn nl=>[(nr,[dJ B0,dJ B1],35),(n6,[.pointer none,.slice none 0 0,.slice none 0 0,.slice none 0 0,.slice none 0 0],92),(nb,[dK nc,dJ B0,dJ B1,dJ A,dJ M],92),(n14,[dK nc,num at_.a,num at_.b,num at_.c,num at_.d,num at_.e,num at_.f],98),(n15,[num (eT),dJ J,dJ V],95),((nl.getD 0 0),[dK nc,num ax.a,num ax.b,num ax.c,num ax.d,num ax.e,num ax.f],98)]) 41 _ [0] [0,1,2,3,4,8] [] [19] (fun gn nl e1 e2=>?_) (by kernel_rfl) (fun gn nl e1 e2 e3=>?_) ⟨fq (b:=(jv.kind==0)) (by kernel_rfl) hf (fq (b:=(kG jv.kind)) (by kernel_rfl) ht (fB _)),jo,dR hw0.wf<|dR hw1.wf<|dR hw2.wf<|all_nil,(by exact hown),jG,fun _=>⟨dR (qa hw0 rfl rfl rfl rfl)<|dR (qa hw1 rfl rfl rfl rfl)<|dR (qa hw2 rfl rfl rfl rfl)<|all_nil,all_nil,all_nil⟩⟩ h hk (fun a' w' gn nl e1 e2 e3 e4 hs hk'=>?_)
 ·match gn,nl,e1,e2 with
  | [],[n19],_,_=>show (_:Option _)=_; kernel_rfl
 ·match gn,nl,e1,e2 with
  | [],[n19],_,_=>exact oP e3
 ·match gn,nl,e1,e2 with
  | [],[n19],_,_ =>
   simp only [bN] at hs
   exact hQ a' w' n19 (fun q hq=>e4 q hq) e3 hs hk'
theorem Wj {link p0 p1 p2:Int} {og:V6} {b3 o3:Nat} (hf:(jv.kind==0)=false) (ht:kG jv.kind=true) (hw0:fu w0 (nc::ex') K (i) 1 b0 o0 [num (j)]) (hw1:fu w0 (nc::ex') B0 (j) 12 b1 o1 [.string jv.name,num jv.kind,num jv.parent,num jv.o0,num jv.o1,num jv.o2,num jv.lo,num jv.hi,num jv.weight,num jv.speed,num jv.iL,num jv.iO]) (hw2:fu w0 (nc::ex') A (j) 7 b2 o2 [dK nc,num ax.a,num ax.b,num ax.c,num ax.d,num ax.e,num ax.f]) (hw3:fu w0 (nc::ex') O (j) 7 b3 o3 [dK nc,num og.a,num og.b,num og.c,num og.d,num og.e,num og.f])
  (hown:∀q∈[nc]++[nr,n6,nb,n14,n15],q∈((nc::ex'):List Nat)∨w0.heap.size≤q) (hnd:([nc]++[nr,n6,nb,n14,n15]:List Nat).Nodup) (h:dP (dS 137 [(0,dK nc),(4,dK nr),(6,dK n6),(7,dJ Lk),(8,dK nb),(9,dJ O),(64,dJ B1),(65,num (m)),(66,num (k)),(14,dK n14),(15,dK n15),(87,dJ K),(88,num (c)),(89,num (i))]) [(nc,[.bool (f)],88)] [(nr,[dJ B0,dJ B1],35),(n6,[.pointer none,.slice none 0 0,.slice none 0 0,.slice none 0 0,.slice none 0 0],92),(nb,[dK nc,dJ B0,dJ B1,dJ A,dJ M],92),(n14,[dK nc,num at_.a,num at_.b,num at_.c,num at_.d,num at_.e,num at_.f],98),(n15,[num (eT),dJ J,dJ V],95)] a w) (hk:dO w0 (nc::ex') w)
  (hQ:∀(a':Act) (w':World) (n19:Nat),(∀q∈([n19]:List Nat),w.heap.size≤q∧q<w'.heap.size)→([nc]++[nr,n6,nb,n14,n15]++[]++[n19]:List Nat).Nodup→dP (dS 137 [(0,dK nc),(4,dK nr),(6,dK n6),(7,dJ Lk),(8,dK nb),(9,dJ O),(64,dJ B1),(65,num (m)),(66,num (k)),(14,dK n14),(15,dK n15),(87,dJ K),(88,num (c)),(89,num (i)),(17,num j),(19,dK n19)]) [(nc,[.bool (DF f at_ og ax)],88)] [(nr,[dJ B0,dJ B1],35),(n6,[.pointer none,.slice none 0 0,.slice none 0 0,.slice none 0 0,.slice none 0 0],92),(nb,[dK nc,dJ B0,dJ B1,dJ A,dJ M],92),(n14,[dK nc,num at_.a,num at_.b,num at_.c,num at_.d,num at_.e,num at_.f],98),(n15,[num (eT),dJ J,dJ V],95),(n19,[dK nc,num (sj at_ og ax).a,num (sj at_ og ax).b,num (sj at_ og ax).c,num (sj at_ og ax).d,num (sj at_ og ax).e,num (sj at_ og ax).f],98)] a' w'→dO w0 (nc::ex') w'→D.wp aa Q a' w'):(o7 [(dZ (nN (dN aD))),(dZ (fU (nN (dN aD)))),(dZ (fU (fU (nN (dN aD))))),(dZ (sR 3 (nN (dN aD)))),(dZ (sR 4 (nN (dN aD))))] D).wp aa Q a w:=by
 refine xI ([k,m,link,eT,p0,p1,p2]++at_.l++[c,i]++[j]++fE jv++ax.l++og.l) ([f]) [B0,B1,Lk,O,A,M,K,J,V] (w0:=w0) (ex:=(nc::ex')) (g:=[(mB 24 [var 16,.int .i64 0],.bool false),(mB 1242 [var 16],.bool true)]) (wt:=[(6,var 14,1,5),(0,var 15,12,6),(4,var 15,7,7),(3,var 15,7,8)]) (lt:=[]) (t:={}) (ws:=[(b0,o0,[num (j)]),(b1,o1,[.string jv.name,num jv.kind,num jv.parent,num jv.o0,num jv.o1,num jv.o2,num jv.lo,num jv.hi,num jv.weight,num jv.speed,num jv.iL,num jv.iO]),(b2,o2,[dK nc,num ax.a,num ax.b,num ax.c,num ax.d,num ax.e,num ax.f]),(b3,o3,[dK nc,num og.a,num og.b,num og.c,num og.d,num og.e,num og.f])]) (fr:=fK 137 [(0,.pointer (some ⟨0,0,none⟩)),(4,.pointer (some ⟨0,0,some 0⟩)),(6,.pointer (some ⟨1,0,some 0⟩)),(7,dM 2),(8,.pointer (some ⟨2,0,some 0⟩)),(9,dM 3),(64,dM 1),(65,var 1),(66,var 0),(14,.pointer (some ⟨3,0,some 0⟩)),(15,.pointer (some ⟨4,0,some 0⟩)),(87,dM 6),(88,var 13),(89,var 14)]) (H:=[dQ [mB 1 [.int .i64 0]] 88]) (lo:=[dQ [dM 0,dM 1] 35,dQ [.pointer none,.slice none 0 0,.slice none 0 0,.slice none 0 0,.slice none 0 0] 92,dQ [.pointer (some ⟨0,0,none⟩),dM 0,dM 1,dM 4,dM 5] 92,dQ (.pointer (some ⟨0,0,none⟩)::vs 7 6) 98,dQ [var 3,dM 7,dM 8] 95]) (wb:=[dU [var 15],dU (.string jv.name::vs 16 11),dU (.pointer (some ⟨0,0,none⟩)::vs 27 6),dU (.pointer (some ⟨0,0,none⟩)::vs 33 6)]) (us':=fun gn nl=>dS 137 [(0,dK nc),(4,dK nr),(6,dK n6),(7,dJ Lk),(8,dK nb),(9,dJ O),(64,dJ B1),(65,num (m)),(66,num (k)),(14,dK n14),(15,dK n15),(87,dJ K),(88,num (c)),(89,num (i)),(17,num j),(19,dK (nl.getD 0 0))]) (gs':=fun gn nl=>[(nc,[.bool (DF f at_ og ax)],88)]) (ls':=fun gn nl=>[(nr,[dJ B0,dJ B1],35),(n6,[.pointer none,.slice none 0 0,.slice none 0 0,.slice none 0 0,.slice none 0 0],92),(nb,[dK nc,dJ B0,dJ B1,dJ A,dJ M],92),(n14,[dK nc,num at_.a,num at_.b,num at_.c,num at_.d,num at_.e,num at_.f],98),(n15,[num (eT),dJ J,dJ V],95),((nl.getD 0 0),[dK nc,num (sj at_ og ax).a,num (sj at_ og ax).b,num (sj at_ og ax).c,num (sj at_ og ax).d,num (sj at_ og ax).e,num (sj at_ og ax).f],98)]) 41 _ [0] [0,1,2,3,4,9] [] [19] (fun gn nl e1 e2=>?_) (by kernel_rfl) (fun gn nl e1 e2 e3=>?_) ⟨fq (b:=(jv.kind==0)) (by kernel_rfl) hf (fq (b:=(kG jv.kind)) (by kernel_rfl) ht (fB _)),jo,dR hw0.wf<|dR hw1.wf<|dR hw2.wf<|dR hw3.wf<|all_nil,(by exact hown),jG,fun _=>⟨dR (qa hw0 rfl rfl rfl rfl)<|dR (qa hw1 rfl rfl rfl rfl)<|dR (qa hw2 rfl rfl rfl rfl)<|dR (qa hw3 rfl rfl rfl rfl)<|all_nil,all_nil,all_nil⟩⟩ h hk (fun a' w' gn nl e1 e2 e3 e4 hs hk'=>?_)
 ·match gn,nl,e1,e2 with
  | [],[n19],_,_=>show (_:Option _)=_; kernel_rfl
 ·match gn,nl,e1,e2 with
  | [],[n19],_,_=>exact oP e3
 ·match gn,nl,e1,e2 with
  | [],[n19],_,_ =>
   simp only [bN] at hs
   exact hQ a' w' n19 (fun q hq=>e4 q hq) e3 hs hk'
variable {vl:V6} {n19:Nat}
theorem V5 {link p0 p1 p2:Int}
  (hown:∀q∈[nc]++[nr,n6,nb,n14,n15,n19],q∈((nc::ex'):List Nat)∨w0.heap.size≤q) (hnd:([nc]++[nr,n6,nb,n14,n15,n19]:List Nat).Nodup) (h:dP (dS 137 [(0,dK nc),(4,dK nr),(6,dK n6),(7,dJ Lk),(8,dK nb),(9,dJ O),(64,dJ B1),(65,num (m)),(66,num (k)),(14,dK n14),(15,dK n15),(87,dJ K),(88,num (c)),(89,num (i)),(17,num (j)),(19,dK n19)]) [(nc,[.bool (f)],88)] [(nr,[dJ B0,dJ B1],35),(n6,[.pointer none,.slice none 0 0,.slice none 0 0,.slice none 0 0,.slice none 0 0],92),(nb,[dK nc,dJ B0,dJ B1,dJ A,dJ M],92),(n14,[dK nc,num at_.a,num at_.b,num at_.c,num at_.d,num at_.e,num at_.f],98),(n15,[num (eT),dJ J,dJ V],95),(n19,[dK nc,num vl.a,num vl.b,num vl.c,num vl.d,num vl.e,num vl.f],98)] a w) (hk:dO w0 (nc::ex') w)
  (hQ:∀(a':Act) (w':World) (ny:Nat),(∀q∈([ny]:List Nat),w.heap.size≤q∧q<w'.heap.size)→([nc]++[nr,n6,nb,n14,n15,n19]++[ny]++[]:List Nat).Nodup→dP (dS 137 [(0,dK nc),(4,dK nr),(6,dK n6),(7,dJ Lk),(8,dK nb),(9,dJ O),(64,dJ B1),(65,num (m)),(66,num (k)),(14,dK n14),(15,dK n15),(87,dJ K),(88,num (c)),(89,num (i)),(17,num (j)),(19,dK n19),(117,dJ J),(119,.slice (some ⟨ny,0,none⟩) 1 1)]) [(nc,[.bool (f)],88),(ny,[num (j)],3)] [(nr,[dJ B0,dJ B1],35),(n6,[.pointer none,.slice none 0 0,.slice none 0 0,.slice none 0 0,.slice none 0 0],92),(nb,[dK nc,dJ B0,dJ B1,dJ A,dJ M],92),(n14,[dK nc,num at_.a,num at_.b,num at_.c,num at_.d,num at_.e,num at_.f],98),(n15,[num (eT),dJ J,dJ V],95),(n19,[dK nc,num vl.a,num vl.b,num vl.c,num vl.d,num vl.e,num vl.f],98)] a' w'→dO w0 (nc::ex') w'→wpList aa (opsOf (qg (dN aD))).toArray Q ((opsOf (qg (dN aD))).drop 4) a' w'):wpList aa (opsOf (qg (dN aD))).toArray Q ((opsOf (qg (dN aD))).take 4++((opsOf (qg (dN aD))).drop 4)) a w:=by
 refine FJ ([k,m,link,eT,p0,p1,p2]++at_.l++[c,i]++[j]++vl.l) ([f]) [B0,B1,Lk,O,A,M,K,J,V] (ops:=opsOf (qg (dN aD))) (o1:=(opsOf (qg (dN aD))).take 4) (tail:=((opsOf (qg (dN aD))).drop 4)) (w0:=w0) (ex:=(nc::ex')) (g:=[]) (wt:=[]) (lt:=[]) (t:={}) (ws:=[]) (fr:=fK 137 [(0,.pointer (some ⟨0,0,none⟩)),(4,.pointer (some ⟨0,0,some 0⟩)),(6,.pointer (some ⟨1,0,some 0⟩)),(7,dM 2),(8,.pointer (some ⟨2,0,some 0⟩)),(9,dM 3),(64,dM 1),(65,var 1),(66,var 0),(14,.pointer (some ⟨3,0,some 0⟩)),(15,.pointer (some ⟨4,0,some 0⟩)),(87,dM 6),(88,var 13),(89,var 14),(17,var 15),(19,.pointer (some ⟨5,0,some 0⟩))]) (H:=[dQ [mB 1 [.int .i64 0]] 88]) (lo:=[dQ [dM 0,dM 1] 35,dQ [.pointer none,.slice none 0 0,.slice none 0 0,.slice none 0 0,.slice none 0 0] 92,dQ [.pointer (some ⟨0,0,none⟩),dM 0,dM 1,dM 4,dM 5] 92,dQ (.pointer (some ⟨0,0,none⟩)::vs 7 6) 98,dQ [var 3,dM 7,dM 8] 95,dQ (.pointer (some ⟨0,0,none⟩)::vs 16 6) 98]) (wb:=[]) (us':=fun gn nl=>dS 137 [(0,dK nc),(4,dK nr),(6,dK n6),(7,dJ Lk),(8,dK nb),(9,dJ O),(64,dJ B1),(65,num (m)),(66,num (k)),(14,dK n14),(15,dK n15),(87,dJ K),(88,num (c)),(89,num (i)),(17,num (j)),(19,dK n19),(117,dJ J),(119,.slice (some ⟨(gn.getD 0 0),0,none⟩) 1 1)]) (gs':=fun gn nl=>[(nc,[.bool (f)],88),((gn.getD 0 0),[num (j)],3)]) (ls':=fun gn nl=>[(nr,[dJ B0,dJ B1],35),(n6,[.pointer none,.slice none 0 0,.slice none 0 0,.slice none 0 0,.slice none 0 0],92),(nb,[dK nc,dJ B0,dJ B1,dJ A,dJ M],92),(n14,[dK nc,num at_.a,num at_.b,num at_.c,num at_.d,num at_.e,num at_.f],98),(n15,[num (eT),dJ J,dJ V],95),(n19,[dK nc,num vl.a,num vl.b,num vl.c,num vl.d,num vl.e,num vl.f],98)]) (by kernel_rfl) [0,1] [0,1,2,3,4,5] [119] [] (fun gn nl e1 e2=>?_) (by kernel_rfl) (fun gn nl e1 e2 e3=>?_) ⟨fB _,jo,all_nil,(by exact hown),jG,fun _=>⟨all_nil,all_nil,all_nil⟩⟩ h hk (fun a' w' gn nl e1 e2 e3 e4 hs hk'=>?_)
 ·match gn,nl,e1,e2 with
  | [ny],[],_,_=>show (_:Option _)=_; kernel_rfl
 ·match gn,nl,e1,e2 with
  | [ny],[],_,_=>exact oP e3
 ·match gn,nl,e1,e2 with
  | [ny],[],_,_ =>
   simp only [bN] at hs
   exact hQ a' w' ny (fun q hq=>e4 q hq) e3 hs hk'
variable {S:dY}
theorem V9 {link p0 p1 p2:Int}
  (hown:∀q∈[nc]++[nr,n6,nb,n14,n15,n19],q∈((nc::ex'):List Nat)∨w0.heap.size≤q) (hnd:([nc]++[nr,n6,nb,n14,n15,n19]:List Nat).Nodup) (h:dP (dS 137 [(0,dK nc),(4,dK nr),(6,dK n6),(7,dJ Lk),(8,dK nb),(9,dJ O),(64,dJ B1),(65,num (m)),(66,num (k)),(14,dK n14),(15,dK n15),(87,dJ K),(88,num (c)),(89,num (i)),(17,num (j)),(19,dK n19),(120,dJ S)]) [(nc,[.bool (f)],88)] [(nr,[dJ B0,dJ B1],35),(n6,[.pointer none,.slice none 0 0,.slice none 0 0,.slice none 0 0,.slice none 0 0],92),(nb,[dK nc,dJ B0,dJ B1,dJ A,dJ M],92),(n14,[dK nc,num at_.a,num at_.b,num at_.c,num at_.d,num at_.e,num at_.f],98),(n15,[num (eT),dJ J,dJ V],95),(n19,[dK nc,num vl.a,num vl.b,num vl.c,num vl.d,num vl.e,num vl.f],98)] a w) (hk:dO w0 (nc::ex') w)
  (hQ:∀a' w',dP (dS 137 [(0,dK nc),(4,dK nr),(6,dK n6),(7,dJ Lk),(8,dK nb),(9,dJ O),(64,dJ B1),(65,num (m)),(66,num (k)),(14,dK n14),(15,dK n15),(87,dJ K),(88,num (c)),(89,num (i)),(17,num (j)),(19,dK n19)]) [(nc,[.bool (f)],88)] [(nr,[dJ B0,dJ B1],35),(n6,[.pointer none,.slice none 0 0,.slice none 0 0,.slice none 0 0,.slice none 0 0],92),(nb,[dK nc,dJ B0,dJ B1,dJ A,dJ M],92),(n14,[dK nc,num at_.a,num at_.b,num at_.c,num at_.d,num at_.e,num at_.f],98),(n15,[num (eT),dJ S,dJ V],95),(n19,[dK nc,num vl.a,num vl.b,num vl.c,num vl.d,num vl.e,num vl.f],98)] a' w'→dO w0 (nc::ex') w'→wpList aa (opsOf (qg (dN aD))).toArray Q ([]) a' w'):wpList aa (opsOf (qg (dN aD))).toArray Q ((opsOf (qg (dN aD))).drop 5++([])) a w:=by
 refine uw ([k,m,link,eT,p0,p1,p2]++at_.l++[c,i]++[j]++vl.l) ([f]) [B0,B1,Lk,O,A,M,K,J,V,S] (ops:=opsOf (qg (dN aD))) (o1:=(opsOf (qg (dN aD))).drop 5) (tail:=([])) (w0:=w0) (ex:=(nc::ex')) (g:=[]) (wt:=[]) (lt:=[]) (t:={}) (ws:=[]) (fr:=fK 137 [(0,.pointer (some ⟨0,0,none⟩)),(4,.pointer (some ⟨0,0,some 0⟩)),(6,.pointer (some ⟨1,0,some 0⟩)),(7,dM 2),(8,.pointer (some ⟨2,0,some 0⟩)),(9,dM 3),(64,dM 1),(65,var 1),(66,var 0),(14,.pointer (some ⟨3,0,some 0⟩)),(15,.pointer (some ⟨4,0,some 0⟩)),(87,dM 6),(88,var 13),(89,var 14),(17,var 15),(19,.pointer (some ⟨5,0,some 0⟩)),(120,dM 9)]) (H:=[dQ [mB 1 [.int .i64 0]] 88]) (lo:=[dQ [dM 0,dM 1] 35,dQ [.pointer none,.slice none 0 0,.slice none 0 0,.slice none 0 0,.slice none 0 0] 92,dQ [.pointer (some ⟨0,0,none⟩),dM 0,dM 1,dM 4,dM 5] 92,dQ (.pointer (some ⟨0,0,none⟩)::vs 7 6) 98,dQ [var 3,dM 7,dM 8] 95,dQ (.pointer (some ⟨0,0,none⟩)::vs 16 6) 98]) (wb:=[])  (by kernel_rfl) [0] [0,1,2,3,4,5] (by kernel_rfl) (by kernel_rfl) (by exact hnd) ⟨fB _,jo,all_nil,(by exact hown),jG,fun _=>⟨all_nil,all_nil,all_nil⟩⟩ h hk hQ
theorem V7 {link p0 p1 p2:Int}
  (hown:∀q∈[nc]++[nr,n6,nb,n14,n15,n19],q∈((nc::ex'):List Nat)∨w0.heap.size≤q) (hnd:([nc]++[nr,n6,nb,n14,n15,n19]:List Nat).Nodup) (h:dP (dS 137 [(0,dK nc),(4,dK nr),(6,dK n6),(7,dJ Lk),(8,dK nb),(9,dJ O),(64,dJ B1),(65,num (m)),(66,num (k)),(14,dK n14),(15,dK n15),(87,dJ K),(88,num (c)),(89,num (i)),(17,num (j)),(19,dK n19)]) [(nc,[.bool (f)],88)] [(nr,[dJ B0,dJ B1],35),(n6,[.pointer none,.slice none 0 0,.slice none 0 0,.slice none 0 0,.slice none 0 0],92),(nb,[dK nc,dJ B0,dJ B1,dJ A,dJ M],92),(n14,[dK nc,num at_.a,num at_.b,num at_.c,num at_.d,num at_.e,num at_.f],98),(n15,[num (eT),dJ J,dJ V],95),(n19,[dK nc,num vl.a,num vl.b,num vl.c,num vl.d,num vl.e,num vl.f],98)] a w) (hk:dO w0 (nc::ex') w)
  (hQ:∀(a':Act) (w':World) (ny:Nat),(∀q∈([ny]:List Nat),w.heap.size≤q∧q<w'.heap.size)→([nc]++[nr,n6,nb,n14,n15,n19]++[ny]++[]:List Nat).Nodup→dP (dS 137 [(0,dK nc),(4,dK nr),(6,dK n6),(7,dJ Lk),(8,dK nb),(9,dJ O),(64,dJ B1),(65,num (m)),(66,num (k)),(14,dK n14),(15,dK n15),(87,dJ K),(88,num (c)),(89,num (i)),(17,num (j)),(19,dK n19),(123,dJ V),(125,.slice (some ⟨ny,0,none⟩) 1 1)]) [(nc,[.bool (f)],88),(ny,[dK nc,num vl.a,num vl.b,num vl.c,num vl.d,num vl.e,num vl.f],98)] [(nr,[dJ B0,dJ B1],35),(n6,[.pointer none,.slice none 0 0,.slice none 0 0,.slice none 0 0,.slice none 0 0],92),(nb,[dK nc,dJ B0,dJ B1,dJ A,dJ M],92),(n14,[dK nc,num at_.a,num at_.b,num at_.c,num at_.d,num at_.e,num at_.f],98),(n15,[num (eT),dJ J,dJ V],95),(n19,[dK nc,num vl.a,num vl.b,num vl.c,num vl.d,num vl.e,num vl.f],98)] a' w'→dO w0 (nc::ex') w'→wpList aa (opsOf (qj (dN aD))).toArray Q ((opsOf (qj (dN aD))).drop 4) a' w'):wpList aa (opsOf (qj (dN aD))).toArray Q ((opsOf (qj (dN aD))).take 4++((opsOf (qj (dN aD))).drop 4)) a w:=by
 refine FJ ([k,m,link,eT,p0,p1,p2]++at_.l++[c,i]++[j]++vl.l) ([f]) [B0,B1,Lk,O,A,M,K,J,V] (ops:=opsOf (qj (dN aD))) (o1:=(opsOf (qj (dN aD))).take 4) (tail:=((opsOf (qj (dN aD))).drop 4)) (w0:=w0) (ex:=(nc::ex')) (g:=[]) (wt:=[]) (lt:=[]) (t:={}) (ws:=[]) (fr:=fK 137 [(0,.pointer (some ⟨0,0,none⟩)),(4,.pointer (some ⟨0,0,some 0⟩)),(6,.pointer (some ⟨1,0,some 0⟩)),(7,dM 2),(8,.pointer (some ⟨2,0,some 0⟩)),(9,dM 3),(64,dM 1),(65,var 1),(66,var 0),(14,.pointer (some ⟨3,0,some 0⟩)),(15,.pointer (some ⟨4,0,some 0⟩)),(87,dM 6),(88,var 13),(89,var 14),(17,var 15),(19,.pointer (some ⟨5,0,some 0⟩))]) (H:=[dQ [mB 1 [.int .i64 0]] 88]) (lo:=[dQ [dM 0,dM 1] 35,dQ [.pointer none,.slice none 0 0,.slice none 0 0,.slice none 0 0,.slice none 0 0] 92,dQ [.pointer (some ⟨0,0,none⟩),dM 0,dM 1,dM 4,dM 5] 92,dQ (.pointer (some ⟨0,0,none⟩)::vs 7 6) 98,dQ [var 3,dM 7,dM 8] 95,dQ (.pointer (some ⟨0,0,none⟩)::vs 16 6) 98]) (wb:=[]) (us':=fun gn nl=>dS 137 [(0,dK nc),(4,dK nr),(6,dK n6),(7,dJ Lk),(8,dK nb),(9,dJ O),(64,dJ B1),(65,num (m)),(66,num (k)),(14,dK n14),(15,dK n15),(87,dJ K),(88,num (c)),(89,num (i)),(17,num (j)),(19,dK n19),(123,dJ V),(125,.slice (some ⟨(gn.getD 0 0),0,none⟩) 1 1)]) (gs':=fun gn nl=>[(nc,[.bool (f)],88),((gn.getD 0 0),[dK nc,num vl.a,num vl.b,num vl.c,num vl.d,num vl.e,num vl.f],98)]) (ls':=fun gn nl=>[(nr,[dJ B0,dJ B1],35),(n6,[.pointer none,.slice none 0 0,.slice none 0 0,.slice none 0 0,.slice none 0 0],92),(nb,[dK nc,dJ B0,dJ B1,dJ A,dJ M],92),(n14,[dK nc,num at_.a,num at_.b,num at_.c,num at_.d,num at_.e,num at_.f],98),(n15,[num (eT),dJ J,dJ V],95),(n19,[dK nc,num vl.a,num vl.b,num vl.c,num vl.d,num vl.e,num vl.f],98)]) (by kernel_rfl) [0,1] [0,1,2,3,4,5] [125] [] (fun gn nl e1 e2=>?_) (by kernel_rfl) (fun gn nl e1 e2 e3=>?_) ⟨fB _,jo,all_nil,(by exact hown),jG,fun _=>⟨all_nil,all_nil,all_nil⟩⟩ h hk (fun a' w' gn nl e1 e2 e3 e4 hs hk'=>?_)
 ·match gn,nl,e1,e2 with
  | [ny],[],_,_=>show (_:Option _)=_; kernel_rfl
 ·match gn,nl,e1,e2 with
  | [ny],[],_,_=>exact oP e3
 ·match gn,nl,e1,e2 with
  | [ny],[],_,_ =>
   simp only [bN] at hs
   exact hQ a' w' ny (fun q hq=>e4 q hq) e3 hs hk'
theorem Wd {link p0 p1 p2:Int}
  (hown:∀q∈[nc]++[nr,n6,nb,n14,n15,n19],q∈((nc::ex'):List Nat)∨w0.heap.size≤q) (hnd:([nc]++[nr,n6,nb,n14,n15,n19]:List Nat).Nodup) (h:dP (dS 137 [(0,dK nc),(4,dK nr),(6,dK n6),(7,dJ Lk),(8,dK nb),(9,dJ O),(64,dJ B1),(65,num (m)),(66,num (k)),(14,dK n14),(15,dK n15),(87,dJ K),(88,num (c)),(89,num (i)),(17,num (j)),(19,dK n19),(126,dJ S)]) [(nc,[.bool (f)],88)] [(nr,[dJ B0,dJ B1],35),(n6,[.pointer none,.slice none 0 0,.slice none 0 0,.slice none 0 0,.slice none 0 0],92),(nb,[dK nc,dJ B0,dJ B1,dJ A,dJ M],92),(n14,[dK nc,num at_.a,num at_.b,num at_.c,num at_.d,num at_.e,num at_.f],98),(n15,[num (eT),dJ J,dJ V],95),(n19,[dK nc,num vl.a,num vl.b,num vl.c,num vl.d,num vl.e,num vl.f],98)] a w) (hk:dO w0 (nc::ex') w)
  (hQ:∀a' w',dP (dS 137 [(0,dK nc),(4,dK nr),(6,dK n6),(7,dJ Lk),(8,dK nb),(9,dJ O),(64,dJ B1),(65,num (m)),(66,num (k)),(14,dK n14),(15,dK n15),(87,dJ K),(88,num (c)),(89,num (i)),(17,num (j)),(19,dK n19)]) [(nc,[.bool (f)],88)] [(nr,[dJ B0,dJ B1],35),(n6,[.pointer none,.slice none 0 0,.slice none 0 0,.slice none 0 0,.slice none 0 0],92),(nb,[dK nc,dJ B0,dJ B1,dJ A,dJ M],92),(n14,[dK nc,num at_.a,num at_.b,num at_.c,num at_.d,num at_.e,num at_.f],98),(n15,[num (eT),dJ J,dJ S],95),(n19,[dK nc,num vl.a,num vl.b,num vl.c,num vl.d,num vl.e,num vl.f],98)] a' w'→dO w0 (nc::ex') w'→wpList aa (opsOf (qj (dN aD))).toArray Q ([]) a' w'):wpList aa (opsOf (qj (dN aD))).toArray Q ((opsOf (qj (dN aD))).drop 5++([])) a w:=by
 refine uw ([k,m,link,eT,p0,p1,p2]++at_.l++[c,i]++[j]++vl.l) ([f]) [B0,B1,Lk,O,A,M,K,J,V,S] (ops:=opsOf (qj (dN aD))) (o1:=(opsOf (qj (dN aD))).drop 5) (tail:=([])) (w0:=w0) (ex:=(nc::ex')) (g:=[]) (wt:=[]) (lt:=[]) (t:={}) (ws:=[]) (fr:=fK 137 [(0,.pointer (some ⟨0,0,none⟩)),(4,.pointer (some ⟨0,0,some 0⟩)),(6,.pointer (some ⟨1,0,some 0⟩)),(7,dM 2),(8,.pointer (some ⟨2,0,some 0⟩)),(9,dM 3),(64,dM 1),(65,var 1),(66,var 0),(14,.pointer (some ⟨3,0,some 0⟩)),(15,.pointer (some ⟨4,0,some 0⟩)),(87,dM 6),(88,var 13),(89,var 14),(17,var 15),(19,.pointer (some ⟨5,0,some 0⟩)),(126,dM 9)]) (H:=[dQ [mB 1 [.int .i64 0]] 88]) (lo:=[dQ [dM 0,dM 1] 35,dQ [.pointer none,.slice none 0 0,.slice none 0 0,.slice none 0 0,.slice none 0 0] 92,dQ [.pointer (some ⟨0,0,none⟩),dM 0,dM 1,dM 4,dM 5] 92,dQ (.pointer (some ⟨0,0,none⟩)::vs 7 6) 98,dQ [var 3,dM 7,dM 8] 95,dQ (.pointer (some ⟨0,0,none⟩)::vs 16 6) 98]) (wb:=[])  (by kernel_rfl) [0] [0,1,2,3,4,5] (by kernel_rfl) (by kernel_rfl) (by exact hnd) ⟨fB _,jo,all_nil,(by exact hown),jG,fun _=>⟨all_nil,all_nil,all_nil⟩⟩ h hk hQ
theorem V8 {K:dY} {link p0 p1 p2:Int}
  (hown:∀q∈[nc]++[nr,n6,nb,n14,n15],q∈((nc::ex'):List Nat)∨w0.heap.size≤q) (hnd:([nc]++[nr,n6,nb,n14,n15]:List Nat).Nodup) (h:dP (dS 137 [(0,dK nc),(4,dK nr),(6,dK n6),(7,dJ Lk),(8,dK nb),(9,dJ O),(64,dJ B1),(65,num (m)),(66,num (k)),(14,dK n14),(15,dK n15)]) [(nc,[.bool (f)],88)] [(nr,[dJ B0,dJ B1],35),(n6,[.pointer none,.slice none 0 0,.slice none 0 0,.slice none 0 0,.slice none 0 0],92),(nb,[dK nc,dJ B0,dJ B1,dJ A,dJ M],92),(n14,[dK nc,num at_.a,num at_.b,num at_.c,num at_.d,num at_.e,num at_.f],98),(n15,[num (eT),dJ J,dJ V],95)] a w) (hk:dO w0 (nc::ex') w)
  (hQ:∀(a':Act) (w':World) (ny:Nat),(∀q∈([ny]:List Nat),w.heap.size≤q∧q<w'.heap.size)→([nc]++[nr,n6,nb,n14,n15]++[ny]++[]:List Nat).Nodup→dP (dS 137 [(0,dK nc),(4,dK nr),(6,dK n6),(7,dJ Lk),(8,dK nb),(9,dJ O),(64,dJ B1),(65,num (m)),(66,num (k)),(14,dK n14),(15,dK n15),(130,dJ M),(132,.slice (some ⟨ny,0,none⟩) 1 1)]) [(nc,[.bool (f)],88),(ny,[num (eT),dJ J,dJ V],95)] [(nr,[dJ B0,dJ B1],35),(n6,[.pointer none,.slice none 0 0,.slice none 0 0,.slice none 0 0,.slice none 0 0],92),(nb,[dK nc,dJ B0,dJ B1,dJ A,dJ M],92),(n14,[dK nc,num at_.a,num at_.b,num at_.c,num at_.d,num at_.e,num at_.f],98),(n15,[num (eT),dJ J,dJ V],95)] a' w'→dO w0 (nc::ex') w'→wpList aa (opsOf (qm (dN aD))).toArray Q ((opsOf (qm (dN aD))).drop 4) a' w'):wpList aa (opsOf (qm (dN aD))).toArray Q ((opsOf (qm (dN aD))).take 4++((opsOf (qm (dN aD))).drop 4)) a w:=by
 refine FJ ([k,m,link,eT,p0,p1,p2]++at_.l) ([f]) [B0,B1,Lk,O,A,M,K,J,V] (ops:=opsOf (qm (dN aD))) (o1:=(opsOf (qm (dN aD))).take 4) (tail:=((opsOf (qm (dN aD))).drop 4)) (w0:=w0) (ex:=(nc::ex')) (g:=[]) (wt:=[]) (lt:=[]) (t:={}) (ws:=[]) (fr:=fK 137 [(0,.pointer (some ⟨0,0,none⟩)),(4,.pointer (some ⟨0,0,some 0⟩)),(6,.pointer (some ⟨1,0,some 0⟩)),(7,dM 2),(8,.pointer (some ⟨2,0,some 0⟩)),(9,dM 3),(64,dM 1),(65,var 1),(66,var 0),(14,.pointer (some ⟨3,0,some 0⟩)),(15,.pointer (some ⟨4,0,some 0⟩))]) (H:=[dQ [mB 1 [.int .i64 0]] 88]) (lo:=[dQ [dM 0,dM 1] 35,dQ [.pointer none,.slice none 0 0,.slice none 0 0,.slice none 0 0,.slice none 0 0] 92,dQ [.pointer (some ⟨0,0,none⟩),dM 0,dM 1,dM 4,dM 5] 92,dQ (.pointer (some ⟨0,0,none⟩)::vs 7 6) 98,dQ [var 3,dM 7,dM 8] 95]) (wb:=[]) (us':=fun gn nl=>dS 137 [(0,dK nc),(4,dK nr),(6,dK n6),(7,dJ Lk),(8,dK nb),(9,dJ O),(64,dJ B1),(65,num (m)),(66,num (k)),(14,dK n14),(15,dK n15),(130,dJ M),(132,.slice (some ⟨(gn.getD 0 0),0,none⟩) 1 1)]) (gs':=fun gn nl=>[(nc,[.bool (f)],88),((gn.getD 0 0),[num (eT),dJ J,dJ V],95)]) (ls':=fun gn nl=>[(nr,[dJ B0,dJ B1],35),(n6,[.pointer none,.slice none 0 0,.slice none 0 0,.slice none 0 0,.slice none 0 0],92),(nb,[dK nc,dJ B0,dJ B1,dJ A,dJ M],92),(n14,[dK nc,num at_.a,num at_.b,num at_.c,num at_.d,num at_.e,num at_.f],98),(n15,[num (eT),dJ J,dJ V],95)]) (by kernel_rfl) [0,1] [0,1,2,3,4] [132] [] (fun gn nl e1 e2=>?_) (by kernel_rfl) (fun gn nl e1 e2 e3=>?_) ⟨fB _,jo,all_nil,(by exact hown),jG,fun _=>⟨all_nil,all_nil,all_nil⟩⟩ h hk (fun a' w' gn nl e1 e2 e3 e4 hs hk'=>?_)
 ·match gn,nl,e1,e2 with
  | [ny],[],_,_=>show (_:Option _)=_; kernel_rfl
 ·match gn,nl,e1,e2 with
  | [ny],[],_,_=>exact oP e3
 ·match gn,nl,e1,e2 with
  | [ny],[],_,_ =>
   simp only [bN] at hs
   exact hQ a' w' ny (fun q hq=>e4 q hq) e3 hs hk'
theorem We {K:dY} {link p0 p1 p2:Int}
  (hown:∀q∈[nc]++[nr,n6,nb,n14,n15],q∈((nc::ex'):List Nat)∨w0.heap.size≤q) (hnd:([nc]++[nr,n6,nb,n14,n15]:List Nat).Nodup) (h:dP (dS 137 [(0,dK nc),(4,dK nr),(6,dK n6),(7,dJ Lk),(8,dK nb),(9,dJ O),(64,dJ B1),(65,num (m)),(66,num (k)),(14,dK n14),(15,dK n15),(133,dJ S)]) [(nc,[.bool (f)],88)] [(nr,[dJ B0,dJ B1],35),(n6,[.pointer none,.slice none 0 0,.slice none 0 0,.slice none 0 0,.slice none 0 0],92),(nb,[dK nc,dJ B0,dJ B1,dJ A,dJ M],92),(n14,[dK nc,num at_.a,num at_.b,num at_.c,num at_.d,num at_.e,num at_.f],98),(n15,[num (eT),dJ J,dJ V],95)] a w) (hk:dO w0 (nc::ex') w)
  (hQ:∀a' w',dP (dS 137 [(0,dK nc),(4,dK nr),(6,dK n6),(7,dJ Lk),(8,dK nb),(9,dJ O),(64,dJ B1),(65,num (m)),(66,num (k)),(14,dK n14),(15,dK n15)]) [(nc,[.bool (f)],88)] [(nr,[dJ B0,dJ B1],35),(n6,[.pointer none,.slice none 0 0,.slice none 0 0,.slice none 0 0,.slice none 0 0],92),(nb,[dK nc,dJ B0,dJ B1,dJ A,dJ S],92),(n14,[dK nc,num at_.a,num at_.b,num at_.c,num at_.d,num at_.e,num at_.f],98),(n15,[num (eT),dJ J,dJ V],95)] a' w'→dO w0 (nc::ex') w'→wpList aa (opsOf (qm (dN aD))).toArray Q ([]) a' w'):wpList aa (opsOf (qm (dN aD))).toArray Q ((opsOf (qm (dN aD))).drop 5++([])) a w:=by
 refine uw ([k,m,link,eT,p0,p1,p2]++at_.l) ([f]) [B0,B1,Lk,O,A,M,K,J,V,S] (ops:=opsOf (qm (dN aD))) (o1:=(opsOf (qm (dN aD))).drop 5) (tail:=([])) (w0:=w0) (ex:=(nc::ex')) (g:=[]) (wt:=[]) (lt:=[]) (t:={}) (ws:=[]) (fr:=fK 137 [(0,.pointer (some ⟨0,0,none⟩)),(4,.pointer (some ⟨0,0,some 0⟩)),(6,.pointer (some ⟨1,0,some 0⟩)),(7,dM 2),(8,.pointer (some ⟨2,0,some 0⟩)),(9,dM 3),(64,dM 1),(65,var 1),(66,var 0),(14,.pointer (some ⟨3,0,some 0⟩)),(15,.pointer (some ⟨4,0,some 0⟩)),(133,dM 9)]) (H:=[dQ [mB 1 [.int .i64 0]] 88]) (lo:=[dQ [dM 0,dM 1] 35,dQ [.pointer none,.slice none 0 0,.slice none 0 0,.slice none 0 0,.slice none 0 0] 92,dQ [.pointer (some ⟨0,0,none⟩),dM 0,dM 1,dM 4,dM 5] 92,dQ (.pointer (some ⟨0,0,none⟩)::vs 7 6) 98,dQ [var 3,dM 7,dM 8] 95]) (wb:=[])  (by kernel_rfl) [0] [0,1,2,3,4] (by kernel_rfl) (by kernel_rfl) (by exact hnd) ⟨fB _,jo,all_nil,(by exact hown),jG,fun _=>⟨all_nil,all_nil,all_nil⟩⟩ h hk hQ
theorem Wh {K J V:dY} {RR:Ending→World→Prop}
  (hown:∀q∈[nc]++[nr,n6,nb],q∈((nc::ex'):List Nat)∨w0.heap.size≤q) (hnd:([nc]++[nr,n6,nb]:List Nat).Nodup) (h:dP (dS 137 [(0,dK nc),(4,dK nr),(6,dK n6),(7,dJ Lk),(8,dK nb),(9,dJ O),(64,dJ B1),(65,num (m)),(66,num (k))]) [(nc,[.bool (f)],88)] [(nr,[dJ B0,dJ B1],35),(n6,[.pointer none,.slice none 0 0,.slice none 0 0,.slice none 0 0,.slice none 0 0],92),(nb,[dK nc,dJ B0,dJ B1,dJ A,dJ M],92)] a w) (hk:dO w0 (nc::ex') w)
  (hQ:∀a' w',dP (dS 137 []) [(nc,[.bool (f)],88)] [] a' w'→dO w0 (nc::ex') w'→RR (.returned (.agg ⟨[dK nc,dJ B0,dJ B1,dJ A,dJ M]⟩)) w'):(sR 6 (dN aD)).wp aa (bodyPost aa aD RR) a w:=by
 refine Q7 ([k,m]) ([f]) [B0,B1,Lk,O,A,M,K,J,V] (w0:=w0) (ex:=(nc::ex')) (g:=[]) (wt:=[]) (lt:=[]) (t:={}) (ws:=[]) (fr:=fK 137 [(0,.pointer (some ⟨0,0,none⟩)),(4,.pointer (some ⟨0,0,some 0⟩)),(6,.pointer (some ⟨1,0,some 0⟩)),(7,dM 2),(8,.pointer (some ⟨2,0,some 0⟩)),(9,dM 3),(64,dM 1),(65,var 1),(66,var 0)]) (H:=[dQ [mB 1 [.int .i64 0]] 88]) (lo:=[dQ [dM 0,dM 1] 35,dQ [.pointer none,.slice none 0 0,.slice none 0 0,.slice none 0 0,.slice none 0 0] 92,dQ [.pointer (some ⟨0,0,none⟩),dM 0,dM 1,dM 4,dM 5] 92]) (wb:=[])  (u:=.agg ⟨[dK nc,dJ B0,dJ B1,dJ A,dJ M]⟩) 41 [0] [] (by kernel_rfl) (by kernel_rfl) (by simp) ⟨fB _,jo,all_nil,(by exact hown),jG,fun _=>⟨all_nil,all_nil,all_nil⟩⟩ h hk hQ
end Go.Proofs
end
section
namespace Go.Proofs
open Go.Sm Go.RowKit En
def mH (g:Nat):List Int→Value
 | []=>.slice none 0 0
 | _::ks=>.slice (some ⟨g,0,none⟩) (ks.length+1) (ks.length+1)
def gK (g:Nat):List Int→List gQ
 | []=>[]
 | k::ks=>[(g,(k::ks).map num,3)]
def uK (nb g:Nat) (link:Int) (ks:List Int):List (Option Value):=dS 28 [(1,num link),(2,dK nb),(5,mH g ks)]
def cK (nb:Nat) (B0 B1:dY):List gQ:=[(nb,[dJ B0,dJ B1],35)]
theorem WO:(dN cz)=o7 [dZ (dN cz),jM (dN cz)] (.seq (.block 0 (.loop (uk (dN cz)))) (sR 3 (dN cz))):=by kernel_rfl
theorem Y3:(uk (dN cz))=o7 [dZ (uk (dN cz))] (.block 1 (gY (dN cz))):=by kernel_rfl
theorem H7:(gY (dN cz))=o7 [dZ (gY (dN cz)),dZ (fU (gY (dN cz))),dZ (fU (fU (gY (dN cz)))),dZ (sR 3 (gY (dN cz)))] (sR 4 (gY (dN cz))):=by kernel_rfl
theorem zV {Z:World×List Nat} {l:List Int} {bs:List Bool} {sl:List dY} {r:Bool} (h:(l.getD 0 0 != -1)=r):Sat (gB Z l bs sl) [(mB 25 [var 0,.int .i64 (-1)],.bool r)] :=
 afl ⟨300,.bool r,(show eF (gB Z l bs sl) 300 (mB 25 [var 0,.int .i64 (-1)])=some (.bool (l.getD 0 0 != -1)) by kernel_rfl).trans (by rw [h]),rfl⟩ (fB _)
theorem kF {gs:List gQ}:∀c,([]:List Nat).head?=some c→(gs.map (·.1))[0]?=some c:=fun _ h=>by cases h
variable {w0 w:World} {nb g:Nat} {B0 B1:dY} {link:Int} {a:Act} {Q:Exit→Act→World→Prop} {D:Code}
theorem aa6 (hown:∀q∈[]++[nb],q∈([]:List Nat)∨w0.heap.size≤q) (hnd:([]++[nb]).Nodup) (hl:(link != -1)=true) (h:dP (uK nb g link []) (gK g []) (cK nb B0 B1) a w) (hk:dO w0 [] w) (hQ:∀a' w',dP (uK nb g link []) (gK g []) (cK nb B0 B1) a' w'→dO w0 [] w'→D.wp aa Q a' w'):(o7 [dZ (uk (dN cz))] D).wp aa Q a w :=
 uf (link::[]) [] [B0,B1] (g:=[(mB 25 [var 0,.int .i64 (-1)],.bool true)]) (wt:=[]) (lt:=[]) (sb:=[]) (T:=[]) (K:=[]) (RT:=[]) (wb:=[]) (ws:=[]) (fr:=fK 28 [(1,var 0),(2,.pointer (some ⟨0,0,some 0⟩)),(5,.slice none 0 0)]) (H:=[]) (lo:=[dQ [dM 0,dM 1] 35]) 102 _ [] [0] (by kernel_rfl) (by kernel_rfl) (by exact hnd) ⟨zV (by exact hl),gG,gD,fT,il _ _,fw (by exact hown),kF,fun _=>iI⟩ h hk hQ
theorem aa9 (hown:∀q∈[]++[nb],q∈([]:List Nat)∨w0.heap.size≤q) (hnd:([]++[nb]).Nodup) (hl:(link != -1)=false) (h:dP (uK nb g link []) (gK g []) (cK nb B0 B1) a w) (hk:dO w0 [] w) (hQ:∀a' w',dP (uK nb g link []) (gK g []) (cK nb B0 B1) a' w'→dO w0 [] w'→Q (.exit 0) a' w'):(uk (dN cz)).wp aa Q a w :=
 r9 (link::[]) [] [B0,B1] (g:=[(mB 25 [var 0,.int .i64 (-1)],.bool false)]) (wt:=[]) (lt:=[]) (sb:=[]) (T:=[]) (K:=[]) (RT:=[]) (wb:=[]) (ws:=[]) (fr:=fK 28 [(1,var 0),(2,.pointer (some ⟨0,0,some 0⟩)),(5,.slice none 0 0)]) (H:=[]) (lo:=[dQ [dM 0,dM 1] 35]) 102 (.exit 0) [] [0] (by kernel_rfl) (by kernel_rfl) (by exact hnd) ⟨zV (by exact hl),gG,gD,fT,il _ _,fw (by exact hown),kF,fun _=>iI⟩ h hk hQ
variable {R:Ending→World→Prop}
theorem abl (hown:∀q∈[]++[],q∈([]:List Nat)∨w0.heap.size≤q) (h:dP (dS 28 [(5,mH g [])]) (gK g []) [] a w) (hk:dO w0 [] w) (hQ:∀a' w',dP (dS 28 []) (gK g []) [] a' w'→dO w0 [] w'→R (.returned (mH g [])) w'):(sR 3 (dN cz)).wp aa (bodyPost aa cz R) a w :=
 qQ (0::[]) [] [] (g:=[]) (wt:=[]) (lt:=[]) (sb:=[]) (T:=[]) (K:=[]) (RT:=[]) (wb:=[]) (ws:=[]) (fr:=fK 28 [(5,.slice none 0 0)]) (H:=[]) (lo:=[]) (u:=mH g []) 102 [] [] (by kernel_rfl) (by kernel_rfl) (by simp [gK]) ⟨fB _,gG,gD,fT,il _ _,fw (by exact hown),kF,fun _=>iI⟩ h hk hQ
theorem abe (hown:∀q∈[]++[nb],q∈([]:List Nat)∨w0.heap.size≤q) (hnd:([]++[nb]).Nodup) (h:dP (uK nb g link []) (gK g []) (cK nb B0 B1) a w) (hk:dO w0 [] w) (hQ:∀a' w' g',w.heap.size≤g'→([g']++[nb]).Nodup→dP (uK nb g' link (link::[])) (gK g' (link::[])) (cK nb B0 B1) a' w'→dO w0 [] w'→D.wp aa Q a' w'):(o7 [dZ (gY (dN cz)),dZ (fU (gY (dN cz))),dZ (fU (fU (gY (dN cz)))),dZ (sR 3 (gY (dN cz)))] D).wp aa Q a w:=by
 refine jZ (link::[]) [] [B0,B1] (g:=[]) (wt:=[]) (lt:=[]) (sb:=[]) (T:=[]) (K:=[]) (RT:=[]) (wb:=[]) (ws:=[]) (fr:=fK 28 [(1,var 0),(2,.pointer (some ⟨0,0,some 0⟩)),(5,.slice none 0 0)]) (H:=[]) (lo:=[dQ [dM 0,dM 1] 35]) (us':=fun gn _=>uK nb (gn.headD 0) link (link::[])) (gs':=fun gn _=>gK (gn.headD 0) (link::[])) (ls':=fun _ _=>cK nb B0 B1) 102 _ [0] [0] [5] [] (fun gn nl e1 e2=>?_) (by kernel_rfl) (fun gn nl e1 e2 e3=>?_) ⟨fB _,gG,gD,fT,il _ _,fw (by exact hown),kF,fun _=>iI⟩ h hk (fun a' w' gn nl e1 e2 e3 e4 hs hk'=>?_)
 ·match gn,nl,e1,e2 with
  | [g'],[],_,_=>show (_:Option _)=_; kernel_rfl
 ·match gn,nl,e1,e2 with
  | [g'],[],_,_=>simp [gK,cK] at e3 ⊢; omega
 ·match gn,nl,e1,e2 with
  | [g'],[],_,_=>exact hQ a' w' g' (e4 g' (by simp)).1 (by simp [gK,cK] at e3 ⊢; omega) hs hk'
variable {t0:Int}
theorem aa7 (hown:∀q∈[g]++[nb],q∈([]:List Nat)∨w0.heap.size≤q) (hnd:([g]++[nb]).Nodup) (hl:(link != -1)=true) (h:dP (uK nb g link [t0]) (gK g [t0]) (cK nb B0 B1) a w) (hk:dO w0 [] w) (hQ:∀a' w',dP (uK nb g link [t0]) (gK g [t0]) (cK nb B0 B1) a' w'→dO w0 [] w'→D.wp aa Q a' w'):(o7 [dZ (uk (dN cz))] D).wp aa Q a w :=
 uf (link::[t0]) [] [B0,B1] (g:=[(mB 25 [var 0,.int .i64 (-1)],.bool true)]) (wt:=[]) (lt:=[]) (sb:=[]) (T:=[]) (K:=[]) (RT:=[]) (wb:=[]) (ws:=[]) (fr:=fK 28 [(1,var 0),(2,.pointer (some ⟨0,0,some 0⟩)),(5,.slice (some ⟨0,0,none⟩) 1 1)]) (H:=[dQ [var 1] 3]) (lo:=[dQ [dM 0,dM 1] 35]) 102 _ [0] [0] (by kernel_rfl) (by kernel_rfl) (by exact hnd) ⟨zV (by exact hl),gG,gD,fT,il _ _,fw (by exact hown),kF,fun _=>iI⟩ h hk hQ
theorem aba (hown:∀q∈[g]++[nb],q∈([]:List Nat)∨w0.heap.size≤q) (hnd:([g]++[nb]).Nodup) (hl:(link != -1)=false) (h:dP (uK nb g link [t0]) (gK g [t0]) (cK nb B0 B1) a w) (hk:dO w0 [] w) (hQ:∀a' w',dP (uK nb g link [t0]) (gK g [t0]) (cK nb B0 B1) a' w'→dO w0 [] w'→Q (.exit 0) a' w'):(uk (dN cz)).wp aa Q a w :=
 r9 (link::[t0]) [] [B0,B1] (g:=[(mB 25 [var 0,.int .i64 (-1)],.bool false)]) (wt:=[]) (lt:=[]) (sb:=[]) (T:=[]) (K:=[]) (RT:=[]) (wb:=[]) (ws:=[]) (fr:=fK 28 [(1,var 0),(2,.pointer (some ⟨0,0,some 0⟩)),(5,.slice (some ⟨0,0,none⟩) 1 1)]) (H:=[dQ [var 1] 3]) (lo:=[dQ [dM 0,dM 1] 35]) 102 (.exit 0) [0] [0] (by kernel_rfl) (by kernel_rfl) (by exact hnd) ⟨zV (by exact hl),gG,gD,fT,il _ _,fw (by exact hown),kF,fun _=>iI⟩ h hk hQ
theorem abm (hown:∀q∈[g]++[],q∈([]:List Nat)∨w0.heap.size≤q) (h:dP (dS 28 [(5,mH g [t0])]) (gK g [t0]) [] a w) (hk:dO w0 [] w) (hQ:∀a' w',dP (dS 28 []) (gK g [t0]) [] a' w'→dO w0 [] w'→R (.returned (mH g [t0])) w'):(sR 3 (dN cz)).wp aa (bodyPost aa cz R) a w :=
 qQ (0::[t0]) [] [] (g:=[]) (wt:=[]) (lt:=[]) (sb:=[]) (T:=[]) (K:=[]) (RT:=[]) (wb:=[]) (ws:=[]) (fr:=fK 28 [(5,.slice (some ⟨0,0,none⟩) 1 1)]) (H:=[dQ [var 1] 3]) (lo:=[]) (u:=mH g [t0]) 102 [0] [] (by kernel_rfl) (by kernel_rfl) (by simp [gK]) ⟨fB _,gG,gD,fT,il _ _,fw (by exact hown),kF,fun _=>iI⟩ h hk hQ
variable {kd pa:Int} {nm:ByteArray} {bK oK:Nat}
theorem abh (eK:B0.1=some ⟨bK,oK,none⟩) (h0:0≤link) (h1:link<(B0.2.1:Nat)) (lK:bK<w0.heap.size) (cK':∀(q:Nat) (x:Value),[.string nm,num kd,num pa][q]?=some x→w0.cell? ⟨bK,oK+link.toNat*12+q,none⟩=some x) (hown:∀q∈[g]++[nb],q∈([]:List Nat)∨w0.heap.size≤q) (hnd:([g]++[nb]).Nodup) (h:dP (uK nb g link [t0]) (gK g [t0]) (cK nb B0 B1) a w) (hk:dO w0 [] w)
  (hQ:∀a' w',dP (uK nb g pa [t0]) (gK g [t0]) (cK nb B0 B1) a' w'→dO w0 [] w'→Q .normal a' w'):(sR 4 (gY (dN cz))).wp aa Q a w:=by
 refine r9 (link::[t0]++ag6 2 0++[kd,pa]) [] [B0,B1] (g:=[]) (wt:=[(0,var 0,12,1)]) (lt:=[]) (sb:=[]) (T:=[]) (K:=[]) (RT:=[]) (wb:=[dU [.string nm,var 4,var 5]]) (ws:=[(bK,oK+link.toNat*12,[.string nm,num kd,num pa])]) (fr:=fK 28 [(1,var 0),(2,.pointer (some ⟨0,0,some 0⟩)),(5,.slice (some ⟨0,0,none⟩) 1 1)]) (H:=[dQ [var 1] 3]) (lo:=[dQ [dM 0,dM 1] 35]) 102 .normal [0] [0] (by kernel_rfl) (by kernel_rfl) (by exact hnd) ⟨fB _,gG,gD,fT,?_,fw (by exact hown),kF,fun _=>?_⟩ h hk hQ
 ·intro x hx
  simp only [ag,ae,or_false] at hx
  subst hx
  exact ⟨⟨lK,by simp⟩,aO _,cK'⟩
 ·refine ⟨fun e he=>?_,(fun e he=>by cases he),fun e he=>by cases he⟩
  simp only [fG,ag,ae,or_false] at he
  subst he
  exact ⟨⟨bK,oK,none⟩,B0.2.1,B0.2.2,link,2,(by show B0=_; rw [←eK]),rfl,rfl,h0,h1,rfl,rfl⟩
theorem abf (hown:∀q∈[g]++[nb],q∈([]:List Nat)∨w0.heap.size≤q) (hnd:([g]++[nb]).Nodup) (h:dP (uK nb g link [t0]) (gK g [t0]) (cK nb B0 B1) a w) (hk:dO w0 [] w) (hQ:∀a' w' g',w.heap.size≤g'→([g']++[nb]).Nodup→dP (uK nb g' link (link::[t0])) (gK g' (link::[t0])) (cK nb B0 B1) a' w'→dO w0 [] w'→D.wp aa Q a' w'):(o7 [dZ (gY (dN cz)),dZ (fU (gY (dN cz))),dZ (fU (fU (gY (dN cz)))),dZ (sR 3 (gY (dN cz)))] D).wp aa Q a w:=by
 refine jZ (link::[t0]) [] [B0,B1] (g:=[]) (wt:=[]) (lt:=[]) (sb:=[]) (T:=[]) (K:=[]) (RT:=[]) (wb:=[]) (ws:=[]) (fr:=fK 28 [(1,var 0),(2,.pointer (some ⟨0,0,some 0⟩)),(5,.slice (some ⟨0,0,none⟩) 1 1)]) (H:=[dQ [var 1] 3]) (lo:=[dQ [dM 0,dM 1] 35]) (us':=fun gn _=>uK nb (gn.headD 0) link (link::[t0])) (gs':=fun gn _=>gK (gn.headD 0) (link::[t0])) (ls':=fun _ _=>cK nb B0 B1) 102 _ [1] [0] [5] [] (fun gn nl e1 e2=>?_) (by kernel_rfl) (fun gn nl e1 e2 e3=>?_) ⟨fB _,gG,gD,fT,il _ _,fw (by exact hown),kF,fun _=>iI⟩ h hk (fun a' w' gn nl e1 e2 e3 e4 hs hk'=>?_)
 ·match gn,nl,e1,e2 with
  | [g'],[],_,_=>show (_:Option _)=_; kernel_rfl
 ·match gn,nl,e1,e2 with
  | [g'],[],_,_=>simp [gK,cK] at e3 ⊢; omega
 ·match gn,nl,e1,e2 with
  | [g'],[],_,_=>exact hQ a' w' g' (e4 g' (by simp)).1 (by simp [gK,cK] at e3 ⊢; omega) hs hk'
variable {t1:Int}
theorem aa8 (hown:∀q∈[g]++[nb],q∈([]:List Nat)∨w0.heap.size≤q) (hnd:([g]++[nb]).Nodup) (hl:(link != -1)=true) (h:dP (uK nb g link [t0,t1]) (gK g [t0,t1]) (cK nb B0 B1) a w) (hk:dO w0 [] w) (hQ:∀a' w',dP (uK nb g link [t0,t1]) (gK g [t0,t1]) (cK nb B0 B1) a' w'→dO w0 [] w'→D.wp aa Q a' w'):(o7 [dZ (uk (dN cz))] D).wp aa Q a w :=
 uf (link::[t0,t1]) [] [B0,B1] (g:=[(mB 25 [var 0,.int .i64 (-1)],.bool true)]) (wt:=[]) (lt:=[]) (sb:=[]) (T:=[]) (K:=[]) (RT:=[]) (wb:=[]) (ws:=[]) (fr:=fK 28 [(1,var 0),(2,.pointer (some ⟨0,0,some 0⟩)),(5,.slice (some ⟨0,0,none⟩) 2 2)]) (H:=[dQ [var 1,var 2] 3]) (lo:=[dQ [dM 0,dM 1] 35]) 102 _ [0] [0] (by kernel_rfl) (by kernel_rfl) (by exact hnd) ⟨zV (by exact hl),gG,gD,fT,il _ _,fw (by exact hown),kF,fun _=>iI⟩ h hk hQ
theorem abb (hown:∀q∈[g]++[nb],q∈([]:List Nat)∨w0.heap.size≤q) (hnd:([g]++[nb]).Nodup) (hl:(link != -1)=false) (h:dP (uK nb g link [t0,t1]) (gK g [t0,t1]) (cK nb B0 B1) a w) (hk:dO w0 [] w) (hQ:∀a' w',dP (uK nb g link [t0,t1]) (gK g [t0,t1]) (cK nb B0 B1) a' w'→dO w0 [] w'→Q (.exit 0) a' w'):(uk (dN cz)).wp aa Q a w :=
 r9 (link::[t0,t1]) [] [B0,B1] (g:=[(mB 25 [var 0,.int .i64 (-1)],.bool false)]) (wt:=[]) (lt:=[]) (sb:=[]) (T:=[]) (K:=[]) (RT:=[]) (wb:=[]) (ws:=[]) (fr:=fK 28 [(1,var 0),(2,.pointer (some ⟨0,0,some 0⟩)),(5,.slice (some ⟨0,0,none⟩) 2 2)]) (H:=[dQ [var 1,var 2] 3]) (lo:=[dQ [dM 0,dM 1] 35]) 102 (.exit 0) [0] [0] (by kernel_rfl) (by kernel_rfl) (by exact hnd) ⟨zV (by exact hl),gG,gD,fT,il _ _,fw (by exact hown),kF,fun _=>iI⟩ h hk hQ
theorem abn (hown:∀q∈[g]++[],q∈([]:List Nat)∨w0.heap.size≤q) (h:dP (dS 28 [(5,mH g [t0,t1])]) (gK g [t0,t1]) [] a w) (hk:dO w0 [] w) (hQ:∀a' w',dP (dS 28 []) (gK g [t0,t1]) [] a' w'→dO w0 [] w'→R (.returned (mH g [t0,t1])) w'):(sR 3 (dN cz)).wp aa (bodyPost aa cz R) a w :=
 qQ (0::[t0,t1]) [] [] (g:=[]) (wt:=[]) (lt:=[]) (sb:=[]) (T:=[]) (K:=[]) (RT:=[]) (wb:=[]) (ws:=[]) (fr:=fK 28 [(5,.slice (some ⟨0,0,none⟩) 2 2)]) (H:=[dQ [var 1,var 2] 3]) (lo:=[]) (u:=mH g [t0,t1]) 102 [0] [] (by kernel_rfl) (by kernel_rfl) (by simp [gK]) ⟨fB _,gG,gD,fT,il _ _,fw (by exact hown),kF,fun _=>iI⟩ h hk hQ
theorem abj (eK:B0.1=some ⟨bK,oK,none⟩) (h0:0≤link) (h1:link<(B0.2.1:Nat)) (lK:bK<w0.heap.size) (cK':∀(q:Nat) (x:Value),[.string nm,num kd,num pa][q]?=some x→w0.cell? ⟨bK,oK+link.toNat*12+q,none⟩=some x) (hown:∀q∈[g]++[nb],q∈([]:List Nat)∨w0.heap.size≤q) (hnd:([g]++[nb]).Nodup) (h:dP (uK nb g link [t0,t1]) (gK g [t0,t1]) (cK nb B0 B1) a w) (hk:dO w0 [] w)
  (hQ:∀a' w',dP (uK nb g pa [t0,t1]) (gK g [t0,t1]) (cK nb B0 B1) a' w'→dO w0 [] w'→Q .normal a' w'):(sR 4 (gY (dN cz))).wp aa Q a w:=by
 refine r9 (link::[t0,t1]++ag6 1 0++[kd,pa]) [] [B0,B1] (g:=[]) (wt:=[(0,var 0,12,1)]) (lt:=[]) (sb:=[]) (T:=[]) (K:=[]) (RT:=[]) (wb:=[dU [.string nm,var 4,var 5]]) (ws:=[(bK,oK+link.toNat*12,[.string nm,num kd,num pa])]) (fr:=fK 28 [(1,var 0),(2,.pointer (some ⟨0,0,some 0⟩)),(5,.slice (some ⟨0,0,none⟩) 2 2)]) (H:=[dQ [var 1,var 2] 3]) (lo:=[dQ [dM 0,dM 1] 35]) 102 .normal [0] [0] (by kernel_rfl) (by kernel_rfl) (by exact hnd) ⟨fB _,gG,gD,fT,?_,fw (by exact hown),kF,fun _=>?_⟩ h hk hQ
 ·intro x hx
  simp only [ag,ae,or_false] at hx
  subst hx
  exact ⟨⟨lK,by simp⟩,aO _,cK'⟩
 ·refine ⟨fun e he=>?_,(fun e he=>by cases he),fun e he=>by cases he⟩
  simp only [fG,ag,ae,or_false] at he
  subst he
  exact ⟨⟨bK,oK,none⟩,B0.2.1,B0.2.2,link,2,(by show B0=_; rw [←eK]),rfl,rfl,h0,h1,rfl,rfl⟩
theorem abg (hown:∀q∈[g]++[nb],q∈([]:List Nat)∨w0.heap.size≤q) (hnd:([g]++[nb]).Nodup) (h:dP (uK nb g link [t0,t1]) (gK g [t0,t1]) (cK nb B0 B1) a w) (hk:dO w0 [] w) (hQ:∀a' w' g',w.heap.size≤g'→([g']++[nb]).Nodup→dP (uK nb g' link (link::[t0,t1])) (gK g' (link::[t0,t1])) (cK nb B0 B1) a' w'→dO w0 [] w'→D.wp aa Q a' w'):(o7 [dZ (gY (dN cz)),dZ (fU (gY (dN cz))),dZ (fU (fU (gY (dN cz)))),dZ (sR 3 (gY (dN cz)))] D).wp aa Q a w:=by
 refine jZ (link::[t0,t1]) [] [B0,B1] (g:=[]) (wt:=[]) (lt:=[]) (sb:=[]) (T:=[]) (K:=[]) (RT:=[]) (wb:=[]) (ws:=[]) (fr:=fK 28 [(1,var 0),(2,.pointer (some ⟨0,0,some 0⟩)),(5,.slice (some ⟨0,0,none⟩) 2 2)]) (H:=[dQ [var 1,var 2] 3]) (lo:=[dQ [dM 0,dM 1] 35]) (us':=fun gn _=>uK nb (gn.headD 0) link (link::[t0,t1])) (gs':=fun gn _=>gK (gn.headD 0) (link::[t0,t1])) (ls':=fun _ _=>cK nb B0 B1) 102 _ [1] [0] [5] [] (fun gn nl e1 e2=>?_) (by kernel_rfl) (fun gn nl e1 e2 e3=>?_) ⟨fB _,gG,gD,fT,il _ _,fw (by exact hown),kF,fun _=>iI⟩ h hk (fun a' w' gn nl e1 e2 e3 e4 hs hk'=>?_)
 ·match gn,nl,e1,e2 with
  | [g'],[],_,_=>show (_:Option _)=_; kernel_rfl
 ·match gn,nl,e1,e2 with
  | [g'],[],_,_=>simp [gK,cK] at e3 ⊢; omega
 ·match gn,nl,e1,e2 with
  | [g'],[],_,_=>exact hQ a' w' g' (e4 g' (by simp)).1 (by simp [gK,cK] at e3 ⊢; omega) hs hk'
variable {t2:Int}
theorem abd (hown:∀q∈[g]++[nb],q∈([]:List Nat)∨w0.heap.size≤q) (hnd:([g]++[nb]).Nodup) (hl:(link != -1)=false) (h:dP (uK nb g link [t0,t1,t2]) (gK g [t0,t1,t2]) (cK nb B0 B1) a w) (hk:dO w0 [] w) (hQ:∀a' w',dP (uK nb g link [t0,t1,t2]) (gK g [t0,t1,t2]) (cK nb B0 B1) a' w'→dO w0 [] w'→Q (.exit 0) a' w'):(uk (dN cz)).wp aa Q a w :=
 r9 (link::[t0,t1,t2]) [] [B0,B1] (g:=[(mB 25 [var 0,.int .i64 (-1)],.bool false)]) (wt:=[]) (lt:=[]) (sb:=[]) (T:=[]) (K:=[]) (RT:=[]) (wb:=[]) (ws:=[]) (fr:=fK 28 [(1,var 0),(2,.pointer (some ⟨0,0,some 0⟩)),(5,.slice (some ⟨0,0,none⟩) 3 3)]) (H:=[dQ [var 1,var 2,var 3] 3]) (lo:=[dQ [dM 0,dM 1] 35]) 102 (.exit 0) [0] [0] (by kernel_rfl) (by kernel_rfl) (by exact hnd) ⟨zV (by exact hl),gG,gD,fT,il _ _,fw (by exact hown),kF,fun _=>iI⟩ h hk hQ
theorem abo (hown:∀q∈[g]++[],q∈([]:List Nat)∨w0.heap.size≤q) (h:dP (dS 28 [(5,mH g [t0,t1,t2])]) (gK g [t0,t1,t2]) [] a w) (hk:dO w0 [] w) (hQ:∀a' w',dP (dS 28 []) (gK g [t0,t1,t2]) [] a' w'→dO w0 [] w'→R (.returned (mH g [t0,t1,t2])) w'):(sR 3 (dN cz)).wp aa (bodyPost aa cz R) a w :=
 qQ (0::[t0,t1,t2]) [] [] (g:=[]) (wt:=[]) (lt:=[]) (sb:=[]) (T:=[]) (K:=[]) (RT:=[]) (wb:=[]) (ws:=[]) (fr:=fK 28 [(5,.slice (some ⟨0,0,none⟩) 3 3)]) (H:=[dQ [var 1,var 2,var 3] 3]) (lo:=[]) (u:=mH g [t0,t1,t2]) 102 [0] [] (by kernel_rfl) (by kernel_rfl) (by simp [gK]) ⟨fB _,gG,gD,fT,il _ _,fw (by exact hown),kF,fun _=>iI⟩ h hk hQ
theorem abk (eK:B0.1=some ⟨bK,oK,none⟩) (h0:0≤link) (h1:link<(B0.2.1:Nat)) (lK:bK<w0.heap.size) (cK':∀(q:Nat) (x:Value),[.string nm,num kd,num pa][q]?=some x→w0.cell? ⟨bK,oK+link.toNat*12+q,none⟩=some x) (hown:∀q∈[g]++[nb],q∈([]:List Nat)∨w0.heap.size≤q) (hnd:([g]++[nb]).Nodup) (h:dP (uK nb g link [t0,t1,t2]) (gK g [t0,t1,t2]) (cK nb B0 B1) a w) (hk:dO w0 [] w)
  (hQ:∀a' w',dP (uK nb g pa [t0,t1,t2]) (gK g [t0,t1,t2]) (cK nb B0 B1) a' w'→dO w0 [] w'→Q .normal a' w'):(sR 4 (gY (dN cz))).wp aa Q a w:=by
 refine r9 (link::[t0,t1,t2]++ag6 0 0++[kd,pa]) [] [B0,B1] (g:=[]) (wt:=[(0,var 0,12,1)]) (lt:=[]) (sb:=[]) (T:=[]) (K:=[]) (RT:=[]) (wb:=[dU [.string nm,var 4,var 5]]) (ws:=[(bK,oK+link.toNat*12,[.string nm,num kd,num pa])]) (fr:=fK 28 [(1,var 0),(2,.pointer (some ⟨0,0,some 0⟩)),(5,.slice (some ⟨0,0,none⟩) 3 3)]) (H:=[dQ [var 1,var 2,var 3] 3]) (lo:=[dQ [dM 0,dM 1] 35]) 102 .normal [0] [0] (by kernel_rfl) (by kernel_rfl) (by exact hnd) ⟨fB _,gG,gD,fT,?_,fw (by exact hown),kF,fun _=>?_⟩ h hk hQ
 ·intro x hx
  simp only [ag,ae,or_false] at hx
  subst hx
  exact ⟨⟨lK,by simp⟩,aO _,cK'⟩
 ·refine ⟨fun e he=>?_,(fun e he=>by cases he),fun e he=>by cases he⟩
  simp only [fG,ag,ae,or_false] at he
  subst he
  exact ⟨⟨bK,oK,none⟩,B0.2.1,B0.2.2,link,2,(by show B0=_; rw [←eK]),rfl,rfl,h0,h1,rfl,rfl⟩
def jd (js:List JV):Nat→Int→List Int→List Int
 | 0,_,ks=>ks
 | n+1,link,ks=>if link=-1 then ks else jd js n ((js.getD link.toNat ⟨⟨#[]⟩,0,-1,0,0,0,0,0,0,0,0,0⟩).parent) (link::ks)
structure KI (w0:World) (nb g:Nat) (B0 B1:dY) (link:Int) (ks:List Int) (a:Act) (w:World):Prop where
 s:dP (uK nb g link ks) (gK g ks) (cK nb B0 B1) a w
 k:dO w0 [] w
 fb:w0.heap.size≤nb
 fg:ks≠[]→w0.heap.size≤g∧g≠nb
variable {ks:List Int}
theorem KI.own {t:Int} (h:KI w0 nb g B0 B1 link (t::ks) a w):(∀q∈[g]++[nb],q∈([]:List Nat)∨w0.heap.size≤q)∧([g]++[nb]).Nodup:=by
 obtain ⟨h1,h2⟩:=h.fg (by simp)
 refine ⟨fun q hq=>?_,by simpa using h2⟩
 simp only [dw,dD,ag,ae,or_false] at hq
 rcases hq with rfl | rfl
 ·exact .inr h1
 ·exact .inr h.fb
theorem KI.Bp (h:KI w0 nb g B0 B1 link ks a w):(∀q∈[]++[nb],q∈([]:List Nat)∨w0.heap.size≤q)∧([]++[nb]).Nodup:=by
 refine ⟨fun q hq=>?_,by simp⟩
 simp only [dD,ag,ae,or_false] at hq
 subst hq
 exact .inr h.fb
theorem Xh (hl:ks.length≤3) (hk:link=-1) (h:KI w0 nb g B0 B1 link ks a w) (hQ:∀a' w',KI w0 nb g B0 B1 link ks a' w'→Q (.exit 0) a' w'):(uk (dN cz)).wp aa Q a w:=by
 match ks,hl,h,hQ with
 | [],_,h,hQ=>exact aa9 h.Bp.1 h.Bp.2 (by rw [hk]; rfl) h.s h.k fun a' w' s k=>hQ a' w' ⟨s,k,h.fb,h.fg⟩
 | [t0],_,h,hQ=>exact aba h.own.1 h.own.2 (by rw [hk]; rfl) h.s h.k fun a' w' s k=>hQ a' w' ⟨s,k,h.fb,h.fg⟩
 | [t0,t1],_,h,hQ=>exact abb h.own.1 h.own.2 (by rw [hk]; rfl) h.s h.k fun a' w' s k=>hQ a' w' ⟨s,k,h.fb,h.fg⟩
 | [t0,t1,t2],_,h,hQ=>exact abd h.own.1 h.own.2 (by rw [hk]; rfl) h.s h.k fun a' w' s k=>hQ a' w' ⟨s,k,h.fb,h.fg⟩
 | _::_::_::_::_,hl,_,_=>exact absurd hl (by simp)
theorem Xj {j:JV} (hl:ks.length≤2) (hk:(link != -1)=true) (eK:B0.1=some ⟨bK,oK,none⟩) (h0:0≤link) (h1:link<(B0.2.1:Nat)) (lK:bK<w0.heap.size) (cJ:∀(q:Nat) (x:Value),j.vals[q]?=some x→w0.cell? ⟨bK,oK+link.toNat*12+q,none⟩=some x)
  (h:KI w0 nb g B0 B1 link ks a w) (hQ:∀a' w' g',KI w0 nb g' B0 B1 j.parent (link::ks) a' w'→Q .normal a' w'):(uk (dN cz)).wp aa Q a w:=by
 have cJ':∀(q:Nat) (x:Value),[.string j.name,num j.kind,num j.parent][q]?=some x→w0.cell? ⟨bK,oK+link.toNat*12+q,none⟩=some x:=fun q x hx=>cJ q x (by
  match q,hx with
  | 0,hx=>simpa [JV.vals] using hx
  | 1,hx=>simpa [JV.vals,num] using hx
  | 2,hx=>simpa [JV.vals,num] using hx
  | _+3,hx=>simp at hx)
 rw [Y3]
 have hn:∀{g':Nat} {a1 a2:Act} {w1 w2:World},KI w0 nb g B0 B1 link ks a1 w1→w1.heap.size≤g'→([g']++[nb]).Nodup→dP (uK nb g' link (link::ks)) (gK g' (link::ks)) (cK nb B0 B1) a2 w2→dO w0 [] w2→KI w0 nb g' B0 B1 link (link::ks) a2 w2:=fun h1 h2 h3 h4 h5=>⟨h4,h5,h.fb,fun _=>⟨aZ h1.k.size h2,by simpa using h3⟩⟩
 match ks,hl,h,hQ,@hn with
 | [],_,h,hQ,hn =>
  refine aa6 h.Bp.1 h.Bp.2 hk h.s h.k fun a1 w1 s1 k1=>wp_block ?_
  rw [H7]
  refine abe h.Bp.1 h.Bp.2 s1 k1 fun a2 w2 g' hg nd s2 k2=>?_
  have h2:=hn (a1:=a1) (w1:=w1) ⟨s1,k1,h.fb,h.fg⟩ hg nd s2 k2
  exact abh eK h0 h1 lK cJ' h2.own.1 h2.own.2 h2.s h2.k fun a3 w3 s3 k3=>hQ a3 w3 g' ⟨s3,k3,h2.fb,h2.fg⟩
 | [t0],_,h,hQ,hn =>
  refine aa7 h.own.1 h.own.2 hk h.s h.k fun a1 w1 s1 k1=>wp_block ?_
  rw [H7]
  refine abf h.own.1 h.own.2 s1 k1 fun a2 w2 g' hg nd s2 k2=>?_
  have h2:=hn (a1:=a1) (w1:=w1) ⟨s1,k1,h.fb,h.fg⟩ hg nd s2 k2
  exact abj eK h0 h1 lK cJ' h2.own.1 h2.own.2 h2.s h2.k fun a3 w3 s3 k3=>hQ a3 w3 g' ⟨s3,k3,h2.fb,h2.fg⟩
 | [t0,t1],_,h,hQ,hn =>
  refine aa8 h.own.1 h.own.2 hk h.s h.k fun a1 w1 s1 k1=>wp_block ?_
  rw [H7]
  refine abg h.own.1 h.own.2 s1 k1 fun a2 w2 g' hg nd s2 k2=>?_
  have h2:=hn (a1:=a1) (w1:=w1) ⟨s1,k1,h.fb,h.fg⟩ hg nd s2 k2
  exact abk eK h0 h1 lK cJ' h2.own.1 h2.own.2 h2.s h2.k fun a3 w3 s3 k3=>hQ a3 w3 g' ⟨s3,k3,h2.fb,h2.fg⟩
 | _::_::_::_,hl,_,_,_=>exact absurd hl (by simp)
def vC (w0:World) (ks:List Int) (e:Ending) (w':World):Prop:=∃g,e=.returned (mH g ks)∧dO w0 [] w'∧(ks≠[]→w0.heap.size≤g∧w'.heap[g]?=some (.cells ⟨ks.map num⟩ 3 (0,0)))
theorem Xi (hl:ks.length≤3) (h:KI w0 nb g B0 B1 link ks a w):(sR 3 (dN cz)).wp aa (bodyPost aa cz (vC w0 ks)) a w:=by
 have s':dP (dS 28 [(5,mH g ks)]) (gK g ks) [] a w:=dP.sub h.s (fun x hx=>by simp only [ag,ae,or_false] at hx; subst hx; rfl) (fun x hx=>hx) (fun x hx=>by cases hx) (by simpa using (afe.1 h.s.nd).1)
 match ks,hl,h,s' with
 | [],_,h,s'=>exact abl (by simp) s' h.k fun a' w' s k=>⟨g,rfl,k,fun e=>absurd rfl e⟩
 | [t0],_,h,s'=>exact abm (fun q hq=>h.own.1 q (by simp at hq ⊢; exact .inl hq)) s' h.k fun a' w' s k=>⟨g,rfl,k,fun _=>⟨(h.fg (by simp)).1,s.gl _ aA⟩⟩
 | [t0,t1],_,h,s'=>exact abn (fun q hq=>h.own.1 q (by simp at hq ⊢; exact .inl hq)) s' h.k fun a' w' s k=>⟨g,rfl,k,fun _=>⟨(h.fg (by simp)).1,s.gl _ aA⟩⟩
 | [t0,t1,t2],_,h,s'=>exact abo (fun q hq=>h.own.1 q (by simp at hq ⊢; exact .inl hq)) s' h.k fun a' w' s k=>⟨g,rfl,k,fun _=>⟨(h.fg (by simp)).1,s.gl _ aA⟩⟩
 | _::_::_::_::_,hl,_,_=>exact absurd hl (by simp)
theorem Xf {js:List JV} (hn:js.length≤3) (hB:B0.2.1=js.length) (hJ:Sl w B0.1 12 (js.map JV.vals)) (hp:∀(i:Nat) (j:JV),js[i]?=some j→-1≤j.parent∧j.parent<i) (h0:-1≤link) (h1:link<js.length) :
  Calls aa 102 #[.agg ⟨[dJ B0,dJ B1]⟩,num link] w (vC w (jd js 4 link [])):=by
 refine calls_of_wp Tryz.func102 (c:=(dN cz)) (by kernel_rfl) ?_
 rw [WO]
 have hst:dP ([some (.agg ⟨[dJ B0,dJ B1]⟩),some (num link)]++ag6 26 (some undef)) [] [] { tmps:=#[.agg ⟨[dJ B0,dJ B1]⟩,num link]++aji (cz.ntmps - 2) undef,defers:=[] } w :=
  qF (xs:=[.agg ⟨[dJ B0,dJ B1]⟩,num link]) (m:=26) rfl (fun x hx=>by cases hx) (by simp)
 refine jZ [link] [] [B0,B1] (g:=[]) (wt:=[]) (lt:=[]) (sb:=[]) (T:=[]) (K:=[]) (RT:=[]) (wb:=[]) (ws:=[]) (fr:=[.agg ⟨[dM 0,dM 1]⟩,var 0]++ag6 26 undef) (H:=[]) (lo:=[]) (us':=fun _ nl=>uK (nl.headD 0) 0 link []) (gs':=fun _ _=>[]) (ls':=fun _ nl=>cK (nl.headD 0) B0 B1) 102 _ [] [0] [] [2] (fun gn nl e1 e2=>?_) (by kernel_rfl) (fun gn nl e1 e2 e3=>?_) ⟨fB _,gG,gD,fT,il _ _,fw (by simp),kF,fun _=>iI⟩ hst (dO.refl w []) (fun a' w' gn nl e1 e2 e3 e4 hs hk'=>?_)
 ·match gn,nl,e1,e2 with
  | [],[x],_,_=>show (_:Option _)=_; kernel_rfl
 ·match gn,nl,e1,e2 with
  | [],[x],_,_=>simp [cK]
 ·match gn,nl,e1,e2 with
  | [],[nb],_,_ =>
  have hI0:KI w nb 0 B0 B1 link [] a' w':=⟨hs,hk',(e4 nb (by simp)).1,fun e=>absurd rfl e⟩
  refine wp_seq (wp_block ?_)
  refine wp_loop (fun a w'=>∃lk ks g,jd js (4 - ks.length) lk ks=jd js 4 link []∧-1≤lk∧lk+ks.length<js.length∧KI w nb g B0 B1 lk ks a w') (fun a _=>(intOf (a.tmps.getD 1 undef)+1).toNat) ⟨link,[],0,rfl,h0,by simpa using h1,hI0⟩ ?_
  rintro a2 w2 ⟨lk,ks,g,hc,hl0,hl1,hI⟩
  have hmv:∀(a:Act) (w:World) (lk:Int) (ks:List Int) (g:Nat) (gg l:List gQ),dP (uK nb g lk ks) gg l a w→intOf (a.tmps.getD 1 undef)=lk:=fun a w lk ks g gg l s=>by
   have:=s.fr 1 (num lk) (Aa (by decide) rfl)
   rw [bI,this]; simp [intOf,num]
  by_cases hne:lk=-1
  ·have hk3:ks.length≤3:=by omega
   refine Xh hk3 hne hI fun a3 w3 hI3=>?_
   have hfin:jd js 4 link []=ks:=by
    rw [←hc]
    cases h4:4 - ks.length with
    | zero=>rfl
    | succ n=>unfold jd; rw [if_pos hne]
   rw [hfin]
   exact Xi hk3 hI3
  ·have hlk:0≤lk:=by omega
   obtain ⟨j,hj⟩:∃j,js[lk.toNat]?=some j:=⟨_,ah (by omega)⟩
   obtain ⟨bK,oK,eK,lK,cJ⟩:=o9 hJ (Ba hj)
   obtain ⟨p0,p1⟩:=hp _ j hj
   refine Xj (j:=j) (by omega) (by simpa using hne) eK hlk (by rw [hB]; omega) lK cJ hI fun a3 w3 g' hI3=>?_
   refine ⟨⟨j.parent,lk::ks,g',?_,p0,by simp only [dB]; omega,hI3⟩,?_⟩
   ·rw [←hc]
    have h4:4 - ks.length=(4 - (lk::ks).length)+1:=by simp only [dB]; omega
    rw [h4]
    conv=>rhs; unfold jd
    rw [if_neg hne,getD_some hj]
   ·simp only [hmv _ _ _ _ _ _ _ hI.s,hmv _ _ _ _ _ _ _ hI3.s]
    omega
end Go.Proofs
end
section
namespace Go.Proofs
open Go.Sm Go.RowKit En
def M9 (P:Program) (c:Code) (k:Nat):Option (Tmp×Tmp×Tmp×TypeId×Nat):=match (opsOf c)[k]? with
 | some o=>match o.guard,o.dst,o.op with
  | none,some d,.call ⟨.builtin .append,⟨[.tmp x,.tmp y]⟩,⟨[tS,tX]⟩⟩=>match P.underlying tS,P.underlying tX with
   | some (.slice elem),some (.slice _)=>match P.info? elem with
    | some ti=>match ti.zero with
     | some z=>bif ay z.cells.size ti.size&&amE ti.bytes 1000000 then some (x,y,d,elem,ti.size) else none
     | none=>none
    | none=>none
   | _,_=>none
  | _,_,_=>none
 | none=>none
theorem Hz {c:Code} {k:Nat} {x y d:Tmp} {e:TypeId} {sz:Nat} (h:M9 aa c k=some (x,y,d,e,sz)):BX c k x y d e sz:=by
 unfold M9 at h
 split at h
 case h_2=>cases h
 rename_i o ho
 split at h
 case h_2=>cases h
 rename_i d' x' y' tS tX h1 h2 h3
 split at h
 case h_2=>cases h
 rename_i elem e' h4 h5
 split at h
 case h_2=>cases h
 rename_i ti h6
 split at h
 case h_2=>cases h
 rename_i z h7
 cases hb:(ay z.cells.size ti.size&&amE ti.bytes 1000000) with
 | false=>rw [hb] at h; cases h
 | true =>
  rw [hb] at h
  simp only [cond_true,ak,aP] at h
  obtain ⟨rfl,rfl,rfl,rfl,rfl⟩:=h
  simp only [aQ] at hb
  obtain ⟨hlt,he⟩:=ai.1 ho
  exact ⟨o,tS,tX,e',ti,z,by rw [←he]; exact List.drop_eq_getElem_cons hlt,h1,h2,h3,h4,h5,h6,h7,bf hb.1,rfl,ae8 hb.2⟩
theorem VH:BX (qg (dN aD)) 4 117 119 120 3 1:=Hz (by kernel_rfl)
theorem alO:BX (qj (dN aD)) 4 123 125 126 98 7:=Hz (by kernel_rfl)
theorem VJ:BX (qm (dN aD)) 4 130 132 133 95 3:=Hz (by kernel_rfl)
variable {n:Nat} {a:Act} {w:World}
theorem yX {d:Nat} {l:List (Nat×Value)} {v:Value} {gs ls:List gQ} (h:dP ((dS n l).set d (some v)) gs ls a w):dP (dS n ((d,v)::l)) gs ls a w:=by
 refine ⟨h.df,by rw [←h.sz]; simp [dS],fun t u e=>?_,h.gl,h.lo,h.nd⟩
 refine h.fr t u ?_
 unfold dS at e ⊢
 rw [List.getElem?_set]
 simp only [bY,aR] at e
 obtain ⟨y,y1,y2⟩:=e
 obtain ⟨hlt,hy⟩:=ai.1 y1
 simp only [List.getElem_range] at hy
 subst hy
 by_cases hd:d=t
 ·subst hd
  simp only [lookO,Nat.beq_refl,cond_true] at y2
  rw [if_pos rfl,if_pos (by simpa using hlt)]; exact congrArg some y2
 ·have:ay t d=false:=by
   cases hb:ay t d with
   | false=>rfl
   | true=>exact absurd (bf hb).symm hd
  rw [if_neg hd]
  simp only [lookO,this,cond_false] at y2
  simp only [bY,y1,Option.map_some,y2]
variable {Q:Exit→Act→World→Prop}
theorem y9 {P:Program} {ops:Array Oper} {l:List Oper} (h:wpList P ops Q (l++[]) a w):wpList P ops Q l a w:=by rwa [afk] at h
theorem aen (nc:Nat) (v:V6):∀x∈v.cs nc,x.oneCell'=true:=fun x hx=>by
 simp only [V6.cs,ag,ae,or_false] at hx
 rcases hx with rfl | rfl | rfl | rfl | rfl | rfl | rfl<;>rfl
theorem _root_.Go.Sm.dO.wide {w0:World} {ex ex2:List Nat} (h:dO w0 ex w) (hx:∀g∈ex,g∈ex2):dO w0 ex2 w:=⟨h.os,h.tape,h.output,h.size,fun g h1 h2=>h.frame g h1 fun hm=>h2 (hx g hm)⟩
variable {nc nr n6 nb n14 n15 n19:Nat} {B0 B1 Lk O A M K J V:dY} {f:Bool} {k m eT c i j:Int} {at_ vl:V6} {acc:List Value}
theorem Nq {link p0 p1 p2:Int} (h:dP (dS 137 [(0,dK nc),(4,dK nr),(6,dK n6),(7,dJ Lk),(8,dK nb),(9,dJ O),(64,dJ B1),(65,num (m)),(66,num (k)),(14,dK n14),(15,dK n15),(87,dJ K),(88,num (c)),(89,num (i)),(17,num (j)),(19,dK n19)]) [(nc,[.bool f],88)] [(nr,[dJ B0,dJ B1],35),(n6,[.pointer none,.slice none 0 0,.slice none 0 0,.slice none 0 0,.slice none 0 0],92),(nb,[dK nc,dJ B0,dJ B1,dJ A,dJ M],92),(n14,[dK nc,num at_.a,num at_.b,num at_.c,num at_.d,num at_.e,num at_.f],98),(n15,[num (eT),dJ J,dJ V],95),(n19,[dK nc,num vl.a,num vl.b,num vl.c,num vl.d,num vl.e,num vl.f],98)] a w) (hg:Grow w J 1 3 n acc) (hn:n≤1000) (hf:∀g∈blk J,g∉([nc,nr,n6,nb,n14,n15,n19]:List Nat))
  (hQ:∀(a':Act) (w':World) (S:dY),dP (dS 137 [(0,dK nc),(4,dK nr),(6,dK n6),(7,dJ Lk),(8,dK nb),(9,dJ O),(64,dJ B1),(65,num (m)),(66,num (k)),(14,dK n14),(15,dK n15),(87,dJ K),(88,num (c)),(89,num (i)),(17,num (j)),(19,dK n19)]) [(nc,[.bool f],88)] [(nr,[dJ B0,dJ B1],35),(n6,[.pointer none,.slice none 0 0,.slice none 0 0,.slice none 0 0,.slice none 0 0],92),(nb,[dK nc,dJ B0,dJ B1,dJ A,dJ M],92),(n14,[dK nc,num at_.a,num at_.b,num at_.c,num at_.d,num at_.e,num at_.f],98),(n15,[num (eT),dJ S,dJ V],95),(n19,[dK nc,num vl.a,num vl.b,num vl.c,num vl.d,num vl.e,num vl.f],98)] a' w'→Grow w' S 1 3 (n+1) (acc++[num j])→dO w (blk J++[nc,nr,n6,nb,n14,n15,n19]) w'→(∀g∈blk S,g∈blk J∨w.heap.size≤g)→Q .normal a' w'):(qg (dN aD)).wp aa Q a w:=by
 have hnd:=h.nd
 refine yC (by kernel_rfl) (xN 4 ?_)
 refine V5 (w0:=w) (ex':=[nr,n6,nb,n14,n15,n19]) (link:=link) (p0:=p0) (p1:=p1) (p2:=p2) (at_:=at_) (j:=j) (vl:=vl) (fun q hq=>.inl (by simpa using hq)) hnd h (dO.refl w _) fun a1 w1 ny hn1 nd s1 k1=>?_
 have hy:=s1.gl _ (aT _ aA)
 have hg1:=hg.keep k1 hf
 refine HZ VH hn rfl (fun v hv=>by simp only [ag,ae,or_false] at hv; subst hv; rfl) s1 rfl rfl hy hg1 (fun g hg' hm=>?_) fun w2 S g2 k2 f2 s2=>?_
 ·have h1:=hf g hg'
  have h2:=hg.lt g hg'
  have h3:=(hn1 ny (by simp)).1
  simp only [dI,ae9,dw,dD,ag,ae,or_false] at hm h1
  rcases hm with r | r | r
  ·exact h1 (.inl r)
  ·omega
  ·exact h1 (.inr r)
 have s3:=dP.sub (l':=[(0,dK nc),(4,dK nr),(6,dK n6),(7,dJ Lk),(8,dK nb),(9,dJ O),(64,dJ B1),(65,num (m)),(66,num (k)),(14,dK n14),(15,dK n15),(87,dJ K),(88,num (c)),(89,num (i)),(17,num (j)),(19,dK n19),(120,dJ S)]) (gs':=[(nc,[.bool f],88)]) (yX s2) (fun x hx=>by
  simp only [ag,ae,or_false] at hx
  rcases hx with rfl | rfl | rfl | rfl | rfl | rfl | rfl | rfl | rfl | rfl | rfl | rfl | rfl | rfl | rfl | rfl | rfl<;>rfl) (fun x hx=>by simp only [ag,ae,or_false] at hx; subst hx; exact aA) (fun x hx=>hx) hnd
 have hw:dO w (blk J++[nc,nr,n6,nb,n14,n15,n19]) w2:=(dO.comp (ex:=blk J++[nc,nr,n6,nb,n14,n15,n19]) (k1.wide fun g hm=>dm _ hm) k2 fun g hm=>.inl (aeY _ hm))
 have hfS:∀g∈blk S,g∉([nc,nr,n6,nb,n14,n15,n19]:List Nat):=fun g hm=>by
  rcases f2 g hm with r | r
  ·exact hf g r
  ·intro hm2
   have:=qE h g (by simpa using hm2)
   have:=k1.size
   omega
 refine y9 (V9 (w0:=w2) (ex':=[nr,n6,nb,n14,n15,n19]) (link:=link) (p0:=p0) (p1:=p1) (p2:=p2) (at_:=at_) (j:=j) (vl:=vl) (S:=S) (fun q hq=>.inl (by simpa using hq)) hnd s3 (dO.refl w2 _) fun a3 w3 s4 k4=>?_)
 exact hQ a3 w3 S s4 (g2.keep k4 hfS) (hw.comp k4 fun g hm=>.inl (dm _ hm)) fun g hm=>(f2 g hm).imp id fun r=>aZ k1.size r
theorem Nr {link p0 p1 p2:Int} (h:dP (dS 137 [(0,dK nc),(4,dK nr),(6,dK n6),(7,dJ Lk),(8,dK nb),(9,dJ O),(64,dJ B1),(65,num (m)),(66,num (k)),(14,dK n14),(15,dK n15),(87,dJ K),(88,num (c)),(89,num (i)),(17,num (j)),(19,dK n19)]) [(nc,[.bool f],88)] [(nr,[dJ B0,dJ B1],35),(n6,[.pointer none,.slice none 0 0,.slice none 0 0,.slice none 0 0,.slice none 0 0],92),(nb,[dK nc,dJ B0,dJ B1,dJ A,dJ M],92),(n14,[dK nc,num at_.a,num at_.b,num at_.c,num at_.d,num at_.e,num at_.f],98),(n15,[num (eT),dJ J,dJ V],95),(n19,[dK nc,num vl.a,num vl.b,num vl.c,num vl.d,num vl.e,num vl.f],98)] a w) (hg:Grow w V 7 98 n acc) (hn:n≤1000) (hf:∀g∈blk V,g∉([nc,nr,n6,nb,n14,n15,n19]:List Nat))
  (hQ:∀(a':Act) (w':World) (S:dY),dP (dS 137 [(0,dK nc),(4,dK nr),(6,dK n6),(7,dJ Lk),(8,dK nb),(9,dJ O),(64,dJ B1),(65,num (m)),(66,num (k)),(14,dK n14),(15,dK n15),(87,dJ K),(88,num (c)),(89,num (i)),(17,num (j)),(19,dK n19)]) [(nc,[.bool f],88)] [(nr,[dJ B0,dJ B1],35),(n6,[.pointer none,.slice none 0 0,.slice none 0 0,.slice none 0 0,.slice none 0 0],92),(nb,[dK nc,dJ B0,dJ B1,dJ A,dJ M],92),(n14,[dK nc,num at_.a,num at_.b,num at_.c,num at_.d,num at_.e,num at_.f],98),(n15,[num (eT),dJ J,dJ S],95),(n19,[dK nc,num vl.a,num vl.b,num vl.c,num vl.d,num vl.e,num vl.f],98)] a' w'→Grow w' S 7 98 (n+1) (acc++(vl.cs nc))→dO w (blk V++[nc,nr,n6,nb,n14,n15,n19]) w'→(∀g∈blk S,g∈blk V∨w.heap.size≤g)→Q .normal a' w'):(qj (dN aD)).wp aa Q a w:=by
 have hnd:=h.nd
 refine yC (by kernel_rfl) (xN 4 ?_)
 refine V7 (w0:=w) (ex':=[nr,n6,nb,n14,n15,n19]) (link:=link) (p0:=p0) (p1:=p1) (p2:=p2) (at_:=at_) (j:=j) (vl:=vl) (fun q hq=>.inl (by simpa using hq)) hnd h (dO.refl w _) fun a1 w1 ny hn1 nd s1 k1=>?_
 have hy:=s1.gl _ (aT _ aA)
 have hg1:=hg.keep k1 hf
 refine HZ alO hn rfl (aen nc vl) s1 rfl rfl hy hg1 (fun g hg' hm=>?_) fun w2 S g2 k2 f2 s2=>?_
 ·have h1:=hf g hg'
  have h2:=hg.lt g hg'
  have h3:=(hn1 ny (by simp)).1
  simp only [dI,ae9,dw,dD,ag,ae,or_false] at hm h1
  rcases hm with r | r | r
  ·exact h1 (.inl r)
  ·omega
  ·exact h1 (.inr r)
 have s3:=dP.sub (l':=[(0,dK nc),(4,dK nr),(6,dK n6),(7,dJ Lk),(8,dK nb),(9,dJ O),(64,dJ B1),(65,num (m)),(66,num (k)),(14,dK n14),(15,dK n15),(87,dJ K),(88,num (c)),(89,num (i)),(17,num (j)),(19,dK n19),(126,dJ S)]) (gs':=[(nc,[.bool f],88)]) (yX s2) (fun x hx=>by
  simp only [ag,ae,or_false] at hx
  rcases hx with rfl | rfl | rfl | rfl | rfl | rfl | rfl | rfl | rfl | rfl | rfl | rfl | rfl | rfl | rfl | rfl | rfl<;>rfl) (fun x hx=>by simp only [ag,ae,or_false] at hx; subst hx; exact aA) (fun x hx=>hx) hnd
 have hw:dO w (blk V++[nc,nr,n6,nb,n14,n15,n19]) w2:=(dO.comp (ex:=blk V++[nc,nr,n6,nb,n14,n15,n19]) (k1.wide fun g hm=>dm _ hm) k2 fun g hm=>.inl (aeY _ hm))
 have hfS:∀g∈blk S,g∉([nc,nr,n6,nb,n14,n15,n19]:List Nat):=fun g hm=>by
  rcases f2 g hm with r | r
  ·exact hf g r
  ·intro hm2
   have:=qE h g (by simpa using hm2)
   have:=k1.size
   omega
 refine y9 (Wd (w0:=w2) (ex':=[nr,n6,nb,n14,n15,n19]) (link:=link) (p0:=p0) (p1:=p1) (p2:=p2) (at_:=at_) (j:=j) (vl:=vl) (S:=S) (fun q hq=>.inl (by simpa using hq)) hnd s3 (dO.refl w2 _) fun a3 w3 s4 k4=>?_)
 exact hQ a3 w3 S s4 (g2.keep k4 hfS) (hw.comp k4 fun g hm=>.inl (dm _ hm)) fun g hm=>(f2 g hm).imp id fun r=>aZ k1.size r
theorem Xv {link p0 p1 p2:Int} (h:dP (dS 137 [(0,dK nc),(4,dK nr),(6,dK n6),(7,dJ Lk),(8,dK nb),(9,dJ O),(64,dJ B1),(65,num (m)),(66,num (k)),(14,dK n14),(15,dK n15)]) [(nc,[.bool f],88)] [(nr,[dJ B0,dJ B1],35),(n6,[.pointer none,.slice none 0 0,.slice none 0 0,.slice none 0 0,.slice none 0 0],92),(nb,[dK nc,dJ B0,dJ B1,dJ A,dJ M],92),(n14,[dK nc,num at_.a,num at_.b,num at_.c,num at_.d,num at_.e,num at_.f],98),(n15,[num (eT),dJ J,dJ V],95)] a w) (hg:Grow w M 3 95 n acc) (hn:n≤1000) (hf:∀g∈blk M,g∉([nc,nr,n6,nb,n14,n15]:List Nat))
  (hQ:∀(a':Act) (w':World) (S:dY),dP (dS 137 [(0,dK nc),(4,dK nr),(6,dK n6),(7,dJ Lk),(8,dK nb),(9,dJ O),(64,dJ B1),(65,num (m)),(66,num (k)),(14,dK n14),(15,dK n15)]) [(nc,[.bool f],88)] [(nr,[dJ B0,dJ B1],35),(n6,[.pointer none,.slice none 0 0,.slice none 0 0,.slice none 0 0,.slice none 0 0],92),(nb,[dK nc,dJ B0,dJ B1,dJ A,dJ S],92),(n14,[dK nc,num at_.a,num at_.b,num at_.c,num at_.d,num at_.e,num at_.f],98),(n15,[num (eT),dJ J,dJ V],95)] a' w'→Grow w' S 3 95 (n+1) (acc++[num eT,dJ J,dJ V])→dO w (blk M++[nc,nr,n6,nb,n14,n15]) w'→(∀g∈blk S,g∈blk M∨w.heap.size≤g)→Q .normal a' w'):(qm (dN aD)).wp aa Q a w:=by
 have hnd:=h.nd
 refine yC (by kernel_rfl) (xN 4 ?_)
 refine V8 (w0:=w) (ex':=[nr,n6,nb,n14,n15]) (K:=(none,0,0)) (link:=link) (p0:=p0) (p1:=p1) (p2:=p2) (at_:=at_) (fun q hq=>.inl (by simpa using hq)) hnd h (dO.refl w _) fun a1 w1 ny hn1 nd s1 k1=>?_
 have hy:=s1.gl _ (aT _ aA)
 have hg1:=hg.keep k1 hf
 refine HZ VJ hn rfl (fun v hv=>by simp only [ag,ae,or_false] at hv; rcases hv with rfl | rfl | rfl<;>rfl) s1 rfl rfl hy hg1 (fun g hg' hm=>?_) fun w2 S g2 k2 f2 s2=>?_
 ·have h1:=hf g hg'
  have h2:=hg.lt g hg'
  have h3:=(hn1 ny (by simp)).1
  simp only [dI,ae9,dw,dD,ag,ae,or_false] at hm h1
  rcases hm with r | r | r
  ·exact h1 (.inl r)
  ·omega
  ·exact h1 (.inr r)
 have s3:=dP.sub (l':=[(0,dK nc),(4,dK nr),(6,dK n6),(7,dJ Lk),(8,dK nb),(9,dJ O),(64,dJ B1),(65,num (m)),(66,num (k)),(14,dK n14),(15,dK n15),(133,dJ S)]) (gs':=[(nc,[.bool f],88)]) (yX s2) (fun x hx=>by
  simp only [ag,ae,or_false] at hx
  rcases hx with rfl | rfl | rfl | rfl | rfl | rfl | rfl | rfl | rfl | rfl | rfl | rfl<;>rfl) (fun x hx=>by simp only [ag,ae,or_false] at hx; subst hx; exact aA) (fun x hx=>hx) hnd
 have hw:dO w (blk M++[nc,nr,n6,nb,n14,n15]) w2:=(dO.comp (ex:=blk M++[nc,nr,n6,nb,n14,n15]) (k1.wide fun g hm=>dm _ hm) k2 fun g hm=>.inl (aeY _ hm))
 have hfS:∀g∈blk S,g∉([nc,nr,n6,nb,n14,n15]:List Nat):=fun g hm=>by
  rcases f2 g hm with r | r
  ·exact hf g r
  ·intro hm2
   have:=qE h g (by simpa using hm2)
   have:=k1.size
   omega
 refine y9 (We (w0:=w2) (ex':=[nr,n6,nb,n14,n15]) (K:=(none,0,0)) (link:=link) (p0:=p0) (p1:=p1) (p2:=p2) (at_:=at_) (S:=S) (fun q hq=>.inl (by simpa using hq)) hnd s3 (dO.refl w2 _) fun a3 w3 s4 k4=>?_)
 exact hQ a3 w3 S s4 (g2.keep k4 hfS) (hw.comp k4 fun g hm=>.inl (dm _ hm)) fun g hm=>(f2 g hm).imp id fun r=>aZ k1.size r
end Go.Proofs
end
section
namespace Go.Proofs
open Go.Sm Go.RowKit En
def ER:JV:=⟨⟨#[]⟩,0,-1,0,0,0,0,0,0,0,0,0⟩
def j5 (js:List JV) (axs ogs:List V6) (at_:V6) (acc:List Int×List V6×Bool) (j:Int):List Int×List V6×Bool :=
 bif (js.getD j.toNat ER).kind==0 then acc else
 bif kG (js.getD j.toNat ER).kind then (acc.1++[j],acc.2.1++[sj at_ (ogs.getD j.toNat .z) (axs.getD j.toNat .z)],DF acc.2.2 at_ (ogs.getD j.toNat .z) (axs.getD j.toNat .z))
 else (acc.1++[j],acc.2.1++[axs.getD j.toNat .z],acc.2.2)
structure Hq (w:World) (ex:List Nat) (nc:Nat) (B0 A O K:dY) (js:List JV) (axs ogs:List V6) (ks:List Int):Prop where
 b0:B0.2.1=js.length
 aL:A.2.1=axs.length
 oL:O.2.1=ogs.length
 kL:K.2.1=ks.length
 l1:axs.length=js.length
 l2:ogs.length=js.length
 sB:Sl w B0.1 12 (js.map JV.vals)
 sA:Sl w A.1 7 (axs.map (V6.cs nc))
 sO:Sl w O.1 7 (ogs.map (V6.cs nc))
 sK:Sl w K.1 1 (fF ks)
 xB:∀a,B0.1=some a→a.block∉ex
 xA:∀a,A.1=some a→a.block∉ex
 xO:∀a,O.1=some a→a.block∉ex
 xK:∀a,K.1=some a→a.block∉ex
 kj:∀(i:Nat) (j:Int),ks[i]?=some j→0≤j∧j<js.length
 k3:ks.length≤100
 lt:∀g∈ex,g<w.heap.size
def xD (wC:World) (nc nr n6 nb n14 n15:Nat) (B0 B1 Lk O A M K:dY) (k m eT:Int) (at_:V6) (c i:Nat) (acc:List Int×List V6×Bool) (a:Act) (w:World):Prop :=
 ∃J V:dY,dP (dS 137 [(0,dK nc),(4,dK nr),(6,dK n6),(7,dJ Lk),(8,dK nb),(9,dJ O),(64,dJ B1),(65,num (m)),(66,num (k)),(14,dK n14),(15,dK n15),(87,dJ K),(88,num (c:Nat)),(89,num (i:Nat))]) [(nc,[.bool (acc.2.2)],88)] [(nr,[dJ B0,dJ B1],35),(n6,[.pointer none,.slice none 0 0,.slice none 0 0,.slice none 0 0,.slice none 0 0],92),(nb,[dK nc,dJ B0,dJ B1,dJ A,dJ M],92),(n14,[dK nc,num at_.a,num at_.b,num at_.c,num at_.d,num at_.e,num at_.f],98),(n15,[num (eT),dJ J,dJ V],95)] a w∧dO wC [nc,nr,n6,nb,n14,n15] w∧Grow w J 1 3 acc.1.length (acc.1.map num)∧Grow w V 7 98 acc.2.1.length (acc.2.1.flatMap (V6.cs nc))∧(∀g∈blk J,wC.heap.size≤g)∧(∀g∈blk V,wC.heap.size≤g)∧(∀g∈blk J,g∉blk V)∧acc.1.length≤i∧acc.2.1.length=acc.1.length
theorem Y7:(rE (dN aD))=o7 [dZ (rE (dN aD)),dZ (fU (rE (dN aD)))] (fU (fU (rE (dN aD)))):=by kernel_rfl
theorem Wp:(fU (fU (rE (dN aD))))=.seq (.block 5 (nN (dN aD))) (sR 3 (rE (dN aD))):=by kernel_rfl
theorem Ww:(nN (dN aD))=o7 [(dZ (nN (dN aD))),(dZ (fU (nN (dN aD)))),(dZ (fU (fU (nN (dN aD))))),(dZ (sR 3 (nN (dN aD)))),(dZ (sR 4 (nN (dN aD))))] (.seq (qg (dN aD)) (qj (dN aD))):=by kernel_rfl
variable {wC:World}
theorem sW {ex:List Nat} {S:dY} (h:∀g∈blk S,wC.heap.size≤g) (hl:∀g∈ex,g<wC.heap.size):∀g∈blk S,g∉ex:=fun g hg hm=>by have:=h g hg; have:=hl g hm; omega
variable {i:Nat}
theorem G8 (h:i≤1000):bg.wrap ((i:Int)+1)=((i+1:Nat):Int):=by rw [dz _ (by omega)]; omega
theorem wO {α:Type} {l:List α} {x d:α} (h:l[i]?=some x):l.getD i d=x:=by simp [amI,h]
theorem Yp {nc nr n6 nb n14 n15:Nat} {B0 B1 Lk O A M K:dY} {k m eT:Int} {at_:V6} {js:List JV} {axs ogs:List V6} {ks:List Int} {acc:List Int×List V6×Bool} {j:Int} {a:Act} {w:World} {Q:Exit→Act→World→Prop} (hC:Hq wC [nc,nr,n6,nb,n14,n15] nc B0 A O K js axs ogs ks) (hi:ks[i]?=some j) (hV:xD wC nc nr n6 nb n14 n15 B0 B1 Lk O A M K k m eT at_ ks.length i acc a w) (hQ:∀a' w',xD wC nc nr n6 nb n14 n15 B0 B1 Lk O A M K k m eT at_ ks.length (i+1) (j5 js axs ogs at_ acc j) a' w'→Q .normal a' w'):(rE (dN aD)).wp aa Q a w:=by
 obtain ⟨J,V,s,hk,gJ,gV,fJ,fV,hne,hl1,hl2⟩:=hV
 have hlt:i<ks.length:=(ai.1 hi).1
 have hk3:=hC.k3
 have hi1:i≤1000:=by omega
 obtain ⟨j0,j1⟩:=hC.kj i j hi
 obtain ⟨jv,hj⟩:∃jv,js[j.toNat]?=some jv:=⟨_,ah (by omega)⟩
 obtain ⟨ax,hax⟩:∃ax,axs[j.toNat]?=some ax:=⟨_,ah (by have:=hC.l1; omega)⟩
 obtain ⟨og,hog⟩:∃og,ogs[j.toNat]?=some og:=⟨_,ah (by have:=hC.l2; omega)⟩
 have hjn:((j.toNat:Nat):Int)=j:=by omega
 obtain ⟨bK,oK,rK⟩:=iy hC.sK (by simp [fF,hC.kL]) (show (fF ks)[i]?=some [num j] by simp [fF,hi,num]) (aO _) hC.xK
 obtain ⟨bB,oB,rB⟩:=iy hC.sB (by simp [hC.b0]) (show (js.map JV.vals)[j.toNat]?=some jv.vals by simp [hj]) (aO _) hC.xB
 obtain ⟨bA,oA,rA⟩:=iy hC.sA (by simp [hC.aL]) (show (axs.map (V6.cs nc))[j.toNat]?=some (ax.cs nc) by simp [hax]) (aO _) hC.xA
 obtain ⟨bO,oO,rO⟩:=iy hC.sO (by simp [hC.oL]) (show (ogs.map (V6.cs nc))[j.toNat]?=some (og.cs nc) by simp [hog]) (aO _) hC.xO
 rw [hjn] at rB rA rO
 have hxx:∀g∈[nc,nr,n6,nb,n14,n15],g∈[nc,nr,n6,nb,n14,n15]∨wC.heap.size≤g:=fun g hg=>.inl hg
 rw [Y7]
 refine VY (w0:=w) (ex':=[nr,n6,nb,n14,n15]) (link:=0) (p0:=0) (p1:=0) (p2:=0) (at_:=at_) (by simpa using hlt) (fun q hq=>.inl (by simpa using hq)) s.nd s (dO.refl w _) fun a1 w1 s1 k1=>?_
 have hk1:=hk.trans k1
 have nJ:=sW fJ hC.lt
 have nV:=sW fV hC.lt
 have gJ1:=gJ.keep k1 nJ
 have gV1:=gV.keep k1 nV
 by_cases hf:jv.kind=0
 ·have hst:j5 js axs ogs at_ acc j=acc:=by unfold j5; rw [wO hj]; simp [hf]
  refine VW (w0:=w1) (ex':=[nr,n6,nb,n14,n15]) (j:=j) (jv:=jv) (link:=0) (p0:=0) (p1:=0) (p2:=0) (at_:=at_) (by simp [hf]) (rK.mv hk1 hxx) (rB.mv hk1 hxx) (fun q hq=>.inl (by simpa using hq)) s1.nd s1 (dO.refl w1 _) fun a2 w2 s2 k2=>hQ a2 w2 ?_
  rw [G8 hi1] at s2
  rw [hst]
  exact ⟨J,V,s2,hk1.trans k2,gJ1.keep k2 nJ,gV1.keep k2 nV,fJ,fV,hne,by omega,hl2⟩
 have hfb:(jv.kind==0)=false:=by simp [hf]
 rw [Wp]
 refine wp_seq (wp_block ?_)
 rw [Ww]
 by_cases ht:kG jv.kind=true
 ·have hst:j5 js axs ogs at_ acc j=(acc.1++[j],acc.2.1++[sj at_ og ax],DF acc.2.2 at_ og ax):=by unfold j5; rw [wO hj,wO hax,wO hog,hfb,ht]; rfl
  refine Wj (w0:=w1) (ex':=[nr,n6,nb,n14,n15]) (j:=j) (jv:=jv) (ax:=ax) (og:=og) (link:=0) (p0:=0) (p1:=0) (p2:=0) (at_:=at_) (by simp [hf]) ht (rK.mv hk1 hxx) (rB.mv hk1 hxx) (rA.mv hk1 hxx) (rO.mv hk1 hxx) (fun q hq=>.inl (by simpa using hq)) s1.nd s1 (dO.refl w1 _) fun a2 w2 n19 hn nd2 s2 k2=>?_
  refine wp_seq (Nq (link:=0) (p0:=0) (p1:=0) (p2:=0) s2 (gJ1.keep k2 nJ) (by omega) (fun g hg hm=>?_) fun a3 w3 J' s3 g3 k3 f3=>?_)
  ·have h1:=nJ g hg
   have h2:=gJ1.lt g hg
   have h3:=(hn n19 (by simp)).1
   simp only [ag,ae,or_false] at hm h1
   rcases hm with r | r | r | r | r | r | r<;>first | omega | exact h1 (by simp [r])
  have n19f:∀g∈blk V,g∉[nc,nr,n6,nb,n14,n15,n19]:=fun g hg hm=>by
   have h1:=nV g hg
   have h2:=gV1.lt g hg
   have h3:=(hn n19 (by simp)).1
   simp only [ag,ae,or_false] at hm h1
   rcases hm with r | r | r | r | r | r | r<;>first | omega | exact h1 (by simp [r])
  have gV3:=(gV1.keep k2 nV).keep k3 fun g hg hm=>by
   rcases bH.1 hm with r | r
   ·exact hne g r hg
   ·exact n19f g hg r
  refine Nr (link:=0) (p0:=0) (p1:=0) (p2:=0) s3 gV3 (by omega) n19f fun a4 w4 V' s4 g4 k4 f4=>?_
  have z1:=hk1.size; have z2:=k2.size; have z3:=k3.size; have z4:=k4.size
  have gg:∀g∈blk V',wC.heap.size≤g:=fun g hg=>by rcases f4 g hg with r | r; exact fV g r; omega
  have gj:∀g∈blk J',wC.heap.size≤g:=fun g hg=>by rcases f3 g hg with r | r; exact fJ g r; omega
  have n19g:wC.heap.size≤n19:=by have:=(hn n19 (by simp)).1; omega
  have hne':∀g∈blk J',g∉blk V':=fun g hg hm=>by
   have h1:=g3.lt g hg
   rcases f3 g hg with r | r
   ·rcases f4 g hm with q | q
    ·exact hne g r q
    ·omega
   ·rcases f4 g hm with q | q
    ·have:=gV1.lt g q; omega
    ·omega
  have nJ':∀g∈blk J',g∉blk V++[nc,nr,n6,nb,n14,n15,n19]:=fun g hg hm=>by
   rcases bH.1 hm with r | r
   ·rcases f3 g hg with q | q
    ·exact hne g q r
    ·have:=gV1.lt g r; omega
   ·have h1:=qE s2 g (by simpa using r)
    rcases f3 g hg with q | q
    ·have h2:=nJ g q
     have h3:=gJ1.lt g q
     have h4:=(hn n19 (by simp)).1
     simp only [ag,ae,or_false] at r h2
     rcases r with r | r | r | r | r | r | r<;>first | omega | exact h2 (by simp [r])
    ·omega
  have hk4:dO wC [nc,nr,n6,nb,n14,n15] w4:=((hk1.comp k2 fun g hg=>.inl (by simpa using hg)).comp k3 fun g hg=>?_).comp k4 fun g hg=>?_
  rotate_left
  ·rcases bH.1 hg with r | r
   ·exact .inr (fJ g r)
   ·simp only [ag,ae,or_false] at r ⊢
    rcases r with r | r | r | r | r | r | r<;>first | (exact .inr (r▸n19g)) | (left; simp [r])
  ·rcases bH.1 hg with r | r
   ·exact .inr (fV g r)
   ·simp only [ag,ae,or_false] at r ⊢
    rcases r with r | r | r | r | r | r | r<;>first | (exact .inr (r▸n19g)) | (left; simp [r])
  have s5:=dP.sub (l':=[(0,dK nc),(4,dK nr),(6,dK n6),(7,dJ Lk),(8,dK nb),(9,dJ O),(64,dJ B1),(65,num (m)),(66,num (k)),(14,dK n14),(15,dK n15),(87,dJ K),(88,num (ks.length:Nat)),(89,num (i:Nat))]) (gs':=[(nc,[.bool (DF acc.2.2 at_ og ax)],88)]) (ls':=[(nr,[dJ B0,dJ B1],35),(n6,[.pointer none,.slice none 0 0,.slice none 0 0,.slice none 0 0,.slice none 0 0],92),(nb,[dK nc,dJ B0,dJ B1,dJ A,dJ M],92),(n14,[dK nc,num at_.a,num at_.b,num at_.c,num at_.d,num at_.e,num at_.f],98),(n15,[num (eT),dJ J',dJ V'],95)]) s4 (fun x hx=>by
   simp only [ag,ae,or_false] at hx
   rcases hx with rfl | rfl | rfl | rfl | rfl | rfl | rfl | rfl | rfl | rfl | rfl | rfl | rfl | rfl<;>rfl) (fun x hx=>hx) (fun x hx=>by
   simp only [ag,ae,or_false] at hx ⊢
   rcases hx with r | r | r | r | r<;>simp [r]) s.nd
  refine MK (w0:=w4) (ex':=[nr,n6,nb,n14,n15]) (link:=0) (p0:=0) (p1:=0) (p2:=0) (at_:=at_) (fun q hq=>.inl (by simpa using hq)) s5.nd s5 (dO.refl w4 _) fun a5 w5 s6 k6=>hQ a5 w5 ?_
  rw [G8 hi1] at s6
  rw [hst]
  refine ⟨J',V',s6,hk4.trans k6,?_,?_,gj,gg,hne',by simp; omega,by simp [hl2]⟩
  ·have:=(g3.keep k4 nJ').keep k6 (sW gj hC.lt)
   simpa using this
  ·have:=g4.keep k6 (sW gg hC.lt)
   simpa using this
 ·have hst:j5 js axs ogs at_ acc j=(acc.1++[j],acc.2.1++[ax],acc.2.2):=by unfold j5; rw [wO hj,wO hax,hfb,show kG jv.kind=false by simpa using ht]; rfl
  refine Wi (w0:=w1) (ex':=[nr,n6,nb,n14,n15]) (j:=j) (jv:=jv) (ax:=ax) (link:=0) (p0:=0) (p1:=0) (p2:=0) (at_:=at_) (by simp [hf]) (by simpa using ht) (rK.mv hk1 hxx) (rB.mv hk1 hxx) (rA.mv hk1 hxx) (fun q hq=>.inl (by simpa using hq)) s1.nd s1 (dO.refl w1 _) fun a2 w2 n19 hn nd2 s2 k2=>?_
  refine wp_seq (Nq (link:=0) (p0:=0) (p1:=0) (p2:=0) s2 (gJ1.keep k2 nJ) (by omega) (fun g hg hm=>?_) fun a3 w3 J' s3 g3 k3 f3=>?_)
  ·have h1:=nJ g hg
   have h2:=gJ1.lt g hg
   have h3:=(hn n19 (by simp)).1
   simp only [ag,ae,or_false] at hm h1
   rcases hm with r | r | r | r | r | r | r<;>first | omega | exact h1 (by simp [r])
  have n19f:∀g∈blk V,g∉[nc,nr,n6,nb,n14,n15,n19]:=fun g hg hm=>by
   have h1:=nV g hg
   have h2:=gV1.lt g hg
   have h3:=(hn n19 (by simp)).1
   simp only [ag,ae,or_false] at hm h1
   rcases hm with r | r | r | r | r | r | r<;>first | omega | exact h1 (by simp [r])
  have gV3:=(gV1.keep k2 nV).keep k3 fun g hg hm=>by
   rcases bH.1 hm with r | r
   ·exact hne g r hg
   ·exact n19f g hg r
  refine Nr (link:=0) (p0:=0) (p1:=0) (p2:=0) s3 gV3 (by omega) n19f fun a4 w4 V' s4 g4 k4 f4=>?_
  have z1:=hk1.size; have z2:=k2.size; have z3:=k3.size; have z4:=k4.size
  have gg:∀g∈blk V',wC.heap.size≤g:=fun g hg=>by rcases f4 g hg with r | r; exact fV g r; omega
  have gj:∀g∈blk J',wC.heap.size≤g:=fun g hg=>by rcases f3 g hg with r | r; exact fJ g r; omega
  have n19g:wC.heap.size≤n19:=by have:=(hn n19 (by simp)).1; omega
  have hne':∀g∈blk J',g∉blk V':=fun g hg hm=>by
   have h1:=g3.lt g hg
   rcases f3 g hg with r | r
   ·rcases f4 g hm with q | q
    ·exact hne g r q
    ·omega
   ·rcases f4 g hm with q | q
    ·have:=gV1.lt g q; omega
    ·omega
  have nJ':∀g∈blk J',g∉blk V++[nc,nr,n6,nb,n14,n15,n19]:=fun g hg hm=>by
   rcases bH.1 hm with r | r
   ·rcases f3 g hg with q | q
    ·exact hne g q r
    ·have:=gV1.lt g r; omega
   ·have h1:=qE s2 g (by simpa using r)
    rcases f3 g hg with q | q
    ·have h2:=nJ g q
     have h3:=gJ1.lt g q
     have h4:=(hn n19 (by simp)).1
     simp only [ag,ae,or_false] at r h2
     rcases r with r | r | r | r | r | r | r<;>first | omega | exact h2 (by simp [r])
    ·omega
  have hk4:dO wC [nc,nr,n6,nb,n14,n15] w4:=((hk1.comp k2 fun g hg=>.inl (by simpa using hg)).comp k3 fun g hg=>?_).comp k4 fun g hg=>?_
  rotate_left
  ·rcases bH.1 hg with r | r
   ·exact .inr (fJ g r)
   ·simp only [ag,ae,or_false] at r ⊢
    rcases r with r | r | r | r | r | r | r<;>first | (exact .inr (r▸n19g)) | (left; simp [r])
  ·rcases bH.1 hg with r | r
   ·exact .inr (fV g r)
   ·simp only [ag,ae,or_false] at r ⊢
    rcases r with r | r | r | r | r | r | r<;>first | (exact .inr (r▸n19g)) | (left; simp [r])
  have s5:=dP.sub (l':=[(0,dK nc),(4,dK nr),(6,dK n6),(7,dJ Lk),(8,dK nb),(9,dJ O),(64,dJ B1),(65,num (m)),(66,num (k)),(14,dK n14),(15,dK n15),(87,dJ K),(88,num (ks.length:Nat)),(89,num (i:Nat))]) (gs':=[(nc,[.bool (acc.2.2)],88)]) (ls':=[(nr,[dJ B0,dJ B1],35),(n6,[.pointer none,.slice none 0 0,.slice none 0 0,.slice none 0 0,.slice none 0 0],92),(nb,[dK nc,dJ B0,dJ B1,dJ A,dJ M],92),(n14,[dK nc,num at_.a,num at_.b,num at_.c,num at_.d,num at_.e,num at_.f],98),(n15,[num (eT),dJ J',dJ V'],95)]) s4 (fun x hx=>by
   simp only [ag,ae,or_false] at hx
   rcases hx with rfl | rfl | rfl | rfl | rfl | rfl | rfl | rfl | rfl | rfl | rfl | rfl | rfl | rfl<;>rfl) (fun x hx=>hx) (fun x hx=>by
   simp only [ag,ae,or_false] at hx ⊢
   rcases hx with r | r | r | r | r<;>simp [r]) s.nd
  refine MK (w0:=w4) (ex':=[nr,n6,nb,n14,n15]) (link:=0) (p0:=0) (p1:=0) (p2:=0) (at_:=at_) (fun q hq=>.inl (by simpa using hq)) s5.nd s5 (dO.refl w4 _) fun a5 w5 s6 k6=>hQ a5 w5 ?_
  rw [G8 hi1] at s6
  rw [hst]
  refine ⟨J',V',s6,hk4.trans k6,?_,?_,gj,gg,hne',by simp; omega,by simp [hl2]⟩
  ·have:=(g3.keep k4 nJ').keep k6 (sW gj hC.lt)
   simpa using this
  ·have:=g4.keep k6 (sW gg hC.lt)
   simpa using this
end Go.Proofs
end
section
namespace Go.Proofs
open Go.Sm Go.RowKit En
variable {wC w:World} {nc nr n6 nb n14 n15:Nat} {B0 B1 Lk O A M K:dY} {m eT:Int} {at_:V6} {ks:List Int} {acc:List Int×List V6×Bool} {a:Act} {Q:Exit→Act→World→Prop}
theorem Yn {k:Int} (hlt:∀g∈[nc,nr,n6,nb,n14,n15],g<wC.heap.size) (hV:xD wC nc nr n6 nb n14 n15 B0 B1 Lk O A M K k m eT at_ ks.length ks.length acc a w) (hQ:∀a' w',xD wC nc nr n6 nb n14 n15 B0 B1 Lk O A M K k m eT at_ ks.length ks.length acc a' w'→Q (.exit 4) a' w'):(rE (dN aD)).wp aa Q a w:=by
 obtain ⟨J,V,s,hk,gJ,gV,fJ,fV,hne,hl1,hl2⟩:=hV
 refine Wl (w0:=w) (ex':=[nr,n6,nb,n14,n15]) (link:=0) (p0:=0) (p1:=0) (p2:=0) (at_:=at_) (by simp) (fun q hq=>.inl (by simpa using hq)) s.nd s (dO.refl w _) fun a1 w1 s1 k1=>hQ a1 w1 ?_
 exact ⟨J,V,s1,hk.trans k1,gJ.keep k1 (sW fJ hlt),gV.keep k1 (sW fV hlt),fJ,fV,hne,hl1,hl2⟩
theorem Wo:(fU (rD (dN aD)))=.block 4 (.loop (rE (dN aD))):=by kernel_rfl
variable {gs ls:List gQ}
theorem UE {n t:Nat} {l:List (Nat×Value)} {x:Int} (h:dP (dS n l) gs ls a w) (ht:t<n) (e:lookO t l=some (num x)):intOf (a.tmps.getD t undef)=x:=by
 have:=h.fr t (num x) (Aa ht e)
 rw [bI,this]; simp [intOf,num]
variable {js:List JV}
theorem Yo {k:Int} {axs ogs:List V6} (hC:Hq wC [nc,nr,n6,nb,n14,n15] nc B0 A O K js axs ogs ks) (hV:xD wC nc nr n6 nb n14 n15 B0 B1 Lk O A M K k m eT at_ ks.length 0 acc a w) (hQ:∀a' w',xD wC nc nr n6 nb n14 n15 B0 B1 Lk O A M K k m eT at_ ks.length ks.length (ks.foldl (j5 js axs ogs at_) acc) a' w'→Q .normal a' w'):(fU (rD (dN aD))).wp aa Q a w:=by
 rw [Wo]
 refine wp_block (wp_loop (fun a w=>∃i,i≤ks.length∧xD wC nc nr n6 nb n14 n15 B0 B1 Lk O A M K k m eT at_ ks.length i ((ks.take i).foldl (j5 js axs ogs at_) acc) a w) (fun a _=>ks.length - (intOf (a.tmps.getD 89 undef)).toNat) ⟨0,Nat.zero_le _,hV⟩ ?_)
 rintro a2 w2 ⟨i,hi,hI⟩
 by_cases hl:i=ks.length
 ·subst hl
  rw [List.take_length] at hI
  exact Yn hC.lt hI fun a3 w3 h3=>hQ a3 w3 h3
 ·obtain ⟨j,hj⟩:∃j,ks[i]?=some j:=⟨_,ah (by omega)⟩
  have e1:∀a w i acc,xD wC nc nr n6 nb n14 n15 B0 B1 Lk O A M K k m eT at_ ks.length i acc a w→intOf (a.tmps.getD 89 undef)=i:=fun a w i acc h=>by
   obtain ⟨J,V,s,_⟩:=h
   exact UE s (by decide) rfl
  refine Yp hC hj hI fun a3 w3 h3=>?_
  refine ⟨⟨i+1,by omega,?_⟩,?_⟩
  ·have:ks.take (i+1)=ks.take i++[j]:=by rw [List.take_add_one,hj]; rfl
   rw [this,List.foldl_append]
   exact h3
  ·rw [e1 _ _ _ _ hI,e1 _ _ _ _ h3]
   omega
theorem U3 (js:List JV) (axs ogs:List V6) (at_:V6):∀(ks:List Int) (acc:List Int×List V6×Bool) (x:Int),x∈(ks.foldl (j5 js axs ogs at_) acc).1→x∈acc.1∨x∈ks
 | [],_,x,h=>.inl h
 | k::ks,acc,x,h=>by
  rcases U3 js axs ogs at_ ks _ x h with r | r
  ·unfold j5 at r
   cases h1:((js.getD k.toNat ER).kind==0) with
   | true=>rw [h1] at r; exact .inl r
   | false =>
    rw [h1] at r
    cases h2:kG (js.getD k.toNat ER).kind<;>rw [h2] at r<;>simp only [cond_false,cond_true,bH,ag,ae,or_false] at r<;>rcases r with r | r
    ·exact .inl r
    ·exact .inr (r▸aA)
    ·exact .inl r
    ·exact .inr (r▸aA)
  ·exact .inr (aT _ r)
theorem M5 {js:List JV} (hp:∀(i:Nat) (j:JV),js[i]?=some j→-1≤j.parent∧j.parent<i):∀(n:Nat) (link:Int) (ks:List Int),-1≤link→link<js.length→(∀x∈ks,0≤x∧x<js.length)→(∀x∈jd js n link ks,0≤x∧x<js.length)∧(jd js n link ks).length≤n+ks.length
 | 0,link,ks,_,_,h=>⟨h,by simp [jd]⟩
 | n+1,link,ks,h0,h1,h=>by
  unfold jd
  split
  ·exact ⟨h,by omega⟩
  ·rename_i hne
   obtain ⟨j,hj⟩:∃j,js[link.toNat]?=some j:=⟨_,ah (by omega)⟩
   obtain ⟨q0,q1⟩:=hp _ j hj
   have e:(js.getD link.toNat ⟨⟨#[]⟩,0,-1,0,0,0,0,0,0,0,0,0⟩).parent=j.parent:=by rw [wO hj]
   rw [e]
   obtain ⟨r1,r2⟩:=M5 hp n j.parent (link::ks) q0 (by omega) (fun x hx=>by rcases ag.1 hx with r | r; (subst r; omega); exact h x r)
   exact ⟨r1,by simp at r2; omega⟩
structure Ae (c:Code) (k:Nat) (f:FuncId) (xs:List Tmp) (d:Tmp):Prop where
 h:∃(o:Oper) (ts:Array TypeId) (fn:Func),(opsOf c).drop k=o::(opsOf c).drop (k+1)∧o.guard=none∧o.dst=some d∧o.op=.call { callee:=.value (.func f),args:=(xs.map Operand.tmp).toArray,argTypes:=ts }∧aa.funcs[f]?=some fn∧fn.body.isSome=true
def tmpsOf:List Operand→Option (List Tmp)
 | []=>some []
 | .tmp t::l=>match tmpsOf l with
  | some r=>some (t::r)
  | none=>none
 | _=>none
theorem UJ:∀(l:List Operand) (r:List Tmp),tmpsOf l=some r→l=r.map Operand.tmp
 | [],r,h=>by simp only [tmpsOf,ak] at h; subst h; rfl
 | .tmp t::l,r,h=>by
  unfold tmpsOf at h
  split at h
  ·rename_i r' hr; injection h with h; subst h; rw [UJ l r' hr]; rfl
  ·cases h
 | .const _::_,_,h | .global _::_,_,h | .func _::_,_,h=>by cases h
def Na (P:Program) (c:Code) (k:Nat):Option (FuncId×List Tmp×Tmp):=match (opsOf c)[k]? with
 | some o=>match o.guard,o.dst,o.op with
  | none,some d,.call ⟨.value (.func f),ags,_⟩=>match P.funcs[f]?,tmpsOf ags.toList with
   | some fn,some xs=>bif fn.body.isSome then some (f,xs,d) else none
   | _,_=>none
  | _,_,_=>none
 | none=>none
variable {c:Code} {k:Nat} {f:FuncId}
theorem Eg {xs:List Tmp} {d:Tmp} (h:Na aa c k=some (f,xs,d)):Ae c k f xs d:=by
 unfold Na at h
 split at h
 case h_2=>cases h
 rename_i o ho
 split at h
 case h_2=>cases h
 rename_i d' f' ags ts h1 h2 h3
 split at h
 case h_2=>cases h
 rename_i fn xs' h4 h5
 cases hb:fn.body.isSome with
 | false=>rw [hb] at h; cases h
 | true =>
  rw [hb] at h
  simp only [cond_true,ak,aP] at h
  obtain ⟨rfl,rfl,rfl⟩:=h
  obtain ⟨hlt,he⟩:=ai.1 ho
  have:=UJ _ _ h5
  refine ⟨o,ts,fn,by rw [←he]; exact List.drop_eq_getElem_cons hlt,h1,h2,?_,h4,hb⟩
  rw [h3,←this]
theorem Eh {xs:List Tmp} {d:Tmp} {us:List (Option Value)} {vs:List Value} {R:Ending→World→Prop} (hA:Ae c k f xs d) (h:dP us gs ls a w) (hx:xs.map (fun x=>us[x]?)=vs.map (fun v=>some (some v))) (hC:Calls aa f vs.toArray w R) (hR:∀e w',R e w'→∃v,e=.returned v∧wpList aa (opsOf c).toArray Q ((opsOf c).drop (k+1)) (a.put (some d) v) w'):wpList aa (opsOf c).toArray Q ((opsOf c).drop k) a w:=by
 obtain ⟨o,ts,fn,h1,h2,h3,h4,h5,h6⟩:=hA.h
 rw [h1]
 refine MZ Tryz.ky h2 h4 h5 h6 (xs:=vs) ?_ (hC.mono fun e w' hr=>?_)
 ·simp only [List.map_map]
  have key:∀(xs:List Tmp) (vs:List Value),xs.map (fun x=>us[x]?)=vs.map (fun v=>some (some v))→xs.map (a.eval∘Operand.tmp)=vs:=by
   intro xs
   induction xs with
   | nil=>intro vs h; cases vs with | nil=>rfl | cons v vs=>cases h
   | cons x xs ih =>
    intro vs h'
    cases vs with
    | nil=>cases h'
    | cons v vs =>
     simp only [dI,afj] at h'
     simp only [dI,Function.comp,afj]
     exact ⟨GV h h'.1,ih vs h'.2⟩
  exact key xs vs hx
 ·obtain ⟨v,e1,e2⟩:=hR e w' hr
  rw [h3]
  exact ⟨v,e1,e2⟩
theorem call15:Ae (rz (dN aD)) 3 73 [84,86] 87:=Eg (by kernel_rfl)
def zB (g:Nat):List Int→dY
 | []=>(none,0,0)
 | k::ks=>(some ⟨g,0,none⟩,ks.length+1,ks.length+1)
theorem YX (g:Nat):∀ks,mH g ks=dJ (zB g ks)
 | []=>rfl
 | _::_=>rfl
theorem Pq (g:Nat):∀ks,(zB g ks).2.1=ks.length
 | []=>rfl
 | _::_=>rfl
variable {g:Nat}
theorem YZ {a:Addr}:∀{ks},(zB g ks).1=some a→ks≠[]∧a=⟨g,0,none⟩
 | [],h=>by cases h
 | _::_,h=>by injection h with h; exact ⟨(by simp),h.symm⟩
theorem YY (h:ks≠[]→w.heap[g]?=some (.cells ⟨ks.map num⟩ 3 (0,0))):Sl w (zB g ks).1 1 (fF ks):=fun h0=>by
 match ks,h0 with
 | k::ks,_ =>
  have h1:=h (by simp)
  refine ⟨g,0,rfl,(aB.1 h1).1,fun i r hi q v hv=>?_⟩
  simp only [fF,bY,aR] at hi
  obtain ⟨x,x1,rfl⟩:=hi
  match q,hv with
  | 0,hv =>
   simp only [List.getElem?_cons_zero,ak] at hv
   subst hv
   have h3:(List.map num (k::ks))[i]?=some (.int .i64 x):=by rw [bY,x1]; rfl
   simp only [bS,h1,Nat.mul_one,Nat.add_zero,Nat.zero_add]
   simpa using h3
  | _+1,hv=>simp at hv
theorem FV:∀ks:List Int,(fF ks).flatten=ks.map num
 | []=>rfl
 | k::ks=>by
  show [.int .i64 k]++(fF ks).flatten=_
  rw [FV ks]; rfl
structure MD where
 wt:Int
 ks:List Int
 vs:List V6
def MB.md (m:MB):MD:=⟨m.wt,m.ks,m.vs⟩
def pz:iF:=fun _=>0
def nu (js:List JV) (Ps:List iF):List V6:=List.zipWith (fun j P=>nz j.kind P) js Ps
def Kj (js:List JV) (Ps:List iF) (mv:MV) (f:Bool):MD×Bool :=
 (fun r:List Int×List V6×Bool=>(⟨mv.eT,r.1,r.2.1⟩,r.2.2)) ((jd js 4 mv.link []).foldl (j5 js (nu js Ps) (Ps.map kM) (jS (Ps.getD mv.link.toNat pz) mv.p0 mv.p1 mv.p2)) ([],[],f))
def yt (js:List JV) (Ps:List iF) (acc:List MD×Bool) (mv:MV):List MD×Bool:=(acc.1++[(Kj js Ps mv acc.2).1],(Kj js Ps mv acc.2).2)
structure Ah (w:World) (ex:List Nat) (nc:Nat) (B0 B1 Lk O A:dY) (js:List JV) (mvs:List MV) (Ps:List iF):Prop where
 b0:B0.2.1=js.length
 b1:B1.2.1=mvs.length
 lL:Lk.2.1=Ps.length
 oL:O.2.1=Ps.length
 aL:A.2.1=Ps.length
 pL:Ps.length=js.length
 sB:Sl w B0.1 12 (js.map JV.vals)
 sM:Sl w B1.1 5 (mvs.map MV.vals)
 sL:Sl w Lk.1 24 (Ps.map gT)
 sO:Sl w O.1 7 ((Ps.map kM).map (V6.cs nc))
 sA:Sl w A.1 7 ((nu js Ps).map (V6.cs nc))
 xB:∀a,B0.1=some a→a.block∉ex
 xM:∀a,B1.1=some a→mvs≠[]→a.block∉ex
 xL:∀a,Lk.1=some a→a.block∉ex
 xO:∀a,O.1=some a→a.block∉ex
 xA:∀a,A.1=some a→a.block∉ex
 j3:js.length≤3
 pr:∀(i:Nat) (j:JV),js[i]?=some j→-1≤j.parent∧j.parent<i
 ms:∀(i:Nat) (mv:MV),mvs[i]?=some mv→(0≤mv.link∧mv.link<js.length)∧1≤mv.eT∧mv.eT≤1000000000
 m9:mvs.length≤100
 lt:∀g∈ex,g<w.heap.size
variable {mvs:List MV} {Ps:List iF}
theorem Ah.keep {w':World} {ex ex2:List Nat} (h:Ah w ex nc B0 B1 Lk O A js mvs Ps) (k:dO w ex w'):Ah w' ex nc B0 B1 Lk O A js mvs Ps :=
 { h with sB:=kI h.sB k h.xB,sM:=Uw h.sM k fun a ha h0=>h.xM a ha (by simpa using h0),sL:=kI h.sL k h.xL,sO:=kI h.sO k h.xO,sA:=kI h.sA k h.xA,lt:=fun g hg=>aC (h.lt g hg) k.size }
structure Vu (w1 w:World) (nc n:Nat) (M:dY) (mb:MB):Prop where
 ok:sD w nc n mb
 cap:mb.J.2.1≤mb.J.2.2
 hJ:∀g∈blk mb.J,w1.heap.size≤g∧g<w.heap.size∧g∉blk M
 hV:∀g∈blk mb.V,w1.heap.size≤g∧g<w.heap.size∧g∉blk M
def ML (w1:World) (nc nr n6 nb:Nat) (B0 B1 Lk O A:dY) (js:List JV) (ml k:Nat) (dd:List MD×Bool) (a:Act) (w:World):Prop :=
 ∃(M:dY) (mbs:List MB),dP (dS 137 [(0,dK nc),(4,dK nr),(6,dK n6),(7,dJ Lk),(8,dK nb),(9,dJ O),(64,dJ B1),(65,num (ml:Nat)),(66,num (k:Nat))]) [(nc,[.bool (dd.2)],88)] [(nr,[dJ B0,dJ B1],35),(n6,[.pointer none,.slice none 0 0,.slice none 0 0,.slice none 0 0,.slice none 0 0],92),(nb,[dK nc,dJ B0,dJ B1,dJ A,dJ M],92)] a w∧dO w1 [nc,nr,n6,nb] w∧Grow w M 3 95 k (mbs.flatMap MB.row)∧(∀g∈blk M,w1.heap.size≤g)∧mbs.length=k∧mbs.map MB.md=dd.1∧∀(i:Nat) (mb:MB),mbs[i]?=some mb→Vu w1 w nc js.length M mb
theorem Y4:(uU (dN aD))=o7 [dZ (uU (dN aD)),dZ (fU (uU (dN aD)))] (.seq (.block 3 (uT (dN aD))) (sR 3 (uU (dN aD)))):=by kernel_rfl
theorem Wv:(uT (dN aD))=o7 [dZ (uT (dN aD)),dZ (fU (uT (dN aD))),dZ (fU (fU (uT (dN aD))))] (.seq (.seq (rz (dN aD)) (fU (rD (dN aD)))) (qm (dN aD))):=by kernel_rfl
theorem Zy {w1:World} {dd:List MD×Bool} {mv:MV} (hC1:Ah w1 [nc,nr,n6,nb] nc B0 B1 Lk O A js mvs Ps) (hmv:mvs[k]?=some mv)
  (hCh:∀w:World,dO w1 [nc,nr,n6,nb] w→Calls aa 73 #[.agg ⟨[dJ B0,dJ B1]⟩,num mv.link] w (vC w (jd js 4 mv.link [])))
  (hV:ML w1 nc nr n6 nb B0 B1 Lk O A js mvs.length k dd a w) (hQ:∀a' w',ML w1 nc nr n6 nb B0 B1 Lk O A js mvs.length (k+1) (yt js Ps dd mv) a' w'→Q .normal a' w'):(uU (dN aD)).wp aa Q a w:=by
 obtain ⟨M,mbs,s,hk,gM,fM,hml,hmd,hmb⟩:=hV
 have hC:=hC1.keep (ex2:=[]) hk
 obtain ⟨⟨q0,q1⟩,q2,q3⟩:=hC.ms k mv hmv
 have hlt:k<mvs.length:=(ai.1 hmv).1
 have hm9:=hC.m9
 have hk1:k≤1000:=by omega
 obtain ⟨P,hP⟩:∃P,Ps[mv.link.toNat]?=some P:=⟨_,ah (by have:=hC.pL; omega)⟩
 obtain ⟨bM,oM,rM⟩:=iy hC.sM (by simp [hC.b1]) (show (mvs.map MV.vals)[k]?=some mv.vals by simp [hmv]) (aO _) (fun a ha=>hC.xM a ha (fun e=>by rw [e] at hmv; simp at hmv))
 obtain ⟨bL,oL,rL⟩:=iy hC.sL (by simp [hC.lL]) (show (Ps.map gT)[mv.link.toNat]?=some (gT P) by simp [hP]) (aO _) hC.xL
 have hln:((mv.link.toNat:Nat):Int)=mv.link:=by omega
 rw [hln] at rL
 have nM:∀g∈blk M,g∉([nc,nr,n6,nb]:List Nat):=sW fM hC1.lt
 rw [Y4]
 refine alS (w0:=w) (ex':=[nr,n6,nb]) (K:=(none,0,0)) (J:=(none,0,0)) (V:=(none,0,0)) (by simpa using hlt) (fun q hq=>.inl (by simpa using hq)) s.nd s (dO.refl w _) fun a1 w1' s1 k1=>?_
 refine wp_seq (wp_block ?_)
 rw [Wv]
 refine VZ (w0:=w1') (ex':=[nr,n6,nb]) (K:=(none,0,0)) (J:=(none,0,0)) (V:=(none,0,0)) (link:=mv.link) (eT:=mv.eT) (p0:=mv.p0) (p1:=mv.p1) (p2:=mv.p2) (P:=P) (rM.mv k1 fun g hg=>.inl hg) (rL.mv k1 fun g hg=>.inl hg) (fun q hq=>.inl (by simpa using hq)) s1.nd s1 (dO.refl w1' _) fun a2 w2 n13 n14 n15 hn nd2 s2 k2=>?_
 refine wp_seq (wp_seq (yC (by kernel_rfl) (xN 3 ?_)))
 refine VT (w0:=w2) (ex':=[nr,n6,nb,n13,n14,n15]) (K:=(none,0,0)) (J:=(none,0,0)) (V:=(none,0,0)) (p0:=mv.p0) (p1:=mv.p1) (p2:=mv.p2) (at_:=jS P mv.p0 mv.p1 mv.p2) (fun q hq=>.inl (by simpa using hq)) s2.nd s2 (dO.refl w2 _) fun a3 w3 s3 k3=>?_
 have z1:=k1.size; have z2:=k2.size; have z3:=k3.size; have z0:=hk.size
 have h13:=(hn n13 (by simp)).1; have h14:=(hn n14 (by simp)).1; have h15:=(hn n15 (by simp)).1
 have K2:dO w [nc,nr,n6,nb] w2:=(k1.trans k2)
 have K3:dO w [nc,nr,n6,nb] w3:=K2.comp k3 fun g hg=>by
  simp only [ag,ae,or_false] at hg ⊢
  rcases hg with r | r | r | r | r | r | r<;>first | (left; simp [r]; done) | (right; omega)
 refine Eh call15 s3 rfl (hCh w3 (hk.trans K3)) fun e w4 hch=>?_
 obtain ⟨g,rfl,kc,hg⟩:=hch
 refine ⟨_,rfl,?_⟩
 rw [YX]
 have s4:=yX (BF (BG s3 fun q hq=>kc.frame q (qE s3 q hq) (by simp)) 87 (dJ (zB g (jd js 4 mv.link []))))
 have nd4:([nc]++[nr,n6,nb,n14,n15]).Nodup:=by
  have:=s3.nd
  simp only [dI,ae9,dw,dD,ag5,ag,ae,or_false,not_or] at this ⊢
  obtain ⟨⟨c1,c2,c3,c4,c5,c6⟩,⟨d1,d2,d3,d4,d5⟩,⟨e1,e2,e3,e4⟩,⟨f1,f2,f3⟩,⟨g1,g2⟩,⟨i1,i2⟩⟩:=this
  exact ⟨⟨c1,c2,c3,c5,c6⟩,⟨d1,d2,d4,d5⟩,⟨e1,e3,e4⟩,⟨f2,f3⟩,i1,i2⟩
 have s5:=dP.sub (l':=[(0,dK nc),(4,dK nr),(6,dK n6),(7,dJ Lk),(8,dK nb),(9,dJ O),(64,dJ B1),(65,num (mvs.length:Nat)),(66,num (k:Nat)),(14,dK n14),(15,dK n15),(87,dJ (zB g (jd js 4 mv.link [])))]) (gs':=[(nc,[.bool (dd.2)],88)]) (ls':=[(nr,[dJ B0,dJ B1],35),(n6,[.pointer none,.slice none 0 0,.slice none 0 0,.slice none 0 0,.slice none 0 0],92),(nb,[dK nc,dJ B0,dJ B1,dJ A,dJ M],92),(n14,[dK nc,num (jS P mv.p0 mv.p1 mv.p2).a,num (jS P mv.p0 mv.p1 mv.p2).b,num (jS P mv.p0 mv.p1 mv.p2).c,num (jS P mv.p0 mv.p1 mv.p2).d,num (jS P mv.p0 mv.p1 mv.p2).e,num (jS P mv.p0 mv.p1 mv.p2).f],98),(n15,[num mv.eT,.slice none 0 0,.slice none 0 0],95)]) s4 (fun x hx=>by
  simp only [ag,ae,or_false] at hx
  rcases hx with rfl | rfl | rfl | rfl | rfl | rfl | rfl | rfl | rfl | rfl | rfl | rfl<;>rfl) (fun x hx=>hx) (fun x hx=>by
  simp only [ag,ae,or_false] at hx ⊢
  rcases hx with r | r | r | r | r<;>simp [r]) nd4
 have K4:dO w [nc,nr,n6,nb] w4:=K3.comp kc fun g hg=>by cases hg
 obtain ⟨cm,cl⟩:=M5 hC.pr 4 mv.link [] (by omega) q1 (fun x hx=>by cases hx)
 simp only [aeT,Nat.add_zero] at cl
 refine y9 (VU (w0:=w4) (ex':=[nr,n6,nb,n14,n15]) (J:=(none,0,0)) (V:=(none,0,0)) (c:=((jd js 4 mv.link []).length:Nat)) (p0:=mv.p0) (p1:=mv.p1) (p2:=mv.p2) (link:=mv.link) (by rw [Pq]) (fun q hq=>.inl (by simpa using hq)) nd4 s5 (dO.refl w4 _) fun a5 w5 s6 k5=>?_)
 have z4:=kc.size; have z5:=k5.size
 have K5:dO w [nc,nr,n6,nb] w5:=K4.comp k5 fun g hg=>by
  simp only [ag,ae,or_false] at hg ⊢
  rcases hg with r | r | r | r | r | r<;>first | (left; simp [r]; done) | (right; omega)
 have hC5:=hC.keep (ex2:=[]) K5
 have far:∀{a:Addr},a.block<w.heap.size→a.block∉[nc,nr,n6,nb]→a.block∉[nc,nr,n6,nb,n14,n15]:=fun h1 h2 hm=>by
  simp only [ag,ae,or_false] at hm h2
  rcases hm with r | r | r | r | r | r<;>first | omega | exact h2 (by simp [r])
 have inb:∀{S:dY} {n:Nat} {rows:List (List Value)} {a:Addr},Sl w S.1 n rows→rows≠[]→S.1=some a→a.block<w.heap.size:=fun h1 h2 h3=>by
  obtain ⟨b,off,e,hR⟩:=h1 h2
  rw [h3] at e; injection e with e; subst e
  exact hR.lt
 have hjs:js≠[]:=fun e=>by rw [e] at q1; simp at q1; omega
 have hPs:Ps≠[]:=fun e=>by rw [e] at hP; simp at hP
 have hI:Hq w5 [nc,nr,n6,nb,n14,n15] nc B0 A O (zB g (jd js 4 mv.link [])) js (nu js Ps) (Ps.map kM) (jd js 4 mv.link []) :=
  {
   b0:=hC.b0,aL:=by rw [hC.aL]; simp [nu,hC.pL],oL:=by rw [hC.oL]; simp,kL:=Pq g _,l1:=by simp [nu,hC.pL],l2:=by simp [hC.pL],sB:=hC5.sB,sA:=hC5.sA,sO:=hC5.sO
   sK:=YY fun h0=>(k5.frame g (aB.1 (hg h0).2).1 fun hm=>by
    have h1:=(hg h0).1
    have h2:=qE s3 g (by simp at hm ⊢; rcases hm with r | r | r | r | r | r<;>simp [r])
    omega).trans (hg h0).2
   xB:=fun a ha=>far (inb hC.sB (by simpa using hjs) ha) (hC.xB a ha)
   xA:=fun a ha=>far (inb hC.sA (fun e=>by have:=congrArg ae1 e; simp [nu,hC.pL] at this; exact hjs this) ha) (hC.xA a ha)
   xO:=fun a ha=>far (inb hC.sO (by simpa using hPs) ha) (hC.xO a ha)
   xK:=fun a ha hm=>by
    obtain ⟨h0,rfl⟩:=YZ ha
    have h1:=(hg h0).1
    have h2:=qE s3 g (by simp at hm ⊢; rcases hm with r | r | r | r | r | r<;>simp [r])
    omega
   kj:=fun i j hi=>cm j (aN hi),k3:=by omega
   lt:=fun q hq=>qE s6 q (by simpa using hq) }
 refine Yo (acc:=([],[],dd.2)) hI ⟨(none,0,0),(none,0,0),s6,dO.refl w5 _,Grow.start w5 1 3,Grow.start w5 7 98,(fun g hg=>by cases hg),(fun g hg=>by cases hg),(fun g hg=>by cases hg),Nat.zero_le _,rfl⟩ fun a6 w6 hV6=>?_
 obtain ⟨J,V,s7,k6,gJ,gV,fJ,fV,hne,hl1,hl2⟩:=hV6
 have hms:yt js Ps dd mv=(dd.1++[⟨mv.eT,((jd js 4 mv.link []).foldl (j5 js (nu js Ps) (Ps.map kM) (jS P mv.p0 mv.p1 mv.p2)) ([],[],dd.2)).1,((jd js 4 mv.link []).foldl (j5 js (nu js Ps) (Ps.map kM) (jS P mv.p0 mv.p1 mv.p2)) ([],[],dd.2)).2.1⟩],((jd js 4 mv.link []).foldl (j5 js (nu js Ps) (Ps.map kM) (jS P mv.p0 mv.p1 mv.p2)) ([],[],dd.2)).2.2):=by
  unfold yt Kj
  rw [wO hP]
 have hmem:∀x∈((jd js 4 mv.link []).foldl (j5 js (nu js Ps) (Ps.map kM) (jS P mv.p0 mv.p1 mv.p2)) ([],[],dd.2)).1,0≤x∧x<js.length:=fun x hx=>by
  rcases U3 _ _ _ _ _ _ x hx with r | r
  ·cases r
  ·exact cm x r
 generalize (jd js 4 mv.link []).foldl (j5 js (nu js Ps) (Ps.map kM) (jS P mv.p0 mv.p1 mv.p2)) ([],[],dd.2)=acc at s7 gJ gV hl1 hl2 hms hmem
 obtain ⟨aj,av,af⟩:=acc
 simp only at s7 gJ gV hl1 hl2 hms hmem
 have s8:=dP.sub (l':=[(0,dK nc),(4,dK nr),(6,dK n6),(7,dJ Lk),(8,dK nb),(9,dJ O),(64,dJ B1),(65,num (mvs.length:Nat)),(66,num (k:Nat)),(14,dK n14),(15,dK n15)]) (gs':=[(nc,[.bool (af)],88)]) (ls':=[(nr,[dJ B0,dJ B1],35),(n6,[.pointer none,.slice none 0 0,.slice none 0 0,.slice none 0 0,.slice none 0 0],92),(nb,[dK nc,dJ B0,dJ B1,dJ A,dJ M],92),(n14,[dK nc,num (jS P mv.p0 mv.p1 mv.p2).a,num (jS P mv.p0 mv.p1 mv.p2).b,num (jS P mv.p0 mv.p1 mv.p2).c,num (jS P mv.p0 mv.p1 mv.p2).d,num (jS P mv.p0 mv.p1 mv.p2).e,num (jS P mv.p0 mv.p1 mv.p2).f],98),(n15,[num mv.eT,dJ J,dJ V],95)]) s7 (fun x hx=>by
  simp only [ag,ae,or_false] at hx
  rcases hx with rfl | rfl | rfl | rfl | rfl | rfl | rfl | rfl | rfl | rfl | rfl<;>rfl) (fun x hx=>hx) (fun x hx=>by
  simp only [ag,ae,or_false] at hx ⊢
  rcases hx with r | r | r | r | r<;>simp [r]) s7.nd
 have nM6:∀g∈blk M,g∉([nc,nr,n6,nb,n14,n15]:List Nat):=fun g hg hm=>by
  have h1:=nM g hg
  have h2:=gM.lt g hg
  simp only [ag,ae,or_false] at hm h1
  rcases hm with r | r | r | r | r | r<;>first | omega | exact h1 (by simp [r])
 have gM6:=(gM.keep K5 nM).keep k6 nM6
 refine Xv (link:=0) (p0:=0) (p1:=0) (p2:=0) s8 gM6 hk1 nM6 fun a7 w7 M' s9 gM7 k7 fM7=>?_
 have z6:=k6.size; have z7:=k7.size
 have s10:=dP.sub (l':=[(0,dK nc),(4,dK nr),(6,dK n6),(7,dJ Lk),(8,dK nb),(9,dJ O),(64,dJ B1),(65,num (mvs.length:Nat)),(66,num (k:Nat))]) (gs':=[(nc,[.bool (af)],88)]) (ls':=[(nr,[dJ B0,dJ B1],35),(n6,[.pointer none,.slice none 0 0,.slice none 0 0,.slice none 0 0,.slice none 0 0],92),(nb,[dK nc,dJ B0,dJ B1,dJ A,dJ M'],92)]) s9 (fun x hx=>by
  simp only [ag,ae,or_false] at hx
  rcases hx with rfl | rfl | rfl | rfl | rfl | rfl | rfl | rfl | rfl<;>rfl) (fun x hx=>hx) (fun x hx=>by
  simp only [ag,ae,or_false] at hx ⊢
  rcases hx with r | r | r<;>simp [r]) s.nd
 refine Wm (w0:=w7) (ex':=[nr,n6,nb]) (K:=(none,0,0)) (J:=(none,0,0)) (V:=(none,0,0)) (fun q hq=>.inl (by simpa using hq)) s10.nd s10 (dO.refl w7 _) fun a8 w8 s11 k8=>hQ a8 w8 ?_
 rw [G8 hk1] at s11
 rw [hms]
 have z8:=k8.size
 have KW:dO w (blk M++[nc,nr,n6,nb]) w8:=(((K5.wide fun g hg=>dm _ hg).comp k6 fun g hg=>(by
  simp only [ag,ae,or_false] at hg
  rcases hg with r | r | r | r | r | r<;>first | (left; refine dm _ ?_; simp [r]; done) | (right; omega))).comp k7 fun g hg=>(by
  rcases bH.1 hg with r | r
  ·exact .inl (aeY _ r)
  ·simp only [ag,ae,or_false] at r
   rcases r with r | r | r | r | r | r<;>first | (left; refine dm _ ?_; simp [r]; done) | (right; omega))).comp k8 fun g hg=>.inl (dm _ hg)
 have fM':∀g∈blk M',w1.heap.size≤g:=fun g hg=>by
  rcases fM7 g hg with r | r
  ·exact fM g r
  ·omega
 have gM8:=gM7.keep k8 (sW fM' hC1.lt)
 have jlt:∀{S:dY},(∀g∈blk S,w5.heap.size≤g)→∀g∈blk S,g∉blk M++[nc,nr,n6,nb,n14,n15]:=fun hS g hg hm=>by
  have h1:=hS g hg
  rcases bH.1 hm with r | r
  ·have:=gM.lt g r; omega
  ·have:=qE s6 g (by simpa using r); omega
 have jlt0:∀{S:dY},(∀g∈blk S,w5.heap.size≤g)→∀g∈blk S,g∉[nc,nr,n6,nb]:=fun hS=>sW hS fun g hg=>by have:=hC1.lt g hg; omega
 have gJ8:=(gJ.keep k7 (jlt fJ)).keep k8 (jlt0 fJ)
 have gV8:=(gV.keep k7 (jlt fV)).keep k8 (jlt0 fV)
 have hnc:nc<w5.heap.size:=by have:=hC1.lt nc (by simp); omega
 have newB:∀{S:dY} {n sz:Nat} {e:TypeId} {cs:List Value},Grow w6 S sz e n cs→(∀g∈blk S,w5.heap.size≤g)→∀g∈blk S,w1.heap.size≤g∧g<w8.heap.size∧g∉blk M':=fun h1 h2 g hg=>by
  have:=h2 g hg
  have:=h1.lt g hg
  refine ⟨by omega,by omega,fun hm=>?_⟩
  rcases fM7 g hm with r | r
  ·have:=gM.lt g r; omega
  ·omega
 refine ⟨M',mbs++[⟨mv.eT,aj,av,J,V⟩],s11,((hk.trans K5).comp k6 fun g hg=>?_) |>.comp k7 (fun g hg=>?_) |>.comp k8 (fun g hg=>.inl hg),?_,fM',by simp [hml],by simp [hmd,MB.md],fun i mb hi=>?_⟩
 ·simp only [ag,ae,or_false] at hg ⊢
  rcases hg with r | r | r | r | r | r<;>first | (left; simp [r]; done) | (right; omega)
 ·rcases bH.1 hg with r | r
  ·exact .inr (fM g r)
  ·simp only [ag,ae,or_false] at r ⊢
   rcases r with r | r | r | r | r | r<;>first | (left; simp [r]; done) | (right; omega)
 ·have e:(mbs++[(⟨mv.eT,aj,av,J,V⟩:MB)]).flatMap MB.row=mbs.flatMap MB.row++[num mv.eT,dJ J,dJ V]:=by simp [MB.row]
  rw [e]
  exact gM8
 ·by_cases hlt2:i<mbs.length
  ·rw [aH hlt2] at hi
   have h:=hmb i mb hi
   have n1:∀{S:dY},(∀g∈blk S,w1.heap.size≤g∧g<w.heap.size∧g∉blk M)→∀a,S.1=some a→a.block∉blk M++[nc,nr,n6,nb]:=fun hS a ha hm=>by
    obtain ⟨h1,h2,h3⟩:=hS a.block (by rw [vH ha]; simp)
    rcases bH.1 hm with r | r
    ·exact h3 r
    ·have:=hC1.lt _ r; omega
   have n2:∀{S:dY},(∀g∈blk S,w1.heap.size≤g∧g<w.heap.size∧g∉blk M)→∀g∈blk S,w1.heap.size≤g∧g<w8.heap.size∧g∉blk M':=fun hS g hg=>by
    obtain ⟨h1,h2,h3⟩:=hS g hg
    refine ⟨h1,by omega,fun hm=>?_⟩
    rcases fM7 g hm with r | r
    ·exact h3 r
    ·omega
   exact ⟨{ h.ok with qU:=kI h.ok.qU KW (n1 h.hJ),dJ:=kI h.ok.dJ KW (n1 h.hV) },h.cap,n2 h.hJ,n2 h.hV⟩
  ·rw [bu (by omega)] at hi
   obtain ⟨i0,e0⟩:∃i0,i - mbs.length=i0:=⟨_,rfl⟩
   rw [e0] at hi
   match i0,hi with
   | _+1,hi=>simp at hi
   | 0,hi =>
    simp only [List.getElem?_cons_zero,ak] at hi
    subst hi
    refine ⟨{ w1:=q2,w2:=q3,j:=gJ8.len,v:=gV8.len,l:=hl2,l3:=by show aj.length≤1000; omega,ks:=fun i k hk=>hmem k (aN hk),qU:=?_,dJ:=?_,aJ:=fun a ha=>?_,aV:=fun a ha=>?_ },?_,newB gJ fJ,newB gV fV⟩
    ·refine Grow.sl (n:=aj.length) (e:=3) ?_ (fun r hr=>?_) (by simp [fF])
     ·rw [FV]; exact gJ8
     ·simp only [fF,aeZ] at hr
      obtain ⟨k,_,rfl⟩:=hr
      rfl
    ·refine Grow.sl (n:=av.length) (e:=98) ?_ (fun r hr=>?_) (by simp)
     ·have e:(av.map (V6.cs nc)).flatten=av.flatMap (V6.cs nc):=rfl
      rw [e]; exact gV8
     ·obtain ⟨v,_,rfl⟩:=aeZ.1 hr
      rfl
    ·have:=fJ a.block (by rw [vH ha]; simp); intro e; omega
    ·have:=fV a.block (by rw [vH ha]; simp); intro e; omega
    ·show J.2.1≤J.2.2
     cases hS:J.1 with
     | none=>have:=gJ.nil hS; have:=gJ.len; omega
     | some a=>obtain ⟨g,cs,_,_,_,h5,_⟩:=gJ.blk a hS; have:=gJ.len; omega
end Go.Proofs
end
section
namespace Go.Proofs
open Go.Sm Go.RowKit En
def gP (Z:World×List Nat) (l:List Int) (bs:List Bool) (sl:List dY) (ws:List jC):Env:=⟨fun i=>l.getD i 0,fun i=>bs.getD i false,FN,FB,fun i=>sl.getD i (none,0,0),wN Z,ws.map fun x=>(x.1,x.2.1),none⟩
def xz (Z:World×List Nat) (l:List Int) (bs:List Bool) (sl:List dY) (g:List (Value×Value)) (wt:List (Nat×Value×Nat×Nat)) (lt:List (Nat×Value)) (wb:Hp) (ws:List jC):Go.Sm.Xt:=⟨Tryz.xt,gP Z l bs sl ws,g,[23],wt,lt,wb,[]⟩
theorem aeO (Z:World×List Nat) (l:List Int) (bs:List Bool) (sl:List dY) (g:List (Value×Value)) (wt:List (Nat×Value×Nat×Nat)) (lt:List (Nat×Value)) (wb:Hp) (ws:List jC) (h:Sat (gP Z l bs sl ws) g):Go.Sm.kD aa (xz Z l bs sl g wt lt wb ws):=⟨CK,h,Cy _ _ _⟩
theorem aaX (Z:World×List Nat) (l:List Int) (bs:List Bool) (sl:List dY) (ws:List jC):∀e∈vP,fo aa (gP Z l bs sl ws) e:=fun e h=>Cw (E:=eO []) (E':=gP Z l bs sl ws) rfl rfl (FE [] e h)
def KL (P:Program) (esc:FuncId→Nat→Bool) (Z:World×List Nat) (l:List Int) (bs:List Bool) (sl:List dY) (g:List (Value×Value)) (wt:List (Nat×Value×Nat×Nat)) (lt:List (Nat×Value)) (wb:Hp) (ws:List jC) (QT:List Qt) (NT:List Nt):ig:=kQ P (xz Z l bs sl g wt lt wb ws) esc 200 (Bu QT (Bd NT (vZ (xz Z l bs sl g [] [] [] ws) vP))) 12
def iV (Z:World×List Nat) (w:World):Prop:=∀(g:Nat) (c:Array Value×TypeId×(Nat×Nat)),wN Z g=some c→w.heap[g]?=some (.cells c.1 c.2.1 c.2.2)
theorem nQ {w0 w:World} {ex:List Nat} (h:dO w0 ex w):iV (w0,ex) w:=fun g c hc=>by
 obtain ⟨⟨h1,h2⟩,h3⟩:=JS hc
 exact (h.frame g h1 h2).trans h3
structure DY (Z:World×List Nat) (l:List Int) (bs:List Bool) (sl:List dY) (g:List (Value×Value)) (wt:List (Nat×Value×Nat×Nat)) (lt:List (Nat×Value)) (ws:List jC) (QT:List Qt) (NT:List Nt):Prop where
 sat:Sat (gP Z l bs sl ws) g
 qt:∀x∈QT,jB aa (gP Z l bs sl ws) x
 nt:∀x∈NT,sG aa (gP Z l bs sl ws) x
 wins:jR Z.1 Z.2 ws
 win:∀m:Mp,m.env=gP Z l bs sl ws→(∀(i:Nat) (x:Nat×Nat),(ws.map fun x=>(x.1,x.2.1))[i]?=some x→m.lb i=some x.1∧m.sh i=x.2)→kv (xz Z l bs sl g wt lt [] ws) m
variable {Z:World×List Nat} {l:List Int} {bs:List Bool} {sl:List dY} {ws:List jC}
theorem adv {g:List (Value×Value)} {wt:List (Nat×Value×Nat×Nat)} {lt:List (Nat×Value)} {wb:Hp} {QT:List Qt} {NT:List Nt} (hS:DY Z l bs sl g wt lt ws QT NT) (hb:wb.map (fun b=>eQ (fP (gP Z l bs sl ws) ⟨[],[]⟩ 4) b.cells)=ws.map (fun x=>some x.2.2)) (ha:wb.all mJ=true):ze (xz Z l bs sl g wt lt wb ws):=by
 refine ⟨by simpa [xz,gP] using (congrArg ae1 hb).symm,fun i b hi=>?_,fun m hm hl=>?_⟩
 ·obtain ⟨x,x1,x2⟩:=tu hb (show wb[i]?=some b from hi)
  refine ⟨Ac (bn.1 ha b (aN hi)),?_⟩
  obtain ⟨⟨h1,h2⟩,h3,h4⟩:=hS.wins x (aN x1)
  obtain ⟨cs,t,f,k1,_⟩:=tZ (h4 0 _ (ah h3))
  have key:∀(k:Nat) (v:Value),x.2.2[k]?=some v→cs[x.2.1+k]?=some v:=fun k v hk=>by
   obtain ⟨cs',t',f',hb',hv⟩:=tZ (h4 k v hk)
   rw [k1] at hb'; injection hb' with hb'; injection hb' with hb'; subst hb'
   exact hv
  have hl:=nR _ _ x2
  have hsz:x.2.1+b.cells.length≤cs.size:=by
   have:=key (x.2.2.length - 1) _ (ah (by omega))
   have:=(aB.1 this).1
   omega
  refine ⟨x.1,x.2.1,(cs,t,f),by simp [xz,gP,x1],JU h1 h2 k1,hsz,fun m hm=>?_⟩
  have e:(cs.toList.drop x.2.1).take b.cells.length=x.2.2:=by
   apply List.ext_getElem?
   intro j
   simp only [dx,aeX]
   split
   ·rename_i hj
    have hj2:j<x.2.2.length:=by omega
    rw [ah hj2]
    simpa using key j _ (ah hj2)
   ·rw [bQ (by omega)]
  show ek m b.cells ((cs.toList.drop x.2.1).take b.cells.length)
  rw [e]
  exact qp (qJ (m:=m) (at_nil m) 4) _ _ (by rw [hm]; exact x2)
 ·have h:=hS.win m hm hl
  exact ⟨h.win,h.len,fun e he=>by cases he⟩
section
variable {Z:World×List Nat} {l:List Int} {bs:List Bool} {sl:List dY} {g:List (Value×Value)} {wt:List (Nat×Value×Nat×Nat)} {lt:List (Nat×Value)} {wb:Hp} {ws:List jC} {QT:List Qt} {NT:List Nt} {xs ys:List Value} {w:World} {f:FuncId}
variable {v:Value}
theorem O9 {H':Hp} {md:List Nat} (hS:DY Z l bs sl g wt lt ws QT NT) (hb:wb.map (fun b=>eQ (fP (gP Z l bs sl ws) ⟨[],[]⟩ 4) b.cells)=ws.map (fun x=>some x.2.2)) (ha:wb.all mJ=true) (h:KL aa Tryz.esc Z l bs sl g wt lt wb ws QT NT f xs []=some (v,H',md)) (hx:eQ (fP (gP Z l bs sl ws) ⟨[],[]⟩ 5) xs=some ys) (hF:iV Z w) :
  Calls aa f ys.toArray w fun e w'=>∃v' m',e=.returned v'∧VR m' v v'∧Below w.heap.size w w'∧m'.env=gP Z l bs sl ws∧Rel m' H' [] w'∧∀i q,m'.gb i=some q→w.heap.size≤q:=by
 have hX:=aeO Z l bs sl g wt lt wb ws hS.sat
 have hO:=zl (X:=xz Z l bs sl g wt lt wb ws) Tryz.mixed Tryz.ky (esc:=Tryz.esc) (fuel:=200) hX (QY hS.qt (P6 hS.nt (BH (X:=xz Z l bs sl g [] [] [] ws) hS.sat _ (aaX Z l bs sl ws)))) (QZ (P7 (BI _ _))) (adv hS hb ha) 12
 have:=hO.1 f xs [] v H' md h ⟨lY,lY,fun _=>false,fun _=>0,fun _=>0,gP Z l bs sl ws,fun _=>0,fun _=>(#[],0,0,0)⟩ w ys rfl rfl ⟨(fun i g e=>by cases e),(fun i g e=>by cases e),(fun i j g bi bj e=>by cases e),(fun i j g bi bj e=>by cases e),(fun i j g e=>by cases e),(fun i g b e=>by cases e),(fun q c hc=>⟨⟨hF q c hc,fun i e=>by cases e⟩,fun i b e=>by cases e⟩),(fun c hc=>by cases hc)⟩
  (qp (m:=⟨lY,lY,fun _=>false,fun _=>0,fun _=>0,gP Z l bs sl ws,fun _=>0,fun _=>(#[],0,0,0)⟩) (qJ (at_nil _) 5) xs ys hx)
 refine this.mono fun e w' ⟨v',m',e1,e2,e3,e4⟩=>?_
 exact ⟨v',m',e1,e2,⟨e3.os,e3.tape,e3.output,e3.size,fun q hq=>e3.frame q hq (fun i e=>by cases e) (fun i e=>by cases e)⟩,e3.le.env,e3.rel,fun i q hq=>(e3.img i q hq).elim (fun ⟨j,hj⟩=>by cases hj) id⟩
theorem uQ {u:Value} (hS:DY Z l bs sl g wt lt ws QT NT) (hb:wb.map (fun b=>eQ (fP (gP Z l bs sl ws) ⟨[],[]⟩ 4) b.cells)=ws.map (fun x=>some x.2.2)) (ha:wb.all mJ=true) (h:(KL aa Tryz.esc Z l bs sl g wt lt wb ws QT NT f xs []).bind (fun r=>fP (gP Z l bs sl ws) ⟨[],[]⟩ 5 r.1)=some u) (hx:eQ (fP (gP Z l bs sl ws) ⟨[],[]⟩ 5) xs=some ys) (hF:iV Z w) :
  Calls aa f ys.toArray w fun e w'=>e=.returned u∧Below w.heap.size w w':=by
 obtain ⟨⟨v,H',md⟩,h1,h2⟩:=Option.bind_eq_some_iff.1 h
 refine (O9 hS hb ha h1 hx hF).mono fun e w' ⟨v',m',e1,e2,e3,e4,_⟩=>?_
 rw [e1,p9 (at_nil m') 5 v u v' (by rw [e4]; exact h2) e2]
 exact ⟨rfl,e3⟩
def rowOf:Value→Option (Bool×Nat×Nat×Nat)
 | .slice (some ⟨i,0,none⟩) n c=>some (false,i,n,c)
 | .tuple ⟨[.slice (some ⟨i,0,none⟩) n c,.bool true]⟩=>some (true,i,n,c)
 | _=>none
variable {t:Bool} {i n c:Nat}
theorem ac5 (h:rowOf v=some (t,i,n,c)):v=kC t i n c:=by
 unfold rowOf at h
 split at h
 ·simp only [ak,aP] at h
  obtain ⟨rfl,rfl,rfl,rfl⟩:=h; rfl
 ·simp only [ak,aP] at h
  obtain ⟨rfl,rfl,rfl,rfl⟩:=h; rfl
 ·cases h
def Q9 (E:Env) (r:Value×Hp×List Nat):Option (Bool×Nat×Nat×Bool×TypeId×Option (List Value)):=match rowOf r.1 with
 | some (t,i,n,c)=>match (show Hp from r.2.1)[i]? with
  | some b=>some (t,n,c,ownB b,b.elem,eQ (fP E ⟨[],[]⟩ 4) b.cells)
  | none=>none
 | none=>none
variable {vs:List Value}
theorem qM {e:TypeId} (hS:DY Z l bs sl g wt lt ws QT NT) (hb:wb.map (fun b=>eQ (fP (gP Z l bs sl ws) ⟨[],[]⟩ 4) b.cells)=ws.map (fun x=>some x.2.2)) (ha:wb.all mJ=true) (h:(KL aa Tryz.esc Z l bs sl g wt lt wb ws QT NT f xs []).bind (Q9 (gP Z l bs sl ws))=some (t,n,c,true,e,some vs)) (hx:eQ (fP (gP Z l bs sl ws) ⟨[],[]⟩ 5) xs=some ys) (hF:iV Z w) :
  Calls aa f ys.toArray w fun r w'=>Below w.heap.size w w'∧∃gl,w.heap.size≤gl∧gl<w'.heap.size∧r=.returned (kC t gl n c)∧w'.heap[gl]?=some (.cells ⟨vs⟩ e (0,0)):=by
 obtain ⟨⟨v,H',md⟩,h1,h2⟩:=Option.bind_eq_some_iff.1 h
 unfold Q9 at h2
 simp only at h2
 split at h2
 case h_2=>cases h2
 rename_i t' i n' c' hr
 split at h2
 case h_2=>cases h2
 rename_i b hbi
 simp only [ak,aP] at h2
 obtain ⟨rfl,rfl,rfl,ho,rfl,hv⟩:=h2
 have hve:=ac5 hr
 subst hve
 refine (O9 hS hb ha h1 hx hF).mono fun r w' ⟨v',m',e1,e2,e3,e4,hR,hnew⟩=>⟨e3,?_⟩
 obtain ⟨o1,o2,o3⟩:=jU ho
 obtain ⟨gl,hgl,hv'⟩:∃gl,m'.gb i=some gl∧v'=kC t' gl n' c':=by
  have sl:∀{x:Value},VR m' (.slice (some ⟨i,0,none⟩) n' c') x→∃gl,m'.gb i=some gl∧x=.slice (some ⟨gl,0,none⟩) n' c':=fun h=>by
   have hlo:∀gl,m'.gb i=some gl→m'.loose i=false:=fun gl hg=>by
    obtain ⟨_,b',hb',hG⟩:=hR.ic i gl hg
    have:H'[i]?=some b:=hbi
    rw [this] at hb'; injection hb' with hb'; subst hb'
    rw [hG.lo]; exact o2
   cases h with
   | ow e=>exact ⟨_,e,rfl⟩
   | qW e hl _ _=>rw [hlo _ e] at hl; cases hl
   | qV e hl=>rw [hlo _ e] at hl; cases hl
  cases t' with
  | false=>exact sl e2
  | true =>
   obtain ⟨⟨cs'⟩,rfl,hc⟩:=DN e2
   obtain ⟨x1,l1,q1,q2,q3⟩:=hc.cons_inv
   obtain ⟨x2,l2,q4,q5,q6⟩:=q3.cons_inv
   simp only at q1
   subst q1; subst q4
   obtain ⟨gl,g1,rfl⟩:=sl q2
   have hx2:x2=.bool true:=by cases q5; rfl
   subst hx2
   have:=bR (by rw [←q6.1]; rfl:l2.length=0)
   subst this
   exact ⟨gl,g1,rfl⟩
 obtain ⟨hlt,b',hb',hG⟩:=hR.ic i gl hgl
 have:H'[i]?=some b:=hbi
 rw [this] at hb'; injection hb' with hb'; subst hb'
 obtain ⟨cs,k1,k2,k3,k4,_⟩:=hG.blk o1
 have hvs:=oN (p9 (at_nil m') 4) _ _ _ (by rw [e4]; exact hv) (k3.mono (Be m'))
 rw [dH (by simp [k4 o2])] at hvs
 exact ⟨gl,hnew i gl hgl,hlt,by rw [e1,hv'],by rw [k1,←hvs]⟩
end
variable {i:Nat} {vs:List Value}
theorem gI {S:dY} {ix:Int} {sz b o:Nat} {m:Mp} {h:Nat} {nd:Value} (hw:fu Z.1 Z.2 S ix sz b o vs) (hs:(gP Z l bs sl ws).sl h=S) (hi:eF (gP Z l bs sl ws) 2 nd=some (.int .i64 ix)) (hm:m.env=gP Z l bs sl ws) (hl:m.lb i=some b∧m.sh i=o) :
  ∃(a:Addr) (n c:Nat) (ix:Int) (d:Nat),m.env.sl h=(some a,n,c)∧a.spot=none∧eF m.env d nd=some (.int .i64 ix)∧0≤ix∧ix<n∧m.lb i=some a.block∧m.sh i=a.off+ix.toNat*sz:=by
 obtain ⟨o0,h1,h2,h3,h4⟩:=hw.pl
 refine ⟨⟨b,o0,none⟩,S.2.1,S.2.2,ix,2,?_,rfl,by rw [hm]; exact hi,h2,h3,hl.1,by rw [hl.2,h4]⟩
 rw [hm,hs,←h1]
end Go.Proofs
end
section
namespace Go.Proofs
open Go.Sm Go.RowKit En
variable {w1 w:World} {nc nr n6 nb:Nat} {B0 B1 Lk O A:dY} {js:List JV} {mvs:List MV} {a:Act} {Q:Exit→Act→World→Prop}
theorem Zv {Ps:List iF} {dd:List MD×Bool} (hlt:∀g∈([nc,nr,n6,nb]:List Nat),g<w1.heap.size) (hV:ML w1 nc nr n6 nb B0 B1 Lk O A js mvs.length mvs.length dd a w) (hQ:∀a' w',ML w1 nc nr n6 nb B0 B1 Lk O A js mvs.length mvs.length dd a' w'→Q (.exit 2) a' w'):(uU (dN aD)).wp aa Q a w:=by
 obtain ⟨M,mbs,s,hk,gM,fM,hml,hmd,hmb⟩:=hV
 refine VV (w0:=w) (ex':=[nr,n6,nb]) (K:=(none,0,0)) (J:=(none,0,0)) (V:=(none,0,0)) (by simp) (fun q hq=>.inl (by simpa using hq)) s.nd s (dO.refl w _) fun a1 w2 s1 k1=>hQ a1 w2 ?_
 refine ⟨M,mbs,s1,hk.trans k1,gM.keep k1 (sW fM hlt),fM,hml,hmd,fun i mb hi=>?_⟩
 have h:=hmb i mb hi
 have z:=k1.size
 have n1:∀{S:dY},(∀g∈blk S,w1.heap.size≤g∧g<w.heap.size∧g∉blk M)→∀a,S.1=some a→a.block∉([nc,nr,n6,nb]:List Nat):=fun hS a ha hm=>by
  obtain ⟨h1,_,_⟩:=hS a.block (by rw [vH ha]; simp)
  have:=hlt _ hm; omega
 exact ⟨{ h.ok with qU:=kI h.ok.qU k1 (n1 h.hJ),dJ:=kI h.ok.dJ k1 (n1 h.hV) },h.cap,fun g hg=>⟨(h.hJ g hg).1,by have:=(h.hJ g hg).2.1; omega,(h.hJ g hg).2.2⟩,fun g hg=>⟨(h.hV g hg).1,by have:=(h.hV g hg).2.1; omega,(h.hV g hg).2.2⟩⟩
theorem Wn:CS (dN aD)=o7 [dZ (CS (dN aD))] (fU (CS (dN aD))):=by kernel_rfl
theorem VQ:(fU (CS (dN aD)))=.block 2 (.loop (uU (dN aD))):=by kernel_rfl
variable {Ps:List iF} {f:Bool}
theorem Zw (hC1:Ah w1 [nc,nr,n6,nb] nc B0 B1 Lk O A js mvs Ps)
  (hCh:∀(mv:MV),mv∈mvs→∀w:World,dO w1 [nc,nr,n6,nb] w→Calls aa 73 #[.agg ⟨[dJ B0,dJ B1]⟩,num mv.link] w (vC w (jd js 4 mv.link [])))
  (hV:ML w1 nc nr n6 nb B0 B1 Lk O A js mvs.length 0 ([],f) a w) (hQ:∀a' w',ML w1 nc nr n6 nb B0 B1 Lk O A js mvs.length mvs.length (mvs.foldl (yt js Ps) ([],f)) a' w'→Q .normal a' w'):(fU (CS (dN aD))).wp aa Q a w:=by
 rw [VQ]
 refine wp_block (wp_loop (fun a w=>∃k,k≤mvs.length∧ML w1 nc nr n6 nb B0 B1 Lk O A js mvs.length k ((mvs.take k).foldl (yt js Ps) ([],f)) a w) (fun a _=>mvs.length - (intOf (a.tmps.getD 66 undef)).toNat) ⟨0,Nat.zero_le _,hV⟩ ?_)
 rintro a2 w2 ⟨k,hk,hI⟩
 by_cases hl:k=mvs.length
 ·subst hl
  rw [List.take_length] at hI
  exact Zv (mvs:=mvs) (Ps:=Ps) hC1.lt hI fun a3 w3 h3=>hQ a3 w3 h3
 ·obtain ⟨mv,hmv⟩:∃mv,mvs[k]?=some mv:=⟨_,ah (by omega)⟩
  have e1:∀a w k dd,ML w1 nc nr n6 nb B0 B1 Lk O A js mvs.length k dd a w→intOf (a.tmps.getD 66 undef)=k:=fun a w k dd h=>by
   obtain ⟨M,mbs,s,_⟩:=h
   exact UE s (by decide) rfl
  refine Zy hC1 hmv (hCh mv (aN hmv)) hI fun a3 w3 h3=>?_
  refine ⟨⟨k+1,by omega,?_⟩,?_⟩
  ·have:mvs.take (k+1)=mvs.take k++[mv]:=by rw [List.take_add_one,hmv]; rfl
   rw [this,List.foldl_append]
   exact h3
  ·rw [e1 _ _ _ _ hI,e1 _ _ _ _ h3]
   omega
def wG (js:List JV) (Ps:List iF) (mvs:List MV) (f:Bool):List MD×Bool:=mvs.foldl (yt js Ps) ([],f)
abbrev Mv (w0:World) (nc:Nat) (w:World):Prop:=iV (w0,[nc]) w
def xE (Ps:List iF) (w:World) (e:Ending) (w':World):Prop:=Below w.heap.size w w'∧∃gl,w.heap.size≤gl∧gl<w'.heap.size∧e=.returned (.slice (some ⟨gl,0,none⟩) Ps.length Ps.length)∧w'.heap[gl]?=some (.cells ⟨Ps.flatMap gT⟩ 135 (0,0))
def Ca (w:World) (nc:Nat) (B0 B1:dY) (js:List JV) (Ps:List iF) (mvs:List MV) (f:Bool) (e:Ending) (w':World):Prop :=
 ∃(A M:dY) (mbs:List MB),e=.returned (afp nc B0 B1 A M)∧dO w [nc] w'∧w'.heap[nc]?=some (.cells #[.bool (wG js Ps mvs f).2] 88 (0,0))∧A.2.1=js.length∧Sl w' A.1 7 ((nu js Ps).map (V6.cs nc))∧(∀a,A.1=some a→a.block≠nc) ∧
  M.2.1=mbs.length∧Sl w' M.1 3 (mbs.map MB.row)∧(∀a,M.1=some a→a.block≠nc)∧mbs.map MB.md=(wG js Ps mvs f).1∧∀(i:Nat) (mb:MB),mbs[i]?=some mb→sD w' nc js.length mb∧mb.J.2.1≤mb.J.2.2
variable {n:Nat} {e:TypeId}
theorem adC {us:List (Option Value)} {gs ls:List gQ} (h:dP us gs ls a w) {cs:List Value} (hc:w.heap[n]?=some (.cells ⟨cs⟩ e (0,0))) (hn:n∉gs.map (·.1)++ls.map (·.1)):dP us gs (ls++[(n,cs,e)]) a w :=
 ⟨h.df,h.sz,h.fr,h.gl,fun x hx=>by
  rcases bH.1 hx with r | r
  ·exact h.lo x r
  ·simp only [ag,ae,or_false] at r; subst r; exact hc,by
  simp only [List.map_append,dI,ae9]
  rw [←afd]
  exact afe.2 ⟨h.nd,by simp,fun a ha b hb e=>hn (by simp only [ag,ae,or_false] at hb; subst hb; exact e▸ha)⟩⟩
variable {g:Nat}
theorem Ik {cs cs':Array Value} {e':TypeId} (h:w.heap[g]?=some (.cells cs e (0,0))) (h':w.heap[g]?=some (.cells cs' e' (0,0))):e=e':=by
 rw [h] at h'; injection h' with h'; injection h'
theorem ach (P:iF):(gT P).length=24:=by simp [gT,pl]
theorem ac4 (h:w.heap[g]?=some (.cells ⟨Ps.flatMap gT⟩ 135 (0,0))):Sl w (some ⟨g,0,none⟩) 24 (Ps.map gT):=fun _=>⟨g,0,rfl,(aB.1 h).1,fun i r hi k v hk=>by
 have:=flat_get (Ps.map gT) 24 (fun r hr=>by obtain ⟨P,_,rfl⟩:=aeZ.1 hr; exact ach P) i r hi k v hk
 simpa [bS,h,List.flatMap] using this⟩
theorem wB (t:Nat):ay (t+3) 0=false∧ay (t+3) 1=false∧ay (t+3) 2=false:=⟨rfl,rfl,rfl⟩
theorem Ig {w0:World} {gL g9:Nat} (hn:js.length=n) (hk:dO w0 [nc] w1) (hP:Ps.length=n) (hb0:B0.2.1=n) (hb1:B1.2.1=mvs.length) (h3:n≤3) (h1:1≤n)
  (sB:Sl w0 B0.1 12 (js.map JV.vals)) (sM:Sl w0 B1.1 5 (mvs.map MV.vals)) (xB:∀a,B0.1=some a→a.block≠nc∧a.block<w0.heap.size) (xM:∀a,B1.1=some a→mvs≠[]→a.block≠nc∧a.block<w0.heap.size)
  (pr:∀(i:Nat) (j:JV),js[i]?=some j→-1≤j.parent∧j.parent<i) (ms:∀(i:Nat) (mv:MV),mvs[i]?=some mv→(0≤mv.link∧mv.link<js.length)∧1≤mv.eT∧mv.eT≤1000000000) (m9:mvs.length≤100)
  (hCh:∀(mv:MV),mv∈mvs→∀w:World,Mv w0 nc w→Calls aa 73 #[.agg ⟨[dJ B0,dJ B1]⟩,num mv.link] w (vC w (jd js 4 mv.link [])))
  (hnew:∀q∈[gL,g9,nr,n6,nb],w0.heap.size≤q∧q<w1.heap.size) (nd:[nc,gL,g9,nr,n6,nb].Nodup) (hnc:nc<w0.heap.size)
  (s:dP (dS 137 [(0,dK nc),(4,dK nr),(6,dK n6),(7,.slice (some ⟨gL,0,none⟩) n n),(8,dK nb),(9,.slice (some ⟨g9,0,none⟩) n n)]) [(nc,[.bool f],88),(gL,Ps.flatMap gT,135),(g9,Ps.flatMap fun P=>(kM P).cs nc,98)] [(nr,[dJ B0,dJ B1],35),(n6,[.pointer none,.slice none 0 0,.slice none 0 0,.slice none 0 0,.slice none 0 0],92)] a w1)
  (hb:w1.heap[nb]?=some (.cells #[dK nc,dJ B0,dJ B1,dJ A,.slice none 0 0] 92 (0,0))) (gA:Grow w1 A 7 98 n ((nu js Ps).flatMap fun v=>v.cs nc)) (fA:∃g,A.1=some ⟨g,0,none⟩∧w0.heap.size≤g) :
  (Code.seq (CS (dN aD)) (sR 6 (dN aD))).wp aa (bodyPost aa aD (Ca w0 nc B0 B1 js Ps mvs f)) a w1:=by
 subst hn
 obtain ⟨gA0,eA,hA⟩:=fA
 have nd':=nd
 simp only [ag5,ag,ae,or_false,not_or] at nd'
 obtain ⟨⟨c1,c2,c3,c4,c5⟩,⟨d1,d2,d3,d4⟩,⟨e1,e2,e3⟩,⟨i1,i2⟩,i3,_⟩:=nd'
 have hne:∀q∈[nc,nr,n6,nb],gA0≠q:=fun q hq e=>by
  obtain ⟨g',cs,q1,q2,_⟩:=gA.blk _ eA
  injection q1 with q1; subst q1
  subst e
  simp only [ag,ae,or_false] at hq
  rcases hq with r | r | r | r
  ·omega
  ·exact absurd (Ik (s.lo (nr,[dJ B0,dJ B1],35) (by simp)) (r▸q2)) (by show ¬(35:Nat)=98; decide)
  ·exact absurd (Ik (s.lo (n6,[.pointer none,.slice none 0 0,.slice none 0 0,.slice none 0 0,.slice none 0 0],92) (by simp)) (r▸q2)) (by show ¬(92:Nat)=98; decide)
  ·exact absurd (Ik hb (r▸q2)) (by show ¬(92:Nat)=98; decide)
 have hgA:gA0<w1.heap.size:=gA.lt _ (by rw [vH eA]; simp)
 have s1:=adC (dP.sub (l':=[(0,dK nc),(4,dK nr),(6,dK n6),(7,dJ (some ⟨gL,0,none⟩,js.length,js.length)),(8,dK nb),(9,dJ (some ⟨g9,0,none⟩,js.length,js.length))]) (gs':=[(nc,[.bool f],88)]) (ls':=[(nr,[dJ B0,dJ B1],35),(n6,[.pointer none,.slice none 0 0,.slice none 0 0,.slice none 0 0,.slice none 0 0],92)]) s (fun x hx=>by
  simp only [ag,ae,or_false] at hx
  rcases hx with rfl | rfl | rfl | rfl | rfl | rfl<;>rfl) (fun x hx=>by simp only [ag,ae,or_false] at hx; subst hx; exact aA) (fun x hx=>hx) (by simp; omega)) hb (by simp; omega)
 refine wp_seq ?_
 rw [Wn]
 refine VX (w0:=w1) (ex':=[nr,n6,nb]) (k:=0) (m:=(mvs.length:Nat)) (Lk:=(some ⟨gL,0,none⟩,js.length,js.length)) (O:=(some ⟨g9,0,none⟩,js.length,js.length)) (M:=(none,0,0)) (K:=(none,0,0)) (J:=(none,0,0)) (V:=(none,0,0)) (by rw [hb1]) (fun q hq=>.inl (by simpa using hq)) s1.nd s1 (dO.refl w1 _) fun a2 w2 s2 k2=>?_
 have z1:=hk.size; have z2:=k2.size
 have K2:dO w0 [nc] w2:=hk.comp k2 fun g hg=>by
  simp only [ag,ae,or_false] at hg ⊢
  rcases hg with r | r | r | r
  ·exact .inl r
  ·have:=(hnew nr (by simp)).1; right; omega
  ·have:=(hnew n6 (by simp)).1; right; omega
  ·have:=(hnew nb (by simp)).1; right; omega
 have z3:=(hnew gL (by simp)).2; have z4:=(hnew g9 (by simp)).2
 have hMs:Ah w2 [nc,nr,n6,nb] nc B0 B1 (some ⟨gL,0,none⟩,js.length,js.length) (some ⟨g9,0,none⟩,js.length,js.length) A js mvs Ps :=
  {
   b0:=hb0,b1:=hb1,lL:=by simp [hP],oL:=by simp [hP],aL:=by rw [gA.len,hP],pL:=hP
   sB:=kI sB K2 fun a ha=>by simpa using (xB a ha).1
   sM:=Uw sM K2 fun a ha h0=>by simpa using (xM a ha (by simpa using h0)).1
   sL:=ac4 ((k2.frame gL z3 (by simp; omega)).trans (s.gl _ (aT _ aA)))
   sO:=zO (us:=Ps.map kM) (by
    have:=(k2.frame g9 z4 (by simp; omega)).trans (s.gl _ (aT _ (aT _ aA)))
    simpa [List.flatMap_map] using this)
   sA:=Grow.sl (n:=js.length) (e:=98) (gA.keep k2 fun g hg hm=>hne g hm (by rw [vH eA] at hg; exact (List.mem_singleton.1 hg).symm)) (fun r hr=>by obtain ⟨v,_,rfl⟩:=aeZ.1 hr; rfl) (by simp [nu,hP])
   xB:=fun a ha hm=>by
    obtain ⟨h1,h2⟩:=xB a ha
    have:=(hnew nr (by simp)).1; have:=(hnew n6 (by simp)).1; have:=(hnew nb (by simp)).1
    simp only [ag,ae,or_false] at hm
    omega
   xM:=fun a ha h0 hm=>by
    obtain ⟨h1,h2⟩:=xM a ha h0
    have:=(hnew nr (by simp)).1; have:=(hnew n6 (by simp)).1; have:=(hnew nb (by simp)).1
    simp only [ag,ae,or_false] at hm
    omega
   xL:=fun a ha hm=>by injection ha with ha; subst ha; simp only [ag,ae,or_false] at hm; omega
   xO:=fun a ha hm=>by injection ha with ha; subst ha; simp only [ag,ae,or_false] at hm; omega
   xA:=fun a ha hm=>by rw [eA] at ha; injection ha with ha; subst ha; exact hne _ hm rfl
   j3:=h3,pr:=pr,ms:=ms,m9:=m9
   lt:=fun g hg=>qE s2 g (by simpa using hg) }
 have hmv:∀w,dO w2 [nc,nr,n6,nb] w→dO w0 [nc] w:=fun w h=>K2.comp h fun g hg=>by
  simp only [ag,ae,or_false] at hg ⊢
  rcases hg with r | r | r | r
  ·exact .inl r
  ·have:=(hnew nr (by simp)).1; right; omega
  ·have:=(hnew n6 (by simp)).1; right; omega
  ·have:=(hnew nb (by simp)).1; right; omega
 refine Zw hMs (fun mv hm w hw=>hCh mv hm w (nQ (hmv w hw))) ⟨(none,0,0),[],s2,dO.refl w2 _,Grow.start w2 3 95,(fun g hg=>by cases hg),rfl,rfl,fun i mb hi=>by simp at hi⟩ fun a3 w3 hV=>?_
 obtain ⟨M,mbs,s3,k3,gM,fM,hml,hmd,hmb⟩:=hV
 have K3:=hmv w3 k3
 refine Wh (w0:=w3) (ex':=[nr,n6,nb]) (K:=(none,0,0)) (J:=(none,0,0)) (V:=(none,0,0)) (fun q hq=>.inl (by simpa using hq)) s3.nd s3 (dO.refl w3 _) fun a4 w4 s4 k4=>?_
 have K4:dO w0 [nc] w4:=K3.comp k4 fun g hg=>by
  simp only [ag,ae,or_false] at hg ⊢
  rcases hg with r | r | r | r
  ·exact .inl r
  ·have:=(hnew nr (by simp)).1; right; omega
  ·have:=(hnew n6 (by simp)).1; right; omega
  ·have:=(hnew nb (by simp)).1; right; omega
 have k34:=(hMs.keep (ex2:=[]) (k3.trans k4))
 have n1:∀{S:dY},(∀g∈blk S,w2.heap.size≤g∧g<w3.heap.size∧g∉blk M)→∀a,S.1=some a→a.block∉([nc,nr,n6,nb]:List Nat):=fun hS a ha hm=>by
  obtain ⟨h1,_,_⟩:=hS a.block (by rw [vH ha]; simp)
  have:=hMs.lt _ hm; omega
 have gM4:=gM.keep k4 (sW fM hMs.lt)
 refine ⟨A,M,mbs,rfl,K4,s4.gl _ aA,gA.len,k34.sA,fun a ha e=>k34.xA a ha (by simp [e]),by rw [gM.len,hml],?_,fun a ha e=>?_,hmd,fun i mb hi=>?_⟩
 ·exact Grow.sl (n:=mbs.length) (e:=95) (by rw [hml]; exact gM4) (fun r hr=>by obtain ⟨v,_,rfl⟩:=aeZ.1 hr; rfl) (by simp)
 ·have:=fM a.block (by rw [vH ha]; simp)
  have:=hMs.lt nc (by simp)
  omega
 ·have h:=hmb i mb hi
  exact ⟨{ h.ok with qU:=kI h.ok.qU k4 (n1 h.hJ),dJ:=kI h.ok.dJ k4 (n1 h.hV) },h.cap⟩
variable {X:dY} {j0:JV} {P0:iF}
theorem agQ (hb0:B0.2.1=1) (hb1:B1.2.1=mvs.length)
  (sB:Sl w B0.1 12 ([j0].map JV.vals)) (sM:Sl w B1.1 5 (mvs.map MV.vals)) (xB:∀a,B0.1=some a→a.block≠nc∧a.block<w.heap.size) (xM:∀a,B1.1=some a→mvs≠[]→a.block≠nc∧a.block<w.heap.size)
  (pr:∀(i:Nat) (j:JV),([j0]:List JV)[i]?=some j→-1≤j.parent∧j.parent<i) (ms:∀(i:Nat) (mv:MV),mvs[i]?=some mv→(0≤mv.link∧mv.link<([j0]:List JV).length)∧1≤mv.eT∧mv.eT≤1000000000) (m9:mvs.length≤100)
  (hCh:∀(mv:MV),mv∈mvs→∀w':World,Mv w nc w'→Calls aa 73 #[.agg ⟨[dJ B0,dJ B1]⟩,num mv.link] w' (vC w' (jd [j0] 4 mv.link [])))
  (hLk:∀w':World,Mv w nc w'→Calls aa 68 #[.agg ⟨[dJ B0,dJ B1]⟩,dJ X] w' (xE [P0] w')) (hf:w.heap[nc]?=some (.cells #[.bool f] 88 (0,0))) :
  Calls aa 41 #[dK nc,.agg ⟨[dJ B0,dJ B1]⟩,dJ X] w (Ca w nc B0 B1 [j0] [P0] mvs f):=by
 have hnc:nc<w.heap.size:=(aB.1 hf).1
 obtain ⟨b0,o0,r0⟩:=iy (i:=0) (ex:=[nc]) sB (by simp [hb0]) (show ([j0].map JV.vals)[0]?=some j0.vals from rfl) (aO _) (fun a ha=>by simpa using (xB a ha).1)
 refine calls_of_wp Tryz.func41 (c:=(dN aD)) (by kernel_rfl) ?_
 rw [Ii]
 have hst:dP ([some (dK nc),some (.agg ⟨[dJ B0,dJ B1]⟩),some (dJ X)]++ag6 134 (some undef)) [(nc,[.bool f],88)] [] { tmps:=#[dK nc,.agg ⟨[dJ B0,dJ B1]⟩,dJ X]++aji (aD.ntmps - 3) undef,defers:=[] } w :=
  qF (xs:=[dK nc,.agg ⟨[dJ B0,dJ B1]⟩,dJ X]) (m:=134) rfl (fun x hx=>by simp only [ag,ae,or_false] at hx; subst hx; exact hf) (by simp)
 have hs2:dP (dS 137 [(0,dK nc),(1,.agg ⟨[dJ B0,dJ B1]⟩),(2,dJ X)]) [(nc,[.bool f],88)] [] { tmps:=#[dK nc,.agg ⟨[dJ B0,dJ B1]⟩,dJ X]++aji (aD.ntmps - 3) undef,defers:=[] } w :=
  ⟨hst.df,by rw [←hst.sz]; rfl,fun t u e=>hst.fr t u (by
   match t,e with
   | 0,e=>exact e
   | 1,e=>exact e
   | 2,e=>exact e
   | t+3,e =>
    exfalso
    simp only [dS,bY,aR] at e
    obtain ⟨y,y1,y2⟩:=e
    obtain ⟨hlt,hy⟩:=ai.1 y1
    simp only [List.getElem_range] at hy
    subst hy
    simp only [lookO,(wB t).1,(wB t).2.1,(wB t).2.2,cond_false] at y2
    cases y2),hst.gl,hst.lo,hst.nd⟩
 refine hd1 (w0:=w) (m:=(mvs.length:Nat)) (X:=X) (j0:=j0) (P0:=P0) hb0 (by rw [hb1]) r0 (fun x hx=>?_) (fun q hq=>.inl (by simpa using hq)) hs2 (dO.refl w _) fun a' w' gL g9 nr n6 nb A hn nd s hb gA fA hk'=>?_
 ·simp only [ag,ae,or_false] at hx
  subst hx
  intro w2 hF
  refine ⟨[.agg ⟨[dJ B0,dJ B1]⟩,dJ X],by kernel_rfl,?_⟩
  refine (hLk w2 hF).mono fun e w3 hL=>?_
  obtain ⟨hbl,gl,l1,l2,rfl,l4⟩:=hL
  exact ⟨hbl,_,gl,(show _=some ([P0].flatMap gT) by kernel_rfl),l1,l2,rfl,l4⟩
 ·exact Ig (js:=[j0]) (Ps:=[P0]) rfl hk' rfl hb0 hb1 (by simp) (by simp) sB sM xB xM pr ms m9 hCh hn nd hnc s hb gA fA
variable {j1:JV} {P1:iF}
theorem agR (hb0:B0.2.1=2) (hb1:B1.2.1=mvs.length)
  (sB:Sl w B0.1 12 ([j0,j1].map JV.vals)) (sM:Sl w B1.1 5 (mvs.map MV.vals)) (xB:∀a,B0.1=some a→a.block≠nc∧a.block<w.heap.size) (xM:∀a,B1.1=some a→mvs≠[]→a.block≠nc∧a.block<w.heap.size)
  (pr:∀(i:Nat) (j:JV),([j0,j1]:List JV)[i]?=some j→-1≤j.parent∧j.parent<i) (ms:∀(i:Nat) (mv:MV),mvs[i]?=some mv→(0≤mv.link∧mv.link<([j0,j1]:List JV).length)∧1≤mv.eT∧mv.eT≤1000000000) (m9:mvs.length≤100)
  (hCh:∀(mv:MV),mv∈mvs→∀w':World,Mv w nc w'→Calls aa 73 #[.agg ⟨[dJ B0,dJ B1]⟩,num mv.link] w' (vC w' (jd [j0,j1] 4 mv.link [])))
  (hLk:∀w':World,Mv w nc w'→Calls aa 68 #[.agg ⟨[dJ B0,dJ B1]⟩,dJ X] w' (xE [P0,P1] w')) (hf:w.heap[nc]?=some (.cells #[.bool f] 88 (0,0))) :
  Calls aa 41 #[dK nc,.agg ⟨[dJ B0,dJ B1]⟩,dJ X] w (Ca w nc B0 B1 [j0,j1] [P0,P1] mvs f):=by
 have hnc:nc<w.heap.size:=(aB.1 hf).1
 obtain ⟨b0,o0,r0⟩:=iy (i:=0) (ex:=[nc]) sB (by simp [hb0]) (show ([j0,j1].map JV.vals)[0]?=some j0.vals from rfl) (aO _) (fun a ha=>by simpa using (xB a ha).1)
 obtain ⟨b1,o1,r1⟩:=iy (i:=1) (ex:=[nc]) sB (by simp [hb0]) (show ([j0,j1].map JV.vals)[1]?=some j1.vals from rfl) (aO _) (fun a ha=>by simpa using (xB a ha).1)
 refine calls_of_wp Tryz.func41 (c:=(dN aD)) (by kernel_rfl) ?_
 rw [Ii]
 have hst:dP ([some (dK nc),some (.agg ⟨[dJ B0,dJ B1]⟩),some (dJ X)]++ag6 134 (some undef)) [(nc,[.bool f],88)] [] { tmps:=#[dK nc,.agg ⟨[dJ B0,dJ B1]⟩,dJ X]++aji (aD.ntmps - 3) undef,defers:=[] } w :=
  qF (xs:=[dK nc,.agg ⟨[dJ B0,dJ B1]⟩,dJ X]) (m:=134) rfl (fun x hx=>by simp only [ag,ae,or_false] at hx; subst hx; exact hf) (by simp)
 have hs2:dP (dS 137 [(0,dK nc),(1,.agg ⟨[dJ B0,dJ B1]⟩),(2,dJ X)]) [(nc,[.bool f],88)] [] { tmps:=#[dK nc,.agg ⟨[dJ B0,dJ B1]⟩,dJ X]++aji (aD.ntmps - 3) undef,defers:=[] } w :=
  ⟨hst.df,by rw [←hst.sz]; rfl,fun t u e=>hst.fr t u (by
   match t,e with
   | 0,e=>exact e
   | 1,e=>exact e
   | 2,e=>exact e
   | t+3,e =>
    exfalso
    simp only [dS,bY,aR] at e
    obtain ⟨y,y1,y2⟩:=e
    obtain ⟨hlt,hy⟩:=ai.1 y1
    simp only [List.getElem_range] at hy
    subst hy
    simp only [lookO,(wB t).1,(wB t).2.1,(wB t).2.2,cond_false] at y2
    cases y2),hst.gl,hst.lo,hst.nd⟩
 refine hd2 (w0:=w) (m:=(mvs.length:Nat)) (X:=X) (j0:=j0) (P0:=P0) (j1:=j1) (P1:=P1) hb0 (by rw [hb1]) r0 r1 (fun x hx=>?_) (fun q hq=>.inl (by simpa using hq)) hs2 (dO.refl w _) fun a' w' gL g9 nr n6 nb A hn nd s hb gA fA hk'=>?_
 ·simp only [ag,ae,or_false] at hx
  subst hx
  intro w2 hF
  refine ⟨[.agg ⟨[dJ B0,dJ B1]⟩,dJ X],by kernel_rfl,?_⟩
  refine (hLk w2 hF).mono fun e w3 hL=>?_
  obtain ⟨hbl,gl,l1,l2,rfl,l4⟩:=hL
  exact ⟨hbl,_,gl,(show _=some ([P0,P1].flatMap gT) by kernel_rfl),l1,l2,rfl,l4⟩
 ·exact Ig (js:=[j0,j1]) (Ps:=[P0,P1]) rfl hk' rfl hb0 hb1 (by simp) (by simp) sB sM xB xM pr ms m9 hCh hn nd hnc s hb gA fA
theorem Z6 {j2:JV} {P2:iF} (hb0:B0.2.1=3) (hb1:B1.2.1=mvs.length)
  (sB:Sl w B0.1 12 ([j0,j1,j2].map JV.vals)) (sM:Sl w B1.1 5 (mvs.map MV.vals)) (xB:∀a,B0.1=some a→a.block≠nc∧a.block<w.heap.size) (xM:∀a,B1.1=some a→mvs≠[]→a.block≠nc∧a.block<w.heap.size)
  (pr:∀(i:Nat) (j:JV),([j0,j1,j2]:List JV)[i]?=some j→-1≤j.parent∧j.parent<i) (ms:∀(i:Nat) (mv:MV),mvs[i]?=some mv→(0≤mv.link∧mv.link<([j0,j1,j2]:List JV).length)∧1≤mv.eT∧mv.eT≤1000000000) (m9:mvs.length≤100)
  (hCh:∀(mv:MV),mv∈mvs→∀w':World,Mv w nc w'→Calls aa 73 #[.agg ⟨[dJ B0,dJ B1]⟩,num mv.link] w' (vC w' (jd [j0,j1,j2] 4 mv.link [])))
  (hLk:∀w':World,Mv w nc w'→Calls aa 68 #[.agg ⟨[dJ B0,dJ B1]⟩,dJ X] w' (xE [P0,P1,P2] w')) (hf:w.heap[nc]?=some (.cells #[.bool f] 88 (0,0))) :
  Calls aa 41 #[dK nc,.agg ⟨[dJ B0,dJ B1]⟩,dJ X] w (Ca w nc B0 B1 [j0,j1,j2] [P0,P1,P2] mvs f):=by
 have hnc:nc<w.heap.size:=(aB.1 hf).1
 obtain ⟨b0,o0,r0⟩:=iy (i:=0) (ex:=[nc]) sB (by simp [hb0]) (show ([j0,j1,j2].map JV.vals)[0]?=some j0.vals from rfl) (aO _) (fun a ha=>by simpa using (xB a ha).1)
 obtain ⟨b1,o1,r1⟩:=iy (i:=1) (ex:=[nc]) sB (by simp [hb0]) (show ([j0,j1,j2].map JV.vals)[1]?=some j1.vals from rfl) (aO _) (fun a ha=>by simpa using (xB a ha).1)
 obtain ⟨b2,o2,r2⟩:=iy (i:=2) (ex:=[nc]) sB (by simp [hb0]) (show ([j0,j1,j2].map JV.vals)[2]?=some j2.vals from rfl) (aO _) (fun a ha=>by simpa using (xB a ha).1)
 refine calls_of_wp Tryz.func41 (c:=(dN aD)) (by kernel_rfl) ?_
 rw [Ii]
 have hst:dP ([some (dK nc),some (.agg ⟨[dJ B0,dJ B1]⟩),some (dJ X)]++ag6 134 (some undef)) [(nc,[.bool f],88)] [] { tmps:=#[dK nc,.agg ⟨[dJ B0,dJ B1]⟩,dJ X]++aji (aD.ntmps - 3) undef,defers:=[] } w :=
  qF (xs:=[dK nc,.agg ⟨[dJ B0,dJ B1]⟩,dJ X]) (m:=134) rfl (fun x hx=>by simp only [ag,ae,or_false] at hx; subst hx; exact hf) (by simp)
 have hs2:dP (dS 137 [(0,dK nc),(1,.agg ⟨[dJ B0,dJ B1]⟩),(2,dJ X)]) [(nc,[.bool f],88)] [] { tmps:=#[dK nc,.agg ⟨[dJ B0,dJ B1]⟩,dJ X]++aji (aD.ntmps - 3) undef,defers:=[] } w :=
  ⟨hst.df,by rw [←hst.sz]; rfl,fun t u e=>hst.fr t u (by
   match t,e with
   | 0,e=>exact e
   | 1,e=>exact e
   | 2,e=>exact e
   | t+3,e =>
    exfalso
    simp only [dS,bY,aR] at e
    obtain ⟨y,y1,y2⟩:=e
    obtain ⟨hlt,hy⟩:=ai.1 y1
    simp only [List.getElem_range] at hy
    subst hy
    simp only [lookO,(wB t).1,(wB t).2.1,(wB t).2.2,cond_false] at y2
    cases y2),hst.gl,hst.lo,hst.nd⟩
 refine hd3 (w0:=w) (m:=(mvs.length:Nat)) (X:=X) (j0:=j0) (P0:=P0) (j1:=j1) (P1:=P1) (j2:=j2) (P2:=P2) hb0 (by rw [hb1]) r0 r1 r2 (fun x hx=>?_) (fun q hq=>.inl (by simpa using hq)) hs2 (dO.refl w _) fun a' w' gL g9 nr n6 nb A hn nd s hb gA fA hk'=>?_
 ·simp only [ag,ae,or_false] at hx
  subst hx
  intro w2 hF
  refine ⟨[.agg ⟨[dJ B0,dJ B1]⟩,dJ X],by kernel_rfl,?_⟩
  refine (hLk w2 hF).mono fun e w3 hL=>?_
  obtain ⟨hbl,gl,l1,l2,rfl,l4⟩:=hL
  exact ⟨hbl,_,gl,(show _=some ([P0,P1,P2].flatMap gT) by kernel_rfl),l1,l2,rfl,l4⟩
 ·exact Ig (js:=[j0,j1,j2]) (Ps:=[P0,P1,P2]) rfl hk' rfl hb0 hb1 (by simp) (by simp) sB sM xB xM pr ms m9 hCh hn nd hnc s hb gA fA
end Go.Proofs
end
