/-
  Part of the proof: see the last text.
-/
import Derived.Test.YthbfmjlcnfgnbaaGreatZXc
set_option linter.unusedVariables false
set_option maxHeartbeats 8000000
open Array renaming getElem?_eq_some_iff→aB,replicate→dn
open Go.IntKind renaming i64→bg
open Go.IntWalk renaming i64_in→dz
open List renaming append_assoc→afd,cons_append→dw,getD_cons_succ→bZ,getD_cons_zero→bN,getElem?_append_left→aH,getElem?_append_right→bu,getElem?_eq_getElem→ah,getElem?_eq_some_iff→ai,getElem?_map→bY,getElem?_of_mem→cZ,length→ae1,length_append→afa,length_cons→dB,length_map→dF,length_nil→aeT,map_cons→dI,map_eq_nil_iff→ag3,map_nil→ae9,mem_append→bH,mem_cons→ag,mem_cons_of_mem→aT,mem_cons_self→aA,mem_map→aeZ,nil_append→dD,nodup_cons→ag5,not_mem_nil→ae,replicate→ag6
open Nat renaming beq→ay,eq_of_beq_eq_true→bf,le_refl→au,lt_of_lt_of_le→aC,succ_pos→aO
open Option renaming map_eq_some_iff→aR
open Option.some renaming injEq→ak
open Prod.mk renaming injEq→aP
open Go.Proofs.Tryz renaming f20→aY,f6→ag2,prog→aa
open Go.World renaming cell?→bS
section
namespace Go.Proofs
open Go.Sm Go.RowKit En
def LK (x d:Int):Int:=x.fdiv (2^(min d.toNat 64))
def Bq (p q i:Int):Int:=bg.wrap (i*bg.wrap (q - p))
def Br (p q i:Int):Int:=bg.wrap (bg.wrap (i+1)*bg.wrap (q - p))
def pM (p q d i:Int):Int:=bg.wrap (p+LK (if Br p q i<Bq p q i then Br p q i else Bq p q i) d)
def pK (p q d i:Int):Int:=bg.wrap (p - LK (bg.wrap (-(if Bq p q i<Br p q i then Br p q i else Bq p q i))) d)
def kY (l:List Int):iF:=fun i=>FN (135+i) l
def Fe (kind lo hi:Int):iF :=
 bif kind==1 then (fun i=>FN (159+i) [0,lo,hi]) else bif kind==2 then (fun i=>FN (159+i) [1,lo,hi]) else bif kind==3 then (fun i=>FN (159+i) [2,lo,hi]) else
 bif kind==4 then kY [lo,hi,0,0,0,0] else bif kind==5 then kY [0,0,lo,hi,0,0] else bif kind==6 then kY [0,0,0,0,lo,hi] else fun i=>FN (183+i) []
def kE (P Q:iF):iF:=fun i=>FN (207+i) (pl P++pl Q)
def nK (kind o0 o1 o2 lo hi:Int):iF:=kE (kY (pg 62 [o0,o1,o2]).l) (Fe kind lo hi)
variable {w0 w:World} {ex:List Nat} {P Q:dY} {d i p0 q0:Int} {b0 o0 b1 o1:Nat}
theorem aci (hP:P.2.1=1) (hQ:Q.2.1=1) (ha0:decide (p0< -2147483648)=false) (hb0:decide (2147483648<p0)=false) (ha1:decide (q0< -2147483648)=false) (hb1:decide (2147483648<q0)=false) (hd0:decide (0≤d)=true) (hd1:decide (d≤20)=true) (hd2:decide (d<0)=false) (hi0:decide (i<0)=false) (hi1:decide (bg.wrap (1*2^(min d.toNat 64))≤i)=false) (hw0:fu w0 ex P (0) 1 b0 o0 [num (p0)]) (hw1:fu w0 ex Q (0) 1 b1 o1 [num (q0)]) (hF:iV (w0,ex) w) :
  Calls aa 39 #[dJ P,dJ Q,num (d),num (i)] w (fun r w'=>Below w.heap.size w w'∧∃gl,w.heap.size≤gl∧gl<w'.heap.size∧r=.returned (kC true gl 1 1)∧w'.heap[gl]?=some (.cells ⟨[num (pM p0 q0 d i),num (pK p0 q0 d i)]⟩ 64 (0,0))):=by
 refine qM (t:=true) (n:=1) (c:=1) (e:=64) (vs:=[num (pM p0 q0 d i),num (pK p0 q0 d i)]) (Z:=(w0,ex)) (l:=[d,i]++[p0,q0]) (bs:=[]) (sl:=[P,Q]) (ws:=[(b0,o0,[num (p0)]),(b1,o1,[num (q0)])]) (g:=[(mB 20 [var 2,.int .i64 (-2147483648)],.bool false),(mB 22 [var 2,.int .i64 2147483648],.bool false),(mB 20 [var 3,.int .i64 (-2147483648)],.bool false),(mB 22 [var 3,.int .i64 2147483648],.bool false),(mB 21 [.int .i64 0,var 0],.bool true),(mB 21 [var 0,.int .i64 20],.bool true),(mB 20 [var 0,.int .i64 0],.bool false),(mB 20 [var 1,.int .i64 0],.bool false),(mB 23 [var 1,mI 10 [.int .i64 1,var 0]],.bool false)]) (wt:=[(0,.int .i64 0,1,0),(1,.int .i64 0,1,1)]) (lt:=[(0,.int .i64 1),(1,.int .i64 1)]) (wb:=[dU [var 2],dU [var 3]]) (QT:=[]) (NT:=[]) (xs:=[dM 0,dM 1,var 0,var 1]) ⟨fq (b:=(decide (p0< -2147483648))) (by kernel_rfl) ha0 (fq (b:=(decide (2147483648<p0))) (by kernel_rfl) hb0 (fq (b:=(decide (q0< -2147483648))) (by kernel_rfl) ha1 (fq (b:=(decide (2147483648<q0))) (by kernel_rfl) hb1 (fq (b:=(decide (0≤d))) (by kernel_rfl) hd0 (fq (b:=(decide (d≤20))) (by kernel_rfl) hd1 (fq (b:=(decide (d<0))) (by kernel_rfl) hd2 (fq (b:=(decide (i<0))) (by kernel_rfl) hi0 (fq (b:=(decide (bg.wrap (1*2^(min d.toNat 64))≤i))) (by kernel_rfl) hi1 (ed _))))))))),all_nil,all_nil,dR hw0.wf<|dR hw1.wf<|all_nil,fun m hm hl=>⟨dR (gI (Z:=(w0,ex)) hw0 rfl rfl hm (hl 0 _ rfl))<|dR (gI (Z:=(w0,ex)) hw1 rfl rfl hm (hl 1 _ rfl))<|all_nil,dR (jf hm hP (by kernel_rfl) (by kernel_rfl))<|dR (jf hm hQ (by kernel_rfl) (by kernel_rfl))<|all_nil,all_nil⟩⟩ (by kernel_rfl) (by kernel_rfl) (by kernel_rfl) (by kernel_rfl) hF
variable {p1 q1:Int} {b2 o2 b3 o3:Nat}
theorem acj (hP:P.2.1=2) (hQ:Q.2.1=2) (ha0:decide (p0< -2147483648)=false) (hb0:decide (2147483648<p0)=false) (ha1:decide (p1< -2147483648)=false) (hb1:decide (2147483648<p1)=false) (ha2:decide (q0< -2147483648)=false) (hb2:decide (2147483648<q0)=false) (ha3:decide (q1< -2147483648)=false) (hb3:decide (2147483648<q1)=false) (hd0:decide (0≤d)=true) (hd1:decide (d≤20)=true) (hd2:decide (d<0)=false) (hi0:decide (i<0)=false) (hi1:decide (bg.wrap (1*2^(min d.toNat 64))≤i)=false) (hw0:fu w0 ex P (0) 1 b0 o0 [num (p0)]) (hw1:fu w0 ex P (1) 1 b1 o1 [num (p1)]) (hw2:fu w0 ex Q (0) 1 b2 o2 [num (q0)]) (hw3:fu w0 ex Q (1) 1 b3 o3 [num (q1)]) (hF:iV (w0,ex) w) :
  Calls aa 39 #[dJ P,dJ Q,num (d),num (i)] w (fun r w'=>Below w.heap.size w w'∧∃gl,w.heap.size≤gl∧gl<w'.heap.size∧r=.returned (kC true gl 2 2)∧w'.heap[gl]?=some (.cells ⟨[num (pM p0 q0 d i),num (pK p0 q0 d i),num (pM p1 q1 d i),num (pK p1 q1 d i)]⟩ 64 (0,0))):=by
 refine qM (t:=true) (n:=2) (c:=2) (e:=64) (vs:=[num (pM p0 q0 d i),num (pK p0 q0 d i),num (pM p1 q1 d i),num (pK p1 q1 d i)]) (Z:=(w0,ex)) (l:=[d,i]++[p0,p1,q0,q1]) (bs:=[]) (sl:=[P,Q]) (ws:=[(b0,o0,[num (p0)]),(b1,o1,[num (p1)]),(b2,o2,[num (q0)]),(b3,o3,[num (q1)])]) (g:=[(mB 20 [var 2,.int .i64 (-2147483648)],.bool false),(mB 22 [var 2,.int .i64 2147483648],.bool false),(mB 20 [var 3,.int .i64 (-2147483648)],.bool false),(mB 22 [var 3,.int .i64 2147483648],.bool false),(mB 20 [var 4,.int .i64 (-2147483648)],.bool false),(mB 22 [var 4,.int .i64 2147483648],.bool false),(mB 20 [var 5,.int .i64 (-2147483648)],.bool false),(mB 22 [var 5,.int .i64 2147483648],.bool false),(mB 21 [.int .i64 0,var 0],.bool true),(mB 21 [var 0,.int .i64 20],.bool true),(mB 20 [var 0,.int .i64 0],.bool false),(mB 20 [var 1,.int .i64 0],.bool false),(mB 23 [var 1,mI 10 [.int .i64 1,var 0]],.bool false)]) (wt:=[(0,.int .i64 0,1,0),(0,.int .i64 1,1,1),(1,.int .i64 0,1,2),(1,.int .i64 1,1,3)]) (lt:=[(0,.int .i64 2),(1,.int .i64 2)]) (wb:=[dU [var 2],dU [var 3],dU [var 4],dU [var 5]]) (QT:=[]) (NT:=[]) (xs:=[dM 0,dM 1,var 0,var 1]) ⟨fq (b:=(decide (p0< -2147483648))) (by kernel_rfl) ha0 (fq (b:=(decide (2147483648<p0))) (by kernel_rfl) hb0 (fq (b:=(decide (p1< -2147483648))) (by kernel_rfl) ha1 (fq (b:=(decide (2147483648<p1))) (by kernel_rfl) hb1 (fq (b:=(decide (q0< -2147483648))) (by kernel_rfl) ha2 (fq (b:=(decide (2147483648<q0))) (by kernel_rfl) hb2 (fq (b:=(decide (q1< -2147483648))) (by kernel_rfl) ha3 (fq (b:=(decide (2147483648<q1))) (by kernel_rfl) hb3 (fq (b:=(decide (0≤d))) (by kernel_rfl) hd0 (fq (b:=(decide (d≤20))) (by kernel_rfl) hd1 (fq (b:=(decide (d<0))) (by kernel_rfl) hd2 (fq (b:=(decide (i<0))) (by kernel_rfl) hi0 (fq (b:=(decide (bg.wrap (1*2^(min d.toNat 64))≤i))) (by kernel_rfl) hi1 (ed _))))))))))))),all_nil,all_nil,dR hw0.wf<|dR hw1.wf<|dR hw2.wf<|dR hw3.wf<|all_nil,fun m hm hl=>⟨dR (gI (Z:=(w0,ex)) hw0 rfl rfl hm (hl 0 _ rfl))<|dR (gI (Z:=(w0,ex)) hw1 rfl rfl hm (hl 1 _ rfl))<|dR (gI (Z:=(w0,ex)) hw2 rfl rfl hm (hl 2 _ rfl))<|dR (gI (Z:=(w0,ex)) hw3 rfl rfl hm (hl 3 _ rfl))<|all_nil,dR (jf hm hP (by kernel_rfl) (by kernel_rfl))<|dR (jf hm hQ (by kernel_rfl) (by kernel_rfl))<|all_nil,all_nil⟩⟩ (by kernel_rfl) (by kernel_rfl) (by kernel_rfl) (by kernel_rfl) hF
variable {b4 o4 b5 o5:Nat}
theorem ack {p2 q2:Int} (hP:P.2.1=3) (hQ:Q.2.1=3) (ha0:decide (p0< -2147483648)=false) (hb0:decide (2147483648<p0)=false) (ha1:decide (p1< -2147483648)=false) (hb1:decide (2147483648<p1)=false) (ha2:decide (p2< -2147483648)=false) (hb2:decide (2147483648<p2)=false) (ha3:decide (q0< -2147483648)=false) (hb3:decide (2147483648<q0)=false) (ha4:decide (q1< -2147483648)=false) (hb4:decide (2147483648<q1)=false) (ha5:decide (q2< -2147483648)=false) (hb5:decide (2147483648<q2)=false) (hd0:decide (0≤d)=true) (hd1:decide (d≤20)=true) (hd2:decide (d<0)=false) (hi0:decide (i<0)=false) (hi1:decide (bg.wrap (1*2^(min d.toNat 64))≤i)=false) (hw0:fu w0 ex P (0) 1 b0 o0 [num (p0)]) (hw1:fu w0 ex P (1) 1 b1 o1 [num (p1)]) (hw2:fu w0 ex P (2) 1 b2 o2 [num (p2)]) (hw3:fu w0 ex Q (0) 1 b3 o3 [num (q0)]) (hw4:fu w0 ex Q (1) 1 b4 o4 [num (q1)]) (hw5:fu w0 ex Q (2) 1 b5 o5 [num (q2)]) (hF:iV (w0,ex) w) :
  Calls aa 39 #[dJ P,dJ Q,num (d),num (i)] w (fun r w'=>Below w.heap.size w w'∧∃gl,w.heap.size≤gl∧gl<w'.heap.size∧r=.returned (kC true gl 3 3)∧w'.heap[gl]?=some (.cells ⟨[num (pM p0 q0 d i),num (pK p0 q0 d i),num (pM p1 q1 d i),num (pK p1 q1 d i),num (pM p2 q2 d i),num (pK p2 q2 d i)]⟩ 64 (0,0))):=by
 refine qM (t:=true) (n:=3) (c:=3) (e:=64) (vs:=[num (pM p0 q0 d i),num (pK p0 q0 d i),num (pM p1 q1 d i),num (pK p1 q1 d i),num (pM p2 q2 d i),num (pK p2 q2 d i)]) (Z:=(w0,ex)) (l:=[d,i]++[p0,p1,p2,q0,q1,q2]) (bs:=[]) (sl:=[P,Q]) (ws:=[(b0,o0,[num (p0)]),(b1,o1,[num (p1)]),(b2,o2,[num (p2)]),(b3,o3,[num (q0)]),(b4,o4,[num (q1)]),(b5,o5,[num (q2)])]) (g:=[(mB 20 [var 2,.int .i64 (-2147483648)],.bool false),(mB 22 [var 2,.int .i64 2147483648],.bool false),(mB 20 [var 3,.int .i64 (-2147483648)],.bool false),(mB 22 [var 3,.int .i64 2147483648],.bool false),(mB 20 [var 4,.int .i64 (-2147483648)],.bool false),(mB 22 [var 4,.int .i64 2147483648],.bool false),(mB 20 [var 5,.int .i64 (-2147483648)],.bool false),(mB 22 [var 5,.int .i64 2147483648],.bool false),(mB 20 [var 6,.int .i64 (-2147483648)],.bool false),(mB 22 [var 6,.int .i64 2147483648],.bool false),(mB 20 [var 7,.int .i64 (-2147483648)],.bool false),(mB 22 [var 7,.int .i64 2147483648],.bool false),(mB 21 [.int .i64 0,var 0],.bool true),(mB 21 [var 0,.int .i64 20],.bool true),(mB 20 [var 0,.int .i64 0],.bool false),(mB 20 [var 1,.int .i64 0],.bool false),(mB 23 [var 1,mI 10 [.int .i64 1,var 0]],.bool false)]) (wt:=[(0,.int .i64 0,1,0),(0,.int .i64 1,1,1),(0,.int .i64 2,1,2),(1,.int .i64 0,1,3),(1,.int .i64 1,1,4),(1,.int .i64 2,1,5)]) (lt:=[(0,.int .i64 3),(1,.int .i64 3)]) (wb:=[dU [var 2],dU [var 3],dU [var 4],dU [var 5],dU [var 6],dU [var 7]]) (QT:=[]) (NT:=[]) (xs:=[dM 0,dM 1,var 0,var 1]) ⟨fq (b:=(decide (p0< -2147483648))) (by kernel_rfl) ha0 (fq (b:=(decide (2147483648<p0))) (by kernel_rfl) hb0 (fq (b:=(decide (p1< -2147483648))) (by kernel_rfl) ha1 (fq (b:=(decide (2147483648<p1))) (by kernel_rfl) hb1 (fq (b:=(decide (p2< -2147483648))) (by kernel_rfl) ha2 (fq (b:=(decide (2147483648<p2))) (by kernel_rfl) hb2 (fq (b:=(decide (q0< -2147483648))) (by kernel_rfl) ha3 (fq (b:=(decide (2147483648<q0))) (by kernel_rfl) hb3 (fq (b:=(decide (q1< -2147483648))) (by kernel_rfl) ha4 (fq (b:=(decide (2147483648<q1))) (by kernel_rfl) hb4 (fq (b:=(decide (q2< -2147483648))) (by kernel_rfl) ha5 (fq (b:=(decide (2147483648<q2))) (by kernel_rfl) hb5 (fq (b:=(decide (0≤d))) (by kernel_rfl) hd0 (fq (b:=(decide (d≤20))) (by kernel_rfl) hd1 (fq (b:=(decide (d<0))) (by kernel_rfl) hd2 (fq (b:=(decide (i<0))) (by kernel_rfl) hi0 (fq (b:=(decide (bg.wrap (1*2^(min d.toNat 64))≤i))) (by kernel_rfl) hi1 (ed _))))))))))))))))),all_nil,all_nil,dR hw0.wf<|dR hw1.wf<|dR hw2.wf<|dR hw3.wf<|dR hw4.wf<|dR hw5.wf<|all_nil,fun m hm hl=>⟨dR (gI (Z:=(w0,ex)) hw0 rfl rfl hm (hl 0 _ rfl))<|dR (gI (Z:=(w0,ex)) hw1 rfl rfl hm (hl 1 _ rfl))<|dR (gI (Z:=(w0,ex)) hw2 rfl rfl hm (hl 2 _ rfl))<|dR (gI (Z:=(w0,ex)) hw3 rfl rfl hm (hl 3 _ rfl))<|dR (gI (Z:=(w0,ex)) hw4 rfl rfl hm (hl 4 _ rfl))<|dR (gI (Z:=(w0,ex)) hw5 rfl rfl hm (hl 5 _ rfl))<|all_nil,dR (jf hm hP (by kernel_rfl) (by kernel_rfl))<|dR (jf hm hQ (by kernel_rfl) (by kernel_rfl))<|all_nil,all_nil⟩⟩ (by kernel_rfl) (by kernel_rfl) (by kernel_rfl) (by kernel_rfl) hF
variable {s:ByteArray} {pa lo hi we sp ac tq x y:Int}
theorem Yz {o0 o1 o2:Int}  (hF:iV (w0,ex) w) :
  Calls aa 117 #[.agg ⟨[.string s,num (0),num (pa),num (o0),num (o1),num (o2),num (lo),num (hi),num (we),num (sp),num (ac),num (tq)]⟩,.agg ⟨[num (x),num (y)]⟩] w (fun e w'=>e=.returned (.agg ⟨gT (kE (kY (pg 62 [o0,o1,o2]).l) (fun i=>FN (183+i) []))⟩)∧Below w.heap.size w w'):=by
 refine uQ (Z:=(w0,ex)) (l:=[pa,o0,o1,o2,lo,hi,we,sp,ac,tq,x,y]) (bs:=[]) (sl:=[]) (ws:=[]) (g:=[]) (wt:=[]) (lt:=[]) (wb:=[]) (QT:=[]) (NT:=[]) (xs:=[.agg ⟨(.string s::.int .i64 (0)::vs 0 10)⟩,.agg ⟨[var 10,var 11]⟩]) ⟨ed _,all_nil,all_nil,all_nil,fun m hm hl=>⟨all_nil,all_nil,all_nil⟩⟩ (by kernel_rfl) (by kernel_rfl) (by kernel_rfl) (by kernel_rfl) hF
variable {T:iF}
theorem YA {o0 o1 o2:Int}  (hqt:∀z_∈([⟨146,[.int .i64 0,.agg ⟨[var 10,var 11]⟩],.val (.agg ⟨(vs 12 24)⟩)⟩]:List Qt),jB aa (gP (w0,ex) ([pa,o0,o1,o2,lo,hi,we,sp,ac,tq,x,y]++pl T) ([]) [] []) z_) (hF:iV (w0,ex) w) :
  Calls aa 117 #[.agg ⟨[.string s,num (1),num (pa),num (o0),num (o1),num (o2),num (lo),num (hi),num (we),num (sp),num (ac),num (tq)]⟩,.agg ⟨[num (x),num (y)]⟩] w (fun e w'=>e=.returned (.agg ⟨gT (kE (kY (pg 62 [o0,o1,o2]).l) T)⟩)∧Below w.heap.size w w'):=by
 refine uQ (Z:=(w0,ex)) (g:=[]) (wt:=[]) (lt:=[]) (wb:=[]) (NT:=[]) (xs:=[.agg ⟨(.string s::.int .i64 (1)::vs 0 10)⟩,.agg ⟨[var 10,var 11]⟩]) ⟨ed _,hqt,all_nil,all_nil,fun m hm hl=>⟨all_nil,all_nil,all_nil⟩⟩ (by kernel_rfl) (by kernel_rfl) (by kernel_rfl) (by kernel_rfl) hF
theorem YB {o0 o1 o2:Int}  (hqt:∀z_∈([⟨146,[.int .i64 1,.agg ⟨[var 10,var 11]⟩],.val (.agg ⟨(vs 12 24)⟩)⟩]:List Qt),jB aa (gP (w0,ex) ([pa,o0,o1,o2,lo,hi,we,sp,ac,tq,x,y]++pl T) ([]) [] []) z_) (hF:iV (w0,ex) w) :
  Calls aa 117 #[.agg ⟨[.string s,num (2),num (pa),num (o0),num (o1),num (o2),num (lo),num (hi),num (we),num (sp),num (ac),num (tq)]⟩,.agg ⟨[num (x),num (y)]⟩] w (fun e w'=>e=.returned (.agg ⟨gT (kE (kY (pg 62 [o0,o1,o2]).l) T)⟩)∧Below w.heap.size w w'):=by
 refine uQ (Z:=(w0,ex)) (g:=[]) (wt:=[]) (lt:=[]) (wb:=[]) (NT:=[]) (xs:=[.agg ⟨(.string s::.int .i64 (2)::vs 0 10)⟩,.agg ⟨[var 10,var 11]⟩]) ⟨ed _,hqt,all_nil,all_nil,fun m hm hl=>⟨all_nil,all_nil,all_nil⟩⟩ (by kernel_rfl) (by kernel_rfl) (by kernel_rfl) (by kernel_rfl) hF
theorem YC {o0 o1 o2:Int}  (hqt:∀z_∈([⟨146,[.int .i64 2,.agg ⟨[var 10,var 11]⟩],.val (.agg ⟨(vs 12 24)⟩)⟩]:List Qt),jB aa (gP (w0,ex) ([pa,o0,o1,o2,lo,hi,we,sp,ac,tq,x,y]++pl T) ([]) [] []) z_) (hF:iV (w0,ex) w) :
  Calls aa 117 #[.agg ⟨[.string s,num (3),num (pa),num (o0),num (o1),num (o2),num (lo),num (hi),num (we),num (sp),num (ac),num (tq)]⟩,.agg ⟨[num (x),num (y)]⟩] w (fun e w'=>e=.returned (.agg ⟨gT (kE (kY (pg 62 [o0,o1,o2]).l) T)⟩)∧Below w.heap.size w w'):=by
 refine uQ (Z:=(w0,ex)) (g:=[]) (wt:=[]) (lt:=[]) (wb:=[]) (NT:=[]) (xs:=[.agg ⟨(.string s::.int .i64 (3)::vs 0 10)⟩,.agg ⟨[var 10,var 11]⟩]) ⟨ed _,hqt,all_nil,all_nil,fun m hm hl=>⟨all_nil,all_nil,all_nil⟩⟩ (by kernel_rfl) (by kernel_rfl) (by kernel_rfl) (by kernel_rfl) hF
theorem YD {o0 o1 o2:Int}  (hF:iV (w0,ex) w) :
  Calls aa 117 #[.agg ⟨[.string s,num (4),num (pa),num (o0),num (o1),num (o2),num (lo),num (hi),num (we),num (sp),num (ac),num (tq)]⟩,.agg ⟨[num (x),num (y)]⟩] w (fun e w'=>e=.returned (.agg ⟨gT (kE (kY (pg 62 [o0,o1,o2]).l) (kY [x,y,0,0,0,0]))⟩)∧Below w.heap.size w w'):=by
 refine uQ (Z:=(w0,ex)) (l:=[pa,o0,o1,o2,lo,hi,we,sp,ac,tq,x,y]) (bs:=[]) (sl:=[]) (ws:=[]) (g:=[]) (wt:=[]) (lt:=[]) (wb:=[]) (QT:=[]) (NT:=[]) (xs:=[.agg ⟨(.string s::.int .i64 (4)::vs 0 10)⟩,.agg ⟨[var 10,var 11]⟩]) ⟨ed _,all_nil,all_nil,all_nil,fun m hm hl=>⟨all_nil,all_nil,all_nil⟩⟩ (by kernel_rfl) (by kernel_rfl) (by kernel_rfl) (by kernel_rfl) hF
theorem YE {o0 o1 o2:Int}  (hF:iV (w0,ex) w) :
  Calls aa 117 #[.agg ⟨[.string s,num (5),num (pa),num (o0),num (o1),num (o2),num (lo),num (hi),num (we),num (sp),num (ac),num (tq)]⟩,.agg ⟨[num (x),num (y)]⟩] w (fun e w'=>e=.returned (.agg ⟨gT (kE (kY (pg 62 [o0,o1,o2]).l) (kY [0,0,x,y,0,0]))⟩)∧Below w.heap.size w w'):=by
 refine uQ (Z:=(w0,ex)) (l:=[pa,o0,o1,o2,lo,hi,we,sp,ac,tq,x,y]) (bs:=[]) (sl:=[]) (ws:=[]) (g:=[]) (wt:=[]) (lt:=[]) (wb:=[]) (QT:=[]) (NT:=[]) (xs:=[.agg ⟨(.string s::.int .i64 (5)::vs 0 10)⟩,.agg ⟨[var 10,var 11]⟩]) ⟨ed _,all_nil,all_nil,all_nil,fun m hm hl=>⟨all_nil,all_nil,all_nil⟩⟩ (by kernel_rfl) (by kernel_rfl) (by kernel_rfl) (by kernel_rfl) hF
theorem YF {o0 o1 o2:Int}  (hF:iV (w0,ex) w) :
  Calls aa 117 #[.agg ⟨[.string s,num (6),num (pa),num (o0),num (o1),num (o2),num (lo),num (hi),num (we),num (sp),num (ac),num (tq)]⟩,.agg ⟨[num (x),num (y)]⟩] w (fun e w'=>e=.returned (.agg ⟨gT (kE (kY (pg 62 [o0,o1,o2]).l) (kY [0,0,0,0,x,y]))⟩)∧Below w.heap.size w w'):=by
 refine uQ (Z:=(w0,ex)) (l:=[pa,o0,o1,o2,lo,hi,we,sp,ac,tq,x,y]) (bs:=[]) (sl:=[]) (ws:=[]) (g:=[]) (wt:=[]) (lt:=[]) (wb:=[]) (QT:=[]) (NT:=[]) (xs:=[.agg ⟨(.string s::.int .i64 (6)::vs 0 10)⟩,.agg ⟨[var 10,var 11]⟩]) ⟨ed _,all_nil,all_nil,all_nil,fun m hm hl=>⟨all_nil,all_nil,all_nil⟩⟩ (by kernel_rfl) (by kernel_rfl) (by kernel_rfl) (by kernel_rfl) hF
variable {B0 B1 X:dY} {gx gy gz:Int} {j0:JV} {x0:Int×Int}
theorem adE (hB:B0.2.1=1) (hX:X.2.1=1) (hl0:decide (gx< -16777216)=false) (hu0:decide (16777216<gx)=false) (hl1:decide (gy< -16777216)=false) (hu1:decide (16777216<gy)=false) (hl2:decide (gz< -16777216)=false) (hu2:decide (16777216<gz)=false) (hw_0:ou x0.1 x0.2 j0.lo j0.hi=true) (hw0:fu w0 ex B0 (0) 12 b0 o0 (fZ j0 (j0.parent))) (hw1:fu w0 ex X (0) 2 b1 o1 [num (x0.1),num (x0.2)]) (hqt:∀z_∈([⟨86,[.agg ⟨[dM 0,dM 1]⟩],.val (.int .i64 0)⟩]:List Qt),jB aa (gP (w0,ex) ([gx,gy,gz]++fE j0++[x0.1,x0.2]) ([]) [B0,B1,X] [(b0,o0,(fZ j0 (j0.parent))),(b1,o1,[num (x0.1),num (x0.2)])]) z_) (hF:iV (w0,ex) w) :
  Calls aa 40 #[.agg ⟨[dJ B0,dJ B1]⟩,.agg ⟨[num (gx),num (gy),num (gz)]⟩,dJ X] w (fun e w'=>e=.returned (.bool true)∧Below w.heap.size w w'):=by
 refine uQ (Z:=(w0,ex)) (g:=[(mB 20 [var 0,.int .i64 (-16777216)],.bool false),(mB 22 [var 0,.int .i64 16777216],.bool false),(mB 20 [var 1,.int .i64 (-16777216)],.bool false),(mB 22 [var 1,.int .i64 16777216],.bool false),(mB 20 [var 2,.int .i64 (-16777216)],.bool false),(mB 22 [var 2,.int .i64 16777216],.bool false),(mB 1020 [var 14,var 15,var 8,var 9],.bool true)]) (wt:=[(0,.int .i64 0,12,0),(2,.int .i64 0,2,1)]) (lt:=[(0,.int .i64 1),(2,.int .i64 1)]) (wb:=[dU (.string j0.name::vs 3 11),dU [var 14,var 15]]) (NT:=[]) (xs:=[.agg ⟨[dM 0,dM 1]⟩,.agg ⟨(vs 0 3)⟩,dM 2]) ⟨fq (b:=(decide (gx< -16777216))) (by kernel_rfl) hl0 (fq (b:=(decide (16777216<gx))) (by kernel_rfl) hu0 (fq (b:=(decide (gy< -16777216))) (by kernel_rfl) hl1 (fq (b:=(decide (16777216<gy))) (by kernel_rfl) hu1 (fq (b:=(decide (gz< -16777216))) (by kernel_rfl) hl2 (fq (b:=(decide (16777216<gz))) (by kernel_rfl) hu2 (fq (b:=(ou x0.1 x0.2 j0.lo j0.hi)) (by kernel_rfl) hw_0 (ed _))))))),hqt,all_nil,dR hw0.wf<|dR hw1.wf<|all_nil,fun m hm hl=>⟨dR (gI (Z:=(w0,ex)) hw0 rfl rfl hm (hl 0 _ rfl))<|dR (gI (Z:=(w0,ex)) hw1 rfl rfl hm (hl 1 _ rfl))<|all_nil,dR (jf hm hB (by kernel_rfl) (by kernel_rfl))<|dR (jf hm hX (by kernel_rfl) (by kernel_rfl))<|all_nil,all_nil⟩⟩ (by kernel_rfl) (by kernel_rfl) (by kernel_rfl) (by kernel_rfl) hF
variable {J0:iF}
theorem Zb (hB:B0.2.1=1) (hX:X.2.1=1) (hv0:fC x0.1 x0.2=true) (hw0:fu w0 ex B0 (0) 12 b0 o0 (fZ j0 (-1))) (hw1:fu w0 ex X (0) 2 b1 o1 [num (x0.1),num (x0.2)]) (hqt:∀z_∈([⟨86,[.agg ⟨[dM 0,dM 1]⟩],.val (.int .i64 0)⟩]:List Qt),jB aa (gP (w0,ex) (fE j0++[x0.1,x0.2]++pl J0) ([]) [B0,B1,X] [(b0,o0,(fZ j0 (-1))),(b1,o1,[num (x0.1),num (x0.2)])]) z_) (hnt:∀z_∈([⟨117,(var 0::.int .i64 (-1)::vs 2 9),[.agg ⟨[var 11,var 12]⟩],.agg ⟨(vs 13 24)⟩⟩]:List Nt),sG aa (gP (w0,ex) (fE j0++[x0.1,x0.2]++pl J0) ([]) [B0,B1,X] [(b0,o0,(fZ j0 (-1))),(b1,o1,[num (x0.1),num (x0.2)])]) z_) (hF:iV (w0,ex) w) :
  Calls aa 68 #[.agg ⟨[dJ B0,dJ B1]⟩,dJ X] w (fun r w'=>Below w.heap.size w w'∧∃gl,w.heap.size≤gl∧gl<w'.heap.size∧r=.returned (kC false gl 1 1)∧w'.heap[gl]?=some (.cells ⟨([J0].flatMap gT)⟩ 135 (0,0))):=by
 refine qM (t:=false) (n:=1) (c:=1) (e:=135) (vs:=([J0].flatMap gT)) (Z:=(w0,ex)) (g:=[(mB 1003 [var 11,var 12],.bool true)]) (wt:=[(0,.int .i64 0,12,0),(2,.int .i64 0,2,1)]) (lt:=[(0,.int .i64 1),(2,.int .i64 1)]) (wb:=[dU (.string j0.name::var 0::.int .i64 (-1)::vs 2 9),dU [var 11,var 12]]) (xs:=[.agg ⟨[dM 0,dM 1]⟩,dM 2]) ⟨fq (b:=(fC x0.1 x0.2)) (by kernel_rfl) hv0 (ed _),hqt,hnt,dR hw0.wf<|dR hw1.wf<|all_nil,fun m hm hl=>⟨dR (gI (Z:=(w0,ex)) hw0 rfl rfl hm (hl 0 _ rfl))<|dR (gI (Z:=(w0,ex)) hw1 rfl rfl hm (hl 1 _ rfl))<|all_nil,dR (jf hm hB (by kernel_rfl) (by kernel_rfl))<|dR (jf hm hX (by kernel_rfl) (by kernel_rfl))<|all_nil,all_nil⟩⟩ (by kernel_rfl) (by kernel_rfl) (by kernel_rfl) (by kernel_rfl) hF
variable {j1:JV} {x1:Int×Int}
theorem adF (hB:B0.2.1=2) (hX:X.2.1=2) (hl0:decide (gx< -16777216)=false) (hu0:decide (16777216<gx)=false) (hl1:decide (gy< -16777216)=false) (hu1:decide (16777216<gy)=false) (hl2:decide (gz< -16777216)=false) (hu2:decide (16777216<gz)=false) (hw_0:ou x0.1 x0.2 j0.lo j0.hi=true) (hw_1:ou x1.1 x1.2 j1.lo j1.hi=true) (hw0:fu w0 ex B0 (0) 12 b0 o0 (fZ j0 (j0.parent))) (hw1:fu w0 ex B0 (1) 12 b1 o1 (fZ j1 (j1.parent))) (hw2:fu w0 ex X (0) 2 b2 o2 [num (x0.1),num (x0.2)]) (hw3:fu w0 ex X (1) 2 b3 o3 [num (x1.1),num (x1.2)]) (hqt:∀z_∈([⟨86,[.agg ⟨[dM 0,dM 1]⟩],.val (.int .i64 0)⟩]:List Qt),jB aa (gP (w0,ex) ([gx,gy,gz]++fE j0++[x0.1,x0.2]++fE j1++[x1.1,x1.2]) ([]) [B0,B1,X] [(b0,o0,(fZ j0 (j0.parent))),(b1,o1,(fZ j1 (j1.parent))),(b2,o2,[num (x0.1),num (x0.2)]),(b3,o3,[num (x1.1),num (x1.2)])]) z_) (hF:iV (w0,ex) w) :
  Calls aa 40 #[.agg ⟨[dJ B0,dJ B1]⟩,.agg ⟨[num (gx),num (gy),num (gz)]⟩,dJ X] w (fun e w'=>e=.returned (.bool true)∧Below w.heap.size w w'):=by
 refine uQ (Z:=(w0,ex)) (g:=[(mB 20 [var 0,.int .i64 (-16777216)],.bool false),(mB 22 [var 0,.int .i64 16777216],.bool false),(mB 20 [var 1,.int .i64 (-16777216)],.bool false),(mB 22 [var 1,.int .i64 16777216],.bool false),(mB 20 [var 2,.int .i64 (-16777216)],.bool false),(mB 22 [var 2,.int .i64 16777216],.bool false),(mB 1020 [var 14,var 15,var 8,var 9],.bool true),(mB 1020 [var 27,var 28,var 21,var 22],.bool true)]) (wt:=[(0,.int .i64 0,12,0),(0,.int .i64 1,12,1),(2,.int .i64 0,2,2),(2,.int .i64 1,2,3)]) (lt:=[(0,.int .i64 2),(2,.int .i64 2)]) (wb:=[dU (.string j0.name::vs 3 11),dU (.string j1.name::vs 16 11),dU [var 14,var 15],dU [var 27,var 28]]) (NT:=[]) (xs:=[.agg ⟨[dM 0,dM 1]⟩,.agg ⟨(vs 0 3)⟩,dM 2]) ⟨fq (b:=(decide (gx< -16777216))) (by kernel_rfl) hl0 (fq (b:=(decide (16777216<gx))) (by kernel_rfl) hu0 (fq (b:=(decide (gy< -16777216))) (by kernel_rfl) hl1 (fq (b:=(decide (16777216<gy))) (by kernel_rfl) hu1 (fq (b:=(decide (gz< -16777216))) (by kernel_rfl) hl2 (fq (b:=(decide (16777216<gz))) (by kernel_rfl) hu2 (fq (b:=(ou x0.1 x0.2 j0.lo j0.hi)) (by kernel_rfl) hw_0 (fq (b:=(ou x1.1 x1.2 j1.lo j1.hi)) (by kernel_rfl) hw_1 (ed _)))))))),hqt,all_nil,dR hw0.wf<|dR hw1.wf<|dR hw2.wf<|dR hw3.wf<|all_nil,fun m hm hl=>⟨dR (gI (Z:=(w0,ex)) hw0 rfl rfl hm (hl 0 _ rfl))<|dR (gI (Z:=(w0,ex)) hw1 rfl rfl hm (hl 1 _ rfl))<|dR (gI (Z:=(w0,ex)) hw2 rfl rfl hm (hl 2 _ rfl))<|dR (gI (Z:=(w0,ex)) hw3 rfl rfl hm (hl 3 _ rfl))<|all_nil,dR (jf hm hB (by kernel_rfl) (by kernel_rfl))<|dR (jf hm hX (by kernel_rfl) (by kernel_rfl))<|all_nil,all_nil⟩⟩ (by kernel_rfl) (by kernel_rfl) (by kernel_rfl) (by kernel_rfl) hF
variable {J1:iF}
theorem Zc (hB:B0.2.1=2) (hX:X.2.1=2) (hv0:fC x0.1 x0.2=true) (hv1:fC x1.1 x1.2=true) (hw0:fu w0 ex B0 (0) 12 b0 o0 (fZ j0 (-1))) (hw1:fu w0 ex B0 (1) 12 b1 o1 (fZ j1 (-1))) (hw2:fu w0 ex X (0) 2 b2 o2 [num (x0.1),num (x0.2)]) (hw3:fu w0 ex X (1) 2 b3 o3 [num (x1.1),num (x1.2)]) (hqt:∀z_∈([⟨86,[.agg ⟨[dM 0,dM 1]⟩],.val (.int .i64 0)⟩]:List Qt),jB aa (gP (w0,ex) (fE j0++[x0.1,x0.2]++pl J0++fE j1++[x1.1,x1.2]++pl J1) ([]) [B0,B1,X] [(b0,o0,(fZ j0 (-1))),(b1,o1,(fZ j1 (-1))),(b2,o2,[num (x0.1),num (x0.2)]),(b3,o3,[num (x1.1),num (x1.2)])]) z_) (hnt:∀z_∈([⟨117,(var 0::.int .i64 (-1)::vs 2 9),[.agg ⟨[var 11,var 12]⟩],.agg ⟨(vs 13 24)⟩⟩,⟨117,(var 37::.int .i64 (-1)::vs 39 9),[.agg ⟨[var 48,var 49]⟩],.agg ⟨(vs 50 24)⟩⟩]:List Nt),sG aa (gP (w0,ex) (fE j0++[x0.1,x0.2]++pl J0++fE j1++[x1.1,x1.2]++pl J1) ([]) [B0,B1,X] [(b0,o0,(fZ j0 (-1))),(b1,o1,(fZ j1 (-1))),(b2,o2,[num (x0.1),num (x0.2)]),(b3,o3,[num (x1.1),num (x1.2)])]) z_) (hF:iV (w0,ex) w) :
  Calls aa 68 #[.agg ⟨[dJ B0,dJ B1]⟩,dJ X] w (fun r w'=>Below w.heap.size w w'∧∃gl,w.heap.size≤gl∧gl<w'.heap.size∧r=.returned (kC false gl 2 2)∧w'.heap[gl]?=some (.cells ⟨([J0,J1].flatMap gT)⟩ 135 (0,0))):=by
 refine qM (t:=false) (n:=2) (c:=2) (e:=135) (vs:=([J0,J1].flatMap gT)) (Z:=(w0,ex)) (g:=[(mB 1003 [var 11,var 12],.bool true),(mB 1003 [var 48,var 49],.bool true)]) (wt:=[(0,.int .i64 0,12,0),(0,.int .i64 1,12,1),(2,.int .i64 0,2,2),(2,.int .i64 1,2,3)]) (lt:=[(0,.int .i64 2),(2,.int .i64 2)]) (wb:=[dU (.string j0.name::var 0::.int .i64 (-1)::vs 2 9),dU (.string j1.name::var 37::.int .i64 (-1)::vs 39 9),dU [var 11,var 12],dU [var 48,var 49]]) (xs:=[.agg ⟨[dM 0,dM 1]⟩,dM 2]) ⟨fq (b:=(fC x0.1 x0.2)) (by kernel_rfl) hv0 (fq (b:=(fC x1.1 x1.2)) (by kernel_rfl) hv1 (ed _)),hqt,hnt,dR hw0.wf<|dR hw1.wf<|dR hw2.wf<|dR hw3.wf<|all_nil,fun m hm hl=>⟨dR (gI (Z:=(w0,ex)) hw0 rfl rfl hm (hl 0 _ rfl))<|dR (gI (Z:=(w0,ex)) hw1 rfl rfl hm (hl 1 _ rfl))<|dR (gI (Z:=(w0,ex)) hw2 rfl rfl hm (hl 2 _ rfl))<|dR (gI (Z:=(w0,ex)) hw3 rfl rfl hm (hl 3 _ rfl))<|all_nil,dR (jf hm hB (by kernel_rfl) (by kernel_rfl))<|dR (jf hm hX (by kernel_rfl) (by kernel_rfl))<|all_nil,all_nil⟩⟩ (by kernel_rfl) (by kernel_rfl) (by kernel_rfl) (by kernel_rfl) hF
variable {C1:iF}
theorem Zg (hB:B0.2.1=2) (hX:X.2.1=2) (hv0:fC x0.1 x0.2=true) (hv1:fC x1.1 x1.2=true) (hw0:fu w0 ex B0 (0) 12 b0 o0 (fZ j0 (-1))) (hw1:fu w0 ex B0 (1) 12 b1 o1 (fZ j1 (0))) (hw2:fu w0 ex X (0) 2 b2 o2 [num (x0.1),num (x0.2)]) (hw3:fu w0 ex X (1) 2 b3 o3 [num (x1.1),num (x1.2)]) (hqt:∀z_∈([⟨86,[.agg ⟨[dM 0,dM 1]⟩],.val (.int .i64 0)⟩,⟨118,[.agg ⟨(vs 13 24)⟩,.agg ⟨(vs 50 24)⟩],.val (.agg ⟨(vs 74 24)⟩)⟩]:List Qt),jB aa (gP (w0,ex) (fE j0++[x0.1,x0.2]++pl J0++fE j1++[x1.1,x1.2]++pl J1++pl C1) ([]) [B0,B1,X] [(b0,o0,(fZ j0 (-1))),(b1,o1,(fZ j1 (0))),(b2,o2,[num (x0.1),num (x0.2)]),(b3,o3,[num (x1.1),num (x1.2)])]) z_) (hnt:∀z_∈([⟨117,(var 0::.int .i64 (-1)::vs 2 9),[.agg ⟨[var 11,var 12]⟩],.agg ⟨(vs 13 24)⟩⟩,⟨117,(var 37::.int .i64 (0)::vs 39 9),[.agg ⟨[var 48,var 49]⟩],.agg ⟨(vs 50 24)⟩⟩]:List Nt),sG aa (gP (w0,ex) (fE j0++[x0.1,x0.2]++pl J0++fE j1++[x1.1,x1.2]++pl J1++pl C1) ([]) [B0,B1,X] [(b0,o0,(fZ j0 (-1))),(b1,o1,(fZ j1 (0))),(b2,o2,[num (x0.1),num (x0.2)]),(b3,o3,[num (x1.1),num (x1.2)])]) z_) (hF:iV (w0,ex) w) :
  Calls aa 68 #[.agg ⟨[dJ B0,dJ B1]⟩,dJ X] w (fun r w'=>Below w.heap.size w w'∧∃gl,w.heap.size≤gl∧gl<w'.heap.size∧r=.returned (kC false gl 2 2)∧w'.heap[gl]?=some (.cells ⟨([J0,C1].flatMap gT)⟩ 135 (0,0))):=by
 refine qM (t:=false) (n:=2) (c:=2) (e:=135) (vs:=([J0,C1].flatMap gT)) (Z:=(w0,ex)) (g:=[(mB 1003 [var 11,var 12],.bool true),(mB 1003 [var 48,var 49],.bool true)]) (wt:=[(0,.int .i64 0,12,0),(0,.int .i64 1,12,1),(2,.int .i64 0,2,2),(2,.int .i64 1,2,3)]) (lt:=[(0,.int .i64 2),(2,.int .i64 2)]) (wb:=[dU (.string j0.name::var 0::.int .i64 (-1)::vs 2 9),dU (.string j1.name::var 37::.int .i64 (0)::vs 39 9),dU [var 11,var 12],dU [var 48,var 49]]) (xs:=[.agg ⟨[dM 0,dM 1]⟩,dM 2]) ⟨fq (b:=(fC x0.1 x0.2)) (by kernel_rfl) hv0 (fq (b:=(fC x1.1 x1.2)) (by kernel_rfl) hv1 (ed _)),hqt,hnt,dR hw0.wf<|dR hw1.wf<|dR hw2.wf<|dR hw3.wf<|all_nil,fun m hm hl=>⟨dR (gI (Z:=(w0,ex)) hw0 rfl rfl hm (hl 0 _ rfl))<|dR (gI (Z:=(w0,ex)) hw1 rfl rfl hm (hl 1 _ rfl))<|dR (gI (Z:=(w0,ex)) hw2 rfl rfl hm (hl 2 _ rfl))<|dR (gI (Z:=(w0,ex)) hw3 rfl rfl hm (hl 3 _ rfl))<|all_nil,dR (jf hm hB (by kernel_rfl) (by kernel_rfl))<|dR (jf hm hX (by kernel_rfl) (by kernel_rfl))<|all_nil,all_nil⟩⟩ (by kernel_rfl) (by kernel_rfl) (by kernel_rfl) (by kernel_rfl) hF
variable {j2:JV} {x2:Int×Int}
theorem adG (hB:B0.2.1=3) (hX:X.2.1=3) (hl0:decide (gx< -16777216)=false) (hu0:decide (16777216<gx)=false) (hl1:decide (gy< -16777216)=false) (hu1:decide (16777216<gy)=false) (hl2:decide (gz< -16777216)=false) (hu2:decide (16777216<gz)=false) (hw_0:ou x0.1 x0.2 j0.lo j0.hi=true) (hw_1:ou x1.1 x1.2 j1.lo j1.hi=true) (hw_2:ou x2.1 x2.2 j2.lo j2.hi=true) (hw0:fu w0 ex B0 (0) 12 b0 o0 (fZ j0 (j0.parent))) (hw1:fu w0 ex B0 (1) 12 b1 o1 (fZ j1 (j1.parent))) (hw2:fu w0 ex B0 (2) 12 b2 o2 (fZ j2 (j2.parent))) (hw3:fu w0 ex X (0) 2 b3 o3 [num (x0.1),num (x0.2)]) (hw4:fu w0 ex X (1) 2 b4 o4 [num (x1.1),num (x1.2)]) (hw5:fu w0 ex X (2) 2 b5 o5 [num (x2.1),num (x2.2)]) (hqt:∀z_∈([⟨86,[.agg ⟨[dM 0,dM 1]⟩],.val (.int .i64 0)⟩]:List Qt),jB aa (gP (w0,ex) ([gx,gy,gz]++fE j0++[x0.1,x0.2]++fE j1++[x1.1,x1.2]++fE j2++[x2.1,x2.2]) ([]) [B0,B1,X] [(b0,o0,(fZ j0 (j0.parent))),(b1,o1,(fZ j1 (j1.parent))),(b2,o2,(fZ j2 (j2.parent))),(b3,o3,[num (x0.1),num (x0.2)]),(b4,o4,[num (x1.1),num (x1.2)]),(b5,o5,[num (x2.1),num (x2.2)])]) z_) (hF:iV (w0,ex) w) :
  Calls aa 40 #[.agg ⟨[dJ B0,dJ B1]⟩,.agg ⟨[num (gx),num (gy),num (gz)]⟩,dJ X] w (fun e w'=>e=.returned (.bool true)∧Below w.heap.size w w'):=by
 refine uQ (Z:=(w0,ex)) (g:=[(mB 20 [var 0,.int .i64 (-16777216)],.bool false),(mB 22 [var 0,.int .i64 16777216],.bool false),(mB 20 [var 1,.int .i64 (-16777216)],.bool false),(mB 22 [var 1,.int .i64 16777216],.bool false),(mB 20 [var 2,.int .i64 (-16777216)],.bool false),(mB 22 [var 2,.int .i64 16777216],.bool false),(mB 1020 [var 14,var 15,var 8,var 9],.bool true),(mB 1020 [var 27,var 28,var 21,var 22],.bool true),(mB 1020 [var 40,var 41,var 34,var 35],.bool true)]) (wt:=[(0,.int .i64 0,12,0),(0,.int .i64 1,12,1),(0,.int .i64 2,12,2),(2,.int .i64 0,2,3),(2,.int .i64 1,2,4),(2,.int .i64 2,2,5)]) (lt:=[(0,.int .i64 3),(2,.int .i64 3)]) (wb:=[dU (.string j0.name::vs 3 11),dU (.string j1.name::vs 16 11),dU (.string j2.name::vs 29 11),dU [var 14,var 15],dU [var 27,var 28],dU [var 40,var 41]]) (NT:=[]) (xs:=[.agg ⟨[dM 0,dM 1]⟩,.agg ⟨(vs 0 3)⟩,dM 2]) ⟨fq (b:=(decide (gx< -16777216))) (by kernel_rfl) hl0 (fq (b:=(decide (16777216<gx))) (by kernel_rfl) hu0 (fq (b:=(decide (gy< -16777216))) (by kernel_rfl) hl1 (fq (b:=(decide (16777216<gy))) (by kernel_rfl) hu1 (fq (b:=(decide (gz< -16777216))) (by kernel_rfl) hl2 (fq (b:=(decide (16777216<gz))) (by kernel_rfl) hu2 (fq (b:=(ou x0.1 x0.2 j0.lo j0.hi)) (by kernel_rfl) hw_0 (fq (b:=(ou x1.1 x1.2 j1.lo j1.hi)) (by kernel_rfl) hw_1 (fq (b:=(ou x2.1 x2.2 j2.lo j2.hi)) (by kernel_rfl) hw_2 (ed _))))))))),hqt,all_nil,dR hw0.wf<|dR hw1.wf<|dR hw2.wf<|dR hw3.wf<|dR hw4.wf<|dR hw5.wf<|all_nil,fun m hm hl=>⟨dR (gI (Z:=(w0,ex)) hw0 rfl rfl hm (hl 0 _ rfl))<|dR (gI (Z:=(w0,ex)) hw1 rfl rfl hm (hl 1 _ rfl))<|dR (gI (Z:=(w0,ex)) hw2 rfl rfl hm (hl 2 _ rfl))<|dR (gI (Z:=(w0,ex)) hw3 rfl rfl hm (hl 3 _ rfl))<|dR (gI (Z:=(w0,ex)) hw4 rfl rfl hm (hl 4 _ rfl))<|dR (gI (Z:=(w0,ex)) hw5 rfl rfl hm (hl 5 _ rfl))<|all_nil,dR (jf hm hB (by kernel_rfl) (by kernel_rfl))<|dR (jf hm hX (by kernel_rfl) (by kernel_rfl))<|all_nil,all_nil⟩⟩ (by kernel_rfl) (by kernel_rfl) (by kernel_rfl) (by kernel_rfl) hF
variable {J2:iF}
theorem Zd (hB:B0.2.1=3) (hX:X.2.1=3) (hv0:fC x0.1 x0.2=true) (hv1:fC x1.1 x1.2=true) (hv2:fC x2.1 x2.2=true) (hw0:fu w0 ex B0 (0) 12 b0 o0 (fZ j0 (-1))) (hw1:fu w0 ex B0 (1) 12 b1 o1 (fZ j1 (-1))) (hw2:fu w0 ex B0 (2) 12 b2 o2 (fZ j2 (-1))) (hw3:fu w0 ex X (0) 2 b3 o3 [num (x0.1),num (x0.2)]) (hw4:fu w0 ex X (1) 2 b4 o4 [num (x1.1),num (x1.2)]) (hw5:fu w0 ex X (2) 2 b5 o5 [num (x2.1),num (x2.2)]) (hqt:∀z_∈([⟨86,[.agg ⟨[dM 0,dM 1]⟩],.val (.int .i64 0)⟩]:List Qt),jB aa (gP (w0,ex) (fE j0++[x0.1,x0.2]++pl J0++fE j1++[x1.1,x1.2]++pl J1++fE j2++[x2.1,x2.2]++pl J2) ([]) [B0,B1,X] [(b0,o0,(fZ j0 (-1))),(b1,o1,(fZ j1 (-1))),(b2,o2,(fZ j2 (-1))),(b3,o3,[num (x0.1),num (x0.2)]),(b4,o4,[num (x1.1),num (x1.2)]),(b5,o5,[num (x2.1),num (x2.2)])]) z_) (hnt:∀z_∈([⟨117,(var 0::.int .i64 (-1)::vs 2 9),[.agg ⟨[var 11,var 12]⟩],.agg ⟨(vs 13 24)⟩⟩,⟨117,(var 37::.int .i64 (-1)::vs 39 9),[.agg ⟨[var 48,var 49]⟩],.agg ⟨(vs 50 24)⟩⟩,⟨117,(var 74::.int .i64 (-1)::vs 76 9),[.agg ⟨[var 85,var 86]⟩],.agg ⟨(vs 87 24)⟩⟩]:List Nt),sG aa (gP (w0,ex) (fE j0++[x0.1,x0.2]++pl J0++fE j1++[x1.1,x1.2]++pl J1++fE j2++[x2.1,x2.2]++pl J2) ([]) [B0,B1,X] [(b0,o0,(fZ j0 (-1))),(b1,o1,(fZ j1 (-1))),(b2,o2,(fZ j2 (-1))),(b3,o3,[num (x0.1),num (x0.2)]),(b4,o4,[num (x1.1),num (x1.2)]),(b5,o5,[num (x2.1),num (x2.2)])]) z_) (hF:iV (w0,ex) w) :
  Calls aa 68 #[.agg ⟨[dJ B0,dJ B1]⟩,dJ X] w (fun r w'=>Below w.heap.size w w'∧∃gl,w.heap.size≤gl∧gl<w'.heap.size∧r=.returned (kC false gl 3 3)∧w'.heap[gl]?=some (.cells ⟨([J0,J1,J2].flatMap gT)⟩ 135 (0,0))):=by
 refine qM (t:=false) (n:=3) (c:=3) (e:=135) (vs:=([J0,J1,J2].flatMap gT)) (Z:=(w0,ex)) (g:=[(mB 1003 [var 11,var 12],.bool true),(mB 1003 [var 48,var 49],.bool true),(mB 1003 [var 85,var 86],.bool true)]) (wt:=[(0,.int .i64 0,12,0),(0,.int .i64 1,12,1),(0,.int .i64 2,12,2),(2,.int .i64 0,2,3),(2,.int .i64 1,2,4),(2,.int .i64 2,2,5)]) (lt:=[(0,.int .i64 3),(2,.int .i64 3)]) (wb:=[dU (.string j0.name::var 0::.int .i64 (-1)::vs 2 9),dU (.string j1.name::var 37::.int .i64 (-1)::vs 39 9),dU (.string j2.name::var 74::.int .i64 (-1)::vs 76 9),dU [var 11,var 12],dU [var 48,var 49],dU [var 85,var 86]]) (xs:=[.agg ⟨[dM 0,dM 1]⟩,dM 2]) ⟨fq (b:=(fC x0.1 x0.2)) (by kernel_rfl) hv0 (fq (b:=(fC x1.1 x1.2)) (by kernel_rfl) hv1 (fq (b:=(fC x2.1 x2.2)) (by kernel_rfl) hv2 (ed _))),hqt,hnt,dR hw0.wf<|dR hw1.wf<|dR hw2.wf<|dR hw3.wf<|dR hw4.wf<|dR hw5.wf<|all_nil,fun m hm hl=>⟨dR (gI (Z:=(w0,ex)) hw0 rfl rfl hm (hl 0 _ rfl))<|dR (gI (Z:=(w0,ex)) hw1 rfl rfl hm (hl 1 _ rfl))<|dR (gI (Z:=(w0,ex)) hw2 rfl rfl hm (hl 2 _ rfl))<|dR (gI (Z:=(w0,ex)) hw3 rfl rfl hm (hl 3 _ rfl))<|dR (gI (Z:=(w0,ex)) hw4 rfl rfl hm (hl 4 _ rfl))<|dR (gI (Z:=(w0,ex)) hw5 rfl rfl hm (hl 5 _ rfl))<|all_nil,dR (jf hm hB (by kernel_rfl) (by kernel_rfl))<|dR (jf hm hX (by kernel_rfl) (by kernel_rfl))<|all_nil,all_nil⟩⟩ (by kernel_rfl) (by kernel_rfl) (by kernel_rfl) (by kernel_rfl) hF
variable {C2:iF}
theorem Ze (hB:B0.2.1=3) (hX:X.2.1=3) (hv0:fC x0.1 x0.2=true) (hv1:fC x1.1 x1.2=true) (hv2:fC x2.1 x2.2=true) (hw0:fu w0 ex B0 (0) 12 b0 o0 (fZ j0 (-1))) (hw1:fu w0 ex B0 (1) 12 b1 o1 (fZ j1 (-1))) (hw2:fu w0 ex B0 (2) 12 b2 o2 (fZ j2 (0))) (hw3:fu w0 ex X (0) 2 b3 o3 [num (x0.1),num (x0.2)]) (hw4:fu w0 ex X (1) 2 b4 o4 [num (x1.1),num (x1.2)]) (hw5:fu w0 ex X (2) 2 b5 o5 [num (x2.1),num (x2.2)]) (hqt:∀z_∈([⟨86,[.agg ⟨[dM 0,dM 1]⟩],.val (.int .i64 0)⟩,⟨118,[.agg ⟨(vs 13 24)⟩,.agg ⟨(vs 87 24)⟩],.val (.agg ⟨(vs 111 24)⟩)⟩]:List Qt),jB aa (gP (w0,ex) (fE j0++[x0.1,x0.2]++pl J0++fE j1++[x1.1,x1.2]++pl J1++fE j2++[x2.1,x2.2]++pl J2++pl C2) ([]) [B0,B1,X] [(b0,o0,(fZ j0 (-1))),(b1,o1,(fZ j1 (-1))),(b2,o2,(fZ j2 (0))),(b3,o3,[num (x0.1),num (x0.2)]),(b4,o4,[num (x1.1),num (x1.2)]),(b5,o5,[num (x2.1),num (x2.2)])]) z_) (hnt:∀z_∈([⟨117,(var 0::.int .i64 (-1)::vs 2 9),[.agg ⟨[var 11,var 12]⟩],.agg ⟨(vs 13 24)⟩⟩,⟨117,(var 37::.int .i64 (-1)::vs 39 9),[.agg ⟨[var 48,var 49]⟩],.agg ⟨(vs 50 24)⟩⟩,⟨117,(var 74::.int .i64 (0)::vs 76 9),[.agg ⟨[var 85,var 86]⟩],.agg ⟨(vs 87 24)⟩⟩]:List Nt),sG aa (gP (w0,ex) (fE j0++[x0.1,x0.2]++pl J0++fE j1++[x1.1,x1.2]++pl J1++fE j2++[x2.1,x2.2]++pl J2++pl C2) ([]) [B0,B1,X] [(b0,o0,(fZ j0 (-1))),(b1,o1,(fZ j1 (-1))),(b2,o2,(fZ j2 (0))),(b3,o3,[num (x0.1),num (x0.2)]),(b4,o4,[num (x1.1),num (x1.2)]),(b5,o5,[num (x2.1),num (x2.2)])]) z_) (hF:iV (w0,ex) w) :
  Calls aa 68 #[.agg ⟨[dJ B0,dJ B1]⟩,dJ X] w (fun r w'=>Below w.heap.size w w'∧∃gl,w.heap.size≤gl∧gl<w'.heap.size∧r=.returned (kC false gl 3 3)∧w'.heap[gl]?=some (.cells ⟨([J0,J1,C2].flatMap gT)⟩ 135 (0,0))):=by
 refine qM (t:=false) (n:=3) (c:=3) (e:=135) (vs:=([J0,J1,C2].flatMap gT)) (Z:=(w0,ex)) (g:=[(mB 1003 [var 11,var 12],.bool true),(mB 1003 [var 48,var 49],.bool true),(mB 1003 [var 85,var 86],.bool true)]) (wt:=[(0,.int .i64 0,12,0),(0,.int .i64 1,12,1),(0,.int .i64 2,12,2),(2,.int .i64 0,2,3),(2,.int .i64 1,2,4),(2,.int .i64 2,2,5)]) (lt:=[(0,.int .i64 3),(2,.int .i64 3)]) (wb:=[dU (.string j0.name::var 0::.int .i64 (-1)::vs 2 9),dU (.string j1.name::var 37::.int .i64 (-1)::vs 39 9),dU (.string j2.name::var 74::.int .i64 (0)::vs 76 9),dU [var 11,var 12],dU [var 48,var 49],dU [var 85,var 86]]) (xs:=[.agg ⟨[dM 0,dM 1]⟩,dM 2]) ⟨fq (b:=(fC x0.1 x0.2)) (by kernel_rfl) hv0 (fq (b:=(fC x1.1 x1.2)) (by kernel_rfl) hv1 (fq (b:=(fC x2.1 x2.2)) (by kernel_rfl) hv2 (ed _))),hqt,hnt,dR hw0.wf<|dR hw1.wf<|dR hw2.wf<|dR hw3.wf<|dR hw4.wf<|dR hw5.wf<|all_nil,fun m hm hl=>⟨dR (gI (Z:=(w0,ex)) hw0 rfl rfl hm (hl 0 _ rfl))<|dR (gI (Z:=(w0,ex)) hw1 rfl rfl hm (hl 1 _ rfl))<|dR (gI (Z:=(w0,ex)) hw2 rfl rfl hm (hl 2 _ rfl))<|dR (gI (Z:=(w0,ex)) hw3 rfl rfl hm (hl 3 _ rfl))<|dR (gI (Z:=(w0,ex)) hw4 rfl rfl hm (hl 4 _ rfl))<|dR (gI (Z:=(w0,ex)) hw5 rfl rfl hm (hl 5 _ rfl))<|all_nil,dR (jf hm hB (by kernel_rfl) (by kernel_rfl))<|dR (jf hm hX (by kernel_rfl) (by kernel_rfl))<|all_nil,all_nil⟩⟩ (by kernel_rfl) (by kernel_rfl) (by kernel_rfl) (by kernel_rfl) hF
theorem Zf (hB:B0.2.1=3) (hX:X.2.1=3) (hv0:fC x0.1 x0.2=true) (hv1:fC x1.1 x1.2=true) (hv2:fC x2.1 x2.2=true) (hw0:fu w0 ex B0 (0) 12 b0 o0 (fZ j0 (-1))) (hw1:fu w0 ex B0 (1) 12 b1 o1 (fZ j1 (-1))) (hw2:fu w0 ex B0 (2) 12 b2 o2 (fZ j2 (1))) (hw3:fu w0 ex X (0) 2 b3 o3 [num (x0.1),num (x0.2)]) (hw4:fu w0 ex X (1) 2 b4 o4 [num (x1.1),num (x1.2)]) (hw5:fu w0 ex X (2) 2 b5 o5 [num (x2.1),num (x2.2)]) (hqt:∀z_∈([⟨86,[.agg ⟨[dM 0,dM 1]⟩],.val (.int .i64 0)⟩,⟨118,[.agg ⟨(vs 50 24)⟩,.agg ⟨(vs 87 24)⟩],.val (.agg ⟨(vs 111 24)⟩)⟩]:List Qt),jB aa (gP (w0,ex) (fE j0++[x0.1,x0.2]++pl J0++fE j1++[x1.1,x1.2]++pl J1++fE j2++[x2.1,x2.2]++pl J2++pl C2) ([]) [B0,B1,X] [(b0,o0,(fZ j0 (-1))),(b1,o1,(fZ j1 (-1))),(b2,o2,(fZ j2 (1))),(b3,o3,[num (x0.1),num (x0.2)]),(b4,o4,[num (x1.1),num (x1.2)]),(b5,o5,[num (x2.1),num (x2.2)])]) z_) (hnt:∀z_∈([⟨117,(var 0::.int .i64 (-1)::vs 2 9),[.agg ⟨[var 11,var 12]⟩],.agg ⟨(vs 13 24)⟩⟩,⟨117,(var 37::.int .i64 (-1)::vs 39 9),[.agg ⟨[var 48,var 49]⟩],.agg ⟨(vs 50 24)⟩⟩,⟨117,(var 74::.int .i64 (1)::vs 76 9),[.agg ⟨[var 85,var 86]⟩],.agg ⟨(vs 87 24)⟩⟩]:List Nt),sG aa (gP (w0,ex) (fE j0++[x0.1,x0.2]++pl J0++fE j1++[x1.1,x1.2]++pl J1++fE j2++[x2.1,x2.2]++pl J2++pl C2) ([]) [B0,B1,X] [(b0,o0,(fZ j0 (-1))),(b1,o1,(fZ j1 (-1))),(b2,o2,(fZ j2 (1))),(b3,o3,[num (x0.1),num (x0.2)]),(b4,o4,[num (x1.1),num (x1.2)]),(b5,o5,[num (x2.1),num (x2.2)])]) z_) (hF:iV (w0,ex) w) :
  Calls aa 68 #[.agg ⟨[dJ B0,dJ B1]⟩,dJ X] w (fun r w'=>Below w.heap.size w w'∧∃gl,w.heap.size≤gl∧gl<w'.heap.size∧r=.returned (kC false gl 3 3)∧w'.heap[gl]?=some (.cells ⟨([J0,J1,C2].flatMap gT)⟩ 135 (0,0))):=by
 refine qM (t:=false) (n:=3) (c:=3) (e:=135) (vs:=([J0,J1,C2].flatMap gT)) (Z:=(w0,ex)) (g:=[(mB 1003 [var 11,var 12],.bool true),(mB 1003 [var 48,var 49],.bool true),(mB 1003 [var 85,var 86],.bool true)]) (wt:=[(0,.int .i64 0,12,0),(0,.int .i64 1,12,1),(0,.int .i64 2,12,2),(2,.int .i64 0,2,3),(2,.int .i64 1,2,4),(2,.int .i64 2,2,5)]) (lt:=[(0,.int .i64 3),(2,.int .i64 3)]) (wb:=[dU (.string j0.name::var 0::.int .i64 (-1)::vs 2 9),dU (.string j1.name::var 37::.int .i64 (-1)::vs 39 9),dU (.string j2.name::var 74::.int .i64 (1)::vs 76 9),dU [var 11,var 12],dU [var 48,var 49],dU [var 85,var 86]]) (xs:=[.agg ⟨[dM 0,dM 1]⟩,dM 2]) ⟨fq (b:=(fC x0.1 x0.2)) (by kernel_rfl) hv0 (fq (b:=(fC x1.1 x1.2)) (by kernel_rfl) hv1 (fq (b:=(fC x2.1 x2.2)) (by kernel_rfl) hv2 (ed _))),hqt,hnt,dR hw0.wf<|dR hw1.wf<|dR hw2.wf<|dR hw3.wf<|dR hw4.wf<|dR hw5.wf<|all_nil,fun m hm hl=>⟨dR (gI (Z:=(w0,ex)) hw0 rfl rfl hm (hl 0 _ rfl))<|dR (gI (Z:=(w0,ex)) hw1 rfl rfl hm (hl 1 _ rfl))<|dR (gI (Z:=(w0,ex)) hw2 rfl rfl hm (hl 2 _ rfl))<|dR (gI (Z:=(w0,ex)) hw3 rfl rfl hm (hl 3 _ rfl))<|dR (gI (Z:=(w0,ex)) hw4 rfl rfl hm (hl 4 _ rfl))<|dR (gI (Z:=(w0,ex)) hw5 rfl rfl hm (hl 5 _ rfl))<|all_nil,dR (jf hm hB (by kernel_rfl) (by kernel_rfl))<|dR (jf hm hX (by kernel_rfl) (by kernel_rfl))<|all_nil,all_nil⟩⟩ (by kernel_rfl) (by kernel_rfl) (by kernel_rfl) (by kernel_rfl) hF
theorem Zh (hB:B0.2.1=3) (hX:X.2.1=3) (hv0:fC x0.1 x0.2=true) (hv1:fC x1.1 x1.2=true) (hv2:fC x2.1 x2.2=true) (hw0:fu w0 ex B0 (0) 12 b0 o0 (fZ j0 (-1))) (hw1:fu w0 ex B0 (1) 12 b1 o1 (fZ j1 (0))) (hw2:fu w0 ex B0 (2) 12 b2 o2 (fZ j2 (-1))) (hw3:fu w0 ex X (0) 2 b3 o3 [num (x0.1),num (x0.2)]) (hw4:fu w0 ex X (1) 2 b4 o4 [num (x1.1),num (x1.2)]) (hw5:fu w0 ex X (2) 2 b5 o5 [num (x2.1),num (x2.2)]) (hqt:∀z_∈([⟨86,[.agg ⟨[dM 0,dM 1]⟩],.val (.int .i64 0)⟩,⟨118,[.agg ⟨(vs 13 24)⟩,.agg ⟨(vs 50 24)⟩],.val (.agg ⟨(vs 111 24)⟩)⟩]:List Qt),jB aa (gP (w0,ex) (fE j0++[x0.1,x0.2]++pl J0++fE j1++[x1.1,x1.2]++pl J1++fE j2++[x2.1,x2.2]++pl J2++pl C1) ([]) [B0,B1,X] [(b0,o0,(fZ j0 (-1))),(b1,o1,(fZ j1 (0))),(b2,o2,(fZ j2 (-1))),(b3,o3,[num (x0.1),num (x0.2)]),(b4,o4,[num (x1.1),num (x1.2)]),(b5,o5,[num (x2.1),num (x2.2)])]) z_) (hnt:∀z_∈([⟨117,(var 0::.int .i64 (-1)::vs 2 9),[.agg ⟨[var 11,var 12]⟩],.agg ⟨(vs 13 24)⟩⟩,⟨117,(var 37::.int .i64 (0)::vs 39 9),[.agg ⟨[var 48,var 49]⟩],.agg ⟨(vs 50 24)⟩⟩,⟨117,(var 74::.int .i64 (-1)::vs 76 9),[.agg ⟨[var 85,var 86]⟩],.agg ⟨(vs 87 24)⟩⟩]:List Nt),sG aa (gP (w0,ex) (fE j0++[x0.1,x0.2]++pl J0++fE j1++[x1.1,x1.2]++pl J1++fE j2++[x2.1,x2.2]++pl J2++pl C1) ([]) [B0,B1,X] [(b0,o0,(fZ j0 (-1))),(b1,o1,(fZ j1 (0))),(b2,o2,(fZ j2 (-1))),(b3,o3,[num (x0.1),num (x0.2)]),(b4,o4,[num (x1.1),num (x1.2)]),(b5,o5,[num (x2.1),num (x2.2)])]) z_) (hF:iV (w0,ex) w) :
  Calls aa 68 #[.agg ⟨[dJ B0,dJ B1]⟩,dJ X] w (fun r w'=>Below w.heap.size w w'∧∃gl,w.heap.size≤gl∧gl<w'.heap.size∧r=.returned (kC false gl 3 3)∧w'.heap[gl]?=some (.cells ⟨([J0,C1,J2].flatMap gT)⟩ 135 (0,0))):=by
 refine qM (t:=false) (n:=3) (c:=3) (e:=135) (vs:=([J0,C1,J2].flatMap gT)) (Z:=(w0,ex)) (g:=[(mB 1003 [var 11,var 12],.bool true),(mB 1003 [var 48,var 49],.bool true),(mB 1003 [var 85,var 86],.bool true)]) (wt:=[(0,.int .i64 0,12,0),(0,.int .i64 1,12,1),(0,.int .i64 2,12,2),(2,.int .i64 0,2,3),(2,.int .i64 1,2,4),(2,.int .i64 2,2,5)]) (lt:=[(0,.int .i64 3),(2,.int .i64 3)]) (wb:=[dU (.string j0.name::var 0::.int .i64 (-1)::vs 2 9),dU (.string j1.name::var 37::.int .i64 (0)::vs 39 9),dU (.string j2.name::var 74::.int .i64 (-1)::vs 76 9),dU [var 11,var 12],dU [var 48,var 49],dU [var 85,var 86]]) (xs:=[.agg ⟨[dM 0,dM 1]⟩,dM 2]) ⟨fq (b:=(fC x0.1 x0.2)) (by kernel_rfl) hv0 (fq (b:=(fC x1.1 x1.2)) (by kernel_rfl) hv1 (fq (b:=(fC x2.1 x2.2)) (by kernel_rfl) hv2 (ed _))),hqt,hnt,dR hw0.wf<|dR hw1.wf<|dR hw2.wf<|dR hw3.wf<|dR hw4.wf<|dR hw5.wf<|all_nil,fun m hm hl=>⟨dR (gI (Z:=(w0,ex)) hw0 rfl rfl hm (hl 0 _ rfl))<|dR (gI (Z:=(w0,ex)) hw1 rfl rfl hm (hl 1 _ rfl))<|dR (gI (Z:=(w0,ex)) hw2 rfl rfl hm (hl 2 _ rfl))<|dR (gI (Z:=(w0,ex)) hw3 rfl rfl hm (hl 3 _ rfl))<|dR (gI (Z:=(w0,ex)) hw4 rfl rfl hm (hl 4 _ rfl))<|dR (gI (Z:=(w0,ex)) hw5 rfl rfl hm (hl 5 _ rfl))<|all_nil,dR (jf hm hB (by kernel_rfl) (by kernel_rfl))<|dR (jf hm hX (by kernel_rfl) (by kernel_rfl))<|all_nil,all_nil⟩⟩ (by kernel_rfl) (by kernel_rfl) (by kernel_rfl) (by kernel_rfl) hF
theorem Zi (hB:B0.2.1=3) (hX:X.2.1=3) (hv0:fC x0.1 x0.2=true) (hv1:fC x1.1 x1.2=true) (hv2:fC x2.1 x2.2=true) (hw0:fu w0 ex B0 (0) 12 b0 o0 (fZ j0 (-1))) (hw1:fu w0 ex B0 (1) 12 b1 o1 (fZ j1 (0))) (hw2:fu w0 ex B0 (2) 12 b2 o2 (fZ j2 (0))) (hw3:fu w0 ex X (0) 2 b3 o3 [num (x0.1),num (x0.2)]) (hw4:fu w0 ex X (1) 2 b4 o4 [num (x1.1),num (x1.2)]) (hw5:fu w0 ex X (2) 2 b5 o5 [num (x2.1),num (x2.2)]) (hqt:∀z_∈([⟨86,[.agg ⟨[dM 0,dM 1]⟩],.val (.int .i64 0)⟩,⟨118,[.agg ⟨(vs 13 24)⟩,.agg ⟨(vs 50 24)⟩],.val (.agg ⟨(vs 111 24)⟩)⟩,⟨118,[.agg ⟨(vs 13 24)⟩,.agg ⟨(vs 87 24)⟩],.val (.agg ⟨(vs 135 24)⟩)⟩]:List Qt),jB aa (gP (w0,ex) (fE j0++[x0.1,x0.2]++pl J0++fE j1++[x1.1,x1.2]++pl J1++fE j2++[x2.1,x2.2]++pl J2++pl C1++pl C2) ([]) [B0,B1,X] [(b0,o0,(fZ j0 (-1))),(b1,o1,(fZ j1 (0))),(b2,o2,(fZ j2 (0))),(b3,o3,[num (x0.1),num (x0.2)]),(b4,o4,[num (x1.1),num (x1.2)]),(b5,o5,[num (x2.1),num (x2.2)])]) z_) (hnt:∀z_∈([⟨117,(var 0::.int .i64 (-1)::vs 2 9),[.agg ⟨[var 11,var 12]⟩],.agg ⟨(vs 13 24)⟩⟩,⟨117,(var 37::.int .i64 (0)::vs 39 9),[.agg ⟨[var 48,var 49]⟩],.agg ⟨(vs 50 24)⟩⟩,⟨117,(var 74::.int .i64 (0)::vs 76 9),[.agg ⟨[var 85,var 86]⟩],.agg ⟨(vs 87 24)⟩⟩]:List Nt),sG aa (gP (w0,ex) (fE j0++[x0.1,x0.2]++pl J0++fE j1++[x1.1,x1.2]++pl J1++fE j2++[x2.1,x2.2]++pl J2++pl C1++pl C2) ([]) [B0,B1,X] [(b0,o0,(fZ j0 (-1))),(b1,o1,(fZ j1 (0))),(b2,o2,(fZ j2 (0))),(b3,o3,[num (x0.1),num (x0.2)]),(b4,o4,[num (x1.1),num (x1.2)]),(b5,o5,[num (x2.1),num (x2.2)])]) z_) (hF:iV (w0,ex) w) :
  Calls aa 68 #[.agg ⟨[dJ B0,dJ B1]⟩,dJ X] w (fun r w'=>Below w.heap.size w w'∧∃gl,w.heap.size≤gl∧gl<w'.heap.size∧r=.returned (kC false gl 3 3)∧w'.heap[gl]?=some (.cells ⟨([J0,C1,C2].flatMap gT)⟩ 135 (0,0))):=by
 refine qM (t:=false) (n:=3) (c:=3) (e:=135) (vs:=([J0,C1,C2].flatMap gT)) (Z:=(w0,ex)) (g:=[(mB 1003 [var 11,var 12],.bool true),(mB 1003 [var 48,var 49],.bool true),(mB 1003 [var 85,var 86],.bool true)]) (wt:=[(0,.int .i64 0,12,0),(0,.int .i64 1,12,1),(0,.int .i64 2,12,2),(2,.int .i64 0,2,3),(2,.int .i64 1,2,4),(2,.int .i64 2,2,5)]) (lt:=[(0,.int .i64 3),(2,.int .i64 3)]) (wb:=[dU (.string j0.name::var 0::.int .i64 (-1)::vs 2 9),dU (.string j1.name::var 37::.int .i64 (0)::vs 39 9),dU (.string j2.name::var 74::.int .i64 (0)::vs 76 9),dU [var 11,var 12],dU [var 48,var 49],dU [var 85,var 86]]) (xs:=[.agg ⟨[dM 0,dM 1]⟩,dM 2]) ⟨fq (b:=(fC x0.1 x0.2)) (by kernel_rfl) hv0 (fq (b:=(fC x1.1 x1.2)) (by kernel_rfl) hv1 (fq (b:=(fC x2.1 x2.2)) (by kernel_rfl) hv2 (ed _))),hqt,hnt,dR hw0.wf<|dR hw1.wf<|dR hw2.wf<|dR hw3.wf<|dR hw4.wf<|dR hw5.wf<|all_nil,fun m hm hl=>⟨dR (gI (Z:=(w0,ex)) hw0 rfl rfl hm (hl 0 _ rfl))<|dR (gI (Z:=(w0,ex)) hw1 rfl rfl hm (hl 1 _ rfl))<|dR (gI (Z:=(w0,ex)) hw2 rfl rfl hm (hl 2 _ rfl))<|dR (gI (Z:=(w0,ex)) hw3 rfl rfl hm (hl 3 _ rfl))<|dR (gI (Z:=(w0,ex)) hw4 rfl rfl hm (hl 4 _ rfl))<|dR (gI (Z:=(w0,ex)) hw5 rfl rfl hm (hl 5 _ rfl))<|all_nil,dR (jf hm hB (by kernel_rfl) (by kernel_rfl))<|dR (jf hm hX (by kernel_rfl) (by kernel_rfl))<|all_nil,all_nil⟩⟩ (by kernel_rfl) (by kernel_rfl) (by kernel_rfl) (by kernel_rfl) hF
theorem Zj (hB:B0.2.1=3) (hX:X.2.1=3) (hv0:fC x0.1 x0.2=true) (hv1:fC x1.1 x1.2=true) (hv2:fC x2.1 x2.2=true) (hw0:fu w0 ex B0 (0) 12 b0 o0 (fZ j0 (-1))) (hw1:fu w0 ex B0 (1) 12 b1 o1 (fZ j1 (0))) (hw2:fu w0 ex B0 (2) 12 b2 o2 (fZ j2 (1))) (hw3:fu w0 ex X (0) 2 b3 o3 [num (x0.1),num (x0.2)]) (hw4:fu w0 ex X (1) 2 b4 o4 [num (x1.1),num (x1.2)]) (hw5:fu w0 ex X (2) 2 b5 o5 [num (x2.1),num (x2.2)]) (hqt:∀z_∈([⟨86,[.agg ⟨[dM 0,dM 1]⟩],.val (.int .i64 0)⟩,⟨118,[.agg ⟨(vs 13 24)⟩,.agg ⟨(vs 50 24)⟩],.val (.agg ⟨(vs 111 24)⟩)⟩,⟨118,[.agg ⟨(vs 111 24)⟩,.agg ⟨(vs 87 24)⟩],.val (.agg ⟨(vs 135 24)⟩)⟩]:List Qt),jB aa (gP (w0,ex) (fE j0++[x0.1,x0.2]++pl J0++fE j1++[x1.1,x1.2]++pl J1++fE j2++[x2.1,x2.2]++pl J2++pl C1++pl C2) ([]) [B0,B1,X] [(b0,o0,(fZ j0 (-1))),(b1,o1,(fZ j1 (0))),(b2,o2,(fZ j2 (1))),(b3,o3,[num (x0.1),num (x0.2)]),(b4,o4,[num (x1.1),num (x1.2)]),(b5,o5,[num (x2.1),num (x2.2)])]) z_) (hnt:∀z_∈([⟨117,(var 0::.int .i64 (-1)::vs 2 9),[.agg ⟨[var 11,var 12]⟩],.agg ⟨(vs 13 24)⟩⟩,⟨117,(var 37::.int .i64 (0)::vs 39 9),[.agg ⟨[var 48,var 49]⟩],.agg ⟨(vs 50 24)⟩⟩,⟨117,(var 74::.int .i64 (1)::vs 76 9),[.agg ⟨[var 85,var 86]⟩],.agg ⟨(vs 87 24)⟩⟩]:List Nt),sG aa (gP (w0,ex) (fE j0++[x0.1,x0.2]++pl J0++fE j1++[x1.1,x1.2]++pl J1++fE j2++[x2.1,x2.2]++pl J2++pl C1++pl C2) ([]) [B0,B1,X] [(b0,o0,(fZ j0 (-1))),(b1,o1,(fZ j1 (0))),(b2,o2,(fZ j2 (1))),(b3,o3,[num (x0.1),num (x0.2)]),(b4,o4,[num (x1.1),num (x1.2)]),(b5,o5,[num (x2.1),num (x2.2)])]) z_) (hF:iV (w0,ex) w) :
  Calls aa 68 #[.agg ⟨[dJ B0,dJ B1]⟩,dJ X] w (fun r w'=>Below w.heap.size w w'∧∃gl,w.heap.size≤gl∧gl<w'.heap.size∧r=.returned (kC false gl 3 3)∧w'.heap[gl]?=some (.cells ⟨([J0,C1,C2].flatMap gT)⟩ 135 (0,0))):=by
 refine qM (t:=false) (n:=3) (c:=3) (e:=135) (vs:=([J0,C1,C2].flatMap gT)) (Z:=(w0,ex)) (g:=[(mB 1003 [var 11,var 12],.bool true),(mB 1003 [var 48,var 49],.bool true),(mB 1003 [var 85,var 86],.bool true)]) (wt:=[(0,.int .i64 0,12,0),(0,.int .i64 1,12,1),(0,.int .i64 2,12,2),(2,.int .i64 0,2,3),(2,.int .i64 1,2,4),(2,.int .i64 2,2,5)]) (lt:=[(0,.int .i64 3),(2,.int .i64 3)]) (wb:=[dU (.string j0.name::var 0::.int .i64 (-1)::vs 2 9),dU (.string j1.name::var 37::.int .i64 (0)::vs 39 9),dU (.string j2.name::var 74::.int .i64 (1)::vs 76 9),dU [var 11,var 12],dU [var 48,var 49],dU [var 85,var 86]]) (xs:=[.agg ⟨[dM 0,dM 1]⟩,dM 2]) ⟨fq (b:=(fC x0.1 x0.2)) (by kernel_rfl) hv0 (fq (b:=(fC x1.1 x1.2)) (by kernel_rfl) hv1 (fq (b:=(fC x2.1 x2.2)) (by kernel_rfl) hv2 (ed _))),hqt,hnt,dR hw0.wf<|dR hw1.wf<|dR hw2.wf<|dR hw3.wf<|dR hw4.wf<|dR hw5.wf<|all_nil,fun m hm hl=>⟨dR (gI (Z:=(w0,ex)) hw0 rfl rfl hm (hl 0 _ rfl))<|dR (gI (Z:=(w0,ex)) hw1 rfl rfl hm (hl 1 _ rfl))<|dR (gI (Z:=(w0,ex)) hw2 rfl rfl hm (hl 2 _ rfl))<|dR (gI (Z:=(w0,ex)) hw3 rfl rfl hm (hl 3 _ rfl))<|dR (gI (Z:=(w0,ex)) hw4 rfl rfl hm (hl 4 _ rfl))<|dR (gI (Z:=(w0,ex)) hw5 rfl rfl hm (hl 5 _ rfl))<|all_nil,dR (jf hm hB (by kernel_rfl) (by kernel_rfl))<|dR (jf hm hX (by kernel_rfl) (by kernel_rfl))<|all_nil,all_nil⟩⟩ (by kernel_rfl) (by kernel_rfl) (by kernel_rfl) (by kernel_rfl) hF
variable {link n k0:Int}
theorem Xb (hB:(B0.2.1:Int)=n) (h0:decide (link< -1)=false) (h1:decide (n≤link)=false) (hqt:∀z_∈([⟨86,[.agg ⟨[dM 0,dM 1]⟩],.val (.int .i64 0)⟩,⟨102,[.agg ⟨[dM 0,dM 1]⟩,var 0],.row false 1 1 (dQ [var 2] 3)⟩]:List Qt),jB aa (gP (w0,ex) ([link,n,k0]) ([]) [B0,B1] []) z_) (hF:iV (w0,ex) w) :
  Calls aa 73 #[.agg ⟨[dJ B0,dJ B1]⟩,num (link)] w (fun r w'=>Below w.heap.size w w'∧∃gl,w.heap.size≤gl∧gl<w'.heap.size∧r=.returned (kC false gl 1 1)∧w'.heap[gl]?=some (.cells ⟨([k0].map num)⟩ 3 (0,0))):=by
 refine qM (t:=false) (n:=1) (c:=1) (e:=3) (vs:=([k0].map num)) (Z:=(w0,ex)) (g:=[(mB 20 [var 0,.int .i64 (-1)],.bool false),(mB 23 [var 0,var 1],.bool false)]) (wt:=[]) (lt:=[(0,var 1)]) (wb:=[]) (NT:=[]) (xs:=[.agg ⟨[dM 0,dM 1]⟩,var 0]) ⟨fq (b:=(decide (link< -1))) (by kernel_rfl) h0 (fq (b:=(decide (n≤link))) (by kernel_rfl) h1 (ed _)),hqt,all_nil,all_nil,fun m hm hl=>⟨all_nil,dR (CZ hm (show (B0.2.1:Int)=n from hB) (by kernel_rfl) (by kernel_rfl))<|all_nil,all_nil⟩⟩ (by kernel_rfl) (by kernel_rfl) (by kernel_rfl) (by kernel_rfl) hF
variable {k1:Int}
theorem Xc (hB:(B0.2.1:Int)=n) (h0:decide (link< -1)=false) (h1:decide (n≤link)=false) (hqt:∀z_∈([⟨86,[.agg ⟨[dM 0,dM 1]⟩],.val (.int .i64 0)⟩,⟨102,[.agg ⟨[dM 0,dM 1]⟩,var 0],.row false 2 2 (dQ [var 2,var 3] 3)⟩]:List Qt),jB aa (gP (w0,ex) ([link,n,k0,k1]) ([]) [B0,B1] []) z_) (hF:iV (w0,ex) w) :
  Calls aa 73 #[.agg ⟨[dJ B0,dJ B1]⟩,num (link)] w (fun r w'=>Below w.heap.size w w'∧∃gl,w.heap.size≤gl∧gl<w'.heap.size∧r=.returned (kC false gl 2 2)∧w'.heap[gl]?=some (.cells ⟨([k0,k1].map num)⟩ 3 (0,0))):=by
 refine qM (t:=false) (n:=2) (c:=2) (e:=3) (vs:=([k0,k1].map num)) (Z:=(w0,ex)) (g:=[(mB 20 [var 0,.int .i64 (-1)],.bool false),(mB 23 [var 0,var 1],.bool false)]) (wt:=[]) (lt:=[(0,var 1)]) (wb:=[]) (NT:=[]) (xs:=[.agg ⟨[dM 0,dM 1]⟩,var 0]) ⟨fq (b:=(decide (link< -1))) (by kernel_rfl) h0 (fq (b:=(decide (n≤link))) (by kernel_rfl) h1 (ed _)),hqt,all_nil,all_nil,fun m hm hl=>⟨all_nil,dR (CZ hm (show (B0.2.1:Int)=n from hB) (by kernel_rfl) (by kernel_rfl))<|all_nil,all_nil⟩⟩ (by kernel_rfl) (by kernel_rfl) (by kernel_rfl) (by kernel_rfl) hF
theorem Xd {k2:Int} (hB:(B0.2.1:Int)=n) (h0:decide (link< -1)=false) (h1:decide (n≤link)=false) (hqt:∀z_∈([⟨86,[.agg ⟨[dM 0,dM 1]⟩],.val (.int .i64 0)⟩,⟨102,[.agg ⟨[dM 0,dM 1]⟩,var 0],.row false 3 3 (dQ (vs 2 3) 3)⟩]:List Qt),jB aa (gP (w0,ex) ([link,n,k0,k1,k2]) ([]) [B0,B1] []) z_) (hF:iV (w0,ex) w) :
  Calls aa 73 #[.agg ⟨[dJ B0,dJ B1]⟩,num (link)] w (fun r w'=>Below w.heap.size w w'∧∃gl,w.heap.size≤gl∧gl<w'.heap.size∧r=.returned (kC false gl 3 3)∧w'.heap[gl]?=some (.cells ⟨([k0,k1,k2].map num)⟩ 3 (0,0))):=by
 refine qM (t:=false) (n:=3) (c:=3) (e:=3) (vs:=([k0,k1,k2].map num)) (Z:=(w0,ex)) (g:=[(mB 20 [var 0,.int .i64 (-1)],.bool false),(mB 23 [var 0,var 1],.bool false)]) (wt:=[]) (lt:=[(0,var 1)]) (wb:=[]) (NT:=[]) (xs:=[.agg ⟨[dM 0,dM 1]⟩,var 0]) ⟨fq (b:=(decide (link< -1))) (by kernel_rfl) h0 (fq (b:=(decide (n≤link))) (by kernel_rfl) h1 (ed _)),hqt,all_nil,all_nil,fun m hm hl=>⟨all_nil,dR (CZ hm (show (B0.2.1:Int)=n from hB) (by kernel_rfl) (by kernel_rfl))<|all_nil,all_nil⟩⟩ (by kernel_rfl) (by kernel_rfl) (by kernel_rfl) (by kernel_rfl) hF
end Go.Proofs
end
section
namespace Go.Proofs
open Go.Sm Go.RowKit En
variable {w0 w:World} {ex:List Nat}
theorem Ye (h:iV (w0,ex) w) {b o:Nat} {v:Value} (h1:b<w0.heap.size) (h2:b∉ex) (hc:w0.cell? ⟨b,o,none⟩=some v):w.cell? ⟨b,o,none⟩=some v:=by
 obtain ⟨cs,t,f,k1,k2⟩:=tZ hc
 have:=h b (cs,t,f) (JU h1 h2 k1)
 simp [bS,this,k2]
theorem l8 {oa:Option Addr} {n:Nat} {rows:List (List Value)} (h:Sl w0 oa n rows) (hF:iV (w0,ex) w) (hr:∀r∈rows,r≠[]) (hx:∀a,oa=some a→rows≠[]→a.block∉ex):Sl w oa n rows:=fun h0=>by
 obtain ⟨b,off,e,h1⟩:=h h0
 have hb:=hx _ e h0
 have key:∀i r,rows[i]?=some r→∀k v,r[k]?=some v→w.cell? ⟨b,off+(i*n+k),none⟩=some v:=fun i r hi k v hv=>Ye hF h1.lt hb (h1.c i r hi k v hv)
 obtain ⟨r,l,rfl⟩:∃r l,rows=r::l:=by cases rows with | nil=>exact absurd rfl h0 | cons r l=>exact ⟨r,l,rfl⟩
 obtain ⟨v,t,rfl⟩:∃v t,r=v::t:=by cases r with | nil=>exact absurd rfl (hr [] aA) | cons v t=>exact ⟨v,t,rfl⟩
 obtain ⟨cs,_,_,k1,_⟩:=tZ (key 0 _ rfl 0 v rfl)
 exact ⟨b,off,e,(aB.1 k1).1,key⟩
theorem ZN (ms:List MV):∀r∈ms.map MV.vals,r≠[]:=fun r hr e=>by
 obtain ⟨k,_,rfl⟩:=aeZ.1 hr
 cases e
structure jW (w:World) (ex:List Nat) (B0 B1:dY) (js:List JV) (mvs:List MV):Prop where
 n:1≤js.length∧js.length≤3
 m:mvs.length≤100
 b0:B0.2.1=js.length
 b1:B1.2.1=mvs.length
 sB:Sl w B0.1 12 (js.map JV.vals)
 sM:Sl w B1.1 5 (mvs.map MV.vals)
 xB:∀a,B0.1=some a→a.block∉ex∧a.block<w.heap.size
 xM:∀a,B1.1=some a→mvs≠[]→a.block∉ex∧a.block<w.heap.size
 ok:yu js mvs
 pr:∀(i:Nat) (j:JV),js[i]?=some j→-1≤j.parent∧j.parent<i
 kd:∀(i:Nat) (j:JV),js[i]?=some j→0≤j.kind∧j.kind≤6
 ms:∀(i:Nat) (mv:MV),mvs[i]?=some mv→(0≤mv.link∧mv.link<js.length)∧1≤mv.eT∧mv.eT≤1000000000
variable {B0 B1:dY} {js:List JV} {mvs:List MV}
theorem jW.fz (h:jW w0 ex B0 B1 js mvs) (hF:iV (w0,ex) w):jW w ex B0 B1 js mvs:=by
 have s1:=l8 h.sB hF (AX _) fun a ha _=>(h.xB a ha).1
 have s2:=l8 h.sM hF (ZN _) fun a ha h0=>(h.xM a ha (by simpa using h0)).1
 refine { h with sB:=s1,sM:=s2,xB:=fun a ha=>⟨(h.xB a ha).1,?_⟩,xM:=fun a ha h0=>⟨(h.xM a ha h0).1,?_⟩ }
 ·obtain ⟨b,off,e,hR⟩:=s1 (fun e=>by have:=h.n.1; rw [ag3] at e; rw [e] at this; simp at this)
  rw [ha] at e; injection e with e; subst e; exact hR.lt
 ·obtain ⟨b,off,e,hR⟩:=s2 (by simpa using h0)
  rw [ha] at e; injection e with e; subst e; exact hR.lt
theorem Xl (h:jW w ex B0 B1 js mvs):Calls aa 86 #[.agg ⟨[dJ B0,dJ B1]⟩] w fun r w'=>r=.returned (num 0)∧Below w.heap.size w w':=by
 obtain ⟨oa,n,c⟩:=B0
 obtain ⟨om,m,cm⟩:=B1
 have h1:=h.b0; have h2:=h.b1
 simp only at h1 h2
 subst h1 h2
 refine (M8 oa om c cm js mvs w (by have:=h.n; omega) (by have:=h.m; omega) h.sB h.sM).mono fun e w' hp=>?_
 obtain ⟨c,rfl,hc,hb⟩:=hp
 rw [hc.2 h.ok]
 exact ⟨rfl,hb⟩
variable {l:List Int} {bs:List Bool} {sl:List dY} {ws:List jC}
theorem qI (h:jW w0 ex B0 B1 js mvs):jB aa (gP (w0,ex) l bs (B0::B1::sl) ws) ⟨86,[.agg ⟨[dM 0,dM 1]⟩],.val (.int .i64 0)⟩:=fun w hF =>
 ⟨[.agg ⟨[dJ B0,dJ B1]⟩],by kernel_rfl,(Xl (h.fz hF)).mono fun e w' ⟨h1,h2⟩=>⟨h2,num 0,rfl,h1⟩⟩
variable {cn:List Value}
theorem afu {P J C:iF} {pn jn:List Value} (hC:C=kE P J) (h1:fP (gP (w0,ex) l bs sl ws) ⟨[],[]⟩ 5 (.agg ⟨pn⟩)=some (.agg ⟨gT P⟩)) (h2:fP (gP (w0,ex) l bs sl ws) ⟨[],[]⟩ 5 (.agg ⟨jn⟩)=some (.agg ⟨gT J⟩)) (h3:fP (gP (w0,ex) l bs sl ws) ⟨[],[]⟩ 5 (.agg ⟨cn⟩)=some (.agg ⟨gT C⟩)) :
  jB aa (gP (w0,ex) l bs sl ws) ⟨118,[.agg ⟨pn⟩,.agg ⟨jn⟩],.val (.agg ⟨cn⟩)⟩:=fun w hF=>by
 refine ⟨[.agg ⟨gT P⟩,.agg ⟨gT J⟩],by simp only [eQ,h1,h2],?_⟩
 have:=Qb (pl P++pl J) w rfl
 rw [show (vL Cu.args (pl P++pl J))=[.agg ⟨gT P⟩,.agg ⟨gT J⟩] by kernel_rfl,show kW (qZ (eO []) (pl P++pl J) Cu.j Cu.res)=.agg ⟨gT (kE P J)⟩ by kernel_rfl] at this
 rw [←hC] at this
 exact this.mono fun e w' ⟨q1,q2⟩=>⟨q2,_,h3,q1⟩
variable {xn:Value}
theorem L9 {k x y:Int} {T:iF} (hT:T=fun i=>FN (159+i) [k,x,y]) (h1:fP (gP (w0,ex) l bs sl ws) ⟨[],[]⟩ 5 xn=some (.agg ⟨[num x,num y]⟩)) (h3:fP (gP (w0,ex) l bs sl ws) ⟨[],[]⟩ 5 (.agg ⟨cn⟩)=some (.agg ⟨gT T⟩)) :
  jB aa (gP (w0,ex) l bs sl ws) ⟨146,[.int .i64 k,xn],.val (.agg ⟨cn⟩)⟩:=fun w hF=>by
 refine ⟨[num k,.agg ⟨[num x,num y]⟩],by simp only [eQ,h1]; rfl,?_⟩
 have:=Qc [k,x,y] w rfl
 rw [show (vL Cv.args [k,x,y])=[num k,.agg ⟨[num x,num y]⟩] by kernel_rfl,show kW (qZ (eO []) [k,x,y] Cv.j Cv.res)=.agg ⟨gT (fun i=>FN (159+i) [k,x,y])⟩ by kernel_rfl] at this
 rw [←hT] at this
 exact this.mono fun e w' ⟨q1,q2⟩=>⟨q2,_,h3,q1⟩
theorem kJ (w:World) (ex:List Nat):iV (w,ex) w:=fun g c hc=>(JS hc).2
theorem YI (o0 o1 o2 x y:Int):nK 1 o0 o1 o2 x y=kE (kY (pg 62 [o0,o1,o2]).l) (fun i=>FN (159+i) [0,x,y]):=by unfold nK Fe; simp only [show ((1:Int)==1)=true from rfl,cond_true]
theorem YJ (o0 o1 o2 x y:Int):nK 2 o0 o1 o2 x y=kE (kY (pg 62 [o0,o1,o2]).l) (fun i=>FN (159+i) [1,x,y]):=by unfold nK Fe; simp only [show ((2:Int)==1)=false from rfl,show ((2:Int)==2)=true from rfl,cond_true,cond_false]
theorem YK (o0 o1 o2 x y:Int):nK 3 o0 o1 o2 x y=kE (kY (pg 62 [o0,o1,o2]).l) (fun i=>FN (159+i) [2,x,y]):=by unfold nK Fe; simp only [show ((3:Int)==1)=false from rfl,show ((3:Int)==2)=false from rfl,show ((3:Int)==3)=true from rfl,cond_true,cond_false]
theorem YH (o0 o1 o2 x y:Int):nK 0 o0 o1 o2 x y=kE (kY (pg 62 [o0,o1,o2]).l) (fun i=>FN (183+i) []):=rfl
theorem YL (o0 o1 o2 x y:Int):nK 4 o0 o1 o2 x y=kE (kY (pg 62 [o0,o1,o2]).l) (kY [x,y,0,0,0,0]):=rfl
theorem YM (o0 o1 o2 x y:Int):nK 5 o0 o1 o2 x y=kE (kY (pg 62 [o0,o1,o2]).l) (kY [0,0,x,y,0,0]):=rfl
theorem YN (o0 o1 o2 x y:Int):nK 6 o0 o1 o2 x y=kE (kY (pg 62 [o0,o1,o2]).l) (kY [0,0,0,0,x,y]):=rfl
def jP (j:JV) (b:Int×Int):iF:=nK j.kind j.o0 j.o1 j.o2 b.1 b.2
theorem YP (s:ByteArray) (pa o0 o1 o2 lo hi we sp ac tq x y:Int) (w:World):Calls aa 117 #[.agg ⟨[.string s,num 0,num pa,num o0,num o1,num o2,num lo,num hi,num we,num sp,num ac,num tq]⟩,.agg ⟨[num x,num y]⟩] w fun e w'=>e=.returned (.agg ⟨gT (nK 0 o0 o1 o2 x y)⟩)∧Below w.heap.size w w':=by
 rw [YH]
 exact Yz (ex:=[]) (kJ w [])
theorem YQ (s:ByteArray) (pa o0 o1 o2 lo hi we sp ac tq x y:Int) (w:World):Calls aa 117 #[.agg ⟨[.string s,num 1,num pa,num o0,num o1,num o2,num lo,num hi,num we,num sp,num ac,num tq]⟩,.agg ⟨[num x,num y]⟩] w fun e w'=>e=.returned (.agg ⟨gT (nK 1 o0 o1 o2 x y)⟩)∧Below w.heap.size w w':=by
 rw [YI]
 obtain ⟨T,hT⟩:∃T:iF,T=fun i=>FN (159+i) [0,x,y]:=⟨_,rfl⟩
 rw [←hT]
 exact YA (ex:=[]) (T:=T) (fun z hz=>by simp only [ag,ae,or_false] at hz; subst hz; exact L9 (k:=0) (x:=x) (y:=y) hT (by kernel_rfl) (by kernel_rfl)) (kJ w [])
theorem YR (s:ByteArray) (pa o0 o1 o2 lo hi we sp ac tq x y:Int) (w:World):Calls aa 117 #[.agg ⟨[.string s,num 2,num pa,num o0,num o1,num o2,num lo,num hi,num we,num sp,num ac,num tq]⟩,.agg ⟨[num x,num y]⟩] w fun e w'=>e=.returned (.agg ⟨gT (nK 2 o0 o1 o2 x y)⟩)∧Below w.heap.size w w':=by
 rw [YJ]
 obtain ⟨T,hT⟩:∃T:iF,T=fun i=>FN (159+i) [1,x,y]:=⟨_,rfl⟩
 rw [←hT]
 exact YB (ex:=[]) (T:=T) (fun z hz=>by simp only [ag,ae,or_false] at hz; subst hz; exact L9 (k:=1) (x:=x) (y:=y) hT (by kernel_rfl) (by kernel_rfl)) (kJ w [])
theorem YS (s:ByteArray) (pa o0 o1 o2 lo hi we sp ac tq x y:Int) (w:World):Calls aa 117 #[.agg ⟨[.string s,num 3,num pa,num o0,num o1,num o2,num lo,num hi,num we,num sp,num ac,num tq]⟩,.agg ⟨[num x,num y]⟩] w fun e w'=>e=.returned (.agg ⟨gT (nK 3 o0 o1 o2 x y)⟩)∧Below w.heap.size w w':=by
 rw [YK]
 obtain ⟨T,hT⟩:∃T:iF,T=fun i=>FN (159+i) [2,x,y]:=⟨_,rfl⟩
 rw [←hT]
 exact YC (ex:=[]) (T:=T) (fun z hz=>by simp only [ag,ae,or_false] at hz; subst hz; exact L9 (k:=2) (x:=x) (y:=y) hT (by kernel_rfl) (by kernel_rfl)) (kJ w [])
theorem YT (s:ByteArray) (pa o0 o1 o2 lo hi we sp ac tq x y:Int) (w:World):Calls aa 117 #[.agg ⟨[.string s,num 4,num pa,num o0,num o1,num o2,num lo,num hi,num we,num sp,num ac,num tq]⟩,.agg ⟨[num x,num y]⟩] w fun e w'=>e=.returned (.agg ⟨gT (nK 4 o0 o1 o2 x y)⟩)∧Below w.heap.size w w':=by
 rw [YL]
 exact YD (ex:=[]) (kJ w [])
theorem YU (s:ByteArray) (pa o0 o1 o2 lo hi we sp ac tq x y:Int) (w:World):Calls aa 117 #[.agg ⟨[.string s,num 5,num pa,num o0,num o1,num o2,num lo,num hi,num we,num sp,num ac,num tq]⟩,.agg ⟨[num x,num y]⟩] w fun e w'=>e=.returned (.agg ⟨gT (nK 5 o0 o1 o2 x y)⟩)∧Below w.heap.size w w':=by
 rw [YM]
 exact YE (ex:=[]) (kJ w [])
theorem YV (s:ByteArray) (pa o0 o1 o2 lo hi we sp ac tq x y:Int) (w:World):Calls aa 117 #[.agg ⟨[.string s,num 6,num pa,num o0,num o1,num o2,num lo,num hi,num we,num sp,num ac,num tq]⟩,.agg ⟨[num x,num y]⟩] w fun e w'=>e=.returned (.agg ⟨gT (nK 6 o0 o1 o2 x y)⟩)∧Below w.heap.size w w':=by
 rw [YN]
 exact YF (ex:=[]) (kJ w [])
theorem YO (s:ByteArray) (kind pa o0 o1 o2 lo hi we sp ac tq x y:Int) (w:World) (h:0≤kind∧kind≤6):Calls aa 117 #[.agg ⟨[.string s,num kind,num pa,num o0,num o1,num o2,num lo,num hi,num we,num sp,num ac,num tq]⟩,.agg ⟨[num x,num y]⟩] w fun e w'=>e=.returned (.agg ⟨gT (nK kind o0 o1 o2 x y)⟩)∧Below w.heap.size w w':=by
 have:kind=0∨kind=1∨kind=2∨kind=3∨kind=4∨kind=5∨kind=6:=by omega
 rcases this with h | h | h | h | h | h | h<;>rw [h]
 ·exact YP s pa o0 o1 o2 lo hi we sp ac tq x y w
 ·exact YQ s pa o0 o1 o2 lo hi we sp ac tq x y w
 ·exact YR s pa o0 o1 o2 lo hi we sp ac tq x y w
 ·exact YS s pa o0 o1 o2 lo hi we sp ac tq x y w
 ·exact YT s pa o0 o1 o2 lo hi we sp ac tq x y w
 ·exact YU s pa o0 o1 o2 lo hi we sp ac tq x y w
 ·exact YV s pa o0 o1 o2 lo hi we sp ac tq x y w
theorem lD {j:JV} {b:Int×Int} {V:iF} {cs vn:List Value} (hV:V=jP j b) (hk:0≤j.kind∧j.kind≤6) (h1:eQ (fP (gP (w0,ex) l bs sl ws) ⟨[],[]⟩ 5) cs=some ((fE j).map num)) (h2:fP (gP (w0,ex) l bs sl ws) ⟨[],[]⟩ 5 xn=some (.agg ⟨[num b.1,num b.2]⟩)) (h3:fP (gP (w0,ex) l bs sl ws) ⟨[],[]⟩ 5 (.agg ⟨vn⟩)=some (.agg ⟨gT V⟩)) :
  sG aa (gP (w0,ex) l bs sl ws) ⟨117,cs,[xn],.agg ⟨vn⟩⟩ :=
 ⟨(fE j).map num,[.agg ⟨[num b.1,num b.2]⟩],_,h1,by simp only [eQ,h2],h3,fun s w _=>by rw [hV]; exact YO s j.kind j.parent j.o0 j.o1 j.o2 j.lo j.hi j.weight j.speed j.iL j.iO b.1 b.2 w hk⟩
def jH:List iF→List JV→List (Int×Int)→List iF
 | acc,j::js,b::bs=>jH (acc++[bif j.parent==-1 then jP j b else kE (acc.getD j.parent.toNat pz) (jP j b)]) js bs
 | acc,_,_=>acc
variable {p:Int}
theorem lG (j:JV) (h:j.parent=p):j.vals=[.string j.name,num j.kind,num p,num j.o0,num j.o1,num j.o2,num j.lo,num j.hi,num j.weight,num j.speed,num j.iL,num j.iO]:=by subst h; rfl
theorem lC (j:JV) (h:j.parent=p):(fE j).map num=[num j.kind,num p,num j.o0,num j.o1,num j.o2,num j.lo,num j.hi,num j.weight,num j.speed,num j.iL,num j.iO]:=by subst h; rfl
def jE (bs:List (Int×Int)):List (List Value):=bs.map fun b=>[num b.1,num b.2]
theorem MR (bs:List (Int×Int)):∀r∈jE bs,r≠[]:=fun r hr e=>by
 obtain ⟨k,_,rfl⟩:=aeZ.1 hr
 cases e
variable {X:dY} {j0:JV} {x0:Int×Int}
theorem Zk (h:jW w ex B0 B1 [j0] mvs) (hX:X.2.1=1) (sX:Sl w X.1 2 (jE [x0])) (xX:∀a,X.1=some a→a.block∉ex) (hv0:fC x0.1 x0.2=true) :
  Calls aa 68 #[.agg ⟨[dJ B0,dJ B1]⟩,dJ X] w (xE (jH [] [j0] [x0]) w):=by
 obtain ⟨bB0,oB0,rB0⟩:=iy (i:=0) (ex:=ex) h.sB (by simp [h.b0]) (show ([j0].map JV.vals)[0]?=some j0.vals from rfl) (aO _) (fun a ha=>(h.xB a ha).1)
 obtain ⟨bX0,oX0,rX0⟩:=iy (i:=0) (ex:=ex) sX (by simp [hX,jE]) (show (jE [x0])[0]?=some [num x0.1,num x0.2] from rfl) (aO _) xX
 have k0:=h.kd 0 j0 rfl
 have p0:=h.pr 0 j0 rfl
 have hp0:j0.parent=-1:=by omega
 obtain ⟨J0,hJ0⟩:∃J,J=jP j0 x0:=⟨_,rfl⟩
 have hl:jH [] [j0] [x0]=[J0]:=by
  simp only [hJ0]
  simp [jH,hp0]
 rw [hl]
 rw [lG j0 hp0] at rB0
 refine Zb (J0:=J0)  h.b0 hX hv0 rB0 rX0 (fun z hz=>?_) (fun z hz=>?_) (kJ w ex)
 ·simp only [ag,ae,or_false] at hz
  rcases hz with rfl
  ·exact qI h
 ·simp only [ag,ae,or_false] at hz
  rcases hz with rfl
  ·exact lD (j:=j0) (b:=x0) hJ0 k0 (by rw [lC j0 hp0]; kernel_rfl) (by kernel_rfl) (by kernel_rfl)
variable {j1:JV} {x1:Int×Int}
theorem Zl (h:jW w ex B0 B1 [j0,j1] mvs) (hX:X.2.1=2) (sX:Sl w X.1 2 (jE [x0,x1])) (xX:∀a,X.1=some a→a.block∉ex) (hv0:fC x0.1 x0.2=true) (hv1:fC x1.1 x1.2=true) :
  Calls aa 68 #[.agg ⟨[dJ B0,dJ B1]⟩,dJ X] w (xE (jH [] [j0,j1] [x0,x1]) w):=by
 obtain ⟨bB0,oB0,rB0⟩:=iy (i:=0) (ex:=ex) h.sB (by simp [h.b0]) (show ([j0,j1].map JV.vals)[0]?=some j0.vals from rfl) (aO _) (fun a ha=>(h.xB a ha).1)
 obtain ⟨bX0,oX0,rX0⟩:=iy (i:=0) (ex:=ex) sX (by simp [hX,jE]) (show (jE [x0,x1])[0]?=some [num x0.1,num x0.2] from rfl) (aO _) xX
 have k0:=h.kd 0 j0 rfl
 have p0:=h.pr 0 j0 rfl
 obtain ⟨bB1,oB1,rB1⟩:=iy (i:=1) (ex:=ex) h.sB (by simp [h.b0]) (show ([j0,j1].map JV.vals)[1]?=some j1.vals from rfl) (aO _) (fun a ha=>(h.xB a ha).1)
 obtain ⟨bX1,oX1,rX1⟩:=iy (i:=1) (ex:=ex) sX (by simp [hX,jE]) (show (jE [x0,x1])[1]?=some [num x1.1,num x1.2] from rfl) (aO _) xX
 have k1:=h.kd 1 j1 rfl
 have p1:=h.pr 1 j1 rfl
 have hc:(j0.parent=-1∧j1.parent=-1)∨(j0.parent=-1∧j1.parent=0):=by omega
 rcases hc with ⟨hp0,hp1⟩ | ⟨hp0,hp1⟩
 ·obtain ⟨J0,hJ0⟩:∃J,J=jP j0 x0:=⟨_,rfl⟩
  obtain ⟨J1,hJ1⟩:∃J,J=jP j1 x1:=⟨_,rfl⟩
  have hl:jH [] [j0,j1] [x0,x1]=[J0,J1]:=by
   simp only [hJ0,hJ1]
   simp [jH,hp0,hp1]
  rw [hl]
  rw [lG j0 hp0] at rB0
  rw [lG j1 hp1] at rB1
  refine Zc (J0:=J0) (J1:=J1)  h.b0 hX hv0 hv1 rB0 rB1 rX0 rX1 (fun z hz=>?_) (fun z hz=>?_) (kJ w ex)
  ·simp only [ag,ae,or_false] at hz
   rcases hz with rfl
   ·exact qI h
  ·simp only [ag,ae,or_false] at hz
   rcases hz with rfl | rfl
   ·exact lD (j:=j0) (b:=x0) hJ0 k0 (by rw [lC j0 hp0]; kernel_rfl) (by kernel_rfl) (by kernel_rfl)
   ·exact lD (j:=j1) (b:=x1) hJ1 k1 (by rw [lC j1 hp1]; kernel_rfl) (by kernel_rfl) (by kernel_rfl)
 ·obtain ⟨J0,hJ0⟩:∃J,J=jP j0 x0:=⟨_,rfl⟩
  obtain ⟨J1,hJ1⟩:∃J,J=jP j1 x1:=⟨_,rfl⟩
  obtain ⟨C1,hC1⟩:∃C,C=kE J0 J1:=⟨_,rfl⟩
  have hl:jH [] [j0,j1] [x0,x1]=[J0,C1]:=by
   simp only [hC1,hJ0,hJ1]
   simp [jH,hp0,hp1]
  rw [hl]
  rw [lG j0 hp0] at rB0
  rw [lG j1 hp1] at rB1
  refine Zg (J0:=J0) (J1:=J1) (C1:=C1) h.b0 hX hv0 hv1 rB0 rB1 rX0 rX1 (fun z hz=>?_) (fun z hz=>?_) (kJ w ex)
  ·simp only [ag,ae,or_false] at hz
   rcases hz with rfl | rfl
   ·exact qI h
   ·exact afu (P:=J0) (J:=J1) hC1 (by kernel_rfl) (by kernel_rfl) (by kernel_rfl)
  ·simp only [ag,ae,or_false] at hz
   rcases hz with rfl | rfl
   ·exact lD (j:=j0) (b:=x0) hJ0 k0 (by rw [lC j0 hp0]; kernel_rfl) (by kernel_rfl) (by kernel_rfl)
   ·exact lD (j:=j1) (b:=x1) hJ1 k1 (by rw [lC j1 hp1]; kernel_rfl) (by kernel_rfl) (by kernel_rfl)
theorem Zm {j2:JV} {x2:Int×Int} (h:jW w ex B0 B1 [j0,j1,j2] mvs) (hX:X.2.1=3) (sX:Sl w X.1 2 (jE [x0,x1,x2])) (xX:∀a,X.1=some a→a.block∉ex) (hv0:fC x0.1 x0.2=true) (hv1:fC x1.1 x1.2=true) (hv2:fC x2.1 x2.2=true) :
  Calls aa 68 #[.agg ⟨[dJ B0,dJ B1]⟩,dJ X] w (xE (jH [] [j0,j1,j2] [x0,x1,x2]) w):=by
 obtain ⟨bB0,oB0,rB0⟩:=iy (i:=0) (ex:=ex) h.sB (by simp [h.b0]) (show ([j0,j1,j2].map JV.vals)[0]?=some j0.vals from rfl) (aO _) (fun a ha=>(h.xB a ha).1)
 obtain ⟨bX0,oX0,rX0⟩:=iy (i:=0) (ex:=ex) sX (by simp [hX,jE]) (show (jE [x0,x1,x2])[0]?=some [num x0.1,num x0.2] from rfl) (aO _) xX
 have k0:=h.kd 0 j0 rfl
 have p0:=h.pr 0 j0 rfl
 obtain ⟨bB1,oB1,rB1⟩:=iy (i:=1) (ex:=ex) h.sB (by simp [h.b0]) (show ([j0,j1,j2].map JV.vals)[1]?=some j1.vals from rfl) (aO _) (fun a ha=>(h.xB a ha).1)
 obtain ⟨bX1,oX1,rX1⟩:=iy (i:=1) (ex:=ex) sX (by simp [hX,jE]) (show (jE [x0,x1,x2])[1]?=some [num x1.1,num x1.2] from rfl) (aO _) xX
 have k1:=h.kd 1 j1 rfl
 have p1:=h.pr 1 j1 rfl
 obtain ⟨bB2,oB2,rB2⟩:=iy (i:=2) (ex:=ex) h.sB (by simp [h.b0]) (show ([j0,j1,j2].map JV.vals)[2]?=some j2.vals from rfl) (aO _) (fun a ha=>(h.xB a ha).1)
 obtain ⟨bX2,oX2,rX2⟩:=iy (i:=2) (ex:=ex) sX (by simp [hX,jE]) (show (jE [x0,x1,x2])[2]?=some [num x2.1,num x2.2] from rfl) (aO _) xX
 have k2:=h.kd 2 j2 rfl
 have p2:=h.pr 2 j2 rfl
 have hc:(j0.parent=-1∧j1.parent=-1∧j2.parent=-1)∨(j0.parent=-1∧j1.parent=-1∧j2.parent=0)∨(j0.parent=-1∧j1.parent=-1∧j2.parent=1)∨(j0.parent=-1∧j1.parent=0∧j2.parent=-1)∨(j0.parent=-1∧j1.parent=0∧j2.parent=0)∨(j0.parent=-1∧j1.parent=0∧j2.parent=1):=by omega
 rcases hc with ⟨hp0,hp1,hp2⟩ | ⟨hp0,hp1,hp2⟩ | ⟨hp0,hp1,hp2⟩ | ⟨hp0,hp1,hp2⟩ | ⟨hp0,hp1,hp2⟩ | ⟨hp0,hp1,hp2⟩
 ·obtain ⟨J0,hJ0⟩:∃J,J=jP j0 x0:=⟨_,rfl⟩
  obtain ⟨J1,hJ1⟩:∃J,J=jP j1 x1:=⟨_,rfl⟩
  obtain ⟨J2,hJ2⟩:∃J,J=jP j2 x2:=⟨_,rfl⟩
  have hl:jH [] [j0,j1,j2] [x0,x1,x2]=[J0,J1,J2]:=by
   simp only [hJ0,hJ1,hJ2]
   simp [jH,hp0,hp1,hp2]
  rw [hl]
  rw [lG j0 hp0] at rB0
  rw [lG j1 hp1] at rB1
  rw [lG j2 hp2] at rB2
  refine Zd (J0:=J0) (J1:=J1) (J2:=J2)  h.b0 hX hv0 hv1 hv2 rB0 rB1 rB2 rX0 rX1 rX2 (fun z hz=>?_) (fun z hz=>?_) (kJ w ex)
  ·simp only [ag,ae,or_false] at hz
   rcases hz with rfl
   ·exact qI h
  ·simp only [ag,ae,or_false] at hz
   rcases hz with rfl | rfl | rfl
   ·exact lD (j:=j0) (b:=x0) hJ0 k0 (by rw [lC j0 hp0]; kernel_rfl) (by kernel_rfl) (by kernel_rfl)
   ·exact lD (j:=j1) (b:=x1) hJ1 k1 (by rw [lC j1 hp1]; kernel_rfl) (by kernel_rfl) (by kernel_rfl)
   ·exact lD (j:=j2) (b:=x2) hJ2 k2 (by rw [lC j2 hp2]; kernel_rfl) (by kernel_rfl) (by kernel_rfl)
 ·obtain ⟨J0,hJ0⟩:∃J,J=jP j0 x0:=⟨_,rfl⟩
  obtain ⟨J1,hJ1⟩:∃J,J=jP j1 x1:=⟨_,rfl⟩
  obtain ⟨J2,hJ2⟩:∃J,J=jP j2 x2:=⟨_,rfl⟩
  obtain ⟨C2,hC2⟩:∃C,C=kE J0 J2:=⟨_,rfl⟩
  have hl:jH [] [j0,j1,j2] [x0,x1,x2]=[J0,J1,C2]:=by
   simp only [hC2,hJ0,hJ1,hJ2]
   simp [jH,hp0,hp1,hp2]
  rw [hl]
  rw [lG j0 hp0] at rB0
  rw [lG j1 hp1] at rB1
  rw [lG j2 hp2] at rB2
  refine Ze (J0:=J0) (J1:=J1) (J2:=J2) (C2:=C2) h.b0 hX hv0 hv1 hv2 rB0 rB1 rB2 rX0 rX1 rX2 (fun z hz=>?_) (fun z hz=>?_) (kJ w ex)
  ·simp only [ag,ae,or_false] at hz
   rcases hz with rfl | rfl
   ·exact qI h
   ·exact afu (P:=J0) (J:=J2) hC2 (by kernel_rfl) (by kernel_rfl) (by kernel_rfl)
  ·simp only [ag,ae,or_false] at hz
   rcases hz with rfl | rfl | rfl
   ·exact lD (j:=j0) (b:=x0) hJ0 k0 (by rw [lC j0 hp0]; kernel_rfl) (by kernel_rfl) (by kernel_rfl)
   ·exact lD (j:=j1) (b:=x1) hJ1 k1 (by rw [lC j1 hp1]; kernel_rfl) (by kernel_rfl) (by kernel_rfl)
   ·exact lD (j:=j2) (b:=x2) hJ2 k2 (by rw [lC j2 hp2]; kernel_rfl) (by kernel_rfl) (by kernel_rfl)
 ·obtain ⟨J0,hJ0⟩:∃J,J=jP j0 x0:=⟨_,rfl⟩
  obtain ⟨J1,hJ1⟩:∃J,J=jP j1 x1:=⟨_,rfl⟩
  obtain ⟨J2,hJ2⟩:∃J,J=jP j2 x2:=⟨_,rfl⟩
  obtain ⟨C2,hC2⟩:∃C,C=kE J1 J2:=⟨_,rfl⟩
  have hl:jH [] [j0,j1,j2] [x0,x1,x2]=[J0,J1,C2]:=by
   simp only [hC2,hJ0,hJ1,hJ2]
   simp [jH,hp0,hp1,hp2]
  rw [hl]
  rw [lG j0 hp0] at rB0
  rw [lG j1 hp1] at rB1
  rw [lG j2 hp2] at rB2
  refine Zf (J0:=J0) (J1:=J1) (J2:=J2) (C2:=C2) h.b0 hX hv0 hv1 hv2 rB0 rB1 rB2 rX0 rX1 rX2 (fun z hz=>?_) (fun z hz=>?_) (kJ w ex)
  ·simp only [ag,ae,or_false] at hz
   rcases hz with rfl | rfl
   ·exact qI h
   ·exact afu (P:=J1) (J:=J2) hC2 (by kernel_rfl) (by kernel_rfl) (by kernel_rfl)
  ·simp only [ag,ae,or_false] at hz
   rcases hz with rfl | rfl | rfl
   ·exact lD (j:=j0) (b:=x0) hJ0 k0 (by rw [lC j0 hp0]; kernel_rfl) (by kernel_rfl) (by kernel_rfl)
   ·exact lD (j:=j1) (b:=x1) hJ1 k1 (by rw [lC j1 hp1]; kernel_rfl) (by kernel_rfl) (by kernel_rfl)
   ·exact lD (j:=j2) (b:=x2) hJ2 k2 (by rw [lC j2 hp2]; kernel_rfl) (by kernel_rfl) (by kernel_rfl)
 ·obtain ⟨J0,hJ0⟩:∃J,J=jP j0 x0:=⟨_,rfl⟩
  obtain ⟨J1,hJ1⟩:∃J,J=jP j1 x1:=⟨_,rfl⟩
  obtain ⟨J2,hJ2⟩:∃J,J=jP j2 x2:=⟨_,rfl⟩
  obtain ⟨C1,hC1⟩:∃C,C=kE J0 J1:=⟨_,rfl⟩
  have hl:jH [] [j0,j1,j2] [x0,x1,x2]=[J0,C1,J2]:=by
   simp only [hC1,hJ0,hJ1,hJ2]
   simp [jH,hp0,hp1,hp2]
  rw [hl]
  rw [lG j0 hp0] at rB0
  rw [lG j1 hp1] at rB1
  rw [lG j2 hp2] at rB2
  refine Zh (J0:=J0) (J1:=J1) (J2:=J2) (C1:=C1) h.b0 hX hv0 hv1 hv2 rB0 rB1 rB2 rX0 rX1 rX2 (fun z hz=>?_) (fun z hz=>?_) (kJ w ex)
  ·simp only [ag,ae,or_false] at hz
   rcases hz with rfl | rfl
   ·exact qI h
   ·exact afu (P:=J0) (J:=J1) hC1 (by kernel_rfl) (by kernel_rfl) (by kernel_rfl)
  ·simp only [ag,ae,or_false] at hz
   rcases hz with rfl | rfl | rfl
   ·exact lD (j:=j0) (b:=x0) hJ0 k0 (by rw [lC j0 hp0]; kernel_rfl) (by kernel_rfl) (by kernel_rfl)
   ·exact lD (j:=j1) (b:=x1) hJ1 k1 (by rw [lC j1 hp1]; kernel_rfl) (by kernel_rfl) (by kernel_rfl)
   ·exact lD (j:=j2) (b:=x2) hJ2 k2 (by rw [lC j2 hp2]; kernel_rfl) (by kernel_rfl) (by kernel_rfl)
 ·obtain ⟨J0,hJ0⟩:∃J,J=jP j0 x0:=⟨_,rfl⟩
  obtain ⟨J1,hJ1⟩:∃J,J=jP j1 x1:=⟨_,rfl⟩
  obtain ⟨J2,hJ2⟩:∃J,J=jP j2 x2:=⟨_,rfl⟩
  obtain ⟨C1,hC1⟩:∃C,C=kE J0 J1:=⟨_,rfl⟩
  obtain ⟨C2,hC2⟩:∃C,C=kE J0 J2:=⟨_,rfl⟩
  have hl:jH [] [j0,j1,j2] [x0,x1,x2]=[J0,C1,C2]:=by
   simp only [hC1,hC2,hJ0,hJ1,hJ2]
   simp [jH,hp0,hp1,hp2]
  rw [hl]
  rw [lG j0 hp0] at rB0
  rw [lG j1 hp1] at rB1
  rw [lG j2 hp2] at rB2
  refine Zi (J0:=J0) (J1:=J1) (J2:=J2) (C1:=C1) (C2:=C2) h.b0 hX hv0 hv1 hv2 rB0 rB1 rB2 rX0 rX1 rX2 (fun z hz=>?_) (fun z hz=>?_) (kJ w ex)
  ·simp only [ag,ae,or_false] at hz
   rcases hz with rfl | rfl | rfl
   ·exact qI h
   ·exact afu (P:=J0) (J:=J1) hC1 (by kernel_rfl) (by kernel_rfl) (by kernel_rfl)
   ·exact afu (P:=J0) (J:=J2) hC2 (by kernel_rfl) (by kernel_rfl) (by kernel_rfl)
  ·simp only [ag,ae,or_false] at hz
   rcases hz with rfl | rfl | rfl
   ·exact lD (j:=j0) (b:=x0) hJ0 k0 (by rw [lC j0 hp0]; kernel_rfl) (by kernel_rfl) (by kernel_rfl)
   ·exact lD (j:=j1) (b:=x1) hJ1 k1 (by rw [lC j1 hp1]; kernel_rfl) (by kernel_rfl) (by kernel_rfl)
   ·exact lD (j:=j2) (b:=x2) hJ2 k2 (by rw [lC j2 hp2]; kernel_rfl) (by kernel_rfl) (by kernel_rfl)
 ·obtain ⟨J0,hJ0⟩:∃J,J=jP j0 x0:=⟨_,rfl⟩
  obtain ⟨J1,hJ1⟩:∃J,J=jP j1 x1:=⟨_,rfl⟩
  obtain ⟨J2,hJ2⟩:∃J,J=jP j2 x2:=⟨_,rfl⟩
  obtain ⟨C1,hC1⟩:∃C,C=kE J0 J1:=⟨_,rfl⟩
  obtain ⟨C2,hC2⟩:∃C,C=kE C1 J2:=⟨_,rfl⟩
  have hl:jH [] [j0,j1,j2] [x0,x1,x2]=[J0,C1,C2]:=by
   simp only [hC1,hC2,hJ0,hJ1,hJ2]
   simp [jH,hp0,hp1,hp2]
  rw [hl]
  rw [lG j0 hp0] at rB0
  rw [lG j1 hp1] at rB1
  rw [lG j2 hp2] at rB2
  refine Zj (J0:=J0) (J1:=J1) (J2:=J2) (C1:=C1) (C2:=C2) h.b0 hX hv0 hv1 hv2 rB0 rB1 rB2 rX0 rX1 rX2 (fun z hz=>?_) (fun z hz=>?_) (kJ w ex)
  ·simp only [ag,ae,or_false] at hz
   rcases hz with rfl | rfl | rfl
   ·exact qI h
   ·exact afu (P:=J0) (J:=J1) hC1 (by kernel_rfl) (by kernel_rfl) (by kernel_rfl)
   ·exact afu (P:=C1) (J:=J2) hC2 (by kernel_rfl) (by kernel_rfl) (by kernel_rfl)
  ·simp only [ag,ae,or_false] at hz
   rcases hz with rfl | rfl | rfl
   ·exact lD (j:=j0) (b:=x0) hJ0 k0 (by rw [lC j0 hp0]; kernel_rfl) (by kernel_rfl) (by kernel_rfl)
   ·exact lD (j:=j1) (b:=x1) hJ1 k1 (by rw [lC j1 hp1]; kernel_rfl) (by kernel_rfl) (by kernel_rfl)
   ·exact lD (j:=j2) (b:=x2) hJ2 k2 (by rw [lC j2 hp2]; kernel_rfl) (by kernel_rfl) (by kernel_rfl)
end Go.Proofs
end
section
namespace Go.Proofs
open Go.Sm Go.RowKit En
theorem M3 (js:List JV):∀(n:Nat) (link:Int) (ks:List Int),ks.length≤(jd js n link ks).length
 | 0,_,_=>au _
 | n+1,link,ks=>by
  unfold jd
  split
  ·exact au _
  ·have:=M3 js n ((js.getD link.toNat ⟨⟨#[]⟩,0,-1,0,0,0,0,0,0,0,0,0⟩).parent) (link::ks)
   simp only [dB] at this
   omega
theorem M4 {js:List JV} (hp:∀(i:Nat) (j:JV),js[i]?=some j→-1≤j.parent∧j.parent<i):∀(n:Nat) (link:Int) (ks:List Int),-1≤link→link<js.length→(jd js n link ks).length≤(link+1).toNat+ks.length
 | 0,_,_,_,_=>by simp [jd]
 | n+1,link,ks,h0,h1=>by
  unfold jd
  split
  ·omega
  ·obtain ⟨j,hj⟩:∃j,js[link.toNat]?=some j:=⟨_,ah (by omega)⟩
   obtain ⟨q0,q1⟩:=hp _ j hj
   have e:(js.getD link.toNat ⟨⟨#[]⟩,0,-1,0,0,0,0,0,0,0,0,0⟩).parent=j.parent:=by rw [wO hj]
   rw [e]
   have:=M4 hp n j.parent (link::ks) q0 (by omega)
   simp only [dB] at this
   omega
variable {link:Int}
theorem Xe (js:List JV) (h0:0≤link):1≤(jd js 4 link []).length:=by
 unfold jd
 rw [if_neg (by omega)]
 have:=M3 js 3 ((js.getD link.toNat ⟨⟨#[]⟩,0,-1,0,0,0,0,0,0,0,0,0⟩).parent) [link]
 simpa using this
variable {w w':World}
theorem xG (h:dO w [] w'):Below w.heap.size w w':=⟨h.os,h.tape,h.output,h.size,fun g hg=>h.frame g hg (by simp)⟩
theorem uo (h:Below w.heap.size w w'):dO w [] w':=⟨h.os,h.tape,h.output,h.size,fun g hg _=>h.block g hg⟩
variable {ex:List Nat} {B0 B1:dY} {js:List JV} {mvs:List MV}
theorem Im {w0:World} {l:List Int} {bs:List Bool} {sl:List dY} {ws:List jC} {c:Nat} {nd:Value} {cs:List Value} {ks:List Int} (h:jW w0 ex B0 B1 js mvs) (h0:0≤link) (h1:link<js.length) (hk:jd js 4 link []=ks) (hc:ks.length=c) (hp:1≤c)
  (e1:fP (gP (w0,ex) l bs (B0::B1::sl) ws) ⟨[],[]⟩ 5 nd=some (num link)) (e2:eQ (fP (gP (w0,ex) l bs (B0::B1::sl) ws) ⟨[],[]⟩ 4) cs=some (ks.map num)) :
  jB aa (gP (w0,ex) l bs (B0::B1::sl) ws) ⟨102,[.agg ⟨[dM 0,dM 1]⟩,nd],.row false c c (dQ cs 3)⟩:=fun w hF=>by
 have h':=h.fz hF
 refine ⟨[.agg ⟨[dJ B0,dJ B1]⟩,num link],?_,?_⟩
 ·have:fP (gP (w0,ex) l bs (B0::B1::sl) ws) ⟨[],[]⟩ 5 (.agg ⟨[dM 0,dM 1]⟩)=some (.agg ⟨[dJ B0,dJ B1]⟩):=by kernel_rfl
  simp only [eQ,this,e1]
 ·refine (Xf (w:=w) (link:=link) h'.n.2 h'.b0 h'.sB h'.pr (by omega) h1).mono fun e w' hq=>?_
  obtain ⟨g,rfl,hk2,hg⟩:=hq
  rw [hk] at hg ⊢
  have hne:ks≠[]:=fun e=>by rw [e] at hc; simp at hc; omega
  obtain ⟨g1,g2⟩:=hg hne
  refine ⟨xG hk2,ks.map num,g,e2,g1,(aB.1 g2).1,?_,g2⟩
  match ks,hne,hc with
  | k::ks,_,hc=>subst hc; rfl
theorem Xg (h:jW w ex B0 B1 js mvs) (h0:0≤link) (h1:link<js.length):Calls aa 73 #[.agg ⟨[dJ B0,dJ B1]⟩,num link] w (vC w (jd js 4 link [])):=by
 have hn:=h.n
 have q1:=Xe js h0
 have q2:=M4 h.pr 4 link [] (by omega) h1
 simp only [aeT,Nat.add_zero] at q2
 generalize hk:jd js 4 link []=ks at q1 q2
 match ks,q1,q2,hk with
 | [k0],_,_,hk =>
  refine (Xb (w0:=w) (ex:=ex) (B0:=B0) (B1:=B1) (n:=(js.length:Nat)) (k0:=k0) (by rw [h.b0]) (by simp; omega) (by simp; omega) (fun z hz=>?_) (kJ w ex)).mono fun e w' hq=>?_
  ·simp only [ag,ae,or_false] at hz
   rcases hz with rfl | rfl
   ·exact qI h
   ·exact Im h h0 h1 hk rfl (by decide) (by kernel_rfl) (by kernel_rfl)
  ·obtain ⟨hb,gl,l1,l2,rfl,l4⟩:=hq
   exact ⟨gl,rfl,uo hb,fun _=>⟨l1,l4⟩⟩
 | [k0,k1],_,_,hk =>
  refine (Xc (w0:=w) (ex:=ex) (B0:=B0) (B1:=B1) (n:=(js.length:Nat)) (k0:=k0) (k1:=k1) (by rw [h.b0]) (by simp; omega) (by simp; omega) (fun z hz=>?_) (kJ w ex)).mono fun e w' hq=>?_
  ·simp only [ag,ae,or_false] at hz
   rcases hz with rfl | rfl
   ·exact qI h
   ·exact Im h h0 h1 hk rfl (by decide) (by kernel_rfl) (by kernel_rfl)
  ·obtain ⟨hb,gl,l1,l2,rfl,l4⟩:=hq
   exact ⟨gl,rfl,uo hb,fun _=>⟨l1,l4⟩⟩
 | [k0,k1,k2],_,_,hk =>
  refine (Xd (w0:=w) (ex:=ex) (B0:=B0) (B1:=B1) (n:=(js.length:Nat)) (k0:=k0) (k1:=k1) (k2:=k2) (by rw [h.b0]) (by simp; omega) (by simp; omega) (fun z hz=>?_) (kJ w ex)).mono fun e w' hq=>?_
  ·simp only [ag,ae,or_false] at hz
   rcases hz with rfl | rfl
   ·exact qI h
   ·exact Im h h0 h1 hk rfl (by decide) (by kernel_rfl) (by kernel_rfl)
  ·obtain ⟨hb,gl,l1,l2,rfl,l4⟩:=hq
   exact ⟨gl,rfl,uo hb,fun _=>⟨l1,l4⟩⟩
 | [],q1,_,_=>exact absurd q1 (by simp)
 | _::_::_::_::_,_,q2,_=>exfalso; simp only [dB] at q2; omega
theorem EY:∀(acc:List iF) (js:List JV) (bs:List (Int×Int)),bs.length=js.length→(jH acc js bs).length=acc.length+js.length
 | acc,[],[],_=>by simp [jH]
 | acc,j::js,b::bs,h=>by
  unfold jH
  rw [EY _ js bs (by simpa using h)]
  simp; omega
 | _,[],_::_,h=>by simp at h
 | _,_::_,[],h=>by simp at h
variable {X:dY} {bs:List (Int×Int)}
theorem Zn (h:jW w ex B0 B1 js mvs) (hl:bs.length=js.length) (hX:X.2.1=bs.length) (sX:Sl w X.1 2 (jE bs)) (xX:∀a,X.1=some a→a.block∉ex) (hv:∀b∈bs,fC b.1 b.2=true) :
  Calls aa 68 #[.agg ⟨[dJ B0,dJ B1]⟩,dJ X] w (xE (jH [] js bs) w):=by
 have hn:=h.n
 match js,bs,h,hl,hX,sX,hv,hn with
 | [j0],[x0],h,_,hX,sX,hv,_=>exact Zk h hX sX xX (hv x0 (by simp))
 | [j0,j1],[x0,x1],h,_,hX,sX,hv,_=>exact Zl h hX sX xX (hv x0 (by simp)) (hv x1 (by simp))
 | [j0,j1,j2],[x0,x1,x2],h,_,hX,sX,hv,_=>exact Zm h hX sX xX (hv x0 (by simp)) (hv x1 (by simp)) (hv x2 (by simp))
 | [],_,_,_,_,_,_,hn=>exact absurd hn.1 (by simp)
 | _::_::_::_::_,_,_,_,_,_,_,hn=>exact absurd hn.2 (by simp)
 | [_],[],_,hl,_,_,_,_ | [_],_::_::_,_,hl,_,_,_,_ | [_,_],[],_,hl,_,_,_,_ | [_,_],[_],_,hl,_,_,_,_ | [_,_],_::_::_::_,_,hl,_,_,_,_ | [_,_,_],[],_,hl,_,_,_,_ | [_,_,_],[_],_,hl,_,_,_,_ | [_,_,_],[_,_],_,hl,_,_,_,_ | [_,_,_],_::_::_::_::_,_,hl,_,_,_,_=>exact absurd hl (by simp)
theorem Z7 {nc:Nat} {f:Bool} (h:jW w [nc] B0 B1 js mvs) (hl:bs.length=js.length) (hX:X.2.1=bs.length) (sX:Sl w X.1 2 (jE bs)) (xX:∀a,X.1=some a→a.block∉[nc]) (hv:∀b∈bs,fC b.1 b.2=true) (hf:w.heap[nc]?=some (.cells #[.bool f] 88 (0,0))) :
  Calls aa 41 #[dK nc,.agg ⟨[dJ B0,dJ B1]⟩,dJ X] w (Ca w nc B0 B1 js (jH [] js bs) mvs f):=by
 have hn:=h.n
 have hlk:∀w':World,Mv w nc w'→Calls aa 68 #[.agg ⟨[dJ B0,dJ B1]⟩,dJ X] w' (xE (jH [] js bs) w'):=fun w' hF=>Zn (h.fz hF) hl hX (l8 sX hF (MR _) fun a ha _=>xX a ha) xX hv
 have hch:∀(mv:MV),mv∈mvs→∀w':World,Mv w nc w'→Calls aa 73 #[.agg ⟨[dJ B0,dJ B1]⟩,num mv.link] w' (vC w' (jd js 4 mv.link [])):=fun mv hm w' hF=>by
  obtain ⟨i,hi⟩:=cZ hm
  obtain ⟨⟨q0,q1⟩,_⟩:=h.ms i mv hi
  exact Xg (h.fz hF) q0 q1
 have hPl:=EY [] js bs hl
 simp only [aeT,Nat.zero_add] at hPl
 generalize jH [] js bs=Ps at hlk hPl
 have xB:∀a,B0.1=some a→a.block≠nc∧a.block<w.heap.size:=fun a ha=>⟨by simpa using (h.xB a ha).1,(h.xB a ha).2⟩
 have xM:∀a,B1.1=some a→mvs≠[]→a.block≠nc∧a.block<w.heap.size:=fun a ha h0=>⟨by simpa using (h.xM a ha h0).1,(h.xM a ha h0).2⟩
 match js,Ps,h,hPl,hlk,hch,hn with
 | [j0],[P0],h,_,hlk,hch,_=>exact agQ h.b0 h.b1 h.sB h.sM xB xM h.pr h.ms h.m hch hlk hf
 | [j0,j1],[P0,P1],h,_,hlk,hch,_=>exact agR h.b0 h.b1 h.sB h.sM xB xM h.pr h.ms h.m hch hlk hf
 | [j0,j1,j2],[P0,P1,P2],h,_,hlk,hch,_=>exact Z6 h.b0 h.b1 h.sB h.sM xB xM h.pr h.ms h.m hch hlk hf
 | [],_,_,_,_,_,hn=>exact absurd hn.1 (by simp)
 | _::_::_::_::_,_,_,_,_,_,hn=>exact absurd hn.2 (by simp)
 | [_],[],_,hl,_,_,_ | [_],_::_::_,_,hl,_,_,_ | [_,_],[],_,hl,_,_,_ | [_,_],[_],_,hl,_,_,_ | [_,_],_::_::_::_,_,hl,_,_,_ | [_,_,_],[],_,hl,_,_,_ | [_,_,_],[_],_,hl,_,_,_ | [_,_,_],[_,_],_,hl,_,_,_ | [_,_,_],_::_::_::_::_,_,hl,_,_,_=>exact absurd hl (by simp)
variable {a D b:Int}
theorem EA (hD:0<D) (h:b*D≤a):b≤a.fdiv D:=by
 rw [Int.fdiv_eq_ediv_of_nonneg _ (by omega)]
 exact (Int.le_ediv_iff_mul_le hD).2 h
theorem AL (hD:0<D) (h:a<(b+1)*D):a.fdiv D≤b:=by
 rw [Int.fdiv_eq_ediv_of_nonneg _ (by omega)]
 have:=(Int.ediv_lt_iff_lt_mul hD).2 h
 omega
theorem acp {p q d i:Int} (hp:-4194304≤p∧p≤4194304) (hq:-4194304≤q∧q≤4194304) (hd:0≤d∧d≤20) (hi:0≤i∧i<2^d.toNat) :
  min p q≤pM p q d i∧pM p q d i≤pK p q d i∧pK p q d i≤max p q:=by
 obtain ⟨k,rfl⟩:∃k:Nat,d=k:=⟨d.toNat,by omega⟩
 have hk:k≤20:=by omega
 rw [Int.toNat_natCast] at hi
 have e64:min (Int.toNat (k:Int)) 64=k:=by omega
 generalize hD:(2:Int)^k=D at hi
 have hD0:0<D:=by rw [←hD]; exact Int.pow_pos (by decide)
 have hD1:D≤1048576:=by
  rw [←hD]
  have:(2:Nat)^k≤2^20:=Nat.pow_le_pow_right (by decide) hk
  have h2:((2^k:Nat):Int)≤((2^20:Nat):Int):=by exact_mod_cast this
  simpa using h2
 obtain ⟨i0,i1⟩:=hi
 have ew:bg.wrap (q - p)=q - p:=dz _ (by omega)
 have ei:bg.wrap (i+1)=i+1:=dz _ (by omega)
 obtain ⟨x,hx⟩:∃x,x=q - p:=⟨_,rfl⟩
 have hxb:-8388608≤x∧x≤8388608:=by omega
 have b1:∀t:Int,0≤t→t≤1048576→-8796093022208≤t*x∧t*x≤8796093022208:=fun t h0 h1=>by
  constructor
  ·have:=Int.mul_le_mul_of_nonneg_left hxb.1 h0
   omega
  ·have:=Int.mul_le_mul_of_nonneg_left hxb.2 h0
   omega
 have hA:Bq p q i=i*x:=by
  unfold Bq; rw [ew,←hx]; exact dz _ (by have:=b1 i i0 (by omega); omega)
 have hB:Br p q i=(i+1)*x:=by
  unfold Br; rw [ew,ei,←hx]; exact dz _ (by have:=b1 (i+1) (by omega) (by omega); omega)
 have bA:=b1 i i0 (by omega)
 have bB:=b1 (i+1) (by omega) (by omega)
 have bD:=b1 D (by omega) hD1
 unfold pM pK
 rw [hA,hB]
 unfold LK
 rw [e64,hD]
 have eB:(i+1)*x=i*x+x:=by rw [Int.add_mul,Int.one_mul]
 rcases Int.le_total 0 x with h0 | h0
 ·have a1:i*x≤(i+1)*x:=by omega
  have a2:(i+1)*x≤D*x:=Int.mul_le_mul_of_nonneg_right (by omega) h0
  have a3:0≤i*x:=Int.mul_nonneg i0 h0
  rw [if_neg (by omega)]
  have em:(if i*x<(i+1)*x then (i+1)*x else i*x)=(i+1)*x:=by split<;>omega
  rw [em,dz (-((i+1)*x)) (by omega)]
  have f1:0≤(i*x).fdiv D:=EA hD0 (by omega)
  have f2:(i*x).fdiv D≤x:=AL hD0 (by rw [Int.add_mul,Int.mul_comm x D]; omega)
  have f3:-x≤(-((i+1)*x)).fdiv D:=EA hD0 (by rw [Int.neg_mul,Int.mul_comm x D]; omega)
  have f4:(-((i+1)*x)).fdiv D≤-((i*x).fdiv D):=by
   refine AL hD0 ?_
   have g1:=Int.fdiv_eq_ediv_of_nonneg (i*x) (show 0≤D by omega)
   have g2:(i*x)/D*D≤i*x:=Int.ediv_mul_le _ (by omega)
   rw [g1]
   generalize i*x/D=t at g2 ⊢
   rw [Int.add_mul (-t),Int.neg_mul]
   omega
  have f5:(-((i+1)*x)).fdiv D≤0:=AL hD0 (by omega)
  rw [dz _ (by omega),dz _ (by omega)]
  omega
 ·have a1:(i+1)*x≤i*x:=by omega
  have a2:D*x≤(i+1)*x:=Int.mul_le_mul_of_nonpos_right (by omega) h0
  have a3:i*x≤0:=Int.mul_nonpos_of_nonneg_of_nonpos i0 h0
  have em:(if (i+1)*x<i*x then (i+1)*x else i*x)=(i+1)*x:=by split<;>omega
  rw [em,if_neg (by omega),dz (-(i*x)) (by omega)]
  have f1:((i+1)*x).fdiv D≤0:=AL hD0 (by omega)
  have f2:x≤((i+1)*x).fdiv D:=EA hD0 (by rw [Int.mul_comm x D]; omega)
  have f3:0≤(-(i*x)).fdiv D:=EA hD0 (by omega)
  have f4:(-(i*x)).fdiv D≤-x:=AL hD0 (by rw [Int.add_mul,Int.neg_mul,Int.mul_comm x D]; omega)
  have f6:(-(i*x)).fdiv D≤-(((i+1)*x).fdiv D):=by
   refine AL hD0 ?_
   have g1:=Int.fdiv_eq_ediv_of_nonneg ((i+1)*x) (show 0≤D by omega)
   have g2:((i+1)*x)/D*D≤(i+1)*x:=Int.ediv_mul_le _ (by omega)
   rw [g1]
   generalize (i+1)*x/D=t at g2 ⊢
   rw [Int.add_mul (-t),Int.neg_mul]
   omega
  rw [dz _ (by omega),dz _ (by omega)]
  omega
def nX:List Int→List Int→Int→Int→List (Int×Int)
 | p::ps,q::qs,d,i=>(pM p q d i,pK p q d i)::nX ps qs d i
 | _,_,_,_=>[]
end Go.Proofs
end
section
namespace Go.Proofs
open Go.Sm Go.RowKit En
def lI (w0:World) (ex:List Nat) (b:Nat) (vs:List Value):Prop:=(b<w0.heap.size∧b∉ex)∧tV w0 (b,0,vs)
variable {w0 w:World} {a:Act} {B0 B1 Sp Sq:dY} {x y z d i:Int} {Q:Exit→Act→World→Prop} {D:Code}
theorem adY {X W A M:dY} {f:Bool}
  (hown:∀q∈[]++[],q∈([]:List Nat)∨w0.heap.size≤q) (hnd:([]++[]:List Nat).Nodup) (h:dP (dS 133 [(0,.agg ⟨[dJ B0,dJ B1]⟩),(1,.agg ⟨[num (x),num (y),num (z)]⟩),(2,dJ Sp),(3,dJ Sq),(4,num (d)),(5,num (i))]) [] [] a w) (hk:dO w0 [] w)
  (hQ:∀(a':Act) (w':World) (nr ng:Nat),(∀q∈([nr,ng]:List Nat),w.heap.size≤q∧q<w'.heap.size)→([]++[]++[]++[nr,ng]:List Nat).Nodup→dP (dS 133 [(2,dJ Sp),(3,dJ Sq),(4,num (d)),(5,num (i)),(6,dK nr),(7,dK ng)]) [] [(nr,[dJ B0,dJ B1],35),(ng,[num (x),num (y),num (z)],40)] a' w'→dO w0 [] w'→D.wp aa Q a' w'):(gu [(dZ (dN aY))] D).wp aa Q a w:=by
 refine xI ([x,y,z,d,i]) ([f]) [B0,B1,Sp,Sq,X,W,A,M] (w0:=w0) (ex:=[]) (g:=[]) (wt:=[]) (lt:=[]) (t:={}) (ws:=[]) (fr:=fK 133 [(0,.agg ⟨[dM 0,dM 1]⟩),(1,.agg ⟨(vs 0 3)⟩),(2,dM 2),(3,dM 3),(4,var 3),(5,var 4)]) (H:=[]) (lo:=[]) (wb:=[]) (us':=fun gn nl=>dS 133 [(2,dJ Sp),(3,dJ Sq),(4,num (d)),(5,num (i)),(6,dK (nl.getD 0 0)),(7,dK (nl.getD 1 0))]) (gs':=fun gn nl=>[]) (ls':=fun gn nl=>[((nl.getD 0 0),[dJ B0,dJ B1],35),((nl.getD 1 0),[num (x),num (y),num (z)],40)]) 20 _ [] [0,1] [] [6,7] (fun gn nl e1 e2=>?_) (by kernel_rfl) (fun gn nl e1 e2 e3=>?_) ⟨ed _,jo,all_nil,(by exact hown),kF,fun _=>⟨all_nil,all_nil,all_nil⟩⟩ h hk (fun a' w' gn nl e1 e2 e3 e4 hs hk'=>?_)
 ·match gn,nl,e1,e2 with
  | [],[nr,ng],_,_=>show (_:Option _)=_; kernel_rfl
 ·match gn,nl,e1,e2 with
  | [],[nr,ng],_,_=>exact oP e3
 ·match gn,nl,e1,e2 with
  | [],[nr,ng],_,_ =>
   simp only [bN,bZ] at hs
   exact hQ a' w' nr ng (fun q hq=>e4 q hq) e3 hs hk'
variable {nr ng:Nat}
theorem adZ {X W A M:dY} {f:Bool} {nc:Nat}  (hr0:lI w0 [] nr [dJ B0,dJ B1]) (hr1:lI w0 [] ng [num (x),num (y),num (z)])
  (hown:∀q∈[]++[],q∈([]:List Nat)∨w0.heap.size≤q) (hnd:([]++[]:List Nat).Nodup) (h:dP (dS 133 [(2,dJ Sp),(3,dJ Sq),(4,num (d)),(5,num (i)),(6,dK nr),(7,dK ng)]) [] [] a w) (hk:dO w0 [] w)
  (hQ:∀a' w',dP (dS 133 [(2,dJ Sp),(3,dJ Sq),(4,num (d)),(5,num (i)),(6,dK nr),(7,dK ng),(30,dJ Sp),(31,dJ Sq),(32,num (d)),(33,num (i))]) [] [] a' w'→dO w0 [] w'→wpList aa (opsOf (jM (dN aY))).toArray Q ((opsOf (jM (dN aY))).drop 4) a' w'):wpList aa (opsOf (jM (dN aY))).toArray Q ((opsOf (jM (dN aY))).take 4++((opsOf (jM (dN aY))).drop 4)) a w:=by
 refine uw ([x,y,z,d,i]) ([f]) [B0,B1,Sp,Sq,X,W,A,M] (ops:=opsOf (jM (dN aY))) (o1:=(opsOf (jM (dN aY))).take 4) (tail:=((opsOf (jM (dN aY))).drop 4)) (w0:=w0) (ex:=[]) (g:=[]) (wt:=[]) (lt:=[]) (t:={}) (ws:=[(nr,0,[dJ B0,dJ B1]),(ng,0,[num (x),num (y),num (z)])]) (fr:=fK 133 [(2,dM 2),(3,dM 3),(4,var 3),(5,var 4),(6,.pointer (some ⟨0,0,some 0⟩)),(7,.pointer (some ⟨1,0,some 0⟩))]) (H:=[]) (lo:=[]) (wb:=[dU [dM 0,dM 1],dU (vs 0 3)])  (by kernel_rfl) [] [] (by kernel_rfl) (by kernel_rfl) (by exact hnd) ⟨ed _,jo,dR hr0<|dR hr1<|all_nil,(by exact hown),kF,fun _=>⟨all_nil,all_nil,all_nil⟩⟩ h hk hQ
variable {X:dY}
theorem ad1 {W A M:dY} {f:Bool} {nc:Nat}  (hr0:lI w0 [] nr [dJ B0,dJ B1]) (hr1:lI w0 [] ng [num (x),num (y),num (z)])
  (hown:∀q∈[]++[],q∈([]:List Nat)∨w0.heap.size≤q) (hnd:([]++[]:List Nat).Nodup) (h:dP (dS 133 [(2,dJ Sp),(3,dJ Sq),(4,num (d)),(5,num (i)),(6,dK nr),(7,dK ng),(34,.tuple ⟨[dJ X,.bool true]⟩)]) [] [] a w) (hk:dO w0 [] w)
  (hQ:∀a' w',dP (dS 133 [(2,dJ Sp),(3,dJ Sq),(4,num (d)),(5,num (i)),(6,dK nr),(7,dK ng),(14,dJ X),(15,.bool true)]) [] [] a' w'→dO w0 [] w'→wpList aa (opsOf (jM (dN aY))).toArray Q ([]) a' w'):wpList aa (opsOf (jM (dN aY))).toArray Q ((opsOf (jM (dN aY))).drop 5++([])) a w:=by
 refine uw ([x,y,z,d,i]) ([f]) [B0,B1,Sp,Sq,X,W,A,M] (ops:=opsOf (jM (dN aY))) (o1:=(opsOf (jM (dN aY))).drop 5) (tail:=([])) (w0:=w0) (ex:=[]) (g:=[]) (wt:=[]) (lt:=[]) (t:={}) (ws:=[(nr,0,[dJ B0,dJ B1]),(ng,0,[num (x),num (y),num (z)])]) (fr:=fK 133 [(2,dM 2),(3,dM 3),(4,var 3),(5,var 4),(6,.pointer (some ⟨0,0,some 0⟩)),(7,.pointer (some ⟨1,0,some 0⟩)),(34,.tuple ⟨[dM 4,.bool true]⟩)]) (H:=[]) (lo:=[]) (wb:=[dU [dM 0,dM 1],dU (vs 0 3)])  (by kernel_rfl) [] [] (by kernel_rfl) (by kernel_rfl) (by exact hnd) ⟨ed _,jo,dR hr0<|dR hr1<|all_nil,(by exact hown),kF,fun _=>⟨all_nil,all_nil,all_nil⟩⟩ h hk hQ
theorem ad2 {W A M:dY} {f:Bool} {nc:Nat}  (hr0:lI w0 [] nr [dJ B0,dJ B1]) (hr1:lI w0 [] ng [num (x),num (y),num (z)])
  (hown:∀q∈[]++[],q∈([]:List Nat)∨w0.heap.size≤q) (hnd:([]++[]:List Nat).Nodup) (h:dP (dS 133 [(2,dJ Sp),(3,dJ Sq),(4,num (d)),(5,num (i)),(6,dK nr),(7,dK ng),(14,dJ X),(15,.bool true)]) [] [] a w) (hk:dO w0 [] w)
  (hQ:∀a' w',dP (dS 133 [(2,dJ Sp),(3,dJ Sq),(4,num (d)),(5,num (i)),(6,dK nr),(7,dK ng),(14,dJ X),(15,.bool true),(38,.agg ⟨[dJ B0,dJ B1]⟩),(39,dJ Sp),(40,dJ Sq)]) [] [] a' w'→dO w0 [] w'→wpList aa (opsOf (jK (dN aY))).toArray Q ((opsOf (jK (dN aY))).drop 3) a' w'):wpList aa (opsOf (jK (dN aY))).toArray Q ((opsOf (jK (dN aY))).take 3++((opsOf (jK (dN aY))).drop 3)) a w:=by
 refine uw ([x,y,z,d,i]) ([f]) [B0,B1,Sp,Sq,X,W,A,M] (ops:=opsOf (jK (dN aY))) (o1:=(opsOf (jK (dN aY))).take 3) (tail:=((opsOf (jK (dN aY))).drop 3)) (w0:=w0) (ex:=[]) (g:=[]) (wt:=[]) (lt:=[]) (t:={}) (ws:=[(nr,0,[dJ B0,dJ B1]),(ng,0,[num (x),num (y),num (z)])]) (fr:=fK 133 [(2,dM 2),(3,dM 3),(4,var 3),(5,var 4),(6,.pointer (some ⟨0,0,some 0⟩)),(7,.pointer (some ⟨1,0,some 0⟩)),(14,dM 4),(15,.bool true)]) (H:=[]) (lo:=[]) (wb:=[dU [dM 0,dM 1],dU (vs 0 3)])  (by kernel_rfl) [] [] (by kernel_rfl) (by kernel_rfl) (by exact hnd) ⟨ed _,jo,dR hr0<|dR hr1<|all_nil,(by exact hown),kF,fun _=>⟨all_nil,all_nil,all_nil⟩⟩ h hk hQ
variable {W:dY}
theorem ad3 {A M:dY} {f:Bool} {nc:Nat}  (hr0:lI w0 [] nr [dJ B0,dJ B1]) (hr1:lI w0 [] ng [num (x),num (y),num (z)])
  (hown:∀q∈[]++[],q∈([]:List Nat)∨w0.heap.size≤q) (hnd:([]++[]:List Nat).Nodup) (h:dP (dS 133 [(2,dJ Sp),(3,dJ Sq),(4,num (d)),(5,num (i)),(6,dK nr),(7,dK ng),(14,dJ X),(15,.bool true),(41,.tuple ⟨[dJ W,.bool true]⟩)]) [] [] a w) (hk:dO w0 [] w)
  (hQ:∀a' w',dP (dS 133 [(6,dK nr),(7,dK ng),(14,dJ X),(15,.bool true),(16,dJ W),(17,.bool true)]) [] [] a' w'→dO w0 [] w'→wpList aa (opsOf (jK (dN aY))).toArray Q ([]) a' w'):wpList aa (opsOf (jK (dN aY))).toArray Q ((opsOf (jK (dN aY))).drop 4++([])) a w:=by
 refine uw ([x,y,z,d,i]) ([f]) [B0,B1,Sp,Sq,X,W,A,M] (ops:=opsOf (jK (dN aY))) (o1:=(opsOf (jK (dN aY))).drop 4) (tail:=([])) (w0:=w0) (ex:=[]) (g:=[]) (wt:=[]) (lt:=[]) (t:={}) (ws:=[(nr,0,[dJ B0,dJ B1]),(ng,0,[num (x),num (y),num (z)])]) (fr:=fK 133 [(2,dM 2),(3,dM 3),(4,var 3),(5,var 4),(6,.pointer (some ⟨0,0,some 0⟩)),(7,.pointer (some ⟨1,0,some 0⟩)),(14,dM 4),(15,.bool true),(41,.tuple ⟨[dM 5,.bool true]⟩)]) (H:=[]) (lo:=[]) (wb:=[dU [dM 0,dM 1],dU (vs 0 3)])  (by kernel_rfl) [] [] (by kernel_rfl) (by kernel_rfl) (by exact hnd) ⟨ed _,jo,dR hr0<|dR hr1<|all_nil,(by exact hown),kF,fun _=>⟨all_nil,all_nil,all_nil⟩⟩ h hk hQ
variable {A M:dY} {f:Bool}
theorem ad4 {nc:Nat} (hqt:∀z_∈([⟨40,[.agg ⟨[dM 0,dM 1]⟩,.agg ⟨(vs 0 3)⟩,dM 4],.val (.bool true)⟩]:List Qt),jB aa (gB (w0,[]) ([x,y,z,d,i]) [f] [B0,B1,Sp,Sq,X,W,A,M]) z_) (hr0:lI w0 [] nr [dJ B0,dJ B1]) (hr1:lI w0 [] ng [num (x),num (y),num (z)])
  (hown:∀q∈[]++[],q∈([]:List Nat)∨w0.heap.size≤q) (hnd:([]++[]:List Nat).Nodup) (h:dP (dS 133 [(6,dK nr),(7,dK ng),(14,dJ X),(15,.bool true),(16,dJ W),(17,.bool true)]) [] [] a w) (hk:dO w0 [] w)
  (hQ:∀a' w',dP (dS 133 [(6,dK nr),(7,dK ng),(14,dJ X),(16,dJ W)]) [] [] a' w'→dO w0 [] w'→D.wp aa Q a' w'):(gu [(dZ (sR 3 (dN aY)))] D).wp aa Q a w:=by
 refine uN ([x,y,z,d,i]) ([f]) [B0,B1,Sp,Sq,X,W,A,M] (w0:=w0) (ex:=[]) (g:=[]) (wt:=[]) (lt:=[]) (t:={ QT:=[⟨40,[.agg ⟨[dM 0,dM 1]⟩,.agg ⟨(vs 0 3)⟩,dM 4],.val (.bool true)⟩] }) (ws:=[(nr,0,[dJ B0,dJ B1]),(ng,0,[num (x),num (y),num (z)])]) (fr:=fK 133 [(6,.pointer (some ⟨0,0,some 0⟩)),(7,.pointer (some ⟨1,0,some 0⟩)),(14,dM 4),(15,.bool true),(16,dM 5),(17,.bool true)]) (H:=[]) (lo:=[]) (wb:=[dU [dM 0,dM 1],dU (vs 0 3)])  20 _ [] [] (by kernel_rfl) (by kernel_rfl) (by exact hnd) ⟨ed _,yA hqt,dR hr0<|dR hr1<|all_nil,(by exact hown),kF,fun _=>⟨all_nil,all_nil,all_nil⟩⟩ h hk hQ
theorem ad5 {Sp Sq A M:dY} {d i:Int} {f:Bool}  (hr0:lI w0 [] nr [dJ B0,dJ B1]) (hr1:lI w0 [] ng [num (x),num (y),num (z)])
  (hown:∀q∈[]++[],q∈([]:List Nat)∨w0.heap.size≤q) (hnd:([]++[]:List Nat).Nodup) (h:dP (dS 133 [(6,dK nr),(7,dK ng),(14,dJ X),(16,dJ W)]) [] [] a w) (hk:dO w0 [] w)
  (hQ:∀(a':Act) (w':World) (nc:Nat),(∀q∈([nc]:List Nat),w.heap.size≤q∧q<w'.heap.size)→([]++[]++[nc]++[]:List Nat).Nodup→dP (dS 133 [(6,dK nr),(7,dK ng),(14,dJ X),(16,dJ W),(18,dK nc)]) [(nc,[.bool false],88)] [] a' w'→dO w0 [] w'→D.wp aa Q a' w'):(gu [(dZ (sR 4 (dN aY)))] D).wp aa Q a w:=by
 refine xI ([x,y,z,d,i]) ([f]) [B0,B1,Sp,Sq,X,W,A,M] (w0:=w0) (ex:=[]) (g:=[]) (wt:=[]) (lt:=[]) (t:={}) (ws:=[(nr,0,[dJ B0,dJ B1]),(ng,0,[num (x),num (y),num (z)])]) (fr:=fK 133 [(6,.pointer (some ⟨0,0,some 0⟩)),(7,.pointer (some ⟨1,0,some 0⟩)),(14,dM 4),(16,dM 5)]) (H:=[]) (lo:=[]) (wb:=[dU [dM 0,dM 1],dU (vs 0 3)]) (us':=fun gn nl=>dS 133 [(6,dK nr),(7,dK ng),(14,dJ X),(16,dJ W),(18,dK (gn.getD 0 0))]) (gs':=fun gn nl=>[((gn.getD 0 0),[.bool false],88)]) (ls':=fun gn nl=>[]) 20 _ [0] [] [18] [] (fun gn nl e1 e2=>?_) (by kernel_rfl) (fun gn nl e1 e2 e3=>?_) ⟨ed _,jo,dR hr0<|dR hr1<|all_nil,(by exact hown),kF,fun _=>⟨all_nil,all_nil,all_nil⟩⟩ h hk (fun a' w' gn nl e1 e2 e3 e4 hs hk'=>?_)
 ·match gn,nl,e1,e2 with
  | [nc],[],_,_=>show (_:Option _)=_; kernel_rfl
 ·match gn,nl,e1,e2 with
  | [nc],[],_,_=>exact oP e3
 ·match gn,nl,e1,e2 with
  | [nc],[],_,_ =>
   simp only [bN] at hs
   exact hQ a' w' nc (fun q hq=>e4 q hq) e3 hs hk'
variable {nc:Nat}
theorem ad6 {Sp Sq A M:dY} {d i:Int} {f:Bool}  (hr0:lI w0 [nc] nr [dJ B0,dJ B1]) (hr1:lI w0 [nc] ng [num (x),num (y),num (z)])
  (hown:∀q∈[nc]++[],q∈([nc]:List Nat)∨w0.heap.size≤q) (hnd:([nc]++[]:List Nat).Nodup) (h:dP (dS 133 [(6,dK nr),(7,dK ng),(14,dJ X),(16,dJ W),(18,dK nc)]) [(nc,[.bool false],88)] [] a w) (hk:dO w0 [nc] w)
  (hQ:∀a' w',dP (dS 133 [(6,dK nr),(7,dK ng),(14,dJ X),(16,dJ W),(18,dK nc),(59,dK nc),(60,.agg ⟨[dJ B0,dJ B1]⟩),(61,dJ X)]) [(nc,[.bool false],88)] [] a' w'→dO w0 [nc] w'→wpList aa (opsOf (jT (dN aY))).toArray Q ((opsOf (jT (dN aY))).drop 3) a' w'):wpList aa (opsOf (jT (dN aY))).toArray Q ((opsOf (jT (dN aY))).take 3++((opsOf (jT (dN aY))).drop 3)) a w:=by
 refine uw ([x,y,z,d,i]) ([f]) [B0,B1,Sp,Sq,X,W,A,M] (ops:=opsOf (jT (dN aY))) (o1:=(opsOf (jT (dN aY))).take 3) (tail:=((opsOf (jT (dN aY))).drop 3)) (w0:=w0) (ex:=[nc]) (g:=[]) (wt:=[]) (lt:=[]) (t:={}) (ws:=[(nr,0,[dJ B0,dJ B1]),(ng,0,[num (x),num (y),num (z)])]) (fr:=fK 133 [(6,.pointer (some ⟨0,0,some 0⟩)),(7,.pointer (some ⟨1,0,some 0⟩)),(14,dM 4),(16,dM 5),(18,.pointer (some ⟨0,0,none⟩))]) (H:=[dQ [.bool false] 88]) (lo:=[]) (wb:=[dU [dM 0,dM 1],dU (vs 0 3)])  (by kernel_rfl) [0] [] (by kernel_rfl) (by kernel_rfl) (by exact hnd) ⟨ed _,jo,dR hr0<|dR hr1<|all_nil,(by exact hown),jG,fun _=>⟨all_nil,all_nil,all_nil⟩⟩ h hk hQ
theorem ad7 {Sp Sq X:dY} {d i:Int}  (hr0:lI w0 [nc] nr [dJ B0,dJ B1]) (hr1:lI w0 [nc] ng [num (x),num (y),num (z)])
  (hown:∀q∈[nc]++[],q∈([nc]:List Nat)∨w0.heap.size≤q) (hnd:([nc]++[]:List Nat).Nodup) (h:dP (dS 133 [(6,dK nr),(7,dK ng),(16,dJ W),(18,dK nc),(62,.agg ⟨[dK nc,dJ B0,dJ B1,dJ A,dJ M]⟩)]) [(nc,[.bool (f)],88)] [] a w) (hk:dO w0 [nc] w)
  (hQ:∀(a':Act) (w':World) (nb:Nat),(∀q∈([nb]:List Nat),w.heap.size≤q∧q<w'.heap.size)→([nc]++[]++[nb]++[]:List Nat).Nodup→dP (dS 133 [(6,dK nr),(7,dK ng),(16,dJ W),(18,dK nc),(19,dK nb)]) [(nc,[.bool (f)],88),(nb,[dK nc,dJ B0,dJ B1,dJ A,dJ M],92)] [] a' w'→dO w0 [nc] w'→wpList aa (opsOf (jT (dN aY))).toArray Q ([]) a' w'):wpList aa (opsOf (jT (dN aY))).toArray Q ((opsOf (jT (dN aY))).drop 4++([])) a w:=by
 refine FJ ([x,y,z,d,i]) ([f]) [B0,B1,Sp,Sq,X,W,A,M] (ops:=opsOf (jT (dN aY))) (o1:=(opsOf (jT (dN aY))).drop 4) (tail:=([])) (w0:=w0) (ex:=[nc]) (g:=[]) (wt:=[]) (lt:=[]) (t:={}) (ws:=[(nr,0,[dJ B0,dJ B1]),(ng,0,[num (x),num (y),num (z)])]) (fr:=fK 133 [(6,.pointer (some ⟨0,0,some 0⟩)),(7,.pointer (some ⟨1,0,some 0⟩)),(16,dM 5),(18,.pointer (some ⟨0,0,none⟩)),(62,.agg ⟨[.pointer (some ⟨0,0,none⟩),dM 0,dM 1,dM 6,dM 7]⟩)]) (H:=[dQ [mB 1 [.int .i64 0]] 88]) (lo:=[]) (wb:=[dU [dM 0,dM 1],dU (vs 0 3)]) (us':=fun gn nl=>dS 133 [(6,dK nr),(7,dK ng),(16,dJ W),(18,dK nc),(19,dK (gn.getD 0 0))]) (gs':=fun gn nl=>[(nc,[.bool (f)],88),((gn.getD 0 0),[dK nc,dJ B0,dJ B1,dJ A,dJ M],92)]) (ls':=fun gn nl=>[]) (by kernel_rfl) [0,1] [] [19] [] (fun gn nl e1 e2=>?_) (by kernel_rfl) (fun gn nl e1 e2 e3=>?_) ⟨ed _,jo,dR hr0<|dR hr1<|all_nil,(by exact hown),jG,fun _=>⟨all_nil,all_nil,all_nil⟩⟩ h hk (fun a' w' gn nl e1 e2 e3 e4 hs hk'=>?_)
 ·match gn,nl,e1,e2 with
  | [nb],[],_,_=>show (_:Option _)=_; kernel_rfl
 ·match gn,nl,e1,e2 with
  | [nb],[],_,_=>exact oP e3
 ·match gn,nl,e1,e2 with
  | [nb],[],_,_ =>
   simp only [bN] at hs
   exact hQ a' w' nb (fun q hq=>e4 q hq) e3 hs hk'
theorem WY:Ae (jM (dN aY)) 4 39 [30,31,32,33] 34:=Eg (by kernel_rfl)
theorem WZ:Ae (jK (dN aY)) 3 26 [38,39,40] 41:=Eg (by kernel_rfl)
theorem WW:Ae (jT (dN aY)) 3 41 [59,60,61] 62:=Eg (by kernel_rfl)
end Go.Proofs
end
section
namespace Go.Proofs
open Go.Sm Go.RowKit En
def MD.mb (m:MD):MB:=⟨m.wt,m.ks,m.vs,(none,0,0),(none,0,0)⟩
theorem PO (m:MB) (u:V6) (st:List (Int×Int)×Bool):∀i,jI m u st i=jI m.md.mb u st i
 | 0=>rfl
 | i+1=>by unfold jI; rw [PO m u st i]; rfl
theorem Yg (ms:List MB) (k:Nat):(ms.map fun m=>m.md.mb).getD k .z=(ms.getD k .z).md.mb:=by
 simp only [List.getD,bY]
 cases ms[k]?<;>rfl
theorem EL (ms:List MB) (us:List V6) (st:List (Int×Int)×Bool):∀k,gm ms us st k=gm (ms.map fun m=>m.md.mb) us st k
 | 0=>rfl
 | k+1=>by
  unfold gm
  rw [EL ms us st k,Yg,PO]
  rfl
theorem UK (rs:List (Int×Int)) (axs:List V6) (js:List JV):∀(ms:List MB) (f:Bool),BN rs axs js f ms=BN rs axs js f (ms.map fun m=>m.md.mb)
 | [],_=>rfl
 | m::ms,f=>by
  unfold BN
  exact UK rs axs js ms _
theorem Fa (ms:List MB):(ms.map fun m=>m.md.mb)=(ms.map MB.md).map MD.mb:=by simp [List.map_map,Function.comp]
theorem UN (rs:List (Int×Int)) (ms:List MB) (n:Nat):yY rs ms n=yY rs ((ms.map MB.md).map MD.mb) n:=by
 unfold yY
 rw [EL,Fa,dF,dF,show zw rs ((ms.map MB.md).map MD.mb)=zw rs ms by simp [zw,List.map_map,Function.comp]; exact fun _ _=>rfl]
theorem UO (rs:List (Int×Int)) (axs:List V6) (js:List JV) (ms:List MB) (n:Nat):yZ rs axs js ms n=yZ rs axs js ((ms.map MB.md).map MD.mb) n:=by
 unfold yZ
 rw [EL,Fa,dF,dF,show zX rs axs js ((ms.map MB.md).map MD.mb)=zX rs axs js ms by simp [zX,List.map_map,Function.comp]; exact fun _ _=>rfl]
theorem Q5 (ms:List MB) (n:Nat) (x y z:Int):iU ms n x y z=iU ((ms.map MB.md).map MD.mb) n x y z:=by
 unfold iU
 rw [EL,Fa,dF,dF]
theorem aef (rs:List (Int×Int)) (axs:List V6) (js:List JV) (ms:List MB) (n:Nat) (x y z:Int) (f:Bool):BM rs axs js ms n x y z f=BM rs axs js ((ms.map MB.md).map MD.mb) n x y z f:=by
 unfold BM
 rw [UK,Fa,UN,UO,Q5]
structure Mx where
 fl:Bool
 us:List (Int×Int)
 xs:List (Int×Int)
 gs:List (Int×Int)
def acs (js:List JV) (ps qs:List Int) (d i:Int):List iF:=jH [] js (nX ps qs d i)
def xq (js:List JV) (mvs:List MV) (ps qs:List Int) (d i x y z:Int):Mx :=
 (fun (Ps:List iF) (rs:List (Int×Int))=>(fun (b:List MD×Bool)=>⟨BM rs (nu js Ps) js (b.1.map MD.mb) js.length x y z b.2,(yY rs (b.1.map MD.mb) js.length).1,(yZ rs (nu js Ps) js (b.1.map MD.mb) js.length).1,(iU (b.1.map MD.mb) js.length x y z).1.map iP⟩) (wG js Ps mvs false)) (acs js ps qs d i) (gZ js ps qs js.length)
def VB (w:World) (n:Nat) (t:Mx) (e:Ending) (w':World):Prop:=Below w.heap.size w w'∧(t.fl=true→e=.returned (.tuple ⟨[.slice none 0 0,.bool false]⟩))∧(t.fl=false→∃gl,w.heap.size≤gl∧gl<w'.heap.size∧e=.returned (.tuple ⟨[.slice (some ⟨gl,0,none⟩) n n,.bool true]⟩)∧w'.heap[gl]?=some (.cells ⟨xu t.us t.xs t.gs⟩ 47 (0,0)))
theorem Kb {t:Nat} {v:Value}:∀{l:List (Nat×Value)},lookO t l=some v→(t,v)∈l
 | [],h=>by cases h
 | (j,x)::l,h=>by
  unfold lookO at h
  cases hb:ay t j with
  | true =>
   rw [hb] at h
   simp only [cond_true,ak] at h
   subst h
   rw [bf hb]
   exact aA
  | false =>
   rw [hb] at h
   exact aT _ (Kb h)
variable {n:Nat} {gs:List gQ} {w:World}
theorem adD {m:Nat} {xs:List Value} {l:List (Nat×Value)} (hn:xs.length+m=n) (hl:∀p∈l,xs[p.1]?=some p.2) (hg:∀x∈gs,w.heap[x.1]?=some (.cells ⟨x.2.1⟩ x.2.2 (0,0))) (nd:(gs.map (·.1)).Nodup):dP (dS n l) gs [] { tmps:=xs.toArray++dn m undef,defers:=[] } w:=by
 have hst:=qF (us:=xs.map some++ag6 m (some undef)) (w:=w) rfl hg nd
 refine ⟨rfl,by simp [dS,hn],fun t u e=>hst.fr t u ?_,hg,hst.lo,hst.nd⟩
 simp only [dS,bY,aR] at e
 obtain ⟨y,y1,y2⟩:=e
 obtain ⟨hlt,hy⟩:=ai.1 y1
 simp only [List.getElem_range] at hy
 subst hy
 have h1:=hl _ (Kb y2)
 simp only at h1
 have:=(ai.1 h1).1
 rw [aH (by simpa using this),bY,h1]; rfl
variable {b:Nat} {vs:List Value} {ex:List Nat}
theorem Q3 {us:List (Option Value)} {ls:List gQ} {a:Act} (h:dP us gs ls a w) {e:TypeId} (hm:(b,vs,e)∈ls) (hl:0<vs.length) (hx:b∉ex):lI w ex b vs:=by
 have:=h.lo _ hm
 exact ⟨⟨(aB.1 this).1,hx⟩,M0 this hl⟩
theorem lI.mv {w':World} {ex2:List Nat} (h:lI w ex b vs) (hk:dO w ex w') (hx:b∉ex2):lI w' ex2 b vs:=⟨⟨aC h.1.1 hk.size,hx⟩,hk.win h.1.1 h.1.2 h.2⟩
variable {B0 B1:dY} {js:List JV} {mvs:List MV}
theorem jW.Z8 {nc:Nat} (h:jW w [] B0 B1 js mvs) (h1:∀a,B0.1=some a→a.block≠nc) (h2:∀a,B1.1=some a→mvs≠[]→a.block≠nc):jW w [nc] B0 B1 js mvs :=
 { h with xB:=fun a ha=>⟨by simpa using h1 a ha,(h.xB a ha).2⟩,xM:=fun a ha h0=>⟨by simpa using h2 a ha h0,(h.xM a ha h0).2⟩ }
theorem acv {f:Func} {R R':Ending→World→Prop} (h:∀e w',R e w'→R' e w'):∀(e:Exit) (a:Act) (w:World),bodyPost aa f R e a w→bodyPost aa f R' e a w:=fun e a w hq=>by
 cases e with
 | normal=>obtain ⟨h1,v,h2,h3⟩:=hq; exact ⟨h1,v,h2,h _ _ h3⟩
 | ret=>obtain ⟨h1,v,h2,h3⟩:=hq; exact ⟨h1,v,h2,h _ _ h3⟩
 | panic c=>obtain ⟨h1,h2⟩:=hq; exact ⟨h1,h _ _ h2⟩
 | outgrown=>exact h _ _ hq
 | _=>exact hq
theorem QO:∀(ps qs:List Int) (d i:Int),qs.length=ps.length→(nX ps qs d i).length=ps.length
 | [],[],_,_,_=>rfl
 | _::ps,_::qs,d,i,h=>by
  unfold nX
  rw [dB,QO ps qs d i (by simpa using h),dB]
 | [],_::_,_,_,h=>by simp at h
 | _::_,[],_,_,h=>by simp at h
variable {bs:List (Int×Int)}
theorem WN {g:Nat} (h:w.heap[g]?=some (.cells ⟨bs.flatMap fun b=>[num b.1,num b.2]⟩ 64 (0,0))):Sl w ((some ⟨g,0,none⟩,n,n):dY).1 2 (jE bs):=fun _=>⟨g,0,rfl,(aB.1 h).1,fun i r hi k v hk=>by
 have:=flat_get (jE bs) 2 (fun r hr=>by obtain ⟨P,_,rfl⟩:=aeZ.1 hr; rfl) i r hi k v hk
 simpa [bS,h,List.flatMap,jE] using this⟩
theorem acn {Sp Sq:dY} {ps qs:List Int} {d i:Int} (h1:1≤ps.length) (h3:ps.length≤3) (hpq:qs.length=ps.length) (hP:Sp.2.1=ps.length) (hQ:Sq.2.1=qs.length) (sP:Sl w Sp.1 1 (fF ps)) (sQ:Sl w Sq.1 1 (fF qs)) (hd:0≤d∧d≤20) (hi:0≤i∧i<2^d.toNat) (bp:∀x∈ps++qs,-2147483648≤x∧x≤2147483648) :
  Calls aa 39 #[dJ Sp,dJ Sq,num d,num i] w fun r w'=>Below w.heap.size w w'∧∃gl,w.heap.size≤gl∧gl<w'.heap.size∧r=.returned (kC true gl ps.length ps.length)∧w'.heap[gl]?=some (.cells ⟨(nX ps qs d i).flatMap fun b=>[num b.1,num b.2]⟩ 64 (0,0)):=by
 have hw:bg.wrap (1*2^(min d.toNat 64))=2^d.toNat:=by
  rw [show min d.toNat 64=d.toNat by omega,Int.one_mul]
  refine dz _ ?_
  have h2:(2:Nat)^d.toNat≤2^20:=Nat.pow_le_pow_right (by decide) (by omega)
  have h3:((2^d.toNat:Nat):Int)≤((2^20:Nat):Int):=by exact_mod_cast h2
  have h4:(0:Int)<2^d.toNat:=Int.pow_pos (by decide)
  simp at h3
  omega
 match ps,qs,h1,h3,hpq with
 | [p0],[q0],_,_,_ =>
  obtain ⟨bp0,op0,rp0⟩:=iy (i:=0) (ex:=[]) sP (by simp [hP,fF]) (show (fF [p0])[0]?=some [num p0] from rfl) (aO _) (fun a ha=>by simp)
  obtain ⟨bq0,oq0,rq0⟩:=iy (i:=0) (ex:=[]) sQ (by simp [hQ,fF]) (show (fF [q0])[0]?=some [num q0] from rfl) (aO _) (fun a ha=>by simp)
  have b_p0:=bp p0 (by simp)
  have b_q0:=bp q0 (by simp)
  exact aci hP hQ (by simp; omega) (by simp; omega) (by simp; omega) (by simp; omega) (by simp; omega) (by simp; omega) (by simp; omega) (by simp; omega) (by rw [hw]; simp; omega) rp0 rq0 (kJ w [])
 | [p0,p1],[q0,q1],_,_,_ =>
  obtain ⟨bp0,op0,rp0⟩:=iy (i:=0) (ex:=[]) sP (by simp [hP,fF]) (show (fF [p0,p1])[0]?=some [num p0] from rfl) (aO _) (fun a ha=>by simp)
  obtain ⟨bp1,op1,rp1⟩:=iy (i:=1) (ex:=[]) sP (by simp [hP,fF]) (show (fF [p0,p1])[1]?=some [num p1] from rfl) (aO _) (fun a ha=>by simp)
  obtain ⟨bq0,oq0,rq0⟩:=iy (i:=0) (ex:=[]) sQ (by simp [hQ,fF]) (show (fF [q0,q1])[0]?=some [num q0] from rfl) (aO _) (fun a ha=>by simp)
  obtain ⟨bq1,oq1,rq1⟩:=iy (i:=1) (ex:=[]) sQ (by simp [hQ,fF]) (show (fF [q0,q1])[1]?=some [num q1] from rfl) (aO _) (fun a ha=>by simp)
  have b_p0:=bp p0 (by simp)
  have b_p1:=bp p1 (by simp)
  have b_q0:=bp q0 (by simp)
  have b_q1:=bp q1 (by simp)
  exact acj hP hQ (by simp; omega) (by simp; omega) (by simp; omega) (by simp; omega) (by simp; omega) (by simp; omega) (by simp; omega) (by simp; omega) (by simp; omega) (by simp; omega) (by simp; omega) (by simp; omega) (by rw [hw]; simp; omega) rp0 rp1 rq0 rq1 (kJ w [])
 | [p0,p1,p2],[q0,q1,q2],_,_,_ =>
  obtain ⟨bp0,op0,rp0⟩:=iy (i:=0) (ex:=[]) sP (by simp [hP,fF]) (show (fF [p0,p1,p2])[0]?=some [num p0] from rfl) (aO _) (fun a ha=>by simp)
  obtain ⟨bp1,op1,rp1⟩:=iy (i:=1) (ex:=[]) sP (by simp [hP,fF]) (show (fF [p0,p1,p2])[1]?=some [num p1] from rfl) (aO _) (fun a ha=>by simp)
  obtain ⟨bp2,op2,rp2⟩:=iy (i:=2) (ex:=[]) sP (by simp [hP,fF]) (show (fF [p0,p1,p2])[2]?=some [num p2] from rfl) (aO _) (fun a ha=>by simp)
  obtain ⟨bq0,oq0,rq0⟩:=iy (i:=0) (ex:=[]) sQ (by simp [hQ,fF]) (show (fF [q0,q1,q2])[0]?=some [num q0] from rfl) (aO _) (fun a ha=>by simp)
  obtain ⟨bq1,oq1,rq1⟩:=iy (i:=1) (ex:=[]) sQ (by simp [hQ,fF]) (show (fF [q0,q1,q2])[1]?=some [num q1] from rfl) (aO _) (fun a ha=>by simp)
  obtain ⟨bq2,oq2,rq2⟩:=iy (i:=2) (ex:=[]) sQ (by simp [hQ,fF]) (show (fF [q0,q1,q2])[2]?=some [num q2] from rfl) (aO _) (fun a ha=>by simp)
  have b_p0:=bp p0 (by simp)
  have b_p1:=bp p1 (by simp)
  have b_p2:=bp p2 (by simp)
  have b_q0:=bp q0 (by simp)
  have b_q1:=bp q1 (by simp)
  have b_q2:=bp q2 (by simp)
  exact ack hP hQ (by simp; omega) (by simp; omega) (by simp; omega) (by simp; omega) (by simp; omega) (by simp; omega) (by simp; omega) (by simp; omega) (by simp; omega) (by simp; omega) (by simp; omega) (by simp; omega) (by simp; omega) (by simp; omega) (by simp; omega) (by simp; omega) (by rw [hw]; simp; omega) rp0 rp1 rp2 rq0 rq1 rq2 (kJ w [])
 | [],_,h1,_,_=>exact absurd h1 (by simp)
 | _::_::_::_::_,_,_,h3,_=>exact absurd h3 (by simp)
 | [_],[],_,_,hl | [_],_::_::_,_,_,hl | [_,_],[],_,_,hl | [_,_],[_],_,_,hl | [_,_],_::_::_::_,_,_,hl | [_,_,_],[],_,_,hl | [_,_,_],[_],_,_,hl | [_,_,_],[_,_],_,_,hl | [_,_,_],_::_::_::_::_,_,_,hl=>exact absurd hl (by simp)
def MQ (js:List JV) (bs:List (Int×Int)):Prop:=∀(i:Nat) (j:JV) (b:Int×Int),js[i]?=some j→bs[i]?=some b→ou b.1 b.2 j.lo j.hi=true
theorem adH {X:dY} {x y z:Int} (h:jW w ex B0 B1 js mvs) (hl:bs.length=js.length) (hX:X.2.1=bs.length) (sX:Sl w X.1 2 (jE bs)) (xX:∀a,X.1=some a→a.block∉ex) (hv:MQ js bs) (hx:-16777216≤x∧x≤16777216) (hy:-16777216≤y∧y≤16777216) (hz:-16777216≤z∧z≤16777216) :
  Calls aa 40 #[.agg ⟨[dJ B0,dJ B1]⟩,.agg ⟨[num x,num y,num z]⟩,dJ X] w fun e w'=>e=.returned (.bool true)∧Below w.heap.size w w':=by
 have hn:=h.n
 match js,bs,h,hl,hX,sX,hv,hn with
 | [j0],[x0],h,_,hX,sX,hv,_ =>
  obtain ⟨bB0,oB0,rB0⟩:=iy (i:=0) (ex:=ex) h.sB (by simp [h.b0]) (show ([j0].map JV.vals)[0]?=some j0.vals from rfl) (aO _) (fun a ha=>(h.xB a ha).1)
  obtain ⟨bX0,oX0,rX0⟩:=iy (i:=0) (ex:=ex) sX (by simp [hX,jE]) (show (jE [x0])[0]?=some [num x0.1,num x0.2] from rfl) (aO _) xX
  exact adE h.b0 hX (by simp; omega) (by simp; omega) (by simp; omega) (by simp; omega) (by simp; omega) (by simp; omega) (hv 0 j0 x0 rfl rfl) rB0 rX0 (fun z_ hz_=>by simp only [ag,ae,or_false] at hz_; subst hz_; exact qI h) (kJ w ex)
 | [j0,j1],[x0,x1],h,_,hX,sX,hv,_ =>
  obtain ⟨bB0,oB0,rB0⟩:=iy (i:=0) (ex:=ex) h.sB (by simp [h.b0]) (show ([j0,j1].map JV.vals)[0]?=some j0.vals from rfl) (aO _) (fun a ha=>(h.xB a ha).1)
  obtain ⟨bX0,oX0,rX0⟩:=iy (i:=0) (ex:=ex) sX (by simp [hX,jE]) (show (jE [x0,x1])[0]?=some [num x0.1,num x0.2] from rfl) (aO _) xX
  obtain ⟨bB1,oB1,rB1⟩:=iy (i:=1) (ex:=ex) h.sB (by simp [h.b0]) (show ([j0,j1].map JV.vals)[1]?=some j1.vals from rfl) (aO _) (fun a ha=>(h.xB a ha).1)
  obtain ⟨bX1,oX1,rX1⟩:=iy (i:=1) (ex:=ex) sX (by simp [hX,jE]) (show (jE [x0,x1])[1]?=some [num x1.1,num x1.2] from rfl) (aO _) xX
  exact adF h.b0 hX (by simp; omega) (by simp; omega) (by simp; omega) (by simp; omega) (by simp; omega) (by simp; omega) (hv 0 j0 x0 rfl rfl) (hv 1 j1 x1 rfl rfl) rB0 rB1 rX0 rX1 (fun z_ hz_=>by simp only [ag,ae,or_false] at hz_; subst hz_; exact qI h) (kJ w ex)
 | [j0,j1,j2],[x0,x1,x2],h,_,hX,sX,hv,_ =>
  obtain ⟨bB0,oB0,rB0⟩:=iy (i:=0) (ex:=ex) h.sB (by simp [h.b0]) (show ([j0,j1,j2].map JV.vals)[0]?=some j0.vals from rfl) (aO _) (fun a ha=>(h.xB a ha).1)
  obtain ⟨bX0,oX0,rX0⟩:=iy (i:=0) (ex:=ex) sX (by simp [hX,jE]) (show (jE [x0,x1,x2])[0]?=some [num x0.1,num x0.2] from rfl) (aO _) xX
  obtain ⟨bB1,oB1,rB1⟩:=iy (i:=1) (ex:=ex) h.sB (by simp [h.b0]) (show ([j0,j1,j2].map JV.vals)[1]?=some j1.vals from rfl) (aO _) (fun a ha=>(h.xB a ha).1)
  obtain ⟨bX1,oX1,rX1⟩:=iy (i:=1) (ex:=ex) sX (by simp [hX,jE]) (show (jE [x0,x1,x2])[1]?=some [num x1.1,num x1.2] from rfl) (aO _) xX
  obtain ⟨bB2,oB2,rB2⟩:=iy (i:=2) (ex:=ex) h.sB (by simp [h.b0]) (show ([j0,j1,j2].map JV.vals)[2]?=some j2.vals from rfl) (aO _) (fun a ha=>(h.xB a ha).1)
  obtain ⟨bX2,oX2,rX2⟩:=iy (i:=2) (ex:=ex) sX (by simp [hX,jE]) (show (jE [x0,x1,x2])[2]?=some [num x2.1,num x2.2] from rfl) (aO _) xX
  exact adG h.b0 hX (by simp; omega) (by simp; omega) (by simp; omega) (by simp; omega) (by simp; omega) (by simp; omega) (hv 0 j0 x0 rfl rfl) (hv 1 j1 x1 rfl rfl) (hv 2 j2 x2 rfl rfl) rB0 rB1 rB2 rX0 rX1 rX2 (fun z_ hz_=>by simp only [ag,ae,or_false] at hz_; subst hz_; exact qI h) (kJ w ex)
 | [],_,_,_,_,_,_,hn=>exact absurd hn.1 (by simp)
 | _::_::_::_::_,_,_,_,_,_,_,hn=>exact absurd hn.2 (by simp)
 | [_],[],_,hl,_,_,_,_ | [_],_::_::_,_,hl,_,_,_,_ | [_,_],[],_,hl,_,_,_,_ | [_,_],[_],_,hl,_,_,_,_ | [_,_],_::_::_::_,_,hl,_,_,_,_ | [_,_,_],[],_,hl,_,_,_,_ | [_,_,_],[_],_,hl,_,_,_,_ | [_,_,_],[_,_],_,hl,_,_,_,_ | [_,_,_],_::_::_::_::_,_,hl,_,_,_,_=>exact absurd hl (by simp)
end Go.Proofs
end
section
namespace Go.Proofs
open Go.Sm Go.RowKit En
theorem WQ:(dN aY)=gu [(dZ (dN aY))] (.seq (jM (dN aY)) (.seq (jK (dN aY)) (gu [(dZ (sR 3 (dN aY)))] (gu [(dZ (sR 4 (dN aY)))] (.seq (jT (dN aY)) (sR 6 (dN aY))))))):=by kernel_rfl
variable {w:World} {ex:List Nat}
theorem CX {w':World} (h:dO w ex w') (hx:∀g∈ex,w'.heap[g]?=w.heap[g]?):dO w [] w':=⟨h.os,h.tape,h.output,h.size,fun g h1 _=>by by_cases hm:g∈ex; exact hx g hm; exact h.frame g h1 hm⟩
theorem adB {us:List (Option Value)} {ls:List gQ} {a:Act} (h:dP us [] ls a w) {n:Nat} {cs:List Value} {e:TypeId} (hc:w.heap[n]?=some (.cells ⟨cs⟩ e (0,0))) (hn:n∉ls.map (·.1)):dP us [(n,cs,e)] ls a w :=
 ⟨h.df,h.sz,h.fr,fun x hx=>by simp only [ag,ae,or_false] at hx; subst hx; exact hc,h.lo,by
  have:=h.nd
  simp only [ae9,dD] at this
  simp only [dI,ae9,dw,dD]
  exact ag5.2 ⟨hn,this⟩⟩
theorem QN:∀(ps qs:List Int) (d i:Int) (k:Nat) (b:Int×Int),(nX ps qs d i)[k]?=some b→∃p q,ps[k]?=some p∧qs[k]?=some q∧b=(pM p q d i,pK p q d i)
 | [],_,_,_,k,b,h=>by simp [nX] at h
 | _::_,[],_,_,k,b,h=>by simp [nX] at h
 | p::ps,q::qs,d,i,k,b,h=>by
  unfold nX at h
  cases k with
  | zero=>simp at h; exact ⟨p,q,rfl,rfl,h.symm⟩
  | succ k=>simpa using QN ps qs d i k b (by simpa using h)
variable {js:List JV} {ps:List Int}
theorem EO (jb:∀(k:Nat) (j:JV),js[k]?=some j→-4194304≤j.lo∧j.hi≤4194304) (h:mi js ps):∀(k:Nat) (p:Int),ps[k]?=some p→-4194304≤p∧p≤4194304:=fun k p hp=>by
 have hk:=(ai.1 hp).1
 obtain ⟨j,hj⟩:∃j,js[k]?=some j:=⟨_,ah (by rw [h.1]; exact hk)⟩
 have h1:=h.2 k j p hj hp
 have h2:=jb k j hj
 omega
variable {qs:List Int} {d i:Int}
theorem aco (jb:∀(k:Nat) (j:JV),js[k]?=some j→-4194304≤j.lo∧j.hi≤4194304) (ip:mi js ps) (iq:mi js qs) (hd:0≤d∧d≤20) (hi:0≤i∧i<2^d.toNat):∀(k:Nat) (j:JV) (b:Int×Int),js[k]?=some j→(nX ps qs d i)[k]?=some b→(j.lo≤b.1∧b.1≤b.2∧b.2≤j.hi)∧-4194304≤j.lo∧j.hi≤4194304:=fun k j b hj hb=>by
 obtain ⟨p,q,hp,hq,rfl⟩:=QN _ _ _ _ _ _ hb
 have h1:=EO jb ip k p hp
 have h2:=EO jb iq k q hq
 have h3:=ip.2 k j p hj hp
 have h4:=iq.2 k j q hj hq
 obtain ⟨m1,m2,m3⟩:=acp h1 h2 hd hi
 refine ⟨⟨?_,m2,?_⟩,jb k j hj⟩
 ·simp only; omega
 ·simp only; omega
variable {B0 B1 Sp Sq:dY} {mvs:List MV}
theorem acF (h:jW w ex B0 B1 js mvs) (hP:Sp.2.1=ps.length) (hQ:Sq.2.1=qs.length) (sP:Sl w Sp.1 1 (fF ps)) (sQ:Sl w Sq.1 1 (fF qs)) (ip:mi js ps) (iq:mi js qs) :
  Calls aa 26 #[.agg ⟨[dJ B0,dJ B1]⟩,dJ Sp,dJ Sq] w fun e w'=>Below w.heap.size w w'∧∃W:dY,e=.returned (.tuple ⟨[dJ W,.bool true]⟩)∧W.2.1=(gZ js ps qs js.length).length∧Sl w' W.1 2 (rH (gZ js ps qs js.length)):=by
 obtain ⟨oa,n,c⟩:=B0
 obtain ⟨om,m,cm⟩:=B1
 obtain ⟨op,np,cp⟩:=Sp
 obtain ⟨oq,nq,cq⟩:=Sq
 have h1:=h.b0; have h2:=h.b1
 simp only at h1 h2 hP hQ
 subst h1 h2 hP hQ
 have hn:=h.n
 refine (acE oa om op oq c cm cp cq js mvs ps qs w (by omega) (by have:=h.m; omega) (by have:=ip.1; omega) (by have:=iq.1; omega) h.sB h.sM sP sQ).mono fun e w' hr=>?_
 obtain ⟨hb,hr⟩:=hr
 rcases hr with ⟨hno,_⟩ | ⟨_,oa',cap,rfl,hs⟩
 ·exact absurd ⟨⟨h.ok,ip⟩,h.ok,iq⟩ hno
 ·exact ⟨hb,(oa',_,cap),rfl,rfl,hs⟩
theorem Dc {t:Nat×Value}:∀{l:List (Nat×Value)},t∈l→(l.map (·.1)).Nodup→lookO t.1 l=some t.2
 | [],h,_=>by cases h
 | (j,x)::l,h,nd=>by
  have nd':=ag5.1 (show (j::l.map (·.1)).Nodup from nd)
  unfold lookO
  rcases ag.1 h with r | r
  ·subst r; simp
  ·have hne:ay t.1 j=false:=by
    cases hb:ay t.1 j with
    | false=>rfl
    | true=>exact absurd (List.mem_map_of_mem (f:=(·.1)) r) (by rw [bf hb]; exact nd'.1)
   rw [hne]
   exact Dc r nd'.2
theorem WI (js:List JV) (Ps:List iF) (mvs:List MV) (f:Bool):(wG js Ps mvs f).1.length=mvs.length:=by
 have:∀(l:List MV) (acc:List MD×Bool),(l.foldl (yt js Ps) acc).1.length=acc.1.length+l.length:=by
  intro l
  induction l with
  | nil=>intro acc; simp
  | cons m l ih=>intro acc; simp only [List.foldl_cons,ih,dB,yt,afa,aeT]; omega
 simpa [wG] using this mvs ([],f)
theorem GX {x y z:Int} (h:jW w [] B0 B1 js mvs) (hm2:mvs.length≤2) (hP:Sp.2.1=ps.length) (hQ:Sq.2.1=qs.length) (sP:Sl w Sp.1 1 (fF ps)) (sQ:Sl w Sq.1 1 (fF qs)) (ip:mi js ps) (iq:mi js qs) (hd:0≤d∧d≤20) (hi:0≤i∧i<2^d.toNat)
  (hx:-16777216≤x∧x≤16777216) (hy:-16777216≤y∧y≤16777216) (hz:-16777216≤z∧z≤16777216) :
  Calls aa 20 #[.agg ⟨[dJ B0,dJ B1]⟩,.agg ⟨[num x,num y,num z]⟩,dJ Sp,dJ Sq,num d,num i] w (VB w js.length (xq js mvs ps qs d i x y z)):=by
 have hn:=h.n
 have hpl:=ip.1
 have hql:=iq.1
 have jb:∀(k:Nat) (j:JV),js[k]?=some j→-4194304≤j.lo∧j.hi≤4194304:=fun k j hk=>Pp (h.ok.2.1 k j hk)
 have hbox:=aco jb ip iq hd hi
 have hbl:(nX ps qs d i).length=js.length:=by rw [QO _ _ _ _ (by omega)]; omega
 have hin:MQ js (nX ps qs d i):=fun k j b hj hb=>by
  obtain ⟨⟨a1,a2,a3⟩,a4,a5⟩:=hbox k j b hj hb
  unfold ou qB fC
  simp only [decide_eq_true (show -2147483648≤b.1 by omega),decide_eq_true a2,decide_eq_true (show b.2≤2147483648 by omega),decide_eq_true (show -2147483648≤j.lo by omega),decide_eq_true (show j.lo≤j.hi by omega),decide_eq_true (show j.hi≤2147483648 by omega),decide_eq_true a1,decide_eq_true a3,cond_true]
 have hvd:∀b∈nX ps qs d i,fC b.1 b.2=true:=fun b hb=>by
  obtain ⟨k,hk⟩:=cZ hb
  have hkl:=(ai.1 hk).1
  obtain ⟨j,hj⟩:∃j,js[k]?=some j:=⟨_,ah (by omega)⟩
  obtain ⟨⟨a1,a2,a3⟩,a4,a5⟩:=hbox k j b hj hk
  unfold fC
  simp only [decide_eq_true (show -2147483648≤b.1 by omega),decide_eq_true a2,decide_eq_true (show b.2≤2147483648 by omega),cond_true]
 have bpq:∀x∈ps++qs,-2147483648≤x∧x≤2147483648:=fun x hx=>by
  rcases bH.1 hx with r | r<;>obtain ⟨k,hk⟩:=cZ r
  ·have:=EO jb ip k x hk; omega
  ·have:=EO jb iq k x hk; omega
 refine calls_of_wp Tryz.func20 (c:=(dN aY)) (by kernel_rfl) ?_
 rw [WQ]
 have s0:dP (dS 133 [(0,.agg ⟨[dJ B0,dJ B1]⟩),(1,.agg ⟨[num (x),num (y),num (z)]⟩),(2,dJ Sp),(3,dJ Sq),(4,num (d)),(5,num (i))]) [] [] { tmps:=#[.agg ⟨[dJ B0,dJ B1]⟩,.agg ⟨[num x,num y,num z]⟩,dJ Sp,dJ Sq,num d,num i]++dn (aY.ntmps - 6) undef,defers:=[] } w :=
  adD (n:=133) (m:=127) (xs:=[.agg ⟨[dJ B0,dJ B1]⟩,.agg ⟨[num x,num y,num z]⟩,dJ Sp,dJ Sq,num d,num i]) rfl (fun p hp=>by
   simp only [ag,ae,or_false] at hp
   rcases hp with rfl | rfl | rfl | rfl | rfl | rfl<;>rfl) (fun x hx=>by cases hx) (by simp)
 refine adY (w0:=w) (X:=(none,0,0)) (W:=(none,0,0)) (A:=(none,0,0)) (M:=(none,0,0)) (f:=false) (fun q hq=>by cases hq) (by simp) s0 (dO.refl w _) fun a1 w1 nr ng hn1 nd1 s1 k1=>?_
 have r1:lI w1 [] nr [dJ B0,dJ B1]:=Q3 (e:=35) s1 (by simp) (by simp) (by simp)
 have r2:lI w1 [] ng [num x,num y,num z]:=Q3 (e:=40) s1 (by simp) (by simp) (by simp)
 have s1':=dP.sub (l':=[(2,dJ Sp),(3,dJ Sq),(4,num (d)),(5,num (i)),(6,dK nr),(7,dK ng)]) (gs':=[]) (ls':=[]) s1 (fun x hx=>by
  simp only [ag,ae,or_false] at hx
  rcases hx with rfl | rfl | rfl | rfl | rfl | rfl<;>rfl) (fun x hx=>(by cases hx)) (fun x hx=>by cases hx) (by simp)
 refine wp_seq (yC (by kernel_rfl) (xN 4 ?_))
 refine adZ (w0:=w1) (X:=(none,0,0)) (W:=(none,0,0)) (A:=(none,0,0)) (M:=(none,0,0)) (f:=false) (nc:=0) (Sp:=Sp) (Sq:=Sq) (d:=d) (i:=i) r1 r2 (fun q hq=>by cases hq) (by simp) s1' (dO.refl w1 _) fun a2 w2 s2 k2=>?_
 have K2:dO w [] w2:=k1.trans k2
 have F2:=nQ K2
 refine Eh WY s2 rfl (acn (by omega) (by omega) (by omega) hP hQ (l8 sP F2 (kX _) fun a ha _=>by simp) (l8 sQ F2 (kX _) fun a ha _=>by simp) hd hi bpq) fun e w3 hp=>?_
 obtain ⟨hb3,gl,g1,g2,rfl,g4⟩:=hp
 have k3:=uo hb3
 refine ⟨_,rfl,?_⟩
 have s3:=yX (BF (BG s2 fun q hq=>k3.frame q (qE s2 q hq) (by simp)) 34 (kC true gl ps.length ps.length))
 have s3':=dP.sub (l':=[(2,dJ Sp),(3,dJ Sq),(4,num (d)),(5,num (i)),(6,dK nr),(7,dK ng),(34,.tuple ⟨[dJ (some ⟨gl,0,none⟩,ps.length,ps.length),.bool true]⟩)]) (gs':=[]) (ls':=[]) s3 (fun x hx=>by
  simp only [ag,ae,or_false] at hx
  rcases hx with rfl | rfl | rfl | rfl | rfl | rfl | rfl<;>rfl) (fun x hx=>(by cases hx)) (fun x hx=>by cases hx) (by simp)
 refine y9 (ad1 (w0:=w3) (X:=(some ⟨gl,0,none⟩,ps.length,ps.length)) (W:=(none,0,0)) (A:=(none,0,0)) (M:=(none,0,0)) (f:=false) (nc:=0) (Sp:=Sp) (Sq:=Sq) (d:=d) (i:=i) (r1.mv (k2.trans k3) (by simp)) (r2.mv (k2.trans k3) (by simp)) (fun q hq=>by cases hq) (by simp) s3' (dO.refl w3 _) fun a4 w4 s4 k4=>?_)
 have sX3:Sl w3 ((some ⟨gl,0,none⟩,ps.length,ps.length):dY).1 2 (jE (nX ps qs d i)):=WN g4
 refine wp_seq (yC (by kernel_rfl) (xN 3 ?_))
 refine ad2 (w0:=w4) (X:=(some ⟨gl,0,none⟩,ps.length,ps.length)) (W:=(none,0,0)) (A:=(none,0,0)) (M:=(none,0,0)) (f:=false) (nc:=0) (Sp:=Sp) (Sq:=Sq) (d:=d) (i:=i) (r1.mv ((k2.trans k3).trans k4) (by simp)) (r2.mv ((k2.trans k3).trans k4) (by simp)) (fun q hq=>by cases hq) (by simp) s4 (dO.refl w4 _) fun a5 w5 s5 k5=>?_
 have K5:dO w [] w5:=((K2.trans k3).trans k4).trans k5
 have F5:=nQ K5
 refine Eh WZ s5 rfl (acF (h.fz F5) hP hQ (l8 sP F5 (kX _) fun a ha _=>by simp) (l8 sQ F5 (kX _) fun a ha _=>by simp) ip iq) fun e w6 hr=>?_
 obtain ⟨hb6,W,rfl,hWl,sW6⟩:=hr
 have k6:=uo hb6
 refine ⟨_,rfl,?_⟩
 have s6:=yX (BF (BG s5 fun q hq=>k6.frame q (qE s5 q hq) (by simp)) 41 (.tuple ⟨[dJ W,.bool true]⟩))
 have s6':=dP.sub (l':=[(2,dJ Sp),(3,dJ Sq),(4,num (d)),(5,num (i)),(6,dK nr),(7,dK ng),(14,dJ (some ⟨gl,0,none⟩,ps.length,ps.length)),(15,.bool true),(41,.tuple ⟨[dJ W,.bool true]⟩)]) (gs':=[]) (ls':=[]) s6 (fun x hx=>by
  simp only [ag,ae,or_false] at hx
  rcases hx with rfl | rfl | rfl | rfl | rfl | rfl | rfl | rfl | rfl<;>rfl) (fun x hx=>(by cases hx)) (fun x hx=>by cases hx) (by simp)
 have k36:dO w3 [] w6:=(k4.trans k5).trans k6
 have k16:dO w1 [] w6:=(k2.trans k3).trans k36
 refine y9 (ad3 (w0:=w6) (X:=(some ⟨gl,0,none⟩,ps.length,ps.length)) (W:=W) (A:=(none,0,0)) (M:=(none,0,0)) (f:=false) (nc:=0) (Sp:=Sp) (Sq:=Sq) (d:=d) (i:=i) (r1.mv k16 (by simp)) (r2.mv k16 (by simp)) (fun q hq=>by cases hq) (by simp) s6' (dO.refl w6 _) fun a7 w7 s7 k7=>?_)
 have k37:=k36.trans k7
 have K7:dO w [] w7:=(K2.trans k3).trans k37
 have sX7:=kI sX3 k37 fun a ha=>by simp
 have hXl:((some ⟨gl,0,none⟩,ps.length,ps.length):dY).2.1=(nX ps qs d i).length:=by rw [hbl]; exact hpl.symm
 refine ad4 (w0:=w7) (X:=(some ⟨gl,0,none⟩,ps.length,ps.length)) (W:=W) (A:=(none,0,0)) (M:=(none,0,0)) (f:=false) (nc:=0) (Sp:=Sp) (Sq:=Sq) (d:=d) (i:=i) (fun z_ hz_=>?_) (r1.mv (k16.trans k7) (by simp)) (r2.mv (k16.trans k7) (by simp)) (fun q hq=>by cases hq) (by simp) s7 (dO.refl w7 _) fun a8 w8 s8 k8=>?_
 ·simp only [ag,ae,or_false] at hz_
  subst hz_
  intro w' hF
  have hF':iV (w7,[]) w':=hF
  refine ⟨[.agg ⟨[dJ B0,dJ B1]⟩,.agg ⟨[num x,num y,num z]⟩,dJ (some ⟨gl,0,none⟩,ps.length,ps.length)],by kernel_rfl,?_⟩
  exact (adH ((h.fz (nQ K7)).fz hF') hbl hXl (l8 sX7 hF' (MR _) fun a ha _=>by simp) (fun a ha=>by simp) hin hx hy hz).mono fun e w'' ⟨q1,q2⟩=>⟨q2,.bool true,rfl,q1⟩
 refine ad5 (w0:=w8) (X:=(some ⟨gl,0,none⟩,ps.length,ps.length)) (W:=W) (A:=(none,0,0)) (M:=(none,0,0)) (f:=false) (Sp:=Sp) (Sq:=Sq) (d:=d) (i:=i) (r1.mv ((k16.trans k7).trans k8) (by simp)) (r2.mv ((k16.trans k7).trans k8) (by simp)) (fun q hq=>by cases hq) (by simp) s8 (dO.refl w8 _) fun a9 w9 nc hn9 nd9 s9 k9=>?_
 have k19:dO w1 [] w9:=((k16.trans k7).trans k8).trans k9
 have K9:dO w [] w9:=k1.trans k19
 have hnc1:=(hn9 nc (by simp)).1
 have z1:=k1.size; have z19:=k19.size
 have z18:w1.heap.size≤w8.heap.size:=((k16.trans k7).trans k8).size
 have z68:w6.heap.size≤w8.heap.size:=(k7.trans k8).size
 have z38:w3.heap.size≤w8.heap.size:=(k37.trans k8).size
 have hr1:=(hn1 nr (by simp)).2; have hr2:=(hn1 ng (by simp)).2
 have dr1:nr∉[nc]:=by simp; omega
 have dr2:ng∉[nc]:=by simp; omega
 refine wp_seq (yC (by kernel_rfl) (xN 3 ?_))
 refine ad6 (w0:=w9) (X:=(some ⟨gl,0,none⟩,ps.length,ps.length)) (W:=W) (A:=(none,0,0)) (M:=(none,0,0)) (f:=false) (Sp:=Sp) (Sq:=Sq) (d:=d) (i:=i) (r1.mv k19 dr1) (r2.mv k19 dr2) (fun q hq=>.inl (by simpa using hq)) (by simp) s9 (dO.refl w9 _) fun a10 w10 s10 k10'=>?_
 have k10:dO w9 [] w10:=CX k10' fun g hg=>by
  simp only [ag,ae,or_false] at hg
  subst hg
  exact (s10.gl _ aA).trans (s9.gl _ aA).symm
 have K10:dO w [] w10:=K9.trans k10
 have k3_10:dO w3 [] w10:=((k37.trans k8).trans k9).trans k10
 have hRb:jW w10 [nc] B0 B1 js mvs:=(h.fz (nQ K10)).Z8 (fun a ha=>by have:=(h.xB a ha).2; omega) (fun a ha h0=>by have:=(h.xM a ha h0).2; omega)
 refine Eh WW s10 rfl (Z7 (X:=(some ⟨gl,0,none⟩,ps.length,ps.length)) hRb hbl hXl (kI sX3 k3_10 fun a ha=>by simp) (fun a ha=>by injection ha with ha; subst ha; simp; omega) hvd (s10.gl _ aA)) fun e w11 hB=>?_
 obtain ⟨A,M,mbs,rfl,k11,hfl,hAl,sA,xA,hMl,sM,xM,hmd,hmb⟩:=hB
 refine ⟨_,rfl,?_⟩
 have s10':=dP.sub (gs':=[]) (ls':=[]) s10 (fun x hx=>Dc hx (by simp)) (fun x hx=>by cases hx) (fun x hx=>hx) (by simp)
 have s11:=adB (yX (BF (BG s10' fun q hq=>by cases hq) 62 (afp nc B0 B1 A M))) hfl (by simp)
 have s11':=dP.sub (l':=[(6,dK nr),(7,dK ng),(16,dJ W),(18,dK nc),(62,.agg ⟨[dK nc,dJ B0,dJ B1,dJ A,dJ M]⟩)]) (gs':=[(nc,[.bool (wG js (jH [] js (nX ps qs d i)) mvs false).2],88)]) (ls':=[]) s11 (fun x hx=>by
  simp only [ag,ae,or_false] at hx
  rcases hx with rfl | rfl | rfl | rfl | rfl<;>rfl) (fun x hx=>hx) (fun x hx=>by cases hx) (by simp)
 have k1_10:dO w1 [] w10:=k19.trans k10
 refine y9 (ad7 (w0:=w11) (X:=(none,0,0)) (W:=W) (A:=A) (M:=M) (d:=d) (i:=i) (Sp:=Sp) (Sq:=Sq) (f:=(wG js (jH [] js (nX ps qs d i)) mvs false).2) ((r1.mv k1_10 dr1).mv k11 dr1) ((r2.mv k1_10 dr2).mv k11 dr2) (fun q hq=>.inl (by simpa using hq)) (by simp) s11' (dO.refl w11 _) fun a12 w12 nb hn12 nd12 s12 k12'=>?_)
 have k12:dO w11 [] w12:=CX k12' fun g hg=>by
  simp only [ag,ae,or_false] at hg
  subst hg
  exact (s12.gl _ aA).trans hfl.symm
 have k10_12:dO w10 [nc] w12:=k11.comp k12 fun g hg=>by cases hg
 have z10:=k10.size; have z11:=k11.size; have z12:=k12.size
 have hnb:=(hn12 nb (by simp)).1
 have hnc2:nc<w10.heap.size:=(aB.1 (s10.gl _ aA)).1
 have hlen:mbs.length=mvs.length:=by
  have e1:=congrArg ae1 hmd
  rw [dF] at e1
  rw [e1]
  exact WI js _ mvs false
 have aW:∀a,W.1=some a→a.block≠nc:=fun a ha e=>by
  obtain ⟨b,off,e1,hR⟩:=sW6 (fun e=>by have h0:=congrArg ae1 e; rw [show (rH (gZ js ps qs js.length)).length=js.length by simp [rH,gZ]] at h0; simp only [aeT] at h0; omega)
  rw [ha] at e1; injection e1 with e1; subst e1
  have:=hR.lt
  simp only at e
  omega
 have hS:sI w12 nc W B0 A (gZ js ps qs js.length) (nu js (jH [] js (nX ps qs d i))) js :=
  {
   wl:=hWl,b3:=h.b0,b5:=by rw [hAl]; simp [nu,EY [] js _ hbl],l1:=by simp [gZ],l2:=by simp [nu,EY [] js _ hbl]
   BC:=kI (kI sW6 (((k7.trans k8).trans k9).trans k10) fun a ha=>by simp) k10_12 fun a ha=>by simpa using aW a ha
   mH:=kI (h.fz (nQ K10)).sB k10_12 fun a ha=>(hRb.xB a ha).1
   GK:=kI sA k12 fun a ha=>by simp
   aW:=aW,aK:=fun a ha=>by simpa using (hRb.xB a ha).1,aX:=xA }
 have hBo:kr w12 nc js.length B0 M mbs :=
  {
   n1:=hn,b0:=h.b0,b3:=hMl,m2:=by omega,rows:=kI sM k12 fun a ha=>by simp,aM:=xM
   ok:=fun i m hm=>{ (hmb i m hm).1 with qU:=kI (hmb i m hm).1.qU k12 fun a ha=>by simp,dJ:=kI (hmb i m hm).1.dJ k12 fun a ha=>by simp } }
 have hws:jR w12 [nc] (mY nr ng nb nc x y z B0 B1 A M):=fun q hq=>by
  simp only [mY,ag,ae,or_false] at hq
  rcases hq with rfl | rfl | rfl
  ·exact ((r1.mv k1_10 dr1).mv k11 dr1).mv k12' dr1
  ·exact ((r2.mv k1_10 dr2).mv k11 dr2).mv k12' dr2
  ·exact ⟨⟨(hn12 nb (by simp)).2,by simp; omega⟩,M0 (s12.gl _ (aT _ aA)) (aO _)⟩
 have s13:=dP.sub (l':=[(6,dK nr),(7,dK ng),(16,dJ W),(18,dK nc),(19,dK nb)]) (gs':=[(nc,[.bool (wG js (jH [] js (nX ps qs d i)) mvs false).2],88)]) (ls':=[]) s12 (fun x hx=>by
  simp only [ag,ae,or_false] at hx
  rcases hx with rfl | rfl | rfl | rfl | rfl<;>rfl) (fun x hx=>(by simp only [ag,ae,or_false] at hx; subst hx; exact aA)) (fun x hx=>by cases hx) (by simp)
 refine wp_mono (aeh hS hBo rfl (fun m hm=>by obtain ⟨k,hk⟩:=cZ hm; exact (hmb k m hk).2) hws s13 (dO.refl w12 _)) (acv fun e w' hT=>?_)
 obtain ⟨t1,t2,t3⟩:=hT
 have Kf:dO w [] w':=((K10.comp k10_12 fun g hg=>by simp at hg; subst hg; right; omega).comp t1 fun g hg=>by simp at hg; subst hg; right; omega)
 rw [aef,UN,UO,Q5,hmd] at *
 exact ⟨xG Kf,t2,fun hF=>by obtain ⟨gl',q1,q2⟩:=t3 hF; exact ⟨gl',by have:=(K10.size); omega,q2⟩⟩
end Go.Proofs
end
section
namespace Go.Proofs
open Go.Sm Go.RowKit En
def smR (x:Int×Int):Prop:=(-1152921504606846976≤x.1∧x.1≤1152921504606846976)∧-1152921504606846976≤x.2∧x.2≤1152921504606846976
def pR (x y:Int×Int):Int×Int:=(x.1+y.1,x.2+y.2)
theorem afA (x:Int) (h1:-9223372036854775808≤x) (h2:x≤9223372036854775807):wr x=x:=dz x (by omega)
theorem afP (a b:Int):pW a b=true↔-1152921504606846976≤a∧a≤b∧b≤1152921504606846976:=by
 unfold pW
 by_cases h1:-1152921504606846976≤a
 ·by_cases h2:a≤b
  ·simp [h1,h2]
  ·simp [h1,h2]
 ·simp [h1]
variable {x:Int×Int}
theorem afI {y:Int×Int} (h:zg x y=false):qH x y=pR x y∧smR (pR x y):=by
 obtain ⟨a,b⟩:=x
 obtain ⟨c,d⟩:=y
 unfold zg at h
 simp only [Bool.not_eq_false'] at h
 unfold oo at h
 cases h1:pW a b with
 | false=>simp [h1] at h
 | true =>
  cases h2:pW c d with
  | false=>simp [h1,h2] at h
  | true =>
   cases h3:pW (wr (a+c)) (wr (b+d)) with
   | false=>simp [h1,h2,h3] at h
   | true =>
    have k1:=(afP _ _).1 h1
    have k2:=(afP _ _).1 h2
    have k3:=(afP _ _).1 h3
    have e1:=afA (a+c) (by omega) (by omega)
    have e2:=afA (b+d) (by omega) (by omega)
    rw [e1,e2] at k3 h3
    refine ⟨?_,⟨by simp only [pR]; omega,by simp only [pR]; omega⟩,by simp only [pR]; omega,by simp only [pR]; omega⟩
    unfold qH MS MU mq mD
    simp only [h1,h2,e1,e2,h3,cond_true,pR]
structure afv (L B A:List (Int×Int)):Prop where
 lA:A.length=L.length
 lB:B.length=L.length
 at_:∀k,A.getD k (0,0)=pR (L.getD k (0,0)) (B.getD k (0,0))
variable {l:List (Int×Int)} {j:Nat}
theorem afZ {k:Nat}:(l.set j x).getD k (0,0)=if j=k∧k<l.length then x else l.getD k (0,0):=by
 simp only [List.getD,List.getElem?_set]
 by_cases h:j=k
 ·subst h
  by_cases h2:j<l.length
  ·simp [h2]
  ·simp [h2]
 ·simp [h]
variable {rs:List (Int×Int)} {f:Bool} {v u:V6}
theorem afw {n:Int} (h:(vg rs f j v u n).2=false):f=false∧zg (rs.getD j (0,0)) (jY (fQ v u) n)=false:=by
 simp only [vg,Bool.or_eq_false_iff] at h
 exact ⟨h.1.1.1,h.2⟩
variable {L:List (Int×Int)}
theorem agX {B A:List (Int×Int)} {fA fB:Bool} {n:Int} (h:afv L B A) (hA:(vg A fA j v u n).2=false) (hB:(vg B fB j v u n).2=false):afv L (vg B fB j v u n).1 (vg A fA j v u n).1:=by
 have a1:=(afI (afw hA).2).1
 have b1:=(afI (afw hB).2).1
 refine ⟨by simp only [vg,List.length_set]; exact h.lA,by simp only [vg,List.length_set]; exact h.lB,fun k=>?_⟩
 simp only [vg,a1,b1,afZ,h.lA,h.lB]
 by_cases hk:j=k∧k<L.length
 ·rw [if_pos hk,if_pos hk,hk.1]
  have:=h.at_ k
  rw [this]
  simp only [pR,aP]
  omega
 ·rw [if_neg hk,if_neg hk]
  exact h.at_ k
theorem afG {m:MB} {u:V6} {st:List (Int×Int)×Bool}:∀{i:Nat},(jI m u st i).2=false→st.2=false
 | 0,h=>h
 | _+1,h=>afG (afw (show (vg _ _ _ _ _ _).2=false from h)).1
theorem af1 {m:MB} {u:V6} {L:List (Int×Int)} {sA sB:List (Int×Int)×Bool} (h:afv L sB.1 sA.1):∀i:Nat,(jI m u sA i).2=false→(jI m u sB i).2=false→afv L (jI m u sB i).1 (jI m u sA i).1
 | 0,_,_=>h
 | i+1,hA,hB=>agX (af1 h i (afw (show (vg _ _ _ _ _ _).2=false from hA)).1 (afw (show (vg _ _ _ _ _ _).2=false from hB)).1) hA hB
theorem afX {ms:List MB} {us:List V6} {L:List (Int×Int)} {sA sB:List (Int×Int)×Bool} (h:afv L sB.1 sA.1):∀k:Nat,(gm ms us sA k).2=false→(gm ms us sB k).2=false→afv L (gm ms us sB k).1 (gm ms us sA k).1
 | 0,_,_=>h
 | k+1,hA,hB=>af1 (afX h k (afG (show (jI _ _ _ _).2=false from hA)) (afG (show (jI _ _ _ _).2=false from hB))) _ hA hB
def smL (l:List (Int×Int)):Prop:=∀k,smR (l.getD k (0,0))
theorem agW {n:Int} (h:smL rs) (hf:(vg rs f j v u n).2=false):smL (vg rs f j v u n).1:=fun k=>by
 have a1:=afI (afw hf).2
 simp only [vg,a1.1,afZ]
 split
 ·exact a1.2
 ·exact h k
theorem af0 {m:MB} {u:V6} {st:List (Int×Int)×Bool} (h:smL st.1):∀i:Nat,(jI m u st i).2=false→smL (jI m u st i).1
 | 0,_=>h
 | i+1,hf=>agW (af0 h i (afw (show (vg _ _ _ _ _ _).2=false from hf)).1) hf
theorem afD {ms:List MB} {us:List V6} {st:List (Int×Int)×Bool} (h:smL st.1):∀k:Nat,(gm ms us st k).2=false→smL (gm ms us st k).1
 | 0,_=>h
 | k+1,hf=>af0 (afD h k (afG (show (jI _ _ _ _).2=false from hf))) _ hf
theorem agc (n k:Nat):(ag6 n ((0:Int),(0:Int))).getD k (0,0)=(0,0):=by
 simp only [List.getD,List.getElem?_replicate]
 split<;>rfl
theorem afR (n:Nat):smL (ag6 n (0,0)):=fun k=>by
 rw [agc]
 refine ⟨⟨?_,?_⟩,?_,?_⟩<;>simp only<;>omega
theorem afW {m1 m2:List MB} {u1 u2:List V6} (hu:u1.length=m1.length) (st:List (Int×Int)×Bool):∀k:Nat,k≤m1.length→gm (m1++m2) (u1++u2) st k=gm m1 u1 st k
 | 0,_=>rfl
 | k+1,hk=>by
  unfold gm
  rw [afW hu st k (by omega)]
  simp only [List.getD,aH (show k<m1.length by omega),aH (show k<u1.length by omega)]
theorem afY {m1 m2:List MB} {u1 u2:List V6} (hu:u1.length=m1.length) (st:List (Int×Int)×Bool):∀k:Nat,gm (m1++m2) (u1++u2) st (m1.length+k)=gm m2 u2 (gm m1 u1 st m1.length) k
 | 0=>afW hu st m1.length (au _)
 | k+1=>by
  show gm (m1++m2) (u1++u2) st ((m1.length+k)+1)=_
  unfold gm
  rw [afY hu st k]
  simp only [List.getD,bu (Nat.le_add_right m1.length k),bu (show u1.length≤m1.length+k by omega),hu,Nat.add_sub_cancel_left]
structure gX (n:Nat) (U V T:List (Int×Int)):Prop where
 sum:afv U V T
 lT:T.length=n
 sT:smL T
 sU:smL U
 sV:smL V
variable {u1 u2:List V6} {n:Nat}
theorem afL {m1 m2:List MB} (h1:u1.length=m1.length) (hT:(gm (m1++m2) (u1++u2) (ag6 n (0,0),false) (m1++m2).length).2=false) (hU:(gm m1 u1 (ag6 n (0,0),false) m1.length).2=false) (hV:(gm m2 u2 (ag6 n (0,0),false) m2.length).2=false) :
  gX n (gm m1 u1 (ag6 n (0,0),false) m1.length).1 (gm m2 u2 (ag6 n (0,0),false) m2.length).1 (gm (m1++m2) (u1++u2) (ag6 n (0,0),false) (m1++m2).length).1:=by
 have sT:=afD (afR n) _ hT
 have lT:=ry (m1++m2) (u1++u2) (ag6 n (0,0),false) (m1++m2).length
 have lU:=ry m1 u1 (ag6 n (0,0),false) m1.length
 rw [afa,afY h1] at hT sT lT ⊢
 simp only [List.length_replicate] at lT lU
 refine ⟨afX ⟨rfl,by simp only [List.length_replicate]; omega,fun k=>?_⟩ _ hT hV,lT,sT,afD (afR n) _ hU,afD (afR n) _ hV⟩
 rw [agc]
 simp only [pR,Int.add_zero]
theorem afH (h:smR x):iP x=(-x.2,-x.1)∧smR (iP x):=by
 obtain ⟨a,b⟩:=x
 obtain ⟨⟨h1,h2⟩,h3,h4⟩:=h
 simp only at h1 h2 h3 h4
 have e:iP (a,b)=(-b,-a):=by
  unfold iP mE mF
  simp only
  rw [afA (-b) (by omega) (by omega),afA (-a) (by omega) (by omega)]
 rw [e]
 refine ⟨rfl,⟨?_,?_⟩,?_,?_⟩<;>simp only<;>omega
theorem afF (k:Nat):(l.map iP).getD k (0,0)=iP (l.getD k (0,0)):=by
 simp only [List.getD,bY]
 cases l[k]? with
 | some x=>rfl
 | none=>show (0,0)=iP (0,0); decide
variable {U V T:List (Int×Int)}
theorem gX.neg (h:gX n U V T):gX n (U.map iP) (V.map iP) (T.map iP):=by
 have sm:∀{l:List (Int×Int)},smL l→smL (l.map iP):=fun hl k=>by rw [afF]; exact (afH (hl k)).2
 refine ⟨⟨by simpa using h.sum.lA,by simpa using h.sum.lB,fun k=>?_⟩,by simpa using h.lT,sm h.sT,sm h.sU,sm h.sV⟩
 rw [afF,afF,afF,(afH (h.sT k)).1,(afH (h.sU k)).1,(afH (h.sV k)).1,h.sum.at_ k]
 simp only [pR,aP]
 omega
theorem gX.get (h:gX n U V T) (k:Nat):(T.getD k (0,0)).1=wr ((U.getD k (0,0)).1+(V.getD k (0,0)).1)∧(T.getD k (0,0)).2=wr ((U.getD k (0,0)).2+(V.getD k (0,0)).2):=by
 obtain ⟨⟨a1,a2⟩,a3,a4⟩:=h.sU k
 obtain ⟨⟨b1,b2⟩,b3,b4⟩:=h.sV k
 rw [afA _ (by omega) (by omega),afA _ (by omega) (by omega),h.sum.at_ k]
 exact ⟨rfl,rfl⟩
variable {js:List JV} {axs ogs:List V6} {at_:V6}
theorem ag1 {p q:List Int×List V6×Bool} {j:Int} (h:p.1=q.1∧p.2.1=q.2.1):(p8 js axs ogs at_ p j).1=(p8 js axs ogs at_ q j).1∧(p8 js axs ogs at_ p j).2.1=(p8 js axs ogs at_ q j).2.1:=by
 unfold p8
 cases (js.getD j.toNat ER).kind==0 with
 | true=>exact h
 | false =>
  cases kG (js.getD j.toNat ER).kind with
  | true=>simp only [cond_true,cond_false,h.1,h.2,and_self]
  | false=>simp only [cond_false,h.1,h.2,and_self]
theorem agb {js:List JV} {axs ogs:List V6} {at_:V6}:∀(l:List Int) {p q:List Int×List V6×Bool},p.1=q.1∧p.2.1=q.2.1→(l.foldl (p8 js axs ogs at_) p).1=(l.foldl (p8 js axs ogs at_) q).1∧(l.foldl (p8 js axs ogs at_) p).2.1=(l.foldl (p8 js axs ogs at_) q).2.1
 | [],_,_,h=>h
 | _::l,_,_,h=>agb l (ag1 h)
theorem agL (js:List JV) (Ps:List iF) (mv:MV) (f g:Bool):(Kj js Ps mv f).1=(Kj js Ps mv g).1:=by
 unfold Kj
 have h:=agb (js:=js) (axs:=nu js Ps) (ogs:=Ps.map kM) (at_:=jS (Ps.getD mv.link.toNat pz) mv.p0 mv.p1 mv.p2) (jd js 4 mv.link []) (p:=([],[],f)) (q:=([],[],g)) ⟨rfl,rfl⟩
 simp only [h.1,h.2]
def mdF (js:List JV) (Ps:List iF) (mv:MV):MB:=(Kj js Ps mv false).1.mb
theorem afT (js:List JV) (Ps:List iF):∀(ms:List MV) (acc:List MD×Bool),(ms.foldl (yt js Ps) acc).1.map MD.mb=acc.1.map MD.mb++ms.map (mdF js Ps)
 | [],acc=>by simp
 | m::ms,acc=>by
  rw [List.foldl_cons,afT js Ps ms]
  simp only [yt,List.map_append,dI,ae9,afd,dw,dD,mdF,agL js Ps m acc.2 false]
theorem agD (js:List JV) (Ps:List iF) (ms:List MV):(wG js Ps ms false).1.map MD.mb=ms.map (mdF js Ps):=by
 unfold wG
 rw [afT]
 rfl
theorem agZ {m1 m2:List MB} (hT:(yY rs (m1++m2) n).2=false) (hU:(yY rs m1 n).2=false) (hV:(yY rs m2 n).2=false):gX n (yY rs m1 n).1 (yY rs m2 n).1 (yY rs (m1++m2) n).1:=by
 unfold yY at *
 rw [show zw rs (m1++m2)=zw rs m1++zw rs m2 by unfold zw; exact List.map_append] at hT ⊢
 exact afL (by unfold zw; simp) hT hU hV
theorem ag0 {m1 m2:List MB} (hT:(yZ rs axs js (m1++m2) n).2=false) (hU:(yZ rs axs js m1 n).2=false) (hV:(yZ rs axs js m2 n).2=false):gX n (yZ rs axs js m1 n).1 (yZ rs axs js m2 n).1 (yZ rs axs js (m1++m2) n).1:=by
 unfold yZ at *
 rw [show zX rs axs js (m1++m2)=zX rs axs js m1++zX rs axs js m2 by unfold zX; exact List.map_append] at hT ⊢
 exact afL (by unfold zX; simp) hT hU hV
variable {y z:Int}
theorem agU {m1 m2:List MB} {x:Int} (hT:(iU (m1++m2) n x y z).2=false) (hU:(iU m1 n x y z).2=false) (hV:(iU m2 n x y z).2=false):gX n (iU m1 n x y z).1 (iU m2 n x y z).1 (iU (m1++m2) n x y z).1:=by
 unfold iU at *
 rw [show ag6 (m1++m2).length (gV x y z)=ag6 m1.length (gV x y z)++ag6 m2.length (gV x y z) by rw [afa,List.replicate_append_replicate]] at hT ⊢
 exact afL (by simp) hT hU hV
theorem agY {m1 m2:List MV} {ps qs:List Int} {d i x:Int} (hT:(xq js (m1++m2) ps qs d i x y z).fl=false) (hU:(xq js m1 ps qs d i x y z).fl=false) (hV:(xq js m2 ps qs d i x y z).fl=false) :
  gX js.length (xq js m1 ps qs d i x y z).us (xq js m2 ps qs d i x y z).us (xq js (m1++m2) ps qs d i x y z).us∧gX js.length (xq js m1 ps qs d i x y z).xs (xq js m2 ps qs d i x y z).xs (xq js (m1++m2) ps qs d i x y z).xs∧gX js.length (xq js m1 ps qs d i x y z).gs (xq js m2 ps qs d i x y z).gs (xq js (m1++m2) ps qs d i x y z).gs:=by
 unfold xq at *
 generalize acs js ps qs d i=Ps at *
 generalize gZ js ps qs js.length=rs at *
 simp only [agD,List.map_append] at hT hU hV ⊢
 generalize m1.map (mdF js Ps)=M1 at *
 generalize m2.map (mdF js Ps)=M2 at *
 simp only [BM,Bool.or_eq_false_iff] at hT hU hV
 exact ⟨agZ hT.1.1.2 hU.1.1.2 hV.1.1.2,ag0 hT.1.2 hU.1.2 hV.1.2,(agU hT.2 hU.2 hV.2).neg⟩
end Go.Proofs
end
section
namespace Go.Proofs
open Go.Sm Go.RowKit En
variable {w0 w:World} {a:Act} {B0 B1 Sp Sq Ba Bb:dY} {x y z:Int} {n15 n18 n20 n21:Nat} {Q:Exit→Act→World→Prop}
theorem agf {T0 T1 T2:dY} {k0 k1 k2:Bool}
  (hown:∀q∈[n15,n18,n20,n21]++[],q∈([n15,n18,n20,n21]:List Nat)∨w0.heap.size≤q) (hnd:([n15,n18,n20,n21]++[]:List Nat).Nodup) (h:dP (dS 175 [(15,dK n15),(16,dJ Sp),(17,dJ Sq),(18,dK n18),(20,dK n20),(21,dK n21)]) [(n15,[dJ B0,dJ B1],35),(n18,[num (x),num (y),num (z)],40),(n20,[dJ B0,dJ Ba],35),(n21,[dJ B0,dJ Bb],35)] [] a w) (hk:dO w0 [n15,n18,n20,n21] w)
  (hQ:∀a' w',dP (dS 175 [(15,dK n15),(16,dJ Sp),(17,dJ Sq),(18,dK n18),(20,dK n20),(21,dK n21),(60,.agg ⟨[dJ B0,dJ B1]⟩),(61,.agg ⟨[num (x),num (y),num (z)]⟩),(62,dJ Sp),(63,dJ Sq)]) [(n15,[dJ B0,dJ B1],35),(n18,[num (x),num (y),num (z)],40),(n20,[dJ B0,dJ Ba],35),(n21,[dJ B0,dJ Bb],35)] [] a' w'→dO w0 [n15,n18,n20,n21] w'→wpList aa (opsOf (kS (dN ag2))).toArray Q ((opsOf (kS (dN ag2))).drop 4) a' w'):wpList aa (opsOf (kS (dN ag2))).toArray Q ((opsOf (kS (dN ag2))).take 4++((opsOf (kS (dN ag2))).drop 4)) a w:=by
 refine uw ([x,y,z]) ([k0,k1,k2]) [B0,B1,Sp,Sq,T0,T1,T2,Ba,Bb] (ops:=opsOf (kS (dN ag2))) (o1:=(opsOf (kS (dN ag2))).take 4) (tail:=((opsOf (kS (dN ag2))).drop 4)) (w0:=w0) (ex:=[n15,n18,n20,n21]) (g:=[]) (wt:=[]) (lt:=[]) (t:={}) (ws:=[]) (fr:=fK 175 [(15,.pointer (some ⟨0,0,none⟩)),(16,dM 2),(17,dM 3),(18,.pointer (some ⟨1,0,none⟩)),(20,.pointer (some ⟨2,0,none⟩)),(21,.pointer (some ⟨3,0,none⟩))]) (H:=[dQ [dM 0,dM 1] 35,dQ (vs 0 3) 40,dQ [dM 0,dM 7] 35,dQ [dM 0,dM 8] 35]) (lo:=[]) (wb:=[])  (by kernel_rfl) [0,1,2,3] [] (by kernel_rfl) (by kernel_rfl) (by exact hnd) ⟨ed _,jo,all_nil,(by exact hown),jG,fun _=>⟨all_nil,all_nil,all_nil⟩⟩ h hk hQ
variable {T0:dY} {k0:Bool}
theorem agj {T1 T2:dY} {k1 k2:Bool}
  (hown:∀q∈[n15,n18,n20,n21]++[],q∈([n15,n18,n20,n21]:List Nat)∨w0.heap.size≤q) (hnd:([n15,n18,n20,n21]++[]:List Nat).Nodup) (h:dP (dS 175 [(15,dK n15),(16,dJ Sp),(17,dJ Sq),(18,dK n18),(20,dK n20),(21,dK n21),(64,.tuple ⟨[dJ T0,.bool k0]⟩)]) [(n15,[dJ B0,dJ B1],35),(n18,[num (x),num (y),num (z)],40),(n20,[dJ B0,dJ Ba],35),(n21,[dJ B0,dJ Bb],35)] [] a w) (hk:dO w0 [n15,n18,n20,n21] w)
  (hQ:∀a' w',dP (dS 175 [(15,dK n15),(16,dJ Sp),(17,dJ Sq),(18,dK n18),(20,dK n20),(21,dK n21),(22,dJ T0),(23,.bool (k0))]) [(n15,[dJ B0,dJ B1],35),(n18,[num (x),num (y),num (z)],40),(n20,[dJ B0,dJ Ba],35),(n21,[dJ B0,dJ Bb],35)] [] a' w'→dO w0 [n15,n18,n20,n21] w'→wpList aa (opsOf (kS (dN ag2))).toArray Q ([]) a' w'):wpList aa (opsOf (kS (dN ag2))).toArray Q ((opsOf (kS (dN ag2))).drop 5++([])) a w:=by
 refine uw ([x,y,z]) ([k0,k1,k2]) [B0,B1,Sp,Sq,T0,T1,T2,Ba,Bb] (ops:=opsOf (kS (dN ag2))) (o1:=(opsOf (kS (dN ag2))).drop 5) (tail:=([])) (w0:=w0) (ex:=[n15,n18,n20,n21]) (g:=[]) (wt:=[]) (lt:=[]) (t:={}) (ws:=[]) (fr:=fK 175 [(15,.pointer (some ⟨0,0,none⟩)),(16,dM 2),(17,dM 3),(18,.pointer (some ⟨1,0,none⟩)),(20,.pointer (some ⟨2,0,none⟩)),(21,.pointer (some ⟨3,0,none⟩)),(64,.tuple ⟨[dM 4,mB 1 [.int .i64 0]]⟩)]) (H:=[dQ [dM 0,dM 1] 35,dQ (vs 0 3) 40,dQ [dM 0,dM 7] 35,dQ [dM 0,dM 8] 35]) (lo:=[]) (wb:=[])  (by kernel_rfl) [0,1,2,3] [] (by kernel_rfl) (by kernel_rfl) (by exact hnd) ⟨ed _,jo,all_nil,(by exact hown),jG,fun _=>⟨all_nil,all_nil,all_nil⟩⟩ h hk hQ
theorem agh {T1 T2:dY} {k1 k2:Bool}
  (hown:∀q∈[n15,n18,n20,n21]++[],q∈([n15,n18,n20,n21]:List Nat)∨w0.heap.size≤q) (hnd:([n15,n18,n20,n21]++[]:List Nat).Nodup) (h:dP (dS 175 [(15,dK n15),(16,dJ Sp),(17,dJ Sq),(18,dK n18),(20,dK n20),(21,dK n21),(22,dJ T0),(23,.bool (k0))]) [(n15,[dJ B0,dJ B1],35),(n18,[num (x),num (y),num (z)],40),(n20,[dJ B0,dJ Ba],35),(n21,[dJ B0,dJ Bb],35)] [] a w) (hk:dO w0 [n15,n18,n20,n21] w)
  (hQ:∀a' w',dP (dS 175 [(15,dK n15),(16,dJ Sp),(17,dJ Sq),(18,dK n18),(20,dK n20),(21,dK n21),(22,dJ T0),(23,.bool (k0)),(68,.agg ⟨[dJ B0,dJ Ba]⟩),(69,.agg ⟨[num (x),num (y),num (z)]⟩),(70,dJ Sp),(71,dJ Sq)]) [(n15,[dJ B0,dJ B1],35),(n18,[num (x),num (y),num (z)],40),(n20,[dJ B0,dJ Ba],35),(n21,[dJ B0,dJ Bb],35)] [] a' w'→dO w0 [n15,n18,n20,n21] w'→wpList aa (opsOf (uk (dN ag2))).toArray Q ((opsOf (uk (dN ag2))).drop 4) a' w'):wpList aa (opsOf (uk (dN ag2))).toArray Q ((opsOf (uk (dN ag2))).take 4++((opsOf (uk (dN ag2))).drop 4)) a w:=by
 refine uw ([x,y,z]) ([k0,k1,k2]) [B0,B1,Sp,Sq,T0,T1,T2,Ba,Bb] (ops:=opsOf (uk (dN ag2))) (o1:=(opsOf (uk (dN ag2))).take 4) (tail:=((opsOf (uk (dN ag2))).drop 4)) (w0:=w0) (ex:=[n15,n18,n20,n21]) (g:=[]) (wt:=[]) (lt:=[]) (t:={}) (ws:=[]) (fr:=fK 175 [(15,.pointer (some ⟨0,0,none⟩)),(16,dM 2),(17,dM 3),(18,.pointer (some ⟨1,0,none⟩)),(20,.pointer (some ⟨2,0,none⟩)),(21,.pointer (some ⟨3,0,none⟩)),(22,dM 4),(23,mB 1 [.int .i64 0])]) (H:=[dQ [dM 0,dM 1] 35,dQ (vs 0 3) 40,dQ [dM 0,dM 7] 35,dQ [dM 0,dM 8] 35]) (lo:=[]) (wb:=[])  (by kernel_rfl) [0,1,2,3] [] (by kernel_rfl) (by kernel_rfl) (by exact hnd) ⟨ed _,jo,all_nil,(by exact hown),jG,fun _=>⟨all_nil,all_nil,all_nil⟩⟩ h hk hQ
variable {T1:dY} {k1:Bool}
theorem agk {T2:dY} {k2:Bool}
  (hown:∀q∈[n15,n18,n20,n21]++[],q∈([n15,n18,n20,n21]:List Nat)∨w0.heap.size≤q) (hnd:([n15,n18,n20,n21]++[]:List Nat).Nodup) (h:dP (dS 175 [(15,dK n15),(16,dJ Sp),(17,dJ Sq),(18,dK n18),(20,dK n20),(21,dK n21),(22,dJ T0),(23,.bool (k0)),(72,.tuple ⟨[dJ T1,.bool k1]⟩)]) [(n15,[dJ B0,dJ B1],35),(n18,[num (x),num (y),num (z)],40),(n20,[dJ B0,dJ Ba],35),(n21,[dJ B0,dJ Bb],35)] [] a w) (hk:dO w0 [n15,n18,n20,n21] w)
  (hQ:∀a' w',dP (dS 175 [(15,dK n15),(16,dJ Sp),(17,dJ Sq),(18,dK n18),(20,dK n20),(21,dK n21),(22,dJ T0),(23,.bool (k0)),(24,dJ T1),(25,.bool (k1))]) [(n15,[dJ B0,dJ B1],35),(n18,[num (x),num (y),num (z)],40),(n20,[dJ B0,dJ Ba],35),(n21,[dJ B0,dJ Bb],35)] [] a' w'→dO w0 [n15,n18,n20,n21] w'→wpList aa (opsOf (uk (dN ag2))).toArray Q ([]) a' w'):wpList aa (opsOf (uk (dN ag2))).toArray Q ((opsOf (uk (dN ag2))).drop 5++([])) a w:=by
 refine uw ([x,y,z]) ([k0,k1,k2]) [B0,B1,Sp,Sq,T0,T1,T2,Ba,Bb] (ops:=opsOf (uk (dN ag2))) (o1:=(opsOf (uk (dN ag2))).drop 5) (tail:=([])) (w0:=w0) (ex:=[n15,n18,n20,n21]) (g:=[]) (wt:=[]) (lt:=[]) (t:={}) (ws:=[]) (fr:=fK 175 [(15,.pointer (some ⟨0,0,none⟩)),(16,dM 2),(17,dM 3),(18,.pointer (some ⟨1,0,none⟩)),(20,.pointer (some ⟨2,0,none⟩)),(21,.pointer (some ⟨3,0,none⟩)),(22,dM 4),(23,mB 1 [.int .i64 0]),(72,.tuple ⟨[dM 5,mB 1 [.int .i64 1]]⟩)]) (H:=[dQ [dM 0,dM 1] 35,dQ (vs 0 3) 40,dQ [dM 0,dM 7] 35,dQ [dM 0,dM 8] 35]) (lo:=[]) (wb:=[])  (by kernel_rfl) [0,1,2,3] [] (by kernel_rfl) (by kernel_rfl) (by exact hnd) ⟨ed _,jo,all_nil,(by exact hown),jG,fun _=>⟨all_nil,all_nil,all_nil⟩⟩ h hk hQ
theorem agi {T2:dY} {k2:Bool}
  (hown:∀q∈[n15,n18,n20,n21]++[],q∈([n15,n18,n20,n21]:List Nat)∨w0.heap.size≤q) (hnd:([n15,n18,n20,n21]++[]:List Nat).Nodup) (h:dP (dS 175 [(15,dK n15),(16,dJ Sp),(17,dJ Sq),(18,dK n18),(20,dK n20),(21,dK n21),(22,dJ T0),(23,.bool (k0)),(24,dJ T1),(25,.bool (k1))]) [(n15,[dJ B0,dJ B1],35),(n18,[num (x),num (y),num (z)],40),(n20,[dJ B0,dJ Ba],35),(n21,[dJ B0,dJ Bb],35)] [] a w) (hk:dO w0 [n15,n18,n20,n21] w)
  (hQ:∀a' w',dP (dS 175 [(15,dK n15),(16,dJ Sp),(17,dJ Sq),(18,dK n18),(20,dK n20),(21,dK n21),(22,dJ T0),(23,.bool (k0)),(24,dJ T1),(25,.bool (k1)),(76,.agg ⟨[dJ B0,dJ Bb]⟩),(77,.agg ⟨[num (x),num (y),num (z)]⟩),(78,dJ Sp),(79,dJ Sq)]) [(n15,[dJ B0,dJ B1],35),(n18,[num (x),num (y),num (z)],40),(n20,[dJ B0,dJ Ba],35),(n21,[dJ B0,dJ Bb],35)] [] a' w'→dO w0 [n15,n18,n20,n21] w'→wpList aa (opsOf (qj (dN ag2))).toArray Q ((opsOf (qj (dN ag2))).drop 4) a' w'):wpList aa (opsOf (qj (dN ag2))).toArray Q ((opsOf (qj (dN ag2))).take 4++((opsOf (qj (dN ag2))).drop 4)) a w:=by
 refine uw ([x,y,z]) ([k0,k1,k2]) [B0,B1,Sp,Sq,T0,T1,T2,Ba,Bb] (ops:=opsOf (qj (dN ag2))) (o1:=(opsOf (qj (dN ag2))).take 4) (tail:=((opsOf (qj (dN ag2))).drop 4)) (w0:=w0) (ex:=[n15,n18,n20,n21]) (g:=[]) (wt:=[]) (lt:=[]) (t:={}) (ws:=[]) (fr:=fK 175 [(15,.pointer (some ⟨0,0,none⟩)),(16,dM 2),(17,dM 3),(18,.pointer (some ⟨1,0,none⟩)),(20,.pointer (some ⟨2,0,none⟩)),(21,.pointer (some ⟨3,0,none⟩)),(22,dM 4),(23,mB 1 [.int .i64 0]),(24,dM 5),(25,mB 1 [.int .i64 1])]) (H:=[dQ [dM 0,dM 1] 35,dQ (vs 0 3) 40,dQ [dM 0,dM 7] 35,dQ [dM 0,dM 8] 35]) (lo:=[]) (wb:=[])  (by kernel_rfl) [0,1,2,3] [] (by kernel_rfl) (by kernel_rfl) (by exact hnd) ⟨ed _,jo,all_nil,(by exact hown),jG,fun _=>⟨all_nil,all_nil,all_nil⟩⟩ h hk hQ
variable {T2:dY} {k2:Bool}
theorem agl
  (hown:∀q∈[n15,n18,n20,n21]++[],q∈([n15,n18,n20,n21]:List Nat)∨w0.heap.size≤q) (hnd:([n15,n18,n20,n21]++[]:List Nat).Nodup) (h:dP (dS 175 [(15,dK n15),(16,dJ Sp),(17,dJ Sq),(18,dK n18),(20,dK n20),(21,dK n21),(22,dJ T0),(23,.bool (k0)),(24,dJ T1),(25,.bool (k1)),(80,.tuple ⟨[dJ T2,.bool k2]⟩)]) [(n15,[dJ B0,dJ B1],35),(n18,[num (x),num (y),num (z)],40),(n20,[dJ B0,dJ Ba],35),(n21,[dJ B0,dJ Bb],35)] [] a w) (hk:dO w0 [n15,n18,n20,n21] w)
  (hQ:∀a' w',dP (dS 175 [(15,dK n15),(16,dJ Sp),(17,dJ Sq),(18,dK n18),(20,dK n20),(21,dK n21),(22,dJ T0),(23,.bool (k0)),(24,dJ T1),(25,.bool (k1)),(26,dJ T2),(27,.bool (k2))]) [(n15,[dJ B0,dJ B1],35),(n18,[num (x),num (y),num (z)],40),(n20,[dJ B0,dJ Ba],35),(n21,[dJ B0,dJ Bb],35)] [] a' w'→dO w0 [n15,n18,n20,n21] w'→wpList aa (opsOf (qj (dN ag2))).toArray Q ([]) a' w'):wpList aa (opsOf (qj (dN ag2))).toArray Q ((opsOf (qj (dN ag2))).drop 5++([])) a w:=by
 refine uw ([x,y,z]) ([k0,k1,k2]) [B0,B1,Sp,Sq,T0,T1,T2,Ba,Bb] (ops:=opsOf (qj (dN ag2))) (o1:=(opsOf (qj (dN ag2))).drop 5) (tail:=([])) (w0:=w0) (ex:=[n15,n18,n20,n21]) (g:=[]) (wt:=[]) (lt:=[]) (t:={}) (ws:=[]) (fr:=fK 175 [(15,.pointer (some ⟨0,0,none⟩)),(16,dM 2),(17,dM 3),(18,.pointer (some ⟨1,0,none⟩)),(20,.pointer (some ⟨2,0,none⟩)),(21,.pointer (some ⟨3,0,none⟩)),(22,dM 4),(23,mB 1 [.int .i64 0]),(24,dM 5),(25,mB 1 [.int .i64 1]),(80,.tuple ⟨[dM 6,mB 1 [.int .i64 2]]⟩)]) (H:=[dQ [dM 0,dM 1] 35,dQ (vs 0 3) 40,dQ [dM 0,dM 7] 35,dQ [dM 0,dM 8] 35]) (lo:=[]) (wb:=[])  (by kernel_rfl) [0,1,2,3] [] (by kernel_rfl) (by kernel_rfl) (by exact hnd) ⟨ed _,jo,all_nil,(by exact hown),jG,fun _=>⟨all_nil,all_nil,all_nil⟩⟩ h hk hQ
variable {RR:Ending→World→Prop}
theorem agq {B0 B1 Sp Sq T0 T1 T2 Ba Bb:dY} {x y z:Int} {k0 k1 k2:Bool} {n15 n18 n20 n21:Nat} (hqt:∀z_∈([⟨16,[],.val (.bool true)⟩]:List Qt),jB aa (gB (w0,[]) [] [] []) z_)
  (hown:∀q∈[]++[],q∈([]:List Nat)∨w0.heap.size≤q) (hnd:([]++[]:List Nat).Nodup) (h:dP (dS 175 [(23,.bool false)]) [] [] a w) (hk:dO w0 [] w)
  (hQ:∀a' w',dP (dS 175 []) [] [] a' w'→dO w0 [] w'→RR (.returned (.bool true)) w'):(sR 9 (dN ag2)).wp aa (bodyPost aa ag2 RR) a w:=by
 refine Q7 ([]) ([]) [] (w0:=w0) (ex:=[]) (g:=[]) (wt:=[]) (lt:=[]) (t:={ QT:=[⟨16,[],.val (.bool true)⟩] }) (ws:=[]) (fr:=fK 175 [(23,.bool false)]) (H:=[]) (lo:=[]) (wb:=[])  (u:=.bool true) 6 [] [] (by kernel_rfl) (by kernel_rfl) (by simp) ⟨ed _,yA hqt,all_nil,(by exact hown),kF,fun _=>⟨all_nil,all_nil,all_nil⟩⟩ h hk hQ
theorem agr {B0 B1 Sp Sq T0 T1 T2 Ba Bb:dY} {x y z:Int} {k0 k1 k2:Bool} {n15 n18 n20 n21:Nat} (hqt:∀z_∈([⟨16,[],.val (.bool true)⟩]:List Qt),jB aa (gB (w0,[]) [] [] []) z_)
  (hown:∀q∈[]++[],q∈([]:List Nat)∨w0.heap.size≤q) (hnd:([]++[]:List Nat).Nodup) (h:dP (dS 175 [(23,.bool true),(25,.bool false)]) [] [] a w) (hk:dO w0 [] w)
  (hQ:∀a' w',dP (dS 175 []) [] [] a' w'→dO w0 [] w'→RR (.returned (.bool true)) w'):(sR 9 (dN ag2)).wp aa (bodyPost aa ag2 RR) a w:=by
 refine Q7 ([]) ([]) [] (w0:=w0) (ex:=[]) (g:=[]) (wt:=[]) (lt:=[]) (t:={ QT:=[⟨16,[],.val (.bool true)⟩] }) (ws:=[]) (fr:=fK 175 [(23,.bool true),(25,.bool false)]) (H:=[]) (lo:=[]) (wb:=[])  (u:=.bool true) 6 [] [] (by kernel_rfl) (by kernel_rfl) (by simp) ⟨ed _,yA hqt,all_nil,(by exact hown),kF,fun _=>⟨all_nil,all_nil,all_nil⟩⟩ h hk hQ
theorem agt {B0 B1 Sp Sq T0 T1 T2 Ba Bb:dY} {x y z:Int} {k0 k1 k2:Bool} {n15 n18 n20 n21:Nat} (hqt:∀z_∈([⟨16,[],.val (.bool true)⟩]:List Qt),jB aa (gB (w0,[]) [] [] []) z_)
  (hown:∀q∈[]++[],q∈([]:List Nat)∨w0.heap.size≤q) (hnd:([]++[]:List Nat).Nodup) (h:dP (dS 175 [(23,.bool true),(25,.bool true),(27,.bool false)]) [] [] a w) (hk:dO w0 [] w)
  (hQ:∀a' w',dP (dS 175 []) [] [] a' w'→dO w0 [] w'→RR (.returned (.bool true)) w'):(sR 9 (dN ag2)).wp aa (bodyPost aa ag2 RR) a w:=by
 refine Q7 ([]) ([]) [] (w0:=w0) (ex:=[]) (g:=[]) (wt:=[]) (lt:=[]) (t:={ QT:=[⟨16,[],.val (.bool true)⟩] }) (ws:=[]) (fr:=fK 175 [(23,.bool true),(25,.bool true),(27,.bool false)]) (H:=[]) (lo:=[]) (wb:=[])  (u:=.bool true) 6 [] [] (by kernel_rfl) (by kernel_rfl) (by simp) ⟨ed _,yA hqt,all_nil,(by exact hown),kF,fun _=>⟨all_nil,all_nil,all_nil⟩⟩ h hk hQ
variable {u0_0 v0_0 u0_1 v0_1 u0_2 v0_2 u0_3 v0_3 u0_4 v0_4 u0_5 v0_5:Int} {b0 o0 b1 o1 b2 o2:Nat} {D:Code}
theorem agm {B0 B1 Sq Ba Bb:dY} {x y z:Int} {k0 k1 k2:Bool} {n15 n18 n20 n21:Nat} (hSp:Sp.2.1=1) (hT0:T0.2.1=1) (hT1:T1.2.1=1) (hT2:T2.2.1=1) (hw0:fu w0 [] T0 (0) 6 b0 o0 [num (wr (u0_0+v0_0)),num (wr (u0_1+v0_1)),num (wr (u0_2+v0_2)),num (wr (u0_3+v0_3)),num (wr (u0_4+v0_4)),num (wr (u0_5+v0_5))]) (hw1:fu w0 [] T1 (0) 6 b1 o1 [num (u0_0),num (u0_1),num (u0_2),num (u0_3),num (u0_4),num (u0_5)]) (hw2:fu w0 [] T2 (0) 6 b2 o2 [num (v0_0),num (v0_1),num (v0_2),num (v0_3),num (v0_4),num (v0_5)])
  (hown:∀q∈[]++[],q∈([]:List Nat)∨w0.heap.size≤q) (hnd:([]++[]:List Nat).Nodup) (h:dP (dS 175 [(23,.bool true),(25,.bool true),(27,.bool true),(16,dJ Sp),(22,dJ T0),(24,dJ T1),(26,dJ T2)]) [] [] a w) (hk:dO w0 [] w)
  (hQ:∀a' w',dP (dS 175 []) [] [] a' w'→dO w0 [] w'→D.wp aa Q a' w'):(gu [(dZ (sR 9 (dN ag2))),(dZ (sR 10 (dN ag2))),(dZ (sR 11 (dN ag2)))] D).wp aa Q a w:=by
 refine uN ([u0_0,v0_0,u0_1,v0_1,u0_2,v0_2,u0_3,v0_3,u0_4,v0_4,u0_5,v0_5]) ([k0,k1,k2]) [B0,B1,Sp,Sq,T0,T1,T2,Ba,Bb] (w0:=w0) (ex:=[]) (g:=[]) (wt:=[(4,.int .i64 0,6,0),(5,.int .i64 0,6,1),(6,.int .i64 0,6,2)]) (lt:=[(2,.int .i64 1),(4,.int .i64 1),(5,.int .i64 1),(6,.int .i64 1)]) (t:={}) (ws:=[(b0,o0,[num (wr (u0_0+v0_0)),num (wr (u0_1+v0_1)),num (wr (u0_2+v0_2)),num (wr (u0_3+v0_3)),num (wr (u0_4+v0_4)),num (wr (u0_5+v0_5))]),(b1,o1,[num (u0_0),num (u0_1),num (u0_2),num (u0_3),num (u0_4),num (u0_5)]),(b2,o2,[num (v0_0),num (v0_1),num (v0_2),num (v0_3),num (v0_4),num (v0_5)])]) (fr:=fK 175 [(23,.bool true),(25,.bool true),(27,.bool true),(16,dM 2),(22,dM 4),(24,dM 5),(26,dM 6)]) (H:=[]) (lo:=[]) (wb:=[dU [mI 2 [var 0,var 1],mI 2 [var 2,var 3],mI 2 [var 4,var 5],mI 2 [var 6,var 7],mI 2 [var 8,var 9],mI 2 [var 10,var 11]],dU [var 0,var 2,var 4,var 6,var 8,var 10],dU [var 1,var 3,var 5,var 7,var 9,var 11]])  6 _ [] [] (by kernel_rfl) (by kernel_rfl) (by simp) ⟨ed _,jo,dR hw0.wf<|dR hw1.wf<|dR hw2.wf<|all_nil,(by exact hown),kF,fun _=>⟨dR (qa hw0 rfl rfl rfl rfl)<|dR (qa hw1 rfl rfl rfl rfl)<|dR (qa hw2 rfl rfl rfl rfl)<|all_nil,dR (jf rfl hSp (by kernel_rfl) (by kernel_rfl))<|dR (jf rfl hT0 (by kernel_rfl) (by kernel_rfl))<|dR (jf rfl hT1 (by kernel_rfl) (by kernel_rfl))<|dR (jf rfl hT2 (by kernel_rfl) (by kernel_rfl))<|all_nil,all_nil⟩⟩ h hk hQ
variable {u1_0 v1_0 u1_1 v1_1 u1_2 v1_2 u1_3 v1_3 u1_4 v1_4 u1_5 v1_5:Int} {b3 o3 b4 o4 b5 o5:Nat}
theorem agn {B0 B1 Sq Ba Bb:dY} {x y z:Int} {k0 k1 k2:Bool} {n15 n18 n20 n21:Nat} (hSp:Sp.2.1=2) (hT0:T0.2.1=2) (hT1:T1.2.1=2) (hT2:T2.2.1=2) (hw0:fu w0 [] T0 (0) 6 b0 o0 [num (wr (u0_0+v0_0)),num (wr (u0_1+v0_1)),num (wr (u0_2+v0_2)),num (wr (u0_3+v0_3)),num (wr (u0_4+v0_4)),num (wr (u0_5+v0_5))]) (hw1:fu w0 [] T1 (0) 6 b1 o1 [num (u0_0),num (u0_1),num (u0_2),num (u0_3),num (u0_4),num (u0_5)]) (hw2:fu w0 [] T2 (0) 6 b2 o2 [num (v0_0),num (v0_1),num (v0_2),num (v0_3),num (v0_4),num (v0_5)]) (hw3:fu w0 [] T0 (1) 6 b3 o3 [num (wr (u1_0+v1_0)),num (wr (u1_1+v1_1)),num (wr (u1_2+v1_2)),num (wr (u1_3+v1_3)),num (wr (u1_4+v1_4)),num (wr (u1_5+v1_5))]) (hw4:fu w0 [] T1 (1) 6 b4 o4 [num (u1_0),num (u1_1),num (u1_2),num (u1_3),num (u1_4),num (u1_5)]) (hw5:fu w0 [] T2 (1) 6 b5 o5 [num (v1_0),num (v1_1),num (v1_2),num (v1_3),num (v1_4),num (v1_5)])
  (hown:∀q∈[]++[],q∈([]:List Nat)∨w0.heap.size≤q) (hnd:([]++[]:List Nat).Nodup) (h:dP (dS 175 [(23,.bool true),(25,.bool true),(27,.bool true),(16,dJ Sp),(22,dJ T0),(24,dJ T1),(26,dJ T2)]) [] [] a w) (hk:dO w0 [] w)
  (hQ:∀a' w',dP (dS 175 []) [] [] a' w'→dO w0 [] w'→D.wp aa Q a' w'):(gu [(dZ (sR 9 (dN ag2))),(dZ (sR 10 (dN ag2))),(dZ (sR 11 (dN ag2)))] D).wp aa Q a w:=by
 refine uN ([u0_0,v0_0,u0_1,v0_1,u0_2,v0_2,u0_3,v0_3,u0_4,v0_4,u0_5,v0_5,u1_0,v1_0,u1_1,v1_1,u1_2,v1_2,u1_3,v1_3,u1_4,v1_4,u1_5,v1_5]) ([k0,k1,k2]) [B0,B1,Sp,Sq,T0,T1,T2,Ba,Bb] (w0:=w0) (ex:=[]) (g:=[]) (wt:=[(4,.int .i64 0,6,0),(5,.int .i64 0,6,1),(6,.int .i64 0,6,2),(4,.int .i64 1,6,3),(5,.int .i64 1,6,4),(6,.int .i64 1,6,5)]) (lt:=[(2,.int .i64 2),(4,.int .i64 2),(5,.int .i64 2),(6,.int .i64 2)]) (t:={}) (ws:=[(b0,o0,[num (wr (u0_0+v0_0)),num (wr (u0_1+v0_1)),num (wr (u0_2+v0_2)),num (wr (u0_3+v0_3)),num (wr (u0_4+v0_4)),num (wr (u0_5+v0_5))]),(b1,o1,[num (u0_0),num (u0_1),num (u0_2),num (u0_3),num (u0_4),num (u0_5)]),(b2,o2,[num (v0_0),num (v0_1),num (v0_2),num (v0_3),num (v0_4),num (v0_5)]),(b3,o3,[num (wr (u1_0+v1_0)),num (wr (u1_1+v1_1)),num (wr (u1_2+v1_2)),num (wr (u1_3+v1_3)),num (wr (u1_4+v1_4)),num (wr (u1_5+v1_5))]),(b4,o4,[num (u1_0),num (u1_1),num (u1_2),num (u1_3),num (u1_4),num (u1_5)]),(b5,o5,[num (v1_0),num (v1_1),num (v1_2),num (v1_3),num (v1_4),num (v1_5)])]) (fr:=fK 175 [(23,.bool true),(25,.bool true),(27,.bool true),(16,dM 2),(22,dM 4),(24,dM 5),(26,dM 6)]) (H:=[]) (lo:=[]) (wb:=[dU [mI 2 [var 0,var 1],mI 2 [var 2,var 3],mI 2 [var 4,var 5],mI 2 [var 6,var 7],mI 2 [var 8,var 9],mI 2 [var 10,var 11]],dU [var 0,var 2,var 4,var 6,var 8,var 10],dU [var 1,var 3,var 5,var 7,var 9,var 11],dU [mI 2 [var 12,var 13],mI 2 [var 14,var 15],mI 2 [var 16,var 17],mI 2 [var 18,var 19],mI 2 [var 20,var 21],mI 2 [var 22,var 23]],dU [var 12,var 14,var 16,var 18,var 20,var 22],dU [var 13,var 15,var 17,var 19,var 21,var 23]])  6 _ [] [] (by kernel_rfl) (by kernel_rfl) (by simp) ⟨ed _,jo,dR hw0.wf<|dR hw1.wf<|dR hw2.wf<|dR hw3.wf<|dR hw4.wf<|dR hw5.wf<|all_nil,(by exact hown),kF,fun _=>⟨dR (qa hw0 rfl rfl rfl rfl)<|dR (qa hw1 rfl rfl rfl rfl)<|dR (qa hw2 rfl rfl rfl rfl)<|dR (qa hw3 rfl rfl rfl rfl)<|dR (qa hw4 rfl rfl rfl rfl)<|dR (qa hw5 rfl rfl rfl rfl)<|all_nil,dR (jf rfl hSp (by kernel_rfl) (by kernel_rfl))<|dR (jf rfl hT0 (by kernel_rfl) (by kernel_rfl))<|dR (jf rfl hT1 (by kernel_rfl) (by kernel_rfl))<|dR (jf rfl hT2 (by kernel_rfl) (by kernel_rfl))<|all_nil,all_nil⟩⟩ h hk hQ
theorem agp {B0 B1 Sq Ba Bb:dY} {x y z:Int} {k0 k1 k2:Bool} {n15 n18 n20 n21:Nat} {u2_0 v2_0 u2_1 v2_1 u2_2 v2_2 u2_3 v2_3 u2_4 v2_4 u2_5 v2_5:Int} {b6 o6:Nat} {b7 o7:Nat} {b8 o8:Nat} (hSp:Sp.2.1=3) (hT0:T0.2.1=3) (hT1:T1.2.1=3) (hT2:T2.2.1=3) (hw0:fu w0 [] T0 (0) 6 b0 o0 [num (wr (u0_0+v0_0)),num (wr (u0_1+v0_1)),num (wr (u0_2+v0_2)),num (wr (u0_3+v0_3)),num (wr (u0_4+v0_4)),num (wr (u0_5+v0_5))]) (hw1:fu w0 [] T1 (0) 6 b1 o1 [num (u0_0),num (u0_1),num (u0_2),num (u0_3),num (u0_4),num (u0_5)]) (hw2:fu w0 [] T2 (0) 6 b2 o2 [num (v0_0),num (v0_1),num (v0_2),num (v0_3),num (v0_4),num (v0_5)]) (hw3:fu w0 [] T0 (1) 6 b3 o3 [num (wr (u1_0+v1_0)),num (wr (u1_1+v1_1)),num (wr (u1_2+v1_2)),num (wr (u1_3+v1_3)),num (wr (u1_4+v1_4)),num (wr (u1_5+v1_5))]) (hw4:fu w0 [] T1 (1) 6 b4 o4 [num (u1_0),num (u1_1),num (u1_2),num (u1_3),num (u1_4),num (u1_5)]) (hw5:fu w0 [] T2 (1) 6 b5 o5 [num (v1_0),num (v1_1),num (v1_2),num (v1_3),num (v1_4),num (v1_5)]) (hw6:fu w0 [] T0 (2) 6 b6 o6 [num (wr (u2_0+v2_0)),num (wr (u2_1+v2_1)),num (wr (u2_2+v2_2)),num (wr (u2_3+v2_3)),num (wr (u2_4+v2_4)),num (wr (u2_5+v2_5))]) (hw7:fu w0 [] T1 (2) 6 b7 o7 [num (u2_0),num (u2_1),num (u2_2),num (u2_3),num (u2_4),num (u2_5)]) (hw8:fu w0 [] T2 (2) 6 b8 o8 [num (v2_0),num (v2_1),num (v2_2),num (v2_3),num (v2_4),num (v2_5)])
  (hown:∀q∈[]++[],q∈([]:List Nat)∨w0.heap.size≤q) (hnd:([]++[]:List Nat).Nodup) (h:dP (dS 175 [(23,.bool true),(25,.bool true),(27,.bool true),(16,dJ Sp),(22,dJ T0),(24,dJ T1),(26,dJ T2)]) [] [] a w) (hk:dO w0 [] w)
  (hQ:∀a' w',dP (dS 175 []) [] [] a' w'→dO w0 [] w'→D.wp aa Q a' w'):(gu [(dZ (sR 9 (dN ag2))),(dZ (sR 10 (dN ag2))),(dZ (sR 11 (dN ag2)))] D).wp aa Q a w:=by
 refine uN ([u0_0,v0_0,u0_1,v0_1,u0_2,v0_2,u0_3,v0_3,u0_4,v0_4,u0_5,v0_5,u1_0,v1_0,u1_1,v1_1,u1_2,v1_2,u1_3,v1_3,u1_4,v1_4,u1_5,v1_5,u2_0,v2_0,u2_1,v2_1,u2_2,v2_2,u2_3,v2_3,u2_4,v2_4,u2_5,v2_5]) ([k0,k1,k2]) [B0,B1,Sp,Sq,T0,T1,T2,Ba,Bb] (w0:=w0) (ex:=[]) (g:=[]) (wt:=[(4,.int .i64 0,6,0),(5,.int .i64 0,6,1),(6,.int .i64 0,6,2),(4,.int .i64 1,6,3),(5,.int .i64 1,6,4),(6,.int .i64 1,6,5),(4,.int .i64 2,6,6),(5,.int .i64 2,6,7),(6,.int .i64 2,6,8)]) (lt:=[(2,.int .i64 3),(4,.int .i64 3),(5,.int .i64 3),(6,.int .i64 3)]) (t:={}) (ws:=[(b0,o0,[num (wr (u0_0+v0_0)),num (wr (u0_1+v0_1)),num (wr (u0_2+v0_2)),num (wr (u0_3+v0_3)),num (wr (u0_4+v0_4)),num (wr (u0_5+v0_5))]),(b1,o1,[num (u0_0),num (u0_1),num (u0_2),num (u0_3),num (u0_4),num (u0_5)]),(b2,o2,[num (v0_0),num (v0_1),num (v0_2),num (v0_3),num (v0_4),num (v0_5)]),(b3,o3,[num (wr (u1_0+v1_0)),num (wr (u1_1+v1_1)),num (wr (u1_2+v1_2)),num (wr (u1_3+v1_3)),num (wr (u1_4+v1_4)),num (wr (u1_5+v1_5))]),(b4,o4,[num (u1_0),num (u1_1),num (u1_2),num (u1_3),num (u1_4),num (u1_5)]),(b5,o5,[num (v1_0),num (v1_1),num (v1_2),num (v1_3),num (v1_4),num (v1_5)]),(b6,o6,[num (wr (u2_0+v2_0)),num (wr (u2_1+v2_1)),num (wr (u2_2+v2_2)),num (wr (u2_3+v2_3)),num (wr (u2_4+v2_4)),num (wr (u2_5+v2_5))]),(b7,o7,[num (u2_0),num (u2_1),num (u2_2),num (u2_3),num (u2_4),num (u2_5)]),(b8,o8,[num (v2_0),num (v2_1),num (v2_2),num (v2_3),num (v2_4),num (v2_5)])]) (fr:=fK 175 [(23,.bool true),(25,.bool true),(27,.bool true),(16,dM 2),(22,dM 4),(24,dM 5),(26,dM 6)]) (H:=[]) (lo:=[]) (wb:=[dU [mI 2 [var 0,var 1],mI 2 [var 2,var 3],mI 2 [var 4,var 5],mI 2 [var 6,var 7],mI 2 [var 8,var 9],mI 2 [var 10,var 11]],dU [var 0,var 2,var 4,var 6,var 8,var 10],dU [var 1,var 3,var 5,var 7,var 9,var 11],dU [mI 2 [var 12,var 13],mI 2 [var 14,var 15],mI 2 [var 16,var 17],mI 2 [var 18,var 19],mI 2 [var 20,var 21],mI 2 [var 22,var 23]],dU [var 12,var 14,var 16,var 18,var 20,var 22],dU [var 13,var 15,var 17,var 19,var 21,var 23],dU [mI 2 [var 24,var 25],mI 2 [var 26,var 27],mI 2 [var 28,var 29],mI 2 [var 30,var 31],mI 2 [var 32,var 33],mI 2 [var 34,var 35]],dU [var 24,var 26,var 28,var 30,var 32,var 34],dU [var 25,var 27,var 29,var 31,var 33,var 35]])  6 _ [] [] (by kernel_rfl) (by kernel_rfl) (by simp) ⟨ed _,jo,dR hw0.wf<|dR hw1.wf<|dR hw2.wf<|dR hw3.wf<|dR hw4.wf<|dR hw5.wf<|dR hw6.wf<|dR hw7.wf<|dR hw8.wf<|all_nil,(by exact hown),kF,fun _=>⟨dR (qa hw0 rfl rfl rfl rfl)<|dR (qa hw1 rfl rfl rfl rfl)<|dR (qa hw2 rfl rfl rfl rfl)<|dR (qa hw3 rfl rfl rfl rfl)<|dR (qa hw4 rfl rfl rfl rfl)<|dR (qa hw5 rfl rfl rfl rfl)<|dR (qa hw6 rfl rfl rfl rfl)<|dR (qa hw7 rfl rfl rfl rfl)<|dR (qa hw8 rfl rfl rfl rfl)<|all_nil,dR (jf rfl hSp (by kernel_rfl) (by kernel_rfl))<|dR (jf rfl hT0 (by kernel_rfl) (by kernel_rfl))<|dR (jf rfl hT1 (by kernel_rfl) (by kernel_rfl))<|dR (jf rfl hT2 (by kernel_rfl) (by kernel_rfl))<|all_nil,all_nil⟩⟩ h hk hQ
theorem a6z {B0 B1 Sp Sq T0 T1 T2 Ba Bb:dY} {x y z:Int} {k0 k1 k2:Bool} {n15 n18 n20 n21:Nat} (hqt:∀z_∈([⟨16,[],.val (.bool true)⟩]:List Qt),jB aa (gB (w0,[]) [] [] []) z_)
  (hown:∀q∈[]++[],q∈([]:List Nat)∨w0.heap.size≤q) (hnd:([]++[]:List Nat).Nodup) (h:dP (dS 175 []) [] [] a w) (hk:dO w0 [] w)
  (hQ:∀a' w',dP (dS 175 []) [] [] a' w'→dO w0 [] w'→RR (.returned (.bool true)) w'):(sR 12 (dN ag2)).wp aa (bodyPost aa ag2 RR) a w:=by
 refine Q7 ([]) ([]) [] (w0:=w0) (ex:=[]) (g:=[]) (wt:=[]) (lt:=[]) (t:={ QT:=[⟨16,[],.val (.bool true)⟩] }) (ws:=[]) (fr:=fK 175 []) (H:=[]) (lo:=[]) (wb:=[])  (u:=.bool true) 6 [] [] (by kernel_rfl) (by kernel_rfl) (by simp) ⟨ed _,yA hqt,all_nil,(by exact hown),kF,fun _=>⟨all_nil,all_nil,all_nil⟩⟩ h hk hQ
end Go.Proofs
end
section
namespace Go.Proofs
open Go.Sm Go.RowKit En
theorem VP (w:World):Calls aa 16 #[] w fun e w'=>e=.returned (.bool true)∧Below w.heap.size w w' :=
 uQ (u:=.bool true) (ys:=[]) (Z:=(w,[])) (l:=[]) (bs:=[]) (sl:=[]) (ws:=[]) (g:=[]) (wt:=[]) (lt:=[]) (wb:=[]) (QT:=[]) (NT:=[]) (xs:=[]) ⟨ed _,all_nil,all_nil,all_nil,fun m hm hl=>⟨all_nil,all_nil,all_nil⟩⟩ (by kernel_rfl) (by kernel_rfl) (by kernel_rfl) (by kernel_rfl) (nQ (dO.refl w []))
end Go.Proofs
end
section
namespace Go.Proofs
open Go.Sm Go.RowKit En
structure Hd (c:Code) (k:Nat) (f:FuncId) (xs:List Operand) (d:Tmp):Prop where
 h:∃(o:Oper) (ags:Array Operand) (ts:Array TypeId) (fn:Func),(opsOf c).drop k=o::(opsOf c).drop (k+1)∧o.guard=none∧o.dst=some d∧o.op=.call { callee:=.value (.func f),args:=ags,argTypes:=ts }∧ags.toList=xs∧aa.funcs[f]?=some fn∧fn.body.isSome=true
def Nb (P:Program) (c:Code) (k:Nat):Option (FuncId×List Operand×Tmp):=match (opsOf c)[k]? with
 | some o=>match o.guard,o.dst,o.op with
  | none,some d,.call ⟨.value (.func f),ags,_⟩=>match P.funcs[f]? with
   | some fn=>bif fn.body.isSome then some (f,ags.toList,d) else none
   | _=>none
  | _,_,_=>none
 | none=>none
variable {c:Code} {k:Nat} {f:FuncId}
theorem WX {xs:List Operand} {d:Tmp} (h:Nb aa c k=some (f,xs,d)):Hd c k f xs d:=by
 unfold Nb at h
 split at h
 case h_2=>cases h
 rename_i o ho
 split at h
 case h_2=>cases h
 rename_i d' f' ags ts h1 h2 h3
 split at h
 case h_2=>cases h
 rename_i fn h4
 cases hb:fn.body.isSome with
 | false=>rw [hb] at h; cases h
 | true =>
  rw [hb] at h
  simp only [cond_true,ak,aP] at h
  obtain ⟨rfl,rfl,rfl⟩:=h
  obtain ⟨hlt,he⟩:=ai.1 ho
  exact ⟨o,ags,ts,fn,by rw [←he]; exact List.drop_eq_getElem_cons hlt,h1,h2,h3,rfl,h4,hb⟩
def FH (us:List (Option Value)):Operand→Option Value
 | .tmp x=>match us[x]? with
  | some v=>v
  | none=>none
 | .const v=>some v
 | _=>none
variable {us:List (Option Value)} {gs ls:List gQ} {a:Act} {w:World}
theorem aaZ (h:dP us gs ls a w) {o:Operand} {v:Value} (e:FH us o=some v):a.eval o=v:=by
 cases o with
 | tmp x =>
  unfold FH at e
  simp only at e
  split at e
  ·rename_i u hu; exact GV h (by rw [hu,e])
  ·cases e
 | const u=>injection e
 | global g=>cases e
 | func f=>cases e
def afx (us:List (Option Value)):List Operand→Option (List Value)
 | []=>some []
 | o::l=>match FH us o,afx us l with
  | some v,some r=>some (v::r)
  | _,_=>none
theorem QF {us:List (Option Value)} {gs ls:List gQ} {a:Act} {w:World} (h:dP us gs ls a w):∀(xs:List Operand) (vs:List Value),afx us xs=some vs→xs.map a.eval=vs
 | [],vs,e=>by simp only [afx,ak] at e; subst e; rfl
 | x::xs,vs,e=>by
  unfold afx at e
  cases h1:FH us x with
  | none=>simp [h1] at e
  | some v =>
   cases h2:afx us xs with
   | none=>simp [h1,h2] at e
   | some vs' =>
    simp only [h1,h2,ak] at e
    subst e
    rw [dI,aaZ h h1,QF h xs vs' h2]
theorem Xa {xs:List Operand} {d:Tmp} {Q:Exit→Act→World→Prop} {vs:List Value} {RP:Ending→World→Prop} (hA:Hd c k f xs d) (h:dP us gs ls a w) (hx:afx us xs=some vs) (hC:Calls aa f vs.toArray w RP) (hR:∀e w',RP e w'→∃v,e=.returned v∧wpList aa (opsOf c).toArray Q ((opsOf c).drop (k+1)) (a.put (some d) v) w'):wpList aa (opsOf c).toArray Q ((opsOf c).drop k) a w:=by
 obtain ⟨o,ags,ts,fn,h1,h2,h3,h4,h5,h6,h7⟩:=hA.h
 rw [h1]
 refine MZ Tryz.ky h2 h4 h6 h7 (xs:=vs) ?_ (hC.mono fun e w' hr=>?_)
 ·rw [h5]; exact QF h xs vs hx
 ·obtain ⟨v,e1,e2⟩:=hR e w' hr
  rw [h3]
  exact ⟨v,e1,e2⟩
theorem L6 (a n:Int) (hn:0<n):-n<a.tmod n∧a.tmod n<n:=⟨Int.lt_tmod_of_pos a hn,Int.tmod_lt_of_pos a hn⟩
theorem xy (x:Int) (h1:-9223372036854775808≤x) (h2:x≤9223372036854775807):wr x=x:=dz x (by omega)
theorem JX (x y z:Int):(-16777216≤rR x y z∧rR x y z≤16777216)∧(-16777216≤rT x y z∧rT x y z≤16777216)∧(-16777216≤rU x y z∧rU x y z≤16777216):=by
 have t0:=L6 x 40001 (by omega)
 have t1:=L6 y 40001 (by omega)
 have t2:=L6 z 2097152 (by omega)
 unfold rR rT rU
 generalize x.tmod 40001=p at *
 generalize y.tmod 40001=q at *
 generalize z.tmod 2097152=r at *
 rw [xy (p+40001) (by omega) (by omega),xy (q+40001) (by omega) (by omega),xy (r+2097152) (by omega) (by omega),xy (p+40001 - 20000) (by omega) (by omega),xy (q+40001 - 20000) (by omega) (by omega),xy (r+2097152 - 1048576) (by omega) (by omega),xy (p - 20000) (by omega) (by omega),xy (q - 20000) (by omega) (by omega),xy (r - 1048576) (by omega) (by omega)]
 cases decide (p<0)<;>cases decide (q<0)<;>cases decide (r<0)<;>simp only [cond_true,cond_false]<;>omega
theorem JW (x y z:Int):FN 255 [x,y,z]=rR x y z∧FN 256 [x,y,z]=rT x y z∧FN 257 [x,y,z]=rU x y z:=⟨by kernel_rfl,by kernel_rfl,by kernel_rfl⟩
theorem jW.Fq {ex:List Nat} {B0 B1:dY} {js:List JV} {mvs:List MV} (h:jW w ex B0 B1 js mvs):jW w [] B0 B1 js mvs :=
 { h with xB:=fun a ha=>⟨by simp,(h.xB a ha).2⟩,xM:=fun a ha h0=>⟨by simp,(h.xM a ha h0).2⟩ }
def pY:List (Int×Int)→List (Int×Int)→List (Int×Int)→List (List Value)
 | u::us,x::xs,g::gs=>[num u.1,num u.2,num x.1,num x.2,num g.1,num g.2]::pY us xs gs
 | _,_,_=>[]
theorem UL:∀us xs gs,(pY us xs gs).flatten=xu us xs gs
 | u::us,x::xs,g::gs=>by unfold pY xu; rw [List.flatten_cons,UL us xs gs]; rfl
 | [],_,_=>rfl
 | _::_,[],_=>rfl
 | _::_,_::_,[]=>rfl
theorem UM:∀us xs gs,∀r∈pY us xs gs,r.length=6
 | u::us,x::xs,g::gs,r,h=>by
  unfold pY at h
  rcases ag.1 h with rfl | h
  ·rfl
  ·exact UM us xs gs r h
 | [],_,_,r,h=>by simp [pY] at h
 | _::_,[],_,r,h=>by simp [pY] at h
 | _::_,_::_,[],r,h=>by simp [pY] at h
theorem aeg {g n:Nat} {us xs gs:List (Int×Int)} (h:w.heap[g]?=some (.cells ⟨xu us xs gs⟩ 47 (0,0))):Sl w ((some ⟨g,0,none⟩,n,n):dY).1 6 (pY us xs gs):=fun _=>⟨g,0,rfl,(aB.1 h).1,fun i r hi k v hk=>by
 have:=flat_get (pY us xs gs) 6 (UM us xs gs) i r hi k v hk
 rw [←UL] at h
 simpa [bS,h,List.flatMap] using this⟩
theorem H6 {E:Env}:∀z_∈([⟨16,[],.val (.bool true)⟩]:List Qt),jB aa E z_:=fun z_ hz=>by
 simp only [ag,ae,or_false] at hz
 subst hz
 exact fun w _=>⟨[],rfl,(VP w).mono fun e w' ⟨h1,h2⟩=>⟨h2,.bool true,rfl,h1⟩⟩
end Go.Proofs
end
section
namespace Go.Proofs
open Go.Sm Go.RowKit En
theorem agE:(sR 6 (dN ag2))=.seq (kS (dN ag2)) (.seq (uk (dN ag2)) (.seq (qj (dN ag2)) (sR 9 (dN ag2)))):=by kernel_rfl
theorem afK:(sR 9 (dN ag2))=gu [(dZ (sR 9 (dN ag2))),(dZ (sR 10 (dN ag2))),(dZ (sR 11 (dN ag2)))] (sR 12 (dN ag2)):=by kernel_rfl
theorem agF:Hd (kS (dN ag2)) 4 20 [.tmp 60,.tmp 61,.tmp 62,.tmp 63,.const (num 3),.const (num 2)] 64:=WX (by kernel_rfl)
theorem agG:Hd (uk (dN ag2)) 4 20 [.tmp 68,.tmp 69,.tmp 70,.tmp 71,.const (num 3),.const (num 2)] 72:=WX (by kernel_rfl)
theorem agH:Hd (qj (dN ag2)) 4 20 [.tmp 76,.tmp 77,.tmp 78,.tmp 79,.const (num 3),.const (num 2)] 80:=WX (by kernel_rfl)
structure afo (w W:World) (Tt:dY) (n:Nat) (T:Mx):Prop where
 fl:T.fl=false
 ln:Tt.2.1=n
 sl:Sl W Tt.1 6 (pY T.us T.xs T.gs)
 bk:∀a,Tt.1=some a→w.heap.size≤a.block
variable {w:World} {n:Nat}
theorem afQ {w':World} {T:Mx} {e:Ending} (h:VB w n T e w'):∃(Tt:dY) (ok:Bool),e=.returned (.tuple ⟨[dJ Tt,.bool ok]⟩)∧(ok=true→afo w w' Tt n T):=by
 obtain ⟨_,r1,r2⟩:=h
 cases hf:T.fl with
 | true=>exact ⟨(none,0,0),false,r1 hf,fun e=>by cases e⟩
 | false =>
  obtain ⟨gl,q1,q2,q3,q4⟩:=r2 hf
  exact ⟨(some ⟨gl,0,none⟩,n,n),true,q3,fun _=>⟨hf,rfl,aeg q4,fun a ha=>by injection ha with ha; subst ha; exact q1⟩⟩
variable {Tt:dY}
theorem afo.keep {W W':World} {T:Mx} {ex:List Nat} (h:afo w W Tt n T) (k:dO W ex W') (hx:∀g∈ex,g<w.heap.size):afo w W' Tt n T :=
 ⟨h.fl,h.ln,kI h.sl k fun a ha hm=>by have:=h.bk a ha; have:=hx _ hm; omega,h.bk⟩
theorem af8:∀(us xs gs:List (Int×Int)) (n:Nat),us.length=n→xs.length=n→gs.length=n→(pY us xs gs).length=n
 | [],_,_,n,h1,_,_=>by subst h1; rfl
 | _::us,[],_,n,h1,h2,_=>by subst h1; simp at h2
 | _::us,_::xs,[],n,h1,_,h3=>by subst h1; simp at h3
 | _::us,_::xs,_::gs,n,h1,h2,h3=>by
  subst h1
  simp only [dB,Nat.add_right_cancel_iff] at h2 h3
  show (pY us xs gs).length+1=_
  rw [af8 us xs gs us.length rfl h2 h3]
  rfl
def afC (us xs gs:List (Int×Int)) (k:Nat):List Value:=[num (us.getD k (0,0)).1,num (us.getD k (0,0)).2,num (xs.getD k (0,0)).1,num (xs.getD k (0,0)).2,num (gs.getD k (0,0)).1,num (gs.getD k (0,0)).2]
theorem af7:∀(us xs gs:List (Int×Int)) (n k:Nat),us.length=n→xs.length=n→gs.length=n→k<n→(pY us xs gs)[k]?=some (afC us xs gs k)
 | [],_,_,n,k,h1,_,_,hk=>by subst h1; cases hk
 | _::us,[],_,n,k,h1,h2,_,_=>by subst h1; simp at h2
 | _::us,_::xs,[],n,k,h1,_,h3,_=>by subst h1; simp at h3
 | _::us,_::xs,_::gs,n,0,_,_,_,_=>rfl
 | _::us,_::xs,_::gs,n,k+1,h1,h2,h3,hk=>by
  subst h1
  simp only [dB,Nat.add_right_cancel_iff] at h2 h3
  simp only [dB] at hk
  exact af7 us xs gs us.length k rfl h2 h3 (by omega)
theorem row_of {w0:World} {us xs gs:List (Int×Int)} {k:Nat} {r:List Value} (sl:Sl w Tt.1 6 (pY us xs gs)) (ln:Tt.2.1=n) (h1:us.length=n) (h2:xs.length=n) (h3:gs.length=n) (hk:k<n) (hr:afC us xs gs k=r) (h0:w0=w):∃b o,fu w0 [] Tt k 6 b o r:=by
 subst hr h0
 exact iy sl (by rw [ln,af8 us xs gs n h1 h2 h3]) (af7 us xs gs n k h1 h2 h3 hk) (by simp [afC]) (fun a ha=>by simp)
def af6 (u1 x1 g1 u2 x2 g2:List (Int×Int)) (k:Nat):List Value:=[num (wr ((u1.getD k (0,0)).1+(u2.getD k (0,0)).1)),num (wr ((u1.getD k (0,0)).2+(u2.getD k (0,0)).2)),num (wr ((x1.getD k (0,0)).1+(x2.getD k (0,0)).1)),num (wr ((x1.getD k (0,0)).2+(x2.getD k (0,0)).2)),num (wr ((g1.getD k (0,0)).1+(g2.getD k (0,0)).1)),num (wr ((g1.getD k (0,0)).2+(g2.getD k (0,0)).2))]
theorem afz {u1 x1 g1 u2 x2 g2 u3 x3 g3:List (Int×Int)} (h1:gX n u1 u2 u3) (h2:gX n x1 x2 x3) (h3:gX n g1 g2 g3) (k:Nat):afC u3 x3 g3 k=af6 u1 x1 g1 u2 x2 g2 k:=by
 unfold afC af6
 rw [(h1.get k).1,(h1.get k).2,(h2.get k).1,(h2.get k).2,(h3.get k).1,(h3.get k).2]
theorem gX.len {U V T:List (Int×Int)} (h:gX n U V T):U.length=n∧V.length=n∧T.length=n:=by
 have:=h.lT; have:=h.sum.lA; have:=h.sum.lB; omega
variable {w1:World} {a1:Act}
theorem afJ (hb:Below w.heap.size w w1) (hs:dP (dS 175 []) [] [] a1 w1):(sR 12 (dN ag2)).wp aa (bodyPost aa ag2 (wz w)) a1 w1 :=
 a6z (w0:=w1) (B0:=(none,0,0)) (B1:=(none,0,0)) (Sp:=(none,0,0)) (Sq:=(none,0,0)) (T0:=(none,0,0)) (T1:=(none,0,0)) (T2:=(none,0,0)) (Ba:=(none,0,0)) (Bb:=(none,0,0)) (x:=0) (y:=0) (z:=0) (k0:=false) (k1:=false) (k2:=false) (n15:=0) (n18:=0) (n20:=0) (n21:=0) H6 (fun q hq=>by cases hq) (by simp) hs (dO.refl w1 _) fun a3 w3 s4 k3=>⟨rfl,xG ((uo hb).trans k3)⟩
theorem agz (hb:Below w.heap.size w w1) (hs:dP (dS 175 [(23,.bool false)]) [] [] a1 w1):(sR 9 (dN ag2)).wp aa (bodyPost aa ag2 (wz w)) a1 w1 :=
 agq (w0:=w1) (B0:=(none,0,0)) (B1:=(none,0,0)) (Sp:=(none,0,0)) (Sq:=(none,0,0)) (T0:=(none,0,0)) (T1:=(none,0,0)) (T2:=(none,0,0)) (Ba:=(none,0,0)) (Bb:=(none,0,0)) (x:=0) (y:=0) (z:=0) (k0:=false) (k1:=false) (k2:=false) (n15:=0) (n18:=0) (n20:=0) (n21:=0) H6 (fun q hq=>by cases hq) (by simp) hs (dO.refl w1 _) fun a3 w3 s4 k3=>⟨rfl,xG ((uo hb).trans k3)⟩
theorem agA (hb:Below w.heap.size w w1) (hs:dP (dS 175 [(23,.bool true),(25,.bool false)]) [] [] a1 w1):(sR 9 (dN ag2)).wp aa (bodyPost aa ag2 (wz w)) a1 w1 :=
 agr (w0:=w1) (B0:=(none,0,0)) (B1:=(none,0,0)) (Sp:=(none,0,0)) (Sq:=(none,0,0)) (T0:=(none,0,0)) (T1:=(none,0,0)) (T2:=(none,0,0)) (Ba:=(none,0,0)) (Bb:=(none,0,0)) (x:=0) (y:=0) (z:=0) (k0:=false) (k1:=false) (k2:=false) (n15:=0) (n18:=0) (n20:=0) (n21:=0) H6 (fun q hq=>by cases hq) (by simp) hs (dO.refl w1 _) fun a3 w3 s4 k3=>⟨rfl,xG ((uo hb).trans k3)⟩
theorem agB (hb:Below w.heap.size w w1) (hs:dP (dS 175 [(23,.bool true),(25,.bool true),(27,.bool false)]) [] [] a1 w1):(sR 9 (dN ag2)).wp aa (bodyPost aa ag2 (wz w)) a1 w1 :=
 agt (w0:=w1) (B0:=(none,0,0)) (B1:=(none,0,0)) (Sp:=(none,0,0)) (Sq:=(none,0,0)) (T0:=(none,0,0)) (T1:=(none,0,0)) (T2:=(none,0,0)) (Ba:=(none,0,0)) (Bb:=(none,0,0)) (x:=0) (y:=0) (z:=0) (k0:=false) (k1:=false) (k2:=false) (n15:=0) (n18:=0) (n20:=0) (n21:=0) H6 (fun q hq=>by cases hq) (by simp) hs (dO.refl w1 _) fun a3 w3 s4 k3=>⟨rfl,xG ((uo hb).trans k3)⟩
variable {v0 v1 v2:World} {Sp T0 T1 T2:dY}
theorem agu {A0 A1 A2:Mx} (hb:Below w.heap.size w w1) (hSp:Sp.2.1=1) (t0:afo v0 w1 T0 1 A0) (t1:afo v1 w1 T1 1 A1) (t2:afo v2 w1 T2 1 A2) (hU:gX 1 A1.us A2.us A0.us) (hX:gX 1 A1.xs A2.xs A0.xs) (hG:gX 1 A1.gs A2.gs A0.gs) (hs:dP (dS 175 [(23,.bool true),(25,.bool true),(27,.bool true),(16,dJ Sp),(22,dJ T0),(24,dJ T1),(26,dJ T2)]) [] [] a1 w1):(sR 9 (dN ag2)).wp aa (bodyPost aa ag2 (wz w)) a1 w1:=by
 rw [afK]
 obtain ⟨b00,o00,R00⟩:=row_of (k:=0) (w0:=w1) t0.sl t0.ln hU.len.2.2 hX.len.2.2 hG.len.2.2 (by omega) (afz hU hX hG 0) rfl
 obtain ⟨b10,o10,R10⟩:=row_of (k:=0) (w0:=w1) t1.sl t1.ln hU.len.1 hX.len.1 hG.len.1 (by omega) rfl rfl
 obtain ⟨b20,o20,R20⟩:=row_of (k:=0) (w0:=w1) t2.sl t2.ln hU.len.2.1 hX.len.2.1 hG.len.2.1 (by omega) rfl rfl
 exact agm (w0:=w1) (B0:=(none,0,0)) (B1:=(none,0,0)) (Sq:=(none,0,0)) (Ba:=(none,0,0)) (Bb:=(none,0,0)) (x:=0) (y:=0) (z:=0) (k0:=false) (k1:=false) (k2:=false) (n15:=0) (n18:=0) (n20:=0) (n21:=0) hSp t0.ln t1.ln t2.ln R00 R10 R20 (fun q hq=>by cases hq) (by simp) hs (dO.refl w1 _) fun a3 w3 s4 k3=>afJ (xG ((uo hb).trans k3)) s4
theorem agv {A0 A1 A2:Mx} (hb:Below w.heap.size w w1) (hSp:Sp.2.1=2) (t0:afo v0 w1 T0 2 A0) (t1:afo v1 w1 T1 2 A1) (t2:afo v2 w1 T2 2 A2) (hU:gX 2 A1.us A2.us A0.us) (hX:gX 2 A1.xs A2.xs A0.xs) (hG:gX 2 A1.gs A2.gs A0.gs) (hs:dP (dS 175 [(23,.bool true),(25,.bool true),(27,.bool true),(16,dJ Sp),(22,dJ T0),(24,dJ T1),(26,dJ T2)]) [] [] a1 w1):(sR 9 (dN ag2)).wp aa (bodyPost aa ag2 (wz w)) a1 w1:=by
 rw [afK]
 obtain ⟨b00,o00,R00⟩:=row_of (k:=0) (w0:=w1) t0.sl t0.ln hU.len.2.2 hX.len.2.2 hG.len.2.2 (by omega) (afz hU hX hG 0) rfl
 obtain ⟨b10,o10,R10⟩:=row_of (k:=0) (w0:=w1) t1.sl t1.ln hU.len.1 hX.len.1 hG.len.1 (by omega) rfl rfl
 obtain ⟨b20,o20,R20⟩:=row_of (k:=0) (w0:=w1) t2.sl t2.ln hU.len.2.1 hX.len.2.1 hG.len.2.1 (by omega) rfl rfl
 obtain ⟨b01,o01,R01⟩:=row_of (k:=1) (w0:=w1) t0.sl t0.ln hU.len.2.2 hX.len.2.2 hG.len.2.2 (by omega) (afz hU hX hG 1) rfl
 obtain ⟨b11,o11,R11⟩:=row_of (k:=1) (w0:=w1) t1.sl t1.ln hU.len.1 hX.len.1 hG.len.1 (by omega) rfl rfl
 obtain ⟨b21,o21,R21⟩:=row_of (k:=1) (w0:=w1) t2.sl t2.ln hU.len.2.1 hX.len.2.1 hG.len.2.1 (by omega) rfl rfl
 exact agn (w0:=w1) (B0:=(none,0,0)) (B1:=(none,0,0)) (Sq:=(none,0,0)) (Ba:=(none,0,0)) (Bb:=(none,0,0)) (x:=0) (y:=0) (z:=0) (k0:=false) (k1:=false) (k2:=false) (n15:=0) (n18:=0) (n20:=0) (n21:=0) hSp t0.ln t1.ln t2.ln R00 R10 R20 R01 R11 R21 (fun q hq=>by cases hq) (by simp) hs (dO.refl w1 _) fun a3 w3 s4 k3=>afJ (xG ((uo hb).trans k3)) s4
theorem agw {A0 A1 A2:Mx} (hb:Below w.heap.size w w1) (hSp:Sp.2.1=3) (t0:afo v0 w1 T0 3 A0) (t1:afo v1 w1 T1 3 A1) (t2:afo v2 w1 T2 3 A2) (hU:gX 3 A1.us A2.us A0.us) (hX:gX 3 A1.xs A2.xs A0.xs) (hG:gX 3 A1.gs A2.gs A0.gs) (hs:dP (dS 175 [(23,.bool true),(25,.bool true),(27,.bool true),(16,dJ Sp),(22,dJ T0),(24,dJ T1),(26,dJ T2)]) [] [] a1 w1):(sR 9 (dN ag2)).wp aa (bodyPost aa ag2 (wz w)) a1 w1:=by
 rw [afK]
 obtain ⟨b00,o00,R00⟩:=row_of (k:=0) (w0:=w1) t0.sl t0.ln hU.len.2.2 hX.len.2.2 hG.len.2.2 (by omega) (afz hU hX hG 0) rfl
 obtain ⟨b10,o10,R10⟩:=row_of (k:=0) (w0:=w1) t1.sl t1.ln hU.len.1 hX.len.1 hG.len.1 (by omega) rfl rfl
 obtain ⟨b20,o20,R20⟩:=row_of (k:=0) (w0:=w1) t2.sl t2.ln hU.len.2.1 hX.len.2.1 hG.len.2.1 (by omega) rfl rfl
 obtain ⟨b01,o01,R01⟩:=row_of (k:=1) (w0:=w1) t0.sl t0.ln hU.len.2.2 hX.len.2.2 hG.len.2.2 (by omega) (afz hU hX hG 1) rfl
 obtain ⟨b11,o11,R11⟩:=row_of (k:=1) (w0:=w1) t1.sl t1.ln hU.len.1 hX.len.1 hG.len.1 (by omega) rfl rfl
 obtain ⟨b21,o21,R21⟩:=row_of (k:=1) (w0:=w1) t2.sl t2.ln hU.len.2.1 hX.len.2.1 hG.len.2.1 (by omega) rfl rfl
 obtain ⟨b02,o02,R02⟩:=row_of (k:=2) (w0:=w1) t0.sl t0.ln hU.len.2.2 hX.len.2.2 hG.len.2.2 (by omega) (afz hU hX hG 2) rfl
 obtain ⟨b12,o12,R12⟩:=row_of (k:=2) (w0:=w1) t1.sl t1.ln hU.len.1 hX.len.1 hG.len.1 (by omega) rfl rfl
 obtain ⟨b22,o22,R22⟩:=row_of (k:=2) (w0:=w1) t2.sl t2.ln hU.len.2.1 hX.len.2.1 hG.len.2.1 (by omega) rfl rfl
 exact agp (w0:=w1) (B0:=(none,0,0)) (B1:=(none,0,0)) (Sq:=(none,0,0)) (Ba:=(none,0,0)) (Bb:=(none,0,0)) (x:=0) (y:=0) (z:=0) (k0:=false) (k1:=false) (k2:=false) (n15:=0) (n18:=0) (n20:=0) (n21:=0) hSp t0.ln t1.ln t2.ln R00 R10 R20 R01 R11 R21 R02 R12 R22 (fun q hq=>by cases hq) (by simp) hs (dO.refl w1 _) fun a3 w3 s4 k3=>afJ (xG ((uo hb).trans k3)) s4
theorem agC {B0 B1 Sq Ba Bb:dY} {js:List JV} {m1 m2:List MV} {ps qs:List Int} {x y z:Int} {n15 n18 n20 n21:Nat} {a:Act} {W0:World} (h:jW W0 [n15,n18,n20,n21] B0 B1 js (m1++m2)) (hA:jW W0 [n15,n18,n20,n21] B0 Ba js m1) (hB:jW W0 [n15,n18,n20,n21] B0 Bb js m2) (hm2:(m1++m2).length≤2) (hP:Sp.2.1=ps.length) (hQ:Sq.2.1=qs.length) (sP:Sl W0 Sp.1 1 (fF ps)) (sQ:Sl W0 Sq.1 1 (fF qs)) (ip:mi js ps) (iq:mi js qs) (xP:∀a,Sp.1=some a→fF ps≠[]→a.block∉[n15,n18,n20,n21]) (xQ:∀a,Sq.1=some a→fF qs≠[]→a.block∉[n15,n18,n20,n21])
  (hx:-16777216≤x∧x≤16777216) (hy:-16777216≤y∧y≤16777216) (hz:-16777216≤z∧z≤16777216) (hnd:([n15,n18,n20,n21]++[]:List Nat).Nodup)
  (s0:dP (dS 175 [(15,dK n15),(16,dJ Sp),(17,dJ Sq),(18,dK n18),(20,dK n20),(21,dK n21)]) [(n15,[dJ B0,dJ B1],35),(n18,[num x,num y,num z],40),(n20,[dJ B0,dJ Ba],35),(n21,[dJ B0,dJ Bb],35)] [] a W0) (hb:Below w.heap.size w W0) (hge:∀g∈[n15,n18,n20,n21],w.heap.size≤g) :
  (sR 6 (dN ag2)).wp aa (bodyPost aa ag2 (wz w)) a W0:=by
 have hl1:m1.length≤2:=by rw [afa] at hm2; omega
 have hl2:m2.length≤2:=by rw [afa] at hm2; omega
 have hown:∀q∈[n15,n18,n20,n21]++[],q∈[n15,n18,n20,n21]∨W0.heap.size≤q:=fun q hq=>.inl (by simpa using hq)
 have hlt:∀g∈[n15,n18,n20,n21],g<W0.heap.size:=fun g hg=>qE s0 g (by simpa using hg)
 rw [agE]
 have K0:dO W0 [n15,n18,n20,n21] W0:=dO.refl W0 _
 refine wp_seq (yC (by kernel_rfl) (xN 4 ?_))
 refine agf (w0:=W0) (B0:=B0) (B1:=B1) (Sp:=Sp) (Sq:=Sq) (T0:=(none,0,0)) (T1:=(none,0,0)) (T2:=(none,0,0)) (Ba:=Ba) (Bb:=Bb) (x:=x) (y:=y) (z:=z) (k0:=false) (k1:=false) (k2:=false) (n15:=n15) (n18:=n18) (n20:=n20) (n21:=n21) (fun q hq=>.inl (by simpa using hq)) hnd s0 (dO.refl W0 _) fun a01 w01 s01 k01=>?_
 have K01:=K0.trans k01
 have l01:∀g∈[n15,n18,n20,n21],g<w01.heap.size:=fun g hg=>aC (hlt g hg) K01.size
 refine Xa agF s01 (vs:=[.agg ⟨[dJ B0,dJ B1]⟩,.agg ⟨[num x,num y,num z]⟩,dJ Sp,dJ Sq,num 3,num 2]) (by kernel_rfl) (GX (h.fz (nQ K01)).Fq hm2 hP hQ (l8 sP (nQ K01) (kX _) xP) (l8 sQ (nQ K01) (kX _) xQ) ip iq (by omega) (by decide) hx hy hz) fun e w02 hR=>?_
 have kb0:=uo hR.1
 obtain ⟨T0,k0,rfl,hT0⟩:=afQ hR
 clear hR
 refine ⟨_,rfl,?_⟩
 have s02:=yX (BF (BG s01 fun q hq=>kb0.frame q (qE s01 q hq) (by simp)) 64 (.tuple ⟨[dJ T0,.bool k0]⟩))
 have s02':=dP.sub (l':=[(15,dK n15),(16,dJ Sp),(17,dJ Sq),(18,dK n18),(20,dK n20),(21,dK n21),(64,.tuple ⟨[dJ T0,.bool k0]⟩)]) (gs':=[(n15,[dJ B0,dJ B1],35),(n18,[num x,num y,num z],40),(n20,[dJ B0,dJ Ba],35),(n21,[dJ B0,dJ Bb],35)]) (ls':=[]) s02 (fun x hx=>by
  simp only [ag,ae,or_false] at hx
  rcases hx with rfl | rfl | rfl | rfl | rfl | rfl | rfl<;>rfl) (fun x hx=>hx) (fun x hx=>hx) hnd
 have K02:dO W0 [n15,n18,n20,n21] w02:=K01.comp kb0 fun g hg=>by cases hg
 refine y9 (agj (w0:=w02) (B0:=B0) (B1:=B1) (Sp:=Sp) (Sq:=Sq) (T0:=T0) (T1:=(none,0,0)) (T2:=(none,0,0)) (Ba:=Ba) (Bb:=Bb) (x:=x) (y:=y) (z:=z) (k0:=k0) (k1:=false) (k2:=false) (n15:=n15) (n18:=n18) (n20:=n20) (n21:=n21) (fun q hq=>.inl (by simpa using hq)) hnd s02' (dO.refl w02 _) fun a03 W1 s1 k03=>?_)
 have K1:=K02.trans k03
 refine wp_seq (yC (by kernel_rfl) (xN 4 ?_))
 refine agh (w0:=W1) (B0:=B0) (B1:=B1) (Sp:=Sp) (Sq:=Sq) (T0:=T0) (T1:=(none,0,0)) (T2:=(none,0,0)) (Ba:=Ba) (Bb:=Bb) (x:=x) (y:=y) (z:=z) (k0:=k0) (k1:=false) (k2:=false) (n15:=n15) (n18:=n18) (n20:=n20) (n21:=n21) (fun q hq=>.inl (by simpa using hq)) hnd s1 (dO.refl W1 _) fun a11 w11 s11 k11=>?_
 have K11:=K1.trans k11
 have l11:∀g∈[n15,n18,n20,n21],g<w11.heap.size:=fun g hg=>aC (hlt g hg) K11.size
 refine Xa agG s11 (vs:=[.agg ⟨[dJ B0,dJ Ba]⟩,.agg ⟨[num x,num y,num z]⟩,dJ Sp,dJ Sq,num 3,num 2]) (by kernel_rfl) (GX (hA.fz (nQ K11)).Fq hl1 hP hQ (l8 sP (nQ K11) (kX _) xP) (l8 sQ (nQ K11) (kX _) xQ) ip iq (by omega) (by decide) hx hy hz) fun e w12 hR=>?_
 have kb1:=uo hR.1
 obtain ⟨T1,k1,rfl,hT1⟩:=afQ hR
 clear hR
 refine ⟨_,rfl,?_⟩
 have s12:=yX (BF (BG s11 fun q hq=>kb1.frame q (qE s11 q hq) (by simp)) 72 (.tuple ⟨[dJ T1,.bool k1]⟩))
 have s12':=dP.sub (l':=[(15,dK n15),(16,dJ Sp),(17,dJ Sq),(18,dK n18),(20,dK n20),(21,dK n21),(22,dJ T0),(23,.bool k0),(72,.tuple ⟨[dJ T1,.bool k1]⟩)]) (gs':=[(n15,[dJ B0,dJ B1],35),(n18,[num x,num y,num z],40),(n20,[dJ B0,dJ Ba],35),(n21,[dJ B0,dJ Bb],35)]) (ls':=[]) s12 (fun x hx=>by
  simp only [ag,ae,or_false] at hx
  rcases hx with rfl | rfl | rfl | rfl | rfl | rfl | rfl | rfl | rfl<;>rfl) (fun x hx=>hx) (fun x hx=>hx) hnd
 have K12:dO W0 [n15,n18,n20,n21] w12:=K11.comp kb1 fun g hg=>by cases hg
 refine y9 (agk (w0:=w12) (B0:=B0) (B1:=B1) (Sp:=Sp) (Sq:=Sq) (T0:=T0) (T1:=T1) (T2:=(none,0,0)) (Ba:=Ba) (Bb:=Bb) (x:=x) (y:=y) (z:=z) (k0:=k0) (k1:=k1) (k2:=false) (n15:=n15) (n18:=n18) (n20:=n20) (n21:=n21) (fun q hq=>.inl (by simpa using hq)) hnd s12' (dO.refl w12 _) fun a13 W2 s2 k13=>?_)
 have K2:=K12.trans k13
 refine wp_seq (yC (by kernel_rfl) (xN 4 ?_))
 refine agi (w0:=W2) (B0:=B0) (B1:=B1) (Sp:=Sp) (Sq:=Sq) (T0:=T0) (T1:=T1) (T2:=(none,0,0)) (Ba:=Ba) (Bb:=Bb) (x:=x) (y:=y) (z:=z) (k0:=k0) (k1:=k1) (k2:=false) (n15:=n15) (n18:=n18) (n20:=n20) (n21:=n21) (fun q hq=>.inl (by simpa using hq)) hnd s2 (dO.refl W2 _) fun a21 w21 s21 k21=>?_
 have K21:=K2.trans k21
 have l21:∀g∈[n15,n18,n20,n21],g<w21.heap.size:=fun g hg=>aC (hlt g hg) K21.size
 refine Xa agH s21 (vs:=[.agg ⟨[dJ B0,dJ Bb]⟩,.agg ⟨[num x,num y,num z]⟩,dJ Sp,dJ Sq,num 3,num 2]) (by kernel_rfl) (GX (hB.fz (nQ K21)).Fq hl2 hP hQ (l8 sP (nQ K21) (kX _) xP) (l8 sQ (nQ K21) (kX _) xQ) ip iq (by omega) (by decide) hx hy hz) fun e w22 hR=>?_
 have kb2:=uo hR.1
 obtain ⟨T2,k2,rfl,hT2⟩:=afQ hR
 clear hR
 refine ⟨_,rfl,?_⟩
 have s22:=yX (BF (BG s21 fun q hq=>kb2.frame q (qE s21 q hq) (by simp)) 80 (.tuple ⟨[dJ T2,.bool k2]⟩))
 have s22':=dP.sub (l':=[(15,dK n15),(16,dJ Sp),(17,dJ Sq),(18,dK n18),(20,dK n20),(21,dK n21),(22,dJ T0),(23,.bool k0),(24,dJ T1),(25,.bool k1),(80,.tuple ⟨[dJ T2,.bool k2]⟩)]) (gs':=[(n15,[dJ B0,dJ B1],35),(n18,[num x,num y,num z],40),(n20,[dJ B0,dJ Ba],35),(n21,[dJ B0,dJ Bb],35)]) (ls':=[]) s22 (fun x hx=>by
  simp only [ag,ae,or_false] at hx
  rcases hx with rfl | rfl | rfl | rfl | rfl | rfl | rfl | rfl | rfl | rfl | rfl<;>rfl) (fun x hx=>hx) (fun x hx=>hx) hnd
 have K22:dO W0 [n15,n18,n20,n21] w22:=K21.comp kb2 fun g hg=>by cases hg
 refine y9 (agl (w0:=w22) (B0:=B0) (B1:=B1) (Sp:=Sp) (Sq:=Sq) (T0:=T0) (T1:=T1) (T2:=T2) (Ba:=Ba) (Bb:=Bb) (x:=x) (y:=y) (z:=z) (k0:=k0) (k1:=k1) (k2:=k2) (n15:=n15) (n18:=n18) (n20:=n20) (n21:=n21) (fun q hq=>.inl (by simpa using hq)) hnd s22' (dO.refl w22 _) fun a23 W3 s3 k23=>?_)
 have K3:=K22.trans k23
 have hB3:Below w.heap.size w W3:=xG ((uo hb).comp K3 fun g hg=>.inr (hge g hg))
 have sub:∀l':List (Nat×Value),(∀x∈l',lookO x.1 [(15,dK n15),(16,dJ Sp),(17,dJ Sq),(18,dK n18),(20,dK n20),(21,dK n21),(22,dJ T0),(23,.bool k0),(24,dJ T1),(25,.bool k1),(26,dJ T2),(27,.bool k2)]=some x.2)→dP (dS 175 l') [] [] a23 W3:=fun l' hl=>dP.sub s3 hl (fun x hx=>by cases hx) (fun x hx=>by cases hx) (by simp)
 cases k0 with
 | false=>exact agz hB3 (sub _ fun x hx=>by
   simp only [ag,ae,or_false] at hx
   rcases hx with rfl; rfl)
 | true =>
 cases k1 with
 | false=>exact agA hB3 (sub _ fun x hx=>by
   simp only [ag,ae,or_false] at hx
   rcases hx with rfl | rfl<;>rfl)
 | true =>
 cases k2 with
 | false=>exact agB hB3 (sub _ fun x hx=>by
   simp only [ag,ae,or_false] at hx
   rcases hx with rfl | rfl | rfl<;>rfl)
 | true =>
 have t0:=(((hT0 rfl).keep k03 l01).keep k11 l01)
 have t0:=((t0.keep kb1 fun g hg=>by cases hg).keep k13 l01).keep k21 l01
 have t0:=(t0.keep kb2 fun g hg=>by cases hg).keep k23 l01
 have t1:=((hT1 rfl).keep k13 l11).keep k21 l11
 have t1:=(t1.keep kb2 fun g hg=>by cases hg).keep k23 l11
 have t2:=(hT2 rfl).keep k23 l21
 obtain ⟨hU,hX,hG⟩:=agY t0.fl t1.fl t2.fl
 have hSp:Sp.2.1=js.length:=by rw [hP,←ip.1]
 have s4:=sub [(23,.bool true),(25,.bool true),(27,.bool true),(16,dJ Sp),(22,dJ T0),(24,dJ T1),(26,dJ T2)] (fun x hx=>by
  simp only [ag,ae,or_false] at hx
  rcases hx with rfl | rfl | rfl | rfl | rfl | rfl | rfl<;>rfl)
 have hn:=h.n
 generalize js.length=n at hn hSp t0 t1 t2 hU hX hG
 rcases (show n=1∨n=2∨n=3 by omega) with rfl | rfl | rfl
 ·exact agu hB3 hSp t0 t1 t2 hU hX hG s4
 ·exact agv hB3 hSp t0 t1 t2 hU hX hG s4
 ·exact agw hB3 hSp t0 t1 t2 hU hX hG s4
end Go.Proofs
end
