/-
  Part of the proof: see the last text.
-/
import Derived.Deep.DeepCutAuto
import Derived.Deep.CutBlock
import Derived.Deep.RegionHeld3
import Derived.Test.YthbfmjlcnfgnbaaGreatZEa
import Derived.Test.YthbfmjlcnfgnbaaGreatZSb
import Derived.Test.YthbfmjlcnfgnbaaGreatZWg
import Derived.Test.YthbfmjlcnfgnbaaGreatZXd
set_option linter.unusedVariables false
set_option maxHeartbeats 8000000
open Array renaming getElem?_eq_some_iff→aB,replicate→aji
open Go.RowKit.Below renaming heap_setCell→ae0,refl→aI
open Bool renaming and_eq_true→aQ,not_eq_false'→amH,or_eq_false_iff→ajj
open Int renaming add_mul→amF,fdiv_eq_ediv_of_nonneg→amD,mul_le_mul_of_nonneg_left→amG,mul_nonneg→ajm,neg_mul→ajn,one_mul→amM,toNat→amJ
open Go.IntKind renaming i64→bg
open Go.IntWalk renaming i64_in→dz
open Go.Lib renaming hid→aG
open List renaming append_assoc→afd,cons_append→dw,getD→amI,getD_cons_succ→bZ,getD_cons_zero→bN,getElem?_append_left→aH,getElem?_append_right→bu,getElem?_eq_getElem→ah,getElem?_eq_none→bQ,getElem?_eq_some_iff→ai,getElem?_map→bY,getElem?_of_mem→cZ,length→ae1,length_append→afa,length_cons→dB,length_map→dF,length_nil→aeT,map_cons→dI,map_eq_nil_iff→ag3,map_nil→ae9,mem_append→bH,mem_cons→ag,mem_cons_of_mem→aT,mem_cons_self→aA,mem_map→aeZ,mem_of_getElem?→aN,nil_append→dD,nodup_cons→ag5,not_mem_nil→ae,replicate→ag6
open Nat renaming beq→ay,eq_of_beq_eq_true→bf,le_refl→au,le_trans→aZ,lt_of_lt_of_le→aC,lt_or_ge→cu,succ_pos→aO
open Option renaming map_eq_some_iff→aR
open Option.some renaming injEq→ak
open Prod.mk renaming injEq→aP
open Go.Proofs.Tryz renaming f20→aY,prog→aa
open Go.World renaming cell?→bS,setCell→afg
section
namespace Go.Proofs
open Go.Sm Go.RowKit En
def LK (x d:Int):Int:=x.fdiv (2^(min d.toNat 64))
def Bq (p q i:Int):Int:=bg.wrap (i*bg.wrap (q - p))
def Br (p q i:Int):Int:=bg.wrap (bg.wrap (i+1)*bg.wrap (q - p))
def pM (p q d i:Int):Int:=bg.wrap (p+LK (if Br p q i<Bq p q i then Br p q i else Bq p q i) d)
def pK (p q d i:Int):Int:=bg.wrap (p - LK (bg.wrap (-(if Bq p q i<Br p q i then Br p q i else Bq p q i))) d)
def kY (l:List Int):iF:=fun i=>FN (135+i) l
def Fe (kind lo hi:Int):iF :=
 bif kind==1 then (fun i=>FN (159+i) [0,lo,hi]) else bif kind==2 then (fun i=>FN (159+i) [1,lo,hi]) else bif kind==3 then (fun i=>FN (159+i) [2,lo,hi]) else
 bif kind==4 then kY [lo,hi,0,0,0,0] else bif kind==5 then kY [0,0,lo,hi,0,0] else bif kind==6 then kY [0,0,0,0,lo,hi] else fun i=>FN (183+i) []
def kE (P Q:iF):iF:=fun i=>FN (207+i) (pl P++pl Q)
def nK (kind o0 o1 o2 lo hi:Int):iF:=kE (kY (pg 62 [o0,o1,o2]).l) (Fe kind lo hi)
variable {w0 w:World} {ex:List Nat} {P Q:dY} {d i p0 q0:Int} {b0 o0 b1 o1:Nat}
theorem aci (hP:P.2.1=1) (hQ:Q.2.1=1) (ha0:decide (p0< -2147483648)=false) (hb0:decide (2147483648<p0)=false) (ha1:decide (q0< -2147483648)=false) (hb1:decide (2147483648<q0)=false) (hd0:decide (0≤d)=true) (hd1:decide (d≤20)=true) (hd2:decide (d<0)=false) (hi0:decide (i<0)=false) (hi1:decide (bg.wrap (1*2^(min d.toNat 64))≤i)=false) (hw0:fu w0 ex P (0) 1 b0 o0 [num (p0)]) (hw1:fu w0 ex Q (0) 1 b1 o1 [num (q0)]) (hF:iV (w0,ex) w) :
  Calls aa 39 #[dJ P,dJ Q,num (d),num (i)] w (fun r w'=>Below w.heap.size w w'∧∃gl,w.heap.size≤gl∧gl<w'.heap.size∧r=.returned (kC true gl 1 1)∧w'.heap[gl]?=some (.cells ⟨[num (pM p0 q0 d i),num (pK p0 q0 d i)]⟩ 64 (0,0))):=by
 refine qM (t:=true) (n:=1) (c:=1) (e:=64) (vs:=[num (pM p0 q0 d i),num (pK p0 q0 d i)]) (Z:=(w0,ex)) (l:=[d,i]++[p0,q0]) (bs:=[]) (sl:=[P,Q]) (ws:=[(b0,o0,[num (p0)]),(b1,o1,[num (q0)])]) (g:=[(mB 20 [var 2,.int .i64 (-2147483648)],.bool false),(mB 22 [var 2,.int .i64 2147483648],.bool false),(mB 20 [var 3,.int .i64 (-2147483648)],.bool false),(mB 22 [var 3,.int .i64 2147483648],.bool false),(mB 21 [.int .i64 0,var 0],.bool true),(mB 21 [var 0,.int .i64 20],.bool true),(mB 20 [var 0,.int .i64 0],.bool false),(mB 20 [var 1,.int .i64 0],.bool false),(mB 23 [var 1,mI 10 [.int .i64 1,var 0]],.bool false)]) (wt:=[(0,.int .i64 0,1,0),(1,.int .i64 0,1,1)]) (lt:=[(0,.int .i64 1),(1,.int .i64 1)]) (wb:=[dU [var 2],dU [var 3]]) (QT:=[]) (NT:=[]) (xs:=[dM 0,dM 1,var 0,var 1]) ⟨fq (b:=(decide (p0< -2147483648))) (by kernel_rfl) ha0 (fq (b:=(decide (2147483648<p0))) (by kernel_rfl) hb0 (fq (b:=(decide (q0< -2147483648))) (by kernel_rfl) ha1 (fq (b:=(decide (2147483648<q0))) (by kernel_rfl) hb1 (fq (b:=(decide (0≤d))) (by kernel_rfl) hd0 (fq (b:=(decide (d≤20))) (by kernel_rfl) hd1 (fq (b:=(decide (d<0))) (by kernel_rfl) hd2 (fq (b:=(decide (i<0))) (by kernel_rfl) hi0 (fq (b:=(decide (bg.wrap (1*2^(min d.toNat 64))≤i))) (by kernel_rfl) hi1 (fB _))))))))),all_nil,all_nil,dR hw0.wf<|dR hw1.wf<|all_nil,fun m hm hl=>⟨dR (gI (Z:=(w0,ex)) hw0 rfl rfl hm (hl 0 _ rfl))<|dR (gI (Z:=(w0,ex)) hw1 rfl rfl hm (hl 1 _ rfl))<|all_nil,dR (jf hm hP (by kernel_rfl) (by kernel_rfl))<|dR (jf hm hQ (by kernel_rfl) (by kernel_rfl))<|all_nil,all_nil⟩⟩ (by kernel_rfl) (by kernel_rfl) (by kernel_rfl) (by kernel_rfl) hF
variable {p1 q1:Int} {b2 o2 b3 o3:Nat}
theorem acj (hP:P.2.1=2) (hQ:Q.2.1=2) (ha0:decide (p0< -2147483648)=false) (hb0:decide (2147483648<p0)=false) (ha1:decide (p1< -2147483648)=false) (hb1:decide (2147483648<p1)=false) (ha2:decide (q0< -2147483648)=false) (hb2:decide (2147483648<q0)=false) (ha3:decide (q1< -2147483648)=false) (hb3:decide (2147483648<q1)=false) (hd0:decide (0≤d)=true) (hd1:decide (d≤20)=true) (hd2:decide (d<0)=false) (hi0:decide (i<0)=false) (hi1:decide (bg.wrap (1*2^(min d.toNat 64))≤i)=false) (hw0:fu w0 ex P (0) 1 b0 o0 [num (p0)]) (hw1:fu w0 ex P (1) 1 b1 o1 [num (p1)]) (hw2:fu w0 ex Q (0) 1 b2 o2 [num (q0)]) (hw3:fu w0 ex Q (1) 1 b3 o3 [num (q1)]) (hF:iV (w0,ex) w) :
  Calls aa 39 #[dJ P,dJ Q,num (d),num (i)] w (fun r w'=>Below w.heap.size w w'∧∃gl,w.heap.size≤gl∧gl<w'.heap.size∧r=.returned (kC true gl 2 2)∧w'.heap[gl]?=some (.cells ⟨[num (pM p0 q0 d i),num (pK p0 q0 d i),num (pM p1 q1 d i),num (pK p1 q1 d i)]⟩ 64 (0,0))):=by
 refine qM (t:=true) (n:=2) (c:=2) (e:=64) (vs:=[num (pM p0 q0 d i),num (pK p0 q0 d i),num (pM p1 q1 d i),num (pK p1 q1 d i)]) (Z:=(w0,ex)) (l:=[d,i]++[p0,p1,q0,q1]) (bs:=[]) (sl:=[P,Q]) (ws:=[(b0,o0,[num (p0)]),(b1,o1,[num (p1)]),(b2,o2,[num (q0)]),(b3,o3,[num (q1)])]) (g:=[(mB 20 [var 2,.int .i64 (-2147483648)],.bool false),(mB 22 [var 2,.int .i64 2147483648],.bool false),(mB 20 [var 3,.int .i64 (-2147483648)],.bool false),(mB 22 [var 3,.int .i64 2147483648],.bool false),(mB 20 [var 4,.int .i64 (-2147483648)],.bool false),(mB 22 [var 4,.int .i64 2147483648],.bool false),(mB 20 [var 5,.int .i64 (-2147483648)],.bool false),(mB 22 [var 5,.int .i64 2147483648],.bool false),(mB 21 [.int .i64 0,var 0],.bool true),(mB 21 [var 0,.int .i64 20],.bool true),(mB 20 [var 0,.int .i64 0],.bool false),(mB 20 [var 1,.int .i64 0],.bool false),(mB 23 [var 1,mI 10 [.int .i64 1,var 0]],.bool false)]) (wt:=[(0,.int .i64 0,1,0),(0,.int .i64 1,1,1),(1,.int .i64 0,1,2),(1,.int .i64 1,1,3)]) (lt:=[(0,.int .i64 2),(1,.int .i64 2)]) (wb:=[dU [var 2],dU [var 3],dU [var 4],dU [var 5]]) (QT:=[]) (NT:=[]) (xs:=[dM 0,dM 1,var 0,var 1]) ⟨fq (b:=(decide (p0< -2147483648))) (by kernel_rfl) ha0 (fq (b:=(decide (2147483648<p0))) (by kernel_rfl) hb0 (fq (b:=(decide (p1< -2147483648))) (by kernel_rfl) ha1 (fq (b:=(decide (2147483648<p1))) (by kernel_rfl) hb1 (fq (b:=(decide (q0< -2147483648))) (by kernel_rfl) ha2 (fq (b:=(decide (2147483648<q0))) (by kernel_rfl) hb2 (fq (b:=(decide (q1< -2147483648))) (by kernel_rfl) ha3 (fq (b:=(decide (2147483648<q1))) (by kernel_rfl) hb3 (fq (b:=(decide (0≤d))) (by kernel_rfl) hd0 (fq (b:=(decide (d≤20))) (by kernel_rfl) hd1 (fq (b:=(decide (d<0))) (by kernel_rfl) hd2 (fq (b:=(decide (i<0))) (by kernel_rfl) hi0 (fq (b:=(decide (bg.wrap (1*2^(min d.toNat 64))≤i))) (by kernel_rfl) hi1 (fB _))))))))))))),all_nil,all_nil,dR hw0.wf<|dR hw1.wf<|dR hw2.wf<|dR hw3.wf<|all_nil,fun m hm hl=>⟨dR (gI (Z:=(w0,ex)) hw0 rfl rfl hm (hl 0 _ rfl))<|dR (gI (Z:=(w0,ex)) hw1 rfl rfl hm (hl 1 _ rfl))<|dR (gI (Z:=(w0,ex)) hw2 rfl rfl hm (hl 2 _ rfl))<|dR (gI (Z:=(w0,ex)) hw3 rfl rfl hm (hl 3 _ rfl))<|all_nil,dR (jf hm hP (by kernel_rfl) (by kernel_rfl))<|dR (jf hm hQ (by kernel_rfl) (by kernel_rfl))<|all_nil,all_nil⟩⟩ (by kernel_rfl) (by kernel_rfl) (by kernel_rfl) (by kernel_rfl) hF
variable {b4 o4 b5 o5:Nat}
theorem ack {p2 q2:Int} (hP:P.2.1=3) (hQ:Q.2.1=3) (ha0:decide (p0< -2147483648)=false) (hb0:decide (2147483648<p0)=false) (ha1:decide (p1< -2147483648)=false) (hb1:decide (2147483648<p1)=false) (ha2:decide (p2< -2147483648)=false) (hb2:decide (2147483648<p2)=false) (ha3:decide (q0< -2147483648)=false) (hb3:decide (2147483648<q0)=false) (ha4:decide (q1< -2147483648)=false) (hb4:decide (2147483648<q1)=false) (ha5:decide (q2< -2147483648)=false) (hb5:decide (2147483648<q2)=false) (hd0:decide (0≤d)=true) (hd1:decide (d≤20)=true) (hd2:decide (d<0)=false) (hi0:decide (i<0)=false) (hi1:decide (bg.wrap (1*2^(min d.toNat 64))≤i)=false) (hw0:fu w0 ex P (0) 1 b0 o0 [num (p0)]) (hw1:fu w0 ex P (1) 1 b1 o1 [num (p1)]) (hw2:fu w0 ex P (2) 1 b2 o2 [num (p2)]) (hw3:fu w0 ex Q (0) 1 b3 o3 [num (q0)]) (hw4:fu w0 ex Q (1) 1 b4 o4 [num (q1)]) (hw5:fu w0 ex Q (2) 1 b5 o5 [num (q2)]) (hF:iV (w0,ex) w) :
  Calls aa 39 #[dJ P,dJ Q,num (d),num (i)] w (fun r w'=>Below w.heap.size w w'∧∃gl,w.heap.size≤gl∧gl<w'.heap.size∧r=.returned (kC true gl 3 3)∧w'.heap[gl]?=some (.cells ⟨[num (pM p0 q0 d i),num (pK p0 q0 d i),num (pM p1 q1 d i),num (pK p1 q1 d i),num (pM p2 q2 d i),num (pK p2 q2 d i)]⟩ 64 (0,0))):=by
 refine qM (t:=true) (n:=3) (c:=3) (e:=64) (vs:=[num (pM p0 q0 d i),num (pK p0 q0 d i),num (pM p1 q1 d i),num (pK p1 q1 d i),num (pM p2 q2 d i),num (pK p2 q2 d i)]) (Z:=(w0,ex)) (l:=[d,i]++[p0,p1,p2,q0,q1,q2]) (bs:=[]) (sl:=[P,Q]) (ws:=[(b0,o0,[num (p0)]),(b1,o1,[num (p1)]),(b2,o2,[num (p2)]),(b3,o3,[num (q0)]),(b4,o4,[num (q1)]),(b5,o5,[num (q2)])]) (g:=[(mB 20 [var 2,.int .i64 (-2147483648)],.bool false),(mB 22 [var 2,.int .i64 2147483648],.bool false),(mB 20 [var 3,.int .i64 (-2147483648)],.bool false),(mB 22 [var 3,.int .i64 2147483648],.bool false),(mB 20 [var 4,.int .i64 (-2147483648)],.bool false),(mB 22 [var 4,.int .i64 2147483648],.bool false),(mB 20 [var 5,.int .i64 (-2147483648)],.bool false),(mB 22 [var 5,.int .i64 2147483648],.bool false),(mB 20 [var 6,.int .i64 (-2147483648)],.bool false),(mB 22 [var 6,.int .i64 2147483648],.bool false),(mB 20 [var 7,.int .i64 (-2147483648)],.bool false),(mB 22 [var 7,.int .i64 2147483648],.bool false),(mB 21 [.int .i64 0,var 0],.bool true),(mB 21 [var 0,.int .i64 20],.bool true),(mB 20 [var 0,.int .i64 0],.bool false),(mB 20 [var 1,.int .i64 0],.bool false),(mB 23 [var 1,mI 10 [.int .i64 1,var 0]],.bool false)]) (wt:=[(0,.int .i64 0,1,0),(0,.int .i64 1,1,1),(0,.int .i64 2,1,2),(1,.int .i64 0,1,3),(1,.int .i64 1,1,4),(1,.int .i64 2,1,5)]) (lt:=[(0,.int .i64 3),(1,.int .i64 3)]) (wb:=[dU [var 2],dU [var 3],dU [var 4],dU [var 5],dU [var 6],dU [var 7]]) (QT:=[]) (NT:=[]) (xs:=[dM 0,dM 1,var 0,var 1]) ⟨fq (b:=(decide (p0< -2147483648))) (by kernel_rfl) ha0 (fq (b:=(decide (2147483648<p0))) (by kernel_rfl) hb0 (fq (b:=(decide (p1< -2147483648))) (by kernel_rfl) ha1 (fq (b:=(decide (2147483648<p1))) (by kernel_rfl) hb1 (fq (b:=(decide (p2< -2147483648))) (by kernel_rfl) ha2 (fq (b:=(decide (2147483648<p2))) (by kernel_rfl) hb2 (fq (b:=(decide (q0< -2147483648))) (by kernel_rfl) ha3 (fq (b:=(decide (2147483648<q0))) (by kernel_rfl) hb3 (fq (b:=(decide (q1< -2147483648))) (by kernel_rfl) ha4 (fq (b:=(decide (2147483648<q1))) (by kernel_rfl) hb4 (fq (b:=(decide (q2< -2147483648))) (by kernel_rfl) ha5 (fq (b:=(decide (2147483648<q2))) (by kernel_rfl) hb5 (fq (b:=(decide (0≤d))) (by kernel_rfl) hd0 (fq (b:=(decide (d≤20))) (by kernel_rfl) hd1 (fq (b:=(decide (d<0))) (by kernel_rfl) hd2 (fq (b:=(decide (i<0))) (by kernel_rfl) hi0 (fq (b:=(decide (bg.wrap (1*2^(min d.toNat 64))≤i))) (by kernel_rfl) hi1 (fB _))))))))))))))))),all_nil,all_nil,dR hw0.wf<|dR hw1.wf<|dR hw2.wf<|dR hw3.wf<|dR hw4.wf<|dR hw5.wf<|all_nil,fun m hm hl=>⟨dR (gI (Z:=(w0,ex)) hw0 rfl rfl hm (hl 0 _ rfl))<|dR (gI (Z:=(w0,ex)) hw1 rfl rfl hm (hl 1 _ rfl))<|dR (gI (Z:=(w0,ex)) hw2 rfl rfl hm (hl 2 _ rfl))<|dR (gI (Z:=(w0,ex)) hw3 rfl rfl hm (hl 3 _ rfl))<|dR (gI (Z:=(w0,ex)) hw4 rfl rfl hm (hl 4 _ rfl))<|dR (gI (Z:=(w0,ex)) hw5 rfl rfl hm (hl 5 _ rfl))<|all_nil,dR (jf hm hP (by kernel_rfl) (by kernel_rfl))<|dR (jf hm hQ (by kernel_rfl) (by kernel_rfl))<|all_nil,all_nil⟩⟩ (by kernel_rfl) (by kernel_rfl) (by kernel_rfl) (by kernel_rfl) hF
variable {s:ByteArray} {pa lo hi we sp ac tq x y:Int}
theorem Yz {o0 o1 o2:Int}  (hF:iV (w0,ex) w) :
  Calls aa 117 #[.agg ⟨[.string s,num (0),num (pa),num (o0),num (o1),num (o2),num (lo),num (hi),num (we),num (sp),num (ac),num (tq)]⟩,.agg ⟨[num (x),num (y)]⟩] w (fun e w'=>e=.returned (.agg ⟨gT (kE (kY (pg 62 [o0,o1,o2]).l) (fun i=>FN (183+i) []))⟩)∧Below w.heap.size w w'):=by
 refine uQ (Z:=(w0,ex)) (l:=[pa,o0,o1,o2,lo,hi,we,sp,ac,tq,x,y]) (bs:=[]) (sl:=[]) (ws:=[]) (g:=[]) (wt:=[]) (lt:=[]) (wb:=[]) (QT:=[]) (NT:=[]) (xs:=[.agg ⟨(.string s::.int .i64 (0)::vs 0 10)⟩,.agg ⟨[var 10,var 11]⟩]) ⟨fB _,all_nil,all_nil,all_nil,fun m hm hl=>⟨all_nil,all_nil,all_nil⟩⟩ (by kernel_rfl) (by kernel_rfl) (by kernel_rfl) (by kernel_rfl) hF
variable {T:iF}
theorem YA {o0 o1 o2:Int}  (hqt:∀z_∈([⟨146,[.int .i64 0,.agg ⟨[var 10,var 11]⟩],.val (.agg ⟨(vs 12 24)⟩)⟩]:List Qt),jB aa (gP (w0,ex) ([pa,o0,o1,o2,lo,hi,we,sp,ac,tq,x,y]++pl T) ([]) [] []) z_) (hF:iV (w0,ex) w) :
  Calls aa 117 #[.agg ⟨[.string s,num (1),num (pa),num (o0),num (o1),num (o2),num (lo),num (hi),num (we),num (sp),num (ac),num (tq)]⟩,.agg ⟨[num (x),num (y)]⟩] w (fun e w'=>e=.returned (.agg ⟨gT (kE (kY (pg 62 [o0,o1,o2]).l) T)⟩)∧Below w.heap.size w w'):=by
 refine uQ (Z:=(w0,ex)) (g:=[]) (wt:=[]) (lt:=[]) (wb:=[]) (NT:=[]) (xs:=[.agg ⟨(.string s::.int .i64 (1)::vs 0 10)⟩,.agg ⟨[var 10,var 11]⟩]) ⟨fB _,hqt,all_nil,all_nil,fun m hm hl=>⟨all_nil,all_nil,all_nil⟩⟩ (by kernel_rfl) (by kernel_rfl) (by kernel_rfl) (by kernel_rfl) hF
theorem YB {o0 o1 o2:Int}  (hqt:∀z_∈([⟨146,[.int .i64 1,.agg ⟨[var 10,var 11]⟩],.val (.agg ⟨(vs 12 24)⟩)⟩]:List Qt),jB aa (gP (w0,ex) ([pa,o0,o1,o2,lo,hi,we,sp,ac,tq,x,y]++pl T) ([]) [] []) z_) (hF:iV (w0,ex) w) :
  Calls aa 117 #[.agg ⟨[.string s,num (2),num (pa),num (o0),num (o1),num (o2),num (lo),num (hi),num (we),num (sp),num (ac),num (tq)]⟩,.agg ⟨[num (x),num (y)]⟩] w (fun e w'=>e=.returned (.agg ⟨gT (kE (kY (pg 62 [o0,o1,o2]).l) T)⟩)∧Below w.heap.size w w'):=by
 refine uQ (Z:=(w0,ex)) (g:=[]) (wt:=[]) (lt:=[]) (wb:=[]) (NT:=[]) (xs:=[.agg ⟨(.string s::.int .i64 (2)::vs 0 10)⟩,.agg ⟨[var 10,var 11]⟩]) ⟨fB _,hqt,all_nil,all_nil,fun m hm hl=>⟨all_nil,all_nil,all_nil⟩⟩ (by kernel_rfl) (by kernel_rfl) (by kernel_rfl) (by kernel_rfl) hF
theorem YC {o0 o1 o2:Int}  (hqt:∀z_∈([⟨146,[.int .i64 2,.agg ⟨[var 10,var 11]⟩],.val (.agg ⟨(vs 12 24)⟩)⟩]:List Qt),jB aa (gP (w0,ex) ([pa,o0,o1,o2,lo,hi,we,sp,ac,tq,x,y]++pl T) ([]) [] []) z_) (hF:iV (w0,ex) w) :
  Calls aa 117 #[.agg ⟨[.string s,num (3),num (pa),num (o0),num (o1),num (o2),num (lo),num (hi),num (we),num (sp),num (ac),num (tq)]⟩,.agg ⟨[num (x),num (y)]⟩] w (fun e w'=>e=.returned (.agg ⟨gT (kE (kY (pg 62 [o0,o1,o2]).l) T)⟩)∧Below w.heap.size w w'):=by
 refine uQ (Z:=(w0,ex)) (g:=[]) (wt:=[]) (lt:=[]) (wb:=[]) (NT:=[]) (xs:=[.agg ⟨(.string s::.int .i64 (3)::vs 0 10)⟩,.agg ⟨[var 10,var 11]⟩]) ⟨fB _,hqt,all_nil,all_nil,fun m hm hl=>⟨all_nil,all_nil,all_nil⟩⟩ (by kernel_rfl) (by kernel_rfl) (by kernel_rfl) (by kernel_rfl) hF
theorem YD {o0 o1 o2:Int}  (hF:iV (w0,ex) w) :
  Calls aa 117 #[.agg ⟨[.string s,num (4),num (pa),num (o0),num (o1),num (o2),num (lo),num (hi),num (we),num (sp),num (ac),num (tq)]⟩,.agg ⟨[num (x),num (y)]⟩] w (fun e w'=>e=.returned (.agg ⟨gT (kE (kY (pg 62 [o0,o1,o2]).l) (kY [x,y,0,0,0,0]))⟩)∧Below w.heap.size w w'):=by
 refine uQ (Z:=(w0,ex)) (l:=[pa,o0,o1,o2,lo,hi,we,sp,ac,tq,x,y]) (bs:=[]) (sl:=[]) (ws:=[]) (g:=[]) (wt:=[]) (lt:=[]) (wb:=[]) (QT:=[]) (NT:=[]) (xs:=[.agg ⟨(.string s::.int .i64 (4)::vs 0 10)⟩,.agg ⟨[var 10,var 11]⟩]) ⟨fB _,all_nil,all_nil,all_nil,fun m hm hl=>⟨all_nil,all_nil,all_nil⟩⟩ (by kernel_rfl) (by kernel_rfl) (by kernel_rfl) (by kernel_rfl) hF
theorem YE {o0 o1 o2:Int}  (hF:iV (w0,ex) w) :
  Calls aa 117 #[.agg ⟨[.string s,num (5),num (pa),num (o0),num (o1),num (o2),num (lo),num (hi),num (we),num (sp),num (ac),num (tq)]⟩,.agg ⟨[num (x),num (y)]⟩] w (fun e w'=>e=.returned (.agg ⟨gT (kE (kY (pg 62 [o0,o1,o2]).l) (kY [0,0,x,y,0,0]))⟩)∧Below w.heap.size w w'):=by
 refine uQ (Z:=(w0,ex)) (l:=[pa,o0,o1,o2,lo,hi,we,sp,ac,tq,x,y]) (bs:=[]) (sl:=[]) (ws:=[]) (g:=[]) (wt:=[]) (lt:=[]) (wb:=[]) (QT:=[]) (NT:=[]) (xs:=[.agg ⟨(.string s::.int .i64 (5)::vs 0 10)⟩,.agg ⟨[var 10,var 11]⟩]) ⟨fB _,all_nil,all_nil,all_nil,fun m hm hl=>⟨all_nil,all_nil,all_nil⟩⟩ (by kernel_rfl) (by kernel_rfl) (by kernel_rfl) (by kernel_rfl) hF
theorem YF {o0 o1 o2:Int}  (hF:iV (w0,ex) w) :
  Calls aa 117 #[.agg ⟨[.string s,num (6),num (pa),num (o0),num (o1),num (o2),num (lo),num (hi),num (we),num (sp),num (ac),num (tq)]⟩,.agg ⟨[num (x),num (y)]⟩] w (fun e w'=>e=.returned (.agg ⟨gT (kE (kY (pg 62 [o0,o1,o2]).l) (kY [0,0,0,0,x,y]))⟩)∧Below w.heap.size w w'):=by
 refine uQ (Z:=(w0,ex)) (l:=[pa,o0,o1,o2,lo,hi,we,sp,ac,tq,x,y]) (bs:=[]) (sl:=[]) (ws:=[]) (g:=[]) (wt:=[]) (lt:=[]) (wb:=[]) (QT:=[]) (NT:=[]) (xs:=[.agg ⟨(.string s::.int .i64 (6)::vs 0 10)⟩,.agg ⟨[var 10,var 11]⟩]) ⟨fB _,all_nil,all_nil,all_nil,fun m hm hl=>⟨all_nil,all_nil,all_nil⟩⟩ (by kernel_rfl) (by kernel_rfl) (by kernel_rfl) (by kernel_rfl) hF
variable {B0 B1 X:dY} {gx gy gz:Int} {j0:JV} {x0:Int×Int}
theorem adE (hB:B0.2.1=1) (hX:X.2.1=1) (hl0:decide (gx< -16777216)=false) (hu0:decide (16777216<gx)=false) (hl1:decide (gy< -16777216)=false) (hu1:decide (16777216<gy)=false) (hl2:decide (gz< -16777216)=false) (hu2:decide (16777216<gz)=false) (hw_0:ou x0.1 x0.2 j0.lo j0.hi=true) (hw0:fu w0 ex B0 (0) 12 b0 o0 (fZ j0 (j0.parent))) (hw1:fu w0 ex X (0) 2 b1 o1 [num (x0.1),num (x0.2)]) (hqt:∀z_∈([⟨86,[.agg ⟨[dM 0,dM 1]⟩],.val (.int .i64 0)⟩]:List Qt),jB aa (gP (w0,ex) ([gx,gy,gz]++fE j0++[x0.1,x0.2]) ([]) [B0,B1,X] [(b0,o0,(fZ j0 (j0.parent))),(b1,o1,[num (x0.1),num (x0.2)])]) z_) (hF:iV (w0,ex) w) :
  Calls aa 40 #[.agg ⟨[dJ B0,dJ B1]⟩,.agg ⟨[num (gx),num (gy),num (gz)]⟩,dJ X] w (fun e w'=>e=.returned (.bool true)∧Below w.heap.size w w'):=by
 refine uQ (Z:=(w0,ex)) (g:=[(mB 20 [var 0,.int .i64 (-16777216)],.bool false),(mB 22 [var 0,.int .i64 16777216],.bool false),(mB 20 [var 1,.int .i64 (-16777216)],.bool false),(mB 22 [var 1,.int .i64 16777216],.bool false),(mB 20 [var 2,.int .i64 (-16777216)],.bool false),(mB 22 [var 2,.int .i64 16777216],.bool false),(mB 1020 [var 14,var 15,var 8,var 9],.bool true)]) (wt:=[(0,.int .i64 0,12,0),(2,.int .i64 0,2,1)]) (lt:=[(0,.int .i64 1),(2,.int .i64 1)]) (wb:=[dU (.string j0.name::vs 3 11),dU [var 14,var 15]]) (NT:=[]) (xs:=[.agg ⟨[dM 0,dM 1]⟩,.agg ⟨(vs 0 3)⟩,dM 2]) ⟨fq (b:=(decide (gx< -16777216))) (by kernel_rfl) hl0 (fq (b:=(decide (16777216<gx))) (by kernel_rfl) hu0 (fq (b:=(decide (gy< -16777216))) (by kernel_rfl) hl1 (fq (b:=(decide (16777216<gy))) (by kernel_rfl) hu1 (fq (b:=(decide (gz< -16777216))) (by kernel_rfl) hl2 (fq (b:=(decide (16777216<gz))) (by kernel_rfl) hu2 (fq (b:=(ou x0.1 x0.2 j0.lo j0.hi)) (by kernel_rfl) hw_0 (fB _))))))),hqt,all_nil,dR hw0.wf<|dR hw1.wf<|all_nil,fun m hm hl=>⟨dR (gI (Z:=(w0,ex)) hw0 rfl rfl hm (hl 0 _ rfl))<|dR (gI (Z:=(w0,ex)) hw1 rfl rfl hm (hl 1 _ rfl))<|all_nil,dR (jf hm hB (by kernel_rfl) (by kernel_rfl))<|dR (jf hm hX (by kernel_rfl) (by kernel_rfl))<|all_nil,all_nil⟩⟩ (by kernel_rfl) (by kernel_rfl) (by kernel_rfl) (by kernel_rfl) hF
variable {J0:iF}
theorem Zb (hB:B0.2.1=1) (hX:X.2.1=1) (hv0:fC x0.1 x0.2=true) (hw0:fu w0 ex B0 (0) 12 b0 o0 (fZ j0 (-1))) (hw1:fu w0 ex X (0) 2 b1 o1 [num (x0.1),num (x0.2)]) (hqt:∀z_∈([⟨86,[.agg ⟨[dM 0,dM 1]⟩],.val (.int .i64 0)⟩]:List Qt),jB aa (gP (w0,ex) (fE j0++[x0.1,x0.2]++pl J0) ([]) [B0,B1,X] [(b0,o0,(fZ j0 (-1))),(b1,o1,[num (x0.1),num (x0.2)])]) z_) (hnt:∀z_∈([⟨117,(var 0::.int .i64 (-1)::vs 2 9),[.agg ⟨[var 11,var 12]⟩],.agg ⟨(vs 13 24)⟩⟩]:List Nt),sG aa (gP (w0,ex) (fE j0++[x0.1,x0.2]++pl J0) ([]) [B0,B1,X] [(b0,o0,(fZ j0 (-1))),(b1,o1,[num (x0.1),num (x0.2)])]) z_) (hF:iV (w0,ex) w) :
  Calls aa 68 #[.agg ⟨[dJ B0,dJ B1]⟩,dJ X] w (fun r w'=>Below w.heap.size w w'∧∃gl,w.heap.size≤gl∧gl<w'.heap.size∧r=.returned (kC false gl 1 1)∧w'.heap[gl]?=some (.cells ⟨([J0].flatMap gT)⟩ 135 (0,0))):=by
 refine qM (t:=false) (n:=1) (c:=1) (e:=135) (vs:=([J0].flatMap gT)) (Z:=(w0,ex)) (g:=[(mB 1003 [var 11,var 12],.bool true)]) (wt:=[(0,.int .i64 0,12,0),(2,.int .i64 0,2,1)]) (lt:=[(0,.int .i64 1),(2,.int .i64 1)]) (wb:=[dU (.string j0.name::var 0::.int .i64 (-1)::vs 2 9),dU [var 11,var 12]]) (xs:=[.agg ⟨[dM 0,dM 1]⟩,dM 2]) ⟨fq (b:=(fC x0.1 x0.2)) (by kernel_rfl) hv0 (fB _),hqt,hnt,dR hw0.wf<|dR hw1.wf<|all_nil,fun m hm hl=>⟨dR (gI (Z:=(w0,ex)) hw0 rfl rfl hm (hl 0 _ rfl))<|dR (gI (Z:=(w0,ex)) hw1 rfl rfl hm (hl 1 _ rfl))<|all_nil,dR (jf hm hB (by kernel_rfl) (by kernel_rfl))<|dR (jf hm hX (by kernel_rfl) (by kernel_rfl))<|all_nil,all_nil⟩⟩ (by kernel_rfl) (by kernel_rfl) (by kernel_rfl) (by kernel_rfl) hF
variable {j1:JV} {x1:Int×Int}
theorem adF (hB:B0.2.1=2) (hX:X.2.1=2) (hl0:decide (gx< -16777216)=false) (hu0:decide (16777216<gx)=false) (hl1:decide (gy< -16777216)=false) (hu1:decide (16777216<gy)=false) (hl2:decide (gz< -16777216)=false) (hu2:decide (16777216<gz)=false) (hw_0:ou x0.1 x0.2 j0.lo j0.hi=true) (hw_1:ou x1.1 x1.2 j1.lo j1.hi=true) (hw0:fu w0 ex B0 (0) 12 b0 o0 (fZ j0 (j0.parent))) (hw1:fu w0 ex B0 (1) 12 b1 o1 (fZ j1 (j1.parent))) (hw2:fu w0 ex X (0) 2 b2 o2 [num (x0.1),num (x0.2)]) (hw3:fu w0 ex X (1) 2 b3 o3 [num (x1.1),num (x1.2)]) (hqt:∀z_∈([⟨86,[.agg ⟨[dM 0,dM 1]⟩],.val (.int .i64 0)⟩]:List Qt),jB aa (gP (w0,ex) ([gx,gy,gz]++fE j0++[x0.1,x0.2]++fE j1++[x1.1,x1.2]) ([]) [B0,B1,X] [(b0,o0,(fZ j0 (j0.parent))),(b1,o1,(fZ j1 (j1.parent))),(b2,o2,[num (x0.1),num (x0.2)]),(b3,o3,[num (x1.1),num (x1.2)])]) z_) (hF:iV (w0,ex) w) :
  Calls aa 40 #[.agg ⟨[dJ B0,dJ B1]⟩,.agg ⟨[num (gx),num (gy),num (gz)]⟩,dJ X] w (fun e w'=>e=.returned (.bool true)∧Below w.heap.size w w'):=by
 refine uQ (Z:=(w0,ex)) (g:=[(mB 20 [var 0,.int .i64 (-16777216)],.bool false),(mB 22 [var 0,.int .i64 16777216],.bool false),(mB 20 [var 1,.int .i64 (-16777216)],.bool false),(mB 22 [var 1,.int .i64 16777216],.bool false),(mB 20 [var 2,.int .i64 (-16777216)],.bool false),(mB 22 [var 2,.int .i64 16777216],.bool false),(mB 1020 [var 14,var 15,var 8,var 9],.bool true),(mB 1020 [var 27,var 28,var 21,var 22],.bool true)]) (wt:=[(0,.int .i64 0,12,0),(0,.int .i64 1,12,1),(2,.int .i64 0,2,2),(2,.int .i64 1,2,3)]) (lt:=[(0,.int .i64 2),(2,.int .i64 2)]) (wb:=[dU (.string j0.name::vs 3 11),dU (.string j1.name::vs 16 11),dU [var 14,var 15],dU [var 27,var 28]]) (NT:=[]) (xs:=[.agg ⟨[dM 0,dM 1]⟩,.agg ⟨(vs 0 3)⟩,dM 2]) ⟨fq (b:=(decide (gx< -16777216))) (by kernel_rfl) hl0 (fq (b:=(decide (16777216<gx))) (by kernel_rfl) hu0 (fq (b:=(decide (gy< -16777216))) (by kernel_rfl) hl1 (fq (b:=(decide (16777216<gy))) (by kernel_rfl) hu1 (fq (b:=(decide (gz< -16777216))) (by kernel_rfl) hl2 (fq (b:=(decide (16777216<gz))) (by kernel_rfl) hu2 (fq (b:=(ou x0.1 x0.2 j0.lo j0.hi)) (by kernel_rfl) hw_0 (fq (b:=(ou x1.1 x1.2 j1.lo j1.hi)) (by kernel_rfl) hw_1 (fB _)))))))),hqt,all_nil,dR hw0.wf<|dR hw1.wf<|dR hw2.wf<|dR hw3.wf<|all_nil,fun m hm hl=>⟨dR (gI (Z:=(w0,ex)) hw0 rfl rfl hm (hl 0 _ rfl))<|dR (gI (Z:=(w0,ex)) hw1 rfl rfl hm (hl 1 _ rfl))<|dR (gI (Z:=(w0,ex)) hw2 rfl rfl hm (hl 2 _ rfl))<|dR (gI (Z:=(w0,ex)) hw3 rfl rfl hm (hl 3 _ rfl))<|all_nil,dR (jf hm hB (by kernel_rfl) (by kernel_rfl))<|dR (jf hm hX (by kernel_rfl) (by kernel_rfl))<|all_nil,all_nil⟩⟩ (by kernel_rfl) (by kernel_rfl) (by kernel_rfl) (by kernel_rfl) hF
variable {J1:iF}
theorem Zc (hB:B0.2.1=2) (hX:X.2.1=2) (hv0:fC x0.1 x0.2=true) (hv1:fC x1.1 x1.2=true) (hw0:fu w0 ex B0 (0) 12 b0 o0 (fZ j0 (-1))) (hw1:fu w0 ex B0 (1) 12 b1 o1 (fZ j1 (-1))) (hw2:fu w0 ex X (0) 2 b2 o2 [num (x0.1),num (x0.2)]) (hw3:fu w0 ex X (1) 2 b3 o3 [num (x1.1),num (x1.2)]) (hqt:∀z_∈([⟨86,[.agg ⟨[dM 0,dM 1]⟩],.val (.int .i64 0)⟩]:List Qt),jB aa (gP (w0,ex) (fE j0++[x0.1,x0.2]++pl J0++fE j1++[x1.1,x1.2]++pl J1) ([]) [B0,B1,X] [(b0,o0,(fZ j0 (-1))),(b1,o1,(fZ j1 (-1))),(b2,o2,[num (x0.1),num (x0.2)]),(b3,o3,[num (x1.1),num (x1.2)])]) z_) (hnt:∀z_∈([⟨117,(var 0::.int .i64 (-1)::vs 2 9),[.agg ⟨[var 11,var 12]⟩],.agg ⟨(vs 13 24)⟩⟩,⟨117,(var 37::.int .i64 (-1)::vs 39 9),[.agg ⟨[var 48,var 49]⟩],.agg ⟨(vs 50 24)⟩⟩]:List Nt),sG aa (gP (w0,ex) (fE j0++[x0.1,x0.2]++pl J0++fE j1++[x1.1,x1.2]++pl J1) ([]) [B0,B1,X] [(b0,o0,(fZ j0 (-1))),(b1,o1,(fZ j1 (-1))),(b2,o2,[num (x0.1),num (x0.2)]),(b3,o3,[num (x1.1),num (x1.2)])]) z_) (hF:iV (w0,ex) w) :
  Calls aa 68 #[.agg ⟨[dJ B0,dJ B1]⟩,dJ X] w (fun r w'=>Below w.heap.size w w'∧∃gl,w.heap.size≤gl∧gl<w'.heap.size∧r=.returned (kC false gl 2 2)∧w'.heap[gl]?=some (.cells ⟨([J0,J1].flatMap gT)⟩ 135 (0,0))):=by
 refine qM (t:=false) (n:=2) (c:=2) (e:=135) (vs:=([J0,J1].flatMap gT)) (Z:=(w0,ex)) (g:=[(mB 1003 [var 11,var 12],.bool true),(mB 1003 [var 48,var 49],.bool true)]) (wt:=[(0,.int .i64 0,12,0),(0,.int .i64 1,12,1),(2,.int .i64 0,2,2),(2,.int .i64 1,2,3)]) (lt:=[(0,.int .i64 2),(2,.int .i64 2)]) (wb:=[dU (.string j0.name::var 0::.int .i64 (-1)::vs 2 9),dU (.string j1.name::var 37::.int .i64 (-1)::vs 39 9),dU [var 11,var 12],dU [var 48,var 49]]) (xs:=[.agg ⟨[dM 0,dM 1]⟩,dM 2]) ⟨fq (b:=(fC x0.1 x0.2)) (by kernel_rfl) hv0 (fq (b:=(fC x1.1 x1.2)) (by kernel_rfl) hv1 (fB _)),hqt,hnt,dR hw0.wf<|dR hw1.wf<|dR hw2.wf<|dR hw3.wf<|all_nil,fun m hm hl=>⟨dR (gI (Z:=(w0,ex)) hw0 rfl rfl hm (hl 0 _ rfl))<|dR (gI (Z:=(w0,ex)) hw1 rfl rfl hm (hl 1 _ rfl))<|dR (gI (Z:=(w0,ex)) hw2 rfl rfl hm (hl 2 _ rfl))<|dR (gI (Z:=(w0,ex)) hw3 rfl rfl hm (hl 3 _ rfl))<|all_nil,dR (jf hm hB (by kernel_rfl) (by kernel_rfl))<|dR (jf hm hX (by kernel_rfl) (by kernel_rfl))<|all_nil,all_nil⟩⟩ (by kernel_rfl) (by kernel_rfl) (by kernel_rfl) (by kernel_rfl) hF
variable {C1:iF}
theorem Zg (hB:B0.2.1=2) (hX:X.2.1=2) (hv0:fC x0.1 x0.2=true) (hv1:fC x1.1 x1.2=true) (hw0:fu w0 ex B0 (0) 12 b0 o0 (fZ j0 (-1))) (hw1:fu w0 ex B0 (1) 12 b1 o1 (fZ j1 (0))) (hw2:fu w0 ex X (0) 2 b2 o2 [num (x0.1),num (x0.2)]) (hw3:fu w0 ex X (1) 2 b3 o3 [num (x1.1),num (x1.2)]) (hqt:∀z_∈([⟨86,[.agg ⟨[dM 0,dM 1]⟩],.val (.int .i64 0)⟩,⟨118,[.agg ⟨(vs 13 24)⟩,.agg ⟨(vs 50 24)⟩],.val (.agg ⟨(vs 74 24)⟩)⟩]:List Qt),jB aa (gP (w0,ex) (fE j0++[x0.1,x0.2]++pl J0++fE j1++[x1.1,x1.2]++pl J1++pl C1) ([]) [B0,B1,X] [(b0,o0,(fZ j0 (-1))),(b1,o1,(fZ j1 (0))),(b2,o2,[num (x0.1),num (x0.2)]),(b3,o3,[num (x1.1),num (x1.2)])]) z_) (hnt:∀z_∈([⟨117,(var 0::.int .i64 (-1)::vs 2 9),[.agg ⟨[var 11,var 12]⟩],.agg ⟨(vs 13 24)⟩⟩,⟨117,(var 37::.int .i64 (0)::vs 39 9),[.agg ⟨[var 48,var 49]⟩],.agg ⟨(vs 50 24)⟩⟩]:List Nt),sG aa (gP (w0,ex) (fE j0++[x0.1,x0.2]++pl J0++fE j1++[x1.1,x1.2]++pl J1++pl C1) ([]) [B0,B1,X] [(b0,o0,(fZ j0 (-1))),(b1,o1,(fZ j1 (0))),(b2,o2,[num (x0.1),num (x0.2)]),(b3,o3,[num (x1.1),num (x1.2)])]) z_) (hF:iV (w0,ex) w) :
  Calls aa 68 #[.agg ⟨[dJ B0,dJ B1]⟩,dJ X] w (fun r w'=>Below w.heap.size w w'∧∃gl,w.heap.size≤gl∧gl<w'.heap.size∧r=.returned (kC false gl 2 2)∧w'.heap[gl]?=some (.cells ⟨([J0,C1].flatMap gT)⟩ 135 (0,0))):=by
 refine qM (t:=false) (n:=2) (c:=2) (e:=135) (vs:=([J0,C1].flatMap gT)) (Z:=(w0,ex)) (g:=[(mB 1003 [var 11,var 12],.bool true),(mB 1003 [var 48,var 49],.bool true)]) (wt:=[(0,.int .i64 0,12,0),(0,.int .i64 1,12,1),(2,.int .i64 0,2,2),(2,.int .i64 1,2,3)]) (lt:=[(0,.int .i64 2),(2,.int .i64 2)]) (wb:=[dU (.string j0.name::var 0::.int .i64 (-1)::vs 2 9),dU (.string j1.name::var 37::.int .i64 (0)::vs 39 9),dU [var 11,var 12],dU [var 48,var 49]]) (xs:=[.agg ⟨[dM 0,dM 1]⟩,dM 2]) ⟨fq (b:=(fC x0.1 x0.2)) (by kernel_rfl) hv0 (fq (b:=(fC x1.1 x1.2)) (by kernel_rfl) hv1 (fB _)),hqt,hnt,dR hw0.wf<|dR hw1.wf<|dR hw2.wf<|dR hw3.wf<|all_nil,fun m hm hl=>⟨dR (gI (Z:=(w0,ex)) hw0 rfl rfl hm (hl 0 _ rfl))<|dR (gI (Z:=(w0,ex)) hw1 rfl rfl hm (hl 1 _ rfl))<|dR (gI (Z:=(w0,ex)) hw2 rfl rfl hm (hl 2 _ rfl))<|dR (gI (Z:=(w0,ex)) hw3 rfl rfl hm (hl 3 _ rfl))<|all_nil,dR (jf hm hB (by kernel_rfl) (by kernel_rfl))<|dR (jf hm hX (by kernel_rfl) (by kernel_rfl))<|all_nil,all_nil⟩⟩ (by kernel_rfl) (by kernel_rfl) (by kernel_rfl) (by kernel_rfl) hF
variable {j2:JV} {x2:Int×Int}
theorem adG (hB:B0.2.1=3) (hX:X.2.1=3) (hl0:decide (gx< -16777216)=false) (hu0:decide (16777216<gx)=false) (hl1:decide (gy< -16777216)=false) (hu1:decide (16777216<gy)=false) (hl2:decide (gz< -16777216)=false) (hu2:decide (16777216<gz)=false) (hw_0:ou x0.1 x0.2 j0.lo j0.hi=true) (hw_1:ou x1.1 x1.2 j1.lo j1.hi=true) (hw_2:ou x2.1 x2.2 j2.lo j2.hi=true) (hw0:fu w0 ex B0 (0) 12 b0 o0 (fZ j0 (j0.parent))) (hw1:fu w0 ex B0 (1) 12 b1 o1 (fZ j1 (j1.parent))) (hw2:fu w0 ex B0 (2) 12 b2 o2 (fZ j2 (j2.parent))) (hw3:fu w0 ex X (0) 2 b3 o3 [num (x0.1),num (x0.2)]) (hw4:fu w0 ex X (1) 2 b4 o4 [num (x1.1),num (x1.2)]) (hw5:fu w0 ex X (2) 2 b5 o5 [num (x2.1),num (x2.2)]) (hqt:∀z_∈([⟨86,[.agg ⟨[dM 0,dM 1]⟩],.val (.int .i64 0)⟩]:List Qt),jB aa (gP (w0,ex) ([gx,gy,gz]++fE j0++[x0.1,x0.2]++fE j1++[x1.1,x1.2]++fE j2++[x2.1,x2.2]) ([]) [B0,B1,X] [(b0,o0,(fZ j0 (j0.parent))),(b1,o1,(fZ j1 (j1.parent))),(b2,o2,(fZ j2 (j2.parent))),(b3,o3,[num (x0.1),num (x0.2)]),(b4,o4,[num (x1.1),num (x1.2)]),(b5,o5,[num (x2.1),num (x2.2)])]) z_) (hF:iV (w0,ex) w) :
  Calls aa 40 #[.agg ⟨[dJ B0,dJ B1]⟩,.agg ⟨[num (gx),num (gy),num (gz)]⟩,dJ X] w (fun e w'=>e=.returned (.bool true)∧Below w.heap.size w w'):=by
 refine uQ (Z:=(w0,ex)) (g:=[(mB 20 [var 0,.int .i64 (-16777216)],.bool false),(mB 22 [var 0,.int .i64 16777216],.bool false),(mB 20 [var 1,.int .i64 (-16777216)],.bool false),(mB 22 [var 1,.int .i64 16777216],.bool false),(mB 20 [var 2,.int .i64 (-16777216)],.bool false),(mB 22 [var 2,.int .i64 16777216],.bool false),(mB 1020 [var 14,var 15,var 8,var 9],.bool true),(mB 1020 [var 27,var 28,var 21,var 22],.bool true),(mB 1020 [var 40,var 41,var 34,var 35],.bool true)]) (wt:=[(0,.int .i64 0,12,0),(0,.int .i64 1,12,1),(0,.int .i64 2,12,2),(2,.int .i64 0,2,3),(2,.int .i64 1,2,4),(2,.int .i64 2,2,5)]) (lt:=[(0,.int .i64 3),(2,.int .i64 3)]) (wb:=[dU (.string j0.name::vs 3 11),dU (.string j1.name::vs 16 11),dU (.string j2.name::vs 29 11),dU [var 14,var 15],dU [var 27,var 28],dU [var 40,var 41]]) (NT:=[]) (xs:=[.agg ⟨[dM 0,dM 1]⟩,.agg ⟨(vs 0 3)⟩,dM 2]) ⟨fq (b:=(decide (gx< -16777216))) (by kernel_rfl) hl0 (fq (b:=(decide (16777216<gx))) (by kernel_rfl) hu0 (fq (b:=(decide (gy< -16777216))) (by kernel_rfl) hl1 (fq (b:=(decide (16777216<gy))) (by kernel_rfl) hu1 (fq (b:=(decide (gz< -16777216))) (by kernel_rfl) hl2 (fq (b:=(decide (16777216<gz))) (by kernel_rfl) hu2 (fq (b:=(ou x0.1 x0.2 j0.lo j0.hi)) (by kernel_rfl) hw_0 (fq (b:=(ou x1.1 x1.2 j1.lo j1.hi)) (by kernel_rfl) hw_1 (fq (b:=(ou x2.1 x2.2 j2.lo j2.hi)) (by kernel_rfl) hw_2 (fB _))))))))),hqt,all_nil,dR hw0.wf<|dR hw1.wf<|dR hw2.wf<|dR hw3.wf<|dR hw4.wf<|dR hw5.wf<|all_nil,fun m hm hl=>⟨dR (gI (Z:=(w0,ex)) hw0 rfl rfl hm (hl 0 _ rfl))<|dR (gI (Z:=(w0,ex)) hw1 rfl rfl hm (hl 1 _ rfl))<|dR (gI (Z:=(w0,ex)) hw2 rfl rfl hm (hl 2 _ rfl))<|dR (gI (Z:=(w0,ex)) hw3 rfl rfl hm (hl 3 _ rfl))<|dR (gI (Z:=(w0,ex)) hw4 rfl rfl hm (hl 4 _ rfl))<|dR (gI (Z:=(w0,ex)) hw5 rfl rfl hm (hl 5 _ rfl))<|all_nil,dR (jf hm hB (by kernel_rfl) (by kernel_rfl))<|dR (jf hm hX (by kernel_rfl) (by kernel_rfl))<|all_nil,all_nil⟩⟩ (by kernel_rfl) (by kernel_rfl) (by kernel_rfl) (by kernel_rfl) hF
variable {J2:iF}
theorem Zd (hB:B0.2.1=3) (hX:X.2.1=3) (hv0:fC x0.1 x0.2=true) (hv1:fC x1.1 x1.2=true) (hv2:fC x2.1 x2.2=true) (hw0:fu w0 ex B0 (0) 12 b0 o0 (fZ j0 (-1))) (hw1:fu w0 ex B0 (1) 12 b1 o1 (fZ j1 (-1))) (hw2:fu w0 ex B0 (2) 12 b2 o2 (fZ j2 (-1))) (hw3:fu w0 ex X (0) 2 b3 o3 [num (x0.1),num (x0.2)]) (hw4:fu w0 ex X (1) 2 b4 o4 [num (x1.1),num (x1.2)]) (hw5:fu w0 ex X (2) 2 b5 o5 [num (x2.1),num (x2.2)]) (hqt:∀z_∈([⟨86,[.agg ⟨[dM 0,dM 1]⟩],.val (.int .i64 0)⟩]:List Qt),jB aa (gP (w0,ex) (fE j0++[x0.1,x0.2]++pl J0++fE j1++[x1.1,x1.2]++pl J1++fE j2++[x2.1,x2.2]++pl J2) ([]) [B0,B1,X] [(b0,o0,(fZ j0 (-1))),(b1,o1,(fZ j1 (-1))),(b2,o2,(fZ j2 (-1))),(b3,o3,[num (x0.1),num (x0.2)]),(b4,o4,[num (x1.1),num (x1.2)]),(b5,o5,[num (x2.1),num (x2.2)])]) z_) (hnt:∀z_∈([⟨117,(var 0::.int .i64 (-1)::vs 2 9),[.agg ⟨[var 11,var 12]⟩],.agg ⟨(vs 13 24)⟩⟩,⟨117,(var 37::.int .i64 (-1)::vs 39 9),[.agg ⟨[var 48,var 49]⟩],.agg ⟨(vs 50 24)⟩⟩,⟨117,(var 74::.int .i64 (-1)::vs 76 9),[.agg ⟨[var 85,var 86]⟩],.agg ⟨(vs 87 24)⟩⟩]:List Nt),sG aa (gP (w0,ex) (fE j0++[x0.1,x0.2]++pl J0++fE j1++[x1.1,x1.2]++pl J1++fE j2++[x2.1,x2.2]++pl J2) ([]) [B0,B1,X] [(b0,o0,(fZ j0 (-1))),(b1,o1,(fZ j1 (-1))),(b2,o2,(fZ j2 (-1))),(b3,o3,[num (x0.1),num (x0.2)]),(b4,o4,[num (x1.1),num (x1.2)]),(b5,o5,[num (x2.1),num (x2.2)])]) z_) (hF:iV (w0,ex) w) :
  Calls aa 68 #[.agg ⟨[dJ B0,dJ B1]⟩,dJ X] w (fun r w'=>Below w.heap.size w w'∧∃gl,w.heap.size≤gl∧gl<w'.heap.size∧r=.returned (kC false gl 3 3)∧w'.heap[gl]?=some (.cells ⟨([J0,J1,J2].flatMap gT)⟩ 135 (0,0))):=by
 refine qM (t:=false) (n:=3) (c:=3) (e:=135) (vs:=([J0,J1,J2].flatMap gT)) (Z:=(w0,ex)) (g:=[(mB 1003 [var 11,var 12],.bool true),(mB 1003 [var 48,var 49],.bool true),(mB 1003 [var 85,var 86],.bool true)]) (wt:=[(0,.int .i64 0,12,0),(0,.int .i64 1,12,1),(0,.int .i64 2,12,2),(2,.int .i64 0,2,3),(2,.int .i64 1,2,4),(2,.int .i64 2,2,5)]) (lt:=[(0,.int .i64 3),(2,.int .i64 3)]) (wb:=[dU (.string j0.name::var 0::.int .i64 (-1)::vs 2 9),dU (.string j1.name::var 37::.int .i64 (-1)::vs 39 9),dU (.string j2.name::var 74::.int .i64 (-1)::vs 76 9),dU [var 11,var 12],dU [var 48,var 49],dU [var 85,var 86]]) (xs:=[.agg ⟨[dM 0,dM 1]⟩,dM 2]) ⟨fq (b:=(fC x0.1 x0.2)) (by kernel_rfl) hv0 (fq (b:=(fC x1.1 x1.2)) (by kernel_rfl) hv1 (fq (b:=(fC x2.1 x2.2)) (by kernel_rfl) hv2 (fB _))),hqt,hnt,dR hw0.wf<|dR hw1.wf<|dR hw2.wf<|dR hw3.wf<|dR hw4.wf<|dR hw5.wf<|all_nil,fun m hm hl=>⟨dR (gI (Z:=(w0,ex)) hw0 rfl rfl hm (hl 0 _ rfl))<|dR (gI (Z:=(w0,ex)) hw1 rfl rfl hm (hl 1 _ rfl))<|dR (gI (Z:=(w0,ex)) hw2 rfl rfl hm (hl 2 _ rfl))<|dR (gI (Z:=(w0,ex)) hw3 rfl rfl hm (hl 3 _ rfl))<|dR (gI (Z:=(w0,ex)) hw4 rfl rfl hm (hl 4 _ rfl))<|dR (gI (Z:=(w0,ex)) hw5 rfl rfl hm (hl 5 _ rfl))<|all_nil,dR (jf hm hB (by kernel_rfl) (by kernel_rfl))<|dR (jf hm hX (by kernel_rfl) (by kernel_rfl))<|all_nil,all_nil⟩⟩ (by kernel_rfl) (by kernel_rfl) (by kernel_rfl) (by kernel_rfl) hF
variable {C2:iF}
theorem Ze (hB:B0.2.1=3) (hX:X.2.1=3) (hv0:fC x0.1 x0.2=true) (hv1:fC x1.1 x1.2=true) (hv2:fC x2.1 x2.2=true) (hw0:fu w0 ex B0 (0) 12 b0 o0 (fZ j0 (-1))) (hw1:fu w0 ex B0 (1) 12 b1 o1 (fZ j1 (-1))) (hw2:fu w0 ex B0 (2) 12 b2 o2 (fZ j2 (0))) (hw3:fu w0 ex X (0) 2 b3 o3 [num (x0.1),num (x0.2)]) (hw4:fu w0 ex X (1) 2 b4 o4 [num (x1.1),num (x1.2)]) (hw5:fu w0 ex X (2) 2 b5 o5 [num (x2.1),num (x2.2)]) (hqt:∀z_∈([⟨86,[.agg ⟨[dM 0,dM 1]⟩],.val (.int .i64 0)⟩,⟨118,[.agg ⟨(vs 13 24)⟩,.agg ⟨(vs 87 24)⟩],.val (.agg ⟨(vs 111 24)⟩)⟩]:List Qt),jB aa (gP (w0,ex) (fE j0++[x0.1,x0.2]++pl J0++fE j1++[x1.1,x1.2]++pl J1++fE j2++[x2.1,x2.2]++pl J2++pl C2) ([]) [B0,B1,X] [(b0,o0,(fZ j0 (-1))),(b1,o1,(fZ j1 (-1))),(b2,o2,(fZ j2 (0))),(b3,o3,[num (x0.1),num (x0.2)]),(b4,o4,[num (x1.1),num (x1.2)]),(b5,o5,[num (x2.1),num (x2.2)])]) z_) (hnt:∀z_∈([⟨117,(var 0::.int .i64 (-1)::vs 2 9),[.agg ⟨[var 11,var 12]⟩],.agg ⟨(vs 13 24)⟩⟩,⟨117,(var 37::.int .i64 (-1)::vs 39 9),[.agg ⟨[var 48,var 49]⟩],.agg ⟨(vs 50 24)⟩⟩,⟨117,(var 74::.int .i64 (0)::vs 76 9),[.agg ⟨[var 85,var 86]⟩],.agg ⟨(vs 87 24)⟩⟩]:List Nt),sG aa (gP (w0,ex) (fE j0++[x0.1,x0.2]++pl J0++fE j1++[x1.1,x1.2]++pl J1++fE j2++[x2.1,x2.2]++pl J2++pl C2) ([]) [B0,B1,X] [(b0,o0,(fZ j0 (-1))),(b1,o1,(fZ j1 (-1))),(b2,o2,(fZ j2 (0))),(b3,o3,[num (x0.1),num (x0.2)]),(b4,o4,[num (x1.1),num (x1.2)]),(b5,o5,[num (x2.1),num (x2.2)])]) z_) (hF:iV (w0,ex) w) :
  Calls aa 68 #[.agg ⟨[dJ B0,dJ B1]⟩,dJ X] w (fun r w'=>Below w.heap.size w w'∧∃gl,w.heap.size≤gl∧gl<w'.heap.size∧r=.returned (kC false gl 3 3)∧w'.heap[gl]?=some (.cells ⟨([J0,J1,C2].flatMap gT)⟩ 135 (0,0))):=by
 refine qM (t:=false) (n:=3) (c:=3) (e:=135) (vs:=([J0,J1,C2].flatMap gT)) (Z:=(w0,ex)) (g:=[(mB 1003 [var 11,var 12],.bool true),(mB 1003 [var 48,var 49],.bool true),(mB 1003 [var 85,var 86],.bool true)]) (wt:=[(0,.int .i64 0,12,0),(0,.int .i64 1,12,1),(0,.int .i64 2,12,2),(2,.int .i64 0,2,3),(2,.int .i64 1,2,4),(2,.int .i64 2,2,5)]) (lt:=[(0,.int .i64 3),(2,.int .i64 3)]) (wb:=[dU (.string j0.name::var 0::.int .i64 (-1)::vs 2 9),dU (.string j1.name::var 37::.int .i64 (-1)::vs 39 9),dU (.string j2.name::var 74::.int .i64 (0)::vs 76 9),dU [var 11,var 12],dU [var 48,var 49],dU [var 85,var 86]]) (xs:=[.agg ⟨[dM 0,dM 1]⟩,dM 2]) ⟨fq (b:=(fC x0.1 x0.2)) (by kernel_rfl) hv0 (fq (b:=(fC x1.1 x1.2)) (by kernel_rfl) hv1 (fq (b:=(fC x2.1 x2.2)) (by kernel_rfl) hv2 (fB _))),hqt,hnt,dR hw0.wf<|dR hw1.wf<|dR hw2.wf<|dR hw3.wf<|dR hw4.wf<|dR hw5.wf<|all_nil,fun m hm hl=>⟨dR (gI (Z:=(w0,ex)) hw0 rfl rfl hm (hl 0 _ rfl))<|dR (gI (Z:=(w0,ex)) hw1 rfl rfl hm (hl 1 _ rfl))<|dR (gI (Z:=(w0,ex)) hw2 rfl rfl hm (hl 2 _ rfl))<|dR (gI (Z:=(w0,ex)) hw3 rfl rfl hm (hl 3 _ rfl))<|dR (gI (Z:=(w0,ex)) hw4 rfl rfl hm (hl 4 _ rfl))<|dR (gI (Z:=(w0,ex)) hw5 rfl rfl hm (hl 5 _ rfl))<|all_nil,dR (jf hm hB (by kernel_rfl) (by kernel_rfl))<|dR (jf hm hX (by kernel_rfl) (by kernel_rfl))<|all_nil,all_nil⟩⟩ (by kernel_rfl) (by kernel_rfl) (by kernel_rfl) (by kernel_rfl) hF
theorem Zf (hB:B0.2.1=3) (hX:X.2.1=3) (hv0:fC x0.1 x0.2=true) (hv1:fC x1.1 x1.2=true) (hv2:fC x2.1 x2.2=true) (hw0:fu w0 ex B0 (0) 12 b0 o0 (fZ j0 (-1))) (hw1:fu w0 ex B0 (1) 12 b1 o1 (fZ j1 (-1))) (hw2:fu w0 ex B0 (2) 12 b2 o2 (fZ j2 (1))) (hw3:fu w0 ex X (0) 2 b3 o3 [num (x0.1),num (x0.2)]) (hw4:fu w0 ex X (1) 2 b4 o4 [num (x1.1),num (x1.2)]) (hw5:fu w0 ex X (2) 2 b5 o5 [num (x2.1),num (x2.2)]) (hqt:∀z_∈([⟨86,[.agg ⟨[dM 0,dM 1]⟩],.val (.int .i64 0)⟩,⟨118,[.agg ⟨(vs 50 24)⟩,.agg ⟨(vs 87 24)⟩],.val (.agg ⟨(vs 111 24)⟩)⟩]:List Qt),jB aa (gP (w0,ex) (fE j0++[x0.1,x0.2]++pl J0++fE j1++[x1.1,x1.2]++pl J1++fE j2++[x2.1,x2.2]++pl J2++pl C2) ([]) [B0,B1,X] [(b0,o0,(fZ j0 (-1))),(b1,o1,(fZ j1 (-1))),(b2,o2,(fZ j2 (1))),(b3,o3,[num (x0.1),num (x0.2)]),(b4,o4,[num (x1.1),num (x1.2)]),(b5,o5,[num (x2.1),num (x2.2)])]) z_) (hnt:∀z_∈([⟨117,(var 0::.int .i64 (-1)::vs 2 9),[.agg ⟨[var 11,var 12]⟩],.agg ⟨(vs 13 24)⟩⟩,⟨117,(var 37::.int .i64 (-1)::vs 39 9),[.agg ⟨[var 48,var 49]⟩],.agg ⟨(vs 50 24)⟩⟩,⟨117,(var 74::.int .i64 (1)::vs 76 9),[.agg ⟨[var 85,var 86]⟩],.agg ⟨(vs 87 24)⟩⟩]:List Nt),sG aa (gP (w0,ex) (fE j0++[x0.1,x0.2]++pl J0++fE j1++[x1.1,x1.2]++pl J1++fE j2++[x2.1,x2.2]++pl J2++pl C2) ([]) [B0,B1,X] [(b0,o0,(fZ j0 (-1))),(b1,o1,(fZ j1 (-1))),(b2,o2,(fZ j2 (1))),(b3,o3,[num (x0.1),num (x0.2)]),(b4,o4,[num (x1.1),num (x1.2)]),(b5,o5,[num (x2.1),num (x2.2)])]) z_) (hF:iV (w0,ex) w) :
  Calls aa 68 #[.agg ⟨[dJ B0,dJ B1]⟩,dJ X] w (fun r w'=>Below w.heap.size w w'∧∃gl,w.heap.size≤gl∧gl<w'.heap.size∧r=.returned (kC false gl 3 3)∧w'.heap[gl]?=some (.cells ⟨([J0,J1,C2].flatMap gT)⟩ 135 (0,0))):=by
 refine qM (t:=false) (n:=3) (c:=3) (e:=135) (vs:=([J0,J1,C2].flatMap gT)) (Z:=(w0,ex)) (g:=[(mB 1003 [var 11,var 12],.bool true),(mB 1003 [var 48,var 49],.bool true),(mB 1003 [var 85,var 86],.bool true)]) (wt:=[(0,.int .i64 0,12,0),(0,.int .i64 1,12,1),(0,.int .i64 2,12,2),(2,.int .i64 0,2,3),(2,.int .i64 1,2,4),(2,.int .i64 2,2,5)]) (lt:=[(0,.int .i64 3),(2,.int .i64 3)]) (wb:=[dU (.string j0.name::var 0::.int .i64 (-1)::vs 2 9),dU (.string j1.name::var 37::.int .i64 (-1)::vs 39 9),dU (.string j2.name::var 74::.int .i64 (1)::vs 76 9),dU [var 11,var 12],dU [var 48,var 49],dU [var 85,var 86]]) (xs:=[.agg ⟨[dM 0,dM 1]⟩,dM 2]) ⟨fq (b:=(fC x0.1 x0.2)) (by kernel_rfl) hv0 (fq (b:=(fC x1.1 x1.2)) (by kernel_rfl) hv1 (fq (b:=(fC x2.1 x2.2)) (by kernel_rfl) hv2 (fB _))),hqt,hnt,dR hw0.wf<|dR hw1.wf<|dR hw2.wf<|dR hw3.wf<|dR hw4.wf<|dR hw5.wf<|all_nil,fun m hm hl=>⟨dR (gI (Z:=(w0,ex)) hw0 rfl rfl hm (hl 0 _ rfl))<|dR (gI (Z:=(w0,ex)) hw1 rfl rfl hm (hl 1 _ rfl))<|dR (gI (Z:=(w0,ex)) hw2 rfl rfl hm (hl 2 _ rfl))<|dR (gI (Z:=(w0,ex)) hw3 rfl rfl hm (hl 3 _ rfl))<|dR (gI (Z:=(w0,ex)) hw4 rfl rfl hm (hl 4 _ rfl))<|dR (gI (Z:=(w0,ex)) hw5 rfl rfl hm (hl 5 _ rfl))<|all_nil,dR (jf hm hB (by kernel_rfl) (by kernel_rfl))<|dR (jf hm hX (by kernel_rfl) (by kernel_rfl))<|all_nil,all_nil⟩⟩ (by kernel_rfl) (by kernel_rfl) (by kernel_rfl) (by kernel_rfl) hF
theorem Zh (hB:B0.2.1=3) (hX:X.2.1=3) (hv0:fC x0.1 x0.2=true) (hv1:fC x1.1 x1.2=true) (hv2:fC x2.1 x2.2=true) (hw0:fu w0 ex B0 (0) 12 b0 o0 (fZ j0 (-1))) (hw1:fu w0 ex B0 (1) 12 b1 o1 (fZ j1 (0))) (hw2:fu w0 ex B0 (2) 12 b2 o2 (fZ j2 (-1))) (hw3:fu w0 ex X (0) 2 b3 o3 [num (x0.1),num (x0.2)]) (hw4:fu w0 ex X (1) 2 b4 o4 [num (x1.1),num (x1.2)]) (hw5:fu w0 ex X (2) 2 b5 o5 [num (x2.1),num (x2.2)]) (hqt:∀z_∈([⟨86,[.agg ⟨[dM 0,dM 1]⟩],.val (.int .i64 0)⟩,⟨118,[.agg ⟨(vs 13 24)⟩,.agg ⟨(vs 50 24)⟩],.val (.agg ⟨(vs 111 24)⟩)⟩]:List Qt),jB aa (gP (w0,ex) (fE j0++[x0.1,x0.2]++pl J0++fE j1++[x1.1,x1.2]++pl J1++fE j2++[x2.1,x2.2]++pl J2++pl C1) ([]) [B0,B1,X] [(b0,o0,(fZ j0 (-1))),(b1,o1,(fZ j1 (0))),(b2,o2,(fZ j2 (-1))),(b3,o3,[num (x0.1),num (x0.2)]),(b4,o4,[num (x1.1),num (x1.2)]),(b5,o5,[num (x2.1),num (x2.2)])]) z_) (hnt:∀z_∈([⟨117,(var 0::.int .i64 (-1)::vs 2 9),[.agg ⟨[var 11,var 12]⟩],.agg ⟨(vs 13 24)⟩⟩,⟨117,(var 37::.int .i64 (0)::vs 39 9),[.agg ⟨[var 48,var 49]⟩],.agg ⟨(vs 50 24)⟩⟩,⟨117,(var 74::.int .i64 (-1)::vs 76 9),[.agg ⟨[var 85,var 86]⟩],.agg ⟨(vs 87 24)⟩⟩]:List Nt),sG aa (gP (w0,ex) (fE j0++[x0.1,x0.2]++pl J0++fE j1++[x1.1,x1.2]++pl J1++fE j2++[x2.1,x2.2]++pl J2++pl C1) ([]) [B0,B1,X] [(b0,o0,(fZ j0 (-1))),(b1,o1,(fZ j1 (0))),(b2,o2,(fZ j2 (-1))),(b3,o3,[num (x0.1),num (x0.2)]),(b4,o4,[num (x1.1),num (x1.2)]),(b5,o5,[num (x2.1),num (x2.2)])]) z_) (hF:iV (w0,ex) w) :
  Calls aa 68 #[.agg ⟨[dJ B0,dJ B1]⟩,dJ X] w (fun r w'=>Below w.heap.size w w'∧∃gl,w.heap.size≤gl∧gl<w'.heap.size∧r=.returned (kC false gl 3 3)∧w'.heap[gl]?=some (.cells ⟨([J0,C1,J2].flatMap gT)⟩ 135 (0,0))):=by
 refine qM (t:=false) (n:=3) (c:=3) (e:=135) (vs:=([J0,C1,J2].flatMap gT)) (Z:=(w0,ex)) (g:=[(mB 1003 [var 11,var 12],.bool true),(mB 1003 [var 48,var 49],.bool true),(mB 1003 [var 85,var 86],.bool true)]) (wt:=[(0,.int .i64 0,12,0),(0,.int .i64 1,12,1),(0,.int .i64 2,12,2),(2,.int .i64 0,2,3),(2,.int .i64 1,2,4),(2,.int .i64 2,2,5)]) (lt:=[(0,.int .i64 3),(2,.int .i64 3)]) (wb:=[dU (.string j0.name::var 0::.int .i64 (-1)::vs 2 9),dU (.string j1.name::var 37::.int .i64 (0)::vs 39 9),dU (.string j2.name::var 74::.int .i64 (-1)::vs 76 9),dU [var 11,var 12],dU [var 48,var 49],dU [var 85,var 86]]) (xs:=[.agg ⟨[dM 0,dM 1]⟩,dM 2]) ⟨fq (b:=(fC x0.1 x0.2)) (by kernel_rfl) hv0 (fq (b:=(fC x1.1 x1.2)) (by kernel_rfl) hv1 (fq (b:=(fC x2.1 x2.2)) (by kernel_rfl) hv2 (fB _))),hqt,hnt,dR hw0.wf<|dR hw1.wf<|dR hw2.wf<|dR hw3.wf<|dR hw4.wf<|dR hw5.wf<|all_nil,fun m hm hl=>⟨dR (gI (Z:=(w0,ex)) hw0 rfl rfl hm (hl 0 _ rfl))<|dR (gI (Z:=(w0,ex)) hw1 rfl rfl hm (hl 1 _ rfl))<|dR (gI (Z:=(w0,ex)) hw2 rfl rfl hm (hl 2 _ rfl))<|dR (gI (Z:=(w0,ex)) hw3 rfl rfl hm (hl 3 _ rfl))<|dR (gI (Z:=(w0,ex)) hw4 rfl rfl hm (hl 4 _ rfl))<|dR (gI (Z:=(w0,ex)) hw5 rfl rfl hm (hl 5 _ rfl))<|all_nil,dR (jf hm hB (by kernel_rfl) (by kernel_rfl))<|dR (jf hm hX (by kernel_rfl) (by kernel_rfl))<|all_nil,all_nil⟩⟩ (by kernel_rfl) (by kernel_rfl) (by kernel_rfl) (by kernel_rfl) hF
theorem Zi (hB:B0.2.1=3) (hX:X.2.1=3) (hv0:fC x0.1 x0.2=true) (hv1:fC x1.1 x1.2=true) (hv2:fC x2.1 x2.2=true) (hw0:fu w0 ex B0 (0) 12 b0 o0 (fZ j0 (-1))) (hw1:fu w0 ex B0 (1) 12 b1 o1 (fZ j1 (0))) (hw2:fu w0 ex B0 (2) 12 b2 o2 (fZ j2 (0))) (hw3:fu w0 ex X (0) 2 b3 o3 [num (x0.1),num (x0.2)]) (hw4:fu w0 ex X (1) 2 b4 o4 [num (x1.1),num (x1.2)]) (hw5:fu w0 ex X (2) 2 b5 o5 [num (x2.1),num (x2.2)]) (hqt:∀z_∈([⟨86,[.agg ⟨[dM 0,dM 1]⟩],.val (.int .i64 0)⟩,⟨118,[.agg ⟨(vs 13 24)⟩,.agg ⟨(vs 50 24)⟩],.val (.agg ⟨(vs 111 24)⟩)⟩,⟨118,[.agg ⟨(vs 13 24)⟩,.agg ⟨(vs 87 24)⟩],.val (.agg ⟨(vs 135 24)⟩)⟩]:List Qt),jB aa (gP (w0,ex) (fE j0++[x0.1,x0.2]++pl J0++fE j1++[x1.1,x1.2]++pl J1++fE j2++[x2.1,x2.2]++pl J2++pl C1++pl C2) ([]) [B0,B1,X] [(b0,o0,(fZ j0 (-1))),(b1,o1,(fZ j1 (0))),(b2,o2,(fZ j2 (0))),(b3,o3,[num (x0.1),num (x0.2)]),(b4,o4,[num (x1.1),num (x1.2)]),(b5,o5,[num (x2.1),num (x2.2)])]) z_) (hnt:∀z_∈([⟨117,(var 0::.int .i64 (-1)::vs 2 9),[.agg ⟨[var 11,var 12]⟩],.agg ⟨(vs 13 24)⟩⟩,⟨117,(var 37::.int .i64 (0)::vs 39 9),[.agg ⟨[var 48,var 49]⟩],.agg ⟨(vs 50 24)⟩⟩,⟨117,(var 74::.int .i64 (0)::vs 76 9),[.agg ⟨[var 85,var 86]⟩],.agg ⟨(vs 87 24)⟩⟩]:List Nt),sG aa (gP (w0,ex) (fE j0++[x0.1,x0.2]++pl J0++fE j1++[x1.1,x1.2]++pl J1++fE j2++[x2.1,x2.2]++pl J2++pl C1++pl C2) ([]) [B0,B1,X] [(b0,o0,(fZ j0 (-1))),(b1,o1,(fZ j1 (0))),(b2,o2,(fZ j2 (0))),(b3,o3,[num (x0.1),num (x0.2)]),(b4,o4,[num (x1.1),num (x1.2)]),(b5,o5,[num (x2.1),num (x2.2)])]) z_) (hF:iV (w0,ex) w) :
  Calls aa 68 #[.agg ⟨[dJ B0,dJ B1]⟩,dJ X] w (fun r w'=>Below w.heap.size w w'∧∃gl,w.heap.size≤gl∧gl<w'.heap.size∧r=.returned (kC false gl 3 3)∧w'.heap[gl]?=some (.cells ⟨([J0,C1,C2].flatMap gT)⟩ 135 (0,0))):=by
 refine qM (t:=false) (n:=3) (c:=3) (e:=135) (vs:=([J0,C1,C2].flatMap gT)) (Z:=(w0,ex)) (g:=[(mB 1003 [var 11,var 12],.bool true),(mB 1003 [var 48,var 49],.bool true),(mB 1003 [var 85,var 86],.bool true)]) (wt:=[(0,.int .i64 0,12,0),(0,.int .i64 1,12,1),(0,.int .i64 2,12,2),(2,.int .i64 0,2,3),(2,.int .i64 1,2,4),(2,.int .i64 2,2,5)]) (lt:=[(0,.int .i64 3),(2,.int .i64 3)]) (wb:=[dU (.string j0.name::var 0::.int .i64 (-1)::vs 2 9),dU (.string j1.name::var 37::.int .i64 (0)::vs 39 9),dU (.string j2.name::var 74::.int .i64 (0)::vs 76 9),dU [var 11,var 12],dU [var 48,var 49],dU [var 85,var 86]]) (xs:=[.agg ⟨[dM 0,dM 1]⟩,dM 2]) ⟨fq (b:=(fC x0.1 x0.2)) (by kernel_rfl) hv0 (fq (b:=(fC x1.1 x1.2)) (by kernel_rfl) hv1 (fq (b:=(fC x2.1 x2.2)) (by kernel_rfl) hv2 (fB _))),hqt,hnt,dR hw0.wf<|dR hw1.wf<|dR hw2.wf<|dR hw3.wf<|dR hw4.wf<|dR hw5.wf<|all_nil,fun m hm hl=>⟨dR (gI (Z:=(w0,ex)) hw0 rfl rfl hm (hl 0 _ rfl))<|dR (gI (Z:=(w0,ex)) hw1 rfl rfl hm (hl 1 _ rfl))<|dR (gI (Z:=(w0,ex)) hw2 rfl rfl hm (hl 2 _ rfl))<|dR (gI (Z:=(w0,ex)) hw3 rfl rfl hm (hl 3 _ rfl))<|dR (gI (Z:=(w0,ex)) hw4 rfl rfl hm (hl 4 _ rfl))<|dR (gI (Z:=(w0,ex)) hw5 rfl rfl hm (hl 5 _ rfl))<|all_nil,dR (jf hm hB (by kernel_rfl) (by kernel_rfl))<|dR (jf hm hX (by kernel_rfl) (by kernel_rfl))<|all_nil,all_nil⟩⟩ (by kernel_rfl) (by kernel_rfl) (by kernel_rfl) (by kernel_rfl) hF
theorem Zj (hB:B0.2.1=3) (hX:X.2.1=3) (hv0:fC x0.1 x0.2=true) (hv1:fC x1.1 x1.2=true) (hv2:fC x2.1 x2.2=true) (hw0:fu w0 ex B0 (0) 12 b0 o0 (fZ j0 (-1))) (hw1:fu w0 ex B0 (1) 12 b1 o1 (fZ j1 (0))) (hw2:fu w0 ex B0 (2) 12 b2 o2 (fZ j2 (1))) (hw3:fu w0 ex X (0) 2 b3 o3 [num (x0.1),num (x0.2)]) (hw4:fu w0 ex X (1) 2 b4 o4 [num (x1.1),num (x1.2)]) (hw5:fu w0 ex X (2) 2 b5 o5 [num (x2.1),num (x2.2)]) (hqt:∀z_∈([⟨86,[.agg ⟨[dM 0,dM 1]⟩],.val (.int .i64 0)⟩,⟨118,[.agg ⟨(vs 13 24)⟩,.agg ⟨(vs 50 24)⟩],.val (.agg ⟨(vs 111 24)⟩)⟩,⟨118,[.agg ⟨(vs 111 24)⟩,.agg ⟨(vs 87 24)⟩],.val (.agg ⟨(vs 135 24)⟩)⟩]:List Qt),jB aa (gP (w0,ex) (fE j0++[x0.1,x0.2]++pl J0++fE j1++[x1.1,x1.2]++pl J1++fE j2++[x2.1,x2.2]++pl J2++pl C1++pl C2) ([]) [B0,B1,X] [(b0,o0,(fZ j0 (-1))),(b1,o1,(fZ j1 (0))),(b2,o2,(fZ j2 (1))),(b3,o3,[num (x0.1),num (x0.2)]),(b4,o4,[num (x1.1),num (x1.2)]),(b5,o5,[num (x2.1),num (x2.2)])]) z_) (hnt:∀z_∈([⟨117,(var 0::.int .i64 (-1)::vs 2 9),[.agg ⟨[var 11,var 12]⟩],.agg ⟨(vs 13 24)⟩⟩,⟨117,(var 37::.int .i64 (0)::vs 39 9),[.agg ⟨[var 48,var 49]⟩],.agg ⟨(vs 50 24)⟩⟩,⟨117,(var 74::.int .i64 (1)::vs 76 9),[.agg ⟨[var 85,var 86]⟩],.agg ⟨(vs 87 24)⟩⟩]:List Nt),sG aa (gP (w0,ex) (fE j0++[x0.1,x0.2]++pl J0++fE j1++[x1.1,x1.2]++pl J1++fE j2++[x2.1,x2.2]++pl J2++pl C1++pl C2) ([]) [B0,B1,X] [(b0,o0,(fZ j0 (-1))),(b1,o1,(fZ j1 (0))),(b2,o2,(fZ j2 (1))),(b3,o3,[num (x0.1),num (x0.2)]),(b4,o4,[num (x1.1),num (x1.2)]),(b5,o5,[num (x2.1),num (x2.2)])]) z_) (hF:iV (w0,ex) w) :
  Calls aa 68 #[.agg ⟨[dJ B0,dJ B1]⟩,dJ X] w (fun r w'=>Below w.heap.size w w'∧∃gl,w.heap.size≤gl∧gl<w'.heap.size∧r=.returned (kC false gl 3 3)∧w'.heap[gl]?=some (.cells ⟨([J0,C1,C2].flatMap gT)⟩ 135 (0,0))):=by
 refine qM (t:=false) (n:=3) (c:=3) (e:=135) (vs:=([J0,C1,C2].flatMap gT)) (Z:=(w0,ex)) (g:=[(mB 1003 [var 11,var 12],.bool true),(mB 1003 [var 48,var 49],.bool true),(mB 1003 [var 85,var 86],.bool true)]) (wt:=[(0,.int .i64 0,12,0),(0,.int .i64 1,12,1),(0,.int .i64 2,12,2),(2,.int .i64 0,2,3),(2,.int .i64 1,2,4),(2,.int .i64 2,2,5)]) (lt:=[(0,.int .i64 3),(2,.int .i64 3)]) (wb:=[dU (.string j0.name::var 0::.int .i64 (-1)::vs 2 9),dU (.string j1.name::var 37::.int .i64 (0)::vs 39 9),dU (.string j2.name::var 74::.int .i64 (1)::vs 76 9),dU [var 11,var 12],dU [var 48,var 49],dU [var 85,var 86]]) (xs:=[.agg ⟨[dM 0,dM 1]⟩,dM 2]) ⟨fq (b:=(fC x0.1 x0.2)) (by kernel_rfl) hv0 (fq (b:=(fC x1.1 x1.2)) (by kernel_rfl) hv1 (fq (b:=(fC x2.1 x2.2)) (by kernel_rfl) hv2 (fB _))),hqt,hnt,dR hw0.wf<|dR hw1.wf<|dR hw2.wf<|dR hw3.wf<|dR hw4.wf<|dR hw5.wf<|all_nil,fun m hm hl=>⟨dR (gI (Z:=(w0,ex)) hw0 rfl rfl hm (hl 0 _ rfl))<|dR (gI (Z:=(w0,ex)) hw1 rfl rfl hm (hl 1 _ rfl))<|dR (gI (Z:=(w0,ex)) hw2 rfl rfl hm (hl 2 _ rfl))<|dR (gI (Z:=(w0,ex)) hw3 rfl rfl hm (hl 3 _ rfl))<|dR (gI (Z:=(w0,ex)) hw4 rfl rfl hm (hl 4 _ rfl))<|dR (gI (Z:=(w0,ex)) hw5 rfl rfl hm (hl 5 _ rfl))<|all_nil,dR (jf hm hB (by kernel_rfl) (by kernel_rfl))<|dR (jf hm hX (by kernel_rfl) (by kernel_rfl))<|all_nil,all_nil⟩⟩ (by kernel_rfl) (by kernel_rfl) (by kernel_rfl) (by kernel_rfl) hF
variable {link n k0:Int}
theorem Xb (hB:(B0.2.1:Int)=n) (h0:decide (link< -1)=false) (h1:decide (n≤link)=false) (hqt:∀z_∈([⟨86,[.agg ⟨[dM 0,dM 1]⟩],.val (.int .i64 0)⟩,⟨102,[.agg ⟨[dM 0,dM 1]⟩,var 0],.row false 1 1 (dQ [var 2] 3)⟩]:List Qt),jB aa (gP (w0,ex) ([link,n,k0]) ([]) [B0,B1] []) z_) (hF:iV (w0,ex) w) :
  Calls aa 73 #[.agg ⟨[dJ B0,dJ B1]⟩,num (link)] w (fun r w'=>Below w.heap.size w w'∧∃gl,w.heap.size≤gl∧gl<w'.heap.size∧r=.returned (kC false gl 1 1)∧w'.heap[gl]?=some (.cells ⟨([k0].map num)⟩ 3 (0,0))):=by
 refine qM (t:=false) (n:=1) (c:=1) (e:=3) (vs:=([k0].map num)) (Z:=(w0,ex)) (g:=[(mB 20 [var 0,.int .i64 (-1)],.bool false),(mB 23 [var 0,var 1],.bool false)]) (wt:=[]) (lt:=[(0,var 1)]) (wb:=[]) (NT:=[]) (xs:=[.agg ⟨[dM 0,dM 1]⟩,var 0]) ⟨fq (b:=(decide (link< -1))) (by kernel_rfl) h0 (fq (b:=(decide (n≤link))) (by kernel_rfl) h1 (fB _)),hqt,all_nil,all_nil,fun m hm hl=>⟨all_nil,dR (CZ hm (show (B0.2.1:Int)=n from hB) (by kernel_rfl) (by kernel_rfl))<|all_nil,all_nil⟩⟩ (by kernel_rfl) (by kernel_rfl) (by kernel_rfl) (by kernel_rfl) hF
variable {k1:Int}
theorem Xc (hB:(B0.2.1:Int)=n) (h0:decide (link< -1)=false) (h1:decide (n≤link)=false) (hqt:∀z_∈([⟨86,[.agg ⟨[dM 0,dM 1]⟩],.val (.int .i64 0)⟩,⟨102,[.agg ⟨[dM 0,dM 1]⟩,var 0],.row false 2 2 (dQ [var 2,var 3] 3)⟩]:List Qt),jB aa (gP (w0,ex) ([link,n,k0,k1]) ([]) [B0,B1] []) z_) (hF:iV (w0,ex) w) :
  Calls aa 73 #[.agg ⟨[dJ B0,dJ B1]⟩,num (link)] w (fun r w'=>Below w.heap.size w w'∧∃gl,w.heap.size≤gl∧gl<w'.heap.size∧r=.returned (kC false gl 2 2)∧w'.heap[gl]?=some (.cells ⟨([k0,k1].map num)⟩ 3 (0,0))):=by
 refine qM (t:=false) (n:=2) (c:=2) (e:=3) (vs:=([k0,k1].map num)) (Z:=(w0,ex)) (g:=[(mB 20 [var 0,.int .i64 (-1)],.bool false),(mB 23 [var 0,var 1],.bool false)]) (wt:=[]) (lt:=[(0,var 1)]) (wb:=[]) (NT:=[]) (xs:=[.agg ⟨[dM 0,dM 1]⟩,var 0]) ⟨fq (b:=(decide (link< -1))) (by kernel_rfl) h0 (fq (b:=(decide (n≤link))) (by kernel_rfl) h1 (fB _)),hqt,all_nil,all_nil,fun m hm hl=>⟨all_nil,dR (CZ hm (show (B0.2.1:Int)=n from hB) (by kernel_rfl) (by kernel_rfl))<|all_nil,all_nil⟩⟩ (by kernel_rfl) (by kernel_rfl) (by kernel_rfl) (by kernel_rfl) hF
theorem Xd {k2:Int} (hB:(B0.2.1:Int)=n) (h0:decide (link< -1)=false) (h1:decide (n≤link)=false) (hqt:∀z_∈([⟨86,[.agg ⟨[dM 0,dM 1]⟩],.val (.int .i64 0)⟩,⟨102,[.agg ⟨[dM 0,dM 1]⟩,var 0],.row false 3 3 (dQ (vs 2 3) 3)⟩]:List Qt),jB aa (gP (w0,ex) ([link,n,k0,k1,k2]) ([]) [B0,B1] []) z_) (hF:iV (w0,ex) w) :
  Calls aa 73 #[.agg ⟨[dJ B0,dJ B1]⟩,num (link)] w (fun r w'=>Below w.heap.size w w'∧∃gl,w.heap.size≤gl∧gl<w'.heap.size∧r=.returned (kC false gl 3 3)∧w'.heap[gl]?=some (.cells ⟨([k0,k1,k2].map num)⟩ 3 (0,0))):=by
 refine qM (t:=false) (n:=3) (c:=3) (e:=3) (vs:=([k0,k1,k2].map num)) (Z:=(w0,ex)) (g:=[(mB 20 [var 0,.int .i64 (-1)],.bool false),(mB 23 [var 0,var 1],.bool false)]) (wt:=[]) (lt:=[(0,var 1)]) (wb:=[]) (NT:=[]) (xs:=[.agg ⟨[dM 0,dM 1]⟩,var 0]) ⟨fq (b:=(decide (link< -1))) (by kernel_rfl) h0 (fq (b:=(decide (n≤link))) (by kernel_rfl) h1 (fB _)),hqt,all_nil,all_nil,fun m hm hl=>⟨all_nil,dR (CZ hm (show (B0.2.1:Int)=n from hB) (by kernel_rfl) (by kernel_rfl))<|all_nil,all_nil⟩⟩ (by kernel_rfl) (by kernel_rfl) (by kernel_rfl) (by kernel_rfl) hF
end Go.Proofs
end
section
namespace Go.Proofs.En
open Go.RowKit
theorem ajy (x y z:Int) (w:World) (h:wD x y z=false):Calls aa 125 #[.agg #[.int .i64 x,.int .i64 y,.int .i64 z]] w (oz false w):=by
 simp only [wD,AJ,ajj] at h
 obtain ⟨⟨⟨a0,b0⟩,a1,b1⟩,a2,b2⟩:=h
 exact WH x y z w a0 b0 a1 b1 a2 b2
theorem ajH (s:ByteArray) (w:World) (h:vV s=true):Calls aa 123 #[.string s] w (oz true w):=by
 simp only [vV,Po,aQ,decide_eq_true_iff,Bool.not_eq_true'] at h
 obtain ⟨⟨⟨h1,h2⟩,hw⟩,hr⟩:=h
 have g0:((s.size:Int)==0)=false:=by rw [beq_eq_false_iff_ne]; omega
 have g1:decide ((16:Int)<(s.size:Int))=false:=by simp; omega
 have g2:decide (16<s.size)=false:=by simp; omega
 have HR:Hid (∀i (hi:i<s.size),zG i (s[i]'hi).toNat=true):=aG fun i hi=>by
  cases h:zG i (s[i]'hi).toNat with
  | true=>rfl
  | false=>rw [PX hi h] at hr; cases hr
 clear hr
 go_enter Tryz.func123,Tryz.ntmps123
 go_wp2_with fail
 go_loopw [19] (fun _ w'=>∃pos:Nat,w'=w.iter s pos∧pos≤s.size) (fun _ w'=>s.size - w'.iterPos w.heap.size)
 case atStart=>exact ⟨0,rfl,by omega⟩
 case round =>
  obtain ⟨pos,rfl,hp⟩:=hrel
  by_cases hlt:pos<s.size
  ·have hnx:∀ty,(Instr.next (.pointer (some ⟨w.heap.size,0,none⟩)) true ty).run aa (w.iter s pos)=_:=fun ty=>run_next_any w s pos ty hlt
   have hc:=HR.out pos hlt
   have ha:(s[pos]'hlt).toNat<128:=by
    refine Nat.not_le.1 fun h=>?_
    rw [ZZ pos _ h] at hc; cases hc
   rw [decode_ascii s pos hlt ha] at hnx
   generalize (s[pos]'hlt).toNat=c at hnx hc
   simp only [zG,Bool.or_eq_true,aQ,decide_eq_true_iff] at hc
   clear ha HR
   cases hl:vU c with
   | true =>
    go_wp2_with fail
    refine (C8 _ _).mono ?_
    rintro e w1 ⟨rfl,rfl⟩
    rw [hl]
    go_wp2
    go_roundw
    case rel=>exact ⟨pos+1,rfl,by omega⟩
    case measure=>simp; omega
   | false =>
    rw [hl] at hc
    obtain ⟨hz',hc⟩:=hc.resolve_left (by simp)
    have hz:((pos:Int)==0)=false:=beq_eq_false_iff_ne.2 (by omega)
    cases hdg:vM c with
    | true =>
     go_wp2_with fail
     refine (C8 _ _).mono ?_
     rintro e w1 ⟨rfl,rfl⟩
     rw [hl]
     go_wp2_with fail
     refine (Iq _ _).mono ?_
     rintro e w1 ⟨rfl,rfl⟩
     rw [hdg]
     go_wp2
     go_roundw
     case rel=>exact ⟨pos+1,rfl,by omega⟩
     case measure=>simp; omega
    | false =>
     have hu:((c:Int) != 95)=false:=by
      rw [hdg] at hc
      have:=hc.resolve_left (by simp)
      simp [bne]; omega
     go_wp2_with fail
     refine (C8 _ _).mono ?_
     rintro e w1 ⟨rfl,rfl⟩
     rw [hl]
     go_wp2_with fail
     refine (Iq _ _).mono ?_
     rintro e w1 ⟨rfl,rfl⟩
     rw [hdg]
     go_wp2
     go_roundw
     case rel=>exact ⟨pos+1,rfl,by omega⟩
     case measure=>simp; omega
  ·have hnx:∀ty,(Instr.next (.pointer (some ⟨w.heap.size,0,none⟩)) true ty).run aa (w.iter s pos)=_:=fun ty=>run_next_end w s pos ty hlt
   go_wp2
   go_ret
   exact mg rfl (Ia w s pos)
variable {W:World} {js:List JV} {j:JV}
theorem ajx {b off k:Nat} (h:uJ W b off 12 (js.map JV.vals)) (hj:js[k]?=some j):W.cell? ⟨b,off+k*12,none⟩=some (.string j.name)∧W.cell? ⟨b,off+k*12+1,none⟩=some (.int .i64 j.kind)∧W.cell? ⟨b,off+k*12+2,none⟩=some (.int .i64 j.parent)∧W.cell? ⟨b,off+k*12+3,none⟩=some (.int .i64 j.o0)∧W.cell? ⟨b,off+k*12+4,none⟩=some (.int .i64 j.o1)∧W.cell? ⟨b,off+k*12+5,none⟩=some (.int .i64 j.o2)∧W.cell? ⟨b,off+k*12+6,none⟩=some (.int .i64 j.lo)∧W.cell? ⟨b,off+k*12+7,none⟩=some (.int .i64 j.hi)∧W.cell? ⟨b,off+k*12+8,none⟩=some (.int .i64 j.weight)∧W.cell? ⟨b,off+k*12+9,none⟩=some (.int .i64 j.speed)∧W.cell? ⟨b,off+k*12+10,none⟩=some (.int .i64 j.iL)∧W.cell? ⟨b,off+k*12+11,none⟩=some (.int .i64 j.iO) :=
 have g:=h.c k _ (Ba hj)
 ⟨g 0 _ rfl,g 1 _ rfl,g 2 _ rfl,g 3 _ rfl,g 4 _ rfl,g 5 _ rfl,g 6 _ rfl,g 7 _ rfl,g 8 _ rfl,g 9 _ rfl,g 10 _ rfl,g 11 _ rfl⟩
variable {n:Nat}
theorem aju (h:Row W n j.vals):W.cell? ⟨n,0,none⟩=some (.string j.name)∧W.cell? ⟨n,1,none⟩=some (.int .i64 j.kind)∧W.cell? ⟨n,2,none⟩=some (.int .i64 j.parent)∧W.cell? ⟨n,3,none⟩=some (.int .i64 j.o0)∧W.cell? ⟨n,4,none⟩=some (.int .i64 j.o1)∧W.cell? ⟨n,5,none⟩=some (.int .i64 j.o2)∧W.cell? ⟨n,6,none⟩=some (.int .i64 j.lo)∧W.cell? ⟨n,7,none⟩=some (.int .i64 j.hi)∧W.cell? ⟨n,8,none⟩=some (.int .i64 j.weight)∧W.cell? ⟨n,9,none⟩=some (.int .i64 j.speed)∧W.cell? ⟨n,10,none⟩=some (.int .i64 j.iL)∧W.cell? ⟨n,11,none⟩=some (.int .i64 j.iO) :=
 ⟨h.c 0 _ rfl,h.c 1 _ rfl,h.c 2 _ rfl,h.c 3 _ rfl,h.c 4 _ rfl,h.c 5 _ rfl,h.c 6 _ rfl,h.c 7 _ rfl,h.c 8 _ rfl,h.c 9 _ rfl,h.c 10 _ rfl,h.c 11 _ rfl⟩
theorem ajw (w:World) (j:JV):∃V,V=w.alloc (.cells #[.string j.name,.int .i64 j.kind,.int .i64 j.parent,.int .i64 j.o0,.int .i64 j.o1,.int .i64 j.o2,.int .i64 j.lo,.int .i64 j.hi,.int .i64 j.weight,.int .i64 j.speed,.int .i64 j.iL,.int .i64 j.iO] 80)∧Below w.heap.size w V∧Row V w.heap.size j.vals :=
 ⟨_,rfl,(aI _ _).alloc (au _) _,Row.new w j.vals 80⟩
theorem ajt (w:World) (x y:Value):∃V,V=w.alloc (.cells #[x,y] 35)∧Below w.heap.size w V∧Row V w.heap.size [x,y]∧V.heap.size=w.heap.size+1 :=
 ⟨_,rfl,(aI _ _).alloc (au _) _,Row.new w [x,y] 35,by simp⟩
theorem find_ok (b off cap:Nat) (js:List JV) (mv:Value) (s:ByteArray) (n:Nat) (w:World) (hc:js.length≤100) (hJ:uJ w b off 12 (js.map JV.vals)) (hf:findF js s=n) :
  Calls aa 124 #[.agg #[.slice (some ⟨b,off,none⟩) js.length cap,mv],.string s] w (DW n w):=by
 have lt:=hJ.lt
 have HF:=aG hf
 clear hf
 go_enter Tryz.func124,Tryz.ntmps124
 go_wp2_with fail
 go_loop [9] (fun i=>∃k:Nat,k≤js.length∧i=.int .i64 k∧∀i j,i<k→js[i]?=some j→rq j.name s=false) (fun i=>js.length - (intOf i).toNat)
 case atStart=>exact ⟨0,by omega,rfl,fun i j h=>absurd h (by omega)⟩
 case round =>
  obtain ⟨k,hk,rfl,hall⟩:=hrel
  have HA:=aG hall
  clear hall
  by_cases hlt:k<js.length
  ·obtain ⟨j,hj⟩:∃j,js[k]?=some j:=⟨_,ah hlt⟩
   have c0:w.cell? ⟨b,off+k*12,none⟩=some (.string j.name):=hJ.c k _ (Ba hj) 0 _ rfl
   have HJ:=aG hj
   clear hj
   cases he:(j.name.toList==s.toList) with
   | true =>
    go_wp2
    go_ret
    refine nI ?_ ((aI _ _).alloc (au _) _)
    rw [←HF.out]
    exact OO HJ.out he HA.out
   | false =>
    go_wp2
    go_round
    case rel =>
     refine ⟨k+1,by omega,by go_num,fun i j' hi hj'=>?_⟩
     rcases (show i<k∨i=k by omega) with h | rfl
     ·exact HA.out i j' h hj'
     ·rw [HJ.out] at hj'; injection hj' with hj'; subst hj'; exact he
    case measure=>simp [intOf]; omega
  ·have e:=HF.out
   rw [XY fun i j hj=>HA.out i j (by have:=(ai.1 hj).1; omega) hj] at e
   omega
theorem ajB {k:Int} (h:qY js j k=0):vV j.name=true∧findF js j.name=k∧(0≤j.kind∧j.kind≤6)∧(-1≤j.parent∧j.parent<k)∧wD j.o0 j.o1 j.o2=false∧(j.lo≤j.hi∧-oI j.kind≤j.lo∧j.hi≤oI j.kind)∧lv j.weight 1024=true∧lv j.speed 1048576=true∧lv j.iL 1048576=true∧lv j.iO 1099511627776=true:=by
 unfold qY at h
 repeat' split at h
 iterate 6 cases h
 next a b c d e f =>
 simp only [Bool.or_eq_true,Bool.not_eq_true',decide_eq_true_iff,not_or,Bool.not_eq_false,Bool.not_eq_true,Decidable.not_not] at a d f
 exact ⟨a.1,a.2,by omega,by omega,d,by omega,f.1.1.1,f.1.1.2,f.1.2,f.2⟩
theorem ajC (b off cap:Nat) (js:List JV) (j:JV) (k:Nat) (mv:Value) (w:World) (hc:js.length≤100) (hj:js[k]?=some j) (hJ:uJ w b off 12 (js.map JV.vals)) (h0:qY js j k=0) :
  Calls aa 106 #[.agg #[.slice (some ⟨b,off,none⟩) js.length cap,mv],.int .i64 k] w (DW 0 w):=by
 have lt:=hJ.lt
 have hk:k<js.length:=(ai.1 hj).1
 obtain ⟨c0,c1,c2,c3,c4,c5,c6,c7,c8,c9,c10,c11⟩:=ajx hJ hj
 obtain ⟨nm,fd,⟨k1,k2⟩,⟨p1,p2⟩,by',⟨l1,l2,l3⟩,f0,f1,f2,f3⟩:=ajB h0
 have HN:=aG nm
 have HF:=aG fd
 have HB:=aG by'
 have F0:=aG f0
 have F1:=aG f1
 have F2:=aG f2
 have F3:=aG f3
 have k1':decide (j.kind<0)=false:=decide_eq_false (by omega)
 have p1':decide (j.parent< -1)=false:=decide_eq_false (by omega)
 clear hj h0 nm fd by' f0 f1 f2 f3
 go_enter Tryz.func106,Tryz.ntmps106
 go_wp2_with fail
 obtain ⟨V0,hV0,hb0,q2,e1⟩:=ajt w (.slice (some ⟨b,off,none⟩) js.length cap) mv
 rw [←hV0]
 obtain ⟨W0,hV1,hb1,q5⟩:=ajw V0 j
 rw [←hV1]
 rw [e1] at q5
 have hW0:CW w w.heap.size (w.heap.size+1) b off [.slice (some ⟨b,off,none⟩) js.length cap,mv] j js W0:=⟨jD hb0 hb1,q2.keep hb1,q5,(hJ.keep hb0).keep hb1⟩
 clear hV0 hb0 q2 e1 hV1 hb1 q5 c0 c1 c2 c3 c4 c5 c6 c7 c8 c9 c10 c11 lt hJ
 generalize w.heap.size+1=n5 at hW0 ⊢
 generalize hn2:w.heap.size=n2 at hW0 ⊢
 have HN2:=aG hn2
 clear hn2
 refine (ajH _ _ HN.out).mono ?_
 rintro e W1 ⟨rfl,hb1⟩
 have hW:=hW0.keep hb1
 clear hW0 hb1
 have s0:=hW.r2.c 0 _ rfl
 have s1:=hW.r2.c 1 _ rfl
 obtain ⟨d0,d1,d2,d3,d4,d5,d6,d7,d8,d9,d10,d11⟩:=aju hW.r5
 go_wp2_with fail
 refine (find_ok b off cap js mv j.name k _ hc hW.rJ HF.out).mono ?_
 rintro e W2 ⟨rfl,hb2⟩
 have hV:=hW.keep hb2
 clear hW hb2
 clear s0 s1 d0 d1 d2 d3 d4 d5 d6 d7 d8 d9 d10 d11
 have s0:=hV.r2.c 0 _ rfl
 have s1:=hV.r2.c 1 _ rfl
 obtain ⟨d0,d1,d2,d3,d4,d5,d6,d7,d8,d9,d10,d11⟩:=aju hV.r5
 go_wp2_with fail
 refine (ajy _ _ _ _ HB.out).mono ?_
 rintro e W3 ⟨rfl,hb3⟩
 have hU:=hV.keep hb3
 clear hV hb3
 clear s0 s1 d0 d1 d2 d3 d4 d5 d6 d7 d8 d9 d10 d11
 have s0:=hU.r2.c 0 _ rfl
 have s1:=hU.r2.c 1 _ rfl
 obtain ⟨d0,d1,d2,d3,d4,d5,d6,d7,d8,d9,d10,d11⟩:=aju hU.r5
 have lb:=EX j.kind
 have HL:Hid (∀w,Calls aa 126 #[.int .i64 j.kind] w fun e w'=>e=.returned (.int .i64 (oI j.kind))∧w=w'):=aG fun w=>Za _ w
 generalize oI j.kind=lm at lb l2 l3 HL
 have l1':decide (j.hi<j.lo)=false:=decide_eq_false (by omega)
 have l2':decide (j.lo< -lm)=false:=decide_eq_false (by omega)
 have l3':decide (lm<j.hi)=false:=decide_eq_false (by omega)
 go_wp2_with fail
 refine (HL.out _).mono ?_
 rintro e v0 ⟨rfl,rfl⟩
 go_wp2_with fail
 refine (qf _ _ _).mono ?_
 rintro e v0 ⟨rfl,rfl⟩
 rw [F0.out]
 go_wp2_with fail
 refine (qf _ _ _).mono ?_
 rintro e v1 ⟨rfl,rfl⟩
 rw [F1.out]
 go_wp2_with fail
 refine (qf _ _ _).mono ?_
 rintro e v2 ⟨rfl,rfl⟩
 rw [F2.out]
 go_wp2_with fail
 refine (qf _ _ _).mono ?_
 rintro e v3 ⟨rfl,rfl⟩
 rw [F3.out]
 go_wp2
 go_ret
 exact nI rfl hU.gW
theorem ajG {m:MV} (h:kK n m=true):(0≤m.link∧m.link<n)∧lv m.eT 65536=true∧wD m.p0 m.p1 m.p2=false:=by
 simp only [kK,aQ,decide_eq_true_iff,Bool.not_eq_true'] at h
 exact ⟨h.1.1,h.1.2,h.2⟩
theorem ajD (oa:Option Addr) (n cap nb:Nat) (mv:Value) (m:MV) (w:World) (hR:Row w nb [.slice oa n cap,mv]) (h:kK n m=true) :
  Calls aa 108 #[.agg #[.int .i64 m.link,.int .i64 m.eT,.int .i64 m.p0,.int .i64 m.p1,.int .i64 m.p2],.pointer (some ⟨nb,0,none⟩)] w (oz false w):=by
 obtain ⟨⟨c1,c2⟩,f0,b0⟩:=ajG h
 have F0:=aG f0
 have B0:=aG b0
 have H:Hid (∀w,Calls aa 109 #[.agg #[.slice oa n cap,mv],.agg #[.int .i64 m.link,.int .i64 m.eT,.int .i64 m.p0,.int .i64 m.p1,.int .i64 m.p2]] w (oz true w)):=aG fun w=>by
  clear h f0 b0 hR
  go_enter Tryz.func109,Tryz.ntmps109
  go_wp2_with fail
  refine (qf _ _ _).mono ?_
  rintro e v0 ⟨rfl,rfl⟩
  rw [F0.out]
  go_wp2_with fail
  refine (ajy _ _ _ _ B0.out).mono ?_
  rintro e v1 ⟨rfl,hb1⟩
  go_wp2
  go_ret
  exact mg rfl (jD (((aI _ _).alloc (au _) _).alloc (by simp) _) hb1)
 clear h f0 b0
 have c0:=hR.c 0 _ rfl
 have c1:=hR.c 1 _ rfl
 have lt:=hR.lt
 go_enter Tryz.func108,Tryz.ntmps108
 go_wp2_with fail
 refine (H.out _).mono ?_
 rintro e v1 ⟨rfl,hb1⟩
 go_wp2
 go_ret
 exact mg rfl (jD ((aI _ _).alloc (au _) _) hb1)
theorem ajE (oa om:Option Addr) (n cap nb mcap:Nat) (mv:Value) (ms:List MV) (w:World) (hl:ms.length≤9223372036854775807) (hR:Row w nb [.slice oa n cap,mv]) (hM:Sl w om 5 (ms.map MV.vals)) (hm:∀(k:Nat) (m:MV),ms[k]?=some m→kK n m=true) :
  Calls aa 107 #[.slice om ms.length mcap,.func (.func 108) #[] #[.pointer (some ⟨nb,0,none⟩)]] w (oz false w):=by
 have H:Hid (Calls aa 128 #[.slice om ms.length mcap,.func (.func 108) #[] #[.pointer (some ⟨nb,0,none⟩)]] w (DW (-1) w)):=aG (by
  have HM:=aG hm
  clear hm
  go_enter Tryz.func128,Tryz.ntmps128
  go_wp2_with fail
  go_loopw [8] (fun i W=>∃k:Nat,k≤ms.length∧i=.int .i64 k∧Below w.heap.size w W) (fun i _=>ms.length - (intOf i).toNat)
  case atStart=>exact ⟨0,by omega,rfl,aI _ _⟩
  case round =>
   obtain ⟨k,hk,rfl,hB⟩:=hrel
   have hRr:=hR.keep hB
   have hMr:=hM.keep hB
   have HB:=aG hB
   clear hB
   by_cases hlt:k<ms.length
   ·obtain ⟨m,hm⟩:∃m,ms[k]?=some m:=⟨_,ah hlt⟩
    obtain ⟨b,off,rfl,hMq⟩:=hMr (by intro h; rw [ag3] at h; rw [h] at hlt; simp at hlt)
    have g:=hMq.c k _ (De hm)
    have c0:wr.cell? ⟨b,off+k*5,none⟩=some (.int .i64 m.link):=g 0 _ rfl
    have c1:wr.cell? ⟨b,off+k*5+1,none⟩=some (.int .i64 m.eT):=g 1 _ rfl
    have c2:wr.cell? ⟨b,off+k*5+2,none⟩=some (.int .i64 m.p0):=g 2 _ rfl
    have c3:wr.cell? ⟨b,off+k*5+3,none⟩=some (.int .i64 m.p1):=g 3 _ rfl
    have c4:wr.cell? ⟨b,off+k*5+4,none⟩=some (.int .i64 m.p2):=g 4 _ rfl
    have H1:=aG (HM.out k m hm)
    clear hm g
    go_wp2_with fail
    refine (ajD oa n cap nb mv m _ hRr H1.out).mono ?_
    rintro e W1 ⟨rfl,hb1⟩
    have HB1:=aG (jD HB.out hb1)
    clear hb1
    go_wp2
    go_roundw
    case rel=>exact ⟨k+1,by omega,by simp,HB1.out⟩
    case measure=>simp [intOf]; omega
   ·go_wp2
    go_ret
    exact nI rfl HB.out)
 clear hm hM hR
 go_enter Tryz.func107,Tryz.ntmps107
 go_wp2_with fail
 refine H.out.mono ?_
 rintro e v1 ⟨rfl,hb1⟩
 go_wp2
 go_ret
 exact mg rfl hb1
theorem ajz (oa om:Option Addr) (cap mcap:Nat) (js:List JV) (ms:List MV) (w:World) (hJ:Sl w oa 12 (js.map JV.vals)) (hM:Sl w om 5 (ms.map MV.vals)) (ok:yu js ms) :
  Calls aa 86 #[.agg #[.slice oa js.length cap,.slice om ms.length mcap]] w (DW 0 w):=by
 obtain ⟨⟨c0,c1⟩,hs,c2,hm⟩:=ok
 have HS:=aG hs
 have HM:=aG hm
 clear hs hm
 have c0':((js.length:Int)==0)=false:=beq_eq_false_iff_ne.2 (by omega)
 have c1':decide (10<(js.length:Int))=false:=decide_eq_false (by omega)
 have c2':decide (32<(ms.length:Int))=false:=decide_eq_false (by omega)
 go_enter Tryz.func86,Tryz.ntmps86
 go_wp2_with fail
 obtain ⟨W0,hV0,hb,q2,e1⟩:=ajt w (.slice oa js.length cap) (.slice om ms.length mcap)
 rw [←hV0]
 have hW0:KW w w.heap.size oa om [.slice oa js.length cap,.slice om ms.length mcap] js ms W0:=⟨hb,q2,hJ.keep hb,hM.keep hb⟩
 clear hJ hM hb hV0 q2 e1
 generalize w.heap.size=n1 at hW0 ⊢
 go_loopw [18] (fun i W=>∃k:Nat,k≤js.length∧i=.int .i64 k∧KW w n1 oa om [.slice oa js.length cap,.slice om ms.length mcap] js ms W) (fun i _=>js.length - (intOf i).toNat)
 case atStart=>exact ⟨0,by omega,rfl,hW0⟩
 case round =>
  obtain ⟨k,hk,rfl,hW⟩:=hrel
  clear hW0
  have s0:wr.cell? ⟨n1,0,none⟩=some (.slice oa js.length cap):=hW.r1.c 0 _ rfl
  have s1:wr.cell? ⟨n1,1,none⟩=some (.slice om ms.length mcap):=hW.r1.c 1 _ rfl
  have lt1:=hW.r1.lt
  by_cases hlt:k<js.length
  ·obtain ⟨j,hj⟩:∃j,js[k]?=some j:=⟨_,ah hlt⟩
   obtain ⟨b,off,rfl,hMq⟩:=hW.rJ (AX hlt)
   have HJ:=aG hj
   clear hj
   go_wp2_with fail
   refine (ajC b off cap js j k _ _ (by omega) HJ.out hMq (HS.out k j HJ.out)).mono ?_
   rintro e W1 ⟨rfl,hb1⟩
   have hV:=hW.keep hb1
   clear hb1 hMq s0 s1 lt1
   go_wp2
   go_roundw
   case rel=>exact ⟨k+1,by omega,by simp,hV⟩
   case measure=>simp [intOf]; omega
  ·have hk':k=js.length:=by omega
   subst hk'
   go_wp2_with fail
   refine (ajE oa om js.length cap n1 mcap _ ms _ (by omega) hW.r1 hW.rM HM.out).mono ?_
   rintro e W1 ⟨rfl,hb1⟩
   have hV:=hW.keep hb1
   clear hb1 s0 s1 lt1
   go_wp2
   go_ret
   exact nI rfl hV.gW
set_option maxRecDepth 100000 in
theorem ajF (oa op:Option Addr) (cap pcap:Nat) (js:List JV) (ps:List Int) (w:World) (hj:js.length≤100) (hJ:Sl w oa 12 (js.map JV.vals)) (hP:Sl w op 1 (fF ps)) (ip:mi js ps) :
  Calls aa 87 #[.slice oa js.length cap,.slice op ps.length pcap,.func (.func 88) #[] #[]] w (oz true w):=by
 obtain ⟨c0,hi⟩:=ip
 have HI:=aG hi
 have c0':((js.length:Int) != (ps.length:Int))=false:=by simp; omega
 have c0a:js.length≤ps.length:=by omega
 have c0b:ps.length≤js.length:=by omega
 clear c0 hi
 go_enter Tryz.func87,Tryz.ntmps87
 go_wp2_with fail
 go_loopw [16] (fun i W=>∃k:Nat,k≤js.length∧i=.int .i64 k∧Below w.heap.size w W) (fun i _=>js.length - (intOf i).toNat)
 case atStart=>exact ⟨0,by omega,rfl,aI _ _⟩
 case round =>
  obtain ⟨k,hk,rfl,hB⟩:=hrel
  by_cases hlt:k<js.length
  ·obtain ⟨j,hj'⟩:∃j,js[k]?=some j:=⟨_,ah hlt⟩
   obtain ⟨p,hp'⟩:∃p,ps[k]?=some p:=⟨_,ah (by omega)⟩
   obtain ⟨b,off,rfl,hMq⟩:=hJ (AX hlt)
   obtain ⟨bp,offp,rfl,hPq⟩:=hP (kX (k:=k) (by omega))
   have hMr:=hMq.keep hB
   have hPr:=hPq.keep hB
   obtain ⟨x0,x1,x2,x3,x4,x5,x6,x7,x8,x9,x10,x11⟩:=ajx hMr hj'
   have HD:Hid (decide (j.lo≤p∧p≤j.hi)=true):=aG (decide_eq_true (HI.out k j p hj' hp'))
   go_wp2_with fail
   obtain ⟨V,hV,hba,hRv⟩:=ajw wr j
   rw [←hV]
   have hPv:=hPr.keep hba
   have hB2:=jD hB hba
   clear hba hV x0 x1 x2 x3 x4 x5 x6 x7 x8 x9 x10 x11 hMr hPr hB hj' hPq hMq hJ hP
   generalize wr.heap.size=n8 at hRv ⊢
   have HB:=aG hB2
   clear hB2
   have y0:V.cell? ⟨bp,offp+k,none⟩=some (.int .i64 p):=by have:=hPv.c k _ (yz hp') 0 _ rfl; simpa using this
   obtain ⟨x0,x1,x2,x3,x4,x5,x6,x7,x8,x9,x10,x11⟩:=aju hRv
   have hlt2:k<ps.length:=by omega
   go_still_tail 6,(by kernel_rfl)
   change wpList _ _ _ _ _ V.drew
   have HB2:Hid (Below w.heap.size w V.drew):=aG (jD HB.out (aI _ _).drew)
   generalize V.drew=V2 at HB2 ⊢
   clear x0 x1 x2 x3 x4 x5 x6 x7 x8 x9 x10 x11 y0 HB hPv hRv hp'
   go_wp2_with fail
   refine (aeM j p _).mono ?_
   rintro e W1 ⟨rfl,hb1⟩
   have HB3:Hid (Below w.heap.size w W1):=aG (jD HB2.out hb1)
   clear HB2 hb1
   rw [HD.out]
   go_wp2
   go_roundw
   case rel=>exact ⟨k+1,by omega,by simp,HB3.out⟩
   case measure=>simp [intOf]; omega
  ·go_wp2
   go_ret
   exact mg rfl hB
set_option maxRecDepth 100000 in
theorem ajA (oa om op:Option Addr) (cap mcap pcap:Nat) (js:List JV) (ms:List MV) (ps:List Int) (w:World) (hJ:Sl w oa 12 (js.map JV.vals)) (hM:Sl w om 5 (ms.map MV.vals)) (hP:Sl w op 1 (fF ps)) (ok:yu js ms) (ip:mi js ps) :
  Calls aa 50 #[.agg #[.slice oa js.length cap,.slice om ms.length mcap],.slice op ps.length pcap] w (oz true w):=by
 go_enter Tryz.func50,Tryz.ntmps50
 go_wp2_with fail
 obtain ⟨W0,hV0,hb,q2,e1⟩:=ajt w (.slice oa js.length cap) (.slice om ms.length mcap)
 rw [←hV0]
 have hW0:KW w w.heap.size oa om [.slice oa js.length cap,.slice om ms.length mcap] js ms W0:=⟨hb,q2,hJ.keep hb,hM.keep hb⟩
 replace hP:=hP.keep hb
 clear hJ hM hb hV0 q2 e1
 generalize w.heap.size=n1 at hW0 ⊢
 refine (ajz oa om cap mcap js ms _ hW0.rJ hW0.rM ok).mono ?_
 rintro e W1 ⟨rfl,hb1⟩
 have hW:=hW0.keep hb1
 replace hP:=hP.keep hb1
 clear hW0 hb1
 have s0:W1.cell? ⟨n1,0,none⟩=some (.slice oa js.length cap):=hW.r1.c 0 _ rfl
 have s1:W1.cell? ⟨n1,1,none⟩=some (.slice om ms.length mcap):=hW.r1.c 1 _ rfl
 have lt1:=hW.r1.lt
 go_wp2_with fail
 refine (ajF oa op cap pcap js ps _ (by have:=ok.1; omega) hW.rJ hP ip).mono ?_
 rintro e W2 ⟨rfl,hb2⟩
 go_wp2
 go_ret
 exact mg rfl (jD hW.gW hb2)
set_option maxRecDepth 100000 in
theorem ajI (oa om op oq:Option Addr) (cap mcap pcap qcap:Nat) (js:List JV) (ms:List MV) (ps qs:List Int) (w:World) (hJ:Sl w oa 12 (js.map JV.vals)) (hM:Sl w om 5 (ms.map MV.vals)) (hP:Sl w op 1 (fF ps)) (hQ:Sl w oq 1 (fF qs)) (ok:yu js ms) (ip:mi js ps) (iq:mi js qs) :
  Calls aa 26 #[.agg #[.slice oa js.length cap,.slice om ms.length mcap],.slice op ps.length pcap,.slice oq qs.length qcap] w fun e w'=>Below w.heap.size w w'∧∃oa cap,e=.returned (.tuple #[.slice oa (gZ js ps qs js.length).length cap,.bool true])∧Sl w' oa 2 (rH (gZ js ps qs js.length)):=by
 have hj:js.length≤100:=by have:=ok.1; omega
 have hl:ms.length≤100:=by have:=ok.2.2.1; omega
 go_enter Tryz.func26,Tryz.ntmps26
 go_wp2_with fail
 obtain ⟨W0,hV0,hb,q2,e1⟩:=ajt w (.slice oa js.length cap) (.slice om ms.length mcap)
 rw [←hV0]
 have hW0:KW w w.heap.size oa om [.slice oa js.length cap,.slice om ms.length mcap] js ms W0:=⟨hb,q2,hJ.keep hb,hM.keep hb⟩
 have hP0:=hP.keep hb
 have hQ0:=hQ.keep hb
 have hz0:w.heap.size+1≤W0.heap.size:=Nat.le_of_eq e1.symm
 clear hb hV0 q2 e1
 generalize hn1:w.heap.size=n1 at hW0 hz0 ⊢
 have HN:=aG hn1
 clear hn1
 have OK:=aG ok
 have IQ:=aG iq
 refine (ajA oa om op cap mcap pcap js ms ps _ hW0.rJ hW0.rM hP0 ok ip).mono ?_
 rintro e W1 ⟨rfl,hB1⟩
 have hW1:=hW0.keep hB1
 have hQ1:=hQ0.keep hB1
 have hz1:=aZ hz0 hB1.size
 have HOK:=aG ok.2.1
 have HP1:=aG ip.2
 have HQ1:=aG iq.2
 have l1a:ps.length≤js.length:=by have:=ip.1; omega
 have l1b:js.length≤ps.length:=by have:=ip.1; omega
 have l2a:qs.length≤js.length:=by have:=iq.1; omega
 have l2b:js.length≤qs.length:=by have:=iq.1; omega
 have HL1:=aG ip.1
 clear hW0 hP0 hQ0 hz0 hB1 ok ip iq
 have s0:W1.cell? ⟨n1,0,none⟩=some (.slice oa js.length cap):=hW1.r1.c 0 _ rfl
 have s1:W1.cell? ⟨n1,1,none⟩=some (.slice om ms.length mcap):=hW1.r1.c 1 _ rfl
 have lt1:=hW1.r1.lt
 go_wp2_with fail
 refine (ajA oa om oq cap mcap qcap js ms qs _ hW1.rJ hW1.rM hQ1 OK.out IQ.out).mono ?_
 rintro e W2 ⟨rfl,hB2⟩
 have hW2:=hW1.keep hB2
 have hz2:=aZ hz1 hB2.size
 clear hW1 hQ1 hz1 hB2 s0 s1 lt1 OK IQ
 obtain ⟨i0,hi,hz0,hz1,hz2⟩:=info_parts Pj
 have s0:W2.cell? ⟨n1,0,none⟩=some (.slice oa js.length cap):=hW2.r1.c 0 _ rfl
 have s1:W2.cell? ⟨n1,1,none⟩=some (.slice om ms.length mcap):=hW2.r1.c 1 _ rfl
 have lt1:=hW2.r1.lt
 go_wp2_with (refine wpList_make_own _ rfl _ _ 60 rfl (W2.heap.size+1) 23 i0 (.agg #[.int .i64 0,.int .i64 0]) 2 Me hi hz0 hz1 .i64 .i64 _ ps.length rfl rfl rfl ?c1 ?c2 ?c3 ?_)
 case c1=>rw [hz2]; omega
 case c2=>unfold maxLen; omega
 case c3=>simp
 intro W3 hown3 hg3
 have hB3:Below (W2.alloc (.cells #[.bool false] 88)).heap.size (W2.alloc (.cells #[.bool false] 88)) W3:=⟨hg3.os,hg3.tape,hg3.output,hg3.size,fun k hk=>hg3.block k hk (by simp)⟩
 have hBa:Below W2.heap.size W2 (W2.alloc (.cells #[.bool false] 88)):=(aI _ _).alloc (au _) _
 have hC0:CB (W2.alloc (.cells #[.bool false] 88)) W2.heap.size:=⟨by simp,by simp,by simp⟩
 have hC3:=hC0.keep hB3
 have hW3:=(hW2.keep hBa).keep hB3
 have hz3:W2.heap.size+1≤W3.heap.size:=aZ (by simp) hg3.size
 have hwz:w.heap.size≤W2.heap.size:=hW2.gW.size
 clear hB3 hBa hC0 hg3 hW2 hz2 s0 s1 hi hz0 hz1
 generalize W2.heap.size=nc at hown3 hC3 hz3 lt1 hwz ⊢
 have s0:W3.cell? ⟨n1,0,none⟩=some (.slice oa js.length cap):=hW3.r1.c 0 _ rfl
 have s1:W3.cell? ⟨n1,1,none⟩=some (.slice om ms.length mcap):=hW3.r1.c 1 _ rfl
 have HOWN3:=aG hown3
 clear hown3
 go_wp2_with fail
 go_loopw [9,31] (fun v i W=>∃k:Nat,k≤js.length∧i=.int .i64 k∧RI w js ps qs n1 [.slice oa js.length cap,.slice om ms.length mcap] (nc+1) k v W∧CB W nc) (fun _ i _=>js.length - (intOf i).toNat)
 case atStart=>exact ⟨0,by omega,rfl,⟨hW3.gW,hW3.r1,HOWN3.out,hz3⟩,hC3⟩
 case round =>
  clear hW3 hz3 hC3 s0 s1 HOWN3
  obtain ⟨k,hk,rfl,hRI,hCB⟩:=hrel
  by_cases hlt2:k<js.length
  ·have hlt:k<ps.length:=by omega
   have hlt3:k<qs.length:=by omega
   obtain ⟨j,hj'⟩:∃j,js[k]?=some j:=⟨_,ah hlt2⟩
   obtain ⟨p,hp'⟩:∃p,ps[k]?=some p:=⟨_,ah hlt⟩
   obtain ⟨q,hq'⟩:∃q,qs[k]?=some q:=⟨_,ah hlt3⟩
   obtain ⟨b,off,rfl,hJr⟩:=(hJ.keep hRI.gW) (AX hlt2)
   obtain ⟨bp,offp,rfl,hPr⟩:=(hP.keep hRI.gW) (kX (k:=k) hlt)
   obtain ⟨bq,offq,rfl,hQr⟩:=(hQ.keep hRI.gW) (kX (k:=k) hlt3)
   obtain ⟨x0,x1,x2,x3,x4,x5,x6,x7,x8,x9,x10,x11⟩:=ajx hJr hj'
   have bj:=Pp (HOK.out k j hj')
   have b1:=HP1.out k j p hj' hp'
   have b2:=HQ1.out k j q hj' hq'
   have d1:-8388608≤q - p:=by omega
   have d2:q - p≤8388608:=by omega
   have HM:=aG (acA (q - p) d1 d2)
   have HSN:=aG (acD hj' hp' hq')
   have HRI:=aG hRI
   have HCB:=aG hCB
   clear bj b1 b2
   go_upto_region 8 with fail
   obtain ⟨V,hV,hBV,h11⟩:=ajw wr j
   rw [←hV]
   have hPv:=hPr.keep hBV
   have hQv:=hQr.keep hBV
   have hCV:=hCB.keep hBV
   have HX:=aG hBV
   clear hJr hRI hPr hQr hCB x0 x1 x2 x3 x4 x5 x6 x7 x8 x9 x10 x11 hj'
   clear hBV hV
   generalize hn11:wr.heap.size=n11 at h11 ⊢
   have HN11:=aG hn11
   clear hn11
   have y0:V.cell? ⟨bp,offp+k,none⟩=some (.int .i64 p):=by have:=hPv.c k _ (yz hp') 0 _ rfl; simpa using this
   have z0:V.cell? ⟨bq,offq+k,none⟩=some (.int .i64 q):=by have:=hQv.c k _ (yz hq') 0 _ rfl; simpa using this
   have lp:=hPv.lt
   have lq:=hQv.lt
   have hwr:bg.wrap (q - p)=q - p:=dz _ (by omega)
   clear hp' hq' hPv hQv
   have h12:iw (V.alloc (.cells #[.int .i64 0,.int .i64 0] 23)).drew V.heap.size (.int .i64 0) (.int .i64 0):=(iw.new V _ _ 23).keep (aI _ _).drew
   have H12:=aG h12
   clear h12
   go_cut [12] (fun s12 W=>∃g:Nat,s12=.pointer (some ⟨g,0,none⟩)∧iw W g (.int .i64 (q - p)) (.int .i64 (q - p))∧Below V.heap.size V W∧V.heap.size≤g)
   case first =>
    go_region_held3 (fun w'=>w'.cell? ⟨bp,offp+k,none⟩=some (.int .i64 p)∧w'.cell? ⟨bq,offq+k,none⟩=some (.int .i64 q)∧Below V.heap.size V w')
     (first | exact ⟨y0,z0,(aI _ _).drew⟩ | exact um lp lq ⟨y0,z0,aI _ _⟩ ((aI _ _).alloc (au _) _).drew | exact um (W:=V.drew) lp lq ⟨y0,z0,(aI _ _).drew⟩ hbx | exact um lp lq (um (W:=V.drew) lp lq ⟨y0,z0,(aI _ _).drew⟩ hbx) ((aI _ _).alloc (au _) _) | exact um (W:=(V.alloc (.cells #[.int .i64 0,.int .i64 0] 23)).drew) lp lq (um lp lq ⟨y0,z0,aI _ _⟩ ((aI _ _).alloc (au _) _).drew) hbx | exact ahy lp lq _ _ (ahy lp lq _ _ (um (W:=(V.alloc (.cells #[.int .i64 0,.int .i64 0] 23)).drew) lp lq (um lp lq ⟨y0,z0,aI _ _⟩ ((aI _ _).alloc (au _) _).drew) hbx)))
     (first | (go_at_call 51; refine (aac _ _).mono ?_; rintro e w' ⟨rfl,hbx⟩; try (have hk:=H12.out.keep hbx; have k0:=hk.c0; have k1:=hk.c1; have k2:=hk.f0; have k3:=hk.f1; have k4:=hk.lt)))
    ·go_wp2_with fail
     go_meet
     exact ⟨w'.heap.size,rfl,iw.new w' _ _ 23,(um lp lq (um (W:=V.drew) lp lq ⟨y0,z0,(aI _ _).drew⟩ hbx) ((aI _ _).alloc (au _) _)).2.2,hbx.size⟩
    ·go_wp2_with fail
     go_meet
     exact ⟨V.heap.size,rfl,(H12.out.keep hbx).put _ _,(ahy lp lq _ _ (ahy lp lq _ _ (um (W:=(V.alloc (.cells #[.int .i64 0,.int .i64 0] 23)).drew) lp lq (um lp lq ⟨y0,z0,aI _ _⟩ ((aI _ _).alloc (au _) _).drew) hbx))).2.2,au _⟩
   case rest =>
    obtain ⟨g,rfl,h12,hB12,hge⟩:=hcut
    have hX4:=jD HX.out hB12
    replace h11:=h11.keep hB12
    have hC4:=hCV.keep hB12
    have hgw:wr.heap.size≤g:=aZ HX.out.size hge
    have HX4:=aG hX4
    have HGW:=aG hgw
    clear hX4 hgw hge hB12 HX hCV y0 z0 lp lq hwr H12
    have kk:wc.cell? ⟨n11,1,none⟩=some (.int .i64 j.kind):=h11.c 1 _ rfl
    have l11:=h11.lt
    clear h11
    obtain ⟨i0,hi,hz0,hz1,hz2⟩:=info_parts Pj
    go_wp2_with fail
    refine (aej _ _).mono ?_
    rintro e W5 ⟨rfl,rfl⟩
    clear kk l11
    have k0:=h12.c0; have k1:=h12.c1; have k2:=h12.f0; have k3:=h12.f1; have k4:=h12.lt
    cases ht:decide (1≤j.kind∧j.kind≤3) with
    | false =>
     have HT:Hid (Bv j.kind (q - p)=(q - p,q - p)):=aG (by unfold Bv; rw [if_neg (of_decide_eq_false ht)])
     clear ht
     have HX2:Hid (Below wr.heap.size wr (wc.alloc (.cells #[.int .i64 (q - p),.int .i64 (q - p)] 23))):=aG (jD HX4.out ((aI _ _).alloc (au _) _))
     go_wp2_with (at_builtin; refine wpList_append_own _ rfl _ _ 60 rfl (nc+1) 23 i0 (.agg #[.int .i64 0,.int .i64 0]) 2 16 Me hi hz0 hz1 hz2 rfl (by decide) _ _ _ rfl (yx HRI.out.own HX2.out) ⟨wc.heap.size,0,none⟩ 1 1 [.int .i64 (q - p),.int .i64 (q - p)] rfl rfl ?c1 ?c2 ?c3 ?c4 ?c5 ?_)
     case c1=>exact PZ _ _ _ _ rfl
     case c2=>intro u hu; simp at hu; rcases hu with rfl | rfl<;>rfl
     case c3=>unfold maxLen; omega
     case c4=>omega
     case c5=>exact aZ HRI.out.hb HX2.out.size
     intro v' w' hown' hgrow _
     have hnx:=RI.next (r:=(q - p,q - p)) HRI.out HX2.out (by omega) (by omega) hgrow hown' (by rw [HSN.out,HT.out])
     have hcx:=(HCB.out.keep HX2.out).low (Nat.lt_succ_self nc) (yh (yx HRI.out.own HX2.out) hgrow (aZ HRI.out.hb HX2.out.size))
     have HNX:=aG hnx
     have HCX:=aG hcx
     clear hnx hcx hown' hgrow HX2 hi hz0 hz1 hz2 k0 k1 k2 k3 k4
     go_wp2
     go_roundw
     case rel=>exact ⟨k+1,by omega,by simp,HNX.out,HCX.out⟩
     case measure=>simp [intOf]; omega
    | true =>
     have HT:Hid (Bv j.kind (q - p)=(FX (q - p),FW (q - p))):=aG (by unfold Bv; rw [if_pos (of_decide_eq_true ht)])
     clear ht
     go_wp2_with fail
     refine (Xn nc _ _ _ _ _ _ _ hC4 HM.out).mono ?_
     rintro e W6 ⟨rfl,hb6⟩
     replace h12:=h12.keep hb6
     replace HX4:Hid (Below wr.heap.size wr W6):=aG (jD HX4.out hb6)
     clear hb6 hC4 k0 k1 k2 k3 k4
     have k0:=h12.c0; have k1:=h12.c1; have k2:=h12.f0; have k3:=h12.f1; have k4:=h12.lt
     generalize FX (q - p)=lo at HT ⊢
     generalize FW (q - p)=hi' at HT ⊢
     have hsz:((W6.setCell ⟨g,0,none⟩ (.int .i64 lo)).setCell ⟨g,1,none⟩ (.int .i64 hi')).heap.size=W6.heap.size:=by simp [afg]
     have HX1:Below wr.heap.size wr ((W6.setCell ⟨g,0,none⟩ (.int .i64 lo)).setCell ⟨g,1,none⟩ (.int .i64 hi')):=((HX4.out.setCell (p:=⟨g,0,none⟩) HGW.out _).setCell (p:=⟨g,1,none⟩) HGW.out _)
     have HX2:Hid (Below wr.heap.size wr (((W6.setCell ⟨g,0,none⟩ (.int .i64 lo)).setCell ⟨g,1,none⟩ (.int .i64 hi')).alloc (.cells #[.int .i64 lo,.int .i64 hi'] 23))):=aG (jD HX1 ((aI _ _).alloc (au _) _))
     have HSZ:=aG hsz
     clear HX1 hsz
     go_wp2_with (at_builtin; refine wpList_append_own _ rfl _ _ 60 rfl (nc+1) 23 i0 (.agg #[.int .i64 0,.int .i64 0]) 2 16 Me hi hz0 hz1 hz2 rfl (by decide) _ _ _ rfl (yx HRI.out.own HX2.out) ⟨W6.heap.size,0,none⟩ 1 1 [.int .i64 lo,.int .i64 hi'] rfl rfl ?c1 ?c2 ?c3 ?c4 ?c5 ?_)
     case c1=>exact PZ _ _ _ _ HSZ.out.symm
     case c2=>intro u hu; simp at hu; rcases hu with rfl | rfl<;>rfl
     case c3=>unfold maxLen; omega
     case c4=>omega
     case c5=>exact aZ HRI.out.hb HX2.out.size
     intro v' w' hown' hgrow _
     have hnx:=RI.next (r:=(lo,hi')) HRI.out HX2.out (by omega) (by omega) hgrow hown' (by rw [HSN.out,HT.out])
     have hcx:=(HCB.out.keep HX2.out).low (Nat.lt_succ_self nc) (yh (yx HRI.out.own HX2.out) hgrow (aZ HRI.out.hb HX2.out.size))
     have HNX:=aG hnx
     have HCX:=aG hcx
     clear hnx hcx hown' hgrow HX2 hi hz0 hz1 hz2 k0 k1 k2 k3 k4
     go_wp2
     go_roundw
     case rel=>exact ⟨k+1,by omega,by simp,HNX.out,HCX.out⟩
     case measure=>simp [intOf]; omega
  ·have hke:k=js.length:=by omega
   have HK:=aG hke
   have HRI:=aG hRI
   have cb0:=hCB.c
   have cb1:=hCB.lt
   clear hke hRI
   go_wp2
   go_ret2
   refine ⟨HRI.out.gW,?_⟩
   have ho:=HRI.out.own
   rw [HK.out] at ho
   have hl':=acC js ps qs js.length
   obtain ⟨oa',cap',e1,e2⟩:=aa5 (rs:=gZ js ps qs js.length) (by rw [hl']; exact ho)
   subst e1
   exact ⟨oa',cap',rfl,e2⟩
end Go.Proofs.En
end
section
namespace Go.Proofs
open Go.Sm Go.RowKit En
variable {w0 w:World} {ex:List Nat}
theorem Ye (h:iV (w0,ex) w) {b o:Nat} {v:Value} (h1:b<w0.heap.size) (h2:b∉ex) (hc:w0.cell? ⟨b,o,none⟩=some v):w.cell? ⟨b,o,none⟩=some v:=by
 obtain ⟨cs,t,f,k1,k2⟩:=tZ hc
 have:=h b (cs,t,f) (JU h1 h2 k1)
 simp [bS,this,k2]
theorem l8 {oa:Option Addr} {n:Nat} {rows:List (List Value)} (h:Sl w0 oa n rows) (hF:iV (w0,ex) w) (hr:∀r∈rows,r≠[]) (hx:∀a,oa=some a→rows≠[]→a.block∉ex):Sl w oa n rows:=fun h0=>by
 obtain ⟨b,off,e,h1⟩:=h h0
 have hb:=hx _ e h0
 have key:∀i r,rows[i]?=some r→∀k v,r[k]?=some v→w.cell? ⟨b,off+(i*n+k),none⟩=some v:=fun i r hi k v hv=>Ye hF h1.lt hb (h1.c i r hi k v hv)
 obtain ⟨r,l,rfl⟩:∃r l,rows=r::l:=by cases rows with | nil=>exact absurd rfl h0 | cons r l=>exact ⟨r,l,rfl⟩
 obtain ⟨v,t,rfl⟩:∃v t,r=v::t:=by cases r with | nil=>exact absurd rfl (hr [] aA) | cons v t=>exact ⟨v,t,rfl⟩
 obtain ⟨cs,_,_,k1,_⟩:=tZ (key 0 _ rfl 0 v rfl)
 exact ⟨b,off,e,(aB.1 k1).1,key⟩
theorem ZN (ms:List MV):∀r∈ms.map MV.vals,r≠[]:=fun r hr e=>by
 obtain ⟨k,_,rfl⟩:=aeZ.1 hr
 cases e
structure jW (w:World) (ex:List Nat) (B0 B1:dY) (js:List JV) (mvs:List MV):Prop where
 n:1≤js.length∧js.length≤3
 m:mvs.length≤100
 b0:B0.2.1=js.length
 b1:B1.2.1=mvs.length
 sB:Sl w B0.1 12 (js.map JV.vals)
 sM:Sl w B1.1 5 (mvs.map MV.vals)
 xB:∀a,B0.1=some a→a.block∉ex∧a.block<w.heap.size
 xM:∀a,B1.1=some a→mvs≠[]→a.block∉ex∧a.block<w.heap.size
 ok:yu js mvs
 pr:∀(i:Nat) (j:JV),js[i]?=some j→-1≤j.parent∧j.parent<i
 kd:∀(i:Nat) (j:JV),js[i]?=some j→0≤j.kind∧j.kind≤6
 ms:∀(i:Nat) (mv:MV),mvs[i]?=some mv→(0≤mv.link∧mv.link<js.length)∧1≤mv.eT∧mv.eT≤1000000000
variable {B0 B1:dY} {js:List JV} {mvs:List MV}
theorem jW.fz (h:jW w0 ex B0 B1 js mvs) (hF:iV (w0,ex) w):jW w ex B0 B1 js mvs:=by
 have s1:=l8 h.sB hF (AX _) fun a ha _=>(h.xB a ha).1
 have s2:=l8 h.sM hF (ZN _) fun a ha h0=>(h.xM a ha (by simpa using h0)).1
 refine { h with sB:=s1,sM:=s2,xB:=fun a ha=>⟨(h.xB a ha).1,?_⟩,xM:=fun a ha h0=>⟨(h.xM a ha h0).1,?_⟩ }
 ·obtain ⟨b,off,e,hR⟩:=s1 (fun e=>by have:=h.n.1; rw [ag3] at e; rw [e] at this; simp at this)
  rw [ha] at e; injection e with e; subst e; exact hR.lt
 ·obtain ⟨b,off,e,hR⟩:=s2 (by simpa using h0)
  rw [ha] at e; injection e with e; subst e; exact hR.lt
theorem Xl (h:jW w ex B0 B1 js mvs):Calls aa 86 #[.agg ⟨[dJ B0,dJ B1]⟩] w fun r w'=>r=.returned (num 0)∧Below w.heap.size w w':=by
 obtain ⟨oa,n,c⟩:=B0
 obtain ⟨om,m,cm⟩:=B1
 have h1:=h.b0; have h2:=h.b1
 simp only at h1 h2
 subst h1 h2
 exact ajz oa om c cm js mvs w h.sB h.sM h.ok
variable {l:List Int} {bs:List Bool} {sl:List dY} {ws:List jC}
theorem qI (h:jW w0 ex B0 B1 js mvs):jB aa (gP (w0,ex) l bs (B0::B1::sl) ws) ⟨86,[.agg ⟨[dM 0,dM 1]⟩],.val (.int .i64 0)⟩:=fun w hF =>
 ⟨[.agg ⟨[dJ B0,dJ B1]⟩],by kernel_rfl,(Xl (h.fz hF)).mono fun e w' ⟨h1,h2⟩=>⟨h2,num 0,rfl,h1⟩⟩
variable {cn:List Value}
theorem afu {P J C:iF} {pn jn:List Value} (hC:C=kE P J) (h1:fP (gP (w0,ex) l bs sl ws) ⟨[],[]⟩ 5 (.agg ⟨pn⟩)=some (.agg ⟨gT P⟩)) (h2:fP (gP (w0,ex) l bs sl ws) ⟨[],[]⟩ 5 (.agg ⟨jn⟩)=some (.agg ⟨gT J⟩)) (h3:fP (gP (w0,ex) l bs sl ws) ⟨[],[]⟩ 5 (.agg ⟨cn⟩)=some (.agg ⟨gT C⟩)) :
  jB aa (gP (w0,ex) l bs sl ws) ⟨118,[.agg ⟨pn⟩,.agg ⟨jn⟩],.val (.agg ⟨cn⟩)⟩:=fun w hF=>by
 refine ⟨[.agg ⟨gT P⟩,.agg ⟨gT J⟩],by simp only [eQ,h1,h2],?_⟩
 have:=Qb (pl P++pl J) w rfl
 rw [show (vL Cu.args (pl P++pl J))=[.agg ⟨gT P⟩,.agg ⟨gT J⟩] by kernel_rfl,show kW (qZ (eO []) (pl P++pl J) Cu.j Cu.res)=.agg ⟨gT (kE P J)⟩ by kernel_rfl] at this
 rw [←hC] at this
 exact this.mono fun e w' ⟨q1,q2⟩=>⟨q2,_,h3,q1⟩
variable {xn:Value}
theorem L9 {k x y:Int} {T:iF} (hT:T=fun i=>FN (159+i) [k,x,y]) (h1:fP (gP (w0,ex) l bs sl ws) ⟨[],[]⟩ 5 xn=some (.agg ⟨[num x,num y]⟩)) (h3:fP (gP (w0,ex) l bs sl ws) ⟨[],[]⟩ 5 (.agg ⟨cn⟩)=some (.agg ⟨gT T⟩)) :
  jB aa (gP (w0,ex) l bs sl ws) ⟨146,[.int .i64 k,xn],.val (.agg ⟨cn⟩)⟩:=fun w hF=>by
 refine ⟨[num k,.agg ⟨[num x,num y]⟩],by simp only [eQ,h1]; rfl,?_⟩
 have:=Qc [k,x,y] w rfl
 rw [show (vL Cv.args [k,x,y])=[num k,.agg ⟨[num x,num y]⟩] by kernel_rfl,show kW (qZ (eO []) [k,x,y] Cv.j Cv.res)=.agg ⟨gT (fun i=>FN (159+i) [k,x,y])⟩ by kernel_rfl] at this
 rw [←hT] at this
 exact this.mono fun e w' ⟨q1,q2⟩=>⟨q2,_,h3,q1⟩
theorem kJ (w:World) (ex:List Nat):iV (w,ex) w:=fun g c hc=>(JS hc).2
theorem YI (o0 o1 o2 x y:Int):nK 1 o0 o1 o2 x y=kE (kY (pg 62 [o0,o1,o2]).l) (fun i=>FN (159+i) [0,x,y]):=by unfold nK Fe; simp only [show ((1:Int)==1)=true from rfl,cond_true]
theorem YJ (o0 o1 o2 x y:Int):nK 2 o0 o1 o2 x y=kE (kY (pg 62 [o0,o1,o2]).l) (fun i=>FN (159+i) [1,x,y]):=by unfold nK Fe; simp only [show ((2:Int)==1)=false from rfl,show ((2:Int)==2)=true from rfl,cond_true,cond_false]
theorem YK (o0 o1 o2 x y:Int):nK 3 o0 o1 o2 x y=kE (kY (pg 62 [o0,o1,o2]).l) (fun i=>FN (159+i) [2,x,y]):=by unfold nK Fe; simp only [show ((3:Int)==1)=false from rfl,show ((3:Int)==2)=false from rfl,show ((3:Int)==3)=true from rfl,cond_true,cond_false]
theorem YH (o0 o1 o2 x y:Int):nK 0 o0 o1 o2 x y=kE (kY (pg 62 [o0,o1,o2]).l) (fun i=>FN (183+i) []):=rfl
theorem YL (o0 o1 o2 x y:Int):nK 4 o0 o1 o2 x y=kE (kY (pg 62 [o0,o1,o2]).l) (kY [x,y,0,0,0,0]):=rfl
theorem YM (o0 o1 o2 x y:Int):nK 5 o0 o1 o2 x y=kE (kY (pg 62 [o0,o1,o2]).l) (kY [0,0,x,y,0,0]):=rfl
theorem YN (o0 o1 o2 x y:Int):nK 6 o0 o1 o2 x y=kE (kY (pg 62 [o0,o1,o2]).l) (kY [0,0,0,0,x,y]):=rfl
def jP (j:JV) (b:Int×Int):iF:=nK j.kind j.o0 j.o1 j.o2 b.1 b.2
theorem YP (s:ByteArray) (pa o0 o1 o2 lo hi we sp ac tq x y:Int) (w:World):Calls aa 117 #[.agg ⟨[.string s,num 0,num pa,num o0,num o1,num o2,num lo,num hi,num we,num sp,num ac,num tq]⟩,.agg ⟨[num x,num y]⟩] w fun e w'=>e=.returned (.agg ⟨gT (nK 0 o0 o1 o2 x y)⟩)∧Below w.heap.size w w':=by
 rw [YH]
 exact Yz (ex:=[]) (kJ w [])
theorem YQ (s:ByteArray) (pa o0 o1 o2 lo hi we sp ac tq x y:Int) (w:World):Calls aa 117 #[.agg ⟨[.string s,num 1,num pa,num o0,num o1,num o2,num lo,num hi,num we,num sp,num ac,num tq]⟩,.agg ⟨[num x,num y]⟩] w fun e w'=>e=.returned (.agg ⟨gT (nK 1 o0 o1 o2 x y)⟩)∧Below w.heap.size w w':=by
 rw [YI]
 obtain ⟨T,hT⟩:∃T:iF,T=fun i=>FN (159+i) [0,x,y]:=⟨_,rfl⟩
 rw [←hT]
 exact YA (ex:=[]) (T:=T) (fun z hz=>by simp only [ag,ae,or_false] at hz; subst hz; exact L9 (k:=0) (x:=x) (y:=y) hT (by kernel_rfl) (by kernel_rfl)) (kJ w [])
theorem YR (s:ByteArray) (pa o0 o1 o2 lo hi we sp ac tq x y:Int) (w:World):Calls aa 117 #[.agg ⟨[.string s,num 2,num pa,num o0,num o1,num o2,num lo,num hi,num we,num sp,num ac,num tq]⟩,.agg ⟨[num x,num y]⟩] w fun e w'=>e=.returned (.agg ⟨gT (nK 2 o0 o1 o2 x y)⟩)∧Below w.heap.size w w':=by
 rw [YJ]
 obtain ⟨T,hT⟩:∃T:iF,T=fun i=>FN (159+i) [1,x,y]:=⟨_,rfl⟩
 rw [←hT]
 exact YB (ex:=[]) (T:=T) (fun z hz=>by simp only [ag,ae,or_false] at hz; subst hz; exact L9 (k:=1) (x:=x) (y:=y) hT (by kernel_rfl) (by kernel_rfl)) (kJ w [])
theorem YS (s:ByteArray) (pa o0 o1 o2 lo hi we sp ac tq x y:Int) (w:World):Calls aa 117 #[.agg ⟨[.string s,num 3,num pa,num o0,num o1,num o2,num lo,num hi,num we,num sp,num ac,num tq]⟩,.agg ⟨[num x,num y]⟩] w fun e w'=>e=.returned (.agg ⟨gT (nK 3 o0 o1 o2 x y)⟩)∧Below w.heap.size w w':=by
 rw [YK]
 obtain ⟨T,hT⟩:∃T:iF,T=fun i=>FN (159+i) [2,x,y]:=⟨_,rfl⟩
 rw [←hT]
 exact YC (ex:=[]) (T:=T) (fun z hz=>by simp only [ag,ae,or_false] at hz; subst hz; exact L9 (k:=2) (x:=x) (y:=y) hT (by kernel_rfl) (by kernel_rfl)) (kJ w [])
theorem YT (s:ByteArray) (pa o0 o1 o2 lo hi we sp ac tq x y:Int) (w:World):Calls aa 117 #[.agg ⟨[.string s,num 4,num pa,num o0,num o1,num o2,num lo,num hi,num we,num sp,num ac,num tq]⟩,.agg ⟨[num x,num y]⟩] w fun e w'=>e=.returned (.agg ⟨gT (nK 4 o0 o1 o2 x y)⟩)∧Below w.heap.size w w':=by
 rw [YL]
 exact YD (ex:=[]) (kJ w [])
theorem YU (s:ByteArray) (pa o0 o1 o2 lo hi we sp ac tq x y:Int) (w:World):Calls aa 117 #[.agg ⟨[.string s,num 5,num pa,num o0,num o1,num o2,num lo,num hi,num we,num sp,num ac,num tq]⟩,.agg ⟨[num x,num y]⟩] w fun e w'=>e=.returned (.agg ⟨gT (nK 5 o0 o1 o2 x y)⟩)∧Below w.heap.size w w':=by
 rw [YM]
 exact YE (ex:=[]) (kJ w [])
theorem YV (s:ByteArray) (pa o0 o1 o2 lo hi we sp ac tq x y:Int) (w:World):Calls aa 117 #[.agg ⟨[.string s,num 6,num pa,num o0,num o1,num o2,num lo,num hi,num we,num sp,num ac,num tq]⟩,.agg ⟨[num x,num y]⟩] w fun e w'=>e=.returned (.agg ⟨gT (nK 6 o0 o1 o2 x y)⟩)∧Below w.heap.size w w':=by
 rw [YN]
 exact YF (ex:=[]) (kJ w [])
theorem YO (s:ByteArray) (kind pa o0 o1 o2 lo hi we sp ac tq x y:Int) (w:World) (h:0≤kind∧kind≤6):Calls aa 117 #[.agg ⟨[.string s,num kind,num pa,num o0,num o1,num o2,num lo,num hi,num we,num sp,num ac,num tq]⟩,.agg ⟨[num x,num y]⟩] w fun e w'=>e=.returned (.agg ⟨gT (nK kind o0 o1 o2 x y)⟩)∧Below w.heap.size w w':=by
 have:kind=0∨kind=1∨kind=2∨kind=3∨kind=4∨kind=5∨kind=6:=by omega
 rcases this with h | h | h | h | h | h | h<;>rw [h]
 ·exact YP s pa o0 o1 o2 lo hi we sp ac tq x y w
 ·exact YQ s pa o0 o1 o2 lo hi we sp ac tq x y w
 ·exact YR s pa o0 o1 o2 lo hi we sp ac tq x y w
 ·exact YS s pa o0 o1 o2 lo hi we sp ac tq x y w
 ·exact YT s pa o0 o1 o2 lo hi we sp ac tq x y w
 ·exact YU s pa o0 o1 o2 lo hi we sp ac tq x y w
 ·exact YV s pa o0 o1 o2 lo hi we sp ac tq x y w
theorem lD {j:JV} {b:Int×Int} {V:iF} {cs vn:List Value} (hV:V=jP j b) (hk:0≤j.kind∧j.kind≤6) (h1:eQ (fP (gP (w0,ex) l bs sl ws) ⟨[],[]⟩ 5) cs=some ((fE j).map num)) (h2:fP (gP (w0,ex) l bs sl ws) ⟨[],[]⟩ 5 xn=some (.agg ⟨[num b.1,num b.2]⟩)) (h3:fP (gP (w0,ex) l bs sl ws) ⟨[],[]⟩ 5 (.agg ⟨vn⟩)=some (.agg ⟨gT V⟩)) :
  sG aa (gP (w0,ex) l bs sl ws) ⟨117,cs,[xn],.agg ⟨vn⟩⟩ :=
 ⟨(fE j).map num,[.agg ⟨[num b.1,num b.2]⟩],_,h1,by simp only [eQ,h2],h3,fun s w _=>by rw [hV]; exact YO s j.kind j.parent j.o0 j.o1 j.o2 j.lo j.hi j.weight j.speed j.iL j.iO b.1 b.2 w hk⟩
def jH:List iF→List JV→List (Int×Int)→List iF
 | acc,j::js,b::bs=>jH (acc++[bif j.parent==-1 then jP j b else kE (acc.getD j.parent.toNat pz) (jP j b)]) js bs
 | acc,_,_=>acc
variable {p:Int}
theorem lG (j:JV) (h:j.parent=p):j.vals=[.string j.name,num j.kind,num p,num j.o0,num j.o1,num j.o2,num j.lo,num j.hi,num j.weight,num j.speed,num j.iL,num j.iO]:=by subst h; rfl
theorem lC (j:JV) (h:j.parent=p):(fE j).map num=[num j.kind,num p,num j.o0,num j.o1,num j.o2,num j.lo,num j.hi,num j.weight,num j.speed,num j.iL,num j.iO]:=by subst h; rfl
def jE (bs:List (Int×Int)):List (List Value):=bs.map fun b=>[num b.1,num b.2]
theorem MR (bs:List (Int×Int)):∀r∈jE bs,r≠[]:=fun r hr e=>by
 obtain ⟨k,_,rfl⟩:=aeZ.1 hr
 cases e
variable {X:dY} {j0:JV} {x0:Int×Int}
theorem Zk (h:jW w ex B0 B1 [j0] mvs) (hX:X.2.1=1) (sX:Sl w X.1 2 (jE [x0])) (xX:∀a,X.1=some a→a.block∉ex) (hv0:fC x0.1 x0.2=true) :
  Calls aa 68 #[.agg ⟨[dJ B0,dJ B1]⟩,dJ X] w (xE (jH [] [j0] [x0]) w):=by
 obtain ⟨bB0,oB0,rB0⟩:=iy (i:=0) (ex:=ex) h.sB (by simp [h.b0]) (show ([j0].map JV.vals)[0]?=some j0.vals from rfl) (aO _) (fun a ha=>(h.xB a ha).1)
 obtain ⟨bX0,oX0,rX0⟩:=iy (i:=0) (ex:=ex) sX (by simp [hX,jE]) (show (jE [x0])[0]?=some [num x0.1,num x0.2] from rfl) (aO _) xX
 have k0:=h.kd 0 j0 rfl
 have p0:=h.pr 0 j0 rfl
 have hp0:j0.parent=-1:=by omega
 obtain ⟨J0,hJ0⟩:∃J,J=jP j0 x0:=⟨_,rfl⟩
 have hl:jH [] [j0] [x0]=[J0]:=by
  simp only [hJ0]
  simp [jH,hp0]
 rw [hl]
 rw [lG j0 hp0] at rB0
 refine Zb (J0:=J0)  h.b0 hX hv0 rB0 rX0 (fun z hz=>?_) (fun z hz=>?_) (kJ w ex)
 ·simp only [ag,ae,or_false] at hz
  rcases hz with rfl
  ·exact qI h
 ·simp only [ag,ae,or_false] at hz
  rcases hz with rfl
  ·exact lD (j:=j0) (b:=x0) hJ0 k0 (by rw [lC j0 hp0]; kernel_rfl) (by kernel_rfl) (by kernel_rfl)
variable {j1:JV} {x1:Int×Int}
theorem Zl (h:jW w ex B0 B1 [j0,j1] mvs) (hX:X.2.1=2) (sX:Sl w X.1 2 (jE [x0,x1])) (xX:∀a,X.1=some a→a.block∉ex) (hv0:fC x0.1 x0.2=true) (hv1:fC x1.1 x1.2=true) :
  Calls aa 68 #[.agg ⟨[dJ B0,dJ B1]⟩,dJ X] w (xE (jH [] [j0,j1] [x0,x1]) w):=by
 obtain ⟨bB0,oB0,rB0⟩:=iy (i:=0) (ex:=ex) h.sB (by simp [h.b0]) (show ([j0,j1].map JV.vals)[0]?=some j0.vals from rfl) (aO _) (fun a ha=>(h.xB a ha).1)
 obtain ⟨bX0,oX0,rX0⟩:=iy (i:=0) (ex:=ex) sX (by simp [hX,jE]) (show (jE [x0,x1])[0]?=some [num x0.1,num x0.2] from rfl) (aO _) xX
 have k0:=h.kd 0 j0 rfl
 have p0:=h.pr 0 j0 rfl
 obtain ⟨bB1,oB1,rB1⟩:=iy (i:=1) (ex:=ex) h.sB (by simp [h.b0]) (show ([j0,j1].map JV.vals)[1]?=some j1.vals from rfl) (aO _) (fun a ha=>(h.xB a ha).1)
 obtain ⟨bX1,oX1,rX1⟩:=iy (i:=1) (ex:=ex) sX (by simp [hX,jE]) (show (jE [x0,x1])[1]?=some [num x1.1,num x1.2] from rfl) (aO _) xX
 have k1:=h.kd 1 j1 rfl
 have p1:=h.pr 1 j1 rfl
 have hc:(j0.parent=-1∧j1.parent=-1)∨(j0.parent=-1∧j1.parent=0):=by omega
 rcases hc with ⟨hp0,hp1⟩ | ⟨hp0,hp1⟩
 ·obtain ⟨J0,hJ0⟩:∃J,J=jP j0 x0:=⟨_,rfl⟩
  obtain ⟨J1,hJ1⟩:∃J,J=jP j1 x1:=⟨_,rfl⟩
  have hl:jH [] [j0,j1] [x0,x1]=[J0,J1]:=by
   simp only [hJ0,hJ1]
   simp [jH,hp0,hp1]
  rw [hl]
  rw [lG j0 hp0] at rB0
  rw [lG j1 hp1] at rB1
  refine Zc (J0:=J0) (J1:=J1)  h.b0 hX hv0 hv1 rB0 rB1 rX0 rX1 (fun z hz=>?_) (fun z hz=>?_) (kJ w ex)
  ·simp only [ag,ae,or_false] at hz
   rcases hz with rfl
   ·exact qI h
  ·simp only [ag,ae,or_false] at hz
   rcases hz with rfl | rfl
   ·exact lD (j:=j0) (b:=x0) hJ0 k0 (by rw [lC j0 hp0]; kernel_rfl) (by kernel_rfl) (by kernel_rfl)
   ·exact lD (j:=j1) (b:=x1) hJ1 k1 (by rw [lC j1 hp1]; kernel_rfl) (by kernel_rfl) (by kernel_rfl)
 ·obtain ⟨J0,hJ0⟩:∃J,J=jP j0 x0:=⟨_,rfl⟩
  obtain ⟨J1,hJ1⟩:∃J,J=jP j1 x1:=⟨_,rfl⟩
  obtain ⟨C1,hC1⟩:∃C,C=kE J0 J1:=⟨_,rfl⟩
  have hl:jH [] [j0,j1] [x0,x1]=[J0,C1]:=by
   simp only [hC1,hJ0,hJ1]
   simp [jH,hp0,hp1]
  rw [hl]
  rw [lG j0 hp0] at rB0
  rw [lG j1 hp1] at rB1
  refine Zg (J0:=J0) (J1:=J1) (C1:=C1) h.b0 hX hv0 hv1 rB0 rB1 rX0 rX1 (fun z hz=>?_) (fun z hz=>?_) (kJ w ex)
  ·simp only [ag,ae,or_false] at hz
   rcases hz with rfl | rfl
   ·exact qI h
   ·exact afu (P:=J0) (J:=J1) hC1 (by kernel_rfl) (by kernel_rfl) (by kernel_rfl)
  ·simp only [ag,ae,or_false] at hz
   rcases hz with rfl | rfl
   ·exact lD (j:=j0) (b:=x0) hJ0 k0 (by rw [lC j0 hp0]; kernel_rfl) (by kernel_rfl) (by kernel_rfl)
   ·exact lD (j:=j1) (b:=x1) hJ1 k1 (by rw [lC j1 hp1]; kernel_rfl) (by kernel_rfl) (by kernel_rfl)
theorem Zm {j2:JV} {x2:Int×Int} (h:jW w ex B0 B1 [j0,j1,j2] mvs) (hX:X.2.1=3) (sX:Sl w X.1 2 (jE [x0,x1,x2])) (xX:∀a,X.1=some a→a.block∉ex) (hv0:fC x0.1 x0.2=true) (hv1:fC x1.1 x1.2=true) (hv2:fC x2.1 x2.2=true) :
  Calls aa 68 #[.agg ⟨[dJ B0,dJ B1]⟩,dJ X] w (xE (jH [] [j0,j1,j2] [x0,x1,x2]) w):=by
 obtain ⟨bB0,oB0,rB0⟩:=iy (i:=0) (ex:=ex) h.sB (by simp [h.b0]) (show ([j0,j1,j2].map JV.vals)[0]?=some j0.vals from rfl) (aO _) (fun a ha=>(h.xB a ha).1)
 obtain ⟨bX0,oX0,rX0⟩:=iy (i:=0) (ex:=ex) sX (by simp [hX,jE]) (show (jE [x0,x1,x2])[0]?=some [num x0.1,num x0.2] from rfl) (aO _) xX
 have k0:=h.kd 0 j0 rfl
 have p0:=h.pr 0 j0 rfl
 obtain ⟨bB1,oB1,rB1⟩:=iy (i:=1) (ex:=ex) h.sB (by simp [h.b0]) (show ([j0,j1,j2].map JV.vals)[1]?=some j1.vals from rfl) (aO _) (fun a ha=>(h.xB a ha).1)
 obtain ⟨bX1,oX1,rX1⟩:=iy (i:=1) (ex:=ex) sX (by simp [hX,jE]) (show (jE [x0,x1,x2])[1]?=some [num x1.1,num x1.2] from rfl) (aO _) xX
 have k1:=h.kd 1 j1 rfl
 have p1:=h.pr 1 j1 rfl
 obtain ⟨bB2,oB2,rB2⟩:=iy (i:=2) (ex:=ex) h.sB (by simp [h.b0]) (show ([j0,j1,j2].map JV.vals)[2]?=some j2.vals from rfl) (aO _) (fun a ha=>(h.xB a ha).1)
 obtain ⟨bX2,oX2,rX2⟩:=iy (i:=2) (ex:=ex) sX (by simp [hX,jE]) (show (jE [x0,x1,x2])[2]?=some [num x2.1,num x2.2] from rfl) (aO _) xX
 have k2:=h.kd 2 j2 rfl
 have p2:=h.pr 2 j2 rfl
 have hc:(j0.parent=-1∧j1.parent=-1∧j2.parent=-1)∨(j0.parent=-1∧j1.parent=-1∧j2.parent=0)∨(j0.parent=-1∧j1.parent=-1∧j2.parent=1)∨(j0.parent=-1∧j1.parent=0∧j2.parent=-1)∨(j0.parent=-1∧j1.parent=0∧j2.parent=0)∨(j0.parent=-1∧j1.parent=0∧j2.parent=1):=by omega
 rcases hc with ⟨hp0,hp1,hp2⟩ | ⟨hp0,hp1,hp2⟩ | ⟨hp0,hp1,hp2⟩ | ⟨hp0,hp1,hp2⟩ | ⟨hp0,hp1,hp2⟩ | ⟨hp0,hp1,hp2⟩
 ·obtain ⟨J0,hJ0⟩:∃J,J=jP j0 x0:=⟨_,rfl⟩
  obtain ⟨J1,hJ1⟩:∃J,J=jP j1 x1:=⟨_,rfl⟩
  obtain ⟨J2,hJ2⟩:∃J,J=jP j2 x2:=⟨_,rfl⟩
  have hl:jH [] [j0,j1,j2] [x0,x1,x2]=[J0,J1,J2]:=by
   simp only [hJ0,hJ1,hJ2]
   simp [jH,hp0,hp1,hp2]
  rw [hl]
  rw [lG j0 hp0] at rB0
  rw [lG j1 hp1] at rB1
  rw [lG j2 hp2] at rB2
  refine Zd (J0:=J0) (J1:=J1) (J2:=J2)  h.b0 hX hv0 hv1 hv2 rB0 rB1 rB2 rX0 rX1 rX2 (fun z hz=>?_) (fun z hz=>?_) (kJ w ex)
  ·simp only [ag,ae,or_false] at hz
   rcases hz with rfl
   ·exact qI h
  ·simp only [ag,ae,or_false] at hz
   rcases hz with rfl | rfl | rfl
   ·exact lD (j:=j0) (b:=x0) hJ0 k0 (by rw [lC j0 hp0]; kernel_rfl) (by kernel_rfl) (by kernel_rfl)
   ·exact lD (j:=j1) (b:=x1) hJ1 k1 (by rw [lC j1 hp1]; kernel_rfl) (by kernel_rfl) (by kernel_rfl)
   ·exact lD (j:=j2) (b:=x2) hJ2 k2 (by rw [lC j2 hp2]; kernel_rfl) (by kernel_rfl) (by kernel_rfl)
 ·obtain ⟨J0,hJ0⟩:∃J,J=jP j0 x0:=⟨_,rfl⟩
  obtain ⟨J1,hJ1⟩:∃J,J=jP j1 x1:=⟨_,rfl⟩
  obtain ⟨J2,hJ2⟩:∃J,J=jP j2 x2:=⟨_,rfl⟩
  obtain ⟨C2,hC2⟩:∃C,C=kE J0 J2:=⟨_,rfl⟩
  have hl:jH [] [j0,j1,j2] [x0,x1,x2]=[J0,J1,C2]:=by
   simp only [hC2,hJ0,hJ1,hJ2]
   simp [jH,hp0,hp1,hp2]
  rw [hl]
  rw [lG j0 hp0] at rB0
  rw [lG j1 hp1] at rB1
  rw [lG j2 hp2] at rB2
  refine Ze (J0:=J0) (J1:=J1) (J2:=J2) (C2:=C2) h.b0 hX hv0 hv1 hv2 rB0 rB1 rB2 rX0 rX1 rX2 (fun z hz=>?_) (fun z hz=>?_) (kJ w ex)
  ·simp only [ag,ae,or_false] at hz
   rcases hz with rfl | rfl
   ·exact qI h
   ·exact afu (P:=J0) (J:=J2) hC2 (by kernel_rfl) (by kernel_rfl) (by kernel_rfl)
  ·simp only [ag,ae,or_false] at hz
   rcases hz with rfl | rfl | rfl
   ·exact lD (j:=j0) (b:=x0) hJ0 k0 (by rw [lC j0 hp0]; kernel_rfl) (by kernel_rfl) (by kernel_rfl)
   ·exact lD (j:=j1) (b:=x1) hJ1 k1 (by rw [lC j1 hp1]; kernel_rfl) (by kernel_rfl) (by kernel_rfl)
   ·exact lD (j:=j2) (b:=x2) hJ2 k2 (by rw [lC j2 hp2]; kernel_rfl) (by kernel_rfl) (by kernel_rfl)
 ·obtain ⟨J0,hJ0⟩:∃J,J=jP j0 x0:=⟨_,rfl⟩
  obtain ⟨J1,hJ1⟩:∃J,J=jP j1 x1:=⟨_,rfl⟩
  obtain ⟨J2,hJ2⟩:∃J,J=jP j2 x2:=⟨_,rfl⟩
  obtain ⟨C2,hC2⟩:∃C,C=kE J1 J2:=⟨_,rfl⟩
  have hl:jH [] [j0,j1,j2] [x0,x1,x2]=[J0,J1,C2]:=by
   simp only [hC2,hJ0,hJ1,hJ2]
   simp [jH,hp0,hp1,hp2]
  rw [hl]
  rw [lG j0 hp0] at rB0
  rw [lG j1 hp1] at rB1
  rw [lG j2 hp2] at rB2
  refine Zf (J0:=J0) (J1:=J1) (J2:=J2) (C2:=C2) h.b0 hX hv0 hv1 hv2 rB0 rB1 rB2 rX0 rX1 rX2 (fun z hz=>?_) (fun z hz=>?_) (kJ w ex)
  ·simp only [ag,ae,or_false] at hz
   rcases hz with rfl | rfl
   ·exact qI h
   ·exact afu (P:=J1) (J:=J2) hC2 (by kernel_rfl) (by kernel_rfl) (by kernel_rfl)
  ·simp only [ag,ae,or_false] at hz
   rcases hz with rfl | rfl | rfl
   ·exact lD (j:=j0) (b:=x0) hJ0 k0 (by rw [lC j0 hp0]; kernel_rfl) (by kernel_rfl) (by kernel_rfl)
   ·exact lD (j:=j1) (b:=x1) hJ1 k1 (by rw [lC j1 hp1]; kernel_rfl) (by kernel_rfl) (by kernel_rfl)
   ·exact lD (j:=j2) (b:=x2) hJ2 k2 (by rw [lC j2 hp2]; kernel_rfl) (by kernel_rfl) (by kernel_rfl)
 ·obtain ⟨J0,hJ0⟩:∃J,J=jP j0 x0:=⟨_,rfl⟩
  obtain ⟨J1,hJ1⟩:∃J,J=jP j1 x1:=⟨_,rfl⟩
  obtain ⟨J2,hJ2⟩:∃J,J=jP j2 x2:=⟨_,rfl⟩
  obtain ⟨C1,hC1⟩:∃C,C=kE J0 J1:=⟨_,rfl⟩
  have hl:jH [] [j0,j1,j2] [x0,x1,x2]=[J0,C1,J2]:=by
   simp only [hC1,hJ0,hJ1,hJ2]
   simp [jH,hp0,hp1,hp2]
  rw [hl]
  rw [lG j0 hp0] at rB0
  rw [lG j1 hp1] at rB1
  rw [lG j2 hp2] at rB2
  refine Zh (J0:=J0) (J1:=J1) (J2:=J2) (C1:=C1) h.b0 hX hv0 hv1 hv2 rB0 rB1 rB2 rX0 rX1 rX2 (fun z hz=>?_) (fun z hz=>?_) (kJ w ex)
  ·simp only [ag,ae,or_false] at hz
   rcases hz with rfl | rfl
   ·exact qI h
   ·exact afu (P:=J0) (J:=J1) hC1 (by kernel_rfl) (by kernel_rfl) (by kernel_rfl)
  ·simp only [ag,ae,or_false] at hz
   rcases hz with rfl | rfl | rfl
   ·exact lD (j:=j0) (b:=x0) hJ0 k0 (by rw [lC j0 hp0]; kernel_rfl) (by kernel_rfl) (by kernel_rfl)
   ·exact lD (j:=j1) (b:=x1) hJ1 k1 (by rw [lC j1 hp1]; kernel_rfl) (by kernel_rfl) (by kernel_rfl)
   ·exact lD (j:=j2) (b:=x2) hJ2 k2 (by rw [lC j2 hp2]; kernel_rfl) (by kernel_rfl) (by kernel_rfl)
 ·obtain ⟨J0,hJ0⟩:∃J,J=jP j0 x0:=⟨_,rfl⟩
  obtain ⟨J1,hJ1⟩:∃J,J=jP j1 x1:=⟨_,rfl⟩
  obtain ⟨J2,hJ2⟩:∃J,J=jP j2 x2:=⟨_,rfl⟩
  obtain ⟨C1,hC1⟩:∃C,C=kE J0 J1:=⟨_,rfl⟩
  obtain ⟨C2,hC2⟩:∃C,C=kE J0 J2:=⟨_,rfl⟩
  have hl:jH [] [j0,j1,j2] [x0,x1,x2]=[J0,C1,C2]:=by
   simp only [hC1,hC2,hJ0,hJ1,hJ2]
   simp [jH,hp0,hp1,hp2]
  rw [hl]
  rw [lG j0 hp0] at rB0
  rw [lG j1 hp1] at rB1
  rw [lG j2 hp2] at rB2
  refine Zi (J0:=J0) (J1:=J1) (J2:=J2) (C1:=C1) (C2:=C2) h.b0 hX hv0 hv1 hv2 rB0 rB1 rB2 rX0 rX1 rX2 (fun z hz=>?_) (fun z hz=>?_) (kJ w ex)
  ·simp only [ag,ae,or_false] at hz
   rcases hz with rfl | rfl | rfl
   ·exact qI h
   ·exact afu (P:=J0) (J:=J1) hC1 (by kernel_rfl) (by kernel_rfl) (by kernel_rfl)
   ·exact afu (P:=J0) (J:=J2) hC2 (by kernel_rfl) (by kernel_rfl) (by kernel_rfl)
  ·simp only [ag,ae,or_false] at hz
   rcases hz with rfl | rfl | rfl
   ·exact lD (j:=j0) (b:=x0) hJ0 k0 (by rw [lC j0 hp0]; kernel_rfl) (by kernel_rfl) (by kernel_rfl)
   ·exact lD (j:=j1) (b:=x1) hJ1 k1 (by rw [lC j1 hp1]; kernel_rfl) (by kernel_rfl) (by kernel_rfl)
   ·exact lD (j:=j2) (b:=x2) hJ2 k2 (by rw [lC j2 hp2]; kernel_rfl) (by kernel_rfl) (by kernel_rfl)
 ·obtain ⟨J0,hJ0⟩:∃J,J=jP j0 x0:=⟨_,rfl⟩
  obtain ⟨J1,hJ1⟩:∃J,J=jP j1 x1:=⟨_,rfl⟩
  obtain ⟨J2,hJ2⟩:∃J,J=jP j2 x2:=⟨_,rfl⟩
  obtain ⟨C1,hC1⟩:∃C,C=kE J0 J1:=⟨_,rfl⟩
  obtain ⟨C2,hC2⟩:∃C,C=kE C1 J2:=⟨_,rfl⟩
  have hl:jH [] [j0,j1,j2] [x0,x1,x2]=[J0,C1,C2]:=by
   simp only [hC1,hC2,hJ0,hJ1,hJ2]
   simp [jH,hp0,hp1,hp2]
  rw [hl]
  rw [lG j0 hp0] at rB0
  rw [lG j1 hp1] at rB1
  rw [lG j2 hp2] at rB2
  refine Zj (J0:=J0) (J1:=J1) (J2:=J2) (C1:=C1) (C2:=C2) h.b0 hX hv0 hv1 hv2 rB0 rB1 rB2 rX0 rX1 rX2 (fun z hz=>?_) (fun z hz=>?_) (kJ w ex)
  ·simp only [ag,ae,or_false] at hz
   rcases hz with rfl | rfl | rfl
   ·exact qI h
   ·exact afu (P:=J0) (J:=J1) hC1 (by kernel_rfl) (by kernel_rfl) (by kernel_rfl)
   ·exact afu (P:=C1) (J:=J2) hC2 (by kernel_rfl) (by kernel_rfl) (by kernel_rfl)
  ·simp only [ag,ae,or_false] at hz
   rcases hz with rfl | rfl | rfl
   ·exact lD (j:=j0) (b:=x0) hJ0 k0 (by rw [lC j0 hp0]; kernel_rfl) (by kernel_rfl) (by kernel_rfl)
   ·exact lD (j:=j1) (b:=x1) hJ1 k1 (by rw [lC j1 hp1]; kernel_rfl) (by kernel_rfl) (by kernel_rfl)
   ·exact lD (j:=j2) (b:=x2) hJ2 k2 (by rw [lC j2 hp2]; kernel_rfl) (by kernel_rfl) (by kernel_rfl)
end Go.Proofs
end
section
namespace Go.Proofs
open Go.Sm Go.RowKit En
theorem M3 (js:List JV):∀(n:Nat) (link:Int) (ks:List Int),ks.length≤(jd js n link ks).length
 | 0,_,_=>au _
 | n+1,link,ks=>by
  unfold jd
  split
  ·exact au _
  ·have:=M3 js n ((js.getD link.toNat ⟨⟨#[]⟩,0,-1,0,0,0,0,0,0,0,0,0⟩).parent) (link::ks)
   simp only [dB] at this
   omega
theorem M4 {js:List JV} (hp:∀(i:Nat) (j:JV),js[i]?=some j→-1≤j.parent∧j.parent<i):∀(n:Nat) (link:Int) (ks:List Int),-1≤link→link<js.length→(jd js n link ks).length≤(link+1).toNat+ks.length
 | 0,_,_,_,_=>by simp [jd]
 | n+1,link,ks,h0,h1=>by
  unfold jd
  split
  ·omega
  ·obtain ⟨j,hj⟩:∃j,js[link.toNat]?=some j:=⟨_,ah (by omega)⟩
   obtain ⟨q0,q1⟩:=hp _ j hj
   have e:(js.getD link.toNat ⟨⟨#[]⟩,0,-1,0,0,0,0,0,0,0,0,0⟩).parent=j.parent:=by rw [wO hj]
   rw [e]
   have:=M4 hp n j.parent (link::ks) q0 (by omega)
   simp only [dB] at this
   omega
variable {link:Int}
theorem Xe (js:List JV) (h0:0≤link):1≤(jd js 4 link []).length:=by
 unfold jd
 rw [if_neg (by omega)]
 have:=M3 js 3 ((js.getD link.toNat ⟨⟨#[]⟩,0,-1,0,0,0,0,0,0,0,0,0⟩).parent) [link]
 simpa using this
variable {w w':World}
theorem xG (h:dO w [] w'):Below w.heap.size w w':=⟨h.os,h.tape,h.output,h.size,fun g hg=>h.frame g hg (by simp)⟩
theorem uo (h:Below w.heap.size w w'):dO w [] w':=⟨h.os,h.tape,h.output,h.size,fun g hg _=>h.block g hg⟩
variable {ex:List Nat} {B0 B1:dY} {js:List JV} {mvs:List MV}
theorem Im {w0:World} {l:List Int} {bs:List Bool} {sl:List dY} {ws:List jC} {c:Nat} {nd:Value} {cs:List Value} {ks:List Int} (h:jW w0 ex B0 B1 js mvs) (h0:0≤link) (h1:link<js.length) (hk:jd js 4 link []=ks) (hc:ks.length=c) (hp:1≤c)
  (e1:fP (gP (w0,ex) l bs (B0::B1::sl) ws) ⟨[],[]⟩ 5 nd=some (num link)) (e2:eQ (fP (gP (w0,ex) l bs (B0::B1::sl) ws) ⟨[],[]⟩ 4) cs=some (ks.map num)) :
  jB aa (gP (w0,ex) l bs (B0::B1::sl) ws) ⟨102,[.agg ⟨[dM 0,dM 1]⟩,nd],.row false c c (dQ cs 3)⟩:=fun w hF=>by
 have h':=h.fz hF
 refine ⟨[.agg ⟨[dJ B0,dJ B1]⟩,num link],?_,?_⟩
 ·have:fP (gP (w0,ex) l bs (B0::B1::sl) ws) ⟨[],[]⟩ 5 (.agg ⟨[dM 0,dM 1]⟩)=some (.agg ⟨[dJ B0,dJ B1]⟩):=by kernel_rfl
  simp only [eQ,this,e1]
 ·refine (Xf (w:=w) (link:=link) h'.n.2 h'.b0 h'.sB h'.pr (by omega) h1).mono fun e w' hq=>?_
  obtain ⟨g,rfl,hk2,hg⟩:=hq
  rw [hk] at hg ⊢
  have hne:ks≠[]:=fun e=>by rw [e] at hc; simp at hc; omega
  obtain ⟨g1,g2⟩:=hg hne
  refine ⟨xG hk2,ks.map num,g,e2,g1,(aB.1 g2).1,?_,g2⟩
  match ks,hne,hc with
  | k::ks,_,hc=>subst hc; rfl
theorem Xg (h:jW w ex B0 B1 js mvs) (h0:0≤link) (h1:link<js.length):Calls aa 73 #[.agg ⟨[dJ B0,dJ B1]⟩,num link] w (vC w (jd js 4 link [])):=by
 have hn:=h.n
 have q1:=Xe js h0
 have q2:=M4 h.pr 4 link [] (by omega) h1
 simp only [aeT,Nat.add_zero] at q2
 generalize hk:jd js 4 link []=ks at q1 q2
 match ks,q1,q2,hk with
 | [k0],_,_,hk =>
  refine (Xb (w0:=w) (ex:=ex) (B0:=B0) (B1:=B1) (n:=(js.length:Nat)) (k0:=k0) (by rw [h.b0]) (by simp; omega) (by simp; omega) (fun z hz=>?_) (kJ w ex)).mono fun e w' hq=>?_
  ·simp only [ag,ae,or_false] at hz
   rcases hz with rfl | rfl
   ·exact qI h
   ·exact Im h h0 h1 hk rfl (by decide) (by kernel_rfl) (by kernel_rfl)
  ·obtain ⟨hb,gl,l1,l2,rfl,l4⟩:=hq
   exact ⟨gl,rfl,uo hb,fun _=>⟨l1,l4⟩⟩
 | [k0,k1],_,_,hk =>
  refine (Xc (w0:=w) (ex:=ex) (B0:=B0) (B1:=B1) (n:=(js.length:Nat)) (k0:=k0) (k1:=k1) (by rw [h.b0]) (by simp; omega) (by simp; omega) (fun z hz=>?_) (kJ w ex)).mono fun e w' hq=>?_
  ·simp only [ag,ae,or_false] at hz
   rcases hz with rfl | rfl
   ·exact qI h
   ·exact Im h h0 h1 hk rfl (by decide) (by kernel_rfl) (by kernel_rfl)
  ·obtain ⟨hb,gl,l1,l2,rfl,l4⟩:=hq
   exact ⟨gl,rfl,uo hb,fun _=>⟨l1,l4⟩⟩
 | [k0,k1,k2],_,_,hk =>
  refine (Xd (w0:=w) (ex:=ex) (B0:=B0) (B1:=B1) (n:=(js.length:Nat)) (k0:=k0) (k1:=k1) (k2:=k2) (by rw [h.b0]) (by simp; omega) (by simp; omega) (fun z hz=>?_) (kJ w ex)).mono fun e w' hq=>?_
  ·simp only [ag,ae,or_false] at hz
   rcases hz with rfl | rfl
   ·exact qI h
   ·exact Im h h0 h1 hk rfl (by decide) (by kernel_rfl) (by kernel_rfl)
  ·obtain ⟨hb,gl,l1,l2,rfl,l4⟩:=hq
   exact ⟨gl,rfl,uo hb,fun _=>⟨l1,l4⟩⟩
 | [],q1,_,_=>exact absurd q1 (by simp)
 | _::_::_::_::_,_,q2,_=>exfalso; simp only [dB] at q2; omega
theorem EY:∀(acc:List iF) (js:List JV) (bs:List (Int×Int)),bs.length=js.length→(jH acc js bs).length=acc.length+js.length
 | acc,[],[],_=>by simp [jH]
 | acc,j::js,b::bs,h=>by
  unfold jH
  rw [EY _ js bs (by simpa using h)]
  simp; omega
 | _,[],_::_,h=>by simp at h
 | _,_::_,[],h=>by simp at h
variable {X:dY} {bs:List (Int×Int)}
theorem Zn (h:jW w ex B0 B1 js mvs) (hl:bs.length=js.length) (hX:X.2.1=bs.length) (sX:Sl w X.1 2 (jE bs)) (xX:∀a,X.1=some a→a.block∉ex) (hv:∀b∈bs,fC b.1 b.2=true) :
  Calls aa 68 #[.agg ⟨[dJ B0,dJ B1]⟩,dJ X] w (xE (jH [] js bs) w):=by
 have hn:=h.n
 match js,bs,h,hl,hX,sX,hv,hn with
 | [j0],[x0],h,_,hX,sX,hv,_=>exact Zk h hX sX xX (hv x0 (by simp))
 | [j0,j1],[x0,x1],h,_,hX,sX,hv,_=>exact Zl h hX sX xX (hv x0 (by simp)) (hv x1 (by simp))
 | [j0,j1,j2],[x0,x1,x2],h,_,hX,sX,hv,_=>exact Zm h hX sX xX (hv x0 (by simp)) (hv x1 (by simp)) (hv x2 (by simp))
 | [],_,_,_,_,_,_,hn=>exact absurd hn.1 (by simp)
 | _::_::_::_::_,_,_,_,_,_,_,hn=>exact absurd hn.2 (by simp)
 | [_],[],_,hl,_,_,_,_ | [_],_::_::_,_,hl,_,_,_,_ | [_,_],[],_,hl,_,_,_,_ | [_,_],[_],_,hl,_,_,_,_ | [_,_],_::_::_::_,_,hl,_,_,_,_ | [_,_,_],[],_,hl,_,_,_,_ | [_,_,_],[_],_,hl,_,_,_,_ | [_,_,_],[_,_],_,hl,_,_,_,_ | [_,_,_],_::_::_::_::_,_,hl,_,_,_,_=>exact absurd hl (by simp)
theorem Z7 {nc:Nat} {f:Bool} (h:jW w [nc] B0 B1 js mvs) (hl:bs.length=js.length) (hX:X.2.1=bs.length) (sX:Sl w X.1 2 (jE bs)) (xX:∀a,X.1=some a→a.block∉[nc]) (hv:∀b∈bs,fC b.1 b.2=true) (hf:w.heap[nc]?=some (.cells #[.bool f] 88 (0,0))) :
  Calls aa 41 #[dK nc,.agg ⟨[dJ B0,dJ B1]⟩,dJ X] w (Ca w nc B0 B1 js (jH [] js bs) mvs f):=by
 have hn:=h.n
 have hlk:∀w':World,Mv w nc w'→Calls aa 68 #[.agg ⟨[dJ B0,dJ B1]⟩,dJ X] w' (xE (jH [] js bs) w'):=fun w' hF=>Zn (h.fz hF) hl hX (l8 sX hF (MR _) fun a ha _=>xX a ha) xX hv
 have hch:∀(mv:MV),mv∈mvs→∀w':World,Mv w nc w'→Calls aa 73 #[.agg ⟨[dJ B0,dJ B1]⟩,num mv.link] w' (vC w' (jd js 4 mv.link [])):=fun mv hm w' hF=>by
  obtain ⟨i,hi⟩:=cZ hm
  obtain ⟨⟨q0,q1⟩,_⟩:=h.ms i mv hi
  exact Xg (h.fz hF) q0 q1
 have hPl:=EY [] js bs hl
 simp only [aeT,Nat.zero_add] at hPl
 generalize jH [] js bs=Ps at hlk hPl
 have xB:∀a,B0.1=some a→a.block≠nc∧a.block<w.heap.size:=fun a ha=>⟨by simpa using (h.xB a ha).1,(h.xB a ha).2⟩
 have xM:∀a,B1.1=some a→mvs≠[]→a.block≠nc∧a.block<w.heap.size:=fun a ha h0=>⟨by simpa using (h.xM a ha h0).1,(h.xM a ha h0).2⟩
 match js,Ps,h,hPl,hlk,hch,hn with
 | [j0],[P0],h,_,hlk,hch,_=>exact agQ h.b0 h.b1 h.sB h.sM xB xM h.pr h.ms h.m hch hlk hf
 | [j0,j1],[P0,P1],h,_,hlk,hch,_=>exact agR h.b0 h.b1 h.sB h.sM xB xM h.pr h.ms h.m hch hlk hf
 | [j0,j1,j2],[P0,P1,P2],h,_,hlk,hch,_=>exact Z6 h.b0 h.b1 h.sB h.sM xB xM h.pr h.ms h.m hch hlk hf
 | [],_,_,_,_,_,hn=>exact absurd hn.1 (by simp)
 | _::_::_::_::_,_,_,_,_,_,hn=>exact absurd hn.2 (by simp)
 | [_],[],_,hl,_,_,_ | [_],_::_::_,_,hl,_,_,_ | [_,_],[],_,hl,_,_,_ | [_,_],[_],_,hl,_,_,_ | [_,_],_::_::_::_,_,hl,_,_,_ | [_,_,_],[],_,hl,_,_,_ | [_,_,_],[_],_,hl,_,_,_ | [_,_,_],[_,_],_,hl,_,_,_ | [_,_,_],_::_::_::_::_,_,hl,_,_,_=>exact absurd hl (by simp)
variable {a D b:Int}
theorem EA (hD:0<D) (h:b*D≤a):b≤a.fdiv D:=by
 rw [amD _ (by omega)]
 exact (Int.le_ediv_iff_mul_le hD).2 h
theorem AL (hD:0<D) (h:a<(b+1)*D):a.fdiv D≤b:=by
 rw [amD _ (by omega)]
 have:=(Int.ediv_lt_iff_lt_mul hD).2 h
 omega
theorem acp {p q d i:Int} (hp:-4194304≤p∧p≤4194304) (hq:-4194304≤q∧q≤4194304) (hd:0≤d∧d≤20) (hi:0≤i∧i<2^d.toNat) :
  min p q≤pM p q d i∧pM p q d i≤pK p q d i∧pK p q d i≤max p q:=by
 obtain ⟨k,rfl⟩:∃k:Nat,d=k:=⟨d.toNat,by omega⟩
 have hk:k≤20:=by omega
 rw [Int.toNat_natCast] at hi
 have e64:min (amJ (k:Int)) 64=k:=by omega
 generalize hD:(2:Int)^k=D at hi
 have hD0:0<D:=by rw [←hD]; exact Int.pow_pos (by decide)
 have hD1:D≤1048576:=by
  rw [←hD]
  have:(2:Nat)^k≤2^20:=Nat.pow_le_pow_right (by decide) hk
  have h2:((2^k:Nat):Int)≤((2^20:Nat):Int):=by exact_mod_cast this
  simpa using h2
 obtain ⟨i0,i1⟩:=hi
 have ew:bg.wrap (q - p)=q - p:=dz _ (by omega)
 have ei:bg.wrap (i+1)=i+1:=dz _ (by omega)
 obtain ⟨x,hx⟩:∃x,x=q - p:=⟨_,rfl⟩
 have hxb:-8388608≤x∧x≤8388608:=by omega
 have b1:∀t:Int,0≤t→t≤1048576→-8796093022208≤t*x∧t*x≤8796093022208:=fun t h0 h1=>by
  constructor
  ·have:=amG hxb.1 h0
   omega
  ·have:=amG hxb.2 h0
   omega
 have hA:Bq p q i=i*x:=by
  unfold Bq; rw [ew,←hx]; exact dz _ (by have:=b1 i i0 (by omega); omega)
 have hB:Br p q i=(i+1)*x:=by
  unfold Br; rw [ew,ei,←hx]; exact dz _ (by have:=b1 (i+1) (by omega) (by omega); omega)
 have bA:=b1 i i0 (by omega)
 have bB:=b1 (i+1) (by omega) (by omega)
 have bD:=b1 D (by omega) hD1
 unfold pM pK
 rw [hA,hB]
 unfold LK
 rw [e64,hD]
 have eB:(i+1)*x=i*x+x:=by rw [amF,amM]
 rcases Int.le_total 0 x with h0 | h0
 ·have a1:i*x≤(i+1)*x:=by omega
  have a2:(i+1)*x≤D*x:=Int.mul_le_mul_of_nonneg_right (by omega) h0
  have a3:0≤i*x:=ajm i0 h0
  rw [if_neg (by omega)]
  have em:(if i*x<(i+1)*x then (i+1)*x else i*x)=(i+1)*x:=by split<;>omega
  rw [em,dz (-((i+1)*x)) (by omega)]
  have f1:0≤(i*x).fdiv D:=EA hD0 (by omega)
  have f2:(i*x).fdiv D≤x:=AL hD0 (by rw [amF,Int.mul_comm x D]; omega)
  have f3:-x≤(-((i+1)*x)).fdiv D:=EA hD0 (by rw [ajn,Int.mul_comm x D]; omega)
  have f4:(-((i+1)*x)).fdiv D≤-((i*x).fdiv D):=by
   refine AL hD0 ?_
   have g1:=amD (i*x) (show 0≤D by omega)
   have g2:(i*x)/D*D≤i*x:=Int.ediv_mul_le _ (by omega)
   rw [g1]
   generalize i*x/D=t at g2 ⊢
   rw [amF (-t),ajn]
   omega
  have f5:(-((i+1)*x)).fdiv D≤0:=AL hD0 (by omega)
  rw [dz _ (by omega),dz _ (by omega)]
  omega
 ·have a1:(i+1)*x≤i*x:=by omega
  have a2:D*x≤(i+1)*x:=Int.mul_le_mul_of_nonpos_right (by omega) h0
  have a3:i*x≤0:=Int.mul_nonpos_of_nonneg_of_nonpos i0 h0
  have em:(if (i+1)*x<i*x then (i+1)*x else i*x)=(i+1)*x:=by split<;>omega
  rw [em,if_neg (by omega),dz (-(i*x)) (by omega)]
  have f1:((i+1)*x).fdiv D≤0:=AL hD0 (by omega)
  have f2:x≤((i+1)*x).fdiv D:=EA hD0 (by rw [Int.mul_comm x D]; omega)
  have f3:0≤(-(i*x)).fdiv D:=EA hD0 (by omega)
  have f4:(-(i*x)).fdiv D≤-x:=AL hD0 (by rw [amF,ajn,Int.mul_comm x D]; omega)
  have f6:(-(i*x)).fdiv D≤-(((i+1)*x).fdiv D):=by
   refine AL hD0 ?_
   have g1:=amD ((i+1)*x) (show 0≤D by omega)
   have g2:((i+1)*x)/D*D≤(i+1)*x:=Int.ediv_mul_le _ (by omega)
   rw [g1]
   generalize (i+1)*x/D=t at g2 ⊢
   rw [amF (-t),ajn]
   omega
  rw [dz _ (by omega),dz _ (by omega)]
  omega
def nX:List Int→List Int→Int→Int→List (Int×Int)
 | p::ps,q::qs,d,i=>(pM p q d i,pK p q d i)::nX ps qs d i
 | _,_,_,_=>[]
end Go.Proofs
end
section
namespace Go.Proofs
open Go.Sm Go.RowKit En
def lI (w0:World) (ex:List Nat) (b:Nat) (vs:List Value):Prop:=(b<w0.heap.size∧b∉ex)∧tV w0 (b,0,vs)
variable {w0 w:World} {a:Act} {B0 B1 Sp Sq:dY} {x y z d i:Int} {Q:Exit→Act→World→Prop} {D:Code}
theorem adY {X W A M:dY} {f:Bool}
  (hown:∀q∈[]++[],q∈([]:List Nat)∨w0.heap.size≤q) (hnd:([]++[]:List Nat).Nodup) (h:dP (dS 133 [(0,.agg ⟨[dJ B0,dJ B1]⟩),(1,.agg ⟨[num (x),num (y),num (z)]⟩),(2,dJ Sp),(3,dJ Sq),(4,num (d)),(5,num (i))]) [] [] a w) (hk:dO w0 [] w)
  (hQ:∀(a':Act) (w':World) (nr ng:Nat),(∀q∈([nr,ng]:List Nat),w.heap.size≤q∧q<w'.heap.size)→([]++[]++[]++[nr,ng]:List Nat).Nodup→dP (dS 133 [(2,dJ Sp),(3,dJ Sq),(4,num (d)),(5,num (i)),(6,dK nr),(7,dK ng)]) [] [(nr,[dJ B0,dJ B1],35),(ng,[num (x),num (y),num (z)],40)] a' w'→dO w0 [] w'→D.wp aa Q a' w'):(o7 [(dZ (dN aY))] D).wp aa Q a w:=by
 refine xI ([x,y,z,d,i]) ([f]) [B0,B1,Sp,Sq,X,W,A,M] (w0:=w0) (ex:=[]) (g:=[]) (wt:=[]) (lt:=[]) (t:={}) (ws:=[]) (fr:=fK 133 [(0,.agg ⟨[dM 0,dM 1]⟩),(1,.agg ⟨(vs 0 3)⟩),(2,dM 2),(3,dM 3),(4,var 3),(5,var 4)]) (H:=[]) (lo:=[]) (wb:=[]) (us':=fun gn nl=>dS 133 [(2,dJ Sp),(3,dJ Sq),(4,num (d)),(5,num (i)),(6,dK (nl.getD 0 0)),(7,dK (nl.getD 1 0))]) (gs':=fun gn nl=>[]) (ls':=fun gn nl=>[((nl.getD 0 0),[dJ B0,dJ B1],35),((nl.getD 1 0),[num (x),num (y),num (z)],40)]) 20 _ [] [0,1] [] [6,7] (fun gn nl e1 e2=>?_) (by kernel_rfl) (fun gn nl e1 e2 e3=>?_) ⟨fB _,jo,all_nil,(by exact hown),kF,fun _=>⟨all_nil,all_nil,all_nil⟩⟩ h hk (fun a' w' gn nl e1 e2 e3 e4 hs hk'=>?_)
 ·match gn,nl,e1,e2 with
  | [],[nr,ng],_,_=>show (_:Option _)=_; kernel_rfl
 ·match gn,nl,e1,e2 with
  | [],[nr,ng],_,_=>exact oP e3
 ·match gn,nl,e1,e2 with
  | [],[nr,ng],_,_ =>
   simp only [bN,bZ] at hs
   exact hQ a' w' nr ng (fun q hq=>e4 q hq) e3 hs hk'
variable {nr ng:Nat}
theorem adZ {X W A M:dY} {f:Bool} {nc:Nat}  (hr0:lI w0 [] nr [dJ B0,dJ B1]) (hr1:lI w0 [] ng [num (x),num (y),num (z)])
  (hown:∀q∈[]++[],q∈([]:List Nat)∨w0.heap.size≤q) (hnd:([]++[]:List Nat).Nodup) (h:dP (dS 133 [(2,dJ Sp),(3,dJ Sq),(4,num (d)),(5,num (i)),(6,dK nr),(7,dK ng)]) [] [] a w) (hk:dO w0 [] w)
  (hQ:∀a' w',dP (dS 133 [(2,dJ Sp),(3,dJ Sq),(4,num (d)),(5,num (i)),(6,dK nr),(7,dK ng),(30,dJ Sp),(31,dJ Sq),(32,num (d)),(33,num (i))]) [] [] a' w'→dO w0 [] w'→wpList aa (opsOf (jM (dN aY))).toArray Q ((opsOf (jM (dN aY))).drop 4) a' w'):wpList aa (opsOf (jM (dN aY))).toArray Q ((opsOf (jM (dN aY))).take 4++((opsOf (jM (dN aY))).drop 4)) a w:=by
 refine uw ([x,y,z,d,i]) ([f]) [B0,B1,Sp,Sq,X,W,A,M] (ops:=opsOf (jM (dN aY))) (o1:=(opsOf (jM (dN aY))).take 4) (tail:=((opsOf (jM (dN aY))).drop 4)) (w0:=w0) (ex:=[]) (g:=[]) (wt:=[]) (lt:=[]) (t:={}) (ws:=[(nr,0,[dJ B0,dJ B1]),(ng,0,[num (x),num (y),num (z)])]) (fr:=fK 133 [(2,dM 2),(3,dM 3),(4,var 3),(5,var 4),(6,.pointer (some ⟨0,0,some 0⟩)),(7,.pointer (some ⟨1,0,some 0⟩))]) (H:=[]) (lo:=[]) (wb:=[dU [dM 0,dM 1],dU (vs 0 3)])  (by kernel_rfl) [] [] (by kernel_rfl) (by kernel_rfl) (by exact hnd) ⟨fB _,jo,dR hr0<|dR hr1<|all_nil,(by exact hown),kF,fun _=>⟨all_nil,all_nil,all_nil⟩⟩ h hk hQ
variable {X:dY}
theorem ad1 {W A M:dY} {f:Bool} {nc:Nat}  (hr0:lI w0 [] nr [dJ B0,dJ B1]) (hr1:lI w0 [] ng [num (x),num (y),num (z)])
  (hown:∀q∈[]++[],q∈([]:List Nat)∨w0.heap.size≤q) (hnd:([]++[]:List Nat).Nodup) (h:dP (dS 133 [(2,dJ Sp),(3,dJ Sq),(4,num (d)),(5,num (i)),(6,dK nr),(7,dK ng),(34,.tuple ⟨[dJ X,.bool true]⟩)]) [] [] a w) (hk:dO w0 [] w)
  (hQ:∀a' w',dP (dS 133 [(2,dJ Sp),(3,dJ Sq),(4,num (d)),(5,num (i)),(6,dK nr),(7,dK ng),(14,dJ X),(15,.bool true)]) [] [] a' w'→dO w0 [] w'→wpList aa (opsOf (jM (dN aY))).toArray Q ([]) a' w'):wpList aa (opsOf (jM (dN aY))).toArray Q ((opsOf (jM (dN aY))).drop 5++([])) a w:=by
 refine uw ([x,y,z,d,i]) ([f]) [B0,B1,Sp,Sq,X,W,A,M] (ops:=opsOf (jM (dN aY))) (o1:=(opsOf (jM (dN aY))).drop 5) (tail:=([])) (w0:=w0) (ex:=[]) (g:=[]) (wt:=[]) (lt:=[]) (t:={}) (ws:=[(nr,0,[dJ B0,dJ B1]),(ng,0,[num (x),num (y),num (z)])]) (fr:=fK 133 [(2,dM 2),(3,dM 3),(4,var 3),(5,var 4),(6,.pointer (some ⟨0,0,some 0⟩)),(7,.pointer (some ⟨1,0,some 0⟩)),(34,.tuple ⟨[dM 4,.bool true]⟩)]) (H:=[]) (lo:=[]) (wb:=[dU [dM 0,dM 1],dU (vs 0 3)])  (by kernel_rfl) [] [] (by kernel_rfl) (by kernel_rfl) (by exact hnd) ⟨fB _,jo,dR hr0<|dR hr1<|all_nil,(by exact hown),kF,fun _=>⟨all_nil,all_nil,all_nil⟩⟩ h hk hQ
theorem ad2 {W A M:dY} {f:Bool} {nc:Nat}  (hr0:lI w0 [] nr [dJ B0,dJ B1]) (hr1:lI w0 [] ng [num (x),num (y),num (z)])
  (hown:∀q∈[]++[],q∈([]:List Nat)∨w0.heap.size≤q) (hnd:([]++[]:List Nat).Nodup) (h:dP (dS 133 [(2,dJ Sp),(3,dJ Sq),(4,num (d)),(5,num (i)),(6,dK nr),(7,dK ng),(14,dJ X),(15,.bool true)]) [] [] a w) (hk:dO w0 [] w)
  (hQ:∀a' w',dP (dS 133 [(2,dJ Sp),(3,dJ Sq),(4,num (d)),(5,num (i)),(6,dK nr),(7,dK ng),(14,dJ X),(15,.bool true),(38,.agg ⟨[dJ B0,dJ B1]⟩),(39,dJ Sp),(40,dJ Sq)]) [] [] a' w'→dO w0 [] w'→wpList aa (opsOf (nP (dN aY))).toArray Q ((opsOf (nP (dN aY))).drop 3) a' w'):wpList aa (opsOf (nP (dN aY))).toArray Q ((opsOf (nP (dN aY))).take 3++((opsOf (nP (dN aY))).drop 3)) a w:=by
 refine uw ([x,y,z,d,i]) ([f]) [B0,B1,Sp,Sq,X,W,A,M] (ops:=opsOf (nP (dN aY))) (o1:=(opsOf (nP (dN aY))).take 3) (tail:=((opsOf (nP (dN aY))).drop 3)) (w0:=w0) (ex:=[]) (g:=[]) (wt:=[]) (lt:=[]) (t:={}) (ws:=[(nr,0,[dJ B0,dJ B1]),(ng,0,[num (x),num (y),num (z)])]) (fr:=fK 133 [(2,dM 2),(3,dM 3),(4,var 3),(5,var 4),(6,.pointer (some ⟨0,0,some 0⟩)),(7,.pointer (some ⟨1,0,some 0⟩)),(14,dM 4),(15,.bool true)]) (H:=[]) (lo:=[]) (wb:=[dU [dM 0,dM 1],dU (vs 0 3)])  (by kernel_rfl) [] [] (by kernel_rfl) (by kernel_rfl) (by exact hnd) ⟨fB _,jo,dR hr0<|dR hr1<|all_nil,(by exact hown),kF,fun _=>⟨all_nil,all_nil,all_nil⟩⟩ h hk hQ
variable {W:dY}
theorem ad3 {A M:dY} {f:Bool} {nc:Nat}  (hr0:lI w0 [] nr [dJ B0,dJ B1]) (hr1:lI w0 [] ng [num (x),num (y),num (z)])
  (hown:∀q∈[]++[],q∈([]:List Nat)∨w0.heap.size≤q) (hnd:([]++[]:List Nat).Nodup) (h:dP (dS 133 [(2,dJ Sp),(3,dJ Sq),(4,num (d)),(5,num (i)),(6,dK nr),(7,dK ng),(14,dJ X),(15,.bool true),(41,.tuple ⟨[dJ W,.bool true]⟩)]) [] [] a w) (hk:dO w0 [] w)
  (hQ:∀a' w',dP (dS 133 [(6,dK nr),(7,dK ng),(14,dJ X),(15,.bool true),(16,dJ W),(17,.bool true)]) [] [] a' w'→dO w0 [] w'→wpList aa (opsOf (nP (dN aY))).toArray Q ([]) a' w'):wpList aa (opsOf (nP (dN aY))).toArray Q ((opsOf (nP (dN aY))).drop 4++([])) a w:=by
 refine uw ([x,y,z,d,i]) ([f]) [B0,B1,Sp,Sq,X,W,A,M] (ops:=opsOf (nP (dN aY))) (o1:=(opsOf (nP (dN aY))).drop 4) (tail:=([])) (w0:=w0) (ex:=[]) (g:=[]) (wt:=[]) (lt:=[]) (t:={}) (ws:=[(nr,0,[dJ B0,dJ B1]),(ng,0,[num (x),num (y),num (z)])]) (fr:=fK 133 [(2,dM 2),(3,dM 3),(4,var 3),(5,var 4),(6,.pointer (some ⟨0,0,some 0⟩)),(7,.pointer (some ⟨1,0,some 0⟩)),(14,dM 4),(15,.bool true),(41,.tuple ⟨[dM 5,.bool true]⟩)]) (H:=[]) (lo:=[]) (wb:=[dU [dM 0,dM 1],dU (vs 0 3)])  (by kernel_rfl) [] [] (by kernel_rfl) (by kernel_rfl) (by exact hnd) ⟨fB _,jo,dR hr0<|dR hr1<|all_nil,(by exact hown),kF,fun _=>⟨all_nil,all_nil,all_nil⟩⟩ h hk hQ
variable {A M:dY} {f:Bool}
theorem ad4 {nc:Nat} (hqt:∀z_∈([⟨40,[.agg ⟨[dM 0,dM 1]⟩,.agg ⟨(vs 0 3)⟩,dM 4],.val (.bool true)⟩]:List Qt),jB aa (gB (w0,[]) ([x,y,z,d,i]) [f] [B0,B1,Sp,Sq,X,W,A,M]) z_) (hr0:lI w0 [] nr [dJ B0,dJ B1]) (hr1:lI w0 [] ng [num (x),num (y),num (z)])
  (hown:∀q∈[]++[],q∈([]:List Nat)∨w0.heap.size≤q) (hnd:([]++[]:List Nat).Nodup) (h:dP (dS 133 [(6,dK nr),(7,dK ng),(14,dJ X),(15,.bool true),(16,dJ W),(17,.bool true)]) [] [] a w) (hk:dO w0 [] w)
  (hQ:∀a' w',dP (dS 133 [(6,dK nr),(7,dK ng),(14,dJ X),(16,dJ W)]) [] [] a' w'→dO w0 [] w'→D.wp aa Q a' w'):(o7 [(dZ (sR 3 (dN aY)))] D).wp aa Q a w:=by
 refine uN ([x,y,z,d,i]) ([f]) [B0,B1,Sp,Sq,X,W,A,M] (w0:=w0) (ex:=[]) (g:=[]) (wt:=[]) (lt:=[]) (t:={ QT:=[⟨40,[.agg ⟨[dM 0,dM 1]⟩,.agg ⟨(vs 0 3)⟩,dM 4],.val (.bool true)⟩] }) (ws:=[(nr,0,[dJ B0,dJ B1]),(ng,0,[num (x),num (y),num (z)])]) (fr:=fK 133 [(6,.pointer (some ⟨0,0,some 0⟩)),(7,.pointer (some ⟨1,0,some 0⟩)),(14,dM 4),(15,.bool true),(16,dM 5),(17,.bool true)]) (H:=[]) (lo:=[]) (wb:=[dU [dM 0,dM 1],dU (vs 0 3)])  20 _ [] [] (by kernel_rfl) (by kernel_rfl) (by exact hnd) ⟨fB _,yA hqt,dR hr0<|dR hr1<|all_nil,(by exact hown),kF,fun _=>⟨all_nil,all_nil,all_nil⟩⟩ h hk hQ
theorem ad5 {Sp Sq A M:dY} {d i:Int} {f:Bool}  (hr0:lI w0 [] nr [dJ B0,dJ B1]) (hr1:lI w0 [] ng [num (x),num (y),num (z)])
  (hown:∀q∈[]++[],q∈([]:List Nat)∨w0.heap.size≤q) (hnd:([]++[]:List Nat).Nodup) (h:dP (dS 133 [(6,dK nr),(7,dK ng),(14,dJ X),(16,dJ W)]) [] [] a w) (hk:dO w0 [] w)
  (hQ:∀(a':Act) (w':World) (nc:Nat),(∀q∈([nc]:List Nat),w.heap.size≤q∧q<w'.heap.size)→([]++[]++[nc]++[]:List Nat).Nodup→dP (dS 133 [(6,dK nr),(7,dK ng),(14,dJ X),(16,dJ W),(18,dK nc)]) [(nc,[.bool false],88)] [] a' w'→dO w0 [] w'→D.wp aa Q a' w'):(o7 [(dZ (sR 4 (dN aY)))] D).wp aa Q a w:=by
 refine xI ([x,y,z,d,i]) ([f]) [B0,B1,Sp,Sq,X,W,A,M] (w0:=w0) (ex:=[]) (g:=[]) (wt:=[]) (lt:=[]) (t:={}) (ws:=[(nr,0,[dJ B0,dJ B1]),(ng,0,[num (x),num (y),num (z)])]) (fr:=fK 133 [(6,.pointer (some ⟨0,0,some 0⟩)),(7,.pointer (some ⟨1,0,some 0⟩)),(14,dM 4),(16,dM 5)]) (H:=[]) (lo:=[]) (wb:=[dU [dM 0,dM 1],dU (vs 0 3)]) (us':=fun gn nl=>dS 133 [(6,dK nr),(7,dK ng),(14,dJ X),(16,dJ W),(18,dK (gn.getD 0 0))]) (gs':=fun gn nl=>[((gn.getD 0 0),[.bool false],88)]) (ls':=fun gn nl=>[]) 20 _ [0] [] [18] [] (fun gn nl e1 e2=>?_) (by kernel_rfl) (fun gn nl e1 e2 e3=>?_) ⟨fB _,jo,dR hr0<|dR hr1<|all_nil,(by exact hown),kF,fun _=>⟨all_nil,all_nil,all_nil⟩⟩ h hk (fun a' w' gn nl e1 e2 e3 e4 hs hk'=>?_)
 ·match gn,nl,e1,e2 with
  | [nc],[],_,_=>show (_:Option _)=_; kernel_rfl
 ·match gn,nl,e1,e2 with
  | [nc],[],_,_=>exact oP e3
 ·match gn,nl,e1,e2 with
  | [nc],[],_,_ =>
   simp only [bN] at hs
   exact hQ a' w' nc (fun q hq=>e4 q hq) e3 hs hk'
variable {nc:Nat}
theorem ad6 {Sp Sq A M:dY} {d i:Int} {f:Bool}  (hr0:lI w0 [nc] nr [dJ B0,dJ B1]) (hr1:lI w0 [nc] ng [num (x),num (y),num (z)])
  (hown:∀q∈[nc]++[],q∈([nc]:List Nat)∨w0.heap.size≤q) (hnd:([nc]++[]:List Nat).Nodup) (h:dP (dS 133 [(6,dK nr),(7,dK ng),(14,dJ X),(16,dJ W),(18,dK nc)]) [(nc,[.bool false],88)] [] a w) (hk:dO w0 [nc] w)
  (hQ:∀a' w',dP (dS 133 [(6,dK nr),(7,dK ng),(14,dJ X),(16,dJ W),(18,dK nc),(59,dK nc),(60,.agg ⟨[dJ B0,dJ B1]⟩),(61,dJ X)]) [(nc,[.bool false],88)] [] a' w'→dO w0 [nc] w'→wpList aa (opsOf (CS (dN aY))).toArray Q ((opsOf (CS (dN aY))).drop 3) a' w'):wpList aa (opsOf (CS (dN aY))).toArray Q ((opsOf (CS (dN aY))).take 3++((opsOf (CS (dN aY))).drop 3)) a w:=by
 refine uw ([x,y,z,d,i]) ([f]) [B0,B1,Sp,Sq,X,W,A,M] (ops:=opsOf (CS (dN aY))) (o1:=(opsOf (CS (dN aY))).take 3) (tail:=((opsOf (CS (dN aY))).drop 3)) (w0:=w0) (ex:=[nc]) (g:=[]) (wt:=[]) (lt:=[]) (t:={}) (ws:=[(nr,0,[dJ B0,dJ B1]),(ng,0,[num (x),num (y),num (z)])]) (fr:=fK 133 [(6,.pointer (some ⟨0,0,some 0⟩)),(7,.pointer (some ⟨1,0,some 0⟩)),(14,dM 4),(16,dM 5),(18,.pointer (some ⟨0,0,none⟩))]) (H:=[dQ [.bool false] 88]) (lo:=[]) (wb:=[dU [dM 0,dM 1],dU (vs 0 3)])  (by kernel_rfl) [0] [] (by kernel_rfl) (by kernel_rfl) (by exact hnd) ⟨fB _,jo,dR hr0<|dR hr1<|all_nil,(by exact hown),jG,fun _=>⟨all_nil,all_nil,all_nil⟩⟩ h hk hQ
theorem ad7 {Sp Sq X:dY} {d i:Int}  (hr0:lI w0 [nc] nr [dJ B0,dJ B1]) (hr1:lI w0 [nc] ng [num (x),num (y),num (z)])
  (hown:∀q∈[nc]++[],q∈([nc]:List Nat)∨w0.heap.size≤q) (hnd:([nc]++[]:List Nat).Nodup) (h:dP (dS 133 [(6,dK nr),(7,dK ng),(16,dJ W),(18,dK nc),(62,.agg ⟨[dK nc,dJ B0,dJ B1,dJ A,dJ M]⟩)]) [(nc,[.bool (f)],88)] [] a w) (hk:dO w0 [nc] w)
  (hQ:∀(a':Act) (w':World) (nb:Nat),(∀q∈([nb]:List Nat),w.heap.size≤q∧q<w'.heap.size)→([nc]++[]++[nb]++[]:List Nat).Nodup→dP (dS 133 [(6,dK nr),(7,dK ng),(16,dJ W),(18,dK nc),(19,dK nb)]) [(nc,[.bool (f)],88),(nb,[dK nc,dJ B0,dJ B1,dJ A,dJ M],92)] [] a' w'→dO w0 [nc] w'→wpList aa (opsOf (CS (dN aY))).toArray Q ([]) a' w'):wpList aa (opsOf (CS (dN aY))).toArray Q ((opsOf (CS (dN aY))).drop 4++([])) a w:=by
 refine FJ ([x,y,z,d,i]) ([f]) [B0,B1,Sp,Sq,X,W,A,M] (ops:=opsOf (CS (dN aY))) (o1:=(opsOf (CS (dN aY))).drop 4) (tail:=([])) (w0:=w0) (ex:=[nc]) (g:=[]) (wt:=[]) (lt:=[]) (t:={}) (ws:=[(nr,0,[dJ B0,dJ B1]),(ng,0,[num (x),num (y),num (z)])]) (fr:=fK 133 [(6,.pointer (some ⟨0,0,some 0⟩)),(7,.pointer (some ⟨1,0,some 0⟩)),(16,dM 5),(18,.pointer (some ⟨0,0,none⟩)),(62,.agg ⟨[.pointer (some ⟨0,0,none⟩),dM 0,dM 1,dM 6,dM 7]⟩)]) (H:=[dQ [mB 1 [.int .i64 0]] 88]) (lo:=[]) (wb:=[dU [dM 0,dM 1],dU (vs 0 3)]) (us':=fun gn nl=>dS 133 [(6,dK nr),(7,dK ng),(16,dJ W),(18,dK nc),(19,dK (gn.getD 0 0))]) (gs':=fun gn nl=>[(nc,[.bool (f)],88),((gn.getD 0 0),[dK nc,dJ B0,dJ B1,dJ A,dJ M],92)]) (ls':=fun gn nl=>[]) (by kernel_rfl) [0,1] [] [19] [] (fun gn nl e1 e2=>?_) (by kernel_rfl) (fun gn nl e1 e2 e3=>?_) ⟨fB _,jo,dR hr0<|dR hr1<|all_nil,(by exact hown),jG,fun _=>⟨all_nil,all_nil,all_nil⟩⟩ h hk (fun a' w' gn nl e1 e2 e3 e4 hs hk'=>?_)
 ·match gn,nl,e1,e2 with
  | [nb],[],_,_=>show (_:Option _)=_; kernel_rfl
 ·match gn,nl,e1,e2 with
  | [nb],[],_,_=>exact oP e3
 ·match gn,nl,e1,e2 with
  | [nb],[],_,_ =>
   simp only [bN] at hs
   exact hQ a' w' nb (fun q hq=>e4 q hq) e3 hs hk'
theorem WY:Ae (jM (dN aY)) 4 39 [30,31,32,33] 34:=Eg (by kernel_rfl)
theorem WZ:Ae (nP (dN aY)) 3 26 [38,39,40] 41:=Eg (by kernel_rfl)
theorem WW:Ae (CS (dN aY)) 3 41 [59,60,61] 62:=Eg (by kernel_rfl)
end Go.Proofs
end
section
namespace Go.Proofs
open Go.Sm Go.RowKit En
def MD.mb (m:MD):MB:=⟨m.wt,m.ks,m.vs,(none,0,0),(none,0,0)⟩
theorem PO (m:MB) (u:V6) (st:List (Int×Int)×Bool):∀i,jI m u st i=jI m.md.mb u st i
 | 0=>rfl
 | i+1=>by unfold jI; rw [PO m u st i]; rfl
theorem Yg (ms:List MB) (k:Nat):(ms.map fun m=>m.md.mb).getD k .z=(ms.getD k .z).md.mb:=by
 simp only [amI,bY]
 cases ms[k]?<;>rfl
theorem EL (ms:List MB) (us:List V6) (st:List (Int×Int)×Bool):∀k,gm ms us st k=gm (ms.map fun m=>m.md.mb) us st k
 | 0=>rfl
 | k+1=>by
  unfold gm
  rw [EL ms us st k,Yg,PO]
  rfl
theorem UK (rs:List (Int×Int)) (axs:List V6) (js:List JV):∀(ms:List MB) (f:Bool),BN rs axs js f ms=BN rs axs js f (ms.map fun m=>m.md.mb)
 | [],_=>rfl
 | m::ms,f=>by
  unfold BN
  exact UK rs axs js ms _
theorem Fa (ms:List MB):(ms.map fun m=>m.md.mb)=(ms.map MB.md).map MD.mb:=by simp [List.map_map,Function.comp]
theorem UN (rs:List (Int×Int)) (ms:List MB) (n:Nat):yY rs ms n=yY rs ((ms.map MB.md).map MD.mb) n:=by
 unfold yY
 rw [EL,Fa,dF,dF,show zw rs ((ms.map MB.md).map MD.mb)=zw rs ms by simp [zw,List.map_map,Function.comp]; exact fun _ _=>rfl]
theorem UO (rs:List (Int×Int)) (axs:List V6) (js:List JV) (ms:List MB) (n:Nat):yZ rs axs js ms n=yZ rs axs js ((ms.map MB.md).map MD.mb) n:=by
 unfold yZ
 rw [EL,Fa,dF,dF,show zX rs axs js ((ms.map MB.md).map MD.mb)=zX rs axs js ms by simp [zX,List.map_map,Function.comp]; exact fun _ _=>rfl]
theorem Q5 (ms:List MB) (n:Nat) (x y z:Int):iU ms n x y z=iU ((ms.map MB.md).map MD.mb) n x y z:=by
 unfold iU
 rw [EL,Fa,dF,dF]
theorem aef (rs:List (Int×Int)) (axs:List V6) (js:List JV) (ms:List MB) (n:Nat) (x y z:Int) (f:Bool):BM rs axs js ms n x y z f=BM rs axs js ((ms.map MB.md).map MD.mb) n x y z f:=by
 unfold BM
 rw [UK,Fa,UN,UO,Q5]
structure Mx where
 fl:Bool
 us:List (Int×Int)
 xs:List (Int×Int)
 gs:List (Int×Int)
def acs (js:List JV) (ps qs:List Int) (d i:Int):List iF:=jH [] js (nX ps qs d i)
def xq (js:List JV) (mvs:List MV) (ps qs:List Int) (d i x y z:Int):Mx :=
 (fun (Ps:List iF) (rs:List (Int×Int))=>(fun (b:List MD×Bool)=>⟨BM rs (nu js Ps) js (b.1.map MD.mb) js.length x y z b.2,(yY rs (b.1.map MD.mb) js.length).1,(yZ rs (nu js Ps) js (b.1.map MD.mb) js.length).1,(iU (b.1.map MD.mb) js.length x y z).1.map iP⟩) (wG js Ps mvs false)) (acs js ps qs d i) (gZ js ps qs js.length)
def VB (w:World) (n:Nat) (t:Mx) (e:Ending) (w':World):Prop:=Below w.heap.size w w'∧(t.fl=true→e=.returned (.tuple ⟨[.slice none 0 0,.bool false]⟩))∧(t.fl=false→∃gl,w.heap.size≤gl∧gl<w'.heap.size∧e=.returned (.tuple ⟨[.slice (some ⟨gl,0,none⟩) n n,.bool true]⟩)∧w'.heap[gl]?=some (.cells ⟨xu t.us t.xs t.gs⟩ 47 (0,0)))
theorem Kb {t:Nat} {v:Value}:∀{l:List (Nat×Value)},lookO t l=some v→(t,v)∈l
 | [],h=>by cases h
 | (j,x)::l,h=>by
  unfold lookO at h
  cases hb:ay t j with
  | true =>
   rw [hb] at h
   simp only [cond_true,ak] at h
   subst h
   rw [bf hb]
   exact aA
  | false =>
   rw [hb] at h
   exact aT _ (Kb h)
variable {n:Nat} {gs:List gQ} {w:World}
theorem adD {m:Nat} {xs:List Value} {l:List (Nat×Value)} (hn:xs.length+m=n) (hl:∀p∈l,xs[p.1]?=some p.2) (hg:∀x∈gs,w.heap[x.1]?=some (.cells ⟨x.2.1⟩ x.2.2 (0,0))) (nd:(gs.map (·.1)).Nodup):dP (dS n l) gs [] { tmps:=xs.toArray++aji m undef,defers:=[] } w:=by
 have hst:=qF (us:=xs.map some++ag6 m (some undef)) (w:=w) rfl hg nd
 refine ⟨rfl,by simp [dS,hn],fun t u e=>hst.fr t u ?_,hg,hst.lo,hst.nd⟩
 simp only [dS,bY,aR] at e
 obtain ⟨y,y1,y2⟩:=e
 obtain ⟨hlt,hy⟩:=ai.1 y1
 simp only [List.getElem_range] at hy
 subst hy
 have h1:=hl _ (Kb y2)
 simp only at h1
 have:=(ai.1 h1).1
 rw [aH (by simpa using this),bY,h1]; rfl
variable {b:Nat} {vs:List Value} {ex:List Nat}
theorem Q3 {us:List (Option Value)} {ls:List gQ} {a:Act} (h:dP us gs ls a w) {e:TypeId} (hm:(b,vs,e)∈ls) (hl:0<vs.length) (hx:b∉ex):lI w ex b vs:=by
 have:=h.lo _ hm
 exact ⟨⟨(aB.1 this).1,hx⟩,M0 this hl⟩
theorem lI.mv {w':World} {ex2:List Nat} (h:lI w ex b vs) (hk:dO w ex w') (hx:b∉ex2):lI w' ex2 b vs:=⟨⟨aC h.1.1 hk.size,hx⟩,hk.win h.1.1 h.1.2 h.2⟩
variable {B0 B1:dY} {js:List JV} {mvs:List MV}
theorem jW.Z8 {nc:Nat} (h:jW w [] B0 B1 js mvs) (h1:∀a,B0.1=some a→a.block≠nc) (h2:∀a,B1.1=some a→mvs≠[]→a.block≠nc):jW w [nc] B0 B1 js mvs :=
 { h with xB:=fun a ha=>⟨by simpa using h1 a ha,(h.xB a ha).2⟩,xM:=fun a ha h0=>⟨by simpa using h2 a ha h0,(h.xM a ha h0).2⟩ }
theorem acv {f:Func} {R R':Ending→World→Prop} (h:∀e w',R e w'→R' e w'):∀(e:Exit) (a:Act) (w:World),bodyPost aa f R e a w→bodyPost aa f R' e a w:=fun e a w hq=>by
 cases e with
 | normal=>obtain ⟨h1,v,h2,h3⟩:=hq; exact ⟨h1,v,h2,h _ _ h3⟩
 | ret=>obtain ⟨h1,v,h2,h3⟩:=hq; exact ⟨h1,v,h2,h _ _ h3⟩
 | panic c=>obtain ⟨h1,h2⟩:=hq; exact ⟨h1,h _ _ h2⟩
 | outgrown=>exact h _ _ hq
 | _=>exact hq
theorem QO:∀(ps qs:List Int) (d i:Int),qs.length=ps.length→(nX ps qs d i).length=ps.length
 | [],[],_,_,_=>rfl
 | _::ps,_::qs,d,i,h=>by
  unfold nX
  rw [dB,QO ps qs d i (by simpa using h),dB]
 | [],_::_,_,_,h=>by simp at h
 | _::_,[],_,_,h=>by simp at h
variable {bs:List (Int×Int)}
theorem WN {g:Nat} (h:w.heap[g]?=some (.cells ⟨bs.flatMap fun b=>[num b.1,num b.2]⟩ 64 (0,0))):Sl w ((some ⟨g,0,none⟩,n,n):dY).1 2 (jE bs):=fun _=>⟨g,0,rfl,(aB.1 h).1,fun i r hi k v hk=>by
 have:=flat_get (jE bs) 2 (fun r hr=>by obtain ⟨P,_,rfl⟩:=aeZ.1 hr; rfl) i r hi k v hk
 simpa [bS,h,List.flatMap,jE] using this⟩
theorem acn {Sp Sq:dY} {ps qs:List Int} {d i:Int} (h1:1≤ps.length) (h3:ps.length≤3) (hpq:qs.length=ps.length) (hP:Sp.2.1=ps.length) (hQ:Sq.2.1=qs.length) (sP:Sl w Sp.1 1 (fF ps)) (sQ:Sl w Sq.1 1 (fF qs)) (hd:0≤d∧d≤20) (hi:0≤i∧i<2^d.toNat) (bp:∀x∈ps++qs,-2147483648≤x∧x≤2147483648) :
  Calls aa 39 #[dJ Sp,dJ Sq,num d,num i] w fun r w'=>Below w.heap.size w w'∧∃gl,w.heap.size≤gl∧gl<w'.heap.size∧r=.returned (kC true gl ps.length ps.length)∧w'.heap[gl]?=some (.cells ⟨(nX ps qs d i).flatMap fun b=>[num b.1,num b.2]⟩ 64 (0,0)):=by
 have hw:bg.wrap (1*2^(min d.toNat 64))=2^d.toNat:=by
  rw [show min d.toNat 64=d.toNat by omega,amM]
  refine dz _ ?_
  have h2:(2:Nat)^d.toNat≤2^20:=Nat.pow_le_pow_right (by decide) (by omega)
  have h3:((2^d.toNat:Nat):Int)≤((2^20:Nat):Int):=by exact_mod_cast h2
  have h4:(0:Int)<2^d.toNat:=Int.pow_pos (by decide)
  simp at h3
  omega
 match ps,qs,h1,h3,hpq with
 | [p0],[q0],_,_,_ =>
  obtain ⟨bp0,op0,rp0⟩:=iy (i:=0) (ex:=[]) sP (by simp [hP,fF]) (show (fF [p0])[0]?=some [num p0] from rfl) (aO _) (fun a ha=>by simp)
  obtain ⟨bq0,oq0,rq0⟩:=iy (i:=0) (ex:=[]) sQ (by simp [hQ,fF]) (show (fF [q0])[0]?=some [num q0] from rfl) (aO _) (fun a ha=>by simp)
  have b_p0:=bp p0 (by simp)
  have b_q0:=bp q0 (by simp)
  exact aci hP hQ (by simp; omega) (by simp; omega) (by simp; omega) (by simp; omega) (by simp; omega) (by simp; omega) (by simp; omega) (by simp; omega) (by rw [hw]; simp; omega) rp0 rq0 (kJ w [])
 | [p0,p1],[q0,q1],_,_,_ =>
  obtain ⟨bp0,op0,rp0⟩:=iy (i:=0) (ex:=[]) sP (by simp [hP,fF]) (show (fF [p0,p1])[0]?=some [num p0] from rfl) (aO _) (fun a ha=>by simp)
  obtain ⟨bp1,op1,rp1⟩:=iy (i:=1) (ex:=[]) sP (by simp [hP,fF]) (show (fF [p0,p1])[1]?=some [num p1] from rfl) (aO _) (fun a ha=>by simp)
  obtain ⟨bq0,oq0,rq0⟩:=iy (i:=0) (ex:=[]) sQ (by simp [hQ,fF]) (show (fF [q0,q1])[0]?=some [num q0] from rfl) (aO _) (fun a ha=>by simp)
  obtain ⟨bq1,oq1,rq1⟩:=iy (i:=1) (ex:=[]) sQ (by simp [hQ,fF]) (show (fF [q0,q1])[1]?=some [num q1] from rfl) (aO _) (fun a ha=>by simp)
  have b_p0:=bp p0 (by simp)
  have b_p1:=bp p1 (by simp)
  have b_q0:=bp q0 (by simp)
  have b_q1:=bp q1 (by simp)
  exact acj hP hQ (by simp; omega) (by simp; omega) (by simp; omega) (by simp; omega) (by simp; omega) (by simp; omega) (by simp; omega) (by simp; omega) (by simp; omega) (by simp; omega) (by simp; omega) (by simp; omega) (by rw [hw]; simp; omega) rp0 rp1 rq0 rq1 (kJ w [])
 | [p0,p1,p2],[q0,q1,q2],_,_,_ =>
  obtain ⟨bp0,op0,rp0⟩:=iy (i:=0) (ex:=[]) sP (by simp [hP,fF]) (show (fF [p0,p1,p2])[0]?=some [num p0] from rfl) (aO _) (fun a ha=>by simp)
  obtain ⟨bp1,op1,rp1⟩:=iy (i:=1) (ex:=[]) sP (by simp [hP,fF]) (show (fF [p0,p1,p2])[1]?=some [num p1] from rfl) (aO _) (fun a ha=>by simp)
  obtain ⟨bp2,op2,rp2⟩:=iy (i:=2) (ex:=[]) sP (by simp [hP,fF]) (show (fF [p0,p1,p2])[2]?=some [num p2] from rfl) (aO _) (fun a ha=>by simp)
  obtain ⟨bq0,oq0,rq0⟩:=iy (i:=0) (ex:=[]) sQ (by simp [hQ,fF]) (show (fF [q0,q1,q2])[0]?=some [num q0] from rfl) (aO _) (fun a ha=>by simp)
  obtain ⟨bq1,oq1,rq1⟩:=iy (i:=1) (ex:=[]) sQ (by simp [hQ,fF]) (show (fF [q0,q1,q2])[1]?=some [num q1] from rfl) (aO _) (fun a ha=>by simp)
  obtain ⟨bq2,oq2,rq2⟩:=iy (i:=2) (ex:=[]) sQ (by simp [hQ,fF]) (show (fF [q0,q1,q2])[2]?=some [num q2] from rfl) (aO _) (fun a ha=>by simp)
  have b_p0:=bp p0 (by simp)
  have b_p1:=bp p1 (by simp)
  have b_p2:=bp p2 (by simp)
  have b_q0:=bp q0 (by simp)
  have b_q1:=bp q1 (by simp)
  have b_q2:=bp q2 (by simp)
  exact ack hP hQ (by simp; omega) (by simp; omega) (by simp; omega) (by simp; omega) (by simp; omega) (by simp; omega) (by simp; omega) (by simp; omega) (by simp; omega) (by simp; omega) (by simp; omega) (by simp; omega) (by simp; omega) (by simp; omega) (by simp; omega) (by simp; omega) (by rw [hw]; simp; omega) rp0 rp1 rp2 rq0 rq1 rq2 (kJ w [])
 | [],_,h1,_,_=>exact absurd h1 (by simp)
 | _::_::_::_::_,_,_,h3,_=>exact absurd h3 (by simp)
 | [_],[],_,_,hl | [_],_::_::_,_,_,hl | [_,_],[],_,_,hl | [_,_],[_],_,_,hl | [_,_],_::_::_::_,_,_,hl | [_,_,_],[],_,_,hl | [_,_,_],[_],_,_,hl | [_,_,_],[_,_],_,_,hl | [_,_,_],_::_::_::_::_,_,_,hl=>exact absurd hl (by simp)
def MQ (js:List JV) (bs:List (Int×Int)):Prop:=∀(i:Nat) (j:JV) (b:Int×Int),js[i]?=some j→bs[i]?=some b→ou b.1 b.2 j.lo j.hi=true
theorem adH {X:dY} {x y z:Int} (h:jW w ex B0 B1 js mvs) (hl:bs.length=js.length) (hX:X.2.1=bs.length) (sX:Sl w X.1 2 (jE bs)) (xX:∀a,X.1=some a→a.block∉ex) (hv:MQ js bs) (hx:-16777216≤x∧x≤16777216) (hy:-16777216≤y∧y≤16777216) (hz:-16777216≤z∧z≤16777216) :
  Calls aa 40 #[.agg ⟨[dJ B0,dJ B1]⟩,.agg ⟨[num x,num y,num z]⟩,dJ X] w fun e w'=>e=.returned (.bool true)∧Below w.heap.size w w':=by
 have hn:=h.n
 match js,bs,h,hl,hX,sX,hv,hn with
 | [j0],[x0],h,_,hX,sX,hv,_ =>
  obtain ⟨bB0,oB0,rB0⟩:=iy (i:=0) (ex:=ex) h.sB (by simp [h.b0]) (show ([j0].map JV.vals)[0]?=some j0.vals from rfl) (aO _) (fun a ha=>(h.xB a ha).1)
  obtain ⟨bX0,oX0,rX0⟩:=iy (i:=0) (ex:=ex) sX (by simp [hX,jE]) (show (jE [x0])[0]?=some [num x0.1,num x0.2] from rfl) (aO _) xX
  exact adE h.b0 hX (by simp; omega) (by simp; omega) (by simp; omega) (by simp; omega) (by simp; omega) (by simp; omega) (hv 0 j0 x0 rfl rfl) rB0 rX0 (fun z_ hz_=>by simp only [ag,ae,or_false] at hz_; subst hz_; exact qI h) (kJ w ex)
 | [j0,j1],[x0,x1],h,_,hX,sX,hv,_ =>
  obtain ⟨bB0,oB0,rB0⟩:=iy (i:=0) (ex:=ex) h.sB (by simp [h.b0]) (show ([j0,j1].map JV.vals)[0]?=some j0.vals from rfl) (aO _) (fun a ha=>(h.xB a ha).1)
  obtain ⟨bX0,oX0,rX0⟩:=iy (i:=0) (ex:=ex) sX (by simp [hX,jE]) (show (jE [x0,x1])[0]?=some [num x0.1,num x0.2] from rfl) (aO _) xX
  obtain ⟨bB1,oB1,rB1⟩:=iy (i:=1) (ex:=ex) h.sB (by simp [h.b0]) (show ([j0,j1].map JV.vals)[1]?=some j1.vals from rfl) (aO _) (fun a ha=>(h.xB a ha).1)
  obtain ⟨bX1,oX1,rX1⟩:=iy (i:=1) (ex:=ex) sX (by simp [hX,jE]) (show (jE [x0,x1])[1]?=some [num x1.1,num x1.2] from rfl) (aO _) xX
  exact adF h.b0 hX (by simp; omega) (by simp; omega) (by simp; omega) (by simp; omega) (by simp; omega) (by simp; omega) (hv 0 j0 x0 rfl rfl) (hv 1 j1 x1 rfl rfl) rB0 rB1 rX0 rX1 (fun z_ hz_=>by simp only [ag,ae,or_false] at hz_; subst hz_; exact qI h) (kJ w ex)
 | [j0,j1,j2],[x0,x1,x2],h,_,hX,sX,hv,_ =>
  obtain ⟨bB0,oB0,rB0⟩:=iy (i:=0) (ex:=ex) h.sB (by simp [h.b0]) (show ([j0,j1,j2].map JV.vals)[0]?=some j0.vals from rfl) (aO _) (fun a ha=>(h.xB a ha).1)
  obtain ⟨bX0,oX0,rX0⟩:=iy (i:=0) (ex:=ex) sX (by simp [hX,jE]) (show (jE [x0,x1,x2])[0]?=some [num x0.1,num x0.2] from rfl) (aO _) xX
  obtain ⟨bB1,oB1,rB1⟩:=iy (i:=1) (ex:=ex) h.sB (by simp [h.b0]) (show ([j0,j1,j2].map JV.vals)[1]?=some j1.vals from rfl) (aO _) (fun a ha=>(h.xB a ha).1)
  obtain ⟨bX1,oX1,rX1⟩:=iy (i:=1) (ex:=ex) sX (by simp [hX,jE]) (show (jE [x0,x1,x2])[1]?=some [num x1.1,num x1.2] from rfl) (aO _) xX
  obtain ⟨bB2,oB2,rB2⟩:=iy (i:=2) (ex:=ex) h.sB (by simp [h.b0]) (show ([j0,j1,j2].map JV.vals)[2]?=some j2.vals from rfl) (aO _) (fun a ha=>(h.xB a ha).1)
  obtain ⟨bX2,oX2,rX2⟩:=iy (i:=2) (ex:=ex) sX (by simp [hX,jE]) (show (jE [x0,x1,x2])[2]?=some [num x2.1,num x2.2] from rfl) (aO _) xX
  exact adG h.b0 hX (by simp; omega) (by simp; omega) (by simp; omega) (by simp; omega) (by simp; omega) (by simp; omega) (hv 0 j0 x0 rfl rfl) (hv 1 j1 x1 rfl rfl) (hv 2 j2 x2 rfl rfl) rB0 rB1 rB2 rX0 rX1 rX2 (fun z_ hz_=>by simp only [ag,ae,or_false] at hz_; subst hz_; exact qI h) (kJ w ex)
 | [],_,_,_,_,_,_,hn=>exact absurd hn.1 (by simp)
 | _::_::_::_::_,_,_,_,_,_,_,hn=>exact absurd hn.2 (by simp)
 | [_],[],_,hl,_,_,_,_ | [_],_::_::_,_,hl,_,_,_,_ | [_,_],[],_,hl,_,_,_,_ | [_,_],[_],_,hl,_,_,_,_ | [_,_],_::_::_::_,_,hl,_,_,_,_ | [_,_,_],[],_,hl,_,_,_,_ | [_,_,_],[_],_,hl,_,_,_,_ | [_,_,_],[_,_],_,hl,_,_,_,_ | [_,_,_],_::_::_::_::_,_,hl,_,_,_,_=>exact absurd hl (by simp)
end Go.Proofs
end
section
namespace Go.Proofs
open Go.Sm Go.RowKit En
theorem WQ:(dN aY)=o7 [(dZ (dN aY))] (.seq (jM (dN aY)) (.seq (nP (dN aY)) (o7 [(dZ (sR 3 (dN aY)))] (o7 [(dZ (sR 4 (dN aY)))] (.seq (CS (dN aY)) (sR 6 (dN aY))))))):=by kernel_rfl
variable {w:World} {ex:List Nat}
theorem CX {w':World} (h:dO w ex w') (hx:∀g∈ex,w'.heap[g]?=w.heap[g]?):dO w [] w':=⟨h.os,h.tape,h.output,h.size,fun g h1 _=>by by_cases hm:g∈ex; exact hx g hm; exact h.frame g h1 hm⟩
theorem adB {us:List (Option Value)} {ls:List gQ} {a:Act} (h:dP us [] ls a w) {n:Nat} {cs:List Value} {e:TypeId} (hc:w.heap[n]?=some (.cells ⟨cs⟩ e (0,0))) (hn:n∉ls.map (·.1)):dP us [(n,cs,e)] ls a w :=
 ⟨h.df,h.sz,h.fr,fun x hx=>by simp only [ag,ae,or_false] at hx; subst hx; exact hc,h.lo,by
  have:=h.nd
  simp only [ae9,dD] at this
  simp only [dI,ae9,dw,dD]
  exact ag5.2 ⟨hn,this⟩⟩
theorem QN:∀(ps qs:List Int) (d i:Int) (k:Nat) (b:Int×Int),(nX ps qs d i)[k]?=some b→∃p q,ps[k]?=some p∧qs[k]?=some q∧b=(pM p q d i,pK p q d i)
 | [],_,_,_,k,b,h=>by simp [nX] at h
 | _::_,[],_,_,k,b,h=>by simp [nX] at h
 | p::ps,q::qs,d,i,k,b,h=>by
  unfold nX at h
  cases k with
  | zero=>simp at h; exact ⟨p,q,rfl,rfl,h.symm⟩
  | succ k=>simpa using QN ps qs d i k b (by simpa using h)
variable {js:List JV} {ps:List Int}
theorem ahw (jb:∀(k:Nat) (j:JV),js[k]?=some j→-4194304≤j.lo∧j.hi≤4194304) (h:mi js ps):∀(k:Nat) (p:Int),ps[k]?=some p→-4194304≤p∧p≤4194304:=fun k p hp=>by
 have hk:=(ai.1 hp).1
 obtain ⟨j,hj⟩:∃j,js[k]?=some j:=⟨_,ah (by rw [h.1]; exact hk)⟩
 have h1:=h.2 k j p hj hp
 have h2:=jb k j hj
 omega
variable {qs:List Int} {d i:Int}
theorem aco (jb:∀(k:Nat) (j:JV),js[k]?=some j→-4194304≤j.lo∧j.hi≤4194304) (ip:mi js ps) (iq:mi js qs) (hd:0≤d∧d≤20) (hi:0≤i∧i<2^d.toNat):∀(k:Nat) (j:JV) (b:Int×Int),js[k]?=some j→(nX ps qs d i)[k]?=some b→(j.lo≤b.1∧b.1≤b.2∧b.2≤j.hi)∧-4194304≤j.lo∧j.hi≤4194304:=fun k j b hj hb=>by
 obtain ⟨p,q,hp,hq,rfl⟩:=QN _ _ _ _ _ _ hb
 have h1:=ahw jb ip k p hp
 have h2:=ahw jb iq k q hq
 have h3:=ip.2 k j p hj hp
 have h4:=iq.2 k j q hj hq
 obtain ⟨m1,m2,m3⟩:=acp h1 h2 hd hi
 refine ⟨⟨?_,m2,?_⟩,jb k j hj⟩
 ·simp only; omega
 ·simp only; omega
variable {B0 B1 Sp Sq:dY} {mvs:List MV}
theorem acF (h:jW w ex B0 B1 js mvs) (hP:Sp.2.1=ps.length) (hQ:Sq.2.1=qs.length) (sP:Sl w Sp.1 1 (fF ps)) (sQ:Sl w Sq.1 1 (fF qs)) (ip:mi js ps) (iq:mi js qs) :
  Calls aa 26 #[.agg ⟨[dJ B0,dJ B1]⟩,dJ Sp,dJ Sq] w fun e w'=>Below w.heap.size w w'∧∃W:dY,e=.returned (.tuple ⟨[dJ W,.bool true]⟩)∧W.2.1=(gZ js ps qs js.length).length∧Sl w' W.1 2 (rH (gZ js ps qs js.length)):=by
 obtain ⟨oa,n,c⟩:=B0
 obtain ⟨om,m,cm⟩:=B1
 obtain ⟨op,np,cp⟩:=Sp
 obtain ⟨oq,nq,cq⟩:=Sq
 have h1:=h.b0; have h2:=h.b1
 simp only at h1 h2 hP hQ
 subst h1 h2 hP hQ
 refine (ajI oa om op oq c cm cp cq js mvs ps qs w h.sB h.sM sP sQ h.ok ip iq).mono fun e w' hr=>?_
 obtain ⟨hb,oa',cap,rfl,hs⟩:=hr
 exact ⟨hb,(oa',_,cap),rfl,rfl,hs⟩
theorem Dc {t:Nat×Value}:∀{l:List (Nat×Value)},t∈l→(l.map (·.1)).Nodup→lookO t.1 l=some t.2
 | [],h,_=>by cases h
 | (j,x)::l,h,nd=>by
  have nd':=ag5.1 (show (j::l.map (·.1)).Nodup from nd)
  unfold lookO
  rcases ag.1 h with r | r
  ·subst r; simp
  ·have hne:ay t.1 j=false:=by
    cases hb:ay t.1 j with
    | false=>rfl
    | true=>exact absurd (List.mem_map_of_mem (f:=(·.1)) r) (by rw [bf hb]; exact nd'.1)
   rw [hne]
   exact Dc r nd'.2
theorem WI (js:List JV) (Ps:List iF) (mvs:List MV) (f:Bool):(wG js Ps mvs f).1.length=mvs.length:=by
 have:∀(l:List MV) (acc:List MD×Bool),(l.foldl (yt js Ps) acc).1.length=acc.1.length+l.length:=by
  intro l
  induction l with
  | nil=>intro acc; simp
  | cons m l ih=>intro acc; simp only [List.foldl_cons,ih,dB,yt,afa,aeT]; omega
 simpa [wG] using this mvs ([],f)
theorem GX {x y z:Int} (h:jW w [] B0 B1 js mvs) (hm2:mvs.length≤2) (hP:Sp.2.1=ps.length) (hQ:Sq.2.1=qs.length) (sP:Sl w Sp.1 1 (fF ps)) (sQ:Sl w Sq.1 1 (fF qs)) (ip:mi js ps) (iq:mi js qs) (hd:0≤d∧d≤20) (hi:0≤i∧i<2^d.toNat)
  (hx:-16777216≤x∧x≤16777216) (hy:-16777216≤y∧y≤16777216) (hz:-16777216≤z∧z≤16777216) :
  Calls aa 20 #[.agg ⟨[dJ B0,dJ B1]⟩,.agg ⟨[num x,num y,num z]⟩,dJ Sp,dJ Sq,num d,num i] w (VB w js.length (xq js mvs ps qs d i x y z)):=by
 have hn:=h.n
 have hpl:=ip.1
 have hql:=iq.1
 have jb:∀(k:Nat) (j:JV),js[k]?=some j→-4194304≤j.lo∧j.hi≤4194304:=fun k j hk=>Pp (h.ok.2.1 k j hk)
 have hbox:=aco jb ip iq hd hi
 have hbl:(nX ps qs d i).length=js.length:=by rw [QO _ _ _ _ (by omega)]; omega
 have hin:MQ js (nX ps qs d i):=fun k j b hj hb=>by
  obtain ⟨⟨a1,a2,a3⟩,a4,a5⟩:=hbox k j b hj hb
  unfold ou qB fC
  simp only [decide_eq_true (show -2147483648≤b.1 by omega),decide_eq_true a2,decide_eq_true (show b.2≤2147483648 by omega),decide_eq_true (show -2147483648≤j.lo by omega),decide_eq_true (show j.lo≤j.hi by omega),decide_eq_true (show j.hi≤2147483648 by omega),decide_eq_true a1,decide_eq_true a3,cond_true]
 have hvd:∀b∈nX ps qs d i,fC b.1 b.2=true:=fun b hb=>by
  obtain ⟨k,hk⟩:=cZ hb
  have hkl:=(ai.1 hk).1
  obtain ⟨j,hj⟩:∃j,js[k]?=some j:=⟨_,ah (by omega)⟩
  obtain ⟨⟨a1,a2,a3⟩,a4,a5⟩:=hbox k j b hj hk
  unfold fC
  simp only [decide_eq_true (show -2147483648≤b.1 by omega),decide_eq_true a2,decide_eq_true (show b.2≤2147483648 by omega),cond_true]
 have bpq:∀x∈ps++qs,-2147483648≤x∧x≤2147483648:=fun x hx=>by
  rcases bH.1 hx with r | r<;>obtain ⟨k,hk⟩:=cZ r
  ·have:=ahw jb ip k x hk; omega
  ·have:=ahw jb iq k x hk; omega
 refine calls_of_wp Tryz.func20 (c:=(dN aY)) (by kernel_rfl) ?_
 rw [WQ]
 have s0:dP (dS 133 [(0,.agg ⟨[dJ B0,dJ B1]⟩),(1,.agg ⟨[num (x),num (y),num (z)]⟩),(2,dJ Sp),(3,dJ Sq),(4,num (d)),(5,num (i))]) [] [] { tmps:=#[.agg ⟨[dJ B0,dJ B1]⟩,.agg ⟨[num x,num y,num z]⟩,dJ Sp,dJ Sq,num d,num i]++aji (aY.ntmps - 6) undef,defers:=[] } w :=
  adD (n:=133) (m:=127) (xs:=[.agg ⟨[dJ B0,dJ B1]⟩,.agg ⟨[num x,num y,num z]⟩,dJ Sp,dJ Sq,num d,num i]) rfl (fun p hp=>by
   simp only [ag,ae,or_false] at hp
   rcases hp with rfl | rfl | rfl | rfl | rfl | rfl<;>rfl) (fun x hx=>by cases hx) (by simp)
 refine adY (w0:=w) (X:=(none,0,0)) (W:=(none,0,0)) (A:=(none,0,0)) (M:=(none,0,0)) (f:=false) (fun q hq=>by cases hq) (by simp) s0 (dO.refl w _) fun a1 w1 nr ng hn1 nd1 s1 k1=>?_
 have r1:lI w1 [] nr [dJ B0,dJ B1]:=Q3 (e:=35) s1 (by simp) (by simp) (by simp)
 have r2:lI w1 [] ng [num x,num y,num z]:=Q3 (e:=40) s1 (by simp) (by simp) (by simp)
 have s1':=dP.sub (l':=[(2,dJ Sp),(3,dJ Sq),(4,num (d)),(5,num (i)),(6,dK nr),(7,dK ng)]) (gs':=[]) (ls':=[]) s1 (fun x hx=>by
  simp only [ag,ae,or_false] at hx
  rcases hx with rfl | rfl | rfl | rfl | rfl | rfl<;>rfl) (fun x hx=>(by cases hx)) (fun x hx=>by cases hx) (by simp)
 refine wp_seq (yC (by kernel_rfl) (xN 4 ?_))
 refine adZ (w0:=w1) (X:=(none,0,0)) (W:=(none,0,0)) (A:=(none,0,0)) (M:=(none,0,0)) (f:=false) (nc:=0) (Sp:=Sp) (Sq:=Sq) (d:=d) (i:=i) r1 r2 (fun q hq=>by cases hq) (by simp) s1' (dO.refl w1 _) fun a2 w2 s2 k2=>?_
 have K2:dO w [] w2:=k1.trans k2
 have F2:=nQ K2
 refine Eh WY s2 rfl (acn (by omega) (by omega) (by omega) hP hQ (l8 sP F2 (kX _) fun a ha _=>by simp) (l8 sQ F2 (kX _) fun a ha _=>by simp) hd hi bpq) fun e w3 hp=>?_
 obtain ⟨hb3,gl,g1,g2,rfl,g4⟩:=hp
 have k3:=uo hb3
 refine ⟨_,rfl,?_⟩
 have s3:=yX (BF (BG s2 fun q hq=>k3.frame q (qE s2 q hq) (by simp)) 34 (kC true gl ps.length ps.length))
 have s3':=dP.sub (l':=[(2,dJ Sp),(3,dJ Sq),(4,num (d)),(5,num (i)),(6,dK nr),(7,dK ng),(34,.tuple ⟨[dJ (some ⟨gl,0,none⟩,ps.length,ps.length),.bool true]⟩)]) (gs':=[]) (ls':=[]) s3 (fun x hx=>by
  simp only [ag,ae,or_false] at hx
  rcases hx with rfl | rfl | rfl | rfl | rfl | rfl | rfl<;>rfl) (fun x hx=>(by cases hx)) (fun x hx=>by cases hx) (by simp)
 refine y9 (ad1 (w0:=w3) (X:=(some ⟨gl,0,none⟩,ps.length,ps.length)) (W:=(none,0,0)) (A:=(none,0,0)) (M:=(none,0,0)) (f:=false) (nc:=0) (Sp:=Sp) (Sq:=Sq) (d:=d) (i:=i) (r1.mv (k2.trans k3) (by simp)) (r2.mv (k2.trans k3) (by simp)) (fun q hq=>by cases hq) (by simp) s3' (dO.refl w3 _) fun a4 w4 s4 k4=>?_)
 have sX3:Sl w3 ((some ⟨gl,0,none⟩,ps.length,ps.length):dY).1 2 (jE (nX ps qs d i)):=WN g4
 refine wp_seq (yC (by kernel_rfl) (xN 3 ?_))
 refine ad2 (w0:=w4) (X:=(some ⟨gl,0,none⟩,ps.length,ps.length)) (W:=(none,0,0)) (A:=(none,0,0)) (M:=(none,0,0)) (f:=false) (nc:=0) (Sp:=Sp) (Sq:=Sq) (d:=d) (i:=i) (r1.mv ((k2.trans k3).trans k4) (by simp)) (r2.mv ((k2.trans k3).trans k4) (by simp)) (fun q hq=>by cases hq) (by simp) s4 (dO.refl w4 _) fun a5 w5 s5 k5=>?_
 have K5:dO w [] w5:=((K2.trans k3).trans k4).trans k5
 have F5:=nQ K5
 refine Eh WZ s5 rfl (acF (h.fz F5) hP hQ (l8 sP F5 (kX _) fun a ha _=>by simp) (l8 sQ F5 (kX _) fun a ha _=>by simp) ip iq) fun e w6 hr=>?_
 obtain ⟨hb6,W,rfl,hWl,sW6⟩:=hr
 have k6:=uo hb6
 refine ⟨_,rfl,?_⟩
 have s6:=yX (BF (BG s5 fun q hq=>k6.frame q (qE s5 q hq) (by simp)) 41 (.tuple ⟨[dJ W,.bool true]⟩))
 have s6':=dP.sub (l':=[(2,dJ Sp),(3,dJ Sq),(4,num (d)),(5,num (i)),(6,dK nr),(7,dK ng),(14,dJ (some ⟨gl,0,none⟩,ps.length,ps.length)),(15,.bool true),(41,.tuple ⟨[dJ W,.bool true]⟩)]) (gs':=[]) (ls':=[]) s6 (fun x hx=>by
  simp only [ag,ae,or_false] at hx
  rcases hx with rfl | rfl | rfl | rfl | rfl | rfl | rfl | rfl | rfl<;>rfl) (fun x hx=>(by cases hx)) (fun x hx=>by cases hx) (by simp)
 have k36:dO w3 [] w6:=(k4.trans k5).trans k6
 have k16:dO w1 [] w6:=(k2.trans k3).trans k36
 refine y9 (ad3 (w0:=w6) (X:=(some ⟨gl,0,none⟩,ps.length,ps.length)) (W:=W) (A:=(none,0,0)) (M:=(none,0,0)) (f:=false) (nc:=0) (Sp:=Sp) (Sq:=Sq) (d:=d) (i:=i) (r1.mv k16 (by simp)) (r2.mv k16 (by simp)) (fun q hq=>by cases hq) (by simp) s6' (dO.refl w6 _) fun a7 w7 s7 k7=>?_)
 have k37:=k36.trans k7
 have K7:dO w [] w7:=(K2.trans k3).trans k37
 have sX7:=kI sX3 k37 fun a ha=>by simp
 have hXl:((some ⟨gl,0,none⟩,ps.length,ps.length):dY).2.1=(nX ps qs d i).length:=by rw [hbl]; exact hpl.symm
 refine ad4 (w0:=w7) (X:=(some ⟨gl,0,none⟩,ps.length,ps.length)) (W:=W) (A:=(none,0,0)) (M:=(none,0,0)) (f:=false) (nc:=0) (Sp:=Sp) (Sq:=Sq) (d:=d) (i:=i) (fun z_ hz_=>?_) (r1.mv (k16.trans k7) (by simp)) (r2.mv (k16.trans k7) (by simp)) (fun q hq=>by cases hq) (by simp) s7 (dO.refl w7 _) fun a8 w8 s8 k8=>?_
 ·simp only [ag,ae,or_false] at hz_
  subst hz_
  intro w' hF
  have hF':iV (w7,[]) w':=hF
  refine ⟨[.agg ⟨[dJ B0,dJ B1]⟩,.agg ⟨[num x,num y,num z]⟩,dJ (some ⟨gl,0,none⟩,ps.length,ps.length)],by kernel_rfl,?_⟩
  exact (adH ((h.fz (nQ K7)).fz hF') hbl hXl (l8 sX7 hF' (MR _) fun a ha _=>by simp) (fun a ha=>by simp) hin hx hy hz).mono fun e w'' ⟨q1,q2⟩=>⟨q2,.bool true,rfl,q1⟩
 refine ad5 (w0:=w8) (X:=(some ⟨gl,0,none⟩,ps.length,ps.length)) (W:=W) (A:=(none,0,0)) (M:=(none,0,0)) (f:=false) (Sp:=Sp) (Sq:=Sq) (d:=d) (i:=i) (r1.mv ((k16.trans k7).trans k8) (by simp)) (r2.mv ((k16.trans k7).trans k8) (by simp)) (fun q hq=>by cases hq) (by simp) s8 (dO.refl w8 _) fun a9 w9 nc hn9 nd9 s9 k9=>?_
 have k19:dO w1 [] w9:=((k16.trans k7).trans k8).trans k9
 have K9:dO w [] w9:=k1.trans k19
 have hnc1:=(hn9 nc (by simp)).1
 have z1:=k1.size; have z19:=k19.size
 have z18:w1.heap.size≤w8.heap.size:=((k16.trans k7).trans k8).size
 have z68:w6.heap.size≤w8.heap.size:=(k7.trans k8).size
 have z38:w3.heap.size≤w8.heap.size:=(k37.trans k8).size
 have hr1:=(hn1 nr (by simp)).2; have hr2:=(hn1 ng (by simp)).2
 have dr1:nr∉[nc]:=by simp; omega
 have dr2:ng∉[nc]:=by simp; omega
 refine wp_seq (yC (by kernel_rfl) (xN 3 ?_))
 refine ad6 (w0:=w9) (X:=(some ⟨gl,0,none⟩,ps.length,ps.length)) (W:=W) (A:=(none,0,0)) (M:=(none,0,0)) (f:=false) (Sp:=Sp) (Sq:=Sq) (d:=d) (i:=i) (r1.mv k19 dr1) (r2.mv k19 dr2) (fun q hq=>.inl (by simpa using hq)) (by simp) s9 (dO.refl w9 _) fun a10 w10 s10 k10'=>?_
 have k10:dO w9 [] w10:=CX k10' fun g hg=>by
  simp only [ag,ae,or_false] at hg
  subst hg
  exact (s10.gl _ aA).trans (s9.gl _ aA).symm
 have K10:dO w [] w10:=K9.trans k10
 have k3_10:dO w3 [] w10:=((k37.trans k8).trans k9).trans k10
 have hRb:jW w10 [nc] B0 B1 js mvs:=(h.fz (nQ K10)).Z8 (fun a ha=>by have:=(h.xB a ha).2; omega) (fun a ha h0=>by have:=(h.xM a ha h0).2; omega)
 refine Eh WW s10 rfl (Z7 (X:=(some ⟨gl,0,none⟩,ps.length,ps.length)) hRb hbl hXl (kI sX3 k3_10 fun a ha=>by simp) (fun a ha=>by injection ha with ha; subst ha; simp; omega) hvd (s10.gl _ aA)) fun e w11 hB=>?_
 obtain ⟨A,M,mbs,rfl,k11,hfl,hAl,sA,xA,hMl,sM,xM,hmd,hmb⟩:=hB
 refine ⟨_,rfl,?_⟩
 have s10':=dP.sub (gs':=[]) (ls':=[]) s10 (fun x hx=>Dc hx (by simp)) (fun x hx=>by cases hx) (fun x hx=>hx) (by simp)
 have s11:=adB (yX (BF (BG s10' fun q hq=>by cases hq) 62 (afp nc B0 B1 A M))) hfl (by simp)
 have s11':=dP.sub (l':=[(6,dK nr),(7,dK ng),(16,dJ W),(18,dK nc),(62,.agg ⟨[dK nc,dJ B0,dJ B1,dJ A,dJ M]⟩)]) (gs':=[(nc,[.bool (wG js (jH [] js (nX ps qs d i)) mvs false).2],88)]) (ls':=[]) s11 (fun x hx=>by
  simp only [ag,ae,or_false] at hx
  rcases hx with rfl | rfl | rfl | rfl | rfl<;>rfl) (fun x hx=>hx) (fun x hx=>by cases hx) (by simp)
 have k1_10:dO w1 [] w10:=k19.trans k10
 refine y9 (ad7 (w0:=w11) (X:=(none,0,0)) (W:=W) (A:=A) (M:=M) (d:=d) (i:=i) (Sp:=Sp) (Sq:=Sq) (f:=(wG js (jH [] js (nX ps qs d i)) mvs false).2) ((r1.mv k1_10 dr1).mv k11 dr1) ((r2.mv k1_10 dr2).mv k11 dr2) (fun q hq=>.inl (by simpa using hq)) (by simp) s11' (dO.refl w11 _) fun a12 w12 nb hn12 nd12 s12 k12'=>?_)
 have k12:dO w11 [] w12:=CX k12' fun g hg=>by
  simp only [ag,ae,or_false] at hg
  subst hg
  exact (s12.gl _ aA).trans hfl.symm
 have k10_12:dO w10 [nc] w12:=k11.comp k12 fun g hg=>by cases hg
 have z10:=k10.size; have z11:=k11.size; have z12:=k12.size
 have hnb:=(hn12 nb (by simp)).1
 have hnc2:nc<w10.heap.size:=(aB.1 (s10.gl _ aA)).1
 have hlen:mbs.length=mvs.length:=by
  have e1:=congrArg ae1 hmd
  rw [dF] at e1
  rw [e1]
  exact WI js _ mvs false
 have aW:∀a,W.1=some a→a.block≠nc:=fun a ha e=>by
  obtain ⟨b,off,e1,hR⟩:=sW6 (fun e=>by have h0:=congrArg ae1 e; rw [show (rH (gZ js ps qs js.length)).length=js.length by simp [rH,gZ]] at h0; simp only [aeT] at h0; omega)
  rw [ha] at e1; injection e1 with e1; subst e1
  have:=hR.lt
  simp only at e
  omega
 have hS:sI w12 nc W B0 A (gZ js ps qs js.length) (nu js (jH [] js (nX ps qs d i))) js :=
  {
   wl:=hWl,b3:=h.b0,b5:=by rw [hAl]; simp [nu,EY [] js _ hbl],l1:=by simp [gZ],l2:=by simp [nu,EY [] js _ hbl]
   BC:=kI (kI sW6 (((k7.trans k8).trans k9).trans k10) fun a ha=>by simp) k10_12 fun a ha=>by simpa using aW a ha
   mH:=kI (h.fz (nQ K10)).sB k10_12 fun a ha=>(hRb.xB a ha).1
   GK:=kI sA k12 fun a ha=>by simp
   aW:=aW,aK:=fun a ha=>by simpa using (hRb.xB a ha).1,aX:=xA }
 have hBo:kr w12 nc js.length B0 M mbs :=
  {
   n1:=hn,b0:=h.b0,b3:=hMl,m2:=by omega,rows:=kI sM k12 fun a ha=>by simp,aM:=xM
   ok:=fun i m hm=>{ (hmb i m hm).1 with qU:=kI (hmb i m hm).1.qU k12 fun a ha=>by simp,dJ:=kI (hmb i m hm).1.dJ k12 fun a ha=>by simp } }
 have hws:jR w12 [nc] (mY nr ng nb nc x y z B0 B1 A M):=fun q hq=>by
  simp only [mY,ag,ae,or_false] at hq
  rcases hq with rfl | rfl | rfl
  ·exact ((r1.mv k1_10 dr1).mv k11 dr1).mv k12' dr1
  ·exact ((r2.mv k1_10 dr2).mv k11 dr2).mv k12' dr2
  ·exact ⟨⟨(hn12 nb (by simp)).2,by simp; omega⟩,M0 (s12.gl _ (aT _ aA)) (aO _)⟩
 have s13:=dP.sub (l':=[(6,dK nr),(7,dK ng),(16,dJ W),(18,dK nc),(19,dK nb)]) (gs':=[(nc,[.bool (wG js (jH [] js (nX ps qs d i)) mvs false).2],88)]) (ls':=[]) s12 (fun x hx=>by
  simp only [ag,ae,or_false] at hx
  rcases hx with rfl | rfl | rfl | rfl | rfl<;>rfl) (fun x hx=>(by simp only [ag,ae,or_false] at hx; subst hx; exact aA)) (fun x hx=>by cases hx) (by simp)
 refine wp_mono (aeh hS hBo rfl (fun m hm=>by obtain ⟨k,hk⟩:=cZ hm; exact (hmb k m hk).2) hws s13 (dO.refl w12 _)) (acv fun e w' hT=>?_)
 obtain ⟨t1,t2,t3⟩:=hT
 have Kf:dO w [] w':=((K10.comp k10_12 fun g hg=>by simp at hg; subst hg; right; omega).comp t1 fun g hg=>by simp at hg; subst hg; right; omega)
 rw [aef,UN,UO,Q5,hmd] at *
 exact ⟨xG Kf,t2,fun hF=>by obtain ⟨gl',q1,q2⟩:=t3 hF; exact ⟨gl',by have:=(K10.size); omega,q2⟩⟩
end Go.Proofs
end
section
namespace Go.Proofs
open Go.Sm Go.RowKit En
def smR (x:Int×Int):Prop:=(-1152921504606846976≤x.1∧x.1≤1152921504606846976)∧-1152921504606846976≤x.2∧x.2≤1152921504606846976
def pR (x y:Int×Int):Int×Int:=(x.1+y.1,x.2+y.2)
theorem afA (x:Int) (h1:-9223372036854775808≤x) (h2:x≤9223372036854775807):wr x=x:=dz x (by omega)
theorem afP (a b:Int):pW a b=true↔-1152921504606846976≤a∧a≤b∧b≤1152921504606846976:=by
 unfold pW
 by_cases h1:-1152921504606846976≤a
 ·by_cases h2:a≤b
  ·simp [h1,h2]
  ·simp [h1,h2]
 ·simp [h1]
variable {x:Int×Int}
theorem afI {y:Int×Int} (h:zg x y=false):qH x y=pR x y∧smR (pR x y):=by
 obtain ⟨a,b⟩:=x
 obtain ⟨c,d⟩:=y
 unfold zg at h
 simp only [amH] at h
 unfold oo at h
 cases h1:pW a b with
 | false=>simp [h1] at h
 | true =>
  cases h2:pW c d with
  | false=>simp [h1,h2] at h
  | true =>
   cases h3:pW (wr (a+c)) (wr (b+d)) with
   | false=>simp [h1,h2,h3] at h
   | true =>
    have k1:=(afP _ _).1 h1
    have k2:=(afP _ _).1 h2
    have k3:=(afP _ _).1 h3
    have e1:=afA (a+c) (by omega) (by omega)
    have e2:=afA (b+d) (by omega) (by omega)
    rw [e1,e2] at k3 h3
    refine ⟨?_,⟨by simp only [pR]; omega,by simp only [pR]; omega⟩,by simp only [pR]; omega,by simp only [pR]; omega⟩
    unfold qH akB MU mq mD
    simp only [h1,h2,e1,e2,h3,cond_true,pR]
structure afv (L B A:List (Int×Int)):Prop where
 lA:A.length=L.length
 lB:B.length=L.length
 at_:∀k,A.getD k (0,0)=pR (L.getD k (0,0)) (B.getD k (0,0))
theorem afZ {l:List (Int×Int)} {j k:Nat}:(l.set j x).getD k (0,0)=if j=k∧k<l.length then x else l.getD k (0,0):=by
 simp only [amI,List.getElem?_set]
 by_cases h:j=k
 ·subst h
  by_cases h2:j<l.length
  ·simp [h2]
  ·simp [h2]
 ·simp [h]
def smL (l:List (Int×Int)):Prop:=∀k,smR (l.getD k (0,0))
theorem agc (n k:Nat):(ag6 n ((0:Int),(0:Int))).getD k (0,0)=(0,0):=by
 simp only [amI,List.getElem?_replicate]
 split<;>rfl
structure gX (n:Nat) (U V T:List (Int×Int)):Prop where
 sum:afv U V T
 lT:T.length=n
 sT:smL T
 sU:smL U
 sV:smL V
variable {js:List JV} {axs ogs:List V6} {at_:V6}
theorem ag1 {p q:List Int×List V6×Bool} {j:Int} (h:p.1=q.1∧p.2.1=q.2.1):(j5 js axs ogs at_ p j).1=(j5 js axs ogs at_ q j).1∧(j5 js axs ogs at_ p j).2.1=(j5 js axs ogs at_ q j).2.1:=by
 unfold j5
 cases (js.getD j.toNat ER).kind==0 with
 | true=>exact h
 | false =>
  cases kG (js.getD j.toNat ER).kind with
  | true=>simp only [cond_true,cond_false,h.1,h.2,and_self]
  | false=>simp only [cond_false,h.1,h.2,and_self]
theorem agb {js:List JV} {axs ogs:List V6} {at_:V6}:∀(l:List Int) {p q:List Int×List V6×Bool},p.1=q.1∧p.2.1=q.2.1→(l.foldl (j5 js axs ogs at_) p).1=(l.foldl (j5 js axs ogs at_) q).1∧(l.foldl (j5 js axs ogs at_) p).2.1=(l.foldl (j5 js axs ogs at_) q).2.1
 | [],_,_,h=>h
 | _::l,_,_,h=>agb l (ag1 h)
theorem agL (js:List JV) (Ps:List iF) (mv:MV) (f g:Bool):(Kj js Ps mv f).1=(Kj js Ps mv g).1:=by
 unfold Kj
 have h:=agb (js:=js) (axs:=nu js Ps) (ogs:=Ps.map kM) (at_:=jS (Ps.getD mv.link.toNat pz) mv.p0 mv.p1 mv.p2) (jd js 4 mv.link []) (p:=([],[],f)) (q:=([],[],g)) ⟨rfl,rfl⟩
 simp only [h.1,h.2]
def mO (js:List JV) (Ps:List iF) (mv:MV):MB:=(Kj js Ps mv false).1.mb
theorem afT (js:List JV) (Ps:List iF):∀(ms:List MV) (acc:List MD×Bool),(ms.foldl (yt js Ps) acc).1.map MD.mb=acc.1.map MD.mb++ms.map (mO js Ps)
 | [],acc=>by simp
 | m::ms,acc=>by
  rw [List.foldl_cons,afT js Ps ms]
  simp only [yt,List.map_append,dI,ae9,afd,dw,dD,mO,agL js Ps m acc.2 false]
theorem agD (js:List JV) (Ps:List iF) (ms:List MV):(wG js Ps ms false).1.map MD.mb=ms.map (mO js Ps):=by
 unfold wG
 rw [afT]
 rfl
end Go.Proofs
end
section
namespace Go.Proofs
open Go.Sm Go.RowKit En
theorem VP (w:World):Calls aa 16 #[] w fun e w'=>e=.returned (.bool true)∧Below w.heap.size w w' :=
 uQ (u:=.bool true) (ys:=[]) (Z:=(w,[])) (l:=[]) (bs:=[]) (sl:=[]) (ws:=[]) (g:=[]) (wt:=[]) (lt:=[]) (wb:=[]) (QT:=[]) (NT:=[]) (xs:=[]) ⟨fB _,all_nil,all_nil,all_nil,fun m hm hl=>⟨all_nil,all_nil,all_nil⟩⟩ (by kernel_rfl) (by kernel_rfl) (by kernel_rfl) (by kernel_rfl) (nQ (dO.refl w []))
end Go.Proofs
end
section
namespace Go.Proofs
open Go.Sm Go.RowKit En
structure Hd (c:Code) (k:Nat) (f:FuncId) (xs:List Operand) (d:Tmp):Prop where
 h:∃(o:Oper) (ags:Array Operand) (ts:Array TypeId) (fn:Func),(opsOf c).drop k=o::(opsOf c).drop (k+1)∧o.guard=none∧o.dst=some d∧o.op=.call { callee:=.value (.func f),args:=ags,argTypes:=ts }∧ags.toList=xs∧aa.funcs[f]?=some fn∧fn.body.isSome=true
def Nb (P:Program) (c:Code) (k:Nat):Option (FuncId×List Operand×Tmp):=match (opsOf c)[k]? with
 | some o=>match o.guard,o.dst,o.op with
  | none,some d,.call ⟨.value (.func f),ags,_⟩=>match P.funcs[f]? with
   | some fn=>bif fn.body.isSome then some (f,ags.toList,d) else none
   | _=>none
  | _,_,_=>none
 | none=>none
variable {c:Code} {k:Nat} {f:FuncId}
theorem WX {xs:List Operand} {d:Tmp} (h:Nb aa c k=some (f,xs,d)):Hd c k f xs d:=by
 unfold Nb at h
 split at h
 case h_2=>cases h
 rename_i o ho
 split at h
 case h_2=>cases h
 rename_i d' f' ags ts h1 h2 h3
 split at h
 case h_2=>cases h
 rename_i fn h4
 cases hb:fn.body.isSome with
 | false=>rw [hb] at h; cases h
 | true =>
  rw [hb] at h
  simp only [cond_true,ak,aP] at h
  obtain ⟨rfl,rfl,rfl⟩:=h
  obtain ⟨hlt,he⟩:=ai.1 ho
  exact ⟨o,ags,ts,fn,by rw [←he]; exact List.drop_eq_getElem_cons hlt,h1,h2,h3,rfl,h4,hb⟩
def FH (us:List (Option Value)):Operand→Option Value
 | .tmp x=>match us[x]? with
  | some v=>v
  | none=>none
 | .const v=>some v
 | _=>none
variable {us:List (Option Value)} {gs ls:List gQ} {a:Act} {w:World}
theorem aaZ (h:dP us gs ls a w) {o:Operand} {v:Value} (e:FH us o=some v):a.eval o=v:=by
 cases o with
 | tmp x =>
  unfold FH at e
  simp only at e
  split at e
  ·rename_i u hu; exact GV h (by rw [hu,e])
  ·cases e
 | const u=>injection e
 | global g=>cases e
 | func f=>cases e
def afx (us:List (Option Value)):List Operand→Option (List Value)
 | []=>some []
 | o::l=>match FH us o,afx us l with
  | some v,some r=>some (v::r)
  | _,_=>none
theorem QF {us:List (Option Value)} {gs ls:List gQ} {a:Act} {w:World} (h:dP us gs ls a w):∀(xs:List Operand) (vs:List Value),afx us xs=some vs→xs.map a.eval=vs
 | [],vs,e=>by simp only [afx,ak] at e; subst e; rfl
 | x::xs,vs,e=>by
  unfold afx at e
  cases h1:FH us x with
  | none=>simp [h1] at e
  | some v =>
   cases h2:afx us xs with
   | none=>simp [h1,h2] at e
   | some vs' =>
    simp only [h1,h2,ak] at e
    subst e
    rw [dI,aaZ h h1,QF h xs vs' h2]
theorem Xa {xs:List Operand} {d:Tmp} {Q:Exit→Act→World→Prop} {vs:List Value} {RP:Ending→World→Prop} (hA:Hd c k f xs d) (h:dP us gs ls a w) (hx:afx us xs=some vs) (hC:Calls aa f vs.toArray w RP) (hR:∀e w',RP e w'→∃v,e=.returned v∧wpList aa (opsOf c).toArray Q ((opsOf c).drop (k+1)) (a.put (some d) v) w'):wpList aa (opsOf c).toArray Q ((opsOf c).drop k) a w:=by
 obtain ⟨o,ags,ts,fn,h1,h2,h3,h4,h5,h6,h7⟩:=hA.h
 rw [h1]
 refine MZ Tryz.ky h2 h4 h6 h7 (xs:=vs) ?_ (hC.mono fun e w' hr=>?_)
 ·rw [h5]; exact QF h xs vs hx
 ·obtain ⟨v,e1,e2⟩:=hR e w' hr
  rw [h3]
  exact ⟨v,e1,e2⟩
theorem L6 (a n:Int) (hn:0<n):-n<a.tmod n∧a.tmod n<n:=⟨Int.lt_tmod_of_pos a hn,Int.tmod_lt_of_pos a hn⟩
theorem xy (x:Int) (h1:-9223372036854775808≤x) (h2:x≤9223372036854775807):wr x=x:=dz x (by omega)
theorem JX (x y z:Int):(-16777216≤rR x y z∧rR x y z≤16777216)∧(-16777216≤rT x y z∧rT x y z≤16777216)∧(-16777216≤rU x y z∧rU x y z≤16777216):=by
 have t0:=L6 x 40001 (by omega)
 have t1:=L6 y 40001 (by omega)
 have t2:=L6 z 2097152 (by omega)
 unfold rR rT rU
 generalize x.tmod 40001=p at *
 generalize y.tmod 40001=q at *
 generalize z.tmod 2097152=r at *
 rw [xy (p+40001) (by omega) (by omega),xy (q+40001) (by omega) (by omega),xy (r+2097152) (by omega) (by omega),xy (p+40001 - 20000) (by omega) (by omega),xy (q+40001 - 20000) (by omega) (by omega),xy (r+2097152 - 1048576) (by omega) (by omega),xy (p - 20000) (by omega) (by omega),xy (q - 20000) (by omega) (by omega),xy (r - 1048576) (by omega) (by omega)]
 cases decide (p<0)<;>cases decide (q<0)<;>cases decide (r<0)<;>simp only [cond_true,cond_false]<;>omega
theorem JW (x y z:Int):FN 255 [x,y,z]=rR x y z∧FN 256 [x,y,z]=rT x y z∧FN 257 [x,y,z]=rU x y z:=⟨by kernel_rfl,by kernel_rfl,by kernel_rfl⟩
theorem jW.Fq {ex:List Nat} {B0 B1:dY} {js:List JV} {mvs:List MV} (h:jW w ex B0 B1 js mvs):jW w [] B0 B1 js mvs :=
 { h with xB:=fun a ha=>⟨by simp,(h.xB a ha).2⟩,xM:=fun a ha h0=>⟨by simp,(h.xM a ha h0).2⟩ }
def pY:List (Int×Int)→List (Int×Int)→List (Int×Int)→List (List Value)
 | u::us,x::xs,g::gs=>[num u.1,num u.2,num x.1,num x.2,num g.1,num g.2]::pY us xs gs
 | _,_,_=>[]
theorem UL:∀us xs gs,(pY us xs gs).flatten=xu us xs gs
 | u::us,x::xs,g::gs=>by unfold pY xu; rw [List.flatten_cons,UL us xs gs]; rfl
 | [],_,_=>rfl
 | _::_,[],_=>rfl
 | _::_,_::_,[]=>rfl
theorem UM:∀us xs gs,∀r∈pY us xs gs,r.length=6
 | u::us,x::xs,g::gs,r,h=>by
  unfold pY at h
  rcases ag.1 h with rfl | h
  ·rfl
  ·exact UM us xs gs r h
 | [],_,_,r,h=>by simp [pY] at h
 | _::_,[],_,r,h=>by simp [pY] at h
 | _::_,_::_,[],r,h=>by simp [pY] at h
theorem aeg {g n:Nat} {us xs gs:List (Int×Int)} (h:w.heap[g]?=some (.cells ⟨xu us xs gs⟩ 47 (0,0))):Sl w ((some ⟨g,0,none⟩,n,n):dY).1 6 (pY us xs gs):=fun _=>⟨g,0,rfl,(aB.1 h).1,fun i r hi k v hk=>by
 have:=flat_get (pY us xs gs) 6 (UM us xs gs) i r hi k v hk
 rw [←UL] at h
 simpa [bS,h,List.flatMap] using this⟩
theorem H6 {E:Env}:∀z_∈([⟨16,[],.val (.bool true)⟩]:List Qt),jB aa E z_:=fun z_ hz=>by
 simp only [ag,ae,or_false] at hz
 subst hz
 exact fun w _=>⟨[],rfl,(VP w).mono fun e w' ⟨h1,h2⟩=>⟨h2,.bool true,rfl,h1⟩⟩
end Go.Proofs
end
section
namespace Go.Proofs
open Go.Sm Go.RowKit En
structure afo (w W:World) (Tt:dY) (n:Nat) (T:Mx):Prop where
 fl:T.fl=false
 ln:Tt.2.1=n
 sl:Sl W Tt.1 6 (pY T.us T.xs T.gs)
 bk:∀a,Tt.1=some a→w.heap.size≤a.block
variable {w:World} {Tt:dY} {n:Nat}
theorem afo.keep {W W':World} {T:Mx} {ex:List Nat} (h:afo w W Tt n T) (k:dO W ex W') (hx:∀g∈ex,g<w.heap.size):afo w W' Tt n T :=
 ⟨h.fl,h.ln,kI h.sl k fun a ha hm=>by have:=h.bk a ha; have:=hx _ hm; omega,h.bk⟩
theorem af8:∀(us xs gs:List (Int×Int)) (n:Nat),us.length=n→xs.length=n→gs.length=n→(pY us xs gs).length=n
 | [],_,_,n,h1,_,_=>by subst h1; rfl
 | _::us,[],_,n,h1,h2,_=>by subst h1; simp at h2
 | _::us,_::xs,[],n,h1,_,h3=>by subst h1; simp at h3
 | _::us,_::xs,_::gs,n,h1,h2,h3=>by
  subst h1
  simp only [dB,Nat.add_right_cancel_iff] at h2 h3
  show (pY us xs gs).length+1=_
  rw [af8 us xs gs us.length rfl h2 h3]
  rfl
def afC (us xs gs:List (Int×Int)) (k:Nat):List Value:=[num (us.getD k (0,0)).1,num (us.getD k (0,0)).2,num (xs.getD k (0,0)).1,num (xs.getD k (0,0)).2,num (gs.getD k (0,0)).1,num (gs.getD k (0,0)).2]
theorem af7:∀(us xs gs:List (Int×Int)) (n k:Nat),us.length=n→xs.length=n→gs.length=n→k<n→(pY us xs gs)[k]?=some (afC us xs gs k)
 | [],_,_,n,k,h1,_,_,hk=>by subst h1; cases hk
 | _::us,[],_,n,k,h1,h2,_,_=>by subst h1; simp at h2
 | _::us,_::xs,[],n,k,h1,_,h3,_=>by subst h1; simp at h3
 | _::us,_::xs,_::gs,n,0,_,_,_,_=>rfl
 | _::us,_::xs,_::gs,n,k+1,h1,h2,h3,hk=>by
  subst h1
  simp only [dB,Nat.add_right_cancel_iff] at h2 h3
  simp only [dB] at hk
  exact af7 us xs gs us.length k rfl h2 h3 (by omega)
theorem row_of {w0:World} {us xs gs:List (Int×Int)} {k:Nat} {r:List Value} (sl:Sl w Tt.1 6 (pY us xs gs)) (ln:Tt.2.1=n) (h1:us.length=n) (h2:xs.length=n) (h3:gs.length=n) (hk:k<n) (hr:afC us xs gs k=r) (h0:w0=w):∃b o,fu w0 [] Tt k 6 b o r:=by
 subst hr h0
 exact iy sl (by rw [ln,af8 us xs gs n h1 h2 h3]) (af7 us xs gs n k h1 h2 h3 hk) (by simp [afC]) (fun a ha=>by simp)
end Go.Proofs
end
section
namespace Go.Proofs.En
open Go.RowKit
theorem Yv:(aa.info? 80).map (fun i=>(i.zero,i.size,i.bytes))=some (some (.agg #[.string ⟨#[]⟩,.int .i64 0,.int .i64 0,.int .i64 0,.int .i64 0,.int .i64 0,.int .i64 0,.int .i64 0,.int .i64 0,.int .i64 0,.int .i64 0,.int .i64 0]),12,104):=by kernel_rfl
theorem Yu:(aa.info? 54).map (fun i=>(i.zero,i.size,i.bytes))=some (some (.agg #[.int .i64 0,.int .i64 0,.int .i64 0,.int .i64 0,.int .i64 0]),5,40):=by kernel_rfl
theorem Yt:(aa.info? 2).map (fun i=>(i.zero,i.size,i.bytes))=some (some (.int .i64 0),1,8):=by kernel_rfl
theorem aek:aa.underlying 32=some (.slice 80):=by kernel_rfl
theorem ael:aa.underlying 33=some (.slice 54):=by kernel_rfl
theorem Md:aa.underlying 37=some (.slice 2):=by kernel_rfl
theorem Dg (W:World) (l:List Value) (t:TypeId):∀(j:Nat) (u:Value),l[j]?=some u→(W.alloc (.cells l.toArray t)).cell? ((⟨W.heap.size,0,none⟩:Addr).add j)=some u:=by
 intro j u hu
 have:=(Row.new W l t).c j u hu
 rw [←this]
 congr 1
 unfold Addr.add
 split<;>simp_all
theorem YW (j:JV):∀u∈j.vals,u.oneCell'=true:=by
 intro u hu
 simp [JV.vals] at hu
 rcases hu with rfl | rfl | rfl | rfl | rfl | rfl | rfl | rfl | rfl | rfl | rfl | rfl<;>rfl
theorem ZM (j:MV):∀u∈j.vals,u.oneCell'=true:=by
 intro u hu
 simp [MV.vals] at hu
 rcases hu with rfl | rfl | rfl | rfl | rfl<;>rfl
theorem Zx (n:Nat) (a b c d:Int) (h1:0≤a∧a<n) (h2:0≤b∧b<9000) (h3:-3≤c∧c≤3) (h4:-2≤d∧d≤2):kK n ⟨a,bg.wrap (1+b),bg.wrap (c*32768),0,bg.wrap (d*32768)⟩=true:=by
 rw [dz _ (by omega),dz _ (by omega),dz _ (by omega)]
 simp [kK,lv,wD,AJ]; omega
variable {n:Nat}
theorem Zz {ms:List MV} {m:MV} (h:∀(k:Nat) (m:MV),ms[k]?=some m→kK n m=true) (hm:kK n m=true):∀(k:Nat) (m':MV),(ms++[m])[k]?=some m'→kK n m'=true:=by
 intro k m' hk
 have:=aN hk
 simp at this
 rcases this with h1 | rfl
 ·obtain ⟨i,hi⟩:=cZ h1
  exact h i _ hi
 ·exact hm
theorem agS {W:World} {base size cap m:Nat} {e:TypeId} {oa:Option Addr} {xs:List Value} (h:W.ownsRow base e size (.slice oa n cap) m xs):n≤cap∧(oa=none→cap=0):=by
 rcases h.2 with ⟨h1,_⟩ | ⟨g,cap',cur,h1,_,_,h2,_⟩
 ·injection h1 with h1 h3 h4
  exact ⟨by omega,fun _=>h4⟩
 ·injection h1 with h1 h3 h4
  subst h1 h3 h4
  exact ⟨h2,fun e=>by cases e⟩
def Vz (w:World) (nS:Nat) (e:Ending) (W':World):Prop:=∃js ms oa cj om cm,e=.returned (.agg #[.slice oa (ae1 js) cj,.slice om (ae1 ms) cm])∧(∀W'',(∀g,w.heap.size≤g→g<W'.heap.size→W''.heap[g]?=W'.heap[g]?)→Cf js ms oa om W'')∧w.grownBy W' (some nS)∧(ms.length≤cm∧(om=none→cm=0))
set_option maxRecDepth 100000 in
theorem ac2 (w:World) (nS:Nat) (os:Option Addr) (cap:Nat) (xs:List Int) (hS:Src w nS os cap xs) :
  Calls aa 36 #[.pointer (some ⟨nS,0,none⟩)] w (Vz w nS):=by
 go_enter Tryz.func36,Tryz.ntmps36
 go_wp2_with fail
 have hR:RB w nS w.heap.size (w.heap.size+1) os cap xs [] [] (.slice none 0 0) (.slice none 0 0) ((w.alloc (.cells #[.slice none 0 0,.slice none 0 0] 35)).alloc (.cells #[.slice none 0 0,.slice none 0 0] 35)):=by
  have hb1:Below w.heap.size w (w.alloc (.cells #[.slice none 0 0,.slice none 0 0] 35)):=(aI _ _).alloc (au _) _
  have hb2:Below (w.alloc (.cells #[.slice none 0 0,.slice none 0 0] 35)).heap.size (w.alloc (.cells #[.slice none 0 0,.slice none 0 0] 35)) ((w.alloc (.cells #[.slice none 0 0,.slice none 0 0] 35)).alloc (.cells #[.slice none 0 0,.slice none 0 0] 35)):=(aI _ _).alloc (au _) _
  have e:(w.alloc (.cells #[.slice none 0 0,.slice none 0 0] 35)).heap.size=w.heap.size+1:=by simp
  have B2:=eG.new (w.alloc (.cells #[.slice none 0 0,.slice none 0 0] 35)) [.slice none 0 0,.slice none 0 0] 35
  rw [e] at B2
  exact ⟨zy (jD hb1 hb2),(hS.yl hb1).yl hb2,⟨_,_,(eG.new w [.slice none 0 0,.slice none 0 0] 35).keep hb2⟩,B2,World.ownsRow_nil _ _ _ _,World.ownsRow_nil _ _ _ _,(fun g h=>by cases h),by simp,(fun k j h=>by simp at h),hS.ints,GM hS,au _,Nat.lt_succ_self _⟩
 generalize ((w.alloc (.cells #[.slice none 0 0,.slice none 0 0] 35)).alloc (.cells #[.slice none 0 0,.slice none 0 0] 35))=W0 at hR ⊢
 generalize hn2:w.heap.size=n2 at hR ⊢
 generalize hn3:n2+1=n3 at hR ⊢
 have HN2:=aG hn2
 clear hn2 hn3
 refine (oQ _ nS os cap xs 3 hR.src (by omega) (by omega)).mono ?_
 rintro e W1 ⟨r,r1,r2,rfl,hg1,hS1⟩
 replace hR:=hR.call hg1 hS1
 clear hg1 hS1 hS
 have hn1:1≤1+r∧1+r≤3:=by omega
 go_wp2_with fail
 generalize 1+r=n at hn1 ⊢
 clear r1 r2
 go_loopw [5] (fun i W=>∃js v,i=.int .i64 (ae1 js:Nat)∧(js.length:Int)≤n∧RB w nS n2 n3 os cap xs js [] v (.slice none 0 0) W) (fun i _=>(n - intOf i).toNat)
 case atStart=>exact ⟨[],_,rfl,by simp; omega,hR⟩
 case round =>
  clear hR
  obtain ⟨js,v,rfl,hk,hR⟩:=hrel
  by_cases hlt:(js.length:Int)<n
  ·obtain ⟨i0,hi,hz0,hz1,hz2⟩:=info_parts Yv
   go_upto_block 1 with fail
   go_cut [] (fun W=>∃j v',RB w nS n2 n3 os cap xs (js++[j]) [] v' (.slice none 0 0) W)
   case first =>
    have c0:wr.cell? ⟨n3,0,none⟩=some v:=hR.b3.c 0 _ rfl
    have f0:=hR.b3.f 0
    have l3:=hR.b3.lt
    go_wp2_with fail
    have hS0:Src wr.drew nS os cap xs:=hR.src.yl (aI _ _).drew
    have hk3:(js.length:Int)≤3:=by omega
    go_region_law (first
     | (refine step_append_lies _ rfl (.tmp 16) (.tmp 20) 32 rfl (n3+1) 80 i0 _ 12 104 aek hi hz0 hz1 hz2 rfl (by decide) v js.length (AV js) (by simp [Act.eval]) HA.out.oj ⟨W2.heap.size,0,none⟩ 1 1 j.vals (by simp [Act.eval]) rfl (Dg _ _ _) (YW j) (by decide) (by unfold maxLen; omega) (by omega) HA.out.hb _ rfl ?_; intro g c W3 hown hgrow hat hlt3; have hB3:=HA.out.b3.low (Nat.lt_succ_self _) (yh HA.out.oj hgrow HA.out.hb); have c04:=hB3.c 0 _ rfl; have f04:=hB3.f 0; have HO:=aG hown; clear hown)
     | (go_simp; go_at_call 61; refine (YG _ nS os cap xs _ hS0 (by omega) hk3).mono ?_; rintro e W2 ⟨j,hGj,he,hg2,hS2⟩; replace he:e=.returned (.agg #[.string j.name,.int .i64 j.kind,.int .i64 j.parent,.int .i64 j.o0,.int .i64 j.o1,.int .i64 j.o2,.int .i64 j.lo,.int .i64 j.hi,.int .i64 j.weight,.int .i64 j.speed,.int .i64 j.iL,.int .i64 j.iO]):=he; subst he; have HR2:=aG ((hR.gW (aI _ _).drew).call hg2 hS2); have c02:=HR2.out.b3.c 0 _ rfl; have HA:=aG (HR2.out.gW (W':=W2.alloc (.cells #[.string j.name,.int .i64 j.kind,.int .i64 j.parent,.int .i64 j.o0,.int .i64 j.o1,.int .i64 j.o2,.int .i64 j.lo,.int .i64 j.hi,.int .i64 j.weight,.int .i64 j.speed,.int .i64 j.iL,.int .i64 j.iO] 80)) ((aI _ _).alloc (au _) _)); have c03:=HA.out.b3.c 0 _ rfl))
    all_goals
     go_wp2_with fail
     go_meet
     exact ⟨j,_,HA.out.appJ j hGj g c HO.out hgrow hat⟩
   case rest =>
    clear hR
    obtain ⟨j,v',hR⟩:=hcut
    go_wp2
    go_roundw
    case rel=>exact ⟨js++[j],v',by simp,by simp; omega,hR⟩
    case measure=>simp [intOf]; omega
  ·have hle:n=(js.length:Int):=by omega
   go_wp2_with fail
   refine (oQ _ nS os cap xs 3 hR.src (by omega) (by omega)).mono ?_
   rintro e W2 ⟨q,q1,q2,rfl,hg2,hS2⟩
   replace hR:=hR.call hg2 hS2
   clear hg2 hS2
   have hjl:1≤js.length∧js.length≤3:=by omega
   clear hk hlt
   go_wp2_with fail
   go_loopw [6] (fun i W=>∃(k:Int) (ms:List MV) (u:Value),i=.int .i64 k∧0≤k∧(ms.length:Int)+k≤2∧(∀(k:Nat) (m:MV),ms[k]?=some m→kK js.length m=true)∧RB w nS n2 n3 os cap xs js ms v u W) (fun i _=>(intOf i).toNat)
   case atStart=>exact ⟨q,[],_,rfl,q1,by simp; omega,by simp,hR⟩
   case round =>
    clear hR q1 q2
    obtain ⟨k,ms,u,rfl,hk0,hk,hgm,hR⟩:=hrel
    have HGM:=aG hgm
    clear hgm
    by_cases hlt:0<k
    ·obtain ⟨i0,hi,hz0,hz1,hz2⟩:=info_parts Yu
     go_upto_block 3 with fail
     go_cut [] (fun W=>∃m u',kK js.length m=true∧RB w nS n2 n3 os cap xs js (ms++[m]) v u' W)
     case first =>
      have c0:wr.cell? ⟨n3,1,none⟩=some u:=hR.b3.c 1 _ rfl
      have f0:=hR.b3.f 1
      have l3:=hR.b3.lt
      have hS0:Src wr.drew nS os cap xs:=hR.src.yl (aI _ _).drew
      go_wp2_with fail
      go_region_law (first
       | (have hxx:=HA; clear hxx; refine step_append_lies _ rfl (.tmp 30) (.tmp 45) 33 rfl (n3+1) 54 i0 _ 5 40 ael hi hz0 hz1 hz2 rfl (by decide) u ms.length (Bc ms) (by simp [Act.eval]) HA.out.om ⟨V4.heap.size,0,none⟩ 1 1 (MV.vals ⟨a1,bg.wrap (1+a2),bg.wrap (a3*32768),0,bg.wrap (a4*32768)⟩) (by simp [Act.eval]) rfl (Dg _ _ _) (ZM _) (by decide) (by unfold maxLen; omega) (by omega) HA.out.hb _ rfl ?_; intro g c W3 hown hgrow hat hlt3; have hB3:=HA.out.b3.low (Nat.lt_succ_self _) (yh HA.out.om hgrow HA.out.hb); have c04:=hB3.c 1 _ rfl; have f04:=hB3.f 1; have HO:=aG hown; clear hown)
       | (have hxx:=hS3; clear hxx; go_simp; go_at_call 62; refine (GG _ nS os cap xs 2 hS3 (by omega) (by omega)).mono ?_; rintro e V4 ⟨a4,a41,a42,rfl,hg4,hS4⟩; have HR4:=aG (HR3.out.call hg4 hS4); clear hg4; have c14:=HR4.out.b3.c 1 _ rfl; have HA:=aG (HR4.out.gW (W':=V4.alloc (.cells #[.int .i64 a1,.int .i64 (bg.wrap (1+a2)),.int .i64 (bg.wrap (a3*32768)),.int .i64 0,.int .i64 (bg.wrap (a4*32768))] 54)) ((aI _ _).alloc (au _) _)); have c15:=HA.out.b3.c 1 _ rfl)
       | (have hxx:=hS2; clear hxx; go_simp; go_at_call 62; refine (GG _ nS os cap xs 3 hS2 (by omega) (by omega)).mono ?_; rintro e V3 ⟨a3,a31,a32,rfl,hg3,hS3⟩; have HR3:=aG (HR2.out.call hg3 hS3); clear hg3; have c13:=HR3.out.b3.c 1 _ rfl)
       | (have hxx:=hS1; clear hxx; go_simp; go_at_call 38; refine (oQ _ nS os cap xs 9000 hS1 (by omega) (by omega)).mono ?_; rintro e V2 ⟨a2,a21,a22,rfl,hg2,hS2⟩; have HR2:=aG (HR1.out.call hg2 hS2); clear hg2; have c12:=HR2.out.b3.c 1 _ rfl)
       | (go_simp; go_at_call 38; refine (oQ _ nS os cap xs js.length hS0 (by omega) (by omega)).mono ?_; rintro e V1 ⟨a1,a11,a12,rfl,hg1,hS1⟩; have HR1:=aG ((hR.gW (aI _ _).drew).call hg1 hS1); clear hg1; have c11:=HR1.out.b3.c 1 _ rfl))
      all_goals
       go_wp2_with fail
       go_meet
       exact ⟨_,_,Zx _ a1 a2 a3 a4 ⟨a11,a12⟩ ⟨a21,a22⟩ ⟨a31,a32⟩ ⟨a41,a42⟩,HA.out.VK _ g c HO.out hgrow hat⟩
     case rest =>
      clear hR
      obtain ⟨m,u',hm,hR⟩:=hcut
      go_wp2
      go_roundw
      case rel=>exact ⟨k - 1,ms++[m],u',by simp,by omega,by simp; omega,Zz HGM.out hm,hR⟩
      case measure=>simp [intOf]; omega
    ·obtain ⟨oa,cj,om,cm,rfl,rfl,s1,s2⟩:=hR.done
     obtain ⟨x,y,hb2⟩:=hR.b2
     have d0:=hR.b3.c 0 _ rfl
     have d1:=hR.b3.c 1 _ rfl
     have e0:=hb2.c 0 _ rfl
     have e1:=hb2.c 1 _ rfl
     have f0:=hb2.f 0
     have f1:=hb2.f 1
     have l2:=hb2.lt
     have l3:=hR.b3.lt
     have HC:=aG (agS hR.om)
     have HR:=aG hR
     have HS1:=aG s1
     have HS2:=aG s2
     clear hR s1 s2 hb2
     go_wp2_with fail
     have hF:=HR.out.acy (.slice oa js.length cj) (.slice om ms.length cm)
     refine bodyPost_ret (v:=.agg #[.slice oa js.length cj,.slice om ms.length cm]) (by simp [results,Tryz.results36,go_sem,e0,e1]) rfl ⟨js,ms,oa,cj,om,cm,rfl,?_,hF.gr,HC.out⟩
     intro W'' hag
     obtain ⟨oa',cj',om',cm',q1,q2,s1,s2⟩:=QG hF hag
     injection q1 with q1 _ q1'
     injection q2 with q2 _ q2'
     subst q1 q2
     exact ⟨hjl,by omega,hF.gj,HGM.out,s1,s2⟩
end Go.Proofs.En
end
section
namespace Go.Proofs.En
open Go.RowKit
def age (w:World) (e:Ending) (W':World):Prop:=∃js ms oa cj om cm,e=.returned (.agg #[.slice oa (ae1 js) cj,.slice om (ae1 ms) cm])∧Cf js ms oa om W'∧Below w.heap.size w W'∧(ms.length≤cm∧(om=none→cm=0))
theorem UB (w:World) (os:Option Addr) (cap:Nat) (xs:List Int) (hI:Sl w os 1 (fF xs)) (hl:xs.length≤9223372036854775807):Src (w.alloc (.cells #[.slice os xs.length cap,.int .i64 0] 120)) w.heap.size os cap xs:=by
 refine ⟨⟨0,by omega,iw.new w _ _ 120⟩,hI.keep ((aI _ _).alloc (au _) _),?_,hl⟩
 intro hne b o s e
 obtain ⟨b',off',e',hr⟩:=hI (by intro h; exact hne (by simpa [fF] using h))
 rw [e] at e'
 injection e' with e'
 injection e' with e' _ _
 have:=hr.lt
 omega
theorem agP (w:World) (os:Option Addr) (cap:Nat) (xs:List Int) (hI:Sl w os 1 (fF xs)) (hl:xs.length≤9223372036854775807) :
  Calls aa 17 #[.slice os xs.length cap] w (age w):=by
 go_enter Tryz.func17,Tryz.ntmps17
 go_wp2_with fail
 have hB0:Below w.heap.size w (w.alloc (.cells #[.slice none 0 0,.slice none 0 0] 35)):=(aI _ _).alloc (au _) _
 have b0:=eG.new w [.slice none 0 0,.slice none 0 0] 35
 have hI0:=hI.keep hB0
 generalize (w.alloc (.cells #[.slice none 0 0,.slice none 0 0] 35))=W0 at hB0 b0 hI0 ⊢
 generalize hn:w.heap.size=n2 at b0 ⊢
 have HN:=aG hn
 clear hn
 refine (O8 os cap xs.length W0).mono ?_
 rintro e W1 ⟨rfl,rfl⟩
 have hS:=UB W0 os cap xs hI0 hl
 have hB1:Below W0.heap.size W0 (W0.alloc (.cells #[.slice os xs.length cap,.int .i64 0] 120)):=(aI _ _).alloc (au _) _
 have b1:=b0.keep hB1
 have hne:n2≠W0.heap.size:=Nat.ne_of_lt b0.lt
 have hn2:n2<(W0.alloc (.cells #[.slice os xs.length cap,.int .i64 0] 120)).heap.size:=b1.lt
 have hwS:w.heap.size≤W0.heap.size:=hB0.size
 have HB1:=aG (jD hB0 hB1)
 clear hB0 hB1 b0
 generalize (W0.alloc (.cells #[.slice os xs.length cap,.int .i64 0] 120))=W1 at hS b1 HB1 hn2 ⊢
 generalize W0.heap.size=nS at hS hne hwS ⊢
 go_wp2_with fail
 refine (ac2 W1 nS os cap xs hS).mono ?_
 rintro e W2 ⟨js,ms,oa,cj,om,cm,rfl,hP,hg,hcap⟩
 have HCP:=aG hcap
 clear hcap
 have b2:=b1.rF hg hne
 have hB2:Below w.heap.size w W2:=⟨hg.os.trans HB1.out.os,hg.tape.trans HB1.out.tape,hg.output.trans HB1.out.output,aZ HB1.out.size hg.size,fun k hk=>(hg.block k (aC hk HB1.out.size) (fun e=>by injection e; omega)).trans (HB1.out.block k hk)⟩
 have e0:=b2.c 0 _ rfl
 have e1:=b2.c 1 _ rfl
 have f0:=b2.f 0
 have f1:=b2.f 1
 have l2:=b2.lt
 have HP:=aG hP
 have HB2:=aG hB2
 clear hP hB2 b1 b2 hg HB1
 go_wp2_with fail
 have hBF:Below w.heap.size w ((W2.setCell ⟨n2,0,none⟩ (.slice oa js.length cj)).setCell ⟨n2,1,none⟩ (.slice om ms.length cm)):=(HB2.out.setCell (p:=⟨n2,0,none⟩) (Nat.le_of_eq HN.out) _).setCell (p:=⟨n2,1,none⟩) (Nat.le_of_eq HN.out) _
 refine bodyPost_ret (v:=.agg #[.slice oa js.length cj,.slice om ms.length cm]) (by simp [results,Tryz.results17,go_sem,e0,e1]) rfl ⟨js,ms,oa,cj,om,cm,rfl,HP.out _ ?_,hBF,HCP.out⟩
 intro g h1 h2
 exact (ae0 _ ⟨n2,1,none⟩ _ g (show g≠n2 by omega)).trans (ae0 _ ⟨n2,0,none⟩ _ g (show g≠n2 by omega))
end Go.Proofs.En
end
section
namespace Go.Proofs.En
open Go.RowKit
def Dl (ps:List Int):List Value:=ps.map fun p=>.int .i64 p
theorem FV (ps:List Int):(fF ps).flatten=Dl ps:=by
 induction ps with
 | nil=>rfl
 | cons a t ih=>simp only [fF,Dl,dI,List.flatten_cons] at ih ⊢; rw [ih]; rfl
theorem QX (ps:List Int):(fF ps).length=ps.length:=by simp [fF]
def AQ (js:List JV) (ps:List Int):Prop:=∀(k:Nat) (j:JV) (p:Int),js[k]?=some j→ps[k]?=some p→j.lo≤p∧p≤j.hi
variable {js:List JV} {ps:List Int} {j:JV} {p:Int}
theorem Ym (h:AQ js ps) (hj:js[ps.length]?=some j) (hp:j.lo≤p∧p≤j.hi):AQ js (ps++[p]):=by
 intro k j' p' h1 h2
 rcases cu k ps.length with hlt | hge
 ·rw [aH hlt] at h2
  exact h k j' p' h1 h2
 ·rw [bu hge] at h2
  have:k=ps.length:=by
   rcases Nat.eq_or_lt_of_le hge with h | h
   ·exact h.symm
   ·rw [bQ (by simp; omega)] at h2; cases h2
  subst this
  simp at h2
  subst h2
  rw [hj] at h1
  injection h1 with h1
  subst h1
  exact hp
structure CI (w Wb:World) (n2 nS:Nat) (rv:List Value) (os:Option Addr) (cap:Nat) (xs:List Int) (js:List JV) (ps:List Int) (v:Value) (W:World):Prop where
 gW:Below w.heap.size w W
 r2:Row W n2 rv
 src:Src W nS os cap xs
 own:W.ownsRow Wb.heap.size 2 1 v ps.length (Dl ps)
 hb:Wb.heap.size≤W.heap.size
 i0:Sl Wb os 1 (fF xs)
 h2:w.heap.size≤n2
 h3:n2<nS
 h4:nS<Wb.heap.size
 EP:AQ js ps
variable {w Wb W W':World} {n2 nS cap:Nat} {rv:List Value} {os:Option Addr} {xs:List Int} {v:Value}
theorem CI.call (h:CI w Wb n2 nS rv os cap xs js ps v W) (hg:W.grownBy W' (some nS)) (hS:Src W' nS os cap xs):CI w Wb n2 nS rv os cap xs js ps v W':=by
 have h2:=h.h2; have h3:=h.h3; have h4:=h.h4
 have ne:∀k,k≠nS→k<W.heap.size→W'.heap[k]?=W.heap[k]?:=fun k hk hl=>hg.block k hl (fun e=>hk (by injection e))
 refine ⟨⟨hg.os.trans h.gW.os,hg.tape.trans h.gW.tape,hg.output.trans h.gW.output,aZ h.gW.size hg.size,fun k hk=>(ne k (by omega) (aC hk h.gW.size)).trans (h.gW.block k hk)⟩,?_,hS,uY h.own fun g _ hl hb=>ne g (by omega) hl,aZ h.hb hg.size,h.i0,h2,h3,h4,h.EP⟩
 have e:=ne n2 (by omega) h.r2.lt
 refine ⟨fun j v hj=>?_,aC h.r2.lt hg.size⟩
 rw [←h.r2.c j v hj]
 simp [bS,e]
theorem CI.keep {w Wb W W':World} {n2 nS:Nat} {rv:List Value} {os:Option Addr} {cap:Nat} {xs:List Int} {js:List JV} {ps:List Int} {v:Value} (h:CI w Wb n2 nS rv os cap xs js ps v W) (hb:Below W.heap.size W W'):CI w Wb n2 nS rv os cap xs js ps v W' :=
 ⟨jD h.gW hb,h.r2.keep hb,h.src.yl hb,yx h.own hb,aZ h.hb hb.size,h.i0,h.h2,h.h3,h.h4,h.EP⟩
theorem CI.app {W1:World} {v':Value} (h:CI w Wb n2 nS rv os cap xs js ps v W) (hj:js[ps.length]?=some j) (hp:j.lo≤p∧p≤j.hi)
  (ho:W1.ownsRow Wb.heap.size 2 1 v' (ps.length+1) (Dl ps++[.int .i64 p])) (hg:W.grownBy W1 v.ownBlock):CI w Wb n2 nS rv os cap xs js (ps++[p]) v' W1:=by
 have h2:=h.h2; have h3:=h.h3; have h4:=h.h4
 have B:=yh h.own hg h.hb
 refine ⟨h.gW.trans (B.mono (by omega)),h.r2.low (by omega) B,h.src.low h.i0 h4 B,?_,aZ h.hb hg.size,h.i0,h2,h3,h4,Ym h.EP hj hp⟩
 rw [afa,Dl,List.map_append]
 exact ho
theorem CI.done (h:CI w Wb n2 nS rv os cap xs js ps v W):∃oa c,v=.slice oa ps.length c∧Sl W oa 1 (fF ps):=by
 obtain ⟨oa,c,e,s⟩:=KM (rows:=fF ps) (n:=1) (by intro r hr; simp [fF] at hr; obtain ⟨j,_,rfl⟩:=hr; rfl) (by rw [QX,FV]; exact h.own)
 rw [QX] at e
 exact ⟨oa,c,e,s⟩
def agd (js:List JV) (w:World) (e:Ending) (W':World):Prop:=∃(ps:List Int) (oa:Option Addr) (c:Nat),e=.returned (.slice oa ps.length c)∧ps.length=js.length∧AQ js ps∧Sl W' oa 1 (fF ps)∧Below w.heap.size w W'∧∀a,oa=some a→w.heap.size≤a.block
theorem agT {base size n m:Nat} {e:TypeId} {oa:Option Addr} {xs:List Value} (h:W.ownsRow base e size (.slice oa n cap) m xs):∀a,oa=some a→base≤a.block:=fun a ha=>by
 rcases h.2 with ⟨h1,_⟩ | ⟨g,cap',cur,h1,h2,_⟩
 ·injection h1 with h1
  rw [h1] at ha; cases ha
 ·injection h1 with h1
  rw [h1] at ha; injection ha with ha; subst ha; exact h2
set_option maxRecDepth 100000 in
theorem afU (oa om os:Option Addr) (cj cm cap:Nat) (js:List JV) (nm:Nat) (xs:List Int) (w:World) (hj:js.length≤100) (hbd:∀(k:Nat) (j:JV),js[k]?=some j→-1000000000≤j.lo∧j.lo≤j.hi∧j.hi≤1000000000) (hJ:Sl w oa 12 (js.map JV.vals)) (hI:Sl w os 1 (fF xs)) (hl:xs.length≤9223372036854775807) :
  Calls aa 18 #[.agg #[.slice oa js.length cj,.slice om nm cm],.slice os xs.length cap] w (agd js w):=by
 go_enter Tryz.func18,Tryz.ntmps18
 go_wp2_with fail
 have hB0:Below w.heap.size w (w.alloc (.cells #[.slice oa js.length cj,.slice om nm cm] 35)):=(aI _ _).alloc (au _) _
 have r0:=Row.new w [.slice oa js.length cj,.slice om nm cm] 35
 have hI0:=hI.keep hB0
 generalize (w.alloc (.cells #[.slice oa js.length cj,.slice om nm cm] 35))=W0 at hB0 r0 hI0 ⊢
 generalize hn:w.heap.size=n2 at r0 ⊢
 have HN:=aG hn
 clear hn
 refine (O8 os cap xs.length W0).mono ?_
 rintro e W1 ⟨rfl,rfl⟩
 have hS:=UB W0 os cap xs hI0 hl
 have hB1:Below W0.heap.size W0 (W0.alloc (.cells #[.slice os xs.length cap,.int .i64 0] 120)):=(aI _ _).alloc (au _) _
 have hC:CI w (W0.alloc (.cells #[.slice os xs.length cap,.int .i64 0] 120)) n2 W0.heap.size [.slice oa js.length cj,.slice om nm cm] os cap xs js [] (.slice none 0 0) (W0.alloc (.cells #[.slice os xs.length cap,.int .i64 0] 120)) :=
  ⟨jD hB0 hB1,r0.keep hB1,hS,World.ownsRow_nil _ _ _ _,au _,hI0.keep hB1,Nat.le_of_eq HN.out,r0.lt,GM hS,fun k j p _ h=>by simp at h⟩
 clear hB0 hB1 hS r0 hI0 HN hI
 generalize (W0.alloc (.cells #[.slice os xs.length cap,.int .i64 0] 120))=W1 at hC ⊢
 generalize W0.heap.size=nS at hC ⊢
 have HBD:=aG hbd
 clear hbd
 go_wp2_with fail
 go_loopw [6,7] (fun v i W=>∃ps:List Int,ps.length≤js.length∧i=.int .i64 (ps.length:Nat)∧CI w W1 n2 nS [.slice oa js.length cj,.slice om nm cm] os cap xs js ps v W) (fun _ i _=>js.length - (intOf i).toNat)
 case atStart=>exact ⟨[],by simp,rfl,hC⟩
 case round =>
  clear hC
  obtain ⟨ps,hk,rfl,hC⟩:=hrel
  have s0:wr.cell? ⟨n2,0,none⟩=some (.slice oa js.length cj):=hC.r2.c 0 _ rfl
  have l2:=hC.r2.lt
  by_cases hlt:ps.length<js.length
  ·obtain ⟨j,hj'⟩:∃j,js[ps.length]?=some j:=⟨_,ah hlt⟩
   obtain ⟨b,off,rfl,hJr⟩:=(hJ.keep hC.gW) (AX hlt)
   have x6:wr.cell? ⟨b,off+ps.length*12+6,none⟩=some (.int .i64 j.lo):=hJr.c ps.length _ (Ba hj') 6 _ rfl
   have x7:wr.cell? ⟨b,off+ps.length*12+7,none⟩=some (.int .i64 j.hi):=hJr.c ps.length _ (Ba hj') 7 _ rfl
   have lb:=hJr.lt
   have hbj:=HBD.out _ _ hj'
   have HJ':=aG hj'
   clear hj' hJr
   go_wp2_with fail
   go_quiet (fail)
   replace hC:=hC.keep (vG wr nq)
   clear s0 l2 x6 x7 lb
   generalize wr.drewN nq=V at hC ⊢
   go_wp2_with fail
   refine (oQ _ nS os cap xs 6 hC.src (by omega) (by omega)).mono ?_
   rintro e W2 ⟨q,q1,q2,rfl,hg2,hS2⟩
   replace hC:=hC.call hg2 hS2
   clear hg2 hS2
   obtain ⟨i0,hi,hz0,hz1,hz2⟩:=info_parts Yt
   by_cases h0:q=0
   ·have h0':(q==0)=true:=by rw [h0]; rfl
    clear h0
    have HC2:=aG (hC.keep (W':=W2.alloc (.cells #[.int .i64 j.lo] 2)) ((aI _ _).alloc (au _) _))
    go_wp2_with (at_builtin; refine wpList_append_own _ rfl _ _ 37 rfl W1.heap.size 2 i0 (.int .i64 0) 1 8 Md hi hz0 hz1 hz2 rfl (by decide) _ _ _ rfl HC2.out.own ⟨W2.heap.size,0,none⟩ 1 1 [.int .i64 j.lo] rfl rfl ?c1 ?c2 ?c3 ?c4 ?c5 ?_)
    case c1=>exact Dg _ _ _
    case c2=>intro u hu; simp at hu; subst hu; rfl
    case c3=>unfold maxLen; omega
    case c4=>omega
    case c5=>exact HC2.out.hb
    intro v' w' hown' hgrow _
    have HN:=aG (HC2.out.app HJ'.out (p:=j.lo) (by omega) hown' hgrow)
    clear hown' hgrow HC2 hC hi hz0 hz1 hz2
    go_wp2
    go_roundw
    case rel=>exact ⟨ps++[j.lo],by simp; omega,by simp,HN.out⟩
    case measure=>simp [intOf]; omega
   ·have h0':(q==0)=false:=beq_eq_false_iff_ne.2 h0
    by_cases h1:q=1
    ·have h1':(q==1)=true:=by rw [h1]; rfl
     clear h1 h0
     have HC2:=aG (hC.keep (W':=W2.alloc (.cells #[.int .i64 j.hi] 2)) ((aI _ _).alloc (au _) _))
     go_wp2_with (at_builtin; refine wpList_append_own _ rfl _ _ 37 rfl W1.heap.size 2 i0 (.int .i64 0) 1 8 Md hi hz0 hz1 hz2 rfl (by decide) _ _ _ rfl HC2.out.own ⟨W2.heap.size,0,none⟩ 1 1 [.int .i64 j.hi] rfl rfl ?c1 ?c2 ?c3 ?c4 ?c5 ?_)
     case c1=>exact Dg _ _ _
     case c2=>intro u hu; simp at hu; subst hu; rfl
     case c3=>unfold maxLen; omega
     case c4=>omega
     case c5=>exact HC2.out.hb
     intro v' w' hown' hgrow _
     have HN:=aG (HC2.out.app HJ'.out (p:=j.hi) (by omega) hown' hgrow)
     clear hown' hgrow HC2 hC hi hz0 hz1 hz2
     go_wp2
     go_roundw
     case rel=>exact ⟨ps++[j.hi],by simp; omega,by simp,HN.out⟩
     case measure=>simp [intOf]; omega
    ·have h1':(q==1)=false:=beq_eq_false_iff_ne.2 h1
     go_wp2_with fail
     refine (oQ _ nS os cap xs _ hC.src (by omega) (by omega)).mono ?_
     rintro e W3 ⟨z,z1,z2,rfl,hg3,hS3⟩
     replace hC:=hC.call hg3 hS3
     clear hg3 hS3
     have HC2:=aG (hC.keep (W':=W3.alloc (.cells #[.int .i64 (j.lo+z)] 2)) ((aI _ _).alloc (au _) _))
     go_wp2_with (at_builtin; refine wpList_append_own _ rfl _ _ 37 rfl W1.heap.size 2 i0 (.int .i64 0) 1 8 Md hi hz0 hz1 hz2 rfl (by decide) _ _ _ rfl HC2.out.own ⟨W3.heap.size,0,none⟩ 1 1 [.int .i64 (j.lo+z)] rfl rfl ?c1 ?c2 ?c3 ?c4 ?c5 ?_)
     case c1=>exact Dg _ _ _
     case c2=>intro u hu; simp at hu; subst hu; rfl
     case c3=>unfold maxLen; omega
     case c4=>omega
     case c5=>exact HC2.out.hb
     intro v' w' hown' hgrow _
     have HN:=aG (HC2.out.app HJ'.out (p:=j.lo+z) (by omega) hown' hgrow)
     clear hown' hgrow HC2 hC hi hz0 hz1 hz2
     go_wp2
     go_roundw
     case rel=>exact ⟨ps++[j.lo+z],by simp; omega,by simp,HN.out⟩
     case measure=>simp [intOf]; omega
  ·have hke:ps.length=js.length:=by omega
   obtain ⟨oa',c',rfl,hs⟩:=hC.done
   have HS:=aG hs
   have HC:=aG hC
   have HK:=aG hke
   clear hC hs hke
   go_wp2
   go_ret
   exact ⟨ps,oa',c',rfl,HK.out,HC.out.EP,HS.out,HC.out.gW,fun a ha=>by have:=agT HC.out.own a ha; have:=HC.out.h2; have:=HC.out.h3; have:=HC.out.h4; omega⟩
end Go.Proofs.En
end
section
namespace Go.Proofs.En
open Go.RowKit
theorem Kr:vV (nm 0)=true∧vV (nm 1)=true∧vV (nm 2)=true:=⟨by kernel_rfl,by kernel_rfl,by kernel_rfl⟩
theorem Kq:rq (nm 0) (nm 1)=false∧rq (nm 0) (nm 2)=false∧rq (nm 1) (nm 2)=false:=⟨by kernel_rfl,by kernel_rfl,by kernel_rfl⟩
theorem ZQ (k:Nat) (h:k<3):vV (nm k)=true:=by
 rcases (show k=0∨k=1∨k=2 by omega) with rfl | rfl | rfl
 ·exact Kr.1
 ·exact Kr.2.1
 ·exact Kr.2.2
theorem XE (i k:Nat) (h:i<k) (hk:k<3):rq (nm i) (nm k)=false:=by
 rcases (show (i=0∧k=1)∨(i=0∧k=2)∨(i=1∧k=2) by omega) with ⟨rfl,rfl⟩ | ⟨rfl,rfl⟩ | ⟨rfl,rfl⟩
 ·exact Kq.1
 ·exact Kq.2.1
 ·exact Kq.2.2
theorem ac1 {js:List JV} {ms:List MV} {oa om:Option Addr} {W:World} (h:Cf js ms oa om W):yu js ms:=by
 obtain ⟨⟨h1,h2⟩,h3,hj,hm,_,_⟩:=h
 refine ⟨⟨by omega,by omega⟩,fun k j hk=>?_,by omega,hm⟩
 have hlt:k<js.length:=by
  rcases cu k js.length with h | h
  ·exact h
  ·rw [bQ h] at hk; cases hk
 have g:=hj k j hk
 have hf:findF js j.name=k:=by
  refine OO hk (XF _) fun i j' hi hj'=>?_
  rw [(hj i j' hj').name,g.name]
  exact XE i k hi (by omega)
 have hn:vV j.name=true:=by rw [g.name]; exact ZQ k (by omega)
 have hk':=g.kind; have hp:=g.parent; have ho:=g.off; have hl:=g.lim; have hw:=g.weight; have hs:=g.speed; have ha:=g.iL; have ht:=g.iO
 have hb:wD j.o0 j.o1 j.o2=false:=by simp [wD,AJ]; omega
 have f1:lv j.weight 1024=true:=by simp [lv]; omega
 have f2:lv j.speed 1048576=true:=by simp [lv]; omega
 have f3:lv j.iL 1048576=true:=by simp [lv]; omega
 have f4:lv j.iO 1099511627776=true:=by simp [lv]; omega
 unfold qY
 rw [hn,hf,hb,f1,f2,f3,f4,if_neg (by simp),if_neg (by omega),if_neg (by omega),if_neg (by simp),if_neg (by omega),if_neg (by simp)]
end Go.Proofs.En
end
section
namespace Go.Proofs.En
open Go.RowKit
variable {W:World}
theorem ac0 {js:List JV} {ms:List MV} {oa om:Option Addr} (h:Cf js ms oa om W):∀(k:Nat) (j:JV),js[k]?=some j→-1000000000≤j.lo∧j.lo≤j.hi∧j.hi≤1000000000:=by
 intro k j hk
 have:=(h.2.2.1 k j hk).lim
 have:=EX j.kind
 omega
theorem CU {V W':World} {n6 n13:Nat} {a b c d:Value} (l6:n6<V.heap.size) (l13:n13<V.heap.size) (h:W.cell? ⟨n6,0,none⟩=some a∧W.cell? ⟨n6,1,none⟩=some b∧W.cell? ⟨n13,0,none⟩=some c∧W.cell? ⟨n13,1,none⟩=some d∧Below V.heap.size V W) (hb:Below W.heap.size W W') :
  W'.cell? ⟨n6,0,none⟩=some a∧W'.cell? ⟨n6,1,none⟩=some b∧W'.cell? ⟨n13,0,none⟩=some c∧W'.cell? ⟨n13,1,none⟩=some d∧Below V.heap.size V W':=by
 have h6:=aC l6 h.2.2.2.2.size
 have h13:=aC l13 h.2.2.2.2.size
 exact ⟨(hb.cell (p:=⟨n6,0,none⟩) h6).trans h.1,(hb.cell (p:=⟨n6,1,none⟩) h6).trans h.2.1,(hb.cell (p:=⟨n13,0,none⟩) h13).trans h.2.2.1,(hb.cell (p:=⟨n13,1,none⟩) h13).trans h.2.2.2.1,jD h.2.2.2.2 hb⟩
end Go.Proofs.En
end
