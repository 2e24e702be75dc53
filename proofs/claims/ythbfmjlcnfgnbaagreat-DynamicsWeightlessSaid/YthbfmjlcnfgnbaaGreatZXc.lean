/-
  Part of the proof: see the last text.
-/
import Derived.Test.YthbfmjlcnfgnbaaGreatZXa
set_option linter.unusedVariables false
set_option maxHeartbeats 8000000
open List renaming cons_append→dw,getD_cons_succ→bZ,getD_cons_zero→bN,getElem?_cons_succ→aeW,map_cons→dI,map_nil→ae9,mem_cons→ag,mem_cons_self→aA,nil_append→dD,not_mem_nil→ae,range→dh
open Option.some renaming injEq→ak
open Go.Proofs.Tryz renaming f41→aD,prog→aa
section
namespace Go.Proofs
open Go.Sm Go.RowKit En
set_option maxHeartbeats 8000000
abbrev iF:=Nat→Int
def pl (P:iF):List Int:=(dh 24).map P
def gT (P:iF):List Value:=(pl P).map num
def fE (j:JV):List Int:=[j.kind,j.parent,j.o0,j.o1,j.o2,j.lo,j.hi,j.weight,j.speed,j.iL,j.iO]
def pg (i:Nat) (l:List Int):V6:=⟨FN i l,FN (i+1) l,FN (i+2) l,FN (i+3) l,FN (i+4) l,FN (i+5) l⟩
def nz (kind:Int) (P:iF):V6:=pg 249 (kind::(dh 18).map P)
def kM (P:iF):V6:=⟨P 18,P 19,P 20,P 21,P 22,P 23⟩
theorem Ii:(dN aD)=fB [dZ (dN aD),jM (dN aD),jK (dN aD),kS (dN aD),dZ (sR 4 (dN aD))] (.seq (jT (dN aD)) (sR 6 (dN aD))):=by kernel_rfl
theorem Ij {cb:Array Value} {a b c d e:Value} (h:cb.size=5) (h0:cb[0]?=some a) (h1:cb[1]?=some b) (h2:cb[2]?=some c) (h3:cb[3]?=some d) (h4:cb[4]?=some e):cb=#[a,b,c,d,e]:=by
 obtain ⟨l⟩:=cb
 match l,h with
 | [x0,x1,x2,x3,x4],_ =>
  simp only [List.getElem?_toArray,List.getElem?_cons_zero,aeW,ak] at h0 h1 h2 h3 h4
  subst h0 h1 h2 h3 h4
  rfl
variable {w0 w:World} {a:Act} {nc b0 o0:Nat} {f:Bool} {B0 B1 X:dY} {m:Int} {j0:JV} {P0:iF} {Q:Exit→Act→World→Prop} {D:Code}
theorem hd1 (hB0:B0.2.1=1) (hB1:(B1.2.1:Int)=m) (hw0:fu w0 [nc] B0 0 12 b0 o0 j0.vals)
  (hQ:∀x∈([⟨68,[.agg ⟨[dM 0,dM 1]⟩,dM 2],.row false 1 1 (dQ [var 12,var 13,var 14,var 15,var 16,var 17,var 18,var 19,var 20,var 21,var 22,var 23,var 24,var 25,var 26,var 27,var 28,var 29,var 30,var 31,var 32,var 33,var 34,var 35] 135)⟩]:List Qt),jB aa (gB (w0,[nc]) ([m]++fE j0++pl P0) [f] [B0,B1,X]) x)
  (hown:∀q∈[nc]++[],q∈([nc]:List Nat)∨w0.heap.size≤q) (h:dP (dS 137 [(0,dK nc),(1,.agg ⟨[dJ B0,dJ B1]⟩),(2,dJ X)]) [(nc,[.bool f],88)] [] a w) (hk:dO w0 [nc] w)
  (hK:∀(a':Act) (w':World) (gL g9 nr n6 nb:Nat) (A:dY),(∀q∈[gL,g9,nr,n6,nb],w.heap.size≤q∧q<w'.heap.size)→[nc,gL,g9,nr,n6,nb].Nodup→dP (dS 137 [(0,dK nc),(4,dK nr),(6,dK n6),(7,.slice (some ⟨gL,0,none⟩) 1 1),(8,dK nb),(9,.slice (some ⟨g9,0,none⟩) 1 1)]) [(nc,[.bool f],88),(gL,([P0].flatMap gT),135),(g9,([P0].flatMap fun P=>(kM P).cs nc),98)] [(nr,[dJ B0,dJ B1],35),(n6,[.pointer none,.slice none 0 0,.slice none 0 0,.slice none 0 0,.slice none 0 0],92)] a' w'→w'.heap[nb]?=some (.cells #[dK nc,dJ B0,dJ B1,dJ A,.slice none 0 0] 92 (0,0))→Grow w' A 7 98 1 ([nz j0.kind P0].flatMap fun v=>v.cs nc)→(∃g,A.1=some ⟨g,0,none⟩∧w.heap.size≤g)→dO w0 [nc] w'→D.wp aa Q a' w'):(fB [dZ (dN aD),jM (dN aD),jK (dN aD),kS (dN aD),dZ (sR 4 (dN aD))] D).wp aa Q a w:=by
 have hnc:∃cs,w.heap[nc]?=some (.cells cs 88 (0,0)):=⟨_,h.gl _ aA⟩
 refine Il ([m]++fE j0++pl P0) [f] [B0,B1,X] (g:=[]) (wt:=[(0,.int .i64 0,12,0)]) (lt:=[(0,.int .i64 1),(1,var 0)]) (t:={ QT:=[⟨68,[.agg ⟨[dM 0,dM 1]⟩,dM 2],.row false 1 1 (dQ [var 12,var 13,var 14,var 15,var 16,var 17,var 18,var 19,var 20,var 21,var 22,var 23,var 24,var 25,var 26,var 27,var 28,var 29,var 30,var 31,var 32,var 33,var 34,var 35] 135)⟩] }) (ws:=[(b0,o0,j0.vals)]) (fr:=fK 137 [(0,.pointer (some ⟨0,0,none⟩)),(1,.agg ⟨[dM 0,dM 1]⟩),(2,dM 2)]) (H:=[dQ [mB 1 [.int .i64 0]] 88]) (lo:=[]) (wb:=[dU [.string j0.name,var 1,var 2,var 3,var 4,var 5,var 6,var 7,var 8,var 9,var 10,var 11]]) (gs:=[(nc,[.bool f],88)]) (ls:=[]) (us':=fun gn nl=>dS 137 [(0,dK nc),(4,dK (nl.getD 0 0)),(6,dK (nl.getD 1 0)),(7,.slice (some ⟨(gn.getD 0 0),0,none⟩) 1 1),(8,dK (nl.getD 2 0)),(9,.slice (some ⟨(gn.getD 1 0),0,none⟩) 1 1)]) (gs':=fun gn nl=>[(nc,[.bool f],88),((gn.getD 0 0),([P0].flatMap gT),135),((gn.getD 1 0),([P0].flatMap fun P=>(kM P).cs nc),98)]) (ls':=fun gn nl=>[((nl.getD 0 0),[dJ B0,dJ B1],35),((nl.getD 1 0),[.pointer none,.slice none 0 0,.slice none 0 0,.slice none 0 0,.slice none 0 0],92)]) 41 _ [0,1,2] [1,2] [7,9] [4,6,8]
  (fun nl w'=>nl.length=3→∃(S:dY) (cb:Array Value),w'.heap[nl.getD 2 0]?=some (.cells cb 92 (0,0))∧cb.size=5∧cb[3]?=some (dJ S)∧(∀(j:Nat) (u:Value),[some (dK nc),some (dJ B0),some (dJ B1),none,some (.slice none 0 0)][j]?=some (some u)→cb[j]?=some u)∧Grow w' S 7 98 1 ([nz j0.kind P0].flatMap fun v=>v.cs nc)∧∃g,S.1=some ⟨g,0,none⟩∧((∃j,(iC (gB (w0,[nc]) ([m]++fE j0++pl P0) [f] [B0,B1,X]) (eH [(nc,[.bool f],88)] [] [(b0,o0,j0.vals)]) w).gb j=some g)∨w.heap.size≤g))
  (fun gn nl e1 e2=>?_) (by kernel_rfl) (fun gn nl e1 e2 e3=>?_) ⟨ed _,yA hQ,?_,(by exact hown),gH,fun _=>?_⟩ h hk (fun s' m' a' w' nl hr hs hA=>?_) (fun a' w' gn nl hR e1 e2 e3 e4 hs hk'=>?_)
 ·match gn,nl,e1,e2 with
  | [gL,g9],[nr,n6,nb],_,_=>show (_:Option _)=_; kernel_rfl
 ·match gn,nl,e1,e2 with
  | [gL,g9],[nr,n6,nb],_,_ =>
   have:=oP e3
   simp only [dI,ae9,dw,dD,bN,bZ,List.nodup_cons,ag,ae,or_false,not_or] at this ⊢
   obtain ⟨⟨a1,a2,a3,a4,a5⟩,⟨a6,a7,a8,a9⟩,⟨b1,b2,b3⟩,⟨b4,b5⟩,_⟩:=this
   exact ⟨⟨a1,a2,a3,a4⟩,⟨a6,a7,a8⟩,⟨b1,b2⟩,b4,(by simp),List.nodup_nil⟩
 ·intro x hx
  simp only [ag,ae,or_false] at hx
  rcases hx with rfl
  ·exact hw0.wf
 ·refine ⟨fun e he=>?_,fun e he=>?_,fun e he=>by cases he⟩
  ·simp only [fG,ag,ae,or_false] at he
   rcases he with rfl
   ·obtain ⟨z0,z1,z2,z3,z4⟩:=hw0.pl
    exact ⟨⟨b0,z0,none⟩,B0.2.1,B0.2.2,0,2,(by show B0=_; rw [←z1]),rfl,rfl,z2,z3,rfl,z4⟩
  ·simp only [fG,ag,ae,or_false] at he
   rcases he with rfl | rfl
   ·exact ⟨2,by show some (num 1)=some (.int .i64 (B0.2.1:Nat)); rw [hB0]; rfl⟩
   ·exact ⟨2,by show some (num m)=some (.int .i64 (B1.2.1:Nat)); rw [←hB1]; rfl⟩
 ·intro hl
  match nl,hl with
  | [nr,n6,nb],_ =>
  have hc:(qK aa (fG (w0,[nc]) ([m]++fE j0++pl P0) [f] [B0,B1,X] [] [(0,.int .i64 0,12,0)] [(0,.int .i64 1),(1,var 0)] []) (tF aa Tryz.esc (w0,[nc]) ([m]++fE j0++pl P0) [f] [B0,B1,X] [] [(0,.int .i64 1),(1,var 0)] { QT:=[⟨68,[.agg ⟨[dM 0,dM 1]⟩,dM 2],.row false 1 1 (dQ [var 12,var 13,var 14,var 15,var 16,var 17,var 18,var 19,var 20,var 21,var 22,var 23,var 24,var 25,var 26,var 27,var 28,var 29,var 30,var 31,var 32,var 33,var 34,var 35] 135)⟩] }) (Tryz.esc 41) 200 [dZ (dN aD),jM (dN aD),jK (dN aD),kS (dN aD),dZ (sR 4 (dN aD))] ⟨fK 137 [(0,.pointer (some ⟨0,0,none⟩)),(1,.agg ⟨[dM 0,dM 1]⟩),(2,dM 2)],[dQ [mB 1 [.int .i64 0]] 88],[]++[dU [.string j0.name,var 1,var 2,var 3,var 4,var 5,var 6,var 7,var 8,var 9,var 10,var 11]],[]⟩).map (Cn (gB (w0,[nc]) ([m]++fE j0++pl P0) [f] [B0,B1,X]) ⟨[nc],(eH [(nc,[.bool f],88)] [] [(b0,o0,j0.vals)]).lp++[(nr,0),(n6,0),(nb,0)]⟩ 3 3)=some (some ((true,92,5),[some (dK nc),some (dJ B0),some (dJ B1),none,some (.slice none 0 0)],some ((true,7,98),1,some ([nz j0.kind P0].flatMap fun v=>v.cs nc),7))):=by kernel_rfl
  rw [hr] at hc
  simp only [Option.map_some,ak] at hc
  exact Kh hs hs.ext.le.env hA rfl hc (by decide) (by decide)
 ·match gn,nl,e1,e2 with
  | [gL,g9],[nr,n6,nb],_,_ =>
   simp only [bN,bZ] at hs hR
   obtain ⟨A,cb,k1,k2,k3,k4,k5,g,k6,k7⟩:=hR rfl
   have hcb:cb=#[dK nc,dJ B0,dJ B1,dJ A,.slice none 0 0]:=Ij k2 (k4 0 _ rfl) (k4 1 _ rfl) (k4 2 _ rfl) k3 (k4 4 _ rfl)
   subst hcb
   refine hK a' w' gL g9 nr n6 nb A (fun q hq=>e4 q hq) (oP e3) hs k1 k5 ⟨g,k6,?_⟩ hk'
   rcases k7 with ⟨j,hj⟩ | k7
   ·exfalso
    have hg:g=nc:=by
     match j,hj with
     | 0,hj=>exact (Option.some.inj hj).symm
     | _+1,hj=>cases hj
    subst hg
    obtain ⟨g',cs,q1,q2,_⟩:=k5.blk _ k6
    injection q1 with q1; subst q1
    have q3:=hs.gl _ aA
    rw [q2] at q3
    injection q3 with q3
    injection q3 with _ q3
    exact absurd (show (98:Nat)=88 from q3) (by decide)
   ·exact k7
variable {j1:JV} {P1:iF} {b1 o1:Nat}
theorem hd2 (hB0:B0.2.1=2) (hB1:(B1.2.1:Int)=m) (hw0:fu w0 [nc] B0 0 12 b0 o0 j0.vals) (hw1:fu w0 [nc] B0 1 12 b1 o1 j1.vals)
  (hQ:∀x∈([⟨68,[.agg ⟨[dM 0,dM 1]⟩,dM 2],.row false 2 2 (dQ [var 23,var 24,var 25,var 26,var 27,var 28,var 29,var 30,var 31,var 32,var 33,var 34,var 35,var 36,var 37,var 38,var 39,var 40,var 41,var 42,var 43,var 44,var 45,var 46,var 47,var 48,var 49,var 50,var 51,var 52,var 53,var 54,var 55,var 56,var 57,var 58,var 59,var 60,var 61,var 62,var 63,var 64,var 65,var 66,var 67,var 68,var 69,var 70] 135)⟩]:List Qt),jB aa (gB (w0,[nc]) ([m]++fE j0++fE j1++pl P0++pl P1) [f] [B0,B1,X]) x)
  (hown:∀q∈[nc]++[],q∈([nc]:List Nat)∨w0.heap.size≤q) (h:dP (dS 137 [(0,dK nc),(1,.agg ⟨[dJ B0,dJ B1]⟩),(2,dJ X)]) [(nc,[.bool f],88)] [] a w) (hk:dO w0 [nc] w)
  (hK:∀(a':Act) (w':World) (gL g9 nr n6 nb:Nat) (A:dY),(∀q∈[gL,g9,nr,n6,nb],w.heap.size≤q∧q<w'.heap.size)→[nc,gL,g9,nr,n6,nb].Nodup→dP (dS 137 [(0,dK nc),(4,dK nr),(6,dK n6),(7,.slice (some ⟨gL,0,none⟩) 2 2),(8,dK nb),(9,.slice (some ⟨g9,0,none⟩) 2 2)]) [(nc,[.bool f],88),(gL,([P0,P1].flatMap gT),135),(g9,([P0,P1].flatMap fun P=>(kM P).cs nc),98)] [(nr,[dJ B0,dJ B1],35),(n6,[.pointer none,.slice none 0 0,.slice none 0 0,.slice none 0 0,.slice none 0 0],92)] a' w'→w'.heap[nb]?=some (.cells #[dK nc,dJ B0,dJ B1,dJ A,.slice none 0 0] 92 (0,0))→Grow w' A 7 98 2 ([nz j0.kind P0,nz j1.kind P1].flatMap fun v=>v.cs nc)→(∃g,A.1=some ⟨g,0,none⟩∧w.heap.size≤g)→dO w0 [nc] w'→D.wp aa Q a' w'):(fB [dZ (dN aD),jM (dN aD),jK (dN aD),kS (dN aD),dZ (sR 4 (dN aD))] D).wp aa Q a w:=by
 have hnc:∃cs,w.heap[nc]?=some (.cells cs 88 (0,0)):=⟨_,h.gl _ aA⟩
 refine Il ([m]++fE j0++fE j1++pl P0++pl P1) [f] [B0,B1,X] (g:=[]) (wt:=[(0,.int .i64 0,12,0),(0,.int .i64 1,12,1)]) (lt:=[(0,.int .i64 2),(1,var 0)]) (t:={ QT:=[⟨68,[.agg ⟨[dM 0,dM 1]⟩,dM 2],.row false 2 2 (dQ [var 23,var 24,var 25,var 26,var 27,var 28,var 29,var 30,var 31,var 32,var 33,var 34,var 35,var 36,var 37,var 38,var 39,var 40,var 41,var 42,var 43,var 44,var 45,var 46,var 47,var 48,var 49,var 50,var 51,var 52,var 53,var 54,var 55,var 56,var 57,var 58,var 59,var 60,var 61,var 62,var 63,var 64,var 65,var 66,var 67,var 68,var 69,var 70] 135)⟩] }) (ws:=[(b0,o0,j0.vals),(b1,o1,j1.vals)]) (fr:=fK 137 [(0,.pointer (some ⟨0,0,none⟩)),(1,.agg ⟨[dM 0,dM 1]⟩),(2,dM 2)]) (H:=[dQ [mB 1 [.int .i64 0]] 88]) (lo:=[]) (wb:=[dU [.string j0.name,var 1,var 2,var 3,var 4,var 5,var 6,var 7,var 8,var 9,var 10,var 11],dU [.string j1.name,var 12,var 13,var 14,var 15,var 16,var 17,var 18,var 19,var 20,var 21,var 22]]) (gs:=[(nc,[.bool f],88)]) (ls:=[]) (us':=fun gn nl=>dS 137 [(0,dK nc),(4,dK (nl.getD 0 0)),(6,dK (nl.getD 1 0)),(7,.slice (some ⟨(gn.getD 0 0),0,none⟩) 2 2),(8,dK (nl.getD 2 0)),(9,.slice (some ⟨(gn.getD 1 0),0,none⟩) 2 2)]) (gs':=fun gn nl=>[(nc,[.bool f],88),((gn.getD 0 0),([P0,P1].flatMap gT),135),((gn.getD 1 0),([P0,P1].flatMap fun P=>(kM P).cs nc),98)]) (ls':=fun gn nl=>[((nl.getD 0 0),[dJ B0,dJ B1],35),((nl.getD 1 0),[.pointer none,.slice none 0 0,.slice none 0 0,.slice none 0 0,.slice none 0 0],92)]) 41 _ [0,1,2] [2,3] [7,9] [4,6,8]
  (fun nl w'=>nl.length=3→∃(S:dY) (cb:Array Value),w'.heap[nl.getD 2 0]?=some (.cells cb 92 (0,0))∧cb.size=5∧cb[3]?=some (dJ S)∧(∀(j:Nat) (u:Value),[some (dK nc),some (dJ B0),some (dJ B1),none,some (.slice none 0 0)][j]?=some (some u)→cb[j]?=some u)∧Grow w' S 7 98 2 ([nz j0.kind P0,nz j1.kind P1].flatMap fun v=>v.cs nc)∧∃g,S.1=some ⟨g,0,none⟩∧((∃j,(iC (gB (w0,[nc]) ([m]++fE j0++fE j1++pl P0++pl P1) [f] [B0,B1,X]) (eH [(nc,[.bool f],88)] [] [(b0,o0,j0.vals),(b1,o1,j1.vals)]) w).gb j=some g)∨w.heap.size≤g))
  (fun gn nl e1 e2=>?_) (by kernel_rfl) (fun gn nl e1 e2 e3=>?_) ⟨ed _,yA hQ,?_,(by exact hown),gH,fun _=>?_⟩ h hk (fun s' m' a' w' nl hr hs hA=>?_) (fun a' w' gn nl hR e1 e2 e3 e4 hs hk'=>?_)
 ·match gn,nl,e1,e2 with
  | [gL,g9],[nr,n6,nb],_,_=>show (_:Option _)=_; kernel_rfl
 ·match gn,nl,e1,e2 with
  | [gL,g9],[nr,n6,nb],_,_ =>
   have:=oP e3
   simp only [dI,ae9,dw,dD,bN,bZ,List.nodup_cons,ag,ae,or_false,not_or] at this ⊢
   obtain ⟨⟨a1,a2,a3,a4,a5⟩,⟨a6,a7,a8,a9⟩,⟨b1,b2,b3⟩,⟨b4,b5⟩,_⟩:=this
   exact ⟨⟨a1,a2,a3,a4⟩,⟨a6,a7,a8⟩,⟨b1,b2⟩,b4,(by simp),List.nodup_nil⟩
 ·intro x hx
  simp only [ag,ae,or_false] at hx
  rcases hx with rfl | rfl
  ·exact hw0.wf
  ·exact hw1.wf
 ·refine ⟨fun e he=>?_,fun e he=>?_,fun e he=>by cases he⟩
  ·simp only [fG,ag,ae,or_false] at he
   rcases he with rfl | rfl
   ·obtain ⟨z0,z1,z2,z3,z4⟩:=hw0.pl
    exact ⟨⟨b0,z0,none⟩,B0.2.1,B0.2.2,0,2,(by show B0=_; rw [←z1]),rfl,rfl,z2,z3,rfl,z4⟩
   ·obtain ⟨z0,z1,z2,z3,z4⟩:=hw1.pl
    exact ⟨⟨b1,z0,none⟩,B0.2.1,B0.2.2,1,2,(by show B0=_; rw [←z1]),rfl,rfl,z2,z3,rfl,z4⟩
  ·simp only [fG,ag,ae,or_false] at he
   rcases he with rfl | rfl
   ·exact ⟨2,by show some (num 2)=some (.int .i64 (B0.2.1:Nat)); rw [hB0]; rfl⟩
   ·exact ⟨2,by show some (num m)=some (.int .i64 (B1.2.1:Nat)); rw [←hB1]; rfl⟩
 ·intro hl
  match nl,hl with
  | [nr,n6,nb],_ =>
  have hc:(qK aa (fG (w0,[nc]) ([m]++fE j0++fE j1++pl P0++pl P1) [f] [B0,B1,X] [] [(0,.int .i64 0,12,0),(0,.int .i64 1,12,1)] [(0,.int .i64 2),(1,var 0)] []) (tF aa Tryz.esc (w0,[nc]) ([m]++fE j0++fE j1++pl P0++pl P1) [f] [B0,B1,X] [] [(0,.int .i64 2),(1,var 0)] { QT:=[⟨68,[.agg ⟨[dM 0,dM 1]⟩,dM 2],.row false 2 2 (dQ [var 23,var 24,var 25,var 26,var 27,var 28,var 29,var 30,var 31,var 32,var 33,var 34,var 35,var 36,var 37,var 38,var 39,var 40,var 41,var 42,var 43,var 44,var 45,var 46,var 47,var 48,var 49,var 50,var 51,var 52,var 53,var 54,var 55,var 56,var 57,var 58,var 59,var 60,var 61,var 62,var 63,var 64,var 65,var 66,var 67,var 68,var 69,var 70] 135)⟩] }) (Tryz.esc 41) 200 [dZ (dN aD),jM (dN aD),jK (dN aD),kS (dN aD),dZ (sR 4 (dN aD))] ⟨fK 137 [(0,.pointer (some ⟨0,0,none⟩)),(1,.agg ⟨[dM 0,dM 1]⟩),(2,dM 2)],[dQ [mB 1 [.int .i64 0]] 88],[]++[dU [.string j0.name,var 1,var 2,var 3,var 4,var 5,var 6,var 7,var 8,var 9,var 10,var 11],dU [.string j1.name,var 12,var 13,var 14,var 15,var 16,var 17,var 18,var 19,var 20,var 21,var 22]],[]⟩).map (Cn (gB (w0,[nc]) ([m]++fE j0++fE j1++pl P0++pl P1) [f] [B0,B1,X]) ⟨[nc],(eH [(nc,[.bool f],88)] [] [(b0,o0,j0.vals),(b1,o1,j1.vals)]).lp++[(nr,0),(n6,0),(nb,0)]⟩ 4 3)=some (some ((true,92,5),[some (dK nc),some (dJ B0),some (dJ B1),none,some (.slice none 0 0)],some ((true,7,98),2,some ([nz j0.kind P0,nz j1.kind P1].flatMap fun v=>v.cs nc),14))):=by kernel_rfl
  rw [hr] at hc
  simp only [Option.map_some,ak] at hc
  exact Kh hs hs.ext.le.env hA rfl hc (by decide) (by decide)
 ·match gn,nl,e1,e2 with
  | [gL,g9],[nr,n6,nb],_,_ =>
   simp only [bN,bZ] at hs hR
   obtain ⟨A,cb,k1,k2,k3,k4,k5,g,k6,k7⟩:=hR rfl
   have hcb:cb=#[dK nc,dJ B0,dJ B1,dJ A,.slice none 0 0]:=Ij k2 (k4 0 _ rfl) (k4 1 _ rfl) (k4 2 _ rfl) k3 (k4 4 _ rfl)
   subst hcb
   refine hK a' w' gL g9 nr n6 nb A (fun q hq=>e4 q hq) (oP e3) hs k1 k5 ⟨g,k6,?_⟩ hk'
   rcases k7 with ⟨j,hj⟩ | k7
   ·exfalso
    have hg:g=nc:=by
     match j,hj with
     | 0,hj=>exact (Option.some.inj hj).symm
     | _+1,hj=>cases hj
    subst hg
    obtain ⟨g',cs,q1,q2,_⟩:=k5.blk _ k6
    injection q1 with q1; subst q1
    have q3:=hs.gl _ aA
    rw [q2] at q3
    injection q3 with q3
    injection q3 with _ q3
    exact absurd (show (98:Nat)=88 from q3) (by decide)
   ·exact k7
theorem hd3 {j2:JV} {P2:iF} (hB0:B0.2.1=3) (hB1:(B1.2.1:Int)=m) (hw0:fu w0 [nc] B0 0 12 b0 o0 j0.vals) (hw1:fu w0 [nc] B0 1 12 b1 o1 j1.vals) {b2 o2:Nat} (hw2:fu w0 [nc] B0 2 12 b2 o2 j2.vals)
  (hQ:∀x∈([⟨68,[.agg ⟨[dM 0,dM 1]⟩,dM 2],.row false 3 3 (dQ [var 34,var 35,var 36,var 37,var 38,var 39,var 40,var 41,var 42,var 43,var 44,var 45,var 46,var 47,var 48,var 49,var 50,var 51,var 52,var 53,var 54,var 55,var 56,var 57,var 58,var 59,var 60,var 61,var 62,var 63,var 64,var 65,var 66,var 67,var 68,var 69,var 70,var 71,var 72,var 73,var 74,var 75,var 76,var 77,var 78,var 79,var 80,var 81,var 82,var 83,var 84,var 85,var 86,var 87,var 88,var 89,var 90,var 91,var 92,var 93,var 94,var 95,var 96,var 97,var 98,var 99,var 100,var 101,var 102,var 103,var 104,var 105] 135)⟩]:List Qt),jB aa (gB (w0,[nc]) ([m]++fE j0++fE j1++fE j2++pl P0++pl P1++pl P2) [f] [B0,B1,X]) x)
  (hown:∀q∈[nc]++[],q∈([nc]:List Nat)∨w0.heap.size≤q) (h:dP (dS 137 [(0,dK nc),(1,.agg ⟨[dJ B0,dJ B1]⟩),(2,dJ X)]) [(nc,[.bool f],88)] [] a w) (hk:dO w0 [nc] w)
  (hK:∀(a':Act) (w':World) (gL g9 nr n6 nb:Nat) (A:dY),(∀q∈[gL,g9,nr,n6,nb],w.heap.size≤q∧q<w'.heap.size)→[nc,gL,g9,nr,n6,nb].Nodup→dP (dS 137 [(0,dK nc),(4,dK nr),(6,dK n6),(7,.slice (some ⟨gL,0,none⟩) 3 3),(8,dK nb),(9,.slice (some ⟨g9,0,none⟩) 3 3)]) [(nc,[.bool f],88),(gL,([P0,P1,P2].flatMap gT),135),(g9,([P0,P1,P2].flatMap fun P=>(kM P).cs nc),98)] [(nr,[dJ B0,dJ B1],35),(n6,[.pointer none,.slice none 0 0,.slice none 0 0,.slice none 0 0,.slice none 0 0],92)] a' w'→w'.heap[nb]?=some (.cells #[dK nc,dJ B0,dJ B1,dJ A,.slice none 0 0] 92 (0,0))→Grow w' A 7 98 3 ([nz j0.kind P0,nz j1.kind P1,nz j2.kind P2].flatMap fun v=>v.cs nc)→(∃g,A.1=some ⟨g,0,none⟩∧w.heap.size≤g)→dO w0 [nc] w'→D.wp aa Q a' w'):(fB [dZ (dN aD),jM (dN aD),jK (dN aD),kS (dN aD),dZ (sR 4 (dN aD))] D).wp aa Q a w:=by
 have hnc:∃cs,w.heap[nc]?=some (.cells cs 88 (0,0)):=⟨_,h.gl _ aA⟩
 refine Il ([m]++fE j0++fE j1++fE j2++pl P0++pl P1++pl P2) [f] [B0,B1,X] (g:=[]) (wt:=[(0,.int .i64 0,12,0),(0,.int .i64 1,12,1),(0,.int .i64 2,12,2)]) (lt:=[(0,.int .i64 3),(1,var 0)]) (t:={ QT:=[⟨68,[.agg ⟨[dM 0,dM 1]⟩,dM 2],.row false 3 3 (dQ [var 34,var 35,var 36,var 37,var 38,var 39,var 40,var 41,var 42,var 43,var 44,var 45,var 46,var 47,var 48,var 49,var 50,var 51,var 52,var 53,var 54,var 55,var 56,var 57,var 58,var 59,var 60,var 61,var 62,var 63,var 64,var 65,var 66,var 67,var 68,var 69,var 70,var 71,var 72,var 73,var 74,var 75,var 76,var 77,var 78,var 79,var 80,var 81,var 82,var 83,var 84,var 85,var 86,var 87,var 88,var 89,var 90,var 91,var 92,var 93,var 94,var 95,var 96,var 97,var 98,var 99,var 100,var 101,var 102,var 103,var 104,var 105] 135)⟩] }) (ws:=[(b0,o0,j0.vals),(b1,o1,j1.vals),(b2,o2,j2.vals)]) (fr:=fK 137 [(0,.pointer (some ⟨0,0,none⟩)),(1,.agg ⟨[dM 0,dM 1]⟩),(2,dM 2)]) (H:=[dQ [mB 1 [.int .i64 0]] 88]) (lo:=[]) (wb:=[dU [.string j0.name,var 1,var 2,var 3,var 4,var 5,var 6,var 7,var 8,var 9,var 10,var 11],dU [.string j1.name,var 12,var 13,var 14,var 15,var 16,var 17,var 18,var 19,var 20,var 21,var 22],dU [.string j2.name,var 23,var 24,var 25,var 26,var 27,var 28,var 29,var 30,var 31,var 32,var 33]]) (gs:=[(nc,[.bool f],88)]) (ls:=[]) (us':=fun gn nl=>dS 137 [(0,dK nc),(4,dK (nl.getD 0 0)),(6,dK (nl.getD 1 0)),(7,.slice (some ⟨(gn.getD 0 0),0,none⟩) 3 3),(8,dK (nl.getD 2 0)),(9,.slice (some ⟨(gn.getD 1 0),0,none⟩) 3 3)]) (gs':=fun gn nl=>[(nc,[.bool f],88),((gn.getD 0 0),([P0,P1,P2].flatMap gT),135),((gn.getD 1 0),([P0,P1,P2].flatMap fun P=>(kM P).cs nc),98)]) (ls':=fun gn nl=>[((nl.getD 0 0),[dJ B0,dJ B1],35),((nl.getD 1 0),[.pointer none,.slice none 0 0,.slice none 0 0,.slice none 0 0,.slice none 0 0],92)]) 41 _ [0,1,2] [3,4] [7,9] [4,6,8]
  (fun nl w'=>nl.length=3→∃(S:dY) (cb:Array Value),w'.heap[nl.getD 2 0]?=some (.cells cb 92 (0,0))∧cb.size=5∧cb[3]?=some (dJ S)∧(∀(j:Nat) (u:Value),[some (dK nc),some (dJ B0),some (dJ B1),none,some (.slice none 0 0)][j]?=some (some u)→cb[j]?=some u)∧Grow w' S 7 98 3 ([nz j0.kind P0,nz j1.kind P1,nz j2.kind P2].flatMap fun v=>v.cs nc)∧∃g,S.1=some ⟨g,0,none⟩∧((∃j,(iC (gB (w0,[nc]) ([m]++fE j0++fE j1++fE j2++pl P0++pl P1++pl P2) [f] [B0,B1,X]) (eH [(nc,[.bool f],88)] [] [(b0,o0,j0.vals),(b1,o1,j1.vals),(b2,o2,j2.vals)]) w).gb j=some g)∨w.heap.size≤g))
  (fun gn nl e1 e2=>?_) (by kernel_rfl) (fun gn nl e1 e2 e3=>?_) ⟨ed _,yA hQ,?_,(by exact hown),gH,fun _=>?_⟩ h hk (fun s' m' a' w' nl hr hs hA=>?_) (fun a' w' gn nl hR e1 e2 e3 e4 hs hk'=>?_)
 ·match gn,nl,e1,e2 with
  | [gL,g9],[nr,n6,nb],_,_=>show (_:Option _)=_; kernel_rfl
 ·match gn,nl,e1,e2 with
  | [gL,g9],[nr,n6,nb],_,_ =>
   have:=oP e3
   simp only [dI,ae9,dw,dD,bN,bZ,List.nodup_cons,ag,ae,or_false,not_or] at this ⊢
   obtain ⟨⟨a1,a2,a3,a4,a5⟩,⟨a6,a7,a8,a9⟩,⟨b1,b2,b3⟩,⟨b4,b5⟩,_⟩:=this
   exact ⟨⟨a1,a2,a3,a4⟩,⟨a6,a7,a8⟩,⟨b1,b2⟩,b4,(by simp),List.nodup_nil⟩
 ·intro x hx
  simp only [ag,ae,or_false] at hx
  rcases hx with rfl | rfl | rfl
  ·exact hw0.wf
  ·exact hw1.wf
  ·exact hw2.wf
 ·refine ⟨fun e he=>?_,fun e he=>?_,fun e he=>by cases he⟩
  ·simp only [fG,ag,ae,or_false] at he
   rcases he with rfl | rfl | rfl
   ·obtain ⟨z0,z1,z2,z3,z4⟩:=hw0.pl
    exact ⟨⟨b0,z0,none⟩,B0.2.1,B0.2.2,0,2,(by show B0=_; rw [←z1]),rfl,rfl,z2,z3,rfl,z4⟩
   ·obtain ⟨z0,z1,z2,z3,z4⟩:=hw1.pl
    exact ⟨⟨b1,z0,none⟩,B0.2.1,B0.2.2,1,2,(by show B0=_; rw [←z1]),rfl,rfl,z2,z3,rfl,z4⟩
   ·obtain ⟨z0,z1,z2,z3,z4⟩:=hw2.pl
    exact ⟨⟨b2,z0,none⟩,B0.2.1,B0.2.2,2,2,(by show B0=_; rw [←z1]),rfl,rfl,z2,z3,rfl,z4⟩
  ·simp only [fG,ag,ae,or_false] at he
   rcases he with rfl | rfl
   ·exact ⟨2,by show some (num 3)=some (.int .i64 (B0.2.1:Nat)); rw [hB0]; rfl⟩
   ·exact ⟨2,by show some (num m)=some (.int .i64 (B1.2.1:Nat)); rw [←hB1]; rfl⟩
 ·intro hl
  match nl,hl with
  | [nr,n6,nb],_ =>
  have hc:(qK aa (fG (w0,[nc]) ([m]++fE j0++fE j1++fE j2++pl P0++pl P1++pl P2) [f] [B0,B1,X] [] [(0,.int .i64 0,12,0),(0,.int .i64 1,12,1),(0,.int .i64 2,12,2)] [(0,.int .i64 3),(1,var 0)] []) (tF aa Tryz.esc (w0,[nc]) ([m]++fE j0++fE j1++fE j2++pl P0++pl P1++pl P2) [f] [B0,B1,X] [] [(0,.int .i64 3),(1,var 0)] { QT:=[⟨68,[.agg ⟨[dM 0,dM 1]⟩,dM 2],.row false 3 3 (dQ [var 34,var 35,var 36,var 37,var 38,var 39,var 40,var 41,var 42,var 43,var 44,var 45,var 46,var 47,var 48,var 49,var 50,var 51,var 52,var 53,var 54,var 55,var 56,var 57,var 58,var 59,var 60,var 61,var 62,var 63,var 64,var 65,var 66,var 67,var 68,var 69,var 70,var 71,var 72,var 73,var 74,var 75,var 76,var 77,var 78,var 79,var 80,var 81,var 82,var 83,var 84,var 85,var 86,var 87,var 88,var 89,var 90,var 91,var 92,var 93,var 94,var 95,var 96,var 97,var 98,var 99,var 100,var 101,var 102,var 103,var 104,var 105] 135)⟩] }) (Tryz.esc 41) 200 [dZ (dN aD),jM (dN aD),jK (dN aD),kS (dN aD),dZ (sR 4 (dN aD))] ⟨fK 137 [(0,.pointer (some ⟨0,0,none⟩)),(1,.agg ⟨[dM 0,dM 1]⟩),(2,dM 2)],[dQ [mB 1 [.int .i64 0]] 88],[]++[dU [.string j0.name,var 1,var 2,var 3,var 4,var 5,var 6,var 7,var 8,var 9,var 10,var 11],dU [.string j1.name,var 12,var 13,var 14,var 15,var 16,var 17,var 18,var 19,var 20,var 21,var 22],dU [.string j2.name,var 23,var 24,var 25,var 26,var 27,var 28,var 29,var 30,var 31,var 32,var 33]],[]⟩).map (Cn (gB (w0,[nc]) ([m]++fE j0++fE j1++fE j2++pl P0++pl P1++pl P2) [f] [B0,B1,X]) ⟨[nc],(eH [(nc,[.bool f],88)] [] [(b0,o0,j0.vals),(b1,o1,j1.vals),(b2,o2,j2.vals)]).lp++[(nr,0),(n6,0),(nb,0)]⟩ 5 3)=some (some ((true,92,5),[some (dK nc),some (dJ B0),some (dJ B1),none,some (.slice none 0 0)],some ((true,7,98),3,some ([nz j0.kind P0,nz j1.kind P1,nz j2.kind P2].flatMap fun v=>v.cs nc),21))):=by kernel_rfl
  rw [hr] at hc
  simp only [Option.map_some,ak] at hc
  exact Kh hs hs.ext.le.env hA rfl hc (by decide) (by decide)
 ·match gn,nl,e1,e2 with
  | [gL,g9],[nr,n6,nb],_,_ =>
   simp only [bN,bZ] at hs hR
   obtain ⟨A,cb,k1,k2,k3,k4,k5,g,k6,k7⟩:=hR rfl
   have hcb:cb=#[dK nc,dJ B0,dJ B1,dJ A,.slice none 0 0]:=Ij k2 (k4 0 _ rfl) (k4 1 _ rfl) (k4 2 _ rfl) k3 (k4 4 _ rfl)
   subst hcb
   refine hK a' w' gL g9 nr n6 nb A (fun q hq=>e4 q hq) (oP e3) hs k1 k5 ⟨g,k6,?_⟩ hk'
   rcases k7 with ⟨j,hj⟩ | k7
   ·exfalso
    have hg:g=nc:=by
     match j,hj with
     | 0,hj=>exact (Option.some.inj hj).symm
     | _+1,hj=>cases hj
    subst hg
    obtain ⟨g',cs,q1,q2,_⟩:=k5.blk _ k6
    injection q1 with q1; subst q1
    have q3:=hs.gl _ aA
    rw [q2] at q3
    injection q3 with q3
    injection q3 with _ q3
    exact absurd (show (98:Nat)=88 from q3) (by decide)
   ·exact k7
end Go.Proofs
end
