/-
  Part of the proof: see the last text.
-/
import Derived.Test.YthbfmjlcnfgnbaaGreatZXi
import Derived.Test.YthbfmjlcnfgnbaaGreatZXj
set_option linter.unusedVariables false
set_option maxHeartbeats 8000000
open Array renaming getElem?_eq_some_iff→aB
open Go.IntKind renaming i64→bg
open Go.IntWalk renaming i64_in→dz
open List renaming getElem?_eq_getElem→ah,getElem?_of_mem→cZ,length_cons→dB,length_nil→aeT,mem_cons→ag,mem_cons_self→aA,mem_map→aeZ,not_mem_nil→ae
open Nat renaming le_refl→au,succ_pos→aO
open Go.Proofs.Tryz renaming prog→aa
open Go.World renaming cell?→bS
section
namespace Go.Proofs
open Go.Sm Go.RowKit En
set_option maxHeartbeats 8000000
variable {w0 w:World} {ex:List Nat}
theorem Ye (h:iV (w0,ex) w) {b o:Nat} {v:Value} (h1:b<w0.heap.size) (h2:b∉ex) (hc:w0.cell? ⟨b,o,none⟩=some v):w.cell? ⟨b,o,none⟩=some v:=by
 obtain ⟨cs,t,f,k1,k2⟩:=tZ hc
 have:=h b (cs,t,f) (JU h1 h2 k1)
 simp [bS,this,k2]
theorem l8 {oa:Option Addr} {n:Nat} {rows:List (List Value)} (h:Sl w0 oa n rows) (hF:iV (w0,ex) w) (hr:∀r∈rows,r≠[]) (hx:∀a,oa=some a→rows≠[]→a.block∉ex):Sl w oa n rows:=fun h0=>by
 obtain ⟨b,off,e,h1⟩:=h h0
 have hb:=hx _ e h0
 have key:∀i r,rows[i]?=some r→∀k v,r[k]?=some v→w.cell? ⟨b,off+(i*n+k),none⟩=some v:=fun i r hi k v hv=>Ye hF h1.lt hb (h1.c i r hi k v hv)
 obtain ⟨r,l,rfl⟩:∃r l,rows=r::l:=by cases rows with | nil=>exact absurd rfl h0 | cons r l=>exact ⟨r,l,rfl⟩
 obtain ⟨v,t,rfl⟩:∃v t,r=v::t:=by cases r with | nil=>exact absurd rfl (hr [] aA) | cons v t=>exact ⟨v,t,rfl⟩
 obtain ⟨cs,_,_,k1,_⟩:=tZ (key 0 _ rfl 0 v rfl)
 exact ⟨b,off,e,(aB.1 k1).1,key⟩
theorem ZN (ms:List MV):∀r∈ms.map MV.vals,r≠[]:=fun r hr e=>by
 obtain ⟨k,_,rfl⟩:=aeZ.1 hr
 cases e
structure jW (w:World) (ex:List Nat) (B0 B1:dY) (js:List JV) (mvs:List MV):Prop where
 n:1≤js.length∧js.length≤3
 m:mvs.length≤100
 b0:B0.2.1=js.length
 b1:B1.2.1=mvs.length
 sB:Sl w B0.1 12 (js.map JV.vals)
 sM:Sl w B1.1 5 (mvs.map MV.vals)
 xB:∀a,B0.1=some a→a.block∉ex∧a.block<w.heap.size
 xM:∀a,B1.1=some a→mvs≠[]→a.block∉ex∧a.block<w.heap.size
 ok:yu js mvs
 pr:∀(i:Nat) (j:JV),js[i]?=some j→-1≤j.parent∧j.parent<i
 kd:∀(i:Nat) (j:JV),js[i]?=some j→0≤j.kind∧j.kind≤6
 ms:∀(i:Nat) (mv:MV),mvs[i]?=some mv→(0≤mv.link∧mv.link<js.length)∧1≤mv.eT∧mv.eT≤1000000000
variable {B0 B1:dY} {js:List JV} {mvs:List MV}
theorem jW.fz (h:jW w0 ex B0 B1 js mvs) (hF:iV (w0,ex) w):jW w ex B0 B1 js mvs:=by
 have s1:=l8 h.sB hF (AX _) fun a ha _=>(h.xB a ha).1
 have s2:=l8 h.sM hF (ZN _) fun a ha h0=>(h.xM a ha (by simpa using h0)).1
 refine { h with sB:=s1,sM:=s2,xB:=fun a ha=>⟨(h.xB a ha).1,?_⟩,xM:=fun a ha h0=>⟨(h.xM a ha h0).1,?_⟩ }
 ·obtain ⟨b,off,e,hR⟩:=s1 (fun e=>by have:=h.n.1; rw [List.map_eq_nil_iff] at e; rw [e] at this; simp at this)
  rw [ha] at e; injection e with e; subst e; exact hR.lt
 ·obtain ⟨b,off,e,hR⟩:=s2 (by simpa using h0)
  rw [ha] at e; injection e with e; subst e; exact hR.lt
theorem Xl (h:jW w ex B0 B1 js mvs):Calls aa 86 #[.agg ⟨[dJ B0,dJ B1]⟩] w fun r w'=>r=.returned (num 0)∧Below w.heap.size w w':=by
 obtain ⟨oa,n,c⟩:=B0
 obtain ⟨om,m,cm⟩:=B1
 have h1:=h.b0; have h2:=h.b1
 simp only at h1 h2
 subst h1 h2
 refine (M8 oa om c cm js mvs w (by have:=h.n; omega) (by have:=h.m; omega) h.sB h.sM).mono fun e w' hp=>?_
 obtain ⟨c,rfl,hc,hb⟩:=hp
 rw [hc.2 h.ok]
 exact ⟨rfl,hb⟩
variable {l:List Int} {bs:List Bool} {sl:List dY} {ws:List jC}
theorem qI (h:jW w0 ex B0 B1 js mvs):jB aa (gP (w0,ex) l bs (B0::B1::sl) ws) ⟨86,[.agg ⟨[dM 0,dM 1]⟩],.val (.int .i64 0)⟩:=fun w hF =>
 ⟨[.agg ⟨[dJ B0,dJ B1]⟩],by kernel_rfl,(Xl (h.fz hF)).mono fun e w' ⟨h1,h2⟩=>⟨h2,num 0,rfl,h1⟩⟩
variable {cn:List Value}
theorem xJ {P J C:iF} {pn jn:List Value} (hC:C=kE P J) (h1:fP (gP (w0,ex) l bs sl ws) ⟨[],[]⟩ 5 (.agg ⟨pn⟩)=some (.agg ⟨gT P⟩)) (h2:fP (gP (w0,ex) l bs sl ws) ⟨[],[]⟩ 5 (.agg ⟨jn⟩)=some (.agg ⟨gT J⟩)) (h3:fP (gP (w0,ex) l bs sl ws) ⟨[],[]⟩ 5 (.agg ⟨cn⟩)=some (.agg ⟨gT C⟩)) :
  jB aa (gP (w0,ex) l bs sl ws) ⟨118,[.agg ⟨pn⟩,.agg ⟨jn⟩],.val (.agg ⟨cn⟩)⟩:=fun w hF=>by
 refine ⟨[.agg ⟨gT P⟩,.agg ⟨gT J⟩],by simp only [eQ,h1,h2],?_⟩
 have:=Qb (pl P++pl J) w rfl
 rw [show (vL Cu.args (pl P++pl J))=[.agg ⟨gT P⟩,.agg ⟨gT J⟩] by kernel_rfl,show kW (qZ (eO []) (pl P++pl J) Cu.j Cu.res)=.agg ⟨gT (kE P J)⟩ by kernel_rfl] at this
 rw [←hC] at this
 exact this.mono fun e w' ⟨q1,q2⟩=>⟨q2,_,h3,q1⟩
variable {xn:Value}
theorem L9 {k x y:Int} {T:iF} (hT:T=fun i=>FN (159+i) [k,x,y]) (h1:fP (gP (w0,ex) l bs sl ws) ⟨[],[]⟩ 5 xn=some (.agg ⟨[num x,num y]⟩)) (h3:fP (gP (w0,ex) l bs sl ws) ⟨[],[]⟩ 5 (.agg ⟨cn⟩)=some (.agg ⟨gT T⟩)) :
  jB aa (gP (w0,ex) l bs sl ws) ⟨146,[.int .i64 k,xn],.val (.agg ⟨cn⟩)⟩:=fun w hF=>by
 refine ⟨[num k,.agg ⟨[num x,num y]⟩],by simp only [eQ,h1]; rfl,?_⟩
 have:=Qc [k,x,y] w rfl
 rw [show (vL Cv.args [k,x,y])=[num k,.agg ⟨[num x,num y]⟩] by kernel_rfl,show kW (qZ (eO []) [k,x,y] Cv.j Cv.res)=.agg ⟨gT (fun i=>FN (159+i) [k,x,y])⟩ by kernel_rfl] at this
 rw [←hT] at this
 exact this.mono fun e w' ⟨q1,q2⟩=>⟨q2,_,h3,q1⟩
theorem kJ (w:World) (ex:List Nat):iV (w,ex) w:=fun g c hc=>(JS hc).2
theorem YI (o0 o1 o2 x y:Int):nK 1 o0 o1 o2 x y=kE (kY (pg 62 [o0,o1,o2]).l) (fun i=>FN (159+i) [0,x,y]):=by unfold nK Fe; simp only [show ((1:Int)==1)=true from rfl,cond_true]
theorem YJ (o0 o1 o2 x y:Int):nK 2 o0 o1 o2 x y=kE (kY (pg 62 [o0,o1,o2]).l) (fun i=>FN (159+i) [1,x,y]):=by unfold nK Fe; simp only [show ((2:Int)==1)=false from rfl,show ((2:Int)==2)=true from rfl,cond_true,cond_false]
theorem YK (o0 o1 o2 x y:Int):nK 3 o0 o1 o2 x y=kE (kY (pg 62 [o0,o1,o2]).l) (fun i=>FN (159+i) [2,x,y]):=by unfold nK Fe; simp only [show ((3:Int)==1)=false from rfl,show ((3:Int)==2)=false from rfl,show ((3:Int)==3)=true from rfl,cond_true,cond_false]
theorem YH (o0 o1 o2 x y:Int):nK 0 o0 o1 o2 x y=kE (kY (pg 62 [o0,o1,o2]).l) (fun i=>FN (183+i) []):=rfl
theorem YL (o0 o1 o2 x y:Int):nK 4 o0 o1 o2 x y=kE (kY (pg 62 [o0,o1,o2]).l) (kY [x,y,0,0,0,0]):=rfl
theorem YM (o0 o1 o2 x y:Int):nK 5 o0 o1 o2 x y=kE (kY (pg 62 [o0,o1,o2]).l) (kY [0,0,x,y,0,0]):=rfl
theorem YN (o0 o1 o2 x y:Int):nK 6 o0 o1 o2 x y=kE (kY (pg 62 [o0,o1,o2]).l) (kY [0,0,0,0,x,y]):=rfl
def jP (j:JV) (b:Int×Int):iF:=nK j.kind j.o0 j.o1 j.o2 b.1 b.2
theorem YP (s:ByteArray) (pa o0 o1 o2 lo hi we sp ac tq x y:Int) (w:World):Calls aa 117 #[.agg ⟨[.string s,num 0,num pa,num o0,num o1,num o2,num lo,num hi,num we,num sp,num ac,num tq]⟩,.agg ⟨[num x,num y]⟩] w fun e w'=>e=.returned (.agg ⟨gT (nK 0 o0 o1 o2 x y)⟩)∧Below w.heap.size w w':=by
 rw [YH]
 exact Yz (ex:=[]) (kJ w [])
theorem YQ (s:ByteArray) (pa o0 o1 o2 lo hi we sp ac tq x y:Int) (w:World):Calls aa 117 #[.agg ⟨[.string s,num 1,num pa,num o0,num o1,num o2,num lo,num hi,num we,num sp,num ac,num tq]⟩,.agg ⟨[num x,num y]⟩] w fun e w'=>e=.returned (.agg ⟨gT (nK 1 o0 o1 o2 x y)⟩)∧Below w.heap.size w w':=by
 rw [YI]
 obtain ⟨T,hT⟩:∃T:iF,T=fun i=>FN (159+i) [0,x,y]:=⟨_,rfl⟩
 rw [←hT]
 exact YA (ex:=[]) (T:=T) (fun z hz=>by simp only [ag,ae,or_false] at hz; subst hz; exact L9 (k:=0) (x:=x) (y:=y) hT (by kernel_rfl) (by kernel_rfl)) (kJ w [])
theorem YR (s:ByteArray) (pa o0 o1 o2 lo hi we sp ac tq x y:Int) (w:World):Calls aa 117 #[.agg ⟨[.string s,num 2,num pa,num o0,num o1,num o2,num lo,num hi,num we,num sp,num ac,num tq]⟩,.agg ⟨[num x,num y]⟩] w fun e w'=>e=.returned (.agg ⟨gT (nK 2 o0 o1 o2 x y)⟩)∧Below w.heap.size w w':=by
 rw [YJ]
 obtain ⟨T,hT⟩:∃T:iF,T=fun i=>FN (159+i) [1,x,y]:=⟨_,rfl⟩
 rw [←hT]
 exact YB (ex:=[]) (T:=T) (fun z hz=>by simp only [ag,ae,or_false] at hz; subst hz; exact L9 (k:=1) (x:=x) (y:=y) hT (by kernel_rfl) (by kernel_rfl)) (kJ w [])
theorem YS (s:ByteArray) (pa o0 o1 o2 lo hi we sp ac tq x y:Int) (w:World):Calls aa 117 #[.agg ⟨[.string s,num 3,num pa,num o0,num o1,num o2,num lo,num hi,num we,num sp,num ac,num tq]⟩,.agg ⟨[num x,num y]⟩] w fun e w'=>e=.returned (.agg ⟨gT (nK 3 o0 o1 o2 x y)⟩)∧Below w.heap.size w w':=by
 rw [YK]
 obtain ⟨T,hT⟩:∃T:iF,T=fun i=>FN (159+i) [2,x,y]:=⟨_,rfl⟩
 rw [←hT]
 exact YC (ex:=[]) (T:=T) (fun z hz=>by simp only [ag,ae,or_false] at hz; subst hz; exact L9 (k:=2) (x:=x) (y:=y) hT (by kernel_rfl) (by kernel_rfl)) (kJ w [])
theorem YT (s:ByteArray) (pa o0 o1 o2 lo hi we sp ac tq x y:Int) (w:World):Calls aa 117 #[.agg ⟨[.string s,num 4,num pa,num o0,num o1,num o2,num lo,num hi,num we,num sp,num ac,num tq]⟩,.agg ⟨[num x,num y]⟩] w fun e w'=>e=.returned (.agg ⟨gT (nK 4 o0 o1 o2 x y)⟩)∧Below w.heap.size w w':=by
 rw [YL]
 exact YD (ex:=[]) (kJ w [])
theorem YU (s:ByteArray) (pa o0 o1 o2 lo hi we sp ac tq x y:Int) (w:World):Calls aa 117 #[.agg ⟨[.string s,num 5,num pa,num o0,num o1,num o2,num lo,num hi,num we,num sp,num ac,num tq]⟩,.agg ⟨[num x,num y]⟩] w fun e w'=>e=.returned (.agg ⟨gT (nK 5 o0 o1 o2 x y)⟩)∧Below w.heap.size w w':=by
 rw [YM]
 exact YE (ex:=[]) (kJ w [])
theorem YV (s:ByteArray) (pa o0 o1 o2 lo hi we sp ac tq x y:Int) (w:World):Calls aa 117 #[.agg ⟨[.string s,num 6,num pa,num o0,num o1,num o2,num lo,num hi,num we,num sp,num ac,num tq]⟩,.agg ⟨[num x,num y]⟩] w fun e w'=>e=.returned (.agg ⟨gT (nK 6 o0 o1 o2 x y)⟩)∧Below w.heap.size w w':=by
 rw [YN]
 exact YF (ex:=[]) (kJ w [])
theorem YO (s:ByteArray) (kind pa o0 o1 o2 lo hi we sp ac tq x y:Int) (w:World) (h:0≤kind∧kind≤6):Calls aa 117 #[.agg ⟨[.string s,num kind,num pa,num o0,num o1,num o2,num lo,num hi,num we,num sp,num ac,num tq]⟩,.agg ⟨[num x,num y]⟩] w fun e w'=>e=.returned (.agg ⟨gT (nK kind o0 o1 o2 x y)⟩)∧Below w.heap.size w w':=by
 have:kind=0∨kind=1∨kind=2∨kind=3∨kind=4∨kind=5∨kind=6:=by omega
 rcases this with h | h | h | h | h | h | h<;>rw [h]
 ·exact YP s pa o0 o1 o2 lo hi we sp ac tq x y w
 ·exact YQ s pa o0 o1 o2 lo hi we sp ac tq x y w
 ·exact YR s pa o0 o1 o2 lo hi we sp ac tq x y w
 ·exact YS s pa o0 o1 o2 lo hi we sp ac tq x y w
 ·exact YT s pa o0 o1 o2 lo hi we sp ac tq x y w
 ·exact YU s pa o0 o1 o2 lo hi we sp ac tq x y w
 ·exact YV s pa o0 o1 o2 lo hi we sp ac tq x y w
theorem lD {j:JV} {b:Int×Int} {V:iF} {cs vn:List Value} (hV:V=jP j b) (hk:0≤j.kind∧j.kind≤6) (h1:eQ (fP (gP (w0,ex) l bs sl ws) ⟨[],[]⟩ 5) cs=some ((fE j).map num)) (h2:fP (gP (w0,ex) l bs sl ws) ⟨[],[]⟩ 5 xn=some (.agg ⟨[num b.1,num b.2]⟩)) (h3:fP (gP (w0,ex) l bs sl ws) ⟨[],[]⟩ 5 (.agg ⟨vn⟩)=some (.agg ⟨gT V⟩)) :
  sG aa (gP (w0,ex) l bs sl ws) ⟨117,cs,[xn],.agg ⟨vn⟩⟩ :=
 ⟨(fE j).map num,[.agg ⟨[num b.1,num b.2]⟩],_,h1,by simp only [eQ,h2],h3,fun s w _=>by rw [hV]; exact YO s j.kind j.parent j.o0 j.o1 j.o2 j.lo j.hi j.weight j.speed j.iL j.iO b.1 b.2 w hk⟩
def jH:List iF→List JV→List (Int×Int)→List iF
 | acc,j::js,b::bs=>jH (acc++[bif j.parent==-1 then jP j b else kE (acc.getD j.parent.toNat pz) (jP j b)]) js bs
 | acc,_,_=>acc
variable {p:Int}
theorem lG (j:JV) (h:j.parent=p):j.vals=[.string j.name,num j.kind,num p,num j.o0,num j.o1,num j.o2,num j.lo,num j.hi,num j.weight,num j.speed,num j.iL,num j.iO]:=by subst h; rfl
theorem lC (j:JV) (h:j.parent=p):(fE j).map num=[num j.kind,num p,num j.o0,num j.o1,num j.o2,num j.lo,num j.hi,num j.weight,num j.speed,num j.iL,num j.iO]:=by subst h; rfl
def jE (bs:List (Int×Int)):List (List Value):=bs.map fun b=>[num b.1,num b.2]
theorem MR (bs:List (Int×Int)):∀r∈jE bs,r≠[]:=fun r hr e=>by
 obtain ⟨k,_,rfl⟩:=aeZ.1 hr
 cases e
variable {X:dY} {j0:JV} {x0:Int×Int}
theorem Zk (h:jW w ex B0 B1 [j0] mvs) (hX:X.2.1=1) (sX:Sl w X.1 2 (jE [x0])) (xX:∀a,X.1=some a→a.block∉ex) (hv0:fC x0.1 x0.2=true) :
  Calls aa 68 #[.agg ⟨[dJ B0,dJ B1]⟩,dJ X] w (xE (jH [] [j0] [x0]) w):=by
 obtain ⟨bB0,oB0,rB0⟩:=iy (i:=0) (ex:=ex) h.sB (by simp [h.b0]) (show ([j0].map JV.vals)[0]?=some j0.vals from rfl) (aO _) (fun a ha=>(h.xB a ha).1)
 obtain ⟨bX0,oX0,rX0⟩:=iy (i:=0) (ex:=ex) sX (by simp [hX,jE]) (show (jE [x0])[0]?=some [num x0.1,num x0.2] from rfl) (aO _) xX
 have k0:=h.kd 0 j0 rfl
 have p0:=h.pr 0 j0 rfl
 have hp0:j0.parent=-1:=by omega
 obtain ⟨J0,hJ0⟩:∃J,J=jP j0 x0:=⟨_,rfl⟩
 have hl:jH [] [j0] [x0]=[J0]:=by
  simp only [hJ0]
  simp [jH,hp0]
 rw [hl]
 rw [lG j0 hp0] at rB0
 refine Zb (J0:=J0)  h.b0 hX hv0 rB0 rX0 (fun z hz=>?_) (fun z hz=>?_) (kJ w ex)
 ·simp only [ag,ae,or_false] at hz
  rcases hz with rfl
  ·exact qI h
 ·simp only [ag,ae,or_false] at hz
  rcases hz with rfl
  ·exact lD (j:=j0) (b:=x0) hJ0 k0 (by rw [lC j0 hp0]; kernel_rfl) (by kernel_rfl) (by kernel_rfl)
variable {j1:JV} {x1:Int×Int}
theorem Zl (h:jW w ex B0 B1 [j0,j1] mvs) (hX:X.2.1=2) (sX:Sl w X.1 2 (jE [x0,x1])) (xX:∀a,X.1=some a→a.block∉ex) (hv0:fC x0.1 x0.2=true) (hv1:fC x1.1 x1.2=true) :
  Calls aa 68 #[.agg ⟨[dJ B0,dJ B1]⟩,dJ X] w (xE (jH [] [j0,j1] [x0,x1]) w):=by
 obtain ⟨bB0,oB0,rB0⟩:=iy (i:=0) (ex:=ex) h.sB (by simp [h.b0]) (show ([j0,j1].map JV.vals)[0]?=some j0.vals from rfl) (aO _) (fun a ha=>(h.xB a ha).1)
 obtain ⟨bX0,oX0,rX0⟩:=iy (i:=0) (ex:=ex) sX (by simp [hX,jE]) (show (jE [x0,x1])[0]?=some [num x0.1,num x0.2] from rfl) (aO _) xX
 have k0:=h.kd 0 j0 rfl
 have p0:=h.pr 0 j0 rfl
 obtain ⟨bB1,oB1,rB1⟩:=iy (i:=1) (ex:=ex) h.sB (by simp [h.b0]) (show ([j0,j1].map JV.vals)[1]?=some j1.vals from rfl) (aO _) (fun a ha=>(h.xB a ha).1)
 obtain ⟨bX1,oX1,rX1⟩:=iy (i:=1) (ex:=ex) sX (by simp [hX,jE]) (show (jE [x0,x1])[1]?=some [num x1.1,num x1.2] from rfl) (aO _) xX
 have k1:=h.kd 1 j1 rfl
 have p1:=h.pr 1 j1 rfl
 have hc:(j0.parent=-1∧j1.parent=-1)∨(j0.parent=-1∧j1.parent=0):=by omega
 rcases hc with ⟨hp0,hp1⟩ | ⟨hp0,hp1⟩
 ·obtain ⟨J0,hJ0⟩:∃J,J=jP j0 x0:=⟨_,rfl⟩
  obtain ⟨J1,hJ1⟩:∃J,J=jP j1 x1:=⟨_,rfl⟩
  have hl:jH [] [j0,j1] [x0,x1]=[J0,J1]:=by
   simp only [hJ0,hJ1]
   simp [jH,hp0,hp1]
  rw [hl]
  rw [lG j0 hp0] at rB0
  rw [lG j1 hp1] at rB1
  refine Zc (J0:=J0) (J1:=J1)  h.b0 hX hv0 hv1 rB0 rB1 rX0 rX1 (fun z hz=>?_) (fun z hz=>?_) (kJ w ex)
  ·simp only [ag,ae,or_false] at hz
   rcases hz with rfl
   ·exact qI h
  ·simp only [ag,ae,or_false] at hz
   rcases hz with rfl | rfl
   ·exact lD (j:=j0) (b:=x0) hJ0 k0 (by rw [lC j0 hp0]; kernel_rfl) (by kernel_rfl) (by kernel_rfl)
   ·exact lD (j:=j1) (b:=x1) hJ1 k1 (by rw [lC j1 hp1]; kernel_rfl) (by kernel_rfl) (by kernel_rfl)
 ·obtain ⟨J0,hJ0⟩:∃J,J=jP j0 x0:=⟨_,rfl⟩
  obtain ⟨J1,hJ1⟩:∃J,J=jP j1 x1:=⟨_,rfl⟩
  obtain ⟨C1,hC1⟩:∃C,C=kE J0 J1:=⟨_,rfl⟩
  have hl:jH [] [j0,j1] [x0,x1]=[J0,C1]:=by
   simp only [hC1,hJ0,hJ1]
   simp [jH,hp0,hp1]
  rw [hl]
  rw [lG j0 hp0] at rB0
  rw [lG j1 hp1] at rB1
  refine Zg (J0:=J0) (J1:=J1) (C1:=C1) h.b0 hX hv0 hv1 rB0 rB1 rX0 rX1 (fun z hz=>?_) (fun z hz=>?_) (kJ w ex)
  ·simp only [ag,ae,or_false] at hz
   rcases hz with rfl | rfl
   ·exact qI h
   ·exact xJ (P:=J0) (J:=J1) hC1 (by kernel_rfl) (by kernel_rfl) (by kernel_rfl)
  ·simp only [ag,ae,or_false] at hz
   rcases hz with rfl | rfl
   ·exact lD (j:=j0) (b:=x0) hJ0 k0 (by rw [lC j0 hp0]; kernel_rfl) (by kernel_rfl) (by kernel_rfl)
   ·exact lD (j:=j1) (b:=x1) hJ1 k1 (by rw [lC j1 hp1]; kernel_rfl) (by kernel_rfl) (by kernel_rfl)
theorem Zm {j2:JV} {x2:Int×Int} (h:jW w ex B0 B1 [j0,j1,j2] mvs) (hX:X.2.1=3) (sX:Sl w X.1 2 (jE [x0,x1,x2])) (xX:∀a,X.1=some a→a.block∉ex) (hv0:fC x0.1 x0.2=true) (hv1:fC x1.1 x1.2=true) (hv2:fC x2.1 x2.2=true) :
  Calls aa 68 #[.agg ⟨[dJ B0,dJ B1]⟩,dJ X] w (xE (jH [] [j0,j1,j2] [x0,x1,x2]) w):=by
 obtain ⟨bB0,oB0,rB0⟩:=iy (i:=0) (ex:=ex) h.sB (by simp [h.b0]) (show ([j0,j1,j2].map JV.vals)[0]?=some j0.vals from rfl) (aO _) (fun a ha=>(h.xB a ha).1)
 obtain ⟨bX0,oX0,rX0⟩:=iy (i:=0) (ex:=ex) sX (by simp [hX,jE]) (show (jE [x0,x1,x2])[0]?=some [num x0.1,num x0.2] from rfl) (aO _) xX
 have k0:=h.kd 0 j0 rfl
 have p0:=h.pr 0 j0 rfl
 obtain ⟨bB1,oB1,rB1⟩:=iy (i:=1) (ex:=ex) h.sB (by simp [h.b0]) (show ([j0,j1,j2].map JV.vals)[1]?=some j1.vals from rfl) (aO _) (fun a ha=>(h.xB a ha).1)
 obtain ⟨bX1,oX1,rX1⟩:=iy (i:=1) (ex:=ex) sX (by simp [hX,jE]) (show (jE [x0,x1,x2])[1]?=some [num x1.1,num x1.2] from rfl) (aO _) xX
 have k1:=h.kd 1 j1 rfl
 have p1:=h.pr 1 j1 rfl
 obtain ⟨bB2,oB2,rB2⟩:=iy (i:=2) (ex:=ex) h.sB (by simp [h.b0]) (show ([j0,j1,j2].map JV.vals)[2]?=some j2.vals from rfl) (aO _) (fun a ha=>(h.xB a ha).1)
 obtain ⟨bX2,oX2,rX2⟩:=iy (i:=2) (ex:=ex) sX (by simp [hX,jE]) (show (jE [x0,x1,x2])[2]?=some [num x2.1,num x2.2] from rfl) (aO _) xX
 have k2:=h.kd 2 j2 rfl
 have p2:=h.pr 2 j2 rfl
 have hc:(j0.parent=-1∧j1.parent=-1∧j2.parent=-1)∨(j0.parent=-1∧j1.parent=-1∧j2.parent=0)∨(j0.parent=-1∧j1.parent=-1∧j2.parent=1)∨(j0.parent=-1∧j1.parent=0∧j2.parent=-1)∨(j0.parent=-1∧j1.parent=0∧j2.parent=0)∨(j0.parent=-1∧j1.parent=0∧j2.parent=1):=by omega
 rcases hc with ⟨hp0,hp1,hp2⟩ | ⟨hp0,hp1,hp2⟩ | ⟨hp0,hp1,hp2⟩ | ⟨hp0,hp1,hp2⟩ | ⟨hp0,hp1,hp2⟩ | ⟨hp0,hp1,hp2⟩
 ·obtain ⟨J0,hJ0⟩:∃J,J=jP j0 x0:=⟨_,rfl⟩
  obtain ⟨J1,hJ1⟩:∃J,J=jP j1 x1:=⟨_,rfl⟩
  obtain ⟨J2,hJ2⟩:∃J,J=jP j2 x2:=⟨_,rfl⟩
  have hl:jH [] [j0,j1,j2] [x0,x1,x2]=[J0,J1,J2]:=by
   simp only [hJ0,hJ1,hJ2]
   simp [jH,hp0,hp1,hp2]
  rw [hl]
  rw [lG j0 hp0] at rB0
  rw [lG j1 hp1] at rB1
  rw [lG j2 hp2] at rB2
  refine Zd (J0:=J0) (J1:=J1) (J2:=J2)  h.b0 hX hv0 hv1 hv2 rB0 rB1 rB2 rX0 rX1 rX2 (fun z hz=>?_) (fun z hz=>?_) (kJ w ex)
  ·simp only [ag,ae,or_false] at hz
   rcases hz with rfl
   ·exact qI h
  ·simp only [ag,ae,or_false] at hz
   rcases hz with rfl | rfl | rfl
   ·exact lD (j:=j0) (b:=x0) hJ0 k0 (by rw [lC j0 hp0]; kernel_rfl) (by kernel_rfl) (by kernel_rfl)
   ·exact lD (j:=j1) (b:=x1) hJ1 k1 (by rw [lC j1 hp1]; kernel_rfl) (by kernel_rfl) (by kernel_rfl)
   ·exact lD (j:=j2) (b:=x2) hJ2 k2 (by rw [lC j2 hp2]; kernel_rfl) (by kernel_rfl) (by kernel_rfl)
 ·obtain ⟨J0,hJ0⟩:∃J,J=jP j0 x0:=⟨_,rfl⟩
  obtain ⟨J1,hJ1⟩:∃J,J=jP j1 x1:=⟨_,rfl⟩
  obtain ⟨J2,hJ2⟩:∃J,J=jP j2 x2:=⟨_,rfl⟩
  obtain ⟨C2,hC2⟩:∃C,C=kE J0 J2:=⟨_,rfl⟩
  have hl:jH [] [j0,j1,j2] [x0,x1,x2]=[J0,J1,C2]:=by
   simp only [hC2,hJ0,hJ1,hJ2]
   simp [jH,hp0,hp1,hp2]
  rw [hl]
  rw [lG j0 hp0] at rB0
  rw [lG j1 hp1] at rB1
  rw [lG j2 hp2] at rB2
  refine Ze (J0:=J0) (J1:=J1) (J2:=J2) (C2:=C2) h.b0 hX hv0 hv1 hv2 rB0 rB1 rB2 rX0 rX1 rX2 (fun z hz=>?_) (fun z hz=>?_) (kJ w ex)
  ·simp only [ag,ae,or_false] at hz
   rcases hz with rfl | rfl
   ·exact qI h
   ·exact xJ (P:=J0) (J:=J2) hC2 (by kernel_rfl) (by kernel_rfl) (by kernel_rfl)
  ·simp only [ag,ae,or_false] at hz
   rcases hz with rfl | rfl | rfl
   ·exact lD (j:=j0) (b:=x0) hJ0 k0 (by rw [lC j0 hp0]; kernel_rfl) (by kernel_rfl) (by kernel_rfl)
   ·exact lD (j:=j1) (b:=x1) hJ1 k1 (by rw [lC j1 hp1]; kernel_rfl) (by kernel_rfl) (by kernel_rfl)
   ·exact lD (j:=j2) (b:=x2) hJ2 k2 (by rw [lC j2 hp2]; kernel_rfl) (by kernel_rfl) (by kernel_rfl)
 ·obtain ⟨J0,hJ0⟩:∃J,J=jP j0 x0:=⟨_,rfl⟩
  obtain ⟨J1,hJ1⟩:∃J,J=jP j1 x1:=⟨_,rfl⟩
  obtain ⟨J2,hJ2⟩:∃J,J=jP j2 x2:=⟨_,rfl⟩
  obtain ⟨C2,hC2⟩:∃C,C=kE J1 J2:=⟨_,rfl⟩
  have hl:jH [] [j0,j1,j2] [x0,x1,x2]=[J0,J1,C2]:=by
   simp only [hC2,hJ0,hJ1,hJ2]
   simp [jH,hp0,hp1,hp2]
  rw [hl]
  rw [lG j0 hp0] at rB0
  rw [lG j1 hp1] at rB1
  rw [lG j2 hp2] at rB2
  refine Zf (J0:=J0) (J1:=J1) (J2:=J2) (C2:=C2) h.b0 hX hv0 hv1 hv2 rB0 rB1 rB2 rX0 rX1 rX2 (fun z hz=>?_) (fun z hz=>?_) (kJ w ex)
  ·simp only [ag,ae,or_false] at hz
   rcases hz with rfl | rfl
   ·exact qI h
   ·exact xJ (P:=J1) (J:=J2) hC2 (by kernel_rfl) (by kernel_rfl) (by kernel_rfl)
  ·simp only [ag,ae,or_false] at hz
   rcases hz with rfl | rfl | rfl
   ·exact lD (j:=j0) (b:=x0) hJ0 k0 (by rw [lC j0 hp0]; kernel_rfl) (by kernel_rfl) (by kernel_rfl)
   ·exact lD (j:=j1) (b:=x1) hJ1 k1 (by rw [lC j1 hp1]; kernel_rfl) (by kernel_rfl) (by kernel_rfl)
   ·exact lD (j:=j2) (b:=x2) hJ2 k2 (by rw [lC j2 hp2]; kernel_rfl) (by kernel_rfl) (by kernel_rfl)
 ·obtain ⟨J0,hJ0⟩:∃J,J=jP j0 x0:=⟨_,rfl⟩
  obtain ⟨J1,hJ1⟩:∃J,J=jP j1 x1:=⟨_,rfl⟩
  obtain ⟨J2,hJ2⟩:∃J,J=jP j2 x2:=⟨_,rfl⟩
  obtain ⟨C1,hC1⟩:∃C,C=kE J0 J1:=⟨_,rfl⟩
  have hl:jH [] [j0,j1,j2] [x0,x1,x2]=[J0,C1,J2]:=by
   simp only [hC1,hJ0,hJ1,hJ2]
   simp [jH,hp0,hp1,hp2]
  rw [hl]
  rw [lG j0 hp0] at rB0
  rw [lG j1 hp1] at rB1
  rw [lG j2 hp2] at rB2
  refine Zh (J0:=J0) (J1:=J1) (J2:=J2) (C1:=C1) h.b0 hX hv0 hv1 hv2 rB0 rB1 rB2 rX0 rX1 rX2 (fun z hz=>?_) (fun z hz=>?_) (kJ w ex)
  ·simp only [ag,ae,or_false] at hz
   rcases hz with rfl | rfl
   ·exact qI h
   ·exact xJ (P:=J0) (J:=J1) hC1 (by kernel_rfl) (by kernel_rfl) (by kernel_rfl)
  ·simp only [ag,ae,or_false] at hz
   rcases hz with rfl | rfl | rfl
   ·exact lD (j:=j0) (b:=x0) hJ0 k0 (by rw [lC j0 hp0]; kernel_rfl) (by kernel_rfl) (by kernel_rfl)
   ·exact lD (j:=j1) (b:=x1) hJ1 k1 (by rw [lC j1 hp1]; kernel_rfl) (by kernel_rfl) (by kernel_rfl)
   ·exact lD (j:=j2) (b:=x2) hJ2 k2 (by rw [lC j2 hp2]; kernel_rfl) (by kernel_rfl) (by kernel_rfl)
 ·obtain ⟨J0,hJ0⟩:∃J,J=jP j0 x0:=⟨_,rfl⟩
  obtain ⟨J1,hJ1⟩:∃J,J=jP j1 x1:=⟨_,rfl⟩
  obtain ⟨J2,hJ2⟩:∃J,J=jP j2 x2:=⟨_,rfl⟩
  obtain ⟨C1,hC1⟩:∃C,C=kE J0 J1:=⟨_,rfl⟩
  obtain ⟨C2,hC2⟩:∃C,C=kE J0 J2:=⟨_,rfl⟩
  have hl:jH [] [j0,j1,j2] [x0,x1,x2]=[J0,C1,C2]:=by
   simp only [hC1,hC2,hJ0,hJ1,hJ2]
   simp [jH,hp0,hp1,hp2]
  rw [hl]
  rw [lG j0 hp0] at rB0
  rw [lG j1 hp1] at rB1
  rw [lG j2 hp2] at rB2
  refine Zi (J0:=J0) (J1:=J1) (J2:=J2) (C1:=C1) (C2:=C2) h.b0 hX hv0 hv1 hv2 rB0 rB1 rB2 rX0 rX1 rX2 (fun z hz=>?_) (fun z hz=>?_) (kJ w ex)
  ·simp only [ag,ae,or_false] at hz
   rcases hz with rfl | rfl | rfl
   ·exact qI h
   ·exact xJ (P:=J0) (J:=J1) hC1 (by kernel_rfl) (by kernel_rfl) (by kernel_rfl)
   ·exact xJ (P:=J0) (J:=J2) hC2 (by kernel_rfl) (by kernel_rfl) (by kernel_rfl)
  ·simp only [ag,ae,or_false] at hz
   rcases hz with rfl | rfl | rfl
   ·exact lD (j:=j0) (b:=x0) hJ0 k0 (by rw [lC j0 hp0]; kernel_rfl) (by kernel_rfl) (by kernel_rfl)
   ·exact lD (j:=j1) (b:=x1) hJ1 k1 (by rw [lC j1 hp1]; kernel_rfl) (by kernel_rfl) (by kernel_rfl)
   ·exact lD (j:=j2) (b:=x2) hJ2 k2 (by rw [lC j2 hp2]; kernel_rfl) (by kernel_rfl) (by kernel_rfl)
 ·obtain ⟨J0,hJ0⟩:∃J,J=jP j0 x0:=⟨_,rfl⟩
  obtain ⟨J1,hJ1⟩:∃J,J=jP j1 x1:=⟨_,rfl⟩
  obtain ⟨J2,hJ2⟩:∃J,J=jP j2 x2:=⟨_,rfl⟩
  obtain ⟨C1,hC1⟩:∃C,C=kE J0 J1:=⟨_,rfl⟩
  obtain ⟨C2,hC2⟩:∃C,C=kE C1 J2:=⟨_,rfl⟩
  have hl:jH [] [j0,j1,j2] [x0,x1,x2]=[J0,C1,C2]:=by
   simp only [hC1,hC2,hJ0,hJ1,hJ2]
   simp [jH,hp0,hp1,hp2]
  rw [hl]
  rw [lG j0 hp0] at rB0
  rw [lG j1 hp1] at rB1
  rw [lG j2 hp2] at rB2
  refine Zj (J0:=J0) (J1:=J1) (J2:=J2) (C1:=C1) (C2:=C2) h.b0 hX hv0 hv1 hv2 rB0 rB1 rB2 rX0 rX1 rX2 (fun z hz=>?_) (fun z hz=>?_) (kJ w ex)
  ·simp only [ag,ae,or_false] at hz
   rcases hz with rfl | rfl | rfl
   ·exact qI h
   ·exact xJ (P:=J0) (J:=J1) hC1 (by kernel_rfl) (by kernel_rfl) (by kernel_rfl)
   ·exact xJ (P:=C1) (J:=J2) hC2 (by kernel_rfl) (by kernel_rfl) (by kernel_rfl)
  ·simp only [ag,ae,or_false] at hz
   rcases hz with rfl | rfl | rfl
   ·exact lD (j:=j0) (b:=x0) hJ0 k0 (by rw [lC j0 hp0]; kernel_rfl) (by kernel_rfl) (by kernel_rfl)
   ·exact lD (j:=j1) (b:=x1) hJ1 k1 (by rw [lC j1 hp1]; kernel_rfl) (by kernel_rfl) (by kernel_rfl)
   ·exact lD (j:=j2) (b:=x2) hJ2 k2 (by rw [lC j2 hp2]; kernel_rfl) (by kernel_rfl) (by kernel_rfl)
end Go.Proofs
end
section
namespace Go.Proofs
open Go.Sm Go.RowKit En
set_option maxHeartbeats 8000000
theorem M3 (js:List JV):∀(n:Nat) (link:Int) (ks:List Int),ks.length≤(jd js n link ks).length
 | 0,_,_=>au _
 | n+1,link,ks=>by
  unfold jd
  split
  ·exact au _
  ·have:=M3 js n ((js.getD link.toNat ⟨⟨#[]⟩,0,-1,0,0,0,0,0,0,0,0,0⟩).parent) (link::ks)
   simp only [dB] at this
   omega
theorem M4 {js:List JV} (hp:∀(i:Nat) (j:JV),js[i]?=some j→-1≤j.parent∧j.parent<i):∀(n:Nat) (link:Int) (ks:List Int),-1≤link→link<js.length→(jd js n link ks).length≤(link+1).toNat+ks.length
 | 0,_,_,_,_=>by simp [jd]
 | n+1,link,ks,h0,h1=>by
  unfold jd
  split
  ·omega
  ·obtain ⟨j,hj⟩:∃j,js[link.toNat]?=some j:=⟨_,ah (by omega)⟩
   obtain ⟨q0,q1⟩:=hp _ j hj
   have e:(js.getD link.toNat ⟨⟨#[]⟩,0,-1,0,0,0,0,0,0,0,0,0⟩).parent=j.parent:=by rw [wO hj]
   rw [e]
   have:=M4 hp n j.parent (link::ks) q0 (by omega)
   simp only [dB] at this
   omega
variable {link:Int}
theorem Xe (js:List JV) (h0:0≤link):1≤(jd js 4 link []).length:=by
 unfold jd
 rw [if_neg (by omega)]
 have:=M3 js 3 ((js.getD link.toNat ⟨⟨#[]⟩,0,-1,0,0,0,0,0,0,0,0,0⟩).parent) [link]
 simpa using this
variable {w w':World}
theorem xG (h:dO w [] w'):Below w.heap.size w w':=⟨h.os,h.tape,h.output,h.size,fun g hg=>h.frame g hg (by simp)⟩
theorem uo (h:Below w.heap.size w w'):dO w [] w':=⟨h.os,h.tape,h.output,h.size,fun g hg _=>h.block g hg⟩
variable {ex:List Nat} {B0 B1:dY} {js:List JV} {mvs:List MV}
theorem Im {w0:World} {l:List Int} {bs:List Bool} {sl:List dY} {ws:List jC} {c:Nat} {nd:Value} {cs:List Value} {ks:List Int} (h:jW w0 ex B0 B1 js mvs) (h0:0≤link) (h1:link<js.length) (hk:jd js 4 link []=ks) (hc:ks.length=c) (hp:1≤c)
  (e1:fP (gP (w0,ex) l bs (B0::B1::sl) ws) ⟨[],[]⟩ 5 nd=some (num link)) (e2:eQ (fP (gP (w0,ex) l bs (B0::B1::sl) ws) ⟨[],[]⟩ 4) cs=some (ks.map num)) :
  jB aa (gP (w0,ex) l bs (B0::B1::sl) ws) ⟨102,[.agg ⟨[dM 0,dM 1]⟩,nd],.row false c c (dQ cs 3)⟩:=fun w hF=>by
 have h':=h.fz hF
 refine ⟨[.agg ⟨[dJ B0,dJ B1]⟩,num link],?_,?_⟩
 ·have:fP (gP (w0,ex) l bs (B0::B1::sl) ws) ⟨[],[]⟩ 5 (.agg ⟨[dM 0,dM 1]⟩)=some (.agg ⟨[dJ B0,dJ B1]⟩):=by kernel_rfl
  simp only [eQ,this,e1]
 ·refine (Xf (w:=w) (link:=link) h'.n.2 h'.b0 h'.sB h'.pr (by omega) h1).mono fun e w' hq=>?_
  obtain ⟨g,rfl,hk2,hg⟩:=hq
  rw [hk] at hg ⊢
  have hne:ks≠[]:=fun e=>by rw [e] at hc; simp at hc; omega
  obtain ⟨g1,g2⟩:=hg hne
  refine ⟨xG hk2,ks.map num,g,e2,g1,(aB.1 g2).1,?_,g2⟩
  match ks,hne,hc with
  | k::ks,_,hc=>subst hc; rfl
theorem Xg (h:jW w ex B0 B1 js mvs) (h0:0≤link) (h1:link<js.length):Calls aa 73 #[.agg ⟨[dJ B0,dJ B1]⟩,num link] w (vC w (jd js 4 link [])):=by
 have hn:=h.n
 have q1:=Xe js h0
 have q2:=M4 h.pr 4 link [] (by omega) h1
 simp only [aeT,Nat.add_zero] at q2
 generalize hk:jd js 4 link []=ks at q1 q2
 match ks,q1,q2,hk with
 | [k0],_,_,hk =>
  refine (Xb (w0:=w) (ex:=ex) (B0:=B0) (B1:=B1) (n:=(js.length:Nat)) (k0:=k0) (by rw [h.b0]) (by simp; omega) (by simp; omega) (fun z hz=>?_) (kJ w ex)).mono fun e w' hq=>?_
  ·simp only [ag,ae,or_false] at hz
   rcases hz with rfl | rfl
   ·exact qI h
   ·exact Im h h0 h1 hk rfl (by decide) (by kernel_rfl) (by kernel_rfl)
  ·obtain ⟨hb,gl,l1,l2,rfl,l4⟩:=hq
   exact ⟨gl,rfl,uo hb,fun _=>⟨l1,l4⟩⟩
 | [k0,k1],_,_,hk =>
  refine (Xc (w0:=w) (ex:=ex) (B0:=B0) (B1:=B1) (n:=(js.length:Nat)) (k0:=k0) (k1:=k1) (by rw [h.b0]) (by simp; omega) (by simp; omega) (fun z hz=>?_) (kJ w ex)).mono fun e w' hq=>?_
  ·simp only [ag,ae,or_false] at hz
   rcases hz with rfl | rfl
   ·exact qI h
   ·exact Im h h0 h1 hk rfl (by decide) (by kernel_rfl) (by kernel_rfl)
  ·obtain ⟨hb,gl,l1,l2,rfl,l4⟩:=hq
   exact ⟨gl,rfl,uo hb,fun _=>⟨l1,l4⟩⟩
 | [k0,k1,k2],_,_,hk =>
  refine (Xd (w0:=w) (ex:=ex) (B0:=B0) (B1:=B1) (n:=(js.length:Nat)) (k0:=k0) (k1:=k1) (k2:=k2) (by rw [h.b0]) (by simp; omega) (by simp; omega) (fun z hz=>?_) (kJ w ex)).mono fun e w' hq=>?_
  ·simp only [ag,ae,or_false] at hz
   rcases hz with rfl | rfl
   ·exact qI h
   ·exact Im h h0 h1 hk rfl (by decide) (by kernel_rfl) (by kernel_rfl)
  ·obtain ⟨hb,gl,l1,l2,rfl,l4⟩:=hq
   exact ⟨gl,rfl,uo hb,fun _=>⟨l1,l4⟩⟩
 | [],q1,_,_=>exact absurd q1 (by simp)
 | _::_::_::_::_,_,q2,_=>exfalso; simp only [dB] at q2; omega
theorem EY:∀(acc:List iF) (js:List JV) (bs:List (Int×Int)),bs.length=js.length→(jH acc js bs).length=acc.length+js.length
 | acc,[],[],_=>by simp [jH]
 | acc,j::js,b::bs,h=>by
  unfold jH
  rw [EY _ js bs (by simpa using h)]
  simp; omega
 | _,[],_::_,h=>by simp at h
 | _,_::_,[],h=>by simp at h
variable {X:dY} {bs:List (Int×Int)}
theorem Zn (h:jW w ex B0 B1 js mvs) (hl:bs.length=js.length) (hX:X.2.1=bs.length) (sX:Sl w X.1 2 (jE bs)) (xX:∀a,X.1=some a→a.block∉ex) (hv:∀b∈bs,fC b.1 b.2=true) :
  Calls aa 68 #[.agg ⟨[dJ B0,dJ B1]⟩,dJ X] w (xE (jH [] js bs) w):=by
 have hn:=h.n
 match js,bs,h,hl,hX,sX,hv,hn with
 | [j0],[x0],h,_,hX,sX,hv,_=>exact Zk h hX sX xX (hv x0 (by simp))
 | [j0,j1],[x0,x1],h,_,hX,sX,hv,_=>exact Zl h hX sX xX (hv x0 (by simp)) (hv x1 (by simp))
 | [j0,j1,j2],[x0,x1,x2],h,_,hX,sX,hv,_=>exact Zm h hX sX xX (hv x0 (by simp)) (hv x1 (by simp)) (hv x2 (by simp))
 | [],_,_,_,_,_,_,hn=>exact absurd hn.1 (by simp)
 | _::_::_::_::_,_,_,_,_,_,_,hn=>exact absurd hn.2 (by simp)
 | [_],[],_,hl,_,_,_,_ | [_],_::_::_,_,hl,_,_,_,_ | [_,_],[],_,hl,_,_,_,_ | [_,_],[_],_,hl,_,_,_,_ | [_,_],_::_::_::_,_,hl,_,_,_,_ | [_,_,_],[],_,hl,_,_,_,_ | [_,_,_],[_],_,hl,_,_,_,_ | [_,_,_],[_,_],_,hl,_,_,_,_ | [_,_,_],_::_::_::_::_,_,hl,_,_,_,_=>exact absurd hl (by simp)
theorem Z7 {nc:Nat} {f:Bool} (h:jW w [nc] B0 B1 js mvs) (hl:bs.length=js.length) (hX:X.2.1=bs.length) (sX:Sl w X.1 2 (jE bs)) (xX:∀a,X.1=some a→a.block∉[nc]) (hv:∀b∈bs,fC b.1 b.2=true) (hf:w.heap[nc]?=some (.cells #[.bool f] 88 (0,0))) :
  Calls aa 41 #[dK nc,.agg ⟨[dJ B0,dJ B1]⟩,dJ X] w (Ca w nc B0 B1 js (jH [] js bs) mvs f):=by
 have hn:=h.n
 have hlk:∀w':World,Mv w nc w'→Calls aa 68 #[.agg ⟨[dJ B0,dJ B1]⟩,dJ X] w' (xE (jH [] js bs) w'):=fun w' hF=>Zn (h.fz hF) hl hX (l8 sX hF (MR _) fun a ha _=>xX a ha) xX hv
 have hch:∀(mv:MV),mv∈mvs→∀w':World,Mv w nc w'→Calls aa 73 #[.agg ⟨[dJ B0,dJ B1]⟩,num mv.link] w' (vC w' (jd js 4 mv.link [])):=fun mv hm w' hF=>by
  obtain ⟨i,hi⟩:=cZ hm
  obtain ⟨⟨q0,q1⟩,_⟩:=h.ms i mv hi
  exact Xg (h.fz hF) q0 q1
 have hPl:=EY [] js bs hl
 simp only [aeT,Nat.zero_add] at hPl
 generalize jH [] js bs=Ps at hlk hPl
 have xB:∀a,B0.1=some a→a.block≠nc∧a.block<w.heap.size:=fun a ha=>⟨by simpa using (h.xB a ha).1,(h.xB a ha).2⟩
 have xM:∀a,B1.1=some a→mvs≠[]→a.block≠nc∧a.block<w.heap.size:=fun a ha h0=>⟨by simpa using (h.xM a ha h0).1,(h.xM a ha h0).2⟩
 match js,Ps,h,hPl,hlk,hch,hn with
 | [j0],[P0],h,_,hlk,hch,_=>exact Z4 h.b0 h.b1 h.sB h.sM xB xM h.pr h.ms h.m hch hlk hf
 | [j0,j1],[P0,P1],h,_,hlk,hch,_=>exact Z5 h.b0 h.b1 h.sB h.sM xB xM h.pr h.ms h.m hch hlk hf
 | [j0,j1,j2],[P0,P1,P2],h,_,hlk,hch,_=>exact Z6 h.b0 h.b1 h.sB h.sM xB xM h.pr h.ms h.m hch hlk hf
 | [],_,_,_,_,_,hn=>exact absurd hn.1 (by simp)
 | _::_::_::_::_,_,_,_,_,_,hn=>exact absurd hn.2 (by simp)
 | [_],[],_,hl,_,_,_ | [_],_::_::_,_,hl,_,_,_ | [_,_],[],_,hl,_,_,_ | [_,_],[_],_,hl,_,_,_ | [_,_],_::_::_::_,_,hl,_,_,_ | [_,_,_],[],_,hl,_,_,_ | [_,_,_],[_],_,hl,_,_,_ | [_,_,_],[_,_],_,hl,_,_,_ | [_,_,_],_::_::_::_::_,_,hl,_,_,_=>exact absurd hl (by simp)
variable {a D b:Int}
theorem EA (hD:0<D) (h:b*D≤a):b≤a.fdiv D:=by
 rw [Int.fdiv_eq_ediv_of_nonneg _ (by omega)]
 exact (Int.le_ediv_iff_mul_le hD).2 h
theorem AL (hD:0<D) (h:a<(b+1)*D):a.fdiv D≤b:=by
 rw [Int.fdiv_eq_ediv_of_nonneg _ (by omega)]
 have:=(Int.ediv_lt_iff_lt_mul hD).2 h
 omega
theorem acp {p q d i:Int} (hp:-4194304≤p∧p≤4194304) (hq:-4194304≤q∧q≤4194304) (hd:0≤d∧d≤20) (hi:0≤i∧i<2^d.toNat) :
  min p q≤pM p q d i∧pM p q d i≤pK p q d i∧pK p q d i≤max p q:=by
 obtain ⟨k,rfl⟩:∃k:Nat,d=k:=⟨d.toNat,by omega⟩
 have hk:k≤20:=by omega
 rw [Int.toNat_natCast] at hi
 have e64:min (Int.toNat (k:Int)) 64=k:=by omega
 generalize hD:(2:Int)^k=D at hi
 have hD0:0<D:=by rw [←hD]; exact Int.pow_pos (by decide)
 have hD1:D≤1048576:=by
  rw [←hD]
  have:(2:Nat)^k≤2^20:=Nat.pow_le_pow_right (by decide) hk
  have h2:((2^k:Nat):Int)≤((2^20:Nat):Int):=by exact_mod_cast this
  simpa using h2
 obtain ⟨i0,i1⟩:=hi
 have ew:bg.wrap (q - p)=q - p:=dz _ (by omega)
 have ei:bg.wrap (i+1)=i+1:=dz _ (by omega)
 obtain ⟨x,hx⟩:∃x,x=q - p:=⟨_,rfl⟩
 have hxb:-8388608≤x∧x≤8388608:=by omega
 have b1:∀t:Int,0≤t→t≤1048576→-8796093022208≤t*x∧t*x≤8796093022208:=fun t h0 h1=>by
  constructor
  ·have:=Int.mul_le_mul_of_nonneg_left hxb.1 h0
   omega
  ·have:=Int.mul_le_mul_of_nonneg_left hxb.2 h0
   omega
 have hA:Bq p q i=i*x:=by
  unfold Bq; rw [ew,←hx]; exact dz _ (by have:=b1 i i0 (by omega); omega)
 have hB:Br p q i=(i+1)*x:=by
  unfold Br; rw [ew,ei,←hx]; exact dz _ (by have:=b1 (i+1) (by omega) (by omega); omega)
 have bA:=b1 i i0 (by omega)
 have bB:=b1 (i+1) (by omega) (by omega)
 have bD:=b1 D (by omega) hD1
 unfold pM pK
 rw [hA,hB]
 unfold LK
 rw [e64,hD]
 have eB:(i+1)*x=i*x+x:=by rw [Int.add_mul,Int.one_mul]
 rcases Int.le_total 0 x with h0 | h0
 ·have a1:i*x≤(i+1)*x:=by omega
  have a2:(i+1)*x≤D*x:=Int.mul_le_mul_of_nonneg_right (by omega) h0
  have a3:0≤i*x:=Int.mul_nonneg i0 h0
  rw [if_neg (by omega)]
  have em:(if i*x<(i+1)*x then (i+1)*x else i*x)=(i+1)*x:=by split<;>omega
  rw [em,dz (-((i+1)*x)) (by omega)]
  have f1:0≤(i*x).fdiv D:=EA hD0 (by omega)
  have f2:(i*x).fdiv D≤x:=AL hD0 (by rw [Int.add_mul,Int.mul_comm x D]; omega)
  have f3:-x≤(-((i+1)*x)).fdiv D:=EA hD0 (by rw [Int.neg_mul,Int.mul_comm x D]; omega)
  have f4:(-((i+1)*x)).fdiv D≤-((i*x).fdiv D):=by
   refine AL hD0 ?_
   have g1:=Int.fdiv_eq_ediv_of_nonneg (i*x) (show 0≤D by omega)
   have g2:(i*x)/D*D≤i*x:=Int.ediv_mul_le _ (by omega)
   rw [g1]
   generalize i*x/D=t at g2 ⊢
   rw [Int.add_mul (-t),Int.neg_mul]
   omega
  have f5:(-((i+1)*x)).fdiv D≤0:=AL hD0 (by omega)
  rw [dz _ (by omega),dz _ (by omega)]
  omega
 ·have a1:(i+1)*x≤i*x:=by omega
  have a2:D*x≤(i+1)*x:=Int.mul_le_mul_of_nonpos_right (by omega) h0
  have a3:i*x≤0:=Int.mul_nonpos_of_nonneg_of_nonpos i0 h0
  have em:(if (i+1)*x<i*x then (i+1)*x else i*x)=(i+1)*x:=by split<;>omega
  rw [em,if_neg (by omega),dz (-(i*x)) (by omega)]
  have f1:((i+1)*x).fdiv D≤0:=AL hD0 (by omega)
  have f2:x≤((i+1)*x).fdiv D:=EA hD0 (by rw [Int.mul_comm x D]; omega)
  have f3:0≤(-(i*x)).fdiv D:=EA hD0 (by omega)
  have f4:(-(i*x)).fdiv D≤-x:=AL hD0 (by rw [Int.add_mul,Int.neg_mul,Int.mul_comm x D]; omega)
  have f6:(-(i*x)).fdiv D≤-(((i+1)*x).fdiv D):=by
   refine AL hD0 ?_
   have g1:=Int.fdiv_eq_ediv_of_nonneg ((i+1)*x) (show 0≤D by omega)
   have g2:((i+1)*x)/D*D≤(i+1)*x:=Int.ediv_mul_le _ (by omega)
   rw [g1]
   generalize (i+1)*x/D=t at g2 ⊢
   rw [Int.add_mul (-t),Int.neg_mul]
   omega
  rw [dz _ (by omega),dz _ (by omega)]
  omega
def nX:List Int→List Int→Int→Int→List (Int×Int)
 | p::ps,q::qs,d,i=>(pM p q d i,pK p q d i)::nX ps qs d i
 | _,_,_,_=>[]
end Go.Proofs
end
