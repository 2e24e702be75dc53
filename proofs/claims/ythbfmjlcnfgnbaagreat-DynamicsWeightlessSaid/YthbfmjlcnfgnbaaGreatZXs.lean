/-
  Part of the proof: see the last text.
-/
import Derived.Deep.DeepCutAuto
import Derived.Deep.CutBlock
import Derived.Test.YthbfmjlcnfgnbaaGreatZKb
import Derived.Test.YthbfmjlcnfgnbaaGreatZXr
set_option linter.unusedVariables false
set_option maxHeartbeats 8000000
open Array renaming getElem?_eq_some_iff→aB
open Go.RowKit.Below renaming heap_setCell→ae0,refl→aI
open Go.IntKind renaming i64→bg
open Go.IntWalk renaming i64_in→dz
open Go.Lib renaming hid→aG
open List renaming getElem?_eq_some_iff→ai,getElem?_of_mem→cZ,length→ae1,map_cons→dI,mem_cons→ag,mem_cons_of_mem→aT,mem_cons_self→aA,mem_of_getElem?→aN,not_mem_nil→ae,replicate→az
open Nat renaming le_refl→au,le_trans→aZ,lt_of_lt_of_le→aC
open Option.some renaming injEq→ak
open Prod.mk renaming injEq→aP
open Go.Proofs.Tryz renaming f5→bT,prog→aa
open Go.World renaming cell?→bS
section
namespace Go.Proofs
open Go.Sm Go.RowKit En
set_option maxHeartbeats 8000000
structure Hd (c:Code) (k:Nat) (f:FuncId) (xs:List Operand) (d:Tmp):Prop where
 h:∃(o:Oper) (ags:Array Operand) (ts:Array TypeId) (fn:Func),(opsOf c).drop k=o::(opsOf c).drop (k+1)∧o.guard=none∧o.dst=some d∧o.op=.call { callee:=.value (.func f),args:=ags,argTypes:=ts }∧ags.toList=xs∧aa.funcs[f]?=some fn∧fn.body.isSome=true
def Nb (P:Program) (c:Code) (k:Nat):Option (FuncId×List Operand×Tmp):=match (opsOf c)[k]? with
 | some o=>match o.guard,o.dst,o.op with
  | none,some d,.call ⟨.value (.func f),ags,_⟩=>match P.funcs[f]? with
   | some fn=>bif fn.body.isSome then some (f,ags.toList,d) else none
   | _=>none
  | _,_,_=>none
 | none=>none
variable {c:Code} {k:Nat} {f:FuncId}
theorem WX {xs:List Operand} {d:Tmp} (h:Nb aa c k=some (f,xs,d)):Hd c k f xs d:=by
 unfold Nb at h
 split at h
 case h_2=>cases h
 rename_i o ho
 split at h
 case h_2=>cases h
 rename_i d' f' ags ts h1 h2 h3
 split at h
 case h_2=>cases h
 rename_i fn h4
 cases hb:fn.body.isSome with
 | false=>rw [hb] at h; cases h
 | true =>
  rw [hb] at h
  simp only [cond_true,ak,aP] at h
  obtain ⟨rfl,rfl,rfl⟩:=h
  obtain ⟨hlt,he⟩:=ai.1 ho
  exact ⟨o,ags,ts,fn,by rw [←he]; exact List.drop_eq_getElem_cons hlt,h1,h2,h3,rfl,h4,hb⟩
def FH (us:List (Option Value)):Operand→Option Value
 | .tmp x=>match us[x]? with
  | some v=>v
  | none=>none
 | .const v=>some v
 | _=>none
variable {gs ls:List gQ} {a:Act} {w:World}
theorem aaZ {us:List (Option Value)} (h:dP us gs ls a w) {o:Operand} {v:Value} (e:FH us o=some v):a.eval o=v:=by
 cases o with
 | tmp x =>
  unfold FH at e
  simp only at e
  split at e
  ·rename_i u hu; exact GV h (by rw [hu,e])
  ·cases e
 | const u=>injection e
 | global g=>cases e
 | func f=>cases e
def Ba (us:List (Option Value)):List Operand→Option (List Value)
 | []=>some []
 | o::l=>match FH us o,Ba us l with
  | some v,some r=>some (v::r)
  | _,_=>none
theorem QF {us:List (Option Value)} {gs ls:List gQ} {a:Act} {w:World} (h:dP us gs ls a w):∀(xs:List Operand) (vs:List Value),Ba us xs=some vs→xs.map a.eval=vs
 | [],vs,e=>by simp only [Ba,ak] at e; subst e; rfl
 | x::xs,vs,e=>by
  unfold Ba at e
  cases h1:FH us x with
  | none=>simp [h1] at e
  | some v =>
   cases h2:Ba us xs with
   | none=>simp [h1,h2] at e
   | some vs' =>
    simp only [h1,h2,ak] at e
    subst e
    rw [dI,aaZ h h1,QF h xs vs' h2]
theorem Xa {xs:List Operand} {d:Tmp} {us:List (Option Value)} {Q:Exit→Act→World→Prop} {vs:List Value} {RP:Ending→World→Prop} (hA:Hd c k f xs d) (h:dP us gs ls a w) (hx:Ba us xs=some vs) (hC:Calls aa f vs.toArray w RP) (hR:∀e w',RP e w'→∃v,e=.returned v∧wpList aa (opsOf c).toArray Q ((opsOf c).drop (k+1)) (a.put (some d) v) w'):wpList aa (opsOf c).toArray Q ((opsOf c).drop k) a w:=by
 obtain ⟨o,ags,ts,fn,h1,h2,h3,h4,h5,h6,h7⟩:=hA.h
 rw [h1]
 refine MZ Tryz.ky h2 h4 h6 h7 (xs:=vs) ?_ (hC.mono fun e w' hr=>?_)
 ·rw [h5]; exact QF h xs vs hx
 ·obtain ⟨v,e1,e2⟩:=hR e w' hr
  rw [h3]
  exact ⟨v,e1,e2⟩
theorem W9:Hd (kS (dN bT)) 4 20 [.tmp 30,.tmp 31,.tmp 32,.tmp 33,.const (num 2),.const (num 1)] 34:=WX (by kernel_rfl)
theorem WV:(sR 3 (dN bT))=.seq (kS (dN bT)) (fB [(dZ (sR 4 (dN bT)))] (fB [(jT (dN bT))] (fB [(rz (dN bT)),(rC (dN bT))] (sR 8 (dN bT))))):=by kernel_rfl
theorem L6 (a n:Int) (hn:0<n):-n<a.tmod n∧a.tmod n<n:=⟨Int.lt_tmod_of_pos a hn,Int.tmod_lt_of_pos a hn⟩
theorem xy (x:Int) (h1:-9223372036854775808≤x) (h2:x≤9223372036854775807):wr x=x:=dz x (by omega)
theorem JX (x y z:Int):(-16777216≤rR x y z∧rR x y z≤16777216)∧(-16777216≤rT x y z∧rT x y z≤16777216)∧(-16777216≤rU x y z∧rU x y z≤16777216):=by
 have t0:=L6 x 40001 (by omega)
 have t1:=L6 y 40001 (by omega)
 have t2:=L6 z 2097152 (by omega)
 unfold rR rT rU
 generalize x.tmod 40001=p at *
 generalize y.tmod 40001=q at *
 generalize z.tmod 2097152=r at *
 rw [xy (p+40001) (by omega) (by omega),xy (q+40001) (by omega) (by omega),xy (r+2097152) (by omega) (by omega),xy (p+40001 - 20000) (by omega) (by omega),xy (q+40001 - 20000) (by omega) (by omega),xy (r+2097152 - 1048576) (by omega) (by omega),xy (p - 20000) (by omega) (by omega),xy (q - 20000) (by omega) (by omega),xy (r - 1048576) (by omega) (by omega)]
 cases decide (p<0)<;>cases decide (q<0)<;>cases decide (r<0)<;>simp only [cond_true,cond_false]<;>omega
theorem JW (x y z:Int):FN 255 [x,y,z]=rR x y z∧FN 256 [x,y,z]=rT x y z∧FN 257 [x,y,z]=rU x y z:=⟨by kernel_rfl,by kernel_rfl,by kernel_rfl⟩
variable {ex:List Nat} {B0 B1:dY} {js:List JV} {mvs:List MV}
theorem jW.bare (h:jW w ex B0 B1 js mvs):jW w ex B0 (none,0,0) js [] :=
 ⟨h.n,by simp,h.b0,rfl,h.sB,(fun e=>absurd rfl e),h.xB,(fun a ha=>by cases ha),⟨h.ok.1,h.ok.2.1,by simp,(fun k m e=>by simp at e)⟩,h.pr,h.kd,(fun i m e=>by simp at e)⟩
theorem jW.Fq (h:jW w ex B0 B1 js mvs):jW w [] B0 B1 js mvs :=
 { h with xB:=fun a ha=>⟨by simp,(h.xB a ha).2⟩,xM:=fun a ha h0=>⟨by simp,(h.xM a ha h0).2⟩ }
def pY:List (Int×Int)→List (Int×Int)→List (Int×Int)→List (List Value)
 | u::us,x::xs,g::gs=>[num u.1,num u.2,num x.1,num x.2,num g.1,num g.2]::pY us xs gs
 | _,_,_=>[]
theorem UL:∀us xs gs,(pY us xs gs).flatten=xu us xs gs
 | u::us,x::xs,g::gs=>by unfold pY xu; rw [List.flatten_cons,UL us xs gs]; rfl
 | [],_,_=>rfl
 | _::_,[],_=>rfl
 | _::_,_::_,[]=>rfl
theorem UM:∀us xs gs,∀r∈pY us xs gs,r.length=6
 | u::us,x::xs,g::gs,r,h=>by
  unfold pY at h
  rcases ag.1 h with rfl | h
  ·rfl
  ·exact UM us xs gs r h
 | [],_,_,r,h=>by simp [pY] at h
 | _::_,[],_,r,h=>by simp [pY] at h
 | _::_,_::_,[],r,h=>by simp [pY] at h
variable {us xs:List (Int×Int)}
theorem aeg {g n:Nat} {gs:List (Int×Int)} (h:w.heap[g]?=some (.cells ⟨xu us xs gs⟩ 47 (0,0))):Sl w ((some ⟨g,0,none⟩,n,n):dY).1 6 (pY us xs gs):=fun _=>⟨g,0,rfl,(aB.1 h).1,fun i r hi k v hk=>by
 have:=flat_get (pY us xs gs) 6 (UM us xs gs) i r hi k v hk
 rw [←UL] at h
 simpa [bS,h,List.flatMap] using this⟩
theorem aed (js:List JV) (mvs:List MV) (ps qs:List Int) (d i x y z:Int):(xq js mvs ps qs d i x y z).us.length=js.length∧(xq js mvs ps qs d i x y z).xs.length=js.length:=by
 unfold xq
 constructor
 ·show (yY _ _ _).1.length=_
  unfold yY; rw [ry]; simp
 ·show (yZ _ _ _ _ _).1.length=_
  unfold yZ; rw [ry]; simp
theorem H6 {E:Env}:∀z_∈([⟨16,[],.val (.bool true)⟩]:List Qt),jB aa E z_:=fun z_ hz=>by
 simp only [ag,ae,or_false] at hz
 subst hz
 exact fun w _=>⟨[],rfl,(VP w).mono fun e w' ⟨h1,h2⟩=>⟨h2,.bool true,rfl,h1⟩⟩
variable {Sp Sq Tt:dY} {ps qs:List Int} {x y z:Int} {n13:Nat} {ok:Bool} {W:World}
theorem acS (hn:js.length=1) (h:jW W [n13] B0 B1 js mvs) (hP:Sp.2.1=ps.length) (hQ:Sq.2.1=qs.length) (sP:Sl W Sp.1 1 (fF ps)) (sQ:Sl W Sq.1 1 (fF qs)) (ip:mi js ps) (iq:mi js qs) (xP:∀a,Sp.1=some a→fF ps≠[]→a.block∉[n13]) (xQ:∀a,Sq.1=some a→fF qs≠[]→a.block∉[n13])
  (hs:dP (dS 93 [(3,num (x)),(4,num (y)),(5,num (z)),(13,dK n13),(14,dJ Sp),(15,dJ Sq),(16,dJ Tt),(17,.bool (ok))]) [(n13,[dJ B0,.slice none 0 0],35)] [] a W) (hb:Below w.heap.size w W) (h13:w.heap.size≤n13)
  (hT:ok=true→Tt.2.1=js.length∧us.length=js.length∧xs.length=js.length∧Sl W Tt.1 6 (pY us xs (az js.length (0,0)))∧∀a,Tt.1=some a→a.block<W.heap.size) :
  (fB [(jT (dN bT))] (fB [(rz (dN bT)),(rC (dN bT))] (sR 8 (dN bT)))).wp aa (bodyPost aa bT (wz w)) a W:=by
 have key:∀gx gy gz:Int,-16777216≤gx∧gx≤16777216→-16777216≤gy∧gy≤16777216→-16777216≤gz∧gz≤16777216→∀w',iV (W,[n13]) w'→Calls aa 20 #[.agg ⟨[dJ B0,dJ (none,0,0)]⟩,.agg ⟨[num gx,num gy,num gz]⟩,dJ Sp,dJ Sq,num 2,num 1] w' fun e w''=>Below w'.heap.size w' w''∧∃gl,w'.heap.size≤gl∧gl<w''.heap.size∧e=.returned (kC true gl 1 1)∧w''.heap[gl]?=some (.cells ⟨[num (0),num (0),num (0),num (0),num (0),num (0)]⟩ 47 (0,0)):=fun gx gy gz gX gY gZ w' hF'=>by
  refine (GX ((h.bare).fz hF').Fq (by simp) hP hQ (l8 sP hF' (kX _) xP) (l8 sQ hF' (kX _) xQ) ip iq (by omega) (by decide) gX gY gZ).mono fun e w'' ⟨r1,r2,r3⟩=>?_
  rw [L8,hn] at r3
  obtain ⟨gl,q1,q2,q3,q4⟩:=r3 rfl
  exact ⟨r1,gl,q1,q2,q3,q4⟩
 have hg:=JX x y z
 obtain ⟨f0,f1,f2⟩:=JW x y z
 rw [←f0,←f1,←f2] at hg
 refine aez (w0:=W) (B1:=B1) (fun z_ hz_=>?_) (fun q hq=>.inl (by simpa using hq)) (by simp) hs (dO.refl W _) fun a1 w1 gu hu nd s1 k1=>?_
 ·simp only [ag,ae,or_false] at hz_
  subst hz_
  intro w' hF
  have hF':iV (W,[n13]) w':=hF
  refine ⟨[.agg ⟨[dJ B0,.slice none 0 0]⟩,.agg ⟨[num (FN 255 [x,y,z]),num (FN 256 [x,y,z]),num (FN 257 [x,y,z])]⟩,dJ Sp,dJ Sq,num 2,num 1],by kernel_rfl,?_⟩
  exact (key _ _ _ hg.1 hg.2.1 hg.2.2 w' hF').mono fun e w'' ⟨r1,gl,q1,q2,q3,q4⟩=>⟨r1,[num (0),num (0),num (0),num (0),num (0),num (0)],gl,by kernel_rfl,q1,q2,q3,q4⟩
 have k1':dO W [] w1:=CX k1 fun g hg=>by
  simp only [ag,ae,or_false] at hg
  subst hg
  exact (s1.gl _ aA).trans (hs.gl _ aA).symm
 have hgu:=hu gu (by simp)
 have ng:n13≠gu:=by simpa using nd
 have s2:=dP.sub (l':=[(14,dJ Sp),(16,dJ Tt),(17,.bool ok),(18,.slice (some ⟨gu,0,none⟩) 1 1),(19,.bool true)]) (gs':=[(gu,[num (0),num (0),num (0),num (0),num (0),num (0)],47)]) (ls':=[]) s1 (fun x hx=>Dc hx (by simp)) (fun x hx=>by simp only [ag,ae,or_false] at hx; subst hx; exact aT _ aA) (fun x hx=>by cases hx) (by simp)
 have hSp:Sp.2.1=1:=by rw [hP,←ip.1,hn]
 have fin:∀a2 w2,dP (dS 93 []) [] [] a2 w2→dO w1 [gu] w2→(sR 8 (dN bT)).wp aa (bodyPost aa bT (wz w)) a2 w2:=fun a2 w2 s3 k2=>by
  refine Ml (w0:=w2) (B0:=B0) (B1:=B1) (Sp:=Sp) (Sq:=Sq) (Tt:=Tt) (x:=x) (y:=y) (z:=z) (ok:=ok) (n13:=n13) (gu:=gu) (ex':=[]) H6 (fun q hq=>by cases hq) (by simp) s3 (dO.refl w2 _) fun a3 w3 s4 k3=>⟨rfl,?_⟩
  have K1:dO w [] w1:=(uo hb).trans k1'
  have K2:dO w [] w2:=K1.comp k2 fun g hg=>by simp at hg; subst hg; right; have:=hb.size; omega
  exact xG (K2.trans k3)
 cases ok with
 | false=>exact aeC (w0:=w1) (B0:=B0) (B1:=B1) (Sq:=Sq) (x:=x) (y:=y) (z:=z) (ok:=false) (n13:=n13) hSp (fun q hq=>.inl (by simpa using hq)) (by simp) s2 (dO.refl w1 _) fin
 | true =>
  obtain ⟨t1,t2,t3,t4,t5⟩:=hT rfl
  rw [hn] at t1 t2 t3 t4
  match us,t2,xs,t3,t4 with
  | [u0],_,[x0],_,t4 =>
   have t6:Sl w1 Tt.1 6 (pY [u0] [x0] (az 1 (0,0))):=kI t4 (k1') fun a ha=>by simp
   obtain ⟨b0,o0,W0⟩:=iy (ex:=[gu]) (i:=0) (r:=[num u0.1,num u0.2,num x0.1,num x0.2,num 0,num 0]) t6 (by rw [t1]; rfl) rfl (by simp) (fun a ha=>by have:=t5 a ha; simp; omega)
   exact aeD (w0:=w1) (B0:=B0) (B1:=B1) (Sq:=Sq) (x:=x) (y:=y) (z:=z) (ok:=true) (n13:=n13) (t0:=(u0.1,u0.2,x0.1,x0.2)) hSp t1 W0 (fun q hq=>.inl (by simpa using hq)) (by simp) s2 (dO.refl w1 _) fin
theorem acT (hn:js.length=2) (h:jW W [n13] B0 B1 js mvs) (hP:Sp.2.1=ps.length) (hQ:Sq.2.1=qs.length) (sP:Sl W Sp.1 1 (fF ps)) (sQ:Sl W Sq.1 1 (fF qs)) (ip:mi js ps) (iq:mi js qs) (xP:∀a,Sp.1=some a→fF ps≠[]→a.block∉[n13]) (xQ:∀a,Sq.1=some a→fF qs≠[]→a.block∉[n13])
  (hs:dP (dS 93 [(3,num (x)),(4,num (y)),(5,num (z)),(13,dK n13),(14,dJ Sp),(15,dJ Sq),(16,dJ Tt),(17,.bool (ok))]) [(n13,[dJ B0,.slice none 0 0],35)] [] a W) (hb:Below w.heap.size w W) (h13:w.heap.size≤n13)
  (hT:ok=true→Tt.2.1=js.length∧us.length=js.length∧xs.length=js.length∧Sl W Tt.1 6 (pY us xs (az js.length (0,0)))∧∀a,Tt.1=some a→a.block<W.heap.size) :
  (fB [(jT (dN bT))] (fB [(rz (dN bT)),(rC (dN bT))] (sR 8 (dN bT)))).wp aa (bodyPost aa bT (wz w)) a W:=by
 have key:∀gx gy gz:Int,-16777216≤gx∧gx≤16777216→-16777216≤gy∧gy≤16777216→-16777216≤gz∧gz≤16777216→∀w',iV (W,[n13]) w'→Calls aa 20 #[.agg ⟨[dJ B0,dJ (none,0,0)]⟩,.agg ⟨[num gx,num gy,num gz]⟩,dJ Sp,dJ Sq,num 2,num 1] w' fun e w''=>Below w'.heap.size w' w''∧∃gl,w'.heap.size≤gl∧gl<w''.heap.size∧e=.returned (kC true gl 2 2)∧w''.heap[gl]?=some (.cells ⟨[num (0),num (0),num (0),num (0),num (0),num (0),num (0),num (0),num (0),num (0),num (0),num (0)]⟩ 47 (0,0)):=fun gx gy gz gX gY gZ w' hF'=>by
  refine (GX ((h.bare).fz hF').Fq (by simp) hP hQ (l8 sP hF' (kX _) xP) (l8 sQ hF' (kX _) xQ) ip iq (by omega) (by decide) gX gY gZ).mono fun e w'' ⟨r1,r2,r3⟩=>?_
  rw [L8,hn] at r3
  obtain ⟨gl,q1,q2,q3,q4⟩:=r3 rfl
  exact ⟨r1,gl,q1,q2,q3,q4⟩
 have hg:=JX x y z
 obtain ⟨f0,f1,f2⟩:=JW x y z
 rw [←f0,←f1,←f2] at hg
 refine aeA (w0:=W) (B1:=B1) (fun z_ hz_=>?_) (fun q hq=>.inl (by simpa using hq)) (by simp) hs (dO.refl W _) fun a1 w1 gu hu nd s1 k1=>?_
 ·simp only [ag,ae,or_false] at hz_
  subst hz_
  intro w' hF
  have hF':iV (W,[n13]) w':=hF
  refine ⟨[.agg ⟨[dJ B0,.slice none 0 0]⟩,.agg ⟨[num (FN 255 [x,y,z]),num (FN 256 [x,y,z]),num (FN 257 [x,y,z])]⟩,dJ Sp,dJ Sq,num 2,num 1],by kernel_rfl,?_⟩
  exact (key _ _ _ hg.1 hg.2.1 hg.2.2 w' hF').mono fun e w'' ⟨r1,gl,q1,q2,q3,q4⟩=>⟨r1,[num (0),num (0),num (0),num (0),num (0),num (0),num (0),num (0),num (0),num (0),num (0),num (0)],gl,by kernel_rfl,q1,q2,q3,q4⟩
 have k1':dO W [] w1:=CX k1 fun g hg=>by
  simp only [ag,ae,or_false] at hg
  subst hg
  exact (s1.gl _ aA).trans (hs.gl _ aA).symm
 have hgu:=hu gu (by simp)
 have ng:n13≠gu:=by simpa using nd
 have s2:=dP.sub (l':=[(14,dJ Sp),(16,dJ Tt),(17,.bool ok),(18,.slice (some ⟨gu,0,none⟩) 2 2),(19,.bool true)]) (gs':=[(gu,[num (0),num (0),num (0),num (0),num (0),num (0),num (0),num (0),num (0),num (0),num (0),num (0)],47)]) (ls':=[]) s1 (fun x hx=>Dc hx (by simp)) (fun x hx=>by simp only [ag,ae,or_false] at hx; subst hx; exact aT _ aA) (fun x hx=>by cases hx) (by simp)
 have hSp:Sp.2.1=2:=by rw [hP,←ip.1,hn]
 have fin:∀a2 w2,dP (dS 93 []) [] [] a2 w2→dO w1 [gu] w2→(sR 8 (dN bT)).wp aa (bodyPost aa bT (wz w)) a2 w2:=fun a2 w2 s3 k2=>by
  refine Ml (w0:=w2) (B0:=B0) (B1:=B1) (Sp:=Sp) (Sq:=Sq) (Tt:=Tt) (x:=x) (y:=y) (z:=z) (ok:=ok) (n13:=n13) (gu:=gu) (ex':=[]) H6 (fun q hq=>by cases hq) (by simp) s3 (dO.refl w2 _) fun a3 w3 s4 k3=>⟨rfl,?_⟩
  have K1:dO w [] w1:=(uo hb).trans k1'
  have K2:dO w [] w2:=K1.comp k2 fun g hg=>by simp at hg; subst hg; right; have:=hb.size; omega
  exact xG (K2.trans k3)
 cases ok with
 | false=>exact aeE (w0:=w1) (B0:=B0) (B1:=B1) (Sq:=Sq) (x:=x) (y:=y) (z:=z) (ok:=false) (n13:=n13) hSp (fun q hq=>.inl (by simpa using hq)) (by simp) s2 (dO.refl w1 _) fin
 | true =>
  obtain ⟨t1,t2,t3,t4,t5⟩:=hT rfl
  rw [hn] at t1 t2 t3 t4
  match us,t2,xs,t3,t4 with
  | [u0,u1],_,[x0,x1],_,t4 =>
   have t6:Sl w1 Tt.1 6 (pY [u0,u1] [x0,x1] (az 2 (0,0))):=kI t4 (k1') fun a ha=>by simp
   obtain ⟨b0,o0,W0⟩:=iy (ex:=[gu]) (i:=0) (r:=[num u0.1,num u0.2,num x0.1,num x0.2,num 0,num 0]) t6 (by rw [t1]; rfl) rfl (by simp) (fun a ha=>by have:=t5 a ha; simp; omega)
   obtain ⟨b1,o1,W1⟩:=iy (ex:=[gu]) (i:=1) (r:=[num u1.1,num u1.2,num x1.1,num x1.2,num 0,num 0]) t6 (by rw [t1]; rfl) rfl (by simp) (fun a ha=>by have:=t5 a ha; simp; omega)
   exact aeF (w0:=w1) (B0:=B0) (B1:=B1) (Sq:=Sq) (x:=x) (y:=y) (z:=z) (ok:=true) (n13:=n13) (t0:=(u0.1,u0.2,x0.1,x0.2)) (t1:=(u1.1,u1.2,x1.1,x1.2)) hSp t1 W0 W1 (fun q hq=>.inl (by simpa using hq)) (by simp) s2 (dO.refl w1 _) fin
theorem acU (hn:js.length=3) (h:jW W [n13] B0 B1 js mvs) (hP:Sp.2.1=ps.length) (hQ:Sq.2.1=qs.length) (sP:Sl W Sp.1 1 (fF ps)) (sQ:Sl W Sq.1 1 (fF qs)) (ip:mi js ps) (iq:mi js qs) (xP:∀a,Sp.1=some a→fF ps≠[]→a.block∉[n13]) (xQ:∀a,Sq.1=some a→fF qs≠[]→a.block∉[n13])
  (hs:dP (dS 93 [(3,num (x)),(4,num (y)),(5,num (z)),(13,dK n13),(14,dJ Sp),(15,dJ Sq),(16,dJ Tt),(17,.bool (ok))]) [(n13,[dJ B0,.slice none 0 0],35)] [] a W) (hb:Below w.heap.size w W) (h13:w.heap.size≤n13)
  (hT:ok=true→Tt.2.1=js.length∧us.length=js.length∧xs.length=js.length∧Sl W Tt.1 6 (pY us xs (az js.length (0,0)))∧∀a,Tt.1=some a→a.block<W.heap.size) :
  (fB [(jT (dN bT))] (fB [(rz (dN bT)),(rC (dN bT))] (sR 8 (dN bT)))).wp aa (bodyPost aa bT (wz w)) a W:=by
 have key:∀gx gy gz:Int,-16777216≤gx∧gx≤16777216→-16777216≤gy∧gy≤16777216→-16777216≤gz∧gz≤16777216→∀w',iV (W,[n13]) w'→Calls aa 20 #[.agg ⟨[dJ B0,dJ (none,0,0)]⟩,.agg ⟨[num gx,num gy,num gz]⟩,dJ Sp,dJ Sq,num 2,num 1] w' fun e w''=>Below w'.heap.size w' w''∧∃gl,w'.heap.size≤gl∧gl<w''.heap.size∧e=.returned (kC true gl 3 3)∧w''.heap[gl]?=some (.cells ⟨[num (0),num (0),num (0),num (0),num (0),num (0),num (0),num (0),num (0),num (0),num (0),num (0),num (0),num (0),num (0),num (0),num (0),num (0)]⟩ 47 (0,0)):=fun gx gy gz gX gY gZ w' hF'=>by
  refine (GX ((h.bare).fz hF').Fq (by simp) hP hQ (l8 sP hF' (kX _) xP) (l8 sQ hF' (kX _) xQ) ip iq (by omega) (by decide) gX gY gZ).mono fun e w'' ⟨r1,r2,r3⟩=>?_
  rw [L8,hn] at r3
  obtain ⟨gl,q1,q2,q3,q4⟩:=r3 rfl
  exact ⟨r1,gl,q1,q2,q3,q4⟩
 have hg:=JX x y z
 obtain ⟨f0,f1,f2⟩:=JW x y z
 rw [←f0,←f1,←f2] at hg
 refine aeB (w0:=W) (B1:=B1) (fun z_ hz_=>?_) (fun q hq=>.inl (by simpa using hq)) (by simp) hs (dO.refl W _) fun a1 w1 gu hu nd s1 k1=>?_
 ·simp only [ag,ae,or_false] at hz_
  subst hz_
  intro w' hF
  have hF':iV (W,[n13]) w':=hF
  refine ⟨[.agg ⟨[dJ B0,.slice none 0 0]⟩,.agg ⟨[num (FN 255 [x,y,z]),num (FN 256 [x,y,z]),num (FN 257 [x,y,z])]⟩,dJ Sp,dJ Sq,num 2,num 1],by kernel_rfl,?_⟩
  exact (key _ _ _ hg.1 hg.2.1 hg.2.2 w' hF').mono fun e w'' ⟨r1,gl,q1,q2,q3,q4⟩=>⟨r1,[num (0),num (0),num (0),num (0),num (0),num (0),num (0),num (0),num (0),num (0),num (0),num (0),num (0),num (0),num (0),num (0),num (0),num (0)],gl,by kernel_rfl,q1,q2,q3,q4⟩
 have k1':dO W [] w1:=CX k1 fun g hg=>by
  simp only [ag,ae,or_false] at hg
  subst hg
  exact (s1.gl _ aA).trans (hs.gl _ aA).symm
 have hgu:=hu gu (by simp)
 have ng:n13≠gu:=by simpa using nd
 have s2:=dP.sub (l':=[(14,dJ Sp),(16,dJ Tt),(17,.bool ok),(18,.slice (some ⟨gu,0,none⟩) 3 3),(19,.bool true)]) (gs':=[(gu,[num (0),num (0),num (0),num (0),num (0),num (0),num (0),num (0),num (0),num (0),num (0),num (0),num (0),num (0),num (0),num (0),num (0),num (0)],47)]) (ls':=[]) s1 (fun x hx=>Dc hx (by simp)) (fun x hx=>by simp only [ag,ae,or_false] at hx; subst hx; exact aT _ aA) (fun x hx=>by cases hx) (by simp)
 have hSp:Sp.2.1=3:=by rw [hP,←ip.1,hn]
 have fin:∀a2 w2,dP (dS 93 []) [] [] a2 w2→dO w1 [gu] w2→(sR 8 (dN bT)).wp aa (bodyPost aa bT (wz w)) a2 w2:=fun a2 w2 s3 k2=>by
  refine Ml (w0:=w2) (B0:=B0) (B1:=B1) (Sp:=Sp) (Sq:=Sq) (Tt:=Tt) (x:=x) (y:=y) (z:=z) (ok:=ok) (n13:=n13) (gu:=gu) (ex':=[]) H6 (fun q hq=>by cases hq) (by simp) s3 (dO.refl w2 _) fun a3 w3 s4 k3=>⟨rfl,?_⟩
  have K1:dO w [] w1:=(uo hb).trans k1'
  have K2:dO w [] w2:=K1.comp k2 fun g hg=>by simp at hg; subst hg; right; have:=hb.size; omega
  exact xG (K2.trans k3)
 cases ok with
 | false=>exact aeG (w0:=w1) (B0:=B0) (B1:=B1) (Sq:=Sq) (x:=x) (y:=y) (z:=z) (ok:=false) (n13:=n13) hSp (fun q hq=>.inl (by simpa using hq)) (by simp) s2 (dO.refl w1 _) fin
 | true =>
  obtain ⟨t1,t2,t3,t4,t5⟩:=hT rfl
  rw [hn] at t1 t2 t3 t4
  match us,t2,xs,t3,t4 with
  | [u0,u1,u2],_,[x0,x1,x2],_,t4 =>
   have t6:Sl w1 Tt.1 6 (pY [u0,u1,u2] [x0,x1,x2] (az 3 (0,0))):=kI t4 (k1') fun a ha=>by simp
   obtain ⟨b0,o0,W0⟩:=iy (ex:=[gu]) (i:=0) (r:=[num u0.1,num u0.2,num x0.1,num x0.2,num 0,num 0]) t6 (by rw [t1]; rfl) rfl (by simp) (fun a ha=>by have:=t5 a ha; simp; omega)
   obtain ⟨b1,o1,W1⟩:=iy (ex:=[gu]) (i:=1) (r:=[num u1.1,num u1.2,num x1.1,num x1.2,num 0,num 0]) t6 (by rw [t1]; rfl) rfl (by simp) (fun a ha=>by have:=t5 a ha; simp; omega)
   obtain ⟨b2,o2,W2⟩:=iy (ex:=[gu]) (i:=2) (r:=[num u2.1,num u2.2,num x2.1,num x2.2,num 0,num 0]) t6 (by rw [t1]; rfl) rfl (by simp) (fun a ha=>by have:=t5 a ha; simp; omega)
   exact aeH (w0:=w1) (B0:=B0) (B1:=B1) (Sq:=Sq) (x:=x) (y:=y) (z:=z) (ok:=true) (n13:=n13) (t0:=(u0.1,u0.2,x0.1,x0.2)) (t1:=(u1.1,u1.2,x1.1,x1.2)) (t2:=(u2.1,u2.2,x2.1,x2.2)) hSp t1 W0 W1 W2 (fun q hq=>.inl (by simpa using hq)) (by simp) s2 (dO.refl w1 _) fin
end Go.Proofs
end
section
namespace Go.Proofs
open Go.Sm Go.RowKit En
theorem aeL {w:World} {B0 B1 Sp Sq:dY} {js:List JV} {mvs:List MV} {ps qs:List Int} {x y z:Int} {n13:Nat} {a:Act} {W:World} (h:jW W [n13] B0 B1 js mvs) (hm2:mvs.length≤2) (hP:Sp.2.1=ps.length) (hQ:Sq.2.1=qs.length) (sP:Sl W Sp.1 1 (fF ps)) (sQ:Sl W Sq.1 1 (fF qs)) (ip:mi js ps) (iq:mi js qs) (xP:∀a,Sp.1=some a→fF ps≠[]→a.block∉[n13]) (xQ:∀a,Sq.1=some a→fF qs≠[]→a.block∉[n13])
  (hs:dP (dS 93 [(3,num x),(4,num y),(5,num z),(13,dK n13),(14,dJ Sp),(15,dJ Sq)]) [(n13,[dJ B0,dJ B1],35)] [] a W) (hb:Below w.heap.size w W) (h13:w.heap.size≤n13) :
  (sR 3 (dN bT)).wp aa (bodyPost aa bT (wz w)) a W:=by
 rw [WV]
 refine wp_seq (yC (by kernel_rfl) (xN 4 ?_))
 refine w5a (w0:=W) (B0:=B0) (B1:=B1) (Sp:=Sp) (Sq:=Sq) (Tt:=(none,0,0)) (ok:=false) (gu:=0) (ex':=[]) (x:=x) (y:=y) (z:=z) (fun q hq=>.inl (by simpa using hq)) (by simp) hs (dO.refl W _) fun a1 w1 s1 k1=>?_
 have l13:n13<w1.heap.size:=qE s1 n13 (by simp)
 refine Xa W9 s1 (vs:=[.agg ⟨[dJ B0,dJ B1]⟩,.agg ⟨[num 0,num 0,num 0]⟩,dJ Sp,dJ Sq,num 2,num 1]) (by kernel_rfl) (GX (h.fz (nQ k1)).Fq hm2 hP hQ (l8 sP (nQ k1) (kX _) xP) (l8 sQ (nQ k1) (kX _) xQ) ip iq (by omega) (by decide) (by omega) (by omega) (by omega)) fun e w2 hR=>?_
 have tr:=aee js mvs ps qs 2 1
 obtain ⟨tl1,tl2⟩:=aed js mvs ps qs 2 1 0 0 0
 generalize xq js mvs ps qs 2 1 0 0 0=T at hR tr tl1 tl2
 obtain ⟨hb2,r1,r2⟩:=hR
 have k2:=uo hb2
 have hE:∃(Tt:dY) (ok:Bool),e=.returned (.tuple ⟨[dJ Tt,.bool ok]⟩)∧(ok=true→Tt.2.1=js.length∧T.us.length=js.length∧T.xs.length=js.length∧Sl w2 Tt.1 6 (pY T.us T.xs (az js.length (0,0)))∧∀a,Tt.1=some a→w1.heap.size≤a.block∧a.block<w2.heap.size):=by
  cases hf:T.fl with
  | true=>exact ⟨(none,0,0),false,r1 hf,fun e=>by cases e⟩
  | false =>
   obtain ⟨gl,q1,q2,q3,q4⟩:=r2 hf
   rw [tr] at q4
   exact ⟨(some ⟨gl,0,none⟩,js.length,js.length),true,q3,fun _=>⟨rfl,tl1,tl2,aeg q4,fun a ha=>by injection ha with ha; subst ha; exact ⟨q1,q2⟩⟩⟩
 obtain ⟨Tt,ok,rfl,hT⟩:=hE
 refine ⟨_,rfl,?_⟩
 have s2:=yX (BF (BG s1 fun q hq=>k2.frame q (qE s1 q hq) (by simp)) 34 (.tuple ⟨[dJ Tt,.bool ok]⟩))
 have s2':=dP.sub (l':=[(3,num x),(4,num y),(5,num z),(13,dK n13),(14,dJ Sp),(15,dJ Sq),(34,.tuple ⟨[dJ Tt,.bool ok]⟩)]) (gs':=[(n13,[dJ B0,dJ B1],35)]) (ls':=[]) s2 (fun x hx=>by
  simp only [ag,ae,or_false] at hx
  rcases hx with rfl | rfl | rfl | rfl | rfl | rfl | rfl<;>rfl) (fun x hx=>hx) (fun x hx=>hx) (by simp)
 refine y9 (w5b (w0:=w2) (B0:=B0) (B1:=B1) (Sp:=Sp) (Sq:=Sq) (Tt:=Tt) (ok:=ok) (gu:=0) (ex':=[]) (x:=x) (y:=y) (z:=z) (fun q hq=>.inl (by simpa using hq)) (by simp) s2' (dO.refl w2 _) fun a3 w3 s3 k3=>?_)
 refine w5c (w0:=w3) (B0:=B0) (B1:=B1) (Sp:=Sp) (Sq:=Sq) (Tt:=Tt) (ok:=ok) (gu:=0) (ex':=[]) (x:=x) (y:=y) (z:=z) (fun q hq=>.inl (by simpa using hq)) (by simp) s3 (dO.refl w3 _) fun a4 w4 s4 k4=>?_
 have K2:dO w2 [n13] w4:=k3.comp k4 fun g hg=>.inl hg
 have K:dO W [n13] w4:=(k1.comp k2 fun g hg=>by cases hg).comp K2 fun g hg=>.inl hg
 have hn:=h.n
 rcases (show js.length=1∨js.length=2∨js.length=3 by omega) with hl | hl | hl
 ·exact acS hl (h.fz (nQ K)) hP hQ (l8 sP (nQ K) (kX _) xP) (l8 sQ (nQ K) (kX _) xQ) ip iq xP xQ s4 (xG ((uo hb).comp K fun g hg=>by simp at hg; subst hg; right; exact h13)) h13 (fun ho=>by
   obtain ⟨e1,e2,e3,e4,e5⟩:=hT ho
   exact ⟨e1,e2,e3,kI e4 K2 (fun a ha=>by have:=(e5 a ha).1; simp; omega),fun a ha=>aC (e5 a ha).2 K2.size⟩)
 ·exact acT hl (h.fz (nQ K)) hP hQ (l8 sP (nQ K) (kX _) xP) (l8 sQ (nQ K) (kX _) xQ) ip iq xP xQ s4 (xG ((uo hb).comp K fun g hg=>by simp at hg; subst hg; right; exact h13)) h13 (fun ho=>by
   obtain ⟨e1,e2,e3,e4,e5⟩:=hT ho
   exact ⟨e1,e2,e3,kI e4 K2 (fun a ha=>by have:=(e5 a ha).1; simp; omega),fun a ha=>aC (e5 a ha).2 K2.size⟩)
 ·exact acU hl (h.fz (nQ K)) hP hQ (l8 sP (nQ K) (kX _) xP) (l8 sQ (nQ K) (kX _) xQ) ip iq xP xQ s4 (xG ((uo hb).comp K fun g hg=>by simp at hg; subst hg; right; exact h13)) h13 (fun ho=>by
   obtain ⟨e1,e2,e3,e4,e5⟩:=hT ho
   exact ⟨e1,e2,e3,kI e4 K2 (fun a ha=>by have:=(e5 a ha).1; simp; omega),fun a ha=>aC (e5 a ha).2 K2.size⟩)
end Go.Proofs
end
section
namespace Go.Proofs.En
open Go.RowKit
theorem Yv:(aa.info? 80).map (fun i=>(i.zero,i.size,i.bytes))=some (some (.agg #[.string ⟨#[]⟩,.int .i64 0,.int .i64 0,.int .i64 0,.int .i64 0,.int .i64 0,.int .i64 0,.int .i64 0,.int .i64 0,.int .i64 0,.int .i64 0,.int .i64 0]),12,104):=by kernel_rfl
theorem Yu:(aa.info? 54).map (fun i=>(i.zero,i.size,i.bytes))=some (some (.agg #[.int .i64 0,.int .i64 0,.int .i64 0,.int .i64 0,.int .i64 0]),5,40):=by kernel_rfl
theorem Yt:(aa.info? 2).map (fun i=>(i.zero,i.size,i.bytes))=some (some (.int .i64 0),1,8):=by kernel_rfl
theorem aek:aa.underlying 32=some (.slice 80):=by kernel_rfl
theorem ael:aa.underlying 33=some (.slice 54):=by kernel_rfl
theorem Md:aa.underlying 37=some (.slice 2):=by kernel_rfl
theorem Dg (W:World) (l:List Value) (t:TypeId):∀(j:Nat) (u:Value),l[j]?=some u→(W.alloc (.cells l.toArray t)).cell? ((⟨W.heap.size,0,none⟩:Addr).add j)=some u:=by
 intro j u hu
 have:=(Row.new W l t).c j u hu
 rw [←this]
 congr 1
 unfold Addr.add
 split<;>simp_all
theorem YW (j:JV):∀u∈j.vals,u.oneCell'=true:=by
 intro u hu
 simp [JV.vals] at hu
 rcases hu with rfl | rfl | rfl | rfl | rfl | rfl | rfl | rfl | rfl | rfl | rfl | rfl<;>rfl
theorem ZM (j:MV):∀u∈j.vals,u.oneCell'=true:=by
 intro u hu
 simp [MV.vals] at hu
 rcases hu with rfl | rfl | rfl | rfl | rfl<;>rfl
theorem Zx (n:Nat) (a b c d:Int) (h1:0≤a∧a<n) (h2:0≤b∧b<9000) (h3:-3≤c∧c≤3) (h4:-2≤d∧d≤2):kK n ⟨a,bg.wrap (1+b),bg.wrap (c*32768),0,bg.wrap (d*32768)⟩=true:=by
 rw [dz _ (by omega),dz _ (by omega),dz _ (by omega)]
 simp [kK,lv,wD,AJ]; omega
theorem Zz {n:Nat} {ms:List MV} {m:MV} (h:∀(k:Nat) (m:MV),ms[k]?=some m→kK n m=true) (hm:kK n m=true):∀(k:Nat) (m':MV),(ms++[m])[k]?=some m'→kK n m'=true:=by
 intro k m' hk
 have:=aN hk
 simp at this
 rcases this with h1 | rfl
 ·obtain ⟨i,hi⟩:=cZ h1
  exact h i _ hi
 ·exact hm
def Vz (w:World) (nS:Nat) (e:Ending) (W':World):Prop:=∃js ms oa cj om cm,e=.returned (.agg #[.slice oa (ae1 js) cj,.slice om (ae1 ms) cm])∧(∀W'',(∀g,w.heap.size≤g→g<W'.heap.size→W''.heap[g]?=W'.heap[g]?)→Cf js ms oa om W'')∧w.grownBy W' (some nS)
set_option maxRecDepth 100000 in
theorem ac2 (w:World) (nS:Nat) (os:Option Addr) (cap:Nat) (xs:List Int) (hS:Src w nS os cap xs) :
  Calls aa 36 #[.pointer (some ⟨nS,0,none⟩)] w (Vz w nS):=by
 go_enter Tryz.func36,Tryz.ntmps36
 go_wp2_with fail
 have hR:RB w nS w.heap.size (w.heap.size+1) os cap xs [] [] (.slice none 0 0) (.slice none 0 0) ((w.alloc (.cells #[.slice none 0 0,.slice none 0 0] 35)).alloc (.cells #[.slice none 0 0,.slice none 0 0] 35)):=by
  have hb1:Below w.heap.size w (w.alloc (.cells #[.slice none 0 0,.slice none 0 0] 35)):=(aI _ _).alloc (au _) _
  have hb2:Below (w.alloc (.cells #[.slice none 0 0,.slice none 0 0] 35)).heap.size (w.alloc (.cells #[.slice none 0 0,.slice none 0 0] 35)) ((w.alloc (.cells #[.slice none 0 0,.slice none 0 0] 35)).alloc (.cells #[.slice none 0 0,.slice none 0 0] 35)):=(aI _ _).alloc (au _) _
  have e:(w.alloc (.cells #[.slice none 0 0,.slice none 0 0] 35)).heap.size=w.heap.size+1:=by simp
  have B2:=eG.new (w.alloc (.cells #[.slice none 0 0,.slice none 0 0] 35)) [.slice none 0 0,.slice none 0 0] 35
  rw [e] at B2
  exact ⟨zy (jD hb1 hb2),(hS.yl hb1).yl hb2,⟨_,_,(eG.new w [.slice none 0 0,.slice none 0 0] 35).keep hb2⟩,B2,World.ownsRow_nil _ _ _ _,World.ownsRow_nil _ _ _ _,(fun g h=>by cases h),by simp,(fun k j h=>by simp at h),hS.ints,GM hS,au _,Nat.lt_succ_self _⟩
 generalize ((w.alloc (.cells #[.slice none 0 0,.slice none 0 0] 35)).alloc (.cells #[.slice none 0 0,.slice none 0 0] 35))=W0 at hR ⊢
 generalize hn2:w.heap.size=n2 at hR ⊢
 generalize hn3:n2+1=n3 at hR ⊢
 have HN2:=aG hn2
 clear hn2 hn3
 refine (oQ _ nS os cap xs 3 hR.src (by omega) (by omega)).mono ?_
 rintro e W1 ⟨r,r1,r2,rfl,hg1,hS1⟩
 replace hR:=hR.call hg1 hS1
 clear hg1 hS1 hS
 have hn1:1≤1+r∧1+r≤3:=by omega
 go_wp2_with fail
 generalize 1+r=n at hn1 ⊢
 clear r1 r2
 go_loopw [5] (fun i W=>∃js v,i=.int .i64 (ae1 js:Nat)∧(js.length:Int)≤n∧RB w nS n2 n3 os cap xs js [] v (.slice none 0 0) W) (fun i _=>(n - intOf i).toNat)
 case atStart=>exact ⟨[],_,rfl,by simp; omega,hR⟩
 case round =>
  clear hR
  obtain ⟨js,v,rfl,hk,hR⟩:=hrel
  by_cases hlt:(js.length:Int)<n
  ·obtain ⟨i0,hi,hz0,hz1,hz2⟩:=info_parts Yv
   go_upto_block 1 with fail
   go_cut [] (fun W=>∃j v',RB w nS n2 n3 os cap xs (js++[j]) [] v' (.slice none 0 0) W)
   case first =>
    have c0:wr.cell? ⟨n3,0,none⟩=some v:=hR.b3.c 0 _ rfl
    have f0:=hR.b3.f 0
    have l3:=hR.b3.lt
    go_wp2_with fail
    have hS0:Src wr.drew nS os cap xs:=hR.src.yl (aI _ _).drew
    have hk3:(js.length:Int)≤3:=by omega
    go_region_law (first
     | (refine step_append_lies _ rfl (.tmp 16) (.tmp 20) 32 rfl (n3+1) 80 i0 _ 12 104 aek hi hz0 hz1 hz2 rfl (by decide) v js.length (AV js) (by simp [Act.eval]) HA.out.oj ⟨W2.heap.size,0,none⟩ 1 1 j.vals (by simp [Act.eval]) rfl (Dg _ _ _) (YW j) (by decide) (by unfold maxLen; omega) (by omega) HA.out.hb _ rfl ?_; intro g c W3 hown hgrow hat hlt3; have hB3:=HA.out.b3.low (Nat.lt_succ_self _) (yh HA.out.oj hgrow HA.out.hb); have c04:=hB3.c 0 _ rfl; have f04:=hB3.f 0; have HO:=aG hown; clear hown)
     | (go_simp; go_at_call 61; refine (YG _ nS os cap xs _ hS0 (by omega) hk3).mono ?_; rintro e W2 ⟨j,hGj,he,hg2,hS2⟩; replace he:e=.returned (.agg #[.string j.name,.int .i64 j.kind,.int .i64 j.parent,.int .i64 j.o0,.int .i64 j.o1,.int .i64 j.o2,.int .i64 j.lo,.int .i64 j.hi,.int .i64 j.weight,.int .i64 j.speed,.int .i64 j.iL,.int .i64 j.iO]):=he; subst he; have HR2:=aG ((hR.gW (aI _ _).drew).call hg2 hS2); have c02:=HR2.out.b3.c 0 _ rfl; have HA:=aG (HR2.out.gW (W':=W2.alloc (.cells #[.string j.name,.int .i64 j.kind,.int .i64 j.parent,.int .i64 j.o0,.int .i64 j.o1,.int .i64 j.o2,.int .i64 j.lo,.int .i64 j.hi,.int .i64 j.weight,.int .i64 j.speed,.int .i64 j.iL,.int .i64 j.iO] 80)) ((aI _ _).alloc (au _) _)); have c03:=HA.out.b3.c 0 _ rfl))
    all_goals
     go_wp2_with fail
     go_meet
     exact ⟨j,_,HA.out.appJ j hGj g c HO.out hgrow hat⟩
   case rest =>
    clear hR
    obtain ⟨j,v',hR⟩:=hcut
    go_wp2
    go_roundw
    case rel=>exact ⟨js++[j],v',by simp,by simp; omega,hR⟩
    case measure=>simp [intOf]; omega
  ·have hle:n=(js.length:Int):=by omega
   go_wp2_with fail
   refine (oQ _ nS os cap xs 3 hR.src (by omega) (by omega)).mono ?_
   rintro e W2 ⟨q,q1,q2,rfl,hg2,hS2⟩
   replace hR:=hR.call hg2 hS2
   clear hg2 hS2
   have hjl:1≤js.length∧js.length≤3:=by omega
   clear hk hlt
   go_wp2_with fail
   go_loopw [6] (fun i W=>∃(k:Int) (ms:List MV) (u:Value),i=.int .i64 k∧0≤k∧(ms.length:Int)+k≤2∧(∀(k:Nat) (m:MV),ms[k]?=some m→kK js.length m=true)∧RB w nS n2 n3 os cap xs js ms v u W) (fun i _=>(intOf i).toNat)
   case atStart=>exact ⟨q,[],_,rfl,q1,by simp; omega,by simp,hR⟩
   case round =>
    clear hR q1 q2
    obtain ⟨k,ms,u,rfl,hk0,hk,hgm,hR⟩:=hrel
    have HGM:=aG hgm
    clear hgm
    by_cases hlt:0<k
    ·obtain ⟨i0,hi,hz0,hz1,hz2⟩:=info_parts Yu
     go_upto_block 3 with fail
     go_cut [] (fun W=>∃m u',kK js.length m=true∧RB w nS n2 n3 os cap xs js (ms++[m]) v u' W)
     case first =>
      have c0:wr.cell? ⟨n3,1,none⟩=some u:=hR.b3.c 1 _ rfl
      have f0:=hR.b3.f 1
      have l3:=hR.b3.lt
      have hS0:Src wr.drew nS os cap xs:=hR.src.yl (aI _ _).drew
      go_wp2_with fail
      go_region_law (first
       | (have hxx:=HA; clear hxx; refine step_append_lies _ rfl (.tmp 30) (.tmp 45) 33 rfl (n3+1) 54 i0 _ 5 40 ael hi hz0 hz1 hz2 rfl (by decide) u ms.length (Bc ms) (by simp [Act.eval]) HA.out.om ⟨V4.heap.size,0,none⟩ 1 1 (MV.vals ⟨a1,bg.wrap (1+a2),bg.wrap (a3*32768),0,bg.wrap (a4*32768)⟩) (by simp [Act.eval]) rfl (Dg _ _ _) (ZM _) (by decide) (by unfold maxLen; omega) (by omega) HA.out.hb _ rfl ?_; intro g c W3 hown hgrow hat hlt3; have hB3:=HA.out.b3.low (Nat.lt_succ_self _) (yh HA.out.om hgrow HA.out.hb); have c04:=hB3.c 1 _ rfl; have f04:=hB3.f 1; have HO:=aG hown; clear hown)
       | (have hxx:=hS3; clear hxx; go_simp; go_at_call 62; refine (GG _ nS os cap xs 2 hS3 (by omega) (by omega)).mono ?_; rintro e V4 ⟨a4,a41,a42,rfl,hg4,hS4⟩; have HR4:=aG (HR3.out.call hg4 hS4); clear hg4; have c14:=HR4.out.b3.c 1 _ rfl; have HA:=aG (HR4.out.gW (W':=V4.alloc (.cells #[.int .i64 a1,.int .i64 (bg.wrap (1+a2)),.int .i64 (bg.wrap (a3*32768)),.int .i64 0,.int .i64 (bg.wrap (a4*32768))] 54)) ((aI _ _).alloc (au _) _)); have c15:=HA.out.b3.c 1 _ rfl)
       | (have hxx:=hS2; clear hxx; go_simp; go_at_call 62; refine (GG _ nS os cap xs 3 hS2 (by omega) (by omega)).mono ?_; rintro e V3 ⟨a3,a31,a32,rfl,hg3,hS3⟩; have HR3:=aG (HR2.out.call hg3 hS3); clear hg3; have c13:=HR3.out.b3.c 1 _ rfl)
       | (have hxx:=hS1; clear hxx; go_simp; go_at_call 38; refine (oQ _ nS os cap xs 9000 hS1 (by omega) (by omega)).mono ?_; rintro e V2 ⟨a2,a21,a22,rfl,hg2,hS2⟩; have HR2:=aG (HR1.out.call hg2 hS2); clear hg2; have c12:=HR2.out.b3.c 1 _ rfl)
       | (go_simp; go_at_call 38; refine (oQ _ nS os cap xs js.length hS0 (by omega) (by omega)).mono ?_; rintro e V1 ⟨a1,a11,a12,rfl,hg1,hS1⟩; have HR1:=aG ((hR.gW (aI _ _).drew).call hg1 hS1); clear hg1; have c11:=HR1.out.b3.c 1 _ rfl))
      all_goals
       go_wp2_with fail
       go_meet
       exact ⟨_,_,Zx _ a1 a2 a3 a4 ⟨a11,a12⟩ ⟨a21,a22⟩ ⟨a31,a32⟩ ⟨a41,a42⟩,HA.out.VK _ g c HO.out hgrow hat⟩
     case rest =>
      clear hR
      obtain ⟨m,u',hm,hR⟩:=hcut
      go_wp2
      go_roundw
      case rel=>exact ⟨k - 1,ms++[m],u',by simp,by omega,by simp; omega,Zz HGM.out hm,hR⟩
      case measure=>simp [intOf]; omega
    ·obtain ⟨oa,cj,om,cm,rfl,rfl,s1,s2⟩:=hR.done
     obtain ⟨x,y,hb2⟩:=hR.b2
     have d0:=hR.b3.c 0 _ rfl
     have d1:=hR.b3.c 1 _ rfl
     have e0:=hb2.c 0 _ rfl
     have e1:=hb2.c 1 _ rfl
     have f0:=hb2.f 0
     have f1:=hb2.f 1
     have l2:=hb2.lt
     have l3:=hR.b3.lt
     have HR:=aG hR
     have HS1:=aG s1
     have HS2:=aG s2
     clear hR s1 s2 hb2
     go_wp2_with fail
     have hF:=HR.out.acy (.slice oa js.length cj) (.slice om ms.length cm)
     refine bodyPost_ret (v:=.agg #[.slice oa js.length cj,.slice om ms.length cm]) (by simp [results,Tryz.results36,go_sem,e0,e1]) rfl ⟨js,ms,oa,cj,om,cm,rfl,?_,hF.gr⟩
     intro W'' hag
     obtain ⟨oa',cj',om',cm',q1,q2,s1,s2⟩:=QG hF hag
     injection q1 with q1 _ q1'
     injection q2 with q2 _ q2'
     subst q1 q2
     exact ⟨hjl,by omega,hF.gj,HGM.out,s1,s2⟩
end Go.Proofs.En
end
section
namespace Go.Proofs.En
open Go.RowKit
def Vv (w:World) (e:Ending) (W':World):Prop:=∃js ms oa cj om cm,e=.returned (.agg #[.slice oa (ae1 js) cj,.slice om (ae1 ms) cm])∧Cf js ms oa om W'∧Below w.heap.size w W'
theorem UB (w:World) (os:Option Addr) (cap:Nat) (xs:List Int) (hI:Sl w os 1 (fF xs)) (hl:xs.length≤9223372036854775807):Src (w.alloc (.cells #[.slice os xs.length cap,.int .i64 0] 120)) w.heap.size os cap xs:=by
 refine ⟨⟨0,by omega,iw.new w _ _ 120⟩,hI.keep ((aI _ _).alloc (au _) _),?_,hl⟩
 intro hne b o s e
 obtain ⟨b',off',e',hr⟩:=hI (by intro h; exact hne (by simpa [fF] using h))
 rw [e] at e'
 injection e' with e'
 injection e' with e' _ _
 have:=hr.lt
 omega
theorem ZF (w:World) (os:Option Addr) (cap:Nat) (xs:List Int) (hI:Sl w os 1 (fF xs)) (hl:xs.length≤9223372036854775807) :
  Calls aa 17 #[.slice os xs.length cap] w (Vv w):=by
 go_enter Tryz.func17,Tryz.ntmps17
 go_wp2_with fail
 have hB0:Below w.heap.size w (w.alloc (.cells #[.slice none 0 0,.slice none 0 0] 35)):=(aI _ _).alloc (au _) _
 have b0:=eG.new w [.slice none 0 0,.slice none 0 0] 35
 have hI0:=hI.keep hB0
 generalize (w.alloc (.cells #[.slice none 0 0,.slice none 0 0] 35))=W0 at hB0 b0 hI0 ⊢
 generalize hn:w.heap.size=n2 at b0 ⊢
 have HN:=aG hn
 clear hn
 refine (O8 os cap xs.length W0).mono ?_
 rintro e W1 ⟨rfl,rfl⟩
 have hS:=UB W0 os cap xs hI0 hl
 have hB1:Below W0.heap.size W0 (W0.alloc (.cells #[.slice os xs.length cap,.int .i64 0] 120)):=(aI _ _).alloc (au _) _
 have b1:=b0.keep hB1
 have hne:n2≠W0.heap.size:=Nat.ne_of_lt b0.lt
 have hn2:n2<(W0.alloc (.cells #[.slice os xs.length cap,.int .i64 0] 120)).heap.size:=b1.lt
 have hwS:w.heap.size≤W0.heap.size:=hB0.size
 have HB1:=aG (jD hB0 hB1)
 clear hB0 hB1 b0
 generalize (W0.alloc (.cells #[.slice os xs.length cap,.int .i64 0] 120))=W1 at hS b1 HB1 hn2 ⊢
 generalize W0.heap.size=nS at hS hne hwS ⊢
 go_wp2_with fail
 refine (ac2 W1 nS os cap xs hS).mono ?_
 rintro e W2 ⟨js,ms,oa,cj,om,cm,rfl,hP,hg⟩
 have b2:=b1.rF hg hne
 have hB2:Below w.heap.size w W2:=⟨hg.os.trans HB1.out.os,hg.tape.trans HB1.out.tape,hg.output.trans HB1.out.output,aZ HB1.out.size hg.size,fun k hk=>(hg.block k (aC hk HB1.out.size) (fun e=>by injection e; omega)).trans (HB1.out.block k hk)⟩
 have e0:=b2.c 0 _ rfl
 have e1:=b2.c 1 _ rfl
 have f0:=b2.f 0
 have f1:=b2.f 1
 have l2:=b2.lt
 have HP:=aG hP
 have HB2:=aG hB2
 clear hP hB2 b1 b2 hg HB1
 go_wp2_with fail
 have hBF:Below w.heap.size w ((W2.setCell ⟨n2,0,none⟩ (.slice oa js.length cj)).setCell ⟨n2,1,none⟩ (.slice om ms.length cm)):=(HB2.out.setCell (p:=⟨n2,0,none⟩) (Nat.le_of_eq HN.out) _).setCell (p:=⟨n2,1,none⟩) (Nat.le_of_eq HN.out) _
 refine bodyPost_ret (v:=.agg #[.slice oa js.length cj,.slice om ms.length cm]) (by simp [results,Tryz.results17,go_sem,e0,e1]) rfl ⟨js,ms,oa,cj,om,cm,rfl,HP.out _ ?_,hBF⟩
 intro g h1 h2
 exact (ae0 _ ⟨n2,1,none⟩ _ g (show g≠n2 by omega)).trans (ae0 _ ⟨n2,0,none⟩ _ g (show g≠n2 by omega))
end Go.Proofs.En
end
