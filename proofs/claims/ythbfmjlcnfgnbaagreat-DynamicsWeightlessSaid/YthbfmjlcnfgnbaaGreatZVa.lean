/-
  Part of the proof: see the last text.
-/
import Derived.Test.YthbfmjlcnfgnbaaGreatZKb
import Derived.Test.YthbfmjlcnfgnbaaGreatZYc
set_option linter.unusedVariables false
set_option maxHeartbeats 8000000
open Array renaming getElem?_eq_some_iff→aB
open Go.RowKit.Below renaming heap_setCell→ae0,refl→aI
open Bool renaming and_eq_true→aQ
open Int renaming tdiv→dC
open Go.IntKind renaming i64→bg
open Go.IntWalk renaming i64_in→dz
open Go.Lib renaming hid→aG
open Nat renaming le_refl→au,le_trans→aZ,lt_of_lt_of_le→aC
open Go.Proofs.Tryz renaming prog→aa
open Go.World renaming cell?→bS,frozen?→ae2,setCell→afg
section
namespace Go.Proofs.En
open Go.RowKit Go.Sm
variable {w:World} {nc:Nat} {e:TypeId} {c:Bool}
theorem OZ (h:w.heap[nc]?=some (.cells #[.bool c] e (0,0))):w.cell? ⟨nc,0,none⟩=some (.bool c)∧w.frozen? ⟨nc,0,none⟩=false∧nc<w.heap.size:=by
 refine ⟨(cell_of_row w nc 0 _ e (0,0) h).trans rfl,?_,(aB.1 h).1⟩
 simp [ae2,h]
variable {w1 w2:World} {b:Bool}
theorem _root_.Go.Sm.jL.low (h:jL w nc e b w1) (hn:nc<w.heap.size) (hb:Below w.heap.size w1 w2):jL w nc e b w2 :=
 ⟨hb.os.trans h.os,hb.tape.trans h.tape,hb.output.trans h.output,aZ h.size hb.size,fun g hg hne=>(hb.block g hg).trans (h.frame g hg hne),(hb.block nc hn).trans h.flag⟩
theorem _root_.Go.Sm.jL.after (hb:Below w.heap.size w w1) (h:jL w1 nc e b w2):jL w nc e b w2 :=
 ⟨h.os.trans hb.os,h.tape.trans hb.tape,h.output.trans hb.output,aZ hb.size h.size,fun g hg hne=>(h.frame g (aC hg hb.size) hne).trans (hb.block g hg),h.flag⟩
theorem iw.flag {W W':World} {b:Nat} {f:Bool} {x y:Value} (h:iw W b x y) (hF:jL W nc e f W') (hne:b≠nc):iw W' b x y:=by
 have e:=hF.frame b h.lt hne
 refine ⟨?_,?_,?_,?_,aC h.lt hF.size⟩
 ·rw [←h.c0]; simp [bS,e]
 ·rw [←h.c1]; simp [bS,e]
 ·rw [←h.f0]; simp [ae2,e]
 ·rw [←h.f1]; simp [ae2,e]
theorem _root_.Go.Sm.jL.set (b:Bool) (h:w.heap[nc]?=some (.cells #[.bool c] e (0,0))):jL w nc e b (w.setCell ⟨nc,0,none⟩ (.bool b)):=by
 refine ⟨rfl,rfl,rfl,by simp [afg],fun g _ hne=>ae0 w ⟨nc,0,none⟩ _ g hne,?_⟩
 show (w.setCell ⟨nc,0,none⟩ (.bool b)).heap[nc]?=_
 have hlt:=(aB.1 h).1
 simp only [afg,Array.getElem?_modify,if_true,h,Option.map_some]
 rfl
theorem AY (nc:Nat) (e:TypeId) (lo hi:Int) (c ok:Bool) (w:World) (hw:w.heap[nc]?=some (.cells #[.bool c] e (0,0))) :
  Calls aa 89 #[.pointer (some ⟨nc,0,none⟩),.agg #[num lo,num hi],.bool ok] w fun r w'=>r=.returned (.agg #[num lo,num hi])∧jL w nc e (c||!ok) w':=by
 obtain ⟨hc,hf,hlt⟩:=OZ hw
 have HW:=aG hw
 clear hw
 have hs:∀b,(w.setCell ⟨nc,0,none⟩ (.bool b)).heap.size=w.heap.size:=fun b=>by simp [afg]
 unfold num
 cases c
 ·go_enter Tryz.func89,Tryz.ntmps89
  go_wp2
  exact bodyPost_ret (v:=.agg #[.int .i64 lo,.int .i64 hi]) (by simp [results,Tryz.results89,go_sem,hs]) rfl ⟨rfl,by simpa using jL.low (jL.set (!ok) HW.out) hlt (((aI _ _).alloc (by rw [hs]; exact au _) _).alloc (by simp [hs]) _)⟩
 ·go_enter Tryz.func89,Tryz.ntmps89
  go_wp2
  exact bodyPost_ret (v:=.agg #[.int .i64 lo,.int .i64 hi]) (by simp [results,Tryz.results89,go_sem,hs]) rfl ⟨rfl,by simpa using jL.low (jL.set true HW.out) hlt (((aI _ _).alloc (by rw [hs]; exact au _) _).alloc (by simp [hs]) _)⟩
def ma (a b n:Int):Bool:=decide (-(1152921504606846976/n)≤a)&&decide (b≤1152921504606846976/n)
def DD (a b n:Int):Int:=bif ma a b n then bg.wrap (a*n) else 0
def DC (a b n:Int):Int:=bif ma a b n then bg.wrap (b*n) else 0
theorem BL (nc:Nat) (e:TypeId) (a b n:Int) (c:Bool) (w:World) (hw:w.heap[nc]?=some (.cells #[.bool c] e (0,0))) (h1:1≤n) (h2:n≤1000000000) :
  Calls aa 79 #[.pointer (some ⟨nc,0,none⟩),.agg #[num a,num b],num n] w fun r w'=>r=.returned (.agg #[num (DD a b n),num (DC a b n)])∧jL w nc e (c||!ma a b n) w':=by
 have HW:=aG hw
 obtain ⟨hc,hf,hlt⟩:=OZ hw
 clear hw
 unfold num
 have q0:=Int.ediv_nonneg (a:=1152921504606846976) (b:=n) (by omega) (by omega)
 have q1:=Int.ediv_le_self (a:=1152921504606846976) n (by omega)
 have hq:bg.wrap (dC 1152921504606846976 n)=1152921504606846976/n:=by
  have e1:dC 1152921504606846976 n=1152921504606846976/n:=Int.tdiv_eq_ediv_of_nonneg (by omega)
  rw [e1,dz _ ⟨by omega,by omega⟩]
 have hn0:n≠0:=by omega
 have hok:ma a b n=(decide (-(1152921504606846976/n)≤a)&&decide (b≤1152921504606846976/n)):=rfl
 have hlo:DD a b n=bif ma a b n then bg.wrap (a*n) else 0:=rfl
 have hhi:DC a b n=bif ma a b n then bg.wrap (b*n) else 0:=rfl
 generalize ma a b n=k at hok hlo hhi ⊢
 generalize DD a b n=x at hlo ⊢
 generalize DC a b n=y at hhi ⊢
 generalize 1152921504606846976/n=q at hq q0 q1 hok
 have hng:bg.wrap (-q)=-q:=dz _ ⟨by omega,by omega⟩
 have HK:=aG hok
 have HX:=aG hlo
 have HY:=aG hhi
 clear hok hlo hhi
 have fin:∀W,k=false→(∃W0,jL w nc e true W0∧Below w.heap.size W0 W)→jL w nc e (c||!k) W:=fun W hk ⟨W0,h0,h1⟩=>by
  subst hk
  have:jL w nc e (c||!false) W0:=by simpa using h0
  exact this.low hlt h1
 by_cases hb:k=true
 ·subst hb
  have hk:=HK.out
  simp only [Bool.true_eq,aQ,decide_eq_true_eq] at hk
  obtain ⟨k1,k2⟩:=hk
  have d1:decide (a< -q)=false:=decide_eq_false (by omega)
  have d2:decide (q<b)=false:=decide_eq_false (by omega)
  have ex:=HX.out
  have ey:=HY.out
  simp only [cond_true] at ex ey
  subst ex ey
  go_enter Tryz.func79,Tryz.ntmps79
  go_wp2_with fail
  exact bodyPost_ret (v:=.agg #[.int .i64 (bg.wrap (a*n)),.int .i64 (bg.wrap (b*n))]) (by simp [results,Tryz.results79,go_sem]; exact ⟨(IntWalk.i64_left _).symm,(IntWalk.i64_left _).symm⟩) rfl ⟨rfl,by
   refine jL.low (w1:=w) ⟨rfl,rfl,rfl,au _,fun _ _ _=>rfl,by simpa using HW.out⟩ hlt (((aI _ _).alloc (au _) _).alloc (by simp) _)⟩
 ·have hbf:k=false:=by simpa using hb
  have ex:=HX.out
  have ey:=HY.out
  rw [hbf] at ex ey
  simp only [cond_false] at ex ey
  subst ex ey
  have hk:=HK.out
  rw [hbf] at hk
  have hd:a< -q∨(-q≤a∧q<b):=by
   by_cases h:a< -q
   ·exact .inl h
   ·refine .inr ⟨by omega,?_⟩
    by_cases h':q<b
    ·exact h'
    ·have:(decide (-q≤a)&&decide (b≤q))=true:=by simp; omega
     rw [this] at hk; cases hk
  have WB:Below w.heap.size w ((w.alloc (.cells #[.int .i64 a,.int .i64 b] 23)).alloc (.cells #[.int .i64 0,.int .i64 0] 23)):=((aI _ _).alloc (au _) _).alloc (by simp) _
  have hw1:((w.alloc (.cells #[.int .i64 a,.int .i64 b] 23)).alloc (.cells #[.int .i64 0,.int .i64 0] 23)).heap[nc]?=some (.cells #[.bool c] e (0,0)):=(WB.block nc hlt).trans HW.out
  have r6:iw ((w.alloc (.cells #[.int .i64 a,.int .i64 b] 23)).alloc (.cells #[.int .i64 0,.int .i64 0] 23)) (w.heap.size+1) (.int .i64 0) (.int .i64 0):=⟨by simp [go_sem],by simp [go_sem],by simp [go_sem],by simp [go_sem],by simp⟩
  have HWB:=aG WB
  have HW1:=aG hw1
  clear WB hw1 HK hk hb
  rcases hd with hd | ⟨hd1,hd2⟩
  ·have d1:decide (a< -q)=true:=decide_eq_true hd
   go_enter Tryz.func79,Tryz.ntmps79
   go_wp2_with fail
   refine (AY nc e 0 0 c false _ HW1.out).mono ?_
   rintro r w1 ⟨rfl,hF⟩
   have r61:=r6.flag hF (by omega)
   have hF2:=aG (jL.after HWB.out hF)
   have n6:w.heap.size≤w.heap.size+1:=by omega
   clear hF r6 HW1 HWB
   generalize w.heap.size+1=m6 at r61 n6 ⊢
   have k0:=r61.c0; have k1:=r61.c1; have k2:=r61.f0; have k3:=r61.f1; have k4:=r61.lt
   unfold num
   go_wp2
   refine bodyPost_ret (v:=.agg #[.int .i64 0,.int .i64 0]) (by simp [results,Tryz.results79,go_sem,k0,k1]) rfl ⟨rfl,?_⟩
   rw [hbf]
   exact hF2.out.low hlt (((aI _ _).setCell (p:=⟨m6,0,none⟩) n6 _).setCell (p:=⟨m6,1,none⟩) n6 _)
  ·have d1:decide (a< -q)=false:=decide_eq_false (by omega)
   have d2:decide (q<b)=true:=decide_eq_true hd2
   go_enter Tryz.func79,Tryz.ntmps79
   go_wp2_with fail
   refine (AY nc e 0 0 c false _ HW1.out).mono ?_
   rintro r w1 ⟨rfl,hF⟩
   have r61:=r6.flag hF (by omega)
   have hF2:=aG (jL.after HWB.out hF)
   have n6:w.heap.size≤w.heap.size+1:=by omega
   clear hF r6 HW1 HWB
   generalize w.heap.size+1=m6 at r61 n6 ⊢
   have k0:=r61.c0; have k1:=r61.c1; have k2:=r61.f0; have k3:=r61.f1; have k4:=r61.lt
   unfold num
   go_wp2
   refine bodyPost_ret (v:=.agg #[.int .i64 0,.int .i64 0]) (by simp [results,Tryz.results79,go_sem,k0,k1]) rfl ⟨rfl,?_⟩
   rw [hbf]
   exact hF2.out.low hlt (((aI _ _).setCell (p:=⟨m6,0,none⟩) n6 _).setCell (p:=⟨m6,1,none⟩) n6 _)
end Go.Proofs.En
end
section
namespace Go.Proofs
open Go.Sm Go.RowKit
def Iu (l:List Int) (b:Bool):Env:=⟨fun i=>l.getD i 0,fun _=>b,FN,FB,fun _=>(none,0,0),fun _=>none,[],none⟩
def mK (l:List Int) (b:Bool):Go.Sm.Xt:=⟨Tryz.xt,Iu l b,[],[23],[],[],[],[]⟩
theorem BV (l:List Int) (b:Bool):Go.Sm.kD aa (mK l b):=⟨CK,ed _,Cy _ _ _⟩
theorem aaW (L:List Int) (b:Bool):∀e∈vP,fo aa (Iu L b) e:=fun e h=>Cw (E:=eO []) (E':=Iu L b) rfl rfl (FE [] e h)
def mU (l:List Int) (b:Bool):ig:=ym 89 (vZ (mK l b) vP)
theorem Bj (l:List Int) (b:Bool):iY aa (mK l b).env (mU l b):=ES En.AY (BH (ed _) _ (aaW l b))
theorem Bl (l:List Int) (b:Bool):jc (mU l b):=ET (BI _ _)
def Aq (r:Option (Value×Hp×List Nat)):Hp:=match r with
 | some (_,_::H,_)=>H
 | _=>[]
def Ar (r:Option (Value×Hp×List Nat)):List Nat:=match r with
 | some (_,_,m)=>m
 | _=>[]
def MS (a0 a1 a2 a3:Int):Int:=(mq a0 a1 a2 a3)
def MU (a0 a1 a2 a3:Int):Int:=(mD a0 a1 a2 a3)
def wI (f:Bool) (a0 a1 a2 a3:Int):Bool:=(f||(!(oo a0 a1 a2 a3)))
theorem MW (nc:Nat) (f:Bool) (a0 a1 a2 a3:Int) (w:World) (hw:w.heap[nc]?=some (.cells #[.bool f] 88 (0,0))) :
  Calls aa 78 #[.pointer (some ⟨nc,0,none⟩),.agg #[num a0,num a1],.agg #[num a2,num a3]] w fun r w'=>r=.returned (.agg #[num (MS a0 a1 a2 a3),num (MU a0 a1 a2 a3)])∧jL w nc 88 (wI f a0 a1 a2 a3) w' :=
 BJ (X:=mK [a0,a1,a2,a3] f) Tryz.mixed Tryz.ky (BV _ _) (esc:=Tryz.esc) (fuel:=200) (n:=12) (S:=mU [a0,a1,a2,a3] f) (Bj _ _) (Bl _ _) (f:=78) (xs:=[.pointer (some ⟨0,0,none⟩),.agg ⟨[var 0,var 1]⟩,.agg ⟨[var 2,var 3]⟩]) (v:=.agg ⟨[mI 1243 [var 0,var 1,var 2,var 3],mI 1244 [var 0,var 1,var 2,var 3]]⟩) (c0:=mB 1 [.int .i64 0]) (c1:=mB 27 [mB 1 [.int .i64 (0)],mB 26 [mB 1245 [var 0,var 1,var 2,var 3]]]) (e:=88) (H':=Aq (kQ aa (mK [a0,a1,a2,a3] f) Tryz.esc 200 (mU [a0,a1,a2,a3] f) 12 78 [.pointer (some ⟨0,0,none⟩),.agg ⟨[var 0,var 1]⟩,.agg ⟨[var 2,var 3]⟩] [⟨[mB 1 [.int .i64 0]],88,0,false,true⟩])) (md:=Ar (kQ aa (mK [a0,a1,a2,a3] f) Tryz.esc 200 (mU [a0,a1,a2,a3] f) 12 78 [.pointer (some ⟨0,0,none⟩),.agg ⟨[var 0,var 1]⟩,.agg ⟨[var 2,var 3]⟩] [⟨[mB 1 [.int .i64 0]],88,0,false,true⟩])) (by kernel_rfl) nc (by kernel_rfl) (by kernel_rfl) (by kernel_rfl) (by kernel_rfl) w hw
def Nc (a0 a1 a2 a3:Int):Int:=(iA a0 a1 a2 a3)
def Nf (a0 a1 a2 a3:Int):Int:=(iB a0 a1 a2 a3)
def Co (f:Bool) (a0 a1 a2 a3:Int):Bool:=(f||(!(pV a0 a1 a2 a3)))
theorem Ei (nc:Nat) (f:Bool) (a0 a1 a2 a3:Int) (w:World) (hw:w.heap[nc]?=some (.cells #[.bool f] 88 (0,0))) :
  Calls aa 53 #[.pointer (some ⟨nc,0,none⟩),.agg #[num a0,num a1],.agg #[num a2,num a3]] w fun r w'=>r=.returned (.agg #[num (Nc a0 a1 a2 a3),num (Nf a0 a1 a2 a3)])∧jL w nc 88 (Co f a0 a1 a2 a3) w' :=
 BJ (X:=mK [a0,a1,a2,a3] f) Tryz.mixed Tryz.ky (BV _ _) (esc:=Tryz.esc) (fuel:=200) (n:=12) (S:=mU [a0,a1,a2,a3] f) (Bj _ _) (Bl _ _) (f:=53) (xs:=[.pointer (some ⟨0,0,none⟩),.agg ⟨[var 0,var 1]⟩,.agg ⟨[var 2,var 3]⟩]) (v:=.agg ⟨[mI 1246 [var 0,var 1,var 2,var 3],mI 1247 [var 0,var 1,var 2,var 3]]⟩) (c0:=mB 1 [.int .i64 0]) (c1:=mB 27 [mB 1 [.int .i64 (0)],mB 26 [mB 1248 [var 0,var 1,var 2,var 3]]]) (e:=88) (H':=Aq (kQ aa (mK [a0,a1,a2,a3] f) Tryz.esc 200 (mU [a0,a1,a2,a3] f) 12 53 [.pointer (some ⟨0,0,none⟩),.agg ⟨[var 0,var 1]⟩,.agg ⟨[var 2,var 3]⟩] [⟨[mB 1 [.int .i64 0]],88,0,false,true⟩])) (md:=Ar (kQ aa (mK [a0,a1,a2,a3] f) Tryz.esc 200 (mU [a0,a1,a2,a3] f) 12 53 [.pointer (some ⟨0,0,none⟩),.agg ⟨[var 0,var 1]⟩,.agg ⟨[var 2,var 3]⟩] [⟨[mB 1 [.int .i64 0]],88,0,false,true⟩])) (by kernel_rfl) nc (by kernel_rfl) (by kernel_rfl) (by kernel_rfl) (by kernel_rfl) w hw
def U4 (a0 a1 a2 a3 a4 a5 a6 a7 a8 a9 a10 a11:Int):Int:=(mq a0 a1 a6 a7)
def U5 (a0 a1 a2 a3 a4 a5 a6 a7 a8 a9 a10 a11:Int):Int:=(mD a0 a1 a6 a7)
def U6 (a0 a1 a2 a3 a4 a5 a6 a7 a8 a9 a10 a11:Int):Int:=(mq a2 a3 a8 a9)
def U7 (a0 a1 a2 a3 a4 a5 a6 a7 a8 a9 a10 a11:Int):Int:=(mD a2 a3 a8 a9)
def U8 (a0 a1 a2 a3 a4 a5 a6 a7 a8 a9 a10 a11:Int):Int:=(mq a4 a5 a10 a11)
def U9 (a0 a1 a2 a3 a4 a5 a6 a7 a8 a9 a10 a11:Int):Int:=(mD a4 a5 a10 a11)
def DJ (f:Bool) (a0 a1 a2 a3 a4 a5 a6 a7 a8 a9 a10 a11:Int):Bool:=(((f||(!(oo a0 a1 a6 a7)))||(!(oo a2 a3 a8 a9)))||(!(oo a4 a5 a10 a11)))
theorem GY (nc:Nat) (f:Bool) (a0 a1 a2 a3 a4 a5 a6 a7 a8 a9 a10 a11:Int) (w:World) (hw:w.heap[nc]?=some (.cells #[.bool f] 88 (0,0))) :
  Calls aa 76 #[.agg #[.pointer (some ⟨nc,0,none⟩),num a0,num a1,num a2,num a3,num a4,num a5],.agg #[.pointer (some ⟨nc,0,none⟩),num a6,num a7,num a8,num a9,num a10,num a11]] w fun r w'=>r=.returned (.agg #[.pointer (some ⟨nc,0,none⟩),num (U4 a0 a1 a2 a3 a4 a5 a6 a7 a8 a9 a10 a11),num (U5 a0 a1 a2 a3 a4 a5 a6 a7 a8 a9 a10 a11),num (U6 a0 a1 a2 a3 a4 a5 a6 a7 a8 a9 a10 a11),num (U7 a0 a1 a2 a3 a4 a5 a6 a7 a8 a9 a10 a11),num (U8 a0 a1 a2 a3 a4 a5 a6 a7 a8 a9 a10 a11),num (U9 a0 a1 a2 a3 a4 a5 a6 a7 a8 a9 a10 a11)])∧jL w nc 88 (DJ f a0 a1 a2 a3 a4 a5 a6 a7 a8 a9 a10 a11) w' :=
 BJ (X:=mK [a0,a1,a2,a3,a4,a5,a6,a7,a8,a9,a10,a11] f) Tryz.mixed Tryz.ky (BV _ _) (esc:=Tryz.esc) (fuel:=200) (n:=12) (S:=mU [a0,a1,a2,a3,a4,a5,a6,a7,a8,a9,a10,a11] f) (Bj _ _) (Bl _ _) (f:=76) (xs:=[.agg ⟨[.pointer (some ⟨0,0,none⟩),var 0,var 1,var 2,var 3,var 4,var 5]⟩,.agg ⟨[.pointer (some ⟨0,0,none⟩),var 6,var 7,var 8,var 9,var 10,var 11]⟩]) (v:=.agg ⟨[.pointer (some ⟨0,0,none⟩),mI 1243 [var 0,var 1,var 6,var 7],mI 1244 [var 0,var 1,var 6,var 7],mI 1243 [var 2,var 3,var 8,var 9],mI 1244 [var 2,var 3,var 8,var 9],mI 1243 [var 4,var 5,var 10,var 11],mI 1244 [var 4,var 5,var 10,var 11]]⟩) (c0:=mB 1 [.int .i64 0]) (c1:=mB 27 [mB 27 [mB 27 [mB 1 [.int .i64 (0)],mB 26 [mB 1245 [var 0,var 1,var 6,var 7]]],mB 26 [mB 1245 [var 2,var 3,var 8,var 9]]],mB 26 [mB 1245 [var 4,var 5,var 10,var 11]]]) (e:=88) (H':=Aq (kQ aa (mK [a0,a1,a2,a3,a4,a5,a6,a7,a8,a9,a10,a11] f) Tryz.esc 200 (mU [a0,a1,a2,a3,a4,a5,a6,a7,a8,a9,a10,a11] f) 12 76 [.agg ⟨[.pointer (some ⟨0,0,none⟩),var 0,var 1,var 2,var 3,var 4,var 5]⟩,.agg ⟨[.pointer (some ⟨0,0,none⟩),var 6,var 7,var 8,var 9,var 10,var 11]⟩] [⟨[mB 1 [.int .i64 0]],88,0,false,true⟩])) (md:=Ar (kQ aa (mK [a0,a1,a2,a3,a4,a5,a6,a7,a8,a9,a10,a11] f) Tryz.esc 200 (mU [a0,a1,a2,a3,a4,a5,a6,a7,a8,a9,a10,a11] f) 12 76 [.agg ⟨[.pointer (some ⟨0,0,none⟩),var 0,var 1,var 2,var 3,var 4,var 5]⟩,.agg ⟨[.pointer (some ⟨0,0,none⟩),var 6,var 7,var 8,var 9,var 10,var 11]⟩] [⟨[mB 1 [.int .i64 0]],88,0,false,true⟩])) (by kernel_rfl) nc (by kernel_rfl) (by kernel_rfl) (by kernel_rfl) (by kernel_rfl) w hw
def aep (a0 a1 a2 a3 a4 a5 a6 a7 a8 a9 a10 a11:Int):Int:=(mq a0 a1 (mE a6 a7) (mF a6 a7))
def aeq (a0 a1 a2 a3 a4 a5 a6 a7 a8 a9 a10 a11:Int):Int:=(mD a0 a1 (mE a6 a7) (mF a6 a7))
def aer (a0 a1 a2 a3 a4 a5 a6 a7 a8 a9 a10 a11:Int):Int:=(mq a2 a3 (mE a8 a9) (mF a8 a9))
def aes (a0 a1 a2 a3 a4 a5 a6 a7 a8 a9 a10 a11:Int):Int:=(mD a2 a3 (mE a8 a9) (mF a8 a9))
def aet (a0 a1 a2 a3 a4 a5 a6 a7 a8 a9 a10 a11:Int):Int:=(mq a4 a5 (mE a10 a11) (mF a10 a11))
def aeu (a0 a1 a2 a3 a4 a5 a6 a7 a8 a9 a10 a11:Int):Int:=(mD a4 a5 (mE a10 a11) (mF a10 a11))
def aev (f:Bool) (a0 a1 a2 a3 a4 a5 a6 a7 a8 a9 a10 a11:Int):Bool:=(((f||(!(oo a0 a1 (mE a6 a7) (mF a6 a7))))||(!(oo a2 a3 (mE a8 a9) (mF a8 a9))))||(!(oo a4 a5 (mE a10 a11) (mF a10 a11))))
def Ve (a0 a1 a2 a3 a4 a5 a6 a7:Int):Int:=(iA a0 a1 a6 a7)
def Vf (a0 a1 a2 a3 a4 a5 a6 a7:Int):Int:=(iB a0 a1 a6 a7)
def Vg (a0 a1 a2 a3 a4 a5 a6 a7:Int):Int:=(iA a2 a3 a6 a7)
def Vh (a0 a1 a2 a3 a4 a5 a6 a7:Int):Int:=(iB a2 a3 a6 a7)
def Vi (a0 a1 a2 a3 a4 a5 a6 a7:Int):Int:=(iA a4 a5 a6 a7)
def Vj (a0 a1 a2 a3 a4 a5 a6 a7:Int):Int:=(iB a4 a5 a6 a7)
def DR (f:Bool) (a0 a1 a2 a3 a4 a5 a6 a7:Int):Bool:=(((f||(!(pV a0 a1 a6 a7)))||(!(pV a2 a3 a6 a7)))||(!(pV a4 a5 a6 a7)))
theorem GZ (nc:Nat) (f:Bool) (a0 a1 a2 a3 a4 a5 a6 a7:Int) (w:World) (hw:w.heap[nc]?=some (.cells #[.bool f] 88 (0,0))) :
  Calls aa 77 #[.agg #[.pointer (some ⟨nc,0,none⟩),num a0,num a1,num a2,num a3,num a4,num a5],.agg #[num a6,num a7]] w fun r w'=>r=.returned (.agg #[.pointer (some ⟨nc,0,none⟩),num (Ve a0 a1 a2 a3 a4 a5 a6 a7),num (Vf a0 a1 a2 a3 a4 a5 a6 a7),num (Vg a0 a1 a2 a3 a4 a5 a6 a7),num (Vh a0 a1 a2 a3 a4 a5 a6 a7),num (Vi a0 a1 a2 a3 a4 a5 a6 a7),num (Vj a0 a1 a2 a3 a4 a5 a6 a7)])∧jL w nc 88 (DR f a0 a1 a2 a3 a4 a5 a6 a7) w' :=
 BJ (X:=mK [a0,a1,a2,a3,a4,a5,a6,a7] f) Tryz.mixed Tryz.ky (BV _ _) (esc:=Tryz.esc) (fuel:=200) (n:=12) (S:=mU [a0,a1,a2,a3,a4,a5,a6,a7] f) (Bj _ _) (Bl _ _) (f:=77) (xs:=[.agg ⟨[.pointer (some ⟨0,0,none⟩),var 0,var 1,var 2,var 3,var 4,var 5]⟩,.agg ⟨[var 6,var 7]⟩]) (v:=.agg ⟨[.pointer (some ⟨0,0,none⟩),mI 1246 [var 0,var 1,var 6,var 7],mI 1247 [var 0,var 1,var 6,var 7],mI 1246 [var 2,var 3,var 6,var 7],mI 1247 [var 2,var 3,var 6,var 7],mI 1246 [var 4,var 5,var 6,var 7],mI 1247 [var 4,var 5,var 6,var 7]]⟩) (c0:=mB 1 [.int .i64 0]) (c1:=mB 27 [mB 27 [mB 27 [mB 1 [.int .i64 (0)],mB 26 [mB 1248 [var 0,var 1,var 6,var 7]]],mB 26 [mB 1248 [var 2,var 3,var 6,var 7]]],mB 26 [mB 1248 [var 4,var 5,var 6,var 7]]]) (e:=88) (H':=Aq (kQ aa (mK [a0,a1,a2,a3,a4,a5,a6,a7] f) Tryz.esc 200 (mU [a0,a1,a2,a3,a4,a5,a6,a7] f) 12 77 [.agg ⟨[.pointer (some ⟨0,0,none⟩),var 0,var 1,var 2,var 3,var 4,var 5]⟩,.agg ⟨[var 6,var 7]⟩] [⟨[mB 1 [.int .i64 0]],88,0,false,true⟩])) (md:=Ar (kQ aa (mK [a0,a1,a2,a3,a4,a5,a6,a7] f) Tryz.esc 200 (mU [a0,a1,a2,a3,a4,a5,a6,a7] f) 12 77 [.agg ⟨[.pointer (some ⟨0,0,none⟩),var 0,var 1,var 2,var 3,var 4,var 5]⟩,.agg ⟨[var 6,var 7]⟩] [⟨[mB 1 [.int .i64 0]],88,0,false,true⟩])) (by kernel_rfl) nc (by kernel_rfl) (by kernel_rfl) (by kernel_rfl) (by kernel_rfl) w hw
def Mf (a0 a1 a2 a3 a4 a5 a6 a7 a8 a9 a10 a11:Int):Int:=(mq (mq (iA a0 a1 a6 a7) (iB a0 a1 a6 a7) (iA a2 a3 a8 a9) (iB a2 a3 a8 a9)) (mD (iA a0 a1 a6 a7) (iB a0 a1 a6 a7) (iA a2 a3 a8 a9) (iB a2 a3 a8 a9)) (iA a4 a5 a10 a11) (iB a4 a5 a10 a11))
def Mg (a0 a1 a2 a3 a4 a5 a6 a7 a8 a9 a10 a11:Int):Int:=(mD (mq (iA a0 a1 a6 a7) (iB a0 a1 a6 a7) (iA a2 a3 a8 a9) (iB a2 a3 a8 a9)) (mD (iA a0 a1 a6 a7) (iB a0 a1 a6 a7) (iA a2 a3 a8 a9) (iB a2 a3 a8 a9)) (iA a4 a5 a10 a11) (iB a4 a5 a10 a11))
def DI (f:Bool) (a0 a1 a2 a3 a4 a5 a6 a7 a8 a9 a10 a11:Int):Bool:=(((((f||(!(pV a0 a1 a6 a7)))||(!(pV a2 a3 a8 a9)))||(!(oo (iA a0 a1 a6 a7) (iB a0 a1 a6 a7) (iA a2 a3 a8 a9) (iB a2 a3 a8 a9))))||(!(pV a4 a5 a10 a11)))||(!(oo (mq (iA a0 a1 a6 a7) (iB a0 a1 a6 a7) (iA a2 a3 a8 a9) (iB a2 a3 a8 a9)) (mD (iA a0 a1 a6 a7) (iB a0 a1 a6 a7) (iA a2 a3 a8 a9) (iB a2 a3 a8 a9)) (iA a4 a5 a10 a11) (iB a4 a5 a10 a11))))
theorem BQ (nc:Nat) (f:Bool) (a0 a1 a2 a3 a4 a5 a6 a7 a8 a9 a10 a11:Int) (w:World) (hw:w.heap[nc]?=some (.cells #[.bool f] 88 (0,0))) :
  Calls aa 80 #[.agg #[.pointer (some ⟨nc,0,none⟩),num a0,num a1,num a2,num a3,num a4,num a5],.agg #[.pointer (some ⟨nc,0,none⟩),num a6,num a7,num a8,num a9,num a10,num a11]] w fun r w'=>r=.returned (.agg #[num (Mf a0 a1 a2 a3 a4 a5 a6 a7 a8 a9 a10 a11),num (Mg a0 a1 a2 a3 a4 a5 a6 a7 a8 a9 a10 a11)])∧jL w nc 88 (DI f a0 a1 a2 a3 a4 a5 a6 a7 a8 a9 a10 a11) w' :=
 BJ (X:=mK [a0,a1,a2,a3,a4,a5,a6,a7,a8,a9,a10,a11] f) Tryz.mixed Tryz.ky (BV _ _) (esc:=Tryz.esc) (fuel:=200) (n:=12) (S:=mU [a0,a1,a2,a3,a4,a5,a6,a7,a8,a9,a10,a11] f) (Bj _ _) (Bl _ _) (f:=80) (xs:=[.agg ⟨[.pointer (some ⟨0,0,none⟩),var 0,var 1,var 2,var 3,var 4,var 5]⟩,.agg ⟨[.pointer (some ⟨0,0,none⟩),var 6,var 7,var 8,var 9,var 10,var 11]⟩]) (v:=.agg ⟨[mI 1243 [mI 1243 [mI 1246 [var 0,var 1,var 6,var 7],mI 1247 [var 0,var 1,var 6,var 7],mI 1246 [var 2,var 3,var 8,var 9],mI 1247 [var 2,var 3,var 8,var 9]],mI 1244 [mI 1246 [var 0,var 1,var 6,var 7],mI 1247 [var 0,var 1,var 6,var 7],mI 1246 [var 2,var 3,var 8,var 9],mI 1247 [var 2,var 3,var 8,var 9]],mI 1246 [var 4,var 5,var 10,var 11],mI 1247 [var 4,var 5,var 10,var 11]],mI 1244 [mI 1243 [mI 1246 [var 0,var 1,var 6,var 7],mI 1247 [var 0,var 1,var 6,var 7],mI 1246 [var 2,var 3,var 8,var 9],mI 1247 [var 2,var 3,var 8,var 9]],mI 1244 [mI 1246 [var 0,var 1,var 6,var 7],mI 1247 [var 0,var 1,var 6,var 7],mI 1246 [var 2,var 3,var 8,var 9],mI 1247 [var 2,var 3,var 8,var 9]],mI 1246 [var 4,var 5,var 10,var 11],mI 1247 [var 4,var 5,var 10,var 11]]]⟩) (c0:=mB 1 [.int .i64 0]) (c1:=mB 27 [mB 27 [mB 27 [mB 27 [mB 27 [mB 1 [.int .i64 (0)],mB 26 [mB 1248 [var 0,var 1,var 6,var 7]]],mB 26 [mB 1248 [var 2,var 3,var 8,var 9]]],mB 26 [mB 1245 [mI 1246 [var 0,var 1,var 6,var 7],mI 1247 [var 0,var 1,var 6,var 7],mI 1246 [var 2,var 3,var 8,var 9],mI 1247 [var 2,var 3,var 8,var 9]]]],mB 26 [mB 1248 [var 4,var 5,var 10,var 11]]],mB 26 [mB 1245 [mI 1243 [mI 1246 [var 0,var 1,var 6,var 7],mI 1247 [var 0,var 1,var 6,var 7],mI 1246 [var 2,var 3,var 8,var 9],mI 1247 [var 2,var 3,var 8,var 9]],mI 1244 [mI 1246 [var 0,var 1,var 6,var 7],mI 1247 [var 0,var 1,var 6,var 7],mI 1246 [var 2,var 3,var 8,var 9],mI 1247 [var 2,var 3,var 8,var 9]],mI 1246 [var 4,var 5,var 10,var 11],mI 1247 [var 4,var 5,var 10,var 11]]]]) (e:=88) (H':=Aq (kQ aa (mK [a0,a1,a2,a3,a4,a5,a6,a7,a8,a9,a10,a11] f) Tryz.esc 200 (mU [a0,a1,a2,a3,a4,a5,a6,a7,a8,a9,a10,a11] f) 12 80 [.agg ⟨[.pointer (some ⟨0,0,none⟩),var 0,var 1,var 2,var 3,var 4,var 5]⟩,.agg ⟨[.pointer (some ⟨0,0,none⟩),var 6,var 7,var 8,var 9,var 10,var 11]⟩] [⟨[mB 1 [.int .i64 0]],88,0,false,true⟩])) (md:=Ar (kQ aa (mK [a0,a1,a2,a3,a4,a5,a6,a7,a8,a9,a10,a11] f) Tryz.esc 200 (mU [a0,a1,a2,a3,a4,a5,a6,a7,a8,a9,a10,a11] f) 12 80 [.agg ⟨[.pointer (some ⟨0,0,none⟩),var 0,var 1,var 2,var 3,var 4,var 5]⟩,.agg ⟨[.pointer (some ⟨0,0,none⟩),var 6,var 7,var 8,var 9,var 10,var 11]⟩] [⟨[mB 1 [.int .i64 0]],88,0,false,true⟩])) (by kernel_rfl) nc (by kernel_rfl) (by kernel_rfl) (by kernel_rfl) (by kernel_rfl) w hw
def UT (a0 a1 a2 a3 a4 a5 a6 a7 a8 a9 a10 a11:Int):Int:=(mq (iA a2 a3 a10 a11) (iB a2 a3 a10 a11) (mE (iA a4 a5 a8 a9) (iB a4 a5 a8 a9)) (mF (iA a4 a5 a8 a9) (iB a4 a5 a8 a9)))
def UU (a0 a1 a2 a3 a4 a5 a6 a7 a8 a9 a10 a11:Int):Int:=(mD (iA a2 a3 a10 a11) (iB a2 a3 a10 a11) (mE (iA a4 a5 a8 a9) (iB a4 a5 a8 a9)) (mF (iA a4 a5 a8 a9) (iB a4 a5 a8 a9)))
def UW (a0 a1 a2 a3 a4 a5 a6 a7 a8 a9 a10 a11:Int):Int:=(mq (iA a4 a5 a6 a7) (iB a4 a5 a6 a7) (mE (iA a0 a1 a10 a11) (iB a0 a1 a10 a11)) (mF (iA a0 a1 a10 a11) (iB a0 a1 a10 a11)))
def UX (a0 a1 a2 a3 a4 a5 a6 a7 a8 a9 a10 a11:Int):Int:=(mD (iA a4 a5 a6 a7) (iB a4 a5 a6 a7) (mE (iA a0 a1 a10 a11) (iB a0 a1 a10 a11)) (mF (iA a0 a1 a10 a11) (iB a0 a1 a10 a11)))
def UY (a0 a1 a2 a3 a4 a5 a6 a7 a8 a9 a10 a11:Int):Int:=(mq (iA a0 a1 a8 a9) (iB a0 a1 a8 a9) (mE (iA a2 a3 a6 a7) (iB a2 a3 a6 a7)) (mF (iA a2 a3 a6 a7) (iB a2 a3 a6 a7)))
def UZ (a0 a1 a2 a3 a4 a5 a6 a7 a8 a9 a10 a11:Int):Int:=(mD (iA a0 a1 a8 a9) (iB a0 a1 a8 a9) (mE (iA a2 a3 a6 a7) (iB a2 a3 a6 a7)) (mF (iA a2 a3 a6 a7) (iB a2 a3 a6 a7)))
def BP (f:Bool) (a0 a1 a2 a3 a4 a5 a6 a7 a8 a9 a10 a11:Int):Bool:=(((((((((f||(!(pV a2 a3 a10 a11)))||(!(pV a4 a5 a8 a9)))||(!(oo (iA a2 a3 a10 a11) (iB a2 a3 a10 a11) (mE (iA a4 a5 a8 a9) (iB a4 a5 a8 a9)) (mF (iA a4 a5 a8 a9) (iB a4 a5 a8 a9)))))||(!(pV a4 a5 a6 a7)))||(!(pV a0 a1 a10 a11)))||(!(oo (iA a4 a5 a6 a7) (iB a4 a5 a6 a7) (mE (iA a0 a1 a10 a11) (iB a0 a1 a10 a11)) (mF (iA a0 a1 a10 a11) (iB a0 a1 a10 a11)))))||(!(pV a0 a1 a8 a9)))||(!(pV a2 a3 a6 a7)))||(!(oo (iA a0 a1 a8 a9) (iB a0 a1 a8 a9) (mE (iA a2 a3 a6 a7) (iB a2 a3 a6 a7)) (mF (iA a2 a3 a6 a7) (iB a2 a3 a6 a7)))))
theorem U0 (nc:Nat) (f:Bool) (a0 a1 a2 a3 a4 a5 a6 a7 a8 a9 a10 a11:Int) (w:World) (hw:w.heap[nc]?=some (.cells #[.bool f] 88 (0,0))) :
  Calls aa 74 #[.agg #[.pointer (some ⟨nc,0,none⟩),num a0,num a1,num a2,num a3,num a4,num a5],.agg #[.pointer (some ⟨nc,0,none⟩),num a6,num a7,num a8,num a9,num a10,num a11]] w fun r w'=>r=.returned (.agg #[.pointer (some ⟨nc,0,none⟩),num (UT a0 a1 a2 a3 a4 a5 a6 a7 a8 a9 a10 a11),num (UU a0 a1 a2 a3 a4 a5 a6 a7 a8 a9 a10 a11),num (UW a0 a1 a2 a3 a4 a5 a6 a7 a8 a9 a10 a11),num (UX a0 a1 a2 a3 a4 a5 a6 a7 a8 a9 a10 a11),num (UY a0 a1 a2 a3 a4 a5 a6 a7 a8 a9 a10 a11),num (UZ a0 a1 a2 a3 a4 a5 a6 a7 a8 a9 a10 a11)])∧jL w nc 88 (BP f a0 a1 a2 a3 a4 a5 a6 a7 a8 a9 a10 a11) w' :=
 BJ (X:=mK [a0,a1,a2,a3,a4,a5,a6,a7,a8,a9,a10,a11] f) Tryz.mixed Tryz.ky (BV _ _) (esc:=Tryz.esc) (fuel:=200) (n:=12) (S:=mU [a0,a1,a2,a3,a4,a5,a6,a7,a8,a9,a10,a11] f) (Bj _ _) (Bl _ _) (f:=74) (xs:=[.agg ⟨[.pointer (some ⟨0,0,none⟩),var 0,var 1,var 2,var 3,var 4,var 5]⟩,.agg ⟨[.pointer (some ⟨0,0,none⟩),var 6,var 7,var 8,var 9,var 10,var 11]⟩]) (v:=.agg ⟨[.pointer (some ⟨0,0,none⟩),mI 1243 [mI 1246 [var 2,var 3,var 10,var 11],mI 1247 [var 2,var 3,var 10,var 11],mI 1238 [mI 1246 [var 4,var 5,var 8,var 9],mI 1247 [var 4,var 5,var 8,var 9]],mI 1239 [mI 1246 [var 4,var 5,var 8,var 9],mI 1247 [var 4,var 5,var 8,var 9]]],mI 1244 [mI 1246 [var 2,var 3,var 10,var 11],mI 1247 [var 2,var 3,var 10,var 11],mI 1238 [mI 1246 [var 4,var 5,var 8,var 9],mI 1247 [var 4,var 5,var 8,var 9]],mI 1239 [mI 1246 [var 4,var 5,var 8,var 9],mI 1247 [var 4,var 5,var 8,var 9]]],mI 1243 [mI 1246 [var 4,var 5,var 6,var 7],mI 1247 [var 4,var 5,var 6,var 7],mI 1238 [mI 1246 [var 0,var 1,var 10,var 11],mI 1247 [var 0,var 1,var 10,var 11]],mI 1239 [mI 1246 [var 0,var 1,var 10,var 11],mI 1247 [var 0,var 1,var 10,var 11]]],mI 1244 [mI 1246 [var 4,var 5,var 6,var 7],mI 1247 [var 4,var 5,var 6,var 7],mI 1238 [mI 1246 [var 0,var 1,var 10,var 11],mI 1247 [var 0,var 1,var 10,var 11]],mI 1239 [mI 1246 [var 0,var 1,var 10,var 11],mI 1247 [var 0,var 1,var 10,var 11]]],mI 1243 [mI 1246 [var 0,var 1,var 8,var 9],mI 1247 [var 0,var 1,var 8,var 9],mI 1238 [mI 1246 [var 2,var 3,var 6,var 7],mI 1247 [var 2,var 3,var 6,var 7]],mI 1239 [mI 1246 [var 2,var 3,var 6,var 7],mI 1247 [var 2,var 3,var 6,var 7]]],mI 1244 [mI 1246 [var 0,var 1,var 8,var 9],mI 1247 [var 0,var 1,var 8,var 9],mI 1238 [mI 1246 [var 2,var 3,var 6,var 7],mI 1247 [var 2,var 3,var 6,var 7]],mI 1239 [mI 1246 [var 2,var 3,var 6,var 7],mI 1247 [var 2,var 3,var 6,var 7]]]]⟩) (c0:=mB 1 [.int .i64 0]) (c1:=mB 27 [mB 27 [mB 27 [mB 27 [mB 27 [mB 27 [mB 27 [mB 27 [mB 27 [mB 1 [.int .i64 (0)],mB 26 [mB 1248 [var 2,var 3,var 10,var 11]]],mB 26 [mB 1248 [var 4,var 5,var 8,var 9]]],mB 26 [mB 1245 [mI 1246 [var 2,var 3,var 10,var 11],mI 1247 [var 2,var 3,var 10,var 11],mI 1238 [mI 1246 [var 4,var 5,var 8,var 9],mI 1247 [var 4,var 5,var 8,var 9]],mI 1239 [mI 1246 [var 4,var 5,var 8,var 9],mI 1247 [var 4,var 5,var 8,var 9]]]]],mB 26 [mB 1248 [var 4,var 5,var 6,var 7]]],mB 26 [mB 1248 [var 0,var 1,var 10,var 11]]],mB 26 [mB 1245 [mI 1246 [var 4,var 5,var 6,var 7],mI 1247 [var 4,var 5,var 6,var 7],mI 1238 [mI 1246 [var 0,var 1,var 10,var 11],mI 1247 [var 0,var 1,var 10,var 11]],mI 1239 [mI 1246 [var 0,var 1,var 10,var 11],mI 1247 [var 0,var 1,var 10,var 11]]]]],mB 26 [mB 1248 [var 0,var 1,var 8,var 9]]],mB 26 [mB 1248 [var 2,var 3,var 6,var 7]]],mB 26 [mB 1245 [mI 1246 [var 0,var 1,var 8,var 9],mI 1247 [var 0,var 1,var 8,var 9],mI 1238 [mI 1246 [var 2,var 3,var 6,var 7],mI 1247 [var 2,var 3,var 6,var 7]],mI 1239 [mI 1246 [var 2,var 3,var 6,var 7],mI 1247 [var 2,var 3,var 6,var 7]]]]]) (e:=88) (H':=Aq (kQ aa (mK [a0,a1,a2,a3,a4,a5,a6,a7,a8,a9,a10,a11] f) Tryz.esc 200 (mU [a0,a1,a2,a3,a4,a5,a6,a7,a8,a9,a10,a11] f) 12 74 [.agg ⟨[.pointer (some ⟨0,0,none⟩),var 0,var 1,var 2,var 3,var 4,var 5]⟩,.agg ⟨[.pointer (some ⟨0,0,none⟩),var 6,var 7,var 8,var 9,var 10,var 11]⟩] [⟨[mB 1 [.int .i64 0]],88,0,false,true⟩])) (md:=Ar (kQ aa (mK [a0,a1,a2,a3,a4,a5,a6,a7,a8,a9,a10,a11] f) Tryz.esc 200 (mU [a0,a1,a2,a3,a4,a5,a6,a7,a8,a9,a10,a11] f) 12 74 [.agg ⟨[.pointer (some ⟨0,0,none⟩),var 0,var 1,var 2,var 3,var 4,var 5]⟩,.agg ⟨[.pointer (some ⟨0,0,none⟩),var 6,var 7,var 8,var 9,var 10,var 11]⟩] [⟨[mB 1 [.int .i64 0]],88,0,false,true⟩])) (by kernel_rfl) nc (by kernel_rfl) (by kernel_rfl) (by kernel_rfl) (by kernel_rfl) w hw
end Go.Proofs
end
