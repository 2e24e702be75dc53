/-
  Part of the proof: see the last text.
-/
import Derived.Deep.QuietTactic
import Derived.BigQuiet
import Derived.Deep.RegionHeld3
import Derived.Deep.DeepCutAuto
import Derived.Test.YthbfmjlcnfgnbaaGreatZEa
set_option linter.unusedVariables false
set_option maxHeartbeats 8000000
open Go.RowKit.Below renaming refl→aI
open Bool renaming and_eq_true→aQ
open Go.Lib renaming hid→aG
open List renaming mem_cons→ag,not_mem_nil→ae
open Nat renaming le_refl→au
open Go.Proofs.Tryz renaming prog→aa
open Go.World renaming setCell→afg
section
namespace Go.Proofs.En
open Go.RowKit
theorem aeQ (lo hi:Int) (w:World) :
  Calls aa 54 #[.agg #[.int .i64 lo,.int .i64 hi]] w fun e w'=>e=.returned (.bool (mX lo hi))∧Below w.heap.size w w':=by
 by_cases h1:-1152921504606846976≤lo
 ·by_cases h2:lo≤hi
  ·by_cases h3:hi≤1152921504606846976
   all_goals
    go_enter Tryz.func54,Tryz.ntmps54
    go_wp2
    go_ret
    exact ⟨qA (by unfold mX; symm; simp; omega),(aI _ _).alloc (au _) _⟩
  ·go_enter Tryz.func54,Tryz.ntmps54
   go_wp2
   go_ret
   exact ⟨qA (by unfold mX; symm; simp; omega),(aI _ _).alloc (au _) _⟩
 ·go_enter Tryz.func54,Tryz.ntmps54
  go_wp2
  go_ret
  exact ⟨qA (by unfold mX; symm; simp; omega),(aI _ _).alloc (au _) _⟩
end Go.Proofs.En
end
section
namespace Go.Proofs.En
open Go.RowKit
structure RW (w:World) (n0 n1 n4 nO:Nat) (a b c d lo hi:Int) (W:World):Prop where
 gW:Below w.heap.size w W
 cA:iw W n0 (.int .i64 a) (.int .i64 b)
 cB:iw W n1 (.int .i64 c) (.int .i64 d)
 c4:iw W n4 (.int .i64 0) (.int .i64 0)
 cO:iw W nO (.int .i64 lo) (.int .i64 hi)
theorem iw.acx {W:World} {b:Nat} {x y:Value} (h:iw W b x y) (y':Value):iw (W.setCell ⟨b,1,none⟩ y') b x y':=by
 have h0:=h.c0; have h1:=h.c1; have h2:=h.f0; have h3:=h.f1
 refine ⟨by simp [go_sem,h0],by simp [go_sem,h1],by simp [go_sem,h2],by simp [go_sem,h3],by have:=h.lt; simp [afg]; exact this⟩
end Go.Proofs.En
end
section
namespace Go.Proofs.En
open Go.RowKit
def mR (l:List Int) (m:Int):Int:=l.foldl (fun m p=>if p<m then p else m) m
def kU (l:List Int) (m:Int):Int:=l.foldl (fun m p=>if m<p then p else m) m
def AP (p:Int):Value:=.int .i64 (p/18446744073709551616)
def J9 (p:Int):Value:=.int .u64 (p % 18446744073709551616)
theorem kT (p q:Int) (w:World) :
  Calls aa 32 #[.agg #[.int .i64 (p/18446744073709551616),.int .u64 (p % 18446744073709551616)],.agg #[.int .i64 (q/18446744073709551616),.int .u64 (q % 18446744073709551616)]] w fun e w'=>e=.returned (.bool (decide (p<q)))∧Below w.heap.size w w':=by
 refine (Y8 _ _ _ _ w).mono ?_
 rintro e w' ⟨rfl,hb⟩
 exact ⟨qA (by rw [Bool.eq_iff_iff]; simp only [decide_eq_true_eq]; omega),hb⟩
structure tO (w:World) (n0 n2 nL nG nS:Nat) (ps:List Int) (lo hi:Int) (W:World):Prop where
 gW:Below n0 w W
 c2:iw W n2 (.int .i64 0) (.int .i64 0)
 cL:iw W nL (AP lo) (J9 lo)
 cG:iw W nG (AP hi) (J9 hi)
 cS:Row W nS (ps.flatMap fun p=>[AP p,J9 p])
theorem PV (B:Int):∀(l:List Int) (m:Int),(-B≤m∧m≤B)→(∀p∈l,-B≤p∧p≤B)→-B≤kU l m∧kU l m≤B
 | [],_,hm,_=>hm
 | p::l,m,hm,hl=>by
  show -B≤kU l (if m<p then p else m)∧kU l (if m<p then p else m)≤B
  refine PV B l _ ?_ fun q hq=>hl q (by simp [hq])
  have:=hl p (by simp)
  split
  ·exact this
  ·exact hm
def mulL (a b c d:Int):Int:=mR [a*d,b*c,b*d] (a*c)
def wS (a b c d:Int):Int:=kU [a*d,b*c,b*d] (a*c)
def zD (a b c d:Int):Bool:=okB (mulL a b c d/65536)&&okB ((wS a b c d+65535)/65536)
def Mt (a b c d:Int) (w:World) (e:Ending) (w':World):Prop:=xC (if zD a b c d then sV (mulL a b c d) else 0) (if zD a b c d then sV (wS a b c d+65535) else 0) (zD a b c d) w e w'
theorem tO.keep {w W W':World} {n0 n2 nL nG nS:Nat} {ps:List Int} {lo hi:Int} (h:tO w n0 n2 nL nG nS ps lo hi W) (hb:Below W.heap.size W W') (hn:n0≤nL):tO w n0 n2 nL nG nS ps lo hi W' :=
 ⟨h.gW.trans (hb.mono (Nat.le_of_lt (Nat.lt_of_le_of_lt hn h.cL.lt))),h.c2.keep hb,h.cL.keep hb,h.cG.keep hb,h.cS.keep hb⟩
variable {w W:World} {n0 n2 nL nG nS:Nat} {ps:List Int} {lo hi:Int}
theorem tO.xk (h:tO w n0 n2 nL nG nS ps lo hi W) (hn:n0≤nL) (h1:n2<nL) (h2:nL<nG) (h3:nG<nS) (p:Int) :
  tO w n0 n2 nL nG nS ps p hi ((W.setCell ⟨nL,0,none⟩ (.int .i64 (p/18446744073709551616))).setCell ⟨nL,1,none⟩ (.int .u64 (p % 18446744073709551616))) :=
 ⟨(h.gW.setCell (p:=⟨nL,0,none⟩) hn _).setCell (p:=⟨nL,1,none⟩) hn _,(h.c2.other (by omega) _ _).other (by omega) _ _,h.cL.put _ _,(h.cG.other (by omega) _ _).other (by omega) _ _,(h.cS.other (by omega) _ _).other (by omega) _ _⟩
theorem tO.xh (h:tO w n0 n2 nL nG nS ps lo hi W) (hn:n0≤nG) (h1:n2<nL) (h2:nL<nG) (h3:nG<nS) (p:Int) :
  tO w n0 n2 nL nG nS ps lo p ((W.setCell ⟨nG,0,none⟩ (.int .i64 (p/18446744073709551616))).setCell ⟨nG,1,none⟩ (.int .u64 (p % 18446744073709551616))) :=
 ⟨(h.gW.setCell (p:=⟨nG,0,none⟩) hn _).setCell (p:=⟨nG,1,none⟩) hn _,(h.c2.other (by omega) _ _).other (by omega) _ _,(h.cL.other (by omega) _ _).other (by omega) _ _,h.cG.put _ _,(h.cS.other (by omega) _ _).other (by omega) _ _⟩
theorem ZL (a b c d:Int) (w:World) (h:mX a b=true) (h':mX c d=true) :
  Calls aa 12 #[.agg #[.int .i64 a,.int .i64 b],.agg #[.int .i64 c,.int .i64 d]] w (Mt a b c d w):=by
 have hs:-1152921504606846976≤a∧a≤b∧b≤1152921504606846976:=by simpa [mX] using h
 have hs':-1152921504606846976≤c∧c≤d∧d≤1152921504606846976:=by simpa [mX] using h'
 obtain ⟨g1,g2,g3⟩:=hs
 obtain ⟨g4,g5,g6⟩:=hs'
 go_enter Tryz.func12,Tryz.ntmps12
 go_wp2_with fail
 refine (Dy _ _ _).mono ?_
 rintro e w1 ⟨rfl,hb⟩
 obtain ⟨hc,hf⟩:=Ck hb
 have z0:w.heap.size<w1.heap.size:=by have:=hb.size; simp at this; omega
 have z1:w.heap.size+1<w1.heap.size:=by have:=hb.size; simp at this; omega
 have z2:w.heap.size+1+1<w1.heap.size:=by have:=hb.size; simp at this; omega
 go_wp2_with fail
 refine (Dy _ _ _).mono ?_
 rintro e w2 ⟨rfl,hb2⟩
 obtain ⟨hc2,hf2⟩:=Ck hb2
 have y0:w.heap.size<w2.heap.size:=by have:=hb2.size; omega
 have y1:w.heap.size+1<w2.heap.size:=by have:=hb2.size; omega
 have y2:w.heap.size+1+1<w2.heap.size:=by have:=hb2.size; omega
 go_wp2_with fail
 refine (PU _ _ _ (by omega) (by omega) (by omega) (by omega)).mono ?_
 rintro e w3 ⟨rfl,hb3⟩
 go_wp2_with fail
 clear hc hf hc2 hf2
 have b0:=((iw.new w (.int .i64 a) (.int .i64 b) 23).al (.cells #[.int .i64 c,.int .i64 d] 23)).al (.cells #[.int .i64 0,.int .i64 0] 23)
 have b1:=(iw.new' (w.alloc (.cells #[.int .i64 a,.int .i64 b] 23)) (w.heap.size+1) (.int .i64 c) (.int .i64 d) 23 (by simp)).al (.cells #[.int .i64 0,.int .i64 0] 23)
 have b2:=iw.new' ((w.alloc (.cells #[.int .i64 a,.int .i64 b] 23)).alloc (.cells #[.int .i64 c,.int .i64 d] 23)) (w.heap.size+1+1) (.int .i64 0) (.int .i64 0) 23 (by simp)
 replace b0:=((b0.keep hb).keep hb2).keep hb3
 replace b1:=((b1.keep hb).keep hb2).keep hb3
 replace b2:=((b2.keep hb).keep hb2).keep hb3
 have hB:Below w.heap.size w w3:=jD (jD (jD (H9 _ _ _ _) hb) hb2) hb3
 have q2:w.heap.size+1+1<w3.heap.size:=by have:=hb3.size; omega
 clear hb hb2 hb3 z0 z1 z2 y0 y1 y2
 have hn:=hB.size
 have k1:Below w3.heap.size w3 ((w3.alloc (.cells #[.int .i64 (a*c/18446744073709551616),.int .u64 (a*c % 18446744073709551616)] 69)).alloc (.cells #[.int .i64 (a*c/18446744073709551616),.int .u64 (a*c % 18446744073709551616)] 69)):=((aI _ _).alloc (au _) _).alloc (by simp) _
 replace b0:=b0.keep k1
 replace b1:=b1.keep k1
 replace b2:=b2.keep k1
 have bL:=(iw.new w3 (.int .i64 (a*c/18446744073709551616)) (.int .u64 (a*c % 18446744073709551616)) 69).al (.cells #[.int .i64 (a*c/18446744073709551616),.int .u64 (a*c % 18446744073709551616)] 69)
 have bG:=iw.new' (w3.alloc (.cells #[.int .i64 (a*c/18446744073709551616),.int .u64 (a*c % 18446744073709551616)] 69)) (w3.heap.size+1) (.int .i64 (a*c/18446744073709551616)) (.int .u64 (a*c % 18446744073709551616)) 69 (by simp)
 replace hB:=jD hB k1
 clear k1
 generalize ((w3.alloc (.cells #[.int .i64 (a*c/18446744073709551616),.int .u64 (a*c % 18446744073709551616)] 69)).alloc (.cells #[.int .i64 (a*c/18446744073709551616),.int .u64 (a*c % 18446744073709551616)] 69))=W at b0 b1 b2 bL bG hB ⊢
 have m2:w.heap.size≤w.heap.size+1+1:=by omega
 have mL:w.heap.size≤w3.heap.size:=hn
 have mG:w.heap.size≤w3.heap.size+1:=by omega
 have d1:w3.heap.size<w3.heap.size+1:=by omega
 generalize w.heap.size+1+1=n2 at b2 m2 q2 ⊢
 generalize w.heap.size+1=n1 at b1 ⊢
 generalize w3.heap.size+1=nG at bG mG d1 ⊢
 generalize w3.heap.size=nL at bL mL d1 q2 ⊢
 generalize hn0:w.heap.size=n0 at b0 hB m2 mL mG ⊢
 have HN:=aG hn0
 clear hn hn0
 have HB:=aG hB
 clear hB
 have c00:=b0.c0; have c01:=b0.c1; have c10:=b1.c0; have c11:=b1.c1
 have l0:=b0.lt; have l1:=b1.lt
 go_region_held3 (fun w'=>w'.cell? ⟨n0,0,none⟩=some (.int .i64 a)∧w'.cell? ⟨n0,1,none⟩=some (.int .i64 b)∧w'.cell? ⟨n1,0,none⟩=some (.int .i64 c)∧w'.cell? ⟨n1,1,none⟩=some (.int .i64 d)∧Below W.heap.size W w')
  (first | exact ⟨c00,c01,c10,c11,(aI _ _).drew⟩ | exact Pt l0 l1 (by assumption) ((aI _ _).alloc (au _) _) | exact Pt l0 l1 (by assumption) (by assumption))
  (first | (go_at_call 31; refine (PU _ _ _ (by omega) (by omega) (by omega) (by omega)).mono ?_; rintro e w' ⟨rfl,hbx⟩))
 rename_i u1 hu1 u2 hu2 hS
 have hBW:=hS.2.2.2.2
 clear hS
 have c2:=b2.keep hBW
 have cL:=bL.keep hBW
 have cG:=bG.keep hBW
 have cS:=Row.new w' [.int .i64 (a*d/18446744073709551616),.int .u64 (a*d % 18446744073709551616),.int .i64 (b*c/18446744073709551616),.int .u64 (b*c % 18446744073709551616),.int .i64 (b*d/18446744073709551616),.int .u64 (b*d % 18446744073709551616)] 69
 have hW:tO w n0 n2 nL nG w'.heap.size [a*d,b*c,b*d] (a*c) (a*c) (w'.alloc (.cells #[.int .i64 (a*d/18446744073709551616),.int .u64 (a*d % 18446744073709551616),.int .i64 (b*c/18446744073709551616),.int .u64 (b*c % 18446744073709551616),.int .i64 (b*d/18446744073709551616),.int .u64 (b*d % 18446744073709551616)] 69)):=⟨HB.out.trans (hBW.mono (HN.out▸HB.out.size)),c2,cL,cG,cS⟩
 have ltS:nG<w'.heap.size:=by
  have g1:W.heap.size≤u1.heap.size:=hu1.size
  have g2:=hu2.size; have g3:=hbx.size; have g4:=bG.lt
  omega
 clear c2 cL cG cS hBW b0 b1 b2 bL bG c00 c01 c10 c11 l0 l1 HB
 generalize (w'.alloc (.cells #[.int .i64 (a*d/18446744073709551616),.int .u64 (a*d % 18446744073709551616),.int .i64 (b*c/18446744073709551616),.int .u64 (b*c % 18446744073709551616),.int .i64 (b*d/18446744073709551616),.int .u64 (b*d % 18446744073709551616)] 69))=WS at hW ⊢
 generalize w'.heap.size=nS at hW ltS ⊢
 clear hbx hu1 hu2
 go_wp2_with fail
 go_loopw [46] (fun i W=>∃k:Nat,k≤3∧i=.int .i64 k∧tO w n0 n2 nL nG nS [a*d,b*c,b*d] (mR ([a*d,b*c,b*d].take k) (a*c)) (kU ([a*d,b*c,b*d].take k) (a*c)) W) (fun i _=>3 - (intOf i).toNat)
 case atStart=>exact ⟨0,by omega,rfl,hW⟩
 case round =>
  obtain ⟨k,hk,rfl,hR⟩:=hrel
  rcases (show k=0∨k=1∨k=2∨k=3 by omega) with rfl | rfl | rfl | rfl
  ·generalize hlo:mR (List.take 0 [a*d,b*c,b*d]) (a*c)=lo at hR
   generalize hhi:kU (List.take 0 [a*d,b*c,b*d]) (a*c)=hi at hR
   have hlo':mR (List.take 1 [a*d,b*c,b*d]) (a*c)=if a*d<lo then a*d else lo:=by rw [←hlo]; rfl
   have hhi':kU (List.take 1 [a*d,b*c,b*d]) (a*c)=if hi<a*d then a*d else hi:=by rw [←hhi]; rfl
   have Hlo:=aG hlo'
   have Hhi:=aG hhi'
   clear hlo hhi hlo' hhi'
   have s0:wr.cell? ⟨nS,0,none⟩=some (.int .i64 (a*d/18446744073709551616)):=hR.cS.c 0 _ rfl
   have s1:wr.cell? ⟨nS,1,none⟩=some (.int .u64 (a*d % 18446744073709551616)):=hR.cS.c 1 _ rfl
   have cl0:wr.cell? ⟨nL,0,none⟩=some (.int .i64 (lo/18446744073709551616)):=hR.cL.c0
   have cl1:wr.cell? ⟨nL,1,none⟩=some (.int .u64 (lo % 18446744073709551616)):=hR.cL.c1
   have ll:=hR.cL.lt
   have lg:=hR.cG.lt
   have ne1:nL≠nG:=by omega
   have ne2:nG≠nL:=by omega
   have ne3:wr.heap.size≠nL:=by omega
   have ne4:nL≠wr.heap.size:=by omega
   have ne5:wr.heap.size≠nG:=by omega
   have ne6:nG≠wr.heap.size:=by omega
   by_cases t1:a*d<lo
   ·by_cases t2:hi<a*d
    ·go_wp2_with fail
     refine (kT _ _ _).mono ?_
     rintro e v1 ⟨rfl,hb1⟩
     have hp:=(iw.new wr (.int .i64 (a*d/18446744073709551616)) (.int .u64 (a*d % 18446744073709551616)) 69).keep hb1
     have hR1:=(hR.keep ((aI _ _).alloc (au _) _) mL).keep hb1 mL
     have p0:=hp.c0
     have p1:=hp.c1
     have g0:v1.cell? ⟨nG,0,none⟩=some (.int .i64 (hi/18446744073709551616)):=hR1.cG.c0
     have g1:v1.cell? ⟨nG,1,none⟩=some (.int .u64 (hi % 18446744073709551616)):=hR1.cG.c1
     have l0:v1.cell? ⟨nL,0,none⟩=some (.int .i64 (lo/18446744073709551616)):=hR1.cL.c0
     have l1:v1.cell? ⟨nL,1,none⟩=some (.int .u64 (lo % 18446744073709551616)):=hR1.cL.c1
     have fl0:=hR1.cL.f0
     have fl1:=hR1.cL.f1
     go_wp2_with fail
     refine (kT _ _ _).mono ?_
     rintro e v2 ⟨rfl,hb2⟩
     have hR2:=(hR1.xk mL q2 d1 ltS (a*d)).keep hb2 mL
     have hp2:=((hp.other ne3 _ _).other ne3 _ _).keep hb2
     have p20:=hp2.c0
     have p21:=hp2.c1
     have g20:v2.cell? ⟨nG,0,none⟩=some (.int .i64 (hi/18446744073709551616)):=hR2.cG.c0
     have g21:v2.cell? ⟨nG,1,none⟩=some (.int .u64 (hi % 18446744073709551616)):=hR2.cG.c1
     have fg0:=hR2.cG.f0
     have fg1:=hR2.cG.f1
     go_wp2
     go_roundw
     case rel =>
      refine ⟨1,by omega,by go_num,?_⟩
      rw [Hlo.out,Hhi.out,if_pos t1,if_pos t2]
      exact hR2.xh mG q2 d1 ltS (a*d)
     case measure=>simp [intOf]
    ·go_wp2_with fail
     refine (kT _ _ _).mono ?_
     rintro e v1 ⟨rfl,hb1⟩
     have hp:=(iw.new wr (.int .i64 (a*d/18446744073709551616)) (.int .u64 (a*d % 18446744073709551616)) 69).keep hb1
     have hR1:=(hR.keep ((aI _ _).alloc (au _) _) mL).keep hb1 mL
     have p0:=hp.c0
     have p1:=hp.c1
     have g0:v1.cell? ⟨nG,0,none⟩=some (.int .i64 (hi/18446744073709551616)):=hR1.cG.c0
     have g1:v1.cell? ⟨nG,1,none⟩=some (.int .u64 (hi % 18446744073709551616)):=hR1.cG.c1
     have l0:v1.cell? ⟨nL,0,none⟩=some (.int .i64 (lo/18446744073709551616)):=hR1.cL.c0
     have l1:v1.cell? ⟨nL,1,none⟩=some (.int .u64 (lo % 18446744073709551616)):=hR1.cL.c1
     have fl0:=hR1.cL.f0
     have fl1:=hR1.cL.f1
     go_wp2_with fail
     refine (kT _ _ _).mono ?_
     rintro e v2 ⟨rfl,hb2⟩
     have hR2:=(hR1.xk mL q2 d1 ltS (a*d)).keep hb2 mL
     have hp2:=((hp.other ne3 _ _).other ne3 _ _).keep hb2
     have p20:=hp2.c0
     have p21:=hp2.c1
     have g20:v2.cell? ⟨nG,0,none⟩=some (.int .i64 (hi/18446744073709551616)):=hR2.cG.c0
     have g21:v2.cell? ⟨nG,1,none⟩=some (.int .u64 (hi % 18446744073709551616)):=hR2.cG.c1
     have fg0:=hR2.cG.f0
     have fg1:=hR2.cG.f1
     go_wp2
     go_roundw
     case rel =>
      refine ⟨1,by omega,by go_num,?_⟩
      rw [Hlo.out,Hhi.out,if_pos t1,if_neg (by omega)]
      exact hR2
     case measure=>simp [intOf]
   ·by_cases t2:hi<a*d
    ·go_wp2_with fail
     refine (kT _ _ _).mono ?_
     rintro e v1 ⟨rfl,hb1⟩
     have hp:=(iw.new wr (.int .i64 (a*d/18446744073709551616)) (.int .u64 (a*d % 18446744073709551616)) 69).keep hb1
     have hR1:=(hR.keep ((aI _ _).alloc (au _) _) mL).keep hb1 mL
     have p0:=hp.c0
     have p1:=hp.c1
     have g0:v1.cell? ⟨nG,0,none⟩=some (.int .i64 (hi/18446744073709551616)):=hR1.cG.c0
     have g1:v1.cell? ⟨nG,1,none⟩=some (.int .u64 (hi % 18446744073709551616)):=hR1.cG.c1
     have l0:v1.cell? ⟨nL,0,none⟩=some (.int .i64 (lo/18446744073709551616)):=hR1.cL.c0
     have l1:v1.cell? ⟨nL,1,none⟩=some (.int .u64 (lo % 18446744073709551616)):=hR1.cL.c1
     have fl0:=hR1.cL.f0
     have fl1:=hR1.cL.f1
     go_wp2_with fail
     refine (kT _ _ _).mono ?_
     rintro e v2 ⟨rfl,hb2⟩
     have hR2:=(hR1).keep hb2 mL
     have hp2:=(hp).keep hb2
     have p20:=hp2.c0
     have p21:=hp2.c1
     have g20:v2.cell? ⟨nG,0,none⟩=some (.int .i64 (hi/18446744073709551616)):=hR2.cG.c0
     have g21:v2.cell? ⟨nG,1,none⟩=some (.int .u64 (hi % 18446744073709551616)):=hR2.cG.c1
     have fg0:=hR2.cG.f0
     have fg1:=hR2.cG.f1
     go_wp2
     go_roundw
     case rel =>
      refine ⟨1,by omega,by go_num,?_⟩
      rw [Hlo.out,Hhi.out,if_neg (by omega),if_pos t2]
      exact hR2.xh mG q2 d1 ltS (a*d)
     case measure=>simp [intOf]
    ·go_wp2_with fail
     refine (kT _ _ _).mono ?_
     rintro e v1 ⟨rfl,hb1⟩
     have hp:=(iw.new wr (.int .i64 (a*d/18446744073709551616)) (.int .u64 (a*d % 18446744073709551616)) 69).keep hb1
     have hR1:=(hR.keep ((aI _ _).alloc (au _) _) mL).keep hb1 mL
     have p0:=hp.c0
     have p1:=hp.c1
     have g0:v1.cell? ⟨nG,0,none⟩=some (.int .i64 (hi/18446744073709551616)):=hR1.cG.c0
     have g1:v1.cell? ⟨nG,1,none⟩=some (.int .u64 (hi % 18446744073709551616)):=hR1.cG.c1
     have l0:v1.cell? ⟨nL,0,none⟩=some (.int .i64 (lo/18446744073709551616)):=hR1.cL.c0
     have l1:v1.cell? ⟨nL,1,none⟩=some (.int .u64 (lo % 18446744073709551616)):=hR1.cL.c1
     have fl0:=hR1.cL.f0
     have fl1:=hR1.cL.f1
     go_wp2_with fail
     refine (kT _ _ _).mono ?_
     rintro e v2 ⟨rfl,hb2⟩
     have hR2:=(hR1).keep hb2 mL
     have hp2:=(hp).keep hb2
     have p20:=hp2.c0
     have p21:=hp2.c1
     have g20:v2.cell? ⟨nG,0,none⟩=some (.int .i64 (hi/18446744073709551616)):=hR2.cG.c0
     have g21:v2.cell? ⟨nG,1,none⟩=some (.int .u64 (hi % 18446744073709551616)):=hR2.cG.c1
     have fg0:=hR2.cG.f0
     have fg1:=hR2.cG.f1
     go_wp2
     go_roundw
     case rel =>
      refine ⟨1,by omega,by go_num,?_⟩
      rw [Hlo.out,Hhi.out,if_neg (by omega),if_neg (by omega)]
      exact hR2
     case measure=>simp [intOf]
  ·generalize hlo:mR (List.take 1 [a*d,b*c,b*d]) (a*c)=lo at hR
   generalize hhi:kU (List.take 1 [a*d,b*c,b*d]) (a*c)=hi at hR
   have hlo':mR (List.take 2 [a*d,b*c,b*d]) (a*c)=if b*c<lo then b*c else lo:=by rw [←hlo]; rfl
   have hhi':kU (List.take 2 [a*d,b*c,b*d]) (a*c)=if hi<b*c then b*c else hi:=by rw [←hhi]; rfl
   have Hlo:=aG hlo'
   have Hhi:=aG hhi'
   clear hlo hhi hlo' hhi'
   have s0:wr.cell? ⟨nS,2,none⟩=some (.int .i64 (b*c/18446744073709551616)):=hR.cS.c 2 _ rfl
   have s1:wr.cell? ⟨nS,3,none⟩=some (.int .u64 (b*c % 18446744073709551616)):=hR.cS.c 3 _ rfl
   have cl0:wr.cell? ⟨nL,0,none⟩=some (.int .i64 (lo/18446744073709551616)):=hR.cL.c0
   have cl1:wr.cell? ⟨nL,1,none⟩=some (.int .u64 (lo % 18446744073709551616)):=hR.cL.c1
   have ll:=hR.cL.lt
   have lg:=hR.cG.lt
   have ne1:nL≠nG:=by omega
   have ne2:nG≠nL:=by omega
   have ne3:wr.heap.size≠nL:=by omega
   have ne4:nL≠wr.heap.size:=by omega
   have ne5:wr.heap.size≠nG:=by omega
   have ne6:nG≠wr.heap.size:=by omega
   by_cases t1:b*c<lo
   ·by_cases t2:hi<b*c
    ·go_wp2_with fail
     refine (kT _ _ _).mono ?_
     rintro e v1 ⟨rfl,hb1⟩
     have hp:=(iw.new wr (.int .i64 (b*c/18446744073709551616)) (.int .u64 (b*c % 18446744073709551616)) 69).keep hb1
     have hR1:=(hR.keep ((aI _ _).alloc (au _) _) mL).keep hb1 mL
     have p0:=hp.c0
     have p1:=hp.c1
     have g0:v1.cell? ⟨nG,0,none⟩=some (.int .i64 (hi/18446744073709551616)):=hR1.cG.c0
     have g1:v1.cell? ⟨nG,1,none⟩=some (.int .u64 (hi % 18446744073709551616)):=hR1.cG.c1
     have l0:v1.cell? ⟨nL,0,none⟩=some (.int .i64 (lo/18446744073709551616)):=hR1.cL.c0
     have l1:v1.cell? ⟨nL,1,none⟩=some (.int .u64 (lo % 18446744073709551616)):=hR1.cL.c1
     have fl0:=hR1.cL.f0
     have fl1:=hR1.cL.f1
     go_wp2_with fail
     refine (kT _ _ _).mono ?_
     rintro e v2 ⟨rfl,hb2⟩
     have hR2:=(hR1.xk mL q2 d1 ltS (b*c)).keep hb2 mL
     have hp2:=((hp.other ne3 _ _).other ne3 _ _).keep hb2
     have p20:=hp2.c0
     have p21:=hp2.c1
     have g20:v2.cell? ⟨nG,0,none⟩=some (.int .i64 (hi/18446744073709551616)):=hR2.cG.c0
     have g21:v2.cell? ⟨nG,1,none⟩=some (.int .u64 (hi % 18446744073709551616)):=hR2.cG.c1
     have fg0:=hR2.cG.f0
     have fg1:=hR2.cG.f1
     go_wp2
     go_roundw
     case rel =>
      refine ⟨2,by omega,by go_num,?_⟩
      rw [Hlo.out,Hhi.out,if_pos t1,if_pos t2]
      exact hR2.xh mG q2 d1 ltS (b*c)
     case measure=>simp [intOf]
    ·go_wp2_with fail
     refine (kT _ _ _).mono ?_
     rintro e v1 ⟨rfl,hb1⟩
     have hp:=(iw.new wr (.int .i64 (b*c/18446744073709551616)) (.int .u64 (b*c % 18446744073709551616)) 69).keep hb1
     have hR1:=(hR.keep ((aI _ _).alloc (au _) _) mL).keep hb1 mL
     have p0:=hp.c0
     have p1:=hp.c1
     have g0:v1.cell? ⟨nG,0,none⟩=some (.int .i64 (hi/18446744073709551616)):=hR1.cG.c0
     have g1:v1.cell? ⟨nG,1,none⟩=some (.int .u64 (hi % 18446744073709551616)):=hR1.cG.c1
     have l0:v1.cell? ⟨nL,0,none⟩=some (.int .i64 (lo/18446744073709551616)):=hR1.cL.c0
     have l1:v1.cell? ⟨nL,1,none⟩=some (.int .u64 (lo % 18446744073709551616)):=hR1.cL.c1
     have fl0:=hR1.cL.f0
     have fl1:=hR1.cL.f1
     go_wp2_with fail
     refine (kT _ _ _).mono ?_
     rintro e v2 ⟨rfl,hb2⟩
     have hR2:=(hR1.xk mL q2 d1 ltS (b*c)).keep hb2 mL
     have hp2:=((hp.other ne3 _ _).other ne3 _ _).keep hb2
     have p20:=hp2.c0
     have p21:=hp2.c1
     have g20:v2.cell? ⟨nG,0,none⟩=some (.int .i64 (hi/18446744073709551616)):=hR2.cG.c0
     have g21:v2.cell? ⟨nG,1,none⟩=some (.int .u64 (hi % 18446744073709551616)):=hR2.cG.c1
     have fg0:=hR2.cG.f0
     have fg1:=hR2.cG.f1
     go_wp2
     go_roundw
     case rel =>
      refine ⟨2,by omega,by go_num,?_⟩
      rw [Hlo.out,Hhi.out,if_pos t1,if_neg (by omega)]
      exact hR2
     case measure=>simp [intOf]
   ·by_cases t2:hi<b*c
    ·go_wp2_with fail
     refine (kT _ _ _).mono ?_
     rintro e v1 ⟨rfl,hb1⟩
     have hp:=(iw.new wr (.int .i64 (b*c/18446744073709551616)) (.int .u64 (b*c % 18446744073709551616)) 69).keep hb1
     have hR1:=(hR.keep ((aI _ _).alloc (au _) _) mL).keep hb1 mL
     have p0:=hp.c0
     have p1:=hp.c1
     have g0:v1.cell? ⟨nG,0,none⟩=some (.int .i64 (hi/18446744073709551616)):=hR1.cG.c0
     have g1:v1.cell? ⟨nG,1,none⟩=some (.int .u64 (hi % 18446744073709551616)):=hR1.cG.c1
     have l0:v1.cell? ⟨nL,0,none⟩=some (.int .i64 (lo/18446744073709551616)):=hR1.cL.c0
     have l1:v1.cell? ⟨nL,1,none⟩=some (.int .u64 (lo % 18446744073709551616)):=hR1.cL.c1
     have fl0:=hR1.cL.f0
     have fl1:=hR1.cL.f1
     go_wp2_with fail
     refine (kT _ _ _).mono ?_
     rintro e v2 ⟨rfl,hb2⟩
     have hR2:=(hR1).keep hb2 mL
     have hp2:=(hp).keep hb2
     have p20:=hp2.c0
     have p21:=hp2.c1
     have g20:v2.cell? ⟨nG,0,none⟩=some (.int .i64 (hi/18446744073709551616)):=hR2.cG.c0
     have g21:v2.cell? ⟨nG,1,none⟩=some (.int .u64 (hi % 18446744073709551616)):=hR2.cG.c1
     have fg0:=hR2.cG.f0
     have fg1:=hR2.cG.f1
     go_wp2
     go_roundw
     case rel =>
      refine ⟨2,by omega,by go_num,?_⟩
      rw [Hlo.out,Hhi.out,if_neg (by omega),if_pos t2]
      exact hR2.xh mG q2 d1 ltS (b*c)
     case measure=>simp [intOf]
    ·go_wp2_with fail
     refine (kT _ _ _).mono ?_
     rintro e v1 ⟨rfl,hb1⟩
     have hp:=(iw.new wr (.int .i64 (b*c/18446744073709551616)) (.int .u64 (b*c % 18446744073709551616)) 69).keep hb1
     have hR1:=(hR.keep ((aI _ _).alloc (au _) _) mL).keep hb1 mL
     have p0:=hp.c0
     have p1:=hp.c1
     have g0:v1.cell? ⟨nG,0,none⟩=some (.int .i64 (hi/18446744073709551616)):=hR1.cG.c0
     have g1:v1.cell? ⟨nG,1,none⟩=some (.int .u64 (hi % 18446744073709551616)):=hR1.cG.c1
     have l0:v1.cell? ⟨nL,0,none⟩=some (.int .i64 (lo/18446744073709551616)):=hR1.cL.c0
     have l1:v1.cell? ⟨nL,1,none⟩=some (.int .u64 (lo % 18446744073709551616)):=hR1.cL.c1
     have fl0:=hR1.cL.f0
     have fl1:=hR1.cL.f1
     go_wp2_with fail
     refine (kT _ _ _).mono ?_
     rintro e v2 ⟨rfl,hb2⟩
     have hR2:=(hR1).keep hb2 mL
     have hp2:=(hp).keep hb2
     have p20:=hp2.c0
     have p21:=hp2.c1
     have g20:v2.cell? ⟨nG,0,none⟩=some (.int .i64 (hi/18446744073709551616)):=hR2.cG.c0
     have g21:v2.cell? ⟨nG,1,none⟩=some (.int .u64 (hi % 18446744073709551616)):=hR2.cG.c1
     have fg0:=hR2.cG.f0
     have fg1:=hR2.cG.f1
     go_wp2
     go_roundw
     case rel =>
      refine ⟨2,by omega,by go_num,?_⟩
      rw [Hlo.out,Hhi.out,if_neg (by omega),if_neg (by omega)]
      exact hR2
     case measure=>simp [intOf]
  ·generalize hlo:mR (List.take 2 [a*d,b*c,b*d]) (a*c)=lo at hR
   generalize hhi:kU (List.take 2 [a*d,b*c,b*d]) (a*c)=hi at hR
   have hlo':mR (List.take 3 [a*d,b*c,b*d]) (a*c)=if b*d<lo then b*d else lo:=by rw [←hlo]; rfl
   have hhi':kU (List.take 3 [a*d,b*c,b*d]) (a*c)=if hi<b*d then b*d else hi:=by rw [←hhi]; rfl
   have Hlo:=aG hlo'
   have Hhi:=aG hhi'
   clear hlo hhi hlo' hhi'
   have s0:wr.cell? ⟨nS,4,none⟩=some (.int .i64 (b*d/18446744073709551616)):=hR.cS.c 4 _ rfl
   have s1:wr.cell? ⟨nS,5,none⟩=some (.int .u64 (b*d % 18446744073709551616)):=hR.cS.c 5 _ rfl
   have cl0:wr.cell? ⟨nL,0,none⟩=some (.int .i64 (lo/18446744073709551616)):=hR.cL.c0
   have cl1:wr.cell? ⟨nL,1,none⟩=some (.int .u64 (lo % 18446744073709551616)):=hR.cL.c1
   have ll:=hR.cL.lt
   have lg:=hR.cG.lt
   have ne1:nL≠nG:=by omega
   have ne2:nG≠nL:=by omega
   have ne3:wr.heap.size≠nL:=by omega
   have ne4:nL≠wr.heap.size:=by omega
   have ne5:wr.heap.size≠nG:=by omega
   have ne6:nG≠wr.heap.size:=by omega
   by_cases t1:b*d<lo
   ·by_cases t2:hi<b*d
    ·go_wp2_with fail
     refine (kT _ _ _).mono ?_
     rintro e v1 ⟨rfl,hb1⟩
     have hp:=(iw.new wr (.int .i64 (b*d/18446744073709551616)) (.int .u64 (b*d % 18446744073709551616)) 69).keep hb1
     have hR1:=(hR.keep ((aI _ _).alloc (au _) _) mL).keep hb1 mL
     have p0:=hp.c0
     have p1:=hp.c1
     have g0:v1.cell? ⟨nG,0,none⟩=some (.int .i64 (hi/18446744073709551616)):=hR1.cG.c0
     have g1:v1.cell? ⟨nG,1,none⟩=some (.int .u64 (hi % 18446744073709551616)):=hR1.cG.c1
     have l0:v1.cell? ⟨nL,0,none⟩=some (.int .i64 (lo/18446744073709551616)):=hR1.cL.c0
     have l1:v1.cell? ⟨nL,1,none⟩=some (.int .u64 (lo % 18446744073709551616)):=hR1.cL.c1
     have fl0:=hR1.cL.f0
     have fl1:=hR1.cL.f1
     go_wp2_with fail
     refine (kT _ _ _).mono ?_
     rintro e v2 ⟨rfl,hb2⟩
     have hR2:=(hR1.xk mL q2 d1 ltS (b*d)).keep hb2 mL
     have hp2:=((hp.other ne3 _ _).other ne3 _ _).keep hb2
     have p20:=hp2.c0
     have p21:=hp2.c1
     have g20:v2.cell? ⟨nG,0,none⟩=some (.int .i64 (hi/18446744073709551616)):=hR2.cG.c0
     have g21:v2.cell? ⟨nG,1,none⟩=some (.int .u64 (hi % 18446744073709551616)):=hR2.cG.c1
     have fg0:=hR2.cG.f0
     have fg1:=hR2.cG.f1
     go_wp2
     go_roundw
     case rel =>
      refine ⟨3,by omega,by go_num,?_⟩
      rw [Hlo.out,Hhi.out,if_pos t1,if_pos t2]
      exact hR2.xh mG q2 d1 ltS (b*d)
     case measure=>simp [intOf]
    ·go_wp2_with fail
     refine (kT _ _ _).mono ?_
     rintro e v1 ⟨rfl,hb1⟩
     have hp:=(iw.new wr (.int .i64 (b*d/18446744073709551616)) (.int .u64 (b*d % 18446744073709551616)) 69).keep hb1
     have hR1:=(hR.keep ((aI _ _).alloc (au _) _) mL).keep hb1 mL
     have p0:=hp.c0
     have p1:=hp.c1
     have g0:v1.cell? ⟨nG,0,none⟩=some (.int .i64 (hi/18446744073709551616)):=hR1.cG.c0
     have g1:v1.cell? ⟨nG,1,none⟩=some (.int .u64 (hi % 18446744073709551616)):=hR1.cG.c1
     have l0:v1.cell? ⟨nL,0,none⟩=some (.int .i64 (lo/18446744073709551616)):=hR1.cL.c0
     have l1:v1.cell? ⟨nL,1,none⟩=some (.int .u64 (lo % 18446744073709551616)):=hR1.cL.c1
     have fl0:=hR1.cL.f0
     have fl1:=hR1.cL.f1
     go_wp2_with fail
     refine (kT _ _ _).mono ?_
     rintro e v2 ⟨rfl,hb2⟩
     have hR2:=(hR1.xk mL q2 d1 ltS (b*d)).keep hb2 mL
     have hp2:=((hp.other ne3 _ _).other ne3 _ _).keep hb2
     have p20:=hp2.c0
     have p21:=hp2.c1
     have g20:v2.cell? ⟨nG,0,none⟩=some (.int .i64 (hi/18446744073709551616)):=hR2.cG.c0
     have g21:v2.cell? ⟨nG,1,none⟩=some (.int .u64 (hi % 18446744073709551616)):=hR2.cG.c1
     have fg0:=hR2.cG.f0
     have fg1:=hR2.cG.f1
     go_wp2
     go_roundw
     case rel =>
      refine ⟨3,by omega,by go_num,?_⟩
      rw [Hlo.out,Hhi.out,if_pos t1,if_neg (by omega)]
      exact hR2
     case measure=>simp [intOf]
   ·by_cases t2:hi<b*d
    ·go_wp2_with fail
     refine (kT _ _ _).mono ?_
     rintro e v1 ⟨rfl,hb1⟩
     have hp:=(iw.new wr (.int .i64 (b*d/18446744073709551616)) (.int .u64 (b*d % 18446744073709551616)) 69).keep hb1
     have hR1:=(hR.keep ((aI _ _).alloc (au _) _) mL).keep hb1 mL
     have p0:=hp.c0
     have p1:=hp.c1
     have g0:v1.cell? ⟨nG,0,none⟩=some (.int .i64 (hi/18446744073709551616)):=hR1.cG.c0
     have g1:v1.cell? ⟨nG,1,none⟩=some (.int .u64 (hi % 18446744073709551616)):=hR1.cG.c1
     have l0:v1.cell? ⟨nL,0,none⟩=some (.int .i64 (lo/18446744073709551616)):=hR1.cL.c0
     have l1:v1.cell? ⟨nL,1,none⟩=some (.int .u64 (lo % 18446744073709551616)):=hR1.cL.c1
     have fl0:=hR1.cL.f0
     have fl1:=hR1.cL.f1
     go_wp2_with fail
     refine (kT _ _ _).mono ?_
     rintro e v2 ⟨rfl,hb2⟩
     have hR2:=(hR1).keep hb2 mL
     have hp2:=(hp).keep hb2
     have p20:=hp2.c0
     have p21:=hp2.c1
     have g20:v2.cell? ⟨nG,0,none⟩=some (.int .i64 (hi/18446744073709551616)):=hR2.cG.c0
     have g21:v2.cell? ⟨nG,1,none⟩=some (.int .u64 (hi % 18446744073709551616)):=hR2.cG.c1
     have fg0:=hR2.cG.f0
     have fg1:=hR2.cG.f1
     go_wp2
     go_roundw
     case rel =>
      refine ⟨3,by omega,by go_num,?_⟩
      rw [Hlo.out,Hhi.out,if_neg (by omega),if_pos t2]
      exact hR2.xh mG q2 d1 ltS (b*d)
     case measure=>simp [intOf]
    ·go_wp2_with fail
     refine (kT _ _ _).mono ?_
     rintro e v1 ⟨rfl,hb1⟩
     have hp:=(iw.new wr (.int .i64 (b*d/18446744073709551616)) (.int .u64 (b*d % 18446744073709551616)) 69).keep hb1
     have hR1:=(hR.keep ((aI _ _).alloc (au _) _) mL).keep hb1 mL
     have p0:=hp.c0
     have p1:=hp.c1
     have g0:v1.cell? ⟨nG,0,none⟩=some (.int .i64 (hi/18446744073709551616)):=hR1.cG.c0
     have g1:v1.cell? ⟨nG,1,none⟩=some (.int .u64 (hi % 18446744073709551616)):=hR1.cG.c1
     have l0:v1.cell? ⟨nL,0,none⟩=some (.int .i64 (lo/18446744073709551616)):=hR1.cL.c0
     have l1:v1.cell? ⟨nL,1,none⟩=some (.int .u64 (lo % 18446744073709551616)):=hR1.cL.c1
     have fl0:=hR1.cL.f0
     have fl1:=hR1.cL.f1
     go_wp2_with fail
     refine (kT _ _ _).mono ?_
     rintro e v2 ⟨rfl,hb2⟩
     have hR2:=(hR1).keep hb2 mL
     have hp2:=(hp).keep hb2
     have p20:=hp2.c0
     have p21:=hp2.c1
     have g20:v2.cell? ⟨nG,0,none⟩=some (.int .i64 (hi/18446744073709551616)):=hR2.cG.c0
     have g21:v2.cell? ⟨nG,1,none⟩=some (.int .u64 (hi % 18446744073709551616)):=hR2.cG.c1
     have fg0:=hR2.cG.f0
     have fg1:=hR2.cG.f1
     go_wp2
     go_roundw
     case rel =>
      refine ⟨3,by omega,by go_num,?_⟩
      rw [Hlo.out,Hhi.out,if_neg (by omega),if_neg (by omega)]
      exact hR2
     case measure=>simp [intOf]
  ·have hbd:=PV 1329227995784915872903807060280344576 [a*d,b*c,b*d] (a*c)
    (Km (a:=a) (b:=c) (A:=1152921504606846976) (B:=1152921504606846976) (by omega) (by omega) (by omega) (by omega))
    (by
     intro p hp
     simp only [ag,ae,or_false] at hp
     rcases hp with rfl | rfl | rfl<;>exact Km (A:=1152921504606846976) (B:=1152921504606846976) (by omega) (by omega) (by omega) (by omega))
   have hup:=fun w=>aem (kU [a*d,b*c,b*d] (a*c)) w (by omega) (by omega)
   have hdn:=fun w=>Nu (mR [a*d,b*c,b*d] (a*c)) w
   have HM:Hid (∀e w',xC (if okB (mR [a*d,b*c,b*d] (a*c)/65536)&&okB ((kU [a*d,b*c,b*d] (a*c)+65535)/65536) then sV (mR [a*d,b*c,b*d] (a*c)) else 0) (if okB (mR [a*d,b*c,b*d] (a*c)/65536)&&okB ((kU [a*d,b*c,b*d] (a*c)+65535)/65536) then sV (kU [a*d,b*c,b*d] (a*c)+65535) else 0) (okB (mR [a*d,b*c,b*d] (a*c)/65536)&&okB ((kU [a*d,b*c,b*d] (a*c)+65535)/65536)) w e w'→Mt a b c d w e w'):=aG (fun e w' h=>h)
   have hR:tO w n0 n2 nL nG nS [a*d,b*c,b*d] (mR [a*d,b*c,b*d] (a*c)) (kU [a*d,b*c,b*d] (a*c)) wr:=hR
   have Hup:=aG hup
   have Hdn:=aG hdn
   clear hup hdn hbd
   generalize mR [a*d,b*c,b*d] (a*c)=L at hR Hdn HM
   generalize kU [a*d,b*c,b*d] (a*c)=G at hR Hup HM
   generalize sV L=dL at Hdn HM
   generalize sV (G+65535)=dG at Hup HM
   have l0:wr.cell? ⟨nL,0,none⟩=some (.int .i64 (L/18446744073709551616)):=hR.cL.c0
   have l1:wr.cell? ⟨nL,1,none⟩=some (.int .u64 (L % 18446744073709551616)):=hR.cL.c1
   cases o1:okB (L/65536)<;>cases o2:okB ((G+65535)/65536)
   all_goals
    rw [o1] at Hdn
    rw [o2] at Hup
    rw [o1,o2] at HM
    clear o1 o2
    go_wp2_with fail
    refine (Hdn.out _).mono ?_
    rintro e v1 ⟨rfl,hb1⟩
    have hR1:=hR.keep hb1 mL
    have g0:v1.cell? ⟨nG,0,none⟩=some (.int .i64 (G/18446744073709551616)):=hR1.cG.c0
    have g1:v1.cell? ⟨nG,1,none⟩=some (.int .u64 (G % 18446744073709551616)):=hR1.cG.c1
    go_wp2_with fail
    refine (Hup.out _).mono ?_
    rintro e v2 ⟨rfl,hb2⟩
    have hR2:=hR1.keep hb2 mL
    have r0:=hR2.c2.c0
    have r1:=hR2.c2.c1
    have rf0:=hR2.c2.f0
    have rf1:=hR2.c2.f1
    have gW:=hR2.gW
    rw [←HN.out] at gW m2
    go_wp2
    first
     | (refine bodyPost_ret (v:=.tuple #[.agg #[.int .i64 dL,.int .i64 dG],.bool true]) (by simp [results,Tryz.results12,go_sem,r0,r1]) rfl (HM.out _ _ (D5 rfl rfl rfl ?_))
        exact (gW.setCell (p:=⟨n2,0,none⟩) m2 _).setCell (p:=⟨n2,1,none⟩) m2 _)
     | (refine bodyPost_ret (v:=.tuple #[.agg #[.int .i64 0,.int .i64 0],.bool false]) (by simp [results,Tryz.results12,go_sem,r0,r1]) rfl (HM.out _ _ (D5 rfl rfl rfl ?_))
        exact (gW.setCell (p:=⟨n2,0,none⟩) m2 _).setCell (p:=⟨n2,1,none⟩) m2 _)
end Go.Proofs.En
end
section
namespace Go.Proofs.En
open Go.RowKit
theorem ZJ (a b c d:Int) (w:World) (h:mX a b=false) :
  Calls aa 12 #[.agg #[.int .i64 a,.int .i64 b],.agg #[.int .i64 c,.int .i64 d]] w (xC 0 0 false w):=by
 go_enter Tryz.func12,Tryz.ntmps12
 go_wp2_with fail
 refine (Dy _ _ _).mono ?_
 rintro e w1 ⟨rfl,hb⟩
 obtain ⟨hc,hf⟩:=Ck hb
 go_wp2
 refine bodyPost_ret (v:=.tuple #[.agg #[.int .i64 0,.int .i64 0],.bool false]) (by simp [results,Tryz.results12,go_sem,hc]) rfl (D5 rfl rfl rfl ?_)
 exact ((jD (H9 _ _ _ _) hb).setCell (by simp; omega) _).setCell (by simp; omega) _
theorem ZK (a b c d:Int) (w:World) (h:mX a b=true) (h':mX c d=false) :
  Calls aa 12 #[.agg #[.int .i64 a,.int .i64 b],.agg #[.int .i64 c,.int .i64 d]] w (xC 0 0 false w):=by
 go_enter Tryz.func12,Tryz.ntmps12
 go_wp2_with fail
 refine (Dy _ _ _).mono ?_
 rintro e w1 ⟨rfl,hb⟩
 obtain ⟨hc,hf⟩:=Ck hb
 have z0:w.heap.size<w1.heap.size:=by have:=hb.size; simp at this; omega
 have z1:w.heap.size+1<w1.heap.size:=by have:=hb.size; simp at this; omega
 have z2:w.heap.size+1+1<w1.heap.size:=by have:=hb.size; simp at this; omega
 go_wp2_with fail
 refine (Dy _ _ _).mono ?_
 rintro e w2 ⟨rfl,hb2⟩
 obtain ⟨hc2,hf2⟩:=Ck hb2
 go_wp2
 refine bodyPost_ret (v:=.tuple #[.agg #[.int .i64 0,.int .i64 0],.bool false]) (by simp [results,Tryz.results12,go_sem,hc,hc2,z2]) rfl (D5 rfl rfl rfl ?_)
 exact ((jD (jD (H9 _ _ _ _) hb) hb2).setCell (by simp; omega) _).setCell (by simp; omega) _
end Go.Proofs.En
end
section
namespace Go.Proofs.En
open Go.RowKit
def wT (a b c d:Int):Bool:=mX a b&&mX c d&&zD a b c d
theorem Ns (p:Int) (h:okB (p/65536)=true):sV p=p/65536:=by
 simp only [okB,decide_eq_true_eq] at h
 unfold sV
 rw [if_pos (by omega)]
theorem PS (a b c d:Int):∃lo hi ok,ok=wT a b c d∧(ok=true→lo=mulL a b c d/65536∧hi=(wS a b c d+65535)/65536)∧(ok=false→lo=0∧hi=0) ∧
  ∀w,Calls aa 12 #[.agg #[.int .i64 a,.int .i64 b],.agg #[.int .i64 c,.int .i64 d]] w (xC lo hi ok w):=by
 unfold wT
 cases h1:mX a b with
 | false=>exact ⟨0,0,false,by simp,by simp,by simp,fun w=>ZJ a b c d w h1⟩
 | true =>
  cases h2:mX c d with
  | false=>exact ⟨0,0,false,by simp,by simp,by simp,fun w=>ZK a b c d w h1 h2⟩
  | true =>
   refine ⟨_,_,zD a b c d,by simp,?_,?_,fun w=>ZL a b c d w h1 h2⟩
   ·intro h
    rw [if_pos h,if_pos h]
    simp only [zD,aQ] at h
    exact ⟨Ns _ h.1,Ns _ h.2⟩
   ·intro h
    rw [h]; exact ⟨rfl,rfl⟩
theorem ZG:∀(l:List Int) (m:Int),mR l m≤m∧∀p∈l,mR l m≤p
 | [],m=>⟨Int.le_refl _,fun p hp=>by cases hp⟩
 | p::l,m=>by
  have ih:=ZG l (if p<m then p else m)
  have e:mR (p::l) m=mR l (if p<m then p else m):=rfl
  rw [e]
  have h0:(if p<m then p else m)≤m∧(if p<m then p else m)≤p:=by split<;>omega
  refine ⟨Int.le_trans ih.1 h0.1,fun q hq=>?_⟩
  rcases ag.1 hq with rfl | hq
  ·exact Int.le_trans ih.1 h0.2
  ·exact ih.2 q hq
theorem ZO:∀(l:List Int) (m:Int),m≤kU l m∧∀p∈l,p≤kU l m
 | [],m=>⟨Int.le_refl _,fun p hp=>by cases hp⟩
 | p::l,m=>by
  have ih:=ZO l (if m<p then p else m)
  have e:kU (p::l) m=kU l (if m<p then p else m):=rfl
  rw [e]
  have h0:m≤(if m<p then p else m)∧p≤(if m<p then p else m):=by split<;>omega
  refine ⟨Int.le_trans h0.1 ih.1,fun q hq=>?_⟩
  rcases ag.1 hq with rfl | hq
  ·exact Int.le_trans h0.2 ih.1
  ·exact ih.2 q hq
end Go.Proofs.En
end
section
namespace Go.Proofs.En
open Go.RowKit
def wz (w:World) (e:Ending) (w':World):Prop:=e=.returned (.bool true)∧Below w.heap.size w w'
end Go.Proofs.En
end
