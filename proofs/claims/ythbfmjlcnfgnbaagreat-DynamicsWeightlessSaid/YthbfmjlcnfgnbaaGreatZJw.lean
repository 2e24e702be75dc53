/-
  Part of the proof: see the last text.
-/
import Derived.Deep.RegionHeld3
import Derived.Deep.Slices
import Derived.OpenShut
import Derived.ChangeArms
import Derived.Test.YthbfmjlcnfgnbaaGreatZAwA
import Derived.Test.YthbfmjlcnfgnbaaGreatZXs
set_option linter.unusedVariables false
set_option maxHeartbeats 8000000
open Array renaming getElem?_eq_none→afc
open Go.RowKit.Below renaming refl→aI
open Bool renaming and_eq_true→aQ
open Go.Lib renaming hid→aG
open List renaming getElem?_append_left→aH,getElem?_append_right→bu,getElem?_eq_getElem→ah,getElem?_eq_none→bQ,getElem?_eq_some_iff→ai,getElem?_map→bY,length_append→afa,map_cons→dI,mem_cons→ag,not_mem_nil→ae
open Nat renaming le_refl→au,le_trans→aZ,lt_of_lt_of_le→aC,lt_or_ge→cu
open Option renaming map_eq_some_iff→aR
open Go.Proofs.Tryz renaming f5→bT,prog→aa
open Go.World renaming cell?→bS
section
namespace Go.Proofs.En
open Go.RowKit
def Dl (ps:List Int):List Value:=ps.map fun p=>.int .i64 p
theorem FV (ps:List Int):(fF ps).flatten=Dl ps:=by
 induction ps with
 | nil=>rfl
 | cons a t ih=>simp only [fF,Dl,dI,List.flatten_cons] at ih ⊢; rw [ih]; rfl
theorem QX (ps:List Int):(fF ps).length=ps.length:=by simp [fF]
def AQ (js:List JV) (ps:List Int):Prop:=∀(k:Nat) (j:JV) (p:Int),js[k]?=some j→ps[k]?=some p→j.lo≤p∧p≤j.hi
variable {js:List JV} {ps:List Int} {j:JV} {p:Int}
theorem Ym (h:AQ js ps) (hj:js[ps.length]?=some j) (hp:j.lo≤p∧p≤j.hi):AQ js (ps++[p]):=by
 intro k j' p' h1 h2
 rcases cu k ps.length with hlt | hge
 ·rw [aH hlt] at h2
  exact h k j' p' h1 h2
 ·rw [bu hge] at h2
  have:k=ps.length:=by
   rcases Nat.eq_or_lt_of_le hge with h | h
   ·exact h.symm
   ·rw [bQ (by simp; omega)] at h2; cases h2
  subst this
  simp at h2
  subst h2
  rw [hj] at h1
  injection h1 with h1
  subst h1
  exact hp
structure CI (w Wb:World) (n2 nS:Nat) (rv:List Value) (os:Option Addr) (cap:Nat) (xs:List Int) (js:List JV) (ps:List Int) (v:Value) (W:World):Prop where
 gW:Below w.heap.size w W
 r2:Row W n2 rv
 src:Src W nS os cap xs
 own:W.ownsRow Wb.heap.size 2 1 v ps.length (Dl ps)
 hb:Wb.heap.size≤W.heap.size
 i0:Sl Wb os 1 (fF xs)
 h2:w.heap.size≤n2
 h3:n2<nS
 h4:nS<Wb.heap.size
 EP:AQ js ps
variable {w Wb W W':World} {n2 nS cap:Nat} {rv:List Value} {os:Option Addr} {xs:List Int} {v:Value}
theorem CI.call (h:CI w Wb n2 nS rv os cap xs js ps v W) (hg:W.grownBy W' (some nS)) (hS:Src W' nS os cap xs):CI w Wb n2 nS rv os cap xs js ps v W':=by
 have h2:=h.h2; have h3:=h.h3; have h4:=h.h4
 have ne:∀k,k≠nS→k<W.heap.size→W'.heap[k]?=W.heap[k]?:=fun k hk hl=>hg.block k hl (fun e=>hk (by injection e))
 refine ⟨⟨hg.os.trans h.gW.os,hg.tape.trans h.gW.tape,hg.output.trans h.gW.output,aZ h.gW.size hg.size,fun k hk=>(ne k (by omega) (aC hk h.gW.size)).trans (h.gW.block k hk)⟩,?_,hS,uY h.own fun g _ hl hb=>ne g (by omega) hl,aZ h.hb hg.size,h.i0,h2,h3,h4,h.EP⟩
 have e:=ne n2 (by omega) h.r2.lt
 refine ⟨fun j v hj=>?_,aC h.r2.lt hg.size⟩
 rw [←h.r2.c j v hj]
 simp [bS,e]
theorem CI.keep {w Wb W W':World} {n2 nS:Nat} {rv:List Value} {os:Option Addr} {cap:Nat} {xs:List Int} {js:List JV} {ps:List Int} {v:Value} (h:CI w Wb n2 nS rv os cap xs js ps v W) (hb:Below W.heap.size W W'):CI w Wb n2 nS rv os cap xs js ps v W' :=
 ⟨jD h.gW hb,h.r2.keep hb,h.src.yl hb,yx h.own hb,aZ h.hb hb.size,h.i0,h.h2,h.h3,h.h4,h.EP⟩
theorem CI.app {W1:World} {v':Value} (h:CI w Wb n2 nS rv os cap xs js ps v W) (hj:js[ps.length]?=some j) (hp:j.lo≤p∧p≤j.hi)
  (ho:W1.ownsRow Wb.heap.size 2 1 v' (ps.length+1) (Dl ps++[.int .i64 p])) (hg:W.grownBy W1 v.ownBlock):CI w Wb n2 nS rv os cap xs js (ps++[p]) v' W1:=by
 have h2:=h.h2; have h3:=h.h3; have h4:=h.h4
 have B:=yh h.own hg h.hb
 refine ⟨h.gW.trans (B.mono (by omega)),h.r2.low (by omega) B,h.src.low h.i0 h4 B,?_,aZ h.hb hg.size,h.i0,h2,h3,h4,Ym h.EP hj hp⟩
 rw [afa,Dl,List.map_append]
 exact ho
theorem CI.done (h:CI w Wb n2 nS rv os cap xs js ps v W):∃oa c,v=.slice oa ps.length c∧Sl W oa 1 (fF ps):=by
 obtain ⟨oa,c,e,s⟩:=KM (rows:=fF ps) (n:=1) (by intro r hr; simp [fF] at hr; obtain ⟨j,_,rfl⟩:=hr; rfl) (by rw [QX,FV]; exact h.own)
 rw [QX] at e
 exact ⟨oa,c,e,s⟩
def Vq (js:List JV) (w:World) (e:Ending) (W':World):Prop:=∃(ps:List Int) (oa:Option Addr) (c:Nat),e=.returned (.slice oa ps.length c)∧ps.length=js.length∧AQ js ps∧Sl W' oa 1 (fF ps)∧Below w.heap.size w W'
set_option maxRecDepth 100000 in
theorem Nl (oa om os:Option Addr) (cj cm cap:Nat) (js:List JV) (nm:Nat) (xs:List Int) (w:World) (hj:js.length≤100) (hbd:∀(k:Nat) (j:JV),js[k]?=some j→-1000000000≤j.lo∧j.lo≤j.hi∧j.hi≤1000000000) (hJ:Sl w oa 12 (js.map JV.vals)) (hI:Sl w os 1 (fF xs)) (hl:xs.length≤9223372036854775807) :
  Calls aa 18 #[.agg #[.slice oa js.length cj,.slice om nm cm],.slice os xs.length cap] w (Vq js w):=by
 go_enter Tryz.func18,Tryz.ntmps18
 go_wp2_with fail
 have hB0:Below w.heap.size w (w.alloc (.cells #[.slice oa js.length cj,.slice om nm cm] 35)):=(aI _ _).alloc (au _) _
 have r0:=Row.new w [.slice oa js.length cj,.slice om nm cm] 35
 have hI0:=hI.keep hB0
 generalize (w.alloc (.cells #[.slice oa js.length cj,.slice om nm cm] 35))=W0 at hB0 r0 hI0 ⊢
 generalize hn:w.heap.size=n2 at r0 ⊢
 have HN:=aG hn
 clear hn
 refine (O8 os cap xs.length W0).mono ?_
 rintro e W1 ⟨rfl,rfl⟩
 have hS:=UB W0 os cap xs hI0 hl
 have hB1:Below W0.heap.size W0 (W0.alloc (.cells #[.slice os xs.length cap,.int .i64 0] 120)):=(aI _ _).alloc (au _) _
 have hC:CI w (W0.alloc (.cells #[.slice os xs.length cap,.int .i64 0] 120)) n2 W0.heap.size [.slice oa js.length cj,.slice om nm cm] os cap xs js [] (.slice none 0 0) (W0.alloc (.cells #[.slice os xs.length cap,.int .i64 0] 120)) :=
  ⟨jD hB0 hB1,r0.keep hB1,hS,World.ownsRow_nil _ _ _ _,au _,hI0.keep hB1,Nat.le_of_eq HN.out,r0.lt,GM hS,fun k j p _ h=>by simp at h⟩
 clear hB0 hB1 hS r0 hI0 HN hI
 generalize (W0.alloc (.cells #[.slice os xs.length cap,.int .i64 0] 120))=W1 at hC ⊢
 generalize W0.heap.size=nS at hC ⊢
 have HBD:=aG hbd
 clear hbd
 go_wp2_with fail
 go_loopw [6,7] (fun v i W=>∃ps:List Int,ps.length≤js.length∧i=.int .i64 (ps.length:Nat)∧CI w W1 n2 nS [.slice oa js.length cj,.slice om nm cm] os cap xs js ps v W) (fun _ i _=>js.length - (intOf i).toNat)
 case atStart=>exact ⟨[],by simp,rfl,hC⟩
 case round =>
  clear hC
  obtain ⟨ps,hk,rfl,hC⟩:=hrel
  have s0:wr.cell? ⟨n2,0,none⟩=some (.slice oa js.length cj):=hC.r2.c 0 _ rfl
  have l2:=hC.r2.lt
  by_cases hlt:ps.length<js.length
  ·obtain ⟨j,hj'⟩:∃j,js[ps.length]?=some j:=⟨_,ah hlt⟩
   obtain ⟨b,off,rfl,hJr⟩:=(hJ.keep hC.gW) (AX hlt)
   have x6:wr.cell? ⟨b,off+ps.length*12+6,none⟩=some (.int .i64 j.lo):=hJr.c ps.length _ (iX hj') 6 _ rfl
   have x7:wr.cell? ⟨b,off+ps.length*12+7,none⟩=some (.int .i64 j.hi):=hJr.c ps.length _ (iX hj') 7 _ rfl
   have lb:=hJr.lt
   have hbj:=HBD.out _ _ hj'
   have HJ':=aG hj'
   clear hj' hJr
   go_wp2_with fail
   go_quiet (fail)
   replace hC:=hC.keep (vG wr nq)
   clear s0 l2 x6 x7 lb
   generalize wr.drewN nq=V at hC ⊢
   go_wp2_with fail
   refine (oQ _ nS os cap xs 6 hC.src (by omega) (by omega)).mono ?_
   rintro e W2 ⟨q,q1,q2,rfl,hg2,hS2⟩
   replace hC:=hC.call hg2 hS2
   clear hg2 hS2
   obtain ⟨i0,hi,hz0,hz1,hz2⟩:=info_parts Yt
   by_cases h0:q=0
   ·have h0':(q==0)=true:=by rw [h0]; rfl
    clear h0
    have HC2:=aG (hC.keep (W':=W2.alloc (.cells #[.int .i64 j.lo] 2)) ((aI _ _).alloc (au _) _))
    go_wp2_with (at_builtin; refine wpList_append_own _ rfl _ _ 37 rfl W1.heap.size 2 i0 (.int .i64 0) 1 8 Md hi hz0 hz1 hz2 rfl (by decide) _ _ _ rfl HC2.out.own ⟨W2.heap.size,0,none⟩ 1 1 [.int .i64 j.lo] rfl rfl ?c1 ?c2 ?c3 ?c4 ?c5 ?_)
    case c1=>exact Dg _ _ _
    case c2=>intro u hu; simp at hu; subst hu; rfl
    case c3=>unfold maxLen; omega
    case c4=>omega
    case c5=>exact HC2.out.hb
    intro v' w' hown' hgrow _
    have HN:=aG (HC2.out.app HJ'.out (p:=j.lo) (by omega) hown' hgrow)
    clear hown' hgrow HC2 hC hi hz0 hz1 hz2
    go_wp2
    go_roundw
    case rel=>exact ⟨ps++[j.lo],by simp; omega,by simp,HN.out⟩
    case measure=>simp [intOf]; omega
   ·have h0':(q==0)=false:=beq_eq_false_iff_ne.2 h0
    by_cases h1:q=1
    ·have h1':(q==1)=true:=by rw [h1]; rfl
     clear h1 h0
     have HC2:=aG (hC.keep (W':=W2.alloc (.cells #[.int .i64 j.hi] 2)) ((aI _ _).alloc (au _) _))
     go_wp2_with (at_builtin; refine wpList_append_own _ rfl _ _ 37 rfl W1.heap.size 2 i0 (.int .i64 0) 1 8 Md hi hz0 hz1 hz2 rfl (by decide) _ _ _ rfl HC2.out.own ⟨W2.heap.size,0,none⟩ 1 1 [.int .i64 j.hi] rfl rfl ?c1 ?c2 ?c3 ?c4 ?c5 ?_)
     case c1=>exact Dg _ _ _
     case c2=>intro u hu; simp at hu; subst hu; rfl
     case c3=>unfold maxLen; omega
     case c4=>omega
     case c5=>exact HC2.out.hb
     intro v' w' hown' hgrow _
     have HN:=aG (HC2.out.app HJ'.out (p:=j.hi) (by omega) hown' hgrow)
     clear hown' hgrow HC2 hC hi hz0 hz1 hz2
     go_wp2
     go_roundw
     case rel=>exact ⟨ps++[j.hi],by simp; omega,by simp,HN.out⟩
     case measure=>simp [intOf]; omega
    ·have h1':(q==1)=false:=beq_eq_false_iff_ne.2 h1
     go_wp2_with fail
     refine (oQ _ nS os cap xs _ hC.src (by omega) (by omega)).mono ?_
     rintro e W3 ⟨z,z1,z2,rfl,hg3,hS3⟩
     replace hC:=hC.call hg3 hS3
     clear hg3 hS3
     have HC2:=aG (hC.keep (W':=W3.alloc (.cells #[.int .i64 (j.lo+z)] 2)) ((aI _ _).alloc (au _) _))
     go_wp2_with (at_builtin; refine wpList_append_own _ rfl _ _ 37 rfl W1.heap.size 2 i0 (.int .i64 0) 1 8 Md hi hz0 hz1 hz2 rfl (by decide) _ _ _ rfl HC2.out.own ⟨W3.heap.size,0,none⟩ 1 1 [.int .i64 (j.lo+z)] rfl rfl ?c1 ?c2 ?c3 ?c4 ?c5 ?_)
     case c1=>exact Dg _ _ _
     case c2=>intro u hu; simp at hu; subst hu; rfl
     case c3=>unfold maxLen; omega
     case c4=>omega
     case c5=>exact HC2.out.hb
     intro v' w' hown' hgrow _
     have HN:=aG (HC2.out.app HJ'.out (p:=j.lo+z) (by omega) hown' hgrow)
     clear hown' hgrow HC2 hC hi hz0 hz1 hz2
     go_wp2
     go_roundw
     case rel=>exact ⟨ps++[j.lo+z],by simp; omega,by simp,HN.out⟩
     case measure=>simp [intOf]; omega
  ·have hke:ps.length=js.length:=by omega
   obtain ⟨oa',c',rfl,hs⟩:=hC.done
   have HS:=aG hs
   have HC:=aG hC
   have HK:=aG hke
   clear hC hs hke
   go_wp2
   go_ret
   exact ⟨ps,oa',c',rfl,HK.out,HC.out.EP,HS.out,HC.out.gW⟩
end Go.Proofs.En
end
section
namespace Go.Proofs.En
open Go.RowKit
theorem Kr:vV (nm 0)=true∧vV (nm 1)=true∧vV (nm 2)=true:=⟨by kernel_rfl,by kernel_rfl,by kernel_rfl⟩
theorem Kq:rq (nm 0) (nm 1)=false∧rq (nm 0) (nm 2)=false∧rq (nm 1) (nm 2)=false:=⟨by kernel_rfl,by kernel_rfl,by kernel_rfl⟩
theorem ZQ (k:Nat) (h:k<3):vV (nm k)=true:=by
 rcases (show k=0∨k=1∨k=2 by omega) with rfl | rfl | rfl
 ·exact Kr.1
 ·exact Kr.2.1
 ·exact Kr.2.2
theorem XE (i k:Nat) (h:i<k) (hk:k<3):rq (nm i) (nm k)=false:=by
 rcases (show (i=0∧k=1)∨(i=0∧k=2)∨(i=1∧k=2) by omega) with ⟨rfl,rfl⟩ | ⟨rfl,rfl⟩ | ⟨rfl,rfl⟩
 ·exact Kq.1
 ·exact Kq.2.1
 ·exact Kq.2.2
theorem ac1 {js:List JV} {ms:List MV} {oa om:Option Addr} {W:World} (h:Cf js ms oa om W):yu js ms:=by
 obtain ⟨⟨h1,h2⟩,h3,hj,hm,_,_⟩:=h
 refine ⟨⟨by omega,by omega⟩,fun k j hk=>?_,by omega,hm⟩
 have hlt:k<js.length:=by
  rcases cu k js.length with h | h
  ·exact h
  ·rw [bQ h] at hk; cases hk
 have g:=hj k j hk
 have hf:findF js j.name=k:=by
  refine OO hk (XF _) fun i j' hi hj'=>?_
  rw [(hj i j' hj').name,g.name]
  exact XE i k hi (by omega)
 have hn:vV j.name=true:=by rw [g.name]; exact ZQ k (by omega)
 have hk':=g.kind; have hp:=g.parent; have ho:=g.off; have hl:=g.lim; have hw:=g.weight; have hs:=g.speed; have ha:=g.iL; have ht:=g.iO
 have hb:wD j.o0 j.o1 j.o2=false:=by simp [wD,AJ]; omega
 have f1:lv j.weight 1024=true:=by simp [lv]; omega
 have f2:lv j.speed 1048576=true:=by simp [lv]; omega
 have f3:lv j.iL 1048576=true:=by simp [lv]; omega
 have f4:lv j.iO 1099511627776=true:=by simp [lv]; omega
 unfold qY
 rw [hn,hf,hb,f1,f2,f3,f4,if_neg (by simp),if_neg (by omega),if_neg (by omega),if_neg (by simp),if_neg (by omega),if_neg (by simp)]
end Go.Proofs.En
end
section
namespace Go.Proofs.En
open Go.RowKit
variable {W:World}
theorem ac0 {js:List JV} {ms:List MV} {oa om:Option Addr} (h:Cf js ms oa om W):∀(k:Nat) (j:JV),js[k]?=some j→-1000000000≤j.lo∧j.lo≤j.hi∧j.hi≤1000000000:=by
 intro k j hk
 have:=(h.2.2.1 k j hk).lim
 have:=EX j.kind
 omega
theorem CU {V W':World} {n6 n13:Nat} {a b c d:Value} (l6:n6<V.heap.size) (l13:n13<V.heap.size) (h:W.cell? ⟨n6,0,none⟩=some a∧W.cell? ⟨n6,1,none⟩=some b∧W.cell? ⟨n13,0,none⟩=some c∧W.cell? ⟨n13,1,none⟩=some d∧Below V.heap.size V W) (hb:Below W.heap.size W W') :
  W'.cell? ⟨n6,0,none⟩=some a∧W'.cell? ⟨n6,1,none⟩=some b∧W'.cell? ⟨n13,0,none⟩=some c∧W'.cell? ⟨n13,1,none⟩=some d∧Below V.heap.size V W':=by
 have h6:=aC l6 h.2.2.2.2.size
 have h13:=aC l13 h.2.2.2.2.size
 exact ⟨(hb.cell (p:=⟨n6,0,none⟩) h6).trans h.1,(hb.cell (p:=⟨n6,1,none⟩) h6).trans h.2.1,(hb.cell (p:=⟨n13,0,none⟩) h13).trans h.2.2.1,(hb.cell (p:=⟨n13,1,none⟩) h13).trans h.2.2.2.1,jD h.2.2.2.2 hb⟩
end Go.Proofs.En
end
section
namespace Go.Proofs.En
open Go.RowKit Go.Sm
variable {W:World} {n13:Nat}
theorem JN {p q r p' q' r'} {e:TypeId} (hblk:W.heap[n13]?=some (.cells #[.slice p q r,.slice p' q' r'] e (0,0))) {oa:Option Addr} {sz:Nat} {rows:List (List Value)} (h:Sl W oa sz rows) {l:List Value} {k:Nat} {t:IntKind} {i:Int} (h0:rows[0]?=some l) (h1:l[k]?=some (.int t i)):∀a,oa=some a→a.block∉[n13]∧a.block<W.heap.size:=fun a ha=>by
 obtain ⟨b,off,e1,hR⟩:=h (fun e2=>by rw [e2] at h0; cases h0)
 rw [ha] at e1
 injection e1 with e1
 subst e1
 refine ⟨fun hm=>?_,hR.lt⟩
 simp only [ag,ae,or_false] at hm
 subst hm
 have:=hR.c 0 l h0 k _ h1
 simp only [bS,hblk] at this
 generalize off+(0*sz+k)=j at this
 match j,this with
 | 0,this=>simp at this
 | 1,this=>simp at this
 | j+2,this=>simp at this
theorem aeJ {w W1:World} {ra rm ok1 ok2:Option Addr} {rc rd kc1 kc2:Nat} {jr:List JV} {mr:List MV} {ks1 ks2:List Int} {x y z:Int} {c:Code} {a:Act} (hc:c=(sR 3 (dN bT))) (hR:Cf jr mr ra rm W1) (hRJ:Sl W ra 12 (jr.map JV.vals)) (hRM:Sl W rm 5 (mr.map MV.vals)) (hi1:AQ jr ks1) (hi2:AQ jr ks2) (he1:ks1.length=jr.length) (he2:ks2.length=jr.length) (k1:Sl W ok1 1 (fF ks1)) (k2:Sl W ok2 1 (fF ks2))
  (hblk:W.heap[n13]?=some (.cells #[.slice ra jr.length rc,.slice rm mr.length rd] 35 (0,0))) (hb:Below w.heap.size w W) (h13:w.heap.size≤n13) (hd:a.defers=[]) (hz:a.tmps.size=93) (hf:∀p∈([(3,num x),(4,num y),(5,num z),(13,dK n13),(14,.slice ok1 ks1.length kc1),(15,.slice ok2 ks2.length kc2)]:List (Nat×Value)),a.tmps[p.1]?=some p.2) :
  c.wp aa (bodyPost aa bT (wz w)) a W:=by
 subst hc
 have hs:dP (dS 93 [(3,num x),(4,num y),(5,num z),(13,dK n13),(14,dJ (ok1,ks1.length,kc1)),(15,dJ (ok2,ks2.length,kc2))]) [(n13,[dJ (ra,jr.length,rc),dJ (rm,mr.length,rd)],35)] [] a W:=by
  refine ⟨hd,by rw [hz]; simp [dS],fun t u e=>?_,fun q hq=>?_,(fun q hq=>by cases hq),by simp⟩
  ·simp only [dS,bY,aR] at e
   obtain ⟨q,q1,q2⟩:=e
   obtain ⟨hlt,hq⟩:=ai.1 q1
   simp only [List.getElem_range] at hq
   subst hq
   exact hf _ (Kb q2)
  ·simp only [ag,ae,or_false] at hq
   subst hq
   exact hblk
 have hn:=hR.1
 have xK:∀{ks:List Int} {o:Option Addr},Sl W o 1 (fF ks)→∀a,o=some a→fF ks≠[]→a.block∉[n13]:=fun {ks o} h a ha h0=>by
  match ks,h,h0 with
  | [],_,h0=>exact absurd rfl h0
  | k::ks,h,_=>exact (JN hblk h (l:=[.int .i64 k]) (k:=0) rfl rfl a ha).1
 have hRo:jW W [n13] (ra,jr.length,rc) (rm,mr.length,rd) jr mr :=
  {
   n:=hn,m:=by have:=hR.2.1; omega,b0:=rfl,b1:=rfl,sB:=hRJ,sM:=hRM
   xB:=fun a ha=>by
    match jr,hn,hRJ with
    | [],hn,_=>simp at hn
    | j::jr,_,hRJ=>exact JN hblk hRJ (l:=j.vals) (k:=1) rfl rfl a ha
   xM:=fun a ha h0=>by
    match mr,h0,hRM with
    | [],h0,_=>exact absurd rfl h0
    | m::mr,_,hRM=>exact JN hblk hRM (l:=m.vals) (k:=0) rfl rfl a ha
   ok:=ac1 hR
   pr:=fun i j hj=>by have:=(hR.2.2.1 i j hj).parent; omega
   kd:=fun i j hj=>by have:=(hR.2.2.1 i j hj).kind; omega
   ms:=fun i m hm=>by
    have:=hR.2.2.2.1 i m hm
    simp only [kK,lv,aQ,decide_eq_true_eq] at this
    omega }
 exact aeL hRo hR.2.1 rfl rfl k1 k2 ⟨he1.symm,hi1⟩ ⟨he2.symm,hi2⟩ (xK k1) (xK k2) hs hb h13
theorem Pv {V W':World} {c d:Value} (l13:n13<V.heap.size) (h:W.cell? ⟨n13,0,none⟩=some c∧W.cell? ⟨n13,1,none⟩=some d∧Below V.heap.size V W) (hb:Below W.heap.size W W') :
  W'.cell? ⟨n13,0,none⟩=some c∧W'.cell? ⟨n13,1,none⟩=some d∧Below V.heap.size V W':=by
 have h13:=aC l13 h.2.2.size
 exact ⟨(hb.cell (p:=⟨n13,0,none⟩) h13).trans h.1,(hb.cell (p:=⟨n13,1,none⟩) h13).trans h.2.1,jD h.2.2 hb⟩
set_option maxRecDepth 100000 in
theorem aeK (ol oc od:Option Addr) (cl cc cd:Nat) (ls us bs:List Int) (x y z:Int) (w:World) (hll:ls.length≤9223372036854775807) (hla:us.length≤9223372036854775807) (hlb:bs.length≤9223372036854775807)
  (hL:Sl w ol 1 (fF ls)) (hA:Sl w oc 1 (fF us)) (hB:Sl w od 1 (fF bs)) :
  Calls aa 5 #[.slice ol ls.length cl,.slice oc us.length cc,.slice od bs.length cd,.int .i64 x,.int .i64 y,.int .i64 z] w (wz w):=by
 go_enter Tryz.func5,Tryz.ntmps5
 go_wp2_with fail
 refine (ZF w ol cl ls hL hll).mono ?_
 rintro e W1 ⟨jr,mr,ra,rc,rm,rd,rfl,hR,hb1⟩
 go_wp2_with fail
 have hbA:Below W1.heap.size W1 (W1.alloc (.cells #[.slice ra jr.length rc,.slice rm mr.length rd] 35)):=(aI _ _).alloc (au _) _
 have r13:=Row.new W1 [.slice ra jr.length rc,.slice rm mr.length rd] 35
 have hBlk:=(MapKept.heap_alloc W1 (.cells #[.slice ra jr.length rc,.slice rm mr.length rd] 35)).1
 have hge:w.heap.size≤W1.heap.size:=hb1.size
 have HV:=aG (jD hb1 hbA)
 have HR:=aG hR
 have HRJ:=aG (hR.2.2.2.2.1.keep hbA)
 have HRM:=aG (hR.2.2.2.2.2.keep hbA)
 have HBD:=aG (ac0 hR)
 have HL1:=aG hR.1
 have HL2:=aG hR.2.1
 have HA:=aG (hA.keep HV.out)
 have HBB:=aG (hB.keep HV.out)
 clear hbA hR hb1 hL hA hB
 generalize (W1.alloc (.cells #[.slice ra jr.length rc,.slice rm mr.length rd] 35))=V at r13 hBlk HV HRJ HRM HA HBB ⊢
 generalize W1.heap.size=n13 at r13 hBlk hge ⊢
 have s2:V.cell? ⟨n13,0,none⟩=some (.slice ra jr.length rc):=r13.c 0 _ rfl
 have s3:V.cell? ⟨n13,1,none⟩=some (.slice rm mr.length rd):=r13.c 1 _ rfl
 have l13:=r13.lt
 clear r13
 have jl:jr.length≤100:=by have:=HL1.out; omega
 go_region_held3 (fun W=>W.cell? ⟨n13,0,none⟩=some (.slice ra jr.length rc)∧W.cell? ⟨n13,1,none⟩=some (.slice rm mr.length rd)∧Below V.heap.size V W)
  (first | exact Pv l13 ⟨s2,s3,aI _ _⟩ (aI _ _).drew | exact Pv l13 (by assumption) (by assumption))
  (first
   | (have hxx:=HB3; clear hxx; go_at_call 18; refine (Nl _ _ _ _ _ _ jr mr.length bs _ jl HBD.out (HRJ.out.keep HB3.out) (HBB.out.keep HB3.out) hlb).mono ?_; rintro e X4 ⟨ks2,ok2,kc2,rfl,kl2,ki2,kS2,hb4⟩; have HB4:=aG (jD HB3.out hb4); have HK2:=aG kS2; have HK1':=aG (HK1.out.keep hb4); have HI2:=aG ki2; have HE2:=aG kl2; clear kl2 kS2 ki2)
   | (go_at_call 18; refine (Nl _ _ _ _ _ _ jr mr.length us _ jl HBD.out (HRJ.out.keep (aI _ _).drew) (HA.out.keep (aI _ _).drew) hla).mono ?_; rintro e X3 ⟨ks1,ok1,kc1,rfl,kl1,ki1,kS1,hb3⟩; have HB3:=aG (jD (aI _ _).drew hb3); have HK1:=aG kS1; have HI1:=aG ki1; have HE1:=aG kl1; clear kl1 kS1 ki1))
 rename_i K hK hHeld
 refine hK _ _ ?_
 refine aeJ (x:=x) (y:=y) (z:=z) (kc1:=kc1) (kc2:=kc2) (rc:=rc) (rd:=rd) (by kernel_rfl) HR.out (HRJ.out.keep HB4.out) (HRM.out.keep HB4.out) HI1.out HI2.out HE1.out HE2.out HK1'.out HK2.out ((HB4.out.block _ l13).trans hBlk) (jD HV.out HB4.out) hge rfl rfl (fun p hp=>?_)
 ·simp only [ag,ae,or_false] at hp
  rcases hp with rfl | rfl | rfl | rfl | rfl | rfl<;>rfl
end Go.Proofs.En
end
section
namespace Go.Proofs.En
open Go.RowKit
theorem Pw {A:Type} (P:Nat→A→Prop):∀n:Nat,(∀i,i<n→∃r,P i r)→∃rs:List A,rs.length=n∧∀(i:Nat) (r:A),rs[i]?=some r→P i r
 | 0,_=>⟨[],rfl,fun i r h=>by simp at h⟩
 | n+1,h=>by
  obtain ⟨rs,hl,hr⟩:=Pw P n fun i hi=>h i (by omega)
  obtain ⟨r,hp⟩:=h n (by omega)
  refine ⟨rs++[r],by simp [hl],fun i r' hi=>?_⟩
  rcases cu i rs.length with hlt | hge
  ·rw [aH hlt] at hi
   exact hr i r' hi
  ·rw [bu hge] at hi
   have:i=n:=by
    rcases Nat.eq_or_lt_of_le hge with h | h
    ·omega
    ·rw [bQ (by simp; omega)] at hi; cases hi
   subst this
   have e:i - rs.length=0:=by omega
   rw [e] at hi
   simp at hi
   subst hi
   exact hp
variable {w:World} {base fuel:Nat} {spare:Nat→Bool} {held:Bool} {t e:TypeId} {v:Value}
theorem aa0 {H:Type} {enc:TypeId×Value→H} {P:Program} {A:Type} (f:A→List Value) {n:Nat} {x:DataW H×List MemPlace} (ht:P.underlying t=some (.slice e)) (hc:P.cellsOf e=n) (hn:0<n)
  (hrow:∀(m:Nat) (cs:List Value) (y:DataW H×List MemPlace),DataW.trod enc P w base spare held m e cs=some y→∃r:A,cs=f r)
  (h:DataW.trod enc P w base spare held fuel t [v]=some x):∃(oa:Option Addr) (cap:Nat) (rs:List A),v=.slice oa rs.length cap∧rs.length≤9223372036854775807∧Sl w oa n (rs.map f):=by
 rcases Go.Deep.open_slice ht h with ⟨h0,_⟩ | ⟨a,len,cap,m,k,D,Pl,h1,hb,hl,hm,hmm,_,hx⟩
 ·injection h0 with h0 _
  subst h0
  exact ⟨none,0,[],rfl,by simp,fun h=>absurd rfl h⟩
 ·injection h1 with h1 _
  subst h1
  have hlm:len≤m:=by rw [hmm]; split<;>omega
  obtain ⟨rs,hrl,hr⟩:=Pw (fun i r=>w.cells? base (a.add (i*n)) n=some (f r)) len (fun i hi=>by
   obtain ⟨cs,c1,c2⟩:=hx i (by omega)
   rw [hc] at c1
   obtain ⟨r,rfl⟩:=hrow _ _ _ c2
   exact ⟨r,c1⟩)
  subst hrl
  refine ⟨some a,cap,rs,rfl,by unfold maxLen at hm; omega,fun hne=>?_⟩
  have hne':rs≠[]:=fun h=>hne (by simp [h])
  have cell:∀(i:Nat) (r:A),rs[i]?=some r→∀q u,(f r)[q]?=some u→w.cell? ((a.add (i*n)).add q)=some u:=by
   intro i r hi q u hq
   obtain ⟨_,c2,c3⟩:=World.cells?_some (hr i r hi)
   have hqn:q<n:=by
    rcases cu q (f r).length with h' | h'
    ·omega
    ·rw [bQ h'] at hq; cases hq
   rw [c3 q hqn,hq]
  have sp:a.spot=none:=by
   cases rs with
   | nil=>exact absurd rfl hne'
   | cons r0 rt =>
    obtain ⟨_,c2,c3⟩:=World.cells?_some (hr 0 r0 rfl)
    have c4:=c3 0 hn
    have:(f r0)[0]?=some ((f r0)[0]'(by omega)):=ah _
    rw [this] at c4
    cases hs:a.spot with
    | none=>rfl
    | some s =>
     exfalso
     have e0:((a.add (0*n)).add 0)=a:=by simp [Addr.add]
     rw [e0] at c4
     unfold bS at c4
     rw [hs] at c4
     revert c4
     cases w.heap[a.block]? with
     | none=>simp
     | some o=>cases o<;>simp
  obtain ⟨b,off,sp'⟩:=a
  simp at sp
  subst sp
  refine ⟨b,off,rfl,?_,fun i r hi q u hq=>?_⟩
  ·cases rs with
   | nil=>exact absurd rfl hne'
   | cons r0 rt =>
    obtain ⟨_,c2,c3⟩:=World.cells?_some (hr 0 r0 rfl)
    have c4:=c3 0 hn
    have:(f r0)[0]?=some ((f r0)[0]'(by omega)):=ah _
    rw [this] at c4
    rcases cu b w.heap.size with h' | h'
    ·exact h'
    ·exfalso
     have e0:(((⟨b,off,none⟩:Addr).add (0*n)).add 0)=⟨b,off,none⟩:=by simp [Addr.add]
     rw [e0] at c4
     simp [bS,afc h'] at c4
  ·rw [bY] at hi
   cases hri:rs[i]? with
   | none=>rw [hri] at hi; cases hi
   | some r' =>
    rw [hri] at hi
    simp at hi
    subst hi
    rw [←cell i r' hri q u hq]
    congr 1
    simp only [Addr.add]
    split<;>split<;>simp_all<;>omega
theorem ac7 {H:Type} {enc:TypeId×Value→H} (e:TypeId) (hu:aa.underlying e=some (.int .i64)) (m:Nat) (cs:List Value) (y:DataW H×List MemPlace) (h:DataW.trod enc aa w base spare held m e cs=some y):∃r:Int,cs=[.int .i64 r]:=by
 obtain ⟨n,rfl,_⟩:=DataW.trod_int hu h
 exact ⟨n,rfl⟩
theorem Io:aa.cellsOf 3=1:=by kernel_rfl
theorem KH {H:Type} {enc:TypeId×Value→H} {x:DataW H×List MemPlace} (ht:aa.underlying t=some (.slice e)) (hu:aa.underlying e=some (.int .i64)) (hc:aa.cellsOf e=1)
  (h:DataW.trod enc aa w base spare held fuel t [v]=some x):∃(oa:Option Addr) (cap:Nat) (rs:List Int),v=.slice oa rs.length cap∧rs.length≤9223372036854775807∧Sl w oa 1 (fF rs) :=
 aa0 (fun p:Int=>[.int .i64 p]) ht hc (by omega) (ac7 e hu) h
theorem laidOut:laidOutB aa=true:=by kernel_rfl
end Go.Proofs.En
end
