/-
  Part of the proof: see the last text.
-/
import Derived.Deep.DeepCutAuto
import Derived.Deep.CutBlock
import Derived.Deep.RegionHeld3
import Derived.Deep.Slices
import Derived.OpenShut
import Derived.ChangeArms
import Derived.Test.YthbfmjlcnfgnbaaGreatZEa
import Derived.Test.YthbfmjlcnfgnbaaGreatZSb
import Derived.Test.YthbfmjlcnfgnbaaGreatZXj
set_option linter.unusedVariables false
set_option maxHeartbeats 8000000
open Array renaming getElem?_eq_none→afc,getElem?_eq_some_iff→aB
open Go.RowKit.Below renaming heap_setCell→ae0,refl→aI,setCell→ag4
open Bool renaming and_eq_true→aQ
open Go.IntKind renaming i64→bg
open Go.IntWalk renaming i64_in→dz
open Go.Lib renaming hid→aG
open List renaming append_nil→afk,getElem?_append_left→aH,getElem?_append_right→bu,getElem?_drop→aeX,getElem?_eq_getElem→ah,getElem?_eq_none→bQ,getElem?_eq_some_iff→ai,getElem?_map→bY,getElem?_of_mem→cZ,getElem?_take→dx,length→ae1,length_append→afa,length_map→dF,map_cons→dI,map_eq_nil_iff→ag3,mem_cons→ag,mem_of_getElem?→aN,nodup_cons→ag5,not_mem_nil→ae
open Nat renaming le_refl→au,le_trans→aZ,lt_of_lt_of_le→aC,lt_or_ge→cu
open Option renaming map_eq_some_iff→aR
open Go.Proofs.Tryz renaming f6→ag2,prog→aa
open Go.World renaming cell?→bS,frozen?→ae2,setCell→afg
section
namespace Go.Proofs.En
open Go.RowKit
theorem Yv:(aa.info? 80).map (fun i=>(i.zero,i.size,i.bytes))=some (some (.agg #[.string ⟨#[]⟩,.int .i64 0,.int .i64 0,.int .i64 0,.int .i64 0,.int .i64 0,.int .i64 0,.int .i64 0,.int .i64 0,.int .i64 0,.int .i64 0,.int .i64 0]),12,104):=by kernel_rfl
theorem Yu:(aa.info? 54).map (fun i=>(i.zero,i.size,i.bytes))=some (some (.agg #[.int .i64 0,.int .i64 0,.int .i64 0,.int .i64 0,.int .i64 0]),5,40):=by kernel_rfl
theorem Yt:(aa.info? 2).map (fun i=>(i.zero,i.size,i.bytes))=some (some (.int .i64 0),1,8):=by kernel_rfl
theorem aek:aa.underlying 32=some (.slice 80):=by kernel_rfl
theorem ael:aa.underlying 33=some (.slice 54):=by kernel_rfl
theorem Md:aa.underlying 37=some (.slice 2):=by kernel_rfl
theorem Dg (W:World) (l:List Value) (t:TypeId):∀(j:Nat) (u:Value),l[j]?=some u→(W.alloc (.cells l.toArray t)).cell? ((⟨W.heap.size,0,none⟩:Addr).add j)=some u:=by
 intro j u hu
 have:=(Row.new W l t).c j u hu
 rw [←this]
 congr 1
 unfold Addr.add
 split<;>simp_all
theorem YW (j:JV):∀u∈j.vals,u.oneCell'=true:=by
 intro u hu
 simp [JV.vals] at hu
 rcases hu with rfl | rfl | rfl | rfl | rfl | rfl | rfl | rfl | rfl | rfl | rfl | rfl<;>rfl
theorem ZM (j:MV):∀u∈j.vals,u.oneCell'=true:=by
 intro u hu
 simp [MV.vals] at hu
 rcases hu with rfl | rfl | rfl | rfl | rfl<;>rfl
theorem Zx (n:Nat) (a b c d:Int) (h1:0≤a∧a<n) (h2:0≤b∧b<9000) (h3:-3≤c∧c≤3) (h4:-2≤d∧d≤2):kK n ⟨a,bg.wrap (1+b),bg.wrap (c*32768),0,bg.wrap (d*32768)⟩=true:=by
 rw [dz _ (by omega),dz _ (by omega),dz _ (by omega)]
 simp [kK,lv,wD,AJ]; omega
variable {n:Nat}
theorem Zz {ms:List MV} {m:MV} (h:∀(k:Nat) (m:MV),ms[k]?=some m→kK n m=true) (hm:kK n m=true):∀(k:Nat) (m':MV),(ms++[m])[k]?=some m'→kK n m'=true:=by
 intro k m' hk
 have:=aN hk
 simp at this
 rcases this with h1 | rfl
 ·obtain ⟨i,hi⟩:=cZ h1
  exact h i _ hi
 ·exact hm
theorem agS {W:World} {base size cap m:Nat} {e:TypeId} {oa:Option Addr} {xs:List Value} (h:W.ownsRow base e size (.slice oa n cap) m xs):n≤cap∧(oa=none→cap=0):=by
 rcases h.2 with ⟨h1,_⟩ | ⟨g,cap',cur,h1,_,_,h2,_⟩
 ·injection h1 with h1 h3 h4
  exact ⟨by omega,fun _=>h4⟩
 ·injection h1 with h1 h3 h4
  subst h1 h3 h4
  exact ⟨h2,fun e=>by cases e⟩
def Vz (w:World) (nS:Nat) (e:Ending) (W':World):Prop:=∃js ms oa cj om cm,e=.returned (.agg #[.slice oa (ae1 js) cj,.slice om (ae1 ms) cm])∧(∀W'',(∀g,w.heap.size≤g→g<W'.heap.size→W''.heap[g]?=W'.heap[g]?)→Cf js ms oa om W'')∧w.grownBy W' (some nS)∧(ms.length≤cm∧(om=none→cm=0))
set_option maxRecDepth 100000 in
theorem ac2 (w:World) (nS:Nat) (os:Option Addr) (cap:Nat) (xs:List Int) (hS:Src w nS os cap xs) :
  Calls aa 36 #[.pointer (some ⟨nS,0,none⟩)] w (Vz w nS):=by
 go_enter Tryz.func36,Tryz.ntmps36
 go_wp2_with fail
 have hR:RB w nS w.heap.size (w.heap.size+1) os cap xs [] [] (.slice none 0 0) (.slice none 0 0) ((w.alloc (.cells #[.slice none 0 0,.slice none 0 0] 35)).alloc (.cells #[.slice none 0 0,.slice none 0 0] 35)):=by
  have hb1:Below w.heap.size w (w.alloc (.cells #[.slice none 0 0,.slice none 0 0] 35)):=(aI _ _).alloc (au _) _
  have hb2:Below (w.alloc (.cells #[.slice none 0 0,.slice none 0 0] 35)).heap.size (w.alloc (.cells #[.slice none 0 0,.slice none 0 0] 35)) ((w.alloc (.cells #[.slice none 0 0,.slice none 0 0] 35)).alloc (.cells #[.slice none 0 0,.slice none 0 0] 35)):=(aI _ _).alloc (au _) _
  have e:(w.alloc (.cells #[.slice none 0 0,.slice none 0 0] 35)).heap.size=w.heap.size+1:=by simp
  have B2:=eG.new (w.alloc (.cells #[.slice none 0 0,.slice none 0 0] 35)) [.slice none 0 0,.slice none 0 0] 35
  rw [e] at B2
  exact ⟨zy (jD hb1 hb2),(hS.yl hb1).yl hb2,⟨_,_,(eG.new w [.slice none 0 0,.slice none 0 0] 35).keep hb2⟩,B2,World.ownsRow_nil _ _ _ _,World.ownsRow_nil _ _ _ _,(fun g h=>by cases h),by simp,(fun k j h=>by simp at h),hS.ints,GM hS,au _,Nat.lt_succ_self _⟩
 generalize ((w.alloc (.cells #[.slice none 0 0,.slice none 0 0] 35)).alloc (.cells #[.slice none 0 0,.slice none 0 0] 35))=W0 at hR ⊢
 generalize hn2:w.heap.size=n2 at hR ⊢
 generalize hn3:n2+1=n3 at hR ⊢
 have HN2:=aG hn2
 clear hn2 hn3
 refine (oQ _ nS os cap xs 3 hR.src (by omega) (by omega)).mono ?_
 rintro e W1 ⟨r,r1,r2,rfl,hg1,hS1⟩
 replace hR:=hR.call hg1 hS1
 clear hg1 hS1 hS
 have hn1:1≤1+r∧1+r≤3:=by omega
 go_wp2_with fail
 generalize 1+r=n at hn1 ⊢
 clear r1 r2
 go_loopw [5] (fun i W=>∃js v,i=.int .i64 (ae1 js:Nat)∧(js.length:Int)≤n∧RB w nS n2 n3 os cap xs js [] v (.slice none 0 0) W) (fun i _=>(n - intOf i).toNat)
 case atStart=>exact ⟨[],_,rfl,by simp; omega,hR⟩
 case round =>
  clear hR
  obtain ⟨js,v,rfl,hk,hR⟩:=hrel
  by_cases hlt:(js.length:Int)<n
  ·obtain ⟨i0,hi,hz0,hz1,hz2⟩:=info_parts Yv
   go_upto_block 1 with fail
   go_cut [] (fun W=>∃j v',RB w nS n2 n3 os cap xs (js++[j]) [] v' (.slice none 0 0) W)
   case first =>
    have c0:wr.cell? ⟨n3,0,none⟩=some v:=hR.b3.c 0 _ rfl
    have f0:=hR.b3.f 0
    have l3:=hR.b3.lt
    go_wp2_with fail
    have hS0:Src wr.drew nS os cap xs:=hR.src.yl (aI _ _).drew
    have hk3:(js.length:Int)≤3:=by omega
    go_region_law (first
     | (refine step_append_lies _ rfl (.tmp 16) (.tmp 20) 32 rfl (n3+1) 80 i0 _ 12 104 aek hi hz0 hz1 hz2 rfl (by decide) v js.length (AV js) (by simp [Act.eval]) HA.out.oj ⟨W2.heap.size,0,none⟩ 1 1 j.vals (by simp [Act.eval]) rfl (Dg _ _ _) (YW j) (by decide) (by unfold maxLen; omega) (by omega) HA.out.hb _ rfl ?_; intro g c W3 hown hgrow hat hlt3; have hB3:=HA.out.b3.low (Nat.lt_succ_self _) (yh HA.out.oj hgrow HA.out.hb); have c04:=hB3.c 0 _ rfl; have f04:=hB3.f 0; have HO:=aG hown; clear hown)
     | (go_simp; go_at_call 61; refine (YG _ nS os cap xs _ hS0 (by omega) hk3).mono ?_; rintro e W2 ⟨j,hGj,he,hg2,hS2⟩; replace he:e=.returned (.agg #[.string j.name,.int .i64 j.kind,.int .i64 j.parent,.int .i64 j.o0,.int .i64 j.o1,.int .i64 j.o2,.int .i64 j.lo,.int .i64 j.hi,.int .i64 j.weight,.int .i64 j.speed,.int .i64 j.iL,.int .i64 j.iO]):=he; subst he; have HR2:=aG ((hR.gW (aI _ _).drew).call hg2 hS2); have c02:=HR2.out.b3.c 0 _ rfl; have HA:=aG (HR2.out.gW (W':=W2.alloc (.cells #[.string j.name,.int .i64 j.kind,.int .i64 j.parent,.int .i64 j.o0,.int .i64 j.o1,.int .i64 j.o2,.int .i64 j.lo,.int .i64 j.hi,.int .i64 j.weight,.int .i64 j.speed,.int .i64 j.iL,.int .i64 j.iO] 80)) ((aI _ _).alloc (au _) _)); have c03:=HA.out.b3.c 0 _ rfl))
    all_goals
     go_wp2_with fail
     go_meet
     exact ⟨j,_,HA.out.appJ j hGj g c HO.out hgrow hat⟩
   case rest =>
    clear hR
    obtain ⟨j,v',hR⟩:=hcut
    go_wp2
    go_roundw
    case rel=>exact ⟨js++[j],v',by simp,by simp; omega,hR⟩
    case measure=>simp [intOf]; omega
  ·have hle:n=(js.length:Int):=by omega
   go_wp2_with fail
   refine (oQ _ nS os cap xs 3 hR.src (by omega) (by omega)).mono ?_
   rintro e W2 ⟨q,q1,q2,rfl,hg2,hS2⟩
   replace hR:=hR.call hg2 hS2
   clear hg2 hS2
   have hjl:1≤js.length∧js.length≤3:=by omega
   clear hk hlt
   go_wp2_with fail
   go_loopw [6] (fun i W=>∃(k:Int) (ms:List MV) (u:Value),i=.int .i64 k∧0≤k∧(ms.length:Int)+k≤2∧(∀(k:Nat) (m:MV),ms[k]?=some m→kK js.length m=true)∧RB w nS n2 n3 os cap xs js ms v u W) (fun i _=>(intOf i).toNat)
   case atStart=>exact ⟨q,[],_,rfl,q1,by simp; omega,by simp,hR⟩
   case round =>
    clear hR q1 q2
    obtain ⟨k,ms,u,rfl,hk0,hk,hgm,hR⟩:=hrel
    have HGM:=aG hgm
    clear hgm
    by_cases hlt:0<k
    ·obtain ⟨i0,hi,hz0,hz1,hz2⟩:=info_parts Yu
     go_upto_block 3 with fail
     go_cut [] (fun W=>∃m u',kK js.length m=true∧RB w nS n2 n3 os cap xs js (ms++[m]) v u' W)
     case first =>
      have c0:wr.cell? ⟨n3,1,none⟩=some u:=hR.b3.c 1 _ rfl
      have f0:=hR.b3.f 1
      have l3:=hR.b3.lt
      have hS0:Src wr.drew nS os cap xs:=hR.src.yl (aI _ _).drew
      go_wp2_with fail
      go_region_law (first
       | (have hxx:=HA; clear hxx; refine step_append_lies _ rfl (.tmp 30) (.tmp 45) 33 rfl (n3+1) 54 i0 _ 5 40 ael hi hz0 hz1 hz2 rfl (by decide) u ms.length (Bc ms) (by simp [Act.eval]) HA.out.om ⟨V4.heap.size,0,none⟩ 1 1 (MV.vals ⟨a1,bg.wrap (1+a2),bg.wrap (a3*32768),0,bg.wrap (a4*32768)⟩) (by simp [Act.eval]) rfl (Dg _ _ _) (ZM _) (by decide) (by unfold maxLen; omega) (by omega) HA.out.hb _ rfl ?_; intro g c W3 hown hgrow hat hlt3; have hB3:=HA.out.b3.low (Nat.lt_succ_self _) (yh HA.out.om hgrow HA.out.hb); have c04:=hB3.c 1 _ rfl; have f04:=hB3.f 1; have HO:=aG hown; clear hown)
       | (have hxx:=hS3; clear hxx; go_simp; go_at_call 62; refine (GG _ nS os cap xs 2 hS3 (by omega) (by omega)).mono ?_; rintro e V4 ⟨a4,a41,a42,rfl,hg4,hS4⟩; have HR4:=aG (HR3.out.call hg4 hS4); clear hg4; have c14:=HR4.out.b3.c 1 _ rfl; have HA:=aG (HR4.out.gW (W':=V4.alloc (.cells #[.int .i64 a1,.int .i64 (bg.wrap (1+a2)),.int .i64 (bg.wrap (a3*32768)),.int .i64 0,.int .i64 (bg.wrap (a4*32768))] 54)) ((aI _ _).alloc (au _) _)); have c15:=HA.out.b3.c 1 _ rfl)
       | (have hxx:=hS2; clear hxx; go_simp; go_at_call 62; refine (GG _ nS os cap xs 3 hS2 (by omega) (by omega)).mono ?_; rintro e V3 ⟨a3,a31,a32,rfl,hg3,hS3⟩; have HR3:=aG (HR2.out.call hg3 hS3); clear hg3; have c13:=HR3.out.b3.c 1 _ rfl)
       | (have hxx:=hS1; clear hxx; go_simp; go_at_call 38; refine (oQ _ nS os cap xs 9000 hS1 (by omega) (by omega)).mono ?_; rintro e V2 ⟨a2,a21,a22,rfl,hg2,hS2⟩; have HR2:=aG (HR1.out.call hg2 hS2); clear hg2; have c12:=HR2.out.b3.c 1 _ rfl)
       | (go_simp; go_at_call 38; refine (oQ _ nS os cap xs js.length hS0 (by omega) (by omega)).mono ?_; rintro e V1 ⟨a1,a11,a12,rfl,hg1,hS1⟩; have HR1:=aG ((hR.gW (aI _ _).drew).call hg1 hS1); clear hg1; have c11:=HR1.out.b3.c 1 _ rfl))
      all_goals
       go_wp2_with fail
       go_meet
       exact ⟨_,_,Zx _ a1 a2 a3 a4 ⟨a11,a12⟩ ⟨a21,a22⟩ ⟨a31,a32⟩ ⟨a41,a42⟩,HA.out.VK _ g c HO.out hgrow hat⟩
     case rest =>
      clear hR
      obtain ⟨m,u',hm,hR⟩:=hcut
      go_wp2
      go_roundw
      case rel=>exact ⟨k - 1,ms++[m],u',by simp,by omega,by simp; omega,Zz HGM.out hm,hR⟩
      case measure=>simp [intOf]; omega
    ·obtain ⟨oa,cj,om,cm,rfl,rfl,s1,s2⟩:=hR.done
     obtain ⟨x,y,hb2⟩:=hR.b2
     have d0:=hR.b3.c 0 _ rfl
     have d1:=hR.b3.c 1 _ rfl
     have e0:=hb2.c 0 _ rfl
     have e1:=hb2.c 1 _ rfl
     have f0:=hb2.f 0
     have f1:=hb2.f 1
     have l2:=hb2.lt
     have l3:=hR.b3.lt
     have HC:=aG (agS hR.om)
     have HR:=aG hR
     have HS1:=aG s1
     have HS2:=aG s2
     clear hR s1 s2 hb2
     go_wp2_with fail
     have hF:=HR.out.acy (.slice oa js.length cj) (.slice om ms.length cm)
     refine bodyPost_ret (v:=.agg #[.slice oa js.length cj,.slice om ms.length cm]) (by simp [results,Tryz.results36,go_sem,e0,e1]) rfl ⟨js,ms,oa,cj,om,cm,rfl,?_,hF.gr,HC.out⟩
     intro W'' hag
     obtain ⟨oa',cj',om',cm',q1,q2,s1,s2⟩:=QG hF hag
     injection q1 with q1 _ q1'
     injection q2 with q2 _ q2'
     subst q1 q2
     exact ⟨hjl,by omega,hF.gj,HGM.out,s1,s2⟩
end Go.Proofs.En
end
section
namespace Go.Proofs.En
open Go.RowKit
def age (w:World) (e:Ending) (W':World):Prop:=∃js ms oa cj om cm,e=.returned (.agg #[.slice oa (ae1 js) cj,.slice om (ae1 ms) cm])∧Cf js ms oa om W'∧Below w.heap.size w W'∧(ms.length≤cm∧(om=none→cm=0))
theorem UB (w:World) (os:Option Addr) (cap:Nat) (xs:List Int) (hI:Sl w os 1 (fF xs)) (hl:xs.length≤9223372036854775807):Src (w.alloc (.cells #[.slice os xs.length cap,.int .i64 0] 120)) w.heap.size os cap xs:=by
 refine ⟨⟨0,by omega,iw.new w _ _ 120⟩,hI.keep ((aI _ _).alloc (au _) _),?_,hl⟩
 intro hne b o s e
 obtain ⟨b',off',e',hr⟩:=hI (by intro h; exact hne (by simpa [fF] using h))
 rw [e] at e'
 injection e' with e'
 injection e' with e' _ _
 have:=hr.lt
 omega
theorem agP (w:World) (os:Option Addr) (cap:Nat) (xs:List Int) (hI:Sl w os 1 (fF xs)) (hl:xs.length≤9223372036854775807) :
  Calls aa 17 #[.slice os xs.length cap] w (age w):=by
 go_enter Tryz.func17,Tryz.ntmps17
 go_wp2_with fail
 have hB0:Below w.heap.size w (w.alloc (.cells #[.slice none 0 0,.slice none 0 0] 35)):=(aI _ _).alloc (au _) _
 have b0:=eG.new w [.slice none 0 0,.slice none 0 0] 35
 have hI0:=hI.keep hB0
 generalize (w.alloc (.cells #[.slice none 0 0,.slice none 0 0] 35))=W0 at hB0 b0 hI0 ⊢
 generalize hn:w.heap.size=n2 at b0 ⊢
 have HN:=aG hn
 clear hn
 refine (O8 os cap xs.length W0).mono ?_
 rintro e W1 ⟨rfl,rfl⟩
 have hS:=UB W0 os cap xs hI0 hl
 have hB1:Below W0.heap.size W0 (W0.alloc (.cells #[.slice os xs.length cap,.int .i64 0] 120)):=(aI _ _).alloc (au _) _
 have b1:=b0.keep hB1
 have hne:n2≠W0.heap.size:=Nat.ne_of_lt b0.lt
 have hn2:n2<(W0.alloc (.cells #[.slice os xs.length cap,.int .i64 0] 120)).heap.size:=b1.lt
 have hwS:w.heap.size≤W0.heap.size:=hB0.size
 have HB1:=aG (jD hB0 hB1)
 clear hB0 hB1 b0
 generalize (W0.alloc (.cells #[.slice os xs.length cap,.int .i64 0] 120))=W1 at hS b1 HB1 hn2 ⊢
 generalize W0.heap.size=nS at hS hne hwS ⊢
 go_wp2_with fail
 refine (ac2 W1 nS os cap xs hS).mono ?_
 rintro e W2 ⟨js,ms,oa,cj,om,cm,rfl,hP,hg,hcap⟩
 have HCP:=aG hcap
 clear hcap
 have b2:=b1.rF hg hne
 have hB2:Below w.heap.size w W2:=⟨hg.os.trans HB1.out.os,hg.tape.trans HB1.out.tape,hg.output.trans HB1.out.output,aZ HB1.out.size hg.size,fun k hk=>(hg.block k (aC hk HB1.out.size) (fun e=>by injection e; omega)).trans (HB1.out.block k hk)⟩
 have e0:=b2.c 0 _ rfl
 have e1:=b2.c 1 _ rfl
 have f0:=b2.f 0
 have f1:=b2.f 1
 have l2:=b2.lt
 have HP:=aG hP
 have HB2:=aG hB2
 clear hP hB2 b1 b2 hg HB1
 go_wp2_with fail
 have hBF:Below w.heap.size w ((W2.setCell ⟨n2,0,none⟩ (.slice oa js.length cj)).setCell ⟨n2,1,none⟩ (.slice om ms.length cm)):=(HB2.out.setCell (p:=⟨n2,0,none⟩) (Nat.le_of_eq HN.out) _).setCell (p:=⟨n2,1,none⟩) (Nat.le_of_eq HN.out) _
 refine bodyPost_ret (v:=.agg #[.slice oa js.length cj,.slice om ms.length cm]) (by simp [results,Tryz.results17,go_sem,e0,e1]) rfl ⟨js,ms,oa,cj,om,cm,rfl,HP.out _ ?_,hBF,HCP.out⟩
 intro g h1 h2
 exact (ae0 _ ⟨n2,1,none⟩ _ g (show g≠n2 by omega)).trans (ae0 _ ⟨n2,0,none⟩ _ g (show g≠n2 by omega))
end Go.Proofs.En
end
section
namespace Go.Proofs.En
open Go.RowKit
def Dl (ps:List Int):List Value:=ps.map fun p=>.int .i64 p
theorem FV (ps:List Int):(fF ps).flatten=Dl ps:=by
 induction ps with
 | nil=>rfl
 | cons a t ih=>simp only [fF,Dl,dI,List.flatten_cons] at ih ⊢; rw [ih]; rfl
theorem QX (ps:List Int):(fF ps).length=ps.length:=by simp [fF]
def AQ (js:List JV) (ps:List Int):Prop:=∀(k:Nat) (j:JV) (p:Int),js[k]?=some j→ps[k]?=some p→j.lo≤p∧p≤j.hi
variable {js:List JV} {ps:List Int} {j:JV} {p:Int}
theorem Ym (h:AQ js ps) (hj:js[ps.length]?=some j) (hp:j.lo≤p∧p≤j.hi):AQ js (ps++[p]):=by
 intro k j' p' h1 h2
 rcases cu k ps.length with hlt | hge
 ·rw [aH hlt] at h2
  exact h k j' p' h1 h2
 ·rw [bu hge] at h2
  have:k=ps.length:=by
   rcases Nat.eq_or_lt_of_le hge with h | h
   ·exact h.symm
   ·rw [bQ (by simp; omega)] at h2; cases h2
  subst this
  simp at h2
  subst h2
  rw [hj] at h1
  injection h1 with h1
  subst h1
  exact hp
structure CI (w Wb:World) (n2 nS:Nat) (rv:List Value) (os:Option Addr) (cap:Nat) (xs:List Int) (js:List JV) (ps:List Int) (v:Value) (W:World):Prop where
 gW:Below w.heap.size w W
 r2:Row W n2 rv
 src:Src W nS os cap xs
 own:W.ownsRow Wb.heap.size 2 1 v ps.length (Dl ps)
 hb:Wb.heap.size≤W.heap.size
 i0:Sl Wb os 1 (fF xs)
 h2:w.heap.size≤n2
 h3:n2<nS
 h4:nS<Wb.heap.size
 EP:AQ js ps
variable {w Wb W W':World} {n2 nS cap:Nat} {rv:List Value} {os:Option Addr} {xs:List Int} {v:Value}
theorem CI.call (h:CI w Wb n2 nS rv os cap xs js ps v W) (hg:W.grownBy W' (some nS)) (hS:Src W' nS os cap xs):CI w Wb n2 nS rv os cap xs js ps v W':=by
 have h2:=h.h2; have h3:=h.h3; have h4:=h.h4
 have ne:∀k,k≠nS→k<W.heap.size→W'.heap[k]?=W.heap[k]?:=fun k hk hl=>hg.block k hl (fun e=>hk (by injection e))
 refine ⟨⟨hg.os.trans h.gW.os,hg.tape.trans h.gW.tape,hg.output.trans h.gW.output,aZ h.gW.size hg.size,fun k hk=>(ne k (by omega) (aC hk h.gW.size)).trans (h.gW.block k hk)⟩,?_,hS,uY h.own fun g _ hl hb=>ne g (by omega) hl,aZ h.hb hg.size,h.i0,h2,h3,h4,h.EP⟩
 have e:=ne n2 (by omega) h.r2.lt
 refine ⟨fun j v hj=>?_,aC h.r2.lt hg.size⟩
 rw [←h.r2.c j v hj]
 simp [bS,e]
theorem CI.keep {w Wb W W':World} {n2 nS:Nat} {rv:List Value} {os:Option Addr} {cap:Nat} {xs:List Int} {js:List JV} {ps:List Int} {v:Value} (h:CI w Wb n2 nS rv os cap xs js ps v W) (hb:Below W.heap.size W W'):CI w Wb n2 nS rv os cap xs js ps v W' :=
 ⟨jD h.gW hb,h.r2.keep hb,h.src.yl hb,yx h.own hb,aZ h.hb hb.size,h.i0,h.h2,h.h3,h.h4,h.EP⟩
theorem CI.app {W1:World} {v':Value} (h:CI w Wb n2 nS rv os cap xs js ps v W) (hj:js[ps.length]?=some j) (hp:j.lo≤p∧p≤j.hi)
  (ho:W1.ownsRow Wb.heap.size 2 1 v' (ps.length+1) (Dl ps++[.int .i64 p])) (hg:W.grownBy W1 v.ownBlock):CI w Wb n2 nS rv os cap xs js (ps++[p]) v' W1:=by
 have h2:=h.h2; have h3:=h.h3; have h4:=h.h4
 have B:=yh h.own hg h.hb
 refine ⟨h.gW.trans (B.mono (by omega)),h.r2.low (by omega) B,h.src.low h.i0 h4 B,?_,aZ h.hb hg.size,h.i0,h2,h3,h4,Ym h.EP hj hp⟩
 rw [afa,Dl,List.map_append]
 exact ho
theorem CI.done (h:CI w Wb n2 nS rv os cap xs js ps v W):∃oa c,v=.slice oa ps.length c∧Sl W oa 1 (fF ps):=by
 obtain ⟨oa,c,e,s⟩:=KM (rows:=fF ps) (n:=1) (by intro r hr; simp [fF] at hr; obtain ⟨j,_,rfl⟩:=hr; rfl) (by rw [QX,FV]; exact h.own)
 rw [QX] at e
 exact ⟨oa,c,e,s⟩
def agd (js:List JV) (w:World) (e:Ending) (W':World):Prop:=∃(ps:List Int) (oa:Option Addr) (c:Nat),e=.returned (.slice oa ps.length c)∧ps.length=js.length∧AQ js ps∧Sl W' oa 1 (fF ps)∧Below w.heap.size w W'∧∀a,oa=some a→w.heap.size≤a.block
theorem agT {base size n m:Nat} {e:TypeId} {oa:Option Addr} {xs:List Value} (h:W.ownsRow base e size (.slice oa n cap) m xs):∀a,oa=some a→base≤a.block:=fun a ha=>by
 rcases h.2 with ⟨h1,_⟩ | ⟨g,cap',cur,h1,h2,_⟩
 ·injection h1 with h1
  rw [h1] at ha; cases ha
 ·injection h1 with h1
  rw [h1] at ha; injection ha with ha; subst ha; exact h2
set_option maxRecDepth 100000 in
theorem afU (oa om os:Option Addr) (cj cm cap:Nat) (js:List JV) (nm:Nat) (xs:List Int) (w:World) (hj:js.length≤100) (hbd:∀(k:Nat) (j:JV),js[k]?=some j→-1000000000≤j.lo∧j.lo≤j.hi∧j.hi≤1000000000) (hJ:Sl w oa 12 (js.map JV.vals)) (hI:Sl w os 1 (fF xs)) (hl:xs.length≤9223372036854775807) :
  Calls aa 18 #[.agg #[.slice oa js.length cj,.slice om nm cm],.slice os xs.length cap] w (agd js w):=by
 go_enter Tryz.func18,Tryz.ntmps18
 go_wp2_with fail
 have hB0:Below w.heap.size w (w.alloc (.cells #[.slice oa js.length cj,.slice om nm cm] 35)):=(aI _ _).alloc (au _) _
 have r0:=Row.new w [.slice oa js.length cj,.slice om nm cm] 35
 have hI0:=hI.keep hB0
 generalize (w.alloc (.cells #[.slice oa js.length cj,.slice om nm cm] 35))=W0 at hB0 r0 hI0 ⊢
 generalize hn:w.heap.size=n2 at r0 ⊢
 have HN:=aG hn
 clear hn
 refine (O8 os cap xs.length W0).mono ?_
 rintro e W1 ⟨rfl,rfl⟩
 have hS:=UB W0 os cap xs hI0 hl
 have hB1:Below W0.heap.size W0 (W0.alloc (.cells #[.slice os xs.length cap,.int .i64 0] 120)):=(aI _ _).alloc (au _) _
 have hC:CI w (W0.alloc (.cells #[.slice os xs.length cap,.int .i64 0] 120)) n2 W0.heap.size [.slice oa js.length cj,.slice om nm cm] os cap xs js [] (.slice none 0 0) (W0.alloc (.cells #[.slice os xs.length cap,.int .i64 0] 120)) :=
  ⟨jD hB0 hB1,r0.keep hB1,hS,World.ownsRow_nil _ _ _ _,au _,hI0.keep hB1,Nat.le_of_eq HN.out,r0.lt,GM hS,fun k j p _ h=>by simp at h⟩
 clear hB0 hB1 hS r0 hI0 HN hI
 generalize (W0.alloc (.cells #[.slice os xs.length cap,.int .i64 0] 120))=W1 at hC ⊢
 generalize W0.heap.size=nS at hC ⊢
 have HBD:=aG hbd
 clear hbd
 go_wp2_with fail
 go_loopw [6,7] (fun v i W=>∃ps:List Int,ps.length≤js.length∧i=.int .i64 (ps.length:Nat)∧CI w W1 n2 nS [.slice oa js.length cj,.slice om nm cm] os cap xs js ps v W) (fun _ i _=>js.length - (intOf i).toNat)
 case atStart=>exact ⟨[],by simp,rfl,hC⟩
 case round =>
  clear hC
  obtain ⟨ps,hk,rfl,hC⟩:=hrel
  have s0:wr.cell? ⟨n2,0,none⟩=some (.slice oa js.length cj):=hC.r2.c 0 _ rfl
  have l2:=hC.r2.lt
  by_cases hlt:ps.length<js.length
  ·obtain ⟨j,hj'⟩:∃j,js[ps.length]?=some j:=⟨_,ah hlt⟩
   obtain ⟨b,off,rfl,hJr⟩:=(hJ.keep hC.gW) (AX hlt)
   have x6:wr.cell? ⟨b,off+ps.length*12+6,none⟩=some (.int .i64 j.lo):=hJr.c ps.length _ (iX hj') 6 _ rfl
   have x7:wr.cell? ⟨b,off+ps.length*12+7,none⟩=some (.int .i64 j.hi):=hJr.c ps.length _ (iX hj') 7 _ rfl
   have lb:=hJr.lt
   have hbj:=HBD.out _ _ hj'
   have HJ':=aG hj'
   clear hj' hJr
   go_wp2_with fail
   go_quiet (fail)
   replace hC:=hC.keep (vG wr nq)
   clear s0 l2 x6 x7 lb
   generalize wr.drewN nq=V at hC ⊢
   go_wp2_with fail
   refine (oQ _ nS os cap xs 6 hC.src (by omega) (by omega)).mono ?_
   rintro e W2 ⟨q,q1,q2,rfl,hg2,hS2⟩
   replace hC:=hC.call hg2 hS2
   clear hg2 hS2
   obtain ⟨i0,hi,hz0,hz1,hz2⟩:=info_parts Yt
   by_cases h0:q=0
   ·have h0':(q==0)=true:=by rw [h0]; rfl
    clear h0
    have HC2:=aG (hC.keep (W':=W2.alloc (.cells #[.int .i64 j.lo] 2)) ((aI _ _).alloc (au _) _))
    go_wp2_with (at_builtin; refine wpList_append_own _ rfl _ _ 37 rfl W1.heap.size 2 i0 (.int .i64 0) 1 8 Md hi hz0 hz1 hz2 rfl (by decide) _ _ _ rfl HC2.out.own ⟨W2.heap.size,0,none⟩ 1 1 [.int .i64 j.lo] rfl rfl ?c1 ?c2 ?c3 ?c4 ?c5 ?_)
    case c1=>exact Dg _ _ _
    case c2=>intro u hu; simp at hu; subst hu; rfl
    case c3=>unfold maxLen; omega
    case c4=>omega
    case c5=>exact HC2.out.hb
    intro v' w' hown' hgrow _
    have HN:=aG (HC2.out.app HJ'.out (p:=j.lo) (by omega) hown' hgrow)
    clear hown' hgrow HC2 hC hi hz0 hz1 hz2
    go_wp2
    go_roundw
    case rel=>exact ⟨ps++[j.lo],by simp; omega,by simp,HN.out⟩
    case measure=>simp [intOf]; omega
   ·have h0':(q==0)=false:=beq_eq_false_iff_ne.2 h0
    by_cases h1:q=1
    ·have h1':(q==1)=true:=by rw [h1]; rfl
     clear h1 h0
     have HC2:=aG (hC.keep (W':=W2.alloc (.cells #[.int .i64 j.hi] 2)) ((aI _ _).alloc (au _) _))
     go_wp2_with (at_builtin; refine wpList_append_own _ rfl _ _ 37 rfl W1.heap.size 2 i0 (.int .i64 0) 1 8 Md hi hz0 hz1 hz2 rfl (by decide) _ _ _ rfl HC2.out.own ⟨W2.heap.size,0,none⟩ 1 1 [.int .i64 j.hi] rfl rfl ?c1 ?c2 ?c3 ?c4 ?c5 ?_)
     case c1=>exact Dg _ _ _
     case c2=>intro u hu; simp at hu; subst hu; rfl
     case c3=>unfold maxLen; omega
     case c4=>omega
     case c5=>exact HC2.out.hb
     intro v' w' hown' hgrow _
     have HN:=aG (HC2.out.app HJ'.out (p:=j.hi) (by omega) hown' hgrow)
     clear hown' hgrow HC2 hC hi hz0 hz1 hz2
     go_wp2
     go_roundw
     case rel=>exact ⟨ps++[j.hi],by simp; omega,by simp,HN.out⟩
     case measure=>simp [intOf]; omega
    ·have h1':(q==1)=false:=beq_eq_false_iff_ne.2 h1
     go_wp2_with fail
     refine (oQ _ nS os cap xs _ hC.src (by omega) (by omega)).mono ?_
     rintro e W3 ⟨z,z1,z2,rfl,hg3,hS3⟩
     replace hC:=hC.call hg3 hS3
     clear hg3 hS3
     have HC2:=aG (hC.keep (W':=W3.alloc (.cells #[.int .i64 (j.lo+z)] 2)) ((aI _ _).alloc (au _) _))
     go_wp2_with (at_builtin; refine wpList_append_own _ rfl _ _ 37 rfl W1.heap.size 2 i0 (.int .i64 0) 1 8 Md hi hz0 hz1 hz2 rfl (by decide) _ _ _ rfl HC2.out.own ⟨W3.heap.size,0,none⟩ 1 1 [.int .i64 (j.lo+z)] rfl rfl ?c1 ?c2 ?c3 ?c4 ?c5 ?_)
     case c1=>exact Dg _ _ _
     case c2=>intro u hu; simp at hu; subst hu; rfl
     case c3=>unfold maxLen; omega
     case c4=>omega
     case c5=>exact HC2.out.hb
     intro v' w' hown' hgrow _
     have HN:=aG (HC2.out.app HJ'.out (p:=j.lo+z) (by omega) hown' hgrow)
     clear hown' hgrow HC2 hC hi hz0 hz1 hz2
     go_wp2
     go_roundw
     case rel=>exact ⟨ps++[j.lo+z],by simp; omega,by simp,HN.out⟩
     case measure=>simp [intOf]; omega
  ·have hke:ps.length=js.length:=by omega
   obtain ⟨oa',c',rfl,hs⟩:=hC.done
   have HS:=aG hs
   have HC:=aG hC
   have HK:=aG hke
   clear hC hs hke
   go_wp2
   go_ret
   exact ⟨ps,oa',c',rfl,HK.out,HC.out.EP,HS.out,HC.out.gW,fun a ha=>by have:=agT HC.out.own a ha; have:=HC.out.h2; have:=HC.out.h3; have:=HC.out.h4; omega⟩
end Go.Proofs.En
end
section
namespace Go.Proofs.En
open Go.RowKit
theorem Kr:vV (nm 0)=true∧vV (nm 1)=true∧vV (nm 2)=true:=⟨by kernel_rfl,by kernel_rfl,by kernel_rfl⟩
theorem Kq:rq (nm 0) (nm 1)=false∧rq (nm 0) (nm 2)=false∧rq (nm 1) (nm 2)=false:=⟨by kernel_rfl,by kernel_rfl,by kernel_rfl⟩
theorem ZQ (k:Nat) (h:k<3):vV (nm k)=true:=by
 rcases (show k=0∨k=1∨k=2 by omega) with rfl | rfl | rfl
 ·exact Kr.1
 ·exact Kr.2.1
 ·exact Kr.2.2
theorem XE (i k:Nat) (h:i<k) (hk:k<3):rq (nm i) (nm k)=false:=by
 rcases (show (i=0∧k=1)∨(i=0∧k=2)∨(i=1∧k=2) by omega) with ⟨rfl,rfl⟩ | ⟨rfl,rfl⟩ | ⟨rfl,rfl⟩
 ·exact Kq.1
 ·exact Kq.2.1
 ·exact Kq.2.2
theorem ac1 {js:List JV} {ms:List MV} {oa om:Option Addr} {W:World} (h:Cf js ms oa om W):yu js ms:=by
 obtain ⟨⟨h1,h2⟩,h3,hj,hm,_,_⟩:=h
 refine ⟨⟨by omega,by omega⟩,fun k j hk=>?_,by omega,hm⟩
 have hlt:k<js.length:=by
  rcases cu k js.length with h | h
  ·exact h
  ·rw [bQ h] at hk; cases hk
 have g:=hj k j hk
 have hf:findF js j.name=k:=by
  refine OO hk (XF _) fun i j' hi hj'=>?_
  rw [(hj i j' hj').name,g.name]
  exact XE i k hi (by omega)
 have hn:vV j.name=true:=by rw [g.name]; exact ZQ k (by omega)
 have hk':=g.kind; have hp:=g.parent; have ho:=g.off; have hl:=g.lim; have hw:=g.weight; have hs:=g.speed; have ha:=g.iL; have ht:=g.iO
 have hb:wD j.o0 j.o1 j.o2=false:=by simp [wD,AJ]; omega
 have f1:lv j.weight 1024=true:=by simp [lv]; omega
 have f2:lv j.speed 1048576=true:=by simp [lv]; omega
 have f3:lv j.iL 1048576=true:=by simp [lv]; omega
 have f4:lv j.iO 1099511627776=true:=by simp [lv]; omega
 unfold qY
 rw [hn,hf,hb,f1,f2,f3,f4,if_neg (by simp),if_neg (by omega),if_neg (by omega),if_neg (by simp),if_neg (by omega),if_neg (by simp)]
end Go.Proofs.En
end
section
namespace Go.Proofs.En
open Go.RowKit
variable {W:World}
theorem ac0 {js:List JV} {ms:List MV} {oa om:Option Addr} (h:Cf js ms oa om W):∀(k:Nat) (j:JV),js[k]?=some j→-1000000000≤j.lo∧j.lo≤j.hi∧j.hi≤1000000000:=by
 intro k j hk
 have:=(h.2.2.1 k j hk).lim
 have:=EX j.kind
 omega
theorem CU {V W':World} {n6 n13:Nat} {a b c d:Value} (l6:n6<V.heap.size) (l13:n13<V.heap.size) (h:W.cell? ⟨n6,0,none⟩=some a∧W.cell? ⟨n6,1,none⟩=some b∧W.cell? ⟨n13,0,none⟩=some c∧W.cell? ⟨n13,1,none⟩=some d∧Below V.heap.size V W) (hb:Below W.heap.size W W') :
  W'.cell? ⟨n6,0,none⟩=some a∧W'.cell? ⟨n6,1,none⟩=some b∧W'.cell? ⟨n13,0,none⟩=some c∧W'.cell? ⟨n13,1,none⟩=some d∧Below V.heap.size V W':=by
 have h6:=aC l6 h.2.2.2.2.size
 have h13:=aC l13 h.2.2.2.2.size
 exact ⟨(hb.cell (p:=⟨n6,0,none⟩) h6).trans h.1,(hb.cell (p:=⟨n6,1,none⟩) h6).trans h.2.1,(hb.cell (p:=⟨n13,0,none⟩) h13).trans h.2.2.1,(hb.cell (p:=⟨n13,1,none⟩) h13).trans h.2.2.2.1,jD h.2.2.2.2 hb⟩
end Go.Proofs.En
end
section
namespace Go.Proofs.En
open Go.RowKit Go.Sm
variable {W:World} {n13:Nat}
theorem JN {p q r p' q' r'} {e:TypeId} (hblk:W.heap[n13]?=some (.cells #[.slice p q r,.slice p' q' r'] e (0,0))) {oa:Option Addr} {sz:Nat} {rows:List (List Value)} (h:Sl W oa sz rows) {l:List Value} {k:Nat} {t:IntKind} {i:Int} (h0:rows[0]?=some l) (h1:l[k]?=some (.int t i)):∀a,oa=some a→a.block∉[n13]∧a.block<W.heap.size:=fun a ha=>by
 obtain ⟨b,off,e1,hR⟩:=h (fun e2=>by rw [e2] at h0; cases h0)
 rw [ha] at e1
 injection e1 with e1
 subst e1
 refine ⟨fun hm=>?_,hR.lt⟩
 simp only [ag,ae,or_false] at hm
 subst hm
 have:=hR.c 0 l h0 k _ h1
 simp only [bS,hblk] at this
 generalize off+(0*sz+k)=j at this
 match j,this with
 | 0,this=>simp at this
 | 1,this=>simp at this
 | j+2,this=>simp at this
theorem Pv {V W':World} {c d:Value} (l13:n13<V.heap.size) (h:W.cell? ⟨n13,0,none⟩=some c∧W.cell? ⟨n13,1,none⟩=some d∧Below V.heap.size V W) (hb:Below W.heap.size W W') :
  W'.cell? ⟨n13,0,none⟩=some c∧W'.cell? ⟨n13,1,none⟩=some d∧Below V.heap.size V W':=by
 have h13:=aC l13 h.2.2.size
 exact ⟨(hb.cell (p:=⟨n13,0,none⟩) h13).trans h.1,(hb.cell (p:=⟨n13,1,none⟩) h13).trans h.2.1,jD h.2.2 hb⟩
end Go.Proofs.En
end
section
namespace Go.Proofs.En
open Go.RowKit Go.Sm
theorem agK (x y z:Int) (w:World):Calls aa 19 #[.int .i64 x,.int .i64 y,.int .i64 z] w fun e w'=>e=.returned (.agg #[.int .i64 (FN 255 [x,y,z]),.int .i64 (FN 256 [x,y,z]),.int .i64 (FN 257 [x,y,z])])∧Below w.heap.size w w':=by
 have:=aag [x,y,z] w rfl
 rw [show (vL Nz.args [x,y,z])=[num x,num y,num z] by kernel_rfl,show kW (qZ (eO []) [x,y,z] Nz.j Nz.res)=.agg ⟨[num (FN 255 [x,y,z]),num (FN 256 [x,y,z]),num (FN 257 [x,y,z])]⟩ by kernel_rfl] at this
 exact this.mono fun e w' ⟨q1,q2⟩=>⟨q1,q2⟩
variable {W X:World} {cs:Array Value} {t:TypeId}
theorem afE (hb:Below (W.alloc (.cells cs t)).heap.size (W.alloc (.cells cs t)) X):X.heap[W.heap.size]?=some (.cells cs t (0,0))∧W.heap.size<X.heap.size:=by
 have h1:=(MapKept.heap_alloc W (.cells cs t)).1
 have hl:W.heap.size<(W.alloc (.cells cs t)).heap.size:=by simp
 exact ⟨(hb.block _ hl).trans h1,aC hl hb.size⟩
theorem afM (hb:Below (W.alloc (.cells cs t)).drew.heap.size (W.alloc (.cells cs t)).drew X):X.heap[W.heap.size]?=some (.cells cs t (0,0))∧W.heap.size<X.heap.size:=by
 have h1:=(MapKept.heap_alloc W (.cells cs t)).1
 have hl:W.heap.size<(W.alloc (.cells cs t)).heap.size:=by simp
 exact ⟨(hb.block _ hl).trans h1,aC hl hb.size⟩
variable {n:Nat}
theorem afB {o:Option Obj} (hb:Below W.heap.size W X) (h:W.heap[n]?=o∧n<W.heap.size):X.heap[n]?=o∧n<X.heap.size :=
 ⟨(hb.block _ h.2).trans h.1,aC h.2 hb.size⟩
variable {a b c:Value}
theorem agJ (h:X.heap[n]?=some (.cells #[a,b,c] t (0,0))):X.cell? ⟨n,0,none⟩=some a∧X.cell? ⟨n,1,none⟩=some b∧X.cell? ⟨n,2,none⟩=some c∧X.frozen? ⟨n,0,none⟩=false∧X.frozen? ⟨n,1,none⟩=false∧X.frozen? ⟨n,2,none⟩=false:=by
 refine ⟨?_,?_,?_,?_,?_,?_⟩<;>simp [bS,ae2,h]
structure Mid (V F:World) (n:Nat) (ok1 ok2:Option Addr) (ks1 ks2:List Int) (g0 g1 g2:Value):Prop where
 hG:F.heap[n]?=some (.cells #[g0,g1,g2] 40 (0,0))
 ge:V.heap.size≤n
 gW:Below V.heap.size V F
 s1:Sl F ok1 1 (fF ks1)
 s2:Sl F ok2 1 (fF ks2)
 x1:∀a,ok1=some a→fF ks1≠[]→a.block≠n
 x2:∀a,ok2=some a→fF ks2≠[]→a.block≠n
theorem afs {w:World} {o:Option Addr} {rows:List (List Value)} (h:Sl w o n rows):∀a,o=some a→rows≠[]→a.block<w.heap.size:=fun a ha h0=>by
 obtain ⟨b,off,e,hR⟩:=h h0
 rw [ha] at e; injection e with e; subst e; exact hR.lt
theorem agV {p q r:Value} (h:X.heap[n]?=some (.cells #[p,q,r] t (0,0))) :
  (((X.setCell ⟨n,0,none⟩ a).setCell ⟨n,1,none⟩ b).setCell ⟨n,2,none⟩ c).heap[n]?=some (.cells #[a,b,c] t (0,0))∧dO X [n] (((X.setCell ⟨n,0,none⟩ a).setCell ⟨n,1,none⟩ b).setCell ⟨n,2,none⟩ c):=by
 have hl:n<X.heap.size:=(aB.1 h).1
 constructor
 ·simp [afg,Array.getElem?_modify,h]
 ·refine ⟨rfl,rfl,rfl,by simp [afg],fun g hg hn=>?_⟩
  have e:g≠n:=fun e=>hn (by simp [e])
  exact (ae0 _ ⟨n,2,none⟩ _ g e).trans ((ae0 _ ⟨n,1,none⟩ _ g e).trans (ae0 _ ⟨n,0,none⟩ _ g e))
theorem afS {Y:World} {o:Obj} (h:Below (X.alloc o).heap.size (X.alloc o) Y):Below X.heap.size X Y :=
 jD ((aI X.heap.size X).alloc (au _) o) h
variable {V X3 X4 X5:World} {ok1 ok2:Option Addr} {ks1 ks2:List Int} {g0 g1 g2:Value}
theorem agM (q5:Below V.heap.size V X5) (hb4:Below X3.heap.size X3 X4) (hb5:Below X4.heap.size X4 X5) (s1:Sl X3 ok1 1 (fF ks1)) (s2:Sl X4 ok2 1 (fF ks2)):Mid V (X5.alloc (.cells #[g0,g1,g2] 40)) X5.heap.size ok1 ok2 ks1 ks2 g0 g1 g2:=by
 have hA:Below X5.heap.size X5 (X5.alloc (.cells #[g0,g1,g2] 40)):=(aI _ _).alloc (au _) _
 have t1:=(s1.keep hb4).keep hb5
 have t2:=s2.keep hb5
 exact ⟨(MapKept.heap_alloc X5 _).1,q5.size,jD q5 hA,t1.keep hA,t2.keep hA,fun a ha h0=>Nat.ne_of_lt (afs t1 a ha h0),fun a ha h0=>Nat.ne_of_lt (afs t2 a ha h0)⟩
variable {z:Value}
theorem afN (q5:Below V.heap.size V X5) (hb4:Below X3.heap.size X3 X4) (hb5:Below X4.heap.size X4 X5) (s1:Sl X3 ok1 1 (fF ks1)) (s2:Sl X4 ok2 1 (fF ks2)) (hz:X5.heap[n]?=some (.cells #[z,z,z] 40 (0,0))) (ge:V.heap.size≤n) (x1:∀a,ok1=some a→fF ks1≠[]→a.block≠n) (x2:∀a,ok2=some a→fF ks2≠[]→a.block≠n) :
  Mid V (((X5.setCell ⟨n,0,none⟩ g0).setCell ⟨n,1,none⟩ g1).setCell ⟨n,2,none⟩ g2) n ok1 ok2 ks1 ks2 g0 g1 g2:=by
 obtain ⟨h1,h2⟩:=agV (a:=g0) (b:=g1) (c:=g2) hz
 have t1:=(s1.keep hb4).keep hb5
 have t2:=s2.keep hb5
 exact ⟨h1,ge,((q5.setCell ge _).setCell ge _).setCell ge _,Uw t1 h2 fun a ha h0 hm=>x1 a ha h0 (by simpa using hm),Uw t2 h2 fun a ha h0 hm=>x2 a ha h0 (by simpa using hm),x1,x2⟩
theorem agN (q4:Below V.heap.size V X4) (q5:Below V.heap.size V X5) (hb4:Below X3.heap.size X3 X4) (hb5:Below (X4.alloc (.cells #[z,z,z] 40)).heap.size (X4.alloc (.cells #[z,z,z] 40)) X5) (s1:Sl X3 ok1 1 (fF ks1)) (s2:Sl X4 ok2 1 (fF ks2)) :
  Mid V (((X5.setCell ⟨X4.heap.size,0,none⟩ g0).setCell ⟨X4.heap.size,1,none⟩ g1).setCell ⟨X4.heap.size,2,none⟩ g2) X4.heap.size ok1 ok2 ks1 ks2 g0 g1 g2 :=
 afN q5 hb4 (afS hb5) s1 s2 (afE hb5).1 q4.size (fun a ha h0=>Nat.ne_of_lt (afs (s1.keep hb4) a ha h0)) (fun a ha h0=>Nat.ne_of_lt (afs s2 a ha h0))
theorem agO (q3:Below V.heap.size V X3) (q5:Below V.heap.size V X5) (hb4:Below (X3.alloc (.cells #[z,z,z] 40)).heap.size (X3.alloc (.cells #[z,z,z] 40)) X4) (hb5:Below X4.heap.size X4 X5) (s1:Sl X3 ok1 1 (fF ks1)) (s2:Sl X4 ok2 1 (fF ks2)) (f2:∀a,ok2=some a→(X3.alloc (.cells #[z,z,z] 40)).heap.size≤a.block) :
  Mid V (((X5.setCell ⟨X3.heap.size,0,none⟩ g0).setCell ⟨X3.heap.size,1,none⟩ g1).setCell ⟨X3.heap.size,2,none⟩ g2) X3.heap.size ok1 ok2 ks1 ks2 g0 g1 g2 :=
 afN q5 (afS hb4) hb5 s1 s2 (afB hb5 (afE hb4)).1 q3.size (fun a ha h0=>Nat.ne_of_lt (afs s1 a ha h0)) (fun a ha _ e=>by have:=f2 a ha; rw [e] at this; simp at this; omega)
theorem midD (q5:Below V.heap.size V X5) (hb3:Below (V.alloc (.cells #[z,z,z] 40)).drew.heap.size (V.alloc (.cells #[z,z,z] 40)).drew X3) (hb4:Below X3.heap.size X3 X4) (hb5:Below X4.heap.size X4 X5) (s1:Sl X3 ok1 1 (fF ks1)) (s2:Sl X4 ok2 1 (fF ks2)) (f1:∀a,ok1=some a→(V.alloc (.cells #[z,z,z] 40)).drew.heap.size≤a.block) (f2:∀a,ok2=some a→X3.heap.size≤a.block) :
  Mid V (((X5.setCell ⟨V.heap.size,0,none⟩ g0).setCell ⟨V.heap.size,1,none⟩ g1).setCell ⟨V.heap.size,2,none⟩ g2) V.heap.size ok1 ok2 ks1 ks2 g0 g1 g2 :=
 afN q5 hb4 hb5 s1 s2 (afB hb5 (afB hb4 (afM hb3))).1 (au _) (fun a ha _ e=>by
  have h1:=f1 a ha
  have h2:V.heap.size<(V.alloc (.cells #[z,z,z] 40)).heap.size:=by simp
  have h3:(V.alloc (.cells #[z,z,z] 40)).heap.size≤a.block:=h1
  omega) (fun a ha _ e=>by have:=f2 a ha; have:=(afM hb3).2; omega)
end Go.Proofs.En
end
section
namespace Go.Proofs.En
open Go.RowKit Go.Sm
structure Two (F W:World) (g1 g2:Nat) (b0 b1:Value):Prop where
 h1:W.heap[g1]?=some (.cells #[b0,b1] 35 (0,0))
 h2:W.heap[g2]?=some (.cells #[b0,b1] 35 (0,0))
 ne:g1≠g2
 ge1:F.heap.size≤g1
 ge2:F.heap.size≤g2
 gW:Below F.heap.size F W
theorem aga (F:World) (b0 b1:Value):Two F ((F.alloc (.cells #[b0,b1] 35)).alloc (.cells #[b0,b1] 35)).drew F.heap.size (F.heap.size+1) b0 b1:=by
 have e1:=(MapKept.heap_alloc F (.cells #[b0,b1] 35)).1
 have e2:=(MapKept.heap_alloc (F.alloc (.cells #[b0,b1] 35)) (.cells #[b0,b1] 35)).1
 have hl:(F.alloc (.cells #[b0,b1] 35)).heap.size=F.heap.size+1:=by simp
 rw [hl] at e2
 have hb:Below (F.alloc (.cells #[b0,b1] 35)).heap.size (F.alloc (.cells #[b0,b1] 35)) ((F.alloc (.cells #[b0,b1] 35)).alloc (.cells #[b0,b1] 35)):=(aI _ _).alloc (au _) _
 refine ⟨(hb.block _ (by omega)).trans e1,e2,by omega,au _,by omega,?_⟩
 exact Below.drew (Below.alloc (Below.alloc (aI _ _) (au _) _) (by omega) _)
variable {F:World} {g1 g2:Nat}
theorem Two.swap {W:World} {b0 b1:Value} (h:Two F W g1 g2 b0 b1):Two F W g2 g1 b0 b1:=⟨h.h2,h.h1,fun e=>h.ne e.symm,h.ge2,h.ge1,h.gW⟩
variable {n:Nat}
theorem af9 {X:World} {a b:Value} {t:TypeId} (h:X.heap[n]?=some (.cells #[a,b] t (0,0))):X.cell? ⟨n,0,none⟩=some a∧X.cell? ⟨n,1,none⟩=some b∧X.frozen? ⟨n,0,none⟩=false∧X.frozen? ⟨n,1,none⟩=false∧n<X.heap.size :=
 ⟨by simp [bS,h],by simp [bS,h],by simp [ae2,h],by simp [ae2,h],(aB.1 h).1⟩
theorem add_block (a:Addr) (n:Nat):(a.add n).block=a.block:=by unfold Addr.add; split<;>rfl
variable {w:World} {o:Option Addr} {rows:List (List Value)}
theorem af4 (k:Nat) (h:Sl w o n rows):Sl w o n (rows.take k):=fun h0=>by
 obtain ⟨b,off,e,hR⟩:=h (fun e=>h0 (by rw [e]; simp))
 refine ⟨b,off,e,hR.lt,fun i r hi=>hR.c i r ?_⟩
 rw [dx] at hi
 split at hi
 ·exact hi
 ·cases hi
theorem af5 {cap:Nat} (k:Nat) (hc:rows.length≤cap) (h:Sl w o n rows):Sl w (if cap=k then o else Option.map (fun x=>x.add (k*n)) o) n (rows.drop k):=fun h0=>by
 obtain ⟨b,off,e,hR⟩:=h (fun e=>h0 (by rw [e]; simp))
 have hlt:k<rows.length:=by
  rcases cu k rows.length with q | q
  ·exact q
  ·exact absurd (List.drop_eq_nil_of_le q) h0
 rw [if_neg (by omega),e]
 refine ⟨b,off+k*n,by simp [Addr.add],hR.lt,fun i r hi q v hv=>?_⟩
 rw [aeX] at hi
 have:=hR.c (k+i) r hi q v hv
 rw [show off+((k+i)*n+q)=off+k*n+(i*n+q) by rw [Nat.add_mul]; omega] at this
 exact this
variable {W1:World} {ra rm rm':Option Addr} {rc rd:Nat} {jr:List JV} {ms:List MV}
theorem afO {G:World} {ex:List Nat} {ra':Option Addr} {nc:Nat} (hR:Cf jr ms ra' rm' W1) (hc:nc=ms.length) (sJ:Sl G ra 12 (jr.map JV.vals)) (sM:Sl G rm 5 (ms.map MV.vals)) (xJ:∀a,ra=some a→a.block∉ex) (xM:∀a,rm=some a→ms≠[]→a.block∉ex):jW G ex (ra,jr.length,rc) (rm,nc,rd) jr ms :=
 {
  n:=hR.1,m:=by have:=hR.2.1; omega,b0:=rfl,b1:=hc,sB:=sJ,sM:=sM
  xB:=fun a ha=>⟨xJ a ha,afs sJ a ha (by have:=hR.1; intro e; rw [ag3] at e; rw [e] at this; simp at this)⟩
  xM:=fun a ha h0=>⟨xM a ha h0,afs sM a ha (by intro e; rw [ag3] at e; exact h0 e)⟩
  ok:=ac1 hR
  pr:=fun i j hj=>by have:=(hR.2.2.1 i j hj).parent; omega
  kd:=fun i j hj=>by have:=(hR.2.2.1 i j hj).kind; omega
  ms:=fun i m hm=>by
   have:=hR.2.2.2.1 i m hm
   simp only [kK,lv,aQ,decide_eq_true_eq] at this
   omega }
variable {mr:List MV}
theorem af3 (hR:Cf jr mr ra rm W1) (hs:∀m∈ms,m∈mr) (hl:ms.length≤mr.length) (sM:Sl W1 rm' 5 (ms.map MV.vals)):Cf jr ms ra rm' W1 :=
 ⟨hR.1,aZ hl hR.2.1,hR.2.2.1,fun k m hk=>by
  obtain ⟨q,hq⟩:=cZ (hs m (aN hk))
  exact hR.2.2.2.1 q m hq,hR.2.2.2.2.1,sM⟩
theorem agx {V wc:World} {ok1 ok2:Option Addr} {kc1 kc2 n13 n18 kn:Nat} {ks1 ks2:List Int} {x y z:Int} {c:Code} {a:Act} (hc:c=(sR 6 (dN ag2))) (hR:Cf jr mr ra rm W1) (hcap:mr.length≤rd) (hRJ:Sl V ra 12 (jr.map JV.vals)) (hRM:Sl V rm 5 (mr.map MV.vals)) (hi1:AQ jr ks1) (he1:ks1.length=jr.length) (hi2:AQ jr ks2) (he2:ks2.length=jr.length)
  (hM:Mid V F n18 ok1 ok2 ks1 ks2 (.int .i64 x) (.int .i64 y) (.int .i64 z)) (hT:Two F wc g1 g2 (.slice ra jr.length rc) (.slice rm mr.length rd))
  (hx:-16777216≤x∧x≤16777216) (hy:-16777216≤y∧y≤16777216) (hz:-16777216≤z∧z≤16777216) (hkn:kn≤mr.length)
  (hblk:V.heap[n13]?=some (.cells #[.slice ra jr.length rc,.slice rm mr.length rd] 35 (0,0))) (hb:Below w.heap.size w V) (h13:w.heap.size≤n13) (hd:a.defers=[]) (hs:a.tmps.size=175) (hf:∀p∈([(15,dK n13),(16,.slice ok1 ks1.length kc1),(17,.slice ok2 ks2.length kc2),(18,dK n18),(20,dK g1),(21,dK g2)]:List (Nat×Value)),a.tmps[p.1]?=some p.2) :
  c.wp aa (bodyPost aa ag2 (wz w)) a ((wc.setCell ⟨g1,1,none⟩ (.slice rm kn rd)).setCell ⟨g2,1,none⟩ (.slice (if rd=kn then rm else Option.map (fun x=>x.add (kn*5)) rm) (mr.length - kn) (rd - kn))).drew:=by
 subst hc
 generalize hBb:(if rd=kn then rm else Option.map (fun x=>x.add (kn*5)) rm)=rb
 have l13:n13<V.heap.size:=(aB.1 hblk).1
 have l18:n18<F.heap.size:=(aB.1 hM.hG).1
 have q1:=hM.ge
 have q2:=hM.gW.size
 have q3:=hT.ge1
 have q4:=hT.ge2
 have hne:=hT.ne
 have hset:∀(g:Nat) (u:Value) (X:World) (b0 b1:Value),X.heap[g]?=some (.cells #[b0,b1] 35 (0,0))→(X.setCell ⟨g,1,none⟩ u).heap[g]?=some (.cells #[b0,u] 35 (0,0)):=fun g u X b0 b1 h=>by
  simp [afg,Array.getElem?_modify,h]
 have e1:((wc.setCell ⟨g1,1,none⟩ (.slice rm kn rd)).setCell ⟨g2,1,none⟩ (.slice rb (mr.length - kn) (rd - kn))).heap[g1]?=some (.cells #[.slice ra jr.length rc,.slice rm kn rd] 35 (0,0)) :=
  (ae0 _ ⟨g2,1,none⟩ _ g1 hne).trans (hset g1 _ wc _ _ hT.h1)
 have e2:((wc.setCell ⟨g1,1,none⟩ (.slice rm kn rd)).setCell ⟨g2,1,none⟩ (.slice rb (mr.length - kn) (rd - kn))).heap[g2]?=some (.cells #[.slice ra jr.length rc,.slice rb (mr.length - kn) (rd - kn)] 35 (0,0)) :=
  hset g2 _ _ _ _ ((ae0 _ ⟨g1,1,none⟩ _ g2 (fun e=>hne e.symm)).trans hT.h2)
 have bG:Below F.heap.size F ((wc.setCell ⟨g1,1,none⟩ (.slice rm kn rd)).setCell ⟨g2,1,none⟩ (.slice rb (mr.length - kn) (rd - kn))).drew:=Below.drew (ag4 (ag4 hT.gW q3 _) q4 _)
 replace e1:((wc.setCell ⟨g1,1,none⟩ (.slice rm kn rd)).setCell ⟨g2,1,none⟩ (.slice rb (mr.length - kn) (rd - kn))).drew.heap[g1]?=_:=e1
 replace e2:((wc.setCell ⟨g1,1,none⟩ (.slice rm kn rd)).setCell ⟨g2,1,none⟩ (.slice rb (mr.length - kn) (rd - kn))).drew.heap[g2]?=_:=e2
 generalize ((wc.setCell ⟨g1,1,none⟩ (.slice rm kn rd)).setCell ⟨g2,1,none⟩ (.slice rb (mr.length - kn) (rd - kn))).drew=G at e1 e2 bG ⊢
 have bV:Below V.heap.size V G:=jD hM.gW bG
 have e13:G.heap[n13]?=some (.cells #[.slice ra jr.length rc,.slice rm mr.length rd] 35 (0,0)):=(bV.block _ l13).trans hblk
 have e18:G.heap[n18]?=some (.cells #[.int .i64 x,.int .i64 y,.int .i64 z] 40 (0,0)):=(bG.block _ l18).trans hM.hG
 have hnd:([n13,n18,g1,g2]++[]:List Nat).Nodup:=by
  simp only [afk,ag5,ag,ae,or_false,not_or,not_false_eq_true,List.nodup_nil,and_true]
  refine ⟨⟨?_,?_,?_⟩,⟨?_,?_⟩,hne⟩<;>omega
 have hst:dP (dS 175 [(15,dK n13),(16,dJ (ok1,ks1.length,kc1)),(17,dJ (ok2,ks2.length,kc2)),(18,dK n18),(20,dK g1),(21,dK g2)]) [(n13,[dJ (ra,jr.length,rc),dJ (rm,mr.length,rd)],35),(n18,[num x,num y,num z],40),(g1,[dJ (ra,jr.length,rc),dJ (rm,kn,rd)],35),(g2,[dJ (ra,jr.length,rc),dJ (rb,mr.length - kn,rd - kn)],35)] [] a G:=by
  refine ⟨hd,by rw [hs]; simp [dS],fun t u e=>?_,fun q hq=>?_,(fun q hq=>by cases hq),by simpa using hnd⟩
  ·simp only [dS,bY,aR] at e
   obtain ⟨q,q1,q2⟩:=e
   obtain ⟨hlt,hq⟩:=ai.1 q1
   simp only [List.getElem_range] at hq
   subst hq
   exact hf _ (Kb q2)
  ·simp only [ag,ae,or_false] at hq
   rcases hq with rfl | rfl | rfl | rfl
   ·exact e13
   ·exact e18
   ·exact e1
   ·exact e2
 have xJ:∀a,ra=some a→a.block∉[n13,n18,g1,g2]:=fun a ha hm=>by
  have hn:=hR.1
  have hlt:=afs hRJ a ha (by intro e; rw [ag3] at e; rw [e] at hn; simp at hn)
  match jr,hn,hRJ with
  | [],hn,_=>simp at hn
  | j::jr,_,hRJ =>
   have h1:=(JN hblk hRJ (l:=j.vals) (k:=1) rfl rfl a ha).1
   simp only [ag,ae,or_false] at hm h1
   rcases hm with r | r | r | r<;>first | exact h1 r | omega
 have xM:∀a,rm=some a→mr≠[]→a.block∉[n13,n18,g1,g2]:=fun a ha h0 hm=>by
  have hlt:=afs hRM a ha (by intro e; rw [ag3] at e; exact h0 e)
  match mr,h0,hRM with
  | [],h0,_=>exact absurd rfl h0
  | m::mr,_,hRM =>
   have h1:=(JN hblk hRM (l:=m.vals) (k:=0) rfl rfl a ha).1
   simp only [ag,ae,or_false] at hm h1
   rcases hm with r | r | r | r<;>first | exact h1 r | omega
 have blk13F:F.heap[n13]?=some (.cells #[.slice ra jr.length rc,.slice rm mr.length rd] 35 (0,0)):=(hM.gW.block _ l13).trans hblk
 have xK:∀{ks:List Int} {o:Option Addr},Sl F o 1 (fF ks)→(∀a,o=some a→fF ks≠[]→a.block≠n18)→∀a,o=some a→fF ks≠[]→a.block∉[n13,n18,g1,g2]:=fun {ks o} h h18 a ha h0 hm=>by
  have hlt:=afs h a ha h0
  have hn:=h18 a ha h0
  match ks,h,h0 with
  | [],_,h0=>exact absurd rfl h0
  | k::ks,h,_ =>
   have h1:=(JN blk13F h (l:=[.int .i64 k]) (k:=0) rfl rfl a ha).1
   simp only [ag,ae,or_false] at hm h1
   rcases hm with r | r | r | r<;>first | exact h1 r | exact hn r | omega
 have sJ:=hRJ.keep bV
 have sM:=hRM.keep bV
 have sA:Sl G rm 5 ((mr.take kn).map MV.vals):=by rw [List.map_take]; exact af4 kn sM
 have sB:Sl G rb 5 ((mr.drop kn).map MV.vals):=by rw [List.map_drop,←hBb]; exact af5 kn (by rw [dF]; exact hcap) sM
 have sA1:Sl W1 rm 5 ((mr.take kn).map MV.vals):=by rw [List.map_take]; exact af4 kn hR.2.2.2.2.2
 have sB1:Sl W1 rb 5 ((mr.drop kn).map MV.vals):=by rw [List.map_drop,←hBb]; exact af5 kn (by rw [dF]; exact hcap) hR.2.2.2.2.2
 have tk:mr.take kn++mr.drop kn=mr:=List.take_append_drop kn mr
 have hbG:Below w.heap.size w G:=jD hb bV
 have r0:jW G [n13,n18,g1,g2] (ra,jr.length,rc) (rm,mr.length,rd) jr (mr.take kn++mr.drop kn):=by rw [tk]; exact afO hR rfl sJ sM xJ xM
 have r1:jW G [n13,n18,g1,g2] (ra,jr.length,rc) (rm,kn,rd) jr (mr.take kn):=afO (af3 hR (fun m hm=>List.mem_of_mem_take hm) (by simp; omega) sA1) (by simp; omega) sJ sA xJ (fun a ha h0=>xM a ha (fun e=>h0 (by rw [e]; simp)))
 have r2:jW G [n13,n18,g1,g2] (ra,jr.length,rc) (rb,mr.length - kn,rd - kn) jr (mr.drop kn):=afO (af3 hR (fun m hm=>List.mem_of_mem_drop hm) (by simp) sB1) (by simp) sJ sB xJ (fun a ha h0=>by
  have hmr:mr≠[]:=fun e=>h0 (by rw [e]; simp)
  have hlt:kn<mr.length:=by
   rcases cu kn mr.length with q | q
   ·exact q
   ·exact absurd (List.drop_eq_nil_of_le q) h0
  rw [if_neg (by omega)] at hBb
  subst hBb
  obtain ⟨a0,h1,h2⟩:=aR.1 ha
  subst h2
  rw [add_block]
  exact xM a0 h1 hmr)
 exact agC r0 r1 r2 (by rw [tk]; exact hR.2.1) rfl rfl (hM.s1.keep bG) (hM.s2.keep bG) ⟨he1.symm,hi1⟩ ⟨he2.symm,hi2⟩ (xK hM.s1 hM.x1) (xK hM.s2 hM.x2) hx hy hz hnd hst hbG (fun g hg=>by
  have:=hb.size
  simp only [ag,ae,or_false] at hg
  rcases hg with r | r | r | r<;>subst r<;>omega)
end Go.Proofs.En
end
section
namespace Go.Proofs.En
open Go.RowKit Go.Sm
set_option maxRecDepth 100000 in
theorem agy (ol oc od:Option Addr) (cl cc cd:Nat) (ls us bs:List Int) (x y z kk:Int) (w:World) (hll:ls.length≤9223372036854775807) (hla:us.length≤9223372036854775807) (hlb:bs.length≤9223372036854775807)
  (hL:Sl w ol 1 (fF ls)) (hA:Sl w oc 1 (fF us)) (hB:Sl w od 1 (fF bs)) :
  Calls aa 6 #[.slice ol ls.length cl,.slice oc us.length cc,.slice od bs.length cd,.int .i64 x,.int .i64 y,.int .i64 z,.int .i64 kk] w (wz w):=by
 go_enter Tryz.func6,Tryz.ntmps6
 go_wp2_with fail
 refine (agP w ol cl ls hL hll).mono ?_
 rintro e W1 ⟨jr,mr,ra,rc,rm,rd,rfl,hR,hb1,hcap⟩
 go_upto_region 2 with fail
 have hbA:Below W1.heap.size W1 (W1.alloc (.cells #[.slice ra jr.length rc,.slice rm mr.length rd] 35)):=(aI _ _).alloc (au _) _
 have r13:=Row.new W1 [.slice ra jr.length rc,.slice rm mr.length rd] 35
 have hBlk:=(MapKept.heap_alloc W1 (.cells #[.slice ra jr.length rc,.slice rm mr.length rd] 35)).1
 have hge:w.heap.size≤W1.heap.size:=hb1.size
 have HV:=aG (jD hb1 hbA)
 have HR:=aG hR
 have HCP:=aG hcap
 have HRJ:=aG (hR.2.2.2.2.1.keep hbA)
 have HRM:=aG (hR.2.2.2.2.2.keep hbA)
 have HBD:=aG (ac0 hR)
 have HL1:=aG hR.1
 have HL2:=aG hR.2.1
 have HA:=aG (hA.keep HV.out)
 have HBB:=aG (hB.keep HV.out)
 clear hbA hR hb1 hL hA hB hcap
 generalize (W1.alloc (.cells #[.slice ra jr.length rc,.slice rm mr.length rd] 35))=V at r13 hBlk HV HRJ HRM HA HBB ⊢
 generalize W1.heap.size=n13 at r13 hBlk hge ⊢
 have s2:V.cell? ⟨n13,0,none⟩=some (.slice ra jr.length rc):=r13.c 0 _ rfl
 have s3:V.cell? ⟨n13,1,none⟩=some (.slice rm mr.length rd):=r13.c 1 _ rfl
 have l13:=r13.lt
 clear r13
 have jl:jr.length≤100:=by have:=HL1.out; omega
 go_cut [16,17,18] (fun s16 s17 s18 W=>∃(n18:Nat) (ok1 ok2:Option Addr) (kc1 kc2:Nat) (ks1 ks2:List Int),s16=.slice ok1 ks1.length kc1∧s17=.slice ok2 ks2.length kc2∧s18=.pointer (some ⟨n18,0,none⟩)∧Mid V W n18 ok1 ok2 ks1 ks2 (.int .i64 (FN 255 [x,y,z])) (.int .i64 (FN 256 [x,y,z])) (.int .i64 (FN 257 [x,y,z]))∧(AQ jr ks1∧ks1.length=jr.length)∧AQ jr ks2∧ks2.length=jr.length)
 case first =>
  go_region_held3 (fun W=>W.cell? ⟨n13,0,none⟩=some (.slice ra jr.length rc)∧W.cell? ⟨n13,1,none⟩=some (.slice rm mr.length rd)∧Below V.heap.size V W)
   (first
    | exact Pv l13 ⟨s2,s3,aI _ _⟩ (aI _ _).drew
    | exact Pv l13 (by assumption) (by assumption)
    | exact Pv l13 (by assumption) ((aI _ _).alloc (au _) _)
    | exact Pv l13 ⟨s2,s3,aI _ _⟩ (Below.alloc (by assumption) (Below.size (by assumption)) _)
    | exact Pv l13 ⟨s2,s3,aI _ _⟩ (ag4 (ag4 (ag4 (by assumption) (by first | exact Below.size (by assumption) | exact au _) _) (by first | exact Below.size (by assumption) | exact au _) _) (by first | exact Below.size (by assumption) | exact au _) _))
   (first
    | (have hxx:=HB4; clear hxx; go_at_call 19; refine (agK x y z _).mono ?_; rintro e X5 ⟨rfl,hb5⟩; have hq5:Below V.heap.size V X5:=jD (by first | exact (by assumption:_∧_∧Below V.heap.size V _).2.2 | exact (aI _ _).drew) hb5; have HB5:=aG hq5; (try (first | (have z5:=afE hb5; have Z5:=aG z5; clear z5) | (have z5:=afB hb5 Z4.out; have Z5:=aG z5; clear z5))); (try (have l18:=Z5.out.2; obtain ⟨e0,e1,e2,f0,f1,f2⟩:=agJ Z5.out.1)))
    | (have hxx:=HB3; clear hxx; go_at_call 18; refine (afU _ _ _ _ _ _ jr mr.length bs _ jl HBD.out (HRJ.out.keep (by first | exact (by assumption:_∧_∧Below V.heap.size V _).2.2 | exact (aI _ _).drew)) (HBB.out.keep (by first | exact (by assumption:_∧_∧Below V.heap.size V _).2.2 | exact (aI _ _).drew)) hlb).mono ?_; rintro e X4 ⟨ks2,ok2,kc2,rfl,kl2,ki2,kS2,hb4,hf2⟩; have hq4:Below V.heap.size V X4:=jD (by first | exact (by assumption:_∧_∧Below V.heap.size V _).2.2 | exact (aI _ _).drew) hb4; have HB4:=aG hq4; have HK2:=aG kS2; have HI2:=aG ki2; have HE2:=aG kl2; have HF2:=aG hf2; (try (first | (have z4:=afE hb4; have Z4:=aG z4; clear z4) | (have z4:=afB hb4 Z3.out; have Z4:=aG z4; clear z4))); clear kl2 kS2 ki2 hf2)
    | (go_at_call 18; refine (afU _ _ _ _ _ _ jr mr.length us _ jl HBD.out (HRJ.out.keep (by first | exact (by assumption:_∧_∧Below V.heap.size V _).2.2 | exact (aI _ _).drew)) (HA.out.keep (by first | exact (by assumption:_∧_∧Below V.heap.size V _).2.2 | exact (aI _ _).drew)) hla).mono ?_; rintro e X3 ⟨ks1,ok1,kc1,rfl,kl1,ki1,kS1,hb3,hf1⟩; have hq3:Below V.heap.size V X3:=jD (by first | exact (by assumption:_∧_∧Below V.heap.size V _).2.2 | exact (aI _ _).drew) hb3; have HB3:=aG hq3; have HK1:=aG kS1; have HI1:=aG ki1; have HE1:=aG kl1; have HF1:=aG hf1; (try (have z3:=afM hb3; have Z3:=aG z3; clear z3)); clear kl1 kS1 ki1 hf1))
  all_goals go_wp2_with fail
  all_goals go_meet
  all_goals first
   | exact ⟨_,ok1,ok2,kc1,kc2,ks1,ks2,rfl,rfl,rfl,midD (g0:=(.int .i64 (FN 255 [x,y,z]))) (g1:=(.int .i64 (FN 256 [x,y,z]))) (g2:=(.int .i64 (FN 257 [x,y,z]))) hq5 hb3 hb4 hb5 HK1.out HK2.out HF1.out HF2.out,⟨HI1.out,HE1.out⟩,HI2.out,HE2.out⟩
   | exact ⟨_,ok1,ok2,kc1,kc2,ks1,ks2,rfl,rfl,rfl,agO (g0:=(.int .i64 (FN 255 [x,y,z]))) (g1:=(.int .i64 (FN 256 [x,y,z]))) (g2:=(.int .i64 (FN 257 [x,y,z]))) hq3 hq5 hb4 hb5 HK1.out HK2.out HF2.out,⟨HI1.out,HE1.out⟩,HI2.out,HE2.out⟩
   | exact ⟨_,ok1,ok2,kc1,kc2,ks1,ks2,rfl,rfl,rfl,agN (g0:=(.int .i64 (FN 255 [x,y,z]))) (g1:=(.int .i64 (FN 256 [x,y,z]))) (g2:=(.int .i64 (FN 257 [x,y,z]))) hq4 hq5 hb4 hb5 HK1.out HK2.out,⟨HI1.out,HE1.out⟩,HI2.out,HE2.out⟩
   | exact ⟨_,ok1,ok2,kc1,kc2,ks1,ks2,rfl,rfl,rfl,agM (g0:=(.int .i64 (FN 255 [x,y,z]))) (g1:=(.int .i64 (FN 256 [x,y,z]))) (g2:=(.int .i64 (FN 257 [x,y,z]))) hq5 hb4 hb5 HK1.out HK2.out,⟨HI1.out,HE1.out⟩,HI2.out,HE2.out⟩
 case rest =>
  obtain ⟨n18,ok1,ok2,kc1,kc2,ks1,ks2,rfl,rfl,rfl,hM,⟨hi1,he1⟩,hi2,he2⟩:=hcut
  have d0:wc.cell? ⟨n13,0,none⟩=some (.slice ra jr.length rc):=(hM.gW.cell (p:=⟨n13,0,none⟩) l13).trans s2
  have d1:wc.cell? ⟨n13,1,none⟩=some (.slice rm mr.length rd):=(hM.gW.cell (p:=⟨n13,1,none⟩) l13).trans s3
  have HM:=aG hM
  have HI1:=aG hi1
  have HI2:=aG hi2
  have HE1:=aG he1
  have HE2:=aG he2
  have HS2:=aG s2
  have HS3:=aG s3
  clear hM hi1 he1 hi2 he2 s2 s3
  go_wp2_with fail
  rw [show wrap64 ((mr.length:Int)+1)=(mr.length:Int)+1 from IntWalk.wrap64_in _ (by have:=HL2.out; omega)]
  refine (ac3 kk ((mr.length:Int)+1) wc (by omega) (by have:=HL2.out; omega)).mono ?_
  rintro e w' ⟨rfl,rfl⟩
  obtain ⟨kn,hkn,hkl⟩:∃kn:Nat,kk % ((mr.length:Int)+1)=(kn:Int)∧kn≤mr.length:=⟨(kk % ((mr.length:Int)+1)).toNat,by have:=Int.emod_nonneg kk (show (mr.length:Int)+1≠0 by omega); omega,by have:=Int.emod_nonneg kk (show (mr.length:Int)+1≠0 by omega); have:=Int.emod_lt_of_pos kk (show 0<(mr.length:Int)+1 by omega); omega⟩
  rw [hkn]
  clear hkn
  go_upto_region 4 with fail
  obtain ⟨F,hFF⟩:∃F,F=wc:=⟨_,rfl⟩
  subst hFF
  have l15:n13<F.heap.size:=aC l13 HM.out.gW.size
  go_cut [20,21] (fun s20 s21 W=>∃g1 g2:Nat,s20=.pointer (some ⟨g1,0,none⟩)∧s21=.pointer (some ⟨g2,0,none⟩)∧Two F W g1 g2 (.slice ra jr.length rc) (.slice rm mr.length rd))
  case first =>
   go_region_held3 (fun W=>W.cell? ⟨n13,0,none⟩=some (.slice ra jr.length rc)∧W.cell? ⟨n13,1,none⟩=some (.slice rm mr.length rd)∧Below F.heap.size F W)
    (first
     | exact Pv l15 ⟨d0,d1,aI _ _⟩ (aI _ _).drew
     | exact Pv l15 (by assumption) ((aI _ _).alloc (au _) _)
     | exact Pv l15 ⟨d0,d1,aI _ _⟩ (Below.drew (Below.alloc (Below.alloc (aI _ _) (au _) _) (Below.size (Below.alloc (aI _ _) (au _) _)) _))
     | fail)
    (fail)
   all_goals go_wp2_with fail
   all_goals go_meet
   ·exact ⟨_,_,rfl,rfl,aga _ _ _⟩
   ·exact ⟨_,_,rfl,rfl,(aga _ _ _).swap⟩
  case rest =>
   obtain ⟨g1,g2,rfl,rfl,h2⟩:=hcut
   obtain ⟨c10,c11,f10,f11,lg1⟩:=af9 h2.h1
   obtain ⟨c20,c21,f20,f21,lg2⟩:=af9 h2.h2
   have hne:=h2.ne
   have y0:wc.cell? ⟨n13,0,none⟩=some (.slice ra jr.length rc):=(h2.gW.cell (p:=⟨n13,0,none⟩) l15).trans d0
   have y1:wc.cell? ⟨n13,1,none⟩=some (.slice rm mr.length rd):=(h2.gW.cell (p:=⟨n13,1,none⟩) l15).trans d1
   have HT:=aG h2
   have HD0:=aG d0
   have HD1:=aG d1
   clear h2 d0 d1
   have hk1:kn≤rd:=by have:=HCP.out.1; omega
   have hk2:mr.length≤rd:=HCP.out.1
   go_upto_region 5 with fail
   go_region_held3 (fun W=>W.cell? ⟨n13,0,none⟩=some (.slice ra jr.length rc)∧W.cell? ⟨n13,1,none⟩=some (.slice rm mr.length rd)∧Below F.heap.size F W)
    (first
     | exact ⟨y0,y1,HT.out.gW.drew⟩
     | exact Pv l15 ⟨HD0.out,HD1.out,aI _ _⟩ (Below.drew (ag4 HT.out.gW HT.out.ge1 _))
     | exact Pv l15 ⟨HD0.out,HD1.out,aI _ _⟩ (Below.drew (ag4 HT.out.gW HT.out.ge2 _))
     | exact Pv l15 ⟨HD0.out,HD1.out,aI _ _⟩ (Below.drew (ag4 (ag4 HT.out.gW HT.out.ge1 _) HT.out.ge2 _))
     | exact Pv l15 ⟨HD0.out,HD1.out,aI _ _⟩ (Below.drew (ag4 (ag4 HT.out.gW HT.out.ge2 _) HT.out.ge1 _))
     | fail)
    (fail)
   rename_i K hK hHeld
   refine hK _ _ ?_
   have hg:=JX x y z
   obtain ⟨q0,q1,q2⟩:=JW x y z
   rw [←q0,←q1,←q2] at hg
   refine agx (kc1:=kc1) (kc2:=kc2) (rc:=rc) (rd:=rd) (kn:=kn) (by kernel_rfl) HR.out HCP.out.1 HRJ.out HRM.out HI1.out HE1.out HI2.out HE2.out HM.out HT.out hg.1 hg.2.1 hg.2.2 hkl hBlk HV.out hge rfl rfl (fun p hp=>?_)
   simp only [ag,ae,or_false] at hp
   rcases hp with rfl | rfl | rfl | rfl | rfl | rfl<;>rfl
end Go.Proofs.En
end
section
namespace Go.Proofs.En
open Go.RowKit
theorem Pw {A:Type} (P:Nat→A→Prop):∀n:Nat,(∀i,i<n→∃r,P i r)→∃rs:List A,rs.length=n∧∀(i:Nat) (r:A),rs[i]?=some r→P i r
 | 0,_=>⟨[],rfl,fun i r h=>by simp at h⟩
 | n+1,h=>by
  obtain ⟨rs,hl,hr⟩:=Pw P n fun i hi=>h i (by omega)
  obtain ⟨r,hp⟩:=h n (by omega)
  refine ⟨rs++[r],by simp [hl],fun i r' hi=>?_⟩
  rcases cu i rs.length with hlt | hge
  ·rw [aH hlt] at hi
   exact hr i r' hi
  ·rw [bu hge] at hi
   have:i=n:=by
    rcases Nat.eq_or_lt_of_le hge with h | h
    ·omega
    ·rw [bQ (by simp; omega)] at hi; cases hi
   subst this
   have e:i - rs.length=0:=by omega
   rw [e] at hi
   simp at hi
   subst hi
   exact hp
variable {w:World} {base fuel:Nat} {spare:Nat→Bool} {held:Bool} {t e:TypeId} {v:Value}
theorem aa0 {H:Type} {enc:TypeId×Value→H} {P:Program} {A:Type} (f:A→List Value) {n:Nat} {x:DataW H×List MemPlace} (ht:P.underlying t=some (.slice e)) (hc:P.cellsOf e=n) (hn:0<n)
  (hrow:∀(m:Nat) (cs:List Value) (y:DataW H×List MemPlace),DataW.trod enc P w base spare held m e cs=some y→∃r:A,cs=f r)
  (h:DataW.trod enc P w base spare held fuel t [v]=some x):∃(oa:Option Addr) (cap:Nat) (rs:List A),v=.slice oa rs.length cap∧rs.length≤9223372036854775807∧Sl w oa n (rs.map f):=by
 rcases Go.Deep.open_slice ht h with ⟨h0,_⟩ | ⟨a,len,cap,m,k,D,Pl,h1,hb,hl,hm,hmm,_,hx⟩
 ·injection h0 with h0 _
  subst h0
  exact ⟨none,0,[],rfl,by simp,fun h=>absurd rfl h⟩
 ·injection h1 with h1 _
  subst h1
  have hlm:len≤m:=by rw [hmm]; split<;>omega
  obtain ⟨rs,hrl,hr⟩:=Pw (fun i r=>w.cells? base (a.add (i*n)) n=some (f r)) len (fun i hi=>by
   obtain ⟨cs,c1,c2⟩:=hx i (by omega)
   rw [hc] at c1
   obtain ⟨r,rfl⟩:=hrow _ _ _ c2
   exact ⟨r,c1⟩)
  subst hrl
  refine ⟨some a,cap,rs,rfl,by unfold maxLen at hm; omega,fun hne=>?_⟩
  have hne':rs≠[]:=fun h=>hne (by simp [h])
  have cell:∀(i:Nat) (r:A),rs[i]?=some r→∀q u,(f r)[q]?=some u→w.cell? ((a.add (i*n)).add q)=some u:=by
   intro i r hi q u hq
   obtain ⟨_,c2,c3⟩:=World.cells?_some (hr i r hi)
   have hqn:q<n:=by
    rcases cu q (f r).length with h' | h'
    ·omega
    ·rw [bQ h'] at hq; cases hq
   rw [c3 q hqn,hq]
  have sp:a.spot=none:=by
   cases rs with
   | nil=>exact absurd rfl hne'
   | cons r0 rt =>
    obtain ⟨_,c2,c3⟩:=World.cells?_some (hr 0 r0 rfl)
    have c4:=c3 0 hn
    have:(f r0)[0]?=some ((f r0)[0]'(by omega)):=ah _
    rw [this] at c4
    cases hs:a.spot with
    | none=>rfl
    | some s =>
     exfalso
     have e0:((a.add (0*n)).add 0)=a:=by simp [Addr.add]
     rw [e0] at c4
     unfold bS at c4
     rw [hs] at c4
     revert c4
     cases w.heap[a.block]? with
     | none=>simp
     | some o=>cases o<;>simp
  obtain ⟨b,off,sp'⟩:=a
  simp at sp
  subst sp
  refine ⟨b,off,rfl,?_,fun i r hi q u hq=>?_⟩
  ·cases rs with
   | nil=>exact absurd rfl hne'
   | cons r0 rt =>
    obtain ⟨_,c2,c3⟩:=World.cells?_some (hr 0 r0 rfl)
    have c4:=c3 0 hn
    have:(f r0)[0]?=some ((f r0)[0]'(by omega)):=ah _
    rw [this] at c4
    rcases cu b w.heap.size with h' | h'
    ·exact h'
    ·exfalso
     have e0:(((⟨b,off,none⟩:Addr).add (0*n)).add 0)=⟨b,off,none⟩:=by simp [Addr.add]
     rw [e0] at c4
     simp [bS,afc h'] at c4
  ·rw [bY] at hi
   cases hri:rs[i]? with
   | none=>rw [hri] at hi; cases hi
   | some r' =>
    rw [hri] at hi
    simp at hi
    subst hi
    rw [←cell i r' hri q u hq]
    congr 1
    simp only [Addr.add]
    split<;>split<;>simp_all<;>omega
theorem ac7 {H:Type} {enc:TypeId×Value→H} (e:TypeId) (hu:aa.underlying e=some (.int .i64)) (m:Nat) (cs:List Value) (y:DataW H×List MemPlace) (h:DataW.trod enc aa w base spare held m e cs=some y):∃r:Int,cs=[.int .i64 r]:=by
 obtain ⟨n,rfl,_⟩:=DataW.trod_int hu h
 exact ⟨n,rfl⟩
theorem Io:aa.cellsOf 3=1:=by kernel_rfl
theorem KH {H:Type} {enc:TypeId×Value→H} {x:DataW H×List MemPlace} (ht:aa.underlying t=some (.slice e)) (hu:aa.underlying e=some (.int .i64)) (hc:aa.cellsOf e=1)
  (h:DataW.trod enc aa w base spare held fuel t [v]=some x):∃(oa:Option Addr) (cap:Nat) (rs:List Int),v=.slice oa rs.length cap∧rs.length≤9223372036854775807∧Sl w oa 1 (fF rs) :=
 aa0 (fun p:Int=>[.int .i64 p]) ht hc (by omega) (ac7 e hu) h
theorem laidOut:laidOutB aa=true:=by kernel_rfl
end Go.Proofs.En
end
