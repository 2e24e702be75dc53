/-
  Part of the proof: see the last text.
-/
import Derived.StillTailTactics
import Derived.Test.YthbfmjlcnfgnbaaGreatZEa
set_option linter.unusedVariables false
set_option maxHeartbeats 8000000
open Go.RowKit.Below renaming refl→aI
open Go.Instr renaming index→aeV
open Go.Lib renaming hid→aG
open List renaming all_eq_true→bn,getElem?_eq_getElem→ah,getElem?_eq_none→bQ,mem_of_getElem?→aN,range→dh
open Nat renaming le_refl→au,lt_of_lt_of_le→aC,lt_or_ge→cu
open Go.Proofs.Tryz renaming prog→aa
section
section
namespace Go.Proofs.En
open Go.RowKit
def lv (x m:Int):Bool:=decide (1≤x∧x≤m)
theorem qf (x m:Int) (w:World):Calls aa 127 #[.int .i64 x,.int .i64 m] w fun e w'=>e=.returned (.bool (lv x m))∧w=w':=by
 by_cases h1:1≤x
 ·by_cases h2:x≤m
  all_goals
   go_enter Tryz.func127,Tryz.ntmps127
   go_wp2
   go_ret
   exact ⟨qA (by unfold lv; symm; simp; omega),rfl⟩
 ·go_enter Tryz.func127,Tryz.ntmps127
  go_wp2
  go_ret
  exact ⟨qA (by unfold lv; symm; simp; omega),rfl⟩
def vU (c:Int):Bool:=decide (97≤c∧c≤122)
def vM (c:Int):Bool:=decide (48≤c∧c≤57)
theorem C8 (c:Int) (w:World):Calls aa 138 #[.int .i32 c] w fun e w'=>e=.returned (.bool (vU c))∧w=w':=by
 by_cases h1:97≤c
 ·by_cases h2:c≤122
  all_goals
   go_enter Tryz.func138,Tryz.ntmps138
   go_wp2
   go_ret
   exact ⟨qA (by unfold vU; symm; simp; omega),rfl⟩
 ·go_enter Tryz.func138,Tryz.ntmps138
  go_wp2
  go_ret
  exact ⟨qA (by unfold vU; symm; simp; omega),rfl⟩
theorem Iq (c:Int) (w:World):Calls aa 139 #[.int .i32 c] w fun e w'=>e=.returned (.bool (vM c))∧w=w':=by
 by_cases h1:48≤c
 ·by_cases h2:c≤57
  all_goals
   go_enter Tryz.func139,Tryz.ntmps139
   go_wp2
   go_ret
   exact ⟨qA (by unfold vM; symm; simp; omega),rfl⟩
 ·go_enter Tryz.func139,Tryz.ntmps139
  go_wp2
  go_ret
  exact ⟨qA (by unfold vM; symm; simp; omega),rfl⟩
def oI (k:Int):Int:=if k=1∨k=2∨k=3 then 524288 else if k=4∨k=5∨k=6 then 4194304 else 0
theorem Za (k:Int) (w:World):Calls aa 126 #[.int .i64 k] w fun e w'=>e=.returned (.int .i64 (oI k))∧w=w':=by
 have key:∀b1 b2 b3 b4 b5 b6:Bool,(k==1)=b1→(k==2)=b2→(k==3)=b3→(k==4)=b4→(k==5)=b5→(k==6)=b6 →
   Calls aa 126 #[.int .i64 k] w fun e w'=>e=.returned (.int .i64 (oI k))∧w=w':=by
  intro b1 b2 b3 b4 b5 b6 h1 h2 h3 h4 h5 h6
  have HL:Hid (oI k=if b1||b2||b3 then 524288 else if b4||b5||b6 then 4194304 else 0):=aG (by
   unfold oI; rw [←h1,←h2,←h3,←h4,←h5,←h6]; simp [or_assoc])
  cases b1
  ·cases b2
   ·cases b3
    ·cases b4
     ·cases b5
      ·cases b6
       all_goals
        go_enter Tryz.func126,Tryz.ntmps126
        go_wp2
        go_ret
        exact ⟨yB (by rw [HL.out]; rfl),rfl⟩
      ·go_enter Tryz.func126,Tryz.ntmps126
       go_wp2
       go_ret
       exact ⟨yB (by rw [HL.out]; rfl),rfl⟩
     ·go_enter Tryz.func126,Tryz.ntmps126
      go_wp2
      go_ret
      exact ⟨yB (by rw [HL.out]; rfl),rfl⟩
    ·go_enter Tryz.func126,Tryz.ntmps126
     go_wp2
     go_ret
     exact ⟨yB (by rw [HL.out]; rfl),rfl⟩
   ·go_enter Tryz.func126,Tryz.ntmps126
    go_wp2
    go_ret
    exact ⟨yB (by rw [HL.out]; rfl),rfl⟩
  ·go_enter Tryz.func126,Tryz.ntmps126
   go_wp2
   go_ret
   exact ⟨yB (by rw [HL.out]; rfl),rfl⟩
 exact key _ _ _ _ _ _ rfl rfl rfl rfl rfl rfl
def AJ (x:Int):Bool:=decide (x< -4194304)||decide (4194304<x)
def wD (x y z:Int):Bool:=AJ x||AJ y||AJ z
def oz (b:Bool) (w:World) (e:Ending) (w':World):Prop:=e=.returned (.bool b)∧Below w.heap.size w w'
variable {b:Bool} {w w':World}
theorem mg {a:Bool} (h:a=b) (hb:Below w.heap.size w w'):oz a w (.returned (.bool b)) w':=by subst h; exact ⟨rfl,hb⟩
theorem Wy (x y z:Int) (w:World) (a0:decide (x< -4194304)=true):Calls aa 125 #[.agg #[.int .i64 x,.int .i64 y,.int .i64 z]] w (oz true w):=by
 have i0:∀w,(aeV 40 (.agg #[.int .i64 x,.int .i64 y,.int .i64 z]) (.int .i64 0)).run aa w=.ok (.int .i64 x) w:=fun _=>by kernel_rfl
 have i1:∀w,(aeV 40 (.agg #[.int .i64 x,.int .i64 y,.int .i64 z]) (.int .i64 1)).run aa w=.ok (.int .i64 y) w:=fun _=>by kernel_rfl
 have i2:∀w,(aeV 40 (.agg #[.int .i64 x,.int .i64 y,.int .i64 z]) (.int .i64 2)).run aa w=.ok (.int .i64 z) w:=fun _=>by kernel_rfl
 go_enter Tryz.func125,Tryz.ntmps125
 go_wp2_with fail
 refine wp_loop_rounds 4 ?_
 rw [rounds_succ]
 go_wp2_with fail
 go_wp2
 go_ret
 exact mg rfl ((aI _ _).alloc (au _) _)
theorem Wz (x y z:Int) (w:World) (a0:decide (x< -4194304)=false) (b0:decide (4194304<x)=true):Calls aa 125 #[.agg #[.int .i64 x,.int .i64 y,.int .i64 z]] w (oz true w):=by
 have i0:∀w,(aeV 40 (.agg #[.int .i64 x,.int .i64 y,.int .i64 z]) (.int .i64 0)).run aa w=.ok (.int .i64 x) w:=fun _=>by kernel_rfl
 have i1:∀w,(aeV 40 (.agg #[.int .i64 x,.int .i64 y,.int .i64 z]) (.int .i64 1)).run aa w=.ok (.int .i64 y) w:=fun _=>by kernel_rfl
 have i2:∀w,(aeV 40 (.agg #[.int .i64 x,.int .i64 y,.int .i64 z]) (.int .i64 2)).run aa w=.ok (.int .i64 z) w:=fun _=>by kernel_rfl
 go_enter Tryz.func125,Tryz.ntmps125
 go_wp2_with fail
 refine wp_loop_rounds 4 ?_
 rw [rounds_succ]
 go_wp2_with fail
 go_wp2
 go_ret
 exact mg rfl ((aI _ _).alloc (au _) _)
theorem WA (x y z:Int) (w:World) (a0:decide (x< -4194304)=false) (b0:decide (4194304<x)=false) (a1:decide (y< -4194304)=true):Calls aa 125 #[.agg #[.int .i64 x,.int .i64 y,.int .i64 z]] w (oz true w):=by
 have i0:∀w,(aeV 40 (.agg #[.int .i64 x,.int .i64 y,.int .i64 z]) (.int .i64 0)).run aa w=.ok (.int .i64 x) w:=fun _=>by kernel_rfl
 have i1:∀w,(aeV 40 (.agg #[.int .i64 x,.int .i64 y,.int .i64 z]) (.int .i64 1)).run aa w=.ok (.int .i64 y) w:=fun _=>by kernel_rfl
 have i2:∀w,(aeV 40 (.agg #[.int .i64 x,.int .i64 y,.int .i64 z]) (.int .i64 2)).run aa w=.ok (.int .i64 z) w:=fun _=>by kernel_rfl
 go_enter Tryz.func125,Tryz.ntmps125
 go_wp2_with fail
 refine wp_loop_rounds 4 ?_
 rw [rounds_succ]
 go_wp2_with fail
 rw [rounds_succ]
 go_wp2_with fail
 go_wp2
 go_ret
 exact mg rfl ((aI _ _).alloc (au _) _)
theorem WC (x y z:Int) (w:World) (a0:decide (x< -4194304)=false) (b0:decide (4194304<x)=false) (a1:decide (y< -4194304)=false) (b1:decide (4194304<y)=true):Calls aa 125 #[.agg #[.int .i64 x,.int .i64 y,.int .i64 z]] w (oz true w):=by
 have i0:∀w,(aeV 40 (.agg #[.int .i64 x,.int .i64 y,.int .i64 z]) (.int .i64 0)).run aa w=.ok (.int .i64 x) w:=fun _=>by kernel_rfl
 have i1:∀w,(aeV 40 (.agg #[.int .i64 x,.int .i64 y,.int .i64 z]) (.int .i64 1)).run aa w=.ok (.int .i64 y) w:=fun _=>by kernel_rfl
 have i2:∀w,(aeV 40 (.agg #[.int .i64 x,.int .i64 y,.int .i64 z]) (.int .i64 2)).run aa w=.ok (.int .i64 z) w:=fun _=>by kernel_rfl
 go_enter Tryz.func125,Tryz.ntmps125
 go_wp2_with fail
 refine wp_loop_rounds 4 ?_
 rw [rounds_succ]
 go_wp2_with fail
 rw [rounds_succ]
 go_wp2_with fail
 go_wp2
 go_ret
 exact mg rfl ((aI _ _).alloc (au _) _)
theorem WE (x y z:Int) (w:World) (a0:decide (x< -4194304)=false) (b0:decide (4194304<x)=false) (a1:decide (y< -4194304)=false) (b1:decide (4194304<y)=false) (a2:decide (z< -4194304)=true):Calls aa 125 #[.agg #[.int .i64 x,.int .i64 y,.int .i64 z]] w (oz true w):=by
 have i0:∀w,(aeV 40 (.agg #[.int .i64 x,.int .i64 y,.int .i64 z]) (.int .i64 0)).run aa w=.ok (.int .i64 x) w:=fun _=>by kernel_rfl
 have i1:∀w,(aeV 40 (.agg #[.int .i64 x,.int .i64 y,.int .i64 z]) (.int .i64 1)).run aa w=.ok (.int .i64 y) w:=fun _=>by kernel_rfl
 have i2:∀w,(aeV 40 (.agg #[.int .i64 x,.int .i64 y,.int .i64 z]) (.int .i64 2)).run aa w=.ok (.int .i64 z) w:=fun _=>by kernel_rfl
 go_enter Tryz.func125,Tryz.ntmps125
 go_wp2_with fail
 refine wp_loop_rounds 4 ?_
 rw [rounds_succ]
 go_wp2_with fail
 rw [rounds_succ]
 go_wp2_with fail
 rw [rounds_succ]
 go_wp2_with fail
 go_wp2
 go_ret
 exact mg rfl ((aI _ _).alloc (au _) _)
theorem WG (x y z:Int) (w:World) (a0:decide (x< -4194304)=false) (b0:decide (4194304<x)=false) (a1:decide (y< -4194304)=false) (b1:decide (4194304<y)=false) (a2:decide (z< -4194304)=false) (b2:decide (4194304<z)=true):Calls aa 125 #[.agg #[.int .i64 x,.int .i64 y,.int .i64 z]] w (oz true w):=by
 have i0:∀w,(aeV 40 (.agg #[.int .i64 x,.int .i64 y,.int .i64 z]) (.int .i64 0)).run aa w=.ok (.int .i64 x) w:=fun _=>by kernel_rfl
 have i1:∀w,(aeV 40 (.agg #[.int .i64 x,.int .i64 y,.int .i64 z]) (.int .i64 1)).run aa w=.ok (.int .i64 y) w:=fun _=>by kernel_rfl
 have i2:∀w,(aeV 40 (.agg #[.int .i64 x,.int .i64 y,.int .i64 z]) (.int .i64 2)).run aa w=.ok (.int .i64 z) w:=fun _=>by kernel_rfl
 go_enter Tryz.func125,Tryz.ntmps125
 go_wp2_with fail
 refine wp_loop_rounds 4 ?_
 rw [rounds_succ]
 go_wp2_with fail
 rw [rounds_succ]
 go_wp2_with fail
 rw [rounds_succ]
 go_wp2_with fail
 go_wp2
 go_ret
 exact mg rfl ((aI _ _).alloc (au _) _)
theorem WH (x y z:Int) (w:World) (a0:decide (x< -4194304)=false) (b0:decide (4194304<x)=false) (a1:decide (y< -4194304)=false) (b1:decide (4194304<y)=false) (a2:decide (z< -4194304)=false) (b2:decide (4194304<z)=false):Calls aa 125 #[.agg #[.int .i64 x,.int .i64 y,.int .i64 z]] w (oz false w):=by
 have i0:∀w,(aeV 40 (.agg #[.int .i64 x,.int .i64 y,.int .i64 z]) (.int .i64 0)).run aa w=.ok (.int .i64 x) w:=fun _=>by kernel_rfl
 have i1:∀w,(aeV 40 (.agg #[.int .i64 x,.int .i64 y,.int .i64 z]) (.int .i64 1)).run aa w=.ok (.int .i64 y) w:=fun _=>by kernel_rfl
 have i2:∀w,(aeV 40 (.agg #[.int .i64 x,.int .i64 y,.int .i64 z]) (.int .i64 2)).run aa w=.ok (.int .i64 z) w:=fun _=>by kernel_rfl
 go_enter Tryz.func125,Tryz.ntmps125
 go_wp2_with fail
 refine wp_loop_rounds 4 ?_
 rw [rounds_succ]
 go_wp2_with fail
 rw [rounds_succ]
 go_wp2_with fail
 rw [rounds_succ]
 go_wp2_with fail
 rw [rounds_succ]
 go_wp2_with fail
 go_wp2
 go_ret
 exact mg rfl ((aI _ _).alloc (au _) _)
theorem MN (x y z:Int) (w:World):Calls aa 125 #[.agg #[.int .i64 x,.int .i64 y,.int .i64 z]] w (oz (wD x y z) w):=by
 unfold wD AJ
 cases a0:decide (x< -4194304) with
 | true=>exact Wy x y z w a0
 | false =>
  cases b0:decide (4194304<x) with
  | true=>exact Wz x y z w a0 b0
  | false =>
   cases a1:decide (y< -4194304) with
   | true=>exact WA x y z w a0 b0 a1
   | false =>
    cases b1:decide (4194304<y) with
    | true=>exact WC x y z w a0 b0 a1 b1
    | false =>
     cases a2:decide (z< -4194304) with
     | true=>exact WE x y z w a0 b0 a1 b1 a2
     | false =>
      cases b2:decide (4194304<z) with
      | true=>exact WG x y z w a0 b0 a1 b1 a2 b2
      | false=>exact WH x y z w a0 b0 a1 b1 a2 b2
end Go.Proofs.En
end
section
namespace Go.Proofs.En
open Go.RowKit
def Po (s:ByteArray):Bool:=s.toList==[119,111,114,108,100]
def zG (i:Nat) (c:Nat):Bool:=vU c||(decide (i≠0)&&(vM c||decide (c=95)))
def zH (s:ByteArray):Bool:=(dh s.size).all fun i=>zG i (s.get! i).toNat
def vV (s:ByteArray):Bool:=decide (1≤s.size∧s.size≤16)&&!(Po s)&&zH s
theorem get_eq (s:ByteArray) (i:Nat) (h:i<s.size):s.get! i=s[i]:=by
 show s.data[i]! = s.data[i]
 rw [getElem!_pos s.data i h]
variable {s:ByteArray}
theorem PX {i:Nat} (h:i<s.size) (hc:zG i (s[i]'h).toNat=false):zH s=false:=by
 unfold zH
 rw [List.all_eq_false]
 exact ⟨i,List.mem_range.2 h,by rw [get_eq s i h,hc]; simp⟩
theorem Z0 (h:∀i (hi:i<s.size),zG i (s[i]'hi).toNat=true):zH s=true:=by
 unfold zH
 rw [bn]
 intro i hi
 have hi:=List.mem_range.1 hi
 rw [get_eq s i hi]; exact h i hi
theorem Ia (w:World) (s:ByteArray) (p:Nat):Below w.heap.size w (w.iter s p):=by
 refine ⟨rfl,rfl,rfl,?_,fun k hk=>?_⟩
 ·simp [World.iter]
 ·show (w.heap.push _)[k]?=_
  rw [Array.getElem?_push,if_neg (by omega)]
theorem ZV (s:ByteArray) (w:World) (h:s.size=0):Calls aa 123 #[.string s] w (oz false w):=by
 have h0:((s.size:Int)==0)=true:=by simp [h]
 go_enter Tryz.func123,Tryz.ntmps123
 go_wp2
 go_ret
 exact mg rfl (aI _ _)
theorem ZT (s:ByteArray) (w:World) (h:16<s.size):Calls aa 123 #[.string s] w (oz false w):=by
 have h0:((s.size:Int)==0)=false:=by rw [beq_eq_false_iff_ne]; omega
 have h1:decide ((16:Int)<(s.size:Int))=true:=by simp; omega
 go_enter Tryz.func123,Tryz.ntmps123
 go_wp2
 go_ret
 exact mg rfl (aI _ _)
theorem ZW (s:ByteArray) (w:World) (h1:1≤s.size) (h2:s.size≤16) (hw:(s.toList==[119,111,114,108,100])=true):Calls aa 123 #[.string s] w (oz false w):=by
 have g0:((s.size:Int)==0)=false:=by rw [beq_eq_false_iff_ne]; omega
 have g1:decide ((16:Int)<(s.size:Int))=false:=by simp; omega
 have g2:decide (16<s.size)=false:=by simp; omega
 go_enter Tryz.func123,Tryz.ntmps123
 go_wp2
 go_ret
 exact mg rfl (aI _ _)
theorem ZZ (i:Nat) (c:Nat) (h:128≤c):zG i c=false:=by
 simp [zG,vU,vM]; omega
theorem ZU (s:ByteArray) (w:World) (h1:1≤s.size) (h2:s.size≤16) (hw:(s.toList==[119,111,114,108,100])=false):Calls aa 123 #[.string s] w (oz (zH s) w):=by
 have g0:((s.size:Int)==0)=false:=by rw [beq_eq_false_iff_ne]; omega
 have g1:decide ((16:Int)<(s.size:Int))=false:=by simp; omega
 have g2:decide (16<s.size)=false:=by simp; omega
 generalize hr:zH s=r
 have HR:=aG hr
 clear hr
 go_enter Tryz.func123,Tryz.ntmps123
 go_wp2_with fail
 go_loopw [19] (fun _ w'=>∃pos:Nat,w'=w.iter s pos∧pos≤s.size∧∀i (hi:i<s.size),i<pos→zG i (s[i]'hi).toNat=true) (fun _ w'=>s.size - w'.iterPos w.heap.size)
 case atStart=>exact ⟨0,rfl,by omega,fun i _ h=>absurd h (by omega)⟩
 case round =>
  obtain ⟨pos,rfl,hp,hall⟩:=hrel
  have HA:=aG hall
  clear hall
  by_cases hlt:pos<s.size
  ·have hnx:∀ty,(Instr.next (.pointer (some ⟨w.heap.size,0,none⟩)) true ty).run aa (w.iter s pos)=_:=fun ty=>run_next_any w s pos ty hlt
   obtain ⟨c,hc⟩:∃c,(Utf8.decode s pos).1=c:=⟨_,rfl⟩
   obtain ⟨d,hd⟩:∃d,(Utf8.decode s pos).2=d:=⟨_,rfl⟩
   rw [hc,hd] at hnx
   have key:zG pos (s[pos]'hlt).toNat=(vU c||(decide (pos≠0)&&(vM c||decide (c=95))))∧((vU c||(decide (pos≠0)&&(vM c||decide (c=95))))=true→d=1):=by
    by_cases ha:(s[pos]'hlt).toNat<128
    ·have e:=decode_ascii s pos hlt ha
     rw [e] at hc hd
     simp only at hc hd
     subst hc hd
     exact ⟨rfl,fun _=>rfl⟩
    ·have e:=decode_high s pos hlt (by omega)
     rw [hc] at e
     have hz:(vU c||(decide (pos≠0)&&(vM c||decide (c=95))))=false:=by
      have:=e.1; simp [vU,vM]; omega
     rw [hz,ZZ pos _ (by omega)]
     exact ⟨rfl,fun h=>by cases h⟩
   have HK:=aG key
   clear key hc hd
   cases hl:vU c with
   | true =>
    go_wp2_with fail
    refine (C8 _ _).mono ?_
    rintro e w1 ⟨rfl,rfl⟩
    rw [hl]
    go_wp2
    have hk:=HK.out
    rw [hl] at hk
    obtain rfl:=hk.2 rfl
    go_roundw
    case rel =>
     refine ⟨pos+1,rfl,by omega,fun i hi hip=>?_⟩
     rcases (show i<pos∨i=pos by omega) with h | rfl
     ·exact HA.out i hi h
     ·exact hk.1
    case measure=>simp; omega
   | false =>
    cases hz:((pos:Int)==0) with
    | true =>
     have hr:r=false:=by
      have hk:=HK.out.1
      have hz':pos=0:=by have:=beq_iff_eq.1 hz; omega
      rw [hl] at hk
      rw [←HR.out]; exact PX hlt (by rw [hk]; simp [hz'])
     have HRF:=aG hr
     clear hr
     go_wp2_with fail
     refine (C8 _ _).mono ?_
     rintro e w1 ⟨rfl,rfl⟩
     rw [hl]
     go_wp2
     go_ret
     exact mg HRF.out (Ia w s _)
    | false =>
     have hz':decide (pos≠0)=true:=by have:=beq_eq_false_iff_ne.1 hz; simp; omega
     cases hdg:vM c with
     | true =>
      go_wp2_with fail
      refine (C8 _ _).mono ?_
      rintro e w1 ⟨rfl,rfl⟩
      rw [hl]
      go_wp2_with fail
      refine (Iq _ _).mono ?_
      rintro e w1 ⟨rfl,rfl⟩
      rw [hdg]
      go_wp2
      have hk:=HK.out
      rw [hl,hdg,hz'] at hk
      obtain rfl:=hk.2 rfl
      go_roundw
      case rel =>
       refine ⟨pos+1,rfl,by omega,fun i hi hip=>?_⟩
       rcases (show i<pos∨i=pos by omega) with h | rfl
       ·exact HA.out i hi h
       ·exact hk.1
      case measure=>simp; omega
     | false =>
      cases hu:((c:Int)==95) with
      | true =>
       have hu':((c:Int) != 95)=false:=by simp [bne,hu]
       have huc:decide (c=95)=true:=by have:=beq_iff_eq.1 hu; simp; omega
       go_wp2_with fail
       refine (C8 _ _).mono ?_
       rintro e w1 ⟨rfl,rfl⟩
       rw [hl]
       go_wp2_with fail
       refine (Iq _ _).mono ?_
       rintro e w1 ⟨rfl,rfl⟩
       rw [hdg]
       go_wp2
       have hk:=HK.out
       rw [hl,hdg,hz',huc] at hk
       obtain rfl:=hk.2 rfl
       go_roundw
       case rel =>
        refine ⟨pos+1,rfl,by omega,fun i hi hip=>?_⟩
        rcases (show i<pos∨i=pos by omega) with h | rfl
        ·exact HA.out i hi h
        ·exact hk.1
       case measure=>simp; omega
      | false =>
       have hu':((c:Int) != 95)=true:=by simp [bne,hu]
       have huc:decide (c=95)=false:=by have:=beq_eq_false_iff_ne.1 hu; simp; omega
       have hr:r=false:=by
        have hk:=HK.out.1
        rw [hl,hdg,huc] at hk
        rw [←HR.out]; exact PX hlt (by rw [hk]; simp)
       have HRF:=aG hr
       clear hr
       go_wp2_with fail
       refine (C8 _ _).mono ?_
       rintro e w1 ⟨rfl,rfl⟩
       rw [hl]
       go_wp2_with fail
       refine (Iq _ _).mono ?_
       rintro e w1 ⟨rfl,rfl⟩
       rw [hdg]
       go_wp2
       go_ret
       exact mg HRF.out (Ia w s _)
  ·have hnx:∀ty,(Instr.next (.pointer (some ⟨w.heap.size,0,none⟩)) true ty).run aa (w.iter s pos)=_:=fun ty=>run_next_end w s pos ty hlt
   go_wp2
   go_ret
   refine mg ?_ (Ia w s pos)
   rw [←HR.out]
   exact Z0 fun i hi=>HA.out i hi (by omega)
theorem ZR (s:ByteArray) (w:World):Calls aa 123 #[.string s] w (oz (vV s) w):=by
 unfold vV Po
 by_cases h1:1≤s.size
 ·by_cases h2:s.size≤16
  ·cases hw:(s.toList==[119,111,114,108,100]) with
   | true=>simpa using ZW s w h1 h2 hw
   | false=>simpa [h1,h2] using ZU s w h1 h2 hw
  ·simpa [h2] using ZT s w (by omega)
 ·simpa [h1] using ZV s w (by omega)
end Go.Proofs.En
end
section
namespace Go.Proofs.En
open Go.RowKit
end Go.Proofs.En
end
section
namespace Go.Proofs.En
open Go.RowKit
structure JV where
 name:ByteArray
 kind:Int
 parent:Int
 o0:Int
 o1:Int
 o2:Int
 lo:Int
 hi:Int
 weight:Int
 speed:Int
 iL:Int
 iO:Int
def JV.vals (j:JV):List Value:=[.string j.name,.int .i64 j.kind,.int .i64 j.parent,.int .i64 j.o0,.int .i64 j.o1,.int .i64 j.o2,.int .i64 j.lo,.int .i64 j.hi,.int .i64 j.weight,.int .i64 j.speed,.int .i64 j.iL,.int .i64 j.iO]
structure MV where
 link:Int
 eT:Int
 p0:Int
 p1:Int
 p2:Int
def MV.vals (m:MV):List Value:=[.int .i64 m.link,.int .i64 m.eT,.int .i64 m.p0,.int .i64 m.p1,.int .i64 m.p2]
structure uJ (w:World) (b off n:Nat) (l:List (List Value)):Prop where
 lt:b<w.heap.size
 c:∀i r,l[i]?=some r→∀k v,r[k]?=some v→w.cell? ⟨b,off+(i*n+k),none⟩=some v
variable {w w':World} {off n:Nat}
theorem uJ.keep {b:Nat} {l:List (List Value)} (h:uJ w b off n l) (hb:Below w.heap.size w w'):uJ w' b off n l :=
 ⟨aC h.lt hb.size,fun i r hi k v hv=>(hb.cell (p:=⟨b,off+(i*n+k),none⟩) h.lt).trans (h.c i r hi k v hv)⟩
variable {js:List JV} {k:Nat} {j:JV}
theorem iX (h:js[k]?=some j):(js.map JV.vals)[k]?=some j.vals:=by simp [h]
def rq (a b:ByteArray):Bool:=a.toList==b.toList
def findF (js:List JV) (s:ByteArray):Int:=if js.findIdx (fun j=>rq j.name s)<js.length then js.findIdx (fun j=>rq j.name s) else -1
def DW (n:Int) (w:World) (e:Ending) (w':World):Prop:=e=.returned (.int .i64 n)∧Below w.heap.size w w'
theorem nI {n m:Int} (h:n=m) (hb:Below w.heap.size w w'):DW n w (.returned (.int .i64 m)) w':=by subst h; exact ⟨rfl,hb⟩
variable {s:ByteArray}
theorem OO (hj:js[k]?=some j) (he:rq j.name s=true) (hall:∀i (j:JV),i<k→js[i]?=some j→rq j.name s=false):findF js s=k:=by
 have hk:k<js.length:=by
  rcases cu k js.length with h | h
  ·exact h
  ·rw [bQ h] at hj; cases hj
 have:js.findIdx (fun j=>rq j.name s)=k:=by
  rw [List.findIdx_eq hk]
  rw [ah hk] at hj
  injection hj with hj
  exact ⟨by rw [hj]; exact he,fun i hi=>hall i _ hi (ah (by omega))⟩
 unfold findF
 rw [this,if_pos hk]
theorem XY (hall:∀(i:Nat) (j:JV),js[i]?=some j→rq j.name s=false):findF js s=-1:=by
 have:js.findIdx (fun j=>rq j.name s)=js.length:=by
  rw [List.findIdx_eq_length]
  intro x hx
  obtain ⟨i,hi,rfl⟩:=List.mem_iff_getElem.1 hx
  exact hall i _ (ah hi)
 unfold findF
 rw [this,if_neg (by omega)]
theorem XZ (b off cap:Nat) (js:List JV) (mv:Value) (s:ByteArray) (w:World) (hc:js.length≤100) (hJ:uJ w b off 12 (js.map JV.vals)) :
  Calls aa 124 #[.agg #[.slice (some ⟨b,off,none⟩) js.length cap,mv],.string s] w (DW (findF js s) w):=by
 have lt:=hJ.lt
 generalize hr:findF js s=r
 have HR:=aG hr
 clear hr
 go_enter Tryz.func124,Tryz.ntmps124
 go_wp2_with fail
 go_loop [9] (fun i=>∃k:Nat,k≤js.length∧i=.int .i64 k∧∀i j,i<k→js[i]?=some j→rq j.name s=false) (fun i=>js.length - (intOf i).toNat)
 case atStart=>exact ⟨0,by omega,rfl,fun i j h=>absurd h (by omega)⟩
 case round =>
  obtain ⟨k,hk,rfl,hall⟩:=hrel
  have HA:=aG hall
  clear hall
  by_cases hlt:k<js.length
  ·obtain ⟨j,hj⟩:∃j,js[k]?=some j:=⟨_,ah hlt⟩
   have c0:w.cell? ⟨b,off+k*12,none⟩=some (.string j.name):=hJ.c k _ (iX hj) 0 _ rfl
   have HJ:=aG hj
   clear hj
   cases he:(j.name.toList==s.toList) with
   | true =>
    go_wp2
    go_ret
    refine nI ?_ ((aI _ _).alloc (au _) _)
    rw [←HR.out]
    exact OO HJ.out he HA.out
   | false =>
    go_wp2
    go_round
    case rel =>
     refine ⟨k+1,by omega,by go_num,fun i j' hi hj'=>?_⟩
     rcases (show i<k∨i=k by omega) with h | rfl
     ·exact HA.out i j' h hj'
     ·rw [HJ.out] at hj'; injection hj' with hj'; subst hj'; exact he
    case measure=>simp [intOf]; omega
  ·go_wp2
   go_ret
   refine nI ?_ ((aI _ _).alloc (au _) _)
   rw [←HR.out]
   refine XY fun i j hj=>HA.out i j ?_ hj
   rcases cu i js.length with h | h
   ·omega
   ·rw [bQ h] at hj; cases hj
end Go.Proofs.En
end
section
namespace Go.Proofs.En
open Go.RowKit
def qY (js:List JV) (j:JV) (i:Int):Int :=
 if !vV j.name||decide (findF js j.name≠i) then 802
 else if j.kind<0∨6<j.kind then 803
 else if j.parent< -1∨i≤j.parent then 804
 else if wD j.o0 j.o1 j.o2 then 805
 else if j.hi<j.lo∨j.lo< -oI j.kind∨oI j.kind<j.hi then 806
 else if !lv j.weight 1024||!lv j.speed 1048576||!lv j.iL 1048576||!lv j.iO 1099511627776 then 807
 else 0
theorem EX (k:Int):0≤oI k∧oI k≤4194304:=by
 unfold oI; split
 ·omega
 ·split<;>omega
structure CW (w:World) (n2 n5 b off:Nat) (rv:List Value) (j:JV) (js:List JV) (W:World):Prop where
 gW:Below w.heap.size w W
 r2:Row W n2 rv
 r5:Row W n5 j.vals
 rJ:uJ W b off 12 (js.map JV.vals)
theorem CW.keep {w W W':World} {n2 n5 b off:Nat} {rv:List Value} {j:JV} {js:List JV} (h:CW w n2 n5 b off rv j js W) (hb:Below W.heap.size W W'):CW w n2 n5 b off rv j js W' :=
 ⟨jD h.gW hb,h.r2.keep hb,h.r5.keep hb,h.rJ.keep hb⟩
theorem Xk (b off cap:Nat) (js:List JV) (j:JV) (k:Nat) (mv:Value) (w:World) (hc:js.length≤100) (hk:k<js.length) (hj:js[k]?=some j) (hJ:uJ w b off 12 (js.map JV.vals)) :
  Calls aa 106 #[.agg #[.slice (some ⟨b,off,none⟩) js.length cap,mv],.int .i64 k] w (DW (qY js j k) w):=by
 have lt:=hJ.lt
 have c0:w.cell? ⟨b,off+k*12,none⟩=some (.string j.name):=hJ.c k _ (iX hj) 0 _ rfl
 have c1:w.cell? ⟨b,off+k*12+1,none⟩=some (.int .i64 j.kind):=hJ.c k _ (iX hj) 1 _ rfl
 have c2:w.cell? ⟨b,off+k*12+2,none⟩=some (.int .i64 j.parent):=hJ.c k _ (iX hj) 2 _ rfl
 have c3:w.cell? ⟨b,off+k*12+3,none⟩=some (.int .i64 j.o0):=hJ.c k _ (iX hj) 3 _ rfl
 have c4:w.cell? ⟨b,off+k*12+4,none⟩=some (.int .i64 j.o1):=hJ.c k _ (iX hj) 4 _ rfl
 have c5:w.cell? ⟨b,off+k*12+5,none⟩=some (.int .i64 j.o2):=hJ.c k _ (iX hj) 5 _ rfl
 have c6:w.cell? ⟨b,off+k*12+6,none⟩=some (.int .i64 j.lo):=hJ.c k _ (iX hj) 6 _ rfl
 have c7:w.cell? ⟨b,off+k*12+7,none⟩=some (.int .i64 j.hi):=hJ.c k _ (iX hj) 7 _ rfl
 have c8:w.cell? ⟨b,off+k*12+8,none⟩=some (.int .i64 j.weight):=hJ.c k _ (iX hj) 8 _ rfl
 have c9:w.cell? ⟨b,off+k*12+9,none⟩=some (.int .i64 j.speed):=hJ.c k _ (iX hj) 9 _ rfl
 have c10:w.cell? ⟨b,off+k*12+10,none⟩=some (.int .i64 j.iL):=hJ.c k _ (iX hj) 10 _ rfl
 have c11:w.cell? ⟨b,off+k*12+11,none⟩=some (.int .i64 j.iO):=hJ.c k _ (iX hj) 11 _ rfl
 have hC:qY js j k=qY js j k:=rfl
 generalize hr:qY js j k=r at hC
 unfold qY at hr
 have HR:=aG hr
 clear hr hC hj
 go_enter Tryz.func106,Tryz.ntmps106
 go_wp2_with fail
 have hb0:Below w.heap.size w ((w.alloc (.cells #[.slice (some ⟨b,off,none⟩) js.length cap,mv] 35)).alloc (.cells #[.string j.name,.int .i64 j.kind,.int .i64 j.parent,.int .i64 j.o0,.int .i64 j.o1,.int .i64 j.o2,.int .i64 j.lo,.int .i64 j.hi,.int .i64 j.weight,.int .i64 j.speed,.int .i64 j.iL,.int .i64 j.iO] 80)):=((aI _ _).alloc (au _) _).alloc (by simp) _
 have e1:(w.alloc (.cells #[.slice (some ⟨b,off,none⟩) js.length cap,mv] 35)).heap.size=w.heap.size+1:=by simp
 have q5:=Row.new (w.alloc (.cells #[.slice (some ⟨b,off,none⟩) js.length cap,mv] 35)) [.string j.name,.int .i64 j.kind,.int .i64 j.parent,.int .i64 j.o0,.int .i64 j.o1,.int .i64 j.o2,.int .i64 j.lo,.int .i64 j.hi,.int .i64 j.weight,.int .i64 j.speed,.int .i64 j.iL,.int .i64 j.iO] 80
 rw [e1] at q5
 have hW0:CW w w.heap.size (w.heap.size+1) b off [.slice (some ⟨b,off,none⟩) js.length cap,mv] j js ((w.alloc (.cells #[.slice (some ⟨b,off,none⟩) js.length cap,mv] 35)).alloc (.cells #[.string j.name,.int .i64 j.kind,.int .i64 j.parent,.int .i64 j.o0,.int .i64 j.o1,.int .i64 j.o2,.int .i64 j.lo,.int .i64 j.hi,.int .i64 j.weight,.int .i64 j.speed,.int .i64 j.iL,.int .i64 j.iO] 80)):=⟨hb0,(Row.new w [.slice (some ⟨b,off,none⟩) js.length cap,mv] 35).al _,q5,hJ.keep hb0⟩
 clear hb0 e1 q5 c0 c1 c2 c3 c4 c5 c6 c7 c8 c9 c10 c11 lt hJ
 generalize ((w.alloc (.cells #[.slice (some ⟨b,off,none⟩) js.length cap,mv] 35)).alloc (.cells #[.string j.name,.int .i64 j.kind,.int .i64 j.parent,.int .i64 j.o0,.int .i64 j.o1,.int .i64 j.o2,.int .i64 j.lo,.int .i64 j.hi,.int .i64 j.weight,.int .i64 j.speed,.int .i64 j.iL,.int .i64 j.iO] 80))=W0 at hW0 ⊢
 generalize w.heap.size+1=n5 at hW0 ⊢
 generalize hn2:w.heap.size=n2 at hW0 ⊢
 have HN:=aG hn2
 clear hn2
 refine (ZR _ _).mono ?_
 rintro e W1 ⟨rfl,hb1⟩
 have hW:=hW0.keep hb1
 clear hW0 hb1
 cases hnm:vV j.name with
 | false =>
  have NM:=aG hnm
  clear hnm
  have s0:=hW.r2.c 0 _ rfl
  have s1:=hW.r2.c 1 _ rfl
  have d0:W1.cell? ⟨n5,0,none⟩=some (.string j.name):=hW.r5.c 0 _ rfl
  have d1:W1.cell? ⟨n5,1,none⟩=some (.int .i64 j.kind):=hW.r5.c 1 _ rfl
  have d2:W1.cell? ⟨n5,2,none⟩=some (.int .i64 j.parent):=hW.r5.c 2 _ rfl
  have d3:W1.cell? ⟨n5,3,none⟩=some (.int .i64 j.o0):=hW.r5.c 3 _ rfl
  have d4:W1.cell? ⟨n5,4,none⟩=some (.int .i64 j.o1):=hW.r5.c 4 _ rfl
  have d5:W1.cell? ⟨n5,5,none⟩=some (.int .i64 j.o2):=hW.r5.c 5 _ rfl
  have d6:W1.cell? ⟨n5,6,none⟩=some (.int .i64 j.lo):=hW.r5.c 6 _ rfl
  have d7:W1.cell? ⟨n5,7,none⟩=some (.int .i64 j.hi):=hW.r5.c 7 _ rfl
  have d8:W1.cell? ⟨n5,8,none⟩=some (.int .i64 j.weight):=hW.r5.c 8 _ rfl
  have d9:W1.cell? ⟨n5,9,none⟩=some (.int .i64 j.speed):=hW.r5.c 9 _ rfl
  have d10:W1.cell? ⟨n5,10,none⟩=some (.int .i64 j.iL):=hW.r5.c 10 _ rfl
  have d11:W1.cell? ⟨n5,11,none⟩=some (.int .i64 j.iO):=hW.r5.c 11 _ rfl
  go_wp2
  go_ret
  refine nI ?_ hW.gW
  rw [←HR.out]
  simp [NM.out]
 | true =>
  have NM:=aG hnm
  clear hnm
  have s0:=hW.r2.c 0 _ rfl
  have s1:=hW.r2.c 1 _ rfl
  have d0:W1.cell? ⟨n5,0,none⟩=some (.string j.name):=hW.r5.c 0 _ rfl
  have d1:W1.cell? ⟨n5,1,none⟩=some (.int .i64 j.kind):=hW.r5.c 1 _ rfl
  have d2:W1.cell? ⟨n5,2,none⟩=some (.int .i64 j.parent):=hW.r5.c 2 _ rfl
  have d3:W1.cell? ⟨n5,3,none⟩=some (.int .i64 j.o0):=hW.r5.c 3 _ rfl
  have d4:W1.cell? ⟨n5,4,none⟩=some (.int .i64 j.o1):=hW.r5.c 4 _ rfl
  have d5:W1.cell? ⟨n5,5,none⟩=some (.int .i64 j.o2):=hW.r5.c 5 _ rfl
  have d6:W1.cell? ⟨n5,6,none⟩=some (.int .i64 j.lo):=hW.r5.c 6 _ rfl
  have d7:W1.cell? ⟨n5,7,none⟩=some (.int .i64 j.hi):=hW.r5.c 7 _ rfl
  have d8:W1.cell? ⟨n5,8,none⟩=some (.int .i64 j.weight):=hW.r5.c 8 _ rfl
  have d9:W1.cell? ⟨n5,9,none⟩=some (.int .i64 j.speed):=hW.r5.c 9 _ rfl
  have d10:W1.cell? ⟨n5,10,none⟩=some (.int .i64 j.iL):=hW.r5.c 10 _ rfl
  have d11:W1.cell? ⟨n5,11,none⟩=some (.int .i64 j.iO):=hW.r5.c 11 _ rfl
  go_wp2_with fail
  refine (XZ b off cap js mv j.name _ hc hW.rJ).mono ?_
  rintro e W2 ⟨rfl,hb2⟩
  have hV:=hW.keep hb2
  clear hW hb2
  clear s0 s1 d0 d1 d2 d3 d4 d5 d6 d7 d8 d9 d10 d11
  have s0:=hV.r2.c 0 _ rfl
  have s1:=hV.r2.c 1 _ rfl
  have d0:W2.cell? ⟨n5,0,none⟩=some (.string j.name):=hV.r5.c 0 _ rfl
  have d1:W2.cell? ⟨n5,1,none⟩=some (.int .i64 j.kind):=hV.r5.c 1 _ rfl
  have d2:W2.cell? ⟨n5,2,none⟩=some (.int .i64 j.parent):=hV.r5.c 2 _ rfl
  have d3:W2.cell? ⟨n5,3,none⟩=some (.int .i64 j.o0):=hV.r5.c 3 _ rfl
  have d4:W2.cell? ⟨n5,4,none⟩=some (.int .i64 j.o1):=hV.r5.c 4 _ rfl
  have d5:W2.cell? ⟨n5,5,none⟩=some (.int .i64 j.o2):=hV.r5.c 5 _ rfl
  have d6:W2.cell? ⟨n5,6,none⟩=some (.int .i64 j.lo):=hV.r5.c 6 _ rfl
  have d7:W2.cell? ⟨n5,7,none⟩=some (.int .i64 j.hi):=hV.r5.c 7 _ rfl
  have d8:W2.cell? ⟨n5,8,none⟩=some (.int .i64 j.weight):=hV.r5.c 8 _ rfl
  have d9:W2.cell? ⟨n5,9,none⟩=some (.int .i64 j.speed):=hV.r5.c 9 _ rfl
  have d10:W2.cell? ⟨n5,10,none⟩=some (.int .i64 j.iL):=hV.r5.c 10 _ rfl
  have d11:W2.cell? ⟨n5,11,none⟩=some (.int .i64 j.iO):=hV.r5.c 11 _ rfl
  cases hfd:(findF js j.name != (k:Int)) with
  | true =>
   have FD:Hid (decide (findF js j.name≠(k:Int))=true):=aG (by rw [bne_iff_ne] at hfd; simpa using hfd)
   go_wp2
   go_ret
   refine nI ?_ hV.gW
   rw [←HR.out]
   simp only [NM.out,FD.out]; rfl
  | false =>
   have FD:Hid (decide (findF js j.name≠(k:Int))=false):=aG (by simpa [bne] using hfd)
   have H1:Hid ((!vV j.name||decide (findF js j.name≠(k:Int)))=false):=aG (by rw [NM.out,FD.out]; rfl)
   clear NM FD
   by_cases k1:j.kind<0
   ·skip
    go_wp2
    go_ret
    refine nI ?_ hV.gW
    rw [←HR.out]
    rw [if_neg (by rw [H1.out]; simp),if_pos (Or.inl k1)]
   ·have k1':decide (j.kind<0)=false:=by simp; omega
    by_cases k2:6<j.kind
    ·skip
     go_wp2
     go_ret
     refine nI ?_ hV.gW
     rw [←HR.out]
     rw [if_neg (by rw [H1.out]; simp),if_pos (Or.inr k2)]
    ·by_cases p1:j.parent< -1
     ·skip
      go_wp2
      go_ret
      refine nI ?_ hV.gW
      rw [←HR.out]
      rw [if_neg (by rw [H1.out]; simp),if_neg (by omega),if_pos (Or.inl p1)]
     ·have p1':decide (j.parent< -1)=false:=by simp; omega
      by_cases p2:(k:Int)≤j.parent
      ·skip
       go_wp2
       go_ret
       refine nI ?_ hV.gW
       rw [←HR.out]
       rw [if_neg (by rw [H1.out]; simp),if_neg (by omega),if_pos (Or.inr p2)]
      ·go_wp2_with fail
       refine (MN _ _ _ _).mono ?_
       rintro e W3 ⟨rfl,hb3⟩
       have hU:=hV.keep hb3
       clear hV hb3
       clear s0 s1 d0 d1 d2 d3 d4 d5 d6 d7 d8 d9 d10 d11
       have s0:=hU.r2.c 0 _ rfl
       have s1:=hU.r2.c 1 _ rfl
       have d0:W3.cell? ⟨n5,0,none⟩=some (.string j.name):=hU.r5.c 0 _ rfl
       have d1:W3.cell? ⟨n5,1,none⟩=some (.int .i64 j.kind):=hU.r5.c 1 _ rfl
       have d2:W3.cell? ⟨n5,2,none⟩=some (.int .i64 j.parent):=hU.r5.c 2 _ rfl
       have d3:W3.cell? ⟨n5,3,none⟩=some (.int .i64 j.o0):=hU.r5.c 3 _ rfl
       have d4:W3.cell? ⟨n5,4,none⟩=some (.int .i64 j.o1):=hU.r5.c 4 _ rfl
       have d5:W3.cell? ⟨n5,5,none⟩=some (.int .i64 j.o2):=hU.r5.c 5 _ rfl
       have d6:W3.cell? ⟨n5,6,none⟩=some (.int .i64 j.lo):=hU.r5.c 6 _ rfl
       have d7:W3.cell? ⟨n5,7,none⟩=some (.int .i64 j.hi):=hU.r5.c 7 _ rfl
       have d8:W3.cell? ⟨n5,8,none⟩=some (.int .i64 j.weight):=hU.r5.c 8 _ rfl
       have d9:W3.cell? ⟨n5,9,none⟩=some (.int .i64 j.speed):=hU.r5.c 9 _ rfl
       have d10:W3.cell? ⟨n5,10,none⟩=some (.int .i64 j.iL):=hU.r5.c 10 _ rfl
       have d11:W3.cell? ⟨n5,11,none⟩=some (.int .i64 j.iO):=hU.r5.c 11 _ rfl
       cases hby:wD j.o0 j.o1 j.o2 with
       | true =>
        have BY:=aG hby
        clear hby
        go_wp2
        go_ret
        refine nI ?_ hU.gW
        rw [←HR.out]
        rw [if_neg (by rw [H1.out]; simp),if_neg (by omega),if_neg (by omega),if_pos BY.out]
       | false =>
        have BY:Hid (¬(wD j.o0 j.o1 j.o2=true)):=aG (by rw [hby]; simp)
        clear hby
        obtain ⟨lm,hlm⟩:∃lm,oI j.kind=lm:=⟨_,rfl⟩
        have lb:=EX j.kind
        rw [hlm] at lb
        obtain ⟨lb1,lb2⟩:=lb
        have HLM:=aG hlm
        clear hlm
        rw [HLM.out] at HR
        go_wp2_with fail
        refine (Za _ _).mono ?_
        rintro e v0 ⟨rfl,rfl⟩
        rw [HLM.out]
        by_cases l1:j.hi<j.lo
        ·skip
         go_wp2
         go_ret
         refine nI ?_ hU.gW
         rw [←HR.out]
         rw [if_neg (by rw [H1.out]; simp),if_neg (by omega),if_neg (by omega),if_neg BY.out,if_pos (Or.inl l1)]
        ·have l1':decide (j.hi<j.lo)=false:=by simp; omega
         by_cases l2:j.lo< -lm
         ·skip
          go_wp2
          go_ret
          refine nI ?_ hU.gW
          rw [←HR.out]
          rw [if_neg (by rw [H1.out]; simp),if_neg (by omega),if_neg (by omega),if_neg BY.out,if_pos (Or.inr (Or.inl l2))]
         ·have l2':decide (j.lo< -lm)=false:=by simp; omega
          by_cases l3:lm<j.hi
          ·skip
           go_wp2
           go_ret
           refine nI ?_ hU.gW
           rw [←HR.out]
           rw [if_neg (by rw [H1.out]; simp),if_neg (by omega),if_neg (by omega),if_neg BY.out,if_pos (Or.inr (Or.inr l3))]
          ·have l3':decide (lm<j.hi)=false:=by simp; omega
           cases f0:lv j.weight 1024 with
           | false =>
            have F0:=aG f0
            clear f0
            go_wp2_with fail
            refine (qf _ _ _).mono ?_
            rintro e v0 ⟨rfl,rfl⟩
            rw [F0.out]
            go_wp2
            go_ret
            refine nI ?_ hU.gW
            rw [←HR.out]
            rw [if_neg (by rw [H1.out]; simp),if_neg (by omega),if_neg (by omega),if_neg BY.out,if_neg (by omega),if_pos (by rw [F0.out]; simp)]
           | true =>
            have F0:=aG f0
            clear f0
            cases f1:lv j.speed 1048576 with
            | false =>
             have F1:=aG f1
             clear f1
             go_wp2_with fail
             refine (qf _ _ _).mono ?_
             rintro e v0 ⟨rfl,rfl⟩
             rw [F0.out]
             go_wp2_with fail
             refine (qf _ _ _).mono ?_
             rintro e v1 ⟨rfl,rfl⟩
             rw [F1.out]
             go_wp2
             go_ret
             refine nI ?_ hU.gW
             rw [←HR.out]
             rw [if_neg (by rw [H1.out]; simp),if_neg (by omega),if_neg (by omega),if_neg BY.out,if_neg (by omega),if_pos (by rw [F0.out,F1.out]; simp)]
            | true =>
             have F1:=aG f1
             clear f1
             cases f2:lv j.iL 1048576 with
             | false =>
              have F2:=aG f2
              clear f2
              go_wp2_with fail
              refine (qf _ _ _).mono ?_
              rintro e v0 ⟨rfl,rfl⟩
              rw [F0.out]
              go_wp2_with fail
              refine (qf _ _ _).mono ?_
              rintro e v1 ⟨rfl,rfl⟩
              rw [F1.out]
              go_wp2_with fail
              refine (qf _ _ _).mono ?_
              rintro e v2 ⟨rfl,rfl⟩
              rw [F2.out]
              go_wp2
              go_ret
              refine nI ?_ hU.gW
              rw [←HR.out]
              rw [if_neg (by rw [H1.out]; simp),if_neg (by omega),if_neg (by omega),if_neg BY.out,if_neg (by omega),if_pos (by rw [F0.out,F1.out,F2.out]; simp)]
             | true =>
              have F2:=aG f2
              clear f2
              cases f3:lv j.iO 1099511627776 with
              | false =>
               have F3:=aG f3
               clear f3
               go_wp2_with fail
               refine (qf _ _ _).mono ?_
               rintro e v0 ⟨rfl,rfl⟩
               rw [F0.out]
               go_wp2_with fail
               refine (qf _ _ _).mono ?_
               rintro e v1 ⟨rfl,rfl⟩
               rw [F1.out]
               go_wp2_with fail
               refine (qf _ _ _).mono ?_
               rintro e v2 ⟨rfl,rfl⟩
               rw [F2.out]
               go_wp2_with fail
               refine (qf _ _ _).mono ?_
               rintro e v3 ⟨rfl,rfl⟩
               rw [F3.out]
               go_wp2
               go_ret
               refine nI ?_ hU.gW
               rw [←HR.out]
               rw [if_neg (by rw [H1.out]; simp),if_neg (by omega),if_neg (by omega),if_neg BY.out,if_neg (by omega),if_pos (by rw [F0.out,F1.out,F2.out,F3.out]; simp)]
              | true =>
               have F3:=aG f3
               clear f3
               go_wp2_with fail
               refine (qf _ _ _).mono ?_
               rintro e v0 ⟨rfl,rfl⟩
               rw [F0.out]
               go_wp2_with fail
               refine (qf _ _ _).mono ?_
               rintro e v1 ⟨rfl,rfl⟩
               rw [F1.out]
               go_wp2_with fail
               refine (qf _ _ _).mono ?_
               rintro e v2 ⟨rfl,rfl⟩
               rw [F2.out]
               go_wp2_with fail
               refine (qf _ _ _).mono ?_
               rintro e v3 ⟨rfl,rfl⟩
               rw [F3.out]
               go_wp2
               go_ret
               refine nI ?_ hU.gW
               rw [←HR.out]
               rw [if_neg (by rw [H1.out]; simp),if_neg (by omega),if_neg (by omega),if_neg BY.out,if_neg (by omega),if_neg (by rw [F0.out,F1.out,F2.out,F3.out]; simp)]
end Go.Proofs.En
end
section
namespace Go.Proofs.En
open Go.RowKit
def kK (n:Nat) (m:MV):Bool:=decide (0≤m.link∧m.link<n)&&lv m.eT 65536&&!wD m.p0 m.p1 m.p2
def Sl (w:World) (oa:Option Addr) (n:Nat) (rows:List (List Value)):Prop:=rows≠[]→∃b off,oa=some ⟨b,off,none⟩∧uJ w b off n rows
theorem Sl.keep {w w':World} {oa:Option Addr} {n:Nat} {rows:List (List Value)} (h:Sl w oa n rows) (hb:Below w.heap.size w w'):Sl w' oa n rows:=by
 intro h0
 obtain ⟨b,off,e,h1⟩:=h h0
 exact ⟨b,off,e,h1.keep hb⟩
theorem aeo (oa:Option Addr) (n cap:Nat) (mv:Value) (m:MV) (w:World) :
  Calls aa 109 #[.agg #[.slice oa n cap,mv],.agg #[.int .i64 m.link,.int .i64 m.eT,.int .i64 m.p0,.int .i64 m.p1,.int .i64 m.p2]] w (oz (kK n m) w):=by
 generalize hr:kK n m=r
 unfold kK at hr
 have HR:=aG hr
 clear hr
 by_cases c1:0≤m.link
 ·by_cases c2:m.link<n
  ·cases f0:lv m.eT 65536 with
   | false =>
    have F0:=aG f0
    clear f0
    go_enter Tryz.func109,Tryz.ntmps109
    go_wp2_with fail
    refine (qf _ _ _).mono ?_
    rintro e v0 ⟨rfl,rfl⟩
    rw [F0.out]
    go_wp2
    go_ret
    exact mg (by rw [←HR.out,F0.out]; simp) (((aI _ _).alloc (au _) _).alloc (by simp) _)
   | true =>
    have F0:=aG f0
    clear f0
    go_enter Tryz.func109,Tryz.ntmps109
    go_wp2_with fail
    refine (qf _ _ _).mono ?_
    rintro e v0 ⟨rfl,rfl⟩
    rw [F0.out]
    go_wp2_with fail
    refine (MN _ _ _ _).mono ?_
    rintro e v1 ⟨rfl,hb1⟩
    go_wp2
    go_ret
    refine mg ?_ (jD (((aI _ _).alloc (au _) _).alloc (by simp) _) hb1)
    rw [←HR.out,F0.out]
    simp [c1,c2]
  ·have c2':decide (m.link<(n:Int))=false:=by simp; omega
   go_enter Tryz.func109,Tryz.ntmps109
   go_wp2
   go_ret
   exact mg (by rw [←HR.out]; simp; omega) (((aI _ _).alloc (au _) _).alloc (by simp) _)
 ·have c1':decide (0≤m.link)=false:=by simp; omega
  go_enter Tryz.func109,Tryz.ntmps109
  go_wp2
  go_ret
  exact mg (by rw [←HR.out]; simp; omega) (((aI _ _).alloc (au _) _).alloc (by simp) _)
theorem Xm (oa:Option Addr) (n cap nb:Nat) (mv:Value) (m:MV) (w:World) (hR:Row w nb [.slice oa n cap,mv]) :
  Calls aa 108 #[.agg #[.int .i64 m.link,.int .i64 m.eT,.int .i64 m.p0,.int .i64 m.p1,.int .i64 m.p2],.pointer (some ⟨nb,0,none⟩)] w (oz (!kK n m) w):=by
 have c0:=hR.c 0 _ rfl
 have c1:=hR.c 1 _ rfl
 have lt:=hR.lt
 go_enter Tryz.func108,Tryz.ntmps108
 go_wp2_with fail
 refine (aeo oa n cap mv m _).mono ?_
 rintro e v1 ⟨rfl,hb1⟩
 go_wp2
 go_ret
 exact mg rfl (jD ((aI _ _).alloc (au _) _) hb1)
def tY (n:Nat) (ms:List MV):Int:=if ms.findIdx (fun m=>!kK n m)<ms.length then ms.findIdx (fun m=>!kK n m) else -1
variable {n k:Nat} {ms:List MV} {m:MV}
theorem Ws (hm:ms[k]?=some m) (he:kK n m=false) (hall:∀i (m:MV),i<k→ms[i]?=some m→kK n m=true):tY n ms=k:=by
 have hk:k<ms.length:=by
  rcases cu k ms.length with h | h
  ·exact h
  ·rw [bQ h] at hm; cases hm
 have:ms.findIdx (fun m=>!kK n m)=k:=by
  rw [List.findIdx_eq hk]
  rw [ah hk] at hm
  injection hm with hm
  exact ⟨by rw [hm,he]; rfl,fun i hi=>by rw [hall i _ hi (ah (by omega))]; rfl⟩
 unfold tY
 rw [this,if_pos hk]
theorem Wt (hall:∀(i:Nat) (m:MV),ms[i]?=some m→kK n m=true):tY n ms=-1:=by
 have:ms.findIdx (fun m=>!kK n m)=ms.length:=by
  rw [List.findIdx_eq_length]
  intro x hx
  obtain ⟨i,hi,rfl⟩:=List.mem_iff_getElem.1 hx
  rw [hall i _ (ah hi)]; rfl
 unfold tY
 rw [this,if_neg (by omega)]
theorem De (h:ms[k]?=some m):(ms.map MV.vals)[k]?=some m.vals:=by simp [h]
theorem Yr (oa om:Option Addr) (n cap nb mcap:Nat) (mv:Value) (ms:List MV) (w:World) (hl:ms.length≤9223372036854775807) (hR:Row w nb [.slice oa n cap,mv]) (hM:Sl w om 5 (ms.map MV.vals)) :
  Calls aa 128 #[.slice om ms.length mcap,.func (.func 108) #[] #[.pointer (some ⟨nb,0,none⟩)]] w (DW (tY n ms) w):=by
 generalize hr:tY n ms=r
 have HR:=aG hr
 clear hr
 go_enter Tryz.func128,Tryz.ntmps128
 go_wp2_with fail
 go_loopw [8] (fun i W=>∃k:Nat,k≤ms.length∧i=.int .i64 k∧Below w.heap.size w W∧∀i (m:MV),i<k→ms[i]?=some m→kK n m=true) (fun i _=>ms.length - (intOf i).toNat)
 case atStart=>exact ⟨0,by omega,rfl,aI _ _,fun i m h=>absurd h (by omega)⟩
 case round =>
  obtain ⟨k,hk,rfl,hB,hall⟩:=hrel
  have HA:=aG hall
  clear hall
  have hRr:=hR.keep hB
  have hMr:=hM.keep hB
  have HB:=aG hB
  clear hB
  by_cases hlt:k<ms.length
  ·obtain ⟨m,hm⟩:∃m,ms[k]?=some m:=⟨_,ah hlt⟩
   obtain ⟨b,off,rfl,hMq⟩:=hMr (by intro h; rw [List.map_eq_nil_iff] at h; rw [h] at hlt; simp at hlt)
   have c0:wr.cell? ⟨b,off+k*5,none⟩=some (.int .i64 m.link):=hMq.c k _ (De hm) 0 _ rfl
   have c1:wr.cell? ⟨b,off+k*5+1,none⟩=some (.int .i64 m.eT):=hMq.c k _ (De hm) 1 _ rfl
   have c2:wr.cell? ⟨b,off+k*5+2,none⟩=some (.int .i64 m.p0):=hMq.c k _ (De hm) 2 _ rfl
   have c3:wr.cell? ⟨b,off+k*5+3,none⟩=some (.int .i64 m.p1):=hMq.c k _ (De hm) 3 _ rfl
   have c4:wr.cell? ⟨b,off+k*5+4,none⟩=some (.int .i64 m.p2):=hMq.c k _ (De hm) 4 _ rfl
   have HM:=aG hm
   clear hm
   go_wp2_with fail
   refine (Xm oa n cap nb mv m _ hRr).mono ?_
   rintro e W1 ⟨rfl,hb1⟩
   have hB1:Below w.heap.size w W1:=jD HB.out hb1
   have HB1:=aG hB1
   clear hB1 hb1
   cases hs:kK n m with
   | true =>
    have HS:=aG hs
    clear hs
    go_wp2
    go_roundw
    case rel =>
     refine ⟨k+1,by omega,by simp,HB1.out,fun i m' hi hm'=>?_⟩
     rcases cu i k with h | h
     ·exact HA.out i m' h hm'
     ·have:i=k:=by omega
      subst this
      have:=HM.out.symm.trans hm'
      injection this with this
      rw [←this]; exact HS.out
    case measure=>simp [intOf]; omega
   | false =>
    have HS:=aG hs
    clear hs
    go_wp2
    go_ret
    refine nI ?_ HB1.out
    rw [←HR.out]
    exact Ws HM.out HS.out HA.out
  ·go_wp2
   go_ret
   refine nI ?_ HB.out
   rw [←HR.out]
   refine Wt fun i m hm=>HA.out i m ?_ hm
   rcases cu i ms.length with h | h
   ·omega
   ·rw [bQ h] at hm; cases hm
theorem Xp (oa om:Option Addr) (n cap nb mcap:Nat) (mv:Value) (ms:List MV) (w:World) (hl:ms.length≤9223372036854775807) (hR:Row w nb [.slice oa n cap,mv]) (hM:Sl w om 5 (ms.map MV.vals)) :
  Calls aa 107 #[.slice om ms.length mcap,.func (.func 108) #[] #[.pointer (some ⟨nb,0,none⟩)]] w (oz (decide (0≤tY n ms)) w):=by
 go_enter Tryz.func107,Tryz.ntmps107
 go_wp2_with fail
 refine (Yr oa om n cap nb mcap mv ms _ hl hR hM).mono ?_
 rintro e v1 ⟨rfl,hb1⟩
 go_wp2
 go_ret
 exact mg rfl hb1
theorem MM (n:Nat) (ms:List MV):0≤tY n ms↔∃(i:Nat) (m:MV),ms[i]?=some m∧kK n m=false:=by
 unfold tY
 split
 ·rename_i h
  constructor
  ·intro _
   have:=List.findIdx_getElem (w:=h)
   exact ⟨_,_,ah h,by simpa using this⟩
  ·intro _; omega
 ·rename_i h
  constructor
  ·intro h0; omega
  ·rintro ⟨i,m,hm,hb⟩
   exfalso
   apply h
   rw [List.findIdx_lt_length]
   exact ⟨m,aN hm,by rw [hb]; rfl⟩
def yu (js:List JV) (ms:List MV):Prop:=(0<js.length∧js.length≤10)∧(∀(k:Nat) (j:JV),js[k]?=some j→qY js j k=0)∧ms.length≤32∧∀(k:Nat) (m:MV),ms[k]?=some m→kK js.length m=true
def Ms (p:Prop) (w:World) (e:Ending) (w':World):Prop:=∃c:Int,e=.returned (.int .i64 c)∧(c=0↔p)∧Below w.heap.size w w'
variable {p:Prop} {w w':World}
theorem Au {c:Int} (h:c=0↔p) (hb:Below w.heap.size w w'):Ms p w (.returned (.int .i64 c)) w':=⟨c,rfl,h,hb⟩
structure KW (w:World) (n1:Nat) (oa om:Option Addr) (rv:List Value) (js:List JV) (ms:List MV) (W:World):Prop where
 gW:Below w.heap.size w W
 r1:Row W n1 rv
 rJ:Sl W oa 12 (js.map JV.vals)
 rM:Sl W om 5 (ms.map MV.vals)
theorem KW.keep {w W W':World} {n1:Nat} {oa om:Option Addr} {rv:List Value} {js:List JV} {ms:List MV} (h:KW w n1 oa om rv js ms W) (hb:Below W.heap.size W W'):KW w n1 oa om rv js ms W' :=
 ⟨jD h.gW hb,h.r1.keep hb,h.rJ.keep hb,h.rM.keep hb⟩
theorem M8 (oa om:Option Addr) (cap mcap:Nat) (js:List JV) (ms:List MV) (w:World) (hj:js.length≤100) (hl:ms.length≤9223372036854775807) (hJ:Sl w oa 12 (js.map JV.vals)) (hM:Sl w om 5 (ms.map MV.vals)) :
  Calls aa 86 #[.agg #[.slice oa js.length cap,.slice om ms.length mcap]] w (Ms (yu js ms) w):=by
 generalize hr:yu js ms=r
 unfold yu at hr
 have HR:=aG hr
 clear hr
 by_cases c0:js.length=0
 ·have c0':((js.length:Int)==0)=true:=by simp [c0]
  go_enter Tryz.func86,Tryz.ntmps86
  go_wp2
  go_ret
  exact Au (by rw [←HR.out]; exact ⟨fun h=>absurd h (by omega),fun h=>absurd h.1 (by omega)⟩) ((aI _ _).alloc (au _) _)
 ·have c0':((js.length:Int)==0)=false:=beq_eq_false_iff_ne.2 (by omega)
  by_cases c1:10<js.length
  ·have c1':decide (10<(js.length:Int))=true:=by simp; omega
   go_enter Tryz.func86,Tryz.ntmps86
   go_wp2
   go_ret
   exact Au (by rw [←HR.out]; exact ⟨fun h=>absurd h (by omega),fun h=>absurd h.1 (by omega)⟩) ((aI _ _).alloc (au _) _)
  ·have c1':decide (10<(js.length:Int))=false:=by simp; omega
   go_enter Tryz.func86,Tryz.ntmps86
   go_wp2_with fail
   have hW0:KW w w.heap.size oa om [.slice oa js.length cap,.slice om ms.length mcap] js ms (w.alloc (.cells #[.slice oa js.length cap,.slice om ms.length mcap] 35)):=⟨(aI _ _).alloc (au _) _,Row.new w [.slice oa js.length cap,.slice om ms.length mcap] 35,hJ.keep ((aI _ _).alloc (au _) _),hM.keep ((aI _ _).alloc (au _) _)⟩
   clear hJ hM
   generalize (w.alloc (.cells #[.slice oa js.length cap,.slice om ms.length mcap] 35))=W0 at hW0 ⊢
   generalize w.heap.size=n1 at hW0 ⊢
   go_loopw [18] (fun i W=>∃k:Nat,k≤js.length∧i=.int .i64 k∧KW w n1 oa om [.slice oa js.length cap,.slice om ms.length mcap] js ms W∧∀i (j:JV),i<k→js[i]?=some j→qY js j i=0) (fun i _=>js.length - (intOf i).toNat)
   case atStart=>exact ⟨0,by omega,rfl,hW0,fun i m h=>absurd h (by omega)⟩
   case round =>
    obtain ⟨k,hk,rfl,hW,hall⟩:=hrel
    have HA:=aG hall
    clear hall
    clear hW0
    have s0:wr.cell? ⟨n1,0,none⟩=some (.slice oa js.length cap):=hW.r1.c 0 _ rfl
    have s1:wr.cell? ⟨n1,1,none⟩=some (.slice om ms.length mcap):=hW.r1.c 1 _ rfl
    have lt1:=hW.r1.lt
    by_cases hlt:k<js.length
    ·obtain ⟨j,hj⟩:∃j,js[k]?=some j:=⟨_,ah hlt⟩
     obtain ⟨b,off,rfl,hMq⟩:=hW.rJ (by intro h; rw [List.map_eq_nil_iff] at h; rw [h] at hlt; simp at hlt)
     have HM:=aG hj
     clear hj
     go_wp2_with fail
     refine (Xk b off cap js j k _ _ (by omega) hlt HM.out hMq).mono ?_
     rintro e W1 ⟨rfl,hb1⟩
     have hV:=hW.keep hb1
     clear hb1 hMq s0 s1 lt1
     have s0:W1.cell? ⟨n1,0,none⟩=some (.slice (some ⟨b,off,none⟩) js.length cap):=hV.r1.c 0 _ rfl
     have s1:W1.cell? ⟨n1,1,none⟩=some (.slice om ms.length mcap):=hV.r1.c 1 _ rfl
     cases hs:(qY js j k != 0) with
     | true =>
      have HS:Hid (qY js j k≠0):=aG (by rw [bne_iff_ne] at hs; exact hs)
      go_wp2
      go_ret
      refine Au ?_ hV.gW
      rw [←HR.out]
      exact ⟨fun h=>absurd h HS.out,fun h=>absurd (h.2.1 k j HM.out) HS.out⟩
     | false =>
      have HS:Hid (qY js j k=0):=aG (by simpa using hs)
      go_wp2
      go_roundw
      case rel =>
       refine ⟨k+1,by omega,by simp,hV,fun i m' hi hm'=>?_⟩
       rcases cu i k with h | h
       ·exact HA.out i m' h hm'
       ·have:i=k:=by omega
        subst this
        have:=HM.out.symm.trans hm'
        injection this with this
        rw [←this]; exact HS.out
      case measure=>simp [intOf]; omega
    ·have hk':k=js.length:=by omega
     subst hk'
     have hsum:Hid (∀(k:Nat) (j:JV),js[k]?=some j→qY js j k=0):=aG (by
      intro i m hm
      refine HA.out i m ?_ hm
      rcases cu i js.length with h | h
      ·exact h
      ·rw [bQ h] at hm; cases hm)
     by_cases c2:32<ms.length
     ·have c2':decide (32<(ms.length:Int))=true:=by simp; omega
      go_wp2
      go_ret
      refine Au ?_ hW.gW
      rw [←HR.out]
      exact ⟨fun h=>absurd h (by omega),fun h=>absurd h.2.2.1 (by omega)⟩
     ·have c2':decide (32<(ms.length:Int))=false:=by simp; omega
      go_wp2_with fail
      refine (Xp oa om js.length cap n1 mcap _ ms _ hl hW.r1 hW.rM).mono ?_
      rintro e W1 ⟨rfl,hb1⟩
      have hV:=hW.keep hb1
      clear hb1 s0 s1 lt1
      cases hs:decide (0≤tY js.length ms) with
      | true =>
       have HS:Hid (0≤tY js.length ms):=aG (of_decide_eq_true hs)
       go_wp2
       go_ret
       refine Au ?_ hV.gW
       rw [←HR.out]
       obtain ⟨i,m,hm,hb⟩:=(MM _ _).1 HS.out
       exact ⟨fun h=>absurd h (by omega),fun h=>by have:=h.2.2.2 i m hm; rw [hb] at this; cases this⟩
      | false =>
       have HS:Hid (tY js.length ms<0):=aG (Int.not_le.1 (of_decide_eq_false hs))
       go_wp2
       go_ret
       refine Au ?_ hV.gW
       rw [←HR.out]
       refine ⟨fun _=>⟨by omega,hsum.out,by omega,fun i m hm=>?_⟩,fun _=>rfl⟩
       cases hb:kK js.length m with
       | true=>rfl
       | false=>exact absurd ((MM _ _).2 ⟨i,m,hm,hb⟩) (Int.not_le.2 HS.out)
end Go.Proofs.En
end
section
namespace Go.Proofs.En
open Go.RowKit
theorem XF (s:ByteArray):rq s s=true:=by simp [rq]
structure CV (w:World) (n5 b off:Nat) (j:JV) (js:List JV) (W:World):Prop where
 gW:Below w.heap.size w W
 r5:Row W n5 j.vals
 rJ:uJ W b off 12 (js.map JV.vals)
theorem vG (W:World) (n:Nat):Below W.heap.size W (W.drewN n):=⟨rfl,rfl,rfl,au _,fun _ _=>rfl⟩
end Go.Proofs.En
end
section
namespace Go.Proofs.En
open Go.RowKit
end Go.Proofs.En
end
section
namespace Go.Proofs.En
open Go.RowKit
def Ho (p:Prop) (w:World) (e:Ending) (w':World):Prop:=∃b:Bool,e=.returned (.bool b)∧(b=true↔p)∧Below w.heap.size w w'
variable {p:Prop} {w w':World} {b:Bool}
theorem CQ (h:b=true↔p) (hb:Below w.heap.size w w'):Ho p w (.returned (.bool b)) w':=⟨b,rfl,h,hb⟩
theorem aeM (j:JV) (p:Int) (w:World) :
  Calls aa 88 #[.agg #[.string j.name,.int .i64 j.kind,.int .i64 j.parent,.int .i64 j.o0,.int .i64 j.o1,.int .i64 j.o2,.int .i64 j.lo,.int .i64 j.hi,.int .i64 j.weight,.int .i64 j.speed,.int .i64 j.iL,.int .i64 j.iO],.int .i64 p] w (oz (decide (j.lo≤p∧p≤j.hi)) w):=by
 by_cases h1:j.lo≤p
 ·go_enter Tryz.func88,Tryz.ntmps88
  go_wp2
  go_ret
  exact mg (by simp [h1]) ((aI _ _).alloc (au _) _)
 ·have h1':decide (j.lo≤p)=false:=decide_eq_false h1
  go_enter Tryz.func88,Tryz.ntmps88
  go_wp2
  go_ret
  exact mg (by simp) ((aI _ _).alloc (au _) _)
def fF (ps:List Int):List (List Value):=ps.map fun p=>[.int .i64 p]
variable {ps:List Int} {k:Nat}
theorem yz {p:Int} (h:ps[k]?=some p):(fF ps)[k]?=some [.int .i64 p]:=by simp [fF,h]
theorem kX (h:k<ps.length):fF ps≠[]:=by
 intro h0; unfold fF at h0; rw [List.map_eq_nil_iff] at h0; rw [h0] at h; simp at h
variable {js:List JV}
theorem AX (h:k<js.length):js.map JV.vals≠[]:=by
 intro h0; rw [List.map_eq_nil_iff] at h0; rw [h0] at h; simp at h
def mi (js:List JV) (ps:List Int):Prop:=js.length=ps.length∧∀(k:Nat) (j:JV) (p:Int),js[k]?=some j→ps[k]?=some p→j.lo≤p∧p≤j.hi
set_option maxRecDepth 100000 in
theorem XM (oa op:Option Addr) (cap pcap:Nat) (js:List JV) (ps:List Int) (w:World) (hj:js.length≤100) (_hp:ps.length≤100) (hJ:Sl w oa 12 (js.map JV.vals)) (hP:Sl w op 1 (fF ps)) :
  Calls aa 87 #[.slice oa js.length cap,.slice op ps.length pcap,.func (.func 88) #[] #[]] w (Ho (mi js ps) w):=by
 generalize hr:mi js ps=r
 unfold mi at hr
 have HR:=aG hr
 clear hr
 by_cases c0:js.length=ps.length
 ·have c0':((js.length:Int) != (ps.length:Int))=false:=by simp; omega
  have C0:=aG c0
  have c0a:js.length≤ps.length:=by omega
  have c0b:ps.length≤js.length:=by omega
  clear c0
  go_enter Tryz.func87,Tryz.ntmps87
  go_wp2_with fail
  go_loopw [16] (fun i W=>∃k:Nat,k≤js.length∧i=.int .i64 k∧Below w.heap.size w W∧∀i (j:JV) (p:Int),i<k→js[i]?=some j→ps[i]?=some p→j.lo≤p∧p≤j.hi) (fun i _=>js.length - (intOf i).toNat)
  case atStart=>exact ⟨0,by omega,rfl,aI _ _,fun i j p h=>absurd h (by omega)⟩
  case round =>
   obtain ⟨k,hk,rfl,hB,hall⟩:=hrel
   have HA:=aG hall
   clear hall
   by_cases hlt:k<js.length
   ·obtain ⟨j,hj'⟩:∃j,js[k]?=some j:=⟨_,ah hlt⟩
    obtain ⟨p,hp'⟩:∃p,ps[k]?=some p:=⟨_,ah (by omega)⟩
    obtain ⟨b,off,rfl,hMq⟩:=hJ (AX hlt)
    obtain ⟨bp,offp,rfl,hPq⟩:=hP (kX (k:=k) (by omega))
    have hMr:=hMq.keep hB
    have hPr:=hPq.keep hB
    have x0:wr.cell? ⟨b,off+k*12,none⟩=some (.string j.name):=hMr.c k _ (iX hj') 0 _ rfl
    have x1:wr.cell? ⟨b,off+k*12+1,none⟩=some (.int .i64 j.kind):=hMr.c k _ (iX hj') 1 _ rfl
    have x2:wr.cell? ⟨b,off+k*12+2,none⟩=some (.int .i64 j.parent):=hMr.c k _ (iX hj') 2 _ rfl
    have x3:wr.cell? ⟨b,off+k*12+3,none⟩=some (.int .i64 j.o0):=hMr.c k _ (iX hj') 3 _ rfl
    have x4:wr.cell? ⟨b,off+k*12+4,none⟩=some (.int .i64 j.o1):=hMr.c k _ (iX hj') 4 _ rfl
    have x5:wr.cell? ⟨b,off+k*12+5,none⟩=some (.int .i64 j.o2):=hMr.c k _ (iX hj') 5 _ rfl
    have x6:wr.cell? ⟨b,off+k*12+6,none⟩=some (.int .i64 j.lo):=hMr.c k _ (iX hj') 6 _ rfl
    have x7:wr.cell? ⟨b,off+k*12+7,none⟩=some (.int .i64 j.hi):=hMr.c k _ (iX hj') 7 _ rfl
    have x8:wr.cell? ⟨b,off+k*12+8,none⟩=some (.int .i64 j.weight):=hMr.c k _ (iX hj') 8 _ rfl
    have x9:wr.cell? ⟨b,off+k*12+9,none⟩=some (.int .i64 j.speed):=hMr.c k _ (iX hj') 9 _ rfl
    have x10:wr.cell? ⟨b,off+k*12+10,none⟩=some (.int .i64 j.iL):=hMr.c k _ (iX hj') 10 _ rfl
    have x11:wr.cell? ⟨b,off+k*12+11,none⟩=some (.int .i64 j.iO):=hMr.c k _ (iX hj') 11 _ rfl
    have HJ:=aG hj'
    have HP:=aG hp'
    go_wp2_with fail
    have hba:Below wr.heap.size wr (wr.alloc (.cells #[.string j.name,.int .i64 j.kind,.int .i64 j.parent,.int .i64 j.o0,.int .i64 j.o1,.int .i64 j.o2,.int .i64 j.lo,.int .i64 j.hi,.int .i64 j.weight,.int .i64 j.speed,.int .i64 j.iL,.int .i64 j.iO] 80)):=(aI _ _).alloc (au _) _
    have hPv:=hPr.keep hba
    have hB2:=jD hB hba
    have hRv:=Row.new wr [.string j.name,.int .i64 j.kind,.int .i64 j.parent,.int .i64 j.o0,.int .i64 j.o1,.int .i64 j.o2,.int .i64 j.lo,.int .i64 j.hi,.int .i64 j.weight,.int .i64 j.speed,.int .i64 j.iL,.int .i64 j.iO] 80
    clear hba x0 x1 x2 x3 x4 x5 x6 x7 x8 x9 x10 x11 hMr hPr hB hj' hPq hMq hJ hP
    generalize (wr.alloc (.cells #[.string j.name,.int .i64 j.kind,.int .i64 j.parent,.int .i64 j.o0,.int .i64 j.o1,.int .i64 j.o2,.int .i64 j.lo,.int .i64 j.hi,.int .i64 j.weight,.int .i64 j.speed,.int .i64 j.iL,.int .i64 j.iO] 80))=V at hPv hB2 hRv ⊢
    generalize wr.heap.size=n8 at hRv ⊢
    have HB:=aG hB2
    clear hB2
    have y0:V.cell? ⟨bp,offp+k,none⟩=some (.int .i64 p):=by have:=hPv.c k _ (yz hp') 0 _ rfl; simpa using this
    have x0:V.cell? ⟨n8,0,none⟩=some (.string j.name):=hRv.c 0 _ rfl
    have x1:V.cell? ⟨n8,1,none⟩=some (.int .i64 j.kind):=hRv.c 1 _ rfl
    have x2:V.cell? ⟨n8,2,none⟩=some (.int .i64 j.parent):=hRv.c 2 _ rfl
    have x3:V.cell? ⟨n8,3,none⟩=some (.int .i64 j.o0):=hRv.c 3 _ rfl
    have x4:V.cell? ⟨n8,4,none⟩=some (.int .i64 j.o1):=hRv.c 4 _ rfl
    have x5:V.cell? ⟨n8,5,none⟩=some (.int .i64 j.o2):=hRv.c 5 _ rfl
    have x6:V.cell? ⟨n8,6,none⟩=some (.int .i64 j.lo):=hRv.c 6 _ rfl
    have x7:V.cell? ⟨n8,7,none⟩=some (.int .i64 j.hi):=hRv.c 7 _ rfl
    have x8:V.cell? ⟨n8,8,none⟩=some (.int .i64 j.weight):=hRv.c 8 _ rfl
    have x9:V.cell? ⟨n8,9,none⟩=some (.int .i64 j.speed):=hRv.c 9 _ rfl
    have x10:V.cell? ⟨n8,10,none⟩=some (.int .i64 j.iL):=hRv.c 10 _ rfl
    have x11:V.cell? ⟨n8,11,none⟩=some (.int .i64 j.iO):=hRv.c 11 _ rfl
    have hlt2:k<ps.length:=by omega
    go_still_tail 6,(by kernel_rfl)
    change wpList _ _ _ _ _ V.drew
    have HB2:Hid (Below w.heap.size w V.drew):=aG (jD HB.out (aI _ _).drew)
    generalize V.drew=V2 at HB2 ⊢
    clear x0 x1 x2 x3 x4 x5 x6 x7 x8 x9 x10 x11 y0 HB hPv hRv hp'
    go_wp2_with fail
    refine (aeM j p _).mono ?_
    rintro e W1 ⟨rfl,hb1⟩
    have HB3:Hid (Below w.heap.size w W1):=aG (jD HB2.out hb1)
    clear HB2 hb1
    cases hs:decide (j.lo≤p∧p≤j.hi) with
    | true =>
     have HS:Hid (j.lo≤p∧p≤j.hi):=aG (of_decide_eq_true hs)
     clear hs
     go_wp2
     go_roundw
     case rel =>
      refine ⟨k+1,by omega,by simp,HB3.out,fun i j' p' hi hj' hp'=>?_⟩
      rcases cu i k with h | h
      ·exact HA.out i j' p' h hj' hp'
      ·have:i=k:=by omega
       subst this
       have e1:=HJ.out.symm.trans hj'
       injection e1 with e1
       have e2:=HP.out.symm.trans hp'
       injection e2 with e2
       rw [←e1,←e2]; exact HS.out
     case measure=>simp [intOf]; omega
    | false =>
     have HS:Hid (¬(j.lo≤p∧p≤j.hi)):=aG (of_decide_eq_false hs)
     clear hs
     go_wp2
     go_ret
     refine CQ ?_ HB3.out
     rw [←HR.out]
     exact ⟨fun h=>absurd h (by simp),fun h=>absurd (h.2 k j p HJ.out HP.out) HS.out⟩
   ·go_wp2
    go_ret
    refine CQ ?_ hB
    rw [←HR.out]
    refine ⟨fun _=>⟨C0.out,fun i j p h1 h2=>HA.out i j p ?_ h1 h2⟩,fun _=>rfl⟩
    rcases cu i js.length with h | h
    ·omega
    ·rw [bQ h] at h1; cases h1
 ·have c0':((js.length:Int) != (ps.length:Int))=true:=by simp; omega
  go_enter Tryz.func87,Tryz.ntmps87
  go_wp2
  go_ret
  exact CQ (by rw [←HR.out]; exact ⟨fun h=>absurd h (by simp),fun h=>absurd h.1 c0⟩) (aI _ _)
set_option maxRecDepth 100000 in
theorem Pk (oa om op:Option Addr) (cap mcap pcap:Nat) (js:List JV) (ms:List MV) (ps:List Int) (w:World) (hj:js.length≤100) (hl:ms.length≤9223372036854775807) (hp:ps.length≤100) (hJ:Sl w oa 12 (js.map JV.vals)) (hM:Sl w om 5 (ms.map MV.vals)) (hP:Sl w op 1 (fF ps)) :
  Calls aa 50 #[.agg #[.slice oa js.length cap,.slice om ms.length mcap],.slice op ps.length pcap] w (Ho (yu js ms∧mi js ps) w):=by
 go_enter Tryz.func50,Tryz.ntmps50
 go_wp2_with fail
 have hW0:KW w w.heap.size oa om [.slice oa js.length cap,.slice om ms.length mcap] js ms (w.alloc (.cells #[.slice oa js.length cap,.slice om ms.length mcap] 35)):=⟨(aI _ _).alloc (au _) _,Row.new w [.slice oa js.length cap,.slice om ms.length mcap] 35,hJ.keep ((aI _ _).alloc (au _) _),hM.keep ((aI _ _).alloc (au _) _)⟩
 replace hP:=hP.keep (w':=(w.alloc (.cells #[.slice oa js.length cap,.slice om ms.length mcap] 35))) ((aI _ _).alloc (au _) _)
 clear hJ hM
 generalize (w.alloc (.cells #[.slice oa js.length cap,.slice om ms.length mcap] 35))=W0 at hW0 hP ⊢
 generalize w.heap.size=n1 at hW0 ⊢
 refine (M8 oa om cap mcap js ms _ hj hl hW0.rJ hW0.rM).mono ?_
 rintro e W1 ⟨c,rfl,hc,hb1⟩
 have hW:=hW0.keep hb1
 replace hP:=hP.keep hb1
 have HC:=aG hc
 clear hW0 hb1 hc
 have s0:W1.cell? ⟨n1,0,none⟩=some (.slice oa js.length cap):=hW.r1.c 0 _ rfl
 have s1:W1.cell? ⟨n1,1,none⟩=some (.slice om ms.length mcap):=hW.r1.c 1 _ rfl
 have lt1:=hW.r1.lt
 by_cases hc:c=0
 ·subst hc
  go_wp2_with fail
  refine (XM oa op cap pcap js ps _ hj hp hW.rJ hP).mono ?_
  rintro e W2 ⟨b,rfl,hb,hb2⟩
  have HC2:=aG hb
  clear hb
  go_wp2
  go_ret
  refine CQ ?_ (jD hW.gW hb2)
  rw [HC2.out]
  exact ⟨fun h=>⟨HC.out.1 trivial,h⟩,fun h=>h.2⟩
 ·have hc':(c==0)=false:=beq_eq_false_iff_ne.2 hc
  go_wp2
  go_ret
  refine CQ ?_ hW.gW
  exact ⟨fun h=>absurd h (by simp),fun h=>absurd (HC.out.2 h.1) hc⟩
end Go.Proofs.En
end
section
namespace Go.Proofs.En
open Go.RowKit
end Go.Proofs.En
end
end
