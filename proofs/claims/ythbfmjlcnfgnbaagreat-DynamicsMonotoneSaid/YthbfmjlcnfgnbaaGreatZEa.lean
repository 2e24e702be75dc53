/-
  Part of the proof: see the last text.
-/
import Derived.WalkKit
import Derived.IntWalk
import Derived.Lib.Hide
import Derived.BigQuiet
import Derived.Outline
import Derived.Test.YthbfmjlcnfgnbaaGreatShelf
import Derived.Laws.Externs
import Derived.KernelRfl
import Derived.StillTailTactics
import Derived.Deep.QuietTactic
import Derived.Deep.RegionHeld3
import Derived.Deep.DeepCutAuto
import Derived.OwnWalk
import Derived.BigRegion
import Derived.Deep.CutBlock
import Derived.Deep.AppendLies
import Derived.Deep.RegionLaw
set_option linter.unusedVariables false
set_option maxHeartbeats 8000000
open Array renaming getElem?_eq_none→afc,getElem?_eq_some_iff→aB
open Go.RowKit.Below renaming heap_setCell→ae0,refl→aI
open BitVec renaming ofInt→ae6,ofNat→ajl,toNat_ofNat→ajo
open Bool renaming and_eq_true→aQ,false_eq_true→ajp
open Go.Instr renaming index→aeV
open Int renaming add_mul→amF,emod_nonneg→amL,eq_ofNat_of_zero_le→ajk,mul_nonneg→ajm
open Go.IntKind renaming i64→bg,u64→ajs,wrap_u64→ajq
open Go.IntWalk renaming i64_in→dz
open Go.Lib renaming hid→aG
open List renaming getElem?_append_left→aH,getElem?_append_right→bu,getElem?_eq_getElem→ah,getElem?_eq_none→bQ,getElem?_map→bY,getElem?_take→dx,length_append→afa,length_map→dF,map_eq_nil_iff→ag3,mem_cons→ag,mem_of_getElem?→aN,not_mem_nil→ae,range→dh
open Nat renaming le_refl→au,le_trans→aZ,lt_of_lt_of_le→aC,lt_or_ge→cu
open Go.Proofs.Tryz renaming prog→aa
open Go.World renaming cell?→bS,frozen?→ae2,setCell→afg
section
namespace Go.Proofs.En
open Go.RowKit
theorem yB {k:IntKind} {a b:Int} (h:a=b):Ending.returned (.int k a)=.returned (.int k b):=by rw [h]
theorem qA {a b:Bool} (h:a=b):Ending.returned (.bool a)=.returned (.bool b):=by rw [h]
theorem tmod_neg (n k:Int) (h3:0<k) (hn:n.tmod k<0):n.tmod k+k=n % k∧-k<n.tmod k:=by
 have h1:0≤n∨n<0:=by omega
 rcases h1 with h1 | h1
 ·rw [Int.tmod_eq_emod_of_nonneg h1] at hn
  have:=amL n (show k≠0 by omega)
  omega
 ·have e:n.tmod k=-((-n) % k):=by
   have:=Int.neg_tmod (-n) k
   rw [Int.neg_neg] at this
   rw [this,Int.tmod_eq_emod_of_nonneg (by omega)]
  have hlt:=Int.emod_lt_of_pos (-n) h3
  have hge:=amL (-n) (show k≠0 by omega)
  rw [e]
  refine ⟨?_,by omega⟩
  have h5:=Int.mul_ediv_add_emod (-n) k
  have h6:n=k*(-((-n)/k) - 1)+(k - (-n) % k):=by
   rw [Int.mul_sub,Int.mul_neg]; omega
  have h7:n % k=(k - (-n) % k) % k:=by
   rw [h6,Int.mul_add_emod_self_left]
   have:(k*(-((-n)/k) - 1)+(k - (-n) % k))=n:=h6.symm
   rw [this]
  have h8:=Int.emod_eq_of_lt (a:=k - (-n) % k) (b:=k) (by omega) (by omega)
  omega
theorem aec (n k:Int) (h3:0<k) (hn:0≤n.tmod k):n.tmod k=n % k:=by
 have h1:0≤n∨n<0:=by omega
 rcases h1 with h1 | h1
 ·exact Int.tmod_eq_emod_of_nonneg h1
 ·have e:n.tmod k=-((-n) % k):=by
   have:=Int.neg_tmod (-n) k
   rw [Int.neg_neg] at this
   rw [this,Int.tmod_eq_emod_of_nonneg (by omega)]
  have hge:=amL (-n) (show k≠0 by omega)
  have h0:(-n) % k=0:=by omega
  rw [e,h0]
  have:k ∣ n:=(Int.dvd_neg).1 (Int.dvd_of_emod_eq_zero h0)
  rw [Int.emod_eq_zero_of_dvd this]; rfl
theorem ac3 (n k:Int) (w:World) (h3:0<k) (h4:k≤9223372036854775807) :
  Calls aa 14 #[.int .i64 n,.int .i64 k] w fun e w'=>e=.returned (.int .i64 (n % k))∧w=w':=by
 have hk:(k==0)=false:=by simp; omega
 by_cases hn:n.tmod k<0
 ·have h5:=tmod_neg n k h3 hn
  have H5:=aG h5
  clear h5
  go_enter Tryz.func14,Tryz.ntmps14
  go_wp2
  go_ret
  have h6:=H5.out
  exact ⟨yB (by rw [IntWalk.wrap64_in _ (by omega)]; exact h6.1),rfl⟩
 ·have h5:=aec n k h3 (by omega)
  have H5:=aG h5
  clear h5
  go_enter Tryz.func14,Tryz.ntmps14
  go_wp2
  go_ret
  exact ⟨yB H5.out,rfl⟩
def mX (lo hi:Int):Bool:=decide (-1152921504606846976≤lo∧lo≤hi∧hi≤1152921504606846976)
theorem Dy (lo hi:Int) (w:World) :
  Calls aa 30 #[.agg #[.int .i64 lo,.int .i64 hi]] w fun e w'=>e=.returned (.bool (mX lo hi))∧Below w.heap.size w w':=by
 by_cases h1:-1152921504606846976≤lo
 ·by_cases h2:lo≤hi
  ·by_cases h3:hi≤1152921504606846976
   all_goals
    go_enter Tryz.func30,Tryz.ntmps30
    go_wp2
    go_ret
    exact ⟨qA (by unfold mX; symm; simp; omega),(aI _ _).alloc (au _) _⟩
  ·go_enter Tryz.func30,Tryz.ntmps30
   go_wp2
   go_ret
   exact ⟨qA (by unfold mX; symm; simp; omega),(aI _ _).alloc (au _) _⟩
 ·go_enter Tryz.func30,Tryz.ntmps30
  go_wp2
  go_ret
  exact ⟨qA (by unfold mX; symm; simp; omega),(aI _ _).alloc (au _) _⟩
theorem Y8 (ph pl qh ql:Int) (w:World) :
  Calls aa 32 #[.agg #[.int .i64 ph,.int .u64 pl],.agg #[.int .i64 qh,.int .u64 ql]] w fun e w'=>e=.returned (.bool (decide (ph<qh∨ph=qh∧pl<ql)))∧Below w.heap.size w w':=by
 by_cases h1:ph<qh
 ·go_enter Tryz.func32,Tryz.ntmps32
  go_wp2
  go_ret
  exact ⟨qA (by symm; simp; omega),((aI _ _).alloc (au _) _).alloc (by simp) _⟩
 ·by_cases h2:ph=qh
  ·have h2':(ph==qh)=true:=by simpa using h2
   have H2:=aG h2
   clear h2
   by_cases h3:pl<ql
   all_goals
    go_enter Tryz.func32,Tryz.ntmps32
    go_wp2
    go_ret
    have h2:=H2.out
    exact ⟨qA (by symm; simp; omega),((aI _ _).alloc (au _) _).alloc (by simp) _⟩
  ·have h2':(ph==qh)=false:=by simpa using h2
   have H2:=aG h2
   clear h2
   go_enter Tryz.func32,Tryz.ntmps32
   go_wp2
   go_ret
   have h2:=H2.out
   exact ⟨qA (by symm; simp; omega),((aI _ _).alloc (au _) _).alloc (by simp) _⟩
end Go.Proofs.En
end
section
namespace Go.Proofs.En
open Go.RowKit
theorem Ff (x y:Int) (w:World) (hx:0≤x) (hx':x≤18446744073709551615) (hy:0≤y) (hy':y≤18446744073709551615) :
  Calls aa 59 #[.int .u64 x,.int .u64 y] w fun e w'=>e=.returned (.tuple #[.int .u64 (x*y/18446744073709551616),.int .u64 (x*y % 18446744073709551616)])∧w=w':=by
 obtain ⟨n,rfl⟩:=ajk hx
 obtain ⟨m,rfl⟩:=ajk hy
 refine (Tryz.bits_Mul64 n m (by omega) (by omega) w).mono ?_
 rintro e w' ⟨rfl,rfl⟩
 exact ⟨rfl,rfl⟩
theorem Vo (a:Int) (h1:-9223372036854775808≤a) (h2:a≤9223372036854775807):ajs.wrap a=if a<0 then a+18446744073709551616 else a:=by
 rw [ajq]; split<;>omega
variable {a b:Int}
theorem Km {A B:Int} (h1:-A≤a) (h2:a≤A) (h3:-B≤b) (h4:b≤B):-(A*B)≤a*b∧a*b≤A*B:=by
 have e1:=ajm (show 0≤A - a by omega) (show 0≤B - b by omega)
 have e2:=ajm (show 0≤A+a by omega) (show 0≤B+b by omega)
 have e3:=ajm (show 0≤A - a by omega) (show 0≤B+b by omega)
 have e4:=ajm (show 0≤A+a by omega) (show 0≤B - b by omega)
 have x1:(A - a)*(B - b)=A*B - A*b - a*B+a*b:=by simp only [Int.sub_mul,Int.mul_sub]; omega
 have x2:(A+a)*(B+b)=A*B+A*b+a*B+a*b:=by simp only [amF,Int.mul_add]; omega
 have x3:(A - a)*(B+b)=A*B+A*b - a*B - a*b:=by simp only [Int.sub_mul,Int.mul_add]; omega
 have x4:(A+a)*(B - b)=A*B - A*b+a*B - a*b:=by simp only [amF,Int.mul_sub]; omega
 omega
theorem Yj (a b:Int) (h1:-9223372036854775808≤a) (h2:a≤9223372036854775807) (h3:-9223372036854775808≤b) (h4:b≤9223372036854775807) :
  -4611686018427387904≤a*b/18446744073709551616∧a*b/18446744073709551616≤4611686018427387904:=by
 have:=Km (A:=9223372036854775808) (B:=9223372036854775808) (a:=a) (b:=b) (by omega) (by omega) (by omega) (by omega)
 omega
theorem QS (a y:Int):(a+18446744073709551616)*y/18446744073709551616=a*y/18446744073709551616+y∧(a+18446744073709551616)*y % 18446744073709551616=a*y % 18446744073709551616:=by
 rw [amF]; omega
theorem QR (a y:Int):a*(y+18446744073709551616)/18446744073709551616=a*y/18446744073709551616+a∧a*(y+18446744073709551616) % 18446744073709551616=a*y % 18446744073709551616:=by
 rw [Int.mul_add]; omega
def Mw (p:Int) (w:World) (e:Ending) (w':World):Prop:=e=.returned (.agg #[.int .i64 (p/18446744073709551616),.int .u64 (p % 18446744073709551616)])∧Below w.heap.size w w'
variable {w w':World}
theorem FQ {p q:Int} (h1:a=p/18446744073709551616) (h2:b=p % 18446744073709551616) (h3:q=p) (hb:Below w.heap.size w w'):Mw q w (.returned (.agg #[.int .i64 a,.int .u64 b])) w':=by
 subst h1 h2 h3; exact ⟨rfl,hb⟩
theorem PU (a b:Int) (w:World) (h1:-9223372036854775808≤a) (h2:a≤9223372036854775807) (h3:-9223372036854775808≤b) (h4:b≤9223372036854775807) :
  Calls aa 31 #[.int .i64 a,.int .i64 b] w (Mw (a*b) w):=by
 have ea:=Vo a h1 h2
 have eb:=Vo b h3 h4
 have Hbd:=aG (Yj a b h1 h2 h3 h4)
 by_cases ha:a<0
 ·rw [if_pos ha] at ea
  have Ea:=aG ea
  clear ea
  by_cases hb:b<0
  ·rw [if_pos hb] at eb
   have Eb:=aG eb
   clear eb
   have P:=aG (And.intro (QS a (b+18446744073709551616)) (QR a b))
   go_enter Tryz.func31,Tryz.ntmps31
   go_wp2_with fail
   (try rw [Ea.out]); (try rw [Eb.out])
   refine (Ff _ _ _ (by omega) (by omega) (by omega) (by omega)).mono ?_
   rintro e w' ⟨rfl,rfl⟩
   generalize hX:((a+18446744073709551616)*(b+18446744073709551616))/18446744073709551616=X
   generalize hY:((a+18446744073709551616)*(b+18446744073709551616)) % 18446744073709551616=Y
   have HX:=aG hX
   have HY:=aG hY
   clear hX hY
   go_wp2
   refine bodyPost_ret (v:=.agg #[.int .i64 (wrap64 (wrap64 (wrap64 X - b) - a)),.int .u64 Y]) (by simp [results,Tryz.results31,go_sem]) rfl (FQ (p:=a*b) ?_ ?_ rfl ?_)
   ·have e1:=HX.out; have e2:=P.out; have e3:=Hbd.out
    rw [←e1]; unfold wrap64; omega
   ·have e1:=HY.out; have _e2:=P.out
    first | exact e1.symm | (rw [←e1]; omega)
   ·exact ((aI _ _).alloc (au _) _).alloc (by simp) _
  ·rw [if_neg hb] at eb
   have Eb:=aG eb
   clear eb
   have P:=aG (QS a b)
   go_enter Tryz.func31,Tryz.ntmps31
   go_wp2_with fail
   (try rw [Ea.out]); (try rw [Eb.out])
   refine (Ff _ _ _ (by omega) (by omega) (by omega) (by omega)).mono ?_
   rintro e w' ⟨rfl,rfl⟩
   generalize hX:((a+18446744073709551616)*b)/18446744073709551616=X
   generalize hY:((a+18446744073709551616)*b) % 18446744073709551616=Y
   have HX:=aG hX
   have HY:=aG hY
   clear hX hY
   go_wp2
   refine bodyPost_ret (v:=.agg #[.int .i64 (wrap64 (wrap64 X - b)),.int .u64 Y]) (by simp [results,Tryz.results31,go_sem]) rfl (FQ (p:=a*b) ?_ ?_ rfl ?_)
   ·have e1:=HX.out; have e2:=P.out; have e3:=Hbd.out
    rw [←e1]; unfold wrap64; omega
   ·have e1:=HY.out; have _e2:=P.out
    first | exact e1.symm | (rw [←e1]; omega)
   ·exact ((aI _ _).alloc (au _) _).alloc (by simp) _
 ·rw [if_neg ha] at ea
  have Ea:=aG ea
  clear ea
  by_cases hb:b<0
  ·rw [if_pos hb] at eb
   have Eb:=aG eb
   clear eb
   have P:=aG (QR a b)
   go_enter Tryz.func31,Tryz.ntmps31
   go_wp2_with fail
   (try rw [Ea.out]); (try rw [Eb.out])
   refine (Ff _ _ _ (by omega) (by omega) (by omega) (by omega)).mono ?_
   rintro e w' ⟨rfl,rfl⟩
   generalize hX:(a*(b+18446744073709551616))/18446744073709551616=X
   generalize hY:(a*(b+18446744073709551616)) % 18446744073709551616=Y
   have HX:=aG hX
   have HY:=aG hY
   clear hX hY
   go_wp2
   refine bodyPost_ret (v:=.agg #[.int .i64 (wrap64 (wrap64 X - a)),.int .u64 Y]) (by simp [results,Tryz.results31,go_sem]) rfl (FQ (p:=a*b) ?_ ?_ rfl ?_)
   ·have e1:=HX.out; have e2:=P.out; have e3:=Hbd.out
    rw [←e1]; unfold wrap64; omega
   ·have e1:=HY.out; have _e2:=P.out
    first | exact e1.symm | (rw [←e1]; omega)
   ·exact ((aI _ _).alloc (au _) _).alloc (by simp) _
  ·rw [if_neg hb] at eb
   have Eb:=aG eb
   clear eb
   have P:=aG (trivial)
   go_enter Tryz.func31,Tryz.ntmps31
   go_wp2_with fail
   (try rw [Ea.out]); (try rw [Eb.out])
   refine (Ff _ _ _ (by omega) (by omega) (by omega) (by omega)).mono ?_
   rintro e w' ⟨rfl,rfl⟩
   generalize hX:(a*b)/18446744073709551616=X
   generalize hY:(a*b) % 18446744073709551616=Y
   have HX:=aG hX
   have HY:=aG hY
   clear hX hY
   go_wp2
   refine bodyPost_ret (v:=.agg #[.int .i64 (wrap64 X),.int .u64 Y]) (by simp [results,Tryz.results31,go_sem]) rfl (FQ (p:=a*b) ?_ ?_ rfl ?_)
   ·have e1:=HX.out; have e2:=P.out; have e3:=Hbd.out
    rw [←e1]; unfold wrap64; omega
   ·have e1:=HY.out; have _e2:=P.out
    first | exact e1.symm | (rw [←e1]; omega)
   ·exact ((aI _ _).alloc (au _) _).alloc (by simp) _
theorem aa4 (H y:Nat) (h1:H<65536) (h2:y<281474976710656):(ajl 64 (281474976710656*H) ||| ajl 64 y).toNat=281474976710656*H+y:=by
 rw [BitVec.toNat_or,ajo,ajo,Nat.mod_eq_of_lt (by omega),Nat.mod_eq_of_lt (by omega)]
 exact (Nat.two_pow_add_eq_or_of_lt (i:=48) h2 H).symm
theorem Qa (x:Int) (n:Nat) (h:x % 18446744073709551616=n):ae6 64 x=ajl 64 n:=by
 apply BitVec.eq_of_toNat_eq
 rw [BitVec.toNat_ofInt,ajo]
 have e:((2:Nat)^64:Nat)=18446744073709551616:=by decide
 rw [e]
 have h2:(x % ((18446744073709551616:Nat):Int))=n:=h
 rw [h2]
 omega
theorem aa3 (h y:Int) (h1:-32768≤h) (h2:h<32768) (h3:0≤y) (h4:y<281474976710656):bits .or .i64 (h*281474976710656) y=h*281474976710656+y:=by
 obtain ⟨Y,rfl⟩:=ajk h3
 obtain ⟨H,hH⟩:=ajk (show 0≤h % 65536 by omega)
 have e1:ae6 64 (h*281474976710656)=ajl 64 (281474976710656*H):=Qa _ _ (by omega)
 have e2:ae6 64 (Y:Int)=ajl 64 Y:=Qa _ _ (by omega)
 have e3:=aa4 H Y (by omega) (by omega)
 show bg.wrap ((ae6 64 (h*281474976710656) ||| ae6 64 (Y:Int)).toNat:Int)=_
 rw [e1,e2,e3,IntKind.wrap_i64]
 omega
def okB (x:Int):Bool:=decide (-1152921504606846976≤x∧x≤1152921504606846976)
def Cb (x:Int) (ok:Bool) (w:World) (e:Ending) (w':World):Prop:=e=.returned (.tuple #[.int .i64 x,.bool ok])∧Below w.heap.size w w'
theorem Ct {x y:Int} {a b:Bool} (h1:x=y) (h2:a=b) (hb:Below w.heap.size w w'):Cb x a w (.returned (.tuple #[.int .i64 y,.bool b])) w':=by
 subst h1 h2; exact ⟨rfl,hb⟩
theorem Xx (hi lo:Int) (w:World) (h1:-32768≤hi) (h2:hi<32768) (h3:0≤lo) (h4:lo≤18446744073709551615) :
  Calls aa 33 #[.agg #[.int .i64 hi,.int .u64 lo]] w (Cb (hi*281474976710656+lo/65536) (okB (hi*281474976710656+lo/65536)) w):=by
 have hor:=aa3 hi (lo/65536) h1 h2 (by omega) (by omega)
 have g1:decide (hi< -32768)=false:=by simp; omega
 have g2:decide (32768≤hi)=false:=by simp; omega
 by_cases c1:-1152921504606846976≤hi*281474976710656+lo/65536
 ·by_cases c2:hi*281474976710656+lo/65536≤1152921504606846976
  all_goals
   go_enter Tryz.func33,Tryz.ntmps33
   go_wp2
   go_ret2
   exact Ct rfl (by unfold okB; simp; omega) ((aI _ _).alloc (au _) _)
 ·go_enter Tryz.func33,Tryz.ntmps33
  go_wp2
  go_ret2
  exact Ct rfl (by unfold okB; simp; omega) ((aI _ _).alloc (au _) _)
theorem Xy (hi lo:Int) (w:World) (h:hi< -32768∨32768≤hi) :
  Calls aa 33 #[.agg #[.int .i64 hi,.int .u64 lo]] w (Cb 0 false w):=by
 rcases h with h | h
 ·go_enter Tryz.func33,Tryz.ntmps33
  go_wp2
  go_ret2
  exact Ct rfl rfl ((aI _ _).alloc (au _) _)
 ·have g1:decide (hi< -32768)=false:=by simp; omega
  go_enter Tryz.func33,Tryz.ntmps33
  go_wp2
  go_ret2
  exact Ct rfl rfl ((aI _ _).alloc (au _) _)
def afq (p:Int):Int:=if -604462909807314587353088≤p∧p<604462909807314587353088 then p/65536 else 0
theorem Nu (p:Int) (w:World) :
  Calls aa 33 #[.agg #[.int .i64 (p/18446744073709551616),.int .u64 (p % 18446744073709551616)]] w (Cb (afq p) (okB (p/65536)) w):=by
 by_cases h:-604462909807314587353088≤p∧p<604462909807314587353088
 ·have:=Xx (p/18446744073709551616) (p % 18446744073709551616) w (by omega) (by omega) (by omega) (by omega)
  have e:p/18446744073709551616*281474976710656+p % 18446744073709551616/65536=p/65536:=by omega
  rw [e] at this
  unfold afq
  rw [if_pos h]
  exact this
 ·have:=Xy (p/18446744073709551616) (p % 18446744073709551616) w (by omega)
  have e:okB (p/65536)=false:=by unfold okB; simp; omega
  unfold afq
  rw [if_neg h,e]
  exact this
end Go.Proofs.En
end
section
namespace Go.Proofs.En
open Go.RowKit
variable {W w1:World}
theorem Ck (hb:Below W.heap.size W w1):(∀b o,b<W.heap.size→w1.cell? ⟨b,o,none⟩=W.cell? ⟨b,o,none⟩)∧(∀b o,b<W.heap.size→w1.frozen? ⟨b,o,none⟩=W.frozen? ⟨b,o,none⟩) :=
 ⟨fun b o h=>hb.cell (p:=⟨b,o,none⟩) h,fun b o h=>hb.frozen (p:=⟨b,o,none⟩) h⟩
variable {w:World}
theorem jD (h:Below w.heap.size w W) (hb:Below W.heap.size W w1):Below w.heap.size w w1:=h.trans (hb.mono h.size)
theorem H9 (w:World) (a b c:Obj):Below w.heap.size w (((w.alloc a).alloc b).alloc c):=(((aI _ _).alloc (au _) _).alloc (by simp) _).alloc (by simp; omega) _
theorem VD (x y:Int) (hx:0≤x) (hy:0≤y) (w:World):(callFunc 60 #[.int .u64 x,.int .u64 y,.int .u64 0]).run aa w =
  .ok (.value (.tuple #[.int .u64 ((x+y) % 18446744073709551616),.int .u64 ((x+y)/18446744073709551616)])) w:=by
 rw [run_callFunc_extern Tryz.func60 (by kernel_rfl) (by kernel_rfl) (by kernel_rfl) (e:=add64Entry) (by kernel_rfl),run_add64 x y 0 hx hy (by omega) (by omega)]
 rw [Int.add_zero]
 rfl
theorem aem (p:Int) (w:World) (h1:-85070591730234615865843651857942052864≤p) (h2:p≤85070591730234615865843651857942052864) :
  Calls aa 34 #[.agg #[.int .i64 (p/18446744073709551616),.int .u64 (p % 18446744073709551616)]] w (Cb (afq (p+65535)) (okB ((p+65535)/65536)) w):=by
 generalize hA:p/18446744073709551616=A
 generalize hB:p % 18446744073709551616=B
 have hd:=fun w=>VD B 65535 (by omega) (by omega) w
 generalize hX:(B+65535) % 18446744073709551616=X at hd
 generalize hC:(B+65535)/18446744073709551616=C at hd
 have a1:-4611686018427387904≤A:=by omega
 have a2:A≤4611686018427387904:=by omega
 have c1:0≤C:=by omega
 have c2:C≤1:=by omega
 have e1:(p+65535)/18446744073709551616=A+C:=by omega
 have e2:(p+65535) % 18446744073709551616=X:=by omega
 have hq:=fun w=>Nu (p+65535) w
 rw [e1,e2] at hq
 have HQ:=aG hq
 generalize afq (p+65535)=D at HQ ⊢
 generalize okB ((p+65535)/65536)=O at HQ ⊢
 clear hA hB h1 h2 hX hC e1 e2 hq
 go_enter Tryz.func34,Tryz.ntmps34
 go_wp2_with fail
 refine (HQ.out _).mono ?_
 rintro e w1 ⟨rfl,hb⟩
 go_wp2
 go_ret2
 exact Ct rfl rfl (jD ((aI _ _).alloc (au _) _) hb)
def xC (lo hi:Int) (ok:Bool) (w:World) (e:Ending) (w':World):Prop:=e=.returned (.tuple #[.agg #[.int .i64 lo,.int .i64 hi],.bool ok])∧Below w.heap.size w w'
theorem D5 {a b c d:Int} {x y:Bool} {w':World} (h1:a=c) (h2:b=d) (h3:x=y) (hb:Below w.heap.size w w'):xC a b x w (.returned (.tuple #[.agg #[.int .i64 c,.int .i64 d],.bool y])) w':=by
 subst h1 h2 h3; exact ⟨rfl,hb⟩
end Go.Proofs.En
end
section
namespace Go.Proofs.En
open Go.RowKit
structure iw (W:World) (b:Nat) (x y:Value):Prop where
 c0:W.cell? ⟨b,0,none⟩=some x
 c1:W.cell? ⟨b,1,none⟩=some y
 f0:W.frozen? ⟨b,0,none⟩=false
 f1:W.frozen? ⟨b,1,none⟩=false
 lt:b<W.heap.size
variable {W W':World} {b:Nat} {x y:Value}
theorem iw.keep (h:iw W b x y) (hb:Below W.heap.size W W'):iw W' b x y :=
 ⟨(hb.cell (p:=⟨b,0,none⟩) h.lt).trans h.c0,(hb.cell (p:=⟨b,1,none⟩) h.lt).trans h.c1,(hb.frozen (p:=⟨b,0,none⟩) h.lt).trans h.f0,(hb.frozen (p:=⟨b,1,none⟩) h.lt).trans h.f1,aC h.lt hb.size⟩
theorem iw.new (W:World) (x y:Value) (t:TypeId):iw (W.alloc (.cells #[x,y] t)) W.heap.size x y :=
 ⟨by simp,by simp,by simp,by simp,by simp⟩
theorem iw.al (h:iw W b x y) (o:Obj):iw (W.alloc o) b x y:=h.keep ((aI _ _).alloc (au _) _)
theorem iw.new' (W:World) (n:Nat) (x y:Value) (t:TypeId) (hn:n=W.heap.size):iw (W.alloc (.cells #[x,y] t)) n x y:=by subst hn; exact iw.new W x y t
variable {b':Nat}
theorem iw.other (h:iw W b x y) (hne:b≠b') (o:Nat) (v:Value):iw (W.setCell ⟨b',o,none⟩ v) b x y:=by
 have hb:∀k,k≠b'→(W.setCell ⟨b',o,none⟩ v).heap[k]?=W.heap[k]?:=fun k hk=>ae0 W ⟨b',o,none⟩ v k hk
 have hB:Below b' W (W.setCell ⟨b',o,none⟩ v):=(aI b' W).setCell (p:=⟨b',o,none⟩) (au b') v
 refine ⟨?_,?_,?_,?_,aC h.lt hB.size⟩
 ·rw [←h.c0]; simp [bS,hb b hne]
 ·rw [←h.c1]; simp [bS,hb b hne]
 ·rw [←h.f0]; simp [ae2,hb b hne]
 ·rw [←h.f1]; simp [ae2,hb b hne]
theorem iw.put (h:iw W b x y) (x' y':Value):iw ((W.setCell ⟨b,0,none⟩ x').setCell ⟨b,1,none⟩ y') b x' y':=by
 have h0:=h.c0; have h1:=h.c1; have h2:=h.f0; have h3:=h.f1
 refine ⟨by simp [go_sem,h0],by simp [go_sem,h1],by simp [go_sem,h2],by simp [go_sem,h3],by have:=h.lt; simp [afg]; exact this⟩
structure Row (W:World) (b:Nat) (l:List Value):Prop where
 c:∀j v,l[j]?=some v→W.cell? ⟨b,j,none⟩=some v
 lt:b<W.heap.size
variable {l:List Value}
theorem Row.keep (h:Row W b l) (hb:Below W.heap.size W W'):Row W' b l :=
 ⟨fun j v hj=>(hb.cell (p:=⟨b,j,none⟩) h.lt).trans (h.c j v hj),aC h.lt hb.size⟩
theorem Row.other (h:Row W b l) (hne:b≠b') (o:Nat) (v:Value):Row (W.setCell ⟨b',o,none⟩ v) b l:=by
 have hB:Below b' W (W.setCell ⟨b',o,none⟩ v):=(aI b' W).setCell (p:=⟨b',o,none⟩) (au b') v
 refine ⟨fun j u hj=>?_,aC h.lt hB.size⟩
 rw [←h.c j u hj]; simp [bS,ae0 W ⟨b',o,none⟩ v b hne]
theorem Row.new (W:World) (l:List Value) (t:TypeId):Row (W.alloc (.cells l.toArray t)) W.heap.size l:=by
 refine ⟨fun j v hj=>?_,by simp⟩
 have e:(W.alloc (.cells l.toArray t)).heap[W.heap.size]?=some (.cells l.toArray t):=by
  show (W.heap.push (.cells l.toArray t))[W.heap.size]?=_
  exact Array.getElem?_push_size
 exact (cell_of_row _ _ _ _ _ _ e).trans (by simpa using hj)
theorem Pt {w1 w2:World} {b0 b1:Nat} {z u:Value} (h0:b0<W.heap.size) (h1:b1<W.heap.size)
  (h:w1.cell? ⟨b0,0,none⟩=some x∧w1.cell? ⟨b0,1,none⟩=some y∧w1.cell? ⟨b1,0,none⟩=some z∧w1.cell? ⟨b1,1,none⟩=some u∧Below W.heap.size W w1) (hb:Below w1.heap.size w1 w2) :
  w2.cell? ⟨b0,0,none⟩=some x∧w2.cell? ⟨b0,1,none⟩=some y∧w2.cell? ⟨b1,0,none⟩=some z∧w2.cell? ⟨b1,1,none⟩=some u∧Below W.heap.size W w2:=by
 obtain ⟨a1,a2,a3,a4,a5⟩:=h
 have l0:=aC h0 a5.size
 have l1:=aC h1 a5.size
 exact ⟨(hb.cell (p:=⟨b0,0,none⟩) l0).trans a1,(hb.cell (p:=⟨b0,1,none⟩) l0).trans a2,(hb.cell (p:=⟨b1,0,none⟩) l1).trans a3,(hb.cell (p:=⟨b1,1,none⟩) l1).trans a4,a5.trans (hb.mono a5.size)⟩
end Go.Proofs.En
end
section
section
namespace Go.Proofs.En
open Go.RowKit
def lv (x m:Int):Bool:=decide (1≤x∧x≤m)
theorem qf (x m:Int) (w:World):Calls aa 127 #[.int .i64 x,.int .i64 m] w fun e w'=>e=.returned (.bool (lv x m))∧w=w':=by
 by_cases h1:1≤x
 ·by_cases h2:x≤m
  all_goals
   go_enter Tryz.func127,Tryz.ntmps127
   go_wp2
   go_ret
   exact ⟨qA (by unfold lv; symm; simp; omega),rfl⟩
 ·go_enter Tryz.func127,Tryz.ntmps127
  go_wp2
  go_ret
  exact ⟨qA (by unfold lv; symm; simp; omega),rfl⟩
def vU (c:Int):Bool:=decide (97≤c∧c≤122)
def vM (c:Int):Bool:=decide (48≤c∧c≤57)
theorem C8 (c:Int) (w:World):Calls aa 138 #[.int .i32 c] w fun e w'=>e=.returned (.bool (vU c))∧w=w':=by
 by_cases h1:97≤c
 ·by_cases h2:c≤122
  all_goals
   go_enter Tryz.func138,Tryz.ntmps138
   go_wp2
   go_ret
   exact ⟨qA (by unfold vU; symm; simp; omega),rfl⟩
 ·go_enter Tryz.func138,Tryz.ntmps138
  go_wp2
  go_ret
  exact ⟨qA (by unfold vU; symm; simp; omega),rfl⟩
theorem Iq (c:Int) (w:World):Calls aa 139 #[.int .i32 c] w fun e w'=>e=.returned (.bool (vM c))∧w=w':=by
 by_cases h1:48≤c
 ·by_cases h2:c≤57
  all_goals
   go_enter Tryz.func139,Tryz.ntmps139
   go_wp2
   go_ret
   exact ⟨qA (by unfold vM; symm; simp; omega),rfl⟩
 ·go_enter Tryz.func139,Tryz.ntmps139
  go_wp2
  go_ret
  exact ⟨qA (by unfold vM; symm; simp; omega),rfl⟩
def oI (k:Int):Int:=if k=1∨k=2∨k=3 then 524288 else if k=4∨k=5∨k=6 then 4194304 else 0
theorem Za (k:Int) (w:World):Calls aa 126 #[.int .i64 k] w fun e w'=>e=.returned (.int .i64 (oI k))∧w=w':=by
 have key:∀b1 b2 b3 b4 b5 b6:Bool,(k==1)=b1→(k==2)=b2→(k==3)=b3→(k==4)=b4→(k==5)=b5→(k==6)=b6 →
   Calls aa 126 #[.int .i64 k] w fun e w'=>e=.returned (.int .i64 (oI k))∧w=w':=by
  intro b1 b2 b3 b4 b5 b6 h1 h2 h3 h4 h5 h6
  have HL:Hid (oI k=if b1||b2||b3 then 524288 else if b4||b5||b6 then 4194304 else 0):=aG (by
   unfold oI; rw [←h1,←h2,←h3,←h4,←h5,←h6]; simp [or_assoc])
  cases b1
  ·cases b2
   ·cases b3
    ·cases b4
     ·cases b5
      ·cases b6
       all_goals
        go_enter Tryz.func126,Tryz.ntmps126
        go_wp2
        go_ret
        exact ⟨yB (by rw [HL.out]; rfl),rfl⟩
      ·go_enter Tryz.func126,Tryz.ntmps126
       go_wp2
       go_ret
       exact ⟨yB (by rw [HL.out]; rfl),rfl⟩
     ·go_enter Tryz.func126,Tryz.ntmps126
      go_wp2
      go_ret
      exact ⟨yB (by rw [HL.out]; rfl),rfl⟩
    ·go_enter Tryz.func126,Tryz.ntmps126
     go_wp2
     go_ret
     exact ⟨yB (by rw [HL.out]; rfl),rfl⟩
   ·go_enter Tryz.func126,Tryz.ntmps126
    go_wp2
    go_ret
    exact ⟨yB (by rw [HL.out]; rfl),rfl⟩
  ·go_enter Tryz.func126,Tryz.ntmps126
   go_wp2
   go_ret
   exact ⟨yB (by rw [HL.out]; rfl),rfl⟩
 exact key _ _ _ _ _ _ rfl rfl rfl rfl rfl rfl
def AJ (x:Int):Bool:=decide (x< -4194304)||decide (4194304<x)
def wD (x y z:Int):Bool:=AJ x||AJ y||AJ z
def oz (b:Bool) (w:World) (e:Ending) (w':World):Prop:=e=.returned (.bool b)∧Below w.heap.size w w'
variable {w w':World}
theorem mg {a b:Bool} (h:a=b) (hb:Below w.heap.size w w'):oz a w (.returned (.bool b)) w':=by subst h; exact ⟨rfl,hb⟩
theorem WH (x y z:Int) (w:World) (a0:decide (x< -4194304)=false) (b0:decide (4194304<x)=false) (a1:decide (y< -4194304)=false) (b1:decide (4194304<y)=false) (a2:decide (z< -4194304)=false) (b2:decide (4194304<z)=false):Calls aa 125 #[.agg #[.int .i64 x,.int .i64 y,.int .i64 z]] w (oz false w):=by
 have i0:∀w,(aeV 40 (.agg #[.int .i64 x,.int .i64 y,.int .i64 z]) (.int .i64 0)).run aa w=.ok (.int .i64 x) w:=fun _=>by kernel_rfl
 have i1:∀w,(aeV 40 (.agg #[.int .i64 x,.int .i64 y,.int .i64 z]) (.int .i64 1)).run aa w=.ok (.int .i64 y) w:=fun _=>by kernel_rfl
 have i2:∀w,(aeV 40 (.agg #[.int .i64 x,.int .i64 y,.int .i64 z]) (.int .i64 2)).run aa w=.ok (.int .i64 z) w:=fun _=>by kernel_rfl
 go_enter Tryz.func125,Tryz.ntmps125
 go_wp2_with fail
 refine wp_loop_rounds 4 ?_
 rw [rounds_succ]
 go_wp2_with fail
 rw [rounds_succ]
 go_wp2_with fail
 rw [rounds_succ]
 go_wp2_with fail
 rw [rounds_succ]
 go_wp2_with fail
 go_wp2
 go_ret
 exact mg rfl ((aI _ _).alloc (au _) _)
end Go.Proofs.En
end
section
namespace Go.Proofs.En
open Go.RowKit
def Po (s:ByteArray):Bool:=s.toList==[119,111,114,108,100]
def zG (i:Nat) (c:Nat):Bool:=vU c||(decide (i≠0)&&(vM c||decide (c=95)))
def zH (s:ByteArray):Bool:=(dh s.size).all fun i=>zG i (s.get! i).toNat
def vV (s:ByteArray):Bool:=decide (1≤s.size∧s.size≤16)&&!(Po s)&&zH s
theorem get_eq (s:ByteArray) (i:Nat) (h:i<s.size):s.get! i=s[i]:=by
 show s.data[i]! = s.data[i]
 rw [getElem!_pos s.data i h]
variable {s:ByteArray}
theorem PX {i:Nat} (h:i<s.size) (hc:zG i (s[i]'h).toNat=false):zH s=false:=by
 unfold zH
 rw [List.all_eq_false]
 exact ⟨i,List.mem_range.2 h,by rw [get_eq s i h,hc]; simp⟩
theorem Ia (w:World) (s:ByteArray) (p:Nat):Below w.heap.size w (w.iter s p):=by
 refine ⟨rfl,rfl,rfl,?_,fun k hk=>?_⟩
 ·simp [World.iter]
 ·show (w.heap.push _)[k]?=_
  rw [Array.getElem?_push,if_neg (by omega)]
theorem ZZ (i:Nat) (c:Nat) (h:128≤c):zG i c=false:=by
 simp [zG,vU,vM]; omega
end Go.Proofs.En
end
section
namespace Go.Proofs.En
open Go.RowKit
end Go.Proofs.En
end
section
namespace Go.Proofs.En
open Go.RowKit
structure JV where
 name:ByteArray
 kind:Int
 parent:Int
 o0:Int
 o1:Int
 o2:Int
 lo:Int
 hi:Int
 weight:Int
 speed:Int
 iL:Int
 iO:Int
def JV.vals (j:JV):List Value:=[.string j.name,.int .i64 j.kind,.int .i64 j.parent,.int .i64 j.o0,.int .i64 j.o1,.int .i64 j.o2,.int .i64 j.lo,.int .i64 j.hi,.int .i64 j.weight,.int .i64 j.speed,.int .i64 j.iL,.int .i64 j.iO]
structure MV where
 link:Int
 eT:Int
 p0:Int
 p1:Int
 p2:Int
def MV.vals (m:MV):List Value:=[.int .i64 m.link,.int .i64 m.eT,.int .i64 m.p0,.int .i64 m.p1,.int .i64 m.p2]
structure uJ (w:World) (b off n:Nat) (l:List (List Value)):Prop where
 lt:b<w.heap.size
 c:∀i r,l[i]?=some r→∀k v,r[k]?=some v→w.cell? ⟨b,off+(i*n+k),none⟩=some v
variable {w w':World} {b off n:Nat}
theorem uJ.keep {l:List (List Value)} (h:uJ w b off n l) (hb:Below w.heap.size w w'):uJ w' b off n l :=
 ⟨aC h.lt hb.size,fun i r hi k v hv=>(hb.cell (p:=⟨b,off+(i*n+k),none⟩) h.lt).trans (h.c i r hi k v hv)⟩
variable {js:List JV} {k:Nat} {j:JV}
theorem Ba (h:js[k]?=some j):(js.map JV.vals)[k]?=some j.vals:=by simp [h]
def rq (a b:ByteArray):Bool:=a.toList==b.toList
def findF (js:List JV) (s:ByteArray):Int:=if js.findIdx (fun j=>rq j.name s)<js.length then js.findIdx (fun j=>rq j.name s) else -1
def DW (n:Int) (w:World) (e:Ending) (w':World):Prop:=e=.returned (.int .i64 n)∧Below w.heap.size w w'
theorem nI {n m:Int} (h:n=m) (hb:Below w.heap.size w w'):DW n w (.returned (.int .i64 m)) w':=by subst h; exact ⟨rfl,hb⟩
variable {s:ByteArray}
theorem OO (hj:js[k]?=some j) (he:rq j.name s=true) (hall:∀i (j:JV),i<k→js[i]?=some j→rq j.name s=false):findF js s=k:=by
 have hk:k<js.length:=by
  rcases cu k js.length with h | h
  ·exact h
  ·rw [bQ h] at hj; cases hj
 have:js.findIdx (fun j=>rq j.name s)=k:=by
  rw [List.findIdx_eq hk]
  rw [ah hk] at hj
  injection hj with hj
  exact ⟨by rw [hj]; exact he,fun i hi=>hall i _ hi (ah (by omega))⟩
 unfold findF
 rw [this,if_pos hk]
theorem XY (hall:∀(i:Nat) (j:JV),js[i]?=some j→rq j.name s=false):findF js s=-1:=by
 have:js.findIdx (fun j=>rq j.name s)=js.length:=by
  rw [List.findIdx_eq_length]
  intro x hx
  obtain ⟨i,hi,rfl⟩:=List.mem_iff_getElem.1 hx
  exact hall i _ (ah hi)
 unfold findF
 rw [this,if_neg (by omega)]
end Go.Proofs.En
end
section
namespace Go.Proofs.En
open Go.RowKit
def qY (js:List JV) (j:JV) (i:Int):Int :=
 if !vV j.name||decide (findF js j.name≠i) then 802
 else if j.kind<0∨6<j.kind then 803
 else if j.parent< -1∨i≤j.parent then 804
 else if wD j.o0 j.o1 j.o2 then 805
 else if j.hi<j.lo∨j.lo< -oI j.kind∨oI j.kind<j.hi then 806
 else if !lv j.weight 1024||!lv j.speed 1048576||!lv j.iL 1048576||!lv j.iO 1099511627776 then 807
 else 0
theorem EX (k:Int):0≤oI k∧oI k≤4194304:=by
 unfold oI; split
 ·omega
 ·split<;>omega
structure CW (w:World) (n2 n5 b off:Nat) (rv:List Value) (j:JV) (js:List JV) (W:World):Prop where
 gW:Below w.heap.size w W
 r2:Row W n2 rv
 r5:Row W n5 j.vals
 rJ:uJ W b off 12 (js.map JV.vals)
theorem CW.keep {w W W':World} {n2 n5 b off:Nat} {rv:List Value} {j:JV} {js:List JV} (h:CW w n2 n5 b off rv j js W) (hb:Below W.heap.size W W'):CW w n2 n5 b off rv j js W' :=
 ⟨jD h.gW hb,h.r2.keep hb,h.r5.keep hb,h.rJ.keep hb⟩
end Go.Proofs.En
end
section
namespace Go.Proofs.En
open Go.RowKit
def kK (n:Nat) (m:MV):Bool:=decide (0≤m.link∧m.link<n)&&lv m.eT 65536&&!wD m.p0 m.p1 m.p2
def Sl (w:World) (oa:Option Addr) (n:Nat) (rows:List (List Value)):Prop:=rows≠[]→∃b off,oa=some ⟨b,off,none⟩∧uJ w b off n rows
theorem Sl.keep {w w':World} {oa:Option Addr} {n:Nat} {rows:List (List Value)} (h:Sl w oa n rows) (hb:Below w.heap.size w w'):Sl w' oa n rows:=by
 intro h0
 obtain ⟨b,off,e,h1⟩:=h h0
 exact ⟨b,off,e,h1.keep hb⟩
variable {ms:List MV} {k:Nat}
theorem De {m:MV} (h:ms[k]?=some m):(ms.map MV.vals)[k]?=some m.vals:=by simp [h]
def yu (js:List JV) (ms:List MV):Prop:=(0<js.length∧js.length≤10)∧(∀(k:Nat) (j:JV),js[k]?=some j→qY js j k=0)∧ms.length≤32∧∀(k:Nat) (m:MV),ms[k]?=some m→kK js.length m=true
structure KW (w:World) (n1:Nat) (oa om:Option Addr) (rv:List Value) (js:List JV) (ms:List MV) (W:World):Prop where
 gW:Below w.heap.size w W
 r1:Row W n1 rv
 rJ:Sl W oa 12 (js.map JV.vals)
 rM:Sl W om 5 (ms.map MV.vals)
theorem KW.keep {w W W':World} {n1:Nat} {oa om:Option Addr} {rv:List Value} {js:List JV} {ms:List MV} (h:KW w n1 oa om rv js ms W) (hb:Below W.heap.size W W'):KW w n1 oa om rv js ms W' :=
 ⟨jD h.gW hb,h.r1.keep hb,h.rJ.keep hb,h.rM.keep hb⟩
end Go.Proofs.En
end
section
namespace Go.Proofs.En
open Go.RowKit
theorem XF (s:ByteArray):rq s s=true:=by simp [rq]
structure CV (w:World) (n5 b off:Nat) (j:JV) (js:List JV) (W:World):Prop where
 gW:Below w.heap.size w W
 r5:Row W n5 j.vals
 rJ:uJ W b off 12 (js.map JV.vals)
theorem vG (W:World) (n:Nat):Below W.heap.size W (W.drewN n):=⟨rfl,rfl,rfl,au _,fun _ _=>rfl⟩
end Go.Proofs.En
end
section
namespace Go.Proofs.En
open Go.RowKit
end Go.Proofs.En
end
section
namespace Go.Proofs.En
open Go.RowKit
theorem aeM (j:JV) (p:Int) (w:World) :
  Calls aa 88 #[.agg #[.string j.name,.int .i64 j.kind,.int .i64 j.parent,.int .i64 j.o0,.int .i64 j.o1,.int .i64 j.o2,.int .i64 j.lo,.int .i64 j.hi,.int .i64 j.weight,.int .i64 j.speed,.int .i64 j.iL,.int .i64 j.iO],.int .i64 p] w (oz (decide (j.lo≤p∧p≤j.hi)) w):=by
 by_cases h1:j.lo≤p
 ·go_enter Tryz.func88,Tryz.ntmps88
  go_wp2
  go_ret
  exact mg (by simp [h1]) ((aI _ _).alloc (au _) _)
 ·have h1':decide (j.lo≤p)=false:=decide_eq_false h1
  go_enter Tryz.func88,Tryz.ntmps88
  go_wp2
  go_ret
  exact mg (by simp) ((aI _ _).alloc (au _) _)
def fF (ps:List Int):List (List Value):=ps.map fun p=>[.int .i64 p]
variable {ps:List Int} {k:Nat}
theorem yz {p:Int} (h:ps[k]?=some p):(fF ps)[k]?=some [.int .i64 p]:=by simp [fF,h]
theorem kX (h:k<ps.length):fF ps≠[]:=by
 intro h0; unfold fF at h0; rw [ag3] at h0; rw [h0] at h; simp at h
variable {js:List JV}
theorem AX (h:k<js.length):js.map JV.vals≠[]:=by
 intro h0; rw [ag3] at h0; rw [h0] at h; simp at h
def mi (js:List JV) (ps:List Int):Prop:=js.length=ps.length∧∀(k:Nat) (j:JV) (p:Int),js[k]?=some j→ps[k]?=some p→j.lo≤p∧p≤j.hi
end Go.Proofs.En
end
section
namespace Go.Proofs.En
open Go.RowKit
end Go.Proofs.En
end
end
section
namespace Go.Proofs.En
open Go.RowKit
structure RW (w:World) (n0 n1 n4 nO:Nat) (a b c d lo hi:Int) (W:World):Prop where
 gW:Below w.heap.size w W
 cA:iw W n0 (.int .i64 a) (.int .i64 b)
 cB:iw W n1 (.int .i64 c) (.int .i64 d)
 c4:iw W n4 (.int .i64 0) (.int .i64 0)
 cO:iw W nO (.int .i64 lo) (.int .i64 hi)
theorem iw.acx {W:World} {b:Nat} {x y:Value} (h:iw W b x y) (y':Value):iw (W.setCell ⟨b,1,none⟩ y') b x y':=by
 have h0:=h.c0; have h1:=h.c1; have h2:=h.f0; have h3:=h.f1
 refine ⟨by simp [go_sem,h0],by simp [go_sem,h1],by simp [go_sem,h2],by simp [go_sem,h3],by have:=h.lt; simp [afg]; exact this⟩
structure IX (a b i x:Int):Prop where
 ix:∀w,(aeV 108 (.agg #[.int .i64 a,.int .i64 b]) (.int .i64 i)).run aa w=.ok (.int .i64 x) w
 lo:-1152921504606846976≤x
 hi:x≤1152921504606846976
end Go.Proofs.En
end
section
namespace Go.Proofs.En
open Go.RowKit
def mR (l:List Int) (m:Int):Int:=l.foldl (fun m p=>if p<m then p else m) m
def kU (l:List Int) (m:Int):Int:=l.foldl (fun m p=>if m<p then p else m) m
def AP (p:Int):Value:=.int .i64 (p/18446744073709551616)
def J9 (p:Int):Value:=.int .u64 (p % 18446744073709551616)
theorem kT (p q:Int) (w:World) :
  Calls aa 32 #[.agg #[.int .i64 (p/18446744073709551616),.int .u64 (p % 18446744073709551616)],.agg #[.int .i64 (q/18446744073709551616),.int .u64 (q % 18446744073709551616)]] w fun e w'=>e=.returned (.bool (decide (p<q)))∧Below w.heap.size w w':=by
 refine (Y8 _ _ _ _ w).mono ?_
 rintro e w' ⟨rfl,hb⟩
 exact ⟨qA (by rw [Bool.eq_iff_iff]; simp only [decide_eq_true_eq]; omega),hb⟩
structure tO (w:World) (n0 n2 nL nG nS:Nat) (ps:List Int) (lo hi:Int) (W:World):Prop where
 gW:Below n0 w W
 c2:iw W n2 (.int .i64 0) (.int .i64 0)
 cL:iw W nL (AP lo) (J9 lo)
 cG:iw W nG (AP hi) (J9 hi)
 cS:Row W nS (ps.flatMap fun p=>[AP p,J9 p])
theorem PV (B:Int):∀(l:List Int) (m:Int),(-B≤m∧m≤B)→(∀p∈l,-B≤p∧p≤B)→-B≤kU l m∧kU l m≤B
 | [],_,hm,_=>hm
 | p::l,m,hm,hl=>by
  show -B≤kU l (if m<p then p else m)∧kU l (if m<p then p else m)≤B
  refine PV B l _ ?_ fun q hq=>hl q (by simp [hq])
  have:=hl p (by simp)
  split
  ·exact this
  ·exact hm
def mulL (a b c d:Int):Int:=mR [a*d,b*c,b*d] (a*c)
def wS (a b c d:Int):Int:=kU [a*d,b*c,b*d] (a*c)
def zD (a b c d:Int):Bool:=okB (mulL a b c d/65536)&&okB ((wS a b c d+65535)/65536)
def Mt (a b c d:Int) (w:World) (e:Ending) (w':World):Prop:=xC (if zD a b c d then afq (mulL a b c d) else 0) (if zD a b c d then afq (wS a b c d+65535) else 0) (zD a b c d) w e w'
theorem tO.keep {w W W':World} {n0 n2 nL nG nS:Nat} {ps:List Int} {lo hi:Int} (h:tO w n0 n2 nL nG nS ps lo hi W) (hb:Below W.heap.size W W') (hn:n0≤nL):tO w n0 n2 nL nG nS ps lo hi W' :=
 ⟨h.gW.trans (hb.mono (Nat.le_of_lt (Nat.lt_of_le_of_lt hn h.cL.lt))),h.c2.keep hb,h.cL.keep hb,h.cG.keep hb,h.cS.keep hb⟩
variable {w W:World} {n0 n2 nL nG nS:Nat} {ps:List Int} {lo hi:Int}
theorem tO.xk (h:tO w n0 n2 nL nG nS ps lo hi W) (hn:n0≤nL) (h1:n2<nL) (h2:nL<nG) (h3:nG<nS) (p:Int) :
  tO w n0 n2 nL nG nS ps p hi ((W.setCell ⟨nL,0,none⟩ (.int .i64 (p/18446744073709551616))).setCell ⟨nL,1,none⟩ (.int .u64 (p % 18446744073709551616))) :=
 ⟨(h.gW.setCell (p:=⟨nL,0,none⟩) hn _).setCell (p:=⟨nL,1,none⟩) hn _,(h.c2.other (by omega) _ _).other (by omega) _ _,h.cL.put _ _,(h.cG.other (by omega) _ _).other (by omega) _ _,(h.cS.other (by omega) _ _).other (by omega) _ _⟩
theorem tO.xh (h:tO w n0 n2 nL nG nS ps lo hi W) (hn:n0≤nG) (h1:n2<nL) (h2:nL<nG) (h3:nG<nS) (p:Int) :
  tO w n0 n2 nL nG nS ps lo p ((W.setCell ⟨nG,0,none⟩ (.int .i64 (p/18446744073709551616))).setCell ⟨nG,1,none⟩ (.int .u64 (p % 18446744073709551616))) :=
 ⟨(h.gW.setCell (p:=⟨nG,0,none⟩) hn _).setCell (p:=⟨nG,1,none⟩) hn _,(h.c2.other (by omega) _ _).other (by omega) _ _,(h.cL.other (by omega) _ _).other (by omega) _ _,h.cG.put _ _,(h.cS.other (by omega) _ _).other (by omega) _ _⟩
theorem ahF {k i0 i1:Nat} {l:List Int} {m p:Int} (hp:l[k]?=some p) (h0:(l.flatMap fun p=>[AP p,J9 p])[i0]?=some (AP p)) (h1:(l.flatMap fun p=>[AP p,J9 p])[i1]?=some (J9 p)) (h:tO w n0 n2 nL nG nS l (mR (l.take k) m) (kU (l.take k) m) W) :
  ∃p lo hi,W.cell? ⟨nS,i0,none⟩=some (AP p)∧W.cell? ⟨nS,i1,none⟩=some (J9 p)∧tO w n0 n2 nL nG nS l lo hi W∧∀W',tO w n0 n2 nL nG nS l (if p<lo then p else lo) (if hi<p then p else hi) W'→tO w n0 n2 nL nG nS l (mR (l.take (k+1)) m) (kU (l.take (k+1)) m) W':=by
 have e1:mR (l.take (k+1)) m=if p<mR (l.take k) m then p else mR (l.take k) m:=by unfold mR; rw [List.take_add_one,hp,List.foldl_append]; rfl
 have e2:kU (l.take (k+1)) m=if kU (l.take k) m<p then p else kU (l.take k) m:=by unfold kU; rw [List.take_add_one,hp,List.foldl_append]; rfl
 exact ⟨p,_,_,h.cS.c _ _ h0,h.cS.c _ _ h1,h,fun W' h'=>by rw [e1,e2]; exact h'⟩
theorem ZL (a b c d:Int) (w:World) (h:mX a b=true) (h':mX c d=true) :
  Calls aa 12 #[.agg #[.int .i64 a,.int .i64 b],.agg #[.int .i64 c,.int .i64 d]] w (Mt a b c d w):=by
 have hs:-1152921504606846976≤a∧a≤b∧b≤1152921504606846976:=by simpa [mX] using h
 have hs':-1152921504606846976≤c∧c≤d∧d≤1152921504606846976:=by simpa [mX] using h'
 obtain ⟨g1,g2,g3⟩:=hs
 obtain ⟨g4,g5,g6⟩:=hs'
 go_enter Tryz.func12,Tryz.ntmps12
 go_wp2_with fail
 refine (Dy _ _ _).mono ?_
 rintro e w1 ⟨rfl,hb⟩
 obtain ⟨hc,hf⟩:=Ck hb
 have z0:w.heap.size<w1.heap.size:=by have:=hb.size; simp at this; omega
 have z1:w.heap.size+1<w1.heap.size:=by have:=hb.size; simp at this; omega
 have z2:w.heap.size+1+1<w1.heap.size:=by have:=hb.size; simp at this; omega
 go_wp2_with fail
 refine (Dy _ _ _).mono ?_
 rintro e w2 ⟨rfl,hb2⟩
 obtain ⟨hc2,hf2⟩:=Ck hb2
 have y0:w.heap.size<w2.heap.size:=by have:=hb2.size; omega
 have y1:w.heap.size+1<w2.heap.size:=by have:=hb2.size; omega
 have y2:w.heap.size+1+1<w2.heap.size:=by have:=hb2.size; omega
 go_wp2_with fail
 refine (PU _ _ _ (by omega) (by omega) (by omega) (by omega)).mono ?_
 rintro e w3 ⟨rfl,hb3⟩
 go_wp2_with fail
 clear hc hf hc2 hf2
 have b0:=((iw.new w (.int .i64 a) (.int .i64 b) 23).al (.cells #[.int .i64 c,.int .i64 d] 23)).al (.cells #[.int .i64 0,.int .i64 0] 23)
 have b1:=(iw.new' (w.alloc (.cells #[.int .i64 a,.int .i64 b] 23)) (w.heap.size+1) (.int .i64 c) (.int .i64 d) 23 (by simp)).al (.cells #[.int .i64 0,.int .i64 0] 23)
 have b2:=iw.new' ((w.alloc (.cells #[.int .i64 a,.int .i64 b] 23)).alloc (.cells #[.int .i64 c,.int .i64 d] 23)) (w.heap.size+1+1) (.int .i64 0) (.int .i64 0) 23 (by simp)
 replace b0:=((b0.keep hb).keep hb2).keep hb3
 replace b1:=((b1.keep hb).keep hb2).keep hb3
 replace b2:=((b2.keep hb).keep hb2).keep hb3
 have hB:Below w.heap.size w w3:=jD (jD (jD (H9 _ _ _ _) hb) hb2) hb3
 have q2:w.heap.size+1+1<w3.heap.size:=by have:=hb3.size; omega
 clear hb hb2 hb3 z0 z1 z2 y0 y1 y2
 have hn:=hB.size
 have k1:Below w3.heap.size w3 ((w3.alloc (.cells #[.int .i64 (a*c/18446744073709551616),.int .u64 (a*c % 18446744073709551616)] 69)).alloc (.cells #[.int .i64 (a*c/18446744073709551616),.int .u64 (a*c % 18446744073709551616)] 69)):=((aI _ _).alloc (au _) _).alloc (by simp) _
 replace b0:=b0.keep k1
 replace b1:=b1.keep k1
 replace b2:=b2.keep k1
 have bL:=(iw.new w3 (.int .i64 (a*c/18446744073709551616)) (.int .u64 (a*c % 18446744073709551616)) 69).al (.cells #[.int .i64 (a*c/18446744073709551616),.int .u64 (a*c % 18446744073709551616)] 69)
 have bG:=iw.new' (w3.alloc (.cells #[.int .i64 (a*c/18446744073709551616),.int .u64 (a*c % 18446744073709551616)] 69)) (w3.heap.size+1) (.int .i64 (a*c/18446744073709551616)) (.int .u64 (a*c % 18446744073709551616)) 69 (by simp)
 replace hB:=jD hB k1
 clear k1
 generalize ((w3.alloc (.cells #[.int .i64 (a*c/18446744073709551616),.int .u64 (a*c % 18446744073709551616)] 69)).alloc (.cells #[.int .i64 (a*c/18446744073709551616),.int .u64 (a*c % 18446744073709551616)] 69))=W at b0 b1 b2 bL bG hB ⊢
 have m2:w.heap.size≤w.heap.size+1+1:=by omega
 have mL:w.heap.size≤w3.heap.size:=hn
 have mG:w.heap.size≤w3.heap.size+1:=by omega
 have d1:w3.heap.size<w3.heap.size+1:=by omega
 generalize w.heap.size+1+1=n2 at b2 m2 q2 ⊢
 generalize w.heap.size+1=n1 at b1 ⊢
 generalize w3.heap.size+1=nG at bG mG d1 ⊢
 generalize w3.heap.size=nL at bL mL d1 q2 ⊢
 generalize hn0:w.heap.size=n0 at b0 hB m2 mL mG ⊢
 have HN:=aG hn0
 clear hn hn0
 have HB:=aG hB
 clear hB
 have c00:=b0.c0; have c01:=b0.c1; have c10:=b1.c0; have c11:=b1.c1
 have l0:=b0.lt; have l1:=b1.lt
 go_region_held3 (fun w'=>w'.cell? ⟨n0,0,none⟩=some (.int .i64 a)∧w'.cell? ⟨n0,1,none⟩=some (.int .i64 b)∧w'.cell? ⟨n1,0,none⟩=some (.int .i64 c)∧w'.cell? ⟨n1,1,none⟩=some (.int .i64 d)∧Below W.heap.size W w')
  (first | exact ⟨c00,c01,c10,c11,(aI _ _).drew⟩ | exact Pt l0 l1 (by assumption) ((aI _ _).alloc (au _) _) | exact Pt l0 l1 (by assumption) (by assumption))
  (first | (go_at_call 31; refine (PU _ _ _ (by omega) (by omega) (by omega) (by omega)).mono ?_; rintro e w' ⟨rfl,hbx⟩))
 rename_i u1 hu1 u2 hu2 hS
 have hBW:=hS.2.2.2.2
 clear hS
 have c2:=b2.keep hBW
 have cL:=bL.keep hBW
 have cG:=bG.keep hBW
 have cS:=Row.new w' [.int .i64 (a*d/18446744073709551616),.int .u64 (a*d % 18446744073709551616),.int .i64 (b*c/18446744073709551616),.int .u64 (b*c % 18446744073709551616),.int .i64 (b*d/18446744073709551616),.int .u64 (b*d % 18446744073709551616)] 69
 have hW:tO w n0 n2 nL nG w'.heap.size [a*d,b*c,b*d] (a*c) (a*c) (w'.alloc (.cells #[.int .i64 (a*d/18446744073709551616),.int .u64 (a*d % 18446744073709551616),.int .i64 (b*c/18446744073709551616),.int .u64 (b*c % 18446744073709551616),.int .i64 (b*d/18446744073709551616),.int .u64 (b*d % 18446744073709551616)] 69)):=⟨HB.out.trans (hBW.mono (HN.out▸HB.out.size)),c2,cL,cG,cS⟩
 have ltS:nG<w'.heap.size:=by
  have g1:W.heap.size≤u1.heap.size:=hu1.size
  have g2:=hu2.size; have g3:=hbx.size; have g4:=bG.lt
  omega
 clear c2 cL cG cS hBW b0 b1 b2 bL bG c00 c01 c10 c11 l0 l1 HB
 generalize (w'.alloc (.cells #[.int .i64 (a*d/18446744073709551616),.int .u64 (a*d % 18446744073709551616),.int .i64 (b*c/18446744073709551616),.int .u64 (b*c % 18446744073709551616),.int .i64 (b*d/18446744073709551616),.int .u64 (b*d % 18446744073709551616)] 69))=WS at hW ⊢
 generalize w'.heap.size=nS at hW ltS ⊢
 clear hbx hu1 hu2
 go_wp2_with fail
 go_loopw [46] (fun i W=>∃k:Nat,k≤3∧i=.int .i64 k∧tO w n0 n2 nL nG nS [a*d,b*c,b*d] (mR ([a*d,b*c,b*d].take k) (a*c)) (kU ([a*d,b*c,b*d].take k) (a*c)) W) (fun i _=>3 - (intOf i).toNat)
 case atStart=>exact ⟨0,by omega,rfl,hW⟩
 case round =>
  obtain ⟨k,hk,rfl,hR⟩:=hrel
  rcases (show k=3∨k=0∨k=1∨k=2 by omega) with rfl | rfl | rfl | rfl
  ·have hbd:=PV 1329227995784915872903807060280344576 [a*d,b*c,b*d] (a*c)
    (Km (a:=a) (b:=c) (A:=1152921504606846976) (B:=1152921504606846976) (by omega) (by omega) (by omega) (by omega))
    (by
     intro p hp
     simp only [ag,ae,or_false] at hp
     rcases hp with rfl | rfl | rfl<;>exact Km (A:=1152921504606846976) (B:=1152921504606846976) (by omega) (by omega) (by omega) (by omega))
   have hup:=fun w=>aem (kU [a*d,b*c,b*d] (a*c)) w (by omega) (by omega)
   have hdn:=fun w=>Nu (mR [a*d,b*c,b*d] (a*c)) w
   have HM:Hid (∀e w',xC (if okB (mR [a*d,b*c,b*d] (a*c)/65536)&&okB ((kU [a*d,b*c,b*d] (a*c)+65535)/65536) then afq (mR [a*d,b*c,b*d] (a*c)) else 0) (if okB (mR [a*d,b*c,b*d] (a*c)/65536)&&okB ((kU [a*d,b*c,b*d] (a*c)+65535)/65536) then afq (kU [a*d,b*c,b*d] (a*c)+65535) else 0) (okB (mR [a*d,b*c,b*d] (a*c)/65536)&&okB ((kU [a*d,b*c,b*d] (a*c)+65535)/65536)) w e w'→Mt a b c d w e w'):=aG (fun e w' h=>h)
   have hR:tO w n0 n2 nL nG nS [a*d,b*c,b*d] (mR [a*d,b*c,b*d] (a*c)) (kU [a*d,b*c,b*d] (a*c)) wr:=hR
   have Hup:=aG hup
   have Hdn:=aG hdn
   clear hup hdn hbd
   generalize mR [a*d,b*c,b*d] (a*c)=L at hR Hdn HM
   generalize kU [a*d,b*c,b*d] (a*c)=G at hR Hup HM
   generalize afq L=dL at Hdn HM
   generalize afq (G+65535)=dG at Hup HM
   have l0:wr.cell? ⟨nL,0,none⟩=some (.int .i64 (L/18446744073709551616)):=hR.cL.c0
   have l1:wr.cell? ⟨nL,1,none⟩=some (.int .u64 (L % 18446744073709551616)):=hR.cL.c1
   cases o1:okB (L/65536)<;>cases o2:okB ((G+65535)/65536)
   all_goals
    rw [o1] at Hdn
    rw [o2] at Hup
    rw [o1,o2] at HM
    clear o1 o2
    go_wp2_with fail
    refine (Hdn.out _).mono ?_
    rintro e v1 ⟨rfl,hb1⟩
    have hR1:=hR.keep hb1 mL
    have g0:v1.cell? ⟨nG,0,none⟩=some (.int .i64 (G/18446744073709551616)):=hR1.cG.c0
    have g1:v1.cell? ⟨nG,1,none⟩=some (.int .u64 (G % 18446744073709551616)):=hR1.cG.c1
    go_wp2_with fail
    refine (Hup.out _).mono ?_
    rintro e v2 ⟨rfl,hb2⟩
    have hR2:=hR1.keep hb2 mL
    have r0:=hR2.c2.c0
    have r1:=hR2.c2.c1
    have rf0:=hR2.c2.f0
    have rf1:=hR2.c2.f1
    have gW:=hR2.gW
    rw [←HN.out] at gW m2
    go_wp2
    first
     | (refine bodyPost_ret (v:=.tuple #[.agg #[.int .i64 dL,.int .i64 dG],.bool true]) (by simp [results,Tryz.results12,go_sem,r0,r1]) rfl (HM.out _ _ (D5 rfl rfl rfl ?_))
        exact (gW.setCell (p:=⟨n2,0,none⟩) m2 _).setCell (p:=⟨n2,1,none⟩) m2 _)
     | (refine bodyPost_ret (v:=.tuple #[.agg #[.int .i64 0,.int .i64 0],.bool false]) (by simp [results,Tryz.results12,go_sem,r0,r1]) rfl (HM.out _ _ (D5 rfl rfl rfl ?_))
        exact (gW.setCell (p:=⟨n2,0,none⟩) m2 _).setCell (p:=⟨n2,1,none⟩) m2 _)
  all_goals
   first
    | obtain ⟨p,lo,hi,s0,s1,hR,hc⟩:=ahF (k:=0) (i0:=0) (i1:=1) rfl rfl rfl hR
    | obtain ⟨p,lo,hi,s0,s1,hR,hc⟩:=ahF (k:=1) (i0:=2) (i1:=3) rfl rfl rfl hR
    | obtain ⟨p,lo,hi,s0,s1,hR,hc⟩:=ahF (k:=2) (i0:=4) (i1:=5) rfl rfl rfl hR
   have HC:=aG hc
   clear hc
   unfold AP at s0
   unfold J9 at s1
   have cl0:wr.cell? ⟨nL,0,none⟩=some (.int .i64 (lo/18446744073709551616)):=hR.cL.c0
   have cl1:wr.cell? ⟨nL,1,none⟩=some (.int .u64 (lo % 18446744073709551616)):=hR.cL.c1
   have ll:=hR.cL.lt
   have lg:=hR.cG.lt
   have ne1:nL≠nG:=by omega
   have ne2:nG≠nL:=by omega
   have ne3:wr.heap.size≠nL:=by omega
   have ne4:nL≠wr.heap.size:=by omega
   have ne5:wr.heap.size≠nG:=by omega
   have ne6:nG≠wr.heap.size:=by omega
   by_cases t1:p<lo<;>by_cases t2:hi<p
   all_goals
    go_wp2_with fail
    refine (kT _ _ _).mono ?_
    rintro e v1 ⟨rfl,hb1⟩
    have hp:=(iw.new wr (.int .i64 (p/18446744073709551616)) (.int .u64 (p % 18446744073709551616)) 69).keep hb1
    have hR1:=(hR.keep ((aI _ _).alloc (au _) _) mL).keep hb1 mL
    have p0:=hp.c0
    have p1:=hp.c1
    have g0:v1.cell? ⟨nG,0,none⟩=some (.int .i64 (hi/18446744073709551616)):=hR1.cG.c0
    have g1:v1.cell? ⟨nG,1,none⟩=some (.int .u64 (hi % 18446744073709551616)):=hR1.cG.c1
    have l0:v1.cell? ⟨nL,0,none⟩=some (.int .i64 (lo/18446744073709551616)):=hR1.cL.c0
    have l1:v1.cell? ⟨nL,1,none⟩=some (.int .u64 (lo % 18446744073709551616)):=hR1.cL.c1
    have fl0:=hR1.cL.f0
    have fl1:=hR1.cL.f1
    go_wp2_with fail
    refine (kT _ _ _).mono ?_
    rintro e v2 ⟨rfl,hb2⟩
    first
     | (replace hR1:=(hR1.xk mL q2 d1 ltS p).keep hb2 mL; replace hp:=((hp.other ne3 _ _).other ne3 _ _).keep hb2)
     | (replace hR1:=hR1.keep hb2 mL; replace hp:=hp.keep hb2)
    have p20:=hp.c0
    have p21:=hp.c1
    have g20:v2.cell? ⟨nG,0,none⟩=some (.int .i64 (hi/18446744073709551616)):=hR1.cG.c0
    have g21:v2.cell? ⟨nG,1,none⟩=some (.int .u64 (hi % 18446744073709551616)):=hR1.cG.c1
    have fg0:=hR1.cG.f0
    have fg1:=hR1.cG.f1
    go_wp2
    go_roundw
    case rel =>
     first
      | refine ⟨1,by omega,by go_num,HC.out _ ?_⟩
      | refine ⟨2,by omega,by go_num,HC.out _ ?_⟩
      | refine ⟨3,by omega,by go_num,HC.out _ ?_⟩
     first
      | (rw [if_pos t1,if_pos t2]; exact hR1.xh mG q2 d1 ltS p)
      | (rw [if_pos t1,if_neg (by omega)]; exact hR1)
      | (rw [if_neg (by omega),if_pos t2]; exact hR1.xh mG q2 d1 ltS p)
      | (rw [if_neg (by omega),if_neg (by omega)]; exact hR1)
    case measure=>simp [intOf]
end Go.Proofs.En
end
section
namespace Go.Proofs.En
open Go.RowKit
theorem ZJ (a b c d:Int) (w:World) (h:mX a b=false) :
  Calls aa 12 #[.agg #[.int .i64 a,.int .i64 b],.agg #[.int .i64 c,.int .i64 d]] w (xC 0 0 false w):=by
 go_enter Tryz.func12,Tryz.ntmps12
 go_wp2_with fail
 refine (Dy _ _ _).mono ?_
 rintro e w1 ⟨rfl,hb⟩
 obtain ⟨hc,hf⟩:=Ck hb
 go_wp2
 refine bodyPost_ret (v:=.tuple #[.agg #[.int .i64 0,.int .i64 0],.bool false]) (by simp [results,Tryz.results12,go_sem,hc]) rfl (D5 rfl rfl rfl ?_)
 exact ((jD (H9 _ _ _ _) hb).setCell (by simp; omega) _).setCell (by simp; omega) _
theorem ZK (a b c d:Int) (w:World) (h:mX a b=true) (h':mX c d=false) :
  Calls aa 12 #[.agg #[.int .i64 a,.int .i64 b],.agg #[.int .i64 c,.int .i64 d]] w (xC 0 0 false w):=by
 go_enter Tryz.func12,Tryz.ntmps12
 go_wp2_with fail
 refine (Dy _ _ _).mono ?_
 rintro e w1 ⟨rfl,hb⟩
 obtain ⟨hc,hf⟩:=Ck hb
 have z0:w.heap.size<w1.heap.size:=by have:=hb.size; simp at this; omega
 have z1:w.heap.size+1<w1.heap.size:=by have:=hb.size; simp at this; omega
 have z2:w.heap.size+1+1<w1.heap.size:=by have:=hb.size; simp at this; omega
 go_wp2_with fail
 refine (Dy _ _ _).mono ?_
 rintro e w2 ⟨rfl,hb2⟩
 obtain ⟨hc2,hf2⟩:=Ck hb2
 go_wp2
 refine bodyPost_ret (v:=.tuple #[.agg #[.int .i64 0,.int .i64 0],.bool false]) (by simp [results,Tryz.results12,go_sem,hc,hc2,z2]) rfl (D5 rfl rfl rfl ?_)
 exact ((jD (jD (H9 _ _ _ _) hb) hb2).setCell (by simp; omega) _).setCell (by simp; omega) _
end Go.Proofs.En
end
section
namespace Go.Proofs.En
open Go.RowKit
def wT (a b c d:Int):Bool:=mX a b&&mX c d&&zD a b c d
theorem Ns (p:Int) (h:okB (p/65536)=true):afq p=p/65536:=by
 simp only [okB,decide_eq_true_eq] at h
 unfold afq
 rw [if_pos (by omega)]
theorem PS (a b c d:Int):∃lo hi ok,ok=wT a b c d∧(ok=true→lo=mulL a b c d/65536∧hi=(wS a b c d+65535)/65536)∧(ok=false→lo=0∧hi=0) ∧
  ∀w,Calls aa 12 #[.agg #[.int .i64 a,.int .i64 b],.agg #[.int .i64 c,.int .i64 d]] w (xC lo hi ok w):=by
 unfold wT
 cases h1:mX a b with
 | false=>exact ⟨0,0,false,by simp,by simp,by simp,fun w=>ZJ a b c d w h1⟩
 | true =>
  cases h2:mX c d with
  | false=>exact ⟨0,0,false,by simp,by simp,by simp,fun w=>ZK a b c d w h1 h2⟩
  | true =>
   refine ⟨_,_,zD a b c d,by simp,?_,?_,fun w=>ZL a b c d w h1 h2⟩
   ·intro h
    rw [if_pos h,if_pos h]
    simp only [zD,aQ] at h
    exact ⟨Ns _ h.1,Ns _ h.2⟩
   ·intro h
    rw [h]; exact ⟨rfl,rfl⟩
end Go.Proofs.En
end
section
namespace Go.Proofs.En
open Go.RowKit
def wz (w:World) (e:Ending) (w':World):Prop:=e=.returned (.bool true)∧Below w.heap.size w w'
end Go.Proofs.En
end
section
section
namespace Go.Proofs.En
open Go.RowKit
variable {W:World} {b:Nat} {v:Value}
theorem Wx (h:W.cell? ⟨b,0,none⟩=some v):Below W.heap.size W (W.setCell ⟨b,0,none⟩ v):=by
 have h0:(W.setCell ⟨b,0,none⟩ v).heap.size=W.heap.size:=by simp [afg]
 refine ⟨rfl,rfl,rfl,Nat.le_of_eq h0.symm,fun k _=>?_⟩
 by_cases hk:k=b
 ·subst hk
  unfold bS at h
  simp only at h
  simp only [afg,Array.getElem?_modify]
  simp only [if_true]
  cases hb:W.heap[k]? with
  | none=>rfl
  | some o =>
   rw [hb] at h
   cases o with
   | cells c t f =>
    simp only [Option.isSome_none,ajp,if_false] at h
    obtain ⟨h1,h2⟩:=aB.1 h
    simp only [Option.isSome_none,ajp,if_false,Option.map_some]
    congr 2
    apply Array.ext
    ·simp
    ·intro i hi1 hi2
     rw [Array.getElem_setIfInBounds]
     split
     ·rename_i e; subst e; exact h2.symm
     ·rfl
   | _=>simp at h
 ·exact ae0 W ⟨b,0,none⟩ v k hk
structure CB (W:World) (nc:Nat):Prop where
 c:W.cell? ⟨nc,0,none⟩=some (.bool false)
 f:W.frozen? ⟨nc,0,none⟩=false
 lt:nc<W.heap.size
variable {W':World} {nc:Nat}
theorem CB.keep (h:CB W nc) (hb:Below W.heap.size W W'):CB W' nc:=by
 have e:=hb.block nc h.lt
 refine ⟨?_,?_,aC h.lt hb.size⟩
 ·rw [←h.c]; simp [bS,e]
 ·rw [←h.f]; simp [ae2,e]
def Ht (lo hi:Int) (w:World) (e:Ending) (w':World):Prop:=e=.returned (.agg #[.int .i64 lo,.int .i64 hi])∧Below w.heap.size w w'
theorem aac (d:Int) (w:World):Calls aa 51 #[.int .i64 d] w (Ht d d w):=by
 go_enter Tryz.func51,Tryz.ntmps51
 go_wp2
 exact bodyPost_ret (v:=.agg #[.int .i64 d,.int .i64 d]) (by simp [results,Tryz.results51,go_sem]) rfl ⟨rfl,(aI _ _).alloc (au _) _⟩
theorem aej (k:Int) (w:World):Calls aa 52 #[.int .i64 k] w fun e w'=>e=.returned (.bool (decide (1≤k∧k≤3)))∧w=w':=by
 have key:∀b1 b2 b3:Bool,(k==1)=b1→(k==2)=b2→(k==3)=b3 →
   Calls aa 52 #[.int .i64 k] w fun e w'=>e=.returned (.bool (decide (1≤k∧k≤3)))∧w=w':=by
  intro b1 b2 b3 h1 h2 h3
  have hz:Hid (decide (1≤k∧k≤3)=(b1||(b2||b3))):=aG (by
   rw [←h1,←h2,←h3]
   simp only [Bool.decide_and]
   by_cases q1:k=1
   ·subst q1; rfl
   ·by_cases q2:k=2
    ·subst q2; rfl
    ·by_cases q3:k=3
     ·subst q3; rfl
     ·rw [beq_eq_false_iff_ne.2 q1,beq_eq_false_iff_ne.2 q2,beq_eq_false_iff_ne.2 q3]
      by_cases q4:1≤k
      ·rw [decide_eq_false (show ¬k≤3 by omega)]; simp
      ·rw [decide_eq_false q4]; rfl)
  cases b1<;>cases b2<;>cases b3 <;>
  ·rw [hz.out]
   go_enter Tryz.func52,Tryz.ntmps52
   go_wp2
   go_ret
   exact ⟨by simp,rfl⟩
 exact key _ _ _ rfl rfl rfl
theorem Y0 (nc:Nat) (lo hi:Int) (w:World) (hC:CB w nc) :
  Calls aa 89 #[.pointer (some ⟨nc,0,none⟩),.agg #[.int .i64 lo,.int .i64 hi],.bool true] w (Ht lo hi w):=by
 obtain ⟨hc,hf,hlt⟩:=hC
 go_enter Tryz.func89,Tryz.ntmps89
 go_wp2
 have hs:(w.setCell ⟨nc,0,none⟩ (.bool false)).heap.size=w.heap.size:=by simp [afg]
 exact bodyPost_ret (v:=.agg #[.int .i64 lo,.int .i64 hi]) (by simp [results,Tryz.results89,go_sem,hs]) rfl ⟨rfl,((Wx hc).alloc (by omega) _).alloc (by simp [hs]) _⟩
theorem Xn (nc:Nat) (a b c d lo hi:Int) (w:World) (hC:CB w nc)
  (hm:∀w,Calls aa 12 #[.agg #[.int .i64 a,.int .i64 b],.agg #[.int .i64 c,.int .i64 d]] w (xC lo hi true w)) :
  Calls aa 53 #[.pointer (some ⟨nc,0,none⟩),.agg #[.int .i64 a,.int .i64 b],.agg #[.int .i64 c,.int .i64 d]] w (Ht lo hi w):=by
 have HM:=aG hm
 clear hm
 go_enter Tryz.func53,Tryz.ntmps53
 go_wp2_with fail
 refine (HM.out _).mono ?_
 rintro e w1 ⟨rfl,hb1⟩
 have hb0:Below w.heap.size w (((w.alloc (.cells #[.int .i64 a,.int .i64 b] 23)).alloc (.cells #[.int .i64 c,.int .i64 d] 23)).alloc (.cells #[.int .i64 0,.int .i64 0] 23)):=(((aI _ _).alloc (au _) _).alloc (by simp) _).alloc (by simp; omega) _
 have hB:Below w.heap.size w w1:=jD hb0 hb1
 have hC1:=hC.keep hB
 have r6:iw (((w.alloc (.cells #[.int .i64 a,.int .i64 b] 23)).alloc (.cells #[.int .i64 c,.int .i64 d] 23)).alloc (.cells #[.int .i64 0,.int .i64 0] 23)) (w.heap.size+1+1) (.int .i64 0) (.int .i64 0):=⟨by simp [go_sem],by simp [go_sem],by simp [go_sem],by simp [go_sem],by simp⟩
 have r61:=r6.keep hb1
 have n6:w.heap.size≤w.heap.size+1+1:=by omega
 have ne:nc<w.heap.size+1+1:=by have:=hC.lt; omega
 have HB:=aG hB
 clear hb0 hB hb1 r6 hC
 generalize w.heap.size+1+1=m6 at r61 n6 ne ⊢
 go_wp2_with fail
 refine (Y0 nc lo hi _ hC1).mono ?_
 rintro e w2 ⟨rfl,hb2⟩
 have r62:=r61.keep hb2
 have hB2:Hid (Below w.heap.size w w2):=aG (jD HB.out hb2)
 clear r61 HB hb2 hC1
 have k0:=r62.c0; have k1:=r62.c1; have k2:=r62.f0; have k3:=r62.f1; have k4:=r62.lt
 go_wp2
 exact bodyPost_ret (v:=.agg #[.int .i64 lo,.int .i64 hi]) (by simp [results,Tryz.results53,go_sem,k0,k1]) rfl ⟨rfl,(hB2.out.setCell (p:=⟨m6,0,none⟩) n6 _).setCell (p:=⟨m6,1,none⟩) n6 _⟩
end Go.Proofs.En
end
section
namespace Go.Proofs.En
open Go.RowKit
def FX (d:Int):Int:=mulL d d 411774 411775/65536
def FW (d:Int):Int:=(wS d d 411774 411775+65535)/65536
theorem ZH (d:Int) (h1:-8388608≤d) (h2:d≤8388608):-4000000000000≤mulL d d 411774 411775∧mulL d d 411774 411775≤4000000000000:=by
 unfold mulL
 simp only [mR,List.foldl]
 repeat' split
 all_goals omega
theorem ZP (d:Int) (h1:-8388608≤d) (h2:d≤8388608):-4000000000000≤wS d d 411774 411775∧wS d d 411774 411775≤4000000000000:=by
 unfold wS
 simp only [kU,List.foldl]
 repeat' split
 all_goals omega
theorem acB (d:Int) (h1:-8388608≤d) (h2:d≤8388608):wT d d 411774 411775=true:=by
 have a:=ZH d h1 h2
 have b:=ZP d h1 h2
 unfold wT mX zD okB
 simp only [aQ,decide_eq_true_eq]
 refine ⟨⟨by omega,by omega⟩,by omega,by omega⟩
theorem acA (d:Int) (h1:-8388608≤d) (h2:d≤8388608):∀w,Calls aa 12 #[.agg #[.int .i64 d,.int .i64 d],.agg #[.int .i64 411774,.int .i64 411775]] w (xC (FX d) (FW d) true w):=by
 obtain ⟨lo,hi,ok,e1,e2,_,h⟩:=PS d d 411774 411775
 rw [acB d h1 h2] at e1
 subst e1
 obtain ⟨rfl,rfl⟩:=e2 rfl
 exact h
def Bv (k d:Int):Int×Int:=if 1≤k∧k≤3 then (FX d,FW d) else (d,d)
def rH (rs:List (Int×Int)):List (List Value):=rs.map fun r=>[.int .i64 r.1,.int .i64 r.2]
variable {rs:List (Int×Int)} {k:Nat}
theorem K6 {r:Int×Int} (h:rs[k]?=some r):(rH rs)[k]?=some [.int .i64 r.1,.int .i64 r.2]:=by simp [rH,h]
theorem Rf (h:k<rs.length):rH rs≠[]:=by
 intro h0; unfold rH at h0; rw [ag3] at h0; rw [h0] at h; simp at h
end Go.Proofs.En
end
section
namespace Go.Proofs.En
open Go.RowKit
variable {W W':World} {base size n:Nat} {e:TypeId} {v:Value}
theorem yx {xs:List Value} (h:W.ownsRow base e size v n xs) (hb:Below W.heap.size W W'):W'.ownsRow base e size v n xs:=by
 refine ⟨h.1,?_⟩
 rcases h.2 with h0 | ⟨g,cap,cur,hv,hbg,hg,rest⟩
 ·exact .inl h0
 ·have hlt:g<W.heap.size:=by
   rcases cu g W.heap.size with h | h
   ·exact h
   ·rw [afc h] at hg; cases hg
  exact .inr ⟨g,cap,cur,hv,hbg,(hb.block g hlt).trans hg,rest⟩
theorem yh {xs:List Value} (h:W.ownsRow base e size v n xs) (hg:W.grownBy W' v.ownBlock) (hb:base≤W.heap.size):Below base W W':=by
 refine ⟨hg.os,hg.tape,hg.output,hg.size,fun k hk=>hg.block k (by omega) fun e=>?_⟩
 have:=(World.ownsRow.lt h) k e.symm
 omega
variable {b:Nat} {l:List Value}
theorem Row.low (h:Row W b l) (hlt:b<base) (hb:Below base W W'):Row W' b l:=by
 refine ⟨fun j v hj=>?_,aC h.lt hb.size⟩
 rw [←h.c j v hj]
 simp [bS,hb.block b hlt]
variable {nc:Nat}
theorem CB.low (h:CB W nc) (hlt:nc<base) (hb:Below base W W'):CB W' nc:=by
 have e:=hb.block nc hlt
 refine ⟨?_,?_,aC h.lt hb.size⟩
 ·rw [←h.c]; simp [bS,e]
 ·rw [←h.f]; simp [ae2,e]
def ahe (rs:List (Int×Int)):List Value:=rs.flatMap fun r=>[.int .i64 r.1,.int .i64 r.2]
theorem acY (rs:List (Int×Int)) (r:Int×Int):ahe (rs++[r])=ahe rs++[.int .i64 r.1,.int .i64 r.2]:=by simp [ahe]
theorem acX (rs:List (Int×Int)) (k:Nat) (r:Int×Int) (h:rs[k]?=some r):(ahe rs)[k*2]?=some (.int .i64 r.1)∧(ahe rs)[k*2+1]?=some (.int .i64 r.2):=by
 induction rs generalizing k with
 | nil=>simp at h
 | cons a t ih =>
  cases k with
  | zero=>simp at h; subst h; simp [ahe]
  | succ k =>
   simp at h
   have:=ih k h
   have e:(k+1)*2=k*2+2:=by omega
   rw [e]
   simpa [ahe] using this
variable {rs:List (Int×Int)}
theorem aa5 (h:W.ownsRow base e 2 v rs.length (ahe rs)):∃oa cap,v=.slice oa rs.length cap∧Sl W oa 2 (rH rs):=by
 rcases h.2 with ⟨rfl,h0⟩ | ⟨g,cap,cur,rfl,hbg,hg,hn,hm,hs,ht⟩
 ·have:rs=[]:=List.length_eq_zero_iff.1 h0
  subst this
  exact ⟨none,0,rfl,fun h=>absurd rfl h⟩
 ·refine ⟨_,cap,rfl,fun _=>⟨g,0,rfl,?_⟩⟩
  have hlt:g<W.heap.size:=by
   rcases cu g W.heap.size with h | h
   ·exact h
   ·rw [afc h] at hg; cases hg
  have key:∀q u,(ahe rs)[q]?=some u→W.cell? ⟨g,q,none⟩=some u:=by
   intro q u hq
   rw [←ht,dx] at hq
   split at hq
   ·simp [bS,hg]
    simpa using hq
   ·cases hq
  refine ⟨hlt,fun i r hi k u hu=>?_⟩
  unfold rH at hi
  rw [bY] at hi
  cases hr:rs[i]? with
  | none=>rw [hr] at hi; cases hi
  | some rr =>
   rw [hr] at hi
   simp at hi
   subst hi
   have g2:=acX rs i rr hr
   match k,hu with
   | 0,hu=>simp at hu; subst hu; rw [Nat.zero_add]; exact key _ _ g2.1
   | 1,hu=>simp at hu; subst hu; rw [Nat.zero_add]; exact key _ _ g2.2
def alk (js:List JV) (ps qs:List Int) (k:Nat):Int×Int:=match js[k]?,ps[k]?,qs[k]? with
 | some j,some p,some q=>Bv j.kind (q - p)
 | _,_,_=>(0,0)
def gZ (js:List JV) (ps qs:List Int) (k:Nat):List (Int×Int):=(dh k).map (alk js ps qs)
theorem acC (js:List JV) (ps qs:List Int) (k:Nat):(gZ js ps qs k).length=k:=by simp [gZ]
variable {js:List JV} {j:JV}
theorem Pp {k:Int} (h:qY js j k=0):-4194304≤j.lo∧j.hi≤4194304:=by
 unfold qY at h
 have lb:=EX j.kind
 split at h
 ·cases h
 ·split at h
  ·cases h
  ·split at h
   ·cases h
   ·split at h
    ·cases h
    ·split at h
     ·cases h
     ·omega
variable {ps qs:List Int} {k:Nat}
theorem acD {p q:Int} (hj:js[k]?=some j) (hp:ps[k]?=some p) (hq:qs[k]?=some q) :
  gZ js ps qs (k+1)=gZ js ps qs k++[Bv j.kind (q - p)]:=by
 unfold gZ
 rw [List.range_succ,List.map_append]
 simp [alk,hj,hp,hq]
structure RI (w:World) (js:List JV) (ps qs:List Int) (n3:Nat) (rv:List Value) (base k:Nat) (v:Value) (W:World):Prop where
 gW:Below w.heap.size w W
 r3:Row W n3 rv
 own:W.ownsRow base 23 2 v k (ahe (gZ js ps qs k))
 hb:base≤W.heap.size
end Go.Proofs.En
end
section
namespace Go.Proofs.En
open Go.RowKit
theorem Pj:(aa.info? 23).map (fun i=>(i.zero,i.size,i.bytes))=some (some (.agg #[.int .i64 0,.int .i64 0]),2,16):=by kernel_rfl
theorem Me:aa.underlying 60=some (.slice 23):=by kernel_rfl
theorem PZ (W:World) (x y:Value) (n:Nat) (hn:n=W.heap.size):∀(j:Nat) (u:Value),[x,y][j]?=some u→(W.alloc (.cells #[x,y] 23)).cell? ((⟨n,0,none⟩:Addr).add j)=some u:=by
 intro j u hu
 subst hn
 match j,hu with
 | 0,hu=>simp at hu; subst hu; simp [Addr.add]
 | 1,hu=>simp at hu; subst hu; simp [Addr.add]
variable {w wr W W1:World} {js:List JV} {ps qs:List Int} {n3 base k:Nat} {v:Value}
theorem RI.next {rv:List Value} {v':Value} {r:Int×Int} (h:RI w js ps qs n3 rv base k v wr) (hX:Below wr.heap.size wr W) (hw:w.heap.size≤base) (h3:n3<base)
  (hg:W.grownBy W1 v.ownBlock)
  (own':W1.ownsRow base 23 2 v' (k+1) (ahe (gZ js ps qs k)++[.int .i64 r.1,.int .i64 r.2])) (hsn:gZ js ps qs (k+1)=gZ js ps qs k++[r]):RI w js ps qs n3 rv base (k+1) v' W1:=by
 have hbW:=aZ h.hb hX.size
 have hB:=yh (yx h.own hX) hg hbW
 refine ⟨(jD h.gW hX).trans (hB.mono hw),(h.r3.keep hX).low h3 hB,?_,aZ hbW hg.size⟩
 rw [hsn,acY]
 exact own'
variable {W':World} {bp op bq oq:Nat} {p q:Value}
theorem um (l1:bp<wr.heap.size) (l2:bq<wr.heap.size) (h:W.cell? ⟨bp,op,none⟩=some p∧W.cell? ⟨bq,oq,none⟩=some q∧Below wr.heap.size wr W) (hb:Below W.heap.size W W') :
  W'.cell? ⟨bp,op,none⟩=some p∧W'.cell? ⟨bq,oq,none⟩=some q∧Below wr.heap.size wr W' :=
 ⟨(hb.cell (p:=⟨bp,op,none⟩) (aC l1 h.2.2.size)).trans h.1,(hb.cell (p:=⟨bq,oq,none⟩) (aC l2 h.2.2.size)).trans h.2.1,jD h.2.2 hb⟩
end Go.Proofs.En
end
section
namespace Go.Proofs.En
open Go.RowKit
variable {W:World} {bp op bq oq:Nat} {p q:Value}
theorem ahy {V:World} (l1:bp<V.heap.size) (l2:bq<V.heap.size) (i:Nat) (u:Value) (h:W.cell? ⟨bp,op,none⟩=some p∧W.cell? ⟨bq,oq,none⟩=some q∧Below V.heap.size V W) :
  (W.setCell ⟨V.heap.size,i,none⟩ u).cell? ⟨bp,op,none⟩=some p∧(W.setCell ⟨V.heap.size,i,none⟩ u).cell? ⟨bq,oq,none⟩=some q∧Below V.heap.size V (W.setCell ⟨V.heap.size,i,none⟩ u):=by
 have e:∀k,k≠V.heap.size→(W.setCell ⟨V.heap.size,i,none⟩ u).heap[k]?=W.heap[k]?:=fun k hk=>ae0 W ⟨V.heap.size,i,none⟩ u k hk
 refine ⟨?_,?_,h.2.2.setCell (p:=⟨V.heap.size,i,none⟩) (au _) _⟩
 ·rw [←h.1]; simp [bS,e bp (by omega)]
 ·rw [←h.2.1]; simp [bS,e bq (by omega)]
end Go.Proofs.En
end
section
namespace Go.Proofs.En
open Go.RowKit
end Go.Proofs.En
end
section
namespace Go.Proofs.En
open Go.RowKit
structure Src (W:World) (nS:Nat) (os:Option Addr) (cap:Nat) (xs:List Int):Prop where
 box:∃k:Nat,k≤xs.length∧iw W nS (.slice os xs.length cap) (.int .i64 k)
 ints:Sl W os 1 (fF xs)
 off:xs≠[]→∀b o s,os=some ⟨b,o,s⟩→b≠nS
 len:xs.length≤9223372036854775807
variable {a:World} {r:Option Nat}
theorem yj {b c:World} (h:a.grownBy b r) (k:b.grownBy c r):a.grownBy c r :=
 ⟨k.os.trans h.os,k.tape.trans h.tape,k.output.trans h.output,aZ h.size k.size,fun i hi hn=>(k.block i (aC hi h.size) hn).trans (h.block i hi hn)⟩
theorem zy {b:World} (h:Below a.heap.size a b):a.grownBy b r:=⟨h.os,h.tape,h.output,h.size,fun k hk _=>h.block k hk⟩
theorem Pg (a:World) (n i:Nat) (v:Value):a.grownBy (a.setCell ⟨n,i,none⟩ v) (some n) :=
 ⟨rfl,rfl,rfl,by simp [afg],fun k _ hn=>ae0 a ⟨n,i,none⟩ v k (fun e=>hn (by rw [e]))⟩
variable {w:World} {b n nS:Nat}
theorem uJ.rF {w':World} {off:Nat} {l:List (List Value)} (h:uJ w b off n l) (hg:w.grownBy w' (some nS)) (hne:b≠nS):uJ w' b off n l :=
 ⟨aC h.lt hg.size,fun i r hi k v hv=>by
  rw [←h.c i r hi k v hv]
  simp [bS,hg.block b h.lt (fun e=>hne (by injection e))]⟩
set_option maxRecDepth 100000 in
theorem oQ (W:World) (nS:Nat) (os:Option Addr) (cap:Nat) (xs:List Int) (n:Int) (hS:Src W nS os cap xs) (h1:1≤n) (h2:n≤1000000000000) :
  Calls aa 38 #[.pointer (some ⟨nS,0,none⟩),.int .i64 n] W (fun e W'=>∃r:Int,0≤r∧r<n∧e=.returned (.int .i64 r)∧W.grownBy W' (some nS)∧Src W' nS os cap xs):=by
 obtain ⟨⟨k,hk,hc⟩,hints,hoff,hlen⟩:=hS
 have k0:=hc.c0; have k1:=hc.c1; have k2:=hc.f0; have k3:=hc.f1; have k4:=hc.lt
 by_cases hlt:k<xs.length
 ·have hlt':decide ((xs.length:Int)≤(k:Int))=false:=decide_eq_false (by omega)
  have hlt'':decide (xs.length≤k)=false:=decide_eq_false (by omega)
  obtain ⟨x,hx⟩:∃x,xs[k]?=some x:=⟨_,ah hlt⟩
  obtain ⟨b,off,rfl,hr⟩:=hints (kX hlt)
  have hbne:=hoff (by intro h; subst h; simp at hlt) b off none rfl
  go_enter Tryz.func38,Tryz.ntmps38
  go_wp2_with fail
  go_quiet (fail)
  have hcV:=hc.keep (vG W nq)
  have hrV:=hr.keep (vG W nq)
  have hgV:W.grownBy (W.drewN nq) (some nS):=zy (vG W nq)
  clear k0 k1 k2 k3 k4
  generalize W.drewN nq=V at hcV hrV hgV ⊢
  have k0:=hcV.c0; have k1:=hcV.c1; have k2:=hcV.f0; have k3:=hcV.f1; have k4:=hcV.lt
  go_wp2_with fail
  have hcX:iw (V.setCell ⟨nS,1,none⟩ (.int .i64 ((k:Int)+1))) nS (.slice (some ⟨b,off,none⟩) xs.length cap) (.int .i64 ((k:Int)+1)):=hcV.acx _
  have hgX:=yj hgV (Pg V nS 1 (.int .i64 ((k:Int)+1)))
  have hrX:=hrV.rF (Pg V nS 1 (.int .i64 ((k:Int)+1))) hbne
  clear k0 k1 k2 k3 k4 hcV hrV hgV
  generalize (V.setCell ⟨nS,1,none⟩ (.int .i64 ((k:Int)+1)))=X at hcX hgX hrX ⊢
  have k0:=hcX.c0; have k1:=hcX.c1; have k2:=hcX.f0; have k3:=hcX.f1; have k4:=hcX.lt
  have x0:X.cell? ⟨b,off+k,none⟩=some (.int .i64 x):=by have:=hrX.c k _ (yz hx) 0 _ rfl; simpa using this
  have hw1:bg.wrap ((k:Int)+1 - 1)=(k:Int):=by rw [dz _ (by omega)]; omega
  have hw2:bg.wrap (k:Int)=(k:Int):=dz _ (by omega)
  have HC:Hid (∀w,Calls aa 14 #[.int .i64 x,.int .i64 n] w fun e w'=>e=.returned (.int .i64 (x % n))∧w'=w):=aG (fun w=>(ac3 x n w (by omega) (by omega)).mono fun _ _ ⟨h,h'⟩=>⟨h,h'.symm⟩)
  have hr0:0≤x % n:=amL _ (by omega)
  have hr1:x % n<n:=Int.emod_lt_of_pos _ (by omega)
  have HR0:=aG hr0
  have HR1:=aG hr1
  clear hr0 hr1
  go_quiet ((go_at_call 14; exact Calls.quiet_of_same (HC.out _)))
  have hcY:=hcX.keep (vG X nq)
  have hrY:=hrX.keep (vG X nq)
  have hgY:=yj hgX (zy (vG X nq))
  clear k0 k1 k2 k3 k4 x0 hw1 hw2
  generalize X.drewN nq=Y at hcY hrY hgY ⊢
  go_wp2
  go_ret
  exact ⟨x % n,HR0.out,HR1.out,rfl,hgY,⟨⟨k+1,by omega,hcY⟩,fun _=>⟨b,off,rfl,hrY⟩,hoff,hlen⟩⟩
 ·have hlt':decide ((xs.length:Int)≤(k:Int))=true:=decide_eq_true (by omega)
  have hlt'':decide (xs.length≤k)=true:=decide_eq_true (by omega)
  go_enter Tryz.func38,Tryz.ntmps38
  go_wp2_with fail
  go_quiet (fail)
  have hcV:=hc.keep (vG W nq)
  have AP:=hints.keep (vG W nq)
  have hgV:W.grownBy (W.drewN nq) (some nS):=zy (vG W nq)
  clear k0 k1 k2 k3 k4
  generalize W.drewN nq=V at hcV AP hgV ⊢
  go_wp2
  go_ret
  exact ⟨0,by omega,by omega,rfl,hgV,⟨⟨k,hk,hcV⟩,AP,hoff,hlen⟩⟩
end Go.Proofs.En
end
section
namespace Go.Proofs.En
open Go.RowKit
def Vw (W:World) (nS:Nat) (os:Option Addr) (cap:Nat) (xs:List Int) (lo hi:Int) (e:Ending) (W':World):Prop:=∃r:Int,lo≤r∧r≤hi∧e=.returned (.int .i64 r)∧W.grownBy W' (some nS)∧Src W' nS os cap xs
theorem O8 (os:Option Addr) (cap n:Nat) (w:World):Calls aa 37 #[.slice os n cap] w (fun e w'=>e=.returned (.pointer (some ⟨w.heap.size,0,none⟩))∧w'=w.alloc (.cells #[.slice os n cap,.int .i64 0] 120)):=by
 go_enter Tryz.func37,Tryz.ntmps37
 go_wp2
 go_ret
 exact ⟨rfl,rfl⟩
theorem GG (W:World) (nS:Nat) (os:Option Addr) (cap:Nat) (xs:List Int) (n:Int) (hS:Src W nS os cap xs) (h1:0≤n) (h2:n≤1000000) :
  Calls aa 62 #[.pointer (some ⟨nS,0,none⟩),.int .i64 n] W (Vw W nS os cap xs (-n) n):=by
 go_enter Tryz.func62,Tryz.ntmps62
 go_wp2_with fail
 refine (oQ W nS os cap xs _ hS (by omega) (by omega)).mono ?_
 rintro e W1 ⟨r,r1,r2,rfl,hg,hS1⟩
 go_wp2
 go_ret
 exact ⟨r - n,by omega,by omega,rfl,hg,hS1⟩
def nm (i:Int):ByteArray:=⟨#[(97+i).toNat.toUInt8]⟩
theorem Y9 (i:Int) (w:World) (h1:0≤i) (h2:i≤3):Calls aa 46 #[.int .i64 i] w (fun e w'=>e=.returned (.string (nm i))∧w'=w):=by
 rcases (show i=0∨i=1∨i=2∨i=3 by omega) with rfl | rfl | rfl | rfl
 all_goals
  go_enter Tryz.func46,Tryz.ntmps46
  go_wp2
  go_ret
  exact ⟨by kernel_rfl,rfl⟩
end Go.Proofs.En
end
section
namespace Go.Proofs.En
open Go.RowKit
structure eG (W:World) (b:Nat) (l:List Value):Prop where
 c:∀i v,l[i]?=some v→W.cell? ⟨b,i,none⟩=some v
 f:∀i,W.frozen? ⟨b,i,none⟩=false
 lt:b<W.heap.size
theorem eG.new (W:World) (l:List Value) (t:TypeId):eG (W.alloc (.cells l.toArray t)) W.heap.size l:=by
 refine ⟨fun j v hj=>?_,fun i=>?_,by simp⟩
 ·exact (Row.new W l t).c j v hj
 ·simp
variable {W W':World} {b:Nat} {l:List Value}
theorem eG.keep (h:eG W b l) (hb:Below W.heap.size W W'):eG W' b l:=by
 have e:=hb.block b h.lt
 refine ⟨fun i v hi=>?_,fun i=>?_,aC h.lt hb.size⟩
 ·rw [←h.c i v hi]; simp [bS,e]
 ·rw [←h.f i]; simp [ae2,e]
variable {nS:Nat}
theorem eG.rF (h:eG W b l) (hg:W.grownBy W' (some nS)) (hne:b≠nS):eG W' b l:=by
 have e:=hg.block b h.lt (fun e=>hne (by injection e))
 refine ⟨fun i v hi=>?_,fun i=>?_,aC h.lt hg.size⟩
 ·rw [←h.c i v hi]; simp [bS,e]
 ·rw [←h.f i]; simp [ae2,e]
theorem eG.put (h:eG W b l) (i:Nat) (v:Value):eG (W.setCell ⟨b,i,none⟩ v) b (l.set i v):=by
 refine ⟨fun j u hj=>?_,fun j=>?_,by have:=h.lt; simp [afg]; exact this⟩
 ·rw [List.getElem?_set] at hj
  by_cases e:i=j
  ·subst e
   simp at hj
   obtain ⟨hl,rfl⟩:=hj
   have:=h.c i _ (ah hl)
   simp [go_sem,this]
  ·rw [if_neg e] at hj
   have:=h.c j u hj
   rw [←this]
   simp [go_sem]
 ·have:=h.f j
  simp [go_sem,this]
variable {os:Option Addr} {cap:Nat} {xs:List Int}
theorem Src.yl (h:Src W nS os cap xs) (hb:Below W.heap.size W W'):Src W' nS os cap xs:=by
 obtain ⟨⟨k,hk,hc⟩,hi,ho,hl⟩:=h
 exact ⟨⟨k,hk,hc.keep hb⟩,hi.keep hb,ho,hl⟩
theorem GM (h:Src W nS os cap xs):nS<W.heap.size:=by
 obtain ⟨⟨k,hk,hc⟩,_⟩:=h
 exact hc.lt
structure MJ (w:World) (nS n4 n5:Nat) (os:Option Addr) (cap:Nat) (xs:List Int) (j:JV) (W:World):Prop where
 gr:w.grownBy W (some nS)
 src:Src W nS os cap xs
 b4:∃l:List Value,l.length=12∧eG W n4 l
 b5:eG W n5 j.vals
 h4:n4≠nS
 h5:n5≠nS
 w4:w.heap.size≤n4
 w5:w.heap.size≤n5
 i0:Sl w os 1 (fF xs)
 n45:n4≠n5
variable {w:World} {n4 n5:Nat} {j:JV}
theorem MJ.next (h:MJ w nS n4 n5 os cap xs j W) (hg:W.grownBy W' (some nS)) (hS:Src W' nS os cap xs):MJ w nS n4 n5 os cap xs j W':=by
 obtain ⟨l,hl,hb⟩:=h.b4
 exact ⟨yj h.gr hg,hS,⟨l,hl,hb.rF hg h.h4⟩,h.b5.rF hg h.h5,h.h4,h.h5,h.w4,h.w5,h.i0,h.n45⟩
theorem MJ.put {w W:World} {nS n4 n5:Nat} {os:Option Addr} {cap:Nat} {xs:List Int} {j j':JV} (h:MJ w nS n4 n5 os cap xs j W) (i:Nat) (v:Value) (hv:j'.vals=j.vals.set i v):MJ w nS n4 n5 os cap xs j' (W.setCell ⟨n5,i,none⟩ v):=by
 have e:∀k,k≠n5→(W.setCell ⟨n5,i,none⟩ v).heap[k]?=W.heap[k]?:=fun k hk=>ae0 W ⟨n5,i,none⟩ v k hk
 have hsz:(W.setCell ⟨n5,i,none⟩ v).heap.size=W.heap.size:=by simp [afg]
 have w5:=h.w5
 obtain ⟨l,hl,b4⟩:=h.b4
 obtain ⟨⟨k,hk,hc⟩,hi,ho,hln⟩:=h.src
 have h5:=h.h5
 have n45:=h.n45
 refine ⟨⟨h.gr.os,h.gr.tape,h.gr.output,by rw [hsz]; exact h.gr.size,fun q hq hn=>(e q (by omega)).trans (h.gr.block q hq hn)⟩,⟨⟨k,hk,hc.other (fun e=>h5 e.symm) _ _⟩,?_,ho,hln⟩,⟨l,hl,?_⟩,by rw [hv]; exact h.b5.put i v,h.h4,h.h5,h.w4,h.w5,h.i0,h.n45⟩
 ·intro hne
  obtain ⟨b,off,e1,hr⟩:=hi hne
  obtain ⟨b',off',e1',hr'⟩:=h.i0 hne
  rw [e1] at e1'
  injection e1' with e1'
  injection e1' with e1' _ _
  have hlt:=hr'.lt
  refine ⟨b,off,e1,⟨by rw [hsz]; exact hr.lt,fun i' r hr1 k' v' hv'=>?_⟩⟩
  rw [←hr.c i' r hr1 k' v' hv']
  simp [bS,e b (by omega)]
 ·refine ⟨fun q u hu=>?_,fun q=>?_,by rw [hsz]; exact b4.lt⟩
  ·rw [←b4.c q u hu]; simp [bS,e n4 n45]
  ·rw [←b4.f q]; simp [ae2,e n4 n45]
theorem MJ.uz (h:MJ w nS n4 n5 os cap xs j W) (i:Nat) (v:Value):MJ w nS n4 n5 os cap xs j (W.setCell ⟨n4,i,none⟩ v):=by
 have e:∀k,k≠n4→(W.setCell ⟨n4,i,none⟩ v).heap[k]?=W.heap[k]?:=fun k hk=>ae0 W ⟨n4,i,none⟩ v k hk
 have hsz:(W.setCell ⟨n4,i,none⟩ v).heap.size=W.heap.size:=by simp [afg]
 have w4:=h.w4
 obtain ⟨l,hl,b4⟩:=h.b4
 obtain ⟨⟨k,hk,hc⟩,hi,ho,hln⟩:=h.src
 have h4:=h.h4
 have n45:=h.n45
 have b5:=h.b5
 refine ⟨⟨h.gr.os,h.gr.tape,h.gr.output,by rw [hsz]; exact h.gr.size,fun q hq hn=>(e q (by omega)).trans (h.gr.block q hq hn)⟩,⟨⟨k,hk,hc.other (fun e=>h4 e.symm) _ _⟩,?_,ho,hln⟩,⟨l.set i v,by simpa using hl,b4.put i v⟩,?_,h.h4,h.h5,h.w4,h.w5,h.i0,h.n45⟩
 ·intro hne
  obtain ⟨b,off,e1,hr⟩:=hi hne
  obtain ⟨b',off',e1',hr'⟩:=h.i0 hne
  rw [e1] at e1'
  injection e1' with e1'
  injection e1' with e1' _ _
  have hlt:=hr'.lt
  refine ⟨b,off,e1,⟨by rw [hsz]; exact hr.lt,fun i' r hr1 k' v' hv'=>?_⟩⟩
  rw [←hr.c i' r hr1 k' v' hv']
  simp [bS,e b (by omega)]
 ·refine ⟨fun q u hu=>?_,fun q=>?_,by rw [hsz]; exact b5.lt⟩
  ·rw [←b5.c q u hu]; simp [bS,e n5 (fun e=>n45 e.symm)]
  ·rw [←b5.f q]; simp [ae2,e n5 (fun e=>n45 e.symm)]
structure GJ (i:Int) (j:JV):Prop where
 name:j.name=nm i
 kind:0≤j.kind∧j.kind≤5
 parent:-1≤j.parent∧j.parent≤i - 1
 off:(-4194304≤j.o0∧j.o0≤4194304)∧(-4194304≤j.o1∧j.o1≤4194304)∧(-4194304≤j.o2∧j.o2≤4194304)
 lim:(-oI j.kind≤j.lo∧j.lo≤0)∧(0≤j.hi∧j.hi≤oI j.kind)
 weight:1≤j.weight∧j.weight≤4
 speed:j.speed=65536
 iL:65536≤j.iL∧j.iL≤65538
 iO:j.iO=327680
theorem tdl (a:Int) (h1:0≤a) (h2:a<5):-524288≤(-a*65536).tdiv 8∧(-a*65536).tdiv 8≤0:=by
 rcases (show a=0∨a=1∨a=2∨a=3∨a=4 by omega) with rfl | rfl | rfl | rfl | rfl<;>decide
theorem MJ.KT {i:Int} (h:MJ w nS n4 n5 os cap xs j W) (hG:GJ i j) (x y:Int) (hx:-oI j.kind≤x∧x≤0) (hy:0≤y∧y≤oI j.kind):∃j',GJ i j'∧MJ w nS n4 n5 os cap xs j' ((W.setCell ⟨n5,6,none⟩ (.int .i64 x)).setCell ⟨n5,7,none⟩ (.int .i64 y)) :=
 ⟨{ j with lo:=x,hi:=y },⟨hG.name,hG.kind,hG.parent,hG.off,⟨hx,hy⟩,hG.weight,hG.speed,hG.iL,hG.iO⟩,(h.put (j':={ j with lo:=x }) 6 _ rfl).put 7 _ rfl⟩
set_option maxRecDepth 100000 in
theorem YG (w:World) (nS:Nat) (os:Option Addr) (cap:Nat) (xs:List Int) (i:Int) (hS:Src w nS os cap xs) (h1:0≤i) (h2:i≤3) :
  Calls aa 61 #[.pointer (some ⟨nS,0,none⟩),.int .i64 i] w (fun e W'=>∃j:JV,GJ i j∧e=.returned (.agg j.vals.toArray)∧w.grownBy W' (some nS)∧Src W' nS os cap xs):=by
 go_enter Tryz.func61,Tryz.ntmps61
 go_wp2_with fail
 refine (Y9 i _ h1 h2).mono ?_
 rintro e w1 ⟨rfl,rfl⟩
 generalize hs:nm i=s
 have HS:=aG hs
 clear hs
 go_wp2_with fail
 have hba:Below w.heap.size w (w.alloc (.cells #[.string ⟨#[]⟩,.int .i64 0,.int .i64 0,.int .i64 0,.int .i64 0,.int .i64 0,.int .i64 0,.int .i64 0,.int .i64 0,.int .i64 0,.int .i64 0,.int .i64 0] 80)):=(aI _ _).alloc (au _) _
 have b4:=eG.new w [.string ⟨#[]⟩,.int .i64 0,.int .i64 0,.int .i64 0,.int .i64 0,.int .i64 0,.int .i64 0,.int .i64 0,.int .i64 0,.int .i64 0,.int .i64 0,.int .i64 0] 80
 have hS0:=hS.yl hba
 have g0:w.grownBy (w.alloc (.cells #[.string ⟨#[]⟩,.int .i64 0,.int .i64 0,.int .i64 0,.int .i64 0,.int .i64 0,.int .i64 0,.int .i64 0,.int .i64 0,.int .i64 0,.int .i64 0,.int .i64 0] 80)) (some nS):=zy hba
 have ne4:w.heap.size≠nS:=by have:=GM hS; omega
 clear hba
 generalize (w.alloc (.cells #[.string ⟨#[]⟩,.int .i64 0,.int .i64 0,.int .i64 0,.int .i64 0,.int .i64 0,.int .i64 0,.int .i64 0,.int .i64 0,.int .i64 0,.int .i64 0,.int .i64 0] 80))=W0 at b4 hS0 g0 ⊢
 generalize hn4:w.heap.size=n4 at b4 ne4 ⊢
 have HN4:=aG hn4
 clear hn4
 refine (oQ _ nS os cap xs 4 hS0 (by omega) (by omega)).mono ?_
 rintro e W1 ⟨r,r1,r2,rfl,hg1,hS1⟩
 have b41:=b4.rF hg1 ne4
 have g1:=yj g0 hg1
 clear b4 g0 hg1 hS0
 go_wp2_with fail
 refine (oQ _ nS os cap xs 3 hS1 (by omega) (by omega)).mono ?_
 rintro e W2 ⟨q,q1,q2,rfl,hg2,hS2⟩
 have b42:=b41.rF hg2 ne4
 have g2:=yj g1 hg2
 clear b41 g1 hg2 hS1
 go_wp2_with fail
 have hba:Below W2.heap.size W2 (W2.alloc (.cells #[.string s,.int .i64 0,.int .i64 (i - 1),.int .i64 0,.int .i64 0,.int .i64 0,.int .i64 0,.int .i64 0,.int .i64 (1+r),.int .i64 65536,.int .i64 (65536+q),.int .i64 327680] 80)):=(aI _ _).alloc (au _) _
 have hM:MJ w nS n4 W2.heap.size os cap xs ⟨s,0,i - 1,0,0,0,0,0,1+r,65536,65536+q,327680⟩ (W2.alloc (.cells #[.string s,.int .i64 0,.int .i64 (i - 1),.int .i64 0,.int .i64 0,.int .i64 0,.int .i64 0,.int .i64 0,.int .i64 (1+r),.int .i64 65536,.int .i64 (65536+q),.int .i64 327680] 80)) :=
  ⟨yj g2 (zy hba),hS2.yl hba,⟨_,rfl,b42.keep hba⟩,eG.new W2 [.string s,.int .i64 0,.int .i64 (i - 1),.int .i64 0,.int .i64 0,.int .i64 0,.int .i64 0,.int .i64 0,.int .i64 (1+r),.int .i64 65536,.int .i64 (65536+q),.int .i64 327680] 80,ne4,by have:=GM hS2; omega,by rw [HN4.out]; exact au _,g2.size,hS.ints,by have:=b42.lt; omega⟩
 clear hba g2 hS2 b42 hS
 generalize (W2.alloc (.cells #[.string s,.int .i64 0,.int .i64 (i - 1),.int .i64 0,.int .i64 0,.int .i64 0,.int .i64 0,.int .i64 0,.int .i64 (1+r),.int .i64 65536,.int .i64 (65536+q),.int .i64 327680] 80))=W3 at hM ⊢
 generalize W2.heap.size=n5 at hM ⊢
 have hwt:1≤1+r∧1+r≤4:=by omega
 have hac:65536≤65536+q∧65536+q≤65538:=by omega
 have hpa:-1≤i - 1∧i - 1≤i - 1:=by omega
 have HWT:=aG hwt
 have HAC:=aG hac
 have HPA:=aG hpa
 clear hwt hac hpa
 generalize 1+r=wt at hM HWT ⊢
 generalize 65536+q=ac at hM HAC ⊢
 generalize hpv:i - 1=pa at hM ⊢
 have HPA:Hid (-1≤pa∧pa≤i - 1):=aG (by rw [←hpv]; exact HPA.out)
 clear hpv
 refine (oQ _ nS os cap xs 8 hM.src (by omega) (by omega)).mono ?_
 rintro e W4 ⟨t,t1,t2,rfl,hg4,hS4⟩
 replace hM:=hM.next hg4 hS4
 clear hg4 hS4
 have hix:∃kd:Int,(0≤kd∧kd≤5)∧∀w,(aeV 152 (.agg #[.int .i64 3,.int .i64 3,.int .i64 1,.int .i64 2,.int .i64 4,.int .i64 5,.int .i64 3,.int .i64 0]) (.int .i64 t)).run aa w=.ok (.int .i64 kd) w:=by
  rcases (show t=0∨t=1∨t=2∨t=3∨t=4∨t=5∨t=6∨t=7 by omega) with rfl | rfl | rfl | rfl | rfl | rfl | rfl | rfl
  ·exact ⟨3,by omega,fun _=>by kernel_rfl⟩
  ·exact ⟨3,by omega,fun _=>by kernel_rfl⟩
  ·exact ⟨1,by omega,fun _=>by kernel_rfl⟩
  ·exact ⟨2,by omega,fun _=>by kernel_rfl⟩
  ·exact ⟨4,by omega,fun _=>by kernel_rfl⟩
  ·exact ⟨5,by omega,fun _=>by kernel_rfl⟩
  ·exact ⟨3,by omega,fun _=>by kernel_rfl⟩
  ·exact ⟨0,by omega,fun _=>by kernel_rfl⟩
 obtain ⟨kd,hkd,hix⟩:=hix
 have HKD:=aG hkd
 clear hkd
 have c1:=hM.b5.c 1 _ rfl
 have f1:=hM.b5.f 1
 go_wp2_with fail
 have hM5:=hM.put (j':=⟨s,kd,pa,0,0,0,0,0,wt,65536,ac,327680⟩) 1 (.int .i64 kd) rfl
 clear hM c1 f1 hix
 generalize W4.setCell ⟨n5,1,none⟩ (.int .i64 kd)=W5 at hM5 ⊢
 refine (oQ _ nS os cap xs 4 hM5.src (by omega) (by omega)).mono ?_
 rintro e W6 ⟨u,u1,u2,rfl,hg6,hS6⟩
 have hM:=hM5.next hg6 hS6
 clear hg6 hS6 hM5
 have hG:GJ i ⟨s,kd,pa,0,0,0,0,0,wt,65536,ac,327680⟩:=⟨HS.out.symm,HKD.out,HPA.out,by simp,by have:=EX kd; simp; omega,HWT.out,rfl,HAC.out,rfl⟩
 clear HS HKD HPA HWT HAC
 generalize hjj:(⟨s,kd,pa,0,0,0,0,0,wt,65536,ac,327680⟩:JV)=jj at hM hG
 clear hjj
 have c2:W6.cell? ⟨n5,2,none⟩=some (.int .i64 jj.parent):=hM.b5.c 2 _ rfl
 have f2:=hM.b5.f 2
 have l5:=hM.b5.lt
 go_upto_if 24 with fail
 go_cut [] (fun W=>∃j,GJ i j∧MJ w nS n4 n5 os cap xs j W)
 case first =>
  go_wp2_with fail
  ·go_meet
   exact ⟨{ jj with parent:=-1 },⟨hG.name,hG.kind,by simp; omega,hG.off,hG.lim,hG.weight,hG.speed,hG.iL,hG.iO⟩,hM.put (j':={ jj with parent:=-1 }) 2 _ rfl⟩
  ·go_meet
   exact ⟨_,hG,hM⟩
 case rest =>
  clear hM hG c2 f2 l5
  obtain ⟨j1,hG,hM⟩:=hcut
  go_upto_if 27 with fail
  go_cut [] (fun W=>∃j,GJ i j∧MJ w nS n4 n5 os cap xs j W)
  case first =>
   by_cases hi0:0<i
   ·go_wp2_with fail
    refine (GG _ nS os cap xs 2 hM.src (by omega) (by omega)).mono ?_
    rintro e V1 ⟨a1,a11,a12,rfl,hg,hS⟩
    replace hM:=hM.next hg hS
    clear hg hS
    go_wp2_with fail
    refine (GG _ nS os cap xs 1 hM.src (by omega) (by omega)).mono ?_
    rintro e V2 ⟨a2,a21,a22,rfl,hg,hS⟩
    replace hM:=hM.next hg hS
    clear hg hS
    have c3:V2.cell? ⟨n5,3,none⟩=some (.int .i64 j1.o0):=hM.b5.c 3 _ rfl
    have c4:V2.cell? ⟨n5,4,none⟩=some (.int .i64 j1.o1):=hM.b5.c 4 _ rfl
    have c5:V2.cell? ⟨n5,5,none⟩=some (.int .i64 j1.o2):=hM.b5.c 5 _ rfl
    have f3:=hM.b5.f 3
    have f4:=hM.b5.f 4
    have f5:=hM.b5.f 5
    go_wp2_with fail
    go_meet
    exact ⟨{ j1 with o0:=131072,o1:=a1*32768,o2:=a2*32768 },⟨hG.name,hG.kind,hG.parent,by simp; omega,hG.lim,hG.weight,hG.speed,hG.iL,hG.iO⟩,((hM.put (j':={ j1 with o0:=131072 }) 3 _ rfl).put (j':={ j1 with o0:=131072,o1:=a1*32768 }) 4 _ rfl).put (j':={ j1 with o0:=131072,o1:=a1*32768,o2:=a2*32768 }) 5 _ rfl⟩
   ·go_wp2_with fail
    go_meet
    exact ⟨_,hG,hM⟩
  case rest =>
   clear hM hG
   obtain ⟨j2,hG,hM⟩:=hcut
   have c1:wc.cell? ⟨n5,1,none⟩=some (.int .i64 j2.kind):=hM.b5.c 1 _ rfl
   have l5:=hM.b5.lt
   go_upto_block 0 with fail
   go_cut [] (fun W=>∃j,GJ i j∧MJ w nS n4 n5 os cap xs j W)
   case first =>
    by_cases q0:j2.kind=0
    ·have q0':(j2.kind==0)=true:=by rw [q0]; rfl
     go_wp2_with fail
     go_meet
     exact ⟨_,hG,hM⟩
    ·have q0':(j2.kind==0)=false:=beq_eq_false_iff_ne.2 q0
     by_cases q4:j2.kind=4
     ·have q4':(j2.kind==4)=true:=by rw [q4]; rfl
      have hlim:oI j2.kind=4194304:=by rw [q4]; rfl
      clear q4
      go_wp2_with fail
      refine (oQ _ nS os cap xs 3 hM.src (by omega) (by omega)).mono ?_
      rintro e V1 ⟨a,a1,a2,rfl,hg,hS⟩
      replace hM:=hM.next hg hS
      clear hg hS
      go_wp2_with fail
      refine (oQ _ nS os cap xs 4 hM.src (by omega) (by omega)).mono ?_
      rintro e V2 ⟨b,b1,b2,rfl,hg,hS⟩
      replace hM:=hM.next hg hS
      clear hg hS
      have c6:V2.cell? ⟨n5,6,none⟩=some (.int .i64 j2.lo):=hM.b5.c 6 _ rfl
      have c7:V2.cell? ⟨n5,7,none⟩=some (.int .i64 j2.hi):=hM.b5.c 7 _ rfl
      have f6:=hM.b5.f 6
      have f7:=hM.b5.f 7
      have l5':=hM.b5.lt
      go_wp2_with fail
      go_meet
      exact hM.KT hG _ _ (by omega) (by omega)
     ·have q4':(j2.kind==4)=false:=beq_eq_false_iff_ne.2 q4
      by_cases q5:j2.kind=5
      ·have q5':(j2.kind==5)=true:=by rw [q5]; rfl
       have hlim:oI j2.kind=4194304:=by rw [q5]; rfl
       clear q5
       go_wp2_with fail
       refine (oQ _ nS os cap xs 3 hM.src (by omega) (by omega)).mono ?_
       rintro e V1 ⟨a,a1,a2,rfl,hg,hS⟩
       replace hM:=hM.next hg hS
       clear hg hS
       go_wp2_with fail
       refine (oQ _ nS os cap xs 4 hM.src (by omega) (by omega)).mono ?_
       rintro e V2 ⟨b,b1,b2,rfl,hg,hS⟩
       replace hM:=hM.next hg hS
       clear hg hS
       have c6:V2.cell? ⟨n5,6,none⟩=some (.int .i64 j2.lo):=hM.b5.c 6 _ rfl
       have c7:V2.cell? ⟨n5,7,none⟩=some (.int .i64 j2.hi):=hM.b5.c 7 _ rfl
       have f6:=hM.b5.f 6
       have f7:=hM.b5.f 7
       have l5':=hM.b5.lt
       go_wp2_with fail
       go_meet
       exact hM.KT hG _ _ (by omega) (by omega)
      ·have q5':(j2.kind==5)=false:=beq_eq_false_iff_ne.2 q5
       have hlim:oI j2.kind=524288:=by have:=hG.kind; unfold oI; rw [if_pos (by omega)]
       go_wp2_with fail
       refine (oQ _ nS os cap xs 5 hM.src (by omega) (by omega)).mono ?_
       rintro e V1 ⟨a,a1,a2,rfl,hg,hS⟩
       replace hM:=hM.next hg hS
       clear hg hS
       go_wp2_with fail
       refine (oQ _ nS os cap xs 4 hM.src (by omega) (by omega)).mono ?_
       rintro e V2 ⟨b,b1,b2,rfl,hg,hS⟩
       replace hM:=hM.next hg hS
       clear hg hS
       go_wp2_with fail
       refine (oQ _ nS os cap xs 3 hM.src (by omega) (by omega)).mono ?_
       rintro e V3 ⟨c,c1,c2,rfl,hg,hS⟩
       replace hM:=hM.next hg hS
       clear hg hS
       have c6:V3.cell? ⟨n5,6,none⟩=some (.int .i64 j2.lo):=hM.b5.c 6 _ rfl
       have c7:V3.cell? ⟨n5,7,none⟩=some (.int .i64 j2.hi):=hM.b5.c 7 _ rfl
       have f6:=hM.b5.f 6
       have f7:=hM.b5.f 7
       have l5':=hM.b5.lt
       go_wp2_with fail
       go_meet
       have htd:=tdl a a1 a2
       exact hM.KT hG _ _ (by omega) (by omega)
   case rest =>
    clear hM hG c1 l5
    obtain ⟨j3,hG,hM⟩:=hcut
    have d0:wc.cell? ⟨n5,0,none⟩=some (.string j3.name):=hM.b5.c 0 _ rfl
    have d1:wc.cell? ⟨n5,1,none⟩=some (.int .i64 j3.kind):=hM.b5.c 1 _ rfl
    have d2:wc.cell? ⟨n5,2,none⟩=some (.int .i64 j3.parent):=hM.b5.c 2 _ rfl
    have d3:wc.cell? ⟨n5,3,none⟩=some (.int .i64 j3.o0):=hM.b5.c 3 _ rfl
    have d4:wc.cell? ⟨n5,4,none⟩=some (.int .i64 j3.o1):=hM.b5.c 4 _ rfl
    have d5:wc.cell? ⟨n5,5,none⟩=some (.int .i64 j3.o2):=hM.b5.c 5 _ rfl
    have d6:wc.cell? ⟨n5,6,none⟩=some (.int .i64 j3.lo):=hM.b5.c 6 _ rfl
    have d7:wc.cell? ⟨n5,7,none⟩=some (.int .i64 j3.hi):=hM.b5.c 7 _ rfl
    have d8:wc.cell? ⟨n5,8,none⟩=some (.int .i64 j3.weight):=hM.b5.c 8 _ rfl
    have d9:wc.cell? ⟨n5,9,none⟩=some (.int .i64 j3.speed):=hM.b5.c 9 _ rfl
    have d10:wc.cell? ⟨n5,10,none⟩=some (.int .i64 j3.iL):=hM.b5.c 10 _ rfl
    have d11:wc.cell? ⟨n5,11,none⟩=some (.int .i64 j3.iO):=hM.b5.c 11 _ rfl
    obtain ⟨l,hl,hb4⟩:=hM.b4
    obtain ⟨a0,a1,a2,a3,a4,a5,a6,a7,a8,a9,a10,a11,rfl⟩:∃a0 a1 a2 a3 a4 a5 a6 a7 a8 a9 a10 a11,l=[a0,a1,a2,a3,a4,a5,a6,a7,a8,a9,a10,a11]:=by
     match l,hl with
     | [a0,a1,a2,a3,a4,a5,a6,a7,a8,a9,a10,a11],_=>exact ⟨_,_,_,_,_,_,_,_,_,_,_,_,rfl⟩
    have e0:wc.cell? ⟨n4,0,none⟩=some a0:=hb4.c 0 _ rfl
    have f0:=hb4.f 0
    have e1:wc.cell? ⟨n4,1,none⟩=some a1:=hb4.c 1 _ rfl
    have f1:=hb4.f 1
    have e2:wc.cell? ⟨n4,2,none⟩=some a2:=hb4.c 2 _ rfl
    have f2:=hb4.f 2
    have e3:wc.cell? ⟨n4,3,none⟩=some a3:=hb4.c 3 _ rfl
    have f3:=hb4.f 3
    have e4:wc.cell? ⟨n4,4,none⟩=some a4:=hb4.c 4 _ rfl
    have f4:=hb4.f 4
    have e5:wc.cell? ⟨n4,5,none⟩=some a5:=hb4.c 5 _ rfl
    have f5:=hb4.f 5
    have e6:wc.cell? ⟨n4,6,none⟩=some a6:=hb4.c 6 _ rfl
    have f6:=hb4.f 6
    have e7:wc.cell? ⟨n4,7,none⟩=some a7:=hb4.c 7 _ rfl
    have f7:=hb4.f 7
    have e8:wc.cell? ⟨n4,8,none⟩=some a8:=hb4.c 8 _ rfl
    have f8:=hb4.f 8
    have e9:wc.cell? ⟨n4,9,none⟩=some a9:=hb4.c 9 _ rfl
    have f9:=hb4.f 9
    have e10:wc.cell? ⟨n4,10,none⟩=some a10:=hb4.c 10 _ rfl
    have f10:=hb4.f 10
    have e11:wc.cell? ⟨n4,11,none⟩=some a11:=hb4.c 11 _ rfl
    have f11:=hb4.f 11
    have l4:=hb4.lt
    have l5:=hM.b5.lt
    go_wp2_with fail
    have hF:=((((((((((((hM.uz 0 (.string j3.name)).uz 1 (.int .i64 j3.kind)).uz 2 (.int .i64 j3.parent)).uz 3 (.int .i64 j3.o0)).uz 4 (.int .i64 j3.o1)).uz 5 (.int .i64 j3.o2)).uz 6 (.int .i64 j3.lo)).uz 7 (.int .i64 j3.hi)).uz 8 (.int .i64 j3.weight)).uz 9 (.int .i64 j3.speed)).uz 10 (.int .i64 j3.iL)).uz 11 (.int .i64 j3.iO))
    exact bodyPost_ret (v:=.agg j3.vals.toArray) (by simp [results,Tryz.results61,go_sem,JV.vals,e0,e1,e2,e3,e4,e5,e6,e7,e8,e9,e10,e11]) rfl ⟨j3,hG,rfl,hF.gr,hF.src⟩
end Go.Proofs.En
end
section
namespace Go.Proofs.En
open Go.RowKit
variable {W W':World} {base size n:Nat} {e:TypeId} {v:Value}
theorem uY {xs:List Value} (h:W.ownsRow base e size v n xs) (hb:∀g,v.ownBlock=some g→g<W.heap.size→base≤g→W'.heap[g]?=W.heap[g]?):W'.ownsRow base e size v n xs:=by
 refine ⟨h.1,?_⟩
 rcases h.2 with h0 | ⟨g,cap,cur,hv,hbg,hg,rest⟩
 ·exact .inl h0
 ·have hlt:g<W.heap.size:=by
   rcases cu g W.heap.size with h | h
   ·exact h
   ·rw [afc h] at hg; cases hg
  exact .inr ⟨g,cap,cur,hv,hbg,(hb g (by rw [hv]; rfl) hlt hbg).trans hg,rest⟩
theorem QH {xs:List Value} (h:W.ownsRow base e size v n xs) (g:Nat) (hg:v.ownBlock=some g):g<W.heap.size∧base≤g:=by
 rcases h.2 with ⟨rfl,_⟩ | ⟨g',cap,cur,rfl,hbg,hh,rest⟩
 ·cases hg
 ·simp [Value.ownBlock] at hg
  subst hg
  refine ⟨?_,hbg⟩
  rcases cu g' W.heap.size with h | h
  ·exact h
  ·rw [afc h] at hh; cases hh
theorem flat_get (rows:List (List Value)) (n:Nat) (hn:∀r∈rows,r.length=n) (i:Nat) (r:List Value) (h:rows[i]?=some r) (k:Nat) (v:Value) (hv:r[k]?=some v):rows.flatten[i*n+k]?=some v:=by
 induction rows generalizing i with
 | nil=>simp at h
 | cons a t ih =>
  have ha:a.length=n:=hn a (by simp)
  have hk:k<n:=by
   have hr:r.length=n:=hn r (aN h)
   rcases cu k r.length with h' | h'
   ·omega
   ·rw [bQ h'] at hv; cases hv
  cases i with
  | zero =>
   simp at h; subst h
   rw [List.flatten_cons,aH (by omega)]
   simpa using hv
  | succ i =>
   simp at h
   have:=ih (fun r hr=>hn r (by simp [hr])) i h
   rw [List.flatten_cons,bu (by rw [ha,Nat.succ_mul]; omega),ha]
   have e:(i+1)*n+k - n=i*n+k:=by rw [Nat.succ_mul]; omega
   rw [e]
   exact this
theorem KM {rows:List (List Value)} (hn:∀r∈rows,r.length=n) (h:W.ownsRow base e n v rows.length rows.flatten):∃oa cap,v=.slice oa rows.length cap∧Sl W oa n rows:=by
 rcases h.2 with ⟨rfl,h0⟩ | ⟨g,cap,cur,rfl,hbg,hg,hc,hm,hs,ht⟩
 ·have:rows=[]:=List.length_eq_zero_iff.1 h0
  subst this
  exact ⟨none,0,rfl,fun h=>absurd rfl h⟩
 ·refine ⟨_,cap,rfl,fun _=>⟨g,0,rfl,?_⟩⟩
  have hlt:g<W.heap.size:=by
   rcases cu g W.heap.size with h | h
   ·exact h
   ·rw [afc h] at hg; cases hg
  refine ⟨hlt,fun i r hi k u hu=>?_⟩
  have hq:=flat_get rows n hn i r hi k u hu
  rw [←ht,dx] at hq
  split at hq
  ·simp [bS,hg]
   simpa using hq
  ·cases hq
def AV (js:List JV):List Value:=(js.map JV.vals).flatten
def Bc (ms:List MV):List Value:=(ms.map MV.vals).flatten
theorem Yy (js:List JV) (j:JV):AV (js++[j])=AV js++j.vals:=by simp [AV]
theorem ZC (ms:List MV) (m:MV):Bc (ms++[m])=Bc ms++m.vals:=by simp [Bc]
variable {w:World} {nS cap:Nat} {os:Option Addr} {xs:List Int}
theorem Src.low (h:Src W nS os cap xs) (i0:Sl w os 1 (fF xs)) (hn:nS<w.heap.size) (hb:Below w.heap.size W W'):Src W' nS os cap xs:=by
 obtain ⟨⟨k,hk,hc⟩,hi,ho,hl⟩:=h
 refine ⟨⟨k,hk,?_⟩,?_,ho,hl⟩
 ·have e:=hb.block nS hn
  obtain ⟨c0,c1,f0,f1,lt⟩:=hc
  refine ⟨?_,?_,?_,?_,aC lt hb.size⟩
  ·rw [←c0]; simp [bS,e]
  ·rw [←c1]; simp [bS,e]
  ·rw [←f0]; simp [ae2,e]
  ·rw [←f1]; simp [ae2,e]
 ·intro hne
  obtain ⟨b,off,e1,hr⟩:=hi hne
  obtain ⟨b',off',e1',hr'⟩:=i0 hne
  rw [e1] at e1'
  injection e1' with e1'
  injection e1' with e1' _ _
  have hlt:=hr'.lt
  refine ⟨b,off,e1,⟨aC hr.lt hb.size,fun i' r hr1 k' v' hv'=>?_⟩⟩
  rw [←hr.c i' r hr1 k' v' hv']
  simp [bS,hb.block b (by omega)]
variable {r:Option Nat}
theorem JY (h:w.grownBy W r) (hb:Below w.heap.size W W'):w.grownBy W' r :=
 ⟨hb.os.trans h.os,hb.tape.trans h.tape,hb.output.trans h.output,aZ h.size hb.size,fun k hk hn=>(hb.block k hk).trans (h.block k hk hn)⟩
variable {b:Nat} {l:List Value}
theorem eG.low (h:eG W b l) (hlt:b<base) (hb:Below base W W'):eG W' b l:=by
 have e:=hb.block b hlt
 refine ⟨fun i v hi=>?_,fun i=>?_,aC h.lt hb.size⟩
 ·rw [←h.c i v hi]; simp [bS,e]
 ·rw [←h.f i]; simp [ae2,e]
structure RB (w:World) (nS n2 n3:Nat) (os:Option Addr) (cap:Nat) (xs:List Int) (js:List JV) (ms:List MV) (v u:Value) (W:World):Prop where
 gr:w.grownBy W (some nS)
 src:Src W nS os cap xs
 b2:∃x y,eG W n2 [x,y]
 b3:eG W n3 [v,u]
 oj:W.ownsRow (n3+1) 80 12 v js.length (AV js)
 om:W.ownsRow (n3+1) 54 5 u ms.length (Bc ms)
 ap:∀g,v.ownBlock=some g→u.ownBlock≠some g
 hb:n3+1≤W.heap.size
 gj:∀(k:Nat) (j:JV),js[k]?=some j→GJ k j
 i0:Sl w os 1 (fF xs)
 hs:nS<w.heap.size
 h2:w.heap.size≤n2
 h3:n2<n3
variable {n2 n3:Nat} {js:List JV} {ms:List MV} {u:Value}
theorem RB.call (h:RB w nS n2 n3 os cap xs js ms v u W) (hg:W.grownBy W' (some nS)) (hS:Src W' nS os cap xs):RB w nS n2 n3 os cap xs js ms v u W':=by
 have hs:=h.hs; have h2:=h.h2; have h3:=h.h3
 obtain ⟨x,y,hb2⟩:=h.b2
 refine ⟨yj h.gr hg,hS,⟨x,y,hb2.rF hg (by omega)⟩,h.b3.rF hg (by omega),uY h.oj fun g _ hl hb=>hg.block g hl (fun e=>by injection e; omega),uY h.om fun g _ hl hb=>hg.block g hl (fun e=>by injection e; omega),h.ap,aZ h.hb hg.size,h.gj,h.i0,hs,h2,h3⟩
theorem RB.gW (h:RB w nS n2 n3 os cap xs js ms v u W) (hg:Below W.heap.size W W'):RB w nS n2 n3 os cap xs js ms v u W':=by
 obtain ⟨x,y,hb2⟩:=h.b2
 exact ⟨yj h.gr (zy hg),h.src.yl hg,⟨x,y,hb2.keep hg⟩,h.b3.keep hg,yx h.oj hg,yx h.om hg,h.ap,aZ h.hb hg.size,h.gj,h.i0,h.hs,h.h2,h.h3⟩
variable {W1:World}
theorem RB.appJ (h:RB w nS n2 n3 os cap xs js ms v u W) (j:JV) (hj:GJ js.length j) (g c:Nat)
  (ho:W1.ownsRow (n3+1) 80 12 (.slice (some ⟨g,0,none⟩) (js.length+1) c) (js.length+1) (AV js++j.vals)) (hg:W.grownBy W1 v.ownBlock) (ha:v.ownBlock=some g∨g=W.heap.size) :
  RB w nS n2 n3 os cap xs (js++[j]) ms (.slice (some ⟨g,0,none⟩) (js.length+1) c) u (W1.setCell ⟨n3,0,none⟩ (.slice (some ⟨g,0,none⟩) (js.length+1) c)):=by
 have hs:=h.hs; have h2:=h.h2; have h3:=h.h3; have hb:=h.hb
 obtain ⟨x,y,hb2⟩:=h.b2
 have B1:Below (n3+1) W W1:=yh h.oj hg h.hb
 have e:∀k,k≠n3→(W1.setCell ⟨n3,0,none⟩ (.slice (some ⟨g,0,none⟩) (js.length+1) c)).heap[k]?=W1.heap[k]?:=fun k hk=>ae0 W1 ⟨n3,0,none⟩ _ k hk
 have B2:Below n3 W (W1.setCell ⟨n3,0,none⟩ (.slice (some ⟨g,0,none⟩) (js.length+1) c)):=(B1.mono (Nat.le_succ n3)).setCell (p:=⟨n3,0,none⟩) (au _) _
 refine ⟨JY h.gr (B2.mono (by omega)),h.src.low h.i0 hs (B2.mono (by omega)),⟨x,y,hb2.low (by omega) B2⟩,(h.b3.low (by omega) B1).put 0 _,?_,?_,?_,?_,?_,h.i0,hs,h2,h3⟩
 ·rw [Yy,afa]
  exact uY ho fun q _ _ hq=>e q (by omega)
 ·refine uY h.om fun q hq1 hq2 hq3=>(e q (by omega)).trans (hg.block q hq2 ?_)
  exact fun e=>h.ap q e.symm hq1
 ·intro q hq
  have hqg:q=g:=by
   simp [Value.ownBlock] at hq
   exact hq.symm
  subst hqg
  rcases ha with ha | ha
  ·exact h.ap q ha
  ·intro hc
   have:=(QH h.om q hc).1
   omega
 ·exact aZ hb B2.size
 ·intro k j' hk
  rcases cu k js.length with hlt | hge
  ·rw [aH hlt] at hk
   exact h.gj k j' hk
  ·rw [bu hge] at hk
   have:k=js.length:=by
    rcases Nat.eq_or_lt_of_le hge with h | h
    ·exact h.symm
    ·rw [bQ (by simp; omega)] at hk; cases hk
   subst this
   simp at hk
   subst hk
   exact hj
theorem RB.VK (h:RB w nS n2 n3 os cap xs js ms v u W) (m:MV) (g c:Nat)
  (ho:W1.ownsRow (n3+1) 54 5 (.slice (some ⟨g,0,none⟩) (ms.length+1) c) (ms.length+1) (Bc ms++m.vals)) (hg:W.grownBy W1 u.ownBlock) (ha:u.ownBlock=some g∨g=W.heap.size) :
  RB w nS n2 n3 os cap xs js (ms++[m]) v (.slice (some ⟨g,0,none⟩) (ms.length+1) c) (W1.setCell ⟨n3,1,none⟩ (.slice (some ⟨g,0,none⟩) (ms.length+1) c)):=by
 have hs:=h.hs; have h2:=h.h2; have h3:=h.h3; have hb:=h.hb
 obtain ⟨x,y,hb2⟩:=h.b2
 have B1:Below (n3+1) W W1:=yh h.om hg h.hb
 have e:∀k,k≠n3→(W1.setCell ⟨n3,1,none⟩ (.slice (some ⟨g,0,none⟩) (ms.length+1) c)).heap[k]?=W1.heap[k]?:=fun k hk=>ae0 W1 ⟨n3,1,none⟩ _ k hk
 have B2:Below n3 W (W1.setCell ⟨n3,1,none⟩ (.slice (some ⟨g,0,none⟩) (ms.length+1) c)):=(B1.mono (Nat.le_succ n3)).setCell (p:=⟨n3,1,none⟩) (au _) _
 refine ⟨JY h.gr (B2.mono (by omega)),h.src.low h.i0 hs (B2.mono (by omega)),⟨x,y,hb2.low (by omega) B2⟩,(h.b3.low (by omega) B1).put 1 _,?_,?_,?_,?_,h.gj,h.i0,hs,h2,h3⟩
 ·refine uY h.oj fun q hq1 hq2 hq3=>(e q (by omega)).trans (hg.block q hq2 ?_)
  exact fun e=>h.ap q hq1 e.symm
 ·rw [ZC,afa]
  exact uY ho fun q _ _ hq=>e q (by omega)
 ·intro q hq hc
  have hqg:q=g:=by
   simp [Value.ownBlock] at hc
   exact hc.symm
  subst hqg
  rcases ha with ha | ha
  ·exact h.ap q hq ha
  ·have:=(QH h.oj q hq).1
   omega
 ·exact aZ hb B2.size
theorem RB.acy (h:RB w nS n2 n3 os cap xs js ms v u W) (x y:Value) :
  RB w nS n2 n3 os cap xs js ms v u ((W.setCell ⟨n2,0,none⟩ x).setCell ⟨n2,1,none⟩ y):=by
 have hs:=h.hs; have h2:=h.h2; have h3:=h.h3; have hb:=h.hb
 obtain ⟨a,b,hb2⟩:=h.b2
 have B:Below n2 W ((W.setCell ⟨n2,0,none⟩ x).setCell ⟨n2,1,none⟩ y):=((aI _ _).setCell (p:=⟨n2,0,none⟩) (au _) _).setCell (p:=⟨n2,1,none⟩) (au _) _
 have e:∀g,g≠n2→((W.setCell ⟨n2,0,none⟩ x).setCell ⟨n2,1,none⟩ y).heap[g]?=W.heap[g]?:=fun g hg=>(ae0 _ ⟨n2,1,none⟩ _ g hg).trans (ae0 _ ⟨n2,0,none⟩ _ g hg)
 refine ⟨JY h.gr (B.mono h2),h.src.low h.i0 hs (B.mono h2),⟨_,_,(hb2.put 0 x).put 1 y⟩,?_,uY h.oj fun g _ _ hg=>e g (by omega),uY h.om fun g _ _ hg=>e g (by omega),h.ap,aZ hb B.size,h.gj,h.i0,hs,h2,h3⟩
 have e3:=e n3 (by omega)
 refine ⟨fun i v hi=>?_,fun i=>?_,aC h.b3.lt B.size⟩
 ·rw [←h.b3.c i v hi]; simp [bS,e3]
 ·rw [←h.b3.f i]; simp [ae2,e3]
def Cf (js:List JV) (ms:List MV) (oa om:Option Addr) (W:World):Prop:=(1≤js.length∧js.length≤3)∧ms.length≤2∧(∀(k:Nat) (j:JV),js[k]?=some j→GJ k j)∧(∀(k:Nat) (m:MV),ms[k]?=some m→kK js.length m=true)∧Sl W oa 12 (js.map JV.vals)∧Sl W om 5 (ms.map MV.vals)
theorem QG {W'':World} (h:RB w nS n2 n3 os cap xs js ms v u W) (hag:∀g,w.heap.size≤g→g<W.heap.size→W''.heap[g]?=W.heap[g]?):∃oa cj om cm,v=.slice oa js.length cj∧u=.slice om ms.length cm∧Sl W'' oa 12 (js.map JV.vals)∧Sl W'' om 5 (ms.map MV.vals):=by
 have h2:=h.h2; have h3:=h.h3
 obtain ⟨oa,cj,e1,s1⟩:=KM (rows:=js.map JV.vals) (n:=12) (by intro r hr; simp at hr; obtain ⟨j,_,rfl⟩:=hr; rfl) (by rw [dF]; exact uY h.oj fun g _ hl hb=>hag g (by omega) hl)
 obtain ⟨om,cm,e2,s2⟩:=KM (rows:=ms.map MV.vals) (n:=5) (by intro r hr; simp at hr; obtain ⟨j,_,rfl⟩:=hr; rfl) (by rw [dF]; exact uY h.om fun g _ hl hb=>hag g (by omega) hl)
 rw [dF] at e1 e2
 exact ⟨oa,cj,om,cm,e1,e2,s1,s2⟩
theorem RB.done (h:RB w nS n2 n3 os cap xs js ms v u W):∃oa cj om cm,v=.slice oa js.length cj∧u=.slice om ms.length cm∧Sl W oa 12 (js.map JV.vals)∧Sl W om 5 (ms.map MV.vals):=QG h fun _ _ _=>rfl
end Go.Proofs.En
end
end
