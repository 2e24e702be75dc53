/-
  Part of the proof: see the last text.
-/
import Derived.WalkKit
import Derived.IntWalk
import Derived.Lib.Hide
import Derived.BigQuiet
import Derived.Outline
import Derived.Test.YthbfmjlcnfgnbaaGreatShelf
import Derived.Laws.Externs
import Derived.KernelRfl
set_option linter.unusedVariables false
set_option maxHeartbeats 8000000
open Go.RowKit.Below renaming heap_setCell→ae0,refl→aI
open BitVec renaming ofInt→ae6
open Go.IntKind renaming i64→bg
open Go.Lib renaming hid→aG
open Nat renaming le_refl→au,lt_of_lt_of_le→aC
open Go.Proofs.Tryz renaming prog→aa
open Go.World renaming cell?→bS,frozen?→ae2,setCell→afg
section
namespace Go.Proofs.En
open Go.RowKit
theorem yB {k:IntKind} {a b:Int} (h:a=b):Ending.returned (.int k a)=.returned (.int k b):=by rw [h]
theorem qA {a b:Bool} (h:a=b):Ending.returned (.bool a)=.returned (.bool b):=by rw [h]
theorem tmod_neg (n k:Int) (h3:0<k) (hn:n.tmod k<0):n.tmod k+k=n % k∧-k<n.tmod k:=by
 have h1:0≤n∨n<0:=by omega
 rcases h1 with h1 | h1
 ·rw [Int.tmod_eq_emod_of_nonneg h1] at hn
  have:=Int.emod_nonneg n (show k≠0 by omega)
  omega
 ·have e:n.tmod k=-((-n) % k):=by
   have:=Int.neg_tmod (-n) k
   rw [Int.neg_neg] at this
   rw [this,Int.tmod_eq_emod_of_nonneg (by omega)]
  have hlt:=Int.emod_lt_of_pos (-n) h3
  have hge:=Int.emod_nonneg (-n) (show k≠0 by omega)
  rw [e]
  refine ⟨?_,by omega⟩
  have h5:=Int.mul_ediv_add_emod (-n) k
  have h6:n=k*(-((-n)/k) - 1)+(k - (-n) % k):=by
   rw [Int.mul_sub,Int.mul_neg]; omega
  have h7:n % k=(k - (-n) % k) % k:=by
   rw [h6,Int.mul_add_emod_self_left]
   have:(k*(-((-n)/k) - 1)+(k - (-n) % k))=n:=h6.symm
   rw [this]
  have h8:=Int.emod_eq_of_lt (a:=k - (-n) % k) (b:=k) (by omega) (by omega)
  omega
theorem aec (n k:Int) (h3:0<k) (hn:0≤n.tmod k):n.tmod k=n % k:=by
 have h1:0≤n∨n<0:=by omega
 rcases h1 with h1 | h1
 ·exact Int.tmod_eq_emod_of_nonneg h1
 ·have e:n.tmod k=-((-n) % k):=by
   have:=Int.neg_tmod (-n) k
   rw [Int.neg_neg] at this
   rw [this,Int.tmod_eq_emod_of_nonneg (by omega)]
  have hge:=Int.emod_nonneg (-n) (show k≠0 by omega)
  have h0:(-n) % k=0:=by omega
  rw [e,h0]
  have:k ∣ n:=(Int.dvd_neg).1 (Int.dvd_of_emod_eq_zero h0)
  rw [Int.emod_eq_zero_of_dvd this]; rfl
theorem ac3 (n k:Int) (w:World) (h3:0<k) (h4:k≤9223372036854775807) :
  Calls aa 14 #[.int .i64 n,.int .i64 k] w fun e w'=>e=.returned (.int .i64 (n % k))∧w=w':=by
 have hk:(k==0)=false:=by simp; omega
 by_cases hn:n.tmod k<0
 ·have h5:=tmod_neg n k h3 hn
  have H5:=aG h5
  clear h5
  go_enter Tryz.func14,Tryz.ntmps14
  go_wp2
  go_ret
  have h6:=H5.out
  exact ⟨yB (by rw [IntWalk.wrap64_in _ (by omega)]; exact h6.1),rfl⟩
 ·have h5:=aec n k h3 (by omega)
  have H5:=aG h5
  clear h5
  go_enter Tryz.func14,Tryz.ntmps14
  go_wp2
  go_ret
  exact ⟨yB H5.out,rfl⟩
def mX (lo hi:Int):Bool:=decide (-1152921504606846976≤lo∧lo≤hi∧hi≤1152921504606846976)
theorem Dy (lo hi:Int) (w:World) :
  Calls aa 30 #[.agg #[.int .i64 lo,.int .i64 hi]] w fun e w'=>e=.returned (.bool (mX lo hi))∧Below w.heap.size w w':=by
 by_cases h1:-1152921504606846976≤lo
 ·by_cases h2:lo≤hi
  ·by_cases h3:hi≤1152921504606846976
   all_goals
    go_enter Tryz.func30,Tryz.ntmps30
    go_wp2
    go_ret
    exact ⟨qA (by unfold mX; symm; simp; omega),(aI _ _).alloc (au _) _⟩
  ·go_enter Tryz.func30,Tryz.ntmps30
   go_wp2
   go_ret
   exact ⟨qA (by unfold mX; symm; simp; omega),(aI _ _).alloc (au _) _⟩
 ·go_enter Tryz.func30,Tryz.ntmps30
  go_wp2
  go_ret
  exact ⟨qA (by unfold mX; symm; simp; omega),(aI _ _).alloc (au _) _⟩
theorem Y8 (ph pl qh ql:Int) (w:World) :
  Calls aa 32 #[.agg #[.int .i64 ph,.int .u64 pl],.agg #[.int .i64 qh,.int .u64 ql]] w fun e w'=>e=.returned (.bool (decide (ph<qh∨ph=qh∧pl<ql)))∧Below w.heap.size w w':=by
 by_cases h1:ph<qh
 ·go_enter Tryz.func32,Tryz.ntmps32
  go_wp2
  go_ret
  exact ⟨qA (by symm; simp; omega),((aI _ _).alloc (au _) _).alloc (by simp) _⟩
 ·by_cases h2:ph=qh
  ·have h2':(ph==qh)=true:=by simpa using h2
   have H2:=aG h2
   clear h2
   by_cases h3:pl<ql
   all_goals
    go_enter Tryz.func32,Tryz.ntmps32
    go_wp2
    go_ret
    have h2:=H2.out
    exact ⟨qA (by symm; simp; omega),((aI _ _).alloc (au _) _).alloc (by simp) _⟩
  ·have h2':(ph==qh)=false:=by simpa using h2
   have H2:=aG h2
   clear h2
   go_enter Tryz.func32,Tryz.ntmps32
   go_wp2
   go_ret
   have h2:=H2.out
   exact ⟨qA (by symm; simp; omega),((aI _ _).alloc (au _) _).alloc (by simp) _⟩
end Go.Proofs.En
end
section
namespace Go.Proofs.En
open Go.RowKit
theorem Ff (x y:Int) (w:World) (hx:0≤x) (hx':x≤18446744073709551615) (hy:0≤y) (hy':y≤18446744073709551615) :
  Calls aa 59 #[.int .u64 x,.int .u64 y] w fun e w'=>e=.returned (.tuple #[.int .u64 (x*y/18446744073709551616),.int .u64 (x*y % 18446744073709551616)])∧w=w':=by
 obtain ⟨n,rfl⟩:=Int.eq_ofNat_of_zero_le hx
 obtain ⟨m,rfl⟩:=Int.eq_ofNat_of_zero_le hy
 refine (Tryz.bits_Mul64 n m (by omega) (by omega) w).mono ?_
 rintro e w' ⟨rfl,rfl⟩
 exact ⟨rfl,rfl⟩
theorem Vo (a:Int) (h1:-9223372036854775808≤a) (h2:a≤9223372036854775807):IntKind.u64.wrap a=if a<0 then a+18446744073709551616 else a:=by
 rw [IntKind.wrap_u64]; split<;>omega
variable {a b:Int}
theorem Km {A B:Int} (h1:-A≤a) (h2:a≤A) (h3:-B≤b) (h4:b≤B):-(A*B)≤a*b∧a*b≤A*B:=by
 have e1:=Int.mul_nonneg (show 0≤A - a by omega) (show 0≤B - b by omega)
 have e2:=Int.mul_nonneg (show 0≤A+a by omega) (show 0≤B+b by omega)
 have e3:=Int.mul_nonneg (show 0≤A - a by omega) (show 0≤B+b by omega)
 have e4:=Int.mul_nonneg (show 0≤A+a by omega) (show 0≤B - b by omega)
 have x1:(A - a)*(B - b)=A*B - A*b - a*B+a*b:=by simp only [Int.sub_mul,Int.mul_sub]; omega
 have x2:(A+a)*(B+b)=A*B+A*b+a*B+a*b:=by simp only [Int.add_mul,Int.mul_add]; omega
 have x3:(A - a)*(B+b)=A*B+A*b - a*B - a*b:=by simp only [Int.sub_mul,Int.mul_add]; omega
 have x4:(A+a)*(B - b)=A*B - A*b+a*B - a*b:=by simp only [Int.add_mul,Int.mul_sub]; omega
 omega
theorem Yj (a b:Int) (h1:-9223372036854775808≤a) (h2:a≤9223372036854775807) (h3:-9223372036854775808≤b) (h4:b≤9223372036854775807) :
  -4611686018427387904≤a*b/18446744073709551616∧a*b/18446744073709551616≤4611686018427387904:=by
 have:=Km (A:=9223372036854775808) (B:=9223372036854775808) (a:=a) (b:=b) (by omega) (by omega) (by omega) (by omega)
 omega
theorem QS (a y:Int):(a+18446744073709551616)*y/18446744073709551616=a*y/18446744073709551616+y∧(a+18446744073709551616)*y % 18446744073709551616=a*y % 18446744073709551616:=by
 rw [Int.add_mul]; omega
theorem QR (a y:Int):a*(y+18446744073709551616)/18446744073709551616=a*y/18446744073709551616+a∧a*(y+18446744073709551616) % 18446744073709551616=a*y % 18446744073709551616:=by
 rw [Int.mul_add]; omega
def Mw (p:Int) (w:World) (e:Ending) (w':World):Prop:=e=.returned (.agg #[.int .i64 (p/18446744073709551616),.int .u64 (p % 18446744073709551616)])∧Below w.heap.size w w'
variable {w w':World}
theorem FQ {p q:Int} (h1:a=p/18446744073709551616) (h2:b=p % 18446744073709551616) (h3:q=p) (hb:Below w.heap.size w w'):Mw q w (.returned (.agg #[.int .i64 a,.int .u64 b])) w':=by
 subst h1 h2 h3; exact ⟨rfl,hb⟩
theorem PU (a b:Int) (w:World) (h1:-9223372036854775808≤a) (h2:a≤9223372036854775807) (h3:-9223372036854775808≤b) (h4:b≤9223372036854775807) :
  Calls aa 31 #[.int .i64 a,.int .i64 b] w (Mw (a*b) w):=by
 have ea:=Vo a h1 h2
 have eb:=Vo b h3 h4
 have Hbd:=aG (Yj a b h1 h2 h3 h4)
 by_cases ha:a<0
 ·rw [if_pos ha] at ea
  have Ea:=aG ea
  clear ea
  by_cases hb:b<0
  ·rw [if_pos hb] at eb
   have Eb:=aG eb
   clear eb
   have P:=aG (And.intro (QS a (b+18446744073709551616)) (QR a b))
   go_enter Tryz.func31,Tryz.ntmps31
   go_wp2_with fail
   (try rw [Ea.out]); (try rw [Eb.out])
   refine (Ff _ _ _ (by omega) (by omega) (by omega) (by omega)).mono ?_
   rintro e w' ⟨rfl,rfl⟩
   generalize hX:((a+18446744073709551616)*(b+18446744073709551616))/18446744073709551616=X
   generalize hY:((a+18446744073709551616)*(b+18446744073709551616)) % 18446744073709551616=Y
   have HX:=aG hX
   have HY:=aG hY
   clear hX hY
   go_wp2
   refine bodyPost_ret (v:=.agg #[.int .i64 (wrap64 (wrap64 (wrap64 X - b) - a)),.int .u64 Y]) (by simp [results,Tryz.results31,go_sem]) rfl (FQ (p:=a*b) ?_ ?_ rfl ?_)
   ·have e1:=HX.out; have e2:=P.out; have e3:=Hbd.out
    rw [←e1]; unfold wrap64; omega
   ·have e1:=HY.out; have _e2:=P.out
    first | exact e1.symm | (rw [←e1]; omega)
   ·exact ((aI _ _).alloc (au _) _).alloc (by simp) _
  ·rw [if_neg hb] at eb
   have Eb:=aG eb
   clear eb
   have P:=aG (QS a b)
   go_enter Tryz.func31,Tryz.ntmps31
   go_wp2_with fail
   (try rw [Ea.out]); (try rw [Eb.out])
   refine (Ff _ _ _ (by omega) (by omega) (by omega) (by omega)).mono ?_
   rintro e w' ⟨rfl,rfl⟩
   generalize hX:((a+18446744073709551616)*b)/18446744073709551616=X
   generalize hY:((a+18446744073709551616)*b) % 18446744073709551616=Y
   have HX:=aG hX
   have HY:=aG hY
   clear hX hY
   go_wp2
   refine bodyPost_ret (v:=.agg #[.int .i64 (wrap64 (wrap64 X - b)),.int .u64 Y]) (by simp [results,Tryz.results31,go_sem]) rfl (FQ (p:=a*b) ?_ ?_ rfl ?_)
   ·have e1:=HX.out; have e2:=P.out; have e3:=Hbd.out
    rw [←e1]; unfold wrap64; omega
   ·have e1:=HY.out; have _e2:=P.out
    first | exact e1.symm | (rw [←e1]; omega)
   ·exact ((aI _ _).alloc (au _) _).alloc (by simp) _
 ·rw [if_neg ha] at ea
  have Ea:=aG ea
  clear ea
  by_cases hb:b<0
  ·rw [if_pos hb] at eb
   have Eb:=aG eb
   clear eb
   have P:=aG (QR a b)
   go_enter Tryz.func31,Tryz.ntmps31
   go_wp2_with fail
   (try rw [Ea.out]); (try rw [Eb.out])
   refine (Ff _ _ _ (by omega) (by omega) (by omega) (by omega)).mono ?_
   rintro e w' ⟨rfl,rfl⟩
   generalize hX:(a*(b+18446744073709551616))/18446744073709551616=X
   generalize hY:(a*(b+18446744073709551616)) % 18446744073709551616=Y
   have HX:=aG hX
   have HY:=aG hY
   clear hX hY
   go_wp2
   refine bodyPost_ret (v:=.agg #[.int .i64 (wrap64 (wrap64 X - a)),.int .u64 Y]) (by simp [results,Tryz.results31,go_sem]) rfl (FQ (p:=a*b) ?_ ?_ rfl ?_)
   ·have e1:=HX.out; have e2:=P.out; have e3:=Hbd.out
    rw [←e1]; unfold wrap64; omega
   ·have e1:=HY.out; have _e2:=P.out
    first | exact e1.symm | (rw [←e1]; omega)
   ·exact ((aI _ _).alloc (au _) _).alloc (by simp) _
  ·rw [if_neg hb] at eb
   have Eb:=aG eb
   clear eb
   have P:=aG (trivial)
   go_enter Tryz.func31,Tryz.ntmps31
   go_wp2_with fail
   (try rw [Ea.out]); (try rw [Eb.out])
   refine (Ff _ _ _ (by omega) (by omega) (by omega) (by omega)).mono ?_
   rintro e w' ⟨rfl,rfl⟩
   generalize hX:(a*b)/18446744073709551616=X
   generalize hY:(a*b) % 18446744073709551616=Y
   have HX:=aG hX
   have HY:=aG hY
   clear hX hY
   go_wp2
   refine bodyPost_ret (v:=.agg #[.int .i64 (wrap64 X),.int .u64 Y]) (by simp [results,Tryz.results31,go_sem]) rfl (FQ (p:=a*b) ?_ ?_ rfl ?_)
   ·have e1:=HX.out; have e2:=P.out; have e3:=Hbd.out
    rw [←e1]; unfold wrap64; omega
   ·have e1:=HY.out; have _e2:=P.out
    first | exact e1.symm | (rw [←e1]; omega)
   ·exact ((aI _ _).alloc (au _) _).alloc (by simp) _
theorem aa4 (H y:Nat) (h1:H<65536) (h2:y<281474976710656):(BitVec.ofNat 64 (281474976710656*H) ||| BitVec.ofNat 64 y).toNat=281474976710656*H+y:=by
 rw [BitVec.toNat_or,BitVec.toNat_ofNat,BitVec.toNat_ofNat,Nat.mod_eq_of_lt (by omega),Nat.mod_eq_of_lt (by omega)]
 exact (Nat.two_pow_add_eq_or_of_lt (i:=48) h2 H).symm
theorem Qa (x:Int) (n:Nat) (h:x % 18446744073709551616=n):ae6 64 x=BitVec.ofNat 64 n:=by
 apply BitVec.eq_of_toNat_eq
 rw [BitVec.toNat_ofInt,BitVec.toNat_ofNat]
 have e:((2:Nat)^64:Nat)=18446744073709551616:=by decide
 rw [e]
 have h2:(x % ((18446744073709551616:Nat):Int))=n:=h
 rw [h2]
 omega
theorem aa3 (h y:Int) (h1:-32768≤h) (h2:h<32768) (h3:0≤y) (h4:y<281474976710656):bits .or .i64 (h*281474976710656) y=h*281474976710656+y:=by
 obtain ⟨Y,rfl⟩:=Int.eq_ofNat_of_zero_le h3
 obtain ⟨H,hH⟩:=Int.eq_ofNat_of_zero_le (show 0≤h % 65536 by omega)
 have e1:ae6 64 (h*281474976710656)=BitVec.ofNat 64 (281474976710656*H):=Qa _ _ (by omega)
 have e2:ae6 64 (Y:Int)=BitVec.ofNat 64 Y:=Qa _ _ (by omega)
 have e3:=aa4 H Y (by omega) (by omega)
 show bg.wrap ((ae6 64 (h*281474976710656) ||| ae6 64 (Y:Int)).toNat:Int)=_
 rw [e1,e2,e3,IntKind.wrap_i64]
 omega
def okB (x:Int):Bool:=decide (-1152921504606846976≤x∧x≤1152921504606846976)
def Cb (x:Int) (ok:Bool) (w:World) (e:Ending) (w':World):Prop:=e=.returned (.tuple #[.int .i64 x,.bool ok])∧Below w.heap.size w w'
theorem Ct {x y:Int} {a b:Bool} (h1:x=y) (h2:a=b) (hb:Below w.heap.size w w'):Cb x a w (.returned (.tuple #[.int .i64 y,.bool b])) w':=by
 subst h1 h2; exact ⟨rfl,hb⟩
theorem Xx (hi lo:Int) (w:World) (h1:-32768≤hi) (h2:hi<32768) (h3:0≤lo) (h4:lo≤18446744073709551615) :
  Calls aa 33 #[.agg #[.int .i64 hi,.int .u64 lo]] w (Cb (hi*281474976710656+lo/65536) (okB (hi*281474976710656+lo/65536)) w):=by
 have hor:=aa3 hi (lo/65536) h1 h2 (by omega) (by omega)
 have g1:decide (hi< -32768)=false:=by simp; omega
 have g2:decide (32768≤hi)=false:=by simp; omega
 by_cases c1:-1152921504606846976≤hi*281474976710656+lo/65536
 ·by_cases c2:hi*281474976710656+lo/65536≤1152921504606846976
  all_goals
   go_enter Tryz.func33,Tryz.ntmps33
   go_wp2
   go_ret2
   exact Ct rfl (by unfold okB; simp; omega) ((aI _ _).alloc (au _) _)
 ·go_enter Tryz.func33,Tryz.ntmps33
  go_wp2
  go_ret2
  exact Ct rfl (by unfold okB; simp; omega) ((aI _ _).alloc (au _) _)
theorem Xy (hi lo:Int) (w:World) (h:hi< -32768∨32768≤hi) :
  Calls aa 33 #[.agg #[.int .i64 hi,.int .u64 lo]] w (Cb 0 false w):=by
 rcases h with h | h
 ·go_enter Tryz.func33,Tryz.ntmps33
  go_wp2
  go_ret2
  exact Ct rfl rfl ((aI _ _).alloc (au _) _)
 ·have g1:decide (hi< -32768)=false:=by simp; omega
  go_enter Tryz.func33,Tryz.ntmps33
  go_wp2
  go_ret2
  exact Ct rfl rfl ((aI _ _).alloc (au _) _)
def sV (p:Int):Int:=if -604462909807314587353088≤p∧p<604462909807314587353088 then p/65536 else 0
theorem Nu (p:Int) (w:World) :
  Calls aa 33 #[.agg #[.int .i64 (p/18446744073709551616),.int .u64 (p % 18446744073709551616)]] w (Cb (sV p) (okB (p/65536)) w):=by
 by_cases h:-604462909807314587353088≤p∧p<604462909807314587353088
 ·have:=Xx (p/18446744073709551616) (p % 18446744073709551616) w (by omega) (by omega) (by omega) (by omega)
  have e:p/18446744073709551616*281474976710656+p % 18446744073709551616/65536=p/65536:=by omega
  rw [e] at this
  unfold sV
  rw [if_pos h]
  exact this
 ·have:=Xy (p/18446744073709551616) (p % 18446744073709551616) w (by omega)
  have e:okB (p/65536)=false:=by unfold okB; simp; omega
  unfold sV
  rw [if_neg h,e]
  exact this
end Go.Proofs.En
end
section
namespace Go.Proofs.En
open Go.RowKit
variable {W w1:World}
theorem Ck (hb:Below W.heap.size W w1):(∀b o,b<W.heap.size→w1.cell? ⟨b,o,none⟩=W.cell? ⟨b,o,none⟩)∧(∀b o,b<W.heap.size→w1.frozen? ⟨b,o,none⟩=W.frozen? ⟨b,o,none⟩) :=
 ⟨fun b o h=>hb.cell (p:=⟨b,o,none⟩) h,fun b o h=>hb.frozen (p:=⟨b,o,none⟩) h⟩
variable {w:World}
theorem jD (h:Below w.heap.size w W) (hb:Below W.heap.size W w1):Below w.heap.size w w1:=h.trans (hb.mono h.size)
theorem H9 (w:World) (a b c:Obj):Below w.heap.size w (((w.alloc a).alloc b).alloc c):=(((aI _ _).alloc (au _) _).alloc (by simp) _).alloc (by simp; omega) _
theorem VD (x y:Int) (hx:0≤x) (hy:0≤y) (w:World):(callFunc 60 #[.int .u64 x,.int .u64 y,.int .u64 0]).run aa w =
  .ok (.value (.tuple #[.int .u64 ((x+y) % 18446744073709551616),.int .u64 ((x+y)/18446744073709551616)])) w:=by
 rw [run_callFunc_extern Tryz.func60 (by kernel_rfl) (by kernel_rfl) (by kernel_rfl) (e:=add64Entry) (by kernel_rfl),run_add64 x y 0 hx hy (by omega) (by omega)]
 rw [Int.add_zero]
 rfl
theorem aem (p:Int) (w:World) (h1:-85070591730234615865843651857942052864≤p) (h2:p≤85070591730234615865843651857942052864) :
  Calls aa 34 #[.agg #[.int .i64 (p/18446744073709551616),.int .u64 (p % 18446744073709551616)]] w (Cb (sV (p+65535)) (okB ((p+65535)/65536)) w):=by
 generalize hA:p/18446744073709551616=A
 generalize hB:p % 18446744073709551616=B
 have hd:=fun w=>VD B 65535 (by omega) (by omega) w
 generalize hX:(B+65535) % 18446744073709551616=X at hd
 generalize hC:(B+65535)/18446744073709551616=C at hd
 have a1:-4611686018427387904≤A:=by omega
 have a2:A≤4611686018427387904:=by omega
 have c1:0≤C:=by omega
 have c2:C≤1:=by omega
 have e1:(p+65535)/18446744073709551616=A+C:=by omega
 have e2:(p+65535) % 18446744073709551616=X:=by omega
 have hq:=fun w=>Nu (p+65535) w
 rw [e1,e2] at hq
 have HQ:=aG hq
 generalize sV (p+65535)=D at HQ ⊢
 generalize okB ((p+65535)/65536)=O at HQ ⊢
 clear hA hB h1 h2 hX hC e1 e2 hq
 go_enter Tryz.func34,Tryz.ntmps34
 go_wp2_with fail
 refine (HQ.out _).mono ?_
 rintro e w1 ⟨rfl,hb⟩
 go_wp2
 go_ret2
 exact Ct rfl rfl (jD ((aI _ _).alloc (au _) _) hb)
def xC (lo hi:Int) (ok:Bool) (w:World) (e:Ending) (w':World):Prop:=e=.returned (.tuple #[.agg #[.int .i64 lo,.int .i64 hi],.bool ok])∧Below w.heap.size w w'
theorem D5 {a b c d:Int} {x y:Bool} {w':World} (h1:a=c) (h2:b=d) (h3:x=y) (hb:Below w.heap.size w w'):xC a b x w (.returned (.tuple #[.agg #[.int .i64 c,.int .i64 d],.bool y])) w':=by
 subst h1 h2 h3; exact ⟨rfl,hb⟩
end Go.Proofs.En
end
section
namespace Go.Proofs.En
open Go.RowKit
structure iw (W:World) (b:Nat) (x y:Value):Prop where
 c0:W.cell? ⟨b,0,none⟩=some x
 c1:W.cell? ⟨b,1,none⟩=some y
 f0:W.frozen? ⟨b,0,none⟩=false
 f1:W.frozen? ⟨b,1,none⟩=false
 lt:b<W.heap.size
variable {W W':World} {b:Nat} {x y:Value}
theorem iw.keep (h:iw W b x y) (hb:Below W.heap.size W W'):iw W' b x y :=
 ⟨(hb.cell (p:=⟨b,0,none⟩) h.lt).trans h.c0,(hb.cell (p:=⟨b,1,none⟩) h.lt).trans h.c1,(hb.frozen (p:=⟨b,0,none⟩) h.lt).trans h.f0,(hb.frozen (p:=⟨b,1,none⟩) h.lt).trans h.f1,aC h.lt hb.size⟩
theorem iw.new (W:World) (x y:Value) (t:TypeId):iw (W.alloc (.cells #[x,y] t)) W.heap.size x y :=
 ⟨by simp,by simp,by simp,by simp,by simp⟩
theorem iw.al (h:iw W b x y) (o:Obj):iw (W.alloc o) b x y:=h.keep ((aI _ _).alloc (au _) _)
theorem iw.new' (W:World) (n:Nat) (x y:Value) (t:TypeId) (hn:n=W.heap.size):iw (W.alloc (.cells #[x,y] t)) n x y:=by subst hn; exact iw.new W x y t
variable {b':Nat}
theorem iw.other (h:iw W b x y) (hne:b≠b') (o:Nat) (v:Value):iw (W.setCell ⟨b',o,none⟩ v) b x y:=by
 have hb:∀k,k≠b'→(W.setCell ⟨b',o,none⟩ v).heap[k]?=W.heap[k]?:=fun k hk=>ae0 W ⟨b',o,none⟩ v k hk
 have hB:Below b' W (W.setCell ⟨b',o,none⟩ v):=(aI b' W).setCell (p:=⟨b',o,none⟩) (au b') v
 refine ⟨?_,?_,?_,?_,aC h.lt hB.size⟩
 ·rw [←h.c0]; simp [bS,hb b hne]
 ·rw [←h.c1]; simp [bS,hb b hne]
 ·rw [←h.f0]; simp [ae2,hb b hne]
 ·rw [←h.f1]; simp [ae2,hb b hne]
theorem iw.put (h:iw W b x y) (x' y':Value):iw ((W.setCell ⟨b,0,none⟩ x').setCell ⟨b,1,none⟩ y') b x' y':=by
 have h0:=h.c0; have h1:=h.c1; have h2:=h.f0; have h3:=h.f1
 refine ⟨by simp [go_sem,h0],by simp [go_sem,h1],by simp [go_sem,h2],by simp [go_sem,h3],by have:=h.lt; simp [afg]; exact this⟩
structure Row (W:World) (b:Nat) (l:List Value):Prop where
 c:∀j v,l[j]?=some v→W.cell? ⟨b,j,none⟩=some v
 lt:b<W.heap.size
variable {l:List Value}
theorem Row.keep (h:Row W b l) (hb:Below W.heap.size W W'):Row W' b l :=
 ⟨fun j v hj=>(hb.cell (p:=⟨b,j,none⟩) h.lt).trans (h.c j v hj),aC h.lt hb.size⟩
theorem Row.other (h:Row W b l) (hne:b≠b') (o:Nat) (v:Value):Row (W.setCell ⟨b',o,none⟩ v) b l:=by
 have hB:Below b' W (W.setCell ⟨b',o,none⟩ v):=(aI b' W).setCell (p:=⟨b',o,none⟩) (au b') v
 refine ⟨fun j u hj=>?_,aC h.lt hB.size⟩
 rw [←h.c j u hj]; simp [bS,ae0 W ⟨b',o,none⟩ v b hne]
theorem Row.al (h:Row W b l) (o:Obj):Row (W.alloc o) b l:=h.keep ((aI _ _).alloc (au _) _)
theorem Row.new (W:World) (l:List Value) (t:TypeId):Row (W.alloc (.cells l.toArray t)) W.heap.size l:=by
 refine ⟨fun j v hj=>?_,by simp⟩
 have e:(W.alloc (.cells l.toArray t)).heap[W.heap.size]?=some (.cells l.toArray t):=by
  show (W.heap.push (.cells l.toArray t))[W.heap.size]?=_
  exact Array.getElem?_push_size
 exact (cell_of_row _ _ _ _ _ _ e).trans (by simpa using hj)
theorem Pt {w1 w2:World} {b0 b1:Nat} {z u:Value} (h0:b0<W.heap.size) (h1:b1<W.heap.size)
  (h:w1.cell? ⟨b0,0,none⟩=some x∧w1.cell? ⟨b0,1,none⟩=some y∧w1.cell? ⟨b1,0,none⟩=some z∧w1.cell? ⟨b1,1,none⟩=some u∧Below W.heap.size W w1) (hb:Below w1.heap.size w1 w2) :
  w2.cell? ⟨b0,0,none⟩=some x∧w2.cell? ⟨b0,1,none⟩=some y∧w2.cell? ⟨b1,0,none⟩=some z∧w2.cell? ⟨b1,1,none⟩=some u∧Below W.heap.size W w2:=by
 obtain ⟨a1,a2,a3,a4,a5⟩:=h
 have l0:=aC h0 a5.size
 have l1:=aC h1 a5.size
 exact ⟨(hb.cell (p:=⟨b0,0,none⟩) l0).trans a1,(hb.cell (p:=⟨b0,1,none⟩) l0).trans a2,(hb.cell (p:=⟨b1,0,none⟩) l1).trans a3,(hb.cell (p:=⟨b1,1,none⟩) l1).trans a4,a5.trans (hb.mono a5.size)⟩
end Go.Proofs.En
end
