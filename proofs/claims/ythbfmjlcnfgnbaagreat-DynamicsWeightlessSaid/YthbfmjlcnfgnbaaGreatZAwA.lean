/-
  Part of the proof: see the last text.
-/
import Derived.Test.YthbfmjlcnfgnbaaGreatProg
import Derived.KernelRfl
import Derived.WalkKit
import Derived.Test.YthbfmjlcnfgnbaaGreatZSb
set_option linter.unusedVariables false
set_option maxHeartbeats 8000000
open BitVec renaming ofInt→ae6
open Go.IntKind renaming i64→bg
open List renaming all_eq_true→bn,mem_cons→ag
open Nat renaming beq→ay,eq_of_beq_eq_true→bf
open Option.some renaming injEq→ak
open Go.Result renaming andThen_ok→bC
open Go.Sem renaming run_bind→di,run_pure→dA
open Go.Proofs.Tryz renaming prog→aa
section
namespace Go.Proofs
open Go.Sm
def Tryz.XG:List (Nat×List Nat):=[(7,[24,28,31]),(16,[8,9]),(20,[58,66,70,109]),(26,[24,27]),(35,[5,10]),(37,[5]),(39,[6,7]),(41,[28]),(44,[14]),(45,[30]),(64,[12]),(73,[7]),(86,[1]),(98,[11]),(99,[1]),(102,[12]),(164,[23,39]),(165,[27,41])]
def Tryz.esc (f:FuncId) (t:Nat):Bool:=Tryz.XG.any fun x=>ay x.1 f&&x.2.any fun y=>ay y t
def Tryz.add64Entry:Array Value→Sem Value:=(Extern.MathBitsCarry.rows.map (·.2)).headD fun _=>pure undef
def Tryz.xt:FuncId→Option (Array Value→Sem Value):=fun f=>bif ay f 60 then some Tryz.add64Entry else none
theorem Tryz.aeP:∀f e,Tryz.xt f=some e→∃fn,aa.funcs[f]?=some fn∧fn.body.isNone=true∧Extern.findNext fn=none∧Extern.find fn=some e:=by
 intro f e h
 unfold Tryz.xt at h
 cases hf:ay f 60 with
 | false=>rw [hf] at h; cases h
 | true =>
  have hf':f=60:=bf hf
  subst hf'
  simp only [hf,cond_true,ak] at h
  subst h
  exact ⟨Tryz.f60,Tryz.func60,by kernel_rfl,by kernel_rfl,by kernel_rfl⟩
theorem Tryz.mixed:aa.follows .mixedOrders=true:=by kernel_rfl
def ZX (P:Program):Bool:=P.funcs.toList.all fun fn=>!(fn.name== "runtime.NumGoroutine")
theorem Tryz.ZY:ZX aa=true:=by kernel_rfl
theorem Tryz.named:kP aa:=by
 intro f fn h
 have:=bn.1 Tryz.ZY fn (by
  have:fn∈aa.funcs:=Array.mem_of_getElem? h
  simpa using this)
 simpa using this
end Go.Proofs
end
section
namespace Go.Proofs
open Go.Sm Go.RowKit
theorem Tryz.ky:Go.Sm.kP aa:=Tryz.named
def var (i:Nat):Value:=mk 0 (.int .i64 i) []
def mB (c:Nat) (xs:List Value):Value:=mk c (.bool true) xs
def mI (c:Nat) (xs:List Value):Value:=mk c (.int .i64 0) xs
def wr (n:Int):Int:=bg.wrap n
def mn (a b:Int):Int:=if b<a then b else a
def mx (a b:Int):Int:=if a<b then b else a
def Wu (a b:Int):Int:=bg.wrap (ae6 bg.bits a &&& ae6 bg.bits b).toNat
theorem Zo {A:Type} {l:List A} {n:Nat} (h:l.length=n+1):∃a t,l=a::t∧t.length=n:=by
 cases l with
 | nil=>simp at h
 | cons a t=>exact ⟨a,t,rfl,by simpa using h⟩
theorem ed (E:Env):Sat E []:=fun p h=>by cases h
variable {E:Env}
theorem o7 {c b:Value} {g:List (Value×Value)} (h:∃d x,eF E d c=some x∧eF E d b=some x) (hg:Sat E g):Sat E ((c,b)::g):=by
 intro p hp
 rcases ag.1 hp with rfl | hp
 ·exact h
 ·exact hg p hp
theorem Nh {E E':Env} (h1:E.fn=E'.fn) (h2:E.zt=E'.zt) (l:List Int):∀(j:Nat) (rs:List tQ),qZ E l j rs=qZ E' l j rs
 | _,[]=>rfl
 | j,r::rs=>by
  have:zm E j l r=zm E' j l r:=by cases r<;>simp [zm,h1,h2]
  simp only [qZ,this,Nh h1 h2 l (j+r.wid) rs]
variable {E':Env}
theorem Cw {P:Program} (h1:E.fn=E'.fn) (h2:E.zt=E'.zt) {e:eZ} (h:fo P E e):fo P E' e:=by
 intro l w hl
 rw [←Nh h1 h2]
 exact h l w hl
theorem Yl (d:Nat) (a c:Int) (w:World):(Op.equalIn (d+1) 2 (.int .i64 a) (.int .i64 c)).run aa w=.ok (a==c) w:=by
 rw [Op.equalIn]
 simp only [di,run_underlying Tryz.underlying2,bC,if_true,dA]
theorem XC (d:Nat) (a b c e:Int) (w:World):(Op.equalIn (d+2) 23 (.agg #[.int .i64 a,.int .i64 b]) (.agg #[.int .i64 c,.int .i64 e])).run aa w=.ok (a==c&&b==e) w:=by
 have h1:aa.stoodInHeld 23=false:=by kernel_rfl
 have p0:∀x y:Int,(part 2 #[.int .i64 x,.int .i64 y] 0).run aa w=.ok (.int .i64 x) w:=fun x y=>by
  simp [part]
 have p1:∀x y:Int,(part 2 #[.int .i64 x,.int .i64 y] 1).run aa w=.ok (.int .i64 y) w:=fun x y=>by
  simp [part]
 rw [Op.equalIn]
 simp only [di,run_underlying Tryz.underlying23,bC,program,Sem.run,h1,Bool.false_eq_true,if_false]
 cases hac:(a==c)<;>cases hbe:(b==e)<;>simp [di,p0,p1,Yl,hac,hbe]
theorem Cy (l:Env) (g:List (Value×Value)) (x:FuncId→Option (Array Value→Sem Value)) {ws:List (Nat×Value×Nat×Nat)} {ls:List (Nat×Value)} {wb:List Go.Sm.eG} {sb:List (Nat×Value×Nat)}:DV aa ⟨x,l,g,[23],ws,ls,wb,sb⟩:=by
 intro t ht o x y z ρ a b c d w ho hx hy
 have ht':t=23:=by simpa using ht
 subst ht'
 have hg:aa.eqGuardType aa.depth 23=false:=by kernel_rfl
 have he:(Op.equal 23 (.agg #[.int .i64 a,.int .i64 b]) (.agg #[.int .i64 c,.int .i64 d])).run aa w=.ok (a==c&&b==d) w:=XC 9998 a b c d w
 unfold execOp
 rw [ho]
 simp [hx,hy,eqGuard,binOp,program,Sem.run,hg,he]
theorem CK:∀f e,Tryz.xt f=some e→∃fn,aa.funcs[f]?=some fn∧fn.body.isNone=true∧Extern.findNext fn=none∧Extern.find fn=some e:=Tryz.aeP
end Go.Proofs
end
