/-
  Part of the proof: see the last text.
-/
import Derived.WalkKit
set_option linter.unusedVariables false
set_option maxHeartbeats 8000000
open Array renaming getElem?_eq_some_iff→aB
open BitVec renaming ofInt→ae6
open Bool renaming and_eq_true→aQ,false_eq_true→ajp
open Go.Builtin renaming append_→afi,firstCells→dE
open Go.Call renaming operands→ae5
open Go.Instr renaming index→aeV,sliceBounds→afh
open List renaming all_eq_true→bn,append_assoc→afd,eq_nil_of_length_eq_zero→bR,getElem?_append_left→aH,getElem?_append_right→bu,getElem?_drop→aeX,getElem?_eq_getElem→ah,getElem?_eq_none→bQ,getElem?_eq_some_iff→ai,getElem?_map→bY,getElem?_of_mem→cZ,getElem?_set_ne→bz,getElem?_take→dx,length_append→afa,map_cons→dI,map_nil→ae9,mem_append→bH,mem_cons_of_mem→aT,mem_cons_self→aA,mem_of_getElem?→aN,range→dh,size_toArray→aeR,take_of_length_le→dH
open List.cons renaming injEq→afj
open Nat renaming beq→ay,ble→amE,eq_of_beq_eq_true→bf,le_of_ble_eq_true→ae8,le_refl→au,le_trans→aZ,lt_of_lt_of_le→aC,lt_or_ge→cu
open Ne renaming symm→ae4
open Go.Op renaming operands→bF
open Option renaming map_eq_some_iff→aR
open Option.some renaming injEq→ak
open Prod.mk renaming injEq→aP
open Go.Result renaming andThen_ok→bC
open Go.Sem renaming run_bind→di,run_pure→dA
section
section
namespace Go.Sm
section
variable {α:Type}
def uh (n:Nat) (k:Nat→α):α:=match n with
 | 0=>k 0
 | p+1=>k (p+1)
def JI (n:Int) (k:Int→α):α:=match n with
 | .ofNat m=>uh m fun m=>k (.ofNat m)
 | .negSucc m=>uh m fun m=>k (.negSucc m)
def OJ (b:Bool) (k:Bool→α):α:=match b with
 | true=>k true
 | false=>k false
def JL (s:Option Nat) (k:Option Nat→α):α:=match s with
 | none=>k none
 | some n=>uh n fun n=>k (some n)
def Ey (a:Addr) (k:Addr→α):α:=uh a.block fun b=>uh a.off fun o=>JL a.spot fun s=>k ⟨b,o,s⟩
def xY (f:Value→(Value→α)→α):List Value→(List Value→α)→α
 | [],k=>k []
 | v::vs,k=>f v fun v=>xY f vs fun l=>k (v::l)
def vT:Nat→Value→(Value→α)→α
 | 0,v,k=>k v
 | d+1,v,k=>match v with
  | .bool b=>OJ b fun b=>k (.bool b)
  | .int kd n=>JI n fun n=>k (.int kd n)
  | .pointer (some a)=>Ey a fun a=>k (.pointer (some a))
  | .slice none n c=>uh n fun n=>uh c fun c=>k (.slice none n c)
  | .slice (some a) n c=>Ey a fun a=>uh n fun n=>uh c fun c=>k (.slice (some a) n c)
  | .agg ⟨l⟩=>xY (vT d) l fun l=>k (.agg ⟨l⟩)
  | .tuple ⟨l⟩=>xY (vT d) l fun l=>k (.tuple ⟨l⟩)
  | .func fn ⟨l⟩ ⟨l2⟩=>xY (vT d) l fun l=>xY (vT d) l2 fun l2=>k (.func fn ⟨l⟩ ⟨l2⟩)
  | .iface t v=>vT d v fun v=>k (.iface t v)
  | v=>k v
def JM (l:List Value) (k:List Value→α):α:=xY (vT 4) l k
def qL {β:Type}:List β→(List β→α)→α
 | [],k=>k []
 | x::l,k=>qL l fun l=>k (x::l)
def zq {β:Type}:List β→Nat→β→(List β→α)→α
 | [],_,_,k=>k []
 | x::l,n,v,k=>match n with
  | 0=>k (v::l)
  | n+1=>zq l n v fun l=>k (x::l)
theorem xZ (n:Nat) (k:Nat→α):uh n k=k n:=by cases n<;>rfl
theorem XW (n:Int) (k:Int→α):JI n k=k n:=by cases n<;>simp [JI,xZ]
theorem XV (n:Bool) (k:Bool→α):OJ n k=k n:=by cases n<;>rfl
theorem XX (n:Option Nat) (k:Option Nat→α):JL n k=k n:=by cases n<;>simp [JL,xZ]
theorem XU (a:Addr) (k:Addr→α):Ey a k=k a:=by simp [Ey,xZ,XX]
theorem JH {f:Value→(Value→α)→α} (hf:∀v k,f v k=k v):∀(l:List Value) (k:List Value→α),xY f l k=k l
 | [],k=>rfl
 | v::l,k=>by simp [xY,hf,JH hf l]
theorem yc:∀(d:Nat) (v:Value) (k:Value→α),vT d v k=k v
 | 0,_,_=>rfl
 | d+1,v,k=>by
  unfold vT
  split<;>simp [XV,XW,xZ,XU,JH (yc d),yc d]
theorem Ez (l:List Value) (k:List Value→α):JM l k=k l:=JH (yc 4) l k
theorem nC {β:Type}:∀(l:List β) (k:List β→α),qL l k=k l
 | [],_=>rfl
 | x::l,k=>by simp [qL,nC l]
theorem AB {β:Type}:∀(l:List β) (n:Nat) (v:β) (k:List β→α),zq l n v k=k (l.set n v)
 | [],_,_,_=>rfl
 | x::l,n,v,k=>by
  cases n with
  | zero=>rfl
  | succ n=>simp [zq,AB l n v]
end
structure eG where
 cells:List Value
 elem:TypeId
 eD:Nat
 loose:Bool
 live:Bool
abbrev Hp:=List eG
structure Env where
 rho:Nat→Int
 acZ:Nat→Bool
 fn:Nat→List Int→Int
 zt:Nat→List Int→Bool
 sl:Nat→Option Addr×Nat×Nat
 fz:Nat→Option (Array Value×TypeId×(Nat×Nat))
 wl:List (Nat×Nat)
 f0:Option Nat
def jq (f:FuncId):Bool:=amE 1000000 f
def ints:List Value→Option (List Int)
 | []=>some []
 | .int _ n::l=>match ints l with
  | some r=>some (n::r)
  | none=>none
 | _=>none
def iG (E:Env) (c:Nat) (vs:List Value):Option Value :=
 match vs with
 | []=>none
 | tag::xs =>
  match tag with
  | .int k i =>
   match c,xs with
   | 0,[]=>some (.int k (E.rho i.toNat))
   | 2,[.int k1 a,.int k2 b]=>if k1=k∧k2=k then some (.int k (k.wrap (a+b))) else none
   | 3,[.int k1 a,.int k2 b]=>if k1=k∧k2=k then some (.int k (k.wrap (a - b))) else none
   | 4,[.int k1 a,.int k2 b]=>if k1=k∧k2=k then some (.int k (k.wrap (a*b))) else none
   | 5,[.int k1 a,.int k2 b]=>if k1=k∧k2=k then some (.int k (k.wrap (a.tdiv b))) else none
   | 6,[.int k1 a,.int k2 b]=>if k1=k∧k2=k then some (.int k (a.tmod b)) else none
   | 7,[.int k1 a,.int k2 b]=>if k1=k∧k2=k then some (.int k (k.wrap (ae6 k.bits a &&& ae6 k.bits b).toNat)) else none
   | 8,[.int k1 a,.int k2 b]=>if k1=k∧k2=k then some (.int k (k.wrap (ae6 k.bits a ||| ae6 k.bits b).toNat)) else none
   | 10,[.int k1 a,.int _ y]=>if k1=k then some (.int k (k.wrap (a*2^(min y.toNat k.bits)))) else none
   | 11,[.int k1 a,.int _ y]=>if k1=k then some (.int k (a.fdiv (2^(min y.toNat k.bits)))) else none
   | 12,[.int k1 a,.int k2 b]=>if k1=k∧k2=k then some (.int k (if b<a then b else a)) else none
   | 13,[.int k1 a,.int k2 b]=>if k1=k∧k2=k then some (.int k (if a<b then b else a)) else none
   | 14,[.int k1 a]=>if k1=k then some (.int k (k.wrap (-a))) else none
   | 15,[.int _ a]=>some (.int k (k.wrap a))
   | c,xs=>bif amE 1000 c then (match ints xs with
    | some l=>some (.int k (E.fn (c - 1000) l))
    | none=>none) else none
  | .bool _ =>
   match c,xs with
   | 1,[.int _ i]=>some (.bool (E.acZ i.toNat))
   | 20,[.int k1 a,.int k2 b]=>if k1=k2 then some (.bool (decide (a<b))) else none
   | 21,[.int k1 a,.int k2 b]=>if k1=k2 then some (.bool (decide (a≤b))) else none
   | 22,[.int k1 a,.int k2 b]=>if k1=k2 then some (.bool (decide (b<a))) else none
   | 23,[.int k1 a,.int k2 b]=>if k1=k2 then some (.bool (decide (b≤a))) else none
   | 24,[.int k1 a,.int k2 b]=>if k1=k2 then some (.bool (a==b)) else none
   | 25,[.int k1 a,.int k2 b]=>if k1=k2 then some (.bool (a != b)) else none
   | 26,[.bool a]=>some (.bool (!a))
   | 27,[.bool a,.bool b]=>some (.bool (a||b))
   | c,xs=>bif amE 1000 c then (match ints xs with
    | some l=>some (.bool (E.zt (c - 1000) l))
    | none=>none) else none
  | _=>none
def eQ (f:Value→Option Value):List Value→Option (List Value)
 | []=>some []
 | v::l=>match f v with
  | some x=>match eQ f l with
   | some r=>some (x::r)
   | none=>none
  | none=>none
def eF (E:Env):Nat→Value→Option Value
 | 0,_=>none
 | d+1,v=>match v with
  | .int k n=>some (.int k n)
  | .bool b=>some (.bool b)
  | .func (.func f) ⟨xs⟩ ⟨[]⟩=>bif jq f then (match eQ (eF E d) xs with
   | some vs=>iG E (f - 1000000) vs
   | none=>none) else none
  | _=>none
theorem Ki {f g:Value→Option Value} (h:∀v x,f v=some x→g v=some x):∀(l r:List Value),eQ f l=some r→eQ g l=some r
 | [],r,e=>e
 | v::l,r,e=>by
  unfold eQ at e ⊢
  split at e
  ·rename_i x hx
   split at e
   ·rename_i s hs
    rw [h v x hx]
    simp only
    rw [Ki h l s hs]
    exact e
   ·cases e
  ·cases e
theorem OD (E:Env):∀(d:Nat) (v x:Value),eF E d v=some x→eF E (d+1) v=some x
 | 0,_,_,h=>by cases h
 | d+1,v,x,h=>by
  unfold eF at h ⊢
  split at h
  ·exact h
  ·exact h
  ·rename_i f xs
   cases hf:jq f with
   | false=>rw [hf] at h; cases h
   | true =>
    rw [hf] at h
    simp only [cond_true] at h ⊢
    split at h
    ·rename_i vs hv
     rw [Ki (OD E d) xs vs hv]
     exact h
    ·cases h
  ·cases h
variable {d d':Nat} {v x:Value}
theorem xV (E:Env) (hd:d≤d') (h:eF E d v=some x):eF E d' v=some x:=by
 induction hd with
 | refl=>exact h
 | step _ ih=>exact OD E _ v x ih
variable {y:Value}
theorem ru (E:Env) (h:eF E d v=some x) (h':eF E d' v=some y):x=y:=by
 have a:=xV E (Nat.le_max_left d d') h
 have b:=xV E (Nat.le_max_right d d') h'
 rw [a] at b
 injection b
variable {E:Env} {c:Nat} {k:IntKind} {xs:List Value}
theorem D7 {i:Int} (h:iG E c (.int k i::xs)=some v):∃n,v=.int k n:=by
 unfold iG at h
 simp only at h
 split at h
 all_goals first
  | (injection h with h; exact ⟨_,h.symm⟩)
  | (split at h
     ·injection h with h; exact ⟨_,h.symm⟩
     ·cases h)
  | (cases hc:amE 1000 c with
     | false=>rw [hc] at h; cases h
     | true =>
      rw [hc] at h
      simp only [cond_true] at h
      split at h
      ·injection h with h; exact ⟨_,h.symm⟩
      ·cases h)
variable {b0:Bool}
theorem D6 (h:iG E c (.bool b0::xs)=some v):∃b,v=.bool b:=by
 unfold iG at h
 simp only at h
 split at h
 all_goals first
  | (injection h with h; exact ⟨_,h.symm⟩)
  | (split at h
     ·injection h with h; exact ⟨_,h.symm⟩
     ·cases h)
  | (cases hc:amE 1000 c with
     | false=>rw [hc] at h; cases h
     | true =>
      rw [hc] at h
      simp only [cond_true] at h
      split at h
      ·injection h with h; exact ⟨_,h.symm⟩
      ·cases h)
def mk (c:Nat) (tag:Value) (xs:List Value):Value:=.func (.func (1000000+c)) ⟨tag::xs⟩ ⟨[]⟩
theorem adK (c:Nat):jq (1000000+c)=true:=by simp [jq]
variable {tag:Value}
theorem JD (ht:(∃k n,tag=.int k n)∨∃b,tag=.bool b):eF E (d+1) tag=some tag:=by
 rcases ht with ⟨k,n,rfl⟩ | ⟨b,rfl⟩<;>rfl
theorem CG:eF E (d+1) (mk c tag xs)=match eQ (eF E d) (tag::xs) with
  | some vs=>iG E c vs
  | none=>none:=by
 have e:1000000+c - 1000000=c:=by omega
 show (bif jq (1000000+c) then (match eQ (eF E d) (tag::xs) with
   | some vs=>iG E (1000000+c - 1000000) vs
   | none=>none) else none)=_
 rw [adK,e,cond_true]
variable {r:Value}
theorem Et {a:Value} (ht:(∃k n,tag=.int k n)∨∃b,tag=.bool b) (hx:eF E d x=some a) (hr:iG E c [tag,a]=some r):∃d,eF E d (mk c tag [x])=some r:=by
 refine ⟨d+1+1,?_⟩
 have e1:=xV E (Nat.le_succ d) hx
 have e0:=JD (E:=E) (d:=d) ht
 rw [CG]
 simp only [eQ,e0,e1]
 exact hr
theorem vR {a b:Value} (ht:(∃k n,tag=.int k n)∨∃b,tag=.bool b) (hx:eF E d x=some a) (hy:eF E d' y=some b) (hr:iG E c [tag,a,b]=some r):∃d,eF E d (mk c tag [x,y])=some r:=by
 refine ⟨max d d'+1+1,?_⟩
 have e1:=xV E (Nat.le_succ_of_le (Nat.le_max_left d d')) hx
 have e2:=xV E (Nat.le_succ_of_le (Nat.le_max_right d d')) hy
 have e0:=JD (E:=E) (d:=max d d') ht
 rw [CG]
 simp only [eQ,e0,e1,e2]
 exact hr
def Sat (E:Env) (mP:List (Value×Value)):Prop:=∀p∈mP,∃d x,eF E d p.1=some x∧eF E d p.2=some x
structure Mp where
 gb:Nat→Option Nat
 lb:Nat→Option Nat
 loose:Nat→Bool
 eD:Nat→Nat
 tot:Nat→Nat
 env:Env
 sh:Nat→Nat
 bs:Nat→Array Value×TypeId×(Nat×Nat)
inductive VR (m:Mp):Value→Value→Prop
 | bool (b:Bool):VR m (.bool b) (.bool b)
 | int (k:IntKind) (n:Int):VR m (.int k n) (.int k n)
 | float (k:FloatKind) (n:Nat):VR m (.float k n) (.float k n)
 | string (s:ByteArray):VR m (.string s) (.string s)
 | tH:VR m (.pointer none) (.pointer none)
 | pO {i g off:Nat} (h:m.gb i=some g):VR m (.pointer (some ⟨i,off,none⟩)) (.pointer (some ⟨g,off,none⟩))
 | afr {i g off off':Nat} (h:m.lb i=some g) (ho:off'=off+m.sh i):VR m (.pointer (some ⟨i,off,some 0⟩)) (.pointer (some ⟨g,off',none⟩))
 | qD (n c:Nat):VR m (.slice none n c) (.slice none n c)
 | ow {i g off n c:Nat} (h:m.gb i=some g):VR m (.slice (some ⟨i,off,none⟩) n c) (.slice (some ⟨g,off,none⟩) n c)
 | qW {i g off n c c':Nat} (h:m.gb i=some g) (hl:m.loose i=true) (hc:c≤c') (ht:off+c'*m.eD i≤m.tot i) :
   VR m (.slice (some ⟨i,off,none⟩) n c) (.slice (some ⟨g,off,none⟩) n c')
 | qV {i g off c':Nat} {a:Addr} (h:m.gb i=some g) (hl:m.loose i=true):VR m (.slice (some ⟨i,off,none⟩) 0 0) (.slice (some a) 0 c')
 | xm {i g off off' n c:Nat} (h:m.lb i=some g) (ho:off'=off+m.sh i):VR m (.slice (some ⟨i,off,some 0⟩) n c) (.slice (some ⟨g,off',none⟩) n c)
 | uq:VR m (.map none) (.map none)
 | nilFunc:VR m .nilFunc .nilFunc
 | nilIface:VR m .nilIface .nilIface
 | jX {f:FuncId} {xs:List Value} {k:IntKind} {n:Int} (hf:jq f=true) (h:∃d,eF m.env d (.func (.func f) ⟨xs⟩ ⟨[]⟩)=some (.int k n)):VR m (.func (.func f) ⟨xs⟩ ⟨[]⟩) (.int k n)
 | jV {f:FuncId} {xs:List Value} {b:Bool} (hf:jq f=true) (h:∃d,eF m.env d (.func (.func f) ⟨xs⟩ ⟨[]⟩)=some (.bool b)):VR m (.func (.func f) ⟨xs⟩ ⟨[]⟩) (.bool b)
 | hnd {f:FuncId} (hf:jq f=true) (h2:amE 2000000 f=true):VR m (.func (.func f) ⟨[]⟩ ⟨[]⟩) (.slice (m.env.sl (f - 2000000)).1 (m.env.sl (f - 2000000)).2.1 (m.env.sl (f - 2000000)).2.2)
 | func {f:FuncId} {fs fs' cs cs':List Value} (hf:jq f=false) (hl:fs.length=fs'.length) (h:∀(i:Nat) (v v':Value),fs[i]?=some v→fs'[i]?=some v'→VR m v v')
   (hl2:cs.length=cs'.length) (h2:∀(i:Nat) (v v':Value),cs[i]?=some v→cs'[i]?=some v'→VR m v v') :
   VR m (.func (.func f) ⟨fs⟩ ⟨cs⟩) (.func (.func f) ⟨fs'⟩ ⟨cs'⟩)
 | iface {t:TypeId} {v v':Value} (h:VR m v v'):VR m (.iface t v) (.iface t v')
 | agg {cs cs':List Value} (hl:cs.length=cs'.length) (h:∀(i:Nat) (v v':Value),cs[i]?=some v→cs'[i]?=some v'→VR m v v'):VR m (.agg ⟨cs⟩) (.agg ⟨cs'⟩)
 | tuple {cs cs':List Value} (hl:cs.length=cs'.length) (h:∀(i:Nat) (v v':Value),cs[i]?=some v→cs'[i]?=some v'→VR m v v'):VR m (.tuple ⟨cs⟩) (.tuple ⟨cs'⟩)
def ek (m:Mp) (l l':List Value):Prop:=l.length=l'.length∧∀(i:Nat) (v v':Value),l[i]?=some v→l'[i]?=some v'→VR m v v'
structure Le (m m':Mp):Prop where
 gb:∀i g,m.gb i=some g→m'.gb i=some g
 lb:∀i g,m.lb i=some g→m'.lb i=some g
 loose:∀i g,m.gb i=some g→m'.loose i=m.loose i
 eD:∀i g,m.gb i=some g→m'.eD i=m.eD i
 tot:∀i g,m.gb i=some g→m'.tot i=m.tot i
 env:m'.env=m.env
 sh:∀i g,m.lb i=some g→m'.sh i=m.sh i
 bs:m'.bs=m.bs
theorem Le.refl (m:Mp):Le m m:=⟨fun _ _ h=>h,fun _ _ h=>h,fun _ _ _=>rfl,fun _ _ _=>rfl,fun _ _ _=>rfl,rfl,fun _ _ _=>rfl,rfl⟩
theorem Le.trans {a b c:Mp} (h:Le a b) (k:Le b c):Le a c :=
 ⟨fun i g e=>k.gb i g (h.gb i g e),fun i g e=>k.lb i g (h.lb i g e),fun i g e=>(k.loose i g (h.gb i g e)).trans (h.loose i g e),
   fun i g e=>(k.eD i g (h.gb i g e)).trans (h.eD i g e),fun i g e=>(k.tot i g (h.gb i g e)).trans (h.tot i g e),k.env.trans h.env,fun i g e=>(k.sh i g (h.lb i g e)).trans (h.sh i g e),k.bs.trans h.bs⟩
variable {m m':Mp} {v':Value}
theorem VR.mono (hm:Le m m') (h:VR m v v'):VR m' v v':=by
 induction h with
 | bool b=>exact .bool b
 | int k n=>exact .int k n
 | float k n=>exact .float k n
 | string s=>exact .string s
 | tH=>exact .tH
 | pO h=>exact .pO (hm.gb _ _ h)
 | afr h ho=>exact .afr (hm.lb _ _ h) (by rw [hm.sh _ _ h]; exact ho)
 | qD n c=>exact .qD n c
 | ow h=>exact .ow (hm.gb _ _ h)
 | qW h hl hc ht=>exact .qW (hm.gb _ _ h) ((hm.loose _ _ h).trans hl) hc (by rw [hm.eD _ _ h,hm.tot _ _ h]; exact ht)
 | qV h hl=>exact .qV (hm.gb _ _ h) ((hm.loose _ _ h).trans hl)
 | xm h ho=>exact .xm (hm.lb _ _ h) (by rw [hm.sh _ _ h]; exact ho)
 | uq=>exact .uq
 | nilFunc=>exact .nilFunc
 | nilIface=>exact .nilIface
 | jX hf h=>exact .jX hf (by rw [hm.env]; exact h)
 | jV hf h=>exact .jV hf (by rw [hm.env]; exact h)
 | hnd hf h2=>rw [←hm.env]; exact .hnd hf h2
 | func hf hl _ hl2 _ ih ih2=>exact .func hf hl ih hl2 ih2
 | iface _ ih=>exact .iface ih
 | agg hl _ ih=>exact .agg hl ih
 | tuple hl _ ih=>exact .tuple hl ih
theorem ek.mono {m m':Mp} (hm:Le m m') {l l':List Value} (h:ek m l l'):ek m' l l':=⟨h.1,fun i v v' a b=>(h.2 i v v' a b).mono hm⟩
theorem ek.nil (m:Mp):ek m [] []:=⟨rfl,fun i v v' h=>by simp at h⟩
variable {l l':List Value}
theorem ek.cons (h:VR m v v') (hs:ek m l l'):ek m (v::l) (v'::l'):=by
 refine ⟨by simp [hs.1],fun i x x' a b=>?_⟩
 cases i with
 | zero=>simp at a b; subst a; subst b; exact h
 | succ i=>exact hs.2 i x x' (by simpa using a) (by simpa using b)
theorem ek.cons_inv {l'':List Value} (h:ek m (v::l) l''):∃v' l',l''=v'::l'∧VR m v v'∧ek m l l':=by
 cases l'' with
 | nil=>have:=h.1; simp at this
 | cons v' l' =>
  refine ⟨v',l',rfl,h.2 0 v v' rfl rfl,by have:=h.1; simpa using this,fun i x x' a b=>h.2 (i+1) x x' (by simpa using a) (by simpa using b)⟩
theorem ek.at {m:Mp} {l l':List Value} (h:ek m l l') {i:Nat} {v:Value} (hv:l[i]?=some v):∃v',l'[i]?=some v'∧VR m v v':=by
 have hi:i<l.length:=by
  rcases cu i l.length with hlt | hge
  ·exact hlt
  ·rw [bQ hge] at hv; cases hv
 have hi':i<l'.length:=h.1▸hi
 exact ⟨l'[i],ah hi',h.2 i v _ hv (ah hi')⟩
theorem ek.append {a a' b b':List Value} (h:ek m a a') (k:ek m b b'):ek m (a++b) (a'++b'):=by
 refine ⟨by simp [h.1,k.1],fun i v v' e e'=>?_⟩
 by_cases hi:i<a.length
 ·rw [aH hi] at e
  rw [aH (h.1▸hi)] at e'
  exact h.2 i v v' e e'
 ·rw [bu (by omega)] at e
  rw [bu (by have:=h.1; omega),←h.1] at e'
  exact k.2 _ v v' e e'
theorem ek.take {m:Mp} {l l':List Value} (h:ek m l l') (n:Nat):ek m (l.take n) (l'.take n):=by
 refine ⟨by simp [h.1],fun i v v' e e'=>?_⟩
 simp only [dx] at e e'
 split at e
 ·simp_all; exact h.2 i v v' e e'
 ·cases e
theorem ek.drop {m:Mp} {l l':List Value} (h:ek m l l') (n:Nat):ek m (l.drop n) (l'.drop n) :=
 ⟨by simp [h.1],fun i v v' e e'=>h.2 (n+i) v v' (by simpa using e) (by simpa using e')⟩
theorem ek.set {m:Mp} {l l':List Value} (h:ek m l l') (n:Nat) {x x':Value} (hx:VR m x x'):ek m (l.set n x) (l'.set n x'):=by
 refine ⟨by simp [h.1],fun i v v' e e'=>?_⟩
 simp only [List.getElem?_set] at e e'
 rw [←h.1] at e'
 by_cases hi:n=i
 ·subst hi
  by_cases hl:n<l.length
  ·simp [hl] at e e'; subst e; subst e'; exact hx
  ·simp [hl] at e
 ·simp [hi] at e e'; exact h.2 i v v' e e'
theorem ek.agg {m:Mp} {l l':List Value} (h:ek m l l'):VR m (.agg ⟨l⟩) (.agg ⟨l'⟩):=.agg h.1 h.2
theorem ek.tuple {m:Mp} {l l':List Value} (h:ek m l l'):VR m (.tuple ⟨l⟩) (.tuple ⟨l'⟩):=.tuple h.1 h.2
theorem VR.undef (m:Mp):VR m undef undef:=.tuple rfl (fun i v v' h=>by simp at h)
def nY:Nat→Value→Bool
 | 0,_=>false
 | d+1,v=>match v with
  | .bool _ | .int _ _ | .float _ _ | .string _ | .pointer none | .slice none _ _ | .map none | .nilFunc | .nilIface=>true
  | .agg cs=>cs.toList.all (nY d)
  | .tuple cs=>cs.toList.all (nY d)
  | .iface _ x=>nY d x
  | .func (.func f) fs cs=>!jq f&&(fs.toList.all (nY d)&&cs.toList.all (nY d))
  | _=>false
def qy:Nat→Value→Bool
 | 0,_=>false
 | d+1,v=>match v with
  | .pointer (some a)=>a.spot.isNone
  | .slice (some a) _ _=>a.spot.isNone
  | .agg cs=>cs.toList.all (qy d)
  | .tuple cs=>cs.toList.all (qy d)
  | .iface _ x=>qy d x
  | .func (.func f) fs cs=>bif jq f then true else fs.toList.all (qy d)&&cs.toList.all (qy d)
  | .func _ fs cs=>fs.toList.all (qy d)&&cs.toList.all (qy d)
  | _=>true
theorem Da (hl:l.length=l'.length) (h:∀(i:Nat) (v v':Value),l[i]?=some v→l'[i]?=some v'→v=v'):l=l':=by
 apply List.ext_getElem?
 intro i
 by_cases hi:i<l.length
 ·have hi':i<l'.length:=hl▸hi
  rw [ah hi,ah hi',h i _ _ (ah hi) (ah hi')]
 ·rw [bQ (by omega),bQ (by omega)]
theorem zM {m:Mp}:∀(d:Nat) (v v':Value),nY d v=true→VR m v v'→v=v'
 | 0,_,_,h,_=>by simp [nY] at h
 | d+1,v,v',h,hv=>by
  cases hv with
  | agg hl hh =>
   simp only [nY,bn] at h
   rw [Da hl fun i a b ha hb=>zM d a b (h a (aN ha)) (hh i a b ha hb)]
  | tuple hl hh =>
   simp only [nY,bn] at h
   rw [Da hl fun i a b ha hb=>zM d a b (h a (aN ha)) (hh i a b ha hb)]
  | iface hh=>simp only [nY] at h; rw [zM d _ _ h hh]
  | jX hf _=>simp [nY,hf] at h
  | jV hf _=>simp [nY,hf] at h
  | hnd hf _=>simp [nY,hf] at h
  | func hf hl hh hl2 hh2 =>
   simp only [nY,aQ,bn] at h
   replace h:=h.2
   rw [Da hl fun i a b ha hb=>zM d a b (h.1 a (aN ha)) (hh i a b ha hb),Da hl2 fun i a b ha hb=>zM d a b (h.2 a (aN ha)) (hh2 i a b ha hb)]
  | _=>first | rfl | (simp [nY] at h)
theorem rG (m:Mp):∀(d:Nat) (v:Value),nY d v=true→VR m v v
 | 0,_,h=>by simp [nY] at h
 | d+1,v,h=>by
  unfold nY at h
  split at h
  ·exact .bool _
  ·exact .int _ _
  ·exact .float _ _
  ·exact .string _
  ·exact .tH
  ·exact .qD _ _
  ·exact .uq
  ·exact .nilFunc
  ·exact .nilIface
  ·rename_i cs
   obtain ⟨l⟩:=cs
   simp only [bn] at h
   exact .agg rfl fun i a b ha hb=>by rw [ha] at hb; injection hb with hb; subst hb; exact rG m d a (h a (aN ha))
  ·rename_i cs
   obtain ⟨l⟩:=cs
   simp only [bn] at h
   exact .tuple rfl fun i a b ha hb=>by rw [ha] at hb; injection hb with hb; subst hb; exact rG m d a (h a (aN ha))
  ·exact .iface (rG m d _ h)
  ·rename_i f fs cs
   obtain ⟨l⟩:=fs
   obtain ⟨l2⟩:=cs
   simp only [aQ,bn] at h
   have hf:jq f=false:=by simpa using h.1
   replace h:=h.2
   exact .func hf rfl (fun i a b ha hb=>by rw [ha] at hb; injection hb with hb; subst hb; exact rG m d a (h.1 a (aN ha))) rfl
    (fun i a b ha hb=>by rw [ha] at hb; injection hb with hb; subst hb; exact rG m d a (h.2 a (aN ha)))
  ·cases h
theorem zI {m m':Mp} (hg:m'.gb=m.gb) (h1:m'.loose=m.loose) (h2:m'.eD=m.eD) (h3:m'.tot=m.tot) (h4:m'.env=m.env) :
  ∀(d:Nat) (v v':Value),qy d v=true→VR m v v'→VR m' v v'
 | 0,_,_,h,_=>by simp [qy] at h
 | d+1,v,v',h,hv=>by
  cases hv with
  | bool b=>exact .bool b
  | int k n=>exact .int k n
  | float k n=>exact .float k n
  | string s=>exact .string s
  | tH=>exact .tH
  | pO e=>exact .pO (hg▸e)
  | afr _ _=>simp [qy] at h
  | qD n c=>exact .qD n c
  | ow e=>exact .ow (hg▸e)
  | qW e hl hc ht=>exact .qW (hg▸e) (h1▸hl) hc (by rw [h2,h3]; exact ht)
  | qV e hl=>exact .qV (hg▸e) (h1▸hl)
  | xm _ _=>simp [qy] at h
  | uq=>exact .uq
  | nilFunc=>exact .nilFunc
  | nilIface=>exact .nilIface
  | jX hf hh=>exact .jX hf (by rw [h4]; exact hh)
  | jV hf hh=>exact .jV hf (by rw [h4]; exact hh)
  | hnd hf hh=>rw [←h4]; exact .hnd hf hh
  | func hf hl hh hl2 hh2 =>
   simp only [qy,hf,cond_false,aQ,bn] at h
   exact .func hf hl (fun i a b ha hb=>zI hg h1 h2 h3 h4 d a b (h.1 a (aN ha)) (hh i a b ha hb)) hl2
    (fun i a b ha hb=>zI hg h1 h2 h3 h4 d a b (h.2 a (aN ha)) (hh2 i a b ha hb))
  | iface hh=>simp only [qy] at h; exact .iface (zI hg h1 h2 h3 h4 d _ _ h hh)
  | agg hl hh =>
   simp only [qy,bn] at h
   exact .agg hl (fun i a b ha hb=>zI hg h1 h2 h3 h4 d a b (h a (aN ha)) (hh i a b ha hb))
  | tuple hl hh =>
   simp only [qy,bn] at h
   exact .tuple hl (fun i a b ha hb=>zI hg h1 h2 h3 h4 d a b (h a (aN ha)) (hh i a b ha hb))
def wW:Nat→Value→Bool
 | 0,_=>false
 | d+1,v=>match v with
  | .bool _ | .int _ _ | .float _ _ | .string _ | .pointer none | .slice none _ _ | .map none | .nilFunc | .nilIface=>true
  | .agg cs=>cs.toList.all (wW d)
  | .tuple cs=>cs.toList.all (wW d)
  | .func (.func f) _ _=>jq f
  | _=>false
theorem KR {m m':Mp} (h4:m'.env=m.env):∀(d:Nat) (v v':Value),wW d v=true→VR m v v'→VR m' v v'
 | 0,_,_,h,_=>by simp [wW] at h
 | d+1,v,v',h,hv=>by
  cases hv with
  | bool b=>exact .bool b
  | int k n=>exact .int k n
  | float k n=>exact .float k n
  | string s=>exact .string s
  | tH=>exact .tH
  | qD n c=>exact .qD n c
  | uq=>exact .uq
  | nilFunc=>exact .nilFunc
  | nilIface=>exact .nilIface
  | jX hf hh=>exact .jX hf (by rw [h4]; exact hh)
  | jV hf hh=>exact .jV hf (by rw [h4]; exact hh)
  | hnd hf hh=>rw [←h4]; exact .hnd hf hh
  | func hf _ _ _ _=>simp [wW,hf] at h
  | agg hl hh =>
   simp only [wW,bn] at h
   exact .agg hl (fun i a b ha hb=>KR h4 d a b (h a (aN ha)) (hh i a b ha hb))
  | tuple hl hh =>
   simp only [wW,bn] at h
   exact .tuple hl (fun i a b ha hb=>KR h4 d a b (h a (aN ha)) (hh i a b ha hb))
  | _=>simp [wW] at h
def lZ {α:Type} (P:Program):Sem α→Option α
 | .pure a=>some a
 | .program k=>lZ P (k P)
 | .mark _ k=>lZ P k
 | _=>none
theorem Dq {α:Type} {P:Program}:∀(s:Sem α) (a:α) (w:World),lZ P s=some a→s.run P w=.ok a w
 | .pure x,a,w,h=>by simp only [lZ,ak] at h; subst h; rfl
 | .program k,a,w,h=>by simp only [lZ] at h; exact Dq (k P) a w h
 | .mark _ k,a,w,h=>by simp only [lZ] at h; exact Dq k a w h
 | .load ..,_,_,h | .store ..,_,_,h | .new ..,_,_,h | .shape ..,_,_,h | .freeze ..,_,_,h | .frozen ..,_,_,h | .getObj ..,_,_,h | .setObj ..,_,_,h
 | .choose ..,_,_,h | .sys ..,_,_,h | .halt ..,_,_,h=>by simp [lZ] at h
end Go.Sm
end
section
namespace Go.Sm
def Mp.jF (m:Mp):Mp:={ m with lb:=fun _=>none }
theorem Be (m:Mp):Le m.jF m:=⟨fun _ _ e=>e,fun _ _ e=>(by cases e),fun _ _ _=>rfl,fun _ _ _=>rfl,fun _ _ _=>rfl,rfl,fun _ _ e=>(by cases e),rfl⟩
theorem Le.jF {m m':Mp} (h:Le m m'):Le m.jF m'.jF:=⟨h.gb,fun _ _ e=>(by cases e),h.loose,h.eD,h.tot,h.env,fun _ _ e=>(by cases e),h.bs⟩
structure GR (m:Mp) (i g:Nat) (b:eG) (w:World):Prop where
 lo:m.loose i=b.loose
 ez:m.eD i=b.eD
 blk:b.live=true→∃cs:Array Value,w.heap[g]?=some (.cells cs b.elem (0,0))∧b.cells.length≤cs.size∧ek m.jF b.cells (cs.toList.take b.cells.length) ∧
  (b.loose=false→cs.size=b.cells.length)∧(b.loose=true→m.tot i=cs.size)
structure LR (m:Mp) (i g:Nat) (b:eG) (w:World):Prop where
 blk:b.live=true→∃(cs:Array Value) (t:TypeId) (fr:Nat×Nat),w.heap[g]?=some (.cells cs t fr)∧m.sh i+b.cells.length≤cs.size∧ek m b.cells ((cs.toList.drop (m.sh i)).take b.cells.length)∧(b.loose=false→m.sh i=0∧cs.size=b.cells.length)∧(b.eD=0→t=b.elem∧fr=(0,0))
 it:b.live=false→m.sh i=0∧∃(s:ByteArray) (pos:Nat),b.cells=[.string s,.int .i64 (pos:Int)]∧w.heap[g]?=some (.stringIter s pos)
def Ai (m:Mp) (loc:Hp) (w:World) (g:Nat):Prop:=∃cs:Array Value,w.heap[g]?=some (.cells cs (m.bs g).2.1 (m.bs g).2.2)∧cs.size=(m.bs g).1.size ∧
 ∀o,(∀(j:Nat) (bj:eG),m.lb j=some g→loc[j]?=some bj→bj.eD=0→o<m.sh j∨m.sh j+bj.cells.length≤o)→cs[o]?=(m.bs g).1[o]?
def Fz (m:Mp) (loc:Hp) (w:World):Prop:=∀(g:Nat) (c:Array Value×TypeId×(Nat×Nat)),m.env.fz g=some c→(w.heap[g]?=some (.cells c.1 c.2.1 c.2.2)∧∀i,m.gb i≠some g)∧∀(i:Nat) (b:eG),m.lb i=some g→loc[i]?=some b→(b.live=true∧b.loose=true)∧b.eD≠0
variable {m m':Mp} {loc loc':Hp} {w w':World}
theorem Fz.go (h:Fz m loc w) (he:m'.env=m.env)
  (hw:∀g,g<w.heap.size→(∀i,m.gb i≠some g)→(∀(i:Nat) (b:eG),m.lb i=some g→loc[i]?=some b→(b.live=true∧b.loose=true)∧b.eD≠0)→w'.heap[g]?=w.heap[g]?)
  (hg:∀i g,m'.gb i=some g→(∃j,m.gb j=some g)∨w.heap.size≤g)
  (hl:∀(i g:Nat) (b:eG),m'.lb i=some g→loc'[i]?=some b→(∃(b0:eG) (j:Nat),m.lb j=some g∧loc[j]?=some b0∧b.live=b0.live∧b.loose=b0.loose∧b.eD=b0.eD)∨w.heap.size≤g):Fz m' loc' w':=by
 intro g c hc
 rw [he] at hc
 obtain ⟨⟨h1,h2⟩,h3⟩:=h g c hc
 have hlt:g<w.heap.size:=(aB.1 h1).1
 refine ⟨⟨(hw g hlt h2 h3).trans h1,fun i e=>?_⟩,fun i b e hb=>?_⟩
 ·rcases hg i g e with ⟨j,r⟩ | r
  ·exact h2 j r
  ·omega
 ·rcases hl i g b e hb with ⟨b0,j,r1,r2,r3,r4,r5⟩ | r
  ·rw [r3,r4,r5]; exact h3 j b0 r1 r2
  ·omega
theorem Fz.lt (h:Fz m loc w):∀(g:Nat) (c:Array Value×TypeId×(Nat×Nat)),m.env.fz g=some c→g<w.heap.size:=fun g c hc=>(aB.1 (h g c hc).1.1).1
structure Rel (m:Mp) (H loc:Hp) (w:World):Prop where
 ic:∀i g,m.gb i=some g→g<w.heap.size∧∃b,H[i]?=some b∧GR m i g b w
 iN:∀i g,m.lb i=some g→g<w.heap.size∧∃b,loc[i]?=some b∧LR m i g b w
 ko:∀i j g bi bj,m.gb i=some g→m.gb j=some g→H[i]?=some bi→H[j]?=some bj→bi.live=true→bj.live=true→i=j
 pJ:∀(i j g:Nat) (bi bj:eG),m.lb i=some g→m.lb j=some g→loc[i]?=some bi→loc[j]?=some bj→i=j∨(bi.live=true∧bj.live=true∧bi.loose=true∧bj.loose=true∧((m.sh i+bi.cells.length≤m.sh j∨m.sh j+bj.cells.length≤m.sh i)∨(bi.eD≠0∧bj.eD≠0)))
 lh:∀i j g,m.gb i=some g→m.lb j=some g→False
 uF:∀(i g:Nat) (b:eG),m.lb i=some g→loc[i]?=some b→b.loose=true→Ai m loc w g
 fz:Fz m loc w
 f0:∀c,m.env.f0=some c→m.gb 0=some c
structure Ext (m:Mp) (H loc:Hp) (w:World) (m':Mp) (H' loc':Hp) (w':World) (wg wl:List Nat):Prop where
 le:Le m m'
 rel:Rel m' H' loc' w'
 img:∀i g,m'.gb i=some g→(∃j,m.gb j=some g)∨w.heap.size≤g
 oG:∀i g,m'.lb i=some g→m.lb i=some g∨w.heap.size≤g
 dom:∀i g,m'.gb i=some g→m.gb i=some g∨(H.length≤i∧i<H'.length)
 lN:∀i g,m'.lb i=some g→m.lb i=some g∨(loc.length≤i∧i<loc'.length)
 os:w'.os=w.os
 tape:w'.tape=w.tape
 output:w'.output=w.output
 size:w.heap.size≤w'.heap.size
 frame:∀g,g<w.heap.size→(∀i,m.gb i≠some g)→(∀i,m.lb i≠some g)→w'.heap[g]?=w.heap[g]?
 un:∀i,i<H.length→m.gb i=none→H'[i]?=H[i]?
 vw:∀i,i<loc.length→m.lb i=none→loc'[i]?=loc[i]?
 mod:∀i,i<H.length→i∉wg→H'[i]?=H[i]?
 nT:∀i,i<loc.length→i∉wl→loc'[i]?=loc[i]?
 len:H.length≤H'.length
 lH:loc.length≤loc'.length
 kp:∀(i:Nat) (b:eG),H[i]?=some b→∃b',H'[i]?=some b'∧b'.eD=b.eD∧b'.loose=b.loose
 cmod:∀(i g:Nat) (b:eG),m.gb i=some g→H[i]?=some b→b.live=true→i∉wg→w'.heap[g]?=w.heap[g]?
 sZ:∀(g:Nat) (c:Array Value×TypeId×(Nat×Nat)),m.env.fz g=some c→g<w.heap.size
theorem Ext.refl {m:Mp} {H loc:Hp} {w:World} (h:Rel m H loc w):Ext m H loc w m H loc w [] [] :=
 ⟨Le.refl m,h,fun i _ e=>.inl ⟨i,e⟩,fun _ _ e=>.inl e,fun _ _ e=>.inl e,fun _ _ e=>.inl e,rfl,rfl,rfl,au _,fun _ _ _ _=>rfl,fun _ _ _=>rfl,fun _ _ _=>rfl,
   fun _ _ _=>rfl,fun _ _ _=>rfl,au _,au _,fun _ b e=>⟨b,e,rfl,rfl⟩,fun _ _ _ _ _ _ _=>rfl,h.fz.lt⟩
theorem Ext.trans {m m' m'':Mp} {H H' H'' loc loc' loc'':Hp} {w w' w'':World} {a b c d:List Nat}
  (h:Ext m H loc w m' H' loc' w' a b) (k:Ext m' H' loc' w' m'' H'' loc'' w'' c d):Ext m H loc w m'' H'' loc'' w'' (a++c) (b++d) where
 le:=h.le.trans k.le
 rel:=k.rel
 img:=fun i g e=>by
  rcases k.img i g e with ⟨j,e'⟩ | e'
  ·exact h.img j g e'
  ·exact .inr (aZ h.size e')
 oG:=fun i g e=>by
  rcases k.oG i g e with e' | e'
  ·exact h.oG i g e'
  ·exact .inr (aZ h.size e')
 dom:=fun i g e=>by
  rcases k.dom i g e with e' | ⟨e1,e2⟩
  ·rcases h.dom i g e' with e'' | ⟨e1,e2⟩
   ·exact .inl e''
   ·exact .inr ⟨e1,aC e2 k.len⟩
  ·exact .inr ⟨aZ h.len e1,e2⟩
 lN:=fun i g e=>by
  rcases k.lN i g e with e' | ⟨e1,e2⟩
  ·rcases h.lN i g e' with e'' | ⟨e1,e2⟩
   ·exact .inl e''
   ·exact .inr ⟨e1,aC e2 k.lH⟩
  ·exact .inr ⟨aZ h.lH e1,e2⟩
 os:=k.os.trans h.os
 tape:=k.tape.trans h.tape
 output:=k.output.trans h.output
 size:=aZ h.size k.size
 frame:=fun g hg hn hl=>by
  have hn':∀i,m'.gb i≠some g:=fun i e=>by
   rcases h.img i g e with ⟨j,e'⟩ | e'
   ·exact hn j e'
   ·omega
  have hl':∀i,m'.lb i≠some g:=fun i e=>by
   rcases h.oG i g e with e' | e'
   ·exact hl i e'
   ·omega
  exact (k.frame g (aC hg h.size) hn' hl').trans (h.frame g hg hn hl)
 un:=fun i hi hn=>by
  have hn':m'.gb i=none:=by
   cases e:m'.gb i with
   | none=>rfl
   | some g =>
    rcases h.dom i g e with e' | ⟨e1,_⟩
    ·rw [hn] at e'; cases e'
    ·omega
  exact (k.un i (aC hi h.len) hn').trans (h.un i hi hn)
 vw:=fun i hi hn=>by
  have hn':m'.lb i=none:=by
   cases e:m'.lb i with
   | none=>rfl
   | some g =>
    rcases h.lN i g e with e' | ⟨e1,_⟩
    ·rw [hn] at e'; cases e'
    ·omega
  exact (k.vw i (aC hi h.lH) hn').trans (h.vw i hi hn)
 mod:=fun i hi hn=>by
  simp only [bH,not_or] at hn
  exact (k.mod i (aC hi h.len) hn.2).trans (h.mod i hi hn.1)
 nT:=fun i hi hn=>by
  simp only [bH,not_or] at hn
  exact (k.nT i (aC hi h.lH) hn.2).trans (h.nT i hi hn.1)
 len:=aZ h.len k.len
 lH:=aZ h.lH k.lH
 kp:=fun i x e=>by
  obtain ⟨y,e1,e2,e3⟩:=h.kp i x e
  obtain ⟨z,f1,f2,f3⟩:=k.kp i y e1
  exact ⟨z,f1,f2.trans e2,f3.trans e3⟩
 cmod:=fun i g x e hx hl hn=>by
  simp only [bH,not_or] at hn
  have hlt:i<H.length:=(ai.1 hx).1
  exact (k.cmod i g x (h.le.gb i g e) ((h.mod i hlt hn.1).trans hx) hl hn.2).trans (h.cmod i g x e hx hl hn.1)
 sZ:=h.sZ
variable {H:Hp} {i:Nat}
theorem Rel.BO (h:Rel m H loc w) (hi:H.length≤i):m.gb i=none:=by
 cases e:m.gb i with
 | none=>rfl
 | some g =>
  obtain ⟨_,b,hb,_⟩:=h.ic i g e
  rw [bQ hi] at hb; cases hb
theorem Rel.Mc (h:Rel m H loc w) (hi:loc.length≤i):m.lb i=none:=by
 cases e:m.lb i with
 | none=>rfl
 | some g =>
  obtain ⟨_,b,hb,_⟩:=h.iN i g e
  rw [bQ hi] at hb; cases hb
def Mp.gN (m:Mp) (i g:Nat) (lo:Bool) (ez tt:Nat):Mp :=
 { m with gb:=fun j=>if j=i then some g else m.gb j,loose:=fun j=>if j=i then lo else m.loose j,eD:=fun j=>if j=i then ez else m.eD j,tot:=fun j=>if j=i then tt else m.tot j }
def Mp.jy (m:Mp) (i g:Nat):Mp:={ m with lb:=fun j=>if j=i then some g else m.lb j,sh:=fun j=>if j=i then 0 else m.sh j }
variable {g:Nat}
theorem CY {lo:Bool} {ez tt:Nat} (h:m.gb i=none):Le m (m.gN i g lo ez tt):=by
 have hne:∀j g',m.gb j=some g'→j≠i:=fun j g' e hh=>by subst hh; rw [h] at e; cases e
 exact ⟨fun j g' e=>by simp [Mp.gN,hne j g' e,e],fun _ _ e=>e,fun j g' e=>by simp [Mp.gN,hne j g' e],fun j g' e=>by simp [Mp.gN,hne j g' e],fun j g' e=>by simp [Mp.gN,hne j g' e],rfl,fun _ _ _=>rfl,rfl⟩
theorem J8 (h:m.lb i=none):Le m (m.jy i g):=by
 have hne:∀j g',m.lb j=some g'→j≠i:=fun j g' e hh=>by subst hh; rw [h] at e; cases e
 exact ⟨fun _ _ e=>e,fun j g' e=>by simp [Mp.jy,hne j g' e,e],fun _ _ _=>rfl,fun _ _ _=>rfl,fun _ _ _=>rfl,rfl,fun j g' e=>by simp [Mp.jy,hne j g' e],rfl⟩
theorem GR.mono {m m':Mp} {i g:Nat} {b:eG} {w w':World} (h:GR m i g b w) (hm:Le m m') (hi:m.gb i=some g) (hw:b.live=true→w'.heap[g]?=w.heap[g]?):GR m' i g b w':=by
 refine ⟨(hm.loose i g hi).trans h.lo,(hm.eD i g hi).trans h.ez,fun hl=>?_⟩
 obtain ⟨cs,h1,h2,h3,h4,h5⟩:=h.blk hl
 exact ⟨cs,(hw hl).trans h1,h2,h3.mono hm.jF,h4,fun e=>(hm.tot i g hi).trans (h5 e)⟩
theorem LR.mono {m m':Mp} {i g:Nat} {b:eG} {w w':World} (h:LR m i g b w) (hm:Le m m') (hi:m.lb i=some g) (hw:w'.heap[g]?=w.heap[g]?):LR m' i g b w':=by
 have hs:=hm.sh i g hi
 refine ⟨fun hl=>?_,fun hl=>?_⟩
 ·obtain ⟨cs,t,fr,h1,h2,h3,h4,h5⟩:=h.blk hl
  exact ⟨cs,t,fr,hw.trans h1,by rw [hs]; exact h2,by rw [hs]; exact h3.mono hm,by rw [hs]; exact h4,h5⟩
 ·obtain ⟨h0,s,pos,h1,h2⟩:=h.it hl
  exact ⟨hs.trans h0,s,pos,h1,hw.trans h2⟩
theorem Ai.mono (h:Ai m loc w g) (hb:m'.bs=m.bs) (hw:w'.heap[g]?=w.heap[g]?)
  (hl:∀(j:Nat) (bj:eG),m.lb j=some g→loc[j]?=some bj→m'.lb j=some g∧m'.sh j=m.sh j∧∃b',loc'[j]?=some b'∧b'.cells.length=bj.cells.length∧b'.eD=bj.eD):Ai m' loc' w' g:=by
 obtain ⟨cs,h1,h2,h3⟩:=h
 refine ⟨cs,by rw [hb]; exact hw.trans h1,by rw [hb]; exact h2,fun o ho=>?_⟩
 rw [hb]
 refine h3 o fun j bj e1 e2 e3=>?_
 obtain ⟨q1,q2,b',q3,q4,q5⟩:=hl j bj e1 e2
 have:=ho j b' q1 q3 (q5.trans e3)
 rw [q2,q4] at this
 exact this
theorem nD (w:World) (o:Obj) {k:Nat} (h:k<w.heap.size):(w.alloc o).heap[k]?=w.heap[k]?:=Go.RowKit.Below.heap_alloc w o k h
theorem JG (h:Rel m H loc w) (b:eG) (cs:Array Value)
  (h1:b.cells.length≤cs.size) (h2:ek m.jF b.cells (cs.toList.take b.cells.length)) (h3:b.loose=false→cs.size=b.cells.length) :
  Ext m H loc w (m.gN H.length w.heap.size b.loose b.eD cs.size) (H++[b]) loc (w.alloc (.cells cs b.elem)) [] []:=by
 have hun:=h.BO (au H.length)
 have hle:Le m (m.gN H.length w.heap.size b.loose b.eD cs.size):=CY hun
 have hlt:∀i g,m.gb i=some g→i<H.length:=fun i g e=>by
  rcases cu i H.length with hh | hh
  ·exact hh
  ·rw [h.BO hh] at e; cases e
 have hcase:∀i g,(m.gN H.length w.heap.size b.loose b.eD cs.size).gb i=some g→(i=H.length∧g=w.heap.size)∨(i≠H.length∧m.gb i=some g):=fun i g e=>by
  simp only [Mp.gN] at e
  split at e
  ·rename_i hi; injection e with e; exact .inl ⟨hi,e.symm⟩
  ·rename_i hi; exact .inr ⟨hi,e⟩
 refine ⟨hle,⟨fun i g e=>?_,fun i g e=>?_,?_,fun i j g bi bj e e'=>h.pJ i j g bi bj e e',?_,fun i g b0 e e1 e2=>(h.uF i g b0 e e1 e2).mono rfl (nD w _ (h.iN i g e).1) (fun j bj q1 q2=>⟨q1,rfl,bj,q2,rfl,rfl⟩),
  h.fz.go rfl (fun g hg _ _=>nD w _ hg) (fun i g e=>(hcase i g e).elim (fun q=>.inr (by omega)) (fun q=>.inl ⟨i,q.2⟩)) (fun i g b e hb=>.inl ⟨b,i,e,hb,rfl,rfl,rfl⟩),fun c hc=>hle.gb 0 c (h.f0 c hc)⟩,?_,fun i g e=>.inl e,?_,fun i g e=>.inl e,rfl,rfl,rfl,by simp,fun g hg _ _=>nD w _ hg,
  fun i hi _=>by rw [aH hi],fun _ _ _=>rfl,fun i hi _=>by rw [aH hi],fun _ _ _=>rfl,by simp,au _,fun i x e=>⟨x,by rw [aH (ai.1 e).1]; exact e,rfl,rfl⟩,fun i g x e _ _ _=>nD w _ (h.ic i g e).1,h.fz.lt⟩
 ·rcases hcase i g e with ⟨rfl,rfl⟩ | ⟨hi,e'⟩
  ·refine ⟨by simp,b,by simp,⟨by simp [Mp.gN],by simp [Mp.gN],fun _=>⟨cs,heap_alloc_new w _,h1,h2.mono hle.jF,h3,fun _=>by simp [Mp.gN]⟩⟩⟩
  ·obtain ⟨hg,b',hb',hG⟩:=h.ic i g e'
   exact ⟨by simp; omega,b',by rw [aH (hlt i g e')]; exact hb',hG.mono hle e' (fun _=>nD w _ hg)⟩
 ·obtain ⟨hg,b',hb',hL⟩:=h.iN i g e
  exact ⟨by simp; omega,b',hb',hL.mono hle e (nD w _ hg)⟩
 ·intro i j g bi bj e e' hi hj li lj
  rcases hcase i g e with ⟨rfl,rfl⟩ | ⟨ni,ei⟩<;>rcases hcase j _ e' with ⟨rfl,hh⟩ | ⟨nj,ej⟩
  ·rfl
  ·have:=(h.ic j _ ej).1; omega
  ·have:=(h.ic i g ei).1; omega
  ·rw [aH (hlt i g ei)] at hi
   rw [aH (hlt j g ej)] at hj
   exact h.ko i j g bi bj ei ej hi hj li lj
 ·intro i j g e e'
  rcases hcase i g e with ⟨rfl,rfl⟩ | ⟨_,ei⟩
  ·have:=(h.iN j _ e').1; omega
  ·exact h.lh i j g ei e'
 ·intro i g e
  rcases hcase i g e with ⟨_,rfl⟩ | ⟨_,ei⟩
  ·exact .inr (au _)
  ·exact .inl ⟨i,ei⟩
 ·intro i g e
  rcases hcase i g e with ⟨rfl,_⟩ | ⟨_,ei⟩
  ·exact .inr ⟨au _,by simp⟩
  ·exact .inl ei
theorem OH (h:Rel m H loc w) (b:eG) (obj:Obj) (hlo:b.loose=false) (h2:LR (m.jy loc.length w.heap.size) loc.length w.heap.size b (w.alloc obj)) :
  Ext m H loc w (m.jy loc.length w.heap.size) H (loc++[b]) (w.alloc obj) [] []:=by
 have hun:=h.Mc (au loc.length)
 have hle:Le m (m.jy loc.length w.heap.size):=J8 hun
 have hlt:∀i g,m.lb i=some g→i<loc.length:=fun i g e=>by
  rcases cu i loc.length with hh | hh
  ·exact hh
  ·rw [h.Mc hh] at e; cases e
 have hcase:∀i g,(m.jy loc.length w.heap.size).lb i=some g→(i=loc.length∧g=w.heap.size)∨(i≠loc.length∧m.lb i=some g):=fun i g e=>by
  simp only [Mp.jy] at e
  split at e
  ·rename_i hi; injection e with e; exact .inl ⟨hi,e.symm⟩
  ·rename_i hi; exact .inr ⟨hi,e⟩
 refine ⟨hle,⟨fun i g e=>?_,fun i g e=>?_,fun i j g bi bj e e' hi hj li lj=>h.ko i j g bi bj e e' hi hj li lj,?_,?_,?_,
  h.fz.go rfl (fun g hg _ _=>nD w _ hg) (fun i g e=>.inl ⟨i,e⟩) (fun i g b0 e hb=>(hcase i g e).elim (fun q=>.inr (by omega)) (fun q=>.inl ⟨b0,i,q.2,by rw [aH (hlt i g q.2)] at hb; exact hb,rfl,rfl,rfl⟩)),h.f0⟩,fun i g e=>.inl ⟨i,e⟩,?_,fun i g e=>.inl e,?_,rfl,rfl,rfl,by simp,
  fun g hg _ _=>nD w _ hg,fun _ _ _=>rfl,fun i hi _=>by rw [aH hi],fun _ _ _=>rfl,fun i hi _=>by rw [aH hi],au _,by simp,fun _ x e=>⟨x,e,rfl,rfl⟩,fun i g x e _ _ _=>nD w _ (h.ic i g e).1,h.fz.lt⟩
 ·obtain ⟨hg,b',hb',hG⟩:=h.ic i g e
  exact ⟨by simp; omega,b',hb',hG.mono hle e (fun _=>nD w _ hg)⟩
 ·rcases hcase i g e with ⟨rfl,rfl⟩ | ⟨hi,e'⟩
  ·exact ⟨by simp,b,by simp,h2⟩
  ·obtain ⟨hg,b',hb',hL⟩:=h.iN i g e'
   exact ⟨by simp; omega,b',by rw [aH (hlt i g e')]; exact hb',hL.mono hle e' (nD w _ hg)⟩
 ·intro i j g bi bj e e' hbi hbj
  rcases hcase i g e with ⟨rfl,rfl⟩ | ⟨ni,ei⟩<;>rcases hcase j _ e' with ⟨rfl,hh⟩ | ⟨nj,ej⟩
  ·exact .inl rfl
  ·have:=(h.iN j _ ej).1; omega
  ·have:=(h.iN i g ei).1; omega
  ·rw [aH (hlt i g ei)] at hbi
   rw [aH (hlt j g ej)] at hbj
   have:=h.pJ i j g bi bj ei ej hbi hbj
   simpa [Mp.jy,ni,nj] using this
 ·intro i j g e e'
  rcases hcase j g e' with ⟨rfl,rfl⟩ | ⟨_,ej⟩
  ·have:=(h.ic i _ e).1; omega
  ·exact h.lh i j g e ej
 ·intro i g b0 e e1 e2
  rcases hcase i g e with ⟨rfl,rfl⟩ | ⟨ni,ei⟩
  ·simp at e1; subst e1; rw [hlo] at e2; cases e2
  ·rw [aH (hlt i g ei)] at e1
   refine (h.uF i g b0 ei e1 e2).mono rfl (nD w _ (h.iN i g ei).1) (fun j bj q1 q2=>?_)
   have hj:j≠loc.length:=fun e=>by rw [e,hun] at q1; cases q1
   exact ⟨by simp [Mp.jy,hj,q1],by simp [Mp.jy,hj],bj,by rw [aH (hlt j g q1)]; exact q2,rfl,rfl⟩
 ·intro i g e
  rcases hcase i g e with ⟨_,rfl⟩ | ⟨_,ei⟩
  ·exact .inr (au _)
  ·exact .inl ei
 ·intro i g e
  rcases hcase i g e with ⟨rfl,_⟩ | ⟨_,ei⟩
  ·exact .inr ⟨au _,by simp⟩
  ·exact .inl ei
theorem XP (h:Rel m H loc w) (b:eG) (cs:Array Value) (hl:b.live=true) (hlo:b.loose=false) (h2:ek m b.cells cs.toList) :
  Ext m H loc w (m.jy loc.length w.heap.size) H (loc++[b]) (w.alloc (.cells cs b.elem)) [] []:=by
 have hsz:b.cells.length=cs.size:=by simpa using h2.1
 refine OH h b _ hlo ⟨fun _=>⟨cs,_,_,heap_alloc_new w _,by simp [Mp.jy,hsz],?_,fun _=>⟨by simp [Mp.jy],hsz.symm⟩,fun _=>⟨rfl,rfl⟩⟩,fun e=>by rw [hl] at e; cases e⟩
 have:=h2.mono (J8 (h.Mc (au loc.length)) (g:=w.heap.size))
 have e0:(m.jy loc.length w.heap.size).sh loc.length=0:=by simp [Mp.jy]
 rw [e0,List.drop_zero,dH (by simp [hsz])]
 exact this
def splice (l:List Value) (o:Nat) (vs:List Value):List Value:=l.take o++vs++l.drop (o+vs.length)
variable {l vs:List Value}
theorem uC {o:Nat} (h:o+vs.length≤l.length):(splice l o vs).length=l.length:=by
 simp [splice]; omega
theorem ek.splice {m:Mp} {l l' vs vs':List Value} (h:ek m l l') (o:Nat) (hv:ek m vs vs'):ek m (splice l o vs) (splice l' o vs'):=by
 unfold Sm.splice
 rw [←hv.1]
 exact ((h.take o).append hv).append (h.drop _)
variable {n:Nat}
theorem Uz {o:Nat} (h:o+vs.length≤n) (hn:n≤l.length):(splice l o vs).take n=splice (l.take n) o vs:=by
 unfold splice
 have e1:(l.take o++vs).length=o+vs.length:=by simp; omega
 rw [List.take_append,e1,dH (by rw [e1]; exact h),List.take_take,List.drop_take,Nat.min_eq_left (by omega:o≤n)]
variable {b:eG}
theorem getElem?_set_self' {x:eG} (h:H[i]?=some b):(H.set i x)[i]?=some x:=by
 have:i<H.length:=by
  rcases cu i H.length with hh | hh
  ·exact hh
  ·rw [bQ hh] at h; cases h
 simp [this]
variable {cs:Array Value} {vs':List Value}
theorem XR (h:Rel m H loc w) (hi:m.gb i=some g) (hb:H[i]?=some b) (hlive:b.live=true) (hcs:w.heap[g]?=some (.cells cs b.elem (0,0))) (o:Nat) (ho:o+vs.length≤b.cells.length) (hv:ek m.jF vs vs') :
  Ext m H loc w m (H.set i { b with cells:=splice b.cells o vs }) loc (w.setRow g (splice cs.toList o vs').toArray) [i] []:=by
 obtain ⟨hg,b0,hb0,hG⟩:=h.ic i g hi
 rw [hb] at hb0; injection hb0 with hb0; subst hb0
 obtain ⟨cs0,e1,e2,e3,e4,e5⟩:=hG.blk hlive
 rw [hcs] at e1; injection e1 with e1; injection e1 with e1; subst e1
 have hother:∀k,k≠g→(w.setRow g (splice cs.toList o vs').toArray).heap[k]?=w.heap[k]?:=fun k hk=>setRow_other w g k _ hk
 refine ⟨Le.refl m,⟨fun j g' e=>?_,fun j g' e=>?_,?_,h.pJ,h.lh,fun j g' b0 e e1 e2=>(h.uF j g' b0 e e1 e2).mono rfl (hother g' (fun he=>h.lh i j g hi (he▸e))) (fun j bj q1 q2=>⟨q1,rfl,bj,q2,rfl,rfl⟩),
  h.fz.go rfl (fun g' _ hn _=>hother g' (fun e=>hn i (e▸hi))) (fun j g' e=>.inl ⟨j,e⟩) (fun j g' b e hb=>.inl ⟨b,j,e,hb,rfl,rfl,rfl⟩),h.f0⟩,fun j g' e=>.inl ⟨j,e⟩,fun _ _ e=>.inl e,fun _ _ e=>.inl e,fun _ _ e=>.inl e,rfl,rfl,rfl,by simp,
  fun g' hg' hn _=>hother g' (fun e=>hn i (e▸hi)),fun j hj hn=>?_,fun _ _ _=>rfl,fun j hj hn=>?_,fun _ _ _=>rfl,by simp,au _,fun j x e=>?_,fun j g' x e hx hl hn=>hother g' (fun he=>by subst he; exact hn (by simp [h.ko j i _ x b e hi hx hb hl hlive])),h.fz.lt⟩
 ·by_cases hj:j=i
  ·subst hj
   rw [hi] at e; injection e with e; subst e
   refine ⟨by simpa using hg,_,getElem?_set_self' hb,⟨hG.lo,hG.ez,fun _=>⟨_,setRow_heap w g cs _ _ _ hcs,?_,?_,?_,?_⟩⟩⟩
   ·have:=hv.1
    simp only [aeR]
    rw [uC ho,uC (by simp; omega)]
    simpa using e2
   ·simp only [uC ho]
    rw [Uz (by rw [←hv.1]; exact ho) (by simpa using e2)]
    exact e3.splice o hv
   ·intro hl
    have:=hv.1
    simp only [aeR]
    rw [uC ho,uC (by simp; omega)]
    simpa using e4 hl
   ·intro hl
    have:=hv.1
    simp only [aeR]
    rw [uC (by simp; omega)]
    simpa using e5 hl
  ·obtain ⟨hg',b',hb',hG'⟩:=h.ic j g' e
   refine ⟨by simpa using hg',b',by rw [bz (ae4 hj)]; exact hb',hG'.mono (Le.refl m) e (fun hl=>hother g' (fun he=>?_))⟩
   subst he
   exact hj (h.ko j i _ b' b e hi hb' hb hl hlive)
 ·obtain ⟨hg',b',hb',hL⟩:=h.iN j g' e
  exact ⟨by simpa using hg',b',hb',hL.mono (Le.refl m) e (hother g' (fun he=>h.lh i j g hi (he▸e)))⟩
 ·intro a c g' ba bc ea ec ha hc la lc
  have hn:∀(x:Nat) (bx:eG),(H.set i { b with cells:=splice b.cells o vs })[x]?=some bx→bx.live=true→∃bx':eG,H[x]?=some bx'∧bx'.live=true:=by
   intro x bx hx lx
   by_cases hxi:x=i
   ·subst hxi; exact ⟨b,hb,hlive⟩
   ·rw [bz (ae4 hxi)] at hx; exact ⟨bx,hx,lx⟩
  obtain ⟨ba',ha',la'⟩:=hn a ba ha la
  obtain ⟨bc',hc',lc'⟩:=hn c bc hc lc
  exact h.ko a c g' ba' bc' ea ec ha' hc' la' lc'
 ·rw [bz]
  intro e; subst e; rw [hi] at hn; cases hn
 ·rw [bz]
  intro e; subst e; simp at hn
 ·by_cases hj:j=i
  ·subst hj
   rw [hb] at e; injection e with e; subst e
   exact ⟨_,getElem?_set_self' hb,rfl,rfl⟩
  ·exact ⟨x,by rw [bz (ae4 hj)]; exact e,rfl,rfl⟩
variable {q:Nat}
theorem Uy {p:Nat} (h:q+vs.length≤l.length) (hp:p<q∨q+vs.length≤p):(splice l q vs)[p]?=l[p]?:=by
 unfold splice
 rcases hp with hp | hp
 ·rw [afd,aH (by simp; omega),dx,if_pos hp]
 ·rw [bu (by simp; omega),aeX]
  congr 1
  simp
  omega
variable {s:Nat}
theorem adt {o:Nat} (h:o+s≤l.length):(splice l (o+s) vs).drop s=splice (l.drop s) o vs:=by
 unfold splice
 rw [afd,afd,List.drop_append]
 have e1:(l.take (o+s)).length=o+s:=by simp; omega
 have e2:s - (l.take (o+s)).length=0:=by omega
 rw [e2,List.drop_zero,List.drop_take,List.drop_drop]
 congr 2
 ·omega
 ·congr 1
  omega
theorem adu (h:q+vs.length≤l.length) (hd:s+n≤q∨q+vs.length≤s):((splice l q vs).drop s).take n=(l.drop s).take n:=by
 apply List.ext_getElem?
 intro p
 simp only [dx,aeX]
 split
 ·exact Uy h (by omega)
 ·rfl
theorem OI (h:Rel m H loc w) {b':eG} (hi:m.lb i=some g) (hb:loc[i]?=some b) (k1:b'.cells.length=b.cells.length) (k2:b'.live=b.live) (k3:b'.loose=b.loose) (k4:b'.elem=b.elem) (k5:b'.eD=b.eD)
  (hother:∀k,k≠g→w'.heap[k]?=w.heap[k]?) (hsz:w'.heap.size=w.heap.size) (hos:w'.os=w.os) (htp:w'.tape=w.tape) (hou:w'.output=w.output) (hL':LR m i g b' w') (hnf:b.live=false∨b.eD=0)
  (hsh:∀(j:Nat) (bj:eG),j≠i→m.lb j=some g→loc[j]?=some bj→LR m j g bj w') (hwo:∀(j:Nat) (bj:eG),m.lb j=some g→loc[j]?=some bj→bj.loose=true→Ai m loc w' g) :
  Ext m H loc w m H (loc.set i b') w' [] [i]:=by
 have hback:∀(j:Nat) (bj:eG),(loc.set i b')[j]?=some bj→∃b0,loc[j]?=some b0∧bj.cells.length=b0.cells.length∧bj.live=b0.live∧bj.loose=b0.loose∧bj.elem=b0.elem∧bj.eD=b0.eD:=fun j bj e=>by
  by_cases hj:j=i
  ·subst hj
   rw [getElem?_set_self' hb] at e; injection e with e; subst e
   exact ⟨b,hb,k1,k2,k3,k4,k5⟩
  ·rw [bz (ae4 hj)] at e
   exact ⟨bj,e,rfl,rfl,rfl,rfl,rfl⟩
 have hforth:∀(j:Nat) (bj:eG),loc[j]?=some bj→∃b0,(loc.set i b')[j]?=some b0∧b0.cells.length=bj.cells.length∧b0.eD=bj.eD:=fun j bj e=>by
  by_cases hj:j=i
  ·subst hj
   rw [hb] at e; injection e with e; subst e
   exact ⟨b',getElem?_set_self' hb,k1,k5⟩
  ·exact ⟨bj,by rw [bz (ae4 hj)]; exact e,rfl,rfl⟩
 refine ⟨Le.refl m,⟨fun j g' e=>?_,fun j g' e=>?_,h.ko,fun a c g' ba bc e1 e2 e3 e4=>?_,h.lh,fun j g' bj e1 e2 e3=>?_,
  h.fz.go rfl (fun g' _ _ hn=>hother g' (fun e=>by
   subst e
   obtain ⟨⟨n1,_⟩,n2⟩:=hn i b hi hb
   rcases hnf with q | q
   ·rw [q] at n1; cases n1
   ·exact n2 q)) (fun j g' e=>.inl ⟨j,e⟩) (fun j g' bj e hbj=>by
   obtain ⟨b0,q1,_,q2,q3,_,q4⟩:=hback j bj hbj
   exact .inl ⟨b0,j,e,q1,q2,q3,q4⟩),h.f0⟩,fun j g' e=>.inl ⟨j,e⟩,fun _ _ e=>.inl e,fun _ _ e=>.inl e,fun _ _ e=>.inl e,hos,htp,hou,by rw [hsz]; exact au _,
  fun g' hg' _ hn=>hother g' (fun e=>hn i (e▸hi)),fun _ _ _=>rfl,fun j hj hn=>?_,fun _ _ _=>rfl,fun j hj hn=>?_,au _,by simp,fun _ x e=>⟨x,e,rfl,rfl⟩,fun j g' x e _ _ _=>hother g' (fun he=>h.lh j i g (he▸e) hi),h.fz.lt⟩
 ·obtain ⟨hg',b0,hb',hG'⟩:=h.ic j g' e
  exact ⟨by rw [hsz]; exact hg',b0,hb',hG'.mono (Le.refl m) e (fun _=>hother g' (fun he=>h.lh j i g (he▸e) hi))⟩
 ·by_cases hj:j=i
  ·subst hj
   rw [hi] at e; injection e with e; subst e
   exact ⟨by rw [hsz]; exact (h.iN j g hi).1,_,getElem?_set_self' hb,hL'⟩
  ·obtain ⟨hg',b0,hb',hL⟩:=h.iN j g' e
   refine ⟨by rw [hsz]; exact hg',b0,by rw [bz (ae4 hj)]; exact hb',?_⟩
   by_cases hg:g'=g
   ·subst hg; exact hsh j b0 hj e hb'
   ·exact hL.mono (Le.refl m) e (hother g' hg)
 ·obtain ⟨xa,p1,p2,p3,p4,_,p6⟩:=hback a ba e3
  obtain ⟨xc,q1,q2,q3,q4,_,q6⟩:=hback c bc e4
  have:=h.pJ a c g' xa xc e1 e2 p1 q1
  rw [p2,p3,p4,q2,q3,q4,p6,q6]
  exact this
 ·obtain ⟨x,p1,p2,p3,p4,p5,_⟩:=hback j bj e2
  have hout:Ai m loc w' g':=by
   by_cases hg:g'=g
   ·subst hg; exact hwo j x e1 p1 (p4▸e3)
   ·exact (h.uF j g' x e1 p1 (p4▸e3)).mono rfl (hother g' hg) (fun j bj q1 q2=>⟨q1,rfl,bj,q2,rfl,rfl⟩)
  exact hout.mono rfl rfl (fun j bj q1 q2=>⟨q1,rfl,hforth j bj q2⟩)
 ·rw [bz]
  intro e; subst e; rw [hi] at hn; cases hn
 ·rw [bz]
  intro e; subst e; simp at hn
theorem XT (h:Rel m H loc w) (hi:m.lb i=some g) (hb:loc[i]?=some b) (hlive:b.live=true) (hez:b.eD=0) (hcs:w.heap[g]?=some (.cells cs b.elem (0,0))) (o:Nat) (ho:o+vs.length≤b.cells.length) (hv:ek m vs vs') :
  Ext m H loc w m H (loc.set i { b with cells:=splice b.cells o vs }) (w.setRow g (splice cs.toList (o+m.sh i) vs').toArray) [] [i]:=by
 obtain ⟨hg,b0,hb0,hL⟩:=h.iN i g hi
 rw [hb] at hb0; injection hb0 with hb0; subst hb0
 obtain ⟨cs0,t0,fr0,e1,e2,e3,e4,e5⟩:=hL.blk hlive
 rw [hcs] at e1; injection e1 with e1; injection e1 with e1; subst e1
 have hvl:=hv.1
 have hfit:o+m.sh i+vs'.length≤cs.toList.length:=by simp; omega
 have hrow:(w.setRow g (splice cs.toList (o+m.sh i) vs').toArray).heap[g]?=some (.cells (splice cs.toList (o+m.sh i) vs').toArray b.elem (0,0)):=setRow_heap w g cs _ _ _ hcs
 have hlen:(splice cs.toList (o+m.sh i) vs').length=cs.size:=by rw [uC hfit]; simp
 refine OI h hi hb (by simp [uC ho]) rfl rfl rfl rfl (fun k hk=>setRow_other w g k _ hk) (by simp) rfl rfl rfl
  ⟨fun _=>⟨_,_,_,hrow,?_,?_,?_,fun _=>⟨rfl,rfl⟩⟩,fun e=>by simp [hlive] at e⟩ (.inr hez) (fun j bj hj hjg hbj=>?_) (fun j bj hjg hbj hlo=>?_)
 ·simp only [uC ho,aeR,hlen]; exact e2
 ·simp only [uC ho]
  rw [adt (by simp; omega),Uz (by rw [←hvl]; exact ho) (by simp; omega)]
  exact e3.splice o hv
 ·intro hl
  obtain ⟨q1,q2⟩:=e4 hl
  exact ⟨q1,by simp only [uC ho,aeR,hlen]; exact q2⟩
 ·obtain ⟨_,bj',hbj',hLj⟩:=h.iN j g hjg
  rw [hbj] at hbj'; injection hbj' with hbj'; subst hbj'
  rcases h.pJ j i g bj b hjg hi hbj hb with e | ⟨l1,l2,l3,l4,hd⟩
  ·exact absurd e hj
  ·obtain ⟨csj,tj,frj,f1,f2,f3,f4,f6⟩:=hLj.blk l1
   rw [hcs] at f1; injection f1 with f1; injection f1 with f1 f5 f7; subst f1; subst f5; subst f7
   refine ⟨fun _=>⟨_,_,_,hrow,by simp only [aeR,hlen]; exact f2,?_,(fun e=>by rw [l3] at e; cases e),f6⟩,fun e=>by rw [l1] at e; cases e⟩
   rcases hd with hd | ⟨_,hd⟩
   case inr=>exact absurd hez hd
   simp only
   rw [adu hfit (by omega)]
   exact f3
 ·obtain ⟨csw,f1,f2,f3⟩:=h.uF j g bj hjg hbj hlo
  rw [hcs] at f1; injection f1 with f1; injection f1 with f1 f5 f7; subst f1
  refine ⟨_,by rw [←f5,←f7]; exact hrow,by simp only [aeR,hlen]; exact f2,fun p hp=>?_⟩
  have hpi:=hp i b hi hb hez
  rw [←f3 p hp]
  have:=Uy (p:=p) hfit (by omega)
  simpa using this
end Go.Sm
end
section
namespace Go.Sm
def uL (a:Addr) (n:Nat):Addr:={ a with off:=a.off+n }
def AR (m:Mp) (a a':Addr):Prop :=
 (a.spot=none∧m.gb a.block=some a'.block∧a'.off=a.off∧a'.spot=none)∨(a.spot=some 0∧m.lb a.block=some a'.block∧a'.off=a.off+m.sh a.block∧a'.spot=none)
theorem AR.spot {m:Mp} {a a':Addr} (h:AR m a a'):a'.spot=none:=by rcases h with h | h<;>exact h.2.2.2
theorem AR.add {m:Mp} {a a':Addr} (h:AR m a a') (n:Nat):AR m (uL a n) (a'.add n):=by
 have e:a'.add n={ a' with off:=a'.off+n }:=by
  have:=h.spot
  obtain ⟨b,o,s⟩:=a'
  simp only at this
  subst this
  unfold Addr.add
  split<;>simp_all
 rw [e]
 rcases h with ⟨h1,h2,h3,h4⟩ | ⟨h1,h2,h3,h4⟩
 ·exact .inl ⟨h1,h2,by simp [uL,h3],h4⟩
 ·exact .inr ⟨h1,h2,by simp only [uL,h3]; omega,h4⟩
variable {m:Mp} {a a':Addr}
theorem AR.vr (h:AR m a a'):VR m (.pointer (some a)) (.pointer (some a')):=by
 obtain ⟨b,o,s⟩:=a
 obtain ⟨b',o',s'⟩:=a'
 rcases h with ⟨h1,h2,h3,h4⟩ | ⟨h1,h2,h3,h4⟩<;>simp only at h1 h2 h3 h4<;>subst h1 h3 h4
 ·exact .pO h2
 ·exact .afr h2 rfl
variable {v':Value}
theorem vz (h:VR m (.pointer (some a)) v'):∃a',v'=.pointer (some a')∧AR m a a':=by
 cases h with
 | pO e=>exact ⟨_,rfl,.inl ⟨rfl,e,rfl,rfl⟩⟩
 | afr e ho=>exact ⟨_,rfl,.inr ⟨rfl,e,ho,rfl⟩⟩
def SR (m:Mp) (a:Addr) (n c:Nat) (a':Addr) (c':Nat):Prop :=
 (AR m a a'∧(c'=c∨(a.spot=none∧m.loose a.block=true∧c≤c'∧a.off+c'*m.eD a.block≤m.tot a.block))) ∨
 (n=0∧c=0∧a.spot=none∧m.loose a.block=true∧∃g,m.gb a.block=some g)
variable {n c:Nat}
theorem y8 (h:VR m (.slice (some a) n c) v'):∃a' c',v'=.slice (some a') n c'∧SR m a n c a' c':=by
 cases h with
 | ow e=>exact ⟨_,_,rfl,.inl ⟨.inl ⟨rfl,e,rfl,rfl⟩,.inl rfl⟩⟩
 | qW e hl hc ht=>exact ⟨_,_,rfl,.inl ⟨.inl ⟨rfl,e,rfl,rfl⟩,.inr ⟨rfl,hl,hc,ht⟩⟩⟩
 | qV e hl=>exact ⟨_,_,rfl,.inr ⟨rfl,rfl,rfl,hl,_,e⟩⟩
 | xm e ho=>exact ⟨_,_,rfl,.inl ⟨.inr ⟨rfl,e,ho,rfl⟩,.inl rfl⟩⟩
variable {c':Nat}
theorem SR.vr (h:SR m a n c a' c'):VR m (.slice (some a) n c) (.slice (some a') n c'):=by
 obtain ⟨b,o,s⟩:=a
 rcases h with ⟨har,hc⟩ | ⟨h1,h2,h3,h4,g,h5⟩
 ·obtain ⟨b',o',s'⟩:=a'
  rcases har with ⟨h1,h2,h3,h4⟩ | ⟨h1,h2,h3,h4⟩<;>simp only at h1 h2 h3 h4<;>subst h1 h3 h4
  ·rcases hc with rfl | ⟨_,hl,hc,ht⟩
   ·exact .ow h2
   ·exact .qW h2 hl hc ht
  ·rcases hc with rfl | ⟨hn,_⟩
   ·exact .xm h2 rfl
   ·cases hn
 ·simp only at h1 h2 h3 h4 h5
  subst h1 h2 h3
  exact .qV h5 h4
variable {k:IntKind}
theorem wh {n:Int} (h:VR m (.int k n) v'):v'=.int k n:=by cases h; rfl
theorem Ab {b:Bool} (h:VR m (.bool b) v'):v'=.bool b:=by cases h; rfl
variable {cs:Array Value}
theorem uD (h:VR m (.agg cs) v'):∃cs':Array Value,v'=.agg cs'∧ek m cs.toList cs'.toList:=by
 cases h with
 | agg hl hh=>exact ⟨_,rfl,hl,hh⟩
theorem DN (h:VR m (.tuple cs) v'):∃cs':Array Value,v'=.tuple cs'∧ek m cs.toList cs'.toList:=by
 cases h with
 | tuple hl hh=>exact ⟨_,rfl,hl,hh⟩
theorem ek.agg' {a a':Array Value} (h:ek m a.toList a'.toList):VR m (.agg a) (.agg a'):=by
 obtain ⟨l⟩:=a; obtain ⟨l'⟩:=a'; exact h.agg
variable {v:Value}
theorem BS (h:VR m v v'):ek m v.cells.toList v'.cells.toList:=by
 cases h<;>first | (rename_i hl hh; exact ⟨hl,hh⟩) | exact ek.cons (by first | exact .bool _ | exact .int _ _ | exact .float _ _ | exact .string _ | exact .tH | (exact .pO ‹_›) | (exact .afr ‹_› ‹_›) | exact .qD _ _ | exact .ow ‹_› | exact .qW ‹_› ‹_› ‹_› ‹_› | exact .qV ‹_› ‹_› | exact .xm ‹_› ‹_› | exact .uq | exact .nilFunc | exact .nilIface | exact .jX ‹_› ‹_› | exact .hnd ‹_› ‹_› | exact .jV ‹_› ‹_› | exact .func ‹_› ‹_› ‹_› ‹_› ‹_› | exact .iface ‹_› | exact .tuple ‹_› ‹_›) (ek.nil m)
theorem aey (h:VR m v v'):v'.oneCell'=v.oneCell':=by cases h<;>rfl
def sH (m:Mp) (ρ ρ':Operand→Value) (o:Oper):Prop:=∀x∈o.op.operands,VR m (ρ x) (ρ' x)
def nZ (v:Value):Bool:=nY 4 v
def kV (v:Value):Bool:=qy 6 v
def zo (P:Program) (o:Oper) (ρ:Operand→Value):Option Value :=
 bif o.op.operands.toList.all (fun x=>nZ (ρ x)) then
  match lZ P (execOp ρ o) with
  | some (.value v)=>bif nZ v then some v else none
  | _=>none
 else none
def CR (P:Program) (t:TypeId):Option Bool :=
 match P.underlying t with
 | some (.struct _)=>some true
 | some (.array _ _)=>some true
 | some _=>some false
 | none=>none
def Es (P:Program) (t:TypeId) (cs:List Value) (off:Nat):Option Value :=
 match CR P t with
 | some true=>match P.info? t with
  | some i=>some (.agg ⟨(cs.drop off).take i.size⟩)
  | none=>none
 | some false=>cs[off]?
 | none=>none
def bnd (x:Value) (y:Nat):Option Nat :=
 match x with
 | .int _ i=>bif decide (0≤i)&&decide (i≤(y:Int)) then some i.toNat else none
 | _=>none
def GD (len cap:Nat) (lo hi mx:Option Value):Option (Nat×Nat×Nat) :=
 match (match mx with | some v=>bnd v cap | none=>some cap) with
 | none=>none
 | some m =>
  match (match hi,mx with | some v,_=>bnd v m | none,none=>some len | none,some _=>none) with
  | none=>none
  | some h =>
   match (match lo with | some v=>bnd v h | none=>some 0) with
   | none=>none
   | some l=>bif decide (h≤m) then some (l,h,m) else none
def Ju (P:Program) (t:TypeId) (x i:Value):Option Value :=
 match P.underlying t,x,i with
 | some (.array len elem),.pointer (some a),.int _ n =>
  match P.info? elem with
  | some ti=>bif decide (0≤n)&&decide (n<(len:Int)) then some (.pointer (some (uL a (n.toNat*ti.size)))) else none
  | none=>none
 | some (.slice elem),.slice (some a) len _,.int _ n =>
  match P.info? elem with
  | some ti=>bif decide (0≤n)&&decide (n<(len:Int)) then some (.pointer (some (uL a (n.toNat*ti.size)))) else none
  | none=>none
 | _,_,_=>none
def GI (H:Hp) (a:Addr) (size:Nat):Bool :=
 match a.spot with
 | none=>match H[a.block]? with
  | some b=>!b.loose||b.eD==size
  | none=>false
 | some _=>true
def Eu (P:Program) (H:Hp) (t:TypeId) (x:Value) (lo hi mx:Option Value):Option Value :=
 match P.underlying t,x with
 | some (.slice elem),.slice (some a) len cap =>
  match P.info? elem,GD len cap lo hi mx with
  | some ti,some (l,h,m)=>bif GI H a ti.size then some (.slice (some (bif m==l then a else uL a (l*ti.size))) (h - l) (m - l)) else none
  | _,_=>none
 | some (.array n elem),.pointer (some a) =>
  match P.info? elem,GD n n lo hi mx with
  | some ti,some (l,h,m)=>some (.slice (some (bif m==l then a else uL a (l*ti.size))) (h - l) (m - l))
  | _,_=>none
 | _,_=>none
def Jq (P:Program) (t:TypeId) (parts:List (Nat×Value)):Option Value :=
 match P.info? t with
 | none=>none
 | some ti =>
  match ti.zero with
  | none=>none
  | some z =>
   bif !nZ z then none else
   match P.underlying t with
   | some (.struct fields) =>
    bif fields.toList.all (fun f=>(P.info? f.type).isSome) then
     match Instr.fill (fun i=>(fields[i]?).map fun f=>(f.offset,P.cellsOf f.type)) z.cells parts with
     | some cells=>some (.agg cells)
     | none=>none
    else none
   | some (.array _ elem) =>
    match P.info? elem with
    | some ei =>
     match Instr.fill (fun i=>some (i*ei.size,ei.size)) z.cells parts with
     | some cells=>some (.agg cells)
     | none=>none
    | none=>none
   | _=>none
def Jv (P:Program) (H:Hp) (o:Oper) (ρ:Operand→Value):Option Value :=
 match o.op with
 | .move x=>some (ρ x)
 | .assign x=>some (ρ x)
 | .pick c a b=>match ρ c with
  | .bool t=>some (bif t then ρ a else ρ b)
  | _=>none
 | .nilCheck x=>match ρ x with
  | .pointer (some a)=>some (.pointer (some a))
  | .func (.func f) fs cs=>bif jq f then none else some (.func (.func f) fs cs)
  | _=>none
 | .extract x k=>match ρ x with
  | .tuple vs=>vs.toList[k]?
  | _=>none
 | .makeFunc (.func f) first captured=>bif jq f then none else some (.func (.func f) ⟨first.toList.map ρ⟩ ⟨captured.toList.map ρ⟩)
 | .fieldAddr s x f=>match P.underlying s,ρ x with
  | some (.struct fs),.pointer (some a)=>match fs[f]? with
   | some fd=>bif P.cellsOf fd.type==0 then none else some (.pointer (some (uL a fd.offset)))
   | none=>none
  | _,_=>none
 | .indexAddr t x i=>Ju P t (ρ x) (ρ i)
 | .field t x f=>match P.underlying t,ρ x with
  | some (.struct fs),.agg cs=>match fs[f]? with
   | some fd=>Es P fd.type cs.toList fd.offset
   | none=>none
  | _,_=>none
 | .index t x i=>match P.underlying t,ρ x,ρ i with
  | some (.array len elem),.agg cs,.int _ n=>match P.info? elem with
   | some ei=>bif decide (0≤n)&&decide (n<(len:Int)) then Es P elem cs.toList (n.toNat*ei.size) else none
   | none=>none
  | _,_,_=>zo P o ρ
 | .slice t x lo hi mx=>match ρ x with
  | .slice (some _) _ _=>Eu P H t (ρ x) (lo.map ρ) (hi.map ρ) (mx.map ρ)
  | .pointer (some _)=>Eu P H t (ρ x) (lo.map ρ) (hi.map ρ) (mx.map ρ)
  | _=>zo P o ρ
 | .build t ps=>Jq P t (ps.toList.map fun (i,x)=>(i,ρ x))
 | .call { callee:=.builtin .len,args:=⟨[x]⟩,argTypes:=⟨[t]⟩ }=>match P.underlying t,ρ x with
  | some (.slice _),.slice _ n _=>some (.int .i64 n)
  | _,_=>zo P o ρ
 | .select _ _=>none
 | _=>zo P o ρ
structure Xt where
 ext:FuncId→Option (Array Value→Sem Value)
 env:Env
 mP:List (Value×Value)
 eqs:List TypeId
 wins:List (Nat×Value×Nat×Nat)
 lens:List (Nat×Value)
 wb:List eG
 subs:List (Nat×Value×Nat)
def oF (f:Value→Value→Bool):List Value→List Value→Bool
 | [],[]=>true
 | x::xs,y::ys=>bif f x y then oF f xs ys else false
 | _,_=>false
def vN:Nat→Value→Value→Bool
 | 0,_,_=>false
 | d+1,x,y=>match x,y with
  | .int k a,.int k' b=>decide (k=k')&&decide (a=b)
  | .bool a,.bool b=>a==b
  | .func (.func f) ⟨xs⟩ ⟨[]⟩,.func (.func g) ⟨ys⟩ ⟨[]⟩=>ay f g&&oF (vN d) xs ys
  | _,_=>false
theorem vO {f:Value→Value→Bool} (hf:∀x y,f x y=true→x=y):∀(l r:List Value),oF f l r=true→l=r
 | [],[],_=>rfl
 | x::xs,y::ys,h=>by
  unfold oF at h
  cases hx:f x y with
  | false=>rw [hx] at h; cases h
  | true=>rw [hx] at h; rw [hf x y hx,vO hf xs ys h]
 | [],_::_,h=>by cases h
 | _::_,[],h=>by cases h
theorem Cz:∀(d:Nat) (x y:Value),vN d x y=true→x=y
 | 0,_,_,h=>by cases h
 | d+1,x,y,h=>by
  unfold vN at h
  split at h
  ·simp at h; obtain ⟨rfl,rfl⟩:=h; rfl
  ·simp at h; subst h; rfl
  ·simp only [aQ] at h
   have h1:=bf h.1
   have h2:=vO (Cz d) _ _ h.2
   subst h1 h2; rfl
  ·cases h
def look (g:List (Value×Value)) (v:Value):Option Value :=
 match g with
 | []=>none
 | p::l=>bif vN 100 p.1 v then some p.2 else look l v
def jJ (X:Xt) (v:Value):Value:=match look X.mP v with
 | some r=>r
 | none=>v
theorem Ke:∀(g:List (Value×Value)) (v b:Value),look g v=some b→(v,b)∈g
 | [],_,_,h=>by cases h
 | p::l,v,b,h=>by
  unfold look at h
  cases he:vN 100 p.1 v with
  | false=>rw [he] at h; exact aT _ (Ke l v b h)
  | true =>
   rw [he] at h
   simp only [cond_true,ak] at h
   have:=Cz 100 _ _ he
   subst this
   subst h
   exact aA
def zA (v:Value):Bool:=match v with
 | .func (.func f) _ _=>jq f
 | _=>false
def mQ (v:Value):Option IntKind:=match v with
 | .int k _=>some k
 | .func (.func f) ⟨.int k _::_⟩ ⟨[]⟩=>bif jq f then some k else none
 | _=>none
def wQ (v:Value):Bool:=match v with
 | .func (.func f) ⟨.bool _::_⟩ ⟨[]⟩=>jq f
 | _=>false
def AU (X:Xt) (y:Value):Bool:=match look X.mP (mk 21 (.bool true) [.int .i64 1,y]) with
 | some (.bool b)=>b
 | _=>false
def LQ (X:Xt) (op:BinOp) (k:IntKind) (x y:Value):Option Value :=
 match op with
 | .add=>some (jJ X (mk 2 (.int k 0) [x,y]))
 | .sub=>some (jJ X (mk 3 (.int k 0) [x,y]))
 | .mul=>some (jJ X (mk 4 (.int k 0) [x,y]))
 | .quo=>match y with
  | .int _ n=>bif decide (n=0) then none else some (jJ X (mk 5 (.int k 0) [x,y]))
  | y=>bif AU X y then some (jJ X (mk 5 (.int k 0) [x,y])) else none
 | .rem=>match y with
  | .int _ n=>bif decide (n=0) then none else some (jJ X (mk 6 (.int k 0) [x,y]))
  | y=>bif AU X y then some (jJ X (mk 6 (.int k 0) [x,y])) else none
 | .and=>some (jJ X (mk 7 (.int k 0) [x,y]))
 | .or=>some (jJ X (mk 8 (.int k 0) [x,y]))
 | .lss=>some (jJ X (mk 20 (.bool true) [x,y]))
 | .leq=>some (jJ X (mk 21 (.bool true) [x,y]))
 | .gtr=>some (jJ X (mk 22 (.bool true) [x,y]))
 | .geq=>some (jJ X (mk 23 (.bool true) [x,y]))
 | .eql=>some (jJ X (mk 24 (.bool true) [x,y]))
 | .neq=>some (jJ X (mk 25 (.bool true) [x,y]))
 | _=>none
def Bf (X:Xt) (y:Value):Bool:=match look X.mP (mk 20 (.bool true) [y,.int .i64 0]) with
 | some (.bool b)=>!b
 | _=>false
def Er (X:Xt) (x y:Value):Option Bool :=
 match x,y with
 | .int _ a,.int _ b=>some (a==b)
 | x,y=>bif vN 100 x y then some true else match look X.mP (mk 24 (.bool true) [x,y]) with
  | some (.bool b)=>some b
  | _=>none
def af2:Option Value→Option Value
 | some (.bool b)=>some (.bool (!b))
 | _=>none
def kz (v:Value):Bool:=match mQ v with
 | some .i64=>true
 | _=>false
def Oz (X:Xt) (t:TypeId) (x y:Value):Option Value :=
 match x,y with
 | .agg ⟨[x0,x1]⟩,.agg ⟨[y0,y1]⟩ =>
  bif X.eqs.any (ay t)&&(kz x0&&kz x1&&kz y0&&kz y1) then
   match Er X x0 y0,Er X x1 y1 with
   | some a,some b=>some (.bool (a&&b))
   | _,_=>none
  else none
 | _,_=>none
def JE (P:Program) (X:Xt) (o:Oper) (ρ:Operand→Value):Option Value :=
 match o.op with
 | .binOp op t x y _=>match mQ (ρ x),mQ (ρ y) with
  | some k,some k' =>
   match op,ρ y with
   | .shl,.int _ n=>bif decide (0≤n) then some (jJ X (mk 10 (.int k 0) [ρ x,ρ y])) else none
   | .shr,.int _ n=>bif decide (0≤n) then some (jJ X (mk 11 (.int k 0) [ρ x,ρ y])) else none
   | .shl,_=>bif Bf X (ρ y) then some (jJ X (mk 10 (.int k 0) [ρ x,ρ y])) else none
   | .shr,_=>bif Bf X (ρ y) then some (jJ X (mk 11 (.int k 0) [ρ x,ρ y])) else none
   | op,_=>bif decide (k=k') then LQ X op k (ρ x) (ρ y) else none
  | _,_=>match op with
   | .eql=>Oz X t (ρ x) (ρ y)
   | .neq=>af2 (Oz X t (ρ x) (ρ y))
   | _=>none
 | .unOp .neg _ x=>match mQ (ρ x) with
  | some k=>some (jJ X (mk 14 (.int k 0) [ρ x]))
  | none=>none
 | .unOp .not _ x=>bif wQ (ρ x) then some (jJ X (mk 26 (.bool true) [ρ x])) else none
 | .convert s t x=>match P.underlying s,P.underlying t,mQ (ρ x) with
  | some (.int _),some (.int k),some _=>some (jJ X (mk 15 (.int k 0) [ρ x]))
  | _,_,_=>none
 | .call { callee:=.builtin .min,args:=⟨[x,y]⟩,.. }=>match mQ (ρ x),mQ (ρ y) with
  | some k,some k'=>bif decide (k=k') then some (jJ X (mk 12 (.int k 0) [ρ x,ρ y])) else none
  | _,_=>none
 | .call { callee:=.builtin .max,args:=⟨[x,y]⟩,.. }=>match mQ (ρ x),mQ (ρ y) with
  | some k,some k'=>bif decide (k=k') then some (jJ X (mk 13 (.int k 0) [ρ x,ρ y])) else none
  | _,_=>none
 | _=>none
def zz (v:Value):Option Nat:=match v with
 | .func (.func f) ⟨[]⟩ ⟨[]⟩=>bif amE 2000000 f then some (f - 2000000) else none
 | _=>none
def dM (k:Nat):Value:=.func (.func (2000000+k)) ⟨[]⟩ ⟨[]⟩
def EK (k:Nat) (v:Value) (sz:Nat):List (Nat×Value×Nat×Nat)→Option Nat
 | []=>none
 | (k',u,sz',i)::l=>bif ay k k'&&(ay sz sz'&&vN 100 u v) then some i else EK k v sz l
def EE (k:Nat):List (Nat×Value)→Option Value
 | []=>none
 | (k',u)::l=>bif ay k k' then some u else EE k l
def EI (k:Nat) (v:Value):List (Nat×Value×Nat)→Option Nat
 | []=>none
 | (k',u,j)::l=>bif ay k k'&&vN 100 u v then some j else EI k v l
def Jt (P:Program) (X:Xt) (o:Oper) (ρ:Operand→Value):Option Value :=
 match o.op with
 | .indexAddr t x i=>match zz (ρ x),P.underlying t with
  | some k,some (.slice elem)=>match P.info? elem with
   | some ti=>match EK k (ρ i) ti.size X.wins with
    | some b=>some (.pointer (some ⟨b,0,some 0⟩))
    | none=>none
   | none=>none
  | _,_=>none
 | .call { callee:=.builtin .len,args:=⟨[x]⟩,argTypes:=⟨[t]⟩ }=>match zz (ρ x),P.underlying t with
  | some k,some (.slice _)=>EE k X.lens
  | _,_=>none
 | .slice t x none (some i) none=>match zz (ρ x),P.underlying t with
  | some k,some (.slice elem)=>match P.info? elem with
   | some _=>match EI k (ρ i) X.subs with
    | some j=>some (.func (.func (2000000+j)) ⟨[]⟩ ⟨[]⟩)
    | none=>none
   | none=>none
  | _,_=>none
 | _=>none
def Jw (P:Program) (X:Xt) (H:Hp) (o:Oper) (ρ:Operand→Value):Option Value :=
 match Jv P H o ρ with
 | some v=>some v
 | none=>match JE P X o ρ with
  | some v=>some v
  | none=>Jt P X o ρ
structure kv (X:Xt) (m:Mp):Prop where
 win:∀e∈X.wins,∃(a:Addr) (n c:Nat) (ix:Int) (d:Nat),m.env.sl e.1=(some a,n,c)∧a.spot=none∧eF m.env d e.2.1=some (.int .i64 ix)∧0≤ix∧ix<n∧m.lb e.2.2.2=some a.block∧m.sh e.2.2.2=a.off+ix.toNat*e.2.2.1
 len:∀e∈X.lens,∃(d:Nat),eF m.env d e.2=some (.int .i64 ((m.env.sl e.1).2.1:Nat))
 sub:∀e∈X.subs,e.2.2<1000000∧∃(h:Int) (d:Nat),eF m.env d e.2.1=some (.int .i64 h)∧0≤h∧h≤((m.env.sl e.1).2.2:Nat)∧m.env.sl e.2.2=((m.env.sl e.1).1,h.toNat,(m.env.sl e.1).2.2):=by intro e he; cases he
variable {X:Xt} {m':Mp}
theorem kv.mono (h:kv X m) (hm:Le m m'):kv X m':=by
 refine ⟨fun e he=>?_,fun e he=>?_,fun e he=>by rw [hm.env]; exact h.sub e he⟩
 ·obtain ⟨a,n,c,ix,d,h1,h2,h3,h4,h5,h6,h7⟩:=h.win e he
  exact ⟨a,n,c,ix,d,by rw [hm.env]; exact h1,h2,by rw [hm.env]; exact h3,h4,h5,hm.lb _ _ h6,by rw [hm.sh _ _ h6]; exact h7⟩
 ·obtain ⟨d,h1⟩:=h.len e he
  exact ⟨d,by rw [hm.env]; exact h1⟩
structure qb (X:Xt) (m:Mp):Prop where
 env:m.env=X.env
 win:kv X m
theorem qb.mono {X:Xt} {m m':Mp} (h:qb X m) (hm:Le m m'):qb X m':=⟨hm.env.trans h.env,h.win.mono hm⟩
structure ze (X:Xt):Prop where
 len:X.env.wl.length=X.wb.length
 blk:∀(i:Nat) (b:eG),X.wb[i]?=some b→((b.live=true∧b.loose=true)∧b.eD≠0)∧∃(g s:Nat) (c:Array Value×TypeId×(Nat×Nat)),X.env.wl[i]?=some (g,s)∧X.env.fz g=some c∧s+b.cells.length≤c.1.size∧∀m:Mp,m.env=X.env→ek m b.cells ((c.1.toList.drop s).take b.cells.length)
 win:∀m:Mp,m.env=X.env→(∀(i:Nat) (x:Nat×Nat),X.env.wl[i]?=some x→m.lb i=some x.1∧m.sh i=x.2)→kv X m
def Plain (X:Xt):Prop:=X.wins=[]∧(X.lens=[]∧X.subs=[])∧X.wb=[]∧X.env.wl=[]∧(∀g,X.env.fz g=none)∧X.env.f0=none
theorem Plain.start (h:Plain X):ze X:=by
 obtain ⟨h1,⟨h2,h6⟩,h3,h4,h5⟩:=h
 refine ⟨by rw [h3,h4]; rfl,fun i b e=>(by rw [h3] at e; simp at e),fun m _ _=>⟨fun e he=>(by rw [h1] at he; cases he),fun e he=>(by rw [h2] at he; cases he),fun e he=>(by rw [h6] at he; cases he)⟩⟩
theorem OV {k:Nat} {v:Value} {j:Nat}:∀{l:List (Nat×Value×Nat)},EI k v l=some j→(k,v,j)∈l
 | [],h=>by cases h
 | (k',u,j')::l,h=>by
  unfold EI at h
  cases hb:(ay k k'&&vN 100 u v) with
  | true =>
   rw [hb] at h
   simp only [cond_true,ak] at h
   subst h
   simp only [aQ] at hb
   rw [bf hb.1,←Cz 100 u v hb.2]
   exact aA
  | false =>
   rw [hb] at h
   exact aT _ (OV h)
theorem OX {k:Nat} {v:Value} {sz i:Nat}:∀{l:List (Nat×Value×Nat×Nat)},EK k v sz l=some i→(k,v,sz,i)∈l
 | [],h=>by cases h
 | (k',u,sz',i')::l,h=>by
  unfold EK at h
  cases hc:(ay k k'&&(ay sz sz'&&vN 100 u v)) with
  | true =>
   rw [hc] at h
   simp only [cond_true,ak] at h
   simp only [aQ] at hc
   obtain ⟨h1,h2,h3⟩:=hc
   rw [bf h1,bf h2,←Cz 100 u v h3,←h]
   exact aA
  | false=>rw [hc] at h; exact aT _ (OX h)
theorem OP {k:Nat} {v:Value}:∀{l:List (Nat×Value)},EE k l=some v→(k,v)∈l
 | [],h=>by cases h
 | (k',u)::l,h=>by
  unfold EE at h
  cases hc:ay k k' with
  | true =>
   rw [hc] at h
   simp only [cond_true,ak] at h
   rw [bf hc,←h]
   exact aA
  | false=>rw [hc] at h; exact aT _ (OP h)
theorem Yk {k:Nat} (h:zz v=some k):∃f,v=.func (.func f) ⟨[]⟩ ⟨[]⟩∧amE 2000000 f=true∧k=f - 2000000:=by
 unfold zz at h
 split at h
 ·rename_i f
  cases hb:amE 2000000 f with
  | false=>rw [hb] at h; cases h
  | true=>rw [hb] at h; simp only [cond_true,ak] at h; exact ⟨f,rfl,hb,h.symm⟩
 ·cases h
def DV (P:Program) (X:Xt):Prop:=∀t∈X.eqs,∀(o:Oper) (x y:Operand) (z:TypeId) (ρ:Operand→Value) (a b c d:Int) (w:World) (ng:Bool),o.op=.binOp (bif ng then .neq else .eql) t x y z→ρ x=.agg #[.int .i64 a,.int .i64 b]→ρ y=.agg #[.int .i64 c,.int .i64 d]→(execOp ρ o).run P w=.ok (.value (.bool (bif ng then !(a==c&&b==d) else (a==c&&b==d)))) w
section
variable {P:Program} {m:Mp} {o:Oper} {ρ ρ':Operand→Value} {v:Value}
theorem XK (hρ:sH m ρ ρ' o) (hs:∀cs b,o.op≠.select cs b) (h:zo P o ρ=some v) (w:World):(execOp ρ' o).run P w=.ok (.value v) w∧VR m v v:=by
 unfold zo at h
 cases hall:o.op.operands.toList.all (fun x=>nZ (ρ x)) with
 | false=>rw [hall] at h; cases h
 | true =>
  rw [hall] at h
  simp only [cond_true] at h
  have heq:execOp ρ' o=execOp ρ o:=execOp_congr o hs fun x hx=>by
   simp only [bn] at hall
   exact (zM 4 _ _ (hall x (by simpa using hx)) (hρ x hx)).symm
  rw [heq]
  split at h
  ·rename_i v0 hv0
   cases hp:nZ v0 with
   | false=>rw [hp] at h; cases h
   | true =>
    rw [hp] at h
    simp only [cond_true,ak] at h
    subst h
    exact ⟨Dq _ _ w hv0,rG m 4 _ hp⟩
  ·cases h
end
end Go.Sm
end
section
namespace Go.Sm
section
variable {P:Program} {m:Mp}
variable {t:TypeId}
theorem run_typeInfo {i:TypeInfo} (h:P.info? t=some i) (w:World):(typeInfo t).run P w=.ok i w:=by simp [typeInfo,h]
theorem oh {i:TypeInfo} (h:P.info? t=some i) (w:World):(sizeOf t).run P w=.ok i.size w:=by simp [sizeOf,typeInfo,h]
theorem Yw (h:P.cellsOf t≠0):∃i,P.info? t=some i∧i.size=P.cellsOf t:=by
 unfold Program.cellsOf at h ⊢
 cases hi:P.info? t with
 | none=>simp [hi] at h
 | some i=>exact ⟨i,rfl,by simp⟩
theorem Bz {b:Bool} (h:CR P t=some b) (w:World):(isAgg t).run P w=.ok b w:=by
 unfold CR at h
 split at h
 ·rename_i hu; injection h with h; subst h; simp [isAgg,run_underlying hu]
 ·rename_i hu; injection h with h; subst h; simp [isAgg,run_underlying hu]
 ·rename_i d h1 h2 hu
  injection h with h; subst h
  cases d<;>first | (exact absurd rfl (h1 _)) | (exact absurd rfl (h2 _ _)) | simp [isAgg,run_underlying hu]
 ·cases h
variable {cs:Array Value} {v:Value}
theorem QL {cs':Array Value} {off:Nat} (hc:ek m cs.toList cs'.toList) (h:Es P t cs.toList off=some v) (w:World) :
  ∃v',(part t cs' off).run P w=.ok v' w∧VR m v v':=by
 unfold Es at h
 cases ha:CR P t with
 | none=>rw [ha] at h; cases h
 | some b =>
  rw [ha] at h
  cases b with
  | true =>
   simp only at h
   cases hi:P.info? t with
   | none=>rw [hi] at h; cases h
   | some i =>
    rw [hi] at h
    simp only [ak] at h
    subst h
    refine ⟨.agg (cs'.extract off (off+i.size)),by simp [part,Bz ha,oh hi],?_⟩
    have e:(cs'.extract off (off+i.size)).toList=(cs'.toList.drop off).take i.size:=by
     simp [List.extract_eq_take_drop]
    exact ek.agg' (by rw [e]; exact (hc.drop off).take _)
  | false =>
   simp only at h
   obtain ⟨v',hv',hr⟩:=hc.at h
   exact ⟨v',by simp [part,Bz ha,show cs'[off]?=some v' by simpa using hv'],hr⟩
variable {x x':Value} {n:Nat}
theorem wF {y:Nat} (hx:VR m x x') (h:bnd x y=some n) {y':Nat} (hy:y≤y') (code:BoundsCode) (w:World) :
  (Instr.sliceBound x' y' code).run P w=.ok n w:=by
 unfold bnd at h
 split at h
 ·rename_i k i
  rw [wh hx]
  cases hc:(decide (0≤i)&&decide (i≤(y:Int))) with
  | false=>rw [hc] at h; cases h
  | true =>
   rw [hc] at h
   simp only [cond_true,ak] at h
   subst h
   simp only [aQ,decide_eq_true_eq] at hc
   simp only [Instr.sliceBound,asIntOf,di,dA,bC]
   rw [if_pos ⟨hc.1,by omega⟩]
   rfl
 ·cases h
theorem Cm {y:Nat} (h:bnd x y=some n):n≤y:=by
 unfold bnd at h
 split at h
 ·rename_i k i
  cases hc:(decide (0≤i)&&decide (i≤(y:Int))) with
  | false=>rw [hc] at h; cases h
  | true =>
   rw [hc] at h
   simp only [cond_true,ak] at h
   simp only [aQ,decide_eq_true_eq] at hc
   omega
 ·cases h
variable {len cap h mm:Nat} {lo hi mx lo' hi' mx':Option Value}
theorem aln {b:Bool} {cap' l:Nat} (hlo:Option.Rel (VR m) lo lo') (hhi:Option.Rel (VR m) hi hi') (hmx:Option.Rel (VR m) mx mx')
  (hs:GD len cap lo hi mx=some (l,h,mm)) (hc:cap≤cap') (w:World) :
  (afh b len cap' lo' hi' mx').run P w=.ok (l,h,if mx=none then cap' else mm) w∧l≤h∧h≤mm∧(mx=none→mm=cap)∧mm≤cap:=by
 have fin:∀{l0 h0 m0:Nat},(bif decide (h0≤m0) then some (l0,h0,m0) else none)=some (l,h,mm)→l0=l∧h0=h∧m0=mm∧h0≤m0:=by
  intro l0 h0 m0 e
  cases hd:decide (h0≤m0) with
  | false=>rw [hd] at e; cases e
  | true =>
   rw [hd] at e
   simp only [cond_true,ak,aP] at e
   exact ⟨e.1,e.2.1,e.2.2,by simpa using hd⟩
 unfold GD at hs
 cases hmx with
 | none =>
  simp only at hs
  cases hhi with
  | none =>
   simp only at hs
   cases hlo with
   | none =>
    obtain ⟨rfl,rfl,rfl,hle⟩:=fin hs
    exact ⟨by simp [afh],by omega,hle,fun _=>rfl,au _⟩
   | some hx =>
    simp only at hs
    split at hs
    ·cases hs
    ·rename_i l0 hl0
     obtain ⟨rfl,rfl,rfl,hle⟩:=fin hs
     exact ⟨by simp [afh,wF (P:=P) hx hl0 (au _)],Cm hl0,hle,fun _=>rfl,au _⟩
  | some hy =>
   simp only at hs
   split at hs
   ·cases hs
   ·rename_i h0 hh0
    cases hlo with
    | none =>
     obtain ⟨rfl,rfl,rfl,hle⟩:=fin hs
     exact ⟨by simp [afh,wF (P:=P) hy hh0 hc],by omega,hle,fun _=>rfl,au _⟩
    | some hx =>
     simp only at hs
     split at hs
     ·cases hs
     ·rename_i l0 hl0
      obtain ⟨rfl,rfl,rfl,hle⟩:=fin hs
      exact ⟨by simp [afh,wF (P:=P) hy hh0 hc,wF (P:=P) hx hl0 (au _)],Cm hl0,hle,fun _=>rfl,au _⟩
 | some hz =>
  simp only at hs
  split at hs
  ·cases hs
  ·rename_i m0 hm0
   cases hhi with
   | none=>simp only at hs; cases hs
   | some hy =>
    simp only at hs
    split at hs
    ·cases hs
    ·rename_i h0 hh0
     cases hlo with
     | none =>
      obtain ⟨rfl,rfl,rfl,hle⟩:=fin hs
      exact ⟨by simp [afh,wF (P:=P) hz hm0 hc,wF (P:=P) hy hh0 (au _)],by omega,hle,(fun e=>by cases e),Cm hm0⟩
     | some hx =>
      simp only at hs
      split at hs
      ·cases hs
      ·rename_i l0 hl0
       obtain ⟨rfl,rfl,rfl,hle⟩:=fin hs
       exact ⟨by simp [afh,wF (P:=P) hz hm0 hc,wF (P:=P) hy hh0 (au _),wF (P:=P) hx hl0 (au _)],Cm hl0,hle,(fun e=>by cases e),Cm hm0⟩
def Ce (m:Mp) (ps ps':List (Nat×Value)):Prop:=ps.length=ps'.length∧∀(i:Nat) (p p':Nat×Value),ps[i]?=some p→ps'[i]?=some p'→p.1=p'.1∧VR m p.2 p'.2
theorem O1 (off:Nat):∀(vs vs':List Value) (k:Nat) (cs cs':Array Value),ek m vs vs'→ek m cs.toList cs'.toList →
  ek m ((vs.zipIdx k).foldl (fun (a:Array Value) (p:Value×Nat)=>a.setIfInBounds (off+p.2) p.1) cs).toList
   ((vs'.zipIdx k).foldl (fun (a:Array Value) (p:Value×Nat)=>a.setIfInBounds (off+p.2) p.1) cs').toList
 | [],vs',k,cs,cs',hv,hc=>by
  have:vs'=[]:=bR hv.1.symm
  subst this
  simpa using hc
 | v::vs,vs'',k,cs,cs',hv,hc=>by
  obtain ⟨v',vs',rfl,h1,h2⟩:=hv.cons_inv
  simp only [List.zipIdx_cons,List.foldl_cons]
  refine O1 off vs vs' (k+1) _ _ h2 ?_
  simp only [Array.toList_setIfInBounds]
  exact hc.set _ h1
theorem EB {place:Nat→Option (Nat×Nat)}:∀(ps ps':List (Nat×Value)) (cs cs' r:Array Value),Ce m ps ps'→ek m cs.toList cs'.toList→Instr.fill place cs ps=some r →
  ∃r',Instr.fill place cs' ps'=some r'∧ek m r.toList r'.toList
 | [],ps',cs,cs',r,hp,hc,h=>by
  have:ps'=[]:=bR hp.1.symm
  subst this
  simp only [Instr.fill,ak] at h
  subst h
  exact ⟨cs',rfl,hc⟩
 | (i,v)::ps,[],cs,cs',r,hp,hc,h=>by have:=hp.1; simp at this
 | (i,v)::ps,(i',v')::ps',cs,cs',r,hp,hc,h=>by
  obtain ⟨e,hv⟩:=hp.2 0 (i,v) (i',v') rfl rfl
  simp only at e hv
  subst e
  have hv2:=BS hv
  have hlen:v'.cells.size=v.cells.size:=by simpa using hv2.1.symm
  have hcl:cs'.size=cs.size:=by simpa using hc.1.symm
  simp only [Instr.fill] at h ⊢
  cases hpl:place i with
  | none=>rw [hpl] at h; cases h
  | some os =>
   obtain ⟨off,size⟩:=os
   rw [hpl] at h
   simp only at h ⊢
   rw [hlen,hcl]
   split at h
   ·cases h
   ·rename_i hn
    rw [if_neg hn]
    refine EB ps ps' _ _ r ⟨by have:=hp.1; simpa using this,fun j p p' a b=>hp.2 (j+1) p p' (by simpa using a) (by simpa using b)⟩ ?_ h
    have:=O1 (m:=m) off v.cells.toList v'.cells.toList 0 cs cs' hv2 hc
    have e:∀(x c:Array Value),Array.foldl (fun (a:Array Value) (p:Value×Nat)=>a.setIfInBounds (off+p.2) p.1) c x.zipIdx=List.foldl (fun (a:Array Value) (p:Value×Nat)=>a.setIfInBounds (off+p.2) p.1) c x.toList.zipIdx :=
     fun x c=>by rw [←Array.foldl_toList,Array.toList_zipIdx]
    rw [←e,←e] at this
    exact this
theorem QM {ρ ρ':Operand→Value} {ps:List (Nat×Operand)} (h:∀p∈ps,VR m (ρ p.2) (ρ' p.2)) :
  Ce m (ps.map fun p=>(p.1,ρ p.2)) (ps.map fun p=>(p.1,ρ' p.2)):=by
 refine ⟨by simp,fun i p p' a b=>?_⟩
 simp only [bY,aR] at a b
 obtain ⟨q,hq,rfl⟩:=a
 obtain ⟨q',hq',rfl⟩:=b
 rw [hq] at hq'; injection hq' with hq'; subst hq'
 exact ⟨rfl,h q (aN hq)⟩
theorem PK (w:World):∀(fs:List Field),(∀f∈fs,(P.info? f.type).isSome=true) →
  (fs.mapM (m:=Sem) fun f=>do pure (f.offset,←sizeOf f.type)).run P w=.ok (fs.map fun f=>(f.offset,P.cellsOf f.type)) w
 | [],_=>by simp
 | f::fs,h=>by
  have hf:=h f (by simp)
  cases hi:P.info? f.type with
  | none=>rw [hi] at hf; cases hf
  | some i =>
   simp only [List.mapM_cons,di,oh hi,bC,dA,PK w fs (fun f' hf'=>h f' (by simp [hf'])),dI]
   simp [Program.cellsOf,hi]
theorem WM {ps ps':List (Nat×Value)} (hp:Ce m ps ps') (h:Jq P t ps=some v) (w:World) :
  ∃v',(Instr.build t ps'.toArray).run P w=.ok v' w∧VR m v v':=by
 unfold Jq at h
 cases hi:P.info? t with
 | none=>rw [hi] at h; cases h
 | some ti =>
  rw [hi] at h
  simp only at h
  cases hz:ti.zero with
  | none=>rw [hz] at h; cases h
  | some z =>
   rw [hz] at h
   simp only at h
   cases hpl:nZ z with
   | false=>rw [hpl] at h; cases h
   | true =>
    rw [hpl] at h
    simp only [Bool.not_true,cond_false] at h
    have hzr:ek m z.cells.toList z.cells.toList:=BS (rG m 4 z hpl)
    have hzero:(zeroValue t).run P w=.ok z w:=by simp [zeroValue,run_typeInfo hi,hz]
    split at h
    ·rename_i fields hu
     cases hall:fields.toList.all (fun f=>(P.info? f.type).isSome) with
     | false=>rw [hall] at h; cases h
     | true =>
      rw [hall] at h
      simp only [cond_true] at h
      split at h
      ·rename_i cells hf
       injection h with h; subst h
       obtain ⟨r',hr',hrr⟩:=EB ps ps' _ _ _ hp hzr hf
       refine ⟨.agg r',?_,hrr.agg'⟩
       have hmap:(fields.mapM (m:=Sem) fun f=>do pure (f.offset,←sizeOf f.type)).run P w=.ok (fields.map fun f=>(f.offset,P.cellsOf f.type)) w:=by
        simp only [bn] at hall
        rw [Array.mapM_eq_mapM_toList,Sem.run_map,PK w fields.toList (fun f hf=>hall f hf)]
        simp only [bC,Result.ok.injEq,and_true]
        apply Array.ext'
        simp
       have hr2:Instr.fill (fun x=>(fields.map fun f=>(f.offset,P.cellsOf f.type))[x]?) z.cells ps'=some r':=by
        simpa [Array.getElem?_map] using hr'
       simp only [Instr.build,di,hzero,bC,run_underlying hu,hmap,hr2]
       rfl
      ·cases h
    ·rename_i n elem hu
     split at h
     ·rename_i ei hei
      split at h
      ·rename_i cells hf
       injection h with h; subst h
       obtain ⟨r',hr',hrr⟩:=EB ps ps' _ _ _ hp hzr hf
       refine ⟨.agg r',?_,hrr.agg'⟩
       simp only [Instr.build,di,hzero,bC,run_underlying hu,oh hei,hr']
       rfl
      ·cases h
     ·cases h
    ·cases h
theorem KJ {ρ ρ':Operand→Value} {x:Option Operand} (h:∀y∈x.toArray,VR m (ρ y) (ρ' y)):Option.Rel (VR m) (x.map ρ) (x.map ρ'):=by
 cases x with
 | none=>exact .none
 | some y=>exact .some (h y (by simp))
def Ag (m:Mp) (H:Hp):Prop:=∀i g b,m.gb i=some g→H[i]?=some b→m.eD i=b.eD∧m.loose i=b.loose
variable {H:Hp} {a a':Addr} {size c':Nat}
theorem ads (hE:Ag m H) {l:Nat} (hsr:SR m a len cap a' c') (hfit:GI H a size=true) (h1:l≤h) (h2:h≤mm) {nomax:Bool} (h4:nomax=true→mm=cap) (h5:mm≤cap) :
  VR m (.slice (some (bif mm==l then a else uL a (l*size))) (h - l) (mm - l))
   (.slice (if (if nomax then c' else mm)=l then some a' else some (a'.add (l*size))) (h - l) ((if nomax then c' else mm) - l)):=by
 have hsplit:∀(q:Prop) [Decidable q] (x y:Addr),(if q then some x else some y)=some (if q then x else y):=fun q _ x y=>by split<;>rfl
 rw [hsplit]
 refine SR.vr ?_
 rcases hsr with ⟨har,hc⟩ | ⟨rfl,rfl,hsp,hl,g,hg⟩
 ·cases nomax with
  | true =>
   simp only [if_true]
   have e4:=h4 rfl
   subst e4
   rcases hc with rfl | ⟨hsp,hlo,hcc,htt⟩
   ·by_cases hml:c'=l
    ·subst hml
     simp only [BEq.rfl,cond_true,if_true]
     exact .inl ⟨har,.inl rfl⟩
    ·simp only [beq_eq_false_iff_ne.2 hml,cond_false,if_neg hml]
     exact .inl ⟨har.add _,.inl rfl⟩
   ·obtain ⟨g,hg⟩:∃g,m.gb a.block=some g:=by
     rcases har with ⟨_,e,_⟩ | ⟨e,_⟩
     ·exact ⟨_,e⟩
     ·rw [hsp] at e; cases e
    by_cases hml:mm=l
    ·subst hml
     have hhl:h=mm:=by omega
     subst hhl
     simp only [BEq.rfl,cond_true,Nat.sub_self]
     exact .inr ⟨rfl,rfl,hsp,hlo,g,hg⟩
    ·simp only [beq_eq_false_iff_ne.2 hml,cond_false,if_neg (show ¬c'=l by omega)]
     refine .inl ⟨har.add _,.inr ⟨hsp,hlo,by omega,?_⟩⟩
     have hez:m.eD a.block=size:=by
      unfold GI at hfit
      rw [hsp] at hfit
      simp only at hfit
      split at hfit
      ·rename_i b hb
       obtain ⟨e1,e2⟩:=hE _ _ b hg hb
       rw [hlo] at e2
       simp [←e2] at hfit
       omega
      ·cases hfit
     simp only [uL,hez]
     rw [hez] at htt
     have:l*size+(c' - l)*size=c'*size:=by rw [←Nat.add_mul]; congr 1; omega
     omega
  | false =>
   simp only [ajp,if_false]
   by_cases hml:mm=l
   ·subst hml
    simp only [BEq.rfl,cond_true,if_true]
    exact .inl ⟨har,.inl rfl⟩
   ·simp only [beq_eq_false_iff_ne.2 hml,cond_false,if_neg hml]
    exact .inl ⟨har.add _,.inl rfl⟩
 ·have e1:mm=0:=by omega
  have e2:h=0:=by omega
  have e3:l=0:=by omega
  subst e1; subst e2; subst e3
  simp only [BEq.rfl,cond_true,Nat.sub_self]
  exact .inr ⟨rfl,rfl,hsp,hl,g,hg⟩
theorem Ux (hE:Ag m H) (hx:VR m x x') (hlo:Option.Rel (VR m) lo lo') (hhi:Option.Rel (VR m) hi hi') (hmx:Option.Rel (VR m) mx mx')
  (h:Eu P H t x lo hi mx=some v) (w:World):∃v',(Instr.sliceAt t x' lo' hi' mx').run P w=.ok v' w∧VR m v v':=by
 unfold Eu at h
 split at h
 ·rename_i elem a len cap hu
  split at h
  ·rename_i ti l hh mm hti hs
   cases hfit:GI H a ti.size with
   | false=>rw [hfit] at h; cases h
   | true =>
    rw [hfit] at h
    simp only [cond_true,ak] at h
    subst h
    obtain ⟨a',c',rfl,hsr⟩:=y8 hx
    have hcap:cap≤c':=by
     rcases hsr with ⟨_,rfl | ⟨_,_,h3,_⟩⟩ | ⟨_,h2,_⟩
     ·exact au _
     ·exact h3
     ·omega
    obtain ⟨hrun,h1,h2,h4,h5⟩:=aln (P:=P) (b:=true) hlo hhi hmx hs hcap w
    refine ⟨_,by simp only [Instr.sliceAt,di,run_underlying hu,bC,Instr.slice,hrun,oh hti,dA]; rfl,?_⟩
    have hres:=ads hE hsr hfit h1 h2 (nomax:=decide (mx=none)) (by simpa using h4) h5
    simpa using hres
  ·cases h
 ·rename_i n elem a hu
  split at h
  ·rename_i ti l hh mm hti hs
   injection h with h; subst h
   obtain ⟨a',rfl,har⟩:=vz hx
   obtain ⟨hrun,h1,h2,h4,h5⟩:=aln (P:=P) (b:=false) hlo hhi hmx hs (au n) w
   have hm:(if mx=none then n else mm)=mm:=by
    split
    ·rename_i e; exact (h4 e).symm
    ·rfl
   rw [hm] at hrun
   refine ⟨_,by simp only [Instr.sliceAt,di,run_underlying hu,bC,Instr.sureAddr,dA,hrun,oh hti]; rfl,?_⟩
   refine SR.vr ?_
   by_cases hml:mm=l
   ·subst hml
    simp only [BEq.rfl,cond_true,if_true]
    exact .inl ⟨har,.inl rfl⟩
   ·simp only [beq_eq_false_iff_ne.2 hml,cond_false,if_neg hml]
    exact .inl ⟨har.add _,.inl rfl⟩
  ·cases h
 ·cases h
theorem Cj (h:a.spot=none) (n:Nat):a.add n={ a with off:=a.off+n }:=by
 obtain ⟨b,o,s⟩:=a
 simp only at h
 subst h
 unfold Addr.add
 split<;>simp_all
theorem Yq {i i':Value} (hx:VR m x x') (hi:VR m i i') (h:Ju P t x i=some v) (w:World) :
  ∃v',(Instr.indexAt t x' i').run P w=.ok v' w∧VR m v v':=by
 unfold Ju at h
 split at h
 ·rename_i len elem a k n hu
  rw [wh hi]
  split at h
  ·rename_i ti hti
   cases hc:(decide (0≤n)&&decide (n<(len:Int))) with
   | false=>rw [hc] at h; cases h
   | true =>
    rw [hc] at h
    simp only [cond_true,ak] at h
    subst h
    simp only [aQ,decide_eq_true_eq] at hc
    obtain ⟨a',rfl,har⟩:=vz hx
    refine ⟨.pointer (some (a'.add (n.toNat*ti.size))),?_,(har.add _).vr⟩
    simp only [Instr.indexAt,asIntOf,di,dA,bC,run_underlying hu,Instr.sureAddr]
    rw [if_pos hc]
    simp [oh hti]
  ·cases h
 ·rename_i elem a len cap k n hu
  rw [wh hi]
  split at h
  ·rename_i ti hti
   cases hc:(decide (0≤n)&&decide (n<(len:Int))) with
   | false=>rw [hc] at h; cases h
   | true =>
    rw [hc] at h
    simp only [cond_true,ak] at h
    subst h
    simp only [aQ,decide_eq_true_eq] at hc
    obtain ⟨a',c',rfl,hsr⟩:=y8 hx
    rcases hsr with ⟨har,_⟩ | ⟨rfl,_⟩
    ·refine ⟨.pointer (some (a'.add (n.toNat*ti.size))),?_,(har.add _).vr⟩
     simp only [Instr.indexAt,asIntOf,di,dA,bC,run_underlying hu]
     rw [if_pos hc]
     simp [oh hti]
    ·omega
  ·cases h
 ·cases h
variable {o:Oper}
theorem XJ (hE:Ag m H) {ρ ρ':Operand→Value} (hρ:sH m ρ ρ' o) (h:Jv P H o ρ=some v) (w:World) :
  ∃v',(execOp ρ' o).run P w=.ok (.value v') w∧VR m v v':=by
 obtain ⟨dst,op,type,pos,after,guard⟩:=o
 unfold Jv at h
 unfold sH at hρ
 have pl:∀(hs:∀cs b,op≠.select cs b),zo P ⟨dst,op,type,pos,after,guard⟩ ρ=some v→∃v',(execOp ρ' ⟨dst,op,type,pos,after,guard⟩).run P w=.ok (.value v') w∧VR m v v' :=
  fun hs hh=>⟨v,XK hρ hs hh w⟩
 split at h
 ·rename_i x ho; simp only at ho; subst ho
  injection h with h; subst h
  exact ⟨ρ' x,by simp [execOp],hρ x (by simp [bF])⟩
 ·rename_i x ho; simp only at ho; subst ho
  injection h with h; subst h
  exact ⟨ρ' x,by simp [execOp],hρ x (by simp [bF])⟩
 ·rename_i c a b ho; simp only at ho; subst ho
  have hc:=hρ c (by simp [bF])
  split at h
  ·rename_i t ht
   injection h with h; subst h
   rw [ht] at hc
   have hc':=Ab hc
   refine ⟨bif t then ρ' a else ρ' b,?_,?_⟩
   ·cases t<;>simp [execOp,asBool,hc']
   ·cases t
    ·exact hρ b (by simp [bF])
    ·exact hρ a (by simp [bF])
  ·cases h
 ·rename_i x ho; simp only at ho; subst ho
  have hx:=hρ x (by simp [bF])
  split at h
  ·rename_i a ha
   injection h with h; subst h
   rw [ha] at hx
   obtain ⟨a',e,har⟩:=vz hx
   exact ⟨_,by simp [execOp,e],har.vr⟩
  ·rename_i f fs cs hf
   cases hsf:jq f with
   | true=>rw [hsf] at h; cases h
   | false =>
   rw [hsf] at h
   injection h with h; subst h
   rw [hf] at hx
   cases hx':ρ' x with
   | func fn fs' cs' =>
    rw [hx'] at hx
    cases hx with
    | func h0 h1 h2 h3 h4=>exact ⟨_,by simp [execOp,hx'],.func h0 h1 h2 h3 h4⟩
   | int k n=>rw [hx'] at hx; cases hx with | jX h0 _=>rw [hsf] at h0; cases h0
   | bool b=>rw [hx'] at hx; cases hx with | jV h0 _=>rw [hsf] at h0; cases h0
   | slice a n c=>rw [hx'] at hx; cases hx with | hnd h0 _=>rw [hsf] at h0; cases h0
   | _=>rw [hx'] at hx; cases hx
  ·cases h
 ·rename_i x k ho; simp only at ho; subst ho
  have hx:=hρ x (by simp [bF])
  split at h
  ·rename_i vs hvs
   rw [hvs] at hx
   obtain ⟨vs',e,hr⟩:=DN hx
   obtain ⟨v',hv',hvv⟩:=hr.at h
   exact ⟨v',by simp [execOp,Instr.extract,e,show vs'[k]?=some v' by simpa using hv'],hvv⟩
  ·cases h
 ·rename_i f first captured ho; simp only at ho; subst ho
  cases hsf:jq f with
  | true=>rw [hsf] at h; cases h
  | false =>
  rw [hsf] at h
  injection h with h; subst h
  have key:∀(l:List Operand),(∀x∈l,VR m (ρ x) (ρ' x))→ek m (l.map ρ) (l.map ρ'):=by
   intro l hl
   induction l with
   | nil=>exact ek.nil m
   | cons x l ih=>exact ek.cons (hl x (by simp)) (ih fun y hy=>hl y (by simp [hy]))
  have h1:=key first.toList (fun x hx=>hρ x (by simp [bF]; exact .inl (by simpa using hx)))
  have h2:=key captured.toList (fun x hx=>hρ x (by simp [bF]; exact .inr (by simpa using hx)))
  refine ⟨.func (.func f) ⟨first.toList.map ρ'⟩ ⟨captured.toList.map ρ'⟩,?_,.func hsf h1.1 h1.2 h2.1 h2.2⟩
  have e:∀(l:Array Operand),l.map ρ'=⟨l.toList.map ρ'⟩:=fun l=>by apply Array.ext'; simp
  simp [execOp,Instr.makeFunc,e]
 ·rename_i s x f ho; simp only at ho; subst ho
  have hx:=hρ x (by simp [bF])
  split at h
  ·rename_i fs a hu ha
   split at h
   ·rename_i fd hfd
    cases hz:(P.cellsOf fd.type==0) with
    | true=>rw [hz] at h; cases h
    | false =>
     rw [hz] at h
     simp only [cond_false,ak] at h
     subst h
     rw [ha] at hx
     obtain ⟨a',e,har⟩:=vz hx
     obtain ⟨i,hi,hsz⟩:=Yw (P:=P) (t:=fd.type) (by simpa using hz)
     refine ⟨_,?_,(har.add fd.offset).vr⟩
     have hne:¬i.size=0:=by rw [hsz]; simpa using hz
     simp [execOp,Instr.fieldAt,run_underlying hu,hfd,Instr.sureAddr,e,fieldPlace,oh hi,hne]
   ·cases h
  ·cases h
 ·rename_i t x i ho; simp only at ho; subst ho
  obtain ⟨v',hv',hr⟩:=Yq (hρ x (by simp [bF])) (hρ i (by simp [bF])) h w
  exact ⟨v',by simp [execOp,hv'],hr⟩
 ·rename_i t x f ho; simp only at ho; subst ho
  have hx:=hρ x (by simp [bF])
  split at h
  ·rename_i fs cs hu hcs
   split at h
   ·rename_i fd hfd
    rw [hcs] at hx
    obtain ⟨cs',e,hr⟩:=uD hx
    obtain ⟨v',hv',hvv⟩:=QL hr h w
    exact ⟨v',by simp [execOp,Instr.field,run_underlying hu,hfd,asAgg,e,hv'],hvv⟩
   ·cases h
  ·cases h
 ·rename_i t x i ho; simp only at ho; subst ho
  split at h
  ·rename_i len elem cs k n hu hcs hn
   have hx:=hρ x (by simp [bF])
   have hi:=hρ i (by simp [bF])
   rw [hcs] at hx
   rw [hn] at hi
   have hi':=wh hi
   obtain ⟨cs',e,hr⟩:=uD hx
   split at h
   ·rename_i ei hei
    cases hc:(decide (0≤n)&&decide (n<(len:Int))) with
    | false=>rw [hc] at h; cases h
    | true =>
     rw [hc] at h
     simp only [cond_true] at h
     simp only [aQ,decide_eq_true_eq] at hc
     obtain ⟨v',hv',hvv⟩:=QL hr h w
     refine ⟨v',?_,hvv⟩
     simp only [execOp,di,aeV,hi',asIntOf,dA,bC,run_underlying hu,e]
     rw [if_pos hc]
     simp [oh hei,hv']
   ·cases h
  ·exact pl (by simp) h
 ·rename_i t x lo hi mx ho; simp only at ho; subst ho
  have hx:=hρ x (by simp [bF])
  have hlo:Option.Rel (VR m) (lo.map ρ) (lo.map ρ'):=KJ fun y hy=>hρ y (by simp [bF]; cases lo<;>simp_all)
  have hhi:Option.Rel (VR m) (hi.map ρ) (hi.map ρ'):=KJ fun y hy=>hρ y (by simp [bF]; cases hi<;>simp_all)
  have hmx:Option.Rel (VR m) (mx.map ρ) (mx.map ρ'):=KJ fun y hy=>hρ y (by simp [bF]; cases mx<;>simp_all)
  split at h
  ·obtain ⟨v',hv',hr⟩:=Ux hE hx hlo hhi hmx h w
   exact ⟨v',by simp [execOp,hv'],hr⟩
  ·obtain ⟨v',hv',hr⟩:=Ux hE hx hlo hhi hmx h w
   exact ⟨v',by simp [execOp,hv'],hr⟩
  ·exact pl (by simp) h
 ·rename_i t ps ho; simp only at ho; subst ho
  have hp:Ce m (ps.toList.map fun p=>(p.1,ρ p.2)) (ps.toList.map fun p=>(p.1,ρ' p.2)):=QM fun p hp=>hρ p.2 (by simp [bF]; exact ⟨p.1,by simpa using hp⟩)
  obtain ⟨v',hv',hr⟩:=WM hp h w
  refine ⟨v',?_,hr⟩
  have e:(ps.map fun (i,x)=>(i,ρ' x))=(ps.toList.map fun p=>(p.1,ρ' p.2)).toArray:=by apply Array.ext'; simp
  simp only [execOp,di,e,hv',bC,dA]
 ·rename_i x t ho; simp only at ho; subst ho
  have hx:=hρ x (by simp [bF,ae5])
  split at h
  ·rename_i e1 a n c hu hs
   injection h with h; subst h
   rw [hs] at hx
   have:∃a' c',ρ' x=.slice a' n c':=by
    cases a with
    | none=>generalize ρ' x=y at hx; cases hx with | qD=>exact ⟨_,_,rfl⟩
    | some a=>obtain ⟨a',c',e,_⟩:=y8 hx; exact ⟨_,_,e⟩
   obtain ⟨a',c',e⟩:=this
   exact ⟨.int .i64 n,by simp [execOp,resolve,invoke,builtin,Builtin.len_,run_underlying hu,e,goInt],.int _ _⟩
  ·exact pl (by simp) h
 ·cases h
 ·rename_i hs
  exact pl (fun cs b e=>hs cs b e) h
theorem KZ {α β:Type}:∀(s:Sem α) (f:α→Sem β),lZ P (s.bind f)=(lZ P s).bind fun a=>lZ P (f a)
 | .pure _,_=>rfl
 | .program k,f=>by simp only [Sem.bind,lZ]; exact KZ (k P) f
 | .mark _ k,f=>by simp only [Sem.bind,lZ]; exact KZ k f
 | .load ..,_ | .store ..,_ | .new ..,_ | .shape ..,_ | .freeze ..,_ | .frozen ..,_ | .getObj ..,_ | .setObj ..,_
 | .choose ..,_ | .sys ..,_ | .halt ..,_=>rfl
theorem adg {α β:Type} (s:Sem α) (f:α→Sem β):lZ P (s >>= f)=(lZ P s).bind fun a=>lZ P (f a):=KZ s f
theorem qR {α:Type} (a:α):lZ P (pure a:Sem α)=some a:=rfl
variable {f:FuncId}
theorem Y2 {fs:Array Value} (hf:jq f=false):mQ (.func (.func f) fs cs)=none:=by
 unfold mQ
 split
 ·rename_i h; cases h
 ·rename_i h; injection h with h1 h2 h3; injection h1 with h1; subst h1; rw [hf]; rfl
 ·rfl
variable {k:IntKind}
theorem wU (h:VR m x x') (hk:mQ x=some k):∃n d,x'=.int k n∧eF m.env d x=some (.int k n):=by
 cases h with
 | int k' n=>simp only [mQ,ak] at hk; subst hk; exact ⟨n,1,rfl,rfl⟩
 | jX hf hh =>
  rename_i f xs k' n
  obtain ⟨d,hd⟩:=hh
  cases xs with
  | nil=>simp [mQ] at hk
  | cons tag rest =>
   cases tag with
   | int kt i =>
    simp only [mQ,hf,cond_true,ak] at hk
    subst hk
    cases d with
    | zero=>cases hd
    | succ d =>
     have hd':=hd
     simp only [eF,hf,cond_true] at hd
     split at hd
     ·rename_i vs hvs
      cases d with
      | zero=>simp [eQ,eF] at hvs
      | succ d =>
       simp only [eQ] at hvs
       have e:eF m.env (d+1) (.int kt i)=some (.int kt i):=rfl
       rw [e] at hvs
       simp only at hvs
       split at hvs
       ·injection hvs with hvs
        subst hvs
        obtain ⟨n',e'⟩:=D7 hd
        injection e' with e1 e2
        subst e1
        exact ⟨n,_,rfl,hd'⟩
       ·cases hvs
     ·cases hd
   | _=>simp [mQ] at hk
 | jV hf hh =>
  rename_i f xs b
  exfalso
  obtain ⟨d,hd⟩:=hh
  cases xs with
  | nil=>simp [mQ] at hk
  | cons tag rest =>
   cases tag with
   | int kt i =>
    cases d with
    | zero=>cases hd
    | succ d =>
     simp only [eF,hf,cond_true] at hd
     split at hd
     ·rename_i vs hvs
      cases d with
      | zero=>simp [eQ,eF] at hvs
      | succ d =>
       simp only [eQ] at hvs
       have e:eF m.env (d+1) (.int kt i)=some (.int kt i):=rfl
       rw [e] at hvs
       simp only at hvs
       split at hvs
       ·injection hvs with hvs
        subst hvs
        obtain ⟨n',e'⟩:=D7 hd
        cases e'
       ·cases hvs
     ·cases hd
   | _=>simp [mQ] at hk
 | func hf _ _ _ _=>rw [Y2 hf] at hk; cases hk
 | _=>simp [mQ] at hk
variable {d:Nat} {r:Value}
theorem OE (h:eF m.env d r=some x):VR m r x:=by
 cases d with
 | zero=>cases h
 | succ d =>
  have h0:=h
  unfold eF at h
  split at h
  ·injection h with h; subst h; exact .int _ _
  ·injection h with h; subst h; exact .bool _
  ·rename_i f xs
   cases hf:jq f with
   | false=>rw [hf] at h; cases h
   | true =>
    rw [hf] at h
    simp only [cond_true] at h
    split at h
    ·rename_i vs hvs
     cases vs with
     | nil=>simp [iG] at h
     | cons tag rest =>
      cases tag with
      | int k i=>obtain ⟨n,e⟩:=D7 h; subst e; exact .jX hf ⟨_,h0⟩
      | bool b=>obtain ⟨n,e⟩:=D6 h; subst e; exact .jV hf ⟨_,h0⟩
      | _=>simp [iG] at h
    ·cases h
  ·cases h
variable {X:Xt}
theorem uE (hS:Sat m.env X.mP) (h:∃d,eF m.env d v=some x):VR m (jJ X v) x:=by
 unfold jJ
 split
 ·rename_i r hl
  obtain ⟨d,y,h1,h2⟩:=hS _ (Ke _ _ _ hl)
  obtain ⟨d',hd'⟩:=h
  have:=ru m.env h1 hd'
  subst this
  exact OE h2
 ·obtain ⟨d,hd⟩:=h
  exact OE hd
variable {c:Nat} {b0:Bool} {xs:List Value}
theorem Mh (hS:Sat m.env X.mP) {b:Bool} (h:∃d,eF m.env d (mk c (.bool b0) xs)=some (.bool b)):VR m (jJ X (mk c (.bool b0) xs)) (.bool b):=uE hS h
theorem Kc (hS:Sat m.env X.mP) {b:Bool} (h:look X.mP v=some (.bool b)):∃d,eF m.env d v=some (.bool b):=by
 obtain ⟨d,x,h1,h2⟩:=hS _ (Ke _ _ _ h)
 cases d with
 | zero=>cases h2
 | succ d =>
  simp only [eF,ak] at h2
  subst h2
  exact ⟨_,h1⟩
theorem MO {op:BinOp} {z:TypeId} {x y:Operand} {ρ':Operand→Value} {kd:IntKind} {a b:Int} (ho:o.op=.binOp op t x y z) (hx:ρ' x=.int kd a) (hy:ρ' y=.int kd b) (hop:op≠.shl∧op≠.shr) (hr:lZ P (binOp op t (.int kd a) (.int kd b))=some v) (w:World) :
  (execOp ρ' o).run P w=.ok (.value v) w:=by
 refine Dq _ _ w ?_
 unfold execOp
 rw [ho]
 simp only [hx,hy,adg]
 have hg:lZ P (eqGuard op t x y (.int kd a) (.int kd b))=some ():=by
  cases op<;>rfl
 rw [hg]
 simp only [Option.bind_some,hr]
 rfl
theorem uS (k:IntKind) (i:Int):(∃k' n,(Value.int k i)=.int k' n)∨∃b,(Value.int k i)=.bool b:=.inl ⟨k,i,rfl⟩
theorem Ef (b:Bool):(∃k' n,(Value.bool b)=.int k' n)∨∃b',(Value.bool b)=.bool b':=.inr ⟨b,rfl⟩
variable {y:Value}
theorem Pn (hS:Sat m.env X.mP) {b:Int} (h:AU X y=true) (hy:eF m.env d y=some (.int k b)):1≤b:=by
 unfold AU at h
 split at h
 ·rename_i b0 hl
  obtain ⟨d',hd'⟩:=Kc hS hl
  have hb0:b0=true:=h
  subst hb0
  cases d' with
  | zero=>cases hd'
  | succ d' =>
   rw [CG] at hd'
   split at hd'
   ·rename_i vs hvs
    simp only [eQ] at hvs
    cases d' with
    | zero=>simp [eF] at hvs
    | succ d' =>
     have e0:eF m.env (d'+1) (.bool true)=some (.bool true):=rfl
     have e1:eF m.env (d'+1) (.int .i64 1)=some (.int .i64 1):=rfl
     rw [e0,e1] at hvs
     cases hyy:eF m.env (d'+1) y with
     | none=>rw [hyy] at hvs; cases hvs
     | some u =>
      have:=ru m.env hyy hy
      subst this
      rw [hyy] at hvs
      simp only [ak] at hvs
      subst hvs
      simp only [iG] at hd'
      split at hd'
      ·simp only [ak,Value.bool.injEq,decide_eq_true_eq] at hd'
       omega
      ·cases hd'
   ·cases hd'
 ·cases h
variable {d':Nat}
theorem adI (hS:Sat m.env X.mP) {op:BinOp} {z:TypeId} {x y:Operand} {ρ ρ':Operand→Value} (ho:o.op=.binOp op t x y z) {a b:Int}
  (hx:ρ' x=.int k a) (hy:ρ' y=.int k b) (ex:eF m.env d (ρ x)=some (.int k a)) (ey:eF m.env d' (ρ y)=some (.int k b)) (h:LQ X op k (ρ x) (ρ y)=some v) (w:World) :
  ∃v',(execOp ρ' o).run P w=.ok (.value v') w∧VR m v v':=by
 have I:∀(c:Nat) (n:Int),op≠.shl∧op≠.shr→iG m.env c [.int k 0,.int k a,.int k b]=some (.int k n)→lZ P (binOp op t (.int k a) (.int k b))=some (.int k n)→some (jJ X (mk c (.int k 0) [ρ x,ρ y]))=some v→∃v',(execOp ρ' o).run P w=.ok (.value v') w∧VR m v v':=by
  intro c n hop ha hr hv
  injection hv with hv
  subst hv
  exact ⟨_,MO ho hx hy hop hr w,uE hS (vR (uS k 0) ex ey ha)⟩
 have B:∀(c:Nat) (n:Bool),op≠.shl∧op≠.shr→iG m.env c [.bool true,.int k a,.int k b]=some (.bool n)→lZ P (binOp op t (.int k a) (.int k b))=some (.bool n)→some (jJ X (mk c (.bool true) [ρ x,ρ y]))=some v→∃v',(execOp ρ' o).run P w=.ok (.value v') w∧VR m v v':=by
  intro c n hop ha hr hv
  injection hv with hv
  subst hv
  exact ⟨_,MO ho hx hy hop hr w,Mh hS (vR (Ef true) ex ey ha)⟩
 unfold LQ at h
 split at h
 ·exact I 2 (k.wrap (a+b)) (by simp) (by simp [iG]) (by simp [binOp,Op.intArith,qR]) h
 ·exact I 3 (k.wrap (a - b)) (by simp) (by simp [iG]) (by simp [binOp,Op.intArith,qR]) h
 ·exact I 4 (k.wrap (a*b)) (by simp) (by simp [iG]) (by simp [binOp,Op.intArith,qR]) h
 ·split at h
  ·rename_i k' n hn
   rw [hn] at ey
   have:n=b:=by
    cases d' with
    | zero=>cases ey
    | succ d'=>simp [eF] at ey; exact ey.2
   subst this
   cases hz:decide (n=0) with
   | true=>rw [hz] at h; cases h
   | false =>
    rw [hz] at h
    have hz':¬n=0:=by simpa using hz
    exact I 5 (k.wrap (a.tdiv n)) (by simp) (by simp [iG]) (by simp [binOp,Op.intDiv,hz',qR]) h
  ·cases hp:AU X (ρ y) with
   | false=>rw [hp] at h; cases h
   | true =>
    rw [hp] at h
    have hz':¬b=0:=by have:=Pn hS hp ey; omega
    exact I 5 (k.wrap (a.tdiv b)) (by simp) (by simp [iG]) (by simp [binOp,Op.intDiv,hz',qR]) h
 ·split at h
  ·rename_i k' n hn
   rw [hn] at ey
   have:n=b:=by
    cases d' with
    | zero=>cases ey
    | succ d'=>simp [eF] at ey; exact ey.2
   subst this
   cases hz:decide (n=0) with
   | true=>rw [hz] at h; cases h
   | false =>
    rw [hz] at h
    have hz':¬n=0:=by simpa using hz
    exact I 6 (a.tmod n) (by simp) (by simp [iG]) (by simp [binOp,Op.intDiv,hz',qR]) h
  ·cases hp:AU X (ρ y) with
   | false=>rw [hp] at h; cases h
   | true =>
    rw [hp] at h
    have hz':¬b=0:=by have:=Pn hS hp ey; omega
    exact I 6 (a.tmod b) (by simp) (by simp [iG]) (by simp [binOp,Op.intDiv,hz',qR]) h
 ·exact I 7 (k.wrap (ae6 k.bits a &&& ae6 k.bits b).toNat) (by simp) (by simp [iG]) (by simp [binOp,Op.intBits,qR]) h
 ·exact I 8 (k.wrap (ae6 k.bits a ||| ae6 k.bits b).toNat) (by simp) (by simp [iG]) (by simp [binOp,Op.intBits,qR]) h
 ·exact B 20 (decide (a<b)) (by simp) (by simp [iG]) (by simp [binOp,Op.intCmp,qR]) h
 ·exact B 21 (decide (a≤b)) (by simp) (by simp [iG]) (by simp [binOp,Op.intCmp,qR]) h
 ·exact B 22 (decide (b<a)) (by simp) (by simp [iG]) (by simp [binOp,Op.intCmp,qR]) h
 ·exact B 23 (decide (b≤a)) (by simp) (by simp [iG]) (by simp [binOp,Op.intCmp,qR]) h
 ·exact B 24 (a==b) (by simp) (by simp [iG]) (by simp [binOp,Op.intCmp,qR]) h
 ·exact B 25 (a != b) (by simp) (by simp [iG]) (by simp [binOp,Op.intCmp,qR]) h
 ·cases h
theorem WL (h:VR m x x') (hk:wQ x=true):∃b d,x'=.bool b∧eF m.env d x=some (.bool b):=by
 cases h with
 | jV hf hh=>obtain ⟨d,hd⟩:=hh; exact ⟨_,d,rfl,hd⟩
 | jX hf hh =>
  rename_i f xs k' n
  exfalso
  obtain ⟨d,hd⟩:=hh
  cases xs with
  | nil=>simp [wQ] at hk
  | cons tag rest =>
   cases tag with
   | bool b0 =>
    cases d with
    | zero=>cases hd
    | succ d =>
     simp only [eF,hf,cond_true] at hd
     split at hd
     ·rename_i vs hvs
      cases d with
      | zero=>simp [eQ,eF] at hvs
      | succ d =>
       simp only [eQ] at hvs
       have e:eF m.env (d+1) (.bool b0)=some (.bool b0):=rfl
       rw [e] at hvs
       simp only at hvs
       split at hvs
       ·injection hvs with hvs
        subst hvs
        obtain ⟨b',e'⟩:=D6 hd
        cases e'
       ·cases hvs
     ·cases hd
   | _=>simp [wQ] at hk
 | func hf _ _ _ _ =>
  exfalso
  revert hk
  unfold wQ
  split
  ·rename_i h; injection h with h1 h2 h3; injection h1 with h1; subst h1; rw [hf]; intro h; cases h
  ·intro h; cases h
 | _=>simp [wQ] at hk
theorem P8 (hS:Sat m.env X.mP) {b:Int} (h:Bf X y=true) (hy:eF m.env d y=some (.int k b)):0≤b:=by
 unfold Bf at h
 split at h
 ·rename_i b0 hl
  obtain ⟨d',hd'⟩:=Kc hS hl
  have hb0:b0=false:=by simpa using h
  subst hb0
  cases d' with
  | zero=>cases hd'
  | succ d' =>
   rw [CG] at hd'
   split at hd'
   ·rename_i vs hvs
    simp only [eQ] at hvs
    cases d' with
    | zero=>simp [eF] at hvs
    | succ d' =>
     have e0:eF m.env (d'+1) (.bool true)=some (.bool true):=rfl
     have e1:eF m.env (d'+1) (.int .i64 0)=some (.int .i64 0):=rfl
     rw [e0,e1] at hvs
     cases hyy:eF m.env (d'+1) y with
     | none=>rw [hyy] at hvs; cases hvs
     | some u =>
      have:=ru m.env hyy hy
      subst this
      rw [hyy] at hvs
      simp only [ak] at hvs
      subst hvs
      simp only [iG] at hd'
      split at hd'
      ·simp only [ak,Value.bool.injEq,decide_eq_false_iff_not] at hd'
       omega
      ·cases hd'
   ·cases hd'
 ·cases h
variable {v':Value}
theorem zJ (hk:kz v=true) (h:VR m v v'):∃n d,v'=(.int .i64 n)∧eF m.env d v=some (.int .i64 n):=by
 unfold kz at hk
 split at hk
 ·rename_i hkv; exact wU h hkv
 ·cases hk
theorem Oy (hS:Sat m.env X.mP) {a b:Int} {r:Bool} (hx:eF m.env d x=some (.int .i64 a)) (hy:eF m.env d' y=some (.int .i64 b)) (h:Er X x y=some r):(a==b)=r:=by
 unfold Er at h
 split at h
 ·simp only [ak] at h
  cases d with
  | zero=>cases hx
  | succ d =>
   cases d' with
   | zero=>cases hy
   | succ d'=>simp [eF] at hx hy; rw [←h,hx.2,hy.2]
 ·cases hv:vN 100 x y with
  | true =>
   rw [hv] at h
   simp only [cond_true,ak] at h
   have e:=Cz _ _ _ hv
   subst e h
   have:=ru m.env hx hy
   injection this with _ this
   simp [this]
  | false =>
  rw [hv] at h
  simp only [cond_false] at h
  split at h
  case h_2=>cases h
  rename_i b0 hl
  injection h with h
  subst h
  obtain ⟨d0,hd0⟩:=Kc hS hl
  obtain ⟨d1,hd1⟩:=vR (E:=m.env) (c:=24) (r:=.bool (a==b)) (Ef true) hx hy (by simp [iG])
  have:=ru m.env hd1 hd0
  injection this
theorem afV (hS:Sat m.env X.mP) {vx vy ux uy:Value} (hx:VR m vx ux) (hy:VR m vy uy) (h:Oz X t vx vy=some v) :
  t∈X.eqs∧∃a b c d:Int,ux=.agg #[.int .i64 a,.int .i64 b]∧uy=.agg #[.int .i64 c,.int .i64 d]∧v=.bool (a==c&&b==d):=by
 unfold Oz at h
 split at h
 ·rename_i x0 x1 y0 y1
  cases hc:(X.eqs.any (ay t)&&(kz x0&&kz x1&&kz y0&&kz y1)) with
  | false=>rw [hc] at h; cases h
  | true =>
   rw [hc] at h
   simp only [cond_true] at h
   simp only [aQ,List.any_eq_true] at hc
   obtain ⟨⟨t',ht',htt⟩,⟨⟨o1,o2⟩,o3⟩,o4⟩:=hc
   have htt':=bf htt
   subst htt'
   split at h
   ·rename_i ra rb ha hb
    simp only [ak] at h
    subst h
    obtain ⟨cx,ex,vx⟩:=uD hx
    obtain ⟨cy,ey,vy⟩:=uD hy
    obtain ⟨cx⟩:=cx
    obtain ⟨cy⟩:=cy
    obtain ⟨p0,l0,rfl,q0,m0⟩:=vx.cons_inv
    obtain ⟨p1,l1,rfl,q1,m1⟩:=m0.cons_inv
    obtain ⟨p2,l2,rfl,q2,m2⟩:=vy.cons_inv
    obtain ⟨p3,l3,rfl,q3,m3⟩:=m2.cons_inv
    have e1:l1=[]:=bR (by rw [←m1.1]; rfl)
    have e3:l3=[]:=bR (by rw [←m3.1]; rfl)
    subst e1 e3
    obtain ⟨n0,d0,rfl,g0⟩:=zJ o1 q0
    obtain ⟨n1,d1,rfl,g1⟩:=zJ o2 q1
    obtain ⟨n2,d2,rfl,g2⟩:=zJ o3 q2
    obtain ⟨n3,d3,rfl,g3⟩:=zJ o4 q3
    refine ⟨ht',n0,n1,n2,n3,ex,ey,?_⟩
    rw [Oy hS g0 g2 ha,Oy hS g1 g3 hb]
   ·cases h
 ·cases h
theorem XL (hS:Sat m.env X.mP) (hQ:DV P X) {ρ ρ':Operand→Value} (hρ:sH m ρ ρ' o) (h:JE P X o ρ=some v) (w:World) :
  ∃v',(execOp ρ' o).run P w=.ok (.value v') w∧VR m v v':=by
 obtain ⟨dst,op,type,pos,after,guard⟩:=o
 unfold JE at h
 unfold sH at hρ
 simp only at h
 split at h
 ·rename_i op t x y z
  have hx:=hρ x (by simp [bF])
  have hy:=hρ y (by simp [bF])
  split at h
  ·rename_i k k' hkx hky
   obtain ⟨a,d,ea,da⟩:=wU hx hkx
   obtain ⟨b,d',eb,db⟩:=wU hy hky
   split at h
   ·rename_i k2 n hn
    cases hz:decide (0≤n) with
    | false=>rw [hz] at h; cases h
    | true =>
     rw [hz] at h
     simp only [cond_true,ak] at h
     have hz':0≤n:=by simpa using hz
     have hb:b=n:=by
      rw [hn] at db
      cases d' with
      | zero=>cases db
      | succ d'=>simp [eF] at db; exact db.2.symm
     subst hb
     subst h
     refine ⟨.int k (k.wrap (a*2^(min b.toNat k.bits))),?_,uE hS (vR (uS k 0) da db (by simp [iG]))⟩
     have hlt:¬b<0:=by omega
     simp [execOp,ea,eb,eqGuard,binOp,Op.shift,hlt]
   ·rename_i k2 n hn
    cases hz:decide (0≤n) with
    | false=>rw [hz] at h; cases h
    | true =>
     rw [hz] at h
     simp only [cond_true,ak] at h
     have hz':0≤n:=by simpa using hz
     have hb:b=n:=by
      rw [hn] at db
      cases d' with
      | zero=>cases db
      | succ d'=>simp [eF] at db; exact db.2.symm
     subst hb
     subst h
     refine ⟨.int k (a.fdiv (2^(min b.toNat k.bits))),?_,uE hS (vR (uS k 0) da db (by simp [iG]))⟩
     have hlt:¬b<0:=by omega
     simp [execOp,ea,eb,eqGuard,binOp,Op.shift,hlt]
   ·cases hn:Bf X (ρ y) with
    | false=>rw [hn] at h; cases h
    | true =>
     rw [hn] at h
     simp only [cond_true,ak] at h
     have hz':=P8 hS hn db
     subst h
     refine ⟨.int k (k.wrap (a*2^(min b.toNat k.bits))),?_,uE hS (vR (uS k 0) da db (by simp [iG]))⟩
     have hlt:¬b<0:=by omega
     simp [execOp,ea,eb,eqGuard,binOp,Op.shift,hlt]
   ·cases hn:Bf X (ρ y) with
    | false=>rw [hn] at h; cases h
    | true =>
     rw [hn] at h
     simp only [cond_true,ak] at h
     have hz':=P8 hS hn db
     subst h
     refine ⟨.int k (a.fdiv (2^(min b.toNat k.bits))),?_,uE hS (vR (uS k 0) da db (by simp [iG]))⟩
     have hlt:¬b<0:=by omega
     simp [execOp,ea,eb,eqGuard,binOp,Op.shift,hlt]
   ·cases hk:decide (k=k') with
    | false=>rw [hk] at h; cases h
    | true =>
     rw [hk] at h
     simp only [cond_true] at h
     have hk':k=k':=by simpa using hk
     subst hk'
     exact adI hS rfl ea eb da db h w
  ·split at h
   ·obtain ⟨ht',a,b,c,d,ex,ey,rfl⟩:=afV hS hx hy h
    exact ⟨_,hQ _ ht' _ x y _ ρ' a b c d w false rfl ex ey,.bool _⟩
   ·cases hp:Oz X t (ρ x) (ρ y) with
    | none=>rw [hp] at h; cases h
    | some u =>
     obtain ⟨ht',a,b,c,d,ex,ey,rfl⟩:=afV hS hx hy hp
     rw [hp] at h
     simp only [af2,ak] at h
     subst h
     exact ⟨_,hQ _ ht' _ x y _ ρ' a b c d w true rfl ex ey,.bool _⟩
   ·cases h
 ·rename_i t x
  have hx:=hρ x (by simp [bF])
  split at h
  ·rename_i k hkx
   obtain ⟨a,d,ea,da⟩:=wU hx hkx
   simp only [ak] at h
   subst h
   refine ⟨.int k (k.wrap (-a)),?_,uE hS (Et (uS k 0) da (by simp [iG]))⟩
   simp [execOp,ea,Op.unary,Op.intArith,Int.zero_sub]
  ·cases h
 ·rename_i t x
  have hx:=hρ x (by simp [bF])
  cases hb:wQ (ρ x) with
  | false=>rw [hb] at h; cases h
  | true =>
   rw [hb] at h
   simp only [cond_true,ak] at h
   obtain ⟨b,d,eb,db⟩:=WL hx hb
   subst h
   refine ⟨.bool (!b),?_,Mh hS (Et (Ef true) db (by simp [iG]))⟩
   simp [execOp,eb,Op.unary]
 ·rename_i s t x
  have hx:=hρ x (by simp [bF])
  split at h
  ·rename_i k0 k k1 hs ht hkx
   obtain ⟨a,d,ea,da⟩:=wU hx hkx
   simp only [ak] at h
   subst h
   refine ⟨.int k (k.wrap a),?_,uE hS (Et (uS k 0) da (by simp [iG]))⟩
   simp [execOp,ea,convert,run_underlying hs,run_underlying ht,Conv.intToInt]
  ·cases h
 ·rename_i x y ts
  have hx:=hρ x (by simp [bF,ae5])
  have hy:=hρ y (by simp [bF,ae5])
  split at h
  ·rename_i k k' hkx hky
   obtain ⟨a,d,ea,da⟩:=wU hx hkx
   obtain ⟨b,d',eb,db⟩:=wU hy hky
   cases hk:decide (k=k') with
   | false=>rw [hk] at h; cases h
   | true =>
    rw [hk] at h
    simp only [cond_true,ak] at h
    have hk':k=k':=by simpa using hk
    subst hk' h
    refine ⟨.int k (if b<a then b else a),?_,uE hS (vR (uS k 0) da db (by simp [iG]))⟩
    simp [execOp,resolve,invoke,builtin,Builtin.min_,Builtin.min2,ea,eb]
  ·cases h
 ·rename_i x y ts
  have hx:=hρ x (by simp [bF,ae5])
  have hy:=hρ y (by simp [bF,ae5])
  split at h
  ·rename_i k k' hkx hky
   obtain ⟨a,d,ea,da⟩:=wU hx hkx
   obtain ⟨b,d',eb,db⟩:=wU hy hky
   cases hk:decide (k=k') with
   | false=>rw [hk] at h; cases h
   | true =>
    rw [hk] at h
    simp only [cond_true,ak] at h
    have hk':k=k':=by simpa using hk
    subst hk' h
    refine ⟨.int k (if a<b then b else a),?_,uE hS (vR (uS k 0) da db (by simp [iG]))⟩
    simp [execOp,resolve,invoke,builtin,Builtin.max_,Builtin.max2,ea,eb]
  ·cases h
 ·cases h
theorem Ay (E:Env) (d:Nat) (f:FuncId) {u:Value}:eF E d (.func (.func f) ⟨[]⟩ ⟨[]⟩)≠some u:=by
 intro h
 cases d with
 | zero=>cases h
 | succ d =>
  unfold eF at h
  simp only [eQ,iG] at h
  cases hf:jq f<;>rw [hf] at h<;>cases h
theorem aex {n:Int} (h:eF m.env d v=some (.int .i64 n)):VR m v (.int .i64 n):=by
 cases d with
 | zero=>cases h
 | succ d =>
  have h0:=h
  unfold eF at h
  split at h
  ·injection h with h; injection h with h1 h2; subst h1 h2; exact .int _ _
  ·cases h
  ·rename_i f xs
   cases hf:jq f with
   | false=>rw [hf] at h; cases h
   | true=>exact .jX hf ⟨_,h0⟩
  ·cases h
theorem EN {k:Nat} (hk:zz v=some k) (h:VR m v v'):v'=.slice (m.env.sl k).1 (m.env.sl k).2.1 (m.env.sl k).2.2:=by
 obtain ⟨f,hv,hb,hk2⟩:=Yk hk
 rw [hv] at h
 rw [hk2]
 have hf:jq f=true:=Nat.ble_eq_true_of_le (aZ (ae8 rfl:1000000≤2000000) (ae8 hb))
 cases h with
 | jX _ hh=>obtain ⟨d,hd⟩:=hh; exact absurd hd (Ay _ _ _)
 | jV _ hh=>obtain ⟨d,hd⟩:=hh; exact absurd hd (Ay _ _ _)
 | hnd _ _=>rfl
 | func h0 _ _ _ _=>rw [hf] at h0; cases h0
theorem Pm {n:Int} (hd:eF m.env d v=some (.int .i64 n)) (h:VR m v v'):v'=.int .i64 n:=by
 cases d with
 | zero=>cases hd
 | succ d =>
  have hd0:=hd
  unfold eF at hd
  split at hd
  ·injection hd with hd; injection hd with h1 h2; subst h1 h2; exact wh h
  ·cases hd
  ·rename_i f xs
   cases h with
   | jX _ hh=>obtain ⟨d',hd'⟩:=hh; exact ru m.env hd' hd0
   | jV _ hh=>obtain ⟨d',hd'⟩:=hh; have:=ru m.env hd' hd0; cases this
   | hnd _ _=>exact absurd hd0 (Ay _ _ _)
   | func h0 _ _ _ _=>rw [h0] at hd; cases hd
  ·cases hd
theorem XI (hW:kv X m) {ρ ρ':Operand→Value} (hρ:sH m ρ ρ' o) (h:Jt P X o ρ=some v) (w:World) :
  ∃v',(execOp ρ' o).run P w=.ok (.value v') w∧VR m v v':=by
 obtain ⟨dst,op,type,pos,after,guard⟩:=o
 unfold Jt at h
 unfold sH at hρ
 simp only at h hρ
 split at h
 ·rename_i t x i
  split at h
  ·rename_i k elem hk hu
   split at h
   ·rename_i ti hti
    split at h
    ·rename_i b hb
     injection h with h; subst h
     obtain ⟨a,n,c,ix,d,h1,h2,h3,h4,h5,h6,h7⟩:=hW.win _ (OX hb)
     simp only at h1 h3 h6 h7
     have e1:=EN hk (hρ x (by simp [bF]))
     have e2:=Pm h3 (hρ i (by simp [bF]))
     rw [h1] at e1
     refine ⟨.pointer (some (a.add (ix.toNat*ti.size))),?_,?_⟩
     ·simp only [execOp,di,e1,e2,Instr.indexAt,asIntOf,dA,bC,run_underlying hu]
      rw [if_pos ⟨h4,h5⟩]
      simp [oh hti]
     ·rw [Cj h2]
      exact AR.vr (.inr ⟨rfl,h6,by simp only; omega,h2⟩)
    ·cases h
   ·cases h
  ·cases h
 ·rename_i x t
  split at h
  ·rename_i k elem hk hu
   obtain ⟨d,h1⟩:=hW.len _ (OP h)
   have e1:=EN hk (hρ x (by simp [bF,ae5]))
   refine ⟨.int .i64 ((m.env.sl k).2.1:Nat),by simp [execOp,resolve,invoke,builtin,Builtin.len_,run_underlying hu,e1,goInt],?_⟩
   exact aex h1
  ·cases h
 ·rename_i t x i
  split at h
  ·rename_i k elem hk hu
   split at h
   ·rename_i ti hti
    split at h
    ·rename_i j hj
     injection h with h; subst h
     obtain ⟨hj1,n,d,h1,h2,h3,h4⟩:=hW.sub _ (OV hj)
     simp only at hj1 h1 h3 h4
     have e1:=EN hk (hρ x (by simp [bF]))
     have e2:=Pm h1 (hρ i (by simp [bF]))
     refine ⟨.slice (m.env.sl j).1 (m.env.sl j).2.1 (m.env.sl j).2.2,?_,?_⟩
     ·rw [h4]
      simp only [execOp,Option.map_none,Option.map_some,di,e1,e2,Instr.sliceAt,run_underlying hu,bC,Instr.slice,afh,Instr.sliceBound,asIntOf,dA]
      simp [h2,h3,oh hti,Option.map,Addr.add]
      intro _
      cases (m.env.sl k).1<;>rfl
     ·have hh:amE 2000000 (2000000+j)=true:=Nat.ble_eq_true_of_le (Nat.le_add_right _ _)
      have:=VR.hnd (m:=m) (f:=2000000+j) (Nat.ble_eq_true_of_le (aZ (ae8 rfl:1000000≤2000000) (ae8 hh))) hh
      rwa [Nat.add_sub_cancel_left] at this
    ·cases h
   ·cases h
  ·cases h
 ·cases h
theorem OB (hS:Sat m.env X.mP) (hQ:DV P X) (hW:kv X m) (hE:Ag m H) {ρ ρ':Operand→Value} (hρ:sH m ρ ρ' o) (h:Jw P X H o ρ=some v) (w:World) :
  ∃v',(execOp ρ' o).run P w=.ok (.value v') w∧VR m v v':=by
 unfold Jw at h
 split at h
 ·rename_i v0 hv
  injection h with h; subst h
  exact XJ hE hρ hv w
 ·split at h
  ·rename_i v0 hv
   injection h with h; subst h
   exact XL hS hQ hρ hv w
  ·exact XI hW hρ h w
end
end Go.Sm
end
section
namespace Go.Sm
def uA (H loc:Hp) (a:Addr) (n:Nat):Option (List Value) :=
 match a.spot with
 | none=>match H[a.block]? with
  | some b=>bif b.live&&decide (a.off+n≤b.cells.length) then qL ((b.cells.drop a.off).take n) some else none
  | none=>none
 | some 0=>match loc[a.block]? with
  | some b=>bif b.live&&decide (a.off+n≤b.cells.length) then qL ((b.cells.drop a.off).take n) some else none
  | none=>none
 | some (_+1)=>none
def vJ (v:Value):Bool:=v.oneCell'&&kV v
def Ad (H loc:Hp) (a:Addr) (vs:List Value):Option (Hp×Hp×List Nat×List Nat) :=
 match a.spot with
 | none=>match H[a.block]? with
  | some b=>bif b.live&&decide (a.off+vs.length≤b.cells.length)&&vs.all vJ then qL (splice b.cells a.off vs) (fun cs=>zq H a.block { b with cells:=cs } fun H'=>some (H',loc,[a.block],[])) else none
  | none=>none
 | some 0=>match loc[a.block]? with
  | some b=>bif b.live&&decide (a.off+vs.length≤b.cells.length)&&vs.all (·.oneCell')&&ay b.eD 0 then qL (splice b.cells a.off vs) (fun cs=>zq loc a.block { b with cells:=cs } fun loc'=>some (H,loc',[],[a.block])) else none
  | none=>none
 | some (_+1)=>none
section
variable {P:Program} {m:Mp} {H loc:Hp} {w:World}
variable {g:Nat} {cs:Array Value} {t:TypeId}
theorem cell_of_block {w:World} {fr:Nat×Nat} (h:w.heap[g]?=some (.cells cs t fr)) (o:Nat):w.cell? ⟨g,o,none⟩=cs[o]?:=cell_of_row w g o cs t fr h
variable {a a':Addr} {n:Nat} {vs:List Value}
theorem FY (hR:Rel m H loc w) (har:AR m a a') (h:uA H loc a n=some vs) :
  ∃vs',ek m vs vs'∧vs.length=n∧∀j v,vs'[j]?=some v→w.cell? (a'.add j)=some v:=by
 obtain ⟨b',o',s'⟩:=a'
 have hs:=har.spot
 simp only at hs
 subst hs
 have hadd:∀j,(⟨b',o',none⟩:Addr).add j=⟨b',o'+j,none⟩:=fun j=>Cj rfl j
 unfold uA at h
 simp only [nC] at h
 rcases har with ⟨h1,h2,h3,_⟩ | ⟨h1,h2,h3,_⟩
 ·rw [h1] at h
  simp only at h h2 h3
  split at h
  ·rename_i b hb
   cases hc:(b.live&&decide (a.off+n≤b.cells.length)) with
   | false=>rw [hc] at h; cases h
   | true =>
    rw [hc] at h
    simp only [cond_true,ak] at h
    subst h
    simp only [aQ,decide_eq_true_eq] at hc
    obtain ⟨_,b0,hb0,hG⟩:=hR.ic _ _ h2
    rw [hb] at hb0; injection hb0 with hb0; subst hb0
    obtain ⟨cs,e1,e2,e3,_⟩:=hG.blk hc.1
    refine ⟨(((cs.toList.take b.cells.length)).drop a.off).take n,((e3.mono (Be m)).drop _).take _,by simp; omega,fun j v hv=>?_⟩
    rw [hadd,cell_of_block e1]
    simp only [dx,aeX] at hv
    split at hv
    ·split at hv
     ·rw [h3]; simpa using hv
     ·cases hv
    ·cases hv
  ·cases h
 ·rw [h1] at h
  simp only at h h2 h3
  split at h
  ·rename_i b hb
   cases hc:(b.live&&decide (a.off+n≤b.cells.length)) with
   | false=>rw [hc] at h; cases h
   | true =>
    rw [hc] at h
    simp only [cond_true,ak] at h
    subst h
    simp only [aQ,decide_eq_true_eq] at hc
    obtain ⟨_,b0,hb0,hL⟩:=hR.iN _ _ h2
    rw [hb] at hb0; injection hb0 with hb0; subst hb0
    obtain ⟨cs,_,_,e1,e2,e3,_⟩:=hL.blk hc.1
    refine ⟨((((cs.toList).drop (m.sh a.block)).take b.cells.length).drop a.off).take n,(e3.drop _).take _,by simp; omega,fun j v hv=>?_⟩
    rw [hadd,cell_of_block e1]
    simp only [dx,aeX] at hv
    split at hv
    ·split at hv
     ·rw [h3,←hv,←Array.getElem?_toList]
      congr 1
      omega
     ·cases hv
    ·cases hv
  ·cases h
variable {v v':Value}
theorem Vb (hn:kV v=true) (h:VR m v v'):VR m.jF v v':=zI (m:=m) (m':=m.jF) rfl rfl rfl rfl rfl 6 v v' hn h
variable {vs':List Value}
theorem vB (hn:vs.all kV=true) (h:ek m vs vs'):ek m.jF vs vs' :=
 ⟨h.1,fun i v v' a b=>Vb (bn.1 hn v (aN a)) (h.2 i v v' a b)⟩
theorem Mk (hn:vs.all (·.oneCell')=true) (h:ek m vs vs'):∀v∈vs',v.oneCell'=true:=by
 intro v' hv'
 obtain ⟨i,hi⟩:=cZ hv'
 have hlt:i<vs.length:=by
  have:=(ai.1 hi).1
  have:=h.1
  omega
 have:=h.2 i vs[i] v' (ah hlt) hi
 rw [aey this]
 exact bn.1 hn _ (List.getElem_mem hlt)
theorem Hy (h:vs.all vJ=true):vs.all (·.oneCell')=true∧vs.all kV=true:=by
 simp only [bn,vJ,aQ] at h ⊢
 exact ⟨fun v hv=>(h v hv).1,fun v hv=>(h v hv).2⟩
variable {H' loc':Hp} {wg wl:List Nat}
theorem Mq (hR:Rel m H loc w) (har:AR m a a') (hv:ek m vs vs') (h:Ad H loc a vs=some (H',loc',wg,wl)) :
  ∃w',(storeCells a' vs').run P w=.ok () w'∧Ext m H loc w m H' loc' w' wg wl:=by
 obtain ⟨b',o',s'⟩:=a'
 have hs:=har.spot
 simp only at hs
 subst hs
 unfold Ad at h
 simp only [nC,AB] at h
 rcases har with ⟨h1,h2,h3,_⟩ | ⟨h1,h2,h3,_⟩
 ·rw [h1] at h
  simp only at h h2 h3
  subst h3
  split at h
  ·rename_i b hb
   cases hc:(b.live&&decide (a.off+vs.length≤b.cells.length)&&vs.all vJ) with
   | false=>rw [hc] at h; cases h
   | true =>
    rw [hc] at h
    simp only [cond_true,ak,aP] at h
    obtain ⟨rfl,rfl,rfl,rfl⟩:=h
    simp only [aQ,decide_eq_true_eq] at hc
    obtain ⟨⟨hl,hle⟩,hok⟩:=hc
    obtain ⟨ho,hn⟩:=Hy hok
    obtain ⟨_,b0,hb0,hG⟩:=hR.ic _ _ h2
    rw [hb] at hb0; injection hb0 with hb0; subst hb0
    obtain ⟨cs,e1,e2,e3,_⟩:=hG.blk hl
    refine ⟨_,run_storeCells_at (P:=P) b' a.off b.elem vs' 0 cs w e1 (by have:=hv.1; omega) (Mk ho hv),?_⟩
    have:=XR hR h2 hb hl e1 a.off hle (vB hn hv)
    simpa [splice] using this
  ·cases h
 ·rw [h1] at h
  simp only at h h2 h3
  subst h3
  split at h
  ·rename_i b hb
   cases hc:(b.live&&decide (a.off+vs.length≤b.cells.length)&&vs.all (·.oneCell')&&ay b.eD 0) with
   | false=>rw [hc] at h; cases h
   | true =>
    rw [hc] at h
    simp only [cond_true,ak,aP] at h
    obtain ⟨rfl,rfl,rfl,rfl⟩:=h
    simp only [aQ,decide_eq_true_eq] at hc
    obtain ⟨⟨⟨hl,hle⟩,ho⟩,hez⟩:=hc
    replace hez:=bf hez
    obtain ⟨_,b0,hb0,hL⟩:=hR.iN _ _ h2
    rw [hb] at hb0; injection hb0 with hb0; subst hb0
    obtain ⟨cs,t,fr,e1,e2,e3,_,e5⟩:=hL.blk hl
    obtain ⟨rfl,rfl⟩:=e5 hez
    refine ⟨_,run_storeCells_at (P:=P) b' (a.off+m.sh a.block) b.elem vs' 0 cs w e1 (by have:=hv.1; omega) (Mk ho hv),?_⟩
    have:=XT hR h2 hb hl hez e1 a.off hle hv
    simpa [splice] using this
  ·cases h
def vQ (P:Program) (H loc:Hp) (t:TypeId) (x:Value):Option Value :=
 match x with
 | .pointer (some a) =>
  match CR P t with
  | some true=>match P.info? t with
   | some i=>match uA H loc a i.size with
    | some vs=>some (.agg ⟨vs⟩)
    | none=>none
   | none=>none
  | some false=>match uA H loc a 1 with
   | some [v]=>some v
   | _=>none
  | none=>none
 | _=>none
variable {x x':Value}
theorem Px (hR:Rel m H loc w) (hx:VR m x x') (h:vQ P H loc t x=some v) :
  ∃v',(Instr.loadAt t x').run P w=.ok v' w∧VR m v v':=by
 unfold vQ at h
 split at h
 ·rename_i a
  obtain ⟨a',rfl,har⟩:=vz hx
  split at h
  ·rename_i hagg
   split at h
   ·rename_i i hi
    split at h
    ·rename_i vs hvs
     injection h with h; subst h
     obtain ⟨vs',hvr,hlen,hcell⟩:=FY hR har hvs
     refine ⟨.agg vs'.toArray,?_,hvr.agg⟩
     have:=run_loadCells_list (P:=P) w a' vs' hcell
     have hl:vs'.length=i.size:=by have:=hvr.1; omega
     rw [hl] at this
     simp [Instr.loadAt,Instr.sureAddr,loadVar,Bz hagg,oh hi,this]
    ·cases h
   ·cases h
  ·rename_i hagg
   split at h
   ·rename_i v0 hvs
    injection h with h; subst h
    obtain ⟨vs',hvr,hlen,hcell⟩:=FY hR har hvs
    obtain ⟨v',l',rfl,h1,h2⟩:=hvr.cons_inv
    have hc:=hcell 0 v' rfl
    have e0:a'.add 0=a':=rfl
    rw [e0] at hc
    exact ⟨v',by simp [Instr.loadAt,Instr.sureAddr,loadVar,Bz hagg,hc],h1⟩
   ·cases h
  ·cases h
 ·cases h
def Ev (P:Program) (H loc:Hp) (t:TypeId) (x v:Value):Option (Hp×Hp×List Nat×List Nat) :=
 match x with
 | .pointer (some a)=>match P.info? t with
  | some i=>bif v.cells.size==i.size then Ad H loc a v.cells.toList else none
  | none=>none
 | _=>none
theorem adA (hR:Rel m H loc w) (hx:VR m x x') (hv:VR m v v') (h:Ev P H loc t x v=some (H',loc',wg,wl)) :
  ∃w',(Instr.storeAt t x' v').run P w=.ok () w'∧Ext m H loc w m H' loc' w' wg wl:=by
 unfold Ev at h
 split at h
 ·rename_i a
  obtain ⟨a',rfl,har⟩:=vz hx
  split at h
  ·rename_i i hi
   cases hc:(v.cells.size==i.size) with
   | false=>rw [hc] at h; cases h
   | true =>
    rw [hc] at h
    simp only [cond_true] at h
    have hcells:=BS hv
    obtain ⟨w',hrun,hext⟩:=Mq (P:=P) hR har hcells h
    refine ⟨w',?_,hext⟩
    have hsz:v'.cells.size=i.size:=by
     have h1:v.cells.size=i.size:=by simpa using hc
     have:=hcells.1
     simp at this
     omega
    simp [Instr.storeAt,Instr.sureAddr,storeVar,oh hi,hsz,hrun]
  ·cases h
 ·cases h
def uG (z:Value) (n:Nat):List Value:=(dh n).map fun i=>z.cells[i % z.cells.size]!
variable {z:Value}
theorem aew (h:nZ z=true) {m:Mp}:∀v∈z.cells.toList,VR m v v:=by
 intro v hv
 obtain ⟨i,hi⟩:=cZ hv
 exact (BS (rG m 4 z h)).2 i v v hi hi
theorem Vp (h:nZ z=true) (hz:0<z.cells.size) (n:Nat) (m:Mp):ek m (uG z n) (uG z n):=by
 refine ⟨rfl,fun i v v' a b=>?_⟩
 rw [a] at b; injection b with b; subst b
 simp only [uG,bY,aR] at a
 obtain ⟨j,_,rfl⟩:=a
 have hlt:j % z.cells.size<z.cells.size:=Nat.mod_lt _ hz
 rw [getElem!_pos z.cells _ hlt]
 exact aew h _ (by simp)
end
end Go.Sm
end
section
namespace Go.Sm
def Jp (P:Program) (op:Op) (ρ:Operand→Value):Option (eG×Option (Nat×Nat)) :=
 match op with
 | .alloc elem=>match P.info? elem with
  | some i=>match i.zero with
   | some z=>bif nZ z then some (⟨z.cells.toList,elem,0,false,true⟩,none) else none
   | none=>none
  | none=>none
 | .box elem x=>some (⟨(ρ x).cells.toList,elem,0,false,true⟩,none)
 | .buildSlice t len ps=>match P.underlying t with
  | some (.slice elem)=>match P.info? elem with
   | some i=>match i.zero with
    | some z=>bif nZ z&&decide (0<z.cells.size)&&decide (len*i.size≤16777216) then
      match Instr.fill (fun k=>some (k*i.size,i.size)) ⟨uG z (len*i.size)⟩ (ps.toList.map fun (k,x)=>(k,ρ x)) with
      | some cells=>some (⟨cells.toList,elem,0,false,true⟩,some (len,len))
      | none=>none
     else none
    | none=>none
   | none=>none
  | _=>none
 | .makeSlice t l c=>match P.underlying t,ρ l,ρ c with
  | some (.slice elem),.int _ ln,.int _ cp=>match P.info? elem with
   | some i=>match i.zero with
    | some z=>bif nZ z&&decide (0<z.cells.size)&&decide (0≤ln)&&decide (ln≤cp)&&decide (cp<9223372036854775808)&&decide ((i.bytes:Int)*cp≤281474976710656) then
      some (⟨uG z (cp.toNat*i.size),elem,0,false,true⟩,some (ln.toNat,cp.toNat))
     else none
    | none=>none
   | none=>none
  | _,_,_=>none
 | _=>none
def uu (k:Option (Nat×Nat)) (a:Addr):Value :=
 match k with
 | none=>.pointer (some a)
 | some (n,c)=>.slice (some a) n c
variable {m:Mp} {a a':Addr}
theorem Fg (h:AR m a a') (k:Option (Nat×Nat)):VR m (uu k a) (uu k a'):=by
 cases k with
 | none=>exact h.vr
 | some p=>exact SR.vr (.inl ⟨h,.inl rfl⟩)
section
variable {P:Program} {m:Mp} {H loc:Hp} {w:World}
variable {o:Oper} {b:eG}
theorem MG {ρ ρ':Operand→Value} (hρ:sH m ρ ρ' o) {k:Option (Nat×Nat)} (h:Jp P o.op ρ=some (b,k)) (w:World) :
  ∃cs:Array Value,(execOp ρ' o).run P w=.ok (.value (uu k ⟨w.heap.size,0,none⟩)) (w.alloc (.cells cs b.elem))∧ek m b.cells cs.toList∧b.live=true∧b.loose=false:=by
 obtain ⟨dst,op,type,pos,after,guard⟩:=o
 unfold sH at hρ
 unfold Jp at h
 simp only at h hρ
 split at h
 ·rename_i elem
  split at h
  ·rename_i i hi
   split at h
   ·rename_i z hz
    cases hp:nZ z with
    | false=>rw [hp] at h; cases h
    | true =>
     rw [hp] at h
     simp only [cond_true,ak,aP] at h
     obtain ⟨rfl,rfl⟩:=h
     refine ⟨z.cells,?_,BS (rG m 4 z hp),rfl,rfl⟩
     simp [execOp,Instr.alloc,zeroValue,run_typeInfo hi,hz,newVar,newRow,uu]
   ·cases h
  ·cases h
 ·rename_i elem x
  simp only [ak,aP] at h
  obtain ⟨rfl,rfl⟩:=h
  refine ⟨(ρ' x).cells,?_,BS (hρ x (by simp [bF])),rfl,rfl⟩
  simp [execOp,Instr.box,newVar,newRow,uu]
 ·rename_i t len ps
  split at h
  ·rename_i elem hu
   split at h
   ·rename_i i hi
    split at h
    ·rename_i z hz
     cases hc:(nZ z&&decide (0<z.cells.size)&&decide (len*i.size≤16777216)) with
     | false=>rw [hc] at h; cases h
     | true =>
      rw [hc] at h
      simp only [cond_true] at h
      simp only [aQ,decide_eq_true_eq] at hc
      obtain ⟨⟨hp,hz0⟩,hbig⟩:=hc
      split at h
      ·rename_i cells hf
       simp only [ak,aP] at h
       obtain ⟨rfl,rfl⟩:=h
       have hparts:Ce m (ps.toList.map fun p=>(p.1,ρ p.2)) (ps.toList.map fun p=>(p.1,ρ' p.2)):=QM fun p hp=>hρ p.2 (by simp [bF]; exact ⟨p.1,by simpa using hp⟩)
       obtain ⟨r',hr',hrr⟩:=EB _ _ _ ⟨uG z (len*i.size)⟩ _ hparts (Vp hp hz0 _ m) hf
       refine ⟨r',?_,hrr,rfl,rfl⟩
       have e:(ps.map fun (i,x)=>(i,ρ' x)).toList=(ps.toList.map fun p=>(p.1,ρ' p.2)):=by simp
       have hng:¬(len*i.size>2^24):=by omega
       by_cases h0:len*i.size=0
       ·have e3:(Array.range (len*i.size)).map ((#[]:Array Value)[· % (#[]:Array Value).size]!)=⟨uG z (len*i.size)⟩:=by simp [h0,uG]
        simp only [execOp,Instr.buildSlice,di,run_underlying hu,bC,oh hi,Sem.run_ite,hng,if_false,dA,if_pos h0,e3,e,hr',newRow,run_newObj_alloc,uu]
       ·have e3:(Array.range (len*i.size)).map (z.cells[· % z.cells.size]!)=⟨uG z (len*i.size)⟩:=by
         apply Array.ext'
         simp [uG]
        have e4:(zeroValue elem).run P w=.ok z w:=by simp [zeroValue,run_typeInfo hi,hz]
        simp only [execOp,Instr.buildSlice,di,run_underlying hu,bC,oh hi,Sem.run_ite,hng,if_false,dA,if_neg h0,e4,e3,e,hr',newRow,run_newObj_alloc,uu]
      ·cases h
    ·cases h
   ·cases h
  ·cases h
 ·rename_i t l c
  have hl:=hρ l (by simp [bF])
  have hcc:=hρ c (by simp [bF])
  split at h
  ·rename_i elem k1 ln k2 cp hu e1 e2
   rw [e1] at hl
   rw [e2] at hcc
   have hl':=wh hl
   have hc':=wh hcc
   split at h
   ·rename_i i hi
    split at h
    ·rename_i z hz
     cases hc:(nZ z&&decide (0<z.cells.size)&&decide (0≤ln)&&decide (ln≤cp)&&decide (cp<9223372036854775808)&&decide ((i.bytes:Int)*cp≤281474976710656)) with
     | false=>rw [hc] at h; cases h
     | true =>
      rw [hc] at h
      simp only [cond_true,ak,aP] at h
      obtain ⟨rfl,rfl⟩:=h
      simp only [aQ,decide_eq_true_eq] at hc
      obtain ⟨⟨⟨⟨⟨hp,hz0⟩,h0⟩,hlc⟩,h63⟩,hby⟩:=hc
      have hrun:=run_make (P:=P) w t elem i z hu hi hz k1 k2 ln cp h0 hlc hby (by omega)
      refine ⟨(madeCells z.cells (cp.toNat*i.size)),?_,?_,rfl,rfl⟩
      ·simp only [execOp,di,hl',hc',hrun,bC,dA,uu]
      ·have:(madeCells z.cells (cp.toNat*i.size)).toList=uG z (cp.toNat*i.size):=by
        simp [madeCells,uG]
       rw [this]
       exact Vp hp hz0 _ m
    ·cases h
   ·cases h
  ·cases h
 ·cases h
end
end Go.Sm
end
section
namespace Go.Sm
section
variable {P:Program} {m:Mp} {H loc:Hp} {w:World}
variable {i:Nat} {b:eG}
theorem XO (h:Rel m H loc w) (hb:H[i]?=some b) (hm:∃g,m.gb i=some g):Ext m H loc w m (H.set i { b with live:=false }) loc w [i] []:=by
 refine ⟨Le.refl m,⟨fun j g' e=>?_,h.iN,?_,h.pJ,h.lh,h.uF,h.fz,h.f0⟩,fun j g' e=>.inl ⟨j,e⟩,fun _ _ e=>.inl e,fun _ _ e=>.inl e,fun _ _ e=>.inl e,rfl,rfl,rfl,au _,
  fun _ _ _ _=>rfl,fun j hj hn=>?_,fun _ _ _=>rfl,fun j hj hn=>?_,fun _ _ _=>rfl,by simp,au _,fun j x e=>?_,fun _ _ _ _ _ _ _=>rfl,h.fz.lt⟩
 ·obtain ⟨hg',b',hb',hG'⟩:=h.ic j g' e
  by_cases hj:j=i
  ·subst hj
   rw [hb] at hb'; injection hb' with hb'; subst hb'
   exact ⟨hg',_,getElem?_set_self' hb,hG'.lo,hG'.ez,fun hl=>by cases hl⟩
  ·exact ⟨hg',b',by rw [bz (ae4 hj)]; exact hb',hG'⟩
 ·intro a c g' ba bc ea ec ha hc la lc
  have hn:∀(x:Nat) (bx:eG),(H.set i { b with live:=false })[x]?=some bx→bx.live=true→H[x]?=some bx:=by
   intro x bx hx lx
   by_cases hxi:x=i
   ·subst hxi; rw [getElem?_set_self' hb] at hx; injection hx with hx; subst hx; cases lx
   ·rwa [bz (ae4 hxi)] at hx
  exact h.ko a c g' ba bc ea ec (hn a ba ha la) (hn c bc hc lc) la lc
 ·rw [bz]
  intro e; subst e; obtain ⟨g,hg⟩:=hm; rw [hg] at hn; cases hn
 ·rw [bz]
  intro e; subst e; simp at hn
 ·by_cases hj:j=i
  ·subst hj
   rw [hb] at e; injection e with e; subst e
   exact ⟨_,getElem?_set_self' hb,rfl,rfl⟩
  ·exact ⟨x,by rw [bz (ae4 hj)]; exact e,rfl,rfl⟩
variable {g:Nat} {cs:Array Value} {vs vs':List Value}
theorem XQ (h:Rel m H loc w) (hi:m.gb i=some g) (hb:H[i]?=some b) (hlive:b.live=true) (hloose:b.loose=true) (hcs:w.heap[g]?=some (.cells cs b.elem (0,0))) (ho:b.cells.length+vs.length≤cs.size) (hv:ek m.jF vs vs') :
  Ext m H loc w (m.gN H.length g true b.eD cs.size) (H.set i { b with live:=false }++[{ b with cells:=b.cells++vs }]) loc (w.setRow g (splice cs.toList b.cells.length vs').toArray) [i] []:=by
 have hun:=h.BO (au H.length)
 have hle:Le m (m.gN H.length g true b.eD cs.size):=CY hun
 have hlt:∀j g',m.gb j=some g'→j<H.length:=fun j g' e=>by
  rcases cu j H.length with hh | hh
  ·exact hh
  ·rw [h.BO hh] at e; cases e
 have hcase:∀j g',(m.gN H.length g true b.eD cs.size).gb j=some g'→(j=H.length∧g'=g)∨(j≠H.length∧m.gb j=some g'):=fun j g' e=>by
  simp only [Mp.gN] at e
  split at e
  ·rename_i hj; injection e with e; exact .inl ⟨hj,e.symm⟩
  ·rename_i hj; exact .inr ⟨hj,e⟩
 obtain ⟨hg,b0,hb0,hG⟩:=h.ic i g hi
 rw [hb] at hb0; injection hb0 with hb0; subst hb0
 obtain ⟨cs0,e1,e2,e3,e4,e5⟩:=hG.blk hlive
 rw [hcs] at e1; injection e1 with e1; injection e1 with e1; subst e1
 have hother:∀k,k≠g→(w.setRow g (splice cs.toList b.cells.length vs').toArray).heap[k]?=w.heap[k]?:=fun k hk=>setRow_other w g k _ hk
 have hset:∀j,j<H.length→(H.set i { b with live:=false }++[{ b with cells:=b.cells++vs }])[j]?=(H.set i { b with live:=false })[j]?:=fun j hj=>aH (by simpa using hj)
 have hnew:(H.set i { b with live:=false }++[{ b with cells:=b.cells++vs }])[H.length]?=some { b with cells:=b.cells++vs }:=by
  rw [bu (by simp)]
  simp
 have hlive':∀(x:Nat) (bx:eG),x<H.length→(H.set i { b with live:=false }++[{ b with cells:=b.cells++vs }])[x]?=some bx→bx.live=true→x≠i∧H[x]?=some bx:=by
  intro x bx hx he lx
  rw [hset x hx] at he
  by_cases hxi:x=i
  ·subst hxi; rw [getElem?_set_self' hb] at he; injection he with he; subst he; cases lx
  ·exact ⟨hxi,by rwa [bz (ae4 hxi)] at he⟩
 have hsplen:(splice cs.toList b.cells.length vs').length=cs.size:=by
  have:=hv.1
  rw [uC (by simp; omega)]; simp
 refine ⟨hle,⟨fun j g' e=>?_,fun j g' e=>?_,?_,fun a c g' ba bc e e'=>h.pJ a c g' ba bc e e',?_,fun j g' b0 e e1 e2=>(h.uF j g' b0 e e1 e2).mono rfl (hother g' (fun he=>h.lh i j g hi (he▸e))) (fun j bj q1 q2=>⟨q1,rfl,bj,q2,rfl,rfl⟩),
  h.fz.go rfl (fun g' _ hn _=>hother g' (fun e=>hn i (e▸hi))) (fun j g' e=>(hcase j g' e).elim (fun q=>.inl ⟨i,by rw [q.2]; exact hi⟩) (fun q=>.inl ⟨j,q.2⟩)) (fun j g' b e hb=>.inl ⟨b,j,e,hb,rfl,rfl,rfl⟩),fun c hc=>hle.gb 0 c (h.f0 c hc)⟩,?_,fun j g' e=>.inl e,?_,fun j g' e=>.inl e,rfl,rfl,rfl,by simp,
  fun g' hg' hn _=>hother g' (fun e=>hn i (e▸hi)),fun j hj hn=>?_,fun _ _ _=>rfl,fun j hj hn=>?_,fun _ _ _=>rfl,by simp,au _,fun j x e=>?_,fun j g' x e hx hl hn=>hother g' (fun he=>by subst he; exact hn (by simp [h.ko j i _ x b e hi hx hb hl hlive])),h.fz.lt⟩
 ·rcases hcase j g' e with ⟨rfl,rfl⟩ | ⟨hj,e'⟩
  ·refine ⟨by simpa using hg,_,hnew,⟨by simp [Mp.gN,hloose],by simp [Mp.gN],fun _=>⟨_,setRow_heap w _ cs _ _ _ hcs,?_,?_,fun hl=>by simp [hloose] at hl,fun _=>?_⟩⟩⟩
   ·simp only [aeR,hsplen,afa]; exact ho
   ·simp only [afa]
    have e:(splice cs.toList b.cells.length vs').take (b.cells.length+vs.length)=cs.toList.take b.cells.length++vs':=by
     unfold splice
     rw [afd,←afd,List.take_append_of_le_length]
     ·rw [dH]
      have:=hv.1
      simp; omega
     ·have:=hv.1
      simp; omega
    rw [e]
    exact (e3.append hv).mono hle.jF
   ·simp [Mp.gN,hsplen]
  ·obtain ⟨hg',b',hb',hG'⟩:=h.ic j g' e'
   have hjl:=hlt j g' e'
   by_cases hji:j=i
   ·subst hji
    rw [hb] at hb'; injection hb' with hb'; subst hb'
    refine ⟨by simpa using hg',{ b with live:=false },by rw [hset j hjl]; exact getElem?_set_self' hb,?_,?_,fun hl=>by cases hl⟩
    ·exact (hle.loose j g' e').trans hG'.lo
    ·exact (hle.eD j g' e').trans hG'.ez
   ·refine ⟨by simpa using hg',b',by rw [hset j hjl,bz (ae4 hji)]; exact hb',hG'.mono hle e' (fun hl=>hother g' (fun he=>?_))⟩
    subst he
    exact hji (h.ko j i _ b' b e' hi hb' hb hl hlive)
 ·obtain ⟨hg',b',hb',hL⟩:=h.iN j g' e
  exact ⟨by simpa using hg',b',hb',hL.mono hle e (hother g' (fun he=>h.lh i j g hi (he▸e)))⟩
 ·intro a c g' ba bc ea ec ha hc la lc
  rcases hcase a g' ea with ⟨rfl,rfl⟩ | ⟨na,ea'⟩<;>rcases hcase c _ ec with ⟨rfl,hh⟩ | ⟨nc,ec'⟩
  ·rfl
  ·obtain ⟨hne,hc'⟩:=hlive' c bc (hlt c _ ec') hc lc
   exact absurd (h.ko c i _ bc b ec' hi hc' hb lc hlive) hne
  ·subst hh
   obtain ⟨hne,ha'⟩:=hlive' a ba (hlt a _ ea') ha la
   exact absurd (h.ko a i _ ba b ea' hi ha' hb la hlive) hne
  ·exact h.ko a c g' ba bc ea' ec' (hlive' a ba (hlt a _ ea') ha la).2 (hlive' c bc (hlt c _ ec') hc lc).2 la lc
 ·intro a c g' e e'
  rcases hcase a g' e with ⟨rfl,rfl⟩ | ⟨_,ei⟩
  ·exact h.lh i c _ hi e'
  ·exact h.lh a c g' ei e'
 ·intro a g' e
  rcases hcase a g' e with ⟨_,rfl⟩ | ⟨_,ei⟩
  ·exact .inl ⟨i,hi⟩
  ·exact .inl ⟨a,ei⟩
 ·intro a g' e
  rcases hcase a g' e with ⟨rfl,_⟩ | ⟨_,ei⟩
  ·exact .inr ⟨au _,by simp⟩
  ·exact .inl ei
 ·rw [hset j hj,bz]
  intro e; subst e; rw [hi] at hn; cases hn
 ·rw [hset j hj,bz]
  intro e; subst e; simp at hn
 ·have hjl:j<H.length:=(ai.1 e).1
  by_cases hj:j=i
  ·subst hj
   rw [hb] at e; injection e with e; subst e
   exact ⟨{ b with live:=false },by rw [hset j hjl]; exact getElem?_set_self' hb,rfl,rfl⟩
  ·exact ⟨x,by rw [hset j hjl,bz (ae4 hj)]; exact e,rfl,rfl⟩
theorem Pf (n:Nat):∀(r c:Nat),c<n→Builtin.growBy n r c≤n+(n+768)/4
 | 0,c,h=>by simp only [Builtin.growBy]; omega
 | r+1,c,h=>by
  simp only [Builtin.growBy]
  rw [if_neg (by omega)]
  by_cases h2:c+(c+768)/4<n
  ·exact Pf n r _ h2
  ·cases r with
   | zero=>simp only [Builtin.growBy]; omega
   | succ r=>simp only [Builtin.growBy]; rw [if_pos (by omega)]; omega
variable {n c:Nat}
theorem P5 (h:c<n):Builtin.nextslicecap n c≤2*n+200:=by
 unfold Builtin.nextslicecap
 split
 ·omega
 ·split
  ·omega
  ·have:=Pf n 4 c h; omega
def BD:Value→Option Nat
 | .slice _ n _=>some n
 | .string s=>some s.size
 | _=>none
def Dz (H loc:Hp) (size n:Nat):Value→Option (List Value)
 | .slice (some a) _ _=>bif n*size==0 then some [] else uA H loc a (n*size)
 | .slice none _ _=>some []
 | .string s=>some ((s.extract 0 n).data.toList.map fun b=>.int .u8 b.toNat)
 | _=>none
variable {x x':Value}
theorem UA (hx:VR m x x') (h:BD x=some n) (w:World):(Builtin.lenOf x').run P w=.ok n w:=by
 unfold BD at h
 split at h
 ·rename_i a n' c
  injection h with h; subst h
  cases a with
  | none=>cases hx; simp [Builtin.lenOf]
  | some a=>obtain ⟨a',c',rfl,_⟩:=y8 hx; simp [Builtin.lenOf]
 ·injection h with h; subst h
  cases hx; simp [Builtin.lenOf]
 ·cases h
variable {size:Nat}
theorem LP (hR:Rel m H loc w) (hx:VR m x x') (h:Dz H loc size n x=some vs) (hn:∀a l c,x=.slice a l c→n≤l) :
  ∃vs':List Value,(dE size n x').run P w=.ok vs'.toArray w∧ek m vs vs':=by
 unfold Dz at h
 split at h
 ·rename_i a l c
  obtain ⟨a',c',rfl,hsr⟩:=y8 hx
  cases hz:(n*size==0) with
  | true =>
   rw [hz] at h
   simp only [cond_true,ak] at h
   subst h
   have h0:n*size=0:=by simpa using hz
   exact ⟨[],by simp [dE,loadCells,h0,loadCellsFrom],ek.nil m⟩
  | false =>
   rw [hz] at h
   simp only [cond_false] at h
   have h0:n*size≠0:=by simpa using hz
   rcases hsr with ⟨har,_⟩ | ⟨rfl,_⟩
   ·obtain ⟨vs',hvr,hlen,hcell⟩:=FY hR har h
    have:=run_loadCells_list (P:=P) w a' vs' hcell
    have hl:vs'.length=n*size:=by have:=hvr.1; omega
    rw [hl] at this
    exact ⟨vs',by simp [dE,this],hvr⟩
   ·have:=hn _ _ _ rfl
    have:n=0:=by omega
    subst this
    simp at h0
 ·injection h with h; subst h
  cases hx
  exact ⟨[],by simp [dE],ek.nil m⟩
 ·rename_i s
  injection h with h; subst h
  cases hx
  refine ⟨(s.extract 0 n).data.toList.map fun b=>.int .u8 b.toNat,by simp only [dE,dA]; congr 1; apply Array.ext'; simp,?_⟩
  refine ⟨rfl,fun i v v' a b=>?_⟩
  rw [a] at b; injection b with b; subst b
  simp only [bY,aR] at a
  obtain ⟨_,_,rfl⟩:=a
  exact .int _ _
 ·cases h
structure Out where
 v:Value
 H:Hp
 loc:Hp
 wg:List Nat
 wl:List Nat
def grown (H loc:Hp) (elem:TypeId) (eD need:Nat) (cells:List Value) (wg:List Nat):Option Out :=
 bif cells.all vJ then qL cells (fun cells=>qL (H++[⟨cells,elem,eD,true,true⟩]) fun H'=>some ⟨.slice (some ⟨H.length,0,none⟩) need need,H',loc,wg,[]⟩) else none
def CE (P:Program) (H loc:Hp) (tS tX:TypeId) (s x:Value):Option Out :=
 match P.underlying tS,P.underlying tX,s with
 | some (.slice elem),some dX,.slice base sLen sCap =>
  bif !(match dX with | .slice _=>true | .string=>true | _=>false) then none else
  match P.info? elem with
  | none=>none
  | some ti =>
   match ti.zero,BD x with
   | some z,some n =>
    bif !(z.cells.size==ti.size) then none else
    match Dz H loc ti.size n x with
    | none=>none
    | some new =>
     bif decide (sLen+n≤sCap) then
      match base with
      | none=>bif decide (sLen+n=0) then some ⟨.slice none (sLen+n) sCap,H,loc,[],[]⟩ else none
      | some a =>
       bif sLen+n==0 then some ⟨.slice (some a) (sLen+n) sCap,H,loc,[],[]⟩ else
       match Ad H loc (uL a (sLen*ti.size)) new with
       | some (H',loc',wg,wl)=>some ⟨.slice (some a) (sLen+n) sCap,H',loc',wg,wl⟩
       | none=>none
     else
      bif decide (0<ti.bytes)&&decide ((2*(sLen+n)+200)*ti.bytes≤281474976710656)&&decide (new.length=n*ti.size)&&decide (sLen+n<9223372036854775808) then
       match base with
       | none=>bif decide (sLen=0) then grown H loc elem ti.size (sLen+n) new [] else none
       | some a =>
        match a.spot with
        | some 0=>match uA H loc a (sLen*ti.size) with
         | some old=>grown H loc elem ti.size (sLen+n) (old++new) []
         | none=>none
        | some (_+1)=>none
        | none =>
         match H[a.block]?,uA H loc a (sLen*ti.size) with
         | some b,some old =>
          bif !b.loose then grown H loc elem ti.size (sLen+n) (old++new) []
          else bif decide (a.off=0)&&decide (b.cells.length=sLen*ti.size)&&decide (0<sLen)&&decide (b.eD=ti.size)&&decide (b.elem=elem)&&new.all vJ then
           qL (b.cells++new) (fun cells=>qL (H.set a.block { b with live:=false }++[{ b with cells:=cells }]) fun H'=>some ⟨.slice (some ⟨H.length,0,none⟩) (sLen+n) (sLen+n),H',loc,[a.block],[]⟩)
          else none
         | _,_=>none
      else none
   | _,_=>none
 | _,_,_=>none
variable {tS tX ty elem:TypeId} {a:Addr} {sLen:Nat} {new:Array Value} {w':World}
theorem Ec {ti:TypeInfo} (hS:P.underlying tS=some (.slice elem)) (hX:(∃e,P.underlying tX=some (.slice e))∨P.underlying tX=some .string)
  (hi:P.info? elem=some ti) {w:World} (hl:(Builtin.lenOf x).run P w=.ok n w) (hf:(dE ti.size n x).run P w=.ok new w)
  (hc:sLen+n≤c) (hst:(storeCells (a.add (sLen*ti.size)) new.toList).run P w=.ok () w') :
  (afi #[tS,tX] ty #[.slice (some a) sLen c,x]).run P w=.ok (.slice (some a) (sLen+n) c) w':=by
 rcases hX with ⟨e,hk⟩ | hk<;>simp [afi,run_underlying hS,run_underlying hk,sizeOf,typeInfo,hi,hl,hf,hc,hst]
theorem VN {ti:TypeInfo} (hS:P.underlying tS=some (.slice elem)) (hX:(∃e,P.underlying tX=some (.slice e))∨P.underlying tX=some .string)
  (hi:P.info? elem=some ti) {w:World} (hl:(Builtin.lenOf x).run P w=.ok n w) (hf:(dE ti.size n x).run P w=.ok new w)
  (hc:sLen+n≤c) :
  (afi #[tS,tX] ty #[.slice none sLen c,x]).run P w=.ok (.slice none (sLen+n) c) w:=by
 rcases hX with ⟨e,hk⟩ | hk<;>simp [afi,run_underlying hS,run_underlying hk,sizeOf,typeInfo,hi,hl,hf,hc]
variable {z:Value}
theorem D9 {ti:TypeInfo} (hS:P.underlying tS=some (.slice elem)) (hX:(∃e,P.underlying tX=some (.slice e))∨P.underlying tX=some .string)
  (hi:P.info? elem=some ti) (hz:ti.zero=some z) {base:Option Addr} {old:Array Value} {w:World} (hl:(Builtin.lenOf x).run P w=.ok n w)
  (hf:(dE ti.size n x).run P w.drew=.ok new w.drew) (ho:(dE ti.size sLen (.slice base sLen c)).run P w.drew=.ok old w.drew)
  (hc:c<sLen+n) (h63:sLen+n<9223372036854775808) (hfit:Builtin.nextslicecap (sLen+n) c*ti.bytes≤281474976710656) :
  ∃cap,sLen+n≤cap∧(afi #[tS,tX] ty #[.slice base sLen c,x]).run P w=.ok (.slice (some ⟨w.heap.size,0,none⟩) (sLen+n) cap) (w.drew.alloc (.cells (old++new++Builtin.zeroCells z.cells (cap - (sLen+n))) elem)):=by
 have hn:¬(sLen+n≤c):=by omega
 have h63':¬(9223372036854775807<((sLen:Int)+(n:Int))):=by omega
 have h48':¬(281474976710656<Builtin.nextslicecap (sLen+n) c*ti.bytes):=by omega
 refine ⟨grownCap w (sLen+n) c elem,by unfold grownCap Question.cut; simp,?_⟩
 rcases hX with ⟨e,hk⟩ | hk <;>
  simp [afi,run_underlying hS,run_underlying hk,sizeOf,typeInfo,zeroValue,hi,hz,hl,hn,h63',h48',Question.forced,hf,ho,newRow,grownCap]
theorem Rel.heap (h:Rel m H loc w) (e:w'.heap=w.heap):Rel m H loc w':=by
 refine ⟨fun i g hi=>?_,fun i g hi=>?_,h.ko,h.pJ,h.lh,fun i g b e1 e2 e3=>(h.uF i g b e1 e2 e3).mono rfl (by rw [e]) (fun j bj q1 q2=>⟨q1,rfl,bj,q2,rfl,rfl⟩),fun g c hc=>by rw [e]; exact h.fz g c hc,h.f0⟩
 ·obtain ⟨h1,b,h2,h3⟩:=h.ic i g hi
  exact ⟨by rw [e]; exact h1,b,h2,h3.lo,h3.ez,fun hl=>by rw [e]; exact h3.blk hl⟩
 ·obtain ⟨h1,b,h2,h3⟩:=h.iN i g hi
  exact ⟨by rw [e]; exact h1,b,h2,fun hl=>by rw [e]; exact h3.blk hl,fun hl=>by rw [e]; exact h3.it hl⟩
theorem Rel.drew (h:Rel m H loc w):Rel m H loc w.drew:=h.heap rfl
variable {w0:World} {m':Mp} {H' loc':Hp} {wg wl:List Nat}
theorem Ext.start (h:Ext m H loc w0 m' H' loc' w' wg wl) (e:w0.heap=w.heap) (e1:w0.os=w.os) (e2:w0.tape=w.tape) (e3:w0.output=w.output) :
  Ext m H loc w m' H' loc' w' wg wl :=
 ⟨h.le,h.rel,by rw [←e]; exact h.img,by rw [←e]; exact h.oG,h.dom,h.lN,h.os.trans e1,h.tape.trans e2,h.output.trans e3,by rw [←e]; exact h.size,by rw [←e]; exact h.frame,h.un,h.vw,h.mod,h.nT,h.len,h.lH,h.kp,by rw [←e]; exact h.cmod,by rw [←e]; exact h.sZ⟩
variable {cap:Nat}
theorem Ph (hR:Rel m H loc w0) {eD need:Nat} {cells cells':List Value} {rest:Array Value} {out:Out} (h:grown H loc elem eD need cells wg=some out)
  (hv:ek m cells cells') (hcap:need≤cap) (hlen:cells.length=need*eD) (hrest:rest.size=(cap - need)*eD) :
  ∃m',Ext m H loc w0 m' out.H out.loc (w0.drew.alloc (.cells (cells'.toArray++rest) elem)) [] out.wl∧VR m' out.v (.slice (some ⟨w0.heap.size,0,none⟩) need cap)∧out.wg=wg:=by
 unfold grown at h
 simp only [nC] at h
 cases hc:cells.all vJ with
 | false=>rw [hc] at h; cases h
 | true =>
  rw [hc] at h
  simp only [cond_true,ak] at h
  subst h
  obtain ⟨_,hn⟩:=Hy hc
  have hvn:=vB hn hv
  have hl':cells'.length=cells.length:=hv.1.symm
  have hext:=JG (w:=w0.drew) hR.drew ⟨cells,elem,eD,true,true⟩ (cells'.toArray++rest) (by simp; omega) (by
   simp only [Array.toList_append]
   rw [←hl',List.take_append_of_le_length (au _),List.take_length]
   exact hvn) (fun e=>by cases e)
  refine ⟨_,hext.start (w:=w0) rfl rfl rfl rfl,?_,rfl⟩
  refine SR.vr (.inl ⟨.inl ⟨rfl,by simp [Mp.gN],rfl,rfl⟩,.inr ⟨rfl,by simp [Mp.gN],hcap,?_⟩⟩)
  simp only [Mp.gN,if_true,Array.size_append,aeR,hl',hlen,hrest,Nat.zero_add]
  rw [←Nat.add_mul]
  exact Nat.mul_le_mul_right _ (by omega)
variable {s':Value}
theorem VO (hR:Rel m H loc w) {s:Value} (hs:VR m s s') (hx:VR m x x') {out:Out} (h:CE P H loc tS tX s x=some out) :
  ∃v' w' m',(afi #[tS,tX] ty #[s',x']).run P w=.ok v' w'∧Ext m H loc w m' out.H out.loc w' out.wg out.wl∧VR m' out.v v':=by
 unfold CE at h
 simp only [nC] at h
 split at h
 ·rename_i elem dX base sLen sCap hS hX
  cases hd:(match dX with | .slice _=>true | .string=>true | _=>false) with
  | false=>simp [hd] at h
  | true =>
   have hX':(∃e,P.underlying tX=some (.slice e))∨P.underlying tX=some .string:=by
    split at hd
    ·exact .inl ⟨_,hX⟩
    ·exact .inr hX
    ·cases hd
   simp only [hd,Bool.not_true,cond_false] at h
   split at h
   ·cases h
   ·rename_i ti hti
    split at h
    ·rename_i z n hz hn
     cases hzs:(z.cells.size==ti.size) with
     | false=>simp [hzs] at h
     | true =>
      have hzs':z.cells.size=ti.size:=by simpa using hzs
      simp only [hzs,Bool.not_true,cond_false] at h
      split at h
      ·cases h
      ·rename_i new hnew
       have hlen:=UA (P:=P) hx hn w
       have hnl:∀a l c,x=.slice a l c→n≤l:=by
        intro a l c e; subst e; simp [BD] at hn; omega
       obtain ⟨new',hf,hvn⟩:=LP (P:=P) hR hx hnew hnl
       obtain ⟨new'',hf2,hvn2⟩:=LP (P:=P) hR.drew hx hnew hnl
       cases hroom:decide (sLen+n≤sCap) with
       | true =>
        simp only [hroom,cond_true] at h
        have hroom':sLen+n≤sCap:=by simpa using hroom
        cases base with
        | none =>
         simp only at h
         cases h0:decide (sLen+n=0) with
         | false=>rw [h0] at h; cases h
         | true =>
          simp only [h0,cond_true,ak] at h
          subst h
          cases hs
          exact ⟨_,_,m,VN hS hX' hti hlen hf hroom',Ext.refl hR,.qD _ _⟩
        | some a =>
         simp only at h
         obtain ⟨a',c',rfl,hsr⟩:=y8 hs
         have hcap:sCap≤c':=by
          rcases hsr with ⟨_,rfl | ⟨_,_,h3,_⟩⟩ | ⟨_,h2,_⟩
          ·exact au _
          ·exact h3
          ·omega
         cases h0:(sLen+n==0) with
         | true =>
          simp only [h0,cond_true,ak] at h
          subst h
          have e0:sLen+n=0:=by simpa using h0
          have e1:n=0:=by omega
          have e2:sLen=0:=by omega
          subst e1; subst e2
          have hemp:new=[]:=by
           unfold Dz at hnew
           split at hnew
           ·simpa using hnew
           ·injection hnew with hnew; exact hnew.symm
           ·rename_i s0
            injection hnew with hnew
            subst hnew
            simp
           ·cases hnew
          subst hemp
          have hemp':new'=[]:=bR hvn.1.symm
          subst hemp'
          refine ⟨_,_,m,Ec hS hX' hti hlen hf (by omega) (w':=w) (by simp [storeCells]),Ext.refl hR,?_⟩
          exact hsr.vr
         | false =>
          simp only [h0,cond_false] at h
          have e0:sLen+n≠0:=by simpa using h0
          rcases hsr with ⟨har,hcc⟩ | ⟨_,h2,_⟩
          ·split at h
           ·rename_i H' loc' wg wl hw
            injection h with h; subst h
            obtain ⟨w',hrun,hext⟩:=Mq (P:=P) hR (har.add (sLen*ti.size)) hvn hw
            refine ⟨_,w',m,Ec hS hX' hti hlen hf (by omega) (by simpa using hrun),hext,?_⟩
            exact SR.vr (.inl ⟨har,hcc⟩)
           ·cases h
          ·omega
       | false =>
        simp only [hroom,cond_false] at h
        have hroom':¬sLen+n≤sCap:=by simpa using hroom
        cases hch:(decide (0<ti.bytes)&&decide ((2*(sLen+n)+200)*ti.bytes≤281474976710656)&&decide (new.length=n*ti.size)&&decide (sLen+n<9223372036854775808)) with
        | false=>simp [hch] at h
        | true =>
         simp only [hch,cond_true] at h
         simp only [aQ,decide_eq_true_eq] at hch
         obtain ⟨⟨⟨hby,hbig⟩,hnl2⟩,h63⟩:=hch
         have hfit:∀c,c<sLen+n→Builtin.nextslicecap (sLen+n) c*ti.bytes≤281474976710656:=fun c hc=>aZ (Nat.mul_le_mul_right _ (P5 hc)) hbig
         cases base with
         | none =>
          simp only at h
          cases h0:decide (sLen=0) with
          | false=>simp [h0] at h
          | true =>
           simp only [h0,cond_true] at h
           have e0:sLen=0:=by simpa using h0
           subst e0
           cases hs
           obtain ⟨cap,hcap,hrun⟩:=D9 (ty:=ty) (base:=none) (c:=sCap) (old:=#[]) hS hX' hti hz hlen hf2 (by simp [dE]) (by omega) h63 (hfit sCap (by omega))
           obtain ⟨m',hext,hvr,hwg⟩:=Ph (rest:=Builtin.zeroCells z.cells (cap - (0+n))) hR h hvn2 hcap (by simpa using hnl2) (by rw [size_zeroCells,hzs'])
           exact ⟨_,_,m',by rw [hrun],by rw [hwg]; simpa using hext,hvr⟩
         | some a =>
          simp only at h
          obtain ⟨a',c',rfl,hsr⟩:=y8 hs
          have hold:∀{old:List Value},AR m a a'→uA H loc a (sLen*ti.size)=some old →
            ∃old':List Value,(dE ti.size sLen (.slice (some a') sLen c')).run P w.drew=.ok old'.toArray w.drew∧ek m old old'∧old.length=sLen*ti.size:=by
           intro old har ho
           obtain ⟨vs',hvr,hl2,hcell⟩:=FY hR.drew har ho
           have hrun:=run_loadCells_list (P:=P) w.drew a' vs' hcell
           have hl3:vs'.length=sLen*ti.size:=by have:=hvr.1; omega
           rw [hl3] at hrun
           exact ⟨vs',by simp [dE,hrun],hvr,hl2⟩
          have hexact:AR m a a'→c'=sCap→∀{old:List Value},uA H loc a (sLen*ti.size)=some old→grown H loc elem ti.size (sLen+n) (old++new) []=some out →
            ∃v' w' m',(afi #[tS,tX] ty #[.slice (some a') sLen c',x']).run P w=.ok v' w'∧Ext m H loc w m' out.H out.loc w' out.wg out.wl∧VR m' out.v v':=by
           intro har hcc old ho hg
           subst hcc
           obtain ⟨old',hfo,hvo,hlo⟩:=hold har ho
           obtain ⟨cap,hcap,hrun⟩:=D9 (ty:=ty) hS hX' hti hz hlen hf2 hfo (by omega) h63 (hfit c' (by omega))
           obtain ⟨m',hext,hvr,hwg⟩:=Ph (rest:=Builtin.zeroCells z.cells (cap - (sLen+n))) hR hg (hvo.append hvn2) hcap (by simp [hlo,hnl2,Nat.add_mul]) (by rw [size_zeroCells,hzs'])
           refine ⟨_,_,m',hrun,?_,hvr⟩
           rw [hwg]
           simpa using hext
          split at h
          ·rename_i hsp
           split at h
           ·rename_i old ho
            rcases hsr with ⟨har,rfl | ⟨hn2,_⟩⟩ | ⟨_,_,hn2,_⟩
            ·exact hexact har rfl ho h
            ·rw [hsp] at hn2; cases hn2
            ·rw [hsp] at hn2; cases hn2
           ·cases h
          ·cases h
          ·rename_i hsp
           split at h
           ·rename_i b old hb ho
            cases hlo:b.loose with
            | false =>
             simp only [hlo,Bool.not_false,cond_true] at h
             have hnl3:∀g,m.gb a.block=some g→m.loose a.block=true→False:=fun g hg hl=>by
              obtain ⟨_,b0,hb0,hG⟩:=hR.ic _ _ hg
              rw [hb] at hb0; injection hb0 with hb0; subst hb0
              rw [hG.lo,hlo] at hl; cases hl
             rcases hsr with ⟨har,rfl | ⟨_,hl,_⟩⟩ | ⟨_,_,_,hl,g,hg⟩
             ·exact hexact har rfl ho h
             ·rcases har with ⟨_,hg,_⟩ | ⟨hn2,_⟩
              ·exact (hnl3 _ hg hl).elim
              ·rw [hsp] at hn2; cases hn2
             ·exact (hnl3 _ hg hl).elim
            | true =>
             rw [show (!b.loose)=false by rw [hlo]; rfl] at h
             simp only [cond_false] at h
             cases hch2:(decide (a.off=0)&&decide (b.cells.length=sLen*ti.size)&&decide (0<sLen)&&decide (b.eD=ti.size)&&decide (b.elem=elem)&&new.all vJ) with
             | false=>simp [hch2] at h
             | true =>
              simp only [hch2,cond_true,ak] at h
              subst h
              simp only [aQ,decide_eq_true_eq] at hch2
              obtain ⟨⟨⟨⟨⟨hoff,hbl⟩,hs0⟩,hez⟩,hel⟩,hok⟩:=hch2
              obtain ⟨hone,hnoloc⟩:=Hy hok
              rcases hsr with ⟨har,hcc⟩ | ⟨h0,_⟩
              ·have har0:=har
               rcases har with ⟨_,hg,hao,hasp⟩ | ⟨hn2,_⟩
               ·obtain ⟨_,b0,hb0,hG⟩:=hR.ic _ _ hg
                rw [hb] at hb0; injection hb0 with hb0; subst hb0
                have hlive:b.live=true:=by
                 unfold uA at ho
                 simp only [nC] at ho
                 rw [hsp,hb] at ho
                 simp only at ho
                 cases hll:b.live with
                 | true=>rfl
                 | false=>simp [hll] at ho
                obtain ⟨cs,e1,e2,e3,_,e5⟩:=hG.blk hlive
                by_cases hin:sLen+n≤c'
                ·rcases hcc with rfl | ⟨_,_,hc1,hc2⟩
                 ·omega
                 ·have hct:c'*ti.size≤cs.size:=by
                   rw [hG.ez,hez,e5 hlo] at hc2
                   omega
                  have hsum:sLen*ti.size+n*ti.size≤cs.size:=by
                   rw [←Nat.add_mul]
                   exact aZ (Nat.mul_le_mul_right _ hin) hct
                  have hvl:=hvn.1
                  obtain ⟨ab,ao,asp⟩:=a'
                  simp only at hg hao hasp
                  subst hasp
                  have hao':ao=0:=by omega
                  subst hao'
                  have hst:=run_storeCells_at (P:=P) ab (0+sLen*ti.size) b.elem new' 0 cs w e1 (by omega) (Mk hone hvn)
                  have hadd:(⟨ab,0,none⟩:Addr).add (sLen*ti.size)=⟨ab,0+sLen*ti.size,none⟩:=Cj rfl _
                  have hext:=XQ (vs:=new) (vs':=new') hR hg hb hlive hlo e1 (by omega) (vB hnoloc hvn)
                  refine ⟨_,_,m.gN H.length ab true b.eD cs.size,Ec (new:=new'.toArray) hS hX' hti hlen hf hin (by rw [hadd]; exact hst),?_,?_⟩
                  ·have:splice cs.toList b.cells.length new'=List.take (0+sLen*ti.size+0) cs.toList++new'++List.drop (0+sLen*ti.size+0+new'.length) cs.toList:=by
                    unfold splice; simp [hbl]
                   rw [this] at hext
                   exact hext
                  ·refine SR.vr (.inl ⟨.inl ⟨rfl,by simp [Mp.gN],rfl,rfl⟩,.inr ⟨rfl,by simp [Mp.gN],hin,?_⟩⟩)
                   simp only [Mp.gN,if_true,hez]
                   omega
                ·have hoff':a'.off=0:=by omega
                 obtain ⟨ab,ao,asp⟩:=a'
                 simp only at hg hao hasp hoff' e1
                 subst hasp; subst hoff'
                 have hvold:ek m.jF b.cells (cs.toList.take b.cells.length):=e3
                 have hcell:∀j v,(cs.toList.take b.cells.length)[j]?=some v→w.drew.cell? ((⟨ab,0,none⟩:Addr).add j)=some v:=fun j v hv=>by
                  rw [Cj rfl j]
                  simp only [Nat.zero_add]
                  rw [cell_of_block (w:=w.drew) e1 j]
                  simp only [dx] at hv
                  split at hv
                  ·simpa using hv
                  ·cases hv
                 have hfo:=run_loadCells_list (P:=P) w.drew ⟨ab,0,none⟩ _ hcell
                 rw [show (cs.toList.take b.cells.length).length=sLen*ti.size by have:=hvold.1; omega] at hfo
                 generalize cs.toList.take b.cells.length=old' at *
                 obtain ⟨cap,hcap,hrun⟩:=D9 (ty:=ty) (base:=some ⟨ab,0,none⟩) (sLen:=sLen) (c:=c') (old:=old'.toArray) hS hX' hti hz hlen hf2 (by simp [dE,hfo]) (by omega) h63 (hfit c' (by omega))
                 have hk:=XO (w:=w) hR hb ⟨_,hg⟩
                 have hn1:=JG (w:=w.drew) (hk.rel.heap (w':=w.drew) rfl) { b with cells:=b.cells++new } (old'.toArray++new''.toArray++Builtin.zeroCells z.cells (cap - (sLen+n))) (by
                   have:=hvold.1; have:=hvn2.1
                   simp; omega) (by
                   have h1:=hvold.1; have h2:=hvn2.1
                   simp only [Array.toList_append,afa]
                   rw [List.take_append_of_le_length (by simp; omega),dH (by simp; omega)]
                   exact hvold.append (vB hnoloc hvn2)) (fun e=>by simp [hlo] at e)
                 have hfin:=hk.trans (hn1.start (w:=w) rfl rfl rfl rfl)
                 refine ⟨_,_,m.gN (H.set a.block { b with live:=false }).length w.drew.heap.size b.loose b.eD (old'.toArray++new''.toArray++Builtin.zeroCells z.cells (cap - (sLen+n))).size,hrun,?_,?_⟩
                 ·simpa [hel] using hfin
                 ·refine SR.vr (.inl ⟨.inl ⟨rfl,by simp [Mp.gN],rfl,rfl⟩,.inr ⟨rfl,by simp [Mp.gN,hlo],hcap,?_⟩⟩)
                  have h1:=hvold.1; have h2:=hvn2.1
                  simp only [Mp.gN,List.length_set,if_true,Array.size_append,aeR,size_zeroCells,hzs',hez,Nat.zero_add]
                  have:cap*ti.size=sLen*ti.size+n*ti.size+(cap - (sLen+n))*ti.size:=by
                   rw [←Nat.add_mul,←Nat.add_mul]; congr 1; omega
                  omega
               ·rw [hsp] at hn2; cases hn2
              ·omega
           ·cases h
    ·cases h
 ·cases h
end
end Go.Sm
end
section
namespace Go.Sm
def CF (P:Program) (H loc:Hp) (tD:TypeId) (d x:Value):Option Out :=
 match P.underlying tD,d,BD x with
 | some (.slice elem),.slice base dLen _,some sl =>
  match P.info? elem with
  | none=>none
  | some ti =>
   match Dz H loc ti.size (Nat.min sl dLen) x with
   | none=>none
   | some cells =>
    match base with
    | none=>some ⟨.int .i64 (Nat.min sl dLen:Nat),H,loc,[],[]⟩
    | some a =>
     bif cells.length==0 then some ⟨.int .i64 (Nat.min sl dLen:Nat),H,loc,[],[]⟩ else
     bif decide (0<dLen) then
      match Ad H loc a cells with
      | some (H',loc',wg,wl)=>some ⟨.int .i64 (Nat.min sl dLen:Nat),H',loc',wg,wl⟩
      | none=>none
     else none
 | _,_,_=>none
abbrev ig:=FuncId→List Value→Hp→Option (Value×Hp×List Nat)
inductive Kind where
 | J4 | alloc | load | wK
def kindOf:Op→Kind
 | .range _ _=>.wK
 | .next _ _=>.wK
 | .alloc _ | .box _ _ | .buildSlice _ _ _ | .makeSlice _ _ _=>.alloc
 | .load _ _=>.load
 | .store _ _ _=>.wK
 | .call { callee:=.builtin .append,.. }=>.wK
 | .call { callee:=.builtin .copy,.. }=>.wK
 | .call { callee:=.value _,.. }=>.wK
 | _=>.J4
def CP (P:Program) (f:FuncId):Bool :=
 match P.funcs[f]? with
 | some fn=>fn.body.isSome
 | none=>false
def Jr (P:Program) (X:Xt) (O:ig) (H loc:Hp) (fv:Value) (args:List Value):Option Out :=
 match fv with
 | .func (.func f) first captured=>bif jq f then none else
  bif CP P f&&(first.toList++args++captured.toList).all kV then
   match O f (first.toList++args++captured.toList) H with
   | some (v,H',md)=>some ⟨v,H',loc,md,[]⟩
   | none=>none
  else
   match X.ext f with
   | some e=>bif !CP P f&&(first.toList++args++captured.toList).all nZ then
     match lZ P (e (first.toList++args++captured.toList).toArray) with
     | some v=>bif nZ v then some ⟨v,H,loc,[],[]⟩ else none
     | none=>none
    else none
   | none=>none
 | _=>none
def JB (P:Program) (H loc:Hp) (t:TypeId) (x:Value):Option Out :=
 match P.underlying t,x with
 | some .string,.string s=>qL (loc++[⟨[.string s,.int .i64 (0:Nat)],0,0,false,false⟩]) fun loc'=>some ⟨.pointer (some ⟨loc.length,0,some 0⟩),H,loc',[],[]⟩
 | _,_=>none
def Jy (H loc:Hp) (x:Value):Option Out :=
 match x with
 | .pointer (some ⟨i,0,some 0⟩) =>
  match loc[i]? with
  | some b=>bif b.live then none else
   match b.cells with
   | [.string s,.int .i64 (.ofNat pos)] =>
    bif decide (pos<s.size) then
     uh (pos+(Utf8.decode s pos).2) fun np=>zq loc i { b with cells:=[.string s,.int .i64 (np:Int)] } fun loc'=>some ⟨.tuple ⟨[.bool true,.int .i64 (pos:Int),.int .i32 ((Utf8.decode s pos).1:Int)]⟩,H,loc',[],[i]⟩
    else some ⟨.tuple ⟨[.bool false]⟩,H,loc,[],[]⟩
   | _=>none
  | none=>none
 | _=>none
def Js (P:Program) (X:Xt) (O:ig) (H loc:Hp) (op:Op) (ρ:Operand→Value):Option Out :=
 match op with
 | .range t x=>JB P H loc t (ρ x)
 | .next x true=>Jy H loc (ρ x)
 | .store t a x=>match Ev P H loc t (ρ a) (ρ x) with
  | some (H',loc',wg,wl)=>some ⟨undef,H',loc',wg,wl⟩
  | none=>none
 | .call { callee:=.builtin .append,args:=⟨[s,x]⟩,argTypes:=⟨[tS,tX]⟩ }=>CE P H loc tS tX (ρ s) (ρ x)
 | .call { callee:=.builtin .copy,args:=⟨[s,x]⟩,argTypes:=⟨tS::_⟩ }=>CF P H loc tS (ρ s) (ρ x)
 | .call { callee:=.value f,args:=as,.. }=>Jr P X O H loc (ρ f) (as.toList.map ρ)
 | _=>none
def xS (P:Program) (X:Xt) (O:ig) (esc:Nat→Bool) (o:Oper) (ρ:Operand→Value) (H loc:Hp):Option Out :=
 match kindOf o.op with
 | .J4=>match Jw P X H o ρ with
  | some v=>some ⟨v,H,loc,[],[]⟩
  | none=>none
 | .load=>match o.op with
  | .load t x=>match vQ P H loc t (ρ x) with
   | some v=>some ⟨v,H,loc,[],[]⟩
   | none=>none
  | _=>none
 | .alloc=>match Jp P o.op ρ with
  | some (b,k) =>
   bif (match o.dst with | some d=>esc d | none=>true) then
    bif b.cells.all kV then JM b.cells (fun cs=>qL (H++[{ b with cells:=cs }]) fun H'=>some ⟨uu k ⟨H.length,0,none⟩,H',loc,[],[]⟩) else none
   else JM b.cells (fun cs=>qL (loc++[{ b with cells:=cs }]) fun loc'=>some ⟨uu k ⟨loc.length,0,some 0⟩,H,loc',[],[]⟩)
  | none=>none
 | .wK=>Js P X O H loc o.op ρ
def u7 (v:Value):Bool:=match v with
 | .func (.func f) ⟨[]⟩ ⟨[]⟩=>ay f 3000000
 | _=>false
def o6:Value:=.func (.func 3000000) ⟨[]⟩ ⟨[]⟩
def Db (o:Oper) (ρ:Operand→Value):Bool:=o.op.operands.toList.all fun x=>!u7 (ρ x)
def Aw (P:Program) (X:Xt) (O:ig) (esc:Nat→Bool) (o:Oper) (ρ:Operand→Value) (H loc:Hp):Option Out :=
 bif Db o ρ then xS P X O esc o ρ H loc else none
variable {P:Program} {X:Xt} {O:ig} {esc:Nat→Bool} {o:Oper} {H loc:Hp}
theorem wL {ρ:Operand→Value} {out:Out} (h:Aw P X O esc o ρ H loc=some out):Db o ρ=true∧xS P X O esc o ρ H loc=some out:=by
 unfold Aw at h
 cases hl:Db o ρ with
 | false=>rw [hl] at h; cases h
 | true=>rw [hl] at h; exact ⟨rfl,h⟩
def lY:Nat→Option Nat:=fun _=>none
def GoodAt (P:Program) (E:Env) (f:FuncId) (args:List Value) (H:Hp) (v:Value) (H':Hp) (md:List Nat):Prop :=
 ∀(m:Mp) (w:World) (args':List Value),m.env=E→m.lb=lY→Rel m H [] w→ek m args args' →
  Calls P f args'.toArray w fun e w'=>∃v' m',e=.returned v'∧VR m' v v'∧Ext m H [] w m' H' [] w' md []∧m'.lb=lY
def iY (P:Program) (E:Env) (O:ig):Prop:=∀f args H v H' md,O f args H=some (v,H',md)→GoodAt P E f args H v H' md
def kP (P:Program):Prop:=∀(f:Nat) (fn:Func),P.funcs[f]?=some fn→(fn.name== "runtime.NumGoroutine")=false
def kD (P:Program) (X:Xt):Prop:=(∀f e,X.ext f=some e→∃fn,P.funcs[f]?=some fn∧fn.body.isNone=true∧Extern.findNext fn=none∧Extern.find fn=some e)∧Sat X.env X.mP∧DV P X
section
variable {P:Program} {m:Mp} {H loc:Hp} {w:World}
variable {ty:TypeId} {x s' x':Value}
theorem Xr (hR:Rel m H loc w) {tX:List TypeId} {t0:TypeId} {s:Value} (hs:VR m s s') (hx:VR m x x') {out:Out} (h:CF P H loc t0 s x=some out) :
  ∃v' w',(Builtin.copy_ ⟨t0::tX⟩ ty #[s',x']).run P w=.ok v' w'∧Ext m H loc w m out.H out.loc w' out.wg out.wl∧VR m out.v v':=by
 unfold CF at h
 split at h
 ·rename_i elem base dLen dCap sl hS hsl
  split at h
  ·cases h
  ·rename_i ti hti
   split at h
   ·cases h
   ·rename_i cells hcells
    have hlen:=UA (P:=P) hx hsl w
    have hnl:∀a l c,x=.slice a l c→Nat.min sl dLen≤l:=by
     intro a l c e; subst e; simp [BD] at hsl; subst hsl; exact Nat.min_le_left _ _
    obtain ⟨new',hf,hvn⟩:=LP (P:=P) hR hx hcells hnl
    have hbase:∃base' c',s'=.slice base' dLen c'∧(base=none→base'=none)∧(∀a,base=some a→∃a',base'=some a'∧SR m a dLen dCap a' c'):=by
     cases base with
     | none=>cases hs; exact ⟨_,_,rfl,(fun _=>rfl),(fun a e=>by cases e)⟩
     | some a =>
      obtain ⟨a',c',rfl,hsr⟩:=y8 hs
      exact ⟨_,_,rfl,(fun e=>by cases e),(fun a0 e=>by injection e with e; subst e; exact ⟨a',rfl,hsr⟩)⟩
    obtain ⟨base',c',rfl,hb1,hb2⟩:=hbase
    cases base with
    | none =>
     simp only [ak] at h
     subst h
     rw [hb1 rfl]
     refine ⟨_,w,?_,Ext.refl hR,.int _ _⟩
     simp [Builtin.copy_,run_underlying hS,hlen,oh hti,hf,goInt]
    | some a =>
     obtain ⟨a',rfl,hsr⟩:=hb2 a rfl
     simp only at h
     cases h0:(cells.length==0) with
     | true =>
      simp only [h0,cond_true,ak] at h
      subst h
      have e0:cells=[]:=bR (by simpa using h0)
      subst e0
      have e1:new'=[]:=bR hvn.1.symm
      subst e1
      refine ⟨_,w,?_,Ext.refl hR,.int _ _⟩
      simp [Builtin.copy_,run_underlying hS,hlen,oh hti,hf,storeCells,goInt]
     | false =>
      simp only [h0,cond_false] at h
      cases hd:decide (0<dLen) with
      | false=>simp [hd] at h
      | true =>
       simp only [hd,cond_true] at h
       have hd':0<dLen:=by simpa using hd
       split at h
       ·rename_i H' loc' wg wl hw
        injection h with h; subst h
        rcases hsr with ⟨har,_⟩ | ⟨e,_⟩
        ·obtain ⟨w',hrun,hext⟩:=Mq (P:=P) hR har hvn hw
         refine ⟨_,w',?_,hext,.int _ _⟩
         simp [Builtin.copy_,run_underlying hS,hlen,oh hti,hf,hrun,goInt]
        ·omega
       ·cases h
 ·cases h
variable {m':Mp} {H':Hp} {w':World}
theorem XN (hR:Rel m H loc w) {md:List Nat} (h:Ext m.jF H [] w m' H' [] w' md []) (hl:m'.lb=lY) :
  Ext m H loc w { m' with lb:=m.lb,sh:=m.sh } H' loc w' md []∧Le m' { m' with lb:=m.lb,sh:=m.sh }:=by
 have hle:Le m { m' with lb:=m.lb,sh:=m.sh }:=⟨h.le.gb,fun _ _ e=>e,h.le.loose,h.le.eD,h.le.tot,h.le.env,fun _ _ _=>rfl,h.le.bs⟩
 have hle2:Le m' { m' with lb:=m.lb,sh:=m.sh }:=⟨fun _ _ e=>e,(fun i g e=>by rw [hl] at e; cases e),fun _ _ _=>rfl,fun _ _ _=>rfl,fun _ _ _=>rfl,rfl,(fun i g e=>by rw [hl] at e; cases e),rfl⟩
 refine ⟨⟨hle,⟨fun i g e=>?_,fun i g e=>?_,fun i j g bi bj e e'=>h.rel.ko i j g bi bj e e',hR.pJ,?_,fun i g b e e1 e2=>(hR.uF i g b e e1 e2).mono h.le.bs (h.frame g (hR.iN i g e).1 (fun j e'=>hR.lh j i g e' e) (fun j e'=>by cases e')) (fun j bj q1 q2=>⟨q1,rfl,bj,q2,rfl,rfl⟩),fun g c hc=>⟨(h.rel.fz g c hc).1,fun i b e hb=>(hR.fz g c (by rw [←hle.env]; exact hc)).2 i b e hb⟩,h.rel.f0⟩,fun i g e=>h.img i g e,fun i g e=>.inl e,fun i g e=>h.dom i g e,fun i g e=>.inl e,
  h.os,h.tape,h.output,h.size,(fun g hg hn hn2=>h.frame g hg hn (fun i e=>by cases e)),fun i hi hn=>h.un i hi hn,fun _ _ _=>rfl,h.mod,fun _ _ _=>rfl,h.len,au _,h.kp,h.cmod,h.sZ⟩,hle2⟩
 ·obtain ⟨h1,b,h2,h3⟩:=h.rel.ic i g e
  exact ⟨h1,b,h2,h3.mono hle2 e (fun _=>rfl)⟩
 ·obtain ⟨h1,b,h2,h3⟩:=hR.iN i g e
  exact ⟨aC h1 h.size,b,h2,h3.mono hle e (h.frame g h1 (fun j e'=>hR.lh j i g e' e) (fun j e'=>by cases e'))⟩
 ·intro i j g e e'
  rcases h.img i g e with ⟨k,hk⟩ | hk
  ·exact hR.lh k j g hk e'
  ·have:=(hR.iN j g e').1; omega
theorem KX (hR:Rel m H loc w):Rel m.jF H [] w:=by
 refine ⟨fun i g e=>?_,(fun i g e=>by cases e),hR.ko,(fun i j g bi bj e=>by cases e),(fun i j g _ e=>by cases e),(fun i g b e=>by cases e),(fun g c hc=>⟨(hR.fz g c hc).1,fun i b e=>by cases e⟩),hR.f0⟩
 obtain ⟨h1,b,h2,h3⟩:=hR.ic i g e
 exact ⟨h1,b,h2,h3.lo,h3.ez,h3.blk⟩
theorem XH (hR:Rel m H loc w):Ag m H:=fun i g b hi hb=>by
 obtain ⟨_,b0,hb0,hG⟩:=hR.ic i g hi
 rw [hb] at hb0; injection hb0 with hb0; subst hb0
 exact ⟨hG.ez,hG.lo⟩
variable {f:FuncId}
theorem Rc {fn:Func} {args:Array Value} (hf:P.funcs[f]?=some fn) (hb:fn.body.isSome=true) (hn:(fn.name== "runtime.NumGoroutine")=false) (w:World) :
  (callFunc f args).run P w=.ok (.enter f args) w:=by
 have hb':¬fn.body=none:=by intro e; rw [e] at hb; cases hb
 have hn':¬fn.name= "runtime.NumGoroutine":=by simpa using hn
 simp [callFunc,hf,hn',hb']
theorem Jz (hN:kP P) (hX:kD P X) (hO:iY P X.env O) (hE:qb X m) {ρ:Operand→Value} {a:Act} (hρ:sH m ρ a.eval o) (hR:Rel m H loc w) {out:Out} (h:Aw P X O esc o ρ H loc=some out)
  {K:Act→World→Prop} {Q:Exit→Act→World→Prop}
  (hK:∀v' w' m',Ext m H loc w m' out.H out.loc w' out.wg out.wl→VR m' out.v v'→K (a.put o.dst v') w'):o.wp P a w K Q:=by
 replace h:=(wL h).2
 unfold xS at h
 simp only [Ez,nC] at h
 split at h
 ·split at h
  ·rename_i v hv
   injection h with h; subst h
   obtain ⟨v',hrun,hvr⟩:=OB (P:=P) (by rw [hE.env]; exact hX.2.1) hX.2.2 hE.win (XH hR) hρ hv w
   unfold Oper.wp
   rw [hrun]
   exact hK v' w m (Ext.refl hR) hvr
  ·cases h
 ·split at h
  ·rename_i t x ho
   split at h
   ·rename_i v hv
    injection h with h; subst h
    obtain ⟨v',hrun,hvr⟩:=Px (P:=P) hR (hρ x (by simp [ho,bF])) hv
    unfold Oper.wp execOp
    simp only [ho,di,hrun,bC,dA]
    exact hK v' w m (Ext.refl hR) hvr
   ·cases h
  ·cases h
 ·split at h
  ·rename_i b k hb
   obtain ⟨cs,hrun,hvr,hlive,hloose⟩:=MG (P:=P) hρ hb w
   unfold Oper.wp
   rw [hrun]
   cases he:(match o.dst with | some d=>esc d | none=>true) with
   | true =>
    rw [he] at h
    simp only [cond_true] at h
    cases hn:b.cells.all kV with
    | false=>rw [hn] at h; cases h
    | true =>
     rw [hn] at h
     simp only [cond_true,ak] at h
     subst h
     have hvn:=vB hn hvr
     have hext:=JG hR b cs (by have:=hvr.1; simp at this; omega) (by
      have hl:b.cells.length=cs.toList.length:=hvr.1
      rw [hl,List.take_length]; exact hvn) (fun _=>by have:=hvr.1; simp at this; omega)
     exact hK _ _ _ hext (Fg (m:=m.gN H.length w.heap.size b.loose b.eD cs.size) (a:=⟨H.length,0,none⟩) (a':=⟨w.heap.size,0,none⟩) (.inl ⟨rfl,(by simp [Mp.gN]:(m.gN H.length w.heap.size b.loose b.eD cs.size).gb H.length=some w.heap.size),rfl,rfl⟩) k)
   | false =>
    rw [he] at h
    simp only [cond_false,ak] at h
    subst h
    exact hK _ _ _ (XP hR b cs hlive hloose hvr) (Fg (m:=m.jy loc.length w.heap.size) (a:=⟨loc.length,0,some 0⟩) (a':=⟨w.heap.size,0,none⟩) (.inr ⟨rfl,(by simp [Mp.jy]:(m.jy loc.length w.heap.size).lb loc.length=some w.heap.size),by simp [Mp.jy],rfl⟩) k)
  ·cases h
 ·unfold Js at h
  split at h
  ·rename_i t x ho
   have hx:=hρ x (by simp [ho,bF])
   unfold JB at h
   simp only [nC] at h
   split at h
   ·rename_i s hu hs
    injection h with h; subst h
    rw [hs] at hx
    have hx':a.eval x=.string s:=by generalize a.eval x=y at hx; cases hx; rfl
    unfold Oper.wp execOp
    simp only [ho,Instr.range,di,run_underlying hu,hx',bC,dA,run_newObj_alloc]
    refine hK _ _ _ (OH hR ⟨[.string s,.int .i64 (0:Nat)],0,0,false,false⟩ (.stringIter s 0) rfl ⟨(fun e=>by cases e),(fun _=>⟨by simp [Mp.jy],s,0,rfl,heap_alloc_new w _⟩)⟩) ?_
    exact AR.vr (.inr ⟨rfl,by simp [Mp.jy],by simp [Mp.jy],rfl⟩)
   ·cases h
  ·rename_i x ho
   have hx:=hρ x (by simp [ho,bF])
   unfold Jy at h
   simp only [xZ,AB] at h
   split at h
   ·rename_i i hi
    rw [hi] at hx
    obtain ⟨a',hx',har⟩:=vz hx
    obtain ⟨ab,ao,asp⟩:=a'
    rcases har with ⟨e,_⟩ | ⟨_,hlb,hoff,hsp⟩
    ·cases e
    ·simp only at hlb hoff hsp
     subst hoff; subst hsp
     split at h
     ·rename_i b hb
      cases hl:b.live with
      | true=>rw [hl] at h; cases h
      | false =>
       rw [hl] at h
       simp only [cond_false] at h
       have hbl:b={ b with live:=false }:=by rw [←hl]
       obtain ⟨hg,b0,hb0,hL⟩:=hR.iN _ _ hlb
       rw [hb] at hb0; injection hb0 with hb0; subst hb0
       obtain ⟨hs0,s0,pos0,hc0,hw0⟩:=hL.it hl
       split at h
       ·rename_i s pos hcells
        rw [hcells] at hc0
        simp only [afj,Value.string.injEq,Value.int.injEq,true_and,and_true] at hc0
        obtain ⟨e1,e2⟩:=hc0
        subst e1
        have e3:pos=pos0:=Int.ofNat.inj e2
        subst e3
        have hget:(getObj ab).run P w=.ok (.stringIter s pos) w:=by simp [getObj,Sem.run,hw0]
        rw [hs0] at hx'
        unfold Oper.wp execOp
        simp only [ho,Instr.next,di,hx',hget,bC]
        cases hlt:decide (pos<s.size) with
        | true =>
         rw [hlt] at h
         simp only [cond_true,ak] at h
         subst h
         rw [if_pos (by simpa using hlt)]
         have hset:(setObj ab (.stringIter s (pos+(Utf8.decode s pos).2))).run P w=.ok () { w with heap:=w.heap.setIfInBounds ab (.stringIter s (pos+(Utf8.decode s pos).2)) }:=by simp [setObj,Sem.run,hw0]
         simp only [di,hset,bC,dA,goInt]
         refine hK _ _ m (OI (w':={ w with heap:=w.heap.setIfInBounds ab (.stringIter s (pos+(Utf8.decode s pos).2)) }) hR hlb hb (b':={ b with cells:=[.string s,.int .i64 ((pos+(Utf8.decode s pos).2:Nat):Int)],live:=false }) (by rw [hcells]; rfl) hl.symm rfl rfl rfl (fun k hk=>by simp [Array.getElem?_setIfInBounds_ne (ae4 hk)]) (by simp) rfl rfl rfl
          ⟨(fun e=>by cases e),(fun _=>⟨hs0,s,pos+(Utf8.decode s pos).2,rfl,by simp [hg]⟩)⟩ (.inl hl) (fun j bj hj e1 e2=>?_) (fun j bj e1 e2 e3=>?_)) ?_
         ·rcases hR.pJ j i ab bj b e1 hlb e2 hb with q | ⟨_,q,_⟩
          ·exact absurd q hj
          ·rw [hl] at q; cases q
         ·obtain ⟨csw,q,_⟩:=hR.uF j ab bj e1 e2 e3
          rw [hw0] at q; cases q
         exact rG m 4 _ rfl
        | false =>
         rw [hlt] at h
         simp only [cond_false,ak] at h
         subst h
         rw [if_neg (by simpa using hlt)]
         simp only [dA,bC]
         exact hK _ _ m (Ext.refl hR) (rG m 4 _ rfl)
       ·cases h
     ·cases h
   ·cases h
  ·rename_i t x y ho
   split at h
   ·rename_i H' loc' wg wl hst
    injection h with h; subst h
    obtain ⟨w',hrun,hext⟩:=adA (P:=P) hR (hρ x (by simp [ho,bF])) (hρ y (by simp [ho,bF])) hst
    unfold Oper.wp execOp
    simp only [ho,di,hrun,bC,dA]
    exact hK undef w' m hext (VR.undef m)
   ·cases h
  ·rename_i s x tS tX ho
   obtain ⟨v',w',m',hrun,hext,hvr⟩:=VO (P:=P) (ty:=o.type) hR (hρ s (by simp [ho,bF,ae5])) (hρ x (by simp [ho,bF,ae5])) h
   unfold Oper.wp execOp
   simp only [ho,resolve,invoke,builtin,di,dA,bC,List.map_toArray,dI,ae9,hrun]
   exact hK v' w' m' hext hvr
  ·rename_i s x tS tR ho
   obtain ⟨v',w',hrun,hext,hvr⟩:=Xr (P:=P) (ty:=o.type) hR (hρ s (by simp [ho,bF,ae5])) (hρ x (by simp [ho,bF,ae5])) (tX:=tR) h
   unfold Oper.wp execOp
   simp only [ho,resolve,invoke,builtin,di,dA,bC,List.map_toArray,dI,ae9,hrun]
   exact hK v' w' m hext hvr
  ·rename_i f as tys ho
   unfold Jr at h
   split at h
   ·rename_i fid first captured hfv
    cases hsf:jq fid with
    | true=>rw [hsf] at h; cases h
    | false =>
    rw [hsf] at h
    simp only [cond_false] at h
    cases hc:(CP P fid&&(first.toList++as.toList.map ρ++captured.toList).all kV) with
    | false =>
     rw [hc] at h
     simp only [cond_false] at h
     split at h
     ·rename_i e he
      cases hp:(!CP P fid&&(first.toList++as.toList.map ρ++captured.toList).all nZ) with
      | false=>rw [hp] at h; cases h
      | true =>
       rw [hp] at h
       simp only [cond_true] at h
       simp only [aQ] at hp
       split at h
       ·rename_i v hv
        cases hpv:nZ v with
        | false=>rw [hpv] at h; cases h
        | true =>
         rw [hpv] at h
         simp only [cond_true,ak] at h
         subst h
         have hf:=hρ f (by simp [ho,bF,ae5])
         rw [hfv] at hf
         have hargs:ek m (as.toList.map ρ) (as.toList.map a.eval):=by
          have key:∀(l:List Operand),(∀x∈l,VR m (ρ x) (a.eval x))→ek m (l.map ρ) (l.map a.eval):=by
           intro l hl
           induction l with
           | nil=>exact ek.nil m
           | cons x l ih=>exact ek.cons (hl x (by simp)) (ih fun y hy=>hl y (by simp [hy]))
          exact key _ fun x hx=>hρ x (by simp [ho,bF,ae5]; exact .inr (by simpa using hx))
         cases hfv':a.eval f with
         | func fn first' captured' =>
          rw [hfv'] at hf
          cases hf with
          | func h0 h1 h2 h3 h4 =>
           rename_i fs fs' cs cs'
           have hall:ek m (fs++as.toList.map ρ++cs) (fs'++as.toList.map a.eval++cs'):=(ek.append ⟨h1,h2⟩ hargs).append ⟨h3,h4⟩
           have heq:fs++as.toList.map ρ++cs=fs'++as.toList.map a.eval++cs' :=
            Da hall.1 fun i x y hx hy=>zM 4 x y (bn.1 hp.2 x (aN hx)) (hall.2 i x y hx hy)
           obtain ⟨fnn,hfn,hbn,hnx,hfd⟩:=hX.1 _ _ he
           have hrun:=run_callFunc_extern hfn (hN _ _ hfn) hbn hnx hfd (fs'++as.toList.map a.eval++cs').toArray w
           simp only at hv
           rw [heq] at hv
           rw [Dq _ _ w hv] at hrun
           unfold Oper.wp execOp
           have e':(⟨fs'⟩++as.map a.eval++⟨cs'⟩:Array Value)=(fs'++as.toList.map a.eval++cs').toArray:=by apply Array.ext'; simp
           simp only [ho,resolve,hfv',Deferred.ofValue,di,dA,bC,invoke,e',hrun]
           exact hK v w m (Ext.refl hR) (rG m 4 v hpv)
         | int k n=>rw [hfv'] at hf; cases hf with | jX h0 _=>rw [hsf] at h0; cases h0
         | bool b=>rw [hfv'] at hf; cases hf with | jV h0 _=>rw [hsf] at h0; cases h0
         | slice a1 n1 c1=>rw [hfv'] at hf; cases hf with | hnd h0 _=>rw [hsf] at h0; cases h0
         | _=>rw [hfv'] at hf; cases hf
       ·cases h
     ·cases h
    | true =>
     rw [hc] at h
     simp only [cond_true] at h
     simp only [aQ] at hc
     obtain ⟨hbody,hnoloc⟩:=hc
     split at h
     ·rename_i v H' md hor
      injection h with h; subst h
      have hf:=hρ f (by simp [ho,bF,ae5])
      rw [hfv] at hf
      have hargs:ek m (as.toList.map ρ) (as.toList.map a.eval):=by
       have key:∀(l:List Operand),(∀x∈l,VR m (ρ x) (a.eval x))→ek m (l.map ρ) (l.map a.eval):=by
        intro l hl
        induction l with
        | nil=>exact ek.nil m
        | cons x l ih=>exact ek.cons (hl x (by simp)) (ih fun y hy=>hl y (by simp [hy]))
       exact key _ fun x hx=>hρ x (by simp [ho,bF,ae5]; exact .inr (by simpa using hx))
      cases hfv':a.eval f with
      | func fn first' captured' =>
       rw [hfv'] at hf
       cases hf with
       | func h0 h1 h2 h3 h4 =>
        rename_i fs fs' cs cs'
        have hall:ek m (fs++as.toList.map ρ++cs) (fs'++as.toList.map a.eval++cs'):=(ek.append ⟨h1,h2⟩ hargs).append ⟨h3,h4⟩
        have hgood:=hO _ _ _ _ _ _ hor m.jF w _ hE.env rfl (KX hR) (vB hnoloc hall)
        unfold CP at hbody
        split at hbody
        ·rename_i fnn hfn
         have hrun:=Rc (args:=(fs'++as.toList.map a.eval++cs').toArray) hfn hbody (hN _ _ hfn) w
         unfold Oper.wp execOp
         have e:(⟨fs'⟩++as.map a.eval++⟨cs'⟩:Array Value)=(fs'++as.toList.map a.eval++cs').toArray:=by apply Array.ext'; simp
         simp only [ho,resolve,hfv',Deferred.ofValue,di,dA,bC,invoke,e,hrun]
         rw [Oper.upon_enter]
         refine hgood.mono ?_
         rintro e' w' ⟨v',m',rfl,hvr,hext,hlb⟩
         obtain ⟨hext',hle⟩:=XN hR hext hlb
         exact hK v' w' _ hext' (hvr.mono hle)
        ·cases hbody
      | int k n=>rw [hfv'] at hf; cases hf with | jX h0 _=>rw [hsf] at h0; cases h0
      | bool b=>rw [hfv'] at hf; cases hf with | jV h0 _=>rw [hsf] at h0; cases h0
      | slice a1 n1 c1=>rw [hfv'] at hf; cases hf with | hnd h0 _=>rw [hsf] at h0; cases h0
      | _=>rw [hfv'] at hf; cases hf
     ·cases h
   ·cases h
  ·cases h
end
end Go.Sm
end
end
