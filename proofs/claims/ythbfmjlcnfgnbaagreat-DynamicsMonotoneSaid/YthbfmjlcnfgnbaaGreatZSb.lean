/-
  Part of the proof: see the last text.
-/
import Derived.Below
import Derived.Test.YthbfmjlcnfgnbaaGreatProg
import Derived.KernelRfl
import Derived.WalkKit
import Derived.Test.YthbfmjlcnfgnbaaGreatZSa
set_option linter.unusedVariables false
set_option maxHeartbeats 8000000
open Array renaming getD_eq_getD_getElem?→bI,getElem?_eq_none→afc,getElem?_eq_some_iff→aB,replicate→aji
open BitVec renaming ofInt→ae6
open Bool renaming and_eq_true→aQ,false_eq_true→ajp
open Go.IntKind renaming i64→bg
open List renaming all_eq_true→bn,cons_append→dw,eq_nil_of_length_eq_zero→bR,getD→amI,getD_cons_succ→bZ,getD_cons_zero→bN,getElem?_append_left→aH,getElem?_cons_succ→aeW,getElem?_drop→aeX,getElem?_eq_getElem→ah,getElem?_eq_none→bQ,getElem?_eq_some_iff→ai,getElem?_set_ne→bz,getElem?_take→dx,length_cons→dB,length_nil→aeT,map_cons→dI,mem_append→bH,mem_append_left→aeY,mem_append_right→dm,mem_cons→ag,mem_cons_of_mem→aT,mem_cons_self→aA,mem_of_getElem?→aN,range→dh,replicate→ag6,size_toArray→aeR,take_of_length_le→dH
open List.cons renaming injEq→afj
open Nat renaming beq→ay,ble→amE,eq_of_beq_eq_true→bf,le_of_not_lt→afb,le_refl→au,le_trans→aZ,lt_of_lt_of_le→aC,lt_or_ge→cu
open Ne renaming symm→ae4
open Go.Op renaming operands→bF
open Option renaming map_eq_some_iff→aR
open Option.some renaming injEq→ak
open Prod.mk renaming injEq→aP
open Go.Region renaming binds→ae3
open Go.Result renaming andThen_ok→bC
open Go.Sem renaming run_bind→di,run_pure→dA
open Go.Proofs.Tryz renaming prog→aa
section
section
namespace Go.Sm
structure St where
 fr:List Value
 H:Hp
 loc:Hp
 wg:List Nat
def nA (fr:List Value):Operand→Value
 | .tmp t=>fr.getD t undef
 | .const v=>v
 | .global g=>.pointer (some ⟨g,0,some 1⟩)
 | .func f=>.func (.func f) #[] #[]
def pQ (fr:List Value) (dst:Option Tmp) (v:Value):List Value :=
 match dst with
 | some d=>fr.set d v
 | none=>fr
def JJ {α:Type} (fr:List Value) (dst:Option Tmp) (v:Value) (k:List Value→α):α :=
 match dst with
 | some d=>zq fr d v k
 | none=>k fr
theorem JK {α:Type} (fr:List Value) (dst:Option Tmp) (v:Value) (k:List Value→α):JJ fr dst v k=k (pQ fr dst v):=by
 cases dst with
 | none=>rfl
 | some d=>exact AB fr d v k
def Bi:Operand→Bool
 | .const v=>nZ v
 | .global _=>false
 | .func f=>!jq f
 | _=>true
def xx (ops:List Oper) (fr:List Value) (o:Oper):Bool :=
 match o.guard with
 | none=>true
 | some (j,want) =>
  match (ops[j]?).bind (·.dst) with
  | some t=>match fr[t]? with
   | some (.bool b)=>b==want
   | _=>false
  | none=>false
def wP (ops:List Oper) (fr:List Value) (o:Oper):Bool :=
 match o.guard with
 | none=>true
 | some (j,_) =>
  match (ops[j]?).bind (·.dst) with
  | some t=>match fr[t]? with
   | some v=>!zA v
   | none=>true
  | none=>true
def ajJ (ops:List Oper):Bool:=ops.all fun o=>o.op.operands.toList.all Bi
def GU (P:Program) (X:Xt) (O:ig) (esc:Nat→Bool) (ops:List Oper) (o:Oper) (s:St):Option St :=
 bif wP ops s.fr o then
  bif xx ops s.fr o then
   match Aw P X O esc o (nA s.fr) s.H s.loc with
   | some out=>vT 4 out.v fun v=>JJ s.fr o.dst v fun fr=>qL (s.wg++out.wg) fun wg=>some ⟨fr,out.H,out.loc,wg⟩
   | none=>none
  else JJ s.fr o.dst undef fun fr=>some { s with fr:=fr }
 else none
def qC (P:Program) (X:Xt) (O:ig) (esc:Nat→Bool) (ops:List Oper):List Oper→St→Option St
 | [],s=>some s
 | o::rest,s=>match GU P X O esc ops o s with
  | some s'=>qC P X O esc ops rest s'
  | none=>none
def qX (m:Mp) (l l':List Value):Prop:=l.length=l'.length∧∀(i:Nat) (v v':Value),l[i]?=some v→l'[i]?=some v'→u7 v=true∨VR m v v'
variable {m:Mp} {l l':List Value}
theorem ek.Yc (h:ek m l l'):qX m l l':=⟨h.1,fun i v v' a b=>.inr (h.2 i v v' a b)⟩
theorem qX.mono {m m':Mp} (hm:Le m m') {l l':List Value} (h:qX m l l'):qX m' l l':=⟨h.1,fun i v v' a b=>(h.2 i v v' a b).imp id (fun x=>x.mono hm)⟩
theorem qX.set {m:Mp} {l l':List Value} (h:qX m l l') (n:Nat) {x x':Value} (hx:VR m x x'):qX m (l.set n x) (l'.set n x'):=by
 refine ⟨by simp [h.1],fun i v v' e e'=>?_⟩
 simp only [List.getElem?_set] at e e'
 rw [←h.1] at e'
 by_cases hi:n=i
 ·subst hi
  by_cases hl:n<l.length
  ·simp [hl] at e e'; subst e; subst e'; exact .inr hx
  ·simp [hl] at e
 ·simp [hi] at e e'; exact h.2 i v v' e e'
variable {v:Value}
theorem Np (h:u7 v=true):zA v=true:=by
 unfold u7 at h
 split at h
 ·rename_i f
  have:=bf h
  subst this
  rfl
 ·cases h
structure jQ (m0:Mp) (H0:Hp) (w0:World) (s:St) (m:Mp) (a:Act) (w:World):Prop where
 ext:Ext m0 H0 [] w0 m s.H s.loc w s.wg []
 fr:qX m s.fr a.tmps.toList
 df:a.defers=[]
section
variable {P:Program} {m m0:Mp} {H0:Hp} {w w0:World} {a:Act}
variable {m':Mp} {H H' loc':Hp} {w':World} {wg wl:List Nat}
theorem Ext.Ko {m:Mp} {w:World} (h:Ext m H [] w m' H' loc' w' wg wl):Ext m H [] w m' H' loc' w' wg [] :=
 { h with nT:=fun i hi=>by simp at hi }
variable {fr:List Value}
theorem CJ (hf:qX m fr a.tmps.toList) {x:Operand} (hx:Bi x=true) (hd:u7 (nA fr x)=false):VR m (nA fr x) (a.eval x):=by
 cases x with
 | tmp t =>
  simp only [nA,Act.eval]
  have hsz:fr.length=a.tmps.size:=by simpa using hf.1
  by_cases ht:t<fr.length
  ·have ht':t<a.tmps.size:=hsz▸ht
   have:=hf.2 t fr[t] a.tmps[t] (ah ht) (by simp [ht'])
   rcases this with h | h
   ·simp [nA,amI,ht,h] at hd
   ·simpa [amI,ht,ht'] using h
  ·have ht':¬t<a.tmps.size:=hsz▸ht
   have e1:fr.getD t undef=undef:=by simp [amI,bQ (afb ht)]
   have e2:a.tmps.getD t undef=undef:=by simp [ht']
   rw [e1,e2]
   exact VR.undef m
 | const v=>exact rG m 4 v hx
 | global g=>cases hx
 | func f=>exact .func (by simpa [Bi] using hx) rfl (fun i v v' h=>by simp at h) rfl (fun i v v' h=>by simp at h)
variable {o:Oper}
theorem QE (hf:qX m fr a.tmps.toList) (ho:o.op.operands.toList.all Bi=true) (hl:Db o (nA fr)=true):sH m (nA fr) a.eval o:=by
 intro x hx
 exact CJ hf (bn.1 ho x (by simpa using hx)) (by have:=bn.1 hl x (by simpa using hx); simpa using this)
variable {ops:List Oper}
theorem Vk (hf:qX m fr a.tmps.toList) (o:Oper) (hg:wP ops fr o=true):Region.wanted o (yielded ops.toArray a.tmps)=xx ops fr o:=by
 unfold wP at hg
 unfold Region.wanted xx
 cases hgd:o.guard with
 | none=>rfl
 | some jw =>
  obtain ⟨j,want⟩:=jw
  rw [hgd] at hg
  simp only [yielded,List.getElem?_toArray]
  cases hd:(ops[j]?).bind (·.dst) with
  | none=>simp
  | some t =>
   simp only [hd] at hg
   simp only [Option.bind_some]
   cases hv:fr[t]? with
   | none =>
    have:a.tmps[t]?=none:=by
     have h1:=hf.1
     rw [List.getElem?_eq_none_iff] at hv
     simp at h1
     simp; omega
    simp [this]
   | some v =>
    have hlt:=(ai.1 hv).1
    have hlt':t<a.tmps.toList.length:=hf.1▸hlt
    obtain ⟨v',hv'⟩:∃v',a.tmps.toList[t]?=some v':=⟨_,ah hlt'⟩
    have hvr:=hf.2 t v v' hv hv'
    have e:a.tmps[t]?=some v':=by simpa using hv'
    rw [e]
    rw [hv] at hg
    rcases hvr with hvr | hvr
    ·simp only [Np hvr] at hg; cases hg
    cases hvr<;>first | (simp; done) | (rename_i h0 _; simp [zA,h0] at hg)
variable {v':Value}
theorem FU (hf:qX m fr a.tmps.toList) (dst:Option Tmp) (hv:VR m v v'):qX m (pQ fr dst v) (a.put dst v').tmps.toList:=by
 cases dst with
 | none=>exact hf
 | some d =>
  simp only [pQ,Act.put,Array.toList_setIfInBounds]
  exact hf.set d hv
theorem LJ (hN:kP P) {X:Xt} (hX:kD P X) {O:ig} (hO:iY P X.env O) (hE0:qb X m0) {esc:Nat→Bool} {ops:List Oper} {Q:Exit→Act→World→Prop} :
  ∀(l:List Oper) (s s':St) (m:Mp) (a:Act) (w:World),ajJ l=true→qC P X O esc ops l s=some s'→jQ m0 H0 w0 s m a w →
   (∀m' a' w',jQ m0 H0 w0 s' m' a' w'→Q .normal a' w')→wpList P ops.toArray Q l a w
 | [],s,s',m,a,w,_,h,hs,hQ=>by
  simp only [qC,ak] at h
  subst h
  exact hQ m a w hs
 | o::rest,s,s',m,a,w,hc,h,hs,hQ=>by
  simp only [ajJ,List.all_cons,aQ] at hc
  simp only [qC] at h
  split at h
  ·rename_i s1 h1
   unfold GU at h1
   simp only [yc,JK,nC] at h1
   unfold wpList
   cases hgo:wP ops s.fr o with
   | false=>rw [hgo] at h1; cases h1
   | true =>
   rw [hgo] at h1
   simp only [cond_true] at h1
   rw [Vk hs.fr o hgo]
   cases hw:xx ops s.fr o with
   | true =>
    rw [hw] at h1
    simp only [cond_true] at h1
    simp only [if_true]
    split at h1
    ·rename_i out hout
     injection h1 with h1; subst h1
     refine .inl (Jz hN hX hO (hE0.mono hs.ext.le) (QE hs.fr hc.1 (wL hout).1) hs.ext.rel hout fun v' w' m' hext hvr=>?_)
     refine LJ hN hX hO hE0 rest _ s' m' _ w' hc.2 h ⟨(hs.ext.trans hext).Ko,?_,?_⟩ hQ
     ·exact FU (hs.fr.mono hext.le) o.dst hvr
     ·cases hd:o.dst<;>simp [Act.put,hs.df]
    ·cases h1
   | false =>
    rw [hw] at h1
    simp only [cond_false,ak] at h1
    subst h1
    simp only [ajp,if_false]
    refine LJ hN hX hO hE0 rest _ s' m _ w hc.2 h ⟨hs.ext,?_,?_⟩ hQ
    ·exact FU hs.fr o.dst (VR.undef m)
    ·cases hd:o.dst<;>simp [Act.put,hs.df]
  ·cases h
end
end Go.Sm
end
section
namespace Go.Sm
structure ik (H loc H' loc':Hp) (wg wl:List Nat):Prop where
 len:H.length≤H'.length
 lH:loc.length≤loc'.length
 mod:∀i,i<H.length→i∉wg→H'[i]?=H[i]?
 nT:∀i,i<loc.length→i∉wl→loc'[i]?=loc[i]?
 kp:∀(i:Nat) (b:eG),H[i]?=some b→∃b',H'[i]?=some b'∧b'.eD=b.eD∧b'.loose=b.loose
theorem ik.refl (H loc:Hp):ik H loc H loc [] []:=⟨au _,au _,fun _ _ _=>rfl,fun _ _ _=>rfl,fun _ b e=>⟨b,e,rfl,rfl⟩⟩
variable {H loc H' loc':Hp} {wg wl:List Nat}
theorem ik.wide {wg' wl':List Nat} (h:ik H loc H' loc' wg wl) (h1:∀i,i∈wg→i∈wg') (h2:∀i,i∈wl→i∈wl'):ik H loc H' loc' wg' wl' :=
 ⟨h.len,h.lH,fun i hi hn=>h.mod i hi (fun e=>hn (h1 i e)),fun i hi hn=>h.nT i hi (fun e=>hn (h2 i e)),h.kp⟩
theorem ik.trans {H loc H' loc' H'' loc'':Hp} {a b c d:List Nat} (h:ik H loc H' loc' a b) (k:ik H' loc' H'' loc'' c d):ik H loc H'' loc'' (a++c) (b++d) where
 len:=aZ h.len k.len
 lH:=aZ h.lH k.lH
 mod:=fun i hi hn=>by
  simp only [bH,not_or] at hn
  exact (k.mod i (aC hi h.len) hn.2).trans (h.mod i hi hn.1)
 nT:=fun i hi hn=>by
  simp only [bH,not_or] at hn
  exact (k.nT i (aC hi h.lH) hn.2).trans (h.nT i hi hn.1)
 kp:=fun i x e=>by
  obtain ⟨y,e1,e2,e3⟩:=h.kp i x e
  obtain ⟨z,f1,f2,f3⟩:=k.kp i y e1
  exact ⟨z,f1,f2.trans e2,f3.trans e3⟩
theorem je {α:Type} {c:Bool} {x y:Option α} {r:α} (h:cond c x y=some r):x=some r∨y=some r:=by
 cases c with
 | true=>exact .inl h
 | false=>exact .inr h
variable {i:Nat}
theorem getElem?_snoc_lt {α:Type} {l:List α} {x:α} (h:i<l.length):(l++[x])[i]?=l[i]?:=aH h
theorem ik.Fj (H loc:Hp) (b:eG):ik H loc (H++[b]) loc [] [] :=
 ⟨by simp,au _,fun i hi _=>getElem?_snoc_lt hi,fun _ _ _=>rfl,fun i x e=>⟨x,by rw [getElem?_snoc_lt (ai.1 e).1]; exact e,rfl,rfl⟩⟩
theorem ik.PY (H loc:Hp) (b:eG):ik H loc H (loc++[b]) [] [] :=
 ⟨au _,by simp,fun _ _ _=>rfl,fun i hi _=>getElem?_snoc_lt hi,fun _ x e=>⟨x,e,rfl,rfl⟩⟩
variable {b b':eG}
theorem ik.xh (H loc:Hp) (hb:H[i]?=some b) (h1:b'.eD=b.eD) (h2:b'.loose=b.loose):ik H loc (H.set i b') loc [i] []:=by
 refine ⟨by simp,au _,fun j hj hn=>?_,fun _ _ _=>rfl,fun j x e=>?_⟩
 ·simp only [List.mem_singleton] at hn
  rw [bz (fun e=>hn e.symm)]
 ·by_cases hji:i=j
  ·subst hji
   rw [hb] at e; injection e with e; subst e
   exact ⟨b',by rw [List.getElem?_set_self (ai.1 hb).1],h1,h2⟩
  ·exact ⟨x,by rw [bz hji]; exact e,rfl,rfl⟩
theorem ik.xk (H loc:Hp) (i:Nat) (b':eG):ik H loc H (loc.set i b') [] [i]:=by
 refine ⟨au _,by simp,fun _ _ _=>rfl,fun j hj hn=>?_,fun _ x e=>⟨x,e,rfl,rfl⟩⟩
 simp only [List.mem_singleton] at hn
 rw [bz (fun e=>hn e.symm)]
variable {a:Addr} {vs:List Value}
theorem Mo (h:Ad H loc a vs=some (H',loc',wg,wl)):ik H loc H' loc' wg wl:=by
 unfold Ad at h
 simp only [nC,AB] at h
 split at h
 ·split at h
  ·rename_i b hb
   revert h
   cases (b.live&&decide (a.off+vs.length≤b.cells.length)&&vs.all vJ) with
   | false=>intro h; cases h
   | true =>
    intro h
    simp only [cond_true,ak,aP] at h
    obtain ⟨rfl,rfl,rfl,rfl⟩:=h
    exact ik.xh H loc hb rfl rfl
  ·cases h
 ·split at h
  ·rename_i b hb
   revert h
   cases (b.live&&decide (a.off+vs.length≤b.cells.length)&&vs.all (·.oneCell')&&ay b.eD 0) with
   | false=>intro h; cases h
   | true =>
    intro h
    simp only [cond_true,ak,aP] at h
    obtain ⟨rfl,rfl,rfl,rfl⟩:=h
    exact ik.xk H loc _ _
  ·cases h
 ·cases h
theorem JZ {elem:TypeId} {eD need:Nat} {cells:List Value} {out:Out} (h:grown H loc elem eD need cells wg=some out):ik H loc out.H out.loc out.wg out.wl:=by
 unfold grown at h
 simp only [nC] at h
 revert h
 cases cells.all vJ with
 | false=>intro h; cases h
 | true =>
  intro h
  simp only [cond_true,ak] at h
  subst h
  exact (ik.Fj H loc _).wide (by simp) (by simp)
variable {P:Program} {x:Value}
theorem VM {tS tX:TypeId} {s:Value} {out:Out} (h:CE P H loc tS tX s x=some out):ik H loc out.H out.loc out.wg out.wl:=by
 unfold CE at h
 simp only [nC] at h
 split at h
 ·rename_i elem dX base sLen sCap _ _
  rcases je h with h | h
  ·cases h
  split at h
  ·cases h
  ·rename_i ti hti
   split at h
   ·rename_i z n hz hn
    rcases je h with h | h
    ·cases h
    split at h
    ·cases h
    ·rename_i new hnew
     rcases je h with h | h
     ·split at h
      ·rcases je h with h | h
       ·simp only [ak] at h; subst h; exact ik.refl H loc
       ·cases h
      ·rcases je h with h | h
       ·simp only [ak] at h; subst h; exact ik.refl H loc
       ·split at h
        ·rename_i hw
         injection h with h; subst h
         exact Mo hw
        ·cases h
     ·rcases je h with h | h
      ·split at h
       ·rcases je h with h | h
        ·exact JZ h
        ·cases h
       ·rename_i a
        split at h
        ·split at h
         ·exact JZ h
         ·cases h
        ·cases h
        ·split at h
         ·rename_i b old hb hold
          rcases je h with h | h
          ·exact JZ h
          ·rcases je h with h | h
           ·simp only [ak] at h
            subst h
            exact ((ik.xh H loc hb (b':={ b with live:=false }) rfl rfl).trans (ik.Fj _ loc _)).wide (by simp) (by simp)
           ·cases h
         ·cases h
      ·cases h
   ·cases h
 ·cases h
theorem Xq {t0:TypeId} {s:Value} {out:Out} (h:CF P H loc t0 s x=some out):ik H loc out.H out.loc out.wg out.wl:=by
 unfold CF at h
 split at h
 ·split at h
  ·cases h
  ·split at h
   ·cases h
   ·split at h
    ·injection h with h; subst h; exact ik.refl H loc
    ·rcases je h with h | h
     ·injection h with h; subst h; exact ik.refl H loc
     ·rcases je h with h | h
      ·split at h
       ·rename_i hw
        injection h with h; subst h
        exact Mo hw
       ·cases h
      ·cases h
 ·cases h
def jc (O:ig):Prop:=∀f args H v H' md,O f args H=some (v,H',md)→ik H [] H' [] md []
variable {X:Xt} {O:ig} {esc:Nat→Bool} {o:Oper}
theorem OC (hO:jc O) {ρ:Operand→Value} {out:Out} (h:Aw P X O esc o ρ H loc=some out) :
  ik H loc out.H out.loc out.wg out.wl:=by
 replace h:=(wL h).2
 unfold xS at h
 simp only [Ez,nC] at h
 split at h
 ·split at h
  ·injection h with h; subst h; exact ik.refl H loc
  ·cases h
 ·split at h
  ·split at h
   ·injection h with h; subst h; exact ik.refl H loc
   ·cases h
  ·cases h
 ·split at h
  ·rename_i b k hb
   rcases je h with h | h
   ·rcases je h with h | h
    ·injection h with h; subst h; exact ik.Fj H loc _
    ·cases h
   ·injection h with h; subst h; exact ik.PY H loc _
  ·cases h
 ·unfold Js at h
  split at h
  ·unfold JB at h
   simp only [nC] at h
   split at h
   ·injection h with h; subst h; exact ik.PY H loc _
   ·cases h
  ·unfold Jy at h
   simp only [xZ,AB] at h
   split at h
   ·split at h
    ·rcases je h with h | h
     ·cases h
     ·split at h
      ·rcases je h with h | h
       ·injection h with h; subst h; exact ik.xk H loc _ _
       ·injection h with h; subst h; exact ik.refl H loc
      ·cases h
    ·cases h
   ·cases h
  ·split at h
   ·rename_i hs
    injection h with h; subst h
    unfold Ev at hs
    split at hs
    ·split at hs
     ·rcases je hs with hs | hs
      ·exact Mo hs
      ·cases hs
     ·cases hs
    ·cases hs
   ·cases h
  ·exact VM h
  ·exact Xq h
  ·unfold Jr at h
   split at h
   ·rcases je h with h | h
    ·cases h
    rcases je h with h | h
    ·split at h
     ·rename_i v H' md hv
      injection h with h; subst h
      have:=hO _ _ _ _ _ _ hv
      exact ⟨this.len,au _,this.mod,fun _ _ _=>rfl,this.kp⟩
     ·cases h
    ·split at h
     ·rcases je h with h | h
      ·split at h
       ·rcases je h with h | h
        ·injection h with h; subst h; exact ik.refl H loc
        ·cases h
       ·cases h
      ·cases h
     ·cases h
   ·cases h
  ·cases h
end Go.Sm
end
section
namespace Go.Sm
structure Fp where
 rg:List Nat
 rl:List Nat
 wg:List Nat
 wl:List Nat
 bd:Bool
def iZ (o:Oper):Bool:=match kindOf o.op with
 | .wK=>true
 | _=>false
def isLoad (o:Oper):Bool:=match kindOf o.op with
 | .load=>true
 | _=>false
def readsOf (o:Oper) (ρ:Operand→Value):List Nat×List Nat :=
 match o.op with
 | .load _ x=>match ρ x with
  | .pointer (some ⟨b,_,none⟩)=>([b],[])
  | .pointer (some ⟨b,_,some _⟩)=>([],[b])
  | _=>([],[])
 | _=>([],[])
def mh (h l:Nat):Nat→Value→Bool
 | 0,_=>false
 | d+1,v=>match v with
  | .pointer (some a)=>bif a.spot.isNone then Nat.blt a.block h else Nat.blt a.block l
  | .slice (some a) _ _=>bif a.spot.isNone then Nat.blt a.block h else Nat.blt a.block l
  | .agg cs=>cs.toList.all (mh h l d)
  | .tuple cs=>cs.toList.all (mh h l d)
  | .iface _ x=>mh h l d x
  | .func (.func f) fs cs=>bif jq f then true else fs.toList.all (mh h l d)&&cs.toList.all (mh h l d)
  | .func _ fs cs=>fs.toList.all (mh h l d)&&cs.toList.all (mh h l d)
  | _=>true
def yV (P:Program) (X:Xt) (O:ig) (esc:Nat→Bool) (ops:List Oper) (o:Oper) (s:St):Option (St×Fp) :=
 bif wP ops s.fr o then
   bif xx ops s.fr o then
  match Aw P X O esc o (nA s.fr) s.H s.loc with
  | some out=>some (⟨pQ s.fr o.dst out.v,out.H,out.loc,s.wg++out.wg⟩,⟨(readsOf o (nA s.fr)).1,(readsOf o (nA s.fr)).2,out.wg,out.wl,mh s.H.length s.loc.length 6 out.v⟩)
  | none=>none
   else some ({ s with fr:=pQ s.fr o.dst undef },⟨[],[],[],[],true⟩)
 else none
def y5 (P:Program) (X:Xt) (O:ig) (esc:Nat→Bool) (ops:List Oper):List Oper→St→Option (St×List Fp)
 | [],s=>some (s,[])
 | o::rest,s=>match yV P X O esc ops o s with
  | some (s1,f)=>match y5 P X O esc ops rest s1 with
   | some (s',fps)=>some (s',f::fps)
   | none=>none
  | none=>none
def zh (j:Nat) (acc:List Nat) (es:List Edge):Nat :=
 match es with
 | []=>0
 | e::es=>bif ae3 .any e then (2^e.on ||| (bif Nat.blt e.on j then acc.getD (j - 1 - e.on) 0 else 0)) ||| zh j acc es else zh j acc es
def vI:List Oper→Nat→List Nat→List Nat
 | [],_,acc=>acc
 | o::rest,j,acc=>uh (zh j acc o.after.toList) fun v=>vI rest (j+1) (v::acc)
def wE (ops:List Oper):List Nat:=(vI ops 0 []).reverse
def KQ (ops:Array Oper) (x:Oper×Nat) (y:Oper×Nat):Bool :=
 y.2.testBit x.2||(!(iZ x.1&&iZ y.1)&&x.1.apart ops y.1)
def FM (ops:Array Oper):Nat→List (Oper×Nat)→Bool
 | _,[]=>true
 | i,x::l=>l.all (fun y=>KQ ops (x.1,i) y)&&FM ops (i+1) l
def GQ (ops:List Oper):Bool :=
 (ops.zipIdx.all fun (o,i)=>o.after.toList.all fun e=>!Region.binds .any e||Nat.blt e.on i) &&
 (ops.all fun o=>match o.op with | .select _ _=>false | _=>true) &&
 FM ops.toArray 0 (ops.zip (wE ops))
def Cr (ops:List Oper):List (Nat×Nat) :=
 (ops.zip (wE ops)).zipIdx.flatMap fun (x,i)=>(ops.zip (wE ops)).zipIdx.filterMap fun (y,j) =>
  bif iZ x.1&&isLoad y.1&&!(x.2.testBit j)&&!(y.2.testBit i) then some (i,j) else none
def meets (a b:List Nat):Bool:=a.any fun x=>b.contains x
def Eo (conf:List (Nat×Nat)) (fps:List Fp):Bool :=
 conf.all fun (i,j)=>match fps[i]?,fps[j]? with
  | some x,some y=>!meets y.rg x.wg&&!meets y.rl x.wl&&(Nat.blt i j||y.bd)
  | _,_=>false
def Em (P:Program) (X:Xt) (O:ig) (esc:Nat→Bool) (ops:List Oper) (s:St):Option St :=
 bif GQ ops then
  match y5 P X O esc ops ops s with
  | some (s',fps)=>bif Eo (Cr ops) fps then some s' else none
  | none=>none
 else none
inductive Ex where
 | normal
 | exit (id:Nat)
 | ret
def aj6 (f:St→Option (Ex×St)):Nat→St→Option (Ex×St)
 | 0,_=>none
 | n+1,s=>match f s with
  | some (.normal,s')=>aj6 f n s'
  | r=>r
def exec (P:Program) (X:Xt) (O:ig) (esc:Nat→Bool) (fuel:Nat):Code→St→Option (Ex×St)
 | .skip,s=>some (.normal,s)
 | .region _ ops draw,s =>
  bif ajJ ops.toList then
   match (bif draw then Em P X O esc ops.toList s else qC P X O esc ops.toList ops.toList s) with
   | some s'=>some (.normal,s')
   | none=>none
  else none
 | .seq a b,s=>match exec P X O esc fuel a s with
  | some (.normal,s')=>exec P X O esc fuel b s'
  | r=>r
 | .cond c t e,s=>match nA s.fr c with
  | .bool b=>bif b then exec P X O esc fuel t s else exec P X O esc fuel e s
  | _=>none
 | .block id body,s=>match exec P X O esc fuel body s with
  | some (.exit i,s')=>bif i==id then some (.normal,s') else some (.exit i,s')
  | r=>r
 | .loop body,s=>aj6 (exec P X O esc fuel body) fuel s
 | .exit id,s=>some (.exit id,s)
 | .ret,s=>some (.ret,s)
 | _,_=>none
def qP (P:Program) (s:St):List ResultVar→Option (List Value)
 | []=>some []
 | .tmp t::rest=>match qP P s rest with
  | some vs=>bif u7 (s.fr.getD t undef) then none else some (s.fr.getD t undef::vs)
  | none=>none
 | .cell a t::rest=>match vQ P s.H s.loc t (s.fr.getD a undef),qP P s rest with
  | some v,some vs=>some (v::vs)
  | _,_=>none
def kW:List Value→Value
 | [v]=>v
 | vs=>.tuple ⟨vs⟩
def finish (H:Hp) (s:St) (v:Value):Option (Value×Hp×List Nat) :=
 bif kV v then (bif s.wg.isEmpty&&wW 4 v then some (v,H,[]) else some (v,s.H,s.wg)) else none
def Dp (P:Program) (X:Xt) (esc:FuncId→Nat→Bool) (fuel:Nat) (O:ig):ig:=fun f args H =>
 match P.funcs[f]? with
 | none=>none
 | some fn =>
  match fn.body with
  | none=>none
  | some c =>
   match exec P X O (esc f) fuel c ⟨args++ag6 (fn.ntmps - args.length) undef,H,X.wb,[]⟩ with
   | some (.normal,s)=>match qP P s fn.results.toList with
    | some vs=>finish H s (kW vs)
    | none=>none
   | some (.ret,s)=>match qP P s fn.results.toList with
    | some vs=>finish H s (kW vs)
    | none=>none
   | _=>none
def kQ (P:Program) (X:Xt) (esc:FuncId→Nat→Bool) (fuel:Nat) (S:ig):Nat→ig
 | 0=>S
 | n+1=>fun f args H=>match S f args H with
  | some r=>some r
  | none=>Dp P X esc fuel (kQ P X esc fuel S n) f args H
end Go.Sm
end
section
namespace Go.Sm
def Mp.cut (m:Mp) (h l:Nat):Mp:={ m with gb:=fun i=>if i<h then m.gb i else none,lb:=fun i=>if i<l then m.lb i else none }
variable {m:Mp} {h i g:Nat}
theorem oD {l:Nat}:(m.cut h l).gb i=some g↔i<h∧m.gb i=some g:=by
 simp only [Mp.cut]
 by_cases hi:i<h<;>simp [hi]
theorem ajK {l:Nat}:(m.cut h l).lb i=some g↔i<l∧m.lb i=some g:=by
 simp only [Mp.cut]
 by_cases hi:i<l<;>simp [hi]
theorem Xu (m:Mp) {h' l l':Nat} (h1:h≤h') (h2:l≤l'):Le (m.cut h l) (m.cut h' l') :=
 ⟨fun _ _ e=>oD.2 ⟨aC (oD.1 e).1 h1,(oD.1 e).2⟩,fun _ _ e=>ajK.2 ⟨aC (ajK.1 e).1 h2,(ajK.1 e).2⟩,fun _ _ _=>rfl,fun _ _ _=>rfl,fun _ _ _=>rfl,rfl,fun _ _ _=>rfl,rfl⟩
theorem Le.cut {m m':Mp} (hm:Le m m') (h l:Nat):Le (m.cut h l) (m'.cut h l) :=
 ⟨fun i g e=>oD.2 ⟨(oD.1 e).1,hm.gb i g (oD.1 e).2⟩,fun i g e=>ajK.2 ⟨(ajK.1 e).1,hm.lb i g (ajK.1 e).2⟩,
   fun i g e=>hm.loose i g (oD.1 e).2,fun i g e=>hm.eD i g (oD.1 e).2,fun i g e=>hm.tot i g (oD.1 e).2,hm.env,fun i g e=>hm.sh i g (ajK.1 e).2,hm.bs⟩
theorem zk {m:Mp} {h l:Nat}:∀(d:Nat) (v v':Value),mh h l d v=true→VR m v v'→VR (m.cut h l) v v'
 | 0,_,_,hb,_=>by simp [mh] at hb
 | d+1,v,v',hb,hv=>by
  cases hv with
  | bool b=>exact .bool b
  | int k n=>exact .int k n
  | float k n=>exact .float k n
  | string s=>exact .string s
  | tH=>exact .tH
  | pO e=>simp [mh] at hb; exact .pO (oD.2 ⟨hb,e⟩)
  | afr e ho=>simp [mh] at hb; exact .afr (ajK.2 ⟨hb,e⟩) ho
  | qD n c=>exact .qD n c
  | ow e=>simp [mh] at hb; exact .ow (oD.2 ⟨hb,e⟩)
  | qW e hl hc ht=>simp [mh] at hb; exact .qW (oD.2 ⟨hb,e⟩) hl hc ht
  | qV e hl=>simp [mh] at hb; exact .qV (oD.2 ⟨hb,e⟩) hl
  | xm e ho=>simp [mh] at hb; exact .xm (ajK.2 ⟨hb,e⟩) ho
  | uq=>exact .uq
  | nilFunc=>exact .nilFunc
  | nilIface=>exact .nilIface
  | jX hf hh=>exact .jX hf hh
  | jV hf hh=>exact .jV hf hh
  | hnd hf h2=>exact .hnd hf h2
  | func hf hl hh hl2 hh2 =>
   simp only [mh,hf,cond_false,aQ,bn] at hb
   exact .func hf hl (fun i a b ha hb'=>zk d a b (hb.1 a (aN ha)) (hh i a b ha hb')) hl2
    (fun i a b ha hb'=>zk d a b (hb.2 a (aN ha)) (hh2 i a b ha hb'))
  | iface hh=>simp only [mh] at hb; exact .iface (zk d _ _ hb hh)
  | agg hl hh =>
   simp only [mh,bn] at hb
   exact .agg hl (fun i a b ha hb'=>zk d a b (hb a (aN ha)) (hh i a b ha hb'))
  | tuple hl hh =>
   simp only [mh,bn] at hb
   exact .tuple hl (fun i a b ha hb'=>zk d a b (hb a (aN ha)) (hh i a b ha hb'))
inductive nk (ops:List Oper):Nat→Nat→Prop
 | edge {j:Nat} {o:Oper} {e:Edge} (ho:ops[j]?=some o) (he:e∈o.after) (hb:ae3 .any e=true):nk ops e.on j
 | step {i j:Nat} {o:Oper} {e:Edge} (ho:ops[j]?=some o) (he:e∈o.after) (hb:ae3 .any e=true) (h:nk ops i e.on):nk ops i j
def Closed (ops:List Oper) (L:Nat→Prop):Prop:=∀j o,ops[j]?=some o→L j→∀e∈o.after,ae3 .any e=true→L e.on
variable {ops:List Oper} {L:Nat→Prop} {j:Nat}
theorem nk.closed (hL:Closed ops L) (h:nk ops i j):L j→L i:=by
 induction h with
 | edge ho he hb=>intro hj; exact hL _ _ ho hj _ he hb
 | step ho he hb _ ih=>intro hj; exact ih (hL _ _ ho hj _ he hb)
theorem nk.ready (hL:Closed ops L) (h:nk ops i j) (hj:∀o,ops[j]?=some o→∀e∈o.after,ae3 .any e=true→L e.on):L i:=by
 cases h with
 | edge ho he hb=>exact hj _ ho _ he hb
 | step ho he hb h=>exact h.closed hL (hj _ ho _ he hb)
theorem Ic {j:Nat} {acc:List Nat} {i:Nat}:∀(es:List Edge),(zh j acc es).testBit i=true →
  ∃e∈es,ae3 .any e=true∧(e.on=i∨(e.on<j∧(acc.getD (j - 1 - e.on) 0).testBit i=true))
 | [],h=>by simp [zh] at h
 | e::es,h=>by
  unfold zh at h
  cases hb:ae3 .any e with
  | false =>
   rw [hb] at h
   simp only [cond_false] at h
   obtain ⟨e',h1,h2⟩:=Ic es h
   exact ⟨e',aT _ h1,h2⟩
  | true =>
   rw [hb] at h
   simp only [cond_true,Nat.testBit_or,Bool.or_eq_true] at h
   rcases h with (h | h) | h
   ·refine ⟨e,aA,hb,.inl ?_⟩
    simpa using (Nat.testBit_two_pow (n:=e.on) (m:=i)).symm.trans h
   ·refine ⟨e,aA,hb,.inr ?_⟩
    cases hlt:Nat.blt e.on j with
    | false=>rw [hlt] at h; simp at h
    | true=>rw [hlt] at h; exact ⟨by simpa using hlt,h⟩
   ·obtain ⟨e',h1,h2⟩:=Ic es h
    exact ⟨e',aT _ h1,h2⟩
theorem MP {ops:List Oper}:∀(l:List Oper) (j:Nat) (acc:List Nat),(∀k,l[k]?=ops[j+k]?)→acc.length=j →
  (∀i' i,i'<j→(acc.getD (j - 1 - i') 0).testBit i=true→nk ops i i') →
  ∀i' i,i'<j+l.length→((vI l j acc).getD (j+l.length - 1 - i') 0).testBit i=true→nk ops i i'
 | [],j,acc,_,_,hacc=>fun i' i hi h=>hacc i' i (by simpa using hi) (by simpa [vI] using h)
 | o::rest,j,acc,hl,hlen,hacc=>fun i' i hi h=>by
  have h0:ops[j]?=some o:=by simpa using (hl 0).symm
  simp only [vI,xZ,dB] at h hi
  refine MP rest (j+1) (zh j acc o.after.toList::acc) (fun k=>?_) (by simp [hlen]) ?_ i' i (by omega) ?_
  ·have:=hl (k+1)
   simp only [aeW] at this
   rw [this]; congr 1; omega
  ·intro i' i hi' hb
   by_cases hij:i'=j
   ·subst hij
    have e0:i'+1 - 1 - i'=0:=by omega
    rw [e0,bN] at hb
    obtain ⟨e,he,hbind,h1 | ⟨h1,h2⟩⟩:=Ic _ hb
    ·subst h1; exact .edge h0 (by simpa using he) hbind
    ·exact .step h0 (by simpa using he) hbind (hacc _ _ h1 h2)
   ·have e1:j+1 - 1 - i'=(j - 1 - i')+1:=by omega
    rw [e1,bZ] at hb
    exact hacc i' i (by omega) hb
  ·have e2:j+1+rest.length - 1 - i'=j+(rest.length+1) - 1 - i':=by omega
   rw [e2]; exact h
theorem Ib:∀(l:List Oper) (j:Nat) (acc:List Nat),(vI l j acc).length=l.length+acc.length
 | [],_,_=>by simp [vI]
 | o::rest,j,acc=>by simp [vI,xZ,Ib rest]; omega
theorem Ie {x:Nat} (h:(wE ops)[j]?=some x) (hb:x.testBit i=true):nk ops i j:=by
 have hlen:(vI ops 0 []).length=ops.length:=by rw [Ib]; simp
 have hj:j<ops.length:=by
  have:=(ai.1 h).1
  simpa [wE,hlen] using this
 refine MP ops 0 [] (fun k=>by simp) rfl (fun i' i hi=>by omega) j i (by simpa using hj) ?_
 unfold wE at h
 rw [List.getElem?_reverse (by omega)] at h
 have e:0+ops.length - 1 - j=(vI ops 0 []).length - 1 - j:=by omega
 rw [List.getD_eq_getElem?_getD,e,h]
 exact hb
theorem Ee (hj:j<ops.length):∃x,(wE ops)[j]?=some x:=by
 have hlen:(wE ops).length=ops.length:=by simp [wE,Ib]
 exact ⟨_,ah (by omega)⟩
theorem QK {A:Array Oper}:∀(l:List (Oper×Nat)) (k:Nat),FM A k l=true→∀(i j:Nat) (x y:Oper×Nat),i<j→l[i]?=some x→l[j]?=some y→KQ A (x.1,k+i) y=true
 | [],_,_,i,j,x,y,_,hi,_=>by simp at hi
 | z::l,k,h,i,j,x,y,hij,hi,hj=>by
  simp only [FM,aQ,bn] at h
  cases i with
  | zero =>
   simp at hi; subst hi
   cases j with
   | zero=>omega
   | succ j =>
    simp only [aeW] at hj
    exact h.1 y (aN hj)
  | succ i =>
   cases j with
   | zero=>omega
   | succ j =>
    simp only [aeW] at hi hj
    have:=QK l (k+1) h.2 i j x y (by omega) hi hj
    rw [show k+(i+1)=k+1+i by omega]
    exact this
structure Sta (ops:List Oper):Prop where
 back:∀j o,ops[j]?=some o→∀e∈o.after,ae3 .any e=true→e.on<j
 sel:∀(j:Nat) (o:Oper) cs b,ops[j]?=some o→o.op≠.select cs b
 pair:∀i j x y,i<j→ops[i]?=some x→ops[j]?=some y→nk ops i j∨(¬(iZ x=true∧iZ y=true)∧x.apart ops.toArray y=true)
theorem adx (h:GQ ops=true):Sta ops:=by
 simp only [GQ,aQ] at h
 obtain ⟨⟨h1,h2⟩,h3⟩:=h
 refine ⟨fun j o ho e he hb=>?_,fun j o cs b ho hs=>?_,fun i j x y hij hx hy=>?_⟩
 ·rw [bn] at h1
  have:=h1 (o,j) (by rw [List.mem_zipIdx_iff_getElem?]; simpa using ho)
  simp only [bn] at this
  have:=this e (by simpa using he)
  rw [hb] at this
  simpa using this
 ·rw [bn] at h2
  have:=h2 o (aN ho)
  rw [hs] at this
  simp at this
 ·have hji:j<ops.length:=(ai.1 hy).1
  obtain ⟨bi,hbi⟩:=Ee (ops:=ops) (j:=i) (by omega)
  obtain ⟨bj,hbj⟩:=Ee (ops:=ops) (j:=j) hji
  have:=QK _ 0 h3 i j (x,bi) (y,bj) hij (by rw [List.getElem?_zip_eq_some]; exact ⟨hx,hbi⟩) (by rw [List.getElem?_zip_eq_some]; exact ⟨hy,hbj⟩)
  simp only [KQ,Nat.zero_add,Bool.or_eq_true,aQ,Bool.not_eq_true'] at this
  rcases this with h | ⟨h,h'⟩
  ·exact .inl (Ie hbj h)
  ·refine .inr ⟨fun ⟨e1,e2⟩=>?_,h'⟩
   rw [e1,e2] at h; simp at h
theorem XA {fps:List Fp} (h:Eo (Cr ops) fps=true) {x y:Oper} (hx:ops[i]?=some x) (hy:ops[j]?=some y) (ex:iZ x=true) (ly:isLoad y=true)
  (n1:¬nk ops i j) (n2:¬nk ops j i) {p q:Fp} (hp:fps[i]?=some p) (hq:fps[j]?=some q):(∀b,b∈q.rg→b∉p.wg)∧(∀b,b∈q.rl→b∉p.wl)∧(j<i→q.bd=true):=by
 have hil:i<ops.length:=(ai.1 hx).1
 have hjl:j<ops.length:=(ai.1 hy).1
 obtain ⟨bi,hbi⟩:=Ee (ops:=ops) hil
 obtain ⟨bj,hbj⟩:=Ee (ops:=ops) hjl
 have m1:bi.testBit j=false:=by
  cases hb:bi.testBit j with
  | false=>rfl
  | true=>exact absurd (Ie hbi hb) n2
 have m2:bj.testBit i=false:=by
  cases hb:bj.testBit i with
  | false=>rfl
  | true=>exact absurd (Ie hbj hb) n1
 have hmem:(i,j)∈Cr ops:=by
  unfold Cr
  rw [List.mem_flatMap]
  refine ⟨((x,bi),i),?_,?_⟩
  ·rw [List.mem_zipIdx_iff_getElem?,List.getElem?_zip_eq_some]; exact ⟨hx,hbi⟩
  ·rw [List.mem_filterMap]
   refine ⟨((y,bj),j),?_,?_⟩
   ·rw [List.mem_zipIdx_iff_getElem?,List.getElem?_zip_eq_some]; exact ⟨hy,hbj⟩
   ·simp [ex,ly,m1,m2]
 unfold Eo at h
 rw [bn] at h
 have:=h _ hmem
 simp only [hp,hq,aQ,Bool.not_eq_true',Bool.or_eq_true] at this
 obtain ⟨⟨h1,h2⟩,h3⟩:=this
 unfold meets at h1 h2
 rw [List.any_eq_false] at h1 h2
 refine ⟨fun b hb hm=>h1 b hb (by simpa using hm),fun b hb hm=>h2 b hb (by simpa using hm),fun hji=>?_⟩
 rcases h3 with h3 | h3
 ·have:i<j:=by simpa using h3
  omega
 ·exact h3
end Go.Sm
end
section
namespace Go.Sm
section
variable {P:Program} {X:Xt} {O:ig} {esc:Nat→Bool} {ops:List Oper}
theorem UR:∀(l:List Oper) (s s':St) (fps:List Fp),y5 P X O esc ops l s=some (s',fps) →
  ∃(S:Nat→St) (F:Nat→Fp),S 0=s∧S l.length=s'∧(∀k,k<l.length→fps[k]?=some (F k))∧∀k o,l[k]?=some o→yV P X O esc ops o (S k)=some (S (k+1),F k)
 | [],s,s',fps,h=>by
  simp only [y5,ak,aP] at h
  exact ⟨fun _=>s,fun _=>⟨[],[],[],[],true⟩,rfl,h.1,fun k hk=>by simp at hk,fun k o ho=>by simp at ho⟩
 | o::rest,s,s',fps,h=>by
  unfold y5 at h
  split at h
  ·rename_i s1 f h1
   split at h
   ·rename_i s2 fps' h2
    simp only [ak,aP] at h
    obtain ⟨rfl,rfl⟩:=h
    obtain ⟨S,F,e0,e1,e2,e3⟩:=UR rest s1 _ _ h2
    refine ⟨fun k=>match k with | 0=>s | k+1=>S k,fun k=>match k with | 0=>f | k+1=>F k,rfl,by simpa using e1,fun k hk=>?_,fun k o' ho=>?_⟩
    ·cases k with
     | zero=>rfl
     | succ k=>simpa using e2 k (by simpa using hk)
    ·cases k with
     | zero=>simp at ho; subst ho; simp only [e0]; exact h1
     | succ k=>exact e3 k o' (by simpa using ho)
   ·cases h
  ·cases h
theorem QV (fr:List Value) (d:Option Tmp) (v:Value):(pQ fr d v).length=fr.length:=by cases d<;>simp [pQ]
variable {t:Nat}
theorem QW (fr:List Value) {d:Option Tmp} (v:Value) (h:d≠some t):(pQ fr d v)[t]?=fr[t]?:=by
 cases d with
 | none=>rfl
 | some d =>
  simp only [pQ]
  rw [bz]
  intro e; subst e; exact h rfl
structure SP (o:Oper) (s s1:St) (f:Fp):Prop where
 wY:ik s.H s.loc s1.H s1.loc f.wg f.wl
 wg:s1.wg=s.wg++f.wg
 len:s1.fr.length=s.fr.length
 fr:∀t,o.dst≠some t→s1.fr[t]?=s.fr[t]?
variable {o:Oper} {s s1:St}
theorem UD (hO:jc O) {f:Fp} (h:yV P X O esc ops o s=some (s1,f)):SP o s s1 f:=by
 unfold yV at h
 rcases je h with h | h
 case inr=>cases h
 rcases je h with h | h
 ·split at h
  ·rename_i out hout
   simp only [ak,aP] at h
   obtain ⟨rfl,rfl⟩:=h
   exact ⟨OC hO hout,rfl,QV _ _ _,fun t ht=>QW _ _ ht⟩
  ·cases h
 ·simp only [ak,aP] at h
  obtain ⟨rfl,rfl⟩:=h
  exact ⟨ik.refl _ _,by simp,QV _ _ _,fun t ht=>QW _ _ ht⟩
theorem ady (hne:iZ o=false) {f:Fp} (h:yV P X O esc ops o s=some (s1,f)):f.wg=[]∧f.wl=[]:=by
 unfold yV at h
 rcases je h with h | h
 case inr=>cases h
 rcases je h with h | h
 ·split at h
  ·rename_i out hout
   simp only [ak,aP] at h
   obtain ⟨rfl,rfl⟩:=h
   unfold iZ at hne
   replace hout:=(wL hout).2
   unfold xS at hout
   simp only [Ez,nC] at hout
   split at hout
   ·split at hout
    ·injection hout with hout; subst hout; exact ⟨rfl,rfl⟩
    ·cases hout
   ·split at hout
    ·split at hout
     ·injection hout with hout; subst hout; exact ⟨rfl,rfl⟩
     ·cases hout
    ·cases hout
   ·split at hout
    ·rcases je hout with hout | hout
     ·rcases je hout with hout | hout
      ·injection hout with hout; subst hout; exact ⟨rfl,rfl⟩
      ·cases hout
     ·injection hout with hout; subst hout; exact ⟨rfl,rfl⟩
    ·cases hout
   ·rename_i hk; rw [hk] at hne; cases hne
  ·cases h
 ·simp only [ak,aP] at h
  obtain ⟨rfl,rfl⟩:=h
  exact ⟨rfl,rfl⟩
structure Run (ops:List Oper) (S:Nat→St) (F:Nat→Fp):Prop where
 sp:∀k o,ops[k]?=some o→SP o (S k) (S (k+1)) (F k)
 quiet:∀k o,ops[k]?=some o→iZ o=false→(F k).wg=[]∧(F k).wl=[]
variable {S:Nat→St} {F:Nat→Fp}
theorem Run.wY (h:Run ops S F) {k:Nat} (hk:k<ops.length):ik (S k).H (S k).loc (S (k+1)).H (S (k+1)).loc (F k).wg (F k).wl :=
 (h.sp k _ (ah hk)).wY
theorem Run.mono (h:Run ops S F) {j:Nat}:∀{k:Nat},j≤k→k≤ops.length→(S j).H.length≤(S k).H.length∧(S j).loc.length≤(S k).loc.length
 | 0,hjk,_=>by
   have:j=0:=by omega
   subst this; exact ⟨au _,au _⟩
 | k+1,hjk,hk=>by
  by_cases e:j=k+1
  ·subst e; exact ⟨au _,au _⟩
  ·have h1:=h.mono (j:=j) (k:=k) (by omega) (by omega)
   have h2:=h.wY (k:=k) (by omega)
   exact ⟨aZ h1.1 h2.len,aZ h1.2 h2.lH⟩
variable {j k:Nat}
theorem Run.qw (h:Run ops S F) (hjk:j≤k) (hk:k≤ops.length):(S j).H.length≤(S k).H.length:=(h.mono hjk hk).1
theorem Run.qx (h:Run ops S F) (hjk:j≤k) (hk:k≤ops.length):(S j).loc.length≤(S k).loc.length:=(h.mono hjk hk).2
theorem Run.rF (h:Run ops S F) {j i:Nat} (hi:i<(S j).H.length):∀{k:Nat},j≤k→k≤ops.length→(∀e,j≤e→e<k→i∉(F e).wg)→(S k).H[i]?=(S j).H[i]?
 | 0,hjk,_,_=>by
   have:j=0:=by omega
   subst this; rfl
 | k+1,hjk,hk,hn=>by
  by_cases e:j=k+1
  ·subst e; rfl
  ·have h1:=h.rF hi (k:=k) (by omega) (by omega) (fun e he1 he2=>hn e he1 (by omega))
   have hlt:i<(S k).H.length:=aC hi (h.qw (by omega) (by omega))
   exact ((h.wY (by omega)).mod i hlt (hn k (by omega) (by omega))).trans h1
theorem Run.CU (h:Run ops S F) {j i:Nat} (hi:i<(S j).loc.length):∀{k:Nat},j≤k→k≤ops.length→(∀e,j≤e→e<k→i∉(F e).wl)→(S k).loc[i]?=(S j).loc[i]?
 | 0,hjk,_,_=>by
   have:j=0:=by omega
   subst this; rfl
 | k+1,hjk,hk,hn=>by
  by_cases e:j=k+1
  ·subst e; rfl
  ·have h1:=h.CU hi (k:=k) (by omega) (by omega) (fun e he1 he2=>hn e he1 (by omega))
   have hlt:i<(S k).loc.length:=aC hi (h.qx (by omega) (by omega))
   exact ((h.wY (by omega)).nT i hlt (hn k (by omega) (by omega))).trans h1
theorem Run.kp (h:Run ops S F) {j i:Nat} {b:eG} (hb:(S j).H[i]?=some b):∀{k:Nat},j≤k→k≤ops.length→∃b',(S k).H[i]?=some b'∧b'.eD=b.eD∧b'.loose=b.loose
 | 0,hjk,_=>by
   have:j=0:=by omega
   subst this; exact ⟨b,hb,rfl,rfl⟩
 | k+1,hjk,hk=>by
  by_cases e:j=k+1
  ·subst e; exact ⟨b,hb,rfl,rfl⟩
  ·obtain ⟨b1,e1,e2,e3⟩:=h.kp hb (k:=k) (by omega) (by omega)
   obtain ⟨b2,f1,f2,f3⟩:=(h.wY (k:=k) (by omega)).kp i b1 e1
   exact ⟨b2,f1,f2.trans e2,f3.trans e3⟩
variable {i:Nat} {b b':eG}
theorem Run.same (h:Run ops S F) (hj:j≤ops.length) (hk:k≤ops.length) (hb:(S j).H[i]?=some b) (hb':(S k).H[i]?=some b'):b'.eD=b.eD∧b'.loose=b.loose:=by
 rcases Nat.le_total j k with hjk | hjk
 ·obtain ⟨b2,f1,f2,f3⟩:=h.kp hb hjk hk
  rw [hb'] at f1; injection f1 with f1; subst f1; exact ⟨f2,f3⟩
 ·obtain ⟨b2,f1,f2,f3⟩:=h.kp hb' hjk hj
  rw [hb] at f1; injection f1 with f1; subst f1; exact ⟨f2.symm,f3.symm⟩
theorem Run.lu (h:Run ops S F):∀{k:Nat},k≤ops.length→(S k).fr.length=(S 0).fr.length
 | 0,_=>rfl
 | k+1,hk=>((h.sp k _ (ah (by omega))).len).trans (h.lu (by omega))
theorem Run.J6 (h:Run ops S F) {j t:Nat}:∀{k:Nat},j≤k→k≤ops.length→(∀c o,j≤c→c<k→ops[c]?=some o→o.dst≠some t)→(S k).fr[t]?=(S j).fr[t]?
 | 0,hjk,_,_=>by
   have:j=0:=by omega
   subst this; rfl
 | k+1,hjk,hk,hn=>by
  by_cases e:j=k+1
  ·subst e; rfl
  ·have h1:=h.J6 (j:=j) (t:=t) (k:=k) (by omega) (by omega) (fun c o hc1 hc2 ho=>hn c o hc1 (by omega) ho)
   exact ((h.sp k _ (ah (by omega))).fr t (hn k _ (by omega) (by omega) (ah (by omega)))).trans h1
variable {m1 m2:Mp} {H loc H' loc':Hp} {w w':World} {wg:List Nat}
theorem xW {m0:Mp} {H0:Hp} {w0:World} (h:Ext m0 H0 [] w0 m1 H loc w wg []) (hle:Le m1 m2)
  (hH:∀i,i<H.length→H'[i]?=H[i]?) (hHl:H.length≤H'.length) (hL:∀i,i<loc.length→loc'[i]?=loc[i]?) (hLl:loc.length≤loc'.length)
  (hw:∀g,g<w.heap.size→w'.heap[g]?=w.heap[g]?) (hs:w.heap.size≤w'.heap.size) (h1:w'.os=w.os) (h2:w'.tape=w.tape) (h3:w'.output=w.output)
  (hg:∀i g,m2.gb i=some g→m1.gb i=some g∨(H0.length≤i∧i<H'.length∧g<w'.heap.size∧w0.heap.size≤g∧(∃b,H'[i]?=some b∧GR m2 i g b w')∧(∀j,m2.gb j=some g→j=i)∧(∀j,m2.lb j≠some g)))
  (hl:∀i g,m2.lb i=some g→m1.lb i=some g∨(i<loc'.length∧g<w'.heap.size∧w0.heap.size≤g∧(∃b,loc'[i]?=some b∧LR m2 i g b w'∧b.loose=false)∧(∀j,m2.lb j=some g→j=i)∧(∀j,m2.gb j≠some g))) :
  Ext m0 H0 [] w0 m2 H' loc' w' wg [] where
 le:=h.le.trans hle
 rel:=by
  refine ⟨fun i g e=>?_,fun i g e=>?_,fun i j g bi bj e e' hbi hbj li lj=>?_,fun i j g bi bj e e' hbi hbj=>?_,fun i j g e e'=>?_,fun i g b e hb hlo=>?_,fun g c hc=>?_,fun c hc=>hle.gb 0 c (h.rel.f0 c (by rw [←hle.env]; exact hc))⟩
  case refine_7 =>
   have hc1:m1.env.fz g=some c:=by rw [←hle.env]; exact hc
   have hlt:=h.sZ g c (by rw [←h.le.env]; exact hc1)
   obtain ⟨⟨f1,f2⟩,f3⟩:=h.rel.fz g c hc1
   refine ⟨⟨(hw g (aB.1 f1).1).trans f1,fun i e=>?_⟩,fun i b e hb=>?_⟩
   ·rcases hg i g e with e1 | ⟨_,_,_,e1,_⟩
    ·exact f2 i e1
    ·omega
   ·rcases hl i g e with e1 | ⟨_,_,e1,_⟩
    ·obtain ⟨_,b0,q1,_⟩:=h.rel.iN i g e1
     have:=(hL i (ai.1 q1).1).trans q1
     rw [hb] at this; injection this with this; subst this
     exact f3 i b e1 q1
    ·omega
  ·rcases hg i g e with e1 | ⟨_,_,e1,_,e2,_⟩
   ·obtain ⟨f1,b,f2,f3⟩:=h.rel.ic i g e1
    exact ⟨aC f1 hs,b,(hH i (ai.1 f2).1).trans f2,f3.mono hle e1 (fun _=>hw g f1)⟩
   ·exact ⟨e1,e2⟩
  ·rcases hl i g e with e1 | ⟨_,e1,_,e2,_⟩
   ·obtain ⟨f1,b,f2,f3⟩:=h.rel.iN i g e1
    exact ⟨aC f1 hs,b,(hL i (ai.1 f2).1).trans f2,f3.mono hle e1 (hw g f1)⟩
   ·obtain ⟨b,q1,q2,_⟩:=e2
    exact ⟨e1,b,q1,q2⟩
  ·rcases hg i g e with e1 | ⟨_,_,_,_,_,e2,_⟩
   ·rcases hg j g e' with e1' | ⟨_,_,_,_,_,e2',_⟩
    ·obtain ⟨_,b,f2,_⟩:=h.rel.ic i g e1
     obtain ⟨_,b',f2',_⟩:=h.rel.ic j g e1'
     have g1:=(hH i (ai.1 f2).1).trans f2
     have g2:=(hH j (ai.1 f2').1).trans f2'
     rw [hbi] at g1; rw [hbj] at g2
     injection g1 with g1; injection g2 with g2
     subst g1; subst g2
     exact h.rel.ko i j g _ _ e1 e1' f2 f2' li lj
    ·exact e2' i e
   ·exact (e2 j e').symm
  ·rcases hl i g e with e1 | ⟨_,_,_,_,e2,_⟩
   ·rcases hl j g e' with e1' | ⟨_,_,_,_,e2',_⟩
    ·obtain ⟨_,b,f2,_⟩:=h.rel.iN i g e1
     obtain ⟨_,b',f2',_⟩:=h.rel.iN j g e1'
     have g1:=(hL i (ai.1 f2).1).trans f2
     have g2:=(hL j (ai.1 f2').1).trans f2'
     rw [hbi] at g1; rw [hbj] at g2
     injection g1 with g1; injection g2 with g2
     subst g1; subst g2
     rw [hle.sh i g e1,hle.sh j g e1']
     exact h.rel.pJ i j g _ _ e1 e1' f2 f2'
    ·exact .inl (e2' i e)
   ·exact .inl (e2 j e').symm
  ·rcases hg i g e with e1 | ⟨_,_,_,_,_,_,e2⟩
   ·rcases hl j g e' with e1' | ⟨_,_,_,_,_,e2'⟩
    ·exact h.rel.lh i j g e1 e1'
    ·exact e2' i e
   ·exact e2 j e'
  ·rcases hl i g e with e1 | ⟨_,_,_,⟨b',q1,_,q2⟩,_⟩
   ·obtain ⟨f1,b0,f2,_⟩:=h.rel.iN i g e1
    have g1:=(hL i (ai.1 f2).1).trans f2
    rw [hb] at g1
    injection g1 with g1; subst g1
    exact (h.rel.uF i g b e1 f2 hlo).mono hle.bs (hw g f1) (fun j bj p1 p2=>⟨hle.lb j g p1,hle.sh j g p1,bj,(hL j (ai.1 p2).1).trans p2,rfl,rfl⟩)
   ·rw [hb] at q1; injection q1 with q1; subst q1
    rw [q2] at hlo; cases hlo
 img:=fun i g e=>by
  rcases hg i g e with e1 | ⟨_,_,_,e1,_⟩
  ·exact h.img i g e1
  ·exact .inr e1
 oG:=fun i g e=>by
  rcases hl i g e with e1 | ⟨_,_,e1,_⟩
  ·exact h.oG i g e1
  ·exact .inr e1
 dom:=fun i g e=>by
  rcases hg i g e with e1 | ⟨e1,e2,_⟩
  ·rcases h.dom i g e1 with f | ⟨f1,f2⟩
   ·exact .inl f
   ·exact .inr ⟨f1,aC f2 hHl⟩
  ·exact .inr ⟨e1,e2⟩
 lN:=fun i g e=>by
  rcases hl i g e with e1 | ⟨e1,_⟩
  ·rcases h.lN i g e1 with f | ⟨f1,f2⟩
   ·exact .inl f
   ·exact .inr ⟨f1,aC f2 hLl⟩
  ·exact .inr ⟨by simp,e1⟩
 os:=h1.trans h.os
 tape:=h2.trans h.tape
 output:=h3.trans h.output
 size:=aZ h.size hs
 frame:=fun g hg' hn hn2=>(hw g (aC hg' h.size)).trans (h.frame g hg' hn hn2)
 un:=fun i hi hn=>(hH i (aC hi h.len)).trans (h.un i hi hn)
 vw:=fun i hi=>by simp at hi
 mod:=fun i hi hn=>(hH i (aC hi h.len)).trans (h.mod i hi hn)
 nT:=fun i hi=>by simp at hi
 len:=aZ h.len hHl
 lH:=by simp
 kp:=fun i b e=>by
  obtain ⟨b',e1,e2,e3⟩:=h.kp i b e
  exact ⟨b',(hH i (ai.1 e1).1).trans e1,e2,e3⟩
 cmod:=fun i g b e hb hlive hn=>by
  have hg':g<w.heap.size:=(h.rel.ic i g (h.le.gb i g e)).1
  exact (hw g hg').trans (h.cmod i g b e hb hlive hn)
 sZ:=h.sZ
end
end Go.Sm
end
section
namespace Go.Sm
def cutAt (m:Mp) (S:Nat→St) (k:Nat):Mp:=m.cut (S k).H.length (S k).loc.length
structure Inv (ops:List Oper) (S:Nat→St) (m0:Mp) (H0:Hp) (w0:World) (L:Nat→Prop) (pe:Nat) (m:Mp) (a:Act) (w:World):Prop where
 qz:pe≤ops.length
 pG:∀e o,ops[e]?=some o→iZ o=true→(L e↔e<pe)
 ext:Ext m0 H0 [] w0 (cutAt m S pe) (S pe).H (S pe).loc w (S pe).wg []
 dom:∀i g,m.gb i=some g→i<(S 0).H.length∨∃c,c<ops.length∧L c∧(S c).H.length≤i∧i<(S (c+1)).H.length
 lN:∀i g,m.lb i=some g→i<(S 0).loc.length∨∃c,c<ops.length∧L c∧(S c).loc.length≤i∧i<(S (c+1)).loc.length
 wM:∀c i g,pe≤c→c<ops.length→(S c).H.length≤i→i<(S (c+1)).H.length→m.gb i=some g →
  g<w.heap.size∧w0.heap.size≤g∧(∃b,(S (c+1)).H[i]?=some b∧GR (cutAt m S (c+1)) i g b w)∧(∀j,m.gb j=some g→j=i)∧(∀j,m.lb j≠some g)
 yf:∀c i g,pe≤c→c<ops.length→(S c).loc.length≤i→i<(S (c+1)).loc.length→m.lb i=some g →
  g<w.heap.size∧w0.heap.size≤g∧(∃b,(S (c+1)).loc[i]?=some b∧LR (cutAt m S (c+1)) i g b w∧b.loose=false)∧(∀j,m.lb j=some g→j=i)∧(∀j,m.gb j≠some g)
 late:∀c,c<pe→¬L c→∀i,(S c).H.length≤i→i<(S (c+1)).H.length→(S pe).H[i]?=(S (c+1)).H[i]?
 aj5:∀c,c<pe→¬L c→∀i,(S c).loc.length≤i→i<(S (c+1)).loc.length→(S pe).loc[i]?=(S (c+1)).loc[i]?
 fr:∀(t:Nat) v',a.tmps[t]?=some v'→∃j v,j≤ops.length∧(S j).fr[t]?=some v∧(u7 v=true∨VR (cutAt m S j) v v')∧(∀c o,ops[c]?=some o→L c→o.dst=some t→c<j) ∧
  (j=0∨∃c o,j=c+1∧ops[c]?=some o∧L c∧o.dst=some t)
 lu:a.tmps.size=(S 0).fr.length
 df:a.defers=[]
section
variable {ops:List Oper} {S:Nat→St} {F:Nat→Fp} {m0:Mp} {H0:Hp} {w0:World} {L:Nat→Prop} {pe:Nat} {m:Mp} {a:Act} {w:World}
variable {k i g:Nat}
theorem jk:(cutAt m S k).gb i=some g↔i<(S k).H.length∧m.gb i=some g:=oD
theorem jm:(cutAt m S k).lb i=some g↔i<(S k).loc.length∧m.lb i=some g:=ajK
variable {j:Nat}
theorem Run.ug (hr:Run ops S F) (hjk:j≤k) (hk:k≤ops.length):Le (cutAt m S j) (cutAt m S k):=Xu m (hr.qw hjk hk) (hr.qx hjk hk)
theorem Le.cutAt {m':Mp} (h:Le m m') (k:Nat):Le (cutAt m S k) (cutAt m' S k):=h.cut _ _
variable {c d:Nat}
theorem Run.PH (hr:Run ops S F) (hc:c<ops.length) (hd:d<ops.length) (c1:(S c).H.length≤i) (c2:i<(S (c+1)).H.length) (d1:(S d).H.length≤i) (d2:i<(S (d+1)).H.length):c=d:=by
 rcases Nat.lt_trichotomy c d with h | h | h
 ·have:=hr.qw (j:=c+1) (k:=d) (by omega) (by omega); omega
 ·exact h
 ·have:=hr.qw (j:=d+1) (k:=c) (by omega) (by omega); omega
theorem Run.PI (hr:Run ops S F) (hc:c<ops.length) (hd:d<ops.length) (c1:(S c).loc.length≤i) (c2:i<(S (c+1)).loc.length) (d1:(S d).loc.length≤i) (d2:i<(S (d+1)).loc.length):c=d:=by
 rcases Nat.lt_trichotomy c d with h | h | h
 ·have:=hr.qx (j:=c+1) (k:=d) (by omega) (by omega); omega
 ·exact h
 ·have:=hr.qx (j:=d+1) (k:=c) (by omega) (by omega); omega
theorem Inv.Kt (hr:Run ops S F) (hI:Inv ops S m0 H0 w0 L pe m a w) (hk:k<ops.length) (hnot:¬L k) (h1:(S k).H.length≤i) (h2:i<(S (k+1)).H.length):m.gb i=none:=by
 cases e:m.gb i with
 | none=>rfl
 | some g =>
  rcases hI.dom i g e with h | ⟨c,hc,hl,c1,c2⟩
  ·have:=hr.qw (j:=0) (k:=k) (by omega) (by omega); omega
  ·have:=hr.PH hc hk c1 c2 h1 h2
   subst this; exact absurd hl hnot
theorem Inv.Ku (hr:Run ops S F) (hI:Inv ops S m0 H0 w0 L pe m a w) (hk:k<ops.length) (hnot:¬L k) (h1:(S k).loc.length≤i) (h2:i<(S (k+1)).loc.length):m.lb i=none:=by
 cases e:m.lb i with
 | none=>rfl
 | some g =>
  rcases hI.lN i g e with h | ⟨c,hc,hl,c1,c2⟩
  ·have:=hr.qx (j:=0) (k:=k) (by omega) (by omega); omega
  ·have:=hr.PI hc hk c1 c2 h1 h2
   subst this; exact absurd hl hnot
theorem Inv.Mm (hr:Run ops S F) (hI:Inv ops S m0 H0 w0 L pe m a w) (e:m.gb i=some g):i<(S pe).H.length∨∃c,pe≤c∧c<ops.length∧(S c).H.length≤i∧i<(S (c+1)).H.length:=by
 rcases hI.dom i g e with h | ⟨c,hc,hl,c1,c2⟩
 ·exact .inl (aC h (hr.qw (by omega) hI.qz))
 ·by_cases h:pe≤c
  ·exact .inr ⟨c,h,hc,c1,c2⟩
  ·exact .inl (aC c2 (hr.qw (by omega) hI.qz))
theorem Inv.Vl (hr:Run ops S F) (hI:Inv ops S m0 H0 w0 L pe m a w) (e:m.lb i=some g):i<(S pe).loc.length∨∃c,pe≤c∧c<ops.length∧(S c).loc.length≤i∧i<(S (c+1)).loc.length:=by
 rcases hI.lN i g e with h | ⟨c,hc,hl,c1,c2⟩
 ·exact .inl (aC h (hr.qx (by omega) hI.qz))
 ·by_cases h:pe≤c
  ·exact .inr ⟨c,h,hc,c1,c2⟩
  ·exact .inl (aC c2 (hr.qx (by omega) hI.qz))
theorem Inv.PE (hr:Run ops S F) (hI:Inv ops S m0 H0 w0 L pe m a w) (e:m.gb i=some g):g<w.heap.size:=by
 rcases hI.Mm hr e with h | ⟨c,h1,h2,h3,h4⟩
 ·exact (hI.ext.rel.ic i g (jk.2 ⟨h,e⟩)).1
 ·exact (hI.wM c i g h1 h2 h3 h4 e).1
theorem Inv.PG (hr:Run ops S F) (hI:Inv ops S m0 H0 w0 L pe m a w) (e:m.lb i=some g):g<w.heap.size:=by
 rcases hI.Vl hr e with h | ⟨c,h1,h2,h3,h4⟩
 ·exact (hI.ext.rel.iN i g (jm.2 ⟨h,e⟩)).1
 ·exact (hI.yf c i g h1 h2 h3 h4 e).1
theorem Inv.eD (hr:Run ops S F) (hI:Inv ops S m0 H0 w0 L pe m a w) (hk:k≤ops.length):Ag (cutAt m S k) (S k).H:=by
 intro i g b hi hb
 have e:=(jk.1 hi).2
 rcases hI.Mm hr e with h | ⟨c,h1,h2,h3,h4⟩
 ·obtain ⟨_,b0,hb0,hG⟩:=hI.ext.rel.ic i g (jk.2 ⟨h,e⟩)
  have:=hr.same hI.qz hk hb0 hb
  exact ⟨hG.ez.trans this.1.symm,hG.lo.trans this.2.symm⟩
 ·obtain ⟨_,_,⟨b0,hb0,hG⟩,_⟩:=hI.wM c i g h1 h2 h3 h4 e
  have:=hr.same (by omega) hk hb0 hb
  exact ⟨hG.ez.trans this.1.symm,hG.lo.trans this.2.symm⟩
variable {o:Oper}
theorem Inv.adq (hr:Run ops S F) (hI:Inv ops S m0 H0 w0 L pe m a w) (ho:ops[pe]?=some o) (hq:iZ o=false):Inv ops S m0 H0 w0 L (pe+1) m a w:=by
 have hlt:pe<ops.length:=(ai.1 ho).1
 have hp:=hr.wY hlt
 have hqu:=hr.quiet pe o ho hq
 rw [hqu.1,hqu.2] at hp
 have hwg:(S (pe+1)).wg=(S pe).wg:=by have:=(hr.sp pe o ho).wg; rw [hqu.1] at this; simpa using this
 refine ⟨hlt,fun e o' ho' he=>?_,?_,hI.dom,hI.lN,fun c i g h1=>hI.wM c i g (by omega),fun c i g h1=>hI.yf c i g (by omega),fun c hc hn i h1 h2=>?_,fun c hc hn i h1 h2=>?_,hI.fr,hI.lu,hI.df⟩
 ·rw [hI.pG e o' ho' he]
  constructor
  ·intro h; omega
  ·intro h
   by_cases he':e=pe
   ·subst he'; rw [ho] at ho'; injection ho' with ho'; subst ho'; rw [hq] at he; cases he
   ·omega
 ·rw [hwg]
  refine xW hI.ext (hr.ug (by omega) hlt) (fun i hi=>hp.mod i hi (by simp)) hp.len (fun i hi=>hp.nT i hi (by simp)) hp.lH (fun _ _=>rfl) (au _) rfl rfl rfl (fun i g e=>?_) (fun i g e=>?_)
  ·obtain ⟨e1,e2⟩:=jk.1 e
   by_cases hi:i<(S pe).H.length
   ·exact .inl (jk.2 ⟨hi,e2⟩)
   ·obtain ⟨f1,f2,f3,f4,f5⟩:=hI.wM pe i g (au _) hlt (by omega) e1 e2
    exact .inr ⟨aZ hI.ext.len (by omega),e1,f1,f2,f3,fun j ej=>f4 j (jk.1 ej).2,fun j ej=>f5 j (jm.1 ej).2⟩
  ·obtain ⟨e1,e2⟩:=jm.1 e
   by_cases hi:i<(S pe).loc.length
   ·exact .inl (jm.2 ⟨hi,e2⟩)
   ·obtain ⟨f1,f2,f3,f4,f5⟩:=hI.yf pe i g (au _) hlt (by omega) e1 e2
    exact .inr ⟨e1,f1,f2,f3,fun j ej=>f4 j (jm.1 ej).2,fun j ej=>f5 j (jk.1 ej).2⟩
 ·by_cases hcp:c=pe
  ·subst hcp; rfl
  ·have hi:i<(S pe).H.length:=aC h2 (hr.qw (by omega) hI.qz)
   exact (hp.mod i hi (by simp)).trans (hI.late c (by omega) hn i h1 h2)
 ·by_cases hcp:c=pe
  ·subst hcp; rfl
  ·have hi:i<(S pe).loc.length:=aC h2 (hr.qx (by omega) hI.qz)
   exact (hp.nT i hi (by simp)).trans (hI.aj5 c (by omega) hn i h1 h2)
theorem Inv.shift (hr:Run ops S F):∀(d:Nat) {pe:Nat},Inv ops S m0 H0 w0 L pe m a w→pe+d≤ops.length→(∀e o,pe≤e→e<pe+d→ops[e]?=some o→iZ o=false)→Inv ops S m0 H0 w0 L (pe+d) m a w
 | 0,_,hI,_,_=>hI
 | d+1,pe,hI,hd,hn=>by
  have h1:=hI.adq hr (ah (show pe<ops.length by omega)) (hn pe _ (au _) (by omega) (ah (by omega)))
  have:=Inv.shift hr d h1 (by omega) (fun e o h1 h2=>hn e o (by omega) (by omega))
  rw [show pe+(d+1)=pe+1+d by omega]
  exact this
variable {t:Nat} {v':Value}
theorem Inv.read (hr:Run ops S F) (hs:Sta ops) (hI:Inv ops S m0 H0 w0 L pe m a w) (hcl:Closed ops L) (ho:ops[k]?=some o) (hnot:¬L k)
  (hrd:∀e∈o.after,ae3 .any e=true→L e.on) (ht:t∈o.looksAt ops.toArray) (hv:a.tmps[t]?=some v') :
  ∃v,(S k).fr[t]?=some v∧(u7 v=true∨VR (cutAt m S k) v v'):=by
 have hk:k<ops.length:=(ai.1 ho).1
 have hrd':∀o',ops[k]?=some o'→∀e∈o'.after,ae3 .any e=true→L e.on:=fun o' ho'=>by
  rw [ho] at ho'; injection ho' with ho'; subst ho'; exact hrd
 obtain ⟨j,v,hj,e1,e2,e3,e4⟩:=hI.fr t v' hv
 by_cases hjk:j≤k
 ·refine ⟨v,?_,e2.imp id (fun e2=>e2.mono (hr.ug hjk (by omega)))⟩
  rw [hr.J6 (j:=j) hjk (by omega) (fun c o' hc1 hc2 ho' hd=>?_)]
  ·exact e1
  ·rcases hs.pair c k o' o hc2 ho' ho with hb | ⟨_,hap⟩
   ·have:=e3 c o' ho' (hb.ready hcl hrd') hd; omega
   ·exact (Oper.apart_spec hap).1 t hd ht
 ·rcases e4 with rfl | ⟨c,o',rfl,ho',hLc,hd⟩
  ·omega
  ·have hck:c≠k:=fun e=>hnot (e▸hLc)
   rcases hs.pair k c o o' (by omega) ho ho' with hb | ⟨_,hap⟩
   ·exact absurd (hb.closed hcl hLc) hnot
   ·exact absurd ht ((Oper.apart_spec hap).2.2 t hd)
theorem Inv.acG (hr:Run ops S F) (hs:Sta ops) (hI:Inv ops S m0 H0 w0 L pe m a w) (hcl:Closed ops L) (ho:ops[k]?=some o) (hnot:¬L k)
  (hrd:∀e∈o.after,ae3 .any e=true→L e.on) (ht:t∈o.looksAt ops.toArray):u7 ((S k).fr.getD t undef)=true∨VR (cutAt m S k) ((S k).fr.getD t undef) (a.tmps.getD t undef):=by
 have hk:k<ops.length:=(ai.1 ho).1
 cases hv:a.tmps[t]? with
 | some v' =>
  obtain ⟨v,h1,h2⟩:=hI.read hr hs hcl ho hnot hrd ht hv
  rw [List.getD_eq_getElem?_getD,h1,bI,hv]
  exact h2
 | none =>
  have h1:a.tmps.size≤t:=by simpa using hv
  have h2:(S k).fr[t]?=none:=by
   rw [bQ]
   rw [hr.lu (by omega),←hI.lu]; exact h1
  rw [List.getD_eq_getElem?_getD,h2,bI,hv]
  exact .inr (VR.undef _)
theorem Inv.opR (hr:Run ops S F) (hs:Sta ops) (hc:ajJ ops=true) (hI:Inv ops S m0 H0 w0 L pe m a w) (hcl:Closed ops L) (ho:ops[k]?=some o) (hnot:¬L k)
  (hrd:∀e∈o.after,ae3 .any e=true→L e.on) (hlv:Db o (nA (S k).fr)=true):sH (cutAt m S k) (nA (S k).fr) a.eval o:=by
 intro x hx
 have hx':Bi x=true:=by
  unfold ajJ at hc
  rw [bn] at hc
  have:=hc o (aN ho)
  rw [bn] at this
  exact this x (by simpa using hx)
 cases x with
 | tmp t =>
  have ht:t∈o.looksAt ops.toArray:=aeY _ (List.mem_filterMap.2 ⟨.tmp t,by simpa using hx,rfl⟩)
  have hd:=bn.1 hlv (.tmp t) (by simpa using hx)
  rcases hI.acG hr hs hcl ho hnot hrd ht with h | h
  ·simp only [nA,h] at hd; cases hd
  ·exact h
 | const v=>exact rG _ 4 v hx'
 | global g=>cases hx'
 | func f=>exact .func (by simpa [Bi] using hx') rfl (fun i v v' h=>by simp at h) rfl (fun i v v' h=>by simp at h)
theorem Inv.wanted (hr:Run ops S F) (hs:Sta ops) (hI:Inv ops S m0 H0 w0 L pe m a w) (hcl:Closed ops L) {k:Nat} {o:Oper} (ho:ops[k]?=some o) (hnot:¬L k)
  (hrd:∀e∈o.after,ae3 .any e=true→L e.on) (hgo:wP ops (S k).fr o=true):Region.wanted o (yielded ops.toArray a.tmps)=xx ops (S k).fr o:=by
 have hk:k<ops.length:=(ai.1 ho).1
 unfold wP at hgo
 unfold Region.wanted xx
 cases hg:o.guard with
 | none=>rfl
 | some jw =>
  obtain ⟨j,want⟩:=jw
  rw [hg] at hgo
  simp only [yielded,List.getElem?_toArray]
  cases hd:(ops[j]?).bind (·.dst) with
  | none=>simp
  | some t =>
   simp only [hd] at hgo
   simp only [Option.bind_some]
   have ht:t∈o.looksAt ops.toArray:=by
    unfold Oper.looksAt
    rw [hg]
    refine dm _ ?_
    simp [hd]
   cases hv:a.tmps[t]? with
   | none =>
    have h1:a.tmps.size≤t:=by simpa using hv
    have h2:(S k).fr[t]?=none:=by
     rw [bQ]
     rw [hr.lu (by omega),←hI.lu]; exact h1
    simp [h2]
   | some v' =>
    obtain ⟨v,h1,h2⟩:=hI.read hr hs hcl ho hnot hrd ht hv
    rw [h1] at hgo ⊢
    rcases h2 with h2 | h2
    ·simp [Np h2] at hgo
    cases h2<;>first | (simp; done) | (rename_i h0 _; simp [zA,h0] at hgo)
variable {X:Xt}
theorem Inv.Ir (hr:Run ops S F) (hI:Inv ops S m0 H0 w0 L pe m a w) (h:qb X m0) (hin:∀e∈X.wins,e.2.2.2<(S 0).loc.length) (hk:k≤ops.length):qb X (cutAt m S k):=by
 refine ⟨hI.ext.le.env.trans h.env,fun e he=>?_,fun e he=>?_,fun e he=>by rw [show (cutAt m S k).env=m0.env from hI.ext.le.env]; exact h.win.sub e he⟩
 ·obtain ⟨ad,n,c,ix,d,h1,h2,h3,h4,h5,h6,h7⟩:=h.win.win e he
  refine ⟨ad,n,c,ix,d,?_,h2,?_,h4,h5,jm.2 ⟨aC (hin e he) (hr.qx (j:=0) (by omega) hk),(jm.1 (hI.ext.le.lb _ _ h6)).2⟩,(hI.ext.le.sh _ _ h6).trans h7⟩
  ·rw [show (cutAt m S k).env=m0.env from hI.ext.le.env]; exact h1
  ·rw [show (cutAt m S k).env=m0.env from hI.ext.le.env]; exact h3
 ·obtain ⟨d,h1⟩:=h.win.len e he
  exact ⟨d,by rw [show (cutAt m S k).env=m0.env from hI.ext.le.env]; exact h1⟩
variable {m':Mp} {v:Value}
theorem Inv.slots (hr:Run ops S F) (hs:Sta ops) (hI:Inv ops S m0 H0 w0 L pe m a w) (hcl:Closed ops L) (ho:ops[k]?=some o) (hnot:¬L k) (hle:Le m m')
  (hfr:(S (k+1)).fr=pQ (S k).fr o.dst v) (hv:VR (cutAt m' S (k+1)) v v') :
  ∀(t:Nat) u',(a.put o.dst v').tmps[t]?=some u'→∃j u,j≤ops.length∧(S j).fr[t]?=some u∧(u7 u=true∨VR (cutAt m' S j) u u')∧(∀c o',ops[c]?=some o'→(L c∨c=k)→o'.dst=some t→c<j) ∧
   (j=0∨∃c o',j=c+1∧ops[c]?=some o'∧(L c∨c=k)∧o'.dst=some t):=by
 have hk:k<ops.length:=(ai.1 ho).1
 intro t u' hu
 by_cases hd:o.dst=some t
 ·have hts:t<a.tmps.size:=by
   have:=(aB.1 hu).1
   rw [hd] at this
   simpa [Act.put] using this
  have hu':u'=v':=by
   rw [hd] at hu
   simp only [Act.put] at hu
   rw [Array.getElem?_setIfInBounds_self_of_lt hts] at hu
   injection hu with hu; exact hu.symm
  subst hu'
  refine ⟨k+1,v,hk,?_,.inr hv,fun c o' ho' hc hd'=>?_,.inr ⟨k,o,rfl,ho,.inr rfl,hd⟩⟩
  ·rw [hfr,hd]
   simp only [pQ]
   rw [List.getElem?_set_self]
   rw [hr.lu (by omega),←hI.lu]; exact hts
  ·rcases hc with hc | hc
   ·by_cases hck:c≤k
    ·omega
    ·rcases hs.pair k c o o' (by omega) ho ho' with hb | ⟨_,hap⟩
     ·exact absurd (hb.closed hcl hc) hnot
     ·exact absurd hd' ((Oper.apart_spec hap).2.1 t hd)
   ·omega
 ·have hu2:a.tmps[t]?=some u':=by
   cases hdd:o.dst with
   | none=>rw [hdd] at hu; exact hu
   | some d =>
    rw [hdd] at hu hd
    simp only [Act.put] at hu
    rwa [Array.getElem?_setIfInBounds_ne (fun e=>hd (by rw [e]))] at hu
  obtain ⟨j,u,h1,h2,h3,h4,h5⟩:=hI.fr t u' hu2
  refine ⟨j,u,h1,h2,h3.imp id (fun h3=>h3.mono (hle.cutAt j)),fun c o' ho' hc hd'=>?_,?_⟩
  ·rcases hc with hc | hc
   ·exact h4 c o' ho' hc hd'
   ·subst hc; rw [ho] at ho'; injection ho' with ho'; subst ho'; exact absurd hd' hd
  ·rcases h5 with h5 | ⟨c,o',e1,e2,e3,e4⟩
   ·exact .inl h5
   ·exact .inr ⟨c,o',e1,e2,.inl e3,e4⟩
theorem FT (a:Act) (d:Option Tmp) (v:Value):(a.put d v).tmps.size=a.tmps.size:=by cases d<;>simp [Act.put]
theorem FR (a:Act) (d:Option Tmp) (v:Value):(a.put d v).defers=a.defers:=by cases d<;>rfl
theorem Inv.calm (hr:Run ops S F) (hs:Sta ops) (hI:Inv ops S m0 H0 w0 L pe m a w) (hcl:Closed ops L) (ho:ops[k]?=some o) (hnot:¬L k) (hq:iZ o=false)
  (hfr:(S (k+1)).fr=pQ (S k).fr o.dst v) (hv:VR (cutAt m S (k+1)) v v'):Inv ops S m0 H0 w0 (fun c=>L c∨c=k) pe m (a.put o.dst v') w:=by
 refine ⟨hI.qz,fun e o' ho' he=>?_,hI.ext,fun i g e=>?_,fun i g e=>?_,hI.wM,hI.yf,fun c hc hn=>hI.late c hc (fun h=>hn (.inl h)),fun c hc hn=>hI.aj5 c hc (fun h=>hn (.inl h)),
  hI.slots hr hs hcl ho hnot (Le.refl m) hfr hv,by rw [FT]; exact hI.lu,by rw [FR]; exact hI.df⟩
 ·rw [←hI.pG e o' ho' he]
  constructor
  ·rintro (h | h)
   ·exact h
   ·subst h; rw [ho] at ho'; injection ho' with ho'; subst ho'; rw [hq] at he; cases he
  ·exact .inl
 ·rcases hI.dom i g e with h | ⟨c,h1,h2,h3⟩
  ·exact .inl h
  ·exact .inr ⟨c,h1,.inl h2,h3⟩
 ·rcases hI.lN i g e with h | ⟨c,h1,h2,h3⟩
  ·exact .inl h
  ·exact .inr ⟨c,h1,.inl h2,h3⟩
end
end Go.Sm
end
section
namespace Go.Sm
section
variable {P:Program} {ops:List Oper} {S:Nat→St} {F:Nat→Fp} {m0:Mp} {H0:Hp} {w0:World} {L:Nat→Prop} {pe:Nat} {m:Mp} {a:Act} {w:World}
variable {i g j g':Nat}
theorem Al {lo:Bool} {ez tt:Nat} (e:(m.gN i g lo ez tt).gb j=some g'):m.gb j=some g'∨(j=i∧g'=g):=by
 simp only [Mp.gN] at e
 by_cases h:j=i
 ·simp [h] at e; exact .inr ⟨h,e.symm⟩
 ·simp [h] at e; exact .inl e
theorem Ao (e:(m.jy i g).lb j=some g'):m.lb j=some g'∨(j=i∧g'=g):=by
 simp only [Mp.jy] at e
 by_cases h:j=i
 ·simp [h] at e; exact .inr ⟨h,e.symm⟩
 ·simp [h] at e; exact .inl e
theorem ve (w:World) (o:Obj):(w.alloc o).heap.size=w.heap.size+1:=World.size_alloc ..
variable {k:Nat} {o:Oper} {b:eG} {cs:Array Value} {v v':Value}
theorem Inv.Zt (hr:Run ops S F) (hs:Sta ops) (hI:Inv ops S m0 H0 w0 L pe m a w) (h0:H0.length≤(S 0).H.length) (hcl:Closed ops L) (ho:ops[k]?=some o) (hnot:¬L k) (hq:iZ o=false)
  (hH:(S (k+1)).H=(S k).H++[b]) (hl:(S (k+1)).loc=(S k).loc) (hc:ek (cutAt m S k).jF b.cells cs.toList) (hlo:b.loose=false)
  (hfr:(S (k+1)).fr=pQ (S k).fr o.dst v) (hv:VR (cutAt (m.gN (S k).H.length w.heap.size b.loose b.eD cs.size) S (k+1)) v v') :
  Inv ops S m0 H0 w0 (fun c=>L c∨c=k) pe (m.gN (S k).H.length w.heap.size b.loose b.eD cs.size) (a.put o.dst v') (w.alloc (.cells cs b.elem)):=by
 have hk:k<ops.length:=(ai.1 ho).1
 have hlen:(S (k+1)).H.length=(S k).H.length+1:=by rw [hH]; simp
 have hnone:m.gb (S k).H.length=none:=hI.Kt hr hk hnot (au _) (by omega)
 have hle:Le m (m.gN (S k).H.length w.heap.size b.loose b.eD cs.size):=CY hnone
 have hb:(S (k+1)).H[(S k).H.length]?=some b:=by rw [hH]; simp
 have hin:(m.gN (S k).H.length w.heap.size b.loose b.eD cs.size).gb (S k).H.length=some w.heap.size:=by simp [Mp.gN]
 have hGR:GR (cutAt (m.gN (S k).H.length w.heap.size b.loose b.eD cs.size) S (k+1)) (S k).H.length w.heap.size b (w.alloc (.cells cs b.elem)):=by
  have hcl:b.cells.length=cs.size:=by simpa using hc.1
  refine ⟨by simp [cutAt,Mp.cut,Mp.gN],by simp [cutAt,Mp.cut,Mp.gN],fun _=>⟨cs,heap_alloc_new w _,by omega,?_,fun _=>hcl.symm,fun e=>by rw [hlo] at e; cases e⟩⟩
  rw [hcl,show cs.size=cs.toList.length by simp,List.take_length]
  exact hc.mono ((hle.cutAt k).trans (hr.ug (by omega) hk)).jF
 have huniq:∀j,(m.gN (S k).H.length w.heap.size b.loose b.eD cs.size).gb j=some w.heap.size→j=(S k).H.length:=fun j e=>by
  rcases Al e with e | ⟨e,_⟩
  ·have:=hI.PE hr e; omega
  ·exact e
 have hnl:∀j,m.lb j≠some w.heap.size:=fun j e=>by have:=hI.PG hr e; omega
 have hws:w0.heap.size≤w.heap.size:=hI.ext.size
 refine ⟨hI.qz,fun e o' ho' he=>?_,?_,fun i g e=>?_,fun i g e=>?_,fun c i g c1 c2 c3 c4 e=>?_,fun c i g c1 c2 c3 c4 e=>?_,fun c hc hn=>hI.late c hc (fun h=>hn (.inl h)),fun c hc hn=>hI.aj5 c hc (fun h=>hn (.inl h)),
  hI.slots hr hs hcl ho hnot hle hfr hv,by rw [FT]; exact hI.lu,by rw [FR]; exact hI.df⟩
 ·rw [←hI.pG e o' ho' he]
  constructor
  ·rintro (h | h)
   ·exact h
   ·subst h; rw [ho] at ho'; injection ho' with ho'; subst ho'; rw [hq] at he; cases he
  ·exact .inl
 ·refine xW hI.ext (hle.cutAt pe) (fun _ _=>rfl) (au _) (fun _ _=>rfl) (au _) (fun g hg=>nD w _ hg) (by rw [ve]; omega) rfl rfl rfl (fun i g e=>?_) (fun i g e=>.inl e)
  obtain ⟨e1,e2⟩:=jk.1 e
  rcases Al e2 with e3 | ⟨rfl,rfl⟩
  ·exact .inl (jk.2 ⟨e1,e3⟩)
  ·have hkp:k<pe:=by
    rcases cu k pe with h | h
    ·exact h
    ·have:=hr.qw h (by omega); omega
   refine .inr ⟨aZ h0 (hr.qw (by omega) (by omega)),e1,by rw [ve]; omega,hws,⟨b,?_,hGR.mono (hr.ug (by omega) hI.qz) (jk.2 ⟨by omega,hin⟩) (fun _=>rfl)⟩,fun j e=>huniq j (jk.1 e).2,fun j e=>hnl j (jm.1 e).2⟩
   rw [hI.late k hkp hnot _ (au _) (by omega)]; exact hb
 ·rcases Al e with e | ⟨rfl,rfl⟩
  ·rcases hI.dom i g e with h | ⟨c,h1,h2,h3⟩
   ·exact .inl h
   ·exact .inr ⟨c,h1,.inl h2,h3⟩
  ·exact .inr ⟨k,hk,.inr rfl,au _,by omega⟩
 ·rcases hI.lN i g e with h | ⟨c,h1,h2,h3⟩
  ·exact .inl h
  ·exact .inr ⟨c,h1,.inl h2,h3⟩
 ·rcases Al e with e | ⟨rfl,rfl⟩
  ·obtain ⟨f1,f2,⟨b0,f3,f4⟩,f5,f6⟩:=hI.wM c i g c1 c2 c3 c4 e
   refine ⟨by rw [ve]; omega,f2,⟨b0,f3,f4.mono (hle.cutAt (c+1)) (jk.2 ⟨c4,e⟩) (fun _=>nD w _ f1)⟩,fun j ej=>?_,f6⟩
   rcases Al ej with ej | ⟨_,ej⟩
   ·exact f5 j ej
   ·omega
  ·have:=hr.PH c2 hk c3 c4 (au _) (by omega)
   subst this
   exact ⟨by rw [ve]; omega,hws,⟨b,hb,hGR⟩,huniq,hnl⟩
 ·obtain ⟨f1,f2,⟨b0,f3,f4,f7⟩,f5,f6⟩:=hI.yf c i g c1 c2 c3 c4 e
  refine ⟨by rw [ve]; omega,f2,⟨b0,f3,f4.mono (hle.cutAt (c+1)) (jm.2 ⟨c4,e⟩) (nD w _ f1),f7⟩,f5,fun j ej=>?_⟩
  rcases Al ej with ej | ⟨_,ej⟩
  ·exact f6 j ej
  ·omega
theorem Inv.Zu (hr:Run ops S F) (hs:Sta ops) (hI:Inv ops S m0 H0 w0 L pe m a w) (hcl:Closed ops L) (ho:ops[k]?=some o) (hnot:¬L k) (hq:iZ o=false)
  (hH:(S (k+1)).H=(S k).H) (hl:(S (k+1)).loc=(S k).loc++[b]) (hc:ek (cutAt m S k) b.cells cs.toList) (hlive:b.live=true) (hlo:b.loose=false)
  (hfr:(S (k+1)).fr=pQ (S k).fr o.dst v) (hv:VR (cutAt (m.jy (S k).loc.length w.heap.size) S (k+1)) v v') :
  Inv ops S m0 H0 w0 (fun c=>L c∨c=k) pe (m.jy (S k).loc.length w.heap.size) (a.put o.dst v') (w.alloc (.cells cs b.elem)):=by
 have hk:k<ops.length:=(ai.1 ho).1
 have hlen:(S (k+1)).loc.length=(S k).loc.length+1:=by rw [hl]; simp
 have hnone:m.lb (S k).loc.length=none:=hI.Ku hr hk hnot (au _) (by omega)
 have hle:Le m (m.jy (S k).loc.length w.heap.size):=J8 hnone
 have hb:(S (k+1)).loc[(S k).loc.length]?=some b:=by rw [hl]; simp
 have hLR:LR (cutAt (m.jy (S k).loc.length w.heap.size) S (k+1)) (S k).loc.length w.heap.size b (w.alloc (.cells cs b.elem)):=by
  have hsz:b.cells.length=cs.size:=by simpa using hc.1
  have e0:(cutAt (m.jy (S k).loc.length w.heap.size) S (k+1)).sh (S k).loc.length=0:=by simp [cutAt,Mp.cut,Mp.jy]
  refine ⟨fun _=>⟨cs,_,_,heap_alloc_new w _,by rw [e0]; omega,?_,fun _=>⟨e0,hsz.symm⟩,fun _=>⟨rfl,rfl⟩⟩,fun e=>by rw [hlive] at e; cases e⟩
  rw [e0,List.drop_zero,dH (by simp [hsz])]
  exact hc.mono ((hle.cutAt k).trans (hr.ug (by omega) hk))
 have hcin:(cutAt (m.jy (S k).loc.length w.heap.size) S (k+1)).lb (S k).loc.length=some w.heap.size:=jm.2 ⟨by omega,by simp [Mp.jy]⟩
 have huniq:∀j,(m.jy (S k).loc.length w.heap.size).lb j=some w.heap.size→j=(S k).loc.length:=fun j e=>by
  rcases Ao e with e | ⟨e,_⟩
  ·have:=hI.PG hr e; omega
  ·exact e
 have hnl:∀j,m.gb j≠some w.heap.size:=fun j e=>by have:=hI.PE hr e; omega
 have hws:w0.heap.size≤w.heap.size:=hI.ext.size
 refine ⟨hI.qz,fun e o' ho' he=>?_,?_,fun i g e=>?_,fun i g e=>?_,fun c i g c1 c2 c3 c4 e=>?_,fun c i g c1 c2 c3 c4 e=>?_,fun c hc hn=>hI.late c hc (fun h=>hn (.inl h)),fun c hc hn=>hI.aj5 c hc (fun h=>hn (.inl h)),
  hI.slots hr hs hcl ho hnot hle hfr hv,by rw [FT]; exact hI.lu,by rw [FR]; exact hI.df⟩
 ·rw [←hI.pG e o' ho' he]
  constructor
  ·rintro (h | h)
   ·exact h
   ·subst h; rw [ho] at ho'; injection ho' with ho'; subst ho'; rw [hq] at he; cases he
  ·exact .inl
 ·refine xW hI.ext (hle.cutAt pe) (fun _ _=>rfl) (au _) (fun _ _=>rfl) (au _) (fun g hg=>nD w _ hg) (by rw [ve]; omega) rfl rfl rfl (fun i g e=>.inl e) (fun i g e=>?_)
  obtain ⟨e1,e2⟩:=jm.1 e
  rcases Ao e2 with e3 | ⟨rfl,rfl⟩
  ·exact .inl (jm.2 ⟨e1,e3⟩)
  ·have hkp:k<pe:=by
    rcases cu k pe with h | h
    ·exact h
    ·have:=hr.qx h (by omega); omega
   refine .inr ⟨e1,by rw [ve]; omega,hws,⟨b,?_,hLR.mono (hr.ug (by omega) hI.qz) hcin rfl,hlo⟩,fun j e=>huniq j (jm.1 e).2,fun j e=>hnl j (jk.1 e).2⟩
   rw [hI.aj5 k hkp hnot _ (au _) (by omega)]; exact hb
 ·rcases hI.dom i g e with h | ⟨c,h1,h2,h3⟩
  ·exact .inl h
  ·exact .inr ⟨c,h1,.inl h2,h3⟩
 ·rcases Ao e with e | ⟨rfl,rfl⟩
  ·rcases hI.lN i g e with h | ⟨c,h1,h2,h3⟩
   ·exact .inl h
   ·exact .inr ⟨c,h1,.inl h2,h3⟩
  ·exact .inr ⟨k,hk,.inr rfl,au _,by omega⟩
 ·obtain ⟨f1,f2,⟨b0,f3,f4⟩,f5,f6⟩:=hI.wM c i g c1 c2 c3 c4 e
  refine ⟨by rw [ve]; omega,f2,⟨b0,f3,f4.mono (hle.cutAt (c+1)) (jk.2 ⟨c4,e⟩) (fun _=>nD w _ f1)⟩,f5,fun j ej=>?_⟩
  rcases Ao ej with ej | ⟨_,ej⟩
  ·exact f6 j ej
  ·omega
 ·rcases Ao e with e | ⟨rfl,rfl⟩
  ·obtain ⟨f1,f2,⟨b0,f3,f4,f7⟩,f5,f6⟩:=hI.yf c i g c1 c2 c3 c4 e
   refine ⟨by rw [ve]; omega,f2,⟨b0,f3,f4.mono (hle.cutAt (c+1)) (jm.2 ⟨c4,e⟩) (nD w _ f1),f7⟩,fun j ej=>?_,f6⟩
   rcases Ao ej with ej | ⟨_,ej⟩
   ·exact f5 j ej
   ·omega
  ·have:=hr.PI c2 hk c3 c4 (au _) (by omega)
   subst this
   exact ⟨by rw [ve]; omega,hws,⟨b,hb,hLR,hlo⟩,huniq,hnl⟩
variable {m1:Mp} {w':World} {wl:List Nat}
theorem Inv.act (hr:Run ops S F) (hs:Sta ops) (hcl:Closed ops L) (hI:Inv ops S m0 H0 w0 L k m a w) (ho:ops[k]?=some o) (hnot:¬L k)
  (hx:Ext (cutAt m S k) (S k).H (S k).loc w m1 (S (k+1)).H (S (k+1)).loc w' (F k).wg wl)
  (hfr:(S (k+1)).fr=pQ (S k).fr o.dst v) (hv:VR m1 v v'):∃m',Inv ops S m0 H0 w0 (fun c=>L c∨c=k) (k+1) m' (a.put o.dst v') w':=by
 have hk:k<ops.length:=(ai.1 ho).1
 have hp:=hr.wY hk
 let m':Mp:={ gb:=fun i=>if i<(S (k+1)).H.length then m1.gb i else m.gb i,lb:=fun i=>if i<(S (k+1)).loc.length then m1.lb i else m.lb i,loose:=fun i=>if i<(S (k+1)).H.length then m1.loose i else m.loose i,eD:=fun i=>if i<(S (k+1)).H.length then m1.eD i else m.eD i,tot:=fun i=>if i<(S (k+1)).H.length then m1.tot i else m.tot i,env:=m1.env,sh:=fun i=>if i<(S (k+1)).loc.length then m1.sh i else m.sh i,bs:=m1.bs }
 have hgb:∀i g,m'.gb i=some g→(i<(S (k+1)).H.length∧m1.gb i=some g)∨((S (k+1)).H.length≤i∧m.gb i=some g):=fun i g e=>by
  simp only [m'] at e
  by_cases h:i<(S (k+1)).H.length
  ·simp [h] at e; exact .inl ⟨h,e⟩
  ·simp [h] at e; exact .inr ⟨by omega,e⟩
 have hlb:∀i g,m'.lb i=some g→(i<(S (k+1)).loc.length∧m1.lb i=some g)∨((S (k+1)).loc.length≤i∧m.lb i=some g):=fun i g e=>by
  simp only [m'] at e
  by_cases h:i<(S (k+1)).loc.length
  ·simp [h] at e; exact .inl ⟨h,e⟩
  ·simp [h] at e; exact .inr ⟨by omega,e⟩
 have hdom1:∀i g,m1.gb i=some g→i<(S (k+1)).H.length:=fun i g e=>by
  obtain ⟨_,b,h2,_⟩:=hx.rel.ic i g e
  exact (ai.1 h2).1
 have hdom1l:∀i g,m1.lb i=some g→i<(S (k+1)).loc.length:=fun i g e=>by
  obtain ⟨_,b,h2,_⟩:=hx.rel.iN i g e
  exact (ai.1 h2).1
 have hle1:Le m1 m':=⟨fun i g e=>by simp [m',hdom1 i g e,e],fun i g e=>by simp [m',hdom1l i g e,e],fun i g e=>by simp [m',hdom1 i g e],fun i g e=>by simp [m',hdom1 i g e],fun i g e=>by simp [m',hdom1 i g e],rfl,fun i g e=>by simp [m',hdom1l i g e],rfl⟩
 have hle1c:Le m1 (cutAt m' S (k+1)):=⟨fun i g e=>jk.2 ⟨hdom1 i g e,hle1.gb i g e⟩,fun i g e=>jm.2 ⟨hdom1l i g e,hle1.lb i g e⟩,fun i g e=>hle1.loose i g e,fun i g e=>hle1.eD i g e,fun i g e=>hle1.tot i g e,rfl,fun i g e=>hle1.sh i g e,rfl⟩
 have hmk:∀i g,m.gb i=some g→i<(S (k+1)).H.length→(cutAt m S k).gb i=some g:=fun i g e hi=>by
  by_cases h:i<(S k).H.length
  ·exact jk.2 ⟨h,e⟩
  ·rw [hI.Kt hr hk hnot (by omega) hi] at e; cases e
 have hmkl:∀i g,m.lb i=some g→i<(S (k+1)).loc.length→(cutAt m S k).lb i=some g:=fun i g e hi=>by
  by_cases h:i<(S k).loc.length
  ·exact jm.2 ⟨h,e⟩
  ·rw [hI.Ku hr hk hnot (by omega) hi] at e; cases e
 have hle:Le m m':=by
  refine ⟨fun i g e=>?_,fun i g e=>?_,fun i g e=>?_,fun i g e=>?_,fun i g e=>?_,hx.le.env,fun i g e=>?_,hx.le.bs⟩
  ·by_cases h:i<(S (k+1)).H.length
   ·simp [m',h,hx.le.gb i g (hmk i g e h)]
   ·simp [m',h,e]
  ·by_cases h:i<(S (k+1)).loc.length
   ·simp [m',h,hx.le.lb i g (hmkl i g e h)]
   ·simp [m',h,e]
  ·by_cases h:i<(S (k+1)).H.length
   ·simp [m',h,hx.le.loose i g (hmk i g e h),cutAt,Mp.cut]
   ·simp [m',h]
  ·by_cases h:i<(S (k+1)).H.length
   ·simp [m',h,hx.le.eD i g (hmk i g e h),cutAt,Mp.cut]
   ·simp [m',h]
  ·by_cases h:i<(S (k+1)).H.length
   ·simp [m',h,hx.le.tot i g (hmk i g e h),cutAt,Mp.cut]
   ·simp [m',h]
  ·by_cases h:i<(S (k+1)).loc.length
   ·simp [m',h,hx.le.sh i g (hmkl i g e h),cutAt,Mp.cut]
   ·simp [m',h]
 refine ⟨m',hk,fun e o' ho' he=>?_,?_,fun i g e=>?_,fun i g e=>?_,fun c i g c1 c2 c3 c4 e=>?_,fun c i g c1 c2 c3 c4 e=>?_,fun c hc hn i h1 h2=>?_,fun c hc hn i h1 h2=>?_,
  hI.slots hr hs hcl ho hnot hle hfr (hv.mono hle1c),by rw [FT]; exact hI.lu,by rw [FR]; exact hI.df⟩
 ·constructor
  ·rintro (h | h)
   ·have:=(hI.pG e o' ho' he).1 h; omega
   ·omega
  ·intro h
   by_cases hek:e=k
   ·exact .inr hek
   ·exact .inl ((hI.pG e o' ho' he).2 (by omega))
 ·have h1:=(hI.ext.trans hx).Ko
  have hwg:(S (k+1)).wg=(S k).wg++(F k).wg:=(hr.sp k o ho).wg
  rw [hwg]
  refine xW h1 hle1c (fun _ _=>rfl) (au _) (fun _ _=>rfl) (au _) (fun _ _=>rfl) (au _) rfl rfl rfl (fun i g e=>?_) (fun i g e=>?_)
  ·obtain ⟨e1,e2⟩:=jk.1 e
   rcases hgb i g e2 with ⟨_,h⟩ | ⟨h,_⟩
   ·exact .inl h
   ·omega
  ·obtain ⟨e1,e2⟩:=jm.1 e
   rcases hlb i g e2 with ⟨_,h⟩ | ⟨h,_⟩
   ·exact .inl h
   ·omega
 ·rcases hgb i g e with ⟨h1,h2⟩ | ⟨h1,h2⟩
  ·rcases hx.dom i g h2 with h3 | ⟨h3,h4⟩
   ·rcases hI.dom i g (jk.1 h3).2 with h | ⟨c,h1,h2,h3⟩
    ·exact .inl h
    ·exact .inr ⟨c,h1,.inl h2,h3⟩
   ·exact .inr ⟨k,hk,.inr rfl,h3,h4⟩
  ·rcases hI.dom i g h2 with h | ⟨c,h1,h2,h3⟩
   ·exact .inl h
   ·exact .inr ⟨c,h1,.inl h2,h3⟩
 ·rcases hlb i g e with ⟨h1,h2⟩ | ⟨h1,h2⟩
  ·rcases hx.lN i g h2 with h3 | ⟨h3,h4⟩
   ·rcases hI.lN i g (jm.1 h3).2 with h | ⟨c,h1,h2,h3⟩
    ·exact .inl h
    ·exact .inr ⟨c,h1,.inl h2,h3⟩
   ·exact .inr ⟨k,hk,.inr rfl,h3,h4⟩
  ·rcases hI.lN i g h2 with h | ⟨c,h1,h2,h3⟩
   ·exact .inl h
   ·exact .inr ⟨c,h1,.inl h2,h3⟩
 ·have hge:(S (k+1)).H.length≤i:=aZ (hr.qw c1 (by omega)) c3
  rcases hgb i g e with ⟨h1,_⟩ | ⟨_,e⟩
  ·omega
  obtain ⟨f1,f2,⟨b0,f3,f4⟩,f5,f6⟩:=hI.wM c i g (by omega) c2 c3 c4 e
  have hgek:(S k).H.length≤i:=aZ hp.len hge
  have hsame:w'.heap[g]?=w.heap[g]?:=hx.frame g f1 (fun j ej=>by have:=f5 j (jk.1 ej).2; have:=(jk.1 ej).1; omega) (fun j ej=>f6 j (jm.1 ej).2)
  refine ⟨aC f1 hx.size,f2,⟨b0,f3,f4.mono (hle.cutAt (c+1)) (jk.2 ⟨c4,e⟩) (fun _=>hsame)⟩,fun j ej=>?_,fun j ej=>?_⟩
  ·rcases hgb j g ej with ⟨_,ej⟩ | ⟨_,ej⟩
   ·rcases hx.img j g ej with ⟨j',ej'⟩ | h
    ·have:=f5 j' (jk.1 ej').2; have:=(jk.1 ej').1; omega
    ·omega
   ·exact f5 j ej
  ·rcases hlb j g ej with ⟨_,ej⟩ | ⟨_,ej⟩
   ·rcases hx.oG j g ej with ej' | h
    ·exact f6 j (jm.1 ej').2
    ·omega
   ·exact f6 j ej
 ·have hge:(S (k+1)).loc.length≤i:=aZ (hr.qx c1 (by omega)) c3
  rcases hlb i g e with ⟨h1,_⟩ | ⟨_,e⟩
  ·omega
  obtain ⟨f1,f2,⟨b0,f3,f4,f7⟩,f5,f6⟩:=hI.yf c i g (by omega) c2 c3 c4 e
  have hgek:(S k).loc.length≤i:=aZ hp.lH hge
  have hsame:w'.heap[g]?=w.heap[g]?:=hx.frame g f1 (fun j ej=>f6 j (jk.1 ej).2) (fun j ej=>by have:=f5 j (jm.1 ej).2; have:=(jm.1 ej).1; omega)
  refine ⟨aC f1 hx.size,f2,⟨b0,f3,f4.mono (hle.cutAt (c+1)) (jm.2 ⟨c4,e⟩) hsame,f7⟩,fun j ej=>?_,fun j ej=>?_⟩
  ·rcases hlb j g ej with ⟨_,ej⟩ | ⟨_,ej⟩
   ·rcases hx.oG j g ej with ej' | h
    ·have:=f5 j (jm.1 ej').2; have:=(jm.1 ej').1; omega
    ·omega
   ·exact f5 j ej
  ·rcases hgb j g ej with ⟨_,ej⟩ | ⟨_,ej⟩
   ·rcases hx.img j g ej with ⟨j',ej'⟩ | h
    ·exact f6 j' (jk.1 ej').2
    ·omega
   ·exact f6 j ej
 ·have hck:c<k:=by
   by_cases h:c=k
   ·exact absurd (.inr h) hn
   ·omega
  have hnL:¬L c:=fun h=>hn (.inl h)
  have hi:i<(S k).H.length:=aC h2 (hr.qw (by omega) (by omega))
  have hnone:(cutAt m S k).gb i=none:=by
   cases e:(cutAt m S k).gb i with
   | none=>rfl
   | some g=>have:=hI.Kt hr (show c<ops.length by omega) hnL h1 h2; rw [(jk.1 e).2] at this; cases this
  exact (hx.un i hi hnone).trans (hI.late c hck hnL i h1 h2)
 ·have hck:c<k:=by
   by_cases h:c=k
   ·exact absurd (.inr h) hn
   ·omega
  have hnL:¬L c:=fun h=>hn (.inl h)
  have hi:i<(S k).loc.length:=aC h2 (hr.qx (by omega) (by omega))
  have hnone:(cutAt m S k).lb i=none:=by
   cases e:(cutAt m S k).lb i with
   | none=>rfl
   | some g=>have:=hI.Ku hr (show c<ops.length by omega) hnL h1 h2; rw [(jm.1 e).2] at this; cases this
  exact (hx.vw i hi hnone).trans (hI.aj5 c hck hnL i h1 h2)
end
end Go.Sm
end
section
namespace Go.Sm
section
variable {P:Program} {m:Mp} {H loc:Hp} {w:World}
variable {a:Addr} {n:Nat} {vs:List Value}
theorem Q4 {a':Addr} (hG:∀i g,a.spot=none→a.block=i→m.gb i=some g→∃b,H[i]?=some b∧GR m i g b w) (hLc:∀i g,a.spot=some 0→a.block=i→m.lb i=some g→∃b,loc[i]?=some b∧LR m i g b w) (har:AR m a a') (h:uA H loc a n=some vs) :
  ∃vs',ek m vs vs'∧vs.length=n∧∀j v,vs'[j]?=some v→w.cell? (a'.add j)=some v:=by
 obtain ⟨b',o',s'⟩:=a'
 have hs:=har.spot
 simp only at hs
 subst hs
 have hadd:∀j,(⟨b',o',none⟩:Addr).add j=⟨b',o'+j,none⟩:=fun j=>Cj rfl j
 unfold uA at h
 simp only [nC] at h
 rcases har with ⟨h1,h2,h3,_⟩ | ⟨h1,h2,h3,_⟩
 ·rw [h1] at h
  simp only at h h2 h3
  split at h
  ·rename_i b hb
   cases hc:(b.live&&decide (a.off+n≤b.cells.length)) with
   | false=>rw [hc] at h; cases h
   | true =>
    rw [hc] at h
    simp only [cond_true,ak] at h
    subst h
    simp only [aQ,decide_eq_true_eq] at hc
    obtain ⟨b0,hb0,hG⟩:=hG _ _ h1 rfl h2
    rw [hb] at hb0; injection hb0 with hb0; subst hb0
    obtain ⟨cs,e1,e2,e3,_⟩:=hG.blk hc.1
    refine ⟨(((cs.toList.take b.cells.length)).drop a.off).take n,((e3.mono (Be m)).drop _).take _,by simp; omega,fun j v hv=>?_⟩
    rw [hadd,cell_of_block e1]
    simp only [dx,aeX] at hv
    split at hv
    ·split at hv
     ·rw [h3]; simpa using hv
     ·cases hv
    ·cases hv
  ·cases h
 ·rw [h1] at h
  simp only at h h2 h3
  split at h
  ·rename_i b hb
   cases hc:(b.live&&decide (a.off+n≤b.cells.length)) with
   | false=>rw [hc] at h; cases h
   | true =>
    rw [hc] at h
    simp only [cond_true,ak] at h
    subst h
    simp only [aQ,decide_eq_true_eq] at hc
    obtain ⟨b0,hb0,hL⟩:=hLc _ _ h1 rfl h2
    rw [hb] at hb0; injection hb0 with hb0; subst hb0
    obtain ⟨cs,_,_,e1,e2,e3,_⟩:=hL.blk hc.1
    refine ⟨((((cs.toList).drop (m.sh a.block)).take b.cells.length).drop a.off).take n,(e3.drop _).take _,by simp; omega,fun j v hv=>?_⟩
    rw [hadd,cell_of_block e1]
    simp only [dx,aeX] at hv
    split at hv
    ·split at hv
     ·rw [h3,←hv,←Array.getElem?_toList]
      congr 1
      omega
     ·cases hv
    ·cases hv
  ·cases h
variable {x x' v:Value}
theorem EZ {t:TypeId} (hG:∀a i g,x=.pointer (some a)→a.spot=none→a.block=i→m.gb i=some g→∃b,H[i]?=some b∧GR m i g b w) (hLc:∀a i g,x=.pointer (some a)→a.spot=some 0→a.block=i→m.lb i=some g→∃b,loc[i]?=some b∧LR m i g b w) (hx:VR m x x') (h:vQ P H loc t x=some v) :
  ∃v',(Instr.loadAt t x').run P w=.ok v' w∧VR m v v':=by
 unfold vQ at h
 split at h
 ·rename_i a
  obtain ⟨a',rfl,har⟩:=vz hx
  split at h
  ·rename_i hagg
   split at h
   ·rename_i i hi
    split at h
    ·rename_i vs hvs
     injection h with h; subst h
     obtain ⟨vs',hvr,hlen,hcell⟩:=Q4 (fun i g=>hG _ i g rfl) (fun i g=>hLc _ i g rfl) har hvs
     refine ⟨.agg vs'.toArray,?_,hvr.agg⟩
     have:=run_loadCells_list (P:=P) w a' vs' hcell
     have hl:vs'.length=i.size:=by have:=hvr.1; omega
     rw [hl] at this
     simp [Instr.loadAt,Instr.sureAddr,loadVar,Bz hagg,oh hi,this]
    ·cases h
   ·cases h
  ·rename_i hagg
   split at h
   ·rename_i v0 hvs
    injection h with h; subst h
    obtain ⟨vs',hvr,hlen,hcell⟩:=Q4 (fun i g=>hG _ i g rfl) (fun i g=>hLc _ i g rfl) har hvs
    obtain ⟨v',l',rfl,h1,h2⟩:=hvr.cons_inv
    have hc:=hcell 0 v' rfl
    have e0:a'.add 0=a':=rfl
    rw [e0] at hc
    exact ⟨v',by simp [Instr.loadAt,Instr.sureAddr,loadVar,Bz hagg,hc],h1⟩
   ·cases h
  ·cases h
 ·cases h
variable {ops:List Oper} {i j:Nat}
theorem nk.lt (hs:Sta ops) (h:nk ops i j):i<j:=by
 induction h with
 | edge ho he hb=>exact hs.back _ _ ho _ he hb
 | step ho he hb _ ih=>exact Nat.lt_trans ih (hs.back _ _ ho _ he hb)
end
section
variable {P:Program} {ops:List Oper} {S:Nat→St} {F:Nat→Fp} {m0:Mp} {H0:Hp} {w0:World} {L:Nat→Prop} {pe:Nat} {m:Mp} {a:Act} {w:World}
def Hg (ops:List Oper) (F:Nat→Fp):Prop:=∀i j x y,ops[i]?=some x→ops[j]?=some y→iZ x=true→isLoad y=true→¬nk ops i j→¬nk ops j i →
 (∀b,b∈(F j).rg→b∉(F i).wg)∧(∀b,b∈(F j).rl→b∉(F i).wl)∧(j<i→(F j).bd=true)
variable {k:Nat} {o:Oper} {x x' v:Value}
theorem Inv.load (hr:Run ops S F) (hs:Sta ops) (hdy:Hg ops F) (hI:Inv ops S m0 H0 w0 L pe m a w) (hcl:Closed ops L) (htop:pe=0∨∃o,ops[pe - 1]?=some o∧iZ o=true) (ho:ops[k]?=some o) (hnot:¬L k)
  (hrd:∀e∈o.after,ae3 .any e=true→L e.on) (hld:isLoad o=true) {t:TypeId} (hx:VR (cutAt m S k) x x') (h:vQ P (S k).H (S k).loc t x=some v)
  (hrg:∀ad,x=.pointer (some ad)→(ad.spot=none→ad.block∈(F k).rg)∧(ad.spot=some 0→ad.block∈(F k).rl)) (hbd:(F k).bd=mh (S k).H.length (S k).loc.length 6 v) :
  ∃v',(Instr.loadAt t x').run P w=.ok v' w∧VR (cutAt m S (k+1)) v v':=by
 have hk:k<ops.length:=(ai.1 ho).1
 have hne:iZ o=false:=by unfold isLoad at hld; unfold iZ; split at hld<;>simp_all
 have hrd':∀o',ops[k]?=some o'→∀e∈o'.after,ae3 .any e=true→L e.on:=fun o' ho'=>by
  rw [ho] at ho'; injection ho' with ho'; subst ho'; exact hrd
 have hfar:∀e o',ops[e]?=some o'→iZ o'=true→((e<k∧¬L e)∨(k<e∧L e))→¬nk ops e k∧¬nk ops k e:=fun e o' ho' he hc=>by
  rcases hc with ⟨h1,h2⟩ | ⟨h1,h2⟩
  ·exact ⟨fun hb=>h2 (hb.ready hcl hrd'),fun hb=>by have:=hb.lt hs; omega⟩
  ·exact ⟨fun hb=>by have:=hb.lt hs; omega,fun hb=>hnot (hb.closed hcl h2)⟩
 have hskipG:∀j,pe≤j→∀i,i∈(F k).rg→∀e,j≤e→e<k→i∉(F e).wg:=fun j hj i hi e h1 h2=>by
  have ho':ops[e]?=some ops[e]:=ah (by omega)
  cases he:iZ ops[e] with
  | false=>rw [(hr.quiet e _ ho' he).1]; simp
  | true =>
   have hnL:¬L e:=fun hl=>by have:=(hI.pG e _ ho' he).1 hl; omega
   obtain ⟨n1,n2⟩:=hfar e _ ho' he (.inl ⟨h2,hnL⟩)
   exact (hdy e k _ o ho' ho he hld n1 n2).1 i hi
 have hskipL:∀j,pe≤j→∀i,i∈(F k).rl→∀e,j≤e→e<k→i∉(F e).wl:=fun j hj i hi e h1 h2=>by
  have ho':ops[e]?=some ops[e]:=ah (by omega)
  cases he:iZ ops[e] with
  | false=>rw [(hr.quiet e _ ho' he).2]; simp
  | true =>
   have hnL:¬L e:=fun hl=>by have:=(hI.pG e _ ho' he).1 hl; omega
   obtain ⟨n1,n2⟩:=hfar e _ ho' he (.inl ⟨h2,hnL⟩)
   exact (hdy e k _ o ho' ho he hld n1 n2).2.1 i hi
 have hbackG:∀i,i∈(F k).rg→∀e,k≤e→e<pe→i∉(F e).wg:=fun i hi e h1 h2=>by
  have hpl:=hI.qz
  have ho':ops[e]?=some ops[e]:=ah (by omega)
  cases he:iZ ops[e] with
  | false=>rw [(hr.quiet e _ ho' he).1]; simp
  | true =>
   have hek:e≠k:=fun e'=>by subst e'; rw [ho] at ho'; injection ho' with ho'; rw [←ho',hne] at he; cases he
   have hL:L e:=(hI.pG e _ ho' he).2 h2
   obtain ⟨n1,n2⟩:=hfar e _ ho' he (.inr ⟨by omega,hL⟩)
   exact (hdy e k _ o ho' ho he hld n1 n2).1 i hi
 have hbackL:∀i,i∈(F k).rl→∀e,k≤e→e<pe→i∉(F e).wl:=fun i hi e h1 h2=>by
  have hpl:=hI.qz
  have ho':ops[e]?=some ops[e]:=ah (by omega)
  cases he:iZ ops[e] with
  | false=>rw [(hr.quiet e _ ho' he).2]; simp
  | true =>
   have hek:e≠k:=fun e'=>by subst e'; rw [ho] at ho'; injection ho' with ho'; rw [←ho',hne] at he; cases he
   have hL:L e:=(hI.pG e _ ho' he).2 h2
   obtain ⟨n1,n2⟩:=hfar e _ ho' he (.inr ⟨by omega,hL⟩)
   exact (hdy e k _ o ho' ho he hld n1 n2).2.1 i hi
 obtain ⟨ad,hxa⟩:∃ad,x=.pointer (some ad):=by
  unfold vQ at h
  split at h
  ·exact ⟨_,rfl⟩
  ·cases h
 obtain ⟨hrg1,hrg2⟩:=hrg ad hxa
 have hx0:=hx
 rw [hxa] at hx
 obtain ⟨ad',hx',har⟩:=vz hx
 have hpl:=hI.qz
 rcases har with ⟨s1,s2,s3,s4⟩ | ⟨s1,s2,s3,s4⟩
 ·obtain ⟨hik,hig⟩:=jk.1 s2
  have hmem:=hrg1 s1
  rcases hI.Mm hr hig with hw | ⟨c,c1,c2,c3,c4⟩
  ·
   have hsame:(S k).H[ad.block]?=(S pe).H[ad.block]?:=by
    rcases Nat.le_total pe k with hpk | hpk
    ·exact hr.rF hw hpk (by omega) (hskipG pe (au _) _ hmem)
    ·exact (hr.rF hik hpk hpl (hbackG _ hmem)).symm
   have hxp:VR (cutAt m S pe) x x':=by
    rw [hxa,hx']
    exact AR.vr (.inl ⟨s1,jk.2 ⟨hw,hig⟩,s3,s4⟩)
   obtain ⟨v',h1,h2⟩:=EZ (m:=cutAt m S pe) (w:=w) (P:=P) (H:=(S k).H) (loc:=(S k).loc) (fun a1 i g e1 e2 e3 e4=>by
     rw [hxa] at e1; injection e1 with e1; injection e1 with e1; subst e1; subst e3
     obtain ⟨_,b,f1,f2⟩:=hI.ext.rel.ic _ g e4
     exact ⟨b,hsame.trans f1,f2⟩) (fun a1 i g e1 e2=>by
     rw [hxa] at e1; injection e1 with e1; injection e1 with e1; subst e1; rw [s1] at e2; cases e2) hxp h
   refine ⟨v',h1,?_⟩
   rcases cu k pe with hpk | hpk
   ·have hb:(F k).bd=true:=by
     rcases htop with hp0 | ⟨oe,hoe,hee⟩
     ·omega
     ·have hLe:L (pe - 1):=(hI.pG _ _ hoe hee).2 (by omega)
      have hek:pe - 1≠k:=fun e'=>by rw [e',ho] at hoe; injection hoe with hoe; rw [←hoe,hne] at hee; cases hee
      obtain ⟨n1,n2⟩:=hfar _ _ hoe hee (.inr ⟨by omega,hLe⟩)
      exact (hdy _ k _ o hoe ho hee hld n1 n2).2.2 (by omega)
    rw [hbd] at hb
    have:=zk 6 v v' hb h2
    exact this.mono ⟨fun i g e=>jk.2 ⟨aC (oD.1 e).1 (hr.qw (by omega) (by omega)),(jk.1 (oD.1 e).2).2⟩,fun i g e=>jm.2 ⟨aC (ajK.1 e).1 (hr.qx (by omega) (by omega)),(jm.1 (ajK.1 e).2).2⟩,fun _ _ _=>rfl,fun _ _ _=>rfl,fun _ _ _=>rfl,rfl,fun _ _ _=>rfl,rfl⟩
   ·exact h2.mono (hr.ug (by omega) (by omega))
  ·
   have hck:c<k:=by
    rcases cu c k with h | h
    ·exact h
    ·have:=hr.qw h (by omega); omega
   obtain ⟨f1,f2,⟨b,f3,f4⟩,f5,f6⟩:=hI.wM c _ _ c1 c2 c3 c4 hig
   have hsame:(S k).H[ad.block]?=(S (c+1)).H[ad.block]?:=hr.rF c4 (by omega) (by omega) (hskipG (c+1) (by omega) _ hmem)
   have hxp:VR (cutAt m S (c+1)) x x':=by
    rw [hxa,hx']
    exact AR.vr (.inl ⟨s1,jk.2 ⟨c4,hig⟩,s3,s4⟩)
   obtain ⟨v',h1,h2⟩:=EZ (m:=cutAt m S (c+1)) (w:=w) (P:=P) (H:=(S k).H) (loc:=(S k).loc) (fun a1 i g e1 e2 e3 e4=>by
     rw [hxa] at e1; injection e1 with e1; injection e1 with e1; subst e1; subst e3
     have e5:=(jk.1 e4).2
     rw [hig] at e5; injection e5 with e5; subst e5
     exact ⟨b,hsame.trans f3,f4⟩) (fun a1 i g e1 e2=>by
     rw [hxa] at e1; injection e1 with e1; injection e1 with e1; subst e1; rw [s1] at e2; cases e2) hxp h
   exact ⟨v',h1,h2.mono (hr.ug (by omega) (by omega))⟩
 ·obtain ⟨hik,hig⟩:=jm.1 s2
  have hmem:=hrg2 s1
  rcases hI.Vl hr hig with hw | ⟨c,c1,c2,c3,c4⟩
  ·have hsame:(S k).loc[ad.block]?=(S pe).loc[ad.block]?:=by
    rcases Nat.le_total pe k with hpk | hpk
    ·exact hr.CU hw hpk (by omega) (hskipL pe (au _) _ hmem)
    ·exact (hr.CU hik hpk hpl (hbackL _ hmem)).symm
   have hxp:VR (cutAt m S pe) x x':=by
    rw [hxa,hx']
    exact AR.vr (.inr ⟨s1,jm.2 ⟨hw,hig⟩,s3,s4⟩)
   obtain ⟨v',h1,h2⟩:=EZ (m:=cutAt m S pe) (w:=w) (P:=P) (H:=(S k).H) (loc:=(S k).loc) (fun a1 i g e1 e2=>by
     rw [hxa] at e1; injection e1 with e1; injection e1 with e1; subst e1; rw [s1] at e2; cases e2) (fun a1 i g e1 e2 e3 e4=>by
     rw [hxa] at e1; injection e1 with e1; injection e1 with e1; subst e1; subst e3
     obtain ⟨_,b,f1,f2⟩:=hI.ext.rel.iN _ g e4
     exact ⟨b,hsame.trans f1,f2⟩) hxp h
   refine ⟨v',h1,?_⟩
   rcases cu k pe with hpk | hpk
   ·have hb:(F k).bd=true:=by
     rcases htop with hp0 | ⟨oe,hoe,hee⟩
     ·omega
     ·have hLe:L (pe - 1):=(hI.pG _ _ hoe hee).2 (by omega)
      have hek:pe - 1≠k:=fun e'=>by rw [e',ho] at hoe; injection hoe with hoe; rw [←hoe,hne] at hee; cases hee
      obtain ⟨n1,n2⟩:=hfar _ _ hoe hee (.inr ⟨by omega,hLe⟩)
      exact (hdy _ k _ o hoe ho hee hld n1 n2).2.2 (by omega)
    rw [hbd] at hb
    have:=zk 6 v v' hb h2
    exact this.mono ⟨fun i g e=>jk.2 ⟨aC (oD.1 e).1 (hr.qw (by omega) (by omega)),(jk.1 (oD.1 e).2).2⟩,fun i g e=>jm.2 ⟨aC (ajK.1 e).1 (hr.qx (by omega) (by omega)),(jm.1 (ajK.1 e).2).2⟩,fun _ _ _=>rfl,fun _ _ _=>rfl,fun _ _ _=>rfl,rfl,fun _ _ _=>rfl,rfl⟩
   ·exact h2.mono (hr.ug (by omega) (by omega))
  ·have hck:c<k:=by
    rcases cu c k with h | h
    ·exact h
    ·have:=hr.qx h (by omega); omega
   obtain ⟨f1,f2,⟨b,f3,f4⟩,f5,f6⟩:=hI.yf c _ _ c1 c2 c3 c4 hig
   have hsame:(S k).loc[ad.block]?=(S (c+1)).loc[ad.block]?:=hr.CU c4 (by omega) (by omega) (hskipL (c+1) (by omega) _ hmem)
   have hxp:VR (cutAt m S (c+1)) x x':=by
    rw [hxa,hx']
    exact AR.vr (.inr ⟨s1,jm.2 ⟨c4,hig⟩,s3,s4⟩)
   obtain ⟨v',h1,h2⟩:=EZ (m:=cutAt m S (c+1)) (w:=w) (P:=P) (H:=(S k).H) (loc:=(S k).loc) (fun a1 i g e1 e2=>by
     rw [hxa] at e1; injection e1 with e1; injection e1 with e1; subst e1; rw [s1] at e2; cases e2) (fun a1 i g e1 e2 e3 e4=>by
     rw [hxa] at e1; injection e1 with e1; injection e1 with e1; subst e1; subst e3
     have e5:=(jm.1 e4).2
     rw [hig] at e5; injection e5 with e5; subst e5
     exact ⟨b,hsame.trans f3,f4.1⟩) hxp h
   exact ⟨v',h1,h2.mono (hr.ug (by omega) (by omega))⟩
end
end Go.Sm
end
section
namespace Go.Sm
section
variable {P:Program} {ops:List Oper} {S:Nat→St} {F:Nat→Fp} {m0:Mp} {H0:Hp} {w0:World}
def mf (listed:Array Bool) (k:Nat):Prop:=listed.getD k false=true
variable {k:Nat}
theorem Py {listed:Array Bool} (hk:k<listed.size):mf (listed.setIfInBounds k true)=fun c=>mf listed c∨c=k:=by
 funext c
 apply propext
 unfold mf
 by_cases hck:c=k
 ·subst hck
  simp [bI,hk]
 ·simp only [bI,Array.getElem?_setIfInBounds_ne (ae4 hck),hck,or_false]
theorem zn {α:Type} {c:Bool} {x y:Option α} {r:α} (h:cond c x y=some r):(c=true∧x=some r)∨(c=false∧y=some r):=by
 cases c with
 | true=>exact .inl ⟨rfl,h⟩
 | false=>exact .inr ⟨rfl,h⟩
theorem count_set {l:List Bool}:∀{k:Nat},l[k]?=some false→(l.set k true).count false+1=l.count false:=by
 induction l with
 | nil=>intro k h; simp at h
 | cons b l ih =>
  intro k h
  cases k with
  | zero=>simp at h; subst h; simp
  | succ k =>
   simp only [aeW] at h
   have:=ih h
   simp only [List.set_cons_succ,List.count_cons]
   omega
variable {X:Xt} {O:ig} {esc:Nat→Bool} {Q:Exit→Act→World→Prop}
theorem VF (hN:kP P) (hX:kD P X) (hO:iY P X.env O) (hE0:qb X m0) (hr:Run ops S F) (hs:Sta ops) (hdy:Hg ops F) (hc:ajJ ops=true) (h0:H0.length≤(S 0).H.length) (hin:∀e∈X.wins,e.2.2.2<(S 0).loc.length)
  (hst:∀k o,ops[k]?=some o→yV P X O esc ops o (S k)=some (S (k+1),F k))
  (hQ:∀m a w,jQ m0 H0 w0 (S ops.length) m a w→Q .normal a w) :
  ∀(fuel:Nat) (listed:Array Bool) (pe:Nat) (m:Mp) (a:Act) (w:World),listed.size=ops.length→listed.toList.count false=fuel→Closed ops (mf listed) →
   (pe=0∨∃o,ops[pe - 1]?=some o∧iZ o=true)→Inv ops S m0 H0 w0 (mf listed) pe m a w→wpAny P .any ops.toArray Q fuel listed a w:=by
 have hdone:∀(listed:Array Bool) (pe:Nat) (m:Mp) (a:Act) (w:World),listed.size=ops.length→Inv ops S m0 H0 w0 (mf listed) pe m a w→Region.ready .any ops.toArray listed=[]→Q .normal a w:=by
  intro listed pe m a w hsz hI hrdy
  have hall:∀k,k<ops.length→mf listed k:=by
   intro k
   induction k using Nat.strongRecOn with
   | ind k ih =>
    intro hk
    by_cases h:mf listed k
    ·exact h
    ·exfalso
     have:k∈Region.ready .any ops.toArray listed:=by
      rw [mem_ready]
      refine ⟨?_,ops[k],by simp [hk],fun e he hb=>?_⟩
      ·unfold mf at h
       have:k<listed.size:=by omega
       simp [bI,this] at h ⊢
       exact h
      ·have hlt:=hs.back k _ (ah hk) e he hb
       exact ih e.on hlt (by omega)
     rw [hrdy] at this; cases this
  have hpl:=hI.qz
  have hI':=hI.shift hr (ops.length - pe) (by omega) (fun e o h1 h2 ho=>by
   cases he:iZ o with
   | false=>rfl
   | true=>have:=(hI.pG e o ho he).1 (hall e (ai.1 ho).1); omega)
  rw [show pe+(ops.length - pe)=ops.length by omega] at hI'
  refine hQ (cutAt m S ops.length) a w ⟨hI'.ext,?_,hI.df⟩
  refine ⟨by rw [hr.lu (au _),←hI.lu]; simp,fun t v v' hv hv'=>?_⟩
  obtain ⟨j,u,h1,h2,h3,h4,h5⟩:=hI.fr t v' (by simpa using hv')
  have:(S ops.length).fr[t]?=(S j).fr[t]?:=hr.J6 h1 (au _) (fun c o hc1 hc2 ho hd=>by have:=h4 c o ho (hall c hc2) hd; omega)
  rw [hv,h2] at this
  injection this with this
  subst this
  exact h3.imp id (fun h3=>h3.mono (hr.ug h1 (au _)))
 intro fuel
 induction fuel with
 | zero =>
  intro listed pe m a w hsz hcnt hcl htop hI
  have hr0:Region.ready .any ops.toArray listed=[]:=by
   rw [List.eq_nil_iff_forall_not_mem]
   intro j hj
   obtain ⟨h1,o,ho,_⟩:=mem_ready.1 hj
   have hj':j<listed.size:=by
    rcases cu j listed.size with h | h
    ·exact h
    ·simp [bI,afc h] at h1
   rw [List.count_eq_zero] at hcnt
   apply hcnt
   simp [bI,hj'] at h1
   rw [←h1]
   simp
  exact ⟨hr0,hdone listed pe m a w hsz hI hr0⟩
 | succ fuel ih =>
  intro listed pe m a w hsz hcnt hcl htop hI
  refine ⟨fun h=>hdone listed pe m a w hsz hI h,fun k hk=>?_⟩
  obtain ⟨h1,o,ho,hrd⟩:=mem_ready.1 hk
  have ho':ops[k]?=some o:=by simpa using ho
  have hkl:k<ops.length:=(ai.1 ho').1
  have hks:k<listed.size:=by omega
  have hkf:listed[k]=false:=by simpa [bI,hks] using h1
  have hnot:¬mf listed k:=by unfold mf; simp [bI,hks,hkf]
  have hrd':∀e∈o.after,ae3 .any e=true→mf listed e.on:=hrd
  have hcnt':(listed.setIfInBounds k true).toList.count false=fuel:=by
   have:=count_set (l:=listed.toList) (k:=k) (by simp [hks,hkf])
   simp only [Array.toList_setIfInBounds]
   omega
  have hcl':Closed ops (fun c=>mf listed c∨c=k):=fun j o' hj hL e he hb=>by
   rcases hL with hL | rfl
   ·exact .inl (hcl j o' hj hL e he hb)
   ·rw [ho'] at hj; injection hj with hj; subst hj; exact .inl (hrd' e he hb)
  have next:∀pe' m' a' w',(pe'=0∨∃o,ops[pe' - 1]?=some o∧iZ o=true)→Inv ops S m0 H0 w0 (fun c=>mf listed c∨c=k) pe' m' a' w'→wpAny P .any ops.toArray Q fuel (listed.setIfInBounds k true) a' w':=fun pe' m' a' w' ht' hI' =>
   ih _ pe' m' a' w' (by simpa using hsz) hcnt' (by rw [Py hks]; exact hcl') ht' (by rw [Py hks]; exact hI')
  have hstep:=hst k o ho'
  unfold wpOp
  rw [ho]
  simp only
  unfold yV at hstep
  cases hgo:wP ops (S k).fr o with
  | false=>rw [hgo] at hstep; cases hstep
  | true =>
  rw [hgo] at hstep
  simp only [cond_true] at hstep
  rw [hI.wanted hr hs hcl ho' hnot hrd' hgo]
  cases hw:xx ops (S k).fr o with
  | false =>
   rw [hw] at hstep
   simp only [cond_false,ak,aP] at hstep
   simp only [ajp,if_false]
   have hne:iZ o=false∨iZ o=true:=by cases iZ o<;>simp
   have hS:(S (k+1)).fr=pQ (S k).fr o.dst undef:=by rw [←hstep.1]
   rcases hne with hne | hne
   ·exact next pe m _ w htop (hI.calm hr hs hcl ho' hnot hne hS (VR.undef _))
   ·
    have hIk:Inv ops S m0 H0 w0 (mf listed) k m a w:=by
     have hpk:pe≤k:=by
      rcases cu k pe with h | h
      ·exact absurd ((hI.pG k o ho' hne).2 h) hnot
      ·exact h
     have:=hI.shift hr (k - pe) (by omega) (fun e o'' e1 e2 e3=>by
      cases he:iZ o'' with
      | false=>rfl
      | true =>
       have hnL:¬mf listed e:=fun hl=>by have:=(hI.pG e o'' e3 he).1 hl; omega
       rcases hs.pair e k o'' o (by omega) e3 ho' with hb | ⟨hb,_⟩
       ·exact absurd (hb.ready hcl (fun o1 ho1=>by rw [ho'] at ho1; injection ho1 with ho1; subst ho1; exact hrd')) hnL
       ·exact absurd ⟨he,hne⟩ hb)
     rwa [show pe+(k - pe)=k by omega] at this
    have hx:Ext (cutAt m S k) (S k).H (S k).loc w (cutAt m S k) (S (k+1)).H (S (k+1)).loc w (F k).wg []:=by
     rw [←hstep.1,←hstep.2]; exact Ext.refl hIk.ext.rel
    obtain ⟨m',hI'⟩:=hIk.act hr hs hcl ho' hnot hx hS (VR.undef _)
    exact next (k+1) m' _ w (.inr ⟨o,by simpa using ho',hne⟩) hI'
  | true =>
   rw [hw] at hstep
   simp only [cond_true] at hstep
   simp only [if_true]
   left
   split at hstep
   ·rename_i out hout
    simp only [ak,aP] at hstep
    obtain ⟨hS,hF⟩:=hstep
    have hSfr:(S (k+1)).fr=pQ (S k).fr o.dst out.v:=by rw [←hS]
    have hSH:(S (k+1)).H=out.H:=by rw [←hS]
    have hSl:(S (k+1)).loc=out.loc:=by rw [←hS]
    have hopR:=hI.opR hr hs hc hcl ho' hnot hrd' (wL hout).1
    cases hkd:kindOf o.op with
    | wK =>
     have hne:iZ o=true:=by unfold iZ; rw [hkd]
     have hIk:Inv ops S m0 H0 w0 (mf listed) k m a w:=by
      have hpk:pe≤k:=by
       rcases cu k pe with h | h
       ·exact absurd ((hI.pG k o ho' hne).2 h) hnot
       ·exact h
      have:=hI.shift hr (k - pe) (by omega) (fun e o'' e1 e2 e3=>by
       cases he:iZ o'' with
       | false=>rfl
       | true =>
        have hnL:¬mf listed e:=fun hl=>by have:=(hI.pG e o'' e3 he).1 hl; omega
        rcases hs.pair e k o'' o (by omega) e3 ho' with hb | ⟨hb,_⟩
        ·exact absurd (hb.ready hcl (fun o1 ho1=>by rw [ho'] at ho1; injection ho1 with ho1; subst ho1; exact hrd')) hnL
        ·exact absurd ⟨he,hne⟩ hb)
      rwa [show pe+(k - pe)=k by omega] at this
     refine Jz (m:=cutAt m S k) hN hX hO (hI.Ir hr hE0 hin (by omega)) hopR hIk.ext.rel hout fun v' w' m1 hx hv=>?_
     have hx':Ext (cutAt m S k) (S k).H (S k).loc w m1 (S (k+1)).H (S (k+1)).loc w' (F k).wg out.wl:=by
      rw [hSH,hSl,←hF]; exact hx
     obtain ⟨m',hI'⟩:=hIk.act hr hs hcl ho' hnot hx' hSfr hv
     exact next (k+1) m' _ w' (.inr ⟨o,by simpa using ho',hne⟩) hI'
    | J4 =>
     have hne:iZ o=false:=by unfold iZ; rw [hkd]
     replace hout:=(wL hout).2
     unfold xS at hout
     rw [hkd] at hout
     simp only at hout
     split at hout
     ·rename_i v hv
      injection hout with hout
      have hov:out.v=v:=by rw [←hout]
      obtain ⟨v',hrun,hvr⟩:=OB (P:=P) (by rw [(hI.Ir hr hE0 hin (k:=k) (by omega)).env]; exact hX.2.1) hX.2.2 (hI.Ir hr hE0 hin (by omega)).win (hI.eD hr (k:=k) (by omega)) hopR hv w
      unfold Oper.wp
      rw [hrun]
      exact next pe m _ w htop (hI.calm hr hs hcl ho' hnot hne (by rw [hSfr,hov]) (hvr.mono (hr.ug (by omega) hkl)))
     ·cases hout
    | load =>
     have hne:iZ o=false:=by unfold iZ; rw [hkd]
     have hld:isLoad o=true:=by unfold isLoad; rw [hkd]
     replace hout:=(wL hout).2
     unfold xS at hout
     rw [hkd] at hout
     simp only at hout
     split at hout
     ·rename_i t x hox
      split at hout
      ·rename_i v hv
       injection hout with hout
       have hov:out.v=v:=by rw [←hout]
       obtain ⟨v',hrun,hvr⟩:=hI.load (P:=P) hr hs hdy hcl htop ho' hnot hrd' hld (hopR x (by simp [hox,bF])) hv (fun ad had=>by
        rw [←hF]
        simp only [readsOf,hox,had]
        obtain ⟨ab,ao,asp⟩:=ad
        constructor
        ·intro e; simp only at e; subst e; simp
        ·intro e; simp only at e; subst e; simp) (by rw [←hF,←hov])
       unfold Oper.wp execOp
       simp only [hox,di,hrun,bC,dA]
       exact next pe m _ w htop (hI.calm hr hs hcl ho' hnot hne (by rw [hSfr,hov]) hvr)
      ·cases hout
     ·cases hout
    | alloc =>
     have hne:iZ o=false:=by unfold iZ; rw [hkd]
     replace hout:=(wL hout).2
     unfold xS at hout
     rw [hkd] at hout
     simp only [Ez,nC] at hout
     split at hout
     ·rename_i b kk hb
      obtain ⟨cs,hrun,hvr,hlive,hloose⟩:=MG (P:=P) hopR hb w
      unfold Oper.wp
      rw [hrun]
      simp only [Oper.upon]
      rcases zn hout with ⟨_,hout⟩ | ⟨_,hout⟩
      ·rcases zn hout with ⟨hn,hout⟩ | ⟨_,hout⟩
       ·simp only [ak] at hout
        have hoH:out.H=(S k).H++[b]:=by rw [←hout]
        have hol:out.loc=(S k).loc:=by rw [←hout]
        have hov:out.v=uu kk ⟨(S k).H.length,0,none⟩:=by rw [←hout]
        refine next pe _ _ _ htop (hI.Zt hr hs h0 hcl ho' hnot hne (hSH.trans hoH) (hSl.trans hol) (vB hn hvr) hloose (by rw [hSfr,hov]) ?_)
        exact Fg (a:=⟨(S k).H.length,0,none⟩) (a':=⟨w.heap.size,0,none⟩) (.inl ⟨rfl,jk.2 ⟨by rw [hSH,hoH]; simp,by simp [Mp.gN]⟩,rfl,rfl⟩) kk
       ·cases hout
      ·simp only [ak] at hout
       have hoH:out.H=(S k).H:=by rw [←hout]
       have hol:out.loc=(S k).loc++[b]:=by rw [←hout]
       have hov:out.v=uu kk ⟨(S k).loc.length,0,some 0⟩:=by rw [←hout]
       refine next pe _ _ _ htop (hI.Zu hr hs hcl ho' hnot hne (hSH.trans hoH) (hSl.trans hol) hvr hlive hloose (by rw [hSfr,hov]) ?_)
       exact Fg (a:=⟨(S k).loc.length,0,some 0⟩) (a':=⟨w.heap.size,0,none⟩) (.inr ⟨rfl,jm.2 ⟨by rw [hSl,hol]; simp,by simp [Mp.jy]⟩,by simp [cutAt,Mp.cut,Mp.jy],rfl⟩) kk
     ·cases hout
   ·cases hstep
variable {s:St} {m:Mp} {w:World}
theorem Xz (hm:P.follows .mixedOrders=true) (hN:kP P) (hX:kD P X) (hO:iY P X.env O) (hE0:qb X m0) (hP:jc O) (hc:ajJ ops=true) {s':St} {a:Act} {id:Nat}
  (h:Em P X O esc ops s=some s') (hsim:jQ m0 H0 w0 s m a w) (hQ:∀m' a' w',jQ m0 H0 w0 s' m' a' w'→Q .normal a' w'):(Code.region id ops.toArray true).wp P Q a w:=by
 unfold Em at h
 cases hst:GQ ops with
 | false=>rw [hst] at h; cases h
 | true =>
  rw [hst] at h
  simp only [cond_true] at h
  split at h
  ·rename_i s1 fps htr
   cases hdy:Eo (Cr ops) fps with
   | false=>rw [hdy] at h; cases h
   | true =>
    rw [hdy] at h
    simp only [cond_true,ak] at h
    subst h
    obtain ⟨S,F,e0,e1,e2,e3⟩:=UR ops s s1 fps htr
    have hr:Run ops S F:=⟨fun k o ho=>UD hP (e3 k o ho),fun k o ho hne=>ady hne (e3 k o ho)⟩
    have hs:=adx hst
    have hdr:Hg ops F:=fun i j x y hx hy ex ly n1 n2=>XA hdy hx hy ex ly n1 n2 (e2 i (ai.1 hx).1) (e2 j (ai.1 hy).1)
    have hfr:=hsim.fr
    have hext:=hsim.ext
    have hcut:Le m (cutAt m S 0):=by
     refine ⟨fun i g e=>jk.2 ⟨?_,e⟩,fun i g e=>jm.2 ⟨?_,e⟩,fun _ _ _=>rfl,fun _ _ _=>rfl,fun _ _ _=>rfl,rfl,fun _ _ _=>rfl,rfl⟩
     ·obtain ⟨_,b,hb,_⟩:=hext.rel.ic i g e
      rw [e0]; exact (ai.1 hb).1
     ·obtain ⟨_,b,hb,_⟩:=hext.rel.iN i g e
      rw [e0]; exact (ai.1 hb).1
    refine wp_region_any hm (VF hN hX hO hE0 hr hs hdr hc (by rw [e0]; exact hext.len) (fun e he=>(by
     obtain ⟨_,_,_,_,_,_,_,_,_,_,h6,_⟩:=hE0.win.win e he
     obtain ⟨_,b,hb,_⟩:=hext.rel.iN _ _ (hext.le.lb _ _ h6)
     rw [e0]; exact (ai.1 hb).1)) e3 (fun m' a' w' hs'=>hQ m' a' w' (e1▸hs')) _ _ 0 m a _ (by simp) (by simp) (fun j o ho hL=>?_) (.inl rfl) ?_)
    ·unfold mf at hL
     simp [bI] at hL
     rcases cu j ops.length with h | h
     ·simp [h] at hL
     ·simp [Nat.not_lt.2 h] at hL
    ·have hLf:∀c,¬mf (aji ops.toArray.size false) c:=fun c hL=>by
      unfold mf at hL
      rcases cu c ops.length with h | h
      ·simp [bI,h] at hL
      ·simp [bI,Nat.not_lt.2 h] at hL
     refine ⟨by omega,fun e o ho he=>⟨fun hL=>absurd hL (hLf e),fun h=>by omega⟩,?_,fun i g e=>?_,fun i g e=>?_,fun c i g c1 c2 c3 c4 e=>?_,fun c i g c1 c2 c3 c4 e=>?_,fun c hc=>by omega,fun c hc=>by omega,fun t v' hv=>?_,?_,hsim.df⟩
     ·rw [e0]
      refine xW hext hcut (fun _ _=>rfl) (au _) (fun _ _=>rfl) (au _) (fun _ _=>rfl) (au _) rfl rfl rfl (fun i g e=>.inl (jk.1 e).2) (fun i g e=>.inl (jm.1 e).2)
     ·obtain ⟨_,b,hb,_⟩:=hext.rel.ic i g e
      rw [e0]; exact .inl (ai.1 hb).1
     ·obtain ⟨_,b,hb,_⟩:=hext.rel.iN i g e
      rw [e0]; exact .inl (ai.1 hb).1
     ·obtain ⟨_,b,hb,_⟩:=hext.rel.ic i g e
      have h1:=(ai.1 hb).1
      have h2:=hr.qw (j:=0) (k:=c) (by omega) (by omega)
      rw [e0] at h2; omega
     ·obtain ⟨_,b,hb,_⟩:=hext.rel.iN i g e
      have h1:=(ai.1 hb).1
      have h2:=hr.qx (j:=0) (k:=c) (by omega) (by omega)
      rw [e0] at h2; omega
     ·have hlen:s.fr.length=a.tmps.size:=by simpa using hfr.1
      have ht:t<s.fr.length:=by rw [hlen]; exact (aB.1 hv).1
      refine ⟨0,s.fr[t],by omega,by rw [e0]; exact ah ht,(hfr.2 t _ v' (ah ht) (by simpa using hv)).imp (fun x=>x) (fun h=>h.mono hcut),fun c o ho hL=>absurd hL (hLf c),.inl rfl⟩
     ·rw [e0]; simpa using hfr.1.symm
  ·cases h
end
end Go.Sm
end
section
namespace Go.Sm
def vS:Ex→Exit
 | .normal=>.normal
 | .exit id=>.exit id
 | .ret=>.ret
section
variable {P:Program} {m0:Mp} {H0:Hp} {w0:World}
variable {X:Xt} {O:ig} {esc:Nat→Bool} {fuel:Nat}
theorem AA (hm:P.follows .mixedOrders=true) (hN:kP P) (hX:kD P X) (hO:iY P X.env O) (hE0:qb X m0) (hP:jc O) :
  ∀(c:Code) (s:St) (x:Ex) (s':St) (m:Mp) (a:Act) (w:World) (Q:Exit→Act→World→Prop),exec P X O esc fuel c s=some (x,s')→jQ m0 H0 w0 s m a w →
   (∀m' a' w',jQ m0 H0 w0 s' m' a' w'→Q (vS x) a' w')→c.wp P Q a w:=by
 intro c
 induction c with
 | skip =>
  intro s x s' m a w Q h hs hQ
  simp only [exec,ak,aP] at h
  obtain ⟨rfl,rfl⟩:=h
  exact wp_skip (hQ m a w hs)
 | region id ops draw =>
  intro s x s' m a w Q h hs hQ
  unfold exec at h
  rcases zn h with ⟨hc,h⟩ | ⟨_,h⟩
  ·split at h
   ·rename_i s1 h1
    simp only [ak,aP] at h
    obtain ⟨rfl,rfl⟩:=h
    cases draw with
    | true =>
     simp only [cond_true] at h1
     have:=Xz (id:=id) hm hN hX hO hE0 hP hc h1 hs hQ
     simpa using this
    | false =>
     simp only [cond_false] at h1
     exact wp_region_list (by simpa using LJ hN hX hO hE0 ops.toList s s1 m a w hc h1 hs hQ)
   ·cases h
  ·cases h
 | seq c d ihc ihd =>
  intro s x s' m a w Q h hs hQ
  unfold exec at h
  refine wp_seq ?_
  split at h
  ·rename_i s1 h1
   exact ihc s .normal s1 m a w _ h1 hs fun m1 a1 w1 hs1=>ihd s1 x s' m1 a1 w1 Q h hs1 hQ
  ·rename_i r hne
   refine ihc s x s' m a w _ h hs fun m1 a1 w1 hs1=>?_
   cases x with
   | normal=>exact absurd h (hne s')
   | exit i=>exact hQ m1 a1 w1 hs1
   | ret=>exact hQ m1 a1 w1 hs1
 | cond c t e iht ihe =>
  intro s x s' m a w Q h hs hQ
  unfold exec at h
  split at h
  ·rename_i b hb
   have hev:a.eval c=.bool b:=by
    cases c with
    | tmp t =>
     have:=CJ hs.fr (x:=.tmp t) rfl (by rw [hb]; rfl)
     rw [hb] at this
     exact Ab this
    | const v=>simp only [nA] at hb; subst hb; rfl
    | global g=>simp [nA] at hb
    | func f=>simp [nA] at hb
   cases b with
   | true=>exact wp_cond_true hev (iht s x s' m a w Q h hs hQ)
   | false=>exact wp_cond_false hev (ihe s x s' m a w Q h hs hQ)
  ·cases h
 | block id c ih =>
  intro s x s' m a w Q h hs hQ
  unfold exec at h
  refine wp_block ?_
  split at h
  ·rename_i i s1 h1
   rcases zn h with ⟨hi,h⟩ | ⟨hi,h⟩
   ·simp only [ak,aP] at h
    obtain ⟨rfl,rfl⟩:=h
    refine ih s (.exit i) s1 m a w _ h1 hs fun m1 a1 w1 hs1=>?_
    have:i=id:=by simpa using hi
    simp only [vS,Exit.inBlock,this,if_true]
    exact hQ m1 a1 w1 hs1
   ·simp only [ak,aP] at h
    obtain ⟨rfl,rfl⟩:=h
    refine ih s (.exit i) s1 m a w _ h1 hs fun m1 a1 w1 hs1=>?_
    have:¬i=id:=by simpa using hi
    simp only [vS,Exit.inBlock,this,if_false]
    exact hQ m1 a1 w1 hs1
  ·rename_i r hne
   refine ih s x s' m a w _ h hs fun m1 a1 w1 hs1=>?_
   cases x with
   | normal=>exact hQ m1 a1 w1 hs1
   | exit i=>exact absurd h (hne i s')
   | ret=>exact hQ m1 a1 w1 hs1
 | loop c ih =>
  intro s x s' m a w Q h hs hQ
  unfold exec at h
  refine wp_loop_rounds fuel ?_
  have:∀(n:Nat) (s:St) (m:Mp) (a:Act) (w:World),aj6 (exec P X O esc fuel c) n s=some (x,s')→jQ m0 H0 w0 s m a w→Code.rounds P c Q n a w:=by
   intro n
   induction n with
   | zero=>intro s m a w h _; cases h
   | succ n ihn =>
    intro s m a w h hs
    unfold aj6 at h
    rw [rounds_succ]
    split at h
    ·rename_i s1 h1
     exact ih s .normal s1 m a w _ h1 hs fun m1 a1 w1 hs1=>ihn s1 m1 a1 w1 h hs1
    ·rename_i r hne
     refine ih s x s' m a w _ h hs fun m1 a1 w1 hs1=>?_
     cases x with
     | normal=>exact absurd h (hne s')
     | exit i=>exact hQ m1 a1 w1 hs1
     | ret=>exact hQ m1 a1 w1 hs1
  exact this fuel s m a w h hs
 | exit id =>
  intro s x s' m a w Q h hs hQ
  simp only [exec,ak,aP] at h
  obtain ⟨rfl,rfl⟩:=h
  exact wp_exit (hQ m a w hs)
 | ret =>
  intro s x s' m a w Q h hs hQ
  simp only [exec,ak,aP] at h
  obtain ⟨rfl,rfl⟩:=h
  exact wp_ret (hQ m a w hs)
 | rangeFunc f ps az b iha ihb=>intro s x s' m a w Q h; simp [exec] at h
 | scope c ih=>intro s x s' m a w Q h; simp [exec] at h
 | label l=>intro s x s' m a w Q h; simp [exec] at h
 | goto l=>intro s x s' m a w Q h; simp [exec] at h
 | refuse y=>intro s x s' m a w Q h; simp [exec] at h
def FZ (tmps:Array Value) (r:ResultVar):Sem Value :=
 match r with
 | .tmp t=>pure (tmps.getD t undef)
 | .cell x t=>do loadVar t (←asAddr (tmps.getD x undef))
theorem Q6 (fn:Func) (tmps:Array Value):results fn tmps=(do let vs ←fn.results.mapM (FZ tmps); pure (if h:vs.size=1 then vs[0] else .tuple vs)):=by
 unfold results
 congr 2
theorem F4 {m:Mp} {s:St} {a:Act} {w:World} (hR:Rel m s.H s.loc w) (hf:qX m s.fr a.tmps.toList):∀(l:List ResultVar) (vs:List Value),qP P s l=some vs →
  ∃vs',(l.mapM (FZ a.tmps)).run P w=.ok vs' w∧ek m vs vs'
 | [],vs,h=>by
  simp only [qP,ak] at h
  subst h
  exact ⟨[],by simp,ek.nil m⟩
 | .tmp t::rest,vs,h=>by
  unfold qP at h
  split at h
  ·rename_i vs1 h1
   cases hdd:u7 (s.fr.getD t undef) with
   | true=>rw [hdd] at h; cases h
   | false =>
   rw [hdd] at h
   injection h with h; subst h
   obtain ⟨vs',hr,hv⟩:=F4 hR hf rest vs1 h1
   refine ⟨a.tmps.getD t undef::vs',by simp only [List.mapM_cons,FZ,di,dA,bC,hr],.cons (CJ hf (x:=.tmp t) rfl hdd) hv⟩
  ·cases h
 | .cell x t::rest,vs,h=>by
  unfold qP at h
  split at h
  ·rename_i v1 vs1 hl h1
   injection h with h; subst h
   obtain ⟨vs',hr,hv⟩:=F4 hR hf rest vs1 h1
   have hdd:u7 (nA s.fr (.tmp x))=false:=by
    show u7 (s.fr.getD x undef)=false
    unfold vQ at hl
    split at hl
    ·rename_i ad had; rw [had]; rfl
    ·cases hl
   obtain ⟨v',hl',hvr⟩:=Px (P:=P) hR (CJ hf (x:=.tmp x) rfl hdd) hl
   refine ⟨v'::vs',?_,.cons hvr hv⟩
   have hx:=CJ hf (x:=.tmp x) rfl hdd
   simp only [nA,Act.eval] at hx hl'
   unfold vQ at hl
   split at hl
   ·rename_i ad had
    rw [had] at hx
    obtain ⟨ad',hx',har⟩:=vz hx
    rw [hx'] at hl'
    have e1:(loadVar t ad').run P w=.ok v' w:=by simpa [Instr.loadAt,Instr.sureAddr] using hl'
    simp only [List.mapM_cons,FZ,hx',asAddr,di,dA,bC,e1,hr]
   ·cases hl
  ·cases h
variable {m m1:Mp} {H H1 loc1:Hp} {w w':World}
theorem aei (hR:Rel m H [] w) (h:Ext m H [] w m1 H1 loc1 w' [] []):Ext m H [] w m H [] w' [] [] where
 le:=Le.refl m
 rel:=by
  refine ⟨fun i g e=>?_,fun i g e=>?_,hR.ko,hR.pJ,hR.lh,fun i g b e e1=>(by simp at e1),fun g c hc=>⟨⟨(h.rel.fz g c (by rw [h.le.env]; exact hc)).1.1,(hR.fz g c hc).1.2⟩,fun i b e e1=>by simp at e1⟩,hR.f0⟩
  ·obtain ⟨h1,b,h2,h3⟩:=hR.ic i g e
   exact ⟨aC h1 h.size,b,h2,h3.mono (Le.refl m) e (fun hl=>h.cmod i g b e h2 hl (by simp))⟩
  ·obtain ⟨_,b,h2,_⟩:=hR.iN i g e
   simp at h2
 img:=fun i g e=>.inl ⟨i,e⟩
 oG:=fun i g e=>.inl e
 dom:=fun i g e=>.inl e
 lN:=fun i g e=>.inl e
 os:=h.os
 tape:=h.tape
 output:=h.output
 size:=h.size
 frame:=h.frame
 un:=fun _ _ _=>rfl
 vw:=fun _ _ _=>rfl
 mod:=fun _ _ _=>rfl
 nT:=fun _ _ _=>rfl
 len:=au _
 lH:=au _
 kp:=fun i b e=>⟨b,e,rfl,rfl⟩
 cmod:=fun i g b e hb hl _=>h.cmod i g b e hb hl (by simp)
 sZ:=h.sZ
variable {wg:List Nat}
theorem Z9 (hlb:m.lb=lY) (h:Ext m H [] w m1 H1 loc1 w' wg []):Ext m H [] w m1.jF H1 [] w' wg [] :=
 { h with
  le:=⟨h.le.gb,fun i g e=>(by rw [hlb] at e; cases e),h.le.loose,h.le.eD,h.le.tot,h.le.env,fun i g e=>(by rw [hlb] at e; cases e),h.le.bs⟩
  rel:=KX h.rel
  oG:=fun i g e=>(by cases e)
  lN:=fun i g e=>(by cases e)
  vw:=fun _ _ _=>rfl
  nT:=fun _ _ _=>rfl
  lH:=au _ }
variable {s:St} {v v':Value} {H':Hp} {md:List Nat}
theorem al2 (hlb:m.lb=lY) (hR:Rel m H [] w) (hx:Ext m H [] w m1 s.H s.loc w' s.wg []) {v0:Value} (hv:VR m1 v v') (h:finish H s v=some (v0,H',md)) :
  ∃m',VR m' v0 v'∧Ext m H [] w m' H' [] w' md []∧m'.lb=lY:=by
 unfold finish at h
 rcases zn h with ⟨hn,h⟩ | ⟨_,h⟩
 ·rcases zn h with ⟨hp,h⟩ | ⟨_,h⟩
  ·simp only [ak,aP] at h
   obtain ⟨rfl,rfl,rfl⟩:=h
   simp only [aQ,List.isEmpty_iff] at hp
   rw [hp.1] at hx
   refine ⟨m,?_,aei hR hx,hlb⟩
   exact KR hx.le.env.symm 4 _ _ hp.2 hv
  ·simp only [ak,aP] at h
   obtain ⟨rfl,rfl,rfl⟩:=h
   exact ⟨m1.jF,Vb hn hv,Z9 hlb hx,rfl⟩
 ·cases h
theorem VR.swap {k:Mp} (h0:m.lb=lY) (h1:k.gb=m.gb) (h2:k.loose=m.loose) (h3:k.eD=m.eD) (h4:k.tot=m.tot) (h5:k.env=m.env) (h:VR m v v'):VR k v v':=by
 induction h with
 | bool b=>exact .bool b
 | int k n=>exact .int k n
 | float k n=>exact .float k n
 | string s=>exact .string s
 | tH=>exact .tH
 | pO h=>exact .pO (by rw [h1]; exact h)
 | afr h ho=>rw [h0] at h; cases h
 | qD n c=>exact .qD n c
 | ow h=>exact .ow (by rw [h1]; exact h)
 | qW h hl hc ht=>exact .qW (by rw [h1]; exact h) (by rw [h2]; exact hl) hc (by rw [h3,h4]; exact ht)
 | qV h hl=>exact .qV (by rw [h1]; exact h) (by rw [h2]; exact hl)
 | xm h ho=>rw [h0] at h; cases h
 | uq=>exact .uq
 | nilFunc=>exact .nilFunc
 | nilIface=>exact .nilIface
 | jX hf h=>exact .jX hf (by rw [h5]; exact h)
 | jV hf h=>exact .jV hf (by rw [h5]; exact h)
 | hnd hf h2=>rw [←h5]; exact .hnd hf h2
 | func hf hl _ hl2 _ ih ih2=>exact .func hf hl ih hl2 ih2
 | iface _ ih=>exact .iface ih
 | agg hl _ ih=>exact .agg hl ih
 | tuple hl _ ih=>exact .tuple hl ih
theorem ek.swap {m k:Mp} (h0:m.lb=lY) (h1:k.gb=m.gb) (h2:k.loose=m.loose) (h3:k.eD=m.eD) (h4:k.tot=m.tot) (h5:k.env=m.env) {v v':List Value} (h:ek m v v'):ek k v v' :=
 ⟨h.1,fun i x y a b=>(h.2 i x y a b).swap h0 h1 h2 h3 h4 h5⟩
def Mp.mZ (m:Mp):Mp:={ m with lb:=fun i=>(m.env.wl[i]?).map (·.1),sh:=fun i=>((m.env.wl[i]?).map (·.2)).getD 0,bs:=fun g=>(m.env.fz g).getD (#[],0,0,0) }
variable {i:Nat}
theorem Vm {x:Nat×Nat} (h:m.env.wl[i]?=some x):m.mZ.lb i=some x.1∧m.mZ.sh i=x.2:=⟨by simp [Mp.mZ,h],by simp [Mp.mZ,h]⟩
variable {g:Nat}
theorem Vn (h:m.mZ.lb i=some g):∃s,m.env.wl[i]?=some (g,s):=by
 simp only [Mp.mZ,aR] at h
 obtain ⟨x,h1,h2⟩:=h
 exact ⟨x.2,by rw [h1,←h2]⟩
theorem acI (hW:ze X) (hE:m.env=X.env) (hR:Rel m H [] w):Rel m.mZ H X.wb w:=by
 have hw:∀i g,m.mZ.lb i=some g→∃(s:Nat) (b:eG) (c:Array Value×TypeId×(Nat×Nat)),m.env.wl[i]?=some (g,s)∧X.wb[i]?=some b∧((b.live=true∧b.loose=true)∧b.eD≠0)∧m.env.fz g=some c∧s+b.cells.length≤c.1.size∧∀m:Mp,m.env=X.env→ek m b.cells ((c.1.toList.drop s).take b.cells.length):=fun i g e=>by
  obtain ⟨s,e1⟩:=Vn e
  have hi:i<X.wb.length:=by
   have:=(ai.1 e1).1
   rw [hE,hW.len] at this; exact this
  obtain ⟨k,g',s',c,q1,q2,q3,q4⟩:=hW.blk i _ (ah hi)
  rw [←hE,e1] at q1; injection q1 with q1; injection q1 with q1 q1'; subst q1; subst q1'
  exact ⟨s,_,c,e1,ah hi,k,by rw [hE]; exact q2,q3,q4⟩
 refine ⟨fun i g e=>?_,fun i g e=>?_,hR.ko,fun i j g bi bj e e' hi hj=>?_,fun i j g e e'=>?_,fun i g b e hb _=>?_,fun g c hc=>⟨(hR.fz g c hc).1,fun i b e hb=>?_⟩,hR.f0⟩
 ·obtain ⟨h1,b,h2,h3⟩:=hR.ic i g e
  exact ⟨h1,b,h2,h3.lo,h3.ez,fun hl=>by
   obtain ⟨cs,q1,q2,q3,q4⟩:=h3.blk hl
   exact ⟨cs,q1,q2,ek.swap (m:=m.jF) (k:=m.mZ.jF) rfl rfl rfl rfl rfl rfl q3,q4⟩⟩
 ·obtain ⟨s,b,c,q1,q2,q3,q4,q5,q6⟩:=hw i g e
  have hg:=(hR.fz g c q4).1.1
  have hs:=(Vm q1).2
  simp only at hs
  refine ⟨(aB.1 hg).1,b,q2,⟨fun _=>⟨c.1,c.2.1,c.2.2,hg,by rw [hs]; exact q5,by rw [hs]; exact q6 _ hE,(fun e=>by rw [q3.1.2] at e; cases e),fun e=>absurd e q3.2⟩,(fun e=>by rw [q3.1.1] at e; cases e)⟩⟩
 ·obtain ⟨_,b1,_,_,p2,p3,_⟩:=hw i g e
  obtain ⟨_,b2,_,_,q2,q3,_⟩:=hw j g e'
  rw [hi] at p2; injection p2 with p2; subst p2
  rw [hj] at q2; injection q2 with q2; subst q2
  exact .inr ⟨p3.1.1,q3.1.1,p3.1.2,q3.1.2,.inr ⟨p3.2,q3.2⟩⟩
 ·obtain ⟨_,_,c,_,_,_,q4,_⟩:=hw j g e'
  exact (hR.fz g c q4).1.2 i e
 ·obtain ⟨_,_,c,_,_,_,q4,_⟩:=hw i g e
  have hb:m.mZ.bs g=c:=by simp [Mp.mZ,q4]
  exact ⟨c.1,by rw [hb]; exact (hR.fz g c q4).1.1,by rw [hb],fun o _=>by rw [hb]⟩
 ·obtain ⟨_,b1,_,_,p2,p3,_⟩:=hw i g e
  rw [hb] at p2; injection p2 with p2; subst p2
  exact p3
def Mp.H8 (k m:Mp):Mp:={ k with lb:=lY,sh:=m.sh,bs:=m.bs }
variable {m2:Mp}
theorem Wq (hW:ze X) (hE:m.env=X.env) (hlb:m.lb=lY) (hR:Rel m H [] w) (h:Ext m.mZ H [] w m2 H1 loc1 w' wg []):Ext m H [] w (m2.H8 m) H1 [] w' wg [] where
 le:=⟨h.le.gb,fun i g e=>(by rw [hlb] at e; cases e),h.le.loose,h.le.eD,h.le.tot,h.le.env,fun i g e=>(by rw [hlb] at e; cases e),rfl⟩
 rel:=by
  have hr:=KX h.rel
  refine ⟨fun i g e=>?_,(fun i g e=>by cases e),hr.ko,(fun i j g bi bj e=>by cases e),(fun i j g _ e=>by cases e),(fun i g b e=>by cases e),(fun g c hc=>⟨(hr.fz g c hc).1,fun i b e=>by cases e⟩),h.rel.f0⟩
  obtain ⟨h1,b,h2,h3⟩:=hr.ic i g e
  exact ⟨h1,b,h2,h3.lo,h3.ez,fun hl=>by
   obtain ⟨cs,q1,q2,q3,q4⟩:=h3.blk hl
   exact ⟨cs,q1,q2,ek.swap (m:=m2.jF.jF) (k:=(m2.H8 m).jF) rfl rfl rfl rfl rfl rfl q3,q4⟩⟩
 img:=h.img
 oG:=fun i g e=>(by cases e)
 dom:=h.dom
 lN:=fun i g e=>(by cases e)
 os:=h.os
 tape:=h.tape
 output:=h.output
 size:=h.size
 frame:=fun g hg hn _=>by
  by_cases hx:∃i,m.mZ.lb i=some g
  ·obtain ⟨i,e⟩:=hx
   obtain ⟨s,e1⟩:=Vn e
   have hi:i<X.wb.length:=by
    have:=(ai.1 e1).1
    rw [hE,hW.len] at this; exact this
   obtain ⟨_,g',s',c,q1,q2,_⟩:=hW.blk i _ (ah hi)
   rw [←hE,e1] at q1; injection q1 with q1; injection q1 with q1 q1'; subst q1
   rw [←hE] at q2
   have hk:m2.env=m.env:=h.le.env
   rw [(hR.fz g c q2).1.1,(h.rel.fz g c (by rw [hk]; exact q2)).1.1]
  ·exact h.frame g hg hn (fun i e=>hx ⟨i,e⟩)
 un:=h.un
 vw:=fun _ _ _=>rfl
 mod:=h.mod
 nT:=fun _ _ _=>rfl
 len:=h.len
 lH:=au _
 kp:=h.kp
 cmod:=h.cmod
 sZ:=h.sZ
theorem adw (hW:ze X) (hE:m.env=X.env) (hR:Rel m H [] w):Ext m.mZ H [] w m.mZ H X.wb w [] [] :=
 ⟨Le.refl _,acI hW hE hR,fun i g e=>.inl ⟨i,e⟩,fun _ _ e=>.inl e,fun _ _ e=>.inl e,fun _ _ e=>.inl e,rfl,rfl,rfl,au _,fun _ _ _ _=>rfl,fun _ _ _=>rfl,fun i hi=>(by simp at hi),fun _ _ _=>rfl,fun i hi=>(by simp at hi),au _,by simp,fun _ b e=>⟨b,e,rfl,rfl⟩,fun _ _ _ _ _ _ _=>rfl,hR.fz.lt⟩
variable {vs vs':List Value}
theorem QJ (h:ek m vs vs'):VR m (kW vs) (if h:vs'.toArray.size=1 then vs'.toArray[0] else .tuple vs'.toArray):=by
 match vs,vs',h with
 | [],[],h=>simp [kW]; exact h.tuple
 | [v],[v'],h=>simp [kW]; exact h.2 0 v v' rfl rfl
 | v::u::l,v'::u'::l',h=>simp [kW]; exact h.tuple
 | [],_::_,h=>have:=h.1; simp at this
 | _::_,[],h=>have:=h.1; simp at this
 | [_],_::_::_,h=>have:=h.1; simp at this
 | _::_::_,[_],h=>have:=h.1; simp at this
theorem WK (hm:P.follows .mixedOrders=true) (hN:kP P) (hX:kD P X) {esc:FuncId→Nat→Bool} (hO:iY P X.env O) (hP:jc O) (hW:ze X):iY P X.env (Dp P X esc fuel O):=by
 intro f args H v H' md h m w args' hE1 hlb hR hargs
 have hE0:qb X m.mZ:=⟨hE1,hW.win _ hE1 fun i x e=>Vm (by rw [hE1]; exact e)⟩
 unfold Dp at h
 split at h
 ·cases h
 ·rename_i fn hf
  split at h
  ·cases h
  ·rename_i c hc
   have hlen:args.length=args'.toArray.size:=by simpa using hargs.1
   have hsim:jQ m.mZ H w ⟨args++ag6 (fn.ntmps - args.length) undef,H,X.wb,[]⟩ m.mZ { tmps:=args'.toArray++aji (fn.ntmps - args'.toArray.size) undef,defers:=[] } w:=by
    refine ⟨adw hW hE1 hR,?_,rfl⟩
    replace hargs:=hargs.swap (k:=m.mZ) hlb rfl rfl rfl rfl rfl
    have:(args'.toArray++aji (fn.ntmps - args'.toArray.size) undef).toList=args'++ag6 (fn.ntmps - args.length) undef:=by simp [hargs.1]
    rw [this]
    refine ek.Yc (hargs.append ⟨rfl,fun i a b ha hb=>?_⟩)
    rw [ha] at hb; injection hb with hb; subst hb
    have:=aN ha
    rw [(List.mem_replicate.1 this).2]
    exact VR.undef _
   have key:∀(s:St),(∃vs,qP P s fn.results.toList=some vs∧finish H s (kW vs)=some (v,H',md))→∀m1 a1 w1,jQ m.mZ H w s m1 a1 w1 →
     a1.defers=[]∧∃v',(results fn a1.tmps).run P w1=.ok v' w1∧(∃v'' m',Ending.returned v'=.returned v''∧VR m' v v''∧Ext m H [] w m' H' [] w1 md []∧m'.lb=lY):=by
    intro s ⟨vs,h1,h2⟩ m1 a1 w1 hs
    refine ⟨hs.df,?_⟩
    obtain ⟨vs',hr,hv⟩:=F4 (P:=P) hs.ext.rel hs.fr _ _ h1
    have hn:kV (kW vs)=true:=by
     unfold finish at h2
     rcases zn h2 with ⟨hn,_⟩ | ⟨_,h2⟩
     ·exact hn
     ·cases h2
    obtain ⟨m',e1,e2,e3⟩:=al2 (s:={ s with loc:=[] }) hlb hR (Wq hW hE1 hlb hR hs.ext) (zI (m:=m1) (m':=m1.H8 m) rfl rfl rfl rfl rfl 6 _ _ hn (QJ hv)) h2
    refine ⟨_,?_,⟨_,m',rfl,e1,e2,e3⟩⟩
    rw [Q6,Array.mapM_eq_mapM_toList]
    simp only [di,Sem.run_map,hr,bC,dA]
   split at h
   ·rename_i s hs
    split at h
    ·rename_i vs hvs
     refine calls_of_wp hf hc (AA hm hN hX hO hE0 hP c _ .normal s _ _ w _ hs hsim fun m1 a1 w1 hs1=>?_)
     exact key s ⟨vs,hvs,h⟩ m1 a1 w1 hs1
    ·cases h
   ·rename_i s hs
    split at h
    ·rename_i vs hvs
     refine calls_of_wp hf hc (AA hm hN hX hO hE0 hP c _ .ret s _ _ w _ hs hsim fun m1 a1 w1 hs1=>?_)
     exact key s ⟨vs,hvs,h⟩ m1 a1 w1 hs1
    ·cases h
   ·cases h
theorem seq_pure {X:Xt} {O:ig} (hP:jc O) {esc:Nat→Bool} {ops:List Oper}:∀(l:List Oper) (s s':St),qC P X O esc ops l s=some s'→(∃wl,ik s.H s.loc s'.H s'.loc s'.wg wl)∧∀i,i∈s.wg→i∈s'.wg
 | [],s,s',h=>by
  simp only [qC,ak] at h
  subst h
  exact ⟨⟨[],(ik.refl _ _).wide (by simp) (by simp)⟩,fun _ h=>h⟩
 | o::rest,s,s',h=>by
  simp only [qC] at h
  split at h
  ·rename_i s1 h1
   have h1':∃wg wl,ik s.H s.loc s1.H s1.loc wg wl∧s1.wg=s.wg++wg:=by
    unfold GU at h1
    simp only [yc,JK,nC] at h1
    rcases je h1 with h1 | h1
    case inr=>cases h1
    rcases je h1 with h1 | h1
    ·split at h1
     ·rename_i out hout
      injection h1 with h1; subst h1
      exact ⟨_,_,OC hP hout,rfl⟩
     ·cases h1
    ·injection h1 with h1; subst h1
     exact ⟨[],[],ik.refl _ _,by simp⟩
   obtain ⟨wg,wl,p1,e1⟩:=h1'
   obtain ⟨⟨wl2,p2⟩,e2⟩:=seq_pure hP rest s1 s' h
   refine ⟨⟨_,(p1.trans p2).wide (fun i hi=>?_) (fun _ h=>h)⟩,fun i hi=>e2 i (by rw [e1]; simp [hi])⟩
   rw [bH] at hi
   rcases hi with hi | hi
   ·exact e2 i (by rw [e1]; simp [hi])
   ·exact hi
  ·cases h
theorem UQ {X:Xt} {O:ig} (hP:jc O) {esc:Nat→Bool} {ops:List Oper}:∀(l:List Oper) (s s':St) (fps:List Fp),y5 P X O esc ops l s=some (s',fps)→(∃wl,ik s.H s.loc s'.H s'.loc s'.wg wl)∧∀i,i∈s.wg→i∈s'.wg
 | [],s,s',fps,h=>by
  simp only [y5,ak,aP] at h
  obtain ⟨rfl,_⟩:=h
  exact ⟨⟨[],(ik.refl _ _).wide (by simp) (by simp)⟩,fun _ h=>h⟩
 | o::rest,s,s',fps,h=>by
  unfold y5 at h
  split at h
  ·rename_i s1 f h1
   split at h
   ·rename_i s2 fps' h2
    simp only [ak,aP] at h
    obtain ⟨rfl,rfl⟩:=h
    have sp:=UD hP h1
    obtain ⟨⟨wl2,p2⟩,e2⟩:=UQ hP rest s1 _ _ h2
    refine ⟨⟨_,(sp.wY.trans p2).wide (fun i hi=>?_) (fun _ h=>h)⟩,fun i hi=>e2 i (by rw [sp.wg]; simp [hi])⟩
    rw [bH] at hi
    rcases hi with hi | hi
    ·exact e2 i (by rw [sp.wg]; simp [hi])
    ·exact hi
   ·cases h
  ·cases h
def Kept (s s':St):Prop:=(∃wl,ik s.H s.loc s'.H s'.loc s'.wg wl)∧∀i,i∈s.wg→i∈s'.wg
theorem Kept.refl (s:St):Kept s s:=⟨⟨[],(ik.refl _ _).wide (by simp) (by simp)⟩,fun _ h=>h⟩
theorem Kept.trans {s s1 s2:St} (h:Kept s s1) (k:Kept s1 s2):Kept s s2:=by
 obtain ⟨⟨wl,p⟩,e⟩:=h
 obtain ⟨⟨wl2,p2⟩,e2⟩:=k
 refine ⟨⟨_,(p.trans p2).wide (fun i hi=>?_) (fun _ h=>h)⟩,fun i hi=>e2 i (e i hi)⟩
 rw [bH] at hi
 rcases hi with hi | hi
 ·exact e2 i hi
 ·exact hi
theorem OG (hP:jc O):∀(c:Code) (s:St) (x:Ex) (s':St),exec P X O esc fuel c s=some (x,s')→Kept s s':=by
 intro c
 induction c with
 | skip=>intro s x s' h; simp only [exec,ak,aP] at h; obtain ⟨_,rfl⟩:=h; exact Kept.refl _
 | region id ops draw =>
  intro s x s' h
  unfold exec at h
  rcases je h with h | h
  ·split at h
   ·rename_i s1 h1
    simp only [ak,aP] at h
    obtain ⟨_,rfl⟩:=h
    rcases je h1 with h1 | h1
    ·unfold Em at h1
     rcases je h1 with h1 | h1
     ·split at h1
      ·rename_i s2 fps h2
       rcases je h1 with h1 | h1
       ·injection h1 with h1; subst h1; exact UQ hP _ _ _ _ h2
       ·cases h1
      ·cases h1
     ·cases h1
    ·exact seq_pure hP _ _ _ h1
   ·cases h
  ·cases h
 | seq c d ihc ihd =>
  intro s x s' h
  unfold exec at h
  split at h
  ·rename_i s1 h1
   exact (ihc _ _ _ h1).trans (ihd _ _ _ h)
  ·exact ihc _ _ _ h
 | cond c t e iht ihe =>
  intro s x s' h
  unfold exec at h
  split at h
  ·rcases je h with h | h
   ·exact iht _ _ _ h
   ·exact ihe _ _ _ h
  ·cases h
 | block id c ih =>
  intro s x s' h
  unfold exec at h
  split at h
  ·rename_i i s1 h1
   rcases je h with h | h<;>simp only [ak,aP] at h<;>obtain ⟨_,rfl⟩:=h<;>exact ih _ _ _ h1
  ·exact ih _ _ _ h
 | loop c ih =>
  intro s x s' h
  unfold exec at h
  have:∀(n:Nat) (s:St),aj6 (exec P X O esc fuel c) n s=some (x,s')→Kept s s':=by
   intro n
   induction n with
   | zero=>intro s h; cases h
   | succ n ihn =>
    intro s h
    unfold aj6 at h
    split at h
    ·rename_i s1 h1
     exact (ih _ _ _ h1).trans (ihn _ h)
    ·exact ih _ _ _ h
  exact this fuel s h
 | exit id=>intro s x s' h; simp only [exec,ak,aP] at h; obtain ⟨_,rfl⟩:=h; exact Kept.refl _
 | ret=>intro s x s' h; simp only [exec,ak,aP] at h; obtain ⟨_,rfl⟩:=h; exact Kept.refl _
 | rangeFunc f ps az b iha ihb=>intro s x s' h; simp [exec] at h
 | scope c ih=>intro s x s' h; simp [exec] at h
 | label l=>intro s x s' h; simp [exec] at h
 | goto l=>intro s x s' h; simp [exec] at h
 | refuse y=>intro s x s' h; simp [exec] at h
theorem WJ {esc:FuncId→Nat→Bool} (hP:jc O):jc (Dp P X esc fuel O):=by
 intro f args H v H' md h
 have key:∀(s:St) (v0:Value),(∃wl,ik H X.wb s.H s.loc s.wg wl)→finish H s v0=some (v,H',md)→ik H [] H' [] md []:=by
  intro s v0 ⟨wl,hk⟩ hf
  unfold finish at hf
  rcases je hf with hf | hf
  ·rcases je hf with hf | hf
   ·simp only [ak,aP] at hf
    obtain ⟨_,rfl,rfl⟩:=hf
    exact ik.refl _ _
   ·simp only [ak,aP] at hf
    obtain ⟨_,rfl,rfl⟩:=hf
    exact ⟨hk.len,au _,hk.mod,fun _ _ _=>rfl,hk.kp⟩
  ·cases hf
 unfold Dp at h
 split at h
 ·cases h
 ·split at h
  ·cases h
  ·split at h
   ·rename_i s hs
    split at h
    ·exact key s _ (OG hP _ _ _ _ hs).1 h
    ·cases h
   ·rename_i s hs
    split at h
    ·exact key s _ (OG hP _ _ _ _ hs).1 h
    ·cases h
   ·cases h
theorem zl (hm:P.follows .mixedOrders=true) (hN:kP P) {X:Xt} (hX:kD P X) {esc:FuncId→Nat→Bool} {fuel:Nat} {S:ig} (hS:iY P X.env S) (hS':jc S) (hW:ze X):∀n,iY P X.env (kQ P X esc fuel S n)∧jc (kQ P X esc fuel S n)
 | 0=>⟨hS,hS'⟩
 | n+1=>by
  have ih:=zl hm hN hX (esc:=esc) (fuel:=fuel) hS hS' hW n
  refine ⟨fun f args H v H' md h=>?_,fun f args H v H' md h=>?_⟩
  ·unfold kQ at h
   split at h
   ·rename_i r hr
    injection h with h; subst h
    exact hS f args H v H' md hr
   ·exact WK hm hN hX ih.1 ih.2 hW f args H v H' md h
  ·unfold kQ at h
   split at h
   ·rename_i r hr
    injection h with h; subst h
    exact hS' f args H v H' md hr
   ·exact WJ ih.2 f args H v H' md h
end
end Go.Sm
end
section
namespace Go.Sm
open Go.RowKit
def uO (E:Env):Nat→Value→Option Value
 | 0,_=>none
 | d+1,v=>match v with
  | .agg ⟨l⟩=>match eQ (uO E d) l with
   | some r=>some (.agg ⟨r⟩)
   | none=>none
  | .tuple ⟨l⟩=>match eQ (uO E d) l with
   | some r=>some (.tuple ⟨r⟩)
   | none=>none
  | .int k n=>some (.int k n)
  | .bool b=>some (.bool b)
  | .string s=>some (.string s)
  | .slice none n c=>some (.slice none n c)
  | .func (.func f) ⟨xs⟩ ⟨[]⟩=>eF E 300 (.func (.func f) ⟨xs⟩ ⟨[]⟩)
  | _=>none
variable {E:Env} {d:Nat} {f:FuncId} {xs:List Value} {u:Value}
theorem Az (h:eF E d (.func (.func f) ⟨xs⟩ ⟨[]⟩)=some u):jq f=true∧((∃k n,u=.int k n)∨∃b,u=.bool b):=by
 cases d with
 | zero=>cases h
 | succ d =>
  unfold eF at h
  simp only at h
  cases hf:jq f with
  | false=>rw [hf] at h; cases h
  | true =>
   refine ⟨rfl,?_⟩
   rw [hf] at h
   simp only [cond_true] at h
   split at h
   ·rename_i vs hvs
    cases vs with
    | nil=>simp [iG] at h
    | cons tag rest =>
     cases tag with
     | int k i=>obtain ⟨n,e⟩:=D7 h; exact .inl ⟨k,n,e⟩
     | bool b=>obtain ⟨n,e⟩:=D6 h; exact .inr ⟨n,e⟩
     | _=>simp [iG] at h
   ·cases h
theorem qp {m:Mp} {f:Value→Option Value} (h:∀v u,f v=some u→VR m v u):∀(l r:List Value),eQ f l=some r→ek m l r
 | [],r,e=>by simp only [eQ,ak] at e; subst e; exact ek.nil m
 | v::l,r,e=>by
  unfold eQ at e
  split at e
  ·rename_i x hx
   split at e
   ·rename_i s hs
    injection e with e; subst e
    exact ek.cons (h v x hx) (qp h l s hs)
   ·cases e
  ·cases e
theorem JF {m:Mp}:∀(d:Nat) (v u:Value),uO m.env d v=some u→VR m v u
 | 0,_,_,h=>by cases h
 | d+1,v,u,h=>by
  unfold uO at h
  split at h
  ·split at h
   ·rename_i r hr; injection h with h; subst h; exact (qp (JF d) _ _ hr).agg
   ·cases h
  ·split at h
   ·rename_i r hr; injection h with h; subst h; exact (qp (JF d) _ _ hr).tuple
   ·cases h
  ·injection h with h; subst h; exact .int _ _
  ·injection h with h; subst h; exact .bool _
  ·injection h with h; subst h; exact .string _
  ·injection h with h; subst h; exact .qD _ _
  ·obtain ⟨hf,hu⟩:=Az h
   rcases hu with ⟨k,n,rfl⟩ | ⟨b,rfl⟩
   ·exact .jX hf ⟨_,h⟩
   ·exact .jV hf ⟨_,h⟩
  ·cases h
theorem oN {m:Mp} {f:Value→Option Value} (h:∀v u v',f v=some u→VR m v v'→v'=u):∀(l r l':List Value),eQ f l=some r→ek m l l'→l'=r
 | [],r,l',e,hv=>by
  simp only [eQ,ak] at e
  subst e
  exact bR (by rw [←hv.1]; rfl)
 | v::l,r,l',e,hv=>by
  unfold eQ at e
  split at e
  ·rename_i x hx
   split at e
   ·rename_i s hs
    injection e with e; subst e
    obtain ⟨v',l'',rfl,h1,h2⟩:=hv.cons_inv
    rw [h v x v' hx h1,oN h l s l'' hs h2]
   ·cases e
  ·cases e
theorem Mj {m:Mp}:∀(d:Nat) (v u v':Value),uO m.env d v=some u→VR m v v'→v'=u
 | 0,_,_,_,h,_=>by cases h
 | d+1,v,u,v',h,hv=>by
  unfold uO at h
  split at h
  ·split at h
   ·rename_i r hr
    injection h with h; subst h
    obtain ⟨cs',rfl,hc⟩:=uD hv
    have:=oN (Mj d) _ _ _ hr hc
    obtain ⟨l'⟩:=cs'
    simp only at this
    rw [this]
   ·cases h
  ·split at h
   ·rename_i r hr
    injection h with h; subst h
    obtain ⟨cs',rfl,hc⟩:=DN hv
    have:=oN (Mj d) _ _ _ hr hc
    obtain ⟨l'⟩:=cs'
    simp only at this
    rw [this]
   ·cases h
  ·injection h with h; subst h; exact wh hv
  ·injection h with h; subst h; exact Ab hv
  ·injection h with h; subst h; cases hv; rfl
  ·injection h with h; subst h; cases hv; rfl
  ·obtain ⟨hf,_⟩:=Az h
   cases hv with
   | jX _ hh=>obtain ⟨d',hd⟩:=hh; exact ru m.env hd h
   | jV _ hh=>obtain ⟨d',hd⟩:=hh; exact ru m.env hd h
   | hnd _ _=>exact absurd h (Ay _ _ _)
   | func h0 _ _ _ _=>rw [hf] at h0; cases h0
  ·cases h
variable {m:Mp} {H:Hp} {w w':World}
theorem CL (hlb:m.lb=lY) (hR:Rel m H [] w) (hb:Below w.heap.size w w'):Ext m H [] w m H [] w' [] [] where
 le:=Le.refl m
 rel:=by
  refine ⟨fun i g e=>?_,fun i g e=>(by rw [hlb] at e; cases e),hR.ko,hR.pJ,hR.lh,fun i g b e=>(by rw [hlb] at e; cases e),hR.fz.go rfl (fun g hg _ _=>hb.block g hg) (fun i g e=>.inl ⟨i,e⟩) (fun i g b e=>by rw [hlb] at e; cases e),hR.f0⟩
  obtain ⟨h1,b,h2,h3⟩:=hR.ic i g e
  exact ⟨aC h1 hb.size,b,h2,h3.mono (Le.refl m) e (fun _=>hb.block g h1)⟩
 img:=fun i g e=>.inl ⟨i,e⟩
 oG:=fun i g e=>.inl e
 dom:=fun i g e=>.inl e
 lN:=fun i g e=>.inl e
 os:=hb.os
 tape:=hb.tape
 output:=hb.output
 size:=hb.size
 frame:=fun g hg _ _=>hb.block g hg
 un:=fun _ _ _=>rfl
 vw:=fun _ _ _=>rfl
 mod:=fun _ _ _=>rfl
 nT:=fun _ _ _=>rfl
 len:=au _
 lH:=au _
 kp:=fun i b e=>⟨b,e,rfl,rfl⟩
 cmod:=fun i g b e _ _ _=>hb.block g (hR.ic i g e).1
 sZ:=hR.fz.lt
variable {P:Program} {X:Xt} {fuel n:Nat} {S:ig} {v:Value} {H':Hp} {md:List Nat} {ys:List Value}
theorem adJ (hm:P.follows .mixedOrders=true) (hN:kP P) (hX:kD P X) {esc:FuncId→Nat→Bool} (hS:iY P X.env S) (hS':jc S)
  (h:kQ P X esc fuel S n f xs []=some (v,H',md)) (ha:eQ (uO X.env 4) xs=some ys) (hv:uO X.env 5 v=some u) (w:World) (hW:Plain X:=by exact ⟨rfl,⟨rfl,rfl⟩,rfl,rfl,fun _=>rfl,rfl⟩) :
  Calls P f ys.toArray w fun e w'=>e=.returned u∧Below w.heap.size w w':=by
 have:=(zl hm hN hX (esc:=esc) (fuel:=fuel) hS hS' hW.start n).1 f xs [] v H' md h ⟨lY,lY,fun _=>false,fun _=>0,fun _=>0,X.env,fun _=>0,fun _=>(#[],0,0,0)⟩ w ys rfl rfl ⟨(fun i g e=>by cases e),(fun i g e=>by cases e),(fun i j g bi bj e=>by cases e),(fun i j g bi bj e=>by cases e),(fun i j g e=>by cases e),(fun i g b e=>by cases e),(fun g c hc=>by rw [show (X.env.fz g)=none from hW.2.2.2.2.1 g] at hc; cases hc),(fun c hc=>by rw [show X.env.f0=none from hW.2.2.2.2.2] at hc; cases hc)⟩
  (qp (m:=⟨lY,lY,fun _=>false,fun _=>0,fun _=>0,X.env,fun _=>0,fun _=>(#[],0,0,0)⟩) (JF 4) xs ys ha)
 refine this.mono fun e w' ⟨v',m',e1,e2,e3,e4⟩=>?_
 refine ⟨?_,e3.os,e3.tape,e3.output,e3.size,fun g hg=>e3.frame g hg (fun i e=>by cases e) (fun i e=>by cases e)⟩
 rw [e1,Mj (m:=m') 5 v u v' (by rw [e3.le.env]; exact hv) e2]
end Go.Sm
end
section
namespace Go.Sm
open Go.RowKit
inductive tQ where
 | i | b | a (n:Nat)
def tQ.wid:tQ→Nat
 | .i=>1
 | .b=>1
 | .a n=>n
structure eZ where
 f:FuncId
 args:List (Option Nat)
 res:List tQ
 j:Nat
def vk:List (Option Nat)→List Value→Option (List Value)
 | [],[]=>some []
 | none::s,v::vs=>bif kz v then (match vk s vs with
  | some l=>some (v::l)
  | none=>none) else none
 | some n::s,.agg ⟨c⟩::vs=>bif ay c.length n&&c.all kz then (match vk s vs with
  | some l=>some (c++l)
  | none=>none) else none
 | _,_=>none
def num (n:Int):Value:=.int .i64 n
def vL:List (Option Nat)→List Int→List Value
 | [],_=>[]
 | none::s,l=>num (l.headD 0)::vL s l.tail
 | some n::s,l=>.agg ⟨(l.take n).map num⟩::vL s (l.drop n)
def total:List (Option Nat)→Nat
 | []=>0
 | none::s=>total s+1
 | some n::s=>n+total s
def UF (X:Xt) (j:Nat) (xs:List Value):tQ→Value
 | .i=>jJ X (mk (1000+j) (.int .i64 0) xs)
 | .b=>jJ X (mk (1000+j) (.bool true) xs)
 | .a n=>.agg ⟨(dh n).map fun q=>jJ X (mk (1000+(j+q)) (.int .i64 0) xs)⟩
def LU (X:Xt) (xs:List Value):Nat→List tQ→List Value
 | _,[]=>[]
 | j,r::l=>UF X j xs r::LU X xs (j+r.wid) l
def zm (E:Env) (j:Nat) (l:List Int):tQ→Value
 | .i=>num (E.fn j l)
 | .b=>.bool (E.zt j l)
 | .a n=>.agg ⟨(dh n).map fun q=>num (E.fn (j+q) l)⟩
def qZ (E:Env) (l:List Int):Nat→List tQ→List Value
 | _,[]=>[]
 | j,r::s=>zm E j l r::qZ E l (j+r.wid) s
def ahv (es:List eZ) (f:FuncId):Option eZ:=match es with
 | []=>none
 | e::l=>bif ay e.f f then some e else ahv l f
def vZ (X:Xt) (es:List eZ):ig:=fun f args H=>match ahv es f with
 | some e=>match vk e.args args with
  | some xs=>bif xs.any zA then some (kW (LU X xs e.j e.res),H,[]) else bif xs.all kz then (match ints xs with
   | some l=>vT 4 (kW (qZ X.env l e.j e.res)) fun v=>some (v,H,[])
   | none=>none) else none
  | none=>none
 | none=>none
def fo (P:Program) (E:Env) (e:eZ):Prop:=∀(l:List Int) (w:World),l.length=total e.args→Calls P e.f (vL e.args l).toArray w fun r w'=>r=.returned (kW (qZ E l e.j e.res))∧Below w.heap.size w w'
theorem OM:∀(es:List eZ) (f:FuncId) (e:eZ),ahv es f=some e→e∈es∧e.f=f
 | [],_,_,h=>by cases h
 | x::l,f,e,h=>by
  unfold ahv at h
  cases hb:ay x.f f with
  | true =>
   rw [hb] at h
   simp only [cond_true,ak] at h
   subst h
   exact ⟨aA,bf hb⟩
  | false =>
   rw [hb] at h
   obtain ⟨h1,h2⟩:=OM l f e h
   exact ⟨aT _ h1,h2⟩
variable {E:Env} {d d':Nat} {l:List Value}
theorem afy (hd:d≤d') {r:List Value} (h:eQ (eF E d) l=some r):eQ (eF E d') l=some r:=Ki (fun _ _ e=>xV E hd e) l r h
theorem ak9 {f:Value→Option Value}:∀(a b ra rb:List Value),eQ f a=some ra→eQ f b=some rb→eQ f (a++b)=some (ra++rb)
 | [],b,ra,rb,h1,h2=>by simp only [eQ,ak] at h1; subst h1; exact h2
 | x::a,b,ra,rb,h1,h2=>by
  unfold eQ at h1
  split at h1
  ·rename_i y hy
   split at h1
   ·rename_i s hs
    injection h1 with h1; subst h1
    simp only [dw,eQ,hy,ak9 a b s rb hs h2]
   ·cases h1
  ·cases h1
theorem MF {m:Mp}:∀(c c':List Value),c.all kz=true→ek m c c'→∃(l:List Int) (d:Nat),l.length=c.length∧c'=l.map num∧eQ (eF m.env d) c=some (l.map num)
 | [],c',_,h=>⟨[],0,rfl,bR (by rw [←h.1]; rfl),rfl⟩
 | v::c,c',ha,h=>by
  simp only [List.all_cons,aQ] at ha
  obtain ⟨v',l',rfl,h1,h2⟩:=h.cons_inv
  obtain ⟨n,d,rfl,hd⟩:=zJ ha.1 h1
  obtain ⟨l,d',e1,rfl,e3⟩:=MF c l' ha.2 h2
  refine ⟨n::l,max d d',by simp [e1],rfl,?_⟩
  simp only [eQ,xV m.env (Nat.le_max_left d d') hd,afy (Nat.le_max_right d d') e3,dI,num]
theorem LZ {m:Mp}:∀(s:List (Option Nat)) (args xs args':List Value),vk s args=some xs→ek m args args'→∃(l:List Int) (d:Nat),l.length=total s∧args'=vL s l∧eQ (eF m.env d) xs=some (l.map num)
 | [],[],xs,args',h,hv=>by
  simp only [vk,ak] at h
  subst h
  exact ⟨[],0,rfl,bR (by rw [←hv.1]; rfl),rfl⟩
 | none::s,v::vs,xs,args',h,hv=>by
  unfold vk at h
  cases hk:kz v with
  | false=>rw [hk] at h; cases h
  | true =>
   rw [hk] at h
   simp only [cond_true] at h
   split at h
   ·rename_i l0 hl0
    injection h with h; subst h
    obtain ⟨v',vs',rfl,h1,h2⟩:=hv.cons_inv
    obtain ⟨n,d,rfl,hd⟩:=zJ hk h1
    obtain ⟨l,d',e1,rfl,e3⟩:=LZ s vs l0 vs' hl0 h2
    refine ⟨n::l,max d d',by simp [total,e1],rfl,?_⟩
    simp only [eQ,xV m.env (Nat.le_max_left d d') hd,afy (Nat.le_max_right d d') e3,dI,num]
   ·cases h
 | some n::s,.agg ⟨c⟩::vs,xs,args',h,hv=>by
  unfold vk at h
  cases hk:(ay c.length n&&c.all kz) with
  | false=>rw [hk] at h; cases h
  | true =>
   rw [hk] at h
   simp only [cond_true] at h
   simp only [aQ] at hk
   have hcl:=bf hk.1
   split at h
   ·rename_i l0 hl0
    injection h with h; subst h
    obtain ⟨v',vs',rfl,h1,h2⟩:=hv.cons_inv
    obtain ⟨c',rfl,hc⟩:=uD h1
    obtain ⟨c'⟩:=c'
    obtain ⟨la,da,a1,a2,a3⟩:=MF c c' hk.2 hc
    obtain ⟨l,d',e1,rfl,e3⟩:=LZ s vs l0 vs' hl0 h2
    refine ⟨la++l,max da d',by simp [total,e1,a1,hcl],?_,?_⟩
    ·have hn:la.length=n:=by rw [a1,hcl]
     simp only [vL,←hn,List.take_left,List.drop_left]
     rw [a2]
    ·rw [List.map_append]
     exact ak9 _ _ _ _ (afy (Nat.le_max_left da d') a3) (afy (Nat.le_max_right da d') e3)
   ·cases h
 | [],_::_,_,_,h,_=>by cases h
 | none::_,[],_,_,h,_=>by cases h
 | some _::_,[],_,_,h,_=>by cases h
 | some _::_,.bool _::_,_,_,h,_ | some _::_,.int _ _::_,_,_,h,_ | some _::_,.float _ _::_,_,_,h,_ | some _::_,.string _::_,_,_,h,_=>by simp [vk] at h
 | some _::_,.tuple _::_,_,_,h,_ | some _::_,.pointer _::_,_,_,h,_ | some _::_,.slice ..::_,_,_,h,_ | some _::_,.map _::_,_,_,h,_=>by simp [vk] at h
 | some _::_,.func ..::_,_,_,h,_ | some _::_,.iface ..::_,_,_,h,_ | some _::_,.nilFunc::_,_,_,h,_ | some _::_,.nilIface::_,_,_,h,_=>by simp [vk] at h
 | some _::_,.complex ..::_,_,_,h,_ | some _::_,.chan _::_,_,_,h,_=>by simp [vk] at h
theorem J5:∀l:List Int,ints (l.map num)=some l
 | []=>rfl
 | n::l=>by simp only [dI,num,ints]; rw [J5 l]
theorem MH (E:Env) (j:Nat) (l:List Int):iG E (1000+j) (.int .i64 0::l.map num)=some (num (E.fn j l)):=by
 have e:1000+j - 1000=j:=by omega
 have hb:amE 1000 (1000+j)=true:=by simp
 unfold iG
 simp only
 split
 all_goals first
  | (exfalso; omega)
  | (rw [hb]; simp only [cond_true,J5,e]; rfl)
theorem VG (E:Env) (j:Nat) (l:List Int):iG E (1000+j) (.bool true::l.map num)=some (.bool (E.zt j l)):=by
 have e:1000+j - 1000=j:=by omega
 have hb:amE 1000 (1000+j)=true:=by simp
 unfold iG
 simp only
 split
 all_goals first
  | (exfalso; omega)
  | (rw [hb]; simp only [cond_true,J5,e])
variable {c:Nat} {xs vs:List Value}
theorem JC {tag r:Value} (ht:(∃k n,tag=.int k n)∨∃b,tag=.bool b) (hx:eQ (eF E d) xs=some vs) (hr:iG E c (tag::vs)=some r):∃d,eF E d (mk c tag xs)=some r:=by
 refine ⟨d+1+1,?_⟩
 rw [CG]
 simp only [eQ,JD (E:=E) (d:=d) ht,afy (Nat.le_succ d) hx]
 exact hr
variable {m:Mp} {X:Xt}
theorem adL (hS:Sat m.env X.mP) {l:List Int} (hx:eQ (eF m.env d) xs=some (l.map num)) (j:Nat):∀r:tQ,VR m (UF X j xs r) (zm m.env j l r)
 | .i=>uE hS (JC (uS .i64 0) hx (MH m.env j l))
 | .b=>Mh hS (JC (Ef true) hx (VG m.env j l))
 | .a n=>by
  have key:∀q:List Nat,ek m (q.map fun q=>jJ X (mk (1000+(j+q)) (.int .i64 0) xs)) (q.map fun q=>num (m.env.fn (j+q) l)):=by
   intro q
   induction q with
   | nil=>exact ek.nil m
   | cons a t ih=>exact ek.cons (uE hS (JC (uS .i64 0) hx (MH m.env (j+a) l))) ih
  exact (key (dh n)).agg
theorem UG {m:Mp} {X:Xt} (hS:Sat m.env X.mP) {d:Nat} {xs:List Value} {l:List Int} (hx:eQ (eF m.env d) xs=some (l.map num)):∀(j:Nat) (rs:List tQ),ek m (LU X xs j rs) (qZ m.env l j rs)
 | _,[]=>ek.nil m
 | j,r::rs=>ek.cons (adL hS hx j r) (UG hS hx (j+r.wid) rs)
variable {vs':List Value}
theorem QI (h:ek m vs vs'):VR m (kW vs) (kW vs'):=by
 match vs,vs',h with
 | [],[],h=>exact h.tuple
 | [v],[v'],h=>exact h.2 0 v v' rfl rfl
 | v::u::l,v'::u'::l',h=>exact h.tuple
 | [],_::_,h=>have:=h.1; simp at this
 | _::_,[],h=>have:=h.1; simp at this
 | [_],_::_::_,h=>have:=h.1; simp at this
 | _::_::_,[_],h=>have:=h.1; simp at this
theorem lits:∀(xs:List Value) (l:List Int),ints xs=some l→xs.all kz=true→xs=l.map num
 | [],l,h,_=>by simp only [ints,ak] at h; subst h; rfl
 | x::xs,l,h,ha=>by
  simp only [List.all_cons,aQ] at ha
  cases x with
  | int k n =>
   simp only [ints] at h
   split at h
   ·rename_i r hr
    injection h with h; subst h
    have hk:k=.i64:=by
     have:=ha.1
     unfold kz mQ at this
     simp only at this
     cases k<;>first | rfl | cases this
    subst hk
    rw [dI,←lits xs r hr ha.2]
    rfl
   ·cases h
  | _=>cases h
theorem PN {E:Env} (d:Nat):∀l:List Int,eQ (eF E (d+1)) (l.map num)=some (l.map num)
 | []=>rfl
 | n::l=>by simp only [dI,eQ,PN d l]; rfl
theorem P9:∀(l l':List Int),l.map num=l'.map num→l=l'
 | [],[],_=>rfl
 | a::l,b::l',h=>by
  simp only [dI,afj,num,Value.int.injEq,true_and] at h
  rw [h.1,P9 l l' h.2]
 | [],_::_,h=>by cases h
 | _::_,[],h=>by cases h
theorem Xo (m:Mp) (E:Env) (l:List Int) (j:Nat):∀r:tQ,VR m (zm E j l r) (zm E j l r)
 | .i=>.int _ _
 | .b=>.bool _
 | .a n=>by
  have key:∀q:List Nat,ek m (q.map fun q=>num (E.fn (j+q) l)) (q.map fun q=>num (E.fn (j+q) l)):=by
   intro q
   induction q with
   | nil=>exact ek.nil m
   | cons a t ih=>exact ek.cons (.int _ _) ih
  exact (key (dh n)).agg
theorem Ni (m:Mp) (E:Env) (l:List Int):∀(j:Nat) (rs:List tQ),ek m (qZ E l j rs) (qZ E l j rs)
 | _,[]=>ek.nil m
 | j,r::rs=>ek.cons (Xo m E l j r) (Ni m E l (j+r.wid) rs)
variable {P:Program}
theorem BH (hS:Sat X.env X.mP) (es:List eZ) (h:∀e∈es,fo P X.env e):iY P X.env (vZ X es):=by
 intro f args H v H' md hs m w args' hE hlb hR hargs
 unfold vZ at hs
 split at hs
 ·rename_i e he
  obtain ⟨hm,hf⟩:=OM es f e he
  split at hs
  ·rename_i xs hx
   obtain ⟨l,d,hl,rfl,hd⟩:=LZ e.args args xs args' hx hargs
   subst hf
   cases hy:xs.any zA with
   | false =>
    rw [hy] at hs
    simp only [cond_false,yc] at hs
    cases hok:xs.all kz with
    | false=>rw [hok] at hs; cases hs
    | true =>
    rw [hok] at hs
    simp only [cond_true] at hs
    split at hs
    ·rename_i l' hl'
     simp only [ak,aP] at hs
     obtain ⟨rfl,rfl,rfl⟩:=hs
     have hll:l'=l:=by
      have h1:=lits xs l' hl' hok
      subst h1
      have h2:=afy (Nat.le_succ d) hd
      rw [PN] at h2
      injection h2 with h2
      exact P9 l' l h2
     subst hll
     refine (h e hm l' w hl).mono fun r w' ⟨h1,h2⟩=>?_
     exact ⟨_,m,h1,QI (Ni m _ _ _ _),CL hlb hR h2,hlb⟩
    ·cases hs
   | true =>
   rw [hy] at hs
   simp only [cond_true,ak,aP] at hs
   obtain ⟨rfl,rfl,rfl⟩:=hs
   refine (h e hm l w hl).mono fun r w' ⟨h1,h2⟩=>?_
   refine ⟨_,m,h1,?_,CL hlb hR h2,hlb⟩
   rw [←hE]
   exact QI (UG (by rw [hE]; exact hS) hd e.j e.res)
  ·cases hs
 ·cases hs
theorem BI (X:Xt) (es:List eZ):jc (vZ X es):=by
 intro f args H v H' md hs
 unfold vZ at hs
 split at hs
 ·split at hs
  ·rename_i xs _
   cases hy:xs.any zA with
   | false =>
    rw [hy] at hs
    simp only [cond_false,yc] at hs
    cases hok:xs.all kz with
    | false=>rw [hok] at hs; cases hs
    | true =>
    rw [hok] at hs
    simp only [cond_true] at hs
    split at hs
    ·simp only [ak,aP] at hs
     obtain ⟨rfl,rfl,rfl⟩:=hs
     exact ik.refl _ _
    ·cases hs
   | true =>
   rw [hy] at hs
   simp only [cond_true,ak,aP] at hs
   obtain ⟨rfl,rfl,rfl⟩:=hs
   exact ik.refl _ _
  ·cases hs
 ·cases hs
end Go.Sm
end
section
namespace Go.Sm
open Go.RowKit
structure jL (w:World) (nc:Nat) (e:TypeId) (b:Bool) (w':World):Prop where
 os:w'.os=w.os
 tape:w'.tape=w.tape
 output:w'.output=w.output
 size:w.heap.size≤w'.heap.size
 frame:∀g,g<w.heap.size→g≠nc→w'.heap[g]?=w.heap[g]?
 flag:w'.heap[nc]?=some (.cells #[.bool b] e (0,0))
def okB (v:Value):Bool:=match v with
 | .bool _=>true
 | v=>wQ v
def Kv (v:Value):Value:=match v with
 | .bool b=>.bool (!b)
 | v=>mk 26 (.bool true) [v]
def kM (a b:Value):Value:=match a,b with
 | .bool true,_=>.bool true
 | .bool false,b=>b
 | _,.bool true=>.bool true
 | a,.bool false=>a
 | a,b=>mk 27 (.bool true) [a,b]
variable {m:Mp} {v v':Value}
theorem Di (hk:okB v=true) (h:VR m v v'):∃b d,v'=.bool b∧eF m.env d v=some (.bool b):=by
 unfold okB at hk
 split at hk
 ·rename_i b
  exact ⟨b,1,Ab h,rfl⟩
 ·unfold wQ at hk
  split at hk
  ·rename_i f b0 xs _
   cases h with
   | jX hf hh =>
    obtain ⟨d,hd⟩:=hh
    exfalso
    cases d with
    | zero=>cases hd
    | succ d =>
     unfold eF at hd
     simp only [hf,cond_true] at hd
     split at hd
     ·rename_i vs hvs
      unfold eQ at hvs
      split at hvs
      ·rename_i x hx
       split at hvs
       ·rename_i r hr
        injection hvs with hvs; subst hvs
        have hx2:x=.bool b0:=by
         cases d with
         | zero=>cases hx
         | succ d=>simp [eF] at hx; exact hx.symm
        subst hx2
        obtain ⟨b,e⟩:=D6 hd
        cases e
       ·cases hvs
      ·cases hvs
     ·cases hd
   | jV hf hh=>obtain ⟨d,hd⟩:=hh; exact ⟨_,d,rfl,hd⟩
   | func h0 _ _ _ _=>rw [hk] at h0; cases h0
  ·cases hk
variable {d:Nat}
theorem BU {b:Bool} (h:eF m.env d v=some (.bool b)):VR m v (.bool b):=by
 cases d with
 | zero=>cases h
 | succ d =>
  have h0:=h
  unfold eF at h
  split at h
  ·cases h
  ·injection h with h; injection h with h; subst h; exact .bool _
  ·rename_i f xs
   exact .jV (Az h0).1 ⟨_,h0⟩
  ·cases h
variable {E:Env}
theorem aab {b:Bool} (h:eF E d v=some (.bool b)):∃d,eF E d (Kv v)=some (.bool (!b)):=by
 unfold Kv
 split
 ·rename_i b0
  cases d with
  | zero=>cases h
  | succ d=>simp [eF] at h; subst h; exact ⟨1,rfl⟩
 ·exact Et (.inr ⟨true,rfl⟩) h rfl
variable {u:Value} {d':Nat}
theorem FK {a b:Bool} (h:eF E d u=some (.bool a)) (h':eF E d' v=some (.bool b)):∃d,eF E d (kM u v)=some (.bool (a||b)):=by
 have lit:∀(x c:Bool) (k:Nat),eF E k (.bool x)=some (.bool c)→x=c:=fun x c k e=>by
  cases k with
  | zero=>cases e
  | succ k=>simp [eF] at e; exact e
 unfold kM
 split
 ·have:=lit _ _ _ h; subst this; exact ⟨1,by simp [eF]⟩
 ·have:=lit _ _ _ h; subst this; exact ⟨d',by simpa using h'⟩
 ·have:=lit _ _ _ h'; subst this; exact ⟨1,by simp [eF]⟩
 ·have:=lit _ _ _ h'; subst this; exact ⟨d,by simpa using h⟩
 ·exact vR (.inr ⟨true,rfl⟩) h h' rfl
def ym (f0:Nat) (S:ig):ig:=fun f args H=>bif ay f f0 then
 match args with
 | [.pointer (some ⟨i,0,none⟩),.agg ⟨[x,y]⟩,ok]=>match H[i]? with
  | some ⟨[c],e,0,false,true⟩=>bif okB c&&okB ok&&(kz x&&kz y) then some (.agg ⟨[x,y]⟩,H.set i ⟨[kM c (Kv ok)],e,0,false,true⟩,[i]) else none
  | _=>none
 | _=>none
 else S f args H
variable {x:Value}
theorem Vd (hk:kz x=true) (h:VR m x v'):∃n,v'=num n:=by
 obtain ⟨n,d,e,_⟩:=zJ hk h
 exact ⟨n,e⟩
variable {H:Hp} {w w':World} {i g:Nat} {e:TypeId} {c1:Value} {b1:Bool}
theorem Ew (hlb:m.lb=lY) (hR:Rel m H [] w) {c:Value} (hi:m.gb i=some g) (hb:H[i]?=some ⟨[c],e,0,false,true⟩) (hv:VR m.jF c1 (.bool b1)) (hF:jL w g e b1 w') :
  Ext m H [] w m (H.set i ⟨[c1],e,0,false,true⟩) [] w' [i] [] where
 le:=Le.refl m
 rel:=by
  refine ⟨fun j g' e'=>?_,fun j g' e=>(by rw [hlb] at e; cases e),?_,hR.pJ,hR.lh,fun i g b e=>(by rw [hlb] at e; cases e),hR.fz.go rfl (fun g' hg' hn _=>hF.frame g' hg' (fun e=>hn i (e▸hi))) (fun i g e=>.inl ⟨i,e⟩) (fun i g b e=>by rw [hlb] at e; cases e),hR.f0⟩
  ·obtain ⟨h1,b,h2,h3⟩:=hR.ic j g' e'
   refine ⟨aC h1 hF.size,?_⟩
   by_cases hj:j=i
   ·subst hj
    rw [hi] at e'; injection e' with e'; subst e'
    rw [hb] at h2; injection h2 with h2; subst h2
    exact ⟨_,getElem?_set_self' hb,⟨h3.lo,h3.ez,fun _=>⟨_,hF.flag,by simp,ek.cons hv (ek.nil _),fun _=>rfl,fun e=>by cases e⟩⟩⟩
   ·refine ⟨b,by rw [bz (ae4 hj)]; exact h2,h3.mono (Le.refl m) e' (fun hl=>hF.frame g' h1 (fun he=>?_))⟩
    subst he
    exact hj (hR.ko j i _ b _ e' hi h2 hb hl rfl)
  ·intro a c' g' ba bc ea ec ha hc la lc
   have hn:∀(x:Nat) (bx:eG),(H.set i ⟨[c1],e,0,false,true⟩)[x]?=some bx→bx.live=true→∃bx':eG,H[x]?=some bx'∧bx'.live=true:=by
    intro x bx hx lx
    by_cases hxi:x=i
    ·subst hxi; exact ⟨_,hb,rfl⟩
    ·rw [bz (ae4 hxi)] at hx; exact ⟨bx,hx,lx⟩
   obtain ⟨ba',ha',la'⟩:=hn a ba ha la
   obtain ⟨bc',hc',lc'⟩:=hn c' bc hc lc
   exact hR.ko a c' g' ba' bc' ea ec ha' hc' la' lc'
 img:=fun j g' e=>.inl ⟨j,e⟩
 oG:=fun _ _ e=>.inl e
 dom:=fun _ _ e=>.inl e
 lN:=fun _ _ e=>.inl e
 os:=hF.os
 tape:=hF.tape
 output:=hF.output
 size:=hF.size
 frame:=fun g' hg' hn _=>hF.frame g' hg' (fun e=>hn i (e▸hi))
 un:=fun j hj hn=>by
  rw [bz]
  intro e; subst e; rw [hi] at hn; cases hn
 vw:=fun _ _ _=>rfl
 mod:=fun j hj hn=>by
  rw [bz]
  intro e; subst e; simp at hn
 nT:=fun _ _ _=>rfl
 len:=by simp
 lH:=au _
 kp:=fun j x e'=>by
  by_cases hj:j=i
  ·subst hj
   rw [hb] at e'; injection e' with e'; subst e'
   exact ⟨_,getElem?_set_self' hb,rfl,rfl⟩
  ·exact ⟨x,by rw [bz (ae4 hj)]; exact e',rfl,rfl⟩
 cmod:=fun j g' x e' hx hl hn=>by
  refine hF.frame g' (hR.ic j g' e').1 (fun he=>?_)
  subst he
  exact hn (by simp [hR.ko j i _ x _ e' hi hx hb hl rfl])
 sZ:=hR.fz.lt
variable {P:Program} {f0:Nat} {S:ig}
theorem ES (h:∀(nc:Nat) (e:TypeId) (lo hi:Int) (c ok:Bool) (w:World),w.heap[nc]?=some (.cells #[.bool c] e (0,0))→Calls P f0 #[.pointer (some ⟨nc,0,none⟩),.agg #[num lo,num hi],.bool ok] w fun r w'=>r=.returned (.agg #[num lo,num hi])∧jL w nc e (c||!ok) w') (hS:iY P E S):iY P E (ym f0 S):=by
 intro f args H v H' md hs
 unfold ym at hs
 cases hf:ay f f0 with
 | false=>rw [hf] at hs; exact hS f args H v H' md hs
 | true =>
  rw [hf] at hs
  simp only [cond_true] at hs
  obtain rfl:=bf hf
  split at hs
  ·rename_i i x y ok
   split at hs
   ·rename_i c e hb
    cases hc:(okB c&&okB ok&&(kz x&&kz y)) with
    | false=>rw [hc] at hs; cases hs
    | true =>
     rw [hc] at hs
     simp only [cond_true,ak,aP] at hs
     obtain ⟨rfl,rfl,rfl⟩:=hs
     simp only [aQ] at hc
     obtain ⟨⟨hc1,hc2⟩,hx,hy⟩:=hc
     intro m w args' hE hlb hR hargs
     obtain ⟨p',l1,rfl,hp,hargs⟩:=hargs.cons_inv
     obtain ⟨r',l2,rfl,hr,hargs⟩:=hargs.cons_inv
     obtain ⟨k',l3,rfl,hk,hargs⟩:=hargs.cons_inv
     have hl3:l3=[]:=bR (by rw [←hargs.1]; rfl)
     subst hl3
     obtain ⟨cs',rfl,hcs⟩:=uD hr
     obtain ⟨cs'⟩:=cs'
     obtain ⟨x',l4,e4,hx',hcs⟩:=hcs.cons_inv
     obtain ⟨y',l5,e5,hy',hcs⟩:=hcs.cons_inv
     have hl5:l5=[]:=bR (by rw [←hcs.1]; rfl)
     simp only at e4
     subst e4 e5 hl5
     obtain ⟨n1,rfl⟩:=Vd hx hx'
     obtain ⟨n2,rfl⟩:=Vd hy hy'
     obtain ⟨ob,d2,rfl,ho2⟩:=Di hc2 hk
     cases hp with
     | pO hg =>
      rename_i g
      obtain ⟨hg1,b0,hb0,hG⟩:=hR.ic i g hg
      rw [hb] at hb0; injection hb0 with hb0; subst hb0
      obtain ⟨cs,e1,e2,e3,e4,_⟩:=hG.blk rfl
      have hsz:=e4 rfl
      obtain ⟨cs⟩:=cs
      simp only [dB,aeT,aeR] at hsz
      obtain ⟨z,rfl⟩:=List.length_eq_one_iff.1 hsz
      obtain ⟨z',l6,e6,hz,_⟩:=e3.cons_inv
      simp only [dB,aeT,List.take_succ_cons,List.take_nil,afj] at e6
      obtain ⟨rfl,_⟩:=e6
      obtain ⟨cb,d1,rfl,ho1⟩:=Di hc1 hz
      refine (h g e n1 n2 cb ob w e1).mono ?_
      rintro r w' ⟨rfl,hF⟩
      refine ⟨_,m,rfl,(ek.cons hx' (ek.cons hy' (ek.nil m))).agg,?_,hlb⟩
      obtain ⟨d3,h3⟩:=aab ho2
      obtain ⟨d4,h4⟩:=FK (E:=m.env) ho1 h3
      exact Ew hlb hR hg hb (BU (m:=m.jF) h4) hF
   ·cases hs
  ·cases hs
theorem ET (hS:jc S):jc (ym f0 S):=by
 intro f args H v H' md hs
 unfold ym at hs
 cases hf:ay f f0 with
 | false=>rw [hf] at hs; exact hS f args H v H' md hs
 | true =>
  rw [hf] at hs
  simp only [cond_true] at hs
  split at hs
  ·rename_i i x y ok
   split at hs
   ·rename_i c e hb
    cases hc:(okB c&&okB ok&&(kz x&&kz y)) with
    | false=>rw [hc] at hs; cases hs
    | true =>
     rw [hc] at hs
     simp only [cond_true,ak,aP] at hs
     obtain ⟨rfl,rfl,rfl⟩:=hs
     refine ⟨by simp,au _,fun j hj hn=>?_,fun _ _ _=>rfl,fun j b0 e0=>?_⟩
     ·rw [bz]
      intro e; subst e; simp at hn
     ·by_cases hj:j=i
      ·subst hj
       rw [hb] at e0; injection e0 with e0; subst e0
       exact ⟨_,getElem?_set_self' hb,rfl,rfl⟩
      ·exact ⟨b0,by rw [bz (ae4 hj)]; exact e0,rfl,rfl⟩
   ·cases hs
  ·cases hs
def xU (E:Env) (nc:Nat):Nat→Value→Option Value
 | 0,_=>none
 | d+1,v=>match v with
  | .agg ⟨l⟩=>match eQ (xU E nc d) l with
   | some r=>some (.agg ⟨r⟩)
   | none=>none
  | .tuple ⟨l⟩=>match eQ (xU E nc d) l with
   | some r=>some (.tuple ⟨r⟩)
   | none=>none
  | .int k n=>some (.int k n)
  | .bool b=>some (.bool b)
  | .pointer (some ⟨0,0,none⟩)=>some (.pointer (some ⟨nc,0,none⟩))
  | .func (.func f) ⟨xs⟩ ⟨[]⟩=>eF E 300 (.func (.func f) ⟨xs⟩ ⟨[]⟩)
  | _=>none
theorem JA {m:Mp} {nc:Nat} (h0:m.gb 0=some nc):∀(d:Nat) (v u:Value),xU m.env nc d v=some u→VR m v u
 | 0,_,_,h=>by cases h
 | d+1,v,u,h=>by
  unfold xU at h
  split at h
  ·split at h
   ·rename_i r hr; injection h with h; subst h; exact (qp (JA h0 d) _ _ hr).agg
   ·cases h
  ·split at h
   ·rename_i r hr; injection h with h; subst h; exact (qp (JA h0 d) _ _ hr).tuple
   ·cases h
  ·injection h with h; subst h; exact .int _ _
  ·injection h with h; subst h; exact .bool _
  ·injection h with h; subst h; exact .pO h0
  ·obtain ⟨hf,hu⟩:=Az h
   rcases hu with ⟨k,n,rfl⟩ | ⟨b,rfl⟩
   ·exact .jX hf ⟨_,h⟩
   ·exact .jV hf ⟨_,h⟩
  ·cases h
theorem Mi {m:Mp} {nc:Nat} (h0:m.gb 0=some nc):∀(d:Nat) (v u v':Value),xU m.env nc d v=some u→VR m v v'→v'=u
 | 0,_,_,_,h,_=>by cases h
 | d+1,v,u,v',h,hv=>by
  unfold xU at h
  split at h
  ·split at h
   ·rename_i r hr
    injection h with h; subst h
    obtain ⟨cs',rfl,hc⟩:=uD hv
    have:=oN (Mi h0 d) _ _ _ hr hc
    obtain ⟨l'⟩:=cs'
    simp only at this
    rw [this]
   ·cases h
  ·split at h
   ·rename_i r hr
    injection h with h; subst h
    obtain ⟨cs',rfl,hc⟩:=DN hv
    have:=oN (Mi h0 d) _ _ _ hr hc
    obtain ⟨l'⟩:=cs'
    simp only at this
    rw [this]
   ·cases h
  ·injection h with h; subst h; exact wh hv
  ·injection h with h; subst h; exact Ab hv
  ·injection h with h; subst h
   cases hv with
   | pO hg=>rw [h0] at hg; injection hg with hg; subst hg; rfl
  ·obtain ⟨hf,_⟩:=Az h
   cases hv with
   | jX _ hh=>obtain ⟨d',hd⟩:=hh; exact ru m.env hd h
   | jV _ hh=>obtain ⟨d',hd⟩:=hh; exact ru m.env hd h
   | hnd _ _=>exact absurd h (Ay _ _ _)
   | func h0 _ _ _ _=>rw [hf] at h0; cases h0
  ·cases h
variable {X:Xt} {fuel n:Nat} {f:FuncId} {xs ys:List Value} {H':Hp} {md:List Nat}
theorem BJ (hm:P.follows .mixedOrders=true) (hN:kP P) (hX:kD P X) {esc:FuncId→Nat→Bool} (hS:iY P X.env S) (hS':jc S) {c0:Value}
  (h:kQ P X esc fuel S n f xs [⟨[c0],e,0,false,true⟩]=some (v,⟨[c1],e,0,false,true⟩::H',md)) (nc:Nat) (ha:eQ (xU X.env nc 4) xs=some ys) (hv:xU X.env nc 5 v=some u)
  {b0:Bool} (h0:eF X.env 300 c0=some (.bool b0)) (h1:eF X.env 300 c1=some (.bool b1)) (w:World) (hw:w.heap[nc]?=some (.cells #[.bool b0] e (0,0))) (hW:Plain X:=by exact ⟨rfl,⟨rfl,rfl⟩,rfl,rfl,fun _=>rfl,rfl⟩) :
  Calls P f ys.toArray w fun r w'=>r=.returned u∧jL w nc e b1 w':=by
 have hlt:nc<w.heap.size:=(aB.1 hw).1
 let m:Mp:=⟨fun i=>match i with | 0=>some nc | _+1=>none,lY,fun _=>false,fun _=>0,fun _=>0,X.env,fun _=>0,fun _=>(#[],0,0,0)⟩
 have hm0:∀i g,m.gb i=some g→i=0∧g=nc:=fun i g e=>by
  cases i with
  | zero=>injection e with e; exact ⟨rfl,e.symm⟩
  | succ i=>cases e
 have hR:Rel m [⟨[c0],e,0,false,true⟩] [] w:=by
  refine ⟨fun i g ei=>?_,fun i g e=>(by cases e),fun i j g bi bj ei ej _ _ _ _=>?_,fun i j g bi bj e=>(by cases e),(fun i j g _ e=>by cases e),(fun i g b e=>by cases e),(fun g c hc=>by rw [show (X.env.fz g)=none from hW.2.2.2.2.1 g] at hc; cases hc),(fun c hc=>by rw [show X.env.f0=none from hW.2.2.2.2.2] at hc; cases hc)⟩
  ·obtain ⟨rfl,rfl⟩:=hm0 i g ei
   refine ⟨hlt,_,rfl,⟨rfl,rfl,fun _=>⟨_,hw,by simp,ek.cons (BU (m:=m.jF) h0) (ek.nil _),fun _=>rfl,fun e=>by cases e⟩⟩⟩
  ·obtain ⟨rfl,_⟩:=hm0 i g ei
   obtain ⟨rfl,_⟩:=hm0 j g ej
   rfl
 have:=(zl hm hN hX (esc:=esc) (fuel:=fuel) hS hS' hW.start n).1 f xs _ v _ md h m w ys rfl rfl hR (qp (m:=m) (JA (m:=m) rfl 4) xs ys ha)
 refine this.mono fun r w' ⟨v',m',e1,e2,e3,e4⟩=>?_
 have hg0:m'.gb 0=some nc:=e3.le.gb 0 nc rfl
 refine ⟨?_,e3.os,e3.tape,e3.output,e3.size,fun g hg hne=>e3.frame g hg (fun i e=>hne (hm0 i g e).2) (fun i e=>by cases e),?_⟩
 ·rw [e1,Mi (m:=m') hg0 5 v u v' (by rw [e3.le.env]; exact hv) e2]
 ·obtain ⟨_,b,hb,hG⟩:=e3.rel.ic 0 nc hg0
  injection hb with hb; subst hb
  obtain ⟨cs,q1,q2,q3,q4,_⟩:=hG.blk rfl
  have hsz:=q4 rfl
  obtain ⟨cs⟩:=cs
  simp only [dB,aeT,aeR] at hsz
  obtain ⟨z,rfl⟩:=List.length_eq_one_iff.1 hsz
  obtain ⟨z',l6,e6,hz,_⟩:=q3.cons_inv
  simp only [dB,aeT,List.take_succ_cons,List.take_nil,afj] at e6
  obtain ⟨rfl,_⟩:=e6
  have hz2:=BU (m:=m'.jF) (d:=300) (v:=c1) (b:=b1) (by show eF m'.env 300 c1=_; rw [e3.le.env]; exact h1)
  have:z=.bool b1:=by
   obtain ⟨d,hd⟩:∃d,eF m'.jF.env d c1=some (.bool b1):=⟨300,by show eF m'.env 300 c1=_; rw [e3.le.env]; exact h1⟩
   cases hz2 with
   | bool=>exact Ab hz
   | jV hf hh =>
    cases hz with
    | jX _ h2=>obtain ⟨d',hd'⟩:=h2; exact ru _ hd' hd
    | jV _ h2=>obtain ⟨d',hd'⟩:=h2; exact ru _ hd' hd
    | hnd _ _=>exact absurd hd (Ay _ _ _)
    | func h0 _ _ _ _=>rw [hf] at h0; cases h0
  rw [q1,this]
end Go.Sm
end
end
section
namespace Go.Proofs
open Go.Sm
def Tryz.XG:List (Nat×List Nat):=[(7,[24,28,31]),(16,[8,9]),(20,[58,66,70,109]),(26,[24,27]),(35,[5,10]),(37,[5]),(39,[6,7]),(41,[28]),(44,[14]),(45,[30]),(64,[12]),(73,[7]),(86,[1]),(98,[11]),(99,[1]),(102,[12]),(164,[23,39]),(165,[27,41])]
def Tryz.esc (f:FuncId) (t:Nat):Bool:=Tryz.XG.any fun x=>ay x.1 f&&x.2.any fun y=>ay y t
def Tryz.add64Entry:Array Value→Sem Value:=(Extern.MathBitsCarry.rows.map (·.2)).headD fun _=>pure undef
def Tryz.xt:FuncId→Option (Array Value→Sem Value):=fun f=>bif ay f 60 then some Tryz.add64Entry else none
theorem Tryz.aeP:∀f e,Tryz.xt f=some e→∃fn,aa.funcs[f]?=some fn∧fn.body.isNone=true∧Extern.findNext fn=none∧Extern.find fn=some e:=by
 intro f e h
 unfold Tryz.xt at h
 cases hf:ay f 60 with
 | false=>rw [hf] at h; cases h
 | true =>
  have hf':f=60:=bf hf
  subst hf'
  simp only [hf,cond_true,ak] at h
  subst h
  exact ⟨Tryz.f60,Tryz.func60,by kernel_rfl,by kernel_rfl,by kernel_rfl⟩
theorem Tryz.mixed:aa.follows .mixedOrders=true:=by kernel_rfl
def ZX (P:Program):Bool:=P.funcs.toList.all fun fn=>!(fn.name== "runtime.NumGoroutine")
theorem Tryz.ZY:ZX aa=true:=by kernel_rfl
theorem Tryz.named:kP aa:=by
 intro f fn h
 have:=bn.1 Tryz.ZY fn (by
  have:fn∈aa.funcs:=Array.mem_of_getElem? h
  simpa using this)
 simpa using this
end Go.Proofs
end
section
namespace Go.Proofs
open Go.Sm Go.RowKit
theorem Tryz.ky:Go.Sm.kP aa:=Tryz.named
def var (i:Nat):Value:=mk 0 (.int .i64 i) []
def mB (c:Nat) (xs:List Value):Value:=mk c (.bool true) xs
def mI (c:Nat) (xs:List Value):Value:=mk c (.int .i64 0) xs
def wr (n:Int):Int:=bg.wrap n
def mn (a b:Int):Int:=if b<a then b else a
def mx (a b:Int):Int:=if a<b then b else a
def Wu (a b:Int):Int:=bg.wrap (ae6 bg.bits a &&& ae6 bg.bits b).toNat
theorem Zo {A:Type} {l:List A} {n:Nat} (h:l.length=n+1):∃a t,l=a::t∧t.length=n:=by
 cases l with
 | nil=>simp at h
 | cons a t=>exact ⟨a,t,rfl,by simpa using h⟩
theorem fB (E:Env):Sat E []:=fun p h=>by cases h
variable {E:Env}
theorem afl {c b:Value} {g:List (Value×Value)} (h:∃d x,eF E d c=some x∧eF E d b=some x) (hg:Sat E g):Sat E ((c,b)::g):=by
 intro p hp
 rcases ag.1 hp with rfl | hp
 ·exact h
 ·exact hg p hp
theorem Nh {E E':Env} (h1:E.fn=E'.fn) (h2:E.zt=E'.zt) (l:List Int):∀(j:Nat) (rs:List tQ),qZ E l j rs=qZ E' l j rs
 | _,[]=>rfl
 | j,r::rs=>by
  have:zm E j l r=zm E' j l r:=by cases r<;>simp [zm,h1,h2]
  simp only [qZ,this,Nh h1 h2 l (j+r.wid) rs]
variable {E':Env}
theorem Cw {P:Program} (h1:E.fn=E'.fn) (h2:E.zt=E'.zt) {e:eZ} (h:fo P E e):fo P E' e:=by
 intro l w hl
 rw [←Nh h1 h2]
 exact h l w hl
theorem Yl (d:Nat) (a c:Int) (w:World):(Op.equalIn (d+1) 2 (.int .i64 a) (.int .i64 c)).run aa w=.ok (a==c) w:=by
 rw [Op.equalIn]
 simp only [di,run_underlying Tryz.underlying2,bC,if_true,dA]
theorem XC (d:Nat) (a b c e:Int) (w:World):(Op.equalIn (d+2) 23 (.agg #[.int .i64 a,.int .i64 b]) (.agg #[.int .i64 c,.int .i64 e])).run aa w=.ok (a==c&&b==e) w:=by
 have h1:aa.stoodInHeld 23=false:=by kernel_rfl
 have p0:∀x y:Int,(part 2 #[.int .i64 x,.int .i64 y] 0).run aa w=.ok (.int .i64 x) w:=fun x y=>by
  simp [part]
 have p1:∀x y:Int,(part 2 #[.int .i64 x,.int .i64 y] 1).run aa w=.ok (.int .i64 y) w:=fun x y=>by
  simp [part]
 rw [Op.equalIn]
 simp only [di,run_underlying Tryz.underlying23,bC,program,Sem.run,h1,ajp,if_false]
 cases hac:(a==c)<;>cases hbe:(b==e)<;>simp [di,p0,p1,Yl,hac,hbe]
theorem Cy (l:Env) (g:List (Value×Value)) (x:FuncId→Option (Array Value→Sem Value)) {ws:List (Nat×Value×Nat×Nat)} {ls:List (Nat×Value)} {wb:List Go.Sm.eG} {sb:List (Nat×Value×Nat)}:DV aa ⟨x,l,g,[23],ws,ls,wb,sb⟩:=by
 intro t ht o x y z ρ a b c d w ng ho hx hy
 have ht':t=23:=by simpa using ht
 subst ht'
 have hg:aa.eqGuardType aa.depth 23=false:=by kernel_rfl
 have he:(Op.equal 23 (.agg #[.int .i64 a,.int .i64 b]) (.agg #[.int .i64 c,.int .i64 d])).run aa w=.ok (a==c&&b==d) w:=XC 9998 a b c d w
 unfold execOp
 rw [ho]
 cases ng with
 | false=>simp [hx,hy,eqGuard,binOp,program,Sem.run,hg,he]
 | true=>simp [hx,hy,eqGuard,binOp,program,Sem.run,hg,he]
theorem CK:∀f e,Tryz.xt f=some e→∃fn,aa.funcs[f]?=some fn∧fn.body.isNone=true∧Extern.findNext fn=none∧Extern.find fn=some e:=Tryz.aeP
end Go.Proofs
end
