/-
  Part of the proof: see the last text.
-/
import Derived.Test.YthbfmjlcnfgnbaaGreatZSb
import Derived.Test.YthbfmjlcnfgnbaaGreatZYb
set_option linter.unusedVariables false
set_option maxHeartbeats 8000000
open Array renaming getD_eq_getD_getElem?→bI,getElem?_eq_some_iff→aB,replicate→aji
open Bool renaming and_eq_true→aQ,false_eq_true→ajp
open Go.IntKind renaming i64→bg
open Go.IntWalk renaming i64_in→dz
open List renaming all_eq_true→bn,append_nil→afk,cons_append→dw,eq_nil_of_length_eq_zero→bR,getD→amI,getElem?_append_left→aH,getElem?_append_right→bu,getElem?_cons_succ→aeW,getElem?_drop→aeX,getElem?_eq_getElem→ah,getElem?_eq_none→bQ,getElem?_eq_some_iff→ai,getElem?_map→bY,getElem?_of_mem→cZ,getElem?_set_ne→bz,getElem?_take→dx,length→ae1,length_append→afa,length_cons→dB,length_map→dF,length_nil→aeT,mem_append→bH,mem_append_left→aeY,mem_append_right→dm,mem_cons→ag,mem_cons_of_mem→aT,mem_cons_self→aA,mem_map→aeZ,mem_of_getElem?→aN,nodup_append→afe,not_mem_nil→ae,pairwise_iff_getElem→ae7,range→dh,replicate→ag6,size_toArray→aeR,take_of_length_le→dH
open List.cons renaming injEq→afj
open Nat renaming beq→ay,ble→amE,eq_of_beq_eq_true→bf,le_of_ble_eq_true→ae8,le_of_not_lt→afb,le_refl→au,le_trans→aZ,lt_of_lt_of_le→aC,succ_pos→aO
open Ne renaming symm→ae4
open Option renaming map_eq_some_iff→aR
open Option.some renaming injEq→ak
open Prod.mk renaming injEq→aP
open Go.Result renaming andThen_ok→bC
open Go.Sem renaming run_bind→di,run_pure→dA
open Go.Proofs.Tryz renaming f42→aff,f44→bE,prog→aa
open Go.World renaming cell?→bS
section
section
namespace Go.Sm
open Go.RowKit
structure Pl where
 gp:List Nat
 lp:List (Nat×Nat)
def fP (E:Env) (p:Pl):Nat→Value→Option Value
 | 0,_=>none
 | d+1,v=>match v with
  | .agg ⟨l⟩=>match eQ (fP E p d) l with
   | some r=>some (.agg ⟨r⟩)
   | none=>none
  | .tuple ⟨l⟩=>match eQ (fP E p d) l with
   | some r=>some (.tuple ⟨r⟩)
   | none=>none
  | .int k n=>some (.int k n)
  | .bool b=>some (.bool b)
  | .string s=>some (.string s)
  | .pointer none=>some (.pointer none)
  | .slice none n c=>some (.slice none n c)
  | .nilFunc=>some .nilFunc
  | .pointer (some ⟨i,o,none⟩)=>match p.gp[i]? with
   | some g=>some (.pointer (some ⟨g,o,none⟩))
   | none=>none
  | .pointer (some ⟨i,o,some 0⟩)=>match p.lp[i]? with
   | some x=>some (.pointer (some ⟨x.1,o+x.2,none⟩))
   | none=>none
  | .slice (some ⟨i,o,none⟩) n c=>match p.gp[i]? with
   | some g=>some (.slice (some ⟨g,o,none⟩) n c)
   | none=>none
  | .func (.func f) ⟨[]⟩ ⟨[]⟩=>bif ay f 3000000 then none else bif amE 2000000 f then some (.slice (E.sl (f - 2000000)).1 (E.sl (f - 2000000)).2.1 (E.sl (f - 2000000)).2.2) else bif jq f then none else some (.func (.func f) ⟨[]⟩ ⟨[]⟩)
  | .func (.func f) ⟨x::xs⟩ ⟨[]⟩=>bif jq f then eF E 300 (.func (.func f) ⟨x::xs⟩ ⟨[]⟩) else none
  | _=>none
def uV (w:World) (g:Nat):Array Value×TypeId×(Nat×Nat):=match w.heap[g]? with
 | some (.cells cs t fr)=>(cs,t,fr)
 | _=>(#[],0,0,0)
def iC (E:Env) (p:Pl) (w:World):Mp:=⟨fun i=>p.gp[i]?,fun i=>(p.lp[i]?).map (·.1),fun _=>false,fun _=>0,fun _=>0,E,fun i=>((p.lp[i]?).map (·.2)).getD 0,uV w⟩
structure At (p:Pl) (m:Mp):Prop where
 gb:∀(i g:Nat),p.gp[i]?=some g→m.gb i=some g
 lo:∀(i g:Nat),p.gp[i]?=some g→m.loose i=false
 lb:∀(i:Nat) (x:Nat×Nat),p.lp[i]?=some x→m.lb i=some x.1∧m.sh i=x.2
theorem vF (E:Env) (p:Pl) (w:World):At p (iC E p w):=⟨fun i g e=>e,fun i g e=>rfl,fun i x e=>⟨by simp [iC,e],by simp [iC,e]⟩⟩
variable {p:Pl} {m m':Mp}
theorem At.mono (h:At p m) (hm:Le m m'):At p m' :=
 ⟨fun i g e=>hm.gb i g (h.gb i g e),fun i g e=>(hm.loose i g (h.gb i g e)).trans (h.lo i g e),fun i x e=>⟨hm.lb i _ (h.lb i x e).1,(hm.sh i _ (h.lb i x e).1).trans (h.lb i x e).2⟩⟩
theorem qJ {p:Pl} {m:Mp} (hA:At p m):∀(d:Nat) (v u:Value),fP m.env p d v=some u→VR m v u
 | 0,_,_,h=>by cases h
 | d+1,v,u,h=>by
  unfold fP at h
  split at h
  ·split at h
   ·rename_i r hr; injection h with h; subst h; exact (qp (qJ hA d) _ _ hr).agg
   ·cases h
  ·split at h
   ·rename_i r hr; injection h with h; subst h; exact (qp (qJ hA d) _ _ hr).tuple
   ·cases h
  ·injection h with h; subst h; exact .int _ _
  ·injection h with h; subst h; exact .bool _
  ·injection h with h; subst h; exact .string _
  ·injection h with h; subst h; exact .tH
  ·injection h with h; subst h; exact .qD _ _
  ·injection h with h; subst h; exact .nilFunc
  ·split at h
   ·rename_i g hg; injection h with h; subst h; exact .pO (hA.gb _ _ hg)
   ·cases h
  ·split at h
   ·rename_i x hx; injection h with h; subst h; exact .afr (hA.lb _ _ hx).1 (by rw [(hA.lb _ _ hx).2])
   ·cases h
  ·split at h
   ·rename_i g hg; injection h with h; subst h; exact .ow (hA.gb _ _ hg)
   ·cases h
  ·rename_i f
   cases hdd:ay f 3000000 with
   | true=>rw [hdd] at h; cases h
   | false =>
   rw [hdd] at h
   simp only [cond_false] at h
   cases hb:amE 2000000 f with
   | true =>
    rw [hb] at h
    simp only [cond_true] at h
    injection h with h; subst h
    exact .hnd (Nat.ble_eq_true_of_le (aZ (ae8 rfl:1000000≤2000000) (ae8 hb))) hb
   | false =>
    rw [hb] at h
    simp only [cond_false] at h
    cases hf:jq f with
    | true=>rw [hf] at h; cases h
    | false =>
     rw [hf] at h
     simp only [cond_false] at h
     injection h with h; subst h
     exact .func hf rfl (fun i v v' h=>by simp at h) rfl (fun i v v' h=>by simp at h)
  ·rename_i f x xs
   cases hf:jq f with
   | false=>rw [hf] at h; cases h
   | true =>
    rw [hf] at h
    simp only [cond_true] at h
    obtain ⟨_,hu⟩:=Az h
    rcases hu with ⟨k,n,rfl⟩ | ⟨b,rfl⟩
    ·exact .jX hf ⟨_,h⟩
    ·exact .jV hf ⟨_,h⟩
  ·cases h
theorem p9 {p:Pl} {m:Mp} (hA:At p m):∀(d:Nat) (v u v':Value),fP m.env p d v=some u→VR m v v'→v'=u
 | 0,_,_,_,h,_=>by cases h
 | d+1,v,u,v',h,hv=>by
  unfold fP at h
  split at h
  ·split at h
   ·rename_i r hr
    injection h with h; subst h
    obtain ⟨cs',rfl,hc⟩:=uD hv
    have:=oN (p9 hA d) _ _ _ hr hc
    obtain ⟨l'⟩:=cs'
    simp only at this
    rw [this]
   ·cases h
  ·split at h
   ·rename_i r hr
    injection h with h; subst h
    obtain ⟨cs',rfl,hc⟩:=DN hv
    have:=oN (p9 hA d) _ _ _ hr hc
    obtain ⟨l'⟩:=cs'
    simp only at this
    rw [this]
   ·cases h
  ·injection h with h; subst h; exact wh hv
  ·injection h with h; subst h; exact Ab hv
  ·injection h with h; subst h; cases hv; rfl
  ·injection h with h; subst h; cases hv; rfl
  ·injection h with h; subst h; cases hv; rfl
  ·injection h with h; subst h; cases hv; rfl
  ·split at h
   ·rename_i g hg
    injection h with h; subst h
    cases hv with
    | pO e=>rw [hA.gb _ _ hg] at e; injection e with e; subst e; rfl
   ·cases h
  ·split at h
   ·rename_i x hx
    injection h with h; subst h
    cases hv with
    | afr e ho=>rw [(hA.lb _ _ hx).1] at e; injection e with e; rw [(hA.lb _ _ hx).2] at ho; subst e; subst ho; rfl
   ·cases h
  ·split at h
   ·rename_i g hg
    injection h with h; subst h
    cases hv with
    | ow e=>rw [hA.gb _ _ hg] at e; injection e with e; subst e; rfl
    | qW e hl _ _=>rw [hA.lo _ _ hg] at hl; cases hl
    | qV e hl=>rw [hA.lo _ _ hg] at hl; cases hl
   ·cases h
  ·rename_i f
   cases hdd:ay f 3000000 with
   | true=>rw [hdd] at h; cases h
   | false =>
   rw [hdd] at h
   simp only [cond_false] at h
   cases hb:amE 2000000 f with
   | true =>
    rw [hb] at h
    simp only [cond_true] at h
    injection h with h; subst h
    exact EN (k:=f - 2000000) (by simp [zz,hb]) hv
   | false =>
    rw [hb] at h
    simp only [cond_false] at h
    cases hf:jq f with
    | true=>rw [hf] at h; cases h
    | false =>
     rw [hf] at h
     simp only [cond_false] at h
     injection h with h; subst h
     cases hv with
     | jX h0 _=>rw [hf] at h0; cases h0
     | jV h0 _=>rw [hf] at h0; cases h0
     | hnd h0 _=>rw [hf] at h0; cases h0
     | func _ hl _ hl2 _ =>
      rw [bR hl.symm,bR hl2.symm]
  ·rename_i f x xs
   cases hf:jq f with
   | false=>rw [hf] at h; cases h
   | true =>
    rw [hf] at h
    simp only [cond_true] at h
    cases hv with
    | jX _ hh=>obtain ⟨d',hd⟩:=hh; exact ru m.env hd h
    | jV _ hh=>obtain ⟨d',hd⟩:=hh; exact ru m.env hd h
    | func h0 _ _ _ _=>rw [hf] at h0; cases h0
  ·cases h
def qc (E:Env) (p:Pl) (loc:Hp) (w:World):Prop:=∀(g:Nat) (c:Array Value×TypeId×(Nat×Nat)),E.fz g=some c→(w.heap[g]?=some (.cells c.1 c.2.1 c.2.2)∧g∉p.gp)∧∀(i s:Nat) (b:eG),p.lp[i]?=some (g,s)→loc[i]?=some b→(b.live=true∧b.loose=true)∧b.eD≠0
variable {E:Env} {loc:Hp} {w:World}
theorem EM (h:∀g,E.fz g=none):qc E p loc w:=fun g c hc=>by rw [h] at hc; cases hc
structure Pre (E:Env) (p:Pl) (fr:List Value) (H loc:Hp) (a:Act) (w:World):Prop where
 df:a.defers=[]
 lu:fr.length=a.tmps.size
 fr:∀(t:Nat) (v u:Value),fr[t]?=some v→a.tmps[t]?=some u→u7 v=true∨fP E p 5 v=some u
 gl:∀(i:Nat) (b:eG),H[i]?=some b→(b.live=true∧b.loose=false∧b.eD=0∧b.cells.all kV=true)∧∃g vs,p.gp[i]?=some g∧eQ (fP E p 4) b.cells=some vs∧w.heap[g]?=some (.cells ⟨vs⟩ b.elem (0,0))
 lo:∀(i:Nat) (b:eG),loc[i]?=some b→b.live=true∧∃g s vs cs t f,p.lp[i]?=some (g,s)∧eQ (fP E p 4) b.cells=some vs∧w.heap[g]?=some (.cells cs t f)∧s+vs.length≤cs.size∧(∀(j:Nat) (v:Value),vs[j]?=some v→cs[s+j]?=some v)∧(b.loose=false→s=0∧cs.size=vs.length)∧(b.eD=0→t=b.elem∧f=(0,0))
 Yi:p.gp.length=H.length
 Zr:p.lp.length=loc.length
 gd:∀(i j g:Nat),p.gp[i]?=some g→p.gp[j]?=some g→i=j
 Yh:∀(i j g s:Nat),p.gp[i]?=some g→p.lp[j]?=some (g,s)→False
 fz:qc E p loc w
 f0:∀c,E.f0=some c→p.gp[0]?=some c
 ld:∀(i j g s s':Nat) (bi bj:eG),p.lp[i]?=some (g,s)→p.lp[j]?=some (g,s')→loc[i]?=some bi→loc[j]?=some bj→i=j∨(bi.loose=true∧bj.loose=true∧((s+bi.cells.length≤s'∨s'+bj.cells.length≤s)∨(bi.eD≠0∧bj.eD≠0)))
theorem nR {f:Value→Option Value}:∀(l r:List Value),eQ f l=some r→r.length=l.length
 | [],r,h=>by simp only [eQ,ak] at h; subst h; rfl
 | v::l,r,h=>by
  unfold eQ at h
  split at h
  ·split at h
   ·rename_i s hs
    injection h with h; subst h
    simp [nR l s hs]
   ·cases h
  ·cases h
variable {fr:List Value} {H:Hp} {a:Act}
theorem Pre.rel (h:Pre E p fr H loc a w):Rel (iC E p w) H loc w:=by
 have hA:=vF E p w
 have hsh:∀i g s,p.lp[i]?=some (g,s)→(iC E p w).sh i=s:=fun i g s e=>by simp [iC,e]
 have hlb:∀i g,(iC E p w).lb i=some g→∃s,p.lp[i]?=some (g,s):=fun i g e=>by
  simp only [iC,aR] at e
  obtain ⟨x,e1,e2⟩:=e
  exact ⟨x.2,by rw [e1,←e2]⟩
 have hgl:∀i g,p.gp[i]?=some g→∃b,H[i]?=some b:=fun i g e=>by
  have:=(ai.1 e).1
  rw [h.Yi] at this
  exact ⟨_,ah this⟩
 have hlo:∀i x,p.lp[i]?=some x→∃b,loc[i]?=some b:=fun i x e=>by
  have:=(ai.1 e).1
  rw [h.Zr] at this
  exact ⟨_,ah this⟩
 refine ⟨fun i g e=>?_,fun i g e=>?_,fun i j g bi bj e e' _ _ _ _=>h.gd i j g e e',fun i j g bi bj e e' hbi hbj=>?_,fun i j g e e'=>?_,fun i g b e hb hl=>?_,fun g c hc=>?_,h.f0⟩
 case refine_6 =>
  obtain ⟨⟨f1,f2⟩,f3⟩:=h.fz g c hc
  refine ⟨⟨f1,fun i e=>f2 (aN (show p.gp[i]?=some g from e))⟩,fun i b e hb=>?_⟩
  obtain ⟨s,e1⟩:=hlb i g e
  exact f3 i s b e1 hb
 ·obtain ⟨b,hb⟩:=hgl i g e
  obtain ⟨⟨k1,k2,k3,k4⟩,g',vs,e1,e2,e3⟩:=h.gl i b hb
  have e0:p.gp[i]?=some g:=e
  rw [e0] at e1; injection e1 with e1; subst e1
  refine ⟨(aB.1 e3).1,b,hb,⟨k2.symm,k3.symm,fun _=>⟨_,e3,by simp [nR _ _ e2],?_,fun _=>by simp [nR _ _ e2],fun e=>by rw [k2] at e; cases e⟩⟩⟩
  rw [dH (by simp [nR _ _ e2])]
  exact vB k4 (qp (qJ (m:=iC E p w) hA 4) _ _ e2) |> fun x=>by
   refine ⟨x.1,x.2⟩
 ·obtain ⟨s,e1⟩:=hlb i g e
  obtain ⟨b,hb⟩:=hlo i _ e1
  obtain ⟨k1,g',s',vs,cs,t,f,q1,q2,q3,q4,q5,q6,q7⟩:=h.lo i b hb
  rw [e1] at q1; injection q1 with q1; injection q1 with q1 q1'; subst q1; subst q1'
  have hln:=nR _ _ q2
  refine ⟨(aB.1 q3).1,b,hb,⟨fun _=>⟨cs,t,f,q3,by rw [hsh i g s e1]; omega,?_,fun hl=>⟨(hsh i g s e1).trans (q6 hl).1,by rw [(q6 hl).2,hln]⟩,q7⟩,fun e=>by rw [k1] at e; cases e⟩⟩
  rw [hsh i g s e1]
  have:(cs.toList.drop s).take b.cells.length=vs:=by
   apply List.ext_getElem?
   intro j
   simp only [dx,aeX]
   split
   ·rename_i hj
    have hj':j<vs.length:=by omega
    rw [ah hj']
    simpa using q5 j _ (ah hj')
   ·rw [bQ (by omega)]
  rw [this]
  exact qp (qJ (m:=iC E p w) hA 4) _ _ q2
 ·obtain ⟨s,e1⟩:=hlb i g e
  obtain ⟨s',e1'⟩:=hlb j g e'
  rw [hsh i g s e1,hsh j g s' e1']
  rcases h.ld i j g s s' bi bj e1 e1' hbi hbj with r | ⟨r1,r2,r3⟩
  ·exact .inl r
  ·exact .inr ⟨(h.lo i bi hbi).1,(h.lo j bj hbj).1,r1,r2,r3⟩
 ·obtain ⟨s',e1'⟩:=hlb j g e'
  exact h.Yh i j g s' e e1'
 ·obtain ⟨s,e1⟩:=hlb i g e
  obtain ⟨k1,g',s',vs,cs,t,f,q1,q2,q3,q4,q5,q6,q7⟩:=h.lo i b hb
  rw [e1] at q1; injection q1 with q1; injection q1 with q1 q1'; subst q1; subst q1'
  have ho:(iC E p w).bs g=(cs,t,f):=by simp [iC,uV,q3]
  exact ⟨cs,by rw [ho]; exact q3,by rw [ho],fun o _=>by rw [ho]⟩
structure Post (E:Env) (p q:Pl) (w:World) (fr':List Value) (H' loc':Hp) (a':Act) (w':World):Prop where
 df:a'.defers=[]
 lu:a'.tmps.size=fr'.length
 fr:∀(t:Nat) (v u:Value),fr'[t]?=some v→fP E q 5 v=some u→a'.tmps[t]?=some u
 gl:∀(i g:Nat) (b:eG) (vs:List Value),q.gp[i]?=some g→H'[i]?=some b→b.live=true→eQ (fP E q 4) b.cells=some vs→w'.heap[g]?=some (.cells ⟨vs⟩ b.elem (0,0))
 lo:∀(i g s:Nat) (b:eG) (vs:List Value),q.lp[i]?=some (g,s)→loc'[i]?=some b→b.live=true→eQ (fP E q 4) b.cells=some vs →
  ∃cs t f,w'.heap[g]?=some (.cells cs t f)∧(∀(j:Nat) (v:Value),vs[j]?=some v→cs[s+j]?=some v)∧(b.loose=false→cs=⟨vs⟩∧s=0)∧(b.eD=0→t=b.elem∧f=(0,0))
 out:∀(i g s:Nat) (b:eG),p.lp[i]?=some (g,s)→loc'[i]?=some b→b.loose=true→∃cs,w'.heap[g]?=some (.cells cs (uV w g).2.1 (uV w g).2.2)∧cs.size=(uV w g).1.size ∧
  ∀o,(∀(j s':Nat) (bj:eG),p.lp[j]?=some (g,s')→loc'[j]?=some bj→bj.eD=0→o<s'∨s'+bj.cells.length≤o)→cs[o]?=(uV w g).1[o]?
 os:w'.os=w.os
 tape:w'.tape=w.tape
 output:w'.output=w.output
 size:w.heap.size≤w'.heap.size
 frame:∀g,g<w.heap.size→g∉p.gp→(∀x∈p.lp,x.1≠g)→w'.heap[g]?=w.heap[g]?
theorem Pre.GH (h:Pre E p fr H loc a w):jQ (iC E p w) H w ⟨fr,H,loc,[]⟩ (iC E p w) a w:=by
 have hA:=vF E p w
 have hR:=h.rel
 refine ⟨?_,⟨by simpa using h.lu,fun t v u e1 e2=>?_⟩,h.df⟩
 ·exact ⟨Le.refl _,hR,fun i g e=>.inl ⟨i,e⟩,fun _ _ e=>.inl e,fun _ _ e=>.inl e,fun _ _ e=>.inl e,rfl,rfl,rfl,au _,fun _ _ _ _=>rfl,fun _ _ _=>rfl,fun i hi=>(by simp at hi),fun _ _ _=>rfl,fun i hi=>(by simp at hi),au _,by simp,fun _ b e=>⟨b,e,rfl,rfl⟩,fun _ _ _ _ _ _ _=>rfl,hR.fz.lt⟩
 ·rcases h.fr t v u e1 (by simpa using e2) with r | r
  ·exact .inl r
  ·exact .inr (qJ (m:=iC E p w) hA 5 v u r)
variable {P:Program} {X:Xt} {O:ig} {esc:Nat→Bool} {fuel:Nat} {c:Code} {fr':List Value} {H' loc':Hp} {wg:List Nat} {Q:Exit→Act→World→Prop}
theorem O5 (hm:P.follows .mixedOrders=true) (hN:kP P) (hX:kD P X) (hO:iY P X.env O) (hP:jc O) {x:Ex}
  (hrun:exec P X O esc fuel c ⟨fr,H,loc,[]⟩=some (x,⟨fr',H',loc',wg⟩)) (h:Pre X.env p fr H loc a w) (hW:kv X (iC X.env p w))
  (hQ:∀m' a' w',jQ (iC X.env p w) H w ⟨fr',H',loc',wg⟩ m' a' w'→Q (vS x) a' w'):c.wp P Q a w:=by
 have hA:=vF X.env p w
 have hR:=h.rel
 have hsim:jQ (iC X.env p w) H w ⟨fr,H,loc,[]⟩ (iC X.env p w) a w:=by
  refine ⟨?_,⟨by simpa using h.lu,fun t v u e1 e2=>?_⟩,h.df⟩
  ·exact ⟨Le.refl _,hR,fun i g e=>.inl ⟨i,e⟩,fun _ _ e=>.inl e,fun _ _ e=>.inl e,fun _ _ e=>.inl e,rfl,rfl,rfl,au _,fun _ _ _ _=>rfl,fun _ _ _=>rfl,fun i hi=>(by simp at hi),fun _ _ _=>rfl,fun i hi=>(by simp at hi),au _,by simp,fun _ b e=>⟨b,e,rfl,rfl⟩,fun _ _ _ _ _ _ _=>rfl,hR.fz.lt⟩
  ·rcases h.fr t v u e1 (by simpa using e2) with r | r
   ·exact .inl r
   ·exact .inr (qJ (m:=iC X.env p w) hA 5 v u r)
 exact AA hm hN hX hO (m0:=iC X.env p w) (H0:=H) (w0:=w) ⟨rfl,hW⟩ hP c _ x _ _ a w Q hrun hsim fun m' a' w' hs=>hQ m' a' w' hs
variable {q:Pl} {a':Act} {w':World}
theorem Bt (h:Pre E p fr H loc a w) (hs:jQ (iC E p w) H w ⟨fr',H',loc',wg⟩ m' a' w') (hA':At q m') (hlq:∀(i:Nat) (x:Nat×Nat),p.lp[i]?=some x→q.lp[i]?=some x):Post E p q w fr' H' loc' a' w':=by
 have hA:=vF E p w
 have hR:=h.rel
 have hle:=hs.ext.le
 have hE:m'.env=E:=hle.env
 have hbs:m'.bs=uV w:=hle.bs
 refine ⟨hs.df,by have:=hs.fr.1; simp at this; omega,fun t v u e1 e2=>?_,fun i g b vs e1 e2 e3 e4=>?_,fun i g s b vs e1 e2 e3 e4=>?_,fun i g s b e1 e2 e3=>?_,hs.ext.os,hs.ext.tape,hs.ext.output,hs.ext.size,fun g hg h1 h2=>?_⟩
 ·have hlt:t<a'.tmps.toList.length:=by rw [←hs.fr.1]; exact (ai.1 e1).1
  rcases hs.fr.2 t v _ e1 (ah hlt) with r | r
  ·exfalso
   unfold u7 at r
   split at r
   ·rename_i f
    unfold fP at e2
    simp only [r,cond_true] at e2
    cases e2
   ·cases r
  ·have:=p9 hA' 5 v u _ (by rw [hE]; exact e2) r
   have h2:=ah hlt
   rw [this] at h2
   simpa using h2
 ·obtain ⟨_,b',hb',hG⟩:=hs.ext.rel.ic i g (hA'.gb i g e1)
  rw [e2] at hb'; injection hb' with hb'; subst hb'
  obtain ⟨cs,q1,q2,q3,q4,_⟩:=hG.blk e3
  have hl:b.loose=false:=by rw [←hG.lo]; exact hA'.lo i g e1
  have hsz:=q4 hl
  have:cs.toList=vs:=by
   have q3':=q3.mono (Be m')
   have:=oN (p9 hA' 4) _ _ _ (by rw [hE]; exact e4) q3'
   rw [←this,dH (by simp [hsz])]
  rw [q1,←this]
 ·obtain ⟨k1,k2⟩:=hA'.lb i (g,s) e1
  obtain ⟨_,b',hb',hL⟩:=hs.ext.rel.iN i g k1
  rw [e2] at hb'; injection hb' with hb'; subst hb'
  obtain ⟨cs,t,f,q1,q2,q3,q4,q5⟩:=hL.blk e3
  have hvs:=oN (p9 hA' 4) _ _ _ (by rw [hE]; exact e4) q3
  have hln:=nR _ _ e4
  simp only at k2
  rw [k2] at hvs q2
  refine ⟨cs,t,f,q1,fun j v hj=>?_,fun hl=>?_,q5⟩
  ·rw [←hvs] at hj
   simp only [dx,aeX] at hj
   split at hj
   ·simpa using hj
   ·cases hj
  ·obtain ⟨r1,r2⟩:=q4 hl
   rw [k2] at r1
   subst r1
   refine ⟨?_,rfl⟩
   rw [←hvs,List.drop_zero,dH (by simp [r2])]
 ·obtain ⟨k1,k2⟩:=hA'.lb i (g,s) (hlq i _ e1)
  obtain ⟨cs,q1,q2,q3⟩:=hs.ext.rel.uF i g b k1 e2 e3
  rw [hbs] at q1 q2 q3
  refine ⟨cs,q1,q2,fun o ho=>q3 o fun j bj r1 r2 r3=>?_⟩
  have hg:g<w.heap.size:=(hR.iN i g (hA.lb i (g,s) e1).1).1
  rcases hs.ext.oG j g r1 with r4 | r4
  ·simp only [iC,aR] at r4
   obtain ⟨y,r5,r6⟩:=r4
   obtain ⟨y1,y2⟩:=y
   simp only at r6
   subst r6
   have:=(hA'.lb j _ (hlq j _ r5)).2
   simp only at this
   rw [this]
   exact ho j y2 bj r5 r2 r3
  ·omega
 ·refine hs.ext.frame g hg (fun i e=>h1 ?_) (fun i e=>?_)
  ·exact aN (show p.gp[i]?=some g from e)
  ·simp only [iC,aR] at e
   obtain ⟨y,e1,e2⟩:=e
   exact h2 y (aN e1) e2
theorem Yb (hm:P.follows .mixedOrders=true) (hN:kP P) (hX:kD P X) (hO:iY P X.env O) (hP:jc O) {x:Ex}
  (hrun:exec P X O esc fuel c ⟨fr,H,loc,[]⟩=some (x,⟨fr',H',loc',wg⟩)) (h:Pre X.env p fr H loc a w) (hW:kv X (iC X.env p w))
  (hQ:∀a' w',Post X.env p p w fr' H' loc' a' w'→Q (vS x) a' w'):c.wp P Q a w :=
 O5 hm hN hX hO hP hrun h hW fun _ a' w' hs=>hQ a' w' (Bt h hs ((vF X.env p w).mono hs.ext.le) fun _ _ e=>e)
variable {s:St} {i o:Nat}
theorem GL (hs:jQ m H w s m' a' w') {t:Nat} (h:s.fr[t]?=some (.pointer (some ⟨i,o,some 0⟩))):∃g,m'.lb i=some g∧a'.tmps[t]?=some (.pointer (some ⟨g,o+m'.sh i,none⟩)):=by
 have hlt:t<a'.tmps.toList.length:=by rw [←hs.fr.1]; exact (ai.1 h).1
 have h2:=ah hlt
 rcases hs.fr.2 t _ _ h h2 with r | r
 ·cases r
 ·obtain ⟨ad,e,har⟩:=vz r
  obtain ⟨b,o',sp⟩:=ad
  rcases har with ⟨c1,_⟩ | ⟨_,c2,c3,c4⟩
  ·cases c1
  ·simp only at c2 c3 c4
   subst c3; subst c4
   exact ⟨b,c2,by rw [e] at h2; simpa using h2⟩
theorem Kn (hs:jQ m H w s m' a' w') {g:Nat} (h:m'.lb i=some g) (h0:m.lb i=none):w.heap.size≤g∧g<w'.heap.size:=by
 refine ⟨?_,(hs.ext.rel.iN i g h).1⟩
 rcases hs.ext.oG i g h with r | r
 ·rw [h0] at r; cases r
 ·exact r
def wo (E:Env) (p:Pl) (a:Act):Nat→List Value→Prop
 | _,[]=>True
 | t,v::l=>(u7 v=true∨∃u,fP E p 5 v=some u∧a.tmps[t]?=some u)∧wo E p a (t+1) l
def sw (E:Env) (p:Pl) (w:World):List eG→List Nat→Prop
 | [],[]=>True
 | b::H,g::gs=>((b.live=true∧b.loose=false∧b.eD=0∧b.cells.all kV=true)∧∃vs,eQ (fP E p 4) b.cells=some vs∧w.heap[g]?=some (.cells ⟨vs⟩ b.elem (0,0)))∧sw E p w H gs
 | _,_=>False
def DX (E:Env) (p:Pl) (w:World) (b:eG) (x:Nat×Nat):Prop:=b.live=true∧∃vs cs t f,eQ (fP E p 4) b.cells=some vs∧w.heap[x.1]?=some (.cells cs t f)∧x.2+vs.length≤cs.size∧(∀(j:Nat) (v:Value),vs[j]?=some v→cs[x.2+j]?=some v)∧(b.loose=false→x.2=0∧cs.size=vs.length)∧(b.eD=0→t=b.elem∧f=(0,0))
def wy (E:Env) (p:Pl) (w:World):List eG→List (Nat×Nat)→Prop
 | [],[]=>True
 | b::l,x::xs=>DX E p w b x∧wy E p w l xs
 | _,_=>False
def D8 (x y:eG×(Nat×Nat)):Prop:=x.2.1≠y.2.1∨(x.1.loose=true∧y.1.loose=true∧((x.2.2+x.1.cells.length≤y.2.2∨y.2.2+y.1.cells.length≤x.2.2)∨(x.1.eD≠0∧y.1.eD≠0)))
theorem wo.at {E:Env} {p:Pl} {a:Act}:∀(l:List Value) (t0 t:Nat) (v:Value),wo E p a t0 l→l[t]?=some v→u7 v=true∨∃u,fP E p 5 v=some u∧a.tmps[t0+t]?=some u
 | [],_,_,_,_,h=>by simp at h
 | x::l,t0,0,v,hF,h=>by simp at h; subst h; exact hF.1
 | x::l,t0,t+1,v,hF,h=>by
  have:=wo.at l (t0+1) t v hF.2 (by simpa using h)
  rwa [show t0+1+t=t0+(t+1) by omega] at this
theorem sw.at {E:Env} {p:Pl} {w:World}:∀(H:List eG) (gs:List Nat),sw E p w H gs→gs.length=H.length∧∀(i:Nat) (b:eG),H[i]?=some b→(b.live=true∧b.loose=false∧b.eD=0∧b.cells.all kV=true)∧∃g vs,gs[i]?=some g∧eQ (fP E p 4) b.cells=some vs∧w.heap[g]?=some (.cells ⟨vs⟩ b.elem (0,0))
 | [],[],_=>⟨rfl,fun i b h=>by simp at h⟩
 | [],_::_,h=>by cases h
 | _::_,[],h=>by cases h
 | b::H,g::gs,h=>by
  obtain ⟨h1,h2⟩:=sw.at H gs h.2
  refine ⟨by simp [h1],fun i b' hb=>?_⟩
  cases i with
  | zero=>simp at hb; subst hb; obtain ⟨k,vs,k1,k2⟩:=h.1; exact ⟨k,g,vs,rfl,k1,k2⟩
  | succ i=>simpa using h2 i b' (by simpa using hb)
theorem wy.at {E:Env} {p:Pl} {w:World}:∀(l:List eG) (xs:List (Nat×Nat)),wy E p w l xs→xs.length=l.length∧∀(i:Nat) (b:eG),l[i]?=some b→∃x,xs[i]?=some x∧DX E p w b x
 | [],[],_=>⟨rfl,fun i b h=>by simp at h⟩
 | [],_::_,h=>by cases h
 | _::_,[],h=>by cases h
 | b::l,x::xs,h=>by
  obtain ⟨h1,h2⟩:=wy.at l xs h.2
  refine ⟨by simp [h1],fun i b' hb=>?_⟩
  cases i with
  | zero=>simp at hb; subst hb; exact ⟨x,rfl,h.1⟩
  | succ i=>simpa using h2 i b' (by simpa using hb)
theorem Pre.Kw (hd:a.defers=[]) (hl:fr.length=a.tmps.size) (hf:wo E p a 0 fr) (hg:sw E p w H p.gp) (ho:wy E p w loc p.lp) (h1:p.gp.Nodup) (h2:∀g∈p.gp,∀x∈p.lp,x.1≠g) (h3:(loc.zip p.lp).Pairwise D8) (hz:qc E p loc w) (h0:∀c,E.f0=some c→p.gp[0]?=some c):Pre E p fr H loc a w:=by
 obtain ⟨g1,g2⟩:=sw.at _ _ hg
 obtain ⟨l1,l2⟩:=wy.at _ _ ho
 refine ⟨hd,hl,fun t v u e1 e2=>?_,g2,fun i b hb=>?_,g1,l1,fun i j g e e'=>?_,fun i j g s e e'=>h2 g (aN e) _ (aN e') rfl,hz,h0,fun i j g s s' bi bj e e' hbi hbj=>?_⟩
 ·rcases wo.at fr 0 t v hf e1 with r | ⟨u',r1,r2⟩
  ·exact .inl r
  ·rw [Nat.zero_add] at r2
   rw [r2] at e2; injection e2 with e2; subst e2
   exact .inr r1
 ·obtain ⟨x,e,k1,vs,cs,t,f,k2⟩:=l2 i b hb
  exact ⟨k1,x.1,x.2,vs,cs,t,f,e,k2⟩
 ·have hi:=(ai.1 e).1
  have hj:=(ai.1 e').1
  rw [ah hi] at e
  rw [ah hj] at e'
  injection e with e; injection e' with e'
  exact (List.getElem_inj h1).1 (e.trans e'.symm)
 ·have hz:∀(i:Nat) (b:eG) (x:Nat×Nat),loc[i]?=some b→p.lp[i]?=some x→(loc.zip p.lp)[i]?=some (b,x):=fun i b x k1 k2=>by
   rw [List.getElem?_zip_eq_some]; exact ⟨k1,k2⟩
  have zi:=hz i bi _ hbi e
  have zj:=hz j bj _ hbj e'
  rcases Nat.lt_trichotomy i j with h | h | h
  ·have:=ae7.1 h3 i j (ai.1 zi).1 (ai.1 zj).1 h
   rw [(ai.1 zi).2,(ai.1 zj).2] at this
   rcases this with r | ⟨r1,r2,r3⟩
   ·exact absurd rfl r
   ·exact .inr ⟨r1,r2,r3⟩
  ·exact .inl h
  ·have:=ae7.1 h3 j i (ai.1 zj).1 (ai.1 zi).1 h
   rw [(ai.1 zi).2,(ai.1 zj).2] at this
   rcases this with r | ⟨r1,r2,r3⟩
   ·exact absurd rfl r
   ·refine .inr ⟨r2,r1,?_⟩
    rcases r3 with (r | r) | ⟨r,r'⟩
    ·exact .inl (.inr r)
    ·exact .inl (.inl r)
    ·exact .inr ⟨r',r⟩
variable {b:Nat} {v:Value}
theorem tZ (h:w.cell? ⟨b,o,none⟩=some v):∃cs t f,w.heap[b]?=some (.cells cs t f)∧cs[o]?=some v:=by
 unfold bS at h
 simp only at h
 split at h
 ·rename_i cs t f hb
  exact ⟨cs,t,f,hb,by simpa using h⟩
 ·cases h
variable {cells r:List Value}
theorem Ka {s:Nat} (hc:eQ (fP E p 4) cells=some r) (hl:0<r.length) (h:∀(k:Nat) (v:Value),r[k]?=some v→w.cell? ⟨b,s+k,none⟩=some v):DX E p w ⟨cells,0,1,true,true⟩ (b,s):=by
 obtain ⟨cs,t,f,hb,_⟩:=tZ (h 0 _ (ah hl))
 have key:∀(k:Nat) (v:Value),r[k]?=some v→cs[s+k]?=some v:=fun k v hk=>by
  obtain ⟨cs',t',f',hb',hv⟩:=tZ (h k v hk)
  rw [hb] at hb'; injection hb' with hb'; injection hb' with hb'; subst hb'
  exact hv
 refine ⟨rfl,r,cs,t,f,hc,hb,?_,key,(fun e=>by cases e),(fun e=>by cases e)⟩
 have:=key (r.length - 1) _ (ah (by omega))
 have:=(aB.1 this).1
 show s+r.length≤cs.size
 omega
theorem yn {e:TypeId} (hc:eQ (fP E p 4) cells=some r) (h:w.heap[b]?=some (.cells ⟨r⟩ e (0,0))):DX E p w ⟨cells,e,0,false,true⟩ (b,0) :=
 ⟨rfl,r,⟨r⟩,e,(0,0),hc,h,by simp,fun j v hj=>by simpa using hj,fun _=>⟨rfl,rfl⟩,fun _=>⟨rfl,rfl⟩⟩
variable {w0:World} {D:Code} {s':St}
theorem adr (hm:P.follows .mixedOrders=true) (hN:kP P) (hX:kD P X) (hO:iY P X.env O) (hP:jc O) {m0:Mp} {H0:Hp} (hE:qb X m0)
  (hrun:exec P X O esc fuel c s=some (.normal,s')) (hs:jQ m0 H0 w0 s m a w) (hQ:∀m' a' w',jQ m0 H0 w0 s' m' a' w'→D.wp P Q a' w'):(Code.seq c D).wp P Q a w :=
 wp_seq (AA hm hN hX hO hE hP c s .normal s' m a w _ hrun hs fun m' a' w' h=>hQ m' a' w' h)
variable {fn:Func} {R:Ending→World→Prop} {vs:List Value} {u:Value}
theorem O7 (hm:P.follows .mixedOrders=true) (hN:kP P) (hX:kD P X) (hO:iY P X.env O) (hP:jc O)
  (hrun:exec P X O esc fuel c ⟨fr,H,loc,[]⟩=some (.ret,s')) (h:Pre X.env p fr H loc a w) (hW:kv X (iC X.env p w)) (hres:qP P s' fn.results.toList=some vs) (hu:fP X.env p 5 (kW vs)=some u)
  (hQ:∀a' w',Post X.env p p w s'.fr s'.H s'.loc a' w'→R (.returned u) w'):c.wp P (bodyPost P fn R) a w:=by
 obtain ⟨fr',H',loc',wg⟩:=s'
 refine O5 hm hN hX hO hP hrun h hW fun m' a' w' hs=>?_
 have hA:=(vF X.env p w).mono hs.ext.le
 obtain ⟨vs',hr,hv⟩:=F4 (P:=P) hs.ext.rel hs.fr _ _ hres
 refine ⟨hs.df,_,?_,hQ a' w' (Bt h hs hA fun _ _ e=>e)⟩
 rw [Q6,Array.mapM_eq_mapM_toList]
 simp only [di,Sem.run_map,hr,bC,dA]
 have:=p9 hA 5 _ u _ (by rw [hs.ext.le.env]; exact hu) (QJ hv)
 rw [this]
end Go.Sm
end
section
namespace Go.Sm
open Go.RowKit
abbrev gQ:=Nat×List Value×TypeId
abbrev jC:=Nat×Nat×List Value
structure dP (us:List (Option Value)) (gs ls:List gQ) (a:Act) (w:World):Prop where
 df:a.defers=[]
 sz:us.length=a.tmps.size
 fr:∀(t:Nat) (u:Value),us[t]?=some (some u)→a.tmps[t]?=some u
 gl:∀x∈gs,w.heap[x.1]?=some (.cells ⟨x.2.1⟩ x.2.2 (0,0))
 lo:∀x∈ls,w.heap[x.1]?=some (.cells ⟨x.2.1⟩ x.2.2 (0,0))
 nd:(gs.map (·.1)++ls.map (·.1)).Nodup
def tV (w:World) (x:jC):Prop:=0<x.2.2.length∧∀(k:Nat) (v:Value),x.2.2[k]?=some v→w.cell? ⟨x.1,x.2.1+k,none⟩=some v
def CO (E:Env) (p:Pl) (fr:List Value):List (Option Value):=fr.map fun v=>bif u7 v then none else fP E p 5 v
def JR (E:Env) (p:Pl) (fr:List Value):Bool:=fr.all fun v=>u7 v||(fP E p 5 v).isSome
def xH (E:Env) (p:Pl) (b:eG):Option (List Value)×TypeId:=(eQ (fP E p 4) b.cells,b.elem)
def iT (x:gQ):Option (List Value)×TypeId:=(some x.2.1,x.2.2)
def ownB (b:eG):Bool:=b.live&&(!b.loose&&ay b.eD 0)
def mJ (b:eG):Bool:=b.live&&(b.loose&&!Nat.beq b.eD 0)
def eH (gs ls:List gQ) (ws:List jC):Pl:=⟨gs.map (·.1),ls.map (fun x=>(x.1,0))++ws.map (fun x=>(x.1,x.2.1))⟩
variable {i:Nat}
theorem tu {α β γ:Type} {f:α→γ} {g:β→γ} {l:List α} {r:List β} (h:l.map f=r.map g) {x:α} (hx:l[i]?=some x):∃y,r[i]?=some y∧f x=g y:=by
 have h1:(l.map f)[i]?=some (f x):=by simp [hx]
 rw [h] at h1
 simp only [bY,aR] at h1
 obtain ⟨y,q1,q2⟩:=h1
 exact ⟨y,q1,q2.symm⟩
theorem jU {b:eG} (h:ownB b=true):b.live=true∧b.loose=false∧b.eD=0:=by
 unfold ownB at h
 simp only [aQ,Bool.not_eq_true'] at h
 exact ⟨h.1,h.2.1,bf h.2.2⟩
theorem Ac {b:eG} (h:mJ b=true):(b.live=true∧b.loose=true)∧b.eD≠0:=by
 unfold mJ at h
 simp only [aQ,Bool.not_eq_true'] at h
 refine ⟨⟨h.1,h.2.1⟩,fun e=>?_⟩
 rw [e] at h
 exact absurd h.2.2 (by decide)
variable {E:Env} {fr:List Value} {H lo wb:Hp} {us:List (Option Value)} {gs ls:List gQ} {ws:List jC} {a:Act} {w:World}
theorem dP.pre (h:dP us gs ls a w) (hw:∀x∈ws,tV w x) (hsep:∀x∈ws,∀y∈gs++ls,x.1≠y.1)
  (hfr:CO E (eH gs ls ws) fr=us) (hfa:JR E (eH gs ls ws) fr=true) (hH:H.map (xH E (eH gs ls ws))=gs.map iT) (hHa:(H.all fun b=>ownB b&&b.cells.all kV)=true)
  (hL:lo.map (xH E (eH gs ls ws))=ls.map iT) (hLa:lo.all ownB=true) (hW:wb.map (fun b=>eQ (fP E (eH gs ls ws) 4) b.cells)=ws.map (fun x=>some x.2.2)) (hWa:wb.all mJ=true) (hz:qc E (eH gs ls ws) (lo++wb) w) (h0:∀c,E.f0=some c→(eH gs ls ws).gp[0]?=some c) :
  Pre E (eH gs ls ws) fr H (lo++wb) a w:=by
 have nd:=afe.1 h.nd
 have hLl:lo.length=ls.length:=by simpa using congrArg ae1 hL
 have hWl:wb.length=ws.length:=by simpa using congrArg ae1 hW
 have hlp:∀(i g s:Nat),(eH gs ls ws).lp[i]?=some (g,s)→(i<ls.length∧∃x,ls[i]?=some x∧x.1=g∧s=0)∨(ls.length≤i∧∃x,ws[i - ls.length]?=some x∧x.1=g∧x.2.1=s):=fun i g s e=>by
  simp only [eH] at e
  by_cases hi:i<ls.length
  ·rw [aH (by simpa using hi)] at e
   simp only [bY,aR,aP] at e
   obtain ⟨x,e1,e2,e3⟩:=e
   exact .inl ⟨hi,x,e1,e2,e3.symm⟩
  ·rw [bu (by simpa using afb hi)] at e
   simp only [dF,bY,aR,aP] at e
   obtain ⟨x,e1,e2,e3⟩:=e
   exact .inr ⟨afb hi,x,e1,e2,e3⟩
 have hlb:∀(i:Nat) (b:eG),(lo++wb)[i]?=some b→(i<ls.length∧lo[i]?=some b∧ownB b=true)∨(ls.length≤i∧wb[i - ls.length]?=some b∧mJ b=true):=fun i b e=>by
  by_cases hi:i<lo.length
  ·rw [aH hi] at e
   exact .inl ⟨by omega,e,bn.1 hLa b (aN e)⟩
  ·rw [bu (by omega),hLl] at e
   exact .inr ⟨by omega,e,bn.1 hWa b (aN e)⟩
 refine ⟨h.df,?_,fun t v u e1 e2=>?_,fun i b hb=>?_,fun i b hb=>?_,?_,?_,fun i j g e e'=>?_,fun i j g s e e'=>?_,hz,h0,fun i j g s s' bi bj e e' hbi hbj=>?_⟩
 ·rw [←h.sz,←hfr]; simp [CO]
 ·cases hd:u7 v with
  | true=>exact .inl rfl
  | false =>
   right
   have h1:=bn.1 hfa v (aN e1)
   simp only [hd,Bool.false_or,Option.isSome_iff_exists] at h1
   obtain ⟨u',hu⟩:=h1
   have h2:us[t]?=some (some u'):=by rw [←hfr]; simp [CO,e1,hd,hu]
   have h3:=h.fr t u' h2
   rw [e2] at h3; injection h3 with h3; subst h3
   exact hu
 ·have hb':=bn.1 hHa b (aN hb)
  simp only [aQ] at hb'
  obtain ⟨q1,q2,q3⟩:=jU hb'.1
  obtain ⟨x,y1,y2⟩:=tu hH hb
  simp only [xH,iT,aP] at y2
  refine ⟨⟨q1,q2,q3,hb'.2⟩,x.1,x.2.1,by simp [eH,y1],y2.1,?_⟩
  rw [y2.2]
  exact h.gl x (aN y1)
 ·rcases hlb i b hb with ⟨hi,e,ho⟩ | ⟨hi,e,ho⟩
  ·obtain ⟨q1,q2,q3⟩:=jU ho
   obtain ⟨x,y1,y2⟩:=tu hL e
   simp only [xH,iT,aP] at y2
   refine ⟨q1,x.1,0,x.2.1,⟨x.2.1⟩,x.2.2,(0,0),?_,y2.1,h.lo x (aN y1),by simp,fun j v hj=>by simpa using hj,fun _=>⟨rfl,rfl⟩,fun _=>⟨y2.2.symm,rfl⟩⟩
   simp only [eH]
   rw [aH (by simpa using hi)]
   simp [y1]
  ·obtain ⟨⟨q1,q2⟩,q3⟩:=Ac ho
   obtain ⟨x,y1,y2⟩:=tu hW e
   obtain ⟨z1,z2⟩:=hw x (aN y1)
   obtain ⟨cs,t,f,k1,_⟩:=tZ (z2 0 _ (ah z1))
   have key:∀(k:Nat) (v:Value),x.2.2[k]?=some v→cs[x.2.1+k]?=some v:=fun k v hk=>by
    obtain ⟨cs',t',f',hb',hv⟩:=tZ (z2 k v hk)
    rw [k1] at hb'; injection hb' with hb'; injection hb' with hb'; subst hb'
    exact hv
   refine ⟨q1,x.1,x.2.1,x.2.2,cs,t,f,?_,y2,k1,?_,key,(fun e=>by rw [q2] at e; cases e),(fun e=>absurd e q3)⟩
   ·simp only [eH]
    rw [bu (by simpa using hi)]
    simp [y1]
   ·have:=key (x.2.2.length - 1) _ (ah (by omega))
    have:=(aB.1 this).1
    omega
 ·simp only [eH,dF]; simpa using (congrArg ae1 hH).symm
 ·simp only [eH,dF,afa]; omega
 ·have hi:=(ai.1 e).1
  have hj:=(ai.1 e').1
  rw [ah hi] at e
  rw [ah hj] at e'
  injection e with e; injection e' with e'
  exact (List.getElem_inj nd.1).1 (e.trans e'.symm)
 ·have hg:g∈gs.map (·.1):=aN (show (gs.map (·.1))[i]?=some g from e)
  rcases hlp j g s e' with ⟨_,x,q1,q2,_⟩ | ⟨_,x,q1,q2,_⟩
  ·exact nd.2.2 g hg g (by rw [←q2]; exact List.mem_map_of_mem (aN q1)) rfl
  ·obtain ⟨y,y1,y2⟩:=aeZ.1 hg
   exact hsep x (aN q1) y (aeY _ y1) (q2.trans y2.symm)
 ·rcases hlp i g s e with ⟨i1,x,q1,q2,_⟩ | ⟨i1,x,q1,q2,_⟩
  ·rcases hlp j g s' e' with ⟨j1,y,r1,r2,_⟩ | ⟨j1,y,r1,r2,_⟩
   ·left
    have hi:(ls.map (·.1))[i]?=some g:=by simp [q1,q2]
    have hj:(ls.map (·.1))[j]?=some g:=by simp [r1,r2]
    obtain ⟨hi1,hi2⟩:=ai.1 hi
    obtain ⟨hj1,hj2⟩:=ai.1 hj
    exact (List.getElem_inj nd.2.1).1 (hi2.trans hj2.symm)
   ·exact absurd (r2.trans q2.symm) (hsep y (aN r1) x (dm _ (aN q1)))
  ·rcases hlp j g s' e' with ⟨j1,y,r1,r2,_⟩ | ⟨j1,y,r1,r2,_⟩
   ·exact absurd (q2.trans r2.symm) (hsep x (aN q1) y (dm _ (aN r1)))
   ·rcases hlb i bi hbi with ⟨k,_⟩ | ⟨_,_,k1⟩
    ·omega
    ·rcases hlb j bj hbj with ⟨k,_⟩ | ⟨_,_,k2⟩
     ·omega
     ·obtain ⟨⟨_,a2⟩,a3⟩:=Ac k1
      obtain ⟨⟨_,b2⟩,b3⟩:=Ac k2
      exact .inr ⟨a2,b2,.inr ⟨a3,b3⟩⟩
def Fb (us ys:List (Option Value)):List (Option Value):=List.zipWith (fun x y=>match x with | none=>none | some _=>y) us ys
def FO (E:Env) (q:Pl) (H':Hp) (i:Nat):Option Nat×Option (Bool×TypeId×Option (List Value)):=(q.gp[i]?,(H'[i]?).map fun b=>(b.live,b.elem,eQ (fP E q 4) b.cells))
def G5 (x:gQ):Option Nat×Option (Bool×TypeId×Option (List Value)):=(some x.1,some (true,x.2.2,some x.2.1))
def FP (E:Env) (q:Pl) (loc':Hp) (i:Nat):Option (Nat×Nat)×Option (Bool×TypeId×Option (List Value)):=(q.lp[i]?,(loc'[i]?).map fun b=>(ownB b,b.elem,eQ (fP E q 4) b.cells))
def G6 (x:gQ):Option (Nat×Nat)×Option (Bool×TypeId×Option (List Value)):=(some (x.1,0),some (true,x.2.2,some x.2.1))
variable {p q:Pl} {w':World} {fr':List Value} {H' loc':Hp} {a':Act} {us':List (Option Value)} {gs' ls':List gQ}
theorem Post.GN (hp:Post E p q w fr' H' loc' a' w') (gi li:List Nat) (hl:us'.length=fr'.length) (hfr:Fb us' (fr'.map (fP E q 5))=us')
  (hg:gi.map (FO E q H')=gs'.map G5) (hlo:li.map (FP E q loc')=ls'.map G6) (nd:(gs'.map (·.1)++ls'.map (·.1)).Nodup):dP us' gs' ls' a' w':=by
 refine ⟨hp.df,by rw [hl,hp.lu],fun t u e=>?_,fun x hx=>?_,fun x hx=>?_,nd⟩
 ·rw [←hfr] at e
  simp only [Fb,List.getElem?_zipWith] at e
  split at e
  ·rename_i x y e1 e2
   injection e with e
   cases x with
   | none=>cases e
   | some x =>
    simp only at e
    subst e
    simp only [bY,aR] at e2
    obtain ⟨v,v1,v2⟩:=e2
    exact hp.fr t v u v1 v2
  ·cases e
 ·obtain ⟨i,hi⟩:=cZ hx
  obtain ⟨j,_,e⟩:=tu hg.symm hi
  simp only [G5,FO,aP] at e
  obtain ⟨e1,e2⟩:=e
  have e2':=e2.symm
  simp only [aR,aP] at e2'
  obtain ⟨b,b1,b2,b3,b4⟩:=e2'
  rw [←b3]
  exact hp.gl j x.1 b x.2.1 e1.symm b1 b2 b4
 ·obtain ⟨i,hi⟩:=cZ hx
  obtain ⟨j,_,e⟩:=tu hlo.symm hi
  simp only [G6,FP,aP] at e
  obtain ⟨e1,e2⟩:=e
  have e2':=e2.symm
  simp only [aR,aP] at e2'
  obtain ⟨b,b1,b2,b3,b4⟩:=e2'
  obtain ⟨o1,o2,o3⟩:=jU b2
  obtain ⟨cs,t,f,k1,_,k2,k3⟩:=hp.lo j x.1 0 b x.2.1 e1.symm b1 o1 b4
  obtain ⟨r1,_⟩:=k2 o2
  obtain ⟨r2,r3⟩:=k3 o3
  rw [k1,r1,r2,r3,b3]
structure dO (w0:World) (ex:List Nat) (w:World):Prop where
 os:w.os=w0.os
 tape:w.tape=w0.tape
 output:w.output=w0.output
 size:w0.heap.size≤w.heap.size
 frame:∀g,g<w0.heap.size→g∉ex→w.heap[g]?=w0.heap[g]?
theorem dO.refl (w:World) (ex:List Nat):dO w ex w:=⟨rfl,rfl,rfl,au _,fun _ _ _=>rfl⟩
variable {w0:World} {ex:List Nat} {b o:Nat}
theorem dO.cell (h:dO w0 ex w) (h1:b<w0.heap.size) (h2:b∉ex):w.cell? ⟨b,o,none⟩=w0.cell? ⟨b,o,none⟩:=by simp [bS,h.frame b h1 h2]
theorem dO.win (h:dO w0 ex w) {x:jC} (h1:x.1<w0.heap.size) (h2:x.1∉ex) (hx:tV w0 x):tV w x:=⟨hx.1,fun k v hk=>(h.cell h1 h2).trans (hx.2 k v hk)⟩
theorem dO.trans {w0 w w':World} {ex:List Nat} (h:dO w0 ex w) (k:dO w ex w'):dO w0 ex w' :=
 ⟨k.os.trans h.os,k.tape.trans h.tape,k.output.trans h.output,aZ h.size k.size,fun g h1 h2=>(k.frame g (aC h1 h.size) h2).trans (h.frame g h1 h2)⟩
theorem dO.post (h:dO w0 ex w) (hp:Post E (eH gs ls ws) q w fr' H' loc' a' w')
  (hg:∀x∈gs++ls,x.1∈ex∨w0.heap.size≤x.1) (hw:∀x∈ws,tV w x) (hwa:(((loc'.drop ls.length).take ws.length).map mJ)=ws.map fun _=>true):dO w0 ex w':=by
 refine ⟨hp.os.trans h.os,hp.tape.trans h.tape,hp.output.trans h.output,aZ h.size hp.size,fun g h1 h2=>?_⟩
 rw [←h.frame g h1 h2]
 have hng:∀x∈gs++ls,x.1≠g:=fun x hx e=>by
  rcases hg x hx with r | r
  ·exact h2 (e▸r)
  ·omega
 have hgp:g∉(eH gs ls ws).gp:=fun hm=>by
  obtain ⟨y,y1,y2⟩:=aeZ.1 (show g∈gs.map (·.1) from hm)
  exact hng y (aeY _ y1) y2
 have hlt:g<w.heap.size:=aC h1 h.size
 have hpos:∀(i s:Nat),(eH gs ls ws).lp[i]?=some (g,s)→∃x b,x∈ws∧x.1=g∧loc'[i]?=some b∧mJ b=true:=fun i s e=>by
  simp only [eH] at e
  by_cases hi:i<ls.length
  ·rw [aH (by simpa using hi)] at e
   simp only [bY,aR,aP] at e
   obtain ⟨x,e1,e2,_⟩:=e
   exact absurd e2 (hng x (dm _ (aN e1)))
  ·rw [bu (by simpa using afb hi)] at e
   simp only [dF,bY,aR,aP] at e
   obtain ⟨x,e1,e2,e3⟩:=e
   obtain ⟨b,b1,b2⟩:=tu hwa.symm e1
   simp only [dx,aeX] at b1
   split at b1
   ·rw [show ls.length+(i - ls.length)=i by omega] at b1
    exact ⟨x,b,aN e1,e2,b1,b2.symm⟩
   ·cases b1
 by_cases hx:∃x∈(eH gs ls ws).lp,x.1=g
 ·obtain ⟨⟨g',s⟩,hm,rfl⟩:=hx
  obtain ⟨i,hi⟩:=cZ hm
  obtain ⟨x,b,x1,x2,x3,x4⟩:=hpos i s hi
  obtain ⟨z1,z2⟩:=hw x x1
  obtain ⟨cs,t,f,k1,_⟩:=tZ (z2 0 _ (ah z1))
  rw [x2] at k1
  obtain ⟨⟨_,hl⟩,_⟩:=Ac x4
  obtain ⟨cs',q1,q2,q3⟩:=hp.out i g' s b hi x3 hl
  have ho:uV w g'=(cs,t,f):=by simp [uV,k1]
  rw [ho] at q1 q2 q3
  simp only at q1 q2 q3
  have:cs'=cs:=by
   apply Array.ext_getElem?
   intro o
   refine q3 o fun j s' bj e1 e2 e3=>?_
   obtain ⟨_,b2,_,_,y3,y4⟩:=hpos j s' e1
   rw [e2] at y3; injection y3 with y3; subst y3
   exact absurd e3 (Ac y4).2
  rw [q1,k1,this]
 ·exact hp.frame g hlt hgp fun x hm e=>hx ⟨x,hm,e⟩
def jR (w0:World) (ex:List Nat) (ws:List jC):Prop:=∀x∈ws,(x.1<w0.heap.size∧x.1∉ex)∧tV w0 x
def Own (w0:World) (ex:List Nat) (gs ls:List gQ):Prop:=∀x∈gs++ls,x.1∈ex∨w0.heap.size≤x.1
theorem G7 (h:jR w0 ex ws) (k:Own w0 ex gs ls):∀x∈ws,∀y∈gs++ls,x.1≠y.1:=fun x hx y hy e=>by
 obtain ⟨⟨h1,h2⟩,_⟩:=h x hx
 rcases k y hy with r | r
 ·exact h2 (e▸r)
 ·omega
structure In (E:Env) (us:List (Option Value)) (gs ls:List gQ) (ws:List jC) (fr:List Value) (H lo wb:Hp):Prop where
 f1:CO E (eH gs ls ws) fr=us
 f2:JR E (eH gs ls ws) fr=true
 hH:H.map (xH E (eH gs ls ws))=gs.map iT
 ha:(H.all fun b=>ownB b&&b.cells.all kV)=true
 hL:lo.map (xH E (eH gs ls ws))=ls.map iT
 la:lo.all ownB=true
 hW:wb.map (fun b=>eQ (fP E (eH gs ls ws) 4) b.cells)=ws.map (fun x=>some x.2.2)
 wa:wb.all mJ=true
structure Cc (E:Env) (q:Pl) (us':List (Option Value)) (gs' ls':List gQ) (gi li:List Nat) (fr':List Value) (H' loc':Hp):Prop where
 f0:us'.length=fr'.length
 f1:Fb us' (fr'.map (fP E q 5))=us'
 hG:gi.map (FO E q H')=gs'.map G5
 hL:li.map (FP E q loc')=ls'.map G6
 nd:(gs'.map (·.1)++ls'.map (·.1)).Nodup
def Aj (X:Xt) (G K:Act→World→Prop) (s s':St):Prop:=∀(m0:Mp) (H0:Hp) (w0:World) (m:Mp) (a:Act) (w:World),qb X m0→jQ m0 H0 w0 s m a w→(∀m' a' w',jQ m0 H0 w0 s' m' a' w'→K a' w')→G a w
def qK (P:Program) (X:Xt) (O:ig) (esc:Nat→Bool) (fuel:Nat):List Code→St→Option St
 | [],s=>some s
 | c::cs,s=>match exec P X O esc fuel c s with
  | some (.normal,s1)=>qK P X O esc fuel cs s1
  | _=>none
def o7:List Code→Code→Code
 | [],D=>D
 | c::cs,D=>.seq c (o7 cs D)
section
variable {P:Program} {X:Xt} {O:ig} {esc:Nat→Bool} {fuel:Nat} {Q:Exit→Act→World→Prop}
variable {c:Code} {s s':St}
theorem adh (hm:P.follows .mixedOrders=true) (hN:kP P) (hX:kD P X) (hO:iY P X.env O) (hP:jc O) {x:Ex} (h:exec P X O esc fuel c s=some (x,s')):Aj X (c.wp P Q) (Q (vS x)) s s':=fun _ _ _ m a w hE hs hQ=>AA hm hN hX hO hE hP c s x s' m a w Q h hs hQ
theorem F6 (hm:P.follows .mixedOrders=true) (hN:kP P) (hX:kD P X) (hO:iY P X.env O) (hP:jc O) {D:Code}:∀(cs:List Code) {s s':St},qK P X O esc fuel cs s=some s'→Aj X ((o7 cs D).wp P Q) (D.wp P Q) s s'
 | [],s,s',h=>by
  simp only [qK,ak] at h
  subst h
  exact fun _ _ _ m a w _ hs hQ=>hQ m a w hs
 | c::cs,s,s',h=>by
  unfold qK at h
  split at h
  ·rename_i s1 h1
   exact fun m0 H0 w0 m a w hE hs hQ=>wp_seq (AA hm hN hX hO hE hP c s .normal s1 m a w _ h1 hs fun m1 a1 w1 hs1=>F6 hm hN hX hO hP cs h m0 H0 w0 m1 a1 w1 hE hs1 hQ)
  ·cases h
end
section
variable {X:Xt} {G K:Act→World→Prop} {fr fr':List Value} {H H' lo wb loc':Hp} {wg:List Nat} {a:Act} {w w0:World} {ex:List Nat} {us us':List (Option Value)} {gs gs' ls ls':List gQ} {ws:List jC}
theorem piece (gi li:List Nat) (hrun:Aj X G K ⟨fr,H,lo++wb,[]⟩ ⟨fr',H',loc',wg⟩) (h:dP us gs ls a w) (hk:dO w0 ex w) (hw:jR w0 ex ws) (hown:Own w0 ex gs ls) (hi:In X.env us gs ls ws fr H lo wb) (hz:qc X.env (eH gs ls ws) (lo++wb) w) (h0:∀c,X.env.f0=some c→(eH gs ls ws).gp[0]?=some c)
  (hW:kv X (iC X.env (eH gs ls ws) w)) (ho:Cc X.env (eH gs ls ws) us' gs' ls' gi li fr' H' loc') (hwa:(((loc'.drop ls.length).take ws.length).map mJ)=ws.map fun _=>true)
  (hQ:∀a' w',dP us' gs' ls' a' w'→dO w0 ex w'→K a' w'):G a w:=by
 have hww:∀x∈ws,tV w x:=fun x hx=>hk.win (hw x hx).1.1 (hw x hx).1.2 (hw x hx).2
 have hpre:=h.pre hww (G7 hw hown) hi.f1 hi.f2 hi.hH hi.ha hi.hL hi.la hi.hW hi.wa hz h0
 refine hrun _ _ _ _ a w ⟨rfl,hW⟩ hpre.GH fun m' a' w' hs=>?_
 have hp:=Bt hpre hs ((vF X.env (eH gs ls ws) w).mono hs.ext.le) fun _ _ e=>e
 exact hQ a' w' (hp.GN gi li ho.f0 ho.f1 ho.hG ho.hL ho.nd) (hk.post hp hown hww hwa)
end
section
variable {P:Program} {X:Xt} {O:ig} {esc:Nat→Bool} {fuel:Nat} {c:Code} {fr fr':List Value} {H H' lo wb loc':Hp} {wg:List Nat} {x:Ex} {a:Act} {w w0:World} {ex:List Nat} {us us':List (Option Value)} {gs gs' ls ls':List gQ} {ws:List jC}
variable {s':St} {fn:Func} {R:Ending→World→Prop} {vs:List Value} {u:Value}
theorem acr (hm:P.follows .mixedOrders=true) (hN:kP P) (hX:kD P X) (hO:iY P X.env O) (hP:jc O) (hrun:exec P X O esc fuel c ⟨fr,H,lo++wb,[]⟩=some (.ret,s')) (gi li:List Nat) (h:dP us gs ls a w) (hk:dO w0 ex w) (hw:jR w0 ex ws) (hown:Own w0 ex gs ls) (hi:In X.env us gs ls ws fr H lo wb) (hz:qc X.env (eH gs ls ws) (lo++wb) w) (h0:∀c,X.env.f0=some c→(eH gs ls ws).gp[0]?=some c)
  (hW:kv X (iC X.env (eH gs ls ws) w)) (hres:qP P s' fn.results.toList=some vs) (hu:fP X.env (eH gs ls ws) 5 (kW vs)=some u) (ho:Cc X.env (eH gs ls ws) us' gs' ls' gi li s'.fr s'.H s'.loc) (hwa:(((s'.loc.drop ls.length).take ws.length).map mJ)=ws.map fun _=>true)
  (hQ:∀a' w',dP us' gs' ls' a' w'→dO w0 ex w'→R (.returned u) w'):c.wp P (bodyPost P fn R) a w:=by
 have hww:∀x∈ws,tV w x:=fun x hx=>hk.win (hw x hx).1.1 (hw x hx).1.2 (hw x hx).2
 have hpre:=h.pre hww (G7 hw hown) hi.f1 hi.f2 hi.hH hi.ha hi.hL hi.la hi.hW hi.wa hz h0
 exact O7 hm hN hX hO hP hrun hpre hW hres hu fun a' w' hp=>hQ a' w' (hp.GN gi li ho.f0 ho.f1 ho.hG ho.hL ho.nd) (hk.post hp hown hww hwa)
end
variable {m:Mp} {v v':Value}
theorem DL (h:VR m v v') (hv:v=.pointer (some ⟨i,o,none⟩)∨∃n c,v=.slice (some ⟨i,o,none⟩) n c):∃g,m.gb i=some g:=by
 rcases hv with rfl | ⟨n,c,rfl⟩
 ·cases h with | pO e=>exact ⟨_,e⟩
 ·cases h with
  | ow e=>exact ⟨_,e⟩
  | qW e=>exact ⟨_,e⟩
  | qV e=>exact ⟨_,e⟩
theorem Va (h:VR m v v') (hv:v=.pointer (some ⟨i,o,some 0⟩)):∃g,m.lb i=some g:=by
 subst hv
 cases h with | afr e _=>exact ⟨_,e⟩
def zF (i:Nat):Value→Bool
 | .pointer (some ⟨j,_,some 0⟩)=>ay i j
 | _=>false
def tC (i:Nat):Value→Bool
 | .pointer (some ⟨j,_,none⟩)=>ay i j
 | .slice (some ⟨j,_,none⟩) _ _=>ay i j
 | _=>false
theorem Fh (h:zF i v=true):∃o,v=.pointer (some ⟨i,o,some 0⟩):=by
 unfold zF at h
 split at h
 ·have:=bf h; subst this; exact ⟨_,rfl⟩
 ·cases h
theorem Df (h:tC i v=true):∃o,v=.pointer (some ⟨i,o,none⟩)∨∃n c,v=.slice (some ⟨i,o,none⟩) n c:=by
 unfold tC at h
 split at h
 ·have:=bf h; subst this; exact ⟨_,.inl rfl⟩
 ·have:=bf h; subst this; exact ⟨_,.inr ⟨_,_,rfl⟩⟩
 ·cases h
theorem Dh {m m':Mp} {H:Hp} {w w':World} {s:St} {a':Act} (hs:jQ m H w s m' a' w') (f:Nat→Nat→Value→Bool) (hf:∀(i t:Nat) (v u:Value),s.fr[t]?=some v→a'.tmps[t]?=some u→f i t v=true→VR m' v u→True) (B:Nat→Option Nat) (hB:∀(i t:Nat) (v u:Value),f i t v=true→VR m' v u→∃g,B i=some g) (hd:∀(i t:Nat) (v:Value),f i t v=true→u7 v=false) :
  ∀(ts:List Nat) (i0:Nat),(∀(j t:Nat),ts[j]?=some t→∃v,s.fr[t]?=some v∧f (i0+j) t v=true)→∃l:List Nat,l.length=ts.length∧∀(j g:Nat),l[j]?=some g→B (i0+j)=some g
 | [],_,_=>⟨[],rfl,fun j g e=>by simp at e⟩
 | t::ts,i0,h=>by
  obtain ⟨v,v1,v2⟩:=h 0 t rfl
  have hlt:t<a'.tmps.toList.length:=by rw [←hs.fr.1]; exact (ai.1 v1).1
  have h2:=ah hlt
  obtain ⟨g,hg⟩:∃g,B i0=some g:=by
   rcases hs.fr.2 t _ _ v1 h2 with r | r
   ·rw [hd _ _ _ v2] at r; cases r
   ·exact hB _ _ _ _ v2 r
  obtain ⟨l,l1,l2⟩:=Dh hs f hf B hB hd ts (i0+1) (fun j t' e=>by
   obtain ⟨v,q1,q2⟩:=h (j+1) t' (by simpa using e)
   exact ⟨v,q1,by rw [show i0+1+j=i0+(j+1) by omega]; exact q2⟩)
  refine ⟨g::l,by simp [l1],fun j g' e=>?_⟩
  cases j with
  | zero=>simp at e; subst e; exact hg
  | succ j=>rw [show i0+(j+1)=i0+1+j by omega]; exact l2 j g' (by simpa using e)
def oZ (gs ls:List gQ) (ws:List jC) (ng nl:List Nat):Pl:=⟨gs.map (·.1)++ng,(eH gs ls ws).lp++nl.map fun g=>(g,0)⟩
section
variable {X:Xt} {G K:Act→World→Prop} {fr fr':List Value} {H H' lo wb loc':Hp} {wg:List Nat} {a:Act} {w w0:World} {ex:List Nat} {us:List (Option Value)} {us':List Nat→List Nat→List (Option Value)} {gs ls:List gQ} {gs' ls':List Nat→List Nat→List gQ} {ws:List jC}
theorem QP (gi li tg tl:List Nat) (hrun:Aj X G K ⟨fr,H,lo++wb,[]⟩ ⟨fr',H',loc',wg⟩) (h:dP us gs ls a w) (hk:dO w0 ex w) (hw:jR w0 ex ws) (hown:Own w0 ex gs ls) (hi:In X.env us gs ls ws fr H lo wb) (hz:qc X.env (eH gs ls ws) (lo++wb) w) (h0:∀c,X.env.f0=some c→(eH gs ls ws).gp[0]?=some c)
  (hW:kv X (iC X.env (eH gs ls ws) w))
  (htg:(tg.zipIdx H.length).all (fun y=>match fr'[y.1]? with | some v=>tC y.2 v | none=>false)=true) (htl:(tl.zipIdx (lo++wb).length).all (fun y=>match fr'[y.1]? with | some v=>zF y.2 v | none=>false)=true)
  (hbg:(((H'.drop H.length).take tg.length).map ownB)=tg.map fun _=>true) (hbl:(((loc'.drop (lo++wb).length).take tl.length).map ownB)=tl.map fun _=>true) (hlive:((H'.take H.length).map ownB)=H.map fun _=>true)
  (ho:∀ng nl:List Nat,ng.length=tg.length→nl.length=tl.length→(gs.map (·.1)++ls.map (·.1)++ng++nl).Nodup→Cc X.env (oZ gs ls ws ng nl) (us' ng nl) (gs' ng nl) (ls' ng nl) gi li fr' H' loc') (hwa:(((loc'.drop ls.length).take ws.length).map mJ)=ws.map fun _=>true)
  (hQ:∀(a':Act) (w':World) (ng nl:List Nat),ng.length=tg.length→nl.length=tl.length→(gs.map (·.1)++ls.map (·.1)++ng++nl).Nodup→(∀n∈ng++nl,w.heap.size≤n∧n<w'.heap.size)→dP (us' ng nl) (gs' ng nl) (ls' ng nl) a' w'→dO w0 ex w'→K a' w'):G a w:=by
 have hww:∀x∈ws,tV w x:=fun x hx=>hk.win (hw x hx).1.1 (hw x hx).1.2 (hw x hx).2
 have hpre:=h.pre hww (G7 hw hown) hi.f1 hi.f2 hi.hH hi.ha hi.hL hi.la hi.hW hi.wa hz h0
 refine hrun _ _ _ _ a w ⟨rfl,hW⟩ hpre.GH fun m' a' w' hs=>?_
 have hA0:=(vF X.env (eH gs ls ws) w).mono hs.ext.le
 obtain ⟨ng,g1,g2⟩:=Dh hs (fun i _ v=>tC i v) (fun _ _ _ _ _ _ _ _=>trivial) m'.gb (fun i t v u hv hr=>by obtain ⟨o,q⟩:=Df hv; exact DL hr q) (fun i t v hv=>by obtain ⟨o,rfl | ⟨n,c,rfl⟩⟩:=Df hv<;>rfl) tg H.length (fun j t e=>by
  have:=bn.1 htg (t,H.length+j) (aN (i:=j) (by simp [List.getElem?_zipIdx,e]))
  simp only at this
  split at this
  ·rename_i v hv; exact ⟨v,hv,this⟩
  ·cases this)
 obtain ⟨nl,l1,l2⟩:=Dh hs (fun i _ v=>zF i v) (fun _ _ _ _ _ _ _ _=>trivial) m'.lb (fun i t v u hv hr=>by obtain ⟨o,q⟩:=Fh hv; exact Va hr q) (fun i t v hv=>by obtain ⟨o,rfl⟩:=Fh hv; rfl) tl (lo++wb).length (fun j t e=>by
  have:=bn.1 htl (t,(lo++wb).length+j) (aN (i:=j) (by simp [List.getElem?_zipIdx,e]))
  simp only at this
  split at this
  ·rename_i v hv; exact ⟨v,hv,this⟩
  ·cases this)
 have hGl:H.length=gs.length:=by simpa using congrArg ae1 hi.hH
 have hLl:(lo++wb).length=ls.length+ws.length:=by
  have e1:lo.length=ls.length:=by simpa using congrArg ae1 hi.hL
  have e2:wb.length=ws.length:=by simpa using congrArg ae1 hi.hW
  simp [e1,e2]
 have hnb:∀(j g:Nat),ng[j]?=some g→m'.gb (gs.length+j)=some g∧∃b,H'[gs.length+j]?=some b∧ownB b=true:=fun j g e=>by
  refine ⟨by rw [←hGl]; exact g2 j g e,?_⟩
  obtain ⟨t,ht⟩:∃t,tg[j]?=some t:=⟨_,ah (by rw [←g1]; exact (ai.1 e).1)⟩
  obtain ⟨b,b1,b2⟩:=tu hbg.symm ht
  simp only [dx,aeX] at b1
  split at b1
  ·exact ⟨b,by rw [←hGl]; exact b1,b2.symm⟩
  ·cases b1
 have hnl:∀(j g:Nat),nl[j]?=some g→m'.lb (ls.length+ws.length+j)=some g∧∃b,loc'[ls.length+ws.length+j]?=some b∧ownB b=true:=fun j g e=>by
  refine ⟨by rw [←hLl]; exact l2 j g e,?_⟩
  obtain ⟨t,ht⟩:∃t,tl[j]?=some t:=⟨_,ah (by rw [←l1]; exact (ai.1 e).1)⟩
  obtain ⟨b,b1,b2⟩:=tu hbl.symm ht
  simp only [dx,aeX] at b1
  split at b1
  ·exact ⟨b,by rw [←hLl]; exact b1,b2.symm⟩
  ·cases b1
 have hR:=hs.ext.rel
 have hold:∀(i g:Nat),(gs.map (·.1))[i]?=some g→m'.gb i=some g∧∃b,H'[i]?=some b∧ownB b=true:=fun i g e=>by
  refine ⟨hs.ext.le.gb i g (show (eH gs ls ws).gp[i]?=some g from e),?_⟩
  have hi':i<H.length:=by have:=(ai.1 e).1; simp at this; omega
  obtain ⟨b,b1,b2⟩:=tu hlive.symm (ah hi')
  rw [dx,if_pos hi'] at b1
  exact ⟨b,b1,b2.symm⟩
 have hsz:∀n∈ng++nl,w.heap.size≤n∧n<w'.heap.size:=fun n hn=>by
  rcases bH.1 hn with hn | hn
  ·obtain ⟨j,hj⟩:=cZ hn
   obtain ⟨q1,b,q2,q3⟩:=hnb j n hj
   refine ⟨?_,(hR.ic _ _ q1).1⟩
   rcases hs.ext.img _ _ q1 with ⟨i,e⟩ | e
   ·exfalso
    have e':(gs.map (·.1))[i]?=some n:=e
    obtain ⟨r1,b',r2,r3⟩:=hold i n e'
    have:=hR.ko _ _ n b b' q1 r1 q2 r2 (jU q3).1 (jU r3).1
    have:=(ai.1 e').1
    simp at this; omega
   ·exact e
  ·obtain ⟨j,hj⟩:=cZ hn
   obtain ⟨q1,b,q2,q3⟩:=hnl j n hj
   refine ⟨?_,(hR.iN _ _ q1).1⟩
   rcases hs.ext.oG _ _ q1 with e | e
   ·exfalso
    simp only [iC,aR,eH] at e
    obtain ⟨y,y1,_⟩:=e
    have:=(ai.1 y1).1
    simp at this
    omega
   ·exact e
 have hltw:∀n∈gs.map (·.1)++ls.map (·.1),n<w.heap.size:=fun n hn=>by
  rcases bH.1 hn with hn | hn<;>obtain ⟨y,y1,rfl⟩:=aeZ.1 hn
  ·exact (aB.1 (h.gl y y1)).1
  ·exact (aB.1 (h.lo y y1)).1
 have hnd:(gs.map (·.1)++ls.map (·.1)++ng++nl).Nodup:=by
  refine afe.2 ⟨afe.2 ⟨h.nd,?_,fun a ha b hb e=>?_⟩,?_,fun a ha b hb e=>?_⟩
  ·refine ae7.2 fun i j hi' hj hij e0=>?_
   obtain ⟨n,hn⟩:∃n,ng[i]?=some n:=⟨_,ah hi'⟩
   have e:ng[i]?=ng[j]?:=by rw [ah hi',ah hj,e0]
   obtain ⟨q1,b,q2,q3⟩:=hnb i n hn
   obtain ⟨r1,b',r2,r3⟩:=hnb j n (by rw [←e]; exact hn)
   have:=hR.ko _ _ n b b' q1 r1 q2 r2 (jU q3).1 (jU r3).1
   omega
  ·subst e; have:=hltw a ha; have:=(hsz a (aeY _ hb)).1; omega
  ·refine ae7.2 fun i j hi' hj hij e0=>?_
   obtain ⟨n,hn⟩:∃n,nl[i]?=some n:=⟨_,ah hi'⟩
   have e:nl[i]?=nl[j]?:=by rw [ah hi',ah hj,e0]
   obtain ⟨q1,b,q2,q3⟩:=hnl i n hn
   obtain ⟨r1,b',r2,r3⟩:=hnl j n (by rw [←e]; exact hn)
   rcases hR.pJ _ _ n b b' q1 r1 q2 r2 with k | ⟨_,_,k,_⟩
   ·omega
   ·rw [(jU q3).2.1] at k; cases k
  ·subst e
   rcases bH.1 ha with ha | ha
   ·have:=hltw a ha; have:=(hsz a (dm _ hb)).1; omega
   ·obtain ⟨i,hi'⟩:=cZ ha
    obtain ⟨j,hj⟩:=cZ hb
    exact hR.lh _ _ a (hnb i a hi').1 (hnl j a hj).1
 have hA:At (oZ gs ls ws ng nl) m':=by
  refine ⟨fun i g e=>?_,fun i g e=>?_,fun i y e=>?_⟩
  ·simp only [oZ] at e
   by_cases hi':i<gs.length
   ·rw [aH (by simpa using hi')] at e
    exact hA0.gb i g e
   ·rw [bu (by simpa using afb hi')] at e
    simp only [dF] at e
    have:=(hnb _ g e).1
    rwa [show gs.length+(i - gs.length)=i by omega] at this
  ·simp only [oZ] at e
   by_cases hi':i<gs.length
   ·rw [aH (by simpa using hi')] at e
    exact hA0.lo i g e
   ·rw [bu (by simpa using afb hi')] at e
    simp only [dF] at e
    obtain ⟨q1,b,q2,q3⟩:=hnb _ g e
    rw [show gs.length+(i - gs.length)=i by omega] at q1 q2
    obtain ⟨_,b',r1,r2⟩:=hR.ic i g q1
    rw [q2] at r1; injection r1 with r1; subst r1
    rw [r2.lo]; exact (jU q3).2.1
  ·simp only [oZ] at e
   by_cases hi':i<ls.length+ws.length
   ·rw [aH (by simp [eH]; omega)] at e
    exact hA0.lb i y e
   ·rw [bu (by simp [eH]; omega)] at e
    simp only [bY,aR] at e
    obtain ⟨g,e1,rfl⟩:=e
    have hlen:(eH gs ls ws).lp.length=ls.length+ws.length:=by simp [eH]
    rw [hlen] at e1
    obtain ⟨q1,b,q2,q3⟩:=hnl _ g e1
    rw [show ls.length+ws.length+(i - (ls.length+ws.length))=i by omega] at q1 q2
    refine ⟨q1,?_⟩
    obtain ⟨_,b',r1,r2⟩:=hR.iN i g q1
    rw [q2] at r1; injection r1 with r1; subst r1
    obtain ⟨_,_,_,_,_,_,k,_⟩:=r2.blk (jU q3).1
    exact (k (jU q3).2.1).1
 have hp:=Bt hpre hs hA (fun i y e=>by
  simp only [oZ]
  rw [aH (ai.1 e).1]; exact e)
 have ho':=ho ng nl g1 l1 hnd
 exact hQ a' w' ng nl g1 l1 hnd hsz (hp.GN gi li ho'.f0 ho'.f1 ho'.hG ho'.hL ho'.nd) (hk.post hp hown hww hwa)
end
end Go.Sm
end
section
namespace Go.Sm
open Go.RowKit
structure pE where
 f:FuncId
 xs:List Value
 v:Value
 fl:Value
 nb:List eG
def Ep (a b:Addr):Bool:=ay a.block b.block&&(ay a.off b.off&&(match a.spot,b.spot with | none,none=>true | some x,some y=>ay x y | _,_=>false))
theorem Ow {a b:Addr} (h:Ep a b=true):a=b:=by
 obtain ⟨a1,a2,a3⟩:=a
 obtain ⟨b1,b2,b3⟩:=b
 unfold Ep at h
 simp only [aQ] at h
 obtain ⟨h1,h2,h3⟩:=h
 have h1:=bf h1
 have h2:=bf h2
 have h3:a3=b3:=by
  cases a3<;>cases b3<;>first | rfl | cases h3 | exact congrArg some (bf h3)
 subst h1 h2 h3; rfl
def qd:Nat→Value→Value→Bool
 | 0,_,_=>false
 | d+1,x,y=>match x,y with
  | .agg ⟨xs⟩,.agg ⟨ys⟩=>oF (qd d) xs ys
  | .pointer none,.pointer none=>true
  | .pointer (some a),.pointer (some b)=>Ep a b
  | .slice none n c,.slice none n' c'=>ay n n'&&ay c c'
  | .slice (some a) n c,.slice (some b) n' c'=>Ep a b&&(ay n n'&&ay c c')
  | x,y=>vN 100 x y
theorem xR:∀(d:Nat) (x y:Value),qd d x y=true→x=y
 | 0,_,_,h=>by cases h
 | d+1,x,y,h=>by
  unfold qd at h
  split at h
  ·rw [vO (xR d) _ _ h]
  ·rfl
  ·rw [Ow h]
  ·simp only [aQ] at h
   rw [bf h.1,bf h.2]
  ·simp only [aQ] at h
   rw [Ow h.1,bf h.2.1,bf h.2.2]
  ·exact Cz 100 _ _ h
def zN:List Value→Bool
 | .pointer (some ⟨0,0,none⟩)::_=>true
 | .agg ⟨.pointer (some ⟨0,0,none⟩)::_⟩::_=>true
 | _=>false
def EJ (f:FuncId) (xs:List Value) (n:Nat):List pE→Option pE
 | []=>none
 | t::l=>bif ay t.f f&&(oF (qd 10) t.xs xs&&(t.nb.isEmpty||tC n t.v)) then some t else EJ f xs n l
def BK (e0:Nat) (T:List pE) (S:ig):ig:=fun f args H=>match EJ f args H.length T with
 | some t=>match (show Hp from H)[(0:Nat)]? with
  | some ⟨[c],e,0,false,true⟩=>bif okB c&&(okB t.fl&&(zN args&&ay e e0)) then some (t.v,H.set 0 ⟨[kM c t.fl],e,0,false,true⟩++t.nb,[0]) else none
  | _=>none
 | none=>S f args H
variable {m:Mp}
theorem QU {args args':List Value} (h:zN args=true) (hv:ek m args args'):∃g,m.gb 0=some g:=by
 unfold zN at h
 split at h
 ·obtain ⟨v',l',_,h1,_⟩:=hv.cons_inv
  exact DL h1 (.inl rfl)
 ·obtain ⟨v',l',_,h1,_⟩:=hv.cons_inv
  obtain ⟨cs',_,hc⟩:=uD h1
  obtain ⟨v2,l2,_,h2,_⟩:=hc.cons_inv
  exact DL h2 (.inl rfl)
 ·cases h
theorem OW {f:FuncId} {xs:List Value} {n:Nat} {t:pE}:∀{l:List pE},EJ f xs n l=some t→t∈l∧t.f=f∧t.xs=xs∧(t.nb.isEmpty||tC n t.v)=true
 | [],h=>by cases h
 | t'::l,h=>by
  unfold EJ at h
  cases hb:(ay t'.f f&&(oF (qd 10) t'.xs xs&&(t'.nb.isEmpty||tC n t'.v))) with
  | true =>
   rw [hb] at h
   simp only [cond_true,ak] at h
   subst h
   simp only [aQ] at hb
   exact ⟨aA,bf hb.1,vO (xR 10) _ _ hb.2.1,hb.2.2⟩
  | false =>
   rw [hb] at h
   obtain ⟨q1,q2⟩:=OW h
   exact ⟨aT _ q1,q2⟩
def za (E:Env) (w:World):Prop:=∀(g:Nat) (c:Array Value×TypeId×(Nat×Nat)),E.fz g=some c→w.heap[g]?=some (.cells c.1 c.2.1 c.2.2)
def zf (P:Program) (E:Env) (e:Nat) (t:pE):Prop:=t.nb=[]∧∀(nc:Nat) (c:Bool) (w:World),((∀c,E.f0=some c→nc=c)∧∀g,(E.fz g).isSome=true→g≠nc)→za E w→w.heap[nc]?=some (.cells #[.bool c] e (0,0))→∃(xs:List Value) (v:Value) (b:Bool),eQ (fP E ⟨[nc],[]⟩ 5) t.xs=some xs∧fP E ⟨[nc],[]⟩ 5 t.v=some v∧eF E 300 t.fl=some (.bool b) ∧
 Calls P t.f xs.toArray w fun r w'=>r=.returned v∧jL w nc e (c||b) w'
variable {H loc:Hp} {w:World}
theorem MI {nc:Nat} {b:eG} (hR:Rel m H loc w) (h:m.gb 0=some nc) (hb:H[0]?=some b) (hl:b.loose=false):At ⟨[nc],[]⟩ m:=by
 refine ⟨fun i g e=>?_,fun i g e=>?_,fun i x e=>by simp at e⟩
 ·match i,e with
  | 0,e=>simp at e; subst e; exact h
  | _+1,e=>simp at e
 ·match i,e with
  | 0,e =>
   simp at e; subst e
   obtain ⟨_,b',hb',hG⟩:=hR.ic 0 nc h
   rw [hb] at hb'; injection hb' with hb'; subst hb'
   rw [hG.lo]; exact hl
  | _+1,e=>simp at e
variable {P:Program} {E:Env} {e0:Nat} {T:List pE} {S:ig}
theorem UH (h:∀t∈T,zf P E e0 t) (hS:iY P E S):iY P E (BK e0 T S):=by
 intro f args H v H' md hs m w args' hE hlb hR hargs
 unfold BK at hs
 split at hs
 case h_2=>exact hS f args H v H' md hs m w args' hE hlb hR hargs
 rename_i t ht
 obtain ⟨hmem,rfl,rfl,_⟩:=OW ht
 obtain ⟨hnb,hok⟩:=h t hmem
 split at hs
 case h_2=>cases hs
 rename_i c e hb
 cases hc:(okB c&&(okB t.fl&&(zN t.xs&&ay e e0))) with
 | false=>rw [hc] at hs; cases hs
 | true =>
  rw [hc] at hs
  simp only [cond_true,ak,aP] at hs
  obtain ⟨rfl,rfl,rfl⟩:=hs
  simp only [aQ] at hc
  obtain ⟨hc1,hc2,hc3,hc4⟩:=hc
  have he:=bf hc4
  subst he
  obtain ⟨nc,hg⟩:=QU hc3 hargs
  have hA:=MI hR hg hb rfl
  obtain ⟨_,b0,hb0,hG⟩:=hR.ic 0 nc hg
  rw [hb] at hb0; injection hb0 with hb0; subst hb0
  obtain ⟨cs,e1,e2,e3,e4,_⟩:=hG.blk rfl
  have hsz:=e4 rfl
  obtain ⟨cs⟩:=cs
  simp only [dB,aeT,aeR] at hsz
  obtain ⟨z,rfl⟩:=List.length_eq_one_iff.1 hsz
  obtain ⟨z',l6,e6,hz,_⟩:=e3.cons_inv
  simp only [dB,aeT,List.take_succ_cons,List.take_nil,afj] at e6
  obtain ⟨rfl,_⟩:=e6
  obtain ⟨cb,d1,rfl,ho1⟩:=Di hc1 hz
  obtain ⟨xs,u,b,q1,q2,q3,q4⟩:=hok nc cb w ⟨(fun c0 hc0=>by have:=hR.f0 c0 (by rw [hE]; exact hc0); rw [hg] at this; injection this),fun g hgs heq=>by
   subst heq
   obtain ⟨c',hc'⟩:=Option.isSome_iff_exists.1 hgs
   rw [←hE] at hc'
   exact (hR.fz g c' hc').1.2 0 hg⟩ (fun g c' hc'=>by rw [←hE] at hc'; exact (hR.fz g c' hc').1.1) e1
  have hxs:args'=xs:=oN (fun v u v' a b=>p9 hA 5 v u v' a b) _ _ _ (by rw [hE]; exact q1) hargs
  subst hxs
  refine q4.mono ?_
  rintro r w' ⟨rfl,hF⟩
  obtain ⟨d4,h4⟩:=FK (E:=m.env) ho1 (by rw [hE]; exact q3)
  rw [hnb,afk]
  exact ⟨_,m,rfl,qJ hA 5 _ _ (by rw [hE]; exact q2),Ew hlb hR hg hb (BU (m:=m.jF) h4) hF,hlb⟩
theorem UI (hS:jc S):jc (BK e0 T S):=by
 intro f args H v H' md hs
 unfold BK at hs
 split at hs
 case h_2=>exact hS f args H v H' md hs
 rename_i t ht
 split at hs
 case h_2=>cases hs
 rename_i c e hb
 cases hc:(okB c&&(okB t.fl&&(zN args&&ay e e0))) with
 | false=>rw [hc] at hs; cases hs
 | true =>
  rw [hc] at hs
  simp only [cond_true,ak,aP] at hs
  obtain ⟨rfl,rfl,rfl⟩:=hs
  have h0:0<H.length:=(ai.1 hb).1
  refine ⟨by simp,au _,fun j hj hn=>?_,fun _ _ _=>rfl,fun j b0 e0=>?_⟩
  ·rw [aH (by simpa using hj),bz]
   intro e; subst e; simp at hn
  ·have hj:j<H.length:=(ai.1 e0).1
   rw [aH (by simpa using hj)]
   by_cases hj0:j=0
   ·subst hj0
    rw [hb] at e0; injection e0 with e0; subst e0
    exact ⟨_,getElem?_set_self' hb,rfl,rfl⟩
   ·exact ⟨b0,by rw [bz (ae4 hj0)]; exact e0,rfl,rfl⟩
end Go.Sm
end
section
namespace Go.Sm
open Go.RowKit
def Pz (i:Nat):List (Nat×Value)→Value
 | []=>o6
 | (j,v)::l=>bif ay i j then v else Pz i l
def fK (n:Nat) (l:List (Nat×Value)):List Value:=(dh n).map fun i=>Pz i l
def dU (cells:List Value):eG:=⟨cells,0,1,true,true⟩
def dQ (cells:List Value) (e:TypeId):eG:=⟨cells,e,0,false,true⟩
abbrev He:=(Nat×List (Option Value))×List (Option Nat×Option (Bool×TypeId×Option (List Value)))×List (Option (Nat×Nat)×Option (Bool×TypeId×Option (List Value)))×List Bool
def pI (E:Env) (q:Pl) (us':List (Option Value)) (gi li:List Nat) (nl nw:Nat) (s':St):He:=((s'.fr.length,Fb us' (s'.fr.map (fP E q 5))),gi.map (FO E q s'.H),li.map (FP E q s'.loc),((s'.loc.drop nl).take nw).map mJ)
def goal (us':List (Option Value)) (gs' ls':List gQ) (nw:Nat):He:=((us'.length,us'),gs'.map G5,ls'.map G6,ag6 nw true)
theorem Dn:∀ws:List jC,ag6 ws.length true=ws.map fun _=>true
 | []=>rfl
 | _::l=>by rw [dB,List.replicate_succ,Dn l]; rfl
variable {E:Env} {q:Pl} {us':List (Option Value)} {gs' ls':List gQ} {ws:List jC} {s':St}
theorem zx {gi li:List Nat} {nl:Nat} (h:pI E q us' gi li nl ws.length s'=goal us' gs' ls' ws.length) (nd:(gs'.map (·.1)++ls'.map (·.1)).Nodup):Cc E q us' gs' ls' gi li s'.fr s'.H s'.loc∧(((s'.loc.drop nl).take ws.length).map mJ)=ws.map fun _=>true:=by
 simp only [pI,goal,aP] at h
 obtain ⟨⟨h1,h2⟩,h3,h4,h5⟩:=h
 refine ⟨⟨h1.symm,h2,h3,h4,nd⟩,by rw [h5]; exact Dn ws⟩
abbrev Vt:=(List (Option Value)×Bool)×(List (Option (List Value)×TypeId)×Bool)×(List (Option (List Value)×TypeId)×Bool)×(List (Option (List Value))×Bool)
def nE (E:Env) (p:Pl) (fr:List Value) (H lo wb:Hp):Vt:=((CO E p fr,JR E p fr),(H.map (xH E p),H.all fun b=>ownB b&&b.cells.all kV),(lo.map (xH E p),lo.all ownB),(wb.map (fun b=>eQ (fP E p 4) b.cells),wb.all mJ))
variable {us:List (Option Value)} {gs ls:List gQ} {fr:List Value} {H lo wb:Hp}
theorem oH (h:nE E (eH gs ls ws) fr H lo wb=((us,true),(gs.map iT,true),(ls.map iT,true),(ws.map (fun x=>some x.2.2),true))):In E us gs ls ws fr H lo wb:=by
 simp only [nE,aP] at h
 obtain ⟨⟨h1,h2⟩,⟨h3,h4⟩,⟨h5,h6⟩,h7,h8⟩:=h
 exact ⟨h1,h2,h3,h4,h5,h6,h7,h8⟩
section
variable {P:Program} {X:Xt} {O:ig} {esc:Nat→Bool} {fuel:Nat} {D:Code} {fr:List Value} {H lo wb:Hp} {a:Act} {w w0:World} {ex:List Nat} {Q:Exit→Act→World→Prop} {us us':List (Option Value)} {gs gs' ls ls':List gQ} {ws:List jC}
theorem M7 (hm:P.follows .mixedOrders=true) (hN:kP P) (hX:kD P X) (hO:iY P X.env O) (hP:jc O) (cs:List Code) (gi li:List Nat) (hchk:(qK P X O esc fuel cs ⟨fr,H,lo++wb,[]⟩).map (pI X.env (eH gs ls ws) us' gi li ls.length ws.length)=some (goal us' gs' ls' ws.length))
  (hi:nE X.env (eH gs ls ws) fr H lo wb=((us,true),(gs.map iT,true),(ls.map iT,true),(ws.map (fun x=>some x.2.2),true))) (nd:(gs'.map (·.1)++ls'.map (·.1)).Nodup)
  (h:dP us gs ls a w) (hk:dO w0 ex w) (hw:jR w0 ex ws) (hown:Own w0 ex gs ls) (hz:qc X.env (eH gs ls ws) (lo++wb) w) (h0:∀c,X.env.f0=some c→(eH gs ls ws).gp[0]?=some c) (hW:kv X (iC X.env (eH gs ls ws) w))
  (hQ:∀a' w',dP us' gs' ls' a' w'→dO w0 ex w'→D.wp P Q a' w'):(o7 cs D).wp P Q a w:=by
 obtain ⟨s',h1,h2⟩:=aR.1 hchk
 obtain ⟨ho,hwa⟩:=zx h2 nd
 exact piece gi li (F6 hm hN hX hO hP cs h1) h hk hw hown (oH hi) hz h0 hW ho hwa hQ
variable {c:Code}
theorem Ng (hm:P.follows .mixedOrders=true) (hN:kP P) (hX:kD P X) (hO:iY P X.env O) (hP:jc O) (x:Ex) (gi li:List Nat) (hchk:(exec P X O esc fuel c ⟨fr,H,lo++wb,[]⟩).map (fun r=>(r.1,pI X.env (eH gs ls ws) us' gi li ls.length ws.length r.2))=some (x,goal us' gs' ls' ws.length))
  (hi:nE X.env (eH gs ls ws) fr H lo wb=((us,true),(gs.map iT,true),(ls.map iT,true),(ws.map (fun x=>some x.2.2),true))) (nd:(gs'.map (·.1)++ls'.map (·.1)).Nodup)
  (h:dP us gs ls a w) (hk:dO w0 ex w) (hw:jR w0 ex ws) (hown:Own w0 ex gs ls) (hz:qc X.env (eH gs ls ws) (lo++wb) w) (h0:∀c,X.env.f0=some c→(eH gs ls ws).gp[0]?=some c) (hW:kv X (iC X.env (eH gs ls ws) w))
  (hQ:∀a' w',dP us' gs' ls' a' w'→dO w0 ex w'→Q (vS x) a' w'):c.wp P Q a w:=by
 obtain ⟨⟨x',s'⟩,h1,h2⟩:=aR.1 hchk
 simp only [aP] at h2
 obtain ⟨rfl,h2⟩:=h2
 obtain ⟨ho,hwa⟩:=zx h2 nd
 exact piece gi li (adh hm hN hX hO hP h1) h hk hw hown (oH hi) hz h0 hW ho hwa hQ
variable {fn:Func} {R:Ending→World→Prop} {u:Value}
theorem Q8 (hm:P.follows .mixedOrders=true) (hN:kP P) (hX:kD P X) (hO:iY P X.env O) (hP:jc O) (gi li:List Nat) (hchk:(exec P X O esc fuel c ⟨fr,H,lo++wb,[]⟩).map (fun r=>(r.1,((qP P r.2 fn.results.toList).bind fun vs=>fP X.env (eH gs ls ws) 5 (kW vs)),pI X.env (eH gs ls ws) us' gi li ls.length ws.length r.2))=some (.ret,some u,goal us' gs' ls' ws.length))
  (hi:nE X.env (eH gs ls ws) fr H lo wb=((us,true),(gs.map iT,true),(ls.map iT,true),(ws.map (fun x=>some x.2.2),true))) (nd:(gs'.map (·.1)++ls'.map (·.1)).Nodup)
  (h:dP us gs ls a w) (hk:dO w0 ex w) (hw:jR w0 ex ws) (hown:Own w0 ex gs ls) (hz:qc X.env (eH gs ls ws) (lo++wb) w) (h0:∀c,X.env.f0=some c→(eH gs ls ws).gp[0]?=some c) (hW:kv X (iC X.env (eH gs ls ws) w))
  (hQ:∀a' w',dP us' gs' ls' a' w'→dO w0 ex w'→R (.returned u) w'):c.wp P (bodyPost P fn R) a w:=by
 obtain ⟨⟨x',s'⟩,h1,h2⟩:=aR.1 hchk
 simp only [aP] at h2
 obtain ⟨rfl,h3,h2⟩:=h2
 obtain ⟨vs,h4,h5⟩:=Option.bind_eq_some_iff.1 h3
 obtain ⟨ho,hwa⟩:=zx h2 nd
 exact acr hm hN hX hO hP h1 gi li h hk hw hown (oH hi) hz h0 hW h4 h5 ho hwa hQ
end
def named (fr':List Value) (f:Nat→Value→Bool) (n:Nat) (ts:List Nat):Bool:=(ts.zipIdx n).all (fun y=>match fr'[y.1]? with | some v=>f y.2 v | none=>false)
abbrev Vr:=He×(Bool×Bool)×List Bool×List Bool×List Bool
def uj (E:Env) (q:Pl) (us':List (Option Value)) (gi li tg tl:List Nat) (nl nw nH nL:Nat) (s':St):Vr:=(pI E q us' gi li nl nw s',(named s'.fr tC nH tg,named s'.fr zF nL tl),((s'.H.drop nH).take tg.length).map ownB,((s'.loc.drop nL).take tl.length).map ownB,(s'.H.take nH).map ownB)
section
variable {P:Program} {X:Xt} {O:ig} {esc:Nat→Bool} {fuel:Nat} {D:Code} {fr:List Value} {H lo wb:Hp} {a:Act} {w w0:World} {ex:List Nat} {Q:Exit→Act→World→Prop} {us:List (Option Value)} {us':List Nat→List Nat→List (Option Value)} {gs ls:List gQ} {gs' ls':List Nat→List Nat→List gQ} {ws:List jC}
theorem M6 (hm:P.follows .mixedOrders=true) (hN:kP P) (hX:kD P X) (hO:iY P X.env O) (hP:jc O) (cs:List Code) (gi li tg tl:List Nat)
  (hchk:∀ng nl:List Nat,ng.length=tg.length→nl.length=tl.length→(qK P X O esc fuel cs ⟨fr,H,lo++wb,[]⟩).map (uj X.env (oZ gs ls ws ng nl) (us' ng nl) gi li tg tl ls.length ws.length H.length (lo++wb).length)=some (goal (us' ng nl) (gs' ng nl) (ls' ng nl) ws.length,(true,true),tg.map (fun _=>true),tl.map (fun _=>true),H.map (fun _=>true)))
  (hi:nE X.env (eH gs ls ws) fr H lo wb=((us,true),(gs.map iT,true),(ls.map iT,true),(ws.map (fun x=>some x.2.2),true)))
  (nd:∀ng nl:List Nat,ng.length=tg.length→nl.length=tl.length→(gs.map (·.1)++ls.map (·.1)++ng++nl).Nodup→((gs' ng nl).map (·.1)++(ls' ng nl).map (·.1)).Nodup)
  (h:dP us gs ls a w) (hk:dO w0 ex w) (hw:jR w0 ex ws) (hown:Own w0 ex gs ls) (hz:qc X.env (eH gs ls ws) (lo++wb) w) (h0:∀c,X.env.f0=some c→(eH gs ls ws).gp[0]?=some c) (hW:kv X (iC X.env (eH gs ls ws) w))
  (hQ:∀(a':Act) (w':World) (ng nl:List Nat),ng.length=tg.length→nl.length=tl.length→(gs.map (·.1)++ls.map (·.1)++ng++nl).Nodup→(∀n∈ng++nl,w.heap.size≤n∧n<w'.heap.size)→dP (us' ng nl) (gs' ng nl) (ls' ng nl) a' w'→dO w0 ex w'→D.wp P Q a' w'):(o7 cs D).wp P Q a w:=by
 obtain ⟨s',h1,h2⟩:=aR.1 (hchk (tg.map fun _=>0) (tl.map fun _=>0) (by simp) (by simp))
 simp only [uj,aP] at h2
 obtain ⟨hq0,⟨h3,h4⟩,h5,h6,h7⟩:=h2
 have hwa:(((s'.loc.drop ls.length).take ws.length).map mJ)=ws.map fun _=>true:=by
  simp only [pI,goal,aP] at hq0
  rw [hq0.2.2.2]
  exact Dn ws
 refine QP gi li tg tl (F6 hm hN hX hO hP cs h1) h hk hw hown (oH hi) hz h0 hW h3 h4 h5 h6 h7 (fun ng nl e1 e2 e3=>?_) hwa hQ
 obtain ⟨s2,k1,k2⟩:=aR.1 (hchk ng nl e1 e2)
 rw [h1] at k1; injection k1 with k1; subst k1
 simp only [uj,aP] at k2
 exact (zx k2.1 (nd ng nl e1 e2 e3)).1
end
end Go.Sm
end
section
namespace Go.Sm
open Go.RowKit
structure pq where
 f:FuncId
 xs:List Value
 hs:List eG
 v:Value
 fl:Value
 nb:List eG
def Iw (a b:eG):Bool:=oF (qd 10) a.cells b.cells&&(ay a.elem b.elem&&(ownB a&&ownB b))
def Cx:List eG→List eG→Bool
 | [],[]=>true
 | a::l,b::r=>Iw a b&&Cx l r
 | _,_=>false
def mentions (i:Nat) (v:Value):Bool:=tC i v||(match v with
 | .agg ⟨l⟩=>l.any (tC i)
 | _=>false)
def ME (xs:List Value) (n:Nat):Bool:=(dh n).all fun i=>xs.any (mentions i)
def EC (f:FuncId) (xs:List Value) (hs:List eG):List pq→Option pq
 | []=>none
 | t::l=>bif ay t.f f&&(oF (qd 10) t.xs xs&&Cx t.hs hs) then some t else EC f xs hs l
def Ip (e0:Nat) (T:List pq) (S:ig) (f:FuncId) (args:List Value) (H:Hp):Option (Value×Hp×List Nat):=match H with
 | ⟨[c],e,0,false,true⟩::hs=>match EC f args hs T with
  | some t=>bif okB c&&(okB t.fl&&(ME args (hs.length+1)&&(ay e e0&&(t.nb.all (fun b=>ownB b&&b.cells.all kV)&&kV t.v)))) then some (t.v,⟨[kM c t.fl],e,0,false,true⟩::hs++t.nb,[0]) else none
  | none=>S f args H
 | _=>S f args H
def Av (e0:Nat) (T:List pq) (S:ig):ig:=fun f args H=>Ip e0 T S f args H
theorem XD {a b:eG} (h:Iw a b=true):a=b∧ownB a=true:=by
 unfold Iw at h
 simp only [aQ] at h
 obtain ⟨h1,h2,h3,h4⟩:=h
 obtain ⟨a1,a2,a3⟩:=jU h3
 obtain ⟨b1,b2,b3⟩:=jU h4
 have e1:=vO (xR 10) _ _ h1
 have e2:=bf h2
 obtain ⟨c,e,z,o,l⟩:=a
 obtain ⟨c',e',z',o',l'⟩:=b
 simp only at a1 a2 a3 b1 b2 b3 e1 e2
 subst a1 a2 a3 b1 b2 b3 e1 e2
 exact ⟨rfl,h3⟩
theorem Ox:∀(a b:List eG),Cx a b=true→a=b∧∀x∈a,ownB x=true
 | [],[],_=>⟨rfl,fun x hx=>by cases hx⟩
 | a::l,b::r,h=>by
  unfold Cx at h
  simp only [aQ] at h
  obtain ⟨h1,h2⟩:=XD h.1
  obtain ⟨h3,h4⟩:=Ox l r h.2
  subst h1 h3
  exact ⟨rfl,fun x hx=>by rcases ag.1 hx with r | r; exact r▸h2; exact h4 x r⟩
 | [],_::_,h=>by cases h
 | _::_,[],h=>by cases h
theorem OL {f:FuncId} {xs:List Value} {hs:List eG} {t:pq}:∀{l:List pq},EC f xs hs l=some t→t∈l∧t.f=f∧t.xs=xs∧t.hs=hs∧∀x∈hs,ownB x=true
 | [],h=>by cases h
 | t'::l,h=>by
  unfold EC at h
  cases hb:(ay t'.f f&&(oF (qd 10) t'.xs xs&&Cx t'.hs hs)) with
  | true =>
   rw [hb] at h
   simp only [cond_true,ak] at h
   subst h
   simp only [aQ] at hb
   obtain ⟨k1,k2⟩:=Ox _ _ hb.2.2
   exact ⟨aA,bf hb.1,vO (xR 10) _ _ hb.2.1,k1,k1▸k2⟩
  | false =>
   rw [hb] at h
   obtain ⟨q1,q2⟩:=OL h
   exact ⟨aT _ q1,q2⟩
variable {m:Mp} {i:Nat} {v v':Value}
theorem PW (h:tC i v=true) (hv:VR m v v'):∃g,m.gb i=some g:=by
 obtain ⟨o,q⟩:=Df h
 exact DL hv q
theorem ZB (h:mentions i v=true) (hv:VR m v v'):∃g,m.gb i=some g:=by
 unfold mentions at h
 simp only [Bool.or_eq_true] at h
 rcases h with h | h
 ·exact PW h hv
 ·split at h
  ·rename_i l
   obtain ⟨x,x1,x2⟩:=List.any_eq_true.1 h
   obtain ⟨cs',_,hc⟩:=uD hv
   obtain ⟨j,hj⟩:=cZ x1
   obtain ⟨v',_,h2⟩:=hc.at hj
   exact PW x2 h2
  ·cases h
def Af (P:Program) (E:Env) (e:Nat) (t:pq):Prop:=∀(nc:Nat) (ga:List Nat) (c:Bool) (w:World),ga.length=t.hs.length→(nc::ga).Nodup→(∀c,E.f0=some c→nc=c)→(∀g∈nc::ga,E.fz g=none)→za E w→w.heap[nc]?=some (.cells #[.bool c] e (0,0)) →
 (∀(i:Nat) (b:eG) (g:Nat),t.hs[i]?=some b→ga[i]?=some g→∀vs,eQ (fP E ⟨nc::ga,[]⟩ 4) b.cells=some vs→w.heap[g]?=some (.cells ⟨vs⟩ b.elem (0,0))) →
 ∃(xs:List Value) (b:Bool),eQ (fP E ⟨nc::ga,[]⟩ 5) t.xs=some xs∧eF E 300 t.fl=some (.bool b) ∧
 Calls P t.f xs.toArray w fun r w'=>∃(ng:List Nat) (v:Value),ng.length=t.nb.length∧(∀g∈ng,w.heap.size≤g∧g<w'.heap.size)∧ng.Nodup∧fP E ⟨nc::ga++ng,[]⟩ 5 t.v=some v∧r=.returned v ∧
  (∀(i:Nat) (b:eG) (g:Nat),t.nb[i]?=some b→ng[i]?=some g→∃vs,eQ (fP E ⟨nc::ga++ng,[]⟩ 4) b.cells=some vs∧w'.heap[g]?=some (.cells ⟨vs⟩ b.elem (0,0)))∧jL w nc e (c||b) w'
variable {P:Program} {E:Env} {e0:Nat} {S:ig}
theorem Nj {T:List pq} (h:∀t∈T,Af P E e0 t) (hS:iY P E S):iY P E (Av e0 T S):=by
 intro f args H v H' md hs m w args' hE hlb hR hargs
 unfold Av Ip at hs
 split at hs
 case h_2=>exact hS f args H v H' md hs m w args' hE hlb hR hargs
 rename_i c e bs
 split at hs
 case h_2=>exact hS f args _ v H' md hs m w args' hE hlb hR hargs
 rename_i t ht
 obtain ⟨hmem,rfl,rfl,rfl,hown⟩:=OL ht
 cases hc:(okB c&&(okB t.fl&&(ME t.xs (t.hs.length+1)&&(ay e e0&&(t.nb.all (fun b=>ownB b&&b.cells.all kV)&&kV t.v))))) with
 | false=>rw [hc] at hs; cases hs
 | true =>
  rw [hc] at hs
  simp only [cond_true,ak,aP] at hs
  obtain ⟨rfl,rfl,rfl⟩:=hs
  simp only [aQ] at hc
  obtain ⟨hc1,hc2,hc3,hc4,hc5,hc6⟩:=hc
  have he:=bf hc4
  subst he
  have hgb:∀i,i<t.hs.length+1→∃g,m.gb i=some g:=fun i hi=>by
   have:=bn.1 hc3 i (List.mem_range.2 hi)
   obtain ⟨x,x1,x2⟩:=List.any_eq_true.1 this
   obtain ⟨j,hj⟩:=cZ x1
   obtain ⟨v',_,h2⟩:=hargs.at hj
   exact ZB x2 h2
  obtain ⟨nc,hg⟩:=hgb 0 (by omega)
  obtain ⟨ga,hga1,hga2⟩:∃ga:List Nat,ga.length=t.hs.length∧∀(i g:Nat),ga[i]?=some g→m.gb (i+1)=some g:=by
   have:∀n,n≤t.hs.length→∃ga:List Nat,ga.length=n∧∀(i g:Nat),ga[i]?=some g→m.gb (i+1)=some g:=by
    intro n
    induction n with
    | zero=>exact fun _=>⟨[],rfl,fun i g e=>by simp at e⟩
    | succ n ih =>
     intro hn
     obtain ⟨ga,q1,q2⟩:=ih (by omega)
     obtain ⟨g,hg⟩:=hgb (n+1) (by omega)
     refine ⟨ga++[g],by simp [q1],fun i g' e=>?_⟩
     by_cases hi:i<ga.length
     ·rw [aH hi] at e; exact q2 i g' e
     ·rw [bu (by omega)] at e
      have:i=n:=by
       have:=(ai.1 e).1
       simp at this; omega
      subst this
      rw [q1] at e; simp at e; subst e; exact hg
   exact this _ (au _)
  have hgl:∀(i g:Nat),(nc::ga)[i]?=some g→m.gb i=some g:=fun i g e=>by
   cases i with
   | zero=>simp at e; subst e; exact hg
   | succ i=>exact hga2 i g (by simpa using e)
  have hbl:∀(i g:Nat),(nc::ga)[i]?=some g→∃b,(({ cells:=[c],elem:=e,eD:=0,loose:=false,live:=true }:eG)::t.hs)[i]?=some b∧ownB b=true:=fun i g e'=>by
   cases i with
   | zero=>exact ⟨_,rfl,rfl⟩
   | succ i =>
    have hi:i<t.hs.length:=by
     have:=(ai.1 e').1
     simp at this; omega
    exact ⟨t.hs[i],by rw [aeW]; exact ah hi,hown _ (List.getElem_mem hi)⟩
  have hA:At ⟨nc::ga,[]⟩ m:=by
   refine ⟨hgl,fun i g e'=>?_,fun i x e'=>by simp at e'⟩
   obtain ⟨_,b',hb',hG⟩:=hR.ic i g (hgl i g e')
   obtain ⟨b,q1,q2⟩:=hbl i g e'
   rw [q1] at hb'; injection hb' with hb'; subst hb'
   rw [hG.lo]; exact (jU q2).2.1
  have hnd:(nc::ga).Nodup:=by
   refine ae7.2 fun i j hi hj hij e0=>?_
   have e1:=ah hi
   have e2:=ah hj
   rw [←e0] at e2
   obtain ⟨b,q1,q2⟩:=hbl _ _ e1
   obtain ⟨b',r1,r2⟩:=hbl _ _ e2
   have:=hR.ko i j _ b b' (hgl _ _ e1) (hgl _ _ e2) q1 r1 (jU q2).1 (jU r2).1
   omega
  have hfz:∀g∈nc::ga,E.fz g=none:=fun g hgm=>by
   obtain ⟨i,hi⟩:=cZ hgm
   cases hz:E.fz g with
   | none=>rfl
   | some c'=>rw [←hE] at hz; exact absurd (hgl i g hi) ((hR.fz g c' hz).1.2 i)
  obtain ⟨_,b0,hb0,hG⟩:=hR.ic 0 nc hg
  have hb0':b0=({ cells:=[c],elem:=e,eD:=0,loose:=false,live:=true }:eG):=by simp at hb0; exact hb0.symm
  subst hb0'
  obtain ⟨cs,e1,e2,e3,e4,_⟩:=hG.blk rfl
  have hsz:=e4 rfl
  obtain ⟨cs⟩:=cs
  simp only [dB,aeT,aeR] at hsz
  obtain ⟨z,rfl⟩:=List.length_eq_one_iff.1 hsz
  obtain ⟨z',l6,e6,hz,_⟩:=e3.cons_inv
  simp only [dB,aeT,List.take_succ_cons,List.take_nil,afj] at e6
  obtain ⟨rfl,_⟩:=e6
  obtain ⟨cb,d1,rfl,ho1⟩:=Di hc1 hz
  obtain ⟨xs,b,q1,q3,q4⟩:=h t hmem nc ga cb w hga1 hnd (fun c0 hc0=>by have:=hR.f0 c0 (by rw [hE]; exact hc0); rw [hg] at this; injection this) hfz (fun g c' hc'=>by rw [←hE] at hc'; exact (hR.fz g c' hc').1.1) e1 (fun i bi g hbi hgi vs hvs=>by
   obtain ⟨_,b',hb',hG'⟩:=hR.ic (i+1) g (hga2 i g hgi)
   rw [aeW,hbi] at hb'; injection hb' with hb'; subst hb'
   have ho:=hown bi (aN hbi)
   obtain ⟨cs,k1,k2,k3,k4,_⟩:=hG'.blk (jU ho).1
   have hk:=k4 (jU ho).2.1
   have:=oN (m:=m) (fun v u v' a b=>p9 hA 4 v u v' a b) _ _ _ (by rw [hE]; exact hvs) (k3.mono (Be m))
   rw [dH (by simp [hk])] at this
   rw [k1,←this])
  have hxs:args'=xs:=oN (fun v u v' a b=>p9 hA 5 v u v' a b) _ _ _ (by rw [hE]; exact q1) hargs
  subst hxs
  refine q4.mono ?_
  rintro r w' ⟨ng,u,n1,n2,n3,n4,rfl,n5,hF⟩
  obtain ⟨d4,h4⟩:=FK (E:=m.env) ho1 (by rw [hE]; exact q3)
  have hx1:Ext m _ [] w m (({ cells:=[kM c t.fl],elem:=e,eD:=0,loose:=false,live:=true }:eG)::t.hs) [] w' [0] []:=Ew hlb hR hg rfl (BU (m:=m.jF) h4) hF
  let m2:Mp:={ m with gb:=fun i=>if t.hs.length+1≤i then ng[i - (t.hs.length+1)]? else m.gb i,loose:=fun i=>if t.hs.length+1≤i then false else m.loose i,eD:=fun i=>if t.hs.length+1≤i then 0 else m.eD i }
  have hold:∀i g,m.gb i=some g→i<t.hs.length+1:=fun i g e'=>by
   obtain ⟨_,b',hb',_⟩:=hR.ic i g e'
   have:=(ai.1 hb').1
   simpa using this
  have hle:Le m m2:=by
   refine ⟨fun i g e'=>?_,fun _ _ e'=>e',fun i g e'=>?_,fun i g e'=>?_,fun _ _ _=>rfl,rfl,fun _ _ _=>rfl,rfl⟩
   ·show (if _ then _ else _)=_; rw [if_neg (by have:=hold i g e'; omega)]; exact e'
   ·show (if _ then _ else _)=_; rw [if_neg (by have:=hold i g e'; omega)]
   ·show (if _ then _ else _)=_; rw [if_neg (by have:=hold i g e'; omega)]
  have hnew:∀i g,m2.gb i=some g→m.gb i=some g∨(t.hs.length+1≤i∧ng[i - (t.hs.length+1)]?=some g):=fun i g e'=>by
   have e'':(if t.hs.length+1≤i then ng[i - (t.hs.length+1)]? else m.gb i)=some g:=e'
   split at e''
   ·rename_i hi; exact .inr ⟨hi,e''⟩
   ·exact .inl e''
  have hA2:At ⟨nc::ga++ng,[]⟩ m2:=by
   have hlen:(nc::ga).length=t.hs.length+1:=by simp [hga1]
   refine ⟨fun i g e'=>?_,fun i g e'=>?_,fun i x e'=>by simp at e'⟩
   ·simp only at e'
    by_cases hi:i<t.hs.length+1
    ·rw [aH (by rw [hlen]; exact hi)] at e'
     exact hle.gb i g (hgl i g e')
    ·rw [bu (by rw [hlen]; omega),hlen] at e'
     show (if _ then _ else _)=_; rw [if_pos (by omega)]; exact e'
   ·simp only at e'
    by_cases hi:i<t.hs.length+1
    ·rw [aH (by rw [hlen]; exact hi)] at e'
     exact (hle.loose i g (hgl i g e')).trans (hA.lo i g e')
    ·show (if _ then _ else _)=_; rw [if_pos (by omega)]
  refine ⟨u,m2,rfl,qJ hA2 5 _ _ (by show fP m.env _ _ _=_; rw [hE]; exact n4),?_,hlb⟩
  refine xW hx1 hle (fun i hi=>aH hi) (by simp) (fun i hi=>by simp at hi) (au _) (fun _ _=>rfl) (au _) rfl rfl rfl (fun i g e'=>?_) (fun i g e'=>by rw [show m2.lb=m.lb from rfl,hlb] at e'; cases e')
  rcases hnew i g e' with r | ⟨r1,r2⟩
  ·exact .inl r
  ·right
   have hin:i - (t.hs.length+1)<t.nb.length:=by rw [←n1]; exact (ai.1 r2).1
   obtain ⟨vs,v1,v2⟩:=n5 _ _ g (ah hin) r2
   have hob:=bn.1 hc5 _ (List.getElem_mem hin)
   simp only [aQ] at hob
   obtain ⟨o1,o2,o3⟩:=jU hob.1
   obtain ⟨s1,s2⟩:=n2 g (aN r2)
   refine ⟨by simp; omega,by simp; omega,s2,s1,⟨t.nb[i - (t.hs.length+1)],?_,?_⟩,fun j hj=>?_,fun j hj=>by rw [show m2.lb=m.lb from rfl,hlb] at hj; cases hj⟩
   ·rw [bu (by simp; omega)]
    simp
   ·have hli:m2.loose i=false:=by show (if _ then _ else _)=_; rw [if_pos r1]
    have hez:m2.eD i=0:=by show (if _ then _ else _)=_; rw [if_pos r1]
    refine ⟨hli.trans o2.symm,hez.trans o3.symm,fun _=>⟨⟨vs⟩,v2,by simp [nR _ _ v1],?_,fun _=>by simp [nR _ _ v1],fun e=>by rw [o2] at e; cases e⟩⟩
    rw [dH (by simp [nR _ _ v1])]
    exact vB (m:=m2) hob.2 (qp (qJ (m:=m2) hA2 4) _ _ (by show eQ (fP m.env _ 4) _=_; rw [hE]; exact v1))
   ·rcases hnew j g hj with q | ⟨q1,q2⟩
    ·have:=(hR.ic j g q).1; omega
    ·obtain ⟨p1,p2⟩:=ai.1 r2
     obtain ⟨p3,p4⟩:=ai.1 q2
     have:=(List.getElem_inj n3).1 (p2.trans p4.symm)
     omega
theorem Nk {T:List pq} (hS:jc S):jc (Av e0 T S):=by
 intro f args H v H' md hs
 unfold Av Ip at hs
 split at hs
 case h_2=>exact hS f args H v H' md hs
 rename_i c e bs
 split at hs
 case h_2=>exact hS f args _ v H' md hs
 rename_i t ht
 rcases je hs with hs | hs
 ·simp only [ak,aP] at hs
  obtain ⟨rfl,rfl,rfl⟩:=hs
  refine ⟨by simp,au _,fun j hj hn=>?_,fun _ _ _=>rfl,fun j b0 e0=>?_⟩
  ·cases j with
   | zero=>simp at hn
   | succ j=>rw [dw,aeW,aeW,aH (by simpa using hj)]
  ·cases j with
   | zero=>simp at e0; subst e0; exact ⟨_,rfl,rfl,rfl⟩
   | succ j =>
    have hj:=(ai.1 e0).1
    rw [aeW] at e0
    exact ⟨b0,by rw [dw,aeW,aH (by simpa using hj)]; exact e0,rfl,rfl⟩
 ·cases hs
structure qG where
 f:FuncId
 xs:List Value
 n:Nat
 c:Nat
 fl:Value
 blk:eG
def EH (f:FuncId) (xs:List Value):List qG→Option qG
 | []=>none
 | t::l=>bif ay t.f f&&oF (qd 10) t.xs xs then some t else EH f xs l
def Bw (e0:Nat) (T:List qG) (S:ig):ig:=fun f args H=>match EH f args T with
 | some t=>match (show Hp from H)[(0:Nat)]? with
  | some ⟨[c],e,0,false,true⟩=>bif okB c&&(okB t.fl&&(zN args&&(ay e e0&&(ownB t.blk&&t.blk.cells.all kV)))) then some (.slice (some ⟨H.length,0,none⟩) t.n t.c,H.set 0 ⟨[kM c t.fl],e,0,false,true⟩++[t.blk],[0]) else none
  | _=>none
 | none=>S f args H
theorem OU {f:FuncId} {xs:List Value} {t:qG}:∀{l:List qG},EH f xs l=some t→t∈l∧t.f=f∧t.xs=xs
 | [],h=>by cases h
 | t'::l,h=>by
  unfold EH at h
  cases hb:(ay t'.f f&&oF (qd 10) t'.xs xs) with
  | true =>
   rw [hb] at h
   simp only [cond_true,ak] at h
   subst h
   simp only [aQ] at hb
   exact ⟨aA,bf hb.1,vO (xR 10) _ _ hb.2⟩
  | false =>
   rw [hb] at h
   obtain ⟨q1,q2⟩:=OU h
   exact ⟨aT _ q1,q2⟩
def Cg (P:Program) (E:Env) (e:Nat) (t:qG):Prop:=∀(nc:Nat) (c:Bool) (w:World),(∀c,E.f0=some c→nc=c)→za E w→w.heap[nc]?=some (.cells #[.bool c] e (0,0))→∃(xs vs:List Value) (b:Bool),eQ (fP E ⟨[nc],[]⟩ 5) t.xs=some xs∧eQ (fP E ⟨[nc],[]⟩ 4) t.blk.cells=some vs∧eF E 300 t.fl=some (.bool b) ∧
 Calls P t.f xs.toArray w fun r w'=>∃gl,w.heap.size≤gl∧gl<w'.heap.size∧r=.returned (.slice (some ⟨gl,0,none⟩) t.n t.c)∧w'.heap[gl]?=some (.cells ⟨vs⟩ t.blk.elem (0,0))∧jL w nc e (c||b) w'
theorem Ra {T:List qG} (h:∀t∈T,Cg P E e0 t) (hS:iY P E S):iY P E (Bw e0 T S):=by
 intro f args H v H' md hs m w args' hE hlb hR hargs
 unfold Bw at hs
 split at hs
 case h_2=>exact hS f args H v H' md hs m w args' hE hlb hR hargs
 rename_i t ht
 obtain ⟨hmem,rfl,rfl⟩:=OU ht
 split at hs
 case h_2=>cases hs
 rename_i c e hb
 cases hc:(okB c&&(okB t.fl&&(zN t.xs&&(ay e e0&&(ownB t.blk&&t.blk.cells.all kV))))) with
 | false=>rw [hc] at hs; cases hs
 | true =>
  rw [hc] at hs
  simp only [cond_true,ak,aP] at hs
  obtain ⟨rfl,rfl,rfl⟩:=hs
  simp only [aQ] at hc
  obtain ⟨hc1,hc2,hc3,hc4,hc5,hc6⟩:=hc
  have he:=bf hc4
  subst he
  obtain ⟨nc,hg⟩:=QU hc3 hargs
  have hA:=MI hR hg hb rfl
  obtain ⟨_,b0,hb0,hG⟩:=hR.ic 0 nc hg
  rw [hb] at hb0; injection hb0 with hb0; subst hb0
  obtain ⟨cs,e1,e2,e3,e4,_⟩:=hG.blk rfl
  have hsz:=e4 rfl
  obtain ⟨cs⟩:=cs
  simp only [dB,aeT,aeR] at hsz
  obtain ⟨z,rfl⟩:=List.length_eq_one_iff.1 hsz
  obtain ⟨z',l6,e6,hz,_⟩:=e3.cons_inv
  simp only [dB,aeT,List.take_succ_cons,List.take_nil,afj] at e6
  obtain ⟨rfl,_⟩:=e6
  obtain ⟨cb,d1,rfl,ho1⟩:=Di hc1 hz
  obtain ⟨xs,vs,b,q1,q2,q3,q4⟩:=h t hmem nc cb w (fun c0 hc0=>by have:=hR.f0 c0 (by rw [hE]; exact hc0); rw [hg] at this; injection this) (fun g c' hc'=>by rw [←hE] at hc'; exact (hR.fz g c' hc').1.1) e1
  have hxs:args'=xs:=oN (fun v u v' a b=>p9 hA 5 v u v' a b) _ _ _ (by rw [hE]; exact q1) hargs
  subst hxs
  refine q4.mono ?_
  rintro r w' ⟨gl,n1,n2,rfl,n4,hF⟩
  obtain ⟨d4,h4⟩:=FK (E:=m.env) ho1 (by rw [hE]; exact q3)
  obtain ⟨o1,o2,o3⟩:=jU hc5
  have hx1:Ext m H [] w m (H.set 0 ⟨[kM c t.fl],e,0,false,true⟩) [] w' [0] []:=Ew hlb hR hg hb (BU (m:=m.jF) h4) hF
  have hun:m.gb H.length=none:=hR.BO (au _)
  have hle:Le m (m.gN H.length gl false 0 0):=CY hun
  have hcase:∀i g,(m.gN H.length gl false 0 0).gb i=some g→(i=H.length∧g=gl)∨m.gb i=some g:=fun i g e'=>by
   simp only [Mp.gN] at e'
   split at e'
   ·rename_i hi; injection e' with e'; exact .inl ⟨hi,e'.symm⟩
   ·exact .inr e'
  have hnew:(m.gN H.length gl false 0 0).gb H.length=some gl:=by simp [Mp.gN]
  refine ⟨_,m.gN H.length gl false 0 0,rfl,.ow hnew,?_,hlb⟩
  refine xW hx1 hle (fun i hi=>aH hi) (by simp) (fun i hi=>by simp at hi) (au _) (fun _ _=>rfl) (au _) rfl rfl rfl (fun i g e'=>?_) (fun i g e'=>by rw [show (m.gN H.length gl false 0 0).lb=m.lb from rfl,hlb] at e'; cases e')
  rcases hcase i g e' with ⟨rfl,rfl⟩ | r
  ·right
   refine ⟨au _,by simp,n2,n1,⟨t.blk,by rw [bu (by simp)]; simp,?_⟩,fun j hj=>?_,fun j hj=>by rw [show (m.gN H.length g false 0 0).lb=m.lb from rfl,hlb] at hj; cases hj⟩
   ·refine ⟨by simp [Mp.gN,o2],by simp [Mp.gN,o3],fun _=>⟨⟨vs⟩,n4,by simp [nR _ _ q2],?_,fun _=>by simp [nR _ _ q2],fun e=>by rw [o2] at e; cases e⟩⟩
    rw [dH (by simp [nR _ _ q2])]
    exact vB (m:=m.gN H.length g false 0 0) hc6 (qp (qJ (m:=m.gN H.length g false 0 0) (hA.mono hle) 4) _ _ (by show eQ (fP m.env _ 4) _=_; rw [hE]; exact q2))
   ·rcases hcase j g hj with q | q
    ·exact q.1
    ·have:=(hR.ic j g q).1; omega
  ·exact .inl r
theorem Rb {T:List qG} (hS:jc S):jc (Bw e0 T S):=by
 intro f args H v H' md hs
 unfold Bw at hs
 split at hs
 case h_2=>exact hS f args H v H' md hs
 rename_i t ht
 split at hs
 case h_2=>cases hs
 rename_i c e hb
 rcases je hs with hs | hs
 ·simp only [ak,aP] at hs
  obtain ⟨rfl,rfl,rfl⟩:=hs
  refine ⟨by simp,au _,fun j hj hn=>?_,fun _ _ _=>rfl,fun j b0 e0=>?_⟩
  ·rw [aH (by simpa using hj),bz]
   intro e; subst e; simp at hn
  ·have hj:j<H.length:=(ai.1 e0).1
   rw [aH (by simpa using hj)]
   by_cases hj0:j=0
   ·subst hj0
    rw [hb] at e0; injection e0 with e0; subst e0
    exact ⟨_,getElem?_set_self' hb,rfl,rfl⟩
   ·exact ⟨b0,by rw [bz (ae4 hj0)]; exact e0,rfl,rfl⟩
 ·cases hs
end Go.Sm
end
section
namespace Go.Sm
open Go.RowKit
section
variable {P:Program} {m0:Mp} {H0:Hp} {w0:World}
theorem LH (hN:kP P) {X:Xt} (hX:kD P X) {O:ig} (hO:iY P X.env O) (hE0:qb X m0) {esc:Nat→Bool} {ops tail:List Oper} {Q:Exit→Act→World→Prop} :
  ∀(l:List Oper) (s s':St) (m:Mp) (a:Act) (w:World),ajJ l=true→qC P X O esc ops l s=some s'→jQ m0 H0 w0 s m a w →
   (∀m' a' w',jQ m0 H0 w0 s' m' a' w'→wpList P ops.toArray Q tail a' w')→wpList P ops.toArray Q (l++tail) a w
 | [],s,s',m,a,w,_,h,hs,hQ=>by
  simp only [qC,ak] at h
  subst h
  exact hQ m a w hs
 | o::rest,s,s',m,a,w,hc,h,hs,hQ=>by
  simp only [ajJ,List.all_cons,aQ] at hc
  simp only [qC] at h
  split at h
  ·rename_i s1 h1
   unfold GU at h1
   simp only [yc,JK,nC] at h1
   rw [dw]
   unfold wpList
   cases hgo:wP ops s.fr o with
   | false=>rw [hgo] at h1; cases h1
   | true =>
   rw [hgo] at h1
   simp only [cond_true] at h1
   rw [Vk hs.fr o hgo]
   cases hw:xx ops s.fr o with
   | true =>
    rw [hw] at h1
    simp only [cond_true] at h1
    simp only [if_true]
    split at h1
    ·rename_i out hout
     injection h1 with h1; subst h1
     refine .inl (Jz hN hX hO (hE0.mono hs.ext.le) (QE hs.fr hc.1 (wL hout).1) hs.ext.rel hout fun v' w' m' hext hvr=>?_)
     refine LH hN hX hO hE0 rest _ s' m' _ w' hc.2 h ⟨(hs.ext.trans hext).Ko,?_,?_⟩ hQ
     ·exact FU (hs.fr.mono hext.le) o.dst hvr
     ·cases hd:o.dst<;>simp [Act.put,hs.df]
    ·cases h1
   | false =>
    rw [hw] at h1
    simp only [cond_false,ak] at h1
    subst h1
    simp only [ajp,if_false]
    refine LH hN hX hO hE0 rest _ s' m _ w hc.2 h ⟨hs.ext,?_,?_⟩ hQ
    ·exact FU hs.fr o.dst (VR.undef m)
    ·cases hd:o.dst<;>simp [Act.put,hs.df]
  ·cases h
end
variable {P:Program} {X:Xt} {O:ig} {esc:Nat→Bool} {ops tail:List Oper} {Q:Exit→Act→World→Prop} {s s':St}
theorem Re (hN:kP P) (hX:kD P X) (hO:iY P X.env O) {l:List Oper} (hc:ajJ l=true) (h:qC P X O esc ops l s=some s') :
  Aj X (wpList P ops.toArray Q (l++tail)) (wpList P ops.toArray Q tail) s s':=fun _ _ _ m a w hE hs hQ=>LH hN hX hO hE l s s' m a w hc h hs hQ
variable {a:Act} {w:World} {f:FuncId} {fn:Func} {xs:List Value}
theorem MZ (hN:kP P) {ops:Array Oper} {o:Oper} {as_:Array Operand} {ts:Array TypeId} (hg:o.guard=none) (ho:o.op=.call { callee:=.value (.func f),args:=as_,argTypes:=ts }) (hf:P.funcs[f]?=some fn) (hb:fn.body.isSome=true)
  (hx:as_.toList.map a.eval=xs) (h:Calls P f xs.toArray w fun r w'=>∃v,r=.returned v∧wpList P ops Q tail (a.put o.dst v) w'):wpList P ops Q (o::tail) a w:=by
 refine wpList_plain hg fun K hK=>?_
 obtain ⟨dst,op,ty,pos,aft,gd⟩:=o
 simp only at ho hg h
 subst ho
 have hrun:=Rc (P:=P) (args:=xs.toArray) hf hb (hN _ _ hf) w
 have he:(execOp a.eval ⟨dst,.call { callee:=.value (.func f),args:=as_,argTypes:=ts },ty,pos,aft,gd⟩).run P w=.ok (.enter f xs.toArray) w:=by
  have e:(#[]++as_.map a.eval++#[]:Array Value)=xs.toArray:=by apply Array.ext'; rw [←hx]; simp
  unfold execOp
  simp only [resolve,show a.eval (.func f)=.func (.func f) #[] #[] from rfl,Deferred.ofValue,di,dA,bC,invoke,e,hrun]
 unfold Oper.wp
 rw [he,Oper.upon_enter]
 refine h.mono fun r w' hr=>?_
 obtain ⟨v,rfl,h2⟩:=hr
 exact hK _ _ h2
end Go.Sm
end
section
namespace Go.Sm
open Go.RowKit
inductive Qr where
 | val (v:Value)
 | row (tup:Bool) (n c:Nat) (blk:eG)
structure Qt where
 f:FuncId
 xs:List Value
 r:Qr
def EG (f:FuncId) (xs:List Value):List Qt→Option Qt
 | []=>none
 | t::l=>bif ay t.f f&&oF (qd 10) t.xs xs then some t else EG f xs l
theorem OT {f:FuncId} {xs:List Value} {t:Qt}:∀{l:List Qt},EG f xs l=some t→t∈l∧t.f=f∧t.xs=xs
 | [],h=>by cases h
 | t'::l,h=>by
  unfold EG at h
  cases hb:(ay t'.f f&&oF (qd 10) t'.xs xs) with
  | true =>
   rw [hb] at h
   simp only [cond_true,ak] at h
   subst h
   simp only [aQ] at hb
   exact ⟨aA,bf hb.1,vO (xR 10) _ _ hb.2⟩
  | false =>
   rw [hb] at h
   obtain ⟨q1,q2⟩:=OT h
   exact ⟨aT _ q1,q2⟩
def kC (tup:Bool) (g n c:Nat):Value:=bif tup then .tuple ⟨[.slice (some ⟨g,0,none⟩) n c,.bool true]⟩ else .slice (some ⟨g,0,none⟩) n c
def Dm (H:Hp):Qr→Option (Value×Hp×List Nat)
 | .val v=>some (v,H,[])
 | .row tup n c blk=>bif ownB blk&&blk.cells.all kV then some (kC tup H.length n c,H++[blk],[]) else none
def Bu (T:List Qt) (S:ig):ig:=fun f args H=>match EG f args T with
 | some t=>Dm H t.r
 | none=>S f args H
def Vx (E:Env) (w:World) (r:Ending) (w':World):Qr→Prop
 | .val v=>∃u,fP E ⟨[],[]⟩ 5 v=some u∧r=.returned u
 | .row tup n c blk=>∃vs gl,eQ (fP E ⟨[],[]⟩ 4) blk.cells=some vs∧w.heap.size≤gl∧gl<w'.heap.size∧r=.returned (kC tup gl n c)∧w'.heap[gl]?=some (.cells ⟨vs⟩ blk.elem (0,0))
def jB (P:Program) (E:Env) (t:Qt):Prop:=∀w,za E w→∃xs:List Value,eQ (fP E ⟨[],[]⟩ 5) t.xs=some xs∧Calls P t.f xs.toArray w fun r w'=>Below w.heap.size w w'∧Vx E w r w' t.r
theorem at_nil (m:Mp):At ⟨[],[]⟩ m:=⟨fun i g e=>by simp at e,fun i g e=>by simp at e,fun i x e=>by simp at e⟩
variable {m:Mp} {i:Nat}
theorem ac6 {gl:Nat} (h:m.gb i=some gl) (tup:Bool) (n c:Nat):VR m (kC tup i n c) (kC tup gl n c):=by
 cases tup
 ·exact .ow h
 ·exact (ek.cons (.ow h) (ek.cons (.bool true) (ek.nil m))).tuple
variable {P:Program} {E:Env} {S:ig}
theorem QY {T:List Qt} (h:∀t∈T,jB P E t) (hS:iY P E S):iY P E (Bu T S):=by
 intro f args H v H' md hs m w args' hE hlb hR hargs
 unfold Bu at hs
 split at hs
 case h_2=>exact hS f args H v H' md hs m w args' hE hlb hR hargs
 rename_i t ht
 obtain ⟨hmem,rfl,rfl⟩:=OT ht
 obtain ⟨xs,q1,q2⟩:=h t hmem w (fun g c' hc'=>by rw [←hE] at hc'; exact (hR.fz g c' hc').1.1)
 have hxs:args'=xs:=oN (fun v u v' a b=>p9 (at_nil m) 5 v u v' a b) _ _ _ (by rw [hE]; exact q1) hargs
 subst hxs
 refine q2.mono ?_
 rintro r w' ⟨hb,hr⟩
 obtain ⟨f,xs,qr⟩:=t
 cases qr with
 | val v0 =>
  simp only [Dm,ak,aP] at hs
  obtain ⟨rfl,rfl,rfl⟩:=hs
  obtain ⟨u,u1,rfl⟩:=hr
  exact ⟨_,m,rfl,qJ (at_nil m) 5 _ _ (by rw [hE]; exact u1),CL hlb hR hb,hlb⟩
 | row tup n c blk =>
  simp only [Dm] at hs
  cases hc:(ownB blk&&blk.cells.all kV) with
  | false=>rw [hc] at hs; cases hs
  | true =>
  rw [hc] at hs
  simp only [cond_true,ak,aP] at hs
  obtain ⟨rfl,rfl,rfl⟩:=hs
  simp only [aQ] at hc
  obtain ⟨hc5,hc6⟩:=hc
  obtain ⟨vs,gl,q3,n1,n2,rfl,n4⟩:=hr
  obtain ⟨o1,o2,o3⟩:=jU hc5
  have hx1:=CL hlb hR hb
  have hun:m.gb H.length=none:=hR.BO (au _)
  have hle:Le m (m.gN H.length gl false 0 0):=CY hun
  have hcase:∀i g,(m.gN H.length gl false 0 0).gb i=some g→(i=H.length∧g=gl)∨m.gb i=some g:=fun i g e'=>by
   simp only [Mp.gN] at e'
   split at e'
   ·rename_i hi; injection e' with e'; exact .inl ⟨hi,e'.symm⟩
   ·exact .inr e'
  have hnew:(m.gN H.length gl false 0 0).gb H.length=some gl:=by simp [Mp.gN]
  refine ⟨_,m.gN H.length gl false 0 0,rfl,ac6 hnew tup n c,?_,hlb⟩
  refine xW hx1 hle (fun i hi=>aH hi) (by simp) (fun i hi=>by simp at hi) (au _) (fun _ _=>rfl) (au _) rfl rfl rfl (fun i g e'=>?_) (fun i g e'=>by rw [show (m.gN H.length gl false 0 0).lb=m.lb from rfl,hlb] at e'; cases e')
  rcases hcase i g e' with ⟨rfl,rfl⟩ | r
  ·right
   refine ⟨au _,by simp,n2,n1,⟨blk,by rw [bu (by simp)]; simp,?_⟩,fun j hj=>?_,fun j hj=>by rw [show (m.gN H.length g false 0 0).lb=m.lb from rfl,hlb] at hj; cases hj⟩
   ·refine ⟨by simp [Mp.gN,o2],by simp [Mp.gN,o3],fun _=>⟨⟨vs⟩,n4,by simp [nR _ _ q3],?_,fun _=>by simp [nR _ _ q3],fun e=>by rw [o2] at e; cases e⟩⟩
    rw [dH (by simp [nR _ _ q3])]
    exact vB (m:=m.gN H.length g false 0 0) hc6 (qp (qJ (m:=m.gN H.length g false 0 0) (at_nil _) 4) _ _ (by show eQ (fP m.env _ 4) _=_; rw [hE]; exact q3))
   ·rcases hcase j g hj with q | q
    ·exact q.1
    ·have:=(hR.ic j g q).1; omega
  ·exact .inl r
theorem QZ {T:List Qt} (hS:jc S):jc (Bu T S):=by
 intro f args H v H' md hs
 unfold Bu at hs
 split at hs
 case h_2=>exact hS f args H v H' md hs
 rename_i t ht
 obtain ⟨f,xs,qr⟩:=t
 cases qr with
 | val v0 =>
  simp only [Dm,ak,aP] at hs
  obtain ⟨rfl,rfl,rfl⟩:=hs
  exact ik.refl H []
 | row tup n c blk =>
  simp only [Dm] at hs
  rcases je hs with hs | hs
  ·simp only [ak,aP] at hs
   obtain ⟨rfl,rfl,rfl⟩:=hs
   exact ik.Fj _ [] _
  ·cases hs
structure Nt where
 f:FuncId
 cs:List Value
 xs:List Value
 v:Value
def EF (f:FuncId) (cs xs:List Value):List Nt→Option Nt
 | []=>none
 | t::l=>bif ay t.f f&&(oF (qd 10) t.cs cs&&oF (qd 10) t.xs xs) then some t else EF f cs xs l
theorem OQ {f:FuncId} {cs xs:List Value} {t:Nt}:∀{l:List Nt},EF f cs xs l=some t→t∈l∧t.f=f∧t.cs=cs∧t.xs=xs
 | [],h=>by cases h
 | t'::l,h=>by
  unfold EF at h
  cases hb:(ay t'.f f&&(oF (qd 10) t'.cs cs&&oF (qd 10) t'.xs xs)) with
  | true =>
   rw [hb] at h
   simp only [cond_true,ak] at h
   subst h
   simp only [aQ] at hb
   exact ⟨aA,bf hb.1,vO (xR 10) _ _ hb.2.1,vO (xR 10) _ _ hb.2.2⟩
  | false =>
   rw [hb] at h
   obtain ⟨q1,q2⟩:=OQ h
   exact ⟨aT _ q1,q2⟩
def Bd (T:List Nt) (S:ig):ig:=fun f args H=>match args with
 | .agg ⟨.string _::cs⟩::xs=>match EF f cs xs T with
  | some t=>some (t.v,H,[])
  | none=>S f args H
 | _=>S f args H
def sG (P:Program) (E:Env) (t:Nt):Prop:=∃(cs xs:List Value) (u:Value),eQ (fP E ⟨[],[]⟩ 5) t.cs=some cs∧eQ (fP E ⟨[],[]⟩ 5) t.xs=some xs∧fP E ⟨[],[]⟩ 5 t.v=some u ∧
 ∀(s:ByteArray) (w:World),za E w→Calls P t.f (.agg ⟨.string s::cs⟩::xs).toArray w fun r w'=>r=.returned u∧Below w.heap.size w w'
theorem P6 {T:List Nt} (h:∀t∈T,sG P E t) (hS:iY P E S):iY P E (Bd T S):=by
 intro f args H v H' md hs m w args' hE hlb hR hargs
 unfold Bd at hs
 split at hs
 case h_2=>exact hS f args H v H' md hs m w args' hE hlb hR hargs
 rename_i s cs xs
 split at hs
 case h_2=>exact hS f _ H v H' md hs m w args' hE hlb hR hargs
 rename_i t ht
 obtain ⟨hmem,rfl,rfl,rfl⟩:=OQ ht
 simp only [ak,aP] at hs
 obtain ⟨rfl,rfl,rfl⟩:=hs
 obtain ⟨cs,xs,u,q1,q2,q3,q4⟩:=h t hmem
 obtain ⟨v1,xs',rfl,h1,h2⟩:=hargs.cons_inv
 obtain ⟨⟨cs'⟩,rfl,hc⟩:=uD h1
 obtain ⟨s',cs'',e,h3,h4⟩:=hc.cons_inv
 simp only at e
 subst e
 have hs':s'=.string s:=by cases h3; rfl
 subst hs'
 have e1:cs''=cs:=oN (fun v u v' a b=>p9 (at_nil m) 5 v u v' a b) _ _ _ (by rw [hE]; exact q1) h4
 have e2:xs'=xs:=oN (fun v u v' a b=>p9 (at_nil m) 5 v u v' a b) _ _ _ (by rw [hE]; exact q2) h2
 subst e1 e2
 refine (q4 s w (fun g c' hc'=>by rw [←hE] at hc'; exact (hR.fz g c' hc').1.1)).mono ?_
 rintro r w' ⟨rfl,hb⟩
 exact ⟨_,m,rfl,qJ (at_nil m) 5 _ _ (by rw [hE]; exact q3),CL hlb hR hb,hlb⟩
theorem P7 {T:List Nt} (hS:jc S):jc (Bd T S):=by
 intro f args H v H' md hs
 unfold Bd at hs
 split at hs
 case h_2=>exact hS f args H v H' md hs
 split at hs
 case h_2=>exact hS f _ H v H' md hs
 simp only [ak,aP] at hs
 obtain ⟨rfl,rfl,rfl⟩:=hs
 exact ik.refl H []
end Go.Sm
end
end
section
namespace Go.Proofs
open Go.Sm Go.RowKit
def kR (l:List Int) (b:Bool) (sl:Nat→Option Addr×Nat×Nat):Env:=⟨fun i=>l.getD i 0,fun _=>b,FN,FB,sl,fun _=>none,[],none⟩
def kZ (l:List Int) (b:Bool) (sl:Nat→Option Addr×Nat×Nat) (g:List (Value×Value)) (ws:List (Nat×Value×Nat×Nat)) (ls:List (Nat×Value)):Go.Sm.Xt:=⟨Tryz.xt,kR l b sl,g,[23],ws,ls,[],[]⟩
theorem Ha (l:List Int) (b:Bool) (sl:Nat→Option Addr×Nat×Nat) (g:List (Value×Value)) (ws:List (Nat×Value×Nat×Nat)) (ls:List (Nat×Value)) (h:Sat (kR l b sl) g):Go.Sm.kD aa (kZ l b sl g ws ls):=⟨CK,h,Cy _ _ _⟩
def uW (P:Program) (esc:FuncId→Nat→Bool) (l:List Int) (b:Bool) (sl:Nat→Option Addr×Nat×Nat) (g:List (Value×Value)):ig:=kQ P (kZ l b sl g [] []) esc 200 (ym 89 (vZ (kZ l b sl g [] []) vP)) 12
theorem aaY (l:List Int) (b:Bool) (sl:Nat→Option Addr×Nat×Nat):∀e∈vP,fo aa (kR l b sl) e:=fun e h=>Cw (E:=eO []) (E':=kR l b sl) rfl rfl (FE [] e h)
theorem Bo (l:List Int) (b:Bool) (sl:Nat→Option Addr×Nat×Nat) (g:List (Value×Value)) (h:Sat (kR l b sl) g):iY aa (kR l b sl) (uW aa Tryz.esc l b sl g)∧jc (uW aa Tryz.esc l b sl g) :=
 zl (X:=kZ l b sl g [] []) Tryz.mixed Tryz.ky (Ha l b sl g [] [] h) (ES En.AY (BH (X:=kZ l b sl g [] []) h _ (aaY l b sl))) (ET (BI _ _)) (Plain.start ⟨rfl,⟨rfl,rfl⟩,rfl,rfl,fun _=>rfl,rfl⟩) 12
section
variable {l:List Int} {b:Bool} {sl:Nat→Option Addr×Nat×Nat} {g:List (Value×Value)} {ws:List (Nat×Value×Nat×Nat)} {ls:List (Nat×Value)} {f:Nat} {c D:Code} {p:Pl} {fr fr':List Value} {H H' loc loc':Hp} {wg:List Nat} {x:Ex} {a:Act} {w:World} {Q:Exit→Act→World→Prop}
theorem O6 (hg:Sat (kR l b sl) g) (hrun:exec aa (kZ l b sl g ws ls) (uW aa Tryz.esc l b sl g) (Tryz.esc f) 200 c ⟨fr,H,loc,[]⟩=some (x,⟨fr',H',loc',wg⟩)) (h:Pre (kR l b sl) p fr H loc a w) (hW:kv (kZ l b sl g ws ls) (iC (kR l b sl) p w))
  (hQ:∀a' w',Post (kR l b sl) p p w fr' H' loc' a' w'→Q (vS x) a' w'):c.wp aa Q a w :=
 Yb (X:=kZ l b sl g ws ls) Tryz.mixed Tryz.ky (Ha _ _ _ _ _ _ hg) (Bo l b sl g hg).1 (Bo l b sl g hg).2 hrun h hW hQ
variable {m:Mp} {w0:World} {s s':St}
theorem LM (hg:Sat (kR l b sl) g) {m0:Mp} {H0:Hp} (hE:qb (kZ l b sl g ws ls) m0) (hrun:exec aa (kZ l b sl g ws ls) (uW aa Tryz.esc l b sl g) (Tryz.esc f) 200 c s=some (.normal,s')) (hs:jQ m0 H0 w0 s m a w) (hQ:∀m' a' w',jQ m0 H0 w0 s' m' a' w'→D.wp aa Q a' w'):(Code.seq c D).wp aa Q a w :=
 adr (X:=kZ l b sl g ws ls) Tryz.mixed Tryz.ky (Ha _ _ _ _ _ _ hg) (Bo l b sl g hg).1 (Bo l b sl g hg).2 hE hrun hs hQ
variable {vs:List Value}
theorem acW (hg:Sat (kR l b sl) g) {fn:Func} {R:Ending→World→Prop} {u:Value} (hrun:exec aa (kZ l b sl g ws ls) (uW aa Tryz.esc l b sl g) (Tryz.esc f) 200 c ⟨fr,H,loc,[]⟩=some (.ret,s')) (h:Pre (kR l b sl) p fr H loc a w) (hW:kv (kZ l b sl g ws ls) (iC (kR l b sl) p w)) (hres:qP aa s' fn.results.toList=some vs) (hu:fP (kR l b sl) p 5 (kW vs)=some u)
  (hQ:∀a' w',Post (kR l b sl) p p w s'.fr s'.H s'.loc a' w'→R (.returned u) w'):c.wp aa (bodyPost aa fn R) a w :=
 O7 (X:=kZ l b sl g ws ls) Tryz.mixed Tryz.ky (Ha _ _ _ _ _ _ hg) (Bo l b sl g hg).1 (Bo l b sl g hg).2 hrun h hW hres hu hQ
theorem aaa {l:List Int} {b:Bool} {sl:Nat→Option Addr×Nat×Nat} {g:List (Value×Value)}:kv (kZ l b sl g [] []) m:=⟨(fun e he=>by cases he),(fun e he=>by cases he),(fun e he=>by cases he)⟩
end
theorem PM {f:Value→Option Value}:∀(l r:List Value),eQ f l=some r→∀(i:Nat) (v u:Value),l[i]?=some v→r[i]?=some u→f v=some u
 | [],r,_,i,v,u,h1,_=>by simp at h1
 | x::l,r,h,i,v,u,h1,h2=>by
  unfold eQ at h
  split at h
  ·rename_i y hy
   split at h
   ·rename_i s hs
    injection h with h; subst h
    cases i with
    | zero=>simp at h1 h2; subst h1; subst h2; exact hy
    | succ i=>exact PM l s hs i v u (by simpa using h1) (by simpa using h2)
   ·cases h
  ·cases h
variable {E:Env} {p:Pl} {H:Hp} {w:World} {n:Nat}
theorem acw {fr xs ys:List Value} (hf:fr=xs++ag6 n undef) (h:eQ (fP E p 5) xs=some ys) (hg:sw E p w H p.gp) (h1:p.gp.Nodup) (h2:p.lp=[]) (hz:qc E p [] w) (h0:∀c,E.f0=some c→p.gp[0]?=some c):Pre E p fr H [] { tmps:=ys.toArray++aji n undef,defers:=[] } w:=by
 have hl:=nR _ _ h
 refine ⟨rfl,by rw [hf]; simp [hl],fun t v u e1 e2=>.inr ?_,(sw.at _ _ hg).2,fun i b hb=>(by simp at hb),(sw.at _ _ hg).1,by rw [h2]; rfl,fun i j g e e'=>?_,fun i j g s _ e'=>(by rw [h2] at e'; simp at e'),hz,h0,fun i j g s s' bi bj e=>(by rw [h2] at e; simp at e)⟩
 ·rw [hf] at e1
  by_cases ht:t<xs.length
  ·rw [aH ht] at e1
   rw [Array.getElem?_append_left (by simp; omega)] at e2
   exact PM xs ys h t v u e1 (by simpa using e2)
  ·rw [bu (by omega)] at e1
   rw [Array.getElem?_append_right (by simp; omega)] at e2
   have e3:=aN e1
   rw [(List.mem_replicate.1 e3).2]
   have e4:u=undef:=by
    rw [Array.getElem?_replicate] at e2
    split at e2
    ·injection e2 with e2; exact e2.symm
    ·cases e2
   rw [e4]
   rfl
 ·have hi:=(ai.1 e).1
  have hj:=(ai.1 e').1
  rw [ah hi] at e
  rw [ah hj] at e'
  injection e with e; injection e' with e'
  exact (List.getElem_inj h1).1 (e.trans e'.symm)
variable {q:Pl} {w':World} {fr' vs:List Value} {H' loc':Hp} {a':Act} {i g:Nat}
theorem wX (hp:Post E p q w fr' H' loc' a' w') {s:Nat} {cells:List Value} {e:TypeId} (h1:q.lp[i]?=some (g,s)) (h2:loc'[i]?=some ⟨cells,e,0,false,true⟩) (h3:eQ (fP E q 4) cells=some vs):w'.heap[g]?=some (.cells ⟨vs⟩ e (0,0)):=by
 obtain ⟨cs,t,f,k1,_,k2,k3⟩:=hp.lo i g s _ vs h1 h2 rfl h3
 obtain ⟨r1,_⟩:=k2 rfl
 obtain ⟨r2,r3⟩:=k3 rfl
 rw [k1,r1,r2,r3]
theorem KS (hp:Post E p q w fr' H' loc' a' w') (hg:g<w.heap.size) (h1:g∉p.gp) (h2:∀(i s:Nat),p.lp[i]?=some (g,s)→(∃b,loc'[i]?=some b∧b.loose=true∧b.eD≠0)∧∃cs t f,w.heap[g]?=some (.cells cs t f)):w'.heap[g]?=w.heap[g]?:=by
 by_cases hx:∃x∈p.lp,x.1=g
 ·obtain ⟨⟨g',s⟩,hm,rfl⟩:=hx
  obtain ⟨i,hi⟩:=cZ hm
  obtain ⟨⟨b,hb,hl,_⟩,cs,t,f,hw⟩:=h2 i s hi
  obtain ⟨cs',k1,k2,k3⟩:=hp.out i g' s b hi hb hl
  have ho:uV w g'=(cs,t,f):=by simp [uV,hw]
  rw [ho] at k1 k2 k3
  simp only at k1 k2 k3
  have:cs'=cs:=by
   apply Array.ext_getElem?
   intro o
   refine k3 o fun j s' bj e1 e2 e3=>?_
   obtain ⟨⟨b2,hb2,_,hz⟩,_⟩:=h2 j s' e1
   rw [e2] at hb2; injection hb2 with hb2; subst hb2
   exact absurd e3 hz
  rw [k1,hw,this]
 ·exact hp.frame g hg h1 fun x hm e=>hx ⟨x,hm,e⟩
theorem o9 {o:Option Addr} {rows:List (List Value)} (h:En.Sl w o n rows) {r:List Value} (hi:rows[i]?=some r):∃b off,o=some ⟨b,off,none⟩∧b<w.heap.size∧∀(k:Nat) (v:Value),r[k]?=some v→w.cell? ⟨b,off+i*n+k,none⟩=some v:=by
 have hne:rows≠[]:=by intro e; rw [e] at hi; simp at hi
 obtain ⟨b,off,e,hr⟩:=h hne
 exact ⟨b,off,e,hr.lt,fun k v hk=>by have:=hr.c i r hi k v hk; rwa [Nat.add_assoc]⟩
variable {m m':Mp} {s:St} {b:eG}
theorem FL (hs:jQ m H w s m' a' w') (h:m'.lb i=some g) (hb:s.loc[i]?=some b) (h1:b.live=true) (h2:b.loose=false):m'.sh i=0:=by
 obtain ⟨_,b',hb',hL⟩:=hs.ext.rel.iN i g h
 rw [hb] at hb'; injection hb' with hb'; subst hb'
 obtain ⟨_,_,_,_,_,_,k,_⟩:=hL.blk h1
 exact (k h2).1
theorem own_ne (hs:jQ m H w s m' a' w') {j g':Nat} {b':eG} (h:m'.lb i=some g) (h':m'.lb j=some g') (hb:s.loc[i]?=some b) (hb':s.loc[j]?=some b') (h1:b.loose=false) (hij:i≠j):g≠g':=by
 intro e
 subst e
 rcases hs.ext.rel.pJ i j g b b' h h' hb hb' with r | ⟨_,_,r,_⟩
 ·exact hij r
 ·rw [h1] at r; cases r
variable {w0:World}
theorem JQ {nc:Nat} {f f':Bool} (h:jL w0 nc 88 f w) (h1:w'.os=w.os) (h2:w'.tape=w.tape) (h3:w'.output=w.output) (h4:w.heap.size≤w'.heap.size) (h5:∀g,g<w0.heap.size→g≠nc→w'.heap[g]?=w.heap[g]?) (h6:w'.heap[nc]?=some (.cells #[.bool f'] 88 (0,0))):jL w0 nc 88 f' w' :=
 ⟨h1.trans h.os,h2.trans h.tape,h3.trans h.output,aZ h.size h4,fun g hg hn=>(h5 g hg hn).trans (h.frame g hg hn),h6⟩
def dZ:Code→Code | .seq a _=>a | c=>c
def fU:Code→Code | .seq _ b=>b | c=>c
def sR:Nat→Code→Code
 | 0,c=>c
 | n+1,c=>fU (sR n c)
def sN:Code→Code | .block _ b=>b | c=>c
def yo:Code→Code | .loop b=>b | c=>c
def uT (c : Code) : Code := sN (dZ (fU (fU (yo (sN (fU (dZ (sR 5 c))))))))
def nN (c : Code) : Code := sN (dZ (fU (fU (yo (sN (fU (dZ (sR 3 (uT c)))))))))
def iW (c : Code) : Code := yo (sN (fU (dZ (fU (fU c)))))
def nP (c : Code) : Code := dZ (fU (fU c))
def jK (c : Code) : Code := yo (sN (fU (fU (sN (dZ (fU (fU (iW c))))))))
def gY (c : Code) : Code := sN (fU (yo (sN (nP c))))
def CS (c : Code) : Code := dZ (sR 5 c)
def rD (c : Code) : Code := dZ (sR 3 (uT c))
def jT (c : Code) : Code := sN (dZ (fU (fU (iW c))))
def rE (c : Code) : Code := yo (sN (fU (rD c)))
def jM (c : Code) : Code := dZ (fU c)
def qg (c : Code) : Code := dZ (sR 5 (nN c))
def uU (c : Code) : Code := yo (sN (fU (CS c)))
def kS (c : Code) : Code := dZ (sR 6 c)
def uk (c : Code) : Code := yo (sN (nP c))
def qj (c : Code) : Code := sR 6 (nN c)
def qm (c : Code) : Code := sR 4 (uT c)
def rz (c : Code) : Code := dZ (rD c)
def dN (fn:Func):Code:=fn.body.getD .skip
structure V6 where
 a:Int
 b:Int
 c:Int
 d:Int
 e:Int
 f:Int
def V6.cs (nc:Nat) (v:V6):List Value:=[.pointer (some ⟨nc,0,none⟩),num v.a,num v.b,num v.c,num v.d,num v.e,num v.f]
def V6.val (nc:Nat) (v:V6):Value:=.agg ⟨v.cs nc⟩
def V6.z:V6:=⟨0,0,0,0,0,0⟩
def plusV (v u:V6):V6:=⟨U4 v.a v.b v.c v.d v.e v.f u.a u.b u.c u.d u.e u.f,U5 v.a v.b v.c v.d v.e v.f u.a u.b u.c u.d u.e u.f,U6 v.a v.b v.c v.d v.e v.f u.a u.b u.c u.d u.e u.f,U7 v.a v.b v.c v.d v.e v.f u.a u.b u.c u.d u.e u.f,U8 v.a v.b v.c v.d v.e v.f u.a u.b u.c u.d u.e u.f,U9 v.a v.b v.c v.d v.e v.f u.a u.b u.c u.d u.e u.f⟩
def uZ (k:Bool) (v u:V6):Bool:=DJ k v.a v.b v.c v.d v.e v.f u.a u.b u.c u.d u.e u.f
def iK (v:V6) (r:Int×Int):V6:=⟨Ve v.a v.b v.c v.d v.e v.f r.1 r.2,Vf v.a v.b v.c v.d v.e v.f r.1 r.2,Vg v.a v.b v.c v.d v.e v.f r.1 r.2,Vh v.a v.b v.c v.d v.e v.f r.1 r.2,Vi v.a v.b v.c v.d v.e v.f r.1 r.2,Vj v.a v.b v.c v.d v.e v.f r.1 r.2⟩
def tJ (k:Bool) (v:V6) (r:Int×Int):Bool:=DR k v.a v.b v.c v.d v.e v.f r.1 r.2
def dJ (x:Option Addr×Nat×Nat):Value:=.slice x.1 x.2.1 x.2.2
def JP (rs:List (Int×Int)) (st:V6×Bool) (k:Int) (v:V6):V6×Bool :=
 (plusV st.1 (iK v (rs.getD k.toNat (0,0))),uZ (tJ st.2 v (rs.getD k.toNat (0,0))) st.1 (iK v (rs.getD k.toNat (0,0))))
def mM (rs:List (Int×Int)) (ks:List Int) (vs:List V6) (f:Bool):Nat→V6×Bool
 | 0=>(.z,f)
 | k+1=>JP rs (mM rs ks vs f k) (ks.getD k 0) (vs.getD k .z)
end Go.Proofs
end
section
namespace Go.Proofs
open Go.Sm Go.RowKit En
theorem WR:dN aff=.seq (dZ (dN aff)) (.seq (jM (dN aff)) (.seq (.seq (dZ (nP (dN aff))) (.block 0 (.loop (iW (dN aff))))) (sR 3 (dN aff)))):=by kernel_rfl
def Ri:St:=⟨[.agg ⟨[.pointer (some ⟨0,0,none⟩),dM 3,dM 4,dM 5,dM 6]⟩,.agg ⟨[var 2,dM 1,dM 2]⟩,dM 0,.pointer (some ⟨0,0,some 0⟩),.pointer (some ⟨1,0,some 0⟩),undef,.pointer (some ⟨2,0,some 0⟩),undef,undef,undef,undef,undef,undef,undef,undef,undef,undef,undef,undef,undef,undef,undef,undef,undef,undef,undef,undef,undef,undef,undef,undef,undef,undef,undef,undef],
 [⟨[mB 1 [.int .i64 (0)]],88,0,false,true⟩],
 [⟨[.pointer (some ⟨0,0,none⟩),dM 3,dM 4,dM 5,dM 6],92,0,false,true⟩,⟨[var 2,dM 1,dM 2],95,0,false,true⟩,⟨[.pointer none,.int .i64 (0),.int .i64 (0),.int .i64 (0),.int .i64 (0),.int .i64 (0),.int .i64 (0)],98,0,false,true⟩],[]⟩
def Rj:St:=⟨[.agg ⟨[.pointer (some ⟨0,0,none⟩),dM 3,dM 4,dM 5,dM 6]⟩,.agg ⟨[var 2,dM 1,dM 2]⟩,dM 0,.pointer (some ⟨0,0,some 0⟩),.pointer (some ⟨1,0,some 0⟩),undef,.pointer (some ⟨2,0,some 0⟩),.pointer (some ⟨3,0,some 0⟩),undef,undef,.pointer (some ⟨0,0,some 0⟩),.pointer (some ⟨0,0,none⟩),.agg ⟨[.pointer (some ⟨0,0,none⟩),.int .i64 (0),.int .i64 (0),.int .i64 (0),.int .i64 (0),.int .i64 (0),.int .i64 (0)]⟩,undef,undef,undef,undef,undef,undef,undef,undef,undef,undef,undef,undef,undef,undef,undef,undef,undef,undef,undef,undef,undef,undef],
 [⟨[mB 1 [.int .i64 (0)]],88,0,false,true⟩],
 [⟨[.pointer (some ⟨0,0,none⟩),dM 3,dM 4,dM 5,dM 6],92,0,false,true⟩,⟨[var 2,dM 1,dM 2],95,0,false,true⟩,⟨[.pointer none,.int .i64 (0),.int .i64 (0),.int .i64 (0),.int .i64 (0),.int .i64 (0),.int .i64 (0)],98,0,false,true⟩,⟨[.pointer (some ⟨0,0,none⟩),.int .i64 (0),.int .i64 (0),.int .i64 (0),.int .i64 (0),.int .i64 (0),.int .i64 (0)],98,0,false,true⟩],[]⟩
def adj:St:=⟨[.agg ⟨[.pointer (some ⟨0,0,none⟩),dM 3,dM 4,dM 5,dM 6]⟩,.agg ⟨[var 2,dM 1,dM 2]⟩,dM 0,.pointer (some ⟨0,0,some 0⟩),.pointer (some ⟨1,0,some 0⟩),undef,.pointer (some ⟨2,0,some 0⟩),.pointer (some ⟨3,0,some 0⟩),undef,undef,.pointer (some ⟨0,0,some 0⟩),.pointer (some ⟨0,0,none⟩),.agg ⟨[.pointer (some ⟨0,0,none⟩),.int .i64 (0),.int .i64 (0),.int .i64 (0),.int .i64 (0),.int .i64 (0),.int .i64 (0)]⟩,.pointer (some ⟨1,1,some 0⟩),dM 1,var 1,.int .i64 (0),undef,undef,undef,undef,undef,undef,undef,undef,undef,undef,undef,undef,undef,undef,undef,undef,undef,undef],
 [⟨[mB 1 [.int .i64 (0)]],88,0,false,true⟩],
 [⟨[.pointer (some ⟨0,0,none⟩),dM 3,dM 4,dM 5,dM 6],92,0,false,true⟩,⟨[var 2,dM 1,dM 2],95,0,false,true⟩,⟨[.pointer none,.int .i64 (0),.int .i64 (0),.int .i64 (0),.int .i64 (0),.int .i64 (0),.int .i64 (0)],98,0,false,true⟩,⟨[.pointer (some ⟨0,0,none⟩),.int .i64 (0),.int .i64 (0),.int .i64 (0),.int .i64 (0),.int .i64 (0),.int .i64 (0)],98,0,false,true⟩],[]⟩
def adl:St:=⟨[o6,o6,dM 0,o6,.pointer (some ⟨0,0,some 0⟩),o6,.pointer (some ⟨1,0,some 0⟩),.pointer (some ⟨2,0,some 0⟩),var 0,var 9,o6,o6,o6,o6,dM 1,var 1,mI 2 [var 0,.int .i64 (1)],.bool true,var 0,.pointer (some ⟨3,0,some 0⟩),var 9,.agg ⟨[.pointer (some ⟨0,0,none⟩),var 3,var 4,var 5,var 6,var 7,var 8]⟩,.pointer (some ⟨0,2,some 0⟩),dM 2,var 0,.pointer (some ⟨4,0,some 0⟩),.agg ⟨[.pointer (some ⟨0,0,none⟩),var 10,var 11,var 12,var 13,var 14,var 15]⟩,dM 0,var 9,.pointer (some ⟨5,0,some 0⟩),.agg ⟨[var 16,var 17]⟩,.agg ⟨[.pointer (some ⟨0,0,none⟩),mI 1246 [var 10,var 11,var 16,var 17],mI 1247 [var 10,var 11,var 16,var 17],mI 1246 [var 12,var 13,var 16,var 17],mI 1247 [var 12,var 13,var 16,var 17],mI 1246 [var 14,var 15,var 16,var 17],mI 1247 [var 14,var 15,var 16,var 17]]⟩,.agg ⟨[.pointer (some ⟨0,0,none⟩),mI 1243 [var 3,var 4,mI 1246 [var 10,var 11,var 16,var 17],mI 1247 [var 10,var 11,var 16,var 17]],mI 1244 [var 3,var 4,mI 1246 [var 10,var 11,var 16,var 17],mI 1247 [var 10,var 11,var 16,var 17]],mI 1243 [var 5,var 6,mI 1246 [var 12,var 13,var 16,var 17],mI 1247 [var 12,var 13,var 16,var 17]],mI 1244 [var 5,var 6,mI 1246 [var 12,var 13,var 16,var 17],mI 1247 [var 12,var 13,var 16,var 17]],mI 1243 [var 7,var 8,mI 1246 [var 14,var 15,var 16,var 17],mI 1247 [var 14,var 15,var 16,var 17]],mI 1244 [var 7,var 8,mI 1246 [var 14,var 15,var 16,var 17],mI 1247 [var 14,var 15,var 16,var 17]]]⟩,mI 2 [var 0,.int .i64 (1)],o6],
 [⟨[mB 27 [mB 27 [mB 27 [mB 27 [mB 27 [mB 27 [mB 1 [.int .i64 (0)],mB 26 [mB 1248 [var 10,var 11,var 16,var 17]]],mB 26 [mB 1248 [var 12,var 13,var 16,var 17]]],mB 26 [mB 1248 [var 14,var 15,var 16,var 17]]],mB 26 [mB 1245 [var 3,var 4,mI 1246 [var 10,var 11,var 16,var 17],mI 1247 [var 10,var 11,var 16,var 17]]]],mB 26 [mB 1245 [var 5,var 6,mI 1246 [var 12,var 13,var 16,var 17],mI 1247 [var 12,var 13,var 16,var 17]]]],mB 26 [mB 1245 [var 7,var 8,mI 1246 [var 14,var 15,var 16,var 17],mI 1247 [var 14,var 15,var 16,var 17]]]]],88,0,false,true⟩],
 [⟨[var 2,dM 1,dM 2],95,0,false,true⟩,⟨[.pointer none,.int .i64 (0),.int .i64 (0),.int .i64 (0),.int .i64 (0),.int .i64 (0),.int .i64 (0)],98,0,false,true⟩,⟨[.pointer (some ⟨0,0,none⟩),mI 1243 [var 3,var 4,mI 1246 [var 10,var 11,var 16,var 17],mI 1247 [var 10,var 11,var 16,var 17]],mI 1244 [var 3,var 4,mI 1246 [var 10,var 11,var 16,var 17],mI 1247 [var 10,var 11,var 16,var 17]],mI 1243 [var 5,var 6,mI 1246 [var 12,var 13,var 16,var 17],mI 1247 [var 12,var 13,var 16,var 17]],mI 1244 [var 5,var 6,mI 1246 [var 12,var 13,var 16,var 17],mI 1247 [var 12,var 13,var 16,var 17]],mI 1243 [var 7,var 8,mI 1246 [var 14,var 15,var 16,var 17],mI 1247 [var 14,var 15,var 16,var 17]],mI 1244 [var 7,var 8,mI 1246 [var 14,var 15,var 16,var 17],mI 1247 [var 14,var 15,var 16,var 17]]],98,0,false,true⟩,⟨[var 9],0,1,true,true⟩,⟨[.pointer (some ⟨0,0,none⟩),var 10,var 11,var 12,var 13,var 14,var 15],0,1,true,true⟩,⟨[var 16,var 17],0,1,true,true⟩],[0,0,0,0,0,0]⟩
def adi:St:=⟨[o6,o6,dM 0,o6,.pointer (some ⟨0,0,some 0⟩),o6,.pointer (some ⟨1,0,some 0⟩),.pointer (some ⟨2,0,some 0⟩),o6,o6,o6,o6,o6,o6,dM 1,var 1,var 0,.bool false,o6,o6,o6,o6,o6,o6,o6,o6,o6,o6,o6,o6,o6,o6,o6,o6,o6],
 [⟨[mB 1 [.int .i64 (0)]],88,0,false,true⟩],
 [⟨[var 2,dM 1,dM 2],95,0,false,true⟩,⟨[.pointer none,.int .i64 (0),.int .i64 (0),.int .i64 (0),.int .i64 (0),.int .i64 (0),.int .i64 (0)],98,0,false,true⟩,⟨[.pointer (some ⟨0,0,none⟩),var 3,var 4,var 5,var 6,var 7,var 8],98,0,false,true⟩],[]⟩
def adk:St:=⟨[o6,o6,o6,o6,o6,o6,.pointer (some ⟨0,0,some 0⟩),.pointer (some ⟨1,0,some 0⟩),o6,o6,o6,o6,o6,o6,o6,o6,o6,o6,o6,o6,o6,o6,o6,o6,o6,o6,o6,o6,o6,o6,o6,o6,o6,o6,.agg ⟨[.pointer (some ⟨0,0,none⟩),var 3,var 4,var 5,var 6,var 7,var 8]⟩],
 [⟨[mB 1 [.int .i64 (0)]],88,0,false,true⟩],
 [⟨[.pointer (some ⟨0,0,none⟩),var 3,var 4,var 5,var 6,var 7,var 8],98,0,false,true⟩,⟨[.pointer (some ⟨0,0,none⟩),var 3,var 4,var 5,var 6,var 7,var 8],98,0,false,true⟩],[]⟩
def AO:List Value:=[o6,o6,dM 0,o6,.pointer (some ⟨0,0,some 0⟩),o6,.pointer (some ⟨1,0,some 0⟩),.pointer (some ⟨2,0,some 0⟩),o6,o6,o6,o6,o6,o6,dM 1,var 1,var 0,o6,o6,o6,o6,o6,o6,o6,o6,o6,o6,o6,o6,o6,o6,o6,o6,o6,o6]
def JO:List Value:=[o6,o6,o6,o6,o6,o6,.pointer (some ⟨0,0,some 0⟩),.pointer (some ⟨1,0,some 0⟩),o6,o6,o6,o6,o6,o6,o6,o6,o6,o6,o6,o6,o6,o6,o6,o6,o6,o6,o6,o6,o6,o6,o6,o6,o6,o6,o6]
def O4:List Value:=[.agg ⟨[.pointer (some ⟨0,0,none⟩),dM 3,dM 4,dM 5,dM 6]⟩,.agg ⟨[var 2,dM 1,dM 2]⟩,dM 0,undef,undef,undef,undef,undef,undef,undef,undef,undef,undef,undef,undef,undef,undef,undef,undef,undef,undef,undef,undef,undef,undef,undef,undef,undef,undef,undef,undef,undef,undef,undef,undef]
def ui:Hp:=[⟨[mB 1 [.int .i64 0]],88,0,false,true⟩]
def E5:Hp:=[⟨[var 2,dM 1,dM 2],95,0,false,true⟩,⟨[.pointer none,.int .i64 0,.int .i64 0,.int .i64 0,.int .i64 0,.int .i64 0,.int .i64 0],98,0,false,true⟩,⟨[.pointer (some ⟨0,0,none⟩),var 3,var 4,var 5,var 6,var 7,var 8],98,0,false,true⟩,⟨[var 9],0,1,true,true⟩,⟨[.pointer (some ⟨0,0,none⟩),var 10,var 11,var 12,var 13,var 14,var 15],0,1,true,true⟩,⟨[var 16,var 17],0,1,true,true⟩]
def E8:Hp:=[⟨[var 2,dM 1,dM 2],95,0,false,true⟩,⟨[.pointer none,.int .i64 0,.int .i64 0,.int .i64 0,.int .i64 0,.int .i64 0,.int .i64 0],98,0,false,true⟩,⟨[.pointer (some ⟨0,0,none⟩),var 3,var 4,var 5,var 6,var 7,var 8],98,0,false,true⟩]
def E9:Hp:=[⟨[.pointer none,.int .i64 0,.int .i64 0,.int .i64 0,.int .i64 0,.int .i64 0,.int .i64 0],98,0,false,true⟩,⟨[.pointer (some ⟨0,0,none⟩),var 3,var 4,var 5,var 6,var 7,var 8],98,0,false,true⟩]
def Pd:List (Value×Value):=[(mB 20 [var 0,var 1],.bool true)]
def Pb:List (Value×Value):=[(mB 20 [var 0,var 1],.bool false)]
def Mr:List (Nat×Value×Nat×Nat):=[(1,var 0,1,3),(2,var 0,7,4),(0,var 9,2,5)]
theorem adb (l:List Int) (b:Bool) (sl:Nat→Option Addr×Nat×Nat):exec aa (kZ l b sl [] [] [(1,var 1)]) (uW aa Tryz.esc l b sl []) (Tryz.esc 42) 200 (dZ (dN aff)) ⟨O4,ui,[],[]⟩=some (.normal,Ri):=by kernel_rfl
theorem ade (l:List Int) (b:Bool) (sl:Nat→Option Addr×Nat×Nat):exec aa (kZ l b sl [] [] [(1,var 1)]) (uW aa Tryz.esc l b sl []) (Tryz.esc 42) 200 (jM (dN aff)) Ri=some (.normal,Rj):=by kernel_rfl
theorem adf (l:List Int) (b:Bool) (sl:Nat→Option Addr×Nat×Nat):exec aa (kZ l b sl [] [] [(1,var 1)]) (uW aa Tryz.esc l b sl []) (Tryz.esc 42) 200 (dZ (nP (dN aff))) Rj=some (.normal,adj):=by kernel_rfl
theorem ac8 (l:List Int) (b:Bool) (sl:Nat→Option Addr×Nat×Nat):exec aa (kZ l b sl Pd Mr []) (uW aa Tryz.esc l b sl Pd) (Tryz.esc 42) 200 (iW (dN aff)) ⟨AO,ui,E5,[]⟩=some (.normal,adl):=by kernel_rfl
theorem ac9 (l:List Int) (b:Bool) (sl:Nat→Option Addr×Nat×Nat):exec aa (kZ l b sl Pb [] []) (uW aa Tryz.esc l b sl Pb) (Tryz.esc 42) 200 (iW (dN aff)) ⟨AO,ui,E8,[]⟩=some (.exit 0,adi):=by kernel_rfl
theorem ada (l:List Int) (b:Bool) (sl:Nat→Option Addr×Nat×Nat):exec aa (kZ l b sl [] [] []) (uW aa Tryz.esc l b sl []) (Tryz.esc 42) 200 (sR 3 (dN aff)) ⟨JO,ui,E9,[]⟩=some (.ret,adk):=by kernel_rfl
end Go.Proofs
end
section
namespace Go.Proofs
open Go.Sm Go.RowKit En
structure FI (w0:World) (nc n4 n6 n7:Nat) (W J V:Option Addr×Nat×Nat) (wt:Int) (k:Nat) (s:V6) (f:Bool) (a:Act) (w:World):Prop where
 df:a.defers=[]
 sz:a.tmps.size=35
 s2:a.tmps[2]?=some (dJ W)
 s4:a.tmps[4]?=some (.pointer (some ⟨n4,0,none⟩))
 s6:a.tmps[6]?=some (.pointer (some ⟨n6,0,none⟩))
 s7:a.tmps[7]?=some (.pointer (some ⟨n7,0,none⟩))
 Rh:a.tmps[14]?=some (dJ J)
 s15:a.tmps[15]?=some (.int .i64 (J.2.1:Nat))
 s16:a.tmps[16]?=some (.int .i64 (k:Nat))
 b4:w.heap[n4]?=some (.cells ⟨[num wt,dJ J,dJ V]⟩ 95 (0,0))
 b6:w.heap[n6]?=some (.cells ⟨[.pointer none,num 0,num 0,num 0,num 0,num 0,num 0]⟩ 98 (0,0))
 b7:w.heap[n7]?=some (.cells ⟨s.cs nc⟩ 98 (0,0))
 fl:jL w0 nc 88 f w
def zW (W J V:Option Addr×Nat×Nat) (B:List (Option Addr×Nat×Nat)):Nat→Option Addr×Nat×Nat:=fun k=>(W::J::V::B).getD k (none,0,0)
theorem Ur {l:List Int} {b:Bool} {sl:Nat→Option Addr×Nat×Nat} {r:Bool} (h:decide (l.getD 0 0<l.getD 1 0)=r):Sat (kR l b sl) [(mB 20 [var 0,var 1],.bool r)] :=
 afl ⟨300,.bool r,(show eF (kR l b sl) 300 (mB 20 [var 0,var 1])=some (.bool (decide (l.getD 0 0<l.getD 1 0))) by kernel_rfl).trans (by rw [h]),rfl⟩ (fB _)
theorem X8 (w0:World) (nc n4 n6 n7:Nat) (W J V:Option Addr×Nat×Nat) (B:List (Option Addr×Nat×Nat)) (wt:Int) (k:Nat) (s:V6) (f:Bool) (a:Act) (w:World) (hI:FI w0 nc n4 n6 n7 W J V wt k s f a w)
  (hnc:nc<w0.heap.size) (h4:w0.heap.size≤n4) (h6:w0.heap.size≤n6) (h7:w0.heap.size≤n7) (h46:n4≠n6) (h47:n4≠n7) (h67:n6≠n7) (hk:k<J.2.1) (hk2:k<1000000) (j:Int) (v:V6) (r:Int×Int)
  (bJ oJ bV oV bW oW:Nat) (eJ:J.1=some ⟨bJ,oJ,none⟩) (eV:V.1=some ⟨bV,oV,none⟩) (eW:W.1=some ⟨bW,oW,none⟩) (lJ:bJ<w0.heap.size) (lV:bV<w0.heap.size) (lW:bW<w0.heap.size) (nJ:bJ≠nc) (nV:bV≠nc) (nW:bW≠nc)
  (hVl:k<V.2.1) (hj0:0≤j) (hjW:j<W.2.1)
  (cJ:∀(q:Nat) (u:Value),[num j][q]?=some u→w0.cell? ⟨bJ,oJ+k*1+q,none⟩=some u) (cV:∀(q:Nat) (u:Value),(v.cs nc)[q]?=some u→w0.cell? ⟨bV,oV+k*7+q,none⟩=some u) (cW:∀(q:Nat) (u:Value),[num r.1,num r.2][q]?=some u→w0.cell? ⟨bW,oW+j.toNat*2+q,none⟩=some u) (Q:Exit→Act→World→Prop)
  (hQ:∀a' w',FI w0 nc n4 n6 n7 W J V wt (k+1) (plusV s (iK v r)) (uZ (tJ f v r) s (iK v r)) a' w'→Q .normal a' w') :
  (iW (dN aff)).wp aa Q a w:=by
 obtain ⟨W1,W2,W3⟩:=W
 obtain ⟨J1,J2,J3⟩:=J
 obtain ⟨V1,V2,V3⟩:=V
 simp only at eJ eV eW hk hVl hjW
 subst eJ eV eW
 have cellw:∀b o,b<w0.heap.size→b≠nc→w.cell? ⟨b,o,none⟩=w0.cell? ⟨b,o,none⟩:=fun b o h1 h2=>by simp [bS,hI.fl.frame b h1 h2]
 have hlt4:n4≠nc:=by omega
 have hpre:Pre (kR [k,J2,wt,s.a,s.b,s.c,s.d,s.e,s.f,j,v.a,v.b,v.c,v.d,v.e,v.f,r.1,r.2] f (zW (some ⟨bW,oW,none⟩,W2,W3) (some ⟨bJ,oJ,none⟩,J2,J3) (some ⟨bV,oV,none⟩,V2,V3) B)) ⟨[nc],[(n4,0),(n6,0),(n7,0),(bJ,oJ+k*1),(bV,oV+k*7),(bW,oW+j.toNat*2)]⟩ AO ui E5 a w:=by
  refine Pre.Kw hI.df (by rw [hI.sz]; rfl) ?_ ?_ ?_ (by simp) ?_ ?_ (EM fun _=>rfl) (fun c hc=>by cases hc)
  ·simp only [AO,wo]
   exact ⟨.inl rfl,.inl rfl,.inr ⟨_,rfl,hI.s2⟩,.inl rfl,.inr ⟨_,rfl,hI.s4⟩,.inl rfl,.inr ⟨_,rfl,hI.s6⟩,.inr ⟨_,rfl,hI.s7⟩,.inl rfl,.inl rfl,.inl rfl,.inl rfl,.inl rfl,.inl rfl,.inr ⟨_,rfl,hI.Rh⟩,.inr ⟨_,rfl,hI.s15⟩,.inr ⟨_,rfl,hI.s16⟩,.inl rfl,.inl rfl,.inl rfl,.inl rfl,.inl rfl,.inl rfl,.inl rfl,.inl rfl,.inl rfl,.inl rfl,.inl rfl,.inl rfl,.inl rfl,.inl rfl,.inl rfl,.inl rfl,.inl rfl,.inl rfl,trivial⟩
  ·simp only [ui,sw]
   exact ⟨⟨⟨trivial,trivial,trivial,rfl⟩,_,rfl,hI.fl.flag⟩,trivial⟩
  ·simp only [E5,wy]
   exact ⟨yn rfl hI.b4,yn rfl hI.b6,yn rfl hI.b7,Ka (r:=[num j]) rfl (aO _) (fun q u h=>(cellw _ _ lJ nJ).trans (cJ q u h)),Ka (r:=v.cs nc) rfl (aO _) (fun q u h=>(cellw _ _ lV nV).trans (cV q u h)),Ka (r:=[num r.1,num r.2]) rfl (aO _) (fun q u h=>(cellw _ _ lW nW).trans (cW q u h)),trivial⟩
  ·intro g hg x hx
   simp at hg hx
   subst hg
   rcases hx with rfl | rfl | rfl | rfl | rfl | rfl<;>simp<;>omega
  ·simp [E5,D8]
   omega
 have hblk:∀b o u,b<w0.heap.size→b≠nc→w0.cell? ⟨b,o,none⟩=some u→∃cs t f,w.heap[b]?=some (.cells cs t f):=fun b o u h1 h2 h3=>by
  obtain ⟨cs,t,f,h,_⟩:=tZ ((cellw b o h1 h2).trans h3)
  exact ⟨cs,t,f,h⟩
 refine O6 (ws:=Mr) (ls:=[]) (Ur (r:=true) (decide_eq_true (by show (k:Int)<(J2:Int); omega))) (ac8 _ _ _) hpre ?_ fun a' w' hp=>hQ a' w' ?_
 ·refine ⟨fun e he=>?_,(fun e he=>by cases he),fun e he=>by cases he⟩
  simp only [kZ,Mr,ag,ae,or_false] at he
  rcases he with rfl | rfl | rfl
  ·exact ⟨⟨bJ,oJ,none⟩,J2,J3,(k:Int),2,rfl,rfl,rfl,by omega,by omega,rfl,by simp [iC]⟩
  ·exact ⟨⟨bV,oV,none⟩,V2,V3,(k:Int),2,rfl,rfl,rfl,by omega,by omega,rfl,by simp [iC]⟩
  ·exact ⟨⟨bW,oW,none⟩,W2,W3,j,2,rfl,rfl,rfl,hj0,hjW,rfl,by simp [iC]⟩
 ·have e16:bg.wrap ((k:Int)+1)=((k+1:Nat):Int):=by rw [dz _ (by omega)]; omega
  refine ⟨hp.df,hp.lu,hp.fr 2 _ _ rfl rfl,hp.fr 4 _ _ rfl rfl,hp.fr 6 _ _ rfl rfl,hp.fr 7 _ _ rfl rfl,hp.fr 14 _ _ rfl rfl,hp.fr 15 _ _ rfl rfl,?_,wX hp (i:=0) rfl rfl rfl,wX hp (i:=1) rfl rfl rfl,wX hp (i:=2) rfl rfl (by kernel_rfl),?_⟩
  ·rw [←e16]; exact hp.fr 16 _ _ rfl rfl
  ·refine JQ hI.fl hp.os hp.tape hp.output hp.size (fun g hg hne=>KS hp (aC hg hI.fl.size) (by simpa using hne) fun i s' hi=>?_) (hp.gl 0 nc _ _ rfl rfl rfl (by kernel_rfl))
   match i,hi with
   | 0,hi=>simp at hi; omega
   | 1,hi=>simp at hi; omega
   | 2,hi=>simp at hi; omega
   | 3,hi=>simp at hi; obtain ⟨rfl,_⟩:=hi; exact ⟨⟨_,rfl,rfl,by decide⟩,hblk _ _ _ lJ nJ (cJ 0 _ rfl)⟩
   | 4,hi=>simp at hi; obtain ⟨rfl,_⟩:=hi; exact ⟨⟨_,rfl,rfl,by decide⟩,hblk _ _ _ lV nV (cV 0 _ rfl)⟩
   | 5,hi=>simp at hi; obtain ⟨rfl,_⟩:=hi; exact ⟨⟨_,rfl,rfl,by decide⟩,hblk _ _ _ lW nW (cW 0 _ rfl)⟩
   | _+6,hi=>simp at hi
theorem X6 (w0:World) (nc n4 n6 n7:Nat) (W J V:Option Addr×Nat×Nat) (B:List (Option Addr×Nat×Nat)) (wt:Int) (k:Nat) (s:V6) (f:Bool) (a:Act) (w:World) (hI:FI w0 nc n4 n6 n7 W J V wt k s f a w)
  (hnc:nc<w0.heap.size) (h4:w0.heap.size≤n4) (h6:w0.heap.size≤n6) (h7:w0.heap.size≤n7) (h46:n4≠n6) (h47:n4≠n7) (h67:n6≠n7) (hk:¬k<J.2.1) (Q:Exit→Act→World→Prop)
  (hQ:∀a' w',FI w0 nc n4 n6 n7 W J V wt k s f a' w'→Q (.exit 0) a' w') :
  (iW (dN aff)).wp aa Q a w:=by
 have hpre:Pre (kR [k,J.2.1,wt,s.a,s.b,s.c,s.d,s.e,s.f] f (zW W J V B)) ⟨[nc],[(n4,0),(n6,0),(n7,0)]⟩ AO ui E8 a w:=by
  refine Pre.Kw hI.df (by rw [hI.sz]; rfl) ?_ ?_ ?_ (by simp) ?_ ?_ (EM fun _=>rfl) (fun c hc=>by cases hc)
  ·simp only [AO,wo]
   exact ⟨.inl rfl,.inl rfl,.inr ⟨_,rfl,hI.s2⟩,.inl rfl,.inr ⟨_,rfl,hI.s4⟩,.inl rfl,.inr ⟨_,rfl,hI.s6⟩,.inr ⟨_,rfl,hI.s7⟩,.inl rfl,.inl rfl,.inl rfl,.inl rfl,.inl rfl,.inl rfl,.inr ⟨_,rfl,hI.Rh⟩,.inr ⟨_,rfl,hI.s15⟩,.inr ⟨_,rfl,hI.s16⟩,.inl rfl,.inl rfl,.inl rfl,.inl rfl,.inl rfl,.inl rfl,.inl rfl,.inl rfl,.inl rfl,.inl rfl,.inl rfl,.inl rfl,.inl rfl,.inl rfl,.inl rfl,.inl rfl,.inl rfl,.inl rfl,trivial⟩
  ·simp only [ui,sw]
   exact ⟨⟨⟨trivial,trivial,trivial,rfl⟩,_,rfl,hI.fl.flag⟩,trivial⟩
  ·simp only [E8,wy]
   exact ⟨yn rfl hI.b4,yn rfl hI.b6,yn rfl hI.b7,trivial⟩
  ·intro g hg x hx
   simp at hg hx
   subst hg
   rcases hx with rfl | rfl | rfl<;>simp<;>omega
  ·simp [E8,D8]
   omega
 refine O6 (ws:=[]) (ls:=[]) (Ur (r:=false) (decide_eq_false (by show ¬(k:Int)<(J.2.1:Int); omega))) (ac9 _ _ _) hpre ⟨(fun e he=>by cases he),(fun e he=>by cases he),(fun e he=>by cases he)⟩ fun a' w' hp=>hQ a' w' ?_
 refine ⟨hp.df,hp.lu,hp.fr 2 _ _ rfl rfl,hp.fr 4 _ _ rfl rfl,hp.fr 6 _ _ rfl rfl,hp.fr 7 _ _ rfl rfl,hp.fr 14 _ _ rfl rfl,hp.fr 15 _ _ rfl rfl,hp.fr 16 _ _ rfl rfl,wX hp (i:=0) rfl rfl rfl,wX hp (i:=1) rfl rfl rfl,wX hp (i:=2) rfl rfl rfl,?_⟩
 refine JQ hI.fl hp.os hp.tape hp.output hp.size (fun g hg hne=>KS hp (aC hg hI.fl.size) (by simpa using hne) fun i s' hi=>?_) (hp.gl 0 nc _ _ rfl rfl rfl rfl)
 match i,hi with
 | 0,hi=>simp at hi; omega
 | 1,hi=>simp at hi; omega
 | 2,hi=>simp at hi; omega
 | _+3,hi=>simp at hi
def Hm (w0:World) (nc:Nat) (s:V6) (f:Bool) (e:Ending) (w':World):Prop:=e=.returned (s.val nc)∧jL w0 nc 88 f w'
theorem X7 (w0:World) (nc n4 n6 n7:Nat) (W J V:Option Addr×Nat×Nat) (wt:Int) (k:Nat) (s:V6) (f:Bool) (a:Act) (w:World) (hI:FI w0 nc n4 n6 n7 W J V wt k s f a w)
  (hnc:nc<w0.heap.size) (h6:w0.heap.size≤n6) (h7:w0.heap.size≤n7) (h67:n6≠n7) :
  (sR 3 (dN aff)).wp aa (bodyPost aa aff (Hm w0 nc s f)) a w:=by
 have hpre:Pre (kR [k,J.2.1,wt,s.a,s.b,s.c,s.d,s.e,s.f] f (zW W J V [])) ⟨[nc],[(n6,0),(n7,0)]⟩ JO ui E9 a w:=by
  refine Pre.Kw hI.df (by rw [hI.sz]; rfl) ?_ ?_ ?_ (by simp) ?_ ?_ (EM fun _=>rfl) (fun c hc=>by cases hc)
  ·simp only [JO,wo]
   exact ⟨.inl rfl,.inl rfl,.inl rfl,.inl rfl,.inl rfl,.inl rfl,.inr ⟨_,rfl,hI.s6⟩,.inr ⟨_,rfl,hI.s7⟩,.inl rfl,.inl rfl,.inl rfl,.inl rfl,.inl rfl,.inl rfl,.inl rfl,.inl rfl,.inl rfl,.inl rfl,.inl rfl,.inl rfl,.inl rfl,.inl rfl,.inl rfl,.inl rfl,.inl rfl,.inl rfl,.inl rfl,.inl rfl,.inl rfl,.inl rfl,.inl rfl,.inl rfl,.inl rfl,.inl rfl,.inl rfl,trivial⟩
  ·simp only [ui,sw]
   exact ⟨⟨⟨trivial,trivial,trivial,rfl⟩,_,rfl,hI.fl.flag⟩,trivial⟩
  ·simp only [E9,wy]
   exact ⟨yn rfl hI.b6,yn rfl hI.b7,trivial⟩
  ·intro g hg x hx
   simp at hg hx
   subst hg
   rcases hx with rfl | rfl<;>simp<;>omega
  ·simp [E9,D8]
   omega
 refine acW (ws:=[]) (ls:=[]) (fB _) (ada _ _ _) hpre aaa (vs:=[.agg ⟨[.pointer (some ⟨0,0,none⟩),var 3,var 4,var 5,var 6,var 7,var 8]⟩]) (by kernel_rfl) (u:=s.val nc) rfl fun a' w' hp=>⟨rfl,?_⟩
 refine JQ hI.fl hp.os hp.tape hp.output hp.size (fun g hg hne=>KS hp (aC hg hI.fl.size) (by simpa using hne) fun i s' hi=>?_) (hp.gl 0 nc _ _ rfl rfl rfl rfl)
 match i,hi with
 | 0,hi=>simp at hi; omega
 | 1,hi=>simp at hi; omega
 | _+2,hi=>simp at hi
theorem getD_some {α:Type} {l:List α} {i:Nat} {x d:α} (h:l[i]?=some x):l.getD i d=x:=by simp [amI,h]
theorem agI (nc:Nat) (f:Bool) (W J V B3 B4 B5 B6:Option Addr×Nat×Nat) (wt:Int) (w:World) (rs:List (Int×Int)) (ks:List Int) (vs:List V6)
  (hJn:J.2.1=ks.length) (hVn:V.2.1=vs.length) (hWn:W.2.1=rs.length) (hvl:vs.length=ks.length) (h100:ks.length≤1000)
  (hJ:Sl w J.1 1 (fF ks)) (hV:Sl w V.1 7 (vs.map (V6.cs nc))) (hW:Sl w W.1 2 (rH rs)) (hks:∀(i:Nat) (k:Int),ks[i]?=some k→0≤k∧k<rs.length)
  (hfl:w.heap[nc]?=some (.cells #[.bool f] 88 (0,0))) (aJ:∀a,J.1=some a→a.block≠nc) (aV:∀a,V.1=some a→a.block≠nc) (aW:∀a,W.1=some a→a.block≠nc) :
  Calls aa 42 #[.agg ⟨[.pointer (some ⟨nc,0,none⟩),dJ B3,dJ B4,dJ B5,dJ B6]⟩,.agg ⟨[num wt,dJ J,dJ V]⟩,dJ W] w (Hm w nc (mM rs ks vs f ks.length).1 (mM rs ks vs f ks.length).2):=by
 have hnc:nc<w.heap.size:=(aB.1 hfl).1
 refine calls_of_wp Tryz.func42 (c:=dN aff) (by kernel_rfl) ?_
 have hpre:Pre (kR [0,J.2.1,wt] f (zW W J V [B3,B4,B5,B6])) ⟨[nc],[]⟩ O4 ui [] { tmps:=#[.agg ⟨[.pointer (some ⟨nc,0,none⟩),dJ B3,dJ B4,dJ B5,dJ B6]⟩,.agg ⟨[num wt,dJ J,dJ V]⟩,dJ W]++aji (aff.ntmps - 3) undef,defers:=[] } w:=by
  refine acw (xs:=[.agg ⟨[.pointer (some ⟨0,0,none⟩),dM 3,dM 4,dM 5,dM 6]⟩,.agg ⟨[var 2,dM 1,dM 2]⟩,dM 0]) (ys:=[.agg ⟨[.pointer (some ⟨nc,0,none⟩),dJ B3,dJ B4,dJ B5,dJ B6]⟩,.agg ⟨[num wt,dJ J,dJ V]⟩,dJ W]) (by kernel_rfl) (by kernel_rfl) ?_ (by simp) rfl (EM fun _=>rfl) (fun c hc=>by cases hc)
  simp only [ui,sw]
  exact ⟨⟨⟨trivial,trivial,trivial,rfl⟩,_,rfl,hfl⟩,trivial⟩
 rw [WR]
 have hE:qb (kZ [0,J.2.1,wt] f (zW W J V [B3,B4,B5,B6]) [] [] [(1,var 1)]) (iC (kR [0,J.2.1,wt] f (zW W J V [B3,B4,B5,B6])) ⟨[nc],[]⟩ w):=by
  refine ⟨rfl,(fun e he=>by cases he),(fun e he=>?_),fun e he=>by cases he⟩
  simp only [kZ,ag,ae,or_false] at he
  subst he
  exact ⟨2,rfl⟩
 refine LM (fB _) hE (adb _ _ _) hpre.GH fun m1 a1 w1 h1=>?_
 refine LM (fB _) hE (ade _ _ _) h1 fun m2 a2 w2 h2=>?_
 refine wp_seq ?_
 refine LM (fB _) hE (adf _ _ _) h2 fun m3 a3 w3 h3=>?_
 clear h1 h2
 obtain ⟨g3,p3,q3⟩:=GL h3 (t:=3) (i:=0) (o:=0) rfl
 obtain ⟨g4,p4,q4⟩:=GL h3 (t:=4) (i:=1) (o:=0) rfl
 obtain ⟨g6,p6,q6⟩:=GL h3 (t:=6) (i:=2) (o:=0) rfl
 obtain ⟨g7,p7,q7⟩:=GL h3 (t:=7) (i:=3) (o:=0) rfl
 have z3:=FL h3 p3 rfl rfl rfl
 have z4:=FL h3 p4 rfl rfl rfl
 have z6:=FL h3 p6 rfl rfl rfl
 have z7:=FL h3 p7 rfl rfl rfl
 have n46:g4≠g6:=own_ne h3 p4 p6 rfl rfl rfl (by decide)
 have n47:g4≠g7:=own_ne h3 p4 p7 rfl rfl rfl (by decide)
 have n67:g6≠g7:=own_ne h3 p6 p7 rfl rfl rfl (by decide)
 have l4:=(Kn h3 p4 rfl).1
 have l6:=(Kn h3 p6 rfl).1
 have l7:=(Kn h3 p7 rfl).1
 have hA0:=(vF (kR [0,J.2.1,wt] f (zW W J V [B3,B4,B5,B6])) ⟨[nc],[]⟩ w).mono h3.ext.le
 have hA:At ⟨[nc],[(g3,0),(g4,0),(g6,0),(g7,0)]⟩ m3:=by
  refine ⟨hA0.gb,hA0.lo,fun i x hi=>?_⟩
  match i,hi with
  | 0,hi=>simp at hi; subst hi; exact ⟨p3,z3⟩
  | 1,hi=>simp at hi; subst hi; exact ⟨p4,z4⟩
  | 2,hi=>simp at hi; subst hi; exact ⟨p6,z6⟩
  | 3,hi=>simp at hi; subst hi; exact ⟨p7,z7⟩
  | _+4,hi=>simp at hi
 have hp:=Bt hpre h3 hA (fun i x hi=>by simp at hi)
 have hI0:FI w nc g4 g6 g7 W J V wt 0 (mM rs ks vs f 0).1 (mM rs ks vs f 0).2 a3 w3:=by
  refine ⟨hp.df,hp.lu,hp.fr 2 _ _ rfl rfl,hp.fr 4 _ _ rfl rfl,hp.fr 6 _ _ rfl rfl,hp.fr 7 _ _ rfl rfl,hp.fr 14 _ _ rfl rfl,hp.fr 15 _ _ rfl rfl,hp.fr 16 _ _ rfl rfl,wX hp (i:=1) rfl rfl rfl,wX hp (i:=2) rfl rfl rfl,wX hp (i:=3) rfl rfl rfl,?_⟩
  exact ⟨hp.os,hp.tape,hp.output,hp.size,fun g hg hne=>hp.frame g hg (by simpa using hne) (by simp),hp.gl 0 nc _ _ rfl rfl rfl rfl⟩
 clear hp hA hA0 h3 hpre hE p3 p4 p6 p7 q3 q4 q6 q7 z3 z4 z6 z7
 refine wp_block ?_
 refine wp_loop (fun a w'=>∃k,k≤ks.length∧FI w nc g4 g6 g7 W J V wt k (mM rs ks vs f k).1 (mM rs ks vs f k).2 a w') (fun a _=>ks.length - (intOf (a.tmps.getD 16 undef)).toNat) ⟨0,Nat.zero_le _,hI0⟩ ?_
 clear hI0
 rintro a w' ⟨k,hk,hI⟩
 have hm:(intOf (a.tmps.getD 16 undef)).toNat=k:=by
  rw [bI,hI.s16]; simp [intOf]
 by_cases hlt:k<ks.length
 ·obtain ⟨j,hj⟩:∃j,ks[k]?=some j:=⟨_,ah hlt⟩
  obtain ⟨v,hv⟩:∃v,vs[k]?=some v:=⟨_,ah (by omega)⟩
  obtain ⟨hj0,hj1⟩:=hks k j hj
  obtain ⟨r,hr⟩:∃r,rs[j.toNat]?=some r:=⟨_,ah (by omega)⟩
  obtain ⟨bJ,oJ,eJ,lJ,cJ⟩:=o9 hJ (yz hj)
  obtain ⟨bV,oV,eV,lV,cV⟩:=o9 hV (show (vs.map (V6.cs nc))[k]?=some (v.cs nc) by simp [hv])
  obtain ⟨bW,oW,eW,lW,cW⟩:=o9 hW (K6 hr)
  refine X8 w nc g4 g6 g7 W J V [] wt k _ _ a w' hI hnc l4 l6 l7 n46 n47 n67 (by omega) (by omega) j v r bJ oJ bV oV bW oW eJ eV eW lJ lV lW (aJ _ eJ) (aV _ eV) (aW _ eW) (by omega) hj0 (by omega) cJ cV cW _ fun a' w2 hI'=>?_
  refine ⟨⟨k+1,by omega,?_⟩,?_⟩
  ·have e:mM rs ks vs f (k+1)=(plusV (mM rs ks vs f k).1 (iK v r),uZ (tJ (mM rs ks vs f k).2 v r) (mM rs ks vs f k).1 (iK v r)):=by
    simp only [mM,JP,getD_some hj,getD_some hv,getD_some hr]
   rw [e]
   exact hI'
  ·have hm':(intOf (a'.tmps.getD 16 undef)).toNat=k+1:=by
    rw [bI,hI'.s16]; simp [intOf]
   simp only [hm,hm']
   omega
 ·have hkn:k=ks.length:=by omega
  subst hkn
  refine X6 w nc g4 g6 g7 W J V [] wt _ _ _ a w' hI hnc l4 l6 l7 n46 n47 n67 (by omega) _ fun a' w2 hI'=>?_
  exact X7 w nc g4 g6 g7 W J V wt _ _ _ a' w2 hI' hnc l6 l7 n67
end Go.Proofs
end
section
namespace Go.Proofs
open Go.Sm Go.RowKit En
def wN (Z:World×List Nat) (g:Nat):Option (Array Value×TypeId×(Nat×Nat)):=if g<Z.1.heap.size∧g∉Z.2 then (match Z.1.heap[g]? with
 | some (.cells cs t f)=>some (cs,t,f)
 | _=>none) else none
variable {Z:World×List Nat} {g:Nat}
theorem JS {c:Array Value×TypeId×(Nat×Nat)} (h:wN Z g=some c):(g<Z.1.heap.size∧g∉Z.2)∧Z.1.heap[g]?=some (.cells c.1 c.2.1 c.2.2):=by
 unfold wN at h
 split at h
 ·rename_i hg
  split at h
  ·rename_i cs t f e; injection h with h; subst h; exact ⟨hg,e⟩
  ·cases h
 ·cases h
theorem JU {cs:Array Value} {t:TypeId} {f:Nat×Nat} (h1:g<Z.1.heap.size) (h2:g∉Z.2) (h:Z.1.heap[g]?=some (.cells cs t f)):wN Z g=some (cs,t,f):=by
 unfold wN; rw [if_pos ⟨h1,h2⟩,h]
variable {E:Env} {w0 w:World} {ex:List Nat} {gs ls:List gQ}
theorem uR (hE:E.fz=wN (w0,ex)) {us:List (Option Value)} {ws:List jC} {fr:List Value} {H lo wb:Hp} (hk:dO w0 ex w) (ho:Own w0 ex gs ls) (hi:In E us gs ls ws fr H lo wb):qc E (eH gs ls ws) (lo++wb) w:=by
 intro g c hc
 rw [hE] at hc
 obtain ⟨⟨h1,h2⟩,h3⟩:=JS hc
 simp only at h1 h2 h3
 have hno:∀x∈gs++ls,x.1≠g:=fun x hx e=>by
  rcases ho x hx with r | r
  ·exact h2 (e▸r)
  ·omega
 have hLl:lo.length=ls.length:=by simpa using congrArg ae1 hi.hL
 refine ⟨⟨(hk.frame g h1 h2).trans h3,fun hm=>?_⟩,fun i s b e hb=>?_⟩
 ·obtain ⟨x,x1,x2⟩:=aeZ.1 (show g∈gs.map (·.1) from hm)
  exact hno x (aeY _ x1) x2
 ·by_cases hlt:i<ls.length
  ·exfalso
   simp only [eH] at e
   rw [aH (by simpa using hlt)] at e
   simp only [bY,aR,aP] at e
   obtain ⟨x,e1,e2,_⟩:=e
   exact hno x (dm _ (aN e1)) e2
  ·rw [bu (by omega)] at hb
   exact Ac (bn.1 hi.wa b (aN hb))
theorem Yd (hE:E.fz=wN (w0,ex)) (h:za E w) {b o:Nat} {v:Value} (h1:b<w0.heap.size) (h2:b∉ex) (hc:w0.cell? ⟨b,o,none⟩=some v):w.cell? ⟨b,o,none⟩=some v:=by
 obtain ⟨cs,t,f,k1,k2⟩:=tZ hc
 have:=h b (cs,t,f) (by rw [hE]; exact JU h1 h2 k1)
 simp [bS,this,k2]
def gB (Z:World×List Nat) (l:List Int) (bs:List Bool) (sl:List (Option Addr×Nat×Nat)):Env:=⟨fun i=>l.getD i 0,fun i=>bs.getD i false,FN,FB,fun i=>sl.getD i (none,0,0),wN Z,[],Z.2.head?⟩
def fG (Z:World×List Nat) (l:List Int) (bs:List Bool) (sl:List (Option Addr×Nat×Nat)) (g:List (Value×Value)) (ws:List (Nat×Value×Nat×Nat)) (ls:List (Nat×Value)) (sb:List (Nat×Value×Nat)):Go.Sm.Xt:=⟨Tryz.xt,gB Z l bs sl,g,[23],ws,ls,[],sb⟩
theorem tL (Z:World×List Nat) (l:List Int) (bs:List Bool) (sl:List (Option Addr×Nat×Nat)) (g:List (Value×Value)) (ws:List (Nat×Value×Nat×Nat)) (ls:List (Nat×Value)) (sb:List (Nat×Value×Nat)) (h:Sat (gB Z l bs sl) g):Go.Sm.kD aa (fG Z l bs sl g ws ls sb):=⟨CK,h,Cy _ _ _⟩
def Bn (P:Program) (esc:FuncId→Nat→Bool) (Z:World×List Nat) (l:List Int) (bs:List Bool) (sl:List (Option Addr×Nat×Nat)) (g:List (Value×Value)) (T:List pE) (K:List pq) (RT:List qG):ig:=kQ P (fG Z l bs sl g [] [] []) esc 200 (Bw 88 RT (Av 88 K (BK 88 T (ym 89 (vZ (fG Z l bs sl g [] [] []) vP))))) 12
theorem QD (Z:World×List Nat) (l:List Int) (bs:List Bool) (sl:List (Option Addr×Nat×Nat)):∀e∈vP,fo aa (gB Z l bs sl) e:=fun e h=>Cw (E:=eO []) (E':=gB Z l bs sl) rfl rfl (FE [] e h)
theorem yw (Z:World×List Nat) (l:List Int) (bs:List Bool) (sl:List (Option Addr×Nat×Nat)) (g:List (Value×Value)) (T:List pE) (K:List pq) (RT:List qG) (h:Sat (gB Z l bs sl) g) (hT:∀t∈T,zf aa (gB Z l bs sl) 88 t) (hK:∀t∈K,Af aa (gB Z l bs sl) 88 t) (hR:∀t∈RT,Cg aa (gB Z l bs sl) 88 t):iY aa (gB Z l bs sl) (Bn aa Tryz.esc Z l bs sl g T K RT)∧jc (Bn aa Tryz.esc Z l bs sl g T K RT) :=
 zl (X:=fG Z l bs sl g [] [] []) Tryz.mixed Tryz.ky (tL Z l bs sl g [] [] [] h) (Ra hR (Nj hK (UH hT (ES En.AY (BH (X:=fG Z l bs sl g [] [] []) h _ (QD Z l bs sl)))))) (Rb (Nk (UI (ET (BI _ _))))) ⟨rfl,(fun i b e=>by simp [fG] at e),fun _ _ _=>⟨(fun e he=>by cases he),(fun e he=>by cases he),(fun e he=>by cases he)⟩⟩ 12
variable {P:Program}
theorem gG:∀t∈([]:List pE),zf P E 88 t:=fun t ht=>by cases ht
theorem gD:∀t∈([]:List pq),Af P E 88 t:=fun t ht=>by cases ht
theorem fT:∀t∈([]:List qG),Cg P E 88 t:=fun t ht=>by cases ht
theorem il (w0:World) (ex:List Nat):jR w0 ex []:=fun x hx=>by cases hx
theorem uP {nc:Nat} {f:Bool} (h:dO w0 [nc] w) (k:w.heap[nc]?=some (.cells #[.bool f] 88 (0,0))):jL w0 nc 88 f w:=⟨h.os,h.tape,h.output,h.size,fun g h1 h2=>h.frame g h1 (by simpa using h2),k⟩
section
variable {l:List Int} {bs:List Bool} {sl:List (Option Addr×Nat×Nat)} {g:List (Value×Value)} {wt:List (Nat×Value×Nat×Nat)} {lt:List (Nat×Value)} {sb:List (Nat×Value×Nat)} {T:List pE} {K:List pq} {RT:List qG} {Q:Exit→Act→World→Prop} {D c:Code} {fr:List Value} {H lo wb:Hp} {a:Act} {w w0:World} {ex:List Nat} {ws:List jC}
theorem iI {m:Mp}:kv (fG Z l bs sl g [] [] []) m:=⟨(fun e he=>by cases he),(fun e he=>by cases he),(fun e he=>by cases he)⟩
structure Side (l:List Int) (bs:List Bool) (sl:List (Option Addr×Nat×Nat)) (g:List (Value×Value)) (wt:List (Nat×Value×Nat×Nat)) (lt:List (Nat×Value)) (sb:List (Nat×Value×Nat)) (T:List pE) (K:List pq) (RT:List qG) (gs ls:List gQ) (ws:List jC) (w0:World) (ex:List Nat):Prop where
 sat:Sat (gB (w0,ex) l bs sl) g
 tab:∀t∈T,zf aa (gB (w0,ex) l bs sl) 88 t
 vK:∀t∈K,Af aa (gB (w0,ex) l bs sl) 88 t
 row:∀t∈RT,Cg aa (gB (w0,ex) l bs sl) 88 t
 wins:jR w0 ex ws
 own:Own w0 ex gs ls
 f0:∀c,ex.head?=some c→(gs.map (·.1))[0]?=some c
 win:∀w,kv (fG (w0,ex) l bs sl g wt lt sb) (iC (gB (w0,ex) l bs sl) (eH gs ls ws) w)
variable {us us':List (Option Value)} {gs gs' ls ls':List gQ}
theorem uf (l:List Int) (bs:List Bool) (sl:List (Option Addr×Nat×Nat)) (f:Nat) (cs:List Code) (gi li:List Nat)
  (hchk:(qK aa (fG (w0,ex) l bs sl g wt lt sb) (Bn aa Tryz.esc (w0,ex) l bs sl g T K RT) (Tryz.esc f) 200 cs ⟨fr,H,lo++wb,[]⟩).map (pI (gB (w0,ex) l bs sl) (eH gs ls ws) us' gi li ls.length ws.length)=some (goal us' gs' ls' ws.length))
  (hi:nE (gB (w0,ex) l bs sl) (eH gs ls ws) fr H lo wb=((us,true),(gs.map iT,true),(ls.map iT,true),(ws.map (fun x=>some x.2.2),true))) (nd:(gs'.map (·.1)++ls'.map (·.1)).Nodup)
  (hS:Side l bs sl g wt lt sb T K RT gs ls ws w0 ex) (h:dP us gs ls a w) (hk:dO w0 ex w)
  (hQ:∀a' w',dP us' gs' ls' a' w'→dO w0 ex w'→D.wp aa Q a' w'):(o7 cs D).wp aa Q a w :=
 M7 (X:=fG (w0,ex) l bs sl g wt lt sb) Tryz.mixed Tryz.ky (tL _ _ _ _ _ _ _ _ hS.sat) (yw (w0,ex) l bs sl g T K RT hS.sat hS.tab hS.vK hS.row).1 (yw (w0,ex) l bs sl g T K RT hS.sat hS.tab hS.vK hS.row).2 cs gi li hchk hi nd h hk hS.wins hS.own (uR rfl hk hS.own (oH hi)) (fun c hc=>hS.f0 c hc) (hS.win w) hQ
theorem r9 (l:List Int) (bs:List Bool) (sl:List (Option Addr×Nat×Nat)) (f:Nat) (x:Ex) (gi li:List Nat)
  (hchk:(exec aa (fG (w0,ex) l bs sl g wt lt sb) (Bn aa Tryz.esc (w0,ex) l bs sl g T K RT) (Tryz.esc f) 200 c ⟨fr,H,lo++wb,[]⟩).map (fun r=>(r.1,pI (gB (w0,ex) l bs sl) (eH gs ls ws) us' gi li ls.length ws.length r.2))=some (x,goal us' gs' ls' ws.length))
  (hi:nE (gB (w0,ex) l bs sl) (eH gs ls ws) fr H lo wb=((us,true),(gs.map iT,true),(ls.map iT,true),(ws.map (fun x=>some x.2.2),true))) (nd:(gs'.map (·.1)++ls'.map (·.1)).Nodup)
  (hS:Side l bs sl g wt lt sb T K RT gs ls ws w0 ex) (h:dP us gs ls a w) (hk:dO w0 ex w)
  (hQ:∀a' w',dP us' gs' ls' a' w'→dO w0 ex w'→Q (vS x) a' w'):c.wp aa Q a w :=
 Ng (X:=fG (w0,ex) l bs sl g wt lt sb) Tryz.mixed Tryz.ky (tL _ _ _ _ _ _ _ _ hS.sat) (yw (w0,ex) l bs sl g T K RT hS.sat hS.tab hS.vK hS.row).1 (yw (w0,ex) l bs sl g T K RT hS.sat hS.tab hS.vK hS.row).2 x gi li hchk hi nd h hk hS.wins hS.own (uR rfl hk hS.own (oH hi)) (fun c hc=>hS.f0 c hc) (hS.win w) hQ
theorem qQ (l:List Int) (bs:List Bool) (sl:List (Option Addr×Nat×Nat)) (f:Nat) {fn:Func} {R:Ending→World→Prop} {u:Value} (gi li:List Nat)
  (hchk:(exec aa (fG (w0,ex) l bs sl g wt lt sb) (Bn aa Tryz.esc (w0,ex) l bs sl g T K RT) (Tryz.esc f) 200 c ⟨fr,H,lo++wb,[]⟩).map (fun r=>(r.1,((qP aa r.2 fn.results.toList).bind fun vs=>fP (gB (w0,ex) l bs sl) (eH gs ls ws) 5 (kW vs)),pI (gB (w0,ex) l bs sl) (eH gs ls ws) us' gi li ls.length ws.length r.2))=some (.ret,some u,goal us' gs' ls' ws.length))
  (hi:nE (gB (w0,ex) l bs sl) (eH gs ls ws) fr H lo wb=((us,true),(gs.map iT,true),(ls.map iT,true),(ws.map (fun x=>some x.2.2),true))) (nd:(gs'.map (·.1)++ls'.map (·.1)).Nodup)
  (hS:Side l bs sl g wt lt sb T K RT gs ls ws w0 ex) (h:dP us gs ls a w) (hk:dO w0 ex w)
  (hQ:∀a' w',dP us' gs' ls' a' w'→dO w0 ex w'→R (.returned u) w'):c.wp aa (bodyPost aa fn R) a w :=
 Q8 (X:=fG (w0,ex) l bs sl g wt lt sb) Tryz.mixed Tryz.ky (tL _ _ _ _ _ _ _ _ hS.sat) (yw (w0,ex) l bs sl g T K RT hS.sat hS.tab hS.vK hS.row).1 (yw (w0,ex) l bs sl g T K RT hS.sat hS.tab hS.vK hS.row).2 gi li hchk hi nd h hk hS.wins hS.own (uR rfl hk hS.own (oH hi)) (fun c hc=>hS.f0 c hc) (hS.win w) hQ
end
section
variable {g:List (Value×Value)} {wt:List (Nat×Value×Nat×Nat)} {lt:List (Nat×Value)} {sb:List (Nat×Value×Nat)} {T:List pE} {K:List pq} {RT:List qG} {Q:Exit→Act→World→Prop} {D:Code} {fr:List Value} {H lo wb:Hp} {a:Act} {w w0:World} {ex:List Nat} {ws:List jC} {us:List (Option Value)} {us':List Nat→List Nat→List (Option Value)} {gs ls:List gQ} {gs' ls':List Nat→List Nat→List gQ}
theorem jZ (l:List Int) (bs:List Bool) (sl:List (Option Addr×Nat×Nat)) (f:Nat) (cs:List Code) (gi li tg tl:List Nat)
  (hchk:∀ng nl:List Nat,ng.length=tg.length→nl.length=tl.length→(qK aa (fG (w0,ex) l bs sl g wt lt sb) (Bn aa Tryz.esc (w0,ex) l bs sl g T K RT) (Tryz.esc f) 200 cs ⟨fr,H,lo++wb,[]⟩).map (uj (gB (w0,ex) l bs sl) (oZ gs ls ws ng nl) (us' ng nl) gi li tg tl ls.length ws.length H.length (lo++wb).length)=some (goal (us' ng nl) (gs' ng nl) (ls' ng nl) ws.length,(true,true),tg.map (fun _=>true),tl.map (fun _=>true),H.map (fun _=>true)))
  (hi:nE (gB (w0,ex) l bs sl) (eH gs ls ws) fr H lo wb=((us,true),(gs.map iT,true),(ls.map iT,true),(ws.map (fun x=>some x.2.2),true)))
  (nd:∀ng nl:List Nat,ng.length=tg.length→nl.length=tl.length→(gs.map (·.1)++ls.map (·.1)++ng++nl).Nodup→((gs' ng nl).map (·.1)++(ls' ng nl).map (·.1)).Nodup)
  (hS:Side l bs sl g wt lt sb T K RT gs ls ws w0 ex) (h:dP us gs ls a w) (hk:dO w0 ex w)
  (hQ:∀(a':Act) (w':World) (ng nl:List Nat),ng.length=tg.length→nl.length=tl.length→(gs.map (·.1)++ls.map (·.1)++ng++nl).Nodup→(∀n∈ng++nl,w.heap.size≤n∧n<w'.heap.size)→dP (us' ng nl) (gs' ng nl) (ls' ng nl) a' w'→dO w0 ex w'→D.wp aa Q a' w'):(o7 cs D).wp aa Q a w :=
 M6 (X:=fG (w0,ex) l bs sl g wt lt sb) Tryz.mixed Tryz.ky (tL _ _ _ _ _ _ _ _ hS.sat) (yw (w0,ex) l bs sl g T K RT hS.sat hS.tab hS.vK hS.row).1 (yw (w0,ex) l bs sl g T K RT hS.sat hS.tab hS.vK hS.row).2 cs gi li tg tl hchk hi nd h hk hS.wins hS.own (uR rfl hk hS.own (oH hi)) (fun c hc=>hS.f0 c hc) (hS.win w) hQ
end
def lookO (i:Nat):List (Nat×Value)→Option Value
 | []=>none
 | (j,v)::l=>bif ay i j then some v else lookO i l
def dS (n:Nat) (l:List (Nat×Value)):List (Option Value):=(dh n).map fun i=>lookO i l
def dK (n:Nat):Value:=.pointer (some ⟨n,0,none⟩)
theorem fw (h:∀g∈gs.map (·.1)++ls.map (·.1),g∈ex∨w0.heap.size≤g):Own w0 ex gs ls:=fun x hx=>by
 refine h x.1 ?_
 rcases bH.1 hx with r | r
 ·exact aeY _ (List.mem_map_of_mem r)
 ·exact dm _ (List.mem_map_of_mem r)
end Go.Proofs
end
section
namespace Go.Proofs
open Go.Sm Go.RowKit En
theorem gH {nc:Nat} {l:List Nat}:∀c,[nc].head?=some c→(nc::l)[0]?=some c:=fun _ h=>h
theorem afm {Z:World×List Nat} {l:List Int} {bs:List Bool} {sl:List (Option Addr×Nat×Nat)} {i j:Nat} {r:Bool} (h:decide (l.getD i 0<l.getD j 0)=r):Sat (gB Z l bs sl) [(mB 20 [var i,var j],.bool r)] :=
 afl ⟨300,.bool r,(show eF (gB Z l bs sl) 300 (mB 20 [var i,var j])=some (.bool (decide (l.getD i 0<l.getD j 0))) by kernel_rfl).trans (by rw [h]),rfl⟩ (fB _)
theorem BR (c:Bool) (a0 a1 a2 a3 a4 a5 a6 a7 a8 a9 a10 a11:Int):DI c a0 a1 a2 a3 a4 a5 a6 a7 a8 a9 a10 a11=(c||DI false a0 a1 a2 a3 a4 a5 a6 a7 a8 a9 a10 a11):=by
 unfold DI; cases c<;>simp
def rf (v u:V6):Bool:=DI false v.a v.b v.c v.d v.e v.f u.a u.b u.c u.d u.e u.f
def fQ (v u:V6):Int×Int:=(Mf v.a v.b v.c v.d v.e v.f u.a u.b u.c u.d u.e u.f,Mg v.a v.b v.c v.d v.e v.f u.a u.b u.c u.d u.e u.f)
def qH (x y:Int×Int):Int×Int:=(akB x.1 x.2 y.1 y.2,MU x.1 x.2 y.1 y.2)
def zg (x y:Int×Int):Bool:=!oo x.1 x.2 y.1 y.2
def jY (x:Int×Int) (n:Int):Int×Int:=(DD x.1 x.2 n,DC x.1 x.2 n)
def vg (rs:List (Int×Int)) (f:Bool) (j:Nat) (v u:V6) (n:Int):List (Int×Int)×Bool :=
 (rs.set j (qH (rs.getD j (0,0)) (jY (fQ v u) n)),((f||rf v u)||!ma (fQ v u).1 (fQ v u).2 n)||zg (rs.getD j (0,0)) (jY (fQ v u) n))
end Go.Proofs
end
section
namespace Go.Proofs
open Go.Sm Go.RowKit En
abbrev dY:=Option Addr×Nat×Nat
def tN (n:Nat):List Value:=fK 59 [(1,dM 4),(2,.pointer (some ⟨0,0,some 0⟩)),(5,.slice (some ⟨1,0,none⟩) n n),(16,dM 3),(17,var 1),(18,var 0)]
def Hu (n:Nat):List Value:=fK 59 [(1,dM 4),(2,.pointer (some ⟨0,0,some 0⟩)),(5,.slice (some ⟨1,0,none⟩) n n)]
def wm (n:Nat):List Value:=fK 59 [(1,dM 4),(2,.pointer (some ⟨0,0,some 0⟩)),(5,.slice (some ⟨1,0,none⟩) n n),(16,dM 3),(17,var 1),(18,var 0),(6,var 0),(7,.pointer (some ⟨1,0,some 0⟩)),(24,dM 5),(25,var 10),(26,var 9)]
def Hr (n:Nat):List Value:=fK 59 [(5,.slice (some ⟨1,0,none⟩) n n)]
def ku (n:Nat):Hp:=[dQ [mB 1 [.int .i64 0]] 88,dQ ((dh (2*n)).map fun i=>var (2+i)) 23]
def kN:eG:=dQ [.pointer (some ⟨0,0,none⟩),dM 0,dM 1,dM 2,dM 3] 92
def wu:eG:=dQ [var 8,dM 5,dM 6] 95
def eP (rs:List (Int×Int)):List Int:=rs.flatMap fun r=>[r.1,r.2]
def qO (rs:List (Int×Int)) (k M:Int):List Int:=[k,M]++eP rs
def zC (rs:List (Int×Int)) (k M wt i m:Int):List Int:=[k,M]++eP rs++ag6 (6 - 2*rs.length) 0++[wt,i,m]
def aj4 (rs:List (Int×Int)) (k M wt i m:Int) (v u:V6):List Int:=zC rs k M wt i m++[v.a,v.b,v.c,v.d,v.e,v.f,u.a,u.b,u.c,u.d,u.e,u.f,(jY (fQ v u) wt).1,(jY (fQ v u) wt).2,(fQ v u).1,(fQ v u).2]
def Ap (f:Bool) (v u:V6) (wt:Int):List Bool:=[f,!ma (fQ v u).1 (fQ v u).2 wt,rf v u]
def iE (i:Nat):List Value:=[var i,var (i+1),var (i+2),var (i+3),var (i+4),var (i+5)]
def tT:List pE:=[⟨80,[.agg ⟨.pointer (some ⟨0,0,none⟩)::iE 11⟩,.agg ⟨.pointer (some ⟨0,0,none⟩)::iE 17⟩],.agg ⟨[var 25,var 26]⟩,mB 1 [.int .i64 2],[]⟩,⟨79,[.pointer (some ⟨0,0,none⟩),.agg ⟨[var 25,var 26]⟩,var 8],.agg ⟨[var 23,var 24]⟩,mB 1 [.int .i64 1],[]⟩]
def vv (n:Nat) (VC:dY) (nb gl:Nat):List (Option Value):=dS 59 [(1,dJ VC),(2,dK nb),(5,.slice (some ⟨gl,0,none⟩) n n)]
def ja (n:Nat) (B3 VC:dY) (nb gl:Nat) (k M:Int):List (Option Value):=dS 59 [(1,dJ VC),(2,dK nb),(5,.slice (some ⟨gl,0,none⟩) n n),(16,dJ B3),(17,num M),(18,num k)]
def u6 (n:Nat) (B3 VC J:dY) (nb nm gl:Nat) (k M i:Int):List (Option Value):=dS 59 [(1,dJ VC),(2,dK nb),(5,.slice (some ⟨gl,0,none⟩) n n),(16,dJ B3),(17,num M),(18,num k),(6,num k),(7,dK nm),(24,dJ J),(25,num (J.2.1:Nat)),(26,num i)]
def xw (n gl:Nat):List (Option Value):=dS 59 [(5,.slice (some ⟨gl,0,none⟩) n n)]
def fO (nc gl:Nat) (f:Bool) (rs:List (Int×Int)):List gQ:=[(nc,[.bool f],88),(gl,(eP rs).map num,23)]
def gq (nb nc:Nat) (B0 B1 B2 B3:dY):gQ:=(nb,[dK nc,dJ B0,dJ B1,dJ B2,dJ B3],92)
def kg (nm:Nat) (wt:Int) (J V:dY):gQ:=(nm,[num wt,dJ J,dJ V],95)
variable {w0 w:World} {nc gl nb:Nat} {B0 B1 B2 B3 VC:dY} {k M:Int} {r0:Int×Int} {f:Bool} {a:Act} {Q:Exit→Act→World→Prop} {D:Code}
theorem abE (hown:∀g∈[nc,gl]++[nb],g∈[nc]∨w0.heap.size≤g) (hnd:([nc,gl]++[nb]).Nodup) (hlt:k<M) (h:dP (ja 1 B3 VC nb gl k M) (fO nc gl f [r0]) [gq nb nc B0 B1 B2 B3] a w) (hk:dO w0 [nc] w) (hQ:∀a' w',dP (ja 1 B3 VC nb gl k M) (fO nc gl f [r0]) [gq nb nc B0 B1 B2 B3] a' w'→dO w0 [nc] w'→D.wp aa Q a' w') :
  (o7 [dZ (iW (dN bE)),dZ (fU (iW (dN bE)))] D).wp aa Q a w :=
 uf (qO [r0] k M) [f] [B0,B1,B2,B3,VC] (g:=[(mB 20 [var 0,var 1],.bool true)]) (wt:=[]) (lt:=[]) (sb:=[]) (T:=[]) (K:=[]) (RT:=[]) (wb:=[]) (ws:=[]) (fr:=tN 1) (H:=ku 1) (lo:=[kN]) 44 _ [0,1] [0] (by kernel_rfl) (by kernel_rfl) (by exact hnd) ⟨afm (by exact decide_eq_true hlt),gG,gD,fT,il _ _,fw (by exact hown),gH,fun _=>iI⟩ h hk hQ
theorem abM (hown:∀g∈[nc,gl]++[nb],g∈[nc]∨w0.heap.size≤g) (hnd:([nc,gl]++[nb]).Nodup) (hlt:¬k<M) (h:dP (ja 1 B3 VC nb gl k M) (fO nc gl f [r0]) [gq nb nc B0 B1 B2 B3] a w) (hk:dO w0 [nc] w) (hQ:∀a' w',dP (ja 1 B3 VC nb gl k M) (fO nc gl f [r0]) [gq nb nc B0 B1 B2 B3] a' w'→dO w0 [nc] w'→Q (.exit 0) a' w') :
  (iW (dN bE)).wp aa Q a w :=
 r9 (qO [r0] k M) [f] [B0,B1,B2,B3,VC] (g:=[(mB 20 [var 0,var 1],.bool false)]) (wt:=[]) (lt:=[]) (sb:=[]) (T:=[]) (K:=[]) (RT:=[]) (wb:=[]) (ws:=[]) (fr:=tN 1) (H:=ku 1) (lo:=[kN]) 44 (.exit 0) [0,1] [0] (by kernel_rfl) (by kernel_rfl) (by exact hnd) ⟨afm (by exact decide_eq_false hlt),gG,gD,fT,il _ _,fw (by exact hown),gH,fun _=>iI⟩ h hk hQ
theorem abX (hown:∀g∈[nc,gl]++[nb],g∈[nc]∨w0.heap.size≤g) (hnd:([nc,gl]++[nb]).Nodup) (h:dP (ja 1 B3 VC nb gl k M) (fO nc gl f [r0]) [gq nb nc B0 B1 B2 B3] a w) (hk:dO w0 [nc] w) (hQ:∀a' w',dP (ja 1 B3 VC nb gl (bg.wrap (k+1)) M) (fO nc gl f [r0]) [gq nb nc B0 B1 B2 B3] a' w'→dO w0 [nc] w'→Q .normal a' w') :
  (sR 3 (iW (dN bE))).wp aa Q a w :=
 r9 (qO [r0] k M) [f] [B0,B1,B2,B3,VC] (g:=[]) (wt:=[]) (lt:=[]) (sb:=[]) (T:=[]) (K:=[]) (RT:=[]) (wb:=[]) (ws:=[]) (fr:=tN 1) (H:=ku 1) (lo:=[kN]) 44 .normal [0,1] [0] (by kernel_rfl) (by kernel_rfl) (by exact hnd) ⟨fB _,gG,gD,fT,il _ _,fw (by exact hown),gH,fun _=>iI⟩ h hk hQ
variable {J V:dY} {wt:Int} {bM oM:Nat}
theorem abI (eM:B3.1=some ⟨bM,oM,none⟩) (h0:0≤k) (h1:k<(B3.2.1:Nat)) (lM:bM<w0.heap.size) (nM:bM≠nc) (cM:∀(q:Nat) (u:Value),[num wt,dJ J,dJ V][q]?=some u→w0.cell? ⟨bM,oM+k.toNat*3+q,none⟩=some u)
  (hown:∀g∈[nc,gl]++[nb],g∈[nc]∨w0.heap.size≤g) (h:dP (ja 1 B3 VC nb gl k M) (fO nc gl f [r0]) [gq nb nc B0 B1 B2 B3] a w) (hk:dO w0 [nc] w) (hQ:∀a' w' nm,w.heap.size≤nm→([nc,gl]++[nb,nm]).Nodup→dP (u6 1 B3 VC J nb nm gl k M 0) (fO nc gl (f) [r0]) [gq nb nc B0 B1 B2 B3,kg nm wt J V] a' w'→dO w0 [nc] w'→D.wp aa Q a' w') :
  (o7 [dZ (jT (dN bE)),dZ (fU (jT (dN bE)))] D).wp aa Q a w:=by
 refine jZ (zC [r0] k M wt 0 (J.2.1:Nat)) [f] [B0,B1,B2,B3,VC,J,V] (g:=[]) (wt:=[(3,var 0,3,1)]) (lt:=[(5,var 10)]) (sb:=[]) (T:=[]) (K:=[]) (RT:=[]) (wb:=[dU [var 8,dM 5,dM 6]]) (ws:=[(bM,oM+k.toNat*3,[num wt,dJ J,dJ V])]) (fr:=tN 1) (H:=ku 1) (lo:=[kN]) (us':=fun _ nl=>u6 1 B3 VC J nb (nl.headD 0) gl k M 0) (gs':=fun _ _=>fO nc gl f [r0]) (ls':=fun _ nl=>[gq nb nc B0 B1 B2 B3,kg (nl.headD 0) wt J V]) 44 _ [0,1] [0,2] [] [7] (fun ng nl e1 e2=>?_) (by kernel_rfl) (fun ng nl e1 e2 e3=>?_) ⟨fB _,gG,gD,fT,?_,fw (by exact hown),gH,fun _=>?_⟩ h hk (fun a' w' ng nl e1 e2 e3 e4 hs hk'=>?_)
 ·match ng,nl,e1,e2 with
  | [],[x],_,_=>show (_:Option _)=_; kernel_rfl
 ·match ng,nl,e1,e2 with
  | [],[x],_,_=>exact e3
 ·intro x hx
  simp only [ag,ae,or_false] at hx
  subst hx
  exact ⟨⟨lM,by simpa using nM⟩,aO _,cM⟩
 ·refine ⟨fun e he=>?_,fun e he=>?_,fun e he=>by cases he⟩
  ·simp only [fG,ag,ae,or_false] at he
   subst he
   exact ⟨⟨bM,oM,none⟩,B3.2.1,B3.2.2,k,2,(by show B3=_; rw [←eM]),rfl,rfl,h0,h1,rfl,rfl⟩
  ·simp only [fG,ag,ae,or_false] at he
   subst he
   exact ⟨2,by kernel_rfl⟩
 ·match ng,nl,e1,e2 with
  | [],[x],_,_=>exact hQ a' w' x (e4 x (by simp)).1 e3 hs hk'
variable {nm:Nat} {i:Int}
theorem ace (hown:∀g∈[nc,gl]++[nb,nm],g∈[nc]∨w0.heap.size≤g) (hlt:¬i<(J.2.1:Nat)) (hnd:([nc,gl]++[nb]).Nodup) (h:dP (u6 1 B3 VC J nb nm gl k M i) (fO nc gl (f) [r0]) [gq nb nc B0 B1 B2 B3,kg nm wt J V] a w) (hk:dO w0 [nc] w) (hQ:∀a' w',dP (ja 1 B3 VC nb gl k M) (fO nc gl f [r0]) [gq nb nc B0 B1 B2 B3] a' w'→dO w0 [nc] w'→Q (.exit 2) a' w') :
  (jK (dN bE)).wp aa Q a w :=
 r9 (zC [r0] k M wt i (J.2.1:Nat)) [f] [B0,B1,B2,B3,VC,J,V] (g:=[(mB 20 [var 9,var 10],.bool false)]) (wt:=[]) (lt:=[]) (sb:=[]) (T:=[]) (K:=[]) (RT:=[]) (wb:=[]) (ws:=[]) (fr:=wm 1) (H:=ku 1) (lo:=[kN,wu]) 44 (.exit 2) [0,1] [0] (by kernel_rfl) (by kernel_rfl) (by exact hnd) ⟨afm (by exact decide_eq_false hlt),gG,gD,fT,il _ _,fw (by exact hown),gH,fun _=>iI⟩ h hk hQ
variable {v u:V6} {bJ oJ bV oV bU oU:Nat}
theorem abQ (eJ:J.1=some ⟨bJ,oJ,none⟩) (eV:V.1=some ⟨bV,oV,none⟩) (eU:VC.1=some ⟨bU,oU,none⟩) (h0:0≤i) (h1:i<(J.2.1:Nat)) (h2:i<(V.2.1:Nat)) (h3:0≤k) (h4:k<(VC.2.1:Nat)) (hw1:1≤wt) (hw2:wt≤1000000000)
  (lJ:bJ<w0.heap.size) (nJ:bJ≠nc) (lV:bV<w0.heap.size) (nV:bV≠nc) (lU:bU<w0.heap.size) (nU:bU≠nc) (cJ:∀(q:Nat) (x:Value),[num 0][q]?=some x→w0.cell? ⟨bJ,oJ+i.toNat*1+q,none⟩=some x) (cV:∀(q:Nat) (x:Value),(v.cs nc)[q]?=some x→w0.cell? ⟨bV,oV+i.toNat*7+q,none⟩=some x) (cU:∀(q:Nat) (x:Value),(u.cs nc)[q]?=some x→w0.cell? ⟨bU,oU+k.toNat*7+q,none⟩=some x)
  (hown:∀g∈[nc,gl]++[nb,nm],g∈[nc]∨w0.heap.size≤g) (hnd:([nc,gl]++[nb,nm]).Nodup) (h:dP (u6 1 B3 VC J nb nm gl k M i) (fO nc gl (f) [r0]) [gq nb nc B0 B1 B2 B3,kg nm wt J V] a w) (hk:dO w0 [nc] w) (hQ:∀a' w',dP (u6 1 B3 VC J nb nm gl k M (bg.wrap (i+1))) (fO nc gl (((f||rf v u)||!ma (fQ v u).1 (fQ v u).2 wt)||zg r0 (jY (fQ v u) wt)) [qH r0 (jY (fQ v u) wt)]) [gq nb nc B0 B1 B2 B3,kg nm wt J V] a' w'→dO w0 [nc] w'→Q .normal a' w') :
  (jK (dN bE)).wp aa Q a w:=by
 refine r9 (aj4 [r0] k M wt i (J.2.1:Nat) v u) (Ap f v u wt) [B0,B1,B2,B3,VC,J,V] (g:=[(mB 20 [var 9,var 10],.bool true)]) (wt:=[(5,var 9,1,2),(6,var 9,7,3),(4,var 0,7,4)]) (lt:=[]) (sb:=[]) (T:=tT) (K:=[]) (RT:=[]) (wb:=[dU [.int .i64 0],dU (.pointer (some ⟨0,0,none⟩)::iE 11),dU (.pointer (some ⟨0,0,none⟩)::iE 17)]) (ws:=[(bJ,oJ+i.toNat*1,[num 0]),(bV,oV+i.toNat*7,v.cs nc),(bU,oU+k.toNat*7,u.cs nc)]) (fr:=wm 1) (H:=ku 1) (lo:=[kN,wu]) 44 .normal [0,1] [0,1] (by kernel_rfl) (by kernel_rfl) (by exact hnd) ⟨afm (by exact decide_eq_true h1),?_,gD,fT,?_,fw (by exact hown),gH,fun _=>?_⟩ h hk hQ
 ·intro t ht
  simp only [tT,ag,ae,or_false] at ht
  rcases ht with rfl | rfl
  ·exact ⟨rfl,fun nc c w _ _ hw=>⟨[v.val nc,u.val nc],.agg ⟨[num (fQ v u).1,num (fQ v u).2]⟩,rf v u,by kernel_rfl,by kernel_rfl,by kernel_rfl,(BQ nc c v.a v.b v.c v.d v.e v.f u.a u.b u.c u.d u.e u.f w hw).mono (fun r w' ⟨q1,q2⟩=>⟨q1,by rw [BR] at q2; exact q2⟩)⟩⟩
  ·exact ⟨rfl,fun nc c w _ _ hw=>⟨[.pointer (some ⟨nc,0,none⟩),.agg ⟨[num (fQ v u).1,num (fQ v u).2]⟩,num wt],.agg ⟨[num (jY (fQ v u) wt).1,num (jY (fQ v u) wt).2]⟩,!ma (fQ v u).1 (fQ v u).2 wt,by kernel_rfl,by kernel_rfl,by kernel_rfl,BL nc 88 _ _ wt c w hw hw1 hw2⟩⟩
 ·intro x hx
  simp only [ag,ae,or_false] at hx
  rcases hx with rfl | rfl | rfl
  ·exact ⟨⟨lJ,by simpa using nJ⟩,aO _,cJ⟩
  ·exact ⟨⟨lV,by simpa using nV⟩,aO _,cV⟩
  ·exact ⟨⟨lU,by simpa using nU⟩,aO _,cU⟩
 ·refine ⟨fun e he=>?_,(fun e he=>by cases he),fun e he=>by cases he⟩
  simp only [fG,ag,ae,or_false] at he
  rcases he with rfl | rfl | rfl
  ·exact ⟨⟨bJ,oJ,none⟩,J.2.1,J.2.2,i,2,(by show J=_; rw [←eJ]),rfl,rfl,h0,h1,rfl,rfl⟩
  ·exact ⟨⟨bV,oV,none⟩,V.2.1,V.2.2,i,2,(by show V=_; rw [←eV]),rfl,rfl,h0,h2,rfl,rfl⟩
  ·exact ⟨⟨bU,oU,none⟩,VC.2.1,VC.2.2,k,2,(by show VC=_; rw [←eU]),rfl,rfl,h3,h4,rfl,rfl⟩
theorem ab5 (hB:B0.2.1=1) (h:dP ([some (.agg ⟨[dK nc,dJ B0,dJ B1,dJ B2,dJ B3]⟩),some (dJ VC)]++ag6 57 (some undef)) [(nc,[.bool f],88)] [] a w) (hk:dO w0 [nc] w)
  (hQ:∀a' w' gl nb,w.heap.size≤gl→w.heap.size≤nb→([nc,gl]++[nb]).Nodup→dP (vv 1 VC nb gl) (fO nc gl f [(0,0)]) [gq nb nc B0 B1 B2 B3] a' w'→dO w0 [nc] w'→D.wp aa Q a' w') :
  (o7 [dZ (dN bE),jM (dN bE)] D).wp aa Q a w:=by
 refine jZ [] [f] [B0,B1,B2,B3,VC] (g:=[]) (wt:=[]) (lt:=[(0,.int .i64 1)]) (sb:=[]) (T:=[]) (K:=[]) (RT:=[]) (wb:=[]) (ws:=[]) (fr:=[.agg ⟨[.pointer (some ⟨0,0,none⟩),dM 0,dM 1,dM 2,dM 3]⟩,dM 4]++ag6 57 undef) (H:=[dQ [mB 1 [.int .i64 0]] 88]) (lo:=[]) (us':=fun ng nl=>vv 1 VC (nl.headD 0) (ng.headD 0)) (gs':=fun ng _=>fO nc (ng.headD 0) f [(0,0)]) (ls':=fun _ nl=>[gq (nl.headD 0) nc B0 B1 B2 B3]) 44 _ [0,1] [0] [5] [2] (fun ng nl e1 e2=>?_) (by kernel_rfl) (fun ng nl e1 e2 e3=>?_) ⟨fB _,gG,gD,fT,il _ _,fw (by simp),gH,fun _=>?_⟩ h hk (fun a' w' ng nl e1 e2 e3 e4 hs hk'=>?_)
 ·match ng,nl,e1,e2 with
  | [y],[x],_,_=>show (_:Option _)=_; kernel_rfl
 ·match ng,nl,e1,e2 with
  | [y],[x],_,_=>exact e3
 ·refine ⟨(fun e he=>by cases he),fun e he=>?_,fun e he=>by cases he⟩
  simp only [fG,ag,ae,or_false] at he
  subst he
  exact ⟨2,by show some (num 1)=some (.int .i64 (B0.2.1:Nat)); rw [hB]; rfl⟩
 ·match ng,nl,e1,e2 with
  | [y],[x],_,_=>exact hQ a' w' y x (e4 y (by simp)).1 (e4 x (by simp)).1 e3 hs hk'
theorem ab9 (hown:∀g∈[nc,gl]++[nb],g∈[nc]∨w0.heap.size≤g) (hnd:([nc,gl]++[nb]).Nodup) (h:dP (vv 1 VC nb gl) (fO nc gl f [r0]) [gq nb nc B0 B1 B2 B3] a w) (hk:dO w0 [nc] w) (hQ:∀a' w',dP (ja 1 B3 VC nb gl 0 (B3.2.1:Nat)) (fO nc gl f [r0]) [gq nb nc B0 B1 B2 B3] a' w'→dO w0 [nc] w'→D.wp aa Q a' w') :
  (o7 [dZ (nP (dN bE))] D).wp aa Q a w :=
 uf (qO [r0] 0 (B3.2.1:Nat)) [f] [B0,B1,B2,B3,VC] (g:=[]) (wt:=[]) (lt:=[(3,var 1)]) (sb:=[]) (T:=[]) (K:=[]) (RT:=[]) (wb:=[]) (ws:=[]) (fr:=Hu 1) (H:=ku 1) (lo:=[kN]) 44 _ [0,1] [0] (by kernel_rfl) (by kernel_rfl) (by exact hnd) ⟨fB _,gG,gD,fT,il _ _,fw (by exact hown),gH,fun _=>⟨(fun e he=>by cases he),(fun e he=>by
  simp only [fG,ag,ae,or_false] at he
  subst he
  exact ⟨2,by kernel_rfl⟩),fun e he=>by cases he⟩⟩ h hk hQ
variable {R:Ending→World→Prop}
theorem ab1 (hown:∀g∈[nc,gl]++[],g∈[nc]∨w0.heap.size≤g) (hnd:([nc,gl]++[]).Nodup) (h:dP (xw 1 gl) (fO nc gl f [r0]) [] a w) (hk:dO w0 [nc] w)
  (hQ:∀a' w',dP (xw 1 gl) (fO nc gl f [r0]) [] a' w'→dO w0 [nc] w'→R (.returned (.slice (some ⟨gl,0,none⟩) 1 1)) w') :
  (sR 3 (dN bE)).wp aa (bodyPost aa bE R) a w :=
 qQ (qO [r0] 0 0) [f] [] (g:=[]) (wt:=[]) (lt:=[]) (sb:=[]) (T:=[]) (K:=[]) (RT:=[]) (wb:=[]) (ws:=[]) (fr:=Hr 1) (H:=ku 1) (lo:=[]) (u:=.slice (some ⟨gl,0,none⟩) 1 1) 44 [0,1] [] (by kernel_rfl) (by kernel_rfl) (by exact hnd) ⟨fB _,gG,gD,fT,il _ _,fw (by exact hown),gH,fun _=>iI⟩ h hk hQ
variable {r1:Int×Int}
theorem abF (hown:∀g∈[nc,gl]++[nb],g∈[nc]∨w0.heap.size≤g) (hnd:([nc,gl]++[nb]).Nodup) (hlt:k<M) (h:dP (ja 2 B3 VC nb gl k M) (fO nc gl f [r0,r1]) [gq nb nc B0 B1 B2 B3] a w) (hk:dO w0 [nc] w) (hQ:∀a' w',dP (ja 2 B3 VC nb gl k M) (fO nc gl f [r0,r1]) [gq nb nc B0 B1 B2 B3] a' w'→dO w0 [nc] w'→D.wp aa Q a' w') :
  (o7 [dZ (iW (dN bE)),dZ (fU (iW (dN bE)))] D).wp aa Q a w :=
 uf (qO [r0,r1] k M) [f] [B0,B1,B2,B3,VC] (g:=[(mB 20 [var 0,var 1],.bool true)]) (wt:=[]) (lt:=[]) (sb:=[]) (T:=[]) (K:=[]) (RT:=[]) (wb:=[]) (ws:=[]) (fr:=tN 2) (H:=ku 2) (lo:=[kN]) 44 _ [0,1] [0] (by kernel_rfl) (by kernel_rfl) (by exact hnd) ⟨afm (by exact decide_eq_true hlt),gG,gD,fT,il _ _,fw (by exact hown),gH,fun _=>iI⟩ h hk hQ
theorem abN (hown:∀g∈[nc,gl]++[nb],g∈[nc]∨w0.heap.size≤g) (hnd:([nc,gl]++[nb]).Nodup) (hlt:¬k<M) (h:dP (ja 2 B3 VC nb gl k M) (fO nc gl f [r0,r1]) [gq nb nc B0 B1 B2 B3] a w) (hk:dO w0 [nc] w) (hQ:∀a' w',dP (ja 2 B3 VC nb gl k M) (fO nc gl f [r0,r1]) [gq nb nc B0 B1 B2 B3] a' w'→dO w0 [nc] w'→Q (.exit 0) a' w') :
  (iW (dN bE)).wp aa Q a w :=
 r9 (qO [r0,r1] k M) [f] [B0,B1,B2,B3,VC] (g:=[(mB 20 [var 0,var 1],.bool false)]) (wt:=[]) (lt:=[]) (sb:=[]) (T:=[]) (K:=[]) (RT:=[]) (wb:=[]) (ws:=[]) (fr:=tN 2) (H:=ku 2) (lo:=[kN]) 44 (.exit 0) [0,1] [0] (by kernel_rfl) (by kernel_rfl) (by exact hnd) ⟨afm (by exact decide_eq_false hlt),gG,gD,fT,il _ _,fw (by exact hown),gH,fun _=>iI⟩ h hk hQ
theorem abY (hown:∀g∈[nc,gl]++[nb],g∈[nc]∨w0.heap.size≤g) (hnd:([nc,gl]++[nb]).Nodup) (h:dP (ja 2 B3 VC nb gl k M) (fO nc gl f [r0,r1]) [gq nb nc B0 B1 B2 B3] a w) (hk:dO w0 [nc] w) (hQ:∀a' w',dP (ja 2 B3 VC nb gl (bg.wrap (k+1)) M) (fO nc gl f [r0,r1]) [gq nb nc B0 B1 B2 B3] a' w'→dO w0 [nc] w'→Q .normal a' w') :
  (sR 3 (iW (dN bE))).wp aa Q a w :=
 r9 (qO [r0,r1] k M) [f] [B0,B1,B2,B3,VC] (g:=[]) (wt:=[]) (lt:=[]) (sb:=[]) (T:=[]) (K:=[]) (RT:=[]) (wb:=[]) (ws:=[]) (fr:=tN 2) (H:=ku 2) (lo:=[kN]) 44 .normal [0,1] [0] (by kernel_rfl) (by kernel_rfl) (by exact hnd) ⟨fB _,gG,gD,fT,il _ _,fw (by exact hown),gH,fun _=>iI⟩ h hk hQ
theorem abJ (eM:B3.1=some ⟨bM,oM,none⟩) (h0:0≤k) (h1:k<(B3.2.1:Nat)) (lM:bM<w0.heap.size) (nM:bM≠nc) (cM:∀(q:Nat) (u:Value),[num wt,dJ J,dJ V][q]?=some u→w0.cell? ⟨bM,oM+k.toNat*3+q,none⟩=some u)
  (hown:∀g∈[nc,gl]++[nb],g∈[nc]∨w0.heap.size≤g) (h:dP (ja 2 B3 VC nb gl k M) (fO nc gl f [r0,r1]) [gq nb nc B0 B1 B2 B3] a w) (hk:dO w0 [nc] w) (hQ:∀a' w' nm,w.heap.size≤nm→([nc,gl]++[nb,nm]).Nodup→dP (u6 2 B3 VC J nb nm gl k M 0) (fO nc gl (f) [r0,r1]) [gq nb nc B0 B1 B2 B3,kg nm wt J V] a' w'→dO w0 [nc] w'→D.wp aa Q a' w') :
  (o7 [dZ (jT (dN bE)),dZ (fU (jT (dN bE)))] D).wp aa Q a w:=by
 refine jZ (zC [r0,r1] k M wt 0 (J.2.1:Nat)) [f] [B0,B1,B2,B3,VC,J,V] (g:=[]) (wt:=[(3,var 0,3,1)]) (lt:=[(5,var 10)]) (sb:=[]) (T:=[]) (K:=[]) (RT:=[]) (wb:=[dU [var 8,dM 5,dM 6]]) (ws:=[(bM,oM+k.toNat*3,[num wt,dJ J,dJ V])]) (fr:=tN 2) (H:=ku 2) (lo:=[kN]) (us':=fun _ nl=>u6 2 B3 VC J nb (nl.headD 0) gl k M 0) (gs':=fun _ _=>fO nc gl f [r0,r1]) (ls':=fun _ nl=>[gq nb nc B0 B1 B2 B3,kg (nl.headD 0) wt J V]) 44 _ [0,1] [0,2] [] [7] (fun ng nl e1 e2=>?_) (by kernel_rfl) (fun ng nl e1 e2 e3=>?_) ⟨fB _,gG,gD,fT,?_,fw (by exact hown),gH,fun _=>?_⟩ h hk (fun a' w' ng nl e1 e2 e3 e4 hs hk'=>?_)
 ·match ng,nl,e1,e2 with
  | [],[x],_,_=>show (_:Option _)=_; kernel_rfl
 ·match ng,nl,e1,e2 with
  | [],[x],_,_=>exact e3
 ·intro x hx
  simp only [ag,ae,or_false] at hx
  subst hx
  exact ⟨⟨lM,by simpa using nM⟩,aO _,cM⟩
 ·refine ⟨fun e he=>?_,fun e he=>?_,fun e he=>by cases he⟩
  ·simp only [fG,ag,ae,or_false] at he
   subst he
   exact ⟨⟨bM,oM,none⟩,B3.2.1,B3.2.2,k,2,(by show B3=_; rw [←eM]),rfl,rfl,h0,h1,rfl,rfl⟩
  ·simp only [fG,ag,ae,or_false] at he
   subst he
   exact ⟨2,by kernel_rfl⟩
 ·match ng,nl,e1,e2 with
  | [],[x],_,_=>exact hQ a' w' x (e4 x (by simp)).1 e3 hs hk'
theorem acf (hown:∀g∈[nc,gl]++[nb,nm],g∈[nc]∨w0.heap.size≤g) (hlt:¬i<(J.2.1:Nat)) (hnd:([nc,gl]++[nb]).Nodup) (h:dP (u6 2 B3 VC J nb nm gl k M i) (fO nc gl (f) [r0,r1]) [gq nb nc B0 B1 B2 B3,kg nm wt J V] a w) (hk:dO w0 [nc] w) (hQ:∀a' w',dP (ja 2 B3 VC nb gl k M) (fO nc gl f [r0,r1]) [gq nb nc B0 B1 B2 B3] a' w'→dO w0 [nc] w'→Q (.exit 2) a' w') :
  (jK (dN bE)).wp aa Q a w :=
 r9 (zC [r0,r1] k M wt i (J.2.1:Nat)) [f] [B0,B1,B2,B3,VC,J,V] (g:=[(mB 20 [var 9,var 10],.bool false)]) (wt:=[]) (lt:=[]) (sb:=[]) (T:=[]) (K:=[]) (RT:=[]) (wb:=[]) (ws:=[]) (fr:=wm 2) (H:=ku 2) (lo:=[kN,wu]) 44 (.exit 2) [0,1] [0] (by kernel_rfl) (by kernel_rfl) (by exact hnd) ⟨afm (by exact decide_eq_false hlt),gG,gD,fT,il _ _,fw (by exact hown),gH,fun _=>iI⟩ h hk hQ
theorem abR (eJ:J.1=some ⟨bJ,oJ,none⟩) (eV:V.1=some ⟨bV,oV,none⟩) (eU:VC.1=some ⟨bU,oU,none⟩) (h0:0≤i) (h1:i<(J.2.1:Nat)) (h2:i<(V.2.1:Nat)) (h3:0≤k) (h4:k<(VC.2.1:Nat)) (hw1:1≤wt) (hw2:wt≤1000000000)
  (lJ:bJ<w0.heap.size) (nJ:bJ≠nc) (lV:bV<w0.heap.size) (nV:bV≠nc) (lU:bU<w0.heap.size) (nU:bU≠nc) (cJ:∀(q:Nat) (x:Value),[num 0][q]?=some x→w0.cell? ⟨bJ,oJ+i.toNat*1+q,none⟩=some x) (cV:∀(q:Nat) (x:Value),(v.cs nc)[q]?=some x→w0.cell? ⟨bV,oV+i.toNat*7+q,none⟩=some x) (cU:∀(q:Nat) (x:Value),(u.cs nc)[q]?=some x→w0.cell? ⟨bU,oU+k.toNat*7+q,none⟩=some x)
  (hown:∀g∈[nc,gl]++[nb,nm],g∈[nc]∨w0.heap.size≤g) (hnd:([nc,gl]++[nb,nm]).Nodup) (h:dP (u6 2 B3 VC J nb nm gl k M i) (fO nc gl (f) [r0,r1]) [gq nb nc B0 B1 B2 B3,kg nm wt J V] a w) (hk:dO w0 [nc] w) (hQ:∀a' w',dP (u6 2 B3 VC J nb nm gl k M (bg.wrap (i+1))) (fO nc gl (((f||rf v u)||!ma (fQ v u).1 (fQ v u).2 wt)||zg r0 (jY (fQ v u) wt)) [qH r0 (jY (fQ v u) wt),r1]) [gq nb nc B0 B1 B2 B3,kg nm wt J V] a' w'→dO w0 [nc] w'→Q .normal a' w') :
  (jK (dN bE)).wp aa Q a w:=by
 refine r9 (aj4 [r0,r1] k M wt i (J.2.1:Nat) v u) (Ap f v u wt) [B0,B1,B2,B3,VC,J,V] (g:=[(mB 20 [var 9,var 10],.bool true)]) (wt:=[(5,var 9,1,2),(6,var 9,7,3),(4,var 0,7,4)]) (lt:=[]) (sb:=[]) (T:=tT) (K:=[]) (RT:=[]) (wb:=[dU [.int .i64 0],dU (.pointer (some ⟨0,0,none⟩)::iE 11),dU (.pointer (some ⟨0,0,none⟩)::iE 17)]) (ws:=[(bJ,oJ+i.toNat*1,[num 0]),(bV,oV+i.toNat*7,v.cs nc),(bU,oU+k.toNat*7,u.cs nc)]) (fr:=wm 2) (H:=ku 2) (lo:=[kN,wu]) 44 .normal [0,1] [0,1] (by kernel_rfl) (by kernel_rfl) (by exact hnd) ⟨afm (by exact decide_eq_true h1),?_,gD,fT,?_,fw (by exact hown),gH,fun _=>?_⟩ h hk hQ
 ·intro t ht
  simp only [tT,ag,ae,or_false] at ht
  rcases ht with rfl | rfl
  ·exact ⟨rfl,fun nc c w _ _ hw=>⟨[v.val nc,u.val nc],.agg ⟨[num (fQ v u).1,num (fQ v u).2]⟩,rf v u,by kernel_rfl,by kernel_rfl,by kernel_rfl,(BQ nc c v.a v.b v.c v.d v.e v.f u.a u.b u.c u.d u.e u.f w hw).mono (fun r w' ⟨q1,q2⟩=>⟨q1,by rw [BR] at q2; exact q2⟩)⟩⟩
  ·exact ⟨rfl,fun nc c w _ _ hw=>⟨[.pointer (some ⟨nc,0,none⟩),.agg ⟨[num (fQ v u).1,num (fQ v u).2]⟩,num wt],.agg ⟨[num (jY (fQ v u) wt).1,num (jY (fQ v u) wt).2]⟩,!ma (fQ v u).1 (fQ v u).2 wt,by kernel_rfl,by kernel_rfl,by kernel_rfl,BL nc 88 _ _ wt c w hw hw1 hw2⟩⟩
 ·intro x hx
  simp only [ag,ae,or_false] at hx
  rcases hx with rfl | rfl | rfl
  ·exact ⟨⟨lJ,by simpa using nJ⟩,aO _,cJ⟩
  ·exact ⟨⟨lV,by simpa using nV⟩,aO _,cV⟩
  ·exact ⟨⟨lU,by simpa using nU⟩,aO _,cU⟩
 ·refine ⟨fun e he=>?_,(fun e he=>by cases he),fun e he=>by cases he⟩
  simp only [fG,ag,ae,or_false] at he
  rcases he with rfl | rfl | rfl
  ·exact ⟨⟨bJ,oJ,none⟩,J.2.1,J.2.2,i,2,(by show J=_; rw [←eJ]),rfl,rfl,h0,h1,rfl,rfl⟩
  ·exact ⟨⟨bV,oV,none⟩,V.2.1,V.2.2,i,2,(by show V=_; rw [←eV]),rfl,rfl,h0,h2,rfl,rfl⟩
  ·exact ⟨⟨bU,oU,none⟩,VC.2.1,VC.2.2,k,2,(by show VC=_; rw [←eU]),rfl,rfl,h3,h4,rfl,rfl⟩
theorem abS (eJ:J.1=some ⟨bJ,oJ,none⟩) (eV:V.1=some ⟨bV,oV,none⟩) (eU:VC.1=some ⟨bU,oU,none⟩) (h0:0≤i) (h1:i<(J.2.1:Nat)) (h2:i<(V.2.1:Nat)) (h3:0≤k) (h4:k<(VC.2.1:Nat)) (hw1:1≤wt) (hw2:wt≤1000000000)
  (lJ:bJ<w0.heap.size) (nJ:bJ≠nc) (lV:bV<w0.heap.size) (nV:bV≠nc) (lU:bU<w0.heap.size) (nU:bU≠nc) (cJ:∀(q:Nat) (x:Value),[num 1][q]?=some x→w0.cell? ⟨bJ,oJ+i.toNat*1+q,none⟩=some x) (cV:∀(q:Nat) (x:Value),(v.cs nc)[q]?=some x→w0.cell? ⟨bV,oV+i.toNat*7+q,none⟩=some x) (cU:∀(q:Nat) (x:Value),(u.cs nc)[q]?=some x→w0.cell? ⟨bU,oU+k.toNat*7+q,none⟩=some x)
  (hown:∀g∈[nc,gl]++[nb,nm],g∈[nc]∨w0.heap.size≤g) (hnd:([nc,gl]++[nb,nm]).Nodup) (h:dP (u6 2 B3 VC J nb nm gl k M i) (fO nc gl (f) [r0,r1]) [gq nb nc B0 B1 B2 B3,kg nm wt J V] a w) (hk:dO w0 [nc] w) (hQ:∀a' w',dP (u6 2 B3 VC J nb nm gl k M (bg.wrap (i+1))) (fO nc gl (((f||rf v u)||!ma (fQ v u).1 (fQ v u).2 wt)||zg r1 (jY (fQ v u) wt)) [r0,qH r1 (jY (fQ v u) wt)]) [gq nb nc B0 B1 B2 B3,kg nm wt J V] a' w'→dO w0 [nc] w'→Q .normal a' w') :
  (jK (dN bE)).wp aa Q a w:=by
 refine r9 (aj4 [r0,r1] k M wt i (J.2.1:Nat) v u) (Ap f v u wt) [B0,B1,B2,B3,VC,J,V] (g:=[(mB 20 [var 9,var 10],.bool true)]) (wt:=[(5,var 9,1,2),(6,var 9,7,3),(4,var 0,7,4)]) (lt:=[]) (sb:=[]) (T:=tT) (K:=[]) (RT:=[]) (wb:=[dU [.int .i64 1],dU (.pointer (some ⟨0,0,none⟩)::iE 11),dU (.pointer (some ⟨0,0,none⟩)::iE 17)]) (ws:=[(bJ,oJ+i.toNat*1,[num 1]),(bV,oV+i.toNat*7,v.cs nc),(bU,oU+k.toNat*7,u.cs nc)]) (fr:=wm 2) (H:=ku 2) (lo:=[kN,wu]) 44 .normal [0,1] [0,1] (by kernel_rfl) (by kernel_rfl) (by exact hnd) ⟨afm (by exact decide_eq_true h1),?_,gD,fT,?_,fw (by exact hown),gH,fun _=>?_⟩ h hk hQ
 ·intro t ht
  simp only [tT,ag,ae,or_false] at ht
  rcases ht with rfl | rfl
  ·exact ⟨rfl,fun nc c w _ _ hw=>⟨[v.val nc,u.val nc],.agg ⟨[num (fQ v u).1,num (fQ v u).2]⟩,rf v u,by kernel_rfl,by kernel_rfl,by kernel_rfl,(BQ nc c v.a v.b v.c v.d v.e v.f u.a u.b u.c u.d u.e u.f w hw).mono (fun r w' ⟨q1,q2⟩=>⟨q1,by rw [BR] at q2; exact q2⟩)⟩⟩
  ·exact ⟨rfl,fun nc c w _ _ hw=>⟨[.pointer (some ⟨nc,0,none⟩),.agg ⟨[num (fQ v u).1,num (fQ v u).2]⟩,num wt],.agg ⟨[num (jY (fQ v u) wt).1,num (jY (fQ v u) wt).2]⟩,!ma (fQ v u).1 (fQ v u).2 wt,by kernel_rfl,by kernel_rfl,by kernel_rfl,BL nc 88 _ _ wt c w hw hw1 hw2⟩⟩
 ·intro x hx
  simp only [ag,ae,or_false] at hx
  rcases hx with rfl | rfl | rfl
  ·exact ⟨⟨lJ,by simpa using nJ⟩,aO _,cJ⟩
  ·exact ⟨⟨lV,by simpa using nV⟩,aO _,cV⟩
  ·exact ⟨⟨lU,by simpa using nU⟩,aO _,cU⟩
 ·refine ⟨fun e he=>?_,(fun e he=>by cases he),fun e he=>by cases he⟩
  simp only [fG,ag,ae,or_false] at he
  rcases he with rfl | rfl | rfl
  ·exact ⟨⟨bJ,oJ,none⟩,J.2.1,J.2.2,i,2,(by show J=_; rw [←eJ]),rfl,rfl,h0,h1,rfl,rfl⟩
  ·exact ⟨⟨bV,oV,none⟩,V.2.1,V.2.2,i,2,(by show V=_; rw [←eV]),rfl,rfl,h0,h2,rfl,rfl⟩
  ·exact ⟨⟨bU,oU,none⟩,VC.2.1,VC.2.2,k,2,(by show VC=_; rw [←eU]),rfl,rfl,h3,h4,rfl,rfl⟩
theorem ab6 (hB:B0.2.1=2) (h:dP ([some (.agg ⟨[dK nc,dJ B0,dJ B1,dJ B2,dJ B3]⟩),some (dJ VC)]++ag6 57 (some undef)) [(nc,[.bool f],88)] [] a w) (hk:dO w0 [nc] w)
  (hQ:∀a' w' gl nb,w.heap.size≤gl→w.heap.size≤nb→([nc,gl]++[nb]).Nodup→dP (vv 2 VC nb gl) (fO nc gl f [(0,0),(0,0)]) [gq nb nc B0 B1 B2 B3] a' w'→dO w0 [nc] w'→D.wp aa Q a' w') :
  (o7 [dZ (dN bE),jM (dN bE)] D).wp aa Q a w:=by
 refine jZ [] [f] [B0,B1,B2,B3,VC] (g:=[]) (wt:=[]) (lt:=[(0,.int .i64 2)]) (sb:=[]) (T:=[]) (K:=[]) (RT:=[]) (wb:=[]) (ws:=[]) (fr:=[.agg ⟨[.pointer (some ⟨0,0,none⟩),dM 0,dM 1,dM 2,dM 3]⟩,dM 4]++ag6 57 undef) (H:=[dQ [mB 1 [.int .i64 0]] 88]) (lo:=[]) (us':=fun ng nl=>vv 2 VC (nl.headD 0) (ng.headD 0)) (gs':=fun ng _=>fO nc (ng.headD 0) f [(0,0),(0,0)]) (ls':=fun _ nl=>[gq (nl.headD 0) nc B0 B1 B2 B3]) 44 _ [0,1] [0] [5] [2] (fun ng nl e1 e2=>?_) (by kernel_rfl) (fun ng nl e1 e2 e3=>?_) ⟨fB _,gG,gD,fT,il _ _,fw (by simp),gH,fun _=>?_⟩ h hk (fun a' w' ng nl e1 e2 e3 e4 hs hk'=>?_)
 ·match ng,nl,e1,e2 with
  | [y],[x],_,_=>show (_:Option _)=_; kernel_rfl
 ·match ng,nl,e1,e2 with
  | [y],[x],_,_=>exact e3
 ·refine ⟨(fun e he=>by cases he),fun e he=>?_,fun e he=>by cases he⟩
  simp only [fG,ag,ae,or_false] at he
  subst he
  exact ⟨2,by show some (num 2)=some (.int .i64 (B0.2.1:Nat)); rw [hB]; rfl⟩
 ·match ng,nl,e1,e2 with
  | [y],[x],_,_=>exact hQ a' w' y x (e4 y (by simp)).1 (e4 x (by simp)).1 e3 hs hk'
theorem aca (hown:∀g∈[nc,gl]++[nb],g∈[nc]∨w0.heap.size≤g) (hnd:([nc,gl]++[nb]).Nodup) (h:dP (vv 2 VC nb gl) (fO nc gl f [r0,r1]) [gq nb nc B0 B1 B2 B3] a w) (hk:dO w0 [nc] w) (hQ:∀a' w',dP (ja 2 B3 VC nb gl 0 (B3.2.1:Nat)) (fO nc gl f [r0,r1]) [gq nb nc B0 B1 B2 B3] a' w'→dO w0 [nc] w'→D.wp aa Q a' w') :
  (o7 [dZ (nP (dN bE))] D).wp aa Q a w :=
 uf (qO [r0,r1] 0 (B3.2.1:Nat)) [f] [B0,B1,B2,B3,VC] (g:=[]) (wt:=[]) (lt:=[(3,var 1)]) (sb:=[]) (T:=[]) (K:=[]) (RT:=[]) (wb:=[]) (ws:=[]) (fr:=Hu 2) (H:=ku 2) (lo:=[kN]) 44 _ [0,1] [0] (by kernel_rfl) (by kernel_rfl) (by exact hnd) ⟨fB _,gG,gD,fT,il _ _,fw (by exact hown),gH,fun _=>⟨(fun e he=>by cases he),(fun e he=>by
  simp only [fG,ag,ae,or_false] at he
  subst he
  exact ⟨2,by kernel_rfl⟩),fun e he=>by cases he⟩⟩ h hk hQ
theorem ab2 (hown:∀g∈[nc,gl]++[],g∈[nc]∨w0.heap.size≤g) (hnd:([nc,gl]++[]).Nodup) (h:dP (xw 2 gl) (fO nc gl f [r0,r1]) [] a w) (hk:dO w0 [nc] w)
  (hQ:∀a' w',dP (xw 2 gl) (fO nc gl f [r0,r1]) [] a' w'→dO w0 [nc] w'→R (.returned (.slice (some ⟨gl,0,none⟩) 2 2)) w') :
  (sR 3 (dN bE)).wp aa (bodyPost aa bE R) a w :=
 qQ (qO [r0,r1] 0 0) [f] [] (g:=[]) (wt:=[]) (lt:=[]) (sb:=[]) (T:=[]) (K:=[]) (RT:=[]) (wb:=[]) (ws:=[]) (fr:=Hr 2) (H:=ku 2) (lo:=[]) (u:=.slice (some ⟨gl,0,none⟩) 2 2) 44 [0,1] [] (by kernel_rfl) (by kernel_rfl) (by exact hnd) ⟨fB _,gG,gD,fT,il _ _,fw (by exact hown),gH,fun _=>iI⟩ h hk hQ
variable {r2:Int×Int}
theorem abG (hown:∀g∈[nc,gl]++[nb],g∈[nc]∨w0.heap.size≤g) (hnd:([nc,gl]++[nb]).Nodup) (hlt:k<M) (h:dP (ja 3 B3 VC nb gl k M) (fO nc gl f [r0,r1,r2]) [gq nb nc B0 B1 B2 B3] a w) (hk:dO w0 [nc] w) (hQ:∀a' w',dP (ja 3 B3 VC nb gl k M) (fO nc gl f [r0,r1,r2]) [gq nb nc B0 B1 B2 B3] a' w'→dO w0 [nc] w'→D.wp aa Q a' w') :
  (o7 [dZ (iW (dN bE)),dZ (fU (iW (dN bE)))] D).wp aa Q a w :=
 uf (qO [r0,r1,r2] k M) [f] [B0,B1,B2,B3,VC] (g:=[(mB 20 [var 0,var 1],.bool true)]) (wt:=[]) (lt:=[]) (sb:=[]) (T:=[]) (K:=[]) (RT:=[]) (wb:=[]) (ws:=[]) (fr:=tN 3) (H:=ku 3) (lo:=[kN]) 44 _ [0,1] [0] (by kernel_rfl) (by kernel_rfl) (by exact hnd) ⟨afm (by exact decide_eq_true hlt),gG,gD,fT,il _ _,fw (by exact hown),gH,fun _=>iI⟩ h hk hQ
theorem abO (hown:∀g∈[nc,gl]++[nb],g∈[nc]∨w0.heap.size≤g) (hnd:([nc,gl]++[nb]).Nodup) (hlt:¬k<M) (h:dP (ja 3 B3 VC nb gl k M) (fO nc gl f [r0,r1,r2]) [gq nb nc B0 B1 B2 B3] a w) (hk:dO w0 [nc] w) (hQ:∀a' w',dP (ja 3 B3 VC nb gl k M) (fO nc gl f [r0,r1,r2]) [gq nb nc B0 B1 B2 B3] a' w'→dO w0 [nc] w'→Q (.exit 0) a' w') :
  (iW (dN bE)).wp aa Q a w :=
 r9 (qO [r0,r1,r2] k M) [f] [B0,B1,B2,B3,VC] (g:=[(mB 20 [var 0,var 1],.bool false)]) (wt:=[]) (lt:=[]) (sb:=[]) (T:=[]) (K:=[]) (RT:=[]) (wb:=[]) (ws:=[]) (fr:=tN 3) (H:=ku 3) (lo:=[kN]) 44 (.exit 0) [0,1] [0] (by kernel_rfl) (by kernel_rfl) (by exact hnd) ⟨afm (by exact decide_eq_false hlt),gG,gD,fT,il _ _,fw (by exact hown),gH,fun _=>iI⟩ h hk hQ
theorem abZ (hown:∀g∈[nc,gl]++[nb],g∈[nc]∨w0.heap.size≤g) (hnd:([nc,gl]++[nb]).Nodup) (h:dP (ja 3 B3 VC nb gl k M) (fO nc gl f [r0,r1,r2]) [gq nb nc B0 B1 B2 B3] a w) (hk:dO w0 [nc] w) (hQ:∀a' w',dP (ja 3 B3 VC nb gl (bg.wrap (k+1)) M) (fO nc gl f [r0,r1,r2]) [gq nb nc B0 B1 B2 B3] a' w'→dO w0 [nc] w'→Q .normal a' w') :
  (sR 3 (iW (dN bE))).wp aa Q a w :=
 r9 (qO [r0,r1,r2] k M) [f] [B0,B1,B2,B3,VC] (g:=[]) (wt:=[]) (lt:=[]) (sb:=[]) (T:=[]) (K:=[]) (RT:=[]) (wb:=[]) (ws:=[]) (fr:=tN 3) (H:=ku 3) (lo:=[kN]) 44 .normal [0,1] [0] (by kernel_rfl) (by kernel_rfl) (by exact hnd) ⟨fB _,gG,gD,fT,il _ _,fw (by exact hown),gH,fun _=>iI⟩ h hk hQ
theorem abK (eM:B3.1=some ⟨bM,oM,none⟩) (h0:0≤k) (h1:k<(B3.2.1:Nat)) (lM:bM<w0.heap.size) (nM:bM≠nc) (cM:∀(q:Nat) (u:Value),[num wt,dJ J,dJ V][q]?=some u→w0.cell? ⟨bM,oM+k.toNat*3+q,none⟩=some u)
  (hown:∀g∈[nc,gl]++[nb],g∈[nc]∨w0.heap.size≤g) (h:dP (ja 3 B3 VC nb gl k M) (fO nc gl f [r0,r1,r2]) [gq nb nc B0 B1 B2 B3] a w) (hk:dO w0 [nc] w) (hQ:∀a' w' nm,w.heap.size≤nm→([nc,gl]++[nb,nm]).Nodup→dP (u6 3 B3 VC J nb nm gl k M 0) (fO nc gl (f) [r0,r1,r2]) [gq nb nc B0 B1 B2 B3,kg nm wt J V] a' w'→dO w0 [nc] w'→D.wp aa Q a' w') :
  (o7 [dZ (jT (dN bE)),dZ (fU (jT (dN bE)))] D).wp aa Q a w:=by
 refine jZ (zC [r0,r1,r2] k M wt 0 (J.2.1:Nat)) [f] [B0,B1,B2,B3,VC,J,V] (g:=[]) (wt:=[(3,var 0,3,1)]) (lt:=[(5,var 10)]) (sb:=[]) (T:=[]) (K:=[]) (RT:=[]) (wb:=[dU [var 8,dM 5,dM 6]]) (ws:=[(bM,oM+k.toNat*3,[num wt,dJ J,dJ V])]) (fr:=tN 3) (H:=ku 3) (lo:=[kN]) (us':=fun _ nl=>u6 3 B3 VC J nb (nl.headD 0) gl k M 0) (gs':=fun _ _=>fO nc gl f [r0,r1,r2]) (ls':=fun _ nl=>[gq nb nc B0 B1 B2 B3,kg (nl.headD 0) wt J V]) 44 _ [0,1] [0,2] [] [7] (fun ng nl e1 e2=>?_) (by kernel_rfl) (fun ng nl e1 e2 e3=>?_) ⟨fB _,gG,gD,fT,?_,fw (by exact hown),gH,fun _=>?_⟩ h hk (fun a' w' ng nl e1 e2 e3 e4 hs hk'=>?_)
 ·match ng,nl,e1,e2 with
  | [],[x],_,_=>show (_:Option _)=_; kernel_rfl
 ·match ng,nl,e1,e2 with
  | [],[x],_,_=>exact e3
 ·intro x hx
  simp only [ag,ae,or_false] at hx
  subst hx
  exact ⟨⟨lM,by simpa using nM⟩,aO _,cM⟩
 ·refine ⟨fun e he=>?_,fun e he=>?_,fun e he=>by cases he⟩
  ·simp only [fG,ag,ae,or_false] at he
   subst he
   exact ⟨⟨bM,oM,none⟩,B3.2.1,B3.2.2,k,2,(by show B3=_; rw [←eM]),rfl,rfl,h0,h1,rfl,rfl⟩
  ·simp only [fG,ag,ae,or_false] at he
   subst he
   exact ⟨2,by kernel_rfl⟩
 ·match ng,nl,e1,e2 with
  | [],[x],_,_=>exact hQ a' w' x (e4 x (by simp)).1 e3 hs hk'
theorem acg (hown:∀g∈[nc,gl]++[nb,nm],g∈[nc]∨w0.heap.size≤g) (hlt:¬i<(J.2.1:Nat)) (hnd:([nc,gl]++[nb]).Nodup) (h:dP (u6 3 B3 VC J nb nm gl k M i) (fO nc gl (f) [r0,r1,r2]) [gq nb nc B0 B1 B2 B3,kg nm wt J V] a w) (hk:dO w0 [nc] w) (hQ:∀a' w',dP (ja 3 B3 VC nb gl k M) (fO nc gl f [r0,r1,r2]) [gq nb nc B0 B1 B2 B3] a' w'→dO w0 [nc] w'→Q (.exit 2) a' w') :
  (jK (dN bE)).wp aa Q a w :=
 r9 (zC [r0,r1,r2] k M wt i (J.2.1:Nat)) [f] [B0,B1,B2,B3,VC,J,V] (g:=[(mB 20 [var 9,var 10],.bool false)]) (wt:=[]) (lt:=[]) (sb:=[]) (T:=[]) (K:=[]) (RT:=[]) (wb:=[]) (ws:=[]) (fr:=wm 3) (H:=ku 3) (lo:=[kN,wu]) 44 (.exit 2) [0,1] [0] (by kernel_rfl) (by kernel_rfl) (by exact hnd) ⟨afm (by exact decide_eq_false hlt),gG,gD,fT,il _ _,fw (by exact hown),gH,fun _=>iI⟩ h hk hQ
theorem abT (eJ:J.1=some ⟨bJ,oJ,none⟩) (eV:V.1=some ⟨bV,oV,none⟩) (eU:VC.1=some ⟨bU,oU,none⟩) (h0:0≤i) (h1:i<(J.2.1:Nat)) (h2:i<(V.2.1:Nat)) (h3:0≤k) (h4:k<(VC.2.1:Nat)) (hw1:1≤wt) (hw2:wt≤1000000000)
  (lJ:bJ<w0.heap.size) (nJ:bJ≠nc) (lV:bV<w0.heap.size) (nV:bV≠nc) (lU:bU<w0.heap.size) (nU:bU≠nc) (cJ:∀(q:Nat) (x:Value),[num 0][q]?=some x→w0.cell? ⟨bJ,oJ+i.toNat*1+q,none⟩=some x) (cV:∀(q:Nat) (x:Value),(v.cs nc)[q]?=some x→w0.cell? ⟨bV,oV+i.toNat*7+q,none⟩=some x) (cU:∀(q:Nat) (x:Value),(u.cs nc)[q]?=some x→w0.cell? ⟨bU,oU+k.toNat*7+q,none⟩=some x)
  (hown:∀g∈[nc,gl]++[nb,nm],g∈[nc]∨w0.heap.size≤g) (hnd:([nc,gl]++[nb,nm]).Nodup) (h:dP (u6 3 B3 VC J nb nm gl k M i) (fO nc gl (f) [r0,r1,r2]) [gq nb nc B0 B1 B2 B3,kg nm wt J V] a w) (hk:dO w0 [nc] w) (hQ:∀a' w',dP (u6 3 B3 VC J nb nm gl k M (bg.wrap (i+1))) (fO nc gl (((f||rf v u)||!ma (fQ v u).1 (fQ v u).2 wt)||zg r0 (jY (fQ v u) wt)) [qH r0 (jY (fQ v u) wt),r1,r2]) [gq nb nc B0 B1 B2 B3,kg nm wt J V] a' w'→dO w0 [nc] w'→Q .normal a' w') :
  (jK (dN bE)).wp aa Q a w:=by
 refine r9 (aj4 [r0,r1,r2] k M wt i (J.2.1:Nat) v u) (Ap f v u wt) [B0,B1,B2,B3,VC,J,V] (g:=[(mB 20 [var 9,var 10],.bool true)]) (wt:=[(5,var 9,1,2),(6,var 9,7,3),(4,var 0,7,4)]) (lt:=[]) (sb:=[]) (T:=tT) (K:=[]) (RT:=[]) (wb:=[dU [.int .i64 0],dU (.pointer (some ⟨0,0,none⟩)::iE 11),dU (.pointer (some ⟨0,0,none⟩)::iE 17)]) (ws:=[(bJ,oJ+i.toNat*1,[num 0]),(bV,oV+i.toNat*7,v.cs nc),(bU,oU+k.toNat*7,u.cs nc)]) (fr:=wm 3) (H:=ku 3) (lo:=[kN,wu]) 44 .normal [0,1] [0,1] (by kernel_rfl) (by kernel_rfl) (by exact hnd) ⟨afm (by exact decide_eq_true h1),?_,gD,fT,?_,fw (by exact hown),gH,fun _=>?_⟩ h hk hQ
 ·intro t ht
  simp only [tT,ag,ae,or_false] at ht
  rcases ht with rfl | rfl
  ·exact ⟨rfl,fun nc c w _ _ hw=>⟨[v.val nc,u.val nc],.agg ⟨[num (fQ v u).1,num (fQ v u).2]⟩,rf v u,by kernel_rfl,by kernel_rfl,by kernel_rfl,(BQ nc c v.a v.b v.c v.d v.e v.f u.a u.b u.c u.d u.e u.f w hw).mono (fun r w' ⟨q1,q2⟩=>⟨q1,by rw [BR] at q2; exact q2⟩)⟩⟩
  ·exact ⟨rfl,fun nc c w _ _ hw=>⟨[.pointer (some ⟨nc,0,none⟩),.agg ⟨[num (fQ v u).1,num (fQ v u).2]⟩,num wt],.agg ⟨[num (jY (fQ v u) wt).1,num (jY (fQ v u) wt).2]⟩,!ma (fQ v u).1 (fQ v u).2 wt,by kernel_rfl,by kernel_rfl,by kernel_rfl,BL nc 88 _ _ wt c w hw hw1 hw2⟩⟩
 ·intro x hx
  simp only [ag,ae,or_false] at hx
  rcases hx with rfl | rfl | rfl
  ·exact ⟨⟨lJ,by simpa using nJ⟩,aO _,cJ⟩
  ·exact ⟨⟨lV,by simpa using nV⟩,aO _,cV⟩
  ·exact ⟨⟨lU,by simpa using nU⟩,aO _,cU⟩
 ·refine ⟨fun e he=>?_,(fun e he=>by cases he),fun e he=>by cases he⟩
  simp only [fG,ag,ae,or_false] at he
  rcases he with rfl | rfl | rfl
  ·exact ⟨⟨bJ,oJ,none⟩,J.2.1,J.2.2,i,2,(by show J=_; rw [←eJ]),rfl,rfl,h0,h1,rfl,rfl⟩
  ·exact ⟨⟨bV,oV,none⟩,V.2.1,V.2.2,i,2,(by show V=_; rw [←eV]),rfl,rfl,h0,h2,rfl,rfl⟩
  ·exact ⟨⟨bU,oU,none⟩,VC.2.1,VC.2.2,k,2,(by show VC=_; rw [←eU]),rfl,rfl,h3,h4,rfl,rfl⟩
theorem abU (eJ:J.1=some ⟨bJ,oJ,none⟩) (eV:V.1=some ⟨bV,oV,none⟩) (eU:VC.1=some ⟨bU,oU,none⟩) (h0:0≤i) (h1:i<(J.2.1:Nat)) (h2:i<(V.2.1:Nat)) (h3:0≤k) (h4:k<(VC.2.1:Nat)) (hw1:1≤wt) (hw2:wt≤1000000000)
  (lJ:bJ<w0.heap.size) (nJ:bJ≠nc) (lV:bV<w0.heap.size) (nV:bV≠nc) (lU:bU<w0.heap.size) (nU:bU≠nc) (cJ:∀(q:Nat) (x:Value),[num 1][q]?=some x→w0.cell? ⟨bJ,oJ+i.toNat*1+q,none⟩=some x) (cV:∀(q:Nat) (x:Value),(v.cs nc)[q]?=some x→w0.cell? ⟨bV,oV+i.toNat*7+q,none⟩=some x) (cU:∀(q:Nat) (x:Value),(u.cs nc)[q]?=some x→w0.cell? ⟨bU,oU+k.toNat*7+q,none⟩=some x)
  (hown:∀g∈[nc,gl]++[nb,nm],g∈[nc]∨w0.heap.size≤g) (hnd:([nc,gl]++[nb,nm]).Nodup) (h:dP (u6 3 B3 VC J nb nm gl k M i) (fO nc gl (f) [r0,r1,r2]) [gq nb nc B0 B1 B2 B3,kg nm wt J V] a w) (hk:dO w0 [nc] w) (hQ:∀a' w',dP (u6 3 B3 VC J nb nm gl k M (bg.wrap (i+1))) (fO nc gl (((f||rf v u)||!ma (fQ v u).1 (fQ v u).2 wt)||zg r1 (jY (fQ v u) wt)) [r0,qH r1 (jY (fQ v u) wt),r2]) [gq nb nc B0 B1 B2 B3,kg nm wt J V] a' w'→dO w0 [nc] w'→Q .normal a' w') :
  (jK (dN bE)).wp aa Q a w:=by
 refine r9 (aj4 [r0,r1,r2] k M wt i (J.2.1:Nat) v u) (Ap f v u wt) [B0,B1,B2,B3,VC,J,V] (g:=[(mB 20 [var 9,var 10],.bool true)]) (wt:=[(5,var 9,1,2),(6,var 9,7,3),(4,var 0,7,4)]) (lt:=[]) (sb:=[]) (T:=tT) (K:=[]) (RT:=[]) (wb:=[dU [.int .i64 1],dU (.pointer (some ⟨0,0,none⟩)::iE 11),dU (.pointer (some ⟨0,0,none⟩)::iE 17)]) (ws:=[(bJ,oJ+i.toNat*1,[num 1]),(bV,oV+i.toNat*7,v.cs nc),(bU,oU+k.toNat*7,u.cs nc)]) (fr:=wm 3) (H:=ku 3) (lo:=[kN,wu]) 44 .normal [0,1] [0,1] (by kernel_rfl) (by kernel_rfl) (by exact hnd) ⟨afm (by exact decide_eq_true h1),?_,gD,fT,?_,fw (by exact hown),gH,fun _=>?_⟩ h hk hQ
 ·intro t ht
  simp only [tT,ag,ae,or_false] at ht
  rcases ht with rfl | rfl
  ·exact ⟨rfl,fun nc c w _ _ hw=>⟨[v.val nc,u.val nc],.agg ⟨[num (fQ v u).1,num (fQ v u).2]⟩,rf v u,by kernel_rfl,by kernel_rfl,by kernel_rfl,(BQ nc c v.a v.b v.c v.d v.e v.f u.a u.b u.c u.d u.e u.f w hw).mono (fun r w' ⟨q1,q2⟩=>⟨q1,by rw [BR] at q2; exact q2⟩)⟩⟩
  ·exact ⟨rfl,fun nc c w _ _ hw=>⟨[.pointer (some ⟨nc,0,none⟩),.agg ⟨[num (fQ v u).1,num (fQ v u).2]⟩,num wt],.agg ⟨[num (jY (fQ v u) wt).1,num (jY (fQ v u) wt).2]⟩,!ma (fQ v u).1 (fQ v u).2 wt,by kernel_rfl,by kernel_rfl,by kernel_rfl,BL nc 88 _ _ wt c w hw hw1 hw2⟩⟩
 ·intro x hx
  simp only [ag,ae,or_false] at hx
  rcases hx with rfl | rfl | rfl
  ·exact ⟨⟨lJ,by simpa using nJ⟩,aO _,cJ⟩
  ·exact ⟨⟨lV,by simpa using nV⟩,aO _,cV⟩
  ·exact ⟨⟨lU,by simpa using nU⟩,aO _,cU⟩
 ·refine ⟨fun e he=>?_,(fun e he=>by cases he),fun e he=>by cases he⟩
  simp only [fG,ag,ae,or_false] at he
  rcases he with rfl | rfl | rfl
  ·exact ⟨⟨bJ,oJ,none⟩,J.2.1,J.2.2,i,2,(by show J=_; rw [←eJ]),rfl,rfl,h0,h1,rfl,rfl⟩
  ·exact ⟨⟨bV,oV,none⟩,V.2.1,V.2.2,i,2,(by show V=_; rw [←eV]),rfl,rfl,h0,h2,rfl,rfl⟩
  ·exact ⟨⟨bU,oU,none⟩,VC.2.1,VC.2.2,k,2,(by show VC=_; rw [←eU]),rfl,rfl,h3,h4,rfl,rfl⟩
theorem abV (eJ:J.1=some ⟨bJ,oJ,none⟩) (eV:V.1=some ⟨bV,oV,none⟩) (eU:VC.1=some ⟨bU,oU,none⟩) (h0:0≤i) (h1:i<(J.2.1:Nat)) (h2:i<(V.2.1:Nat)) (h3:0≤k) (h4:k<(VC.2.1:Nat)) (hw1:1≤wt) (hw2:wt≤1000000000)
  (lJ:bJ<w0.heap.size) (nJ:bJ≠nc) (lV:bV<w0.heap.size) (nV:bV≠nc) (lU:bU<w0.heap.size) (nU:bU≠nc) (cJ:∀(q:Nat) (x:Value),[num 2][q]?=some x→w0.cell? ⟨bJ,oJ+i.toNat*1+q,none⟩=some x) (cV:∀(q:Nat) (x:Value),(v.cs nc)[q]?=some x→w0.cell? ⟨bV,oV+i.toNat*7+q,none⟩=some x) (cU:∀(q:Nat) (x:Value),(u.cs nc)[q]?=some x→w0.cell? ⟨bU,oU+k.toNat*7+q,none⟩=some x)
  (hown:∀g∈[nc,gl]++[nb,nm],g∈[nc]∨w0.heap.size≤g) (hnd:([nc,gl]++[nb,nm]).Nodup) (h:dP (u6 3 B3 VC J nb nm gl k M i) (fO nc gl (f) [r0,r1,r2]) [gq nb nc B0 B1 B2 B3,kg nm wt J V] a w) (hk:dO w0 [nc] w) (hQ:∀a' w',dP (u6 3 B3 VC J nb nm gl k M (bg.wrap (i+1))) (fO nc gl (((f||rf v u)||!ma (fQ v u).1 (fQ v u).2 wt)||zg r2 (jY (fQ v u) wt)) [r0,r1,qH r2 (jY (fQ v u) wt)]) [gq nb nc B0 B1 B2 B3,kg nm wt J V] a' w'→dO w0 [nc] w'→Q .normal a' w') :
  (jK (dN bE)).wp aa Q a w:=by
 refine r9 (aj4 [r0,r1,r2] k M wt i (J.2.1:Nat) v u) (Ap f v u wt) [B0,B1,B2,B3,VC,J,V] (g:=[(mB 20 [var 9,var 10],.bool true)]) (wt:=[(5,var 9,1,2),(6,var 9,7,3),(4,var 0,7,4)]) (lt:=[]) (sb:=[]) (T:=tT) (K:=[]) (RT:=[]) (wb:=[dU [.int .i64 2],dU (.pointer (some ⟨0,0,none⟩)::iE 11),dU (.pointer (some ⟨0,0,none⟩)::iE 17)]) (ws:=[(bJ,oJ+i.toNat*1,[num 2]),(bV,oV+i.toNat*7,v.cs nc),(bU,oU+k.toNat*7,u.cs nc)]) (fr:=wm 3) (H:=ku 3) (lo:=[kN,wu]) 44 .normal [0,1] [0,1] (by kernel_rfl) (by kernel_rfl) (by exact hnd) ⟨afm (by exact decide_eq_true h1),?_,gD,fT,?_,fw (by exact hown),gH,fun _=>?_⟩ h hk hQ
 ·intro t ht
  simp only [tT,ag,ae,or_false] at ht
  rcases ht with rfl | rfl
  ·exact ⟨rfl,fun nc c w _ _ hw=>⟨[v.val nc,u.val nc],.agg ⟨[num (fQ v u).1,num (fQ v u).2]⟩,rf v u,by kernel_rfl,by kernel_rfl,by kernel_rfl,(BQ nc c v.a v.b v.c v.d v.e v.f u.a u.b u.c u.d u.e u.f w hw).mono (fun r w' ⟨q1,q2⟩=>⟨q1,by rw [BR] at q2; exact q2⟩)⟩⟩
  ·exact ⟨rfl,fun nc c w _ _ hw=>⟨[.pointer (some ⟨nc,0,none⟩),.agg ⟨[num (fQ v u).1,num (fQ v u).2]⟩,num wt],.agg ⟨[num (jY (fQ v u) wt).1,num (jY (fQ v u) wt).2]⟩,!ma (fQ v u).1 (fQ v u).2 wt,by kernel_rfl,by kernel_rfl,by kernel_rfl,BL nc 88 _ _ wt c w hw hw1 hw2⟩⟩
 ·intro x hx
  simp only [ag,ae,or_false] at hx
  rcases hx with rfl | rfl | rfl
  ·exact ⟨⟨lJ,by simpa using nJ⟩,aO _,cJ⟩
  ·exact ⟨⟨lV,by simpa using nV⟩,aO _,cV⟩
  ·exact ⟨⟨lU,by simpa using nU⟩,aO _,cU⟩
 ·refine ⟨fun e he=>?_,(fun e he=>by cases he),fun e he=>by cases he⟩
  simp only [fG,ag,ae,or_false] at he
  rcases he with rfl | rfl | rfl
  ·exact ⟨⟨bJ,oJ,none⟩,J.2.1,J.2.2,i,2,(by show J=_; rw [←eJ]),rfl,rfl,h0,h1,rfl,rfl⟩
  ·exact ⟨⟨bV,oV,none⟩,V.2.1,V.2.2,i,2,(by show V=_; rw [←eV]),rfl,rfl,h0,h2,rfl,rfl⟩
  ·exact ⟨⟨bU,oU,none⟩,VC.2.1,VC.2.2,k,2,(by show VC=_; rw [←eU]),rfl,rfl,h3,h4,rfl,rfl⟩
theorem ab7 (hB:B0.2.1=3) (h:dP ([some (.agg ⟨[dK nc,dJ B0,dJ B1,dJ B2,dJ B3]⟩),some (dJ VC)]++ag6 57 (some undef)) [(nc,[.bool f],88)] [] a w) (hk:dO w0 [nc] w)
  (hQ:∀a' w' gl nb,w.heap.size≤gl→w.heap.size≤nb→([nc,gl]++[nb]).Nodup→dP (vv 3 VC nb gl) (fO nc gl f [(0,0),(0,0),(0,0)]) [gq nb nc B0 B1 B2 B3] a' w'→dO w0 [nc] w'→D.wp aa Q a' w') :
  (o7 [dZ (dN bE),jM (dN bE)] D).wp aa Q a w:=by
 refine jZ [] [f] [B0,B1,B2,B3,VC] (g:=[]) (wt:=[]) (lt:=[(0,.int .i64 3)]) (sb:=[]) (T:=[]) (K:=[]) (RT:=[]) (wb:=[]) (ws:=[]) (fr:=[.agg ⟨[.pointer (some ⟨0,0,none⟩),dM 0,dM 1,dM 2,dM 3]⟩,dM 4]++ag6 57 undef) (H:=[dQ [mB 1 [.int .i64 0]] 88]) (lo:=[]) (us':=fun ng nl=>vv 3 VC (nl.headD 0) (ng.headD 0)) (gs':=fun ng _=>fO nc (ng.headD 0) f [(0,0),(0,0),(0,0)]) (ls':=fun _ nl=>[gq (nl.headD 0) nc B0 B1 B2 B3]) 44 _ [0,1] [0] [5] [2] (fun ng nl e1 e2=>?_) (by kernel_rfl) (fun ng nl e1 e2 e3=>?_) ⟨fB _,gG,gD,fT,il _ _,fw (by simp),gH,fun _=>?_⟩ h hk (fun a' w' ng nl e1 e2 e3 e4 hs hk'=>?_)
 ·match ng,nl,e1,e2 with
  | [y],[x],_,_=>show (_:Option _)=_; kernel_rfl
 ·match ng,nl,e1,e2 with
  | [y],[x],_,_=>exact e3
 ·refine ⟨(fun e he=>by cases he),fun e he=>?_,fun e he=>by cases he⟩
  simp only [fG,ag,ae,or_false] at he
  subst he
  exact ⟨2,by show some (num 3)=some (.int .i64 (B0.2.1:Nat)); rw [hB]; rfl⟩
 ·match ng,nl,e1,e2 with
  | [y],[x],_,_=>exact hQ a' w' y x (e4 y (by simp)).1 (e4 x (by simp)).1 e3 hs hk'
theorem acb (hown:∀g∈[nc,gl]++[nb],g∈[nc]∨w0.heap.size≤g) (hnd:([nc,gl]++[nb]).Nodup) (h:dP (vv 3 VC nb gl) (fO nc gl f [r0,r1,r2]) [gq nb nc B0 B1 B2 B3] a w) (hk:dO w0 [nc] w) (hQ:∀a' w',dP (ja 3 B3 VC nb gl 0 (B3.2.1:Nat)) (fO nc gl f [r0,r1,r2]) [gq nb nc B0 B1 B2 B3] a' w'→dO w0 [nc] w'→D.wp aa Q a' w') :
  (o7 [dZ (nP (dN bE))] D).wp aa Q a w :=
 uf (qO [r0,r1,r2] 0 (B3.2.1:Nat)) [f] [B0,B1,B2,B3,VC] (g:=[]) (wt:=[]) (lt:=[(3,var 1)]) (sb:=[]) (T:=[]) (K:=[]) (RT:=[]) (wb:=[]) (ws:=[]) (fr:=Hu 3) (H:=ku 3) (lo:=[kN]) 44 _ [0,1] [0] (by kernel_rfl) (by kernel_rfl) (by exact hnd) ⟨fB _,gG,gD,fT,il _ _,fw (by exact hown),gH,fun _=>⟨(fun e he=>by cases he),(fun e he=>by
  simp only [fG,ag,ae,or_false] at he
  subst he
  exact ⟨2,by kernel_rfl⟩),fun e he=>by cases he⟩⟩ h hk hQ
theorem ab3 (hown:∀g∈[nc,gl]++[],g∈[nc]∨w0.heap.size≤g) (hnd:([nc,gl]++[]).Nodup) (h:dP (xw 3 gl) (fO nc gl f [r0,r1,r2]) [] a w) (hk:dO w0 [nc] w)
  (hQ:∀a' w',dP (xw 3 gl) (fO nc gl f [r0,r1,r2]) [] a' w'→dO w0 [nc] w'→R (.returned (.slice (some ⟨gl,0,none⟩) 3 3)) w') :
  (sR 3 (dN bE)).wp aa (bodyPost aa bE R) a w :=
 qQ (qO [r0,r1,r2] 0 0) [f] [] (g:=[]) (wt:=[]) (lt:=[]) (sb:=[]) (T:=[]) (K:=[]) (RT:=[]) (wb:=[]) (ws:=[]) (fr:=Hr 3) (H:=ku 3) (lo:=[]) (u:=.slice (some ⟨gl,0,none⟩) 3 3) 44 [0,1] [] (by kernel_rfl) (by kernel_rfl) (by exact hnd) ⟨fB _,gG,gD,fT,il _ _,fw (by exact hown),gH,fun _=>iI⟩ h hk hQ
variable {rs:List (Int×Int)}
theorem abD (hn:1≤rs.length∧rs.length≤3) (hown:∀g∈[nc,gl]++[nb],g∈[nc]∨w0.heap.size≤g) (hnd:([nc,gl]++[nb]).Nodup) (hlt:k<M) (h:dP (ja rs.length B3 VC nb gl k M) (fO nc gl f rs) [gq nb nc B0 B1 B2 B3] a w) (hk:dO w0 [nc] w) (hQ:∀a' w',dP (ja rs.length B3 VC nb gl k M) (fO nc gl f rs) [gq nb nc B0 B1 B2 B3] a' w'→dO w0 [nc] w'→D.wp aa Q a' w') :
  (o7 [dZ (iW (dN bE)),dZ (fU (iW (dN bE)))] D).wp aa Q a w:=by
 match rs,hn with
 | [r0],_=>exact abE hown hnd hlt h hk hQ
 | [r0,r1],_=>exact abF hown hnd hlt h hk hQ
 | [r0,r1,r2],_=>exact abG hown hnd hlt h hk hQ
theorem abL (hn:1≤rs.length∧rs.length≤3) (hown:∀g∈[nc,gl]++[nb],g∈[nc]∨w0.heap.size≤g) (hnd:([nc,gl]++[nb]).Nodup) (hlt:¬k<M) (h:dP (ja rs.length B3 VC nb gl k M) (fO nc gl f rs) [gq nb nc B0 B1 B2 B3] a w) (hk:dO w0 [nc] w) (hQ:∀a' w',dP (ja rs.length B3 VC nb gl k M) (fO nc gl f rs) [gq nb nc B0 B1 B2 B3] a' w'→dO w0 [nc] w'→Q (.exit 0) a' w') :
  (iW (dN bE)).wp aa Q a w:=by
 match rs,hn with
 | [r0],_=>exact abM hown hnd hlt h hk hQ
 | [r0,r1],_=>exact abN hown hnd hlt h hk hQ
 | [r0,r1,r2],_=>exact abO hown hnd hlt h hk hQ
theorem abW (hn:1≤rs.length∧rs.length≤3) (hown:∀g∈[nc,gl]++[nb],g∈[nc]∨w0.heap.size≤g) (hnd:([nc,gl]++[nb]).Nodup) (h:dP (ja rs.length B3 VC nb gl k M) (fO nc gl f rs) [gq nb nc B0 B1 B2 B3] a w) (hk:dO w0 [nc] w) (hQ:∀a' w',dP (ja rs.length B3 VC nb gl (bg.wrap (k+1)) M) (fO nc gl f rs) [gq nb nc B0 B1 B2 B3] a' w'→dO w0 [nc] w'→Q .normal a' w') :
  (sR 3 (iW (dN bE))).wp aa Q a w:=by
 match rs,hn with
 | [r0],_=>exact abX hown hnd h hk hQ
 | [r0,r1],_=>exact abY hown hnd h hk hQ
 | [r0,r1,r2],_=>exact abZ hown hnd h hk hQ
theorem abH (hn:1≤rs.length∧rs.length≤3) (eM:B3.1=some ⟨bM,oM,none⟩) (h0:0≤k) (h1:k<(B3.2.1:Nat)) (lM:bM<w0.heap.size) (nM:bM≠nc) (cM:∀(q:Nat) (u:Value),[num wt,dJ J,dJ V][q]?=some u→w0.cell? ⟨bM,oM+k.toNat*3+q,none⟩=some u)
  (hown:∀g∈[nc,gl]++[nb],g∈[nc]∨w0.heap.size≤g) (h:dP (ja rs.length B3 VC nb gl k M) (fO nc gl f rs) [gq nb nc B0 B1 B2 B3] a w) (hk:dO w0 [nc] w) (hQ:∀a' w' nm,w.heap.size≤nm→([nc,gl]++[nb,nm]).Nodup→dP (u6 rs.length B3 VC J nb nm gl k M 0) (fO nc gl (f) rs) [gq nb nc B0 B1 B2 B3,kg nm wt J V] a' w'→dO w0 [nc] w'→D.wp aa Q a' w') :
  (o7 [dZ (jT (dN bE)),dZ (fU (jT (dN bE)))] D).wp aa Q a w:=by
 match rs,hn with
 | [r0],_=>exact abI eM h0 h1 lM nM cM hown h hk hQ
 | [r0,r1],_=>exact abJ eM h0 h1 lM nM cM hown h hk hQ
 | [r0,r1,r2],_=>exact abK eM h0 h1 lM nM cM hown h hk hQ
theorem acd (hn:1≤rs.length∧rs.length≤3) (hown:∀g∈[nc,gl]++[nb,nm],g∈[nc]∨w0.heap.size≤g) (hlt:¬i<(J.2.1:Nat)) (hnd:([nc,gl]++[nb]).Nodup) (h:dP (u6 rs.length B3 VC J nb nm gl k M i) (fO nc gl (f) rs) [gq nb nc B0 B1 B2 B3,kg nm wt J V] a w) (hk:dO w0 [nc] w) (hQ:∀a' w',dP (ja rs.length B3 VC nb gl k M) (fO nc gl f rs) [gq nb nc B0 B1 B2 B3] a' w'→dO w0 [nc] w'→Q (.exit 2) a' w') :
  (jK (dN bE)).wp aa Q a w:=by
 match rs,hn with
 | [r0],_=>exact ace hown hlt hnd h hk hQ
 | [r0,r1],_=>exact acf hown hlt hnd h hk hQ
 | [r0,r1,r2],_=>exact acg hown hlt hnd h hk hQ
theorem ab8 (hn:1≤rs.length∧rs.length≤3) (hown:∀g∈[nc,gl]++[nb],g∈[nc]∨w0.heap.size≤g) (hnd:([nc,gl]++[nb]).Nodup) (h:dP (vv rs.length VC nb gl) (fO nc gl f rs) [gq nb nc B0 B1 B2 B3] a w) (hk:dO w0 [nc] w) (hQ:∀a' w',dP (ja rs.length B3 VC nb gl 0 (B3.2.1:Nat)) (fO nc gl f rs) [gq nb nc B0 B1 B2 B3] a' w'→dO w0 [nc] w'→D.wp aa Q a' w') :
  (o7 [dZ (nP (dN bE))] D).wp aa Q a w:=by
 match rs,hn with
 | [r0],_=>exact ab9 hown hnd h hk hQ
 | [r0,r1],_=>exact aca hown hnd h hk hQ
 | [r0,r1,r2],_=>exact acb hown hnd h hk hQ
theorem ab0 (hn:1≤rs.length∧rs.length≤3) (hown:∀g∈[nc,gl]++[],g∈[nc]∨w0.heap.size≤g) (hnd:([nc,gl]++[]).Nodup) (h:dP (xw rs.length gl) (fO nc gl f rs) [] a w) (hk:dO w0 [nc] w)
  (hQ:∀a' w',dP (xw rs.length gl) (fO nc gl f rs) [] a' w'→dO w0 [nc] w'→R (.returned (.slice (some ⟨gl,0,none⟩) rs.length rs.length)) w') :
  (sR 3 (dN bE)).wp aa (bodyPost aa bE R) a w:=by
 match rs,hn with
 | [r0],_=>exact ab1 hown hnd h hk hQ
 | [r0,r1],_=>exact ab2 hown hnd h hk hQ
 | [r0,r1,r2],_=>exact ab3 hown hnd h hk hQ
theorem abP {j:Nat} (hn:1≤rs.length∧rs.length≤3) (hj:j<rs.length) (eJ:J.1=some ⟨bJ,oJ,none⟩) (eV:V.1=some ⟨bV,oV,none⟩) (eU:VC.1=some ⟨bU,oU,none⟩) (h0:0≤i) (h1:i<(J.2.1:Nat)) (h2:i<(V.2.1:Nat)) (h3:0≤k) (h4:k<(VC.2.1:Nat)) (hw1:1≤wt) (hw2:wt≤1000000000)
  (lJ:bJ<w0.heap.size) (nJ:bJ≠nc) (lV:bV<w0.heap.size) (nV:bV≠nc) (lU:bU<w0.heap.size) (nU:bU≠nc) (cJ:∀(q:Nat) (x:Value),[num j][q]?=some x→w0.cell? ⟨bJ,oJ+i.toNat*1+q,none⟩=some x) (cV:∀(q:Nat) (x:Value),(v.cs nc)[q]?=some x→w0.cell? ⟨bV,oV+i.toNat*7+q,none⟩=some x) (cU:∀(q:Nat) (x:Value),(u.cs nc)[q]?=some x→w0.cell? ⟨bU,oU+k.toNat*7+q,none⟩=some x)
  (hown:∀g∈[nc,gl]++[nb,nm],g∈[nc]∨w0.heap.size≤g) (hnd:([nc,gl]++[nb,nm]).Nodup) (h:dP (u6 rs.length B3 VC J nb nm gl k M i) (fO nc gl (f) rs) [gq nb nc B0 B1 B2 B3,kg nm wt J V] a w) (hk:dO w0 [nc] w) (hQ:∀a' w',dP (u6 rs.length B3 VC J nb nm gl k M (bg.wrap (i+1))) (fO nc gl (vg rs f j v u wt).2 (vg rs f j v u wt).1) [gq nb nc B0 B1 B2 B3,kg nm wt J V] a' w'→dO w0 [nc] w'→Q .normal a' w') :
  (jK (dN bE)).wp aa Q a w:=by
 match rs,hn,j,hj with
 | [r0],_,0,_=>exact abQ eJ eV eU h0 h1 h2 h3 h4 hw1 hw2 lJ nJ lV nV lU nU cJ cV cU hown hnd h hk hQ
 | [r0,r1],_,0,_=>exact abR eJ eV eU h0 h1 h2 h3 h4 hw1 hw2 lJ nJ lV nV lU nU cJ cV cU hown hnd h hk hQ
 | [r0,r1],_,1,_=>exact abS eJ eV eU h0 h1 h2 h3 h4 hw1 hw2 lJ nJ lV nV lU nU cJ cV cU hown hnd h hk hQ
 | [r0,r1,r2],_,0,_=>exact abT eJ eV eU h0 h1 h2 h3 h4 hw1 hw2 lJ nJ lV nV lU nU cJ cV cU hown hnd h hk hQ
 | [r0,r1,r2],_,1,_=>exact abU eJ eV eU h0 h1 h2 h3 h4 hw1 hw2 lJ nJ lV nV lU nU cJ cV cU hown hnd h hk hQ
 | [r0,r1,r2],_,2,_=>exact abV eJ eV eU h0 h1 h2 h3 h4 hw1 hw2 lJ nJ lV nV lU nU cJ cV cU hown hnd h hk hQ
 | [r0],_,j+1,hj=>exfalso; simp only [dB,aeT] at hj; omega
 | [r0,r1],_,j+2,hj=>exfalso; simp only [dB,aeT] at hj; omega
 | [r0,r1,r2],_,j+3,hj=>exfalso; simp only [dB,aeT] at hj; omega
theorem ab4 {n:Nat} (hn:1≤n∧n≤3) (hB:B0.2.1=n) (h:dP ([some (.agg ⟨[dK nc,dJ B0,dJ B1,dJ B2,dJ B3]⟩),some (dJ VC)]++ag6 57 (some undef)) [(nc,[.bool f],88)] [] a w) (hk:dO w0 [nc] w)
  (hQ:∀a' w' gl nb,w.heap.size≤gl→w.heap.size≤nb→([nc,gl]++[nb]).Nodup→dP (vv n VC nb gl) (fO nc gl f (ag6 n (0,0))) [gq nb nc B0 B1 B2 B3] a' w'→dO w0 [nc] w'→D.wp aa Q a' w') :
  (o7 [dZ (dN bE),jM (dN bE)] D).wp aa Q a w:=by
 match n,hn with
 | 1,_=>exact ab5 hB h hk hQ
 | 2,_=>exact ab6 hB h hk hQ
 | 3,_=>exact ab7 hB h hk hQ
 | 0,hn=>omega
 | n+4,hn=>omega
end Go.Proofs
end
