/-
  Part of the proof: see the last text.
-/
import Derived.Test.YthbfmjlcnfgnbaaGreatZSb
set_option linter.unusedVariables false
set_option maxHeartbeats 8000000
open Array renaming getElem?_eq_some_iff→aB
open Bool renaming and_eq_true→aQ
open List renaming all_eq_true→bn,append_nil→afk,cons_append→dw,eq_nil_of_length_eq_zero→bR,getElem?_append_left→aH,getElem?_append_right→bu,getElem?_cons_succ→aeW,getElem?_drop→aeX,getElem?_eq_getElem→ah,getElem?_eq_none→bQ,getElem?_eq_some_iff→ai,getElem?_map→bY,getElem?_of_mem→cZ,getElem?_set_ne→bz,getElem?_take→dx,length→ae1,length_append→afa,length_cons→dB,length_map→dF,length_nil→aeT,mem_append→bH,mem_append_left→aeY,mem_append_right→dm,mem_cons→ag,mem_cons_of_mem→aT,mem_cons_self→aA,mem_map→aeZ,mem_of_getElem?→aN,nodup_append→afe,pairwise_iff_getElem→ae7,range→dh,replicate→az,size_toArray→aeR,take_of_length_le→dH
open List.cons renaming injEq→afj
open Nat renaming beq→ay,eq_of_beq_eq_true→bf,le_of_ble_eq_true→ae8,le_of_not_lt→afb,le_refl→au,le_trans→aZ,lt_of_lt_of_le→aC
open Ne renaming symm→ae4
open Option renaming map_eq_some_iff→aR
open Option.some renaming injEq→ak
open Prod.mk renaming injEq→aP
open Go.Result renaming andThen_ok→bC
open Go.Sem renaming run_bind→di,run_pure→dA
open Go.World renaming cell?→bS
section
section
namespace Go.Sm
open Go.RowKit
structure Pl where
 gp:List Nat
 lp:List (Nat×Nat)
def fP (E:Env) (p:Pl):Nat→Value→Option Value
 | 0,_=>none
 | d+1,v=>match v with
  | .agg ⟨l⟩=>match eQ (fP E p d) l with
   | some r=>some (.agg ⟨r⟩)
   | none=>none
  | .tuple ⟨l⟩=>match eQ (fP E p d) l with
   | some r=>some (.tuple ⟨r⟩)
   | none=>none
  | .int k n=>some (.int k n)
  | .bool b=>some (.bool b)
  | .string s=>some (.string s)
  | .pointer none=>some (.pointer none)
  | .slice none n c=>some (.slice none n c)
  | .nilFunc=>some .nilFunc
  | .pointer (some ⟨i,o,none⟩)=>match p.gp[i]? with
   | some g=>some (.pointer (some ⟨g,o,none⟩))
   | none=>none
  | .pointer (some ⟨i,o,some 0⟩)=>match p.lp[i]? with
   | some x=>some (.pointer (some ⟨x.1,o+x.2,none⟩))
   | none=>none
  | .slice (some ⟨i,o,none⟩) n c=>match p.gp[i]? with
   | some g=>some (.slice (some ⟨g,o,none⟩) n c)
   | none=>none
  | .func (.func f) ⟨[]⟩ ⟨[]⟩=>bif ay f 3000000 then none else bif Nat.ble 2000000 f then some (.slice (E.sl (f - 2000000)).1 (E.sl (f - 2000000)).2.1 (E.sl (f - 2000000)).2.2) else bif jq f then none else some (.func (.func f) ⟨[]⟩ ⟨[]⟩)
  | .func (.func f) ⟨x::xs⟩ ⟨[]⟩=>bif jq f then eF E 300 (.func (.func f) ⟨x::xs⟩ ⟨[]⟩) else none
  | _=>none
def uV (w:World) (g:Nat):Array Value×TypeId×(Nat×Nat):=match w.heap[g]? with
 | some (.cells cs t fr)=>(cs,t,fr)
 | _=>(#[],0,0,0)
def iC (E:Env) (p:Pl) (w:World):Mp:=⟨fun i=>p.gp[i]?,fun i=>(p.lp[i]?).map (·.1),fun _=>false,fun _=>0,fun _=>0,E,fun i=>((p.lp[i]?).map (·.2)).getD 0,uV w⟩
structure At (p:Pl) (m:Mp):Prop where
 gb:∀(i g:Nat),p.gp[i]?=some g→m.gb i=some g
 lo:∀(i g:Nat),p.gp[i]?=some g→m.loose i=false
 lb:∀(i:Nat) (x:Nat×Nat),p.lp[i]?=some x→m.lb i=some x.1∧m.sh i=x.2
theorem vF (E:Env) (p:Pl) (w:World):At p (iC E p w):=⟨fun i g e=>e,fun i g e=>rfl,fun i x e=>⟨by simp [iC,e],by simp [iC,e]⟩⟩
variable {p:Pl} {m m':Mp}
theorem At.mono (h:At p m) (hm:Le m m'):At p m' :=
 ⟨fun i g e=>hm.gb i g (h.gb i g e),fun i g e=>(hm.loose i g (h.gb i g e)).trans (h.lo i g e),fun i x e=>⟨hm.lb i _ (h.lb i x e).1,(hm.sh i _ (h.lb i x e).1).trans (h.lb i x e).2⟩⟩
theorem qJ {p:Pl} {m:Mp} (hA:At p m):∀(d:Nat) (v u:Value),fP m.env p d v=some u→VR m v u
 | 0,_,_,h=>by cases h
 | d+1,v,u,h=>by
  unfold fP at h
  split at h
  ·split at h
   ·rename_i r hr; injection h with h; subst h; exact (qp (qJ hA d) _ _ hr).agg
   ·cases h
  ·split at h
   ·rename_i r hr; injection h with h; subst h; exact (qp (qJ hA d) _ _ hr).tuple
   ·cases h
  ·injection h with h; subst h; exact .int _ _
  ·injection h with h; subst h; exact .bool _
  ·injection h with h; subst h; exact .string _
  ·injection h with h; subst h; exact .tH
  ·injection h with h; subst h; exact .qD _ _
  ·injection h with h; subst h; exact .nilFunc
  ·split at h
   ·rename_i g hg; injection h with h; subst h; exact .pO (hA.gb _ _ hg)
   ·cases h
  ·split at h
   ·rename_i x hx; injection h with h; subst h; exact .uy (hA.lb _ _ hx).1 (by rw [(hA.lb _ _ hx).2])
   ·cases h
  ·split at h
   ·rename_i g hg; injection h with h; subst h; exact .ow (hA.gb _ _ hg)
   ·cases h
  ·rename_i f
   cases hdd:ay f 3000000 with
   | true=>rw [hdd] at h; cases h
   | false =>
   rw [hdd] at h
   simp only [cond_false] at h
   cases hb:Nat.ble 2000000 f with
   | true =>
    rw [hb] at h
    simp only [cond_true] at h
    injection h with h; subst h
    exact .hnd (Nat.ble_eq_true_of_le (aZ (ae8 rfl:1000000≤2000000) (ae8 hb))) hb
   | false =>
    rw [hb] at h
    simp only [cond_false] at h
    cases hf:jq f with
    | true=>rw [hf] at h; cases h
    | false =>
     rw [hf] at h
     simp only [cond_false] at h
     injection h with h; subst h
     exact .func hf rfl (fun i v v' h=>by simp at h) rfl (fun i v v' h=>by simp at h)
  ·rename_i f x xs
   cases hf:jq f with
   | false=>rw [hf] at h; cases h
   | true =>
    rw [hf] at h
    simp only [cond_true] at h
    obtain ⟨_,hu⟩:=Az h
    rcases hu with ⟨k,n,rfl⟩ | ⟨b,rfl⟩
    ·exact .jX hf ⟨_,h⟩
    ·exact .jV hf ⟨_,h⟩
  ·cases h
theorem p9 {p:Pl} {m:Mp} (hA:At p m):∀(d:Nat) (v u v':Value),fP m.env p d v=some u→VR m v v'→v'=u
 | 0,_,_,_,h,_=>by cases h
 | d+1,v,u,v',h,hv=>by
  unfold fP at h
  split at h
  ·split at h
   ·rename_i r hr
    injection h with h; subst h
    obtain ⟨cs',rfl,hc⟩:=uD hv
    have:=oN (p9 hA d) _ _ _ hr hc
    obtain ⟨l'⟩:=cs'
    simp only at this
    rw [this]
   ·cases h
  ·split at h
   ·rename_i r hr
    injection h with h; subst h
    obtain ⟨cs',rfl,hc⟩:=DN hv
    have:=oN (p9 hA d) _ _ _ hr hc
    obtain ⟨l'⟩:=cs'
    simp only at this
    rw [this]
   ·cases h
  ·injection h with h; subst h; exact wh hv
  ·injection h with h; subst h; exact Ab hv
  ·injection h with h; subst h; cases hv; rfl
  ·injection h with h; subst h; cases hv; rfl
  ·injection h with h; subst h; cases hv; rfl
  ·injection h with h; subst h; cases hv; rfl
  ·split at h
   ·rename_i g hg
    injection h with h; subst h
    cases hv with
    | pO e=>rw [hA.gb _ _ hg] at e; injection e with e; subst e; rfl
   ·cases h
  ·split at h
   ·rename_i x hx
    injection h with h; subst h
    cases hv with
    | uy e ho=>rw [(hA.lb _ _ hx).1] at e; injection e with e; rw [(hA.lb _ _ hx).2] at ho; subst e; subst ho; rfl
   ·cases h
  ·split at h
   ·rename_i g hg
    injection h with h; subst h
    cases hv with
    | ow e=>rw [hA.gb _ _ hg] at e; injection e with e; subst e; rfl
    | qW e hl _ _=>rw [hA.lo _ _ hg] at hl; cases hl
    | qV e hl=>rw [hA.lo _ _ hg] at hl; cases hl
   ·cases h
  ·rename_i f
   cases hdd:ay f 3000000 with
   | true=>rw [hdd] at h; cases h
   | false =>
   rw [hdd] at h
   simp only [cond_false] at h
   cases hb:Nat.ble 2000000 f with
   | true =>
    rw [hb] at h
    simp only [cond_true] at h
    injection h with h; subst h
    exact EN (k:=f - 2000000) (by simp [zz,hb]) hv
   | false =>
    rw [hb] at h
    simp only [cond_false] at h
    cases hf:jq f with
    | true=>rw [hf] at h; cases h
    | false =>
     rw [hf] at h
     simp only [cond_false] at h
     injection h with h; subst h
     cases hv with
     | jX h0 _=>rw [hf] at h0; cases h0
     | jV h0 _=>rw [hf] at h0; cases h0
     | hnd h0 _=>rw [hf] at h0; cases h0
     | func _ hl _ hl2 _ =>
      rw [bR hl.symm,bR hl2.symm]
  ·rename_i f x xs
   cases hf:jq f with
   | false=>rw [hf] at h; cases h
   | true =>
    rw [hf] at h
    simp only [cond_true] at h
    cases hv with
    | jX _ hh=>obtain ⟨d',hd⟩:=hh; exact ru m.env hd h
    | jV _ hh=>obtain ⟨d',hd⟩:=hh; exact ru m.env hd h
    | func h0 _ _ _ _=>rw [hf] at h0; cases h0
  ·cases h
def qc (E:Env) (p:Pl) (loc:Hp) (w:World):Prop:=∀(g:Nat) (c:Array Value×TypeId×(Nat×Nat)),E.fz g=some c→(w.heap[g]?=some (.cells c.1 c.2.1 c.2.2)∧g∉p.gp)∧∀(i s:Nat) (b:eG),p.lp[i]?=some (g,s)→loc[i]?=some b→(b.live=true∧b.loose=true)∧b.eD≠0
variable {E:Env} {loc:Hp} {w:World}
theorem EM (h:∀g,E.fz g=none):qc E p loc w:=fun g c hc=>by rw [h] at hc; cases hc
structure Pre (E:Env) (p:Pl) (fr:List Value) (H loc:Hp) (a:Act) (w:World):Prop where
 df:a.defers=[]
 lu:fr.length=a.tmps.size
 fr:∀(t:Nat) (v u:Value),fr[t]?=some v→a.tmps[t]?=some u→mo v=true∨fP E p 5 v=some u
 gl:∀(i:Nat) (b:eG),H[i]?=some b→(b.live=true∧b.loose=false∧b.eD=0∧b.cells.all kV=true)∧∃g vs,p.gp[i]?=some g∧eQ (fP E p 4) b.cells=some vs∧w.heap[g]?=some (.cells ⟨vs⟩ b.elem (0,0))
 lo:∀(i:Nat) (b:eG),loc[i]?=some b→b.live=true∧∃g s vs cs t f,p.lp[i]?=some (g,s)∧eQ (fP E p 4) b.cells=some vs∧w.heap[g]?=some (.cells cs t f)∧s+vs.length≤cs.size∧(∀(j:Nat) (v:Value),vs[j]?=some v→cs[s+j]?=some v)∧(b.loose=false→s=0∧cs.size=vs.length)∧(b.eD=0→t=b.elem∧f=(0,0))
 Yi:p.gp.length=H.length
 Zr:p.lp.length=loc.length
 gd:∀(i j g:Nat),p.gp[i]?=some g→p.gp[j]?=some g→i=j
 Yh:∀(i j g s:Nat),p.gp[i]?=some g→p.lp[j]?=some (g,s)→False
 fz:qc E p loc w
 f0:∀c,E.f0=some c→p.gp[0]?=some c
 ld:∀(i j g s s':Nat) (bi bj:eG),p.lp[i]?=some (g,s)→p.lp[j]?=some (g,s')→loc[i]?=some bi→loc[j]?=some bj→i=j∨(bi.loose=true∧bj.loose=true∧((s+bi.cells.length≤s'∨s'+bj.cells.length≤s)∨(bi.eD≠0∧bj.eD≠0)))
theorem nR {f:Value→Option Value}:∀(l r:List Value),eQ f l=some r→r.length=l.length
 | [],r,h=>by simp only [eQ,ak] at h; subst h; rfl
 | v::l,r,h=>by
  unfold eQ at h
  split at h
  ·split at h
   ·rename_i s hs
    injection h with h; subst h
    simp [nR l s hs]
   ·cases h
  ·cases h
variable {fr:List Value} {H:Hp} {a:Act}
theorem Pre.rel (h:Pre E p fr H loc a w):Rel (iC E p w) H loc w:=by
 have hA:=vF E p w
 have hsh:∀i g s,p.lp[i]?=some (g,s)→(iC E p w).sh i=s:=fun i g s e=>by simp [iC,e]
 have hlb:∀i g,(iC E p w).lb i=some g→∃s,p.lp[i]?=some (g,s):=fun i g e=>by
  simp only [iC,aR] at e
  obtain ⟨x,e1,e2⟩:=e
  exact ⟨x.2,by rw [e1,←e2]⟩
 have hgl:∀i g,p.gp[i]?=some g→∃b,H[i]?=some b:=fun i g e=>by
  have:=(ai.1 e).1
  rw [h.Yi] at this
  exact ⟨_,ah this⟩
 have hlo:∀i x,p.lp[i]?=some x→∃b,loc[i]?=some b:=fun i x e=>by
  have:=(ai.1 e).1
  rw [h.Zr] at this
  exact ⟨_,ah this⟩
 refine ⟨fun i g e=>?_,fun i g e=>?_,fun i j g bi bj e e' _ _ _ _=>h.gd i j g e e',fun i j g bi bj e e' hbi hbj=>?_,fun i j g e e'=>?_,fun i g b e hb hl=>?_,fun g c hc=>?_,h.f0⟩
 case refine_6 =>
  obtain ⟨⟨f1,f2⟩,f3⟩:=h.fz g c hc
  refine ⟨⟨f1,fun i e=>f2 (aN (show p.gp[i]?=some g from e))⟩,fun i b e hb=>?_⟩
  obtain ⟨s,e1⟩:=hlb i g e
  exact f3 i s b e1 hb
 ·obtain ⟨b,hb⟩:=hgl i g e
  obtain ⟨⟨k1,k2,k3,k4⟩,g',vs,e1,e2,e3⟩:=h.gl i b hb
  have e0:p.gp[i]?=some g:=e
  rw [e0] at e1; injection e1 with e1; subst e1
  refine ⟨(aB.1 e3).1,b,hb,⟨k2.symm,k3.symm,fun _=>⟨_,e3,by simp [nR _ _ e2],?_,fun _=>by simp [nR _ _ e2],fun e=>by rw [k2] at e; cases e⟩⟩⟩
  rw [dH (by simp [nR _ _ e2])]
  exact vB k4 (qp (qJ (m:=iC E p w) hA 4) _ _ e2) |> fun x=>by
   refine ⟨x.1,x.2⟩
 ·obtain ⟨s,e1⟩:=hlb i g e
  obtain ⟨b,hb⟩:=hlo i _ e1
  obtain ⟨k1,g',s',vs,cs,t,f,q1,q2,q3,q4,q5,q6,q7⟩:=h.lo i b hb
  rw [e1] at q1; injection q1 with q1; injection q1 with q1 q1'; subst q1; subst q1'
  have hln:=nR _ _ q2
  refine ⟨(aB.1 q3).1,b,hb,⟨fun _=>⟨cs,t,f,q3,by rw [hsh i g s e1]; omega,?_,fun hl=>⟨(hsh i g s e1).trans (q6 hl).1,by rw [(q6 hl).2,hln]⟩,q7⟩,fun e=>by rw [k1] at e; cases e⟩⟩
  rw [hsh i g s e1]
  have:(cs.toList.drop s).take b.cells.length=vs:=by
   apply List.ext_getElem?
   intro j
   simp only [dx,aeX]
   split
   ·rename_i hj
    have hj':j<vs.length:=by omega
    rw [ah hj']
    simpa using q5 j _ (ah hj')
   ·rw [bQ (by omega)]
  rw [this]
  exact qp (qJ (m:=iC E p w) hA 4) _ _ q2
 ·obtain ⟨s,e1⟩:=hlb i g e
  obtain ⟨s',e1'⟩:=hlb j g e'
  rw [hsh i g s e1,hsh j g s' e1']
  rcases h.ld i j g s s' bi bj e1 e1' hbi hbj with r | ⟨r1,r2,r3⟩
  ·exact .inl r
  ·exact .inr ⟨(h.lo i bi hbi).1,(h.lo j bj hbj).1,r1,r2,r3⟩
 ·obtain ⟨s',e1'⟩:=hlb j g e'
  exact h.Yh i j g s' e e1'
 ·obtain ⟨s,e1⟩:=hlb i g e
  obtain ⟨k1,g',s',vs,cs,t,f,q1,q2,q3,q4,q5,q6,q7⟩:=h.lo i b hb
  rw [e1] at q1; injection q1 with q1; injection q1 with q1 q1'; subst q1; subst q1'
  have ho:(iC E p w).bs g=(cs,t,f):=by simp [iC,uV,q3]
  exact ⟨cs,by rw [ho]; exact q3,by rw [ho],fun o _=>by rw [ho]⟩
structure Post (E:Env) (p q:Pl) (w:World) (fr':List Value) (H' loc':Hp) (a':Act) (w':World):Prop where
 df:a'.defers=[]
 lu:a'.tmps.size=fr'.length
 fr:∀(t:Nat) (v u:Value),fr'[t]?=some v→fP E q 5 v=some u→a'.tmps[t]?=some u
 gl:∀(i g:Nat) (b:eG) (vs:List Value),q.gp[i]?=some g→H'[i]?=some b→b.live=true→eQ (fP E q 4) b.cells=some vs→w'.heap[g]?=some (.cells ⟨vs⟩ b.elem (0,0))
 lo:∀(i g s:Nat) (b:eG) (vs:List Value),q.lp[i]?=some (g,s)→loc'[i]?=some b→b.live=true→eQ (fP E q 4) b.cells=some vs →
  ∃cs t f,w'.heap[g]?=some (.cells cs t f)∧(∀(j:Nat) (v:Value),vs[j]?=some v→cs[s+j]?=some v)∧(b.loose=false→cs=⟨vs⟩∧s=0)∧(b.eD=0→t=b.elem∧f=(0,0))
 out:∀(i g s:Nat) (b:eG),p.lp[i]?=some (g,s)→loc'[i]?=some b→b.loose=true→∃cs,w'.heap[g]?=some (.cells cs (uV w g).2.1 (uV w g).2.2)∧cs.size=(uV w g).1.size ∧
  ∀o,(∀(j s':Nat) (bj:eG),p.lp[j]?=some (g,s')→loc'[j]?=some bj→bj.eD=0→o<s'∨s'+bj.cells.length≤o)→cs[o]?=(uV w g).1[o]?
 os:w'.os=w.os
 tape:w'.tape=w.tape
 output:w'.output=w.output
 size:w.heap.size≤w'.heap.size
 frame:∀g,g<w.heap.size→g∉p.gp→(∀x∈p.lp,x.1≠g)→w'.heap[g]?=w.heap[g]?
theorem Pre.GH (h:Pre E p fr H loc a w):jQ (iC E p w) H w ⟨fr,H,loc,[]⟩ (iC E p w) a w:=by
 have hA:=vF E p w
 have hR:=h.rel
 refine ⟨?_,⟨by simpa using h.lu,fun t v u e1 e2=>?_⟩,h.df⟩
 ·exact ⟨Le.refl _,hR,fun i g e=>.inl ⟨i,e⟩,fun _ _ e=>.inl e,fun _ _ e=>.inl e,fun _ _ e=>.inl e,rfl,rfl,rfl,au _,fun _ _ _ _=>rfl,fun _ _ _=>rfl,fun i hi=>(by simp at hi),fun _ _ _=>rfl,fun i hi=>(by simp at hi),au _,by simp,fun _ b e=>⟨b,e,rfl,rfl⟩,fun _ _ _ _ _ _ _=>rfl,hR.fz.lt⟩
 ·rcases h.fr t v u e1 (by simpa using e2) with r | r
  ·exact .inl r
  ·exact .inr (qJ (m:=iC E p w) hA 5 v u r)
variable {P:Program} {X:Xt} {O:ig} {esc:Nat→Bool} {fuel:Nat} {c:Code} {fr':List Value} {H' loc':Hp} {wg:List Nat} {Q:Exit→Act→World→Prop}
theorem O5 (hm:P.follows .mixedOrders=true) (hN:kP P) (hX:kD P X) (hO:iY P X.env O) (hP:jc O) {x:Ex}
  (hrun:exec P X O esc fuel c ⟨fr,H,loc,[]⟩=some (x,⟨fr',H',loc',wg⟩)) (h:Pre X.env p fr H loc a w) (hW:kv X (iC X.env p w))
  (hQ:∀m' a' w',jQ (iC X.env p w) H w ⟨fr',H',loc',wg⟩ m' a' w'→Q (vS x) a' w'):c.wp P Q a w:=by
 have hA:=vF X.env p w
 have hR:=h.rel
 have hsim:jQ (iC X.env p w) H w ⟨fr,H,loc,[]⟩ (iC X.env p w) a w:=by
  refine ⟨?_,⟨by simpa using h.lu,fun t v u e1 e2=>?_⟩,h.df⟩
  ·exact ⟨Le.refl _,hR,fun i g e=>.inl ⟨i,e⟩,fun _ _ e=>.inl e,fun _ _ e=>.inl e,fun _ _ e=>.inl e,rfl,rfl,rfl,au _,fun _ _ _ _=>rfl,fun _ _ _=>rfl,fun i hi=>(by simp at hi),fun _ _ _=>rfl,fun i hi=>(by simp at hi),au _,by simp,fun _ b e=>⟨b,e,rfl,rfl⟩,fun _ _ _ _ _ _ _=>rfl,hR.fz.lt⟩
  ·rcases h.fr t v u e1 (by simpa using e2) with r | r
   ·exact .inl r
   ·exact .inr (qJ (m:=iC X.env p w) hA 5 v u r)
 exact AA hm hN hX hO (m0:=iC X.env p w) (H0:=H) (w0:=w) ⟨rfl,hW⟩ hP c _ x _ _ a w Q hrun hsim fun m' a' w' hs=>hQ m' a' w' hs
variable {q:Pl} {a':Act} {w':World}
theorem Bt (h:Pre E p fr H loc a w) (hs:jQ (iC E p w) H w ⟨fr',H',loc',wg⟩ m' a' w') (hA':At q m') (hlq:∀(i:Nat) (x:Nat×Nat),p.lp[i]?=some x→q.lp[i]?=some x):Post E p q w fr' H' loc' a' w':=by
 have hA:=vF E p w
 have hR:=h.rel
 have hle:=hs.ext.le
 have hE:m'.env=E:=hle.env
 have hbs:m'.bs=uV w:=hle.bs
 refine ⟨hs.df,by have:=hs.fr.1; simp at this; omega,fun t v u e1 e2=>?_,fun i g b vs e1 e2 e3 e4=>?_,fun i g s b vs e1 e2 e3 e4=>?_,fun i g s b e1 e2 e3=>?_,hs.ext.os,hs.ext.tape,hs.ext.output,hs.ext.size,fun g hg h1 h2=>?_⟩
 ·have hlt:t<a'.tmps.toList.length:=by rw [←hs.fr.1]; exact (ai.1 e1).1
  rcases hs.fr.2 t v _ e1 (ah hlt) with r | r
  ·exfalso
   unfold mo at r
   split at r
   ·rename_i f
    unfold fP at e2
    simp only [r,cond_true] at e2
    cases e2
   ·cases r
  ·have:=p9 hA' 5 v u _ (by rw [hE]; exact e2) r
   have h2:=ah hlt
   rw [this] at h2
   simpa using h2
 ·obtain ⟨_,b',hb',hG⟩:=hs.ext.rel.ic i g (hA'.gb i g e1)
  rw [e2] at hb'; injection hb' with hb'; subst hb'
  obtain ⟨cs,q1,q2,q3,q4,_⟩:=hG.blk e3
  have hl:b.loose=false:=by rw [←hG.lo]; exact hA'.lo i g e1
  have hsz:=q4 hl
  have:cs.toList=vs:=by
   have q3':=q3.mono (Be m')
   have:=oN (p9 hA' 4) _ _ _ (by rw [hE]; exact e4) q3'
   rw [←this,dH (by simp [hsz])]
  rw [q1,←this]
 ·obtain ⟨k1,k2⟩:=hA'.lb i (g,s) e1
  obtain ⟨_,b',hb',hL⟩:=hs.ext.rel.iN i g k1
  rw [e2] at hb'; injection hb' with hb'; subst hb'
  obtain ⟨cs,t,f,q1,q2,q3,q4,q5⟩:=hL.blk e3
  have hvs:=oN (p9 hA' 4) _ _ _ (by rw [hE]; exact e4) q3
  have hln:=nR _ _ e4
  simp only at k2
  rw [k2] at hvs q2
  refine ⟨cs,t,f,q1,fun j v hj=>?_,fun hl=>?_,q5⟩
  ·rw [←hvs] at hj
   simp only [dx,aeX] at hj
   split at hj
   ·simpa using hj
   ·cases hj
  ·obtain ⟨r1,r2⟩:=q4 hl
   rw [k2] at r1
   subst r1
   refine ⟨?_,rfl⟩
   rw [←hvs,List.drop_zero,dH (by simp [r2])]
 ·obtain ⟨k1,k2⟩:=hA'.lb i (g,s) (hlq i _ e1)
  obtain ⟨cs,q1,q2,q3⟩:=hs.ext.rel.uF i g b k1 e2 e3
  rw [hbs] at q1 q2 q3
  refine ⟨cs,q1,q2,fun o ho=>q3 o fun j bj r1 r2 r3=>?_⟩
  have hg:g<w.heap.size:=(hR.iN i g (hA.lb i (g,s) e1).1).1
  rcases hs.ext.oG j g r1 with r4 | r4
  ·simp only [iC,aR] at r4
   obtain ⟨y,r5,r6⟩:=r4
   obtain ⟨y1,y2⟩:=y
   simp only at r6
   subst r6
   have:=(hA'.lb j _ (hlq j _ r5)).2
   simp only at this
   rw [this]
   exact ho j y2 bj r5 r2 r3
  ·omega
 ·refine hs.ext.frame g hg (fun i e=>h1 ?_) (fun i e=>?_)
  ·exact aN (show p.gp[i]?=some g from e)
  ·simp only [iC,aR] at e
   obtain ⟨y,e1,e2⟩:=e
   exact h2 y (aN e1) e2
theorem Yb (hm:P.follows .mixedOrders=true) (hN:kP P) (hX:kD P X) (hO:iY P X.env O) (hP:jc O) {x:Ex}
  (hrun:exec P X O esc fuel c ⟨fr,H,loc,[]⟩=some (x,⟨fr',H',loc',wg⟩)) (h:Pre X.env p fr H loc a w) (hW:kv X (iC X.env p w))
  (hQ:∀a' w',Post X.env p p w fr' H' loc' a' w'→Q (vS x) a' w'):c.wp P Q a w :=
 O5 hm hN hX hO hP hrun h hW fun _ a' w' hs=>hQ a' w' (Bt h hs ((vF X.env p w).mono hs.ext.le) fun _ _ e=>e)
variable {s:St} {i o:Nat}
theorem GL (hs:jQ m H w s m' a' w') {t:Nat} (h:s.fr[t]?=some (.pointer (some ⟨i,o,some 0⟩))):∃g,m'.lb i=some g∧a'.tmps[t]?=some (.pointer (some ⟨g,o+m'.sh i,none⟩)):=by
 have hlt:t<a'.tmps.toList.length:=by rw [←hs.fr.1]; exact (ai.1 h).1
 have h2:=ah hlt
 rcases hs.fr.2 t _ _ h h2 with r | r
 ·cases r
 ·obtain ⟨ad,e,har⟩:=vz r
  obtain ⟨b,o',sp⟩:=ad
  rcases har with ⟨c1,_⟩ | ⟨_,c2,c3,c4⟩
  ·cases c1
  ·simp only at c2 c3 c4
   subst c3; subst c4
   exact ⟨b,c2,by rw [e] at h2; simpa using h2⟩
theorem Kn (hs:jQ m H w s m' a' w') {g:Nat} (h:m'.lb i=some g) (h0:m.lb i=none):w.heap.size≤g∧g<w'.heap.size:=by
 refine ⟨?_,(hs.ext.rel.iN i g h).1⟩
 rcases hs.ext.oG i g h with r | r
 ·rw [h0] at r; cases r
 ·exact r
def wo (E:Env) (p:Pl) (a:Act):Nat→List Value→Prop
 | _,[]=>True
 | t,v::l=>(mo v=true∨∃u,fP E p 5 v=some u∧a.tmps[t]?=some u)∧wo E p a (t+1) l
def sw (E:Env) (p:Pl) (w:World):List eG→List Nat→Prop
 | [],[]=>True
 | b::H,g::gs=>((b.live=true∧b.loose=false∧b.eD=0∧b.cells.all kV=true)∧∃vs,eQ (fP E p 4) b.cells=some vs∧w.heap[g]?=some (.cells ⟨vs⟩ b.elem (0,0)))∧sw E p w H gs
 | _,_=>False
def DX (E:Env) (p:Pl) (w:World) (b:eG) (x:Nat×Nat):Prop:=b.live=true∧∃vs cs t f,eQ (fP E p 4) b.cells=some vs∧w.heap[x.1]?=some (.cells cs t f)∧x.2+vs.length≤cs.size∧(∀(j:Nat) (v:Value),vs[j]?=some v→cs[x.2+j]?=some v)∧(b.loose=false→x.2=0∧cs.size=vs.length)∧(b.eD=0→t=b.elem∧f=(0,0))
def wy (E:Env) (p:Pl) (w:World):List eG→List (Nat×Nat)→Prop
 | [],[]=>True
 | b::l,x::xs=>DX E p w b x∧wy E p w l xs
 | _,_=>False
def D8 (x y:eG×(Nat×Nat)):Prop:=x.2.1≠y.2.1∨(x.1.loose=true∧y.1.loose=true∧((x.2.2+x.1.cells.length≤y.2.2∨y.2.2+y.1.cells.length≤x.2.2)∨(x.1.eD≠0∧y.1.eD≠0)))
theorem wo.at {E:Env} {p:Pl} {a:Act}:∀(l:List Value) (t0 t:Nat) (v:Value),wo E p a t0 l→l[t]?=some v→mo v=true∨∃u,fP E p 5 v=some u∧a.tmps[t0+t]?=some u
 | [],_,_,_,_,h=>by simp at h
 | x::l,t0,0,v,hF,h=>by simp at h; subst h; exact hF.1
 | x::l,t0,t+1,v,hF,h=>by
  have:=wo.at l (t0+1) t v hF.2 (by simpa using h)
  rwa [show t0+1+t=t0+(t+1) by omega] at this
theorem sw.at {E:Env} {p:Pl} {w:World}:∀(H:List eG) (gs:List Nat),sw E p w H gs→gs.length=H.length∧∀(i:Nat) (b:eG),H[i]?=some b→(b.live=true∧b.loose=false∧b.eD=0∧b.cells.all kV=true)∧∃g vs,gs[i]?=some g∧eQ (fP E p 4) b.cells=some vs∧w.heap[g]?=some (.cells ⟨vs⟩ b.elem (0,0))
 | [],[],_=>⟨rfl,fun i b h=>by simp at h⟩
 | [],_::_,h=>by cases h
 | _::_,[],h=>by cases h
 | b::H,g::gs,h=>by
  obtain ⟨h1,h2⟩:=sw.at H gs h.2
  refine ⟨by simp [h1],fun i b' hb=>?_⟩
  cases i with
  | zero=>simp at hb; subst hb; obtain ⟨k,vs,k1,k2⟩:=h.1; exact ⟨k,g,vs,rfl,k1,k2⟩
  | succ i=>simpa using h2 i b' (by simpa using hb)
theorem wy.at {E:Env} {p:Pl} {w:World}:∀(l:List eG) (xs:List (Nat×Nat)),wy E p w l xs→xs.length=l.length∧∀(i:Nat) (b:eG),l[i]?=some b→∃x,xs[i]?=some x∧DX E p w b x
 | [],[],_=>⟨rfl,fun i b h=>by simp at h⟩
 | [],_::_,h=>by cases h
 | _::_,[],h=>by cases h
 | b::l,x::xs,h=>by
  obtain ⟨h1,h2⟩:=wy.at l xs h.2
  refine ⟨by simp [h1],fun i b' hb=>?_⟩
  cases i with
  | zero=>simp at hb; subst hb; exact ⟨x,rfl,h.1⟩
  | succ i=>simpa using h2 i b' (by simpa using hb)
theorem Pre.Kw (hd:a.defers=[]) (hl:fr.length=a.tmps.size) (hf:wo E p a 0 fr) (hg:sw E p w H p.gp) (ho:wy E p w loc p.lp) (h1:p.gp.Nodup) (h2:∀g∈p.gp,∀x∈p.lp,x.1≠g) (h3:(loc.zip p.lp).Pairwise D8) (hz:qc E p loc w) (h0:∀c,E.f0=some c→p.gp[0]?=some c):Pre E p fr H loc a w:=by
 obtain ⟨g1,g2⟩:=sw.at _ _ hg
 obtain ⟨l1,l2⟩:=wy.at _ _ ho
 refine ⟨hd,hl,fun t v u e1 e2=>?_,g2,fun i b hb=>?_,g1,l1,fun i j g e e'=>?_,fun i j g s e e'=>h2 g (aN e) _ (aN e') rfl,hz,h0,fun i j g s s' bi bj e e' hbi hbj=>?_⟩
 ·rcases wo.at fr 0 t v hf e1 with r | ⟨u',r1,r2⟩
  ·exact .inl r
  ·rw [Nat.zero_add] at r2
   rw [r2] at e2; injection e2 with e2; subst e2
   exact .inr r1
 ·obtain ⟨x,e,k1,vs,cs,t,f,k2⟩:=l2 i b hb
  exact ⟨k1,x.1,x.2,vs,cs,t,f,e,k2⟩
 ·have hi:=(ai.1 e).1
  have hj:=(ai.1 e').1
  rw [ah hi] at e
  rw [ah hj] at e'
  injection e with e; injection e' with e'
  exact (List.getElem_inj h1).1 (e.trans e'.symm)
 ·have hz:∀(i:Nat) (b:eG) (x:Nat×Nat),loc[i]?=some b→p.lp[i]?=some x→(loc.zip p.lp)[i]?=some (b,x):=fun i b x k1 k2=>by
   rw [List.getElem?_zip_eq_some]; exact ⟨k1,k2⟩
  have zi:=hz i bi _ hbi e
  have zj:=hz j bj _ hbj e'
  rcases Nat.lt_trichotomy i j with h | h | h
  ·have:=ae7.1 h3 i j (ai.1 zi).1 (ai.1 zj).1 h
   rw [(ai.1 zi).2,(ai.1 zj).2] at this
   rcases this with r | ⟨r1,r2,r3⟩
   ·exact absurd rfl r
   ·exact .inr ⟨r1,r2,r3⟩
  ·exact .inl h
  ·have:=ae7.1 h3 j i (ai.1 zj).1 (ai.1 zi).1 h
   rw [(ai.1 zi).2,(ai.1 zj).2] at this
   rcases this with r | ⟨r1,r2,r3⟩
   ·exact absurd rfl r
   ·refine .inr ⟨r2,r1,?_⟩
    rcases r3 with (r | r) | ⟨r,r'⟩
    ·exact .inl (.inr r)
    ·exact .inl (.inl r)
    ·exact .inr ⟨r',r⟩
variable {b:Nat} {v:Value}
theorem tZ (h:w.cell? ⟨b,o,none⟩=some v):∃cs t f,w.heap[b]?=some (.cells cs t f)∧cs[o]?=some v:=by
 unfold bS at h
 simp only at h
 split at h
 ·rename_i cs t f hb
  exact ⟨cs,t,f,hb,by simpa using h⟩
 ·cases h
variable {cells r:List Value}
theorem Ka {s:Nat} (hc:eQ (fP E p 4) cells=some r) (hl:0<r.length) (h:∀(k:Nat) (v:Value),r[k]?=some v→w.cell? ⟨b,s+k,none⟩=some v):DX E p w ⟨cells,0,1,true,true⟩ (b,s):=by
 obtain ⟨cs,t,f,hb,_⟩:=tZ (h 0 _ (ah hl))
 have key:∀(k:Nat) (v:Value),r[k]?=some v→cs[s+k]?=some v:=fun k v hk=>by
  obtain ⟨cs',t',f',hb',hv⟩:=tZ (h k v hk)
  rw [hb] at hb'; injection hb' with hb'; injection hb' with hb'; subst hb'
  exact hv
 refine ⟨rfl,r,cs,t,f,hc,hb,?_,key,(fun e=>by cases e),(fun e=>by cases e)⟩
 have:=key (r.length - 1) _ (ah (by omega))
 have:=(aB.1 this).1
 show s+r.length≤cs.size
 omega
theorem yn {e:TypeId} (hc:eQ (fP E p 4) cells=some r) (h:w.heap[b]?=some (.cells ⟨r⟩ e (0,0))):DX E p w ⟨cells,e,0,false,true⟩ (b,0) :=
 ⟨rfl,r,⟨r⟩,e,(0,0),hc,h,by simp,fun j v hj=>by simpa using hj,fun _=>⟨rfl,rfl⟩,fun _=>⟨rfl,rfl⟩⟩
variable {w0:World} {D:Code} {s':St}
theorem adr (hm:P.follows .mixedOrders=true) (hN:kP P) (hX:kD P X) (hO:iY P X.env O) (hP:jc O) {m0:Mp} {H0:Hp} (hE:qb X m0)
  (hrun:exec P X O esc fuel c s=some (.normal,s')) (hs:jQ m0 H0 w0 s m a w) (hQ:∀m' a' w',jQ m0 H0 w0 s' m' a' w'→D.wp P Q a' w'):(Code.seq c D).wp P Q a w :=
 wp_seq (AA hm hN hX hO hE hP c s .normal s' m a w _ hrun hs fun m' a' w' h=>hQ m' a' w' h)
variable {fn:Func} {R:Ending→World→Prop} {vs:List Value} {u:Value}
theorem O7 (hm:P.follows .mixedOrders=true) (hN:kP P) (hX:kD P X) (hO:iY P X.env O) (hP:jc O)
  (hrun:exec P X O esc fuel c ⟨fr,H,loc,[]⟩=some (.ret,s')) (h:Pre X.env p fr H loc a w) (hW:kv X (iC X.env p w)) (hres:qP P s' fn.results.toList=some vs) (hu:fP X.env p 5 (kW vs)=some u)
  (hQ:∀a' w',Post X.env p p w s'.fr s'.H s'.loc a' w'→R (.returned u) w'):c.wp P (bodyPost P fn R) a w:=by
 obtain ⟨fr',H',loc',wg⟩:=s'
 refine O5 hm hN hX hO hP hrun h hW fun m' a' w' hs=>?_
 have hA:=(vF X.env p w).mono hs.ext.le
 obtain ⟨vs',hr,hv⟩:=F4 (P:=P) hs.ext.rel hs.fr _ _ hres
 refine ⟨hs.df,_,?_,hQ a' w' (Bt h hs hA fun _ _ e=>e)⟩
 rw [Q6,Array.mapM_eq_mapM_toList]
 simp only [di,Sem.run_map,hr,bC,dA]
 have:=p9 hA 5 _ u _ (by rw [hs.ext.le.env]; exact hu) (QJ hv)
 rw [this]
end Go.Sm
end
section
namespace Go.Sm
open Go.RowKit
abbrev gQ:=Nat×List Value×TypeId
abbrev jC:=Nat×Nat×List Value
structure dP (us:List (Option Value)) (gs ls:List gQ) (a:Act) (w:World):Prop where
 df:a.defers=[]
 sz:us.length=a.tmps.size
 fr:∀(t:Nat) (u:Value),us[t]?=some (some u)→a.tmps[t]?=some u
 gl:∀x∈gs,w.heap[x.1]?=some (.cells ⟨x.2.1⟩ x.2.2 (0,0))
 lo:∀x∈ls,w.heap[x.1]?=some (.cells ⟨x.2.1⟩ x.2.2 (0,0))
 nd:(gs.map (·.1)++ls.map (·.1)).Nodup
def tV (w:World) (x:jC):Prop:=0<x.2.2.length∧∀(k:Nat) (v:Value),x.2.2[k]?=some v→w.cell? ⟨x.1,x.2.1+k,none⟩=some v
def CO (E:Env) (p:Pl) (fr:List Value):List (Option Value):=fr.map fun v=>bif mo v then none else fP E p 5 v
def JR (E:Env) (p:Pl) (fr:List Value):Bool:=fr.all fun v=>mo v||(fP E p 5 v).isSome
def xH (E:Env) (p:Pl) (b:eG):Option (List Value)×TypeId:=(eQ (fP E p 4) b.cells,b.elem)
def iT (x:gQ):Option (List Value)×TypeId:=(some x.2.1,x.2.2)
def ownB (b:eG):Bool:=b.live&&(!b.loose&&ay b.eD 0)
def mJ (b:eG):Bool:=b.live&&(b.loose&&!Nat.beq b.eD 0)
def eH (gs ls:List gQ) (ws:List jC):Pl:=⟨gs.map (·.1),ls.map (fun x=>(x.1,0))++ws.map (fun x=>(x.1,x.2.1))⟩
variable {i:Nat}
theorem tu {α β γ:Type} {f:α→γ} {g:β→γ} {l:List α} {r:List β} (h:l.map f=r.map g) {x:α} (hx:l[i]?=some x):∃y,r[i]?=some y∧f x=g y:=by
 have h1:(l.map f)[i]?=some (f x):=by simp [hx]
 rw [h] at h1
 simp only [bY,aR] at h1
 obtain ⟨y,q1,q2⟩:=h1
 exact ⟨y,q1,q2.symm⟩
theorem jU {b:eG} (h:ownB b=true):b.live=true∧b.loose=false∧b.eD=0:=by
 unfold ownB at h
 simp only [aQ,Bool.not_eq_true'] at h
 exact ⟨h.1,h.2.1,bf h.2.2⟩
theorem Ac {b:eG} (h:mJ b=true):(b.live=true∧b.loose=true)∧b.eD≠0:=by
 unfold mJ at h
 simp only [aQ,Bool.not_eq_true'] at h
 refine ⟨⟨h.1,h.2.1⟩,fun e=>?_⟩
 rw [e] at h
 exact absurd h.2.2 (by decide)
variable {E:Env} {fr:List Value} {H lo wb:Hp} {us:List (Option Value)} {gs ls:List gQ} {ws:List jC} {a:Act} {w:World}
theorem dP.pre (h:dP us gs ls a w) (hw:∀x∈ws,tV w x) (hsep:∀x∈ws,∀y∈gs++ls,x.1≠y.1)
  (hfr:CO E (eH gs ls ws) fr=us) (hfa:JR E (eH gs ls ws) fr=true) (hH:H.map (xH E (eH gs ls ws))=gs.map iT) (hHa:(H.all fun b=>ownB b&&b.cells.all kV)=true)
  (hL:lo.map (xH E (eH gs ls ws))=ls.map iT) (hLa:lo.all ownB=true) (hW:wb.map (fun b=>eQ (fP E (eH gs ls ws) 4) b.cells)=ws.map (fun x=>some x.2.2)) (hWa:wb.all mJ=true) (hz:qc E (eH gs ls ws) (lo++wb) w) (h0:∀c,E.f0=some c→(eH gs ls ws).gp[0]?=some c) :
  Pre E (eH gs ls ws) fr H (lo++wb) a w:=by
 have nd:=afe.1 h.nd
 have hLl:lo.length=ls.length:=by simpa using congrArg ae1 hL
 have hWl:wb.length=ws.length:=by simpa using congrArg ae1 hW
 have hlp:∀(i g s:Nat),(eH gs ls ws).lp[i]?=some (g,s)→(i<ls.length∧∃x,ls[i]?=some x∧x.1=g∧s=0)∨(ls.length≤i∧∃x,ws[i - ls.length]?=some x∧x.1=g∧x.2.1=s):=fun i g s e=>by
  simp only [eH] at e
  by_cases hi:i<ls.length
  ·rw [aH (by simpa using hi)] at e
   simp only [bY,aR,aP] at e
   obtain ⟨x,e1,e2,e3⟩:=e
   exact .inl ⟨hi,x,e1,e2,e3.symm⟩
  ·rw [bu (by simpa using afb hi)] at e
   simp only [dF,bY,aR,aP] at e
   obtain ⟨x,e1,e2,e3⟩:=e
   exact .inr ⟨afb hi,x,e1,e2,e3⟩
 have hlb:∀(i:Nat) (b:eG),(lo++wb)[i]?=some b→(i<ls.length∧lo[i]?=some b∧ownB b=true)∨(ls.length≤i∧wb[i - ls.length]?=some b∧mJ b=true):=fun i b e=>by
  by_cases hi:i<lo.length
  ·rw [aH hi] at e
   exact .inl ⟨by omega,e,bn.1 hLa b (aN e)⟩
  ·rw [bu (by omega),hLl] at e
   exact .inr ⟨by omega,e,bn.1 hWa b (aN e)⟩
 refine ⟨h.df,?_,fun t v u e1 e2=>?_,fun i b hb=>?_,fun i b hb=>?_,?_,?_,fun i j g e e'=>?_,fun i j g s e e'=>?_,hz,h0,fun i j g s s' bi bj e e' hbi hbj=>?_⟩
 ·rw [←h.sz,←hfr]; simp [CO]
 ·cases hd:mo v with
  | true=>exact .inl rfl
  | false =>
   right
   have h1:=bn.1 hfa v (aN e1)
   simp only [hd,Bool.false_or,Option.isSome_iff_exists] at h1
   obtain ⟨u',hu⟩:=h1
   have h2:us[t]?=some (some u'):=by rw [←hfr]; simp [CO,e1,hd,hu]
   have h3:=h.fr t u' h2
   rw [e2] at h3; injection h3 with h3; subst h3
   exact hu
 ·have hb':=bn.1 hHa b (aN hb)
  simp only [aQ] at hb'
  obtain ⟨q1,q2,q3⟩:=jU hb'.1
  obtain ⟨x,y1,y2⟩:=tu hH hb
  simp only [xH,iT,aP] at y2
  refine ⟨⟨q1,q2,q3,hb'.2⟩,x.1,x.2.1,by simp [eH,y1],y2.1,?_⟩
  rw [y2.2]
  exact h.gl x (aN y1)
 ·rcases hlb i b hb with ⟨hi,e,ho⟩ | ⟨hi,e,ho⟩
  ·obtain ⟨q1,q2,q3⟩:=jU ho
   obtain ⟨x,y1,y2⟩:=tu hL e
   simp only [xH,iT,aP] at y2
   refine ⟨q1,x.1,0,x.2.1,⟨x.2.1⟩,x.2.2,(0,0),?_,y2.1,h.lo x (aN y1),by simp,fun j v hj=>by simpa using hj,fun _=>⟨rfl,rfl⟩,fun _=>⟨y2.2.symm,rfl⟩⟩
   simp only [eH]
   rw [aH (by simpa using hi)]
   simp [y1]
  ·obtain ⟨⟨q1,q2⟩,q3⟩:=Ac ho
   obtain ⟨x,y1,y2⟩:=tu hW e
   obtain ⟨z1,z2⟩:=hw x (aN y1)
   obtain ⟨cs,t,f,k1,_⟩:=tZ (z2 0 _ (ah z1))
   have key:∀(k:Nat) (v:Value),x.2.2[k]?=some v→cs[x.2.1+k]?=some v:=fun k v hk=>by
    obtain ⟨cs',t',f',hb',hv⟩:=tZ (z2 k v hk)
    rw [k1] at hb'; injection hb' with hb'; injection hb' with hb'; subst hb'
    exact hv
   refine ⟨q1,x.1,x.2.1,x.2.2,cs,t,f,?_,y2,k1,?_,key,(fun e=>by rw [q2] at e; cases e),(fun e=>absurd e q3)⟩
   ·simp only [eH]
    rw [bu (by simpa using hi)]
    simp [y1]
   ·have:=key (x.2.2.length - 1) _ (ah (by omega))
    have:=(aB.1 this).1
    omega
 ·simp only [eH,dF]; simpa using (congrArg ae1 hH).symm
 ·simp only [eH,dF,afa]; omega
 ·have hi:=(ai.1 e).1
  have hj:=(ai.1 e').1
  rw [ah hi] at e
  rw [ah hj] at e'
  injection e with e; injection e' with e'
  exact (List.getElem_inj nd.1).1 (e.trans e'.symm)
 ·have hg:g∈gs.map (·.1):=aN (show (gs.map (·.1))[i]?=some g from e)
  rcases hlp j g s e' with ⟨_,x,q1,q2,_⟩ | ⟨_,x,q1,q2,_⟩
  ·exact nd.2.2 g hg g (by rw [←q2]; exact List.mem_map_of_mem (aN q1)) rfl
  ·obtain ⟨y,y1,y2⟩:=aeZ.1 hg
   exact hsep x (aN q1) y (aeY _ y1) (q2.trans y2.symm)
 ·rcases hlp i g s e with ⟨i1,x,q1,q2,_⟩ | ⟨i1,x,q1,q2,_⟩
  ·rcases hlp j g s' e' with ⟨j1,y,r1,r2,_⟩ | ⟨j1,y,r1,r2,_⟩
   ·left
    have hi:(ls.map (·.1))[i]?=some g:=by simp [q1,q2]
    have hj:(ls.map (·.1))[j]?=some g:=by simp [r1,r2]
    obtain ⟨hi1,hi2⟩:=ai.1 hi
    obtain ⟨hj1,hj2⟩:=ai.1 hj
    exact (List.getElem_inj nd.2.1).1 (hi2.trans hj2.symm)
   ·exact absurd (r2.trans q2.symm) (hsep y (aN r1) x (dm _ (aN q1)))
  ·rcases hlp j g s' e' with ⟨j1,y,r1,r2,_⟩ | ⟨j1,y,r1,r2,_⟩
   ·exact absurd (q2.trans r2.symm) (hsep x (aN q1) y (dm _ (aN r1)))
   ·rcases hlb i bi hbi with ⟨k,_⟩ | ⟨_,_,k1⟩
    ·omega
    ·rcases hlb j bj hbj with ⟨k,_⟩ | ⟨_,_,k2⟩
     ·omega
     ·obtain ⟨⟨_,a2⟩,a3⟩:=Ac k1
      obtain ⟨⟨_,b2⟩,b3⟩:=Ac k2
      exact .inr ⟨a2,b2,.inr ⟨a3,b3⟩⟩
def Fb (us ys:List (Option Value)):List (Option Value):=List.zipWith (fun x y=>match x with | none=>none | some _=>y) us ys
def FO (E:Env) (q:Pl) (H':Hp) (i:Nat):Option Nat×Option (Bool×TypeId×Option (List Value)):=(q.gp[i]?,(H'[i]?).map fun b=>(b.live,b.elem,eQ (fP E q 4) b.cells))
def G5 (x:gQ):Option Nat×Option (Bool×TypeId×Option (List Value)):=(some x.1,some (true,x.2.2,some x.2.1))
def FP (E:Env) (q:Pl) (loc':Hp) (i:Nat):Option (Nat×Nat)×Option (Bool×TypeId×Option (List Value)):=(q.lp[i]?,(loc'[i]?).map fun b=>(ownB b,b.elem,eQ (fP E q 4) b.cells))
def G6 (x:gQ):Option (Nat×Nat)×Option (Bool×TypeId×Option (List Value)):=(some (x.1,0),some (true,x.2.2,some x.2.1))
variable {p q:Pl} {w':World} {fr':List Value} {H' loc':Hp} {a':Act} {us':List (Option Value)} {gs' ls':List gQ}
theorem Post.GN (hp:Post E p q w fr' H' loc' a' w') (gi li:List Nat) (hl:us'.length=fr'.length) (hfr:Fb us' (fr'.map (fP E q 5))=us')
  (hg:gi.map (FO E q H')=gs'.map G5) (hlo:li.map (FP E q loc')=ls'.map G6) (nd:(gs'.map (·.1)++ls'.map (·.1)).Nodup):dP us' gs' ls' a' w':=by
 refine ⟨hp.df,by rw [hl,hp.lu],fun t u e=>?_,fun x hx=>?_,fun x hx=>?_,nd⟩
 ·rw [←hfr] at e
  simp only [Fb,List.getElem?_zipWith] at e
  split at e
  ·rename_i x y e1 e2
   injection e with e
   cases x with
   | none=>cases e
   | some x =>
    simp only at e
    subst e
    simp only [bY,aR] at e2
    obtain ⟨v,v1,v2⟩:=e2
    exact hp.fr t v u v1 v2
  ·cases e
 ·obtain ⟨i,hi⟩:=cZ hx
  obtain ⟨j,_,e⟩:=tu hg.symm hi
  simp only [G5,FO,aP] at e
  obtain ⟨e1,e2⟩:=e
  have e2':=e2.symm
  simp only [aR,aP] at e2'
  obtain ⟨b,b1,b2,b3,b4⟩:=e2'
  rw [←b3]
  exact hp.gl j x.1 b x.2.1 e1.symm b1 b2 b4
 ·obtain ⟨i,hi⟩:=cZ hx
  obtain ⟨j,_,e⟩:=tu hlo.symm hi
  simp only [G6,FP,aP] at e
  obtain ⟨e1,e2⟩:=e
  have e2':=e2.symm
  simp only [aR,aP] at e2'
  obtain ⟨b,b1,b2,b3,b4⟩:=e2'
  obtain ⟨o1,o2,o3⟩:=jU b2
  obtain ⟨cs,t,f,k1,_,k2,k3⟩:=hp.lo j x.1 0 b x.2.1 e1.symm b1 o1 b4
  obtain ⟨r1,_⟩:=k2 o2
  obtain ⟨r2,r3⟩:=k3 o3
  rw [k1,r1,r2,r3,b3]
structure dO (w0:World) (ex:List Nat) (w:World):Prop where
 os:w.os=w0.os
 tape:w.tape=w0.tape
 output:w.output=w0.output
 size:w0.heap.size≤w.heap.size
 frame:∀g,g<w0.heap.size→g∉ex→w.heap[g]?=w0.heap[g]?
theorem dO.refl (w:World) (ex:List Nat):dO w ex w:=⟨rfl,rfl,rfl,au _,fun _ _ _=>rfl⟩
variable {w0:World} {ex:List Nat} {b o:Nat}
theorem dO.cell (h:dO w0 ex w) (h1:b<w0.heap.size) (h2:b∉ex):w.cell? ⟨b,o,none⟩=w0.cell? ⟨b,o,none⟩:=by simp [bS,h.frame b h1 h2]
theorem dO.win (h:dO w0 ex w) {x:jC} (h1:x.1<w0.heap.size) (h2:x.1∉ex) (hx:tV w0 x):tV w x:=⟨hx.1,fun k v hk=>(h.cell h1 h2).trans (hx.2 k v hk)⟩
theorem dO.trans {w0 w w':World} {ex:List Nat} (h:dO w0 ex w) (k:dO w ex w'):dO w0 ex w' :=
 ⟨k.os.trans h.os,k.tape.trans h.tape,k.output.trans h.output,aZ h.size k.size,fun g h1 h2=>(k.frame g (aC h1 h.size) h2).trans (h.frame g h1 h2)⟩
theorem dO.post (h:dO w0 ex w) (hp:Post E (eH gs ls ws) q w fr' H' loc' a' w')
  (hg:∀x∈gs++ls,x.1∈ex∨w0.heap.size≤x.1) (hw:∀x∈ws,tV w x) (hwa:(((loc'.drop ls.length).take ws.length).map mJ)=ws.map fun _=>true):dO w0 ex w':=by
 refine ⟨hp.os.trans h.os,hp.tape.trans h.tape,hp.output.trans h.output,aZ h.size hp.size,fun g h1 h2=>?_⟩
 rw [←h.frame g h1 h2]
 have hng:∀x∈gs++ls,x.1≠g:=fun x hx e=>by
  rcases hg x hx with r | r
  ·exact h2 (e▸r)
  ·omega
 have hgp:g∉(eH gs ls ws).gp:=fun hm=>by
  obtain ⟨y,y1,y2⟩:=aeZ.1 (show g∈gs.map (·.1) from hm)
  exact hng y (aeY _ y1) y2
 have hlt:g<w.heap.size:=aC h1 h.size
 have hpos:∀(i s:Nat),(eH gs ls ws).lp[i]?=some (g,s)→∃x b,x∈ws∧x.1=g∧loc'[i]?=some b∧mJ b=true:=fun i s e=>by
  simp only [eH] at e
  by_cases hi:i<ls.length
  ·rw [aH (by simpa using hi)] at e
   simp only [bY,aR,aP] at e
   obtain ⟨x,e1,e2,_⟩:=e
   exact absurd e2 (hng x (dm _ (aN e1)))
  ·rw [bu (by simpa using afb hi)] at e
   simp only [dF,bY,aR,aP] at e
   obtain ⟨x,e1,e2,e3⟩:=e
   obtain ⟨b,b1,b2⟩:=tu hwa.symm e1
   simp only [dx,aeX] at b1
   split at b1
   ·rw [show ls.length+(i - ls.length)=i by omega] at b1
    exact ⟨x,b,aN e1,e2,b1,b2.symm⟩
   ·cases b1
 by_cases hx:∃x∈(eH gs ls ws).lp,x.1=g
 ·obtain ⟨⟨g',s⟩,hm,rfl⟩:=hx
  obtain ⟨i,hi⟩:=cZ hm
  obtain ⟨x,b,x1,x2,x3,x4⟩:=hpos i s hi
  obtain ⟨z1,z2⟩:=hw x x1
  obtain ⟨cs,t,f,k1,_⟩:=tZ (z2 0 _ (ah z1))
  rw [x2] at k1
  obtain ⟨⟨_,hl⟩,_⟩:=Ac x4
  obtain ⟨cs',q1,q2,q3⟩:=hp.out i g' s b hi x3 hl
  have ho:uV w g'=(cs,t,f):=by simp [uV,k1]
  rw [ho] at q1 q2 q3
  simp only at q1 q2 q3
  have:cs'=cs:=by
   apply Array.ext_getElem?
   intro o
   refine q3 o fun j s' bj e1 e2 e3=>?_
   obtain ⟨_,b2,_,_,y3,y4⟩:=hpos j s' e1
   rw [e2] at y3; injection y3 with y3; subst y3
   exact absurd e3 (Ac y4).2
  rw [q1,k1,this]
 ·exact hp.frame g hlt hgp fun x hm e=>hx ⟨x,hm,e⟩
def jR (w0:World) (ex:List Nat) (ws:List jC):Prop:=∀x∈ws,(x.1<w0.heap.size∧x.1∉ex)∧tV w0 x
def Own (w0:World) (ex:List Nat) (gs ls:List gQ):Prop:=∀x∈gs++ls,x.1∈ex∨w0.heap.size≤x.1
theorem G7 (h:jR w0 ex ws) (k:Own w0 ex gs ls):∀x∈ws,∀y∈gs++ls,x.1≠y.1:=fun x hx y hy e=>by
 obtain ⟨⟨h1,h2⟩,_⟩:=h x hx
 rcases k y hy with r | r
 ·exact h2 (e▸r)
 ·omega
structure In (E:Env) (us:List (Option Value)) (gs ls:List gQ) (ws:List jC) (fr:List Value) (H lo wb:Hp):Prop where
 f1:CO E (eH gs ls ws) fr=us
 f2:JR E (eH gs ls ws) fr=true
 hH:H.map (xH E (eH gs ls ws))=gs.map iT
 ha:(H.all fun b=>ownB b&&b.cells.all kV)=true
 hL:lo.map (xH E (eH gs ls ws))=ls.map iT
 la:lo.all ownB=true
 hW:wb.map (fun b=>eQ (fP E (eH gs ls ws) 4) b.cells)=ws.map (fun x=>some x.2.2)
 wa:wb.all mJ=true
structure Cc (E:Env) (q:Pl) (us':List (Option Value)) (gs' ls':List gQ) (gi li:List Nat) (fr':List Value) (H' loc':Hp):Prop where
 f0:us'.length=fr'.length
 f1:Fb us' (fr'.map (fP E q 5))=us'
 hG:gi.map (FO E q H')=gs'.map G5
 hL:li.map (FP E q loc')=ls'.map G6
 nd:(gs'.map (·.1)++ls'.map (·.1)).Nodup
def Aj (X:Xt) (G K:Act→World→Prop) (s s':St):Prop:=∀(m0:Mp) (H0:Hp) (w0:World) (m:Mp) (a:Act) (w:World),qb X m0→jQ m0 H0 w0 s m a w→(∀m' a' w',jQ m0 H0 w0 s' m' a' w'→K a' w')→G a w
def qK (P:Program) (X:Xt) (O:ig) (esc:Nat→Bool) (fuel:Nat):List Code→St→Option St
 | [],s=>some s
 | c::cs,s=>match exec P X O esc fuel c s with
  | some (.normal,s1)=>qK P X O esc fuel cs s1
  | _=>none
def fB:List Code→Code→Code
 | [],D=>D
 | c::cs,D=>.seq c (fB cs D)
section
variable {P:Program} {X:Xt} {O:ig} {esc:Nat→Bool} {fuel:Nat} {Q:Exit→Act→World→Prop}
variable {c:Code} {s s':St}
theorem adh (hm:P.follows .mixedOrders=true) (hN:kP P) (hX:kD P X) (hO:iY P X.env O) (hP:jc O) {x:Ex} (h:exec P X O esc fuel c s=some (x,s')):Aj X (c.wp P Q) (Q (vS x)) s s':=fun _ _ _ m a w hE hs hQ=>AA hm hN hX hO hE hP c s x s' m a w Q h hs hQ
theorem F6 (hm:P.follows .mixedOrders=true) (hN:kP P) (hX:kD P X) (hO:iY P X.env O) (hP:jc O) {D:Code}:∀(cs:List Code) {s s':St},qK P X O esc fuel cs s=some s'→Aj X ((fB cs D).wp P Q) (D.wp P Q) s s'
 | [],s,s',h=>by
  simp only [qK,ak] at h
  subst h
  exact fun _ _ _ m a w _ hs hQ=>hQ m a w hs
 | c::cs,s,s',h=>by
  unfold qK at h
  split at h
  ·rename_i s1 h1
   exact fun m0 H0 w0 m a w hE hs hQ=>wp_seq (AA hm hN hX hO hE hP c s .normal s1 m a w _ h1 hs fun m1 a1 w1 hs1=>F6 hm hN hX hO hP cs h m0 H0 w0 m1 a1 w1 hE hs1 hQ)
  ·cases h
end
section
variable {X:Xt} {G K:Act→World→Prop} {fr fr':List Value} {H H' lo wb loc':Hp} {wg:List Nat} {a:Act} {w w0:World} {ex:List Nat} {us us':List (Option Value)} {gs gs' ls ls':List gQ} {ws:List jC}
theorem piece (gi li:List Nat) (hrun:Aj X G K ⟨fr,H,lo++wb,[]⟩ ⟨fr',H',loc',wg⟩) (h:dP us gs ls a w) (hk:dO w0 ex w) (hw:jR w0 ex ws) (hown:Own w0 ex gs ls) (hi:In X.env us gs ls ws fr H lo wb) (hz:qc X.env (eH gs ls ws) (lo++wb) w) (h0:∀c,X.env.f0=some c→(eH gs ls ws).gp[0]?=some c)
  (hW:kv X (iC X.env (eH gs ls ws) w)) (ho:Cc X.env (eH gs ls ws) us' gs' ls' gi li fr' H' loc') (hwa:(((loc'.drop ls.length).take ws.length).map mJ)=ws.map fun _=>true)
  (hQ:∀a' w',dP us' gs' ls' a' w'→dO w0 ex w'→K a' w'):G a w:=by
 have hww:∀x∈ws,tV w x:=fun x hx=>hk.win (hw x hx).1.1 (hw x hx).1.2 (hw x hx).2
 have hpre:=h.pre hww (G7 hw hown) hi.f1 hi.f2 hi.hH hi.ha hi.hL hi.la hi.hW hi.wa hz h0
 refine hrun _ _ _ _ a w ⟨rfl,hW⟩ hpre.GH fun m' a' w' hs=>?_
 have hp:=Bt hpre hs ((vF X.env (eH gs ls ws) w).mono hs.ext.le) fun _ _ e=>e
 exact hQ a' w' (hp.GN gi li ho.f0 ho.f1 ho.hG ho.hL ho.nd) (hk.post hp hown hww hwa)
end
section
variable {P:Program} {X:Xt} {O:ig} {esc:Nat→Bool} {fuel:Nat} {c:Code} {fr fr':List Value} {H H' lo wb loc':Hp} {wg:List Nat} {x:Ex} {a:Act} {w w0:World} {ex:List Nat} {us us':List (Option Value)} {gs gs' ls ls':List gQ} {ws:List jC}
variable {s':St} {fn:Func} {R:Ending→World→Prop} {vs:List Value} {u:Value}
theorem acr (hm:P.follows .mixedOrders=true) (hN:kP P) (hX:kD P X) (hO:iY P X.env O) (hP:jc O) (hrun:exec P X O esc fuel c ⟨fr,H,lo++wb,[]⟩=some (.ret,s')) (gi li:List Nat) (h:dP us gs ls a w) (hk:dO w0 ex w) (hw:jR w0 ex ws) (hown:Own w0 ex gs ls) (hi:In X.env us gs ls ws fr H lo wb) (hz:qc X.env (eH gs ls ws) (lo++wb) w) (h0:∀c,X.env.f0=some c→(eH gs ls ws).gp[0]?=some c)
  (hW:kv X (iC X.env (eH gs ls ws) w)) (hres:qP P s' fn.results.toList=some vs) (hu:fP X.env (eH gs ls ws) 5 (kW vs)=some u) (ho:Cc X.env (eH gs ls ws) us' gs' ls' gi li s'.fr s'.H s'.loc) (hwa:(((s'.loc.drop ls.length).take ws.length).map mJ)=ws.map fun _=>true)
  (hQ:∀a' w',dP us' gs' ls' a' w'→dO w0 ex w'→R (.returned u) w'):c.wp P (bodyPost P fn R) a w:=by
 have hww:∀x∈ws,tV w x:=fun x hx=>hk.win (hw x hx).1.1 (hw x hx).1.2 (hw x hx).2
 have hpre:=h.pre hww (G7 hw hown) hi.f1 hi.f2 hi.hH hi.ha hi.hL hi.la hi.hW hi.wa hz h0
 exact O7 hm hN hX hO hP hrun hpre hW hres hu fun a' w' hp=>hQ a' w' (hp.GN gi li ho.f0 ho.f1 ho.hG ho.hL ho.nd) (hk.post hp hown hww hwa)
end
variable {m:Mp} {v v':Value}
theorem DL (h:VR m v v') (hv:v=.pointer (some ⟨i,o,none⟩)∨∃n c,v=.slice (some ⟨i,o,none⟩) n c):∃g,m.gb i=some g:=by
 rcases hv with rfl | ⟨n,c,rfl⟩
 ·cases h with | pO e=>exact ⟨_,e⟩
 ·cases h with
  | ow e=>exact ⟨_,e⟩
  | qW e=>exact ⟨_,e⟩
  | qV e=>exact ⟨_,e⟩
theorem Va (h:VR m v v') (hv:v=.pointer (some ⟨i,o,some 0⟩)):∃g,m.lb i=some g:=by
 subst hv
 cases h with | uy e _=>exact ⟨_,e⟩
def zF (i:Nat):Value→Bool
 | .pointer (some ⟨j,_,some 0⟩)=>ay i j
 | _=>false
def tC (i:Nat):Value→Bool
 | .pointer (some ⟨j,_,none⟩)=>ay i j
 | .slice (some ⟨j,_,none⟩) _ _=>ay i j
 | _=>false
theorem Fh (h:zF i v=true):∃o,v=.pointer (some ⟨i,o,some 0⟩):=by
 unfold zF at h
 split at h
 ·have:=bf h; subst this; exact ⟨_,rfl⟩
 ·cases h
theorem Df (h:tC i v=true):∃o,v=.pointer (some ⟨i,o,none⟩)∨∃n c,v=.slice (some ⟨i,o,none⟩) n c:=by
 unfold tC at h
 split at h
 ·have:=bf h; subst this; exact ⟨_,.inl rfl⟩
 ·have:=bf h; subst this; exact ⟨_,.inr ⟨_,_,rfl⟩⟩
 ·cases h
theorem Dh {m m':Mp} {H:Hp} {w w':World} {s:St} {a':Act} (hs:jQ m H w s m' a' w') (f:Nat→Nat→Value→Bool) (hf:∀(i t:Nat) (v u:Value),s.fr[t]?=some v→a'.tmps[t]?=some u→f i t v=true→VR m' v u→True) (B:Nat→Option Nat) (hB:∀(i t:Nat) (v u:Value),f i t v=true→VR m' v u→∃g,B i=some g) (hd:∀(i t:Nat) (v:Value),f i t v=true→mo v=false) :
  ∀(ts:List Nat) (i0:Nat),(∀(j t:Nat),ts[j]?=some t→∃v,s.fr[t]?=some v∧f (i0+j) t v=true)→∃l:List Nat,l.length=ts.length∧∀(j g:Nat),l[j]?=some g→B (i0+j)=some g
 | [],_,_=>⟨[],rfl,fun j g e=>by simp at e⟩
 | t::ts,i0,h=>by
  obtain ⟨v,v1,v2⟩:=h 0 t rfl
  have hlt:t<a'.tmps.toList.length:=by rw [←hs.fr.1]; exact (ai.1 v1).1
  have h2:=ah hlt
  obtain ⟨g,hg⟩:∃g,B i0=some g:=by
   rcases hs.fr.2 t _ _ v1 h2 with r | r
   ·rw [hd _ _ _ v2] at r; cases r
   ·exact hB _ _ _ _ v2 r
  obtain ⟨l,l1,l2⟩:=Dh hs f hf B hB hd ts (i0+1) (fun j t' e=>by
   obtain ⟨v,q1,q2⟩:=h (j+1) t' (by simpa using e)
   exact ⟨v,q1,by rw [show i0+1+j=i0+(j+1) by omega]; exact q2⟩)
  refine ⟨g::l,by simp [l1],fun j g' e=>?_⟩
  cases j with
  | zero=>simp at e; subst e; exact hg
  | succ j=>rw [show i0+(j+1)=i0+1+j by omega]; exact l2 j g' (by simpa using e)
def oZ (gs ls:List gQ) (ws:List jC) (ng nl:List Nat):Pl:=⟨gs.map (·.1)++ng,(eH gs ls ws).lp++nl.map fun g=>(g,0)⟩
section
variable {X:Xt} {G K:Act→World→Prop} {fr fr':List Value} {H H' lo wb loc':Hp} {wg:List Nat} {a:Act} {w w0:World} {ex:List Nat} {us:List (Option Value)} {us':List Nat→List Nat→List (Option Value)} {gs ls:List gQ} {gs' ls':List Nat→List Nat→List gQ} {ws:List jC}
theorem QP (gi li tg tl:List Nat) (hrun:Aj X G K ⟨fr,H,lo++wb,[]⟩ ⟨fr',H',loc',wg⟩) (h:dP us gs ls a w) (hk:dO w0 ex w) (hw:jR w0 ex ws) (hown:Own w0 ex gs ls) (hi:In X.env us gs ls ws fr H lo wb) (hz:qc X.env (eH gs ls ws) (lo++wb) w) (h0:∀c,X.env.f0=some c→(eH gs ls ws).gp[0]?=some c)
  (hW:kv X (iC X.env (eH gs ls ws) w))
  (htg:(tg.zipIdx H.length).all (fun y=>match fr'[y.1]? with | some v=>tC y.2 v | none=>false)=true) (htl:(tl.zipIdx (lo++wb).length).all (fun y=>match fr'[y.1]? with | some v=>zF y.2 v | none=>false)=true)
  (hbg:(((H'.drop H.length).take tg.length).map ownB)=tg.map fun _=>true) (hbl:(((loc'.drop (lo++wb).length).take tl.length).map ownB)=tl.map fun _=>true) (hlive:((H'.take H.length).map ownB)=H.map fun _=>true)
  (ho:∀ng nl:List Nat,ng.length=tg.length→nl.length=tl.length→(gs.map (·.1)++ls.map (·.1)++ng++nl).Nodup→Cc X.env (oZ gs ls ws ng nl) (us' ng nl) (gs' ng nl) (ls' ng nl) gi li fr' H' loc') (hwa:(((loc'.drop ls.length).take ws.length).map mJ)=ws.map fun _=>true)
  (hQ:∀(a':Act) (w':World) (ng nl:List Nat),ng.length=tg.length→nl.length=tl.length→(gs.map (·.1)++ls.map (·.1)++ng++nl).Nodup→(∀n∈ng++nl,w.heap.size≤n∧n<w'.heap.size)→dP (us' ng nl) (gs' ng nl) (ls' ng nl) a' w'→dO w0 ex w'→K a' w'):G a w:=by
 have hww:∀x∈ws,tV w x:=fun x hx=>hk.win (hw x hx).1.1 (hw x hx).1.2 (hw x hx).2
 have hpre:=h.pre hww (G7 hw hown) hi.f1 hi.f2 hi.hH hi.ha hi.hL hi.la hi.hW hi.wa hz h0
 refine hrun _ _ _ _ a w ⟨rfl,hW⟩ hpre.GH fun m' a' w' hs=>?_
 have hA0:=(vF X.env (eH gs ls ws) w).mono hs.ext.le
 obtain ⟨ng,g1,g2⟩:=Dh hs (fun i _ v=>tC i v) (fun _ _ _ _ _ _ _ _=>trivial) m'.gb (fun i t v u hv hr=>by obtain ⟨o,q⟩:=Df hv; exact DL hr q) (fun i t v hv=>by obtain ⟨o,rfl | ⟨n,c,rfl⟩⟩:=Df hv<;>rfl) tg H.length (fun j t e=>by
  have:=bn.1 htg (t,H.length+j) (aN (i:=j) (by simp [List.getElem?_zipIdx,e]))
  simp only at this
  split at this
  ·rename_i v hv; exact ⟨v,hv,this⟩
  ·cases this)
 obtain ⟨nl,l1,l2⟩:=Dh hs (fun i _ v=>zF i v) (fun _ _ _ _ _ _ _ _=>trivial) m'.lb (fun i t v u hv hr=>by obtain ⟨o,q⟩:=Fh hv; exact Va hr q) (fun i t v hv=>by obtain ⟨o,rfl⟩:=Fh hv; rfl) tl (lo++wb).length (fun j t e=>by
  have:=bn.1 htl (t,(lo++wb).length+j) (aN (i:=j) (by simp [List.getElem?_zipIdx,e]))
  simp only at this
  split at this
  ·rename_i v hv; exact ⟨v,hv,this⟩
  ·cases this)
 have hGl:H.length=gs.length:=by simpa using congrArg ae1 hi.hH
 have hLl:(lo++wb).length=ls.length+ws.length:=by
  have e1:lo.length=ls.length:=by simpa using congrArg ae1 hi.hL
  have e2:wb.length=ws.length:=by simpa using congrArg ae1 hi.hW
  simp [e1,e2]
 have hnb:∀(j g:Nat),ng[j]?=some g→m'.gb (gs.length+j)=some g∧∃b,H'[gs.length+j]?=some b∧ownB b=true:=fun j g e=>by
  refine ⟨by rw [←hGl]; exact g2 j g e,?_⟩
  obtain ⟨t,ht⟩:∃t,tg[j]?=some t:=⟨_,ah (by rw [←g1]; exact (ai.1 e).1)⟩
  obtain ⟨b,b1,b2⟩:=tu hbg.symm ht
  simp only [dx,aeX] at b1
  split at b1
  ·exact ⟨b,by rw [←hGl]; exact b1,b2.symm⟩
  ·cases b1
 have hnl:∀(j g:Nat),nl[j]?=some g→m'.lb (ls.length+ws.length+j)=some g∧∃b,loc'[ls.length+ws.length+j]?=some b∧ownB b=true:=fun j g e=>by
  refine ⟨by rw [←hLl]; exact l2 j g e,?_⟩
  obtain ⟨t,ht⟩:∃t,tl[j]?=some t:=⟨_,ah (by rw [←l1]; exact (ai.1 e).1)⟩
  obtain ⟨b,b1,b2⟩:=tu hbl.symm ht
  simp only [dx,aeX] at b1
  split at b1
  ·exact ⟨b,by rw [←hLl]; exact b1,b2.symm⟩
  ·cases b1
 have hR:=hs.ext.rel
 have hold:∀(i g:Nat),(gs.map (·.1))[i]?=some g→m'.gb i=some g∧∃b,H'[i]?=some b∧ownB b=true:=fun i g e=>by
  refine ⟨hs.ext.le.gb i g (show (eH gs ls ws).gp[i]?=some g from e),?_⟩
  have hi':i<H.length:=by have:=(ai.1 e).1; simp at this; omega
  obtain ⟨b,b1,b2⟩:=tu hlive.symm (ah hi')
  rw [dx,if_pos hi'] at b1
  exact ⟨b,b1,b2.symm⟩
 have hsz:∀n∈ng++nl,w.heap.size≤n∧n<w'.heap.size:=fun n hn=>by
  rcases bH.1 hn with hn | hn
  ·obtain ⟨j,hj⟩:=cZ hn
   obtain ⟨q1,b,q2,q3⟩:=hnb j n hj
   refine ⟨?_,(hR.ic _ _ q1).1⟩
   rcases hs.ext.img _ _ q1 with ⟨i,e⟩ | e
   ·exfalso
    have e':(gs.map (·.1))[i]?=some n:=e
    obtain ⟨r1,b',r2,r3⟩:=hold i n e'
    have:=hR.ko _ _ n b b' q1 r1 q2 r2 (jU q3).1 (jU r3).1
    have:=(ai.1 e').1
    simp at this; omega
   ·exact e
  ·obtain ⟨j,hj⟩:=cZ hn
   obtain ⟨q1,b,q2,q3⟩:=hnl j n hj
   refine ⟨?_,(hR.iN _ _ q1).1⟩
   rcases hs.ext.oG _ _ q1 with e | e
   ·exfalso
    simp only [iC,aR,eH] at e
    obtain ⟨y,y1,_⟩:=e
    have:=(ai.1 y1).1
    simp at this
    omega
   ·exact e
 have hltw:∀n∈gs.map (·.1)++ls.map (·.1),n<w.heap.size:=fun n hn=>by
  rcases bH.1 hn with hn | hn<;>obtain ⟨y,y1,rfl⟩:=aeZ.1 hn
  ·exact (aB.1 (h.gl y y1)).1
  ·exact (aB.1 (h.lo y y1)).1
 have hnd:(gs.map (·.1)++ls.map (·.1)++ng++nl).Nodup:=by
  refine afe.2 ⟨afe.2 ⟨h.nd,?_,fun a ha b hb e=>?_⟩,?_,fun a ha b hb e=>?_⟩
  ·refine ae7.2 fun i j hi' hj hij e0=>?_
   obtain ⟨n,hn⟩:∃n,ng[i]?=some n:=⟨_,ah hi'⟩
   have e:ng[i]?=ng[j]?:=by rw [ah hi',ah hj,e0]
   obtain ⟨q1,b,q2,q3⟩:=hnb i n hn
   obtain ⟨r1,b',r2,r3⟩:=hnb j n (by rw [←e]; exact hn)
   have:=hR.ko _ _ n b b' q1 r1 q2 r2 (jU q3).1 (jU r3).1
   omega
  ·subst e; have:=hltw a ha; have:=(hsz a (aeY _ hb)).1; omega
  ·refine ae7.2 fun i j hi' hj hij e0=>?_
   obtain ⟨n,hn⟩:∃n,nl[i]?=some n:=⟨_,ah hi'⟩
   have e:nl[i]?=nl[j]?:=by rw [ah hi',ah hj,e0]
   obtain ⟨q1,b,q2,q3⟩:=hnl i n hn
   obtain ⟨r1,b',r2,r3⟩:=hnl j n (by rw [←e]; exact hn)
   rcases hR.pJ _ _ n b b' q1 r1 q2 r2 with k | ⟨_,_,k,_⟩
   ·omega
   ·rw [(jU q3).2.1] at k; cases k
  ·subst e
   rcases bH.1 ha with ha | ha
   ·have:=hltw a ha; have:=(hsz a (dm _ hb)).1; omega
   ·obtain ⟨i,hi'⟩:=cZ ha
    obtain ⟨j,hj⟩:=cZ hb
    exact hR.lh _ _ a (hnb i a hi').1 (hnl j a hj).1
 have hA:At (oZ gs ls ws ng nl) m':=by
  refine ⟨fun i g e=>?_,fun i g e=>?_,fun i y e=>?_⟩
  ·simp only [oZ] at e
   by_cases hi':i<gs.length
   ·rw [aH (by simpa using hi')] at e
    exact hA0.gb i g e
   ·rw [bu (by simpa using afb hi')] at e
    simp only [dF] at e
    have:=(hnb _ g e).1
    rwa [show gs.length+(i - gs.length)=i by omega] at this
  ·simp only [oZ] at e
   by_cases hi':i<gs.length
   ·rw [aH (by simpa using hi')] at e
    exact hA0.lo i g e
   ·rw [bu (by simpa using afb hi')] at e
    simp only [dF] at e
    obtain ⟨q1,b,q2,q3⟩:=hnb _ g e
    rw [show gs.length+(i - gs.length)=i by omega] at q1 q2
    obtain ⟨_,b',r1,r2⟩:=hR.ic i g q1
    rw [q2] at r1; injection r1 with r1; subst r1
    rw [r2.lo]; exact (jU q3).2.1
  ·simp only [oZ] at e
   by_cases hi':i<ls.length+ws.length
   ·rw [aH (by simp [eH]; omega)] at e
    exact hA0.lb i y e
   ·rw [bu (by simp [eH]; omega)] at e
    simp only [bY,aR] at e
    obtain ⟨g,e1,rfl⟩:=e
    have hlen:(eH gs ls ws).lp.length=ls.length+ws.length:=by simp [eH]
    rw [hlen] at e1
    obtain ⟨q1,b,q2,q3⟩:=hnl _ g e1
    rw [show ls.length+ws.length+(i - (ls.length+ws.length))=i by omega] at q1 q2
    refine ⟨q1,?_⟩
    obtain ⟨_,b',r1,r2⟩:=hR.iN i g q1
    rw [q2] at r1; injection r1 with r1; subst r1
    obtain ⟨_,_,_,_,_,_,k,_⟩:=r2.blk (jU q3).1
    exact (k (jU q3).2.1).1
 have hp:=Bt hpre hs hA (fun i y e=>by
  simp only [oZ]
  rw [aH (ai.1 e).1]; exact e)
 have ho':=ho ng nl g1 l1 hnd
 exact hQ a' w' ng nl g1 l1 hnd hsz (hp.GN gi li ho'.f0 ho'.f1 ho'.hG ho'.hL ho'.nd) (hk.post hp hown hww hwa)
end
end Go.Sm
end
section
namespace Go.Sm
open Go.RowKit
structure pE where
 f:FuncId
 xs:List Value
 v:Value
 fl:Value
 nb:List eG
def Ep (a b:Addr):Bool:=ay a.block b.block&&(ay a.off b.off&&(match a.spot,b.spot with | none,none=>true | some x,some y=>ay x y | _,_=>false))
theorem Ow {a b:Addr} (h:Ep a b=true):a=b:=by
 obtain ⟨a1,a2,a3⟩:=a
 obtain ⟨b1,b2,b3⟩:=b
 unfold Ep at h
 simp only [aQ] at h
 obtain ⟨h1,h2,h3⟩:=h
 have h1:=bf h1
 have h2:=bf h2
 have h3:a3=b3:=by
  cases a3<;>cases b3<;>first | rfl | cases h3 | exact congrArg some (bf h3)
 subst h1 h2 h3; rfl
def qd:Nat→Value→Value→Bool
 | 0,_,_=>false
 | d+1,x,y=>match x,y with
  | .agg ⟨xs⟩,.agg ⟨ys⟩=>oF (qd d) xs ys
  | .pointer none,.pointer none=>true
  | .pointer (some a),.pointer (some b)=>Ep a b
  | .slice none n c,.slice none n' c'=>ay n n'&&ay c c'
  | .slice (some a) n c,.slice (some b) n' c'=>Ep a b&&(ay n n'&&ay c c')
  | x,y=>vN 100 x y
theorem xR:∀(d:Nat) (x y:Value),qd d x y=true→x=y
 | 0,_,_,h=>by cases h
 | d+1,x,y,h=>by
  unfold qd at h
  split at h
  ·rw [vO (xR d) _ _ h]
  ·rfl
  ·rw [Ow h]
  ·simp only [aQ] at h
   rw [bf h.1,bf h.2]
  ·simp only [aQ] at h
   rw [Ow h.1,bf h.2.1,bf h.2.2]
  ·exact Cz 100 _ _ h
def zN:List Value→Bool
 | .pointer (some ⟨0,0,none⟩)::_=>true
 | .agg ⟨.pointer (some ⟨0,0,none⟩)::_⟩::_=>true
 | _=>false
def EJ (f:FuncId) (xs:List Value) (n:Nat):List pE→Option pE
 | []=>none
 | t::l=>bif ay t.f f&&(oF (qd 10) t.xs xs&&(t.nb.isEmpty||tC n t.v)) then some t else EJ f xs n l
def BK (e0:Nat) (T:List pE) (S:ig):ig:=fun f args H=>match EJ f args H.length T with
 | some t=>match (show Hp from H)[(0:Nat)]? with
  | some ⟨[c],e,0,false,true⟩=>bif okB c&&(okB t.fl&&(zN args&&ay e e0)) then some (t.v,H.set 0 ⟨[kM c t.fl],e,0,false,true⟩++t.nb,[0]) else none
  | _=>none
 | none=>S f args H
variable {m:Mp}
theorem QU {args args':List Value} (h:zN args=true) (hv:ek m args args'):∃g,m.gb 0=some g:=by
 unfold zN at h
 split at h
 ·obtain ⟨v',l',_,h1,_⟩:=hv.cons_inv
  exact DL h1 (.inl rfl)
 ·obtain ⟨v',l',_,h1,_⟩:=hv.cons_inv
  obtain ⟨cs',_,hc⟩:=uD h1
  obtain ⟨v2,l2,_,h2,_⟩:=hc.cons_inv
  exact DL h2 (.inl rfl)
 ·cases h
theorem OW {f:FuncId} {xs:List Value} {n:Nat} {t:pE}:∀{l:List pE},EJ f xs n l=some t→t∈l∧t.f=f∧t.xs=xs∧(t.nb.isEmpty||tC n t.v)=true
 | [],h=>by cases h
 | t'::l,h=>by
  unfold EJ at h
  cases hb:(ay t'.f f&&(oF (qd 10) t'.xs xs&&(t'.nb.isEmpty||tC n t'.v))) with
  | true =>
   rw [hb] at h
   simp only [cond_true,ak] at h
   subst h
   simp only [aQ] at hb
   exact ⟨aA,bf hb.1,vO (xR 10) _ _ hb.2.1,hb.2.2⟩
  | false =>
   rw [hb] at h
   obtain ⟨q1,q2⟩:=OW h
   exact ⟨aT _ q1,q2⟩
def za (E:Env) (w:World):Prop:=∀(g:Nat) (c:Array Value×TypeId×(Nat×Nat)),E.fz g=some c→w.heap[g]?=some (.cells c.1 c.2.1 c.2.2)
def zf (P:Program) (E:Env) (e:Nat) (t:pE):Prop:=t.nb=[]∧∀(nc:Nat) (c:Bool) (w:World),((∀c,E.f0=some c→nc=c)∧∀g,(E.fz g).isSome=true→g≠nc)→za E w→w.heap[nc]?=some (.cells #[.bool c] e (0,0))→∃(xs:List Value) (v:Value) (b:Bool),eQ (fP E ⟨[nc],[]⟩ 5) t.xs=some xs∧fP E ⟨[nc],[]⟩ 5 t.v=some v∧eF E 300 t.fl=some (.bool b) ∧
 Calls P t.f xs.toArray w fun r w'=>r=.returned v∧jL w nc e (c||b) w'
variable {H loc:Hp} {w:World}
theorem MI {nc:Nat} {b:eG} (hR:Rel m H loc w) (h:m.gb 0=some nc) (hb:H[0]?=some b) (hl:b.loose=false):At ⟨[nc],[]⟩ m:=by
 refine ⟨fun i g e=>?_,fun i g e=>?_,fun i x e=>by simp at e⟩
 ·match i,e with
  | 0,e=>simp at e; subst e; exact h
  | _+1,e=>simp at e
 ·match i,e with
  | 0,e =>
   simp at e; subst e
   obtain ⟨_,b',hb',hG⟩:=hR.ic 0 nc h
   rw [hb] at hb'; injection hb' with hb'; subst hb'
   rw [hG.lo]; exact hl
  | _+1,e=>simp at e
variable {P:Program} {E:Env} {e0:Nat} {T:List pE} {S:ig}
theorem UH (h:∀t∈T,zf P E e0 t) (hS:iY P E S):iY P E (BK e0 T S):=by
 intro f args H v H' md hs m w args' hE hlb hR hargs
 unfold BK at hs
 split at hs
 case h_2=>exact hS f args H v H' md hs m w args' hE hlb hR hargs
 rename_i t ht
 obtain ⟨hmem,rfl,rfl,_⟩:=OW ht
 obtain ⟨hnb,hok⟩:=h t hmem
 split at hs
 case h_2=>cases hs
 rename_i c e hb
 cases hc:(okB c&&(okB t.fl&&(zN t.xs&&ay e e0))) with
 | false=>rw [hc] at hs; cases hs
 | true =>
  rw [hc] at hs
  simp only [cond_true,ak,aP] at hs
  obtain ⟨rfl,rfl,rfl⟩:=hs
  simp only [aQ] at hc
  obtain ⟨hc1,hc2,hc3,hc4⟩:=hc
  have he:=bf hc4
  subst he
  obtain ⟨nc,hg⟩:=QU hc3 hargs
  have hA:=MI hR hg hb rfl
  obtain ⟨_,b0,hb0,hG⟩:=hR.ic 0 nc hg
  rw [hb] at hb0; injection hb0 with hb0; subst hb0
  obtain ⟨cs,e1,e2,e3,e4,_⟩:=hG.blk rfl
  have hsz:=e4 rfl
  obtain ⟨cs⟩:=cs
  simp only [dB,aeT,aeR] at hsz
  obtain ⟨z,rfl⟩:=List.length_eq_one_iff.1 hsz
  obtain ⟨z',l6,e6,hz,_⟩:=e3.cons_inv
  simp only [dB,aeT,List.take_succ_cons,List.take_nil,afj] at e6
  obtain ⟨rfl,_⟩:=e6
  obtain ⟨cb,d1,rfl,ho1⟩:=Di hc1 hz
  obtain ⟨xs,u,b,q1,q2,q3,q4⟩:=hok nc cb w ⟨(fun c0 hc0=>by have:=hR.f0 c0 (by rw [hE]; exact hc0); rw [hg] at this; injection this),fun g hgs heq=>by
   subst heq
   obtain ⟨c',hc'⟩:=Option.isSome_iff_exists.1 hgs
   rw [←hE] at hc'
   exact (hR.fz g c' hc').1.2 0 hg⟩ (fun g c' hc'=>by rw [←hE] at hc'; exact (hR.fz g c' hc').1.1) e1
  have hxs:args'=xs:=oN (fun v u v' a b=>p9 hA 5 v u v' a b) _ _ _ (by rw [hE]; exact q1) hargs
  subst hxs
  refine q4.mono ?_
  rintro r w' ⟨rfl,hF⟩
  obtain ⟨d4,h4⟩:=FK (E:=m.env) ho1 (by rw [hE]; exact q3)
  rw [hnb,afk]
  exact ⟨_,m,rfl,qJ hA 5 _ _ (by rw [hE]; exact q2),Ew hlb hR hg hb (BU (m:=m.jF) h4) hF,hlb⟩
theorem UI (hS:jc S):jc (BK e0 T S):=by
 intro f args H v H' md hs
 unfold BK at hs
 split at hs
 case h_2=>exact hS f args H v H' md hs
 rename_i t ht
 split at hs
 case h_2=>cases hs
 rename_i c e hb
 cases hc:(okB c&&(okB t.fl&&(zN args&&ay e e0))) with
 | false=>rw [hc] at hs; cases hs
 | true =>
  rw [hc] at hs
  simp only [cond_true,ak,aP] at hs
  obtain ⟨rfl,rfl,rfl⟩:=hs
  have h0:0<H.length:=(ai.1 hb).1
  refine ⟨by simp,au _,fun j hj hn=>?_,fun _ _ _=>rfl,fun j b0 e0=>?_⟩
  ·rw [aH (by simpa using hj),bz]
   intro e; subst e; simp at hn
  ·have hj:j<H.length:=(ai.1 e0).1
   rw [aH (by simpa using hj)]
   by_cases hj0:j=0
   ·subst hj0
    rw [hb] at e0; injection e0 with e0; subst e0
    exact ⟨_,getElem?_set_self' hb,rfl,rfl⟩
   ·exact ⟨b0,by rw [bz (ae4 hj0)]; exact e0,rfl,rfl⟩
end Go.Sm
end
section
namespace Go.Sm
open Go.RowKit
def Pz (i:Nat):List (Nat×Value)→Value
 | []=>eu
 | (j,v)::l=>bif ay i j then v else Pz i l
def fK (n:Nat) (l:List (Nat×Value)):List Value:=(dh n).map fun i=>Pz i l
def dU (cells:List Value):eG:=⟨cells,0,1,true,true⟩
def dQ (cells:List Value) (e:TypeId):eG:=⟨cells,e,0,false,true⟩
abbrev He:=(Nat×List (Option Value))×List (Option Nat×Option (Bool×TypeId×Option (List Value)))×List (Option (Nat×Nat)×Option (Bool×TypeId×Option (List Value)))×List Bool
def pI (E:Env) (q:Pl) (us':List (Option Value)) (gi li:List Nat) (nl nw:Nat) (s':St):He:=((s'.fr.length,Fb us' (s'.fr.map (fP E q 5))),gi.map (FO E q s'.H),li.map (FP E q s'.loc),((s'.loc.drop nl).take nw).map mJ)
def goal (us':List (Option Value)) (gs' ls':List gQ) (nw:Nat):He:=((us'.length,us'),gs'.map G5,ls'.map G6,az nw true)
theorem Dn:∀ws:List jC,az ws.length true=ws.map fun _=>true
 | []=>rfl
 | _::l=>by rw [dB,List.replicate_succ,Dn l]; rfl
variable {E:Env} {q:Pl} {us':List (Option Value)} {gs' ls':List gQ} {ws:List jC} {s':St}
theorem zx {gi li:List Nat} {nl:Nat} (h:pI E q us' gi li nl ws.length s'=goal us' gs' ls' ws.length) (nd:(gs'.map (·.1)++ls'.map (·.1)).Nodup):Cc E q us' gs' ls' gi li s'.fr s'.H s'.loc∧(((s'.loc.drop nl).take ws.length).map mJ)=ws.map fun _=>true:=by
 simp only [pI,goal,aP] at h
 obtain ⟨⟨h1,h2⟩,h3,h4,h5⟩:=h
 refine ⟨⟨h1.symm,h2,h3,h4,nd⟩,by rw [h5]; exact Dn ws⟩
abbrev Vt:=(List (Option Value)×Bool)×(List (Option (List Value)×TypeId)×Bool)×(List (Option (List Value)×TypeId)×Bool)×(List (Option (List Value))×Bool)
def nE (E:Env) (p:Pl) (fr:List Value) (H lo wb:Hp):Vt:=((CO E p fr,JR E p fr),(H.map (xH E p),H.all fun b=>ownB b&&b.cells.all kV),(lo.map (xH E p),lo.all ownB),(wb.map (fun b=>eQ (fP E p 4) b.cells),wb.all mJ))
variable {us:List (Option Value)} {gs ls:List gQ} {fr:List Value} {H lo wb:Hp}
theorem oH (h:nE E (eH gs ls ws) fr H lo wb=((us,true),(gs.map iT,true),(ls.map iT,true),(ws.map (fun x=>some x.2.2),true))):In E us gs ls ws fr H lo wb:=by
 simp only [nE,aP] at h
 obtain ⟨⟨h1,h2⟩,⟨h3,h4⟩,⟨h5,h6⟩,h7,h8⟩:=h
 exact ⟨h1,h2,h3,h4,h5,h6,h7,h8⟩
section
variable {P:Program} {X:Xt} {O:ig} {esc:Nat→Bool} {fuel:Nat} {D:Code} {fr:List Value} {H lo wb:Hp} {a:Act} {w w0:World} {ex:List Nat} {Q:Exit→Act→World→Prop} {us us':List (Option Value)} {gs gs' ls ls':List gQ} {ws:List jC}
theorem M7 (hm:P.follows .mixedOrders=true) (hN:kP P) (hX:kD P X) (hO:iY P X.env O) (hP:jc O) (cs:List Code) (gi li:List Nat) (hchk:(qK P X O esc fuel cs ⟨fr,H,lo++wb,[]⟩).map (pI X.env (eH gs ls ws) us' gi li ls.length ws.length)=some (goal us' gs' ls' ws.length))
  (hi:nE X.env (eH gs ls ws) fr H lo wb=((us,true),(gs.map iT,true),(ls.map iT,true),(ws.map (fun x=>some x.2.2),true))) (nd:(gs'.map (·.1)++ls'.map (·.1)).Nodup)
  (h:dP us gs ls a w) (hk:dO w0 ex w) (hw:jR w0 ex ws) (hown:Own w0 ex gs ls) (hz:qc X.env (eH gs ls ws) (lo++wb) w) (h0:∀c,X.env.f0=some c→(eH gs ls ws).gp[0]?=some c) (hW:kv X (iC X.env (eH gs ls ws) w))
  (hQ:∀a' w',dP us' gs' ls' a' w'→dO w0 ex w'→D.wp P Q a' w'):(fB cs D).wp P Q a w:=by
 obtain ⟨s',h1,h2⟩:=aR.1 hchk
 obtain ⟨ho,hwa⟩:=zx h2 nd
 exact piece gi li (F6 hm hN hX hO hP cs h1) h hk hw hown (oH hi) hz h0 hW ho hwa hQ
variable {c:Code}
theorem Ng (hm:P.follows .mixedOrders=true) (hN:kP P) (hX:kD P X) (hO:iY P X.env O) (hP:jc O) (x:Ex) (gi li:List Nat) (hchk:(exec P X O esc fuel c ⟨fr,H,lo++wb,[]⟩).map (fun r=>(r.1,pI X.env (eH gs ls ws) us' gi li ls.length ws.length r.2))=some (x,goal us' gs' ls' ws.length))
  (hi:nE X.env (eH gs ls ws) fr H lo wb=((us,true),(gs.map iT,true),(ls.map iT,true),(ws.map (fun x=>some x.2.2),true))) (nd:(gs'.map (·.1)++ls'.map (·.1)).Nodup)
  (h:dP us gs ls a w) (hk:dO w0 ex w) (hw:jR w0 ex ws) (hown:Own w0 ex gs ls) (hz:qc X.env (eH gs ls ws) (lo++wb) w) (h0:∀c,X.env.f0=some c→(eH gs ls ws).gp[0]?=some c) (hW:kv X (iC X.env (eH gs ls ws) w))
  (hQ:∀a' w',dP us' gs' ls' a' w'→dO w0 ex w'→Q (vS x) a' w'):c.wp P Q a w:=by
 obtain ⟨⟨x',s'⟩,h1,h2⟩:=aR.1 hchk
 simp only [aP] at h2
 obtain ⟨rfl,h2⟩:=h2
 obtain ⟨ho,hwa⟩:=zx h2 nd
 exact piece gi li (adh hm hN hX hO hP h1) h hk hw hown (oH hi) hz h0 hW ho hwa hQ
variable {fn:Func} {R:Ending→World→Prop} {u:Value}
theorem Q8 (hm:P.follows .mixedOrders=true) (hN:kP P) (hX:kD P X) (hO:iY P X.env O) (hP:jc O) (gi li:List Nat) (hchk:(exec P X O esc fuel c ⟨fr,H,lo++wb,[]⟩).map (fun r=>(r.1,((qP P r.2 fn.results.toList).bind fun vs=>fP X.env (eH gs ls ws) 5 (kW vs)),pI X.env (eH gs ls ws) us' gi li ls.length ws.length r.2))=some (.ret,some u,goal us' gs' ls' ws.length))
  (hi:nE X.env (eH gs ls ws) fr H lo wb=((us,true),(gs.map iT,true),(ls.map iT,true),(ws.map (fun x=>some x.2.2),true))) (nd:(gs'.map (·.1)++ls'.map (·.1)).Nodup)
  (h:dP us gs ls a w) (hk:dO w0 ex w) (hw:jR w0 ex ws) (hown:Own w0 ex gs ls) (hz:qc X.env (eH gs ls ws) (lo++wb) w) (h0:∀c,X.env.f0=some c→(eH gs ls ws).gp[0]?=some c) (hW:kv X (iC X.env (eH gs ls ws) w))
  (hQ:∀a' w',dP us' gs' ls' a' w'→dO w0 ex w'→R (.returned u) w'):c.wp P (bodyPost P fn R) a w:=by
 obtain ⟨⟨x',s'⟩,h1,h2⟩:=aR.1 hchk
 simp only [aP] at h2
 obtain ⟨rfl,h3,h2⟩:=h2
 obtain ⟨vs,h4,h5⟩:=Option.bind_eq_some_iff.1 h3
 obtain ⟨ho,hwa⟩:=zx h2 nd
 exact acr hm hN hX hO hP h1 gi li h hk hw hown (oH hi) hz h0 hW h4 h5 ho hwa hQ
end
def named (fr':List Value) (f:Nat→Value→Bool) (n:Nat) (ts:List Nat):Bool:=(ts.zipIdx n).all (fun y=>match fr'[y.1]? with | some v=>f y.2 v | none=>false)
abbrev Vr:=He×(Bool×Bool)×List Bool×List Bool×List Bool
def uj (E:Env) (q:Pl) (us':List (Option Value)) (gi li tg tl:List Nat) (nl nw nH nL:Nat) (s':St):Vr:=(pI E q us' gi li nl nw s',(named s'.fr tC nH tg,named s'.fr zF nL tl),((s'.H.drop nH).take tg.length).map ownB,((s'.loc.drop nL).take tl.length).map ownB,(s'.H.take nH).map ownB)
section
variable {P:Program} {X:Xt} {O:ig} {esc:Nat→Bool} {fuel:Nat} {D:Code} {fr:List Value} {H lo wb:Hp} {a:Act} {w w0:World} {ex:List Nat} {Q:Exit→Act→World→Prop} {us:List (Option Value)} {us':List Nat→List Nat→List (Option Value)} {gs ls:List gQ} {gs' ls':List Nat→List Nat→List gQ} {ws:List jC}
theorem M6 (hm:P.follows .mixedOrders=true) (hN:kP P) (hX:kD P X) (hO:iY P X.env O) (hP:jc O) (cs:List Code) (gi li tg tl:List Nat)
  (hchk:∀ng nl:List Nat,ng.length=tg.length→nl.length=tl.length→(qK P X O esc fuel cs ⟨fr,H,lo++wb,[]⟩).map (uj X.env (oZ gs ls ws ng nl) (us' ng nl) gi li tg tl ls.length ws.length H.length (lo++wb).length)=some (goal (us' ng nl) (gs' ng nl) (ls' ng nl) ws.length,(true,true),tg.map (fun _=>true),tl.map (fun _=>true),H.map (fun _=>true)))
  (hi:nE X.env (eH gs ls ws) fr H lo wb=((us,true),(gs.map iT,true),(ls.map iT,true),(ws.map (fun x=>some x.2.2),true)))
  (nd:∀ng nl:List Nat,ng.length=tg.length→nl.length=tl.length→(gs.map (·.1)++ls.map (·.1)++ng++nl).Nodup→((gs' ng nl).map (·.1)++(ls' ng nl).map (·.1)).Nodup)
  (h:dP us gs ls a w) (hk:dO w0 ex w) (hw:jR w0 ex ws) (hown:Own w0 ex gs ls) (hz:qc X.env (eH gs ls ws) (lo++wb) w) (h0:∀c,X.env.f0=some c→(eH gs ls ws).gp[0]?=some c) (hW:kv X (iC X.env (eH gs ls ws) w))
  (hQ:∀(a':Act) (w':World) (ng nl:List Nat),ng.length=tg.length→nl.length=tl.length→(gs.map (·.1)++ls.map (·.1)++ng++nl).Nodup→(∀n∈ng++nl,w.heap.size≤n∧n<w'.heap.size)→dP (us' ng nl) (gs' ng nl) (ls' ng nl) a' w'→dO w0 ex w'→D.wp P Q a' w'):(fB cs D).wp P Q a w:=by
 obtain ⟨s',h1,h2⟩:=aR.1 (hchk (tg.map fun _=>0) (tl.map fun _=>0) (by simp) (by simp))
 simp only [uj,aP] at h2
 obtain ⟨hq0,⟨h3,h4⟩,h5,h6,h7⟩:=h2
 have hwa:(((s'.loc.drop ls.length).take ws.length).map mJ)=ws.map fun _=>true:=by
  simp only [pI,goal,aP] at hq0
  rw [hq0.2.2.2]
  exact Dn ws
 refine QP gi li tg tl (F6 hm hN hX hO hP cs h1) h hk hw hown (oH hi) hz h0 hW h3 h4 h5 h6 h7 (fun ng nl e1 e2 e3=>?_) hwa hQ
 obtain ⟨s2,k1,k2⟩:=aR.1 (hchk ng nl e1 e2)
 rw [h1] at k1; injection k1 with k1; subst k1
 simp only [uj,aP] at k2
 exact (zx k2.1 (nd ng nl e1 e2 e3)).1
end
end Go.Sm
end
section
namespace Go.Sm
open Go.RowKit
structure pq where
 f:FuncId
 xs:List Value
 hs:List eG
 v:Value
 fl:Value
 nb:List eG
def Iw (a b:eG):Bool:=oF (qd 10) a.cells b.cells&&(ay a.elem b.elem&&(ownB a&&ownB b))
def Cx:List eG→List eG→Bool
 | [],[]=>true
 | a::l,b::r=>Iw a b&&Cx l r
 | _,_=>false
def mentions (i:Nat) (v:Value):Bool:=tC i v||(match v with
 | .agg ⟨l⟩=>l.any (tC i)
 | _=>false)
def ME (xs:List Value) (n:Nat):Bool:=(dh n).all fun i=>xs.any (mentions i)
def EC (f:FuncId) (xs:List Value) (hs:List eG):List pq→Option pq
 | []=>none
 | t::l=>bif ay t.f f&&(oF (qd 10) t.xs xs&&Cx t.hs hs) then some t else EC f xs hs l
def Ip (e0:Nat) (T:List pq) (S:ig) (f:FuncId) (args:List Value) (H:Hp):Option (Value×Hp×List Nat):=match H with
 | ⟨[c],e,0,false,true⟩::hs=>match EC f args hs T with
  | some t=>bif okB c&&(okB t.fl&&(ME args (hs.length+1)&&(ay e e0&&(t.nb.all (fun b=>ownB b&&b.cells.all kV)&&kV t.v)))) then some (t.v,⟨[kM c t.fl],e,0,false,true⟩::hs++t.nb,[0]) else none
  | none=>S f args H
 | _=>S f args H
def Av (e0:Nat) (T:List pq) (S:ig):ig:=fun f args H=>Ip e0 T S f args H
theorem XD {a b:eG} (h:Iw a b=true):a=b∧ownB a=true:=by
 unfold Iw at h
 simp only [aQ] at h
 obtain ⟨h1,h2,h3,h4⟩:=h
 obtain ⟨a1,a2,a3⟩:=jU h3
 obtain ⟨b1,b2,b3⟩:=jU h4
 have e1:=vO (xR 10) _ _ h1
 have e2:=bf h2
 obtain ⟨c,e,z,o,l⟩:=a
 obtain ⟨c',e',z',o',l'⟩:=b
 simp only at a1 a2 a3 b1 b2 b3 e1 e2
 subst a1 a2 a3 b1 b2 b3 e1 e2
 exact ⟨rfl,h3⟩
theorem Ox:∀(a b:List eG),Cx a b=true→a=b∧∀x∈a,ownB x=true
 | [],[],_=>⟨rfl,fun x hx=>by cases hx⟩
 | a::l,b::r,h=>by
  unfold Cx at h
  simp only [aQ] at h
  obtain ⟨h1,h2⟩:=XD h.1
  obtain ⟨h3,h4⟩:=Ox l r h.2
  subst h1 h3
  exact ⟨rfl,fun x hx=>by rcases ag.1 hx with r | r; exact r▸h2; exact h4 x r⟩
 | [],_::_,h=>by cases h
 | _::_,[],h=>by cases h
theorem OL {f:FuncId} {xs:List Value} {hs:List eG} {t:pq}:∀{l:List pq},EC f xs hs l=some t→t∈l∧t.f=f∧t.xs=xs∧t.hs=hs∧∀x∈hs,ownB x=true
 | [],h=>by cases h
 | t'::l,h=>by
  unfold EC at h
  cases hb:(ay t'.f f&&(oF (qd 10) t'.xs xs&&Cx t'.hs hs)) with
  | true =>
   rw [hb] at h
   simp only [cond_true,ak] at h
   subst h
   simp only [aQ] at hb
   obtain ⟨k1,k2⟩:=Ox _ _ hb.2.2
   exact ⟨aA,bf hb.1,vO (xR 10) _ _ hb.2.1,k1,k1▸k2⟩
  | false =>
   rw [hb] at h
   obtain ⟨q1,q2⟩:=OL h
   exact ⟨aT _ q1,q2⟩
variable {m:Mp} {i:Nat} {v v':Value}
theorem PW (h:tC i v=true) (hv:VR m v v'):∃g,m.gb i=some g:=by
 obtain ⟨o,q⟩:=Df h
 exact DL hv q
theorem ZB (h:mentions i v=true) (hv:VR m v v'):∃g,m.gb i=some g:=by
 unfold mentions at h
 simp only [Bool.or_eq_true] at h
 rcases h with h | h
 ·exact PW h hv
 ·split at h
  ·rename_i l
   obtain ⟨x,x1,x2⟩:=List.any_eq_true.1 h
   obtain ⟨cs',_,hc⟩:=uD hv
   obtain ⟨j,hj⟩:=cZ x1
   obtain ⟨v',_,h2⟩:=hc.at hj
   exact PW x2 h2
  ·cases h
def Af (P:Program) (E:Env) (e:Nat) (t:pq):Prop:=∀(nc:Nat) (ga:List Nat) (c:Bool) (w:World),ga.length=t.hs.length→(nc::ga).Nodup→(∀c,E.f0=some c→nc=c)→(∀g∈nc::ga,E.fz g=none)→za E w→w.heap[nc]?=some (.cells #[.bool c] e (0,0)) →
 (∀(i:Nat) (b:eG) (g:Nat),t.hs[i]?=some b→ga[i]?=some g→∀vs,eQ (fP E ⟨nc::ga,[]⟩ 4) b.cells=some vs→w.heap[g]?=some (.cells ⟨vs⟩ b.elem (0,0))) →
 ∃(xs:List Value) (b:Bool),eQ (fP E ⟨nc::ga,[]⟩ 5) t.xs=some xs∧eF E 300 t.fl=some (.bool b) ∧
 Calls P t.f xs.toArray w fun r w'=>∃(ng:List Nat) (v:Value),ng.length=t.nb.length∧(∀g∈ng,w.heap.size≤g∧g<w'.heap.size)∧ng.Nodup∧fP E ⟨nc::ga++ng,[]⟩ 5 t.v=some v∧r=.returned v ∧
  (∀(i:Nat) (b:eG) (g:Nat),t.nb[i]?=some b→ng[i]?=some g→∃vs,eQ (fP E ⟨nc::ga++ng,[]⟩ 4) b.cells=some vs∧w'.heap[g]?=some (.cells ⟨vs⟩ b.elem (0,0)))∧jL w nc e (c||b) w'
variable {P:Program} {E:Env} {e0:Nat} {S:ig}
theorem Nj {T:List pq} (h:∀t∈T,Af P E e0 t) (hS:iY P E S):iY P E (Av e0 T S):=by
 intro f args H v H' md hs m w args' hE hlb hR hargs
 unfold Av Ip at hs
 split at hs
 case h_2=>exact hS f args H v H' md hs m w args' hE hlb hR hargs
 rename_i c e bs
 split at hs
 case h_2=>exact hS f args _ v H' md hs m w args' hE hlb hR hargs
 rename_i t ht
 obtain ⟨hmem,rfl,rfl,rfl,hown⟩:=OL ht
 cases hc:(okB c&&(okB t.fl&&(ME t.xs (t.hs.length+1)&&(ay e e0&&(t.nb.all (fun b=>ownB b&&b.cells.all kV)&&kV t.v))))) with
 | false=>rw [hc] at hs; cases hs
 | true =>
  rw [hc] at hs
  simp only [cond_true,ak,aP] at hs
  obtain ⟨rfl,rfl,rfl⟩:=hs
  simp only [aQ] at hc
  obtain ⟨hc1,hc2,hc3,hc4,hc5,hc6⟩:=hc
  have he:=bf hc4
  subst he
  have hgb:∀i,i<t.hs.length+1→∃g,m.gb i=some g:=fun i hi=>by
   have:=bn.1 hc3 i (List.mem_range.2 hi)
   obtain ⟨x,x1,x2⟩:=List.any_eq_true.1 this
   obtain ⟨j,hj⟩:=cZ x1
   obtain ⟨v',_,h2⟩:=hargs.at hj
   exact ZB x2 h2
  obtain ⟨nc,hg⟩:=hgb 0 (by omega)
  obtain ⟨ga,hga1,hga2⟩:∃ga:List Nat,ga.length=t.hs.length∧∀(i g:Nat),ga[i]?=some g→m.gb (i+1)=some g:=by
   have:∀n,n≤t.hs.length→∃ga:List Nat,ga.length=n∧∀(i g:Nat),ga[i]?=some g→m.gb (i+1)=some g:=by
    intro n
    induction n with
    | zero=>exact fun _=>⟨[],rfl,fun i g e=>by simp at e⟩
    | succ n ih =>
     intro hn
     obtain ⟨ga,q1,q2⟩:=ih (by omega)
     obtain ⟨g,hg⟩:=hgb (n+1) (by omega)
     refine ⟨ga++[g],by simp [q1],fun i g' e=>?_⟩
     by_cases hi:i<ga.length
     ·rw [aH hi] at e; exact q2 i g' e
     ·rw [bu (by omega)] at e
      have:i=n:=by
       have:=(ai.1 e).1
       simp at this; omega
      subst this
      rw [q1] at e; simp at e; subst e; exact hg
   exact this _ (au _)
  have hgl:∀(i g:Nat),(nc::ga)[i]?=some g→m.gb i=some g:=fun i g e=>by
   cases i with
   | zero=>simp at e; subst e; exact hg
   | succ i=>exact hga2 i g (by simpa using e)
  have hbl:∀(i g:Nat),(nc::ga)[i]?=some g→∃b,(({ cells:=[c],elem:=e,eD:=0,loose:=false,live:=true }:eG)::t.hs)[i]?=some b∧ownB b=true:=fun i g e'=>by
   cases i with
   | zero=>exact ⟨_,rfl,rfl⟩
   | succ i =>
    have hi:i<t.hs.length:=by
     have:=(ai.1 e').1
     simp at this; omega
    exact ⟨t.hs[i],by rw [aeW]; exact ah hi,hown _ (List.getElem_mem hi)⟩
  have hA:At ⟨nc::ga,[]⟩ m:=by
   refine ⟨hgl,fun i g e'=>?_,fun i x e'=>by simp at e'⟩
   obtain ⟨_,b',hb',hG⟩:=hR.ic i g (hgl i g e')
   obtain ⟨b,q1,q2⟩:=hbl i g e'
   rw [q1] at hb'; injection hb' with hb'; subst hb'
   rw [hG.lo]; exact (jU q2).2.1
  have hnd:(nc::ga).Nodup:=by
   refine ae7.2 fun i j hi hj hij e0=>?_
   have e1:=ah hi
   have e2:=ah hj
   rw [←e0] at e2
   obtain ⟨b,q1,q2⟩:=hbl _ _ e1
   obtain ⟨b',r1,r2⟩:=hbl _ _ e2
   have:=hR.ko i j _ b b' (hgl _ _ e1) (hgl _ _ e2) q1 r1 (jU q2).1 (jU r2).1
   omega
  have hfz:∀g∈nc::ga,E.fz g=none:=fun g hgm=>by
   obtain ⟨i,hi⟩:=cZ hgm
   cases hz:E.fz g with
   | none=>rfl
   | some c'=>rw [←hE] at hz; exact absurd (hgl i g hi) ((hR.fz g c' hz).1.2 i)
  obtain ⟨_,b0,hb0,hG⟩:=hR.ic 0 nc hg
  have hb0':b0=({ cells:=[c],elem:=e,eD:=0,loose:=false,live:=true }:eG):=by simp at hb0; exact hb0.symm
  subst hb0'
  obtain ⟨cs,e1,e2,e3,e4,_⟩:=hG.blk rfl
  have hsz:=e4 rfl
  obtain ⟨cs⟩:=cs
  simp only [dB,aeT,aeR] at hsz
  obtain ⟨z,rfl⟩:=List.length_eq_one_iff.1 hsz
  obtain ⟨z',l6,e6,hz,_⟩:=e3.cons_inv
  simp only [dB,aeT,List.take_succ_cons,List.take_nil,afj] at e6
  obtain ⟨rfl,_⟩:=e6
  obtain ⟨cb,d1,rfl,ho1⟩:=Di hc1 hz
  obtain ⟨xs,b,q1,q3,q4⟩:=h t hmem nc ga cb w hga1 hnd (fun c0 hc0=>by have:=hR.f0 c0 (by rw [hE]; exact hc0); rw [hg] at this; injection this) hfz (fun g c' hc'=>by rw [←hE] at hc'; exact (hR.fz g c' hc').1.1) e1 (fun i bi g hbi hgi vs hvs=>by
   obtain ⟨_,b',hb',hG'⟩:=hR.ic (i+1) g (hga2 i g hgi)
   rw [aeW,hbi] at hb'; injection hb' with hb'; subst hb'
   have ho:=hown bi (aN hbi)
   obtain ⟨cs,k1,k2,k3,k4,_⟩:=hG'.blk (jU ho).1
   have hk:=k4 (jU ho).2.1
   have:=oN (m:=m) (fun v u v' a b=>p9 hA 4 v u v' a b) _ _ _ (by rw [hE]; exact hvs) (k3.mono (Be m))
   rw [dH (by simp [hk])] at this
   rw [k1,←this])
  have hxs:args'=xs:=oN (fun v u v' a b=>p9 hA 5 v u v' a b) _ _ _ (by rw [hE]; exact q1) hargs
  subst hxs
  refine q4.mono ?_
  rintro r w' ⟨ng,u,n1,n2,n3,n4,rfl,n5,hF⟩
  obtain ⟨d4,h4⟩:=FK (E:=m.env) ho1 (by rw [hE]; exact q3)
  have hx1:Ext m _ [] w m (({ cells:=[kM c t.fl],elem:=e,eD:=0,loose:=false,live:=true }:eG)::t.hs) [] w' [0] []:=Ew hlb hR hg rfl (BU (m:=m.jF) h4) hF
  let m2:Mp:={ m with gb:=fun i=>if t.hs.length+1≤i then ng[i - (t.hs.length+1)]? else m.gb i,loose:=fun i=>if t.hs.length+1≤i then false else m.loose i,eD:=fun i=>if t.hs.length+1≤i then 0 else m.eD i }
  have hold:∀i g,m.gb i=some g→i<t.hs.length+1:=fun i g e'=>by
   obtain ⟨_,b',hb',_⟩:=hR.ic i g e'
   have:=(ai.1 hb').1
   simpa using this
  have hle:Le m m2:=by
   refine ⟨fun i g e'=>?_,fun _ _ e'=>e',fun i g e'=>?_,fun i g e'=>?_,fun _ _ _=>rfl,rfl,fun _ _ _=>rfl,rfl⟩
   ·show (if _ then _ else _)=_; rw [if_neg (by have:=hold i g e'; omega)]; exact e'
   ·show (if _ then _ else _)=_; rw [if_neg (by have:=hold i g e'; omega)]
   ·show (if _ then _ else _)=_; rw [if_neg (by have:=hold i g e'; omega)]
  have hnew:∀i g,m2.gb i=some g→m.gb i=some g∨(t.hs.length+1≤i∧ng[i - (t.hs.length+1)]?=some g):=fun i g e'=>by
   have e'':(if t.hs.length+1≤i then ng[i - (t.hs.length+1)]? else m.gb i)=some g:=e'
   split at e''
   ·rename_i hi; exact .inr ⟨hi,e''⟩
   ·exact .inl e''
  have hA2:At ⟨nc::ga++ng,[]⟩ m2:=by
   have hlen:(nc::ga).length=t.hs.length+1:=by simp [hga1]
   refine ⟨fun i g e'=>?_,fun i g e'=>?_,fun i x e'=>by simp at e'⟩
   ·simp only at e'
    by_cases hi:i<t.hs.length+1
    ·rw [aH (by rw [hlen]; exact hi)] at e'
     exact hle.gb i g (hgl i g e')
    ·rw [bu (by rw [hlen]; omega),hlen] at e'
     show (if _ then _ else _)=_; rw [if_pos (by omega)]; exact e'
   ·simp only at e'
    by_cases hi:i<t.hs.length+1
    ·rw [aH (by rw [hlen]; exact hi)] at e'
     exact (hle.loose i g (hgl i g e')).trans (hA.lo i g e')
    ·show (if _ then _ else _)=_; rw [if_pos (by omega)]
  refine ⟨u,m2,rfl,qJ hA2 5 _ _ (by show fP m.env _ _ _=_; rw [hE]; exact n4),?_,hlb⟩
  refine xW hx1 hle (fun i hi=>aH hi) (by simp) (fun i hi=>by simp at hi) (au _) (fun _ _=>rfl) (au _) rfl rfl rfl (fun i g e'=>?_) (fun i g e'=>by rw [show m2.lb=m.lb from rfl,hlb] at e'; cases e')
  rcases hnew i g e' with r | ⟨r1,r2⟩
  ·exact .inl r
  ·right
   have hin:i - (t.hs.length+1)<t.nb.length:=by rw [←n1]; exact (ai.1 r2).1
   obtain ⟨vs,v1,v2⟩:=n5 _ _ g (ah hin) r2
   have hob:=bn.1 hc5 _ (List.getElem_mem hin)
   simp only [aQ] at hob
   obtain ⟨o1,o2,o3⟩:=jU hob.1
   obtain ⟨s1,s2⟩:=n2 g (aN r2)
   refine ⟨by simp; omega,by simp; omega,s2,s1,⟨t.nb[i - (t.hs.length+1)],?_,?_⟩,fun j hj=>?_,fun j hj=>by rw [show m2.lb=m.lb from rfl,hlb] at hj; cases hj⟩
   ·rw [bu (by simp; omega)]
    simp
   ·have hli:m2.loose i=false:=by show (if _ then _ else _)=_; rw [if_pos r1]
    have hez:m2.eD i=0:=by show (if _ then _ else _)=_; rw [if_pos r1]
    refine ⟨hli.trans o2.symm,hez.trans o3.symm,fun _=>⟨⟨vs⟩,v2,by simp [nR _ _ v1],?_,fun _=>by simp [nR _ _ v1],fun e=>by rw [o2] at e; cases e⟩⟩
    rw [dH (by simp [nR _ _ v1])]
    exact vB (m:=m2) hob.2 (qp (qJ (m:=m2) hA2 4) _ _ (by show eQ (fP m.env _ 4) _=_; rw [hE]; exact v1))
   ·rcases hnew j g hj with q | ⟨q1,q2⟩
    ·have:=(hR.ic j g q).1; omega
    ·obtain ⟨p1,p2⟩:=ai.1 r2
     obtain ⟨p3,p4⟩:=ai.1 q2
     have:=(List.getElem_inj n3).1 (p2.trans p4.symm)
     omega
theorem Nk {T:List pq} (hS:jc S):jc (Av e0 T S):=by
 intro f args H v H' md hs
 unfold Av Ip at hs
 split at hs
 case h_2=>exact hS f args H v H' md hs
 rename_i c e bs
 split at hs
 case h_2=>exact hS f args _ v H' md hs
 rename_i t ht
 rcases je hs with hs | hs
 ·simp only [ak,aP] at hs
  obtain ⟨rfl,rfl,rfl⟩:=hs
  refine ⟨by simp,au _,fun j hj hn=>?_,fun _ _ _=>rfl,fun j b0 e0=>?_⟩
  ·cases j with
   | zero=>simp at hn
   | succ j=>rw [dw,aeW,aeW,aH (by simpa using hj)]
  ·cases j with
   | zero=>simp at e0; subst e0; exact ⟨_,rfl,rfl,rfl⟩
   | succ j =>
    have hj:=(ai.1 e0).1
    rw [aeW] at e0
    exact ⟨b0,by rw [dw,aeW,aH (by simpa using hj)]; exact e0,rfl,rfl⟩
 ·cases hs
structure qG where
 f:FuncId
 xs:List Value
 n:Nat
 c:Nat
 fl:Value
 blk:eG
def EH (f:FuncId) (xs:List Value):List qG→Option qG
 | []=>none
 | t::l=>bif ay t.f f&&oF (qd 10) t.xs xs then some t else EH f xs l
def Bw (e0:Nat) (T:List qG) (S:ig):ig:=fun f args H=>match EH f args T with
 | some t=>match (show Hp from H)[(0:Nat)]? with
  | some ⟨[c],e,0,false,true⟩=>bif okB c&&(okB t.fl&&(zN args&&(ay e e0&&(ownB t.blk&&t.blk.cells.all kV)))) then some (.slice (some ⟨H.length,0,none⟩) t.n t.c,H.set 0 ⟨[kM c t.fl],e,0,false,true⟩++[t.blk],[0]) else none
  | _=>none
 | none=>S f args H
theorem OU {f:FuncId} {xs:List Value} {t:qG}:∀{l:List qG},EH f xs l=some t→t∈l∧t.f=f∧t.xs=xs
 | [],h=>by cases h
 | t'::l,h=>by
  unfold EH at h
  cases hb:(ay t'.f f&&oF (qd 10) t'.xs xs) with
  | true =>
   rw [hb] at h
   simp only [cond_true,ak] at h
   subst h
   simp only [aQ] at hb
   exact ⟨aA,bf hb.1,vO (xR 10) _ _ hb.2⟩
  | false =>
   rw [hb] at h
   obtain ⟨q1,q2⟩:=OU h
   exact ⟨aT _ q1,q2⟩
def Cg (P:Program) (E:Env) (e:Nat) (t:qG):Prop:=∀(nc:Nat) (c:Bool) (w:World),(∀c,E.f0=some c→nc=c)→za E w→w.heap[nc]?=some (.cells #[.bool c] e (0,0))→∃(xs vs:List Value) (b:Bool),eQ (fP E ⟨[nc],[]⟩ 5) t.xs=some xs∧eQ (fP E ⟨[nc],[]⟩ 4) t.blk.cells=some vs∧eF E 300 t.fl=some (.bool b) ∧
 Calls P t.f xs.toArray w fun r w'=>∃gl,w.heap.size≤gl∧gl<w'.heap.size∧r=.returned (.slice (some ⟨gl,0,none⟩) t.n t.c)∧w'.heap[gl]?=some (.cells ⟨vs⟩ t.blk.elem (0,0))∧jL w nc e (c||b) w'
theorem Ra {T:List qG} (h:∀t∈T,Cg P E e0 t) (hS:iY P E S):iY P E (Bw e0 T S):=by
 intro f args H v H' md hs m w args' hE hlb hR hargs
 unfold Bw at hs
 split at hs
 case h_2=>exact hS f args H v H' md hs m w args' hE hlb hR hargs
 rename_i t ht
 obtain ⟨hmem,rfl,rfl⟩:=OU ht
 split at hs
 case h_2=>cases hs
 rename_i c e hb
 cases hc:(okB c&&(okB t.fl&&(zN t.xs&&(ay e e0&&(ownB t.blk&&t.blk.cells.all kV))))) with
 | false=>rw [hc] at hs; cases hs
 | true =>
  rw [hc] at hs
  simp only [cond_true,ak,aP] at hs
  obtain ⟨rfl,rfl,rfl⟩:=hs
  simp only [aQ] at hc
  obtain ⟨hc1,hc2,hc3,hc4,hc5,hc6⟩:=hc
  have he:=bf hc4
  subst he
  obtain ⟨nc,hg⟩:=QU hc3 hargs
  have hA:=MI hR hg hb rfl
  obtain ⟨_,b0,hb0,hG⟩:=hR.ic 0 nc hg
  rw [hb] at hb0; injection hb0 with hb0; subst hb0
  obtain ⟨cs,e1,e2,e3,e4,_⟩:=hG.blk rfl
  have hsz:=e4 rfl
  obtain ⟨cs⟩:=cs
  simp only [dB,aeT,aeR] at hsz
  obtain ⟨z,rfl⟩:=List.length_eq_one_iff.1 hsz
  obtain ⟨z',l6,e6,hz,_⟩:=e3.cons_inv
  simp only [dB,aeT,List.take_succ_cons,List.take_nil,afj] at e6
  obtain ⟨rfl,_⟩:=e6
  obtain ⟨cb,d1,rfl,ho1⟩:=Di hc1 hz
  obtain ⟨xs,vs,b,q1,q2,q3,q4⟩:=h t hmem nc cb w (fun c0 hc0=>by have:=hR.f0 c0 (by rw [hE]; exact hc0); rw [hg] at this; injection this) (fun g c' hc'=>by rw [←hE] at hc'; exact (hR.fz g c' hc').1.1) e1
  have hxs:args'=xs:=oN (fun v u v' a b=>p9 hA 5 v u v' a b) _ _ _ (by rw [hE]; exact q1) hargs
  subst hxs
  refine q4.mono ?_
  rintro r w' ⟨gl,n1,n2,rfl,n4,hF⟩
  obtain ⟨d4,h4⟩:=FK (E:=m.env) ho1 (by rw [hE]; exact q3)
  obtain ⟨o1,o2,o3⟩:=jU hc5
  have hx1:Ext m H [] w m (H.set 0 ⟨[kM c t.fl],e,0,false,true⟩) [] w' [0] []:=Ew hlb hR hg hb (BU (m:=m.jF) h4) hF
  have hun:m.gb H.length=none:=hR.BO (au _)
  have hle:Le m (m.gN H.length gl false 0 0):=CY hun
  have hcase:∀i g,(m.gN H.length gl false 0 0).gb i=some g→(i=H.length∧g=gl)∨m.gb i=some g:=fun i g e'=>by
   simp only [Mp.gN] at e'
   split at e'
   ·rename_i hi; injection e' with e'; exact .inl ⟨hi,e'.symm⟩
   ·exact .inr e'
  have hnew:(m.gN H.length gl false 0 0).gb H.length=some gl:=by simp [Mp.gN]
  refine ⟨_,m.gN H.length gl false 0 0,rfl,.ow hnew,?_,hlb⟩
  refine xW hx1 hle (fun i hi=>aH hi) (by simp) (fun i hi=>by simp at hi) (au _) (fun _ _=>rfl) (au _) rfl rfl rfl (fun i g e'=>?_) (fun i g e'=>by rw [show (m.gN H.length gl false 0 0).lb=m.lb from rfl,hlb] at e'; cases e')
  rcases hcase i g e' with ⟨rfl,rfl⟩ | r
  ·right
   refine ⟨au _,by simp,n2,n1,⟨t.blk,by rw [bu (by simp)]; simp,?_⟩,fun j hj=>?_,fun j hj=>by rw [show (m.gN H.length g false 0 0).lb=m.lb from rfl,hlb] at hj; cases hj⟩
   ·refine ⟨by simp [Mp.gN,o2],by simp [Mp.gN,o3],fun _=>⟨⟨vs⟩,n4,by simp [nR _ _ q2],?_,fun _=>by simp [nR _ _ q2],fun e=>by rw [o2] at e; cases e⟩⟩
    rw [dH (by simp [nR _ _ q2])]
    exact vB (m:=m.gN H.length g false 0 0) hc6 (qp (qJ (m:=m.gN H.length g false 0 0) (hA.mono hle) 4) _ _ (by show eQ (fP m.env _ 4) _=_; rw [hE]; exact q2))
   ·rcases hcase j g hj with q | q
    ·exact q.1
    ·have:=(hR.ic j g q).1; omega
  ·exact .inl r
theorem Rb {T:List qG} (hS:jc S):jc (Bw e0 T S):=by
 intro f args H v H' md hs
 unfold Bw at hs
 split at hs
 case h_2=>exact hS f args H v H' md hs
 rename_i t ht
 split at hs
 case h_2=>cases hs
 rename_i c e hb
 rcases je hs with hs | hs
 ·simp only [ak,aP] at hs
  obtain ⟨rfl,rfl,rfl⟩:=hs
  refine ⟨by simp,au _,fun j hj hn=>?_,fun _ _ _=>rfl,fun j b0 e0=>?_⟩
  ·rw [aH (by simpa using hj),bz]
   intro e; subst e; simp at hn
  ·have hj:j<H.length:=(ai.1 e0).1
   rw [aH (by simpa using hj)]
   by_cases hj0:j=0
   ·subst hj0
    rw [hb] at e0; injection e0 with e0; subst e0
    exact ⟨_,getElem?_set_self' hb,rfl,rfl⟩
   ·exact ⟨b0,by rw [bz (ae4 hj0)]; exact e0,rfl,rfl⟩
 ·cases hs
end Go.Sm
end
section
namespace Go.Sm
open Go.RowKit
section
variable {P:Program} {m0:Mp} {H0:Hp} {w0:World}
theorem LH (hN:kP P) {X:Xt} (hX:kD P X) {O:ig} (hO:iY P X.env O) (hE0:qb X m0) {esc:Nat→Bool} {ops tail:List Oper} {Q:Exit→Act→World→Prop} :
  ∀(l:List Oper) (s s':St) (m:Mp) (a:Act) (w:World),q8 l=true→qC P X O esc ops l s=some s'→jQ m0 H0 w0 s m a w →
   (∀m' a' w',jQ m0 H0 w0 s' m' a' w'→wpList P ops.toArray Q tail a' w')→wpList P ops.toArray Q (l++tail) a w
 | [],s,s',m,a,w,_,h,hs,hQ=>by
  simp only [qC,ak] at h
  subst h
  exact hQ m a w hs
 | o::rest,s,s',m,a,w,hc,h,hs,hQ=>by
  simp only [q8,List.all_cons,aQ] at hc
  simp only [qC] at h
  split at h
  ·rename_i s1 h1
   unfold GU at h1
   simp only [yc,JK,nC] at h1
   rw [dw]
   unfold wpList
   cases hgo:wP ops s.fr o with
   | false=>rw [hgo] at h1; cases h1
   | true =>
   rw [hgo] at h1
   simp only [cond_true] at h1
   rw [Vk hs.fr o hgo]
   cases hw:xx ops s.fr o with
   | true =>
    rw [hw] at h1
    simp only [cond_true] at h1
    simp only [if_true]
    split at h1
    ·rename_i out hout
     injection h1 with h1; subst h1
     refine .inl (Jz hN hX hO (hE0.mono hs.ext.le) (QE hs.fr hc.1 (wL hout).1) hs.ext.rel hout fun v' w' m' hext hvr=>?_)
     refine LH hN hX hO hE0 rest _ s' m' _ w' hc.2 h ⟨(hs.ext.trans hext).Ko,?_,?_⟩ hQ
     ·exact FU (hs.fr.mono hext.le) o.dst hvr
     ·cases hd:o.dst<;>simp [Act.put,hs.df]
    ·cases h1
   | false =>
    rw [hw] at h1
    simp only [cond_false,ak] at h1
    subst h1
    simp only [Bool.false_eq_true,if_false]
    refine LH hN hX hO hE0 rest _ s' m _ w hc.2 h ⟨hs.ext,?_,?_⟩ hQ
    ·exact FU hs.fr o.dst (VR.undef m)
    ·cases hd:o.dst<;>simp [Act.put,hs.df]
  ·cases h
end
variable {P:Program} {X:Xt} {O:ig} {esc:Nat→Bool} {ops tail:List Oper} {Q:Exit→Act→World→Prop} {s s':St}
theorem Re (hN:kP P) (hX:kD P X) (hO:iY P X.env O) {l:List Oper} (hc:q8 l=true) (h:qC P X O esc ops l s=some s') :
  Aj X (wpList P ops.toArray Q (l++tail)) (wpList P ops.toArray Q tail) s s':=fun _ _ _ m a w hE hs hQ=>LH hN hX hO hE l s s' m a w hc h hs hQ
variable {a:Act} {w:World} {f:FuncId} {fn:Func} {xs:List Value}
theorem MZ (hN:kP P) {ops:Array Oper} {o:Oper} {as:Array Operand} {ts:Array TypeId} (hg:o.guard=none) (ho:o.op=.call { callee:=.value (.func f),args:=as,argTypes:=ts }) (hf:P.funcs[f]?=some fn) (hb:fn.body.isSome=true)
  (hx:as.toList.map a.eval=xs) (h:Calls P f xs.toArray w fun r w'=>∃v,r=.returned v∧wpList P ops Q tail (a.put o.dst v) w'):wpList P ops Q (o::tail) a w:=by
 refine wpList_plain hg fun K hK=>?_
 obtain ⟨dst,op,ty,pos,aft,gd⟩:=o
 simp only at ho hg h
 subst ho
 have hrun:=Rc (P:=P) (args:=xs.toArray) hf hb (hN _ _ hf) w
 have he:(execOp a.eval ⟨dst,.call { callee:=.value (.func f),args:=as,argTypes:=ts },ty,pos,aft,gd⟩).run P w=.ok (.enter f xs.toArray) w:=by
  have e:(#[]++as.map a.eval++#[]:Array Value)=xs.toArray:=by apply Array.ext'; rw [←hx]; simp
  unfold execOp
  simp only [resolve,show a.eval (.func f)=.func (.func f) #[] #[] from rfl,Deferred.ofValue,di,dA,bC,invoke,e,hrun]
 unfold Oper.wp
 rw [he,Oper.upon_enter]
 refine h.mono fun r w' hr=>?_
 obtain ⟨v,rfl,h2⟩:=hr
 exact hK _ _ h2
end Go.Sm
end
section
namespace Go.Sm
open Go.RowKit
inductive Qr where
 | val (v:Value)
 | row (tup:Bool) (n c:Nat) (blk:eG)
structure Qt where
 f:FuncId
 xs:List Value
 r:Qr
def EG (f:FuncId) (xs:List Value):List Qt→Option Qt
 | []=>none
 | t::l=>bif ay t.f f&&oF (qd 10) t.xs xs then some t else EG f xs l
theorem OT {f:FuncId} {xs:List Value} {t:Qt}:∀{l:List Qt},EG f xs l=some t→t∈l∧t.f=f∧t.xs=xs
 | [],h=>by cases h
 | t'::l,h=>by
  unfold EG at h
  cases hb:(ay t'.f f&&oF (qd 10) t'.xs xs) with
  | true =>
   rw [hb] at h
   simp only [cond_true,ak] at h
   subst h
   simp only [aQ] at hb
   exact ⟨aA,bf hb.1,vO (xR 10) _ _ hb.2⟩
  | false =>
   rw [hb] at h
   obtain ⟨q1,q2⟩:=OT h
   exact ⟨aT _ q1,q2⟩
def kC (tup:Bool) (g n c:Nat):Value:=bif tup then .tuple ⟨[.slice (some ⟨g,0,none⟩) n c,.bool true]⟩ else .slice (some ⟨g,0,none⟩) n c
def Dm (H:Hp):Qr→Option (Value×Hp×List Nat)
 | .val v=>some (v,H,[])
 | .row tup n c blk=>bif ownB blk&&blk.cells.all kV then some (kC tup H.length n c,H++[blk],[]) else none
def Bu (T:List Qt) (S:ig):ig:=fun f args H=>match EG f args T with
 | some t=>Dm H t.r
 | none=>S f args H
def Vx (E:Env) (w:World) (r:Ending) (w':World):Qr→Prop
 | .val v=>∃u,fP E ⟨[],[]⟩ 5 v=some u∧r=.returned u
 | .row tup n c blk=>∃vs gl,eQ (fP E ⟨[],[]⟩ 4) blk.cells=some vs∧w.heap.size≤gl∧gl<w'.heap.size∧r=.returned (kC tup gl n c)∧w'.heap[gl]?=some (.cells ⟨vs⟩ blk.elem (0,0))
def jB (P:Program) (E:Env) (t:Qt):Prop:=∀w,za E w→∃xs:List Value,eQ (fP E ⟨[],[]⟩ 5) t.xs=some xs∧Calls P t.f xs.toArray w fun r w'=>Below w.heap.size w w'∧Vx E w r w' t.r
theorem at_nil (m:Mp):At ⟨[],[]⟩ m:=⟨fun i g e=>by simp at e,fun i g e=>by simp at e,fun i x e=>by simp at e⟩
variable {m:Mp} {i:Nat}
theorem ac6 {gl:Nat} (h:m.gb i=some gl) (tup:Bool) (n c:Nat):VR m (kC tup i n c) (kC tup gl n c):=by
 cases tup
 ·exact .ow h
 ·exact (ek.cons (.ow h) (ek.cons (.bool true) (ek.nil m))).tuple
variable {P:Program} {E:Env} {S:ig}
theorem QY {T:List Qt} (h:∀t∈T,jB P E t) (hS:iY P E S):iY P E (Bu T S):=by
 intro f args H v H' md hs m w args' hE hlb hR hargs
 unfold Bu at hs
 split at hs
 case h_2=>exact hS f args H v H' md hs m w args' hE hlb hR hargs
 rename_i t ht
 obtain ⟨hmem,rfl,rfl⟩:=OT ht
 obtain ⟨xs,q1,q2⟩:=h t hmem w (fun g c' hc'=>by rw [←hE] at hc'; exact (hR.fz g c' hc').1.1)
 have hxs:args'=xs:=oN (fun v u v' a b=>p9 (at_nil m) 5 v u v' a b) _ _ _ (by rw [hE]; exact q1) hargs
 subst hxs
 refine q2.mono ?_
 rintro r w' ⟨hb,hr⟩
 obtain ⟨f,xs,qr⟩:=t
 cases qr with
 | val v0 =>
  simp only [Dm,ak,aP] at hs
  obtain ⟨rfl,rfl,rfl⟩:=hs
  obtain ⟨u,u1,rfl⟩:=hr
  exact ⟨_,m,rfl,qJ (at_nil m) 5 _ _ (by rw [hE]; exact u1),CL hlb hR hb,hlb⟩
 | row tup n c blk =>
  simp only [Dm] at hs
  cases hc:(ownB blk&&blk.cells.all kV) with
  | false=>rw [hc] at hs; cases hs
  | true =>
  rw [hc] at hs
  simp only [cond_true,ak,aP] at hs
  obtain ⟨rfl,rfl,rfl⟩:=hs
  simp only [aQ] at hc
  obtain ⟨hc5,hc6⟩:=hc
  obtain ⟨vs,gl,q3,n1,n2,rfl,n4⟩:=hr
  obtain ⟨o1,o2,o3⟩:=jU hc5
  have hx1:=CL hlb hR hb
  have hun:m.gb H.length=none:=hR.BO (au _)
  have hle:Le m (m.gN H.length gl false 0 0):=CY hun
  have hcase:∀i g,(m.gN H.length gl false 0 0).gb i=some g→(i=H.length∧g=gl)∨m.gb i=some g:=fun i g e'=>by
   simp only [Mp.gN] at e'
   split at e'
   ·rename_i hi; injection e' with e'; exact .inl ⟨hi,e'.symm⟩
   ·exact .inr e'
  have hnew:(m.gN H.length gl false 0 0).gb H.length=some gl:=by simp [Mp.gN]
  refine ⟨_,m.gN H.length gl false 0 0,rfl,ac6 hnew tup n c,?_,hlb⟩
  refine xW hx1 hle (fun i hi=>aH hi) (by simp) (fun i hi=>by simp at hi) (au _) (fun _ _=>rfl) (au _) rfl rfl rfl (fun i g e'=>?_) (fun i g e'=>by rw [show (m.gN H.length gl false 0 0).lb=m.lb from rfl,hlb] at e'; cases e')
  rcases hcase i g e' with ⟨rfl,rfl⟩ | r
  ·right
   refine ⟨au _,by simp,n2,n1,⟨blk,by rw [bu (by simp)]; simp,?_⟩,fun j hj=>?_,fun j hj=>by rw [show (m.gN H.length g false 0 0).lb=m.lb from rfl,hlb] at hj; cases hj⟩
   ·refine ⟨by simp [Mp.gN,o2],by simp [Mp.gN,o3],fun _=>⟨⟨vs⟩,n4,by simp [nR _ _ q3],?_,fun _=>by simp [nR _ _ q3],fun e=>by rw [o2] at e; cases e⟩⟩
    rw [dH (by simp [nR _ _ q3])]
    exact vB (m:=m.gN H.length g false 0 0) hc6 (qp (qJ (m:=m.gN H.length g false 0 0) (at_nil _) 4) _ _ (by show eQ (fP m.env _ 4) _=_; rw [hE]; exact q3))
   ·rcases hcase j g hj with q | q
    ·exact q.1
    ·have:=(hR.ic j g q).1; omega
  ·exact .inl r
theorem QZ {T:List Qt} (hS:jc S):jc (Bu T S):=by
 intro f args H v H' md hs
 unfold Bu at hs
 split at hs
 case h_2=>exact hS f args H v H' md hs
 rename_i t ht
 obtain ⟨f,xs,qr⟩:=t
 cases qr with
 | val v0 =>
  simp only [Dm,ak,aP] at hs
  obtain ⟨rfl,rfl,rfl⟩:=hs
  exact ik.refl H []
 | row tup n c blk =>
  simp only [Dm] at hs
  rcases je hs with hs | hs
  ·simp only [ak,aP] at hs
   obtain ⟨rfl,rfl,rfl⟩:=hs
   exact ik.Fj _ [] _
  ·cases hs
structure Nt where
 f:FuncId
 cs:List Value
 xs:List Value
 v:Value
def EF (f:FuncId) (cs xs:List Value):List Nt→Option Nt
 | []=>none
 | t::l=>bif ay t.f f&&(oF (qd 10) t.cs cs&&oF (qd 10) t.xs xs) then some t else EF f cs xs l
theorem OQ {f:FuncId} {cs xs:List Value} {t:Nt}:∀{l:List Nt},EF f cs xs l=some t→t∈l∧t.f=f∧t.cs=cs∧t.xs=xs
 | [],h=>by cases h
 | t'::l,h=>by
  unfold EF at h
  cases hb:(ay t'.f f&&(oF (qd 10) t'.cs cs&&oF (qd 10) t'.xs xs)) with
  | true =>
   rw [hb] at h
   simp only [cond_true,ak] at h
   subst h
   simp only [aQ] at hb
   exact ⟨aA,bf hb.1,vO (xR 10) _ _ hb.2.1,vO (xR 10) _ _ hb.2.2⟩
  | false =>
   rw [hb] at h
   obtain ⟨q1,q2⟩:=OQ h
   exact ⟨aT _ q1,q2⟩
def Bd (T:List Nt) (S:ig):ig:=fun f args H=>match args with
 | .agg ⟨.string _::cs⟩::xs=>match EF f cs xs T with
  | some t=>some (t.v,H,[])
  | none=>S f args H
 | _=>S f args H
def sG (P:Program) (E:Env) (t:Nt):Prop:=∃(cs xs:List Value) (u:Value),eQ (fP E ⟨[],[]⟩ 5) t.cs=some cs∧eQ (fP E ⟨[],[]⟩ 5) t.xs=some xs∧fP E ⟨[],[]⟩ 5 t.v=some u ∧
 ∀(s:ByteArray) (w:World),za E w→Calls P t.f (.agg ⟨.string s::cs⟩::xs).toArray w fun r w'=>r=.returned u∧Below w.heap.size w w'
theorem P6 {T:List Nt} (h:∀t∈T,sG P E t) (hS:iY P E S):iY P E (Bd T S):=by
 intro f args H v H' md hs m w args' hE hlb hR hargs
 unfold Bd at hs
 split at hs
 case h_2=>exact hS f args H v H' md hs m w args' hE hlb hR hargs
 rename_i s cs xs
 split at hs
 case h_2=>exact hS f _ H v H' md hs m w args' hE hlb hR hargs
 rename_i t ht
 obtain ⟨hmem,rfl,rfl,rfl⟩:=OQ ht
 simp only [ak,aP] at hs
 obtain ⟨rfl,rfl,rfl⟩:=hs
 obtain ⟨cs,xs,u,q1,q2,q3,q4⟩:=h t hmem
 obtain ⟨v1,xs',rfl,h1,h2⟩:=hargs.cons_inv
 obtain ⟨⟨cs'⟩,rfl,hc⟩:=uD h1
 obtain ⟨s',cs'',e,h3,h4⟩:=hc.cons_inv
 simp only at e
 subst e
 have hs':s'=.string s:=by cases h3; rfl
 subst hs'
 have e1:cs''=cs:=oN (fun v u v' a b=>p9 (at_nil m) 5 v u v' a b) _ _ _ (by rw [hE]; exact q1) h4
 have e2:xs'=xs:=oN (fun v u v' a b=>p9 (at_nil m) 5 v u v' a b) _ _ _ (by rw [hE]; exact q2) h2
 subst e1 e2
 refine (q4 s w (fun g c' hc'=>by rw [←hE] at hc'; exact (hR.fz g c' hc').1.1)).mono ?_
 rintro r w' ⟨rfl,hb⟩
 exact ⟨_,m,rfl,qJ (at_nil m) 5 _ _ (by rw [hE]; exact q3),CL hlb hR hb,hlb⟩
theorem P7 {T:List Nt} (hS:jc S):jc (Bd T S):=by
 intro f args H v H' md hs
 unfold Bd at hs
 split at hs
 case h_2=>exact hS f args H v H' md hs
 split at hs
 case h_2=>exact hS f _ H v H' md hs
 simp only [ak,aP] at hs
 obtain ⟨rfl,rfl,rfl⟩:=hs
 exact ik.refl H []
end Go.Sm
end
end
