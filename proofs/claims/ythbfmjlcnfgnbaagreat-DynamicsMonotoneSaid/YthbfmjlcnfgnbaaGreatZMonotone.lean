/-
  DynamicsMonotone: for every input, the law returns true: the ranges of a piece contain those of all pieces within it. No condition.
  The row's frame follows the kit's proof-skeleton; the walk (YthbfmjlcnfgnbaaGreatOh) and all beneath it are this claim's own.
-/
import Derived.Test.YthbfmjlcnfgnbaaGreatRows
import Derived.WalkKit
import Derived.ProofKit
import Derived.OpenShut
import Derived.Below
import Derived.ChangeSame
import Derived.Carry
import Derived.Lib.SmallJoins
import Derived.Test.YthbfmjlcnfgnbaaGreatZXp
set_option linter.unusedVariables false
set_option maxHeartbeats 8000000
open List renaming append_nil→afk,mem_append→bH
open Go.Proofs.Tryz renaming f4→amC,prog→aa,underlying3→amK
namespace Go.Proofs.YthbfmjlcnfgnbaaGreat.dynamicsMonotone
open Go.ChangeShapes Go.WideShapes Go.ChangeAt Go.RowKit
theorem own:ownKnob aa.godebug=none:=by kernel_rfl
variable {P:Program} {W W':World}
theorem acu {H:Type} {enc:TypeId×Value→H} {f:Func} {s:ChangeSpec} {apart fresh handsOn again:Bool} {args:Array Value} {v:Value} {ds gs:List (DataW H)} {before pa pv:List MemPlace}
  (hW:DataW.Whole enc P f.params.toList s.vars apart W args.toList ds gs before)
  (hres:∀(b:Nat) (sp:Nat→Bool) (hd:Bool),DataW.TrodAll enc P W' b sp hd f.resultTypes.toList (v.resultList f.resultTypes.size) (s.fn H (ds++gs)).results [])
  (hargs:∀sp:Nat→Bool,(∀p∈before,sp p.block=true)→DataW.TrodAll enc P W' 0 sp true f.params.toList args.toList (s.fn H (ds++gs)).args pa)
  (hvars:∀sp:Nat→Bool,(∀p∈before,sp p.block=true)→DataW.TrodVars enc P W' sp s.vars (s.fn H (ds++gs)).vars pv)
  (hps:before=pa++pv) (hb:Below W.heap.size W W')
  (hok:∀(j:Nat) (t:TypeId) (r:Value),f.resultTypes[j]?=some t→(v.resultList f.resultTypes.size)[j]?=some r→Value.okWide P W' .any 0 t r) :
  s.post enc P f apart fresh handsOn again W args v W':=by
 have hlt:∀p∈before,p.block<W.heap.size:=fun p hp=>hW.lt p hp
 have hold:∀p∈before,(fun b=>decide (b<W.heap.size)) p.block=true:=fun p hp=>by simpa using hlt p hp
 refine ⟨ds,gs,before,[],pa,pv,hW,hres _ _ _,hargs _ hold,hvars _ hold,World.keptBut_mono (fun p hp=>⟨hp,?_⟩) (hb.frame (·∈before)),fun _=>?_⟩
 ·rw [hps,bH] at hp
  exact Or.inr hp
 ·obtain ⟨_,_,_,_,_,hz,hn⟩:=hW
  refine ⟨hok,_,_,([]++pa)++pv,⟨[]++pa,pv,trodAll_append (hargs _ (fun _ _=>rfl)) (hres _ _ _),hvars _ (fun _ _=>rfl),rfl,?_,?_⟩,?_⟩
  ·intro b off hp
   have hin:MemPlace.cell b off∈before:=by rw [hps]; simpa using hp
   rw [hb.frozen (hlt _ hin)]
   exact hz b off hin
  ·intro ha
   have:=hn ha
   rw [hps] at this
   simpa using this
  ·intro p hp _
   rw [hps]
   simpa using hp
theorem stays {H:Type} {enc:TypeId×Value→H} {P:Program} (hl:laidOutB P=true) {W W':World} {sp':Nat→Bool}:∀(ts:List TypeId) (vs:List Value) (ds:List (DataW H)) (ps:List MemPlace),(∀t∈ts,P.readableRec t=true∧t<P.types.size) →
  DataW.TrodAll enc P W 0 (fun _=>true) true ts vs ds ps→(∀p∈ps,W.sameAt W' p)→(∀p∈ps,sp' p.block=true)→DataW.TrodAll enc P W' 0 sp' true ts vs ds ps
 | [],[],[],ps,_,h,_,_=>h
 | t::ts,v::vs,d::ds,ps,ht,h,h1,h2=>by
  obtain ⟨p,q,a,b,rfl⟩:=h
  exact ⟨p,q,WideElems.Trod_stays hl (ht t (by simp)).1 (ht t (by simp)).2 a (fun x hx=>h1 x (by simp [hx])) (fun x hx=>h2 x (by simp [hx])),stays hl ts vs ds q (fun t h=>ht t (by simp [h])) b (fun x hx=>h1 x (by simp [hx])) (fun x hx=>h2 x (by simp [hx])),rfl⟩
 | [],_::_,_,_,_,h,_,_=>by simp [DataW.TrodAll] at h
 | [],[],_::_,_,_,h,_,_=>by simp [DataW.TrodAll] at h
 | _::_,[],_,_,_,h,_,_=>by simp [DataW.TrodAll] at h
 | _::_,_::_,[],_,_,h,_,_=>by simp [DataW.TrodAll] at h
theorem acH:∀t∈(#[31,31,31,3,3,3,3,3,3]:Array TypeId).toList,aa.readableRec t=true∧t<aa.types.size:=by
 intro t ht
 have h:t=31∨t=3:=by simp at ht; omega
 rcases h with rfl | rfl
 ·exact ⟨by kernel_rfl,of_decide_eq_true (by kernel_rfl)⟩
 ·exact ⟨by kernel_rfl,of_decide_eq_true (by kernel_rfl)⟩
set_option maxRecDepth 100000 in
theorem lifted (os:Os) (started:os.Started) (H:Type) (enc:TypeId×Value→H) :
  ReturnsInHanded {} Tryz.checked os 4 .any (Rows.dynamicsMonotoneSpec.pre6 enc aa amC Rows.dynamicsMonotoneRow.domain false) (Rows.dynamicsMonotoneSpec.post enc aa amC false true false false):=by
 refine returnsInHanded_of_change (C:=Tryz.checked) own started (by kernel_rfl) Tryz.func4
  (ChangeSpec.witness6 (enc:=enc) (C:=Tryz.checked) false ⟨#[],#[.slice none 0 0,.slice none 0 0,.slice none 0 0,.int .i64 0,.int .i64 0,.int .i64 0,.int .i64 0,.int .i64 0,.int .i64 0],[]⟩ 8 (by kernel_rfl) (by kernel_rfl) (by kernel_rfl) (by kernel_rfl)) ?_
 intro W base args ds gs before hval0 hW hcnd _
 have hval:∀(j:Nat) t v,amC.params[j]?=some t→args[j]?=some v→Value.okWide aa W .any base t v:=hval0
 have hW':=hW
 obtain ⟨p,q,hA0,hV,rfl,hfz,hnd⟩:=hW
 have hA:DataW.TrodAll enc aa W 0 (fun _=>true) true amC.params.toList args.toList ds p:=hA0
 have hAk:=hA
 rw [Tryz.params4] at hA hval
 obtain ⟨v0,vs0,d0,ds0,p0,q0,hargs,rfl,rfl,h0,r0⟩:=trodAll_cons hA
 obtain ⟨v1,vs1,d1,ds1,p1,q1,rfl,rfl,rfl,h1,r1⟩:=trodAll_cons r0
 obtain ⟨v2,vs2,d2,ds2,p2,q2,rfl,rfl,rfl,h2,r2⟩:=trodAll_cons r1
 obtain ⟨v3,vs3,d3,ds3,p3,q3,rfl,rfl,rfl,h3,r3⟩:=trodAll_cons r2
 obtain ⟨v4,vs4,d4,ds4,p4,q4,rfl,rfl,rfl,h4,r4⟩:=trodAll_cons r3
 obtain ⟨v5,vs5,d5,ds5,p5,q5,rfl,rfl,rfl,h5,r5⟩:=trodAll_cons r4
 obtain ⟨v6,vs6,d6,ds6,p6,q6,rfl,rfl,rfl,h6,r6⟩:=trodAll_cons r5
 obtain ⟨v7,vs7,d7,ds7,p7,q7,rfl,rfl,rfl,h7,r7⟩:=trodAll_cons r6
 obtain ⟨v8,vs8,d8,ds8,p8,q8,rfl,rfl,rfl,h8,r8⟩:=trodAll_cons r7
 obtain ⟨rfl,rfl,rfl⟩:=trodAll_nil r8
 obtain rfl:args=#[v0,v1,v2,v3,v4,v5,v6,v7,v8]:=by cases args; simp_all
 obtain ⟨rfl,rfl⟩:=trodVars_none hV
 obtain ⟨a0,n0,c0,rfl⟩:=okWide_slice Tryz.underlying31 (hval 0 31 v0 rfl rfl)
 obtain ⟨a1,n1,c1,rfl⟩:=okWide_slice Tryz.underlying31 (hval 1 31 v1 rfl rfl)
 obtain ⟨a2,n2,c2,rfl⟩:=okWide_slice Tryz.underlying31 (hval 2 31 v2 rfl rfl)
 obtain ⟨x,rfl,rfl,rfl,w3⟩:=open_int amK (hval 3 3 v3 rfl rfl) h3
 obtain ⟨y,rfl,rfl,rfl,w4⟩:=open_int amK (hval 4 3 v4 rfl rfl) h4
 obtain ⟨z,rfl,rfl,rfl,w5⟩:=open_int amK (hval 5 3 v5 rfl rfl) h5
 obtain ⟨dp,rfl,rfl,rfl,w6⟩:=open_int amK (hval 6 3 v6 rfl rfl) h6
 obtain ⟨mo,rfl,rfl,rfl,w7⟩:=open_int amK (hval 7 3 v7 rfl rfl) h7
 obtain ⟨ix,rfl,rfl,rfl,w8⟩:=open_int amK (hval 8 3 v8 rfl rfl) h8
 obtain ⟨f0,h0⟩:=h0
 obtain ⟨f1,h1⟩:=h1
 obtain ⟨f2,h2⟩:=h2
 obtain ⟨ol,cl,ls,i3,hl,hL⟩:=En.KH Tryz.underlying31 amK En.Io (v:=.slice a0 n0 c0) h0
 obtain ⟨oc,cc,us,i4,hu,hU⟩:=En.KH Tryz.underlying31 amK En.Io (v:=.slice a1 n1 c1) h1
 obtain ⟨od,cd,bs,i5,hb,hB⟩:=En.KH Tryz.underlying31 amK En.Io (v:=.slice a2 n2 c2) h2
 rw [i3,i4,i5] at hAk hW' ⊢
 clear hA0 hval0
 simp only [afk] at hW' hAk
 refine (En.ame ol oc od cl cc cd ls us bs x y z dp mo ix W hl hu hb hL hU hB).mono fun e W' ⟨he,hg⟩=>?_
 subst he
 have hlt:=fun p hp=>hW'.lt p hp
 exact ⟨_,rfl,acu (pv:=[]) hW' (fun _ _ _=>(trodAll_cons_mk (shut_bool Tryz.underlying4 _) trodAll_mk0)) (fun sp hsp=>stays En.laidOut _ _ _ _ (by rw [Tryz.params4]; exact acH) hAk (fun x hx=>hg.same (hlt x hx)) hsp) (fun _ _=>rfl) (by simp)
  hg (ok_one (by kernel_rfl) rfl (okWide_bool_mk Tryz.underlying4 _))⟩
theorem over:Rows.dynamicsMonotoneRow.holds Tryz.pinned (OpenSpec.ofChange Rows.dynamicsMonotoneSpec) :=
 OpenClaim.holds_of_wide 4 amC rfl rfl rfl rfl rfl rfl rfl ⟨rfl,rfl,rfl,rfl,rfl⟩ rfl rfl rfl rfl rfl (by kernel_rfl) Tryz.func4 (by kernel_rfl)
  (of_decide_eq_true (by kernel_rfl)) (by unfold Func.isWrapper; first | (rw [if_pos (by decide +kernel)]; kernel_rfl) | (rw [if_neg (by decide +kernel)]; exact ⟨rfl,rfl⟩))
  (fun os started H enc _=>lifted os started H enc)
theorem proved:Rows.DynamicsMonotoneSaid :=
 over
#print axioms proved
end Go.Proofs.YthbfmjlcnfgnbaaGreat.dynamicsMonotone
