/-
  Part of the proof: see the last text.
-/
import Derived.OwnWalk
import Derived.BigRegion
import Derived.StillTailTactics
import Derived.Deep.RegionHeld3
import Derived.Deep.DeepCutAuto
import Derived.Deep.CutBlock
import Derived.Deep.AppendLies
import Derived.Deep.RegionLaw
import Derived.Test.YthbfmjlcnfgnbaaGreatZKa
import Derived.Test.YthbfmjlcnfgnbaaGreatZRa
set_option linter.unusedVariables false
set_option maxHeartbeats 8000000
open Array renaming getElem?_eq_none→afc,getElem?_eq_some_iff→aB
open Go.RowKit.Below renaming heap_setCell→ae0,refl→aI
open Bool renaming and_eq_true→aQ
open Go.Instr renaming index→aeV
open Go.IntKind renaming i64→bg
open Go.IntWalk renaming i64_in→dz
open Go.Lib renaming hid→aG
open List renaming getElem?_append_left→aH,getElem?_append_right→bu,getElem?_eq_getElem→ah,getElem?_eq_none→bQ,getElem?_map→bY,getElem?_take→dx,length_append→afa,length_map→dF,mem_of_getElem?→aN,range→dh
open Nat renaming le_refl→au,le_trans→aZ,lt_of_lt_of_le→aC,lt_or_ge→cu
open Go.Proofs.Tryz renaming prog→aa
open Go.World renaming cell?→bS,frozen?→ae2,setCell→afg
section
section
namespace Go.Proofs.En
open Go.RowKit
variable {W:World} {b:Nat} {v:Value}
theorem Wx (h:W.cell? ⟨b,0,none⟩=some v):Below W.heap.size W (W.setCell ⟨b,0,none⟩ v):=by
 have h0:(W.setCell ⟨b,0,none⟩ v).heap.size=W.heap.size:=by simp [afg]
 refine ⟨rfl,rfl,rfl,Nat.le_of_eq h0.symm,fun k _=>?_⟩
 by_cases hk:k=b
 ·subst hk
  unfold bS at h
  simp only at h
  simp only [afg,Array.getElem?_modify]
  simp only [if_true]
  cases hb:W.heap[k]? with
  | none=>rfl
  | some o =>
   rw [hb] at h
   cases o with
   | cells c t f =>
    simp only [Option.isSome_none,Bool.false_eq_true,if_false] at h
    obtain ⟨h1,h2⟩:=aB.1 h
    simp only [Option.isSome_none,Bool.false_eq_true,if_false,Option.map_some]
    congr 2
    apply Array.ext
    ·simp
    ·intro i hi1 hi2
     rw [Array.getElem_setIfInBounds]
     split
     ·rename_i e; subst e; exact h2.symm
     ·rfl
   | _=>simp at h
 ·exact ae0 W ⟨b,0,none⟩ v k hk
structure CB (W:World) (nc:Nat):Prop where
 c:W.cell? ⟨nc,0,none⟩=some (.bool false)
 f:W.frozen? ⟨nc,0,none⟩=false
 lt:nc<W.heap.size
variable {W':World} {nc:Nat}
theorem CB.keep (h:CB W nc) (hb:Below W.heap.size W W'):CB W' nc:=by
 have e:=hb.block nc h.lt
 refine ⟨?_,?_,aC h.lt hb.size⟩
 ·rw [←h.c]; simp [bS,e]
 ·rw [←h.f]; simp [ae2,e]
def Ht (lo hi:Int) (w:World) (e:Ending) (w':World):Prop:=e=.returned (.agg #[.int .i64 lo,.int .i64 hi])∧Below w.heap.size w w'
theorem aac (d:Int) (w:World):Calls aa 51 #[.int .i64 d] w (Ht d d w):=by
 go_enter Tryz.func51,Tryz.ntmps51
 go_wp2
 exact bodyPost_ret (v:=.agg #[.int .i64 d,.int .i64 d]) (by simp [results,Tryz.results51,go_sem]) rfl ⟨rfl,(aI _ _).alloc (au _) _⟩
theorem aej (k:Int) (w:World):Calls aa 52 #[.int .i64 k] w fun e w'=>e=.returned (.bool (decide (1≤k∧k≤3)))∧w=w':=by
 have key:∀b1 b2 b3:Bool,(k==1)=b1→(k==2)=b2→(k==3)=b3 →
   Calls aa 52 #[.int .i64 k] w fun e w'=>e=.returned (.bool (decide (1≤k∧k≤3)))∧w=w':=by
  intro b1 b2 b3 h1 h2 h3
  have hz:Hid (decide (1≤k∧k≤3)=(b1||(b2||b3))):=aG (by
   rw [←h1,←h2,←h3]
   simp only [Bool.decide_and]
   by_cases q1:k=1
   ·subst q1; rfl
   ·by_cases q2:k=2
    ·subst q2; rfl
    ·by_cases q3:k=3
     ·subst q3; rfl
     ·rw [beq_eq_false_iff_ne.2 q1,beq_eq_false_iff_ne.2 q2,beq_eq_false_iff_ne.2 q3]
      by_cases q4:1≤k
      ·rw [decide_eq_false (show ¬k≤3 by omega)]; simp
      ·rw [decide_eq_false q4]; rfl)
  cases b1<;>cases b2<;>cases b3 <;>
  ·rw [hz.out]
   go_enter Tryz.func52,Tryz.ntmps52
   go_wp2
   go_ret
   exact ⟨by simp,rfl⟩
 exact key _ _ _ rfl rfl rfl
theorem Y0 (nc:Nat) (lo hi:Int) (w:World) (hC:CB w nc) :
  Calls aa 89 #[.pointer (some ⟨nc,0,none⟩),.agg #[.int .i64 lo,.int .i64 hi],.bool true] w (Ht lo hi w):=by
 obtain ⟨hc,hf,hlt⟩:=hC
 go_enter Tryz.func89,Tryz.ntmps89
 go_wp2
 have hs:(w.setCell ⟨nc,0,none⟩ (.bool false)).heap.size=w.heap.size:=by simp [afg]
 exact bodyPost_ret (v:=.agg #[.int .i64 lo,.int .i64 hi]) (by simp [results,Tryz.results89,go_sem,hs]) rfl ⟨rfl,((Wx hc).alloc (by omega) _).alloc (by simp [hs]) _⟩
theorem Xn (nc:Nat) (a b c d lo hi:Int) (w:World) (hC:CB w nc)
  (hm:∀w,Calls aa 12 #[.agg #[.int .i64 a,.int .i64 b],.agg #[.int .i64 c,.int .i64 d]] w (xC lo hi true w)) :
  Calls aa 53 #[.pointer (some ⟨nc,0,none⟩),.agg #[.int .i64 a,.int .i64 b],.agg #[.int .i64 c,.int .i64 d]] w (Ht lo hi w):=by
 have HM:=aG hm
 clear hm
 go_enter Tryz.func53,Tryz.ntmps53
 go_wp2_with fail
 refine (HM.out _).mono ?_
 rintro e w1 ⟨rfl,hb1⟩
 have hb0:Below w.heap.size w (((w.alloc (.cells #[.int .i64 a,.int .i64 b] 23)).alloc (.cells #[.int .i64 c,.int .i64 d] 23)).alloc (.cells #[.int .i64 0,.int .i64 0] 23)):=(((aI _ _).alloc (au _) _).alloc (by simp) _).alloc (by simp; omega) _
 have hB:Below w.heap.size w w1:=jD hb0 hb1
 have hC1:=hC.keep hB
 have r6:iw (((w.alloc (.cells #[.int .i64 a,.int .i64 b] 23)).alloc (.cells #[.int .i64 c,.int .i64 d] 23)).alloc (.cells #[.int .i64 0,.int .i64 0] 23)) (w.heap.size+1+1) (.int .i64 0) (.int .i64 0):=⟨by simp [go_sem],by simp [go_sem],by simp [go_sem],by simp [go_sem],by simp⟩
 have r61:=r6.keep hb1
 have n6:w.heap.size≤w.heap.size+1+1:=by omega
 have ne:nc<w.heap.size+1+1:=by have:=hC.lt; omega
 have HB:=aG hB
 clear hb0 hB hb1 r6 hC
 generalize w.heap.size+1+1=m6 at r61 n6 ne ⊢
 go_wp2_with fail
 refine (Y0 nc lo hi _ hC1).mono ?_
 rintro e w2 ⟨rfl,hb2⟩
 have r62:=r61.keep hb2
 have hB2:Hid (Below w.heap.size w w2):=aG (jD HB.out hb2)
 clear r61 HB hb2 hC1
 have k0:=r62.c0; have k1:=r62.c1; have k2:=r62.f0; have k3:=r62.f1; have k4:=r62.lt
 go_wp2
 exact bodyPost_ret (v:=.agg #[.int .i64 lo,.int .i64 hi]) (by simp [results,Tryz.results53,go_sem,k0,k1]) rfl ⟨rfl,(hB2.out.setCell (p:=⟨m6,0,none⟩) n6 _).setCell (p:=⟨m6,1,none⟩) n6 _⟩
end Go.Proofs.En
end
section
namespace Go.Proofs.En
open Go.RowKit
def FX (d:Int):Int:=mulL d d 411774 411775/65536
def FW (d:Int):Int:=(wS d d 411774 411775+65535)/65536
theorem ZH (d:Int) (h1:-8388608≤d) (h2:d≤8388608):-4000000000000≤mulL d d 411774 411775∧mulL d d 411774 411775≤4000000000000:=by
 unfold mulL
 simp only [mR,List.foldl]
 repeat' split
 all_goals omega
theorem ZP (d:Int) (h1:-8388608≤d) (h2:d≤8388608):-4000000000000≤wS d d 411774 411775∧wS d d 411774 411775≤4000000000000:=by
 unfold wS
 simp only [kU,List.foldl]
 repeat' split
 all_goals omega
theorem acB (d:Int) (h1:-8388608≤d) (h2:d≤8388608):wT d d 411774 411775=true:=by
 have a:=ZH d h1 h2
 have b:=ZP d h1 h2
 unfold wT mX zD okB
 simp only [aQ,decide_eq_true_eq]
 refine ⟨⟨by omega,by omega⟩,by omega,by omega⟩
theorem acA (d:Int) (h1:-8388608≤d) (h2:d≤8388608):∀w,Calls aa 12 #[.agg #[.int .i64 d,.int .i64 d],.agg #[.int .i64 411774,.int .i64 411775]] w (xC (FX d) (FW d) true w):=by
 obtain ⟨lo,hi,ok,e1,e2,_,h⟩:=PS d d 411774 411775
 rw [acB d h1 h2] at e1
 subst e1
 obtain ⟨rfl,rfl⟩:=e2 rfl
 exact h
def Bv (k d:Int):Int×Int:=if 1≤k∧k≤3 then (FX d,FW d) else (d,d)
def rH (rs:List (Int×Int)):List (List Value):=rs.map fun r=>[.int .i64 r.1,.int .i64 r.2]
variable {rs:List (Int×Int)} {k:Nat}
theorem K6 {r:Int×Int} (h:rs[k]?=some r):(rH rs)[k]?=some [.int .i64 r.1,.int .i64 r.2]:=by simp [rH,h]
theorem Rf (h:k<rs.length):rH rs≠[]:=by
 intro h0; unfold rH at h0; rw [List.map_eq_nil_iff] at h0; rw [h0] at h; simp at h
end Go.Proofs.En
end
section
namespace Go.Proofs.En
open Go.RowKit
variable {W W':World} {base size n:Nat} {e:TypeId} {v:Value}
theorem yx {xs:List Value} (h:W.ownsRow base e size v n xs) (hb:Below W.heap.size W W'):W'.ownsRow base e size v n xs:=by
 refine ⟨h.1,?_⟩
 rcases h.2 with h0 | ⟨g,cap,cur,hv,hbg,hg,rest⟩
 ·exact .inl h0
 ·have hlt:g<W.heap.size:=by
   rcases cu g W.heap.size with h | h
   ·exact h
   ·rw [afc h] at hg; cases hg
  exact .inr ⟨g,cap,cur,hv,hbg,(hb.block g hlt).trans hg,rest⟩
theorem yh {xs:List Value} (h:W.ownsRow base e size v n xs) (hg:W.grownBy W' v.ownBlock) (hb:base≤W.heap.size):Below base W W':=by
 refine ⟨hg.os,hg.tape,hg.output,hg.size,fun k hk=>hg.block k (by omega) fun e=>?_⟩
 have:=(World.ownsRow.lt h) k e.symm
 omega
variable {b:Nat} {l:List Value}
theorem Row.low (h:Row W b l) (hlt:b<base) (hb:Below base W W'):Row W' b l:=by
 refine ⟨fun j v hj=>?_,aC h.lt hb.size⟩
 rw [←h.c j v hj]
 simp [bS,hb.block b hlt]
variable {nc:Nat}
theorem CB.low (h:CB W nc) (hlt:nc<base) (hb:Below base W W'):CB W' nc:=by
 have e:=hb.block nc hlt
 refine ⟨?_,?_,aC h.lt hb.size⟩
 ·rw [←h.c]; simp [bS,e]
 ·rw [←h.f]; simp [ae2,e]
def u6 (rs:List (Int×Int)):List Value:=rs.flatMap fun r=>[.int .i64 r.1,.int .i64 r.2]
theorem acY (rs:List (Int×Int)) (r:Int×Int):u6 (rs++[r])=u6 rs++[.int .i64 r.1,.int .i64 r.2]:=by simp [u6]
theorem acX (rs:List (Int×Int)) (k:Nat) (r:Int×Int) (h:rs[k]?=some r):(u6 rs)[k*2]?=some (.int .i64 r.1)∧(u6 rs)[k*2+1]?=some (.int .i64 r.2):=by
 induction rs generalizing k with
 | nil=>simp at h
 | cons a t ih =>
  cases k with
  | zero=>simp at h; subst h; simp [u6]
  | succ k =>
   simp at h
   have:=ih k h
   have e:(k+1)*2=k*2+2:=by omega
   rw [e]
   simpa [u6] using this
variable {rs:List (Int×Int)}
theorem aa5 (h:W.ownsRow base e 2 v rs.length (u6 rs)):∃oa cap,v=.slice oa rs.length cap∧Sl W oa 2 (rH rs):=by
 rcases h.2 with ⟨rfl,h0⟩ | ⟨g,cap,cur,rfl,hbg,hg,hn,hm,hs,ht⟩
 ·have:rs=[]:=List.length_eq_zero_iff.1 h0
  subst this
  exact ⟨none,0,rfl,fun h=>absurd rfl h⟩
 ·refine ⟨_,cap,rfl,fun _=>⟨g,0,rfl,?_⟩⟩
  have hlt:g<W.heap.size:=by
   rcases cu g W.heap.size with h | h
   ·exact h
   ·rw [afc h] at hg; cases hg
  have key:∀q u,(u6 rs)[q]?=some u→W.cell? ⟨g,q,none⟩=some u:=by
   intro q u hq
   rw [←ht,dx] at hq
   split at hq
   ·simp [bS,hg]
    simpa using hq
   ·cases hq
  refine ⟨hlt,fun i r hi k u hu=>?_⟩
  unfold rH at hi
  rw [bY] at hi
  cases hr:rs[i]? with
  | none=>rw [hr] at hi; cases hi
  | some rr =>
   rw [hr] at hi
   simp at hi
   subst hi
   have g2:=acX rs i rr hr
   match k,hu with
   | 0,hu=>simp at hu; subst hu; rw [Nat.zero_add]; exact key _ _ g2.1
   | 1,hu=>simp at hu; subst hu; rw [Nat.zero_add]; exact key _ _ g2.2
def Q0 (js:List JV) (ps qs:List Int) (k:Nat):Int×Int:=match js[k]?,ps[k]?,qs[k]? with
 | some j,some p,some q=>Bv j.kind (q - p)
 | _,_,_=>(0,0)
def o6 (js:List JV) (ps qs:List Int) (k:Nat):List (Int×Int):=(dh k).map (Q0 js ps qs)
theorem acC (js:List JV) (ps qs:List Int) (k:Nat):(o6 js ps qs k).length=k:=by simp [o6]
def Ih (js:List JV) (ms:List MV) (ps qs:List Int):Prop:=(yu js ms∧mi js ps)∧(yu js ms∧mi js qs)
def Vy (P:Prop) (rs:List (Int×Int)) (w:World) (e:Ending) (w':World):Prop :=
 Below w.heap.size w w'∧((¬P∧e=.returned (.tuple #[.slice none 0 0,.bool false]))∨(P∧∃oa cap,e=.returned (.tuple #[.slice oa rs.length cap,.bool true])∧Sl w' oa 2 (rH rs)))
variable {js:List JV} {j:JV}
theorem Pp {k:Int} (h:qY js j k=0):-4194304≤j.lo∧j.hi≤4194304:=by
 unfold qY at h
 have lb:=EX j.kind
 split at h
 ·cases h
 ·split at h
  ·cases h
  ·split at h
   ·cases h
   ·split at h
    ·cases h
    ·split at h
     ·cases h
     ·omega
variable {ps qs:List Int} {k:Nat}
theorem acD {p q:Int} (hj:js[k]?=some j) (hp:ps[k]?=some p) (hq:qs[k]?=some q) :
  o6 js ps qs (k+1)=o6 js ps qs k++[Bv j.kind (q - p)]:=by
 unfold o6
 rw [List.range_succ,List.map_append]
 simp [Q0,hj,hp,hq]
structure RI (w:World) (js:List JV) (ps qs:List Int) (n3:Nat) (rv:List Value) (base k:Nat) (v:Value) (W:World):Prop where
 gW:Below w.heap.size w W
 r3:Row W n3 rv
 own:W.ownsRow base 23 2 v k (u6 (o6 js ps qs k))
 hb:base≤W.heap.size
end Go.Proofs.En
end
section
namespace Go.Proofs.En
open Go.RowKit
theorem Pj:(aa.info? 23).map (fun i=>(i.zero,i.size,i.bytes))=some (some (.agg #[.int .i64 0,.int .i64 0]),2,16):=by kernel_rfl
theorem Me:aa.underlying 60=some (.slice 23):=by kernel_rfl
theorem PZ (W:World) (x y:Value) (n:Nat) (hn:n=W.heap.size):∀(j:Nat) (u:Value),[x,y][j]?=some u→(W.alloc (.cells #[x,y] 23)).cell? ((⟨n,0,none⟩:Addr).add j)=some u:=by
 intro j u hu
 subst hn
 match j,hu with
 | 0,hu=>simp at hu; subst hu; simp [Addr.add]
 | 1,hu=>simp at hu; subst hu; simp [Addr.add]
variable {w wr W W1:World} {js:List JV} {ps qs:List Int} {n3 base k:Nat} {v:Value}
theorem RI.next {rv:List Value} {v':Value} {r:Int×Int} (h:RI w js ps qs n3 rv base k v wr) (hX:Below wr.heap.size wr W) (hw:w.heap.size≤base) (h3:n3<base)
  (hg:W.grownBy W1 v.ownBlock)
  (own':W1.ownsRow base 23 2 v' (k+1) (u6 (o6 js ps qs k)++[.int .i64 r.1,.int .i64 r.2])) (hsn:o6 js ps qs (k+1)=o6 js ps qs k++[r]):RI w js ps qs n3 rv base (k+1) v' W1:=by
 have hbW:=aZ h.hb hX.size
 have hB:=yh (yx h.own hX) hg hbW
 refine ⟨(jD h.gW hX).trans (hB.mono hw),(h.r3.keep hX).low h3 hB,?_,aZ hbW hg.size⟩
 rw [hsn,acY]
 exact own'
variable {W':World} {bp op bq oq:Nat} {p q:Value}
theorem um (l1:bp<wr.heap.size) (l2:bq<wr.heap.size) (h:W.cell? ⟨bp,op,none⟩=some p∧W.cell? ⟨bq,oq,none⟩=some q∧Below wr.heap.size wr W) (hb:Below W.heap.size W W') :
  W'.cell? ⟨bp,op,none⟩=some p∧W'.cell? ⟨bq,oq,none⟩=some q∧Below wr.heap.size wr W' :=
 ⟨(hb.cell (p:=⟨bp,op,none⟩) (aC l1 h.2.2.size)).trans h.1,(hb.cell (p:=⟨bq,oq,none⟩) (aC l2 h.2.2.size)).trans h.2.1,jD h.2.2 hb⟩
end Go.Proofs.En
end
section
namespace Go.Proofs.En
open Go.RowKit
variable {W:World} {bp op bq oq:Nat} {p q:Value}
theorem EU {V:World} (l1:bp<V.heap.size) (l2:bq<V.heap.size) (i:Nat) (u:Value) (h:W.cell? ⟨bp,op,none⟩=some p∧W.cell? ⟨bq,oq,none⟩=some q∧Below V.heap.size V W) :
  (W.setCell ⟨V.heap.size,i,none⟩ u).cell? ⟨bp,op,none⟩=some p∧(W.setCell ⟨V.heap.size,i,none⟩ u).cell? ⟨bq,oq,none⟩=some q∧Below V.heap.size V (W.setCell ⟨V.heap.size,i,none⟩ u):=by
 have e:∀k,k≠V.heap.size→(W.setCell ⟨V.heap.size,i,none⟩ u).heap[k]?=W.heap[k]?:=fun k hk=>ae0 W ⟨V.heap.size,i,none⟩ u k hk
 refine ⟨?_,?_,h.2.2.setCell (p:=⟨V.heap.size,i,none⟩) (au _) _⟩
 ·rw [←h.1]; simp [bS,e bp (by omega)]
 ·rw [←h.2.1]; simp [bS,e bq (by omega)]
set_option maxRecDepth 100000 in
theorem acE (oa om op oq:Option Addr) (cap mcap pcap qcap:Nat) (js:List JV) (ms:List MV) (ps qs:List Int) (w:World) (hj:js.length≤100) (hl:ms.length≤9223372036854775807) (hp:ps.length≤100) (hq:qs.length≤100) (hJ:Sl w oa 12 (js.map JV.vals)) (hM:Sl w om 5 (ms.map MV.vals)) (hP:Sl w op 1 (fF ps)) (hQ:Sl w oq 1 (fF qs)) :
  Calls aa 26 #[.agg #[.slice oa js.length cap,.slice om ms.length mcap],.slice op ps.length pcap,.slice oq qs.length qcap] w (Vy (Ih js ms ps qs) (o6 js ps qs js.length) w):=by
 generalize hr:Ih js ms ps qs=r
 unfold Ih at hr
 have HR:=aG hr
 clear hr
 go_enter Tryz.func26,Tryz.ntmps26
 go_wp2_with fail
 have hW0:KW w w.heap.size oa om [.slice oa js.length cap,.slice om ms.length mcap] js ms (w.alloc (.cells #[.slice oa js.length cap,.slice om ms.length mcap] 35)):=⟨(aI _ _).alloc (au _) _,Row.new w [.slice oa js.length cap,.slice om ms.length mcap] 35,hJ.keep ((aI _ _).alloc (au _) _),hM.keep ((aI _ _).alloc (au _) _)⟩
 have hP0:=hP.keep (w':=(w.alloc (.cells #[.slice oa js.length cap,.slice om ms.length mcap] 35))) ((aI _ _).alloc (au _) _)
 have hQ0:=hQ.keep (w':=(w.alloc (.cells #[.slice oa js.length cap,.slice om ms.length mcap] 35))) ((aI _ _).alloc (au _) _)
 have hz0:w.heap.size+1≤(w.alloc (.cells #[.slice oa js.length cap,.slice om ms.length mcap] 35)).heap.size:=by simp
 generalize (w.alloc (.cells #[.slice oa js.length cap,.slice om ms.length mcap] 35))=W0 at hW0 hP0 hQ0 hz0 ⊢
 generalize hn1:w.heap.size=n1 at hW0 hz0 ⊢
 have HN:=aG hn1
 clear hn1
 refine (Pk oa om op cap mcap pcap js ms ps _ hj hl hp hW0.rJ hW0.rM hP0).mono ?_
 rintro e W1 ⟨b1,rfl,hb1,hB1⟩
 have hW1:=hW0.keep hB1
 have hQ1:=hQ0.keep hB1
 have hz1:=aZ hz0 hB1.size
 have HB1:=aG hb1
 clear hW0 hP0 hQ0 hz0 hB1 hb1
 have s0:W1.cell? ⟨n1,0,none⟩=some (.slice oa js.length cap):=hW1.r1.c 0 _ rfl
 have s1:W1.cell? ⟨n1,1,none⟩=some (.slice om ms.length mcap):=hW1.r1.c 1 _ rfl
 have lt1:=hW1.r1.lt
 cases b1 with
 | false =>
  go_wp2
  go_ret2
  refine ⟨hW1.gW,.inl ⟨?_,rfl⟩⟩
  rw [←HR.out]
  exact fun h=>absurd (HB1.out.2 h.1) (by simp)
 | true =>
  go_wp2_with fail
  refine (Pk oa om oq cap mcap qcap js ms qs _ hj hl hq hW1.rJ hW1.rM hQ1).mono ?_
  rintro e W2 ⟨b2,rfl,hb2,hB2⟩
  have hW2:=hW1.keep hB2
  have hz2:=aZ hz1 hB2.size
  have HB2:=aG hb2
  clear hW1 hQ1 hz1 hB2 hb2 s0 s1 lt1
  cases b2 with
  | false =>
   go_wp2
   go_ret2
   refine ⟨hW2.gW,.inl ⟨?_,rfl⟩⟩
   rw [←HR.out]
   exact fun h=>absurd (HB2.out.2 h.2) (by simp)
  | true =>
   have hin1:=HB1.out.1 (by trivial)
   have hin2:=HB2.out.1 (by trivial)
   have HI:Hid r:=aG (by rw [←HR.out]; exact ⟨hin1,hin2⟩)
   have HOK:=aG hin1.1.2.1
   have HP1:=aG hin1.2.2
   have HQ1:=aG hin2.2.2
   have L1:=hin1.2.1
   have L2:=hin2.2.1
   have l1a:ps.length≤js.length:=by omega
   have l1b:js.length≤ps.length:=by omega
   have l2a:qs.length≤js.length:=by omega
   have l2b:js.length≤qs.length:=by omega
   have HL1:=aG L1
   clear L1 L2 hin1 hin2 HB1 HB2 HR
   obtain ⟨i0,hi,hz0,hz1,hz2⟩:=info_parts Pj
   have s0:W2.cell? ⟨n1,0,none⟩=some (.slice oa js.length cap):=hW2.r1.c 0 _ rfl
   have s1:W2.cell? ⟨n1,1,none⟩=some (.slice om ms.length mcap):=hW2.r1.c 1 _ rfl
   have lt1:=hW2.r1.lt
   go_wp2_with (refine wpList_make_own _ rfl _ _ 60 rfl (W2.heap.size+1) 23 i0 (.agg #[.int .i64 0,.int .i64 0]) 2 Me hi hz0 hz1 .i64 .i64 _ ps.length rfl rfl rfl ?c1 ?c2 ?c3 ?_)
   case c1=>rw [hz2]; omega
   case c2=>unfold maxLen; omega
   case c3=>simp
   intro W3 hown3 hg3
   have hB3:Below (W2.alloc (.cells #[.bool false] 88)).heap.size (W2.alloc (.cells #[.bool false] 88)) W3:=⟨hg3.os,hg3.tape,hg3.output,hg3.size,fun k hk=>hg3.block k hk (by simp)⟩
   have hBa:Below W2.heap.size W2 (W2.alloc (.cells #[.bool false] 88)):=(aI _ _).alloc (au _) _
   have hC0:CB (W2.alloc (.cells #[.bool false] 88)) W2.heap.size:=⟨by simp,by simp,by simp⟩
   have hC3:=hC0.keep hB3
   have hW3:=(hW2.keep hBa).keep hB3
   have hz3:W2.heap.size+1≤W3.heap.size:=aZ (by simp) hg3.size
   have hwz:w.heap.size≤W2.heap.size:=hW2.gW.size
   clear hB3 hBa hC0 hg3 hW2 hz2 s0 s1 hi hz0 hz1
   generalize W2.heap.size=nc at hown3 hC3 hz3 lt1 hwz ⊢
   have s0:W3.cell? ⟨n1,0,none⟩=some (.slice oa js.length cap):=hW3.r1.c 0 _ rfl
   have s1:W3.cell? ⟨n1,1,none⟩=some (.slice om ms.length mcap):=hW3.r1.c 1 _ rfl
   have HOWN3:=aG hown3
   clear hown3
   go_wp2_with fail
   go_loopw [9,31] (fun v i W=>∃k:Nat,k≤js.length∧i=.int .i64 k∧RI w js ps qs n1 [.slice oa js.length cap,.slice om ms.length mcap] (nc+1) k v W∧CB W nc) (fun _ i _=>js.length - (intOf i).toNat)
   case atStart=>exact ⟨0,by omega,rfl,⟨hW3.gW,hW3.r1,HOWN3.out,hz3⟩,hC3⟩
   case round =>
    clear hW3 hz3 hC3 s0 s1 HOWN3
    obtain ⟨k,hk,rfl,hRI,hCB⟩:=hrel
    by_cases hlt2:k<js.length
    ·have hlt:k<ps.length:=by omega
     have hlt3:k<qs.length:=by omega
     obtain ⟨j,hj'⟩:∃j,js[k]?=some j:=⟨_,ah hlt2⟩
     obtain ⟨p,hp'⟩:∃p,ps[k]?=some p:=⟨_,ah hlt⟩
     obtain ⟨q,hq'⟩:∃q,qs[k]?=some q:=⟨_,ah hlt3⟩
     obtain ⟨b,off,rfl,hJr⟩:=(hJ.keep hRI.gW) (AX hlt2)
     obtain ⟨bp,offp,rfl,hPr⟩:=(hP.keep hRI.gW) (kX (k:=k) hlt)
     obtain ⟨bq,offq,rfl,hQr⟩:=(hQ.keep hRI.gW) (kX (k:=k) hlt3)
     have x0:wr.cell? ⟨b,off+k*12,none⟩=some (.string j.name):=hJr.c k _ (iX hj') 0 _ rfl
     have x1:wr.cell? ⟨b,off+k*12+1,none⟩=some (.int .i64 j.kind):=hJr.c k _ (iX hj') 1 _ rfl
     have x2:wr.cell? ⟨b,off+k*12+2,none⟩=some (.int .i64 j.parent):=hJr.c k _ (iX hj') 2 _ rfl
     have x3:wr.cell? ⟨b,off+k*12+3,none⟩=some (.int .i64 j.o0):=hJr.c k _ (iX hj') 3 _ rfl
     have x4:wr.cell? ⟨b,off+k*12+4,none⟩=some (.int .i64 j.o1):=hJr.c k _ (iX hj') 4 _ rfl
     have x5:wr.cell? ⟨b,off+k*12+5,none⟩=some (.int .i64 j.o2):=hJr.c k _ (iX hj') 5 _ rfl
     have x6:wr.cell? ⟨b,off+k*12+6,none⟩=some (.int .i64 j.lo):=hJr.c k _ (iX hj') 6 _ rfl
     have x7:wr.cell? ⟨b,off+k*12+7,none⟩=some (.int .i64 j.hi):=hJr.c k _ (iX hj') 7 _ rfl
     have x8:wr.cell? ⟨b,off+k*12+8,none⟩=some (.int .i64 j.weight):=hJr.c k _ (iX hj') 8 _ rfl
     have x9:wr.cell? ⟨b,off+k*12+9,none⟩=some (.int .i64 j.speed):=hJr.c k _ (iX hj') 9 _ rfl
     have x10:wr.cell? ⟨b,off+k*12+10,none⟩=some (.int .i64 j.iL):=hJr.c k _ (iX hj') 10 _ rfl
     have x11:wr.cell? ⟨b,off+k*12+11,none⟩=some (.int .i64 j.iO):=hJr.c k _ (iX hj') 11 _ rfl
     have bj:=Pp (HOK.out k j hj')
     have b1:=HP1.out k j p hj' hp'
     have b2:=HQ1.out k j q hj' hq'
     have d1:-8388608≤q - p:=by omega
     have d2:q - p≤8388608:=by omega
     have HM:=aG (acA (q - p) d1 d2)
     have HSN:=aG (acD hj' hp' hq')
     have HRI:=aG hRI
     have HCB:=aG hCB
     clear bj b1 b2
     go_upto_region 8 with fail
     have hBV:Below wr.heap.size wr (wr.alloc (.cells #[.string j.name,.int .i64 j.kind,.int .i64 j.parent,.int .i64 j.o0,.int .i64 j.o1,.int .i64 j.o2,.int .i64 j.lo,.int .i64 j.hi,.int .i64 j.weight,.int .i64 j.speed,.int .i64 j.iL,.int .i64 j.iO] 80)):=(aI _ _).alloc (au _) _
     have h11:=Row.new wr [.string j.name,.int .i64 j.kind,.int .i64 j.parent,.int .i64 j.o0,.int .i64 j.o1,.int .i64 j.o2,.int .i64 j.lo,.int .i64 j.hi,.int .i64 j.weight,.int .i64 j.speed,.int .i64 j.iL,.int .i64 j.iO] 80
     have hPv:=hPr.keep hBV
     have hQv:=hQr.keep hBV
     have hCV:=hCB.keep hBV
     have HX:=aG hBV
     clear hJr hRI hPr hQr hCB x0 x1 x2 x3 x4 x5 x6 x7 x8 x9 x10 x11 hj'
     generalize (wr.alloc (.cells #[.string j.name,.int .i64 j.kind,.int .i64 j.parent,.int .i64 j.o0,.int .i64 j.o1,.int .i64 j.o2,.int .i64 j.lo,.int .i64 j.hi,.int .i64 j.weight,.int .i64 j.speed,.int .i64 j.iL,.int .i64 j.iO] 80))=V at hBV h11 hPv hQv hCV HX ⊢
     clear hBV
     generalize hn11:wr.heap.size=n11 at h11 ⊢
     have HN11:=aG hn11
     clear hn11
     have y0:V.cell? ⟨bp,offp+k,none⟩=some (.int .i64 p):=by have:=hPv.c k _ (yz hp') 0 _ rfl; simpa using this
     have z0:V.cell? ⟨bq,offq+k,none⟩=some (.int .i64 q):=by have:=hQv.c k _ (yz hq') 0 _ rfl; simpa using this
     have lp:=hPv.lt
     have lq:=hQv.lt
     have hwr:bg.wrap (q - p)=q - p:=dz _ (by omega)
     clear hp' hq' hPv hQv
     have h12:iw (V.alloc (.cells #[.int .i64 0,.int .i64 0] 23)).drew V.heap.size (.int .i64 0) (.int .i64 0):=(iw.new V _ _ 23).keep (aI _ _).drew
     have H12:=aG h12
     clear h12
     go_cut [12] (fun s12 W=>∃g:Nat,s12=.pointer (some ⟨g,0,none⟩)∧iw W g (.int .i64 (q - p)) (.int .i64 (q - p))∧Below V.heap.size V W∧V.heap.size≤g)
     case first =>
      go_region_held3 (fun w'=>w'.cell? ⟨bp,offp+k,none⟩=some (.int .i64 p)∧w'.cell? ⟨bq,offq+k,none⟩=some (.int .i64 q)∧Below V.heap.size V w')
       (first | exact ⟨y0,z0,(aI _ _).drew⟩ | exact um lp lq ⟨y0,z0,aI _ _⟩ ((aI _ _).alloc (au _) _).drew | exact um (W:=V.drew) lp lq ⟨y0,z0,(aI _ _).drew⟩ hbx | exact um lp lq (um (W:=V.drew) lp lq ⟨y0,z0,(aI _ _).drew⟩ hbx) ((aI _ _).alloc (au _) _) | exact um (W:=(V.alloc (.cells #[.int .i64 0,.int .i64 0] 23)).drew) lp lq (um lp lq ⟨y0,z0,aI _ _⟩ ((aI _ _).alloc (au _) _).drew) hbx | exact EU lp lq _ _ (EU lp lq _ _ (um (W:=(V.alloc (.cells #[.int .i64 0,.int .i64 0] 23)).drew) lp lq (um lp lq ⟨y0,z0,aI _ _⟩ ((aI _ _).alloc (au _) _).drew) hbx)))
       (first | (go_at_call 51; refine (aac _ _).mono ?_; rintro e w' ⟨rfl,hbx⟩; try (have hk:=H12.out.keep hbx; have k0:=hk.c0; have k1:=hk.c1; have k2:=hk.f0; have k3:=hk.f1; have k4:=hk.lt)))
      ·go_wp2_with fail
       go_meet
       exact ⟨w'.heap.size,rfl,iw.new w' _ _ 23,(um lp lq (um (W:=V.drew) lp lq ⟨y0,z0,(aI _ _).drew⟩ hbx) ((aI _ _).alloc (au _) _)).2.2,hbx.size⟩
      ·go_wp2_with fail
       go_meet
       exact ⟨V.heap.size,rfl,(H12.out.keep hbx).put _ _,(EU lp lq _ _ (EU lp lq _ _ (um (W:=(V.alloc (.cells #[.int .i64 0,.int .i64 0] 23)).drew) lp lq (um lp lq ⟨y0,z0,aI _ _⟩ ((aI _ _).alloc (au _) _).drew) hbx))).2.2,au _⟩
     case rest =>
      obtain ⟨g,rfl,h12,hB12,hge⟩:=hcut
      have hX4:=jD HX.out hB12
      replace h11:=h11.keep hB12
      have hC4:=hCV.keep hB12
      have hgw:wr.heap.size≤g:=aZ HX.out.size hge
      have HX4:=aG hX4
      have HGW:=aG hgw
      clear hX4 hgw hge hB12 HX hCV y0 z0 lp lq hwr H12
      have kk:wc.cell? ⟨n11,1,none⟩=some (.int .i64 j.kind):=h11.c 1 _ rfl
      have l11:=h11.lt
      clear h11
      obtain ⟨i0,hi,hz0,hz1,hz2⟩:=info_parts Pj
      go_wp2_with fail
      refine (aej _ _).mono ?_
      rintro e W5 ⟨rfl,rfl⟩
      clear kk l11
      have k0:=h12.c0; have k1:=h12.c1; have k2:=h12.f0; have k3:=h12.f1; have k4:=h12.lt
      cases ht:decide (1≤j.kind∧j.kind≤3) with
      | false =>
       have HT:Hid (Bv j.kind (q - p)=(q - p,q - p)):=aG (by unfold Bv; rw [if_neg (of_decide_eq_false ht)])
       clear ht
       have HX2:Hid (Below wr.heap.size wr (wc.alloc (.cells #[.int .i64 (q - p),.int .i64 (q - p)] 23))):=aG (jD HX4.out ((aI _ _).alloc (au _) _))
       go_wp2_with (at_builtin; refine wpList_append_own _ rfl _ _ 60 rfl (nc+1) 23 i0 (.agg #[.int .i64 0,.int .i64 0]) 2 16 Me hi hz0 hz1 hz2 rfl (by decide) _ _ _ rfl (yx HRI.out.own HX2.out) ⟨wc.heap.size,0,none⟩ 1 1 [.int .i64 (q - p),.int .i64 (q - p)] rfl rfl ?c1 ?c2 ?c3 ?c4 ?c5 ?_)
       case c1=>exact PZ _ _ _ _ rfl
       case c2=>intro u hu; simp at hu; rcases hu with rfl | rfl<;>rfl
       case c3=>unfold maxLen; omega
       case c4=>omega
       case c5=>exact aZ HRI.out.hb HX2.out.size
       intro v' w' hown' hgrow _
       have hnx:=RI.next (r:=(q - p,q - p)) HRI.out HX2.out (by omega) (by omega) hgrow hown' (by rw [HSN.out,HT.out])
       have hcx:=(HCB.out.keep HX2.out).low (Nat.lt_succ_self nc) (yh (yx HRI.out.own HX2.out) hgrow (aZ HRI.out.hb HX2.out.size))
       have HNX:=aG hnx
       have HCX:=aG hcx
       clear hnx hcx hown' hgrow HX2 hi hz0 hz1 hz2 k0 k1 k2 k3 k4
       go_wp2
       go_roundw
       case rel=>exact ⟨k+1,by omega,by simp,HNX.out,HCX.out⟩
       case measure=>simp [intOf]; omega
      | true =>
       have HT:Hid (Bv j.kind (q - p)=(FX (q - p),FW (q - p))):=aG (by unfold Bv; rw [if_pos (of_decide_eq_true ht)])
       clear ht
       go_wp2_with fail
       refine (Xn nc _ _ _ _ _ _ _ hC4 HM.out).mono ?_
       rintro e W6 ⟨rfl,hb6⟩
       replace h12:=h12.keep hb6
       replace HX4:Hid (Below wr.heap.size wr W6):=aG (jD HX4.out hb6)
       clear hb6 hC4 k0 k1 k2 k3 k4
       have k0:=h12.c0; have k1:=h12.c1; have k2:=h12.f0; have k3:=h12.f1; have k4:=h12.lt
       generalize FX (q - p)=lo at HT ⊢
       generalize FW (q - p)=hi' at HT ⊢
       have hsz:((W6.setCell ⟨g,0,none⟩ (.int .i64 lo)).setCell ⟨g,1,none⟩ (.int .i64 hi')).heap.size=W6.heap.size:=by simp [afg]
       have HX1:Below wr.heap.size wr ((W6.setCell ⟨g,0,none⟩ (.int .i64 lo)).setCell ⟨g,1,none⟩ (.int .i64 hi')):=((HX4.out.setCell (p:=⟨g,0,none⟩) HGW.out _).setCell (p:=⟨g,1,none⟩) HGW.out _)
       have HX2:Hid (Below wr.heap.size wr (((W6.setCell ⟨g,0,none⟩ (.int .i64 lo)).setCell ⟨g,1,none⟩ (.int .i64 hi')).alloc (.cells #[.int .i64 lo,.int .i64 hi'] 23))):=aG (jD HX1 ((aI _ _).alloc (au _) _))
       have HSZ:=aG hsz
       clear HX1 hsz
       go_wp2_with (at_builtin; refine wpList_append_own _ rfl _ _ 60 rfl (nc+1) 23 i0 (.agg #[.int .i64 0,.int .i64 0]) 2 16 Me hi hz0 hz1 hz2 rfl (by decide) _ _ _ rfl (yx HRI.out.own HX2.out) ⟨W6.heap.size,0,none⟩ 1 1 [.int .i64 lo,.int .i64 hi'] rfl rfl ?c1 ?c2 ?c3 ?c4 ?c5 ?_)
       case c1=>exact PZ _ _ _ _ HSZ.out.symm
       case c2=>intro u hu; simp at hu; rcases hu with rfl | rfl<;>rfl
       case c3=>unfold maxLen; omega
       case c4=>omega
       case c5=>exact aZ HRI.out.hb HX2.out.size
       intro v' w' hown' hgrow _
       have hnx:=RI.next (r:=(lo,hi')) HRI.out HX2.out (by omega) (by omega) hgrow hown' (by rw [HSN.out,HT.out])
       have hcx:=(HCB.out.keep HX2.out).low (Nat.lt_succ_self nc) (yh (yx HRI.out.own HX2.out) hgrow (aZ HRI.out.hb HX2.out.size))
       have HNX:=aG hnx
       have HCX:=aG hcx
       clear hnx hcx hown' hgrow HX2 hi hz0 hz1 hz2 k0 k1 k2 k3 k4
       go_wp2
       go_roundw
       case rel=>exact ⟨k+1,by omega,by simp,HNX.out,HCX.out⟩
       case measure=>simp [intOf]; omega
    ·have hke:k=js.length:=by omega
     have HK:=aG hke
     have HRI:=aG hRI
     have cb0:=hCB.c
     have cb1:=hCB.lt
     clear hke hRI
     go_wp2
     go_ret2
     refine ⟨HRI.out.gW,.inr ⟨HI.out,?_⟩⟩
     have ho:=HRI.out.own
     rw [HK.out] at ho
     have hl':=acC js ps qs js.length
     obtain ⟨oa',cap',e1,e2⟩:=aa5 (rs:=o6 js ps qs js.length) (by rw [hl']; exact ho)
     subst e1
     exact ⟨oa',cap',rfl,e2⟩
end Go.Proofs.En
end
section
namespace Go.Proofs.En
open Go.RowKit
end Go.Proofs.En
end
section
namespace Go.Proofs.En
open Go.RowKit
structure Src (W:World) (nS:Nat) (os:Option Addr) (cap:Nat) (xs:List Int):Prop where
 box:∃k:Nat,k≤xs.length∧iw W nS (.slice os xs.length cap) (.int .i64 k)
 ints:Sl W os 1 (fF xs)
 off:xs≠[]→∀b o s,os=some ⟨b,o,s⟩→b≠nS
 len:xs.length≤9223372036854775807
variable {a:World} {r:Option Nat}
theorem yj {b c:World} (h:a.grownBy b r) (k:b.grownBy c r):a.grownBy c r :=
 ⟨k.os.trans h.os,k.tape.trans h.tape,k.output.trans h.output,aZ h.size k.size,fun i hi hn=>(k.block i (aC hi h.size) hn).trans (h.block i hi hn)⟩
theorem zy {b:World} (h:Below a.heap.size a b):a.grownBy b r:=⟨h.os,h.tape,h.output,h.size,fun k hk _=>h.block k hk⟩
theorem Pg (a:World) (n i:Nat) (v:Value):a.grownBy (a.setCell ⟨n,i,none⟩ v) (some n) :=
 ⟨rfl,rfl,rfl,by simp [afg],fun k _ hn=>ae0 a ⟨n,i,none⟩ v k (fun e=>hn (by rw [e]))⟩
variable {w:World} {b n nS:Nat}
theorem uJ.rF {w':World} {off:Nat} {l:List (List Value)} (h:uJ w b off n l) (hg:w.grownBy w' (some nS)) (hne:b≠nS):uJ w' b off n l :=
 ⟨aC h.lt hg.size,fun i r hi k v hv=>by
  rw [←h.c i r hi k v hv]
  simp [bS,hg.block b h.lt (fun e=>hne (by injection e))]⟩
set_option maxRecDepth 100000 in
theorem oQ (W:World) (nS:Nat) (os:Option Addr) (cap:Nat) (xs:List Int) (n:Int) (hS:Src W nS os cap xs) (h1:1≤n) (h2:n≤1000000000000) :
  Calls aa 38 #[.pointer (some ⟨nS,0,none⟩),.int .i64 n] W (fun e W'=>∃r:Int,0≤r∧r<n∧e=.returned (.int .i64 r)∧W.grownBy W' (some nS)∧Src W' nS os cap xs):=by
 obtain ⟨⟨k,hk,hc⟩,hints,hoff,hlen⟩:=hS
 have k0:=hc.c0; have k1:=hc.c1; have k2:=hc.f0; have k3:=hc.f1; have k4:=hc.lt
 by_cases hlt:k<xs.length
 ·have hlt':decide ((xs.length:Int)≤(k:Int))=false:=decide_eq_false (by omega)
  have hlt'':decide (xs.length≤k)=false:=decide_eq_false (by omega)
  obtain ⟨x,hx⟩:∃x,xs[k]?=some x:=⟨_,ah hlt⟩
  obtain ⟨b,off,rfl,hr⟩:=hints (kX hlt)
  have hbne:=hoff (by intro h; subst h; simp at hlt) b off none rfl
  go_enter Tryz.func38,Tryz.ntmps38
  go_wp2_with fail
  go_quiet (fail)
  have hcV:=hc.keep (vG W nq)
  have hrV:=hr.keep (vG W nq)
  have hgV:W.grownBy (W.drewN nq) (some nS):=zy (vG W nq)
  clear k0 k1 k2 k3 k4
  generalize W.drewN nq=V at hcV hrV hgV ⊢
  have k0:=hcV.c0; have k1:=hcV.c1; have k2:=hcV.f0; have k3:=hcV.f1; have k4:=hcV.lt
  go_wp2_with fail
  have hcX:iw (V.setCell ⟨nS,1,none⟩ (.int .i64 ((k:Int)+1))) nS (.slice (some ⟨b,off,none⟩) xs.length cap) (.int .i64 ((k:Int)+1)):=hcV.acx _
  have hgX:=yj hgV (Pg V nS 1 (.int .i64 ((k:Int)+1)))
  have hrX:=hrV.rF (Pg V nS 1 (.int .i64 ((k:Int)+1))) hbne
  clear k0 k1 k2 k3 k4 hcV hrV hgV
  generalize (V.setCell ⟨nS,1,none⟩ (.int .i64 ((k:Int)+1)))=X at hcX hgX hrX ⊢
  have k0:=hcX.c0; have k1:=hcX.c1; have k2:=hcX.f0; have k3:=hcX.f1; have k4:=hcX.lt
  have x0:X.cell? ⟨b,off+k,none⟩=some (.int .i64 x):=by have:=hrX.c k _ (yz hx) 0 _ rfl; simpa using this
  have hw1:bg.wrap ((k:Int)+1 - 1)=(k:Int):=by rw [dz _ (by omega)]; omega
  have hw2:bg.wrap (k:Int)=(k:Int):=dz _ (by omega)
  have HC:Hid (∀w,Calls aa 14 #[.int .i64 x,.int .i64 n] w fun e w'=>e=.returned (.int .i64 (x % n))∧w'=w):=aG (fun w=>(ac3 x n w (by omega) (by omega)).mono fun _ _ ⟨h,h'⟩=>⟨h,h'.symm⟩)
  have hr0:0≤x % n:=Int.emod_nonneg _ (by omega)
  have hr1:x % n<n:=Int.emod_lt_of_pos _ (by omega)
  have HR0:=aG hr0
  have HR1:=aG hr1
  clear hr0 hr1
  go_quiet ((go_at_call 14; exact Calls.quiet_of_same (HC.out _)))
  have hcY:=hcX.keep (vG X nq)
  have hrY:=hrX.keep (vG X nq)
  have hgY:=yj hgX (zy (vG X nq))
  clear k0 k1 k2 k3 k4 x0 hw1 hw2
  generalize X.drewN nq=Y at hcY hrY hgY ⊢
  go_wp2
  go_ret
  exact ⟨x % n,HR0.out,HR1.out,rfl,hgY,⟨⟨k+1,by omega,hcY⟩,fun _=>⟨b,off,rfl,hrY⟩,hoff,hlen⟩⟩
 ·have hlt':decide ((xs.length:Int)≤(k:Int))=true:=decide_eq_true (by omega)
  have hlt'':decide (xs.length≤k)=true:=decide_eq_true (by omega)
  go_enter Tryz.func38,Tryz.ntmps38
  go_wp2_with fail
  go_quiet (fail)
  have hcV:=hc.keep (vG W nq)
  have AP:=hints.keep (vG W nq)
  have hgV:W.grownBy (W.drewN nq) (some nS):=zy (vG W nq)
  clear k0 k1 k2 k3 k4
  generalize W.drewN nq=V at hcV AP hgV ⊢
  go_wp2
  go_ret
  exact ⟨0,by omega,by omega,rfl,hgV,⟨⟨k,hk,hcV⟩,AP,hoff,hlen⟩⟩
end Go.Proofs.En
end
section
namespace Go.Proofs.En
open Go.RowKit
def Vw (W:World) (nS:Nat) (os:Option Addr) (cap:Nat) (xs:List Int) (lo hi:Int) (e:Ending) (W':World):Prop:=∃r:Int,lo≤r∧r≤hi∧e=.returned (.int .i64 r)∧W.grownBy W' (some nS)∧Src W' nS os cap xs
theorem O8 (os:Option Addr) (cap n:Nat) (w:World):Calls aa 37 #[.slice os n cap] w (fun e w'=>e=.returned (.pointer (some ⟨w.heap.size,0,none⟩))∧w'=w.alloc (.cells #[.slice os n cap,.int .i64 0] 120)):=by
 go_enter Tryz.func37,Tryz.ntmps37
 go_wp2
 go_ret
 exact ⟨rfl,rfl⟩
theorem GG (W:World) (nS:Nat) (os:Option Addr) (cap:Nat) (xs:List Int) (n:Int) (hS:Src W nS os cap xs) (h1:0≤n) (h2:n≤1000000) :
  Calls aa 62 #[.pointer (some ⟨nS,0,none⟩),.int .i64 n] W (Vw W nS os cap xs (-n) n):=by
 go_enter Tryz.func62,Tryz.ntmps62
 go_wp2_with fail
 refine (oQ W nS os cap xs _ hS (by omega) (by omega)).mono ?_
 rintro e W1 ⟨r,r1,r2,rfl,hg,hS1⟩
 go_wp2
 go_ret
 exact ⟨r - n,by omega,by omega,rfl,hg,hS1⟩
def nm (i:Int):ByteArray:=⟨#[(97+i).toNat.toUInt8]⟩
theorem Y9 (i:Int) (w:World) (h1:0≤i) (h2:i≤3):Calls aa 46 #[.int .i64 i] w (fun e w'=>e=.returned (.string (nm i))∧w'=w):=by
 rcases (show i=0∨i=1∨i=2∨i=3 by omega) with rfl | rfl | rfl | rfl
 all_goals
  go_enter Tryz.func46,Tryz.ntmps46
  go_wp2
  go_ret
  exact ⟨by kernel_rfl,rfl⟩
end Go.Proofs.En
end
section
namespace Go.Proofs.En
open Go.RowKit
structure eG (W:World) (b:Nat) (l:List Value):Prop where
 c:∀i v,l[i]?=some v→W.cell? ⟨b,i,none⟩=some v
 f:∀i,W.frozen? ⟨b,i,none⟩=false
 lt:b<W.heap.size
theorem eG.new (W:World) (l:List Value) (t:TypeId):eG (W.alloc (.cells l.toArray t)) W.heap.size l:=by
 refine ⟨fun j v hj=>?_,fun i=>?_,by simp⟩
 ·exact (Row.new W l t).c j v hj
 ·simp
variable {W W':World} {b:Nat} {l:List Value}
theorem eG.keep (h:eG W b l) (hb:Below W.heap.size W W'):eG W' b l:=by
 have e:=hb.block b h.lt
 refine ⟨fun i v hi=>?_,fun i=>?_,aC h.lt hb.size⟩
 ·rw [←h.c i v hi]; simp [bS,e]
 ·rw [←h.f i]; simp [ae2,e]
variable {nS:Nat}
theorem eG.rF (h:eG W b l) (hg:W.grownBy W' (some nS)) (hne:b≠nS):eG W' b l:=by
 have e:=hg.block b h.lt (fun e=>hne (by injection e))
 refine ⟨fun i v hi=>?_,fun i=>?_,aC h.lt hg.size⟩
 ·rw [←h.c i v hi]; simp [bS,e]
 ·rw [←h.f i]; simp [ae2,e]
theorem eG.put (h:eG W b l) (i:Nat) (v:Value):eG (W.setCell ⟨b,i,none⟩ v) b (l.set i v):=by
 refine ⟨fun j u hj=>?_,fun j=>?_,by have:=h.lt; simp [afg]; exact this⟩
 ·rw [List.getElem?_set] at hj
  by_cases e:i=j
  ·subst e
   simp at hj
   obtain ⟨hl,rfl⟩:=hj
   have:=h.c i _ (ah hl)
   simp [go_sem,this]
  ·rw [if_neg e] at hj
   have:=h.c j u hj
   rw [←this]
   simp [go_sem]
 ·have:=h.f j
  simp [go_sem,this]
variable {os:Option Addr} {cap:Nat} {xs:List Int}
theorem Src.yl (h:Src W nS os cap xs) (hb:Below W.heap.size W W'):Src W' nS os cap xs:=by
 obtain ⟨⟨k,hk,hc⟩,hi,ho,hl⟩:=h
 exact ⟨⟨k,hk,hc.keep hb⟩,hi.keep hb,ho,hl⟩
theorem GM (h:Src W nS os cap xs):nS<W.heap.size:=by
 obtain ⟨⟨k,hk,hc⟩,_⟩:=h
 exact hc.lt
structure MJ (w:World) (nS n4 n5:Nat) (os:Option Addr) (cap:Nat) (xs:List Int) (j:JV) (W:World):Prop where
 gr:w.grownBy W (some nS)
 src:Src W nS os cap xs
 b4:∃l:List Value,l.length=12∧eG W n4 l
 b5:eG W n5 j.vals
 h4:n4≠nS
 h5:n5≠nS
 w4:w.heap.size≤n4
 w5:w.heap.size≤n5
 i0:Sl w os 1 (fF xs)
 n45:n4≠n5
variable {w:World} {n4 n5:Nat} {j:JV}
theorem MJ.next (h:MJ w nS n4 n5 os cap xs j W) (hg:W.grownBy W' (some nS)) (hS:Src W' nS os cap xs):MJ w nS n4 n5 os cap xs j W':=by
 obtain ⟨l,hl,hb⟩:=h.b4
 exact ⟨yj h.gr hg,hS,⟨l,hl,hb.rF hg h.h4⟩,h.b5.rF hg h.h5,h.h4,h.h5,h.w4,h.w5,h.i0,h.n45⟩
theorem MJ.put {w W:World} {nS n4 n5:Nat} {os:Option Addr} {cap:Nat} {xs:List Int} {j j':JV} (h:MJ w nS n4 n5 os cap xs j W) (i:Nat) (v:Value) (hv:j'.vals=j.vals.set i v):MJ w nS n4 n5 os cap xs j' (W.setCell ⟨n5,i,none⟩ v):=by
 have e:∀k,k≠n5→(W.setCell ⟨n5,i,none⟩ v).heap[k]?=W.heap[k]?:=fun k hk=>ae0 W ⟨n5,i,none⟩ v k hk
 have hsz:(W.setCell ⟨n5,i,none⟩ v).heap.size=W.heap.size:=by simp [afg]
 have w5:=h.w5
 obtain ⟨l,hl,b4⟩:=h.b4
 obtain ⟨⟨k,hk,hc⟩,hi,ho,hln⟩:=h.src
 have h5:=h.h5
 have n45:=h.n45
 refine ⟨⟨h.gr.os,h.gr.tape,h.gr.output,by rw [hsz]; exact h.gr.size,fun q hq hn=>(e q (by omega)).trans (h.gr.block q hq hn)⟩,⟨⟨k,hk,hc.other (fun e=>h5 e.symm) _ _⟩,?_,ho,hln⟩,⟨l,hl,?_⟩,by rw [hv]; exact h.b5.put i v,h.h4,h.h5,h.w4,h.w5,h.i0,h.n45⟩
 ·intro hne
  obtain ⟨b,off,e1,hr⟩:=hi hne
  obtain ⟨b',off',e1',hr'⟩:=h.i0 hne
  rw [e1] at e1'
  injection e1' with e1'
  injection e1' with e1' _ _
  have hlt:=hr'.lt
  refine ⟨b,off,e1,⟨by rw [hsz]; exact hr.lt,fun i' r hr1 k' v' hv'=>?_⟩⟩
  rw [←hr.c i' r hr1 k' v' hv']
  simp [bS,e b (by omega)]
 ·refine ⟨fun q u hu=>?_,fun q=>?_,by rw [hsz]; exact b4.lt⟩
  ·rw [←b4.c q u hu]; simp [bS,e n4 n45]
  ·rw [←b4.f q]; simp [ae2,e n4 n45]
theorem MJ.uz (h:MJ w nS n4 n5 os cap xs j W) (i:Nat) (v:Value):MJ w nS n4 n5 os cap xs j (W.setCell ⟨n4,i,none⟩ v):=by
 have e:∀k,k≠n4→(W.setCell ⟨n4,i,none⟩ v).heap[k]?=W.heap[k]?:=fun k hk=>ae0 W ⟨n4,i,none⟩ v k hk
 have hsz:(W.setCell ⟨n4,i,none⟩ v).heap.size=W.heap.size:=by simp [afg]
 have w4:=h.w4
 obtain ⟨l,hl,b4⟩:=h.b4
 obtain ⟨⟨k,hk,hc⟩,hi,ho,hln⟩:=h.src
 have h4:=h.h4
 have n45:=h.n45
 have b5:=h.b5
 refine ⟨⟨h.gr.os,h.gr.tape,h.gr.output,by rw [hsz]; exact h.gr.size,fun q hq hn=>(e q (by omega)).trans (h.gr.block q hq hn)⟩,⟨⟨k,hk,hc.other (fun e=>h4 e.symm) _ _⟩,?_,ho,hln⟩,⟨l.set i v,by simpa using hl,b4.put i v⟩,?_,h.h4,h.h5,h.w4,h.w5,h.i0,h.n45⟩
 ·intro hne
  obtain ⟨b,off,e1,hr⟩:=hi hne
  obtain ⟨b',off',e1',hr'⟩:=h.i0 hne
  rw [e1] at e1'
  injection e1' with e1'
  injection e1' with e1' _ _
  have hlt:=hr'.lt
  refine ⟨b,off,e1,⟨by rw [hsz]; exact hr.lt,fun i' r hr1 k' v' hv'=>?_⟩⟩
  rw [←hr.c i' r hr1 k' v' hv']
  simp [bS,e b (by omega)]
 ·refine ⟨fun q u hu=>?_,fun q=>?_,by rw [hsz]; exact b5.lt⟩
  ·rw [←b5.c q u hu]; simp [bS,e n5 (fun e=>n45 e.symm)]
  ·rw [←b5.f q]; simp [ae2,e n5 (fun e=>n45 e.symm)]
structure GJ (i:Int) (j:JV):Prop where
 name:j.name=nm i
 kind:0≤j.kind∧j.kind≤5
 parent:-1≤j.parent∧j.parent≤i - 1
 off:(-4194304≤j.o0∧j.o0≤4194304)∧(-4194304≤j.o1∧j.o1≤4194304)∧(-4194304≤j.o2∧j.o2≤4194304)
 lim:(-oI j.kind≤j.lo∧j.lo≤0)∧(0≤j.hi∧j.hi≤oI j.kind)
 weight:1≤j.weight∧j.weight≤4
 speed:j.speed=65536
 iL:65536≤j.iL∧j.iL≤65538
 iO:j.iO=327680
theorem tdl (a:Int) (h1:0≤a) (h2:a<5):-524288≤(-a*65536).tdiv 8∧(-a*65536).tdiv 8≤0:=by
 rcases (show a=0∨a=1∨a=2∨a=3∨a=4 by omega) with rfl | rfl | rfl | rfl | rfl<;>decide
theorem MJ.KT {i:Int} (h:MJ w nS n4 n5 os cap xs j W) (hG:GJ i j) (x y:Int) (hx:-oI j.kind≤x∧x≤0) (hy:0≤y∧y≤oI j.kind):∃j',GJ i j'∧MJ w nS n4 n5 os cap xs j' ((W.setCell ⟨n5,6,none⟩ (.int .i64 x)).setCell ⟨n5,7,none⟩ (.int .i64 y)) :=
 ⟨{ j with lo:=x,hi:=y },⟨hG.name,hG.kind,hG.parent,hG.off,⟨hx,hy⟩,hG.weight,hG.speed,hG.iL,hG.iO⟩,(h.put (j':={ j with lo:=x }) 6 _ rfl).put 7 _ rfl⟩
set_option maxRecDepth 100000 in
theorem YG (w:World) (nS:Nat) (os:Option Addr) (cap:Nat) (xs:List Int) (i:Int) (hS:Src w nS os cap xs) (h1:0≤i) (h2:i≤3) :
  Calls aa 61 #[.pointer (some ⟨nS,0,none⟩),.int .i64 i] w (fun e W'=>∃j:JV,GJ i j∧e=.returned (.agg j.vals.toArray)∧w.grownBy W' (some nS)∧Src W' nS os cap xs):=by
 go_enter Tryz.func61,Tryz.ntmps61
 go_wp2_with fail
 refine (Y9 i _ h1 h2).mono ?_
 rintro e w1 ⟨rfl,rfl⟩
 generalize hs:nm i=s
 have HS:=aG hs
 clear hs
 go_wp2_with fail
 have hba:Below w.heap.size w (w.alloc (.cells #[.string ⟨#[]⟩,.int .i64 0,.int .i64 0,.int .i64 0,.int .i64 0,.int .i64 0,.int .i64 0,.int .i64 0,.int .i64 0,.int .i64 0,.int .i64 0,.int .i64 0] 80)):=(aI _ _).alloc (au _) _
 have b4:=eG.new w [.string ⟨#[]⟩,.int .i64 0,.int .i64 0,.int .i64 0,.int .i64 0,.int .i64 0,.int .i64 0,.int .i64 0,.int .i64 0,.int .i64 0,.int .i64 0,.int .i64 0] 80
 have hS0:=hS.yl hba
 have g0:w.grownBy (w.alloc (.cells #[.string ⟨#[]⟩,.int .i64 0,.int .i64 0,.int .i64 0,.int .i64 0,.int .i64 0,.int .i64 0,.int .i64 0,.int .i64 0,.int .i64 0,.int .i64 0,.int .i64 0] 80)) (some nS):=zy hba
 have ne4:w.heap.size≠nS:=by have:=GM hS; omega
 clear hba
 generalize (w.alloc (.cells #[.string ⟨#[]⟩,.int .i64 0,.int .i64 0,.int .i64 0,.int .i64 0,.int .i64 0,.int .i64 0,.int .i64 0,.int .i64 0,.int .i64 0,.int .i64 0,.int .i64 0] 80))=W0 at b4 hS0 g0 ⊢
 generalize hn4:w.heap.size=n4 at b4 ne4 ⊢
 have HN4:=aG hn4
 clear hn4
 refine (oQ _ nS os cap xs 4 hS0 (by omega) (by omega)).mono ?_
 rintro e W1 ⟨r,r1,r2,rfl,hg1,hS1⟩
 have b41:=b4.rF hg1 ne4
 have g1:=yj g0 hg1
 clear b4 g0 hg1 hS0
 go_wp2_with fail
 refine (oQ _ nS os cap xs 3 hS1 (by omega) (by omega)).mono ?_
 rintro e W2 ⟨q,q1,q2,rfl,hg2,hS2⟩
 have b42:=b41.rF hg2 ne4
 have g2:=yj g1 hg2
 clear b41 g1 hg2 hS1
 go_wp2_with fail
 have hba:Below W2.heap.size W2 (W2.alloc (.cells #[.string s,.int .i64 0,.int .i64 (i - 1),.int .i64 0,.int .i64 0,.int .i64 0,.int .i64 0,.int .i64 0,.int .i64 (1+r),.int .i64 65536,.int .i64 (65536+q),.int .i64 327680] 80)):=(aI _ _).alloc (au _) _
 have hM:MJ w nS n4 W2.heap.size os cap xs ⟨s,0,i - 1,0,0,0,0,0,1+r,65536,65536+q,327680⟩ (W2.alloc (.cells #[.string s,.int .i64 0,.int .i64 (i - 1),.int .i64 0,.int .i64 0,.int .i64 0,.int .i64 0,.int .i64 0,.int .i64 (1+r),.int .i64 65536,.int .i64 (65536+q),.int .i64 327680] 80)) :=
  ⟨yj g2 (zy hba),hS2.yl hba,⟨_,rfl,b42.keep hba⟩,eG.new W2 [.string s,.int .i64 0,.int .i64 (i - 1),.int .i64 0,.int .i64 0,.int .i64 0,.int .i64 0,.int .i64 0,.int .i64 (1+r),.int .i64 65536,.int .i64 (65536+q),.int .i64 327680] 80,ne4,by have:=GM hS2; omega,by rw [HN4.out]; exact au _,g2.size,hS.ints,by have:=b42.lt; omega⟩
 clear hba g2 hS2 b42 hS
 generalize (W2.alloc (.cells #[.string s,.int .i64 0,.int .i64 (i - 1),.int .i64 0,.int .i64 0,.int .i64 0,.int .i64 0,.int .i64 0,.int .i64 (1+r),.int .i64 65536,.int .i64 (65536+q),.int .i64 327680] 80))=W3 at hM ⊢
 generalize W2.heap.size=n5 at hM ⊢
 have hwt:1≤1+r∧1+r≤4:=by omega
 have hac:65536≤65536+q∧65536+q≤65538:=by omega
 have hpa:-1≤i - 1∧i - 1≤i - 1:=by omega
 have HWT:=aG hwt
 have HAC:=aG hac
 have HPA:=aG hpa
 clear hwt hac hpa
 generalize 1+r=wt at hM HWT ⊢
 generalize 65536+q=ac at hM HAC ⊢
 generalize hpv:i - 1=pa at hM ⊢
 have HPA:Hid (-1≤pa∧pa≤i - 1):=aG (by rw [←hpv]; exact HPA.out)
 clear hpv
 refine (oQ _ nS os cap xs 8 hM.src (by omega) (by omega)).mono ?_
 rintro e W4 ⟨t,t1,t2,rfl,hg4,hS4⟩
 replace hM:=hM.next hg4 hS4
 clear hg4 hS4
 have hix:∃kd:Int,(0≤kd∧kd≤5)∧∀w,(aeV 152 (.agg #[.int .i64 3,.int .i64 3,.int .i64 1,.int .i64 2,.int .i64 4,.int .i64 5,.int .i64 3,.int .i64 0]) (.int .i64 t)).run aa w=.ok (.int .i64 kd) w:=by
  rcases (show t=0∨t=1∨t=2∨t=3∨t=4∨t=5∨t=6∨t=7 by omega) with rfl | rfl | rfl | rfl | rfl | rfl | rfl | rfl
  ·exact ⟨3,by omega,fun _=>by kernel_rfl⟩
  ·exact ⟨3,by omega,fun _=>by kernel_rfl⟩
  ·exact ⟨1,by omega,fun _=>by kernel_rfl⟩
  ·exact ⟨2,by omega,fun _=>by kernel_rfl⟩
  ·exact ⟨4,by omega,fun _=>by kernel_rfl⟩
  ·exact ⟨5,by omega,fun _=>by kernel_rfl⟩
  ·exact ⟨3,by omega,fun _=>by kernel_rfl⟩
  ·exact ⟨0,by omega,fun _=>by kernel_rfl⟩
 obtain ⟨kd,hkd,hix⟩:=hix
 have HKD:=aG hkd
 clear hkd
 have c1:=hM.b5.c 1 _ rfl
 have f1:=hM.b5.f 1
 go_wp2_with fail
 have hM5:=hM.put (j':=⟨s,kd,pa,0,0,0,0,0,wt,65536,ac,327680⟩) 1 (.int .i64 kd) rfl
 clear hM c1 f1 hix
 generalize W4.setCell ⟨n5,1,none⟩ (.int .i64 kd)=W5 at hM5 ⊢
 refine (oQ _ nS os cap xs 4 hM5.src (by omega) (by omega)).mono ?_
 rintro e W6 ⟨u,u1,u2,rfl,hg6,hS6⟩
 have hM:=hM5.next hg6 hS6
 clear hg6 hS6 hM5
 have hG:GJ i ⟨s,kd,pa,0,0,0,0,0,wt,65536,ac,327680⟩:=⟨HS.out.symm,HKD.out,HPA.out,by simp,by have:=EX kd; simp; omega,HWT.out,rfl,HAC.out,rfl⟩
 clear HS HKD HPA HWT HAC
 generalize hjj:(⟨s,kd,pa,0,0,0,0,0,wt,65536,ac,327680⟩:JV)=jj at hM hG
 clear hjj
 have c2:W6.cell? ⟨n5,2,none⟩=some (.int .i64 jj.parent):=hM.b5.c 2 _ rfl
 have f2:=hM.b5.f 2
 have l5:=hM.b5.lt
 go_upto_if 24 with fail
 go_cut [] (fun W=>∃j,GJ i j∧MJ w nS n4 n5 os cap xs j W)
 case first =>
  go_wp2_with fail
  ·go_meet
   exact ⟨{ jj with parent:=-1 },⟨hG.name,hG.kind,by simp; omega,hG.off,hG.lim,hG.weight,hG.speed,hG.iL,hG.iO⟩,hM.put (j':={ jj with parent:=-1 }) 2 _ rfl⟩
  ·go_meet
   exact ⟨_,hG,hM⟩
 case rest =>
  clear hM hG c2 f2 l5
  obtain ⟨j1,hG,hM⟩:=hcut
  go_upto_if 27 with fail
  go_cut [] (fun W=>∃j,GJ i j∧MJ w nS n4 n5 os cap xs j W)
  case first =>
   by_cases hi0:0<i
   ·go_wp2_with fail
    refine (GG _ nS os cap xs 2 hM.src (by omega) (by omega)).mono ?_
    rintro e V1 ⟨a1,a11,a12,rfl,hg,hS⟩
    replace hM:=hM.next hg hS
    clear hg hS
    go_wp2_with fail
    refine (GG _ nS os cap xs 1 hM.src (by omega) (by omega)).mono ?_
    rintro e V2 ⟨a2,a21,a22,rfl,hg,hS⟩
    replace hM:=hM.next hg hS
    clear hg hS
    have c3:V2.cell? ⟨n5,3,none⟩=some (.int .i64 j1.o0):=hM.b5.c 3 _ rfl
    have c4:V2.cell? ⟨n5,4,none⟩=some (.int .i64 j1.o1):=hM.b5.c 4 _ rfl
    have c5:V2.cell? ⟨n5,5,none⟩=some (.int .i64 j1.o2):=hM.b5.c 5 _ rfl
    have f3:=hM.b5.f 3
    have f4:=hM.b5.f 4
    have f5:=hM.b5.f 5
    go_wp2_with fail
    go_meet
    exact ⟨{ j1 with o0:=131072,o1:=a1*32768,o2:=a2*32768 },⟨hG.name,hG.kind,hG.parent,by simp; omega,hG.lim,hG.weight,hG.speed,hG.iL,hG.iO⟩,((hM.put (j':={ j1 with o0:=131072 }) 3 _ rfl).put (j':={ j1 with o0:=131072,o1:=a1*32768 }) 4 _ rfl).put (j':={ j1 with o0:=131072,o1:=a1*32768,o2:=a2*32768 }) 5 _ rfl⟩
   ·go_wp2_with fail
    go_meet
    exact ⟨_,hG,hM⟩
  case rest =>
   clear hM hG
   obtain ⟨j2,hG,hM⟩:=hcut
   have c1:wc.cell? ⟨n5,1,none⟩=some (.int .i64 j2.kind):=hM.b5.c 1 _ rfl
   have l5:=hM.b5.lt
   go_upto_block 0 with fail
   go_cut [] (fun W=>∃j,GJ i j∧MJ w nS n4 n5 os cap xs j W)
   case first =>
    by_cases q0:j2.kind=0
    ·have q0':(j2.kind==0)=true:=by rw [q0]; rfl
     go_wp2_with fail
     go_meet
     exact ⟨_,hG,hM⟩
    ·have q0':(j2.kind==0)=false:=beq_eq_false_iff_ne.2 q0
     by_cases q4:j2.kind=4
     ·have q4':(j2.kind==4)=true:=by rw [q4]; rfl
      have hlim:oI j2.kind=4194304:=by rw [q4]; rfl
      clear q4
      go_wp2_with fail
      refine (oQ _ nS os cap xs 3 hM.src (by omega) (by omega)).mono ?_
      rintro e V1 ⟨a,a1,a2,rfl,hg,hS⟩
      replace hM:=hM.next hg hS
      clear hg hS
      go_wp2_with fail
      refine (oQ _ nS os cap xs 4 hM.src (by omega) (by omega)).mono ?_
      rintro e V2 ⟨b,b1,b2,rfl,hg,hS⟩
      replace hM:=hM.next hg hS
      clear hg hS
      have c6:V2.cell? ⟨n5,6,none⟩=some (.int .i64 j2.lo):=hM.b5.c 6 _ rfl
      have c7:V2.cell? ⟨n5,7,none⟩=some (.int .i64 j2.hi):=hM.b5.c 7 _ rfl
      have f6:=hM.b5.f 6
      have f7:=hM.b5.f 7
      have l5':=hM.b5.lt
      go_wp2_with fail
      go_meet
      exact hM.KT hG _ _ (by omega) (by omega)
     ·have q4':(j2.kind==4)=false:=beq_eq_false_iff_ne.2 q4
      by_cases q5:j2.kind=5
      ·have q5':(j2.kind==5)=true:=by rw [q5]; rfl
       have hlim:oI j2.kind=4194304:=by rw [q5]; rfl
       clear q5
       go_wp2_with fail
       refine (oQ _ nS os cap xs 3 hM.src (by omega) (by omega)).mono ?_
       rintro e V1 ⟨a,a1,a2,rfl,hg,hS⟩
       replace hM:=hM.next hg hS
       clear hg hS
       go_wp2_with fail
       refine (oQ _ nS os cap xs 4 hM.src (by omega) (by omega)).mono ?_
       rintro e V2 ⟨b,b1,b2,rfl,hg,hS⟩
       replace hM:=hM.next hg hS
       clear hg hS
       have c6:V2.cell? ⟨n5,6,none⟩=some (.int .i64 j2.lo):=hM.b5.c 6 _ rfl
       have c7:V2.cell? ⟨n5,7,none⟩=some (.int .i64 j2.hi):=hM.b5.c 7 _ rfl
       have f6:=hM.b5.f 6
       have f7:=hM.b5.f 7
       have l5':=hM.b5.lt
       go_wp2_with fail
       go_meet
       exact hM.KT hG _ _ (by omega) (by omega)
      ·have q5':(j2.kind==5)=false:=beq_eq_false_iff_ne.2 q5
       have hlim:oI j2.kind=524288:=by have:=hG.kind; unfold oI; rw [if_pos (by omega)]
       go_wp2_with fail
       refine (oQ _ nS os cap xs 5 hM.src (by omega) (by omega)).mono ?_
       rintro e V1 ⟨a,a1,a2,rfl,hg,hS⟩
       replace hM:=hM.next hg hS
       clear hg hS
       go_wp2_with fail
       refine (oQ _ nS os cap xs 4 hM.src (by omega) (by omega)).mono ?_
       rintro e V2 ⟨b,b1,b2,rfl,hg,hS⟩
       replace hM:=hM.next hg hS
       clear hg hS
       go_wp2_with fail
       refine (oQ _ nS os cap xs 3 hM.src (by omega) (by omega)).mono ?_
       rintro e V3 ⟨c,c1,c2,rfl,hg,hS⟩
       replace hM:=hM.next hg hS
       clear hg hS
       have c6:V3.cell? ⟨n5,6,none⟩=some (.int .i64 j2.lo):=hM.b5.c 6 _ rfl
       have c7:V3.cell? ⟨n5,7,none⟩=some (.int .i64 j2.hi):=hM.b5.c 7 _ rfl
       have f6:=hM.b5.f 6
       have f7:=hM.b5.f 7
       have l5':=hM.b5.lt
       go_wp2_with fail
       go_meet
       have htd:=tdl a a1 a2
       exact hM.KT hG _ _ (by omega) (by omega)
   case rest =>
    clear hM hG c1 l5
    obtain ⟨j3,hG,hM⟩:=hcut
    have d0:wc.cell? ⟨n5,0,none⟩=some (.string j3.name):=hM.b5.c 0 _ rfl
    have d1:wc.cell? ⟨n5,1,none⟩=some (.int .i64 j3.kind):=hM.b5.c 1 _ rfl
    have d2:wc.cell? ⟨n5,2,none⟩=some (.int .i64 j3.parent):=hM.b5.c 2 _ rfl
    have d3:wc.cell? ⟨n5,3,none⟩=some (.int .i64 j3.o0):=hM.b5.c 3 _ rfl
    have d4:wc.cell? ⟨n5,4,none⟩=some (.int .i64 j3.o1):=hM.b5.c 4 _ rfl
    have d5:wc.cell? ⟨n5,5,none⟩=some (.int .i64 j3.o2):=hM.b5.c 5 _ rfl
    have d6:wc.cell? ⟨n5,6,none⟩=some (.int .i64 j3.lo):=hM.b5.c 6 _ rfl
    have d7:wc.cell? ⟨n5,7,none⟩=some (.int .i64 j3.hi):=hM.b5.c 7 _ rfl
    have d8:wc.cell? ⟨n5,8,none⟩=some (.int .i64 j3.weight):=hM.b5.c 8 _ rfl
    have d9:wc.cell? ⟨n5,9,none⟩=some (.int .i64 j3.speed):=hM.b5.c 9 _ rfl
    have d10:wc.cell? ⟨n5,10,none⟩=some (.int .i64 j3.iL):=hM.b5.c 10 _ rfl
    have d11:wc.cell? ⟨n5,11,none⟩=some (.int .i64 j3.iO):=hM.b5.c 11 _ rfl
    obtain ⟨l,hl,hb4⟩:=hM.b4
    obtain ⟨a0,a1,a2,a3,a4,a5,a6,a7,a8,a9,a10,a11,rfl⟩:∃a0 a1 a2 a3 a4 a5 a6 a7 a8 a9 a10 a11,l=[a0,a1,a2,a3,a4,a5,a6,a7,a8,a9,a10,a11]:=by
     match l,hl with
     | [a0,a1,a2,a3,a4,a5,a6,a7,a8,a9,a10,a11],_=>exact ⟨_,_,_,_,_,_,_,_,_,_,_,_,rfl⟩
    have e0:wc.cell? ⟨n4,0,none⟩=some a0:=hb4.c 0 _ rfl
    have f0:=hb4.f 0
    have e1:wc.cell? ⟨n4,1,none⟩=some a1:=hb4.c 1 _ rfl
    have f1:=hb4.f 1
    have e2:wc.cell? ⟨n4,2,none⟩=some a2:=hb4.c 2 _ rfl
    have f2:=hb4.f 2
    have e3:wc.cell? ⟨n4,3,none⟩=some a3:=hb4.c 3 _ rfl
    have f3:=hb4.f 3
    have e4:wc.cell? ⟨n4,4,none⟩=some a4:=hb4.c 4 _ rfl
    have f4:=hb4.f 4
    have e5:wc.cell? ⟨n4,5,none⟩=some a5:=hb4.c 5 _ rfl
    have f5:=hb4.f 5
    have e6:wc.cell? ⟨n4,6,none⟩=some a6:=hb4.c 6 _ rfl
    have f6:=hb4.f 6
    have e7:wc.cell? ⟨n4,7,none⟩=some a7:=hb4.c 7 _ rfl
    have f7:=hb4.f 7
    have e8:wc.cell? ⟨n4,8,none⟩=some a8:=hb4.c 8 _ rfl
    have f8:=hb4.f 8
    have e9:wc.cell? ⟨n4,9,none⟩=some a9:=hb4.c 9 _ rfl
    have f9:=hb4.f 9
    have e10:wc.cell? ⟨n4,10,none⟩=some a10:=hb4.c 10 _ rfl
    have f10:=hb4.f 10
    have e11:wc.cell? ⟨n4,11,none⟩=some a11:=hb4.c 11 _ rfl
    have f11:=hb4.f 11
    have l4:=hb4.lt
    have l5:=hM.b5.lt
    go_wp2_with fail
    have hF:=((((((((((((hM.uz 0 (.string j3.name)).uz 1 (.int .i64 j3.kind)).uz 2 (.int .i64 j3.parent)).uz 3 (.int .i64 j3.o0)).uz 4 (.int .i64 j3.o1)).uz 5 (.int .i64 j3.o2)).uz 6 (.int .i64 j3.lo)).uz 7 (.int .i64 j3.hi)).uz 8 (.int .i64 j3.weight)).uz 9 (.int .i64 j3.speed)).uz 10 (.int .i64 j3.iL)).uz 11 (.int .i64 j3.iO))
    exact bodyPost_ret (v:=.agg j3.vals.toArray) (by simp [results,Tryz.results61,go_sem,JV.vals,e0,e1,e2,e3,e4,e5,e6,e7,e8,e9,e10,e11]) rfl ⟨j3,hG,rfl,hF.gr,hF.src⟩
end Go.Proofs.En
end
section
namespace Go.Proofs.En
open Go.RowKit
variable {W W':World} {base size n:Nat} {e:TypeId} {v:Value}
theorem uY {xs:List Value} (h:W.ownsRow base e size v n xs) (hb:∀g,v.ownBlock=some g→g<W.heap.size→base≤g→W'.heap[g]?=W.heap[g]?):W'.ownsRow base e size v n xs:=by
 refine ⟨h.1,?_⟩
 rcases h.2 with h0 | ⟨g,cap,cur,hv,hbg,hg,rest⟩
 ·exact .inl h0
 ·have hlt:g<W.heap.size:=by
   rcases cu g W.heap.size with h | h
   ·exact h
   ·rw [afc h] at hg; cases hg
  exact .inr ⟨g,cap,cur,hv,hbg,(hb g (by rw [hv]; rfl) hlt hbg).trans hg,rest⟩
theorem QH {xs:List Value} (h:W.ownsRow base e size v n xs) (g:Nat) (hg:v.ownBlock=some g):g<W.heap.size∧base≤g:=by
 rcases h.2 with ⟨rfl,_⟩ | ⟨g',cap,cur,rfl,hbg,hh,rest⟩
 ·cases hg
 ·simp [Value.ownBlock] at hg
  subst hg
  refine ⟨?_,hbg⟩
  rcases cu g' W.heap.size with h | h
  ·exact h
  ·rw [afc h] at hh; cases hh
theorem flat_get (rows:List (List Value)) (n:Nat) (hn:∀r∈rows,r.length=n) (i:Nat) (r:List Value) (h:rows[i]?=some r) (k:Nat) (v:Value) (hv:r[k]?=some v):rows.flatten[i*n+k]?=some v:=by
 induction rows generalizing i with
 | nil=>simp at h
 | cons a t ih =>
  have ha:a.length=n:=hn a (by simp)
  have hk:k<n:=by
   have hr:r.length=n:=hn r (aN h)
   rcases cu k r.length with h' | h'
   ·omega
   ·rw [bQ h'] at hv; cases hv
  cases i with
  | zero =>
   simp at h; subst h
   rw [List.flatten_cons,aH (by omega)]
   simpa using hv
  | succ i =>
   simp at h
   have:=ih (fun r hr=>hn r (by simp [hr])) i h
   rw [List.flatten_cons,bu (by rw [ha,Nat.succ_mul]; omega),ha]
   have e:(i+1)*n+k - n=i*n+k:=by rw [Nat.succ_mul]; omega
   rw [e]
   exact this
theorem KM {rows:List (List Value)} (hn:∀r∈rows,r.length=n) (h:W.ownsRow base e n v rows.length rows.flatten):∃oa cap,v=.slice oa rows.length cap∧Sl W oa n rows:=by
 rcases h.2 with ⟨rfl,h0⟩ | ⟨g,cap,cur,rfl,hbg,hg,hc,hm,hs,ht⟩
 ·have:rows=[]:=List.length_eq_zero_iff.1 h0
  subst this
  exact ⟨none,0,rfl,fun h=>absurd rfl h⟩
 ·refine ⟨_,cap,rfl,fun _=>⟨g,0,rfl,?_⟩⟩
  have hlt:g<W.heap.size:=by
   rcases cu g W.heap.size with h | h
   ·exact h
   ·rw [afc h] at hg; cases hg
  refine ⟨hlt,fun i r hi k u hu=>?_⟩
  have hq:=flat_get rows n hn i r hi k u hu
  rw [←ht,dx] at hq
  split at hq
  ·simp [bS,hg]
   simpa using hq
  ·cases hq
def AV (js:List JV):List Value:=(js.map JV.vals).flatten
def Bc (ms:List MV):List Value:=(ms.map MV.vals).flatten
theorem Yy (js:List JV) (j:JV):AV (js++[j])=AV js++j.vals:=by simp [AV]
theorem ZC (ms:List MV) (m:MV):Bc (ms++[m])=Bc ms++m.vals:=by simp [Bc]
variable {w:World} {nS cap:Nat} {os:Option Addr} {xs:List Int}
theorem Src.low (h:Src W nS os cap xs) (i0:Sl w os 1 (fF xs)) (hn:nS<w.heap.size) (hb:Below w.heap.size W W'):Src W' nS os cap xs:=by
 obtain ⟨⟨k,hk,hc⟩,hi,ho,hl⟩:=h
 refine ⟨⟨k,hk,?_⟩,?_,ho,hl⟩
 ·have e:=hb.block nS hn
  obtain ⟨c0,c1,f0,f1,lt⟩:=hc
  refine ⟨?_,?_,?_,?_,aC lt hb.size⟩
  ·rw [←c0]; simp [bS,e]
  ·rw [←c1]; simp [bS,e]
  ·rw [←f0]; simp [ae2,e]
  ·rw [←f1]; simp [ae2,e]
 ·intro hne
  obtain ⟨b,off,e1,hr⟩:=hi hne
  obtain ⟨b',off',e1',hr'⟩:=i0 hne
  rw [e1] at e1'
  injection e1' with e1'
  injection e1' with e1' _ _
  have hlt:=hr'.lt
  refine ⟨b,off,e1,⟨aC hr.lt hb.size,fun i' r hr1 k' v' hv'=>?_⟩⟩
  rw [←hr.c i' r hr1 k' v' hv']
  simp [bS,hb.block b (by omega)]
variable {r:Option Nat}
theorem JY (h:w.grownBy W r) (hb:Below w.heap.size W W'):w.grownBy W' r :=
 ⟨hb.os.trans h.os,hb.tape.trans h.tape,hb.output.trans h.output,aZ h.size hb.size,fun k hk hn=>(hb.block k hk).trans (h.block k hk hn)⟩
variable {b:Nat} {l:List Value}
theorem eG.low (h:eG W b l) (hlt:b<base) (hb:Below base W W'):eG W' b l:=by
 have e:=hb.block b hlt
 refine ⟨fun i v hi=>?_,fun i=>?_,aC h.lt hb.size⟩
 ·rw [←h.c i v hi]; simp [bS,e]
 ·rw [←h.f i]; simp [ae2,e]
structure RB (w:World) (nS n2 n3:Nat) (os:Option Addr) (cap:Nat) (xs:List Int) (js:List JV) (ms:List MV) (v u:Value) (W:World):Prop where
 gr:w.grownBy W (some nS)
 src:Src W nS os cap xs
 b2:∃x y,eG W n2 [x,y]
 b3:eG W n3 [v,u]
 oj:W.ownsRow (n3+1) 80 12 v js.length (AV js)
 om:W.ownsRow (n3+1) 54 5 u ms.length (Bc ms)
 ap:∀g,v.ownBlock=some g→u.ownBlock≠some g
 hb:n3+1≤W.heap.size
 gj:∀(k:Nat) (j:JV),js[k]?=some j→GJ k j
 i0:Sl w os 1 (fF xs)
 hs:nS<w.heap.size
 h2:w.heap.size≤n2
 h3:n2<n3
variable {n2 n3:Nat} {js:List JV} {ms:List MV} {u:Value}
theorem RB.call (h:RB w nS n2 n3 os cap xs js ms v u W) (hg:W.grownBy W' (some nS)) (hS:Src W' nS os cap xs):RB w nS n2 n3 os cap xs js ms v u W':=by
 have hs:=h.hs; have h2:=h.h2; have h3:=h.h3
 obtain ⟨x,y,hb2⟩:=h.b2
 refine ⟨yj h.gr hg,hS,⟨x,y,hb2.rF hg (by omega)⟩,h.b3.rF hg (by omega),uY h.oj fun g _ hl hb=>hg.block g hl (fun e=>by injection e; omega),uY h.om fun g _ hl hb=>hg.block g hl (fun e=>by injection e; omega),h.ap,aZ h.hb hg.size,h.gj,h.i0,hs,h2,h3⟩
theorem RB.gW (h:RB w nS n2 n3 os cap xs js ms v u W) (hg:Below W.heap.size W W'):RB w nS n2 n3 os cap xs js ms v u W':=by
 obtain ⟨x,y,hb2⟩:=h.b2
 exact ⟨yj h.gr (zy hg),h.src.yl hg,⟨x,y,hb2.keep hg⟩,h.b3.keep hg,yx h.oj hg,yx h.om hg,h.ap,aZ h.hb hg.size,h.gj,h.i0,h.hs,h.h2,h.h3⟩
variable {W1:World}
theorem RB.appJ (h:RB w nS n2 n3 os cap xs js ms v u W) (j:JV) (hj:GJ js.length j) (g c:Nat)
  (ho:W1.ownsRow (n3+1) 80 12 (.slice (some ⟨g,0,none⟩) (js.length+1) c) (js.length+1) (AV js++j.vals)) (hg:W.grownBy W1 v.ownBlock) (ha:v.ownBlock=some g∨g=W.heap.size) :
  RB w nS n2 n3 os cap xs (js++[j]) ms (.slice (some ⟨g,0,none⟩) (js.length+1) c) u (W1.setCell ⟨n3,0,none⟩ (.slice (some ⟨g,0,none⟩) (js.length+1) c)):=by
 have hs:=h.hs; have h2:=h.h2; have h3:=h.h3; have hb:=h.hb
 obtain ⟨x,y,hb2⟩:=h.b2
 have B1:Below (n3+1) W W1:=yh h.oj hg h.hb
 have e:∀k,k≠n3→(W1.setCell ⟨n3,0,none⟩ (.slice (some ⟨g,0,none⟩) (js.length+1) c)).heap[k]?=W1.heap[k]?:=fun k hk=>ae0 W1 ⟨n3,0,none⟩ _ k hk
 have B2:Below n3 W (W1.setCell ⟨n3,0,none⟩ (.slice (some ⟨g,0,none⟩) (js.length+1) c)):=(B1.mono (Nat.le_succ n3)).setCell (p:=⟨n3,0,none⟩) (au _) _
 refine ⟨JY h.gr (B2.mono (by omega)),h.src.low h.i0 hs (B2.mono (by omega)),⟨x,y,hb2.low (by omega) B2⟩,(h.b3.low (by omega) B1).put 0 _,?_,?_,?_,?_,?_,h.i0,hs,h2,h3⟩
 ·rw [Yy,afa]
  exact uY ho fun q _ _ hq=>e q (by omega)
 ·refine uY h.om fun q hq1 hq2 hq3=>(e q (by omega)).trans (hg.block q hq2 ?_)
  exact fun e=>h.ap q e.symm hq1
 ·intro q hq
  have hqg:q=g:=by
   simp [Value.ownBlock] at hq
   exact hq.symm
  subst hqg
  rcases ha with ha | ha
  ·exact h.ap q ha
  ·intro hc
   have:=(QH h.om q hc).1
   omega
 ·exact aZ hb B2.size
 ·intro k j' hk
  rcases cu k js.length with hlt | hge
  ·rw [aH hlt] at hk
   exact h.gj k j' hk
  ·rw [bu hge] at hk
   have:k=js.length:=by
    rcases Nat.eq_or_lt_of_le hge with h | h
    ·exact h.symm
    ·rw [bQ (by simp; omega)] at hk; cases hk
   subst this
   simp at hk
   subst hk
   exact hj
theorem RB.VK (h:RB w nS n2 n3 os cap xs js ms v u W) (m:MV) (g c:Nat)
  (ho:W1.ownsRow (n3+1) 54 5 (.slice (some ⟨g,0,none⟩) (ms.length+1) c) (ms.length+1) (Bc ms++m.vals)) (hg:W.grownBy W1 u.ownBlock) (ha:u.ownBlock=some g∨g=W.heap.size) :
  RB w nS n2 n3 os cap xs js (ms++[m]) v (.slice (some ⟨g,0,none⟩) (ms.length+1) c) (W1.setCell ⟨n3,1,none⟩ (.slice (some ⟨g,0,none⟩) (ms.length+1) c)):=by
 have hs:=h.hs; have h2:=h.h2; have h3:=h.h3; have hb:=h.hb
 obtain ⟨x,y,hb2⟩:=h.b2
 have B1:Below (n3+1) W W1:=yh h.om hg h.hb
 have e:∀k,k≠n3→(W1.setCell ⟨n3,1,none⟩ (.slice (some ⟨g,0,none⟩) (ms.length+1) c)).heap[k]?=W1.heap[k]?:=fun k hk=>ae0 W1 ⟨n3,1,none⟩ _ k hk
 have B2:Below n3 W (W1.setCell ⟨n3,1,none⟩ (.slice (some ⟨g,0,none⟩) (ms.length+1) c)):=(B1.mono (Nat.le_succ n3)).setCell (p:=⟨n3,1,none⟩) (au _) _
 refine ⟨JY h.gr (B2.mono (by omega)),h.src.low h.i0 hs (B2.mono (by omega)),⟨x,y,hb2.low (by omega) B2⟩,(h.b3.low (by omega) B1).put 1 _,?_,?_,?_,?_,h.gj,h.i0,hs,h2,h3⟩
 ·refine uY h.oj fun q hq1 hq2 hq3=>(e q (by omega)).trans (hg.block q hq2 ?_)
  exact fun e=>h.ap q hq1 e.symm
 ·rw [ZC,afa]
  exact uY ho fun q _ _ hq=>e q (by omega)
 ·intro q hq hc
  have hqg:q=g:=by
   simp [Value.ownBlock] at hc
   exact hc.symm
  subst hqg
  rcases ha with ha | ha
  ·exact h.ap q hq ha
  ·have:=(QH h.oj q hq).1
   omega
 ·exact aZ hb B2.size
theorem RB.acy (h:RB w nS n2 n3 os cap xs js ms v u W) (x y:Value) :
  RB w nS n2 n3 os cap xs js ms v u ((W.setCell ⟨n2,0,none⟩ x).setCell ⟨n2,1,none⟩ y):=by
 have hs:=h.hs; have h2:=h.h2; have h3:=h.h3; have hb:=h.hb
 obtain ⟨a,b,hb2⟩:=h.b2
 have B:Below n2 W ((W.setCell ⟨n2,0,none⟩ x).setCell ⟨n2,1,none⟩ y):=((aI _ _).setCell (p:=⟨n2,0,none⟩) (au _) _).setCell (p:=⟨n2,1,none⟩) (au _) _
 have e:∀g,g≠n2→((W.setCell ⟨n2,0,none⟩ x).setCell ⟨n2,1,none⟩ y).heap[g]?=W.heap[g]?:=fun g hg=>(ae0 _ ⟨n2,1,none⟩ _ g hg).trans (ae0 _ ⟨n2,0,none⟩ _ g hg)
 refine ⟨JY h.gr (B.mono h2),h.src.low h.i0 hs (B.mono h2),⟨_,_,(hb2.put 0 x).put 1 y⟩,?_,uY h.oj fun g _ _ hg=>e g (by omega),uY h.om fun g _ _ hg=>e g (by omega),h.ap,aZ hb B.size,h.gj,h.i0,hs,h2,h3⟩
 have e3:=e n3 (by omega)
 refine ⟨fun i v hi=>?_,fun i=>?_,aC h.b3.lt B.size⟩
 ·rw [←h.b3.c i v hi]; simp [bS,e3]
 ·rw [←h.b3.f i]; simp [ae2,e3]
def Cf (js:List JV) (ms:List MV) (oa om:Option Addr) (W:World):Prop:=(1≤js.length∧js.length≤3)∧ms.length≤2∧(∀(k:Nat) (j:JV),js[k]?=some j→GJ k j)∧(∀(k:Nat) (m:MV),ms[k]?=some m→kK js.length m=true)∧Sl W oa 12 (js.map JV.vals)∧Sl W om 5 (ms.map MV.vals)
theorem QG {W'':World} (h:RB w nS n2 n3 os cap xs js ms v u W) (hag:∀g,w.heap.size≤g→g<W.heap.size→W''.heap[g]?=W.heap[g]?):∃oa cj om cm,v=.slice oa js.length cj∧u=.slice om ms.length cm∧Sl W'' oa 12 (js.map JV.vals)∧Sl W'' om 5 (ms.map MV.vals):=by
 have h2:=h.h2; have h3:=h.h3
 obtain ⟨oa,cj,e1,s1⟩:=KM (rows:=js.map JV.vals) (n:=12) (by intro r hr; simp at hr; obtain ⟨j,_,rfl⟩:=hr; rfl) (by rw [dF]; exact uY h.oj fun g _ hl hb=>hag g (by omega) hl)
 obtain ⟨om,cm,e2,s2⟩:=KM (rows:=ms.map MV.vals) (n:=5) (by intro r hr; simp at hr; obtain ⟨j,_,rfl⟩:=hr; rfl) (by rw [dF]; exact uY h.om fun g _ hl hb=>hag g (by omega) hl)
 rw [dF] at e1 e2
 exact ⟨oa,cj,om,cm,e1,e2,s1,s2⟩
theorem RB.done (h:RB w nS n2 n3 os cap xs js ms v u W):∃oa cj om cm,v=.slice oa js.length cj∧u=.slice om ms.length cm∧Sl W oa 12 (js.map JV.vals)∧Sl W om 5 (ms.map MV.vals):=QG h fun _ _ _=>rfl
end Go.Proofs.En
end
end
