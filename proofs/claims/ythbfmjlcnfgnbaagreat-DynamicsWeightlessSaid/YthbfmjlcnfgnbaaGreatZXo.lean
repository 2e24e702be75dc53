/-
  Part of the proof: see the last text.
-/
import Derived.Test.YthbfmjlcnfgnbaaGreatZXm
set_option linter.unusedVariables false
set_option maxHeartbeats 8000000
open Array renaming getElem?_eq_some_iff→aB,replicate→dn
open List renaming cons_append→dw,getElem?_eq_getElem→ah,getElem?_eq_some_iff→ai,getElem?_of_mem→cZ,length→ae1,length_append→afa,length_cons→dB,length_map→dF,length_nil→aeT,map_cons→dI,map_nil→ae9,mem_append→bH,mem_cons→ag,mem_cons_of_mem→aT,mem_cons_self→aA,nil_append→dD,not_mem_nil→ae,replicate→az
open Nat renaming beq→ay,eq_of_beq_eq_true→bf,succ_pos→aO
open Go.Proofs.Tryz renaming f20→aY,prog→aa
section
namespace Go.Proofs
open Go.Sm Go.RowKit En
set_option maxHeartbeats 8000000
theorem WQ:(dN aY)=fB [(dZ (dN aY))] (.seq (jM (dN aY)) (.seq (jK (dN aY)) (fB [(kS (dN aY))] (fB [(dZ (sR 4 (dN aY)))] (.seq (jT (dN aY)) (sR 6 (dN aY))))))):=by kernel_rfl
variable {w:World} {ex:List Nat}
theorem CX {w':World} (h:dO w ex w') (hx:∀g∈ex,w'.heap[g]?=w.heap[g]?):dO w [] w':=⟨h.os,h.tape,h.output,h.size,fun g h1 _=>by by_cases hm:g∈ex; exact hx g hm; exact h.frame g h1 hm⟩
theorem adB {us:List (Option Value)} {ls:List gQ} {a:Act} (h:dP us [] ls a w) {n:Nat} {cs:List Value} {e:TypeId} (hc:w.heap[n]?=some (.cells ⟨cs⟩ e (0,0))) (hn:n∉ls.map (·.1)):dP us [(n,cs,e)] ls a w :=
 ⟨h.df,h.sz,h.fr,fun x hx=>by simp only [ag,ae,or_false] at hx; subst hx; exact hc,h.lo,by
  have:=h.nd
  simp only [ae9,dD] at this
  simp only [dI,ae9,dw,dD]
  exact List.nodup_cons.2 ⟨hn,this⟩⟩
theorem QN:∀(ps qs:List Int) (d i:Int) (k:Nat) (b:Int×Int),(nX ps qs d i)[k]?=some b→∃p q,ps[k]?=some p∧qs[k]?=some q∧b=(pM p q d i,pK p q d i)
 | [],_,_,_,k,b,h=>by simp [nX] at h
 | _::_,[],_,_,k,b,h=>by simp [nX] at h
 | p::ps,q::qs,d,i,k,b,h=>by
  unfold nX at h
  cases k with
  | zero=>simp at h; exact ⟨p,q,rfl,rfl,h.symm⟩
  | succ k=>simpa using QN ps qs d i k b (by simpa using h)
variable {js:List JV} {ps:List Int}
theorem EO (jb:∀(k:Nat) (j:JV),js[k]?=some j→-4194304≤j.lo∧j.hi≤4194304) (h:mi js ps):∀(k:Nat) (p:Int),ps[k]?=some p→-4194304≤p∧p≤4194304:=fun k p hp=>by
 have hk:=(ai.1 hp).1
 obtain ⟨j,hj⟩:∃j,js[k]?=some j:=⟨_,ah (by rw [h.1]; exact hk)⟩
 have h1:=h.2 k j p hj hp
 have h2:=jb k j hj
 omega
variable {qs:List Int} {d i:Int}
theorem aco (jb:∀(k:Nat) (j:JV),js[k]?=some j→-4194304≤j.lo∧j.hi≤4194304) (ip:mi js ps) (iq:mi js qs) (hd:0≤d∧d≤20) (hi:0≤i∧i<2^d.toNat):∀(k:Nat) (j:JV) (b:Int×Int),js[k]?=some j→(nX ps qs d i)[k]?=some b→(j.lo≤b.1∧b.1≤b.2∧b.2≤j.hi)∧-4194304≤j.lo∧j.hi≤4194304:=fun k j b hj hb=>by
 obtain ⟨p,q,hp,hq,rfl⟩:=QN _ _ _ _ _ _ hb
 have h1:=EO jb ip k p hp
 have h2:=EO jb iq k q hq
 have h3:=ip.2 k j p hj hp
 have h4:=iq.2 k j q hj hq
 obtain ⟨m1,m2,m3⟩:=acp h1 h2 hd hi
 refine ⟨⟨?_,m2,?_⟩,jb k j hj⟩
 ·simp only; omega
 ·simp only; omega
variable {B0 B1 Sp Sq:dY} {mvs:List MV}
theorem acF (h:jW w ex B0 B1 js mvs) (hP:Sp.2.1=ps.length) (hQ:Sq.2.1=qs.length) (sP:Sl w Sp.1 1 (fF ps)) (sQ:Sl w Sq.1 1 (fF qs)) (ip:mi js ps) (iq:mi js qs) :
  Calls aa 26 #[.agg ⟨[dJ B0,dJ B1]⟩,dJ Sp,dJ Sq] w fun e w'=>Below w.heap.size w w'∧∃W:dY,e=.returned (.tuple ⟨[dJ W,.bool true]⟩)∧W.2.1=(o6 js ps qs js.length).length∧Sl w' W.1 2 (rH (o6 js ps qs js.length)):=by
 obtain ⟨oa,n,c⟩:=B0
 obtain ⟨om,m,cm⟩:=B1
 obtain ⟨op,np,cp⟩:=Sp
 obtain ⟨oq,nq,cq⟩:=Sq
 have h1:=h.b0; have h2:=h.b1
 simp only at h1 h2 hP hQ
 subst h1 h2 hP hQ
 have hn:=h.n
 refine (acE oa om op oq c cm cp cq js mvs ps qs w (by omega) (by have:=h.m; omega) (by have:=ip.1; omega) (by have:=iq.1; omega) h.sB h.sM sP sQ).mono fun e w' hr=>?_
 obtain ⟨hb,hr⟩:=hr
 rcases hr with ⟨hno,_⟩ | ⟨_,oa',cap,rfl,hs⟩
 ·exact absurd ⟨⟨h.ok,ip⟩,h.ok,iq⟩ hno
 ·exact ⟨hb,(oa',_,cap),rfl,rfl,hs⟩
theorem Dc {t:Nat×Value}:∀{l:List (Nat×Value)},t∈l→(l.map (·.1)).Nodup→lookO t.1 l=some t.2
 | [],h,_=>by cases h
 | (j,x)::l,h,nd=>by
  have nd':=List.nodup_cons.1 (show (j::l.map (·.1)).Nodup from nd)
  unfold lookO
  rcases ag.1 h with r | r
  ·subst r; simp
  ·have hne:ay t.1 j=false:=by
    cases hb:ay t.1 j with
    | false=>rfl
    | true=>exact absurd (List.mem_map_of_mem (f:=(·.1)) r) (by rw [bf hb]; exact nd'.1)
   rw [hne]
   exact Dc r nd'.2
theorem WI (js:List JV) (Ps:List iF) (mvs:List MV) (f:Bool):(wG js Ps mvs f).1.length=mvs.length:=by
 have:∀(l:List MV) (acc:List MD×Bool),(l.foldl (yt js Ps) acc).1.length=acc.1.length+l.length:=by
  intro l
  induction l with
  | nil=>intro acc; simp
  | cons m l ih=>intro acc; simp only [List.foldl_cons,ih,dB,yt,afa,aeT]; omega
 simpa [wG] using this mvs ([],f)
theorem GX {x y z:Int} (h:jW w [] B0 B1 js mvs) (hm2:mvs.length≤2) (hP:Sp.2.1=ps.length) (hQ:Sq.2.1=qs.length) (sP:Sl w Sp.1 1 (fF ps)) (sQ:Sl w Sq.1 1 (fF qs)) (ip:mi js ps) (iq:mi js qs) (hd:0≤d∧d≤20) (hi:0≤i∧i<2^d.toNat)
  (hx:-16777216≤x∧x≤16777216) (hy:-16777216≤y∧y≤16777216) (hz:-16777216≤z∧z≤16777216) :
  Calls aa 20 #[.agg ⟨[dJ B0,dJ B1]⟩,.agg ⟨[num x,num y,num z]⟩,dJ Sp,dJ Sq,num d,num i] w (VB w js.length (xq js mvs ps qs d i x y z)):=by
 have hn:=h.n
 have hpl:=ip.1
 have hql:=iq.1
 have jb:∀(k:Nat) (j:JV),js[k]?=some j→-4194304≤j.lo∧j.hi≤4194304:=fun k j hk=>Pp (h.ok.2.1 k j hk)
 have hbox:=aco jb ip iq hd hi
 have hbl:(nX ps qs d i).length=js.length:=by rw [QO _ _ _ _ (by omega)]; omega
 have hin:MQ js (nX ps qs d i):=fun k j b hj hb=>by
  obtain ⟨⟨a1,a2,a3⟩,a4,a5⟩:=hbox k j b hj hb
  unfold ou qB fC
  simp only [decide_eq_true (show -2147483648≤b.1 by omega),decide_eq_true a2,decide_eq_true (show b.2≤2147483648 by omega),decide_eq_true (show -2147483648≤j.lo by omega),decide_eq_true (show j.lo≤j.hi by omega),decide_eq_true (show j.hi≤2147483648 by omega),decide_eq_true a1,decide_eq_true a3,cond_true]
 have hvd:∀b∈nX ps qs d i,fC b.1 b.2=true:=fun b hb=>by
  obtain ⟨k,hk⟩:=cZ hb
  have hkl:=(ai.1 hk).1
  obtain ⟨j,hj⟩:∃j,js[k]?=some j:=⟨_,ah (by omega)⟩
  obtain ⟨⟨a1,a2,a3⟩,a4,a5⟩:=hbox k j b hj hk
  unfold fC
  simp only [decide_eq_true (show -2147483648≤b.1 by omega),decide_eq_true a2,decide_eq_true (show b.2≤2147483648 by omega),cond_true]
 have bpq:∀x∈ps++qs,-2147483648≤x∧x≤2147483648:=fun x hx=>by
  rcases bH.1 hx with r | r<;>obtain ⟨k,hk⟩:=cZ r
  ·have:=EO jb ip k x hk; omega
  ·have:=EO jb iq k x hk; omega
 refine calls_of_wp Tryz.func20 (c:=(dN aY)) (by kernel_rfl) ?_
 rw [WQ]
 have s0:dP (dS 133 [(0,.agg ⟨[dJ B0,dJ B1]⟩),(1,.agg ⟨[num (x),num (y),num (z)]⟩),(2,dJ Sp),(3,dJ Sq),(4,num (d)),(5,num (i))]) [] [] { tmps:=#[.agg ⟨[dJ B0,dJ B1]⟩,.agg ⟨[num x,num y,num z]⟩,dJ Sp,dJ Sq,num d,num i]++dn (aY.ntmps - 6) undef,defers:=[] } w :=
  adD (n:=133) (m:=127) (xs:=[.agg ⟨[dJ B0,dJ B1]⟩,.agg ⟨[num x,num y,num z]⟩,dJ Sp,dJ Sq,num d,num i]) rfl (fun p hp=>by
   simp only [ag,ae,or_false] at hp
   rcases hp with rfl | rfl | rfl | rfl | rfl | rfl<;>rfl) (fun x hx=>by cases hx) (by simp)
 refine adY (w0:=w) (X:=(none,0,0)) (W:=(none,0,0)) (A:=(none,0,0)) (M:=(none,0,0)) (f:=false) (fun q hq=>by cases hq) (by simp) s0 (dO.refl w _) fun a1 w1 nr ng hn1 nd1 s1 k1=>?_
 have r1:lI w1 [] nr [dJ B0,dJ B1]:=Q3 (e:=35) s1 (by simp) (by simp) (by simp)
 have r2:lI w1 [] ng [num x,num y,num z]:=Q3 (e:=40) s1 (by simp) (by simp) (by simp)
 have s1':=dP.sub (l':=[(2,dJ Sp),(3,dJ Sq),(4,num (d)),(5,num (i)),(6,dK nr),(7,dK ng)]) (gs':=[]) (ls':=[]) s1 (fun x hx=>by
  simp only [ag,ae,or_false] at hx
  rcases hx with rfl | rfl | rfl | rfl | rfl | rfl<;>rfl) (fun x hx=>(by cases hx)) (fun x hx=>by cases hx) (by simp)
 refine wp_seq (yC (by kernel_rfl) (xN 4 ?_))
 refine adZ (w0:=w1) (X:=(none,0,0)) (W:=(none,0,0)) (A:=(none,0,0)) (M:=(none,0,0)) (f:=false) (nc:=0) (Sp:=Sp) (Sq:=Sq) (d:=d) (i:=i) r1 r2 (fun q hq=>by cases hq) (by simp) s1' (dO.refl w1 _) fun a2 w2 s2 k2=>?_
 have K2:dO w [] w2:=k1.trans k2
 have F2:=nQ K2
 refine Eh WY s2 rfl (acn (by omega) (by omega) (by omega) hP hQ (l8 sP F2 (kX _) fun a ha _=>by simp) (l8 sQ F2 (kX _) fun a ha _=>by simp) hd hi bpq) fun e w3 hp=>?_
 obtain ⟨hb3,gl,g1,g2,rfl,g4⟩:=hp
 have k3:=uo hb3
 refine ⟨_,rfl,?_⟩
 have s3:=yX (BF (BG s2 fun q hq=>k3.frame q (qE s2 q hq) (by simp)) 34 (kC true gl ps.length ps.length))
 have s3':=dP.sub (l':=[(2,dJ Sp),(3,dJ Sq),(4,num (d)),(5,num (i)),(6,dK nr),(7,dK ng),(34,.tuple ⟨[dJ (some ⟨gl,0,none⟩,ps.length,ps.length),.bool true]⟩)]) (gs':=[]) (ls':=[]) s3 (fun x hx=>by
  simp only [ag,ae,or_false] at hx
  rcases hx with rfl | rfl | rfl | rfl | rfl | rfl | rfl<;>rfl) (fun x hx=>(by cases hx)) (fun x hx=>by cases hx) (by simp)
 refine y9 (ad1 (w0:=w3) (X:=(some ⟨gl,0,none⟩,ps.length,ps.length)) (W:=(none,0,0)) (A:=(none,0,0)) (M:=(none,0,0)) (f:=false) (nc:=0) (Sp:=Sp) (Sq:=Sq) (d:=d) (i:=i) (r1.mv (k2.trans k3) (by simp)) (r2.mv (k2.trans k3) (by simp)) (fun q hq=>by cases hq) (by simp) s3' (dO.refl w3 _) fun a4 w4 s4 k4=>?_)
 have sX3:Sl w3 ((some ⟨gl,0,none⟩,ps.length,ps.length):dY).1 2 (jE (nX ps qs d i)):=WN g4
 refine wp_seq (yC (by kernel_rfl) (xN 3 ?_))
 refine ad2 (w0:=w4) (X:=(some ⟨gl,0,none⟩,ps.length,ps.length)) (W:=(none,0,0)) (A:=(none,0,0)) (M:=(none,0,0)) (f:=false) (nc:=0) (Sp:=Sp) (Sq:=Sq) (d:=d) (i:=i) (r1.mv ((k2.trans k3).trans k4) (by simp)) (r2.mv ((k2.trans k3).trans k4) (by simp)) (fun q hq=>by cases hq) (by simp) s4 (dO.refl w4 _) fun a5 w5 s5 k5=>?_
 have K5:dO w [] w5:=((K2.trans k3).trans k4).trans k5
 have F5:=nQ K5
 refine Eh WZ s5 rfl (acF (h.fz F5) hP hQ (l8 sP F5 (kX _) fun a ha _=>by simp) (l8 sQ F5 (kX _) fun a ha _=>by simp) ip iq) fun e w6 hr=>?_
 obtain ⟨hb6,W,rfl,hWl,sW6⟩:=hr
 have k6:=uo hb6
 refine ⟨_,rfl,?_⟩
 have s6:=yX (BF (BG s5 fun q hq=>k6.frame q (qE s5 q hq) (by simp)) 41 (.tuple ⟨[dJ W,.bool true]⟩))
 have s6':=dP.sub (l':=[(2,dJ Sp),(3,dJ Sq),(4,num (d)),(5,num (i)),(6,dK nr),(7,dK ng),(14,dJ (some ⟨gl,0,none⟩,ps.length,ps.length)),(15,.bool true),(41,.tuple ⟨[dJ W,.bool true]⟩)]) (gs':=[]) (ls':=[]) s6 (fun x hx=>by
  simp only [ag,ae,or_false] at hx
  rcases hx with rfl | rfl | rfl | rfl | rfl | rfl | rfl | rfl | rfl<;>rfl) (fun x hx=>(by cases hx)) (fun x hx=>by cases hx) (by simp)
 have k36:dO w3 [] w6:=(k4.trans k5).trans k6
 have k16:dO w1 [] w6:=(k2.trans k3).trans k36
 refine y9 (ad3 (w0:=w6) (X:=(some ⟨gl,0,none⟩,ps.length,ps.length)) (W:=W) (A:=(none,0,0)) (M:=(none,0,0)) (f:=false) (nc:=0) (Sp:=Sp) (Sq:=Sq) (d:=d) (i:=i) (r1.mv k16 (by simp)) (r2.mv k16 (by simp)) (fun q hq=>by cases hq) (by simp) s6' (dO.refl w6 _) fun a7 w7 s7 k7=>?_)
 have k37:=k36.trans k7
 have K7:dO w [] w7:=(K2.trans k3).trans k37
 have sX7:=kI sX3 k37 fun a ha=>by simp
 have hXl:((some ⟨gl,0,none⟩,ps.length,ps.length):dY).2.1=(nX ps qs d i).length:=by rw [hbl]; exact hpl.symm
 refine ad4 (w0:=w7) (X:=(some ⟨gl,0,none⟩,ps.length,ps.length)) (W:=W) (A:=(none,0,0)) (M:=(none,0,0)) (f:=false) (nc:=0) (Sp:=Sp) (Sq:=Sq) (d:=d) (i:=i) (fun z_ hz_=>?_) (r1.mv (k16.trans k7) (by simp)) (r2.mv (k16.trans k7) (by simp)) (fun q hq=>by cases hq) (by simp) s7 (dO.refl w7 _) fun a8 w8 s8 k8=>?_
 ·simp only [ag,ae,or_false] at hz_
  subst hz_
  intro w' hF
  have hF':iV (w7,[]) w':=hF
  refine ⟨[.agg ⟨[dJ B0,dJ B1]⟩,.agg ⟨[num x,num y,num z]⟩,dJ (some ⟨gl,0,none⟩,ps.length,ps.length)],by kernel_rfl,?_⟩
  exact (adH ((h.fz (nQ K7)).fz hF') hbl hXl (l8 sX7 hF' (MR _) fun a ha _=>by simp) (fun a ha=>by simp) hin hx hy hz).mono fun e w'' ⟨q1,q2⟩=>⟨q2,.bool true,rfl,q1⟩
 refine ad5 (w0:=w8) (X:=(some ⟨gl,0,none⟩,ps.length,ps.length)) (W:=W) (A:=(none,0,0)) (M:=(none,0,0)) (f:=false) (Sp:=Sp) (Sq:=Sq) (d:=d) (i:=i) (r1.mv ((k16.trans k7).trans k8) (by simp)) (r2.mv ((k16.trans k7).trans k8) (by simp)) (fun q hq=>by cases hq) (by simp) s8 (dO.refl w8 _) fun a9 w9 nc hn9 nd9 s9 k9=>?_
 have k19:dO w1 [] w9:=((k16.trans k7).trans k8).trans k9
 have K9:dO w [] w9:=k1.trans k19
 have hnc1:=(hn9 nc (by simp)).1
 have z1:=k1.size; have z19:=k19.size
 have z18:w1.heap.size≤w8.heap.size:=((k16.trans k7).trans k8).size
 have z68:w6.heap.size≤w8.heap.size:=(k7.trans k8).size
 have z38:w3.heap.size≤w8.heap.size:=(k37.trans k8).size
 have hr1:=(hn1 nr (by simp)).2; have hr2:=(hn1 ng (by simp)).2
 have dr1:nr∉[nc]:=by simp; omega
 have dr2:ng∉[nc]:=by simp; omega
 refine wp_seq (yC (by kernel_rfl) (xN 3 ?_))
 refine ad6 (w0:=w9) (X:=(some ⟨gl,0,none⟩,ps.length,ps.length)) (W:=W) (A:=(none,0,0)) (M:=(none,0,0)) (f:=false) (Sp:=Sp) (Sq:=Sq) (d:=d) (i:=i) (r1.mv k19 dr1) (r2.mv k19 dr2) (fun q hq=>.inl (by simpa using hq)) (by simp) s9 (dO.refl w9 _) fun a10 w10 s10 k10'=>?_
 have k10:dO w9 [] w10:=CX k10' fun g hg=>by
  simp only [ag,ae,or_false] at hg
  subst hg
  exact (s10.gl _ aA).trans (s9.gl _ aA).symm
 have K10:dO w [] w10:=K9.trans k10
 have k3_10:dO w3 [] w10:=((k37.trans k8).trans k9).trans k10
 have hRb:jW w10 [nc] B0 B1 js mvs:=(h.fz (nQ K10)).Z8 (fun a ha=>by have:=(h.xB a ha).2; omega) (fun a ha h0=>by have:=(h.xM a ha h0).2; omega)
 refine Eh WW s10 rfl (Z7 (X:=(some ⟨gl,0,none⟩,ps.length,ps.length)) hRb hbl hXl (kI sX3 k3_10 fun a ha=>by simp) (fun a ha=>by injection ha with ha; subst ha; simp; omega) hvd (s10.gl _ aA)) fun e w11 hB=>?_
 obtain ⟨A,M,mbs,rfl,k11,hfl,hAl,sA,xA,hMl,sM,xM,hmd,hmb⟩:=hB
 refine ⟨_,rfl,?_⟩
 have s10':=dP.sub (gs':=[]) (ls':=[]) s10 (fun x hx=>Dc hx (by simp)) (fun x hx=>by cases hx) (fun x hx=>hx) (by simp)
 have s11:=adB (yX (BF (BG s10' fun q hq=>by cases hq) 62 (sU nc B0 B1 A M))) hfl (by simp)
 have s11':=dP.sub (l':=[(6,dK nr),(7,dK ng),(16,dJ W),(18,dK nc),(62,.agg ⟨[dK nc,dJ B0,dJ B1,dJ A,dJ M]⟩)]) (gs':=[(nc,[.bool (wG js (jH [] js (nX ps qs d i)) mvs false).2],88)]) (ls':=[]) s11 (fun x hx=>by
  simp only [ag,ae,or_false] at hx
  rcases hx with rfl | rfl | rfl | rfl | rfl<;>rfl) (fun x hx=>hx) (fun x hx=>by cases hx) (by simp)
 have k1_10:dO w1 [] w10:=k19.trans k10
 refine y9 (ad7 (w0:=w11) (X:=(none,0,0)) (W:=W) (A:=A) (M:=M) (d:=d) (i:=i) (Sp:=Sp) (Sq:=Sq) (f:=(wG js (jH [] js (nX ps qs d i)) mvs false).2) ((r1.mv k1_10 dr1).mv k11 dr1) ((r2.mv k1_10 dr2).mv k11 dr2) (fun q hq=>.inl (by simpa using hq)) (by simp) s11' (dO.refl w11 _) fun a12 w12 nb hn12 nd12 s12 k12'=>?_)
 have k12:dO w11 [] w12:=CX k12' fun g hg=>by
  simp only [ag,ae,or_false] at hg
  subst hg
  exact (s12.gl _ aA).trans hfl.symm
 have k10_12:dO w10 [nc] w12:=k11.comp k12 fun g hg=>by cases hg
 have z10:=k10.size; have z11:=k11.size; have z12:=k12.size
 have hnb:=(hn12 nb (by simp)).1
 have hnc2:nc<w10.heap.size:=(aB.1 (s10.gl _ aA)).1
 have hlen:mbs.length=mvs.length:=by
  have e1:=congrArg ae1 hmd
  rw [dF] at e1
  rw [e1]
  exact WI js _ mvs false
 have aW:∀a,W.1=some a→a.block≠nc:=fun a ha e=>by
  obtain ⟨b,off,e1,hR⟩:=sW6 (fun e=>by have h0:=congrArg ae1 e; rw [show (rH (o6 js ps qs js.length)).length=js.length by simp [rH,o6]] at h0; simp only [aeT] at h0; omega)
  rw [ha] at e1; injection e1 with e1; subst e1
  have:=hR.lt
  simp only at e
  omega
 have hS:sI w12 nc W B0 A (o6 js ps qs js.length) (nu js (jH [] js (nX ps qs d i))) js :=
  {
   wl:=hWl,b3:=h.b0,b5:=by rw [hAl]; simp [nu,EY [] js _ hbl],l1:=by simp [o6],l2:=by simp [nu,EY [] js _ hbl]
   BC:=kI (kI sW6 (((k7.trans k8).trans k9).trans k10) fun a ha=>by simp) k10_12 fun a ha=>by simpa using aW a ha
   mH:=kI (h.fz (nQ K10)).sB k10_12 fun a ha=>(hRb.xB a ha).1
   GK:=kI sA k12 fun a ha=>by simp
   aW:=aW,aK:=fun a ha=>by simpa using (hRb.xB a ha).1,aX:=xA }
 have hBo:kr w12 nc js.length B0 M mbs :=
  {
   n1:=hn,b0:=h.b0,b3:=hMl,m2:=by omega,rows:=kI sM k12 fun a ha=>by simp,aM:=xM
   ok:=fun i m hm=>{ (hmb i m hm).1 with qU:=kI (hmb i m hm).1.qU k12 fun a ha=>by simp,dJ:=kI (hmb i m hm).1.dJ k12 fun a ha=>by simp } }
 have hws:jR w12 [nc] (mY nr ng nb nc x y z B0 B1 A M):=fun q hq=>by
  simp only [mY,ag,ae,or_false] at hq
  rcases hq with rfl | rfl | rfl
  ·exact ((r1.mv k1_10 dr1).mv k11 dr1).mv k12' dr1
  ·exact ((r2.mv k1_10 dr2).mv k11 dr2).mv k12' dr2
  ·exact ⟨⟨(hn12 nb (by simp)).2,by simp; omega⟩,M0 (s12.gl _ (aT _ aA)) (aO _)⟩
 have s13:=dP.sub (l':=[(6,dK nr),(7,dK ng),(16,dJ W),(18,dK nc),(19,dK nb)]) (gs':=[(nc,[.bool (wG js (jH [] js (nX ps qs d i)) mvs false).2],88)]) (ls':=[]) s12 (fun x hx=>by
  simp only [ag,ae,or_false] at hx
  rcases hx with rfl | rfl | rfl | rfl | rfl<;>rfl) (fun x hx=>(by simp only [ag,ae,or_false] at hx; subst hx; exact aA)) (fun x hx=>by cases hx) (by simp)
 refine wp_mono (aeh hS hBo rfl (fun m hm=>by obtain ⟨k,hk⟩:=cZ hm; exact (hmb k m hk).2) hws s13 (dO.refl w12 _)) (acv fun e w' hT=>?_)
 obtain ⟨t1,t2,t3⟩:=hT
 have Kf:dO w [] w':=((K10.comp k10_12 fun g hg=>by simp at hg; subst hg; right; omega).comp t1 fun g hg=>by simp at hg; subst hg; right; omega)
 rw [aef,UN,UO,Q5,hmd] at *
 exact ⟨xG Kf,t2,fun hF=>by obtain ⟨gl',q1,q2⟩:=t3 hF; exact ⟨gl',by have:=(K10.size); omega,q2⟩⟩
end Go.Proofs
end
section
namespace Go.Proofs
open Go.Sm Go.RowKit En
theorem PT (a b:Int):iA a b 0 0=0∧iB a b 0 0=0:=by
 constructor
 ·unfold iA
  cases wT a b 0 0 with
  | false=>rfl
  | true=>simp only [mulL,Int.mul_zero,cond_true]; rfl
 ·unfold iB
  cases wT a b 0 0 with
  | false=>rfl
  | true=>simp only [wS,Int.mul_zero,cond_true]; rfl
theorem MC:mq 0 0 0 0=0∧mD 0 0 0 0=0:=⟨by decide,by decide⟩
theorem Yf:gV 0 0 0=V6.z:=by unfold gV; rfl
theorem Xw (v:V6):fQ v V6.z=(0,0):=by
 unfold fQ Mf Mg V6.z
 simp only [(PT _ _).1,(PT _ _).2,MC.1,MC.2]
theorem aeb (n:Int):jY (0,0) n=(0,0):=by
 unfold jY DD DC
 cases ma 0 0 n<;>simp [IntKind.wrap]<;>decide
theorem VE:qH (0,0) (0,0)=(0,0):=by decide
theorem Pe {α:Type} (n k:Nat) (x:α):(az n x).getD k x=x:=by
 simp only [List.getD,List.getElem?_replicate]
 split<;>rfl
theorem adp {α:Type} (n k:Nat) (x:α):(az n x).set k x=az n x:=by
 apply List.ext_getElem?
 intro i
 rw [List.getElem?_set]
 simp only [List.length_replicate,List.getElem?_replicate]
 by_cases h:k=i
 ·subst h; by_cases h2:k<n<;>simp [h2]
 ·simp [h]
theorem adz (n:Nat) (f:Bool) (j:Nat) (v:V6) (m:Int):(vg (az n (0,0)) f j v .z m).1=az n (0,0):=by
 unfold vg
 simp only [Pe,Xw,aeb,VE,adp]
theorem PQ (n:Nat) (m:MB) (st:List (Int×Int)×Bool) (h:st.1=az n (0,0)):∀i,(jI m .z st i).1=az n (0,0)
 | 0=>h
 | i+1=>by
  unfold jI
  rw [PQ n m st h i]
  exact adz n _ _ _ _
theorem O3 (n:Nat) (ms:List MB) (k0:Nat) (st:List (Int×Int)×Bool) (h:st.1=az n (0,0)):∀k,(gm ms (az k0 .z) st k).1=az n (0,0)
 | 0=>h
 | k+1=>by
  unfold gm
  rw [Pe]
  exact PQ n _ _ (O3 n ms k0 st h k) _
theorem neg_zero:iP (0,0)=(0,0):=by decide
theorem acV (ms:List MB) (n:Nat):(iU ms n 0 0 0).1.map iP=az n (0,0):=by
 unfold iU
 rw [Yf,O3 n ms _ _ rfl,List.map_replicate,neg_zero]
theorem L8 (js:List JV) (ps qs:List Int) (d i x y z:Int):xq js [] ps qs d i x y z=⟨false,az js.length (0,0),az js.length (0,0),az js.length (0,0)⟩:=by
 unfold xq
 simp only [wG,List.foldl_nil,ae9]
 have:∀n,iU [] n x y z=(az n (0,0),false):=fun n=>rfl
 simp only [BM,BN,this,List.map_replicate,neg_zero]
 rfl
theorem aee (js:List JV) (mvs:List MV) (ps qs:List Int) (d i:Int):(xq js mvs ps qs d i 0 0 0).gs=az js.length (0,0):=by
 unfold xq
 exact acV _ _
end Go.Proofs
end
