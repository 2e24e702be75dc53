/-
  Part of the proof: see the last text.
-/
import Derived.Test.YthbfmjlcnfgnbaaGreatZWj
set_option linter.unusedVariables false
set_option maxHeartbeats 8000000
open List renaming getD_cons_succ→bZ,getD_cons_zero→bN,mem_cons→ag,not_mem_nil→ae,range→dh,replicate→az
open Prod.mk renaming injEq→aP
open Go.Proofs.Tryz renaming f20→aY,prog→aa
section
namespace Go.Proofs
open Go.Sm Go.RowKit En
def xu:List (Int×Int)→List (Int×Int)→List (Int×Int)→List Value
 | u::us,x::xs,g::gs=>num u.1::num u.2::num x.1::num x.2::num g.1::num g.2::xu us xs gs
 | _,_,_=>[]
variable {w0 w:World} {nc:Nat} {a:Act} {RR:Ending→World→Prop}
theorem LV (h:dP (dS 133 [(18,dK nc)]) [(nc,[.bool true],88)] [] a w) (hk:dO w0 [nc] w)
  (hQ:∀a' w',dP (dS 133 []) [(nc,[.bool true],88)] [] a' w'→dO w0 [nc] w'→RR (.returned (.tuple ⟨[.slice none 0 0,.bool false]⟩)) w'):(sR 9 (dN aY)).wp aa (bodyPost aa aY RR) a w :=
 qQ [] [] [] (g:=[]) (wt:=[]) (lt:=[]) (sb:=[]) (T:=[]) (K:=[]) (RT:=[]) (wb:=[]) (ws:=[]) (fr:=fK 133 [(18,.pointer (some ⟨0,0,none⟩))]) (H:=[dQ [.bool true] 88]) (lo:=[]) (u:=.tuple ⟨[.slice none 0 0,.bool false]⟩) 20 [0] [] (by kernel_rfl) (by kernel_rfl) (by simp) ⟨ed _,gG,gD,fT,il _ _,fw (by simp),gH,fun _=>iI⟩ h hk hQ
variable {nr ng nb:Nat} {B1 B2 B3 B4 F S:dY} {x y z:Int} {u0 v0 k0:Int×Int} {b1 b2 b3 f:Bool} {us vs:List V6} {Q:Exit→Act→World→Prop} {D:Code}
theorem adS {ms:List MB} (hb:kr w0 nc 1 B1 B4 ms)
  (hF:F.2.1=us.length) (hS:S.2.1=vs.length) (lF:us.length=ms.length) (lS:vs.length=ms.length) (sF:Sl w0 F.1 7 (us.map (V6.cs nc))) (sS:Sl w0 S.1 7 (vs.map (V6.cs nc))) (aF:∀a,F.1=some a→a.block≠nc) (aS:∀a,S.1=some a→a.block≠nc)
  (h1:gm ms us (az 1 (0,0),false) ms.length=([u0],b1)) (h2:gm ms vs (az 1 (0,0),false) ms.length=([v0],b2)) (h3:((iU ms 1 x y z).1.map iP,(iU ms 1 x y z).2)=([k0],b3))
  (hw:jR w0 [nc] (mY nr ng nb nc x y z B1 B2 B3 B4)) (h:dP (dS 133 [(6,dK nr),(7,dK ng),(18,dK nc),(19,dK nb),(20,dJ F),(21,dJ S)]) [(nc,[.bool f],88)] [] a w) (hk:dO w0 [nc] w)
  (hQ:∀a' w' g1 g2 g3,(∀g∈[g1,g2,g3],w.heap.size≤g)→[nc,g1,g2,g3].Nodup→dP (dS 133 [(6,dK nr),(18,dK nc),(24,.slice (some ⟨g1,0,none⟩) 1 1),(25,.slice (some ⟨g2,0,none⟩) 1 1),(26,.slice (some ⟨g3,0,none⟩) 1 1)]) [(nc,[.bool (((f||b1)||b2)||b3)],88),(g1,(eP [u0]).map num,23),(g2,(eP [v0]).map num,23),(g3,(eP [k0]).map num,23)] [] a' w'→dO w0 [nc] w'→D.wp aa Q a' w'):(fB [dZ (sR 8 (dN aY))] D).wp aa Q a w:=by
 refine jZ ([x,y,z]++eP [u0]++eP [v0]++eP [k0]) [f,b1,b2,b3] [(none,0,0),B1,B2,B3,B4,F,S] (g:=[]) (wt:=[]) (lt:=[]) (sb:=[]) (T:=[]) (K:=[]) (RT:=[⟨44,[.agg ⟨pF⟩,dM 5],1,1,mB 1 [.int .i64 1],dQ ((dh 2).map fun q=>var (3+q)) 23⟩,⟨44,[.agg ⟨pF⟩,dM 6],1,1,mB 1 [.int .i64 2],dQ ((dh 2).map fun q=>var (5+q)) 23⟩,⟨45,[.agg ⟨pF⟩,.agg ⟨[var 0,var 1,var 2]⟩],1,1,mB 1 [.int .i64 3],dQ ((dh 2).map fun q=>var (7+q)) 23⟩]) (wb:=[dU [dM 1,dM 2],dU [var 0,var 1,var 2],dU pF]) (ws:=mY nr ng nb nc x y z B1 B2 B3 B4) (fr:=fK 133 [(6,.pointer (some ⟨0,0,some 0⟩)),(7,.pointer (some ⟨1,0,some 0⟩)),(18,.pointer (some ⟨0,0,none⟩)),(19,.pointer (some ⟨2,0,some 0⟩)),(20,dM 5),(21,dM 6)]) (H:=oC) (lo:=[]) (us':=fun gn _=>dS 133 [(6,dK nr),(18,dK nc),(24,.slice (some ⟨gn.getD 0 0,0,none⟩) 1 1),(25,.slice (some ⟨gn.getD 1 0,0,none⟩) 1 1),(26,.slice (some ⟨gn.getD 2 0,0,none⟩) 1 1)]) (gs':=fun gn _=>[(nc,[.bool (((f||b1)||b2)||b3)],88),(gn.getD 0 0,(eP [u0]).map num,23),(gn.getD 1 0,(eP [v0]).map num,23),(gn.getD 2 0,(eP [k0]).map num,23)]) (ls':=fun _ _=>[]) 20 _ [0,1,2,3] [] [24,25,26] [] (fun gn nl e1 e2=>?_) (by kernel_rfl) (fun gn nl e1 e2 e3=>?_) ⟨ed _,gG,gD,?_,hw,fw (by simp),gH,fun _=>iI⟩ h hk (fun a' w' gn nl e1 e2 e3 e4 hs hk'=>?_)
 ·match gn,nl,e1,e2 with
  | [g1,g2,g3],[],_,_=>show (_:Option _)=_; kernel_rfl
 ·match gn,nl,e1,e2 with
  | [g1,g2,g3],[],_,_=>simpa using e3
 ·intro t ht
  simp only [ag,ae,or_false] at ht
  rcases ht with rfl | rfl | rfl
  ·intro nc' c w hf0 hFz hfl
   have hnc:nc'=nc:=hf0 nc rfl
   subst hnc
   refine ⟨[sU nc' B1 B2 B3 B4,dJ F],(eP [u0]).map num,b1,by kernel_rfl,by kernel_rfl,by kernel_rfl,?_⟩
   have hb':=hb.move (mO hFz)
   have:=zu nc' 1 c B1 B2 B3 B4 F w ms us hb'.n1 hb'.b0 hb'.b3 hF lF (by have:=hb.m2; omega) hfl hb'.rows hb'.aM (uB (mO hFz) (y7 _ _) aF sF) aF hb'.ok
   refine this.mono fun r w' hr=>?_
   rw [yg,h1] at hr
   exact hr
  ·intro nc' c w hf0 hFz hfl
   have hnc:nc'=nc:=hf0 nc rfl
   subst hnc
   refine ⟨[sU nc' B1 B2 B3 B4,dJ S],(eP [v0]).map num,b2,by kernel_rfl,by kernel_rfl,by kernel_rfl,?_⟩
   have hb':=hb.move (mO hFz)
   have:=zu nc' 1 c B1 B2 B3 B4 S w ms vs hb'.n1 hb'.b0 hb'.b3 hS lS (by have:=hb.m2; omega) hfl hb'.rows hb'.aM (uB (mO hFz) (y7 _ _) aS sS) aS hb'.ok
   refine this.mono fun r w' hr=>?_
   rw [yg,h2] at hr
   exact hr
  ·intro nc' c w hf0 hFz hfl
   have hnc:nc'=nc:=hf0 nc rfl
   subst hnc
   refine ⟨[sU nc' B1 B2 B3 B4,.agg ⟨[num x,num y,num z]⟩],(eP [k0]).map num,b3,by kernel_rfl,by kernel_rfl,by kernel_rfl,?_⟩
   have:=KY (B1:=B2) (B2:=B3) (f:=c) (x:=x) (y:=y) (z:=z) (hb.move (mO hFz)) hfl
   simp only [aP] at h3
   rw [h3.1,h3.2] at this
   exact this
 ·match gn,nl,e1,e2 with
  | [g1,g2,g3],[],_,_ =>
   simp only [bN,bZ] at hs
   exact hQ a' w' g1 g2 g3 (fun g hg=>(e4 g (by simpa using hg)).1) (by simpa using e3) hs hk'
variable {g1 g2 g3:Nat}
theorem adM (hB:B1.2.1=1) (hown:∀g∈[nc,g1,g2,g3]++[],g∈[nc]∨w0.heap.size≤g)
  (hw:jR w0 [nc] [(nr,0,[dJ B1,dJ B2])]) (h:dP (dS 133 [(6,dK nr),(18,dK nc),(24,.slice (some ⟨g1,0,none⟩) 1 1),(25,.slice (some ⟨g2,0,none⟩) 1 1),(26,.slice (some ⟨g3,0,none⟩) 1 1)]) [(nc,[.bool false],88),(g1,(eP [u0]).map num,23),(g2,(eP [v0]).map num,23),(g3,(eP [k0]).map num,23)] [] a w) (hk:dO w0 [nc] w)
  (hQ:∀a' w' g4,w.heap.size≤g4→[nc,g1,g2,g3,g4].Nodup→dP (dS 133 [(24,.slice (some ⟨g1,0,none⟩) 1 1),(25,.slice (some ⟨g2,0,none⟩) 1 1),(26,.slice (some ⟨g3,0,none⟩) 1 1),(27,.slice (some ⟨g4,0,none⟩) 1 1)]) [(nc,[.bool false],88),(g1,(eP [u0]).map num,23),(g2,(eP [v0]).map num,23),(g3,(eP [k0]).map num,23),(g4,[.int .i64 0,.int .i64 0,.int .i64 0,.int .i64 0,.int .i64 0,.int .i64 0],47)] [] a' w'→dO w0 [nc] w'→D.wp aa Q a' w'):(fB [dZ (sR 9 (dN aY)),dZ (sR 10 (dN aY))] D).wp aa Q a w:=by
 refine jZ ([0,0,0]++eP [u0]++eP [v0]++eP [k0]) [] [(none,0,0),B1,B2] (g:=[]) (wt:=[]) (lt:=[(1,.int .i64 1)]) (sb:=[]) (T:=[]) (K:=[]) (RT:=[]) (wb:=[dU [dM 1,dM 2]]) (ws:=[(nr,0,[dJ B1,dJ B2])]) (fr:=fK 133 [(6,.pointer (some ⟨0,0,some 0⟩)),(24,.slice (some ⟨1,0,none⟩) 1 1),(25,.slice (some ⟨2,0,none⟩) 1 1),(26,.slice (some ⟨3,0,none⟩) 1 1),(18,.pointer (some ⟨0,0,none⟩))]) (H:=[dQ [.bool false] 88,dQ ((dh 2).map fun q=>var (3+q)) 23,dQ ((dh 2).map fun q=>var (5+q)) 23,dQ ((dh 2).map fun q=>var (7+q)) 23]) (lo:=[]) (us':=fun gn _=>dS 133 [(24,.slice (some ⟨g1,0,none⟩) 1 1),(25,.slice (some ⟨g2,0,none⟩) 1 1),(26,.slice (some ⟨g3,0,none⟩) 1 1),(27,.slice (some ⟨gn.getD 0 0,0,none⟩) 1 1)]) (gs':=fun gn _=>[(nc,[.bool false],88),(g1,(eP [u0]).map num,23),(g2,(eP [v0]).map num,23),(g3,(eP [k0]).map num,23),(gn.getD 0 0,[.int .i64 0,.int .i64 0,.int .i64 0,.int .i64 0,.int .i64 0,.int .i64 0],47)]) (ls':=fun _ _=>[]) 20 _ [0,1,2,3,4] [] [27] [] (fun gn nl e1 e2=>?_) (by kernel_rfl) (fun gn nl e1 e2 e3=>?_) ⟨ed _,gG,gD,fT,hw,fw (by exact hown),gH,fun _=>?_⟩ h hk (fun a' w' gn nl e1 e2 e3 e4 hs hk'=>?_)
 ·match gn,nl,e1,e2 with
  | [g4],[],_,_=>show (_:Option _)=_; kernel_rfl
 ·match gn,nl,e1,e2 with
  | [g4],[],_,_=>simpa using e3
 ·refine ⟨(fun e he=>by cases he),fun e he=>?_,fun e he=>by cases he⟩
  simp only [fG,ag,ae,or_false] at he
  subst he
  exact ⟨2,by show some (num 1)=some (.int .i64 (B1.2.1:Nat)); rw [hB]; rfl⟩
 ·match gn,nl,e1,e2 with
  | [g4],[],_,_ =>
   simp only [bN] at hs
   exact hQ a' w' g4 (e4 g4 (by simp)).1 (by simpa using e3) hs hk'
variable {g4:Nat}
theorem adV (hown:∀g∈[nc,g1,g2,g3,g4]++[],g∈[nc]∨w0.heap.size≤g) (hnd:[nc,g1,g2,g3,g4].Nodup)
  (h:dP (dS 133 [(24,.slice (some ⟨g1,0,none⟩) 1 1),(25,.slice (some ⟨g2,0,none⟩) 1 1),(26,.slice (some ⟨g3,0,none⟩) 1 1),(27,.slice (some ⟨g4,0,none⟩) 1 1)]) [(nc,[.bool false],88),(g1,(eP [u0]).map num,23),(g2,(eP [v0]).map num,23),(g3,(eP [k0]).map num,23),(g4,[.int .i64 0,.int .i64 0,.int .i64 0,.int .i64 0,.int .i64 0,.int .i64 0],47)] [] a w) (hk:dO w0 [nc] w)
  (hQ:∀a' w',dP (dS 133 []) [(nc,[.bool false],88),(g4,xu [u0] [v0] [k0],47)] [] a' w'→dO w0 [nc] w'→RR (.returned (.tuple ⟨[.slice (some ⟨g4,0,none⟩) 1 1,.bool true]⟩)) w'):(sR 11 (dN aY)).wp aa (bodyPost aa aY RR) a w :=
 qQ ([0,0,0]++eP [u0]++eP [v0]++eP [k0]) [] [] (g:=[]) (wt:=[]) (lt:=[]) (sb:=[]) (T:=[]) (K:=[]) (RT:=[]) (wb:=[]) (ws:=[]) (fr:=fK 133 [(24,.slice (some ⟨1,0,none⟩) 1 1),(25,.slice (some ⟨2,0,none⟩) 1 1),(26,.slice (some ⟨3,0,none⟩) 1 1),(27,.slice (some ⟨4,0,none⟩) 1 1)]) (H:=[dQ [.bool false] 88,dQ ((dh 2).map fun q=>var (3+q)) 23,dQ ((dh 2).map fun q=>var (5+q)) 23,dQ ((dh 2).map fun q=>var (7+q)) 23]++[dQ [.int .i64 0,.int .i64 0,.int .i64 0,.int .i64 0,.int .i64 0,.int .i64 0] 47]) (lo:=[]) (u:=.tuple ⟨[.slice (some ⟨g4,0,none⟩) 1 1,.bool true]⟩) 20 [0,4] [] (by kernel_rfl) (by kernel_rfl) (by simp at hnd ⊢; omega) ⟨ed _,gG,gD,fT,il _ _,fw (by exact hown),gH,fun _=>iI⟩ h hk hQ
variable {u1 v1 k1:Int×Int}
theorem adT {ms:List MB} (hb:kr w0 nc 2 B1 B4 ms)
  (hF:F.2.1=us.length) (hS:S.2.1=vs.length) (lF:us.length=ms.length) (lS:vs.length=ms.length) (sF:Sl w0 F.1 7 (us.map (V6.cs nc))) (sS:Sl w0 S.1 7 (vs.map (V6.cs nc))) (aF:∀a,F.1=some a→a.block≠nc) (aS:∀a,S.1=some a→a.block≠nc)
  (h1:gm ms us (az 2 (0,0),false) ms.length=([u0,u1],b1)) (h2:gm ms vs (az 2 (0,0),false) ms.length=([v0,v1],b2)) (h3:((iU ms 2 x y z).1.map iP,(iU ms 2 x y z).2)=([k0,k1],b3))
  (hw:jR w0 [nc] (mY nr ng nb nc x y z B1 B2 B3 B4)) (h:dP (dS 133 [(6,dK nr),(7,dK ng),(18,dK nc),(19,dK nb),(20,dJ F),(21,dJ S)]) [(nc,[.bool f],88)] [] a w) (hk:dO w0 [nc] w)
  (hQ:∀a' w' g1 g2 g3,(∀g∈[g1,g2,g3],w.heap.size≤g)→[nc,g1,g2,g3].Nodup→dP (dS 133 [(6,dK nr),(18,dK nc),(24,.slice (some ⟨g1,0,none⟩) 2 2),(25,.slice (some ⟨g2,0,none⟩) 2 2),(26,.slice (some ⟨g3,0,none⟩) 2 2)]) [(nc,[.bool (((f||b1)||b2)||b3)],88),(g1,(eP [u0,u1]).map num,23),(g2,(eP [v0,v1]).map num,23),(g3,(eP [k0,k1]).map num,23)] [] a' w'→dO w0 [nc] w'→D.wp aa Q a' w'):(fB [dZ (sR 8 (dN aY))] D).wp aa Q a w:=by
 refine jZ ([x,y,z]++eP [u0,u1]++eP [v0,v1]++eP [k0,k1]) [f,b1,b2,b3] [(none,0,0),B1,B2,B3,B4,F,S] (g:=[]) (wt:=[]) (lt:=[]) (sb:=[]) (T:=[]) (K:=[]) (RT:=[⟨44,[.agg ⟨pF⟩,dM 5],2,2,mB 1 [.int .i64 1],dQ ((dh 4).map fun q=>var (3+q)) 23⟩,⟨44,[.agg ⟨pF⟩,dM 6],2,2,mB 1 [.int .i64 2],dQ ((dh 4).map fun q=>var (7+q)) 23⟩,⟨45,[.agg ⟨pF⟩,.agg ⟨[var 0,var 1,var 2]⟩],2,2,mB 1 [.int .i64 3],dQ ((dh 4).map fun q=>var (11+q)) 23⟩]) (wb:=[dU [dM 1,dM 2],dU [var 0,var 1,var 2],dU pF]) (ws:=mY nr ng nb nc x y z B1 B2 B3 B4) (fr:=fK 133 [(6,.pointer (some ⟨0,0,some 0⟩)),(7,.pointer (some ⟨1,0,some 0⟩)),(18,.pointer (some ⟨0,0,none⟩)),(19,.pointer (some ⟨2,0,some 0⟩)),(20,dM 5),(21,dM 6)]) (H:=oC) (lo:=[]) (us':=fun gn _=>dS 133 [(6,dK nr),(18,dK nc),(24,.slice (some ⟨gn.getD 0 0,0,none⟩) 2 2),(25,.slice (some ⟨gn.getD 1 0,0,none⟩) 2 2),(26,.slice (some ⟨gn.getD 2 0,0,none⟩) 2 2)]) (gs':=fun gn _=>[(nc,[.bool (((f||b1)||b2)||b3)],88),(gn.getD 0 0,(eP [u0,u1]).map num,23),(gn.getD 1 0,(eP [v0,v1]).map num,23),(gn.getD 2 0,(eP [k0,k1]).map num,23)]) (ls':=fun _ _=>[]) 20 _ [0,1,2,3] [] [24,25,26] [] (fun gn nl e1 e2=>?_) (by kernel_rfl) (fun gn nl e1 e2 e3=>?_) ⟨ed _,gG,gD,?_,hw,fw (by simp),gH,fun _=>iI⟩ h hk (fun a' w' gn nl e1 e2 e3 e4 hs hk'=>?_)
 ·match gn,nl,e1,e2 with
  | [g1,g2,g3],[],_,_=>show (_:Option _)=_; kernel_rfl
 ·match gn,nl,e1,e2 with
  | [g1,g2,g3],[],_,_=>simpa using e3
 ·intro t ht
  simp only [ag,ae,or_false] at ht
  rcases ht with rfl | rfl | rfl
  ·intro nc' c w hf0 hFz hfl
   have hnc:nc'=nc:=hf0 nc rfl
   subst hnc
   refine ⟨[sU nc' B1 B2 B3 B4,dJ F],(eP [u0,u1]).map num,b1,by kernel_rfl,by kernel_rfl,by kernel_rfl,?_⟩
   have hb':=hb.move (mO hFz)
   have:=zu nc' 2 c B1 B2 B3 B4 F w ms us hb'.n1 hb'.b0 hb'.b3 hF lF (by have:=hb.m2; omega) hfl hb'.rows hb'.aM (uB (mO hFz) (y7 _ _) aF sF) aF hb'.ok
   refine this.mono fun r w' hr=>?_
   rw [yg,h1] at hr
   exact hr
  ·intro nc' c w hf0 hFz hfl
   have hnc:nc'=nc:=hf0 nc rfl
   subst hnc
   refine ⟨[sU nc' B1 B2 B3 B4,dJ S],(eP [v0,v1]).map num,b2,by kernel_rfl,by kernel_rfl,by kernel_rfl,?_⟩
   have hb':=hb.move (mO hFz)
   have:=zu nc' 2 c B1 B2 B3 B4 S w ms vs hb'.n1 hb'.b0 hb'.b3 hS lS (by have:=hb.m2; omega) hfl hb'.rows hb'.aM (uB (mO hFz) (y7 _ _) aS sS) aS hb'.ok
   refine this.mono fun r w' hr=>?_
   rw [yg,h2] at hr
   exact hr
  ·intro nc' c w hf0 hFz hfl
   have hnc:nc'=nc:=hf0 nc rfl
   subst hnc
   refine ⟨[sU nc' B1 B2 B3 B4,.agg ⟨[num x,num y,num z]⟩],(eP [k0,k1]).map num,b3,by kernel_rfl,by kernel_rfl,by kernel_rfl,?_⟩
   have:=KY (B1:=B2) (B2:=B3) (f:=c) (x:=x) (y:=y) (z:=z) (hb.move (mO hFz)) hfl
   simp only [aP] at h3
   rw [h3.1,h3.2] at this
   exact this
 ·match gn,nl,e1,e2 with
  | [g1,g2,g3],[],_,_ =>
   simp only [bN,bZ] at hs
   exact hQ a' w' g1 g2 g3 (fun g hg=>(e4 g (by simpa using hg)).1) (by simpa using e3) hs hk'
theorem adN (hB:B1.2.1=2) (hown:∀g∈[nc,g1,g2,g3]++[],g∈[nc]∨w0.heap.size≤g)
  (hw:jR w0 [nc] [(nr,0,[dJ B1,dJ B2])]) (h:dP (dS 133 [(6,dK nr),(18,dK nc),(24,.slice (some ⟨g1,0,none⟩) 2 2),(25,.slice (some ⟨g2,0,none⟩) 2 2),(26,.slice (some ⟨g3,0,none⟩) 2 2)]) [(nc,[.bool false],88),(g1,(eP [u0,u1]).map num,23),(g2,(eP [v0,v1]).map num,23),(g3,(eP [k0,k1]).map num,23)] [] a w) (hk:dO w0 [nc] w)
  (hQ:∀a' w' g4,w.heap.size≤g4→[nc,g1,g2,g3,g4].Nodup→dP (dS 133 [(24,.slice (some ⟨g1,0,none⟩) 2 2),(25,.slice (some ⟨g2,0,none⟩) 2 2),(26,.slice (some ⟨g3,0,none⟩) 2 2),(27,.slice (some ⟨g4,0,none⟩) 2 2)]) [(nc,[.bool false],88),(g1,(eP [u0,u1]).map num,23),(g2,(eP [v0,v1]).map num,23),(g3,(eP [k0,k1]).map num,23),(g4,[.int .i64 0,.int .i64 0,.int .i64 0,.int .i64 0,.int .i64 0,.int .i64 0,.int .i64 0,.int .i64 0,.int .i64 0,.int .i64 0,.int .i64 0,.int .i64 0],47)] [] a' w'→dO w0 [nc] w'→D.wp aa Q a' w'):(fB [dZ (sR 9 (dN aY)),dZ (sR 10 (dN aY))] D).wp aa Q a w:=by
 refine jZ ([0,0,0]++eP [u0,u1]++eP [v0,v1]++eP [k0,k1]) [] [(none,0,0),B1,B2] (g:=[]) (wt:=[]) (lt:=[(1,.int .i64 2)]) (sb:=[]) (T:=[]) (K:=[]) (RT:=[]) (wb:=[dU [dM 1,dM 2]]) (ws:=[(nr,0,[dJ B1,dJ B2])]) (fr:=fK 133 [(6,.pointer (some ⟨0,0,some 0⟩)),(24,.slice (some ⟨1,0,none⟩) 2 2),(25,.slice (some ⟨2,0,none⟩) 2 2),(26,.slice (some ⟨3,0,none⟩) 2 2),(18,.pointer (some ⟨0,0,none⟩))]) (H:=[dQ [.bool false] 88,dQ ((dh 4).map fun q=>var (3+q)) 23,dQ ((dh 4).map fun q=>var (7+q)) 23,dQ ((dh 4).map fun q=>var (11+q)) 23]) (lo:=[]) (us':=fun gn _=>dS 133 [(24,.slice (some ⟨g1,0,none⟩) 2 2),(25,.slice (some ⟨g2,0,none⟩) 2 2),(26,.slice (some ⟨g3,0,none⟩) 2 2),(27,.slice (some ⟨gn.getD 0 0,0,none⟩) 2 2)]) (gs':=fun gn _=>[(nc,[.bool false],88),(g1,(eP [u0,u1]).map num,23),(g2,(eP [v0,v1]).map num,23),(g3,(eP [k0,k1]).map num,23),(gn.getD 0 0,[.int .i64 0,.int .i64 0,.int .i64 0,.int .i64 0,.int .i64 0,.int .i64 0,.int .i64 0,.int .i64 0,.int .i64 0,.int .i64 0,.int .i64 0,.int .i64 0],47)]) (ls':=fun _ _=>[]) 20 _ [0,1,2,3,4] [] [27] [] (fun gn nl e1 e2=>?_) (by kernel_rfl) (fun gn nl e1 e2 e3=>?_) ⟨ed _,gG,gD,fT,hw,fw (by exact hown),gH,fun _=>?_⟩ h hk (fun a' w' gn nl e1 e2 e3 e4 hs hk'=>?_)
 ·match gn,nl,e1,e2 with
  | [g4],[],_,_=>show (_:Option _)=_; kernel_rfl
 ·match gn,nl,e1,e2 with
  | [g4],[],_,_=>simpa using e3
 ·refine ⟨(fun e he=>by cases he),fun e he=>?_,fun e he=>by cases he⟩
  simp only [fG,ag,ae,or_false] at he
  subst he
  exact ⟨2,by show some (num 2)=some (.int .i64 (B1.2.1:Nat)); rw [hB]; rfl⟩
 ·match gn,nl,e1,e2 with
  | [g4],[],_,_ =>
   simp only [bN] at hs
   exact hQ a' w' g4 (e4 g4 (by simp)).1 (by simpa using e3) hs hk'
theorem adW (hown:∀g∈[nc,g1,g2,g3,g4]++[],g∈[nc]∨w0.heap.size≤g) (hnd:[nc,g1,g2,g3,g4].Nodup)
  (h:dP (dS 133 [(24,.slice (some ⟨g1,0,none⟩) 2 2),(25,.slice (some ⟨g2,0,none⟩) 2 2),(26,.slice (some ⟨g3,0,none⟩) 2 2),(27,.slice (some ⟨g4,0,none⟩) 2 2)]) [(nc,[.bool false],88),(g1,(eP [u0,u1]).map num,23),(g2,(eP [v0,v1]).map num,23),(g3,(eP [k0,k1]).map num,23),(g4,[.int .i64 0,.int .i64 0,.int .i64 0,.int .i64 0,.int .i64 0,.int .i64 0,.int .i64 0,.int .i64 0,.int .i64 0,.int .i64 0,.int .i64 0,.int .i64 0],47)] [] a w) (hk:dO w0 [nc] w)
  (hQ:∀a' w',dP (dS 133 []) [(nc,[.bool false],88),(g4,xu [u0,u1] [v0,v1] [k0,k1],47)] [] a' w'→dO w0 [nc] w'→RR (.returned (.tuple ⟨[.slice (some ⟨g4,0,none⟩) 2 2,.bool true]⟩)) w'):(sR 11 (dN aY)).wp aa (bodyPost aa aY RR) a w :=
 qQ ([0,0,0]++eP [u0,u1]++eP [v0,v1]++eP [k0,k1]) [] [] (g:=[]) (wt:=[]) (lt:=[]) (sb:=[]) (T:=[]) (K:=[]) (RT:=[]) (wb:=[]) (ws:=[]) (fr:=fK 133 [(24,.slice (some ⟨1,0,none⟩) 2 2),(25,.slice (some ⟨2,0,none⟩) 2 2),(26,.slice (some ⟨3,0,none⟩) 2 2),(27,.slice (some ⟨4,0,none⟩) 2 2)]) (H:=[dQ [.bool false] 88,dQ ((dh 4).map fun q=>var (3+q)) 23,dQ ((dh 4).map fun q=>var (7+q)) 23,dQ ((dh 4).map fun q=>var (11+q)) 23]++[dQ [.int .i64 0,.int .i64 0,.int .i64 0,.int .i64 0,.int .i64 0,.int .i64 0,.int .i64 0,.int .i64 0,.int .i64 0,.int .i64 0,.int .i64 0,.int .i64 0] 47]) (lo:=[]) (u:=.tuple ⟨[.slice (some ⟨g4,0,none⟩) 2 2,.bool true]⟩) 20 [0,4] [] (by kernel_rfl) (by kernel_rfl) (by simp at hnd ⊢; omega) ⟨ed _,gG,gD,fT,il _ _,fw (by exact hown),gH,fun _=>iI⟩ h hk hQ
variable {u2 v2 k2:Int×Int}
theorem adU {ms:List MB} (hb:kr w0 nc 3 B1 B4 ms)
  (hF:F.2.1=us.length) (hS:S.2.1=vs.length) (lF:us.length=ms.length) (lS:vs.length=ms.length) (sF:Sl w0 F.1 7 (us.map (V6.cs nc))) (sS:Sl w0 S.1 7 (vs.map (V6.cs nc))) (aF:∀a,F.1=some a→a.block≠nc) (aS:∀a,S.1=some a→a.block≠nc)
  (h1:gm ms us (az 3 (0,0),false) ms.length=([u0,u1,u2],b1)) (h2:gm ms vs (az 3 (0,0),false) ms.length=([v0,v1,v2],b2)) (h3:((iU ms 3 x y z).1.map iP,(iU ms 3 x y z).2)=([k0,k1,k2],b3))
  (hw:jR w0 [nc] (mY nr ng nb nc x y z B1 B2 B3 B4)) (h:dP (dS 133 [(6,dK nr),(7,dK ng),(18,dK nc),(19,dK nb),(20,dJ F),(21,dJ S)]) [(nc,[.bool f],88)] [] a w) (hk:dO w0 [nc] w)
  (hQ:∀a' w' g1 g2 g3,(∀g∈[g1,g2,g3],w.heap.size≤g)→[nc,g1,g2,g3].Nodup→dP (dS 133 [(6,dK nr),(18,dK nc),(24,.slice (some ⟨g1,0,none⟩) 3 3),(25,.slice (some ⟨g2,0,none⟩) 3 3),(26,.slice (some ⟨g3,0,none⟩) 3 3)]) [(nc,[.bool (((f||b1)||b2)||b3)],88),(g1,(eP [u0,u1,u2]).map num,23),(g2,(eP [v0,v1,v2]).map num,23),(g3,(eP [k0,k1,k2]).map num,23)] [] a' w'→dO w0 [nc] w'→D.wp aa Q a' w'):(fB [dZ (sR 8 (dN aY))] D).wp aa Q a w:=by
 refine jZ ([x,y,z]++eP [u0,u1,u2]++eP [v0,v1,v2]++eP [k0,k1,k2]) [f,b1,b2,b3] [(none,0,0),B1,B2,B3,B4,F,S] (g:=[]) (wt:=[]) (lt:=[]) (sb:=[]) (T:=[]) (K:=[]) (RT:=[⟨44,[.agg ⟨pF⟩,dM 5],3,3,mB 1 [.int .i64 1],dQ ((dh 6).map fun q=>var (3+q)) 23⟩,⟨44,[.agg ⟨pF⟩,dM 6],3,3,mB 1 [.int .i64 2],dQ ((dh 6).map fun q=>var (9+q)) 23⟩,⟨45,[.agg ⟨pF⟩,.agg ⟨[var 0,var 1,var 2]⟩],3,3,mB 1 [.int .i64 3],dQ ((dh 6).map fun q=>var (15+q)) 23⟩]) (wb:=[dU [dM 1,dM 2],dU [var 0,var 1,var 2],dU pF]) (ws:=mY nr ng nb nc x y z B1 B2 B3 B4) (fr:=fK 133 [(6,.pointer (some ⟨0,0,some 0⟩)),(7,.pointer (some ⟨1,0,some 0⟩)),(18,.pointer (some ⟨0,0,none⟩)),(19,.pointer (some ⟨2,0,some 0⟩)),(20,dM 5),(21,dM 6)]) (H:=oC) (lo:=[]) (us':=fun gn _=>dS 133 [(6,dK nr),(18,dK nc),(24,.slice (some ⟨gn.getD 0 0,0,none⟩) 3 3),(25,.slice (some ⟨gn.getD 1 0,0,none⟩) 3 3),(26,.slice (some ⟨gn.getD 2 0,0,none⟩) 3 3)]) (gs':=fun gn _=>[(nc,[.bool (((f||b1)||b2)||b3)],88),(gn.getD 0 0,(eP [u0,u1,u2]).map num,23),(gn.getD 1 0,(eP [v0,v1,v2]).map num,23),(gn.getD 2 0,(eP [k0,k1,k2]).map num,23)]) (ls':=fun _ _=>[]) 20 _ [0,1,2,3] [] [24,25,26] [] (fun gn nl e1 e2=>?_) (by kernel_rfl) (fun gn nl e1 e2 e3=>?_) ⟨ed _,gG,gD,?_,hw,fw (by simp),gH,fun _=>iI⟩ h hk (fun a' w' gn nl e1 e2 e3 e4 hs hk'=>?_)
 ·match gn,nl,e1,e2 with
  | [g1,g2,g3],[],_,_=>show (_:Option _)=_; kernel_rfl
 ·match gn,nl,e1,e2 with
  | [g1,g2,g3],[],_,_=>simpa using e3
 ·intro t ht
  simp only [ag,ae,or_false] at ht
  rcases ht with rfl | rfl | rfl
  ·intro nc' c w hf0 hFz hfl
   have hnc:nc'=nc:=hf0 nc rfl
   subst hnc
   refine ⟨[sU nc' B1 B2 B3 B4,dJ F],(eP [u0,u1,u2]).map num,b1,by kernel_rfl,by kernel_rfl,by kernel_rfl,?_⟩
   have hb':=hb.move (mO hFz)
   have:=zu nc' 3 c B1 B2 B3 B4 F w ms us hb'.n1 hb'.b0 hb'.b3 hF lF (by have:=hb.m2; omega) hfl hb'.rows hb'.aM (uB (mO hFz) (y7 _ _) aF sF) aF hb'.ok
   refine this.mono fun r w' hr=>?_
   rw [yg,h1] at hr
   exact hr
  ·intro nc' c w hf0 hFz hfl
   have hnc:nc'=nc:=hf0 nc rfl
   subst hnc
   refine ⟨[sU nc' B1 B2 B3 B4,dJ S],(eP [v0,v1,v2]).map num,b2,by kernel_rfl,by kernel_rfl,by kernel_rfl,?_⟩
   have hb':=hb.move (mO hFz)
   have:=zu nc' 3 c B1 B2 B3 B4 S w ms vs hb'.n1 hb'.b0 hb'.b3 hS lS (by have:=hb.m2; omega) hfl hb'.rows hb'.aM (uB (mO hFz) (y7 _ _) aS sS) aS hb'.ok
   refine this.mono fun r w' hr=>?_
   rw [yg,h2] at hr
   exact hr
  ·intro nc' c w hf0 hFz hfl
   have hnc:nc'=nc:=hf0 nc rfl
   subst hnc
   refine ⟨[sU nc' B1 B2 B3 B4,.agg ⟨[num x,num y,num z]⟩],(eP [k0,k1,k2]).map num,b3,by kernel_rfl,by kernel_rfl,by kernel_rfl,?_⟩
   have:=KY (B1:=B2) (B2:=B3) (f:=c) (x:=x) (y:=y) (z:=z) (hb.move (mO hFz)) hfl
   simp only [aP] at h3
   rw [h3.1,h3.2] at this
   exact this
 ·match gn,nl,e1,e2 with
  | [g1,g2,g3],[],_,_ =>
   simp only [bN,bZ] at hs
   exact hQ a' w' g1 g2 g3 (fun g hg=>(e4 g (by simpa using hg)).1) (by simpa using e3) hs hk'
theorem adO (hB:B1.2.1=3) (hown:∀g∈[nc,g1,g2,g3]++[],g∈[nc]∨w0.heap.size≤g)
  (hw:jR w0 [nc] [(nr,0,[dJ B1,dJ B2])]) (h:dP (dS 133 [(6,dK nr),(18,dK nc),(24,.slice (some ⟨g1,0,none⟩) 3 3),(25,.slice (some ⟨g2,0,none⟩) 3 3),(26,.slice (some ⟨g3,0,none⟩) 3 3)]) [(nc,[.bool false],88),(g1,(eP [u0,u1,u2]).map num,23),(g2,(eP [v0,v1,v2]).map num,23),(g3,(eP [k0,k1,k2]).map num,23)] [] a w) (hk:dO w0 [nc] w)
  (hQ:∀a' w' g4,w.heap.size≤g4→[nc,g1,g2,g3,g4].Nodup→dP (dS 133 [(24,.slice (some ⟨g1,0,none⟩) 3 3),(25,.slice (some ⟨g2,0,none⟩) 3 3),(26,.slice (some ⟨g3,0,none⟩) 3 3),(27,.slice (some ⟨g4,0,none⟩) 3 3)]) [(nc,[.bool false],88),(g1,(eP [u0,u1,u2]).map num,23),(g2,(eP [v0,v1,v2]).map num,23),(g3,(eP [k0,k1,k2]).map num,23),(g4,[.int .i64 0,.int .i64 0,.int .i64 0,.int .i64 0,.int .i64 0,.int .i64 0,.int .i64 0,.int .i64 0,.int .i64 0,.int .i64 0,.int .i64 0,.int .i64 0,.int .i64 0,.int .i64 0,.int .i64 0,.int .i64 0,.int .i64 0,.int .i64 0],47)] [] a' w'→dO w0 [nc] w'→D.wp aa Q a' w'):(fB [dZ (sR 9 (dN aY)),dZ (sR 10 (dN aY))] D).wp aa Q a w:=by
 refine jZ ([0,0,0]++eP [u0,u1,u2]++eP [v0,v1,v2]++eP [k0,k1,k2]) [] [(none,0,0),B1,B2] (g:=[]) (wt:=[]) (lt:=[(1,.int .i64 3)]) (sb:=[]) (T:=[]) (K:=[]) (RT:=[]) (wb:=[dU [dM 1,dM 2]]) (ws:=[(nr,0,[dJ B1,dJ B2])]) (fr:=fK 133 [(6,.pointer (some ⟨0,0,some 0⟩)),(24,.slice (some ⟨1,0,none⟩) 3 3),(25,.slice (some ⟨2,0,none⟩) 3 3),(26,.slice (some ⟨3,0,none⟩) 3 3),(18,.pointer (some ⟨0,0,none⟩))]) (H:=[dQ [.bool false] 88,dQ ((dh 6).map fun q=>var (3+q)) 23,dQ ((dh 6).map fun q=>var (9+q)) 23,dQ ((dh 6).map fun q=>var (15+q)) 23]) (lo:=[]) (us':=fun gn _=>dS 133 [(24,.slice (some ⟨g1,0,none⟩) 3 3),(25,.slice (some ⟨g2,0,none⟩) 3 3),(26,.slice (some ⟨g3,0,none⟩) 3 3),(27,.slice (some ⟨gn.getD 0 0,0,none⟩) 3 3)]) (gs':=fun gn _=>[(nc,[.bool false],88),(g1,(eP [u0,u1,u2]).map num,23),(g2,(eP [v0,v1,v2]).map num,23),(g3,(eP [k0,k1,k2]).map num,23),(gn.getD 0 0,[.int .i64 0,.int .i64 0,.int .i64 0,.int .i64 0,.int .i64 0,.int .i64 0,.int .i64 0,.int .i64 0,.int .i64 0,.int .i64 0,.int .i64 0,.int .i64 0,.int .i64 0,.int .i64 0,.int .i64 0,.int .i64 0,.int .i64 0,.int .i64 0],47)]) (ls':=fun _ _=>[]) 20 _ [0,1,2,3,4] [] [27] [] (fun gn nl e1 e2=>?_) (by kernel_rfl) (fun gn nl e1 e2 e3=>?_) ⟨ed _,gG,gD,fT,hw,fw (by exact hown),gH,fun _=>?_⟩ h hk (fun a' w' gn nl e1 e2 e3 e4 hs hk'=>?_)
 ·match gn,nl,e1,e2 with
  | [g4],[],_,_=>show (_:Option _)=_; kernel_rfl
 ·match gn,nl,e1,e2 with
  | [g4],[],_,_=>simpa using e3
 ·refine ⟨(fun e he=>by cases he),fun e he=>?_,fun e he=>by cases he⟩
  simp only [fG,ag,ae,or_false] at he
  subst he
  exact ⟨2,by show some (num 3)=some (.int .i64 (B1.2.1:Nat)); rw [hB]; rfl⟩
 ·match gn,nl,e1,e2 with
  | [g4],[],_,_ =>
   simp only [bN] at hs
   exact hQ a' w' g4 (e4 g4 (by simp)).1 (by simpa using e3) hs hk'
theorem adX (hown:∀g∈[nc,g1,g2,g3,g4]++[],g∈[nc]∨w0.heap.size≤g) (hnd:[nc,g1,g2,g3,g4].Nodup)
  (h:dP (dS 133 [(24,.slice (some ⟨g1,0,none⟩) 3 3),(25,.slice (some ⟨g2,0,none⟩) 3 3),(26,.slice (some ⟨g3,0,none⟩) 3 3),(27,.slice (some ⟨g4,0,none⟩) 3 3)]) [(nc,[.bool false],88),(g1,(eP [u0,u1,u2]).map num,23),(g2,(eP [v0,v1,v2]).map num,23),(g3,(eP [k0,k1,k2]).map num,23),(g4,[.int .i64 0,.int .i64 0,.int .i64 0,.int .i64 0,.int .i64 0,.int .i64 0,.int .i64 0,.int .i64 0,.int .i64 0,.int .i64 0,.int .i64 0,.int .i64 0,.int .i64 0,.int .i64 0,.int .i64 0,.int .i64 0,.int .i64 0,.int .i64 0],47)] [] a w) (hk:dO w0 [nc] w)
  (hQ:∀a' w',dP (dS 133 []) [(nc,[.bool false],88),(g4,xu [u0,u1,u2] [v0,v1,v2] [k0,k1,k2],47)] [] a' w'→dO w0 [nc] w'→RR (.returned (.tuple ⟨[.slice (some ⟨g4,0,none⟩) 3 3,.bool true]⟩)) w'):(sR 11 (dN aY)).wp aa (bodyPost aa aY RR) a w :=
 qQ ([0,0,0]++eP [u0,u1,u2]++eP [v0,v1,v2]++eP [k0,k1,k2]) [] [] (g:=[]) (wt:=[]) (lt:=[]) (sb:=[]) (T:=[]) (K:=[]) (RT:=[]) (wb:=[]) (ws:=[]) (fr:=fK 133 [(24,.slice (some ⟨1,0,none⟩) 3 3),(25,.slice (some ⟨2,0,none⟩) 3 3),(26,.slice (some ⟨3,0,none⟩) 3 3),(27,.slice (some ⟨4,0,none⟩) 3 3)]) (H:=[dQ [.bool false] 88,dQ ((dh 6).map fun q=>var (3+q)) 23,dQ ((dh 6).map fun q=>var (9+q)) 23,dQ ((dh 6).map fun q=>var (15+q)) 23]++[dQ [.int .i64 0,.int .i64 0,.int .i64 0,.int .i64 0,.int .i64 0,.int .i64 0,.int .i64 0,.int .i64 0,.int .i64 0,.int .i64 0,.int .i64 0,.int .i64 0,.int .i64 0,.int .i64 0,.int .i64 0,.int .i64 0,.int .i64 0,.int .i64 0] 47]) (lo:=[]) (u:=.tuple ⟨[.slice (some ⟨g4,0,none⟩) 3 3,.bool true]⟩) 20 [0,4] [] (by kernel_rfl) (by kernel_rfl) (by simp at hnd ⊢; omega) ⟨ed _,gG,gD,fT,il _ _,fw (by exact hown),gH,fun _=>iI⟩ h hk hQ
end Go.Proofs
end
