/-
  Part of the proof: see the last text.
-/
import Derived.Test.YthbfmjlcnfgnbaaGreatZWa
set_option linter.unusedVariables false
set_option maxHeartbeats 8000000
open List renaming all_eq_true→bn,getElem?_append_left→aH,getElem?_append_right→bu,getElem?_map→bY,length→ae1,mem_append→bH,mem_append_left→aeY,mem_append_right→dm,mem_map→aeZ,mem_of_getElem?→aN,range→dh
open Nat renaming beq→ay
open Option renaming map_eq_some_iff→aR
open Prod.mk renaming injEq→aP
open Go.Proofs.Tryz renaming prog→aa
open Go.World renaming cell?→bS
section
namespace Go.Proofs
open Go.Sm Go.RowKit En
def wN (Z:World×List Nat) (g:Nat):Option (Array Value×TypeId×(Nat×Nat)):=if g<Z.1.heap.size∧g∉Z.2 then (match Z.1.heap[g]? with
 | some (.cells cs t f)=>some (cs,t,f)
 | _=>none) else none
variable {Z:World×List Nat} {g:Nat}
theorem JS {c:Array Value×TypeId×(Nat×Nat)} (h:wN Z g=some c):(g<Z.1.heap.size∧g∉Z.2)∧Z.1.heap[g]?=some (.cells c.1 c.2.1 c.2.2):=by
 unfold wN at h
 split at h
 ·rename_i hg
  split at h
  ·rename_i cs t f e; injection h with h; subst h; exact ⟨hg,e⟩
  ·cases h
 ·cases h
theorem JU {cs:Array Value} {t:TypeId} {f:Nat×Nat} (h1:g<Z.1.heap.size) (h2:g∉Z.2) (h:Z.1.heap[g]?=some (.cells cs t f)):wN Z g=some (cs,t,f):=by
 unfold wN; rw [if_pos ⟨h1,h2⟩,h]
variable {E:Env} {w0 w:World} {ex:List Nat} {gs ls:List gQ}
theorem uR (hE:E.fz=wN (w0,ex)) {us:List (Option Value)} {ws:List jC} {fr:List Value} {H lo wb:Hp} (hk:dO w0 ex w) (ho:Own w0 ex gs ls) (hi:In E us gs ls ws fr H lo wb):qc E (eH gs ls ws) (lo++wb) w:=by
 intro g c hc
 rw [hE] at hc
 obtain ⟨⟨h1,h2⟩,h3⟩:=JS hc
 simp only at h1 h2 h3
 have hno:∀x∈gs++ls,x.1≠g:=fun x hx e=>by
  rcases ho x hx with r | r
  ·exact h2 (e▸r)
  ·omega
 have hLl:lo.length=ls.length:=by simpa using congrArg ae1 hi.hL
 refine ⟨⟨(hk.frame g h1 h2).trans h3,fun hm=>?_⟩,fun i s b e hb=>?_⟩
 ·obtain ⟨x,x1,x2⟩:=aeZ.1 (show g∈gs.map (·.1) from hm)
  exact hno x (aeY _ x1) x2
 ·by_cases hlt:i<ls.length
  ·exfalso
   simp only [eH] at e
   rw [aH (by simpa using hlt)] at e
   simp only [bY,aR,aP] at e
   obtain ⟨x,e1,e2,_⟩:=e
   exact hno x (dm _ (aN e1)) e2
  ·rw [bu (by omega)] at hb
   exact Ac (bn.1 hi.wa b (aN hb))
theorem Yd (hE:E.fz=wN (w0,ex)) (h:za E w) {b o:Nat} {v:Value} (h1:b<w0.heap.size) (h2:b∉ex) (hc:w0.cell? ⟨b,o,none⟩=some v):w.cell? ⟨b,o,none⟩=some v:=by
 obtain ⟨cs,t,f,k1,k2⟩:=tZ hc
 have:=h b (cs,t,f) (by rw [hE]; exact JU h1 h2 k1)
 simp [bS,this,k2]
def gB (Z:World×List Nat) (l:List Int) (bs:List Bool) (sl:List (Option Addr×Nat×Nat)):Env:=⟨fun i=>l.getD i 0,fun i=>bs.getD i false,FN,FB,fun i=>sl.getD i (none,0,0),wN Z,[],Z.2.head?⟩
def fG (Z:World×List Nat) (l:List Int) (bs:List Bool) (sl:List (Option Addr×Nat×Nat)) (g:List (Value×Value)) (ws:List (Nat×Value×Nat×Nat)) (ls:List (Nat×Value)) (sb:List (Nat×Value×Nat)):Go.Sm.Xt:=⟨Tryz.xt,gB Z l bs sl,g,[23],ws,ls,[],sb⟩
theorem tL (Z:World×List Nat) (l:List Int) (bs:List Bool) (sl:List (Option Addr×Nat×Nat)) (g:List (Value×Value)) (ws:List (Nat×Value×Nat×Nat)) (ls:List (Nat×Value)) (sb:List (Nat×Value×Nat)) (h:Sat (gB Z l bs sl) g):Go.Sm.kD aa (fG Z l bs sl g ws ls sb):=⟨CK,h,Cy _ _ _⟩
def Bn (P:Program) (esc:FuncId→Nat→Bool) (Z:World×List Nat) (l:List Int) (bs:List Bool) (sl:List (Option Addr×Nat×Nat)) (g:List (Value×Value)) (T:List pE) (K:List pq) (RT:List qG):ig:=kQ P (fG Z l bs sl g [] [] []) esc 200 (Bw 88 RT (Av 88 K (BK 88 T (ym 89 (vZ (fG Z l bs sl g [] [] []) vP))))) 12
theorem QD (Z:World×List Nat) (l:List Int) (bs:List Bool) (sl:List (Option Addr×Nat×Nat)):∀e∈vP,fo aa (gB Z l bs sl) e:=fun e h=>Cw (E:=eO []) (E':=gB Z l bs sl) rfl rfl (FE [] e h)
theorem yw (Z:World×List Nat) (l:List Int) (bs:List Bool) (sl:List (Option Addr×Nat×Nat)) (g:List (Value×Value)) (T:List pE) (K:List pq) (RT:List qG) (h:Sat (gB Z l bs sl) g) (hT:∀t∈T,zf aa (gB Z l bs sl) 88 t) (hK:∀t∈K,Af aa (gB Z l bs sl) 88 t) (hR:∀t∈RT,Cg aa (gB Z l bs sl) 88 t):iY aa (gB Z l bs sl) (Bn aa Tryz.esc Z l bs sl g T K RT)∧jc (Bn aa Tryz.esc Z l bs sl g T K RT) :=
 zl (X:=fG Z l bs sl g [] [] []) Tryz.mixed Tryz.ky (tL Z l bs sl g [] [] [] h) (Ra hR (Nj hK (UH hT (ES En.AY (BH (X:=fG Z l bs sl g [] [] []) h _ (QD Z l bs sl)))))) (Rb (Nk (UI (ET (BI _ _))))) ⟨rfl,(fun i b e=>by simp [fG] at e),fun _ _ _=>⟨(fun e he=>by cases he),(fun e he=>by cases he),(fun e he=>by cases he)⟩⟩ 12
variable {P:Program}
theorem gG:∀t∈([]:List pE),zf P E 88 t:=fun t ht=>by cases ht
theorem gD:∀t∈([]:List pq),Af P E 88 t:=fun t ht=>by cases ht
theorem fT:∀t∈([]:List qG),Cg P E 88 t:=fun t ht=>by cases ht
theorem il (w0:World) (ex:List Nat):jR w0 ex []:=fun x hx=>by cases hx
theorem uP {nc:Nat} {f:Bool} (h:dO w0 [nc] w) (k:w.heap[nc]?=some (.cells #[.bool f] 88 (0,0))):jL w0 nc 88 f w:=⟨h.os,h.tape,h.output,h.size,fun g h1 h2=>h.frame g h1 (by simpa using h2),k⟩
section
variable {l:List Int} {bs:List Bool} {sl:List (Option Addr×Nat×Nat)} {g:List (Value×Value)} {wt:List (Nat×Value×Nat×Nat)} {lt:List (Nat×Value)} {sb:List (Nat×Value×Nat)} {T:List pE} {K:List pq} {RT:List qG} {Q:Exit→Act→World→Prop} {D c:Code} {fr:List Value} {H lo wb:Hp} {a:Act} {w w0:World} {ex:List Nat} {ws:List jC}
theorem iI {m:Mp}:kv (fG Z l bs sl g [] [] []) m:=⟨(fun e he=>by cases he),(fun e he=>by cases he),(fun e he=>by cases he)⟩
structure Side (l:List Int) (bs:List Bool) (sl:List (Option Addr×Nat×Nat)) (g:List (Value×Value)) (wt:List (Nat×Value×Nat×Nat)) (lt:List (Nat×Value)) (sb:List (Nat×Value×Nat)) (T:List pE) (K:List pq) (RT:List qG) (gs ls:List gQ) (ws:List jC) (w0:World) (ex:List Nat):Prop where
 sat:Sat (gB (w0,ex) l bs sl) g
 tab:∀t∈T,zf aa (gB (w0,ex) l bs sl) 88 t
 vK:∀t∈K,Af aa (gB (w0,ex) l bs sl) 88 t
 row:∀t∈RT,Cg aa (gB (w0,ex) l bs sl) 88 t
 wins:jR w0 ex ws
 own:Own w0 ex gs ls
 f0:∀c,ex.head?=some c→(gs.map (·.1))[0]?=some c
 win:∀w,kv (fG (w0,ex) l bs sl g wt lt sb) (iC (gB (w0,ex) l bs sl) (eH gs ls ws) w)
variable {us us':List (Option Value)} {gs gs' ls ls':List gQ}
theorem uf (l:List Int) (bs:List Bool) (sl:List (Option Addr×Nat×Nat)) (f:Nat) (cs:List Code) (gi li:List Nat)
  (hchk:(qK aa (fG (w0,ex) l bs sl g wt lt sb) (Bn aa Tryz.esc (w0,ex) l bs sl g T K RT) (Tryz.esc f) 200 cs ⟨fr,H,lo++wb,[]⟩).map (pI (gB (w0,ex) l bs sl) (eH gs ls ws) us' gi li ls.length ws.length)=some (goal us' gs' ls' ws.length))
  (hi:nE (gB (w0,ex) l bs sl) (eH gs ls ws) fr H lo wb=((us,true),(gs.map iT,true),(ls.map iT,true),(ws.map (fun x=>some x.2.2),true))) (nd:(gs'.map (·.1)++ls'.map (·.1)).Nodup)
  (hS:Side l bs sl g wt lt sb T K RT gs ls ws w0 ex) (h:dP us gs ls a w) (hk:dO w0 ex w)
  (hQ:∀a' w',dP us' gs' ls' a' w'→dO w0 ex w'→D.wp aa Q a' w'):(fB cs D).wp aa Q a w :=
 M7 (X:=fG (w0,ex) l bs sl g wt lt sb) Tryz.mixed Tryz.ky (tL _ _ _ _ _ _ _ _ hS.sat) (yw (w0,ex) l bs sl g T K RT hS.sat hS.tab hS.vK hS.row).1 (yw (w0,ex) l bs sl g T K RT hS.sat hS.tab hS.vK hS.row).2 cs gi li hchk hi nd h hk hS.wins hS.own (uR rfl hk hS.own (oH hi)) (fun c hc=>hS.f0 c hc) (hS.win w) hQ
theorem j4 (l:List Int) (bs:List Bool) (sl:List (Option Addr×Nat×Nat)) (f:Nat) (x:Ex) (gi li:List Nat)
  (hchk:(exec aa (fG (w0,ex) l bs sl g wt lt sb) (Bn aa Tryz.esc (w0,ex) l bs sl g T K RT) (Tryz.esc f) 200 c ⟨fr,H,lo++wb,[]⟩).map (fun r=>(r.1,pI (gB (w0,ex) l bs sl) (eH gs ls ws) us' gi li ls.length ws.length r.2))=some (x,goal us' gs' ls' ws.length))
  (hi:nE (gB (w0,ex) l bs sl) (eH gs ls ws) fr H lo wb=((us,true),(gs.map iT,true),(ls.map iT,true),(ws.map (fun x=>some x.2.2),true))) (nd:(gs'.map (·.1)++ls'.map (·.1)).Nodup)
  (hS:Side l bs sl g wt lt sb T K RT gs ls ws w0 ex) (h:dP us gs ls a w) (hk:dO w0 ex w)
  (hQ:∀a' w',dP us' gs' ls' a' w'→dO w0 ex w'→Q (vS x) a' w'):c.wp aa Q a w :=
 Ng (X:=fG (w0,ex) l bs sl g wt lt sb) Tryz.mixed Tryz.ky (tL _ _ _ _ _ _ _ _ hS.sat) (yw (w0,ex) l bs sl g T K RT hS.sat hS.tab hS.vK hS.row).1 (yw (w0,ex) l bs sl g T K RT hS.sat hS.tab hS.vK hS.row).2 x gi li hchk hi nd h hk hS.wins hS.own (uR rfl hk hS.own (oH hi)) (fun c hc=>hS.f0 c hc) (hS.win w) hQ
theorem qQ (l:List Int) (bs:List Bool) (sl:List (Option Addr×Nat×Nat)) (f:Nat) {fn:Func} {R:Ending→World→Prop} {u:Value} (gi li:List Nat)
  (hchk:(exec aa (fG (w0,ex) l bs sl g wt lt sb) (Bn aa Tryz.esc (w0,ex) l bs sl g T K RT) (Tryz.esc f) 200 c ⟨fr,H,lo++wb,[]⟩).map (fun r=>(r.1,((qP aa r.2 fn.results.toList).bind fun vs=>fP (gB (w0,ex) l bs sl) (eH gs ls ws) 5 (kW vs)),pI (gB (w0,ex) l bs sl) (eH gs ls ws) us' gi li ls.length ws.length r.2))=some (.ret,some u,goal us' gs' ls' ws.length))
  (hi:nE (gB (w0,ex) l bs sl) (eH gs ls ws) fr H lo wb=((us,true),(gs.map iT,true),(ls.map iT,true),(ws.map (fun x=>some x.2.2),true))) (nd:(gs'.map (·.1)++ls'.map (·.1)).Nodup)
  (hS:Side l bs sl g wt lt sb T K RT gs ls ws w0 ex) (h:dP us gs ls a w) (hk:dO w0 ex w)
  (hQ:∀a' w',dP us' gs' ls' a' w'→dO w0 ex w'→R (.returned u) w'):c.wp aa (bodyPost aa fn R) a w :=
 Q8 (X:=fG (w0,ex) l bs sl g wt lt sb) Tryz.mixed Tryz.ky (tL _ _ _ _ _ _ _ _ hS.sat) (yw (w0,ex) l bs sl g T K RT hS.sat hS.tab hS.vK hS.row).1 (yw (w0,ex) l bs sl g T K RT hS.sat hS.tab hS.vK hS.row).2 gi li hchk hi nd h hk hS.wins hS.own (uR rfl hk hS.own (oH hi)) (fun c hc=>hS.f0 c hc) (hS.win w) hQ
end
section
variable {g:List (Value×Value)} {wt:List (Nat×Value×Nat×Nat)} {lt:List (Nat×Value)} {sb:List (Nat×Value×Nat)} {T:List pE} {K:List pq} {RT:List qG} {Q:Exit→Act→World→Prop} {D:Code} {fr:List Value} {H lo wb:Hp} {a:Act} {w w0:World} {ex:List Nat} {ws:List jC} {us:List (Option Value)} {us':List Nat→List Nat→List (Option Value)} {gs ls:List gQ} {gs' ls':List Nat→List Nat→List gQ}
theorem jZ (l:List Int) (bs:List Bool) (sl:List (Option Addr×Nat×Nat)) (f:Nat) (cs:List Code) (gi li tg tl:List Nat)
  (hchk:∀ng nl:List Nat,ng.length=tg.length→nl.length=tl.length→(qK aa (fG (w0,ex) l bs sl g wt lt sb) (Bn aa Tryz.esc (w0,ex) l bs sl g T K RT) (Tryz.esc f) 200 cs ⟨fr,H,lo++wb,[]⟩).map (uj (gB (w0,ex) l bs sl) (oZ gs ls ws ng nl) (us' ng nl) gi li tg tl ls.length ws.length H.length (lo++wb).length)=some (goal (us' ng nl) (gs' ng nl) (ls' ng nl) ws.length,(true,true),tg.map (fun _=>true),tl.map (fun _=>true),H.map (fun _=>true)))
  (hi:nE (gB (w0,ex) l bs sl) (eH gs ls ws) fr H lo wb=((us,true),(gs.map iT,true),(ls.map iT,true),(ws.map (fun x=>some x.2.2),true)))
  (nd:∀ng nl:List Nat,ng.length=tg.length→nl.length=tl.length→(gs.map (·.1)++ls.map (·.1)++ng++nl).Nodup→((gs' ng nl).map (·.1)++(ls' ng nl).map (·.1)).Nodup)
  (hS:Side l bs sl g wt lt sb T K RT gs ls ws w0 ex) (h:dP us gs ls a w) (hk:dO w0 ex w)
  (hQ:∀(a':Act) (w':World) (ng nl:List Nat),ng.length=tg.length→nl.length=tl.length→(gs.map (·.1)++ls.map (·.1)++ng++nl).Nodup→(∀n∈ng++nl,w.heap.size≤n∧n<w'.heap.size)→dP (us' ng nl) (gs' ng nl) (ls' ng nl) a' w'→dO w0 ex w'→D.wp aa Q a' w'):(fB cs D).wp aa Q a w :=
 M6 (X:=fG (w0,ex) l bs sl g wt lt sb) Tryz.mixed Tryz.ky (tL _ _ _ _ _ _ _ _ hS.sat) (yw (w0,ex) l bs sl g T K RT hS.sat hS.tab hS.vK hS.row).1 (yw (w0,ex) l bs sl g T K RT hS.sat hS.tab hS.vK hS.row).2 cs gi li tg tl hchk hi nd h hk hS.wins hS.own (uR rfl hk hS.own (oH hi)) (fun c hc=>hS.f0 c hc) (hS.win w) hQ
end
def lookO (i:Nat):List (Nat×Value)→Option Value
 | []=>none
 | (j,v)::l=>bif ay i j then some v else lookO i l
def dS (n:Nat) (l:List (Nat×Value)):List (Option Value):=(dh n).map fun i=>lookO i l
def dK (n:Nat):Value:=.pointer (some ⟨n,0,none⟩)
theorem fw (h:∀g∈gs.map (·.1)++ls.map (·.1),g∈ex∨w0.heap.size≤g):Own w0 ex gs ls:=fun x hx=>by
 refine h x.1 ?_
 rcases bH.1 hx with r | r
 ·exact aeY _ (List.mem_map_of_mem r)
 ·exact dm _ (List.mem_map_of_mem r)
end Go.Proofs
end
section
namespace Go.Proofs
open Go.Sm Go.RowKit En
theorem gH {nc:Nat} {l:List Nat}:∀c,[nc].head?=some c→(nc::l)[0]?=some c:=fun _ h=>h
theorem o8 {Z:World×List Nat} {l:List Int} {bs:List Bool} {sl:List (Option Addr×Nat×Nat)} {i j:Nat} {r:Bool} (h:decide (l.getD i 0<l.getD j 0)=r):Sat (gB Z l bs sl) [(mB 20 [var i,var j],.bool r)] :=
 o7 ⟨300,.bool r,(show eF (gB Z l bs sl) 300 (mB 20 [var i,var j])=some (.bool (decide (l.getD i 0<l.getD j 0))) by kernel_rfl).trans (by rw [h]),rfl⟩ (ed _)
theorem BR (c:Bool) (a0 a1 a2 a3 a4 a5 a6 a7 a8 a9 a10 a11:Int):DI c a0 a1 a2 a3 a4 a5 a6 a7 a8 a9 a10 a11=(c||DI false a0 a1 a2 a3 a4 a5 a6 a7 a8 a9 a10 a11):=by
 unfold DI; cases c<;>simp
def rf (v u:V6):Bool:=DI false v.a v.b v.c v.d v.e v.f u.a u.b u.c u.d u.e u.f
def fQ (v u:V6):Int×Int:=(Mf v.a v.b v.c v.d v.e v.f u.a u.b u.c u.d u.e u.f,Mg v.a v.b v.c v.d v.e v.f u.a u.b u.c u.d u.e u.f)
def qH (x y:Int×Int):Int×Int:=(MS x.1 x.2 y.1 y.2,MU x.1 x.2 y.1 y.2)
def zg (x y:Int×Int):Bool:=!oo x.1 x.2 y.1 y.2
def jY (x:Int×Int) (n:Int):Int×Int:=(DD x.1 x.2 n,DC x.1 x.2 n)
def vg (rs:List (Int×Int)) (f:Bool) (j:Nat) (v u:V6) (n:Int):List (Int×Int)×Bool :=
 (rs.set j (qH (rs.getD j (0,0)) (jY (fQ v u) n)),((f||rf v u)||!ma (fQ v u).1 (fQ v u).2 n)||zg (rs.getD j (0,0)) (jY (fQ v u) n))
end Go.Proofs
end
