/-
  Part of the proof: see the last text.
-/
import Derived.Test.YthbfmjlcnfgnbaaGreatZWm
set_option linter.unusedVariables false
set_option maxHeartbeats 8000000
open Array renaming getElem?_eq_some_iff→aB
open Bool renaming and_eq_true→aQ
open List renaming append_assoc→afd,eq_nil_of_length_eq_zero→bR,getElem?_eq_some_iff→ai,getElem?_map→bY,getElem?_take→dx,mem_append→bH,mem_append_left→aeY,mem_append_right→dm,mem_map→aeZ
open Nat renaming beq→ay,eq_of_beq_eq_true→bf,le_refl→au,le_trans→aZ,lt_of_lt_of_le→aC
open Option renaming map_eq_some_iff→aR
open Option.some renaming injEq→ak
open Prod.mk renaming injEq→aP
open Go.Proofs.Tryz renaming prog→aa
open Go.World renaming cell?→bS
section
namespace Go.Proofs
open Go.Sm Go.RowKit En
def fZ (j:JV) (p:Int):List Value:=[.string j.name,num j.kind,num p,num j.o0,num j.o1,num j.o2,num j.lo,num j.hi,num j.weight,num j.speed,num j.iL,num j.iO]
theorem all_nil {α:Type} {p:α→Prop}:∀e∈([]:List α),p e:=fun _ h=>by cases h
theorem dR {α:Type} {p:α→Prop} {a:α} {l:List α} (h:p a) (hl:∀e∈l,p e):∀e∈a::l,p e:=List.forall_mem_cons.2 ⟨h,hl⟩
variable {E:Env} {nd:Value}
theorem fq {g:List (Value×Value)} {b c:Bool} (h:eF E 300 nd=some (.bool b)) (hb:b=c) (hg:Sat E g):Sat E ((nd,.bool c)::g):=o7 ⟨300,.bool c,h.trans (by rw [hb]),rfl⟩ hg
variable {m:Mp} {h:Nat} {S:Option Addr×Nat×Nat}
theorem CZ {n:Int} (hm:m.env=E) (hS:(S.2.1:Int)=n) (h1:E.sl h=S) (h2:eF E 2 nd=some (num n)):∃d,eF m.env d nd=some (.int .i64 ((m.env.sl h).2.1:Nat)):=⟨2,by rw [hm,h1,hS]; exact h2⟩
theorem jf {k:Nat} (hm:m.env=E) (hS:S.2.1=k) (h1:E.sl h=S) (h2:eF E 2 nd=some (num (k:Nat))):∃d,eF m.env d nd=some (.int .i64 ((m.env.sl h).2.1:Nat)):=⟨2,by rw [hm,h1,hS]; exact h2⟩
structure Ak where
 T:List pE:=[]
 K:List pq:=[]
 RT:List qG:=[]
 QT:List Qt:=[]
 NT:List Nt:=[]
structure DZ (E:Env) (t:Ak):Prop where
 tab:∀x∈t.T,zf aa E 88 x
 vK:∀x∈t.K,Af aa E 88 x
 row:∀x∈t.RT,Cg aa E 88 x
 qt:∀x∈t.QT,jB aa E x
 nt:∀x∈t.NT,sG aa E x
def tF (P:Program) (esc:FuncId→Nat→Bool) (Z:World×List Nat) (l:List Int) (bs:List Bool) (sl:List dY) (g:List (Value×Value)) (lt:List (Nat×Value)) (t:Ak):ig:=kQ P (fG Z l bs sl g [] lt []) esc 200 (Bu t.QT (Bd t.NT (Bw 88 t.RT (Av 88 t.K (BK 88 t.T (ym 89 (vZ (fG Z l bs sl g [] [] []) vP))))))) 12
theorem uX (Z:World×List Nat) (l:List Int) (bs:List Bool) (sl:List dY) (g:List (Value×Value)) (lt:List (Nat×Value)) (t:Ak) (h:Sat (gB Z l bs sl) g) (hl:∀e∈lt,∃d,eF (gB Z l bs sl) d e.2=some (.int .i64 (((gB Z l bs sl).sl e.1).2.1:Nat))) (ht:DZ (gB Z l bs sl) t):iY aa (gB Z l bs sl) (tF aa Tryz.esc Z l bs sl g lt t)∧jc (tF aa Tryz.esc Z l bs sl g lt t) :=
 zl (X:=fG Z l bs sl g [] lt []) Tryz.mixed Tryz.ky (tL Z l bs sl g [] lt [] h) (QY ht.qt (P6 ht.nt (Ra ht.row (Nj ht.vK (UH ht.tab (ES En.AY (BH (X:=fG Z l bs sl g [] [] []) h _ (QD Z l bs sl)))))))) (QZ (P7 (Rb (Nk (UI (ET (BI _ _))))))) ⟨rfl,(fun i b e=>by simp [fG] at e),fun m hm _=>⟨(fun e he=>by cases he),(fun e he=>by rw [hm]; exact hl e he),(fun e he=>by cases he)⟩⟩ 12
theorem jo:DZ E {}:=⟨fun x h=>(by cases h),fun x h=>(by cases h),fun x h=>(by cases h),fun x h=>(by cases h),fun x h=>(by cases h)⟩
theorem yA {QT:List Qt} (h:∀x∈QT,jB aa E x):DZ E { QT:=QT }:=⟨fun x h=>(by cases h),fun x h=>(by cases h),fun x h=>(by cases h),h,fun x h=>(by cases h)⟩
structure zb (l:List Int) (bs:List Bool) (sl:List dY) (g:List (Value×Value)) (wt:List (Nat×Value×Nat×Nat)) (lt:List (Nat×Value)) (t:Ak) (gs ls:List gQ) (ws:List jC) (w0:World) (ex:List Nat):Prop where
 sat:Sat (gB (w0,ex) l bs sl) g
 vo:DZ (gB (w0,ex) l bs sl) t
 wins:jR w0 ex ws
 own:∀g∈gs.map (·.1)++ls.map (·.1),g∈ex∨w0.heap.size≤g
 f0:∀c,ex.head?=some c→(gs.map (·.1))[0]?=some c
 win:∀w,kv (fG (w0,ex) l bs sl g wt lt []) (iC (gB (w0,ex) l bs sl) (eH gs ls ws) w)
section
variable {l:List Int} {bs:List Bool} {sl:List dY} {g:List (Value×Value)} {wt:List (Nat×Value×Nat×Nat)} {lt:List (Nat×Value)} {t:Ak} {Q:Exit→Act→World→Prop} {D c:Code} {fr:List Value} {H lo wb:Hp} {a:Act} {w w0:World} {ex:List Nat} {ws:List jC} {us us':List (Option Value)} {gs gs' ls ls':List gQ}
theorem uN (l:List Int) (bs:List Bool) (sl:List dY) (f:Nat) (cs:List Code) (gi li:List Nat)
  (hchk:(qK aa (fG (w0,ex) l bs sl g wt lt []) (tF aa Tryz.esc (w0,ex) l bs sl g lt t) (Tryz.esc f) 200 cs ⟨fr,H,lo++wb,[]⟩).map (pI (gB (w0,ex) l bs sl) (eH gs ls ws) us' gi li ls.length ws.length)=some (goal us' gs' ls' ws.length))
  (hi:nE (gB (w0,ex) l bs sl) (eH gs ls ws) fr H lo wb=((us,true),(gs.map iT,true),(ls.map iT,true),(ws.map (fun x=>some x.2.2),true))) (nd:(gs'.map (·.1)++ls'.map (·.1)).Nodup)
  (hS:zb l bs sl g wt lt t gs ls ws w0 ex) (h:dP us gs ls a w) (hk:dO w0 ex w)
  (hQ:∀a' w',dP us' gs' ls' a' w'→dO w0 ex w'→D.wp aa Q a' w'):(fB cs D).wp aa Q a w :=
 M7 (X:=fG (w0,ex) l bs sl g wt lt []) Tryz.mixed Tryz.ky (tL _ _ _ _ _ _ _ _ hS.sat) (uX (w0,ex) l bs sl g lt t hS.sat (hS.win w).len hS.vo).1 (uX (w0,ex) l bs sl g lt t hS.sat (hS.win w).len hS.vo).2 cs gi li hchk hi nd h hk hS.wins (fw hS.own) (uR rfl hk (fw hS.own) (oH hi)) (fun c hc=>hS.f0 c hc) (hS.win w) hQ
theorem Cq (l:List Int) (bs:List Bool) (sl:List dY) (f:Nat) (x:Ex) (gi li:List Nat)
  (hchk:(exec aa (fG (w0,ex) l bs sl g wt lt []) (tF aa Tryz.esc (w0,ex) l bs sl g lt t) (Tryz.esc f) 200 c ⟨fr,H,lo++wb,[]⟩).map (fun r=>(r.1,pI (gB (w0,ex) l bs sl) (eH gs ls ws) us' gi li ls.length ws.length r.2))=some (x,goal us' gs' ls' ws.length))
  (hi:nE (gB (w0,ex) l bs sl) (eH gs ls ws) fr H lo wb=((us,true),(gs.map iT,true),(ls.map iT,true),(ws.map (fun x=>some x.2.2),true))) (nd:(gs'.map (·.1)++ls'.map (·.1)).Nodup)
  (hS:zb l bs sl g wt lt t gs ls ws w0 ex) (h:dP us gs ls a w) (hk:dO w0 ex w)
  (hQ:∀a' w',dP us' gs' ls' a' w'→dO w0 ex w'→Q (vS x) a' w'):c.wp aa Q a w :=
 Ng (X:=fG (w0,ex) l bs sl g wt lt []) Tryz.mixed Tryz.ky (tL _ _ _ _ _ _ _ _ hS.sat) (uX (w0,ex) l bs sl g lt t hS.sat (hS.win w).len hS.vo).1 (uX (w0,ex) l bs sl g lt t hS.sat (hS.win w).len hS.vo).2 x gi li hchk hi nd h hk hS.wins (fw hS.own) (uR rfl hk (fw hS.own) (oH hi)) (fun c hc=>hS.f0 c hc) (hS.win w) hQ
theorem Q7 (l:List Int) (bs:List Bool) (sl:List dY) (f:Nat) {fn:Func} {R:Ending→World→Prop} {u:Value} (gi li:List Nat)
  (hchk:(exec aa (fG (w0,ex) l bs sl g wt lt []) (tF aa Tryz.esc (w0,ex) l bs sl g lt t) (Tryz.esc f) 200 c ⟨fr,H,lo++wb,[]⟩).map (fun r=>(r.1,((qP aa r.2 fn.results.toList).bind fun vs=>fP (gB (w0,ex) l bs sl) (eH gs ls ws) 5 (kW vs)),pI (gB (w0,ex) l bs sl) (eH gs ls ws) us' gi li ls.length ws.length r.2))=some (.ret,some u,goal us' gs' ls' ws.length))
  (hi:nE (gB (w0,ex) l bs sl) (eH gs ls ws) fr H lo wb=((us,true),(gs.map iT,true),(ls.map iT,true),(ws.map (fun x=>some x.2.2),true))) (nd:(gs'.map (·.1)++ls'.map (·.1)).Nodup)
  (hS:zb l bs sl g wt lt t gs ls ws w0 ex) (h:dP us gs ls a w) (hk:dO w0 ex w)
  (hQ:∀a' w',dP us' gs' ls' a' w'→dO w0 ex w'→R (.returned u) w'):c.wp aa (bodyPost aa fn R) a w :=
 Q8 (X:=fG (w0,ex) l bs sl g wt lt []) Tryz.mixed Tryz.ky (tL _ _ _ _ _ _ _ _ hS.sat) (uX (w0,ex) l bs sl g lt t hS.sat (hS.win w).len hS.vo).1 (uX (w0,ex) l bs sl g lt t hS.sat (hS.win w).len hS.vo).2 gi li hchk hi nd h hk hS.wins (fw hS.own) (uR rfl hk (fw hS.own) (oH hi)) (fun c hc=>hS.f0 c hc) (hS.win w) hQ
variable {ops o1 tail:List Oper}
theorem uw (l:List Int) (bs:List Bool) (sl:List dY) (hc:q8 o1=true) (gi li:List Nat)
  (hchk:(qC aa (fG (w0,ex) l bs sl g wt lt []) (tF aa Tryz.esc (w0,ex) l bs sl g lt t) (fun _=>true) ops o1 ⟨fr,H,lo++wb,[]⟩).map (pI (gB (w0,ex) l bs sl) (eH gs ls ws) us' gi li ls.length ws.length)=some (goal us' gs' ls' ws.length))
  (hi:nE (gB (w0,ex) l bs sl) (eH gs ls ws) fr H lo wb=((us,true),(gs.map iT,true),(ls.map iT,true),(ws.map (fun x=>some x.2.2),true))) (nd:(gs'.map (·.1)++ls'.map (·.1)).Nodup)
  (hS:zb l bs sl g wt lt t gs ls ws w0 ex) (h:dP us gs ls a w) (hk:dO w0 ex w)
  (hQ:∀a' w',dP us' gs' ls' a' w'→dO w0 ex w'→wpList aa ops.toArray Q tail a' w'):wpList aa ops.toArray Q (o1++tail) a w :=
 aa2 (X:=fG (w0,ex) l bs sl g wt lt []) Tryz.ky (tL _ _ _ _ _ _ _ _ hS.sat) (uX (w0,ex) l bs sl g lt t hS.sat (hS.win w).len hS.vo).1 hc gi li hchk hi nd h hk hS.wins (fw hS.own) (uR rfl hk (fw hS.own) (oH hi)) (fun c hc=>hS.f0 c hc) (hS.win w) hQ
end
section
variable {g:List (Value×Value)} {wt:List (Nat×Value×Nat×Nat)} {lt:List (Nat×Value)} {t:Ak} {Q:Exit→Act→World→Prop} {D:Code} {fr:List Value} {H lo wb:Hp} {a:Act} {w w0:World} {ex:List Nat} {ws:List jC} {us:List (Option Value)} {us':List Nat→List Nat→List (Option Value)} {gs ls:List gQ} {gs' ls':List Nat→List Nat→List gQ}
theorem xI (l:List Int) (bs:List Bool) (sl:List dY) (f:Nat) (cs:List Code) (gi li tg tl:List Nat)
  (hchk:∀ng nl:List Nat,ng.length=tg.length→nl.length=tl.length→(qK aa (fG (w0,ex) l bs sl g wt lt []) (tF aa Tryz.esc (w0,ex) l bs sl g lt t) (Tryz.esc f) 200 cs ⟨fr,H,lo++wb,[]⟩).map (uj (gB (w0,ex) l bs sl) (oZ gs ls ws ng nl) (us' ng nl) gi li tg tl ls.length ws.length H.length (lo++wb).length)=some (goal (us' ng nl) (gs' ng nl) (ls' ng nl) ws.length,(true,true),tg.map (fun _=>true),tl.map (fun _=>true),H.map (fun _=>true)))
  (hi:nE (gB (w0,ex) l bs sl) (eH gs ls ws) fr H lo wb=((us,true),(gs.map iT,true),(ls.map iT,true),(ws.map (fun x=>some x.2.2),true)))
  (nd:∀ng nl:List Nat,ng.length=tg.length→nl.length=tl.length→(gs.map (·.1)++ls.map (·.1)++ng++nl).Nodup→((gs' ng nl).map (·.1)++(ls' ng nl).map (·.1)).Nodup)
  (hS:zb l bs sl g wt lt t gs ls ws w0 ex) (h:dP us gs ls a w) (hk:dO w0 ex w)
  (hQ:∀(a':Act) (w':World) (ng nl:List Nat),ng.length=tg.length→nl.length=tl.length→(gs.map (·.1)++ls.map (·.1)++ng++nl).Nodup→(∀n∈ng++nl,w.heap.size≤n∧n<w'.heap.size)→dP (us' ng nl) (gs' ng nl) (ls' ng nl) a' w'→dO w0 ex w'→D.wp aa Q a' w'):(fB cs D).wp aa Q a w :=
 M6 (X:=fG (w0,ex) l bs sl g wt lt []) Tryz.mixed Tryz.ky (tL _ _ _ _ _ _ _ _ hS.sat) (uX (w0,ex) l bs sl g lt t hS.sat (hS.win w).len hS.vo).1 (uX (w0,ex) l bs sl g lt t hS.sat (hS.win w).len hS.vo).2 cs gi li tg tl hchk hi nd h hk hS.wins (fw hS.own) (uR rfl hk (fw hS.own) (oH hi)) (fun c hc=>hS.f0 c hc) (hS.win w) hQ
theorem Il (l:List Int) (bs:List Bool) (sl:List dY) (f:Nat) (cs:List Code) (gi li tg tl:List Nat) (R:List Nat→World→Prop)
  (hchk:∀ng nl:List Nat,ng.length=tg.length→nl.length=tl.length→(qK aa (fG (w0,ex) l bs sl g wt lt []) (tF aa Tryz.esc (w0,ex) l bs sl g lt t) (Tryz.esc f) 200 cs ⟨fr,H,lo++wb,[]⟩).map (uj (gB (w0,ex) l bs sl) (oZ gs ls ws ng nl) (us' ng nl) gi li tg tl ls.length ws.length H.length (lo++wb).length)=some (goal (us' ng nl) (gs' ng nl) (ls' ng nl) ws.length,(true,true),tg.map (fun _=>true),tl.map (fun _=>true),H.map (fun _=>true)))
  (hi:nE (gB (w0,ex) l bs sl) (eH gs ls ws) fr H lo wb=((us,true),(gs.map iT,true),(ls.map iT,true),(ws.map (fun x=>some x.2.2),true)))
  (nd:∀ng nl:List Nat,ng.length=tg.length→nl.length=tl.length→(gs.map (·.1)++ls.map (·.1)++ng++nl).Nodup→((gs' ng nl).map (·.1)++(ls' ng nl).map (·.1)).Nodup)
  (hS:zb l bs sl g wt lt t gs ls ws w0 ex) (h:dP us gs ls a w) (hk:dO w0 ex w)
  (hR:∀(s':St) (m':Mp) (a':Act) (w':World) (nl:List Nat),qK aa (fG (w0,ex) l bs sl g wt lt []) (tF aa Tryz.esc (w0,ex) l bs sl g lt t) (Tryz.esc f) 200 cs ⟨fr,H,lo++wb,[]⟩=some s'→jQ (iC (gB (w0,ex) l bs sl) (eH gs ls ws) w) H w s' m' a' w'→At ⟨gs.map (·.1),(eH gs ls ws).lp++nl.map fun g=>(g,0)⟩ m'→R nl w')
  (hQ:∀(a':Act) (w':World) (ng nl:List Nat),R nl w'→ng.length=tg.length→nl.length=tl.length→(gs.map (·.1)++ls.map (·.1)++ng++nl).Nodup→(∀n∈ng++nl,w.heap.size≤n∧n<w'.heap.size)→dP (us' ng nl) (gs' ng nl) (ls' ng nl) a' w'→dO w0 ex w'→D.wp aa Q a' w'):(fB cs D).wp aa Q a w:=by
 have hX:=tL _ _ _ _ _ wt lt [] hS.sat
 have hO:=uX (w0,ex) l bs sl g lt t hS.sat (hS.win w).len hS.vo
 obtain ⟨s',h1,h2⟩:=aR.1 (hchk (tg.map fun _=>0) (tl.map fun _=>0) (by simp) (by simp))
 simp only [uj,aP] at h2
 obtain ⟨hq0,⟨h3,h4⟩,h5,h6,h7⟩:=h2
 have hwa:(((s'.loc.drop ls.length).take ws.length).map mJ)=ws.map fun _=>true:=by
  simp only [pI,goal,aP] at hq0
  rw [hq0.2.2.2]
  exact Dn ws
 refine acm gi li tg tl R (F6 Tryz.mixed Tryz.ky hX hO.1 hO.2 cs h1) h hk hS.wins (fw hS.own) (oH hi) (uR rfl hk (fw hS.own) (oH hi)) (fun c hc=>hS.f0 c hc) (hS.win w) h3 h4 h5 h6 h7 (fun ng nl e1 e2 e3=>?_) hwa (fun m' a' w' nl hs hA=>hR s' m' a' w' nl h1 hs hA) hQ
 obtain ⟨s2,k1,k2⟩:=aR.1 (hchk ng nl e1 e2)
 rw [h1] at k1; injection k1 with k1; subst k1
 simp only [uj,aP] at k2
 exact (zx k2.1 (nd ng nl e1 e2 e3)).1
variable {ops o1 tail:List Oper}
theorem FJ (l:List Int) (bs:List Bool) (sl:List dY) (hc:q8 o1=true) (gi li tg tl:List Nat)
  (hchk:∀ng nl:List Nat,ng.length=tg.length→nl.length=tl.length→(qC aa (fG (w0,ex) l bs sl g wt lt []) (tF aa Tryz.esc (w0,ex) l bs sl g lt t) (fun _=>true) ops o1 ⟨fr,H,lo++wb,[]⟩).map (uj (gB (w0,ex) l bs sl) (oZ gs ls ws ng nl) (us' ng nl) gi li tg tl ls.length ws.length H.length (lo++wb).length)=some (goal (us' ng nl) (gs' ng nl) (ls' ng nl) ws.length,(true,true),tg.map (fun _=>true),tl.map (fun _=>true),H.map (fun _=>true)))
  (hi:nE (gB (w0,ex) l bs sl) (eH gs ls ws) fr H lo wb=((us,true),(gs.map iT,true),(ls.map iT,true),(ws.map (fun x=>some x.2.2),true)))
  (nd:∀ng nl:List Nat,ng.length=tg.length→nl.length=tl.length→(gs.map (·.1)++ls.map (·.1)++ng++nl).Nodup→((gs' ng nl).map (·.1)++(ls' ng nl).map (·.1)).Nodup)
  (hS:zb l bs sl g wt lt t gs ls ws w0 ex) (h:dP us gs ls a w) (hk:dO w0 ex w)
  (hQ:∀(a':Act) (w':World) (ng nl:List Nat),ng.length=tg.length→nl.length=tl.length→(gs.map (·.1)++ls.map (·.1)++ng++nl).Nodup→(∀n∈ng++nl,w.heap.size≤n∧n<w'.heap.size)→dP (us' ng nl) (gs' ng nl) (ls' ng nl) a' w'→dO w0 ex w'→wpList aa ops.toArray Q tail a' w'):wpList aa ops.toArray Q (o1++tail) a w :=
 aa1 (X:=fG (w0,ex) l bs sl g wt lt []) Tryz.ky (tL _ _ _ _ _ _ _ _ hS.sat) (uX (w0,ex) l bs sl g lt t hS.sat (hS.win w).len hS.vo).1 hc gi li tg tl hchk hi nd h hk hS.wins (fw hS.own) (uR rfl hk (fw hS.own) (oH hi)) (fun c hc=>hS.f0 c hc) (hS.win w) hQ
end
end Go.Proofs
end
section
namespace Go.Proofs
open Go.Sm Go.RowKit En
structure fu (w0:World) (ex:List Nat) (S:dY) (ix:Int) (sz:Nat) (b o:Nat) (vs:List Value):Prop where
 pl:∃o0,S.1=some ⟨b,o0,none⟩∧0≤ix∧ix<(S.2.1:Nat)∧o=o0+ix.toNat*sz
 wf:(b<w0.heap.size∧b∉ex)∧tV w0 (b,o,vs)
variable {w0:World} {ex:List Nat} {S:dY} {ix:Int} {sz b o i:Nat} {vs:List Value}
theorem qa {m:Mp} {h:Nat} {nd:Value} (hw:fu w0 ex S ix sz b o vs) (h1:m.env.sl h=S) (h2:eF m.env 2 nd=some (.int .i64 ix)) (h3:m.lb i=some b) (h4:m.sh i=o) :
  ∃(a:Addr) (n c:Nat) (ix:Int) (d:Nat),m.env.sl h=(some a,n,c)∧a.spot=none∧eF m.env d nd=some (.int .i64 ix)∧0≤ix∧ix<n∧m.lb i=some a.block∧m.sh i=a.off+ix.toNat*sz:=by
 obtain ⟨o0,e1,e2,e3,e4⟩:=hw.pl
 exact ⟨⟨b,o0,none⟩,S.2.1,S.2.2,ix,2,by rw [h1,←e1],rfl,h2,e2,e3,h3,by rw [h4,e4]⟩
variable {rows:List (List Value)}
theorem iy {r:List Value} (hs:Sl w0 S.1 sz rows) (hl:S.2.1=rows.length) (hi:rows[i]?=some r) (hr:0<r.length) (hx:∀a,S.1=some a→a.block∉ex):∃b o,fu w0 ex S i sz b o r:=by
 obtain ⟨b,off,e,hR⟩:=hs (fun e=>by rw [e] at hi; simp at hi)
 refine ⟨b,off+i*sz,⟨off,e,by omega,?_,by simp⟩,⟨hR.lt,hx _ e⟩,hr,fun k v hk=>?_⟩
 ·have:=(ai.1 hi).1
  rw [hl]; omega
 ·have:=hR.c i r hi k v hk
  rwa [←Nat.add_assoc] at this
theorem oP {A B C E:List Nat} (h:(A++B++C++E).Nodup):((A++C)++(B++E)).Nodup:=by
 refine (List.Perm.nodup_iff ?_).1 h
 simp only [afd]
 refine List.Perm.append_left A ?_
 rw [←afd,←afd]
 exact List.Perm.append_right E List.perm_append_comm
def opsOf:Code→List Oper | .region _ ops _=>ops.toList | _=>[]
def Yx:Code→Bool | .region _ _ d=>!d | _=>false
variable {c:Code} {Q:Exit→Act→World→Prop} {a:Act} {w:World}
theorem yC (hc:Yx c=true) (h:wpList aa (opsOf c).toArray Q (opsOf c) a w):c.wp aa Q a w:=by
 cases c with
 | region id ops d =>
  cases d with
  | true=>cases hc
  | false=>exact wp_region_list (by simpa [opsOf] using h)
 | _=>cases hc
theorem xN (k:Nat) (h:wpList aa (opsOf c).toArray Q ((opsOf c).take k++(opsOf c).drop k) a w):wpList aa (opsOf c).toArray Q (opsOf c) a w:=by rwa [List.take_append_drop] at h
structure BX (c:Code) (k:Nat) (x y d:Tmp) (elem:TypeId) (sz:Nat):Prop where
 h:∃(o:Oper) (tS tX e':TypeId) (ti:TypeInfo) (z:Value),(opsOf c).drop k=o::(opsOf c).drop (k+1)∧o.guard=none∧o.dst=some d∧o.op=.call { callee:=.builtin .append,args:=#[.tmp x,.tmp y],argTypes:=#[tS,tX] } ∧
  aa.underlying tS=some (.slice elem)∧aa.underlying tX=some (.slice e')∧aa.info? elem=some ti∧ti.zero=some z∧z.cells.size=ti.size∧ti.size=sz∧ti.bytes≤1000000
variable {us:List (Option Value)} {gs ls:List gQ}
theorem BF (h:dP us gs ls a w) (d:Nat) (v:Value):dP (us.set d (some v)) gs ls (a.put (some d) v) w:=by
 refine ⟨h.df,by simp [h.sz,Act.put],fun t u e=>?_,h.gl,h.lo,h.nd⟩
 rw [List.getElem?_set] at e
 simp only [Act.put,Array.getElem?_setIfInBounds]
 by_cases hd:d=t
 ·subst hd
  simp only [if_true] at e ⊢
  rw [h.sz] at e
  split at e
  ·rename_i hlt; injection e with e; injection e with e; subst e; simp [hlt]
  ·cases e
 ·rw [if_neg hd] at e ⊢
  exact h.fr t u e
variable {w':World}
theorem BG (h:dP us gs ls a w) (hf:∀g∈gs.map (·.1)++ls.map (·.1),w'.heap[g]?=w.heap[g]?):dP us gs ls a w' :=
 ⟨h.df,h.sz,h.fr,fun x hx=>(hf _ (aeY _ (List.mem_map_of_mem hx))).trans (h.gl x hx),fun x hx=>(hf _ (dm _ (List.mem_map_of_mem hx))).trans (h.lo x hx),h.nd⟩
theorem qE (h:dP us gs ls a w):∀g∈gs.map (·.1)++ls.map (·.1),g<w.heap.size:=fun g hg=>by
 rcases bH.1 hg with r | r<;>obtain ⟨x,x1,rfl⟩:=aeZ.1 r
 ·exact (aB.1 (h.gl x x1)).1
 ·exact (aB.1 (h.lo x x1)).1
theorem GV (h:dP us gs ls a w) {t:Nat} {u:Value} (e:us[t]?=some (some u)):a.eval (.tmp t)=u:=by
 have:=h.fr t u e
 simp [Act.eval,this]
def blk (S:dY):List Nat:=match S.1 with
 | some a=>[a.block]
 | none=>[]
theorem vH {a:Addr} (h:S.1=some a):blk S=[a.block]:=by unfold blk; rw [h]
theorem ZA {g:Nat} (h:g∈blk S):∃a,S.1=some a∧a.block=g:=by
 unfold blk at h
 split at h
 ·rename_i a e; exact ⟨a,e,(List.mem_singleton.1 h).symm⟩
 ·cases h
variable {ex2:List Nat}
theorem _root_.Go.Sm.dO.comp (h:dO w0 ex w) (k:dO w ex2 w') (hx:∀g∈ex2,g∈ex∨w0.heap.size≤g):dO w0 ex w' :=
 ⟨k.os.trans h.os,k.tape.trans h.tape,k.output.trans h.output,aZ h.size k.size,fun g h1 h2=>(k.frame g (aC h1 h.size) fun hm=>by rcases hx g hm with r | r; exact h2 r; omega).trans (h.frame g h1 h2)⟩
theorem _root_.Go.Sm.Vs.keep {S':dY} (h:Vs w S S' w'):dO w (blk S) w' :=
 ⟨h.os,h.tape,h.output,h.size,fun g h1 h2=>h.frame g h1 fun a ha e=>h2 (by rw [vH ha,e]; simp)⟩
variable {n:Nat} {e:TypeId} {cs:List Value}
theorem _root_.Go.Sm.Grow.lt (h:Grow w S sz e n cs):∀g∈blk S,g<w.heap.size:=fun g hg=>by
 obtain ⟨a,ha,rfl⟩:=ZA hg
 obtain ⟨g,cs,rfl,h1,_⟩:=h.blk a ha
 exact (aB.1 h1).1
theorem _root_.Go.Sm.Grow.keep (h:Grow w S sz e n cs) (k:dO w ex w') (hx:∀g∈blk S,g∉ex):Grow w' S sz e n cs :=
 ⟨h.len,h.cl,h.nil,fun a ha=>by
  obtain ⟨g,c,rfl,h1,h2⟩:=h.blk a ha
  exact ⟨g,c,rfl,(k.frame g (aB.1 h1).1 (hx g (by rw [vH ha]; simp))).trans h1,h2⟩⟩
variable {oa:Option Addr}
theorem kI (h:Sl w oa n rows) (k:dO w ex w') (hx:∀a,oa=some a→a.block∉ex):Sl w' oa n rows:=fun h0=>by
 obtain ⟨b,off,e,h1⟩:=h h0
 have hb:=hx _ e
 exact ⟨b,off,e,aC h1.lt k.size,fun i r hi q v hv=>(k.cell h1.lt hb).trans (h1.c i r hi q v hv)⟩
theorem Uw (h:Sl w oa n rows) (k:dO w ex w') (hx:∀a,oa=some a→rows≠[]→a.block∉ex):Sl w' oa n rows:=fun h0=>by
 obtain ⟨b,off,e,h1⟩:=h h0
 have hb:=hx _ e h0
 exact ⟨b,off,e,aC h1.lt k.size,fun i r hi q v hv=>(k.cell h1.lt hb).trans (h1.c i r hi q v hv)⟩
theorem _root_.Go.Sm.Grow.sl (h:Grow w S sz e n rows.flatten) (hr:∀r∈rows,r.length=sz) (hn:rows.length=n):Sl w S.1 sz rows:=fun h0=>by
 cases hS:S.1 with
 | none=>exact absurd (bR (hn.trans (h.nil hS).1)) h0
 | some a =>
  obtain ⟨g,cs,rfl,h1,h2,h3,h4⟩:=h.blk a hS
  refine ⟨g,0,rfl,(aB.1 h1).1,fun i r hi k v hk=>?_⟩
  have h5:rows.flatten[i*sz+k]?=some v:=by
   have:=flat_get rows sz hr i r hi k v hk
   simpa using this
  rw [←h4] at h5
  simp only [dx] at h5
  split at h5
  ·simpa [bS,h1] using h5
  ·cases h5
theorem fu.mv (h:fu w0 ex S ix sz b o vs) (hk:dO w0 ex w) (hx:∀g∈ex2,g∈ex∨w0.heap.size≤g):fu w ex2 S ix sz b o vs :=
 ⟨h.pl,⟨aC h.wf.1.1 hk.size,fun hm=>by rcases hx b hm with r | r; exact h.wf.1.2 r; have:=h.wf.1.1; omega⟩,hk.win h.wf.1.1 h.wf.1.2 h.wf.2⟩
variable {k:Nat}
theorem HZ {x y d:Tmp} {elem ty:TypeId} {yb:Nat} {cells row:List Value} (hA:BX c k x y d elem sz) (hn:n≤1000) (hrow:row.length=sz) (hok:∀v∈row,v.oneCell'=true)
  (h:dP us gs ls a w) (ex_:us[x]?=some (some (dJ S))) (ey:us[y]?=some (some (.slice (some ⟨yb,0,none⟩) 1 1))) (hy:w.heap[yb]?=some (.cells ⟨row⟩ ty (0,0))) (hG:Grow w S sz elem n cells) (hfar:∀g∈blk S,g∉gs.map (·.1)++ls.map (·.1))
  (hQ:∀(w':World) (S':dY),Grow w' S' sz elem (n+1) (cells++row)→dO w (blk S) w'→(∀g∈blk S',g∈blk S∨w.heap.size≤g)→dP (us.set d (some (dJ S'))) gs ls (a.put (some d) (dJ S')) w'→wpList aa (opsOf c).toArray Q ((opsOf c).drop (k+1)) (a.put (some d) (dJ S')) w') :
  wpList aa (opsOf c).toArray Q ((opsOf c).drop k) a w:=by
 obtain ⟨o,tS,tX,e',ti,z,h1,h2,h3,h4,h5,h6,h7,h8,h9,rfl,hb⟩:=hA.h
 rw [h1]
 refine VL h2 h4 h5 h6 h7 h8 h9 (aZ (Nat.mul_le_mul (aZ (by omega:2*(n+1)+200≤3000) (au 3000)) hb) (by decide)) (by omega) hrow hok (GV h ex_) (GV h ey) hy hG fun w' S' hG' hg=>?_
 rw [h3]
 have hlt:=qE h
 have hfr:∀g∈gs.map (·.1)++ls.map (·.1),w'.heap[g]?=w.heap[g]?:=fun g hg'=>hg.frame g (hlt g hg') fun a ha e=>hfar g (by rw [vH ha,e]; simp) hg'
 refine hQ w' S' hG' hg.keep (fun g hg'=>?_) (BG (BF h d (dJ S')) hfr)
 obtain ⟨b,hb',rfl⟩:=ZA hg'
 obtain ⟨g,e,hh⟩:=hg.home
 rw [hb'] at e; injection e with e; subst e
 rcases hh with ⟨a,ha,e⟩ | hh
 ·exact .inl (by rw [vH ha]; simpa using e.symm)
 ·exact .inr hh
theorem jG {nc:Nat} {r l:List Nat}:∀c,(nc::r).head?=some c→(nc::l)[0]?=some c:=fun _ h=>h
def Kg:Value→Option (Nat×Nat)
 | .slice (some ⟨q,0,none⟩) n c=>bif ay n c then some (q,n) else none
 | _=>none
theorem Zp {v:Value} {q:Nat} (h:Kg v=some (q,n)):v=.slice (some ⟨q,0,none⟩) n n:=by
 unfold Kg at h
 split at h
 ·rename_i q' n' c
  cases hb:ay n' c with
  | false=>rw [hb] at h; cases h
  | true =>
   rw [hb] at h
   simp only [cond_true,ak,aP] at h
   obtain ⟨rfl,rfl⟩:=h
   rw [bf hb]
 ·cases h
def Cn (E:Env) (q:Pl) (ib k:Nat) (s:St):Option ((Bool×TypeId×Nat)×List (Option Value)×Option ((Bool×Nat×TypeId)×Nat×Option (List Value)×Nat)) :=
 (s.loc[ib]?).map fun b=>((ownB b,b.elem,b.cells.length),b.cells.map (fP E q 4),((b.cells[k]?).bind Kg).bind fun x=>(s.H[x.1]?).map fun bq=>((bq.live&&bq.loose,bq.eD,bq.elem),x.2,eQ (fP E q 4) bq.cells,bq.cells.length))
theorem Kh {E:Env} {q:Pl} {m0 m':Mp} {H0:Hp} {s:St} {a':Act} (hs:jQ m0 H0 w0 s m' a' w') (hE:m'.env=E) (hA:At q m') {ib gb len ln:Nat} {e2:TypeId} {ev:List (Option Value)} (h1:q.lp[ib]?=some (gb,0)) (hc:Cn E q ib k s=some ((true,e,len),ev,some ((true,sz,e2),n,some vs,ln))) (hn:n≠0) (hl:ln=n*sz) :
  ∃(S:dY) (cb:Array Value),w'.heap[gb]?=some (.cells cb e (0,0))∧cb.size=len∧cb[k]?=some (dJ S)∧(∀(j:Nat) (u:Value),ev[j]?=some (some u)→cb[j]?=some u)∧Grow w' S sz e2 n vs∧∃g,S.1=some ⟨g,0,none⟩∧((∃j,m0.gb j=some g)∨w0.heap.size≤g):=by
 unfold Cn at hc
 obtain ⟨b,hb,hc1⟩:=aR.1 hc
 simp only [aP] at hc1
 obtain ⟨⟨c1,rfl,rfl⟩,rfl,hc2⟩:=hc1
 obtain ⟨⟨qi,n'⟩,c2,hc3⟩:=Option.bind_eq_some_iff.1 hc2
 obtain ⟨v,v1,v2⟩:=Option.bind_eq_some_iff.1 c2
 have:=Zp v2
 subst this
 obtain ⟨bq,hq,hc4⟩:=aR.1 hc3
 simp only [aP,aQ] at hc4
 obtain ⟨⟨c3,rfl,rfl⟩,rfl,c4,rfl⟩:=hc4
 obtain ⟨S,cb,k1,k2,k3,k4,k5,g,k6,k7⟩:=Zq hs hE hA h1 hb c1 v1 hn hq c3 hl c4
 refine ⟨S,cb,k1,k2,k3,fun j u hj=>?_,k5,g,k6,hs.ext.img _ _ k7⟩
 simp only [bY,aR] at hj
 obtain ⟨v,v3,v4⟩:=hj
 exact k4 j v u v3 v4
end Go.Proofs
end
