/-
  Part of the proof: see the last text.
-/
import Derived.Test.YthbfmjlcnfgnbaaGreatZXa
import Derived.Test.YthbfmjlcnfgnbaaGreatZXf
set_option linter.unusedVariables false
set_option maxHeartbeats 8000000
open Array renaming getElem?_eq_some_iff→aB,replicate→dn
open List renaming all_eq_true→bn,append_assoc→afd,eq_nil_of_length_eq_zero→bR,getElem?_drop→aeX,getElem?_eq_getElem→ah,getElem?_eq_none→bQ,getElem?_eq_some_iff→ai,getElem?_map→bY,getElem?_take→dx,length→ae1,map_cons→dI,map_nil→ae9,mem_append→bH,mem_cons→ag,mem_cons_of_mem→aT,mem_cons_self→aA,mem_map→aeZ,mem_of_getElem?→aN,nodup_append→afe,not_mem_nil→ae,replicate→az,take_of_length_le→dH
open Nat renaming beq→ay,succ_pos→aO
open Option renaming map_eq_some_iff→aR
open Option.some renaming injEq→ak
open Prod.mk renaming injEq→aP
open Go.Proofs.Tryz renaming f41→aD,prog→aa
open Go.World renaming cell?→bS
section
namespace Go.Proofs
open Go.Sm Go.RowKit En
def gP (Z:World×List Nat) (l:List Int) (bs:List Bool) (sl:List dY) (ws:List jC):Env:=⟨fun i=>l.getD i 0,fun i=>bs.getD i false,FN,FB,fun i=>sl.getD i (none,0,0),wN Z,ws.map fun x=>(x.1,x.2.1),none⟩
def xz (Z:World×List Nat) (l:List Int) (bs:List Bool) (sl:List dY) (g:List (Value×Value)) (wt:List (Nat×Value×Nat×Nat)) (lt:List (Nat×Value)) (wb:Hp) (ws:List jC):Go.Sm.Xt:=⟨Tryz.xt,gP Z l bs sl ws,g,[23],wt,lt,wb,[]⟩
theorem aeO (Z:World×List Nat) (l:List Int) (bs:List Bool) (sl:List dY) (g:List (Value×Value)) (wt:List (Nat×Value×Nat×Nat)) (lt:List (Nat×Value)) (wb:Hp) (ws:List jC) (h:Sat (gP Z l bs sl ws) g):Go.Sm.kD aa (xz Z l bs sl g wt lt wb ws):=⟨CK,h,Cy _ _ _⟩
theorem aaX (Z:World×List Nat) (l:List Int) (bs:List Bool) (sl:List dY) (ws:List jC):∀e∈vP,fo aa (gP Z l bs sl ws) e:=fun e h=>Cw (E:=eO []) (E':=gP Z l bs sl ws) rfl rfl (FE [] e h)
def KL (P:Program) (esc:FuncId→Nat→Bool) (Z:World×List Nat) (l:List Int) (bs:List Bool) (sl:List dY) (g:List (Value×Value)) (wt:List (Nat×Value×Nat×Nat)) (lt:List (Nat×Value)) (wb:Hp) (ws:List jC) (QT:List Qt) (NT:List Nt):ig:=kQ P (xz Z l bs sl g wt lt wb ws) esc 200 (Bu QT (Bd NT (vZ (xz Z l bs sl g [] [] [] ws) vP))) 12
def iV (Z:World×List Nat) (w:World):Prop:=∀(g:Nat) (c:Array Value×TypeId×(Nat×Nat)),wN Z g=some c→w.heap[g]?=some (.cells c.1 c.2.1 c.2.2)
theorem nQ {w0 w:World} {ex:List Nat} (h:dO w0 ex w):iV (w0,ex) w:=fun g c hc=>by
 obtain ⟨⟨h1,h2⟩,h3⟩:=JS hc
 exact (h.frame g h1 h2).trans h3
structure DY (Z:World×List Nat) (l:List Int) (bs:List Bool) (sl:List dY) (g:List (Value×Value)) (wt:List (Nat×Value×Nat×Nat)) (lt:List (Nat×Value)) (ws:List jC) (QT:List Qt) (NT:List Nt):Prop where
 sat:Sat (gP Z l bs sl ws) g
 qt:∀x∈QT,jB aa (gP Z l bs sl ws) x
 nt:∀x∈NT,sG aa (gP Z l bs sl ws) x
 wins:jR Z.1 Z.2 ws
 win:∀m:Mp,m.env=gP Z l bs sl ws→(∀(i:Nat) (x:Nat×Nat),(ws.map fun x=>(x.1,x.2.1))[i]?=some x→m.lb i=some x.1∧m.sh i=x.2)→kv (xz Z l bs sl g wt lt [] ws) m
variable {Z:World×List Nat} {l:List Int} {bs:List Bool} {sl:List dY} {ws:List jC}
theorem adv {g:List (Value×Value)} {wt:List (Nat×Value×Nat×Nat)} {lt:List (Nat×Value)} {wb:Hp} {QT:List Qt} {NT:List Nt} (hS:DY Z l bs sl g wt lt ws QT NT) (hb:wb.map (fun b=>eQ (fP (gP Z l bs sl ws) ⟨[],[]⟩ 4) b.cells)=ws.map (fun x=>some x.2.2)) (ha:wb.all mJ=true):ze (xz Z l bs sl g wt lt wb ws):=by
 refine ⟨by simpa [xz,gP] using (congrArg ae1 hb).symm,fun i b hi=>?_,fun m hm hl=>?_⟩
 ·obtain ⟨x,x1,x2⟩:=tu hb (show wb[i]?=some b from hi)
  refine ⟨Ac (bn.1 ha b (aN hi)),?_⟩
  obtain ⟨⟨h1,h2⟩,h3,h4⟩:=hS.wins x (aN x1)
  obtain ⟨cs,t,f,k1,_⟩:=tZ (h4 0 _ (ah h3))
  have key:∀(k:Nat) (v:Value),x.2.2[k]?=some v→cs[x.2.1+k]?=some v:=fun k v hk=>by
   obtain ⟨cs',t',f',hb',hv⟩:=tZ (h4 k v hk)
   rw [k1] at hb'; injection hb' with hb'; injection hb' with hb'; subst hb'
   exact hv
  have hl:=nR _ _ x2
  have hsz:x.2.1+b.cells.length≤cs.size:=by
   have:=key (x.2.2.length - 1) _ (ah (by omega))
   have:=(aB.1 this).1
   omega
  refine ⟨x.1,x.2.1,(cs,t,f),by simp [xz,gP,x1],JU h1 h2 k1,hsz,fun m hm=>?_⟩
  have e:(cs.toList.drop x.2.1).take b.cells.length=x.2.2:=by
   apply List.ext_getElem?
   intro j
   simp only [dx,aeX]
   split
   ·rename_i hj
    have hj2:j<x.2.2.length:=by omega
    rw [ah hj2]
    simpa using key j _ (ah hj2)
   ·rw [bQ (by omega)]
  show ek m b.cells ((cs.toList.drop x.2.1).take b.cells.length)
  rw [e]
  exact qp (qJ (m:=m) (at_nil m) 4) _ _ (by rw [hm]; exact x2)
 ·have h:=hS.win m hm hl
  exact ⟨h.win,h.len,fun e he=>by cases he⟩
section
variable {Z:World×List Nat} {l:List Int} {bs:List Bool} {sl:List dY} {g:List (Value×Value)} {wt:List (Nat×Value×Nat×Nat)} {lt:List (Nat×Value)} {wb:Hp} {ws:List jC} {QT:List Qt} {NT:List Nt} {xs ys:List Value} {w:World} {f:FuncId}
variable {v:Value}
theorem O9 {H':Hp} {md:List Nat} (hS:DY Z l bs sl g wt lt ws QT NT) (hb:wb.map (fun b=>eQ (fP (gP Z l bs sl ws) ⟨[],[]⟩ 4) b.cells)=ws.map (fun x=>some x.2.2)) (ha:wb.all mJ=true) (h:KL aa Tryz.esc Z l bs sl g wt lt wb ws QT NT f xs []=some (v,H',md)) (hx:eQ (fP (gP Z l bs sl ws) ⟨[],[]⟩ 5) xs=some ys) (hF:iV Z w) :
  Calls aa f ys.toArray w fun e w'=>∃v' m',e=.returned v'∧VR m' v v'∧Below w.heap.size w w'∧m'.env=gP Z l bs sl ws∧Rel m' H' [] w'∧∀i q,m'.gb i=some q→w.heap.size≤q:=by
 have hX:=aeO Z l bs sl g wt lt wb ws hS.sat
 have hO:=zl (X:=xz Z l bs sl g wt lt wb ws) Tryz.mixed Tryz.ky (esc:=Tryz.esc) (fuel:=200) hX (QY hS.qt (P6 hS.nt (BH (X:=xz Z l bs sl g [] [] [] ws) hS.sat _ (aaX Z l bs sl ws)))) (QZ (P7 (BI _ _))) (adv hS hb ha) 12
 have:=hO.1 f xs [] v H' md h ⟨lY,lY,fun _=>false,fun _=>0,fun _=>0,gP Z l bs sl ws,fun _=>0,fun _=>(#[],0,0,0)⟩ w ys rfl rfl ⟨(fun i g e=>by cases e),(fun i g e=>by cases e),(fun i j g bi bj e=>by cases e),(fun i j g bi bj e=>by cases e),(fun i j g e=>by cases e),(fun i g b e=>by cases e),(fun q c hc=>⟨⟨hF q c hc,fun i e=>by cases e⟩,fun i b e=>by cases e⟩),(fun c hc=>by cases hc)⟩
  (qp (m:=⟨lY,lY,fun _=>false,fun _=>0,fun _=>0,gP Z l bs sl ws,fun _=>0,fun _=>(#[],0,0,0)⟩) (qJ (at_nil _) 5) xs ys hx)
 refine this.mono fun e w' ⟨v',m',e1,e2,e3,e4⟩=>?_
 exact ⟨v',m',e1,e2,⟨e3.os,e3.tape,e3.output,e3.size,fun q hq=>e3.frame q hq (fun i e=>by cases e) (fun i e=>by cases e)⟩,e3.le.env,e3.rel,fun i q hq=>(e3.img i q hq).elim (fun ⟨j,hj⟩=>by cases hj) id⟩
theorem uQ {u:Value} (hS:DY Z l bs sl g wt lt ws QT NT) (hb:wb.map (fun b=>eQ (fP (gP Z l bs sl ws) ⟨[],[]⟩ 4) b.cells)=ws.map (fun x=>some x.2.2)) (ha:wb.all mJ=true) (h:(KL aa Tryz.esc Z l bs sl g wt lt wb ws QT NT f xs []).bind (fun r=>fP (gP Z l bs sl ws) ⟨[],[]⟩ 5 r.1)=some u) (hx:eQ (fP (gP Z l bs sl ws) ⟨[],[]⟩ 5) xs=some ys) (hF:iV Z w) :
  Calls aa f ys.toArray w fun e w'=>e=.returned u∧Below w.heap.size w w':=by
 obtain ⟨⟨v,H',md⟩,h1,h2⟩:=Option.bind_eq_some_iff.1 h
 refine (O9 hS hb ha h1 hx hF).mono fun e w' ⟨v',m',e1,e2,e3,e4,_⟩=>?_
 rw [e1,p9 (at_nil m') 5 v u v' (by rw [e4]; exact h2) e2]
 exact ⟨rfl,e3⟩
def rowOf:Value→Option (Bool×Nat×Nat×Nat)
 | .slice (some ⟨i,0,none⟩) n c=>some (false,i,n,c)
 | .tuple ⟨[.slice (some ⟨i,0,none⟩) n c,.bool true]⟩=>some (true,i,n,c)
 | _=>none
variable {t:Bool} {i n c:Nat}
theorem ac5 (h:rowOf v=some (t,i,n,c)):v=kC t i n c:=by
 unfold rowOf at h
 split at h
 ·simp only [ak,aP] at h
  obtain ⟨rfl,rfl,rfl,rfl⟩:=h; rfl
 ·simp only [ak,aP] at h
  obtain ⟨rfl,rfl,rfl,rfl⟩:=h; rfl
 ·cases h
def Q9 (E:Env) (r:Value×Hp×List Nat):Option (Bool×Nat×Nat×Bool×TypeId×Option (List Value)):=match rowOf r.1 with
 | some (t,i,n,c)=>match (show Hp from r.2.1)[i]? with
  | some b=>some (t,n,c,ownB b,b.elem,eQ (fP E ⟨[],[]⟩ 4) b.cells)
  | none=>none
 | none=>none
variable {vs:List Value}
theorem qM {e:TypeId} (hS:DY Z l bs sl g wt lt ws QT NT) (hb:wb.map (fun b=>eQ (fP (gP Z l bs sl ws) ⟨[],[]⟩ 4) b.cells)=ws.map (fun x=>some x.2.2)) (ha:wb.all mJ=true) (h:(KL aa Tryz.esc Z l bs sl g wt lt wb ws QT NT f xs []).bind (Q9 (gP Z l bs sl ws))=some (t,n,c,true,e,some vs)) (hx:eQ (fP (gP Z l bs sl ws) ⟨[],[]⟩ 5) xs=some ys) (hF:iV Z w) :
  Calls aa f ys.toArray w fun r w'=>Below w.heap.size w w'∧∃gl,w.heap.size≤gl∧gl<w'.heap.size∧r=.returned (kC t gl n c)∧w'.heap[gl]?=some (.cells ⟨vs⟩ e (0,0)):=by
 obtain ⟨⟨v,H',md⟩,h1,h2⟩:=Option.bind_eq_some_iff.1 h
 unfold Q9 at h2
 simp only at h2
 split at h2
 case h_2=>cases h2
 rename_i t' i n' c' hr
 split at h2
 case h_2=>cases h2
 rename_i b hbi
 simp only [ak,aP] at h2
 obtain ⟨rfl,rfl,rfl,ho,rfl,hv⟩:=h2
 have hve:=ac5 hr
 subst hve
 refine (O9 hS hb ha h1 hx hF).mono fun r w' ⟨v',m',e1,e2,e3,e4,hR,hnew⟩=>⟨e3,?_⟩
 obtain ⟨o1,o2,o3⟩:=jU ho
 obtain ⟨gl,hgl,hv'⟩:∃gl,m'.gb i=some gl∧v'=kC t' gl n' c':=by
  have sl:∀{x:Value},VR m' (.slice (some ⟨i,0,none⟩) n' c') x→∃gl,m'.gb i=some gl∧x=.slice (some ⟨gl,0,none⟩) n' c':=fun h=>by
   have hlo:∀gl,m'.gb i=some gl→m'.loose i=false:=fun gl hg=>by
    obtain ⟨_,b',hb',hG⟩:=hR.ic i gl hg
    have:H'[i]?=some b:=hbi
    rw [this] at hb'; injection hb' with hb'; subst hb'
    rw [hG.lo]; exact o2
   cases h with
   | ow e=>exact ⟨_,e,rfl⟩
   | qW e hl _ _=>rw [hlo _ e] at hl; cases hl
   | qV e hl=>rw [hlo _ e] at hl; cases hl
  cases t' with
  | false=>exact sl e2
  | true =>
   obtain ⟨⟨cs'⟩,rfl,hc⟩:=DN e2
   obtain ⟨x1,l1,q1,q2,q3⟩:=hc.cons_inv
   obtain ⟨x2,l2,q4,q5,q6⟩:=q3.cons_inv
   simp only at q1
   subst q1; subst q4
   obtain ⟨gl,g1,rfl⟩:=sl q2
   have hx2:x2=.bool true:=by cases q5; rfl
   subst hx2
   have:=bR (by rw [←q6.1]; rfl:l2.length=0)
   subst this
   exact ⟨gl,g1,rfl⟩
 obtain ⟨hlt,b',hb',hG⟩:=hR.ic i gl hgl
 have:H'[i]?=some b:=hbi
 rw [this] at hb'; injection hb' with hb'; subst hb'
 obtain ⟨cs,k1,k2,k3,k4,_⟩:=hG.blk o1
 have hvs:=oN (p9 (at_nil m') 4) _ _ _ (by rw [e4]; exact hv) (k3.mono (Be m'))
 rw [dH (by simp [k4 o2])] at hvs
 exact ⟨gl,hnew i gl hgl,hlt,by rw [e1,hv'],by rw [k1,←hvs]⟩
end
variable {i:Nat} {vs:List Value}
theorem gI {S:dY} {ix:Int} {sz b o:Nat} {m:Mp} {h:Nat} {nd:Value} (hw:fu Z.1 Z.2 S ix sz b o vs) (hs:(gP Z l bs sl ws).sl h=S) (hi:eF (gP Z l bs sl ws) 2 nd=some (.int .i64 ix)) (hm:m.env=gP Z l bs sl ws) (hl:m.lb i=some b∧m.sh i=o) :
  ∃(a:Addr) (n c:Nat) (ix:Int) (d:Nat),m.env.sl h=(some a,n,c)∧a.spot=none∧eF m.env d nd=some (.int .i64 ix)∧0≤ix∧ix<n∧m.lb i=some a.block∧m.sh i=a.off+ix.toNat*sz:=by
 obtain ⟨o0,h1,h2,h3,h4⟩:=hw.pl
 refine ⟨⟨b,o0,none⟩,S.2.1,S.2.2,ix,2,?_,rfl,by rw [hm]; exact hi,h2,h3,hl.1,by rw [hl.2,h4]⟩
 rw [hm,hs,←h1]
end Go.Proofs
end
section
namespace Go.Proofs
open Go.Sm Go.RowKit En
set_option maxHeartbeats 8000000
variable {w1 w:World} {nc nr n6 nb:Nat} {B0 B1 Lk O A:dY} {js:List JV} {mvs:List MV} {a:Act} {Q:Exit→Act→World→Prop}
theorem Zv {Ps:List iF} {dd:List MD×Bool} (hlt:∀g∈([nc,nr,n6,nb]:List Nat),g<w1.heap.size) (hV:ML w1 nc nr n6 nb B0 B1 Lk O A js mvs.length mvs.length dd a w) (hQ:∀a' w',ML w1 nc nr n6 nb B0 B1 Lk O A js mvs.length mvs.length dd a' w'→Q (.exit 2) a' w'):(uU (dN aD)).wp aa Q a w:=by
 obtain ⟨M,mbs,s,hk,gM,fM,hml,hmd,hmb⟩:=hV
 refine VV (w0:=w) (ex':=[nr,n6,nb]) (K:=(none,0,0)) (J:=(none,0,0)) (V:=(none,0,0)) (by simp) (fun q hq=>.inl (by simpa using hq)) s.nd s (dO.refl w _) fun a1 w2 s1 k1=>hQ a1 w2 ?_
 refine ⟨M,mbs,s1,hk.trans k1,gM.keep k1 (sW fM hlt),fM,hml,hmd,fun i mb hi=>?_⟩
 have h:=hmb i mb hi
 have z:=k1.size
 have n1:∀{S:dY},(∀g∈blk S,w1.heap.size≤g∧g<w.heap.size∧g∉blk M)→∀a,S.1=some a→a.block∉([nc,nr,n6,nb]:List Nat):=fun hS a ha hm=>by
  obtain ⟨h1,_,_⟩:=hS a.block (by rw [vH ha]; simp)
  have:=hlt _ hm; omega
 exact ⟨{ h.ok with qU:=kI h.ok.qU k1 (n1 h.hJ),dJ:=kI h.ok.dJ k1 (n1 h.hV) },h.cap,fun g hg=>⟨(h.hJ g hg).1,by have:=(h.hJ g hg).2.1; omega,(h.hJ g hg).2.2⟩,fun g hg=>⟨(h.hV g hg).1,by have:=(h.hV g hg).2.1; omega,(h.hV g hg).2.2⟩⟩
theorem Wn:jT (dN aD)=fB [dZ (jT (dN aD))] (fU (jT (dN aD))):=by kernel_rfl
theorem VQ:(fU (jT (dN aD)))=.block 2 (.loop (uU (dN aD))):=by kernel_rfl
variable {Ps:List iF} {f:Bool}
theorem Zw (hC1:Ah w1 [nc,nr,n6,nb] nc B0 B1 Lk O A js mvs Ps)
  (hCh:∀(mv:MV),mv∈mvs→∀w:World,dO w1 [nc,nr,n6,nb] w→Calls aa 73 #[.agg ⟨[dJ B0,dJ B1]⟩,num mv.link] w (vC w (jd js 4 mv.link [])))
  (hV:ML w1 nc nr n6 nb B0 B1 Lk O A js mvs.length 0 ([],f) a w) (hQ:∀a' w',ML w1 nc nr n6 nb B0 B1 Lk O A js mvs.length mvs.length (mvs.foldl (yt js Ps) ([],f)) a' w'→Q .normal a' w'):(fU (jT (dN aD))).wp aa Q a w:=by
 rw [VQ]
 refine wp_block (wp_loop (fun a w=>∃k,k≤mvs.length∧ML w1 nc nr n6 nb B0 B1 Lk O A js mvs.length k ((mvs.take k).foldl (yt js Ps) ([],f)) a w) (fun a _=>mvs.length - (intOf (a.tmps.getD 66 undef)).toNat) ⟨0,Nat.zero_le _,hV⟩ ?_)
 rintro a2 w2 ⟨k,hk,hI⟩
 by_cases hl:k=mvs.length
 ·subst hl
  rw [List.take_length] at hI
  exact Zv (mvs:=mvs) (Ps:=Ps) hC1.lt hI fun a3 w3 h3=>hQ a3 w3 h3
 ·obtain ⟨mv,hmv⟩:∃mv,mvs[k]?=some mv:=⟨_,ah (by omega)⟩
  have e1:∀a w k dd,ML w1 nc nr n6 nb B0 B1 Lk O A js mvs.length k dd a w→intOf (a.tmps.getD 66 undef)=k:=fun a w k dd h=>by
   obtain ⟨M,mbs,s,_⟩:=h
   exact UE s (by decide) rfl
  refine Zy hC1 hmv (hCh mv (aN hmv)) hI fun a3 w3 h3=>?_
  refine ⟨⟨k+1,by omega,?_⟩,?_⟩
  ·have:mvs.take (k+1)=mvs.take k++[mv]:=by rw [List.take_add_one,hmv]; rfl
   rw [this,List.foldl_append]
   exact h3
  ·rw [e1 _ _ _ _ hI,e1 _ _ _ _ h3]
   omega
def wG (js:List JV) (Ps:List iF) (mvs:List MV) (f:Bool):List MD×Bool:=mvs.foldl (yt js Ps) ([],f)
abbrev Mv (w0:World) (nc:Nat) (w:World):Prop:=iV (w0,[nc]) w
def xE (Ps:List iF) (w:World) (e:Ending) (w':World):Prop:=Below w.heap.size w w'∧∃gl,w.heap.size≤gl∧gl<w'.heap.size∧e=.returned (.slice (some ⟨gl,0,none⟩) Ps.length Ps.length)∧w'.heap[gl]?=some (.cells ⟨Ps.flatMap gT⟩ 135 (0,0))
def Ca (w:World) (nc:Nat) (B0 B1:dY) (js:List JV) (Ps:List iF) (mvs:List MV) (f:Bool) (e:Ending) (w':World):Prop :=
 ∃(A M:dY) (mbs:List MB),e=.returned (sU nc B0 B1 A M)∧dO w [nc] w'∧w'.heap[nc]?=some (.cells #[.bool (wG js Ps mvs f).2] 88 (0,0))∧A.2.1=js.length∧Sl w' A.1 7 ((nu js Ps).map (V6.cs nc))∧(∀a,A.1=some a→a.block≠nc) ∧
  M.2.1=mbs.length∧Sl w' M.1 3 (mbs.map MB.row)∧(∀a,M.1=some a→a.block≠nc)∧mbs.map MB.md=(wG js Ps mvs f).1∧∀(i:Nat) (mb:MB),mbs[i]?=some mb→sD w' nc js.length mb∧mb.J.2.1≤mb.J.2.2
variable {n:Nat} {e:TypeId}
theorem adC {us:List (Option Value)} {gs ls:List gQ} (h:dP us gs ls a w) {cs:List Value} (hc:w.heap[n]?=some (.cells ⟨cs⟩ e (0,0))) (hn:n∉gs.map (·.1)++ls.map (·.1)):dP us gs (ls++[(n,cs,e)]) a w :=
 ⟨h.df,h.sz,h.fr,h.gl,fun x hx=>by
  rcases bH.1 hx with r | r
  ·exact h.lo x r
  ·simp only [ag,ae,or_false] at r; subst r; exact hc,by
  simp only [List.map_append,dI,ae9]
  rw [←afd]
  exact afe.2 ⟨h.nd,by simp,fun a ha b hb e=>hn (by simp only [ag,ae,or_false] at hb; subst hb; exact e▸ha)⟩⟩
variable {g:Nat}
theorem Ik {cs cs':Array Value} {e':TypeId} (h:w.heap[g]?=some (.cells cs e (0,0))) (h':w.heap[g]?=some (.cells cs' e' (0,0))):e=e':=by
 rw [h] at h'; injection h' with h'; injection h'
theorem ach (P:iF):(gT P).length=24:=by simp [gT,pl]
theorem ac4 (h:w.heap[g]?=some (.cells ⟨Ps.flatMap gT⟩ 135 (0,0))):Sl w (some ⟨g,0,none⟩) 24 (Ps.map gT):=fun _=>⟨g,0,rfl,(aB.1 h).1,fun i r hi k v hk=>by
 have:=flat_get (Ps.map gT) 24 (fun r hr=>by obtain ⟨P,_,rfl⟩:=aeZ.1 hr; exact ach P) i r hi k v hk
 simpa [bS,h,List.flatMap] using this⟩
theorem wB (t:Nat):ay (t+3) 0=false∧ay (t+3) 1=false∧ay (t+3) 2=false:=⟨rfl,rfl,rfl⟩
theorem Ig {w0:World} {gL g9:Nat} (hn:js.length=n) (hk:dO w0 [nc] w1) (hP:Ps.length=n) (hb0:B0.2.1=n) (hb1:B1.2.1=mvs.length) (h3:n≤3) (h1:1≤n)
  (sB:Sl w0 B0.1 12 (js.map JV.vals)) (sM:Sl w0 B1.1 5 (mvs.map MV.vals)) (xB:∀a,B0.1=some a→a.block≠nc∧a.block<w0.heap.size) (xM:∀a,B1.1=some a→mvs≠[]→a.block≠nc∧a.block<w0.heap.size)
  (pr:∀(i:Nat) (j:JV),js[i]?=some j→-1≤j.parent∧j.parent<i) (ms:∀(i:Nat) (mv:MV),mvs[i]?=some mv→(0≤mv.link∧mv.link<js.length)∧1≤mv.eT∧mv.eT≤1000000000) (m9:mvs.length≤100)
  (hCh:∀(mv:MV),mv∈mvs→∀w:World,Mv w0 nc w→Calls aa 73 #[.agg ⟨[dJ B0,dJ B1]⟩,num mv.link] w (vC w (jd js 4 mv.link [])))
  (hnew:∀q∈[gL,g9,nr,n6,nb],w0.heap.size≤q∧q<w1.heap.size) (nd:[nc,gL,g9,nr,n6,nb].Nodup) (hnc:nc<w0.heap.size)
  (s:dP (dS 137 [(0,dK nc),(4,dK nr),(6,dK n6),(7,.slice (some ⟨gL,0,none⟩) n n),(8,dK nb),(9,.slice (some ⟨g9,0,none⟩) n n)]) [(nc,[.bool f],88),(gL,Ps.flatMap gT,135),(g9,Ps.flatMap fun P=>(kM P).cs nc,98)] [(nr,[dJ B0,dJ B1],35),(n6,[.pointer none,.slice none 0 0,.slice none 0 0,.slice none 0 0,.slice none 0 0],92)] a w1)
  (hb:w1.heap[nb]?=some (.cells #[dK nc,dJ B0,dJ B1,dJ A,.slice none 0 0] 92 (0,0))) (gA:Grow w1 A 7 98 n ((nu js Ps).flatMap fun v=>v.cs nc)) (fA:∃g,A.1=some ⟨g,0,none⟩∧w0.heap.size≤g) :
  (Code.seq (jT (dN aD)) (sR 6 (dN aD))).wp aa (bodyPost aa aD (Ca w0 nc B0 B1 js Ps mvs f)) a w1:=by
 subst hn
 obtain ⟨gA0,eA,hA⟩:=fA
 have nd':=nd
 simp only [List.nodup_cons,ag,ae,or_false,not_or] at nd'
 obtain ⟨⟨c1,c2,c3,c4,c5⟩,⟨d1,d2,d3,d4⟩,⟨e1,e2,e3⟩,⟨i1,i2⟩,i3,_⟩:=nd'
 have hne:∀q∈[nc,nr,n6,nb],gA0≠q:=fun q hq e=>by
  obtain ⟨g',cs,q1,q2,_⟩:=gA.blk _ eA
  injection q1 with q1; subst q1
  subst e
  simp only [ag,ae,or_false] at hq
  rcases hq with r | r | r | r
  ·omega
  ·exact absurd (Ik (s.lo (nr,[dJ B0,dJ B1],35) (by simp)) (r▸q2)) (by show ¬(35:Nat)=98; decide)
  ·exact absurd (Ik (s.lo (n6,[.pointer none,.slice none 0 0,.slice none 0 0,.slice none 0 0,.slice none 0 0],92) (by simp)) (r▸q2)) (by show ¬(92:Nat)=98; decide)
  ·exact absurd (Ik hb (r▸q2)) (by show ¬(92:Nat)=98; decide)
 have hgA:gA0<w1.heap.size:=gA.lt _ (by rw [vH eA]; simp)
 have s1:=adC (dP.sub (l':=[(0,dK nc),(4,dK nr),(6,dK n6),(7,dJ (some ⟨gL,0,none⟩,js.length,js.length)),(8,dK nb),(9,dJ (some ⟨g9,0,none⟩,js.length,js.length))]) (gs':=[(nc,[.bool f],88)]) (ls':=[(nr,[dJ B0,dJ B1],35),(n6,[.pointer none,.slice none 0 0,.slice none 0 0,.slice none 0 0,.slice none 0 0],92)]) s (fun x hx=>by
  simp only [ag,ae,or_false] at hx
  rcases hx with rfl | rfl | rfl | rfl | rfl | rfl<;>rfl) (fun x hx=>by simp only [ag,ae,or_false] at hx; subst hx; exact aA) (fun x hx=>hx) (by simp; omega)) hb (by simp; omega)
 refine wp_seq ?_
 rw [Wn]
 refine VX (w0:=w1) (ex':=[nr,n6,nb]) (k:=0) (m:=(mvs.length:Nat)) (Lk:=(some ⟨gL,0,none⟩,js.length,js.length)) (O:=(some ⟨g9,0,none⟩,js.length,js.length)) (M:=(none,0,0)) (K:=(none,0,0)) (J:=(none,0,0)) (V:=(none,0,0)) (by rw [hb1]) (fun q hq=>.inl (by simpa using hq)) s1.nd s1 (dO.refl w1 _) fun a2 w2 s2 k2=>?_
 have z1:=hk.size; have z2:=k2.size
 have K2:dO w0 [nc] w2:=hk.comp k2 fun g hg=>by
  simp only [ag,ae,or_false] at hg ⊢
  rcases hg with r | r | r | r
  ·exact .inl r
  ·have:=(hnew nr (by simp)).1; right; omega
  ·have:=(hnew n6 (by simp)).1; right; omega
  ·have:=(hnew nb (by simp)).1; right; omega
 have z3:=(hnew gL (by simp)).2; have z4:=(hnew g9 (by simp)).2
 have hMs:Ah w2 [nc,nr,n6,nb] nc B0 B1 (some ⟨gL,0,none⟩,js.length,js.length) (some ⟨g9,0,none⟩,js.length,js.length) A js mvs Ps :=
  {
   b0:=hb0,b1:=hb1,lL:=by simp [hP],oL:=by simp [hP],aL:=by rw [gA.len,hP],pL:=hP
   sB:=kI sB K2 fun a ha=>by simpa using (xB a ha).1
   sM:=Uw sM K2 fun a ha h0=>by simpa using (xM a ha (by simpa using h0)).1
   sL:=ac4 ((k2.frame gL z3 (by simp; omega)).trans (s.gl _ (aT _ aA)))
   sO:=zO (us:=Ps.map kM) (by
    have:=(k2.frame g9 z4 (by simp; omega)).trans (s.gl _ (aT _ (aT _ aA)))
    simpa [List.flatMap_map] using this)
   sA:=Grow.sl (n:=js.length) (e:=98) (gA.keep k2 fun g hg hm=>hne g hm (by rw [vH eA] at hg; exact (List.mem_singleton.1 hg).symm)) (fun r hr=>by obtain ⟨v,_,rfl⟩:=aeZ.1 hr; rfl) (by simp [nu,hP])
   xB:=fun a ha hm=>by
    obtain ⟨h1,h2⟩:=xB a ha
    have:=(hnew nr (by simp)).1; have:=(hnew n6 (by simp)).1; have:=(hnew nb (by simp)).1
    simp only [ag,ae,or_false] at hm
    omega
   xM:=fun a ha h0 hm=>by
    obtain ⟨h1,h2⟩:=xM a ha h0
    have:=(hnew nr (by simp)).1; have:=(hnew n6 (by simp)).1; have:=(hnew nb (by simp)).1
    simp only [ag,ae,or_false] at hm
    omega
   xL:=fun a ha hm=>by injection ha with ha; subst ha; simp only [ag,ae,or_false] at hm; omega
   xO:=fun a ha hm=>by injection ha with ha; subst ha; simp only [ag,ae,or_false] at hm; omega
   xA:=fun a ha hm=>by rw [eA] at ha; injection ha with ha; subst ha; exact hne _ hm rfl
   j3:=h3,pr:=pr,ms:=ms,m9:=m9
   lt:=fun g hg=>qE s2 g (by simpa using hg) }
 have hmv:∀w,dO w2 [nc,nr,n6,nb] w→dO w0 [nc] w:=fun w h=>K2.comp h fun g hg=>by
  simp only [ag,ae,or_false] at hg ⊢
  rcases hg with r | r | r | r
  ·exact .inl r
  ·have:=(hnew nr (by simp)).1; right; omega
  ·have:=(hnew n6 (by simp)).1; right; omega
  ·have:=(hnew nb (by simp)).1; right; omega
 refine Zw hMs (fun mv hm w hw=>hCh mv hm w (nQ (hmv w hw))) ⟨(none,0,0),[],s2,dO.refl w2 _,Grow.start w2 3 95,(fun g hg=>by cases hg),rfl,rfl,fun i mb hi=>by simp at hi⟩ fun a3 w3 hV=>?_
 obtain ⟨M,mbs,s3,k3,gM,fM,hml,hmd,hmb⟩:=hV
 have K3:=hmv w3 k3
 refine Wh (w0:=w3) (ex':=[nr,n6,nb]) (K:=(none,0,0)) (J:=(none,0,0)) (V:=(none,0,0)) (fun q hq=>.inl (by simpa using hq)) s3.nd s3 (dO.refl w3 _) fun a4 w4 s4 k4=>?_
 have K4:dO w0 [nc] w4:=K3.comp k4 fun g hg=>by
  simp only [ag,ae,or_false] at hg ⊢
  rcases hg with r | r | r | r
  ·exact .inl r
  ·have:=(hnew nr (by simp)).1; right; omega
  ·have:=(hnew n6 (by simp)).1; right; omega
  ·have:=(hnew nb (by simp)).1; right; omega
 have k34:=(hMs.keep (ex2:=[]) (k3.trans k4))
 have n1:∀{S:dY},(∀g∈blk S,w2.heap.size≤g∧g<w3.heap.size∧g∉blk M)→∀a,S.1=some a→a.block∉([nc,nr,n6,nb]:List Nat):=fun hS a ha hm=>by
  obtain ⟨h1,_,_⟩:=hS a.block (by rw [vH ha]; simp)
  have:=hMs.lt _ hm; omega
 have gM4:=gM.keep k4 (sW fM hMs.lt)
 refine ⟨A,M,mbs,rfl,K4,s4.gl _ aA,gA.len,k34.sA,fun a ha e=>k34.xA a ha (by simp [e]),by rw [gM.len,hml],?_,fun a ha e=>?_,hmd,fun i mb hi=>?_⟩
 ·exact Grow.sl (n:=mbs.length) (e:=95) (by rw [hml]; exact gM4) (fun r hr=>by obtain ⟨v,_,rfl⟩:=aeZ.1 hr; rfl) (by simp)
 ·have:=fM a.block (by rw [vH ha]; simp)
  have:=hMs.lt nc (by simp)
  omega
 ·have h:=hmb i mb hi
  exact ⟨{ h.ok with qU:=kI h.ok.qU k4 (n1 h.hJ),dJ:=kI h.ok.dJ k4 (n1 h.hV) },h.cap⟩
variable {X:dY} {j0:JV} {P0:iF}
theorem Z4 (hb0:B0.2.1=1) (hb1:B1.2.1=mvs.length)
  (sB:Sl w B0.1 12 ([j0].map JV.vals)) (sM:Sl w B1.1 5 (mvs.map MV.vals)) (xB:∀a,B0.1=some a→a.block≠nc∧a.block<w.heap.size) (xM:∀a,B1.1=some a→mvs≠[]→a.block≠nc∧a.block<w.heap.size)
  (pr:∀(i:Nat) (j:JV),([j0]:List JV)[i]?=some j→-1≤j.parent∧j.parent<i) (ms:∀(i:Nat) (mv:MV),mvs[i]?=some mv→(0≤mv.link∧mv.link<([j0]:List JV).length)∧1≤mv.eT∧mv.eT≤1000000000) (m9:mvs.length≤100)
  (hCh:∀(mv:MV),mv∈mvs→∀w':World,Mv w nc w'→Calls aa 73 #[.agg ⟨[dJ B0,dJ B1]⟩,num mv.link] w' (vC w' (jd [j0] 4 mv.link [])))
  (hLk:∀w':World,Mv w nc w'→Calls aa 68 #[.agg ⟨[dJ B0,dJ B1]⟩,dJ X] w' (xE [P0] w')) (hf:w.heap[nc]?=some (.cells #[.bool f] 88 (0,0))) :
  Calls aa 41 #[dK nc,.agg ⟨[dJ B0,dJ B1]⟩,dJ X] w (Ca w nc B0 B1 [j0] [P0] mvs f):=by
 have hnc:nc<w.heap.size:=(aB.1 hf).1
 obtain ⟨b0,o0,r0⟩:=iy (i:=0) (ex:=[nc]) sB (by simp [hb0]) (show ([j0].map JV.vals)[0]?=some j0.vals from rfl) (aO _) (fun a ha=>by simpa using (xB a ha).1)
 refine calls_of_wp Tryz.func41 (c:=(dN aD)) (by kernel_rfl) ?_
 rw [Ii]
 have hst:dP ([some (dK nc),some (.agg ⟨[dJ B0,dJ B1]⟩),some (dJ X)]++az 134 (some undef)) [(nc,[.bool f],88)] [] { tmps:=#[dK nc,.agg ⟨[dJ B0,dJ B1]⟩,dJ X]++dn (aD.ntmps - 3) undef,defers:=[] } w :=
  qF (xs:=[dK nc,.agg ⟨[dJ B0,dJ B1]⟩,dJ X]) (m:=134) rfl (fun x hx=>by simp only [ag,ae,or_false] at hx; subst hx; exact hf) (by simp)
 have hs2:dP (dS 137 [(0,dK nc),(1,.agg ⟨[dJ B0,dJ B1]⟩),(2,dJ X)]) [(nc,[.bool f],88)] [] { tmps:=#[dK nc,.agg ⟨[dJ B0,dJ B1]⟩,dJ X]++dn (aD.ntmps - 3) undef,defers:=[] } w :=
  ⟨hst.df,by rw [←hst.sz]; rfl,fun t u e=>hst.fr t u (by
   match t,e with
   | 0,e=>exact e
   | 1,e=>exact e
   | 2,e=>exact e
   | t+3,e =>
    exfalso
    simp only [dS,bY,aR] at e
    obtain ⟨y,y1,y2⟩:=e
    obtain ⟨hlt,hy⟩:=ai.1 y1
    simp only [List.getElem_range] at hy
    subst hy
    simp only [lookO,(wB t).1,(wB t).2.1,(wB t).2.2,cond_false] at y2
    cases y2),hst.gl,hst.lo,hst.nd⟩
 refine hd1 (w0:=w) (m:=(mvs.length:Nat)) (X:=X) (j0:=j0) (P0:=P0) hb0 (by rw [hb1]) r0 (fun x hx=>?_) (fun q hq=>.inl (by simpa using hq)) hs2 (dO.refl w _) fun a' w' gL g9 nr n6 nb A hn nd s hb gA fA hk'=>?_
 ·simp only [ag,ae,or_false] at hx
  subst hx
  intro w2 hF
  refine ⟨[.agg ⟨[dJ B0,dJ B1]⟩,dJ X],by kernel_rfl,?_⟩
  refine (hLk w2 hF).mono fun e w3 hL=>?_
  obtain ⟨hbl,gl,l1,l2,rfl,l4⟩:=hL
  exact ⟨hbl,_,gl,(show _=some ([P0].flatMap gT) by kernel_rfl),l1,l2,rfl,l4⟩
 ·exact Ig (js:=[j0]) (Ps:=[P0]) rfl hk' rfl hb0 hb1 (by simp) (by simp) sB sM xB xM pr ms m9 hCh hn nd hnc s hb gA fA
variable {j1:JV} {P1:iF}
theorem Z5 (hb0:B0.2.1=2) (hb1:B1.2.1=mvs.length)
  (sB:Sl w B0.1 12 ([j0,j1].map JV.vals)) (sM:Sl w B1.1 5 (mvs.map MV.vals)) (xB:∀a,B0.1=some a→a.block≠nc∧a.block<w.heap.size) (xM:∀a,B1.1=some a→mvs≠[]→a.block≠nc∧a.block<w.heap.size)
  (pr:∀(i:Nat) (j:JV),([j0,j1]:List JV)[i]?=some j→-1≤j.parent∧j.parent<i) (ms:∀(i:Nat) (mv:MV),mvs[i]?=some mv→(0≤mv.link∧mv.link<([j0,j1]:List JV).length)∧1≤mv.eT∧mv.eT≤1000000000) (m9:mvs.length≤100)
  (hCh:∀(mv:MV),mv∈mvs→∀w':World,Mv w nc w'→Calls aa 73 #[.agg ⟨[dJ B0,dJ B1]⟩,num mv.link] w' (vC w' (jd [j0,j1] 4 mv.link [])))
  (hLk:∀w':World,Mv w nc w'→Calls aa 68 #[.agg ⟨[dJ B0,dJ B1]⟩,dJ X] w' (xE [P0,P1] w')) (hf:w.heap[nc]?=some (.cells #[.bool f] 88 (0,0))) :
  Calls aa 41 #[dK nc,.agg ⟨[dJ B0,dJ B1]⟩,dJ X] w (Ca w nc B0 B1 [j0,j1] [P0,P1] mvs f):=by
 have hnc:nc<w.heap.size:=(aB.1 hf).1
 obtain ⟨b0,o0,r0⟩:=iy (i:=0) (ex:=[nc]) sB (by simp [hb0]) (show ([j0,j1].map JV.vals)[0]?=some j0.vals from rfl) (aO _) (fun a ha=>by simpa using (xB a ha).1)
 obtain ⟨b1,o1,r1⟩:=iy (i:=1) (ex:=[nc]) sB (by simp [hb0]) (show ([j0,j1].map JV.vals)[1]?=some j1.vals from rfl) (aO _) (fun a ha=>by simpa using (xB a ha).1)
 refine calls_of_wp Tryz.func41 (c:=(dN aD)) (by kernel_rfl) ?_
 rw [Ii]
 have hst:dP ([some (dK nc),some (.agg ⟨[dJ B0,dJ B1]⟩),some (dJ X)]++az 134 (some undef)) [(nc,[.bool f],88)] [] { tmps:=#[dK nc,.agg ⟨[dJ B0,dJ B1]⟩,dJ X]++dn (aD.ntmps - 3) undef,defers:=[] } w :=
  qF (xs:=[dK nc,.agg ⟨[dJ B0,dJ B1]⟩,dJ X]) (m:=134) rfl (fun x hx=>by simp only [ag,ae,or_false] at hx; subst hx; exact hf) (by simp)
 have hs2:dP (dS 137 [(0,dK nc),(1,.agg ⟨[dJ B0,dJ B1]⟩),(2,dJ X)]) [(nc,[.bool f],88)] [] { tmps:=#[dK nc,.agg ⟨[dJ B0,dJ B1]⟩,dJ X]++dn (aD.ntmps - 3) undef,defers:=[] } w :=
  ⟨hst.df,by rw [←hst.sz]; rfl,fun t u e=>hst.fr t u (by
   match t,e with
   | 0,e=>exact e
   | 1,e=>exact e
   | 2,e=>exact e
   | t+3,e =>
    exfalso
    simp only [dS,bY,aR] at e
    obtain ⟨y,y1,y2⟩:=e
    obtain ⟨hlt,hy⟩:=ai.1 y1
    simp only [List.getElem_range] at hy
    subst hy
    simp only [lookO,(wB t).1,(wB t).2.1,(wB t).2.2,cond_false] at y2
    cases y2),hst.gl,hst.lo,hst.nd⟩
 refine hd2 (w0:=w) (m:=(mvs.length:Nat)) (X:=X) (j0:=j0) (P0:=P0) (j1:=j1) (P1:=P1) hb0 (by rw [hb1]) r0 r1 (fun x hx=>?_) (fun q hq=>.inl (by simpa using hq)) hs2 (dO.refl w _) fun a' w' gL g9 nr n6 nb A hn nd s hb gA fA hk'=>?_
 ·simp only [ag,ae,or_false] at hx
  subst hx
  intro w2 hF
  refine ⟨[.agg ⟨[dJ B0,dJ B1]⟩,dJ X],by kernel_rfl,?_⟩
  refine (hLk w2 hF).mono fun e w3 hL=>?_
  obtain ⟨hbl,gl,l1,l2,rfl,l4⟩:=hL
  exact ⟨hbl,_,gl,(show _=some ([P0,P1].flatMap gT) by kernel_rfl),l1,l2,rfl,l4⟩
 ·exact Ig (js:=[j0,j1]) (Ps:=[P0,P1]) rfl hk' rfl hb0 hb1 (by simp) (by simp) sB sM xB xM pr ms m9 hCh hn nd hnc s hb gA fA
theorem Z6 {j2:JV} {P2:iF} (hb0:B0.2.1=3) (hb1:B1.2.1=mvs.length)
  (sB:Sl w B0.1 12 ([j0,j1,j2].map JV.vals)) (sM:Sl w B1.1 5 (mvs.map MV.vals)) (xB:∀a,B0.1=some a→a.block≠nc∧a.block<w.heap.size) (xM:∀a,B1.1=some a→mvs≠[]→a.block≠nc∧a.block<w.heap.size)
  (pr:∀(i:Nat) (j:JV),([j0,j1,j2]:List JV)[i]?=some j→-1≤j.parent∧j.parent<i) (ms:∀(i:Nat) (mv:MV),mvs[i]?=some mv→(0≤mv.link∧mv.link<([j0,j1,j2]:List JV).length)∧1≤mv.eT∧mv.eT≤1000000000) (m9:mvs.length≤100)
  (hCh:∀(mv:MV),mv∈mvs→∀w':World,Mv w nc w'→Calls aa 73 #[.agg ⟨[dJ B0,dJ B1]⟩,num mv.link] w' (vC w' (jd [j0,j1,j2] 4 mv.link [])))
  (hLk:∀w':World,Mv w nc w'→Calls aa 68 #[.agg ⟨[dJ B0,dJ B1]⟩,dJ X] w' (xE [P0,P1,P2] w')) (hf:w.heap[nc]?=some (.cells #[.bool f] 88 (0,0))) :
  Calls aa 41 #[dK nc,.agg ⟨[dJ B0,dJ B1]⟩,dJ X] w (Ca w nc B0 B1 [j0,j1,j2] [P0,P1,P2] mvs f):=by
 have hnc:nc<w.heap.size:=(aB.1 hf).1
 obtain ⟨b0,o0,r0⟩:=iy (i:=0) (ex:=[nc]) sB (by simp [hb0]) (show ([j0,j1,j2].map JV.vals)[0]?=some j0.vals from rfl) (aO _) (fun a ha=>by simpa using (xB a ha).1)
 obtain ⟨b1,o1,r1⟩:=iy (i:=1) (ex:=[nc]) sB (by simp [hb0]) (show ([j0,j1,j2].map JV.vals)[1]?=some j1.vals from rfl) (aO _) (fun a ha=>by simpa using (xB a ha).1)
 obtain ⟨b2,o2,r2⟩:=iy (i:=2) (ex:=[nc]) sB (by simp [hb0]) (show ([j0,j1,j2].map JV.vals)[2]?=some j2.vals from rfl) (aO _) (fun a ha=>by simpa using (xB a ha).1)
 refine calls_of_wp Tryz.func41 (c:=(dN aD)) (by kernel_rfl) ?_
 rw [Ii]
 have hst:dP ([some (dK nc),some (.agg ⟨[dJ B0,dJ B1]⟩),some (dJ X)]++az 134 (some undef)) [(nc,[.bool f],88)] [] { tmps:=#[dK nc,.agg ⟨[dJ B0,dJ B1]⟩,dJ X]++dn (aD.ntmps - 3) undef,defers:=[] } w :=
  qF (xs:=[dK nc,.agg ⟨[dJ B0,dJ B1]⟩,dJ X]) (m:=134) rfl (fun x hx=>by simp only [ag,ae,or_false] at hx; subst hx; exact hf) (by simp)
 have hs2:dP (dS 137 [(0,dK nc),(1,.agg ⟨[dJ B0,dJ B1]⟩),(2,dJ X)]) [(nc,[.bool f],88)] [] { tmps:=#[dK nc,.agg ⟨[dJ B0,dJ B1]⟩,dJ X]++dn (aD.ntmps - 3) undef,defers:=[] } w :=
  ⟨hst.df,by rw [←hst.sz]; rfl,fun t u e=>hst.fr t u (by
   match t,e with
   | 0,e=>exact e
   | 1,e=>exact e
   | 2,e=>exact e
   | t+3,e =>
    exfalso
    simp only [dS,bY,aR] at e
    obtain ⟨y,y1,y2⟩:=e
    obtain ⟨hlt,hy⟩:=ai.1 y1
    simp only [List.getElem_range] at hy
    subst hy
    simp only [lookO,(wB t).1,(wB t).2.1,(wB t).2.2,cond_false] at y2
    cases y2),hst.gl,hst.lo,hst.nd⟩
 refine hd3 (w0:=w) (m:=(mvs.length:Nat)) (X:=X) (j0:=j0) (P0:=P0) (j1:=j1) (P1:=P1) (j2:=j2) (P2:=P2) hb0 (by rw [hb1]) r0 r1 r2 (fun x hx=>?_) (fun q hq=>.inl (by simpa using hq)) hs2 (dO.refl w _) fun a' w' gL g9 nr n6 nb A hn nd s hb gA fA hk'=>?_
 ·simp only [ag,ae,or_false] at hx
  subst hx
  intro w2 hF
  refine ⟨[.agg ⟨[dJ B0,dJ B1]⟩,dJ X],by kernel_rfl,?_⟩
  refine (hLk w2 hF).mono fun e w3 hL=>?_
  obtain ⟨hbl,gl,l1,l2,rfl,l4⟩:=hL
  exact ⟨hbl,_,gl,(show _=some ([P0,P1,P2].flatMap gT) by kernel_rfl),l1,l2,rfl,l4⟩
 ·exact Ig (js:=[j0,j1,j2]) (Ps:=[P0,P1,P2]) rfl hk' rfl hb0 hb1 (by simp) (by simp) sB sM xB xM pr ms m9 hCh hn nd hnc s hb gA fA
end Go.Proofs
end
