/-
  Part of the proof: see the last text.
-/
import Derived.Deep.Slices
import Derived.OpenShut
import Derived.ChangeArms
import Derived.Test.YthbfmjlcnfgnbaaGreatZEa
import Derived.Test.YthbfmjlcnfgnbaaGreatZYb
import Derived.Test.YthbfmjlcnfgnbaaGreatZXj
set_option linter.unusedVariables false
set_option maxHeartbeats 8000000
open Array renaming getElem?_eq_none→afc,getElem?_eq_some_iff→aB
open Go.RowKit.Below renaming heap_setCell→ae0,refl→aI,setCell→ag4
open BitVec renaming ofInt→ae6
open Bool renaming and_eq_true→aQ,false_eq_true→ajp,not_eq_false'→amH,or_eq_false_iff→ajj
open Int renaming add_mul→amF,emod_nonneg→amL,eq_ofNat_of_zero_le→ajk,fdiv_eq_ediv_of_nonneg→amD,le_refl→amN,le_trans→ajr,mul_le_mul_of_nonneg_left→amG,mul_nonneg→ajm,neg_mul→ajn,one_mul→amM,tdiv→dC,tmod→bP,toNat→amJ
open Go.IntKind renaming i64→bg
open Go.IntWalk renaming i64_in→dz
open Go.Lib renaming hid→aG
open List renaming append_nil→afk,getD→amI,getElem?_append_left→aH,getElem?_append_right→bu,getElem?_eq_getElem→ah,getElem?_eq_none→bQ,getElem?_eq_some_iff→ai,getElem?_map→bY,getElem?_of_mem→cZ,length_append→afa,length_cons→dB,length_map→dF,length_nil→aeT,map_eq_nil_iff→ag3,mem_cons→ag,mem_map→aeZ,nodup_cons→ag5,not_mem_nil→ae,replicate→ag6
open Nat renaming beq→ay,ble→amE,le_refl→au,le_trans→aZ,lt_of_lt_of_le→aC,lt_or_ge→cu
open Option renaming map_eq_some_iff→aR
open Go.Proofs.Tryz renaming f4→amC,prog→aa
open Go.World renaming cell?→bS,frozen?→ae2,setCell→afg
section
namespace Go.Proofs.En
open Go.RowKit Go.Sm
variable {W:World} {n13:Nat}
theorem JN {p q r p' q' r'} {e:TypeId} (hblk:W.heap[n13]?=some (.cells #[.slice p q r,.slice p' q' r'] e (0,0))) {oa:Option Addr} {sz:Nat} {rows:List (List Value)} (h:Sl W oa sz rows) {l:List Value} {k:Nat} {t:IntKind} {i:Int} (h0:rows[0]?=some l) (h1:l[k]?=some (.int t i)):∀a,oa=some a→a.block∉[n13]∧a.block<W.heap.size:=fun a ha=>by
 obtain ⟨b,off,e1,hR⟩:=h (fun e2=>by rw [e2] at h0; cases h0)
 rw [ha] at e1
 injection e1 with e1
 subst e1
 refine ⟨fun hm=>?_,hR.lt⟩
 simp only [ag,ae,or_false] at hm
 subst hm
 have:=hR.c 0 l h0 k _ h1
 simp only [bS,hblk] at this
 generalize off+(0*sz+k)=j at this
 match j,this with
 | 0,this=>simp at this
 | 1,this=>simp at this
 | j+2,this=>simp at this
theorem Pv {V W':World} {c d:Value} (l13:n13<V.heap.size) (h:W.cell? ⟨n13,0,none⟩=some c∧W.cell? ⟨n13,1,none⟩=some d∧Below V.heap.size V W) (hb:Below W.heap.size W W') :
  W'.cell? ⟨n13,0,none⟩=some c∧W'.cell? ⟨n13,1,none⟩=some d∧Below V.heap.size V W':=by
 have h13:=aC l13 h.2.2.size
 exact ⟨(hb.cell (p:=⟨n13,0,none⟩) h13).trans h.1,(hb.cell (p:=⟨n13,1,none⟩) h13).trans h.2.1,jD h.2.2 hb⟩
end Go.Proofs.En
end
section
namespace Go.Proofs.En
open Go.RowKit Go.Sm
theorem agK (x y z:Int) (w:World):Calls aa 19 #[.int .i64 x,.int .i64 y,.int .i64 z] w fun e w'=>e=.returned (.agg #[.int .i64 (FN 255 [x,y,z]),.int .i64 (FN 256 [x,y,z]),.int .i64 (FN 257 [x,y,z])])∧Below w.heap.size w w':=by
 have:=aag [x,y,z] w rfl
 rw [show (vL Nz.args [x,y,z])=[num x,num y,num z] by kernel_rfl,show kW (qZ (eO []) [x,y,z] Nz.j Nz.res)=.agg ⟨[num (FN 255 [x,y,z]),num (FN 256 [x,y,z]),num (FN 257 [x,y,z])]⟩ by kernel_rfl] at this
 exact this.mono fun e w' ⟨q1,q2⟩=>⟨q1,q2⟩
variable {W X:World} {cs:Array Value} {t:TypeId}
theorem afE (hb:Below (W.alloc (.cells cs t)).heap.size (W.alloc (.cells cs t)) X):X.heap[W.heap.size]?=some (.cells cs t (0,0))∧W.heap.size<X.heap.size:=by
 have h1:=(MapKept.heap_alloc W (.cells cs t)).1
 have hl:W.heap.size<(W.alloc (.cells cs t)).heap.size:=by simp
 exact ⟨(hb.block _ hl).trans h1,aC hl hb.size⟩
theorem afM (hb:Below (W.alloc (.cells cs t)).drew.heap.size (W.alloc (.cells cs t)).drew X):X.heap[W.heap.size]?=some (.cells cs t (0,0))∧W.heap.size<X.heap.size:=by
 have h1:=(MapKept.heap_alloc W (.cells cs t)).1
 have hl:W.heap.size<(W.alloc (.cells cs t)).heap.size:=by simp
 exact ⟨(hb.block _ hl).trans h1,aC hl hb.size⟩
variable {n:Nat}
theorem afB {o:Option Obj} (hb:Below W.heap.size W X) (h:W.heap[n]?=o∧n<W.heap.size):X.heap[n]?=o∧n<X.heap.size :=
 ⟨(hb.block _ h.2).trans h.1,aC h.2 hb.size⟩
variable {a b c:Value}
theorem agJ (h:X.heap[n]?=some (.cells #[a,b,c] t (0,0))):X.cell? ⟨n,0,none⟩=some a∧X.cell? ⟨n,1,none⟩=some b∧X.cell? ⟨n,2,none⟩=some c∧X.frozen? ⟨n,0,none⟩=false∧X.frozen? ⟨n,1,none⟩=false∧X.frozen? ⟨n,2,none⟩=false:=by
 refine ⟨?_,?_,?_,?_,?_,?_⟩<;>simp [bS,ae2,h]
structure Mid (V F:World) (n:Nat) (ok1 ok2:Option Addr) (ks1 ks2:List Int) (g0 g1 g2:Value):Prop where
 hG:F.heap[n]?=some (.cells #[g0,g1,g2] 40 (0,0))
 ge:V.heap.size≤n
 gW:Below V.heap.size V F
 s1:Sl F ok1 1 (fF ks1)
 s2:Sl F ok2 1 (fF ks2)
 x1:∀a,ok1=some a→fF ks1≠[]→a.block≠n
 x2:∀a,ok2=some a→fF ks2≠[]→a.block≠n
theorem afs {w:World} {o:Option Addr} {rows:List (List Value)} (h:Sl w o n rows):∀a,o=some a→rows≠[]→a.block<w.heap.size:=fun a ha h0=>by
 obtain ⟨b,off,e,hR⟩:=h h0
 rw [ha] at e; injection e with e; subst e; exact hR.lt
theorem agV {p q r:Value} (h:X.heap[n]?=some (.cells #[p,q,r] t (0,0))) :
  (((X.setCell ⟨n,0,none⟩ a).setCell ⟨n,1,none⟩ b).setCell ⟨n,2,none⟩ c).heap[n]?=some (.cells #[a,b,c] t (0,0))∧dO X [n] (((X.setCell ⟨n,0,none⟩ a).setCell ⟨n,1,none⟩ b).setCell ⟨n,2,none⟩ c):=by
 have hl:n<X.heap.size:=(aB.1 h).1
 constructor
 ·simp [afg,Array.getElem?_modify,h]
 ·refine ⟨rfl,rfl,rfl,by simp [afg],fun g hg hn=>?_⟩
  have e:g≠n:=fun e=>hn (by simp [e])
  exact (ae0 _ ⟨n,2,none⟩ _ g e).trans ((ae0 _ ⟨n,1,none⟩ _ g e).trans (ae0 _ ⟨n,0,none⟩ _ g e))
theorem afS {Y:World} {o:Obj} (h:Below (X.alloc o).heap.size (X.alloc o) Y):Below X.heap.size X Y :=
 jD ((aI X.heap.size X).alloc (au _) o) h
variable {V X3 X4 X5:World} {ok1 ok2:Option Addr} {ks1 ks2:List Int} {g0 g1 g2:Value}
theorem agM (q5:Below V.heap.size V X5) (hb4:Below X3.heap.size X3 X4) (hb5:Below X4.heap.size X4 X5) (s1:Sl X3 ok1 1 (fF ks1)) (s2:Sl X4 ok2 1 (fF ks2)):Mid V (X5.alloc (.cells #[g0,g1,g2] 40)) X5.heap.size ok1 ok2 ks1 ks2 g0 g1 g2:=by
 have hA:Below X5.heap.size X5 (X5.alloc (.cells #[g0,g1,g2] 40)):=(aI _ _).alloc (au _) _
 have t1:=(s1.keep hb4).keep hb5
 have t2:=s2.keep hb5
 exact ⟨(MapKept.heap_alloc X5 _).1,q5.size,jD q5 hA,t1.keep hA,t2.keep hA,fun a ha h0=>Nat.ne_of_lt (afs t1 a ha h0),fun a ha h0=>Nat.ne_of_lt (afs t2 a ha h0)⟩
variable {z:Value}
theorem afN (q5:Below V.heap.size V X5) (hb4:Below X3.heap.size X3 X4) (hb5:Below X4.heap.size X4 X5) (s1:Sl X3 ok1 1 (fF ks1)) (s2:Sl X4 ok2 1 (fF ks2)) (hz:X5.heap[n]?=some (.cells #[z,z,z] 40 (0,0))) (ge:V.heap.size≤n) (x1:∀a,ok1=some a→fF ks1≠[]→a.block≠n) (x2:∀a,ok2=some a→fF ks2≠[]→a.block≠n) :
  Mid V (((X5.setCell ⟨n,0,none⟩ g0).setCell ⟨n,1,none⟩ g1).setCell ⟨n,2,none⟩ g2) n ok1 ok2 ks1 ks2 g0 g1 g2:=by
 obtain ⟨h1,h2⟩:=agV (a:=g0) (b:=g1) (c:=g2) hz
 have t1:=(s1.keep hb4).keep hb5
 have t2:=s2.keep hb5
 exact ⟨h1,ge,((q5.setCell ge _).setCell ge _).setCell ge _,Uw t1 h2 fun a ha h0 hm=>x1 a ha h0 (by simpa using hm),Uw t2 h2 fun a ha h0 hm=>x2 a ha h0 (by simpa using hm),x1,x2⟩
theorem agN (q4:Below V.heap.size V X4) (q5:Below V.heap.size V X5) (hb4:Below X3.heap.size X3 X4) (hb5:Below (X4.alloc (.cells #[z,z,z] 40)).heap.size (X4.alloc (.cells #[z,z,z] 40)) X5) (s1:Sl X3 ok1 1 (fF ks1)) (s2:Sl X4 ok2 1 (fF ks2)) :
  Mid V (((X5.setCell ⟨X4.heap.size,0,none⟩ g0).setCell ⟨X4.heap.size,1,none⟩ g1).setCell ⟨X4.heap.size,2,none⟩ g2) X4.heap.size ok1 ok2 ks1 ks2 g0 g1 g2 :=
 afN q5 hb4 (afS hb5) s1 s2 (afE hb5).1 q4.size (fun a ha h0=>Nat.ne_of_lt (afs (s1.keep hb4) a ha h0)) (fun a ha h0=>Nat.ne_of_lt (afs s2 a ha h0))
theorem agO (q3:Below V.heap.size V X3) (q5:Below V.heap.size V X5) (hb4:Below (X3.alloc (.cells #[z,z,z] 40)).heap.size (X3.alloc (.cells #[z,z,z] 40)) X4) (hb5:Below X4.heap.size X4 X5) (s1:Sl X3 ok1 1 (fF ks1)) (s2:Sl X4 ok2 1 (fF ks2)) (f2:∀a,ok2=some a→(X3.alloc (.cells #[z,z,z] 40)).heap.size≤a.block) :
  Mid V (((X5.setCell ⟨X3.heap.size,0,none⟩ g0).setCell ⟨X3.heap.size,1,none⟩ g1).setCell ⟨X3.heap.size,2,none⟩ g2) X3.heap.size ok1 ok2 ks1 ks2 g0 g1 g2 :=
 afN q5 (afS hb4) hb5 s1 s2 (afB hb5 (afE hb4)).1 q3.size (fun a ha h0=>Nat.ne_of_lt (afs s1 a ha h0)) (fun a ha _ e=>by have:=f2 a ha; rw [e] at this; simp at this; omega)
theorem midD (q5:Below V.heap.size V X5) (hb3:Below (V.alloc (.cells #[z,z,z] 40)).drew.heap.size (V.alloc (.cells #[z,z,z] 40)).drew X3) (hb4:Below X3.heap.size X3 X4) (hb5:Below X4.heap.size X4 X5) (s1:Sl X3 ok1 1 (fF ks1)) (s2:Sl X4 ok2 1 (fF ks2)) (f1:∀a,ok1=some a→(V.alloc (.cells #[z,z,z] 40)).drew.heap.size≤a.block) (f2:∀a,ok2=some a→X3.heap.size≤a.block) :
  Mid V (((X5.setCell ⟨V.heap.size,0,none⟩ g0).setCell ⟨V.heap.size,1,none⟩ g1).setCell ⟨V.heap.size,2,none⟩ g2) V.heap.size ok1 ok2 ks1 ks2 g0 g1 g2 :=
 afN q5 hb4 hb5 s1 s2 (afB hb5 (afB hb4 (afM hb3))).1 (au _) (fun a ha _ e=>by
  have h1:=f1 a ha
  have h2:V.heap.size<(V.alloc (.cells #[z,z,z] 40)).heap.size:=by simp
  have h3:(V.alloc (.cells #[z,z,z] 40)).heap.size≤a.block:=h1
  omega) (fun a ha _ e=>by have:=f2 a ha; have:=(afM hb3).2; omega)
end Go.Proofs.En
end
section
namespace Go.Proofs.En
open Go.RowKit Go.Sm
structure Two (F W:World) (g1 g2:Nat) (b0 b1:Value):Prop where
 h1:W.heap[g1]?=some (.cells #[b0,b1] 35 (0,0))
 h2:W.heap[g2]?=some (.cells #[b0,b1] 35 (0,0))
 ne:g1≠g2
 ge1:F.heap.size≤g1
 ge2:F.heap.size≤g2
 gW:Below F.heap.size F W
theorem afO {G W1:World} {ex:List Nat} {ra rm ra' rm':Option Addr} {nc rc rd:Nat} {jr:List JV} {ms:List MV} (hR:Cf jr ms ra' rm' W1) (hc:nc=ms.length) (sJ:Sl G ra 12 (jr.map JV.vals)) (sM:Sl G rm 5 (ms.map MV.vals)) (xJ:∀a,ra=some a→a.block∉ex) (xM:∀a,rm=some a→ms≠[]→a.block∉ex):jW G ex (ra,jr.length,rc) (rm,nc,rd) jr ms :=
 {
  n:=hR.1,m:=by have:=hR.2.1; omega,b0:=rfl,b1:=hc,sB:=sJ,sM:=sM
  xB:=fun a ha=>⟨xJ a ha,afs sJ a ha (by have:=hR.1; intro e; rw [ag3] at e; rw [e] at this; simp at this)⟩
  xM:=fun a ha h0=>⟨xM a ha h0,afs sM a ha (by intro e; rw [ag3] at e; exact h0 e)⟩
  ok:=ac1 hR
  pr:=fun i j hj=>by have:=(hR.2.2.1 i j hj).parent; omega
  kd:=fun i j hj=>by have:=(hR.2.2.1 i j hj).kind; omega
  ms:=fun i m hm=>by
   have:=hR.2.2.2.1 i m hm
   simp only [kK,lv,aQ,decide_eq_true_eq] at this
   omega }
end Go.Proofs.En
end
section
namespace Go.Proofs
open Go.Sm
def dn (a b:Nat):Nat:=a*b/1073741824
def un (a b:Nat):Nat:=(a*b+1073741823)/1073741824
def dd1 (x:Nat):Nat:=x*6746518852/65536
def PR (x:Nat):Nat:=(x*6746518853+65535)/65536
def dd2 (x:Nat):Nat:=dn (dd1 x) (dd1 x)
def dd3 (x:Nat):Nat:=dn (dd2 x) (dd1 x)
def dd4 (x:Nat):Nat:=dn (dd3 x) (dd1 x)
def dd5 (x:Nat):Nat:=dn (dd4 x) (dd1 x)
def dd6 (x:Nat):Nat:=dn (dd5 x) (dd1 x)
def dd7 (x:Nat):Nat:=dn (dd6 x) (dd1 x)
def dd8 (x:Nat):Nat:=dn (dd7 x) (dd1 x)
def uu2 (x:Nat):Nat:=un (PR x) (PR x)
def uu3 (x:Nat):Nat:=un (uu2 x) (PR x)
def uu4 (x:Nat):Nat:=un (uu3 x) (PR x)
def uu5 (x:Nat):Nat:=un (uu4 x) (PR x)
def uu6 (x:Nat):Nat:=un (uu5 x) (PR x)
def uu7 (x:Nat):Nat:=un (uu6 x) (PR x)
def uu8 (x:Nat):Nat:=un (uu7 x) (PR x)
def uu9 (x:Nat):Nat:=un (uu8 x) (PR x)
def aka (x:Nat):Nat:=un (uu9 x) (PR x)
def sLo (x:Nat):Nat:=(dd1 x+dd5 x/120 - ((uu3 x+5)/6+(uu7 x+5039)/5040))/16384
def sHp (x:Nat):Nat:=PR x+(uu5 x+119)/120+(uu9 x+362879)/362880
def sHm (x:Nat):Nat:=dd3 x/6+dd7 x/5040
def Wt (x:Nat):Nat:=min 65536 ((sHp x - sHm x+16383)/16384)
def cLo (x:Nat):Nat:=(1073741824+dd4 x/24+dd8 x/40320 - ((uu2 x+1)/2+(uu6 x+719)/720+(aka x+3628799)/3628800))/16384
def cHp (x:Nat):Nat:=1073741824+(uu4 x+23)/24+(uu8 x+40319)/40320
def cHm (x:Nat):Nat:=dd2 x/2+dd6 x/720
def cHi (x:Nat):Nat:=min 65536 ((cHp x - cHm x+16383)/16384)
variable {x:Int}
theorem j4 (h1:-9223372036854775808≤x) (h2:x≤9223372036854775807):wr x=x:=dz _ (by omega)
theorem alq (a:Nat) (k:Nat) (c:Nat) (hk:k≤64) (hc:c=2^k):fe (a:Int) (k:Int)=((a/c:Nat):Int):=by
 unfold fe
 rw [show decide ((k:Int)<0)=false from decide_eq_false (by omega),show min (amJ (k:Int)) 64=k by simp; omega,hc]
 simp only [cond_false]
 rw [amD _ (Int.le_of_lt (Int.pow_pos (by omega)))]
 norm_cast
theorem akN (a:Nat) (k:Nat) (c:Nat) (hk:k≤64) (hc:c=2^k) (hcp:1≤c) (ha:a≤4611686018427387904):ed (a:Int) (k:Int)=(((a+(c - 1))/c:Nat):Int):=by
 unfold ed
 rw [show decide ((k:Int)<0)=false from decide_eq_false (by omega),show min (amJ (k:Int)) 64=k by simp; omega]
 simp only [cond_false]
 rw [amD _ (Int.le_of_lt (Int.pow_pos (by omega))),show ((2:Int)^k)=((c:Nat):Int) by rw [hc]; norm_cast]
 have e:(a:Int)/((c:Nat):Int)=((a/c:Nat):Int):=by norm_cast
 rw [e]
 have h0:a/c*c≤a:=Nat.div_mul_le_self a c
 have h1:c*(a/c)+a % c=a:=Nat.div_add_mod a c
 have h2:a % c<c:=Nat.mod_lt _ (by omega)
 rw [Nat.mul_comm] at h1
 have hq:a/c≤a:=Nat.div_le_self a c
 have d1:a % c=0→(a+(c - 1))/c=a/c:=fun hm=>by
  rw [Nat.div_eq_iff (by omega)]
  omega
 have d2:a % c≠0→(a+(c - 1))/c=a/c+1:=fun hm=>by
  rw [Nat.div_eq_iff (by omega),Nat.add_mul]
  omega
 generalize a/c=q at *
 generalize (a+(c - 1))/c=z at *
 have e2:(q:Int)*((c:Nat):Int)=((q*c:Nat):Int):=by norm_cast
 rw [e2]
 generalize q*c=y at *
 rw [j4 (by omega) (by omega)]
 by_cases hm:a % c=0
 ·rw [show ((y:Int) != (a:Int))=false by rw [bne_eq_false_iff_eq]; omega,d1 hm]
  rfl
 ·rw [show ((y:Int) != (a:Int))=true by rw [bne_iff_ne]; omega,d2 hm]
  simp only [cond_true]
  rw [j4 (by omega) (by omega)]
  omega
variable {a b:Nat}
theorem ams (ha:a≤1073741824) (hb:b≤1073741824):fe (wr ((a:Int)*(b:Int))) 30=((dn a b:Nat):Int)∧dn a b≤1073741824:=by
 have h:a*b≤1073741824*1073741824:=Nat.mul_le_mul ha hb
 rw [show (a:Int)*(b:Int)=((a*b:Nat):Int) by norm_cast]
 unfold dn
 generalize a*b=m at h ⊢
 rw [j4 (by omega) (by omega)]
 exact ⟨alq m 30 1073741824 (by omega) rfl,by omega⟩
theorem amu (ha:a≤1073741824) (hb:b≤1073741824):ed (wr ((a:Int)*(b:Int))) 30=((un a b:Nat):Int)∧un a b≤1073741824:=by
 have h:a*b≤1073741824*1073741824:=Nat.mul_le_mul ha hb
 rw [show (a:Int)*(b:Int)=((a*b:Nat):Int) by norm_cast]
 unfold un
 generalize a*b=m at h ⊢
 rw [j4 (by omega) (by omega)]
 exact ⟨akN m 30 1073741824 (by omega) rfl (by omega) (by omega),by omega⟩
structure Pws (x:Nat):Prop where
 a:Gh x=(dd1 x:Nat)∧dd1 x≤1073741824
 b:Gs x=(dd2 x:Nat)∧dd2 x≤1073741824
 c:Gv x=(dd3 x:Nat)∧dd3 x≤1073741824
 d:Gw x=(dd4 x:Nat)∧dd4 x≤1073741824
 e:Gx x=(dd5 x:Nat)∧dd5 x≤1073741824
 f:Gy x=(dd6 x:Nat)∧dd6 x≤1073741824
 g:Gz x=(dd7 x:Nat)∧dd7 x≤1073741824
 h:GA x=(dd8 x:Nat)∧dd8 x≤1073741824
 i:Gi x=(PR x:Nat)∧PR x≤1073741824
 j:Gj x=(uu2 x:Nat)∧uu2 x≤1073741824
 k:Gl x=(uu3 x:Nat)∧uu3 x≤1073741824
 l:Gm x=(uu4 x:Nat)∧uu4 x≤1073741824
 m:Gn x=(uu5 x:Nat)∧uu5 x≤1073741824
 n:Gp x=(uu6 x:Nat)∧uu6 x≤1073741824
 o:Gq x=(uu7 x:Nat)∧uu7 x≤1073741824
 p:Gr x=(uu8 x:Nat)∧uu8 x≤1073741824
 q:Gt x=(uu9 x:Nat)∧uu9 x≤1073741824
 r:Gu x=(aka x:Nat)∧aka x≤1073741824
variable {y z:Int}
theorem aj0 (h1:x=(a:Nat)∧a≤1073741824) (h2:y=(b:Nat)∧b≤1073741824) (h:z=fe (wr (x*y)) 30):z=(dn a b:Nat)∧dn a b≤1073741824:=by
 rw [h,h1.1,h2.1]; exact ams h1.2 h2.2
theorem ajU (h1:x=(a:Nat)∧a≤1073741824) (h2:y=(b:Nat)∧b≤1073741824) (h:z=ed (wr (x*y)) 30):z=(un a b:Nat)∧un a b≤1073741824:=by
 rw [h,h1.1,h2.1]; exact amu h1.2 h2.2
theorem pws (x:Nat) (hx:x≤8192):Pws x:=by
 have a:Gh x=(dd1 x:Nat)∧dd1 x≤1073741824:=by
  unfold Gh dd1
  rw [j4 (by omega) (by omega),show (x:Int)*6746518852=((x*6746518852:Nat):Int) from (Int.natCast_mul x 6746518852).symm]
  exact ⟨alq _ 16 65536 (by omega) rfl,by omega⟩
 have i:Gi x=(PR x:Nat)∧PR x≤1073741824:=by
  unfold Gi PR
  rw [j4 (by omega) (by omega),show (x:Int)*6746518853=((x*6746518853:Nat):Int) from (Int.natCast_mul x 6746518853).symm]
  exact ⟨akN _ 16 65536 (by omega) rfl (by omega) (by omega),by omega⟩
 have b:=aj0 a a (z:=Gs x) rfl
 have c:=aj0 b a (z:=Gv x) rfl
 have d:=aj0 c a (z:=Gw x) rfl
 have e:=aj0 d a (z:=Gx x) rfl
 have f:=aj0 e a (z:=Gy x) rfl
 have g:=aj0 f a (z:=Gz x) rfl
 have h:=aj0 g a (z:=GA x) rfl
 have j:=ajU i i (z:=Gj x) rfl
 have k:=ajU j i (z:=Gl x) rfl
 have l:=ajU k i (z:=Gm x) rfl
 have m:=ajU l i (z:=Gn x) rfl
 have n:=ajU m i (z:=Gp x) rfl
 have o:=ajU n i (z:=Gq x) rfl
 have p:=ajU o i (z:=Gr x) rfl
 have q:=ajU p i (z:=Gt x) rfl
 have r:=ajU q i (z:=Gu x) rfl
 exact ⟨a,b,c,d,e,f,g,h,i,j,k,l,m,n,o,p,q,r⟩
theorem alu (a c:Nat):dC (a:Int) (c:Int)=((a/c:Nat):Int):=rfl
variable {p m:Nat}
theorem ak1 (hp:p≤10000000000) (hm:m≤10000000000) (h:Int):F8 ((p:Int) - (m:Int)) h=(((p - m)/16384:Nat):Int):=by
 unfold F8 fe mx
 rw [show decide ((14:Int)<0)=false from rfl,show ((2:Int)^min (amJ 14) 64)=16384 from rfl]
 simp only [cond_false]
 rw [amD _ (by omega)]
 split<;>omega
theorem ak0 (hp:p≤10000000000) (hm:m≤p) (h:Int):F9 h ((p:Int) - (m:Int))=((min 65536 ((p - m+16383)/16384):Nat):Int):=by
 unfold F9 mn
 rw [show (p:Int) - (m:Int)=((p - m:Nat):Int) by omega,show (14:Int)=((14:Nat):Int) from rfl,akN (p - m) 14 16384 (by omega) rfl (by omega) (by omega)]
 split<;>omega
variable {s t:Int}
theorem ajR (h1:-10000000000≤s) (h2:s≤10000000000) (h3:0≤t) (h4:t≤10000000000):wr (s+wr (1*t))=s+t:=by
 rw [amM,j4 (x:=t) (by omega) (by omega),j4 (by omega) (by omega)]
theorem ajQ (h1:-10000000000≤s) (h2:s≤10000000000) (h3:0≤t) (h4:t≤10000000000):wr (s+wr (-1*t))=s - t:=by
 rw [ajn,amM,j4 (x:=-t) (by omega) (by omega),j4 (by omega) (by omega)]
 omega
theorem ajS (u c:Nat) (h1:u≤1073741824) (h2:1≤c) (h3:c≤4000000):wr (dC (wr ((wr ((u:Int)+(c:Int))) - 1)) (c:Int))=(((u+(c - 1))/c:Nat):Int)∧(u+(c - 1))/c≤2000000000:=by
 have h:(u+(c - 1))/c≤u+(c - 1):=Nat.div_le_self _ _
 rw [j4 (x:=(u:Int)+c) (by omega) (by omega),j4 (x:=(u:Int)+c - 1) (by omega) (by omega),show (u:Int)+(c:Int) - 1=((u+(c - 1):Nat):Int) by omega,alu]
 generalize (u+(c - 1))/c=z at *
 exact ⟨j4 (by omega) (by omega),by omega⟩
theorem aj1 (u c:Nat) (h1:u≤1073741824):wr (dC (u:Int) (c:Int))=((u/c:Nat):Int)∧u/c≤2000000000:=by
 have h:u/c≤u:=Nat.div_le_self _ _
 rw [alu]
 generalize u/c=z at *
 exact ⟨j4 (by omega) (by omega),by omega⟩
set_option maxRecDepth 10000 in
theorem amy (x:Nat) (hx:x≤8192) (hs:sHm x≤sHp x):LD x=(sLo x:Nat)∧LF x=(Wt x:Nat):=by
 have P:=pws x hx
 have h1:=P.a.2
 have h2:=P.i.2
 obtain ⟨a1,b1⟩:wr (dC (wr ((wr ((uu3 x:Int)+6)) - 1)) 6)=(((uu3 x+5)/6:Nat):Int)∧_:=ajS _ 6 P.k.2 (by omega) (by omega)
 obtain ⟨a2,b2⟩:wr (dC (wr ((wr ((uu5 x:Int)+120)) - 1)) 120)=(((uu5 x+119)/120:Nat):Int)∧_:=ajS _ 120 P.m.2 (by omega) (by omega)
 obtain ⟨a3,b3⟩:wr (dC (wr ((wr ((uu7 x:Int)+5040)) - 1)) 5040)=(((uu7 x+5039)/5040:Nat):Int)∧_:=ajS _ 5040 P.o.2 (by omega) (by omega)
 obtain ⟨a4,b4⟩:wr (dC (wr ((wr ((uu9 x:Int)+362880)) - 1)) 362880)=(((uu9 x+362879)/362880:Nat):Int)∧_:=ajS _ 362880 P.q.2 (by omega) (by omega)
 obtain ⟨a5,b5⟩:wr (dC (dd3 x:Int) 6)=((dd3 x/6:Nat):Int)∧_:=aj1 _ 6 P.c.2
 obtain ⟨a6,b6⟩:wr (dC (dd5 x:Int) 120)=((dd5 x/120:Nat):Int)∧_:=aj1 _ 120 P.e.2
 obtain ⟨a7,b7⟩:wr (dC (dd7 x:Int) 5040)=((dd7 x/5040:Nat):Int)∧_:=aj1 _ 5040 P.g.2
 unfold LD LF
 rw [P.a.1,P.c.1,P.e.1,P.g.1,P.i.1,P.k.1,P.m.1,P.o.1,P.q.1,a1,a2,a3,a4,a5,a6,a7]
 unfold Wt
 unfold sHm sHp at hs ⊢
 unfold sLo
 simp only [Nat.reduceSub] at b1 b2 b3 b4
 generalize (uu3 x+5)/6=A1 at *
 generalize (uu5 x+119)/120=A2 at *
 generalize (uu7 x+5039)/5040=A3 at *
 generalize (uu9 x+362879)/362880=A4 at *
 generalize dd3 x/6=A5 at *
 generalize dd5 x/120=A6 at *
 generalize dd7 x/5040=A7 at *
 generalize dd1 x=d1 at *
 generalize PR x=u1 at *
 clear P a1 a2 a3 a4 a5 a6 a7
 rw [ajR (s:=0) (t:=(d1:Int)) (by omega) (by omega) (by omega) (by omega),ajQ (s:=0+(d1:Int)) (t:=(A1:Int)) (by omega) (by omega) (by omega) (by omega),ajR (s:=0+(d1:Int) - A1) (t:=(A6:Int)) (by omega) (by omega) (by omega) (by omega),ajQ (s:=0+(d1:Int) - A1+A6) (t:=(A3:Int)) (by omega) (by omega) (by omega) (by omega)]
 rw [ajR (s:=0) (t:=(u1:Int)) (by omega) (by omega) (by omega) (by omega),ajQ (s:=0+(u1:Int)) (t:=(A5:Int)) (by omega) (by omega) (by omega) (by omega),ajR (s:=0+(u1:Int) - A5) (t:=(A2:Int)) (by omega) (by omega) (by omega) (by omega),ajQ (s:=0+(u1:Int) - A5+A2) (t:=(A7:Int)) (by omega) (by omega) (by omega) (by omega),ajR (s:=0+(u1:Int) - A5+A2 - A7) (t:=(A4:Int)) (by omega) (by omega) (by omega) (by omega)]
 rw [show (0+(d1:Int) - A1+A6 - A3)=((d1+A6:Nat):Int) - ((A1+A3:Nat):Int) by omega,show 0+(u1:Int) - A5+A2 - A7+A4=((u1+A2+A4:Nat):Int) - ((A5+A7:Nat):Int) by omega]
 exact ⟨ak1 (by omega) (by omega) _,ak0 (by omega) hs _⟩
set_option maxRecDepth 10000 in
theorem alY (x:Nat) (hx:x≤8192) (hs:cHm x≤cHp x):K8 x=(cLo x:Nat)∧La x=(cHi x:Nat):=by
 have P:=pws x hx
 obtain ⟨a1,b1⟩:wr (dC (wr ((wr ((uu2 x:Int)+2)) - 1)) 2)=(((uu2 x+1)/2:Nat):Int)∧_:=ajS _ 2 P.j.2 (by omega) (by omega)
 obtain ⟨a2,b2⟩:wr (dC (wr ((wr ((uu4 x:Int)+24)) - 1)) 24)=(((uu4 x+23)/24:Nat):Int)∧_:=ajS _ 24 P.l.2 (by omega) (by omega)
 obtain ⟨a3,b3⟩:wr (dC (wr ((wr ((uu6 x:Int)+720)) - 1)) 720)=(((uu6 x+719)/720:Nat):Int)∧_:=ajS _ 720 P.n.2 (by omega) (by omega)
 obtain ⟨a4,b4⟩:wr (dC (wr ((wr ((uu8 x:Int)+40320)) - 1)) 40320)=(((uu8 x+40319)/40320:Nat):Int)∧_:=ajS _ 40320 P.p.2 (by omega) (by omega)
 obtain ⟨a5,b5⟩:wr (dC (wr ((wr ((aka x:Int)+3628800)) - 1)) 3628800)=(((aka x+3628799)/3628800:Nat):Int)∧_:=ajS _ 3628800 P.r.2 (by omega) (by omega)
 obtain ⟨a6,b6⟩:wr (dC (dd2 x:Int) 2)=((dd2 x/2:Nat):Int)∧_:=aj1 _ 2 P.b.2
 obtain ⟨a7,b7⟩:wr (dC (dd4 x:Int) 24)=((dd4 x/24:Nat):Int)∧_:=aj1 _ 24 P.d.2
 obtain ⟨a8,b8⟩:wr (dC (dd6 x:Int) 720)=((dd6 x/720:Nat):Int)∧_:=aj1 _ 720 P.f.2
 obtain ⟨a9,b9⟩:wr (dC (dd8 x:Int) 40320)=((dd8 x/40320:Nat):Int)∧_:=aj1 _ 40320 P.h.2
 unfold K8 La
 rw [P.b.1,P.d.1,P.f.1,P.h.1,P.j.1,P.l.1,P.n.1,P.p.1,P.r.1,a1,a2,a3,a4,a5,a6,a7,a8,a9]
 unfold cHi
 unfold cHm cHp at hs ⊢
 unfold cLo
 simp only [Nat.reduceSub] at b1 b2 b3 b4 b5
 generalize (uu2 x+1)/2=A1 at *
 generalize (uu4 x+23)/24=A2 at *
 generalize (uu6 x+719)/720=A3 at *
 generalize (uu8 x+40319)/40320=A4 at *
 generalize (aka x+3628799)/3628800=A5 at *
 generalize dd2 x/2=A6 at *
 generalize dd4 x/24=A7 at *
 generalize dd6 x/720=A8 at *
 generalize dd8 x/40320=A9 at *
 clear P a1 a2 a3 a4 a5 a6 a7 a8 a9
 rw [ajQ (s:=1073741824) (t:=(A1:Int)) (by omega) (by omega) (by omega) (by omega),ajR (s:=1073741824 - (A1:Int)) (t:=(A7:Int)) (by omega) (by omega) (by omega) (by omega),ajQ (s:=1073741824 - (A1:Int)+A7) (t:=(A3:Int)) (by omega) (by omega) (by omega) (by omega),ajR (s:=1073741824 - (A1:Int)+A7 - A3) (t:=(A9:Int)) (by omega) (by omega) (by omega) (by omega),ajQ (s:=1073741824 - (A1:Int)+A7 - A3+A9) (t:=(A5:Int)) (by omega) (by omega) (by omega) (by omega)]
 rw [ajQ (s:=1073741824) (t:=(A6:Int)) (by omega) (by omega) (by omega) (by omega),ajR (s:=1073741824 - (A6:Int)) (t:=(A2:Int)) (by omega) (by omega) (by omega) (by omega),ajQ (s:=1073741824 - (A6:Int)+A2) (t:=(A8:Int)) (by omega) (by omega) (by omega) (by omega),ajR (s:=1073741824 - (A6:Int)+A2 - A8) (t:=(A4:Int)) (by omega) (by omega) (by omega) (by omega)]
 rw [show 1073741824 - (A1:Int)+A7 - A3+A9 - A5=((1073741824+A7+A9:Nat):Int) - ((A1+A3+A5:Nat):Int) by omega,show 1073741824 - (A6:Int)+A2 - A8+A4=((1073741824+A2+A4:Nat):Int) - ((A6+A8:Nat):Int) by omega]
 exact ⟨ak1 (by omega) (by omega) _,ak0 (by omega) hs _⟩
def okX (x:Nat):Bool:=amE (sHm x) (sHp x)&&(amE (cHm x) (cHp x)&&(amE (sLo x) (sLo (Nat.succ x))&&(amE (Wt x) (Wt (Nat.succ x))&&(amE (cLo (Nat.succ x)) (cLo x)&&(amE (cHi (Nat.succ x)) (cHi x)&&(amE (sLo x) (Wt x)&&amE (cLo x) (cHi x)))))))
def okN:Nat→Bool
 | 0=>true
 | n+1=>okX n&&okN n
set_option maxRecDepth 100000 in
theorem akf:okN 8192=true:=by kernel_rfl
def okY (a b c:Nat):Bool:=amE (sHm a) (sHp a)&&(amE (cHm a) (cHp a)&&(amE (sLo a) (cLo b)&&(amE (Wt a) (cHi b)&&(ay (sLo c) 0&&(ay (Wt c) 0&&(ay (cLo c) 65536&&(ay (cHi c) 65536&&amE (sLo a) (Wt a))))))))
theorem aks {c:Nat} (h:okY a b c=true):sHm a≤sHp a∧cHm a≤cHp a∧sLo a≤cLo b∧Wt a≤cHi b∧sLo c=0∧Wt c=0∧cLo c=65536∧cHi c=65536∧sLo a≤Wt a:=by
 unfold okY at h
 simp only [aQ,Nat.ble_eq,Nat.beq_eq] at h
 exact h
theorem akg {x:Nat} (h:okX x=true):sHm x≤sHp x∧cHm x≤cHp x∧sLo x≤sLo (x+1)∧Wt x≤Wt (x+1)∧cLo (x+1)≤cLo x∧cHi (x+1)≤cHi x∧sLo x≤Wt x∧cLo x≤cHi x:=by
 unfold okX at h
 simp only [aQ,Nat.ble_eq] at h
 exact h
set_option maxRecDepth 100000 in
theorem akt:okY 8192 8191 0=true:=by kernel_rfl
theorem aj8:∀{n x:Nat},okN n=true→x<n→okX x=true
 | 0,_,_,h=>by omega
 | n+1,x,hn,h=>by
  unfold okN at hn
  rw [aQ] at hn
  by_cases hx:x=n
  ·subst hx; exact hn.1
  ·exact aj8 hn.2 (by omega)
theorem pts {x:Nat} (h:x≤8192):sHm x≤sHp x∧cHm x≤cHp x:=by
 by_cases hx:x=8192
 ·subst hx
  have:=aks akt
  exact ⟨this.1,this.2.1⟩
 ·have:=akg (aj8 akf (show x<8192 by omega))
  exact ⟨this.1,this.2.1⟩
def fL (r:Nat):Nat:=if r≤8192 then sLo r else cLo (16384 - r)
def fH (r:Nat):Nat:=if r≤8192 then Wt r else cHi (16384 - r)
theorem ake (r:Nat) (h:r≤16384):vW r=(fL r:Nat)∧vX r=(fH r:Nat):=by
 unfold vW vX fL fH
 by_cases hr:r≤8192
 ·rw [show decide ((r:Int)≤8192)=true from decide_eq_true (by omega),if_pos hr,if_pos hr,cond_true,cond_true]
  exact amy r hr (pts hr).1
 ·rw [show decide ((r:Int)≤8192)=false from decide_eq_false (by omega),if_neg hr,if_neg hr,j4 (by omega) (by omega),show (16384:Int) - r=((16384 - r:Nat):Int) by omega,cond_false,cond_false]
  exact alY (16384 - r) (by omega) (pts (by omega)).2
variable {r:Nat}
theorem al1 (h:r<16384):fL r≤fL (r+1)∧fH r≤fH (r+1):=by
 unfold fL fH
 rcases (show r<8192∨r=8192∨8192<r by omega) with h1 | rfl | h1
 ·rw [if_pos (by omega),if_pos (by omega),if_pos (by omega),if_pos (by omega)]
  have:=akg (aj8 akf h1)
  exact ⟨this.2.2.1,this.2.2.2.1⟩
 ·have:=aks akt
  exact ⟨this.2.2.1,this.2.2.2.1⟩
 ·rw [if_neg (by omega),if_neg (by omega),if_neg (by omega),if_neg (by omega)]
  have:=akg (aj8 akf (show 16384 - (r+1)<8192 by omega))
  rw [show 16384 - r=16384 - (r+1)+1 by omega]
  exact ⟨this.2.2.2.2.1,this.2.2.2.2.2.1⟩
theorem ak2 {r:Nat}:∀k:Nat,r+k≤16384→fL r≤fL (r+k)∧fH r≤fH (r+k)
 | 0,_=>⟨au _,au _⟩
 | k+1,h=>by
  have h1:=ak2 (r:=r) k (by omega)
  have h2:=al1 (show r+k<16384 by omega)
  exact ⟨aZ h1.1 h2.1,aZ h1.2 h2.2⟩
theorem alZ:fL 0=0∧fH 0=0∧fL 16384=65536∧fH 16384=65536:=by
 have:=aks akt
 exact ⟨this.2.2.2.2.1,this.2.2.2.2.2.1,this.2.2.2.2.2.2.1,this.2.2.2.2.2.2.2.1⟩
theorem ak3 {a b:Int} (h0:0≤a) (h1:a≤b) (h2:b≤16384):vW a≤vW b∧vX a≤vX b:=by
 obtain ⟨n,rfl⟩:=ajk h0
 obtain ⟨m,rfl⟩:=ajk (show 0≤b by omega)
 have:=ak2 (r:=n) (m - n) (by omega)
 rw [show n+(m - n)=m by omega] at this
 obtain ⟨a1,a2⟩:=ake n (by omega)
 obtain ⟨b1,b2⟩:=ake m (by omega)
 rw [a1,a2,b1,b2]
 omega
theorem al3:(vW 0=0∧vX 0=0)∧vW 16384=65536∧vX 16384=65536:=by
 obtain ⟨a1,a2⟩:=ake 0 (by omega)
 obtain ⟨b1,b2⟩:=ake 16384 (by omega)
 obtain ⟨e1,e2,e3,e4⟩:=alZ
 rw [e1] at a1; rw [e2] at a2; rw [e3] at b1; rw [e4] at b2
 exact ⟨⟨a1,a2⟩,b1,b2⟩
theorem al0 (h:r≤16384):fL r≤fH r∧fH r≤65536:=by
 unfold fL fH
 by_cases hr:r≤8192
 ·rw [if_pos hr,if_pos hr]
  refine ⟨?_,Nat.min_le_left _ _⟩
  by_cases h8:r=8192
  ·subst h8; exact (aks akt).2.2.2.2.2.2.2.2
  ·exact (akg (aj8 akf (show r<8192 by omega))).2.2.2.2.2.2.1
 ·rw [if_neg hr,if_neg hr]
  exact ⟨(akg (aj8 akf (show 16384 - r<8192 by omega))).2.2.2.2.2.2.2,Nat.min_le_left _ _⟩
theorem aj3 {a:Int} (h0:0≤a) (h2:a≤16384):0≤vW a∧vW a≤vX a∧vX a≤65536:=by
 obtain ⟨n,rfl⟩:=ajk h0
 obtain ⟨a1,a2⟩:=ake n (by omega)
 have:=al0 (show n≤16384 by omega)
 rw [a1,a2]
 omega
end Go.Proofs
end
section
namespace Go.Proofs
open Go.Sm
theorem akJ (a:Int):kH a=a % 65536:=by
 unfold kH Wu
 rw [show bg.bits=64 from rfl,BitVec.toNat_and,show (ae6 64 65535).toNat=2^16 - 1 from rfl,Nat.and_two_pow_sub_one_eq_mod,BitVec.toNat_ofInt,dz _ (by omega)]
 omega
def fold (u:Int):Int:=if u≤32768 then u else 65536 - u
def K0 (w:Int):Int:=if w≤16384 then -(vX (16384 - w)) else vW (w - 16384)
def K1 (w:Int):Int:=if w≤16384 then -(vW (16384 - w)) else vX (w - 16384)
variable {a b:Int}
theorem alG (h0:0≤a) (h1:a≤b) (h2:b≤32768):K0 a≤K0 b∧K1 a≤K1 b:=by
 unfold K0 K1
 by_cases ha:a≤16384
 ·by_cases hb:b≤16384
  ·rw [if_pos ha,if_pos hb,if_pos ha,if_pos hb]
   have:=ak3 (a:=16384 - b) (b:=16384 - a) (by omega) (by omega) (by omega)
   omega
  ·rw [if_pos ha,if_neg hb,if_pos ha,if_neg hb]
   have:=aj3 (a:=16384 - a) (by omega) (by omega)
   have:=aj3 (a:=b - 16384) (by omega) (by omega)
   omega
 ·rw [if_neg ha,if_neg (by omega),if_neg ha,if_neg (by omega)]
  exact ak3 (by omega) (by omega) (by omega)
theorem akb {w:Int} (h0:0≤w) (h2:w≤32768):-65536≤K0 w∧K0 w≤K1 w∧K1 w≤65536:=by
 unfold K0 K1
 by_cases ha:w≤16384
 ·rw [if_pos ha,if_pos ha]
  have:=aj3 (a:=16384 - w) (by omega) (by omega)
  omega
 ·rw [if_neg ha,if_neg ha]
  have:=aj3 (a:=w - 16384) (by omega) (by omega)
  omega
theorem akr (h1:-2147483648≤a) (h2:a≤b) (h3:b≤2147483648):wZ a b=-b∧xe a b=-a:=by
 have hv:fC a b=true:=by
  unfold fC
  rw [decide_eq_true h1,decide_eq_true h2,decide_eq_true h3]; rfl
 unfold wZ xe
 rw [hv,cond_true,cond_true]
 exact ⟨j4 (by omega) (by omega),j4 (by omega) (by omega)⟩
theorem akh (t:Int):iQ t=K0 (fold ((t+16384) % 65536))∧iR t=K1 (fold ((t+16384) % 65536)):=by
 have h0:0≤t % 65536:=amL _ (by omega)
 have h1:t % 65536<65536:=Int.emod_lt_of_pos _ (by omega)
 have hu:(t+16384) % 65536=if t % 65536<49152 then t % 65536+16384 else t % 65536 - 49152:=by
  split<;>omega
 unfold iQ iR
 rw [akJ,hu]
 generalize t % 65536=m at h0 h1
 clear hu
 rw [show dC m 16384=m/16384 from Int.tdiv_eq_ediv_of_nonneg h0,show bP m 16384=m % 16384 from Int.tmod_eq_emod_of_nonneg h0,j4 (x:=m/16384) (by omega) (by omega),j4 (x:=16384 - m % 16384) (by omega) (by omega)]
 rcases (show m/16384=0∨m/16384=1∨m/16384=2∨m/16384=3 by omega) with e | e | e | e
 ·rw [e,show ((0:Int)==0)=true from rfl,cond_true,cond_true,if_pos (by omega)]
  unfold K0 K1 fold
  rw [if_pos (show m+16384≤32768 by omega)]
  by_cases hm:m=0
  ·subst hm
   rw [if_pos (by omega),if_pos (by omega)]
   have:=al3.1
   simp only [Int.zero_emod,Int.zero_add,Int.sub_self]
   omega
  ·rw [if_neg (by omega),if_neg (by omega),show m % 16384=m+16384 - 16384 by omega]
   exact ⟨rfl,rfl⟩
 ·rw [e,show ((1:Int)==0)=false from rfl,show ((1:Int)==1)=true from rfl,cond_false,cond_false,cond_true,cond_true,if_pos (by omega)]
  unfold K0 K1 fold
  by_cases hm:m=16384
  ·subst hm
   rw [if_pos (show (16384:Int)+16384≤32768 by omega),if_neg (show ¬(16384:Int)+16384≤16384 by omega),if_neg (show ¬(16384:Int)+16384≤16384 by omega),show (16384:Int) - 16384 % 16384=16384+16384 - 16384 by omega]
   exact ⟨rfl,rfl⟩
  ·rw [if_neg (show ¬m+16384≤32768 by omega),if_neg (by omega),if_neg (by omega),show 65536 - (m+16384) - 16384=16384 - m % 16384 by omega]
   exact ⟨rfl,rfl⟩
 ·have hf:=aj3 (a:=m % 16384) (by omega) (by omega)
  have hn:=akr (a:=vW (m % 16384)) (b:=vX (m % 16384)) (by omega) (by omega) (by omega)
  rw [e,show ((2:Int)==0)=false from rfl,show ((2:Int)==1)=false from rfl,show ((2:Int)==2)=true from rfl,cond_false,cond_false,cond_false,cond_false,cond_true,cond_true,if_pos (by omega),hn.1,hn.2]
  unfold K0 K1 fold
  rw [if_neg (show ¬m+16384≤32768 by omega),if_pos (by omega),if_pos (by omega),show 16384 - (65536 - (m+16384))=m % 16384 by omega]
  exact ⟨rfl,rfl⟩
 ·have hf:=aj3 (a:=16384 - m % 16384) (by omega) (by omega)
  have hn:=akr (a:=vW (16384 - m % 16384)) (b:=vX (16384 - m % 16384)) (by omega) (by omega) (by omega)
  rw [e,show ((3:Int)==0)=false from rfl,show ((3:Int)==1)=false from rfl,show ((3:Int)==2)=false from rfl,cond_false,cond_false,cond_false,cond_false,cond_false,cond_false,if_neg (by omega),hn.1,hn.2]
  unfold K0 K1 fold
  rw [if_pos (show m - 49152≤32768 by omega),if_pos (by omega),if_pos (by omega),show 16384 - (m - 49152)=16384 - m % 16384 by omega]
  exact ⟨rfl,rfl⟩
theorem akk (t:Int):jh t=K0 (fold ((t+32768) % 65536))∧ji t=K1 (fold ((t+32768) % 65536)):=by
 unfold jh ji
 rw [akJ,j4 (by omega) (by omega),show (t+32768) % 65536=(t % 65536+16384+16384) % 65536 by omega]
 exact akh _
theorem ajM (t:Int):0≤fold (t % 65536)∧fold (t % 65536)≤32768:=by
 unfold fold
 split<;>omega
variable {X t Y s:Int}
theorem ak6 (h1:X≤t) (h2:t≤Y) (hb:(b+s) % 65536=0) (h:¬X+(b - X) % 65536≤Y):fold ((X+s) % 65536)≤fold ((t+s) % 65536)∨fold ((Y+s) % 65536)≤fold ((t+s) % 65536):=by
 have hX:(X+s) % 65536≠0:=by omega
 have e:(b - X) % 65536=65536 - (X+s) % 65536:=by omega
 have et:(t+s) % 65536=(X+s) % 65536+(t - X):=by omega
 have eY:(Y+s) % 65536=(X+s) % 65536+(Y - X):=by omega
 rw [et,eY]
 have:0≤(X+s) % 65536:=amL _ (by omega)
 generalize (X+s) % 65536=u at *
 unfold fold
 (repeat' split)<;>omega
theorem ak5 (h1:X≤t) (h2:t≤Y) (hb:(b+s) % 65536=32768) (h:¬X+(b - X) % 65536≤Y):fold ((t+s) % 65536)≤fold ((X+s) % 65536)∨fold ((t+s) % 65536)≤fold ((Y+s) % 65536):=by
 have hX:(X+s+32768) % 65536≠0:=by omega
 have e:(b - X) % 65536=65536 - (X+s+32768) % 65536:=by omega
 have et:(t+s+32768) % 65536=(X+s+32768) % 65536+(t - X):=by omega
 have eY:(Y+s+32768) % 65536=(X+s+32768) % 65536+(Y - X):=by omega
 have k:∀z:Int,fold (z % 65536)=if (z+32768) % 65536≤32768 then 32768 - (z+32768) % 65536 else (z+32768) % 65536 - 32768:=fun z=>by
  unfold fold
  (repeat' split)<;>omega
 rw [k,k,k,et,eY]
 have:0≤(X+s+32768) % 65536:=amL _ (by omega)
 generalize (X+s+32768) % 65536=u at *
 (repeat' split)<;>omega
def Iv (a b:Int):Prop:=-2147483648≤a∧a≤b∧b≤2147483648
def In (a b A B:Int):Prop:=-2147483648≤A∧A≤a∧a≤b∧b≤B∧B≤2147483648
variable {A B:Int}
theorem In.i (h:In a b A B):Iv a b:=by unfold In at h; unfold Iv; omega
theorem In.o (h:In a b A B):Iv A B:=by unfold In at h; unfold Iv; omega
theorem al5 (h:Iv a b):In a b a b:=by unfold Iv at h; unfold In; omega
theorem ajW (h:Iv a b):fC a b=true:=by
 obtain ⟨h1,h2,h3⟩:=h
 unfold fC
 rw [decide_eq_true h1,decide_eq_true h2,decide_eq_true h3]; rfl
variable {c d:Int}
theorem akH (h:Iv a b) (k:Iv c d):qB a b c d=true:=by
 unfold qB
 rw [ajW h,ajW k]; rfl
theorem akn (h:Iv a b) (k:Iv c d):jN a b c d=mn a c∧jO a b c d=mx b d:=by
 unfold jN jO
 rw [akH h k,cond_true,cond_true]
 exact ⟨rfl,rfl⟩
theorem akp (h:Iv a b) (hc:0≤c) (hc2:c<65536):mW a b c=decide (a+(c - a) % 65536≤b):=by
 have h':=h
 unfold Iv at h'
 unfold mW BA
 rw [akJ,j4 (x:=c - a) (by omega) (by omega),j4 (by omega) (by omega),ajW h,cond_true,decide_eq_true (show a≤a+(c - a) % 65536 by omega),cond_true]
theorem alF (h:Iv a b):vY a b=b - a:=by
 have h':=h
 unfold Iv at h'
 unfold vY
 rw [ajW h,cond_true]
 exact j4 (by omega) (by omega)
def ovr (w t b:Bool) (p0 p1 q0 q1:Int):Int×Int:=bif w then (-65536,65536) else (bif b then -65536 else mn p0 q0,bif t then 65536 else mx p1 q1)
variable {w:Bool} {p0 p1 q0 q1:Int}
theorem alg {t b:Bool} (hp:-65536≤p0∧p0≤p1∧p1≤65536) (hq:-65536≤q0∧q0≤q1∧q1≤65536) :
  (bif w then (-65536) else (bif t then (bif b then (jN (jN (jN p0 p1 q0 q1) (jO p0 p1 q0 q1) 65536 65536) (jO (jN p0 p1 q0 q1) (jO p0 p1 q0 q1) 65536 65536) (-65536) (-65536)) else (jN (jN p0 p1 q0 q1) (jO p0 p1 q0 q1) 65536 65536)) else (bif b then (jN (jN p0 p1 q0 q1) (jO p0 p1 q0 q1) (-65536) (-65536)) else (jN p0 p1 q0 q1))))=(ovr w t b p0 p1 q0 q1).1 ∧
  (bif w then 65536 else (bif t then (bif b then (jO (jN (jN p0 p1 q0 q1) (jO p0 p1 q0 q1) 65536 65536) (jO (jN p0 p1 q0 q1) (jO p0 p1 q0 q1) 65536 65536) (-65536) (-65536)) else (jO (jN p0 p1 q0 q1) (jO p0 p1 q0 q1) 65536 65536)) else (bif b then (jO (jN p0 p1 q0 q1) (jO p0 p1 q0 q1) (-65536) (-65536)) else (jO p0 p1 q0 q1))))=(ovr w t b p0 p1 q0 q1).2:=by
 have h1:=akn (a:=p0) (b:=p1) (c:=q0) (d:=q1) (by unfold Iv; omega) (by unfold Iv; omega)
 rw [h1.1,h1.2]
 have m0:-65536≤mn p0 q0∧mn p0 q0≤mx p1 q1∧mx p1 q1≤65536:=by unfold mn mx; (repeat' split)<;>omega
 unfold ovr
 generalize mn p0 q0=m at *
 generalize mx p1 q1=M at *
 have h2:=akn (a:=m) (b:=M) (c:=65536) (d:=65536) (by unfold Iv; omega) (by unfold Iv; omega)
 have h3:=akn (a:=m) (b:=M) (c:=-65536) (d:=-65536) (by unfold Iv; omega) (by unfold Iv; omega)
 have h4:=akn (a:=m) (b:=65536) (c:=-65536) (d:=-65536) (by unfold Iv; omega) (by unfold Iv; omega)
 have e1:mn m 65536=m:=if_neg (by omega)
 have e2:mx M 65536=65536:=by unfold mx; split<;>omega
 have e3:mn m (-65536)=-65536:=by unfold mn; split<;>omega
 have e4:∀z,-65536≤z→mx z (-65536)=z:=fun z hz=>if_neg (by omega)
 rw [e1,e2] at h2
 rw [e3,e4 _ (by omega)] at h3 h4
 rw [h2.1,h2.2,h3.1,h3.2,h4.1,h4.2]
 cases w<;>cases t<;>cases b<;>exact ⟨rfl,rfl⟩
theorem amm {t b W T B:Bool} {P0 P1 Q0 Q1:Int} (hp:-65536≤p0∧p0≤p1∧p1≤65536) (hq:-65536≤q0∧q0≤q1∧q1≤65536) (hP:-65536≤P0∧P0≤P1∧P1≤65536) (hQ:-65536≤Q0∧Q0≤Q1∧Q1≤65536)
  (h1:W=false→w=false) (h2:W=false→B=false→b=false∧(P0≤p0∨Q0≤p0)∧(P0≤q0∨Q0≤q0)) (h3:W=false→T=false→t=false∧(p1≤P1∨p1≤Q1)∧(q1≤P1∨q1≤Q1)) :
  In (ovr w t b p0 p1 q0 q1).1 (ovr w t b p0 p1 q0 q1).2 (ovr W T B P0 P1 Q0 Q1).1 (ovr W T B P0 P1 Q0 Q1).2:=by
 unfold ovr In mn mx
 cases W with
 | true=>cases w<;>cases t<;>cases b<;>simp only [cond_true,cond_false]<;>(repeat' split)<;>omega
 | false =>
  rw [h1 rfl]
  cases B with
  | true =>
   cases T with
   | true=>cases t<;>cases b<;>simp only [cond_true,cond_false]<;>(repeat' split)<;>omega
   | false =>
    obtain ⟨e,_,_⟩:=h3 rfl rfl
    rw [e]
    cases b<;>simp only [cond_true,cond_false]<;>(repeat' split)<;>omega
  | false =>
   obtain ⟨e,_,_⟩:=h2 rfl rfl
   rw [e]
   cases T with
   | true=>cases t<;>simp only [cond_true,cond_false]<;>(repeat' split)<;>omega
   | false =>
    obtain ⟨e,_,_⟩:=h3 rfl rfl
    rw [e]
    simp only [cond_false]
    (repeat' split)<;>omega
def ovK (s τ β x y:Int):Int×Int:=ovr (decide (65536≤y - x)) (decide (x+(τ - x) % 65536≤y)) (decide (x+(β - x) % 65536≤y)) (K0 (fold ((x+s) % 65536))) (K1 (fold ((x+s) % 65536))) (K0 (fold ((y+s) % 65536))) (K1 (fold ((y+s) % 65536)))
variable {x y:Int}
theorem alf {τ β:Int} (hb:(β+s) % 65536=0) (ht:(τ+s) % 65536=32768) (h:In x y X Y):In (ovK s τ β x y).1 (ovK s τ β x y).2 (ovK s τ β X Y).1 (ovK s τ β X Y).2:=by
 unfold In at h
 have k:∀z:Int,-65536≤K0 (fold ((z+s) % 65536))∧K0 (fold ((z+s) % 65536))≤K1 (fold ((z+s) % 65536))∧K1 (fold ((z+s) % 65536))≤65536:=fun z=>akb (ajM _).1 (ajM _).2
 have m:∀z z':Int,fold ((z+s) % 65536)≤fold ((z'+s) % 65536)→K0 (fold ((z+s) % 65536))≤K0 (fold ((z'+s) % 65536))∧K1 (fold ((z+s) % 65536))≤K1 (fold ((z'+s) % 65536)):=fun z z' h=>alG (ajM _).1 h (ajM _).2
 refine amm (k x) (k y) (k X) (k Y) (fun hw=>?_) (fun hw hB=>?_) (fun hw hT=>?_)
 ·have:=of_decide_eq_false hw
  exact decide_eq_false (by omega)
 ·have h1:=of_decide_eq_false hB
  refine ⟨decide_eq_false (by omega),?_,?_⟩
  ·exact (ak6 (t:=x) (by omega) (by omega) hb h1).imp (fun q=>(m _ _ q).1) (fun q=>(m _ _ q).1)
  ·exact (ak6 (t:=y) (by omega) (by omega) hb h1).imp (fun q=>(m _ _ q).1) (fun q=>(m _ _ q).1)
 ·have h1:=of_decide_eq_false hT
  refine ⟨decide_eq_false (by omega),?_,?_⟩
  ·exact (ak5 (t:=x) (by omega) (by omega) ht h1).imp (fun q=>(m _ _ q).2) (fun q=>(m _ _ q).2)
  ·exact (ak5 (t:=y) (by omega) (by omega) ht h1).imp (fun q=>(m _ _ q).2) (fun q=>(m _ _ q).2)
theorem akx (h:Iv x y):afn x y=(ovK 16384 16384 49152 x y).1∧pU x y=(ovK 16384 16384 49152 x y).2:=by
 unfold afn pU ovK
 rw [ajW h,cond_true,cond_true,alF h,akp h (by omega) (by omega),akp h (by omega) (by omega),(akh x).1,(akh x).2,(akh y).1,(akh y).2]
 exact alg (akb (ajM _).1 (ajM _).2) (akb (ajM _).1 (ajM _).2)
theorem akj (h:Iv x y):rP x y=(ovK 32768 0 32768 x y).1∧rQ x y=(ovK 32768 0 32768 x y).2:=by
 unfold rP rQ ovK
 rw [ajW h,cond_true,cond_true,alF h,akp h (by omega) (by omega),akp h (by omega) (by omega),(akk x).1,(akk x).2,(akk y).1,(akk y).2]
 exact alg (akb (ajM _).1 (ajM _).2) (akb (ajM _).1 (ajM _).2)
theorem amx (h:In x y X Y):In (afn x y) (pU x y) (afn X Y) (pU X Y):=by
 rw [(akx h.i).1,(akx h.i).2,(akx h.o).1,(akx h.o).2]
 exact alf (by omega) (by omega) h
theorem alX (h:In x y X Y):In (rP x y) (rQ x y) (rP X Y) (rQ X Y):=by
 rw [(akj h.i).1,(akj h.i).2,(akj h.o).1,(akj h.o).2]
 exact alf (by omega) (by omega) h
end Go.Proofs
end
section
namespace Go.Proofs
open En
def Enc (r:Int×Int) (X D:Int):Prop:=r.1*D≤X∧X≤r.2*D
variable {a b c:Int}
theorem ahh (h:a≤b) (hc:0≤c):a*c≤b*c:=Int.mul_le_mul_of_nonneg_right h hc
theorem ahX (h:a≤b) (hc:0≤c):c*a≤c*b:=amG h hc
theorem ahE (h:a≤b) (hc:c≤0):b*c≤a*c:=Int.mul_le_mul_of_nonpos_right h hc
variable {d X Y D E:Int}
theorem ahN (hD:0≤D) (hE:0≤E) (hx:Enc (a,b) X D) (hy:Enc (c,d) Y E) (m:Int) (h1:m≤a*c) (h2:m≤a*d) (h3:m≤b*c) (h4:m≤b*d):m*(D*E)≤X*Y:=by
 obtain ⟨x1,x2⟩:=hx
 obtain ⟨y1,y2⟩:=hy
 simp only at x1 x2 y1 y2
 have hDE:0≤D*E:=ajm hD hE
 have k:∀p q:Int,m≤p*q→m*(D*E)≤(p*D)*(q*E):=fun p q h=>by
  have:=ahh h hDE
  have e:p*q*(D*E)=(p*D)*(q*E):=by ac_rfl
  omega
 rcases Int.le_total 0 Y with hY | hY
 ·
  have s1:(a*D)*Y≤X*Y:=ahh x1 hY
  rcases Int.le_total 0 (a*D) with ha | ha
  ·exact ajr (k a c h1) (ajr (ahX y1 ha) s1)
  ·have s2:(a*D)*(d*E)≤(a*D)*Y:=by
    have:=ahE y2 ha
    rw [Int.mul_comm (d*E),Int.mul_comm Y] at this
    exact this
   exact ajr (k a d h2) (ajr s2 s1)
 ·have s1:(b*D)*Y≤X*Y:=ahE x2 hY
  rcases Int.le_total 0 (b*D) with hb | hb
  ·exact ajr (k b c h3) (ajr (ahX y1 hb) s1)
  ·have s2:(b*D)*(d*E)≤(b*D)*Y:=by
    have:=ahE y2 hb
    rw [Int.mul_comm (d*E),Int.mul_comm Y] at this
    exact this
   exact ajr (k b d h4) (ajr s2 s1)
theorem aio (hD:0≤D) (hE:0≤E) (hx:Enc (a,b) X D) (hy:Enc (c,d) Y E) (m:Int) (h1:a*c≤m) (h2:a*d≤m) (h3:b*c≤m) (h4:b*d≤m):X*Y≤m*(D*E):=by
 have hn:Enc (-b,-a) (-X) D:=by
  obtain ⟨x1,x2⟩:=hx
  simp only at x1 x2
  constructor
  ·show -b*D≤-X; rw [ajn]; omega
  ·show -X≤-a*D; rw [ajn]; omega
 have:=ahN hD hE hn hy (-m) (by rw [ajn]; omega) (by rw [ajn]; omega) (by rw [ajn]; omega) (by rw [ajn]; omega)
 rw [ajn,ajn] at this
 omega
theorem aho {r:Int×Int} (h:r.1≤r.2):Enc r r.1 1:=by constructor<;>simp [h]
end Go.Proofs
end
section
namespace Go.Proofs
open Go.Sm Go.RowKit En
theorem ahl {a b c d:Int} (h:pV a b c d=true):iA a b c d=mulL a b c d/65536∧iB a b c d=(wS a b c d+65535)/65536∧a≤b∧c≤d:=by
 unfold pV at h
 unfold iA iB
 rw [h]
 unfold wT mX at h
 simp only [aQ,decide_eq_true_eq] at h
 exact ⟨rfl,rfl,h.1.1.2.1,h.1.2.2.1⟩
structure ag8 (v:V6) (X:Nat→Int) (D:Int):Prop where
 a:Enc (v.a,v.b) (X 0) D
 b:Enc (v.c,v.d) (X 1) D
 c:Enc (v.e,v.f) (X 2) D
def J9 (v:V6):Nat→Int
 | 0=>v.a
 | 1=>v.c
 | _=>v.e
theorem aiJ {v:V6} {r:Int×Int} {k:Bool} (h:tJ k v r=false):ag8 v (J9 v) 1∧r.1≤r.2:=by
 unfold tJ DR at h
 simp only [ajj,amH] at h
 exact ⟨⟨aho (ahl h.1.1.2).2.2.1,aho (ahl h.1.2).2.2.1,aho (ahl h.2).2.2.1⟩,(ahl h.2).2.2.2⟩
end Go.Proofs
end
section
namespace Go.Proofs
open Go.Sm Go.RowKit En
def ahb:Nat→(Nat→Int)→Int
 | 0,_=>0
 | n+1,f=>ahb n f+f n
structure PwI (n:Nat) (W:Nat→Int) (L:List (Int×Int)) (P:Nat→Int) (T:Int):Prop where
 len:L.length=n
 enc:∀j,Enc (L.getD j (0,0)) (P j) (65536*(1*65536))
 tot:ahb n (fun j=>W j*P j)=T
end Go.Proofs
end
section
namespace Go.Proofs
open Go.Sm Go.RowKit En
def gu (r R:Int×Int):Prop:=In r.1 r.2 R.1 R.2
def ajP (r s:Int×Int):Int×Int:=(eu r.1 r.2 s.1 s.2,fI r.1 r.2 s.1 s.2)
def ajY (r s:Int×Int):Int×Int:=(dV r.1 r.2 s.1 s.2,dW r.1 r.2 s.1 s.2)
def akq (r:Int×Int):Int×Int:=(wZ r.1 r.2,xe r.1 r.2)
def ako (r:Int×Int):Int×Int:=(mV r.1,mV r.2)
def akw (r:Int×Int):Int×Int:=(afn r.1 r.2,pU r.1 r.2)
def akE (r:Int×Int):Int×Int:=(rP r.1 r.2,rQ r.1 r.2)
variable {a b:Int}
theorem akD (h:a≤b):F7 a≤F7 b∧-2147483648≤F7 a∧F7 b≤2147483648:=by
 unfold F7 mn mx
 (repeat' split)<;>omega
theorem akI (h:a≤b):mV a≤mV b∧-65536≤mV a∧mV b≤65536:=by
 unfold mV mn mx
 (repeat' split)<;>omega
variable {A B:Int}
theorem akC (h1:A≤a) (h2:a≤b) (h3:b≤B):In (F7 a) (F7 b) (F7 A) (F7 B):=by
 have:=akD h1
 have:=akD h2
 have:=akD h3
 unfold In
 omega
variable {r s R S:Int×Int}
theorem akc (h:gu r R) (k:gu s S):gu (ajP r s) (ajP R S):=by
 have e:∀{r s:Int×Int},Iv r.1 r.2→Iv s.1 s.2→ajP r s=(F7 (r.1+s.1),F7 (r.2+s.2)):=fun {r s} h k=>by
  unfold ajP eu fI Dw Dx
  rw [akH h k,cond_true,cond_true]
  unfold Iv at h k
  rw [j4 (by omega) (by omega),j4 (by omega) (by omega)]
 rw [gu,e h.i k.i,e h.o k.o]
 unfold gu In at h k
 exact akC (by omega) (by omega) (by omega)
theorem amj (h:gu r R):gu (akq r) (akq R):=by
 unfold gu In at *
 unfold akq
 have n:=akr (a:=r.1) (b:=r.2) (by omega) (by omega) (by omega)
 have N:=akr (a:=R.1) (b:=R.2) (by omega) (by omega) (by omega)
 rw [n.1,n.2,N.1,N.2]
 simp only
 omega
theorem al7 (h:gu r R):gu (ako r) (ako R):=by
 unfold gu In at *
 have:=akI (show R.1≤r.1 by omega)
 have:=akI (show r.1≤r.2 by omega)
 have:=akI (show r.2≤R.2 by omega)
 unfold ako
 simp only
 omega
theorem amw (h:gu r R):gu (akw r) (akw R):=amx h
theorem alW (h:gu r R):gu (akE r) (akE R):=alX h
theorem amt (a:Int):fe a 16=a/65536:=by
 unfold fe
 rw [show decide ((16:Int)<0)=false from rfl,cond_false,show ((2:Int)^min (amJ 16) 64)=65536 from rfl]
 exact amD _ (by omega)
theorem amv (a:Int) (h1:-4611686018427387904≤a) (h2:a≤4611686018427387904):ed a 16=(a+65535)/65536:=by
 unfold ed
 rw [show decide ((16:Int)<0)=false from rfl,cond_false,show ((2:Int)^min (amJ 16) 64)=65536 from rfl,amD _ (by omega),j4 (by omega) (by omega),j4 (by omega) (by omega)]
 by_cases h:a/65536*65536=a
 ·rw [show (a/65536*65536 != a)=false by rw [bne_eq_false_iff_eq]; exact h,cond_false]
  omega
 ·rw [show (a/65536*65536 != a)=true by rw [bne_iff_ne]; exact h,cond_true]
  omega
def ED (a b c d:Int):Int:=mn (mn (mn (mn (a*c) (a*c)) (a*d)) (b*c)) (b*d)
def hi4 (a b c d:Int):Int:=mx (mx (mx (mx (a*c) (a*c)) (a*d)) (b*c)) (b*d)
theorem ak8 (a b c d:Int):(ED a b c d≤a*c∧ED a b c d≤a*d∧ED a b c d≤b*c∧ED a b c d≤b*d)∧(ED a b c d=a*c∨ED a b c d=a*d∨ED a b c d=b*c∨ED a b c d=b*d):=by
 unfold ED mn
 generalize a*c=p
 generalize a*d=q
 generalize b*c=r
 generalize b*d=t
 (repeat' split)<;>omega
theorem akG (a b c d:Int):(a*c≤hi4 a b c d∧a*d≤hi4 a b c d∧b*c≤hi4 a b c d∧b*d≤hi4 a b c d)∧(hi4 a b c d=a*c∨hi4 a b c d=a*d∨hi4 a b c d=b*c∨hi4 a b c d=b*d):=by
 unfold hi4 mx
 generalize a*c=p
 generalize a*d=q
 generalize b*c=r
 generalize b*d=t
 (repeat' split)<;>omega
variable {C D:Int}
theorem aku {p q:Int} (h1:A≤p) (h2:p≤B) (h3:C≤q) (h4:q≤D):(∀m:Int,m≤A*C→m≤A*D→m≤B*C→m≤B*D→m≤p*q)∧(∀m:Int,A*C≤m→A*D≤m→B*C≤m→B*D≤m→p*q≤m):=by
 have e1:Enc (A,B) p 1:=⟨by simpa using h1,by simpa using h2⟩
 have e2:Enc (C,D) q 1:=⟨by simpa using h3,by simpa using h4⟩
 exact ⟨fun m a b c d=>by simpa using ahN (by omega) (by omega) e1 e2 m a b c d,fun m a b c d=>by simpa using aio (by omega) (by omega) e1 e2 m a b c d⟩
theorem ali {c d:Int} (h1:A≤a) (h2:a≤b) (h3:b≤B) (k1:C≤c) (k2:c≤d) (k3:d≤D):ED A B C D≤ED a b c d∧ED a b c d≤hi4 a b c d∧hi4 a b c d≤hi4 A B C D:=by
 obtain ⟨⟨l1,l2,l3,l4⟩,_⟩:=ak8 A B C D
 obtain ⟨⟨g1,g2,g3,g4⟩,_⟩:=akG A B C D
 obtain ⟨⟨m1,_⟩,m5⟩:=ak8 a b c d
 obtain ⟨⟨n1,_⟩,n5⟩:=akG a b c d
 have p:∀x y:Int,A≤x→x≤B→C≤y→y≤D→ED A B C D≤x*y∧x*y≤hi4 A B C D:=fun x y a1 a2 a3 a4=>⟨(aku a1 a2 a3 a4).1 _ l1 l2 l3 l4,(aku a1 a2 a3 a4).2 _ g1 g2 g3 g4⟩
 have q1:=p a c (by omega) (by omega) (by omega) (by omega)
 have q2:=p a d (by omega) (by omega) (by omega) (by omega)
 have q3:=p b c (by omega) (by omega) (by omega) (by omega)
 have q4:=p b d (by omega) (by omega) (by omega) (by omega)
 omega
theorem akL (h:gu r R) (k:gu s S):gu (ajY r s) (ajY R S):=by
 have e:∀{r s:Int×Int},Iv r.1 r.2→Iv s.1 s.2→ajY r s=(F7 (ED r.1 r.2 s.1 s.2/65536),F7 ((hi4 r.1 r.2 s.1 s.2+65535)/65536)):=fun {r s} h k=>by
  unfold ajY dV dW LB LC Dw Dx
  rw [akH h k,cond_true,cond_true]
  unfold Iv at h k
  have b:∀p q:Int,-2147483648≤p→p≤2147483648→-2147483648≤q→q≤2147483648→-4611686018427387904≤p*q∧p*q≤4611686018427387904:=fun p q a1 a2 a3 a4=>⟨(aku a1 a2 a3 a4).1 _ (by omega) (by omega) (by omega) (by omega),(aku a1 a2 a3 a4).2 _ (by omega) (by omega) (by omega) (by omega)⟩
  have b1:=b r.1 s.1 (by omega) (by omega) (by omega) (by omega)
  have b2:=b r.1 s.2 (by omega) (by omega) (by omega) (by omega)
  have b3:=b r.2 s.1 (by omega) (by omega) (by omega) (by omega)
  have b4:=b r.2 s.2 (by omega) (by omega) (by omega) (by omega)
  rw [j4 (x:=r.1*s.1) (by omega) (by omega),j4 (x:=r.1*s.2) (by omega) (by omega),j4 (x:=r.2*s.1) (by omega) (by omega),j4 (x:=r.2*s.2) (by omega) (by omega)]
  have g:=(akG r.1 r.2 s.1 s.2).2
  have e1:=amt (ED r.1 r.2 s.1 s.2)
  have e2:=amv (hi4 r.1 r.2 s.1 s.2) (by omega) (by omega)
  unfold ED at e1
  unfold hi4 at e2
  rw [e1,e2]
  rfl
 rw [gu,e h.i k.i,e h.o k.o]
 unfold gu In at h k
 have:=ali (A:=R.1) (a:=r.1) (b:=r.2) (B:=R.2) (C:=S.1) (c:=s.1) (d:=s.2) (D:=S.2) (by omega) (by omega) (by omega) (by omega) (by omega) (by omega)
 exact akC (by omega) (by omega) (by omega)
theorem akZ (h1:-2147483648≤a) (h2:a≤2147483648):gu (a,a) (a,a):=al5 ⟨h1,amN _,h2⟩
theorem iX:gu (0,0) (0,0):=akZ (by omega) (by omega)
theorem ajT:gu (65536,65536) (65536,65536):=akZ (by omega) (by omega)
def akd (x y z a b c:Int×Int):Int×Int:=ajP (ajP (ajP (0,0) (ajY x a)) (ajY y b)) (ajY z c)
variable {c:Int×Int}
theorem akF {x y z a b X Y Z A B C:Int×Int} (h1:gu x X) (h2:gu y Y) (h3:gu z Z) (k1:gu a A) (k2:gu b B) (k3:gu c C):gu (akd x y z a b c) (akd X Y Z A B C):=akc (akc (akc iX (akL h1 k1)) (akL h2 k2)) (akL h3 k3)
def iv (p:iF) (i:Nat):Int×Int:=(p (2*i),p (2*i+1))
def PIn (p P:iF):Prop:=∀i,i<12→gu (iv p i) (iv P i)
def akW (p q:iF) (i:Nat):Int×Int:=bif amE i 8 then ako (akd (iv p (i/3*3)) (iv p (i/3*3+1)) (iv p (i/3*3+2)) (iv q (i % 3)) (iv q (i % 3+3)) (iv q (i % 3+6))) else ajP (iv p i) (akd (iv p ((i - 9)*3)) (iv p ((i - 9)*3+1)) (iv p ((i - 9)*3+2)) (iv q 9) (iv q 10) (iv q 11))
theorem ajO {Q:Nat→Prop} (h0:Q 0) (h1:Q 1) (h2:Q 2) (h3:Q 3) (h4:Q 4) (h5:Q 5) (h6:Q 6) (h7:Q 7) (h8:Q 8) (h9:Q 9) (h10:Q 10) (h11:Q 11):∀i,i<12→Q i
 | 0,_=>h0 | 1,_=>h1 | 2,_=>h2 | 3,_=>h3 | 4,_=>h4 | 5,_=>h5 | 6,_=>h6 | 7,_=>h7 | 8,_=>h8 | 9,_=>h9 | 10,_=>h10 | 11,_=>h11
 | n+12,h=>by omega
set_option maxRecDepth 100000 in
theorem akY (p q:iF):∀i,i<12→iv (kE p q) i=akW p q i:=by
 refine ajO ?_ ?_ ?_ ?_ ?_ ?_ ?_ ?_ ?_ ?_ ?_ ?_<;>kernel_rfl
theorem akX {p q P Q:iF} (h:PIn p P) (k:PIn q Q):PIn (kE p q) (kE P Q):=fun i hi=>by
 rw [akY p q i hi,akY P Q i hi]
 unfold akW
 cases hb:amE i 8 with
 | true=>exact al7 (akF (h _ (by omega)) (h _ (by omega)) (h _ (by omega)) (k _ (by omega)) (k _ (by omega)) (k _ (by omega)))
 | false=>exact akc (h _ hi) (akF (h _ (by omega)) (h _ (by omega)) (h _ (by omega)) (k _ (by omega)) (k _ (by omega)) (k _ (by omega)))
def alr (a b c:Int×Int) (i:Nat):Int×Int:=[(65536,65536),(0,0),(0,0),(0,0),(65536,65536),(0,0),(0,0),(0,0),(65536,65536),a,b,c].getD i (0,0)
set_option maxRecDepth 100000 in
theorem als (a b c:Int×Int):∀i,i<12→iv (kY [a.1,a.2,b.1,b.2,c.1,c.2]) i=((alr a b c i).1,(alr a b c i).2):=by
 refine ajO ?_ ?_ ?_ ?_ ?_ ?_ ?_ ?_ ?_ ?_ ?_ ?_<;>kernel_rfl
theorem akv {a b A B C:Int×Int} (h1:gu a A) (h2:gu b B) (h3:gu c C):PIn (kY [a.1,a.2,b.1,b.2,c.1,c.2]) (kY [A.1,A.2,B.1,B.2,C.1,C.2]):=fun i hi=>by
 rw [als a b c i hi,als A B C i hi]
 revert i
 exact ajO ajT iX iX iX ajT iX iX iX ajT h1 h2 h3
def amB (k:Nat) (s c n:Int×Int):List (Int×Int):=match k with
 | 0=>[(65536,65536),(0,0),(0,0),(0,0),c,n,(0,0),s,c]
 | 1=>[c,(0,0),s,(0,0),(65536,65536),(0,0),n,(0,0),c]
 | _=>[c,n,(0,0),s,c,(0,0),(0,0),(0,0),(65536,65536)]
def aly (k:Nat) (r:Int×Int) (i:Nat):Int×Int:=(fun t=>(bif fC r.1 r.2 then t.1 else 0,bif fC r.1 r.2 then t.2 else 0)) ((amB k (akw r) (akE r) (akq (akw r))).getD i (0,0))
def akP (k:Nat) (r:Int×Int):iF:=fun i=>FN (159+i) [(k:Int),r.1,r.2]
set_option maxRecDepth 100000 in
theorem alz (r:Int×Int):∀k,k<3→∀i,i<12→iv (akP k r) i=(bif amE i 8 then aly k r i else (0,0))
 | 0,_=>by refine ajO ?_ ?_ ?_ ?_ ?_ ?_ ?_ ?_ ?_ ?_ ?_ ?_<;>kernel_rfl
 | 1,_=>by refine ajO ?_ ?_ ?_ ?_ ?_ ?_ ?_ ?_ ?_ ?_ ?_ ?_<;>kernel_rfl
 | 2,_=>by refine ajO ?_ ?_ ?_ ?_ ?_ ?_ ?_ ?_ ?_ ?_ ?_ ?_<;>kernel_rfl
 | n+3,h=>by omega
theorem akQ (h:gu r R):∀k,k<3→PIn (akP k r) (akP k R):=fun k hk i hi=>by
 rw [alz r k hk i hi,alz R k hk i hi]
 have s:=amw h
 have c:=alW h
 have n:=amj s
 unfold aly
 rw [ajW h.i,ajW h.o]
 simp only [cond_true]
 revert i
 match k,hk with
 | 0,_=>exact ajO ajT iX iX iX c n iX s c iX iX iX
 | 1,_=>exact ajO c iX s iX ajT iX n iX c iX iX iX
 | 2,_=>exact ajO c n iX s c iX iX iX ajT iX iX iX
set_option maxRecDepth 100000 in
theorem al4:PIn (fun i=>FN (183+i) []) (fun i=>FN (183+i) []):=by
 have e:∀i,i<12→iv (fun i=>FN (183+i) []) i=([(65536,65536),(0,0),(0,0),(0,0),(65536,65536),(0,0),(0,0),(0,0),(65536,65536)]:List (Int×Int)).getD i (0,0):=by
  refine ajO ?_ ?_ ?_ ?_ ?_ ?_ ?_ ?_ ?_ ?_ ?_ ?_<;>kernel_rfl
 intro i hi
 rw [e i hi]
 revert i
 exact ajO ajT iX iX iX ajT iX iX iX ajT iX iX iX
theorem amh (kind:Int) (h:gu r R):PIn (Fe kind r.1 r.2) (Fe kind R.1 R.2):=by
 unfold Fe
 cases kind==1 with
 | true=>exact akQ h 0 (by omega)
 | false =>
 cases kind==2 with
 | true=>exact akQ h 1 (by omega)
 | false =>
 cases kind==3 with
 | true=>exact akQ h 2 (by omega)
 | false =>
 cases kind==4 with
 | true=>have s:=akv h iX iX; exact s
 | false =>
 cases kind==5 with
 | true=>have s:=akv iX h iX; exact s
 | false =>
 cases kind==6 with
 | true=>have s:=akv iX iX h; exact s
 | false=>exact al4
set_option maxRecDepth 100000 in
theorem amo (a b c:Int):(pg 62 [a,b,c]).l=[Dr a,Dt a,Dr b,Dt b,Dr c,Dt c]:=by kernel_rfl
theorem aj7 (a:Int):gu (Dr a,Dt a) (Dr a,Dt a):=akC (amN _) (amN _) (amN _)
theorem al6 (j:JV) {b B:Int×Int} (h:gu b B):PIn (jP j b) (jP j B):=by
 unfold jP nK
 rw [amo]
 have s:=akv (aj7 j.o0) (aj7 j.o1) (aj7 j.o2)
 exact akX s (amh _ h)
end Go.Proofs
end
section
namespace Go.Proofs
open Go.Sm Go.RowKit En
def Sb (r R:Int×Int):Prop:=R.1≤r.1∧r.1≤r.2∧r.2≤R.2
variable {r R:Int×Int}
theorem gu.sb (h:gu r R):Sb r R:=⟨h.2.1,h.2.2.1,h.2.2.2.1⟩
theorem aj9 (h:r.1≤r.2):Sb r r:=⟨amN _,h,amN _⟩
structure VS (v V:V6):Prop where
 a:Sb (v.a,v.b) (V.a,V.b)
 b:Sb (v.c,v.d) (V.c,V.d)
 c:Sb (v.e,v.f) (V.e,V.f)
structure VI (v V:V6):Prop where
 a:gu (v.a,v.b) (V.a,V.b)
 b:gu (v.c,v.d) (V.c,V.d)
 c:gu (v.e,v.f) (V.e,V.f)
variable {v V:V6}
theorem VI.vs (h:VI v V):VS v V:=⟨h.a.sb,h.b.sb,h.c.sb⟩
theorem ajV:VI .z .z:=⟨iX,iX,iX⟩
def aj2 (r s:Int×Int):Int×Int:=(mq r.1 r.2 s.1 s.2,mD r.1 r.2 s.1 s.2)
def ajX (r s:Int×Int):Int×Int:=(iA r.1 r.2 s.1 s.2,iB r.1 r.2 s.1 s.2)
variable {s:Int×Int}
theorem akR:oo r.1 r.2 s.1 s.2=true↔(-1152921504606846976≤r.1∧r.1≤r.2∧r.2≤1152921504606846976)∧(-1152921504606846976≤s.1∧s.1≤s.2∧s.2≤1152921504606846976)∧-1152921504606846976≤r.1+s.1∧r.2+s.2≤1152921504606846976:=by
 unfold oo
 cases h1:pW r.1 r.2 with
 | false =>
  simp only [cond_false,ajp,false_iff]
  exact fun h=>by rw [(afP _ _).2 h.1] at h1; cases h1
 | true =>
  cases h2:pW s.1 s.2 with
  | false =>
   simp only [cond_true,cond_false,ajp,false_iff]
   exact fun h=>by rw [(afP _ _).2 h.2.1] at h2; cases h2
  | true =>
   have k1:=(afP _ _).1 h1
   have k2:=(afP _ _).1 h2
   rw [j4 (by omega) (by omega),j4 (by omega) (by omega)]
   cases h3:pW (r.1+s.1) (r.2+s.2) with
   | false =>
    simp only [cond_true,cond_false,ajp,false_iff]
    exact fun h=>by rw [(afP _ _).2 (by omega)] at h3; cases h3
   | true =>
    have k3:=(afP _ _).1 h3
    simp only [cond_true,true_iff]
    omega
theorem akS (h:oo r.1 r.2 s.1 s.2=true):aj2 r s=(r.1+s.1,r.2+s.2):=by
 have hf:zg r s=false:=by unfold zg; rw [h]; rfl
 exact (afI hf).1
variable {S:Int×Int}
theorem ajL (h:oo R.1 R.2 S.1 S.2=true) (h1:Sb r R) (h2:Sb s S):oo r.1 r.2 s.1 s.2=true∧Sb (aj2 r s) (aj2 R S)∧smR (aj2 R S):=by
 have k:=akR.1 h
 unfold Sb at h1 h2
 have k':oo r.1 r.2 s.1 s.2=true:=akR.2 (by omega)
 refine ⟨k',?_⟩
 rw [akS h,akS k']
 unfold Sb smR
 simp only
 omega
theorem ajZ (h1:Sb r R) (h2:smR R):Sb (iP r) (iP R):=by
 unfold Sb at *
 unfold smR at h2
 unfold iP mE mF
 rw [j4 (x:=-r.1) (by omega) (by omega),j4 (x:=-r.2) (by omega) (by omega),j4 (x:=-R.1) (by omega) (by omega),j4 (x:=-R.2) (by omega) (by omega)]
 simp only
 omega
theorem ale (a b c d:Int):mulL a b c d=ED a b c d:=by
 unfold mulL ED
 simp only [mR,List.foldl_cons,List.foldl_nil]
 rw [show mn (a*c) (a*c)=a*c from if_neg (Int.lt_irrefl _)]
 rfl
theorem ald (a b c d:Int):wS a b c d=hi4 a b c d:=by
 unfold wS hi4
 simp only [kU,List.foldl_cons,List.foldl_nil]
 rw [show mx (a*c) (a*c)=a*c from if_neg (Int.lt_irrefl _)]
 rfl
theorem alb:pV r.1 r.2 s.1 s.2=true↔(-1152921504606846976≤r.1∧r.1≤r.2∧r.2≤1152921504606846976)∧(-1152921504606846976≤s.1∧s.1≤s.2∧s.2≤1152921504606846976)∧(-1152921504606846976≤ED r.1 r.2 s.1 s.2/65536∧ED r.1 r.2 s.1 s.2/65536≤1152921504606846976)∧-1152921504606846976≤(hi4 r.1 r.2 s.1 s.2+65535)/65536∧(hi4 r.1 r.2 s.1 s.2+65535)/65536≤1152921504606846976:=by
 unfold pV wT mX zD En.okB
 rw [ale,ald]
 simp only [aQ,decide_eq_true_eq,and_assoc]
theorem alc (h:pV r.1 r.2 s.1 s.2=true):ajX r s=(ED r.1 r.2 s.1 s.2/65536,(hi4 r.1 r.2 s.1 s.2+65535)/65536):=by
 obtain ⟨e1,e2,_⟩:=ahl h
 unfold ajX
 rw [e1,e2,ale,ald]
theorem ajN (h:pV R.1 R.2 S.1 S.2=true) (h1:Sb r R) (h2:Sb s S):pV r.1 r.2 s.1 s.2=true∧Sb (ajX r s) (ajX R S)∧smR (ajX R S):=by
 have k:=alb.1 h
 unfold Sb at h1 h2
 have p:=ali (A:=R.1) (a:=r.1) (b:=r.2) (B:=R.2) (C:=S.1) (c:=s.1) (d:=s.2) (D:=S.2) (by omega) (by omega) (by omega) (by omega) (by omega) (by omega)
 have k':pV r.1 r.2 s.1 s.2=true:=alb.2 (by omega)
 refine ⟨k',?_⟩
 rw [alc h,alc k']
 unfold Sb smR
 simp only
 omega
variable {f F:Bool}
theorem VS.scaled (hf:F=false→f=false) (h:tJ F V r=false) (hv:VS v V):tJ f v r=false∧VS (iK v r) (iK V r):=by
 have hr:=aj9 (aiJ h).2
 unfold tJ DR at h ⊢
 simp only [ajj,amH] at h
 obtain ⟨⟨⟨h0,h1⟩,h2⟩,h3⟩:=h
 have q1:=ajN h1 hv.a hr
 have q2:=ajN h2 hv.b hr
 have q3:=ajN h3 hv.c hr
 refine ⟨?_,q1.2.1,q2.2.1,q3.2.1⟩
 simp only at q1 q2 q3
 rw [hf h0,q1.1,q2.1,q3.1]
 rfl
variable {u U:V6}
theorem VS.plus (hf:F=false→f=false) (h:uZ F V U=false) (hv:VS v V) (hu:VS u U):uZ f v u=false∧VS (plusV v u) (plusV V U):=by
 unfold uZ DJ at h ⊢
 simp only [ajj,amH] at h
 obtain ⟨⟨⟨h0,h1⟩,h2⟩,h3⟩:=h
 have q1:=ajL h1 hv.a hu.a
 have q2:=ajL h2 hv.b hu.b
 have q3:=ajL h3 hv.c hu.c
 refine ⟨?_,q1.2.1,q2.2.1,q3.2.1⟩
 simp only at q1 q2 q3
 rw [hf h0,q1.1,q2.1,q3.1]
 rfl
theorem VI.minus (hf:F=false→f=false) (h:ZE F V U=false) (hv:VS v V) (hu:VI u U):ZE f v u=false∧VS (ahW v u) (ahW V U):=by
 unfold ZE aev at h ⊢
 simp only [ajj,amH] at h
 obtain ⟨⟨⟨h0,h1⟩,h2⟩,h3⟩:=h
 have sm:∀{r R:Int×Int},gu r R→smR R:=fun {r R} h=>by unfold gu In at h; unfold smR; omega
 have q1:=ajL h1 hv.a (ajZ hu.a.sb (sm hu.a))
 have q2:=ajL h2 hv.b (ajZ hu.b.sb (sm hu.b))
 have q3:=ajL h3 hv.c (ajZ hu.c.sb (sm hu.c))
 refine ⟨?_,q1.2.1,q2.2.1,q3.2.1⟩
 simp only [iP] at q1 q2 q3
 rw [hf h0,q1.1,q2.1,q3.1]
 rfl
theorem VS.dot (h:rf V U=false) (hv:VS v V) (hu:VS u U):rf v u=false∧Sb (fQ v u) (fQ V U):=by
 unfold rf DI at h ⊢
 simp only [ajj,amH] at h
 obtain ⟨⟨⟨⟨⟨_,h1⟩,h2⟩,h3⟩,h4⟩,h5⟩:=h
 have q1:=ajN h1 hv.a hu.a
 have q2:=ajN h2 hv.b hu.b
 have q3:=ajL h3 q1.2.1 q2.2.1
 have q4:=ajN h4 hv.c hu.c
 have q5:=ajL h5 q3.2.1 q4.2.1
 refine ⟨?_,q5.2.1⟩
 simp only [ajX,aj2] at q1 q2 q3 q4 q5
 rw [q1.1,q2.1,q3.1,q4.1,q5.1]
 rfl
theorem VS.cross (hf:F=false→f=false) (h:BP F V.a V.b V.c V.d V.e V.f U.a U.b U.c U.d U.e U.f=false) (hv:VS v V) (hu:VS u U):BP f v.a v.b v.c v.d v.e v.f u.a u.b u.c u.d u.e u.f=false∧VS (Cs v u) (Cs V U):=by
 unfold BP at h ⊢
 simp only [ajj,amH] at h
 obtain ⟨⟨⟨⟨⟨⟨⟨⟨⟨h0,h1⟩,h2⟩,h3⟩,h4⟩,h5⟩,h6⟩,h7⟩,h8⟩,h9⟩:=h
 have q1:=ajN h1 hv.b hu.c
 have q2:=ajN h2 hv.c hu.b
 have q3:=ajL h3 q1.2.1 (ajZ q2.2.1 q2.2.2)
 have q4:=ajN h4 hv.c hu.a
 have q5:=ajN h5 hv.a hu.c
 have q6:=ajL h6 q4.2.1 (ajZ q5.2.1 q5.2.2)
 have q7:=ajN h7 hv.a hu.b
 have q8:=ajN h8 hv.b hu.a
 have q9:=ajL h9 q7.2.1 (ajZ q8.2.1 q8.2.2)
 refine ⟨?_,q3.2.1,q6.2.1,q9.2.1⟩
 simp only [ajX,aj2,iP] at q1 q2 q3 q4 q5 q6 q7 q8 q9
 rw [hf h0,q1.1,q2.1,q3.1,q4.1,q5.1,q6.1,q7.1,q8.1,q9.1]
 rfl
def VL (vs Vs:List V6):Prop:=∀k,VS (vs.getD k .z) (Vs.getD k .z)
def VIL (vs Vs:List V6):Prop:=∀k,VI (vs.getD k .z) (Vs.getD k .z)
theorem ak4 {rs:List (Int×Int)} {ks:List Int} {vs Vs:List V6} (hv:VL vs Vs):∀k:Nat,(mM rs ks Vs false k).2=false→(mM rs ks vs false k).2=false∧VS (mM rs ks vs false k).1 (mM rs ks Vs false k).1
 | 0,_=>⟨rfl,ajV.vs⟩
 | k+1,h=>by
  have h':uZ (tJ (mM rs ks Vs false k).2 (Vs.getD k .z) (rs.getD (ks.getD k 0).toNat (0,0))) (mM rs ks Vs false k).1 (iK (Vs.getD k .z) (rs.getD (ks.getD k 0).toNat (0,0)))=false:=h
  have hs:tJ (mM rs ks Vs false k).2 (Vs.getD k .z) (rs.getD (ks.getD k 0).toNat (0,0))=false:=by
   have q:=h'
   unfold uZ DJ at q
   simp only [ajj] at q
   exact q.1.1.1
  have hk:(mM rs ks Vs false k).2=false:=by
   have q:=hs
   unfold tJ DR at q
   simp only [ajj] at q
   exact q.1.1.1
  obtain ⟨i1,i2⟩:=ak4 hv k hk
  obtain ⟨s1,s2⟩:=(hv k).scaled (f:=(mM rs ks vs false k).2) (fun _=>i1) hs
  exact VS.plus (fun _=>s1) h' i2 s2
variable {rs:List (Int×Int)} {axs Axs:List V6} {js:List JV} {j:Int} {st ST:V6×Bool}
theorem amr {ii:Int} (ha:VL axs Axs) (hv:VS v V) (hst:ST.2=false→st.2=false∧VS st.1 ST.1) (h:(BB rs Axs js j V ST ii).2=false):(BB rs axs js j v st ii).2=false∧VS (BB rs axs js j v st ii).1 (BB rs Axs js j V ST ii).1:=by
 unfold BB at h ⊢
 simp only at h ⊢
 generalize (ii != j)=neq at *
 generalize kG ((js.getD ii.toNat (js.headD ⟨⟨#[]⟩,0,0,0,0,0,0,0,0,0,0,0⟩)).kind)=turn at *
 generalize rs.getD ii.toNat (0,0)=ri at *
 generalize rs.getD j.toNat (0,0)=rj at *
 have hA:=ha ii.toNat
 generalize axs.getD ii.toNat .z=ax at *
 generalize Axs.getD ii.toNat .z=Ax at *
 unfold xg at h ⊢
 simp only [ajj] at h
 obtain ⟨⟨h1,h2⟩,h3⟩:=h
 have e:∀(f:Bool),(bif turn then (bif neq then (f||wR ri rj)||wI false (mulR ri rj).1 (mulR ri rj).2 (mulR ri rj).1 (mulR ri rj).2 else f||wR ri rj)||El ax v else (bif neq then (f||wR ri rj)||wI false (mulR ri rj).1 (mulR ri rj).2 (mulR ri rj).1 (mulR ri rj).2 else f||wR ri rj))=((f||(wR ri rj||(bif neq then wI false (mulR ri rj).1 (mulR ri rj).2 (mulR ri rj).1 (mulR ri rj).2 else false)))||(bif turn then El ax v else false)):=fun f=>by
  cases turn<;>cases neq<;>simp [Bool.or_assoc]
 have E:(bif turn then (bif neq then (ST.2||wR ri rj)||wI false (mulR ri rj).1 (mulR ri rj).2 (mulR ri rj).1 (mulR ri rj).2 else ST.2||wR ri rj)||El Ax V else (bif neq then (ST.2||wR ri rj)||wI false (mulR ri rj).1 (mulR ri rj).2 (mulR ri rj).1 (mulR ri rj).2 else ST.2||wR ri rj))=((ST.2||(wR ri rj||(bif neq then wI false (mulR ri rj).1 (mulR ri rj).2 (mulR ri rj).1 (mulR ri rj).2 else false)))||(bif turn then El Ax V else false)):=by
  cases turn<;>cases neq<;>simp [Bool.or_assoc]
 rw [E] at h1
 rw [e st.2]
 clear e E
 simp only [ajj] at h1
 obtain ⟨⟨g1,g2,g3⟩,g4⟩:=h1
 obtain ⟨s1,s2⟩:=hst g1
 have hc:(bif turn then El ax v else false)=false∧VS (gF turn ax v) (gF turn Ax V):=by
  cases turn with
  | false=>exact ⟨rfl,ajV.vs⟩
  | true=>exact VS.cross (f:=false) (F:=false) (fun _=>rfl) g4 hA hv
 obtain ⟨c1,c2⟩:=hc
 obtain ⟨d1,d2⟩:=c2.scaled (f:=false) (fun _=>rfl) h2
 obtain ⟨p1,p2⟩:=VS.plus (f:=false) (fun _=>rfl) h3 s2 d2
 refine ⟨?_,p2⟩
 rw [s1,g2,g3,c1,d1,p1]
 rfl
theorem alo {rs:List (Int×Int)} {axs Axs:List V6} {js:List JV} {ks:List Int} {j:Int} {v V:V6} {st ST:V6×Bool} (ha:VL axs Axs) (hv:VS v V) (hst:ST.2=false→st.2=false∧VS st.1 ST.1):∀i:Nat,(si rs Axs js ks j V ST i).2=false→(si rs axs js ks j v st i).2=false∧VS (si rs axs js ks j v st i).1 (si rs Axs js ks j V ST i).1
 | 0,h=>hst h
 | i+1,h=>amr ha hv (alo ha hv hst i) h
theorem alp {rs:List (Int×Int)} {axs Axs:List V6} {js:List JV} {ks:List Int} {vs Vs:List V6} (ha:VL axs Axs) (hv:VL vs Vs):∀k:Nat,(pX rs Axs js ks Vs false k).2=false→(pX rs axs js ks vs false k).2=false∧VS (pX rs axs js ks vs false k).1 (pX rs Axs js ks Vs false k).1
 | 0,_=>⟨rfl,ajV.vs⟩
 | k+1,h=>alo ha (hv k) (alp ha hv k) (k+1) h
structure LS (l L:List (Int×Int)):Prop where
 len:l.length=L.length
 at_:∀k,Sb (l.getD k (0,0)) (L.getD k (0,0))∧smR (L.getD k (0,0))
theorem al8 (n:Nat):LS (ag6 n (0,0)) (ag6 n (0,0)):=⟨rfl,fun k=>by
 rw [agc]; exact ⟨aj9 (amN _),by unfold smR; omega⟩⟩
variable {n:Int}
theorem amz {x X:Int×Int} (hn:1≤n) (h:ma X.1 X.2 n=true) (hx:Sb x X):ma x.1 x.2 n=true∧Sb (jY x n) (jY X n):=by
 have e:∀{x:Int×Int},x.1≤x.2→ma x.1 x.2 n=true→jY x n=(x.1*n,x.2*n):=fun {x} hx ht=>by
  unfold jY DD DC
  rw [ht]
  unfold ma at ht
  simp only [aQ,decide_eq_true_eq] at ht
  obtain ⟨t1,t2⟩:=ht
  have q:=Int.ediv_mul_le 1152921504606846976 (show n≠0 by omega)
  have a1:=ahh t1 (show 0≤n by omega)
  have a2:=ahh t2 (show 0≤n by omega)
  have a3:=ahh hx (show 0≤n by omega)
  rw [ajn] at a1
  simp only [cond_true]
  rw [dz (x.1*n) (by omega),dz (x.2*n) (by omega)]
 have k:ma x.1 x.2 n=true:=by
  unfold Sb at hx
  unfold ma at h ⊢
  simp only [aQ,decide_eq_true_eq] at h ⊢
  omega
 obtain ⟨x1,x2,x3⟩:=hx
 refine ⟨k,?_⟩
 rw [e x2 k,e (by omega) h]
 exact ⟨ahh x1 (by omega),ahh x2 (by omega),ahh x3 (by omega)⟩
theorem LS.step {l L:List (Int×Int)} {j:Nat} (hl:F=false→f=false∧LS l L) (hv:VS v V) (hu:VS u U) (hn:1≤n) (h:(vg L F j V U n).2=false):(vg l f j v u n).2=false∧LS (vg l f j v u n).1 (vg L F j V U n).1:=by
 simp only [vg,ajj,amH] at h
 obtain ⟨⟨⟨h0,h1⟩,h2⟩,h3⟩:=h
 obtain ⟨f0,ls⟩:=hl h0
 obtain ⟨d1,d2⟩:=hv.dot h1 hu
 obtain ⟨t1,t2⟩:=amz hn h2 d2
 unfold zg at h3
 simp only [amH] at h3
 obtain ⟨a1,a2,a3⟩:=ajL h3 (ls.at_ j).1 t2
 refine ⟨?_,by simp only [vg,List.length_set]; exact ls.len,fun k=>?_⟩
 ·simp only [vg,zg]
  rw [f0,d1,t1,a1]
  rfl
 ·simp only [vg,afZ,←ls.len]
  split
  ·exact ⟨a2,a3⟩
  ·exact ls.at_ k
structure MS (m M:MB):Prop where
 wt:m.wt=M.wt
 ks:m.ks=M.ks
 vs:VL m.vs M.vs
 one:1≤M.wt
theorem ala {m M:MB} {u U:V6} {st ST:List (Int×Int)×Bool} (hm:MS m M) (hu:VS u U) (hl:ST.2=false→st.2=false∧LS st.1 ST.1):∀i:Nat,(jI M U ST i).2=false→(jI m u st i).2=false∧LS (jI m u st i).1 (jI M U ST i).1
 | 0,h=>hl h
 | i+1,h=>by
  have h':(vg (jI M U ST i).1 (jI M U ST i).2 (M.ks.getD i 0).toNat (M.vs.getD i .z) U M.wt).2=false:=h
  show (vg (jI m u st i).1 (jI m u st i).2 (m.ks.getD i 0).toNat (m.vs.getD i .z) u m.wt).2=false∧LS (vg (jI m u st i).1 (jI m u st i).2 (m.ks.getD i 0).toNat (m.vs.getD i .z) u m.wt).1 (vg (jI M U ST i).1 (jI M U ST i).2 (M.ks.getD i 0).toNat (M.vs.getD i .z) U M.wt).1
  rw [hm.ks,hm.wt]
  exact LS.step (ala hm hu hl i) (hm.vs i) hu hm.one h'
structure ML2 (ms Ms:List MB):Prop where
 len:ms.length=Ms.length
 at_:∀k,MS (ms.getD k .z) (Ms.getD k .z)
theorem akl {ms Ms:List MB} {us Us:List V6} {n:Nat} (hm:ML2 ms Ms):∀k:Nat,(∀i,i<k→VS (us.getD i .z) (Us.getD i .z))→(gm Ms Us (ag6 n (0,0),false) k).2=false→(gm ms us (ag6 n (0,0),false) k).2=false∧LS (gm ms us (ag6 n (0,0),false) k).1 (gm Ms Us (ag6 n (0,0),false) k).1
 | 0,_,_=>⟨rfl,al8 n⟩
 | k+1,hu,h=>by
  have h':(jI (Ms.getD k .z) (Us.getD k .z) (gm Ms Us (ag6 n (0,0),false) k) (Ms.getD k .z).ks.length).2=false:=h
  show (jI (ms.getD k .z) (us.getD k .z) (gm ms us (ag6 n (0,0),false) k) (ms.getD k .z).ks.length).2=false∧LS (jI (ms.getD k .z) (us.getD k .z) (gm ms us (ag6 n (0,0),false) k) (ms.getD k .z).ks.length).1 (jI (Ms.getD k .z) (Us.getD k .z) (gm Ms Us (ag6 n (0,0),false) k) (Ms.getD k .z).ks.length).1
  rw [(hm.at_ k).ks]
  exact ala (hm.at_ k) (hu k (by omega)) (akl hm k (fun i hi=>hu i (by omega))) _ h'
end Go.Proofs
end
section
namespace Go.Proofs
open Go.Sm Go.RowKit En
set_option maxRecDepth 100000 in
theorem akU (kind:Int) (p:iF):nz kind p=(fun e:Nat→Int×Int=>(⟨(e 0).1,(e 0).2,(e 3).1,(e 3).2,(e 6).1,(e 6).2⟩:V6)) (fun i=>(bif kind==2 then (iv p (i+1)).1 else bif kind==5 then (iv p (i+1)).1 else bif kind==3 then (iv p (i+2)).1 else bif kind==6 then (iv p (i+2)).1 else (iv p i).1,bif kind==2 then (iv p (i+1)).2 else bif kind==5 then (iv p (i+1)).2 else bif kind==3 then (iv p (i+2)).2 else bif kind==6 then (iv p (i+2)).2 else (iv p i).2)):=by kernel_rfl
variable {p P:iF}
theorem alR (kind:Int) (h:PIn p P):VI (nz kind p) (nz kind P):=by
 have e:∀i,i+2<12→gu (bif kind==2 then (iv p (i+1)).1 else bif kind==5 then (iv p (i+1)).1 else bif kind==3 then (iv p (i+2)).1 else bif kind==6 then (iv p (i+2)).1 else (iv p i).1,bif kind==2 then (iv p (i+1)).2 else bif kind==5 then (iv p (i+1)).2 else bif kind==3 then (iv p (i+2)).2 else bif kind==6 then (iv p (i+2)).2 else (iv p i).2) (bif kind==2 then (iv P (i+1)).1 else bif kind==5 then (iv P (i+1)).1 else bif kind==3 then (iv P (i+2)).1 else bif kind==6 then (iv P (i+2)).1 else (iv P i).1,bif kind==2 then (iv P (i+1)).2 else bif kind==5 then (iv P (i+1)).2 else bif kind==3 then (iv P (i+2)).2 else bif kind==6 then (iv P (i+2)).2 else (iv P i).2):=fun i hi=>by
  have h0:=h i (by omega)
  have h1:=h (i+1) (by omega)
  have h2:=h (i+2) hi
  cases kind==2<;>cases kind==5<;>cases kind==3<;>cases kind==6<;>assumption
 rw [akU,akU]
 exact ⟨e 0 (by omega),e 3 (by omega),e 6 (by omega)⟩
def atR (p:iF) (a b c:Int×Int) (i:Nat):Int×Int:=ajP (iv p (9+i)) (akd (iv p (3*i)) (iv p (3*i+1)) (iv p (3*i+2)) a b c)
set_option maxRecDepth 100000 in
theorem akT (p:iF) (a b c:Int):jS p a b c=(fun e:Nat→Int×Int=>(⟨(e 0).1,(e 0).2,(e 1).1,(e 1).2,(e 2).1,(e 2).2⟩:V6)) (atR p (Dr a,Dt a) (Dr b,Dt b) (Dr c,Dt c)):=by kernel_rfl
theorem alQ (a b c:Int) (h:PIn p P):VI (jS p a b c) (jS P a b c):=by
 have e:∀i,i<3→gu (atR p (Dr a,Dt a) (Dr b,Dt b) (Dr c,Dt c) i) (atR P (Dr a,Dt a) (Dr b,Dt b) (Dr c,Dt c) i):=fun i hi=>akc (h _ (by omega)) (akF (h _ (by omega)) (h _ (by omega)) (h _ (by omega)) (aj7 a) (aj7 b) (aj7 c))
 rw [akT,akT]
 exact ⟨e 0 (by omega),e 1 (by omega),e 2 (by omega)⟩
theorem amk (h:PIn p P):VI (kM p) (kM P):=⟨h 9 (by omega),h 10 (by omega),h 11 (by omega)⟩
structure PL (ps Ps:List iF):Prop where
 len:ps.length=Ps.length
 at_:∀k,PIn (ps.getD k pz) (Ps.getD k pz)
theorem alj:PIn pz pz:=fun _ _=>iX
theorem akm {A:Type} (l:List A) (x d:A) (k:Nat):(l++[x]).getD k d=if k<l.length then l.getD k d else if k=l.length then x else d:=by
 simp only [amI,List.getElem?_append]
 split
 ·rfl
 ·rename_i h
  split
  ·rename_i e; subst e; simp
  ·rename_i e
   rw [bQ (by simp only [dB,aeT]; omega)]; rfl
variable {ps Ps:List iF}
theorem PL.snoc (h:PL ps Ps) (hp:PIn p P):PL (ps++[p]) (Ps++[P]):=⟨by simp [h.len],fun k=>by
 rw [akm,akm,h.len]
 split
 ·exact h.at_ k
 ·split
  ·exact hp
  ·exact alj⟩
theorem ak7:∀(js:List JV) (bs Bs:List (Int×Int)) (acc Acc:List iF),bs.length=Bs.length→(∀(k:Nat) (b B:Int×Int),bs[k]?=some b→Bs[k]?=some B→gu b B)→PL acc Acc→PL (jH acc js bs) (jH Acc js Bs)
 | [],_,_,_,_,_,_,h=>by simpa [jH] using h
 | _::_,[],[],_,_,_,_,h=>by simpa [jH] using h
 | _::_,[],_::_,_,_,hl,_,_=>by simp at hl
 | _::_,_::_,[],_,_,hl,_,_=>by simp at hl
 | j::js,b::bs,B::Bs,acc,Acc,hl,hb,h=>by
  unfold jH
  have hj:=al6 j (hb 0 b B rfl rfl)
  refine ak7 js bs Bs _ _ (by simpa using hl) (fun k b B h1 h2=>hb (k+1) b B h1 h2) (h.snoc ?_)
  cases j.parent==-1 with
  | true=>exact hj
  | false=>exact akX (h.at_ _) hj
theorem akV (js:List JV) (h:PL ps Ps):VIL (nu js ps) (nu js Ps):=fun k=>by
 have hk:=h.at_ k
 unfold nu
 simp only [amI,List.getElem?_zipWith] at hk ⊢
 cases js[k]? with
 | none=>exact ajV
 | some j =>
  rcases cu k ps.length with q | q
  ·have q':k<Ps.length:=by rw [←h.len]; exact q
   rw [ah q,ah q'] at hk ⊢
   exact alR _ hk
  ·rw [bQ q,bQ (show Ps.length≤k by rw [←h.len]; exact q)]
   exact ajV
theorem aml (h:PL ps Ps):VIL (ps.map kM) (Ps.map kM):=fun k=>by
 have hk:=h.at_ k
 simp only [amI,bY] at hk ⊢
 rcases cu k ps.length with q | q
 ·have q':k<Ps.length:=by rw [←h.len]; exact q
  rw [ah q,ah q'] at hk ⊢
  exact amk hk
 ·rw [bQ q,bQ (show Ps.length≤k by rw [←h.len]; exact q)]
  exact ajV
theorem alE {vs Vs:List V6} {v V:V6} (hl:vs.length=Vs.length) (h:VL vs Vs) (hv:VS v V):VL (vs++[v]) (Vs++[V]):=fun k=>by
 rw [akm,akm,hl]
 split
 ·exact h k
 ·split
  ·exact hv
  ·exact ajV.vs
structure AR (r R:List Int×List V6×Bool):Prop where
 fl:r.2.2=false
 ks:r.1=R.1
 len:r.2.1.length=R.2.1.length
 vs:VL r.2.1 R.2.1
theorem alD {js:List JV} {axs Axs ogs Ogs:List V6} {a A:V6} (ha:VIL axs Axs) (ho:VIL ogs Ogs) (h:VS a A):∀(l:List Int) (r R:List Int×List V6×Bool),(R.2.2=false→AR r R)→(l.foldl (j5 js Axs Ogs A) R).2.2=false→AR (l.foldl (j5 js axs ogs a) r) (l.foldl (j5 js Axs Ogs A) R)
 | [],_,_,hr,hf=>hr hf
 | j::l,r,R,hr,hf=>by
  refine alD ha ho h l _ _ (fun hs=>?_) hf
  unfold j5 at hs ⊢
  cases e1:(js.getD j.toNat ER).kind==0 with
  | true=>rw [e1] at hs; exact hr hs
  | false =>
   rw [e1] at hs
   cases e2:kG (js.getD j.toNat ER).kind with
   | true =>
    rw [e2] at hs
    simp only [cond_true,cond_false] at hs ⊢
    have hm:ZE R.2.2 A (Ogs.getD j.toNat .z)=false:=by
     have q:=hs
     unfold DF BP at q
     simp only [ajj] at q
     exact q.1.1.1.1.1.1.1.1.1
    have hR:R.2.2=false:=by
     have q:=hm
     unfold ZE aev at q
     simp only [ajj] at q
     exact q.1.1.1
    have hA:=hr hR
    obtain ⟨m1,m2⟩:=VI.minus (f:=r.2.2) (fun _=>hA.fl) hm h (ho j.toNat)
    obtain ⟨c1,c2⟩:=VS.cross (f:=ZE r.2.2 a (ogs.getD j.toNat .z)) (fun _=>m1) hs (ha j.toNat).vs m2
    exact ⟨c1,by simp only; rw [hA.ks],by simp only [afa,hA.len]; rfl,alE hA.len hA.vs c2⟩
   | false =>
    rw [e2] at hs
    simp only [cond_false] at hs ⊢
    have hA:=hr hs
    exact ⟨hA.fl,by simp only; rw [hA.ks],by simp only [afa,hA.len]; rfl,alE hA.len hA.vs (ha j.toNat).vs⟩
theorem al9 (js:List JV) (h:PL ps Ps) {mv:MV} (hm:1≤mv.eT) (hf:(Kj js Ps mv false).2=false):(Kj js ps mv false).2=false∧MS (mO js ps mv) (mO js Ps mv):=by
 have hf':((jd js 4 mv.link []).foldl (j5 js (nu js Ps) (Ps.map kM) (jS (Ps.getD mv.link.toNat pz) mv.p0 mv.p1 mv.p2)) ([],[],false)).2.2=false:=hf
 have hat:=(alQ mv.p0 mv.p1 mv.p2 (h.at_ mv.link.toNat)).vs
 have r:=alD (js:=js) (akV js h) (aml h) hat (jd js 4 mv.link []) ([],[],false) ([],[],false) (fun _=>⟨rfl,rfl,rfl,fun _=>ajV.vs⟩) hf'
 unfold mO Kj MD.mb
 generalize (jd js 4 mv.link []).foldl (j5 js (nu js ps) (ps.map kM) (jS (ps.getD mv.link.toNat pz) mv.p0 mv.p1 mv.p2)) ([],[],false)=x at r ⊢
 generalize (jd js 4 mv.link []).foldl (j5 js (nu js Ps) (Ps.map kM) (jS (Ps.getD mv.link.toNat pz) mv.p0 mv.p1 mv.p2)) ([],[],false)=X at r ⊢
 exact ⟨r.fl,rfl,r.ks,r.vs,hm⟩
theorem akz {js:List JV} {Ps:List iF}:∀(mvs:List MV) (acc:List MD×Bool),(mvs.foldl (yt js Ps) acc).2=false↔acc.2=false∧∀mv∈mvs,(Kj js Ps mv false).2=false
 | [],acc=>by simp
 | mv::mvs,acc=>by
  rw [List.foldl_cons,akz mvs]
  have hm:(Kj js Ps mv acc.2).2=false→acc.2=false:=fun h=>by
   have k:∀(l:List Int) (p:List Int×List V6×Bool),(l.foldl (j5 js (nu js Ps) (Ps.map kM) (jS (Ps.getD mv.link.toNat pz) mv.p0 mv.p1 mv.p2)) p).2.2=false→p.2.2=false:=fun l=>by
    induction l with
    | nil=>exact fun p h=>h
    | cons j l ih =>
     intro p hp
     have q:=ih _ hp
     unfold j5 at q
     cases e1:(js.getD j.toNat ER).kind==0 with
     | true=>rw [e1] at q; exact q
     | false =>
      rw [e1] at q
      cases e2:kG (js.getD j.toNat ER).kind with
      | true =>
       rw [e2] at q
       simp only [cond_true,cond_false] at q
       unfold DF BP ZE aev at q
       simp only [ajj] at q
       exact q.1.1.1.1.1.1.1.1.1.1.1.1
      | false=>rw [e2] at q; exact q
   exact k _ _ h
  show (Kj js Ps mv acc.2).2=false∧_↔_
  constructor
  ·rintro ⟨h1,h2⟩
   have h0:=hm h1
   rw [h0] at h1
   exact ⟨h0,fun m hmm=>by
    rcases ag.1 hmm with rfl | hmm
    ·exact h1
    ·exact h2 m hmm⟩
  ·rintro ⟨h0,h1⟩
   rw [h0]
   exact ⟨h1 mv (by simp),fun m hmm=>h1 m (by simp [hmm])⟩
theorem akO {rs:List (Int×Int)} {axs:List V6} {js:List JV}:∀(ms:List MB) (f:Bool),BN rs axs js f ms=false↔f=false∧∀m∈ms,(lQ rs m).2=false∧(l9 rs axs js m).2=false
 | [],f=>by simp [BN]
 | m::ms,f=>by
  show BN rs axs js ((f||(lQ rs m).2)||(l9 rs axs js m).2) ms=false↔_
  rw [akO ms]
  simp only [ajj,ag,forall_eq_or_imp,and_assoc]
theorem ami:MS .z .z:=⟨rfl,rfl,fun _=>ajV.vs,amN _⟩
theorem getD_map {A B:Type} (l:List A) (f:A→B) (d:B) (k:Nat) (h:k<l.length):(l.map f).getD k d=f l[k]:=by
 simp [amI,bY,ah h]
structure aki (t T:Mx):Prop where
 fl:t.fl=false
 us:LS t.us T.us
 xs:LS t.xs T.xs
 gs:t.gs.length=T.gs.length∧∀k,Sb (t.gs.getD k (0,0)) (T.gs.getD k (0,0))
variable {js:List JV}
theorem amA {mvs:List MV} {ps qs:List Int} {d i d' i' x y z:Int} (hP:PL (acs js ps qs d' i') (acs js ps qs d i)) (hm:∀m∈mvs,1≤m.eT) (h:(xq js mvs ps qs d i x y z).fl=false):aki (xq js mvs ps qs d' i' x y z) (xq js mvs ps qs d i x y z):=by
 unfold xq at *
 generalize acs js ps qs d i=Ps at *
 generalize acs js ps qs d' i'=pp at *
 generalize gZ js ps qs js.length=rs at *
 simp only [agD] at h ⊢
 simp only [BM,ajj] at h
 obtain ⟨⟨⟨h1,h2⟩,h3⟩,h4⟩:=h
 obtain ⟨hb,hf⟩:=(akO _ _).1 h1
 have hb':=((akz mvs ([],false)).1 hb).2
 have hM:∀mv∈mvs,(Kj js pp mv false).2=false∧MS (mO js pp mv) (mO js Ps mv):=fun mv hv=>al9 js hP (hm mv hv) (hb' mv hv)
 have hML:ML2 (mvs.map (mO js pp)) (mvs.map (mO js Ps)):=⟨by simp,fun k=>by
  rcases cu k mvs.length with q | q
  ·rw [getD_map _ _ _ _ q,getD_map _ _ _ _ q]
   exact (hM _ (List.getElem_mem q)).2
  ·simp only [amI,bY,bQ q]
   exact ami⟩
 have hA:=akV js hP
 have hF:∀mv∈mvs,((lQ rs (mO js pp mv)).2=false∧VS (lQ rs (mO js pp mv)).1 (lQ rs (mO js Ps mv)).1)∧(l9 rs (nu js pp) js (mO js pp mv)).2=false∧VS (l9 rs (nu js pp) js (mO js pp mv)).1 (l9 rs (nu js Ps) js (mO js Ps mv)).1:=fun mv hv=>by
  have q:=hf _ (List.mem_map_of_mem (f:=mO js Ps) hv)
  have k:=(hM mv hv).2
  unfold lQ l9 at *
  rw [k.ks]
  exact ⟨ak4 k.vs _ q.1,alp (fun k=>(hA k).vs) k.vs _ q.2⟩
 have e1:∀k,k<(mvs.map (mO js Ps)).length→VS ((zw rs (mvs.map (mO js pp))).getD k .z) ((zw rs (mvs.map (mO js Ps))).getD k .z):=fun k hk=>by
  rw [dF] at hk
  unfold zw
  rw [getD_map _ _ _ _ (by simpa using hk),getD_map _ _ _ _ (by simpa using hk),List.getElem_map,List.getElem_map]
  exact (hF _ (List.getElem_mem hk)).1.2
 have e2:∀k,k<(mvs.map (mO js Ps)).length→VS ((zX rs (nu js pp) js (mvs.map (mO js pp))).getD k .z) ((zX rs (nu js Ps) js (mvs.map (mO js Ps))).getD k .z):=fun k hk=>by
  rw [dF] at hk
  unfold zX
  rw [getD_map _ _ _ _ (by simpa using hk),getD_map _ _ _ _ (by simpa using hk),List.getElem_map,List.getElem_map]
  exact (hF _ (List.getElem_mem hk)).2.2
 have hl:(mvs.map (mO js pp)).length=(mvs.map (mO js Ps)).length:=by simp
 have r1:=akl (n:=js.length) hML _ e1 h2
 have r2:=akl (n:=js.length) hML _ e2 h3
 have hg:VS (gV x y z) (gV x y z):=⟨aj9 (amN _),aj9 (amN _),aj9 (amN _)⟩
 have r3:=akl (us:=ag6 (mvs.map (mO js Ps)).length (gV x y z)) (n:=js.length) hML (mvs.map (mO js Ps)).length (fun k hk=>by
  rw [show (ag6 (mvs.map (mO js Ps)).length (gV x y z)).getD k .z=gV x y z by simp only [amI,List.getElem?_replicate]; rw [if_pos hk]; rfl]
  exact hg) h4
 refine ⟨?_,?_,?_,?_,fun k=>?_⟩
 ·simp only [BM,yY,yZ,iU,hl,r1.1,r2.1,r3.1,Bool.or_false]
  refine (akO _ _).2 ⟨(akz mvs ([],false)).2 ⟨rfl,fun mv hv=>(hM mv hv).1⟩,fun m hmm=>?_⟩
  obtain ⟨mv,hv,rfl⟩:=aeZ.1 hmm
  exact ⟨(hF mv hv).1.1,(hF mv hv).2.1⟩
 ·simp only [yY,hl]
  exact r1.2
 ·simp only [yZ,hl]
  exact r2.2
 ·simp only [iU,hl]
  rw [dF (f:=iP),dF (f:=iP)]
  exact r3.2.len
 ·simp only [iU,hl]
  have q:=r3.2.at_ k
  have len:=r3.2.len
  generalize (gm (mvs.map (mO js pp)) (ag6 (mvs.map (mO js Ps)).length (gV x y z)) (ag6 js.length (0,0),false) (mvs.map (mO js Ps)).length).1=l at *
  generalize (gm (mvs.map (mO js Ps)) (ag6 (mvs.map (mO js Ps)).length (gV x y z)) (ag6 js.length (0,0),false) (mvs.map (mO js Ps)).length).1=L at *
  rcases cu k l.length with c | c
  ·rw [getD_map _ _ _ _ c,getD_map _ _ _ _ (show k<L.length by rw [←len]; exact c)]
   simp only [amI,ah c,ah (show k<L.length by rw [←len]; exact c)] at q
   exact ajZ q.1 q.2
  ·simp only [amI,bY,bQ c,bQ (show L.length≤k by rw [←len]; exact c)]
   exact aj9 (amN _)
end Go.Proofs
end
section
namespace Go.Proofs
open Go.Sm Go.RowKit En
variable {w0 w:World} {a:Act} {B0 B1 Sp Sq T0 T1:dY} {x y z d e i:Int} {n19 n22:Nat} {Q:Exit→Act→World→Prop} {D:Code}
theorem a4n {dp mo ix:Int} (hd:d=0∨d=1∨d=2∨d=3∨d=4) (he:e=0∨e=1∨e=2∨e=3∨e=4) (hqt:∀z_∈([⟨14,[var 3,.int .i64 5],.val (.int .i64 d)⟩,⟨14,[var 4,.int .i64 5],.val (.int .i64 e)⟩,⟨14,[var 5,.int .i64 (2^(d+e).toNat)],.val (var 6)⟩]:List Qt),jB aa (gB (w0,[n19,n22]) ([x,y,z,dp,mo,ix,i]) ([]) [B0,B1,Sp,Sq,T0,T1]) z_)
  (hown:∀q∈[n19,n22]++[],q∈([n19,n22]:List Nat)∨w0.heap.size≤q) (hnd:([n19,n22]++[]:List Nat).Nodup) (h:dP (dS 145 [(19,dK n19),(20,dJ Sp),(21,dJ Sq),(22,dK n22),(6,num (dp)),(7,num (mo)),(8,num (ix))]) [(n19,[dJ B0,dJ B1],35),(n22,[num (x),num (y),num (z)],40)] [] a w) (hk:dO w0 [n19,n22] w)
  (hQ:∀a' w',dP (dS 145 [(19,dK n19),(20,dJ Sp),(21,dJ Sq),(22,dK n22),(23,num d),(24,num e),(25,num (i))]) [(n19,[dJ B0,dJ B1],35),(n22,[num (x),num (y),num (z)],40)] [] a' w'→dO w0 [n19,n22] w'→D.wp aa Q a' w'):(o7 [(dZ (sR 3 (dN amC))),(dZ (sR 4 (dN amC)))] D).wp aa Q a w:=by
 rcases hd with rfl | rfl | rfl | rfl | rfl<;>rcases he with rfl | rfl | rfl | rfl | rfl
 all_goals
  refine uN ([x,y,z,dp,mo,ix,i]) ([]) [B0,B1,Sp,Sq,T0,T1] (w0:=w0) (ex:=[n19,n22]) (g:=[]) (wt:=[]) (lt:=[]) (t:={ QT:=_ }) (ws:=[]) (fr:=fK 145 [(19,.pointer (some ⟨0,0,none⟩)),(20,dM 2),(21,dM 3),(22,.pointer (some ⟨1,0,none⟩)),(6,var 3),(7,var 4),(8,var 5)]) (H:=[dQ [dM 0,dM 1] 35,dQ (vs 0 3) 40]) (lo:=[]) (wb:=[])  4 _ [0,1] [] (by kernel_rfl) (by kernel_rfl) (by exact hnd) ⟨fB _,yA hqt,all_nil,(by exact hown),jG,fun _=>⟨all_nil,all_nil,all_nil⟩⟩ h hk hQ
theorem alH {T0 T1:dY} {k0 k1:Bool} (he:e=0∨e=1∨e=2∨e=3∨e=4)
  (hown:∀q∈[n19,n22]++[],q∈([n19,n22]:List Nat)∨w0.heap.size≤q) (hnd:([n19,n22]++[]:List Nat).Nodup) (h:dP (dS 145 [(19,dK n19),(20,dJ Sp),(21,dJ Sq),(22,dK n22),(23,num (d)),(24,num e),(25,num (i))]) [(n19,[dJ B0,dJ B1],35),(n22,[num (x),num (y),num (z)],40)] [] a w) (hk:dO w0 [n19,n22] w)
  (hQ:∀a' w',dP (dS 145 [(19,dK n19),(20,dJ Sp),(21,dJ Sq),(22,dK n22),(23,num (d)),(24,num e),(25,num (i)),(55,.agg ⟨[dJ B0,dJ B1]⟩),(56,.agg ⟨[num (x),num (y),num (z)]⟩),(57,dJ Sp),(58,dJ Sq),(59,num (d)),(63,num (Int.fdiv i (2^(min (amJ e) 64))))]) [(n19,[dJ B0,dJ B1],35),(n22,[num (x),num (y),num (z)],40)] [] a' w'→dO w0 [n19,n22] w'→wpList aa (opsOf (CS (dN amC))).toArray Q ((opsOf (CS (dN amC))).drop 9) a' w'):wpList aa (opsOf (CS (dN amC))).toArray Q ((opsOf (CS (dN amC))).take 9++((opsOf (CS (dN amC))).drop 9)) a w:=by
 rcases he with rfl | rfl | rfl | rfl | rfl
 ·refine uw ([x,y,z,d,0,i]) ([k0,k1]) [B0,B1,Sp,Sq,T0,T1] (ops:=opsOf (CS (dN amC))) (o1:=(opsOf (CS (dN amC))).take 9) (tail:=((opsOf (CS (dN amC))).drop 9)) (w0:=w0) (ex:=[n19,n22]) (g:=[]) (wt:=[]) (lt:=[]) (t:={ QT:=_ }) (ws:=[]) (fr:=fK 145 [(19,.pointer (some ⟨0,0,none⟩)),(20,dM 2),(21,dM 3),(22,.pointer (some ⟨1,0,none⟩)),(23,var 3),(24,.int .i64 0),(25,var 5)]) (H:=[dQ [dM 0,dM 1] 35,dQ (vs 0 3) 40]) (lo:=[]) (wb:=[])  (by kernel_rfl) [0,1] [] (by kernel_rfl) (by kernel_rfl) (by exact hnd) ⟨fB _,jo,all_nil,(by exact hown),jG,fun _=>⟨all_nil,all_nil,all_nil⟩⟩ h hk hQ
 ·refine uw ([x,y,z,d,1,i]) ([k0,k1]) [B0,B1,Sp,Sq,T0,T1] (ops:=opsOf (CS (dN amC))) (o1:=(opsOf (CS (dN amC))).take 9) (tail:=((opsOf (CS (dN amC))).drop 9)) (w0:=w0) (ex:=[n19,n22]) (g:=[]) (wt:=[]) (lt:=[]) (t:={ QT:=_ }) (ws:=[]) (fr:=fK 145 [(19,.pointer (some ⟨0,0,none⟩)),(20,dM 2),(21,dM 3),(22,.pointer (some ⟨1,0,none⟩)),(23,var 3),(24,.int .i64 1),(25,var 5)]) (H:=[dQ [dM 0,dM 1] 35,dQ (vs 0 3) 40]) (lo:=[]) (wb:=[])  (by kernel_rfl) [0,1] [] (by kernel_rfl) (by kernel_rfl) (by exact hnd) ⟨fB _,jo,all_nil,(by exact hown),jG,fun _=>⟨all_nil,all_nil,all_nil⟩⟩ h hk hQ
 ·refine uw ([x,y,z,d,2,i]) ([k0,k1]) [B0,B1,Sp,Sq,T0,T1] (ops:=opsOf (CS (dN amC))) (o1:=(opsOf (CS (dN amC))).take 9) (tail:=((opsOf (CS (dN amC))).drop 9)) (w0:=w0) (ex:=[n19,n22]) (g:=[]) (wt:=[]) (lt:=[]) (t:={ QT:=_ }) (ws:=[]) (fr:=fK 145 [(19,.pointer (some ⟨0,0,none⟩)),(20,dM 2),(21,dM 3),(22,.pointer (some ⟨1,0,none⟩)),(23,var 3),(24,.int .i64 2),(25,var 5)]) (H:=[dQ [dM 0,dM 1] 35,dQ (vs 0 3) 40]) (lo:=[]) (wb:=[])  (by kernel_rfl) [0,1] [] (by kernel_rfl) (by kernel_rfl) (by exact hnd) ⟨fB _,jo,all_nil,(by exact hown),jG,fun _=>⟨all_nil,all_nil,all_nil⟩⟩ h hk hQ
 ·refine uw ([x,y,z,d,3,i]) ([k0,k1]) [B0,B1,Sp,Sq,T0,T1] (ops:=opsOf (CS (dN amC))) (o1:=(opsOf (CS (dN amC))).take 9) (tail:=((opsOf (CS (dN amC))).drop 9)) (w0:=w0) (ex:=[n19,n22]) (g:=[]) (wt:=[]) (lt:=[]) (t:={ QT:=_ }) (ws:=[]) (fr:=fK 145 [(19,.pointer (some ⟨0,0,none⟩)),(20,dM 2),(21,dM 3),(22,.pointer (some ⟨1,0,none⟩)),(23,var 3),(24,.int .i64 3),(25,var 5)]) (H:=[dQ [dM 0,dM 1] 35,dQ (vs 0 3) 40]) (lo:=[]) (wb:=[])  (by kernel_rfl) [0,1] [] (by kernel_rfl) (by kernel_rfl) (by exact hnd) ⟨fB _,jo,all_nil,(by exact hown),jG,fun _=>⟨all_nil,all_nil,all_nil⟩⟩ h hk hQ
 ·refine uw ([x,y,z,d,4,i]) ([k0,k1]) [B0,B1,Sp,Sq,T0,T1] (ops:=opsOf (CS (dN amC))) (o1:=(opsOf (CS (dN amC))).take 9) (tail:=((opsOf (CS (dN amC))).drop 9)) (w0:=w0) (ex:=[n19,n22]) (g:=[]) (wt:=[]) (lt:=[]) (t:={ QT:=_ }) (ws:=[]) (fr:=fK 145 [(19,.pointer (some ⟨0,0,none⟩)),(20,dM 2),(21,dM 3),(22,.pointer (some ⟨1,0,none⟩)),(23,var 3),(24,.int .i64 4),(25,var 5)]) (H:=[dQ [dM 0,dM 1] 35,dQ (vs 0 3) 40]) (lo:=[]) (wb:=[])  (by kernel_rfl) [0,1] [] (by kernel_rfl) (by kernel_rfl) (by exact hnd) ⟨fB _,jo,all_nil,(by exact hown),jG,fun _=>⟨all_nil,all_nil,all_nil⟩⟩ h hk hQ
variable {k0:Bool}
theorem alJ {T1:dY} {k1:Bool}
  (hown:∀q∈[n19,n22]++[],q∈([n19,n22]:List Nat)∨w0.heap.size≤q) (hnd:([n19,n22]++[]:List Nat).Nodup) (h:dP (dS 145 [(19,dK n19),(20,dJ Sp),(21,dJ Sq),(22,dK n22),(23,num (d)),(24,num (e)),(25,num (i)),(64,.tuple ⟨[dJ T0,.bool k0]⟩)]) [(n19,[dJ B0,dJ B1],35),(n22,[num (x),num (y),num (z)],40)] [] a w) (hk:dO w0 [n19,n22] w)
  (hQ:∀a' w',dP (dS 145 [(19,dK n19),(20,dJ Sp),(21,dJ Sq),(22,dK n22),(23,num (d)),(24,num (e)),(25,num (i)),(26,dJ T0),(27,.bool (k0))]) [(n19,[dJ B0,dJ B1],35),(n22,[num (x),num (y),num (z)],40)] [] a' w'→dO w0 [n19,n22] w'→wpList aa (opsOf (CS (dN amC))).toArray Q ([]) a' w'):wpList aa (opsOf (CS (dN amC))).toArray Q ((opsOf (CS (dN amC))).drop 10++([])) a w:=by
 refine uw ([x,y,z,d,e,i]) ([k0,k1]) [B0,B1,Sp,Sq,T0,T1] (ops:=opsOf (CS (dN amC))) (o1:=(opsOf (CS (dN amC))).drop 10) (tail:=([])) (w0:=w0) (ex:=[n19,n22]) (g:=[]) (wt:=[]) (lt:=[]) (t:={}) (ws:=[]) (fr:=fK 145 [(19,.pointer (some ⟨0,0,none⟩)),(20,dM 2),(21,dM 3),(22,.pointer (some ⟨1,0,none⟩)),(23,var 3),(24,var 4),(25,var 5),(64,.tuple ⟨[dM 4,mB 1 [.int .i64 0]]⟩)]) (H:=[dQ [dM 0,dM 1] 35,dQ (vs 0 3) 40]) (lo:=[]) (wb:=[])  (by kernel_rfl) [0,1] [] (by kernel_rfl) (by kernel_rfl) (by exact hnd) ⟨fB _,jo,all_nil,(by exact hown),jG,fun _=>⟨all_nil,all_nil,all_nil⟩⟩ h hk hQ
theorem alI {T1:dY} {k1:Bool}
  (hown:∀q∈[n19,n22]++[],q∈([n19,n22]:List Nat)∨w0.heap.size≤q) (hnd:([n19,n22]++[]:List Nat).Nodup) (h:dP (dS 145 [(19,dK n19),(20,dJ Sp),(21,dJ Sq),(22,dK n22),(23,num (d)),(24,num (e)),(25,num (i)),(26,dJ T0),(27,.bool (k0))]) [(n19,[dJ B0,dJ B1],35),(n22,[num (x),num (y),num (z)],40)] [] a w) (hk:dO w0 [n19,n22] w)
  (hQ:∀a' w',dP (dS 145 [(19,dK n19),(20,dJ Sp),(21,dJ Sq),(22,dK n22),(23,num (d)),(24,num (e)),(25,num (i)),(26,dJ T0),(27,.bool (k0)),(68,.agg ⟨[dJ B0,dJ B1]⟩),(69,.agg ⟨[num (x),num (y),num (z)]⟩),(70,dJ Sp),(71,dJ Sq),(74,num (wr (d+e))),(75,num (i))]) [(n19,[dJ B0,dJ B1],35),(n22,[num (x),num (y),num (z)],40)] [] a' w'→dO w0 [n19,n22] w'→wpList aa (opsOf (kS (dN amC))).toArray Q ((opsOf (kS (dN amC))).drop 8) a' w'):wpList aa (opsOf (kS (dN amC))).toArray Q ((opsOf (kS (dN amC))).take 8++((opsOf (kS (dN amC))).drop 8)) a w:=by
 refine uw ([x,y,z,d,e,i]) ([k0,k1]) [B0,B1,Sp,Sq,T0,T1] (ops:=opsOf (kS (dN amC))) (o1:=(opsOf (kS (dN amC))).take 8) (tail:=((opsOf (kS (dN amC))).drop 8)) (w0:=w0) (ex:=[n19,n22]) (g:=[]) (wt:=[]) (lt:=[]) (t:={}) (ws:=[]) (fr:=fK 145 [(19,.pointer (some ⟨0,0,none⟩)),(20,dM 2),(21,dM 3),(22,.pointer (some ⟨1,0,none⟩)),(23,var 3),(24,var 4),(25,var 5),(26,dM 4),(27,mB 1 [.int .i64 0])]) (H:=[dQ [dM 0,dM 1] 35,dQ (vs 0 3) 40]) (lo:=[]) (wb:=[])  (by kernel_rfl) [0,1] [] (by kernel_rfl) (by kernel_rfl) (by exact hnd) ⟨fB _,jo,all_nil,(by exact hown),jG,fun _=>⟨all_nil,all_nil,all_nil⟩⟩ h hk hQ
variable {k1:Bool}
theorem alK
  (hown:∀q∈[n19,n22]++[],q∈([n19,n22]:List Nat)∨w0.heap.size≤q) (hnd:([n19,n22]++[]:List Nat).Nodup) (h:dP (dS 145 [(19,dK n19),(20,dJ Sp),(21,dJ Sq),(22,dK n22),(23,num (d)),(24,num (e)),(25,num (i)),(26,dJ T0),(27,.bool (k0)),(76,.tuple ⟨[dJ T1,.bool k1]⟩)]) [(n19,[dJ B0,dJ B1],35),(n22,[num (x),num (y),num (z)],40)] [] a w) (hk:dO w0 [n19,n22] w)
  (hQ:∀a' w',dP (dS 145 [(19,dK n19),(20,dJ Sp),(21,dJ Sq),(22,dK n22),(23,num (d)),(24,num (e)),(25,num (i)),(26,dJ T0),(27,.bool (k0)),(28,dJ T1),(29,.bool (k1))]) [(n19,[dJ B0,dJ B1],35),(n22,[num (x),num (y),num (z)],40)] [] a' w'→dO w0 [n19,n22] w'→wpList aa (opsOf (kS (dN amC))).toArray Q ([]) a' w'):wpList aa (opsOf (kS (dN amC))).toArray Q ((opsOf (kS (dN amC))).drop 9++([])) a w:=by
 refine uw ([x,y,z,d,e,i]) ([k0,k1]) [B0,B1,Sp,Sq,T0,T1] (ops:=opsOf (kS (dN amC))) (o1:=(opsOf (kS (dN amC))).drop 9) (tail:=([])) (w0:=w0) (ex:=[n19,n22]) (g:=[]) (wt:=[]) (lt:=[]) (t:={}) (ws:=[]) (fr:=fK 145 [(19,.pointer (some ⟨0,0,none⟩)),(20,dM 2),(21,dM 3),(22,.pointer (some ⟨1,0,none⟩)),(23,var 3),(24,var 4),(25,var 5),(26,dM 4),(27,mB 1 [.int .i64 0]),(76,.tuple ⟨[dM 5,mB 1 [.int .i64 1]]⟩)]) (H:=[dQ [dM 0,dM 1] 35,dQ (vs 0 3) 40]) (lo:=[]) (wb:=[])  (by kernel_rfl) [0,1] [] (by kernel_rfl) (by kernel_rfl) (by exact hnd) ⟨fB _,jo,all_nil,(by exact hown),jG,fun _=>⟨all_nil,all_nil,all_nil⟩⟩ h hk hQ
variable {RR:Ending→World→Prop}
theorem a4r {B0 B1 Sp Sq T0 T1:dY} {x y z d e i:Int} {k0 k1:Bool} {n19 n22:Nat} (hqt:∀z_∈([⟨16,[],.val (.bool true)⟩]:List Qt),jB aa (gB (w0,[]) [] [] []) z_)
  (hown:∀q∈[]++[],q∈([]:List Nat)∨w0.heap.size≤q) (hnd:([]++[]:List Nat).Nodup) (h:dP (dS 145 [(27,.bool false)]) [] [] a w) (hk:dO w0 [] w)
  (hQ:∀a' w',dP (dS 145 []) [] [] a' w'→dO w0 [] w'→RR (.returned (.bool true)) w'):(sR 7 (dN amC)).wp aa (bodyPost aa amC RR) a w:=by
 refine Q7 ([]) ([]) [] (w0:=w0) (ex:=[]) (g:=[]) (wt:=[]) (lt:=[]) (t:={ QT:=[⟨16,[],.val (.bool true)⟩] }) (ws:=[]) (fr:=fK 145 [(27,.bool false)]) (H:=[]) (lo:=[]) (wb:=[])  (u:=.bool true) 4 [] [] (by kernel_rfl) (by kernel_rfl) (by simp) ⟨fB _,yA hqt,all_nil,(by exact hown),kF,fun _=>⟨all_nil,all_nil,all_nil⟩⟩ h hk hQ
variable {u0_0 v0_0 u0_1 v0_1 u0_2 v0_2 u0_3 v0_3 u0_4 v0_4 u0_5 v0_5:Int} {b0 o0 b1 o1:Nat}
theorem alL {B0 B1 Sq:dY} {x y z d e i:Int} {k0 k1:Bool} {n19 n22:Nat} (hSp:Sp.2.1=1) (hT0:T0.2.1=1) (hT1:T1.2.1=1) (hp0_0:decide (u0_0≤v0_0)=true) (hq0_0:decide (v0_0≤v0_1)=true) (hr0_0:decide (v0_1≤u0_1)=true) (hp0_1:decide (u0_2≤v0_2)=true) (hq0_1:decide (v0_2≤v0_3)=true) (hr0_1:decide (v0_3≤u0_3)=true) (hp0_2:decide (u0_4≤v0_4)=true) (hq0_2:decide (v0_4≤v0_5)=true) (hr0_2:decide (v0_5≤u0_5)=true) (hw0:fu w0 [] T0 (0) 6 b0 o0 [num (u0_0),num (u0_1),num (u0_2),num (u0_3),num (u0_4),num (u0_5)]) (hw1:fu w0 [] T1 (0) 6 b1 o1 [num (v0_0),num (v0_1),num (v0_2),num (v0_3),num (v0_4),num (v0_5)])
  (hown:∀q∈[]++[],q∈([]:List Nat)∨w0.heap.size≤q) (hnd:([]++[]:List Nat).Nodup) (h:dP (dS 145 [(27,.bool true),(29,.bool true),(20,dJ Sp),(26,dJ T0),(28,dJ T1)]) [] [] a w) (hk:dO w0 [] w)
  (hQ:∀a' w',dP (dS 145 []) [] [] a' w'→dO w0 [] w'→D.wp aa Q a' w'):(o7 [(dZ (sR 7 (dN amC))),(dZ (sR 8 (dN amC))),(dZ (sR 9 (dN amC)))] D).wp aa Q a w:=by
 refine uN ([u0_0,v0_0,u0_1,v0_1,u0_2,v0_2,u0_3,v0_3,u0_4,v0_4,u0_5,v0_5]) ([]) [B0,B1,Sp,Sq,T0,T1] (w0:=w0) (ex:=[]) (g:=[(mB 21 [var 0,var 1],.bool true),(mB 21 [var 1,var 3],.bool true),(mB 21 [var 3,var 2],.bool true),(mB 21 [var 4,var 5],.bool true),(mB 21 [var 5,var 7],.bool true),(mB 21 [var 7,var 6],.bool true),(mB 21 [var 8,var 9],.bool true),(mB 21 [var 9,var 11],.bool true),(mB 21 [var 11,var 10],.bool true)]) (wt:=[(4,.int .i64 0,6,0),(5,.int .i64 0,6,1)]) (lt:=[(2,.int .i64 1),(4,.int .i64 1),(5,.int .i64 1)]) (t:={}) (ws:=[(b0,o0,[num (u0_0),num (u0_1),num (u0_2),num (u0_3),num (u0_4),num (u0_5)]),(b1,o1,[num (v0_0),num (v0_1),num (v0_2),num (v0_3),num (v0_4),num (v0_5)])]) (fr:=fK 145 [(27,.bool true),(29,.bool true),(20,dM 2),(26,dM 4),(28,dM 5)]) (H:=[]) (lo:=[]) (wb:=[dU [var 0,var 2,var 4,var 6,var 8,var 10],dU [var 1,var 3,var 5,var 7,var 9,var 11]])  4 _ [] [] (by kernel_rfl) (by kernel_rfl) (by simp) ⟨fq (b:=(decide (u0_0≤v0_0))) (by kernel_rfl) hp0_0 (fq (b:=(decide (v0_0≤v0_1))) (by kernel_rfl) hq0_0 (fq (b:=(decide (v0_1≤u0_1))) (by kernel_rfl) hr0_0 (fq (b:=(decide (u0_2≤v0_2))) (by kernel_rfl) hp0_1 (fq (b:=(decide (v0_2≤v0_3))) (by kernel_rfl) hq0_1 (fq (b:=(decide (v0_3≤u0_3))) (by kernel_rfl) hr0_1 (fq (b:=(decide (u0_4≤v0_4))) (by kernel_rfl) hp0_2 (fq (b:=(decide (v0_4≤v0_5))) (by kernel_rfl) hq0_2 (fq (b:=(decide (v0_5≤u0_5))) (by kernel_rfl) hr0_2 (fB _))))))))),jo,dR hw0.wf<|dR hw1.wf<|all_nil,(by exact hown),kF,fun _=>⟨dR (qa hw0 rfl rfl rfl rfl)<|dR (qa hw1 rfl rfl rfl rfl)<|all_nil,dR (jf rfl hSp (by kernel_rfl) (by kernel_rfl))<|dR (jf rfl hT0 (by kernel_rfl) (by kernel_rfl))<|dR (jf rfl hT1 (by kernel_rfl) (by kernel_rfl))<|all_nil,all_nil⟩⟩ h hk hQ
variable {u1_0 v1_0 u1_1 v1_1 u1_2 v1_2 u1_3 v1_3 u1_4 v1_4 u1_5 v1_5:Int} {b2 o2 b3 o3:Nat}
theorem alM {B0 B1 Sq:dY} {x y z d e i:Int} {k0 k1:Bool} {n19 n22:Nat} (hSp:Sp.2.1=2) (hT0:T0.2.1=2) (hT1:T1.2.1=2) (hp0_0:decide (u0_0≤v0_0)=true) (hq0_0:decide (v0_0≤v0_1)=true) (hr0_0:decide (v0_1≤u0_1)=true) (hp0_1:decide (u0_2≤v0_2)=true) (hq0_1:decide (v0_2≤v0_3)=true) (hr0_1:decide (v0_3≤u0_3)=true) (hp0_2:decide (u0_4≤v0_4)=true) (hq0_2:decide (v0_4≤v0_5)=true) (hr0_2:decide (v0_5≤u0_5)=true) (hp1_0:decide (u1_0≤v1_0)=true) (hq1_0:decide (v1_0≤v1_1)=true) (hr1_0:decide (v1_1≤u1_1)=true) (hp1_1:decide (u1_2≤v1_2)=true) (hq1_1:decide (v1_2≤v1_3)=true) (hr1_1:decide (v1_3≤u1_3)=true) (hp1_2:decide (u1_4≤v1_4)=true) (hq1_2:decide (v1_4≤v1_5)=true) (hr1_2:decide (v1_5≤u1_5)=true) (hw0:fu w0 [] T0 (0) 6 b0 o0 [num (u0_0),num (u0_1),num (u0_2),num (u0_3),num (u0_4),num (u0_5)]) (hw1:fu w0 [] T1 (0) 6 b1 o1 [num (v0_0),num (v0_1),num (v0_2),num (v0_3),num (v0_4),num (v0_5)]) (hw2:fu w0 [] T0 (1) 6 b2 o2 [num (u1_0),num (u1_1),num (u1_2),num (u1_3),num (u1_4),num (u1_5)]) (hw3:fu w0 [] T1 (1) 6 b3 o3 [num (v1_0),num (v1_1),num (v1_2),num (v1_3),num (v1_4),num (v1_5)])
  (hown:∀q∈[]++[],q∈([]:List Nat)∨w0.heap.size≤q) (hnd:([]++[]:List Nat).Nodup) (h:dP (dS 145 [(27,.bool true),(29,.bool true),(20,dJ Sp),(26,dJ T0),(28,dJ T1)]) [] [] a w) (hk:dO w0 [] w)
  (hQ:∀a' w',dP (dS 145 []) [] [] a' w'→dO w0 [] w'→D.wp aa Q a' w'):(o7 [(dZ (sR 7 (dN amC))),(dZ (sR 8 (dN amC))),(dZ (sR 9 (dN amC)))] D).wp aa Q a w:=by
 refine uN ([u0_0,v0_0,u0_1,v0_1,u0_2,v0_2,u0_3,v0_3,u0_4,v0_4,u0_5,v0_5,u1_0,v1_0,u1_1,v1_1,u1_2,v1_2,u1_3,v1_3,u1_4,v1_4,u1_5,v1_5]) ([]) [B0,B1,Sp,Sq,T0,T1] (w0:=w0) (ex:=[]) (g:=[(mB 21 [var 0,var 1],.bool true),(mB 21 [var 1,var 3],.bool true),(mB 21 [var 3,var 2],.bool true),(mB 21 [var 4,var 5],.bool true),(mB 21 [var 5,var 7],.bool true),(mB 21 [var 7,var 6],.bool true),(mB 21 [var 8,var 9],.bool true),(mB 21 [var 9,var 11],.bool true),(mB 21 [var 11,var 10],.bool true),(mB 21 [var 12,var 13],.bool true),(mB 21 [var 13,var 15],.bool true),(mB 21 [var 15,var 14],.bool true),(mB 21 [var 16,var 17],.bool true),(mB 21 [var 17,var 19],.bool true),(mB 21 [var 19,var 18],.bool true),(mB 21 [var 20,var 21],.bool true),(mB 21 [var 21,var 23],.bool true),(mB 21 [var 23,var 22],.bool true)]) (wt:=[(4,.int .i64 0,6,0),(5,.int .i64 0,6,1),(4,.int .i64 1,6,2),(5,.int .i64 1,6,3)]) (lt:=[(2,.int .i64 2),(4,.int .i64 2),(5,.int .i64 2)]) (t:={}) (ws:=[(b0,o0,[num (u0_0),num (u0_1),num (u0_2),num (u0_3),num (u0_4),num (u0_5)]),(b1,o1,[num (v0_0),num (v0_1),num (v0_2),num (v0_3),num (v0_4),num (v0_5)]),(b2,o2,[num (u1_0),num (u1_1),num (u1_2),num (u1_3),num (u1_4),num (u1_5)]),(b3,o3,[num (v1_0),num (v1_1),num (v1_2),num (v1_3),num (v1_4),num (v1_5)])]) (fr:=fK 145 [(27,.bool true),(29,.bool true),(20,dM 2),(26,dM 4),(28,dM 5)]) (H:=[]) (lo:=[]) (wb:=[dU [var 0,var 2,var 4,var 6,var 8,var 10],dU [var 1,var 3,var 5,var 7,var 9,var 11],dU [var 12,var 14,var 16,var 18,var 20,var 22],dU [var 13,var 15,var 17,var 19,var 21,var 23]])  4 _ [] [] (by kernel_rfl) (by kernel_rfl) (by simp) ⟨fq (b:=(decide (u0_0≤v0_0))) (by kernel_rfl) hp0_0 (fq (b:=(decide (v0_0≤v0_1))) (by kernel_rfl) hq0_0 (fq (b:=(decide (v0_1≤u0_1))) (by kernel_rfl) hr0_0 (fq (b:=(decide (u0_2≤v0_2))) (by kernel_rfl) hp0_1 (fq (b:=(decide (v0_2≤v0_3))) (by kernel_rfl) hq0_1 (fq (b:=(decide (v0_3≤u0_3))) (by kernel_rfl) hr0_1 (fq (b:=(decide (u0_4≤v0_4))) (by kernel_rfl) hp0_2 (fq (b:=(decide (v0_4≤v0_5))) (by kernel_rfl) hq0_2 (fq (b:=(decide (v0_5≤u0_5))) (by kernel_rfl) hr0_2 (fq (b:=(decide (u1_0≤v1_0))) (by kernel_rfl) hp1_0 (fq (b:=(decide (v1_0≤v1_1))) (by kernel_rfl) hq1_0 (fq (b:=(decide (v1_1≤u1_1))) (by kernel_rfl) hr1_0 (fq (b:=(decide (u1_2≤v1_2))) (by kernel_rfl) hp1_1 (fq (b:=(decide (v1_2≤v1_3))) (by kernel_rfl) hq1_1 (fq (b:=(decide (v1_3≤u1_3))) (by kernel_rfl) hr1_1 (fq (b:=(decide (u1_4≤v1_4))) (by kernel_rfl) hp1_2 (fq (b:=(decide (v1_4≤v1_5))) (by kernel_rfl) hq1_2 (fq (b:=(decide (v1_5≤u1_5))) (by kernel_rfl) hr1_2 (fB _)))))))))))))))))),jo,dR hw0.wf<|dR hw1.wf<|dR hw2.wf<|dR hw3.wf<|all_nil,(by exact hown),kF,fun _=>⟨dR (qa hw0 rfl rfl rfl rfl)<|dR (qa hw1 rfl rfl rfl rfl)<|dR (qa hw2 rfl rfl rfl rfl)<|dR (qa hw3 rfl rfl rfl rfl)<|all_nil,dR (jf rfl hSp (by kernel_rfl) (by kernel_rfl))<|dR (jf rfl hT0 (by kernel_rfl) (by kernel_rfl))<|dR (jf rfl hT1 (by kernel_rfl) (by kernel_rfl))<|all_nil,all_nil⟩⟩ h hk hQ
theorem alN {B0 B1 Sq:dY} {x y z d e i:Int} {k0 k1:Bool} {n19 n22:Nat} {u2_0 v2_0 u2_1 v2_1 u2_2 v2_2 u2_3 v2_3 u2_4 v2_4 u2_5 v2_5:Int} {b4 o4:Nat} {b5 o5:Nat} (hSp:Sp.2.1=3) (hT0:T0.2.1=3) (hT1:T1.2.1=3) (hp0_0:decide (u0_0≤v0_0)=true) (hq0_0:decide (v0_0≤v0_1)=true) (hr0_0:decide (v0_1≤u0_1)=true) (hp0_1:decide (u0_2≤v0_2)=true) (hq0_1:decide (v0_2≤v0_3)=true) (hr0_1:decide (v0_3≤u0_3)=true) (hp0_2:decide (u0_4≤v0_4)=true) (hq0_2:decide (v0_4≤v0_5)=true) (hr0_2:decide (v0_5≤u0_5)=true) (hp1_0:decide (u1_0≤v1_0)=true) (hq1_0:decide (v1_0≤v1_1)=true) (hr1_0:decide (v1_1≤u1_1)=true) (hp1_1:decide (u1_2≤v1_2)=true) (hq1_1:decide (v1_2≤v1_3)=true) (hr1_1:decide (v1_3≤u1_3)=true) (hp1_2:decide (u1_4≤v1_4)=true) (hq1_2:decide (v1_4≤v1_5)=true) (hr1_2:decide (v1_5≤u1_5)=true) (hp2_0:decide (u2_0≤v2_0)=true) (hq2_0:decide (v2_0≤v2_1)=true) (hr2_0:decide (v2_1≤u2_1)=true) (hp2_1:decide (u2_2≤v2_2)=true) (hq2_1:decide (v2_2≤v2_3)=true) (hr2_1:decide (v2_3≤u2_3)=true) (hp2_2:decide (u2_4≤v2_4)=true) (hq2_2:decide (v2_4≤v2_5)=true) (hr2_2:decide (v2_5≤u2_5)=true) (hw0:fu w0 [] T0 (0) 6 b0 o0 [num (u0_0),num (u0_1),num (u0_2),num (u0_3),num (u0_4),num (u0_5)]) (hw1:fu w0 [] T1 (0) 6 b1 o1 [num (v0_0),num (v0_1),num (v0_2),num (v0_3),num (v0_4),num (v0_5)]) (hw2:fu w0 [] T0 (1) 6 b2 o2 [num (u1_0),num (u1_1),num (u1_2),num (u1_3),num (u1_4),num (u1_5)]) (hw3:fu w0 [] T1 (1) 6 b3 o3 [num (v1_0),num (v1_1),num (v1_2),num (v1_3),num (v1_4),num (v1_5)]) (hw4:fu w0 [] T0 (2) 6 b4 o4 [num (u2_0),num (u2_1),num (u2_2),num (u2_3),num (u2_4),num (u2_5)]) (hw5:fu w0 [] T1 (2) 6 b5 o5 [num (v2_0),num (v2_1),num (v2_2),num (v2_3),num (v2_4),num (v2_5)])
  (hown:∀q∈[]++[],q∈([]:List Nat)∨w0.heap.size≤q) (hnd:([]++[]:List Nat).Nodup) (h:dP (dS 145 [(27,.bool true),(29,.bool true),(20,dJ Sp),(26,dJ T0),(28,dJ T1)]) [] [] a w) (hk:dO w0 [] w)
  (hQ:∀a' w',dP (dS 145 []) [] [] a' w'→dO w0 [] w'→D.wp aa Q a' w'):(o7 [(dZ (sR 7 (dN amC))),(dZ (sR 8 (dN amC))),(dZ (sR 9 (dN amC)))] D).wp aa Q a w:=by
 refine uN ([u0_0,v0_0,u0_1,v0_1,u0_2,v0_2,u0_3,v0_3,u0_4,v0_4,u0_5,v0_5,u1_0,v1_0,u1_1,v1_1,u1_2,v1_2,u1_3,v1_3,u1_4,v1_4,u1_5,v1_5,u2_0,v2_0,u2_1,v2_1,u2_2,v2_2,u2_3,v2_3,u2_4,v2_4,u2_5,v2_5]) ([]) [B0,B1,Sp,Sq,T0,T1] (w0:=w0) (ex:=[]) (g:=[(mB 21 [var 0,var 1],.bool true),(mB 21 [var 1,var 3],.bool true),(mB 21 [var 3,var 2],.bool true),(mB 21 [var 4,var 5],.bool true),(mB 21 [var 5,var 7],.bool true),(mB 21 [var 7,var 6],.bool true),(mB 21 [var 8,var 9],.bool true),(mB 21 [var 9,var 11],.bool true),(mB 21 [var 11,var 10],.bool true),(mB 21 [var 12,var 13],.bool true),(mB 21 [var 13,var 15],.bool true),(mB 21 [var 15,var 14],.bool true),(mB 21 [var 16,var 17],.bool true),(mB 21 [var 17,var 19],.bool true),(mB 21 [var 19,var 18],.bool true),(mB 21 [var 20,var 21],.bool true),(mB 21 [var 21,var 23],.bool true),(mB 21 [var 23,var 22],.bool true),(mB 21 [var 24,var 25],.bool true),(mB 21 [var 25,var 27],.bool true),(mB 21 [var 27,var 26],.bool true),(mB 21 [var 28,var 29],.bool true),(mB 21 [var 29,var 31],.bool true),(mB 21 [var 31,var 30],.bool true),(mB 21 [var 32,var 33],.bool true),(mB 21 [var 33,var 35],.bool true),(mB 21 [var 35,var 34],.bool true)]) (wt:=[(4,.int .i64 0,6,0),(5,.int .i64 0,6,1),(4,.int .i64 1,6,2),(5,.int .i64 1,6,3),(4,.int .i64 2,6,4),(5,.int .i64 2,6,5)]) (lt:=[(2,.int .i64 3),(4,.int .i64 3),(5,.int .i64 3)]) (t:={}) (ws:=[(b0,o0,[num (u0_0),num (u0_1),num (u0_2),num (u0_3),num (u0_4),num (u0_5)]),(b1,o1,[num (v0_0),num (v0_1),num (v0_2),num (v0_3),num (v0_4),num (v0_5)]),(b2,o2,[num (u1_0),num (u1_1),num (u1_2),num (u1_3),num (u1_4),num (u1_5)]),(b3,o3,[num (v1_0),num (v1_1),num (v1_2),num (v1_3),num (v1_4),num (v1_5)]),(b4,o4,[num (u2_0),num (u2_1),num (u2_2),num (u2_3),num (u2_4),num (u2_5)]),(b5,o5,[num (v2_0),num (v2_1),num (v2_2),num (v2_3),num (v2_4),num (v2_5)])]) (fr:=fK 145 [(27,.bool true),(29,.bool true),(20,dM 2),(26,dM 4),(28,dM 5)]) (H:=[]) (lo:=[]) (wb:=[dU [var 0,var 2,var 4,var 6,var 8,var 10],dU [var 1,var 3,var 5,var 7,var 9,var 11],dU [var 12,var 14,var 16,var 18,var 20,var 22],dU [var 13,var 15,var 17,var 19,var 21,var 23],dU [var 24,var 26,var 28,var 30,var 32,var 34],dU [var 25,var 27,var 29,var 31,var 33,var 35]])  4 _ [] [] (by kernel_rfl) (by kernel_rfl) (by simp) ⟨fq (b:=(decide (u0_0≤v0_0))) (by kernel_rfl) hp0_0 (fq (b:=(decide (v0_0≤v0_1))) (by kernel_rfl) hq0_0 (fq (b:=(decide (v0_1≤u0_1))) (by kernel_rfl) hr0_0 (fq (b:=(decide (u0_2≤v0_2))) (by kernel_rfl) hp0_1 (fq (b:=(decide (v0_2≤v0_3))) (by kernel_rfl) hq0_1 (fq (b:=(decide (v0_3≤u0_3))) (by kernel_rfl) hr0_1 (fq (b:=(decide (u0_4≤v0_4))) (by kernel_rfl) hp0_2 (fq (b:=(decide (v0_4≤v0_5))) (by kernel_rfl) hq0_2 (fq (b:=(decide (v0_5≤u0_5))) (by kernel_rfl) hr0_2 (fq (b:=(decide (u1_0≤v1_0))) (by kernel_rfl) hp1_0 (fq (b:=(decide (v1_0≤v1_1))) (by kernel_rfl) hq1_0 (fq (b:=(decide (v1_1≤u1_1))) (by kernel_rfl) hr1_0 (fq (b:=(decide (u1_2≤v1_2))) (by kernel_rfl) hp1_1 (fq (b:=(decide (v1_2≤v1_3))) (by kernel_rfl) hq1_1 (fq (b:=(decide (v1_3≤u1_3))) (by kernel_rfl) hr1_1 (fq (b:=(decide (u1_4≤v1_4))) (by kernel_rfl) hp1_2 (fq (b:=(decide (v1_4≤v1_5))) (by kernel_rfl) hq1_2 (fq (b:=(decide (v1_5≤u1_5))) (by kernel_rfl) hr1_2 (fq (b:=(decide (u2_0≤v2_0))) (by kernel_rfl) hp2_0 (fq (b:=(decide (v2_0≤v2_1))) (by kernel_rfl) hq2_0 (fq (b:=(decide (v2_1≤u2_1))) (by kernel_rfl) hr2_0 (fq (b:=(decide (u2_2≤v2_2))) (by kernel_rfl) hp2_1 (fq (b:=(decide (v2_2≤v2_3))) (by kernel_rfl) hq2_1 (fq (b:=(decide (v2_3≤u2_3))) (by kernel_rfl) hr2_1 (fq (b:=(decide (u2_4≤v2_4))) (by kernel_rfl) hp2_2 (fq (b:=(decide (v2_4≤v2_5))) (by kernel_rfl) hq2_2 (fq (b:=(decide (v2_5≤u2_5))) (by kernel_rfl) hr2_2 (fB _))))))))))))))))))))))))))),jo,dR hw0.wf<|dR hw1.wf<|dR hw2.wf<|dR hw3.wf<|dR hw4.wf<|dR hw5.wf<|all_nil,(by exact hown),kF,fun _=>⟨dR (qa hw0 rfl rfl rfl rfl)<|dR (qa hw1 rfl rfl rfl rfl)<|dR (qa hw2 rfl rfl rfl rfl)<|dR (qa hw3 rfl rfl rfl rfl)<|dR (qa hw4 rfl rfl rfl rfl)<|dR (qa hw5 rfl rfl rfl rfl)<|all_nil,dR (jf rfl hSp (by kernel_rfl) (by kernel_rfl))<|dR (jf rfl hT0 (by kernel_rfl) (by kernel_rfl))<|dR (jf rfl hT1 (by kernel_rfl) (by kernel_rfl))<|all_nil,all_nil⟩⟩ h hk hQ
theorem a4z {B0 B1 Sp Sq T0 T1:dY} {x y z d e i:Int} {k0 k1:Bool} {n19 n22:Nat} (hqt:∀z_∈([⟨16,[],.val (.bool true)⟩]:List Qt),jB aa (gB (w0,[]) [] [] []) z_)
  (hown:∀q∈[]++[],q∈([]:List Nat)∨w0.heap.size≤q) (hnd:([]++[]:List Nat).Nodup) (h:dP (dS 145 []) [] [] a w) (hk:dO w0 [] w)
  (hQ:∀a' w',dP (dS 145 []) [] [] a' w'→dO w0 [] w'→RR (.returned (.bool true)) w'):(sR 10 (dN amC)).wp aa (bodyPost aa amC RR) a w:=by
 refine Q7 ([]) ([]) [] (w0:=w0) (ex:=[]) (g:=[]) (wt:=[]) (lt:=[]) (t:={ QT:=[⟨16,[],.val (.bool true)⟩] }) (ws:=[]) (fr:=fK 145 []) (H:=[]) (lo:=[]) (wb:=[])  (u:=.bool true) 4 [] [] (by kernel_rfl) (by kernel_rfl) (by simp) ⟨fB _,yA hqt,all_nil,(by exact hown),kF,fun _=>⟨all_nil,all_nil,all_nil⟩⟩ h hk hQ
end Go.Proofs
end
section
namespace Go.Proofs
open Go.Sm Go.RowKit En
theorem alT:(sR 3 (dN amC))=o7 [(dZ (sR 3 (dN amC))),(dZ (sR 4 (dN amC)))] (.seq (CS (dN amC)) (.seq (kS (dN amC)) (sR 7 (dN amC)))):=by kernel_rfl
theorem akA:(sR 7 (dN amC))=o7 [(dZ (sR 7 (dN amC))),(dZ (sR 8 (dN amC))),(dZ (sR 9 (dN amC)))] (sR 10 (dN amC)):=by kernel_rfl
theorem alU:Hd (CS (dN amC)) 9 20 [.tmp 55,.tmp 56,.tmp 57,.tmp 58,.tmp 59,.tmp 63] 64:=WX (by kernel_rfl)
theorem alV:Hd (kS (dN amC)) 8 20 [.tmp 68,.tmp 69,.tmp 70,.tmp 71,.tmp 74,.tmp 75] 76:=WX (by kernel_rfl)
variable {w:World}
theorem alx {w':World} {n:Nat} {T:Mx} {e:Ending} (h:VB w n T e w'):∃Tt:dY,e=.returned (.tuple ⟨[dJ Tt,.bool (!T.fl)]⟩)∧(T.fl=false→afo w w' Tt n T):=by
 obtain ⟨_,r1,r2⟩:=h
 cases hf:T.fl with
 | true=>exact ⟨(none,0,0),r1 hf,fun e=>by cases e⟩
 | false =>
  obtain ⟨gl,q1,q2,q3,q4⟩:=r2 hf
  exact ⟨(some ⟨gl,0,none⟩,n,n),q3,fun _=>⟨hf,rfl,aeg q4,fun a ha=>by injection ha with ha; subst ha; exact q1⟩⟩
theorem alv (js:List JV) (mvs:List MV) (ps qs:List Int) (d i x y z:Int):(xq js mvs ps qs d i x y z).us.length=js.length∧(xq js mvs ps qs d i x y z).xs.length=js.length∧(xq js mvs ps qs d i x y z).gs.length=js.length:=by
 unfold xq yY yZ iU
 simp [ry]
theorem EU {r R:Int×Int} (h:Sb r R):decide (R.1≤r.1)=true∧decide (r.1≤r.2)=true∧decide (r.2≤R.2)=true:=⟨decide_eq_true h.1,decide_eq_true h.2.1,decide_eq_true h.2.2⟩
variable {P:Program} {E:Env}
theorem qtv {f:FuncId} {xs vs:List Value} {v u:Value} (h1:eQ (fP E ⟨[],[]⟩ 5) xs=some vs) (h2:fP E ⟨[],[]⟩ 5 v=some u) (h:∀w,Calls P f vs.toArray w fun e w'=>e=.returned u∧w=w'):jB P E ⟨f,xs,.val v⟩ :=
 fun w _=>⟨vs,h1,(h w).mono fun e w' ⟨q1,q2⟩=>by subst q2; exact ⟨aI _ _,u,h2,q1⟩⟩
variable {p q d i:Int}
theorem alh (hp:-4194304≤p∧p≤4194304) (hq:-4194304≤q∧q≤4194304) (hd:0≤d∧d≤20) (hi:0≤i∧i<2^d.toNat) :
  pM p q d i=p+mn (i*(q - p)) ((i+1)*(q - p))/2^d.toNat∧pK p q d i=p - -(mx (i*(q - p)) ((i+1)*(q - p)))/2^d.toNat:=by
 have hD0:(0:Int)<2^d.toNat:=Int.pow_pos (by decide)
 have hD1:(2:Int)^d.toNat≤1048576:=by
  have:(2:Nat)^d.toNat≤2^20:=Nat.pow_le_pow_right (by decide) (by omega)
  have h2:((2^d.toNat:Nat):Int)≤((2^20:Nat):Int):=by exact_mod_cast this
  simpa using h2
 unfold pM pK Bq Br LK mn mx
 rw [show min d.toNat 64=d.toNat by omega]
 generalize (2:Int)^d.toNat=D at *
 rw [dz (q - p) (by omega),dz (i+1) (by omega)]
 obtain ⟨x,hx⟩:∃x,q - p=x:=⟨_,rfl⟩
 rw [hx]
 have b:∀t:Int,0≤t→t≤1048576→-8796093022208≤t*x∧t*x≤8796093022208:=fun t h0 h1=>by
  have h3:=amG (show -8388608≤x by omega) h0
  have h4:=amG (show x≤8388608 by omega) h0
  omega
 have bA:=b i hi.1 (by omega)
 have bB:=b (i+1) (by omega) (by omega)
 rw [dz (i*x) (by omega),dz ((i+1)*x) (by omega)]
 have k:∀t:Int,-8796093022208≤t→t≤8796093022208→-8796093022208≤t/D∧t/D≤8796093022208:=fun t h1 h2=>by
  constructor
  ·refine (Int.le_ediv_iff_mul_le hD0).2 ?_
   have:=Int.mul_le_mul_of_nonpos_left (show (-8796093022208:Int)≤0 by omega) (show 1≤D by omega)
   omega
  ·refine Int.ediv_le_of_le_mul hD0 ?_
   have:=amG (show 1≤D by omega) (show (0:Int)≤8796093022208 by omega)
   omega
 have m1:-8796093022208≤(if (i+1)*x<i*x then (i+1)*x else i*x)∧(if (i+1)*x<i*x then (i+1)*x else i*x)≤8796093022208:=by split<;>omega
 have m2:-8796093022208≤(if i*x<(i+1)*x then (i+1)*x else i*x)∧(if i*x<(i+1)*x then (i+1)*x else i*x)≤8796093022208:=by split<;>omega
 generalize (if (i+1)*x<i*x then (i+1)*x else i*x)=m at m1 ⊢
 generalize (if i*x<(i+1)*x then (i+1)*x else i*x)=M at m2 ⊢
 rw [dz (-M) (by omega),amD _ (by omega),amD _ (by omega)]
 have k1:=k m m1.1 m1.2
 have k2:=k (-M) (by omega) (by omega)
 exact ⟨dz _ (by omega),dz _ (by omega)⟩
variable {e:Int}
theorem amn (hp:-4194304≤p∧p≤4194304) (hq:-4194304≤q∧q≤4194304) (hd:0≤d) (he:0≤e) (hde:d+e≤20) (hi:0≤i∧i<2^(d+e).toNat) (ho:0≤i/2^e.toNat∧i/2^e.toNat<2^d.toNat) :
  gu (pM p q (d+e) i,pK p q (d+e) i) (pM p q d (i/2^e.toNat),pK p q d (i/2^e.toNat)):=by
 have a:=acp hp hq (show 0≤d+e∧d+e≤20 by omega) hi
 have A:=acp hp hq (show 0≤d∧d≤20 by omega) ho
 obtain ⟨v1,v2⟩:=alh hp hq (show 0≤d+e∧d+e≤20 by omega) hi
 obtain ⟨V1,V2⟩:=alh hp hq (show 0≤d∧d≤20 by omega) ho
 have hN:(0:Int)<2^e.toNat:=Int.pow_pos (by decide)
 have hD:(0:Int)<2^d.toNat:=Int.pow_pos (by decide)
 have hp2:(2:Int)^(d+e).toNat=2^d.toNat*2^e.toNat:=by rw [←Int.pow_add,show (d+e).toNat=d.toNat+e.toNat by omega]
 have r1:=Int.mul_ediv_add_emod i (2^e.toNat)
 have r2:=amL i (show (2:Int)^e.toNat≠0 by omega)
 have r3:=Int.emod_lt_of_pos i hN
 rw [hp2] at v1 v2
 generalize (2:Int)^e.toNat=N at *
 generalize (2:Int)^d.toNat=D at *
 generalize i/N=I at *
 generalize i % N=r at *
 generalize q - p=x at *
 have key:mn (I*x) ((I+1)*x)*N≤mn (i*x) ((i+1)*x)∧mx (i*x) ((i+1)*x)≤mx (I*x) ((I+1)*x)*N:=by
  have e1:i=N*I+r:=by omega
  have e2:(I+1)*x*N=I*x*N+N*x:=by rw [amF,amF,amM,Int.mul_comm x N]
  have e3:i*x=I*x*N+r*x:=by
   rw [e1,amF]
   have:N*I*x=I*x*N:=by ac_rfl
   omega
  have e4:(i+1)*x=i*x+x:=by rw [amF,amM]
  rcases Int.le_total 0 x with h | h
  ·have f1:0≤r*x:=ajm r2 h
   have f2:(r+1)*x≤N*x:=Int.mul_le_mul_of_nonneg_right (by omega) h
   have f3:(r+1)*x=r*x+x:=by rw [amF,amM]
   have g1:mn (I*x) ((I+1)*x)=I*x:=by unfold mn; rw [amF,amM]; split<;>omega
   have g2:mx (I*x) ((I+1)*x)=(I+1)*x:=by unfold mx; rw [amF,amM]; split<;>omega
   rw [g1,g2,e2]
   unfold mn mx
   constructor<;>split<;>omega
  ·have f1:r*x≤0:=Int.mul_nonpos_of_nonneg_of_nonpos r2 h
   have f2:N*x≤(r+1)*x:=Int.mul_le_mul_of_nonpos_right (by omega) h
   have f3:(r+1)*x=r*x+x:=by rw [amF,amM]
   have g1:mn (I*x) ((I+1)*x)=(I+1)*x:=by unfold mn; rw [amF,amM]; split<;>omega
   have g2:mx (I*x) ((I+1)*x)=I*x:=by unfold mx; rw [amF,amM]; split<;>omega
   rw [g1,g2,e2]
   unfold mn mx
   constructor<;>split<;>omega
 have q1:mn (I*x) ((I+1)*x)/D≤mn (i*x) ((i+1)*x)/(D*N):=by
  rw [←Int.mul_ediv_mul_of_pos_left (mn (I*x) ((I+1)*x)) D hN]
  exact Int.ediv_le_ediv (Int.mul_pos hD hN) key.1
 have q2:-(mx (I*x) ((I+1)*x))/D≤-(mx (i*x) ((i+1)*x))/(D*N):=by
  rw [←Int.mul_ediv_mul_of_pos_left (-(mx (I*x) ((I+1)*x))) D hN]
  refine Int.ediv_le_ediv (Int.mul_pos hD hN) ?_
  rw [ajn]
  omega
 have m1:-4194304≤min p q:=by omega
 have m2:max p q≤4194304:=by omega
 unfold gu In
 simp only
 omega
variable {js:List JV} {ps qs:List Int}
theorem amq (jb:∀(k:Nat) (j:JV),js[k]?=some j→-4194304≤j.lo∧j.hi≤4194304) (ip:mi js ps) (iq:mi js qs) (hd:0≤d) (he:0≤e) (hde:d+e≤20) (hi:0≤i∧i<2^(d+e).toNat) (ho:0≤i/2^e.toNat∧i/2^e.toNat<2^d.toNat):PL (acs js ps qs (d+e) i) (acs js ps qs d (i/2^e.toNat)):=by
 have hl:qs.length=ps.length:=by have:=ip.1; have:=iq.1; omega
 refine ak7 js _ _ [] [] (by rw [QO _ _ _ _ hl,QO _ _ _ _ hl]) (fun k b B h1 h2=>?_) ⟨rfl,fun _=>alj⟩
 obtain ⟨p,q,p1,q1,rfl⟩:=QN _ _ _ _ _ _ h1
 obtain ⟨p',q',p2,q2,rfl⟩:=QN _ _ _ _ _ _ h2
 rw [p1] at p2; rw [q1] at q2
 injection p2 with p2; injection q2 with q2
 subst p2 q2
 exact amn (ahw jb ip k p p1) (ahw jb iq k q q1) hd he hde hi ho
theorem five {a:Int} (h0:0≤a) (h1:a<5):a=0∨a=1∨a=2∨a=3∨a=4:=by omega
variable {w1:World} {a1:Act}
theorem akK (hb:Below w.heap.size w w1) (hs:dP (dS 145 []) [] [] a1 w1):(sR 10 (dN amC)).wp aa (bodyPost aa amC (wz w)) a1 w1 :=
 a4z (w0:=w1) (B0:=(none,0,0)) (B1:=(none,0,0)) (Sp:=(none,0,0)) (Sq:=(none,0,0)) (T0:=(none,0,0)) (T1:=(none,0,0)) (x:=0) (y:=0) (z:=0) (d:=0) (e:=0) (i:=0) (k0:=false) (k1:=false) (n19:=0) (n22:=0) H6 (fun q hq=>by cases hq) (by simp) hs (dO.refl w1 _) fun a3 w3 s4 k3=>⟨rfl,xG ((uo hb).trans k3)⟩
theorem amf (hb:Below w.heap.size w w1) (hs:dP (dS 145 [(27,.bool false)]) [] [] a1 w1):(sR 7 (dN amC)).wp aa (bodyPost aa amC (wz w)) a1 w1 :=
 a4r (w0:=w1) (B0:=(none,0,0)) (B1:=(none,0,0)) (Sp:=(none,0,0)) (Sq:=(none,0,0)) (T0:=(none,0,0)) (T1:=(none,0,0)) (x:=0) (y:=0) (z:=0) (d:=0) (e:=0) (i:=0) (k0:=false) (k1:=false) (n19:=0) (n22:=0) H6 (fun q hq=>by cases hq) (by simp) hs (dO.refl w1 _) fun a3 w3 s4 k3=>⟨rfl,xG ((uo hb).trans k3)⟩
variable {v0 v1:World} {Sp T0 T1:dY}
theorem ama {A0 A1:Mx} (hb:Below w.heap.size w w1) (hSp:Sp.2.1=1) (t0:afo v0 w1 T0 1 A0) (t1:afo v1 w1 T1 1 A1) (l0:A0.us.length=1∧A0.xs.length=1∧A0.gs.length=1) (l1:A1.us.length=1∧A1.xs.length=1∧A1.gs.length=1) (hT:aki A1 A0) (hs:dP (dS 145 [(27,.bool true),(29,.bool true),(20,dJ Sp),(26,dJ T0),(28,dJ T1)]) [] [] a1 w1):(sR 7 (dN amC)).wp aa (bodyPost aa amC (wz w)) a1 w1:=by
 rw [akA]
 obtain ⟨b00,o00,R00⟩:=row_of (k:=0) (w0:=w1) t0.sl t0.ln l0.1 l0.2.1 l0.2.2 (by omega) rfl rfl
 obtain ⟨b10,o10,R10⟩:=row_of (k:=0) (w0:=w1) t1.sl t1.ln l1.1 l1.2.1 l1.2.2 (by omega) rfl rfl
 have U0:=EU (hT.us.at_ 0).1
 have X0:=EU (hT.xs.at_ 0).1
 have G0:=EU (hT.gs.2 0)
 exact alL (w0:=w1) (B0:=(none,0,0)) (B1:=(none,0,0)) (Sq:=(none,0,0)) (x:=0) (y:=0) (z:=0) (d:=0) (e:=0) (i:=0) (k0:=false) (k1:=false) (n19:=0) (n22:=0) hSp t0.ln t1.ln U0.1 U0.2.1 U0.2.2 X0.1 X0.2.1 X0.2.2 G0.1 G0.2.1 G0.2.2 R00 R10 (fun q hq=>by cases hq) (by simp) hs (dO.refl w1 _) fun a3 w3 s4 k3=>akK (xG ((uo hb).trans k3)) s4
theorem amb {A0 A1:Mx} (hb:Below w.heap.size w w1) (hSp:Sp.2.1=2) (t0:afo v0 w1 T0 2 A0) (t1:afo v1 w1 T1 2 A1) (l0:A0.us.length=2∧A0.xs.length=2∧A0.gs.length=2) (l1:A1.us.length=2∧A1.xs.length=2∧A1.gs.length=2) (hT:aki A1 A0) (hs:dP (dS 145 [(27,.bool true),(29,.bool true),(20,dJ Sp),(26,dJ T0),(28,dJ T1)]) [] [] a1 w1):(sR 7 (dN amC)).wp aa (bodyPost aa amC (wz w)) a1 w1:=by
 rw [akA]
 obtain ⟨b00,o00,R00⟩:=row_of (k:=0) (w0:=w1) t0.sl t0.ln l0.1 l0.2.1 l0.2.2 (by omega) rfl rfl
 obtain ⟨b10,o10,R10⟩:=row_of (k:=0) (w0:=w1) t1.sl t1.ln l1.1 l1.2.1 l1.2.2 (by omega) rfl rfl
 have U0:=EU (hT.us.at_ 0).1
 have X0:=EU (hT.xs.at_ 0).1
 have G0:=EU (hT.gs.2 0)
 obtain ⟨b01,o01,R01⟩:=row_of (k:=1) (w0:=w1) t0.sl t0.ln l0.1 l0.2.1 l0.2.2 (by omega) rfl rfl
 obtain ⟨b11,o11,R11⟩:=row_of (k:=1) (w0:=w1) t1.sl t1.ln l1.1 l1.2.1 l1.2.2 (by omega) rfl rfl
 have U1:=EU (hT.us.at_ 1).1
 have X1:=EU (hT.xs.at_ 1).1
 have G1:=EU (hT.gs.2 1)
 exact alM (w0:=w1) (B0:=(none,0,0)) (B1:=(none,0,0)) (Sq:=(none,0,0)) (x:=0) (y:=0) (z:=0) (d:=0) (e:=0) (i:=0) (k0:=false) (k1:=false) (n19:=0) (n22:=0) hSp t0.ln t1.ln U0.1 U0.2.1 U0.2.2 X0.1 X0.2.1 X0.2.2 G0.1 G0.2.1 G0.2.2 U1.1 U1.2.1 U1.2.2 X1.1 X1.2.1 X1.2.2 G1.1 G1.2.1 G1.2.2 R00 R10 R01 R11 (fun q hq=>by cases hq) (by simp) hs (dO.refl w1 _) fun a3 w3 s4 k3=>akK (xG ((uo hb).trans k3)) s4
theorem amc {A0 A1:Mx} (hb:Below w.heap.size w w1) (hSp:Sp.2.1=3) (t0:afo v0 w1 T0 3 A0) (t1:afo v1 w1 T1 3 A1) (l0:A0.us.length=3∧A0.xs.length=3∧A0.gs.length=3) (l1:A1.us.length=3∧A1.xs.length=3∧A1.gs.length=3) (hT:aki A1 A0) (hs:dP (dS 145 [(27,.bool true),(29,.bool true),(20,dJ Sp),(26,dJ T0),(28,dJ T1)]) [] [] a1 w1):(sR 7 (dN amC)).wp aa (bodyPost aa amC (wz w)) a1 w1:=by
 rw [akA]
 obtain ⟨b00,o00,R00⟩:=row_of (k:=0) (w0:=w1) t0.sl t0.ln l0.1 l0.2.1 l0.2.2 (by omega) rfl rfl
 obtain ⟨b10,o10,R10⟩:=row_of (k:=0) (w0:=w1) t1.sl t1.ln l1.1 l1.2.1 l1.2.2 (by omega) rfl rfl
 have U0:=EU (hT.us.at_ 0).1
 have X0:=EU (hT.xs.at_ 0).1
 have G0:=EU (hT.gs.2 0)
 obtain ⟨b01,o01,R01⟩:=row_of (k:=1) (w0:=w1) t0.sl t0.ln l0.1 l0.2.1 l0.2.2 (by omega) rfl rfl
 obtain ⟨b11,o11,R11⟩:=row_of (k:=1) (w0:=w1) t1.sl t1.ln l1.1 l1.2.1 l1.2.2 (by omega) rfl rfl
 have U1:=EU (hT.us.at_ 1).1
 have X1:=EU (hT.xs.at_ 1).1
 have G1:=EU (hT.gs.2 1)
 obtain ⟨b02,o02,R02⟩:=row_of (k:=2) (w0:=w1) t0.sl t0.ln l0.1 l0.2.1 l0.2.2 (by omega) rfl rfl
 obtain ⟨b12,o12,R12⟩:=row_of (k:=2) (w0:=w1) t1.sl t1.ln l1.1 l1.2.1 l1.2.2 (by omega) rfl rfl
 have U2:=EU (hT.us.at_ 2).1
 have X2:=EU (hT.xs.at_ 2).1
 have G2:=EU (hT.gs.2 2)
 exact alN (w0:=w1) (B0:=(none,0,0)) (B1:=(none,0,0)) (Sq:=(none,0,0)) (x:=0) (y:=0) (z:=0) (d:=0) (e:=0) (i:=0) (k0:=false) (k1:=false) (n19:=0) (n22:=0) hSp t0.ln t1.ln U0.1 U0.2.1 U0.2.2 X0.1 X0.2.1 X0.2.2 G0.1 G0.2.1 G0.2.2 U1.1 U1.2.1 U1.2.2 X1.1 X1.2.1 X1.2.2 G1.1 G1.2.1 G1.2.2 U2.1 U2.2.1 U2.2.2 X2.1 X2.2.1 X2.2.2 G2.1 G2.2.1 G2.2.2 R00 R10 R01 R11 R02 R12 (fun q hq=>by cases hq) (by simp) hs (dO.refl w1 _) fun a3 w3 s4 k3=>akK (xG ((uo hb).trans k3)) s4
theorem akM {z:Qt} {l:List Qt} (h:jB P E z) (hl:∀y∈l,jB P E y):∀y∈z::l,jB P E y:=fun y hy=>by
 rcases ag.1 hy with rfl | hy
 ·exact h
 ·exact hl y hy
theorem amg {B0 B1 Sq:dY} {mvs:List MV} {x y z dp mo ix:Int} {n19 n22:Nat} {a:Act} {W0:World} (h:jW W0 [n19,n22] B0 B1 js mvs) (hm2:mvs.length≤2) (hP:Sp.2.1=ps.length) (hQ:Sq.2.1=qs.length) (sP:Sl W0 Sp.1 1 (fF ps)) (sQ:Sl W0 Sq.1 1 (fF qs)) (ip:mi js ps) (iq:mi js qs) (xP:∀a,Sp.1=some a→fF ps≠[]→a.block∉[n19,n22]) (xQ:∀a,Sq.1=some a→fF qs≠[]→a.block∉[n19,n22])
  (hx:-16777216≤x∧x≤16777216) (hy:-16777216≤y∧y≤16777216) (hz:-16777216≤z∧z≤16777216) (hnd:([n19,n22]++[]:List Nat).Nodup)
  (s0:dP (dS 145 [(6,num dp),(7,num mo),(8,num ix),(19,dK n19),(20,dJ Sp),(21,dJ Sq),(22,dK n22)]) [(n19,[dJ B0,dJ B1],35),(n22,[num x,num y,num z],40)] [] a W0) (hb:Below w.heap.size w W0) (hge:∀g∈[n19,n22],w.heap.size≤g) :
  (sR 3 (dN amC)).wp aa (bodyPost aa amC (wz w)) a W0:=by
 have hown:∀q∈[n19,n22]++[],q∈[n19,n22]∨W0.heap.size≤q:=fun q hq=>.inl (by simpa using hq)
 have hlt:∀g∈[n19,n22],g<W0.heap.size:=fun g hg=>qE s0 g (by simpa using hg)
 have jb:∀(k:Nat) (j:JV),js[k]?=some j→-4194304≤j.lo∧j.hi≤4194304:=fun k j hk=>Pp (h.ok.2.1 k j hk)
 rw [alT]
 obtain ⟨d,hde⟩:∃d,dp % 5=d:=⟨_,rfl⟩
 obtain ⟨e,hee⟩:∃e,mo % 5=e:=⟨_,rfl⟩
 obtain ⟨i,hie⟩:∃i,ix % (2^(d+e).toNat)=i:=⟨_,rfl⟩
 have d0:0≤d:=by omega
 have d1:d<5:=by omega
 have e0:0≤e:=by omega
 have e1:e<5:=by omega
 have hpw:(0:Int)<2^(d+e).toNat:=Int.pow_pos (by decide)
 have hpu:(2:Int)^(d+e).toNat≤9223372036854775807:=by
  have:(2:Nat)^(d+e).toNat≤2^20:=Nat.pow_le_pow_right (by decide) (by omega)
  have h2:((2^(d+e).toNat:Nat):Int)≤((2^20:Nat):Int):=by exact_mod_cast this
  simp at h2
  omega
 have i0:0≤i:=by rw [←hie]; exact amL _ (by omega)
 have i1:i<2^(d+e).toNat:=by rw [←hie]; exact Int.emod_lt_of_pos _ hpw
 have q1:∀w,Calls aa 14 #[num dp,num 5] w fun e' w'=>e'=.returned (num d)∧w=w':=fun w=>by rw [←hde]; exact ac3 dp 5 w (by omega) (by omega)
 have q2:∀w,Calls aa 14 #[num mo,num 5] w fun e' w'=>e'=.returned (num e)∧w=w':=fun w=>by rw [←hee]; exact ac3 mo 5 w (by omega) (by omega)
 have q3:∀w,Calls aa 14 #[num ix,num (2^(d+e).toNat)] w fun e' w'=>e'=.returned (num i)∧w=w':=fun w=>by rw [←hie]; exact ac3 ix _ w hpw hpu
 refine a4n (w0:=W0) (B0:=B0) (B1:=B1) (Sp:=Sp) (Sq:=Sq) (T0:=(none,0,0)) (T1:=(none,0,0)) (x:=x) (y:=y) (z:=z) (i:=i) (five d0 d1) (five e0 e1) (Q:=_) (akM (qtv (vs:=[num dp,num 5]) (by kernel_rfl) (by kernel_rfl) q1) (akM (qtv (vs:=[num mo,num 5]) (by kernel_rfl) (by kernel_rfl) q2) (akM (qtv (vs:=[num ix,num (2^(d+e).toNat)]) (by kernel_rfl) (by kernel_rfl) q3) (fun y hy=>by cases hy)))) hown hnd s0 (dO.refl W0 _) fun a00 W1 s1 K1=>?_
 have hdv:(Int.fdiv i (2^(min (amJ e) 64)))=i/2^e.toNat:=by rw [show min (amJ e) 64=e.toNat by omega]; exact amD _ (Int.le_of_lt (Int.pow_pos (by decide)))
 have hN:(0:Int)<2^e.toNat:=Int.pow_pos (by decide)
 have ho:0≤i/2^e.toNat∧i/2^e.toNat<2^d.toNat:=by
  refine ⟨Int.ediv_nonneg i0 (by omega),Int.ediv_lt_of_lt_mul hN ?_⟩
  rw [←Int.pow_add,←show (d+e).toNat=d.toNat+e.toNat by omega]
  exact i1
 have hwr:wr (d+e)=d+e:=j4 (by omega) (by omega)
 refine wp_seq (yC (by kernel_rfl) (xN 9 ?_))
 refine alH (w0:=W1) (B0:=B0) (B1:=B1) (Sp:=Sp) (Sq:=Sq) (T0:=(none,0,0)) (T1:=(none,0,0)) (x:=x) (y:=y) (z:=z) (d:=d) (e:=e) (i:=i) (k0:=false) (k1:=false) (n19:=n19) (n22:=n22) (five e0 e1) (fun q hq=>.inl (by simpa using hq)) hnd s1 (dO.refl W1 _) fun a11 w11 s11 k11=>?_
 rw [hdv] at s11
 have K11:=K1.trans k11
 have l11:∀g∈[n19,n22],g<w11.heap.size:=fun g hg=>aC (hlt g hg) K11.size
 refine Xa alU s11 (vs:=[.agg ⟨[dJ B0,dJ B1]⟩,.agg ⟨[num x,num y,num z]⟩,dJ Sp,dJ Sq,num d,num (i/2^e.toNat)]) (by kernel_rfl) (GX (h.fz (nQ K11)).Fq hm2 hP hQ (l8 sP (nQ K11) (kX _) xP) (l8 sQ (nQ K11) (kX _) xQ) ip iq (by omega) (by exact ho) hx hy hz) fun e' w12 hR=>?_
 have kb1:=uo hR.1
 obtain ⟨T0,rfl,hT0⟩:=alx hR
 clear hR
 refine ⟨_,rfl,?_⟩
 obtain ⟨k0,hk0⟩:∃k,(!(xq js mvs ps qs d (i/2^e.toNat) x y z).fl)=k:=⟨_,rfl⟩
 rw [hk0]
 have s12:=yX (BF (BG s11 fun q hq=>kb1.frame q (qE s11 q hq) (by simp)) 64 (.tuple ⟨[dJ T0,.bool k0]⟩))
 have s12':=dP.sub (l':=[(19,dK n19),(20,dJ Sp),(21,dJ Sq),(22,dK n22),(23,num d),(24,num e),(25,num i),(64,.tuple ⟨[dJ T0,.bool k0]⟩)]) (gs':=[(n19,[dJ B0,dJ B1],35),(n22,[num x,num y,num z],40)]) (ls':=[]) s12 (fun x hx=>by
  simp only [ag,ae,or_false] at hx
  rcases hx with rfl | rfl | rfl | rfl | rfl | rfl | rfl | rfl<;>rfl) (fun x hx=>hx) (fun x hx=>hx) hnd
 have K12:dO W0 [n19,n22] w12:=K11.comp kb1 fun g hg=>by cases hg
 refine y9 (alJ (w0:=w12) (B0:=B0) (B1:=B1) (Sp:=Sp) (Sq:=Sq) (T0:=T0) (T1:=(none,0,0)) (x:=x) (y:=y) (z:=z) (d:=d) (e:=e) (i:=i) (k0:=k0) (k1:=false) (n19:=n19) (n22:=n22) (fun q hq=>.inl (by simpa using hq)) hnd s12' (dO.refl w12 _) fun a13 W2 s2 k13=>?_)
 have K2:=K12.trans k13
 refine wp_seq (yC (by kernel_rfl) (xN 8 ?_))
 refine alI (w0:=W2) (B0:=B0) (B1:=B1) (Sp:=Sp) (Sq:=Sq) (T0:=T0) (T1:=(none,0,0)) (x:=x) (y:=y) (z:=z) (d:=d) (e:=e) (i:=i) (k0:=k0) (k1:=false) (n19:=n19) (n22:=n22) (fun q hq=>.inl (by simpa using hq)) hnd s2 (dO.refl W2 _) fun a21 w21 s21 k21=>?_
 rw [hwr] at s21
 have K21:=K2.trans k21
 have l21:∀g∈[n19,n22],g<w21.heap.size:=fun g hg=>aC (hlt g hg) K21.size
 refine Xa alV s21 (vs:=[.agg ⟨[dJ B0,dJ B1]⟩,.agg ⟨[num x,num y,num z]⟩,dJ Sp,dJ Sq,num (d+e),num i]) (by kernel_rfl) (GX (h.fz (nQ K21)).Fq hm2 hP hQ (l8 sP (nQ K21) (kX _) xP) (l8 sQ (nQ K21) (kX _) xQ) ip iq (by omega) (by exact ⟨i0,i1⟩) hx hy hz) fun e' w22 hR=>?_
 have kb2:=uo hR.1
 obtain ⟨T1,rfl,hT1⟩:=alx hR
 clear hR
 refine ⟨_,rfl,?_⟩
 obtain ⟨k1,hk1⟩:∃k,(!(xq js mvs ps qs (d+e) i x y z).fl)=k:=⟨_,rfl⟩
 rw [hk1]
 have s22:=yX (BF (BG s21 fun q hq=>kb2.frame q (qE s21 q hq) (by simp)) 76 (.tuple ⟨[dJ T1,.bool k1]⟩))
 have s22':=dP.sub (l':=[(19,dK n19),(20,dJ Sp),(21,dJ Sq),(22,dK n22),(23,num d),(24,num e),(25,num i),(26,dJ T0),(27,.bool k0),(76,.tuple ⟨[dJ T1,.bool k1]⟩)]) (gs':=[(n19,[dJ B0,dJ B1],35),(n22,[num x,num y,num z],40)]) (ls':=[]) s22 (fun x hx=>by
  simp only [ag,ae,or_false] at hx
  rcases hx with rfl | rfl | rfl | rfl | rfl | rfl | rfl | rfl | rfl | rfl<;>rfl) (fun x hx=>hx) (fun x hx=>hx) hnd
 have K22:dO W0 [n19,n22] w22:=K21.comp kb2 fun g hg=>by cases hg
 refine y9 (alK (w0:=w22) (B0:=B0) (B1:=B1) (Sp:=Sp) (Sq:=Sq) (T0:=T0) (T1:=T1) (x:=x) (y:=y) (z:=z) (d:=d) (e:=e) (i:=i) (k0:=k0) (k1:=k1) (n19:=n19) (n22:=n22) (fun q hq=>.inl (by simpa using hq)) hnd s22' (dO.refl w22 _) fun a23 W3 s3 k23=>?_)
 have K3:=K22.trans k23
 have hB3:Below w.heap.size w W3:=xG ((uo hb).comp K3 fun g hg=>.inr (hge g hg))
 have sub:∀l':List (Nat×Value),(∀x∈l',lookO x.1 [(19,dK n19),(20,dJ Sp),(21,dJ Sq),(22,dK n22),(23,num d),(24,num e),(25,num i),(26,dJ T0),(27,.bool k0),(28,dJ T1),(29,.bool k1)]=some x.2)→dP (dS 145 l') [] [] a23 W3:=fun l' hl=>dP.sub s3 hl (fun x hx=>by cases hx) (fun x hx=>by cases hx) (by simp)
 cases k0 with
 | false=>exact amf hB3 (sub _ fun x hx=>by
   simp only [ag,ae,or_false] at hx
   rcases hx with rfl; rfl)
 | true =>
 have f0:(xq js mvs ps qs d (i/2^e.toNat) x y z).fl=false:=by simpa using hk0
 have hS:=amA (amq jb ip iq d0 e0 (by omega) ⟨i0,i1⟩ ho) (fun m hm=>by
  obtain ⟨k,hk⟩:=cZ hm
  exact (h.ms k m hk).2.1) f0
 have hk1':k1=true:=by rw [←hk1,hS.fl]; rfl
 subst hk1'
 have t0:=(((hT0 f0).keep k13 l11).keep k21 l11)
 have t0:=(t0.keep kb2 fun g hg=>by cases hg).keep k23 l11
 have t1:=(hT1 hS.fl).keep k23 l21
 have hSp:Sp.2.1=js.length:=by rw [hP,←ip.1]
 have s4:=sub [(27,.bool true),(29,.bool true),(20,dJ Sp),(26,dJ T0),(28,dJ T1)] (fun x hx=>by
  simp only [ag,ae,or_false] at hx
  rcases hx with rfl | rfl | rfl | rfl | rfl<;>rfl)
 have hn:=h.n
 have L0:=alv js mvs ps qs d (i/2^e.toNat) x y z
 have L1:=alv js mvs ps qs (d+e) i x y z
 generalize xq js mvs ps qs d (i/2^e.toNat) x y z=A0 at *
 generalize xq js mvs ps qs (d+e) i x y z=A1 at *
 generalize js.length=n at hn hSp t0 t1 L0 L1
 rcases (show n=1∨n=2∨n=3 by omega) with rfl | rfl | rfl
 ·exact ama hB3 hSp t0 t1 L0 L1 hS s4
 ·exact amb hB3 hSp t0 t1 L0 L1 hS s4
 ·exact amc hB3 hSp t0 t1 L0 L1 hS s4
end Go.Proofs
end
section
namespace Go.Proofs.En
open Go.RowKit Go.Sm
theorem amd {w V F W1:World} {ra rm ok1 ok2:Option Addr} {rc rd kc1 kc2 n13 n18:Nat} {jr:List JV} {mr:List MV} {ks1 ks2:List Int} {x y z dp mo ix:Int} {c:Code} {a:Act} (hc:c=(sR 3 (dN amC))) (hR:Cf jr mr ra rm W1) (hRJ:Sl V ra 12 (jr.map JV.vals)) (hRM:Sl V rm 5 (mr.map MV.vals)) (hi1:AQ jr ks1) (he1:ks1.length=jr.length) (hi2:AQ jr ks2) (he2:ks2.length=jr.length)
  (hM:Mid V F n18 ok1 ok2 ks1 ks2 (.int .i64 x) (.int .i64 y) (.int .i64 z))
  (hx:-16777216≤x∧x≤16777216) (hy:-16777216≤y∧y≤16777216) (hz:-16777216≤z∧z≤16777216)
  (hblk:V.heap[n13]?=some (.cells #[.slice ra jr.length rc,.slice rm mr.length rd] 35 (0,0))) (hb:Below w.heap.size w V) (h13:w.heap.size≤n13) (hd:a.defers=[]) (hs:a.tmps.size=145) (hf:∀p∈([(6,num dp),(7,num mo),(8,num ix),(19,dK n13),(20,.slice ok1 ks1.length kc1),(21,.slice ok2 ks2.length kc2),(22,dK n18)]:List (Nat×Value)),a.tmps[p.1]?=some p.2) :
  c.wp aa (bodyPost aa amC (wz w)) a F:=by
 subst hc
 have l13:n13<V.heap.size:=(aB.1 hblk).1
 have l18:n18<F.heap.size:=(aB.1 hM.hG).1
 have q1:=hM.ge
 have e13:F.heap[n13]?=some (.cells #[.slice ra jr.length rc,.slice rm mr.length rd] 35 (0,0)):=(hM.gW.block _ l13).trans hblk
 have hnd:([n13,n18]++[]:List Nat).Nodup:=by
  simp only [afk,ag5,ag,ae,or_false,not_false_eq_true,List.nodup_nil,and_true]
  omega
 have hst:dP (dS 145 [(6,num dp),(7,num mo),(8,num ix),(19,dK n13),(20,dJ (ok1,ks1.length,kc1)),(21,dJ (ok2,ks2.length,kc2)),(22,dK n18)]) [(n13,[dJ (ra,jr.length,rc),dJ (rm,mr.length,rd)],35),(n18,[num x,num y,num z],40)] [] a F:=by
  refine ⟨hd,by rw [hs]; simp [dS],fun t u e=>?_,fun q hq=>?_,(fun q hq=>by cases hq),by simpa using hnd⟩
  ·simp only [dS,bY,aR] at e
   obtain ⟨q,q1,q2⟩:=e
   obtain ⟨hlt,hq⟩:=ai.1 q1
   simp only [List.getElem_range] at hq
   subst hq
   exact hf _ (Kb q2)
  ·simp only [ag,ae,or_false] at hq
   rcases hq with rfl | rfl
   ·exact e13
   ·exact hM.hG
 have xJ:∀a,ra=some a→a.block∉[n13,n18]:=fun a ha hm=>by
  have hn:=hR.1
  have hlt:=afs hRJ a ha (by intro e; rw [ag3] at e; rw [e] at hn; simp at hn)
  match jr,hn,hRJ with
  | [],hn,_=>simp at hn
  | j::jr,_,hRJ =>
   have h1:=(JN hblk hRJ (l:=j.vals) (k:=1) rfl rfl a ha).1
   simp only [ag,ae,or_false] at hm h1
   rcases hm with r | r<;>first | exact h1 r | omega
 have xM:∀a,rm=some a→mr≠[]→a.block∉[n13,n18]:=fun a ha h0 hm=>by
  have hlt:=afs hRM a ha (by intro e; rw [ag3] at e; exact h0 e)
  match mr,h0,hRM with
  | [],h0,_=>exact absurd rfl h0
  | m::mr,_,hRM =>
   have h1:=(JN hblk hRM (l:=m.vals) (k:=0) rfl rfl a ha).1
   simp only [ag,ae,or_false] at hm h1
   rcases hm with r | r<;>first | exact h1 r | omega
 have xK:∀{ks:List Int} {o:Option Addr},Sl F o 1 (fF ks)→(∀a,o=some a→fF ks≠[]→a.block≠n18)→∀a,o=some a→fF ks≠[]→a.block∉[n13,n18]:=fun {ks o} h h18 a ha h0 hm=>by
  have hn:=h18 a ha h0
  match ks,h,h0 with
  | [],_,h0=>exact absurd rfl h0
  | k::ks,h,_ =>
   have h1:=(JN e13 h (l:=[.int .i64 k]) (k:=0) rfl rfl a ha).1
   simp only [ag,ae,or_false] at hm h1
   rcases hm with r | r<;>first | exact h1 r | exact hn r
 have r0:jW F [n13,n18] (ra,jr.length,rc) (rm,mr.length,rd) jr mr:=afO hR rfl (hRJ.keep hM.gW) (hRM.keep hM.gW) xJ xM
 exact amg r0 hR.2.1 rfl rfl hM.s1 hM.s2 ⟨he1.symm,hi1⟩ ⟨he2.symm,hi2⟩ (xK hM.s1 hM.x1) (xK hM.s2 hM.x2) hx hy hz hnd hst (jD hb hM.gW) (fun g hg=>by
  have:=hb.size
  simp only [ag,ae,or_false] at hg
  rcases hg with r | r<;>subst r<;>omega)
set_option maxRecDepth 100000 in
theorem ame (ol oc od:Option Addr) (cl cc cd:Nat) (ls us bs:List Int) (x y z dp mo ix:Int) (w:World) (hll:ls.length≤9223372036854775807) (hla:us.length≤9223372036854775807) (hlb:bs.length≤9223372036854775807)
  (hL:Sl w ol 1 (fF ls)) (hA:Sl w oc 1 (fF us)) (hB:Sl w od 1 (fF bs)) :
  Calls aa 4 #[.slice ol ls.length cl,.slice oc us.length cc,.slice od bs.length cd,.int .i64 x,.int .i64 y,.int .i64 z,.int .i64 dp,.int .i64 mo,.int .i64 ix] w (wz w):=by
 go_enter Tryz.func4,Tryz.ntmps4
 go_wp2_with fail
 refine (agP w ol cl ls hL hll).mono ?_
 rintro e W1 ⟨jr,mr,ra,rc,rm,rd,rfl,hR,hb1,hcap⟩
 go_upto_region 2 with fail
 have hbA:Below W1.heap.size W1 (W1.alloc (.cells #[.slice ra jr.length rc,.slice rm mr.length rd] 35)):=(aI _ _).alloc (au _) _
 have r13:=Row.new W1 [.slice ra jr.length rc,.slice rm mr.length rd] 35
 have hBlk:=(MapKept.heap_alloc W1 (.cells #[.slice ra jr.length rc,.slice rm mr.length rd] 35)).1
 have hge:w.heap.size≤W1.heap.size:=hb1.size
 have HV:=aG (jD hb1 hbA)
 have HR:=aG hR
 have HCP:=aG hcap
 have HRJ:=aG (hR.2.2.2.2.1.keep hbA)
 have HRM:=aG (hR.2.2.2.2.2.keep hbA)
 have HBD:=aG (ac0 hR)
 have HL1:=aG hR.1
 have HL2:=aG hR.2.1
 have HA:=aG (hA.keep HV.out)
 have HBB:=aG (hB.keep HV.out)
 clear hbA hR hb1 hL hA hB hcap
 generalize (W1.alloc (.cells #[.slice ra jr.length rc,.slice rm mr.length rd] 35))=V at r13 hBlk HV HRJ HRM HA HBB ⊢
 generalize W1.heap.size=n13 at r13 hBlk hge ⊢
 have s2:V.cell? ⟨n13,0,none⟩=some (.slice ra jr.length rc):=r13.c 0 _ rfl
 have s3:V.cell? ⟨n13,1,none⟩=some (.slice rm mr.length rd):=r13.c 1 _ rfl
 have l13:=r13.lt
 clear r13
 have jl:jr.length≤100:=by have:=HL1.out; omega
 go_cut [20,21,22] (fun s16 s17 s18 W=>∃(n18:Nat) (ok1 ok2:Option Addr) (kc1 kc2:Nat) (ks1 ks2:List Int),s16=.slice ok1 ks1.length kc1∧s17=.slice ok2 ks2.length kc2∧s18=.pointer (some ⟨n18,0,none⟩)∧Mid V W n18 ok1 ok2 ks1 ks2 (.int .i64 (FN 255 [x,y,z])) (.int .i64 (FN 256 [x,y,z])) (.int .i64 (FN 257 [x,y,z]))∧(AQ jr ks1∧ks1.length=jr.length)∧AQ jr ks2∧ks2.length=jr.length)
 case first =>
  go_region_held3 (fun W=>W.cell? ⟨n13,0,none⟩=some (.slice ra jr.length rc)∧W.cell? ⟨n13,1,none⟩=some (.slice rm mr.length rd)∧Below V.heap.size V W)
   (first
    | exact Pv l13 ⟨s2,s3,aI _ _⟩ (aI _ _).drew
    | exact Pv l13 (by assumption) (by assumption)
    | exact Pv l13 (by assumption) ((aI _ _).alloc (au _) _)
    | exact Pv l13 ⟨s2,s3,aI _ _⟩ (Below.alloc (by assumption) (Below.size (by assumption)) _)
    | exact Pv l13 ⟨s2,s3,aI _ _⟩ (ag4 (ag4 (ag4 (by assumption) (by first | exact Below.size (by assumption) | exact au _) _) (by first | exact Below.size (by assumption) | exact au _) _) (by first | exact Below.size (by assumption) | exact au _) _))
   (first
    | (have hxx:=HB4; clear hxx; go_at_call 19; refine (agK x y z _).mono ?_; rintro e X5 ⟨rfl,hb5⟩; have hq5:Below V.heap.size V X5:=jD (by first | exact (by assumption:_∧_∧Below V.heap.size V _).2.2 | exact (aI _ _).drew) hb5; have HB5:=aG hq5; (try (first | (have z5:=afE hb5; have Z5:=aG z5; clear z5) | (have z5:=afB hb5 Z4.out; have Z5:=aG z5; clear z5))); (try (have l18:=Z5.out.2; obtain ⟨e0,e1,e2,f0,f1,f2⟩:=agJ Z5.out.1)))
    | (have hxx:=HB3; clear hxx; go_at_call 18; refine (afU _ _ _ _ _ _ jr mr.length bs _ jl HBD.out (HRJ.out.keep (by first | exact (by assumption:_∧_∧Below V.heap.size V _).2.2 | exact (aI _ _).drew)) (HBB.out.keep (by first | exact (by assumption:_∧_∧Below V.heap.size V _).2.2 | exact (aI _ _).drew)) hlb).mono ?_; rintro e X4 ⟨ks2,ok2,kc2,rfl,kl2,ki2,kS2,hb4,hf2⟩; have hq4:Below V.heap.size V X4:=jD (by first | exact (by assumption:_∧_∧Below V.heap.size V _).2.2 | exact (aI _ _).drew) hb4; have HB4:=aG hq4; have HK2:=aG kS2; have HI2:=aG ki2; have HE2:=aG kl2; have HF2:=aG hf2; (try (first | (have z4:=afE hb4; have Z4:=aG z4; clear z4) | (have z4:=afB hb4 Z3.out; have Z4:=aG z4; clear z4))); clear kl2 kS2 ki2 hf2)
    | (go_at_call 18; refine (afU _ _ _ _ _ _ jr mr.length us _ jl HBD.out (HRJ.out.keep (by first | exact (by assumption:_∧_∧Below V.heap.size V _).2.2 | exact (aI _ _).drew)) (HA.out.keep (by first | exact (by assumption:_∧_∧Below V.heap.size V _).2.2 | exact (aI _ _).drew)) hla).mono ?_; rintro e X3 ⟨ks1,ok1,kc1,rfl,kl1,ki1,kS1,hb3,hf1⟩; have hq3:Below V.heap.size V X3:=jD (by first | exact (by assumption:_∧_∧Below V.heap.size V _).2.2 | exact (aI _ _).drew) hb3; have HB3:=aG hq3; have HK1:=aG kS1; have HI1:=aG ki1; have HE1:=aG kl1; have HF1:=aG hf1; (try (have z3:=afM hb3; have Z3:=aG z3; clear z3)); clear kl1 kS1 ki1 hf1))
  all_goals go_wp2_with fail
  all_goals go_meet
  all_goals first
   | exact ⟨_,ok1,ok2,kc1,kc2,ks1,ks2,rfl,rfl,rfl,midD (g0:=(.int .i64 (FN 255 [x,y,z]))) (g1:=(.int .i64 (FN 256 [x,y,z]))) (g2:=(.int .i64 (FN 257 [x,y,z]))) hq5 hb3 hb4 hb5 HK1.out HK2.out HF1.out HF2.out,⟨HI1.out,HE1.out⟩,HI2.out,HE2.out⟩
   | exact ⟨_,ok1,ok2,kc1,kc2,ks1,ks2,rfl,rfl,rfl,agO (g0:=(.int .i64 (FN 255 [x,y,z]))) (g1:=(.int .i64 (FN 256 [x,y,z]))) (g2:=(.int .i64 (FN 257 [x,y,z]))) hq3 hq5 hb4 hb5 HK1.out HK2.out HF2.out,⟨HI1.out,HE1.out⟩,HI2.out,HE2.out⟩
   | exact ⟨_,ok1,ok2,kc1,kc2,ks1,ks2,rfl,rfl,rfl,agN (g0:=(.int .i64 (FN 255 [x,y,z]))) (g1:=(.int .i64 (FN 256 [x,y,z]))) (g2:=(.int .i64 (FN 257 [x,y,z]))) hq4 hq5 hb4 hb5 HK1.out HK2.out,⟨HI1.out,HE1.out⟩,HI2.out,HE2.out⟩
   | exact ⟨_,ok1,ok2,kc1,kc2,ks1,ks2,rfl,rfl,rfl,agM (g0:=(.int .i64 (FN 255 [x,y,z]))) (g1:=(.int .i64 (FN 256 [x,y,z]))) (g2:=(.int .i64 (FN 257 [x,y,z]))) hq5 hb4 hb5 HK1.out HK2.out,⟨HI1.out,HE1.out⟩,HI2.out,HE2.out⟩
 case rest =>
  obtain ⟨n18,ok1,ok2,kc1,kc2,ks1,ks2,rfl,rfl,rfl,hM,⟨hi1,he1⟩,hi2,he2⟩:=hcut
  rename_i K hK
  refine hK _ _ ?_
  have hg:=JX x y z
  obtain ⟨q0,q1,q2⟩:=JW x y z
  rw [←q0,←q1,←q2] at hg
  refine amd (dp:=dp) (mo:=mo) (ix:=ix) (kc1:=kc1) (kc2:=kc2) (rc:=rc) (rd:=rd) (by kernel_rfl) HR.out HRJ.out HRM.out hi1 he1 hi2 he2 hM hg.1 hg.2.1 hg.2.2 hBlk HV.out hge rfl rfl (fun p hp=>?_)
  simp only [ag,ae,or_false] at hp
  rcases hp with rfl | rfl | rfl | rfl | rfl | rfl | rfl<;>rfl
end Go.Proofs.En
end
section
namespace Go.Proofs.En
open Go.RowKit
theorem Pw {A:Type} (P:Nat→A→Prop):∀n:Nat,(∀i,i<n→∃r,P i r)→∃rs:List A,rs.length=n∧∀(i:Nat) (r:A),rs[i]?=some r→P i r
 | 0,_=>⟨[],rfl,fun i r h=>by simp at h⟩
 | n+1,h=>by
  obtain ⟨rs,hl,hr⟩:=Pw P n fun i hi=>h i (by omega)
  obtain ⟨r,hp⟩:=h n (by omega)
  refine ⟨rs++[r],by simp [hl],fun i r' hi=>?_⟩
  rcases cu i rs.length with hlt | hge
  ·rw [aH hlt] at hi
   exact hr i r' hi
  ·rw [bu hge] at hi
   have:i=n:=by
    rcases Nat.eq_or_lt_of_le hge with h | h
    ·omega
    ·rw [bQ (by simp; omega)] at hi; cases hi
   subst this
   have e:i - rs.length=0:=by omega
   rw [e] at hi
   simp at hi
   subst hi
   exact hp
variable {w:World} {base fuel:Nat} {spare:Nat→Bool} {held:Bool} {t e:TypeId} {v:Value}
theorem aa0 {H:Type} {enc:TypeId×Value→H} {P:Program} {A:Type} (f:A→List Value) {n:Nat} {x:DataW H×List MemPlace} (ht:P.underlying t=some (.slice e)) (hc:P.cellsOf e=n) (hn:0<n)
  (hrow:∀(m:Nat) (cs:List Value) (y:DataW H×List MemPlace),DataW.trod enc P w base spare held m e cs=some y→∃r:A,cs=f r)
  (h:DataW.trod enc P w base spare held fuel t [v]=some x):∃(oa:Option Addr) (cap:Nat) (rs:List A),v=.slice oa rs.length cap∧rs.length≤9223372036854775807∧Sl w oa n (rs.map f):=by
 rcases Go.Deep.open_slice ht h with ⟨h0,_⟩ | ⟨a,len,cap,m,k,D,Pl,h1,hb,hl,hm,hmm,_,hx⟩
 ·injection h0 with h0 _
  subst h0
  exact ⟨none,0,[],rfl,by simp,fun h=>absurd rfl h⟩
 ·injection h1 with h1 _
  subst h1
  have hlm:len≤m:=by rw [hmm]; split<;>omega
  obtain ⟨rs,hrl,hr⟩:=Pw (fun i r=>w.cells? base (a.add (i*n)) n=some (f r)) len (fun i hi=>by
   obtain ⟨cs,c1,c2⟩:=hx i (by omega)
   rw [hc] at c1
   obtain ⟨r,rfl⟩:=hrow _ _ _ c2
   exact ⟨r,c1⟩)
  subst hrl
  refine ⟨some a,cap,rs,rfl,by unfold maxLen at hm; omega,fun hne=>?_⟩
  have hne':rs≠[]:=fun h=>hne (by simp [h])
  have cell:∀(i:Nat) (r:A),rs[i]?=some r→∀q u,(f r)[q]?=some u→w.cell? ((a.add (i*n)).add q)=some u:=by
   intro i r hi q u hq
   obtain ⟨_,c2,c3⟩:=World.cells?_some (hr i r hi)
   have hqn:q<n:=by
    rcases cu q (f r).length with h' | h'
    ·omega
    ·rw [bQ h'] at hq; cases hq
   rw [c3 q hqn,hq]
  have sp:a.spot=none:=by
   cases rs with
   | nil=>exact absurd rfl hne'
   | cons r0 rt =>
    obtain ⟨_,c2,c3⟩:=World.cells?_some (hr 0 r0 rfl)
    have c4:=c3 0 hn
    have:(f r0)[0]?=some ((f r0)[0]'(by omega)):=ah _
    rw [this] at c4
    cases hs:a.spot with
    | none=>rfl
    | some s =>
     exfalso
     have e0:((a.add (0*n)).add 0)=a:=by simp [Addr.add]
     rw [e0] at c4
     unfold bS at c4
     rw [hs] at c4
     revert c4
     cases w.heap[a.block]? with
     | none=>simp
     | some o=>cases o<;>simp
  obtain ⟨b,off,sp'⟩:=a
  simp at sp
  subst sp
  refine ⟨b,off,rfl,?_,fun i r hi q u hq=>?_⟩
  ·cases rs with
   | nil=>exact absurd rfl hne'
   | cons r0 rt =>
    obtain ⟨_,c2,c3⟩:=World.cells?_some (hr 0 r0 rfl)
    have c4:=c3 0 hn
    have:(f r0)[0]?=some ((f r0)[0]'(by omega)):=ah _
    rw [this] at c4
    rcases cu b w.heap.size with h' | h'
    ·exact h'
    ·exfalso
     have e0:(((⟨b,off,none⟩:Addr).add (0*n)).add 0)=⟨b,off,none⟩:=by simp [Addr.add]
     rw [e0] at c4
     simp [bS,afc h'] at c4
  ·rw [bY] at hi
   cases hri:rs[i]? with
   | none=>rw [hri] at hi; cases hi
   | some r' =>
    rw [hri] at hi
    simp at hi
    subst hi
    rw [←cell i r' hri q u hq]
    congr 1
    simp only [Addr.add]
    split<;>split<;>simp_all<;>omega
theorem ac7 {H:Type} {enc:TypeId×Value→H} (e:TypeId) (hu:aa.underlying e=some (.int .i64)) (m:Nat) (cs:List Value) (y:DataW H×List MemPlace) (h:DataW.trod enc aa w base spare held m e cs=some y):∃r:Int,cs=[.int .i64 r]:=by
 obtain ⟨n,rfl,_⟩:=DataW.trod_int hu h
 exact ⟨n,rfl⟩
theorem Io:aa.cellsOf 3=1:=by kernel_rfl
theorem KH {H:Type} {enc:TypeId×Value→H} {x:DataW H×List MemPlace} (ht:aa.underlying t=some (.slice e)) (hu:aa.underlying e=some (.int .i64)) (hc:aa.cellsOf e=1)
  (h:DataW.trod enc aa w base spare held fuel t [v]=some x):∃(oa:Option Addr) (cap:Nat) (rs:List Int),v=.slice oa rs.length cap∧rs.length≤9223372036854775807∧Sl w oa 1 (fF rs) :=
 aa0 (fun p:Int=>[.int .i64 p]) ht hc (by omega) (ac7 e hu) h
theorem laidOut:laidOutB aa=true:=by kernel_rfl
end Go.Proofs.En
end
