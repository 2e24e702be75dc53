/-
  Texts put together: Pi Pj Pk Pl Pm.
-/
import Derived.Test.YthcmkpcefiiiaaaGreatDoorZFormatCanonicalCard5
set_option linter.unusedVariables false
section
/-
  Where a path's reading stops.
-/
namespace Go.Proofs.Fm
open Go.Lib
end Go.Proofs.Fm
end

section
/-
  Where a trajectory's reading stops.
-/
namespace Go.Proofs.Fm
open Go.Lib
theorem rdN_four {kw : List UInt8} {ls r : List (List UInt8)} {ns : List Int} (h : rdN kw 4 ls = some (ns, r)) : ∃ g x y z, ns = [g, x, y, z] := by
 have hl := (rdN_un h).2
 match ns, hl with
 | [g, x, y, z], _ => exact ⟨g, x, y, z, rfl⟩
/-- A trajectory whose path has the right form. -/
def rdTrajR : Rd TrajD := fun ls => match rdTraj ls with
 | some (t, r) => if rightP t.path = true then some (t, r) else none
 | none => none
theorem parseTr_R (s : List UInt8) : parseTr s = match rdTrajR (linesT s).1 with
  | some (p, r) => if rdEnd r (linesT s).2 = true then some p else none
  | none => none := by
 unfold parseTr rdTrajR
 cases rdTraj (linesT s).1 with
 | none => rfl
 | some q =>
  obtain ⟨p, r⟩ := q
  simp only
  by_cases h : rightP p.path = true
  ·rw [if_pos h]
   by_cases h2 : rdEnd r (linesT s).2 = true
   ·rw [if_pos ⟨h, h2⟩]
    simp only
    rw [if_pos h2]
   ·rw [if_neg (fun e => h2 e.2)]
    simp only
    rw [if_neg h2]
  ·rw [if_neg h, if_neg (fun e => h e.1)]
theorem rdTraj_no0 {ls : List (List UInt8)} (h : rdN kwTraj 4 ls = none) : rdTraj ls = none := by
 unfold rdTraj; rw [h]
theorem rdTraj_no1 {ls q : List (List UInt8)} {g x y z : Int} (h : rdN kwTraj 4 ls = some ([g, x, y, z], q)) (h2 : rdPath q = none) : rdTraj ls = none := by
 unfold rdTraj; rw [h]; simp only; rw [h2]
theorem rdTraj_no2 {ls q r : List (List UInt8)} {g x y z : Int} {p : PathD} (h : rdN kwTraj 4 ls = some ([g, x, y, z], q)) (h2 : rdPath q = some (p, r)) (h3 : rep rdProf p.edges.length r = none) : rdTraj ls = none := by
 unfold rdTraj; rw [h]; simp only; rw [h2]; simp only; rw [h3]
theorem rdTraj_yes {ls q r r2 : List (List UInt8)} {g x y z : Int} {p : PathD} {fs : List ProfD} (h : rdN kwTraj 4 ls = some ([g, x, y, z], q)) (h2 : rdPath q = some (p, r)) (h3 : rep rdProf p.edges.length r = some (fs, r2)) : rdTraj ls = some (⟨g, (x, y, z), p, fs⟩, r2) := by
 unfold rdTraj; rw [h]; simp only; rw [h2]; simp only; rw [h3]
theorem rdPathR_some {ls r : List (List UInt8)} {p : PathD} (h : rdPathR ls = some (p, r)) : rdPath ls = some (p, r) ∧ rightP p = true := by
 unfold rdPathR at h
 split at h
 ·rename_i e
  split at h
  ·rename_i hr
   injection h with h
   injection h with h1 h2
   subst h1 h2
   exact ⟨e, hr⟩
  ·cases h
 ·cases h
theorem rdTrajR_no0 {ls : List (List UInt8)} (h : rdN kwTraj 4 ls = none) : rdTrajR ls = none := by
 unfold rdTrajR; rw [rdTraj_no0 h]
theorem rdTrajR_no1 {ls q : List (List UInt8)} {g x y z : Int} (h : rdN kwTraj 4 ls = some ([g, x, y, z], q)) (h2 : rdPathR q = none) : rdTrajR ls = none := by
 unfold rdPathR at h2
 unfold rdTrajR
 cases hp : rdPath q with
 | none => rw [rdTraj_no1 h hp]
 | some pr =>
  obtain ⟨p, r⟩ := pr
  rw [hp] at h2
  simp only at h2
  have hr : ¬ rightP p = true := fun e => by rw [if_pos e] at h2; cases h2
  cases h3 : rep rdProf p.edges.length r with
  | none => rw [rdTraj_no2 h hp h3]
  | some fr =>
   obtain ⟨fs, r2⟩ := fr
   rw [rdTraj_yes h hp h3]
   simp only
   rw [if_neg hr]
theorem rdTrajR_no2 {ls q r : List (List UInt8)} {g x y z : Int} {p : PathD} (h : rdN kwTraj 4 ls = some ([g, x, y, z], q)) (h2 : rdPathR q = some (p, r)) (h3 : rep rdProf p.edges.length r = none) : rdTrajR ls = none := by
 unfold rdTrajR; rw [rdTraj_no2 h (rdPathR_some h2).1 h3]
theorem rdTrajR_yes {ls q r r2 : List (List UInt8)} {g x y z : Int} {p : PathD} {fs : List ProfD} (h : rdN kwTraj 4 ls = some ([g, x, y, z], q)) (h2 : rdPathR q = some (p, r)) (h3 : rep rdProf p.edges.length r = some (fs, r2)) : rdTrajR ls = some (⟨g, (x, y, z), p, fs⟩, r2) := by
 unfold rdTrajR
 rw [rdTraj_yes h (rdPathR_some h2).1 h3]
 simp only
 rw [if_pos (rdPathR_some h2).2]
theorem rdProf_no1 {q : List (List UInt8)} (h : rdN kwProfile 2 q = none) : rdProf q = none := by
 unfold rdProf; rw [h]
theorem rdProf_no2 {q r : List (List UInt8)} {a b : Int} (h : rdN kwProfile 2 q = some ([a, b], r)) (hc : ¬ cntOk a = true ∨ ¬ cntOk b = true) : rdProf q = none := by
 unfold rdProf; rw [h]; simp only
 rw [if_neg]
 rw [Bool.and_eq_true]
 exact fun h => hc.elim (fun h1 => h1 h.1) (fun h1 => h1 h.2)
theorem rdProf_no3 {q r : List (List UInt8)} {a b : Int} (h : rdN kwProfile 2 q = some ([a, b], r)) (h3 : rdN kwLevels a.toNat r = none) : rdProf q = none := by
 unfold rdProf; rw [h]; simp only; rw [h3]
 by_cases e : (cntOk a && cntOk b) = true
 ·rw [if_pos e]
 ·rw [if_neg e]
theorem rdProf_no4 {q r r2 : List (List UInt8)} {a b : Int} {lv : List Int} (h : rdN kwProfile 2 q = some ([a, b], r)) (h3 : rdN kwLevels a.toNat r = some (lv, r2)) (h4 : rdN kwSteps b.toNat r2 = none) : rdProf q = none := by
 unfold rdProf; rw [h]; simp only; rw [h3]; simp only; rw [h4]
 by_cases e : (cntOk a && cntOk b) = true
 ·rw [if_pos e]
 ·rw [if_neg e]
theorem rdProf_yes {q r r2 r3 : List (List UInt8)} {a b : Int} {lv st : List Int} (h : rdN kwProfile 2 q = some ([a, b], r)) (ha : cntOk a = true) (hb : cntOk b = true) (h3 : rdN kwLevels a.toNat r = some (lv, r2)) (h4 : rdN kwSteps b.toNat r2 = some (st, r3)) : rdProf q = some (⟨lv, st⟩, r3) := by
 unfold rdProf; rw [h]; simp only; rw [ha, hb, h3]; simp only; rw [h4]; rfl
end Go.Proofs.Fm
end

section
/-
  Trees as data: their text, its reading, and which trees are valid.
-/
namespace Go.Proofs.Fm
open Go.Lib
structure VerdD where
 kind : Int
 normals : List (Int × Int × Int)
 pair : Int
 left : List Int
 right : List Int
structure CellD where
 joint : Int
 low : Int
 high : Int
 verd : VerdD
structure TreeD where
 root : List (Int × Int)
 cells : List CellD
def kwCut : List UInt8 := [99, 117, 116]
def kwRoot : List UInt8 := [114, 111, 111, 116]
def kwSplit : List UInt8 := [115, 112, 108, 105, 116]
def kwLeaf : List UInt8 := [108, 101, 97, 102]
def kwWitness : List UInt8 := [119, 105, 116, 110, 101, 115, 115]
def zeroV : VerdD := ⟨0, [], 0, [], []⟩
def leafB (c : CellD) : Bool := decide (c.joint = -1 ∧ c.low = -1 ∧ c.high = -1)
def emptyB (v : VerdD) : Bool := decide (v.pair = 0 ∧ v.left.length = 0 ∧ v.right.length = 0)
/-- A verdict in form. -/
def formB (v : VerdD) : Bool := if v.kind = 0 ∨ v.kind = 1 then emptyB v else if v.kind = 2 then decide (v.normals.length = 0) else false
def zeroB (v : VerdD) : Bool := decide (v.kind = 0 ∧ v.normals.length = 0) && emptyB v
abbrev BoxD := List (Int × Int)
def validI (a : Int × Int) : Bool := decide (-2147483648 ≤ a.1 ∧ a.1 ≤ a.2 ∧ a.2 ≤ 2147483648)
/-! Writing. -/
def pairL (a : Int × Int) : List Int := [a.1, a.2]
def witL (v : VerdD) : List Int := v.pair :: (v.left.length : Nat) :: (v.left ++ ((v.right.length : Nat) : Int) :: v.right)
def cellT (c : CellD) : List UInt8 := if leafB c = true then
  lineT kwLeaf [c.verd.kind, (c.verd.normals.length : Nat)] ++ (c.verd.normals.map fun v => lineT kwNormal (vecL v)).flatten ++ (if c.verd.kind = 2 then lineT kwWitness (witL c.verd) else [])
 else lineT kwSplit [c.joint, c.low, c.high]
def treeT (t : TreeD) : List UInt8 := lineT kwCut [(t.root.length : Nat), (t.cells.length : Nat)] ++ lineT kwRoot (t.root.map pairL).flatten ++ (t.cells.map cellT).flatten
def docC (t : TreeD) : List UInt8 := treeT t ++ lineT kwEnd []
/-! Reading. -/
def pairs : List Int → List (Int × Int)
 | a :: b :: r => (a, b) :: pairs r
 | _ => []
def rdWit : Rd (Int × List Int × List Int) := fun ls => match rdLine kwWitness ls with
 | some (p :: l :: rest, r) => if cntOk l = true ∧ l.toNat < rest.length then
   (match rest[l.toNat]? with
   | some m => if cntOk m = true ∧ m.toNat = rest.length - (l.toNat + 1) then some ((p, rest.take l.toNat, rest.drop (l.toNat + 1)), r) else none
   | none => none)
  else none
 | _ => none
def rdLeaf : Rd CellD := fun ls => match rdN kwLeaf 2 ls with
 | some ([k, n], r) => if cntOk n = true then
   (match rep rdNormal n.toNat r with
   | some (ns, r2) => if k = 2 then
     (match rdWit r2 with
     | some ((p, l, m), r3) => some (⟨-1, -1, -1, ⟨k, ns, p, l, m⟩⟩, r3)
     | none => none)
    else some (⟨-1, -1, -1, ⟨k, ns, 0, [], []⟩⟩, r2)
   | none => none)
  else none
 | _ => none
def rdSplit : Rd CellD := fun ls => match rdN kwSplit 3 ls with
 | some ([j, l, h], r) => if j = -1 ∧ l = -1 ∧ h = -1 then none else some (⟨j, l, h, zeroV⟩, r)
 | _ => none
def rdCell : Rd CellD := fun ls => match ls with
 | [] => none
 | l :: _ => if hasPrefix l kwSplit = true then rdSplit ls else rdLeaf ls
def rdTree : Rd TreeD := fun ls => match rdN kwCut 2 ls with
 | some ([a, b], r) => if cntOk a && cntOk b then
   (match rdN kwRoot (2 * a.toNat) r with
   | some (ns, r2) => match rep rdCell b.toNat r2 with
    | some (cs, r3) => some (⟨pairs ns, cs⟩, r3)
    | none => none
   | none => none)
  else none
 | _ => none
/-! Valid trees. -/
def setI (b : BoxD) (j : Nat) (f : Int × Int → Int × Int) : BoxD := match b[j]? with
 | some a => b.set j (f a)
 | none => b
def halve (b : BoxD) (j : Int) : Option (BoxD × BoxD) := if 0 ≤ j ∧ j.toNat < b.length ∧ b.all validI = true then
  (match b[j.toNat]? with
  | some a => if 2 ≤ a.2 - a.1 then some (setI b j.toNat (fun a => (a.1, (a.1 + a.2) / 2)), setI b j.toNat (fun a => ((a.1 + a.2) / 2, a.2))) else none
  | none => none)
 else none
/-- One cell: the boxes known so far. -/
def stepB (t : TreeD) (i : Nat) (out : List (Option BoxD)) : Option (List (Option BoxD)) := match out[i]?, t.cells[i]? with
 | some (some b), some c => if leafB c = true then (if formB c.verd = true then some out else none)
  else if zeroB c.verd = true ∧ (i : Int) < c.low ∧ c.low < (t.cells.length : Nat) ∧ (i : Int) < c.high ∧ c.high < (t.cells.length : Nat) ∧ c.low ≠ c.high then
   (match out[c.low.toNat]?, out[c.high.toNat]?, halve b c.joint with
   | some none, some none, some (x, y) => some ((out.set c.low.toNat (some x)).set c.high.toNat (some y))
   | _, _, _ => none)
  else none
 | _, _ => none
/-- The boxes behind the first k cells. -/
def boxK (t : TreeD) : Nat → Option (List (Option BoxD))
 | 0 => some (some t.root :: List.replicate (t.cells.length - 1) none)
 | k + 1 => match boxK t k with
  | some out => stepB t k out
  | none => none
def sizeB (t : TreeD) : Bool := decide (1 ≤ t.root.length ∧ t.root.length ≤ 10 ∧ 1 ≤ t.cells.length ∧ t.cells.length ≤ 2048) && t.root.all validI
def boxesT (t : TreeD) : Option (List (Option BoxD)) := if sizeB t = true then boxK t t.cells.length else none
def validT (t : TreeD) : Bool := (boxesT t).isSome
/-- What ParseCut answers where the text's kind is right. -/
def parseC (s : List UInt8) : Option TreeD := match rdTree (linesT s).1 with
 | some (t, r) => if rdEnd r (linesT s).2 = true ∧ validT t = true then some t else none
 | none => none
end Go.Proofs.Fm
end

section
/-
  The plain law of trees: writing what was read returns the text; reading a valid tree's own text returns it.
-/
namespace Go.Proofs.Fm
open Go.Lib
theorem pairs_flat : ∀ {n : Nat} {ns : List Int}, ns.length = 2 * n → ((pairs ns).map pairL).flatten = ns ∧ (pairs ns).length = n
 | 0, ns, h => by
  obtain rfl := List.length_eq_zero_iff.1 (show ns.length = 0 by omega)
  exact ⟨rfl, rfl⟩
 | n + 1, [], h => by simp at h
 | n + 1, [a], h => by simp at h; omega
 | n + 1, a :: b :: r, h => by
  simp only [List.length_cons] at h
  obtain ⟨h1, h2⟩ := pairs_flat (n := n) (ns := r) (by omega)
  exact ⟨by simp only [pairs, List.map_cons, List.flatten_cons, h1, pairL]; rfl, by simp only [pairs, List.length_cons, h2]⟩
theorem flat_len (l : List (Int × Int)) : (l.map pairL).flatten.length = 2 * l.length := by
 induction l with
 | nil => rfl
 | cons a l ih => simp only [List.map_cons, List.flatten_cons, List.length_append, ih, pairL, List.length_cons, List.length_nil]; omega
theorem rdWit_un {ls r : List (List UInt8)} {p : Int} {l m : List Int} (h : rdWit ls = some ((p, l, m), r)) : ∀ (k : Int) (ns : List (Int × Int × Int)), nlF ls = lineT kwWitness (witL ⟨k, ns, p, l, m⟩) ++ nlF r := by
 intro k ns
 unfold rdWit at h
 split at h
 ·rename_i p' l' rest r' e
  split at h
  ·rename_i hc
   split at h
   ·rename_i m' em
    split at h
    ·rename_i hm
     injection h with h
     injection h with h1 h2
     injection h1 with h3 h4
     injection h4 with h5 h6
     subst h3 h2
     have hl := cnt_nat hc.1
     have hm1 := cnt_nat hm.1
     have e1 : rest = l ++ m' :: m := by
      rw [← h5, ← h6]
      have := List.getElem?_eq_some_iff.1 em
      obtain ⟨hlt, hget⟩ := this
      rw [← hget, ← List.drop_eq_getElem_cons hlt, List.take_append_drop]
     have e2 : l.length = l'.toNat := by rw [← h5, List.length_take]; omega
     have e3 : m.length = m'.toNat := by rw [← h6, List.length_drop]; omega
     have hw : witL ⟨k, ns, p', l, m⟩ = p' :: l' :: rest := by
      unfold witL
      simp only
      rw [e2, e3, hl, hm1, e1]
     rw [rdLine_un e, hw]
    ·cases h
   ·cases h
  ·cases h
 ·cases h
theorem rdCell_un (ls r : List (List UInt8)) (c : CellD) (h : rdCell ls = some (c, r)) : nlF ls = cellT c ++ nlF r := by
 unfold rdCell at h
 split at h
 ·cases h
 ·split at h
  ·unfold rdSplit at h
   split at h
   ·rename_i j l' h' r' e
    split at h
    ·cases h
    ·rename_i hn
     injection h with h
     injection h with h1 h2
     subst h1 h2
     have hb : leafB ⟨j, l', h', zeroV⟩ = false := decide_eq_false hn
     rw [(rdN_un e).1]
     unfold cellT
     rw [hb]
     rfl
   ·cases h
  ·unfold rdLeaf at h
   split at h
   ·rename_i k n r' e
    split at h
    ·rename_i hc
     split at h
     ·rename_i ns r2 e2
      have hnl := rep_len e2
      have hn := cnt_nat hc
      split at h
      ·rename_i hk
       split at h
       ·rename_i p l' m r3 e3
        injection h with h
        injection h with h1 h2
        subst h1 h2
        rw [(rdN_un e).1, rep_un rdNormal_un e2, rdWit_un e3 k ns]
        unfold cellT
        rw [if_pos (show leafB ⟨-1, -1, -1, ⟨k, ns, p, l', m⟩⟩ = true from rfl)]
        simp only
        rw [if_pos hk, hnl, hn]
        simp only [List.append_assoc]
       ·cases h
      ·rename_i hk
       injection h with h
       injection h with h1 h2
       subst h1 h2
       rw [(rdN_un e).1, rep_un rdNormal_un e2]
       unfold cellT
       rw [if_pos (show leafB ⟨-1, -1, -1, ⟨k, ns, 0, [], []⟩⟩ = true from rfl)]
       simp only
       rw [if_neg hk, hnl, hn]
       simp only [List.append_assoc, List.append_nil]
     ·cases h
    ·cases h
   ·cases h
theorem rdTree_un {ls r : List (List UInt8)} {t : TreeD} (h : rdTree ls = some (t, r)) : nlF ls = treeT t ++ nlF r := by
 unfold rdTree at h
 split at h
 ·rename_i a b r1 e
  split at h
  ·rename_i hc
   rw [Bool.and_eq_true] at hc
   split at h
   ·rename_i ns r2 e2
    split at h
    ·rename_i cs r3 e3
     injection h with h
     injection h with h1 h2
     subst h1 h2
     have hp := pairs_flat (rdN_un e2).2
     rw [(rdN_un e).1, (rdN_un e2).1, rep_un rdCell_un e3]
     unfold treeT
     simp only
     rw [hp.1, hp.2, rep_len e3, cnt_nat hc.1, cnt_nat hc.2]
     simp only [List.append_assoc]
    ·cases h
   ·cases h
  ·cases h
 ·cases h
/-- Writing what was read returns the text. -/
theorem parse_docC {s : List UInt8} {t : TreeD} (h : parseC s = some t) : docC t = s ∧ validT t = true := by
 unfold parseC at h
 split at h
 ·rename_i t' r e
  split at h
  ·rename_i hc
   injection h with h
   subst h
   have h1 := rdTree_un e
   have h2 := lines_un s
   have h3 := end_un hc.1
   rw [h3.2, h1, h3.1] at h2
   refine ⟨?_, hc.2⟩
   rw [h2]
   unfold docC
   simp
  ·cases h
 ·cases h
/-- What each cell of a valid tree is like. -/
theorem valid_cell {t : TreeD} : ∀ {k : Nat} {out : List (Option BoxD)}, boxK t k = some out → ∀ (i : Nat) (c : CellD), i < k → t.cells[i]? = some c → if leafB c = true then formB c.verd = true else zeroB c.verd = true
 | 0, out, h, i, c, hi, hc => by omega
 | k + 1, out, h, i, c, hi, hc => by
  rw [boxK] at h
  split at h
  ·rename_i o e
   rcases Nat.lt_or_ge i k with hl | hl
   ·exact valid_cell e i c hl hc
   ·have : i = k := by omega
    subst this
    unfold stepB at h
    rw [hc] at h
    split at h
    ·rename_i b c' h1 h2
     injection h2 with h2
     subst h2
     by_cases hb : leafB c = true
     ·rw [if_pos hb] at h ⊢
      by_cases hf : formB c.verd = true
      ·exact hf
      ·rw [if_neg hf] at h; cases h
     ·rw [if_neg hb] at h ⊢
      split at h
      ·rename_i hz
       exact hz.1
      ·cases h
    ·cases h
  ·cases h
/-- The numbers of a tree are int64, its lists not too long. -/
structure TreeOk (t : TreeD) : Prop where
 nr : t.root.length ≤ 1048576
 nc : t.cells.length ≤ 1048576
 rt : ∀ a ∈ t.root, inR64 a.1 ∧ inR64 a.2
 cl : ∀ c ∈ t.cells, inR64 c.joint ∧ inR64 c.low ∧ inR64 c.high ∧ inR64 c.verd.kind ∧ inR64 c.verd.pair ∧ c.verd.normals.length ≤ 1048576 ∧ c.verd.left.length ≤ 1048576 ∧ c.verd.right.length ≤ 1048576 ∧ (∀ v ∈ c.verd.normals, ∀ n ∈ vecL v, inR64 n) ∧ (∀ n ∈ c.verd.left, inR64 n) ∧ ∀ n ∈ c.verd.right, inR64 n
end Go.Proofs.Fm
end

section
/-
  The plain law of trees: the whole box, splitting a leaf and settling a leaf keep a tree valid; the last cell is a leaf.
-/
namespace Go.Proofs.Fm
open Go.Lib
theorem stepB_len {t : TreeD} {i : Nat} {out out2 : List (Option BoxD)} (h : stepB t i out = some out2) : out2.length = out.length := by
 unfold stepB at h
 split at h
 ·split at h
  ·split at h
   ·injection h with h; rw [h]
   ·cases h
  ·split at h
   ·split at h
    ·injection h with h; rw [← h]; simp
    ·cases h
   ·cases h
 ·cases h
theorem boxK_len {t : TreeD} (hn : 1 ≤ t.cells.length) : ∀ {k : Nat} {out : List (Option BoxD)}, boxK t k = some out → out.length = t.cells.length
 | 0, out, h => by
  rw [boxK] at h
  injection h with h
  rw [← h, List.length_cons, List.length_replicate]; omega
 | k + 1, out, h => by
  rw [boxK] at h
  split at h
  ·rename_i o e
   rw [stepB_len h]
   exact boxK_len hn e
  ·cases h
/-- What a step says, in one piece. -/
theorem stepB_un {t : TreeD} {i : Nat} {out out2 : List (Option BoxD)} (h : stepB t i out = some out2) : ∃ b c, out[i]? = some (some b) ∧ t.cells[i]? = some c ∧
  ((leafB c = true ∧ formB c.verd = true ∧ out2 = out) ∨ (leafB c = false ∧ zeroB c.verd = true ∧ (i : Int) < c.low ∧ c.low < (t.cells.length : Nat) ∧ (i : Int) < c.high ∧ c.high < (t.cells.length : Nat) ∧ c.low ≠ c.high ∧ ∃ x y, out[c.low.toNat]? = some none ∧ out[c.high.toNat]? = some none ∧ halve b c.joint = some (x, y) ∧ out2 = (out.set c.low.toNat (some x)).set c.high.toNat (some y))) := by
 unfold stepB at h
 split at h
 ·rename_i b c e1 e2
  refine ⟨b, c, e1, e2, ?_⟩
  by_cases hb : leafB c = true
  ·rw [if_pos hb] at h
   by_cases hf : formB c.verd = true
   ·rw [if_pos hf] at h
    injection h with h
    exact .inl ⟨hb, hf, h.symm⟩
   ·rw [if_neg hf] at h; cases h
  ·rw [if_neg hb] at h
   split at h
   ·rename_i hz
    split at h
    ·rename_i x y h1 h2 h3
     injection h with h
     exact .inr ⟨by simpa using hb, hz.1, hz.2.1, hz.2.2.1, hz.2.2.2.1, hz.2.2.2.2.1, hz.2.2.2.2.2, x, y, h1, h2, h3, h.symm⟩
    ·cases h
   ·cases h
 ·cases h
theorem stepB_leaf {t : TreeD} {i : Nat} {out : List (Option BoxD)} {b : BoxD} {c : CellD} (h1 : out[i]? = some (some b)) (h2 : t.cells[i]? = some c) (hb : leafB c = true) (hf : formB c.verd = true) : stepB t i out = some out := by
 unfold stepB
 rw [h1, h2]
 simp only
 rw [if_pos hb, if_pos hf]
theorem stepB_node {t : TreeD} {i : Nat} {out : List (Option BoxD)} {b x y : BoxD} {c : CellD} (h1 : out[i]? = some (some b)) (h2 : t.cells[i]? = some c) (hb : leafB c = false) (hz : zeroB c.verd = true) (g1 : (i : Int) < c.low) (g2 : c.low < (t.cells.length : Nat)) (g3 : (i : Int) < c.high) (g4 : c.high < (t.cells.length : Nat)) (g5 : c.low ≠ c.high) (l1 : out[c.low.toNat]? = some none) (l2 : out[c.high.toNat]? = some none) (hh : halve b c.joint = some (x, y)) :
  stepB t i out = some ((out.set c.low.toNat (some x)).set c.high.toNat (some y)) := by
 unfold stepB
 rw [h1, h2]
 simp only
 rw [if_neg (by rw [hb]; decide), if_pos ⟨hz, g1, g2, g3, g4, g5⟩, l1, l2, hh]
/-- A step of a tree is a step of a tree with more cells. -/
theorem stepB_more {t t' : TreeD} {i : Nat} {out out2 e : List (Option BoxD)} (h : stepB t i out = some out2) (hc : t'.cells[i]? = t.cells[i]?) (hn : t.cells.length ≤ t'.cells.length) (hl : out.length = t.cells.length) : stepB t' i (out ++ e) = some (out2 ++ e) := by
 obtain ⟨b, c, e1, e2, h3⟩ := stepB_un h
 have hi : i < out.length := (List.getElem?_eq_some_iff.1 e1).1
 have e1' : (out ++ e)[i]? = some (some b) := by rw [List.getElem?_append_left hi]; exact e1
 rcases h3 with ⟨a1, a2, rfl⟩ | ⟨a1, a2, a3, a4, a5, a6, a7, x, y, a8, a9, a10, rfl⟩
 ·exact stepB_leaf e1' (hc.trans e2) a1 a2
 ·have l1 : c.low.toNat < out.length := by omega
  have l2 : c.high.toNat < out.length := by omega
  rw [stepB_node e1' (hc.trans e2) a1 a2 a3 (by omega) a5 (by omega) a7 (by rw [List.getElem?_append_left l1]; exact a8) (by rw [List.getElem?_append_left l2]; exact a9) a10]
  rw [List.set_append_left _ _ l1, List.set_append_left _ _ (by rw [List.length_set]; exact l2)]
theorem formB_zero : formB zeroV = true := by decide
/-- Splitting a leaf. -/
def splitT (t : TreeD) (i : Nat) (j : Int) : TreeD := match t.cells[i]? with
 | some c => ⟨t.root, t.cells.set i ⟨j, (t.cells.length : Nat), (t.cells.length : Nat) + 1, zeroV⟩ ++ [c, c]⟩
 | none => t
/-- Settling a leaf. -/
def settleT (t : TreeD) (i : Nat) (v : VerdD) : TreeD := match t.cells[i]? with
 | some c => ⟨t.root, t.cells.set i { c with verd := v }⟩
 | none => t
theorem valid_un {t : TreeD} (h : validT t = true) : sizeB t = true ∧ ∃ out, boxesT t = some out ∧ boxK t t.cells.length = some out := by
 unfold validT at h
 obtain ⟨out, ho⟩ := Option.isSome_iff_exists.1 h
 have ho' := ho
 unfold boxesT at ho'
 split at ho'
 ·rename_i hs
  exact ⟨hs, out, ho, ho'⟩
 ·cases ho'
theorem valid_mk {t : TreeD} {out : List (Option BoxD)} (h1 : sizeB t = true) (h2 : boxK t t.cells.length = some out) : boxesT t = some out ∧ validT t = true := by
 have : boxesT t = some out := by unfold boxesT; rw [if_pos h1]; exact h2
 exact ⟨this, by unfold validT; rw [this]; rfl⟩
theorem size_un {t : TreeD} (h : sizeB t = true) : 1 ≤ t.root.length ∧ t.root.length ≤ 10 ∧ 1 ≤ t.cells.length ∧ t.cells.length ≤ 2048 ∧ t.root.all validI = true := by
 unfold sizeB at h
 rw [Bool.and_eq_true, decide_eq_true_eq] at h
 exact ⟨h.1.1, h.1.2.1, h.1.2.2.1, h.1.2.2.2, h.2⟩
theorem size_mk {t : TreeD} (h : 1 ≤ t.root.length ∧ t.root.length ≤ 10 ∧ 1 ≤ t.cells.length ∧ t.cells.length ≤ 2048 ∧ t.root.all validI = true) : sizeB t = true := by
 unfold sizeB
 rw [Bool.and_eq_true, decide_eq_true_eq]
 exact ⟨⟨h.1, h.2.1, h.2.2.1, h.2.2.2.1⟩, h.2.2.2.2⟩
/-- Once known, a box stays. -/
theorem boxK_mono {t : TreeD} (hn : 1 ≤ t.cells.length) : ∀ {m k : Nat} {o1 o2 : List (Option BoxD)}, boxK t k = some o1 → boxK t (k + m) = some o2 → ∀ (i : Nat) (b : BoxD), o1[i]? = some (some b) → o2[i]? = some (some b)
 | 0, k, o1, o2, h1, h2, i, b, hb => by
  rw [Nat.add_zero, h1] at h2
  injection h2 with h2
  rw [← h2]; exact hb
 | m + 1, k, o1, o2, h1, h2, i, b, hb => by
  rw [show k + (m + 1) = (k + m) + 1 by omega, boxK] at h2
  split at h2
  ·rename_i o e
   have hi := boxK_mono hn h1 e i b hb
   obtain ⟨b', c, e1, e2, h3⟩ := stepB_un h2
   rcases h3 with ⟨-, -, rfl⟩ | ⟨-, -, a3, a4, a5, a6, a7, x, y, a8, a9, a10, rfl⟩
   ·exact hi
   ·have d1 : c.low.toNat ≠ i := fun e => by rw [e, hi] at a8; injection a8 with a8; cases a8
    have d2 : c.high.toNat ≠ i := fun e => by rw [e, hi] at a9; injection a9 with a9; cases a9
    rw [List.getElem?_set_ne d2, List.getElem?_set_ne d1]
    exact hi
  ·cases h2
/-- The boxes of the tree with a leaf split, cell by cell. -/
theorem split_boxes {t : TreeD} {i : Nat} {j : Int} {c : CellD} {b x y : BoxD} (hn : 1 ≤ t.cells.length) (hi : t.cells[i]? = some c) (hl : leafB c = true) (hj : 0 ≤ j) (hh : halve b j = some (x, y)) : ∀ {k : Nat} {out : List (Option BoxD)}, k ≤ t.cells.length → boxK t k = some out →
  (∀ o, boxK t i = some o → o[i]? = some (some b)) → boxK (splitT t i j) k = some (out ++ (if k ≤ i then [none, none] else [some x, some y]))
 | 0, out, hk, h, hb => by
  rw [boxK] at h ⊢
  injection h with h
  rw [if_pos (Nat.zero_le _), ← h]
  unfold splitT
  rw [hi]
  simp only [List.length_append, List.length_set, List.length_cons, List.length_nil]
  rw [show t.cells.length + (0 + 1 + 1) - 1 = (t.cells.length - 1) + 2 by omega, List.cons_append, ← List.replicate_append_replicate]
  rfl
 | k + 1, out, hk, h, hb => by
  rw [boxK] at h ⊢
  split at h
  ·rename_i o e
   have ih := split_boxes hn hi hl hj hh (by omega) e hb
   rw [ih]
   simp only
   have hol := boxK_len hn e
   have hlen : (splitT t i j).cells.length = t.cells.length + 2 := by unfold splitT; rw [hi]; simp
   have hroot : (splitT t i j).root = t.root := by unfold splitT; rw [hi]
   have hin : i < t.cells.length := (List.getElem?_eq_some_iff.1 hi).1
   by_cases hki : k = i
   ·subst hki
    rw [if_pos (Nat.le_refl _), if_neg (by omega)]
    have hbb := hb o e
    obtain ⟨b', c', e1, e2, h3⟩ := stepB_un h
    rw [hi] at e2
    injection e2 with e2
    subst e2
    have ho : out = o := by
     rcases h3 with ⟨-, -, rfl⟩ | ⟨a1, -⟩
     ·rfl
     ·rw [hl] at a1; cases a1
    subst ho
    have hcell : (splitT t k j).cells[k]? = some ⟨j, (t.cells.length : Nat), (t.cells.length : Nat) + 1, zeroV⟩ := by
     unfold splitT
     rw [hi]
     simp only
     rw [List.getElem?_append_left (by simpa using hin), List.getElem?_set_self hin]
    rw [stepB_node (b := b) (x := x) (y := y) (c := ⟨j, (t.cells.length : Nat), (t.cells.length : Nat) + 1, zeroV⟩) (by rw [List.getElem?_append_left (by omega)]; exact hbb) hcell (decide_eq_false (by simp only; omega)) (show zeroB zeroV = true by decide) (by simp only; omega) (by simp only; omega) (by simp only; omega) (by simp only; omega) (by simp only; omega)
     (by simp only [Int.toNat_natCast]; rw [List.getElem?_append_right (by omega), hol, Nat.sub_self]; rfl)
     (by simp only; rw [show ((t.cells.length : Nat) + 1 : Int).toNat = t.cells.length + 1 by omega, List.getElem?_append_right (by omega), hol, show t.cells.length + 1 - t.cells.length = 1 by omega]; rfl) hh]
    simp only [Int.toNat_natCast]
    rw [show ((t.cells.length : Nat) + 1 : Int).toNat = t.cells.length + 1 by omega]
    rw [List.set_append_right _ _ (by omega), List.set_append_right _ _ (by omega), hol, Nat.sub_self, show t.cells.length + 1 - t.cells.length = 1 by omega]
    rfl
   ·have hcell : (splitT t i j).cells[k]? = t.cells[k]? := by
     unfold splitT
     rw [hi]
     simp only
     rw [List.getElem?_append_left (by simp; omega), List.getElem?_set_ne (by omega)]
    have e9 : (if k + 1 ≤ i then [none, none] else [some x, some y] : List (Option BoxD)) = if k ≤ i then [none, none] else [some x, some y] := by
     by_cases hkl : k ≤ i
     ·rw [if_pos hkl, if_pos (by omega)]
     ·rw [if_neg hkl, if_neg (by omega)]
    rw [e9]
    exact stepB_more h hcell (by omega) hol
  ·cases h
/-- Splitting keeps a tree valid. -/
theorem split_valid {t : TreeD} {i : Nat} {j : Int} {c : CellD} {out : List (Option BoxD)} {b x y : BoxD} (hv : boxesT t = some out) (hm : t.cells.length + 2 ≤ 2048) (hi : t.cells[i]? = some c) (hl : leafB c = true) (hb : out[i]? = some (some b)) (hh : halve b j = some (x, y)) : validT (splitT t i j) = true := by
 have hval : validT t = true := by unfold validT; rw [hv]; rfl
 obtain ⟨hs, out', h1, h2⟩ := valid_un hval
 rw [hv] at h1
 injection h1 with h1
 subst h1
 obtain ⟨s1, s2, s3, s4, s5⟩ := size_un hs
 have hin : i < t.cells.length := (List.getElem?_eq_some_iff.1 hi).1
 have hj : 0 ≤ j := by
  unfold halve at hh
  split at hh
  ·rename_i h; exact h.1
  ·cases hh
 have hbi : ∀ o, boxK t i = some o → o[i]? = some (some b) := by
  intro o ho
  -- the step at i reads the box that stays
  have hsz := h2
  rw [show t.cells.length = (i + 1) + (t.cells.length - (i + 1)) by omega] at hsz
  have hk1 : ∃ o1, boxK t (i + 1) = some o1 ∧ stepB t i o = some o1 := by
   cases hq : boxK t (i + 1) with
   | none =>
    exfalso
    have hno : ∀ m, boxK t (i + 1 + m) = none := by
     intro m
     induction m with
     | zero => exact hq
     | succ m ih => rw [show i + 1 + (m + 1) = (i + 1 + m) + 1 by omega, boxK, ih]
    rw [hno] at hsz
    cases hsz
   | some o1 =>
    have := hq
    rw [boxK, ho] at this
    exact ⟨o1, rfl, this⟩
  obtain ⟨o1, hk1, hst⟩ := hk1
  obtain ⟨b', c', e1, -, -⟩ := stepB_un hst
  have := boxK_mono s3 ho (show boxK t (i + (t.cells.length - i)) = some out by rw [show i + (t.cells.length - i) = t.cells.length by omega]; exact h2) i b' e1
  rw [hb] at this
  injection this with this
  injection this with this
  rw [this]; exact e1
 have hsp := split_boxes s3 hi hl hj hh (Nat.le_refl _) h2 hbi
 rw [if_neg (by omega)] at hsp
 have hlen : (splitT t i j).cells.length = t.cells.length + 2 := by unfold splitT; rw [hi]; simp
 have hroot : (splitT t i j).root = t.root := by unfold splitT; rw [hi]
 have hol := boxK_len s3 h2
 have hf : formB c.verd = true := by
  have := valid_cell h2 i c hin hi
  rw [if_pos hl] at this
  exact this
 have hc1 : (splitT t i j).cells[t.cells.length]? = some c := by
  unfold splitT
  rw [hi]
  simp only
  rw [List.getElem?_append_right (by simp), List.length_set, Nat.sub_self]
  rfl
 have hc2 : (splitT t i j).cells[t.cells.length + 1]? = some c := by
  unfold splitT
  rw [hi]
  simp only
  rw [List.getElem?_append_right (by simp), List.length_set, show t.cells.length + 1 - t.cells.length = 1 by omega]
  rfl
 have k1 : boxK (splitT t i j) (t.cells.length + 1) = some (out ++ [some x, some y]) := by
  rw [boxK, hsp]
  exact stepB_leaf (b := x) (by rw [List.getElem?_append_right (by omega), hol, Nat.sub_self]; rfl) hc1 hl hf
 have k2 : boxK (splitT t i j) (t.cells.length + 2) = some (out ++ [some x, some y]) := by
  rw [show t.cells.length + 2 = (t.cells.length + 1) + 1 from rfl, boxK, k1]
  exact stepB_leaf (b := y) (by rw [List.getElem?_append_right (by omega), hol, show t.cells.length + 1 - t.cells.length = 1 by omega]; rfl) hc2 hl hf
 exact (valid_mk (size_mk ⟨by rw [hroot]; exact s1, by rw [hroot]; exact s2, by omega, by omega, by rw [hroot]; exact s5⟩) (by rw [hlen]; exact k2)).2
theorem settle_boxes {t : TreeD} {i : Nat} {v : VerdD} {c : CellD} (hi : t.cells[i]? = some c) (hl : leafB c = true) (hv : formB v = true) : ∀ {k : Nat} {out : List (Option BoxD)}, boxK t k = some out → boxK (settleT t i v) k = some out
 | 0, out, h => by
  rw [boxK] at h ⊢
  unfold settleT
  rw [hi]
  simp only [List.length_set]
  exact h
 | k + 1, out, h => by
  rw [boxK] at h ⊢
  split at h
  ·rename_i o e
   rw [settle_boxes hi hl hv e]
   simp only
   have hin : i < t.cells.length := (List.getElem?_eq_some_iff.1 hi).1
   obtain ⟨b, c', e1, e2, h3⟩ := stepB_un h
   by_cases hki : k = i
   ·subst hki
    rw [hi] at e2
    injection e2 with e2
    subst e2
    have hcell : (settleT t k v).cells[k]? = some { c with verd := v } := by
     unfold settleT
     rw [hi]
     simp only
     rw [List.getElem?_set_self hin]
    rcases h3 with ⟨-, -, rfl⟩ | ⟨a1, -⟩
    ·exact stepB_leaf e1 hcell hl hv
    ·rw [hl] at a1; cases a1
   ·have hcell : (settleT t i v).cells[k]? = some c' := by
     unfold settleT
     rw [hi]
     simp only
     rw [List.getElem?_set_ne (by omega)]
     exact e2
    have hlen : (settleT t i v).cells.length = t.cells.length := by unfold settleT; rw [hi]; simp
    rcases h3 with ⟨a1, a2, rfl⟩ | ⟨a1, a2, a3, a4, a5, a6, a7, x, y, a8, a9, a10, rfl⟩
    ·exact stepB_leaf e1 hcell a1 a2
    ·exact stepB_node e1 hcell a1 a2 a3 (by omega) a5 (by omega) a7 a8 a9 a10
  ·cases h
theorem settle_valid {t : TreeD} {i : Nat} {v : VerdD} {c : CellD} (ht : validT t = true) (hi : t.cells[i]? = some c) (hl : leafB c = true) (hv : formB v = true) : validT (settleT t i v) = true := by
 obtain ⟨hs, out, h1, h2⟩ := valid_un ht
 obtain ⟨s1, s2, s3, s4, s5⟩ := size_un hs
 have hlen : (settleT t i v).cells.length = t.cells.length := by unfold settleT; rw [hi]; simp
 have hroot : (settleT t i v).root = t.root := by unfold settleT; rw [hi]
 exact (valid_mk (size_mk ⟨by rw [hroot]; exact s1, by rw [hroot]; exact s2, by omega, by omega, by rw [hroot]; exact s5⟩) (by rw [hlen]; exact settle_boxes hi hl hv h2)).2
/-- The whole box. -/
theorem new_valid {r : BoxD} (h1 : 1 ≤ r.length) (h2 : r.length ≤ 10) (h3 : r.all validI = true) : validT ⟨r, [⟨-1, -1, -1, zeroV⟩]⟩ = true := by
 refine (valid_mk (t := ⟨r, [⟨-1, -1, -1, zeroV⟩]⟩) (out := [some r]) (size_mk ⟨h1, h2, Nat.le_refl 1, show 1 ≤ 2048 by decide, h3⟩) ?_).2
 show boxK ⟨r, [⟨-1, -1, -1, zeroV⟩]⟩ 1 = some [some r]
 rw [boxK, boxK]
 exact stepB_leaf rfl rfl (by decide) formB_zero
/-- The last cell of a valid tree is a leaf. -/
theorem last_leaf {t : TreeD} (ht : validT t = true) : ∃ c, t.cells[t.cells.length - 1]? = some c ∧ leafB c = true := by
 obtain ⟨hs, out, h1, h2⟩ := valid_un ht
 obtain ⟨s1, s2, s3, s4, s5⟩ := size_un hs
 rw [show t.cells.length = (t.cells.length - 1) + 1 by omega, boxK] at h2
 split at h2
 ·rename_i o e
  obtain ⟨b, c, e1, e2, h3⟩ := stepB_un h2
  refine ⟨c, e2, ?_⟩
  rcases h3 with ⟨a1, -, -⟩ | ⟨-, -, a3, a4, -⟩
  ·exact a1
  ·omega
 ·cases h2
end Go.Proofs.Fm
end

