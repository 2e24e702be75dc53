/-
  DynamicsSliders, run with symbols.
-/
import Derived.Test.YthbfmjlcnfgnbaaGreatYe
import Derived.Test.YthbfmjlcnfgnbaaGreatAwB
namespace Go.Proofs
open Go.Sm Go.RowKit

def nP : Value := mk 1258 (.int .i64 0) [var 0, .int .i64 (1048576)]
def nQ : Value := mk 1258 (.int .i64 0) [var 1, .int .i64 (1048576)]
def nM : Value := mk 1258 (.int .i64 0) [var 2, .int .i64 (60000)]
def nG : Value := mk 1258 (.int .i64 0) [var 3, .int .i64 (1048576)]
def nK : Value := mk 2 (.int .i64 0) [.int .i64 (1), nM]
def nH : Value := mk 3 (.int .i64 0) [nG, .int .i64 (524288)]
def nD : Value := mk 3 (.int .i64 0) [nQ, nP]
def nX : Value := mk 4 (.int .i64 0) [nD, nK]
def nY : Value := mk 4 (.int .i64 0) [nH, nK]
def nNY : Value := mk 14 (.int .i64 0) [nY]
def nNK : Value := mk 14 (.int .i64 0) [nK]
def nE0 : Value := mk 1246 (.int .i64 0) [nD, nD, nD, nD]
def nE1 : Value := mk 1247 (.int .i64 0) [nD, nD, nD, nD]
def g0 : Value := mk 1246 (.int .i64 0) [.int .i64 (65536), .int .i64 (65536), nD, nD]
def g1 : Value := mk 1247 (.int .i64 0) [.int .i64 (65536), .int .i64 (65536), nD, nD]
def g2 : Value := mk 1246 (.int .i64 0) [.int .i64 (0), .int .i64 (0), nD, nD]
def g3 : Value := mk 1247 (.int .i64 0) [.int .i64 (0), .int .i64 (0), nD, nD]
def g4 : Value := mk 1243 (.int .i64 0) [.int .i64 (0), .int .i64 (0), nD, nD]
def g5 : Value := mk 1244 (.int .i64 0) [.int .i64 (0), .int .i64 (0), nD, nD]
def g6 : Value := mk 1246 (.int .i64 0) [.int .i64 (0), .int .i64 (0), nE0, nE1]
def g7 : Value := mk 1247 (.int .i64 0) [.int .i64 (0), .int .i64 (0), nE0, nE1]
def g8 : Value := mk 1243 (.int .i64 0) [nD, nD, .int .i64 (0), .int .i64 (0)]
def g9 : Value := mk 1244 (.int .i64 0) [nD, nD, .int .i64 (0), .int .i64 (0)]
def g10 : Value := mk 1243 (.int .i64 0) [.int .i64 (0), .int .i64 (0), nX, nX]
def g11 : Value := mk 1244 (.int .i64 0) [.int .i64 (0), .int .i64 (0), nX, nX]
def g12 : Value := mk 1246 (.int .i64 0) [.int .i64 (65536), .int .i64 (65536), nH, nH]
def g13 : Value := mk 1247 (.int .i64 0) [.int .i64 (65536), .int .i64 (65536), nH, nH]
def g14 : Value := mk 1243 (.int .i64 0) [nH, nH, .int .i64 (0), .int .i64 (0)]
def g15 : Value := mk 1244 (.int .i64 0) [nH, nH, .int .i64 (0), .int .i64 (0)]
def g16 : Value := mk 1243 (.int .i64 0) [.int .i64 (0), .int .i64 (0), nY, nY]
def g17 : Value := mk 1244 (.int .i64 0) [.int .i64 (0), .int .i64 (0), nY, nY]
def g18 : Value := mk 4 (.int .i64 0) [.int .i64 (0), nK]
def g19 : Value := mk 4 (.int .i64 0) [nK, nD]
def g20 : Value := mk 4 (.int .i64 0) [nNK, nH]
def g21 : Value := mk 20 (.bool true) [nP, .int .i64 (-2147483648)]
def g22 : Value := mk 22 (.bool true) [nP, .int .i64 (2147483648)]
def g23 : Value := mk 20 (.bool true) [nQ, .int .i64 (-2147483648)]
def g24 : Value := mk 22 (.bool true) [nQ, .int .i64 (2147483648)]
def g25 : Value := mk 21 (.bool true) [.int .i64 (1), nK]
def g26 : Value := mk 21 (.bool true) [nK, .int .i64 (65536)]
def g27 : Value := mk 21 (.bool true) [.int .i64 (0), nP]
def g28 : Value := mk 21 (.bool true) [nP, .int .i64 (1048576)]
def g29 : Value := mk 21 (.bool true) [.int .i64 (0), nQ]
def g30 : Value := mk 21 (.bool true) [nQ, .int .i64 (1048576)]
def g31 : Value := mk 20 (.bool true) [nH, .int .i64 (-16777216)]
def g32 : Value := mk 22 (.bool true) [nH, .int .i64 (16777216)]
def g33 : Value := mk 1020 (.bool true) [mk 2 (.int .i64 0) [nP, mk 11 (.int .i64 0) [mk 12 (.int .i64 0) [mk 4 (.int .i64 0) [.int .i64 (5), nD], mk 4 (.int .i64 0) [.int .i64 (6), nD]], .int .i64 (4)]], mk 3 (.int .i64 0) [nP, mk 11 (.int .i64 0) [mk 14 (.int .i64 0) [mk 13 (.int .i64 0) [mk 4 (.int .i64 0) [.int .i64 (5), nD], mk 4 (.int .i64 0) [.int .i64 (6), nD]]], .int .i64 (4)]], .int .i64 (0), .int .i64 (1048576)]
def g34 : Value := mk 1003 (.bool true) [mk 2 (.int .i64 0) [nP, mk 11 (.int .i64 0) [mk 12 (.int .i64 0) [mk 4 (.int .i64 0) [.int .i64 (5), nD], mk 4 (.int .i64 0) [.int .i64 (6), nD]], .int .i64 (4)]], mk 3 (.int .i64 0) [nP, mk 11 (.int .i64 0) [mk 14 (.int .i64 0) [mk 13 (.int .i64 0) [mk 4 (.int .i64 0) [.int .i64 (5), nD], mk 4 (.int .i64 0) [.int .i64 (6), nD]]], .int .i64 (4)]]]
def g35 : Value := mk 1248 (.bool true) [.int .i64 (65536), .int .i64 (65536), nD, nD]
def g36 : Value := mk 1248 (.bool true) [.int .i64 (0), .int .i64 (0), nD, nD]
def g37 : Value := mk 1245 (.bool true) [.int .i64 (0), .int .i64 (0), nD, nD]
def g38 : Value := mk 1248 (.bool true) [nD, nD, nD, nD]
def g39 : Value := mk 1248 (.bool true) [.int .i64 (0), .int .i64 (0), nE0, nE1]
def g40 : Value := mk 1245 (.bool true) [nD, nD, .int .i64 (0), .int .i64 (0)]
def g41 : Value := mk 20 (.bool true) [nD, mk 14 (.int .i64 0) [mk 5 (.int .i64 0) [.int .i64 (1152921504606846976), nK]]]
def g42 : Value := mk 22 (.bool true) [nD, mk 5 (.int .i64 0) [.int .i64 (1152921504606846976), nK]]
def g43 : Value := mk 1245 (.bool true) [.int .i64 (0), .int .i64 (0), nX, nX]
def g44 : Value := mk 20 (.bool true) [.int .i64 (0), mk 14 (.int .i64 0) [mk 5 (.int .i64 0) [.int .i64 (1152921504606846976), nK]]]
def g45 : Value := mk 22 (.bool true) [.int .i64 (0), mk 5 (.int .i64 0) [.int .i64 (1152921504606846976), nK]]
def g46 : Value := mk 1248 (.bool true) [.int .i64 (65536), .int .i64 (65536), nH, nH]
def g47 : Value := mk 1245 (.bool true) [nH, nH, .int .i64 (0), .int .i64 (0)]
def g48 : Value := mk 20 (.bool true) [nH, mk 14 (.int .i64 0) [mk 5 (.int .i64 0) [.int .i64 (1152921504606846976), nK]]]
def g49 : Value := mk 22 (.bool true) [nH, mk 5 (.int .i64 0) [.int .i64 (1152921504606846976), nK]]
def g50 : Value := mk 1245 (.bool true) [.int .i64 (0), .int .i64 (0), nY, nY]
def g51 : Value := mk 24 (.bool true) [nX, nX]
def g52 : Value := mk 24 (.bool true) [nNY, nNY]
def g53 : Value := mk 20 (.bool true) [nP, .int .i64 (0)]
def g54 : Value := mk 22 (.bool true) [nP, .int .i64 (1048576)]
def gamSl : List (Value × Value) := [(g0, nD), (g1, nD), (g2, .int .i64 (0)), (g3, .int .i64 (0)), (g4, nD), (g5, nD), (g6, .int .i64 (0)), (g7, .int .i64 (0)), (g8, nD), (g9, nD), (g10, nX), (g11, nX), (g12, nH), (g13, nH), (g14, nH), (g15, nH), (g16, nY), (g17, nY), (g18, .int .i64 (0)), (g19, nX), (g20, nNY), (g21, .bool false), (g22, .bool false), (g23, .bool false), (g24, .bool false), (g25, .bool true), (g26, .bool true), (g27, .bool true), (g28, .bool true), (g29, .bool true), (g30, .bool true), (g31, .bool false), (g32, .bool false), (g33, .bool true), (g34, .bool true), (g35, .bool true), (g36, .bool true), (g37, .bool true), (g38, .bool true), (g39, .bool true), (g40, .bool true), (g41, .bool false), (g42, .bool false), (g43, .bool true), (g44, .bool false), (g45, .bool false), (g46, .bool true), (g47, .bool true), (g48, .bool false), (g49, .bool false), (g50, .bool true), (g51, .bool true), (g52, .bool true), (g53, .bool false), (g54, .bool false)]
def esSl : List Ent := [e_mComp, e_ShDown, e_ShUp, e_Clamp, e_Of, e_mPoint, e_lim, e_Valid, e_valid2, e_scaled, e_iAdd, e_iMul, e_iNeg, e_iHull, e_iHas, e_iWithin, e_dSmall, e_dAdd, e_dMul]
def okS (r : Option (Value × Hp × List Nat)) : Bool := match r with
  | some (.bool b, _, _) => b
  | _ => false
theorem okS_some {r : Option (Value × Hp × List Nat)} (h : okS r = true) : ∃ H' md, r = some (.bool true, H', md) := by
  unfold okS at h
  split at h
  · rename_i b H' md; subst h; exact ⟨H', md, rfl⟩
  · cases h
def oracle (X : Go.Sm.Xt) : Orc := litS 14 258 (closedS 16 true (sumS X esSl))
set_option maxRecDepth 100000 in
theorem runSl (l : List Int) : okS (callN Tryz.prog (xtOf l gamSl) Tryz.esc 200 (oracle (xtOf l gamSl)) 16 7 [var 0, var 1, var 2, var 3] []) = true := by kernel_rfl
end Go.Proofs
