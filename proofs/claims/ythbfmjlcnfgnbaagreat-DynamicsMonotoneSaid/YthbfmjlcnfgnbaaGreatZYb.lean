/-
  Part of the proof: see the last text.
-/
import Derived.Test.YthbfmjlcnfgnbaaGreatZEa
import Derived.Test.YthbfmjlcnfgnbaaGreatZSb
set_option linter.unusedVariables false
set_option maxHeartbeats 8000000
open Array renaming getElem?_eq_some_iff→aB
open Go.RowKit.Below renaming heap_setCell→ae0,refl→aI
open Bool renaming and_eq_true→aQ
open Int renaming tdiv→dC,tmod→bP,toNat→amJ
open Go.IntKind renaming i64→bg
open Go.IntWalk renaming i64_in→dz
open Go.Lib renaming hid→aG
open List renaming eq_nil_of_length_eq_zero→bR
open Nat renaming beq→ay,le_refl→au,le_trans→aZ,lt_of_lt_of_le→aC
open Go.Proofs.Tryz renaming prog→aa
open Go.World renaming cell?→bS,frozen?→ae2,setCell→afg
section
namespace Go.Proofs
open Go.Sm
def fe (a b:Int):Int:=(bif (decide (b<0)) then a else (Int.fdiv a (2^(min (amJ b) 64))))
def ed (a b:Int):Int:=(bif (decide (b<0)) then a else (bif ((wr ((Int.fdiv a (2^(min (amJ b) 64)))*2^(min (amJ b) 64))) != a) then (wr ((Int.fdiv a (2^(min (amJ b) 64)))+1)) else (Int.fdiv a (2^(min (amJ b) 64)))))
def F7 (a:Int):Int:=(mn (mx a (-2147483648)) 2147483648)
def fC (a b:Int):Bool:=(bif (decide ((-2147483648)≤a)) then (bif (decide (a≤b)) then (decide (b≤2147483648)) else false) else false)
def qB (a b c d:Int):Bool:=(bif (fC a b) then (fC c d) else false)
def Dw (a b:Int):Int:=(F7 a)
def Dx (a b:Int):Int:=(F7 b)
def LB (a b:Int):Int:=(Dw (fe a 16) (ed b 16))
def LC (a b:Int):Int:=(Dx (fe a 16) (ed b 16))
def Dr (a:Int):Int:=(Dw a a)
def Dt (a:Int):Int:=(Dx a a)
def eu (a b c d:Int):Int:=(bif (qB a b c d) then (Dw (wr (a+c)) (wr (b+d))) else 0)
def fI (a b c d:Int):Int:=(bif (qB a b c d) then (Dx (wr (a+c)) (wr (b+d))) else 0)
def wZ (a b:Int):Int:=(bif (fC a b) then (wr (-b)) else 0)
def xe (a b:Int):Int:=(bif (fC a b) then (wr (-a)) else 0)
def dV (a b c d:Int):Int:=(bif (qB a b c d) then (LB (mn (mn (mn (mn (wr (a*c)) (wr (a*c))) (wr (a*d))) (wr (b*c))) (wr (b*d))) (mx (mx (mx (mx (wr (a*c)) (wr (a*c))) (wr (a*d))) (wr (b*c))) (wr (b*d)))) else 0)
def dW (a b c d:Int):Int:=(bif (qB a b c d) then (LC (mn (mn (mn (mn (wr (a*c)) (wr (a*c))) (wr (a*d))) (wr (b*c))) (wr (b*d))) (mx (mx (mx (mx (wr (a*c)) (wr (a*c))) (wr (a*d))) (wr (b*c))) (wr (b*d)))) else 0)
def jN (a b c d:Int):Int:=(bif (qB a b c d) then (mn a c) else 0)
def jO (a b c d:Int):Int:=(bif (qB a b c d) then (mx b d) else 0)
def BA (a b c:Int):Bool:=(bif (fC a b) then (bif (decide (a≤c)) then (decide (c≤b)) else false) else false)
def ou (a b c d:Int):Bool:=(bif (qB a b c d) then (bif (decide (c≤a)) then (decide (b≤d)) else false) else false)
def vY (a b:Int):Int:=(bif (fC a b) then (wr (b - a)) else 0)
def Um (a:Int):Int:=1073741824
def Gh (a:Int):Int:=(fe (wr (a*6746518852)) 16)
def Gs (a:Int):Int:=(fe (wr ((fe (wr (a*6746518852)) 16)*(fe (wr (a*6746518852)) 16))) 30)
def Gv (a:Int):Int:=(fe (wr ((fe (wr ((fe (wr (a*6746518852)) 16)*(fe (wr (a*6746518852)) 16))) 30)*(fe (wr (a*6746518852)) 16))) 30)
def Gw (a:Int):Int:=(fe (wr ((fe (wr ((fe (wr ((fe (wr (a*6746518852)) 16)*(fe (wr (a*6746518852)) 16))) 30)*(fe (wr (a*6746518852)) 16))) 30)*(fe (wr (a*6746518852)) 16))) 30)
def Gx (a:Int):Int:=(fe (wr ((fe (wr ((fe (wr ((fe (wr ((fe (wr (a*6746518852)) 16)*(fe (wr (a*6746518852)) 16))) 30)*(fe (wr (a*6746518852)) 16))) 30)*(fe (wr (a*6746518852)) 16))) 30)*(fe (wr (a*6746518852)) 16))) 30)
def Gy (a:Int):Int:=(fe (wr ((fe (wr ((fe (wr ((fe (wr ((fe (wr ((fe (wr (a*6746518852)) 16)*(fe (wr (a*6746518852)) 16))) 30)*(fe (wr (a*6746518852)) 16))) 30)*(fe (wr (a*6746518852)) 16))) 30)*(fe (wr (a*6746518852)) 16))) 30)*(fe (wr (a*6746518852)) 16))) 30)
def Gz (a:Int):Int:=(fe (wr ((fe (wr ((fe (wr ((fe (wr ((fe (wr ((fe (wr ((fe (wr (a*6746518852)) 16)*(fe (wr (a*6746518852)) 16))) 30)*(fe (wr (a*6746518852)) 16))) 30)*(fe (wr (a*6746518852)) 16))) 30)*(fe (wr (a*6746518852)) 16))) 30)*(fe (wr (a*6746518852)) 16))) 30)*(fe (wr (a*6746518852)) 16))) 30)
def GA (a:Int):Int:=(fe (wr ((fe (wr ((fe (wr ((fe (wr ((fe (wr ((fe (wr ((fe (wr ((fe (wr (a*6746518852)) 16)*(fe (wr (a*6746518852)) 16))) 30)*(fe (wr (a*6746518852)) 16))) 30)*(fe (wr (a*6746518852)) 16))) 30)*(fe (wr (a*6746518852)) 16))) 30)*(fe (wr (a*6746518852)) 16))) 30)*(fe (wr (a*6746518852)) 16))) 30)*(fe (wr (a*6746518852)) 16))) 30)
def Uq (a:Int):Int:=(fe (wr ((fe (wr ((fe (wr ((fe (wr ((fe (wr ((fe (wr ((fe (wr ((fe (wr ((fe (wr (a*6746518852)) 16)*(fe (wr (a*6746518852)) 16))) 30)*(fe (wr (a*6746518852)) 16))) 30)*(fe (wr (a*6746518852)) 16))) 30)*(fe (wr (a*6746518852)) 16))) 30)*(fe (wr (a*6746518852)) 16))) 30)*(fe (wr (a*6746518852)) 16))) 30)*(fe (wr (a*6746518852)) 16))) 30)*(fe (wr (a*6746518852)) 16))) 30)
def Un (a:Int):Int:=(fe (wr ((fe (wr ((fe (wr ((fe (wr ((fe (wr ((fe (wr ((fe (wr ((fe (wr ((fe (wr ((fe (wr (a*6746518852)) 16)*(fe (wr (a*6746518852)) 16))) 30)*(fe (wr (a*6746518852)) 16))) 30)*(fe (wr (a*6746518852)) 16))) 30)*(fe (wr (a*6746518852)) 16))) 30)*(fe (wr (a*6746518852)) 16))) 30)*(fe (wr (a*6746518852)) 16))) 30)*(fe (wr (a*6746518852)) 16))) 30)*(fe (wr (a*6746518852)) 16))) 30)*(fe (wr (a*6746518852)) 16))) 30)
def Uo (a:Int):Int:=1073741824
def Gi (a:Int):Int:=(ed (wr (a*6746518853)) 16)
def Gj (a:Int):Int:=(ed (wr ((ed (wr (a*6746518853)) 16)*(ed (wr (a*6746518853)) 16))) 30)
def Gl (a:Int):Int:=(ed (wr ((ed (wr ((ed (wr (a*6746518853)) 16)*(ed (wr (a*6746518853)) 16))) 30)*(ed (wr (a*6746518853)) 16))) 30)
def Gm (a:Int):Int:=(ed (wr ((ed (wr ((ed (wr ((ed (wr (a*6746518853)) 16)*(ed (wr (a*6746518853)) 16))) 30)*(ed (wr (a*6746518853)) 16))) 30)*(ed (wr (a*6746518853)) 16))) 30)
def Gn (a:Int):Int:=(ed (wr ((ed (wr ((ed (wr ((ed (wr ((ed (wr (a*6746518853)) 16)*(ed (wr (a*6746518853)) 16))) 30)*(ed (wr (a*6746518853)) 16))) 30)*(ed (wr (a*6746518853)) 16))) 30)*(ed (wr (a*6746518853)) 16))) 30)
def Gp (a:Int):Int:=(ed (wr ((ed (wr ((ed (wr ((ed (wr ((ed (wr ((ed (wr (a*6746518853)) 16)*(ed (wr (a*6746518853)) 16))) 30)*(ed (wr (a*6746518853)) 16))) 30)*(ed (wr (a*6746518853)) 16))) 30)*(ed (wr (a*6746518853)) 16))) 30)*(ed (wr (a*6746518853)) 16))) 30)
def Gq (a:Int):Int:=(ed (wr ((ed (wr ((ed (wr ((ed (wr ((ed (wr ((ed (wr ((ed (wr (a*6746518853)) 16)*(ed (wr (a*6746518853)) 16))) 30)*(ed (wr (a*6746518853)) 16))) 30)*(ed (wr (a*6746518853)) 16))) 30)*(ed (wr (a*6746518853)) 16))) 30)*(ed (wr (a*6746518853)) 16))) 30)*(ed (wr (a*6746518853)) 16))) 30)
def Gr (a:Int):Int:=(ed (wr ((ed (wr ((ed (wr ((ed (wr ((ed (wr ((ed (wr ((ed (wr ((ed (wr (a*6746518853)) 16)*(ed (wr (a*6746518853)) 16))) 30)*(ed (wr (a*6746518853)) 16))) 30)*(ed (wr (a*6746518853)) 16))) 30)*(ed (wr (a*6746518853)) 16))) 30)*(ed (wr (a*6746518853)) 16))) 30)*(ed (wr (a*6746518853)) 16))) 30)*(ed (wr (a*6746518853)) 16))) 30)
def Gt (a:Int):Int:=(ed (wr ((ed (wr ((ed (wr ((ed (wr ((ed (wr ((ed (wr ((ed (wr ((ed (wr ((ed (wr (a*6746518853)) 16)*(ed (wr (a*6746518853)) 16))) 30)*(ed (wr (a*6746518853)) 16))) 30)*(ed (wr (a*6746518853)) 16))) 30)*(ed (wr (a*6746518853)) 16))) 30)*(ed (wr (a*6746518853)) 16))) 30)*(ed (wr (a*6746518853)) 16))) 30)*(ed (wr (a*6746518853)) 16))) 30)*(ed (wr (a*6746518853)) 16))) 30)
def Gu (a:Int):Int:=(ed (wr ((ed (wr ((ed (wr ((ed (wr ((ed (wr ((ed (wr ((ed (wr ((ed (wr ((ed (wr ((ed (wr (a*6746518853)) 16)*(ed (wr (a*6746518853)) 16))) 30)*(ed (wr (a*6746518853)) 16))) 30)*(ed (wr (a*6746518853)) 16))) 30)*(ed (wr (a*6746518853)) 16))) 30)*(ed (wr (a*6746518853)) 16))) 30)*(ed (wr (a*6746518853)) 16))) 30)*(ed (wr (a*6746518853)) 16))) 30)*(ed (wr (a*6746518853)) 16))) 30)*(ed (wr (a*6746518853)) 16))) 30)
def F8 (a b:Int):Int:=(mx 0 (fe a 14))
def F9 (a b:Int):Int:=(mn 65536 (ed b 14))
def LD (a:Int):Int:=(F8 (wr ((wr ((wr ((wr (0+(wr (1*(Gh a)))))+(wr ((-1)*(wr (dC (wr ((wr ((Gl a)+6)) - 1)) 6))))))+(wr (1*(wr (dC (Gx a) 120))))))+(wr ((-1)*(wr (dC (wr ((wr ((Gq a)+5040)) - 1)) 5040)))))) (wr ((wr ((wr ((wr ((wr (0+(wr (1*(Gi a)))))+(wr ((-1)*(wr (dC (Gv a) 6))))))+(wr (1*(wr (dC (wr ((wr ((Gn a)+120)) - 1)) 120))))))+(wr ((-1)*(wr (dC (Gz a) 5040))))))+(wr (1*(wr (dC (wr ((wr ((Gt a)+362880)) - 1)) 362880)))))))
def LF (a:Int):Int:=(F9 (wr ((wr ((wr ((wr (0+(wr (1*(Gh a)))))+(wr ((-1)*(wr (dC (wr ((wr ((Gl a)+6)) - 1)) 6))))))+(wr (1*(wr (dC (Gx a) 120))))))+(wr ((-1)*(wr (dC (wr ((wr ((Gq a)+5040)) - 1)) 5040)))))) (wr ((wr ((wr ((wr ((wr (0+(wr (1*(Gi a)))))+(wr ((-1)*(wr (dC (Gv a) 6))))))+(wr (1*(wr (dC (wr ((wr ((Gn a)+120)) - 1)) 120))))))+(wr ((-1)*(wr (dC (Gz a) 5040))))))+(wr (1*(wr (dC (wr ((wr ((Gt a)+362880)) - 1)) 362880)))))))
def K8 (a:Int):Int:=(F8 (wr ((wr ((wr ((wr ((wr (1073741824+(wr ((-1)*(wr (dC (wr ((wr ((Gj a)+2)) - 1)) 2))))))+(wr (1*(wr (dC (Gw a) 24))))))+(wr ((-1)*(wr (dC (wr ((wr ((Gp a)+720)) - 1)) 720))))))+(wr (1*(wr (dC (GA a) 40320))))))+(wr ((-1)*(wr (dC (wr ((wr ((Gu a)+3628800)) - 1)) 3628800)))))) (wr ((wr ((wr ((wr (1073741824+(wr ((-1)*(wr (dC (Gs a) 2))))))+(wr (1*(wr (dC (wr ((wr ((Gm a)+24)) - 1)) 24))))))+(wr ((-1)*(wr (dC (Gy a) 720))))))+(wr (1*(wr (dC (wr ((wr ((Gr a)+40320)) - 1)) 40320)))))))
def La (a:Int):Int:=(F9 (wr ((wr ((wr ((wr ((wr (1073741824+(wr ((-1)*(wr (dC (wr ((wr ((Gj a)+2)) - 1)) 2))))))+(wr (1*(wr (dC (Gw a) 24))))))+(wr ((-1)*(wr (dC (wr ((wr ((Gp a)+720)) - 1)) 720))))))+(wr (1*(wr (dC (GA a) 40320))))))+(wr ((-1)*(wr (dC (wr ((wr ((Gu a)+3628800)) - 1)) 3628800)))))) (wr ((wr ((wr ((wr (1073741824+(wr ((-1)*(wr (dC (Gs a) 2))))))+(wr (1*(wr (dC (wr ((wr ((Gm a)+24)) - 1)) 24))))))+(wr ((-1)*(wr (dC (Gy a) 720))))))+(wr (1*(wr (dC (wr ((wr ((Gr a)+40320)) - 1)) 40320)))))))
def vW (a:Int):Int:=(bif (decide (a≤8192)) then (LD a) else (K8 (wr (16384 - a))))
def vX (a:Int):Int:=(bif (decide (a≤8192)) then (LF a) else (La (wr (16384 - a))))
def kH (a:Int):Int:=(Wu a 65535)
def iQ (a:Int):Int:=(bif ((wr (dC (kH a) 16384))==0) then (vW (bP (kH a) 16384)) else (bif ((wr (dC (kH a) 16384))==1) then (vW (wr (16384 - (bP (kH a) 16384)))) else (bif ((wr (dC (kH a) 16384))==2) then (wZ (vW (bP (kH a) 16384)) (vX (bP (kH a) 16384))) else (wZ (vW (wr (16384 - (bP (kH a) 16384)))) (vX (wr (16384 - (bP (kH a) 16384))))))))
def iR (a:Int):Int:=(bif ((wr (dC (kH a) 16384))==0) then (vX (bP (kH a) 16384)) else (bif ((wr (dC (kH a) 16384))==1) then (vX (wr (16384 - (bP (kH a) 16384)))) else (bif ((wr (dC (kH a) 16384))==2) then (xe (vW (bP (kH a) 16384)) (vX (bP (kH a) 16384))) else (xe (vW (wr (16384 - (bP (kH a) 16384)))) (vX (wr (16384 - (bP (kH a) 16384))))))))
def jh (a:Int):Int:=(iQ (wr ((kH a)+16384)))
def ji (a:Int):Int:=(iR (wr ((kH a)+16384)))
def mW (a b c:Int):Bool:=(BA a b (wr (a+(kH (wr (c - a))))))
def afn (a b:Int):Int:=(bif (fC a b) then (bif (decide (65536≤(vY a b))) then (-65536) else (bif (mW a b 16384) then (bif (mW a b 49152) then (jN (jN (jN (iQ a) (iR a) (iQ b) (iR b)) (jO (iQ a) (iR a) (iQ b) (iR b)) 65536 65536) (jO (jN (iQ a) (iR a) (iQ b) (iR b)) (jO (iQ a) (iR a) (iQ b) (iR b)) 65536 65536) (-65536) (-65536)) else (jN (jN (iQ a) (iR a) (iQ b) (iR b)) (jO (iQ a) (iR a) (iQ b) (iR b)) 65536 65536)) else (bif (mW a b 49152) then (jN (jN (iQ a) (iR a) (iQ b) (iR b)) (jO (iQ a) (iR a) (iQ b) (iR b)) (-65536) (-65536)) else (jN (iQ a) (iR a) (iQ b) (iR b))))) else 0)
def pU (a b:Int):Int:=(bif (fC a b) then (bif (decide (65536≤(vY a b))) then 65536 else (bif (mW a b 16384) then (bif (mW a b 49152) then (jO (jN (jN (iQ a) (iR a) (iQ b) (iR b)) (jO (iQ a) (iR a) (iQ b) (iR b)) 65536 65536) (jO (jN (iQ a) (iR a) (iQ b) (iR b)) (jO (iQ a) (iR a) (iQ b) (iR b)) 65536 65536) (-65536) (-65536)) else (jO (jN (iQ a) (iR a) (iQ b) (iR b)) (jO (iQ a) (iR a) (iQ b) (iR b)) 65536 65536)) else (bif (mW a b 49152) then (jO (jN (iQ a) (iR a) (iQ b) (iR b)) (jO (iQ a) (iR a) (iQ b) (iR b)) (-65536) (-65536)) else (jO (iQ a) (iR a) (iQ b) (iR b))))) else 0)
def rP (a b:Int):Int:=(bif (fC a b) then (bif (decide (65536≤(vY a b))) then (-65536) else (bif (mW a b 0) then (bif (mW a b 32768) then (jN (jN (jN (jh a) (ji a) (jh b) (ji b)) (jO (jh a) (ji a) (jh b) (ji b)) 65536 65536) (jO (jN (jh a) (ji a) (jh b) (ji b)) (jO (jh a) (ji a) (jh b) (ji b)) 65536 65536) (-65536) (-65536)) else (jN (jN (jh a) (ji a) (jh b) (ji b)) (jO (jh a) (ji a) (jh b) (ji b)) 65536 65536)) else (bif (mW a b 32768) then (jN (jN (jh a) (ji a) (jh b) (ji b)) (jO (jh a) (ji a) (jh b) (ji b)) (-65536) (-65536)) else (jN (jh a) (ji a) (jh b) (ji b))))) else 0)
def rQ (a b:Int):Int:=(bif (fC a b) then (bif (decide (65536≤(vY a b))) then 65536 else (bif (mW a b 0) then (bif (mW a b 32768) then (jO (jN (jN (jh a) (ji a) (jh b) (ji b)) (jO (jh a) (ji a) (jh b) (ji b)) 65536 65536) (jO (jN (jh a) (ji a) (jh b) (ji b)) (jO (jh a) (ji a) (jh b) (ji b)) 65536 65536) (-65536) (-65536)) else (jO (jN (jh a) (ji a) (jh b) (ji b)) (jO (jh a) (ji a) (jh b) (ji b)) 65536 65536)) else (bif (mW a b 32768) then (jO (jN (jh a) (ji a) (jh b) (ji b)) (jO (jh a) (ji a) (jh b) (ji b)) (-65536) (-65536)) else (jO (jh a) (ji a) (jh b) (ji b))))) else 0)
def RG (a b c:Int):Int:=(Dr a)
def RH (a b c:Int):Int:=(Dt a)
def RJ (a b c:Int):Int:=(Dr b)
def RL (a b c:Int):Int:=(Dt b)
def RN (a b c:Int):Int:=(Dr c)
def RO (a b c:Int):Int:=(Dt c)
def Ga (a b c d e f g h i j k l:Int):Int:=(eu a b g h)
def Gb (a b c d e f g h i j k l:Int):Int:=(fI a b g h)
def Gc (a b c d e f g h i j k l:Int):Int:=(eu c d i j)
def Gd (a b c d e f g h i j k l:Int):Int:=(fI c d i j)
def Gf (a b c d e f g h i j k l:Int):Int:=(eu e f k l)
def Gg (a b c d e f g h i j k l:Int):Int:=(fI e f k l)
def Rk:Int:=65536
def Rl:Int:=65536
def Rv:Int:=0
def Rw:Int:=0
def Rx:Int:=0
def Ry:Int:=0
def Rz:Int:=0
def RA:Int:=0
def RD:Int:=65536
def RF:Int:=65536
def Rm:Int:=0
def Rn:Int:=0
def Ro:Int:=0
def Rp:Int:=0
def Rq:Int:=0
def Rs:Int:=0
def Rt:Int:=65536
def Ru:Int:=65536
def yD (a b c:Int):Int:=(bif (fC b c) then (bif (a==0) then 65536 else (bif (a==1) then (rP b c) else (bif (a==2) then (rP b c) else 0))) else 0)
def yE (a b c:Int):Int:=(bif (fC b c) then (bif (a==0) then 65536 else (bif (a==1) then (rQ b c) else (bif (a==2) then (rQ b c) else 0))) else 0)
def yN (a b c:Int):Int:=(bif (fC b c) then (bif (a==0) then 0 else (bif (a==1) then 0 else (bif (a==2) then (wZ (afn b c) (pU b c)) else 0))) else 0)
def yO (a b c:Int):Int:=(bif (fC b c) then (bif (a==0) then 0 else (bif (a==1) then 0 else (bif (a==2) then (xe (afn b c) (pU b c)) else 0))) else 0)
def yP (a b c:Int):Int:=(bif (fC b c) then (bif (a==0) then 0 else (bif (a==1) then (afn b c) else (bif (a==2) then 0 else 0))) else 0)
def yQ (a b c:Int):Int:=(bif (fC b c) then (bif (a==0) then 0 else (bif (a==1) then (pU b c) else (bif (a==2) then 0 else 0))) else 0)
def yR (a b c:Int):Int:=(bif (fC b c) then (bif (a==0) then 0 else (bif (a==1) then 0 else (bif (a==2) then (afn b c) else 0))) else 0)
def yS (a b c:Int):Int:=(bif (fC b c) then (bif (a==0) then 0 else (bif (a==1) then 0 else (bif (a==2) then (pU b c) else 0))) else 0)
def yT (a b c:Int):Int:=(bif (fC b c) then (bif (a==0) then (rP b c) else (bif (a==1) then 65536 else (bif (a==2) then (rP b c) else 0))) else 0)
def yU (a b c:Int):Int:=(bif (fC b c) then (bif (a==0) then (rQ b c) else (bif (a==1) then 65536 else (bif (a==2) then (rQ b c) else 0))) else 0)
def yF (a b c:Int):Int:=(bif (fC b c) then (bif (a==0) then (wZ (afn b c) (pU b c)) else (bif (a==1) then 0 else (bif (a==2) then 0 else 0))) else 0)
def yG (a b c:Int):Int:=(bif (fC b c) then (bif (a==0) then (xe (afn b c) (pU b c)) else (bif (a==1) then 0 else (bif (a==2) then 0 else 0))) else 0)
def yH (a b c:Int):Int:=(bif (fC b c) then (bif (a==0) then 0 else (bif (a==1) then (wZ (afn b c) (pU b c)) else (bif (a==2) then 0 else 0))) else 0)
def yI (a b c:Int):Int:=(bif (fC b c) then (bif (a==0) then 0 else (bif (a==1) then (xe (afn b c) (pU b c)) else (bif (a==2) then 0 else 0))) else 0)
def yJ (a b c:Int):Int:=(bif (fC b c) then (bif (a==0) then (afn b c) else (bif (a==1) then 0 else (bif (a==2) then 0 else 0))) else 0)
def yK (a b c:Int):Int:=(bif (fC b c) then (bif (a==0) then (pU b c) else (bif (a==1) then 0 else (bif (a==2) then 0 else 0))) else 0)
def yL (a b c:Int):Int:=(bif (fC b c) then (bif (a==0) then (rP b c) else (bif (a==1) then (rP b c) else (bif (a==2) then 65536 else 0))) else 0)
def yM (a b c:Int):Int:=(bif (fC b c) then (bif (a==0) then (rQ b c) else (bif (a==1) then (rQ b c) else (bif (a==2) then 65536 else 0))) else 0)
def rV (a b c d e f g h i j k l m n o p q r s t u v w x:Int):Int:=(eu (eu (eu 0 0 (dV a b s t) (dW a b s t)) (fI 0 0 (dV a b s t) (dW a b s t)) (dV c d u v) (dW c d u v)) (fI (eu 0 0 (dV a b s t) (dW a b s t)) (fI 0 0 (dV a b s t) (dW a b s t)) (dV c d u v) (dW c d u v)) (dV e f w x) (dW e f w x))
def rW (a b c d e f g h i j k l m n o p q r s t u v w x:Int):Int:=(fI (eu (eu 0 0 (dV a b s t) (dW a b s t)) (fI 0 0 (dV a b s t) (dW a b s t)) (dV c d u v) (dW c d u v)) (fI (eu 0 0 (dV a b s t) (dW a b s t)) (fI 0 0 (dV a b s t) (dW a b s t)) (dV c d u v) (dW c d u v)) (dV e f w x) (dW e f w x))
def rX (a b c d e f g h i j k l m n o p q r s t u v w x:Int):Int:=(eu (eu (eu 0 0 (dV g h s t) (dW g h s t)) (fI 0 0 (dV g h s t) (dW g h s t)) (dV i j u v) (dW i j u v)) (fI (eu 0 0 (dV g h s t) (dW g h s t)) (fI 0 0 (dV g h s t) (dW g h s t)) (dV i j u v) (dW i j u v)) (dV k l w x) (dW k l w x))
def rY (a b c d e f g h i j k l m n o p q r s t u v w x:Int):Int:=(fI (eu (eu 0 0 (dV g h s t) (dW g h s t)) (fI 0 0 (dV g h s t) (dW g h s t)) (dV i j u v) (dW i j u v)) (fI (eu 0 0 (dV g h s t) (dW g h s t)) (fI 0 0 (dV g h s t) (dW g h s t)) (dV i j u v) (dW i j u v)) (dV k l w x) (dW k l w x))
def rZ (a b c d e f g h i j k l m n o p q r s t u v w x:Int):Int:=(eu (eu (eu 0 0 (dV m n s t) (dW m n s t)) (fI 0 0 (dV m n s t) (dW m n s t)) (dV o p u v) (dW o p u v)) (fI (eu 0 0 (dV m n s t) (dW m n s t)) (fI 0 0 (dV m n s t) (dW m n s t)) (dV o p u v) (dW o p u v)) (dV q r w x) (dW q r w x))
def ag9 (a b c d e f g h i j k l m n o p q r s t u v w x:Int):Int:=(fI (eu (eu 0 0 (dV m n s t) (dW m n s t)) (fI 0 0 (dV m n s t) (dW m n s t)) (dV o p u v) (dW o p u v)) (fI (eu 0 0 (dV m n s t) (dW m n s t)) (fI 0 0 (dV m n s t) (dW m n s t)) (dV o p u v) (dW o p u v)) (dV q r w x) (dW q r w x))
def mV (a:Int):Int:=(mn (mx a (-65536)) 65536)
def Lb (a b c d e f g h i j k l m n o p q r s t u v w x y z A B C D E F G H I J:Int):Int:=(mV (eu (eu (eu 0 0 (dV a b s t) (dW a b s t)) (fI 0 0 (dV a b s t) (dW a b s t)) (dV c d y z) (dW c d y z)) (fI (eu 0 0 (dV a b s t) (dW a b s t)) (fI 0 0 (dV a b s t) (dW a b s t)) (dV c d y z) (dW c d y z)) (dV e f E F) (dW e f E F)))
def Lc (a b c d e f g h i j k l m n o p q r s t u v w x y z A B C D E F G H I J:Int):Int:=(mV (fI (eu (eu 0 0 (dV a b s t) (dW a b s t)) (fI 0 0 (dV a b s t) (dW a b s t)) (dV c d y z) (dW c d y z)) (fI (eu 0 0 (dV a b s t) (dW a b s t)) (fI 0 0 (dV a b s t) (dW a b s t)) (dV c d y z) (dW c d y z)) (dV e f E F) (dW e f E F)))
def Lp (a b c d e f g h i j k l m n o p q r s t u v w x y z A B C D E F G H I J:Int):Int:=(mV (eu (eu (eu 0 0 (dV a b u v) (dW a b u v)) (fI 0 0 (dV a b u v) (dW a b u v)) (dV c d A B) (dW c d A B)) (fI (eu 0 0 (dV a b u v) (dW a b u v)) (fI 0 0 (dV a b u v) (dW a b u v)) (dV c d A B) (dW c d A B)) (dV e f G H) (dW e f G H)))
def Lr (a b c d e f g h i j k l m n o p q r s t u v w x y z A B C D E F G H I J:Int):Int:=(mV (fI (eu (eu 0 0 (dV a b u v) (dW a b u v)) (fI 0 0 (dV a b u v) (dW a b u v)) (dV c d A B) (dW c d A B)) (fI (eu 0 0 (dV a b u v) (dW a b u v)) (fI 0 0 (dV a b u v) (dW a b u v)) (dV c d A B) (dW c d A B)) (dV e f G H) (dW e f G H)))
def Ls (a b c d e f g h i j k l m n o p q r s t u v w x y z A B C D E F G H I J:Int):Int:=(mV (eu (eu (eu 0 0 (dV a b w x) (dW a b w x)) (fI 0 0 (dV a b w x) (dW a b w x)) (dV c d C D) (dW c d C D)) (fI (eu 0 0 (dV a b w x) (dW a b w x)) (fI 0 0 (dV a b w x) (dW a b w x)) (dV c d C D) (dW c d C D)) (dV e f I J) (dW e f I J)))
def Lt (a b c d e f g h i j k l m n o p q r s t u v w x y z A B C D E F G H I J:Int):Int:=(mV (fI (eu (eu 0 0 (dV a b w x) (dW a b w x)) (fI 0 0 (dV a b w x) (dW a b w x)) (dV c d C D) (dW c d C D)) (fI (eu 0 0 (dV a b w x) (dW a b w x)) (fI 0 0 (dV a b w x) (dW a b w x)) (dV c d C D) (dW c d C D)) (dV e f I J) (dW e f I J)))
def Lu (a b c d e f g h i j k l m n o p q r s t u v w x y z A B C D E F G H I J:Int):Int:=(mV (eu (eu (eu 0 0 (dV g h s t) (dW g h s t)) (fI 0 0 (dV g h s t) (dW g h s t)) (dV i j y z) (dW i j y z)) (fI (eu 0 0 (dV g h s t) (dW g h s t)) (fI 0 0 (dV g h s t) (dW g h s t)) (dV i j y z) (dW i j y z)) (dV k l E F) (dW k l E F)))
def Lv (a b c d e f g h i j k l m n o p q r s t u v w x y z A B C D E F G H I J:Int):Int:=(mV (fI (eu (eu 0 0 (dV g h s t) (dW g h s t)) (fI 0 0 (dV g h s t) (dW g h s t)) (dV i j y z) (dW i j y z)) (fI (eu 0 0 (dV g h s t) (dW g h s t)) (fI 0 0 (dV g h s t) (dW g h s t)) (dV i j y z) (dW i j y z)) (dV k l E F) (dW k l E F)))
def Lx (a b c d e f g h i j k l m n o p q r s t u v w x y z A B C D E F G H I J:Int):Int:=(mV (eu (eu (eu 0 0 (dV g h u v) (dW g h u v)) (fI 0 0 (dV g h u v) (dW g h u v)) (dV i j A B) (dW i j A B)) (fI (eu 0 0 (dV g h u v) (dW g h u v)) (fI 0 0 (dV g h u v) (dW g h u v)) (dV i j A B) (dW i j A B)) (dV k l G H) (dW k l G H)))
def LA (a b c d e f g h i j k l m n o p q r s t u v w x y z A B C D E F G H I J:Int):Int:=(mV (fI (eu (eu 0 0 (dV g h u v) (dW g h u v)) (fI 0 0 (dV g h u v) (dW g h u v)) (dV i j A B) (dW i j A B)) (fI (eu 0 0 (dV g h u v) (dW g h u v)) (fI 0 0 (dV g h u v) (dW g h u v)) (dV i j A B) (dW i j A B)) (dV k l G H) (dW k l G H)))
def Ld (a b c d e f g h i j k l m n o p q r s t u v w x y z A B C D E F G H I J:Int):Int:=(mV (eu (eu (eu 0 0 (dV g h w x) (dW g h w x)) (fI 0 0 (dV g h w x) (dW g h w x)) (dV i j C D) (dW i j C D)) (fI (eu 0 0 (dV g h w x) (dW g h w x)) (fI 0 0 (dV g h w x) (dW g h w x)) (dV i j C D) (dW i j C D)) (dV k l I J) (dW k l I J)))
def Lf (a b c d e f g h i j k l m n o p q r s t u v w x y z A B C D E F G H I J:Int):Int:=(mV (fI (eu (eu 0 0 (dV g h w x) (dW g h w x)) (fI 0 0 (dV g h w x) (dW g h w x)) (dV i j C D) (dW i j C D)) (fI (eu 0 0 (dV g h w x) (dW g h w x)) (fI 0 0 (dV g h w x) (dW g h w x)) (dV i j C D) (dW i j C D)) (dV k l I J) (dW k l I J)))
def Lg (a b c d e f g h i j k l m n o p q r s t u v w x y z A B C D E F G H I J:Int):Int:=(mV (eu (eu (eu 0 0 (dV m n s t) (dW m n s t)) (fI 0 0 (dV m n s t) (dW m n s t)) (dV o p y z) (dW o p y z)) (fI (eu 0 0 (dV m n s t) (dW m n s t)) (fI 0 0 (dV m n s t) (dW m n s t)) (dV o p y z) (dW o p y z)) (dV q r E F) (dW q r E F)))
def Lh (a b c d e f g h i j k l m n o p q r s t u v w x y z A B C D E F G H I J:Int):Int:=(mV (fI (eu (eu 0 0 (dV m n s t) (dW m n s t)) (fI 0 0 (dV m n s t) (dW m n s t)) (dV o p y z) (dW o p y z)) (fI (eu 0 0 (dV m n s t) (dW m n s t)) (fI 0 0 (dV m n s t) (dW m n s t)) (dV o p y z) (dW o p y z)) (dV q r E F) (dW q r E F)))
def Li (a b c d e f g h i j k l m n o p q r s t u v w x y z A B C D E F G H I J:Int):Int:=(mV (eu (eu (eu 0 0 (dV m n u v) (dW m n u v)) (fI 0 0 (dV m n u v) (dW m n u v)) (dV o p A B) (dW o p A B)) (fI (eu 0 0 (dV m n u v) (dW m n u v)) (fI 0 0 (dV m n u v) (dW m n u v)) (dV o p A B) (dW o p A B)) (dV q r G H) (dW q r G H)))
def Lj (a b c d e f g h i j k l m n o p q r s t u v w x y z A B C D E F G H I J:Int):Int:=(mV (fI (eu (eu 0 0 (dV m n u v) (dW m n u v)) (fI 0 0 (dV m n u v) (dW m n u v)) (dV o p A B) (dW o p A B)) (fI (eu 0 0 (dV m n u v) (dW m n u v)) (fI 0 0 (dV m n u v) (dW m n u v)) (dV o p A B) (dW o p A B)) (dV q r G H) (dW q r G H)))
def Ll (a b c d e f g h i j k l m n o p q r s t u v w x y z A B C D E F G H I J:Int):Int:=(mV (eu (eu (eu 0 0 (dV m n w x) (dW m n w x)) (fI 0 0 (dV m n w x) (dW m n w x)) (dV o p C D) (dW o p C D)) (fI (eu 0 0 (dV m n w x) (dW m n w x)) (fI 0 0 (dV m n w x) (dW m n w x)) (dV o p C D) (dW o p C D)) (dV q r I J) (dW q r I J)))
def Lm (a b c d e f g h i j k l m n o p q r s t u v w x y z A B C D E F G H I J:Int):Int:=(mV (fI (eu (eu 0 0 (dV m n w x) (dW m n w x)) (fI 0 0 (dV m n w x) (dW m n w x)) (dV o p C D) (dW o p C D)) (fI (eu 0 0 (dV m n w x) (dW m n w x)) (fI 0 0 (dV m n w x) (dW m n w x)) (dV o p C D) (dW o p C D)) (dV q r I J) (dW q r I J)))
def Tk (a b c d e f:Int):Int:=65536
def Tm (a b c d e f:Int):Int:=65536
def TB (a b c d e f:Int):Int:=0
def TG (a b c d e f:Int):Int:=0
def TH (a b c d e f:Int):Int:=0
def TI (a b c d e f:Int):Int:=0
def TJ (a b c d e f:Int):Int:=0
def TK (a b c d e f:Int):Int:=0
def TL (a b c d e f:Int):Int:=65536
def TM (a b c d e f:Int):Int:=65536
def Tn (a b c d e f:Int):Int:=0
def Tp (a b c d e f:Int):Int:=0
def Tq (a b c d e f:Int):Int:=0
def Tu (a b c d e f:Int):Int:=0
def Tv (a b c d e f:Int):Int:=0
def Tw (a b c d e f:Int):Int:=0
def Tx (a b c d e f:Int):Int:=65536
def Ty (a b c d e f:Int):Int:=65536
def Tz (a b c d e f:Int):Int:=a
def TA (a b c d e f:Int):Int:=b
def TC (a b c d e f:Int):Int:=c
def TD (a b c d e f:Int):Int:=d
def TE (a b c d e f:Int):Int:=e
def TF (a b c d e f:Int):Int:=f
def TN (a b c:Int):Int:=(yD a b c)
def TP (a b c:Int):Int:=(yE a b c)
def Ua (a b c:Int):Int:=(yN a b c)
def Uf (a b c:Int):Int:=(yO a b c)
def Ug (a b c:Int):Int:=(yP a b c)
def Uh (a b c:Int):Int:=(yQ a b c)
def Ui (a b c:Int):Int:=(yR a b c)
def Uj (a b c:Int):Int:=(yS a b c)
def Uk (a b c:Int):Int:=(yT a b c)
def Ul (a b c:Int):Int:=(yU a b c)
def TQ (a b c:Int):Int:=(yF a b c)
def TR (a b c:Int):Int:=(yG a b c)
def TS (a b c:Int):Int:=(yH a b c)
def TT (a b c:Int):Int:=(yI a b c)
def TU (a b c:Int):Int:=(yJ a b c)
def TV (a b c:Int):Int:=(yK a b c)
def TW (a b c:Int):Int:=(yL a b c)
def TY (a b c:Int):Int:=(yM a b c)
def TZ (a b c:Int):Int:=0
def T9 (a b c:Int):Int:=0
def Ub (a b c:Int):Int:=0
def Uc (a b c:Int):Int:=0
def Ud (a b c:Int):Int:=0
def Ue (a b c:Int):Int:=0
def SB:Int:=65536
def SC:Int:=65536
def SV:Int:=0
def Tc:Int:=0
def Td:Int:=0
def Te:Int:=0
def Tf:Int:=0
def Tg:Int:=0
def Ti:Int:=65536
def Tj:Int:=65536
def SE:Int:=0
def SF:Int:=0
def SG:Int:=0
def SH:Int:=0
def SI:Int:=0
def SK:Int:=0
def SL:Int:=65536
def SN:Int:=65536
def SQ:Int:=0
def SS:Int:=0
def SX:Int:=0
def SY:Int:=0
def S9:Int:=0
def Ta:Int:=0
def RZ (a b c d e f g h i j k l m n o p q r s t u v w x y z A B C D E F G H I J K L M N O P Q R S T U V:Int):Int:=(Lb a b c d e f g h i j k l m n o p q r y z A B C D E F G H I J K L M N O P)
def R3 (a b c d e f g h i j k l m n o p q r s t u v w x y z A B C D E F G H I J K L M N O P Q R S T U V:Int):Int:=(Lc a b c d e f g h i j k l m n o p q r y z A B C D E F G H I J K L M N O P)
def Sg (a b c d e f g h i j k l m n o p q r s t u v w x y z A B C D E F G H I J K L M N O P Q R S T U V:Int):Int:=(Lp a b c d e f g h i j k l m n o p q r y z A B C D E F G H I J K L M N O P)
def Sr (a b c d e f g h i j k l m n o p q r s t u v w x y z A B C D E F G H I J K L M N O P Q R S T U V:Int):Int:=(Lr a b c d e f g h i j k l m n o p q r y z A B C D E F G H I J K L M N O P)
def Su (a b c d e f g h i j k l m n o p q r s t u v w x y z A B C D E F G H I J K L M N O P Q R S T U V:Int):Int:=(Ls a b c d e f g h i j k l m n o p q r y z A B C D E F G H I J K L M N O P)
def Sv (a b c d e f g h i j k l m n o p q r s t u v w x y z A B C D E F G H I J K L M N O P Q R S T U V:Int):Int:=(Lt a b c d e f g h i j k l m n o p q r y z A B C D E F G H I J K L M N O P)
def Sw (a b c d e f g h i j k l m n o p q r s t u v w x y z A B C D E F G H I J K L M N O P Q R S T U V:Int):Int:=(Lu a b c d e f g h i j k l m n o p q r y z A B C D E F G H I J K L M N O P)
def Sy (a b c d e f g h i j k l m n o p q r s t u v w x y z A B C D E F G H I J K L M N O P Q R S T U V:Int):Int:=(Lv a b c d e f g h i j k l m n o p q r y z A B C D E F G H I J K L M N O P)
def Sz (a b c d e f g h i j k l m n o p q r s t u v w x y z A B C D E F G H I J K L M N O P Q R S T U V:Int):Int:=(Lx a b c d e f g h i j k l m n o p q r y z A B C D E F G H I J K L M N O P)
def SA (a b c d e f g h i j k l m n o p q r s t u v w x y z A B C D E F G H I J K L M N O P Q R S T U V:Int):Int:=(LA a b c d e f g h i j k l m n o p q r y z A B C D E F G H I J K L M N O P)
def R4 (a b c d e f g h i j k l m n o p q r s t u v w x y z A B C D E F G H I J K L M N O P Q R S T U V:Int):Int:=(Ld a b c d e f g h i j k l m n o p q r y z A B C D E F G H I J K L M N O P)
def R5 (a b c d e f g h i j k l m n o p q r s t u v w x y z A B C D E F G H I J K L M N O P Q R S T U V:Int):Int:=(Lf a b c d e f g h i j k l m n o p q r y z A B C D E F G H I J K L M N O P)
def R6 (a b c d e f g h i j k l m n o p q r s t u v w x y z A B C D E F G H I J K L M N O P Q R S T U V:Int):Int:=(Lg a b c d e f g h i j k l m n o p q r y z A B C D E F G H I J K L M N O P)
def R7 (a b c d e f g h i j k l m n o p q r s t u v w x y z A B C D E F G H I J K L M N O P Q R S T U V:Int):Int:=(Lh a b c d e f g h i j k l m n o p q r y z A B C D E F G H I J K L M N O P)
def R8 (a b c d e f g h i j k l m n o p q r s t u v w x y z A B C D E F G H I J K L M N O P Q R S T U V:Int):Int:=(Li a b c d e f g h i j k l m n o p q r y z A B C D E F G H I J K L M N O P)
def R9 (a b c d e f g h i j k l m n o p q r s t u v w x y z A B C D E F G H I J K L M N O P Q R S T U V:Int):Int:=(Lj a b c d e f g h i j k l m n o p q r y z A B C D E F G H I J K L M N O P)
def Sa (a b c d e f g h i j k l m n o p q r s t u v w x y z A B C D E F G H I J K L M N O P Q R S T U V:Int):Int:=(Ll a b c d e f g h i j k l m n o p q r y z A B C D E F G H I J K L M N O P)
def alm (a b c d e f g h i j k l m n o p q r s t u v w x y z A B C D E F G H I J K L M N O P Q R S T U V:Int):Int:=(Lm a b c d e f g h i j k l m n o p q r y z A B C D E F G H I J K L M N O P)
def Sc (a b c d e f g h i j k l m n o p q r s t u v w x y z A B C D E F G H I J K L M N O P Q R S T U V:Int):Int:=(Ga s t u v w x (rV a b c d e f g h i j k l m n o p q r Q R S T U V) (rW a b c d e f g h i j k l m n o p q r Q R S T U V) (rX a b c d e f g h i j k l m n o p q r Q R S T U V) (rY a b c d e f g h i j k l m n o p q r Q R S T U V) (rZ a b c d e f g h i j k l m n o p q r Q R S T U V) (ag9 a b c d e f g h i j k l m n o p q r Q R S T U V))
def Sd (a b c d e f g h i j k l m n o p q r s t u v w x y z A B C D E F G H I J K L M N O P Q R S T U V:Int):Int:=(Gb s t u v w x (rV a b c d e f g h i j k l m n o p q r Q R S T U V) (rW a b c d e f g h i j k l m n o p q r Q R S T U V) (rX a b c d e f g h i j k l m n o p q r Q R S T U V) (rY a b c d e f g h i j k l m n o p q r Q R S T U V) (rZ a b c d e f g h i j k l m n o p q r Q R S T U V) (ag9 a b c d e f g h i j k l m n o p q r Q R S T U V))
def Si (a b c d e f g h i j k l m n o p q r s t u v w x y z A B C D E F G H I J K L M N O P Q R S T U V:Int):Int:=(Gc s t u v w x (rV a b c d e f g h i j k l m n o p q r Q R S T U V) (rW a b c d e f g h i j k l m n o p q r Q R S T U V) (rX a b c d e f g h i j k l m n o p q r Q R S T U V) (rY a b c d e f g h i j k l m n o p q r Q R S T U V) (rZ a b c d e f g h i j k l m n o p q r Q R S T U V) (ag9 a b c d e f g h i j k l m n o p q r Q R S T U V))
def Sj (a b c d e f g h i j k l m n o p q r s t u v w x y z A B C D E F G H I J K L M N O P Q R S T U V:Int):Int:=(Gd s t u v w x (rV a b c d e f g h i j k l m n o p q r Q R S T U V) (rW a b c d e f g h i j k l m n o p q r Q R S T U V) (rX a b c d e f g h i j k l m n o p q r Q R S T U V) (rY a b c d e f g h i j k l m n o p q r Q R S T U V) (rZ a b c d e f g h i j k l m n o p q r Q R S T U V) (ag9 a b c d e f g h i j k l m n o p q r Q R S T U V))
def Sk (a b c d e f g h i j k l m n o p q r s t u v w x y z A B C D E F G H I J K L M N O P Q R S T U V:Int):Int:=(Gf s t u v w x (rV a b c d e f g h i j k l m n o p q r Q R S T U V) (rW a b c d e f g h i j k l m n o p q r Q R S T U V) (rX a b c d e f g h i j k l m n o p q r Q R S T U V) (rY a b c d e f g h i j k l m n o p q r Q R S T U V) (rZ a b c d e f g h i j k l m n o p q r Q R S T U V) (ag9 a b c d e f g h i j k l m n o p q r Q R S T U V))
def Sn (a b c d e f g h i j k l m n o p q r s t u v w x y z A B C D E F G H I J K L M N O P Q R S T U V:Int):Int:=(Gg s t u v w x (rV a b c d e f g h i j k l m n o p q r Q R S T U V) (rW a b c d e f g h i j k l m n o p q r Q R S T U V) (rX a b c d e f g h i j k l m n o p q r Q R S T U V) (rY a b c d e f g h i j k l m n o p q r Q R S T U V) (rZ a b c d e f g h i j k l m n o p q r Q R S T U V) (ag9 a b c d e f g h i j k l m n o p q r Q R S T U V))
def RQ (a b c d e f g h i j k l m n o p q r s t u v w x y z A B C D:Int):Int:=(Ga s t u v w x (rV a b c d e f g h i j k l m n o p q r y z A B C D) (rW a b c d e f g h i j k l m n o p q r y z A B C D) (rX a b c d e f g h i j k l m n o p q r y z A B C D) (rY a b c d e f g h i j k l m n o p q r y z A B C D) (rZ a b c d e f g h i j k l m n o p q r y z A B C D) (ag9 a b c d e f g h i j k l m n o p q r y z A B C D))
def RS (a b c d e f g h i j k l m n o p q r s t u v w x y z A B C D:Int):Int:=(Gb s t u v w x (rV a b c d e f g h i j k l m n o p q r y z A B C D) (rW a b c d e f g h i j k l m n o p q r y z A B C D) (rX a b c d e f g h i j k l m n o p q r y z A B C D) (rY a b c d e f g h i j k l m n o p q r y z A B C D) (rZ a b c d e f g h i j k l m n o p q r y z A B C D) (ag9 a b c d e f g h i j k l m n o p q r y z A B C D))
def RU (a b c d e f g h i j k l m n o p q r s t u v w x y z A B C D:Int):Int:=(Gc s t u v w x (rV a b c d e f g h i j k l m n o p q r y z A B C D) (rW a b c d e f g h i j k l m n o p q r y z A B C D) (rX a b c d e f g h i j k l m n o p q r y z A B C D) (rY a b c d e f g h i j k l m n o p q r y z A B C D) (rZ a b c d e f g h i j k l m n o p q r y z A B C D) (ag9 a b c d e f g h i j k l m n o p q r y z A B C D))
def RV (a b c d e f g h i j k l m n o p q r s t u v w x y z A B C D:Int):Int:=(Gd s t u v w x (rV a b c d e f g h i j k l m n o p q r y z A B C D) (rW a b c d e f g h i j k l m n o p q r y z A B C D) (rX a b c d e f g h i j k l m n o p q r y z A B C D) (rY a b c d e f g h i j k l m n o p q r y z A B C D) (rZ a b c d e f g h i j k l m n o p q r y z A B C D) (ag9 a b c d e f g h i j k l m n o p q r y z A B C D))
def RX (a b c d e f g h i j k l m n o p q r s t u v w x y z A B C D:Int):Int:=(Gf s t u v w x (rV a b c d e f g h i j k l m n o p q r y z A B C D) (rW a b c d e f g h i j k l m n o p q r y z A B C D) (rX a b c d e f g h i j k l m n o p q r y z A B C D) (rY a b c d e f g h i j k l m n o p q r y z A B C D) (rZ a b c d e f g h i j k l m n o p q r y z A B C D) (ag9 a b c d e f g h i j k l m n o p q r y z A B C D))
def RY (a b c d e f g h i j k l m n o p q r s t u v w x y z A B C D:Int):Int:=(Gg s t u v w x (rV a b c d e f g h i j k l m n o p q r y z A B C D) (rW a b c d e f g h i j k l m n o p q r y z A B C D) (rX a b c d e f g h i j k l m n o p q r y z A B C D) (rY a b c d e f g h i j k l m n o p q r y z A B C D) (rZ a b c d e f g h i j k l m n o p q r y z A B C D) (ag9 a b c d e f g h i j k l m n o p q r y z A B C D))
def pW (a b:Int):Bool:=(bif (decide ((-1152921504606846976)≤a)) then (bif (decide (a≤b)) then (decide (b≤1152921504606846976)) else false) else false)
def mE (a b:Int):Int:=(wr (-b))
def mF (a b:Int):Int:=(wr (-a))
def Du (a:Int):Int:=a
def Dv (a:Int):Int:=a
def kG (a:Int):Bool:=(bif (a==1) then true else (bif (a==2) then true else (a==3)))
def mq (a b c d:Int):Int:=(bif (pW a b) then (bif (pW c d) then (bif (pW (wr (a+c)) (wr (b+d))) then (wr (a+c)) else 0) else 0) else 0)
def mD (a b c d:Int):Int:=(bif (pW a b) then (bif (pW c d) then (bif (pW (wr (a+c)) (wr (b+d))) then (wr (b+d)) else 0) else 0) else 0)
def oo (a b c d:Int):Bool:=(bif (pW a b) then (bif (pW c d) then (bif (pW (wr (a+c)) (wr (b+d))) then true else false) else false) else false)
def iA (a b c d:Int):Int:=bif En.wT a b c d then En.mulL a b c d/65536 else 0
def iB (a b c d:Int):Int:=bif En.wT a b c d then (En.wS a b c d+65535)/65536 else 0
def pV (a b c d:Int):Bool:=En.wT a b c d
def zP (a b c d e f g h i j k l m n o p q r s:Int):Int:=(bif (a==2) then d else (bif (a==5) then d else (bif (a==3) then f else (bif (a==6) then f else b))))
def zQ (a b c d e f g h i j k l m n o p q r s:Int):Int:=(bif (a==2) then e else (bif (a==5) then e else (bif (a==3) then g else (bif (a==6) then g else c))))
def zR (a b c d e f g h i j k l m n o p q r s:Int):Int:=(bif (a==2) then j else (bif (a==5) then j else (bif (a==3) then l else (bif (a==6) then l else h))))
def zS (a b c d e f g h i j k l m n o p q r s:Int):Int:=(bif (a==2) then k else (bif (a==5) then k else (bif (a==3) then m else (bif (a==6) then m else i))))
def zT (a b c d e f g h i j k l m n o p q r s:Int):Int:=(bif (a==2) then p else (bif (a==5) then p else (bif (a==3) then r else (bif (a==6) then r else n))))
def zU (a b c d e f g h i j k l m n o p q r s:Int):Int:=(bif (a==2) then q else (bif (a==5) then q else (bif (a==3) then s else (bif (a==6) then s else o))))
def rR (a b c:Int):Int:=(bif (decide ((bP a 40001)<0)) then (bif (decide ((bP b 40001)<0)) then (bif (decide ((bP c 2097152)<0)) then (wr ((wr ((bP a 40001)+40001)) - 20000)) else (wr ((wr ((bP a 40001)+40001)) - 20000))) else (bif (decide ((bP c 2097152)<0)) then (wr ((wr ((bP a 40001)+40001)) - 20000)) else (wr ((wr ((bP a 40001)+40001)) - 20000)))) else (bif (decide ((bP b 40001)<0)) then (bif (decide ((bP c 2097152)<0)) then (wr ((bP a 40001) - 20000)) else (wr ((bP a 40001) - 20000))) else (bif (decide ((bP c 2097152)<0)) then (wr ((bP a 40001) - 20000)) else (wr ((bP a 40001) - 20000)))))
def rT (a b c:Int):Int:=(bif (decide ((bP a 40001)<0)) then (bif (decide ((bP b 40001)<0)) then (bif (decide ((bP c 2097152)<0)) then (wr ((wr ((bP b 40001)+40001)) - 20000)) else (wr ((wr ((bP b 40001)+40001)) - 20000))) else (bif (decide ((bP c 2097152)<0)) then (wr ((bP b 40001) - 20000)) else (wr ((bP b 40001) - 20000)))) else (bif (decide ((bP b 40001)<0)) then (bif (decide ((bP c 2097152)<0)) then (wr ((wr ((bP b 40001)+40001)) - 20000)) else (wr ((wr ((bP b 40001)+40001)) - 20000))) else (bif (decide ((bP c 2097152)<0)) then (wr ((bP b 40001) - 20000)) else (wr ((bP b 40001) - 20000)))))
def rU (a b c:Int):Int:=(bif (decide ((bP a 40001)<0)) then (bif (decide ((bP b 40001)<0)) then (bif (decide ((bP c 2097152)<0)) then (wr ((wr ((bP c 2097152)+2097152)) - 1048576)) else (wr ((bP c 2097152) - 1048576))) else (bif (decide ((bP c 2097152)<0)) then (wr ((wr ((bP c 2097152)+2097152)) - 1048576)) else (wr ((bP c 2097152) - 1048576)))) else (bif (decide ((bP b 40001)<0)) then (bif (decide ((bP c 2097152)<0)) then (wr ((wr ((bP c 2097152)+2097152)) - 1048576)) else (wr ((bP c 2097152) - 1048576))) else (bif (decide ((bP c 2097152)<0)) then (wr ((wr ((bP c 2097152)+2097152)) - 1048576)) else (wr ((bP c 2097152) - 1048576)))))
def adm (a b:Int):Int:=a % b
def Fu (A:Type):Nat→Type
 | 0=>A
 | n+1=>Int→Fu A n
def ap {A:Type}:(n:Nat)→Fu A n→List Int→A
 | 0,f,_=>f
 | n+1,f,[]=>ap n (f 0) []
 | n+1,f,a::l=>ap n (f a) l
set_option maxRecDepth 100000 in
def FN (j:Nat) (l:List Int):Int :=
 bif ay j 0 then ap 2 fe l else
 bif ay j 1 then ap 2 ed l else
 bif ay j 2 then ap 1 F7 l else
 bif ay j 5 then ap 2 Dw l else
 bif ay j 6 then ap 2 Dx l else
 bif ay j 7 then ap 2 LB l else
 bif ay j 8 then ap 2 LC l else
 bif ay j 9 then ap 1 Dr l else
 bif ay j 10 then ap 1 Dt l else
 bif ay j 11 then ap 4 eu l else
 bif ay j 12 then ap 4 fI l else
 bif ay j 13 then ap 2 wZ l else
 bif ay j 14 then ap 2 xe l else
 bif ay j 15 then ap 4 dV l else
 bif ay j 16 then ap 4 dW l else
 bif ay j 17 then ap 4 jN l else
 bif ay j 18 then ap 4 jO l else
 bif ay j 21 then ap 2 vY l else
 bif ay j 22 then ap 1 Um l else
 bif ay j 23 then ap 1 Gh l else
 bif ay j 24 then ap 1 Gs l else
 bif ay j 25 then ap 1 Gv l else
 bif ay j 26 then ap 1 Gw l else
 bif ay j 27 then ap 1 Gx l else
 bif ay j 28 then ap 1 Gy l else
 bif ay j 29 then ap 1 Gz l else
 bif ay j 30 then ap 1 GA l else
 bif ay j 31 then ap 1 Uq l else
 bif ay j 32 then ap 1 Un l else
 bif ay j 33 then ap 1 Uo l else
 bif ay j 34 then ap 1 Gi l else
 bif ay j 35 then ap 1 Gj l else
 bif ay j 36 then ap 1 Gl l else
 bif ay j 37 then ap 1 Gm l else
 bif ay j 38 then ap 1 Gn l else
 bif ay j 39 then ap 1 Gp l else
 bif ay j 40 then ap 1 Gq l else
 bif ay j 41 then ap 1 Gr l else
 bif ay j 42 then ap 1 Gt l else
 bif ay j 43 then ap 1 Gu l else
 bif ay j 44 then ap 2 F8 l else
 bif ay j 45 then ap 2 F9 l else
 bif ay j 46 then ap 1 LD l else
 bif ay j 47 then ap 1 LF l else
 bif ay j 48 then ap 1 K8 l else
 bif ay j 49 then ap 1 La l else
 bif ay j 50 then ap 1 vW l else
 bif ay j 51 then ap 1 vX l else
 bif ay j 52 then ap 1 kH l else
 bif ay j 53 then ap 1 iQ l else
 bif ay j 54 then ap 1 iR l else
 bif ay j 55 then ap 1 jh l else
 bif ay j 56 then ap 1 ji l else
 bif ay j 58 then ap 2 afn l else
 bif ay j 59 then ap 2 pU l else
 bif ay j 60 then ap 2 rP l else
 bif ay j 61 then ap 2 rQ l else
 bif ay j 62 then ap 3 RG l else
 bif ay j 63 then ap 3 RH l else
 bif ay j 64 then ap 3 RJ l else
 bif ay j 65 then ap 3 RL l else
 bif ay j 66 then ap 3 RN l else
 bif ay j 67 then ap 3 RO l else
 bif ay j 68 then ap 12 Ga l else
 bif ay j 69 then ap 12 Gb l else
 bif ay j 70 then ap 12 Gc l else
 bif ay j 71 then ap 12 Gd l else
 bif ay j 72 then ap 12 Gf l else
 bif ay j 73 then ap 12 Gg l else
 bif ay j 74 then ap 0 Rk l else
 bif ay j 75 then ap 0 Rl l else
 bif ay j 76 then ap 0 Rv l else
 bif ay j 77 then ap 0 Rw l else
 bif ay j 78 then ap 0 Rx l else
 bif ay j 79 then ap 0 Ry l else
 bif ay j 80 then ap 0 Rz l else
 bif ay j 81 then ap 0 RA l else
 bif ay j 82 then ap 0 RD l else
 bif ay j 83 then ap 0 RF l else
 bif ay j 84 then ap 0 Rm l else
 bif ay j 85 then ap 0 Rn l else
 bif ay j 86 then ap 0 Ro l else
 bif ay j 87 then ap 0 Rp l else
 bif ay j 88 then ap 0 Rq l else
 bif ay j 89 then ap 0 Rs l else
 bif ay j 90 then ap 0 Rt l else
 bif ay j 91 then ap 0 Ru l else
 bif ay j 92 then ap 3 yD l else
 bif ay j 93 then ap 3 yE l else
 bif ay j 94 then ap 3 yN l else
 bif ay j 95 then ap 3 yO l else
 bif ay j 96 then ap 3 yP l else
 bif ay j 97 then ap 3 yQ l else
 bif ay j 98 then ap 3 yR l else
 bif ay j 99 then ap 3 yS l else
 bif ay j 100 then ap 3 yT l else
 bif ay j 101 then ap 3 yU l else
 bif ay j 102 then ap 3 yF l else
 bif ay j 103 then ap 3 yG l else
 bif ay j 104 then ap 3 yH l else
 bif ay j 105 then ap 3 yI l else
 bif ay j 106 then ap 3 yJ l else
 bif ay j 107 then ap 3 yK l else
 bif ay j 108 then ap 3 yL l else
 bif ay j 109 then ap 3 yM l else
 bif ay j 110 then ap 24 rV l else
 bif ay j 111 then ap 24 rW l else
 bif ay j 112 then ap 24 rX l else
 bif ay j 113 then ap 24 rY l else
 bif ay j 114 then ap 24 rZ l else
 bif ay j 115 then ap 24 ag9 l else
 bif ay j 116 then ap 1 mV l else
 bif ay j 117 then ap 36 Lb l else
 bif ay j 118 then ap 36 Lc l else
 bif ay j 119 then ap 36 Lp l else
 bif ay j 120 then ap 36 Lr l else
 bif ay j 121 then ap 36 Ls l else
 bif ay j 122 then ap 36 Lt l else
 bif ay j 123 then ap 36 Lu l else
 bif ay j 124 then ap 36 Lv l else
 bif ay j 125 then ap 36 Lx l else
 bif ay j 126 then ap 36 LA l else
 bif ay j 127 then ap 36 Ld l else
 bif ay j 128 then ap 36 Lf l else
 bif ay j 129 then ap 36 Lg l else
 bif ay j 130 then ap 36 Lh l else
 bif ay j 131 then ap 36 Li l else
 bif ay j 132 then ap 36 Lj l else
 bif ay j 133 then ap 36 Ll l else
 bif ay j 134 then ap 36 Lm l else
 bif ay j 135 then ap 6 Tk l else
 bif ay j 136 then ap 6 Tm l else
 bif ay j 137 then ap 6 TB l else
 bif ay j 138 then ap 6 TG l else
 bif ay j 139 then ap 6 TH l else
 bif ay j 140 then ap 6 TI l else
 bif ay j 141 then ap 6 TJ l else
 bif ay j 142 then ap 6 TK l else
 bif ay j 143 then ap 6 TL l else
 bif ay j 144 then ap 6 TM l else
 bif ay j 145 then ap 6 Tn l else
 bif ay j 146 then ap 6 Tp l else
 bif ay j 147 then ap 6 Tq l else
 bif ay j 148 then ap 6 Tu l else
 bif ay j 149 then ap 6 Tv l else
 bif ay j 150 then ap 6 Tw l else
 bif ay j 151 then ap 6 Tx l else
 bif ay j 152 then ap 6 Ty l else
 bif ay j 153 then ap 6 Tz l else
 bif ay j 154 then ap 6 TA l else
 bif ay j 155 then ap 6 TC l else
 bif ay j 156 then ap 6 TD l else
 bif ay j 157 then ap 6 TE l else
 bif ay j 158 then ap 6 TF l else
 bif ay j 159 then ap 3 TN l else
 bif ay j 160 then ap 3 TP l else
 bif ay j 161 then ap 3 Ua l else
 bif ay j 162 then ap 3 Uf l else
 bif ay j 163 then ap 3 Ug l else
 bif ay j 164 then ap 3 Uh l else
 bif ay j 165 then ap 3 Ui l else
 bif ay j 166 then ap 3 Uj l else
 bif ay j 167 then ap 3 Uk l else
 bif ay j 168 then ap 3 Ul l else
 bif ay j 169 then ap 3 TQ l else
 bif ay j 170 then ap 3 TR l else
 bif ay j 171 then ap 3 TS l else
 bif ay j 172 then ap 3 TT l else
 bif ay j 173 then ap 3 TU l else
 bif ay j 174 then ap 3 TV l else
 bif ay j 175 then ap 3 TW l else
 bif ay j 176 then ap 3 TY l else
 bif ay j 177 then ap 3 TZ l else
 bif ay j 178 then ap 3 T9 l else
 bif ay j 179 then ap 3 Ub l else
 bif ay j 180 then ap 3 Uc l else
 bif ay j 181 then ap 3 Ud l else
 bif ay j 182 then ap 3 Ue l else
 bif ay j 183 then ap 0 SB l else
 bif ay j 184 then ap 0 SC l else
 bif ay j 185 then ap 0 SV l else
 bif ay j 186 then ap 0 Tc l else
 bif ay j 187 then ap 0 Td l else
 bif ay j 188 then ap 0 Te l else
 bif ay j 189 then ap 0 Tf l else
 bif ay j 190 then ap 0 Tg l else
 bif ay j 191 then ap 0 Ti l else
 bif ay j 192 then ap 0 Tj l else
 bif ay j 193 then ap 0 SE l else
 bif ay j 194 then ap 0 SF l else
 bif ay j 195 then ap 0 SG l else
 bif ay j 196 then ap 0 SH l else
 bif ay j 197 then ap 0 SI l else
 bif ay j 198 then ap 0 SK l else
 bif ay j 199 then ap 0 SL l else
 bif ay j 200 then ap 0 SN l else
 bif ay j 201 then ap 0 SQ l else
 bif ay j 202 then ap 0 SS l else
 bif ay j 203 then ap 0 SX l else
 bif ay j 204 then ap 0 SY l else
 bif ay j 205 then ap 0 S9 l else
 bif ay j 206 then ap 0 Ta l else
 bif ay j 207 then ap 48 RZ l else
 bif ay j 208 then ap 48 R3 l else
 bif ay j 209 then ap 48 Sg l else
 bif ay j 210 then ap 48 Sr l else
 bif ay j 211 then ap 48 Su l else
 bif ay j 212 then ap 48 Sv l else
 bif ay j 213 then ap 48 Sw l else
 bif ay j 214 then ap 48 Sy l else
 bif ay j 215 then ap 48 Sz l else
 bif ay j 216 then ap 48 SA l else
 bif ay j 217 then ap 48 R4 l else
 bif ay j 218 then ap 48 R5 l else
 bif ay j 219 then ap 48 R6 l else
 bif ay j 220 then ap 48 R7 l else
 bif ay j 221 then ap 48 R8 l else
 bif ay j 222 then ap 48 R9 l else
 bif ay j 223 then ap 48 Sa l else
 bif ay j 224 then ap 48 alm l else
 bif ay j 225 then ap 48 Sc l else
 bif ay j 226 then ap 48 Sd l else
 bif ay j 227 then ap 48 Si l else
 bif ay j 228 then ap 48 Sj l else
 bif ay j 229 then ap 48 Sk l else
 bif ay j 230 then ap 48 Sn l else
 bif ay j 231 then ap 30 RQ l else
 bif ay j 232 then ap 30 RS l else
 bif ay j 233 then ap 30 RU l else
 bif ay j 234 then ap 30 RV l else
 bif ay j 235 then ap 30 RX l else
 bif ay j 236 then ap 30 RY l else
 bif ay j 238 then ap 2 mE l else
 bif ay j 239 then ap 2 mF l else
 bif ay j 240 then ap 1 Du l else
 bif ay j 241 then ap 1 Dv l else
 bif ay j 243 then ap 4 mq l else
 bif ay j 244 then ap 4 mD l else
 bif ay j 246 then ap 4 iA l else
 bif ay j 247 then ap 4 iB l else
 bif ay j 249 then ap 19 zP l else
 bif ay j 250 then ap 19 zQ l else
 bif ay j 251 then ap 19 zR l else
 bif ay j 252 then ap 19 zS l else
 bif ay j 253 then ap 19 zT l else
 bif ay j 254 then ap 19 zU l else
 bif ay j 255 then ap 3 rR l else
 bif ay j 256 then ap 3 rT l else
 bif ay j 257 then ap 3 rU l else
 bif ay j 258 then ap 2 adm l else
 0
def FB (j:Nat) (l:List Int):Bool :=
 bif ay j 3 then ap 2 fC l else
 bif ay j 4 then ap 4 qB l else
 bif ay j 19 then ap 3 BA l else
 bif ay j 20 then ap 4 ou l else
 bif ay j 57 then ap 3 mW l else
 bif ay j 237 then ap 2 pW l else
 bif ay j 242 then ap 1 kG l else
 bif ay j 245 then ap 4 oo l else
 bif ay j 248 then ap 4 pV l else
 false
def eO (l:List Int):Env:=⟨fun i=>l.getD i 0,fun _=>false,FN,FB,fun _=>(none,0,0),fun _=>none,[],none⟩
def G9 (l:List Int) (g:List (Value×Value)):Go.Sm.Xt:=⟨Tryz.xt,eO l,g,[23],[],[],[],[]⟩
theorem aeN (l:List Int) (g:List (Value×Value)) (h:Sat (eO l) g):Go.Sm.kD aa (G9 l g):=⟨CK,h,Cy _ _ _⟩
def vs (a:Nat):Nat→List Value
 | 0=>[]
 | n+1=>var a::vs (a+1) n
def Hf:(n:Nat)→(List Int→Prop)→Prop
 | 0,p=>p []
 | n+1,p=>∀a,Hf n fun l=>p (a::l)
theorem Nn:∀(n:Nat) (p:List Int→Prop),Hf n p→∀l,l.length=n→p l
 | 0,p,h,l,hl=>by obtain rfl:=bR hl; exact h
 | n+1,p,h,l,hl=>by obtain ⟨a,t,rfl,g⟩:=Zo hl; exact Nn n (fun l=>p (a::l)) (h a) t g
def Hl (e:eZ) (l:List Int):Prop:=∀w,Calls aa e.f (vL e.args l).toArray w fun r w'=>r=.returned (kW (qZ (eO []) l e.j e.res))∧RowKit.Below w.heap.size w w'
variable {e:eZ}
theorem iH (n:Nat) (hn:total e.args=n) (h:Hf n (Hl e)):fo aa (eO []) e:=fun l w hl=>Nn n _ h l (hl.trans hn) w
def aeI (P:Program) (l:List Int) (es:List eZ) (f:FuncId) (xs:List Value) (g:List (Value×Value)):Option Value:=(kQ P (G9 l g) Tryz.esc 200 (vZ (G9 l g) es) 12 f xs []).bind fun r=>uO (eO l) 5 r.1
def Ci (l:List Int) (es:List eZ) (f:FuncId) (xs:List Value) (g:List (Value×Value)) (u:Value):Prop:=∀(ys:List Value) (w:World),eQ (uO (eO l) 4) xs=some ys→Sat (eO l) g→Calls aa f ys.toArray w fun r w'=>r=.returned u∧RowKit.Below w.heap.size w w'
variable {l:List Int} {es:List eZ} {f:FuncId} {xs:List Value} {g:List (Value×Value)} {u:Value}
theorem fD (hes:∀e∈es,fo aa (eO l) e) (h:aeI aa l es f xs g=some u):Ci l es f xs g u:=fun ys w hx hs=>by
 obtain ⟨⟨v,H',md⟩,h1,h2⟩:=Option.bind_eq_some_iff.1 h
 exact adJ (X:=G9 l g) Tryz.mixed Tryz.ky (aeN _ _ hs) (BH hs _ hes) (BI _ _) h1 hx h2 w
theorem iD (c:Value) (b:Bool) (h:eF (eO l) 300 c=some (.bool b)) (ht:b=true→Ci l es f xs ((c,.bool true)::g) u) (hf:b=false→Ci l es f xs ((c,.bool false)::g) u):Ci l es f xs g u:=fun ys w hx hs=>by
 cases b with
 | true=>exact ht rfl ys w hx (afl ⟨300,_,h,rfl⟩ hs)
 | false=>exact hf rfl ys w hx (afl ⟨300,_,h,rfl⟩ hs)
theorem iM (u:Value) (hu:kW (qZ (eO []) l e.j e.res)=u) (xs:List Value) (hx:eQ (uO (eO l) 4) xs=some (vL e.args l)) (h:Ci l es e.f xs [] u):Hl e l:=fun w=>by
 rw [hu]; exact h _ w hx (fB _)
theorem XB (u:Value) (hu:kW (qZ (eO []) l e.j e.res)=u) (h:∀w,Calls aa e.f (vL e.args l).toArray w fun r w'=>r=.returned u∧RowKit.Below w.heap.size w w'):Hl e l:=fun w=>by
 rw [hu]; exact h w
theorem iJ {L:List Int} (h:fo aa (eO []) e) (hs:∀e∈es,fo aa (eO L) e):∀x∈e::es,fo aa (eO L) x:=List.forall_mem_cons.2 ⟨Cw (E:=eO []) (E':=eO L) rfl rfl h,hs⟩
end Go.Proofs
end
section
namespace Go.Proofs
open Go.Sm Go.RowKit
def es0:List eZ:=[]
theorem Ky (L:List Int):∀e∈es0,fo aa (eO L) e:=fun e h=>by cases h
def NB:eZ:=⟨148,[none,none],[.i],0⟩
theorem aai:fo aa (eO []) NB:=iH 2 rfl<|fun a0 a1=>iM (es:=es0) (num (fe a0 a1)) (by kernel_rfl) [var 0,var 1] (by kernel_rfl) (iD (mB 20 [var 1,.int .i64 (0)]) (decide (a1<0)) (by kernel_rfl)
  (fun c0=>fD (Ky _) (by simp only [fe,c0,cond_true]; kernel_rfl))
  (fun c0=>fD (Ky _) (by simp only [fe,c0,cond_false]; kernel_rfl)))
def es1:List eZ:=NB::es0
theorem Fs (L:List Int):∀e∈es1,fo aa (eO L) e:=iJ aai (Ky L)
def NC:eZ:=⟨149,[none,none],[.i],1⟩
theorem aaj:fo aa (eO []) NC:=iH 2 rfl<|fun a0 a1=>iM (es:=es1) (num (ed a0 a1)) (by kernel_rfl) [var 0,var 1] (by kernel_rfl) (iD (mB 20 [var 1,.int .i64 (0)]) (decide (a1<0)) (by kernel_rfl)
  (fun c0=>fD (Fs _) (by simp only [ed,c0,cond_true]; kernel_rfl))
  (fun c0=>iD (mB 25 [mI 10 [mI 11 [var 0,var 1],var 1],var 0]) ((wr ((Int.fdiv a0 (2^(min (amJ a1) 64)))*2^(min (amJ a1) 64))) != a0) (by kernel_rfl)
 (fun c1=>fD (Fs _) (by simp only [ed,c0,c1,cond_false,cond_true]; kernel_rfl))
 (fun c1=>fD (Fs _) (by simp only [ed,c0,c1,cond_false]; kernel_rfl))))
def es2:List eZ:=NC::es1
theorem Qh (L:List Int):∀e∈es2,fo aa (eO L) e:=iJ aaj (Fs L)
def Nv:eZ:=⟨137,[none],[.i],2⟩
theorem aad:fo aa (eO []) Nv:=iH 1 rfl<|fun a0=>iM (es:=es2) (num (F7 a0)) (by kernel_rfl) [var 0] (by kernel_rfl) (fD (Qh _) (by kernel_rfl))
def I1:List eZ:=Nv::es2
theorem Fx (L:List Int):∀e∈I1,fo aa (eO L) e:=iJ aad (Qh L)
def NG:eZ:=⟨116,[some 2],[.b],3⟩
theorem aam:fo aa (eO []) NG:=iH 2 rfl<|fun a0 a1=>iM (es:=I1) (.bool (fC a0 a1)) (by kernel_rfl) [.agg ⟨vs 0 2⟩] (by kernel_rfl) (iD (mB 21 [.int .i64 (-2147483648),var 0]) (decide ((-2147483648)≤a0)) (by kernel_rfl)
  (fun c0=>iD (mB 21 [var 0,var 1]) (decide (a0≤a1)) (by kernel_rfl)
 (fun c1=>fD (Fx _) (by simp only [fC,c0,c1,cond_true]; kernel_rfl))
 (fun c1=>fD (Fx _) (by simp only [fC,c0,c1,cond_false,cond_true]; kernel_rfl)))
  (fun c0=>fD (Fx _) (by simp only [fC,c0,cond_false]; kernel_rfl)))
def Je:List eZ:=NG::I1
theorem KE (L:List Int):∀e∈Je,fo aa (eO L) e:=iJ aam (Fx L)
def Ov:eZ:=⟨113,[some 2,some 2],[.b],4⟩
theorem aaU:fo aa (eO []) Ov:=iH 4 rfl<|fun a0 a1 a2 a3=>iM (es:=Je) (.bool (qB a0 a1 a2 a3)) (by kernel_rfl) [.agg ⟨vs 0 2⟩,.agg ⟨vs 2 2⟩] (by kernel_rfl) (iD (mB 1003 [var 0,var 1]) (fC a0 a1) (by kernel_rfl)
  (fun c0=>fD (KE _) (by simp only [qB,c0,cond_true]; kernel_rfl))
  (fun c0=>fD (KE _) (by simp only [qB,c0,cond_false]; kernel_rfl)))
def Jk:List eZ:=Ov::Je
theorem QA (L:List Int):∀e∈Jk,fo aa (eO L) e:=iJ aaU (KE L)
def N9:eZ:=⟨122,[none,none],[.a 2],5⟩
theorem aaE:fo aa (eO []) N9:=iH 2 rfl<|fun a0 a1=>iM (es:=Jk) (.agg ⟨[num (Dw a0 a1),num (Dx a0 a1)]⟩) (by kernel_rfl) [var 0,var 1] (by kernel_rfl) (fD (QA _) (by kernel_rfl))
def Jl:List eZ:=N9::Jk
theorem QB (L:List Int):∀e∈Jl,fo aa (eO L) e:=iJ aaE (QA L)
def Ot:eZ:=⟨145,[none,none],[.a 2],7⟩
theorem aaS:fo aa (eO []) Ot:=iH 2 rfl<|fun a0 a1=>iM (es:=Jl) (.agg ⟨[num (LB a0 a1),num (LC a0 a1)]⟩) (by kernel_rfl) [var 0,var 1] (by kernel_rfl) (fD (QB _) (by kernel_rfl))
def Jm:List eZ:=Ot::Jl
theorem QC (L:List Int):∀e∈Jm,fo aa (eO L) e:=iJ aaS (QB L)
def NA:eZ:=⟨100,[none],[.a 2],9⟩
theorem aah:fo aa (eO []) NA:=iH 1 rfl<|fun a0=>iM (es:=Jm) (.agg ⟨[num (Dr a0),num (Dt a0)]⟩) (by kernel_rfl) [var 0] (by kernel_rfl) (fD (QC _) (by kernel_rfl))
def Jn:List eZ:=NA::Jm
theorem KF (L:List Int):∀e∈Jn,fo aa (eO L) e:=iJ aah (QC L)
def NU:eZ:=⟨135,[some 2,some 2],[.a 2],11⟩
theorem aax:fo aa (eO []) NU:=iH 4 rfl<|fun a0 a1 a2 a3=>iM (es:=Jn) (.agg ⟨[num (eu a0 a1 a2 a3),num (fI a0 a1 a2 a3)]⟩) (by kernel_rfl) [.agg ⟨vs 0 2⟩,.agg ⟨vs 2 2⟩] (by kernel_rfl) (iD (mB 1004 [var 0,var 1,var 2,var 3]) (qB a0 a1 a2 a3) (by kernel_rfl)
  (fun c0=>fD (KF _) (by simp only [eu,fI,c0,cond_true]; kernel_rfl))
  (fun c0=>fD (KF _) (by simp only [eu,fI,c0,cond_false]; kernel_rfl)))
def Jo:List eZ:=NU::Jn
theorem KG (L:List Int):∀e∈Jo,fo aa (eO L) e:=iJ aax (KF L)
def NZ:eZ:=⟨154,[some 2],[.a 2],13⟩
theorem aaB:fo aa (eO []) NZ:=iH 2 rfl<|fun a0 a1=>iM (es:=Jo) (.agg ⟨[num (wZ a0 a1),num (xe a0 a1)]⟩) (by kernel_rfl) [.agg ⟨vs 0 2⟩] (by kernel_rfl) (iD (mB 1003 [var 0,var 1]) (fC a0 a1) (by kernel_rfl)
  (fun c0=>fD (KG _) (by simp only [wZ,xe,c0,cond_true]; kernel_rfl))
  (fun c0=>fD (KG _) (by simp only [wZ,xe,c0,cond_false]; kernel_rfl)))
def Iy:List eZ:=NZ::Jo
theorem Kz (L:List Int):∀e∈Iy,fo aa (eO L) e:=iJ aaB (KG L)
def NY:eZ:=⟨136,[some 2,some 2],[.a 2],15⟩
theorem aaA:fo aa (eO []) NY:=iH 4 rfl<|fun a0 a1 a2 a3=>iM (es:=Iy) (.agg ⟨[num (dV a0 a1 a2 a3),num (dW a0 a1 a2 a3)]⟩) (by kernel_rfl) [.agg ⟨vs 0 2⟩,.agg ⟨vs 2 2⟩] (by kernel_rfl) (iD (mB 1004 [var 0,var 1,var 2,var 3]) (qB a0 a1 a2 a3) (by kernel_rfl)
  (fun c0=>fD (Kz _) (by simp only [dV,dW,c0,cond_true]; kernel_rfl))
  (fun c0=>fD (Kz _) (by simp only [dV,dW,c0,cond_false]; kernel_rfl)))
def Iz:List eZ:=NY::Iy
theorem KA (L:List Int):∀e∈Iz,fo aa (eO L) e:=iJ aaA (Kz L)
def NW:eZ:=⟨159,[some 2,some 2],[.a 2],17⟩
theorem aaz:fo aa (eO []) NW:=iH 4 rfl<|fun a0 a1 a2 a3=>iM (es:=Iz) (.agg ⟨[num (jN a0 a1 a2 a3),num (jO a0 a1 a2 a3)]⟩) (by kernel_rfl) [.agg ⟨vs 0 2⟩,.agg ⟨vs 2 2⟩] (by kernel_rfl) (iD (mB 1004 [var 0,var 1,var 2,var 3]) (qB a0 a1 a2 a3) (by kernel_rfl)
  (fun c0=>fD (KA _) (by simp only [jN,jO,c0,cond_true]; kernel_rfl))
  (fun c0=>fD (KA _) (by simp only [jN,jO,c0,cond_false]; kernel_rfl)))
def IA:List eZ:=NW::Iz
theorem Fv (L:List Int):∀e∈IA,fo aa (eO L) e:=iJ aaz (KA L)
def NV:eZ:=⟨163,[some 2,none],[.b],19⟩
theorem aay:fo aa (eO []) NV:=iH 3 rfl<|fun a0 a1 a2=>iM (es:=IA) (.bool (BA a0 a1 a2)) (by kernel_rfl) [.agg ⟨vs 0 2⟩,var 2] (by kernel_rfl) (iD (mB 1003 [var 0,var 1]) (fC a0 a1) (by kernel_rfl)
  (fun c0=>iD (mB 21 [var 0,var 2]) (decide (a0≤a2)) (by kernel_rfl)
 (fun c1=>fD (Fv _) (by simp only [BA,c0,c1,cond_true]; kernel_rfl))
 (fun c1=>fD (Fv _) (by simp only [BA,c0,c1,cond_false,cond_true]; kernel_rfl)))
  (fun c0=>fD (Fv _) (by simp only [BA,c0,cond_false]; kernel_rfl)))
def IB:List eZ:=NV::IA
theorem Fw (L:List Int):∀e∈IB,fo aa (eO L) e:=iJ aay (Fv L)
def N8:eZ:=⟨95,[some 2,some 2],[.b],20⟩
theorem aaD:fo aa (eO []) N8:=iH 4 rfl<|fun a0 a1 a2 a3=>iM (es:=IB) (.bool (ou a0 a1 a2 a3)) (by kernel_rfl) [.agg ⟨vs 0 2⟩,.agg ⟨vs 2 2⟩] (by kernel_rfl) (iD (mB 1004 [var 0,var 1,var 2,var 3]) (qB a0 a1 a2 a3) (by kernel_rfl)
  (fun c0=>iD (mB 21 [var 2,var 0]) (decide (a2≤a0)) (by kernel_rfl)
 (fun c1=>fD (Fw _) (by simp only [ou,c0,c1,cond_true]; kernel_rfl))
 (fun c1=>fD (Fw _) (by simp only [ou,c0,c1,cond_false,cond_true]; kernel_rfl)))
  (fun c0=>fD (Fw _) (by simp only [ou,c0,cond_false]; kernel_rfl)))
def IC:List eZ:=N8::IB
theorem KC (L:List Int):∀e∈IC,fo aa (eO L) e:=iJ aaD (Fw L)
def N7:eZ:=⟨158,[some 2],[.i],21⟩
theorem aaC:fo aa (eO []) N7:=iH 2 rfl<|fun a0 a1=>iM (es:=IC) (num (vY a0 a1)) (by kernel_rfl) [.agg ⟨vs 0 2⟩] (by kernel_rfl) (iD (mB 1003 [var 0,var 1]) (fC a0 a1) (by kernel_rfl)
  (fun c0=>fD (KC _) (by simp only [vY,c0,cond_true]; kernel_rfl))
  (fun c0=>fD (KC _) (by simp only [vY,c0,cond_false]; kernel_rfl)))
def IE:List eZ:=N7::IC
theorem Qd (L:List Int):∀e∈IE,fo aa (eO L) e:=iJ aaC (KC L)
def Oq:eZ:=⟨166,[none],[.a 11,.a 11],22⟩
theorem aaR:fo aa (eO []) Oq:=iH 1 rfl<|fun a0=>iM (es:=IE) (.tuple ⟨[.agg ⟨[num (Um a0),num (Gh a0),num (Gs a0),num (Gv a0),num (Gw a0),num (Gx a0),num (Gy a0),num (Gz a0),num (GA a0),num (Uq a0),num (Un a0)]⟩,.agg ⟨[num (Uo a0),num (Gi a0),num (Gj a0),num (Gl a0),num (Gm a0),num (Gn a0),num (Gp a0),num (Gq a0),num (Gr a0),num (Gt a0),num (Gu a0)]⟩]⟩) (by kernel_rfl) [var 0] (by kernel_rfl) (fD (Qd _) (by kernel_rfl))
def IG:List eZ:=Oq::IE
theorem Qe (L:List Int):∀e∈IG,fo aa (eO L) e:=iJ aaR (Qd L)
def NR:eZ:=⟨169,[none,none],[.a 2],44⟩
theorem aav:fo aa (eO []) NR:=iH 2 rfl<|fun a0 a1=>iM (es:=IG) (.agg ⟨[num (F8 a0 a1),num (F9 a0 a1)]⟩) (by kernel_rfl) [var 0,var 1] (by kernel_rfl) (fD (Qe _) (by kernel_rfl))
def II:List eZ:=NR::IG
theorem Qf (L:List Int):∀e∈II,fo aa (eO L) e:=iJ aav (Qe L)
def Ou:eZ:=⟨164,[none],[.a 2],46⟩
theorem aaT:fo aa (eO []) Ou:=iH 1 rfl<|fun a0=>iM (es:=II) (.agg ⟨[num (LD a0),num (LF a0)]⟩) (by kernel_rfl) [var 0] (by kernel_rfl) (fD (Qf _) (by kernel_rfl))
def IJ:List eZ:=Ou::II
theorem Qg (L:List Int):∀e∈IJ,fo aa (eO L) e:=iJ aaT (Qf L)
def NH:eZ:=⟨165,[none],[.a 2],48⟩
theorem aan:fo aa (eO []) NH:=iH 1 rfl<|fun a0=>iM (es:=IJ) (.agg ⟨[num (K8 a0),num (La a0)]⟩) (by kernel_rfl) [var 0] (by kernel_rfl) (fD (Qg _) (by kernel_rfl))
def IK:List eZ:=NH::IJ
theorem KD (L:List Int):∀e∈IK,fo aa (eO L) e:=iJ aan (Qg L)
def NS:eZ:=⟨162,[none],[.a 2],50⟩
theorem aaw:fo aa (eO []) NS:=iH 1 rfl<|fun a0=>iM (es:=IK) (.agg ⟨[num (vW a0),num (vX a0)]⟩) (by kernel_rfl) [var 0] (by kernel_rfl) (iD (mB 21 [var 0,.int .i64 (8192)]) (decide (a0≤8192)) (by kernel_rfl)
  (fun c0=>fD (KD _) (by simp only [vW,vX,c0,cond_true]; kernel_rfl))
  (fun c0=>fD (KD _) (by simp only [vW,vX,c0,cond_false]; kernel_rfl)))
def IL:List eZ:=NS::IK
theorem Qi (L:List Int):∀e∈IL,fo aa (eO L) e:=iJ aaw (KD L)
def Oj:eZ:=⟨161,[none],[.i],52⟩
theorem aaN:fo aa (eO []) Oj:=iH 1 rfl<|fun a0=>iM (es:=IL) (num (kH a0)) (by kernel_rfl) [var 0] (by kernel_rfl) (fD (Qi _) (by kernel_rfl))
def IM:List eZ:=Oj::IL
theorem Dj (L:List Int):∀e∈IM,fo aa (eO L) e:=iJ aaN (Qi L)
def ND:eZ:=⟨157,[none],[.a 2],53⟩
theorem aak:fo aa (eO []) ND:=iH 1 rfl<|fun a0=>iM (es:=IM) (.agg ⟨[num (iQ a0),num (iR a0)]⟩) (by kernel_rfl) [var 0] (by kernel_rfl) (iD (mB 24 [mI 5 [mI 1052 [var 0],.int .i64 (16384)],.int .i64 (0)]) ((wr (dC (kH a0) 16384))==0) (by kernel_rfl)
  (fun c0=>fD (Dj _) (by simp only [iQ,iR,c0,cond_true]; kernel_rfl))
  (fun c0=>iD (mB 24 [mI 5 [mI 1052 [var 0],.int .i64 (16384)],.int .i64 (1)]) ((wr (dC (kH a0) 16384))==1) (by kernel_rfl)
 (fun c1=>fD (Dj _) (by simp only [iQ,iR,c0,c1,cond_false,cond_true]; kernel_rfl))
 (fun c1=>iD (mB 24 [mI 5 [mI 1052 [var 0],.int .i64 (16384)],.int .i64 (2)]) ((wr (dC (kH a0) 16384))==2) (by kernel_rfl)
   (fun c2=>fD (Dj _) (by simp only [iQ,iR,c0,c1,c2,cond_false,cond_true]; kernel_rfl))
   (fun c2=>fD (Dj _) (by simp only [iQ,iR,c0,c1,c2,cond_false]; kernel_rfl)))))
def IP:List eZ:=ND::IM
theorem Qj (L:List Int):∀e∈IP,fo aa (eO L) e:=iJ aak (Dj L)
def Nw:eZ:=⟨156,[none],[.a 2],55⟩
theorem aae:fo aa (eO []) Nw:=iH 1 rfl<|fun a0=>iM (es:=IP) (.agg ⟨[num (jh a0),num (ji a0)]⟩) (by kernel_rfl) [var 0] (by kernel_rfl) (fD (Qj _) (by kernel_rfl))
def ajv:List eZ:=Nw::IP
theorem Qk (L:List Int):∀e∈ajv,fo aa (eO L) e:=iJ aae (Qj L)
def Oi:eZ:=⟨160,[some 2,none],[.b],57⟩
theorem aaM:fo aa (eO []) Oi:=iH 3 rfl<|fun a0 a1 a2=>iM (es:=ajv) (.bool (mW a0 a1 a2)) (by kernel_rfl) [.agg ⟨vs 0 2⟩,var 2] (by kernel_rfl) (fD (Qk _) (by kernel_rfl))
def IU:List eZ:=Oi::ajv
theorem zK (L:List Int):∀e∈IU,fo aa (eO L) e:=iJ aaM (Qk L)
def NF:eZ:=⟨153,[some 2],[.a 2],58⟩
theorem aal:fo aa (eO []) NF:=iH 2 rfl<|fun a0 a1=>iM (es:=IU) (.agg ⟨[num (afn a0 a1),num (pU a0 a1)]⟩) (by kernel_rfl) [.agg ⟨vs 0 2⟩] (by kernel_rfl) (iD (mB 1003 [var 0,var 1]) (fC a0 a1) (by kernel_rfl)
  (fun c0=>iD (mB 23 [mI 1021 [var 0,var 1],.int .i64 (65536)]) (decide (65536≤(vY a0 a1))) (by kernel_rfl)
 (fun c1=>fD (zK _) (by simp only [afn,pU,c0,c1,cond_true]; kernel_rfl))
 (fun c1=>iD (mB 1057 [var 0,var 1,.int .i64 (16384)]) (mW a0 a1 16384) (by kernel_rfl)
   (fun c2=>iD (mB 1057 [var 0,var 1,.int .i64 (49152)]) (mW a0 a1 49152) (by kernel_rfl)
  (fun c3=>fD (zK _) (by simp only [afn,pU,c0,c1,c2,c3,cond_false,cond_true]; kernel_rfl))
  (fun c3=>fD (zK _) (by simp only [afn,pU,c0,c1,c2,c3,cond_false,cond_true]; kernel_rfl)))
   (fun c2=>iD (mB 1057 [var 0,var 1,.int .i64 (49152)]) (mW a0 a1 49152) (by kernel_rfl)
  (fun c3=>fD (zK _) (by simp only [afn,pU,c0,c1,c2,c3,cond_false,cond_true]; kernel_rfl))
  (fun c3=>fD (zK _) (by simp only [afn,pU,c0,c1,c2,c3,cond_false,cond_true]; kernel_rfl)))))
  (fun c0=>fD (zK _) (by simp only [afn,pU,c0,cond_false]; kernel_rfl)))
def IV:List eZ:=NF::IU
theorem zL (L:List Int):∀e∈IV,fo aa (eO L) e:=iJ aal (zK L)
def Ny:eZ:=⟨152,[some 2],[.a 2],60⟩
theorem aaf:fo aa (eO []) Ny:=iH 2 rfl<|fun a0 a1=>iM (es:=IV) (.agg ⟨[num (rP a0 a1),num (rQ a0 a1)]⟩) (by kernel_rfl) [.agg ⟨vs 0 2⟩] (by kernel_rfl) (iD (mB 1003 [var 0,var 1]) (fC a0 a1) (by kernel_rfl)
  (fun c0=>iD (mB 23 [mI 1021 [var 0,var 1],.int .i64 (65536)]) (decide (65536≤(vY a0 a1))) (by kernel_rfl)
 (fun c1=>fD (zL _) (by simp only [rP,rQ,c0,c1,cond_true]; kernel_rfl))
 (fun c1=>iD (mB 1057 [var 0,var 1,.int .i64 (0)]) (mW a0 a1 0) (by kernel_rfl)
   (fun c2=>iD (mB 1057 [var 0,var 1,.int .i64 (32768)]) (mW a0 a1 32768) (by kernel_rfl)
  (fun c3=>fD (zL _) (by simp only [rP,rQ,c0,c1,c2,c3,cond_false,cond_true]; kernel_rfl))
  (fun c3=>fD (zL _) (by simp only [rP,rQ,c0,c1,c2,c3,cond_false,cond_true]; kernel_rfl)))
   (fun c2=>iD (mB 1057 [var 0,var 1,.int .i64 (32768)]) (mW a0 a1 32768) (by kernel_rfl)
  (fun c3=>fD (zL _) (by simp only [rP,rQ,c0,c1,c2,c3,cond_false,cond_true]; kernel_rfl))
  (fun c3=>fD (zL _) (by simp only [rP,rQ,c0,c1,c2,c3,cond_false,cond_true]; kernel_rfl)))))
  (fun c0=>fD (zL _) (by simp only [rP,rQ,c0,cond_false]; kernel_rfl)))
def IW:List eZ:=Ny::IV
theorem Ql (L:List Int):∀e∈IW,fo aa (eO L) e:=iJ aaf (zL L)
def Og:eZ:=⟨72,[some 3],[.a 6],62⟩
theorem aaK:fo aa (eO []) Og:=iH 3 rfl<|fun a0 a1 a2=>iM (es:=IW) (.agg ⟨[num (RG a0 a1 a2),num (RH a0 a1 a2),num (RJ a0 a1 a2),num (RL a0 a1 a2),num (RN a0 a1 a2),num (RO a0 a1 a2)]⟩) (by kernel_rfl) [.agg ⟨vs 0 3⟩] (by kernel_rfl) (fD (Ql _) (by kernel_rfl))
def ahD:List eZ:=Og::IW
theorem Qm (L:List Int):∀e∈ahD,fo aa (eO L) e:=iJ aaK (Ql L)
def Oa:eZ:=⟨120,[some 6,some 6],[.a 6],68⟩
theorem aaF:fo aa (eO []) Oa:=iH 12 rfl<|fun a0 a1 a2 a3 a4 a5 a6 a7 a8 a9 a10 a11=>iM (es:=ahD) (.agg ⟨[num (Ga a0 a1 a2 a3 a4 a5 a6 a7 a8 a9 a10 a11),num (Gb a0 a1 a2 a3 a4 a5 a6 a7 a8 a9 a10 a11),num (Gc a0 a1 a2 a3 a4 a5 a6 a7 a8 a9 a10 a11),num (Gd a0 a1 a2 a3 a4 a5 a6 a7 a8 a9 a10 a11),num (Gf a0 a1 a2 a3 a4 a5 a6 a7 a8 a9 a10 a11),num (Gg a0 a1 a2 a3 a4 a5 a6 a7 a8 a9 a10 a11)]⟩) (by kernel_rfl) [.agg ⟨vs 0 6⟩,.agg ⟨vs 6 6⟩] (by kernel_rfl) (fD (Qm _) (by kernel_rfl))
def IY:List eZ:=Oa::ahD
theorem Qn (L:List Int):∀e∈IY,fo aa (eO L) e:=iJ aaF (Qm L)
def Od:eZ:=⟨140,[],[.a 18],74⟩
theorem aaI:fo aa (eO []) Od:=iH 0 rfl<|iM (es:=IY) (.agg ⟨[num Rk,num Rl,num Rv,num Rw,num Rx,num Ry,num Rz,num RA,num RD,num RF,num Rm,num Rn,num Ro,num Rp,num Rq,num Rs,num Rt,num Ru]⟩) (by kernel_rfl) [] (by kernel_rfl) (fD (Qn _) (by kernel_rfl))
def IZ:List eZ:=Od::IY
theorem Bg (L:List Int):∀e∈IZ,fo aa (eO L) e:=iJ aaI (Qn L)
def Oh:eZ:=⟨150,[none,some 2],[.a 18],92⟩
theorem aaL:fo aa (eO []) Oh:=iH 3 rfl<|fun a0 a1 a2=>iM (es:=IZ) (.agg ⟨[num (yD a0 a1 a2),num (yE a0 a1 a2),num (yN a0 a1 a2),num (yO a0 a1 a2),num (yP a0 a1 a2),num (yQ a0 a1 a2),num (yR a0 a1 a2),num (yS a0 a1 a2),num (yT a0 a1 a2),num (yU a0 a1 a2),num (yF a0 a1 a2),num (yG a0 a1 a2),num (yH a0 a1 a2),num (yI a0 a1 a2),num (yJ a0 a1 a2),num (yK a0 a1 a2),num (yL a0 a1 a2),num (yM a0 a1 a2)]⟩) (by kernel_rfl) [var 0,.agg ⟨vs 1 2⟩] (by kernel_rfl) (iD (mB 1003 [var 1,var 2]) (fC a1 a2) (by kernel_rfl)
  (fun c0=>iD (mB 24 [var 0,.int .i64 (0)]) (a0==0) (by kernel_rfl)
 (fun c1=>fD (Bg _) (by simp only [yD,yE,yN,yO,yP,yQ,yR,yS,yT,yU,yF,yG,yH,yI,yJ,yK,yL,yM,c0,c1,cond_true]; kernel_rfl))
 (fun c1=>iD (mB 24 [var 0,.int .i64 (1)]) (a0==1) (by kernel_rfl)
   (fun c2=>fD (Bg _) (by simp only [yD,yE,yN,yO,yP,yQ,yR,yS,yT,yU,yF,yG,yH,yI,yJ,yK,yL,yM,c0,c1,c2,cond_false,cond_true]; kernel_rfl))
   (fun c2=>iD (mB 24 [var 0,.int .i64 (2)]) (a0==2) (by kernel_rfl)
  (fun c3=>fD (Bg _) (by simp only [yD,yE,yN,yO,yP,yQ,yR,yS,yT,yU,yF,yG,yH,yI,yJ,yK,yL,yM,c0,c1,c2,c3,cond_false,cond_true]; kernel_rfl))
  (fun c3=>fD (Bg _) (by simp only [yD,yE,yN,yO,yP,yQ,yR,yS,yT,yU,yF,yG,yH,yI,yJ,yK,yL,yM,c0,c1,c2,c3,cond_false,cond_true]; kernel_rfl)))))
  (fun c0=>fD (Bg _) (by simp only [yD,yE,yN,yO,yP,yQ,yR,yS,yT,yU,yF,yG,yH,yI,yJ,yK,yL,yM,c0,cond_false]; kernel_rfl)))
def I4:List eZ:=Oh::IZ
theorem Qo (L:List Int):∀e∈I4,fo aa (eO L) e:=iJ aaL (Bg L)
def Ob:eZ:=⟨121,[some 18,some 6],[.a 6],110⟩
theorem aaG:fo aa (eO []) Ob:=iH 24 rfl<|fun a0 a1 a2 a3 a4 a5 a6 a7 a8 a9 a10 a11 a12 a13 a14 a15 a16 a17 a18 a19 a20 a21 a22 a23=>iM (es:=I4) (.agg ⟨[num (rV a0 a1 a2 a3 a4 a5 a6 a7 a8 a9 a10 a11 a12 a13 a14 a15 a16 a17 a18 a19 a20 a21 a22 a23),num (rW a0 a1 a2 a3 a4 a5 a6 a7 a8 a9 a10 a11 a12 a13 a14 a15 a16 a17 a18 a19 a20 a21 a22 a23),num (rX a0 a1 a2 a3 a4 a5 a6 a7 a8 a9 a10 a11 a12 a13 a14 a15 a16 a17 a18 a19 a20 a21 a22 a23),num (rY a0 a1 a2 a3 a4 a5 a6 a7 a8 a9 a10 a11 a12 a13 a14 a15 a16 a17 a18 a19 a20 a21 a22 a23),num (rZ a0 a1 a2 a3 a4 a5 a6 a7 a8 a9 a10 a11 a12 a13 a14 a15 a16 a17 a18 a19 a20 a21 a22 a23),num (ag9 a0 a1 a2 a3 a4 a5 a6 a7 a8 a9 a10 a11 a12 a13 a14 a15 a16 a17 a18 a19 a20 a21 a22 a23)]⟩) (by kernel_rfl) [.agg ⟨vs 0 18⟩,.agg ⟨vs 18 6⟩] (by kernel_rfl) (fD (Qo _) (by kernel_rfl))
def I5:List eZ:=Ob::I4
theorem Qp (L:List Int):∀e∈I5,fo aa (eO L) e:=iJ aaG (Qo L)
def Oe:eZ:=⟨144,[none],[.i],116⟩
theorem aaJ:fo aa (eO []) Oe:=iH 1 rfl<|fun a0=>iM (es:=I5) (num (mV a0)) (by kernel_rfl) [var 0] (by kernel_rfl) (fD (Qp _) (by kernel_rfl))
def I6:List eZ:=Oe::I5
theorem Qq (L:List Int):∀e∈I6,fo aa (eO L) e:=iJ aaJ (Qp L)
def Oc:eZ:=⟨134,[some 18,some 18],[.a 18],117⟩
theorem aaH:fo aa (eO []) Oc:=iH 36 rfl<|fun a0 a1 a2 a3 a4 a5 a6 a7 a8 a9 a10 a11 a12 a13 a14 a15 a16 a17 a18 a19 a20 a21 a22 a23 a24 a25 a26 a27 a28 a29 a30 a31 a32 a33 a34 a35=>iM (es:=I6) (.agg ⟨[num (Lb a0 a1 a2 a3 a4 a5 a6 a7 a8 a9 a10 a11 a12 a13 a14 a15 a16 a17 a18 a19 a20 a21 a22 a23 a24 a25 a26 a27 a28 a29 a30 a31 a32 a33 a34 a35),num (Lc a0 a1 a2 a3 a4 a5 a6 a7 a8 a9 a10 a11 a12 a13 a14 a15 a16 a17 a18 a19 a20 a21 a22 a23 a24 a25 a26 a27 a28 a29 a30 a31 a32 a33 a34 a35),num (Lp a0 a1 a2 a3 a4 a5 a6 a7 a8 a9 a10 a11 a12 a13 a14 a15 a16 a17 a18 a19 a20 a21 a22 a23 a24 a25 a26 a27 a28 a29 a30 a31 a32 a33 a34 a35),num (Lr a0 a1 a2 a3 a4 a5 a6 a7 a8 a9 a10 a11 a12 a13 a14 a15 a16 a17 a18 a19 a20 a21 a22 a23 a24 a25 a26 a27 a28 a29 a30 a31 a32 a33 a34 a35),num (Ls a0 a1 a2 a3 a4 a5 a6 a7 a8 a9 a10 a11 a12 a13 a14 a15 a16 a17 a18 a19 a20 a21 a22 a23 a24 a25 a26 a27 a28 a29 a30 a31 a32 a33 a34 a35),num (Lt a0 a1 a2 a3 a4 a5 a6 a7 a8 a9 a10 a11 a12 a13 a14 a15 a16 a17 a18 a19 a20 a21 a22 a23 a24 a25 a26 a27 a28 a29 a30 a31 a32 a33 a34 a35),num (Lu a0 a1 a2 a3 a4 a5 a6 a7 a8 a9 a10 a11 a12 a13 a14 a15 a16 a17 a18 a19 a20 a21 a22 a23 a24 a25 a26 a27 a28 a29 a30 a31 a32 a33 a34 a35),num (Lv a0 a1 a2 a3 a4 a5 a6 a7 a8 a9 a10 a11 a12 a13 a14 a15 a16 a17 a18 a19 a20 a21 a22 a23 a24 a25 a26 a27 a28 a29 a30 a31 a32 a33 a34 a35),num (Lx a0 a1 a2 a3 a4 a5 a6 a7 a8 a9 a10 a11 a12 a13 a14 a15 a16 a17 a18 a19 a20 a21 a22 a23 a24 a25 a26 a27 a28 a29 a30 a31 a32 a33 a34 a35),num (LA a0 a1 a2 a3 a4 a5 a6 a7 a8 a9 a10 a11 a12 a13 a14 a15 a16 a17 a18 a19 a20 a21 a22 a23 a24 a25 a26 a27 a28 a29 a30 a31 a32 a33 a34 a35),num (Ld a0 a1 a2 a3 a4 a5 a6 a7 a8 a9 a10 a11 a12 a13 a14 a15 a16 a17 a18 a19 a20 a21 a22 a23 a24 a25 a26 a27 a28 a29 a30 a31 a32 a33 a34 a35),num (Lf a0 a1 a2 a3 a4 a5 a6 a7 a8 a9 a10 a11 a12 a13 a14 a15 a16 a17 a18 a19 a20 a21 a22 a23 a24 a25 a26 a27 a28 a29 a30 a31 a32 a33 a34 a35),num (Lg a0 a1 a2 a3 a4 a5 a6 a7 a8 a9 a10 a11 a12 a13 a14 a15 a16 a17 a18 a19 a20 a21 a22 a23 a24 a25 a26 a27 a28 a29 a30 a31 a32 a33 a34 a35),num (Lh a0 a1 a2 a3 a4 a5 a6 a7 a8 a9 a10 a11 a12 a13 a14 a15 a16 a17 a18 a19 a20 a21 a22 a23 a24 a25 a26 a27 a28 a29 a30 a31 a32 a33 a34 a35),num (Li a0 a1 a2 a3 a4 a5 a6 a7 a8 a9 a10 a11 a12 a13 a14 a15 a16 a17 a18 a19 a20 a21 a22 a23 a24 a25 a26 a27 a28 a29 a30 a31 a32 a33 a34 a35),num (Lj a0 a1 a2 a3 a4 a5 a6 a7 a8 a9 a10 a11 a12 a13 a14 a15 a16 a17 a18 a19 a20 a21 a22 a23 a24 a25 a26 a27 a28 a29 a30 a31 a32 a33 a34 a35),num (Ll a0 a1 a2 a3 a4 a5 a6 a7 a8 a9 a10 a11 a12 a13 a14 a15 a16 a17 a18 a19 a20 a21 a22 a23 a24 a25 a26 a27 a28 a29 a30 a31 a32 a33 a34 a35),num (Lm a0 a1 a2 a3 a4 a5 a6 a7 a8 a9 a10 a11 a12 a13 a14 a15 a16 a17 a18 a19 a20 a21 a22 a23 a24 a25 a26 a27 a28 a29 a30 a31 a32 a33 a34 a35)]⟩) (by kernel_rfl) [.agg ⟨vs 0 18⟩,.agg ⟨vs 18 18⟩] (by kernel_rfl) (fD (Qq _) (by kernel_rfl))
def I7:List eZ:=Oc::I6
theorem Qs (L:List Int):∀e∈I7,fo aa (eO L) e:=iJ aaH (Qq L)
def Oo:eZ:=⟨132,[some 6],[.a 24],135⟩
theorem aaQ:fo aa (eO []) Oo:=iH 6 rfl<|fun a0 a1 a2 a3 a4 a5=>iM (es:=I7) (.agg ⟨[num (Tk a0 a1 a2 a3 a4 a5),num (Tm a0 a1 a2 a3 a4 a5),num (TB a0 a1 a2 a3 a4 a5),num (TG a0 a1 a2 a3 a4 a5),num (TH a0 a1 a2 a3 a4 a5),num (TI a0 a1 a2 a3 a4 a5),num (TJ a0 a1 a2 a3 a4 a5),num (TK a0 a1 a2 a3 a4 a5),num (TL a0 a1 a2 a3 a4 a5),num (TM a0 a1 a2 a3 a4 a5),num (Tn a0 a1 a2 a3 a4 a5),num (Tp a0 a1 a2 a3 a4 a5),num (Tq a0 a1 a2 a3 a4 a5),num (Tu a0 a1 a2 a3 a4 a5),num (Tv a0 a1 a2 a3 a4 a5),num (Tw a0 a1 a2 a3 a4 a5),num (Tx a0 a1 a2 a3 a4 a5),num (Ty a0 a1 a2 a3 a4 a5),num (Tz a0 a1 a2 a3 a4 a5),num (TA a0 a1 a2 a3 a4 a5),num (TC a0 a1 a2 a3 a4 a5),num (TD a0 a1 a2 a3 a4 a5),num (TE a0 a1 a2 a3 a4 a5),num (TF a0 a1 a2 a3 a4 a5)]⟩) (by kernel_rfl) [.agg ⟨vs 0 6⟩] (by kernel_rfl) (fD (Qs _) (by kernel_rfl))
def I8:List eZ:=Oo::I7
theorem Qu (L:List Int):∀e∈I8,fo aa (eO L) e:=iJ aaQ (Qs L)
def Cv:eZ:=⟨146,[none,some 2],[.a 24],159⟩
theorem Qc:fo aa (eO []) Cv:=iH 3 rfl<|fun a0 a1 a2=>iM (es:=I8) (.agg ⟨[num (TN a0 a1 a2),num (TP a0 a1 a2),num (Ua a0 a1 a2),num (Uf a0 a1 a2),num (Ug a0 a1 a2),num (Uh a0 a1 a2),num (Ui a0 a1 a2),num (Uj a0 a1 a2),num (Uk a0 a1 a2),num (Ul a0 a1 a2),num (TQ a0 a1 a2),num (TR a0 a1 a2),num (TS a0 a1 a2),num (TT a0 a1 a2),num (TU a0 a1 a2),num (TV a0 a1 a2),num (TW a0 a1 a2),num (TY a0 a1 a2),num (TZ a0 a1 a2),num (T9 a0 a1 a2),num (Ub a0 a1 a2),num (Uc a0 a1 a2),num (Ud a0 a1 a2),num (Ue a0 a1 a2)]⟩) (by kernel_rfl) [var 0,.agg ⟨vs 1 2⟩] (by kernel_rfl) (fD (Qu _) (by kernel_rfl))
def I9:List eZ:=Cv::I8
theorem Qv (L:List Int):∀e∈I9,fo aa (eO L) e:=iJ Qc (Qu L)
def Om:eZ:=⟨147,[],[.a 24],183⟩
theorem aaP:fo aa (eO []) Om:=iH 0 rfl<|iM (es:=I9) (.agg ⟨[num SB,num SC,num SV,num Tc,num Td,num Te,num Tf,num Tg,num Ti,num Tj,num SE,num SF,num SG,num SH,num SI,num SK,num SL,num SN,num SQ,num SS,num SX,num SY,num S9,num Ta]⟩) (by kernel_rfl) [] (by kernel_rfl) (fD (Qv _) (by kernel_rfl))
def Ja:List eZ:=Om::I9
theorem Qw (L:List Int):∀e∈Ja,fo aa (eO L) e:=iJ aaP (Qv L)
def Cu:eZ:=⟨118,[some 24,some 24],[.a 24],207⟩
theorem Qb:fo aa (eO []) Cu:=iH 48 rfl<|fun a0 a1 a2 a3 a4 a5 a6 a7 a8 a9 a10 a11 a12 a13 a14 a15 a16 a17 a18 a19 a20 a21 a22 a23 a24 a25 a26 a27 a28 a29 a30 a31 a32 a33 a34 a35 a36 a37 a38 a39 a40 a41 a42 a43 a44 a45 a46 a47=>iM (es:=Ja) (.agg ⟨[num (RZ a0 a1 a2 a3 a4 a5 a6 a7 a8 a9 a10 a11 a12 a13 a14 a15 a16 a17 a18 a19 a20 a21 a22 a23 a24 a25 a26 a27 a28 a29 a30 a31 a32 a33 a34 a35 a36 a37 a38 a39 a40 a41 a42 a43 a44 a45 a46 a47),num (R3 a0 a1 a2 a3 a4 a5 a6 a7 a8 a9 a10 a11 a12 a13 a14 a15 a16 a17 a18 a19 a20 a21 a22 a23 a24 a25 a26 a27 a28 a29 a30 a31 a32 a33 a34 a35 a36 a37 a38 a39 a40 a41 a42 a43 a44 a45 a46 a47),num (Sg a0 a1 a2 a3 a4 a5 a6 a7 a8 a9 a10 a11 a12 a13 a14 a15 a16 a17 a18 a19 a20 a21 a22 a23 a24 a25 a26 a27 a28 a29 a30 a31 a32 a33 a34 a35 a36 a37 a38 a39 a40 a41 a42 a43 a44 a45 a46 a47),num (Sr a0 a1 a2 a3 a4 a5 a6 a7 a8 a9 a10 a11 a12 a13 a14 a15 a16 a17 a18 a19 a20 a21 a22 a23 a24 a25 a26 a27 a28 a29 a30 a31 a32 a33 a34 a35 a36 a37 a38 a39 a40 a41 a42 a43 a44 a45 a46 a47),num (Su a0 a1 a2 a3 a4 a5 a6 a7 a8 a9 a10 a11 a12 a13 a14 a15 a16 a17 a18 a19 a20 a21 a22 a23 a24 a25 a26 a27 a28 a29 a30 a31 a32 a33 a34 a35 a36 a37 a38 a39 a40 a41 a42 a43 a44 a45 a46 a47),num (Sv a0 a1 a2 a3 a4 a5 a6 a7 a8 a9 a10 a11 a12 a13 a14 a15 a16 a17 a18 a19 a20 a21 a22 a23 a24 a25 a26 a27 a28 a29 a30 a31 a32 a33 a34 a35 a36 a37 a38 a39 a40 a41 a42 a43 a44 a45 a46 a47),num (Sw a0 a1 a2 a3 a4 a5 a6 a7 a8 a9 a10 a11 a12 a13 a14 a15 a16 a17 a18 a19 a20 a21 a22 a23 a24 a25 a26 a27 a28 a29 a30 a31 a32 a33 a34 a35 a36 a37 a38 a39 a40 a41 a42 a43 a44 a45 a46 a47),num (Sy a0 a1 a2 a3 a4 a5 a6 a7 a8 a9 a10 a11 a12 a13 a14 a15 a16 a17 a18 a19 a20 a21 a22 a23 a24 a25 a26 a27 a28 a29 a30 a31 a32 a33 a34 a35 a36 a37 a38 a39 a40 a41 a42 a43 a44 a45 a46 a47),num (Sz a0 a1 a2 a3 a4 a5 a6 a7 a8 a9 a10 a11 a12 a13 a14 a15 a16 a17 a18 a19 a20 a21 a22 a23 a24 a25 a26 a27 a28 a29 a30 a31 a32 a33 a34 a35 a36 a37 a38 a39 a40 a41 a42 a43 a44 a45 a46 a47),num (SA a0 a1 a2 a3 a4 a5 a6 a7 a8 a9 a10 a11 a12 a13 a14 a15 a16 a17 a18 a19 a20 a21 a22 a23 a24 a25 a26 a27 a28 a29 a30 a31 a32 a33 a34 a35 a36 a37 a38 a39 a40 a41 a42 a43 a44 a45 a46 a47),num (R4 a0 a1 a2 a3 a4 a5 a6 a7 a8 a9 a10 a11 a12 a13 a14 a15 a16 a17 a18 a19 a20 a21 a22 a23 a24 a25 a26 a27 a28 a29 a30 a31 a32 a33 a34 a35 a36 a37 a38 a39 a40 a41 a42 a43 a44 a45 a46 a47),num (R5 a0 a1 a2 a3 a4 a5 a6 a7 a8 a9 a10 a11 a12 a13 a14 a15 a16 a17 a18 a19 a20 a21 a22 a23 a24 a25 a26 a27 a28 a29 a30 a31 a32 a33 a34 a35 a36 a37 a38 a39 a40 a41 a42 a43 a44 a45 a46 a47),num (R6 a0 a1 a2 a3 a4 a5 a6 a7 a8 a9 a10 a11 a12 a13 a14 a15 a16 a17 a18 a19 a20 a21 a22 a23 a24 a25 a26 a27 a28 a29 a30 a31 a32 a33 a34 a35 a36 a37 a38 a39 a40 a41 a42 a43 a44 a45 a46 a47),num (R7 a0 a1 a2 a3 a4 a5 a6 a7 a8 a9 a10 a11 a12 a13 a14 a15 a16 a17 a18 a19 a20 a21 a22 a23 a24 a25 a26 a27 a28 a29 a30 a31 a32 a33 a34 a35 a36 a37 a38 a39 a40 a41 a42 a43 a44 a45 a46 a47),num (R8 a0 a1 a2 a3 a4 a5 a6 a7 a8 a9 a10 a11 a12 a13 a14 a15 a16 a17 a18 a19 a20 a21 a22 a23 a24 a25 a26 a27 a28 a29 a30 a31 a32 a33 a34 a35 a36 a37 a38 a39 a40 a41 a42 a43 a44 a45 a46 a47),num (R9 a0 a1 a2 a3 a4 a5 a6 a7 a8 a9 a10 a11 a12 a13 a14 a15 a16 a17 a18 a19 a20 a21 a22 a23 a24 a25 a26 a27 a28 a29 a30 a31 a32 a33 a34 a35 a36 a37 a38 a39 a40 a41 a42 a43 a44 a45 a46 a47),num (Sa a0 a1 a2 a3 a4 a5 a6 a7 a8 a9 a10 a11 a12 a13 a14 a15 a16 a17 a18 a19 a20 a21 a22 a23 a24 a25 a26 a27 a28 a29 a30 a31 a32 a33 a34 a35 a36 a37 a38 a39 a40 a41 a42 a43 a44 a45 a46 a47),num (alm a0 a1 a2 a3 a4 a5 a6 a7 a8 a9 a10 a11 a12 a13 a14 a15 a16 a17 a18 a19 a20 a21 a22 a23 a24 a25 a26 a27 a28 a29 a30 a31 a32 a33 a34 a35 a36 a37 a38 a39 a40 a41 a42 a43 a44 a45 a46 a47),num (Sc a0 a1 a2 a3 a4 a5 a6 a7 a8 a9 a10 a11 a12 a13 a14 a15 a16 a17 a18 a19 a20 a21 a22 a23 a24 a25 a26 a27 a28 a29 a30 a31 a32 a33 a34 a35 a36 a37 a38 a39 a40 a41 a42 a43 a44 a45 a46 a47),num (Sd a0 a1 a2 a3 a4 a5 a6 a7 a8 a9 a10 a11 a12 a13 a14 a15 a16 a17 a18 a19 a20 a21 a22 a23 a24 a25 a26 a27 a28 a29 a30 a31 a32 a33 a34 a35 a36 a37 a38 a39 a40 a41 a42 a43 a44 a45 a46 a47),num (Si a0 a1 a2 a3 a4 a5 a6 a7 a8 a9 a10 a11 a12 a13 a14 a15 a16 a17 a18 a19 a20 a21 a22 a23 a24 a25 a26 a27 a28 a29 a30 a31 a32 a33 a34 a35 a36 a37 a38 a39 a40 a41 a42 a43 a44 a45 a46 a47),num (Sj a0 a1 a2 a3 a4 a5 a6 a7 a8 a9 a10 a11 a12 a13 a14 a15 a16 a17 a18 a19 a20 a21 a22 a23 a24 a25 a26 a27 a28 a29 a30 a31 a32 a33 a34 a35 a36 a37 a38 a39 a40 a41 a42 a43 a44 a45 a46 a47),num (Sk a0 a1 a2 a3 a4 a5 a6 a7 a8 a9 a10 a11 a12 a13 a14 a15 a16 a17 a18 a19 a20 a21 a22 a23 a24 a25 a26 a27 a28 a29 a30 a31 a32 a33 a34 a35 a36 a37 a38 a39 a40 a41 a42 a43 a44 a45 a46 a47),num (Sn a0 a1 a2 a3 a4 a5 a6 a7 a8 a9 a10 a11 a12 a13 a14 a15 a16 a17 a18 a19 a20 a21 a22 a23 a24 a25 a26 a27 a28 a29 a30 a31 a32 a33 a34 a35 a36 a37 a38 a39 a40 a41 a42 a43 a44 a45 a46 a47)]⟩) (by kernel_rfl) [.agg ⟨vs 0 24⟩,.agg ⟨vs 24 24⟩] (by kernel_rfl) (fD (Qw _) (by kernel_rfl))
def Jb:List eZ:=Cu::Ja
theorem Qx (L:List Int):∀e∈Jb,fo aa (eO L) e:=iJ Qb (Qw L)
def Ol:eZ:=⟨71,[some 24,some 6],[.a 6],231⟩
theorem aaO:fo aa (eO []) Ol:=iH 30 rfl<|fun a0 a1 a2 a3 a4 a5 a6 a7 a8 a9 a10 a11 a12 a13 a14 a15 a16 a17 a18 a19 a20 a21 a22 a23 a24 a25 a26 a27 a28 a29=>iM (es:=Jb) (.agg ⟨[num (RQ a0 a1 a2 a3 a4 a5 a6 a7 a8 a9 a10 a11 a12 a13 a14 a15 a16 a17 a18 a19 a20 a21 a22 a23 a24 a25 a26 a27 a28 a29),num (RS a0 a1 a2 a3 a4 a5 a6 a7 a8 a9 a10 a11 a12 a13 a14 a15 a16 a17 a18 a19 a20 a21 a22 a23 a24 a25 a26 a27 a28 a29),num (RU a0 a1 a2 a3 a4 a5 a6 a7 a8 a9 a10 a11 a12 a13 a14 a15 a16 a17 a18 a19 a20 a21 a22 a23 a24 a25 a26 a27 a28 a29),num (RV a0 a1 a2 a3 a4 a5 a6 a7 a8 a9 a10 a11 a12 a13 a14 a15 a16 a17 a18 a19 a20 a21 a22 a23 a24 a25 a26 a27 a28 a29),num (RX a0 a1 a2 a3 a4 a5 a6 a7 a8 a9 a10 a11 a12 a13 a14 a15 a16 a17 a18 a19 a20 a21 a22 a23 a24 a25 a26 a27 a28 a29),num (RY a0 a1 a2 a3 a4 a5 a6 a7 a8 a9 a10 a11 a12 a13 a14 a15 a16 a17 a18 a19 a20 a21 a22 a23 a24 a25 a26 a27 a28 a29)]⟩) (by kernel_rfl) [.agg ⟨vs 0 24⟩,.agg ⟨vs 24 6⟩] (by kernel_rfl) (fD (Qx _) (by kernel_rfl))
def Jc:List eZ:=Ol::Jb
theorem Fy (L:List Int):∀e∈Jc,fo aa (eO L) e:=iJ aaO (Qx L)
def NP:eZ:=⟨30,[some 2],[.b],237⟩
theorem aat:fo aa (eO []) NP:=iH 2 rfl<|fun a0 a1=>iM (es:=Jc) (.bool (pW a0 a1)) (by kernel_rfl) [.agg ⟨vs 0 2⟩] (by kernel_rfl) (iD (mB 21 [.int .i64 (-1152921504606846976),var 0]) (decide ((-1152921504606846976)≤a0)) (by kernel_rfl)
  (fun c0=>iD (mB 21 [var 0,var 1]) (decide (a0≤a1)) (by kernel_rfl)
 (fun c1=>fD (Fy _) (by simp only [pW,c0,c1,cond_true]; kernel_rfl))
 (fun c1=>fD (Fy _) (by simp only [pW,c0,c1,cond_false,cond_true]; kernel_rfl)))
  (fun c0=>fD (Fy _) (by simp only [pW,c0,cond_false]; kernel_rfl)))
def Jd:List eZ:=NP::Jc
theorem Qy (L:List Int):∀e∈Jd,fo aa (eO L) e:=iJ aat (Fy L)
def NL:eZ:=⟨81,[some 2],[.a 2],238⟩
theorem aar:fo aa (eO []) NL:=iH 2 rfl<|fun a0 a1=>iM (es:=Jd) (.agg ⟨[num (mE a0 a1),num (mF a0 a1)]⟩) (by kernel_rfl) [.agg ⟨vs 0 2⟩] (by kernel_rfl) (fD (Qy _) (by kernel_rfl))
def Jf:List eZ:=NL::Jd
theorem Qz (L:List Int):∀e∈Jf,fo aa (eO L) e:=iJ aar (Qy L)
def NN:eZ:=⟨51,[none],[.a 2],240⟩
theorem aas:fo aa (eO []) NN:=iH 1 rfl<|fun a0=>iM (es:=Jf) (.agg ⟨[num (Du a0),num (Dv a0)]⟩) (by kernel_rfl) [var 0] (by kernel_rfl) (fD (Qz _) (by kernel_rfl))
def Jg:List eZ:=NN::Jf
theorem FC (L:List Int):∀e∈Jg,fo aa (eO L) e:=iJ aas (Qz L)
def NQ:eZ:=⟨52,[none],[.b],242⟩
theorem aau:fo aa (eO []) NQ:=iH 1 rfl<|fun a0=>iM (es:=Jg) (.bool (kG a0)) (by kernel_rfl) [var 0] (by kernel_rfl) (iD (mB 24 [var 0,.int .i64 (1)]) (a0==1) (by kernel_rfl)
  (fun c0=>fD (FC _) (by simp only [kG,c0,cond_true]; kernel_rfl))
  (fun c0=>iD (mB 24 [var 0,.int .i64 (2)]) (a0==2) (by kernel_rfl)
 (fun c1=>fD (FC _) (by simp only [kG,c0,c1,cond_false,cond_true]; kernel_rfl))
 (fun c1=>fD (FC _) (by simp only [kG,c0,c1,cond_false]; kernel_rfl))))
def Jh:List eZ:=NQ::Jg
theorem Dk (L:List Int):∀e∈Jh,fo aa (eO L) e:=iJ aau (FC L)
def NI:eZ:=⟨13,[some 2,some 2],[.a 2,.b],243⟩
theorem aao:fo aa (eO []) NI:=iH 4 rfl<|fun a0 a1 a2 a3=>iM (es:=Jh) (.tuple ⟨[.agg ⟨[num (mq a0 a1 a2 a3),num (mD a0 a1 a2 a3)]⟩,.bool (oo a0 a1 a2 a3)]⟩) (by kernel_rfl) [.agg ⟨vs 0 2⟩,.agg ⟨vs 2 2⟩] (by kernel_rfl) (iD (mB 1237 [var 0,var 1]) (pW a0 a1) (by kernel_rfl)
  (fun c0=>iD (mB 1237 [var 2,var 3]) (pW a2 a3) (by kernel_rfl)
 (fun c1=>iD (mB 1237 [mI 2 [var 0,var 2],mI 2 [var 1,var 3]]) (pW (wr (a0+a2)) (wr (a1+a3))) (by kernel_rfl)
   (fun c2=>fD (Dk _) (by simp only [mq,mD,oo,c0,c1,c2,cond_true]; kernel_rfl))
   (fun c2=>fD (Dk _) (by simp only [mq,mD,oo,c0,c1,c2,cond_false,cond_true]; kernel_rfl)))
 (fun c1=>fD (Dk _) (by simp only [mq,mD,oo,c0,c1,cond_false,cond_true]; kernel_rfl)))
  (fun c0=>fD (Dk _) (by simp only [mq,mD,oo,c0,cond_false]; kernel_rfl)))
def OA:List eZ:=NI::Jh
theorem aaV (L:List Int):∀e∈OA,fo aa (eO L) e:=iJ aao (Dk L)
def NK:eZ:=⟨12,[some 2,some 2],[.a 2,.b],246⟩
theorem aaq:fo aa (eO []) NK:=iH 4 rfl<|fun a0 a1 a2 a3=>XB (.tuple ⟨[.agg ⟨[num (iA a0 a1 a2 a3),num (iB a0 a1 a2 a3)]⟩,.bool (pV a0 a1 a2 a3)]⟩) (by kernel_rfl) fun w=>by
 obtain ⟨lo,hi,ok,h1,h2,h3,h4⟩:=En.PS a0 a1 a2 a3
 refine (h4 w).mono ?_
 rintro e w' ⟨rfl,hb⟩
 refine ⟨?_,hb⟩
 cases ok with
 | true =>
  obtain ⟨rfl,rfl⟩:=h2 rfl
  simp only [iA,iB,pV,←h1,cond_true]
  rfl
 | false =>
  obtain ⟨rfl,rfl⟩:=h3 rfl
  simp only [iA,iB,pV,←h1,cond_false]
  rfl
def Ji:List eZ:=NK::OA
theorem Bh (L:List Int):∀e∈Ji,fo aa (eO L) e:=iJ aaq (aaV L)
def NJ:eZ:=⟨70,[none,some 18],[.a 6],249⟩
theorem aap:fo aa (eO []) NJ:=iH 19 rfl<|fun a0 a1 a2 a3 a4 a5 a6 a7 a8 a9 a10 a11 a12 a13 a14 a15 a16 a17 a18=>iM (es:=Ji) (.agg ⟨[num (zP a0 a1 a2 a3 a4 a5 a6 a7 a8 a9 a10 a11 a12 a13 a14 a15 a16 a17 a18),num (zQ a0 a1 a2 a3 a4 a5 a6 a7 a8 a9 a10 a11 a12 a13 a14 a15 a16 a17 a18),num (zR a0 a1 a2 a3 a4 a5 a6 a7 a8 a9 a10 a11 a12 a13 a14 a15 a16 a17 a18),num (zS a0 a1 a2 a3 a4 a5 a6 a7 a8 a9 a10 a11 a12 a13 a14 a15 a16 a17 a18),num (zT a0 a1 a2 a3 a4 a5 a6 a7 a8 a9 a10 a11 a12 a13 a14 a15 a16 a17 a18),num (zU a0 a1 a2 a3 a4 a5 a6 a7 a8 a9 a10 a11 a12 a13 a14 a15 a16 a17 a18)]⟩) (by kernel_rfl) [var 0,.agg ⟨vs 1 18⟩] (by kernel_rfl) (iD (mB 24 [var 0,.int .i64 (2)]) (a0==2) (by kernel_rfl)
  (fun c0=>fD (Bh _) (by simp only [zP,zQ,zR,zS,zT,zU,c0,cond_true]; kernel_rfl))
  (fun c0=>iD (mB 24 [var 0,.int .i64 (5)]) (a0==5) (by kernel_rfl)
 (fun c1=>fD (Bh _) (by simp only [zP,zQ,zR,zS,zT,zU,c0,c1,cond_false,cond_true]; kernel_rfl))
 (fun c1=>iD (mB 24 [var 0,.int .i64 (3)]) (a0==3) (by kernel_rfl)
   (fun c2=>fD (Bh _) (by simp only [zP,zQ,zR,zS,zT,zU,c0,c1,c2,cond_false,cond_true]; kernel_rfl))
   (fun c2=>iD (mB 24 [var 0,.int .i64 (6)]) (a0==6) (by kernel_rfl)
  (fun c3=>fD (Bh _) (by simp only [zP,zQ,zR,zS,zT,zU,c0,c1,c2,c3,cond_false,cond_true]; kernel_rfl))
  (fun c3=>fD (Bh _) (by simp only [zP,zQ,zR,zS,zT,zU,c0,c1,c2,c3,cond_false]; kernel_rfl))))))
def Jj:List eZ:=NJ::Ji
theorem wV (L:List Int):∀e∈Jj,fo aa (eO L) e:=iJ aap (Bh L)
def Nz:eZ:=⟨19,[none,none,none],[.a 3],255⟩
theorem aag:fo aa (eO []) Nz:=iH 3 rfl<|fun a0 a1 a2=>iM (es:=Jj) (.agg ⟨[num (rR a0 a1 a2),num (rT a0 a1 a2),num (rU a0 a1 a2)]⟩) (by kernel_rfl) [var 0,var 1,var 2] (by kernel_rfl) (iD (mB 20 [mI 6 [var 0,.int .i64 (40001)],.int .i64 (0)]) (decide ((bP a0 40001)<0)) (by kernel_rfl)
  (fun c0=>iD (mB 20 [mI 6 [var 1,.int .i64 (40001)],.int .i64 (0)]) (decide ((bP a1 40001)<0)) (by kernel_rfl)
 (fun c1=>iD (mB 20 [mI 6 [var 2,.int .i64 (2097152)],.int .i64 (0)]) (decide ((bP a2 2097152)<0)) (by kernel_rfl)
   (fun c2=>fD (wV _) (by simp only [rR,rT,rU,c0,c1,c2,cond_true]; kernel_rfl))
   (fun c2=>fD (wV _) (by simp only [rR,rT,rU,c0,c1,c2,cond_false,cond_true]; kernel_rfl)))
 (fun c1=>iD (mB 20 [mI 6 [var 2,.int .i64 (2097152)],.int .i64 (0)]) (decide ((bP a2 2097152)<0)) (by kernel_rfl)
   (fun c2=>fD (wV _) (by simp only [rR,rT,rU,c0,c1,c2,cond_false,cond_true]; kernel_rfl))
   (fun c2=>fD (wV _) (by simp only [rR,rT,rU,c0,c1,c2,cond_false,cond_true]; kernel_rfl))))
  (fun c0=>iD (mB 20 [mI 6 [var 1,.int .i64 (40001)],.int .i64 (0)]) (decide ((bP a1 40001)<0)) (by kernel_rfl)
 (fun c1=>iD (mB 20 [mI 6 [var 2,.int .i64 (2097152)],.int .i64 (0)]) (decide ((bP a2 2097152)<0)) (by kernel_rfl)
   (fun c2=>fD (wV _) (by simp only [rR,rT,rU,c0,c1,c2,cond_false,cond_true]; kernel_rfl))
   (fun c2=>fD (wV _) (by simp only [rR,rT,rU,c0,c1,c2,cond_false,cond_true]; kernel_rfl)))
 (fun c1=>iD (mB 20 [mI 6 [var 2,.int .i64 (2097152)],.int .i64 (0)]) (decide ((bP a2 2097152)<0)) (by kernel_rfl)
   (fun c2=>fD (wV _) (by simp only [rR,rT,rU,c0,c1,c2,cond_false,cond_true]; kernel_rfl))
   (fun c2=>fD (wV _) (by simp only [rR,rT,rU,c0,c1,c2,cond_false]; kernel_rfl)))))
def vP:List eZ:=Nz::Jj
theorem FE (L:List Int):∀e∈vP,fo aa (eO L) e:=iJ aag (wV L)
end Go.Proofs
end
section
namespace Go.Proofs.En
open Go.RowKit Go.Sm
variable {w:World} {nc:Nat} {e:TypeId} {c:Bool}
theorem OZ (h:w.heap[nc]?=some (.cells #[.bool c] e (0,0))):w.cell? ⟨nc,0,none⟩=some (.bool c)∧w.frozen? ⟨nc,0,none⟩=false∧nc<w.heap.size:=by
 refine ⟨(cell_of_row w nc 0 _ e (0,0) h).trans rfl,?_,(aB.1 h).1⟩
 simp [ae2,h]
variable {w1 w2:World} {b:Bool}
theorem _root_.Go.Sm.jL.low (h:jL w nc e b w1) (hn:nc<w.heap.size) (hb:Below w.heap.size w1 w2):jL w nc e b w2 :=
 ⟨hb.os.trans h.os,hb.tape.trans h.tape,hb.output.trans h.output,aZ h.size hb.size,fun g hg hne=>(hb.block g hg).trans (h.frame g hg hne),(hb.block nc hn).trans h.flag⟩
theorem _root_.Go.Sm.jL.after (hb:Below w.heap.size w w1) (h:jL w1 nc e b w2):jL w nc e b w2 :=
 ⟨h.os.trans hb.os,h.tape.trans hb.tape,h.output.trans hb.output,aZ hb.size h.size,fun g hg hne=>(h.frame g (aC hg hb.size) hne).trans (hb.block g hg),h.flag⟩
theorem iw.flag {W W':World} {b:Nat} {f:Bool} {x y:Value} (h:iw W b x y) (hF:jL W nc e f W') (hne:b≠nc):iw W' b x y:=by
 have e:=hF.frame b h.lt hne
 refine ⟨?_,?_,?_,?_,aC h.lt hF.size⟩
 ·rw [←h.c0]; simp [bS,e]
 ·rw [←h.c1]; simp [bS,e]
 ·rw [←h.f0]; simp [ae2,e]
 ·rw [←h.f1]; simp [ae2,e]
theorem _root_.Go.Sm.jL.set (b:Bool) (h:w.heap[nc]?=some (.cells #[.bool c] e (0,0))):jL w nc e b (w.setCell ⟨nc,0,none⟩ (.bool b)):=by
 refine ⟨rfl,rfl,rfl,by simp [afg],fun g _ hne=>ae0 w ⟨nc,0,none⟩ _ g hne,?_⟩
 show (w.setCell ⟨nc,0,none⟩ (.bool b)).heap[nc]?=_
 have hlt:=(aB.1 h).1
 simp only [afg,Array.getElem?_modify,if_true,h,Option.map_some]
 rfl
theorem AY (nc:Nat) (e:TypeId) (lo hi:Int) (c ok:Bool) (w:World) (hw:w.heap[nc]?=some (.cells #[.bool c] e (0,0))) :
  Calls aa 89 #[.pointer (some ⟨nc,0,none⟩),.agg #[num lo,num hi],.bool ok] w fun r w'=>r=.returned (.agg #[num lo,num hi])∧jL w nc e (c||!ok) w':=by
 obtain ⟨hc,hf,hlt⟩:=OZ hw
 have HW:=aG hw
 clear hw
 have hs:∀b,(w.setCell ⟨nc,0,none⟩ (.bool b)).heap.size=w.heap.size:=fun b=>by simp [afg]
 unfold num
 cases c
 ·go_enter Tryz.func89,Tryz.ntmps89
  go_wp2
  exact bodyPost_ret (v:=.agg #[.int .i64 lo,.int .i64 hi]) (by simp [results,Tryz.results89,go_sem,hs]) rfl ⟨rfl,by simpa using jL.low (jL.set (!ok) HW.out) hlt (((aI _ _).alloc (by rw [hs]; exact au _) _).alloc (by simp [hs]) _)⟩
 ·go_enter Tryz.func89,Tryz.ntmps89
  go_wp2
  exact bodyPost_ret (v:=.agg #[.int .i64 lo,.int .i64 hi]) (by simp [results,Tryz.results89,go_sem,hs]) rfl ⟨rfl,by simpa using jL.low (jL.set true HW.out) hlt (((aI _ _).alloc (by rw [hs]; exact au _) _).alloc (by simp [hs]) _)⟩
def ma (a b n:Int):Bool:=decide (-(1152921504606846976/n)≤a)&&decide (b≤1152921504606846976/n)
def DD (a b n:Int):Int:=bif ma a b n then bg.wrap (a*n) else 0
def DC (a b n:Int):Int:=bif ma a b n then bg.wrap (b*n) else 0
theorem BL (nc:Nat) (e:TypeId) (a b n:Int) (c:Bool) (w:World) (hw:w.heap[nc]?=some (.cells #[.bool c] e (0,0))) (h1:1≤n) (h2:n≤1000000000) :
  Calls aa 79 #[.pointer (some ⟨nc,0,none⟩),.agg #[num a,num b],num n] w fun r w'=>r=.returned (.agg #[num (DD a b n),num (DC a b n)])∧jL w nc e (c||!ma a b n) w':=by
 have HW:=aG hw
 obtain ⟨hc,hf,hlt⟩:=OZ hw
 clear hw
 unfold num
 have q0:=Int.ediv_nonneg (a:=1152921504606846976) (b:=n) (by omega) (by omega)
 have q1:=Int.ediv_le_self (a:=1152921504606846976) n (by omega)
 have hq:bg.wrap (dC 1152921504606846976 n)=1152921504606846976/n:=by
  have e1:dC 1152921504606846976 n=1152921504606846976/n:=Int.tdiv_eq_ediv_of_nonneg (by omega)
  rw [e1,dz _ ⟨by omega,by omega⟩]
 have hn0:n≠0:=by omega
 have hok:ma a b n=(decide (-(1152921504606846976/n)≤a)&&decide (b≤1152921504606846976/n)):=rfl
 have hlo:DD a b n=bif ma a b n then bg.wrap (a*n) else 0:=rfl
 have hhi:DC a b n=bif ma a b n then bg.wrap (b*n) else 0:=rfl
 generalize ma a b n=k at hok hlo hhi ⊢
 generalize DD a b n=x at hlo ⊢
 generalize DC a b n=y at hhi ⊢
 generalize 1152921504606846976/n=q at hq q0 q1 hok
 have hng:bg.wrap (-q)=-q:=dz _ ⟨by omega,by omega⟩
 have HK:=aG hok
 have HX:=aG hlo
 have HY:=aG hhi
 clear hok hlo hhi
 have fin:∀W,k=false→(∃W0,jL w nc e true W0∧Below w.heap.size W0 W)→jL w nc e (c||!k) W:=fun W hk ⟨W0,h0,h1⟩=>by
  subst hk
  have:jL w nc e (c||!false) W0:=by simpa using h0
  exact this.low hlt h1
 by_cases hb:k=true
 ·subst hb
  have hk:=HK.out
  simp only [Bool.true_eq,aQ,decide_eq_true_eq] at hk
  obtain ⟨k1,k2⟩:=hk
  have d1:decide (a< -q)=false:=decide_eq_false (by omega)
  have d2:decide (q<b)=false:=decide_eq_false (by omega)
  have ex:=HX.out
  have ey:=HY.out
  simp only [cond_true] at ex ey
  subst ex ey
  go_enter Tryz.func79,Tryz.ntmps79
  go_wp2_with fail
  exact bodyPost_ret (v:=.agg #[.int .i64 (bg.wrap (a*n)),.int .i64 (bg.wrap (b*n))]) (by simp [results,Tryz.results79,go_sem]; exact ⟨(IntWalk.i64_left _).symm,(IntWalk.i64_left _).symm⟩) rfl ⟨rfl,by
   refine jL.low (w1:=w) ⟨rfl,rfl,rfl,au _,fun _ _ _=>rfl,by simpa using HW.out⟩ hlt (((aI _ _).alloc (au _) _).alloc (by simp) _)⟩
 ·have hbf:k=false:=by simpa using hb
  have ex:=HX.out
  have ey:=HY.out
  rw [hbf] at ex ey
  simp only [cond_false] at ex ey
  subst ex ey
  have hk:=HK.out
  rw [hbf] at hk
  have hd:a< -q∨(-q≤a∧q<b):=by
   by_cases h:a< -q
   ·exact .inl h
   ·refine .inr ⟨by omega,?_⟩
    by_cases h':q<b
    ·exact h'
    ·have:(decide (-q≤a)&&decide (b≤q))=true:=by simp; omega
     rw [this] at hk; cases hk
  have WB:Below w.heap.size w ((w.alloc (.cells #[.int .i64 a,.int .i64 b] 23)).alloc (.cells #[.int .i64 0,.int .i64 0] 23)):=((aI _ _).alloc (au _) _).alloc (by simp) _
  have hw1:((w.alloc (.cells #[.int .i64 a,.int .i64 b] 23)).alloc (.cells #[.int .i64 0,.int .i64 0] 23)).heap[nc]?=some (.cells #[.bool c] e (0,0)):=(WB.block nc hlt).trans HW.out
  have r6:iw ((w.alloc (.cells #[.int .i64 a,.int .i64 b] 23)).alloc (.cells #[.int .i64 0,.int .i64 0] 23)) (w.heap.size+1) (.int .i64 0) (.int .i64 0):=⟨by simp [go_sem],by simp [go_sem],by simp [go_sem],by simp [go_sem],by simp⟩
  have HWB:=aG WB
  have HW1:=aG hw1
  clear WB hw1 HK hk hb
  rcases hd with hd | ⟨hd1,hd2⟩
  ·have d1:decide (a< -q)=true:=decide_eq_true hd
   go_enter Tryz.func79,Tryz.ntmps79
   go_wp2_with fail
   refine (AY nc e 0 0 c false _ HW1.out).mono ?_
   rintro r w1 ⟨rfl,hF⟩
   have r61:=r6.flag hF (by omega)
   have hF2:=aG (jL.after HWB.out hF)
   have n6:w.heap.size≤w.heap.size+1:=by omega
   clear hF r6 HW1 HWB
   generalize w.heap.size+1=m6 at r61 n6 ⊢
   have k0:=r61.c0; have k1:=r61.c1; have k2:=r61.f0; have k3:=r61.f1; have k4:=r61.lt
   unfold num
   go_wp2
   refine bodyPost_ret (v:=.agg #[.int .i64 0,.int .i64 0]) (by simp [results,Tryz.results79,go_sem,k0,k1]) rfl ⟨rfl,?_⟩
   rw [hbf]
   exact hF2.out.low hlt (((aI _ _).setCell (p:=⟨m6,0,none⟩) n6 _).setCell (p:=⟨m6,1,none⟩) n6 _)
  ·have d1:decide (a< -q)=false:=decide_eq_false (by omega)
   have d2:decide (q<b)=true:=decide_eq_true hd2
   go_enter Tryz.func79,Tryz.ntmps79
   go_wp2_with fail
   refine (AY nc e 0 0 c false _ HW1.out).mono ?_
   rintro r w1 ⟨rfl,hF⟩
   have r61:=r6.flag hF (by omega)
   have hF2:=aG (jL.after HWB.out hF)
   have n6:w.heap.size≤w.heap.size+1:=by omega
   clear hF r6 HW1 HWB
   generalize w.heap.size+1=m6 at r61 n6 ⊢
   have k0:=r61.c0; have k1:=r61.c1; have k2:=r61.f0; have k3:=r61.f1; have k4:=r61.lt
   unfold num
   go_wp2
   refine bodyPost_ret (v:=.agg #[.int .i64 0,.int .i64 0]) (by simp [results,Tryz.results79,go_sem,k0,k1]) rfl ⟨rfl,?_⟩
   rw [hbf]
   exact hF2.out.low hlt (((aI _ _).setCell (p:=⟨m6,0,none⟩) n6 _).setCell (p:=⟨m6,1,none⟩) n6 _)
end Go.Proofs.En
end
section
namespace Go.Proofs
open Go.Sm Go.RowKit
def Iu (l:List Int) (b:Bool):Env:=⟨fun i=>l.getD i 0,fun _=>b,FN,FB,fun _=>(none,0,0),fun _=>none,[],none⟩
def mK (l:List Int) (b:Bool):Go.Sm.Xt:=⟨Tryz.xt,Iu l b,[],[23],[],[],[],[]⟩
theorem BV (l:List Int) (b:Bool):Go.Sm.kD aa (mK l b):=⟨CK,fB _,Cy _ _ _⟩
theorem aaW (L:List Int) (b:Bool):∀e∈vP,fo aa (Iu L b) e:=fun e h=>Cw (E:=eO []) (E':=Iu L b) rfl rfl (FE [] e h)
def mU (l:List Int) (b:Bool):ig:=ym 89 (vZ (mK l b) vP)
theorem Bj (l:List Int) (b:Bool):iY aa (mK l b).env (mU l b):=ES En.AY (BH (fB _) _ (aaW l b))
theorem Bl (l:List Int) (b:Bool):jc (mU l b):=ET (BI _ _)
def Aq (r:Option (Value×Hp×List Nat)):Hp:=match r with
 | some (_,_::H,_)=>H
 | _=>[]
def Ar (r:Option (Value×Hp×List Nat)):List Nat:=match r with
 | some (_,_,m)=>m
 | _=>[]
def akB (a0 a1 a2 a3:Int):Int:=(mq a0 a1 a2 a3)
def MU (a0 a1 a2 a3:Int):Int:=(mD a0 a1 a2 a3)
def wI (f:Bool) (a0 a1 a2 a3:Int):Bool:=(f||(!(oo a0 a1 a2 a3)))
theorem MW (nc:Nat) (f:Bool) (a0 a1 a2 a3:Int) (w:World) (hw:w.heap[nc]?=some (.cells #[.bool f] 88 (0,0))) :
  Calls aa 78 #[.pointer (some ⟨nc,0,none⟩),.agg #[num a0,num a1],.agg #[num a2,num a3]] w fun r w'=>r=.returned (.agg #[num (akB a0 a1 a2 a3),num (MU a0 a1 a2 a3)])∧jL w nc 88 (wI f a0 a1 a2 a3) w' :=
 BJ (X:=mK [a0,a1,a2,a3] f) Tryz.mixed Tryz.ky (BV _ _) (esc:=Tryz.esc) (fuel:=200) (n:=12) (S:=mU [a0,a1,a2,a3] f) (Bj _ _) (Bl _ _) (f:=78) (xs:=[.pointer (some ⟨0,0,none⟩),.agg ⟨[var 0,var 1]⟩,.agg ⟨[var 2,var 3]⟩]) (v:=.agg ⟨[mI 1243 [var 0,var 1,var 2,var 3],mI 1244 [var 0,var 1,var 2,var 3]]⟩) (c0:=mB 1 [.int .i64 0]) (c1:=mB 27 [mB 1 [.int .i64 (0)],mB 26 [mB 1245 [var 0,var 1,var 2,var 3]]]) (e:=88) (H':=Aq (kQ aa (mK [a0,a1,a2,a3] f) Tryz.esc 200 (mU [a0,a1,a2,a3] f) 12 78 [.pointer (some ⟨0,0,none⟩),.agg ⟨[var 0,var 1]⟩,.agg ⟨[var 2,var 3]⟩] [⟨[mB 1 [.int .i64 0]],88,0,false,true⟩])) (md:=Ar (kQ aa (mK [a0,a1,a2,a3] f) Tryz.esc 200 (mU [a0,a1,a2,a3] f) 12 78 [.pointer (some ⟨0,0,none⟩),.agg ⟨[var 0,var 1]⟩,.agg ⟨[var 2,var 3]⟩] [⟨[mB 1 [.int .i64 0]],88,0,false,true⟩])) (by kernel_rfl) nc (by kernel_rfl) (by kernel_rfl) (by kernel_rfl) (by kernel_rfl) w hw
def Nc (a0 a1 a2 a3:Int):Int:=(iA a0 a1 a2 a3)
def Nf (a0 a1 a2 a3:Int):Int:=(iB a0 a1 a2 a3)
def Co (f:Bool) (a0 a1 a2 a3:Int):Bool:=(f||(!(pV a0 a1 a2 a3)))
theorem Ei (nc:Nat) (f:Bool) (a0 a1 a2 a3:Int) (w:World) (hw:w.heap[nc]?=some (.cells #[.bool f] 88 (0,0))) :
  Calls aa 53 #[.pointer (some ⟨nc,0,none⟩),.agg #[num a0,num a1],.agg #[num a2,num a3]] w fun r w'=>r=.returned (.agg #[num (Nc a0 a1 a2 a3),num (Nf a0 a1 a2 a3)])∧jL w nc 88 (Co f a0 a1 a2 a3) w' :=
 BJ (X:=mK [a0,a1,a2,a3] f) Tryz.mixed Tryz.ky (BV _ _) (esc:=Tryz.esc) (fuel:=200) (n:=12) (S:=mU [a0,a1,a2,a3] f) (Bj _ _) (Bl _ _) (f:=53) (xs:=[.pointer (some ⟨0,0,none⟩),.agg ⟨[var 0,var 1]⟩,.agg ⟨[var 2,var 3]⟩]) (v:=.agg ⟨[mI 1246 [var 0,var 1,var 2,var 3],mI 1247 [var 0,var 1,var 2,var 3]]⟩) (c0:=mB 1 [.int .i64 0]) (c1:=mB 27 [mB 1 [.int .i64 (0)],mB 26 [mB 1248 [var 0,var 1,var 2,var 3]]]) (e:=88) (H':=Aq (kQ aa (mK [a0,a1,a2,a3] f) Tryz.esc 200 (mU [a0,a1,a2,a3] f) 12 53 [.pointer (some ⟨0,0,none⟩),.agg ⟨[var 0,var 1]⟩,.agg ⟨[var 2,var 3]⟩] [⟨[mB 1 [.int .i64 0]],88,0,false,true⟩])) (md:=Ar (kQ aa (mK [a0,a1,a2,a3] f) Tryz.esc 200 (mU [a0,a1,a2,a3] f) 12 53 [.pointer (some ⟨0,0,none⟩),.agg ⟨[var 0,var 1]⟩,.agg ⟨[var 2,var 3]⟩] [⟨[mB 1 [.int .i64 0]],88,0,false,true⟩])) (by kernel_rfl) nc (by kernel_rfl) (by kernel_rfl) (by kernel_rfl) (by kernel_rfl) w hw
def U4 (a0 a1 a2 a3 a4 a5 a6 a7 a8 a9 a10 a11:Int):Int:=(mq a0 a1 a6 a7)
def U5 (a0 a1 a2 a3 a4 a5 a6 a7 a8 a9 a10 a11:Int):Int:=(mD a0 a1 a6 a7)
def U6 (a0 a1 a2 a3 a4 a5 a6 a7 a8 a9 a10 a11:Int):Int:=(mq a2 a3 a8 a9)
def U7 (a0 a1 a2 a3 a4 a5 a6 a7 a8 a9 a10 a11:Int):Int:=(mD a2 a3 a8 a9)
def U8 (a0 a1 a2 a3 a4 a5 a6 a7 a8 a9 a10 a11:Int):Int:=(mq a4 a5 a10 a11)
def U9 (a0 a1 a2 a3 a4 a5 a6 a7 a8 a9 a10 a11:Int):Int:=(mD a4 a5 a10 a11)
def DJ (f:Bool) (a0 a1 a2 a3 a4 a5 a6 a7 a8 a9 a10 a11:Int):Bool:=(((f||(!(oo a0 a1 a6 a7)))||(!(oo a2 a3 a8 a9)))||(!(oo a4 a5 a10 a11)))
theorem GY (nc:Nat) (f:Bool) (a0 a1 a2 a3 a4 a5 a6 a7 a8 a9 a10 a11:Int) (w:World) (hw:w.heap[nc]?=some (.cells #[.bool f] 88 (0,0))) :
  Calls aa 76 #[.agg #[.pointer (some ⟨nc,0,none⟩),num a0,num a1,num a2,num a3,num a4,num a5],.agg #[.pointer (some ⟨nc,0,none⟩),num a6,num a7,num a8,num a9,num a10,num a11]] w fun r w'=>r=.returned (.agg #[.pointer (some ⟨nc,0,none⟩),num (U4 a0 a1 a2 a3 a4 a5 a6 a7 a8 a9 a10 a11),num (U5 a0 a1 a2 a3 a4 a5 a6 a7 a8 a9 a10 a11),num (U6 a0 a1 a2 a3 a4 a5 a6 a7 a8 a9 a10 a11),num (U7 a0 a1 a2 a3 a4 a5 a6 a7 a8 a9 a10 a11),num (U8 a0 a1 a2 a3 a4 a5 a6 a7 a8 a9 a10 a11),num (U9 a0 a1 a2 a3 a4 a5 a6 a7 a8 a9 a10 a11)])∧jL w nc 88 (DJ f a0 a1 a2 a3 a4 a5 a6 a7 a8 a9 a10 a11) w' :=
 BJ (X:=mK [a0,a1,a2,a3,a4,a5,a6,a7,a8,a9,a10,a11] f) Tryz.mixed Tryz.ky (BV _ _) (esc:=Tryz.esc) (fuel:=200) (n:=12) (S:=mU [a0,a1,a2,a3,a4,a5,a6,a7,a8,a9,a10,a11] f) (Bj _ _) (Bl _ _) (f:=76) (xs:=[.agg ⟨[.pointer (some ⟨0,0,none⟩),var 0,var 1,var 2,var 3,var 4,var 5]⟩,.agg ⟨[.pointer (some ⟨0,0,none⟩),var 6,var 7,var 8,var 9,var 10,var 11]⟩]) (v:=.agg ⟨[.pointer (some ⟨0,0,none⟩),mI 1243 [var 0,var 1,var 6,var 7],mI 1244 [var 0,var 1,var 6,var 7],mI 1243 [var 2,var 3,var 8,var 9],mI 1244 [var 2,var 3,var 8,var 9],mI 1243 [var 4,var 5,var 10,var 11],mI 1244 [var 4,var 5,var 10,var 11]]⟩) (c0:=mB 1 [.int .i64 0]) (c1:=mB 27 [mB 27 [mB 27 [mB 1 [.int .i64 (0)],mB 26 [mB 1245 [var 0,var 1,var 6,var 7]]],mB 26 [mB 1245 [var 2,var 3,var 8,var 9]]],mB 26 [mB 1245 [var 4,var 5,var 10,var 11]]]) (e:=88) (H':=Aq (kQ aa (mK [a0,a1,a2,a3,a4,a5,a6,a7,a8,a9,a10,a11] f) Tryz.esc 200 (mU [a0,a1,a2,a3,a4,a5,a6,a7,a8,a9,a10,a11] f) 12 76 [.agg ⟨[.pointer (some ⟨0,0,none⟩),var 0,var 1,var 2,var 3,var 4,var 5]⟩,.agg ⟨[.pointer (some ⟨0,0,none⟩),var 6,var 7,var 8,var 9,var 10,var 11]⟩] [⟨[mB 1 [.int .i64 0]],88,0,false,true⟩])) (md:=Ar (kQ aa (mK [a0,a1,a2,a3,a4,a5,a6,a7,a8,a9,a10,a11] f) Tryz.esc 200 (mU [a0,a1,a2,a3,a4,a5,a6,a7,a8,a9,a10,a11] f) 12 76 [.agg ⟨[.pointer (some ⟨0,0,none⟩),var 0,var 1,var 2,var 3,var 4,var 5]⟩,.agg ⟨[.pointer (some ⟨0,0,none⟩),var 6,var 7,var 8,var 9,var 10,var 11]⟩] [⟨[mB 1 [.int .i64 0]],88,0,false,true⟩])) (by kernel_rfl) nc (by kernel_rfl) (by kernel_rfl) (by kernel_rfl) (by kernel_rfl) w hw
def aep (a0 a1 a2 a3 a4 a5 a6 a7 a8 a9 a10 a11:Int):Int:=(mq a0 a1 (mE a6 a7) (mF a6 a7))
def aeq (a0 a1 a2 a3 a4 a5 a6 a7 a8 a9 a10 a11:Int):Int:=(mD a0 a1 (mE a6 a7) (mF a6 a7))
def aer (a0 a1 a2 a3 a4 a5 a6 a7 a8 a9 a10 a11:Int):Int:=(mq a2 a3 (mE a8 a9) (mF a8 a9))
def aes (a0 a1 a2 a3 a4 a5 a6 a7 a8 a9 a10 a11:Int):Int:=(mD a2 a3 (mE a8 a9) (mF a8 a9))
def aet (a0 a1 a2 a3 a4 a5 a6 a7 a8 a9 a10 a11:Int):Int:=(mq a4 a5 (mE a10 a11) (mF a10 a11))
def aeu (a0 a1 a2 a3 a4 a5 a6 a7 a8 a9 a10 a11:Int):Int:=(mD a4 a5 (mE a10 a11) (mF a10 a11))
def aev (f:Bool) (a0 a1 a2 a3 a4 a5 a6 a7 a8 a9 a10 a11:Int):Bool:=(((f||(!(oo a0 a1 (mE a6 a7) (mF a6 a7))))||(!(oo a2 a3 (mE a8 a9) (mF a8 a9))))||(!(oo a4 a5 (mE a10 a11) (mF a10 a11))))
def Ve (a0 a1 a2 a3 a4 a5 a6 a7:Int):Int:=(iA a0 a1 a6 a7)
def Vf (a0 a1 a2 a3 a4 a5 a6 a7:Int):Int:=(iB a0 a1 a6 a7)
def Vg (a0 a1 a2 a3 a4 a5 a6 a7:Int):Int:=(iA a2 a3 a6 a7)
def Vh (a0 a1 a2 a3 a4 a5 a6 a7:Int):Int:=(iB a2 a3 a6 a7)
def Vi (a0 a1 a2 a3 a4 a5 a6 a7:Int):Int:=(iA a4 a5 a6 a7)
def Vj (a0 a1 a2 a3 a4 a5 a6 a7:Int):Int:=(iB a4 a5 a6 a7)
def DR (f:Bool) (a0 a1 a2 a3 a4 a5 a6 a7:Int):Bool:=(((f||(!(pV a0 a1 a6 a7)))||(!(pV a2 a3 a6 a7)))||(!(pV a4 a5 a6 a7)))
theorem GZ (nc:Nat) (f:Bool) (a0 a1 a2 a3 a4 a5 a6 a7:Int) (w:World) (hw:w.heap[nc]?=some (.cells #[.bool f] 88 (0,0))) :
  Calls aa 77 #[.agg #[.pointer (some ⟨nc,0,none⟩),num a0,num a1,num a2,num a3,num a4,num a5],.agg #[num a6,num a7]] w fun r w'=>r=.returned (.agg #[.pointer (some ⟨nc,0,none⟩),num (Ve a0 a1 a2 a3 a4 a5 a6 a7),num (Vf a0 a1 a2 a3 a4 a5 a6 a7),num (Vg a0 a1 a2 a3 a4 a5 a6 a7),num (Vh a0 a1 a2 a3 a4 a5 a6 a7),num (Vi a0 a1 a2 a3 a4 a5 a6 a7),num (Vj a0 a1 a2 a3 a4 a5 a6 a7)])∧jL w nc 88 (DR f a0 a1 a2 a3 a4 a5 a6 a7) w' :=
 BJ (X:=mK [a0,a1,a2,a3,a4,a5,a6,a7] f) Tryz.mixed Tryz.ky (BV _ _) (esc:=Tryz.esc) (fuel:=200) (n:=12) (S:=mU [a0,a1,a2,a3,a4,a5,a6,a7] f) (Bj _ _) (Bl _ _) (f:=77) (xs:=[.agg ⟨[.pointer (some ⟨0,0,none⟩),var 0,var 1,var 2,var 3,var 4,var 5]⟩,.agg ⟨[var 6,var 7]⟩]) (v:=.agg ⟨[.pointer (some ⟨0,0,none⟩),mI 1246 [var 0,var 1,var 6,var 7],mI 1247 [var 0,var 1,var 6,var 7],mI 1246 [var 2,var 3,var 6,var 7],mI 1247 [var 2,var 3,var 6,var 7],mI 1246 [var 4,var 5,var 6,var 7],mI 1247 [var 4,var 5,var 6,var 7]]⟩) (c0:=mB 1 [.int .i64 0]) (c1:=mB 27 [mB 27 [mB 27 [mB 1 [.int .i64 (0)],mB 26 [mB 1248 [var 0,var 1,var 6,var 7]]],mB 26 [mB 1248 [var 2,var 3,var 6,var 7]]],mB 26 [mB 1248 [var 4,var 5,var 6,var 7]]]) (e:=88) (H':=Aq (kQ aa (mK [a0,a1,a2,a3,a4,a5,a6,a7] f) Tryz.esc 200 (mU [a0,a1,a2,a3,a4,a5,a6,a7] f) 12 77 [.agg ⟨[.pointer (some ⟨0,0,none⟩),var 0,var 1,var 2,var 3,var 4,var 5]⟩,.agg ⟨[var 6,var 7]⟩] [⟨[mB 1 [.int .i64 0]],88,0,false,true⟩])) (md:=Ar (kQ aa (mK [a0,a1,a2,a3,a4,a5,a6,a7] f) Tryz.esc 200 (mU [a0,a1,a2,a3,a4,a5,a6,a7] f) 12 77 [.agg ⟨[.pointer (some ⟨0,0,none⟩),var 0,var 1,var 2,var 3,var 4,var 5]⟩,.agg ⟨[var 6,var 7]⟩] [⟨[mB 1 [.int .i64 0]],88,0,false,true⟩])) (by kernel_rfl) nc (by kernel_rfl) (by kernel_rfl) (by kernel_rfl) (by kernel_rfl) w hw
def Mf (a0 a1 a2 a3 a4 a5 a6 a7 a8 a9 a10 a11:Int):Int:=(mq (mq (iA a0 a1 a6 a7) (iB a0 a1 a6 a7) (iA a2 a3 a8 a9) (iB a2 a3 a8 a9)) (mD (iA a0 a1 a6 a7) (iB a0 a1 a6 a7) (iA a2 a3 a8 a9) (iB a2 a3 a8 a9)) (iA a4 a5 a10 a11) (iB a4 a5 a10 a11))
def Mg (a0 a1 a2 a3 a4 a5 a6 a7 a8 a9 a10 a11:Int):Int:=(mD (mq (iA a0 a1 a6 a7) (iB a0 a1 a6 a7) (iA a2 a3 a8 a9) (iB a2 a3 a8 a9)) (mD (iA a0 a1 a6 a7) (iB a0 a1 a6 a7) (iA a2 a3 a8 a9) (iB a2 a3 a8 a9)) (iA a4 a5 a10 a11) (iB a4 a5 a10 a11))
def DI (f:Bool) (a0 a1 a2 a3 a4 a5 a6 a7 a8 a9 a10 a11:Int):Bool:=(((((f||(!(pV a0 a1 a6 a7)))||(!(pV a2 a3 a8 a9)))||(!(oo (iA a0 a1 a6 a7) (iB a0 a1 a6 a7) (iA a2 a3 a8 a9) (iB a2 a3 a8 a9))))||(!(pV a4 a5 a10 a11)))||(!(oo (mq (iA a0 a1 a6 a7) (iB a0 a1 a6 a7) (iA a2 a3 a8 a9) (iB a2 a3 a8 a9)) (mD (iA a0 a1 a6 a7) (iB a0 a1 a6 a7) (iA a2 a3 a8 a9) (iB a2 a3 a8 a9)) (iA a4 a5 a10 a11) (iB a4 a5 a10 a11))))
theorem BQ (nc:Nat) (f:Bool) (a0 a1 a2 a3 a4 a5 a6 a7 a8 a9 a10 a11:Int) (w:World) (hw:w.heap[nc]?=some (.cells #[.bool f] 88 (0,0))) :
  Calls aa 80 #[.agg #[.pointer (some ⟨nc,0,none⟩),num a0,num a1,num a2,num a3,num a4,num a5],.agg #[.pointer (some ⟨nc,0,none⟩),num a6,num a7,num a8,num a9,num a10,num a11]] w fun r w'=>r=.returned (.agg #[num (Mf a0 a1 a2 a3 a4 a5 a6 a7 a8 a9 a10 a11),num (Mg a0 a1 a2 a3 a4 a5 a6 a7 a8 a9 a10 a11)])∧jL w nc 88 (DI f a0 a1 a2 a3 a4 a5 a6 a7 a8 a9 a10 a11) w' :=
 BJ (X:=mK [a0,a1,a2,a3,a4,a5,a6,a7,a8,a9,a10,a11] f) Tryz.mixed Tryz.ky (BV _ _) (esc:=Tryz.esc) (fuel:=200) (n:=12) (S:=mU [a0,a1,a2,a3,a4,a5,a6,a7,a8,a9,a10,a11] f) (Bj _ _) (Bl _ _) (f:=80) (xs:=[.agg ⟨[.pointer (some ⟨0,0,none⟩),var 0,var 1,var 2,var 3,var 4,var 5]⟩,.agg ⟨[.pointer (some ⟨0,0,none⟩),var 6,var 7,var 8,var 9,var 10,var 11]⟩]) (v:=.agg ⟨[mI 1243 [mI 1243 [mI 1246 [var 0,var 1,var 6,var 7],mI 1247 [var 0,var 1,var 6,var 7],mI 1246 [var 2,var 3,var 8,var 9],mI 1247 [var 2,var 3,var 8,var 9]],mI 1244 [mI 1246 [var 0,var 1,var 6,var 7],mI 1247 [var 0,var 1,var 6,var 7],mI 1246 [var 2,var 3,var 8,var 9],mI 1247 [var 2,var 3,var 8,var 9]],mI 1246 [var 4,var 5,var 10,var 11],mI 1247 [var 4,var 5,var 10,var 11]],mI 1244 [mI 1243 [mI 1246 [var 0,var 1,var 6,var 7],mI 1247 [var 0,var 1,var 6,var 7],mI 1246 [var 2,var 3,var 8,var 9],mI 1247 [var 2,var 3,var 8,var 9]],mI 1244 [mI 1246 [var 0,var 1,var 6,var 7],mI 1247 [var 0,var 1,var 6,var 7],mI 1246 [var 2,var 3,var 8,var 9],mI 1247 [var 2,var 3,var 8,var 9]],mI 1246 [var 4,var 5,var 10,var 11],mI 1247 [var 4,var 5,var 10,var 11]]]⟩) (c0:=mB 1 [.int .i64 0]) (c1:=mB 27 [mB 27 [mB 27 [mB 27 [mB 27 [mB 1 [.int .i64 (0)],mB 26 [mB 1248 [var 0,var 1,var 6,var 7]]],mB 26 [mB 1248 [var 2,var 3,var 8,var 9]]],mB 26 [mB 1245 [mI 1246 [var 0,var 1,var 6,var 7],mI 1247 [var 0,var 1,var 6,var 7],mI 1246 [var 2,var 3,var 8,var 9],mI 1247 [var 2,var 3,var 8,var 9]]]],mB 26 [mB 1248 [var 4,var 5,var 10,var 11]]],mB 26 [mB 1245 [mI 1243 [mI 1246 [var 0,var 1,var 6,var 7],mI 1247 [var 0,var 1,var 6,var 7],mI 1246 [var 2,var 3,var 8,var 9],mI 1247 [var 2,var 3,var 8,var 9]],mI 1244 [mI 1246 [var 0,var 1,var 6,var 7],mI 1247 [var 0,var 1,var 6,var 7],mI 1246 [var 2,var 3,var 8,var 9],mI 1247 [var 2,var 3,var 8,var 9]],mI 1246 [var 4,var 5,var 10,var 11],mI 1247 [var 4,var 5,var 10,var 11]]]]) (e:=88) (H':=Aq (kQ aa (mK [a0,a1,a2,a3,a4,a5,a6,a7,a8,a9,a10,a11] f) Tryz.esc 200 (mU [a0,a1,a2,a3,a4,a5,a6,a7,a8,a9,a10,a11] f) 12 80 [.agg ⟨[.pointer (some ⟨0,0,none⟩),var 0,var 1,var 2,var 3,var 4,var 5]⟩,.agg ⟨[.pointer (some ⟨0,0,none⟩),var 6,var 7,var 8,var 9,var 10,var 11]⟩] [⟨[mB 1 [.int .i64 0]],88,0,false,true⟩])) (md:=Ar (kQ aa (mK [a0,a1,a2,a3,a4,a5,a6,a7,a8,a9,a10,a11] f) Tryz.esc 200 (mU [a0,a1,a2,a3,a4,a5,a6,a7,a8,a9,a10,a11] f) 12 80 [.agg ⟨[.pointer (some ⟨0,0,none⟩),var 0,var 1,var 2,var 3,var 4,var 5]⟩,.agg ⟨[.pointer (some ⟨0,0,none⟩),var 6,var 7,var 8,var 9,var 10,var 11]⟩] [⟨[mB 1 [.int .i64 0]],88,0,false,true⟩])) (by kernel_rfl) nc (by kernel_rfl) (by kernel_rfl) (by kernel_rfl) (by kernel_rfl) w hw
def UT (a0 a1 a2 a3 a4 a5 a6 a7 a8 a9 a10 a11:Int):Int:=(mq (iA a2 a3 a10 a11) (iB a2 a3 a10 a11) (mE (iA a4 a5 a8 a9) (iB a4 a5 a8 a9)) (mF (iA a4 a5 a8 a9) (iB a4 a5 a8 a9)))
def UU (a0 a1 a2 a3 a4 a5 a6 a7 a8 a9 a10 a11:Int):Int:=(mD (iA a2 a3 a10 a11) (iB a2 a3 a10 a11) (mE (iA a4 a5 a8 a9) (iB a4 a5 a8 a9)) (mF (iA a4 a5 a8 a9) (iB a4 a5 a8 a9)))
def UW (a0 a1 a2 a3 a4 a5 a6 a7 a8 a9 a10 a11:Int):Int:=(mq (iA a4 a5 a6 a7) (iB a4 a5 a6 a7) (mE (iA a0 a1 a10 a11) (iB a0 a1 a10 a11)) (mF (iA a0 a1 a10 a11) (iB a0 a1 a10 a11)))
def UX (a0 a1 a2 a3 a4 a5 a6 a7 a8 a9 a10 a11:Int):Int:=(mD (iA a4 a5 a6 a7) (iB a4 a5 a6 a7) (mE (iA a0 a1 a10 a11) (iB a0 a1 a10 a11)) (mF (iA a0 a1 a10 a11) (iB a0 a1 a10 a11)))
def UY (a0 a1 a2 a3 a4 a5 a6 a7 a8 a9 a10 a11:Int):Int:=(mq (iA a0 a1 a8 a9) (iB a0 a1 a8 a9) (mE (iA a2 a3 a6 a7) (iB a2 a3 a6 a7)) (mF (iA a2 a3 a6 a7) (iB a2 a3 a6 a7)))
def UZ (a0 a1 a2 a3 a4 a5 a6 a7 a8 a9 a10 a11:Int):Int:=(mD (iA a0 a1 a8 a9) (iB a0 a1 a8 a9) (mE (iA a2 a3 a6 a7) (iB a2 a3 a6 a7)) (mF (iA a2 a3 a6 a7) (iB a2 a3 a6 a7)))
def BP (f:Bool) (a0 a1 a2 a3 a4 a5 a6 a7 a8 a9 a10 a11:Int):Bool:=(((((((((f||(!(pV a2 a3 a10 a11)))||(!(pV a4 a5 a8 a9)))||(!(oo (iA a2 a3 a10 a11) (iB a2 a3 a10 a11) (mE (iA a4 a5 a8 a9) (iB a4 a5 a8 a9)) (mF (iA a4 a5 a8 a9) (iB a4 a5 a8 a9)))))||(!(pV a4 a5 a6 a7)))||(!(pV a0 a1 a10 a11)))||(!(oo (iA a4 a5 a6 a7) (iB a4 a5 a6 a7) (mE (iA a0 a1 a10 a11) (iB a0 a1 a10 a11)) (mF (iA a0 a1 a10 a11) (iB a0 a1 a10 a11)))))||(!(pV a0 a1 a8 a9)))||(!(pV a2 a3 a6 a7)))||(!(oo (iA a0 a1 a8 a9) (iB a0 a1 a8 a9) (mE (iA a2 a3 a6 a7) (iB a2 a3 a6 a7)) (mF (iA a2 a3 a6 a7) (iB a2 a3 a6 a7)))))
theorem alA (nc:Nat) (f:Bool) (a0 a1 a2 a3 a4 a5 a6 a7 a8 a9 a10 a11:Int) (w:World) (hw:w.heap[nc]?=some (.cells #[.bool f] 88 (0,0))) :
  Calls aa 74 #[.agg #[.pointer (some ⟨nc,0,none⟩),num a0,num a1,num a2,num a3,num a4,num a5],.agg #[.pointer (some ⟨nc,0,none⟩),num a6,num a7,num a8,num a9,num a10,num a11]] w fun r w'=>r=.returned (.agg #[.pointer (some ⟨nc,0,none⟩),num (UT a0 a1 a2 a3 a4 a5 a6 a7 a8 a9 a10 a11),num (UU a0 a1 a2 a3 a4 a5 a6 a7 a8 a9 a10 a11),num (UW a0 a1 a2 a3 a4 a5 a6 a7 a8 a9 a10 a11),num (UX a0 a1 a2 a3 a4 a5 a6 a7 a8 a9 a10 a11),num (UY a0 a1 a2 a3 a4 a5 a6 a7 a8 a9 a10 a11),num (UZ a0 a1 a2 a3 a4 a5 a6 a7 a8 a9 a10 a11)])∧jL w nc 88 (BP f a0 a1 a2 a3 a4 a5 a6 a7 a8 a9 a10 a11) w' :=
 BJ (X:=mK [a0,a1,a2,a3,a4,a5,a6,a7,a8,a9,a10,a11] f) Tryz.mixed Tryz.ky (BV _ _) (esc:=Tryz.esc) (fuel:=200) (n:=12) (S:=mU [a0,a1,a2,a3,a4,a5,a6,a7,a8,a9,a10,a11] f) (Bj _ _) (Bl _ _) (f:=74) (xs:=[.agg ⟨[.pointer (some ⟨0,0,none⟩),var 0,var 1,var 2,var 3,var 4,var 5]⟩,.agg ⟨[.pointer (some ⟨0,0,none⟩),var 6,var 7,var 8,var 9,var 10,var 11]⟩]) (v:=.agg ⟨[.pointer (some ⟨0,0,none⟩),mI 1243 [mI 1246 [var 2,var 3,var 10,var 11],mI 1247 [var 2,var 3,var 10,var 11],mI 1238 [mI 1246 [var 4,var 5,var 8,var 9],mI 1247 [var 4,var 5,var 8,var 9]],mI 1239 [mI 1246 [var 4,var 5,var 8,var 9],mI 1247 [var 4,var 5,var 8,var 9]]],mI 1244 [mI 1246 [var 2,var 3,var 10,var 11],mI 1247 [var 2,var 3,var 10,var 11],mI 1238 [mI 1246 [var 4,var 5,var 8,var 9],mI 1247 [var 4,var 5,var 8,var 9]],mI 1239 [mI 1246 [var 4,var 5,var 8,var 9],mI 1247 [var 4,var 5,var 8,var 9]]],mI 1243 [mI 1246 [var 4,var 5,var 6,var 7],mI 1247 [var 4,var 5,var 6,var 7],mI 1238 [mI 1246 [var 0,var 1,var 10,var 11],mI 1247 [var 0,var 1,var 10,var 11]],mI 1239 [mI 1246 [var 0,var 1,var 10,var 11],mI 1247 [var 0,var 1,var 10,var 11]]],mI 1244 [mI 1246 [var 4,var 5,var 6,var 7],mI 1247 [var 4,var 5,var 6,var 7],mI 1238 [mI 1246 [var 0,var 1,var 10,var 11],mI 1247 [var 0,var 1,var 10,var 11]],mI 1239 [mI 1246 [var 0,var 1,var 10,var 11],mI 1247 [var 0,var 1,var 10,var 11]]],mI 1243 [mI 1246 [var 0,var 1,var 8,var 9],mI 1247 [var 0,var 1,var 8,var 9],mI 1238 [mI 1246 [var 2,var 3,var 6,var 7],mI 1247 [var 2,var 3,var 6,var 7]],mI 1239 [mI 1246 [var 2,var 3,var 6,var 7],mI 1247 [var 2,var 3,var 6,var 7]]],mI 1244 [mI 1246 [var 0,var 1,var 8,var 9],mI 1247 [var 0,var 1,var 8,var 9],mI 1238 [mI 1246 [var 2,var 3,var 6,var 7],mI 1247 [var 2,var 3,var 6,var 7]],mI 1239 [mI 1246 [var 2,var 3,var 6,var 7],mI 1247 [var 2,var 3,var 6,var 7]]]]⟩) (c0:=mB 1 [.int .i64 0]) (c1:=mB 27 [mB 27 [mB 27 [mB 27 [mB 27 [mB 27 [mB 27 [mB 27 [mB 27 [mB 1 [.int .i64 (0)],mB 26 [mB 1248 [var 2,var 3,var 10,var 11]]],mB 26 [mB 1248 [var 4,var 5,var 8,var 9]]],mB 26 [mB 1245 [mI 1246 [var 2,var 3,var 10,var 11],mI 1247 [var 2,var 3,var 10,var 11],mI 1238 [mI 1246 [var 4,var 5,var 8,var 9],mI 1247 [var 4,var 5,var 8,var 9]],mI 1239 [mI 1246 [var 4,var 5,var 8,var 9],mI 1247 [var 4,var 5,var 8,var 9]]]]],mB 26 [mB 1248 [var 4,var 5,var 6,var 7]]],mB 26 [mB 1248 [var 0,var 1,var 10,var 11]]],mB 26 [mB 1245 [mI 1246 [var 4,var 5,var 6,var 7],mI 1247 [var 4,var 5,var 6,var 7],mI 1238 [mI 1246 [var 0,var 1,var 10,var 11],mI 1247 [var 0,var 1,var 10,var 11]],mI 1239 [mI 1246 [var 0,var 1,var 10,var 11],mI 1247 [var 0,var 1,var 10,var 11]]]]],mB 26 [mB 1248 [var 0,var 1,var 8,var 9]]],mB 26 [mB 1248 [var 2,var 3,var 6,var 7]]],mB 26 [mB 1245 [mI 1246 [var 0,var 1,var 8,var 9],mI 1247 [var 0,var 1,var 8,var 9],mI 1238 [mI 1246 [var 2,var 3,var 6,var 7],mI 1247 [var 2,var 3,var 6,var 7]],mI 1239 [mI 1246 [var 2,var 3,var 6,var 7],mI 1247 [var 2,var 3,var 6,var 7]]]]]) (e:=88) (H':=Aq (kQ aa (mK [a0,a1,a2,a3,a4,a5,a6,a7,a8,a9,a10,a11] f) Tryz.esc 200 (mU [a0,a1,a2,a3,a4,a5,a6,a7,a8,a9,a10,a11] f) 12 74 [.agg ⟨[.pointer (some ⟨0,0,none⟩),var 0,var 1,var 2,var 3,var 4,var 5]⟩,.agg ⟨[.pointer (some ⟨0,0,none⟩),var 6,var 7,var 8,var 9,var 10,var 11]⟩] [⟨[mB 1 [.int .i64 0]],88,0,false,true⟩])) (md:=Ar (kQ aa (mK [a0,a1,a2,a3,a4,a5,a6,a7,a8,a9,a10,a11] f) Tryz.esc 200 (mU [a0,a1,a2,a3,a4,a5,a6,a7,a8,a9,a10,a11] f) 12 74 [.agg ⟨[.pointer (some ⟨0,0,none⟩),var 0,var 1,var 2,var 3,var 4,var 5]⟩,.agg ⟨[.pointer (some ⟨0,0,none⟩),var 6,var 7,var 8,var 9,var 10,var 11]⟩] [⟨[mB 1 [.int .i64 0]],88,0,false,true⟩])) (by kernel_rfl) nc (by kernel_rfl) (by kernel_rfl) (by kernel_rfl) (by kernel_rfl) w hw
end Go.Proofs
end
