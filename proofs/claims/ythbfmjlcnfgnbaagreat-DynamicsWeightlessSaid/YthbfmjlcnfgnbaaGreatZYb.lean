/-
  Part of the proof: see the last text.
-/
import Derived.Test.YthbfmjlcnfgnbaaGreatZRa
import Derived.Test.YthbfmjlcnfgnbaaGreatZAwA
set_option linter.unusedVariables false
set_option maxHeartbeats 8000000
open Int renaming tdiv→dC,tmod→bP
open List renaming eq_nil_of_length_eq_zero→bR
open Nat renaming beq→ay
open Go.Proofs.Tryz renaming prog→aa
section
namespace Go.Proofs
open Go.Sm
def fe (a b:Int):Int:=(bif (decide (b<0)) then a else (Int.fdiv a (2^(min (Int.toNat b) 64))))
def eY (a b:Int):Int:=(bif (decide (b<0)) then a else (bif ((wr ((Int.fdiv a (2^(min (Int.toNat b) 64)))*2^(min (Int.toNat b) 64))) != a) then (wr ((Int.fdiv a (2^(min (Int.toNat b) 64)))+1)) else (Int.fdiv a (2^(min (Int.toNat b) 64)))))
def F7 (a:Int):Int:=(mn (mx a (-2147483648)) 2147483648)
def fC (a b:Int):Bool:=(bif (decide ((-2147483648)≤a)) then (bif (decide (a≤b)) then (decide (b≤2147483648)) else false) else false)
def qB (a b c d:Int):Bool:=(bif (fC a b) then (fC c d) else false)
def Dw (a b:Int):Int:=(F7 a)
def Dx (a b:Int):Int:=(F7 b)
def LB (a b:Int):Int:=(Dw (fe a 16) (eY b 16))
def LC (a b:Int):Int:=(Dx (fe a 16) (eY b 16))
def Dr (a:Int):Int:=(Dw a a)
def Dt (a:Int):Int:=(Dx a a)
def fH (a b c d:Int):Int:=(bif (qB a b c d) then (Dw (wr (a+c)) (wr (b+d))) else 0)
def fI (a b c d:Int):Int:=(bif (qB a b c d) then (Dx (wr (a+c)) (wr (b+d))) else 0)
def wZ (a b:Int):Int:=(bif (fC a b) then (wr (-b)) else 0)
def xe (a b:Int):Int:=(bif (fC a b) then (wr (-a)) else 0)
def dV (a b c d:Int):Int:=(bif (qB a b c d) then (LB (mn (mn (mn (mn (wr (a*c)) (wr (a*c))) (wr (a*d))) (wr (b*c))) (wr (b*d))) (mx (mx (mx (mx (wr (a*c)) (wr (a*c))) (wr (a*d))) (wr (b*c))) (wr (b*d)))) else 0)
def dW (a b c d:Int):Int:=(bif (qB a b c d) then (LC (mn (mn (mn (mn (wr (a*c)) (wr (a*c))) (wr (a*d))) (wr (b*c))) (wr (b*d))) (mx (mx (mx (mx (wr (a*c)) (wr (a*c))) (wr (a*d))) (wr (b*c))) (wr (b*d)))) else 0)
def jN (a b c d:Int):Int:=(bif (qB a b c d) then (mn a c) else 0)
def jO (a b c d:Int):Int:=(bif (qB a b c d) then (mx b d) else 0)
def BA (a b c:Int):Bool:=(bif (fC a b) then (bif (decide (a≤c)) then (decide (c≤b)) else false) else false)
def ou (a b c d:Int):Bool:=(bif (qB a b c d) then (bif (decide (c≤a)) then (decide (b≤d)) else false) else false)
def vY (a b:Int):Int:=(bif (fC a b) then (wr (b - a)) else 0)
def Um (a:Int):Int:=1073741824
def Gh (a:Int):Int:=(fe (wr (a*6746518852)) 16)
def Gs (a:Int):Int:=(fe (wr ((fe (wr (a*6746518852)) 16)*(fe (wr (a*6746518852)) 16))) 30)
def Gv (a:Int):Int:=(fe (wr ((fe (wr ((fe (wr (a*6746518852)) 16)*(fe (wr (a*6746518852)) 16))) 30)*(fe (wr (a*6746518852)) 16))) 30)
def Gw (a:Int):Int:=(fe (wr ((fe (wr ((fe (wr ((fe (wr (a*6746518852)) 16)*(fe (wr (a*6746518852)) 16))) 30)*(fe (wr (a*6746518852)) 16))) 30)*(fe (wr (a*6746518852)) 16))) 30)
def Gx (a:Int):Int:=(fe (wr ((fe (wr ((fe (wr ((fe (wr ((fe (wr (a*6746518852)) 16)*(fe (wr (a*6746518852)) 16))) 30)*(fe (wr (a*6746518852)) 16))) 30)*(fe (wr (a*6746518852)) 16))) 30)*(fe (wr (a*6746518852)) 16))) 30)
def Gy (a:Int):Int:=(fe (wr ((fe (wr ((fe (wr ((fe (wr ((fe (wr ((fe (wr (a*6746518852)) 16)*(fe (wr (a*6746518852)) 16))) 30)*(fe (wr (a*6746518852)) 16))) 30)*(fe (wr (a*6746518852)) 16))) 30)*(fe (wr (a*6746518852)) 16))) 30)*(fe (wr (a*6746518852)) 16))) 30)
def Gz (a:Int):Int:=(fe (wr ((fe (wr ((fe (wr ((fe (wr ((fe (wr ((fe (wr ((fe (wr (a*6746518852)) 16)*(fe (wr (a*6746518852)) 16))) 30)*(fe (wr (a*6746518852)) 16))) 30)*(fe (wr (a*6746518852)) 16))) 30)*(fe (wr (a*6746518852)) 16))) 30)*(fe (wr (a*6746518852)) 16))) 30)*(fe (wr (a*6746518852)) 16))) 30)
def GA (a:Int):Int:=(fe (wr ((fe (wr ((fe (wr ((fe (wr ((fe (wr ((fe (wr ((fe (wr ((fe (wr (a*6746518852)) 16)*(fe (wr (a*6746518852)) 16))) 30)*(fe (wr (a*6746518852)) 16))) 30)*(fe (wr (a*6746518852)) 16))) 30)*(fe (wr (a*6746518852)) 16))) 30)*(fe (wr (a*6746518852)) 16))) 30)*(fe (wr (a*6746518852)) 16))) 30)*(fe (wr (a*6746518852)) 16))) 30)
def Uq (a:Int):Int:=(fe (wr ((fe (wr ((fe (wr ((fe (wr ((fe (wr ((fe (wr ((fe (wr ((fe (wr ((fe (wr (a*6746518852)) 16)*(fe (wr (a*6746518852)) 16))) 30)*(fe (wr (a*6746518852)) 16))) 30)*(fe (wr (a*6746518852)) 16))) 30)*(fe (wr (a*6746518852)) 16))) 30)*(fe (wr (a*6746518852)) 16))) 30)*(fe (wr (a*6746518852)) 16))) 30)*(fe (wr (a*6746518852)) 16))) 30)*(fe (wr (a*6746518852)) 16))) 30)
def Un (a:Int):Int:=(fe (wr ((fe (wr ((fe (wr ((fe (wr ((fe (wr ((fe (wr ((fe (wr ((fe (wr ((fe (wr ((fe (wr (a*6746518852)) 16)*(fe (wr (a*6746518852)) 16))) 30)*(fe (wr (a*6746518852)) 16))) 30)*(fe (wr (a*6746518852)) 16))) 30)*(fe (wr (a*6746518852)) 16))) 30)*(fe (wr (a*6746518852)) 16))) 30)*(fe (wr (a*6746518852)) 16))) 30)*(fe (wr (a*6746518852)) 16))) 30)*(fe (wr (a*6746518852)) 16))) 30)*(fe (wr (a*6746518852)) 16))) 30)
def Uo (a:Int):Int:=1073741824
def Gi (a:Int):Int:=(eY (wr (a*6746518853)) 16)
def Gj (a:Int):Int:=(eY (wr ((eY (wr (a*6746518853)) 16)*(eY (wr (a*6746518853)) 16))) 30)
def Gl (a:Int):Int:=(eY (wr ((eY (wr ((eY (wr (a*6746518853)) 16)*(eY (wr (a*6746518853)) 16))) 30)*(eY (wr (a*6746518853)) 16))) 30)
def Gm (a:Int):Int:=(eY (wr ((eY (wr ((eY (wr ((eY (wr (a*6746518853)) 16)*(eY (wr (a*6746518853)) 16))) 30)*(eY (wr (a*6746518853)) 16))) 30)*(eY (wr (a*6746518853)) 16))) 30)
def Gn (a:Int):Int:=(eY (wr ((eY (wr ((eY (wr ((eY (wr ((eY (wr (a*6746518853)) 16)*(eY (wr (a*6746518853)) 16))) 30)*(eY (wr (a*6746518853)) 16))) 30)*(eY (wr (a*6746518853)) 16))) 30)*(eY (wr (a*6746518853)) 16))) 30)
def Gp (a:Int):Int:=(eY (wr ((eY (wr ((eY (wr ((eY (wr ((eY (wr ((eY (wr (a*6746518853)) 16)*(eY (wr (a*6746518853)) 16))) 30)*(eY (wr (a*6746518853)) 16))) 30)*(eY (wr (a*6746518853)) 16))) 30)*(eY (wr (a*6746518853)) 16))) 30)*(eY (wr (a*6746518853)) 16))) 30)
def Gq (a:Int):Int:=(eY (wr ((eY (wr ((eY (wr ((eY (wr ((eY (wr ((eY (wr ((eY (wr (a*6746518853)) 16)*(eY (wr (a*6746518853)) 16))) 30)*(eY (wr (a*6746518853)) 16))) 30)*(eY (wr (a*6746518853)) 16))) 30)*(eY (wr (a*6746518853)) 16))) 30)*(eY (wr (a*6746518853)) 16))) 30)*(eY (wr (a*6746518853)) 16))) 30)
def Gr (a:Int):Int:=(eY (wr ((eY (wr ((eY (wr ((eY (wr ((eY (wr ((eY (wr ((eY (wr ((eY (wr (a*6746518853)) 16)*(eY (wr (a*6746518853)) 16))) 30)*(eY (wr (a*6746518853)) 16))) 30)*(eY (wr (a*6746518853)) 16))) 30)*(eY (wr (a*6746518853)) 16))) 30)*(eY (wr (a*6746518853)) 16))) 30)*(eY (wr (a*6746518853)) 16))) 30)*(eY (wr (a*6746518853)) 16))) 30)
def Gt (a:Int):Int:=(eY (wr ((eY (wr ((eY (wr ((eY (wr ((eY (wr ((eY (wr ((eY (wr ((eY (wr ((eY (wr (a*6746518853)) 16)*(eY (wr (a*6746518853)) 16))) 30)*(eY (wr (a*6746518853)) 16))) 30)*(eY (wr (a*6746518853)) 16))) 30)*(eY (wr (a*6746518853)) 16))) 30)*(eY (wr (a*6746518853)) 16))) 30)*(eY (wr (a*6746518853)) 16))) 30)*(eY (wr (a*6746518853)) 16))) 30)*(eY (wr (a*6746518853)) 16))) 30)
def Gu (a:Int):Int:=(eY (wr ((eY (wr ((eY (wr ((eY (wr ((eY (wr ((eY (wr ((eY (wr ((eY (wr ((eY (wr ((eY (wr (a*6746518853)) 16)*(eY (wr (a*6746518853)) 16))) 30)*(eY (wr (a*6746518853)) 16))) 30)*(eY (wr (a*6746518853)) 16))) 30)*(eY (wr (a*6746518853)) 16))) 30)*(eY (wr (a*6746518853)) 16))) 30)*(eY (wr (a*6746518853)) 16))) 30)*(eY (wr (a*6746518853)) 16))) 30)*(eY (wr (a*6746518853)) 16))) 30)*(eY (wr (a*6746518853)) 16))) 30)
def F8 (a b:Int):Int:=(mx 0 (fe a 14))
def F9 (a b:Int):Int:=(mn 65536 (eY b 14))
def LD (a:Int):Int:=(F8 (wr ((wr ((wr ((wr (0+(wr (1*(Gh a)))))+(wr ((-1)*(wr (dC (wr ((wr ((Gl a)+6)) - 1)) 6))))))+(wr (1*(wr (dC (Gx a) 120))))))+(wr ((-1)*(wr (dC (wr ((wr ((Gq a)+5040)) - 1)) 5040)))))) (wr ((wr ((wr ((wr ((wr (0+(wr (1*(Gi a)))))+(wr ((-1)*(wr (dC (Gv a) 6))))))+(wr (1*(wr (dC (wr ((wr ((Gn a)+120)) - 1)) 120))))))+(wr ((-1)*(wr (dC (Gz a) 5040))))))+(wr (1*(wr (dC (wr ((wr ((Gt a)+362880)) - 1)) 362880)))))))
def LF (a:Int):Int:=(F9 (wr ((wr ((wr ((wr (0+(wr (1*(Gh a)))))+(wr ((-1)*(wr (dC (wr ((wr ((Gl a)+6)) - 1)) 6))))))+(wr (1*(wr (dC (Gx a) 120))))))+(wr ((-1)*(wr (dC (wr ((wr ((Gq a)+5040)) - 1)) 5040)))))) (wr ((wr ((wr ((wr ((wr (0+(wr (1*(Gi a)))))+(wr ((-1)*(wr (dC (Gv a) 6))))))+(wr (1*(wr (dC (wr ((wr ((Gn a)+120)) - 1)) 120))))))+(wr ((-1)*(wr (dC (Gz a) 5040))))))+(wr (1*(wr (dC (wr ((wr ((Gt a)+362880)) - 1)) 362880)))))))
def K8 (a:Int):Int:=(F8 (wr ((wr ((wr ((wr ((wr (1073741824+(wr ((-1)*(wr (dC (wr ((wr ((Gj a)+2)) - 1)) 2))))))+(wr (1*(wr (dC (Gw a) 24))))))+(wr ((-1)*(wr (dC (wr ((wr ((Gp a)+720)) - 1)) 720))))))+(wr (1*(wr (dC (GA a) 40320))))))+(wr ((-1)*(wr (dC (wr ((wr ((Gu a)+3628800)) - 1)) 3628800)))))) (wr ((wr ((wr ((wr (1073741824+(wr ((-1)*(wr (dC (Gs a) 2))))))+(wr (1*(wr (dC (wr ((wr ((Gm a)+24)) - 1)) 24))))))+(wr ((-1)*(wr (dC (Gy a) 720))))))+(wr (1*(wr (dC (wr ((wr ((Gr a)+40320)) - 1)) 40320)))))))
def La (a:Int):Int:=(F9 (wr ((wr ((wr ((wr ((wr (1073741824+(wr ((-1)*(wr (dC (wr ((wr ((Gj a)+2)) - 1)) 2))))))+(wr (1*(wr (dC (Gw a) 24))))))+(wr ((-1)*(wr (dC (wr ((wr ((Gp a)+720)) - 1)) 720))))))+(wr (1*(wr (dC (GA a) 40320))))))+(wr ((-1)*(wr (dC (wr ((wr ((Gu a)+3628800)) - 1)) 3628800)))))) (wr ((wr ((wr ((wr (1073741824+(wr ((-1)*(wr (dC (Gs a) 2))))))+(wr (1*(wr (dC (wr ((wr ((Gm a)+24)) - 1)) 24))))))+(wr ((-1)*(wr (dC (Gy a) 720))))))+(wr (1*(wr (dC (wr ((wr ((Gr a)+40320)) - 1)) 40320)))))))
def vW (a:Int):Int:=(bif (decide (a≤8192)) then (LD a) else (K8 (wr (16384 - a))))
def vX (a:Int):Int:=(bif (decide (a≤8192)) then (LF a) else (La (wr (16384 - a))))
def kH (a:Int):Int:=(Wu a 65535)
def iQ (a:Int):Int:=(bif ((wr (dC (kH a) 16384))==0) then (vW (bP (kH a) 16384)) else (bif ((wr (dC (kH a) 16384))==1) then (vW (wr (16384 - (bP (kH a) 16384)))) else (bif ((wr (dC (kH a) 16384))==2) then (wZ (vW (bP (kH a) 16384)) (vX (bP (kH a) 16384))) else (wZ (vW (wr (16384 - (bP (kH a) 16384)))) (vX (wr (16384 - (bP (kH a) 16384))))))))
def iR (a:Int):Int:=(bif ((wr (dC (kH a) 16384))==0) then (vX (bP (kH a) 16384)) else (bif ((wr (dC (kH a) 16384))==1) then (vX (wr (16384 - (bP (kH a) 16384)))) else (bif ((wr (dC (kH a) 16384))==2) then (xe (vW (bP (kH a) 16384)) (vX (bP (kH a) 16384))) else (xe (vW (wr (16384 - (bP (kH a) 16384)))) (vX (wr (16384 - (bP (kH a) 16384))))))))
def jh (a:Int):Int:=(iQ (wr ((kH a)+16384)))
def ji (a:Int):Int:=(iR (wr ((kH a)+16384)))
def mW (a b c:Int):Bool:=(BA a b (wr (a+(kH (wr (c - a))))))
def pR (a b:Int):Int:=(bif (fC a b) then (bif (decide (65536≤(vY a b))) then (-65536) else (bif (mW a b 16384) then (bif (mW a b 49152) then (jN (jN (jN (iQ a) (iR a) (iQ b) (iR b)) (jO (iQ a) (iR a) (iQ b) (iR b)) 65536 65536) (jO (jN (iQ a) (iR a) (iQ b) (iR b)) (jO (iQ a) (iR a) (iQ b) (iR b)) 65536 65536) (-65536) (-65536)) else (jN (jN (iQ a) (iR a) (iQ b) (iR b)) (jO (iQ a) (iR a) (iQ b) (iR b)) 65536 65536)) else (bif (mW a b 49152) then (jN (jN (iQ a) (iR a) (iQ b) (iR b)) (jO (iQ a) (iR a) (iQ b) (iR b)) (-65536) (-65536)) else (jN (iQ a) (iR a) (iQ b) (iR b))))) else 0)
def pU (a b:Int):Int:=(bif (fC a b) then (bif (decide (65536≤(vY a b))) then 65536 else (bif (mW a b 16384) then (bif (mW a b 49152) then (jO (jN (jN (iQ a) (iR a) (iQ b) (iR b)) (jO (iQ a) (iR a) (iQ b) (iR b)) 65536 65536) (jO (jN (iQ a) (iR a) (iQ b) (iR b)) (jO (iQ a) (iR a) (iQ b) (iR b)) 65536 65536) (-65536) (-65536)) else (jO (jN (iQ a) (iR a) (iQ b) (iR b)) (jO (iQ a) (iR a) (iQ b) (iR b)) 65536 65536)) else (bif (mW a b 49152) then (jO (jN (iQ a) (iR a) (iQ b) (iR b)) (jO (iQ a) (iR a) (iQ b) (iR b)) (-65536) (-65536)) else (jO (iQ a) (iR a) (iQ b) (iR b))))) else 0)
def rP (a b:Int):Int:=(bif (fC a b) then (bif (decide (65536≤(vY a b))) then (-65536) else (bif (mW a b 0) then (bif (mW a b 32768) then (jN (jN (jN (jh a) (ji a) (jh b) (ji b)) (jO (jh a) (ji a) (jh b) (ji b)) 65536 65536) (jO (jN (jh a) (ji a) (jh b) (ji b)) (jO (jh a) (ji a) (jh b) (ji b)) 65536 65536) (-65536) (-65536)) else (jN (jN (jh a) (ji a) (jh b) (ji b)) (jO (jh a) (ji a) (jh b) (ji b)) 65536 65536)) else (bif (mW a b 32768) then (jN (jN (jh a) (ji a) (jh b) (ji b)) (jO (jh a) (ji a) (jh b) (ji b)) (-65536) (-65536)) else (jN (jh a) (ji a) (jh b) (ji b))))) else 0)
def rQ (a b:Int):Int:=(bif (fC a b) then (bif (decide (65536≤(vY a b))) then 65536 else (bif (mW a b 0) then (bif (mW a b 32768) then (jO (jN (jN (jh a) (ji a) (jh b) (ji b)) (jO (jh a) (ji a) (jh b) (ji b)) 65536 65536) (jO (jN (jh a) (ji a) (jh b) (ji b)) (jO (jh a) (ji a) (jh b) (ji b)) 65536 65536) (-65536) (-65536)) else (jO (jN (jh a) (ji a) (jh b) (ji b)) (jO (jh a) (ji a) (jh b) (ji b)) 65536 65536)) else (bif (mW a b 32768) then (jO (jN (jh a) (ji a) (jh b) (ji b)) (jO (jh a) (ji a) (jh b) (ji b)) (-65536) (-65536)) else (jO (jh a) (ji a) (jh b) (ji b))))) else 0)
def RG (a b c:Int):Int:=(Dr a)
def RH (a b c:Int):Int:=(Dt a)
def RJ (a b c:Int):Int:=(Dr b)
def RL (a b c:Int):Int:=(Dt b)
def RN (a b c:Int):Int:=(Dr c)
def RO (a b c:Int):Int:=(Dt c)
def Ga (a b c d e f g h i j k l:Int):Int:=(fH a b g h)
def Gb (a b c d e f g h i j k l:Int):Int:=(fI a b g h)
def Gc (a b c d e f g h i j k l:Int):Int:=(fH c d i j)
def Gd (a b c d e f g h i j k l:Int):Int:=(fI c d i j)
def Gf (a b c d e f g h i j k l:Int):Int:=(fH e f k l)
def Gg (a b c d e f g h i j k l:Int):Int:=(fI e f k l)
def Rk:Int:=65536
def Rl:Int:=65536
def Rv:Int:=0
def Rw:Int:=0
def Rx:Int:=0
def Ry:Int:=0
def Rz:Int:=0
def RA:Int:=0
def RD:Int:=65536
def RF:Int:=65536
def Rm:Int:=0
def Rn:Int:=0
def Ro:Int:=0
def Rp:Int:=0
def Rq:Int:=0
def Rs:Int:=0
def Rt:Int:=65536
def Ru:Int:=65536
def yD (a b c:Int):Int:=(bif (fC b c) then (bif (a==0) then 65536 else (bif (a==1) then (rP b c) else (bif (a==2) then (rP b c) else 0))) else 0)
def yE (a b c:Int):Int:=(bif (fC b c) then (bif (a==0) then 65536 else (bif (a==1) then (rQ b c) else (bif (a==2) then (rQ b c) else 0))) else 0)
def yN (a b c:Int):Int:=(bif (fC b c) then (bif (a==0) then 0 else (bif (a==1) then 0 else (bif (a==2) then (wZ (pR b c) (pU b c)) else 0))) else 0)
def yO (a b c:Int):Int:=(bif (fC b c) then (bif (a==0) then 0 else (bif (a==1) then 0 else (bif (a==2) then (xe (pR b c) (pU b c)) else 0))) else 0)
def yP (a b c:Int):Int:=(bif (fC b c) then (bif (a==0) then 0 else (bif (a==1) then (pR b c) else (bif (a==2) then 0 else 0))) else 0)
def yQ (a b c:Int):Int:=(bif (fC b c) then (bif (a==0) then 0 else (bif (a==1) then (pU b c) else (bif (a==2) then 0 else 0))) else 0)
def yR (a b c:Int):Int:=(bif (fC b c) then (bif (a==0) then 0 else (bif (a==1) then 0 else (bif (a==2) then (pR b c) else 0))) else 0)
def yS (a b c:Int):Int:=(bif (fC b c) then (bif (a==0) then 0 else (bif (a==1) then 0 else (bif (a==2) then (pU b c) else 0))) else 0)
def yT (a b c:Int):Int:=(bif (fC b c) then (bif (a==0) then (rP b c) else (bif (a==1) then 65536 else (bif (a==2) then (rP b c) else 0))) else 0)
def yU (a b c:Int):Int:=(bif (fC b c) then (bif (a==0) then (rQ b c) else (bif (a==1) then 65536 else (bif (a==2) then (rQ b c) else 0))) else 0)
def yF (a b c:Int):Int:=(bif (fC b c) then (bif (a==0) then (wZ (pR b c) (pU b c)) else (bif (a==1) then 0 else (bif (a==2) then 0 else 0))) else 0)
def yG (a b c:Int):Int:=(bif (fC b c) then (bif (a==0) then (xe (pR b c) (pU b c)) else (bif (a==1) then 0 else (bif (a==2) then 0 else 0))) else 0)
def yH (a b c:Int):Int:=(bif (fC b c) then (bif (a==0) then 0 else (bif (a==1) then (wZ (pR b c) (pU b c)) else (bif (a==2) then 0 else 0))) else 0)
def yI (a b c:Int):Int:=(bif (fC b c) then (bif (a==0) then 0 else (bif (a==1) then (xe (pR b c) (pU b c)) else (bif (a==2) then 0 else 0))) else 0)
def yJ (a b c:Int):Int:=(bif (fC b c) then (bif (a==0) then (pR b c) else (bif (a==1) then 0 else (bif (a==2) then 0 else 0))) else 0)
def yK (a b c:Int):Int:=(bif (fC b c) then (bif (a==0) then (pU b c) else (bif (a==1) then 0 else (bif (a==2) then 0 else 0))) else 0)
def yL (a b c:Int):Int:=(bif (fC b c) then (bif (a==0) then (rP b c) else (bif (a==1) then (rP b c) else (bif (a==2) then 65536 else 0))) else 0)
def yM (a b c:Int):Int:=(bif (fC b c) then (bif (a==0) then (rQ b c) else (bif (a==1) then (rQ b c) else (bif (a==2) then 65536 else 0))) else 0)
def rV (a b c d e f g h i j k l m n o p q r s t u v w x:Int):Int:=(fH (fH (fH 0 0 (dV a b s t) (dW a b s t)) (fI 0 0 (dV a b s t) (dW a b s t)) (dV c d u v) (dW c d u v)) (fI (fH 0 0 (dV a b s t) (dW a b s t)) (fI 0 0 (dV a b s t) (dW a b s t)) (dV c d u v) (dW c d u v)) (dV e f w x) (dW e f w x))
def rW (a b c d e f g h i j k l m n o p q r s t u v w x:Int):Int:=(fI (fH (fH 0 0 (dV a b s t) (dW a b s t)) (fI 0 0 (dV a b s t) (dW a b s t)) (dV c d u v) (dW c d u v)) (fI (fH 0 0 (dV a b s t) (dW a b s t)) (fI 0 0 (dV a b s t) (dW a b s t)) (dV c d u v) (dW c d u v)) (dV e f w x) (dW e f w x))
def rX (a b c d e f g h i j k l m n o p q r s t u v w x:Int):Int:=(fH (fH (fH 0 0 (dV g h s t) (dW g h s t)) (fI 0 0 (dV g h s t) (dW g h s t)) (dV i j u v) (dW i j u v)) (fI (fH 0 0 (dV g h s t) (dW g h s t)) (fI 0 0 (dV g h s t) (dW g h s t)) (dV i j u v) (dW i j u v)) (dV k l w x) (dW k l w x))
def rY (a b c d e f g h i j k l m n o p q r s t u v w x:Int):Int:=(fI (fH (fH 0 0 (dV g h s t) (dW g h s t)) (fI 0 0 (dV g h s t) (dW g h s t)) (dV i j u v) (dW i j u v)) (fI (fH 0 0 (dV g h s t) (dW g h s t)) (fI 0 0 (dV g h s t) (dW g h s t)) (dV i j u v) (dW i j u v)) (dV k l w x) (dW k l w x))
def rZ (a b c d e f g h i j k l m n o p q r s t u v w x:Int):Int:=(fH (fH (fH 0 0 (dV m n s t) (dW m n s t)) (fI 0 0 (dV m n s t) (dW m n s t)) (dV o p u v) (dW o p u v)) (fI (fH 0 0 (dV m n s t) (dW m n s t)) (fI 0 0 (dV m n s t) (dW m n s t)) (dV o p u v) (dW o p u v)) (dV q r w x) (dW q r w x))
def r9 (a b c d e f g h i j k l m n o p q r s t u v w x:Int):Int:=(fI (fH (fH 0 0 (dV m n s t) (dW m n s t)) (fI 0 0 (dV m n s t) (dW m n s t)) (dV o p u v) (dW o p u v)) (fI (fH 0 0 (dV m n s t) (dW m n s t)) (fI 0 0 (dV m n s t) (dW m n s t)) (dV o p u v) (dW o p u v)) (dV q r w x) (dW q r w x))
def mV (a:Int):Int:=(mn (mx a (-65536)) 65536)
def Lb (a b c d e f g h i j k l m n o p q r s t u v w x y z A B C D E F G H I J:Int):Int:=(mV (fH (fH (fH 0 0 (dV a b s t) (dW a b s t)) (fI 0 0 (dV a b s t) (dW a b s t)) (dV c d y z) (dW c d y z)) (fI (fH 0 0 (dV a b s t) (dW a b s t)) (fI 0 0 (dV a b s t) (dW a b s t)) (dV c d y z) (dW c d y z)) (dV e f E F) (dW e f E F)))
def Lc (a b c d e f g h i j k l m n o p q r s t u v w x y z A B C D E F G H I J:Int):Int:=(mV (fI (fH (fH 0 0 (dV a b s t) (dW a b s t)) (fI 0 0 (dV a b s t) (dW a b s t)) (dV c d y z) (dW c d y z)) (fI (fH 0 0 (dV a b s t) (dW a b s t)) (fI 0 0 (dV a b s t) (dW a b s t)) (dV c d y z) (dW c d y z)) (dV e f E F) (dW e f E F)))
def Lp (a b c d e f g h i j k l m n o p q r s t u v w x y z A B C D E F G H I J:Int):Int:=(mV (fH (fH (fH 0 0 (dV a b u v) (dW a b u v)) (fI 0 0 (dV a b u v) (dW a b u v)) (dV c d A B) (dW c d A B)) (fI (fH 0 0 (dV a b u v) (dW a b u v)) (fI 0 0 (dV a b u v) (dW a b u v)) (dV c d A B) (dW c d A B)) (dV e f G H) (dW e f G H)))
def Lr (a b c d e f g h i j k l m n o p q r s t u v w x y z A B C D E F G H I J:Int):Int:=(mV (fI (fH (fH 0 0 (dV a b u v) (dW a b u v)) (fI 0 0 (dV a b u v) (dW a b u v)) (dV c d A B) (dW c d A B)) (fI (fH 0 0 (dV a b u v) (dW a b u v)) (fI 0 0 (dV a b u v) (dW a b u v)) (dV c d A B) (dW c d A B)) (dV e f G H) (dW e f G H)))
def Ls (a b c d e f g h i j k l m n o p q r s t u v w x y z A B C D E F G H I J:Int):Int:=(mV (fH (fH (fH 0 0 (dV a b w x) (dW a b w x)) (fI 0 0 (dV a b w x) (dW a b w x)) (dV c d C D) (dW c d C D)) (fI (fH 0 0 (dV a b w x) (dW a b w x)) (fI 0 0 (dV a b w x) (dW a b w x)) (dV c d C D) (dW c d C D)) (dV e f I J) (dW e f I J)))
def Lt (a b c d e f g h i j k l m n o p q r s t u v w x y z A B C D E F G H I J:Int):Int:=(mV (fI (fH (fH 0 0 (dV a b w x) (dW a b w x)) (fI 0 0 (dV a b w x) (dW a b w x)) (dV c d C D) (dW c d C D)) (fI (fH 0 0 (dV a b w x) (dW a b w x)) (fI 0 0 (dV a b w x) (dW a b w x)) (dV c d C D) (dW c d C D)) (dV e f I J) (dW e f I J)))
def Lu (a b c d e f g h i j k l m n o p q r s t u v w x y z A B C D E F G H I J:Int):Int:=(mV (fH (fH (fH 0 0 (dV g h s t) (dW g h s t)) (fI 0 0 (dV g h s t) (dW g h s t)) (dV i j y z) (dW i j y z)) (fI (fH 0 0 (dV g h s t) (dW g h s t)) (fI 0 0 (dV g h s t) (dW g h s t)) (dV i j y z) (dW i j y z)) (dV k l E F) (dW k l E F)))
def Lv (a b c d e f g h i j k l m n o p q r s t u v w x y z A B C D E F G H I J:Int):Int:=(mV (fI (fH (fH 0 0 (dV g h s t) (dW g h s t)) (fI 0 0 (dV g h s t) (dW g h s t)) (dV i j y z) (dW i j y z)) (fI (fH 0 0 (dV g h s t) (dW g h s t)) (fI 0 0 (dV g h s t) (dW g h s t)) (dV i j y z) (dW i j y z)) (dV k l E F) (dW k l E F)))
def Lx (a b c d e f g h i j k l m n o p q r s t u v w x y z A B C D E F G H I J:Int):Int:=(mV (fH (fH (fH 0 0 (dV g h u v) (dW g h u v)) (fI 0 0 (dV g h u v) (dW g h u v)) (dV i j A B) (dW i j A B)) (fI (fH 0 0 (dV g h u v) (dW g h u v)) (fI 0 0 (dV g h u v) (dW g h u v)) (dV i j A B) (dW i j A B)) (dV k l G H) (dW k l G H)))
def LA (a b c d e f g h i j k l m n o p q r s t u v w x y z A B C D E F G H I J:Int):Int:=(mV (fI (fH (fH 0 0 (dV g h u v) (dW g h u v)) (fI 0 0 (dV g h u v) (dW g h u v)) (dV i j A B) (dW i j A B)) (fI (fH 0 0 (dV g h u v) (dW g h u v)) (fI 0 0 (dV g h u v) (dW g h u v)) (dV i j A B) (dW i j A B)) (dV k l G H) (dW k l G H)))
def Ld (a b c d e f g h i j k l m n o p q r s t u v w x y z A B C D E F G H I J:Int):Int:=(mV (fH (fH (fH 0 0 (dV g h w x) (dW g h w x)) (fI 0 0 (dV g h w x) (dW g h w x)) (dV i j C D) (dW i j C D)) (fI (fH 0 0 (dV g h w x) (dW g h w x)) (fI 0 0 (dV g h w x) (dW g h w x)) (dV i j C D) (dW i j C D)) (dV k l I J) (dW k l I J)))
def Lf (a b c d e f g h i j k l m n o p q r s t u v w x y z A B C D E F G H I J:Int):Int:=(mV (fI (fH (fH 0 0 (dV g h w x) (dW g h w x)) (fI 0 0 (dV g h w x) (dW g h w x)) (dV i j C D) (dW i j C D)) (fI (fH 0 0 (dV g h w x) (dW g h w x)) (fI 0 0 (dV g h w x) (dW g h w x)) (dV i j C D) (dW i j C D)) (dV k l I J) (dW k l I J)))
def Lg (a b c d e f g h i j k l m n o p q r s t u v w x y z A B C D E F G H I J:Int):Int:=(mV (fH (fH (fH 0 0 (dV m n s t) (dW m n s t)) (fI 0 0 (dV m n s t) (dW m n s t)) (dV o p y z) (dW o p y z)) (fI (fH 0 0 (dV m n s t) (dW m n s t)) (fI 0 0 (dV m n s t) (dW m n s t)) (dV o p y z) (dW o p y z)) (dV q r E F) (dW q r E F)))
def Lh (a b c d e f g h i j k l m n o p q r s t u v w x y z A B C D E F G H I J:Int):Int:=(mV (fI (fH (fH 0 0 (dV m n s t) (dW m n s t)) (fI 0 0 (dV m n s t) (dW m n s t)) (dV o p y z) (dW o p y z)) (fI (fH 0 0 (dV m n s t) (dW m n s t)) (fI 0 0 (dV m n s t) (dW m n s t)) (dV o p y z) (dW o p y z)) (dV q r E F) (dW q r E F)))
def Li (a b c d e f g h i j k l m n o p q r s t u v w x y z A B C D E F G H I J:Int):Int:=(mV (fH (fH (fH 0 0 (dV m n u v) (dW m n u v)) (fI 0 0 (dV m n u v) (dW m n u v)) (dV o p A B) (dW o p A B)) (fI (fH 0 0 (dV m n u v) (dW m n u v)) (fI 0 0 (dV m n u v) (dW m n u v)) (dV o p A B) (dW o p A B)) (dV q r G H) (dW q r G H)))
def Lj (a b c d e f g h i j k l m n o p q r s t u v w x y z A B C D E F G H I J:Int):Int:=(mV (fI (fH (fH 0 0 (dV m n u v) (dW m n u v)) (fI 0 0 (dV m n u v) (dW m n u v)) (dV o p A B) (dW o p A B)) (fI (fH 0 0 (dV m n u v) (dW m n u v)) (fI 0 0 (dV m n u v) (dW m n u v)) (dV o p A B) (dW o p A B)) (dV q r G H) (dW q r G H)))
def Ll (a b c d e f g h i j k l m n o p q r s t u v w x y z A B C D E F G H I J:Int):Int:=(mV (fH (fH (fH 0 0 (dV m n w x) (dW m n w x)) (fI 0 0 (dV m n w x) (dW m n w x)) (dV o p C D) (dW o p C D)) (fI (fH 0 0 (dV m n w x) (dW m n w x)) (fI 0 0 (dV m n w x) (dW m n w x)) (dV o p C D) (dW o p C D)) (dV q r I J) (dW q r I J)))
def Lm (a b c d e f g h i j k l m n o p q r s t u v w x y z A B C D E F G H I J:Int):Int:=(mV (fI (fH (fH 0 0 (dV m n w x) (dW m n w x)) (fI 0 0 (dV m n w x) (dW m n w x)) (dV o p C D) (dW o p C D)) (fI (fH 0 0 (dV m n w x) (dW m n w x)) (fI 0 0 (dV m n w x) (dW m n w x)) (dV o p C D) (dW o p C D)) (dV q r I J) (dW q r I J)))
def Tk (a b c d e f:Int):Int:=65536
def Tm (a b c d e f:Int):Int:=65536
def TB (a b c d e f:Int):Int:=0
def TG (a b c d e f:Int):Int:=0
def TH (a b c d e f:Int):Int:=0
def TI (a b c d e f:Int):Int:=0
def TJ (a b c d e f:Int):Int:=0
def TK (a b c d e f:Int):Int:=0
def TL (a b c d e f:Int):Int:=65536
def TM (a b c d e f:Int):Int:=65536
def Tn (a b c d e f:Int):Int:=0
def Tp (a b c d e f:Int):Int:=0
def Tq (a b c d e f:Int):Int:=0
def Tu (a b c d e f:Int):Int:=0
def Tv (a b c d e f:Int):Int:=0
def Tw (a b c d e f:Int):Int:=0
def Tx (a b c d e f:Int):Int:=65536
def Ty (a b c d e f:Int):Int:=65536
def Tz (a b c d e f:Int):Int:=a
def TA (a b c d e f:Int):Int:=b
def TC (a b c d e f:Int):Int:=c
def TD (a b c d e f:Int):Int:=d
def TE (a b c d e f:Int):Int:=e
def TF (a b c d e f:Int):Int:=f
def TN (a b c:Int):Int:=(yD a b c)
def TP (a b c:Int):Int:=(yE a b c)
def Ua (a b c:Int):Int:=(yN a b c)
def Uf (a b c:Int):Int:=(yO a b c)
def Ug (a b c:Int):Int:=(yP a b c)
def Uh (a b c:Int):Int:=(yQ a b c)
def Ui (a b c:Int):Int:=(yR a b c)
def Uj (a b c:Int):Int:=(yS a b c)
def Uk (a b c:Int):Int:=(yT a b c)
def Ul (a b c:Int):Int:=(yU a b c)
def TQ (a b c:Int):Int:=(yF a b c)
def TR (a b c:Int):Int:=(yG a b c)
def TS (a b c:Int):Int:=(yH a b c)
def TT (a b c:Int):Int:=(yI a b c)
def TU (a b c:Int):Int:=(yJ a b c)
def TV (a b c:Int):Int:=(yK a b c)
def TW (a b c:Int):Int:=(yL a b c)
def TY (a b c:Int):Int:=(yM a b c)
def TZ (a b c:Int):Int:=0
def T9 (a b c:Int):Int:=0
def Ub (a b c:Int):Int:=0
def Uc (a b c:Int):Int:=0
def Ud (a b c:Int):Int:=0
def Ue (a b c:Int):Int:=0
def SB:Int:=65536
def SC:Int:=65536
def SV:Int:=0
def Tc:Int:=0
def Td:Int:=0
def Te:Int:=0
def Tf:Int:=0
def Tg:Int:=0
def Ti:Int:=65536
def Tj:Int:=65536
def SE:Int:=0
def SF:Int:=0
def SG:Int:=0
def SH:Int:=0
def SI:Int:=0
def SK:Int:=0
def SL:Int:=65536
def SN:Int:=65536
def SQ:Int:=0
def SS:Int:=0
def SX:Int:=0
def SY:Int:=0
def S9:Int:=0
def Ta:Int:=0
def RZ (a b c d e f g h i j k l m n o p q r s t u v w x y z A B C D E F G H I J K L M N O P Q R S T U V:Int):Int:=(Lb a b c d e f g h i j k l m n o p q r y z A B C D E F G H I J K L M N O P)
def R3 (a b c d e f g h i j k l m n o p q r s t u v w x y z A B C D E F G H I J K L M N O P Q R S T U V:Int):Int:=(Lc a b c d e f g h i j k l m n o p q r y z A B C D E F G H I J K L M N O P)
def Sg (a b c d e f g h i j k l m n o p q r s t u v w x y z A B C D E F G H I J K L M N O P Q R S T U V:Int):Int:=(Lp a b c d e f g h i j k l m n o p q r y z A B C D E F G H I J K L M N O P)
def Sr (a b c d e f g h i j k l m n o p q r s t u v w x y z A B C D E F G H I J K L M N O P Q R S T U V:Int):Int:=(Lr a b c d e f g h i j k l m n o p q r y z A B C D E F G H I J K L M N O P)
def Su (a b c d e f g h i j k l m n o p q r s t u v w x y z A B C D E F G H I J K L M N O P Q R S T U V:Int):Int:=(Ls a b c d e f g h i j k l m n o p q r y z A B C D E F G H I J K L M N O P)
def Sv (a b c d e f g h i j k l m n o p q r s t u v w x y z A B C D E F G H I J K L M N O P Q R S T U V:Int):Int:=(Lt a b c d e f g h i j k l m n o p q r y z A B C D E F G H I J K L M N O P)
def Sw (a b c d e f g h i j k l m n o p q r s t u v w x y z A B C D E F G H I J K L M N O P Q R S T U V:Int):Int:=(Lu a b c d e f g h i j k l m n o p q r y z A B C D E F G H I J K L M N O P)
def Sy (a b c d e f g h i j k l m n o p q r s t u v w x y z A B C D E F G H I J K L M N O P Q R S T U V:Int):Int:=(Lv a b c d e f g h i j k l m n o p q r y z A B C D E F G H I J K L M N O P)
def Sz (a b c d e f g h i j k l m n o p q r s t u v w x y z A B C D E F G H I J K L M N O P Q R S T U V:Int):Int:=(Lx a b c d e f g h i j k l m n o p q r y z A B C D E F G H I J K L M N O P)
def SA (a b c d e f g h i j k l m n o p q r s t u v w x y z A B C D E F G H I J K L M N O P Q R S T U V:Int):Int:=(LA a b c d e f g h i j k l m n o p q r y z A B C D E F G H I J K L M N O P)
def R4 (a b c d e f g h i j k l m n o p q r s t u v w x y z A B C D E F G H I J K L M N O P Q R S T U V:Int):Int:=(Ld a b c d e f g h i j k l m n o p q r y z A B C D E F G H I J K L M N O P)
def R5 (a b c d e f g h i j k l m n o p q r s t u v w x y z A B C D E F G H I J K L M N O P Q R S T U V:Int):Int:=(Lf a b c d e f g h i j k l m n o p q r y z A B C D E F G H I J K L M N O P)
def R6 (a b c d e f g h i j k l m n o p q r s t u v w x y z A B C D E F G H I J K L M N O P Q R S T U V:Int):Int:=(Lg a b c d e f g h i j k l m n o p q r y z A B C D E F G H I J K L M N O P)
def R7 (a b c d e f g h i j k l m n o p q r s t u v w x y z A B C D E F G H I J K L M N O P Q R S T U V:Int):Int:=(Lh a b c d e f g h i j k l m n o p q r y z A B C D E F G H I J K L M N O P)
def R8 (a b c d e f g h i j k l m n o p q r s t u v w x y z A B C D E F G H I J K L M N O P Q R S T U V:Int):Int:=(Li a b c d e f g h i j k l m n o p q r y z A B C D E F G H I J K L M N O P)
def R9 (a b c d e f g h i j k l m n o p q r s t u v w x y z A B C D E F G H I J K L M N O P Q R S T U V:Int):Int:=(Lj a b c d e f g h i j k l m n o p q r y z A B C D E F G H I J K L M N O P)
def Sa (a b c d e f g h i j k l m n o p q r s t u v w x y z A B C D E F G H I J K L M N O P Q R S T U V:Int):Int:=(Ll a b c d e f g h i j k l m n o p q r y z A B C D E F G H I J K L M N O P)
def Sb (a b c d e f g h i j k l m n o p q r s t u v w x y z A B C D E F G H I J K L M N O P Q R S T U V:Int):Int:=(Lm a b c d e f g h i j k l m n o p q r y z A B C D E F G H I J K L M N O P)
def Sc (a b c d e f g h i j k l m n o p q r s t u v w x y z A B C D E F G H I J K L M N O P Q R S T U V:Int):Int:=(Ga s t u v w x (rV a b c d e f g h i j k l m n o p q r Q R S T U V) (rW a b c d e f g h i j k l m n o p q r Q R S T U V) (rX a b c d e f g h i j k l m n o p q r Q R S T U V) (rY a b c d e f g h i j k l m n o p q r Q R S T U V) (rZ a b c d e f g h i j k l m n o p q r Q R S T U V) (r9 a b c d e f g h i j k l m n o p q r Q R S T U V))
def Sd (a b c d e f g h i j k l m n o p q r s t u v w x y z A B C D E F G H I J K L M N O P Q R S T U V:Int):Int:=(Gb s t u v w x (rV a b c d e f g h i j k l m n o p q r Q R S T U V) (rW a b c d e f g h i j k l m n o p q r Q R S T U V) (rX a b c d e f g h i j k l m n o p q r Q R S T U V) (rY a b c d e f g h i j k l m n o p q r Q R S T U V) (rZ a b c d e f g h i j k l m n o p q r Q R S T U V) (r9 a b c d e f g h i j k l m n o p q r Q R S T U V))
def Si (a b c d e f g h i j k l m n o p q r s t u v w x y z A B C D E F G H I J K L M N O P Q R S T U V:Int):Int:=(Gc s t u v w x (rV a b c d e f g h i j k l m n o p q r Q R S T U V) (rW a b c d e f g h i j k l m n o p q r Q R S T U V) (rX a b c d e f g h i j k l m n o p q r Q R S T U V) (rY a b c d e f g h i j k l m n o p q r Q R S T U V) (rZ a b c d e f g h i j k l m n o p q r Q R S T U V) (r9 a b c d e f g h i j k l m n o p q r Q R S T U V))
def Sj (a b c d e f g h i j k l m n o p q r s t u v w x y z A B C D E F G H I J K L M N O P Q R S T U V:Int):Int:=(Gd s t u v w x (rV a b c d e f g h i j k l m n o p q r Q R S T U V) (rW a b c d e f g h i j k l m n o p q r Q R S T U V) (rX a b c d e f g h i j k l m n o p q r Q R S T U V) (rY a b c d e f g h i j k l m n o p q r Q R S T U V) (rZ a b c d e f g h i j k l m n o p q r Q R S T U V) (r9 a b c d e f g h i j k l m n o p q r Q R S T U V))
def Sk (a b c d e f g h i j k l m n o p q r s t u v w x y z A B C D E F G H I J K L M N O P Q R S T U V:Int):Int:=(Gf s t u v w x (rV a b c d e f g h i j k l m n o p q r Q R S T U V) (rW a b c d e f g h i j k l m n o p q r Q R S T U V) (rX a b c d e f g h i j k l m n o p q r Q R S T U V) (rY a b c d e f g h i j k l m n o p q r Q R S T U V) (rZ a b c d e f g h i j k l m n o p q r Q R S T U V) (r9 a b c d e f g h i j k l m n o p q r Q R S T U V))
def Sn (a b c d e f g h i j k l m n o p q r s t u v w x y z A B C D E F G H I J K L M N O P Q R S T U V:Int):Int:=(Gg s t u v w x (rV a b c d e f g h i j k l m n o p q r Q R S T U V) (rW a b c d e f g h i j k l m n o p q r Q R S T U V) (rX a b c d e f g h i j k l m n o p q r Q R S T U V) (rY a b c d e f g h i j k l m n o p q r Q R S T U V) (rZ a b c d e f g h i j k l m n o p q r Q R S T U V) (r9 a b c d e f g h i j k l m n o p q r Q R S T U V))
def RQ (a b c d e f g h i j k l m n o p q r s t u v w x y z A B C D:Int):Int:=(Ga s t u v w x (rV a b c d e f g h i j k l m n o p q r y z A B C D) (rW a b c d e f g h i j k l m n o p q r y z A B C D) (rX a b c d e f g h i j k l m n o p q r y z A B C D) (rY a b c d e f g h i j k l m n o p q r y z A B C D) (rZ a b c d e f g h i j k l m n o p q r y z A B C D) (r9 a b c d e f g h i j k l m n o p q r y z A B C D))
def RS (a b c d e f g h i j k l m n o p q r s t u v w x y z A B C D:Int):Int:=(Gb s t u v w x (rV a b c d e f g h i j k l m n o p q r y z A B C D) (rW a b c d e f g h i j k l m n o p q r y z A B C D) (rX a b c d e f g h i j k l m n o p q r y z A B C D) (rY a b c d e f g h i j k l m n o p q r y z A B C D) (rZ a b c d e f g h i j k l m n o p q r y z A B C D) (r9 a b c d e f g h i j k l m n o p q r y z A B C D))
def RU (a b c d e f g h i j k l m n o p q r s t u v w x y z A B C D:Int):Int:=(Gc s t u v w x (rV a b c d e f g h i j k l m n o p q r y z A B C D) (rW a b c d e f g h i j k l m n o p q r y z A B C D) (rX a b c d e f g h i j k l m n o p q r y z A B C D) (rY a b c d e f g h i j k l m n o p q r y z A B C D) (rZ a b c d e f g h i j k l m n o p q r y z A B C D) (r9 a b c d e f g h i j k l m n o p q r y z A B C D))
def RV (a b c d e f g h i j k l m n o p q r s t u v w x y z A B C D:Int):Int:=(Gd s t u v w x (rV a b c d e f g h i j k l m n o p q r y z A B C D) (rW a b c d e f g h i j k l m n o p q r y z A B C D) (rX a b c d e f g h i j k l m n o p q r y z A B C D) (rY a b c d e f g h i j k l m n o p q r y z A B C D) (rZ a b c d e f g h i j k l m n o p q r y z A B C D) (r9 a b c d e f g h i j k l m n o p q r y z A B C D))
def RX (a b c d e f g h i j k l m n o p q r s t u v w x y z A B C D:Int):Int:=(Gf s t u v w x (rV a b c d e f g h i j k l m n o p q r y z A B C D) (rW a b c d e f g h i j k l m n o p q r y z A B C D) (rX a b c d e f g h i j k l m n o p q r y z A B C D) (rY a b c d e f g h i j k l m n o p q r y z A B C D) (rZ a b c d e f g h i j k l m n o p q r y z A B C D) (r9 a b c d e f g h i j k l m n o p q r y z A B C D))
def RY (a b c d e f g h i j k l m n o p q r s t u v w x y z A B C D:Int):Int:=(Gg s t u v w x (rV a b c d e f g h i j k l m n o p q r y z A B C D) (rW a b c d e f g h i j k l m n o p q r y z A B C D) (rX a b c d e f g h i j k l m n o p q r y z A B C D) (rY a b c d e f g h i j k l m n o p q r y z A B C D) (rZ a b c d e f g h i j k l m n o p q r y z A B C D) (r9 a b c d e f g h i j k l m n o p q r y z A B C D))
def pW (a b:Int):Bool:=(bif (decide ((-1152921504606846976)≤a)) then (bif (decide (a≤b)) then (decide (b≤1152921504606846976)) else false) else false)
def mE (a b:Int):Int:=(wr (-b))
def mF (a b:Int):Int:=(wr (-a))
def Du (a:Int):Int:=a
def Dv (a:Int):Int:=a
def kG (a:Int):Bool:=(bif (a==1) then true else (bif (a==2) then true else (a==3)))
def mq (a b c d:Int):Int:=(bif (pW a b) then (bif (pW c d) then (bif (pW (wr (a+c)) (wr (b+d))) then (wr (a+c)) else 0) else 0) else 0)
def mD (a b c d:Int):Int:=(bif (pW a b) then (bif (pW c d) then (bif (pW (wr (a+c)) (wr (b+d))) then (wr (b+d)) else 0) else 0) else 0)
def oo (a b c d:Int):Bool:=(bif (pW a b) then (bif (pW c d) then (bif (pW (wr (a+c)) (wr (b+d))) then true else false) else false) else false)
def iA (a b c d:Int):Int:=bif En.wT a b c d then En.mulL a b c d/65536 else 0
def iB (a b c d:Int):Int:=bif En.wT a b c d then (En.wS a b c d+65535)/65536 else 0
def pV (a b c d:Int):Bool:=En.wT a b c d
def zP (a b c d e f g h i j k l m n o p q r s:Int):Int:=(bif (a==2) then d else (bif (a==5) then d else (bif (a==3) then f else (bif (a==6) then f else b))))
def zQ (a b c d e f g h i j k l m n o p q r s:Int):Int:=(bif (a==2) then e else (bif (a==5) then e else (bif (a==3) then g else (bif (a==6) then g else c))))
def zR (a b c d e f g h i j k l m n o p q r s:Int):Int:=(bif (a==2) then j else (bif (a==5) then j else (bif (a==3) then l else (bif (a==6) then l else h))))
def zS (a b c d e f g h i j k l m n o p q r s:Int):Int:=(bif (a==2) then k else (bif (a==5) then k else (bif (a==3) then m else (bif (a==6) then m else i))))
def zT (a b c d e f g h i j k l m n o p q r s:Int):Int:=(bif (a==2) then p else (bif (a==5) then p else (bif (a==3) then r else (bif (a==6) then r else n))))
def zU (a b c d e f g h i j k l m n o p q r s:Int):Int:=(bif (a==2) then q else (bif (a==5) then q else (bif (a==3) then s else (bif (a==6) then s else o))))
def rR (a b c:Int):Int:=(bif (decide ((bP a 40001)<0)) then (bif (decide ((bP b 40001)<0)) then (bif (decide ((bP c 2097152)<0)) then (wr ((wr ((bP a 40001)+40001)) - 20000)) else (wr ((wr ((bP a 40001)+40001)) - 20000))) else (bif (decide ((bP c 2097152)<0)) then (wr ((wr ((bP a 40001)+40001)) - 20000)) else (wr ((wr ((bP a 40001)+40001)) - 20000)))) else (bif (decide ((bP b 40001)<0)) then (bif (decide ((bP c 2097152)<0)) then (wr ((bP a 40001) - 20000)) else (wr ((bP a 40001) - 20000))) else (bif (decide ((bP c 2097152)<0)) then (wr ((bP a 40001) - 20000)) else (wr ((bP a 40001) - 20000)))))
def rT (a b c:Int):Int:=(bif (decide ((bP a 40001)<0)) then (bif (decide ((bP b 40001)<0)) then (bif (decide ((bP c 2097152)<0)) then (wr ((wr ((bP b 40001)+40001)) - 20000)) else (wr ((wr ((bP b 40001)+40001)) - 20000))) else (bif (decide ((bP c 2097152)<0)) then (wr ((bP b 40001) - 20000)) else (wr ((bP b 40001) - 20000)))) else (bif (decide ((bP b 40001)<0)) then (bif (decide ((bP c 2097152)<0)) then (wr ((wr ((bP b 40001)+40001)) - 20000)) else (wr ((wr ((bP b 40001)+40001)) - 20000))) else (bif (decide ((bP c 2097152)<0)) then (wr ((bP b 40001) - 20000)) else (wr ((bP b 40001) - 20000)))))
def rU (a b c:Int):Int:=(bif (decide ((bP a 40001)<0)) then (bif (decide ((bP b 40001)<0)) then (bif (decide ((bP c 2097152)<0)) then (wr ((wr ((bP c 2097152)+2097152)) - 1048576)) else (wr ((bP c 2097152) - 1048576))) else (bif (decide ((bP c 2097152)<0)) then (wr ((wr ((bP c 2097152)+2097152)) - 1048576)) else (wr ((bP c 2097152) - 1048576)))) else (bif (decide ((bP b 40001)<0)) then (bif (decide ((bP c 2097152)<0)) then (wr ((wr ((bP c 2097152)+2097152)) - 1048576)) else (wr ((bP c 2097152) - 1048576))) else (bif (decide ((bP c 2097152)<0)) then (wr ((wr ((bP c 2097152)+2097152)) - 1048576)) else (wr ((bP c 2097152) - 1048576)))))
def adm (a b:Int):Int:=a % b
def Fu (A:Type):Nat→Type
 | 0=>A
 | n+1=>Int→Fu A n
def ap {A:Type}:(n:Nat)→Fu A n→List Int→A
 | 0,f,_=>f
 | n+1,f,[]=>ap n (f 0) []
 | n+1,f,a::l=>ap n (f a) l
set_option maxRecDepth 100000 in
def FN (j:Nat) (l:List Int):Int :=
 bif ay j 0 then ap 2 fe l else
 bif ay j 1 then ap 2 eY l else
 bif ay j 2 then ap 1 F7 l else
 bif ay j 5 then ap 2 Dw l else
 bif ay j 6 then ap 2 Dx l else
 bif ay j 7 then ap 2 LB l else
 bif ay j 8 then ap 2 LC l else
 bif ay j 9 then ap 1 Dr l else
 bif ay j 10 then ap 1 Dt l else
 bif ay j 11 then ap 4 fH l else
 bif ay j 12 then ap 4 fI l else
 bif ay j 13 then ap 2 wZ l else
 bif ay j 14 then ap 2 xe l else
 bif ay j 15 then ap 4 dV l else
 bif ay j 16 then ap 4 dW l else
 bif ay j 17 then ap 4 jN l else
 bif ay j 18 then ap 4 jO l else
 bif ay j 21 then ap 2 vY l else
 bif ay j 22 then ap 1 Um l else
 bif ay j 23 then ap 1 Gh l else
 bif ay j 24 then ap 1 Gs l else
 bif ay j 25 then ap 1 Gv l else
 bif ay j 26 then ap 1 Gw l else
 bif ay j 27 then ap 1 Gx l else
 bif ay j 28 then ap 1 Gy l else
 bif ay j 29 then ap 1 Gz l else
 bif ay j 30 then ap 1 GA l else
 bif ay j 31 then ap 1 Uq l else
 bif ay j 32 then ap 1 Un l else
 bif ay j 33 then ap 1 Uo l else
 bif ay j 34 then ap 1 Gi l else
 bif ay j 35 then ap 1 Gj l else
 bif ay j 36 then ap 1 Gl l else
 bif ay j 37 then ap 1 Gm l else
 bif ay j 38 then ap 1 Gn l else
 bif ay j 39 then ap 1 Gp l else
 bif ay j 40 then ap 1 Gq l else
 bif ay j 41 then ap 1 Gr l else
 bif ay j 42 then ap 1 Gt l else
 bif ay j 43 then ap 1 Gu l else
 bif ay j 44 then ap 2 F8 l else
 bif ay j 45 then ap 2 F9 l else
 bif ay j 46 then ap 1 LD l else
 bif ay j 47 then ap 1 LF l else
 bif ay j 48 then ap 1 K8 l else
 bif ay j 49 then ap 1 La l else
 bif ay j 50 then ap 1 vW l else
 bif ay j 51 then ap 1 vX l else
 bif ay j 52 then ap 1 kH l else
 bif ay j 53 then ap 1 iQ l else
 bif ay j 54 then ap 1 iR l else
 bif ay j 55 then ap 1 jh l else
 bif ay j 56 then ap 1 ji l else
 bif ay j 58 then ap 2 pR l else
 bif ay j 59 then ap 2 pU l else
 bif ay j 60 then ap 2 rP l else
 bif ay j 61 then ap 2 rQ l else
 bif ay j 62 then ap 3 RG l else
 bif ay j 63 then ap 3 RH l else
 bif ay j 64 then ap 3 RJ l else
 bif ay j 65 then ap 3 RL l else
 bif ay j 66 then ap 3 RN l else
 bif ay j 67 then ap 3 RO l else
 bif ay j 68 then ap 12 Ga l else
 bif ay j 69 then ap 12 Gb l else
 bif ay j 70 then ap 12 Gc l else
 bif ay j 71 then ap 12 Gd l else
 bif ay j 72 then ap 12 Gf l else
 bif ay j 73 then ap 12 Gg l else
 bif ay j 74 then ap 0 Rk l else
 bif ay j 75 then ap 0 Rl l else
 bif ay j 76 then ap 0 Rv l else
 bif ay j 77 then ap 0 Rw l else
 bif ay j 78 then ap 0 Rx l else
 bif ay j 79 then ap 0 Ry l else
 bif ay j 80 then ap 0 Rz l else
 bif ay j 81 then ap 0 RA l else
 bif ay j 82 then ap 0 RD l else
 bif ay j 83 then ap 0 RF l else
 bif ay j 84 then ap 0 Rm l else
 bif ay j 85 then ap 0 Rn l else
 bif ay j 86 then ap 0 Ro l else
 bif ay j 87 then ap 0 Rp l else
 bif ay j 88 then ap 0 Rq l else
 bif ay j 89 then ap 0 Rs l else
 bif ay j 90 then ap 0 Rt l else
 bif ay j 91 then ap 0 Ru l else
 bif ay j 92 then ap 3 yD l else
 bif ay j 93 then ap 3 yE l else
 bif ay j 94 then ap 3 yN l else
 bif ay j 95 then ap 3 yO l else
 bif ay j 96 then ap 3 yP l else
 bif ay j 97 then ap 3 yQ l else
 bif ay j 98 then ap 3 yR l else
 bif ay j 99 then ap 3 yS l else
 bif ay j 100 then ap 3 yT l else
 bif ay j 101 then ap 3 yU l else
 bif ay j 102 then ap 3 yF l else
 bif ay j 103 then ap 3 yG l else
 bif ay j 104 then ap 3 yH l else
 bif ay j 105 then ap 3 yI l else
 bif ay j 106 then ap 3 yJ l else
 bif ay j 107 then ap 3 yK l else
 bif ay j 108 then ap 3 yL l else
 bif ay j 109 then ap 3 yM l else
 bif ay j 110 then ap 24 rV l else
 bif ay j 111 then ap 24 rW l else
 bif ay j 112 then ap 24 rX l else
 bif ay j 113 then ap 24 rY l else
 bif ay j 114 then ap 24 rZ l else
 bif ay j 115 then ap 24 r9 l else
 bif ay j 116 then ap 1 mV l else
 bif ay j 117 then ap 36 Lb l else
 bif ay j 118 then ap 36 Lc l else
 bif ay j 119 then ap 36 Lp l else
 bif ay j 120 then ap 36 Lr l else
 bif ay j 121 then ap 36 Ls l else
 bif ay j 122 then ap 36 Lt l else
 bif ay j 123 then ap 36 Lu l else
 bif ay j 124 then ap 36 Lv l else
 bif ay j 125 then ap 36 Lx l else
 bif ay j 126 then ap 36 LA l else
 bif ay j 127 then ap 36 Ld l else
 bif ay j 128 then ap 36 Lf l else
 bif ay j 129 then ap 36 Lg l else
 bif ay j 130 then ap 36 Lh l else
 bif ay j 131 then ap 36 Li l else
 bif ay j 132 then ap 36 Lj l else
 bif ay j 133 then ap 36 Ll l else
 bif ay j 134 then ap 36 Lm l else
 bif ay j 135 then ap 6 Tk l else
 bif ay j 136 then ap 6 Tm l else
 bif ay j 137 then ap 6 TB l else
 bif ay j 138 then ap 6 TG l else
 bif ay j 139 then ap 6 TH l else
 bif ay j 140 then ap 6 TI l else
 bif ay j 141 then ap 6 TJ l else
 bif ay j 142 then ap 6 TK l else
 bif ay j 143 then ap 6 TL l else
 bif ay j 144 then ap 6 TM l else
 bif ay j 145 then ap 6 Tn l else
 bif ay j 146 then ap 6 Tp l else
 bif ay j 147 then ap 6 Tq l else
 bif ay j 148 then ap 6 Tu l else
 bif ay j 149 then ap 6 Tv l else
 bif ay j 150 then ap 6 Tw l else
 bif ay j 151 then ap 6 Tx l else
 bif ay j 152 then ap 6 Ty l else
 bif ay j 153 then ap 6 Tz l else
 bif ay j 154 then ap 6 TA l else
 bif ay j 155 then ap 6 TC l else
 bif ay j 156 then ap 6 TD l else
 bif ay j 157 then ap 6 TE l else
 bif ay j 158 then ap 6 TF l else
 bif ay j 159 then ap 3 TN l else
 bif ay j 160 then ap 3 TP l else
 bif ay j 161 then ap 3 Ua l else
 bif ay j 162 then ap 3 Uf l else
 bif ay j 163 then ap 3 Ug l else
 bif ay j 164 then ap 3 Uh l else
 bif ay j 165 then ap 3 Ui l else
 bif ay j 166 then ap 3 Uj l else
 bif ay j 167 then ap 3 Uk l else
 bif ay j 168 then ap 3 Ul l else
 bif ay j 169 then ap 3 TQ l else
 bif ay j 170 then ap 3 TR l else
 bif ay j 171 then ap 3 TS l else
 bif ay j 172 then ap 3 TT l else
 bif ay j 173 then ap 3 TU l else
 bif ay j 174 then ap 3 TV l else
 bif ay j 175 then ap 3 TW l else
 bif ay j 176 then ap 3 TY l else
 bif ay j 177 then ap 3 TZ l else
 bif ay j 178 then ap 3 T9 l else
 bif ay j 179 then ap 3 Ub l else
 bif ay j 180 then ap 3 Uc l else
 bif ay j 181 then ap 3 Ud l else
 bif ay j 182 then ap 3 Ue l else
 bif ay j 183 then ap 0 SB l else
 bif ay j 184 then ap 0 SC l else
 bif ay j 185 then ap 0 SV l else
 bif ay j 186 then ap 0 Tc l else
 bif ay j 187 then ap 0 Td l else
 bif ay j 188 then ap 0 Te l else
 bif ay j 189 then ap 0 Tf l else
 bif ay j 190 then ap 0 Tg l else
 bif ay j 191 then ap 0 Ti l else
 bif ay j 192 then ap 0 Tj l else
 bif ay j 193 then ap 0 SE l else
 bif ay j 194 then ap 0 SF l else
 bif ay j 195 then ap 0 SG l else
 bif ay j 196 then ap 0 SH l else
 bif ay j 197 then ap 0 SI l else
 bif ay j 198 then ap 0 SK l else
 bif ay j 199 then ap 0 SL l else
 bif ay j 200 then ap 0 SN l else
 bif ay j 201 then ap 0 SQ l else
 bif ay j 202 then ap 0 SS l else
 bif ay j 203 then ap 0 SX l else
 bif ay j 204 then ap 0 SY l else
 bif ay j 205 then ap 0 S9 l else
 bif ay j 206 then ap 0 Ta l else
 bif ay j 207 then ap 48 RZ l else
 bif ay j 208 then ap 48 R3 l else
 bif ay j 209 then ap 48 Sg l else
 bif ay j 210 then ap 48 Sr l else
 bif ay j 211 then ap 48 Su l else
 bif ay j 212 then ap 48 Sv l else
 bif ay j 213 then ap 48 Sw l else
 bif ay j 214 then ap 48 Sy l else
 bif ay j 215 then ap 48 Sz l else
 bif ay j 216 then ap 48 SA l else
 bif ay j 217 then ap 48 R4 l else
 bif ay j 218 then ap 48 R5 l else
 bif ay j 219 then ap 48 R6 l else
 bif ay j 220 then ap 48 R7 l else
 bif ay j 221 then ap 48 R8 l else
 bif ay j 222 then ap 48 R9 l else
 bif ay j 223 then ap 48 Sa l else
 bif ay j 224 then ap 48 Sb l else
 bif ay j 225 then ap 48 Sc l else
 bif ay j 226 then ap 48 Sd l else
 bif ay j 227 then ap 48 Si l else
 bif ay j 228 then ap 48 Sj l else
 bif ay j 229 then ap 48 Sk l else
 bif ay j 230 then ap 48 Sn l else
 bif ay j 231 then ap 30 RQ l else
 bif ay j 232 then ap 30 RS l else
 bif ay j 233 then ap 30 RU l else
 bif ay j 234 then ap 30 RV l else
 bif ay j 235 then ap 30 RX l else
 bif ay j 236 then ap 30 RY l else
 bif ay j 238 then ap 2 mE l else
 bif ay j 239 then ap 2 mF l else
 bif ay j 240 then ap 1 Du l else
 bif ay j 241 then ap 1 Dv l else
 bif ay j 243 then ap 4 mq l else
 bif ay j 244 then ap 4 mD l else
 bif ay j 246 then ap 4 iA l else
 bif ay j 247 then ap 4 iB l else
 bif ay j 249 then ap 19 zP l else
 bif ay j 250 then ap 19 zQ l else
 bif ay j 251 then ap 19 zR l else
 bif ay j 252 then ap 19 zS l else
 bif ay j 253 then ap 19 zT l else
 bif ay j 254 then ap 19 zU l else
 bif ay j 255 then ap 3 rR l else
 bif ay j 256 then ap 3 rT l else
 bif ay j 257 then ap 3 rU l else
 bif ay j 258 then ap 2 adm l else
 0
def FB (j:Nat) (l:List Int):Bool :=
 bif ay j 3 then ap 2 fC l else
 bif ay j 4 then ap 4 qB l else
 bif ay j 19 then ap 3 BA l else
 bif ay j 20 then ap 4 ou l else
 bif ay j 57 then ap 3 mW l else
 bif ay j 237 then ap 2 pW l else
 bif ay j 242 then ap 1 kG l else
 bif ay j 245 then ap 4 oo l else
 bif ay j 248 then ap 4 pV l else
 false
def eO (l:List Int):Env:=⟨fun i=>l.getD i 0,fun _=>false,FN,FB,fun _=>(none,0,0),fun _=>none,[],none⟩
def G9 (l:List Int) (g:List (Value×Value)):Go.Sm.Xt:=⟨Tryz.xt,eO l,g,[23],[],[],[],[]⟩
theorem aeN (l:List Int) (g:List (Value×Value)) (h:Sat (eO l) g):Go.Sm.kD aa (G9 l g):=⟨CK,h,Cy _ _ _⟩
def vs (a:Nat):Nat→List Value
 | 0=>[]
 | n+1=>var a::vs (a+1) n
def Hf:(n:Nat)→(List Int→Prop)→Prop
 | 0,p=>p []
 | n+1,p=>∀a,Hf n fun l=>p (a::l)
theorem Nn:∀(n:Nat) (p:List Int→Prop),Hf n p→∀l,l.length=n→p l
 | 0,p,h,l,hl=>by obtain rfl:=bR hl; exact h
 | n+1,p,h,l,hl=>by obtain ⟨a,t,rfl,g⟩:=Zo hl; exact Nn n (fun l=>p (a::l)) (h a) t g
def Hl (e:eZ) (l:List Int):Prop:=∀w,Calls aa e.f (vL e.args l).toArray w fun r w'=>r=.returned (kW (qZ (eO []) l e.j e.res))∧RowKit.Below w.heap.size w w'
variable {e:eZ}
theorem iH (n:Nat) (hn:total e.args=n) (h:Hf n (Hl e)):fo aa (eO []) e:=fun l w hl=>Nn n _ h l (hl.trans hn) w
def aeI (P:Program) (l:List Int) (es:List eZ) (f:FuncId) (xs:List Value) (g:List (Value×Value)):Option Value:=(kQ P (G9 l g) Tryz.esc 200 (vZ (G9 l g) es) 12 f xs []).bind fun r=>uO (eO l) 5 r.1
def Ci (l:List Int) (es:List eZ) (f:FuncId) (xs:List Value) (g:List (Value×Value)) (u:Value):Prop:=∀(ys:List Value) (w:World),eQ (uO (eO l) 4) xs=some ys→Sat (eO l) g→Calls aa f ys.toArray w fun r w'=>r=.returned u∧RowKit.Below w.heap.size w w'
variable {l:List Int} {es:List eZ} {f:FuncId} {xs:List Value} {g:List (Value×Value)} {u:Value}
theorem fD (hes:∀e∈es,fo aa (eO l) e) (h:aeI aa l es f xs g=some u):Ci l es f xs g u:=fun ys w hx hs=>by
 obtain ⟨⟨v,H',md⟩,h1,h2⟩:=Option.bind_eq_some_iff.1 h
 exact adJ (X:=G9 l g) Tryz.mixed Tryz.ky (aeN _ _ hs) (BH hs _ hes) (BI _ _) h1 hx h2 w
theorem iD (c:Value) (b:Bool) (h:eF (eO l) 300 c=some (.bool b)) (ht:b=true→Ci l es f xs ((c,.bool true)::g) u) (hf:b=false→Ci l es f xs ((c,.bool false)::g) u):Ci l es f xs g u:=fun ys w hx hs=>by
 cases b with
 | true=>exact ht rfl ys w hx (o7 ⟨300,_,h,rfl⟩ hs)
 | false=>exact hf rfl ys w hx (o7 ⟨300,_,h,rfl⟩ hs)
theorem iM (u:Value) (hu:kW (qZ (eO []) l e.j e.res)=u) (xs:List Value) (hx:eQ (uO (eO l) 4) xs=some (vL e.args l)) (h:Ci l es e.f xs [] u):Hl e l:=fun w=>by
 rw [hu]; exact h _ w hx (ed _)
theorem XB (u:Value) (hu:kW (qZ (eO []) l e.j e.res)=u) (h:∀w,Calls aa e.f (vL e.args l).toArray w fun r w'=>r=.returned u∧RowKit.Below w.heap.size w w'):Hl e l:=fun w=>by
 rw [hu]; exact h w
theorem iJ {L:List Int} (h:fo aa (eO []) e) (hs:∀e∈es,fo aa (eO L) e):∀x∈e::es,fo aa (eO L) x:=List.forall_mem_cons.2 ⟨Cw (E:=eO []) (E':=eO L) rfl rfl h,hs⟩
end Go.Proofs
end
