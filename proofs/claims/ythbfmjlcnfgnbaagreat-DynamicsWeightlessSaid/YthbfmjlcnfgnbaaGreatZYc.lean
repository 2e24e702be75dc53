/-
  Part of the proof: see the last text.
-/
import Derived.Test.YthbfmjlcnfgnbaaGreatZYb
set_option linter.unusedVariables false
set_option maxHeartbeats 8000000
open Int renaming tdiv→dC,tmod→bP
open Go.Proofs.Tryz renaming prog→aa
section
namespace Go.Proofs
open Go.Sm Go.RowKit
set_option maxHeartbeats 2000000
def es0:List eZ:=[]
theorem Ky (L:List Int):∀e∈es0,fo aa (eO L) e:=fun e h=>by cases h
def NB:eZ:=⟨148,[none,none],[.i],0⟩
theorem aai:fo aa (eO []) NB:=iH 2 rfl<|fun a0 a1=>iM (es:=es0) (num (fe a0 a1)) (by kernel_rfl) [var 0,var 1] (by kernel_rfl) (iD (mB 20 [var 1,.int .i64 (0)]) (decide (a1<0)) (by kernel_rfl)
  (fun c0=>fD (Ky _) (by simp only [fe,c0,cond_true]; kernel_rfl))
  (fun c0=>fD (Ky _) (by simp only [fe,c0,cond_false]; kernel_rfl)))
def es1:List eZ:=NB::es0
theorem Fs (L:List Int):∀e∈es1,fo aa (eO L) e:=iJ aai (Ky L)
def NC:eZ:=⟨149,[none,none],[.i],1⟩
theorem aaj:fo aa (eO []) NC:=iH 2 rfl<|fun a0 a1=>iM (es:=es1) (num (eY a0 a1)) (by kernel_rfl) [var 0,var 1] (by kernel_rfl) (iD (mB 20 [var 1,.int .i64 (0)]) (decide (a1<0)) (by kernel_rfl)
  (fun c0=>fD (Fs _) (by simp only [eY,c0,cond_true]; kernel_rfl))
  (fun c0=>iD (mB 25 [mI 10 [mI 11 [var 0,var 1],var 1],var 0]) ((wr ((Int.fdiv a0 (2^(min (Int.toNat a1) 64)))*2^(min (Int.toNat a1) 64))) != a0) (by kernel_rfl)
 (fun c1=>fD (Fs _) (by simp only [eY,c0,c1,cond_false,cond_true]; kernel_rfl))
 (fun c1=>fD (Fs _) (by simp only [eY,c0,c1,cond_false]; kernel_rfl))))
def es2:List eZ:=NC::es1
theorem Qh (L:List Int):∀e∈es2,fo aa (eO L) e:=iJ aaj (Fs L)
def Nv:eZ:=⟨137,[none],[.i],2⟩
theorem aad:fo aa (eO []) Nv:=iH 1 rfl<|fun a0=>iM (es:=es2) (num (F7 a0)) (by kernel_rfl) [var 0] (by kernel_rfl) (fD (Qh _) (by kernel_rfl))
def I1:List eZ:=Nv::es2
theorem Fx (L:List Int):∀e∈I1,fo aa (eO L) e:=iJ aad (Qh L)
def NG:eZ:=⟨116,[some 2],[.b],3⟩
theorem aam:fo aa (eO []) NG:=iH 2 rfl<|fun a0 a1=>iM (es:=I1) (.bool (fC a0 a1)) (by kernel_rfl) [.agg ⟨vs 0 2⟩] (by kernel_rfl) (iD (mB 21 [.int .i64 (-2147483648),var 0]) (decide ((-2147483648)≤a0)) (by kernel_rfl)
  (fun c0=>iD (mB 21 [var 0,var 1]) (decide (a0≤a1)) (by kernel_rfl)
 (fun c1=>fD (Fx _) (by simp only [fC,c0,c1,cond_true]; kernel_rfl))
 (fun c1=>fD (Fx _) (by simp only [fC,c0,c1,cond_false,cond_true]; kernel_rfl)))
  (fun c0=>fD (Fx _) (by simp only [fC,c0,cond_false]; kernel_rfl)))
def Je:List eZ:=NG::I1
theorem KE (L:List Int):∀e∈Je,fo aa (eO L) e:=iJ aam (Fx L)
def Ov:eZ:=⟨113,[some 2,some 2],[.b],4⟩
theorem aaU:fo aa (eO []) Ov:=iH 4 rfl<|fun a0 a1 a2 a3=>iM (es:=Je) (.bool (qB a0 a1 a2 a3)) (by kernel_rfl) [.agg ⟨vs 0 2⟩,.agg ⟨vs 2 2⟩] (by kernel_rfl) (iD (mB 1003 [var 0,var 1]) (fC a0 a1) (by kernel_rfl)
  (fun c0=>fD (KE _) (by simp only [qB,c0,cond_true]; kernel_rfl))
  (fun c0=>fD (KE _) (by simp only [qB,c0,cond_false]; kernel_rfl)))
def Jk:List eZ:=Ov::Je
theorem QA (L:List Int):∀e∈Jk,fo aa (eO L) e:=iJ aaU (KE L)
def N9:eZ:=⟨122,[none,none],[.a 2],5⟩
theorem aaE:fo aa (eO []) N9:=iH 2 rfl<|fun a0 a1=>iM (es:=Jk) (.agg ⟨[num (Dw a0 a1),num (Dx a0 a1)]⟩) (by kernel_rfl) [var 0,var 1] (by kernel_rfl) (fD (QA _) (by kernel_rfl))
def Jl:List eZ:=N9::Jk
theorem QB (L:List Int):∀e∈Jl,fo aa (eO L) e:=iJ aaE (QA L)
def Ot:eZ:=⟨145,[none,none],[.a 2],7⟩
theorem aaS:fo aa (eO []) Ot:=iH 2 rfl<|fun a0 a1=>iM (es:=Jl) (.agg ⟨[num (LB a0 a1),num (LC a0 a1)]⟩) (by kernel_rfl) [var 0,var 1] (by kernel_rfl) (fD (QB _) (by kernel_rfl))
def Jm:List eZ:=Ot::Jl
theorem QC (L:List Int):∀e∈Jm,fo aa (eO L) e:=iJ aaS (QB L)
def NA:eZ:=⟨100,[none],[.a 2],9⟩
theorem aah:fo aa (eO []) NA:=iH 1 rfl<|fun a0=>iM (es:=Jm) (.agg ⟨[num (Dr a0),num (Dt a0)]⟩) (by kernel_rfl) [var 0] (by kernel_rfl) (fD (QC _) (by kernel_rfl))
def Jn:List eZ:=NA::Jm
theorem KF (L:List Int):∀e∈Jn,fo aa (eO L) e:=iJ aah (QC L)
def NU:eZ:=⟨135,[some 2,some 2],[.a 2],11⟩
theorem aax:fo aa (eO []) NU:=iH 4 rfl<|fun a0 a1 a2 a3=>iM (es:=Jn) (.agg ⟨[num (fH a0 a1 a2 a3),num (fI a0 a1 a2 a3)]⟩) (by kernel_rfl) [.agg ⟨vs 0 2⟩,.agg ⟨vs 2 2⟩] (by kernel_rfl) (iD (mB 1004 [var 0,var 1,var 2,var 3]) (qB a0 a1 a2 a3) (by kernel_rfl)
  (fun c0=>fD (KF _) (by simp only [fH,fI,c0,cond_true]; kernel_rfl))
  (fun c0=>fD (KF _) (by simp only [fH,fI,c0,cond_false]; kernel_rfl)))
def Jo:List eZ:=NU::Jn
theorem KG (L:List Int):∀e∈Jo,fo aa (eO L) e:=iJ aax (KF L)
def NZ:eZ:=⟨154,[some 2],[.a 2],13⟩
theorem aaB:fo aa (eO []) NZ:=iH 2 rfl<|fun a0 a1=>iM (es:=Jo) (.agg ⟨[num (wZ a0 a1),num (xe a0 a1)]⟩) (by kernel_rfl) [.agg ⟨vs 0 2⟩] (by kernel_rfl) (iD (mB 1003 [var 0,var 1]) (fC a0 a1) (by kernel_rfl)
  (fun c0=>fD (KG _) (by simp only [wZ,xe,c0,cond_true]; kernel_rfl))
  (fun c0=>fD (KG _) (by simp only [wZ,xe,c0,cond_false]; kernel_rfl)))
def Iy:List eZ:=NZ::Jo
theorem Kz (L:List Int):∀e∈Iy,fo aa (eO L) e:=iJ aaB (KG L)
def NY:eZ:=⟨136,[some 2,some 2],[.a 2],15⟩
theorem aaA:fo aa (eO []) NY:=iH 4 rfl<|fun a0 a1 a2 a3=>iM (es:=Iy) (.agg ⟨[num (dV a0 a1 a2 a3),num (dW a0 a1 a2 a3)]⟩) (by kernel_rfl) [.agg ⟨vs 0 2⟩,.agg ⟨vs 2 2⟩] (by kernel_rfl) (iD (mB 1004 [var 0,var 1,var 2,var 3]) (qB a0 a1 a2 a3) (by kernel_rfl)
  (fun c0=>fD (Kz _) (by simp only [dV,dW,c0,cond_true]; kernel_rfl))
  (fun c0=>fD (Kz _) (by simp only [dV,dW,c0,cond_false]; kernel_rfl)))
def Iz:List eZ:=NY::Iy
theorem KA (L:List Int):∀e∈Iz,fo aa (eO L) e:=iJ aaA (Kz L)
def NW:eZ:=⟨159,[some 2,some 2],[.a 2],17⟩
theorem aaz:fo aa (eO []) NW:=iH 4 rfl<|fun a0 a1 a2 a3=>iM (es:=Iz) (.agg ⟨[num (jN a0 a1 a2 a3),num (jO a0 a1 a2 a3)]⟩) (by kernel_rfl) [.agg ⟨vs 0 2⟩,.agg ⟨vs 2 2⟩] (by kernel_rfl) (iD (mB 1004 [var 0,var 1,var 2,var 3]) (qB a0 a1 a2 a3) (by kernel_rfl)
  (fun c0=>fD (KA _) (by simp only [jN,jO,c0,cond_true]; kernel_rfl))
  (fun c0=>fD (KA _) (by simp only [jN,jO,c0,cond_false]; kernel_rfl)))
def IA:List eZ:=NW::Iz
theorem Fv (L:List Int):∀e∈IA,fo aa (eO L) e:=iJ aaz (KA L)
def NV:eZ:=⟨163,[some 2,none],[.b],19⟩
theorem aay:fo aa (eO []) NV:=iH 3 rfl<|fun a0 a1 a2=>iM (es:=IA) (.bool (BA a0 a1 a2)) (by kernel_rfl) [.agg ⟨vs 0 2⟩,var 2] (by kernel_rfl) (iD (mB 1003 [var 0,var 1]) (fC a0 a1) (by kernel_rfl)
  (fun c0=>iD (mB 21 [var 0,var 2]) (decide (a0≤a2)) (by kernel_rfl)
 (fun c1=>fD (Fv _) (by simp only [BA,c0,c1,cond_true]; kernel_rfl))
 (fun c1=>fD (Fv _) (by simp only [BA,c0,c1,cond_false,cond_true]; kernel_rfl)))
  (fun c0=>fD (Fv _) (by simp only [BA,c0,cond_false]; kernel_rfl)))
def IB:List eZ:=NV::IA
theorem Fw (L:List Int):∀e∈IB,fo aa (eO L) e:=iJ aay (Fv L)
def N8:eZ:=⟨95,[some 2,some 2],[.b],20⟩
theorem aaD:fo aa (eO []) N8:=iH 4 rfl<|fun a0 a1 a2 a3=>iM (es:=IB) (.bool (ou a0 a1 a2 a3)) (by kernel_rfl) [.agg ⟨vs 0 2⟩,.agg ⟨vs 2 2⟩] (by kernel_rfl) (iD (mB 1004 [var 0,var 1,var 2,var 3]) (qB a0 a1 a2 a3) (by kernel_rfl)
  (fun c0=>iD (mB 21 [var 2,var 0]) (decide (a2≤a0)) (by kernel_rfl)
 (fun c1=>fD (Fw _) (by simp only [ou,c0,c1,cond_true]; kernel_rfl))
 (fun c1=>fD (Fw _) (by simp only [ou,c0,c1,cond_false,cond_true]; kernel_rfl)))
  (fun c0=>fD (Fw _) (by simp only [ou,c0,cond_false]; kernel_rfl)))
def IC:List eZ:=N8::IB
theorem KC (L:List Int):∀e∈IC,fo aa (eO L) e:=iJ aaD (Fw L)
def N7:eZ:=⟨158,[some 2],[.i],21⟩
theorem aaC:fo aa (eO []) N7:=iH 2 rfl<|fun a0 a1=>iM (es:=IC) (num (vY a0 a1)) (by kernel_rfl) [.agg ⟨vs 0 2⟩] (by kernel_rfl) (iD (mB 1003 [var 0,var 1]) (fC a0 a1) (by kernel_rfl)
  (fun c0=>fD (KC _) (by simp only [vY,c0,cond_true]; kernel_rfl))
  (fun c0=>fD (KC _) (by simp only [vY,c0,cond_false]; kernel_rfl)))
def IE:List eZ:=N7::IC
theorem Qd (L:List Int):∀e∈IE,fo aa (eO L) e:=iJ aaC (KC L)
def Oq:eZ:=⟨166,[none],[.a 11,.a 11],22⟩
theorem aaR:fo aa (eO []) Oq:=iH 1 rfl<|fun a0=>iM (es:=IE) (.tuple ⟨[.agg ⟨[num (Um a0),num (Gh a0),num (Gs a0),num (Gv a0),num (Gw a0),num (Gx a0),num (Gy a0),num (Gz a0),num (GA a0),num (Uq a0),num (Un a0)]⟩,.agg ⟨[num (Uo a0),num (Gi a0),num (Gj a0),num (Gl a0),num (Gm a0),num (Gn a0),num (Gp a0),num (Gq a0),num (Gr a0),num (Gt a0),num (Gu a0)]⟩]⟩) (by kernel_rfl) [var 0] (by kernel_rfl) (fD (Qd _) (by kernel_rfl))
def IG:List eZ:=Oq::IE
theorem Qe (L:List Int):∀e∈IG,fo aa (eO L) e:=iJ aaR (Qd L)
def NR:eZ:=⟨169,[none,none],[.a 2],44⟩
theorem aav:fo aa (eO []) NR:=iH 2 rfl<|fun a0 a1=>iM (es:=IG) (.agg ⟨[num (F8 a0 a1),num (F9 a0 a1)]⟩) (by kernel_rfl) [var 0,var 1] (by kernel_rfl) (fD (Qe _) (by kernel_rfl))
def II:List eZ:=NR::IG
theorem Qf (L:List Int):∀e∈II,fo aa (eO L) e:=iJ aav (Qe L)
def Ou:eZ:=⟨164,[none],[.a 2],46⟩
theorem aaT:fo aa (eO []) Ou:=iH 1 rfl<|fun a0=>iM (es:=II) (.agg ⟨[num (LD a0),num (LF a0)]⟩) (by kernel_rfl) [var 0] (by kernel_rfl) (fD (Qf _) (by kernel_rfl))
def IJ:List eZ:=Ou::II
theorem Qg (L:List Int):∀e∈IJ,fo aa (eO L) e:=iJ aaT (Qf L)
def NH:eZ:=⟨165,[none],[.a 2],48⟩
theorem aan:fo aa (eO []) NH:=iH 1 rfl<|fun a0=>iM (es:=IJ) (.agg ⟨[num (K8 a0),num (La a0)]⟩) (by kernel_rfl) [var 0] (by kernel_rfl) (fD (Qg _) (by kernel_rfl))
def IK:List eZ:=NH::IJ
theorem KD (L:List Int):∀e∈IK,fo aa (eO L) e:=iJ aan (Qg L)
def NS:eZ:=⟨162,[none],[.a 2],50⟩
theorem aaw:fo aa (eO []) NS:=iH 1 rfl<|fun a0=>iM (es:=IK) (.agg ⟨[num (vW a0),num (vX a0)]⟩) (by kernel_rfl) [var 0] (by kernel_rfl) (iD (mB 21 [var 0,.int .i64 (8192)]) (decide (a0≤8192)) (by kernel_rfl)
  (fun c0=>fD (KD _) (by simp only [vW,vX,c0,cond_true]; kernel_rfl))
  (fun c0=>fD (KD _) (by simp only [vW,vX,c0,cond_false]; kernel_rfl)))
def IL:List eZ:=NS::IK
theorem Qi (L:List Int):∀e∈IL,fo aa (eO L) e:=iJ aaw (KD L)
def Oj:eZ:=⟨161,[none],[.i],52⟩
theorem aaN:fo aa (eO []) Oj:=iH 1 rfl<|fun a0=>iM (es:=IL) (num (kH a0)) (by kernel_rfl) [var 0] (by kernel_rfl) (fD (Qi _) (by kernel_rfl))
def IM:List eZ:=Oj::IL
theorem Dj (L:List Int):∀e∈IM,fo aa (eO L) e:=iJ aaN (Qi L)
def ND:eZ:=⟨157,[none],[.a 2],53⟩
theorem aak:fo aa (eO []) ND:=iH 1 rfl<|fun a0=>iM (es:=IM) (.agg ⟨[num (iQ a0),num (iR a0)]⟩) (by kernel_rfl) [var 0] (by kernel_rfl) (iD (mB 24 [mI 5 [mI 1052 [var 0],.int .i64 (16384)],.int .i64 (0)]) ((wr (dC (kH a0) 16384))==0) (by kernel_rfl)
  (fun c0=>fD (Dj _) (by simp only [iQ,iR,c0,cond_true]; kernel_rfl))
  (fun c0=>iD (mB 24 [mI 5 [mI 1052 [var 0],.int .i64 (16384)],.int .i64 (1)]) ((wr (dC (kH a0) 16384))==1) (by kernel_rfl)
 (fun c1=>fD (Dj _) (by simp only [iQ,iR,c0,c1,cond_false,cond_true]; kernel_rfl))
 (fun c1=>iD (mB 24 [mI 5 [mI 1052 [var 0],.int .i64 (16384)],.int .i64 (2)]) ((wr (dC (kH a0) 16384))==2) (by kernel_rfl)
   (fun c2=>fD (Dj _) (by simp only [iQ,iR,c0,c1,c2,cond_false,cond_true]; kernel_rfl))
   (fun c2=>fD (Dj _) (by simp only [iQ,iR,c0,c1,c2,cond_false]; kernel_rfl)))))
def IP:List eZ:=ND::IM
theorem Qj (L:List Int):∀e∈IP,fo aa (eO L) e:=iJ aak (Dj L)
def Nw:eZ:=⟨156,[none],[.a 2],55⟩
theorem aae:fo aa (eO []) Nw:=iH 1 rfl<|fun a0=>iM (es:=IP) (.agg ⟨[num (jh a0),num (ji a0)]⟩) (by kernel_rfl) [var 0] (by kernel_rfl) (fD (Qj _) (by kernel_rfl))
def IQ:List eZ:=Nw::IP
theorem Qk (L:List Int):∀e∈IQ,fo aa (eO L) e:=iJ aae (Qj L)
def Oi:eZ:=⟨160,[some 2,none],[.b],57⟩
theorem aaM:fo aa (eO []) Oi:=iH 3 rfl<|fun a0 a1 a2=>iM (es:=IQ) (.bool (mW a0 a1 a2)) (by kernel_rfl) [.agg ⟨vs 0 2⟩,var 2] (by kernel_rfl) (fD (Qk _) (by kernel_rfl))
def IU:List eZ:=Oi::IQ
theorem zK (L:List Int):∀e∈IU,fo aa (eO L) e:=iJ aaM (Qk L)
def NF:eZ:=⟨153,[some 2],[.a 2],58⟩
theorem aal:fo aa (eO []) NF:=iH 2 rfl<|fun a0 a1=>iM (es:=IU) (.agg ⟨[num (pR a0 a1),num (pU a0 a1)]⟩) (by kernel_rfl) [.agg ⟨vs 0 2⟩] (by kernel_rfl) (iD (mB 1003 [var 0,var 1]) (fC a0 a1) (by kernel_rfl)
  (fun c0=>iD (mB 23 [mI 1021 [var 0,var 1],.int .i64 (65536)]) (decide (65536≤(vY a0 a1))) (by kernel_rfl)
 (fun c1=>fD (zK _) (by simp only [pR,pU,c0,c1,cond_true]; kernel_rfl))
 (fun c1=>iD (mB 1057 [var 0,var 1,.int .i64 (16384)]) (mW a0 a1 16384) (by kernel_rfl)
   (fun c2=>iD (mB 1057 [var 0,var 1,.int .i64 (49152)]) (mW a0 a1 49152) (by kernel_rfl)
  (fun c3=>fD (zK _) (by simp only [pR,pU,c0,c1,c2,c3,cond_false,cond_true]; kernel_rfl))
  (fun c3=>fD (zK _) (by simp only [pR,pU,c0,c1,c2,c3,cond_false,cond_true]; kernel_rfl)))
   (fun c2=>iD (mB 1057 [var 0,var 1,.int .i64 (49152)]) (mW a0 a1 49152) (by kernel_rfl)
  (fun c3=>fD (zK _) (by simp only [pR,pU,c0,c1,c2,c3,cond_false,cond_true]; kernel_rfl))
  (fun c3=>fD (zK _) (by simp only [pR,pU,c0,c1,c2,c3,cond_false,cond_true]; kernel_rfl)))))
  (fun c0=>fD (zK _) (by simp only [pR,pU,c0,cond_false]; kernel_rfl)))
def IV:List eZ:=NF::IU
theorem zL (L:List Int):∀e∈IV,fo aa (eO L) e:=iJ aal (zK L)
def Ny:eZ:=⟨152,[some 2],[.a 2],60⟩
theorem aaf:fo aa (eO []) Ny:=iH 2 rfl<|fun a0 a1=>iM (es:=IV) (.agg ⟨[num (rP a0 a1),num (rQ a0 a1)]⟩) (by kernel_rfl) [.agg ⟨vs 0 2⟩] (by kernel_rfl) (iD (mB 1003 [var 0,var 1]) (fC a0 a1) (by kernel_rfl)
  (fun c0=>iD (mB 23 [mI 1021 [var 0,var 1],.int .i64 (65536)]) (decide (65536≤(vY a0 a1))) (by kernel_rfl)
 (fun c1=>fD (zL _) (by simp only [rP,rQ,c0,c1,cond_true]; kernel_rfl))
 (fun c1=>iD (mB 1057 [var 0,var 1,.int .i64 (0)]) (mW a0 a1 0) (by kernel_rfl)
   (fun c2=>iD (mB 1057 [var 0,var 1,.int .i64 (32768)]) (mW a0 a1 32768) (by kernel_rfl)
  (fun c3=>fD (zL _) (by simp only [rP,rQ,c0,c1,c2,c3,cond_false,cond_true]; kernel_rfl))
  (fun c3=>fD (zL _) (by simp only [rP,rQ,c0,c1,c2,c3,cond_false,cond_true]; kernel_rfl)))
   (fun c2=>iD (mB 1057 [var 0,var 1,.int .i64 (32768)]) (mW a0 a1 32768) (by kernel_rfl)
  (fun c3=>fD (zL _) (by simp only [rP,rQ,c0,c1,c2,c3,cond_false,cond_true]; kernel_rfl))
  (fun c3=>fD (zL _) (by simp only [rP,rQ,c0,c1,c2,c3,cond_false,cond_true]; kernel_rfl)))))
  (fun c0=>fD (zL _) (by simp only [rP,rQ,c0,cond_false]; kernel_rfl)))
def IW:List eZ:=Ny::IV
theorem Ql (L:List Int):∀e∈IW,fo aa (eO L) e:=iJ aaf (zL L)
def Og:eZ:=⟨72,[some 3],[.a 6],62⟩
theorem aaK:fo aa (eO []) Og:=iH 3 rfl<|fun a0 a1 a2=>iM (es:=IW) (.agg ⟨[num (RG a0 a1 a2),num (RH a0 a1 a2),num (RJ a0 a1 a2),num (RL a0 a1 a2),num (RN a0 a1 a2),num (RO a0 a1 a2)]⟩) (by kernel_rfl) [.agg ⟨vs 0 3⟩] (by kernel_rfl) (fD (Ql _) (by kernel_rfl))
def IX:List eZ:=Og::IW
theorem Qm (L:List Int):∀e∈IX,fo aa (eO L) e:=iJ aaK (Ql L)
def Oa:eZ:=⟨120,[some 6,some 6],[.a 6],68⟩
theorem aaF:fo aa (eO []) Oa:=iH 12 rfl<|fun a0 a1 a2 a3 a4 a5 a6 a7 a8 a9 a10 a11=>iM (es:=IX) (.agg ⟨[num (Ga a0 a1 a2 a3 a4 a5 a6 a7 a8 a9 a10 a11),num (Gb a0 a1 a2 a3 a4 a5 a6 a7 a8 a9 a10 a11),num (Gc a0 a1 a2 a3 a4 a5 a6 a7 a8 a9 a10 a11),num (Gd a0 a1 a2 a3 a4 a5 a6 a7 a8 a9 a10 a11),num (Gf a0 a1 a2 a3 a4 a5 a6 a7 a8 a9 a10 a11),num (Gg a0 a1 a2 a3 a4 a5 a6 a7 a8 a9 a10 a11)]⟩) (by kernel_rfl) [.agg ⟨vs 0 6⟩,.agg ⟨vs 6 6⟩] (by kernel_rfl) (fD (Qm _) (by kernel_rfl))
def IY:List eZ:=Oa::IX
theorem Qn (L:List Int):∀e∈IY,fo aa (eO L) e:=iJ aaF (Qm L)
def Od:eZ:=⟨140,[],[.a 18],74⟩
theorem aaI:fo aa (eO []) Od:=iH 0 rfl<|iM (es:=IY) (.agg ⟨[num Rk,num Rl,num Rv,num Rw,num Rx,num Ry,num Rz,num RA,num RD,num RF,num Rm,num Rn,num Ro,num Rp,num Rq,num Rs,num Rt,num Ru]⟩) (by kernel_rfl) [] (by kernel_rfl) (fD (Qn _) (by kernel_rfl))
def IZ:List eZ:=Od::IY
theorem Bg (L:List Int):∀e∈IZ,fo aa (eO L) e:=iJ aaI (Qn L)
def Oh:eZ:=⟨150,[none,some 2],[.a 18],92⟩
theorem aaL:fo aa (eO []) Oh:=iH 3 rfl<|fun a0 a1 a2=>iM (es:=IZ) (.agg ⟨[num (yD a0 a1 a2),num (yE a0 a1 a2),num (yN a0 a1 a2),num (yO a0 a1 a2),num (yP a0 a1 a2),num (yQ a0 a1 a2),num (yR a0 a1 a2),num (yS a0 a1 a2),num (yT a0 a1 a2),num (yU a0 a1 a2),num (yF a0 a1 a2),num (yG a0 a1 a2),num (yH a0 a1 a2),num (yI a0 a1 a2),num (yJ a0 a1 a2),num (yK a0 a1 a2),num (yL a0 a1 a2),num (yM a0 a1 a2)]⟩) (by kernel_rfl) [var 0,.agg ⟨vs 1 2⟩] (by kernel_rfl) (iD (mB 1003 [var 1,var 2]) (fC a1 a2) (by kernel_rfl)
  (fun c0=>iD (mB 24 [var 0,.int .i64 (0)]) (a0==0) (by kernel_rfl)
 (fun c1=>fD (Bg _) (by simp only [yD,yE,yN,yO,yP,yQ,yR,yS,yT,yU,yF,yG,yH,yI,yJ,yK,yL,yM,c0,c1,cond_true]; kernel_rfl))
 (fun c1=>iD (mB 24 [var 0,.int .i64 (1)]) (a0==1) (by kernel_rfl)
   (fun c2=>fD (Bg _) (by simp only [yD,yE,yN,yO,yP,yQ,yR,yS,yT,yU,yF,yG,yH,yI,yJ,yK,yL,yM,c0,c1,c2,cond_false,cond_true]; kernel_rfl))
   (fun c2=>iD (mB 24 [var 0,.int .i64 (2)]) (a0==2) (by kernel_rfl)
  (fun c3=>fD (Bg _) (by simp only [yD,yE,yN,yO,yP,yQ,yR,yS,yT,yU,yF,yG,yH,yI,yJ,yK,yL,yM,c0,c1,c2,c3,cond_false,cond_true]; kernel_rfl))
  (fun c3=>fD (Bg _) (by simp only [yD,yE,yN,yO,yP,yQ,yR,yS,yT,yU,yF,yG,yH,yI,yJ,yK,yL,yM,c0,c1,c2,c3,cond_false,cond_true]; kernel_rfl)))))
  (fun c0=>fD (Bg _) (by simp only [yD,yE,yN,yO,yP,yQ,yR,yS,yT,yU,yF,yG,yH,yI,yJ,yK,yL,yM,c0,cond_false]; kernel_rfl)))
def I4:List eZ:=Oh::IZ
theorem Qo (L:List Int):∀e∈I4,fo aa (eO L) e:=iJ aaL (Bg L)
def Ob:eZ:=⟨121,[some 18,some 6],[.a 6],110⟩
theorem aaG:fo aa (eO []) Ob:=iH 24 rfl<|fun a0 a1 a2 a3 a4 a5 a6 a7 a8 a9 a10 a11 a12 a13 a14 a15 a16 a17 a18 a19 a20 a21 a22 a23=>iM (es:=I4) (.agg ⟨[num (rV a0 a1 a2 a3 a4 a5 a6 a7 a8 a9 a10 a11 a12 a13 a14 a15 a16 a17 a18 a19 a20 a21 a22 a23),num (rW a0 a1 a2 a3 a4 a5 a6 a7 a8 a9 a10 a11 a12 a13 a14 a15 a16 a17 a18 a19 a20 a21 a22 a23),num (rX a0 a1 a2 a3 a4 a5 a6 a7 a8 a9 a10 a11 a12 a13 a14 a15 a16 a17 a18 a19 a20 a21 a22 a23),num (rY a0 a1 a2 a3 a4 a5 a6 a7 a8 a9 a10 a11 a12 a13 a14 a15 a16 a17 a18 a19 a20 a21 a22 a23),num (rZ a0 a1 a2 a3 a4 a5 a6 a7 a8 a9 a10 a11 a12 a13 a14 a15 a16 a17 a18 a19 a20 a21 a22 a23),num (r9 a0 a1 a2 a3 a4 a5 a6 a7 a8 a9 a10 a11 a12 a13 a14 a15 a16 a17 a18 a19 a20 a21 a22 a23)]⟩) (by kernel_rfl) [.agg ⟨vs 0 18⟩,.agg ⟨vs 18 6⟩] (by kernel_rfl) (fD (Qo _) (by kernel_rfl))
def I5:List eZ:=Ob::I4
theorem Qp (L:List Int):∀e∈I5,fo aa (eO L) e:=iJ aaG (Qo L)
def Oe:eZ:=⟨144,[none],[.i],116⟩
theorem aaJ:fo aa (eO []) Oe:=iH 1 rfl<|fun a0=>iM (es:=I5) (num (mV a0)) (by kernel_rfl) [var 0] (by kernel_rfl) (fD (Qp _) (by kernel_rfl))
def I6:List eZ:=Oe::I5
theorem Qq (L:List Int):∀e∈I6,fo aa (eO L) e:=iJ aaJ (Qp L)
def Oc:eZ:=⟨134,[some 18,some 18],[.a 18],117⟩
theorem aaH:fo aa (eO []) Oc:=iH 36 rfl<|fun a0 a1 a2 a3 a4 a5 a6 a7 a8 a9 a10 a11 a12 a13 a14 a15 a16 a17 a18 a19 a20 a21 a22 a23 a24 a25 a26 a27 a28 a29 a30 a31 a32 a33 a34 a35=>iM (es:=I6) (.agg ⟨[num (Lb a0 a1 a2 a3 a4 a5 a6 a7 a8 a9 a10 a11 a12 a13 a14 a15 a16 a17 a18 a19 a20 a21 a22 a23 a24 a25 a26 a27 a28 a29 a30 a31 a32 a33 a34 a35),num (Lc a0 a1 a2 a3 a4 a5 a6 a7 a8 a9 a10 a11 a12 a13 a14 a15 a16 a17 a18 a19 a20 a21 a22 a23 a24 a25 a26 a27 a28 a29 a30 a31 a32 a33 a34 a35),num (Lp a0 a1 a2 a3 a4 a5 a6 a7 a8 a9 a10 a11 a12 a13 a14 a15 a16 a17 a18 a19 a20 a21 a22 a23 a24 a25 a26 a27 a28 a29 a30 a31 a32 a33 a34 a35),num (Lr a0 a1 a2 a3 a4 a5 a6 a7 a8 a9 a10 a11 a12 a13 a14 a15 a16 a17 a18 a19 a20 a21 a22 a23 a24 a25 a26 a27 a28 a29 a30 a31 a32 a33 a34 a35),num (Ls a0 a1 a2 a3 a4 a5 a6 a7 a8 a9 a10 a11 a12 a13 a14 a15 a16 a17 a18 a19 a20 a21 a22 a23 a24 a25 a26 a27 a28 a29 a30 a31 a32 a33 a34 a35),num (Lt a0 a1 a2 a3 a4 a5 a6 a7 a8 a9 a10 a11 a12 a13 a14 a15 a16 a17 a18 a19 a20 a21 a22 a23 a24 a25 a26 a27 a28 a29 a30 a31 a32 a33 a34 a35),num (Lu a0 a1 a2 a3 a4 a5 a6 a7 a8 a9 a10 a11 a12 a13 a14 a15 a16 a17 a18 a19 a20 a21 a22 a23 a24 a25 a26 a27 a28 a29 a30 a31 a32 a33 a34 a35),num (Lv a0 a1 a2 a3 a4 a5 a6 a7 a8 a9 a10 a11 a12 a13 a14 a15 a16 a17 a18 a19 a20 a21 a22 a23 a24 a25 a26 a27 a28 a29 a30 a31 a32 a33 a34 a35),num (Lx a0 a1 a2 a3 a4 a5 a6 a7 a8 a9 a10 a11 a12 a13 a14 a15 a16 a17 a18 a19 a20 a21 a22 a23 a24 a25 a26 a27 a28 a29 a30 a31 a32 a33 a34 a35),num (LA a0 a1 a2 a3 a4 a5 a6 a7 a8 a9 a10 a11 a12 a13 a14 a15 a16 a17 a18 a19 a20 a21 a22 a23 a24 a25 a26 a27 a28 a29 a30 a31 a32 a33 a34 a35),num (Ld a0 a1 a2 a3 a4 a5 a6 a7 a8 a9 a10 a11 a12 a13 a14 a15 a16 a17 a18 a19 a20 a21 a22 a23 a24 a25 a26 a27 a28 a29 a30 a31 a32 a33 a34 a35),num (Lf a0 a1 a2 a3 a4 a5 a6 a7 a8 a9 a10 a11 a12 a13 a14 a15 a16 a17 a18 a19 a20 a21 a22 a23 a24 a25 a26 a27 a28 a29 a30 a31 a32 a33 a34 a35),num (Lg a0 a1 a2 a3 a4 a5 a6 a7 a8 a9 a10 a11 a12 a13 a14 a15 a16 a17 a18 a19 a20 a21 a22 a23 a24 a25 a26 a27 a28 a29 a30 a31 a32 a33 a34 a35),num (Lh a0 a1 a2 a3 a4 a5 a6 a7 a8 a9 a10 a11 a12 a13 a14 a15 a16 a17 a18 a19 a20 a21 a22 a23 a24 a25 a26 a27 a28 a29 a30 a31 a32 a33 a34 a35),num (Li a0 a1 a2 a3 a4 a5 a6 a7 a8 a9 a10 a11 a12 a13 a14 a15 a16 a17 a18 a19 a20 a21 a22 a23 a24 a25 a26 a27 a28 a29 a30 a31 a32 a33 a34 a35),num (Lj a0 a1 a2 a3 a4 a5 a6 a7 a8 a9 a10 a11 a12 a13 a14 a15 a16 a17 a18 a19 a20 a21 a22 a23 a24 a25 a26 a27 a28 a29 a30 a31 a32 a33 a34 a35),num (Ll a0 a1 a2 a3 a4 a5 a6 a7 a8 a9 a10 a11 a12 a13 a14 a15 a16 a17 a18 a19 a20 a21 a22 a23 a24 a25 a26 a27 a28 a29 a30 a31 a32 a33 a34 a35),num (Lm a0 a1 a2 a3 a4 a5 a6 a7 a8 a9 a10 a11 a12 a13 a14 a15 a16 a17 a18 a19 a20 a21 a22 a23 a24 a25 a26 a27 a28 a29 a30 a31 a32 a33 a34 a35)]⟩) (by kernel_rfl) [.agg ⟨vs 0 18⟩,.agg ⟨vs 18 18⟩] (by kernel_rfl) (fD (Qq _) (by kernel_rfl))
def I7:List eZ:=Oc::I6
theorem Qs (L:List Int):∀e∈I7,fo aa (eO L) e:=iJ aaH (Qq L)
def Oo:eZ:=⟨132,[some 6],[.a 24],135⟩
theorem aaQ:fo aa (eO []) Oo:=iH 6 rfl<|fun a0 a1 a2 a3 a4 a5=>iM (es:=I7) (.agg ⟨[num (Tk a0 a1 a2 a3 a4 a5),num (Tm a0 a1 a2 a3 a4 a5),num (TB a0 a1 a2 a3 a4 a5),num (TG a0 a1 a2 a3 a4 a5),num (TH a0 a1 a2 a3 a4 a5),num (TI a0 a1 a2 a3 a4 a5),num (TJ a0 a1 a2 a3 a4 a5),num (TK a0 a1 a2 a3 a4 a5),num (TL a0 a1 a2 a3 a4 a5),num (TM a0 a1 a2 a3 a4 a5),num (Tn a0 a1 a2 a3 a4 a5),num (Tp a0 a1 a2 a3 a4 a5),num (Tq a0 a1 a2 a3 a4 a5),num (Tu a0 a1 a2 a3 a4 a5),num (Tv a0 a1 a2 a3 a4 a5),num (Tw a0 a1 a2 a3 a4 a5),num (Tx a0 a1 a2 a3 a4 a5),num (Ty a0 a1 a2 a3 a4 a5),num (Tz a0 a1 a2 a3 a4 a5),num (TA a0 a1 a2 a3 a4 a5),num (TC a0 a1 a2 a3 a4 a5),num (TD a0 a1 a2 a3 a4 a5),num (TE a0 a1 a2 a3 a4 a5),num (TF a0 a1 a2 a3 a4 a5)]⟩) (by kernel_rfl) [.agg ⟨vs 0 6⟩] (by kernel_rfl) (fD (Qs _) (by kernel_rfl))
def I8:List eZ:=Oo::I7
theorem Qu (L:List Int):∀e∈I8,fo aa (eO L) e:=iJ aaQ (Qs L)
def Cv:eZ:=⟨146,[none,some 2],[.a 24],159⟩
theorem Qc:fo aa (eO []) Cv:=iH 3 rfl<|fun a0 a1 a2=>iM (es:=I8) (.agg ⟨[num (TN a0 a1 a2),num (TP a0 a1 a2),num (Ua a0 a1 a2),num (Uf a0 a1 a2),num (Ug a0 a1 a2),num (Uh a0 a1 a2),num (Ui a0 a1 a2),num (Uj a0 a1 a2),num (Uk a0 a1 a2),num (Ul a0 a1 a2),num (TQ a0 a1 a2),num (TR a0 a1 a2),num (TS a0 a1 a2),num (TT a0 a1 a2),num (TU a0 a1 a2),num (TV a0 a1 a2),num (TW a0 a1 a2),num (TY a0 a1 a2),num (TZ a0 a1 a2),num (T9 a0 a1 a2),num (Ub a0 a1 a2),num (Uc a0 a1 a2),num (Ud a0 a1 a2),num (Ue a0 a1 a2)]⟩) (by kernel_rfl) [var 0,.agg ⟨vs 1 2⟩] (by kernel_rfl) (fD (Qu _) (by kernel_rfl))
def I9:List eZ:=Cv::I8
theorem Qv (L:List Int):∀e∈I9,fo aa (eO L) e:=iJ Qc (Qu L)
def Om:eZ:=⟨147,[],[.a 24],183⟩
theorem aaP:fo aa (eO []) Om:=iH 0 rfl<|iM (es:=I9) (.agg ⟨[num SB,num SC,num SV,num Tc,num Td,num Te,num Tf,num Tg,num Ti,num Tj,num SE,num SF,num SG,num SH,num SI,num SK,num SL,num SN,num SQ,num SS,num SX,num SY,num S9,num Ta]⟩) (by kernel_rfl) [] (by kernel_rfl) (fD (Qv _) (by kernel_rfl))
def Ja:List eZ:=Om::I9
theorem Qw (L:List Int):∀e∈Ja,fo aa (eO L) e:=iJ aaP (Qv L)
def Cu:eZ:=⟨118,[some 24,some 24],[.a 24],207⟩
theorem Qb:fo aa (eO []) Cu:=iH 48 rfl<|fun a0 a1 a2 a3 a4 a5 a6 a7 a8 a9 a10 a11 a12 a13 a14 a15 a16 a17 a18 a19 a20 a21 a22 a23 a24 a25 a26 a27 a28 a29 a30 a31 a32 a33 a34 a35 a36 a37 a38 a39 a40 a41 a42 a43 a44 a45 a46 a47=>iM (es:=Ja) (.agg ⟨[num (RZ a0 a1 a2 a3 a4 a5 a6 a7 a8 a9 a10 a11 a12 a13 a14 a15 a16 a17 a18 a19 a20 a21 a22 a23 a24 a25 a26 a27 a28 a29 a30 a31 a32 a33 a34 a35 a36 a37 a38 a39 a40 a41 a42 a43 a44 a45 a46 a47),num (R3 a0 a1 a2 a3 a4 a5 a6 a7 a8 a9 a10 a11 a12 a13 a14 a15 a16 a17 a18 a19 a20 a21 a22 a23 a24 a25 a26 a27 a28 a29 a30 a31 a32 a33 a34 a35 a36 a37 a38 a39 a40 a41 a42 a43 a44 a45 a46 a47),num (Sg a0 a1 a2 a3 a4 a5 a6 a7 a8 a9 a10 a11 a12 a13 a14 a15 a16 a17 a18 a19 a20 a21 a22 a23 a24 a25 a26 a27 a28 a29 a30 a31 a32 a33 a34 a35 a36 a37 a38 a39 a40 a41 a42 a43 a44 a45 a46 a47),num (Sr a0 a1 a2 a3 a4 a5 a6 a7 a8 a9 a10 a11 a12 a13 a14 a15 a16 a17 a18 a19 a20 a21 a22 a23 a24 a25 a26 a27 a28 a29 a30 a31 a32 a33 a34 a35 a36 a37 a38 a39 a40 a41 a42 a43 a44 a45 a46 a47),num (Su a0 a1 a2 a3 a4 a5 a6 a7 a8 a9 a10 a11 a12 a13 a14 a15 a16 a17 a18 a19 a20 a21 a22 a23 a24 a25 a26 a27 a28 a29 a30 a31 a32 a33 a34 a35 a36 a37 a38 a39 a40 a41 a42 a43 a44 a45 a46 a47),num (Sv a0 a1 a2 a3 a4 a5 a6 a7 a8 a9 a10 a11 a12 a13 a14 a15 a16 a17 a18 a19 a20 a21 a22 a23 a24 a25 a26 a27 a28 a29 a30 a31 a32 a33 a34 a35 a36 a37 a38 a39 a40 a41 a42 a43 a44 a45 a46 a47),num (Sw a0 a1 a2 a3 a4 a5 a6 a7 a8 a9 a10 a11 a12 a13 a14 a15 a16 a17 a18 a19 a20 a21 a22 a23 a24 a25 a26 a27 a28 a29 a30 a31 a32 a33 a34 a35 a36 a37 a38 a39 a40 a41 a42 a43 a44 a45 a46 a47),num (Sy a0 a1 a2 a3 a4 a5 a6 a7 a8 a9 a10 a11 a12 a13 a14 a15 a16 a17 a18 a19 a20 a21 a22 a23 a24 a25 a26 a27 a28 a29 a30 a31 a32 a33 a34 a35 a36 a37 a38 a39 a40 a41 a42 a43 a44 a45 a46 a47),num (Sz a0 a1 a2 a3 a4 a5 a6 a7 a8 a9 a10 a11 a12 a13 a14 a15 a16 a17 a18 a19 a20 a21 a22 a23 a24 a25 a26 a27 a28 a29 a30 a31 a32 a33 a34 a35 a36 a37 a38 a39 a40 a41 a42 a43 a44 a45 a46 a47),num (SA a0 a1 a2 a3 a4 a5 a6 a7 a8 a9 a10 a11 a12 a13 a14 a15 a16 a17 a18 a19 a20 a21 a22 a23 a24 a25 a26 a27 a28 a29 a30 a31 a32 a33 a34 a35 a36 a37 a38 a39 a40 a41 a42 a43 a44 a45 a46 a47),num (R4 a0 a1 a2 a3 a4 a5 a6 a7 a8 a9 a10 a11 a12 a13 a14 a15 a16 a17 a18 a19 a20 a21 a22 a23 a24 a25 a26 a27 a28 a29 a30 a31 a32 a33 a34 a35 a36 a37 a38 a39 a40 a41 a42 a43 a44 a45 a46 a47),num (R5 a0 a1 a2 a3 a4 a5 a6 a7 a8 a9 a10 a11 a12 a13 a14 a15 a16 a17 a18 a19 a20 a21 a22 a23 a24 a25 a26 a27 a28 a29 a30 a31 a32 a33 a34 a35 a36 a37 a38 a39 a40 a41 a42 a43 a44 a45 a46 a47),num (R6 a0 a1 a2 a3 a4 a5 a6 a7 a8 a9 a10 a11 a12 a13 a14 a15 a16 a17 a18 a19 a20 a21 a22 a23 a24 a25 a26 a27 a28 a29 a30 a31 a32 a33 a34 a35 a36 a37 a38 a39 a40 a41 a42 a43 a44 a45 a46 a47),num (R7 a0 a1 a2 a3 a4 a5 a6 a7 a8 a9 a10 a11 a12 a13 a14 a15 a16 a17 a18 a19 a20 a21 a22 a23 a24 a25 a26 a27 a28 a29 a30 a31 a32 a33 a34 a35 a36 a37 a38 a39 a40 a41 a42 a43 a44 a45 a46 a47),num (R8 a0 a1 a2 a3 a4 a5 a6 a7 a8 a9 a10 a11 a12 a13 a14 a15 a16 a17 a18 a19 a20 a21 a22 a23 a24 a25 a26 a27 a28 a29 a30 a31 a32 a33 a34 a35 a36 a37 a38 a39 a40 a41 a42 a43 a44 a45 a46 a47),num (R9 a0 a1 a2 a3 a4 a5 a6 a7 a8 a9 a10 a11 a12 a13 a14 a15 a16 a17 a18 a19 a20 a21 a22 a23 a24 a25 a26 a27 a28 a29 a30 a31 a32 a33 a34 a35 a36 a37 a38 a39 a40 a41 a42 a43 a44 a45 a46 a47),num (Sa a0 a1 a2 a3 a4 a5 a6 a7 a8 a9 a10 a11 a12 a13 a14 a15 a16 a17 a18 a19 a20 a21 a22 a23 a24 a25 a26 a27 a28 a29 a30 a31 a32 a33 a34 a35 a36 a37 a38 a39 a40 a41 a42 a43 a44 a45 a46 a47),num (Sb a0 a1 a2 a3 a4 a5 a6 a7 a8 a9 a10 a11 a12 a13 a14 a15 a16 a17 a18 a19 a20 a21 a22 a23 a24 a25 a26 a27 a28 a29 a30 a31 a32 a33 a34 a35 a36 a37 a38 a39 a40 a41 a42 a43 a44 a45 a46 a47),num (Sc a0 a1 a2 a3 a4 a5 a6 a7 a8 a9 a10 a11 a12 a13 a14 a15 a16 a17 a18 a19 a20 a21 a22 a23 a24 a25 a26 a27 a28 a29 a30 a31 a32 a33 a34 a35 a36 a37 a38 a39 a40 a41 a42 a43 a44 a45 a46 a47),num (Sd a0 a1 a2 a3 a4 a5 a6 a7 a8 a9 a10 a11 a12 a13 a14 a15 a16 a17 a18 a19 a20 a21 a22 a23 a24 a25 a26 a27 a28 a29 a30 a31 a32 a33 a34 a35 a36 a37 a38 a39 a40 a41 a42 a43 a44 a45 a46 a47),num (Si a0 a1 a2 a3 a4 a5 a6 a7 a8 a9 a10 a11 a12 a13 a14 a15 a16 a17 a18 a19 a20 a21 a22 a23 a24 a25 a26 a27 a28 a29 a30 a31 a32 a33 a34 a35 a36 a37 a38 a39 a40 a41 a42 a43 a44 a45 a46 a47),num (Sj a0 a1 a2 a3 a4 a5 a6 a7 a8 a9 a10 a11 a12 a13 a14 a15 a16 a17 a18 a19 a20 a21 a22 a23 a24 a25 a26 a27 a28 a29 a30 a31 a32 a33 a34 a35 a36 a37 a38 a39 a40 a41 a42 a43 a44 a45 a46 a47),num (Sk a0 a1 a2 a3 a4 a5 a6 a7 a8 a9 a10 a11 a12 a13 a14 a15 a16 a17 a18 a19 a20 a21 a22 a23 a24 a25 a26 a27 a28 a29 a30 a31 a32 a33 a34 a35 a36 a37 a38 a39 a40 a41 a42 a43 a44 a45 a46 a47),num (Sn a0 a1 a2 a3 a4 a5 a6 a7 a8 a9 a10 a11 a12 a13 a14 a15 a16 a17 a18 a19 a20 a21 a22 a23 a24 a25 a26 a27 a28 a29 a30 a31 a32 a33 a34 a35 a36 a37 a38 a39 a40 a41 a42 a43 a44 a45 a46 a47)]⟩) (by kernel_rfl) [.agg ⟨vs 0 24⟩,.agg ⟨vs 24 24⟩] (by kernel_rfl) (fD (Qw _) (by kernel_rfl))
def Jb:List eZ:=Cu::Ja
theorem Qx (L:List Int):∀e∈Jb,fo aa (eO L) e:=iJ Qb (Qw L)
def Ol:eZ:=⟨71,[some 24,some 6],[.a 6],231⟩
theorem aaO:fo aa (eO []) Ol:=iH 30 rfl<|fun a0 a1 a2 a3 a4 a5 a6 a7 a8 a9 a10 a11 a12 a13 a14 a15 a16 a17 a18 a19 a20 a21 a22 a23 a24 a25 a26 a27 a28 a29=>iM (es:=Jb) (.agg ⟨[num (RQ a0 a1 a2 a3 a4 a5 a6 a7 a8 a9 a10 a11 a12 a13 a14 a15 a16 a17 a18 a19 a20 a21 a22 a23 a24 a25 a26 a27 a28 a29),num (RS a0 a1 a2 a3 a4 a5 a6 a7 a8 a9 a10 a11 a12 a13 a14 a15 a16 a17 a18 a19 a20 a21 a22 a23 a24 a25 a26 a27 a28 a29),num (RU a0 a1 a2 a3 a4 a5 a6 a7 a8 a9 a10 a11 a12 a13 a14 a15 a16 a17 a18 a19 a20 a21 a22 a23 a24 a25 a26 a27 a28 a29),num (RV a0 a1 a2 a3 a4 a5 a6 a7 a8 a9 a10 a11 a12 a13 a14 a15 a16 a17 a18 a19 a20 a21 a22 a23 a24 a25 a26 a27 a28 a29),num (RX a0 a1 a2 a3 a4 a5 a6 a7 a8 a9 a10 a11 a12 a13 a14 a15 a16 a17 a18 a19 a20 a21 a22 a23 a24 a25 a26 a27 a28 a29),num (RY a0 a1 a2 a3 a4 a5 a6 a7 a8 a9 a10 a11 a12 a13 a14 a15 a16 a17 a18 a19 a20 a21 a22 a23 a24 a25 a26 a27 a28 a29)]⟩) (by kernel_rfl) [.agg ⟨vs 0 24⟩,.agg ⟨vs 24 6⟩] (by kernel_rfl) (fD (Qx _) (by kernel_rfl))
def Jc:List eZ:=Ol::Jb
theorem Fy (L:List Int):∀e∈Jc,fo aa (eO L) e:=iJ aaO (Qx L)
def NP:eZ:=⟨30,[some 2],[.b],237⟩
theorem aat:fo aa (eO []) NP:=iH 2 rfl<|fun a0 a1=>iM (es:=Jc) (.bool (pW a0 a1)) (by kernel_rfl) [.agg ⟨vs 0 2⟩] (by kernel_rfl) (iD (mB 21 [.int .i64 (-1152921504606846976),var 0]) (decide ((-1152921504606846976)≤a0)) (by kernel_rfl)
  (fun c0=>iD (mB 21 [var 0,var 1]) (decide (a0≤a1)) (by kernel_rfl)
 (fun c1=>fD (Fy _) (by simp only [pW,c0,c1,cond_true]; kernel_rfl))
 (fun c1=>fD (Fy _) (by simp only [pW,c0,c1,cond_false,cond_true]; kernel_rfl)))
  (fun c0=>fD (Fy _) (by simp only [pW,c0,cond_false]; kernel_rfl)))
def Jd:List eZ:=NP::Jc
theorem Qy (L:List Int):∀e∈Jd,fo aa (eO L) e:=iJ aat (Fy L)
def NL:eZ:=⟨81,[some 2],[.a 2],238⟩
theorem aar:fo aa (eO []) NL:=iH 2 rfl<|fun a0 a1=>iM (es:=Jd) (.agg ⟨[num (mE a0 a1),num (mF a0 a1)]⟩) (by kernel_rfl) [.agg ⟨vs 0 2⟩] (by kernel_rfl) (fD (Qy _) (by kernel_rfl))
def Jf:List eZ:=NL::Jd
theorem Qz (L:List Int):∀e∈Jf,fo aa (eO L) e:=iJ aar (Qy L)
def NN:eZ:=⟨51,[none],[.a 2],240⟩
theorem aas:fo aa (eO []) NN:=iH 1 rfl<|fun a0=>iM (es:=Jf) (.agg ⟨[num (Du a0),num (Dv a0)]⟩) (by kernel_rfl) [var 0] (by kernel_rfl) (fD (Qz _) (by kernel_rfl))
def Jg:List eZ:=NN::Jf
theorem FC (L:List Int):∀e∈Jg,fo aa (eO L) e:=iJ aas (Qz L)
def NQ:eZ:=⟨52,[none],[.b],242⟩
theorem aau:fo aa (eO []) NQ:=iH 1 rfl<|fun a0=>iM (es:=Jg) (.bool (kG a0)) (by kernel_rfl) [var 0] (by kernel_rfl) (iD (mB 24 [var 0,.int .i64 (1)]) (a0==1) (by kernel_rfl)
  (fun c0=>fD (FC _) (by simp only [kG,c0,cond_true]; kernel_rfl))
  (fun c0=>iD (mB 24 [var 0,.int .i64 (2)]) (a0==2) (by kernel_rfl)
 (fun c1=>fD (FC _) (by simp only [kG,c0,c1,cond_false,cond_true]; kernel_rfl))
 (fun c1=>fD (FC _) (by simp only [kG,c0,c1,cond_false]; kernel_rfl))))
def Jh:List eZ:=NQ::Jg
theorem Dk (L:List Int):∀e∈Jh,fo aa (eO L) e:=iJ aau (FC L)
def NI:eZ:=⟨13,[some 2,some 2],[.a 2,.b],243⟩
theorem aao:fo aa (eO []) NI:=iH 4 rfl<|fun a0 a1 a2 a3=>iM (es:=Jh) (.tuple ⟨[.agg ⟨[num (mq a0 a1 a2 a3),num (mD a0 a1 a2 a3)]⟩,.bool (oo a0 a1 a2 a3)]⟩) (by kernel_rfl) [.agg ⟨vs 0 2⟩,.agg ⟨vs 2 2⟩] (by kernel_rfl) (iD (mB 1237 [var 0,var 1]) (pW a0 a1) (by kernel_rfl)
  (fun c0=>iD (mB 1237 [var 2,var 3]) (pW a2 a3) (by kernel_rfl)
 (fun c1=>iD (mB 1237 [mI 2 [var 0,var 2],mI 2 [var 1,var 3]]) (pW (wr (a0+a2)) (wr (a1+a3))) (by kernel_rfl)
   (fun c2=>fD (Dk _) (by simp only [mq,mD,oo,c0,c1,c2,cond_true]; kernel_rfl))
   (fun c2=>fD (Dk _) (by simp only [mq,mD,oo,c0,c1,c2,cond_false,cond_true]; kernel_rfl)))
 (fun c1=>fD (Dk _) (by simp only [mq,mD,oo,c0,c1,cond_false,cond_true]; kernel_rfl)))
  (fun c0=>fD (Dk _) (by simp only [mq,mD,oo,c0,cond_false]; kernel_rfl)))
def OA:List eZ:=NI::Jh
theorem aaV (L:List Int):∀e∈OA,fo aa (eO L) e:=iJ aao (Dk L)
def NK:eZ:=⟨12,[some 2,some 2],[.a 2,.b],246⟩
theorem aaq:fo aa (eO []) NK:=iH 4 rfl<|fun a0 a1 a2 a3=>XB (.tuple ⟨[.agg ⟨[num (iA a0 a1 a2 a3),num (iB a0 a1 a2 a3)]⟩,.bool (pV a0 a1 a2 a3)]⟩) (by kernel_rfl) fun w=>by
 obtain ⟨lo,hi,ok,h1,h2,h3,h4⟩:=En.PS a0 a1 a2 a3
 refine (h4 w).mono ?_
 rintro e w' ⟨rfl,hb⟩
 refine ⟨?_,hb⟩
 cases ok with
 | true =>
  obtain ⟨rfl,rfl⟩:=h2 rfl
  simp only [iA,iB,pV,←h1,cond_true]
  rfl
 | false =>
  obtain ⟨rfl,rfl⟩:=h3 rfl
  simp only [iA,iB,pV,←h1,cond_false]
  rfl
def Ji:List eZ:=NK::OA
theorem Bh (L:List Int):∀e∈Ji,fo aa (eO L) e:=iJ aaq (aaV L)
def NJ:eZ:=⟨70,[none,some 18],[.a 6],249⟩
theorem aap:fo aa (eO []) NJ:=iH 19 rfl<|fun a0 a1 a2 a3 a4 a5 a6 a7 a8 a9 a10 a11 a12 a13 a14 a15 a16 a17 a18=>iM (es:=Ji) (.agg ⟨[num (zP a0 a1 a2 a3 a4 a5 a6 a7 a8 a9 a10 a11 a12 a13 a14 a15 a16 a17 a18),num (zQ a0 a1 a2 a3 a4 a5 a6 a7 a8 a9 a10 a11 a12 a13 a14 a15 a16 a17 a18),num (zR a0 a1 a2 a3 a4 a5 a6 a7 a8 a9 a10 a11 a12 a13 a14 a15 a16 a17 a18),num (zS a0 a1 a2 a3 a4 a5 a6 a7 a8 a9 a10 a11 a12 a13 a14 a15 a16 a17 a18),num (zT a0 a1 a2 a3 a4 a5 a6 a7 a8 a9 a10 a11 a12 a13 a14 a15 a16 a17 a18),num (zU a0 a1 a2 a3 a4 a5 a6 a7 a8 a9 a10 a11 a12 a13 a14 a15 a16 a17 a18)]⟩) (by kernel_rfl) [var 0,.agg ⟨vs 1 18⟩] (by kernel_rfl) (iD (mB 24 [var 0,.int .i64 (2)]) (a0==2) (by kernel_rfl)
  (fun c0=>fD (Bh _) (by simp only [zP,zQ,zR,zS,zT,zU,c0,cond_true]; kernel_rfl))
  (fun c0=>iD (mB 24 [var 0,.int .i64 (5)]) (a0==5) (by kernel_rfl)
 (fun c1=>fD (Bh _) (by simp only [zP,zQ,zR,zS,zT,zU,c0,c1,cond_false,cond_true]; kernel_rfl))
 (fun c1=>iD (mB 24 [var 0,.int .i64 (3)]) (a0==3) (by kernel_rfl)
   (fun c2=>fD (Bh _) (by simp only [zP,zQ,zR,zS,zT,zU,c0,c1,c2,cond_false,cond_true]; kernel_rfl))
   (fun c2=>iD (mB 24 [var 0,.int .i64 (6)]) (a0==6) (by kernel_rfl)
  (fun c3=>fD (Bh _) (by simp only [zP,zQ,zR,zS,zT,zU,c0,c1,c2,c3,cond_false,cond_true]; kernel_rfl))
  (fun c3=>fD (Bh _) (by simp only [zP,zQ,zR,zS,zT,zU,c0,c1,c2,c3,cond_false]; kernel_rfl))))))
def Jj:List eZ:=NJ::Ji
theorem wV (L:List Int):∀e∈Jj,fo aa (eO L) e:=iJ aap (Bh L)
def Nz:eZ:=⟨19,[none,none,none],[.a 3],255⟩
theorem aag:fo aa (eO []) Nz:=iH 3 rfl<|fun a0 a1 a2=>iM (es:=Jj) (.agg ⟨[num (rR a0 a1 a2),num (rT a0 a1 a2),num (rU a0 a1 a2)]⟩) (by kernel_rfl) [var 0,var 1,var 2] (by kernel_rfl) (iD (mB 20 [mI 6 [var 0,.int .i64 (40001)],.int .i64 (0)]) (decide ((bP a0 40001)<0)) (by kernel_rfl)
  (fun c0=>iD (mB 20 [mI 6 [var 1,.int .i64 (40001)],.int .i64 (0)]) (decide ((bP a1 40001)<0)) (by kernel_rfl)
 (fun c1=>iD (mB 20 [mI 6 [var 2,.int .i64 (2097152)],.int .i64 (0)]) (decide ((bP a2 2097152)<0)) (by kernel_rfl)
   (fun c2=>fD (wV _) (by simp only [rR,rT,rU,c0,c1,c2,cond_true]; kernel_rfl))
   (fun c2=>fD (wV _) (by simp only [rR,rT,rU,c0,c1,c2,cond_false,cond_true]; kernel_rfl)))
 (fun c1=>iD (mB 20 [mI 6 [var 2,.int .i64 (2097152)],.int .i64 (0)]) (decide ((bP a2 2097152)<0)) (by kernel_rfl)
   (fun c2=>fD (wV _) (by simp only [rR,rT,rU,c0,c1,c2,cond_false,cond_true]; kernel_rfl))
   (fun c2=>fD (wV _) (by simp only [rR,rT,rU,c0,c1,c2,cond_false,cond_true]; kernel_rfl))))
  (fun c0=>iD (mB 20 [mI 6 [var 1,.int .i64 (40001)],.int .i64 (0)]) (decide ((bP a1 40001)<0)) (by kernel_rfl)
 (fun c1=>iD (mB 20 [mI 6 [var 2,.int .i64 (2097152)],.int .i64 (0)]) (decide ((bP a2 2097152)<0)) (by kernel_rfl)
   (fun c2=>fD (wV _) (by simp only [rR,rT,rU,c0,c1,c2,cond_false,cond_true]; kernel_rfl))
   (fun c2=>fD (wV _) (by simp only [rR,rT,rU,c0,c1,c2,cond_false,cond_true]; kernel_rfl)))
 (fun c1=>iD (mB 20 [mI 6 [var 2,.int .i64 (2097152)],.int .i64 (0)]) (decide ((bP a2 2097152)<0)) (by kernel_rfl)
   (fun c2=>fD (wV _) (by simp only [rR,rT,rU,c0,c1,c2,cond_false,cond_true]; kernel_rfl))
   (fun c2=>fD (wV _) (by simp only [rR,rT,rU,c0,c1,c2,cond_false]; kernel_rfl)))))
def vP:List eZ:=Nz::Jj
theorem FE (L:List Int):∀e∈vP,fo aa (eO L) e:=iJ aag (wV L)
end Go.Proofs
end
