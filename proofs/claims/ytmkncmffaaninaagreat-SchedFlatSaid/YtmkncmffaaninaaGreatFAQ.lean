/- A part of the proof of SchedFlat. Conditions: none. -/
import Derived.Test.YtmkncmffaaninaaGreatFAP
import Derived.Test.YtmkncmffaaninaaGreatFAO
set_option linter.all false
open Option renaming bind_eq_some_iff → ya
open Bool renaming and_eq_true → yb,not_eq_true' → yc
open List renaming getElem?_cons_zero → yd
open Nat renaming add_assoc → ye,add_comm → yf,le_refl → yg
namespace AC
open Go.A Go.A.Lex Go.A.Z
def zaz:Fun:=⟨1,12,0,false,[(2,none)],c1 1 6 0 2 M (eK (dk 0) (c4 3) (bq 3 (cK 4) (dj 3 (cw (A (ex c 10) 1) au 2 (aT (dc 3) (dF (dV c 12)) (I 2 c M) 5 (dG 6) (dj 3 (a (A (cK 14) 1) (dG 2) (dj 3 (a (A (cK 15) 1) (dG 2) (dj 3 (cw (A (ex c 18) 1) au 2 (aT (dc 3) (dF (dV c 20)) (I 2 c M) 5 (bW 4 6) [])))))))))) (ai 4 (cJ 2 1 (aI aC 5 (eJ c 1)) (bs 5 2 M (m 12 4))))) (J (bq 3 (ex c 16) (d3 3 (a (dF (dV c 19)) (eA 2 c M) (d6 1 1 c (el aC (eg 8) 2 (ew 3 c M (a1 (bN 3) (ex c 21) 1 au 2 (ct 2 1 c) (aT (dF aC) (ab (eg 2) 2) (I 3 c M) 6 (bW 6 7) []))))))) (bs 6 2 M (m 12 4))) (eu 7 3 [] 0 (bh 7 0 8 (eD 8 (eN (dk 5) (p aC (dk 1) (K aC (da 224 bM) (dk 5) aC (dg .eql 2 2))) (m 12 4)) 7 14 9 (eD 9 (eN (dk 5) (p aC (dk 1) (K aC dq (d1 3) au (cb (ct 5 1 c) aC 1 eS 2 (bw 125) 3 (eM 4 2)))) (m 12 4)) 7 15 10 (eD 10 (aG (b1 5 1 (ev (dk 1) dq (df .gtr 3) (d6 5 1 c (el aC (eT .leq 64) 2 (ew 3 c M (cb (ct 5 1 c) aC 1 eS 2 (bw 125) 3 (eM 4 2))))))) (m 12 4)) 7 22 11 (aR 11 (q (dk 5)) (K aC dR aC dq (dg .lss 3 2)) (m 12 4))))))) (aG (eP 5 1 (e7 0) 2) (m 12 4))))⟩
def zdW:Cd:=cZ (c9 5 0 2 8 3 8 0 (m 12 12) 2) 1 (dd (b1 0 2 (bk 5 bQ aC (v 0 3) (dz 5 bQ aC (c6 (da 22 (.l 5)) 9)))) 9 4 M (m 12 16)) 5 5
def zcz:Cd:=cD (m 12 44) zdW
def zeg:Cd:=cZ (c9 6 1 2 10 3 10 2 (m 12 0) 2) 3 (dd (b1 1 2 (bk 6 bQ aC (v 1 3) (dz 6 bQ aC (c6 (da 22 (.l 5)) 11)))) 11 4 M (m 12 16)) 6 6
def zb4:Cd:=cD (m 12 76) zeg
def zeM:Fun:=⟨2,12,0,false,[(4,none)],aX (w 2 (aM 2 0)) (ci 3 2 1 4 M) (dd (b8 (v 0 2) aC aw (v 0 3) aC aw (ed 3) au (er 1 2 aC 1 aw 2 (A (v 1 3) 3) (ef aC 4 aw 5 (ed 3) 6 7 7))) 7 4 M (m 12 16)) (J (e2 5 zcz) (b7 6 2 zb4) (eq 4 ao (m 12 16)))⟩
def zg7:Cd:=bU 6 5 4 (dS 6 0 (m 8 0) 0 1 (e5 1 3 5 2 (cz 0 2 (c6 (x .op aJ c []) 7) (ai 7 (.ret (m 8 0))))) 5 5)
def zg6:Cd:=cy (m 8 57) zg7
def zhk:Fun:=⟨2,8,0,false,[],d7 3 (cE 1) (b0 4 3 5) 0 zg6⟩
def zbP:Fun:=⟨2,3,0,false,[(2,none)],en 2 0 (aQ 1 (ei 227 aJ c) (af .geq c 0 2)) (m 3 4)⟩
def zhS:Fun:=⟨2,3,0,false,[(2,none)],en 2 0 (e3 (cE 1) (dE 180) bR 2) (m 3 4)⟩
def zgZ:Cd:=bU 8 7 6 (dS 8 0 (m 10 0) 0 1 (eK (bZ 1 5 7) (c4 4) (dd (ca 4 3 (df .leq 1) au (a1 (bN 4) (d 1) 1 (et 1) 2 (bW 9 3) [])) 9 2 M (m 10 4)) (.reg (b3 4 3))) 7 7)
def zfB:Cd:=cy (m 10 234) zgZ
def zhY:Fun:=⟨2,10,0,false,[(2,none)],em 2 (cS (an 3 (-1)) (eu 5 0 (b0 6 5 7) 0 zfB) (eq 2 ao (m 10 4)))⟩
def zhX:Cd:=bU 13 12 11 (dS 13 2 (m 14 452) 2 3 (e5 1 10 12 5 (ce 2 (ej 5 2 5 bQ (dz 3 (d8 1 0 [] 0 c []) (.app 1 bM c) (eY 1 8 (.l 7) 1 c aJ))))) 12 12)
def zf3:Cd:=cD (m 14 7628) zhX
def zhR:Cd:=bU 9 8 7 (dS 9 0 (m 14 4) 2 1 (aH 8 (e0 1 6 8 aC (dB 3 bM 4)) (eu 10 4 (b0 11 10 12) 2 zf3)) 8 8)
def zf4:Cd:=cD (m 14 452) zhR
def ziC:Fun:=⟨1,14,0,false,[(1,none)],cn 1 d5 (bq 0 aw (ad (eZ aS [] (some (0,1)) c) 2) (.seq (eu 6 0 (b0 7 6 8) 0 zf4) (b9 2 1 (m 14 2))))⟩
def zcQ:Cd:=bU 11 10 9 (dS 11 0 (m 13 0) 0 1 (aH 10 (e0 1 8 10 aC (dB 4 bM 5)) (di 1 4 bQ (c4 6) (di 2 5 (d 6) (c6 (x .op bM aJ [c]) 12) (bs 12 3 M (m 13 8))))) 10 10)
def za0:Cd:=cy (m 13 1798) zcQ
def zau:Fun:=⟨3,13,0,false,[(3,none)],em 3 (J (eV 0 (p aw (d 1) (a7 aw 7 .neq 2 c)) 7 3 M (m 13 8)) (eu 8 0 (b0 9 8 10) 0 za0) (eq 3 ao (m 13 8)))⟩
def zfd:Cd:=bU 7 6 5 (dS 7 0 (m 9 0) 0 1 (b (b3 6 3) (di 0 3 bQ (dz 1 (d 3) bQ (a7 aC 8 .neq 4 c)) (bs 8 2 M (m 9 4)))) 6 6)
def zc8:Cd:=cy (m 9 99) zfd
def zcd:Fun:=⟨2,9,0,false,[(2,none)],em 2 (J (eV 0 (p aw (d 1) (a7 aw 4 .neq 2 c)) 4 2 M (m 9 4)) (eR 0 (a4 5 aw 6) 0 zc8) (eq 2 ao (m 9 4)))⟩
def zgU:Fun:=⟨1,2,0,false,[(1,none)],eX 1 0 (cG (eg 0) (c0 0 (dW 2147483647) 1 (ad (bJ 2) 1)))⟩
def zcC:Cd:=bU 6 5 4 (dS 6 0 (m 8 0) 0 1 (b (b3 5 3) (cq (ej 1 0 3 dD (aI (e6 5) 7 (x .op (.l 4) c []))) 7 (b9 3 2 (m 8 4)))) 5 5)
def zaJ:Cd:=cy (m 8 51) zcC
def zaX:Fun:=⟨2,8,0,false,[(2,none)],dH 2 (eR 0 (a4 4 aw 5) 0 zaJ) (dt 2 (-1) (m 8 4))⟩
def zit:Cd:=bU 6 5 4 (dS 6 0 (m 8 0) 0 1 (e5 1 3 5 2 (dd (bk 2 aw (dW 64) au (a1 (bN 2) (bw 152) 1 bR 2 (bW 7 3) [])) 7 1 M (m 8 2))) 5 5)
def zgH:Cd:=cy (m 8 56) zit
def zkc:Fun:=⟨1,8,0,false,[(1,none)],cS (j 1 M) (eu 3 0 (b0 4 3 5) 0 zgH) (eq 1 ao (m 8 2))⟩
def zlH:Cd:=bU 17 16 15 (dS 17 0 (m 29 214) 3 1 (aH 16 (e0 1 14 16 aC (dB 8 bM 9)) (dM 7 9 (d 8) (eY 1 2 aJ 1 c aJ))) 16 16)
def zi9:Cd:=dr (m 29 114902) zlH
def zlu:Cd:=bU 25 24 23 (dS 25 4 (m 29 1838294) 3 5 (al (q (bZ 1 22 24)) (c4 12) 6 (b (ca 6 12 bQ aC (af .eql c (-2) 26)) (ag 26 (aH 11 (af .eql c (-2) 27) (o 27 (.reg (b3 12 11)) (.reg (ej 6 7 11 (d 12) (ad (dJ 231 dm bM aJ [c]) 11)))))))) 24 24)
def zi3:Cd:=dr (m 29 31198422) zlu
def zlK:Cd:=bU 21 20 19 (dS 21 2 (m 29 66) 3 3 (e5 1 18 20 10 (cS (an 11 (-2)) (al (q (v 1 2)) (p aC (d 10) (cR bQ 22 aC 23 22 24)) 4 zi3) (cq (ca 6 10 bQ aC (a7 (d 11) 28 .neq 1 c)) 28 (di 6 10 (d 11) (eY 1 2 aJ 1 c aJ) (.goto 0 (m 29 214) 3))))) 20 20)
def ziE:Cd:=dr (m 29 1835222) zlK
def zag:Cd:=b5 (e3 (dL 2) (d 1) (dE 100) 4) (eV 4 (aI aw 13 (cK 0)) 13 3 d5 (m 29 8)) (b (eP 0 2 aw 5) (J (.regd [] (q (d8 1 0 [] 0 (i (-2)) [])::bk 5 (cu .ck 230 [] [] aJ c []) (d 5) (eZ (H 0) [] none c) (dB 6 bM 7))) (eu 14 4 (b0 15 14 16) 0 zi9) (di 6 1 (d 1) (eY 1 2 aJ 1 c aJ) (J (.label 0) (es (d 4) 18 (.slc 1 c (some (i 1)) none none) 19 18 20 2 ziE) (cz 6 1 (dY bQ 1 c (i (-1))) (b9 6 3 (m 29 8)))))))
def zlp : Go.A.Code:=(findLabel zag 0).getD .skip
theorem zqq : findLabel zag 0 = some zlp:=rfl
def znv:Fun:=⟨2,29,0,false,[(3,none)],c1 2 2 0 3 d5 (.scope zag)⟩
def znm:Fun:=⟨3,4,0,false,[(3,none)],em 3 (ek 0 (d 1) (bk 2 (d8 1 0 (eh 0 []) 0 aJ [(1,c)]) (da 232 dm) au (dQ 0 (d 1) 1 (cb (ab (d 2) 2) (dJ 233 bM aJ c []) 3 (d 1) 4 (eG 1) 5 (eM 6 3)))) (m 4 8))⟩
def zfN:Fun:=⟨1,4,0,false,[(1,none)],cS (j 1 M) (eu 2 0 [] 0 (.seq (ck 2 1 3 3 2 8 3 3 (ck 2 16 3 3 2 32 3 3 (c2 2 64 3))) (bs 3 1 ao (m 4 2)))) (eq 1 M (m 4 2))⟩
def zdi:Fun:=⟨1,2,0,false,[(1,none)],em 1 (ek 0 (bw 197) (ad bR 1) (m 2 2))⟩
def zcD:Fun:=⟨2,3,0,false,[(2,none)],en 2 0 (aQ 1 (ei 234 aJ c) (af .geq c 0 2)) (m 3 4)⟩
def zde:Fun:=⟨1,3,0,false,[(2,none)],c1 1 4 0 2 M (eN (dk 0) (e3 aC (bw 197) bR 2) (m 3 4))⟩
def zcO:Fun:=⟨2,3,0,false,[(2,none)],en 2 0 (aQ 1 (ei 235 aJ c) (af .geq c 0 2)) (m 3 4)⟩
def zc9:Fun:=⟨2,4,0,false,[(3,none)],c1 2 6 0 3 M (eN (cE 1) (e3 (aU 6 2) (ei 203 aJ c) bR 3) (m 4 8))⟩
def zai:Fun:=⟨2,6,0,false,[(3,none)],b5 (ci 2 6 1 3 M) (e1 (bq 0 du (ev (a5 3) (eg 2) au (cb (ct 2 2 c) aC 1 (dW 1) 2 au 3 (er 0 2 aC 1 (dW 20) 2 (ab (bJ 3) 7) (eM 8 4)))) (o 4 (eq 3 M (m 6 8)) (eV 0 (K du (a5 3) aC (eg 1) (d6 0 2 c (el aC (dW 17) 2 (eM 3 5)))) 5 3 M (m 6 8))))) (eN (aU 6 2) (ad (bw 236) 3) (m 6 8))⟩
def zdc:Fun:=⟨3,6,0,false,[(4,none)],c1 3 4 2 4 M (bq 0 du (eF (a5 7) aC 1 (.lk (.agg de) true aJ c) au eI eH (br de) (aK (aF 4 c bM) (j 5 bM))) (aH 0 (K du (a5 7) aC (d 1) (g (aU 4 3) (e (.mu bM aJ c)) [])) (cU 5 (ad bR 4) (m 6 16))))⟩
def zhN:Fun:=⟨1,2,0,false,[(1,some (some 2))],bT 1 (br bn) (cU 0 (g (dn bn 0 1 c 1 1 1 []) (aV 2 1 c) []) (m 2 2))⟩
def zc5:Fun:=⟨1,7,0,false,[(2,none),(3,none)],aX (w 1 (aM 6 0)) (aK (aZ 2) (aZ 3)) (e1 (cM 6 1 (p (bw 236) bR (cT 0 1 (cw (A aC 1) (bw 237) 2 (ad (bJ 3) 4)))) (o 4 (dU (aK (aZ 2) (aZ 3))) (cJ 0 1 (p aC (ex c 10) (d6 0 1 c (el aC (dV c 12) 2 (eM 3 5)))) (o 5 (dU (aK (an 2 1) (an 3 1))) (cq (b1 0 1 (af .eql c 22 6)) 6 (dU (b1 1 1 (bY 2 c (an 3 1)))))))))) (dU (ev (dk 1) dR aC (dB 2 bM 3)))⟩
def zeu:Cd:=bU 25 24 23 (dS 25 4 (m 38 1949755) 2 5 (aH 24 (e0 1 22 24 aC (dB 7 bM 8)) (cz 1 8 (b8 (v 0 6) aC (bw 205) (v 2 6) aC (d 7) bQ aC (ad (x .op (.l 9) (.l 8) [.l 5,c,i 1048576]) 3)) (dK 3 26 (eJ c 0) 26 (.goto 0 (m 38 8) 0)))) 24 24)
def zcx:Cd:=cD (m 38 31309947) zeu
def zeq:Cd:=bU 21 20 19 (dS 21 2 (m 38 114747) 1 3 (b (e0 4 18 20 (e6 4) (dy 6 (cQ aS) 4 6)) (es (v 3 6) 22 aC 23 22 24 4 zcx)) 20 20)
def zbX:Cd:=co (m 38 1949755) zeq
def zeh:Cd:=bU 34 33 32 (dS 34 8 (m 38 939638843) 2 9 (bq 33 (bZ 2 31 33) (dN (e6 2) 12 bn (bY 11 dm (aV 2 12 bM))) (aH 1 (eF (v 4 10) aC 11 bQ aC (dL 12) (d 4) (d 9) (ad (x .op (.l 8) dm [bM,aJ,c]) 3)) (dK 3 35 (eJ c 0) 35 (.goto 0 (m 38 8) 0)))) 33 33)
def zcu:Cd:=cD (m 38 15972025915) zeh
def zdZ:Cd:=bU 30 29 28 (dS 30 6 (m 38 114747) 1 7 (bq 29 (bZ 6 27 29) (dN (e6 6) 10 (ep 0) (bY 9 dm (aV 6 10 bM))) (es (aU 6 10) 31 (bw 238) 32 31 33 8 zcu)) 29 29)
def zcy:Cd:=co (m 38 939638843) zdZ
def zer:Cd:=bU 17 16 15 (dS 17 0 (m 38 8) 0 1 (bq 16 (bZ 5 14 16) (dN (e6 5) 5 (aS::eC 0 0) (bY 4 dm (aV 5 5 bM))) (J (es (v 0 5) 18 aC 19 18 20 2 zbX) (es (v 1 5) 27 aC 28 27 29 6 zcy) (b5 (p .mkm (d 0) (K du dl eB aC (a (e (.mu (.l 5) (i 0) c)) (e (.mu (.l 6) (i 2) (i 1))) (K (.mv (.l 7)) (v 2 5) dl aC (ad (.lk (.one (H 0)) false dm c) 13))))) (dK 13 36 (cK 0) 36 (.exit 1 (m 38 114699) 0)) (aH 1 (bV 2 5 eB (dz 13 (bw 205) (d 4) (ad (x .op (.l 6) dm [aJ,c,i 1048576]) 3))) (dK 3 37 (eJ c 0) 37 (.goto 0 (m 38 8) 0)))))) 16 16)
def zb1:Cd:=cy (m 38 114699) zer
def zdL:Cd:=bS (aZ 3) (J (eR 0 (p du dl (cR (a5 2) 14 aC 15 14 16)) 0 zb1) (.label 0) (b9 3 2 (m 38 4)))
def zcK:Fun:=⟨2,38,0,false,[(2,none)],bS (aZ 2) (.scope zdL)⟩
def zaK:Fun:=⟨5,8,0,false,[(5,none)],b5 (ac (aM 2 1) 5 (i 0)) (b (p (cE 4) du (eF (a5 7) aC 0 (.lk (.agg de) true aJ c) au eI eH (br de) (aK (aF 4 c bM) (j 6 bM)))) (b (c6 (d 6) 7) (cN 7 5 7 (m 8 32)))) (dp (aZ 5) (m 8 32))⟩
def zx:Fun:=⟨5,8,0,false,[(6,none)],b5 (a4 5 (aM 2 1) 6) (bF (cE 4) (p du (a5 7) (dz 0 (.lk (.agg de) false aJ c) (.fld 2 (some 2) c) (aI (dL 5) 7 (.eqa 2 true aJ c)))) (cN 7 6 6 (m 8 64))) (dp (aZ 6) (m 8 64))⟩
def zg:Fun:=⟨5,9,0,false,[(5,none)],b (ac (aM 2 1) 5 (i 0)) (b5 (p (cE 4) du (ev (a5 7) (d 0) (.lk (.agg de) false aJ c) (dy 6 de 4 6))) (e1 (b (b1 0 6 (af .lss c 0 7)) (o 7 (dp (aZ 5) (m 9 32)) (.seq (cJ 0 6 (dz 2 (eG 1) au (cb (ct 1 6 c) aC 1 (d 3) 2 (d1 1) 3 (eM 4 8))) (ag 8 (bp (q (v 0 6)) (dz 2 (ed 1) au (cb (aN (cE 4) c) du 1 (a5 6) 2 aC 3 (cb (ab (v 0 6) 4) aC 5 (d 2) 6 (dJ 196 dm aJ c []) 7 (eM 8 8))))))) (bl 8 (aZ 5) (m 9 32)))))) (dt 5 7 (m 9 32)))⟩
def z8:Fun:=⟨2,5,0,false,[(2,none)],cn 2 (bO 0) (J (eV 1 (dA 125 3) 3 2 (bO 0) (m 5 4)) (dK 1 4 (cK 64) 4 (b9 0 2 (m 5 4))) (aG (ca 0 1 dq (.bin .shl (bO 1) c) (dg .rem 3 2)) (m 5 4)))⟩
def zc3:Cd:=bU 6 5 4 (dS 6 0 (m 8 0) 0 1 (b (b3 5 3) (cq (ej 1 0 3 bQ (aI aC 7 (x .op (.l 4) c []))) 7 (b9 3 2 (m 8 4)))) 5 5)
def zaW:Cd:=cy (m 8 51) zc3
def zbb:Fun:=⟨2,8,0,false,[(2,none)],dH 2 (eR 0 (a4 4 aw 5) 0 zaW) (dt 2 (-1) (m 8 4))⟩
def zkU:Cd:=c7 (ec 6 5 9 2 9 0 (m 10 32) 1) 1 (.reg (ej 6 5 6 (.slc 1 aJ (some c) none none) (ca 5 6 (.slc 1 aJ none (some c) none) (.cpy 1 dm c) (eW 7 6))))
def zkO:Cd:=co (m 10 96) zkU
def zlM:Fun:=⟨2,10,1,true,[(2,none)],cS (j 2 d5) (dK 1 7 (eg 0) 7 (.reg (g (.no "") (e (.no "")) []))) (aH 0 (eF aw dq 1 dq (da 247 bM) au eI eH (dB 3 aJ 4)) (.seq (bq 3 (eT .gtr 0) (dj 4 (aK (A (eT .gtr 9223372036854775807) 1) (bW 8 2))) (ai 8 (.reg (g (.no "") (e (.no "")) [])))) (bq 4 eS (ad (eZ (H 0) [] none c) 5) (cz 5 0 (ad (.cpy 1 aJ c) 6) (.seq (e1 zkO) (b9 5 2 (m 10 4)))))))⟩
def zpT:Cd:=c7 (bC 1 (aQ 2 bQ (dz 1 (d 3) bQ (a7 aC 6 .gtr 4 c))) 6 2 (m 8 15) 0) 3 (dM 0 2 bQ (c4 2))
def zlk:Cd:=cy (m 8 15) zpT
def zoG:Cd:=c7 (bC 1 (aQ 3 bQ (dz 1 (d 2) bQ (a7 aC 7 .gtr 4 c))) 7 4 (m 8 15) 0) 5 (dM 0 3 bQ (c4 3))
def zlg:Cd:=cy (m 8 15) zoG
def zpF:Cd:=c7 (bC 2 (a7 (d 3) 5 .neq 1 c) 5 0 (m 8 4) 0) 1 (c7 (.block 2 zlk) 4 zlg)
def zlS:Cd:=cy (m 8 15) zpF
def zm1:Fun:=⟨4,8,0,false,[(4,none)],dH 4 (e1 zlS) (b9 2 4 (m 8 16))⟩
def zrJ:Fun:=⟨2,4,0,false,[(3,none)],c1 2 1 0 3 M (eN (cE 2) (cG (bw 248) (cb (dc 1) (ey 249 [] (.s 2) []) 1 (ei 119 aJ c) 2 bR 3 (eM 4 3))) (m 4 8))⟩
def zli:Cd:=c7 (bC 1 (a7 (d 2) 5 .neq 1 c) 5 0 (m 7 2) 0) 1 (aH 0 (bk 1 (dE 250) (d 0) (d 2) (a7 (dE 250) 6 .geq 3 c)) (o 6 (dM 0 1 bQ (c4 1)) (dM 0 2 bQ (c4 2))))
def ziF:Cd:=cy (m 7 7) zli
def zkj:Fun:=⟨3,7,0,false,[(3,none)],bS (aZ 3) (ae (b (ej 0 1 2 (d8 1 0 (eh 0 []) 0 aJ [(1,c)]) (c6 (da 232 dm) 4)) (cN 4 3 (-2) (m 7 8))) 0 ziF (b9 1 3 (m 7 8)))⟩
def zc7:Cd:=bU 6 5 4 (dS 6 0 (m 8 0) 0 1 (b (b3 5 3) (cq (ej 1 0 3 (a3 4) (aI (e6 4) 7 (x .op (.l 4) c []))) 7 (b9 3 2 (m 8 4)))) 5 5)
def zbj:Cd:=cy (m 8 51) zc7
def zbF:Fun:=⟨2,8,0,false,[(2,none)],dH 2 (eR 0 (a4 4 aw 5) 0 zbj) (dt 2 (-1) (m 8 4))⟩
def zdF:Cd:=bU 6 5 4 (dS 6 0 (m 8 0) 0 1 (b (b3 5 3) (cq (ej 1 0 3 (a3 6) (aI (e6 6) 7 (x .op (.l 4) c []))) 7 (b9 3 2 (m 8 4)))) 5 5)
def zbH:Cd:=cy (m 8 51) zdF
def zch:Fun:=⟨2,8,0,false,[(2,none)],dH 2 (eR 0 (a4 4 aw 5) 0 zbH) (dt 2 (-1) (m 8 4))⟩
def zc1:Fun:=⟨1,8,0,false,[(2,none)],b5 (ci 1 6 0 2 M) (dd (ev (dk 1) dR aC (c6 (da 251 bM) 6)) 6 2 M (m 8 4)) (cM 6 1 (K (bw 252) au eI eH (dB 3 aJ 4)) (b5 (eP 3 1 (bw 253) 5) (cJ 0 1 (aI aC 7 (bw 237)) (ai 7 (.reg (b1 3 1 (af .eql c 0 5))))) (cU 4 (d3 5 (ew 1 c M (dQ 3 aw 1 (cb (ab (dk 4) 2) aC 3 aw 4 (eG 3) 5 (ew 6 c M (cb (ct 4 1 c) aC 1 (ei 119 c (U 254 [] [])) 2 bR 3 (eM 4 2))))))) (m 8 4))))⟩
def ziG:Fun:=⟨1,2,0,false,[(1,none)],eX 1 0 (cG (cK 17) (c0 0 (cK 19) 1 (ad (bJ 2) 1)))⟩
def zho:Fun:=⟨1,5,0,false,[(2,none)],b5 (ci 1 6 0 2 d5) (cM 6 1 (dA 236 4) (bs 4 2 d5 (m 5 4))) (cM 6 1 (K (bw 252) au eI eH (bY 3 aJ (q (.mv aJ)))) (b9 3 2 (m 5 4)))⟩
def zwL:Fun:=⟨2,8,0,false,[(2,none),(3,none)],b5 (cx 2 (bO 0) 3 (bO 0)) (.cond M (b (bk 0 (ch .u32) (d 1) (ch .u32) (K (da 257 bM) au eI eH (dB 4 aJ 5))) (aG (bk 4 dq (d 5) dq (dB 2 bM 3)) (m 8 12))) .skip) (cz 0 1 (K (dE 258) au eI eH (dB 6 aJ 7)) (ek 6 (d 7) (dB 2 aJ 3) (m 8 12)))⟩
def zkg:Cd:=bU 8 7 6 (dS 8 0 (m 11 4) 0 1 (aH 7 (e0 1 5 7 aC (dB 3 bM 4)) (.seq (dK 4 9 (cK (-1)) 9 (ce 2 (a6 c 1 2))) (bq 4 (eJ c (-2)) (d3 0 (bm (dF (d 3)) (dE 250) 2 (eg 0) 3 (w 10 (I 4 c M)) [])) (bs 10 1 M (m 11 2))))) 7 7)
def zhz:Cd:=cy (m 11 229) zkg
def zhi:Fun:=⟨1,11,0,false,[(1,none)],em 1 (dH 2 (eu 5 0 (b0 6 5 7) 0 zhz) (cU 2 (af .eql c 1 1) (m 11 2)))⟩
def zmR:Fun:=⟨2,3,0,false,[(2,none)],em 2 (eN (cE 1) (aQ 0 (dE 250) (af .lss c 0 2)) (m 3 4))⟩
def zjD:Cd:=bU 6 5 4 (dS 6 0 (m 9 0) 0 1 (b (b3 5 3) (J (bq 1 (eg 0) (dj 1 (ef (d 0) 1 aw 2 (et 2) 3 7 4)) (cN 7 2 (-1) (m 9 4))) (di 0 1 bQ (aI aC 8 (cK (-1))) (ai 8 (b9 3 2 (m 9 4)))) (dM 0 1 bQ (c4 1)))) 5 5)
def zhu:Cd:=cy (m 9 51) zjD
def zlf:Fun:=⟨2,9,0,false,[(2,none)],dH 2 (eR 0 (a4 4 aw 5) 0 zhu) (dt 2 (-1) (m 9 4))⟩
def zee:Fun:=⟨2,7,0,false,[(2,none)],em 2 (J (eV 0 (dA 197 3) 3 2 M (m 7 4)) (eu 4 1 [] 0 (bh 4 1 5 (o 5 (eq 2 ao (m 7 4)) (eb 4 2 6 6 (ck 4 4 6 6 4 8 6 6 (c2 4 16 6)) (aR 6 (aj 0) (cG (ex c 8) (cb (dc 0) (d 1) 1 (df .mul 1) 2 (dV c 128) 3 (eM 4 2))) (m 7 4)))))) (eq 2 M (m 7 4)))⟩
def zi:Fun:=⟨1,23,0,false,[(2,none),(3,none)],aX (w 1 (aM 6 0)) (cx 2 d5 3 M) (.regd [(6,15)] (b1 1 1 (b8 dR aC (cV bn 0 1 bM 1 1 c []) (dk 1) aC (dn bn 0 1 c 1 1 1 []) (dn bn 0 1 (i 1) 1 1 1 []) (dn bn 0 1 (i 64) 1 1 1 []) (ak (w 4 (br bn)) (w 5 (br bn)) (w 6 (br bn)) (w 7 (br bn)) (ak (aV 2 4 (.l 9)) (aV 2 5 (.l 7)) (aV 2 6 (.l 7)) (aV 2 7 (.l 7)) []))))) (b5 (b1 2 1 (K (cK 1) (dk 1) aC (ex c 8) (dB 8 dm 9))) (cd (aI (dk 0) 10 aC) 0 (bh 10 0 11 (o 11 (dx (b8 (dk 5) aC (dk 1) aC (da 259 bM) (dk 5) aC (eG 2) (dB 2 d5 3))) (eb 10 1 12 12 (ck 10 2 12 12 10 3 12 12 (ck 10 5 12 12 10 6 12 12 (ck 10 7 12 12 10 8 12 12 (c2 10 9 12)))) (o 12 (eN (dL 4) (p (dL 4) (bD 2 bn [bn] 0 aJ [(1,c)]) (K eU (dk 5) aC (e7 0) (dB 2 dm 3))) (m 23 12)) (eb 10 4 13 13 (ck 10 10 13 13 10 11 13 13 (c2 10 12 13)) (eD 13 (dx (b8 (dL 4) (dL 4) (bD 2 bn [bn] 0 aJ [(1,c)]) eU (dk 5) aC (e7 0) au (ak (dc 8) (eA 1 c M) (j 2 (.l 6)) (j 3 aJ) []))) 10 13 14 (eD 14 (dx (b8 (dL 6) (dL 4) (dL 4) (bD 2 bn [bn,bn] 0 bM (e4 (1,aJ) (2,c) [])) eU (dk 5) aC (e7 0) (dB 2 dm 3))) 10 14 15 (eD 15 (dx (b8 (dk 5) aC (.mxn false c (bO 128)) eS (dn bn 0 1 c 1 1 1 []) (bD 2 bn [] 0 c []) eU (d 8) (d6 5 1 c (el aC (dk 1) 2 (bm (ab aC 3) dq 4 (d1 3) 5 (eA 6 c M) (d6 5 1 c (el aC eS 2 (ak (ab (bw 197) 3) (eA 4 c M) (j 2 (.l 15)) (j 3 aJ) [])))))))) 10 15 16 (eD 16 (eN (dk 5) (b8 aC (.mxn false c (bO 128)) eS (dn bn 0 1 c 1 1 1 []) (bD 2 bn [] 0 c []) eU (d 8) au (cv (ct 5 1 c) aC 1 (cb (ab (dk 1) 2) aC 3 dq 4 (df .gtr 3) 5 (ew 6 c M (bm (ct 5 1 c) aC 1 (eT .leq 64) 2 (eA 3 c M) (d6 5 1 c (el aC eS 2 (ak (ab (bw 197) 3) (eA 4 c M) (j 2 (.l 20)) (j 3 aJ) [])))))))) (m 23 12)) 10 16 17 (eD 17 (eN (dL 7) (p (bD 2 bn [] 0 c []) eU (ev (dk 5) (e7 0) au (ak (dc 9) (eA 1 c M) (j 2 (.l 6)) (j 3 aJ) []))) (m 23 12)) 10 17 18 (o 18 (dx (b8 (dL 7) (dL 4) (bD 2 bn [bn] 0 aJ [(1,c)]) eU (dk 5) aC (e7 0) au (ak (dc 9) (eA 1 c M) (j 2 (.l 6)) (j 3 aJ) []))) (eb 10 18 19 19 (c2 10 19 19) (eD 19 (dx (b8 (dL 6) (dL 7) (dL 4) (bD 2 bn [bn,bn] 0 bM (e4 (1,aJ) (2,c) [])) eU (dk 5) aC (e7 0) (d3 8 (ew 1 c M (ak (dc 9) (eA 1 c M) (j 2 (.l 9)) (j 3 aJ) []))))) 10 20 20 (eD 20 (dx (p (dL 6) (dL 4) (b8 (dL 4) (dL 4) (bD 2 bn [bn,bn,bn] 0 dm ((1,bM)::e4 (2,aJ) (3,c) [])) eU (dk 5) aC (e7 0) au (ak (dc 8) (eA 1 c M) (j 2 (.l 6)) (j 3 aJ) [])))) 10 21 21 (eD 21 (eN (dL 5) (b8 (bD 2 bn [] 0 c []) eU dR aC (da 261 bM) (dk 5) aC (e7 0) (d3 8 (ak (dF bR) (eA 2 c M) (j 2 (.l 7)) (j 3 aJ) []))) (m 23 12)) 10 22 22 (aR 22 (q (dL 4)) (K (bD 2 bn [] 0 c []) eU (d 8) bR (d6 5 1 c (cb (dF aC) dR 2 aC 3 dq 4 (ak (ab (d1 3) 5) (eA 6 c M) (j 2 (.l 10)) (j 3 aJ) [])))) (m 23 12)))))))))))))))))) (dx (cx 2 d5 3 M)))⟩
def zjA:Fun:=⟨1,2,0,false,[(1,none)],eX 1 0 (cG (ex c 1) (dQ 0 (dV c 1023) 1 (eM 2 1)))⟩
def zkd:Fun:=⟨1,2,0,false,[(1,none)],em 1 (ek 0 (bw 253) (ad bR 1) (m 2 2))⟩
def ztU:Fun:=⟨2,5,0,false,[(2,none),(3,none)],b (cx 2 (ik .u32 0) 3 (ik .u32 0)) (b (bk 0 dq (d 1) dq (dg .mul 2 4)) (cU 4 (K (eT .shr 32) (ch .u32) (d 4) (ch .u32) (dB 2 bM 3)) (m 5 12)))⟩
def zs9:Fun:=⟨2,12,0,false,[(2,none),(3,none)],b (cx 2 (bO 0) 3 (bO 0)) (eQ 0 (eT .and 4294967295) 4 (eQ 0 (eT .shr 32) 5 (eQ 1 (eT .and 4294967295) 6 (eQ 1 (eT .shr 32) 7 (cz 4 6 (dg .mul 1 8) (aH 5 (bk 6 (df .mul 1) (d 8) (eT .shr 32) (eW 2 9)) (eQ 9 (eT .and 4294967295) 10 (eQ 9 (eT .shr 32) 11 (b (ej 10 4 7 (df .mul 1) (eW 3 10)) (di 5 7 (df .mul 1) (bk 11 (df .add 1) (d 10) (eT .shr 32) (eW 2 2)) (ek 0 (d 1) (dg .mul 1 3) (m 12 12))))))))))))⟩
def zkG:Fun:=⟨2,4,0,false,[(2,none)],cS (j 2 (bO 0)) (eV 1 (dA 197 3) 3 2 (bO 0) (m 4 4)) (ek 0 (d 1) (K (.bin .sub (i 64) c) (df .shl 2) (d 1) (.bin .sub (i 64) c) (dg .shr 2 2)) (m 4 4))⟩
def zmX:Fun:=⟨1,2,0,false,[(1,none)],cn 1 d5 (b9 0 1 (m 2 2))⟩
def zjM:Cd:=c7 (ec 6 5 9 2 9 0 (m 10 32) 1) 1 (.reg (ej 6 5 6 (.slc 2 aJ (some c) none none) (ca 5 6 (.slc 2 aJ none (some c) none) (.cpy 2 dm c) (eW 7 6))))
def zj1:Cd:=co (m 10 96) zjM
def zkP:Fun:=⟨2,10,0,false,[(2,none)],cS (j 2 d5) (dK 1 7 (eg 0) 7 (.reg (g (.no "") (e (.no "")) []))) (aH 0 (eF aw dq 1 dq (da 247 bM) au eI eH (dB 3 aJ 4)) (.seq (bq 3 (eT .gtr 0) (dj 4 (aK (A (eT .gtr 9223372036854775807) 1) (bW 8 2))) (ai 8 (.reg (g (.no "") (e (.no "")) [])))) (bq 4 eS (ad (.mks bn none c) 5) (cz 5 0 (ad (.cpy 2 aJ c) 6) (.seq (e1 zj1) (b9 5 2 (m 10 4)))))))⟩
end AC
namespace Go.A
def zDz (P : Program) (CD : Draws) (n : Nat) (fn : Fun) : Prop := ∃ gf κ, P.funcs[n]? = some gf ∧ (gf.name == "runtime.NumGoroutine") = false ∧ zv0 P CD κ gf fn = true
def zys (Q : Nat → Fun → Prop) : Nat → List (Option Fun) → Prop
 | _,[] => True
 | b,none :: r => zys Q (b + 1) r
 | b,some f :: r => Q b f ∧ zys Q (b + 1) r
def zv8 (Q : Nat → Fun → Prop) : Nat → List (List (Option Fun)) → Prop
 | _,[] => True
 | b,r :: rs => zys Q b r ∧ zv8 Q (b + 16) rs
def zDo : Nat → Nat → Nat → List Nat
 | 0,_,_ => []
 | n + 1,w,i => if w % 2 = 1 then i :: zDo n (w / 2) (i + 1) else zDo n (w / 2) (i + 1)
def zvB (P : Program) (CD : Draws) : Nat → List (Option (Nat × Fun)) → Bool
 | _,[] => true
 | b,none :: r => zvB P CD (b + 1) r
 | b,some x :: r => (match P.funcs[b]? with
   | some gf => !(gf.name == "runtime.NumGoroutine") && zv0 P CD (zDo (Nat.log2 x.1 + 1) x.1 0) gf x.2
   | none => false) && zvB P CD (b + 1) r
def bare (r : List (Option (Nat × Fun))) : List (Option Fun):=r.map fun x => x.map fun y => y.2
theorem zbf {P : Program} {CD : Draws} : ∀ (r : List (Option (Nat × Fun))) (b : Nat),zvB P CD b r = true → zys (zDz P CD) b (bare r)
 | [],_,_ => trivial
 | none :: r,b,h => zbf r (b + 1) h
 | some x :: r,b,h => by
   simp only [zvB,yb] at h;refine ⟨?_,zbf r (b + 1) h.2⟩;have a:=h.1;split at a
   ·rename_i gf c
    simp only [yb,yc] at a;exact ⟨gf,_,c,a.1,a.2⟩
   ·cases a
theorem zse {Q : Nat → Fun → Prop} : ∀ (r : List (Option Fun)) (b : Nat),zys Q b r → ∀ (j : Nat) (f : Fun),r[j]? = some (some f) → Q (b + j) f
 | [],_,_,_,_,h => by simp at h
 | none :: r,b,hr,0,f,h => by simp at h
 | some g :: r,b,hr,0,f,h => by
   simp only [yd,Option.some.injEq] at h;subst h;exact hr.1
 | none :: r,b,hr,j + 1,f,h => by
   have:=zse r (b + 1) hr j f (by simpa using h)
   rwa [ye,yf 1 j] at this
 | some g :: r,b,hr,j + 1,f,h => by
   have:=zse r (b + 1) hr.2 j f (by simpa using h)
   rwa [ye,yf 1 j] at this
theorem zsR {Q : Nat → Fun → Prop} : ∀ (rs : List (List (Option Fun))) (b : Nat),zv8 Q b rs → ∀ (i j : Nat) (r : List (Option Fun)) (f : Fun),rs[i]? = some r → r[j]? = some (some f) → Q (b + 16 * i + j) f
 | [],_,_,_,_,_,_,h,_ => by simp at h
 | x :: rs,b,hr,0,j,r,f,h,h' => by
   simp only [yd,Option.some.injEq] at h;subst h;exact zse x b hr.1 j f h'
 | x :: rs,b,hr,i + 1,j,r,f,h,h' => by
   have:=zsR rs (b + 16) hr.2 i j r f (by simpa using h) h';have e : b + 16 + 16 * i + j = b + 16 * (i + 1) + j:=by omega
   rwa [e] at this
theorem zFj {rows : List (List (Option Fun))} {n : Nat} {f : Fun} (h : zu0 rows n = some (.fn f)) : ∃ r,rows[n / 16]? = some r ∧ r[n % 16]? = some (some f):=by
 unfold zu0 at h
 cases b : rows[n / 16]? with
 | none => simp [b,znu] at h
 | some r =>
   refine ⟨r,rfl,?_⟩;rw [b,Option.bind_some] at h
   cases a : r[n % 16]? with
   | none => simp [a,znu] at h
   | some o =>
     cases o with
     | none => simp [a,znu] at h
     | some g => simpa [a,znu] using h
theorem zyo {rows : List (List (Option Fun))} {n : Nat} {g : List V → zd → Option (V × zd)} : zu0 rows n ≠ some (.ext g):=by
 unfold zu0 znu;split <;> simp
theorem zCv {P : Program} {CD : Draws} {rows : List (List (Option Fun))} (h : zv8 (zDz P CD) 0 rows) : zw0 P CD (zu0 rows):=fun n => by
 refine ⟨fun fn c => ?_,fun ext he => absurd he zyo⟩;obtain ⟨r,b,d⟩:=zFj c;have a:=zsR rows 0 h (n / 16) (n % 16) r fn b d;have e : 0 + 16 * (n / 16) + n % 16 = n:=by omega
 rw [e] at a;exact a
theorem zlY {P : Program} {CD : Draws} {k : Nat} {g : List V → zd → Option (V × zd)} {T : Nat → Option Entry}
  (d : ∀ args σ v σ',g args σ = some (v,σ') → Enters P k ∧ ∀ gg w us,Rel gg w σ → zz gg w σ args us → Calls P k us.toArray w fun e w' => ∃ u g',e = .returned u ∧ zf g' w' σ' v u ∧ Rel g' w' σ' ∧ Ext gg w σ g' w' σ')
  (c : zw0 P CD T) : zw0 P CD fun n => if n = k then some (.ext g) else T n:=fun n => by
 by_cases a : n = k
 ·subst a
  refine ⟨fun fn b => ?_,fun ext he => ?_⟩
  ·simp at b
  ·simp only [if_true,Option.some.injEq,Entry.ext.injEq] at he
   subst he;exact d
 ·have:=c n
  simpa only [if_neg a] using this
def zh6 (sz : Nat) : List V → zd → Option (V × zd)
 | [.one (.f (.sl xs))],σ => if xs ≠ [] ∧ zn4 sz xs = true ∧ xs.length ≤ LIM then some (.one (.own σ.length 0 0 xs.length),σ ++ [.cells 0 sz (xs.map fun e => e.map C.f)]) else none
 | _,_ => none
section
variable {P : Program} {CD : Draws}
theorem zBh {f : Nat} {gf : Func} (hgf : P.funcs[f]? = some gf) (hname : (gf.name == "runtime.NumGoroutine") = false) {fn1 fn2 : Fun} {c0 c1 c2 : Code} (e1 : fn1.body = .seq c0 c1) (e2 : fn2.body = .seq c0 c2) (same : fn1.np = fn2.np ∧ fn1.nslots = fn2.nslots ∧ fn1.keep = fn2.keep) (hc : znL P CD [0, 2] gf fn1 fn2 = true) :
  Enters P f ∧ ∃ i0 i1 r0 o1 o2 ga gb t3 t4 ty ty' ty'',TwoOk P CD [0,2] gf fn1 fn2 c0 c1 c2 i0 i1 r0 o1 o2 ga gb t3 t4 ty ty' ty'':=by
 unfold znL at hc
 split at hc
 ·rename_i i0 r0 i1 o1 o2 t4 ga gb c0' c1' c0'' c2' hb hb1 hb2
  rw [e1] at hb1
  rw [e2] at hb2
  simp only [yb,beq_iff_eq,bne_iff_ne,ne_eq,yc,decide_eq_true_eq] at hc
  obtain ⟨⟨⟨⟨⟨⟨⟨⟨⟨⟨⟨⟨⟨⟨⟨⟨h1,h1'⟩,h2⟩,h3⟩,h4⟩,h5⟩,h6⟩,h7⟩,h8⟩,h9⟩,h10⟩,h11⟩,h12⟩,h13⟩,h14⟩,h15⟩,h16⟩:=hc
  split at h4
  ·rename_i t3 ht3
   simp only [yb,bne_iff_ne,ne_eq,yc,decide_eq_true_eq] at h4
   obtain ⟨⟨⟨h4,hne⟩,hk3⟩,hl3⟩:=h4
   obtain ⟨k1,k2⟩:=zld h4
   injection hb1 with q1 q2
   injection hb2 with q3 q4
   subst q1 q2 q4
   refine ⟨⟨gf,_,hgf,hname,hb⟩,?_⟩
   obtain ⟨te,hte⟩ : ∃ te,P.underlying (zAP o2).1 = some (.slice te):=by
    unfold zpk at h8
    split at h8
    ·rename_i te hte; exact ⟨te,hte⟩
    ·cases h8
   exact ⟨i0,i1,r0,o1,o2,ga,gb,t3,t4,(zAP o2).1,(zAP o2).2,te,hb,e1,e2,h1,h2,h3,k1,k2,hne,⟨hk3,hl3⟩,⟨h5,h6⟩,h7,hte,h9,h10,same,h11,h12,h13,h14,h15,h16⟩
  ·cases h4
 ·cases hc
end
section
variable {P : Program} {CD : Draws} {κ : List Tmp}
theorem zww (hD : DrawOk P CD) {f : Nat} {gf : Func} {fn1 fn2 : Fun} {c0 c1 c2 : Code} {i0 i1 : Nat} {r0 : Array Go.Oper} {W o2 : Go.Oper} {U X : Go.Code} {t3 t4 ty H d : Nat} (R : P.funcs[f]? = some gf) (T : TwoOk P CD κ gf fn1 fn2 c0 c1 c2 i0 i1 r0 W o2 U X t3 t4 ty H d)
  {va : V} {E : Prop} {σ : zd} {v : V} {σ' : zd} {n0 n2 : Nat} {s0 s2 : St} {e2 : Ex} (h0 : zO zjF n0 c0 (enter fn2 [va] σ) = some (.normal,s0)) (O : s0.env.getD 0 vun = va) (M : ∀ g' w' u,Rel g' w' s0.st → zf g' w' s0.st va u → ∃ ad n c,u = .slice ad n c ∧ (ad = none → E)) (Y : zO zjF n2 c2 s0 = some (e2,s2)) (l2 : leave fn2.raw fn2.results (e2,s2) = some (v,σ'))
  (h1 : E → ∃ n1 s1,zO zjF n1 c1 s0 = some (.ret,s1) ∧ leave fn1.raw fn1.results (.ret,s1) = some (v,σ')) (C : fn2.np = 1) {g : G} {w : World} {us : List Value} (R0 : Rel g w σ) (hv : zz g w σ [va] us) :
  Calls P f us.toArray w fun e w' => ∃ u g',e = .returned u ∧ zf g' w' σ' v u ∧ Rel g' w' σ' ∧ Ext g w σ g' w' σ':=by
 have hA:=zlG (gf:=gf) (fn:=fn2) R0 hv T.nd T.all T.len T.np T.np2 T.hd (by rw [C]; rfl);have a:=fun n => zol (P:=P) (CD:=CD) (T:=zjF) (g0:=g.clean σ.length) (w0:=w) (σ0:=σ) (κ:=κ) (nt:=gf.ntmps) hD (zfW g σ.length) n fun m _ => zo0 m;have l:=zdr zjF n0 _ _ _ _ h0
 have i : ∀ (fn : Fun) (e : Ex) (s : St),zjs P κ gf.results.toList fn.results = true → leave fn.raw fn.results (e,s) = some (v,σ') → s.lim = (enter fn2 [va] σ).lim → ∀ x t w',zCT (g.clean σ.length) w σ κ gf.ntmps e s x t w' →
   bodyPost P gf (fun e w' => ∃ u g',e = .returned u ∧ zf g' w' σ' v u ∧ Rel g' w' σ' ∧ Ext g w σ g' w' σ') x t w' ∧ x = zk4 e:=fun fn e s B b q x t w' j => by
  obtain ⟨rfl,g',A'⟩:=j;obtain ⟨q1,q2,u,q3,L,q4,q5,S⟩:=zlw (fn:=fn) (gf:=gf) (zfW g σ.length) (by rw [q]; exact Nat.le_add_right _ _) B b A'
  have h : t.defers = [] ∧ ∃ v1,(results gf t.tmps).run P w' = .ok v1 w' ∧ ∃ u g',(Ending.returned v1) = .returned u ∧ zf g' w' σ' v u ∧ Rel g' w' σ' ∧ Ext g w σ g' w' σ' :=
   ⟨q2,u,q3,u,G.under g w L,rfl,zgW (g:=L) (g':=G.under g w L) rfl rfl rfl _ _ q4,zo8 S q5,zpN S⟩
  rcases q1 with rfl | rfl
  ·exact ⟨h,rfl⟩
  ·exact ⟨h,rfl⟩
 refine calls_of_wp R T.body (wp_seq (wp_mono ((a n0).1 _ c0 _ .normal s0 T.k0 h0 _ _ _ (yg _) hA) fun x a1 y j => ?_));obtain ⟨rfl,g1,p⟩:=j
 show Exit.then _ _ .normal a1 y
 simp only [Exit.then];have k:=p.fr.size;have hu:=p.fr.env 0 0 T.arg;simp only [O] at hu;obtain ⟨ad,n,c,hu,z⟩:=M _ _ _ p.rel hu;refine wp_seq (wp_seq (zkX ?_));refine zrS (o:=W) rfl T.e1.1 T.e1.2.1 T.f3 (zt6 (.inr T.e1.2.2) hu) fun a2 A => ?_;refine zrS (o:=o2) (u:=.bool ad.isNone) (w':=y) rfl T.e2.1 T.e2.2.1 T.f4 ?_ fun a3 J => ?_
 ·unfold execOp
  simp only [T.e2.2.2,zr2,A.val k,Act.eval];simp [eqGuard,Lib.run_eql_slice_nil y ty d ad n c 0 0 T.ty]
 show Exit.then _ _ .normal a3 y
 simp only [Exit.then];have Z : At' (g.clean σ.length) w σ κ gf.ntmps g1 y s0 a3:=⟨p.ext,p.rel,J.fr (A.fr p.fr)⟩;have hle : σ.length ≤ s0.base:=by rw [l.1]; exact yg _
 cases ad with
 | none =>
   have N:=z rfl;obtain ⟨n1,s1,r,K⟩:=h1 N;have D:=zdr zjF n1 _ _ _ _ r;refine wp_cond_true (J.val (A.size k)) (wp_mono ((a n1).1 U c1 s0 .ret s1 T.k1 r _ _ _ hle Z) fun x a4 I j => ?_);obtain ⟨k1,k2⟩:=i fn1 .ret s1 T.q1 K (by rw [D.2,l.2]) x a4 I j;subst k2;simp only [zk4,Exit.then];exact k1
 | some ad =>
   have Q:=zdr zjF n2 _ _ _ _ Y;refine wp_cond_false (J.val (A.size k)) (wp_skip ?_);simp only [Exit.then];exact wp_mono ((a n2).1 X c2 s0 e2 s2 T.k2 Y _ _ _ hle Z) fun x a4 I j => (i fn2 e2 s2 T.q2 l2 (by rw [Q.2,l.2]) x a4 I j).1
def zrt (sz : Nat) (σ : zd) (xs : List (List Fz)) : Option (V × zd):=if zn4 sz xs = true ∧ xs.length ≤ LIM ∧ 0 < xs.length ∧ Obs.lt σ.length σ = true then some (vsl xs,σ) else none
def zve (sz : Nat) (σ : zd) (xs : List (List Fz)) : Option (V × zd):=if zn4 sz xs = true ∧ xs.length ≤ LIM ∧ Obs.lt σ.length σ = true then some (vsl xs,σ) else none
def zh9 (sz : Nat) : List V → zd → Option (V × zd)
 | [.one (.own id ver lo n)],σ => (elems σ (.one (.own id ver lo n))).bind (zrt sz σ)
 | [.one (.f (.sl xs))],o :: σ => zve sz (o :: σ) xs
 | aS,σ => zoA sz aS σ
def zGj (va : V) (xs : List (List Fz)) : Prop:=va = vsl xs ∨ (∃ id ver lo n,va = .one (.own id ver lo n)) ∧ 0 < xs.length
theorem zwr {g : G} {w : World} {σ : zd} {va : V} {xs : List (List Fz)} {u : Value} (h : zGj va xs) (j : elems σ va = some xs) (m : zf g w σ va u) : ∃ ad n c,u = .slice ad n c ∧ (ad = none → xs = []):=by
 rcases h with rfl | ⟨⟨id,D,lo,n,rfl⟩,y⟩
 ·simp only [vsl,zf,zy,rep] at m
  obtain ⟨ad,c,sz,hu,_,_,l⟩:=m;refine ⟨ad,_,c,hu,fun e => ?_⟩;rcases l with h | ⟨b,o,h,_⟩
  ·exact h
  ·rw [e] at h; cases h
 ·simp only [zf,zy] at m
  obtain ⟨x,sz,len,p,hle,f,C,c0,z⟩:=m;simp only [elems,ya] at j;obtain ⟨H,B,d⟩:=j;unfold Ob.frz at d;split at d
  ·rename_i i q es
   split at d
   ·rename_i k
    subst k;have r : shapeOf σ id = some (i,q,es.length):=(by simp [shapeOf,B,Ob.shape]);rw [r] at p;simp only [Option.some.injEq,Prod.mk.injEq] at p;obtain ⟨rfl,rfl,rfl⟩:=p;obtain ⟨a,c,hu,E,s,t⟩:=f rfl;refine ⟨a,n,c,hu,fun e => ?_⟩
    have hlen : xs.length ≤ n:=by
     have:=(zfb d).1;rw [this];simp;omega
    have v : c ≠ 0:=(by omega);have hle : es.length ≠ 0:=fun h => v (s h);obtain ⟨_,A,_⟩:=t hle;have:=A v;rw [e] at this;cases this
   ·cases d
  ·cases d
theorem zqD (hD : DrawOk P CD) {f : Nat} {gf : Func} {sz : Nat} (hgf : P.funcs[f]? = some gf) (hname : (gf.name == "runtime.NumGoroutine") = false) (hc : znL P CD [0, 2] gf zgC (zfw sz) = true)
  (va : V) (xs : List (List Fz)) (σ : zd) (hel : ∀ o,elems (σ ++ o) va = some xs) (hk : zGj va xs) (hok : zn4 sz xs = true ∧ xs.length ≤ LIM ∧ Obs.lt σ.length σ = true) :
  Enters P f ∧ ∀ g w us,Rel g w σ → zz g w σ [va] us → Calls P f us.toArray w fun e w' => ∃ u g',e = .returned u ∧ zf g' w' σ (vsl xs) u ∧ Rel g' w' σ ∧ Ext g w σ g' w' σ:=by
 obtain ⟨hE,i0,i1,r0,o1,o2,ga,gb,t3,t4,ty,ty',ty'',T⟩:=zBh (fn1:=zgC) (fn2:=zfw sz) (c0:=znj) (c1:=zpw) (c2:=zpr sz) hgf hname rfl rfl ⟨rfl,rfl,rfl⟩ hc
 refine ⟨hE,fun g w us R0 hv => ?_⟩
 have hel0:=hel []
 have hel1:=hel [.tok sz [0]]
 rw [List.append_nil] at hel0
 have hlt : ¬ σ.length + 1 ≤ σ.length:=by omega
 refine zww (E:=xs = []) (va:=va) (n0:=1) (n2:=2) (e2:=.ret) (s0:=⟨[va,vsl []],σ,σ.length,σ.length⟩) (s2:=⟨[vun,.one (.ap σ.length 0 xs)],σ ++ [.tok sz [xs.length]],σ.length,σ.length⟩) hD hgf T ?_ rfl (fun g' w' u _ h => zwr hk hel0 h) ?_ ?_ (fun hxs => ⟨2,⟨[vun,vsl []],σ,σ.length,σ.length⟩,?_,?_⟩) rfl R0 hv
 ·simp [zO,znj,steps,step,za8,R.get,R.put,zAe,enter,zfw,vsl,vun]
 ·simp [zO,zpr,steps,step,za8,R.get,R.put,zAe,vsl,vun,zn9,zvN,zaf,zx2,R.alloc,hel1,hok.1,zDN,znO,Ob.front,Ob.setFront,R.setOb,hok.2.1,zqo,clr,St.mkSt]
 ·simp [leave,zfw,outs,ztl,zxX,zCV,zfF,vsl,zmq,zmg,V.lts,V.lt,C.lt,hok.2.2,zCH,vun]
 ·simp [zO,zpw,steps,step,za8,R.get,R.put,zAe,vsl,vun,zqo,clr,St.mkSt]
 ·subst hxs
  simp [leave,zgC,outs,ztl,zxX,zCV,zfF,vsl,zmq,zmg,V.lts,V.lt,C.lt,Obs.lt,zCH,vun]
theorem zyl {σ : zd} {id a lo n : Nat} {xs : List (List Fz)} (h : elems σ (.one (.own id a lo n)) = some xs) (o : zd) : elems (σ ++ o) (.one (.own id a lo n)) = some xs:=by
 simp only [elems,ya] at h ⊢;obtain ⟨c,b,d⟩:=h;exact ⟨c,by rw [List.getElem?_append_left (List.getElem?_eq_some_iff.1 b).1]; exact b,d⟩
theorem zqa (hD : DrawOk P CD) {f : Nat} {gf : Func} {sz : Nat} (hgf : P.funcs[f]? = some gf) (hname : (gf.name == "runtime.NumGoroutine") = false) (hc : znL P CD [0, 2] gf zgC (zfw sz) = true)
  {id ver lo n : Nat} {σ σ' : zd} {v : V} (h : (elems σ (.one (.own id ver lo n))).bind (zrt sz σ) = some (v,σ')) :
  Enters P f ∧ ∀ g w us,Rel g w σ → zz g w σ [.one (.own id ver lo n)] us → Calls P f us.toArray w fun e w' => ∃ u g',e = .returned u ∧ zf g' w' σ' v u ∧ Rel g' w' σ' ∧ Ext g w σ g' w' σ':=by
 rw [ya] at h
 obtain ⟨xs,h1,h2⟩:=h
 unfold zrt at h2
 split at h2
 ·rename_i hok
  injection h2 with h2
  simp only [Prod.mk.injEq] at h2
  obtain ⟨rfl,rfl⟩:=h2
  exact zqD hD hgf hname hc _ xs σ (zyl h1) (.inr ⟨⟨_,_,_,_,rfl⟩,hok.2.2.1⟩) ⟨hok.1,hok.2.1,hok.2.2.2⟩
 ·cases h2
theorem zsc (hD : DrawOk P CD) {f : Nat} {gf : Func} {sz : Nat} (hgf : P.funcs[f]? = some gf) (hname : (gf.name == "runtime.NumGoroutine") = false) (hc : znL P CD [0, 2] gf zgC (zfw sz) = true)
  {xs : List (List Fz)} {σ σ' : zd} {v : V} (h : zve sz σ xs = some (v,σ')) :
  Enters P f ∧ ∀ g w us,Rel g w σ → zz g w σ [.one (.f (.sl xs))] us → Calls P f us.toArray w fun e w' => ∃ u g',e = .returned u ∧ zf g' w' σ' v u ∧ Rel g' w' σ' ∧ Ext g w σ g' w' σ':=by
 unfold zve at h
 split at h
 ·rename_i hok
  injection h with h
  simp only [Prod.mk.injEq] at h
  obtain ⟨rfl,rfl⟩:=h
  exact zqD hD hgf hname hc _ xs σ (fun _ => rfl) (.inl rfl) hok
 ·cases h
theorem zxe (hD : DrawOk P CD) {f : Nat} {gf : Func} {sz : Nat} (hgf : P.funcs[f]? = some gf) (hname : (gf.name == "runtime.NumGoroutine") = false) (hc : znL P CD [0, 2] gf zgC (zfw sz) = true) (args : List V) (σ : zd) (v : V) (σ' : zd) (h : zh9 sz args σ = some (v, σ')) :
  Enters P f ∧ ∀ g w us,Rel g w σ → zz g w σ args us → Calls P f us.toArray w fun e w' => ∃ u g',e = .returned u ∧ zf g' w' σ' v u ∧ Rel g' w' σ' ∧ Ext g w σ g' w' σ':=by
 unfold zh9 at h
 split at h
 ·exact zqa hD hgf hname hc h
 ·exact zsc hD hgf hname hc h
 ·exact zzo hD hgf hname hc _ _ _ _ h
end
end Go.A
namespace AC
open Go.A Go.A.Lex
def tab : List (List (Option Fun)):=[
 bare [none,none,none,none,some (1497977725410683176788991998418796543,zo),none,none,none,none,none,none,none,none,none,none,some (47,zkb)],
 bare [some (543,zC),some (4001231,ziu),none,none,some (79,zgG),none,some (33571891,za9),some (33554511,zrT),none,some (144115253003754999,zhs),none,some (1022379447,zr3),none,none,some (11418155766219704907464733300850600260547966967,zk),some (5,zah)],
 bare [none,none,none,none,none,none,none,none,none,none,none,none,none,none,none,none],
 bare [none,none,none,some (4183,zfx),none,none,none,none,none,none,none,none,none,some (38685626227685725776904319,zcb),none,none],
 bare [some (23,zeA),some (70368748126583,zfH),some (131635,zdj),some (590304817833848868607,ziW),some (29,zdg),some (23,zh0),some (89203150935305958141877267118393739786060287,zG),some (309485009969963856432235007,zaP),some (79228540312824354700590614519,zaR),some (19345174297145887541987327,zeF),some (5,zaN),some (262707,zcJ),some (83079285037833274825762022487035903,zeN),some (9831967090518095288600575,zax),some (11150372645996141831579820250029257836789751,zeH),some (1077941191,za3)],
 bare [none,none,none,none,none,none,none,none,none,none,none,none,none,none,none,none],
 bare [none,none,some (68719972543,zgQ),none,some (2417860862618887407011831,ziA),none,none,none,none,some (68719476743,zey),none,none,none,none,some (141465551735,zaQ),none],
 bare [none,none,none,none,none,none,none,some (19,zcE),some (11,ze8),some (32909,zcG),some (5,zdl),some (543,zeO),some (576601491972949967,zcl),some (5,zan),some (17661043933199,zE),some (151060495,zA)],
 bare [some (2890685472579903,zbY),some (19886839177393615664282993661,zaA),some (31,zfc),some (536903965,zbZ),some (537919539,zcF),none,none,none,none,none,none,none,none,none,none,some (669,zfq)],
 bare [some (11,zhD),none,some (7,zfh),some (252707005,zfv),some (31,ziZ),some (525,zeP),none,some (15407,zlt),some (5,zpj),some (19,zbq),some (7,zjw),some (36028861980348247,zcW),none,none,none,some (309487371008879061366997373,zar)],
 bare [some (1100015992887,zaq),some (5070603543725610699058311077759,zbg),some (7,zdP),some (7,zdA),none,none,none,none,none,some (66483,zbG),some (659,z6),some (5404360887,za4),some (633826509113847392481258242063,zaz),some (1152994072512692351,zeM),none,none],
 bare [none,some (16883,zhk),some (19,zbP),some (11,zhS),some (2101171,zhY),none,some (3963069,ziC),some (1074250695,zau),some (16806963,zcd),none,none,none,none,none,none,none],
 bare [some (5,zgU),some (66483,zaX),some (262645,zkc),some (19361999891509624300419063,znv),some (71,znm),some (29,zfN),some (5,zdi),some (19,zcD),some (7,zde),some (19,zcO),some (15,zc9),some (2097211,zai),some (359,zdc),some (5,zhN),some (4202527,zc5),some (1299341903921783656432219969421043,zcK)],
 bare [some (4196895,zaK),some (262751,zx),some (2229791,zg),none,none,none,none,none,none,none,none,none,none,none,none,none],
 bare [some (659,z8),none,none,some (66483,zbb),none,none,some (137506063859,zlM),some (8590985487,zm1),some (23,zrJ),some (4231239,zkj),some (66483,zbF),some (66483,zch),some (4196415,zc1),some (5,ziG),some (143,zho),none],
 bare [none,none,none,none,none,none,none,some (1011,zwL),some (16794621,zhi),some (11,zmR),some (8651699,zlf),some (2963,zee),some (3213974174218952357560221179716737556379227408111879118128127,zi),some (5,zjA),some (5,zkd),none],
 bare [none,some (115,ztU),some (16371,zs9),some (147,zkG),some (5,zmX),some (137506063859,zkP)]]
def T (n : Nat) : Option Entry:=if n = 62 then some (.ext (zh6 5)) else if n = 118 then some (.ext zfp) else if n = 181 then some (.ext (zh9 1)) else if n = 117 then some (.ext zlE) else if n = 145 then some (.ext (zg0 177)) else zu0 tab n
end AC
namespace Go.A
section rules
variable {T : Nat → Option Entry} {s s1 s2 : St} {a b c : Code} {e : Ex} {r : Option (Ex × St)}
end rules
end Go.A
namespace Go.A
def Code.p1 : Code → Code
 | .seq a _ => a
 | .cond _ a _ => a
 | .block _ a => a
 | c => c
def Code.p2 : Code → Code
 | .seq _ b => b
 | .cond _ _ b => b
 | c => c
end Go.A
attribute [go_sem] true_or or_true or_self false_or or_false Go.A.zzF Go.A.zxw Go.A.zdb Go.A.zuE List.all_cons List.all_nil List.headD_cons Int.natCast_nonneg Int.toNat_natCast Int.natCast_zero
namespace AC
open Go Go.A Go.A.Lex
abbrev vI (x : Int) : V:=.one (.f (.lit (.int .i64 x)))
abbrev zEm (x : Int) : V:=.one (.f (.lit (.int .u64 x)))
abbrev vB (x : Bool) : V:=.one (.f (.lit (.bool x)))
abbrev vL (xs : List (List Fz)) : V:=.one (.f (.sl xs))
abbrev vU : V:=.one .un
abbrev vFn (g : Nat) (caps : List C) : V:=.one (.fn g [] caps)
abbrev ei (x : Int) : Fz:=.lit (.int .i64 x)
abbrev eu (x : Int) : Fz:=.lit (.int .u64 x)
def ri (x : Int) : List Fz:=[.lit (.int .i64 x)]
abbrev eI (l : List Int) : Fz:=.sl (l.map ri)
abbrev vIs (l : List Int) : V:=.one (.f (.sl (l.map ri)))
def rl (l : List Int) : List Fz:=[.sl (l.map ri)]
abbrev vLs (l : List (List Int)) : V:=.one (.f (.sl (l.map rl)))
def rs (s : Int × Int) : List Fz:=[.lit (.int .i64 s.1),.lit (.int .i64 s.2)]
abbrev vSs (l : List (Int × Int)) : V:=.one (.f (.sl (l.map rs)))
structure POp where
 kind : Int
 bits : Int
 lanes : Int
 dst : Int
 args : List Int
 imm : Int
structure PPhi where
 bits : Int
 dst : Int
 src : List Int
 args : List Int
structure PBlock where
 phis : List PPhi
 ops : List POp
 kind : Int
 arg : Int
 to : List Int
structure PFunc where
 params : List Int
 ret : Int
 blocks : List PBlock
def ro (o : POp) : List Fz:=[ei o.kind,ei o.bits,ei o.lanes,ei o.dst,eI o.args,eu o.imm]
def rp (p : PPhi) : List Fz:=[ei p.bits,ei p.dst,eI p.src,eI p.args]
def rb (b : PBlock) : List Fz:=[.sl (b.phis.map rp),.sl (b.ops.map ro),ei b.kind,ei b.arg,eI b.to]
abbrev cOp (o : POp) : List C:=[.f (ei o.kind),.f (ei o.bits),.f (ei o.lanes),.f (ei o.dst),.f (eI o.args),.f (eu o.imm)]
abbrev zuR (p : PPhi) : List C:=[.f (ei p.bits),.f (ei p.dst),.f (eI p.src),.f (eI p.args)]
abbrev zh (b : PBlock) : List C:=[.f (.sl (b.phis.map rp)),.f (.sl (b.ops.map ro)),.f (ei b.kind),.f (ei b.arg),.f (eI b.to)]
abbrev zc4 (f : PFunc) : List C:=[.f (eI f.params),.f (ei f.ret),.f (.sl (f.blocks.map rb))]
abbrev vOp (o : POp) : V:=.agg (cOp o)
abbrev zFl (p : PPhi) : V:=.agg (zuR p)
abbrev znB (b : PBlock) : V:=.agg (zh b)
abbrev zfZ (f : PFunc) : V:=.agg (zc4 f)
attribute [go_sem] Int.reduceEq Int.reduceNe Int.reduceAdd Int.reduceSub Int.reduceMul Int.reduceNeg Int.reduceGT Int.reduceGE
attribute [go_sem] vI zEm vB vL vU vFn ei eu eI vIs vLs vSs cOp zuR zh zc4 vOp zFl znB zfZ
theorem wrap_i64 {n : Int} (h : -9223372036854775808 ≤ n) (b : n < 9223372036854775808) : Go.IntKind.i64.wrap n = n:=by
 unfold Go.IntKind.wrap Go.IntKind.bits Go.IntKind.signed;simp only [Bool.true_and];split
 ·rename_i a
  simp at a;omega
 ·rename_i a
  simp at a;omega
theorem wrap_u64 {n : Int} (h : 0 ≤ n) (a : n < 18446744073709551616) : Go.IntKind.u64.wrap n = n:=by
 unfold Go.IntKind.wrap Go.IntKind.bits Go.IntKind.signed;simp only [Bool.false_and];have : (2 : Int) ^ 64 = 18446744073709551616:=by decide
 rw [this]
 split <;> first | omega | (rename_i h; simp at h)
theorem za {k n : Nat} (h : k < n) (a : n ≤ 4294967296) : Go.IntKind.i64.wrap ((k : Int) + 1) = ((k + 1 : Nat) : Int):=by
 rw [wrap_i64] <;> omega
theorem zm {α : Type} {r : α → List Fz} {l : List α} {k : Nat} (h : k < l.length) : (l.map r)[k]? = some (r l[k]):=by simp [h]
theorem ilt {k n : Nat} (h : k < n) : ((k : Int) < (n : Int)) = True:=by simp [h]
def zhP (b : Int) : Bool:=decide (b = 1) || decide (b = 8) || decide (b = 16) || decide (b = 32) || decide (b = 64)
@[go_sem] theorem zCk (b : Int) : call T 197 [vI b] [] = some (vB (zhP b),[]):=by
  rw [ze (fn:=zfN) rfl]
  by_cases c1 : b = 1
  ·simp -implicitDefEqProofs only [go_sem,zfN,zhP,c1]
  by_cases c2 : b = 8
  ·simp -implicitDefEqProofs only [go_sem,zfN,zhP,c1,c2]
  by_cases c3 : b = 16
  ·simp -implicitDefEqProofs only [go_sem,zfN,zhP,c1,c2,c3]
  by_cases c4 : b = 32
  ·simp -implicitDefEqProofs only [go_sem,zfN,zhP,c1,c2,c3,c4]
  by_cases c5 : b = 64 <;> simp -implicitDefEqProofs only [go_sem,zfN,zhP,c1,c2,c3,c4,c5]
def value (v : Int) : Bool:=decide (1 ≤ v) && decide (v ≤ 1023)
@[go_sem] theorem zy2 (v : Int) : call T 253 [vI v] [] = some (vB (value v),[]):=by
  rw [ze (fn:=zjA) rfl]
  by_cases c1 : 1 ≤ v <;> simp -implicitDefEqProofs only [go_sem,zjA,value,c1]
end AC
