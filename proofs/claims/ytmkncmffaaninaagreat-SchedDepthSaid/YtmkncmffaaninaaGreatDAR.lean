/- A part of the proof of SchedDepth. Conditions: none. -/
import Derived.Test.YtmkncmffaaninaaGreatDAQ
import Derived.Test.YtmkncmffaaninaaGreatDAP
set_option linter.unusedVariables false
set_option linter.unusedSimpArgs false
set_option linter.unusedSectionVars false
open Option renaming bind_eq_some_iff → ya
open Bool renaming and_eq_true → yb,not_eq_true' → yc
open List renaming getElem?_cons_zero → yd
open Nat renaming add_assoc → ye,add_comm → yf,le_refl → yg
namespace AC
open Go.A Go.A.Lex Go.A.Z
def zdT:Cd:=cW (c8 5 0 2 8 3 8 0 (m 12 12) 2) 1 (c1 (b3 0 2 (bd 5 b2 aC (v 0 3) (dB 5 b2 aC (c9 (de 22 (.l 5)) 9)))) 9 4 M (m 12 16)) 5 5
def zb4:Cd:=cB (m 12 44) zdT
def zdY:Cd:=cW (c8 6 1 2 10 3 10 2 (m 12 0) 2) 3 (c1 (b3 1 2 (bd 6 b2 aC (v 1 3) (dB 6 b2 aC (c9 (de 22 (.l 5)) 11)))) 11 4 M (m 12 16)) 6 6
def zb7:Cd:=cB (m 12 76) zdY
def zeO:Fun:=⟨2,12,0,false,[(4,none)],aX (w 2 (aN 2 0)) (cg 3 2 1 4 M) (c1 (ca (v 0 2) aC aw (v 0 3) aC aw (ep 3) au (eD 1 2 aC 1 aw 2 (E (v 1 3) 3) (er aC 4 aw 5 (ep 3) 6 7 7))) 7 4 M (m 12 16)) (J (e0 5 zb4) (b6 6 2 zb7) (d9 4 ar (m 12 16)))⟩
def zgL:Cd:=bO 6 5 4 (dL 6 0 (m 8 0) 0 1 (e5 1 3 5 2 (cu 0 2 (c9 (x .op aJ c []) 7) (ai 7 (.ret (m 8 0))))) 5 5)
def zg2:Cd:=cw (m 8 57) zgL
def zhe:Fun:=⟨2,8,0,false,[],d3 3 (cC 1) (bW 4 3 5) 0 zg2⟩
def zbP:Fun:=⟨2,3,0,false,[(2,none)],eu 2 0 (aP 1 (ef 227 aJ c) (af .geq c 0 2)) (m 3 4)⟩
def zhG:Fun:=⟨2,3,0,false,[(2,none)],eu 2 0 (eG (cC 1) (dF 180) bR 2) (m 3 4)⟩
def zg0:Cd:=bO 8 7 6 (dL 8 0 (m 10 0) 0 1 (eL (bV 1 5 7) (df 4) (c1 (cb 4 3 (dk .leq 1) au (a0 (bL 4) (d 1) 1 (ek 1) 2 (bU 9 3) [])) 9 2 M (m 10 4)) (.reg (bZ 4 3))) 7 7)
def zfs:Cd:=cw (m 10 234) zg0
def zhN:Fun:=⟨2,10,0,false,[(2,none)],ei 2 (cQ (an 3 (-1)) (en 5 0 (bW 6 5 7) 0 zfs) (d9 2 ar (m 10 4)))⟩
def zhB:Cd:=bO 13 12 11 (dL 13 2 (m 14 452) 2 3 (e5 1 10 12 5 (ci 2 (d1 5 2 5 b2 (dB 3 (ec 1 0 [] 0 c []) (.app 1 bQ c) (e7 (W 1 8 (.l 7)) aJ))))) 12 12)
def zfU:Cd:=cB (m 14 7628) zhB
def zhT:Cd:=bO 9 8 7 (dL 9 0 (m 14 4) 2 1 (aG 8 (eY 1 6 8 aC (dD 3 bQ 4)) (en 10 4 (bW 11 10 12) 2 zfU)) 8 8)
def zfS:Cd:=cB (m 14 452) zhT
def zik:Fun:=⟨1,14,0,false,[(1,none)],cp 1 d0 (bl 0 aw (ad (eX aT [] (some (0,1)) c) 2) (.seq (en 6 0 (bW 7 6 8) 0 zfS) (b7 2 1 (m 14 2))))⟩
def zcP:Cd:=bO 11 10 9 (dL 11 0 (m 13 0) 0 1 (aG 10 (eY 1 8 10 aC (dD 4 bQ 5)) (dj 1 4 b2 (df 6) (dj 2 5 (d 6) (c9 (x .op bQ aJ [c]) 12) (bq 12 3 M (m 13 8))))) 10 10)
def zaU:Cd:=cw (m 13 1798) zcP
def zav:Fun:=⟨3,13,0,false,[(3,none)],ei 3 (J (ex 0 (p aw (d 1) (eA aw 7 2 c)) 7 3 M (m 13 8)) (en 8 0 (bW 9 8 10) 0 zaU) (d9 3 ar (m 13 8)))⟩
def zfd:Cd:=bO 7 6 5 (dL 7 0 (m 9 0) 0 1 (b (bZ 6 3) (dj 0 3 b2 (dB 1 (d 3) b2 (eA aC 8 4 c)) (bq 8 2 M (m 9 4)))) 6 6)
def zda:Cd:=cw (m 9 99) zfd
def zci:Fun:=⟨2,9,0,false,[(2,none)],ei 2 (J (ex 0 (p aw (d 1) (eA aw 4 2 c)) 4 2 M (m 9 4)) (eT 0 (a2 5 aw 6) 0 zda) (d9 2 ar (m 9 4)))⟩
def zgV:Fun:=⟨1,2,0,false,[(1,none)],eu 1 0 (cR (el 0) (c6 0 (eb 2147483647) 1 (ad (bK 2) 1))) (m 2 2)⟩
def zcy:Cd:=bO 6 5 4 (dL 6 0 (m 8 0) 0 1 (b (bZ 5 3) (cs (d1 1 0 3 dy (aI (dc 5) 7 (x .op (.l 4) c []))) 7 (b7 3 2 (m 8 4)))) 5 5)
def zaG:Cd:=cw (m 8 51) zcy
def zaZ:Fun:=⟨2,8,0,false,[(2,none)],dG 2 (eT 0 (a2 4 aw 5) 0 zaG) (ds 2 (-1) (m 8 4))⟩
def ziv:Cd:=bO 6 5 4 (dL 6 0 (m 8 0) 0 1 (e5 1 3 5 2 (c1 (bd 2 aw (eb 64) au (a0 (bL 2) (bu 152) 1 bR 2 (bU 7 3) [])) 7 1 M (m 8 2))) 5 5)
def zgw:Cd:=cw (m 8 56) ziv
def zjv:Fun:=⟨1,8,0,false,[(1,none)],cQ (h 1 M) (en 3 0 (bW 4 3 5) 0 zgw) (d9 1 ar (m 8 2))⟩
def zkW:Cd:=bO 17 16 15 (dL 17 0 (m 29 214) 3 1 (aG 16 (eY 1 14 16 aC (dD 8 bQ 9)) (d4 7 9 (d 8) (e7 (W 1 2 aJ) aJ))) 16 16)
def ziW:Cd:=dP (m 29 114902) zkW
def zkY:Cd:=bO 25 24 23 (dL 25 4 (m 29 1838294) 3 5 (ak (q (bV 1 22 24)) (df 12) 6 (b (cb 6 12 b2 aC (af .eql c (-2) 26)) (ag 26 (aG 11 (af .eql c (-2) 27) (o 27 (.reg (bZ 12 11)) (.reg (d1 6 7 11 (d 12) (ad (em 231 dA bQ aJ [c]) 11)))))))) 24 24)
def ziC:Cd:=dP (m 29 31198422) zkY
def zlf:Cd:=bO 21 20 19 (dL 21 2 (m 29 66) 3 3 (e5 1 18 20 10 (cQ (an 11 (-2)) (ak (q (v 1 2)) (p aC (d 10) (cM b2 22 aC 23 22 24)) 4 ziC) (cs (cb 6 10 b2 aC (eA (d 11) 28 1 c)) 28 (dj 6 10 (d 11) (e7 (W 1 2 aJ) aJ) (.goto 0 (m 29 214) 3))))) 20 20)
def ziJ:Cd:=dP (m 29 1835222) zlf
def zae:Cd:=b4 (eG (dI 2) (d 1) (dF 100) 4) (ex 4 (aI aw 13 (cH 0)) 13 3 d0 (m 29 8)) (b (b3 0 2 (ad aw 5)) (J (.regd [] (q (ec 1 0 [] 0 (i (-2)) [])::bd 5 (ct .ck 230 [] [] aJ c []) (d 5) (eX (H 0) [] none c) (dD 6 bQ 7))) (en 14 4 (bW 15 14 16) 0 ziW) (dj 6 1 (d 1) (e7 (W 1 2 aJ) aJ) (J (.label 0) (ej (d 4) 18 (.slc 1 c (some (i 1)) none none) 19 18 20 2 ziJ) (cu 6 1 (e7 b2 (i (-1))) (b7 6 3 (m 29 8)))))))
def zlh : Go.A.Code:=(findLabel zae 0).getD .skip
theorem zp3 : findLabel zae 0 = some zlh:=rfl
def zmV:Fun:=⟨2,29,0,false,[(3,none)],cX 2 2 0 3 d0 (.scope zae)⟩
def zm6:Fun:=⟨3,4,0,false,[(3,none)],ei 3 (ev 0 (d 1) (bd 2 (ec 1 0 (ed 0 []) 0 aJ [(1,c)]) (de 232 dA) au (et 0 (d 1) 1 (cm (ab (d 2) 2) (em 233 bQ aJ c []) 3 (d 1) 4 (dk .eql 1) 5 (e3 6 3)))) (m 4 8))⟩
def zfB:Fun:=⟨1,4,0,false,[(1,none)],cQ (h 1 M) (en 2 0 [] 0 (.seq (ck 2 1 3 3 2 8 3 3 (ck 2 16 3 3 2 32 3 3 (c0 2 64 3))) (bq 3 1 ar (m 4 2)))) (d9 1 M (m 4 2))⟩
def zc4:Fun:=⟨1,2,0,false,[(1,none)],ei 1 (ev 0 (bu 197) (ad bR 1) (m 2 2))⟩
def zcA:Fun:=⟨2,3,0,false,[(2,none)],eu 2 0 (aP 1 (ef 234 aJ c) (af .geq c 0 2)) (m 3 4)⟩
def zc9:Fun:=⟨1,3,0,false,[(2,none)],cX 1 4 0 2 M (eN (dm 0) (eG aC (bu 197) bR 2) (m 3 4))⟩
def zcN:Fun:=⟨2,3,0,false,[(2,none)],eu 2 0 (aP 1 (ef 235 aJ c) (af .geq c 0 2)) (m 3 4)⟩
def zc3:Fun:=⟨2,4,0,false,[(3,none)],cX 2 6 0 3 M (eN (cC 1) (eG (aM 6 2) (ef 203 aJ c) bR 3) (m 4 8))⟩
def zaf:Fun:=⟨2,6,0,false,[(3,none)],b4 (cg 2 6 1 3 M) (eZ (bl 0 dt (eE (a5 3) (el 2) au (cm (cx 2 2) aC 1 (eb 1) 2 au 3 (eD 0 2 aC 1 (eb 20) 2 (ab (bK 3) 7) (e3 8 4)))) (o 4 (d9 3 M (m 6 8)) (ex 0 (K dt (a5 3) aC (el 1) (ea 0 2 (cT (dJ 1) (eb 17) 2 (e3 3 5)))) 5 3 M (m 6 8))))) (eN (aM 6 2) (ad (bu 236) 3) (m 6 8))⟩
def zc8:Fun:=⟨3,6,0,false,[(4,none)],cX 3 4 2 4 M (bl 0 dt (eC (a5 7) aC 1 (.lk (.agg dg) true aJ c) au eQ eP (bn dg) (aK (aF 4 c bQ) (h 5 bQ))) (aG 0 (K dt (a5 7) aC (d 1) (g (aM 4 3) (e (.mu bQ aJ c)) [])) (cU 5 (ad bR 4) (m 6 16))))⟩
def zhO:Fun:=⟨1,2,0,false,[(1,some (some 2))],bN 1 (bn bj) (cU 0 (g (dn bj 0 1 c 1 1 1 []) (aV 2 1 c) []) (m 2 2))⟩
def zcZ:Fun:=⟨1,7,0,false,[(2,none),(3,none)],aX (w 1 (aN 6 0)) (aK (aY 2) (aY 3)) (eZ (cY 6 1 (p (bu 236) bR (c3 0 1 (cE (E aC 1) (bu 237) 2 (ad (bK 3) 4)))) (o 4 (dN (aK (aY 2) (aY 3))) (cD 0 1 (p aC (eM c 10) (ea 0 1 (cT (dJ 1) (d5 c 12) 2 (e3 3 5)))) (o 5 (dN (aK (an 2 1) (an 3 1))) (cs (b3 0 1 (af .eql c 22 6)) 6 (dN (b3 1 1 (bT 2 c (an 3 1)))))))))) (dN (eE (dm 1) dK aC (dD 2 bQ 3)))⟩
def zea:Cd:=bO 25 24 23 (dL 25 4 (m 38 1949755) 2 5 (aG 24 (eY 1 22 24 aC (dD 7 bQ 8)) (cu 1 8 (ca (v 0 6) aC (bu 205) (v 2 6) aC (d 7) b2 aC (ad (x .op (.l 9) (.l 8) [.l 5,c,i 1048576]) 3)) (dH 3 26 (e1 c 0) 26 (.goto 0 (m 38 8) 0)))) 24 24)
def zcw:Cd:=cB (m 38 31309947) zea
def zdZ:Cd:=bO 21 20 19 (dL 21 2 (m 38 114747) 1 3 (b (eY 4 18 20 (dc 4) (dz 6 (cL aT) 4 6)) (ej (v 3 6) 22 aC 23 22 24 4 zcw)) 20 20)
def zcm:Cd:=cj (m 38 1949755) zdZ
def zdU:Cd:=bO 34 33 32 (dL 34 8 (m 38 939638843) 2 9 (bl 33 (bV 2 31 33) (d2 (dc 2) 12 bj (bT 11 dA (aV 2 12 bQ))) (aG 1 (eC (v 4 10) aC 11 b2 aC (dI 12) (d 4) (d 9) (ad (x .op (.l 8) dA [bQ,aJ,c]) 3)) (dH 3 35 (e1 c 0) 35 (.goto 0 (m 38 8) 0)))) 33 33)
def zb2:Cd:=cB (m 38 15972025915) zdU
def zeo:Cd:=bO 30 29 28 (dL 30 6 (m 38 114747) 1 7 (bl 29 (bV 6 27 29) (d2 (dc 6) 10 (eh 0) (bT 9 dA (aV 6 10 bQ))) (ej (aM 6 10) 31 (bu 238) 32 31 33 8 zb2)) 29 29)
def zbU:Cd:=cj (m 38 939638843) zeo
def zel:Cd:=bO 17 16 15 (dL 17 0 (m 38 8) 0 1 (bl 16 (bV 5 14 16) (d2 (dc 5) 5 (aT::ey 0 0) (bT 4 dA (aV 5 5 bQ))) (J (ej (v 0 5) 18 aC 19 18 20 2 zcm) (ej (v 1 5) 27 aC 28 27 29 6 zbU) (b4 (p .mkm (d 0) (K dt dq eF aC (a (e (.mu (.l 5) (i 0) c)) (e (.mu (.l 6) (i 2) (i 1))) (K (.mv (.l 7)) (v 2 5) dq aC (ad (.lk (.one (H 0)) false dA c) 13))))) (dH 13 36 (cH 0) 36 (.exit 1 (m 38 114699) 0)) (aG 1 (bX 2 5 eF (dB 13 (bu 205) (d 4) (ad (x .op (.l 6) dA [aJ,c,i 1048576]) 3))) (dH 3 37 (e1 c 0) 37 (.goto 0 (m 38 8) 0)))))) 16 16)
def zb1:Cd:=cw (m 38 114699) zel
def zdG:Cd:=bM (aY 3) (J (eT 0 (p dt dq (cM (a5 2) 14 aC 15 14 16)) 0 zb1) (.label 0) (b7 3 2 (m 38 4)))
def zcC:Fun:=⟨2,38,0,false,[(2,none)],bM (aY 2) (.scope zdG)⟩
def zaI:Fun:=⟨5,8,0,false,[(5,none)],b4 (ac (aN 2 1) 5 (i 0)) (b (p (cC 4) dt (eC (a5 7) aC 0 (.lk (.agg dg) true aJ c) au eQ eP (bn dg) (aK (aF 4 c bQ) (h 6 bQ)))) (b (c9 (d 6) 7) (cG 7 5 7 (m 8 32)))) (di (aY 5) (m 8 32))⟩
def zy:Fun:=⟨5,8,0,false,[(6,none)],b4 (a2 5 (aN 2 1) 6) (bE (cC 4) (p dt (a5 7) (dB 0 (.lk (.agg dg) false aJ c) (.fld 2 (some 2) c) (aI (dI 5) 7 (.eqa 2 true aJ c)))) (cG 7 6 6 (m 8 64))) (di (aY 6) (m 8 64))⟩
def zg:Fun:=⟨5,9,0,false,[(5,none)],b (ac (aN 2 1) 5 (i 0)) (b4 (p (cC 4) dt (eE (a5 7) (d 0) (.lk (.agg dg) false aJ c) (dz 6 dg 4 6))) (eZ (b (b3 0 6 (af .lss c 0 7)) (o 7 (di (aY 5) (m 9 32)) (.seq (cD 0 6 (dB 2 (dk .eql 1) au (cm (cx 1 6) aC 1 (d 3) 2 (dX 1) 3 (e3 4 8))) (ag 8 (bm (q (v 0 6)) (dB 2 (ep 1) au (cm (b8 (cC 4)) dt 1 (a5 6) 2 aC 3 (cm (ab (v 0 6) 4) aC 5 (d 2) 6 (em 196 dA aJ c []) 7 (e3 8 8))))))) (bi 8 (aY 5) (m 9 32)))))) (ds 5 7 (m 9 32)))⟩
def z6:Fun:=⟨2,5,0,false,[(2,none)],cp 2 (bI 0) (J (ex 1 (dC 125 3) 3 2 (bI 0) (m 5 4)) (dH 1 4 (cH 64) 4 (b7 0 2 (m 5 4))) (aH (cb 0 1 dp (.bin .shl (bI 1) c) (dl .rem 3 2)) (m 5 4)))⟩
def zcL:Cd:=bO 6 5 4 (dL 6 0 (m 8 0) 0 1 (b (bZ 5 3) (cs (d1 1 0 3 b2 (aI aC 7 (x .op (.l 4) c []))) 7 (b7 3 2 (m 8 4)))) 5 5)
def zaW:Cd:=cw (m 8 51) zcL
def zbf:Fun:=⟨2,8,0,false,[(2,none)],dG 2 (eT 0 (a2 4 aw 5) 0 zaW) (ds 2 (-1) (m 8 4))⟩
def zkx:Cd:=c5 (dQ 6 5 9 2 9 0 (m 10 32) 1) 1 (.reg (d1 6 5 6 (.slc 1 aJ (some c) none none) (cb 5 6 (.slc 1 aJ none (some c) none) (.cpy 1 dA c) (eW 7 6))))
def zkr:Cd:=cj (m 10 96) zkx
def zk8:Fun:=⟨2,10,1,true,[(2,none)],cQ (h 2 d0) (dH 1 7 (el 0) 7 (.reg (g (.no "") (e (.no "")) []))) (aG 0 (eC aw dp 1 dp (de 247 bQ) au eQ eP (dD 3 aJ 4)) (.seq (bl 3 (eU .gtr 0) (dd 4 (aK (E (eU .gtr 9223372036854775807) 1) (bU 8 2))) (ai 8 (.reg (g (.no "") (e (.no "")) [])))) (bl 4 es (ad (eX (H 0) [] none c) 5) (cu 5 0 (ad (.cpy 1 aJ c) 6) (.seq (eZ zkr) (b7 5 2 (m 10 4)))))))⟩
def zon:Cd:=c5 (bA 1 (aP 2 b2 (dB 1 (d 3) b2 (a4 aC 6 .gtr 4 c))) 6 2 (m 8 15) 0) 3 (d4 0 2 b2 (df 2))
def zk6:Cd:=cw (m 8 15) zon
def zoN:Cd:=c5 (bA 1 (aP 3 b2 (dB 1 (d 2) b2 (a4 aC 7 .gtr 4 c))) 7 4 (m 8 15) 0) 5 (d4 0 3 b2 (df 3))
def zk1:Cd:=cw (m 8 15) zoN
def zos:Cd:=c5 (bA 2 (eA (d 3) 5 1 c) 5 0 (m 8 4) 0) 1 (c5 (.block 2 zk6) 4 zk1)
def zlr:Cd:=cw (m 8 15) zos
def zna:Fun:=⟨4,8,0,false,[(4,none)],dG 4 (eZ zlr) (b7 2 4 (m 8 16))⟩
def zrq:Fun:=⟨2,4,0,false,[(3,none)],cX 2 1 0 3 M (eN (cC 2) (cR (bu 248) (cm (b9 1) (eq 249 [] (.s 2) []) 1 (ef 119 aJ c) 2 bR 3 (e3 4 3))) (m 4 8))⟩
def zlg:Cd:=c5 (bA 1 (eA (d 2) 5 1 c) 5 0 (m 7 2) 0) 1 (aG 0 (bd 1 (dF 250) (d 0) (d 2) (a4 (dF 250) 6 .geq 3 c)) (o 6 (d4 0 1 b2 (df 1)) (d4 0 2 b2 (df 2))))
def ziP:Cd:=cw (m 7 7) zlg
def zkc:Fun:=⟨3,7,0,false,[(3,none)],bM (aY 3) (ae (b (d1 0 1 2 (ec 1 0 (ed 0 []) 0 aJ [(1,c)]) (c9 (de 232 dA) 4)) (cG 4 3 (-2) (m 7 8))) 0 ziP (b7 1 3 (m 7 8)))⟩
def zdd:Cd:=bO 6 5 4 (dL 6 0 (m 8 0) 0 1 (b (bZ 5 3) (cs (d1 1 0 3 (b1 4) (aI (dc 4) 7 (x .op (.l 4) c []))) 7 (b7 3 2 (m 8 4)))) 5 5)
def zbd:Cd:=cw (m 8 51) zdd
def zbz:Fun:=⟨2,8,0,false,[(2,none)],dG 2 (eT 0 (a2 4 aw 5) 0 zbd) (ds 2 (-1) (m 8 4))⟩
def zdz:Cd:=bO 6 5 4 (dL 6 0 (m 8 0) 0 1 (b (bZ 5 3) (cs (d1 1 0 3 (b1 6) (aI (dc 6) 7 (x .op (.l 4) c []))) 7 (b7 3 2 (m 8 4)))) 5 5)
def zbA:Cd:=cw (m 8 51) zdz
def zcs:Fun:=⟨2,8,0,false,[(2,none)],dG 2 (eT 0 (a2 4 aw 5) 0 zbA) (ds 2 (-1) (m 8 4))⟩
def zcO:Fun:=⟨1,8,0,false,[(2,none)],b4 (cg 1 6 0 2 M) (c1 (eE (dm 1) dK aC (c9 (de 251 bQ) 6)) 6 2 M (m 8 4)) (cY 6 1 (K (bu 252) au eQ eP (dD 3 aJ 4)) (b4 (b3 3 1 (ad (bu 253) 5)) (cD 0 1 (aI aC 7 (bu 237)) (ai 7 (.reg (b3 3 1 (af .eql c 0 5))))) (cU 4 (ee 5 (eK 1 (et 3 aw 1 (cm (ab (dm 4) 2) aC 3 aw 4 (dk .eql 3) 5 (eK 6 (cm (cx 4 1) aC 1 (ef 119 c (U 254 [] [])) 2 bR 3 (e3 4 2))))))) (m 8 4))))⟩
def ziN:Fun:=⟨1,2,0,false,[(1,none)],eu 1 0 (cR (cH 17) (c6 0 (cH 19) 1 (ad (bK 2) 1))) (m 2 2)⟩
def zhs:Fun:=⟨1,5,0,false,[(2,none)],b4 (cg 1 6 0 2 d0) (cY 6 1 (dC 236 4) (bq 4 2 d0 (m 5 4))) (cY 6 1 (K (bu 252) au eQ eP (bT 3 aJ (q (.mv aJ)))) (b7 3 2 (m 5 4)))⟩
def zxb:Fun:=⟨2,8,0,false,[(2,none),(3,none)],b4 (cv 2 (bI 0) 3 (bI 0)) (.cond M (b (bd 0 (cc .u32) (d 1) (cc .u32) (K (de 257 bQ) au eQ eP (dD 4 aJ 5))) (aH (bd 4 dp (d 5) dp (dD 2 bQ 3)) (m 8 12))) .skip) (cu 0 1 (K (dF 258) au eQ eP (dD 6 aJ 7)) (ev 6 (d 7) (dD 2 aJ 3) (m 8 12)))⟩
def zjM:Cd:=bO 8 7 6 (dL 8 0 (m 11 4) 0 1 (aG 7 (eY 1 5 7 aC (dD 3 bQ 4)) (.seq (dH 4 9 (cH (-1)) 9 (ci 2 (a3 c 1 2))) (bl 4 (e1 c (-2)) (ee 0 (bp (ab (d 3) 1) (dF 250) 2 (el 0) 3 (eR 10 4) [])) (bq 10 1 M (m 11 2))))) 7 7)
def zhh:Cd:=cw (m 11 229) zjM
def zgN:Fun:=⟨1,11,0,false,[(1,none)],ei 1 (dG 2 (en 5 0 (bW 6 5 7) 0 zhh) (cU 2 (af .eql c 1 1) (m 11 2)))⟩
def zmU:Fun:=⟨2,3,0,false,[(2,none)],ei 2 (eN (cC 1) (aP 0 (dF 250) (af .lss c 0 2)) (m 3 4))⟩
def zjK:Cd:=bO 6 5 4 (dL 6 0 (m 9 0) 0 1 (b (bZ 5 3) (J (bl 1 (el 0) (dd 1 (er (d 0) 1 aw 2 (ek 2) 3 7 4)) (cG 7 2 (-1) (m 9 4))) (dj 0 1 b2 (aI aC 8 (cH (-1))) (ai 8 (b7 3 2 (m 9 4)))) (d4 0 1 b2 (df 1)))) 5 5)
def zhw:Cd:=cw (m 9 51) zjK
def zkV:Fun:=⟨2,9,0,false,[(2,none)],dG 2 (eT 0 (a2 4 aw 5) 0 zhw) (ds 2 (-1) (m 9 4))⟩
def zei:Fun:=⟨2,7,0,false,[(2,none)],ei 2 (J (ex 0 (dC 197 3) 3 2 M (m 7 4)) (en 4 1 [] 0 (bg 4 1 5 (o 5 (d9 2 ar (m 7 4)) (d8 4 2 6 6 (ck 4 4 6 6 4 8 6 6 (c0 4 16 6)) (aQ 6 (aj 0) (cR (eM c 8) (cm (b9 0) (d 1) 1 (dk .mul 1) 2 (d5 c 128) 3 (e3 4 2))) (m 7 4)))))) (d9 2 M (m 7 4)))⟩
def zk:Fun:=⟨1,23,0,false,[(2,none),(3,none)],aX (w 1 (aN 6 0)) (cv 2 d0 3 M) (.regd [(6,15)] (b3 1 1 (ca dK aC (cN bj 0 1 bQ 1 1 c []) (dm 1) aC (dn bj 0 1 c 1 1 1 []) (dn bj 0 1 (i 1) 1 1 1 []) (dn bj 0 1 (i 64) 1 1 1 []) (am (w 4 (bn bj)) (w 5 (bn bj)) (w 6 (bn bj)) (w 7 (bn bj)) (am (aV 2 4 (.l 9)) (aV 2 5 (.l 7)) (aV 2 6 (.l 7)) (aV 2 7 (.l 7)) []))))) (b4 (b3 2 1 (K (cH 1) (dm 1) aC (eM c 8) (dD 8 dA 9))) (ce (aI (dm 0) 10 aC) 0 (bg 10 0 11 (o 11 (dx (ca (dm 5) aC (dm 1) aC (de 259 bQ) (dm 5) aC (dk .eql 2) (dD 2 d0 3))) (d8 10 1 12 12 (ck 10 2 12 12 10 3 12 12 (ck 10 5 12 12 10 6 12 12 (ck 10 7 12 12 10 8 12 12 (c0 10 9 12)))) (o 12 (eN (dI 4) (p (dI 4) (bD 2 bj [bj] 0 aJ [(1,c)]) (K eV (dm 5) aC (e8 0) (dD 2 dA 3))) (m 23 12)) (d8 10 4 13 13 (ck 10 10 13 13 10 11 13 13 (c0 10 12 13)) (ez 13 (dx (ca (dI 4) (dI 4) (bD 2 bj [bj] 0 aJ [(1,c)]) eV (dm 5) aC (e8 0) au (am (b9 8) (eJ 1) (h 2 (.l 6)) (h 3 aJ) []))) 10 13 14 (ez 14 (dx (ca (dI 6) (dI 4) (dI 4) (bD 2 bj [bj,bj] 0 bQ (e4 (1,aJ) (2,c) [])) eV (dm 5) aC (e8 0) (dD 2 dA 3))) 10 14 15 (ez 15 (dx (ca (dm 5) aC (.mxn false c (bI 128)) es (dn bj 0 1 c 1 1 1 []) (bD 2 bj [] 0 c []) eV (d 8) (ea 5 1 (cT (dJ 1) (dm 1) 2 (bp (dJ 3) dp 4 (dX 3) 5 (eJ 6) (ea 5 1 (cT (dJ 1) es 2 (am (ab (bu 197) 3) (eJ 4) (h 2 (.l 15)) (h 3 aJ) [])))))))) 10 15 16 (ez 16 (eN (dm 5) (ca aC (.mxn false c (bI 128)) es (dn bj 0 1 c 1 1 1 []) (bD 2 bj [] 0 c []) eV (d 8) au (cT (cx 5 1) aC 1 (cm (ab (dm 1) 2) aC 3 dp 4 (dk .gtr 3) 5 (eK 6 (bp (cx 5 1) aC 1 (eU .leq 64) 2 (eJ 3) (ea 5 1 (cT (dJ 1) es 2 (am (ab (bu 197) 3) (eJ 4) (h 2 (.l 20)) (h 3 aJ) [])))))))) (m 23 12)) 10 16 17 (ez 17 (eN (dI 7) (p (bD 2 bj [] 0 c []) eV (eE (dm 5) (e8 0) au (am (b9 9) (eJ 1) (h 2 (.l 6)) (h 3 aJ) []))) (m 23 12)) 10 17 18 (o 18 (dx (ca (dI 7) (dI 4) (bD 2 bj [bj] 0 aJ [(1,c)]) eV (dm 5) aC (e8 0) au (am (b9 9) (eJ 1) (h 2 (.l 6)) (h 3 aJ) []))) (d8 10 18 19 19 (c0 10 19 19) (ez 19 (dx (ca (dI 6) (dI 7) (dI 4) (bD 2 bj [bj,bj] 0 bQ (e4 (1,aJ) (2,c) [])) eV (dm 5) aC (e8 0) (ee 8 (eK 1 (am (b9 9) (eJ 1) (h 2 (.l 9)) (h 3 aJ) []))))) 10 20 20 (ez 20 (dx (p (dI 6) (dI 4) (ca (dI 4) (dI 4) (bD 2 bj [bj,bj,bj] 0 dA ((1,bQ)::e4 (2,aJ) (3,c) [])) eV (dm 5) aC (e8 0) au (am (b9 8) (eJ 1) (h 2 (.l 6)) (h 3 aJ) [])))) 10 21 21 (ez 21 (eN (dI 5) (ca (bD 2 bj [] 0 c []) eV dK aC (de 261 bQ) (dm 5) aC (e8 0) (ee 8 (am (ab bR 1) (eJ 2) (h 2 (.l 7)) (h 3 aJ) []))) (m 23 12)) 10 22 22 (aQ 22 (q (dI 4)) (K (bD 2 bj [] 0 c []) eV (d 8) bR (ea 5 1 (cm (dJ 1) dK 2 aC 3 dp 4 (am (ab (dX 3) 5) (eJ 6) (h 2 (.l 10)) (h 3 aJ) [])))) (m 23 12)))))))))))))))))) (dx (cv 2 d0 3 M)))⟩
def zjq:Fun:=⟨1,2,0,false,[(1,none)],eu 1 0 (cR (eM c 1) (et 0 (d5 c 1023) 1 (e3 2 1))) (m 2 2)⟩
def zjr:Fun:=⟨1,2,0,false,[(1,none)],ei 1 (ev 0 (bu 253) (ad bR 1) (m 2 2))⟩
def zsB:Fun:=⟨2,5,0,false,[(2,none),(3,none)],b (cv 2 (ik .u32 0) 3 (ik .u32 0)) (b (bd 0 dp (d 1) dp (dl .mul 2 4)) (cU 4 (K (eU .shr 32) (cc .u32) (d 4) (cc .u32) (dD 2 bQ 3)) (m 5 12)))⟩
def zsU:Fun:=⟨2,12,0,false,[(2,none),(3,none)],b (cv 2 (bI 0) 3 (bI 0)) (eS 0 (eU .and 4294967295) 4 (eS 0 (eU .shr 32) 5 (eS 1 (eU .and 4294967295) 6 (eS 1 (eU .shr 32) 7 (cu 4 6 (dl .mul 1 8) (aG 5 (bd 6 (dk .mul 1) (d 8) (eU .shr 32) (eW 2 9)) (eS 9 (eU .and 4294967295) 10 (eS 9 (eU .shr 32) 11 (b (d1 10 4 7 (dk .mul 1) (eW 3 10)) (dj 5 7 (dk .mul 1) (bd 11 (dk .add 1) (d 10) (eU .shr 32) (eW 2 2)) (ev 0 (d 1) (dl .mul 1 3) (m 12 12))))))))))))⟩
def zkl:Fun:=⟨2,4,0,false,[(2,none)],cQ (h 2 (bI 0)) (ex 1 (dC 197 3) 3 2 (bI 0) (m 4 4)) (ev 0 (d 1) (K (.bin .sub (i 64) c) (dk .shl 2) (d 1) (.bin .sub (i 64) c) (dl .shr 2 2)) (m 4 4))⟩
def zmK:Fun:=⟨1,2,0,false,[(1,none)],cp 1 d0 (b7 0 1 (m 2 2))⟩
def zje:Cd:=c5 (dQ 6 5 9 2 9 0 (m 10 32) 1) 1 (.reg (d1 6 5 6 (.slc 2 aJ (some c) none none) (cb 5 6 (.slc 2 aJ none (some c) none) (.cpy 2 dA c) (eW 7 6))))
def zjS:Cd:=cj (m 10 96) zje
def zkv:Fun:=⟨2,10,0,false,[(2,none)],cQ (h 2 d0) (dH 1 7 (el 0) 7 (.reg (g (.no "") (e (.no "")) []))) (aG 0 (eC aw dp 1 dp (de 247 bQ) au eQ eP (dD 3 aJ 4)) (.seq (bl 3 (eU .gtr 0) (dd 4 (aK (E (eU .gtr 9223372036854775807) 1) (bU 8 2))) (ai 8 (.reg (g (.no "") (e (.no "")) [])))) (bl 4 es (ad (.mks bj none c) 5) (cu 5 0 (ad (.cpy 2 aJ c) 6) (.seq (eZ zjS) (b7 5 2 (m 10 4)))))))⟩
end AC
namespace Go.A
def zCI (P : Program) (CD : Draws) (n : Nat) (fn : Fun) : Prop := ∃ gf κ, P.funcs[n]? = some gf ∧ (gf.name == "runtime.NumGoroutine") = false ∧ zvR P CD κ gf fn = true
def zyq (Q : Nat → Fun → Prop) : Nat → List (Option Fun) → Prop
 | _,[] => True
 | b,none :: r => zyq Q (b + 1) r
 | b,some f :: r => Q b f ∧ zyq Q (b + 1) r
def zvu (Q : Nat → Fun → Prop) : Nat → List (List (Option Fun)) → Prop
 | _,[] => True
 | b,r :: rs => zyq Q b r ∧ zvu Q (b + 16) rs
def zDy : Nat → Nat → Nat → List Nat
 | 0,_,_ => []
 | n + 1,w,i => if w % 2 = 1 then i :: zDy n (w / 2) (i + 1) else zDy n (w / 2) (i + 1)
def zv3 (P : Program) (CD : Draws) : Nat → List (Option (Nat × Fun)) → Bool
 | _,[] => true
 | b,none :: r => zv3 P CD (b + 1) r
 | b,some x :: r => (match P.funcs[b]? with
   | some gf => !(gf.name == "runtime.NumGoroutine") && zvR P CD (zDy (Nat.log2 x.1 + 1) x.1 0) gf x.2
   | none => false) && zv3 P CD (b + 1) r
def bare (r : List (Option (Nat × Fun))) : List (Option Fun):=r.map fun x => x.map fun y => y.2
theorem zbj {P : Program} {CD : Draws} : ∀ (r : List (Option (Nat × Fun))) (b : Nat),zv3 P CD b r = true → zyq (zCI P CD) b (bare r)
 | [],_,_ => trivial
 | none :: r,b,h => zbj r (b + 1) h
 | some x :: r,b,h => by
   simp only [zv3,yb] at h
   refine ⟨?_,zbj r (b + 1) h.2⟩
   have h1:=h.1
   split at h1
   ·rename_i gf hg
    simp only [yb,yc] at h1
    exact ⟨gf,_,hg,h1.1,h1.2⟩
   ·cases h1
theorem zrP {Q : Nat → Fun → Prop} : ∀ (r : List (Option Fun)) (b : Nat),zyq Q b r → ∀ (j : Nat) (f : Fun),r[j]? = some (some f) → Q (b + j) f
 | [],_,_,_,_,h => by simp at h
 | none :: r,b,hr,0,f,h => by simp at h
 | some g :: r,b,hr,0,f,h => by
   simp only [yd,Option.some.injEq] at h
   subst h
   exact hr.1
 | none :: r,b,hr,j + 1,f,h => by
   have:=zrP r (b + 1) hr j f (by simpa using h)
   rwa [ye,yf 1 j] at this
 | some g :: r,b,hr,j + 1,f,h => by
   have:=zrP r (b + 1) hr.2 j f (by simpa using h)
   rwa [ye,yf 1 j] at this
theorem ztd {Q : Nat → Fun → Prop} : ∀ (rs : List (List (Option Fun))) (b : Nat),zvu Q b rs → ∀ (i j : Nat) (r : List (Option Fun)) (f : Fun),rs[i]? = some r → r[j]? = some (some f) → Q (b + 16 * i + j) f
 | [],_,_,_,_,_,_,h,_ => by simp at h
 | x :: rs,b,hr,0,j,r,f,h,h' => by
   simp only [yd,Option.some.injEq] at h
   subst h
   exact zrP x b hr.1 j f h'
 | x :: rs,b,hr,i + 1,j,r,f,h,h' => by
   have:=ztd rs (b + 16) hr.2 i j r f (by simpa using h) h'
   have e : b + 16 + 16 * i + j = b + 16 * (i + 1) + j:=by omega
   rwa [e] at this
theorem zEP {rows : List (List (Option Fun))} {n : Nat} {f : Fun} (h : zuJ rows n = some (.fn f)) : ∃ r,rows[n / 16]? = some r ∧ r[n % 16]? = some (some f):=by
 unfold zuJ at h
 cases hr : rows[n / 16]? with
 | none => simp [hr,zmO] at h
 | some r =>
   refine ⟨r,rfl,?_⟩
   rw [hr,Option.bind_some] at h
   cases hx : r[n % 16]? with
   | none => simp [hx,zmO] at h
   | some o =>
     cases o with
     | none => simp [hx,zmO] at h
     | some g => simpa [hx,zmO] using h
theorem zyx {rows : List (List (Option Fun))} {n : Nat} {g : List V → zd → Option (V × zd)} : zuJ rows n ≠ some (.ext g):=by
 unfold zuJ zmO
 split <;> simp
theorem zCd {P : Program} {CD : Draws} {rows : List (List (Option Fun))} (h : zvu (zCI P CD) 0 rows) : zw3 P CD (zuJ rows):=fun n => by
 refine ⟨fun fn hf => ?_,fun ext he => absurd he zyx⟩
 obtain ⟨r,h1,h2⟩:=zEP hf
 have h3:=ztd rows 0 h (n / 16) (n % 16) r fn h1 h2
 have e : 0 + 16 * (n / 16) + n % 16 = n:=by omega
 rw [e] at h3
 exact h3
theorem zma {P : Program} {CD : Draws} {k : Nat} {g : List V → zd → Option (V × zd)} {T : Nat → Option Entry}
  (hg : ∀ args σ v σ',g args σ = some (v,σ') → Enters P k ∧ ∀ gg w us,Rel gg w σ → zz gg w σ args us → Calls P k us.toArray w fun e w' => ∃ u g',e = .returned u ∧ zf g' w' σ' v u ∧ Rel g' w' σ' ∧ Ext gg w σ g' w' σ')
  (hT : zw3 P CD T) : zw3 P CD fun n => if n = k then some (.ext g) else T n:=fun n => by
 by_cases hn : n = k
 ·subst hn
  refine ⟨fun fn hf => ?_,fun ext he => ?_⟩
  ·simp at hf
  ·simp only [if_true,Option.some.injEq,Entry.ext.injEq] at he
   subst he
   exact hg
 ·have:=hT n
  simpa only [if_neg hn] using this
end Go.A
namespace Go.A
def zlT (sz : Nat) : List V → zd → Option (V × zd)
 | [.one (.f (.sl xs))],σ => if xs ≠ [] ∧ znv sz xs = true ∧ xs.length ≤ LIM then some (.one (.own σ.length 0 0 xs.length),σ ++ [.cells 0 sz (xs.map fun e => e.map C.f)]) else none
 | _,_ => none
end Go.A
namespace Go.A
section
variable {P : Program} {CD : Draws}
theorem zAA {f : Nat} {gf : Func} (hgf : P.funcs[f]? = some gf) (hname : (gf.name == "runtime.NumGoroutine") = false) {fn1 fn2 : Fun} {c0 c1 c2 : Code} (e1 : fn1.body = .seq c0 c1) (e2 : fn2.body = .seq c0 c2) (same : fn1.np = fn2.np ∧ fn1.nslots = fn2.nslots ∧ fn1.keep = fn2.keep) (hc : zni P CD [0, 2] gf fn1 fn2 = true) :
  Enters P f ∧ ∃ i0 i1 r0 o1 o2 ga gb t3 t4 ty ty' ty'',TwoOk P CD [0,2] gf fn1 fn2 c0 c1 c2 i0 i1 r0 o1 o2 ga gb t3 t4 ty ty' ty'':=by
 unfold zni at hc
 split at hc
 ·rename_i i0 r0 i1 o1 o2 t4 ga gb c0' c1' c0'' c2' hb hb1 hb2
  rw [e1] at hb1
  rw [e2] at hb2
  simp only [yb,beq_iff_eq,bne_iff_ne,ne_eq,yc,decide_eq_true_eq] at hc
  obtain ⟨⟨⟨⟨⟨⟨⟨⟨⟨⟨⟨⟨⟨⟨⟨⟨h1,h1'⟩,h2⟩,h3⟩,h4⟩,h5⟩,h6⟩,h7⟩,h8⟩,h9⟩,h10⟩,h11⟩,h12⟩,h13⟩,h14⟩,h15⟩,h16⟩:=hc
  split at h4
  ·rename_i t3 ht3
   simp only [yb,bne_iff_ne,ne_eq,yc,decide_eq_true_eq] at h4
   obtain ⟨⟨⟨h4,hne⟩,hk3⟩,hl3⟩:=h4
   obtain ⟨k1,k2⟩:=zkQ h4
   injection hb1 with q1 q2
   injection hb2 with q3 q4
   subst q1 q2 q4
   refine ⟨⟨gf,_,hgf,hname,hb⟩,?_⟩
   obtain ⟨te,hte⟩ : ∃ te,P.underlying (zAv o2).1 = some (.slice te):=by
    unfold zoV at h8
    split at h8
    ·rename_i te hte; exact ⟨te,hte⟩
    ·cases h8
   exact ⟨i0,i1,r0,o1,o2,ga,gb,t3,t4,(zAv o2).1,(zAv o2).2,te,hb,e1,e2,h1,h2,h3,k1,k2,hne,⟨hk3,hl3⟩,⟨h5,h6⟩,h7,hte,h9,h10,same,h11,h12,h13,h14,h15,h16⟩
  ·cases h4
 ·cases hc
end
end Go.A
namespace Go.A
section
variable {P : Program} {CD : Draws} {κ : List Tmp}
theorem zwZ (hD : DrawOk P CD) {f : Nat} {gf : Func} {fn1 fn2 : Fun} {c0 c1 c2 : Code} {i0 i1 : Nat} {r0 : Array Go.Oper} {o1 o2 : Go.Oper} {ga gb : Go.Code} {t3 t4 ty ty' ty'' : Nat} (hgf : P.funcs[f]? = some gf) (T : TwoOk P CD κ gf fn1 fn2 c0 c1 c2 i0 i1 r0 o1 o2 ga gb t3 t4 ty ty' ty'')
  {va : V} {E : Prop} {σ : zd} {v : V} {σ' : zd} {n0 n2 : Nat} {s0 s2 : St} {e2 : Ex} (h0 : zN zjy n0 c0 (enter fn2 [va] σ) = some (.normal,s0)) (h0e : s0.env.getD 0 vun = va) (hsl : ∀ g' w' u,Rel g' w' s0.st → zf g' w' s0.st va u → ∃ ad n c,u = .slice ad n c ∧ (ad = none → E)) (h2 : zN zjy n2 c2 s0 = some (e2,s2)) (l2 : leave fn2.raw fn2.results (e2,s2) = some (v,σ'))
  (h1 : E → ∃ n1 s1,zN zjy n1 c1 s0 = some (.ret,s1) ∧ leave fn1.raw fn1.results (.ret,s1) = some (v,σ')) (hnp : fn2.np = 1) {g : G} {w : World} {us : List Value} (R0 : Rel g w σ) (hv : zz g w σ [va] us) :
  Calls P f us.toArray w fun e w' => ∃ u g',e = .returned u ∧ zf g' w' σ' v u ∧ Rel g' w' σ' ∧ Ext g w σ g' w' σ':=by
 have hA:=zlk (gf:=gf) (fn:=fn2) R0 hv T.nd T.all T.len T.np T.np2 T.hd (by rw [hnp]; rfl)
 have hall:=fun n => zoc (P:=P) (CD:=CD) (T:=zjy) (g0:=g.clean σ.length) (w0:=w) (σ0:=σ) (κ:=κ) (nt:=gf.ntmps) hD (zfC g σ.length) n fun m _ => zo9 m
 have hb0:=zdi zjy n0 _ _ _ _ h0
 have hfin : ∀ (fn : Fun) (e : Ex) (s : St),zja P κ gf.results.toList fn.results = true → leave fn.raw fn.results (e,s) = some (v,σ') → s.lim = (enter fn2 [va] σ).lim → ∀ x a' w',zCm (g.clean σ.length) w σ κ gf.ntmps e s x a' w' →
   bodyPost P gf (fun e w' => ∃ u g',e = .returned u ∧ zf g' w' σ' v u ∧ Rel g' w' σ' ∧ Ext g w σ g' w' σ') x a' w' ∧ x = zkJ e:=fun fn e s hok hleave hlim x a' w' hx => by
  obtain ⟨rfl,g',A'⟩:=hx
  obtain ⟨q1,q2,u,q3,g2,q4,q5,q6⟩:=zld (fn:=fn) (gf:=gf) (zfC g σ.length) (by rw [hlim]; exact Nat.le_add_right _ _) hok hleave A'
  have hend : a'.defers = [] ∧ ∃ v1,(results gf a'.tmps).run P w' = .ok v1 w' ∧ ∃ u g',(Ending.returned v1) = .returned u ∧ zf g' w' σ' v u ∧ Rel g' w' σ' ∧ Ext g w σ g' w' σ' :=
   ⟨q2,u,q3,u,G.under g w g2,rfl,zgT (g:=g2) (g':=G.under g w g2) rfl rfl rfl _ _ q4,zpe q6 q5,zoD q6⟩
  rcases q1 with rfl | rfl
  ·exact ⟨hend,rfl⟩
  ·exact ⟨hend,rfl⟩
 refine calls_of_wp hgf T.body (wp_seq (wp_mono ((hall n0).1 _ c0 _ .normal s0 T.k0 h0 _ _ _ (yg _) hA) fun x a1 w1 hx => ?_))
 obtain ⟨rfl,g1,A1⟩:=hx
 show Exit.then _ _ .normal a1 w1
 simp only [Exit.then]
 have hsz:=A1.fr.size
 have hu:=A1.fr.env 0 0 T.arg
 simp only [h0e] at hu
 obtain ⟨ad,n,c,hu,hnil⟩:=hsl _ _ _ A1.rel hu
 refine wp_seq (wp_seq (zkG ?_))
 refine zrm (o:=o1) rfl T.e1.1 T.e1.2.1 T.f3 (zsv (.inr T.e1.2.2) hu) fun a2 P2 => ?_
 refine zrm (o:=o2) (u:=.bool ad.isNone) (w':=w1) rfl T.e2.1 T.e2.2.1 T.f4 ?_ fun a3 P3 => ?_
 ·unfold execOp
  simp only [T.e2.2.2,zr6,P2.val hsz,Act.eval]
  simp [eqGuard,Lib.run_eql_slice_nil w1 ty ty'' ad n c 0 0 T.ty]
 show Exit.then _ _ .normal a3 w1
 simp only [Exit.then]
 have A3 : At' (g.clean σ.length) w σ κ gf.ntmps g1 w1 s0 a3:=⟨A1.ext,A1.rel,P3.fr (P2.fr A1.fr)⟩
 have hle : σ.length ≤ s0.base:=by rw [hb0.1]; exact yg _
 cases ad with
 | none =>
   have hxs:=hnil rfl
   obtain ⟨n1,s1,h1a,h1b⟩:=h1 hxs
   have hb1:=zdi zjy n1 _ _ _ _ h1a
   refine wp_cond_true (P3.val (P2.size hsz)) (wp_mono ((hall n1).1 ga c1 s0 .ret s1 T.k1 h1a _ _ _ hle A3) fun x a4 w4 hx => ?_)
   obtain ⟨k1,k2⟩:=hfin fn1 .ret s1 T.q1 h1b (by rw [hb1.2,hb0.2]) x a4 w4 hx
   subst k2
   simp only [zkJ,Exit.then]
   exact k1
 | some ad =>
   have hb2:=zdi zjy n2 _ _ _ _ h2
   refine wp_cond_false (P3.val (P2.size hsz)) (wp_skip ?_)
   simp only [Exit.then]
   exact wp_mono ((hall n2).1 gb c2 s0 e2 s2 T.k2 h2 _ _ _ hle A3) fun x a4 w4 hx => (hfin fn2 e2 s2 T.q2 l2 (by rw [hb2.2,hb0.2]) x a4 w4 hx).1
def zrg (sz : Nat) (σ : zd) (xs : List (List Fz)) : Option (V × zd):=if znv sz xs = true ∧ xs.length ≤ LIM ∧ 0 < xs.length ∧ Obs.lt σ.length σ = true then some (vsl xs,σ) else none
def zt1 (sz : Nat) (σ : zd) (xs : List (List Fz)) : Option (V × zd):=if znv sz xs = true ∧ xs.length ≤ LIM ∧ Obs.lt σ.length σ = true then some (vsl xs,σ) else none
def zh6 (sz : Nat) : List V → zd → Option (V × zd)
 | [.one (.own id ver lo n)],σ => (elems σ (.one (.own id ver lo n))).bind (zrg sz σ)
 | [.one (.f (.sl xs))],o :: σ => zt1 sz (o :: σ) xs
 | aS,σ => zoa sz aS σ
def zFO (va : V) (xs : List (List Fz)) : Prop:=va = vsl xs ∨ (∃ id ver lo n,va = .one (.own id ver lo n)) ∧ 0 < xs.length
theorem zwt {g : G} {w : World} {σ : zd} {va : V} {xs : List (List Fz)} {u : Value} (h : zFO va xs) (hel : elems σ va = some xs) (hv : zf g w σ va u) : ∃ ad n c,u = .slice ad n c ∧ (ad = none → xs = []):=by
 rcases h with rfl | ⟨⟨id,ver,lo,n,rfl⟩,hpos⟩
 ·simp only [vsl,zf,zw,rep] at hv
  obtain ⟨ad,c,sz,hu,_,_,hnil⟩:=hv
  refine ⟨ad,_,c,hu,fun e => ?_⟩
  rcases hnil with h | ⟨b,o,h,_⟩
  ·exact h
  ·rw [e] at h; cases h
 ·simp only [zf,zw] at hv
  obtain ⟨ver0,sz,len,hs,hle,hown,ad0,c0,hu0⟩:=hv
  simp only [elems,ya] at hel
  obtain ⟨ob,ho,hf⟩:=hel
  unfold Ob.frz at hf
  split at hf
  ·rename_i ver' sz' es
   split at hf
   ·rename_i hver
    subst hver
    have hs' : shapeOf σ id = some (ver',sz',es.length):=by simp [shapeOf,ho,Ob.shape]
    rw [hs'] at hs
    simp only [Option.some.injEq,Prod.mk.injEq] at hs
    obtain ⟨rfl,rfl,rfl⟩:=hs
    obtain ⟨a,c,hu,hnc,hl0,hl1⟩:=hown rfl
    refine ⟨a,n,c,hu,fun e => ?_⟩
    have hlen : xs.length ≤ n:=by
     have:=(zd0 hf).1
     rw [this]
     simp
     omega
    have hc : c ≠ 0:=by omega
    have hle : es.length ≠ 0:=fun h => hc (hl0 h)
    obtain ⟨_,ha,_⟩:=hl1 hle
    have:=ha hc
    rw [e] at this
    cases this
   ·cases hf
  ·cases hf
theorem zqm (hD : DrawOk P CD) {f : Nat} {gf : Func} {sz : Nat} (hgf : P.funcs[f]? = some gf) (hname : (gf.name == "runtime.NumGoroutine") = false) (hc : zni P CD [0, 2] gf zgv (zfn sz) = true)
  (va : V) (xs : List (List Fz)) (σ : zd) (hel : ∀ o,elems (σ ++ o) va = some xs) (hk : zFO va xs) (hok : znv sz xs = true ∧ xs.length ≤ LIM ∧ Obs.lt σ.length σ = true) :
  Enters P f ∧ ∀ g w us,Rel g w σ → zz g w σ [va] us → Calls P f us.toArray w fun e w' => ∃ u g',e = .returned u ∧ zf g' w' σ (vsl xs) u ∧ Rel g' w' σ ∧ Ext g w σ g' w' σ:=by
 obtain ⟨hE,i0,i1,r0,o1,o2,ga,gb,t3,t4,ty,ty',ty'',T⟩:=zAA (fn1:=zgv) (fn2:=zfn sz) (c0:=zm4) (c1:=zpm) (c2:=zpC sz) hgf hname rfl rfl ⟨rfl,rfl,rfl⟩ hc
 refine ⟨hE,fun g w us R0 hv => ?_⟩
 have hel0:=hel []
 have hel1:=hel [.tok sz [0]]
 rw [List.append_nil] at hel0
 have hlt : ¬ σ.length + 1 ≤ σ.length:=by omega
 refine zwZ (E:=xs = []) (va:=va) (n0:=1) (n2:=2) (e2:=.ret) (s0:=⟨[va,vsl []],σ,σ.length,σ.length⟩) (s2:=⟨[vun,.one (.ap σ.length 0 xs)],σ ++ [.tok sz [xs.length]],σ.length,σ.length⟩) hD hgf T ?_ rfl (fun g' w' u _ h => zwt hk hel0 h) ?_ ?_ (fun hxs => ⟨2,⟨[vun,vsl []],σ,σ.length,σ.length⟩,?_,?_⟩) rfl R0 hv
 ·simp [zN,zm4,steps,step,za7,R.get,R.put,zz4,enter,zfn,vsl,vun]
 ·simp [zN,zpC,steps,step,za7,R.get,R.put,zz4,vsl,vun,znY,zvz,zaq,zyh,R.alloc,hel1,hok.1,zCH,zoE,Ob.front,Ob.setFront,R.setOb,hok.2.1,zso,clr,St.mkSt]
 ·simp [leave,zfn,outs,ztp,zx6,zCw,zfE,vsl,zlX,zme,V.lts,V.lt,C.lt,hok.2.2,zCn,vun]
 ·simp [zN,zpm,steps,step,za7,R.get,R.put,zz4,vsl,vun,zso,clr,St.mkSt]
 ·subst hxs
  simp [leave,zgv,outs,ztp,zx6,zCw,zfE,vsl,zlX,zme,V.lts,V.lt,C.lt,Obs.lt,zCn,vun]
theorem zyK {σ : zd} {id ver lo n : Nat} {xs : List (List Fz)} (h : elems σ (.one (.own id ver lo n)) = some xs) (o : zd) : elems (σ ++ o) (.one (.own id ver lo n)) = some xs:=by
 simp only [elems,ya] at h ⊢
 obtain ⟨ob,h1,h2⟩:=h
 exact ⟨ob,by rw [List.getElem?_append_left (List.getElem?_eq_some_iff.1 h1).1]; exact h1,h2⟩
theorem zpO (hD : DrawOk P CD) {f : Nat} {gf : Func} {sz : Nat} (hgf : P.funcs[f]? = some gf) (hname : (gf.name == "runtime.NumGoroutine") = false) (hc : zni P CD [0, 2] gf zgv (zfn sz) = true)
  {id ver lo n : Nat} {σ σ' : zd} {v : V} (h : (elems σ (.one (.own id ver lo n))).bind (zrg sz σ) = some (v,σ')) :
  Enters P f ∧ ∀ g w us,Rel g w σ → zz g w σ [.one (.own id ver lo n)] us → Calls P f us.toArray w fun e w' => ∃ u g',e = .returned u ∧ zf g' w' σ' v u ∧ Rel g' w' σ' ∧ Ext g w σ g' w' σ':=by
 rw [ya] at h
 obtain ⟨xs,h1,h2⟩:=h
 unfold zrg at h2
 split at h2
 ·rename_i hok
  injection h2 with h2
  simp only [Prod.mk.injEq] at h2
  obtain ⟨rfl,rfl⟩:=h2
  exact zqm hD hgf hname hc _ xs σ (zyK h1) (.inr ⟨⟨_,_,_,_,rfl⟩,hok.2.2.1⟩) ⟨hok.1,hok.2.1,hok.2.2.2⟩
 ·cases h2
theorem zrZ (hD : DrawOk P CD) {f : Nat} {gf : Func} {sz : Nat} (hgf : P.funcs[f]? = some gf) (hname : (gf.name == "runtime.NumGoroutine") = false) (hc : zni P CD [0, 2] gf zgv (zfn sz) = true)
  {xs : List (List Fz)} {σ σ' : zd} {v : V} (h : zt1 sz σ xs = some (v,σ')) :
  Enters P f ∧ ∀ g w us,Rel g w σ → zz g w σ [.one (.f (.sl xs))] us → Calls P f us.toArray w fun e w' => ∃ u g',e = .returned u ∧ zf g' w' σ' v u ∧ Rel g' w' σ' ∧ Ext g w σ g' w' σ':=by
 unfold zt1 at h
 split at h
 ·rename_i hok
  injection h with h
  simp only [Prod.mk.injEq] at h
  obtain ⟨rfl,rfl⟩:=h
  exact zqm hD hgf hname hc _ xs σ (fun _ => rfl) (.inl rfl) hok
 ·cases h
theorem zwd (hD : DrawOk P CD) {f : Nat} {gf : Func} {sz : Nat} (hgf : P.funcs[f]? = some gf) (hname : (gf.name == "runtime.NumGoroutine") = false) (hc : zni P CD [0, 2] gf zgv (zfn sz) = true) (args : List V) (σ : zd) (v : V) (σ' : zd) (h : zh6 sz args σ = some (v, σ')) :
  Enters P f ∧ ∀ g w us,Rel g w σ → zz g w σ args us → Calls P f us.toArray w fun e w' => ∃ u g',e = .returned u ∧ zf g' w' σ' v u ∧ Rel g' w' σ' ∧ Ext g w σ g' w' σ':=by
 unfold zh6 at h
 split at h
 ·exact zpO hD hgf hname hc h
 ·exact zrZ hD hgf hname hc h
 ·exact zAk hD hgf hname hc _ _ _ _ h
end
end Go.A
namespace AC
open Go.A Go.A.Lex
def tab : List (List (Option Fun)):=[
 bare [none,none,none,none,none,some (316917485760344825435979257847,zac),none,none,none,none,none,none,none,none,none,some (47,zjB)],
 bare [some (543,zB),some (4001231,zuB),none,none,some (79,zr7),none,some (33571891,za4),some (33554511,zev),none,some (144115253003754999,zss),none,some (1022379447,zgu),none,none,some (11418155766219704907464733300850600260547966967,zi),none],
 bare [none,none,none,none,none,none,none,none,none,none,none,none,none,none,none,none],
 bare [none,none,none,some (4183,zfo),none,none,none,none,none,none,none,none,none,some (38685626227685725776904319,zb6),none,none],
 bare [some (23,zex),some (70368748126583,zr9),some (131635,zc7),some (590304817833848868607,ziq),some (29,zdf),some (23,zpM),some (89203150935305958141877267118393739786060287,zH),some (309485009969963856432235007,zaL),some (79228540312824354700590614519,zaJ),some (19345174297145887541987327,zeJ),some (5,zaK),some (262707,zcF),some (83079285037833274825762022487035903,zeP),some (9831967090518095288600575,zar),some (11150372645996141831579820250029257836789751,zeM),some (1077941191,za5)],
 bare [none,none,none,none,none,none,none,none,none,none,none,none,none,none,none,none],
 bare [none,none,some (68719972543,zgF),none,some (2417860862618887407011831,ziO),none,none,none,none,some (68719476743,zew),none,none,none,none,some (141465551735,zaN),none],
 bare [none,none,none,none,none,none,none,some (19,zcx),some (11,znR),some (32909,zcG),some (5,zc6),some (543,zeI),some (576601491972949967,zbZ),some (5,zal),some (17661043933199,zG),some (151060495,zD)],
 bare [some (2890685472579903,zbT),some (19886839177393615664282993661,zay),some (31,zfc),some (536903965,zcp),some (537919539,zcH),none,none,none,none,none,none,none,none,none,none,some (669,zfj)],
 bare [some (11,zhA),none,some (7,ze7),some (252707005,zfg),some (31,ziu),some (525,zeL),none,some (15407,zkS),some (5,zoJ),some (19,zbq),some (7,zjc),some (36028861980348247,zcR),none,none,none,some (309487371008879061366997373,zao)],
 bare [some (1100015992887,zam),some (5070603543725610699058311077759,zbc),some (7,zdu),some (7,zdy),none,none,none,none,none,some (66483,zbu),some (659,zY),some (5404360887,za6),some (633826509113847392481258242063,zaA),some (1152994072512692351,zeO),none,none],
 bare [none,some (16883,zhe),some (19,zbP),some (11,zhG),some (2101171,zhN),none,some (3963069,zik),some (1074250695,zav),some (16806963,zci),none,none,none,none,none,none,none],
 bare [some (5,zgV),some (66483,zaZ),some (262645,zjv),some (19361999891509624300419063,zmV),some (71,zm6),some (29,zfB),some (5,zc4),some (19,zcA),some (7,zc9),some (19,zcN),some (15,zc3),some (2097211,zaf),some (359,zc8),some (5,zhO),some (4202527,zcZ),some (1299341903921783656432219969421043,zcC)],
 bare [some (4196895,zaI),some (262751,zy),some (2229791,zg),none,none,none,none,none,none,none,none,none,none,none,none,none],
 bare [some (659,z6),none,none,some (66483,zbf),none,none,some (137506063859,zk8),some (8590985487,zna),some (23,zrq),some (4231239,zkc),some (66483,zbz),some (66483,zcs),some (4196415,zcO),some (5,ziN),some (143,zhs),none],
 bare [none,none,none,none,none,none,none,some (1011,zxb),some (16794621,zgN),some (11,zmU),some (8651699,zkV),some (2963,zei),some (3213974174218952357560221179716737556379227408111879118128127,zk),some (5,zjq),some (5,zjr),none],
 bare [none,some (115,zsB),some (16371,zsU),some (147,zkl),some (5,zmK),some (137506063859,zkv)]]
def T (n : Nat) : Option Entry:=if n = 62 then some (.ext (zlT 5)) else if n = 118 then some (.ext zff) else if n = 181 then some (.ext (zh6 1)) else if n = 117 then some (.ext zlj) else if n = 145 then some (.ext (zgW 177)) else zuJ tab n
end AC
namespace Go.A
section rules
variable {T : Nat → Option Entry} {s s1 s2 : St} {a b c : Code} {e : Ex} {r : Option (Ex × St)}
end rules
end Go.A
namespace Go.A
def Code.p1 : Code → Code
 | .seq a _ => a
 | .cond _ a _ => a
 | .block _ a => a
 | c => c
def Code.p2 : Code → Code
 | .seq _ b => b
 | .cond _ _ b => b
 | c => c
end Go.A
attribute [go_sem] true_or or_true or_self false_or or_false Go.A.zyM Go.A.zwM Go.A.zc5 Go.A.zui List.all_cons List.all_nil List.headD_cons Int.natCast_nonneg Int.toNat_natCast Int.natCast_zero
namespace AC
open Go Go.A Go.A.Lex
abbrev vI (x : Int) : V:=.one (.f (.lit (.int .i64 x)))
abbrev zEs (x : Int) : V:=.one (.f (.lit (.int .u64 x)))
abbrev vB (x : Bool) : V:=.one (.f (.lit (.bool x)))
abbrev vL (xs : List (List Fz)) : V:=.one (.f (.sl xs))
abbrev vU : V:=.one .un
abbrev vFn (g : Nat) (caps : List C) : V:=.one (.fn g [] caps)
abbrev ei (x : Int) : Fz:=.lit (.int .i64 x)
abbrev eu (x : Int) : Fz:=.lit (.int .u64 x)
def ri (x : Int) : List Fz:=[.lit (.int .i64 x)]
abbrev eI (l : List Int) : Fz:=.sl (l.map ri)
abbrev vIs (l : List Int) : V:=.one (.f (.sl (l.map ri)))
def rl (l : List Int) : List Fz:=[.sl (l.map ri)]
abbrev vLs (l : List (List Int)) : V:=.one (.f (.sl (l.map rl)))
def rs (s : Int × Int) : List Fz:=[.lit (.int .i64 s.1),.lit (.int .i64 s.2)]
abbrev vSs (l : List (Int × Int)) : V:=.one (.f (.sl (l.map rs)))
structure POp where
 kind : Int
 bits : Int
 lanes : Int
 dst : Int
 args : List Int
 imm : Int
structure PPhi where
 bits : Int
 dst : Int
 src : List Int
 args : List Int
structure PBlock where
 phis : List PPhi
 ops : List POp
 kind : Int
 arg : Int
 to : List Int
structure PFunc where
 params : List Int
 ret : Int
 blocks : List PBlock
def ro (o : POp) : List Fz:=[ei o.kind,ei o.bits,ei o.lanes,ei o.dst,eI o.args,eu o.imm]
def rp (p : PPhi) : List Fz:=[ei p.bits,ei p.dst,eI p.src,eI p.args]
def rb (b : PBlock) : List Fz:=[.sl (b.phis.map rp),.sl (b.ops.map ro),ei b.kind,ei b.arg,eI b.to]
abbrev cOp (o : POp) : List C:=[.f (ei o.kind),.f (ei o.bits),.f (ei o.lanes),.f (ei o.dst),.f (eI o.args),.f (eu o.imm)]
abbrev zub (p : PPhi) : List C:=[.f (ei p.bits),.f (ei p.dst),.f (eI p.src),.f (eI p.args)]
abbrev zq (b : PBlock) : List C:=[.f (.sl (b.phis.map rp)),.f (.sl (b.ops.map ro)),.f (ei b.kind),.f (ei b.arg),.f (eI b.to)]
abbrev zcJ (f : PFunc) : List C:=[.f (eI f.params),.f (ei f.ret),.f (.sl (f.blocks.map rb))]
abbrev vOp (o : POp) : V:=.agg (cOp o)
abbrev zE0 (p : PPhi) : V:=.agg (zub p)
abbrev zoA (b : PBlock) : V:=.agg (zq b)
abbrev zgS (f : PFunc) : V:=.agg (zcJ f)
attribute [go_sem] Int.reduceEq Int.reduceNe Int.reduceAdd Int.reduceSub Int.reduceMul Int.reduceNeg Int.reduceGT Int.reduceGE
attribute [go_sem] vI zEs vB vL vU vFn ei eu eI vIs vLs vSs cOp zub zq zcJ vOp zE0 zoA zgS
theorem wrap_i64 {n : Int} (h : -9223372036854775808 ≤ n) (h' : n < 9223372036854775808) : Go.IntKind.i64.wrap n = n:=by
 unfold Go.IntKind.wrap Go.IntKind.bits Go.IntKind.signed
 simp only [Bool.true_and]
 split
 ·rename_i h1
  simp at h1
  omega
 ·rename_i h1
  simp at h1
  omega
theorem wrap_u64 {n : Int} (h : 0 ≤ n) (h' : n < 18446744073709551616) : Go.IntKind.u64.wrap n = n:=by
 unfold Go.IntKind.wrap Go.IntKind.bits Go.IntKind.signed
 simp only [Bool.false_and]
 have : (2 : Int) ^ 64 = 18446744073709551616:=by decide
 rw [this]
 split <;> first | omega | (rename_i h; simp at h)
theorem za {k n : Nat} (h : k < n) (h' : n ≤ 4294967296) : Go.IntKind.i64.wrap ((k : Int) + 1) = ((k + 1 : Nat) : Int):=by
 rw [wrap_i64] <;> omega
theorem zp {α : Type} {r : α → List Fz} {l : List α} {k : Nat} (h : k < l.length) : (l.map r)[k]? = some (r l[k]):=by simp [h]
theorem ilt {k n : Nat} (h : k < n) : ((k : Int) < (n : Int)) = True:=by simp [h]
end AC
namespace AC
open Go Go.A Go.A.Lex
def zhH (b : Int) : Bool:=decide (b = 1) || decide (b = 8) || decide (b = 16) || decide (b = 32) || decide (b = 64)
@[go_sem] theorem zAI (b : Int) : call T 197 [vI b] [] = some (vB (zhH b),[]):=by
  rw [ze (fn:=zfB) rfl]
  by_cases c1 : b = 1
  ·simp -implicitDefEqProofs only [go_sem,zfB,zhH,c1]
  by_cases c2 : b = 8
  ·simp -implicitDefEqProofs only [go_sem,zfB,zhH,c1,c2]
  by_cases c3 : b = 16
  ·simp -implicitDefEqProofs only [go_sem,zfB,zhH,c1,c2,c3]
  by_cases c4 : b = 32
  ·simp -implicitDefEqProofs only [go_sem,zfB,zhH,c1,c2,c3,c4]
  by_cases c5 : b = 64 <;> simp -implicitDefEqProofs only [go_sem,zfB,zhH,c1,c2,c3,c4,c5]
def value (v : Int) : Bool:=decide (1 ≤ v) && decide (v ≤ 1023)
@[go_sem] theorem zxP (v : Int) : call T 253 [vI v] [] = some (vB (value v),[]):=by
  rw [ze (fn:=zjq) rfl]
  by_cases c1 : 1 ≤ v <;> simp -implicitDefEqProofs only [go_sem,zjq,value,c1]
end AC
