/- A part of the proof of AffineFinds. Conditions: none. -/
import Derived.Test.YtmkncmffaaninaaGreatXAP
import Derived.Test.YtmkncmffaaninaaGreatXAO
import Derived.Test.YtmkncmffaaninaaGreatXAN
set_option linter.all false
open Option renaming bind_eq_some_iff → ya,bind_some → yf
open Bool renaming and_eq_true → yb,not_eq_true' → yc
open List renaming getElem?_cons_zero → yd
open Nat renaming add_assoc → ye,add_comm → yg,le_refl → yh
namespace AC
open Go.A Go.A.Lex Go.A.Z
def zd1:Cd:=dC 9 8 7 9 (m 11 0) 1 1 (b (fx 5 6 8 5 (eu 3 aN (ep e2 0 aN) 5 3)) (b (dV 0 3 (dJ 199 c (ac 200 [] [])) 4) (aG 4 (cK 1 3 (eG ax 1 (eO 202 [] (.s 1) []) 2 (e8 201 c) 3 10 4)) (cW 10 2 6 (m 11 4))))) (dI 8 8)
def zbV:Cd:=cx (m 11 450) zd1
def zaH:Fun:=⟨1,11,0,false,[(2,none)],b (bj 1 (aH 1 0) 2) (L (bT (cQ 1) (n cV cL (d9 es (bB 197) b6 (cr (bG (cQ 1)) (cS (E cV 1) cL 2 (eG cL 3 ax 4 (dJ 119 c (ac 198 [] [])) 5 5 6))))) (cW 5 2 6 (m 11 4))) (al (q (cQ 1)) (n cV cL (dN (aU 2) 6 ax 7 6 8)) 0 zbV) (dp (a2 2) (m 11 4)))⟩
def zdm:Cd:=dC 15 14 13 15 (m 30 2) 2 1 (aG 14 (ex 1 12 14 ax (dK 3 bw 4)) (bu (q (cQ 1)) (aR 3 (aM c 1) (bU 4 (bB 205) (fg dr 0 1 (i (-1)) 1 1 (i 0) (2,2,c) []) (dd 204 (.l 5) dk [c]) [])))) (dI 14 14)
def zbf:Cd:=cJ (m 30 28674) zdm
def zdu:Cd:=ft 23 22 21 (aj 23 4 (m 30 458850) 3) 5 (b (fx 4 20 22 4 (dX 7 (bb dt) 4 7)) (b (d9 (v 1 7) (ew 1) aq (dz 1 7 ax 1 (ej 1023) 2 (el 3) (cr (bG (cQ 1)) (cS (E (v 1 7) 1) ax 2 (bS (d 5) 3 (eh 7) 4 ax 5 (E (bB 205) 6) (eG (fg dr 0 1 dk 1 1 (i (-1)) (2,2,c) []) 7 (dd 204 (.l 7) (.l 5) [c]) 8 b6 9 24 10)))))) (cW 24 2 7 (m 30 4)))) 22 22
def zbl:Cd:=d6 (m 30 7798882) zdu
def zdt:Cd:=ft 28 27 26 (aj 28 6 (m 30 458754) 3) 7 (br 27 (ci 6 25 27) (d8 (e6 6) 9 eW (fy 8 dk (au 6 9 bw))) (dU 6 9 (I (bB 206) aq ez ey (dK 10 aJ 11)) (aG 10 (c4 (ej 0) (fd (cQ 1) (v 3 9) 1 ax 2 (ab (d 5) 3) (ek (d 8) 4 (d 10) 5 (d 11) 6 (db bm 0 1 aJ 1 1 c) 7 (cp (fg dr 0 1 eL 1 1 dk (2,2,c) []) 8 (dd 204 (.l 8) (.l 6) [c]) 9 b6 10 (e3 29 11) [])))) (cW 29 2 7 (m 30 4))))) 27 27
def zbh:Cd:=d6 (m 30 235339810) zdt
def zdn:Cd:=ft 19 18 17 (aj 19 2 (m 30 2) 2) 3 (br 18 (ci 5 16 18) (d8 (e6 5) 6 (aN::ep e2 0 aN) (fy 5 dk (au 5 6 bw))) (.seq (eH (eh 6) 20 ax 21 20 22 4 zbl) (eH (v 1 6) 25 ax 26 25 27 6 zbh))) 18 18
def zbm:Cd:=cJ (m 30 458754) zdn
def zbF:Fun:=⟨1,30,2,false,[(2,none)],b (bj 1 (aH 1 0) 2) (bT (cQ 1) (n .mkm eZ (e9 (aU 7) bw)) (L (al (q (cQ 1)) (n cV cL (dN cL 12 ax 13 12 14)) 0 zbf) (al (q (cQ 1)) (n cV cL (dN (aU 2) 16 ax 17 16 18)) 2 zbm) (av (eN (cQ 1) (eO 208 [] (.s 1) []) (e8 207 c) 2) (m 30 4))))⟩
def zee:Fun:=⟨1,3,0,false,[(2,none)],b (bj 1 (aH 1 0) 2) (er (eN (cQ 1) (eO 209 [] (.s 1) []) (e8 207 c) 2))⟩
def zej:Fun:=⟨1,3,0,false,[(2,none)],b (bj 1 (aH 1 0) 2) (er (eN (cQ 1) (eO 210 [] (.s 1) []) (e8 207 c) 2))⟩
def zdM:Cd:=dC 6 5 4 6 (m 8 0) 0 1 (b (ca 5 3) (cq (cP 1 0 (d 3) cd (ev 7 (y .op eL c []))) 7 (fa 3 2))) (dI 5 5)
def zbA:Cd:=fc zdM
def zbQ:Fun:=⟨2,8,0,false,[(2,none)],dL 2 (eE 0 (bj 4 aw 5) 0 zbA) (fA 2)⟩
def zan:Fun:=⟨2,5,0,false,[(2,none)],et 2 (L (en 0 (eT 125 3) 3 2 Y (m 5 4)) (dq (cB 1 4 (ch 1)) 4 2 ap (m 5 4)) (c7 1 (c4 (ch 2) (dF 1 (ch 4) 1 (c5 2 (dF 1 (ch 8) 1 (c5 2 (dF 1 (ch 16) 1 (c5 2 (cY (da 0) (ej 1) 1 (eS 2 (bs (da 0) (d 1) 1 (fb 1 c) 2 (ab (dP c 128) 3) (fo 4 2))))))))))) (m 5 4)))⟩
def zbs:Fun:=⟨1,10,0,false,[(2,none)],cg (bj 1 (aH 6 0) 2) (co (aI (c3 0) 3 ax) 0 (bp 3 0 4 c (p 4 (dp (a2 2) (m 10 4)) (dW 3 1 5 c 5 (fB 3 2 5 5 (fC 3 3 5 5 3 4 5 5 (fC 3 5 5 5 3 6 5 5 (fC 3 7 5 5 3 8 5 5 (fC 3 9 5 5 3 10 5 5 (fC 3 11 5 5 3 12 5 5 (dx 3 17 5 c))))))) (p 5 (dA 2 2 (m 10 4)) (dW 3 13 6 c 6 (fB 3 18 6 6 (dx 3 19 6 c)) (p 6 (dA 2 3 (m 10 4)) (dW 3 14 7 c 7 (fC 3 15 7 7 3 16 7 7 (dx 3 22 7 c)) (eq 7 (dA 2 1 (m 10 4)) 3 20 8 c (eq 8 (dA 2 4 (m 10 4)) 3 21 9 c (dZ 9 dE (bz ax 2) (m 10 4)))))))))))) (fp 2 (m 10 4))⟩
def zaS:Fun:=⟨1,12,0,false,[(2,none)],c8 1 6 0 2 Y (d7 (c3 0) (bz ax 3) (br 3 (ch 4) (ei 3 (cS (E (ec c 10) 1) aq 2 (aV (da 3) (eU (dP c 12)) (eQ 2) 5 (el 6) (ei 3 (a (E (ch 14) 1) (el 2) (ei 3 (a (E (ch 15) 1) (el 2) (ei 3 (cS (E (ec c 18) 1) aq 2 (aV (da 3) (eU (dP c 20)) (eQ 2) 5 (bP 4 6) [])))))))))) (ae 4 (cN 2 1 (ev 5 (em c 1)) (bC 5 2 Y (m 12 4))))) (L (br 3 (ec c 16) (cs (d 3) (a (eU (dP c 19)) (eR 2) (e7 (c3 1) ax (ew 8) 2 (eS 3 (a0 (cb 3) (ec c 21) 1 aq 2 (cf dE) (aV (eU ax) (ab (ew 2) 2) (eQ 3) 6 (bP 6 7) [])))))) (bC 6 2 Y (m 12 4))) (al (w 7 (d 3)) [] 0 (bp 7 0 8 c (eq 8 (eI eF (n ax (c3 1) (d3 (df 224 bw) eF ax (bz (ea 2 c) 2))) (m 12 4)) 7 14 9 c (eq 9 (eI eF (n ax (c3 1) (d3 dG (a9 3 c) aq (fd eF ax 1 fl 2 (ab (bB 125) 3) (fo 4 2)))) (m 12 4)) 7 15 10 c (eq 10 (av (bR 5 1 (d9 (c3 1) dG (W .gtr 3 c) (e7 eF ax (eA .leq 64) 2 (eS 3 (fd eF ax 1 fl 2 (ab (bB 125) 3) (fo 4 2)))))) (m 12 4)) 7 22 11 c (dZ 11 eF (d3 dE ax dG (bz (a9 3 c) 2)) (m 12 4))))))) (av (dV 5 1 (eB 0) 2) (m 12 4))))⟩
def zep:Cd:=fe (dj 5 0 2 8 3 8 0 (m 12 12) 2) (dq (bR 0 2 (e5 5 cd ax (eh 3) ax (d 5) cd ax (aI (df 22 (.l 5)) 9 b6))) 9 4 Y (m 12 16)) 5 5
def zcJ:Cd:=cJ (m 12 44) zep
def zeZ:Cd:=c1 (dj 6 1 2 10 3 10 2 (m 12 0) 2) 3 (dq (bR 1 2 (e5 6 cd ax (v 1 3) ax (d 6) cd ax (aI (df 22 (.l 5)) 11 b6))) 11 4 Y (m 12 16)) 6 6
def zcD:Cd:=cJ (m 12 76) zeZ
def zfm:Fun:=⟨2,12,0,false,[(4,none)],aX (eg 2 2 0) (cv 3 2 1 4 Y) (dq (a8 (eh 2) ax aw (eh 3) ax aw (e4 3) aq (dz 1 2 ax 1 aw 2 (E (v 1 3) 3) (eG ax 4 aw 5 (e4 3) 6 7 7))) 7 4 Y (m 12 16)) (L (eK 5 zcJ) (cc 6 2 zcD) (ee 4 ap (m 12 16)))⟩
def zar:Fun:=⟨2,3,0,false,[(2,none)],fr 2 0 (cl 1 (e8 225 c) (ec c 0) 2)⟩
def ziB:Fun:=⟨1,3,0,false,[(2,none)],c8 1 2 0 2 Y (er (eN (b7 1) (bB 36) b6 2))⟩
def zhQ:Cd:=dC 6 5 4 6 (m 8 0) 0 1 (bT (ci 1 3 5) (bz ax 2) (cM 0 2 (aI (y .op aJ c []) 7 b6) (ae 7 (.ret (m 8 0))))) (dI 5 5)
def zhB:Cd:=cD (m 8 57) zhQ
def zh6:Fun:=⟨2,8,0,false,[],al (w 3 (cQ 1)) (cj 4 3 5) 0 zhB⟩
def zca:Fun:=⟨2,3,0,false,[(2,none)],fr 2 0 (cl 1 (e8 227 c) (ec c 0) 2)⟩
def ziF:Fun:=⟨2,3,0,false,[(2,none)],fr 2 0 (eN (cQ 1) (dQ 180) b6 2)⟩
def zhX:Cd:=dC 8 7 6 8 (m 10 0) 0 1 (d7 (ci 1 5 7) (bz ax 4) (dq (cP 4 3 (W .leq 1 c) aq (a0 (cb 4) (d 1) 1 (W .geq 1 c) 2 (bP 9 3) [])) 9 2 Y (m 10 4)) (.reg (ca 4 3))) (dI 7 7)
def zf8:Cd:=cD (m 10 234) zhX
def ziD:Fun:=⟨2,10,0,false,[(2,none)],et 2 (c9 (ao 3 (-1)) (al (w 5 (d 0)) (cj 6 5 7) 0 zf8) (ee 2 ap (m 10 4)))⟩
def ziL:Cd:=ft 13 12 11 (aj 13 2 (m 14 452) 2) 3 (bT (ci 1 10 12) (bz ax 5) (cA 2 (dl (d 5) (d 2) 5 cd ax (d 3) (dy 1 0 [] [] 0 c []) (dT 1 bw) (e9 (aa 1 8 (.l 7)) aJ)))) 12 12
def zgM:Cd:=cJ (m 14 7628) ziL
def ziK:Cd:=dC 9 8 7 9 (m 14 4) 2 1 (aG 8 (ex 1 6 8 ax (dK 3 bw 4)) (al (w 10 (d 4)) (cj 11 10 12) 2 zgM)) (dI 8 8)
def zgF:Cd:=cJ (m 14 452) ziK
def zjI:Fun:=⟨1,14,0,false,[(1,none)],cn 1 dY (br 0 aw (bz (fq aN [] (some (0,1)) c) 2) (.seq (al (w 6 (d 0)) (cj 7 6 8) 0 zgF) (ck 2 1 (m 14 2))))⟩
def zdw:Cd:=dC 11 10 9 11 (m 13 0) 0 1 (aG 10 (ex 1 8 10 ax (dK 4 bw 5)) (aG 1 (cl 4 cd ax 6) (en 2 (fw 5 6 (aI (y .op bw aJ [c]) 12 b6)) 12 3 Y (m 13 8)))) (dI 10 10)
def zbn:Cd:=cD (m 13 1798) zdw
def zaL:Fun:=⟨3,13,0,false,[(3,none)],et 3 (L (en 0 (n aw (d 1) (aI aw 7 (e4 2))) 7 3 Y (m 13 8)) (al (w 8 (d 0)) (cj 9 8 10) 0 zbn) (ee 3 ap (m 13 8)))⟩
def zfK:Cd:=dC 7 6 5 7 (m 9 0) 0 1 (b (ca 6 3) (en 0 (aR 3 cd (d4 1 (d 3) cd (ev 8 (e4 4)))) 8 2 Y (m 9 4))) (dI 6 6)
def zdz:Cd:=cD (m 9 99) zfK
def zcH:Fun:=⟨2,9,0,false,[(2,none)],et 2 (L (en 0 (n aw (d 1) (aI aw 4 (e4 2))) 4 2 Y (m 9 4)) (eE 0 (bj 5 aw 6) 0 zdz) (ee 2 ap (m 9 4)))⟩
def zhG:Fun:=⟨1,2,0,false,[(1,none)],eD 1 0 (c4 (ew 0) (dF 0 (ej 2147483647) 1 (bz (bJ 2) 1))) (m 2 2)⟩
def zc2:Cd:=dC 6 5 4 6 (m 8 0) 0 1 (b (ca 5 3) (cq (cP 1 0 (d 3) d2 (aI (e6 5) 7 (y .op eL c []))) 7 (fa 3 2))) (dI 5 5)
def za4:Cd:=fc zc2
def zbe:Fun:=⟨2,8,0,false,[(2,none)],dL 2 (eE 0 (bj 4 aw 5) 0 za4) (fA 2)⟩
def zjR:Cd:=dC 6 5 4 6 (m 8 0) 0 1 (bT (ci 1 3 5) (bz ax 2) (dq (bU 2 aw (ej 64) aq (a0 (cb 2) (bB 152) 1 b6 2 (bP 7 3) [])) 7 1 Y (m 8 2))) (dI 5 5)
def zhm:Cd:=cD (m 8 56) zjR
def zkt:Fun:=⟨1,8,0,false,[(1,none)],c9 (h 1 Y) (al (w 3 (d 0)) (cj 4 3 5) 0 zhm) (ee 1 ap (m 8 2))⟩
def zmv:Cd:=dC 17 16 15 17 (m 29 214) 3 1 (aG 16 (ex 1 14 16 ax (dK 8 bw 9)) (cA 7 (fw 9 8 (e9 (aa 1 2 aJ) aJ)))) (dI 16 16)
def zjz:Cd:=d6 (m 29 114902) zmv
def zmQ:Cd:=ft 25 24 23 (aj 25 4 (m 29 1838294) 3) 5 (al (q (ci 1 22 24)) (bz ax 12) 6 (b (cP 6 12 cd ax (bz (ch (-2)) 26)) (ai 26 (aG 11 (bz (ch (-2)) 27) (p 27 (.reg (ca 12 11)) (.reg (cP 6 7 (d 11) (d 12) (bz (eJ 231 dk bw aJ [c]) 11)))))))) 24 24
def zjB:Cd:=d6 (m 29 31198422) zmQ
def zmR:Cd:=ft 21 20 19 (aj 21 2 (m 29 66) 3) 3 (bT (ci 1 18 20) (bz ax 10) (c9 (ao 11 (-2)) (al (q (v 1 2)) (n ax (d 10) (dN cd 22 ax 23 22 24)) 4 zjB) (cq (cP 6 10 cd ax (cB 11 28 (e4 1))) 28 (aG 6 (fw 10 11 (e9 (aa 1 2 aJ) aJ)) (.goto 0 (m 29 214) 3))))) 20 20
def zji:Cd:=d6 (m 29 1835222) zmR
def zat:Cd:=cg (eN (b7 2) (d 1) (dQ 100) 4) (en 4 (aI aw 13 eM) 13 3 dY (m 29 8)) (b (dV 0 2 aw 5) (L (.regd [] (q (dy 1 0 [] [] 0 (i (-2)) [])::bU 5 (b9 .ck 230 [] [] aJ c []) (d 5) (fq e2 [] none c) (dK 6 bw 7))) (al (w 14 (d 4)) (cj 15 14 16) 0 zjz) (aG 6 (fw 1 1 (e9 (aa 1 2 aJ) aJ)) (L (.label 0) (eH (d 4) 18 (.slc 1 c (some (i 1)) none none) 19 18 20 2 zji) (cM 6 1 (e9 cd (i (-1))) (ck 6 3 (m 29 8)))))))
def zmg : Go.A.Code:=(findLabel zat 0).getD .skip
theorem zrx : findLabel zat 0 = some zmg:=rfl
def zn1:Fun:=⟨2,29,0,false,[(3,none)],c8 2 2 0 3 dY (.scope zat)⟩
def zn3:Fun:=⟨3,4,0,false,[(3,none)],et 3 (av (fw 0 1 (bU 2 (dy 1 0 [] (fi e2 []) 0 aJ [(1,c)]) (df 232 dk) aq (cY (da 0) (d 1) 1 (ek (d 2) 2 (eJ 233 bw aJ c []) 3 (d 1) 4 (ea 1 c) 5 (fo 6 3))))) (m 4 8))⟩
def zgn:Fun:=⟨1,4,0,false,[(1,none)],c9 (h 1 Y) (al (w 2 (d 0)) [] 0 (dW 2 1 3 c 3 (fB 2 8 3 3 (fC 2 16 3 3 2 32 3 3 (dx 2 64 3 c))) (bC 3 1 ap (m 4 2)))) (ee 1 Y (m 4 2))⟩
def zdG:Fun:=⟨1,2,0,false,[(1,none)],et 1 (av (cl 0 (bB 197) b6 1) (m 2 2))⟩
def zc3:Fun:=⟨2,3,0,false,[(2,none)],fr 2 0 (cl 1 (e8 234 c) (ec c 0) 2)⟩
def zdH:Fun:=⟨1,3,0,false,[(2,none)],c8 1 4 0 2 Y (eI (c3 0) (eN ax (bB 197) b6 2) (m 3 4))⟩
def zdp:Fun:=⟨2,3,0,false,[(2,none)],fr 2 0 (cl 1 (e8 235 c) (ec c 0) 2)⟩
def zdJ:Fun:=⟨2,4,0,false,[(3,none)],c8 2 6 0 3 Y (eI (cQ 1) (eN (aF 6 2) (e8 203 c) b6 3) (m 4 8))⟩
def zau:Fun:=⟨2,6,0,false,[(3,none)],cg (cv 2 6 1 3 Y) (e0 (br 0 cV (d9 (aU 3) (ew 2) aq (fd (v 2 2) ax 1 (ej 1) 2 (ab aq 3) (dz 0 2 ax 1 (ej 20) 2 (ab (bJ 3) 7) (fo 8 4)))) (p 4 (ee 3 Y (m 6 8)) (en 0 (I cV (aU 3) ax (ew 1) (e7 (eh 2) ax (ej 17) 2 (fo 3 5))) 5 3 Y (m 6 8))))) (eI (aF 6 2) (bz (bB 236) 3) (m 6 8))⟩
def zdL:Fun:=⟨3,6,0,false,[(4,none)],c8 3 4 2 4 Y (br 0 cV (dl (aU 7) ax 1 (fu dr true aJ c) aq ez ey (aY dr) (bt (ag 4 c bw) 5 bw)) (aG 0 (I cV (aU 7) ax (d 1) (M (aF 4 3) (e (.mu bw aJ c)))) (c7 5 (bz b6 4) (m 6 16))))⟩
def ziP:Fun:=⟨1,2,0,false,[(1,some (some 2))],b2 1 (aY bm) (c7 0 (eb (ef bm 0 1 c 1 1 1) 1) (m 2 2))⟩
def zdy:Fun:=⟨1,7,0,false,[(2,none),(3,none)],aX (eg 1 6 0) (aK (a2 2) (a2 3)) (e0 (dU 6 1 (n (bB 236) b6 (cK 0 1 (cS (E ax 1) (bB 237) 2 (bz (bJ 3) 4)))) (p 4 (d5 (aK (a2 2) (a2 3))) (cN 0 1 (n ax (ec c 10) (e7 (c3 0) ax (dP c 12) 2 (fo 3 5))) (p 5 (d5 (aK (ao 2 1) (ao 3 1))) (cq (dV 0 1 (ch 22) 6) 6 (d5 (bR 1 1 (fy 2 c (ao 3 1)))))))))) (d5 (d9 (c3 1) dE ax (dK 2 bw 3)))⟩
def zeQ:Cd:=ft 25 24 23 (aj 25 4 (m 38 1949755) 2) 5 (aG 24 (ex 1 22 24 ax (dK 7 bw 8)) (cM 1 8 (a8 (eh 6) ax (bB 205) (v 2 6) ax (d 7) cd ax (bz (y .op (.l 9) (.l 8) [.l 5,c,i 1048576]) 3)) (d0 3 26 (em c 0) 26 (.goto 0 (m 38 8) 0)))) 24 24
def zcr:Cd:=cJ (m 38 31309947) zeQ
def zeq:Cd:=ft 21 20 19 (aj 21 2 (m 38 114747) 1) 3 (b (fx 4 18 20 4 (dX 6 (bb dt) 4 6)) (eH (v 3 6) 22 ax 23 22 24 4 zcr)) 20 20
def zcw:Cd:=cx (m 38 1949755) zeq
def zeX:Cd:=ft 34 33 32 (aj 34 8 (m 38 939638843) 2) 9 (br 33 (ci 2 31 33) (d8 (e6 2) 12 bm (fy 11 dk (b8 12 bw))) (aG 1 (dl (v 4 10) ax 11 cd ax (b7 12) (d 4) (d 9) (bz (y .op (.l 8) dk [bw,aJ,c]) 3)) (d0 3 35 (em c 0) 35 (.goto 0 (m 38 8) 0)))) 33 33
def zci:Cd:=cJ (m 38 15972025915) zeX
def zeF:Cd:=ft 30 29 28 (aj 30 6 (m 38 114747) 1) 7 (br 29 (ci 6 27 29) (d8 (e6 6) 10 eW (fy 9 dk (au 6 10 bw))) (eH (aF 6 10) 31 (bB 238) 32 31 33 8 zci)) 29 29
def zch:Cd:=cx (m 38 939638843) zeF
def zeK:Cd:=dC 17 16 15 17 (m 38 8) 0 1 (br 16 (ci 5 14 16) (d8 (e6 5) 5 (aN::ep e2 0 aN) (fy 4 dk (au 5 5 bw))) (L (eH (eh 5) 18 ax 19 18 20 2 zcw) (eH (v 1 5) 27 ax 28 27 29 6 zch) (cg (n .mkm (d 0) (I cV cL es ax (a (e (.mu (.l 5) (i 0) c)) (e (.mu (.l 6) (i 2) (i 1))) (I (.mv (.l 7)) (v 2 5) cL ax (bz (.lk (.one e2) false dk c) 13))))) (d0 13 36 eM 36 (.exit 1 (m 38 114699) 0)) (aG 1 (bF 2 5 es (d4 13 (bB 205) (d 4) (bz (y .op (.l 6) dk [aJ,c,i 1048576]) 3))) (d0 3 37 (em c 0) 37 (.goto 0 (m 38 8) 0)))))) (dI 16 16)
def zcx:Cd:=cD (m 38 114699) zeK
def zei:Cd:=b1 (a2 3) (L (eE 0 (n cV cL (dN (aU 2) 14 ax 15 14 16)) 0 zcx) (.label 0) (ck 3 2 (m 38 4)))
def zc7:Fun:=⟨2,38,0,false,[(2,none)],b1 (a2 2) (.scope zei)⟩
def za0:Fun:=⟨5,8,0,false,[(5,none)],cg (U (aH 2 1) 5 (i 0)) (b (n (cQ 4) cV (dl (aU 7) ax 0 (fu dr true aJ c) aq ez ey (aY dr) (bt (ag 4 c bw) 6 bw))) (b (cB 6 7 b6) (cW 7 5 7 (m 8 32)))) (dp (a2 5) (m 8 32))⟩
def zD:Fun:=⟨5,8,0,false,[(6,none)],cg (bj 5 (aH 2 1) 6) (bT (cQ 4) (n cV (aU 7) (d4 0 (fu dr false aJ c) (.fld 2 (some 2) c) (aI (b7 5) 7 (.eqa 2 true aJ c)))) (cW 7 6 6 (m 8 64))) (dp (a2 6) (m 8 64))⟩
def zk:Fun:=⟨5,9,0,false,[(5,none)],b (U (aH 2 1) 5 (i 0)) (cg (n (cQ 4) cV (d9 (aU 7) (d 0) (fu dr false aJ c) (dX 6 dr 4 6))) (e0 (b (dV 0 6 (ew 0) 7) (p 7 (dp (a2 5) (m 9 32)) (.seq (cN 0 6 (d4 2 (ea 1 c) aq (fd (v 1 6) ax 1 (d 3) 2 (ab (a9 1 c) 3) (fo 4 8))) (ai 8 (bu (q (eh 6)) (d4 2 (e4 1) aq (fd (cQ 4) cV 1 (aU 6) 2 (ab ax 3) (ek (eh 6) 4 ax 5 (d 2) 6 (eJ 196 dk aJ c []) 7 (fo 8 8))))))) (bv 8 (a2 5) (m 9 32)))))) (dA 5 7 (m 9 32)))⟩
def zal:Fun:=⟨2,5,0,false,[(2,none)],cn 2 (a3 0) (L (en 1 (eT 125 3) 3 2 (a3 0) (m 5 4)) (d0 1 4 (ch 64) 4 (ck 0 2 (m 5 4))) (av (cP 0 1 dG (.bin .shl (a3 1) c) (bz (W .rem 3 c) 2)) (m 5 4)))⟩
def zbk:Cd:=dC 6 5 4 6 (m 8 0) 0 1 (b (ca 5 3) (cq (cP 1 0 (d 3) (a6 2) (aI (e6 2) 7 (y .op eL c []))) 7 (fa 3 2))) (dI 5 5)
def zbo:Cd:=fc zbk
def zaR:Fun:=⟨2,8,0,false,[(2,none)],dL 2 (eE 0 (bj 4 aw 5) 0 zbo) (fA 2)⟩
def zdv:Cd:=dC 6 5 4 6 (m 8 0) 0 1 (b (ca 5 3) (cq (cP 1 0 (d 3) cd (ev 7 (y .op eL c []))) 7 (fa 3 2))) (dI 5 5)
def zbi:Cd:=fc zdv
def zbG:Fun:=⟨2,8,0,false,[(2,none)],dL 2 (eE 0 (bj 4 aw 5) 0 zbi) (fA 2)⟩
def zlK:Cd:=c2 (ed 6 5 9 2 (dB 9 (m 10 32) 1)) 1 (.reg (dl (d 6) (d 5) 6 (.slc 1 aJ (some c) none none) (d 5) (d 6) (.slc 1 aJ none (some c) none) (.cpy 1 dk c) (fs 7 c 6)))
def zlO:Cd:=cx (m 10 96) zlK
def zmd:Fun:=⟨2,10,1,true,[(2,none)],c9 (h 2 dY) (d0 1 7 (ew 0) 7 (.reg (M (.no "") (e (.no ""))))) (dv 0 (dl aw dG 1 dG (df 247 bw) aq ez ey (dK 3 aJ 4)) (br 3 (eA .gtr 0) (ei 4 (aK (E (eA .gtr 9223372036854775807) 1) (bP 8 2))) (eY 8 (M (.no "") (e (.no ""))))) (br 4 fl (bz (fq e2 [] none c) 5) (cM 5 0 (bz (.cpy 1 aJ c) 6) (.seq (e0 zlO) (ck 5 2 (m 10 4))))))⟩
def zqk:Cd:=c2 (bx 1 (aR 2 cd (d4 1 (d 3) cd (ev 6 (W .gtr 4 c)))) 6 2 (m 8 15) 0) 3 (cA 0 (cl 2 cd ax 2))
def zmC:Cd:=cD (m 8 15) zqk
def zq3:Cd:=c2 (bx 1 (aR 3 cd (d4 1 (d 2) cd (ev 7 (W .gtr 4 c)))) 7 4 (m 8 15) 0) 5 (cA 0 (cl 3 cd ax 3))
def zmA:Cd:=cD (m 8 15) zq3
def zqe:Cd:=c2 (bx 2 (cB 3 5 (e4 1)) 5 0 (m 8 4) 0) 1 (c2 (.block 2 zmC) 4 zmA)
def zmN:Cd:=cD (m 8 15) zqe
def zn7:Fun:=⟨4,8,0,false,[(4,none)],dL 4 (e0 zmN) (ck 2 4 (m 8 16))⟩
def ztT:Fun:=⟨2,4,0,false,[(3,none)],c8 2 1 0 3 Y (eI (cQ 2) (c4 (bB 248) (bs (da 1) (eO 249 [] (.s 2) []) 1 (e8 119 c) 2 (ab b6 3) (fo 4 3))) (m 4 8))⟩
def zmD:Cd:=c2 (bx 1 (cB 2 5 (e4 1)) 5 0 (m 7 2) 0) 1 (aG 0 (bU 1 (dQ 250) (d 0) (d 2) (aI (dQ 250) 6 (W .geq 3 c))) (p 6 (cA 0 (cl 1 cd ax 1)) (cA 0 (cl 2 cd ax 2))))
def zjq:Cd:=cD (m 7 7) zmD
def zlA:Fun:=⟨3,7,0,false,[(3,none)],b1 (a2 3) (af (b (cP 0 1 (d 2) (dy 1 0 [] (fi e2 []) 0 aJ [(1,c)]) (aI (df 232 dk) 4 b6)) (cW 4 3 (-2) (m 7 8))) 0 zjq (ck 1 3 (m 7 8)))⟩
def zdF:Cd:=dC 6 5 4 6 (m 8 0) 0 1 (b (ca 5 3) (cq (cP 1 0 (d 3) (a6 4) (aI (e6 4) 7 (y .op eL c []))) 7 (fa 3 2))) (dI 5 5)
def zbC:Cd:=fc zdF
def zbZ:Fun:=⟨2,8,0,false,[(2,none)],dL 2 (eE 0 (bj 4 aw 5) 0 zbC) (fA 2)⟩
def zd3:Cd:=dC 6 5 4 6 (m 8 0) 0 1 (b (ca 5 3) (cq (cP 1 0 (d 3) (a6 6) (aI (e6 6) 7 (y .op eL c []))) 7 (fa 3 2))) (dI 5 5)
def zbP:Cd:=fc zd3
def zcG:Fun:=⟨2,8,0,false,[(2,none)],dL 2 (eE 0 (bj 4 aw 5) 0 zbP) (fA 2)⟩
def zdk:Fun:=⟨1,8,0,false,[(2,none)],cg (cv 1 6 0 2 Y) (dq (d9 (c3 1) dE ax (aI (df 251 bw) 6 b6)) 6 2 Y (m 8 4)) (dU 6 1 (I (bB 252) aq ez ey (dK 3 aJ 4)) (cg (dV 3 1 (bB 253) 5) (cN 0 1 (ev 7 (bB 237)) (eY 7 (dV 3 1 eM 5))) (c7 4 (cs (d 5) (eS 1 (cY (da 3) aw 1 (ek (c3 4) 2 ax 3 aw 4 (ea 3 c) 5 (eS 6 (fd (c3 4) ax 1 (dJ 119 c (ac 254 [] [])) 2 (ab b6 3) (fo 4 2))))))) (m 8 4))))⟩
def zjy:Fun:=⟨1,2,0,false,[(1,none)],eD 1 0 (c4 (ch 17) (dF 0 (ch 19) 1 (bz (bJ 2) 1))) (m 2 2)⟩
def zik:Fun:=⟨1,5,0,false,[(2,none)],cg (cv 1 6 0 2 dY) (dU 6 1 (eT 236 4) (bC 4 2 dY (m 5 4))) (dU 6 1 (I (bB 252) aq ez ey (fy 3 aJ (q (.mv aJ)))) (ck 3 2 (m 5 4)))⟩
def zzK:Fun:=⟨2,8,0,false,[(2,none),(3,none)],cg (cF 2 (a3 0) 3 (a3 0)) (.cond Y (b (dl (d 0) (ct .u32) 1 (ct .u32) (df 257 bw) aq ez ey (dK 4 aJ 5)) (av (bU 4 dG (d 5) dG (dK 2 bw 3)) (m 8 12))) .skip) (cM 0 1 (I (dQ 258) aq ez ey (dK 6 aJ 7)) (av (fw 6 7 (dK 2 aJ 3)) (m 8 12)))⟩
def zki:Cd:=dC 8 7 6 8 (m 11 4) 0 1 (dv 7 (ex 1 5 7 ax (dK 3 bw 4)) (d0 4 9 (ch (-1)) 9 (cA 2 (aO c 1 2 c))) (br 4 (em c (-2)) (cs (d 0) (cp (d 3) 1 (dQ 250) 2 (ew 0) 3 (e3 10 4) [])) (bC 10 1 Y (m 11 2)))) (dI 7 7)
def ziu:Cd:=cD (m 11 229) zki
def zhY:Fun:=⟨1,11,0,false,[(1,none)],et 1 (dL 2 (al (w 5 (d 0)) (cj 6 5 7) 0 ziu) (c7 2 (bz (ch 1) 1) (m 11 2)))⟩
def zom:Fun:=⟨2,3,0,false,[(2,none)],et 2 (eI (cQ 1) (cl 0 (dQ 250) (ew 0) 2) (m 3 4))⟩
def zlc:Cd:=dC 6 5 4 6 (m 9 0) 0 1 (b (ca 5 3) (L (br 1 (ew 0) (ei 1 (eG (d 0) 1 aw 2 (W .geq 2 c) 3 7 4)) (cW 7 2 (-1) (m 9 4))) (aG 0 (aR 1 cd (ev 8 (ch (-1)))) (ae 8 (ck 3 2 (m 9 4)))) (cA 0 (cl 1 cd ax 1)))) (dI 5 5)
def ziq:Cd:=cD (m 9 51) zlc
def zmp:Fun:=⟨2,9,0,false,[(2,none)],dL 2 (eE 0 (bj 4 aw 5) 0 ziq) (fp 2 (m 9 4))⟩
def zeP:Fun:=⟨2,7,0,false,[(2,none)],et 2 (L (en 0 (eT 197 3) 3 2 Y (m 7 4)) (al (w 4 (d 1)) [] 0 (bp 4 1 5 c (p 5 (ee 2 ap (m 7 4)) (dW 4 2 6 c 6 (fC 4 4 6 6 4 8 6 6 (dx 4 16 6 c)) (aQ 6 (ah 0) (c4 (ec c 8) (bs (da 0) (d 1) 1 (fb 1 c) 2 (ab (dP c 128) 3) (fo 4 2))) (m 7 4)))))) (ee 2 Y (m 7 4)))⟩
def zn:Fun:=⟨1,23,0,false,[(2,none),(3,none)],aX (eg 1 6 0) (cF 2 dY 3 Y) (.regd [(6,15)] (bR 1 1 (a8 dE ax (db bm 0 1 bw 1 1 c) (c3 1) ax (ef bm 0 1 c 1 1 1) (ef bm 0 1 (i 1) 1 1 1) (ef bm 0 1 (i 64) 1 1 1) (ak (cw 4 bm) (cw 5 bm) (cw 6 bm) (cw 7 bm) (ak (b8 4 (.l 9)) (b8 5 (.l 7)) (b8 6 (.l 7)) (b8 7 (.l 7)) []))))) (cg (bR 2 1 (I (ch 1) (c3 1) ax (ec c 8) (dK 8 dk 9))) (co (aI (c3 0) 10 ax) 0 (bp 10 0 11 c (p 11 (dO (a8 eF ax (c3 1) ax (df 259 bw) eF ax (ea 2 c) (dK 2 dY 3))) (dW 10 1 12 c 12 (fC 10 2 12 12 10 3 12 12 (fC 10 5 12 12 10 6 12 12 (fC 10 7 12 12 10 8 12 12 (dx 10 9 12 c)))) (p 12 (eI (b7 4) (n (b7 4) (bX 2 bm [bm] 0 aJ [(1,c)]) (I fm eF ax (eB 0) (dK 2 dk 3))) (m 23 12)) (dW 10 4 13 c 13 (fC 10 10 13 13 10 11 13 13 (dx 10 12 13 c)) (eq 13 (dO (a8 (b7 4) (b7 4) (bX 2 bm [bm] 0 aJ [(1,c)]) fm eF ax (eB 0) aq (ak (da 8) (eR 1) (h 2 (.l 6)) (h 3 aJ) []))) 10 13 14 c (eq 14 (dO (a8 (b7 6) (b7 4) (b7 4) (bX 2 bm [bm,bm] 0 bw [(1,aJ),(2,c)]) fm eF ax (eB 0) (dK 2 dk 3))) 10 14 15 c (eq 15 (dO (a8 eF ax (.mxn false c (a3 128)) fl (ef bm 0 1 c 1 1 1) (bX 2 bm [] 0 c []) fm (d 8) (e7 eF ax (c3 1) 2 (cp ax 3 dG 4 (a9 3 c) 5 (eR 6) (e7 eF ax fl 2 (ak (ab (bB 197) 3) (eR 4) (h 2 (.l 15)) (h 3 aJ) [])))))) 10 15 16 c (eq 16 (eI eF (a8 ax (.mxn false c (a3 128)) fl (ef bm 0 1 c 1 1 1) (bX 2 bm [] 0 c []) fm (d 8) aq (cY (cf eF) ax 1 (ek (c3 1) 2 ax 3 dG 4 (W .gtr 3 c) 5 (eS 6 (fd eF ax 1 (eA .leq 64) 2 (eR 3) (e7 eF ax fl 2 (ak (ab (bB 197) 3) (eR 4) (h 2 (.l 20)) (h 3 aJ) []))))))) (m 23 12)) 10 16 17 c (eq 17 (eI (b7 7) (n (bX 2 bm [] 0 c []) fm (d9 eF (eB 0) aq (ak (da 9) (eR 1) (h 2 (.l 6)) (h 3 aJ) []))) (m 23 12)) 10 17 18 c (p 18 (dO (a8 (b7 7) (b7 4) (bX 2 bm [bm] 0 aJ [(1,c)]) fm eF ax (eB 0) aq (ak (da 9) (eR 1) (h 2 (.l 6)) (h 3 aJ) []))) (dW 10 18 19 c 19 (dx 10 19 19 c) (eq 19 (dO (a8 (b7 6) (b7 7) (b7 4) (bX 2 bm [bm,bm] 0 bw [(1,aJ),(2,c)]) fm eF ax (eB 0) (cs (d 8) (eS 1 (ak (da 9) (eR 1) (h 2 (.l 9)) (h 3 aJ) []))))) 10 20 20 c (eq 20 (dO (n (b7 6) (b7 4) (a8 (b7 4) (b7 4) (bX 2 bm [bm,bm,bm] 0 dk [(1,bw),(2,aJ),(3,c)]) fm eF ax (eB 0) aq (ak (da 8) (eR 1) (h 2 (.l 6)) (h 3 aJ) [])))) 10 21 21 c (eq 21 (eI (b7 5) (a8 (bX 2 bm [] 0 c []) fm dE ax (df 261 bw) eF ax (eB 0) (cs (d 8) (ak (eU b6) (eR 2) (h 2 (.l 7)) (h 3 aJ) []))) (m 23 12)) 10 22 22 c (dZ 22 (b7 4) (I (bX 2 bm [] 0 c []) fm (d 8) b6 (cs eF (ek ax 1 dE 2 ax 3 dG 4 (ak (ab (a9 3 c) 5) (eR 6) (h 2 (.l 10)) (h 3 aJ) [])))) (m 23 12)))))))))))))))))) (dO (cF 2 dY 3 Y)))⟩
def zkj:Fun:=⟨1,2,0,false,[(1,none)],eD 1 0 (c4 (ec c 1) (cY (da 0) (dP c 1023) 1 (fo 2 1))) (m 2 2)⟩
def zkX:Fun:=⟨1,2,0,false,[(1,none)],et 1 (av (cl 0 (bB 253) b6 1) (m 2 2))⟩
def zut:Fun:=⟨2,5,0,false,[(2,none),(3,none)],b (cF 2 (ik .u32 0) 3 (ik .u32 0)) (b (bU 0 dG (d 1) dG (bz (fb 2 c) 4)) (c7 4 (I (eA .shr 32) (ct .u32) (d 4) (ct .u32) (dK 2 bw 3)) (m 5 12)))⟩
def zt7:Fun:=⟨2,12,0,false,[(2,none),(3,none)],b (cF 2 (a3 0) 3 (a3 0)) (aG 0 (bz (eA .and 4294967295) 4) (aG 0 (bz (eA .shr 32) 5) (aG 1 (bz (eA .and 4294967295) 6) (aG 1 (bz (eA .shr 32) 7) (cM 4 6 (bz (fb 1 c) 8) (aG 5 (bU 6 (fb 1 c) (d 8) (eA .shr 32) (fs 2 c 9)) (aG 9 (bz (eA .and 4294967295) 10) (aG 9 (bz (eA .shr 32) 11) (b (cP 10 4 (d 7) (fb 1 c) (fs 3 c 10)) (aG 5 (aR 7 (fb 1 c) (bU 11 (dR 1 c) (d 10) (eA .shr 32) (fs 2 c 2))) (av (cl 0 (d 1) (fb 1 c) 3) (m 12 12))))))))))))⟩
def zlt:Fun:=⟨2,4,0,false,[(2,none)],c9 (h 2 (a3 0)) (en 1 (eT 197 3) 3 2 (a3 0) (m 4 4)) (av (fw 0 1 (I (.bin .sub (i 64) c) (W .shl 2 c) (d 1) (.bin .sub (i 64) c) (bz (W .shr 2 c) 2))) (m 4 4))⟩
def zn8:Fun:=⟨1,2,0,false,[(1,none)],cn 1 dY (ck 0 1 (m 2 2))⟩
def zkS:Cd:=c2 (ed 6 5 9 2 (dB 9 (m 10 32) 1)) 1 (.reg (dl (d 6) (d 5) 6 (.slc 2 aJ (some c) none none) (d 5) (d 6) (.slc 2 aJ none (some c) none) (.cpy 2 dk c) (fs 7 c 6)))
def zku:Cd:=cx (m 10 96) zkS
def zlQ:Fun:=⟨2,10,0,false,[(2,none)],c9 (h 2 dY) (d0 1 7 (ew 0) 7 (.reg (M (.no "") (e (.no ""))))) (dv 0 (dl aw dG 1 dG (df 247 bw) aq ez ey (dK 3 aJ 4)) (br 3 (eA .gtr 0) (ei 4 (aK (E (eA .gtr 9223372036854775807) 1) (bP 8 2))) (eY 8 (M (.no "") (e (.no ""))))) (br 4 fl (bz (.mks bm none c) 5) (cM 5 0 (bz (.cpy 2 aJ c) 6) (.seq (e0 zku) (ck 5 2 (m 10 4))))))⟩
end AC
namespace Go.A
def zGH (P : Program) (CD : Draws) (n : Nat) (fn : Fun) : Prop := ∃ gf κ, P.funcs[n]? = some gf ∧ (gf.name == "runtime.NumGoroutine") = false ∧ zx3 P CD κ gf fn = true
def zBi (Q : Nat → Fun → Prop) : Nat → List (Option Fun) → Prop
 | _,[] => True
 | b,none :: r => zBi Q (b + 1) r
 | b,some f :: r => Q b f ∧ zBi Q (b + 1) r
def zxs (Q : Nat → Fun → Prop) : Nat → List (List (Option Fun)) → Prop
 | _,[] => True
 | b,r :: rs => zBi Q b r ∧ zxs Q (b + 16) rs
def zF4 : Nat → Nat → Nat → List Nat
 | 0,_,_ => []
 | n + 1,w,i => if w % 2 = 1 then i :: zF4 n (w / 2) (i + 1) else zF4 n (w / 2) (i + 1)
def zyk (P : Program) (CD : Draws) : Nat → List (Option (Nat × Fun)) → Bool
 | _,[] => true
 | b,none :: r => zyk P CD (b + 1) r
 | b,some x :: r => (match P.funcs[b]? with
   | some gf => !(gf.name == "runtime.NumGoroutine") && zx3 P CD (zF4 (Nat.log2 x.1 + 1) x.1 0) gf x.2
   | none => false) && zyk P CD (b + 1) r
def bare (r : List (Option (Nat × Fun))) : List (Option Fun):=r.map fun x => x.map fun y => y.2
theorem zbD {P : Program} {CD : Draws} : ∀ (r : List (Option (Nat × Fun))) (b : Nat),zyk P CD b r = true → zBi (zGH P CD) b (bare r)
 | [],_,_ => trivial
 | none :: r,b,h => zbD r (b + 1) h
 | some x :: r,b,h => by
   simp only [zyk,yb] at h;refine ⟨?_,zbD r (b + 1) h.2⟩;have a:=h.1;split at a
   ·rename_i gf c
    simp only [yb,yc] at a;exact ⟨gf,_,c,a.1,a.2⟩
   ·cases a
theorem ztv {Q : Nat → Fun → Prop} : ∀ (r : List (Option Fun)) (b : Nat),zBi Q b r → ∀ (j : Nat) (f : Fun),r[j]? = some (some f) → Q (b + j) f
 | [],_,_,_,_,h => by simp at h
 | none :: r,b,hr,0,f,h => by simp at h
 | some g :: r,b,hr,0,f,h => by
   simp only [yd,Option.some.injEq] at h;subst h;exact hr.1
 | none :: r,b,hr,j + 1,f,h => by
   have:=ztv r (b + 1) hr j f (by simpa using h)
   rwa [ye,yg 1 j] at this
 | some g :: r,b,hr,j + 1,f,h => by
   have:=ztv r (b + 1) hr.2 j f (by simpa using h)
   rwa [ye,yg 1 j] at this
theorem zu2 {Q : Nat → Fun → Prop} : ∀ (rs : List (List (Option Fun))) (b : Nat),zxs Q b rs → ∀ (i j : Nat) (r : List (Option Fun)) (f : Fun),rs[i]? = some r → r[j]? = some (some f) → Q (b + 16 * i + j) f
 | [],_,_,_,_,_,_,h,_ => by simp at h
 | x :: rs,b,hr,0,j,r,f,h,h' => by
   simp only [yd,Option.some.injEq] at h;subst h;exact ztv x b hr.1 j f h'
 | x :: rs,b,hr,i + 1,j,r,f,h,h' => by
   have:=zu2 rs (b + 16) hr.2 i j r f (by simpa using h) h';have e : b + 16 + 16 * i + j = b + 16 * (i + 1) + j:=by omega
   rwa [e] at this
theorem zIf {rows : List (List (Option Fun))} {n : Nat} {f : Fun} (h : zzz rows n = some (.fn f)) : ∃ r,rows[n / 16]? = some r ∧ r[n % 16]? = some (some f):=by
 unfold zzz at h
 cases b : rows[n / 16]? with
 | none => simp [b,zoL] at h
 | some r =>
   refine ⟨r,rfl,?_⟩;rw [b,yf] at h
   cases a : r[n % 16]? with
   | none => simp [a,zoL] at h
   | some o =>
     cases o with
     | none => simp [a,zoL] at h
     | some g => simpa [a,zoL] using h
theorem zCM {rows : List (List (Option Fun))} {n : Nat} {g : List V → zd → Option (V × zd)} : zzz rows n ≠ some (.ext g):=by
 unfold zzz zoL;split <;> simp
theorem zDV {P : Program} {CD : Draws} {rows : List (List (Option Fun))} (h : zxs (zGH P CD) 0 rows) : zzs P CD (zzz rows):=fun n => by
 refine ⟨fun fn b => ?_,fun ext he => absurd he zCM⟩;obtain ⟨r,c,d⟩:=zIf b;have a:=zu2 rows 0 h (n / 16) (n % 16) r fn c d;have e : 0 + 16 * (n / 16) + n % 16 = n:=by omega
 rw [e] at a;exact a
theorem ztx {P : Program} {CD : Draws} {k : Nat} {g : List V → zd → Option (V × zd)} {T : Nat → Option Entry}
  (b : ∀ args σ v σ',g args σ = some (v,σ') → Enters P k ∧ ∀ gg w us,Rel gg w σ → zO gg w σ args us → Calls P k us.toArray w fun e w' => ∃ u g',e = .returned u ∧ zh g' w' σ' v u ∧ Rel g' w' σ' ∧ Ext gg w σ g' w' σ')
  (c : zzs P CD T) : zzs P CD fun n => if n = k then some (.ext g) else T n:=fun n => by
 by_cases a : n = k
 ·subst a
  refine ⟨fun fn d => ?_,fun ext he => ?_⟩
  ·simp at d
  ·simp only [if_true,Option.some.injEq,Entry.ext.injEq] at he
   subst he;exact b
 ·have:=c n
  simpa only [if_neg a] using this
section
variable {P : Program} {CD : Draws}
theorem zDv {f : Nat} {gf : Func} (hgf : P.funcs[f]? = some gf) (hname : (gf.name == "runtime.NumGoroutine") = false) {fn1 fn2 : Fun} {c0 c1 c2 : Code} (e1 : fn1.body = .seq c0 c1) (e2 : fn2.body = .seq c0 c2) (same : fn1.np = fn2.np ∧ fn1.nslots = fn2.nslots ∧ fn1.keep = fn2.keep) (hc : zoN P CD [0, 2] gf fn1 fn2 = true) :
  Enters P f ∧ ∃ i0 i1 r0 o1 o2 ga gb t3 t4 ty ty' ty'',TwoOk P CD [0,2] gf fn1 fn2 c0 c1 c2 i0 i1 r0 o1 o2 ga gb t3 t4 ty ty' ty'':=by
 unfold zoN at hc
 split at hc
 ·rename_i i0 r0 i1 o1 o2 t4 ga gb c0' c1' c0'' c2' hb hb1 hb2
  rw [e1] at hb1
  rw [e2] at hb2
  simp only [yb,beq_iff_eq,bne_iff_ne,ne_eq,yc,decide_eq_true_eq] at hc
  obtain ⟨⟨⟨⟨⟨⟨⟨⟨⟨⟨⟨⟨⟨⟨⟨⟨h1,h1'⟩,h2⟩,h3⟩,h4⟩,h5⟩,h6⟩,h7⟩,h8⟩,h9⟩,h10⟩,h11⟩,h12⟩,h13⟩,h14⟩,h15⟩,h16⟩:=hc
  split at h4
  ·rename_i t3 ht3
   simp only [yb,bne_iff_ne,ne_eq,yc,decide_eq_true_eq] at h4
   obtain ⟨⟨⟨h4,hne⟩,hk3⟩,hl3⟩:=h4
   obtain ⟨k1,k2⟩:=zl7 h4
   injection hb1 with q1 q2
   injection hb2 with q3 q4
   subst q1 q2 q4
   refine ⟨⟨gf,_,hgf,hname,hb⟩,?_⟩
   obtain ⟨te,hte⟩ : ∃ te,P.underlying (zDe o2).1 = some (.slice te):=by
    unfold zp5 at h8
    split at h8
    ·rename_i te hte; exact ⟨te,hte⟩
    ·cases h8
   exact ⟨i0,i1,r0,o1,o2,ga,gb,t3,t4,(zDe o2).1,(zDe o2).2,te,hb,e1,e2,h1,h2,h3,k1,k2,hne,⟨hk3,hl3⟩,⟨h5,h6⟩,h7,hte,h9,h10,same,h11,h12,h13,h14,h15,h16⟩
  ·cases h4
 ·cases hc
end
section
variable {P : Program} {CD : Draws} {κ : List Tmp}
theorem zzv (hD : DrawOk P CD) {f : Nat} {gf : Func} {fn1 fn2 : Fun} {c0 c1 c2 : Code} {i0 i1 : Nat} {r0 : Array Go.Oper} {S o2 : Go.Oper} {U Y : Go.Code} {t3 t4 ty O i : Nat} (Q : P.funcs[f]? = some gf) (T : TwoOk P CD κ gf fn1 fn2 c0 c1 c2 i0 i1 r0 S o2 U Y t3 t4 ty O i)
  {va : V} {E : Prop} {σ : zd} {v : V} {σ' : zd} {n0 n2 : Nat} {s0 s2 : St} {e2 : Ex} (W : z6 zkd n0 c0 (enter fn2 [va] σ) = some (.normal,s0)) (C : s0.env.getD 0 vun = va) (M : ∀ g' w' u,Rel g' w' s0.st → zh g' w' s0.st va u → ∃ ad n c,u = .slice ad n c ∧ (ad = none → E)) (Z : z6 zkd n2 c2 s0 = some (e2,s2)) (l2 : leave fn2.raw fn2.results (e2,s2) = some (v,σ'))
  (h1 : E → ∃ n1 s1,z6 zkd n1 c1 s0 = some (.ret,s1) ∧ leave fn1.raw fn1.results (.ret,s1) = some (v,σ')) (R : fn2.np = 1) {g : G} {w : World} {us : List Value} (R0 : Rel g w σ) (hv : zO g w σ [va] us) :
  Calls P f us.toArray w fun e w' => ∃ u g',e = .returned u ∧ zh g' w' σ' v u ∧ Rel g' w' σ' ∧ Ext g w σ g' w' σ':=by
 have hA:=zmP (gf:=gf) (fn:=fn2) R0 hv T.nd T.all T.len T.np T.np2 T.hd (by rw [R]; rfl);have a:=fun n => zpt (P:=P) (CD:=CD) (T:=zkd) (g0:=g.clean σ.length) (w0:=w) (σ0:=σ) (κ:=κ) (nt:=gf.ntmps) hD (zgs g σ.length) n fun m _ => zqR m;have k:=zdo zkd n0 _ _ _ _ W
 have h : ∀ (fn : Fun) (e : Ex) (s : St),zj7 P κ gf.results.toList fn.results = true → leave fn.raw fn.results (e,s) = some (v,σ') → s.lim = (enter fn2 [va] σ).lim → ∀ x q w',zFs (g.clean σ.length) w σ κ gf.ntmps e s x q w' →
   bodyPost P gf (fun e w' => ∃ u g',e = .returned u ∧ zh g' w' σ' v u ∧ Rel g' w' σ' ∧ Ext g w σ g' w' σ') x q w' ∧ x = zl4 e:=fun fn e s N b r x q w' l => by
  obtain ⟨rfl,g',A'⟩:=l;obtain ⟨q1,q2,u,q3,K,q4,q5,X⟩:=zmI (fn:=fn) (gf:=gf) (zgs g σ.length) (by rw [r]; exact Nat.le_add_right _ _) N b A'
  have d : q.defers = [] ∧ ∃ v1,(results gf q.tmps).run P w' = .ok v1 w' ∧ ∃ u g',(Ending.returned v1) = .returned u ∧ zh g' w' σ' v u ∧ Rel g' w' σ' ∧ Ext g w σ g' w' σ' :=
   ⟨q2,u,q3,u,G.under g w K,rfl,zgf (g:=K) (g':=G.under g w K) rfl rfl rfl _ _ q4,zqO X q5,zqa X⟩
  rcases q1 with rfl | rfl
  ·exact ⟨d,rfl⟩
  ·exact ⟨d,rfl⟩
 refine calls_of_wp Q T.body (wp_seq (wp_mono ((a n0).1 _ c0 _ .normal s0 T.k0 W _ _ _ (yh _) hA) fun x a1 y l => ?_));obtain ⟨rfl,g1,p⟩:=l
 show Exit.then _ _ .normal a1 y
 simp only [Exit.then];have j:=p.fr.size;have hu:=p.fr.env 0 0 T.arg;simp only [C] at hu;obtain ⟨ad,n,c,hu,t⟩:=M _ _ _ p.rel hu;refine wp_seq (wp_seq (zdV ?_));refine zef (o:=S) rfl T.e1.1 T.e1.2.1 T.f3 (zk4 (.inr T.e1.2.2) hu) fun a2 A => ?_;refine zef (o:=o2) (u:=.bool ad.isNone) (w':=y) rfl T.e2.1 T.e2.2.1 T.f4 ?_ fun a3 B => ?_
 ·unfold execOp
  simp only [T.e2.2.2,zf1,A.val j,Act.eval];simp [eqGuard,Lib.run_eql_slice_nil y ty i ad n c 0 0 T.ty]
 show Exit.then _ _ .normal a3 y
 simp only [Exit.then];have A3 : At' (g.clean σ.length) w σ κ gf.ntmps g1 y s0 a3:=⟨p.ext,p.rel,B.fr (A.fr p.fr)⟩;have hle : σ.length ≤ s0.base:=by rw [k.1]; exact yh _
 cases ad with
 | none =>
   have L:=t rfl;obtain ⟨n1,s1,z,I⟩:=h1 L;have J:=zdo zkd n1 _ _ _ _ z;refine wp_cond_true (B.val (A.size j)) (wp_mono ((a n1).1 U c1 s0 .ret s1 T.k1 z _ _ _ hle A3) fun x a4 H l => ?_);obtain ⟨k1,k2⟩:=h fn1 .ret s1 T.q1 I (by rw [J.2,k.2]) x a4 H l;subst k2;simp only [zl4,Exit.then];exact k1
 | some ad =>
   have D:=zdo zkd n2 _ _ _ _ Z;refine wp_cond_false (B.val (A.size j)) (wp_skip ?_);simp only [Exit.then];exact wp_mono ((a n2).1 Y c2 s0 e2 s2 T.k2 Z _ _ _ hle A3) fun x a4 H l => (h fn2 e2 s2 T.q2 l2 (by rw [D.2,k.2]) x a4 H l).1
def zsJ (sz : Nat) (σ : zd) (xs : List (List Fz)) : Option (V × zd):=if ztX sz xs = true ∧ xs.length ≤ LIM ∧ 0 < xs.length ∧ Obs.lt σ.length σ = true then some (vsl xs,σ) else none
def zwo (sz : Nat) (σ : zd) (xs : List (List Fz)) : Option (V × zd):=if ztX sz xs = true ∧ xs.length ≤ LIM ∧ Obs.lt σ.length σ = true then some (vsl xs,σ) else none
def zkp (sz : Nat) : List V → zd → Option (V × zd)
 | [.one (.own id ver lo n)],σ => (elems σ (.one (.own id ver lo n))).bind (zsJ sz σ)
 | [.one (.f (.sl xs))],o :: σ => zwo sz (o :: σ) xs
 | aS,σ => zpq sz aS σ
def zJt (va : V) (xs : List (List Fz)) : Prop:=va = vsl xs ∨ (∃ id ver lo n,va = .one (.own id ver lo n)) ∧ 0 < xs.length
theorem zy2 {g : G} {w : World} {σ : zd} {va : V} {xs : List (List Fz)} {u : Value} (h : zJt va xs) (i : elems σ va = some xs) (m : zh g w σ va u) : ∃ ad n c,u = .slice ad n c ∧ (ad = none → xs = []):=by
 rcases h with rfl | ⟨⟨id,E,lo,n,rfl⟩,x⟩
 ·simp only [vsl,zh,zF,rep] at m
  obtain ⟨ad,c,sz,hu,_,_,j⟩:=m;refine ⟨ad,_,c,hu,fun e => ?_⟩;rcases j with h | ⟨b,o,h,_⟩
  ·exact h
  ·rw [e] at h; cases h
 ·simp only [zh,zF] at m
  obtain ⟨y,sz,len,t,hle,f,z,c0,A⟩:=m;simp only [elems,ya] at i;obtain ⟨H,D,d⟩:=i;unfold Ob.frz at d;split at d
  ·rename_i k p es
   split at d
   ·rename_i l
    subst l;have r : shapeOf σ id = some (k,p,es.length):=(by simp [shapeOf,D,Ob.shape]);rw [r] at t;simp only [Option.some.injEq,Prod.mk.injEq] at t;obtain ⟨rfl,rfl,rfl⟩:=t;obtain ⟨a,c,hu,B,q,s⟩:=f rfl;refine ⟨a,n,c,hu,fun e => ?_⟩
    have hlen : xs.length ≤ n:=by
     have:=(zfB d).1;rw [this];simp;omega
    have v : c ≠ 0:=(by omega);have hle : es.length ≠ 0:=fun h => v (q h);obtain ⟨_,C,_⟩:=s hle;have:=C v;rw [e] at this;cases this
   ·cases d
  ·cases d
theorem zsj (hD : DrawOk P CD) {f : Nat} {gf : Func} {sz : Nat} (hgf : P.funcs[f]? = some gf) (hname : (gf.name == "runtime.NumGoroutine") = false) (hc : zoN P CD [0, 2] gf zho (zga sz) = true)
  (va : V) (xs : List (List Fz)) (σ : zd) (hel : ∀ o,elems (σ ++ o) va = some xs) (hk : zJt va xs) (hok : ztX sz xs = true ∧ xs.length ≤ LIM ∧ Obs.lt σ.length σ = true) :
  Enters P f ∧ ∀ g w us,Rel g w σ → zO g w σ [va] us → Calls P f us.toArray w fun e w' => ∃ u g',e = .returned u ∧ zh g' w' σ (vsl xs) u ∧ Rel g' w' σ ∧ Ext g w σ g' w' σ:=by
 obtain ⟨hE,i0,i1,r0,o1,o2,ga,gb,t3,t4,ty,ty',ty'',T⟩:=zDv (fn1:=zho) (fn2:=zga sz) (c0:=zoA) (c1:=zqU) (c2:=zpM sz) hgf hname rfl rfl ⟨rfl,rfl,rfl⟩ hc
 refine ⟨hE,fun g w us R0 hv => ?_⟩
 have hel0:=hel []
 have hel1:=hel [.tok sz [0]]
 rw [List.append_nil] at hel0
 have hlt : ¬ σ.length + 1 ≤ σ.length:=by omega
 refine zzv (E:=xs = []) (va:=va) (n0:=1) (n2:=2) (e2:=.ret) (s0:=⟨[va,vsl []],σ,σ.length,σ.length⟩) (s2:=⟨[vun,.one (.ap σ.length 0 xs)],σ ++ [.tok sz [xs.length]],σ.length,σ.length⟩) hD hgf T ?_ rfl (fun g' w' u _ h => zy2 hk hel0 h) ?_ ?_ (fun hxs => ⟨2,⟨[vun,vsl []],σ,σ.length,σ.length⟩,?_,?_⟩) rfl R0 hv
 ·simp [z6,zoA,steps,step,zbx,R.get,R.put,zC4,enter,zga,vsl,vun]
 ·simp [z6,zpM,steps,step,zbx,R.get,R.put,zC4,vsl,vun,zpk,zxC,za6,zAN,R.alloc,hel1,hok.1,zFS,zoY,Ob.front,Ob.setFront,R.setOb,hok.2.1,zri,clr,St.mkSt]
 ·simp [leave,zga,outs,zuD,zBr,zFo,zg6,vsl,zk3,zl8,V.lts,V.lt,C.lt,hok.2.2,zFm,vun]
 ·simp [z6,zqU,steps,step,zbx,R.get,R.put,zC4,vsl,vun,zri,clr,St.mkSt]
 ·subst hxs
  simp [leave,zho,outs,zuD,zBr,zFo,zg6,vsl,zk3,zl8,V.lts,V.lt,C.lt,Obs.lt,zFm,vun]
theorem zBN {σ : zd} {id a lo n : Nat} {xs : List (List Fz)} (h : elems σ (.one (.own id a lo n)) = some xs) (o : zd) : elems (σ ++ o) (.one (.own id a lo n)) = some xs:=by
 simp only [elems,ya] at h ⊢;obtain ⟨c,b,d⟩:=h;exact ⟨c,by rw [List.getElem?_append_left (List.getElem?_eq_some_iff.1 b).1]; exact b,d⟩
theorem zrA (hD : DrawOk P CD) {f : Nat} {gf : Func} {sz : Nat} (hgf : P.funcs[f]? = some gf) (hname : (gf.name == "runtime.NumGoroutine") = false) (hc : zoN P CD [0, 2] gf zho (zga sz) = true)
  {id ver lo n : Nat} {σ σ' : zd} {v : V} (h : (elems σ (.one (.own id ver lo n))).bind (zsJ sz σ) = some (v,σ')) :
  Enters P f ∧ ∀ g w us,Rel g w σ → zO g w σ [.one (.own id ver lo n)] us → Calls P f us.toArray w fun e w' => ∃ u g',e = .returned u ∧ zh g' w' σ' v u ∧ Rel g' w' σ' ∧ Ext g w σ g' w' σ':=by
 rw [ya] at h
 obtain ⟨xs,h1,h2⟩:=h
 unfold zsJ at h2
 split at h2
 ·rename_i hok
  injection h2 with h2
  simp only [Prod.mk.injEq] at h2
  obtain ⟨rfl,rfl⟩:=h2
  exact zsj hD hgf hname hc _ xs σ (zBN h1) (.inr ⟨⟨_,_,_,_,rfl⟩,hok.2.2.1⟩) ⟨hok.1,hok.2.1,hok.2.2.2⟩
 ·cases h2
theorem zs3 (hD : DrawOk P CD) {f : Nat} {gf : Func} {sz : Nat} (hgf : P.funcs[f]? = some gf) (hname : (gf.name == "runtime.NumGoroutine") = false) (hc : zoN P CD [0, 2] gf zho (zga sz) = true)
  {xs : List (List Fz)} {σ σ' : zd} {v : V} (h : zwo sz σ xs = some (v,σ')) :
  Enters P f ∧ ∀ g w us,Rel g w σ → zO g w σ [.one (.f (.sl xs))] us → Calls P f us.toArray w fun e w' => ∃ u g',e = .returned u ∧ zh g' w' σ' v u ∧ Rel g' w' σ' ∧ Ext g w σ g' w' σ':=by
 unfold zwo at h
 split at h
 ·rename_i hok
  injection h with h
  simp only [Prod.mk.injEq] at h
  obtain ⟨rfl,rfl⟩:=h
  exact zsj hD hgf hname hc _ xs σ (fun _ => rfl) (.inl rfl) hok
 ·cases h
theorem zyI (hD : DrawOk P CD) {f : Nat} {gf : Func} {sz : Nat} (hgf : P.funcs[f]? = some gf) (hname : (gf.name == "runtime.NumGoroutine") = false) (hc : zoN P CD [0, 2] gf zho (zga sz) = true) (args : List V) (σ : zd) (v : V) (σ' : zd) (h : zkp sz args σ = some (v, σ')) :
  Enters P f ∧ ∀ g w us,Rel g w σ → zO g w σ args us → Calls P f us.toArray w fun e w' => ∃ u g',e = .returned u ∧ zh g' w' σ' v u ∧ Rel g' w' σ' ∧ Ext g w σ g' w' σ':=by
 unfold zkp at h
 split at h
 ·exact zrA hD hgf hname hc h
 ·exact zs3 hD hgf hname hc h
 ·exact zCW hD hgf hname hc _ _ _ _ h
end
end Go.A
namespace AC
open Go.A Go.A.Lex
def tab : List (List (Option Fun)):=[
 bare [none,none,none,none,none,none,none,some (17179878903,zV),none,none,none,none,none,none,none,none],
 bare [some (543,zK),none,none,none,none,none,some (33571891,zbw),none,none,none,none,none,none,none,some (11418155766219704907464733300850600260547966967,zq),none],
 bare [some (111,zk8),some (16621590550007,zdB),some (134218999,zT),some (137456255039,zaU),some (67110831,zit),none,none,none,none,none,none,none,none,none,none,none],
 bare [none,none,none,none,none,none,none,none,none,none,none,none,none,some (38685626227685725776904319,zce),none,none],
 bare [none,none,some (131635,zdC),none,none,none,some (89203150935305958141877267118393739786060287,zP),some (309485009969963856432235007,za7),some (79228540312824354700590614519,za8),some (19345174297145887541987327,zfh),some (5,zbb),some (262707,zdf),some (83079285037833274825762022487035903,ze7),some (9831967090518095288600575,zaQ),some (11150372645996141831579820250029257836789751,zff),some (1077941191,zbv)],
 bare [some (31,ztq),some (543,zfr),some (543,zgd),some (159,zgD),some (16447,zfp),some (274878432243,zaT),some (8392767,zB),some (75853011780627257630963,zf),none,none,none,none,none,none,some (135007,zfD),none],
 bare [none,none,some (68719972543,zhv),none,some (2417860862618887407011831,zjS),none,none,none,none,some (68719476743,ze2),none,none,none,none,some (141465551735,zav),none],
 bare [none,none,none,none,none,none,none,some (19,zc4),none,some (32909,zda),some (5,zdK),some (543,zfd),some (576601491972949967,zcI),some (5,zaD),some (17661043933199,zN),some (151060495,zH)],
 bare [some (2890685472579903,zcv),some (19886839177393615664282993661,zaV),some (31,zfN),some (536903965,zcY),some (537919539,zdg),some (16806963,zmG),some (5,zk5),some (1393796574909431596946210657470816853166047,zjO),some (19,zg4),some (19,zhD),some (39,zg7),some (2535455952480465913516826559475,zi),some (9232520257346732535,zm),some (8223,zJ),some (1050653,zc0),some (669,zfP)],
 bare [some (11,zih),none,some (7,zfF),some (252707005,zfQ),some (31,zjn),some (525,zfe),none,some (15407,zmm),some (5,zpN),some (19,zbJ),some (7,zkG),some (36028861980348247,zdq),none,none,none,some (309487371008879061366997373,zaG)],
 bare [some (1100015992887,zaH),some (5070603543725610699058311077759,zbF),some (7,zee),some (7,zej),none,none,none,none,none,some (66483,zbQ),some (659,zan),some (5404360887,zbs),some (633826509113847392481258242063,zaS),some (1152994072512692351,zfm),some (19,zar),some (7,ziB)],
 bare [none,some (16883,zh6),some (19,zca),some (11,ziF),some (2101171,ziD),none,some (3963069,zjI),some (1074250695,zaL),some (16806963,zcH),none,none,none,none,none,none,none],
 bare [some (5,zhG),some (66483,zbe),some (262645,zkt),some (19361999891509624300419063,zn1),some (71,zn3),some (29,zgn),some (5,zdG),some (19,zc3),some (7,zdH),some (19,zdp),some (15,zdJ),some (2097211,zau),some (359,zdL),some (5,ziP),some (4202527,zdy),some (1299341903921783656432219969421043,zc7)],
 bare [some (4196895,za0),some (262751,zD),some (2229791,zk),none,none,none,none,none,none,none,none,none,none,none,none,none],
 bare [some (659,zal),some (66483,zaR),none,some (66483,zbG),none,none,some (137506063859,zmd),some (8590985487,zn7),some (23,ztT),some (4231239,zlA),some (66483,zbZ),some (66483,zcG),some (4196415,zdk),some (5,zjy),some (143,zik),none],
 bare [none,none,none,none,none,none,none,some (1011,zzK),some (16794621,zhY),some (11,zom),some (8651699,zmp),some (2963,zeP),some (3213974174218952357560221179716737556379227408111879118128127,zn),some (5,zkj),some (5,zkX),none],
 bare [none,some (115,zut),some (16371,zt7),some (147,zlt),some (5,zn8),some (137506063859,zlQ)]]
def T (n : Nat) : Option Entry:=if n = 118 then some (.ext zja) else if n = 181 then some (.ext (zkp 1)) else if n = 145 then some (.ext (zkk 177)) else zzz tab n
end AC
namespace Go.A
section rules
variable {T : Nat → Option Entry} {s s1 s2 : St} {a b c : Code} {e : Ex} {r : Option (Ex × St)}
theorem zlR (h : exec T a s = some (.normal,s1)) (c : exec T b s1 = r) : exec T (.seq a b) s = r:=by
 rw [zdI,h];exact c
theorem zHF (h : exec T a s = some (e,s1)) (he : e ≠ .normal) : exec T (.seq a b) s = some (e,s1):=by
 rw [zdI,h];cases e
 case normal => exact absurd rfl he
 all_goals rfl
theorem zIB {x : X} (c : (R.mk [] s.env s.st s.base s.lim).get x = .one (.f (.lit (.bool true)))) (h : exec T a s = r) : exec T (.cond x a b) s = r:=by
 rw [zq0,c];exact h
theorem zIw {x : X} (c : (R.mk [] s.env s.st s.base s.lim).get x = .one (.f (.lit (.bool false)))) (h : exec T b s = r) : exec T (.cond x a b) s = r:=by
 rw [zq0,c];exact h
theorem zxX {id : Nat} (h : exec T a s = some (.normal,s1)) : exec T (.block id a) s = some (.normal,s1):=by
 rw [zsk,h];rfl
theorem zHX {live : List Bool} {a : Nat} (d : c = .loop live a b) (h : exec T b s = some (.normal,s1)) (e : s1.clear live a = some s2) (f : exec T c s2 = r) : exec T c s = r:=by
 subst d;rw [zqv,h];simp only [yf,zpZ,e];exact f
theorem zGm {live : List Bool} {a : Nat} (d : c = .loop live a b) (h : exec T b s = some (e,s1)) (he : e ≠ .normal) : exec T c s = some (e,s1):=by
 subst d;rw [zqv,h];cases e
 case normal => exact absurd rfl he
 all_goals rfl
end rules
end Go.A
namespace Go.A
def Code.p1 : Code → Code
 | .seq a _ => a
 | .cond _ a _ => a
 | .block _ a => a
 | c => c
def Code.p2 : Code → Code
 | .seq _ b => b
 | .cond _ _ b => b
 | c => c
end Go.A
attribute [go_sem] true_or or_true or_self false_or or_false Go.A.zng Go.A.zvN Go.A.zb8 Go.A.zoi List.all_cons List.all_nil List.headD_cons Int.natCast_nonneg Int.toNat_natCast Int.natCast_zero
