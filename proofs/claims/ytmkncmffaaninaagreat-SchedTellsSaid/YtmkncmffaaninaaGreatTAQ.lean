/- A part of the proof of SchedTells. Conditions: none. -/
import Derived.Test.YtmkncmffaaninaaGreatTAP
import Derived.Test.YtmkncmffaaninaaGreatTAO
set_option linter.all false
open Option renaming bind_eq_some_iff → ya
open Bool renaming and_eq_true → yb,not_eq_true' → yc
open List renaming getElem?_cons_zero → yd
open Nat renaming add_assoc → ye,add_comm → yf,le_refl → yg
namespace AC
open Go.A Go.A.Lex Go.A.Z
def zg3:Cd:=bX 8 7 6 (d5 8 0 (m 15 2) 1 1 (b (fq 4 5 7 (eI 4) (c9 3 (cA aS) 4 3)) (cC (b7 (fb 0) aE (fb 1) aE (eh 1 0 (eE 0 []) 0 b1 [(1,c)]) (bw 152) bB au (ee 2 3 aE 1 (fb 3) 2 (y aE 3) (dW (bS 1 aS [] (dN aS [] []) 0 b1 [(1,c)]) 4 (bw 194) 5 bB 6 9 7))) 9 2 M (m 15 4))) 7 7)
def zfR:Cd:=cn (m 15 226) zg3
def zg7:Cd:=bX 13 12 11 (d5 13 2 (m 15 2) 1 3 (b (fq 6 10 12 (eI 6) (c9 4 (d1 0) 6 4)) (cC (eU 0 4 (u 1 4) aE (b7 (u 2 4) aE (u 3 4) aE (eh 1 0 (eE 0 (eE 0 (eE 0 []))) 0 (.l 6) ((1,.l 4)::fu (2,b1) (3,c) [])) (bw 152) bB au (cm (bL 4 4) aE 1 (dW (bS 1 aS [] [] 0 c []) 2 (bw 194) 3 bB 4 14 5)))) 14 2 M (m 15 4))) 12 12)
def zfL:Cd:=cn (m 15 7170) zg7
def zdo:Fun:=⟨1,15,0,false,[(2,none)],fl 1 5 2 M (J (eP (dG 0) 5 aE 6 5 7 0 zfR) (eP (dG 1) 10 aE 11 10 12 2 zfL) (aJ (b7 d4 dw aE d4 d9 aE (eh 1 0 (eE 0 []) 0 eb [(1,c)]) (bw 152) (dK 2 1 (dx (a3 2) 1 aE 2 (bS 1 aS [] [] 0 c []) 3 (bw 194) 4 (eR 5 2)))) (m 15 4)))⟩
def zd8:Cd:=bX 16 15 14 (d5 16 2 (m 19 1829) 2 3 (b (fq 4 13 15 (eI 4) (c9 6 (cA aS) 4 6)) (b (bT 2 6 (b7 (u 1 2) aE (d 4) cz aE (en 184 5) bB au (ee 3 6 aE 1 ay 2 (y (u 2 6) 3) (dW aE 4 ay 5 (de 3) 6 17 7)))) (cW 17 1 5 (m 19 2)))) 15 15)
def zbM:Cd:=cE (m 19 59189) zd8
def zeh:Cd:=bX 11 10 9 (d5 11 0 (m 19 0) 1 1 (bp 10 (b4 5 8 10) (dS e0 5 (aS::eo 0 0) (b3 4 eb (aX 5 5 b1))) (J (bp 0 dM (eD (a3 6) (d 4) (d 4) (c4 (dD 196 2 aK c []) 12)) (cW 12 1 5 (m 19 2))) (eP (u 0 5) 13 aE 14 13 15 2 zbM) (b (K (u 2 5) dw aE (cU 1) (cO 2 5 (ea dw 1 aE 2 (cU 3) 3 4 (dK 2 5 (b9 d9 1 aE 2 (e9 c 0) 3 (eO 18 4) []))))) (cW 18 1 5 (m 19 2))))) 10 10)
def zbK:Cd:=cn (m 19 1797) zeh
def zaC:Fun:=⟨1,19,0,false,[(1,none)],bV (a0 1) (aH 0 (o dM dw (K (eI 3) (bw 98) au e3 (dS e2 2 em (cQ 2 2 b1 (j 3 b1))))) (.seq (b (dm 3 7 (e9 c 0)) (cW 7 1 5 (m 19 2))) (dt 0 0 (d3 2) (K (d3 2) (c5 195 c (i 0)) (.nil (.l 4)) (a3 4) (a (aF 2 c (.l 4)) (q (.nil (.l 6))) (fn (a3 6) (.l 5)))) (.seq (eX 0 (o dM dw (c3 (a3 2) 8 aE 9 8 10)) 0 zbK) (du (a0 1) (m 19 2))))))⟩
def zd5:Cd:=bX 9 8 7 (d5 9 0 (m 11 0) 1 1 (b (fq 5 6 8 e0 (ds 3 aS (eo 0 0) 5 3)) (b (fd 0 3 (eG 199 c (U 200 [] [])) 4) (aH 4 (cO 1 3 (dW aE 1 (eW 202 [] (.s 1) []) 2 (eG 201 aK c) 3 10 4)) (cW 10 2 6 (m 11 4))))) 8 8)
def zbJ:Cd:=cn (m 11 450) zd5
def zaw:Fun:=⟨1,11,0,false,[(2,none)],b (bb 1 (aI 1 0) 2) (J (bv (cR 1) (o dM dw (eD d9 (bw 197) bB (cf (bu (cR 1)) (ep dM 1 dw 2 (dW dw 3 aE 4 (eG 119 c (U 198 [] [])) 5 5 6))))) (cW 5 2 6 (m 11 4))) (al (q (cR 1)) (o dM dw (c3 (a3 2) 6 aE 7 6 8)) 0 zbJ) (du (a0 2) (m 11 4)))⟩
def zdp:Cd:=bX 15 14 13 (d5 15 0 (m 30 2) 2 1 (aH 14 (fq 1 12 14 aE (dR 3 b1 4)) (br (q (cR 1)) (aR 3 (v .add c 1) (c7 4 (bw 205) (dH dz 0 1 (i (-1)) 1 1 0 [(2,2,c)]) (ek 204 (.l 5) eb [c]) [])))) 14 14)
def zba:Cd:=cE (m 30 28674) zdp
def zdl:Cd:=bX 23 22 21 (d5 23 4 (m 30 458850) 3 5 (b (fq 4 20 22 (eI 4) (c9 7 (cA aS) 4 7)) (b (eU 1 7 (eF 1) au (ee 1 7 aE 1 (eg 1023) 2 (dn 3) (cf (bu (cR 1)) (ep (u 1 7) 1 aE 2 (dE (d 5) 3 (u 0 7) 4 aE 5 (bw 205) 6 (dW (dH dz 0 1 eb 1 1 (-1) [(2,2,c)]) 7 (ek 204 (.l 7) (.l 5) [c]) 8 bB 9 24 10)))))) (cW 24 2 7 (m 30 4)))) 22 22)
def za6:Cd:=dA (m 30 7798882) zdl
def zdh:Cd:=bX 28 27 26 (d5 28 6 (m 30 458754) 3 7 (bp 27 (b4 6 25 27) (dS (eI 6) 9 (d1 0) (b3 8 eb (aX 6 9 b1))) (cV 6 9 (K (bw 206) au e3 e2 (dR 10 aK 11)) (aH 10 (cM (eg 0) (ex (b0 (cR 1)) (u 3 9) 1 aE 2 (d 5) 3 (dx (d 8) 4 (d 10) 5 (d 11) 6 (cZ bt 0 1 aK 1 1 c []) 7 (b9 (cZ dz 0 1 (.l 4) 1 1 eb [(2,2,c)]) 8 (ek 204 (.l 8) (.l 6) [c]) 9 bB 10 (eO 29 11) [])))) (cW 29 2 7 (m 30 4))))) 27 27)
def za8:Cd:=dA (m 30 235339810) zdh
def zdk:Cd:=bX 19 18 17 (d5 19 2 (m 30 2) 2 3 (bp 18 (b4 5 16 18) (dS e0 6 (aS::eo 0 0) (b3 5 eb (aX 5 6 b1))) (.seq (eP (u 0 6) 20 aE 21 20 22 4 za6) (eP (u 1 6) 25 aE 26 25 27 6 za8))) 18 18)
def za9:Cd:=cE (m 30 458754) zdk
def zbr:Fun:=⟨1,30,2,false,[(2,none)],b (bb 1 (aI 1 0) 2) (bv (cR 1) (o .mkm (.nil aK) (fn (a3 7) b1)) (J (al (q (cR 1)) (o dM dw (c3 dw 12 aE 13 12 14)) 0 zba) (al (q (cR 1)) (o dM dw (c3 (a3 2) 16 aE 17 16 18)) 2 za9) (aJ (fs (cR 1) (eW 208 [] (.s 1) []) (eG 207 aK c) 2) (m 30 4))))⟩
def zee:Fun:=⟨1,3,0,false,[(2,none)],b (bb 1 (aI 1 0) 2) (aJ (fs (cR 1) (eW 209 [] (.s 1) []) (eG 207 aK c) 2) (m 3 4))⟩
def zd7:Fun:=⟨1,3,0,false,[(2,none)],b (bb 1 (aI 1 0) 2) (aJ (fs (cR 1) (eW 210 [] (.s 1) []) (eG 207 aK c) 2) (m 3 4))⟩
def zdJ:Cd:=bX 6 5 4 (d5 6 0 (m 8 0) 0 1 (b (b8 5 3) (cB (eH 1 0 3 cz (aG aE 7 (z .op (.l 4) c []))) 7 (ce 3 2 (m 8 4)))) 5 5)
def zbv:Cd:=cJ (m 8 51) zdJ
def zb3:Fun:=⟨2,8,0,false,[(2,none)],dJ 2 (eX 0 (bb 4 ay 5) 0 zbv) (dL 2 (-1) (m 8 4))⟩
def zad:Fun:=⟨2,5,0,false,[(2,none)],eK 2 (J (e1 0 (dQ 125 3) 3 2 M (m 5 4)) (cC (dm 1 4 (cU 1)) 4 2 ar (m 5 4)) (c6 1 (cM (cU 2) (da 1 (cU 4) 1 (cN 2 (da 1 (cU 8) 1 (cN 2 (da 1 (cU 16) 1 (cN 2 (dT 0 (eg 1) 1 (eC 2 (ex (b6 0) fa 1 (dd .mul 1) 2 (ed c 128) 3 (eR 4 2))))))))))) (m 5 4)))⟩
def zbi:Fun:=⟨1,10,0,false,[(2,none)],bZ (bb 1 (aI 6 0) 2) (ck (aG (dG 0) 3 aE) 0 (bm 3 0 4 (p 4 (du (a0 2) (m 10 4)) (.seq (ct 3 1 5 5 3 2 5 5 (ct 3 3 5 5 3 4 5 5 (ct 3 5 5 5 3 6 5 5 (ct 3 7 5 5 3 8 5 5 (ct 3 9 5 5 3 10 5 5 (ct 3 11 5 5 3 12 5 5 (dk 3 17 5))))))) (p 5 (dL 2 2 (m 10 4)) (.seq (ct 3 13 6 6 3 18 6 6 (dk 3 19 6)) (p 6 (dL 2 3 (m 10 4)) (ev 3 14 7 7 (ct 3 15 7 7 3 16 7 7 (dk 3 22 7)) (e4 7 (dL 2 1 (m 10 4)) 3 20 8 (e4 8 (dL 2 4 (m 10 4)) 3 21 9 (aQ 9 (q d4) (dy 2) (m 10 4)))))))))))) (dL 2 (-1) (m 10 4))⟩
def zaL:Fun:=⟨1,12,0,false,[(2,none)],fl 1 6 2 M (es (dG 0) (dy 3) (bp 3 (cU 4) (dv 3 (ep (eL c 10) 1 au 2 (aP (b6 3) (e7 (ed c 12)) (eA 2) 5 (dn 6) (dv 3 (a (y (cU 14) 1) (dn 2) (dv 3 (a (y (cU 15) 1) (dn 2) (dv 3 (ep (eL c 18) 1 au 2 (aP (b6 3) (e7 (ed c 20)) (eA 2) 5 (bO 4 6) [])))))))))) (ah 4 (cr 2 1 (aG aE 5 (e9 c 1)) (bl 5 2 M (m 12 4))))) (J (bp 3 (eL c 16) (d2 3 (a (e7 (ed c 19)) (eB 2) (dK 1 1 (fe aE (eF 8) 2 (eC 3 (aU (bN 3) (eL c 21) 1 au 2 (cj 2 1) (aP (e7 aE) (ab (eF 2) 2) (eA 3) 6 (bO 6 7) []))))))) (bl 6 2 M (m 12 4))) (eS 7 3 [] 0 (bm 7 0 8 (e4 8 (ey (dG 5) (o aE (dG 1) (K aE (en 224 2) (dG 5) aE (dC .eql 2 2))) (m 12 4)) 7 14 9 (e4 9 (ey (dG 5) (o aE (dG 1) (K aE dI (dX 3) au (ex (cj 5 1) aE 1 fg 2 (bw 125) 3 (eR 4 2)))) (m 12 4)) 7 15 10 (e4 10 (aJ (bT 5 1 (eD (dG 1) dI (dd .gtr 3) (dK 5 1 (fe aE (fh .leq 64) 2 (eC 3 (ex (cj 5 1) aE 1 fg 2 (bw 125) 3 (eR 4 2))))))) (m 12 4)) 7 22 11 (aQ 11 (q (dG 5)) (K aE d4 aE dI (dC .lss 3 2)) (m 12 4))))))) (aJ (fd 5 1 (fw 0) 2) (m 12 4))))⟩
def zew:Cd:=fc (c2 5 0 2 8 3 8 0 (m 12 12) 2) (cC (bT 0 2 (c7 5 cz aE (fb 0) (dj 5 1 1 c aE (c4 (en 22 5) 9)))) 9 4 M (m 12 16)) 5 5
def zcX:Cd:=cE (m 12 44) zew
def zex:Cd:=cL (c2 6 1 2 10 3 10 2 (m 12 0) 2) 3 (cC (bT 1 2 (c7 6 cz aE (fb 1) (dj 6 1 1 c aE (c4 (en 22 5) 11)))) 11 4 M (m 12 16)) 6 6
def zcm:Cd:=cE (m 12 76) zex
def zfw:Fun:=⟨2,12,0,false,[(4,none)],aY (ft 2 2 0) (cb 3 2 1 4 M) (cC (b7 (u 0 2) aE ay (fb 0) aE ay (de 3) au (ee 1 2 aE 1 ay 2 (y (fb 1) 3) (dW aE 4 ay 5 (de 3) 6 7 7))) 7 4 M (m 12 16)) (J (eV 5 zcX) (bY 6 2 zcm) (dZ 4 ar (m 12 16)))⟩
def zhH:Cd:=bX 6 5 4 (d5 6 0 (m 8 0) 0 1 (fv 1 3 5 2 (cs 0 2 (c4 (z .op aK c []) 7) (ah 7 (.ret (m 8 0))))) 5 5)
def zhL:Cd:=cJ (m 8 57) zhH
def zh5:Fun:=⟨2,8,0,false,[],eq 3 (cR 1) (b5 4 3 5) 0 zhL⟩
def zca:Fun:=⟨2,3,0,false,[(2,none)],eM 2 0 (aR 1 (eG 227 aK c) (ag .geq c 0 2)) (m 3 4)⟩
def ziL:Fun:=⟨2,3,0,false,[(2,none)],eM 2 0 (fs (cR 1) (ew 180) bB 2) (m 3 4)⟩
def zhQ:Cd:=bX 8 7 6 (d5 8 0 (m 10 0) 0 1 (es (b4 1 5 7) (dy 4) (cC (dc 4 3 (dd .leq 1) au (aU (bN 4) fa 1 (e8 1) 2 (bO 9 3) [])) 9 2 M (m 10 4)) (.reg (b8 4 3))) 7 7)
def zgf:Cd:=cJ (m 10 234) zhQ
def ziI:Fun:=⟨2,10,0,false,[(2,none)],eK 2 (cY (aq 3 (-1)) (eS 5 0 (b5 6 5 7) 0 zgf) (dZ 2 ar (m 10 4)))⟩
def ziJ:Cd:=bX 13 12 11 (d5 13 2 (m 14 452) 2 3 (fv 1 10 12 5 (ci 2 (eH 5 2 5 cz (bh aE 3 (eh 1 0 [] 0 c []) (.app 1 b1 c) (fn (Z 1 8 (.l 7)) aK))))) 12 12)
def zgO:Cd:=cE (m 14 7628) ziJ
def ziK:Cd:=bX 9 8 7 (d5 9 0 (m 14 4) 2 1 (aH 8 (fq 1 6 8 aE (dR 3 b1 4)) (eS 10 4 (b5 11 10 12) 2 zgO)) 8 8)
def zgJ:Cd:=cE (m 14 452) ziK
def zjY:Fun:=⟨1,14,0,false,[(1,none)],cv 1 dV (bp 0 ay (af (fp aS [] (some (0,1)) c) 2) (.seq (eS 6 0 (b5 7 6 8) 0 zgJ) (ce 2 1 (m 14 2))))⟩
def zdn:Cd:=bX 11 10 9 (d5 11 0 (m 13 0) 0 1 (aH 10 (fq 1 8 10 aE (dR 4 b1 5)) (dt 1 4 cz (dy 6) (dt 2 5 (d 6) (c4 (z .op b1 aK [c]) 12) (bl 12 3 M (m 13 8))))) 10 10)
def zbc:Cd:=cJ (m 13 1798) zdn
def zaK:Fun:=⟨3,13,0,false,[(3,none)],eK 3 (J (e1 0 (o ay fa (e5 ay 7 2 c)) 7 3 M (m 13 8)) (eS 8 0 (b5 9 8 10) 0 zbc) (dZ 3 ar (m 13 8)))⟩
def zf3:Cd:=bX 7 6 5 (d5 7 0 (m 9 0) 0 1 (b (b8 6 3) (dt 0 3 cz (bh aE 1 (d 3) cz (e5 aE 8 4 c)) (bl 8 2 M (m 9 4)))) 6 6)
def zdD:Cd:=cJ (m 9 99) zf3
def zcU:Fun:=⟨2,9,0,false,[(2,none)],eK 2 (J (e1 0 (o ay fa (e5 ay 4 2 c)) 4 2 M (m 9 4)) (eX 0 (bb 5 ay 6) 0 zdD) (dZ 2 ar (m 9 4)))⟩
def zhO:Fun:=⟨1,2,0,false,[(1,none)],fo 1 0 (cM (eF 0) (da 0 (eg 2147483647) 1 (af (bz 2) 1)))⟩
def zcY:Cd:=bX 6 5 4 (d5 6 0 (m 8 0) 0 1 (b (b8 5 3) (cB (eH 1 0 3 ec (aG e0 7 (z .op (.l 4) c []))) 7 (ce 3 2 (m 8 4)))) 5 5)
def zaT:Cd:=cJ (m 8 51) zcY
def zbe:Fun:=⟨2,8,0,false,[(2,none)],dJ 2 (eX 0 (bb 4 ay 5) 0 zaT) (dL 2 (-1) (m 8 4))⟩
def zjn:Cd:=bX 6 5 4 (d5 6 0 (m 8 0) 0 1 (fv 1 3 5 2 (cC (c7 2 ay (eg 64) au (aU (bN 2) (bw 152) 1 bB 2 (bO 7 3) [])) 7 1 M (m 8 2))) 5 5)
def zhq:Cd:=cJ (m 8 56) zjn
def zkR:Fun:=⟨1,8,0,false,[(1,none)],cY (j 1 M) (eS 3 0 (b5 4 3 5) 0 zhq) (dZ 1 ar (m 8 2))⟩
def zmi:Cd:=bX 17 16 15 (d5 17 0 (m 29 214) 3 1 (aH 16 (fq 1 14 16 aE (dR 8 b1 9)) (dU 7 9 (d 8) (fn (Z 1 2 aK) aK))) 16 16)
def zjE:Cd:=dA (m 29 114902) zmi
def zmz:Cd:=bX 25 24 23 (d5 25 4 (m 29 1838294) 3 5 (al (q (b4 1 22 24)) (dy 12) 6 (b (b2 (d 6) 12 1 1 c aE (ag .eql c (-2) 26)) (ai 26 (aH 11 (ag .eql c (-2) 27) (p 27 (.reg (b8 12 11)) (.reg (eH 6 7 11 (d 12) (af (dD 231 3 b1 aK [c]) 11)))))))) 24 24)
def zjC:Cd:=dA (m 29 31198422) zmz
def zmb:Cd:=bX 21 20 19 (d5 21 2 (m 29 66) 3 3 (fv 1 18 20 10 (cY (aq 11 (-2)) (al (q (u 1 2)) (o aE (d 10) (c3 cz 22 aE 23 22 24)) 4 zjC) (cB (b2 (d 6) 10 1 1 c aE (e5 (d 11) 28 1 c)) 28 (dt 6 10 (d 11) (fn (Z 1 2 aK) aK) (.goto 0 (m 29 214) 3))))) 20 20)
def zjo:Cd:=dA (m 29 1835222) zmb
def zal:Cd:=bZ (fs (d3 2) fa (ew 100) 4) (e1 4 (aG ay 13 (cU 0)) 13 3 dV (m 29 8)) (b (fd 0 2 ay 5) (J (.regd [] (q (eh 1 0 [] 0 (i (-2)) [])::c7 5 (cG .ck 230 [] [] aK c []) (d 5) (fp (H 0) [] none c) (dR 6 b1 7))) (eS 14 4 (b5 15 14 16) 0 zjE) (dt 6 1 fa (fn (Z 1 2 aK) aK) (J (.label 0) (eP (d 4) 18 (.slc 1 c (some (i 1)) none none) 19 18 20 2 zjo) (cs 6 1 (fn cz (i (-1))) (ce 6 3 (m 29 8)))))))
def zms : Go.A.Code:=(findLabel zal 0).getD .skip
theorem zry : findLabel zal 0 = some zms:=rfl
def zob:Fun:=⟨2,29,0,false,[(3,none)],fl 2 2 3 dV (.scope zal)⟩
def znW:Fun:=⟨3,4,0,false,[(3,none)],eK 3 (eJ 0 fa (c7 2 (eh 1 0 (eE 0 []) 0 aK [(1,c)]) (en 232 3) au (dT 0 fa 1 (dx (d 2) 2 (dD 233 2 aK c []) 3 fa 4 (el 1) 5 (eR 6 3)))) (m 4 8))⟩
def zgx:Fun:=⟨1,4,0,false,[(1,none)],cY (j 1 M) (eS 2 0 [] 0 (.seq (ct 2 1 3 3 2 8 3 3 (ct 2 16 3 3 2 32 3 3 (dk 2 64 3))) (bl 3 1 ar (m 4 2)))) (dZ 1 M (m 4 2))⟩
def zdE:Fun:=⟨1,2,0,false,[(1,none)],eK 1 (eJ 0 (bw 197) (af bB 1) (m 2 2))⟩
def zc3:Fun:=⟨2,3,0,false,[(2,none)],eM 2 0 (aR 1 (eG 234 aK c) (ag .geq c 0 2)) (m 3 4)⟩
def zdz:Fun:=⟨1,3,0,false,[(2,none)],fl 1 4 2 M (ey (dG 0) (fs aE (bw 197) bB 2) (m 3 4))⟩
def zdt:Fun:=⟨2,3,0,false,[(2,none)],eM 2 0 (aR 1 (eG 235 aK c) (ag .geq c 0 2)) (m 3 4)⟩
def zdI:Fun:=⟨2,4,0,false,[(3,none)],fl 2 6 3 M (ey (cR 1) (fs (aW 6 2) (eG 203 aK c) bB 3) (m 4 8))⟩
def zan:Fun:=⟨2,6,0,false,[(3,none)],bZ (cb 2 6 1 3 M) (eY (bp 0 dM (eD (a3 3) (eF 2) au (ex (cj 2 2) aE 1 (eg 1) 2 au 3 (ee 0 2 aE 1 (eg 20) 2 (ab (bz 3) 7) (eR 8 4)))) (p 4 (dZ 3 M (m 6 8)) (e1 0 (K dM (a3 3) aE (eF 1) (dK 0 2 (fe aE (eg 17) 2 (eR 3 5)))) 5 3 M (m 6 8))))) (ey (aW 6 2) (af (bw 236) 3) (m 6 8))⟩
def zdP:Fun:=⟨3,6,0,false,[(4,none)],c0 3 4 2 4 M (bp 0 dM (b7 (a3 7) aE fa (.lk (.agg dz) true aK c) au e3 e2 (bj dz) (aL (aF 4 c b1) (j 5 b1))) (aH 0 (K dM (a3 7) aE fa (h (aW 4 3) (e (.mu b1 aK c)) [])) (c6 5 (af bB 4) (m 6 16))))⟩
def ziN:Fun:=⟨1,2,0,false,[(1,some (some 2))],bW 1 (bj bt) (c6 0 (h (dH bt 0 1 c 1 1 1 []) (aX 2 1 c) []) (m 2 2))⟩
def zdu:Fun:=⟨1,7,0,false,[(2,none),(3,none)],aY (ft 1 6 0) (aL (a0 2) (a0 3)) (eY (cV 6 1 (o (bw 236) bB (cO 0 1 (ep aE 1 (bw 237) 2 (af (bz 3) 4)))) (p 4 (d8 (aL (a0 2) (a0 3))) (cr 0 1 (o aE (eL c 10) (dK 0 1 (fe aE (ed c 12) 2 (eR 3 5)))) (p 5 (d8 (aL (aq 2 1) (aq 3 1))) (cB (bT 0 1 (ag .eql c 22 6)) 6 (d8 (bT 1 1 (b3 2 c (aq 3 1)))))))))) (d8 (eD (dG 1) d4 aE (dR 2 b1 3)))⟩
def zeJ:Cd:=bX 25 24 23 (d5 25 4 (m 38 1949755) 2 5 (aH 24 (fq 1 22 24 aE (dR 7 b1 8)) (cs 1 8 (eU 0 6 (bw 205) (u 2 6) (dj 7 1 1 c aE (af (z .op (.l 9) (.l 8) [.l 5,c,i 1048576]) 3))) (dY 3 26 (e9 c 0) 26 (.goto 0 (m 38 8) 0)))) 24 24)
def zcD:Cd:=cE (m 38 31309947) zeJ
def zev:Cd:=bX 21 20 19 (d5 21 2 (m 38 114747) 1 3 (b (fq 4 18 20 (eI 4) (c9 6 (cA aS) 4 6)) (eP (u 3 6) 22 aE 23 22 24 4 zcD)) 20 20)
def zcT:Cd:=cn (m 38 1949755) zev
def ze3:Cd:=bX 34 33 32 (d5 34 8 (m 38 939638843) 2 9 (bp 33 (b4 2 31 33) (dS (eI 2) 12 bt (b3 11 eb (aX 2 12 b1))) (aH 1 (b7 (u 4 10) aE (d 11) cz aE (d3 12) (d 4) (d 9) (af (z .op (.l 8) eb [b1,aK,c]) 3)) (dY 3 35 (e9 c 0) 35 (.goto 0 (m 38 8) 0)))) 33 33)
def zcK:Cd:=cE (m 38 15972025915) ze3
def ze6:Cd:=bX 30 29 28 (d5 30 6 (m 38 114747) 1 7 (bp 29 (b4 6 27 29) (dS (eI 6) 10 (d1 0) (b3 9 eb (aX 6 10 b1))) (eP (aW 6 10) 31 (bw 238) 32 31 33 8 zcK)) 29 29)
def zcE:Cd:=cn (m 38 939638843) ze6
def zeF:Cd:=bX 17 16 15 (d5 17 0 (m 38 8) 0 1 (bp 16 (b4 5 14 16) (dS e0 5 (aS::eo 0 0) (b3 4 eb (aX 5 5 b1))) (J (eP (u 0 5) 18 aE 19 18 20 2 zcT) (eP (u 1 5) 27 aE 28 27 29 6 zcE) (bZ (o .mkm (d 0) (K dM dw d9 aE (a (e (.mu (.l 5) (i 0) c)) (e (.mu (.l 6) (i 2) (i 1))) (K (.mv (.l 7)) (u 2 5) dw aE (af (.lk (.one (H 0)) false eb c) 13))))) (dY 13 36 (cU 0) 36 (.exit 1 (m 38 114699) 0)) (aH 1 (bM 2 5 d9 (bh aE 13 (bw 205) (d 4) (af (z .op (.l 6) eb [aK,c,i 1048576]) 3))) (dY 3 37 (e9 c 0) 37 (.goto 0 (m 38 8) 0)))))) 16 16)
def zcS:Cd:=cJ (m 38 114699) zeF
def zeg:Cd:=bV (a0 3) (J (eX 0 (o dM dw (c3 (a3 2) 14 aE 15 14 16)) 0 zcS) (.label 0) (ce 3 2 (m 38 4)))
def zc5:Fun:=⟨2,38,0,false,[(2,none)],bV (a0 2) (.scope zeg)⟩
def zaS:Fun:=⟨5,8,0,false,[(5,none)],bZ (ae (aI 2 1) 5 (i 0)) (b (o (cR 4) dM (b7 (a3 7) aE (d 0) (.lk (.agg dz) true aK c) au e3 e2 (bj dz) (aL (aF 4 c b1) (j 6 b1)))) (b (c4 (d 6) 7) (cW 7 5 7 (m 8 32)))) (du (a0 5) (m 8 32))⟩
def zy:Fun:=⟨5,8,0,false,[(6,none)],bZ (bb 5 (aI 2 1) 6) (bv (cR 4) (o dM (a3 7) (bh aE 0 (.lk (.agg dz) false aK c) (.fld 2 (some 2) c) (aG (d3 5) 7 (.eqa 2 true aK c)))) (cW 7 6 6 (m 8 64))) (du (a0 6) (m 8 64))⟩
def zh:Fun:=⟨5,9,0,false,[(5,none)],b (ae (aI 2 1) 5 (i 0)) (bZ (o (cR 4) dM (eD (a3 7) (d 0) (.lk (.agg dz) false aK c) (c9 6 dz 4 6))) (eY (b (bT 0 6 (ag .lss c 0 7)) (p 7 (du (a0 5) (m 9 32)) (.seq (cr 0 6 (bh aE 2 (el 1) au (ex (cj 1 6) aE 1 (d 3) 2 (dX 1) 3 (eR 4 8))) (ai 8 (br (q (u 0 6)) (bh aE 2 (de 1) au (ex (b0 (cR 4)) dM 1 (a3 6) 2 aE 3 (dx (u 0 6) 4 aE 5 (d 2) 6 (dD 196 3 aK c []) 7 (eR 8 8))))))) (bi 8 (a0 5) (m 9 32)))))) (dL 5 7 (m 9 32)))⟩
def zaf:Fun:=⟨2,5,0,false,[(2,none)],cv 2 (bU 0) (J (e1 1 (dQ 125 3) 3 2 (bU 0) (m 5 4)) (dY 1 4 (cU 64) 4 (ce 0 2 (m 5 4))) (aJ (dc 0 1 dI (.bin .shl (bU 1) c) (dC .rem 3 2)) (m 5 4)))⟩
def zdj:Cd:=bX 6 5 4 (d5 6 0 (m 8 0) 0 1 (b (b8 5 3) (cB (eH 1 0 3 cz (aG aE 7 (z .op (.l 4) c []))) 7 (ce 3 2 (m 8 4)))) 5 5)
def zbd:Cd:=cJ (m 8 51) zdj
def zbs:Fun:=⟨2,8,0,false,[(2,none)],dJ 2 (eX 0 (bb 4 ay 5) 0 zbd) (dL 2 (-1) (m 8 4))⟩
def zlJ:Cd:=c8 (dB 6 5 9 2 9 0 (m 10 32) 1) 1 (.reg (eH 6 5 6 (.slc 1 aK (some c) none none) (dc 5 6 (.slc 1 aK none (some c) none) (.cpy 1 eb c) (fk 7 6))))
def zlO:Cd:=cn (m 10 96) zlJ
def zmo:Fun:=⟨2,10,1,true,[(2,none)],cY (j 2 dV) (dY 1 7 (eF 0) 7 (.reg (h (.no "") (e (.no "")) []))) (aH 0 (b7 ay dI fa dI (en 247 2) au e3 e2 (dR 3 aK 4)) (.seq (bp 3 (fh .gtr 0) (dv 4 (aL (y (fh .gtr 9223372036854775807) 1) (bO 8 2))) (ah 8 (.reg (h (.no "") (e (.no "")) [])))) (bp 4 fg (af (fp (H 0) [] none c) 5) (cs 5 0 (af (.cpy 1 aK c) 6) (.seq (eY zlO) (ce 5 2 (m 10 4)))))))⟩
def zqH:Cd:=c8 (bs 1 (aR 2 cz (bh aE 1 (d 3) cz (a1 aE 6 .gtr 4 c))) 6 2 (m 8 15) 0) 3 (dU 0 2 cz (dy 2))
def zmw:Cd:=cJ (m 8 15) zqH
def zpM:Cd:=c8 (bs 1 (aR 3 cz (bh aE 1 (d 2) cz (a1 aE 7 .gtr 4 c))) 7 4 (m 8 15) 0) 5 (dU 0 3 cz (dy 3))
def zmu:Cd:=cJ (m 8 15) zpM
def zqu:Cd:=c8 (bs 2 (e5 (d 3) 5 1 c) 5 0 (m 8 4) 0) 1 (c8 (.block 2 zmw) 4 zmu)
def zmg:Cd:=cJ (m 8 15) zqu
def zoz:Fun:=⟨4,8,0,false,[(4,none)],dJ 4 (eY zmg) (ce 2 4 (m 8 16))⟩
def ztO:Fun:=⟨2,4,0,false,[(3,none)],fl 2 1 3 M (ey (cR 2) (cM (bw 248) (ex (b6 1) (eW 249 [] (.s 2) []) 1 (eG 119 aK c) 2 bB 3 (eR 4 3))) (m 4 8))⟩
def zmj:Cd:=c8 (bs 1 (e5 (d 2) 5 1 c) 5 0 (m 7 2) 0) 1 (aH 0 (c7 1 (ew 250) (d 0) (d 2) (a1 (ew 250) 6 .geq 3 c)) (p 6 (dU 0 1 cz (dy 1)) (dU 0 2 cz (dy 2))))
def zjh:Cd:=cJ (m 7 7) zmj
def zlu:Fun:=⟨3,7,0,false,[(3,none)],bV (a0 3) (ad (b (eH 0 1 2 (eh 1 0 (eE 0 []) 0 aK [(1,c)]) (c4 (en 232 3) 4)) (cW 4 3 (-2) (m 7 8))) 0 zjh (ce 1 3 (m 7 8)))⟩
def zdM:Cd:=bX 6 5 4 (d5 6 0 (m 8 0) 0 1 (b (b8 5 3) (cB (eH 1 0 3 (cy 4) (aG (eI 4) 7 (z .op (.l 4) c []))) 7 (ce 3 2 (m 8 4)))) 5 5)
def zbo:Cd:=cJ (m 8 51) zdM
def zb1:Fun:=⟨2,8,0,false,[(2,none)],dJ 2 (eX 0 (bb 4 ay 5) 0 zbo) (dL 2 (-1) (m 8 4))⟩
def zeb:Cd:=bX 6 5 4 (d5 6 0 (m 8 0) 0 1 (b (b8 5 3) (cB (eH 1 0 3 (cy 6) (aG (eI 6) 7 (z .op (.l 4) c []))) 7 (ce 3 2 (m 8 4)))) 5 5)
def zb7:Cd:=cJ (m 8 51) zeb
def zcN:Fun:=⟨2,8,0,false,[(2,none)],dJ 2 (eX 0 (bb 4 ay 5) 0 zb7) (dL 2 (-1) (m 8 4))⟩
def zds:Fun:=⟨1,8,0,false,[(2,none)],bZ (cb 1 6 0 2 M) (cC (eD (dG 1) d4 aE (c4 (en 251 2) 6)) 6 2 M (m 8 4)) (cV 6 1 (K (bw 252) au e3 e2 (dR 3 aK 4)) (bZ (fd 3 1 (bw 253) 5) (cr 0 1 (aG aE 7 (bw 237)) (ah 7 (.reg (bT 3 1 (ag .eql c 0 5))))) (c6 4 (d2 5 (eC 1 (dT 3 ay 1 (dx (dG 4) 2 aE 3 ay 4 (el 3) 5 (eC 6 (ex (cj 4 1) aE 1 (eG 119 c (U 254 [] [])) 2 bB 3 (eR 4 2))))))) (m 8 4))))⟩
def zjT:Fun:=⟨1,2,0,false,[(1,none)],fo 1 0 (cM (cU 17) (da 0 (cU 19) 1 (af (bz 2) 1)))⟩
def ziw:Fun:=⟨1,5,0,false,[(2,none)],bZ (cb 1 6 0 2 dV) (cV 6 1 (dQ 236 4) (bl 4 2 dV (m 5 4))) (cV 6 1 (K (bw 252) au e3 e2 (b3 3 aK (q (.mv aK)))) (ce 3 2 (m 5 4)))⟩
def zyN:Fun:=⟨2,8,0,false,[(2,none),(3,none)],bZ (cH 2 (bU 0) 3 (bU 0)) (.cond M (b (b7 (d 0) (cp .u32) fa (cp .u32) (en 257 2) au e3 e2 (dR 4 aK 5)) (aJ (c7 4 dI (d 5) dI (dR 2 b1 3)) (m 8 12))) .skip) (cs 0 1 (K (ew 258) au e3 e2 (dR 6 aK 7)) (eJ 6 (d 7) (dR 2 aK 3) (m 8 12)))⟩
def zkp:Cd:=bX 8 7 6 (d5 8 0 (m 11 4) 0 1 (aH 7 (fq 1 5 7 aE (dR 3 b1 4)) (.seq (dY 4 9 (cU (-1)) 9 (ci 2 (aZ c 1 2))) (bp 4 (e9 c (-2)) (d2 0 (b9 (d 3) 1 (ew 250) 2 (eF 0) 3 (eO 10 4) [])) (bl 10 1 M (m 11 2))))) 7 7)
def zih:Cd:=cJ (m 11 229) zkp
def zhP:Fun:=⟨1,11,0,false,[(1,none)],eK 1 (dJ 2 (eS 5 0 (b5 6 5 7) 0 zih) (c6 2 (ag .eql c 1 1) (m 11 2)))⟩
def znU:Fun:=⟨2,3,0,false,[(2,none)],eK 2 (ey (cR 1) (aR 0 (ew 250) (ag .lss c 0 2)) (m 3 4))⟩
def zki:Cd:=bX 6 5 4 (d5 6 0 (m 9 0) 0 1 (b (b8 5 3) (J (bp 1 (eF 0) (dv 1 (dW (d 0) 1 ay 2 (e8 2) 3 7 4)) (cW 7 2 (-1) (m 9 4))) (dt 0 1 cz (aG aE 8 (cU (-1))) (ah 8 (ce 3 2 (m 9 4)))) (dU 0 1 cz (dy 1)))) 5 5)
def zid:Cd:=cJ (m 9 51) zki
def zmD:Fun:=⟨2,9,0,false,[(2,none)],dJ 2 (eX 0 (bb 4 ay 5) 0 zid) (dL 2 (-1) (m 9 4))⟩
def zeX:Fun:=⟨2,7,0,false,[(2,none)],eK 2 (J (e1 0 (dQ 197 3) 3 2 M (m 7 4)) (eS 4 1 [] 0 (bm 4 1 5 (p 5 (dZ 2 ar (m 7 4)) (ev 4 2 6 6 (ct 4 4 6 6 4 8 6 6 (dk 4 16 6)) (aQ 6 (ak 0) (cM (eL c 8) (ex (b6 0) fa 1 (dd .mul 1) 2 (ed c 128) 3 (eR 4 2))) (m 7 4)))))) (dZ 2 M (m 7 4)))⟩
def zk:Fun:=⟨1,23,0,false,[(2,none),(3,none)],aY (ft 1 6 0) (cH 2 dV 3 M) (.regd [(6,15)] (bT 1 1 (b7 d4 aE (cZ bt 0 1 b1 1 1 c []) (dG 1) aE (dH bt 0 1 c 1 1 1 []) (dH bt 0 1 (i 1) 1 1 1 []) (dH bt 0 1 (i 64) 1 1 1 []) (ac (w 4 (bj bt)) (w 5 (bj bt)) (w 6 (bj bt)) (w 7 (bj bt)) (ac (aX 2 4 (.l 9)) (aX 2 5 (.l 7)) (aX 2 6 (.l 7)) (aX 2 7 (.l 7)) []))))) (bZ (bT 2 1 (K (cU 1) (dG 1) aE (eL c 8) (dR 8 eb 9))) (ck (aG (dG 0) 10 aE) 0 (bm 10 0 11 (p 11 (dP (b7 (dG 5) aE (dG 1) aE (en 259 2) (dG 5) aE (el 2) (dR 2 dV 3))) (ev 10 1 12 12 (ct 10 2 12 12 10 3 12 12 (ct 10 5 12 12 10 6 12 12 (ct 10 7 12 12 10 8 12 12 (dk 10 9 12)))) (p 12 (ey (d3 4) (o (d3 4) (bH 2 bt [bt] 0 aK [(1,c)]) (K fi (dG 5) aE (fw 0) (dR 2 eb 3))) (m 23 12)) (ev 10 4 13 13 (ct 10 10 13 13 10 11 13 13 (dk 10 12 13)) (e4 13 (dP (b7 (d3 4) (d3 4) (bH 2 bt [bt] 0 aK [(1,c)]) fi (dG 5) aE (fw 0) au (ac (b6 8) (eB 1) (j 2 (.l 6)) (j 3 aK) []))) 10 13 14 (e4 14 (dP (b7 (d3 6) (d3 4) (d3 4) (bH 2 bt [bt,bt] 0 b1 (fu (1,aK) (2,c) [])) fi (dG 5) aE (fw 0) (dR 2 eb 3))) 10 14 15 (e4 15 (dP (b7 (dG 5) aE (.mxn false c (bU 128)) fg (dH bt 0 1 c 1 1 1 []) (bH 2 bt [] 0 c []) fi (d 8) (dK 5 1 (fe aE (dG 1) 2 (b9 aE 3 dI 4 (dX 3) 5 (eB 6) (dK 5 1 (fe aE fg 2 (ac (ab (bw 197) 3) (eB 4) (j 2 (.l 15)) (j 3 aK) [])))))))) 10 15 16 (e4 16 (ey (dG 5) (b7 aE (.mxn false c (bU 128)) fg (dH bt 0 1 c 1 1 1 []) (bH 2 bt [] 0 c []) fi (d 8) au (cu (cj 5 1) aE 1 (dx (dG 1) 2 aE 3 dI 4 (dd .gtr 3) 5 (eC 6 (bk (cj 5 1) aE 1 (fh .leq 64) 2 (eB 3) (dK 5 1 (fe aE fg 2 (ac (ab (bw 197) 3) (eB 4) (j 2 (.l 20)) (j 3 aK) [])))))))) (m 23 12)) 10 16 17 (e4 17 (ey (d3 7) (o (bH 2 bt [] 0 c []) fi (eD (dG 5) (fw 0) au (ac (b6 9) (eB 1) (j 2 (.l 6)) (j 3 aK) []))) (m 23 12)) 10 17 18 (p 18 (dP (b7 (d3 7) (d3 4) (bH 2 bt [bt] 0 aK [(1,c)]) fi (dG 5) aE (fw 0) au (ac (b6 9) (eB 1) (j 2 (.l 6)) (j 3 aK) []))) (ev 10 18 19 19 (dk 10 19 19) (e4 19 (dP (b7 (d3 6) (d3 7) (d3 4) (bH 2 bt [bt,bt] 0 b1 (fu (1,aK) (2,c) [])) fi (dG 5) aE (fw 0) (d2 8 (eC 1 (ac (b6 9) (eB 1) (j 2 (.l 9)) (j 3 aK) []))))) 10 20 20 (e4 20 (dP (o (d3 6) (d3 4) (b7 (d3 4) (d3 4) (bH 2 bt [bt,bt,bt] 0 eb ((1,b1)::fu (2,aK) (3,c) [])) fi (dG 5) aE (fw 0) au (ac (b6 8) (eB 1) (j 2 (.l 6)) (j 3 aK) [])))) 10 21 21 (e4 21 (ey (d3 5) (b7 (bH 2 bt [] 0 c []) fi d4 aE (en 261 2) (dG 5) aE (fw 0) (d2 8 (ac (e7 bB) (eB 2) (j 2 (.l 7)) (j 3 aK) []))) (m 23 12)) 10 22 22 (aQ 22 (q (d3 4)) (K (bH 2 bt [] 0 c []) fi (d 8) bB (dK 5 1 (dx aE 1 d4 2 aE 3 dI 4 (ac (ab (dX 3) 5) (eB 6) (j 2 (.l 10)) (j 3 aK) [])))) (m 23 12)))))))))))))))))) (dP (cH 2 dV 3 M)))⟩
def zkK:Fun:=⟨1,2,0,false,[(1,none)],fo 1 0 (cM (eL c 1) (dT 0 (ed c 1023) 1 (eR 2 1)))⟩
def zkk:Fun:=⟨1,2,0,false,[(1,none)],eK 1 (eJ 0 (bw 253) (af bB 1) (m 2 2))⟩
def zuY:Fun:=⟨2,5,0,false,[(2,none),(3,none)],b (cH 2 (ik .u32 0) 3 (ik .u32 0)) (b (c7 0 dI fa dI (dC .mul 2 4)) (c6 4 (K (fh .shr 32) (cp .u32) (d 4) (cp .u32) (dR 2 b1 3)) (m 5 12)))⟩
def zvt:Fun:=⟨2,12,0,false,[(2,none),(3,none)],b (cH 2 (bU 0) 3 (bU 0)) (ff 0 (fh .and 4294967295) 4 (ff 0 (fh .shr 32) 5 (ff 1 (fh .and 4294967295) 6 (ff 1 (fh .shr 32) 7 (cs 4 6 (dC .mul 1 8) (aH 5 (c7 6 (dd .mul 1) (d 8) (fh .shr 32) (fk 2 9)) (ff 9 (fh .and 4294967295) 10 (ff 9 (fh .shr 32) 11 (b (eH 10 4 7 (dd .mul 1) (fk 3 10)) (dt 5 7 (dd .mul 1) (c7 11 (dd .add 1) (d 10) (fh .shr 32) (fk 2 2)) (eJ 0 fa (dC .mul 1 3) (m 12 12))))))))))))⟩
def zlo:Fun:=⟨2,4,0,false,[(2,none)],cY (j 2 (bU 0)) (e1 1 (dQ 197 3) 3 2 (bU 0) (m 4 4)) (eJ 0 fa (K (.bin .sub (i 64) c) (dd .shl 2) fa (.bin .sub (i 64) c) (dC .shr 2 2)) (m 4 4))⟩
def zn8:Fun:=⟨1,2,0,false,[(1,none)],cv 1 dV (ce 0 1 (m 2 2))⟩
def zkX:Cd:=c8 (dB 6 5 9 2 9 0 (m 10 32) 1) 1 (.reg (eH 6 5 6 (.slc 2 aK (some c) none none) (dc 5 6 (.slc 2 aK none (some c) none) (.cpy 2 eb c) (fk 7 6))))
def zky:Cd:=cn (m 10 96) zkX
def zlM:Fun:=⟨2,10,0,false,[(2,none)],cY (j 2 dV) (dY 1 7 (eF 0) 7 (.reg (h (.no "") (e (.no "")) []))) (aH 0 (b7 ay dI fa dI (en 247 2) au e3 e2 (dR 3 aK 4)) (.seq (bp 3 (fh .gtr 0) (dv 4 (aL (y (fh .gtr 9223372036854775807) 1) (bO 8 2))) (ah 8 (.reg (h (.no "") (e (.no "")) [])))) (bp 4 fg (af (.mks bt none c) 5) (cs 5 0 (af (.cpy 2 aK c) 6) (.seq (eY zky) (ce 5 2 (m 10 4)))))))⟩
end AC
namespace Go.A
def zFy (P : Program) (CD : Draws) (n : Nat) (fn : Fun) : Prop := ∃ gf κ, P.funcs[n]? = some gf ∧ (gf.name == "runtime.NumGoroutine") = false ∧ zw5 P CD κ gf fn = true
def zzu (Q : Nat → Fun → Prop) : Nat → List (Option Fun) → Prop
 | _,[] => True
 | b,none :: r => zzu Q (b + 1) r
 | b,some f :: r => Q b f ∧ zzu Q (b + 1) r
def zw0 (Q : Nat → Fun → Prop) : Nat → List (List (Option Fun)) → Prop
 | _,[] => True
 | b,r :: rs => zzu Q b r ∧ zw0 Q (b + 16) rs
def zE5 : Nat → Nat → Nat → List Nat
 | 0,_,_ => []
 | n + 1,w,i => if w % 2 = 1 then i :: zE5 n (w / 2) (i + 1) else zE5 n (w / 2) (i + 1)
def zw7 (P : Program) (CD : Draws) : Nat → List (Option (Nat × Fun)) → Bool
 | _,[] => true
 | b,none :: r => zw7 P CD (b + 1) r
 | b,some x :: r => (match P.funcs[b]? with
   | some gf => !(gf.name == "runtime.NumGoroutine") && zw5 P CD (zE5 (Nat.log2 x.1 + 1) x.1 0) gf x.2
   | none => false) && zw7 P CD (b + 1) r
def bare (r : List (Option (Nat × Fun))) : List (Option Fun):=r.map fun x => x.map fun y => y.2
theorem zbt {P : Program} {CD : Draws} : ∀ (r : List (Option (Nat × Fun))) (b : Nat),zw7 P CD b r = true → zzu (zFy P CD) b (bare r)
 | [],_,_ => trivial
 | none :: r,b,h => zbt r (b + 1) h
 | some x :: r,b,h => by
   simp only [zw7,yb] at h;refine ⟨?_,zbt r (b + 1) h.2⟩;have a:=h.1;split at a
   ·rename_i gf c
    simp only [yb,yc] at a;exact ⟨gf,_,c,a.1,a.2⟩
   ·cases a
theorem zti {Q : Nat → Fun → Prop} : ∀ (r : List (Option Fun)) (b : Nat),zzu Q b r → ∀ (j : Nat) (f : Fun),r[j]? = some (some f) → Q (b + j) f
 | [],_,_,_,_,h => by simp at h
 | none :: r,b,hr,0,f,h => by simp at h
 | some g :: r,b,hr,0,f,h => by
   simp only [yd,Option.some.injEq] at h;subst h;exact hr.1
 | none :: r,b,hr,j + 1,f,h => by
   have:=zti r (b + 1) hr j f (by simpa using h)
   rwa [ye,yf 1 j] at this
 | some g :: r,b,hr,j + 1,f,h => by
   have:=zti r (b + 1) hr.2 j f (by simpa using h)
   rwa [ye,yf 1 j] at this
theorem ztT {Q : Nat → Fun → Prop} : ∀ (rs : List (List (Option Fun))) (b : Nat),zw0 Q b rs → ∀ (i j : Nat) (r : List (Option Fun)) (f : Fun),rs[i]? = some r → r[j]? = some (some f) → Q (b + 16 * i + j) f
 | [],_,_,_,_,_,_,h,_ => by simp at h
 | x :: rs,b,hr,0,j,r,f,h,h' => by
   simp only [yd,Option.some.injEq] at h;subst h;exact zti x b hr.1 j f h'
 | x :: rs,b,hr,i + 1,j,r,f,h,h' => by
   have:=ztT rs (b + 16) hr.2 i j r f (by simpa using h) h';have e : b + 16 + 16 * i + j = b + 16 * (i + 1) + j:=by omega
   rwa [e] at this
theorem zF8 {rows : List (List (Option Fun))} {n : Nat} {f : Fun} (h : zv4 rows n = some (.fn f)) : ∃ r,rows[n / 16]? = some r ∧ r[n % 16]? = some (some f):=by
 unfold zv4 at h
 cases b : rows[n / 16]? with
 | none => simp [b,zom] at h
 | some r =>
   refine ⟨r,rfl,?_⟩;rw [b,Option.bind_some] at h
   cases a : r[n % 16]? with
   | none => simp [a,zom] at h
   | some o =>
     cases o with
     | none => simp [a,zom] at h
     | some g => simpa [a,zom] using h
theorem zA8 {rows : List (List (Option Fun))} {n : Nat} {g : List V → zd → Option (V × zd)} : zv4 rows n ≠ some (.ext g):=by
 unfold zv4 zom;split <;> simp
theorem zCg {P : Program} {CD : Draws} {rows : List (List (Option Fun))} (h : zw0 (zFy P CD) 0 rows) : zyG P CD (zv4 rows):=fun n => by
 refine ⟨fun fn b => ?_,fun ext he => absurd he zA8⟩;obtain ⟨r,d,c⟩:=zF8 b;have a:=ztT rows 0 h (n / 16) (n % 16) r fn d c;have e : 0 + 16 * (n / 16) + n % 16 = n:=by omega
 rw [e] at a;exact a
theorem zm9 {P : Program} {CD : Draws} {k : Nat} {g : List V → zd → Option (V × zd)} {T : Nat → Option Entry}
  (d : ∀ args σ v σ',g args σ = some (v,σ') → Enters P k ∧ ∀ gg w us,Rel gg w σ → zA gg w σ args us → Calls P k us.toArray w fun e w' => ∃ u g',e = .returned u ∧ zf g' w' σ' v u ∧ Rel g' w' σ' ∧ Ext gg w σ g' w' σ')
  (c : zyG P CD T) : zyG P CD fun n => if n = k then some (.ext g) else T n:=fun n => by
 by_cases a : n = k
 ·subst a
  refine ⟨fun fn b => ?_,fun ext he => ?_⟩
  ·simp at b
  ·simp only [if_true,Option.some.injEq,Entry.ext.injEq] at he
   subst he;exact d
 ·have:=c n
  simpa only [if_neg a] using this
def zi8 (sz : Nat) : List V → zd → Option (V × zd)
 | [.one (.f (.sl xs))],σ => if xs ≠ [] ∧ zoV sz xs = true ∧ xs.length ≤ LIM then some (.one (.own σ.length 0 0 xs.length),σ ++ [.cells 0 sz (xs.map fun e => e.map C.f)]) else none
 | _,_ => none
section
variable {P : Program} {CD : Draws}
theorem zDZ {f : Nat} {gf : Func} (hgf : P.funcs[f]? = some gf) (hname : (gf.name == "runtime.NumGoroutine") = false) {fn1 fn2 : Fun} {c0 c1 c2 : Code} (e1 : fn1.body = .seq c0 c1) (e2 : fn2.body = .seq c0 c2) (same : fn1.np = fn2.np ∧ fn1.nslots = fn2.nslots ∧ fn1.keep = fn2.keep) (hc : zo8 P CD [0, 2] gf fn1 fn2 = true) :
  Enters P f ∧ ∃ i0 i1 r0 o1 o2 ga gb t3 t4 ty ty' ty'',TwoOk P CD [0,2] gf fn1 fn2 c0 c1 c2 i0 i1 r0 o1 o2 ga gb t3 t4 ty ty' ty'':=by
 unfold zo8 at hc
 split at hc
 ·rename_i i0 r0 i1 o1 o2 t4 ga gb c0' c1' c0'' c2' hb hb1 hb2
  rw [e1] at hb1
  rw [e2] at hb2
  simp only [yb,beq_iff_eq,bne_iff_ne,ne_eq,yc,decide_eq_true_eq] at hc
  obtain ⟨⟨⟨⟨⟨⟨⟨⟨⟨⟨⟨⟨⟨⟨⟨⟨h1,h1'⟩,h2⟩,h3⟩,h4⟩,h5⟩,h6⟩,h7⟩,h8⟩,h9⟩,h10⟩,h11⟩,h12⟩,h13⟩,h14⟩,h15⟩,h16⟩:=hc
  split at h4
  ·rename_i t3 ht3
   simp only [yb,bne_iff_ne,ne_eq,yc,decide_eq_true_eq] at h4
   obtain ⟨⟨⟨h4,hne⟩,hk3⟩,hl3⟩:=h4
   obtain ⟨k1,k2⟩:=zlY h4
   injection hb1 with q1 q2
   injection hb2 with q3 q4
   subst q1 q2 q4
   refine ⟨⟨gf,_,hgf,hname,hb⟩,?_⟩
   obtain ⟨te,hte⟩ : ∃ te,P.underlying (zCb o2).1 = some (.slice te):=by
    unfold zp3 at h8
    split at h8
    ·rename_i te hte; exact ⟨te,hte⟩
    ·cases h8
   exact ⟨i0,i1,r0,o1,o2,ga,gb,t3,t4,(zCb o2).1,(zCb o2).2,te,hb,e1,e2,h1,h2,h3,k1,k2,hne,⟨hk3,hl3⟩,⟨h5,h6⟩,h7,hte,h9,h10,same,h11,h12,h13,h14,h15,h16⟩
  ·cases h4
 ·cases hc
end
section
variable {P : Program} {CD : Draws} {κ : List Tmp}
theorem zyA (hD : DrawOk P CD) {f : Nat} {gf : Func} {fn1 fn2 : Fun} {c0 c1 c2 : Code} {i0 i1 : Nat} {r0 : Array Go.Oper} {o1 S : Go.Oper} {X U : Go.Code} {t3 t4 ty B d : Nat} (O : P.funcs[f]? = some gf) (T : TwoOk P CD κ gf fn1 fn2 c0 c1 c2 i0 i1 r0 o1 S X U t3 t4 ty B d)
  {va : V} {E : Prop} {σ : zd} {v : V} {σ' : zd} {n0 n2 : Nat} {s0 s2 : St} {e2 : Ex} (W : zU zkM n0 c0 (enter fn2 [va] σ) = some (.normal,s0)) (M : s0.env.getD 0 vun = va) (D : ∀ g' w' u,Rel g' w' s0.st → zf g' w' s0.st va u → ∃ ad n c,u = .slice ad n c ∧ (ad = none → E)) (Z : zU zkM n2 c2 s0 = some (e2,s2)) (l2 : leave fn2.raw fn2.results (e2,s2) = some (v,σ'))
  (h1 : E → ∃ n1 s1,zU zkM n1 c1 s0 = some (.ret,s1) ∧ leave fn1.raw fn1.results (.ret,s1) = some (v,σ')) (K : fn2.np = 1) {g : G} {w : World} {us : List Value} (R0 : Rel g w σ) (hv : zA g w σ [va] us) :
  Calls P f us.toArray w fun e w' => ∃ u g',e = .returned u ∧ zf g' w' σ' v u ∧ Rel g' w' σ' ∧ Ext g w σ g' w' σ':=by
 have hA:=zmm (gf:=gf) (fn:=fn2) R0 hv T.nd T.all T.len T.np T.np2 T.hd (by rw [K]; rfl);have a:=fun n => zpB (P:=P) (CD:=CD) (T:=zkM) (g0:=g.clean σ.length) (w0:=w) (σ0:=σ) (κ:=κ) (nt:=gf.ntmps) hD (zgy g σ.length) n fun m _ => zq9 m;have l:=zdR zkM n0 _ _ _ _ W
 have i : ∀ (fn : Fun) (e : Ex) (s : St),zke P κ gf.results.toList fn.results = true → leave fn.raw fn.results (e,s) = some (v,σ') → s.lim = (enter fn2 [va] σ).lim → ∀ x r w',zEw (g.clean σ.length) w σ κ gf.ntmps e s x r w' →
   bodyPost P gf (fun e w' => ∃ u g',e = .returned u ∧ zf g' w' σ' v u ∧ Rel g' w' σ' ∧ Ext g w σ g' w' σ') x r w' ∧ x = zl5 e:=fun fn e s H b z x r w' j => by
  obtain ⟨rfl,g',A'⟩:=j;obtain ⟨q1,q2,u,q3,I,q4,q5,Y⟩:=zmJ (fn:=fn) (gf:=gf) (zgy g σ.length) (by rw [z]; exact Nat.le_add_right _ _) H b A'
  have h : r.defers = [] ∧ ∃ v1,(results gf r.tmps).run P w' = .ok v1 w' ∧ ∃ u g',(Ending.returned v1) = .returned u ∧ zf g' w' σ' v u ∧ Rel g' w' σ' ∧ Ext g w σ g' w' σ' :=
   ⟨q2,u,q3,u,G.under g w I,rfl,zhZ (g:=I) (g':=G.under g w I) rfl rfl rfl _ _ q4,zqV Y q5,zqE Y⟩
  rcases q1 with rfl | rfl
  ·exact ⟨h,rfl⟩
  ·exact ⟨h,rfl⟩
 refine calls_of_wp O T.body (wp_seq (wp_mono ((a n0).1 _ c0 _ .normal s0 T.k0 W _ _ _ (yg _) hA) fun x a1 y j => ?_));obtain ⟨rfl,g1,p⟩:=j
 show Exit.then _ _ .normal a1 y
 simp only [Exit.then];have k:=p.fr.size;have hu:=p.fr.env 0 0 T.arg;simp only [M] at hu;obtain ⟨ad,n,c,hu,q⟩:=D _ _ _ p.rel hu;refine wp_seq (wp_seq (zl9 ?_));refine zs7 (o:=o1) rfl T.e1.1 T.e1.2.1 T.f3 (zvw (.inr T.e1.2.2) hu) fun a2 A => ?_;refine zs7 (o:=S) (u:=.bool ad.isNone) (w':=y) rfl T.e2.1 T.e2.2.1 T.f4 ?_ fun a3 L => ?_
 ·unfold execOp
  simp only [T.e2.2.2,ztl,A.val k,Act.eval];simp [eqGuard,Lib.run_eql_slice_nil y ty d ad n c 0 0 T.ty]
 show Exit.then _ _ .normal a3 y
 simp only [Exit.then];have A3 : At' (g.clean σ.length) w σ κ gf.ntmps g1 y s0 a3:=⟨p.ext,p.rel,L.fr (A.fr p.fr)⟩;have hle : σ.length ≤ s0.base:=by rw [l.1]; exact yg _
 cases ad with
 | none =>
   have J:=q rfl;obtain ⟨n1,s1,t,R⟩:=h1 J;have C:=zdR zkM n1 _ _ _ _ t;refine wp_cond_true (L.val (A.size k)) (wp_mono ((a n1).1 X c1 s0 .ret s1 T.k1 t _ _ _ hle A3) fun x a4 Q j => ?_);obtain ⟨k1,k2⟩:=i fn1 .ret s1 T.q1 R (by rw [C.2,l.2]) x a4 Q j;subst k2;simp only [zl5,Exit.then];exact k1
 | some ad =>
   have N:=zdR zkM n2 _ _ _ _ Z;refine wp_cond_false (L.val (A.size k)) (wp_skip ?_);simp only [Exit.then];exact wp_mono ((a n2).1 U c2 s0 e2 s2 T.k2 Z _ _ _ hle A3) fun x a4 Q j => (i fn2 e2 s2 T.q2 l2 (by rw [N.2,l.2]) x a4 Q j).1
def zsW (sz : Nat) (σ : zd) (xs : List (List Fz)) : Option (V × zd):=if zoV sz xs = true ∧ xs.length ≤ LIM ∧ 0 < xs.length ∧ Obs.lt σ.length σ = true then some (vsl xs,σ) else none
def zvM (sz : Nat) (σ : zd) (xs : List (List Fz)) : Option (V × zd):=if zoV sz xs = true ∧ xs.length ≤ LIM ∧ Obs.lt σ.length σ = true then some (vsl xs,σ) else none
def zi0 (sz : Nat) : List V → zd → Option (V × zd)
 | [.one (.own id ver lo n)],σ => (elems σ (.one (.own id ver lo n))).bind (zsW sz σ)
 | [.one (.f (.sl xs))],o :: σ => zvM sz (o :: σ) xs
 | aS,σ => zpp sz aS σ
def zH7 (va : V) (xs : List (List Fz)) : Prop:=va = vsl xs ∨ (∃ id ver lo n,va = .one (.own id ver lo n)) ∧ 0 < xs.length
theorem zyx {g : G} {w : World} {σ : zd} {va : V} {xs : List (List Fz)} {u : Value} (h : zH7 va xs) (k : elems σ va = some xs) (m : zf g w σ va u) : ∃ ad n c,u = .slice ad n c ∧ (ad = none → xs = []):=by
 rcases h with rfl | ⟨⟨id,D,lo,n,rfl⟩,y⟩
 ·simp only [vsl,zf,zz,rep] at m
  obtain ⟨ad,c,sz,hu,_,_,i⟩:=m;refine ⟨ad,_,c,hu,fun e => ?_⟩;rcases i with h | ⟨b,o,h,_⟩
  ·exact h
  ·rw [e] at h; cases h
 ·simp only [zf,zz] at m
  obtain ⟨x,sz,len,s,hle,f,C,c0,E⟩:=m;simp only [elems,ya] at k;obtain ⟨H,z,d⟩:=k;unfold Ob.frz at d;split at d
  ·rename_i l t es
   split at d
   ·rename_i j
    subst j;have r : shapeOf σ id = some (l,t,es.length):=(by simp [shapeOf,z,Ob.shape]);rw [r] at s;simp only [Option.some.injEq,Prod.mk.injEq] at s;obtain ⟨rfl,rfl,rfl⟩:=s;obtain ⟨a,c,hu,A,p,q⟩:=f rfl;refine ⟨a,n,c,hu,fun e => ?_⟩
    have hlen : xs.length ≤ n:=by
     have:=(zfY d).1;rw [this];simp;omega
    have v : c ≠ 0:=(by omega);have hle : es.length ≠ 0:=fun h => v (p h);obtain ⟨_,B,_⟩:=q hle;have:=B v;rw [e] at this;cases this
   ·cases d
  ·cases d
theorem zsu (hD : DrawOk P CD) {f : Nat} {gf : Func} {sz : Nat} (hgf : P.funcs[f]? = some gf) (hname : (gf.name == "runtime.NumGoroutine") = false) (hc : zo8 P CD [0, 2] gf zho (zgd sz) = true)
  (va : V) (xs : List (List Fz)) (σ : zd) (hel : ∀ o,elems (σ ++ o) va = some xs) (hk : zH7 va xs) (hok : zoV sz xs = true ∧ xs.length ≤ LIM ∧ Obs.lt σ.length σ = true) :
  Enters P f ∧ ∀ g w us,Rel g w σ → zA g w σ [va] us → Calls P f us.toArray w fun e w' => ∃ u g',e = .returned u ∧ zf g' w' σ (vsl xs) u ∧ Rel g' w' σ ∧ Ext g w σ g' w' σ:=by
 obtain ⟨hE,i0,i1,r0,o1,o2,ga,gb,t3,t4,ty,ty',ty'',T⟩:=zDZ (fn1:=zho) (fn2:=zgd sz) (c0:=zoj) (c1:=zq0) (c2:=zqT sz) hgf hname rfl rfl ⟨rfl,rfl,rfl⟩ hc
 refine ⟨hE,fun g w us R0 hv => ?_⟩
 have hel0:=hel []
 have hel1:=hel [.tok sz [0]]
 rw [List.append_nil] at hel0
 have hlt : ¬ σ.length + 1 ≤ σ.length:=by omega
 refine zyA (E:=xs = []) (va:=va) (n0:=1) (n2:=2) (e2:=.ret) (s0:=⟨[va,vsl []],σ,σ.length,σ.length⟩) (s2:=⟨[vun,.one (.ap σ.length 0 xs)],σ ++ [.tok sz [xs.length]],σ.length,σ.length⟩) hD hgf T ?_ rfl (fun g' w' u _ h => zyx hk hel0 h) ?_ ?_ (fun hxs => ⟨2,⟨[vun,vsl []],σ,σ.length,σ.length⟩,?_,?_⟩) rfl R0 hv
 ·simp [zU,zoj,steps,step,zbm,R.get,R.put,zzk,enter,zgd,vsl,vun]
 ·simp [zU,zqT,steps,step,zbm,R.get,R.put,zzk,vsl,vun,zpd,zxc,zaj,zAz,R.alloc,hel1,hok.1,zES,zoW,Ob.front,Ob.setFront,R.setOb,hok.2.1,zrr,clr,St.mkSt]
 ·simp [leave,zgd,outs,zuS,zAy,zEt,zgl,vsl,zng,znf,V.lts,V.lt,C.lt,hok.2.2,zEm,vun]
 ·simp [zU,zq0,steps,step,zbm,R.get,R.put,zzk,vsl,vun,zrr,clr,St.mkSt]
 ·subst hxs
  simp [leave,zho,outs,zuS,zAy,zEt,zgl,vsl,zng,znf,V.lts,V.lt,C.lt,Obs.lt,zEm,vun]
theorem zAE {σ : zd} {id a lo n : Nat} {xs : List (List Fz)} (h : elems σ (.one (.own id a lo n)) = some xs) (o : zd) : elems (σ ++ o) (.one (.own id a lo n)) = some xs:=by
 simp only [elems,ya] at h ⊢;obtain ⟨c,b,d⟩:=h;exact ⟨c,by rw [List.getElem?_append_left (List.getElem?_eq_some_iff.1 b).1]; exact b,d⟩
theorem zrj (hD : DrawOk P CD) {f : Nat} {gf : Func} {sz : Nat} (hgf : P.funcs[f]? = some gf) (hname : (gf.name == "runtime.NumGoroutine") = false) (hc : zo8 P CD [0, 2] gf zho (zgd sz) = true)
  {id ver lo n : Nat} {σ σ' : zd} {v : V} (h : (elems σ (.one (.own id ver lo n))).bind (zsW sz σ) = some (v,σ')) :
  Enters P f ∧ ∀ g w us,Rel g w σ → zA g w σ [.one (.own id ver lo n)] us → Calls P f us.toArray w fun e w' => ∃ u g',e = .returned u ∧ zf g' w' σ' v u ∧ Rel g' w' σ' ∧ Ext g w σ g' w' σ':=by
 rw [ya] at h
 obtain ⟨xs,h1,h2⟩:=h
 unfold zsW at h2
 split at h2
 ·rename_i hok
  injection h2 with h2
  simp only [Prod.mk.injEq] at h2
  obtain ⟨rfl,rfl⟩:=h2
  exact zsu hD hgf hname hc _ xs σ (zAE h1) (.inr ⟨⟨_,_,_,_,rfl⟩,hok.2.2.1⟩) ⟨hok.1,hok.2.1,hok.2.2.2⟩
 ·cases h2
theorem zs3 (hD : DrawOk P CD) {f : Nat} {gf : Func} {sz : Nat} (hgf : P.funcs[f]? = some gf) (hname : (gf.name == "runtime.NumGoroutine") = false) (hc : zo8 P CD [0, 2] gf zho (zgd sz) = true)
  {xs : List (List Fz)} {σ σ' : zd} {v : V} (h : zvM sz σ xs = some (v,σ')) :
  Enters P f ∧ ∀ g w us,Rel g w σ → zA g w σ [.one (.f (.sl xs))] us → Calls P f us.toArray w fun e w' => ∃ u g',e = .returned u ∧ zf g' w' σ' v u ∧ Rel g' w' σ' ∧ Ext g w σ g' w' σ':=by
 unfold zvM at h
 split at h
 ·rename_i hok
  injection h with h
  simp only [Prod.mk.injEq] at h
  obtain ⟨rfl,rfl⟩:=h
  exact zsu hD hgf hname hc _ xs σ (fun _ => rfl) (.inl rfl) hok
 ·cases h
theorem zy0 (hD : DrawOk P CD) {f : Nat} {gf : Func} {sz : Nat} (hgf : P.funcs[f]? = some gf) (hname : (gf.name == "runtime.NumGoroutine") = false) (hc : zo8 P CD [0, 2] gf zho (zgd sz) = true) (args : List V) (σ : zd) (v : V) (σ' : zd) (h : zi0 sz args σ = some (v, σ')) :
  Enters P f ∧ ∀ g w us,Rel g w σ → zA g w σ args us → Calls P f us.toArray w fun e w' => ∃ u g',e = .returned u ∧ zf g' w' σ' v u ∧ Rel g' w' σ' ∧ Ext g w σ g' w' σ':=by
 unfold zi0 at h
 split at h
 ·exact zrj hD hgf hname hc h
 ·exact zs3 hD hgf hname hc h
 ·exact zzl hD hgf hname hc _ _ _ _ h
end
end Go.A
namespace AC
open Go.A Go.A.Lex
def tab : List (List (Option Fun)):=[
 bare [none,none,none,some (713711002586517391920491883707019217386627071,zP),none,none,none,none,none,none,none,none,none,none,none,some (47,zkY)],
 bare [some (543,zC),some (4001231,zjt),some (8589951951,zdG),some (365398406976211714909668257631220208966991613951,zam),some (79,zhp),some (9223513359029109711,zaA),some (33571891,zbl),some (33554511,zfh),some (1100719587791,zay),some (144115253003754999,ziu),some (302231454904208156805111,zdd),some (1022379447,zhv),some (23,zaX),some (2147486159,zbf),some (11418155766219704907464733300850600260547966967,zm),some (5,zak)],
 bare [none,none,none,none,none,none,none,none,none,none,none,none,none,none,none,none],
 bare [none,none,none,some (4183,zgn),none,none,none,none,none,none,none,none,none,some (38685626227685725776904319,zcj),none,some (31,zX)],
 bare [some (23,zfe),some (70368748126583,zgo),some (131635,zdC),some (590304817833848868607,zji),some (29,zdB),some (23,ziz),some (89203150935305958141877267118393739786060287,zF),some (309485009969963856432235007,zaZ),some (79228540312824354700590614519,zaW),some (19345174297145887541987327,zfo),some (5,za4),some (262707,zc8),some (83079285037833274825762022487035903,zfq),some (9831967090518095288600575,zaJ),some (11150372645996141831579820250029257836789751,zft),some (1077941191,zbk)],
 bare [none,none,none,none,none,none,none,none,none,none,none,none,none,none,none,none],
 bare [none,none,some (68719972543,zhG),none,some (2417860862618887407011831,zjP),none,none,none,none,some (68719476743,zfd),none,none,none,none,some (141465551735,za3),none],
 bare [none,none,none,none,none,none,none,some (19,zc2),some (11,zfM),some (32909,zdc),some (5,zdK),some (543,zfr),some (576601491972949967,zcL),some (5,zau),some (17661043933199,zH),some (151060495,zB)],
 bare [some (2890685472579903,zcG),some (19886839177393615664282993661,zaM),some (31,zfX),some (536903965,zch),some (537919539,zc4),none,none,none,none,none,none,none,none,none,none,some (669,zf6)],
 bare [some (11,zim),none,some (7,zfU),some (252707005,zgb),some (31,zjs),some (525,zfx),none,some (15407,zmG),some (5,zpQ),some (19,zbF),some (7,zk1),some (36028861980348247,zdo),none,none,none,some (309487371008879061366997373,zaC)],
 bare [some (1100015992887,zaw),some (5070603543725610699058311077759,zbr),some (7,zee),some (7,zd7),none,none,none,none,none,some (66483,zb3),some (659,zad),some (5404360887,zbi),some (633826509113847392481258242063,zaL),some (1152994072512692351,zfw),none,none],
 bare [none,some (16883,zh5),some (19,zca),some (11,ziL),some (2101171,ziI),none,some (3963069,zjY),some (1074250695,zaK),some (16806963,zcU),none,none,none,none,none,none,none],
 bare [some (5,zhO),some (66483,zbe),some (262645,zkR),some (19361999891509624300419063,zob),some (71,znW),some (29,zgx),some (5,zdE),some (19,zc3),some (7,zdz),some (19,zdt),some (15,zdI),some (2097211,zan),some (359,zdP),some (5,ziN),some (4202527,zdu),some (1299341903921783656432219969421043,zc5)],
 bare [some (4196895,zaS),some (262751,zy),some (2229791,zh),none,none,none,none,none,none,none,none,none,none,none,none,none],
 bare [some (659,zaf),none,none,some (66483,zbs),none,none,some (137506063859,zmo),some (8590985487,zoz),some (23,ztO),some (4231239,zlu),some (66483,zb1),some (66483,zcN),some (4196415,zds),some (5,zjT),some (143,ziw),none],
 bare [none,none,none,none,none,none,none,some (1011,zyN),some (16794621,zhP),some (11,znU),some (8651699,zmD),some (2963,zeX),some (3213974174218952357560221179716737556379227408111879118128127,zk),some (5,zkK),some (5,zkk),none],
 bare [none,some (115,zuY),some (16371,zvt),some (147,zlo),some (5,zn8),some (137506063859,zlM)]]
def T (n : Nat) : Option Entry:=if n = 62 then some (.ext (zi8 5)) else if n = 118 then some (.ext zf4) else if n = 181 then some (.ext (zi0 1)) else if n = 117 then some (.ext zmE) else if n = 145 then some (.ext (zhW 177)) else zv4 tab n
end AC
namespace Go.A
section rules
variable {T : Nat → Option Entry} {s s1 s2 : St} {a b c : Code} {e : Ex} {r : Option (Ex × St)}
end rules
end Go.A
namespace Go.A
def Code.p1 : Code → Code
 | .seq a _ => a
 | .cond _ a _ => a
 | .block _ a => a
 | c => c
def Code.p2 : Code → Code
 | .seq _ b => b
 | .cond _ _ b => b
 | c => c
end Go.A
attribute [go_sem] true_or or_true or_self false_or or_false Go.A.zBc Go.A.zyO Go.A.zdH Go.A.zwb List.all_cons List.all_nil List.headD_cons Int.natCast_nonneg Int.toNat_natCast Int.natCast_zero
