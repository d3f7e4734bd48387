/- A part of the proof of SchedDepth. Conditions: none. -/
import Derived.Test.YtmkncmffaaninaaGreatPAF
import Derived.KernelRfl
set_option linter.unusedVariables false
set_option linter.unusedSimpArgs false
set_option linter.unusedSectionVars false
open List renaming length_map → ya,drop_eq_getElem_cons → yb,drop_length → yf,drop_zero → yh,getElem_mem → yi,getElem?_eq_some_iff → yj,all_cons → yk,any_cons → yn,all_nil → yo,find?_cons → yq,take_of_length_le → yr,set_append_right → yu,length_replicate → yv,getElem?_append_left → yw,map_cons → yx,getElem?_cons_zero → yy,map_nil → yz,range → yA,range_succ → yD,take_succ_cons → yE,replicate → yF,take_append → yI,map_append → yJ,find?_nil → yM,sum_cons → yO,mem_cons → yP
open Bool renaming and_eq_true → yc,or_eq_false_iff → yd,and_true → yl,false_eq_true → ym,not_eq_true' → yp,or_eq_true → ys,and_eq_false_iff → yC,and_false → yG,not_not → yR,not_or → yS
open Int renaming natCast_zero → ye,lt_irrefl → yg,reduceEq → yB,reduceSub → yL
open Option renaming bind_eq_some_iff → yt
open Nat renaming le_add_right → yH,add_assoc → yK,add_comm → yN,le_refl → yQ
namespace AC
open Go.A Go.A.Lex Go.A.Z
def zen:Cd:=cW (c8 5 0 2 8 3 8 0 (m 12 12) 2) 1 (c1 (b3 0 2 (bd 5 b2 aC (v 0 3) (dB 5 b2 aC (c9 (de 22 (.l 5)) 9)))) 9 4 M (m 12 16)) 5 5
def zcv:Cd:=cB (m 12 44) zen
def zel:Cd:=cW (c8 6 1 2 10 3 10 2 (m 12 0) 2) 3 (c1 (b3 1 2 (bd 6 b2 aC (v 1 3) (dB 6 b2 aC (c9 (de 22 (.l 5)) 11)))) 11 4 M (m 12 16)) 6 6
def zcm:Cd:=cB (m 12 76) zel
def zeE:Fun:=⟨2,12,0,false,[(4,none)],aX (w 2 (aN 2 0)) (cg 3 2 1 4 M) (c1 (ca (v 0 2) aC aw (v 0 3) aC aw (ep 3) au (eD 1 2 aC 1 aw 2 (E (v 1 3) 3) (er aC 4 aw 5 (ep 3) 6 7 7))) 7 4 M (m 12 16)) (J (e0 5 zcv) (b6 6 2 zcm) (d9 4 ar (m 12 16)))⟩
def zgR:Cd:=bO 6 5 4 (dL 6 0 (m 8 0) 0 1 (e5 1 3 5 2 (cu 0 2 (c9 (x .op aJ c []) 7) (ai 7 (.ret (m 8 0))))) 5 5)
def zgS:Cd:=cw (m 8 57) zgR
def zhd:Fun:=⟨2,8,0,false,[],d3 3 (cC 1) (bW 4 3 5) 0 zgS⟩
def zbP:Fun:=⟨2,3,0,false,[(2,none)],eu 2 0 (aP 1 (ef 227 aJ c) (af .geq c 0 2)) (m 3 4)⟩
def zhB:Fun:=⟨2,3,0,false,[(2,none)],eu 2 0 (eG (cC 1) (dF 180) bR 2) (m 3 4)⟩
def zgJ:Cd:=bO 8 7 6 (dL 8 0 (m 10 0) 0 1 (eL (bV 1 5 7) (df 4) (c1 (cb 4 3 (dk .leq 1) au (a0 (bL 4) (d 1) 1 (ek 1) 2 (bU 9 3) [])) 9 2 M (m 10 4)) (.reg (bZ 4 3))) 7 7)
def zfx:Cd:=cw (m 10 234) zgJ
def zhG:Fun:=⟨2,10,0,false,[(2,none)],ei 2 (cQ (an 3 (-1)) (en 5 0 (bW 6 5 7) 0 zfx) (d9 2 ar (m 10 4)))⟩
def zhH:Cd:=bO 13 12 11 (dL 13 2 (m 14 452) 2 3 (e5 1 10 12 5 (ci 2 (d1 5 2 5 b2 (dB 3 (ec 1 0 [] 0 c []) (.app 1 bQ c) (e7 (W 1 8 (.l 7)) aJ))))) 12 12)
def zfW:Cd:=cB (m 14 7628) zhH
def zhL:Cd:=bO 9 8 7 (dL 9 0 (m 14 4) 2 1 (aG 8 (eY 1 6 8 aC (dD 3 bQ 4)) (en 10 4 (bW 11 10 12) 2 zfW)) 8 8)
def zfQ:Cd:=cB (m 14 452) zhL
def ziv:Fun:=⟨1,14,0,false,[(1,none)],cp 1 d0 (bl 0 aw (ad (eX aT [] (some (0,1)) c) 2) (.seq (en 6 0 (bW 7 6 8) 0 zfQ) (b7 2 1 (m 14 2))))⟩
def zcY:Cd:=bO 11 10 9 (dL 11 0 (m 13 0) 0 1 (aG 10 (eY 1 8 10 aC (dD 4 bQ 5)) (dj 1 4 b2 (df 6) (dj 2 5 (d 6) (c9 (x .op bQ aJ [c]) 12) (bq 12 3 M (m 13 8))))) 10 10)
def zaZ:Cd:=cw (m 13 1798) zcY
def zar:Fun:=⟨3,13,0,false,[(3,none)],ei 3 (J (ex 0 (p aw (d 1) (eA aw 7 2 c)) 7 3 M (m 13 8)) (en 8 0 (bW 9 8 10) 0 zaZ) (d9 3 ar (m 13 8)))⟩
def ze8:Cd:=bO 7 6 5 (dL 7 0 (m 9 0) 0 1 (b (bZ 6 3) (dj 0 3 b2 (dB 1 (d 3) b2 (eA aC 8 4 c)) (bq 8 2 M (m 9 4)))) 6 6)
def zdd:Cd:=cw (m 9 99) ze8
def zbR:Fun:=⟨2,9,0,false,[(2,none)],ei 2 (J (ex 0 (p aw (d 1) (eA aw 4 2 c)) 4 2 M (m 9 4)) (eT 0 (a2 5 aw 6) 0 zdd) (d9 2 ar (m 9 4)))⟩
def zg4:Fun:=⟨1,2,0,false,[(1,none)],eu 1 0 (cR (el 0) (c6 0 (eb 2147483647) 1 (ad (bK 2) 1))) (m 2 2)⟩
def zcA:Cd:=bO 6 5 4 (dL 6 0 (m 8 0) 0 1 (b (bZ 5 3) (cs (d1 1 0 3 dy (aI (dc 5) 7 (x .op (.l 4) c []))) 7 (b7 3 2 (m 8 4)))) 5 5)
def zaH:Cd:=cw (m 8 51) zcA
def za3:Fun:=⟨2,8,0,false,[(2,none)],dG 2 (eT 0 (a2 4 aw 5) 0 zaH) (ds 2 (-1) (m 8 4))⟩
def ziz:Cd:=bO 6 5 4 (dL 6 0 (m 8 0) 0 1 (e5 1 3 5 2 (c1 (bd 2 aw (eb 64) au (a0 (bL 2) (bu 152) 1 bR 2 (bU 7 3) [])) 7 1 M (m 8 2))) 5 5)
def zgt:Cd:=cw (m 8 56) ziz
def zjM:Fun:=⟨1,8,0,false,[(1,none)],cQ (h 1 M) (en 3 0 (bW 4 3 5) 0 zgt) (d9 1 ar (m 8 2))⟩
def zlc:Cd:=bO 17 16 15 (dL 17 0 (m 29 214) 3 1 (aG 16 (eY 1 14 16 aC (dD 8 bQ 9)) (d4 7 9 (d 8) (e7 (W 1 2 aJ) aJ))) 16 16)
def zii:Cd:=dP (m 29 114902) zlc
def zlf:Cd:=bO 25 24 23 (dL 25 4 (m 29 1838294) 3 5 (ak (q (bV 1 22 24)) (df 12) 6 (b (cb 6 12 b2 aC (af .eql c (-2) 26)) (ag 26 (aG 11 (af .eql c (-2) 27) (o 27 (.reg (bZ 12 11)) (.reg (d1 6 7 11 (d 12) (ad (em 231 dA bQ aJ [c]) 11)))))))) 24 24)
def ziI:Cd:=dP (m 29 31198422) zlf
def zlr:Cd:=bO 21 20 19 (dL 21 2 (m 29 66) 3 3 (e5 1 18 20 10 (cQ (an 11 (-2)) (ak (q (v 1 2)) (p aC (d 10) (cM b2 22 aC 23 22 24)) 4 ziI) (cs (cb 6 10 b2 aC (eA (d 11) 28 1 c)) 28 (dj 6 10 (d 11) (e7 (W 1 2 aJ) aJ) (.goto 0 (m 29 214) 3))))) 20 20)
def ziN:Cd:=dP (m 29 1835222) zlr
def zae:Cd:=b4 (eG (dI 2) (d 1) (dF 100) 4) (ex 4 (aI aw 13 (cH 0)) 13 3 d0 (m 29 8)) (b (b3 0 2 (ad aw 5)) (J (.regd [] (q (ec 1 0 [] 0 (i (-2)) [])::bd 5 (ct .ck 230 [] [] aJ c []) (d 5) (eX (H 0) [] none c) (dD 6 bQ 7))) (en 14 4 (bW 15 14 16) 0 zii) (dj 6 1 (d 1) (e7 (W 1 2 aJ) aJ) (J (.label 0) (ej (d 4) 18 (.slc 1 c (some (i 1)) none none) 19 18 20 2 ziN) (cu 6 1 (e7 b2 (i (-1))) (b7 6 3 (m 29 8)))))))
def zkV : Go.A.Code:=(findLabel zae 0).getD .skip
theorem zpP : findLabel zae 0 = some zkV:=rfl
def zmR:Fun:=⟨2,29,0,false,[(3,none)],cX 2 2 0 3 d0 (.scope zae)⟩
def zmF:Fun:=⟨3,4,0,false,[(3,none)],ei 3 (ev 0 (d 1) (bd 2 (ec 1 0 (ed 0 []) 0 aJ [(1,c)]) (de 232 dA) au (et 0 (d 1) 1 (cm (ab (d 2) 2) (em 233 bQ aJ c []) 3 (d 1) 4 (dk .eql 1) 5 (e3 6 3)))) (m 4 8))⟩
def zfL:Fun:=⟨1,4,0,false,[(1,none)],cQ (h 1 M) (en 2 0 [] 0 (.seq (ck 2 1 3 3 2 8 3 3 (ck 2 16 3 3 2 32 3 3 (c0 2 64 3))) (bq 3 1 ar (m 4 2)))) (d9 1 M (m 4 2))⟩
def zc7:Fun:=⟨1,2,0,false,[(1,none)],ei 1 (ev 0 (bu 197) (ad bR 1) (m 2 2))⟩
def zcy:Fun:=⟨2,3,0,false,[(2,none)],eu 2 0 (aP 1 (ef 234 aJ c) (af .geq c 0 2)) (m 3 4)⟩
def zdf:Fun:=⟨1,3,0,false,[(2,none)],cX 1 4 0 2 M (eN (dm 0) (eG aC (bu 197) bR 2) (m 3 4))⟩
def zcQ:Fun:=⟨2,3,0,false,[(2,none)],eu 2 0 (aP 1 (ef 235 aJ c) (af .geq c 0 2)) (m 3 4)⟩
def zc5:Fun:=⟨2,4,0,false,[(3,none)],cX 2 6 0 3 M (eN (cC 1) (eG (aM 6 2) (ef 203 aJ c) bR 3) (m 4 8))⟩
def zaf:Fun:=⟨2,6,0,false,[(3,none)],b4 (cg 2 6 1 3 M) (eZ (bl 0 dt (eE (a5 3) (el 2) au (cm (cx 2 2) aC 1 (eb 1) 2 au 3 (eD 0 2 aC 1 (eb 20) 2 (ab (bK 3) 7) (e3 8 4)))) (o 4 (d9 3 M (m 6 8)) (ex 0 (K dt (a5 3) aC (el 1) (ea 0 2 (cT (dJ 1) (eb 17) 2 (e3 3 5)))) 5 3 M (m 6 8))))) (eN (aM 6 2) (ad (bu 236) 3) (m 6 8))⟩
def zc3:Fun:=⟨3,6,0,false,[(4,none)],cX 3 4 2 4 M (bl 0 dt (eC (a5 7) aC 1 (.lk (.agg dg) true aJ c) au eQ eP (bn dg) (aK (aF 4 c bQ) (h 5 bQ))) (aG 0 (K dt (a5 7) aC (d 1) (g (aM 4 3) (e (.mu bQ aJ c)) [])) (cU 5 (ad bR 4) (m 6 16))))⟩
def zhE:Fun:=⟨1,2,0,false,[(1,some (some 2))],bN 1 (bn bj) (cU 0 (g (dn bj 0 1 c 1 1 1 []) (aV 2 1 c) []) (m 2 2))⟩
def zcZ:Fun:=⟨1,7,0,false,[(2,none),(3,none)],aX (w 1 (aN 6 0)) (aK (aY 2) (aY 3)) (eZ (cY 6 1 (p (bu 236) bR (c3 0 1 (cE (E aC 1) (bu 237) 2 (ad (bK 3) 4)))) (o 4 (dN (aK (aY 2) (aY 3))) (cD 0 1 (p aC (eM c 10) (ea 0 1 (cT (dJ 1) (d5 c 12) 2 (e3 3 5)))) (o 5 (dN (aK (an 2 1) (an 3 1))) (cs (b3 0 1 (af .eql c 22 6)) 6 (dN (b3 1 1 (bT 2 c (an 3 1)))))))))) (dN (eE (dm 1) dK aC (dD 2 bQ 3)))⟩
def zek:Cd:=bO 25 24 23 (dL 25 4 (m 38 1949755) 2 5 (aG 24 (eY 1 22 24 aC (dD 7 bQ 8)) (cu 1 8 (ca (v 0 6) aC (bu 205) (v 2 6) aC (d 7) b2 aC (ad (x .op (.l 9) (.l 8) [.l 5,c,i 1048576]) 3)) (dH 3 26 (e1 c 0) 26 (.goto 0 (m 38 8) 0)))) 24 24)
def zbT:Cd:=cB (m 38 31309947) zek
def zed:Cd:=bO 21 20 19 (dL 21 2 (m 38 114747) 1 3 (b (eY 4 18 20 (dc 4) (dz 6 (cL aT) 4 6)) (ej (v 3 6) 22 aC 23 22 24 4 zbT)) 20 20)
def zbY:Cd:=cj (m 38 1949755) zed
def zeb:Cd:=bO 34 33 32 (dL 34 8 (m 38 939638843) 2 9 (bl 33 (bV 2 31 33) (d2 (dc 2) 12 bj (bT 11 dA (aV 2 12 bQ))) (aG 1 (eC (v 4 10) aC 11 b2 aC (dI 12) (d 4) (d 9) (ad (x .op (.l 8) dA [bQ,aJ,c]) 3)) (dH 3 35 (e1 c 0) 35 (.goto 0 (m 38 8) 0)))) 33 33)
def zcd:Cd:=cB (m 38 15972025915) zeb
def zep:Cd:=bO 30 29 28 (dL 30 6 (m 38 114747) 1 7 (bl 29 (bV 6 27 29) (d2 (dc 6) 10 (eh 0) (bT 9 dA (aV 6 10 bQ))) (ej (aM 6 10) 31 (bu 238) 32 31 33 8 zcd)) 29 29)
def zcb:Cd:=cj (m 38 939638843) zep
def zdU:Cd:=bO 17 16 15 (dL 17 0 (m 38 8) 0 1 (bl 16 (bV 5 14 16) (d2 (dc 5) 5 (aT::ey 0 0) (bT 4 dA (aV 5 5 bQ))) (J (ej (v 0 5) 18 aC 19 18 20 2 zbY) (ej (v 1 5) 27 aC 28 27 29 6 zcb) (b4 (p .mkm (d 0) (K dt dq eF aC (a (e (.mu (.l 5) (i 0) c)) (e (.mu (.l 6) (i 2) (i 1))) (K (.mv (.l 7)) (v 2 5) dq aC (ad (.lk (.one (H 0)) false dA c) 13))))) (dH 13 36 (cH 0) 36 (.exit 1 (m 38 114699) 0)) (aG 1 (bX 2 5 eF (dB 13 (bu 205) (d 4) (ad (x .op (.l 6) dA [aJ,c,i 1048576]) 3))) (dH 3 37 (e1 c 0) 37 (.goto 0 (m 38 8) 0)))))) 16 16)
def zb4:Cd:=cw (m 38 114699) zdU
def zdw:Cd:=bM (aY 3) (J (eT 0 (p dt dq (cM (a5 2) 14 aC 15 14 16)) 0 zb4) (.label 0) (b7 3 2 (m 38 4)))
def zcB:Fun:=⟨2,38,0,false,[(2,none)],bM (aY 2) (.scope zdw)⟩
def zaI:Fun:=⟨5,8,0,false,[(5,none)],b4 (ac (aN 2 1) 5 (i 0)) (b (p (cC 4) dt (eC (a5 7) aC 0 (.lk (.agg dg) true aJ c) au eQ eP (bn dg) (aK (aF 4 c bQ) (h 6 bQ)))) (b (c9 (d 6) 7) (cG 7 5 7 (m 8 32)))) (di (aY 5) (m 8 32))⟩
def zx:Fun:=⟨5,8,0,false,[(6,none)],b4 (a2 5 (aN 2 1) 6) (bE (cC 4) (p dt (a5 7) (dB 0 (.lk (.agg dg) false aJ c) (.fld 2 (some 2) c) (aI (dI 5) 7 (.eqa 2 true aJ c)))) (cG 7 6 6 (m 8 64))) (di (aY 6) (m 8 64))⟩
def zg:Fun:=⟨5,9,0,false,[(5,none)],b (ac (aN 2 1) 5 (i 0)) (b4 (p (cC 4) dt (eE (a5 7) (d 0) (.lk (.agg dg) false aJ c) (dz 6 dg 4 6))) (eZ (b (b3 0 6 (af .lss c 0 7)) (o 7 (di (aY 5) (m 9 32)) (.seq (cD 0 6 (dB 2 (dk .eql 1) au (cm (cx 1 6) aC 1 (d 3) 2 (dX 1) 3 (e3 4 8))) (ag 8 (bm (q (v 0 6)) (dB 2 (ep 1) au (cm (b8 (cC 4)) dt 1 (a5 6) 2 aC 3 (cm (ab (v 0 6) 4) aC 5 (d 2) 6 (em 196 dA aJ c []) 7 (e3 8 8))))))) (bi 8 (aY 5) (m 9 32)))))) (ds 5 7 (m 9 32)))⟩
def z7:Fun:=⟨2,5,0,false,[(2,none)],cp 2 (bI 0) (J (ex 1 (dC 125 3) 3 2 (bI 0) (m 5 4)) (dH 1 4 (cH 64) 4 (b7 0 2 (m 5 4))) (aH (cb 0 1 dp (.bin .shl (bI 1) c) (dl .rem 3 2)) (m 5 4)))⟩
def zcK:Cd:=bO 6 5 4 (dL 6 0 (m 8 0) 0 1 (b (bZ 5 3) (cs (d1 1 0 3 b2 (aI aC 7 (x .op (.l 4) c []))) 7 (b7 3 2 (m 8 4)))) 5 5)
def zaY:Cd:=cw (m 8 51) zcK
def zbc:Fun:=⟨2,8,0,false,[(2,none)],dG 2 (eT 0 (a2 4 aw 5) 0 zaY) (ds 2 (-1) (m 8 4))⟩
def zkv:Cd:=c5 (dQ 6 5 9 2 9 0 (m 10 32) 1) 1 (.reg (d1 6 5 6 (.slc 1 aJ (some c) none none) (cb 5 6 (.slc 1 aJ none (some c) none) (.cpy 1 dA c) (eW 7 6))))
def zkx:Cd:=cj (m 10 96) zkv
def zlk:Fun:=⟨2,10,1,true,[(2,none)],cQ (h 2 d0) (dH 1 7 (el 0) 7 (.reg (g (.no "") (e (.no "")) []))) (aG 0 (eC aw dp 1 dp (de 247 bQ) au eQ eP (dD 3 aJ 4)) (.seq (bl 3 (eU .gtr 0) (dd 4 (aK (E (eU .gtr 9223372036854775807) 1) (bU 8 2))) (ai 8 (.reg (g (.no "") (e (.no "")) [])))) (bl 4 es (ad (eX (H 0) [] none c) 5) (cu 5 0 (ad (.cpy 1 aJ c) 6) (.seq (eZ zkx) (b7 5 2 (m 10 4)))))))⟩
def zpb:Cd:=c5 (bA 1 (aP 2 b2 (dB 1 (d 3) b2 (a4 aC 6 .gtr 4 c))) 6 2 (m 8 15) 0) 3 (d4 0 2 b2 (df 2))
def zlu:Cd:=cw (m 8 15) zpb
def zok:Cd:=c5 (bA 1 (aP 3 b2 (dB 1 (d 2) b2 (a4 aC 7 .gtr 4 c))) 7 4 (m 8 15) 0) 5 (d4 0 3 b2 (df 3))
def zkY:Cd:=cw (m 8 15) zok
def zoE:Cd:=c5 (bA 2 (eA (d 3) 5 1 c) 5 0 (m 8 4) 0) 1 (c5 (.block 2 zlu) 4 zkY)
def zlg:Cd:=cw (m 8 15) zoE
def zna:Fun:=⟨4,8,0,false,[(4,none)],dG 4 (eZ zlg) (b7 2 4 (m 8 16))⟩
def zry:Fun:=⟨2,4,0,false,[(3,none)],cX 2 1 0 3 M (eN (cC 2) (cR (bu 248) (cm (b9 1) (eq 249 [] (.s 2) []) 1 (ef 119 aJ c) 2 bR 3 (e3 4 3))) (m 4 8))⟩
def zlo:Cd:=c5 (bA 1 (eA (d 2) 5 1 c) 5 0 (m 7 2) 0) 1 (aG 0 (bd 1 (dF 250) (d 0) (d 2) (a4 (dF 250) 6 .geq 3 c)) (o 6 (d4 0 1 b2 (df 1)) (d4 0 2 b2 (df 2))))
def zis:Cd:=cw (m 7 7) zlo
def zkp:Fun:=⟨3,7,0,false,[(3,none)],bM (aY 3) (ae (b (d1 0 1 2 (ec 1 0 (ed 0 []) 0 aJ [(1,c)]) (c9 (de 232 dA) 4)) (cG 4 3 (-2) (m 7 8))) 0 zis (b7 1 3 (m 7 8)))⟩
def zc1:Cd:=bO 6 5 4 (dL 6 0 (m 8 0) 0 1 (b (bZ 5 3) (cs (d1 1 0 3 (b1 4) (aI (dc 4) 7 (x .op (.l 4) c []))) 7 (b7 3 2 (m 8 4)))) 5 5)
def zbj:Cd:=cw (m 8 51) zc1
def zbI:Fun:=⟨2,8,0,false,[(2,none)],dG 2 (eT 0 (a2 4 aw 5) 0 zbj) (ds 2 (-1) (m 8 4))⟩
def zdK:Cd:=bO 6 5 4 (dL 6 0 (m 8 0) 0 1 (b (bZ 5 3) (cs (d1 1 0 3 (b1 6) (aI (dc 6) 7 (x .op (.l 4) c []))) 7 (b7 3 2 (m 8 4)))) 5 5)
def zbE:Cd:=cw (m 8 51) zdK
def zcw:Fun:=⟨2,8,0,false,[(2,none)],dG 2 (eT 0 (a2 4 aw 5) 0 zbE) (ds 2 (-1) (m 8 4))⟩
def zcR:Fun:=⟨1,8,0,false,[(2,none)],b4 (cg 1 6 0 2 M) (c1 (eE (dm 1) dK aC (c9 (de 251 bQ) 6)) 6 2 M (m 8 4)) (cY 6 1 (K (bu 252) au eQ eP (dD 3 aJ 4)) (b4 (b3 3 1 (ad (bu 253) 5)) (cD 0 1 (aI aC 7 (bu 237)) (ai 7 (.reg (b3 3 1 (af .eql c 0 5))))) (cU 4 (ee 5 (eK 1 (et 3 aw 1 (cm (ab (dm 4) 2) aC 3 aw 4 (dk .eql 3) 5 (eK 6 (cm (cx 4 1) aC 1 (ef 119 c (U 254 [] [])) 2 bR 3 (e3 4 2))))))) (m 8 4))))⟩
def ziy:Fun:=⟨1,2,0,false,[(1,none)],eu 1 0 (cR (cH 17) (c6 0 (cH 19) 1 (ad (bK 2) 1))) (m 2 2)⟩
def zho:Fun:=⟨1,5,0,false,[(2,none)],b4 (cg 1 6 0 2 d0) (cY 6 1 (dC 236 4) (bq 4 2 d0 (m 5 4))) (cY 6 1 (K (bu 252) au eQ eP (bT 3 aJ (q (.mv aJ)))) (b7 3 2 (m 5 4)))⟩
def zxq:Fun:=⟨2,8,0,false,[(2,none),(3,none)],b4 (cv 2 (bI 0) 3 (bI 0)) (.cond M (b (bd 0 (cc .u32) (d 1) (cc .u32) (K (de 257 bQ) au eQ eP (dD 4 aJ 5))) (aH (bd 4 dp (d 5) dp (dD 2 bQ 3)) (m 8 12))) .skip) (cu 0 1 (K (dF 258) au eQ eP (dD 6 aJ 7)) (ev 6 (d 7) (dD 2 aJ 3) (m 8 12)))⟩
def zjJ:Cd:=bO 8 7 6 (dL 8 0 (m 11 4) 0 1 (aG 7 (eY 1 5 7 aC (dD 3 bQ 4)) (.seq (dH 4 9 (cH (-1)) 9 (ci 2 (a3 c 1 2))) (bl 4 (e1 c (-2)) (ee 0 (bp (ab (d 3) 1) (dF 250) 2 (el 0) 3 (eR 10 4) [])) (bq 10 1 M (m 11 2))))) 7 7)
def zhg:Cd:=cw (m 11 229) zjJ
def zgI:Fun:=⟨1,11,0,false,[(1,none)],ei 1 (dG 2 (en 5 0 (bW 6 5 7) 0 zhg) (cU 2 (af .eql c 1 1) (m 11 2)))⟩
def zmE:Fun:=⟨2,3,0,false,[(2,none)],ei 2 (eN (cC 1) (aP 0 (dF 250) (af .lss c 0 2)) (m 3 4))⟩
def zjj:Cd:=bO 6 5 4 (dL 6 0 (m 9 0) 0 1 (b (bZ 5 3) (J (bl 1 (el 0) (dd 1 (er (d 0) 1 aw 2 (ek 2) 3 7 4)) (cG 7 2 (-1) (m 9 4))) (dj 0 1 b2 (aI aC 8 (cH (-1))) (ai 8 (b7 3 2 (m 9 4)))) (d4 0 1 b2 (df 1)))) 5 5)
def zhs:Cd:=cw (m 9 51) zjj
def zkW:Fun:=⟨2,9,0,false,[(2,none)],dG 2 (eT 0 (a2 4 aw 5) 0 zhs) (ds 2 (-1) (m 9 4))⟩
def zdW:Fun:=⟨2,7,0,false,[(2,none)],ei 2 (J (ex 0 (dC 197 3) 3 2 M (m 7 4)) (en 4 1 [] 0 (bg 4 1 5 (o 5 (d9 2 ar (m 7 4)) (d8 4 2 6 6 (ck 4 4 6 6 4 8 6 6 (c0 4 16 6)) (aQ 6 (aj 0) (cR (eM c 8) (cm (b9 0) (d 1) 1 (dk .mul 1) 2 (d5 c 128) 3 (e3 4 2))) (m 7 4)))))) (d9 2 M (m 7 4)))⟩
def zk:Fun:=⟨1,23,0,false,[(2,none),(3,none)],aX (w 1 (aN 6 0)) (cv 2 d0 3 M) (.regd [(6,15)] (b3 1 1 (ca dK aC (cN bj 0 1 bQ 1 1 c []) (dm 1) aC (dn bj 0 1 c 1 1 1 []) (dn bj 0 1 (i 1) 1 1 1 []) (dn bj 0 1 (i 64) 1 1 1 []) (am (w 4 (bn bj)) (w 5 (bn bj)) (w 6 (bn bj)) (w 7 (bn bj)) (am (aV 2 4 (.l 9)) (aV 2 5 (.l 7)) (aV 2 6 (.l 7)) (aV 2 7 (.l 7)) []))))) (b4 (b3 2 1 (K (cH 1) (dm 1) aC (eM c 8) (dD 8 dA 9))) (ce (aI (dm 0) 10 aC) 0 (bg 10 0 11 (o 11 (dx (ca (dm 5) aC (dm 1) aC (de 259 bQ) (dm 5) aC (dk .eql 2) (dD 2 d0 3))) (d8 10 1 12 12 (ck 10 2 12 12 10 3 12 12 (ck 10 5 12 12 10 6 12 12 (ck 10 7 12 12 10 8 12 12 (c0 10 9 12)))) (o 12 (eN (dI 4) (p (dI 4) (bD 2 bj [bj] 0 aJ [(1,c)]) (K eV (dm 5) aC (e8 0) (dD 2 dA 3))) (m 23 12)) (d8 10 4 13 13 (ck 10 10 13 13 10 11 13 13 (c0 10 12 13)) (ez 13 (dx (ca (dI 4) (dI 4) (bD 2 bj [bj] 0 aJ [(1,c)]) eV (dm 5) aC (e8 0) au (am (b9 8) (eJ 1) (h 2 (.l 6)) (h 3 aJ) []))) 10 13 14 (ez 14 (dx (ca (dI 6) (dI 4) (dI 4) (bD 2 bj [bj,bj] 0 bQ (e4 (1,aJ) (2,c) [])) eV (dm 5) aC (e8 0) (dD 2 dA 3))) 10 14 15 (ez 15 (dx (ca (dm 5) aC (.mxn false c (bI 128)) es (dn bj 0 1 c 1 1 1 []) (bD 2 bj [] 0 c []) eV (d 8) (ea 5 1 (cT (dJ 1) (dm 1) 2 (bp (dJ 3) dp 4 (dX 3) 5 (eJ 6) (ea 5 1 (cT (dJ 1) es 2 (am (ab (bu 197) 3) (eJ 4) (h 2 (.l 15)) (h 3 aJ) [])))))))) 10 15 16 (ez 16 (eN (dm 5) (ca aC (.mxn false c (bI 128)) es (dn bj 0 1 c 1 1 1 []) (bD 2 bj [] 0 c []) eV (d 8) au (cT (cx 5 1) aC 1 (cm (ab (dm 1) 2) aC 3 dp 4 (dk .gtr 3) 5 (eK 6 (bp (cx 5 1) aC 1 (eU .leq 64) 2 (eJ 3) (ea 5 1 (cT (dJ 1) es 2 (am (ab (bu 197) 3) (eJ 4) (h 2 (.l 20)) (h 3 aJ) [])))))))) (m 23 12)) 10 16 17 (ez 17 (eN (dI 7) (p (bD 2 bj [] 0 c []) eV (eE (dm 5) (e8 0) au (am (b9 9) (eJ 1) (h 2 (.l 6)) (h 3 aJ) []))) (m 23 12)) 10 17 18 (o 18 (dx (ca (dI 7) (dI 4) (bD 2 bj [bj] 0 aJ [(1,c)]) eV (dm 5) aC (e8 0) au (am (b9 9) (eJ 1) (h 2 (.l 6)) (h 3 aJ) []))) (d8 10 18 19 19 (c0 10 19 19) (ez 19 (dx (ca (dI 6) (dI 7) (dI 4) (bD 2 bj [bj,bj] 0 bQ (e4 (1,aJ) (2,c) [])) eV (dm 5) aC (e8 0) (ee 8 (eK 1 (am (b9 9) (eJ 1) (h 2 (.l 9)) (h 3 aJ) []))))) 10 20 20 (ez 20 (dx (p (dI 6) (dI 4) (ca (dI 4) (dI 4) (bD 2 bj [bj,bj,bj] 0 dA ((1,bQ)::e4 (2,aJ) (3,c) [])) eV (dm 5) aC (e8 0) au (am (b9 8) (eJ 1) (h 2 (.l 6)) (h 3 aJ) [])))) 10 21 21 (ez 21 (eN (dI 5) (ca (bD 2 bj [] 0 c []) eV dK aC (de 261 bQ) (dm 5) aC (e8 0) (ee 8 (am (ab bR 1) (eJ 2) (h 2 (.l 7)) (h 3 aJ) []))) (m 23 12)) 10 22 22 (aQ 22 (q (dI 4)) (K (bD 2 bj [] 0 c []) eV (d 8) bR (ea 5 1 (cm (dJ 1) dK 2 aC 3 dp 4 (am (ab (dX 3) 5) (eJ 6) (h 2 (.l 10)) (h 3 aJ) [])))) (m 23 12)))))))))))))))))) (dx (cv 2 d0 3 M)))⟩
def zjn:Fun:=⟨1,2,0,false,[(1,none)],eu 1 0 (cR (eM c 1) (et 0 (d5 c 1023) 1 (e3 2 1))) (m 2 2)⟩
def zjz:Fun:=⟨1,2,0,false,[(1,none)],ei 1 (ev 0 (bu 253) (ad bR 1) (m 2 2))⟩
def ztG:Fun:=⟨2,5,0,false,[(2,none),(3,none)],b (cv 2 (ik .u32 0) 3 (ik .u32 0)) (b (bd 0 dp (d 1) dp (dl .mul 2 4)) (cU 4 (K (eU .shr 32) (cc .u32) (d 4) (cc .u32) (dD 2 bQ 3)) (m 5 12)))⟩
def zs5:Fun:=⟨2,12,0,false,[(2,none),(3,none)],b (cv 2 (bI 0) 3 (bI 0)) (eS 0 (eU .and 4294967295) 4 (eS 0 (eU .shr 32) 5 (eS 1 (eU .and 4294967295) 6 (eS 1 (eU .shr 32) 7 (cu 4 6 (dl .mul 1 8) (aG 5 (bd 6 (dk .mul 1) (d 8) (eU .shr 32) (eW 2 9)) (eS 9 (eU .and 4294967295) 10 (eS 9 (eU .shr 32) 11 (b (d1 10 4 7 (dk .mul 1) (eW 3 10)) (dj 5 7 (dk .mul 1) (bd 11 (dk .add 1) (d 10) (eU .shr 32) (eW 2 2)) (ev 0 (d 1) (dl .mul 1 3) (m 12 12))))))))))))⟩
def zjY:Fun:=⟨2,4,0,false,[(2,none)],cQ (h 2 (bI 0)) (ex 1 (dC 197 3) 3 2 (bI 0) (m 4 4)) (ev 0 (d 1) (K (.bin .sub (i 64) c) (dk .shl 2) (d 1) (.bin .sub (i 64) c) (dl .shr 2 2)) (m 4 4))⟩
def zmG:Fun:=⟨1,2,0,false,[(1,none)],cp 1 d0 (b7 0 1 (m 2 2))⟩
def zjR:Cd:=c5 (dQ 6 5 9 2 9 0 (m 10 32) 1) 1 (.reg (d1 6 5 6 (.slc 2 aJ (some c) none none) (cb 5 6 (.slc 2 aJ none (some c) none) (.cpy 2 dA c) (eW 7 6))))
def zjA:Cd:=cj (m 10 96) zjR
def zkw:Fun:=⟨2,10,0,false,[(2,none)],cQ (h 2 d0) (dH 1 7 (el 0) 7 (.reg (g (.no "") (e (.no "")) []))) (aG 0 (eC aw dp 1 dp (de 247 bQ) au eQ eP (dD 3 aJ 4)) (.seq (bl 3 (eU .gtr 0) (dd 4 (aK (E (eU .gtr 9223372036854775807) 1) (bU 8 2))) (ai 8 (.reg (g (.no "") (e (.no "")) [])))) (bl 4 es (ad (.mks bj none c) 5) (cu 5 0 (ad (.cpy 2 aJ c) 6) (.seq (eZ zjA) (b7 5 2 (m 10 4)))))))⟩
end AC
namespace Go.A
def zDf (P : Program) (CD : Draws) (n : Nat) (fn : Fun) : Prop := ∃ gf κ, P.funcs[n]? = some gf ∧ (gf.name == "runtime.NumGoroutine") = false ∧ zvg P CD κ gf fn = true
def zxM (Q : Nat → Fun → Prop) : Nat → List (Option Fun) → Prop
 | _,[] => True
 | b,none :: r => zxM Q (b + 1) r
 | b,some f :: r => Q b f ∧ zxM Q (b + 1) r
def zvG (Q : Nat → Fun → Prop) : Nat → List (List (Option Fun)) → Prop
 | _,[] => True
 | b,r :: rs => zxM Q b r ∧ zvG Q (b + 16) rs
def zC6 : Nat → Nat → Nat → List Nat
 | 0,_,_ => []
 | n + 1,w,i => if w % 2 = 1 then i :: zC6 n (w / 2) (i + 1) else zC6 n (w / 2) (i + 1)
def zvr (P : Program) (CD : Draws) : Nat → List (Option (Nat × Fun)) → Bool
 | _,[] => true
 | b,none :: r => zvr P CD (b + 1) r
 | b,some x :: r => (match P.funcs[b]? with
   | some gf => !(gf.name == "runtime.NumGoroutine") && zvg P CD (zC6 (Nat.log2 x.1 + 1) x.1 0) gf x.2
   | none => false) && zvr P CD (b + 1) r
def bare (r : List (Option (Nat × Fun))) : List (Option Fun):=r.map fun x => x.map fun y => y.2
theorem zbe {P : Program} {CD : Draws} : ∀ (r : List (Option (Nat × Fun))) (b : Nat),zvr P CD b r = true → zxM (zDf P CD) b (bare r)
 | [],_,_ => trivial
 | none :: r,b,h => zbe r (b + 1) h
 | some x :: r,b,h => by
   simp only [zvr,yc] at h
   refine ⟨?_,zbe r (b + 1) h.2⟩
   have h1:=h.1
   split at h1
   ·rename_i gf hg
    simp only [yc,yp] at h1
    exact ⟨gf,_,hg,h1.1,h1.2⟩
   ·cases h1
theorem zq3 {Q : Nat → Fun → Prop} : ∀ (r : List (Option Fun)) (b : Nat),zxM Q b r → ∀ (j : Nat) (f : Fun),r[j]? = some (some f) → Q (b + j) f
 | [],_,_,_,_,h => by simp at h
 | none :: r,b,hr,0,f,h => by simp at h
 | some g :: r,b,hr,0,f,h => by
   simp only [yy,Option.some.injEq] at h
   subst h
   exact hr.1
 | none :: r,b,hr,j + 1,f,h => by
   have:=zq3 r (b + 1) hr j f (by simpa using h)
   rwa [yK,yN 1 j] at this
 | some g :: r,b,hr,j + 1,f,h => by
   have:=zq3 r (b + 1) hr.2 j f (by simpa using h)
   rwa [yK,yN 1 j] at this
theorem ztL {Q : Nat → Fun → Prop} : ∀ (rs : List (List (Option Fun))) (b : Nat),zvG Q b rs → ∀ (i j : Nat) (r : List (Option Fun)) (f : Fun),rs[i]? = some r → r[j]? = some (some f) → Q (b + 16 * i + j) f
 | [],_,_,_,_,_,_,h,_ => by simp at h
 | x :: rs,b,hr,0,j,r,f,h,h' => by
   simp only [yy,Option.some.injEq] at h
   subst h
   exact zq3 x b hr.1 j f h'
 | x :: rs,b,hr,i + 1,j,r,f,h,h' => by
   have:=ztL rs (b + 16) hr.2 i j r f (by simpa using h) h'
   have e : b + 16 + 16 * i + j = b + 16 * (i + 1) + j:=by omega
   rwa [e] at this
theorem zEl {rows : List (List (Option Fun))} {n : Nat} {f : Fun} (h : zt6 rows n = some (.fn f)) : ∃ r,rows[n / 16]? = some r ∧ r[n % 16]? = some (some f):=by
 unfold zt6 at h
 cases hr : rows[n / 16]? with
 | none => simp [hr,zm1] at h
 | some r =>
   refine ⟨r,rfl,?_⟩
   rw [hr,Option.bind_some] at h
   cases hx : r[n % 16]? with
   | none => simp [hx,zm1] at h
   | some o =>
     cases o with
     | none => simp [hx,zm1] at h
     | some g => simpa [hx,zm1] using h
theorem zzf {rows : List (List (Option Fun))} {n : Nat} {g : List V → zd → Option (V × zd)} : zt6 rows n ≠ some (.ext g):=by
 unfold zt6 zm1
 split <;> simp
theorem zCg {P : Program} {CD : Draws} {rows : List (List (Option Fun))} (h : zvG (zDf P CD) 0 rows) : zw5 P CD (zt6 rows):=fun n => by
 refine ⟨fun fn hf => ?_,fun ext he => absurd he zzf⟩
 obtain ⟨r,h1,h2⟩:=zEl hf
 have h3:=ztL rows 0 h (n / 16) (n % 16) r fn h1 h2
 have e : 0 + 16 * (n / 16) + n % 16 = n:=by omega
 rw [e] at h3
 exact h3
theorem zmi {P : Program} {CD : Draws} {k : Nat} {g : List V → zd → Option (V × zd)} {T : Nat → Option Entry}
  (hg : ∀ args σ v σ',g args σ = some (v,σ') → Enters P k ∧ ∀ gg w us,Rel gg w σ → zz gg w σ args us → Calls P k us.toArray w fun e w' => ∃ u g',e = .returned u ∧ zf g' w' σ' v u ∧ Rel g' w' σ' ∧ Ext gg w σ g' w' σ')
  (hT : zw5 P CD T) : zw5 P CD fun n => if n = k then some (.ext g) else T n:=fun n => by
 by_cases hn : n = k
 ·subst hn
  refine ⟨fun fn hf => ?_,fun ext he => ?_⟩
  ·simp at hf
  ·simp only [if_true,Option.some.injEq,Entry.ext.injEq] at he
   subst he
   exact hg
 ·have:=hT n
  simpa only [if_neg hn] using this
end Go.A
namespace Go.A
def zlI (sz : Nat) : List V → zd → Option (V × zd)
 | [.one (.f (.sl xs))],σ => if xs ≠ [] ∧ znw sz xs = true ∧ xs.length ≤ LIM then some (.one (.own σ.length 0 0 xs.length),σ ++ [.cells 0 sz (xs.map fun e => e.map C.f)]) else none
 | _,_ => none
end Go.A
namespace Go.A
section
variable {P : Program} {CD : Draws}
theorem zAy {f : Nat} {gf : Func} (hgf : P.funcs[f]? = some gf) (hname : (gf.name == "runtime.NumGoroutine") = false) {fn1 fn2 : Fun} {c0 c1 c2 : Code} (e1 : fn1.body = .seq c0 c1) (e2 : fn2.body = .seq c0 c2) (same : fn1.np = fn2.np ∧ fn1.nslots = fn2.nslots ∧ fn1.keep = fn2.keep) (hc : znE P CD [0, 2] gf fn1 fn2 = true) :
  Enters P f ∧ ∃ i0 i1 r0 o1 o2 ga gb t3 t4 ty ty' ty'',TwoOk P CD [0,2] gf fn1 fn2 c0 c1 c2 i0 i1 r0 o1 o2 ga gb t3 t4 ty ty' ty'':=by
 unfold znE at hc
 split at hc
 ·rename_i i0 r0 i1 o1 o2 t4 ga gb c0' c1' c0'' c2' hb hb1 hb2
  rw [e1] at hb1
  rw [e2] at hb2
  simp only [yc,beq_iff_eq,bne_iff_ne,ne_eq,yp,decide_eq_true_eq] at hc
  obtain ⟨⟨⟨⟨⟨⟨⟨⟨⟨⟨⟨⟨⟨⟨⟨⟨h1,h1'⟩,h2⟩,h3⟩,h4⟩,h5⟩,h6⟩,h7⟩,h8⟩,h9⟩,h10⟩,h11⟩,h12⟩,h13⟩,h14⟩,h15⟩,h16⟩:=hc
  split at h4
  ·rename_i t3 ht3
   simp only [yc,bne_iff_ne,ne_eq,yp,decide_eq_true_eq] at h4
   obtain ⟨⟨⟨h4,hne⟩,hk3⟩,hl3⟩:=h4
   obtain ⟨k1,k2⟩:=zkC h4
   injection hb1 with q1 q2
   injection hb2 with q3 q4
   subst q1 q2 q4
   refine ⟨⟨gf,_,hgf,hname,hb⟩,?_⟩
   obtain ⟨te,hte⟩ : ∃ te,P.underlying (zAs o2).1 = some (.slice te):=by
    unfold zpq at h8
    split at h8
    ·rename_i te hte; exact ⟨te,hte⟩
    ·cases h8
   exact ⟨i0,i1,r0,o1,o2,ga,gb,t3,t4,(zAs o2).1,(zAs o2).2,te,hb,e1,e2,h1,h2,h3,k1,k2,hne,⟨hk3,hl3⟩,⟨h5,h6⟩,h7,hte,h9,h10,same,h11,h12,h13,h14,h15,h16⟩
  ·cases h4
 ·cases hc
end
end Go.A
namespace Go.A
section
variable {P : Program} {CD : Draws} {κ : List Tmp}
theorem zwB (hD : DrawOk P CD) {f : Nat} {gf : Func} {fn1 fn2 : Fun} {c0 c1 c2 : Code} {i0 i1 : Nat} {r0 : Array Go.Oper} {o1 o2 : Go.Oper} {ga gb : Go.Code} {t3 t4 ty ty' ty'' : Nat} (hgf : P.funcs[f]? = some gf) (T : TwoOk P CD κ gf fn1 fn2 c0 c1 c2 i0 i1 r0 o1 o2 ga gb t3 t4 ty ty' ty'')
  {va : V} {E : Prop} {σ : zd} {v : V} {σ' : zd} {n0 n2 : Nat} {s0 s2 : St} {e2 : Ex} (h0 : zN zjC n0 c0 (enter fn2 [va] σ) = some (.normal,s0)) (h0e : s0.env.getD 0 vun = va) (hsl : ∀ g' w' u,Rel g' w' s0.st → zf g' w' s0.st va u → ∃ ad n c,u = .slice ad n c ∧ (ad = none → E)) (h2 : zN zjC n2 c2 s0 = some (e2,s2)) (l2 : leave fn2.raw fn2.results (e2,s2) = some (v,σ'))
  (h1 : E → ∃ n1 s1,zN zjC n1 c1 s0 = some (.ret,s1) ∧ leave fn1.raw fn1.results (.ret,s1) = some (v,σ')) (hnp : fn2.np = 1) {g : G} {w : World} {us : List Value} (R0 : Rel g w σ) (hv : zz g w σ [va] us) :
  Calls P f us.toArray w fun e w' => ∃ u g',e = .returned u ∧ zf g' w' σ' v u ∧ Rel g' w' σ' ∧ Ext g w σ g' w' σ':=by
 have hA:=zk7 (gf:=gf) (fn:=fn2) R0 hv T.nd T.all T.len T.np T.np2 T.hd (by rw [hnp]; rfl)
 have hall:=fun n => zob (P:=P) (CD:=CD) (T:=zjC) (g0:=g.clean σ.length) (w0:=w) (σ0:=σ) (κ:=κ) (nt:=gf.ntmps) hD (zfM g σ.length) n fun m _ => zpk m
 have hb0:=zdj zjC n0 _ _ _ _ h0
 have hfin : ∀ (fn : Fun) (e : Ex) (s : St),zja P κ gf.results.toList fn.results = true → leave fn.raw fn.results (e,s) = some (v,σ') → s.lim = (enter fn2 [va] σ).lim → ∀ x a' w',zCk (g.clean σ.length) w σ κ gf.ntmps e s x a' w' →
   bodyPost P gf (fun e w' => ∃ u g',e = .returned u ∧ zf g' w' σ' v u ∧ Rel g' w' σ' ∧ Ext g w σ g' w' σ') x a' w' ∧ x = zkz e:=fun fn e s hok hleave hlim x a' w' hx => by
  obtain ⟨rfl,g',A'⟩:=hx
  obtain ⟨q1,q2,u,q3,g2,q4,q5,q6⟩:=zlj (fn:=fn) (gf:=gf) (zfM g σ.length) (by rw [hlim]; exact yH _ _) hok hleave A'
  have hend : a'.defers = [] ∧ ∃ v1,(results gf a'.tmps).run P w' = .ok v1 w' ∧ ∃ u g',(Ending.returned v1) = .returned u ∧ zf g' w' σ' v u ∧ Rel g' w' σ' ∧ Ext g w σ g' w' σ' :=
   ⟨q2,u,q3,u,G.under g w g2,rfl,zg1 (g:=g2) (g':=G.under g w g2) rfl rfl rfl _ _ q4,zpn q6 q5,zoH q6⟩
  rcases q1 with rfl | rfl
  ·exact ⟨hend,rfl⟩
  ·exact ⟨hend,rfl⟩
 refine calls_of_wp hgf T.body (wp_seq (wp_mono ((hall n0).1 _ c0 _ .normal s0 T.k0 h0 _ _ _ (yQ _) hA) fun x a1 w1 hx => ?_))
 obtain ⟨rfl,g1,A1⟩:=hx
 show Exit.then _ _ .normal a1 w1
 simp only [Exit.then]
 have hsz:=A1.fr.size
 have hu:=A1.fr.env 0 0 T.arg
 simp only [h0e] at hu
 obtain ⟨ad,n,c,hu,hnil⟩:=hsl _ _ _ A1.rel hu
 refine wp_seq (wp_seq (zkP ?_))
 refine zrt (o:=o1) rfl T.e1.1 T.e1.2.1 T.f3 (zs6 (.inr T.e1.2.2) hu) fun a2 P2 => ?_
 refine zrt (o:=o2) (u:=.bool ad.isNone) (w':=w1) rfl T.e2.1 T.e2.2.1 T.f4 ?_ fun a3 P3 => ?_
 ·unfold execOp
  simp only [T.e2.2.2,zrW,P2.val hsz,Act.eval]
  simp [eqGuard,Lib.run_eql_slice_nil w1 ty ty'' ad n c 0 0 T.ty]
 show Exit.then _ _ .normal a3 w1
 simp only [Exit.then]
 have A3 : At' (g.clean σ.length) w σ κ gf.ntmps g1 w1 s0 a3:=⟨A1.ext,A1.rel,P3.fr (P2.fr A1.fr)⟩
 have hle : σ.length ≤ s0.base:=by rw [hb0.1]; exact yQ _
 cases ad with
 | none =>
   have hxs:=hnil rfl
   obtain ⟨n1,s1,h1a,h1b⟩:=h1 hxs
   have hb1:=zdj zjC n1 _ _ _ _ h1a
   refine wp_cond_true (P3.val (P2.size hsz)) (wp_mono ((hall n1).1 ga c1 s0 .ret s1 T.k1 h1a _ _ _ hle A3) fun x a4 w4 hx => ?_)
   obtain ⟨k1,k2⟩:=hfin fn1 .ret s1 T.q1 h1b (by rw [hb1.2,hb0.2]) x a4 w4 hx
   subst k2
   simp only [zkz,Exit.then]
   exact k1
 | some ad =>
   have hb2:=zdj zjC n2 _ _ _ _ h2
   refine wp_cond_false (P3.val (P2.size hsz)) (wp_skip ?_)
   simp only [Exit.then]
   exact wp_mono ((hall n2).1 gb c2 s0 e2 s2 T.k2 h2 _ _ _ hle A3) fun x a4 w4 hx => (hfin fn2 e2 s2 T.q2 l2 (by rw [hb2.2,hb0.2]) x a4 w4 hx).1
def zq5 (sz : Nat) (σ : zd) (xs : List (List Fz)) : Option (V × zd):=if znw sz xs = true ∧ xs.length ≤ LIM ∧ 0 < xs.length ∧ Obs.lt σ.length σ = true then some (vsl xs,σ) else none
def zuv (sz : Nat) (σ : zd) (xs : List (List Fz)) : Option (V × zd):=if znw sz xs = true ∧ xs.length ≤ LIM ∧ Obs.lt σ.length σ = true then some (vsl xs,σ) else none
def zh3 (sz : Nat) : List V → zd → Option (V × zd)
 | [.one (.own id ver lo n)],σ => (elems σ (.one (.own id ver lo n))).bind (zq5 sz σ)
 | [.one (.f (.sl xs))],o :: σ => zuv sz (o :: σ) xs
 | as,σ => zog sz as σ
def zFO (va : V) (xs : List (List Fz)) : Prop:=va = vsl xs ∨ (∃ id ver lo n,va = .one (.own id ver lo n)) ∧ 0 < xs.length
theorem zwH {g : G} {w : World} {σ : zd} {va : V} {xs : List (List Fz)} {u : Value} (h : zFO va xs) (hel : elems σ va = some xs) (hv : zf g w σ va u) : ∃ ad n c,u = .slice ad n c ∧ (ad = none → xs = []):=by
 rcases h with rfl | ⟨⟨id,ver,lo,n,rfl⟩,hpos⟩
 ·simp only [vsl,zf,zw,rep] at hv
  obtain ⟨ad,c,sz,hu,_,_,hnil⟩:=hv
  refine ⟨ad,_,c,hu,fun e => ?_⟩
  rcases hnil with h | ⟨b,o,h,_⟩
  ·exact h
  ·rw [e] at h; cases h
 ·simp only [zf,zw] at hv
  obtain ⟨ver0,sz,len,hs,hle,hown,ad0,c0,hu0⟩:=hv
  simp only [elems,yt] at hel
  obtain ⟨ob,ho,hf⟩:=hel
  unfold Ob.frz at hf
  split at hf
  ·rename_i ver' sz' es
   split at hf
   ·rename_i hver
    subst hver
    have hs' : shapeOf σ id = some (ver',sz',es.length):=by simp [shapeOf,ho,Ob.shape]
    rw [hs'] at hs
    simp only [Option.some.injEq,Prod.mk.injEq] at hs
    obtain ⟨rfl,rfl,rfl⟩:=hs
    obtain ⟨a,c,hu,hnc,hl0,hl1⟩:=hown rfl
    refine ⟨a,n,c,hu,fun e => ?_⟩
    have hlen : xs.length ≤ n:=by
     have:=(zeh hf).1
     rw [this]
     simp
     omega
    have hc : c ≠ 0:=by omega
    have hle : es.length ≠ 0:=fun h => hc (hl0 h)
    obtain ⟨_,ha,_⟩:=hl1 hle
    have:=ha hc
    rw [e] at this
    cases this
   ·cases hf
  ·cases hf
theorem zqq (hD : DrawOk P CD) {f : Nat} {gf : Func} {sz : Nat} (hgf : P.funcs[f]? = some gf) (hname : (gf.name == "runtime.NumGoroutine") = false) (hc : znE P CD [0, 2] gf zgw (zfr sz) = true)
  (va : V) (xs : List (List Fz)) (σ : zd) (hel : ∀ o,elems (σ ++ o) va = some xs) (hk : zFO va xs) (hok : znw sz xs = true ∧ xs.length ≤ LIM ∧ Obs.lt σ.length σ = true) :
  Enters P f ∧ ∀ g w us,Rel g w σ → zz g w σ [va] us → Calls P f us.toArray w fun e w' => ∃ u g',e = .returned u ∧ zf g' w' σ (vsl xs) u ∧ Rel g' w' σ ∧ Ext g w σ g' w' σ:=by
 obtain ⟨hE,i0,i1,r0,o1,o2,ga,gb,t3,t4,ty,ty',ty'',T⟩:=zAy (fn1:=zgw) (fn2:=zfr sz) (c0:=zm4) (c1:=zoF) (c2:=zoX sz) hgf hname rfl rfl ⟨rfl,rfl,rfl⟩ hc
 refine ⟨hE,fun g w us R0 hv => ?_⟩
 have hel0:=hel []
 have hel1:=hel [.tok sz [0]]
 rw [List.append_nil] at hel0
 have hlt : ¬ σ.length + 1 ≤ σ.length:=by omega
 refine zwB (E:=xs = []) (va:=va) (n0:=1) (n2:=2) (e2:=.ret) (s0:=⟨[va,vsl []],σ,σ.length,σ.length⟩) (s2:=⟨[vun,.one (.ap σ.length 0 xs)],σ ++ [.tok sz [xs.length]],σ.length,σ.length⟩) hD hgf T ?_ rfl (fun g' w' u _ h => zwH hk hel0 h) ?_ ?_ (fun hxs => ⟨2,⟨[vun,vsl []],σ,σ.length,σ.length⟩,?_,?_⟩) rfl R0 hv
 ·simp [zN,zm4,steps,step,za5,R.get,R.put,zza,enter,zfr,vsl,vun]
 ·simp [zN,zoX,steps,step,za5,R.get,R.put,zza,vsl,vun,znS,zv3,zaq,zyY,R.alloc,hel1,hok.1,zCM,zor,Ob.front,Ob.setFront,R.setOb,hok.2.1,zsm,clr,St.mkSt]
 ·simp [leave,zfr,outs,zsC,zz5,zCx,zfO,vsl,zlD,zlW,V.lts,V.lt,C.lt,hok.2.2,zCs,vun]
 ·simp [zN,zoF,steps,step,za5,R.get,R.put,zza,vsl,vun,zsm,clr,St.mkSt]
 ·subst hxs
  simp [leave,zgw,outs,zsC,zz5,zCx,zfO,vsl,zlD,zlW,V.lts,V.lt,C.lt,Obs.lt,zCs,vun]
theorem zxQ {σ : zd} {id ver lo n : Nat} {xs : List (List Fz)} (h : elems σ (.one (.own id ver lo n)) = some xs) (o : zd) : elems (σ ++ o) (.one (.own id ver lo n)) = some xs:=by
 simp only [elems,yt] at h ⊢
 obtain ⟨ob,h1,h2⟩:=h
 exact ⟨ob,by rw [yw (yj.1 h1).1]; exact h1,h2⟩
theorem zpM (hD : DrawOk P CD) {f : Nat} {gf : Func} {sz : Nat} (hgf : P.funcs[f]? = some gf) (hname : (gf.name == "runtime.NumGoroutine") = false) (hc : znE P CD [0, 2] gf zgw (zfr sz) = true)
  {id ver lo n : Nat} {σ σ' : zd} {v : V} (h : (elems σ (.one (.own id ver lo n))).bind (zq5 sz σ) = some (v,σ')) :
  Enters P f ∧ ∀ g w us,Rel g w σ → zz g w σ [.one (.own id ver lo n)] us → Calls P f us.toArray w fun e w' => ∃ u g',e = .returned u ∧ zf g' w' σ' v u ∧ Rel g' w' σ' ∧ Ext g w σ g' w' σ':=by
 rw [yt] at h
 obtain ⟨xs,h1,h2⟩:=h
 unfold zq5 at h2
 split at h2
 ·rename_i hok
  injection h2 with h2
  simp only [Prod.mk.injEq] at h2
  obtain ⟨rfl,rfl⟩:=h2
  exact zqq hD hgf hname hc _ xs σ (zxQ h1) (.inr ⟨⟨_,_,_,_,rfl⟩,hok.2.2.1⟩) ⟨hok.1,hok.2.1,hok.2.2.2⟩
 ·cases h2
theorem zq8 (hD : DrawOk P CD) {f : Nat} {gf : Func} {sz : Nat} (hgf : P.funcs[f]? = some gf) (hname : (gf.name == "runtime.NumGoroutine") = false) (hc : znE P CD [0, 2] gf zgw (zfr sz) = true)
  {xs : List (List Fz)} {σ σ' : zd} {v : V} (h : zuv sz σ xs = some (v,σ')) :
  Enters P f ∧ ∀ g w us,Rel g w σ → zz g w σ [.one (.f (.sl xs))] us → Calls P f us.toArray w fun e w' => ∃ u g',e = .returned u ∧ zf g' w' σ' v u ∧ Rel g' w' σ' ∧ Ext g w σ g' w' σ':=by
 unfold zuv at h
 split at h
 ·rename_i hok
  injection h with h
  simp only [Prod.mk.injEq] at h
  obtain ⟨rfl,rfl⟩:=h
  exact zqq hD hgf hname hc _ xs σ (fun _ => rfl) (.inl rfl) hok
 ·cases h
theorem zxp (hD : DrawOk P CD) {f : Nat} {gf : Func} {sz : Nat} (hgf : P.funcs[f]? = some gf) (hname : (gf.name == "runtime.NumGoroutine") = false) (hc : znE P CD [0, 2] gf zgw (zfr sz) = true) (args : List V) (σ : zd) (v : V) (σ' : zd) (h : zh3 sz args σ = some (v, σ')) :
  Enters P f ∧ ∀ g w us,Rel g w σ → zz g w σ args us → Calls P f us.toArray w fun e w' => ∃ u g',e = .returned u ∧ zf g' w' σ' v u ∧ Rel g' w' σ' ∧ Ext g w σ g' w' σ':=by
 unfold zh3 at h
 split at h
 ·exact zpM hD hgf hname hc h
 ·exact zq8 hD hgf hname hc h
 ·exact zyt hD hgf hname hc _ _ _ _ h
end
end Go.A
namespace AC
open Go.A Go.A.Lex
def tab : List (List (Option Fun)):=[
 bare [none,none,none,none,none,some (316917485760344825435979257847,zac),none,none,none,none,none,none,none,none,none,some (47,zjk)],
 bare [some (543,zD),some (4001231,zuU),none,none,some (79,zrr),none,some (33571891,za4),some (33554511,zeu),none,some (144115253003754999,zty),none,some (1022379447,zgy),none,none,some (11418155766219704907464733300850600260547966967,zi),none],
 bare [none,none,none,none,none,none,none,none,none,none,none,none,none,none,none,none],
 bare [none,none,none,some (4183,zfq),none,none,none,none,none,none,none,none,none,some (38685626227685725776904319,zb0),none,none],
 bare [some (23,zey),some (70368748126583,zrS),some (131635,zc6),some (590304817833848868607,ziu),some (29,zda),some (23,zpY),some (89203150935305958141877267118393739786060287,zF),some (309485009969963856432235007,zaM),some (79228540312824354700590614519,zaO),some (19345174297145887541987327,zeO),some (5,zaN),some (262707,zcC),some (83079285037833274825762022487035903,zeJ),some (9831967090518095288600575,zas),some (11150372645996141831579820250029257836789751,zeI),some (1077941191,za8)],
 bare [none,none,none,none,none,none,none,none,none,none,none,none,none,none,none,none],
 bare [none,none,some (68719972543,zgF),none,some (2417860862618887407011831,ziM),none,none,none,none,some (68719476743,zes),none,none,none,none,some (141465551735,zaP),none],
 bare [none,none,none,none,none,none,none,some (19,zcx),some (11,znZ),some (32909,zcD),some (5,zc9),some (543,zeN),some (576601491972949967,zck),some (5,zal),some (17661043933199,zG),some (151060495,zB)],
 bare [some (2890685472579903,zb2),some (19886839177393615664282993661,zaz),some (31,ze9),some (536903965,zci),some (537919539,zcH),none,none,none,none,none,none,none,none,none,none,some (669,zfg)],
 bare [some (11,zhr),none,some (7,zfa),some (252707005,zfk),some (31,zig),some (525,zeP),none,some (15407,zk0),some (5,zop),some (19,zbp),some (7,zjx),some (36028861980348247,zcU),none,none,none,some (309487371008879061366997373,zao)],
 bare [some (1100015992887,zan),some (5070603543725610699058311077759,zbd),some (7,zdD),some (7,zdL),none,none,none,none,none,some (66483,zbA),some (659,z8),some (5404360887,za7),some (633826509113847392481258242063,zay),some (1152994072512692351,zeE),none,none],
 bare [none,some (16883,zhd),some (19,zbP),some (11,zhB),some (2101171,zhG),none,some (3963069,ziv),some (1074250695,zar),some (16806963,zbR),none,none,none,none,none,none,none],
 bare [some (5,zg4),some (66483,za3),some (262645,zjM),some (19361999891509624300419063,zmR),some (71,zmF),some (29,zfL),some (5,zc7),some (19,zcy),some (7,zdf),some (19,zcQ),some (15,zc5),some (2097211,zaf),some (359,zc3),some (5,zhE),some (4202527,zcZ),some (1299341903921783656432219969421043,zcB)],
 bare [some (4196895,zaI),some (262751,zx),some (2229791,zg),none,none,none,none,none,none,none,none,none,none,none,none,none],
 bare [some (659,z7),none,none,some (66483,zbc),none,none,some (137506063859,zlk),some (8590985487,zna),some (23,zry),some (4231239,zkp),some (66483,zbI),some (66483,zcw),some (4196415,zcR),some (5,ziy),some (143,zho),none],
 bare [none,none,none,none,none,none,none,some (1011,zxq),some (16794621,zgI),some (11,zmE),some (8651699,zkW),some (2963,zdW),some (3213974174218952357560221179716737556379227408111879118128127,zk),some (5,zjn),some (5,zjz),none],
 bare [none,some (115,ztG),some (16371,zs5),some (147,zjY),some (5,zmG),some (137506063859,zkw)]]
def T (n : Nat) : Option Entry:=if n = 62 then some (.ext (zlI 5)) else if n = 118 then some (.ext zfl) else if n = 181 then some (.ext (zh3 1)) else if n = 117 then some (.ext zlt) else if n = 145 then some (.ext (zgT 177)) else zt6 tab n
end AC
namespace Go.A
section rules
variable {T : Nat → Option Entry} {s s1 s2 : St} {a b c : Code} {e : Ex} {r : Option (Ex × St)}
end rules
end Go.A
namespace Go.A
def Code.p1 : Code → Code
 | .seq a _ => a
 | .cond _ a _ => a
 | .block _ a => a
 | c => c
def Code.p2 : Code → Code
 | .seq _ b => b
 | .cond _ _ b => b
 | c => c
end Go.A
attribute [go_sem] true_or or_true or_self false_or or_false Go.A.zz7 Go.A.zwR Go.A.zdc Go.A.zt9 yk yo List.headD_cons Int.natCast_nonneg Int.toNat_natCast ye
namespace AC
open Go Go.A Go.A.Lex
abbrev vI (x : Int) : V:=.one (.f (.lit (.int .i64 x)))
abbrev zEd (x : Int) : V:=.one (.f (.lit (.int .u64 x)))
abbrev vB (x : Bool) : V:=.one (.f (.lit (.bool x)))
abbrev vL (xs : List (List Fz)) : V:=.one (.f (.sl xs))
abbrev vU : V:=.one .un
abbrev vFn (g : Nat) (caps : List C) : V:=.one (.fn g [] caps)
abbrev ei (x : Int) : Fz:=.lit (.int .i64 x)
abbrev eu (x : Int) : Fz:=.lit (.int .u64 x)
def ri (x : Int) : List Fz:=[.lit (.int .i64 x)]
abbrev eI (l : List Int) : Fz:=.sl (l.map ri)
abbrev vIs (l : List Int) : V:=.one (.f (.sl (l.map ri)))
def rl (l : List Int) : List Fz:=[.sl (l.map ri)]
abbrev vLs (l : List (List Int)) : V:=.one (.f (.sl (l.map rl)))
def rs (s : Int × Int) : List Fz:=[.lit (.int .i64 s.1),.lit (.int .i64 s.2)]
abbrev vSs (l : List (Int × Int)) : V:=.one (.f (.sl (l.map rs)))
structure POp where
 kind : Int
 bits : Int
 lanes : Int
 dst : Int
 args : List Int
 imm : Int
structure PPhi where
 bits : Int
 dst : Int
 src : List Int
 args : List Int
structure PBlock where
 phis : List PPhi
 ops : List POp
 kind : Int
 arg : Int
 to : List Int
structure PFunc where
 params : List Int
 ret : Int
 blocks : List PBlock
def ro (o : POp) : List Fz:=[ei o.kind,ei o.bits,ei o.lanes,ei o.dst,eI o.args,eu o.imm]
def rp (p : PPhi) : List Fz:=[ei p.bits,ei p.dst,eI p.src,eI p.args]
def rb (b : PBlock) : List Fz:=[.sl (b.phis.map rp),.sl (b.ops.map ro),ei b.kind,ei b.arg,eI b.to]
abbrev cOp (o : POp) : List C:=[.f (ei o.kind),.f (ei o.bits),.f (ei o.lanes),.f (ei o.dst),.f (eI o.args),.f (eu o.imm)]
abbrev zuO (p : PPhi) : List C:=[.f (ei p.bits),.f (ei p.dst),.f (eI p.src),.f (eI p.args)]
abbrev zq (b : PBlock) : List C:=[.f (.sl (b.phis.map rp)),.f (.sl (b.ops.map ro)),.f (ei b.kind),.f (ei b.arg),.f (eI b.to)]
abbrev zcW (f : PFunc) : List C:=[.f (eI f.params),.f (ei f.ret),.f (.sl (f.blocks.map rb))]
abbrev vOp (o : POp) : V:=.agg (cOp o)
abbrev zE3 (p : PPhi) : V:=.agg (zuO p)
abbrev zpD (b : PBlock) : V:=.agg (zq b)
abbrev zhc (f : PFunc) : V:=.agg (zcW f)
attribute [go_sem] yB Int.reduceNe Int.reduceAdd yL Int.reduceMul Int.reduceNeg Int.reduceGT Int.reduceGE
attribute [go_sem] vI zEd vB vL vU vFn ei eu eI vIs vLs vSs cOp zuO zq zcW vOp zE3 zpD zhc
theorem wrap_i64 {n : Int} (h : -9223372036854775808 ≤ n) (h' : n < 9223372036854775808) : Go.IntKind.i64.wrap n = n:=by
 unfold Go.IntKind.wrap Go.IntKind.bits Go.IntKind.signed
 simp only [Bool.true_and]
 split
 ·rename_i h1
  simp at h1
  omega
 ·rename_i h1
  simp at h1
  omega
theorem wrap_u64 {n : Int} (h : 0 ≤ n) (h' : n < 18446744073709551616) : Go.IntKind.u64.wrap n = n:=by
 unfold Go.IntKind.wrap Go.IntKind.bits Go.IntKind.signed
 simp only [Bool.false_and]
 have : (2 : Int) ^ 64 = 18446744073709551616:=by decide
 rw [this]
 split <;> first | omega | (rename_i h; simp at h)
theorem za {k n : Nat} (h : k < n) (h' : n ≤ 4294967296) : Go.IntKind.i64.wrap ((k : Int) + 1) = ((k + 1 : Nat) : Int):=by
 rw [wrap_i64] <;> omega
theorem zp {α : Type} {r : α → List Fz} {l : List α} {k : Nat} (h : k < l.length) : (l.map r)[k]? = some (r l[k]):=by simp [h]
theorem ilt {k n : Nat} (h : k < n) : ((k : Int) < (n : Int)) = True:=by simp [h]
end AC
namespace AC
open Go Go.A Go.A.Lex
def zhF (b : Int) : Bool:=decide (b = 1) || decide (b = 8) || decide (b = 16) || decide (b = 32) || decide (b = 64)
@[go_sem] theorem zA8 (b : Int) : call T 197 [vI b] [] = some (vB (zhF b),[]):=by
  rw [ze (fn:=zfL) rfl]
  by_cases c1 : b = 1
  ·simp -implicitDefEqProofs only [go_sem,zfL,zhF,c1]
  by_cases c2 : b = 8
  ·simp -implicitDefEqProofs only [go_sem,zfL,zhF,c1,c2]
  by_cases c3 : b = 16
  ·simp -implicitDefEqProofs only [go_sem,zfL,zhF,c1,c2,c3]
  by_cases c4 : b = 32
  ·simp -implicitDefEqProofs only [go_sem,zfL,zhF,c1,c2,c3,c4]
  by_cases c5 : b = 64 <;> simp -implicitDefEqProofs only [go_sem,zfL,zhF,c1,c2,c3,c4,c5]
def value (v : Int) : Bool:=decide (1 ≤ v) && decide (v ≤ 1023)
@[go_sem] theorem zzr (v : Int) : call T 253 [vI v] [] = some (vB (value v),[]):=by
  rw [ze (fn:=zjn) rfl]
  by_cases c1 : 1 ≤ v <;> simp -implicitDefEqProofs only [go_sem,zjn,value,c1]
end AC
namespace AC
open Go Go.A Go.A.Lex
def idxFrom {α : Type} (p : α → Bool) : Nat → List α → Int
 | _,[] => -1
 | k,x :: r => if p x = true then (k : Int) else idxFrom p (k + 1) r
theorem zgW {α : Type} (p : α → Bool) : ∀ (l : List α) (k : Nat),decide (0 ≤ idxFrom p k l) = l.any p
 | [],_ => by simp [idxFrom]
 | x :: r,k => by
   simp only [idxFrom,yn]
   by_cases h : p x = true
   ·simp [h]
   ·simp [h,zgW p r (k + 1)]
theorem zmt (l : List (Int)) (p : Int → Bool) (g : Nat) (fst caps : List C) (σ : zd) (hl : l.length ≤ 4294967296)
  (hf : ∀ x ∈ l,call T g (fst.map V.one ++ vI x :: caps.map V.one) σ = some (vB (p x),σ)) : ∀ (d k : Nat) (a2 a3 a6 a7 : V),l.length - k = d → k ≤ l.length →
  exec T zbi ⟨[vIs l,.one (.fn g fst caps),a2,a3,vI l.length,vI k,a6,a7],σ,σ.length,σ.length⟩ =
   some (if (l.drop k).any p = true then (.ret,⟨[vU,vU,vI (idxFrom p k (l.drop k)),vU,vU,vU,vU,vU],σ,σ.length,σ.length⟩) else (.exit 0,⟨[vU,vU,vU,vU,vU,vU,vU,vU],σ,σ.length,σ.length⟩)):=by
 intro d
 induction d with
 | zero =>
   intro k a2 a3 a6 a7 h1 h2
   have hk : k = l.length:=by omega
   subst hk
   rw [xl zbi rfl,zc4]
   simp -implicitDefEqProofs only [go_sem,yg,yf]
 | succ d ih =>
   intro k a2 a3 a6 a7 h1 h2
   have hk : k < l.length:=by omega
   have hd : l.drop k = l[k] :: l.drop (k + 1):=yb hk
   have hc:=hf l[k] (yi hk)
   rw [xl zbi rfl,zc4,hd]
   cases hp : p l[k]
   ·rw [hp] at hc
    simp -implicitDefEqProofs only [go_sem,ilt hk,zp hk,ri,hc,hp,idxFrom,za hk hl]
    exact ih (k + 1) _ _ _ _ (by omega) (by omega)
   ·rw [hp] at hc
    simp -implicitDefEqProofs only [go_sem,ilt hk,zp hk,ri,hc,hp,idxFrom]
theorem zaQ (l : List (Int)) (p : Int → Bool) (g : Nat) (fst caps : List C) (σ : zd) (hl : l.length ≤ 4294967296)
  (hf : ∀ x ∈ l,call T g (fst.map V.one ++ vI x :: caps.map V.one) σ = some (vB (p x),σ)) :
  call T 119 [vIs l,.one (.fn g fst caps)] σ = some (vB (l.any p),σ):=by
 have hI : call T 169 [vIs l,.one (.fn g fst caps)] σ = some (vI (idxFrom p 0 l),σ):=by
  rw [ze (fn:=zbA) rfl]
  have h:=fun a2 a3 a6 a7 => zmt l p g fst caps σ hl hf l.length 0 a2 a3 a6 a7 (by omega) (by omega)
  simp only [yh,ye] at h
  have hn : l.any p = false → idxFrom p 0 l = -1:=fun h => by
   have:=zgW p l 0
   rw [h] at this
   have h2 : ∀ (l : List (Int)) k,l.any p = false → idxFrom p k l = -1:=by
    intro l
    induction l with
    | nil => exact fun _ _ => rfl
    | cons x r ih =>
      intro k h
      simp only [yn,yd] at h
      simp only [idxFrom,h.1,ym,if_false]
      exact ih _ h.2
   exact h2 l 0 h
  cases ha : l.any p
  ·simp -implicitDefEqProofs only [go_sem,ha] at h
   simp -implicitDefEqProofs only [go_sem,zbA,h,hn ha]
  ·simp -implicitDefEqProofs only [go_sem,ha] at h
   simp -implicitDefEqProofs only [go_sem,zbA,h]
 rw [ze (fn:=zcx) rfl]
 simp -implicitDefEqProofs only [go_sem,zcx,hI,zgW]
theorem zks (l : List (PBlock)) (p : PBlock → Bool) (g : Nat) (fst caps : List C) (σ : zd) (hl : l.length ≤ 4294967296)
  (hf : ∀ x ∈ l,call T g (fst.map V.one ++ zpD x :: caps.map V.one) σ = some (vB (p x),σ)) : ∀ (d k : Nat) (a2 a3 a6 a7 : V),l.length - k = d → k ≤ l.length →
  exec T zaH ⟨[vL (l.map rb),.one (.fn g fst caps),a2,a3,vI l.length,vI k,a6,a7],σ,σ.length,σ.length⟩ =
   some (if (l.drop k).any p = true then (.ret,⟨[vU,vU,vI (idxFrom p k (l.drop k)),vU,vU,vU,vU,vU],σ,σ.length,σ.length⟩) else (.exit 0,⟨[vU,vU,vU,vU,vU,vU,vU,vU],σ,σ.length,σ.length⟩)):=by
 intro d
 induction d with
 | zero =>
   intro k a2 a3 a6 a7 h1 h2
   have hk : k = l.length:=by omega
   subst hk
   rw [xl zaH rfl,zcA]
   simp -implicitDefEqProofs only [go_sem,yg,yf]
 | succ d ih =>
   intro k a2 a3 a6 a7 h1 h2
   have hk : k < l.length:=by omega
   have hd : l.drop k = l[k] :: l.drop (k + 1):=yb hk
   have hc:=hf l[k] (yi hk)
   rw [xl zaH rfl,zcA,hd]
   cases hp : p l[k]
   ·rw [hp] at hc
    simp -implicitDefEqProofs only [go_sem,ilt hk,zp hk,rb,hc,hp,idxFrom,za hk hl]
    exact ih (k + 1) _ _ _ _ (by omega) (by omega)
   ·rw [hp] at hc
    simp -implicitDefEqProofs only [go_sem,ilt hk,zp hk,rb,hc,hp,idxFrom]
theorem ziC (l : List (PBlock)) (p : PBlock → Bool) (g : Nat) (fst caps : List C) (σ : zd) (hl : l.length ≤ 4294967296)
  (hf : ∀ x ∈ l,call T g (fst.map V.one ++ zpD x :: caps.map V.one) σ = some (vB (p x),σ)) :
  call T 153 [vL (l.map rb),.one (.fn g fst caps)] σ = some (vB (l.any p),σ):=by
 have hI : call T 193 [vL (l.map rb),.one (.fn g fst caps)] σ = some (vI (idxFrom p 0 l),σ):=by
  rw [ze (fn:=za3) rfl]
  have h:=fun a2 a3 a6 a7 => zks l p g fst caps σ hl hf l.length 0 a2 a3 a6 a7 (by omega) (by omega)
  simp only [yh,ye] at h
  have hn : l.any p = false → idxFrom p 0 l = -1:=fun h => by
   have:=zgW p l 0
   rw [h] at this
   have h2 : ∀ (l : List (PBlock)) k,l.any p = false → idxFrom p k l = -1:=by
    intro l
    induction l with
    | nil => exact fun _ _ => rfl
    | cons x r ih =>
      intro k h
      simp only [yn,yd] at h
      simp only [idxFrom,h.1,ym,if_false]
      exact ih _ h.2
   exact h2 l 0 h
  cases ha : l.any p
  ·simp -implicitDefEqProofs only [go_sem,ha] at h
   simp -implicitDefEqProofs only [go_sem,za3,h,hn ha]
  ·simp -implicitDefEqProofs only [go_sem,ha] at h
   simp -implicitDefEqProofs only [go_sem,za3,h]
 rw [ze (fn:=zbp) rfl]
 simp -implicitDefEqProofs only [go_sem,zbp,hI,zgW]
theorem zmo (l : List (PPhi)) (p : PPhi → Bool) (g : Nat) (fst caps : List C) (σ : zd) (hl : l.length ≤ 4294967296)
  (hf : ∀ x ∈ l,call T g (fst.map V.one ++ zE3 x :: caps.map V.one) σ = some (vB (p x),σ)) : ∀ (d k : Nat) (a2 a3 a6 a7 : V),l.length - k = d → k ≤ l.length →
  exec T zbj ⟨[vL (l.map rp),.one (.fn g fst caps),a2,a3,vI l.length,vI k,a6,a7],σ,σ.length,σ.length⟩ =
   some (if (l.drop k).any p = true then (.ret,⟨[vU,vU,vI (idxFrom p k (l.drop k)),vU,vU,vU,vU,vU],σ,σ.length,σ.length⟩) else (.exit 0,⟨[vU,vU,vU,vU,vU,vU,vU,vU],σ,σ.length,σ.length⟩)):=by
 intro d
 induction d with
 | zero =>
   intro k a2 a3 a6 a7 h1 h2
   have hk : k = l.length:=by omega
   subst hk
   rw [xl zbj rfl,zc1]
   simp -implicitDefEqProofs only [go_sem,yg,yf]
 | succ d ih =>
   intro k a2 a3 a6 a7 h1 h2
   have hk : k < l.length:=by omega
   have hd : l.drop k = l[k] :: l.drop (k + 1):=yb hk
   have hc:=hf l[k] (yi hk)
   rw [xl zbj rfl,zc1,hd]
   cases hp : p l[k]
   ·rw [hp] at hc
    simp -implicitDefEqProofs only [go_sem,ilt hk,zp hk,rp,hc,hp,idxFrom,za hk hl]
    exact ih (k + 1) _ _ _ _ (by omega) (by omega)
   ·rw [hp] at hc
    simp -implicitDefEqProofs only [go_sem,ilt hk,zp hk,rp,hc,hp,idxFrom]
theorem zjF (l : List (PPhi)) (p : PPhi → Bool) (g : Nat) (fst caps : List C) (σ : zd) (hl : l.length ≤ 4294967296)
  (hf : ∀ x ∈ l,call T g (fst.map V.one ++ zE3 x :: caps.map V.one) σ = some (vB (p x),σ)) :
  call T 199 [vL (l.map rp),.one (.fn g fst caps)] σ = some (vB (l.any p),σ):=by
 have hI : call T 234 [vL (l.map rp),.one (.fn g fst caps)] σ = some (vI (idxFrom p 0 l),σ):=by
  rw [ze (fn:=zbI) rfl]
  have h:=fun a2 a3 a6 a7 => zmo l p g fst caps σ hl hf l.length 0 a2 a3 a6 a7 (by omega) (by omega)
  simp only [yh,ye] at h
  have hn : l.any p = false → idxFrom p 0 l = -1:=fun h => by
   have:=zgW p l 0
   rw [h] at this
   have h2 : ∀ (l : List (PPhi)) k,l.any p = false → idxFrom p k l = -1:=by
    intro l
    induction l with
    | nil => exact fun _ _ => rfl
    | cons x r ih =>
      intro k h
      simp only [yn,yd] at h
      simp only [idxFrom,h.1,ym,if_false]
      exact ih _ h.2
   exact h2 l 0 h
  cases ha : l.any p
  ·simp -implicitDefEqProofs only [go_sem,ha] at h
   simp -implicitDefEqProofs only [go_sem,zbI,h,hn ha]
  ·simp -implicitDefEqProofs only [go_sem,ha] at h
   simp -implicitDefEqProofs only [go_sem,zbI,h]
 rw [ze (fn:=zcy) rfl]
 simp -implicitDefEqProofs only [go_sem,zcy,hI,zgW]
theorem zmT (l : List (POp)) (p : POp → Bool) (g : Nat) (fst caps : List C) (σ : zd) (hl : l.length ≤ 4294967296)
  (hf : ∀ x ∈ l,call T g (fst.map V.one ++ vOp x :: caps.map V.one) σ = some (vB (p x),σ)) : ∀ (d k : Nat) (a2 a3 a6 a7 : V),l.length - k = d → k ≤ l.length →
  exec T zbE ⟨[vL (l.map ro),.one (.fn g fst caps),a2,a3,vI l.length,vI k,a6,a7],σ,σ.length,σ.length⟩ =
   some (if (l.drop k).any p = true then (.ret,⟨[vU,vU,vI (idxFrom p k (l.drop k)),vU,vU,vU,vU,vU],σ,σ.length,σ.length⟩) else (.exit 0,⟨[vU,vU,vU,vU,vU,vU,vU,vU],σ,σ.length,σ.length⟩)):=by
 intro d
 induction d with
 | zero =>
   intro k a2 a3 a6 a7 h1 h2
   have hk : k = l.length:=by omega
   subst hk
   rw [xl zbE rfl,zdK]
   simp -implicitDefEqProofs only [go_sem,yg,yf]
 | succ d ih =>
   intro k a2 a3 a6 a7 h1 h2
   have hk : k < l.length:=by omega
   have hd : l.drop k = l[k] :: l.drop (k + 1):=yb hk
   have hc:=hf l[k] (yi hk)
   rw [xl zbE rfl,zdK,hd]
   cases hp : p l[k]
   ·rw [hp] at hc
    simp -implicitDefEqProofs only [go_sem,ilt hk,zp hk,ro,hc,hp,idxFrom,za hk hl]
    exact ih (k + 1) _ _ _ _ (by omega) (by omega)
   ·rw [hp] at hc
    simp -implicitDefEqProofs only [go_sem,ilt hk,zp hk,ro,hc,hp,idxFrom]
theorem zky (l : List (POp)) (p : POp → Bool) (g : Nat) (fst caps : List C) (σ : zd) (hl : l.length ≤ 4294967296)
  (hf : ∀ x ∈ l,call T g (fst.map V.one ++ vOp x :: caps.map V.one) σ = some (vB (p x),σ)) :
  call T 201 [vL (l.map ro),.one (.fn g fst caps)] σ = some (vB (l.any p),σ):=by
 have hI : call T 235 [vL (l.map ro),.one (.fn g fst caps)] σ = some (vI (idxFrom p 0 l),σ):=by
  rw [ze (fn:=zcw) rfl]
  have h:=fun a2 a3 a6 a7 => zmT l p g fst caps σ hl hf l.length 0 a2 a3 a6 a7 (by omega) (by omega)
  simp only [yh,ye] at h
  have hn : l.any p = false → idxFrom p 0 l = -1:=fun h => by
   have:=zgW p l 0
   rw [h] at this
   have h2 : ∀ (l : List (POp)) k,l.any p = false → idxFrom p k l = -1:=by
    intro l
    induction l with
    | nil => exact fun _ _ => rfl
    | cons x r ih =>
      intro k h
      simp only [yn,yd] at h
      simp only [idxFrom,h.1,ym,if_false]
      exact ih _ h.2
   exact h2 l 0 h
  cases ha : l.any p
  ·simp -implicitDefEqProofs only [go_sem,ha] at h
   simp -implicitDefEqProofs only [go_sem,zcw,h,hn ha]
  ·simp -implicitDefEqProofs only [go_sem,ha] at h
   simp -implicitDefEqProofs only [go_sem,zcw,h]
 rw [ze (fn:=zcQ) rfl]
 simp -implicitDefEqProofs only [go_sem,zcQ,hI,zgW]
theorem zk8 (l : List (List Int)) (p : List Int → Bool) (g : Nat) (fst caps : List C) (σ : zd) (hl : l.length ≤ 4294967296)
  (hf : ∀ x ∈ l,call T g (fst.map V.one ++ vIs x :: caps.map V.one) σ = some (vB (p x),σ)) : ∀ (d k : Nat) (a2 a3 a6 a7 : V),l.length - k = d → k ≤ l.length →
  exec T zaY ⟨[vLs l,.one (.fn g fst caps),a2,a3,vI l.length,vI k,a6,a7],σ,σ.length,σ.length⟩ =
   some (if (l.drop k).any p = true then (.ret,⟨[vU,vU,vI (idxFrom p k (l.drop k)),vU,vU,vU,vU,vU],σ,σ.length,σ.length⟩) else (.exit 0,⟨[vU,vU,vU,vU,vU,vU,vU,vU],σ,σ.length,σ.length⟩)):=by
 intro d
 induction d with
 | zero =>
   intro k a2 a3 a6 a7 h1 h2
   have hk : k = l.length:=by omega
   subst hk
   rw [xl zaY rfl,zcK]
   simp -implicitDefEqProofs only [go_sem,yg,yf]
 | succ d ih =>
   intro k a2 a3 a6 a7 h1 h2
   have hk : k < l.length:=by omega
   have hd : l.drop k = l[k] :: l.drop (k + 1):=yb hk
   have hc:=hf l[k] (yi hk)
   rw [xl zaY rfl,zcK,hd]
   cases hp : p l[k]
   ·rw [hp] at hc
    simp -implicitDefEqProofs only [go_sem,ilt hk,zp hk,rl,hc,hp,idxFrom,za hk hl]
    exact ih (k + 1) _ _ _ _ (by omega) (by omega)
   ·rw [hp] at hc
    simp -implicitDefEqProofs only [go_sem,ilt hk,zp hk,rl,hc,hp,idxFrom]
theorem zi8 (l : List (List Int)) (p : List Int → Bool) (g : Nat) (fst caps : List C) (σ : zd) (hl : l.length ≤ 4294967296)
  (hf : ∀ x ∈ l,call T g (fst.map V.one ++ vIs x :: caps.map V.one) σ = some (vB (p x),σ)) :
  call T 178 [vLs l,.one (.fn g fst caps)] σ = some (vB (l.any p),σ):=by
 have hI : call T 227 [vLs l,.one (.fn g fst caps)] σ = some (vI (idxFrom p 0 l),σ):=by
  rw [ze (fn:=zbc) rfl]
  have h:=fun a2 a3 a6 a7 => zk8 l p g fst caps σ hl hf l.length 0 a2 a3 a6 a7 (by omega) (by omega)
  simp only [yh,ye] at h
  have hn : l.any p = false → idxFrom p 0 l = -1:=fun h => by
   have:=zgW p l 0
   rw [h] at this
   have h2 : ∀ (l : List (List Int)) k,l.any p = false → idxFrom p k l = -1:=by
    intro l
    induction l with
    | nil => exact fun _ _ => rfl
    | cons x r ih =>
      intro k h
      simp only [yn,yd] at h
      simp only [idxFrom,h.1,ym,if_false]
      exact ih _ h.2
   exact h2 l 0 h
  cases ha : l.any p
  ·simp -implicitDefEqProofs only [go_sem,ha] at h
   simp -implicitDefEqProofs only [go_sem,zbc,h,hn ha]
  ·simp -implicitDefEqProofs only [go_sem,ha] at h
   simp -implicitDefEqProofs only [go_sem,zbc,h]
 rw [ze (fn:=zbP) rfl]
 simp -implicitDefEqProofs only [go_sem,zbP,hI,zgW]
end AC
namespace AC
open Go Go.A Go.A.Lex
attribute [go_sem] V.beq C.beq C.beqs Fz.beq Fz.beqR Value.beq
def zzA (v b : Int) : Int:=if zhF b = true then v % 2 ^ b.toNat else 0
theorem zdq {b : Int} (h : zhF b = true) : b = 1 ∨ b = 8 ∨ b = 16 ∨ b = 32 ∨ b = 64:=by
 simp only [zhF,ys,decide_eq_true_eq] at h
 omega
theorem zyW (n : Int) : Go.IntKind.u64.wrap n = n % 18446744073709551616:=by
 unfold Go.IntKind.wrap Go.IntKind.bits Go.IntKind.signed
 simp
@[go_sem] theorem zri (v b : Int) (h0 : 0 ≤ v) (h1 : v < 18446744073709551616) : call T 259 [zEd v,vI b] [] = some (zEd (zzA v b),[]):=by
  rw [ze (fn:=zjY) rfl]
  cases hm : zhF b
  ·simp -implicitDefEqProofs only [go_sem,zjY,zzA,hm]
  ·have w1 : Go.IntKind.i64.wrap (64 - 1) = 63:=by decide
   have w8 : Go.IntKind.i64.wrap (64 - 8) = 56:=by decide
   have w16 : Go.IntKind.i64.wrap (64 - 16) = 48:=by decide
   have w32 : Go.IntKind.i64.wrap (64 - 32) = 32:=by decide
   have w64 : Go.IntKind.i64.wrap (64 - 64) = 0:=by decide
   have hb : Go.IntKind.u64.bits = 64:=rfl
   rcases zdq hm with rfl | rfl | rfl | rfl | rfl
   all_goals
    simp -implicitDefEqProofs only [yL] at w1 w8 w16 w32 w64
    simp -implicitDefEqProofs only [go_sem,zjY,zzA,hm,w1,w8,w16,w32,w64,hb,zyW,Option.some.injEq,Prod.mk.injEq,V.one.injEq,C.f.injEq,Fz.lit.injEq,Value.int.injEq]
    simp
    try (rw [Int.fdiv_eq_ediv_of_nonneg _ (by omega)]; omega)
def zln (l : Int) : Bool:=decide (l = 2) || decide (l = 4) || decide (l = 8) || decide (l = 16)
def zeC (b l : Int) : Bool:=zhF b && (decide (l = 1) || (zln l && (decide (8 ≤ b) && decide (b * l ≤ 128))))
theorem zfo {l : Int} (h : zln l = true) : l = 2 ∨ l = 4 ∨ l = 8 ∨ l = 16:=by
 simp only [zln,ys,decide_eq_true_eq] at h
 omega
theorem zhw {b l : Int} (h : zeC b l = true) : zhF b = true ∧ (l = 1 ∨ l = 2 ∨ l = 4 ∨ l = 8 ∨ l = 16):=by
 simp only [zeC,yc,ys,decide_eq_true_eq] at h
 refine ⟨h.1,?_⟩
 rcases h.2 with h | h
 ·exact .inl h
 ·have:=zfo h.1
  omega
@[go_sem] theorem zx6 (b l : Int) : call T 251 [vI b,vI l] [] = some (vB (zeC b l),[]):=by
  rw [ze (fn:=zdW) rfl]
  cases hm : zhF b
  ·simp -implicitDefEqProofs only [go_sem,zdW,zeC,hm]
  by_cases c1 : l = 1
  ·simp -implicitDefEqProofs only [go_sem,zdW,zeC,hm,c1]
  cases hl : zln l
  ·have hl':=hl
   simp only [zln,yd,decide_eq_false_iff_not] at hl'
   obtain ⟨⟨⟨c2,c3⟩,c4⟩,c5⟩:=hl'
   simp -implicitDefEqProofs only [go_sem,zdW,zeC,hm,c1,c2,c3,c4,c5,hl]
  ·by_cases c8 : 8 ≤ b
   ·have hm':=zdq hm
    rcases zfo hl with rfl | rfl | rfl | rfl
    all_goals
     have w2 : Go.IntKind.i64.wrap (b * 2) = b * 2:=wrap_i64 (by omega) (by omega)
     have w4 : Go.IntKind.i64.wrap (b * 4) = b * 4:=wrap_i64 (by omega) (by omega)
     have w8 : Go.IntKind.i64.wrap (b * 8) = b * 8:=wrap_i64 (by omega) (by omega)
     have w16 : Go.IntKind.i64.wrap (b * 16) = b * 16:=wrap_i64 (by omega) (by omega)
     simp -implicitDefEqProofs only [go_sem,zdW,zeC,hm,c1,hl,c8,w2,w4,w8,w16]
   ·rcases zfo hl with rfl | rfl | rfl | rfl
    all_goals simp -implicitDefEqProofs only [go_sem,zdW,zeC,hm,c1,hl,c8]
def zfv (k : Int) : Bool:=decide (k = 17) || decide (k = 19)
@[go_sem] theorem zxC (k : Int) : call T 237 [vI k] [] = some (vB (zfv k),[]):=by
  rw [ze (fn:=ziy) rfl]
  by_cases c1 : k = 17 <;> simp -implicitDefEqProofs only [go_sem,ziy,zfv,c1]
@[go_sem] theorem zBx (l : List (List Fz)) : call T 260 [vL l] [] = some (vL l,[]):=by
  rw [ze (fn:=zmG) rfl]
  simp -implicitDefEqProofs only [go_sem,zmG]
theorem zkm {n f : Nat} {args : List V} {r : V × zd} (h : zfy T (zN T n) f args [] = some r) : call T f args [] = some r:=zj5 T n _ _ _ _ h
set_option maxRecDepth 100000 in
theorem znT (s : Int × Int) (l : Int) (h : l = 1 ∨ l = 2 ∨ l = 4 ∨ l = 8 ∨ l = 16) : call T 261 [vL [rs s],vI l] [] = some (vL (yF l.toNat (rs s)),[]):=by
 rcases h with rfl | rfl | rfl | rfl | rfl
 ·exact zkm (n:=200) (by kernel_rfl)
 ·exact zkm (n:=200) (by kernel_rfl)
 ·exact zkm (n:=200) (by kernel_rfl)
 ·exact zkm (n:=200) (by kernel_rfl)
 ·exact zkm (n:=200) (by kernel_rfl)
end AC
namespace AC
open Go Go.A Go.A.Lex
def arith (k : Int) : Bool:=decide (k = 1) || decide (k = 2) || decide (k = 3) || decide (k = 5) || decide (k = 6) || decide (k = 7) || decide (k = 8) || decide (k = 9)
def asks (k : Int) : Bool:=decide (k = 4) || decide (k = 10) || decide (k = 11) || decide (k = 12)
def zDO (o : POp) : Prop:=0 ≤ o.imm ∧ o.imm < 18446744073709551616
def zK (o : POp) : List (Int × Int) × Bool :=
 let own:=(o.bits,o.lanes)
 if o.kind = 0 then ([],decide (zzA o.imm o.bits = o.imm))
 else if arith o.kind then ([own,own],decide (o.imm = 0))
 else if asks o.kind then ([own,own],decide (o.imm = 0) && decide (o.lanes = 1))
 else if o.kind = 13 then ([(1,1),own,own],decide (o.imm = 0))
 else if o.kind = 14 then ([(min o.imm 128,1)],decide (o.lanes = 1) && (decide (o.imm < o.bits) && zhF o.imm))
 else if o.kind = 15 then ([(min o.imm 128,1)],decide (o.lanes = 1) && (decide (o.bits < o.imm) && (decide (o.imm ≤ 64) && zhF o.imm)))
 else if o.kind = 16 then ([(64,1)],decide (o.imm = 0) && decide (8 ≤ o.bits))
 else if o.kind = 17 then ([(64,1),own],decide (o.imm = 0) && decide (8 ≤ o.bits))
 else if o.kind = 18 ∨ o.kind = 19 then ([(1,1),(64,1),own],decide (o.imm = 0) && (decide (o.lanes = 1) && decide (8 ≤ o.bits)))
 else if o.kind = 20 then ([(1,1),own,own,own],decide (o.imm = 0) && decide (o.lanes = 1))
 else if o.kind = 21 then (yF o.lanes.toNat (o.bits,1),decide (o.imm = 0) && !decide (o.lanes = 1))
 else if o.kind = 22 then ([own],!decide (o.lanes = 1) && decide (o.imm < o.lanes))
 else ([],false)
def zc0 (o : POp) : V:=.tup [vSs (zK o).1,vB (zK o).2]
set_option maxHeartbeats 4000000
section
variable (o : POp) (hs : zeC o.bits o.lanes = true) (ho : zDO o)
include hs ho
theorem zDr (h : arith o.kind = true) : call T 252 [vOp o] [] = some (zc0 o,[]):=by
 rw [ze (fn:=zk) rfl]
 obtain ⟨kind,bits,lanes,dst,args,imm⟩:=o
 have h':=h
 simp only [arith,ys,decide_eq_true_eq] at h h'
 rcases h' with ((((((rfl | rfl) | rfl) | rfl) | rfl) | rfl) | rfl) | rfl
 all_goals simp -implicitDefEqProofs only [go_sem,zk,zc0,zK,rs,arith,h]
theorem zC2 (h : asks o.kind = true) : call T 252 [vOp o] [] = some (zc0 o,[]):=by
 rw [ze (fn:=zk) rfl]
 obtain ⟨kind,bits,lanes,dst,args,imm⟩:=o
 have h':=h
 simp only [asks,ys,decide_eq_true_eq] at h h'
 by_cases c : imm = 0
 all_goals
  rcases h' with ((rfl | rfl) | rfl) | rfl
  all_goals simp -implicitDefEqProofs only [go_sem,zk,zc0,zK,rs,arith,asks,h,c]
theorem zDt (h1 : arith o.kind = false) (h2 : asks o.kind = false) : call T 252 [vOp o] [] = some (zc0 o,[]):=by
 rw [ze (fn:=zk) rfl]
 obtain ⟨kind,bits,lanes,dst,args,imm⟩:=o
 obtain ⟨hm,hl⟩:=zhw hs
 simp only [arith,yd,decide_eq_false_iff_not] at h1
 simp only [asks,yd,decide_eq_false_iff_not] at h2
 obtain ⟨⟨⟨⟨⟨⟨⟨n1,n2⟩,n3⟩,n5⟩,n6⟩,n7⟩,n8⟩,n9⟩:=h1
 obtain ⟨⟨⟨n4,n10⟩,n11⟩,n12⟩:=h2
 dsimp only at *
 by_cases c0 : kind = 0
 ·subst c0
  have:=zri imm bits ho.1 ho.2
  simp -implicitDefEqProofs only [go_sem] at this
  simp -implicitDefEqProofs only [go_sem,zk,zc0,zK,rs,this]
 by_cases c13 : kind = 13
 ·subst c13
  simp -implicitDefEqProofs only [go_sem,zk,zc0,zK,rs,arith,asks]
 have hmi : Go.IntKind.i64.wrap (min imm 128) = min imm 128:=wrap_i64 (by have:=ho.1; dsimp only at this; omega) (by omega)
 have hbu : Go.IntKind.u64.wrap bits = bits:=by
  have:=zdq hm
  exact wrap_u64 (by omega) (by omega)
 have hlu : Go.IntKind.u64.wrap lanes = lanes:=wrap_u64 (by omega) (by omega)
 by_cases c14 : kind = 14
 ·subst c14
  by_cases d1 : lanes = 1
  ·by_cases d2 : imm < bits
   ·have hii : Go.IntKind.i64.wrap imm = imm:=wrap_i64 (by have:=ho.1; dsimp only at this; omega) (by have:=zdq hm; omega)
    simp -implicitDefEqProofs only [go_sem,zk,zc0,zK,rs,arith,asks,d1,d2,hmi,hbu,hii]
   ·simp -implicitDefEqProofs only [go_sem,zk,zc0,zK,rs,arith,asks,d1,d2,hmi,hbu]
  ·simp -implicitDefEqProofs only [go_sem,zk,zc0,zK,rs,arith,asks,d1,hmi]
 by_cases c15 : kind = 15
 ·subst c15
  by_cases d1 : lanes = 1
  ·by_cases d2 : bits < imm
   ·by_cases d3 : imm ≤ 64
    ·have hii : Go.IntKind.i64.wrap imm = imm:=wrap_i64 (by have:=ho.1; dsimp only at this; omega) (by omega)
     simp -implicitDefEqProofs only [go_sem,zk,zc0,zK,rs,arith,asks,d1,d2,d3,hmi,hbu,hii]
    ·simp -implicitDefEqProofs only [go_sem,zk,zc0,zK,rs,arith,asks,d1,d2,d3,hmi,hbu]
   ·simp -implicitDefEqProofs only [go_sem,zk,zc0,zK,rs,arith,asks,d1,d2,hmi,hbu]
  ·simp -implicitDefEqProofs only [go_sem,zk,zc0,zK,rs,arith,asks,d1,hmi]
 by_cases c16 : kind = 16
 ·subst c16
  by_cases d1 : imm = 0 <;> simp -implicitDefEqProofs only [go_sem,zk,zc0,zK,rs,arith,asks,d1]
 by_cases c17 : kind = 17
 ·subst c17
  by_cases d1 : imm = 0 <;> simp -implicitDefEqProofs only [go_sem,zk,zc0,zK,rs,arith,asks,d1]
 by_cases c18 : kind = 18
 ·subst c18
  by_cases d1 : imm = 0 <;> by_cases d2 : lanes = 1 <;> simp -implicitDefEqProofs only [go_sem,zk,zc0,zK,rs,arith,asks,d1,d2]
 by_cases c19 : kind = 19
 ·subst c19
  by_cases d1 : imm = 0 <;> by_cases d2 : lanes = 1 <;> simp -implicitDefEqProofs only [go_sem,zk,zc0,zK,rs,arith,asks,d1,d2]
 by_cases c20 : kind = 20
 ·subst c20
  by_cases d1 : imm = 0 <;> simp -implicitDefEqProofs only [go_sem,zk,zc0,zK,rs,arith,asks,d1]
 by_cases c21 : kind = 21
 ·subst c21
  have hr:=znT (bits,1) lanes hl
  simp -implicitDefEqProofs only [go_sem,rs] at hr
  by_cases d1 : imm = 0 <;> simp -implicitDefEqProofs only [go_sem,zk,zc0,zK,rs,arith,asks,d1,hr,List.map_replicate]
 by_cases c22 : kind = 22
 ·subst c22
  by_cases d1 : lanes = 1
  ·simp -implicitDefEqProofs only [go_sem,zk,zc0,zK,rs,arith,asks,d1]
  ·simp -implicitDefEqProofs only [go_sem,zk,zc0,zK,rs,arith,asks,d1,hlu]
 simp -implicitDefEqProofs only [go_sem,zk,zc0,zK,rs,arith,asks,n1,n2,n3,n4,n5,n6,n7,n8,n9,n10,n11,n12,c0,c13,c14,c15,c16,c17,c18,c19,c20,c21,c22]
theorem zp8 : call T 252 [vOp o] [] = some (zc0 o,[]):=by
 cases h1 : arith o.kind
 ·cases h2 : asks o.kind
  ·exact zDt o hs ho h1 h2
  ·exact zC2 o hs ho h2
 ·exact zDr o hs ho h1
end
end AC
namespace AC
open Go Go.A Go.A.Lex
def zgq (o : POp) : Bool:=zeC o.bits o.lanes && ((zK o).2 && ((if zfv o.kind then decide (o.dst = 0) else value o.dst) && (decide ((zK o).1.length = o.args.length) && !o.args.any fun v => !value v)))
@[go_sem] theorem zye (v : Int) (σ : zd) : call T 254 [vI v] σ = some (vB (!value v),σ):=by
  rw [ze (fn:=zjz) rfl]
  simp -implicitDefEqProofs only [go_sem,zjz]
@[go_sem] theorem ziZ (o : POp) (ho : zDO o) (hl : o.args.length ≤ 4294967296) : call T 236 [vOp o] [] = some (vB (zgq o),[]):=by
  rw [ze (fn:=zcR) rfl]
  cases hs : zeC o.bits o.lanes
  ·simp -implicitDefEqProofs only [go_sem,zcR,zgq,hs]
  have ht:=zp8 o hs ho
  have hc:=fun σ => zaQ o.args (fun v => !value v) 254 [] [] σ hl (fun x _ => by simp -implicitDefEqProofs only [go_sem])
  simp -implicitDefEqProofs only [go_sem,zc0] at ht hc
  cases h1 : (zK o).2
  ·cases h2 : zfv o.kind
   ·simp -implicitDefEqProofs only [go_sem,zcR,zgq,hs,ht,h1,h2]
   ·simp -implicitDefEqProofs only [go_sem,zcR,zgq,hs,ht,h1,h2]
  ·cases h2 : zfv o.kind
   ·cases h3 : value o.dst
    ·simp -implicitDefEqProofs only [go_sem,zcR,zgq,hs,ht,h1,h2,h3]
    ·by_cases h4 : (zK o).1.length = o.args.length
     ·simp -implicitDefEqProofs only [go_sem,zcR,zgq,hs,ht,h1,h2,h3,h4,hc]
     ·have h4' : ¬ ((zK o).1.length : Int) = (o.args.length : Int):=by omega
      simp -implicitDefEqProofs only [go_sem,zcR,zgq,hs,ht,h1,h2,h3,h4,h4']
   ·by_cases h3 : o.dst = 0
    ·by_cases h4 : (zK o).1.length = o.args.length
     ·simp -implicitDefEqProofs only [go_sem,zcR,zgq,hs,ht,h1,h2,eq_true h3,h4,hc]
     ·have h4' : ¬ ((zK o).1.length : Int) = (o.args.length : Int):=by omega
      simp -implicitDefEqProofs only [go_sem,zcR,zgq,hs,ht,h1,h2,eq_true h3,h4,h4']
    ·simp -implicitDefEqProofs only [go_sem,zcR,zgq,hs,ht,h1,h2,h3]
theorem zxt {o : POp} (h : zgq o = true) : zeC o.bits o.lanes = true:=by
 simp only [zgq,yc] at h
 exact h.1
def zaW (o : POp) : List (Int × Int):=if zgq o = true then (zK o).1 else []
@[go_sem] theorem zpC (o : POp) (ho : zDO o) (hl : o.args.length ≤ 4294967296) : call T 238 [vOp o] [] = some (vSs (zaW o),[]):=by
  rw [ze (fn:=zho) rfl]
  have hm:=ziZ o ho hl
  cases h : zgq o
  ·simp -implicitDefEqProofs only [go_sem,h] at hm
   simp -implicitDefEqProofs only [go_sem,zho,hm,zaW,h]
  ·have ht:=zp8 o (zxt h) ho
   simp -implicitDefEqProofs only [go_sem,h,zc0] at hm ht
   simp -implicitDefEqProofs only [go_sem,zho,hm,ht,zaW,h]
def zab (o : POp) : Int × Int :=
 if zgq o = false ∨ zfv o.kind = true then (0,0) else if 10 ≤ o.kind ∧ o.kind ≤ 12 then (1,1) else if o.kind = 22 then (o.bits,1) else (o.bits,o.lanes)
@[go_sem] theorem zoL (o : POp) (ho : zDO o) (hl : o.args.length ≤ 4294967296) : call T 206 [vOp o] [] = some (.tup [vI (zab o).1,vI (zab o).2],[]):=by
  rw [ze (fn:=zcZ) rfl]
  have hm:=ziZ o ho hl
  cases h : zgq o
  ·simp -implicitDefEqProofs only [go_sem,h] at hm
   simp -implicitDefEqProofs only [go_sem,zcZ,hm,zab,h]
  ·simp -implicitDefEqProofs only [go_sem,h] at hm
   cases h1 : zfv o.kind
   ·by_cases h2 : 10 ≤ o.kind
    ·by_cases h3 : o.kind ≤ 12
     ·simp -implicitDefEqProofs only [go_sem,zcZ,hm,zab,h,h1,h2,h3]
     ·by_cases h4 : o.kind = 22
      ·simp -implicitDefEqProofs only [h4] at h1 hm h2 h3
       simp -implicitDefEqProofs only [go_sem,zcZ,hm,zab,h,h1,h2,h3,h4]
      ·simp -implicitDefEqProofs only [go_sem,zcZ,hm,zab,h,h1,h2,h3,h4,and_false]
    ·have h4 : ¬ o.kind = 22:=by omega
     simp -implicitDefEqProofs only [go_sem,zcZ,hm,zab,h,h1,h2,h4,false_and]
   ·simp -implicitDefEqProofs only [go_sem,zcZ,hm,zab,h,h1]
def impure (k : Int) : Bool:=decide (k = 4) || decide (k = 16) || decide (k = 17) || decide (k = 18) || decide (k = 19) || decide (k = 20)
def pure (k : Int) : Bool:=!impure k && (decide (0 ≤ k) && decide (k ≤ 22))
@[go_sem] theorem zpI (k : Int) : call T 68 [vI k] [] = some (vB (pure k),[]):=by
  rw [ze (fn:=zda) rfl]
  by_cases c1 : k = 4
  ·simp -implicitDefEqProofs only [go_sem,zda,pure,impure,c1]
  by_cases c2 : k = 16
  ·simp -implicitDefEqProofs only [go_sem,zda,pure,impure,c1,c2]
  by_cases c3 : k = 17
  ·simp -implicitDefEqProofs only [go_sem,zda,pure,impure,c1,c2,c3]
  by_cases c4 : k = 18
  ·simp -implicitDefEqProofs only [go_sem,zda,pure,impure,c1,c2,c3,c4]
  by_cases c5 : k = 19
  ·simp -implicitDefEqProofs only [go_sem,zda,pure,impure,c1,c2,c3,c4,c5]
  by_cases c6 : k = 20
  ·simp -implicitDefEqProofs only [go_sem,zda,pure,impure,c1,c2,c3,c4,c5,c6]
  by_cases c7 : 0 ≤ k <;> simp -implicitDefEqProofs only [go_sem,zda,pure,impure,c1,c2,c3,c4,c5,c6,c7]
end AC
namespace AC
open Go Go.A Go.A.Lex
def num (n : Int) : Bool:=decide (0 ≤ n) && decide (n ≤ 2147483647)
@[go_sem] theorem zAq (n : Int) (σ : zd) : call T 192 [vI n] σ = some (vB (!num n),σ):=by
  rw [ze (fn:=zg4) rfl]
  by_cases c : n < 0
  ·have c' : ¬ 0 ≤ n:=by omega
   simp -implicitDefEqProofs only [go_sem,zg4,num,c,c']
  ·have c' : 0 ≤ n:=by omega
   by_cases d : 2147483647 < n
   ·have d' : ¬ n ≤ 2147483647:=by omega
    simp -implicitDefEqProofs only [go_sem,zg4,num,c,c',d,d']
   ·have d' : n ≤ 2147483647:=by omega
    simp -implicitDefEqProofs only [go_sem,zg4,num,c,c',d,d']
theorem zoo {α : Type} (p : α → Bool) (l : List α) : (!l.any fun x => !p x) = l.all p:=by
 induction l with
 | nil => rfl
 | cons x r ih => simp only [yn,yk,← ih,yS,yR]
@[go_sem] theorem zf9 (l : List Int) (hl : l.length ≤ 4294967296) : call T 152 [vIs l] [] = some (vB (l.all num),[]):=by
  rw [ze (fn:=zop) rfl]
  have hc:=fun σ => zaQ l (fun v => !num v) 192 [] [] σ hl (fun x _ => by simp -implicitDefEqProofs only [go_sem])
  simp -implicitDefEqProofs only [go_sem] at hc
  simp -implicitDefEqProofs only [go_sem,zop,hc,zoo]
theorem zrk (a : Int) : call T 152 [vL [[ei a]]] [] = some (vB (num a),[]):=by
 have:=zf9 [a] (by simp)
 simpa only [vIs,yx,yz,ri,yk,yo,yl] using this
theorem zmh (a b : Int) : call T 152 [vL [[ei a],[ei b]]] [] = some (vB (num a && num b),[]):=by
 have:=zf9 [a,b] (by simp)
 simpa only [vIs,yx,yz,ri,yk,yo,yl] using this
theorem zrX (a b c d : Int) : call T 152 [vL [[ei a],[ei b],[ei c],[ei d]]] [] = some (vB (num a && (num b && (num c && num d))),[]):=by
 have:=zf9 [a,b,c,d] (by simp)
 simpa only [vIs,yx,yz,ri,yk,yo,yl] using this
def zfG (l : List Int) : Bool:=decide (l.length ≤ 64) && l.all num
theorem zoV (ls : List (List Int)) (hl : ls.length ≤ 4294967296) (hls : ∀ l ∈ ls,l.length ≤ 4294967296) : ∀ (d k : Nat) (a0 a1 a2 a6 a7 : V),ls.length - k = d → k ≤ ls.length →
  exec T zgt ⟨[a0,a1,a2,vLs ls,vI ls.length,vI k,a6,a7],[],0,0⟩ =
   some (if (ls.drop k).all zfG = true then (.exit 0,⟨[vU,vU,vU,vU,vU,vU,vU,vU],[],0,0⟩) else (.ret,⟨[vU,vB false,vU,vU,vU,vU,vU,vU],[],0,0⟩)):=by
 intro d
 induction d with
 | zero =>
   intro k a0 a1 a2 a6 a7 h1 h2
   have hk : k = ls.length:=by omega
   subst hk
   rw [xl zgt rfl,ziz]
   simp -implicitDefEqProofs only [go_sem,yg,yf,yo]
 | succ d ih =>
   intro k a0 a1 a2 a6 a7 h1 h2
   have hk : k < ls.length:=by omega
   have hd : ls.drop k = ls[k] :: ls.drop (k + 1):=yb hk
   have hc:=zf9 ls[k] (hls _ (yi hk))
   rw [xl zgt rfl,ziz,hd]
   by_cases c : ls[k].length ≤ 64
   ·have c' : ¬ (64 : Int) < (ls[k].length : Int):=by omega
    cases ha : ls[k].all num
    ·simp -implicitDefEqProofs only [go_sem,ha] at hc
     simp -implicitDefEqProofs only [go_sem,ilt hk,zp hk,rl,c',hc,zfG,c,ha]
    ·simp -implicitDefEqProofs only [go_sem,ha] at hc
     simp -implicitDefEqProofs only [go_sem,ilt hk,zp hk,rl,c',hc,zfG,c,ha,za hk hl]
     exact ih (k + 1) _ _ _ _ _ (by omega) (by omega)
   ·have c' : (64 : Int) < (ls[k].length : Int):=by omega
    simp -implicitDefEqProofs only [go_sem,ilt hk,zp hk,rl,c',zfG,c]
theorem zjW (ls : List (List Int)) (hl : ls.length ≤ 4294967296) (hls : ∀ l ∈ ls,l.length ≤ 4294967296) : call T 194 [vLs ls] [] = some (vB (ls.all zfG),[]):=by
 rw [ze (fn:=zjM) rfl]
 have h:=fun a0 a1 a2 a6 a7 => zoV ls hl hls ls.length 0 a0 a1 a2 a6 a7 (by omega) (by omega)
 simp only [yh,ye] at h
 cases ha : ls.all zfG <;> simp -implicitDefEqProofs only [go_sem,ha] at h <;> simp -implicitDefEqProofs only [go_sem,zjM,h]
end AC
namespace AC
open Go Go.A Go.A.Lex
theorem zeY {α : Type} {p : α → Bool} {l : List α} (h : l.find? (fun x => !p x) = none) : l.all p = true:=by
 simp only [List.find?_eq_none,yp,Bool.not_eq_false] at h
 simpa [List.all_eq_true] using h
theorem zeT {α : Type} {p : α → Bool} {l : List α} {x : α} (h : l.find? (fun x => !p x) = some x) : l.all p = false:=by
 have h1:=List.find?_some h
 have h2:=List.mem_of_find?_eq_some h
 simp only [yp] at h1
 exact List.all_eq_false.2 ⟨x,h2,by simp [h1]⟩
section ends
variable {α : Type} (σ r : List α) (o p q' : α)
theorem zBw : (σ ++ o :: r)[σ.length]? = some o:=by simp
theorem zBQ : (σ ++ o :: p :: r)[σ.length + 1]? = some p:=by simp
theorem zAX : (σ ++ o :: p :: q' :: r)[σ.length + 2]? = some q':=by simp
theorem zrO (x : α) : (σ ++ o :: r).set σ.length x = σ ++ x :: r:=by simp [yu]
theorem zBL (x : α) : (σ ++ o :: p :: r).set (σ.length + 1) x = σ ++ o :: x :: r:=by simp [yu]
theorem zBm (x : α) : (σ ++ o :: p :: q' :: r).set (σ.length + 2) x = σ ++ o :: p :: x :: r:=by simp [yu]
theorem zxX : (σ ++ r).take σ.length = σ:=by simp
theorem zzu : (σ ++ o :: r).take (σ.length + 1) = σ ++ [o]:=by simp [yI,yr]
theorem zyP : (σ ++ o :: p :: r).take (σ.length + 2) = σ ++ [o,p]:=by simp [yI,yr]
end ends
theorem zCK (n : Nat) : (n + 1 ≤ n) = False:=by simp
theorem zDq (n : Nat) : (n + 2 ≤ n) = False:=by simp
theorem zCL (n : Nat) : (n + 3 ≤ n) = False:=by simp
theorem zCC (n : Nat) : (n + 4 ≤ n) = False:=by simp
theorem zDk (n : Nat) : (n + 5 ≤ n) = False:=by simp
theorem zmM (n : Nat) : ∀ (a b : List Ob),Obs.lt n (a ++ b) = (Obs.lt n a && Obs.lt n b)
 | [],b => by simp [Obs.lt]
 | x :: a,b => by simp [Obs.lt,zmM n a b,Bool.and_assoc]
attribute [go_sem] zBw zBQ zAX zrO zBL zBm zxX zzu zyP zCK zDq zCL zCC zDk zmM List.take_left'
end AC
namespace AC
open Go Go.A Go.A.Lex
def zhh (p : PPhi) : Bool:=(num p.bits && num p.dst) && (zfG p.src && zfG p.args)
def zk2 (o : POp) : Bool:=(num o.kind && (num o.bits && (num o.lanes && num o.dst))) && zfG o.args
def zo2 (b : PBlock) : Bool:=(num b.kind && num b.arg) && zfG b.to
def zqP (b : PBlock) : Bool:=b.phis.all zhh && (b.ops.all zk2 && zo2 b)
def zEf (p : PPhi) : Prop:=p.src.length ≤ 4294967296 ∧ p.args.length ≤ 4294967296
def zue (o : POp) : Prop:=zDO o ∧ o.args.length ≤ 4294967296
structure okB (b : PBlock) : Prop where
 phis : b.phis.length ≤ 4294967296
 ops : b.ops.length ≤ 4294967296
 phi : ∀ p ∈ b.phis,zEf p
 op : ∀ o ∈ b.ops,zue o
 to : b.to.length ≤ 4294967296
theorem zoQ (a : List Int) (ha : a.length ≤ 4294967296) : call T 194 [vL [[eI a]]] [] = some (vB (zfG a),[]):=by
 have:=zjW [a] (by simp) (by simpa using ha)
 simpa only [vLs,yx,yz,rl,yk,yo,yl] using this
theorem zuQ (a b : List Int) (ha : a.length ≤ 4294967296) (hb : b.length ≤ 4294967296) : call T 194 [vL [[eI a],[eI b]]] [] = some (vB (zfG a && zfG b),[]):=by
 have:=zjW [a,b] (by simp) (by simpa using ⟨ha,hb⟩)
 simpa only [vLs,yx,yz,rl,yk,yo,yl] using this
section
variable (b : PBlock) (hb : okB b)
include hb
theorem zuq : ∀ (d k : Nat) (a0 a2 a3 a4 a8 a9 a10 a11 a12 a13 a14 : V),b.phis.length - k = d → k ≤ b.phis.length →
  exec T ze1 ⟨[a0,.one (.ptr 0 0 0 0),a2,a3,a4,vL (b.phis.map rp),vI b.phis.length,vI k,a8,a9,a10,a11,a12,a13,a14],[.cells 0 5 [zq b]],0,0⟩ =
   some (match (b.phis.drop k).find? (fun x => !zhh x) with | none => (.exit 0,⟨[vU,.one (.ptr 0 0 0 0),vU,vU,vU,vU,vU,vU,vU,vU,vU,vU,vU,vU,vU],[.cells 0 5 [zq b]],0,0⟩) | some x => (.ret,⟨[vU,vU,vB false,vU,vU,vU,vU,vU,vU,vU,vU,vU,vU,vU,vU],[.cells 0 5 [zq b],.cells 0 4 [zuO x]],0,0⟩)):=by
 intro d
 induction d with
 | zero =>
   intro k a0 a2 a3 a4 a8 a9 a10 a11 a12 a13 a14 h1 h2
   have hk : k = b.phis.length:=by omega
   subst hk
   rw [xl ze1 rfl,zga]
   simp -implicitDefEqProofs only [go_sem,yg,yf,yM]
 | succ d ih =>
   intro k a0 a2 a3 a4 a8 a9 a10 a11 a12 a13 a14 h1 h2
   have hk : k < b.phis.length:=by omega
   have hd : b.phis.drop k = b.phis[k] :: b.phis.drop (k + 1):=yb hk
   have ho:=hb.phi _ (yi hk)
   have c1:=zmh b.phis[k].bits b.phis[k].dst
   have c2:=zuQ b.phis[k].src b.phis[k].args ho.1 ho.2
   rw [xl ze1 rfl,zga,hd]
   cases e1 : (num b.phis[k].bits && num b.phis[k].dst)
   ·simp -implicitDefEqProofs only [go_sem,e1] at c1 c2
    simp -implicitDefEqProofs only [go_sem,ilt hk,zp hk,rp,c1,c2,zhh,yq,e1]
   ·cases e2 : (zfG b.phis[k].src && zfG b.phis[k].args)
    ·simp -implicitDefEqProofs only [go_sem,e1,e2] at c1 c2
     simp -implicitDefEqProofs only [go_sem,ilt hk,zp hk,rp,c1,c2,zhh,yq,e1,e2]
    ·simp -implicitDefEqProofs only [go_sem,e1,e2] at c1 c2
     simp -implicitDefEqProofs only [go_sem,ilt hk,zp hk,rp,c1,c2,zhh,yq,e1,e2,za hk hb.phis]
     exact ih (k + 1) _ _ _ _ _ _ _ _ _ _ _ (by omega) (by omega)
theorem zuf : ∀ (d k : Nat) (a0 a2 a3 a4 a5 a6 a7 a8 a9 a13 a14 : V),b.ops.length - k = d → k ≤ b.ops.length →
  exec T ze3 ⟨[a0,.one (.ptr 0 0 0 0),a2,a3,a4,a5,a6,a7,a8,a9,vL (b.ops.map ro),vI b.ops.length,vI k,a13,a14],[.cells 0 5 [zq b]],0,0⟩ =
   some (match (b.ops.drop k).find? (fun x => !zk2 x) with | none => (.exit 2,⟨[vU,.one (.ptr 0 0 0 0),vU,vU,vU,vU,vU,vU,vU,vU,vU,vU,vU,vU,vU],[.cells 0 5 [zq b]],0,0⟩) | some x => (.ret,⟨[vU,vU,vB false,vU,vU,vU,vU,vU,vU,vU,vU,vU,vU,vU,vU],[.cells 0 5 [zq b],.cells 0 6 [cOp x]],0,0⟩)):=by
 intro d
 induction d with
 | zero =>
   intro k a0 a2 a3 a4 a5 a6 a7 a8 a9 a13 a14 h1 h2
   have hk : k = b.ops.length:=by omega
   subst hk
   rw [xl ze3 rfl,zgg]
   simp -implicitDefEqProofs only [go_sem,yg,yf,yM]
 | succ d ih =>
   intro k a0 a2 a3 a4 a5 a6 a7 a8 a9 a13 a14 h1 h2
   have hk : k < b.ops.length:=by omega
   have hd : b.ops.drop k = b.ops[k] :: b.ops.drop (k + 1):=yb hk
   have ho:=hb.op _ (yi hk)
   have c1:=zrX b.ops[k].kind b.ops[k].bits b.ops[k].lanes b.ops[k].dst
   have c2:=zoQ b.ops[k].args ho.2
   rw [xl ze3 rfl,zgg,hd]
   cases e1 : (num b.ops[k].kind && (num b.ops[k].bits && (num b.ops[k].lanes && num b.ops[k].dst)))
   ·simp -implicitDefEqProofs only [go_sem,e1] at c1 c2
    simp -implicitDefEqProofs only [go_sem,ilt hk,zp hk,ro,c1,c2,zk2,yq,e1]
   ·cases e2 : zfG b.ops[k].args
    ·simp -implicitDefEqProofs only [go_sem,e1,e2] at c1 c2
     simp -implicitDefEqProofs only [go_sem,ilt hk,zp hk,ro,c1,c2,zk2,yq,e1,e2]
    ·simp -implicitDefEqProofs only [go_sem,e1,e2] at c1 c2
     simp -implicitDefEqProofs only [go_sem,ilt hk,zp hk,ro,c1,c2,zk2,yq,e1,e2,za hk hb.ops]
     exact ih (k + 1) _ _ _ _ _ _ _ _ _ _ _ (by omega) (by omega)
set_option maxRecDepth 10000 in
@[go_sem] theorem zrY : call T 155 [zpD b] [] = some (vB (zqP b),[]):=by
  rw [ze (fn:=zcU) rfl]
  have h0:=fun a0 a2 a3 a4 a8 a9 a10 a11 a12 a13 a14 => zuq b hb b.phis.length 0 a0 a2 a3 a4 a8 a9 a10 a11 a12 a13 a14 (by omega) (by omega)
  have h1:=fun a0 a2 a3 a4 a5 a6 a7 a8 a9 a13 a14 => zuf b hb b.ops.length 0 a0 a2 a3 a4 a5 a6 a7 a8 a9 a13 a14 (by omega) (by omega)
  have c1:=zmh b.kind b.arg
  have c2:=zoQ b.to hb.to
  simp only [yh,ye] at h0 h1
  cases e1 : b.phis.find? (fun x => !zhh x) with
  | some x =>
    have a1:=zeT e1
    simp -implicitDefEqProofs only [go_sem,e1] at h0
    simp -implicitDefEqProofs only [go_sem,zcU,h0,zqP,a1]
  | none =>
  have a1:=zeY e1
  cases e2 : b.ops.find? (fun x => !zk2 x) with
  | some x =>
    have a2:=zeT e2
    simp -implicitDefEqProofs only [go_sem,e1,e2] at h0 h1
    simp -implicitDefEqProofs only [go_sem,zcU,h0,h1,zqP,a1,a2]
  | none =>
  have a2:=zeY e2
  simp -implicitDefEqProofs only [go_sem,e1,e2] at h0 h1
  cases e3 : (num b.kind && num b.arg)
  ·simp -implicitDefEqProofs only [go_sem,e3] at c1 c2
   simp -implicitDefEqProofs only [go_sem,zcU,h0,h1,c1,c2,zqP,zo2,a1,a2,e3]
  ·simp -implicitDefEqProofs only [go_sem,e3] at c1 c2
   simp -implicitDefEqProofs only [go_sem,zcU,h0,h1,c1,c2,zqP,zo2,a1,a2,e3]
end
@[go_sem] theorem zpr (b : PBlock) (hb : okB b) (σ : zd) (hσ : Obs.lt σ.length σ = true) : call T 154 [zpD b] σ = some (vB (!zqP b),σ):=by
  rw [ze (fn:=zjx) rfl]
  have h:=zrY b hb
  simp -implicitDefEqProofs only [go_sem] at h
  simp -implicitDefEqProofs only [go_sem,zjx,h,hσ]
structure okF (f : PFunc) : Prop where
 params : f.params.length ≤ 4294967296
 blocks : f.blocks.length ≤ 4294967296
 block : ∀ b ∈ f.blocks,okB b
 small : (f.blocks.map fun b => b.phis.length + b.ops.length).sum ≤ 4294967296
def zh8 (f : PFunc) : Nat:=f.blocks.length + (f.blocks.map fun b => b.phis.length + b.ops.length).sum
theorem zoN (l : List Nat) : ∀ k,(l.take k).sum ≤ l.sum:=by
 induction l with
 | nil => simp
 | cons x r ih =>
   intro k
   cases k with
   | zero => simp
   | succ k =>
     simp only [yE,yO]
     have:=ih k
     omega
theorem zlR (l : List Nat) (k : Nat) (hk : k < l.length) : (l.take (k + 1)).sum = (l.take k).sum + l[k]:=by
 induction l generalizing k with
 | nil => simp at hk
 | cons x r ih =>
   cases k with
   | zero => simp
   | succ k =>
     simp only [yE,yO,List.getElem_cons_succ]
     rw [ih k (by simpa using hk)]
     omega
theorem zzJ (f : PFunc) (hf : okF f) : ∀ (d k : Nat) (a0 a1 a2 a4 a8 : V),f.blocks.length - k = d → k ≤ f.blocks.length →
  exec T zhi ⟨[a0,a1,a2,vI ((f.blocks.length + ((f.blocks.map fun b => b.phis.length + b.ops.length).take k).sum : Nat) : Int),a4,vL (f.blocks.map rb),vI f.blocks.length,vI k,a8],[.cells 0 3 [zcW f]],0,0⟩ =
   some (.exit 0,⟨[vU,vU,vU,vI (zh8 f : Int),vU,vU,vU,vU,vU],[.cells 0 3 [zcW f]],0,0⟩):=by
 intro d
 induction d with
 | zero =>
   intro k a0 a1 a2 a4 a8 h1 h2
   have hk : k = f.blocks.length:=by omega
   subst hk
   rw [xl zhi rfl,zjD]
   have e : (f.blocks.map fun b => b.phis.length + b.ops.length).take f.blocks.length = f.blocks.map fun b => b.phis.length + b.ops.length:=yr (by simp)
   simp -implicitDefEqProofs only [go_sem,yg,e,zh8]
 | succ d ih =>
   intro k a0 a1 a2 a4 a8 h1 h2
   have hk : k < f.blocks.length:=by omega
   have hk' : k < (f.blocks.map fun b => b.phis.length + b.ops.length).length:=by simpa using hk
   have e:=zlR (f.blocks.map fun b => b.phis.length + b.ops.length) k hk'
   have e2:=zoN (f.blocks.map fun b => b.phis.length + b.ops.length) (k + 1)
   have e3:=hf.small
   have e4:=hf.blocks
   simp only [List.getElem_map] at e
   have w1 : Go.IntKind.i64.wrap ((f.blocks[k].phis.length : Int) + (f.blocks[k].ops.length : Int)) = ((f.blocks[k].phis.length + f.blocks[k].ops.length : Nat) : Int):=by
    rw [wrap_i64] <;> omega
   have w2 : Go.IntKind.i64.wrap (((f.blocks.length + ((f.blocks.map fun b => b.phis.length + b.ops.length).take k).sum : Nat) : Int) + ((f.blocks[k].phis.length + f.blocks[k].ops.length : Nat) : Int)) = ((f.blocks.length + ((f.blocks.map fun b => b.phis.length + b.ops.length).take (k + 1)).sum : Nat) : Int):=by
    rw [wrap_i64] <;> omega
   rw [xl zhi rfl,zjD]
   simp -implicitDefEqProofs only [go_sem,ilt hk,zp hk,rb,w1,w2,za hk hf.blocks]
   exact ih (k + 1) _ _ _ _ _ (by omega) (by omega)
@[go_sem] theorem zpO (f : PFunc) (hf : okF f) : call T 151 [zhc f] [] = some (vI (zh8 f : Int),[]):=by
  rw [ze (fn:=zk0) rfl]
  have h:=fun a0 a1 a2 a4 a8 => zzJ f hf f.blocks.length 0 a0 a1 a2 a4 a8 (by omega) (by omega)
  simp only [List.take_zero,List.sum_nil,Nat.add_zero,ye] at h
  simp -implicitDefEqProofs only [go_sem] at h
  simp -implicitDefEqProofs only [go_sem,zk0,h]
def zlx (f : PFunc) : Bool :=
 !(decide (f.blocks.length < 1) || (decide (64 < f.blocks.length) || (decide (16 < f.params.length) || (decide (512 < zh8 f) || (!num f.ret || !f.params.all num))))) && f.blocks.all zqP
@[go_sem] theorem zsh (f : PFunc) (hf : okF f) : call T 105 [zhc f] [] = some (vB (zlx f),[]):=by
  rw [ze (fn:=zes) rfl]
  have hs:=zpO f hf
  have hi:=zrk f.ret
  have hp:=zf9 f.params hf.params
  have hc:=ziC f.blocks (fun b => !zqP b) 154 [] [] [.cells 0 3 [zcW f]] hf.blocks (fun x hx => by
   have:=zpr x (hf.block x hx) [.cells 0 3 [zcW f]] rfl
   simp -implicitDefEqProofs only [go_sem] at this
   simp -implicitDefEqProofs only [go_sem,this])
  have hp0 : f.params.length ≤ 4294967296:=hf.params
  simp -implicitDefEqProofs only [go_sem] at hs hi hc hp
  by_cases c1 : f.blocks.length < 1
  ·have c1' : (f.blocks.length : Int) < 1:=by omega
   simp -implicitDefEqProofs only [go_sem,zes,zlx,c1,c1']
  have c1' : ¬ (f.blocks.length : Int) < 1:=by omega
  by_cases c2 : 64 < f.blocks.length
  ·have c2' : (64 : Int) < (f.blocks.length : Int):=by omega
   simp -implicitDefEqProofs only [go_sem,zes,zlx,c1,c1',c2,c2']
  have c2' : ¬ (64 : Int) < (f.blocks.length : Int):=by omega
  by_cases c3 : 16 < f.params.length
  ·have c3' : (16 : Int) < (f.params.length : Int):=by omega
   simp -implicitDefEqProofs only [go_sem,zes,zlx,c1,c1',c2,c2',c3,c3']
  have c3' : ¬ (16 : Int) < (f.params.length : Int):=by omega
  by_cases c4 : 512 < zh8 f
  ·have c4' : (512 : Int) < (zh8 f : Int):=by omega
   simp -implicitDefEqProofs only [go_sem,zes,zlx,c1,c1',c2,c2',c3,c3',hs,c4,c4']
  have c4' : ¬ (512 : Int) < (zh8 f : Int):=by omega
  cases c5 : num f.ret
  ·simp -implicitDefEqProofs only [go_sem,c5] at hi
   simp -implicitDefEqProofs only [go_sem,zes,zlx,c1,c1',c2,c2',c3,c3',hs,c4,c4',hi,c5]
  cases c6 : f.params.all num
  ·simp -implicitDefEqProofs only [go_sem,c5,c6] at hi hp
   simp -implicitDefEqProofs only [go_sem,zes,zlx,c1,c1',c2,c2',c3,c3',hs,c4,c4',hi,hp,c5,c6]
  simp -implicitDefEqProofs only [go_sem,c5,c6] at hi hp
  simp -implicitDefEqProofs only [go_sem,zes,zlx,c1,c1',c2,c2',c3,c3',hs,c4,c4',hi,hp,c5,c6,hc,zoo]
end AC
namespace AC
open Go Go.A Go.A.Lex
theorem zfB (b : Int) : call T 125 [vI b] [] = some (vB (zhF b),[]):=by
 rw [ze (fn:=zal) rfl]
 by_cases c1 : b = 1
 ·simp -implicitDefEqProofs only [go_sem,zal,zhF,c1]
 by_cases c2 : b = 8
 ·simp -implicitDefEqProofs only [go_sem,zal,zhF,c1,c2]
 by_cases c3 : b = 16
 ·simp -implicitDefEqProofs only [go_sem,zal,zhF,c1,c2,c3]
 by_cases c4 : b = 32
 ·simp -implicitDefEqProofs only [go_sem,zal,zhF,c1,c2,c3,c4]
 by_cases c5 : b = 64 <;> simp -implicitDefEqProofs only [go_sem,zal,zhF,c1,c2,c3,c4,c5]
theorem zuI (v b : Int) (h0 : 0 ≤ v) (h1 : v < 18446744073709551616) : call T 224 [zEd v,vI b] [] = some (zEd (zzA v b),[]):=by
 rw [ze (fn:=z7) rfl]
 have hm:=zfB b
 have hb : Go.IntKind.u64.bits = 64:=rfl
 cases hw : zhF b
 ·simp -implicitDefEqProofs only [go_sem,hw] at hm
  simp -implicitDefEqProofs only [go_sem,z7,hm,zzA,hw]
 have t : ∀ n : Int,v.tmod n = v % n:=fun n => Int.tmod_eq_emod_of_nonneg h0
 simp -implicitDefEqProofs only [go_sem,hw] at hm
 rcases zdq hw with rfl | rfl | rfl | rfl | rfl
 ·have w1 : IntKind.u64.wrap 1 = 1:=rfl
  have w2 : IntKind.u64.wrap (1 * 2 ^ min 1 64) = 2:=rfl
  simp -implicitDefEqProofs only [go_sem,z7,hm,hb,w1,w2,t,zzA,hw]
  rfl
 ·have w1 : IntKind.u64.wrap 8 = 8:=rfl
  have w2 : IntKind.u64.wrap (1 * 2 ^ min 8 64) = 256:=rfl
  simp -implicitDefEqProofs only [go_sem,z7,hm,hb,w1,w2,t,zzA,hw]
  rfl
 ·have w1 : IntKind.u64.wrap 16 = 16:=rfl
  have w2 : IntKind.u64.wrap (1 * 2 ^ min 16 64) = 65536:=rfl
  simp -implicitDefEqProofs only [go_sem,z7,hm,hb,w1,w2,t,zzA,hw]
  rfl
 ·have w1 : IntKind.u64.wrap 32 = 32:=rfl
  have w2 : IntKind.u64.wrap (1 * 2 ^ min 32 64) = 4294967296:=rfl
  simp -implicitDefEqProofs only [go_sem,z7,hm,hb,w1,w2,t,zzA,hw]
  rfl
 ·have e : v % 2 ^ (64 : Nat) = v:=by
   show v % 18446744073709551616 = v
   omega
  simp -implicitDefEqProofs only [go_sem,z7,hm,zzA,hw,Int.reduceToNat,e]
theorem ziq (v : Int) : call T 74 [vI v] [] = some (vB (value v),[]):=by
 rw [ze (fn:=zaN) rfl]
 have e1 : (v > 0) = (1 ≤ v):=by apply propext; omega
 have e2 : (v < 1024) = (v ≤ 1023):=by apply propext; omega
 by_cases c1 : 1 ≤ v
 ·have d1 : 0 < v:=by omega
  by_cases c2 : v ≤ 1023
  ·have d2 : v < 1024:=by omega
   simp -implicitDefEqProofs only [go_sem,zaN,value,c1,c2,eq_true d1,eq_true d2]
  ·have d2 : ¬ v < 1024:=by omega
   simp -implicitDefEqProofs only [go_sem,zaN,value,c1,c2,eq_true d1,d2]
 ·have d1 : ¬ 0 < v:=by omega
  simp -implicitDefEqProofs only [go_sem,zaN,value,c1,d1]
theorem zcz (n : Int) : call T 122 [vI n] [] = some (vB (num n),[]):=by
 rw [ze (fn:=zc9) rfl]
 by_cases c1 : 0 ≤ n
 ·simp -implicitDefEqProofs only [go_sem,zc9,num,eq_true c1]
 ·simp -implicitDefEqProofs only [go_sem,zc9,num,c1]
theorem zwI (a b : List Int) (hn : a.length = b.length) (hl : a.length ≤ 4294967296) : ∀ (d k : Nat) (a2 a4 a5 a6 : V),a.length - k = d → k ≤ a.length →
  exec T zbW ⟨[vIs a,vIs b,a2,vI k,a4,a5,a6],[],0,0⟩ = some (if a.drop k = b.drop k then (.exit 0,⟨[vU,vU,vU,vU,vU,vU,vU],[],0,0⟩) else (.ret,⟨[vU,vU,vB false,vU,vU,vU,vU],[],0,0⟩)):=by
 intro d
 induction d with
 | zero =>
   intro k a2 a4 a5 a6 h1 h2
   have hk : k = a.length:=by omega
   subst hk
   have e : a.drop a.length = b.drop a.length:=by rw [yf,hn,yf]
   rw [xl zbW rfl,zdS,if_pos e]
   simp -implicitDefEqProofs only [go_sem,yg,ya]
 | succ d ih =>
   intro k a2 a4 a5 a6 h1 h2
   have hk : k < a.length:=by omega
   have hkb : k < b.length:=by omega
   have hd : a.drop k = a[k] :: a.drop (k + 1):=yb hk
   have hdb : b.drop k = b[k] :: b.drop (k + 1):=yb hkb
   have:=ih (k + 1) vU vU vU vU (by omega) (by omega)
   rw [xl zbW rfl,zdS,hd,hdb]
   simp -implicitDefEqProofs only [go_sem] at this
   by_cases c : a[k] = b[k]
   ·simp -implicitDefEqProofs only [go_sem,ilt hk,zp hk,zp hkb,ri,ya,za hk hl,c,this,List.cons.injEq]
   ·simp -implicitDefEqProofs only [go_sem,ilt hk,zp hk,zp hkb,ri,ya,c,List.cons.injEq,false_and]
theorem zjQ (a b : List Int) (hl : a.length ≤ 4294967296) : call T 22 [vIs a,vIs b] [] = some (vB (decide (a = b)),[]):=by
 rw [ze (fn:=za4) rfl]
 by_cases hn : a.length = b.length
 ·have h:=fun a2 a4 a5 a6 => zwI a b hn hl a.length 0 a2 a4 a5 a6 (by omega) (by omega)
  simp only [ye,yh] at h
  have hi : (a.length : Int) = (b.length : Int):=by omega
  by_cases c : a = b
  ·simp -implicitDefEqProofs only [go_sem,c] at h
   simp -implicitDefEqProofs only [go_sem,za4,h,c,ya]
  ·simp -implicitDefEqProofs only [go_sem,c] at h
   simp -implicitDefEqProofs only [go_sem,za4,h,c,ya,hi]
 ·have hi : ¬ (a.length : Int) = (b.length : Int):=by omega
  have c : ¬ a = b:=fun h => hn (by rw [h])
  simp -implicitDefEqProofs only [go_sem,za4,c,ya,hi]
theorem zyI (l : List Int) (x : Int) (hl : l.length ≤ 4294967296) : ∀ (d k : Nat) (a2 a4 a5 : V),l.length - k = d → k ≤ l.length →
  exec T zcI ⟨[vIs l,vI x,a2,vI k,a4,a5],[],0,0⟩ = some (if x ∈ l.drop k then (.ret,⟨[vU,vU,vB true,vU,vU,vU],[],0,0⟩) else (.exit 0,⟨[vU,vU,vU,vU,vU,vU],[],0,0⟩)):=by
 intro d
 induction d with
 | zero =>
   intro k a2 a4 a5 h1 h2
   have hk : k = l.length:=by omega
   subst hk
   rw [xl zcI rfl,zeH]
   simp -implicitDefEqProofs only [go_sem,yg,ya,yf,List.not_mem_nil]
 | succ d ih =>
   intro k a2 a4 a5 h1 h2
   have hk : k < l.length:=by omega
   have hd : l.drop k = l[k] :: l.drop (k + 1):=yb hk
   have:=ih (k + 1) vU vU vU (by omega) (by omega)
   rw [xl zcI rfl,zeH,hd]
   simp -implicitDefEqProofs only [go_sem] at this
   by_cases c : l[k] = x
   ·simp -implicitDefEqProofs only [go_sem,ilt hk,zp hk,ri,ya,c,yP]
   ·have c' : ¬ x = l[k]:=fun h => c h.symm
    simp -implicitDefEqProofs only [go_sem,ilt hk,zp hk,ri,ya,za hk hl,c,c',this,yP]
theorem zkT (l : List Int) (x : Int) (hl : l.length ≤ 4294967296) : call T 66 [vIs l,vI x] [] = some (vB (decide (x ∈ l)),[]):=by
 rw [ze (fn:=zc6) rfl]
 have h:=fun a2 a4 a5 => zyI l x hl l.length 0 a2 a4 a5 (by omega) (by omega)
 simp only [ye,yh] at h
 by_cases c : x ∈ l
 ·simp -implicitDefEqProofs only [go_sem,c] at h
  simp -implicitDefEqProofs only [go_sem,zc6,h,c]
 ·simp -implicitDefEqProofs only [go_sem,c] at h
  simp -implicitDefEqProofs only [go_sem,zc6,h,c]
theorem zw4 (l : List Int) (hl : l.length ≤ 4294967296) : ∀ (d k : Nat) (a1 a3 a4 : V),l.length - k = d → k ≤ l.length →
  exec T zco ⟨[vIs l,a1,vI k,a3,a4],[],0,0⟩ = some (if (l.drop k).all num = true then (.exit 0,⟨[vIs l,vU,vU,vU,vU],[],0,0⟩) else (.ret,⟨[vU,vB false,vU,vU,vU],[],0,0⟩)):=by
 intro d
 induction d with
 | zero =>
   intro k a1 a3 a4 h1 h2
   have hk : k = l.length:=by omega
   subst hk
   rw [xl zco rfl,zdR]
   simp -implicitDefEqProofs only [go_sem,yg,ya,yf,yo]
 | succ d ih =>
   intro k a1 a3 a4 h1 h2
   have hk : k < l.length:=by omega
   have hd : l.drop k = l[k] :: l.drop (k + 1):=yb hk
   have:=ih (k + 1) vU vU vU (by omega) (by omega)
   have hc:=zcz l[k]
   rw [xl zco rfl,zdR,hd,yk]
   simp -implicitDefEqProofs only [go_sem] at this
   cases c : num l[k]
   ·simp -implicitDefEqProofs only [go_sem,c] at hc
    simp -implicitDefEqProofs only [go_sem,ilt hk,zp hk,ri,ya,c,hc]
   ·simp -implicitDefEqProofs only [go_sem,c] at hc
    simp -implicitDefEqProofs only [go_sem,ilt hk,zp hk,ri,ya,za hk hl,c,hc,this]
theorem zf6 (l : List Int) (hl : l.length ≤ 4294967296) : call T 121 [vIs l] [] = some (vB (zfG l),[]):=by
 rw [ze (fn:=zcD) rfl]
 have h:=fun a1 a3 a4 => zw4 l hl l.length 0 a1 a3 a4 (by omega) (by omega)
 simp only [ye,yh] at h
 have e : ((l.length : Int) ≤ 64) = (l.length ≤ 64):=by apply propext; omega
 cases c : l.all num
 ·simp -implicitDefEqProofs only [go_sem,c] at h
  simp -implicitDefEqProofs only [go_sem,zcD,h,zfG,c,yG]
 ·simp -implicitDefEqProofs only [go_sem,c] at h
  simp -implicitDefEqProofs only [go_sem,zcD,h,zfG,c,ya,e,yl]
end AC
namespace AC
open Go Go.A Go.A.Lex
theorem zsc (b l : Int) : call T 170 [vI b,vI l] [] = some (vB (zeC b l),[]):=by
 rw [ze (fn:=z8) rfl]
 have hM:=zfB b
 cases hm : zhF b
 ·simp -implicitDefEqProofs only [go_sem,hm] at hM
  simp -implicitDefEqProofs only [go_sem,z8,zeC,hm,hM]
 simp -implicitDefEqProofs only [go_sem,hm] at hM
 by_cases c1 : l = 1
 ·simp -implicitDefEqProofs only [go_sem,z8,zeC,hm,hM,c1]
 cases hl : zln l
 ·have hl':=hl
  simp only [zln,yd,decide_eq_false_iff_not] at hl'
  obtain ⟨⟨⟨c2,c3⟩,c4⟩,c5⟩:=hl'
  simp -implicitDefEqProofs only [go_sem,z8,zeC,hm,hM,c1,c2,c3,c4,c5,hl]
 ·have hm':=zdq hm
  have e : (b > 1) = (8 ≤ b):=by apply propext; omega
  by_cases c8 : 8 ≤ b
  ·have c9 : 1 < b:=by omega
   rcases zfo hl with rfl | rfl | rfl | rfl
   all_goals
    have w2 : Go.IntKind.i64.wrap (b * 2) = b * 2:=wrap_i64 (by omega) (by omega)
    have w4 : Go.IntKind.i64.wrap (b * 4) = b * 4:=wrap_i64 (by omega) (by omega)
    have w8 : Go.IntKind.i64.wrap (b * 8) = b * 8:=wrap_i64 (by omega) (by omega)
    have w16 : Go.IntKind.i64.wrap (b * 16) = b * 16:=wrap_i64 (by omega) (by omega)
    simp -implicitDefEqProofs only [go_sem,z8,zeC,hm,hM,c1,hl,c8,eq_true c9,w2,w4,w8,w16]
  ·have c9 : ¬ 1 < b:=by omega
   rcases zfo hl with rfl | rfl | rfl | rfl
   all_goals simp -implicitDefEqProofs only [go_sem,z8,zeC,hm,hM,c1,hl,c8,c9]
set_option maxHeartbeats 8000000
def zgr (k : Int) : Bool:=decide (0 ≤ k) && decide (k ≤ 22)
theorem zhu {k : Int} (h : zgr k = true) : k = 0 ∨ k = 1 ∨ k = 2 ∨ k = 3 ∨ k = 4 ∨ k = 5 ∨ k = 6 ∨ k = 7 ∨ k = 8 ∨ k = 9 ∨ k = 10 ∨ k = 11 ∨ k = 12 ∨ k = 13 ∨ k = 14 ∨ k = 15 ∨ k = 16 ∨ k = 17 ∨ k = 18 ∨ k = 19 ∨ k = 20 ∨ k = 21 ∨ k = 22:=by
 simp only [zgr,yc,decide_eq_true_eq] at h
 omega
def zBZ (o : POp) : Int:=if zgr o.kind = true then ((zK o).1.length : Int) else -1
section
variable (o : POp) (hs : zeC o.bits o.lanes = true) (ho : zDO o)
include hs
theorem zts : call T 171 [vOp o] [] = some (vI (zBZ o),[]):=by
 rw [ze (fn:=za7) rfl]
 obtain ⟨kind,bits,lanes,dst,args,imm⟩:=o
 obtain ⟨hm,hl⟩:=zhw hs
 dsimp only at *
 cases hv : zgr kind
 ·simp only [zgr,yC,decide_eq_false_iff_not] at hv
  have hv' : zBZ ⟨kind,bits,lanes,dst,args,imm⟩ = -1:=by
   unfold zBZ
   rw [if_neg]
   simp only [zgr,yc,decide_eq_true_eq]
   omega
  have n0 : ¬ kind = 0:=by omega
  have n1 : ¬ kind = 1:=by omega
  have n2 : ¬ kind = 2:=by omega
  have n3 : ¬ kind = 3:=by omega
  have n4 : ¬ kind = 4:=by omega
  have n5 : ¬ kind = 5:=by omega
  have n6 : ¬ kind = 6:=by omega
  have n7 : ¬ kind = 7:=by omega
  have n8 : ¬ kind = 8:=by omega
  have n9 : ¬ kind = 9:=by omega
  have n10 : ¬ kind = 10:=by omega
  have n11 : ¬ kind = 11:=by omega
  have n12 : ¬ kind = 12:=by omega
  have n13 : ¬ kind = 13:=by omega
  have n14 : ¬ kind = 14:=by omega
  have n15 : ¬ kind = 15:=by omega
  have n16 : ¬ kind = 16:=by omega
  have n17 : ¬ kind = 17:=by omega
  have n18 : ¬ kind = 18:=by omega
  have n19 : ¬ kind = 19:=by omega
  have n20 : ¬ kind = 20:=by omega
  have n21 : ¬ kind = 21:=by omega
  have n22 : ¬ kind = 22:=by omega
  rw [hv']
  simp -implicitDefEqProofs only [go_sem,za7,n0,n1,n2,n3,n4,n5,n6,n7,n8,n9,n10,n11,n12,n13,n14,n15,n16,n17,n18,n19,n20,n21,n22]
 ·have hn : ((lanes.toNat : Nat) : Int) = lanes:=by omega
  rcases zhu hv with rfl | rfl | rfl | rfl | rfl | rfl | rfl | rfl | rfl | rfl | rfl | rfl | rfl | rfl | rfl | rfl | rfl | rfl | rfl | rfl | rfl | rfl | rfl
  all_goals first
   | (simp -implicitDefEqProofs only [go_sem,za7,zBZ,zgr,zK,arith,asks,yv,hn]; done)
   | (simp -implicitDefEqProofs only [go_sem,za7,zBZ,zgr,zK,arith,asks,yv,hn]; rfl)
include ho
theorem ztK (hv : zgr o.kind = true) : call T 172 [vOp o] [] = some (vB (zK o).2,[]):=by
 rw [ze (fn:=zay) rfl]
 obtain ⟨kind,bits,lanes,dst,args,imm⟩:=o
 obtain ⟨hm,hl⟩:=zhw hs
 obtain ⟨h0,h1⟩:=ho
 dsimp only at *
 have hm':=zdq hm
 have hC:=zuI imm bits h0 h1
 have hbu : Go.IntKind.u64.wrap bits = bits:=wrap_u64 (by omega) (by omega)
 have hlu : Go.IntKind.u64.wrap lanes = lanes:=wrap_u64 (by omega) (by omega)
 have e8 : (bits < 8) = (¬ 8 ≤ bits):=by apply propext; omega
 have el : (lanes < 2) = (lanes = 1):=by apply propext; omega
 simp -implicitDefEqProofs only [go_sem] at hC
 by_cases c14 : kind = 14 ∨ kind = 15
 ·by_cases d1 : lanes = 1
  ·by_cases d2 : imm ≤ 64
   ·have hii : Go.IntKind.i64.wrap imm = imm:=wrap_i64 (by omega) (by omega)
    have hM:=zfB imm
    simp -implicitDefEqProofs only [go_sem] at hM
    by_cases d3 : imm < bits <;> by_cases d4 : bits < imm <;> rcases c14 with rfl | rfl <;> simp -implicitDefEqProofs only [go_sem,zay,zK,arith,asks,d1,d2,d3,d4,hbu,hii,hM]
   ·have d3 : ¬ imm < bits:=by omega
    have d4 : bits < imm:=by omega
    rcases c14 with rfl | rfl <;> simp -implicitDefEqProofs only [go_sem,zay,zK,arith,asks,d1,d2,d3,eq_true d4,hbu]
  ·rcases c14 with rfl | rfl <;> simp -implicitDefEqProofs only [go_sem,zay,zK,arith,asks,d1]
 ·rcases zhu hv with rfl | rfl | rfl | rfl | rfl | rfl | rfl | rfl | rfl | rfl | rfl | rfl | rfl | rfl | rfl | rfl | rfl | rfl | rfl | rfl | rfl | rfl | rfl
  all_goals first
   | exact absurd (.inl rfl) c14
   | exact absurd (.inr rfl) c14
   | (simp -implicitDefEqProofs only [go_sem,zay,zK,arith,asks,hC,hlu,hbu] <;> by_cases d1 : lanes = 1 <;> have d1' : (lanes < 2) = (lanes = 1):=el <;> simp only [d1,eq_self] at d1' <;> by_cases d8 : 8 ≤ bits <;> have d8' : (bits < 8) = ¬ 8 ≤ bits:=e8 <;> simp only [d8,not_true_eq_false,not_false_eq_true] at d8' <;> by_cases di : imm = 0 <;> simp -implicitDefEqProofs only [go_sem,d1,d1',d8,d8',di,hC,hlu,hbu])
theorem zzX (hl : o.args.length ≤ 4294967296) : ∀ (d k : Nat) (a0 a2 a4 a5 a6 a7 : V),o.args.length - k = d → k ≤ o.args.length →
  exec T zcG ⟨[a0,.one (.ptr 0 0 0 0),a2,vI k,a4,a5,a6,a7],[.cells 0 6 [cOp o]],0,0⟩ = some (if (o.args.drop k).all value = true then (.exit 0,⟨[vU,.one (.ptr 0 0 0 0),vU,vU,vU,vU,vU,vU],[.cells 0 6 [cOp o]],0,0⟩) else (.ret,⟨[vU,vU,vB false,vU,vU,vU,vU,vU],[.cells 0 6 [cOp o]],0,0⟩)):=by
 intro d
 induction d with
 | zero =>
   intro k a0 a2 a4 a5 a6 a7 h1 h2
   have hk : k = o.args.length:=by omega
   subst hk
   rw [xl zcG rfl,zeK]
   simp -implicitDefEqProofs only [go_sem,yg,ya,yf,yo]
 | succ d ih =>
   intro k a0 a2 a4 a5 a6 a7 h1 h2
   have hk : k < o.args.length:=by omega
   have hd : o.args.drop k = o.args[k] :: o.args.drop (k + 1):=yb hk
   have:=ih (k + 1) vU vU vU vU vU vU (by omega) (by omega)
   have hc:=ziq o.args[k]
   rw [xl zcG rfl,zeK,hd,yk]
   simp -implicitDefEqProofs only [go_sem] at this
   cases c : value o.args[k]
   ·simp -implicitDefEqProofs only [go_sem,c] at hc
    simp -implicitDefEqProofs only [go_sem,ilt hk,zp hk,ri,ya,c,hc]
   ·simp -implicitDefEqProofs only [go_sem,c] at hc
    simp -implicitDefEqProofs only [go_sem,ilt hk,zp hk,ri,ya,za hk hl,c,hc,this]
end
theorem zzn (l : List Int) : (!l.any fun v => !value v) = l.all value:=by
 induction l with
 | nil => rfl
 | cons x l ih => rw [yn,yk,yS,yR,ih]
theorem zpj {o : POp} (h : zgr o.kind = false) : (zK o).2 = false:=by
 simp only [zgr,yC,decide_eq_false_iff_not] at h
 have a1 : arith o.kind = false:=by
  simp only [arith,yd,decide_eq_false_iff_not]
  omega
 have a2 : asks o.kind = false:=by
  simp only [asks,yd,decide_eq_false_iff_not]
  omega
 unfold zK
 simp only [a1,a2]
 rw [if_neg (by omega),if_neg (by simp),if_neg (by simp),if_neg (by omega),if_neg (by omega),if_neg (by omega),if_neg (by omega),if_neg (by omega),if_neg (by omega),if_neg (by omega),if_neg (by omega),if_neg (by omega)]
theorem zlp (o : POp) (ho : zue o) : call T 126 [vOp o] [] = some (vB (zgq o),[]):=by
 rw [ze (fn:=zG) rfl]
 have hS:=zsc o.bits o.lanes
 cases hs : zeC o.bits o.lanes
 ·simp -implicitDefEqProofs only [go_sem,hs] at hS
  simp -implicitDefEqProofs only [go_sem,zG,zgq,hs,hS]
 have hA:=zts o hs
 have hL:=fun a0 a2 a4 a5 a6 a7 => zzX o hs ho.1 ho.2 o.args.length 0 a0 a2 a4 a5 a6 a7 (by omega) (by omega)
 have hV:=ziq o.dst
 have hany:=zzn o.args
 simp only [ye,yh] at hL
 simp -implicitDefEqProofs only [go_sem,hs] at hS hA hV
 cases hv : zgr o.kind
 ·have hb:=zpj hv
  have e : zBZ o = -1:=by unfold zBZ; rw [hv]; rfl
  have hne : ¬ (-1 : Int) = (o.args.length : Int):=by omega
  simp -implicitDefEqProofs only [e] at hA
  simp -implicitDefEqProofs only [go_sem,zG,zgq,hs,hS,hA,hb,hne,ya]
 have hF:=ztK o hs ho.1 hv
 have e : zBZ o = ((zK o).1.length : Int):=by unfold zBZ; rw [hv]; rfl
 simp -implicitDefEqProofs only [go_sem,e] at hA hF
 by_cases h4 : (zK o).1.length = o.args.length
 ·have h4' : ((zK o).1.length : Int) = (o.args.length : Int):=by omega
  cases h1 : (zK o).2
  ·simp -implicitDefEqProofs only [h1] at hF
   simp -implicitDefEqProofs only [go_sem,zG,zgq,hs,hS,hA,hF,h1,h4,ya]
  ·simp -implicitDefEqProofs only [h1] at hF
   cases h5 : o.args.all value
   ·simp -implicitDefEqProofs only [go_sem,h5] at hL
    simp -implicitDefEqProofs only [go_sem,zG,zgq,hs,hS,hA,hF,h1,h4,hL,hany,h5,ya,yG]
   ·simp -implicitDefEqProofs only [go_sem,h5] at hL
    by_cases k17 : o.kind = 17
    ·simp -implicitDefEqProofs only [go_sem,zG,zgq,hs,hS,hA,hF,h1,h4,hL,hany,h5,ya,zfv,eq_true k17,yl]
    ·by_cases k19 : o.kind = 19
     ·simp -implicitDefEqProofs only [go_sem,zG,zgq,hs,hS,hA,hF,h1,h4,hL,hany,h5,ya,zfv,k17,eq_true k19,yl]
     ·simp -implicitDefEqProofs only [go_sem,zG,zgq,hs,hS,hA,hF,hV,h1,h4,hL,hany,h5,ya,zfv,k17,k19,yl]
 ·have h4' : ¬ ((zK o).1.length : Int) = (o.args.length : Int):=by omega
  simp -implicitDefEqProofs only [go_sem,zG,zgq,hs,hS,hA,h4,h4',ya,yG]
end AC
namespace AC
open Go Go.A Go.A.Lex
mutual
theorem zvx {n m : Nat} (h : n ≤ m) : ∀ c : C,c.lt n = true → c.lt m = true
 | .f _,_ => rfl
 | .ap t _ _,e => by simp only [C.lt,decide_eq_true_eq] at e ⊢; omega
 | .ptr id _ _ _,e => by simp only [C.lt,decide_eq_true_eq] at e ⊢; omega
 | .fp _ _,_ => rfl
 | .own id _ _ _,e => by simp only [C.lt,decide_eq_true_eq] at e ⊢; omega
 | .map id,e => by simp only [C.lt,decide_eq_true_eq] at e ⊢; omega
 | .fn _ a b,e => by
   simp only [C.lt,yc] at e ⊢
   exact ⟨zeX h a e.1,zeX h b e.2⟩
 | .un,_ => rfl
theorem zeX {n m : Nat} (h : n ≤ m) : ∀ cs : List C,C.lts n cs = true → C.lts m cs = true
 | [],_ => by simp only [C.lts]
 | c :: cs,e => by
   simp only [C.lts,yc] at e ⊢
   exact ⟨zvx h c e.1,zeX h cs e.2⟩
end
mutual
theorem zvu {n m : Nat} (h : n ≤ m) : ∀ v : V,v.lt n = true → v.lt m = true
 | .one c,e => by simp only [V.lt] at e ⊢; exact zvx h c e
 | .agg cs,e => by simp only [V.lt] at e ⊢; exact zeX h cs e
 | .tup vs,e => by simp only [V.lt] at e ⊢; exact ztU h vs e
theorem ztU {n m : Nat} (h : n ≤ m) : ∀ vs : List V,V.lts n vs = true → V.lts m vs = true
 | [],_ => by simp only [V.lts]
 | v :: vs,e => by
   simp only [V.lts,yc] at e ⊢
   exact ⟨zvu h v e.1,ztU h vs e.2⟩
end
theorem zqT {n m : Nat} (h : n ≤ m) : ∀ es : List (List C),C.ltss n es = true → C.ltss m es = true
 | [],_ => by simp only [C.ltss]
 | c :: cs,e => by
   simp only [C.ltss,yc] at e ⊢
   exact ⟨zeX h c e.1,zqT h cs e.2⟩
theorem zsM {n m : Nat} (h : n ≤ m) : ∀ es : List (Int × V),C.ltm n es = true → C.ltm m es = true
 | [],_ => by simp only [C.ltm]
 | c :: cs,e => by
   simp only [C.ltm,yc] at e ⊢
   exact ⟨zvu h c.2 e.1,zsM h cs e.2⟩
theorem zAH {n m : Nat} (h : n ≤ m) : ∀ o : Ob,o.lt n = true → o.lt m = true
 | .cells _ _ es,e => by simp only [Ob.lt] at e ⊢; exact zqT h es e
 | .tok _ _,_ => rfl
 | .mp es,e => by simp only [Ob.lt] at e ⊢; exact zsM h es e
theorem zoJ {n m : Nat} (h : n ≤ m) : ∀ os : List Ob,Obs.lt n os = true → Obs.lt m os = true
 | [],_ => by simp only [Obs.lt]
 | o :: os,e => by
   simp only [Obs.lt,yc] at e ⊢
   exact ⟨zAH h o e.1,zoJ h os e.2⟩
theorem zgd {σ : zd} {k : Nat} {o : Ob} (h : σ[k]? = some o) (r : zd) : (σ ++ r)[k]? = some o:=by
 have : k < σ.length:=(yj.1 h).1
 rw [yw this,h]
theorem zh1 {σ : zd} {k : Nat} {o : Ob} (h : σ[k]? = some o) (j : Nat) : (k < σ.length + j) = True:=by
 have : k < σ.length:=(yj.1 h).1
 simp; omega
theorem zhQ {σ : zd} {k : Nat} {o : Ob} (h : σ[k]? = some o) : (k < σ.length) = True:=by
 have : k < σ.length:=(yj.1 h).1
 simp; omega
theorem zFu (n : Nat) : (n < n + 1) = True:=by simp
theorem zFd (n : Nat) : (n < n + 2) = True:=by simp
theorem zFB (n : Nat) : (n < n + 3) = True:=by simp
theorem zE9 (n : Nat) : (n < n + 4) = True:=by simp
theorem zFe (n : Nat) : (n + 1 < n + 2) = True:=by simp
theorem zFx (n : Nat) : (n + 1 < n + 3) = True:=by simp
theorem zFn (n : Nat) : (n + 2 < n + 3) = True:=by simp
theorem zFF (n : Nat) : (n + 3 < n + 4) = True:=by simp
theorem zFh (n : Nat) : (n + 2 < n + 4) = True:=by simp
theorem zFo (n : Nat) : (n + 1 < n + 4) = True:=by simp
theorem zFI (n k : Nat) : (n + k ≤ n + k) = True:=by simp
theorem zFJ (n : Nat) : (n + 2 ≤ n + 1) = False:=by simp
theorem zFc (n : Nat) : (n + 3 ≤ n + 1) = False:=by simp
theorem zFl (n : Nat) : (n + 3 ≤ n + 2) = False:=by simp
theorem zFC (n : Nat) : (n + 4 ≤ n + 1) = False:=by simp
theorem zFk (n : Nat) : (n + 4 ≤ n + 2) = False:=by simp
theorem zFf (n : Nat) : (n + 4 ≤ n + 3) = False:=by simp
attribute [go_sem] zFu zFd zFB zE9 zFe zFx zFn zFF zFh zFo zFI zFJ zFc zFl zFC zFk zFf
def Ok (σ : zd) : Prop:=Obs.lt σ.length σ = true
theorem Ok.up {σ : zd} (h : Ok σ) (k : Nat) : Obs.lt (σ.length + k) σ = true:=zoJ (yH _ _) _ h
theorem Ok.at {σ : zd} (h : Ok σ) : Obs.lt σ.length σ = true:=h
theorem Ok.app {σ r : zd} (h : Ok σ) (h2 : Obs.lt (σ.length + r.length) r = true) : Ok (σ ++ r):=by
 unfold Ok
 rw [List.length_append,zmM,Ok.up h,h2]
 rfl
end AC
namespace AC
open Go Go.A Go.A.Lex
theorem zuJ {e : List C} {k : Nat} (c : C) (h : k < e.length) : e.take k ++ c :: e.drop (k + 1) = e.set k c:=by
 rw [List.set_eq_take_append_cons_drop,if_pos h]
theorem zyy {a b : Nat} (h : a < b) : (a + 1 ≤ b) = True:=by simp; omega
end AC
namespace AC
open Go Go.A Go.A.Lex
set_option maxHeartbeats 4000000
theorem zrs (o : POp) (ho : zue o) : call T 127 [vOp o] [] = some (.tup [vI (zab o).1,vI (zab o).2],[]):=by
 rw [ze (fn:=zB) rfl]
 have hM:=zlp o ho
 cases hm : zgq o
 ·simp -implicitDefEqProofs only [go_sem,hm] at hM
  simp -implicitDefEqProofs only [go_sem,zB,zab,hm,hM]
 simp -implicitDefEqProofs only [go_sem,hm] at hM
 by_cases c1 : o.kind = 17
 ·simp -implicitDefEqProofs only [go_sem,zB,zab,zfv,hm,hM,eq_true c1]
 by_cases c2 : o.kind = 19
 ·simp -implicitDefEqProofs only [go_sem,zB,zab,zfv,hm,hM,c1,eq_true c2]
 by_cases c3 : 10 ≤ o.kind
 ·have c3' : o.kind ≥ 10:=c3
  by_cases c4 : o.kind ≤ 12
  ·simp -implicitDefEqProofs only [go_sem,zB,zab,zfv,hm,hM,c1,c2,eq_true c3,eq_true c3',eq_true c4]
  ·by_cases c5 : o.kind = 22
   ·simp -implicitDefEqProofs only [go_sem,zB,zab,zfv,hm,hM,c1,c2,eq_true c3,eq_true c3',c4,eq_true c5]
   ·simp -implicitDefEqProofs only [go_sem,zB,zab,zfv,hm,hM,c1,c2,eq_true c3,eq_true c3',c4,c5]
 ·have c3' : ¬ o.kind ≥ 10:=c3
  have c5 : ¬ o.kind = 22:=by omega
  simp -implicitDefEqProofs only [go_sem,zB,zab,zfv,hm,hM,c1,c2,c3,c3',c5,false_and]
def zkR (o : POp) (k : Nat) : Int × Int :=
 if o.kind = 13 ∨ o.kind = 20 then (if k = 0 then (1,1) else (o.bits,o.lanes))
 else if o.kind = 14 ∨ o.kind = 15 then (o.imm,1)
 else if o.kind = 16 ∨ o.kind = 17 then (if k = 0 then (64,1) else (o.bits,o.lanes))
 else if o.kind = 18 ∨ o.kind = 19 then (if k = 1 then (64,1) else if k = 0 then (1,1) else (o.bits,o.lanes))
 else if o.kind = 21 then (o.bits,1) else (o.bits,o.lanes)
theorem zm9 {o : POp} (h : zgq o = true) : zeC o.bits o.lanes = true ∧ (zK o).2 = true ∧ (zK o).1.length = o.args.length ∧ zgr o.kind = true:=by
 unfold zgq at h
 simp only [yc,decide_eq_true_eq] at h
 refine ⟨h.1,h.2.1,h.2.2.2.1,?_⟩
 cases hv : zgr o.kind
 ·rw [zpj hv] at h
  exact absurd h.2.1 (by simp)
 ·rfl
theorem zsH {o : POp} (h : zgq o = true) (hk : o.kind = 14 ∨ o.kind = 15) : 0 ≤ o.imm → o.imm ≤ 64:=by
 obtain ⟨h1,h2,_,_⟩:=zm9 h
 obtain ⟨hm,hl⟩:=zhw h1
 have hb:=zdq hm
 unfold zK at h2
 rcases hk with hk | hk
 ·simp [hk,arith,asks] at h2
  omega
 ·simp [hk,arith,asks] at h2
  omega
theorem zwO {o : POp} (h : zgq o = true) (h0 : 0 ≤ o.imm) : (yA o.args.length).map (zkR o) = (zK o).1:=by
 obtain ⟨h1,h2,h3,h4⟩:=zm9 h
 have hi:=fun hk => zsH h hk h0
 rw [← h3]
 obtain ⟨kind,bits,lanes,dst,args,imm⟩:=o
 dsimp only at *
 rcases zhu h4 with rfl | rfl | rfl | rfl | rfl | rfl | rfl | rfl | rfl | rfl | rfl | rfl | rfl | rfl | rfl | rfl | rfl | rfl | rfl | rfl | rfl | rfl | rfl
 all_goals first
  | rfl
  | (have h5:=hi (.inl rfl)
     have h6 : min imm 128 = imm:=by omega
     simp [zK,arith,asks,zkR,h6,yD]
     done)
  | (have h5:=hi (.inr rfl)
     have h6 : min imm 128 = imm:=by omega
     simp [zK,arith,asks,zkR,h6,yD]
     done)
  | (have h7 : zkR ⟨21,bits,lanes,dst,args,imm⟩ = fun _ => (bits,1):=by funext k; simp [zkR]
     have h8 : (zK ⟨21,bits,lanes,dst,args,imm⟩).1 = yF lanes.toNat (bits,1):=by simp [zK,arith,asks]
     rw [h7,h8,List.map_const',List.length_range,yv]
     done)
theorem zuR (o : POp) (ho : zue o) (hm : zgq o = true) : ∀ (d k : Nat) (a0 a2 a5 a6 a7 a8 a9 a10 a11 a12 a13 a14 a15 a16 a17 : V),o.args.length - k = d → k ≤ o.args.length →
  exec T zbG ⟨[a0,.one (.ptr 0 0 0 0),a2,.one (.ap 1 0 (((yA k).map (zkR o)).map rs)),vI k,a5,a6,a7,a8,a9,a10,a11,a12,a13,a14,a15,a16,a17],[.cells 0 6 [cOp o],.tok 2 [k]],0,0⟩ =
   some (.exit 0,⟨[vU,vU,vU,.one (.ap 1 0 (((yA o.args.length).map (zkR o)).map rs)),vU,vU,vU,vU,vU,vU,vU,vU,vU,vU,vU,vU,vU,vU],[.cells 0 6 [cOp o],.tok 2 [o.args.length]],0,0⟩):=by
 intro d
 induction d with
 | zero =>
   intro k a0 a2 a5 a6 a7 a8 a9 a10 a11 a12 a13 a14 a15 a16 a17 h1 h2
   have hk : k = o.args.length:=by omega
   subst hk
   rw [xl zbG rfl,zdC]
   simp -implicitDefEqProofs only [go_sem,yg,ya]
 | succ d ih =>
   intro k a0 a2 a5 a6 a7 a8 a9 a10 a11 a12 a13 a14 a15 a16 a17 h1 h2
   have hk : k < o.args.length:=by omega
   have:=ih (k + 1) vU vU vU vU vU vU vU vU vU vU vU vU vU vU vU (by omega) (by omega)
   have hlim : k + 1 ≤ LIM:=by have:=ho.2; unfold LIM; omega
   have hlen : (((yA k).map (zkR o)).map rs).length = k:=by simp
   have e1 : ((yA k).map (zkR o)).map rs ++ [rs (zkR o k)] = ((yA (k + 1)).map (zkR o)).map rs:=by
    rw [yD,yJ,yJ]
    rfl
   have hw : o.kind = 14 ∨ o.kind = 15 → Go.IntKind.i64.wrap o.imm = o.imm:=fun h => by
    have:=zsH hm h ho.1.1
    have:=ho.1.1
    rw [wrap_i64] <;> omega
   have hwk:=za hk ho.2
   have hik:=ilt hk
   obtain ⟨h3,h4,h5,h6⟩:=zm9 hm
   obtain ⟨acc,hacc⟩ : ∃ acc,acc = ((yA k).map (zkR o)).map rs:=⟨_,rfl⟩
   rw [← hacc] at hlen e1 ⊢
   obtain ⟨kind,bits,lanes,dst,args,imm⟩:=o
   dsimp only at *
   have hk0 : ((k : Int) = 0) = (k = 0):=by apply propext; omega
   have hk1 : ((k : Int) = 1) = (k = 1):=by apply propext; omega
   rw [xl zbG rfl,zdC]
   simp -implicitDefEqProofs only [go_sem] at this
   rcases zhu h6 with rfl | rfl | rfl | rfl | rfl | rfl | rfl | rfl | rfl | rfl | rfl | rfl | rfl | rfl | rfl | rfl | rfl | rfl | rfl | rfl | rfl | rfl | rfl
   all_goals
    by_cases k0 : k = 0
    ·have k1 : ¬ k = 1:=by omega
     simp -implicitDefEqProofs only [zkR,rs,eq_true k0,k1,if_true,if_false,yB,or_false,or_true,false_or,true_or,or_self,Nat.reduceEqDiff,Nat.zero_ne_one] at e1 hw
     simp -implicitDefEqProofs only [go_sem,ya,hik,hk0,hk1,eq_true k0,k1,hlen,hlim,hwk,hw,e1,this]
    ·by_cases k1 : k = 1
     ·simp -implicitDefEqProofs only [zkR,rs,k0,eq_true k1,if_true,if_false,yB,or_false,or_true,false_or,true_or,or_self] at e1 hw
      simp -implicitDefEqProofs only [go_sem,ya,hik,hk0,hk1,k0,eq_true k1,hlen,hlim,hwk,hw,e1,this]
     ·simp -implicitDefEqProofs only [zkR,rs,k0,k1,if_true,if_false,yB,or_false,or_true,false_or,true_or,or_self] at e1 hw
      simp -implicitDefEqProofs only [go_sem,ya,hik,hk0,hk1,k0,k1,hlen,hlim,hwk,hw,e1,this]
end AC
