/- A part of the proof of AliasTells. Conditions: none. -/
import Derived.Test.YtmkncmffaaninaaGreatLAI
import Derived.Test.YtmkncmffaaninaaGreatLAH
import Derived.Test.YtmkncmffaaninaaGreatLAG
import Derived.KernelRfl
set_option linter.all false
open List renaming drop_eq_getElem_cons → ya,drop_length → yf,getElem_mem → yg,any_cons → yi,drop_zero → yk,getElem?_cons_zero → ym,replicate → yo
open Bool renaming or_eq_false_iff → yb,false_eq_true → yd,and_eq_true → ye,not_eq_true' → yl,or_eq_true → yn
open Int renaming natCast_zero → yc,lt_irrefl → yj,reduceSub → yr
open Option renaming bind_eq_some_iff → yh,bind_some → yq
open Nat renaming add_assoc → yp,add_comm → ys,le_refl → yt
namespace AC
open Go.A Go.A.Lex Go.A.Z
def zgc:Cd:=c8 (dC 4 0 1 5 3 5 0 (m 6 8) 2) 1 (cC 3 (bK 0 1 (bW 4 (a9 2) cW aw (dw (er 0) aw 4 (a9 2) et aw (.nil (.l 12)) cW (fn (dR 1 c (.l 8)) dk))))) 4 4
def zb6:Cd:=cS (m 6 26) zgc
def zR:Fun:=⟨1,6,2,false,[(2,none)],eB 1 2 2 (bQ (cX (.pointer none))) (cq 1 1 (n aw (aW (List.flatten (yo 1025 [.f (.lit (.int .u64 0))])) (1024,1,c) [] []) (bx (.box 1025 c) 3)) (d2 4 0 zb6 (cm 3 2 (m 6 4))))⟩
def zcx:Cd:=c8 (b (cA 3 4 (cL 1024)) (dH 4 (m 6 6) 3)) 1 (aK 0 (bW 3 e9 cW (dR 1 c a2) (eO 5 (eY .neq 0))) (cO 5 (eb 0 2 (d 3) (d 0) (es 3 e9 cW (dR 1 c a2) aw (cI (eQ 0 0) 0 1 e3 1 1 c []) (bV 2 (eQ 0 0) [] 0 c []) (dS 2 (.l 9)) (fn (fd 2) az))))) 3 3
def zbb:Cd:=eg (m 6 15) zcx
def zdj:Fun:=⟨1,6,0,false,[(1,some (some 2))],br 1 (a1 cv) (aK 0 (H dc (aY 1024) aw (aW cv (1,1,c) [] [(0,2)]) (cU 2 cv 2 2)) (d2 3 0 zbb (ar (ep (cD 2) 1) (m 6 2))))⟩
def zgu:Fun:=⟨1,6,0,false,[(1,none)],c1 1 (be (w 2 (d 0)) [] 0 (eE 2 0 3 c (ey 3 2 3 3 c) (eJ 3 (du (aZ 1) (m 6 2)) 2 1 4 c (eJ 4 (dx 1 1 (m 6 2)) 2 2 5 c (cR 5 1 2 (m 6 2))))) (eV 1 (m 6 2)))⟩
def ziT:Fun:=⟨2,3,0,false,[(2,none)],ed 2 (en (aN 0 (cL 1) (fu (bJ 0) (cV 1) 1 (ex 1) 2 (bx (bE 3) 2))))⟩
def zge:Fun:=⟨1,3,1,false,[(2,none)],eB 1 1 2 (bQ fa) (en (bx (eI 177 [] (.s 1) []) 2))⟩
def zj3:Cd:=dI 10 9 8 10 (m 11 18) 3 1 (bi (co 1 7 9) (bx aw 5) (.reg (cN 4 5 (bL 181) (cn 1 aQ [] [] 0 c []) (fI 1 dk 4)))) (d0 9 9)
def zh3:Cd:=eg (m 11 914) zj3
def zgt:Fun:=⟨1,11,0,false,[(1,some (some 2)),(2,none)],b (bl 1 (a1 dM) 2) (bP 0 aB (eL 3 fc [] 1 3) (.seq (bi (cV 3) (c3 (cL 1) (dW (bz (cV 3)) (cM 64) 1 (c4 2 (a0 (bJ 0) (eI 179 [] (.s 3) []) 1 (eX 178 c) 2 (bI 6 3) [])))) (fv 6 dM (ek 1 c (am 2 5)) (m 11 6))) (bi (cV 3) (bx (.mkc 1 c) 4) (be (w 7 (d 0)) (cp 8 7 9) 0 zh3 (ar (cN 4 4 (bL 182) (cI dM 0 1 a2 1 1 c []) (ek 1 c (aZ 2))) (m 11 6))))))⟩
def zkj:Fun:=⟨1,5,0,false,[(2,none)],eB 1 2 2 O (cq 0 1 (H aw (bL 147) aq dE (eu dD 3 dM (dP 3 a2 4 a2))) (ar (aN 4 e4 (cf (cF 1 3) (ez aw 1 (er 1) 2 aw 3 (fM 183 a2 c (ab 184 [] []) []) 4 (fg 5 2)))) (m 5 4)))⟩
def zfd:Cd:=ap (bA 1 (bm (d 2) 3 1 c) 3 0 (m 4 0) 0) 1 (.reg (fC 0 1 0 (d 2) (es 0 (d 2) cg aw (d 0) (d 1) cg aw (g (aa 1 11 (.l 10)) (ah 1 c (.l 5)) (fn (aa 1 11 (.l 10)) dk))))) (bW 1 (aM c 1) (d 2) (cK .sub 1) (dt 1 a2 2))
def zbn:Cd:=cJ (m 4 7) zfd
def zfG:Fun:=⟨1,4,0,false,[],an (ag 0) (n aB (cK .sub 1) (bd (aZ 1) 2 az)) 0 zbn⟩
def zlT:Cd:=dI 8 7 6 8 (m 9 8) 1 1 (b (fL 5 5 7 5 (eL 4 aQ (eH fc 0 aQ) 5 4)) (.reg (es 3 (fd 4) aw aB (u 1 4) aw aB (dl 3) (fq 7 3)))) (d0 7 7)
def ziV:Cd:=cy (m 9 232) zlT
def znJ:Fun:=⟨1,9,0,false,[(2,none)],b (bl 1 (aJ 3 0) 2) (b (dQ 2 1 aB 3) (d1 (fm eK 5 6 5 7) 0 ziV (cm 3 2 (m 9 4))))⟩
def zqL:Fun:=⟨1,2,0,false,[(1,none)],ed 1 (ar (cj 0 (dO 119 c (ab 192 [] [])) b5 1) (m 2 2))⟩
def zb3:Fun:=⟨2,3,0,false,[(2,none)],fE 2 0 (cj 1 (eX 193 c) (c9 0) 2)⟩
def zlW:Fun:=⟨1,3,0,false,[(2,none)],eB 1 5 2 O (en (n (aA 5 1) (bL 155) (bx b5 2)))⟩
def zhF:Cd:=dI 8 7 6 8 (m 15 2) 1 1 (b (fL 4 5 7 4 (cU 3 (bb dM) 4 3)) (b (a3 (fd 3) aw (u 1 3) aw (fk 1 0 (fx fc []) 0 a2 [(1,c)]) (bL 152) b5 aq (d7 2 3 aw 1 (u 3 3) 2 (E aw 3) (eW (cn 1 aQ [] (fx aQ []) 0 a2 [(1,c)]) 4 (bL 194) 5 b5 6 9 7))) (fl 9 (m 15 4)))) (d0 7 7)
def zf7:Cd:=cy (m 15 226) zhF
def zhS:Cd:=fG 13 12 11 (ak 13 2 (m 15 2) 1) 3 (b (fL 6 10 12 6 (cU 4 eo 6 4)) (b (eb 0 4 (u 1 4) aw (a3 (u 2 4) aw (u 3 4) aw (fk 1 0 (fx fc (fx fc (fx fc []))) 0 e3 [(1,eh),(2,a2),(3,c)]) (bL 152) b5 aq (dW (b2 4 4) aw 1 (eW (cn 1 aQ [] [] 0 c []) 2 (bL 194) 3 b5 4 14 5)))) (fl 14 (m 15 4)))) 12 12
def zf5:Cd:=cy (m 15 7170) zhS
def zdP:Fun:=⟨1,15,0,false,[(2,none)],eB 1 5 2 O (L (ef (fm (er 0) 5 6 5 7) 0 zf7) (ef (fm (er 1) 10 11 10 12) 2 zf5) (ar (a3 eK cW aw eK et aw (fk 1 0 (fx fc []) 0 dk [(1,c)]) (bL 152) (cf (cF 2 1) (ez (aY 2) 1 aw 2 (cn 1 aQ [] [] 0 c []) 3 (bL 194) 4 (fg 5 2)))) (m 15 4)))⟩
def zex:Cd:=fG 16 15 14 (ak 16 2 (m 19 1829) 2) 3 (b (fL 4 13 15 4 (cU 6 (bb dM) 4 6)) (b (bK 2 6 (dw (u 1 2) aw 4 cg aw (dp 184 (.l 5)) b5 aq (d7 3 6 aw 1 aB 2 (E (u 2 6) 3) (eW aw 4 aB 5 (db 3) 6 17 7)))) (cR 17 1 5 (m 19 2)))) 15 15
def zcr:Cd:=cS (m 19 59189) zex
def zez:Cd:=dI 11 10 9 11 (m 19 0) 1 1 (bP 10 (co 5 8 10) (eu (fh 5) 5 (aQ::eH fc 0 aQ) (eU 4 dk (av 5 5 a2))) (L (bP 0 dc (H (aY 6) aw (d 4) (d 4) (aL (ch 196 a2 az c []) 12 b5)) (cR 12 1 5 (m 19 2))) (ef (fm (fd 5) 13 14 13 15) 2 zcr) (b (d6 2 5 cW aw (cl 1) (dT 2 5 (bB cW 1 aw 2 (cl 3) 3 (dY 4) (cf (cF 2 5) (cz et 1 aw 2 (dV 0) 3 (w 18 (J 4 c O)) []))))) (cR 18 1 5 (m 19 2))))) (d0 10 10)
def zco:Cd:=cy (m 19 1797) zez
def zaT:Fun:=⟨1,19,0,false,[(1,none)],c1 1 (aK 0 (n dc cW (H (fh 3) (bL 98) aq dE (eu dD 2 dM (dP 2 a2 3 a2)))) (aU (cA 3 7 (dV 0)) (cR 7 1 5 (m 19 2)) (d8 0 0 (cD 2) (H (cD 2) (cr 195 c (i 0)) (.nil eh) (aY 4) (a (ah 2 c eh) (q (.nil e3)) (fn (aY 6) (.l 5)))) (be (ag 0) (n dc cW (fm (aY 2) 8 9 8 10)) 0 zco (du (aZ 1) (m 19 2))))))⟩
def zeC:Cd:=dI 9 8 7 9 (m 11 0) 1 1 (b (fL 5 6 8 5 (eL 3 aQ (eH fc 0 aQ) 5 3)) (b (dQ 0 3 (dO 199 c (ab 200 [] [])) 4) (aK 4 (dT 1 3 (eW aw 1 (eI 202 [] (.s 1) []) 2 (eX 201 c) 3 10 4)) (cR 10 2 6 (m 11 4))))) (d0 8 8)
def zcq:Cd:=cy (m 11 450) zeC
def zaU:Fun:=⟨1,11,0,false,[(2,none)],b (bl 1 (aJ 1 0) 2) (L (bi (cV 1) (n dc cW (H et aw (bL 197) b5 (fu (bz (cV 1)) dc 1 cW 2 (eW cW 3 aw 4 (dO 119 c (ab 198 [] [])) 5 5 6)))) (cR 5 2 6 (m 11 4))) (an (q (cV 1)) (n dc cW (fm (aY 2) 6 7 6 8)) 0 zcq) (du (aZ 2) (m 11 4)))⟩
def zdR:Cd:=dI 15 14 13 15 (m 30 2) 2 1 (aK 14 (eP 1 12 14 aw (dt 3 a2 4)) (bv (q (cV 1)) (aN 3 (aM c 1) (bW 4 (bL 205) (dz dK 0 1 (i (-1)) 1 1 0 [(2,2,c)]) (fM 204 (.l 5) dk c []) [])))) (d0 14 14)
def zbD:Cd:=cS (m 30 28674) zdR
def zdE:Cd:=fG 23 22 21 (ak 23 4 (m 30 458850) 3) 5 (b (fL 4 20 22 4 (cU 7 (bb dM) 4 7)) (b (eb 1 7 (cL 1) aq (d7 1 7 aw 1 (cM 1023) 2 (dY 3) (fu (bz (cV 1)) (u 1 7) 1 aw 2 (ej (d 5) 3 (fd 7) 4 aw 5 (bL 205) 6 (eW (dz dK 0 1 dk 1 1 (-1) [(2,2,c)]) 7 (fM 204 (.l 7) (.l 5) c []) 8 b5 9 24 10))))) (cR 24 2 7 (m 30 4)))) 22 22
def zbv:Cd:=eg (m 30 7798882) zdE
def zdF:Cd:=fG 28 27 26 (ak 28 6 (m 30 458754) 3) 7 (bP 27 (co 6 25 27) (eu (fh 6) 9 eo (eU 8 dk (av 6 9 a2))) (bU 6 9 (H (bL 206) aq dE dD (dt 10 az 11)) (aK 10 (c3 (cM 0) (fj (cd (cV 1)) (u 3 9) 1 aw 2 (d 5) 3 (ez (d 8) 4 (d 10) 5 (d 11) 6 (cI bt 0 1 az 1 1 c []) 7 (cz (cI dK 0 1 eh 1 1 dk [(2,2,c)]) 8 (fM 204 (.l 8) e3 c []) 9 b5 10 (w 29 (J 11 c O)) [])))) (cR 29 2 7 (m 30 4))))) 27 27
def zbC:Cd:=eg (m 30 235339810) zdF
def zdT:Cd:=fG 19 18 17 (ak 19 2 (m 30 2) 2) 3 (bP 18 (co 5 16 18) (eu (fh 5) 6 (aQ::eH fc 0 aQ) (eU 5 dk (av 5 6 a2))) (d1 (fm (fd 6) 20 21 20 22) 4 zbv (ef (fm (u 1 6) 25 26 25 27) 6 zbC))) 18 18
def zbx:Cd:=cS (m 30 458754) zdT
def zbW:Fun:=⟨1,30,2,false,[(2,none)],b (bl 1 (aJ 1 0) 2) (bi (cV 1) (n .mkm e9 (fn (aY 7) a2)) (L (an (q (cV 1)) (n dc cW (fm cW 12 13 12 14)) 0 zbD) (an (q (cV 1)) (n dc cW (fm (aY 2) 16 17 16 18)) 2 zbx) (ar (n (cV 1) (eI 208 [] (.s 1) []) (bx (eX 207 c) 2)) (m 30 4))))⟩
def zev:Fun:=⟨1,3,0,false,[(2,none)],b (bl 1 (aJ 1 0) 2) (en (n (cV 1) (eI 209 [] (.s 1) []) (bx (eX 207 c) 2)))⟩
def zeP:Fun:=⟨1,3,0,false,[(2,none)],b (bl 1 (aJ 1 0) 2) (en (n (cV 1) (eI 210 [] (.s 1) []) (bx (eX 207 c) 2)))⟩
def zd7:Cd:=dI 6 5 4 6 (m 8 0) 0 1 (b (cb 5 3) (ds (fC 1 0 3 cg (eO 7 (x .op eh c []))) 7 (fo 3 2))) (d0 5 5)
def zbV:Cd:=fp zd7
def zcv:Fun:=⟨2,8,0,false,[(2,none)],c1 2 (be (ag 0) (bl 4 aB 5) 0 zbV (fP 2))⟩
def zat:Fun:=⟨2,5,0,false,[(2,none)],ed 2 (L (aK 0 (e5 125 3) (fl 3 (m 5 4))) (b (cA 1 4 (cl 1)) (bH 4 2 ao (m 5 4))) (dj 1 (c3 (cl 2) (dX 1 (cl 4) 1 (c4 2 (dX 1 (cl 8) 1 (c4 2 (dX 1 (cl 16) 1 (c4 2 (fi 0 (cM 1) (c3 (J 2 c O) (fj (ce 0) (d 1) 1 (d9 1) 2 (dy 128) 3 (fg 4 2))))))))))) (m 5 4)))⟩
def zbG:Fun:=⟨1,10,0,false,[(2,none)],b (bl 1 (aJ 6 0) 2) (d1 (aL (er 0) 3 aw) 0 (b3 3 0 4 c (p 4 (du (aZ 2) (m 10 4)) (eE 3 1 5 c (fQ 5 3 2 5 (fR 5 3 3 5 5 3 4 5 (fR 5 3 5 5 5 3 6 5 (fR 5 3 7 5 5 3 8 5 (fR 5 3 9 5 5 3 10 5 (fR 5 3 11 5 5 3 12 5 (ey 5 3 17 5 c))))))) (p 5 (dx 2 2 (m 10 4)) (eE 3 13 6 c (fQ 6 3 18 6 (ey 6 3 19 6 c)) (p 6 (dx 2 3 (m 10 4)) (eE 3 14 7 c (fR 7 3 15 7 7 3 16 7 (ey 7 3 22 7 c)) (eJ 7 (dx 2 1 (m 10 4)) 3 20 8 c (eJ 8 (dx 2 4 (m 10 4)) 3 21 9 c (eD 9 eK (bx aw 2) (m 10 4))))))))))) (eV 2 (m 10 4)))⟩
def za7:Fun:=⟨1,12,0,false,[(2,none)],eB 1 6 2 O (cq 0 1 (bx aw 3) (aU (aN 3 (cl 4) (fu (bJ 3) (c9 10) 1 aq 2 (aV (ce 3) (dq (dy 12)) (J 2 c O) 5 (dY 6) (eA (bJ 3) (cl 14) 1 (dY 2) (eA (bJ 3) (cl 15) 1 (dY 2) (fu (bJ 3) (c9 18) 1 aq 2 (aV (ce 3) (dq (dy 20)) (J 2 c O) 5 (bI 4 6) []))))))) (ae 4 (cq 2 1 (eO 5 (dV 1)) (fl 5 (m 12 4)))) (L (bP 3 (c9 16) (dr (ce 3) (dy 19) (eF 2 c O) (ev (cF 1 1) aw (cL 8) 2 (c3 (J 3 c O) (a0 (bJ 3) (c9 21) 1 aq 2 (cF 2 1) (aV (dq aw) (ac (cL 2) 2) (J 3 c O) 6 (bI 6 7) []))))) (fl 6 (m 12 4))) (an (w 7 (d 3)) [] 0 (b3 7 0 8 c (eJ 8 (eG (er 5) (n aw (er 1) (H aw (dp 224 a2) (er 5) aw (bx (dn 2) 2))) (m 12 4)) 7 14 9 c (eJ 9 (eG (er 5) (n aw (er 1) (H aw dd (fK 3) aq (fj (cF 5 1) aw 1 fz 2 (bL 125) 3 (fg 4 2)))) (m 12 4)) 7 15 10 c (eJ 10 (ar (bK 5 1 (eb 1 1 dd (da .gtr 3) (ev (cF 5 1) aw (eY .leq 64) 2 (c3 (J 3 c O) (fj (cF 5 1) aw 1 fz 2 (bL 125) 3 (fg 4 2)))))) (m 12 4)) 7 22 11 c (eD 11 (er 5) (H aw eK aw dd (bx (fK 3) 2)) (m 12 4))))))) (ar (dQ 5 1 (e2 0) 2) (m 12 4)))))⟩
def zfb:Cd:=c8 (dC 5 0 2 8 3 8 0 (m 12 12) 2) 1 (b (bK 0 2 (es 5 cg aw (fd 3) aw (d 5) cg aw (aL (dp 22 (.l 5)) 9 b5))) (dJ 9 4 (m 12 16))) 5 5
def zda:Cd:=cS (m 12 44) zfb
def zfu:Cd:=c8 (dC 6 1 2 10 3 10 2 (m 12 0) 2) 3 (b (bK 1 2 (es 6 cg aw (u 1 3) aw (d 6) cg aw (aL (dp 22 (.l 5)) 11 b5))) (dJ 11 4 (m 12 16))) 6 6
def zcJ:Cd:=cS (m 12 76) zfu
def zfC:Fun:=⟨2,12,0,false,[(4,none)],eM 2 2 0 (cs 3 2 1 4 O) (aU (a3 (fd 2) aw aB (fd 3) aw aB (db 3) aq (d7 1 2 aw 1 aB 2 (E (u 1 3) 3) (eW aw 4 aB 5 (db 3) 6 7 7))) (dJ 7 4 (m 12 16)) (L (dA 5 0 zda) (dA 6 2 zcJ) (el 4 ao (m 12 16))))⟩
def zaA:Fun:=⟨2,3,0,false,[(2,none)],fE 2 0 (cj 1 (eX 225 c) (c9 0) 2)⟩
def zjq:Fun:=⟨1,3,0,false,[(2,none)],eB 1 2 2 O (en (eS 1 (bL 36) (bx b5 2)))⟩
def zix:Cd:=dI 6 5 4 6 (m 8 0) 0 1 (bi (co 1 3 5) (bx aw 2) (dg 0 2 (aL (x .op az c []) 7 b5) (ae 7 (.ret (m 8 0))))) (d0 5 5)
def zir:Cd:=cJ (m 8 57) zix
def ziP:Fun:=⟨2,8,0,false,[],an (w 3 (cV 1)) (cp 4 3 5) 0 zir⟩
def zcy:Fun:=⟨2,3,0,false,[(2,none)],fE 2 0 (cj 1 (eX 227 c) (c9 0) 2)⟩
def zjA:Fun:=⟨2,3,0,false,[(2,none)],fE 2 0 (n (cV 1) (ei 180) (bx b5 2))⟩
def ziG:Cd:=dI 8 7 6 8 (m 10 0) 0 1 (bi (co 1 5 7) (bx aw 4) (aU (cN 4 3 (da .leq 1) aq (a0 (bJ 4) (d 1) 1 (ex 1) 2 (bI 9 3) [])) (fl 9 (m 10 4)) (.reg (cb 4 3)))) (d0 7 7)
def zgK:Cd:=cJ (m 10 234) ziG
def zjE:Fun:=⟨2,10,0,false,[(2,none)],ed 2 (bn (am 3 (-1)) (be (w 5 (d 0)) (cp 6 5 7) 0 zgK (el 2 ao (m 10 4))))⟩
def zjy:Cd:=fG 13 12 11 (ak 13 2 (m 14 452) 2) 3 (bi (co 1 10 12) (bx aw 5) (cC 2 (dw (d 5) (d 2) 5 cg aw (d 3) (fk 1 0 [] 0 c []) (dS 1 a2) (fn (aa 1 8 (.l 7)) az)))) 12 12
def zhk:Cd:=cS (m 14 7628) zjy
def zjD:Cd:=dI 9 8 7 9 (m 14 4) 2 1 (aK 8 (eP 1 6 8 aw (dt 3 a2 4)) (an (w 10 (d 4)) (cp 11 10 12) 2 zhk)) (d0 8 8)
def zhm:Cd:=cS (m 14 452) zjD
def zkJ:Fun:=⟨1,14,0,false,[(1,none)],b7 1 d5 (bP 0 aB (bx (fD aQ [] (some (0,1)) c) 2) (be (w 6 (d 0)) (cp 7 6 8) 0 zhm (cm 2 1 (m 14 2))))⟩
def zdI:Cd:=dI 11 10 9 11 (m 13 0) 0 1 (aK 10 (eP 1 8 10 aw (dt 4 a2 5)) (aK 1 (cj 4 cg aw 6) (d8 2 5 (d 6) (aL (x .op a2 az [c]) 12 b5) (dJ 12 3 (m 13 8))))) (d0 10 10)
def zbu:Cd:=cJ (m 13 1798) zdI
def za1:Fun:=⟨3,13,0,false,[(3,none)],ed 3 (L (aK 0 (n aB (d 1) (aL aB 7 (db 2))) (dJ 7 3 (m 13 8))) (an (w 8 (d 0)) (cp 9 8 10) 0 zbu) (el 3 ao (m 13 8)))⟩
def zgh:Cd:=dI 7 6 5 7 (m 9 0) 0 1 (b (cb 6 3) (d8 0 3 cg (eN 1 (d 3) cg (eO 8 (db 4))) (fl 8 (m 9 4)))) (d0 6 6)
def zdX:Cd:=cJ (m 9 99) zgh
def zcB:Fun:=⟨2,9,0,false,[(2,none)],ed 2 (L (aK 0 (n aB (d 1) (aL aB 4 (db 2))) (fl 4 (m 9 4))) (an (ag 0) (bl 5 aB 6) 0 zdX) (el 2 ao (m 9 4)))⟩
def ziq:Fun:=⟨1,2,0,false,[(1,none)],eR 1 0 (c3 (cL 0) (dX 0 (cM 2147483647) 1 (bx (bE 2) 1))) (m 2 2)⟩
def zdn:Cd:=dI 6 5 4 6 (m 8 0) 0 1 (b (cb 5 3) (ds (fC 1 0 3 ec (aL (fh 5) 7 (x .op eh c []))) 7 (fo 3 2))) (d0 5 5)
def zbf:Cd:=fp zdn
def zbA:Fun:=⟨2,8,0,false,[(2,none)],c1 2 (be (ag 0) (bl 4 aB 5) 0 zbf (fP 2))⟩
def zj9:Cd:=dI 6 5 4 6 (m 8 0) 0 1 (bi (co 1 3 5) (bx aw 2) (b (bW 2 aB (cM 64) aq (a0 (bJ 2) (bL 152) 1 b5 2 (bI 7 3) [])) (dJ 7 1 (m 8 2)))) (d0 5 5)
def zh8:Cd:=cJ (m 8 56) zj9
def zlU:Fun:=⟨1,8,0,false,[(1,none)],ed 1 (be (w 3 (d 0)) (cp 4 3 5) 0 zh8 (el 1 ao (m 8 2)))⟩
def znI:Cd:=dI 17 16 15 17 (m 29 214) 3 1 (aK 16 (eP 1 14 16 aw (dt 8 a2 9)) (cC 7 (eT 9 8 (fn (aa 1 2 az) az)))) (d0 16 16)
def zkv:Cd:=eg (m 29 114902) znI
def znN:Cd:=fG 25 24 23 (ak 25 4 (m 29 1838294) 3) 5 (an (q (co 1 22 24)) (bx aw 12) 6 (b (cN 6 12 cg aw (bx (cl (-2)) 26)) (aj 26 (e8 11 (cl (-2)) 27 (p 27 (.reg (cb 12 11)) (.reg (fC 6 7 11 (d 12) (bx (d3 231 dk a2 az c []) 11)))))))) 24 24
def zkB:Cd:=eg (m 29 31198422) znN
def znF:Cd:=fG 21 20 19 (ak 21 2 (m 29 66) 3) 3 (bi (co 1 18 20) (bx aw 10) (bn (am 11 (-2)) (be (q (u 1 2)) (n aw (d 10) (fm cg 22 23 22 24)) 4 zkB (ds (cN 6 10 cg aw (cA 11 28 (db 1))) 28 (d8 6 10 (d 11) (fn (aa 1 2 az) az) (.goto 0 (m 29 214) 3)))))) 20 20
def zkp:Cd:=eg (m 29 1835222) znF
def zaD:Cd:=fs (eS 2 (d 1) (bx (ei 100) 4)) (aK 4 (aL aB 13 e4) (bH 13 3 d5 (m 29 8))) (b (dQ 0 2 aB 5) (L (.regd [] (q (fk 1 0 [] 0 (i (-2)) [])::bW 5 (bZ .ck 230 [] [] az c []) (d 5) (fD fc [] none c) (dt 6 a2 7))) (an (w 14 (d 4)) (cp 15 14 16) 0 zkv) (d8 6 1 (d 1) (fn (aa 1 2 az) az) (L (.label 0) (ef (dU (d 4) 18 (.slc 1 c (some (i 1)) none none) 19 18 20) 2 zkp) (dg 6 1 (fn cg (i (-1))) (cm 6 3 (m 29 8)))))))
def znb : Go.A.Code:=(findLabel zaD 0).getD .skip
theorem zsu : findLabel zaD 0 = some znb:=rfl
def zpx:Fun:=⟨2,29,0,false,[(3,none)],eB 2 2 3 d5 (.scope zaD)⟩
def zpF:Fun:=⟨3,4,0,false,[(3,none)],ed 3 (ar (eT 0 1 (bW 2 (fk 1 0 (fx fc []) 0 az [(1,c)]) (dp 232 dk) aq (fi 0 (d 1) (ez (d 2) 2 (ch 233 a2 az c []) 3 (d 1) 4 (dn 1) 5 (fg 6 3))))) (m 4 8))⟩
def zg9:Fun:=⟨1,4,0,false,[(1,none)],ed 1 (be (w 2 (d 0)) [] 0 (eE 2 1 3 c (fQ 3 2 8 3 (fR 3 2 16 3 3 2 32 3 (ey 3 2 64 3 c))) (bH 3 1 ao (m 4 2))) (el 1 O (m 4 2)))⟩
def zd4:Fun:=⟨1,2,0,false,[(1,none)],ed 1 (ar (cj 0 (bL 197) b5 1) (m 2 2))⟩
def zdp:Fun:=⟨2,3,0,false,[(2,none)],fE 2 0 (cj 1 (eX 234 c) (c9 0) 2)⟩
def zd6:Fun:=⟨1,3,0,false,[(2,none)],eB 1 4 2 O (eG (er 0) (n aw (bL 197) (bx b5 2)) (m 3 4))⟩
def zdH:Fun:=⟨2,3,0,false,[(2,none)],fE 2 0 (cj 1 (eX 235 c) (c9 0) 2)⟩
def zd2:Fun:=⟨2,4,0,false,[(3,none)],eB 2 6 3 O (eG (cV 1) (n (aA 6 2) (eX 203 c) (bx b5 3)) (m 4 8))⟩
def zaG:Fun:=⟨2,6,0,false,[(3,none)],cB 2 6 1 3 O (cY 0 (bP 0 dc (H (aY 3) aw (cL 2) aq (fj (cF 2 2) aw 1 (cM 1) 2 aq 3 (d7 0 2 aw 1 (cM 20) 2 (ac (bE 3) 7) (fg 8 4)))) (p 4 (el 3 O (m 6 8)) (aK 0 (H dc (aY 3) aw (cL 1) (ev (cF 0 2) aw (cM 17) 2 (fg 3 5))) (dJ 5 3 (m 6 8))))) (eG (aA 6 2) (bx (bL 236) 3) (m 6 8)))⟩
def zd1:Fun:=⟨3,6,0,false,[(4,none)],cB 3 4 2 4 O (bP 0 dc (dw (aY 7) aw 1 (fH dK true az c) aq dE dD (a1 dK) (bd (ah 4 c a2) 5 a2)) (aK 0 (H dc (aY 7) aw (d 1) (M (aA 4 3) (e (.mu a2 az c)))) (dj 5 (bx b5 4) (m 6 16))))⟩
def zjz:Fun:=⟨1,2,0,false,[(1,some (some 2))],br 1 (a1 bt) (dj 0 (ep (dz bt 0 1 c 1 1 1 []) 1) (m 2 2))⟩
def zdW:Fun:=⟨1,7,0,false,[(2,none),(3,none)],eM 1 6 0 (aH (aZ 2) (aZ 3)) (cY 0 (bU 6 1 (n (bL 236) b5 (fu (b2 0 1) aw 1 (bL 237) 2 (bx (bE 3) 4))) (p 4 (eq (aH (aZ 2) (aZ 3))) (cq 0 1 (n aw (c9 10) (ev (cF 0 1) aw (dy 12) 2 (fg 3 5))) (p 5 (eq (aH (am 2 1) (am 3 1))) (ds (dQ 0 1 (cl 22) 6) 6 (eq (bK 1 1 (eU 2 c (am 3 1))))))))) (eq (eb 1 1 eK aw (dt 2 a2 3))))⟩
def zfe:Cd:=fG 25 24 23 (ak 25 4 (m 38 1949755) 2) 5 (aK 24 (eP 1 22 24 aw (dt 7 a2 8)) (dg 1 8 (a3 (fd 6) aw (bL 205) (u 2 6) aw (d 7) cg aw (bx (x .op (.l 9) (.l 8) [.l 5,c,i 1048576]) 3)) (ds (cA 3 26 (dV 0)) 26 (.goto 0 (m 38 8) 0)))) 24 24
def zc0:Cd:=cS (m 38 31309947) zfe
def zeZ:Cd:=fG 21 20 19 (ak 21 2 (m 38 114747) 1) 3 (b (fL 4 18 20 4 (cU 6 (bb dM) 4 6)) (ef (fm (u 3 6) 22 23 22 24) 4 zc0)) 20 20
def zcO:Cd:=cy (m 38 1949755) zeZ
def zfl:Cd:=fG 34 33 32 (ak 34 8 (m 38 939638843) 2) 9 (bP 33 (co 2 31 33) (eu (fh 2) 12 bt (eU 11 dk (cu 12 a2))) (aK 1 (dw (u 4 10) aw 11 cg aw (cD 12) (d 4) (d 9) (bx (x .op (.l 8) dk [a2,az,c]) 3)) (ds (cA 3 35 (dV 0)) 35 (.goto 0 (m 38 8) 0)))) 33 33
def zcQ:Cd:=cS (m 38 15972025915) zfl
def zeX:Cd:=fG 30 29 28 (ak 30 6 (m 38 114747) 1) 7 (bP 29 (co 6 27 29) (eu (fh 6) 10 eo (eU 9 dk (av 6 10 a2))) (ef (dU (aA 6 10) 31 (bL 238) 32 31 33) 8 zcQ)) 29 29
def zcW:Cd:=cy (m 38 939638843) zeX
def zfi:Cd:=dI 17 16 15 17 (m 38 8) 0 1 (bP 16 (co 5 14 16) (eu (fh 5) 5 (aQ::eH fc 0 aQ) (eU 4 dk (av 5 5 a2))) (L (ef (fm (fd 5) 18 19 18 20) 2 zcO) (ef (fm (u 1 5) 27 28 27 29) 6 zcW) (b (n .mkm (d 0) (H dc cW et aw (a (e (.mu (.l 5) (i 0) c)) (e (.mu e3 (i 2) (i 1))) (H (.mv (.l 7)) (u 2 5) cW aw (bx (.lk (.one fc) false dk c) 13))))) (aU (cA 13 36 e4) (ae 36 (.exit 1 (m 38 114699) 0)) (aK 1 (bC 2 5 et (eN 13 (bL 205) (d 4) (bx (x .op e3 dk [az,c,i 1048576]) 3))) (ds (cA 3 37 (dV 0)) 37 (.goto 0 (m 38 8) 0))))))) (d0 16 16)
def zcA:Cd:=cJ (m 38 114699) zfi
def zew:Cd:=c1 3 (L (an (ag 0) (n dc cW (fm (aY 2) 14 15 14 16)) 0 zcA) (.label 0) (cm 3 2 (m 38 4)))
def zdC:Fun:=⟨2,38,0,false,[(2,none)],c1 2 (.scope zew)⟩
def zbh:Fun:=⟨5,8,0,false,[(5,none)],b (S (aJ 2 1) 5 (i 0)) (aU (n (cV 4) dc (dw (aY 7) aw 0 (fH dK true az c) aq dE dD (a1 dK) (bd (ah 4 c a2) 6 a2))) (b (cA 6 7 b5) (cR 7 5 7 (m 8 32))) (du (aZ 5) (m 8 32)))⟩
def zH:Fun:=⟨5,8,0,false,[(6,none)],fs (bl 5 (aJ 2 1) 6) (bi (cV 4) (n dc (aY 7) (eN 0 (fH dK false az c) (.fld 2 (some 2) c) (aL (cD 5) 7 (.eqa 2 true az c)))) (cR 7 6 6 (m 8 64))) (du (aZ 6) (m 8 64))⟩
def zj:Fun:=⟨5,9,0,false,[(5,none)],b (S (aJ 2 1) 5 (i 0)) (b (n (cV 4) dc (H (aY 7) aw (d 0) (fH dK false az c) (cU 6 dK 4 6))) (cY 0 (b (dQ 0 6 (cL 0) 7) (p 7 (du (aZ 5) (m 9 32)) (.seq (cq 0 6 (eN 2 (dn 1) aq (fj (cF 1 6) aw 1 (d 3) 2 (fK 1) 3 (fg 4 8))) (aj 8 (bv (q (fd 6)) (eN 2 (db 1) aq (fj (cd (cV 4)) dc 1 (aY 6) 2 aw 3 (ez (fd 6) 4 aw 5 (d 2) 6 (ch 196 dk az c []) 7 (fg 8 8))))))) (bs 8 (aZ 5) (m 9 32))))) (dx 5 7 (m 9 32))))⟩
def zar:Fun:=⟨2,5,0,false,[(2,none)],b7 2 fy (L (aK 1 (e5 125 3) (bH 3 2 fy (m 5 4))) (ds (cA 1 4 (cl 64)) 4 (cm 0 2 (m 5 4))) (ar (cN 0 1 dd (.bin .shl (a6 1) c) (bx (da .rem 3) 2)) (m 5 4)))⟩
def zbB:Cd:=dI 6 5 4 6 (m 8 0) 0 1 (b (cb 5 3) (ds (fC 1 0 3 (a9 2) (aL (fh 2) 7 (x .op eh c []))) 7 (fo 3 2))) (d0 5 5)
def zby:Cd:=fp zbB
def za2:Fun:=⟨2,8,0,false,[(2,none)],c1 2 (be (ag 0) (bl 4 aB 5) 0 zby (fP 2))⟩
def zdQ:Cd:=dI 6 5 4 6 (m 8 0) 0 1 (b (cb 5 3) (ds (fC 1 0 3 cg (eO 7 (x .op eh c []))) 7 (fo 3 2))) (d0 5 5)
def zbz:Cd:=fp zdQ
def zbQ:Fun:=⟨2,8,0,false,[(2,none)],c1 2 (be (ag 0) (bl 4 aB 5) 0 zbz (fP 2))⟩
def zmN:Cd:=aU (eT 6 5 (dB 9 2)) (dH 9 (m 10 32) 1) (.block 1 (.reg (dw (d 6) (d 5) 6 (.slc 1 az (some c) none none) (d 5) (d 6) (.slc 1 az none (some c) none) (.cpy 1 dk c) (fq 7 6))))
def zmL:Cd:=cy (m 10 96) zmN
def znm:Fun:=⟨2,10,1,true,[(2,none)],b7 2 d5 (aU (cA 1 7 (cL 0)) (cO 7 (M (.no "") (e (.no "")))) (aK 0 (dw aB dd 1 dd (dp 247 a2) aq dE dD (dt 3 az 4)) (aU (aN 3 (eY .gtr 0) (fF 4 (E (eY .gtr 9223372036854775807) 1) (bI 8 2))) (cO 8 (M (.no "") (e (.no "")))) (bP 4 fz (bx (fD fc [] none c) 5) (dg 5 0 (bx (.cpy 1 az c) 6) (cY 0 zmL (cm 5 2 (m 10 4))))))))⟩
def zr5:Cd:=fN (bA 1 (aN 2 cg (eN 1 (d 3) cg (eO 6 (da .gtr 4)))) 6 2 (m 8 15) 0) 3 (cC 0 (cj 2 cg aw 2))
def znv:Cd:=cJ (m 8 15) zr5
def zrZ:Cd:=fN (bA 1 (aN 3 cg (eN 1 (d 2) cg (eO 7 (da .gtr 4)))) 7 4 (m 8 15) 0) 5 (cC 0 (cj 3 cg aw 3))
def zny:Cd:=cJ (m 8 15) zrZ
def zrv:Cd:=fN (bA 2 (cA 3 5 (db 1)) 5 0 (m 8 4) 0) 1 (cY 2 znv (.block 4 zny))
def znh:Cd:=cJ (m 8 15) zrv
def zpt:Fun:=⟨4,8,0,false,[(4,none)],c1 4 (cY 0 znh (cm 2 4 (m 8 16)))⟩
def zuf:Fun:=⟨2,4,0,false,[(3,none)],eB 2 1 3 O (eG (cV 2) (c3 (bL 248) (fj (ce 1) (eI 249 [] (.s 2) []) 1 (eX 119 c) 2 b5 3 (fg 4 3))) (m 4 8))⟩
def znz:Cd:=fN (bA 1 (cA 2 5 (db 1)) 5 0 (m 7 2) 0) 1 (aK 0 (bW 1 (ei 250) (d 0) (d 2) (aL (ei 250) 6 (ex 3))) (p 6 (cC 0 (cj 1 cg aw 1)) (cC 0 (cj 2 cg aw 2))))
def zkH:Cd:=cJ (m 7 7) znz
def zmk:Fun:=⟨3,7,0,false,[(3,none)],c1 3 (af (b (fC 0 1 2 (fk 1 0 (fx fc []) 0 az [(1,c)]) (aL (dp 232 dk) 4 b5)) (cR 4 3 (-2) (m 7 8))) 0 zkH (cm 1 3 (m 7 8)))⟩
def zd3:Cd:=dI 6 5 4 6 (m 8 0) 0 1 (b (cb 5 3) (ds (fC 1 0 3 (a9 4) (aL (fh 4) 7 (x .op eh c []))) 7 (fo 3 2))) (d0 5 5)
def zbR:Cd:=fp zd3
def zce:Fun:=⟨2,8,0,false,[(2,none)],c1 2 (be (ag 0) (bl 4 aB 5) 0 zbR (fP 2))⟩
def zeE:Cd:=dI 6 5 4 6 (m 8 0) 0 1 (b (cb 5 3) (ds (fC 1 0 3 (a9 6) (aL (fh 6) 7 (x .op eh c []))) 7 (fo 3 2))) (d0 5 5)
def zcn:Cd:=fp zeE
def zc3:Fun:=⟨2,8,0,false,[(2,none)],c1 2 (be (ag 0) (bl 4 aB 5) 0 zcn (fP 2))⟩
def zdL:Fun:=⟨1,8,0,false,[(2,none)],eB 1 6 2 O (aU (eb 1 1 eK aw (aL (dp 251 a2) 6 b5)) (fl 6 (m 8 4)) (bU 6 1 (H (bL 252) aq dE dD (dt 3 az 4)) (fs (dQ 3 1 (bL 253) 5) (cq 0 1 (eO 7 (bL 237)) (cO 7 (dQ 3 1 e4 5))) (dj 4 (fr 5 (c3 (J 1 c O) (fi 3 aB (ez (er 4) 2 aw 3 aB 4 (dn 3) 5 (c3 (J 6 c O) (fj (cF 4 1) aw 1 (dO 119 c (ab 254 [] [])) 2 b5 3 (fg 4 2))))))) (m 8 4)))))⟩
def zkz:Fun:=⟨1,2,0,false,[(1,none)],eR 1 0 (c3 (cl 17) (dX 0 (cl 19) 1 (bx (bE 2) 1))) (m 2 2)⟩
def zjj:Fun:=⟨1,5,0,false,[(2,none)],eB 1 6 2 d5 (.seq (bU 6 1 (e5 236 4) (bH 4 2 d5 (m 5 4))) (bU 6 1 (H (bL 252) aq dE dD (eU 3 az (q (.mv az)))) (cm 3 2 (m 5 4))))⟩
def zBm:Fun:=⟨2,8,0,false,[(2,none),(3,none)],fs (b4 2 fy 3 fy) (.cond O (b (dw (d 0) (ci .u32) 1 (ci .u32) (dp 257 a2) aq dE dD (dt 4 az 5)) (ar (bW 4 dd (d 5) dd (dt 2 a2 3)) (m 8 12))) .skip) (dg 0 1 (H (ei 258) aq dE dD (dt 6 az 7)) (ar (eT 6 7 (dt 2 az 3)) (m 8 12)))⟩
def zlv:Cd:=dI 8 7 6 8 (m 11 4) 0 1 (aK 7 (eP 1 5 7 aw (dt 3 a2 4)) (aU (cA 4 9 (cl (-1))) (ae 9 (cC 2 (aR c 1 2 c))) (bP 4 (dV (-2)) (fr 0 (cz (d 3) 1 (ei 250) 2 (cL 0) 3 (w 10 (J 4 c O)) [])) (dJ 10 1 (m 11 2))))) (d0 7 7)
def ziX:Cd:=cJ (m 11 229) zlv
def ziI:Fun:=⟨1,11,0,false,[(1,none)],ed 1 (c1 2 (be (w 5 (d 0)) (cp 6 5 7) 0 ziX (dj 2 (bx (cl 1) 1) (m 11 2))))⟩
def zo5:Fun:=⟨2,3,0,false,[(2,none)],ed 2 (eG (cV 1) (cj 0 (ei 250) (cL 0) 2) (m 3 4))⟩
def zlP:Cd:=dI 6 5 4 6 (m 9 0) 0 1 (b (cb 5 3) (L (bP 1 (cL 0) (em 1 (eW (d 0) 1 aB 2 (ex 2) 3 7 4)) (cR 7 2 (-1) (m 9 4))) (d8 0 1 cg (eO 8 (cl (-1))) (ae 8 (cm 3 2 (m 9 4)))) (cC 0 (cj 1 cg aw 1)))) (d0 5 5)
def zi5:Cd:=cJ (m 9 51) zlP
def znK:Fun:=⟨2,9,0,false,[(2,none)],c1 2 (be (ag 0) (bl 4 aB 5) 0 zi5 (eV 2 (m 9 4)))⟩
def zeU:Fun:=⟨2,7,0,false,[(2,none)],ed 2 (L (aK 0 (e5 197 3) (fl 3 (m 7 4))) (an (w 4 (d 1)) [] 0 (b3 4 1 5 c (p 5 (el 2 ao (m 7 4)) (eE 4 2 6 c (fR 6 4 4 6 6 4 8 6 (ey 6 4 16 6 c)) (aP 6 (ag 0) (c3 (c9 8) (fj (ce 0) (d 1) 1 (d9 1) 2 (dy 128) 3 (fg 4 2))) (m 7 4)))))) (el 2 O (m 7 4)))⟩
def zo:Fun:=⟨1,23,0,false,[(2,none),(3,none)],eM 1 6 0 (b4 2 d5 3 O) (.seq (.regd [(6,15)] (bK 1 1 (a3 eK aw (cI bt 0 1 a2 1 1 c []) (er 1) aw (dz bt 0 1 c 1 1 1 []) (dz bt 0 1 (i 1) 1 1 1 []) (dz bt 0 1 (i 64) 1 1 1 []) (ai (cQ 4 bt) (cQ 5 bt) (cQ 6 bt) (cQ 7 bt) (ai (cu 4 (.l 9)) (cu 5 (.l 7)) (cu 6 (.l 7)) (cu 7 (.l 7)) []))))) (b (bK 2 1 (H (cl 1) (er 1) aw (c9 8) (dt 8 dk 9))) (d1 (aL (er 0) 10 aw) 0 (b3 10 0 11 c (p 11 (ea (a3 (er 5) aw (er 1) aw (dp 259 a2) (er 5) aw (dn 2) (dt 2 d5 3))) (eE 10 1 12 c (fR 12 10 2 12 12 10 3 12 (fR 12 10 5 12 12 10 6 12 (fR 12 10 7 12 12 10 8 12 (ey 12 10 9 12 c)))) (p 12 (eG (cD 4) (eS 4 (bV 2 bt [bt] 0 az [(1,c)]) (H fA (er 5) aw (e2 0) (dt 2 dk 3))) (m 23 12)) (eE 10 4 13 c (fR 13 10 10 13 13 10 11 13 (ey 13 10 12 13 c)) (eJ 13 (ea (a3 (cD 4) (cD 4) (bV 2 bt [bt] 0 az [(1,c)]) fA (er 5) aw (e2 0) aq (ai (ce 8) (eF 1 c O) (h 2 e3) (h 3 az) []))) 10 13 14 c (eJ 14 (ea (a3 (cD 6) (cD 4) (cD 4) (bV 2 bt [bt,bt] 0 a2 [(1,az),(2,c)]) fA (er 5) aw (e2 0) (dt 2 dk 3))) 10 14 15 c (eJ 15 (ea (a3 (er 5) aw (.mxn false c (a6 128)) fz (dz bt 0 1 c 1 1 1 []) (bV 2 bt [] 0 c []) fA (d 8) (ev (cF 5 1) aw (er 1) 2 (cz aw 3 dd 4 (fK 3) 5 (eF 6 c O) (ev (cF 5 1) aw fz 2 (ai (ac (bL 197) 3) (eF 4 c O) (h 2 (.l 15)) (h 3 az) [])))))) 10 15 16 c (eJ 16 (eG (er 5) (a3 aw (.mxn false c (a6 128)) fz (dz bt 0 1 c 1 1 1 []) (bV 2 bt [] 0 c []) fA (d 8) aq (e6 (cF 5 1) aw (ez (er 1) 2 aw 3 dd 4 (da .gtr 3) 5 (c3 (J 6 c O) (bu (cF 5 1) aw 1 (eY .leq 64) 2 (eF 3 c O) (ev (cF 5 1) aw fz 2 (ai (ac (bL 197) 3) (eF 4 c O) (h 2 (.l 20)) (h 3 az) []))))))) (m 23 12)) 10 16 17 c (eJ 17 (eG (cD 7) (n (bV 2 bt [] 0 c []) fA (eb 5 1 (e2 0) aq (ai (ce 9) (eF 1 c O) (h 2 e3) (h 3 az) []))) (m 23 12)) 10 17 18 c (p 18 (ea (a3 (cD 7) (cD 4) (bV 2 bt [bt] 0 az [(1,c)]) fA (er 5) aw (e2 0) aq (ai (ce 9) (eF 1 c O) (h 2 e3) (h 3 az) []))) (eE 10 18 19 c (ey 19 10 19 19 c) (eJ 19 (ea (a3 (cD 6) (cD 7) (cD 4) (bV 2 bt [bt,bt] 0 a2 [(1,az),(2,c)]) fA (er 5) aw (e2 0) (fr 8 (c3 (J 1 c O) (ai (ce 9) (eF 1 c O) (h 2 (.l 9)) (h 3 az) []))))) 10 20 20 c (eJ 20 (ea (eS 6 (cD 4) (a3 (cD 4) (cD 4) (bV 2 bt [bt,bt,bt] 0 dk [(1,a2),(2,az),(3,c)]) fA (er 5) aw (e2 0) aq (ai (ce 8) (eF 1 c O) (h 2 e3) (h 3 az) [])))) 10 21 21 c (eJ 21 (eG (cD 5) (a3 (bV 2 bt [] 0 c []) fA eK aw (dp 261 a2) (er 5) aw (e2 0) (fr 8 (ai (dq b5) (eF 2 c O) (h 2 (.l 7)) (h 3 az) []))) (m 23 12)) 10 22 22 c (eD 22 (cD 4) (H (bV 2 bt [] 0 c []) fA (d 8) b5 (cf (cF 5 1) (ez aw 1 eK 2 aw 3 dd 4 (ai (ac (fK 3) 5) (eF 6 c O) (h 2 (.l 10)) (h 3 az) [])))) (m 23 12))))))))))))))))) (ea (b4 2 d5 3 O)))))⟩
def zlO:Fun:=⟨1,2,0,false,[(1,none)],eR 1 0 (c3 (c9 1) (fi 0 (dy 1023) (fg 2 1))) (m 2 2)⟩
def zlA:Fun:=⟨1,2,0,false,[(1,none)],ed 1 (ar (cj 0 (bL 253) b5 1) (m 2 2))⟩
def zvE:Fun:=⟨2,5,0,false,[(2,none),(3,none)],b (b4 2 (ik .u32 0) 3 (ik .u32 0)) (b (bW 0 dd (d 1) dd (bx (d9 2) 4)) (dj 4 (H (eY .shr 32) (ci .u32) (d 4) (ci .u32) (dt 2 a2 3)) (m 5 12)))⟩
def zv4:Fun:=⟨2,12,0,false,[(2,none),(3,none)],b (b4 2 fy 3 fy) (e8 0 (eY .and 4294967295) 4 (e8 0 (eY .shr 32) 5 (e8 1 (eY .and 4294967295) 6 (e8 1 (eY .shr 32) 7 (dg 4 6 (bx (d9 1) 8) (aK 5 (bW 6 (d9 1) (d 8) (eY .shr 32) (fq 2 9)) (e8 9 (eY .and 4294967295) 10 (e8 9 (eY .shr 32) 11 (b (fC 10 4 7 (d9 1) (fq 3 10)) (d8 5 7 (d9 1) (bW 11 (dl 1) (d 10) (eY .shr 32) (fq 2 2)) (ar (cj 0 (d 1) (d9 1) 3) (m 12 12))))))))))))⟩
def zmr:Fun:=⟨2,4,0,false,[(2,none)],b7 2 fy (.seq (aK 1 (e5 197 3) (bH 3 2 fy (m 4 4))) (ar (eT 0 1 (H (.bin .sub (i 64) c) (da .shl 2) (d 1) (.bin .sub (i 64) c) (bx (da .shr 2) 2))) (m 4 4)))⟩
def zpn:Fun:=⟨1,2,0,false,[(1,none)],b7 1 d5 (cm 0 1 (m 2 2))⟩
def zmc:Cd:=aU (eT 6 5 (dB 9 2)) (dH 9 (m 10 32) 1) (.block 1 (.reg (dw (d 6) (d 5) 6 (.slc 2 az (some c) none none) (d 5) (d 6) (.slc 2 az none (some c) none) (.cpy 2 dk c) (fq 7 6))))
def zlS:Cd:=cy (m 10 96) zmc
def zmK:Fun:=⟨2,10,0,false,[(2,none)],b7 2 d5 (aU (cA 1 7 (cL 0)) (cO 7 (M (.no "") (e (.no "")))) (aK 0 (dw aB dd 1 dd (dp 247 a2) aq dE dD (dt 3 az 4)) (aU (aN 3 (eY .gtr 0) (fF 4 (E (eY .gtr 9223372036854775807) 1) (bI 8 2))) (cO 8 (M (.no "") (e (.no "")))) (bP 4 fz (bx (.mks bt none c) 5) (dg 5 0 (bx (.cpy 2 az c) 6) (cY 0 zlS (cm 5 2 (m 10 4))))))))⟩
end AC
namespace Go.A
def zHx (P : Program) (CD : Draws) (n : Nat) (fn : Fun) : Prop := ∃ gf κ, P.funcs[n]? = some gf ∧ (gf.name == "runtime.NumGoroutine") = false ∧ zzJ P CD κ gf fn = true
def zEl (Q : Nat → Fun → Prop) : Nat → List (Option Fun) → Prop
 | _,[] => True
 | b,none :: r => zEl Q (b + 1) r
 | b,some f :: r => Q b f ∧ zEl Q (b + 1) r
def zy3 (Q : Nat → Fun → Prop) : Nat → List (List (Option Fun)) → Prop
 | _,[] => True
 | b,r :: rs => zEl Q b r ∧ zy3 Q (b + 16) rs
def zIW : Nat → Nat → Nat → List Nat
 | 0,_,_ => []
 | n + 1,w,i => if w % 2 = 1 then i :: zIW n (w / 2) (i + 1) else zIW n (w / 2) (i + 1)
def zzD (P : Program) (CD : Draws) : Nat → List (Option (Nat × Fun)) → Bool
 | _,[] => true
 | b,none :: r => zzD P CD (b + 1) r
 | b,some x :: r => (match P.funcs[b]? with
   | some gf => !(gf.name == "runtime.NumGoroutine") && zzJ P CD (zIW (Nat.log2 x.1 + 1) x.1 0) gf x.2
   | none => false) && zzD P CD (b + 1) r
def bare (r : List (Option (Nat × Fun))) : List (Option Fun):=r.map fun x => x.map fun y => y.2
theorem zbT {P : Program} {CD : Draws} : ∀ (r : List (Option (Nat × Fun))) (b : Nat),zzD P CD b r = true → zEl (zHx P CD) b (bare r)
 | [],_,_ => trivial
 | none :: r,b,h => zbT r (b + 1) h
 | some x :: r,b,h => by
   simp only [zzD,ye] at h;refine ⟨?_,zbT r (b + 1) h.2⟩;have a:=h.1;split at a
   ·rename_i gf c
    simp only [ye,yl] at a;exact ⟨gf,_,c,a.1,a.2⟩
   ·cases a
theorem zu9 {Q : Nat → Fun → Prop} : ∀ (r : List (Option Fun)) (b : Nat),zEl Q b r → ∀ (j : Nat) (f : Fun),r[j]? = some (some f) → Q (b + j) f
 | [],_,_,_,_,h => by simp at h
 | none :: r,b,hr,0,f,h => by simp at h
 | some g :: r,b,hr,0,f,h => by
   simp only [ym,Option.some.injEq] at h;subst h;exact hr.1
 | none :: r,b,hr,j + 1,f,h => by
   have:=zu9 r (b + 1) hr j f (by simpa using h)
   rwa [yp,ys 1 j] at this
 | some g :: r,b,hr,j + 1,f,h => by
   have:=zu9 r (b + 1) hr.2 j f (by simpa using h)
   rwa [yp,ys 1 j] at this
theorem zvS {Q : Nat → Fun → Prop} : ∀ (rs : List (List (Option Fun))) (b : Nat),zy3 Q b rs → ∀ (i j : Nat) (r : List (Option Fun)) (f : Fun),rs[i]? = some r → r[j]? = some (some f) → Q (b + 16 * i + j) f
 | [],_,_,_,_,_,_,h,_ => by simp at h
 | x :: rs,b,hr,0,j,r,f,h,h' => by
   simp only [ym,Option.some.injEq] at h;subst h;exact zu9 x b hr.1 j f h'
 | x :: rs,b,hr,i + 1,j,r,f,h,h' => by
   have:=zvS rs (b + 16) hr.2 i j r f (by simpa using h) h';have e : b + 16 + 16 * i + j = b + 16 * (i + 1) + j:=by omega
   rwa [e] at this
theorem zJC {rows : List (List (Option Fun))} {n : Nat} {f : Fun} (h : zBo rows n = some (.fn f)) : ∃ r,rows[n / 16]? = some r ∧ r[n % 16]? = some (some f):=by
 unfold zBo at h
 cases b : rows[n / 16]? with
 | none => simp [b,zpI] at h
 | some r =>
   refine ⟨r,rfl,?_⟩;rw [b,yq] at h
   cases a : r[n % 16]? with
   | none => simp [a,zpI] at h
   | some o =>
     cases o with
     | none => simp [a,zpI] at h
     | some g => simpa [a,zpI] using h
theorem zCG {rows : List (List (Option Fun))} {n : Nat} {g : List V → zd → Option (V × zd)} : zBo rows n ≠ some (.ext g):=by
 unfold zBo zpI;split <;> simp
theorem zFi {P : Program} {CD : Draws} {rows : List (List (Option Fun))} (h : zy3 (zHx P CD) 0 rows) : zAR P CD (zBo rows):=fun n => by
 refine ⟨fun fn c => ?_,fun ext he => absurd he zCG⟩;obtain ⟨r,b,d⟩:=zJC c;have a:=zvS rows 0 h (n / 16) (n % 16) r fn b d;have e : 0 + 16 * (n / 16) + n % 16 = n:=by omega
 rw [e] at a;exact a
theorem zvm {P : Program} {CD : Draws} {k : Nat} {g : List V → zd → Option (V × zd)} {T : Nat → Option Entry}
  (d : ∀ args σ v σ',g args σ = some (v,σ') → Enters P k ∧ ∀ gg w us,Rel gg w σ → zW gg w σ args us → Calls P k us.toArray w fun e w' => ∃ u g',e = .returned u ∧ zh g' w' σ' v u ∧ Rel g' w' σ' ∧ Ext gg w σ g' w' σ')
  (b : zAR P CD T) : zAR P CD fun n => if n = k then some (.ext g) else T n:=fun n => by
 by_cases a : n = k
 ·subst a
  refine ⟨fun fn c => ?_,fun ext he => ?_⟩
  ·simp at c
  ·simp only [if_true,Option.some.injEq,Entry.ext.injEq] at he
   subst he;exact d
 ·have:=b n
  simpa only [if_neg a] using this
section
variable {P : Program} {CD : Draws}
theorem zE7 {f : Nat} {gf : Func} (hgf : P.funcs[f]? = some gf) (hname : (gf.name == "runtime.NumGoroutine") = false) {fn1 fn2 : Fun} {c0 c1 c2 : Code} (e1 : fn1.body = .seq c0 c1) (e2 : fn2.body = .seq c0 c2) (same : fn1.np = fn2.np ∧ fn1.nslots = fn2.nslots ∧ fn1.keep = fn2.keep) (hc : zpM P CD [0, 2] gf fn1 fn2 = true) :
  Enters P f ∧ ∃ i0 i1 r0 o1 o2 ga gb t3 t4 ty ty' ty'',TwoOk P CD [0,2] gf fn1 fn2 c0 c1 c2 i0 i1 r0 o1 o2 ga gb t3 t4 ty ty' ty'':=by
 unfold zpM at hc
 split at hc
 ·rename_i i0 r0 i1 o1 o2 t4 ga gb c0' c1' c0'' c2' hb hb1 hb2
  rw [e1] at hb1
  rw [e2] at hb2
  simp only [ye,beq_iff_eq,bne_iff_ne,ne_eq,yl,decide_eq_true_eq] at hc
  obtain ⟨⟨⟨⟨⟨⟨⟨⟨⟨⟨⟨⟨⟨⟨⟨⟨h1,h1'⟩,h2⟩,h3⟩,h4⟩,h5⟩,h6⟩,h7⟩,h8⟩,h9⟩,h10⟩,h11⟩,h12⟩,h13⟩,h14⟩,h15⟩,h16⟩:=hc
  split at h4
  ·rename_i t3 ht3
   simp only [ye,bne_iff_ne,ne_eq,yl,decide_eq_true_eq] at h4
   obtain ⟨⟨⟨h4,hne⟩,hk3⟩,hl3⟩:=h4
   obtain ⟨k1,k2⟩:=zm3 h4
   injection hb1 with q1 q2
   injection hb2 with q3 q4
   subst q1 q2 q4
   refine ⟨⟨gf,_,hgf,hname,hb⟩,?_⟩
   obtain ⟨te,hte⟩ : ∃ te,P.underlying (zEW o2).1 = some (.slice te):=by
    unfold zqQ at h8
    split at h8
    ·rename_i te hte; exact ⟨te,hte⟩
    ·cases h8
   exact ⟨i0,i1,r0,o1,o2,ga,gb,t3,t4,(zEW o2).1,(zEW o2).2,te,hb,e1,e2,h1,h2,h3,k1,k2,hne,⟨hk3,hl3⟩,⟨h5,h6⟩,h7,hte,h9,h10,same,h11,h12,h13,h14,h15,h16⟩
  ·cases h4
 ·cases hc
end
section
variable {P : Program} {CD : Draws} {κ : List Tmp}
theorem zAg (hD : DrawOk P CD) {f : Nat} {gf : Func} {fn1 fn2 : Fun} {c0 c1 c2 : Code} {i0 i1 : Nat} {r0 : Array Go.Oper} {U o2 : Go.Oper} {ga X : Go.Code} {t3 t4 ty N h : Nat} (Q : P.funcs[f]? = some gf) (T : TwoOk P CD κ gf fn1 fn2 c0 c1 c2 i0 i1 r0 U o2 ga X t3 t4 ty N h)
  {va : V} {E : Prop} {σ : zd} {v : V} {σ' : zd} {n0 n2 : Nat} {s0 s2 : St} {e2 : Ex} (Y : zae zma n0 c0 (enter fn2 [va] σ) = some (.normal,s0)) (M : s0.env.getD 0 vun = va) (H : ∀ g' w' u,Rel g' w' s0.st → zh g' w' s0.st va u → ∃ ad n c,u = .slice ad n c ∧ (ad = none → E)) (Z : zae zma n2 c2 s0 = some (e2,s2)) (l2 : leave fn2.raw fn2.results (e2,s2) = some (v,σ'))
  (h1 : E → ∃ n1 s1,zae zma n1 c1 s0 = some (.ret,s1) ∧ leave fn1.raw fn1.results (.ret,s1) = some (v,σ')) (K : fn2.np = 1) {g : G} {w : World} {us : List Value} (R0 : Rel g w σ) (hv : zW g w σ [va] us) :
  Calls P f us.toArray w fun e w' => ∃ u g',e = .returned u ∧ zh g' w' σ' v u ∧ Rel g' w' σ' ∧ Ext g w σ g' w' σ':=by
 have hA:=znc (gf:=gf) (fn:=fn2) R0 hv T.nd T.all T.len T.np T.np2 T.hd (by rw [K]; rfl);have a:=fun n => zqB (P:=P) (CD:=CD) (T:=zma) (g0:=g.clean σ.length) (w0:=w) (σ0:=σ) (κ:=κ) (nt:=gf.ntmps) hD (zhc g σ.length) n fun m _ => zr2 m;have l:=zei zma n0 _ _ _ _ Y
 have i : ∀ (fn : Fun) (e : Ex) (s : St),zk1 P κ gf.results.toList fn.results = true → leave fn.raw fn.results (e,s) = some (v,σ') → s.lim = (enter fn2 [va] σ).lim → ∀ x r w',zHc (g.clean σ.length) w σ κ gf.ntmps e s x r w' →
   bodyPost P gf (fun e w' => ∃ u g',e = .returned u ∧ zh g' w' σ' v u ∧ Rel g' w' σ' ∧ Ext g w σ g' w' σ') x r w' ∧ x = zm5 e:=fun fn e s L b y x r w' k => by
  obtain ⟨rfl,g',A'⟩:=k;obtain ⟨q1,q2,u,q3,J,q4,q5,W⟩:=znr (fn:=fn) (gf:=gf) (zhc g σ.length) (by rw [y]; exact Nat.le_add_right _ _) L b A'
  have d : r.defers = [] ∧ ∃ v1,(results gf r.tmps).run P w' = .ok v1 w' ∧ ∃ u g',(Ending.returned v1) = .returned u ∧ zh g' w' σ' v u ∧ Rel g' w' σ' ∧ Ext g w σ g' w' σ' :=
   ⟨q2,u,q3,u,G.under g w J,rfl,zgJ (g:=J) (g':=G.under g w J) rfl rfl rfl _ _ q4,zq3 W q5,zqX W⟩
  rcases q1 with rfl | rfl
  ·exact ⟨d,rfl⟩
  ·exact ⟨d,rfl⟩
 refine calls_of_wp Q T.body (wp_seq (wp_mono ((a n0).1 _ c0 _ .normal s0 T.k0 Y _ _ _ (yt _) hA) fun x a1 z k => ?_));obtain ⟨rfl,g1,p⟩:=k
 show Exit.then _ _ .normal a1 z
 simp only [Exit.then];have j:=p.fr.size;have hu:=p.fr.env 0 0 T.arg;simp only [M] at hu;obtain ⟨ad,n,c,hu,q⟩:=H _ _ _ p.rel hu;refine wp_seq (wp_seq (zem ?_));refine zeN (o:=U) rfl T.e1.1 T.e1.2.1 T.f3 (zlb (.inr T.e1.2.2) hu) fun a2 A => ?_;refine zeN (o:=o2) (u:=.bool ad.isNone) (w':=z) rfl T.e2.1 T.e2.2.1 T.f4 ?_ fun a3 D => ?_
 ·unfold execOp
  simp only [T.e2.2.2,zgH,A.val j,Act.eval];simp [eqGuard,Lib.run_eql_slice_nil z ty h ad n c 0 0 T.ty]
 show Exit.then _ _ .normal a3 z
 simp only [Exit.then];have S : At' (g.clean σ.length) w σ κ gf.ntmps g1 z s0 a3:=⟨p.ext,p.rel,D.fr (A.fr p.fr)⟩;have hle : σ.length ≤ s0.base:=by rw [l.1]; exact yt _
 cases ad with
 | none =>
   have R:=q rfl;obtain ⟨n1,s1,t,O⟩:=h1 R;have C:=zei zma n1 _ _ _ _ t;refine wp_cond_true (D.val (A.size j)) (wp_mono ((a n1).1 ga c1 s0 .ret s1 T.k1 t _ _ _ hle S) fun x a4 I k => ?_);obtain ⟨k1,k2⟩:=i fn1 .ret s1 T.q1 O (by rw [C.2,l.2]) x a4 I k;subst k2;simp only [zm5,Exit.then];exact k1
 | some ad =>
   have B:=zei zma n2 _ _ _ _ Z;refine wp_cond_false (D.val (A.size j)) (wp_skip ?_);simp only [Exit.then];exact wp_mono ((a n2).1 X c2 s0 e2 s2 T.k2 Z _ _ _ hle S) fun x a4 I k => (i fn2 e2 s2 T.q2 l2 (by rw [B.2,l.2]) x a4 I k).1
def zvk (sz : Nat) (σ : zd) (xs : List (List Fz)) : Option (V × zd):=if zt9 sz xs = true ∧ xs.length ≤ LIM ∧ 0 < xs.length ∧ Obs.lt σ.length σ = true then some (vsl xs,σ) else none
def zxz (sz : Nat) (σ : zd) (xs : List (List Fz)) : Option (V × zd):=if zt9 sz xs = true ∧ xs.length ≤ LIM ∧ Obs.lt σ.length σ = true then some (vsl xs,σ) else none
def zlh (sz : Nat) : List V → zd → Option (V × zd)
 | [.one (.own id ver lo n)],σ => (elems σ (.one (.own id ver lo n))).bind (zvk sz σ)
 | [.one (.f (.sl xs))],o :: σ => zxz sz (o :: σ) xs
 | aS,σ => zqD sz aS σ
def zLz (va : V) (xs : List (List Fz)) : Prop:=va = vsl xs ∨ (∃ id ver lo n,va = .one (.own id ver lo n)) ∧ 0 < xs.length
theorem zBe {g : G} {w : World} {σ : zd} {va : V} {xs : List (List Fz)} {u : Value} (h : zLz va xs) (k : elems σ va = some xs) (m : zh g w σ va u) : ∃ ad n c,u = .slice ad n c ∧ (ad = none → xs = []):=by
 rcases h with rfl | ⟨⟨id,B,lo,n,rfl⟩,x⟩
 ·simp only [vsl,zh,zK,rep] at m
  obtain ⟨ad,c,sz,hu,_,_,f⟩:=m;refine ⟨ad,_,c,hu,fun e => ?_⟩;rcases f with h | ⟨b,o,h,_⟩
  ·exact h
  ·rw [e] at h; cases h
 ·simp only [zh,zK] at m
  obtain ⟨v,sz,len,s,hle,j,A,c0,z⟩:=m;simp only [elems,yh] at k;obtain ⟨H,E,d⟩:=k;unfold Ob.frz at d;split at d
  ·rename_i l q es
   split at d
   ·rename_i i
    subst i;have r : shapeOf σ id = some (l,q,es.length):=(by simp [shapeOf,E,Ob.shape]);rw [r] at s;simp only [Option.some.injEq,Prod.mk.injEq] at s;obtain ⟨rfl,rfl,rfl⟩:=s;obtain ⟨a,c,hu,D,t,p⟩:=j rfl;refine ⟨a,n,c,hu,fun e => ?_⟩
    have hlen : xs.length ≤ n:=by
     have:=(zgg d).1;rw [this];simp;omega
    have y : c ≠ 0:=(by omega);have hle : es.length ≠ 0:=fun h => y (t h);obtain ⟨_,C,_⟩:=p hle;have:=C y;rw [e] at this;cases this
   ·cases d
  ·cases d
theorem ztm (hD : DrawOk P CD) {f : Nat} {gf : Func} {sz : Nat} (hgf : P.funcs[f]? = some gf) (hname : (gf.name == "runtime.NumGoroutine") = false) (hc : zpM P CD [0, 2] gf zh2 (zgC sz) = true)
  (va : V) (xs : List (List Fz)) (σ : zd) (hel : ∀ o,elems (σ ++ o) va = some xs) (hk : zLz va xs) (hok : zt9 sz xs = true ∧ xs.length ≤ LIM ∧ Obs.lt σ.length σ = true) :
  Enters P f ∧ ∀ g w us,Rel g w σ → zW g w σ [va] us → Calls P f us.toArray w fun e w' => ∃ u g',e = .returned u ∧ zh g' w' σ (vsl xs) u ∧ Rel g' w' σ ∧ Ext g w σ g' w' σ:=by
 obtain ⟨hE,i0,i1,r0,o1,o2,ga,gb,t3,t4,ty,ty',ty'',T⟩:=zE7 (fn1:=zh2) (fn2:=zgC sz) (c0:=zoR) (c1:=zrE) (c2:=zrl sz) hgf hname rfl rfl ⟨rfl,rfl,rfl⟩ hc
 refine ⟨hE,fun g w us R0 hv => ?_⟩
 have hel0:=hel []
 have hel1:=hel [.tok sz [0]]
 rw [List.append_nil] at hel0
 have hlt : ¬ σ.length + 1 ≤ σ.length:=by omega
 refine zAg (E:=xs = []) (va:=va) (n0:=1) (n2:=2) (e2:=.ret) (s0:=⟨[va,vsl []],σ,σ.length,σ.length⟩) (s2:=⟨[vun,.one (.ap σ.length 0 xs)],σ ++ [.tok sz [xs.length]],σ.length,σ.length⟩) hD hgf T ?_ rfl (fun g' w' u _ h => zBe hk hel0 h) ?_ ?_ (fun hxs => ⟨2,⟨[vun,vsl []],σ,σ.length,σ.length⟩,?_,?_⟩) rfl R0 hv
 ·simp [zae,zoR,steps,step,zbM,R.get,R.put,zDd,enter,zgC,vsl,vun]
 ·simp [zae,zrl,steps,step,zbM,R.get,R.put,zDd,vsl,vun,zqj,zyU,zbo,zDh,R.alloc,hel1,hok.1,zHs,zpK,Ob.front,Ob.setFront,R.setOb,hok.2.1,zsm,clr,St.mkSt]
 ·simp [leave,zgC,outs,zwE,zCO,zHp,zhN,vsl,zof,zn1,V.lts,V.lt,C.lt,hok.2.2,zHj,vun]
 ·simp [zae,zrE,steps,step,zbM,R.get,R.put,zDd,vsl,vun,zsm,clr,St.mkSt]
 ·subst hxs
  simp [leave,zh2,outs,zwE,zCO,zHp,zhN,vsl,zof,zn1,V.lts,V.lt,C.lt,Obs.lt,zHj,vun]
theorem zDR {σ : zd} {id a lo n : Nat} {xs : List (List Fz)} (h : elems σ (.one (.own id a lo n)) = some xs) (o : zd) : elems (σ ++ o) (.one (.own id a lo n)) = some xs:=by
 simp only [elems,yh] at h ⊢;obtain ⟨c,b,d⟩:=h;exact ⟨c,by rw [List.getElem?_append_left (List.getElem?_eq_some_iff.1 b).1]; exact b,d⟩
theorem zsp (hD : DrawOk P CD) {f : Nat} {gf : Func} {sz : Nat} (hgf : P.funcs[f]? = some gf) (hname : (gf.name == "runtime.NumGoroutine") = false) (hc : zpM P CD [0, 2] gf zh2 (zgC sz) = true)
  {id ver lo n : Nat} {σ σ' : zd} {v : V} (h : (elems σ (.one (.own id ver lo n))).bind (zvk sz σ) = some (v,σ')) :
  Enters P f ∧ ∀ g w us,Rel g w σ → zW g w σ [.one (.own id ver lo n)] us → Calls P f us.toArray w fun e w' => ∃ u g',e = .returned u ∧ zh g' w' σ' v u ∧ Rel g' w' σ' ∧ Ext g w σ g' w' σ':=by
 rw [yh] at h
 obtain ⟨xs,h1,h2⟩:=h
 unfold zvk at h2
 split at h2
 ·rename_i hok
  injection h2 with h2
  simp only [Prod.mk.injEq] at h2
  obtain ⟨rfl,rfl⟩:=h2
  exact ztm hD hgf hname hc _ xs σ (zDR h1) (.inr ⟨⟨_,_,_,_,rfl⟩,hok.2.2.1⟩) ⟨hok.1,hok.2.1,hok.2.2.2⟩
 ·cases h2
theorem zt1 (hD : DrawOk P CD) {f : Nat} {gf : Func} {sz : Nat} (hgf : P.funcs[f]? = some gf) (hname : (gf.name == "runtime.NumGoroutine") = false) (hc : zpM P CD [0, 2] gf zh2 (zgC sz) = true)
  {xs : List (List Fz)} {σ σ' : zd} {v : V} (h : zxz sz σ xs = some (v,σ')) :
  Enters P f ∧ ∀ g w us,Rel g w σ → zW g w σ [.one (.f (.sl xs))] us → Calls P f us.toArray w fun e w' => ∃ u g',e = .returned u ∧ zh g' w' σ' v u ∧ Rel g' w' σ' ∧ Ext g w σ g' w' σ':=by
 unfold zxz at h
 split at h
 ·rename_i hok
  injection h with h
  simp only [Prod.mk.injEq] at h
  obtain ⟨rfl,rfl⟩:=h
  exact ztm hD hgf hname hc _ xs σ (fun _ => rfl) (.inl rfl) hok
 ·cases h
theorem zA6 (hD : DrawOk P CD) {f : Nat} {gf : Func} {sz : Nat} (hgf : P.funcs[f]? = some gf) (hname : (gf.name == "runtime.NumGoroutine") = false) (hc : zpM P CD [0, 2] gf zh2 (zgC sz) = true) (args : List V) (σ : zd) (v : V) (σ' : zd) (h : zlh sz args σ = some (v, σ')) :
  Enters P f ∧ ∀ g w us,Rel g w σ → zW g w σ args us → Calls P f us.toArray w fun e w' => ∃ u g',e = .returned u ∧ zh g' w' σ' v u ∧ Rel g' w' σ' ∧ Ext g w σ g' w' σ':=by
 unfold zlh at h
 split at h
 ·exact zsp hD hgf hname hc h
 ·exact zt1 hD hgf hname hc h
 ·exact zDn hD hgf hname hc _ _ _ _ h
end
end Go.A
namespace AC
open Go.A Go.A.Lex
def tab : List (List (Option Fun)):=[
 bare [none,none,none,none,none,none,none,none,some (2923716898593229408078133424283134438738018041855,zM),none,none,none,none,none,none,none],
 bare [some (543,zN),none,none,none,none,none,some (33571891,zaE),none,none,none,none,none,none,none,some (11418155766219704907464733300850600260547966967,zq),none],
 bare [none,some (16621590550007,zgm),none,none,some (67110831,ziZ),some (127,zfc),some (4559,zdJ),some (9007749010556879,zB),some (3871,zej),some (72059793062213407,zan),some (287,zgA),some (2310487346598287135,zax),some (287,zfs),some (136186103,zdM),none,none],
 bare [none,none,none,some (4183,zgP),none,none,none,none,none,none,none,none,none,some (38685626227685725776904319,zdg),none,none],
 bare [none,none,some (131635,zd9),none,none,none,some (89203150935305958141877267118393739786060287,zV),some (309485009969963856432235007,zbq),some (79228540312824354700590614519,zbr),some (19345174297145887541987327,zfH),some (5,zbl),some (262707,zdz),some (83079285037833274825762022487035903,zfM),some (9831967090518095288600575,za3),some (11150372645996141831579820250029257836789751,zfL),some (1077941191,zbL)],
 bare [none,some (543,zfY),some (543,zgN),some (159,zhr),some (16447,zjv),some (274878432243,za8),some (8392767,zE),some (75853011780627257630963,zf),some (23,zd0),some (134349303,zbj),some (16645,zau),some (4398047296575,zac),some (143,zgR),some (19,zcw),some (135007,zf9),some (71,zgG)],
 bare [some (71,zg3),some (157,zeb),some (68719972543,zh9),none,some (2417860862618887407011831,zkg),none,none,none,none,some (68719476743,zfz),none,none,none,none,some (141465551735,zbp),none],
 bare [none,none,none,none,none,none,none,some (19,zdi),none,some (32909,zdw),some (5,zd5),some (543,zfP),some (576601491972949967,zcL),some (5,zaO),some (17661043933199,zU),some (151060495,zO)],
 bare [some (2890685472579903,zdf),some (19886839177393615664282993661,za5),some (31,zgl),some (536903965,zc6),some (537919539,zdt),some (16806963,zb5),some (5,zlX),some (1393796574909431596946210657470816853166047,zkh),some (19,zhL),some (19,ziJ),some (39,zhR),some (2535455952480465913516826559475,zi),some (9232520257346732535,zm),some (8223,zR),some (1050653,zdj),some (669,zgu)],
 bare [some (11,ziT),none,some (7,zge),some (252707005,zgt),some (31,zkj),some (525,zfG),none,some (15407,znJ),some (5,zqL),some (19,zb3),some (7,zlW),some (36028861980348247,zdP),none,none,none,some (309487371008879061366997373,zaT)],
 bare [some (1100015992887,zaU),some (5070603543725610699058311077759,zbW),some (7,zev),some (7,zeP),none,none,none,none,none,some (66483,zcv),some (659,zat),some (5404360887,zbG),some (633826509113847392481258242063,za7),some (1152994072512692351,zfC),some (19,zaA),some (7,zjq)],
 bare [none,some (16883,ziP),some (19,zcy),some (11,zjA),some (2101171,zjE),none,some (3963069,zkJ),some (1074250695,za1),some (16806963,zcB),none,none,none,none,none,none,none],
 bare [some (5,ziq),some (66483,zbA),some (262645,zlU),some (19361999891509624300419063,zpx),some (71,zpF),some (29,zg9),some (5,zd4),some (19,zdp),some (7,zd6),some (19,zdH),some (15,zd2),some (2097211,zaG),some (359,zd1),some (5,zjz),some (4202527,zdW),some (1299341903921783656432219969421043,zdC)],
 bare [some (4196895,zbh),some (262751,zH),some (2229791,zj),none,none,none,none,none,none,none,none,none,none,none,none,none],
 bare [some (659,zar),some (66483,za2),none,some (66483,zbQ),none,none,some (137506063859,znm),some (8590985487,zpt),some (23,zuf),some (4231239,zmk),some (66483,zce),some (66483,zc3),some (4196415,zdL),some (5,zkz),some (143,zjj),none],
 bare [none,none,none,none,none,none,none,some (1011,zBm),some (16794621,ziI),some (11,zo5),some (8651699,znK),some (2963,zeU),some (3213974174218952357560221179716737556379227408111879118128127,zo),some (5,zlO),some (5,zlA),none],
 bare [none,some (115,zvE),some (16371,zv4),some (147,zmr),some (5,zpn),some (137506063859,zmK)]]
def T (n : Nat) : Option Entry:=if n = 118 then some (.ext zjT) else if n = 181 then some (.ext (zlh 1)) else if n = 145 then some (.ext (zlM 177)) else zBo tab n
end AC
namespace Go.A
section rules
variable {T : Nat → Option Entry} {s s1 s2 : St} {a b c : Code} {e : Ex} {r : Option (Ex × St)}
theorem zmI (h : exec T a s = some (.normal,s1)) (c : exec T b s1 = r) : exec T (.seq a b) s = r:=by
 rw [zdY,h];exact c
theorem zJz (h : exec T a s = some (e,s1)) (he : e ≠ .normal) : exec T (.seq a b) s = some (e,s1):=by
 rw [zdY,h];cases e
 case normal => exact absurd rfl he
 all_goals rfl
theorem zKo {x : X} (c : (R.mk [] s.env s.st s.base s.lim).get x = .one (.f (.lit (.bool true)))) (h : exec T a s = r) : exec T (.cond x a b) s = r:=by
 rw [zr1,c];exact h
theorem zKy {x : X} (c : (R.mk [] s.env s.st s.base s.lim).get x = .one (.f (.lit (.bool false)))) (h : exec T b s = r) : exec T (.cond x a b) s = r:=by
 rw [zr1,c];exact h
theorem zzI {id : Nat} (h : exec T a s = some (.normal,s1)) : exec T (.block id a) s = some (.normal,s1):=by
 rw [zsS,h];rfl
theorem zJw {live : List Bool} {a : Nat} (e : c = .loop live a b) (h : exec T b s = some (.normal,s1)) (f : s1.clear live a = some s2) (d : exec T c s2 = r) : exec T c s = r:=by
 subst e;rw [zrk,h];simp only [yq,zq7,f];exact d
theorem zHV {live : List Bool} {a : Nat} (d : c = .loop live a b) (h : exec T b s = some (e,s1)) (he : e ≠ .normal) : exec T c s = some (e,s1):=by
 subst d;rw [zrk,h];cases e
 case normal => exact absurd rfl he
 all_goals rfl
end rules
end Go.A
namespace Go.A
def Code.p1 : Code → Code
 | .seq a _ => a
 | .cond _ a _ => a
 | .block _ a => a
 | c => c
def Code.p2 : Code → Code
 | .seq _ b => b
 | .cond _ _ b => b
 | c => c
end Go.A
attribute [go_sem] true_or or_true or_self false_or or_false Go.A.zn7 Go.A.zxf Go.A.zcc Go.A.zpA List.all_cons List.all_nil List.headD_cons Int.natCast_nonneg Int.toNat_natCast yc
namespace AC
open Go Go.A Go.A.Lex
abbrev vI (x : Int) : V:=.one (.f (.lit (.int .i64 x)))
abbrev zf4 (x : Int) : V:=.one (.f (.lit (.int .u64 x)))
abbrev vB (x : Bool) : V:=.one (.f (.lit (.bool x)))
abbrev vL (xs : List (List Fz)) : V:=.one (.f (.sl xs))
abbrev vU : V:=.one .un
abbrev vFn (g : Nat) (caps : List C) : V:=.one (.fn g [] caps)
abbrev ei (x : Int) : Fz:=.lit (.int .i64 x)
abbrev eu (x : Int) : Fz:=.lit (.int .u64 x)
def ri (x : Int) : List Fz:=[.lit (.int .i64 x)]
abbrev eI (l : List Int) : Fz:=.sl (l.map ri)
abbrev vIs (l : List Int) : V:=.one (.f (.sl (l.map ri)))
def rl (l : List Int) : List Fz:=[.sl (l.map ri)]
abbrev vLs (l : List (List Int)) : V:=.one (.f (.sl (l.map rl)))
def rs (s : Int × Int) : List Fz:=[.lit (.int .i64 s.1),.lit (.int .i64 s.2)]
abbrev vSs (l : List (Int × Int)) : V:=.one (.f (.sl (l.map rs)))
structure POp where
 kind : Int
 bits : Int
 lanes : Int
 dst : Int
 args : List Int
 imm : Int
structure PPhi where
 bits : Int
 dst : Int
 src : List Int
 args : List Int
structure PBlock where
 phis : List PPhi
 ops : List POp
 kind : Int
 arg : Int
 to : List Int
structure PFunc where
 params : List Int
 ret : Int
 blocks : List PBlock
def ro (o : POp) : List Fz:=[ei o.kind,ei o.bits,ei o.lanes,ei o.dst,eI o.args,eu o.imm]
def rp (p : PPhi) : List Fz:=[ei p.bits,ei p.dst,eI p.src,eI p.args]
def rb (b : PBlock) : List Fz:=[.sl (b.phis.map rp),.sl (b.ops.map ro),ei b.kind,ei b.arg,eI b.to]
abbrev cOp (o : POp) : List C:=[.f (ei o.kind),.f (ei o.bits),.f (ei o.lanes),.f (ei o.dst),.f (eI o.args),.f (eu o.imm)]
abbrev zyy (p : PPhi) : List C:=[.f (ei p.bits),.f (ei p.dst),.f (eI p.src),.f (eI p.args)]
abbrev zx (b : PBlock) : List C:=[.f (.sl (b.phis.map rp)),.f (.sl (b.ops.map ro)),.f (ei b.kind),.f (ei b.arg),.f (eI b.to)]
abbrev zaP (f : PFunc) : List C:=[.f (eI f.params),.f (ei f.ret),.f (.sl (f.blocks.map rb))]
abbrev vOp (o : POp) : V:=.agg (cOp o)
abbrev zKx (p : PPhi) : V:=.agg (zyy p)
abbrev zr8 (b : PBlock) : V:=.agg (zx b)
abbrev za9 (f : PFunc) : V:=.agg (zaP f)
attribute [go_sem] Int.reduceEq Int.reduceNe Int.reduceAdd yr Int.reduceMul Int.reduceNeg Int.reduceGT Int.reduceGE
attribute [go_sem] vI zf4 vB vL vU vFn ei eu eI vIs vLs vSs cOp zyy zx zaP vOp zKx zr8 za9
theorem wrap_i64 {n : Int} (h : -9223372036854775808 ≤ n) (b : n < 9223372036854775808) : Go.IntKind.i64.wrap n = n:=by
 unfold Go.IntKind.wrap Go.IntKind.bits Go.IntKind.signed;simp only [Bool.true_and];split
 ·rename_i a
  simp at a;omega
 ·rename_i a
  simp at a;omega
theorem wrap_u64 {n : Int} (h : 0 ≤ n) (a : n < 18446744073709551616) : Go.IntKind.u64.wrap n = n:=by
 unfold Go.IntKind.wrap Go.IntKind.bits Go.IntKind.signed;simp only [Bool.false_and];have : (2 : Int) ^ 64 = 18446744073709551616:=by decide
 rw [this]
 split <;> first | omega | (rename_i h; simp at h)
theorem za {k n : Nat} (h : k < n) (a : n ≤ 4294967296) : Go.IntKind.i64.wrap ((k : Int) + 1) = ((k + 1 : Nat) : Int):=by
 rw [wrap_i64] <;> omega
theorem zt {α : Type} {r : α → List Fz} {l : List α} {k : Nat} (h : k < l.length) : (l.map r)[k]? = some (r l[k]):=by simp [h]
theorem ilt {k n : Nat} (h : k < n) : ((k : Int) < (n : Int)) = True:=by simp [h]
def zhe (b : Int) : Bool:=decide (b = 1) || decide (b = 8) || decide (b = 16) || decide (b = 32) || decide (b = 64)
@[go_sem] theorem zE3 (b : Int) : call T 197 [vI b] [] = some (vB (zhe b),[]):=by
  rw [ze (fn:=zg9) rfl]
  by_cases c1 : b = 1
  ·simp -implicitDefEqProofs only [go_sem,zg9,zhe,c1]
  by_cases c2 : b = 8
  ·simp -implicitDefEqProofs only [go_sem,zg9,zhe,c1,c2]
  by_cases c3 : b = 16
  ·simp -implicitDefEqProofs only [go_sem,zg9,zhe,c1,c2,c3]
  by_cases c4 : b = 32
  ·simp -implicitDefEqProofs only [go_sem,zg9,zhe,c1,c2,c3,c4]
  by_cases c5 : b = 64 <;> simp -implicitDefEqProofs only [go_sem,zg9,zhe,c1,c2,c3,c4,c5]
def value (v : Int) : Bool:=decide (1 ≤ v) && decide (v ≤ 1023)
@[go_sem] theorem zC7 (v : Int) : call T 253 [vI v] [] = some (vB (value v),[]):=by
  rw [ze (fn:=zlO) rfl]
  by_cases c1 : 1 ≤ v <;> simp -implicitDefEqProofs only [go_sem,zlO,value,c1]
def idxFrom {α : Type} (p : α → Bool) : Nat → List α → Int
 | _,[] => -1
 | k,x :: r => if p x = true then (k : Int) else idxFrom p (k + 1) r
theorem ziw {α : Type} (p : α → Bool) : ∀ (l : List α) (k : Nat),decide (0 ≤ idxFrom p k l) = l.any p
 | [],_ => by simp [idxFrom]
 | x :: r,k => by
   simp only [idxFrom,yi]
   by_cases h : p x = true
   ·simp [h]
   ·simp [h,ziw p r (k + 1)]
theorem znY (l : List (Int)) (p : Int → Bool) (g : Nat) (fst b : List C) (σ : zd) (j : l.length ≤ 4294967296)
  (h : ∀ x ∈ l,call T g (fst.map V.one ++ vI x :: b.map V.one) σ = some (vB (p x),σ)) : ∀ (d k : Nat) (a2 a3 a6 a7 : V),l.length - k = d → k ≤ l.length →
  exec T zbV ⟨[vIs l,.one (.fn g fst b),a2,a3,vI l.length,vI k,a6,a7],σ,σ.length,σ.length⟩ =
   some (if (l.drop k).any p = true then (.ret,⟨[vU,vU,vI (idxFrom p k (l.drop k)),vU,vU,vU,vU,vU],σ,σ.length,σ.length⟩) else (.exit 0,⟨[vU,vU,vU,vU,vU,vU,vU,vU],σ,σ.length,σ.length⟩)):=by
 intro d
 induction d with
 | zero =>
   intro k a2 a3 a6 a7 i f;have a : k = l.length:=(by omega);subst a;rw [xl zbV rfl,zd7];simp -implicitDefEqProofs only [go_sem,yj,yf]
 | succ d ih =>
   intro k a2 a3 a6 a7 i f;have a : k < l.length:=(by omega);have hd : l.drop k = l[k] :: l.drop (k + 1):=ya a;have e:=h l[k] (yg a);rw [xl zbV rfl,zd7,hd];cases c : p l[k]
   ·rw [c] at e
    simp -implicitDefEqProofs only [go_sem,ilt a,zt a,ri,e,c,idxFrom,za a j];exact ih (k + 1) _ _ _ _ (by omega) (by omega)
   ·rw [c] at e
    simp -implicitDefEqProofs only [go_sem,ilt a,zt a,ri,e,c,idxFrom]
theorem zbm (l : List (Int)) (p : Int → Bool) (g : Nat) (fst a : List C) (σ : zd) (d : l.length ≤ 4294967296)
  (f : ∀ x ∈ l,call T g (fst.map V.one ++ vI x :: a.map V.one) σ = some (vB (p x),σ)) :
  call T 119 [vIs l,.one (.fn g fst a)] σ = some (vB (l.any p),σ):=by
 have c : call T 169 [vIs l,.one (.fn g fst a)] σ = some (vI (idxFrom p 0 l),σ):=by
  rw [ze (fn:=zcv) rfl];have h:=fun a2 a3 a6 a7 => znY l p g fst a σ d f l.length 0 a2 a3 a6 a7 (by omega) (by omega);simp only [yk,yc] at h
  have e : l.any p = false → idxFrom p 0 l = -1:=fun h => by
   have:=ziw p l 0;rw [h] at this
   have i : ∀ (l : List (Int)) k,l.any p = false → idxFrom p k l = -1:=by
    intro l
    induction l with
    | nil => exact fun _ _ => rfl
    | cons x r ih =>
      intro k h;simp only [yi,yb] at h;simp only [idxFrom,h.1,yd,if_false];exact ih _ h.2
   exact i l 0 h
  cases b : l.any p
  ·simp -implicitDefEqProofs only [go_sem,b] at h
   simp -implicitDefEqProofs only [go_sem,zcv,h,e b]
  ·simp -implicitDefEqProofs only [go_sem,b] at h
   simp -implicitDefEqProofs only [go_sem,zcv,h]
 rw [ze (fn:=zdi) rfl];simp -implicitDefEqProofs only [go_sem,zdi,c,ziw]
theorem zmS (l : List (PBlock)) (p : PBlock → Bool) (g : Nat) (fst b : List C) (σ : zd) (j : l.length ≤ 4294967296)
  (h : ∀ x ∈ l,call T g (fst.map V.one ++ zr8 x :: b.map V.one) σ = some (vB (p x),σ)) : ∀ (d k : Nat) (a2 a3 a6 a7 : V),l.length - k = d → k ≤ l.length →
  exec T zbf ⟨[vL (l.map rb),.one (.fn g fst b),a2,a3,vI l.length,vI k,a6,a7],σ,σ.length,σ.length⟩ =
   some (if (l.drop k).any p = true then (.ret,⟨[vU,vU,vI (idxFrom p k (l.drop k)),vU,vU,vU,vU,vU],σ,σ.length,σ.length⟩) else (.exit 0,⟨[vU,vU,vU,vU,vU,vU,vU,vU],σ,σ.length,σ.length⟩)):=by
 intro d
 induction d with
 | zero =>
   intro k a2 a3 a6 a7 i f;have a : k = l.length:=(by omega);subst a;rw [xl zbf rfl,zdn];simp -implicitDefEqProofs only [go_sem,yj,yf]
 | succ d ih =>
   intro k a2 a3 a6 a7 i f;have a : k < l.length:=(by omega);have hd : l.drop k = l[k] :: l.drop (k + 1):=ya a;have e:=h l[k] (yg a);rw [xl zbf rfl,zdn,hd];cases c : p l[k]
   ·rw [c] at e
    simp -implicitDefEqProofs only [go_sem,ilt a,zt a,rb,e,c,idxFrom,za a j];exact ih (k + 1) _ _ _ _ (by omega) (by omega)
   ·rw [c] at e
    simp -implicitDefEqProofs only [go_sem,ilt a,zt a,rb,e,c,idxFrom]
theorem zkD (l : List (PBlock)) (p : PBlock → Bool) (g : Nat) (fst a : List C) (σ : zd) (d : l.length ≤ 4294967296)
  (f : ∀ x ∈ l,call T g (fst.map V.one ++ zr8 x :: a.map V.one) σ = some (vB (p x),σ)) :
  call T 153 [vL (l.map rb),.one (.fn g fst a)] σ = some (vB (l.any p),σ):=by
 have c : call T 193 [vL (l.map rb),.one (.fn g fst a)] σ = some (vI (idxFrom p 0 l),σ):=by
  rw [ze (fn:=zbA) rfl];have h:=fun a2 a3 a6 a7 => zmS l p g fst a σ d f l.length 0 a2 a3 a6 a7 (by omega) (by omega);simp only [yk,yc] at h
  have e : l.any p = false → idxFrom p 0 l = -1:=fun h => by
   have:=ziw p l 0;rw [h] at this
   have i : ∀ (l : List (PBlock)) k,l.any p = false → idxFrom p k l = -1:=by
    intro l
    induction l with
    | nil => exact fun _ _ => rfl
    | cons x r ih =>
      intro k h;simp only [yi,yb] at h;simp only [idxFrom,h.1,yd,if_false];exact ih _ h.2
   exact i l 0 h
  cases b : l.any p
  ·simp -implicitDefEqProofs only [go_sem,b] at h
   simp -implicitDefEqProofs only [go_sem,zbA,h,e b]
  ·simp -implicitDefEqProofs only [go_sem,b] at h
   simp -implicitDefEqProofs only [go_sem,zbA,h]
 rw [ze (fn:=zb3) rfl];simp -implicitDefEqProofs only [go_sem,zb3,c,ziw]
theorem znV (l : List (PPhi)) (p : PPhi → Bool) (g : Nat) (fst b : List C) (σ : zd) (j : l.length ≤ 4294967296)
  (h : ∀ x ∈ l,call T g (fst.map V.one ++ zKx x :: b.map V.one) σ = some (vB (p x),σ)) : ∀ (d k : Nat) (a2 a3 a6 a7 : V),l.length - k = d → k ≤ l.length →
  exec T zbR ⟨[vL (l.map rp),.one (.fn g fst b),a2,a3,vI l.length,vI k,a6,a7],σ,σ.length,σ.length⟩ =
   some (if (l.drop k).any p = true then (.ret,⟨[vU,vU,vI (idxFrom p k (l.drop k)),vU,vU,vU,vU,vU],σ,σ.length,σ.length⟩) else (.exit 0,⟨[vU,vU,vU,vU,vU,vU,vU,vU],σ,σ.length,σ.length⟩)):=by
 intro d
 induction d with
 | zero =>
   intro k a2 a3 a6 a7 i f;have a : k = l.length:=(by omega);subst a;rw [xl zbR rfl,zd3];simp -implicitDefEqProofs only [go_sem,yj,yf]
 | succ d ih =>
   intro k a2 a3 a6 a7 i f;have a : k < l.length:=(by omega);have hd : l.drop k = l[k] :: l.drop (k + 1):=ya a;have e:=h l[k] (yg a);rw [xl zbR rfl,zd3,hd];cases c : p l[k]
   ·rw [c] at e
    simp -implicitDefEqProofs only [go_sem,ilt a,zt a,rp,e,c,idxFrom,za a j];exact ih (k + 1) _ _ _ _ (by omega) (by omega)
   ·rw [c] at e
    simp -implicitDefEqProofs only [go_sem,ilt a,zt a,rp,e,c,idxFrom]
theorem zlt (l : List (PPhi)) (p : PPhi → Bool) (g : Nat) (fst a : List C) (σ : zd) (d : l.length ≤ 4294967296)
  (f : ∀ x ∈ l,call T g (fst.map V.one ++ zKx x :: a.map V.one) σ = some (vB (p x),σ)) :
  call T 199 [vL (l.map rp),.one (.fn g fst a)] σ = some (vB (l.any p),σ):=by
 have c : call T 234 [vL (l.map rp),.one (.fn g fst a)] σ = some (vI (idxFrom p 0 l),σ):=by
  rw [ze (fn:=zce) rfl];have h:=fun a2 a3 a6 a7 => znV l p g fst a σ d f l.length 0 a2 a3 a6 a7 (by omega) (by omega);simp only [yk,yc] at h
  have e : l.any p = false → idxFrom p 0 l = -1:=fun h => by
   have:=ziw p l 0;rw [h] at this
   have i : ∀ (l : List (PPhi)) k,l.any p = false → idxFrom p k l = -1:=by
    intro l
    induction l with
    | nil => exact fun _ _ => rfl
    | cons x r ih =>
      intro k h;simp only [yi,yb] at h;simp only [idxFrom,h.1,yd,if_false];exact ih _ h.2
   exact i l 0 h
  cases b : l.any p
  ·simp -implicitDefEqProofs only [go_sem,b] at h
   simp -implicitDefEqProofs only [go_sem,zce,h,e b]
  ·simp -implicitDefEqProofs only [go_sem,b] at h
   simp -implicitDefEqProofs only [go_sem,zce,h]
 rw [ze (fn:=zdp) rfl];simp -implicitDefEqProofs only [go_sem,zdp,c,ziw]
theorem zoS (l : List (POp)) (p : POp → Bool) (g : Nat) (fst b : List C) (σ : zd) (j : l.length ≤ 4294967296)
  (h : ∀ x ∈ l,call T g (fst.map V.one ++ vOp x :: b.map V.one) σ = some (vB (p x),σ)) : ∀ (d k : Nat) (a2 a3 a6 a7 : V),l.length - k = d → k ≤ l.length →
  exec T zcn ⟨[vL (l.map ro),.one (.fn g fst b),a2,a3,vI l.length,vI k,a6,a7],σ,σ.length,σ.length⟩ =
   some (if (l.drop k).any p = true then (.ret,⟨[vU,vU,vI (idxFrom p k (l.drop k)),vU,vU,vU,vU,vU],σ,σ.length,σ.length⟩) else (.exit 0,⟨[vU,vU,vU,vU,vU,vU,vU,vU],σ,σ.length,σ.length⟩)):=by
 intro d
 induction d with
 | zero =>
   intro k a2 a3 a6 a7 i f;have a : k = l.length:=(by omega);subst a;rw [xl zcn rfl,zeE];simp -implicitDefEqProofs only [go_sem,yj,yf]
 | succ d ih =>
   intro k a2 a3 a6 a7 i f;have a : k < l.length:=(by omega);have hd : l.drop k = l[k] :: l.drop (k + 1):=ya a;have e:=h l[k] (yg a);rw [xl zcn rfl,zeE,hd];cases c : p l[k]
   ·rw [c] at e
    simp -implicitDefEqProofs only [go_sem,ilt a,zt a,ro,e,c,idxFrom,za a j];exact ih (k + 1) _ _ _ _ (by omega) (by omega)
   ·rw [c] at e
    simp -implicitDefEqProofs only [go_sem,ilt a,zt a,ro,e,c,idxFrom]
theorem zmJ (l : List (POp)) (p : POp → Bool) (g : Nat) (fst a : List C) (σ : zd) (d : l.length ≤ 4294967296)
  (f : ∀ x ∈ l,call T g (fst.map V.one ++ vOp x :: a.map V.one) σ = some (vB (p x),σ)) :
  call T 201 [vL (l.map ro),.one (.fn g fst a)] σ = some (vB (l.any p),σ):=by
 have c : call T 235 [vL (l.map ro),.one (.fn g fst a)] σ = some (vI (idxFrom p 0 l),σ):=by
  rw [ze (fn:=zc3) rfl];have h:=fun a2 a3 a6 a7 => zoS l p g fst a σ d f l.length 0 a2 a3 a6 a7 (by omega) (by omega);simp only [yk,yc] at h
  have e : l.any p = false → idxFrom p 0 l = -1:=fun h => by
   have:=ziw p l 0;rw [h] at this
   have i : ∀ (l : List (POp)) k,l.any p = false → idxFrom p k l = -1:=by
    intro l
    induction l with
    | nil => exact fun _ _ => rfl
    | cons x r ih =>
      intro k h;simp only [yi,yb] at h;simp only [idxFrom,h.1,yd,if_false];exact ih _ h.2
   exact i l 0 h
  cases b : l.any p
  ·simp -implicitDefEqProofs only [go_sem,b] at h
   simp -implicitDefEqProofs only [go_sem,zc3,h,e b]
  ·simp -implicitDefEqProofs only [go_sem,b] at h
   simp -implicitDefEqProofs only [go_sem,zc3,h]
 rw [ze (fn:=zdH) rfl];simp -implicitDefEqProofs only [go_sem,zdH,c,ziw]
theorem zns (l : List (List Int)) (p : List Int → Bool) (g : Nat) (fst b : List C) (σ : zd) (j : l.length ≤ 4294967296)
  (h : ∀ x ∈ l,call T g (fst.map V.one ++ vIs x :: b.map V.one) σ = some (vB (p x),σ)) : ∀ (d k : Nat) (a2 a3 a6 a7 : V),l.length - k = d → k ≤ l.length →
  exec T zbz ⟨[vLs l,.one (.fn g fst b),a2,a3,vI l.length,vI k,a6,a7],σ,σ.length,σ.length⟩ =
   some (if (l.drop k).any p = true then (.ret,⟨[vU,vU,vI (idxFrom p k (l.drop k)),vU,vU,vU,vU,vU],σ,σ.length,σ.length⟩) else (.exit 0,⟨[vU,vU,vU,vU,vU,vU,vU,vU],σ,σ.length,σ.length⟩)):=by
 intro d
 induction d with
 | zero =>
   intro k a2 a3 a6 a7 i f;have a : k = l.length:=(by omega);subst a;rw [xl zbz rfl,zdQ];simp -implicitDefEqProofs only [go_sem,yj,yf]
 | succ d ih =>
   intro k a2 a3 a6 a7 i f;have a : k < l.length:=(by omega);have hd : l.drop k = l[k] :: l.drop (k + 1):=ya a;have e:=h l[k] (yg a);rw [xl zbz rfl,zdQ,hd];cases c : p l[k]
   ·rw [c] at e
    simp -implicitDefEqProofs only [go_sem,ilt a,zt a,rl,e,c,idxFrom,za a j];exact ih (k + 1) _ _ _ _ (by omega) (by omega)
   ·rw [c] at e
    simp -implicitDefEqProofs only [go_sem,ilt a,zt a,rl,e,c,idxFrom]
theorem zk5 (l : List (List Int)) (p : List Int → Bool) (g : Nat) (fst a : List C) (σ : zd) (d : l.length ≤ 4294967296)
  (f : ∀ x ∈ l,call T g (fst.map V.one ++ vIs x :: a.map V.one) σ = some (vB (p x),σ)) :
  call T 178 [vLs l,.one (.fn g fst a)] σ = some (vB (l.any p),σ):=by
 have c : call T 227 [vLs l,.one (.fn g fst a)] σ = some (vI (idxFrom p 0 l),σ):=by
  rw [ze (fn:=zbQ) rfl];have h:=fun a2 a3 a6 a7 => zns l p g fst a σ d f l.length 0 a2 a3 a6 a7 (by omega) (by omega);simp only [yk,yc] at h
  have e : l.any p = false → idxFrom p 0 l = -1:=fun h => by
   have:=ziw p l 0;rw [h] at this
   have i : ∀ (l : List (List Int)) k,l.any p = false → idxFrom p k l = -1:=by
    intro l
    induction l with
    | nil => exact fun _ _ => rfl
    | cons x r ih =>
      intro k h;simp only [yi,yb] at h;simp only [idxFrom,h.1,yd,if_false];exact ih _ h.2
   exact i l 0 h
  cases b : l.any p
  ·simp -implicitDefEqProofs only [go_sem,b] at h
   simp -implicitDefEqProofs only [go_sem,zbQ,h,e b]
  ·simp -implicitDefEqProofs only [go_sem,b] at h
   simp -implicitDefEqProofs only [go_sem,zbQ,h]
 rw [ze (fn:=zcy) rfl];simp -implicitDefEqProofs only [go_sem,zcy,c,ziw]
attribute [go_sem] V.beq C.beq C.beqs Fz.beq Fz.beqR Value.beq
def zzU (v b : Int) : Int:=if zhe b = true then v % 2 ^ b.toNat else 0
theorem zaW {b : Int} (h : zhe b = true) : b = 1 ∨ b = 8 ∨ b = 16 ∨ b = 32 ∨ b = 64:=by
 simp only [zhe,yn,decide_eq_true_eq] at h;omega
theorem zCn (n : Int) : Go.IntKind.u64.wrap n = n % 18446744073709551616:=by
 unfold Go.IntKind.wrap Go.IntKind.bits Go.IntKind.signed;simp
@[go_sem] theorem ztT (v b : Int) (j : 0 ≤ v) (i : v < 18446744073709551616) : call T 259 [zf4 v,vI b] [] = some (zf4 (zzU v b),[]):=by
  rw [ze (fn:=zmr) rfl];cases hm : zhe b
  ·simp -implicitDefEqProofs only [go_sem,zmr,zzU,hm]
  ·have g : Go.IntKind.i64.wrap (64 - 1) = 63:=by decide
   have e : Go.IntKind.i64.wrap (64 - 8) = 56:=(by decide);have d : Go.IntKind.i64.wrap (64 - 16) = 48:=(by decide);have a : Go.IntKind.i64.wrap (64 - 32) = 32:=(by decide);have c : Go.IntKind.i64.wrap (64 - 64) = 0:=(by decide);have h : Go.IntKind.u64.bits = 64:=rfl;rcases zaW hm with rfl | rfl | rfl | rfl | rfl
   all_goals
    simp -implicitDefEqProofs only [yr] at g e d a c;simp -implicitDefEqProofs only [go_sem,zmr,zzU,hm,g,e,d,a,c,h,zCn,Option.some.injEq,Prod.mk.injEq,V.one.injEq,C.f.injEq,Fz.lit.injEq,Value.int.injEq];simp
    try (rw [Int.fdiv_eq_ediv_of_nonneg _ (by omega)]; omega)
def zni (l : Int) : Bool:=decide (l = 2) || decide (l = 4) || decide (l = 8) || decide (l = 16)
def zdS (b l : Int) : Bool:=zhe b && (decide (l = 1) || (zni l && (decide (8 ≤ b) && decide (b * l ≤ 128))))
theorem zgQ {l : Int} (h : zni l = true) : l = 2 ∨ l = 4 ∨ l = 8 ∨ l = 16:=by
 simp only [zni,yn,decide_eq_true_eq] at h;omega
theorem zcI {b l : Int} (h : zdS b l = true) : zhe b = true ∧ (l = 1 ∨ l = 2 ∨ l = 4 ∨ l = 8 ∨ l = 16):=by
 simp only [zdS,ye,yn,decide_eq_true_eq] at h;refine ⟨h.1,?_⟩;rcases h.2 with h | h
 ·exact .inl h
 ·have:=zgQ h.1
  omega
@[go_sem] theorem zEn (b l : Int) : call T 251 [vI b,vI l] [] = some (vB (zdS b l),[]):=by
  rw [ze (fn:=zeU) rfl];cases hm : zhe b
  ·simp -implicitDefEqProofs only [go_sem,zeU,zdS,hm]
  by_cases c1 : l = 1
  ·simp -implicitDefEqProofs only [go_sem,zeU,zdS,hm,c1]
  cases a : zni l
  ·have c:=a
   simp only [zni,yb,decide_eq_false_iff_not] at c;obtain ⟨⟨⟨c2,c3⟩,c4⟩,c5⟩:=c;simp -implicitDefEqProofs only [go_sem,zeU,zdS,hm,c1,c2,c3,c4,c5,a]
  ·by_cases c8 : 8 ≤ b
   ·have f:=zaW hm
    rcases zgQ a with rfl | rfl | rfl | rfl
    all_goals
     have e : Go.IntKind.i64.wrap (b * 2) = b * 2:=wrap_i64 (by omega) (by omega);have h : Go.IntKind.i64.wrap (b * 4) = b * 4:=wrap_i64 (by omega) (by omega);have g : Go.IntKind.i64.wrap (b * 8) = b * 8:=wrap_i64 (by omega) (by omega);have d : Go.IntKind.i64.wrap (b * 16) = b * 16:=wrap_i64 (by omega) (by omega);simp -implicitDefEqProofs only [go_sem,zeU,zdS,hm,c1,a,c8,e,h,g,d]
   ·rcases zgQ a with rfl | rfl | rfl | rfl
    all_goals simp -implicitDefEqProofs only [go_sem,zeU,zdS,hm,c1,a,c8]
def zdr (k : Int) : Bool:=decide (k = 17) || decide (k = 19)
@[go_sem] theorem zBA (k : Int) : call T 237 [vI k] [] = some (vB (zdr k),[]):=by
  rw [ze (fn:=zkz) rfl]
  by_cases c1 : k = 17 <;> simp -implicitDefEqProofs only [go_sem,zkz,zdr,c1]
@[go_sem] theorem zG2 (l : List (List Fz)) : call T 260 [vL l] [] = some (vL l,[]):=by
  rw [ze (fn:=zpn) rfl];simp -implicitDefEqProofs only [go_sem,zpn]
theorem zms {n f : Nat} {args : List V} {r : V × zd} (h : zg2 T (zae T n) f args [] = some r) : call T f args [] = some r:=zo3 T n _ _ _ _ h
set_option maxRecDepth 100000 in
theorem zqk (s : Int × Int) (l : Int) (h : l = 1 ∨ l = 2 ∨ l = 4 ∨ l = 8 ∨ l = 16) : call T 261 [vL [rs s],vI l] [] = some (vL (yo l.toNat (rs s)),[]):=by
 rcases h with rfl | rfl | rfl | rfl | rfl
 ·exact zms (n:=200) (by kernel_rfl)
 ·exact zms (n:=200) (by kernel_rfl)
 ·exact zms (n:=200) (by kernel_rfl)
 ·exact zms (n:=200) (by kernel_rfl)
 ·exact zms (n:=200) (by kernel_rfl)
end AC
