/- A part of the proof of AliasBoth. Conditions: none. -/
import Derived.Test.YtmkncmffaaninaaGreatAAP
import Derived.Test.YtmkncmffaaninaaGreatAAO
import Derived.Test.YtmkncmffaaninaaGreatAAN
import Derived.KernelRfl
set_option linter.all false
open List renaming drop_eq_getElem_cons → ya,drop_length → yf,getElem_mem → yg,any_cons → yi,drop_zero → yk,getElem?_cons_zero → ym
open Bool renaming or_eq_false_iff → yb,false_eq_true → yd,and_eq_true → ye,not_eq_true' → yl,or_eq_true → yn
open Int renaming natCast_zero → yc,lt_irrefl → yj,reduceSub → yq
open Option renaming bind_eq_some_iff → yh,bind_some → yp
open Nat renaming add_assoc → yo,add_comm → yr,le_refl → ys
namespace AC
open Go.A Go.A.Lex Go.A.Z
def zhL:Fun:=⟨1,2,0,false,[(1,none)],dN 1 (ak (bR 0 (bK 253) bQ 1) (m 2 2))⟩
def zq3:Fun:=⟨2,5,0,false,[(2,none),(3,none)],b (aS 2 (ik .u32 0) 3 (ik .u32 0)) (b (bj 0 cT (d 1) cT (ad (aR .mul aP) 4)) (cs 4 (H (dd .shr 32) (bX .u32) (d 4) (bX .u32) (bT 2 aP 3)) (m 5 12)))⟩
def zqM:Fun:=⟨2,12,0,false,[(2,none),(3,none)],b (aS 2 (aV 0) 3 (aV 0)) (a0 0 (ad (dd .and 4294967295) 4) (a0 0 (ad (dd .shr 32) 5) (a0 1 (ad (dd .and 4294967295) 6) (a0 1 (ad (dd .shr 32) 7) (b (bR 4 (d 6) (cG .mul) 8) (a0 5 (bj 6 (cG .mul) (d 8) (dd .shr 32) (ad (aR .add aP) 9)) (a0 9 (ad (dd .and 4294967295) 10) (a0 9 (ad (dd .shr 32) 11) (b (dL 10 4 7 (cG .mul) (ad (dh 3) 10)) (a0 5 (aQ 7 (cG .mul) (bj 11 (cG .add) (d 10) (dd .shr 32) (ad (aR .add aP) 2))) (ak (bR 0 (d 1) (cG .mul) 3) (m 12 12))))))))))))⟩
def zh6:Fun:=⟨2,4,0,false,[(2,none)],b5 2 (aV 0) (a0 1 (dv (bK 197) 3) (bH 3 2 (aV 0) (m 4 4))) (ak (cX 0 1 (H (aR .sub (i 64)) (aR .shl aP) (d 1) (aR .sub (i 64)) (ad (aR .shr aP) 2))) (m 4 4))⟩
def zkV:Fun:=⟨1,2,0,false,[(1,none)],cq 1 dz (b0 0 1 (m 2 2))⟩
def zhQ:Cd:=a2 (cX 6 5 (be aK 9 (ao aP c))) (au 9 0 (m 10 32) 1) (.block 1 (.reg (dL 6 5 6 (.slc 2 aa (some c) none none) (b3 5 6 (.slc 2 aa none (some c) none) (.cpy 2 cd c) (ad (dh 7) 6)))))
def zhK:Cd:=cU (m 10 96) zhQ
def ziz:Fun:=⟨2,10,0,false,[(2,none)],b5 2 dz (cn (c6 1 7 (cE 0)) 7 (.reg (cP (.no "") (e (.no ""))))) (ab (ax 0) (bM aK cT (d 1) cT (de 247 aP) aq cZ cY (bT 3 aa 4)) (cn (aQ 3 (dd .gtr 0) (ci (cC 4) (U (dd .gtr 9223372036854775807) 1) (du 8 2) [])) 8 (.reg (cP (.no "") (e (.no ""))))) (b (bR 4 (bX .i64) (.mks bu none c) 5) (b (bR 5 (d 0) (.cpy 2 aa c) 6) (Z 0 zhK (b0 5 2 (m 10 4))))))⟩
end AC
namespace Go.A
def zAg (P : Program) (CD : Draws) (n : Nat) (fn : Fun) : Prop := ∃ gf κ, P.funcs[n]? = some gf ∧ (gf.name == "runtime.NumGoroutine") = false ∧ zth P CD κ gf fn = true
def zwA (Q : Nat → Fun → Prop) : Nat → List (Option Fun) → Prop
 | _,[] => True
 | b,none :: r => zwA Q (b + 1) r
 | b,some f :: r => Q b f ∧ zwA Q (b + 1) r
def ztt (Q : Nat → Fun → Prop) : Nat → List (List (Option Fun)) → Prop
 | _,[] => True
 | b,r :: rs => zwA Q b r ∧ ztt Q (b + 16) rs
def zAS : Nat → Nat → Nat → List Nat
 | 0,_,_ => []
 | n + 1,w,i => if w % 2 = 1 then i :: zAS n (w / 2) (i + 1) else zAS n (w / 2) (i + 1)
def ztk (P : Program) (CD : Draws) : Nat → List (Option (Nat × Fun)) → Bool
 | _,[] => true
 | b,none :: r => ztk P CD (b + 1) r
 | b,some x :: r => (match P.funcs[b]? with
   | some gf => !(gf.name == "runtime.NumGoroutine") && zth P CD (zAS (Nat.log2 x.1 + 1) x.1 0) gf x.2
   | none => false) && ztk P CD (b + 1) r
def bare (r : List (Option (Nat × Fun))) : List (Option Fun):=r.map fun x => x.map fun y => y.2
theorem zaQ {P : Program} {CD : Draws} : ∀ (r : List (Option (Nat × Fun))) (b : Nat),ztk P CD b r = true → zwA (zAg P CD) b (bare r)
 | [],_,_ => trivial
 | none :: r,b,h => zaQ r (b + 1) h
 | some x :: r,b,h => by
   simp only [ztk,ye] at h;refine ⟨?_,zaQ r (b + 1) h.2⟩;have a:=h.1;split at a
   ·rename_i gf c
    simp only [ye,yl] at a;exact ⟨gf,_,c,a.1,a.2⟩
   ·cases a
theorem zpq {Q : Nat → Fun → Prop} : ∀ (r : List (Option Fun)) (b : Nat),zwA Q b r → ∀ (j : Nat) (f : Fun),r[j]? = some (some f) → Q (b + j) f
 | [],_,_,_,_,h => by simp at h
 | none :: r,b,hr,0,f,h => by simp at h
 | some g :: r,b,hr,0,f,h => by
   simp only [ym,Option.some.injEq] at h;subst h;exact hr.1
 | none :: r,b,hr,j + 1,f,h => by
   have:=zpq r (b + 1) hr j f (by simpa using h)
   rwa [yo,yr 1 j] at this
 | some g :: r,b,hr,j + 1,f,h => by
   have:=zpq r (b + 1) hr.2 j f (by simpa using h)
   rwa [yo,yr 1 j] at this
theorem zrc {Q : Nat → Fun → Prop} : ∀ (rs : List (List (Option Fun))) (b : Nat),ztt Q b rs → ∀ (i j : Nat) (r : List (Option Fun)) (f : Fun),rs[i]? = some r → r[j]? = some (some f) → Q (b + 16 * i + j) f
 | [],_,_,_,_,_,_,h,_ => by simp at h
 | x :: rs,b,hr,0,j,r,f,h,h' => by
   simp only [ym,Option.some.injEq] at h;subst h;exact zpq x b hr.1 j f h'
 | x :: rs,b,hr,i + 1,j,r,f,h,h' => by
   have:=zrc rs (b + 16) hr.2 i j r f (by simpa using h) h';have e : b + 16 + 16 * i + j = b + 16 * (i + 1) + j:=by omega
   rwa [e] at this
theorem zCC {rows : List (List (Option Fun))} {n : Nat} {f : Fun} (h : zuC rows n = some (.fn f)) : ∃ r,rows[n / 16]? = some r ∧ r[n % 16]? = some (some f):=by
 unfold zuC at h
 cases b : rows[n / 16]? with
 | none => simp [b,zkM] at h
 | some r =>
   refine ⟨r,rfl,?_⟩;rw [b,yp] at h
   cases a : r[n % 16]? with
   | none => simp [a,zkM] at h
   | some o =>
     cases o with
     | none => simp [a,zkM] at h
     | some g => simpa [a,zkM] using h
theorem zw4 {rows : List (List (Option Fun))} {n : Nat} {g : List V → zb → Option (V × zb)} : zuC rows n ≠ some (.ext g):=by
 unfold zuC zkM;split <;> simp
theorem zyZ {P : Program} {CD : Draws} {rows : List (List (Option Fun))} (h : ztt (zAg P CD) 0 rows) : zvn P CD (zuC rows):=fun n => by
 refine ⟨fun fn c => ?_,fun ext he => absurd he zw4⟩;obtain ⟨r,d,b⟩:=zCC c;have a:=zrc rows 0 h (n / 16) (n % 16) r fn d b;have e : 0 + 16 * (n / 16) + n % 16 = n:=by omega
 rw [e] at a;exact a
theorem zpo {P : Program} {CD : Draws} {k : Nat} {g : List V → zb → Option (V × zb)} {T : Nat → Option Entry}
  (b : ∀ args σ v σ',g args σ = some (v,σ') → Enters P k ∧ ∀ gg w us,Rel gg w σ → zv gg w σ args us → Calls P k us.toArray w fun e w' => ∃ u g',e = .returned u ∧ ze g' w' σ' v u ∧ Rel g' w' σ' ∧ Ext gg w σ g' w' σ')
  (c : zvn P CD T) : zvn P CD fun n => if n = k then some (.ext g) else T n:=fun n => by
 by_cases a : n = k
 ·subst a
  refine ⟨fun fn d => ?_,fun ext he => ?_⟩
  ·simp at d
  ·simp only [if_true,Option.some.injEq,Entry.ext.injEq] at he
   subst he;exact b
 ·have:=c n
  simpa only [if_neg a] using this
section
variable {P : Program} {CD : Draws}
theorem zzs {f : Nat} {gf : Func} (hgf : P.funcs[f]? = some gf) (hname : (gf.name == "runtime.NumGoroutine") = false) {fn1 fn2 : Fun} {c0 c1 c2 : Code} (e1 : fn1.body = .seq c0 c1) (e2 : fn2.body = .seq c0 c2) (same : fn1.np = fn2.np ∧ fn1.nslots = fn2.nslots ∧ fn1.keep = fn2.keep) (hc : zlA P CD [0, 2] gf fn1 fn2 = true) :
  Enters P f ∧ ∃ i0 i1 r0 o1 o2 ga gb t3 t4 ty ty' ty'',TwoOk P CD [0,2] gf fn1 fn2 c0 c1 c2 i0 i1 r0 o1 o2 ga gb t3 t4 ty ty' ty'':=by
 unfold zlA at hc
 split at hc
 ·rename_i i0 r0 i1 o1 o2 t4 ga gb c0' c1' c0'' c2' hb hb1 hb2
  rw [e1] at hb1
  rw [e2] at hb2
  simp only [ye,beq_iff_eq,bne_iff_ne,ne_eq,yl,decide_eq_true_eq] at hc
  obtain ⟨⟨⟨⟨⟨⟨⟨⟨⟨⟨⟨⟨⟨⟨⟨⟨h1,h1'⟩,h2⟩,h3⟩,h4⟩,h5⟩,h6⟩,h7⟩,h8⟩,h9⟩,h10⟩,h11⟩,h12⟩,h13⟩,h14⟩,h15⟩,h16⟩:=hc
  split at h4
  ·rename_i t3 ht3
   simp only [ye,bne_iff_ne,ne_eq,yl,decide_eq_true_eq] at h4
   obtain ⟨⟨⟨h4,hne⟩,hk3⟩,hl3⟩:=h4
   obtain ⟨k1,k2⟩:=ziQ h4
   injection hb1 with q1 q2
   injection hb2 with q3 q4
   subst q1 q2 q4
   refine ⟨⟨gf,_,hgf,hname,hb⟩,?_⟩
   obtain ⟨te,hte⟩ : ∃ te,P.underlying (zyp o2).1 = some (.slice te):=by
    unfold zmv at h8
    split at h8
    ·rename_i te hte; exact ⟨te,hte⟩
    ·cases h8
   exact ⟨i0,i1,r0,o1,o2,ga,gb,t3,t4,(zyp o2).1,(zyp o2).2,te,hb,e1,e2,h1,h2,h3,k1,k2,hne,⟨hk3,hl3⟩,⟨h5,h6⟩,h7,hte,h9,h10,same,h11,h12,h13,h14,h15,h16⟩
  ·cases h4
 ·cases hc
end
section
variable {P : Program} {CD : Draws} {κ : List Tmp}
theorem zu1 (hD : DrawOk P CD) {f : Nat} {gf : Func} {fn1 fn2 : Fun} {c0 c1 c2 : Code} {i0 i1 : Nat} {r0 : Array Go.Oper} {Y Z : Go.Oper} {S gb : Go.Code} {t3 t4 ty H d : Nat} (L : P.funcs[f]? = some gf) (T : TwoOk P CD κ gf fn1 fn2 c0 c1 c2 i0 i1 r0 Y Z S gb t3 t4 ty H d)
  {va : V} {E : Prop} {σ : zb} {v : V} {σ' : zb} {n0 n2 : Nat} {s0 s2 : St} {e2 : Ex} (U : zG zhc n0 c0 (enter fn2 [va] σ) = some (.normal,s0)) (N : s0.env.getD 0 vun = va) (O : ∀ g' w' u,Rel g' w' s0.st → ze g' w' s0.st va u → ∃ ad n c,u = .slice ad n c ∧ (ad = none → E)) (X : zG zhc n2 c2 s0 = some (e2,s2)) (l2 : leave fn2.raw fn2.results (e2,s2) = some (v,σ'))
  (h1 : E → ∃ n1 s1,zG zhc n1 c1 s0 = some (.ret,s1) ∧ leave fn1.raw fn1.results (.ret,s1) = some (v,σ')) (B : fn2.np = 1) {g : G} {w : World} {us : List Value} (R0 : Rel g w σ) (hv : zv g w σ [va] us) :
  Calls P f us.toArray w fun e w' => ∃ u g',e = .returned u ∧ ze g' w' σ' v u ∧ Rel g' w' σ' ∧ Ext g w σ g' w' σ':=by
 have hA:=zjc (gf:=gf) (fn:=fn2) R0 hv T.nd T.all T.len T.np T.np2 T.hd (by rw [B]; rfl);have a:=fun n => zlX (P:=P) (CD:=CD) (T:=zhc) (g0:=g.clean σ.length) (w0:=w) (σ0:=σ) (κ:=κ) (nt:=gf.ntmps) hD (zdO g σ.length) n fun m _ => znz m;have k:=zb8 zhc n0 _ _ _ _ U
 have i : ∀ (fn : Fun) (e : Ex) (s : St),zg3 P κ gf.results.toList fn.results = true → leave fn.raw fn.results (e,s) = some (v,σ') → s.lim = (enter fn2 [va] σ).lim → ∀ x y w',zAc (g.clean σ.length) w σ κ gf.ntmps e s x y w' →
   bodyPost P gf (fun e w' => ∃ u g',e = .returned u ∧ ze g' w' σ' v u ∧ Rel g' w' σ' ∧ Ext g w σ g' w' σ') x y w' ∧ x = ziL e:=fun fn e s J b t x y w' j => by
  obtain ⟨rfl,g',A'⟩:=j;obtain ⟨q1,q2,u,q3,I,q4,q5,W⟩:=zjh (fn:=fn) (gf:=gf) (zdO g σ.length) (by rw [t]; exact Nat.le_add_right _ _) J b A'
  have h : y.defers = [] ∧ ∃ v1,(results gf y.tmps).run P w' = .ok v1 w' ∧ ∃ u g',(Ending.returned v1) = .returned u ∧ ze g' w' σ' v u ∧ Rel g' w' σ' ∧ Ext g w σ g' w' σ' :=
   ⟨q2,u,q3,u,G.under g w I,rfl,zdA (g:=I) (g':=G.under g w I) rfl rfl rfl _ _ q4,zmi W q5,zne W⟩
  rcases q1 with rfl | rfl
  ·exact ⟨h,rfl⟩
  ·exact ⟨h,rfl⟩
 refine calls_of_wp L T.body (wp_seq (wp_mono ((a n0).1 _ c0 _ .normal s0 T.k0 U _ _ _ (ys _) hA) fun x a1 z j => ?_));obtain ⟨rfl,g1,p⟩:=j
 show Exit.then _ _ .normal a1 z
 simp only [Exit.then];have l:=p.fr.size;have hu:=p.fr.env 0 0 T.arg;simp only [N] at hu;obtain ⟨ad,n,c,hu,r⟩:=O _ _ _ p.rel hu;refine wp_seq (wp_seq (zcd ?_));refine zcj (o:=Y) rfl T.e1.1 T.e1.2.1 T.f3 (zhv (.inr T.e1.2.2) hu) fun a2 A => ?_;refine zcj (o:=Z) (u:=.bool ad.isNone) (w':=z) rfl T.e2.1 T.e2.2.1 T.f4 ?_ fun a3 M => ?_
 ·unfold execOp
  simp only [T.e2.2.2,zdG,A.val l,Act.eval];simp [eqGuard,Lib.run_eql_slice_nil z ty d ad n c 0 0 T.ty]
 show Exit.then _ _ .normal a3 z
 simp only [Exit.then];have A3 : At' (g.clean σ.length) w σ κ gf.ntmps g1 z s0 a3:=⟨p.ext,p.rel,M.fr (A.fr p.fr)⟩;have hle : σ.length ≤ s0.base:=by rw [k.1]; exact ys _
 cases ad with
 | none =>
   have Q:=r rfl;obtain ⟨n1,s1,q,C⟩:=h1 Q;have K:=zb8 zhc n1 _ _ _ _ q;refine wp_cond_true (M.val (A.size l)) (wp_mono ((a n1).1 S c1 s0 .ret s1 T.k1 q _ _ _ hle A3) fun x a4 D j => ?_);obtain ⟨k1,k2⟩:=i fn1 .ret s1 T.q1 C (by rw [K.2,k.2]) x a4 D j;subst k2;simp only [ziL,Exit.then];exact k1
 | some ad =>
   have R:=zb8 zhc n2 _ _ _ _ X;refine wp_cond_false (M.val (A.size l)) (wp_skip ?_);simp only [Exit.then];exact wp_mono ((a n2).1 gb c2 s0 e2 s2 T.k2 X _ _ _ hle A3) fun x a4 D j => (i fn2 e2 s2 T.q2 l2 (by rw [R.2,k.2]) x a4 D j).1
def zpK (sz : Nat) (σ : zb) (xs : List (List Fz)) : Option (V × zb):=if zpv sz xs = true ∧ xs.length ≤ LIM ∧ 0 < xs.length ∧ Obs.lt σ.length σ = true then some (vsl xs,σ) else none
def zs5 (sz : Nat) (σ : zb) (xs : List (List Fz)) : Option (V × zb):=if zpv sz xs = true ∧ xs.length ≤ LIM ∧ Obs.lt σ.length σ = true then some (vsl xs,σ) else none
def zhl (sz : Nat) : List V → zb → Option (V × zb)
 | [.one (.own id ver lo n)],σ => (elems σ (.one (.own id ver lo n))).bind (zpK sz σ)
 | [.one (.f (.sl xs))],o :: σ => zs5 sz (o :: σ) xs
 | aS,σ => zl2 sz aS σ
def zDO (va : V) (xs : List (List Fz)) : Prop:=va = vsl xs ∨ (∃ id ver lo n,va = .one (.own id ver lo n)) ∧ 0 < xs.length
theorem zuS {g : G} {w : World} {σ : zb} {va : V} {xs : List (List Fz)} {u : Value} (h : zDO va xs) (f : elems σ va = some xs) (m : ze g w σ va u) : ∃ ad n c,u = .slice ad n c ∧ (ad = none → xs = []):=by
 rcases h with rfl | ⟨⟨id,E,lo,n,rfl⟩,y⟩
 ·simp only [vsl,ze,zq,rep] at m
  obtain ⟨ad,c,sz,hu,_,_,l⟩:=m;refine ⟨ad,_,c,hu,fun e => ?_⟩;rcases l with h | ⟨b,o,h,_⟩
  ·exact h
  ·rw [e] at h; cases h
 ·simp only [ze,zq] at m
  obtain ⟨v,sz,len,s,hle,j,z,c0,A⟩:=m;simp only [elems,yh] at f;obtain ⟨H,B,d⟩:=f;unfold Ob.frz at d;split at d
  ·rename_i k p es
   split at d
   ·rename_i i
    subst i;have t : shapeOf σ id = some (k,p,es.length):=(by simp [shapeOf,B,Ob.shape]);rw [t] at s;simp only [Option.some.injEq,Prod.mk.injEq] at s;obtain ⟨rfl,rfl,rfl⟩:=s;obtain ⟨a,c,hu,C,q,r⟩:=j rfl;refine ⟨a,n,c,hu,fun e => ?_⟩
    have hlen : xs.length ≤ n:=by
     have:=(zc9 d).1;rw [this];simp;omega
    have x : c ≠ 0:=(by omega);have hle : es.length ≠ 0:=fun h => x (q h);obtain ⟨_,D,_⟩:=r hle;have:=D x;rw [e] at this;cases this
   ·cases d
  ·cases d
theorem zoH (hD : DrawOk P CD) {f : Nat} {gf : Func} {sz : Nat} (hgf : P.funcs[f]? = some gf) (hname : (gf.name == "runtime.NumGoroutine") = false) (hc : zlA P CD [0, 2] gf zeC (zdo sz) = true)
  (va : V) (xs : List (List Fz)) (σ : zb) (hel : ∀ o,elems (σ ++ o) va = some xs) (hk : zDO va xs) (hok : zpv sz xs = true ∧ xs.length ≤ LIM ∧ Obs.lt σ.length σ = true) :
  Enters P f ∧ ∀ g w us,Rel g w σ → zv g w σ [va] us → Calls P f us.toArray w fun e w' => ∃ u g',e = .returned u ∧ ze g' w' σ (vsl xs) u ∧ Rel g' w' σ ∧ Ext g w σ g' w' σ:=by
 obtain ⟨hE,i0,i1,r0,o1,o2,ga,gb,t3,t4,ty,ty',ty'',T⟩:=zzs (fn1:=zeC) (fn2:=zdo sz) (c0:=zkv) (c1:=znE) (c2:=zmR sz) hgf hname rfl rfl ⟨rfl,rfl,rfl⟩ hc
 refine ⟨hE,fun g w us R0 hv => ?_⟩
 have hel0:=hel []
 have hel1:=hel [.tok sz [0]]
 rw [List.append_nil] at hel0
 have hlt : ¬ σ.length + 1 ≤ σ.length:=by omega
 refine zu1 (E:=xs = []) (va:=va) (n0:=1) (n2:=2) (e2:=.ret) (s0:=⟨[va,vsl []],σ,σ.length,σ.length⟩) (s2:=⟨[vun,.one (.ap σ.length 0 xs)],σ ++ [.tok sz [xs.length]],σ.length,σ.length⟩) hD hgf T ?_ rfl (fun g' w' u _ h => zuS hk hel0 h) ?_ ?_ (fun hxs => ⟨2,⟨[vun,vsl []],σ,σ.length,σ.length⟩,?_,?_⟩) rfl R0 hv
 ·simp [zG,zkv,steps,step,zaF,R.get,R.put,zv7,enter,zdo,vsl,vun]
 ·simp [zG,zmR,steps,step,zaF,R.get,R.put,zv7,vsl,vun,zlH,zt4,zbx,zw8,R.alloc,hel1,hok.1,zAy,zlG,Ob.front,Ob.setFront,R.setOb,hok.2.1,zqm,clr,St.mkSt]
 ·simp [leave,zdo,outs,zrF,zxw,zz8,zeA,vsl,zkd,zkk,V.lts,V.lt,C.lt,hok.2.2,zAd,vun]
 ·simp [zG,znE,steps,step,zaF,R.get,R.put,zv7,vsl,vun,zqm,clr,St.mkSt]
 ·subst hxs
  simp [leave,zeC,outs,zrF,zxw,zz8,zeA,vsl,zkd,zkk,V.lts,V.lt,C.lt,Obs.lt,zAd,vun]
theorem zxX {σ : zb} {id a lo n : Nat} {xs : List (List Fz)} (h : elems σ (.one (.own id a lo n)) = some xs) (o : zb) : elems (σ ++ o) (.one (.own id a lo n)) = some xs:=by
 simp only [elems,yh] at h ⊢;obtain ⟨d,b,c⟩:=h;exact ⟨d,by rw [List.getElem?_append_left (List.getElem?_eq_some_iff.1 b).1]; exact b,c⟩
theorem zn4 (hD : DrawOk P CD) {f : Nat} {gf : Func} {sz : Nat} (hgf : P.funcs[f]? = some gf) (hname : (gf.name == "runtime.NumGoroutine") = false) (hc : zlA P CD [0, 2] gf zeC (zdo sz) = true)
  {id ver lo n : Nat} {σ σ' : zb} {v : V} (h : (elems σ (.one (.own id ver lo n))).bind (zpK sz σ) = some (v,σ')) :
  Enters P f ∧ ∀ g w us,Rel g w σ → zv g w σ [.one (.own id ver lo n)] us → Calls P f us.toArray w fun e w' => ∃ u g',e = .returned u ∧ ze g' w' σ' v u ∧ Rel g' w' σ' ∧ Ext g w σ g' w' σ':=by
 rw [yh] at h
 obtain ⟨xs,h1,h2⟩:=h
 unfold zpK at h2
 split at h2
 ·rename_i hok
  injection h2 with h2
  simp only [Prod.mk.injEq] at h2
  obtain ⟨rfl,rfl⟩:=h2
  exact zoH hD hgf hname hc _ xs σ (zxX h1) (.inr ⟨⟨_,_,_,_,rfl⟩,hok.2.2.1⟩) ⟨hok.1,hok.2.1,hok.2.2.2⟩
 ·cases h2
theorem zqj (hD : DrawOk P CD) {f : Nat} {gf : Func} {sz : Nat} (hgf : P.funcs[f]? = some gf) (hname : (gf.name == "runtime.NumGoroutine") = false) (hc : zlA P CD [0, 2] gf zeC (zdo sz) = true)
  {xs : List (List Fz)} {σ σ' : zb} {v : V} (h : zs5 sz σ xs = some (v,σ')) :
  Enters P f ∧ ∀ g w us,Rel g w σ → zv g w σ [.one (.f (.sl xs))] us → Calls P f us.toArray w fun e w' => ∃ u g',e = .returned u ∧ ze g' w' σ' v u ∧ Rel g' w' σ' ∧ Ext g w σ g' w' σ':=by
 unfold zs5 at h
 split at h
 ·rename_i hok
  injection h with h
  simp only [Prod.mk.injEq] at h
  obtain ⟨rfl,rfl⟩:=h
  exact zoH hD hgf hname hc _ xs σ (fun _ => rfl) (.inl rfl) hok
 ·cases h
theorem zuQ (hD : DrawOk P CD) {f : Nat} {gf : Func} {sz : Nat} (hgf : P.funcs[f]? = some gf) (hname : (gf.name == "runtime.NumGoroutine") = false) (hc : zlA P CD [0, 2] gf zeC (zdo sz) = true) (args : List V) (σ : zb) (v : V) (σ' : zb) (h : zhl sz args σ = some (v, σ')) :
  Enters P f ∧ ∀ g w us,Rel g w σ → zv g w σ args us → Calls P f us.toArray w fun e w' => ∃ u g',e = .returned u ∧ ze g' w' σ' v u ∧ Rel g' w' σ' ∧ Ext g w σ g' w' σ':=by
 unfold zhl at h
 split at h
 ·exact zn4 hD hgf hname hc h
 ·exact zqj hD hgf hname hc h
 ·exact zv1 hD hgf hname hc _ _ _ _ h
end
end Go.A
namespace AC
open Go.A Go.A.Lex
def tab : List (List (Option Fun)):=[
 bare [none,none,none,none,none,none,none,none,none,some (1208925819614629175015935,zu),none,none,none,none,none,none],
 bare [some (543,zr),none,none,none,none,none,some (33571891,zcS),none,none,none,none,none,none,none,none,none],
 bare [none,some (16621590550007,zc3),none,none,some (67110831,zfs),some (127,zcK),some (4559,zbG),none,some (3871,zb5),none,some (287,zdp),none,some (287,zcG),some (136186103,zeY),none,none],
 bare [none,none,none,some (4183,zdF),none,none,none,none,none,none,none,none,none,some (38685626227685725776904319,zbc),none,none],
 bare [none,none,none,none,none,none,none,none,none,none,none,none,none,none,none,none],
 bare [none,some (543,zcY),some (543,zdC),some (159,zd5),some (16447,zfO),some (274878432243,zag),none,none,some (23,zb0),some (134349303,zap),none,some (4398047296575,zE),some (143,zdk),none,none,some (71,zdE)],
 bare [some (71,zdZ),some (157,zb2),some (68719972543,zeM),none,some (2417860862618887407011831,zgN),none,none,none,none,some (68719476743,zcL),none,none,none,none,some (141465551735,zam),none],
 bare [none,none,none,none,none,none,none,some (19,zbz),none,none,none,none,none,none,none,none],
 bare [none,none,none,none,none,some (16806963,zaW),some (5,zho),some (1393796574909431596946210657470816853166047,zgy),some (19,zet),some (19,ze6),some (39,zeq),some (2535455952480465913516826559475,zg),none,none,none,some (669,zde)],
 bare [some (11,zfD),none,some (7,zc7),some (252707005,zdf),some (31,zgK),some (525,zcM),none,some (15407,zja),some (5,zmf),some (19,zaV),some (7,zhZ),some (36028861980348247,zbP),none,none,none,some (309487371008879061366997373,zY)],
 bare [some (1100015992887,zX),some (5070603543725610699058311077759,zaL),some (7,zce),some (7,zcf),none,none,none,none,none,some (66483,za7),none,none,none,none,some (19,zO),some (7,zfU)],
 bare [none,some (16883,zff),some (19,za9),some (11,zfT),some (2101171,zfL),none,some (3963069,zgz),some (1074250695,zac),some (16806963,zbh),none,none,none,none,none,none,none],
 bare [some (5,ze3),some (66483,zav),some (262645,zhq),some (19361999891509624300419063,zk2),some (71,zkS),some (29,zdQ),some (5,zb4),some (19,zbu),some (7,zbW),some (19,zbE),some (15,zb1),some (2097211,zT),some (359,zbV),some (5,zfH),some (4202527,zbU),some (1299341903921783656432219969421043,zbB)],
 bare [some (4196895,zaj),some (262751,zp),some (2229791,zh),none,none,none,none,none,none,none,none,none,none,none,none,none],
 bare [none,some (66483,z8),none,some (66483,zaK),none,none,some (137506063859,zi1),some (8590985487,zkx),some (23,zpZ),some (4231239,zig),some (66483,za2),some (66483,zbm),some (4196415,zbL),some (5,zgi),some (143,zfC),none],
 bare [none,none,none,none,none,none,none,some (1011,zu8),some (16794621,ze2),some (11,zkJ),some (8651699,zje),some (2963,zcA),some (3213974174218952357560221179716737556379227408111879118128127,zi),some (5,zhx),some (5,zhL),none],
 bare [none,some (115,zq3),some (16371,zqM),some (147,zh6),some (5,zkV),some (137506063859,ziz)]]
def T (n : Nat) : Option Entry:=if n = 118 then some (.ext zgb) else if n = 181 then some (.ext (zhl 1)) else if n = 145 then some (.ext (zhH 177)) else zuC tab n
end AC
namespace Go.A
section rules
variable {T : Nat → Option Entry} {s s1 s2 : St} {a b c : Code} {e : Ex} {r : Option (Ex × St)}
theorem ziG (h : exec T a s = some (.normal,s1)) (c : exec T b s1 = r) : exec T (.seq a b) s = r:=by
 rw [zdv,h];exact c
theorem zBI (h : exec T a s = some (e,s1)) (he : e ≠ .normal) : exec T (.seq a b) s = some (e,s1):=by
 rw [zdv,h];cases e
 case normal => exact absurd rfl he
 all_goals rfl
theorem zCU {x : X} (c : (R.mk [] s.env s.st s.base s.lim).get x = .one (.f (.lit (.bool true)))) (h : exec T a s = r) : exec T (.cond x a b) s = r:=by
 rw [znb,c];exact h
theorem zCS {x : X} (c : (R.mk [] s.env s.st s.base s.lim).get x = .one (.f (.lit (.bool false)))) (h : exec T b s = r) : exec T (.cond x a b) s = r:=by
 rw [znb,c];exact h
theorem ztr {id : Nat} (h : exec T a s = some (.normal,s1)) : exec T (.block id a) s = some (.normal,s1):=by
 rw [zof,h];rfl
theorem zBZ {live : List Bool} {a : Nat} (e : c = .loop live a b) (h : exec T b s = some (.normal,s1)) (f : s1.clear live a = some s2) (d : exec T c s2 = r) : exec T c s = r:=by
 subst e;rw [zna,h];simp only [yp,zm5,f];exact d
theorem zBh {live : List Bool} {a : Nat} (d : c = .loop live a b) (h : exec T b s = some (e,s1)) (he : e ≠ .normal) : exec T c s = some (e,s1):=by
 subst d;rw [zna,h];cases e
 case normal => exact absurd rfl he
 all_goals rfl
end rules
end Go.A
namespace Go.A
def Code.p1 : Code → Code
 | .seq a _ => a
 | .cond _ a _ => a
 | .block _ a => a
 | c => c
def Code.p2 : Code → Code
 | .seq _ b => b
 | .cond _ _ b => b
 | c => c
end Go.A
attribute [go_sem] true_or or_true or_self false_or or_false Go.A.zjW Go.A.zrZ Go.A.zaZ Go.A.zkU List.all_cons List.all_nil List.headD_cons Int.natCast_nonneg Int.toNat_natCast yc
namespace AC
open Go Go.A Go.A.Lex
abbrev vI (x : Int) : V:=.one (.f (.lit (.int .i64 x)))
abbrev zge (x : Int) : V:=.one (.f (.lit (.int .u64 x)))
abbrev vB (x : Bool) : V:=.one (.f (.lit (.bool x)))
abbrev vL (xs : List (List Fz)) : V:=.one (.f (.sl xs))
abbrev vU : V:=.one .un
abbrev vFn (g : Nat) (caps : List C) : V:=.one (.fn g [] caps)
abbrev ei (x : Int) : Fz:=.lit (.int .i64 x)
abbrev eu (x : Int) : Fz:=.lit (.int .u64 x)
def ri (x : Int) : List Fz:=[.lit (.int .i64 x)]
abbrev eI (l : List Int) : Fz:=.sl (l.map ri)
abbrev vIs (l : List Int) : V:=.one (.f (.sl (l.map ri)))
def rl (l : List Int) : List Fz:=[.sl (l.map ri)]
abbrev vLs (l : List (List Int)) : V:=.one (.f (.sl (l.map rl)))
def rs (s : Int × Int) : List Fz:=[.lit (.int .i64 s.1),.lit (.int .i64 s.2)]
abbrev vSs (l : List (Int × Int)) : V:=.one (.f (.sl (l.map rs)))
structure POp where
 kind : Int
 bits : Int
 lanes : Int
 dst : Int
 args : List Int
 imm : Int
structure PPhi where
 bits : Int
 dst : Int
 src : List Int
 args : List Int
structure PBlock where
 phis : List PPhi
 ops : List POp
 kind : Int
 arg : Int
 to : List Int
structure PFunc where
 params : List Int
 ret : Int
 blocks : List PBlock
def ro (o : POp) : List Fz:=[ei o.kind,ei o.bits,ei o.lanes,ei o.dst,eI o.args,eu o.imm]
def rp (p : PPhi) : List Fz:=[ei p.bits,ei p.dst,eI p.src,eI p.args]
def rb (b : PBlock) : List Fz:=[.sl (b.phis.map rp),.sl (b.ops.map ro),ei b.kind,ei b.arg,eI b.to]
abbrev cOp (o : POp) : List C:=[.f (ei o.kind),.f (ei o.bits),.f (ei o.lanes),.f (ei o.dst),.f (eI o.args),.f (eu o.imm)]
abbrev zxT (p : PPhi) : List C:=[.f (ei p.bits),.f (ei p.dst),.f (eI p.src),.f (eI p.args)]
abbrev zK (b : PBlock) : List C:=[.f (.sl (b.phis.map rp)),.f (.sl (b.ops.map ro)),.f (ei b.kind),.f (ei b.arg),.f (eI b.to)]
abbrev zcN (f : PFunc) : List C:=[.f (eI f.params),.f (ei f.ret),.f (.sl (f.blocks.map rb))]
abbrev vOp (o : POp) : V:=.agg (cOp o)
abbrev zCJ (p : PPhi) : V:=.agg (zxT p)
abbrev zmx (b : PBlock) : V:=.agg (zK b)
abbrev zbS (f : PFunc) : V:=.agg (zcN f)
attribute [go_sem] Int.reduceEq Int.reduceNe Int.reduceAdd yq Int.reduceMul Int.reduceNeg Int.reduceGT Int.reduceGE
attribute [go_sem] vI zge vB vL vU vFn ei eu eI vIs vLs vSs cOp zxT zK zcN vOp zCJ zmx zbS
theorem wrap_i64 {n : Int} (h : -9223372036854775808 ≤ n) (b : n < 9223372036854775808) : Go.IntKind.i64.wrap n = n:=by
 unfold Go.IntKind.wrap Go.IntKind.bits Go.IntKind.signed;simp only [Bool.true_and];split
 ·rename_i a
  simp at a;omega
 ·rename_i a
  simp at a;omega
theorem wrap_u64 {n : Int} (h : 0 ≤ n) (a : n < 18446744073709551616) : Go.IntKind.u64.wrap n = n:=by
 unfold Go.IntKind.wrap Go.IntKind.bits Go.IntKind.signed;simp only [Bool.false_and];have : (2 : Int) ^ 64 = 18446744073709551616:=by decide
 rw [this]
 split <;> first | omega | (rename_i h; simp at h)
theorem zf {k n : Nat} (h : k < n) (a : n ≤ 4294967296) : Go.IntKind.i64.wrap ((k : Int) + 1) = ((k + 1 : Nat) : Int):=by
 rw [wrap_i64] <;> omega
theorem z6 {α : Type} {r : α → List Fz} {l : List α} {k : Nat} (h : k < l.length) : (l.map r)[k]? = some (r l[k]):=by simp [h]
theorem ilt {k n : Nat} (h : k < n) : ((k : Int) < (n : Int)) = True:=by simp [h]
def zfX (b : Int) : Bool:=decide (b = 1) || decide (b = 8) || decide (b = 16) || decide (b = 32) || decide (b = 64)
@[go_sem] theorem zyY (b : Int) : call T 197 [vI b] [] = some (vB (zfX b),[]):=by
  rw [zd (fn:=zdQ) rfl]
  by_cases c1 : b = 1
  ·simp -implicitDefEqProofs only [go_sem,zdQ,zfX,c1]
  by_cases c2 : b = 8
  ·simp -implicitDefEqProofs only [go_sem,zdQ,zfX,c1,c2]
  by_cases c3 : b = 16
  ·simp -implicitDefEqProofs only [go_sem,zdQ,zfX,c1,c2,c3]
  by_cases c4 : b = 32
  ·simp -implicitDefEqProofs only [go_sem,zdQ,zfX,c1,c2,c3,c4]
  by_cases c5 : b = 64 <;> simp -implicitDefEqProofs only [go_sem,zdQ,zfX,c1,c2,c3,c4,c5]
def value (v : Int) : Bool:=decide (1 ≤ v) && decide (v ≤ 1023)
@[go_sem] theorem zxz (v : Int) : call T 253 [vI v] [] = some (vB (value v),[]):=by
  rw [zd (fn:=zhx) rfl]
  by_cases c1 : 1 ≤ v <;> simp -implicitDefEqProofs only [go_sem,zhx,value,c1]
def idxFrom {α : Type} (p : α → Bool) : Nat → List α → Int
 | _,[] => -1
 | k,x :: r => if p x = true then (k : Int) else idxFrom p (k + 1) r
theorem ze4 {α : Type} (p : α → Bool) : ∀ (l : List α) (k : Nat),decide (0 ≤ idxFrom p k l) = l.any p
 | [],_ => by simp [idxFrom]
 | x :: r,k => by
   simp only [idxFrom,yi]
   by_cases h : p x = true
   ·simp [h]
   ·simp [h,ze4 p r (k + 1)]
theorem zkq (l : List (Int)) (p : Int → Bool) (g : Nat) (fst b : List C) (σ : zb) (j : l.length ≤ 4294967296)
  (h : ∀ x ∈ l,call T g (fst.map V.one ++ vI x :: b.map V.one) σ = some (vB (p x),σ)) : ∀ (d k : Nat) (a2 a3 a6 a7 : V),l.length - k = d → k ≤ l.length →
  exec T zaR ⟨[vIs l,.one (.fn g fst b),a2,a3,vI l.length,vI k,a6,a7],σ,σ.length,σ.length⟩ =
   some (if (l.drop k).any p = true then (.ret,⟨[vU,vU,vI (idxFrom p k (l.drop k)),vU,vU,vU,vU,vU],σ,σ.length,σ.length⟩) else (.exit 0,⟨[vU,vU,vU,vU,vU,vU,vU,vU],σ,σ.length,σ.length⟩)):=by
 intro d
 induction d with
 | zero =>
   intro k a2 a3 a6 a7 i f;have a : k = l.length:=(by omega);subst a;rw [xl zaR rfl,zbZ];simp -implicitDefEqProofs only [go_sem,yj,yf]
 | succ d ih =>
   intro k a2 a3 a6 a7 i f;have a : k < l.length:=(by omega);have hd : l.drop k = l[k] :: l.drop (k + 1):=ya a;have c:=h l[k] (yg a);rw [xl zaR rfl,zbZ,hd];cases e : p l[k]
   ·rw [e] at c
    simp -implicitDefEqProofs only [go_sem,ilt a,z6 a,ri,c,e,idxFrom,zf a j];exact ih (k + 1) _ _ _ _ (by omega) (by omega)
   ·rw [e] at c
    simp -implicitDefEqProofs only [go_sem,ilt a,z6 a,ri,c,e,idxFrom]
theorem zaq (l : List (Int)) (p : Int → Bool) (g : Nat) (fst a : List C) (σ : zb) (f : l.length ≤ 4294967296)
  (i : ∀ x ∈ l,call T g (fst.map V.one ++ vI x :: a.map V.one) σ = some (vB (p x),σ)) :
  call T 119 [vIs l,.one (.fn g fst a)] σ = some (vB (l.any p),σ):=by
 have e : call T 169 [vIs l,.one (.fn g fst a)] σ = some (vI (idxFrom p 0 l),σ):=by
  rw [zd (fn:=za7) rfl];have h:=fun a2 a3 a6 a7 => zkq l p g fst a σ f i l.length 0 a2 a3 a6 a7 (by omega) (by omega);simp only [yk,yc] at h
  have d : l.any p = false → idxFrom p 0 l = -1:=fun h => by
   have:=ze4 p l 0;rw [h] at this
   have c : ∀ (l : List (Int)) k,l.any p = false → idxFrom p k l = -1:=by
    intro l
    induction l with
    | nil => exact fun _ _ => rfl
    | cons x r ih =>
      intro k h;simp only [yi,yb] at h;simp only [idxFrom,h.1,yd,if_false];exact ih _ h.2
   exact c l 0 h
  cases b : l.any p
  ·simp -implicitDefEqProofs only [go_sem,b] at h
   simp -implicitDefEqProofs only [go_sem,za7,h,d b]
  ·simp -implicitDefEqProofs only [go_sem,b] at h
   simp -implicitDefEqProofs only [go_sem,za7,h]
 rw [zd (fn:=zbz) rfl];simp -implicitDefEqProofs only [go_sem,zbz,e,ze4]
theorem ziC (l : List (PBlock)) (p : PBlock → Bool) (g : Nat) (fst b : List C) (σ : zb) (j : l.length ≤ 4294967296)
  (h : ∀ x ∈ l,call T g (fst.map V.one ++ zmx x :: b.map V.one) σ = some (vB (p x),σ)) : ∀ (d k : Nat) (a2 a3 a6 a7 : V),l.length - k = d → k ≤ l.length →
  exec T zak ⟨[vL (l.map rb),.one (.fn g fst b),a2,a3,vI l.length,vI k,a6,a7],σ,σ.length,σ.length⟩ =
   some (if (l.drop k).any p = true then (.ret,⟨[vU,vU,vI (idxFrom p k (l.drop k)),vU,vU,vU,vU,vU],σ,σ.length,σ.length⟩) else (.exit 0,⟨[vU,vU,vU,vU,vU,vU,vU,vU],σ,σ.length,σ.length⟩)):=by
 intro d
 induction d with
 | zero =>
   intro k a2 a3 a6 a7 i f;have a : k = l.length:=(by omega);subst a;rw [xl zak rfl,zbt];simp -implicitDefEqProofs only [go_sem,yj,yf]
 | succ d ih =>
   intro k a2 a3 a6 a7 i f;have a : k < l.length:=(by omega);have hd : l.drop k = l[k] :: l.drop (k + 1):=ya a;have c:=h l[k] (yg a);rw [xl zak rfl,zbt,hd];cases e : p l[k]
   ·rw [e] at c
    simp -implicitDefEqProofs only [go_sem,ilt a,z6 a,rb,c,e,idxFrom,zf a j];exact ih (k + 1) _ _ _ _ (by omega) (by omega)
   ·rw [e] at c
    simp -implicitDefEqProofs only [go_sem,ilt a,z6 a,rb,c,e,idxFrom]
theorem zgJ (l : List (PBlock)) (p : PBlock → Bool) (g : Nat) (fst a : List C) (σ : zb) (f : l.length ≤ 4294967296)
  (i : ∀ x ∈ l,call T g (fst.map V.one ++ zmx x :: a.map V.one) σ = some (vB (p x),σ)) :
  call T 153 [vL (l.map rb),.one (.fn g fst a)] σ = some (vB (l.any p),σ):=by
 have e : call T 193 [vL (l.map rb),.one (.fn g fst a)] σ = some (vI (idxFrom p 0 l),σ):=by
  rw [zd (fn:=zav) rfl];have h:=fun a2 a3 a6 a7 => ziC l p g fst a σ f i l.length 0 a2 a3 a6 a7 (by omega) (by omega);simp only [yk,yc] at h
  have d : l.any p = false → idxFrom p 0 l = -1:=fun h => by
   have:=ze4 p l 0;rw [h] at this
   have c : ∀ (l : List (PBlock)) k,l.any p = false → idxFrom p k l = -1:=by
    intro l
    induction l with
    | nil => exact fun _ _ => rfl
    | cons x r ih =>
      intro k h;simp only [yi,yb] at h;simp only [idxFrom,h.1,yd,if_false];exact ih _ h.2
   exact c l 0 h
  cases b : l.any p
  ·simp -implicitDefEqProofs only [go_sem,b] at h
   simp -implicitDefEqProofs only [go_sem,zav,h,d b]
  ·simp -implicitDefEqProofs only [go_sem,b] at h
   simp -implicitDefEqProofs only [go_sem,zav,h]
 rw [zd (fn:=zaV) rfl];simp -implicitDefEqProofs only [go_sem,zaV,e,ze4]
theorem zjZ (l : List (PPhi)) (p : PPhi → Bool) (g : Nat) (fst b : List C) (σ : zb) (j : l.length ≤ 4294967296)
  (h : ∀ x ∈ l,call T g (fst.map V.one ++ zCJ x :: b.map V.one) σ = some (vB (p x),σ)) : ∀ (d k : Nat) (a2 a3 a6 a7 : V),l.length - k = d → k ≤ l.length →
  exec T zaS ⟨[vL (l.map rp),.one (.fn g fst b),a2,a3,vI l.length,vI k,a6,a7],σ,σ.length,σ.length⟩ =
   some (if (l.drop k).any p = true then (.ret,⟨[vU,vU,vI (idxFrom p k (l.drop k)),vU,vU,vU,vU,vU],σ,σ.length,σ.length⟩) else (.exit 0,⟨[vU,vU,vU,vU,vU,vU,vU,vU],σ,σ.length,σ.length⟩)):=by
 intro d
 induction d with
 | zero =>
   intro k a2 a3 a6 a7 i f;have a : k = l.length:=(by omega);subst a;rw [xl zaS rfl,zbX];simp -implicitDefEqProofs only [go_sem,yj,yf]
 | succ d ih =>
   intro k a2 a3 a6 a7 i f;have a : k < l.length:=(by omega);have hd : l.drop k = l[k] :: l.drop (k + 1):=ya a;have c:=h l[k] (yg a);rw [xl zaS rfl,zbX,hd];cases e : p l[k]
   ·rw [e] at c
    simp -implicitDefEqProofs only [go_sem,ilt a,z6 a,rp,c,e,idxFrom,zf a j];exact ih (k + 1) _ _ _ _ (by omega) (by omega)
   ·rw [e] at c
    simp -implicitDefEqProofs only [go_sem,ilt a,z6 a,rp,c,e,idxFrom]
theorem zhG (l : List (PPhi)) (p : PPhi → Bool) (g : Nat) (fst a : List C) (σ : zb) (f : l.length ≤ 4294967296)
  (i : ∀ x ∈ l,call T g (fst.map V.one ++ zCJ x :: a.map V.one) σ = some (vB (p x),σ)) :
  call T 199 [vL (l.map rp),.one (.fn g fst a)] σ = some (vB (l.any p),σ):=by
 have e : call T 234 [vL (l.map rp),.one (.fn g fst a)] σ = some (vI (idxFrom p 0 l),σ):=by
  rw [zd (fn:=za2) rfl];have h:=fun a2 a3 a6 a7 => zjZ l p g fst a σ f i l.length 0 a2 a3 a6 a7 (by omega) (by omega);simp only [yk,yc] at h
  have d : l.any p = false → idxFrom p 0 l = -1:=fun h => by
   have:=ze4 p l 0;rw [h] at this
   have c : ∀ (l : List (PPhi)) k,l.any p = false → idxFrom p k l = -1:=by
    intro l
    induction l with
    | nil => exact fun _ _ => rfl
    | cons x r ih =>
      intro k h;simp only [yi,yb] at h;simp only [idxFrom,h.1,yd,if_false];exact ih _ h.2
   exact c l 0 h
  cases b : l.any p
  ·simp -implicitDefEqProofs only [go_sem,b] at h
   simp -implicitDefEqProofs only [go_sem,za2,h,d b]
  ·simp -implicitDefEqProofs only [go_sem,b] at h
   simp -implicitDefEqProofs only [go_sem,za2,h]
 rw [zd (fn:=zbu) rfl];simp -implicitDefEqProofs only [go_sem,zbu,e,ze4]
theorem zk5 (l : List (POp)) (p : POp → Bool) (g : Nat) (fst b : List C) (σ : zb) (j : l.length ≤ 4294967296)
  (h : ∀ x ∈ l,call T g (fst.map V.one ++ vOp x :: b.map V.one) σ = some (vB (p x),σ)) : ∀ (d k : Nat) (a2 a3 a6 a7 : V),l.length - k = d → k ≤ l.length →
  exec T za5 ⟨[vL (l.map ro),.one (.fn g fst b),a2,a3,vI l.length,vI k,a6,a7],σ,σ.length,σ.length⟩ =
   some (if (l.drop k).any p = true then (.ret,⟨[vU,vU,vI (idxFrom p k (l.drop k)),vU,vU,vU,vU,vU],σ,σ.length,σ.length⟩) else (.exit 0,⟨[vU,vU,vU,vU,vU,vU,vU,vU],σ,σ.length,σ.length⟩)):=by
 intro d
 induction d with
 | zero =>
   intro k a2 a3 a6 a7 i f;have a : k = l.length:=(by omega);subst a;rw [xl za5 rfl,zco];simp -implicitDefEqProofs only [go_sem,yj,yf]
 | succ d ih =>
   intro k a2 a3 a6 a7 i f;have a : k < l.length:=(by omega);have hd : l.drop k = l[k] :: l.drop (k + 1):=ya a;have c:=h l[k] (yg a);rw [xl za5 rfl,zco,hd];cases e : p l[k]
   ·rw [e] at c
    simp -implicitDefEqProofs only [go_sem,ilt a,z6 a,ro,c,e,idxFrom,zf a j];exact ih (k + 1) _ _ _ _ (by omega) (by omega)
   ·rw [e] at c
    simp -implicitDefEqProofs only [go_sem,ilt a,z6 a,ro,c,e,idxFrom]
theorem ziF (l : List (POp)) (p : POp → Bool) (g : Nat) (fst a : List C) (σ : zb) (f : l.length ≤ 4294967296)
  (i : ∀ x ∈ l,call T g (fst.map V.one ++ vOp x :: a.map V.one) σ = some (vB (p x),σ)) :
  call T 201 [vL (l.map ro),.one (.fn g fst a)] σ = some (vB (l.any p),σ):=by
 have e : call T 235 [vL (l.map ro),.one (.fn g fst a)] σ = some (vI (idxFrom p 0 l),σ):=by
  rw [zd (fn:=zbm) rfl];have h:=fun a2 a3 a6 a7 => zk5 l p g fst a σ f i l.length 0 a2 a3 a6 a7 (by omega) (by omega);simp only [yk,yc] at h
  have d : l.any p = false → idxFrom p 0 l = -1:=fun h => by
   have:=ze4 p l 0;rw [h] at this
   have c : ∀ (l : List (POp)) k,l.any p = false → idxFrom p k l = -1:=by
    intro l
    induction l with
    | nil => exact fun _ _ => rfl
    | cons x r ih =>
      intro k h;simp only [yi,yb] at h;simp only [idxFrom,h.1,yd,if_false];exact ih _ h.2
   exact c l 0 h
  cases b : l.any p
  ·simp -implicitDefEqProofs only [go_sem,b] at h
   simp -implicitDefEqProofs only [go_sem,zbm,h,d b]
  ·simp -implicitDefEqProofs only [go_sem,b] at h
   simp -implicitDefEqProofs only [go_sem,zbm,h]
 rw [zd (fn:=zbE) rfl];simp -implicitDefEqProofs only [go_sem,zbE,e,ze4]
theorem zjj (l : List (List Int)) (p : List Int → Bool) (g : Nat) (fst b : List C) (σ : zb) (j : l.length ≤ 4294967296)
  (h : ∀ x ∈ l,call T g (fst.map V.one ++ vIs x :: b.map V.one) σ = some (vB (p x),σ)) : ∀ (d k : Nat) (a2 a3 a6 a7 : V),l.length - k = d → k ≤ l.length →
  exec T zay ⟨[vLs l,.one (.fn g fst b),a2,a3,vI l.length,vI k,a6,a7],σ,σ.length,σ.length⟩ =
   some (if (l.drop k).any p = true then (.ret,⟨[vU,vU,vI (idxFrom p k (l.drop k)),vU,vU,vU,vU,vU],σ,σ.length,σ.length⟩) else (.exit 0,⟨[vU,vU,vU,vU,vU,vU,vU,vU],σ,σ.length,σ.length⟩)):=by
 intro d
 induction d with
 | zero =>
   intro k a2 a3 a6 a7 i f;have a : k = l.length:=(by omega);subst a;rw [xl zay rfl,zbI];simp -implicitDefEqProofs only [go_sem,yj,yf]
 | succ d ih =>
   intro k a2 a3 a6 a7 i f;have a : k < l.length:=(by omega);have hd : l.drop k = l[k] :: l.drop (k + 1):=ya a;have c:=h l[k] (yg a);rw [xl zay rfl,zbI,hd];cases e : p l[k]
   ·rw [e] at c
    simp -implicitDefEqProofs only [go_sem,ilt a,z6 a,rl,c,e,idxFrom,zf a j];exact ih (k + 1) _ _ _ _ (by omega) (by omega)
   ·rw [e] at c
    simp -implicitDefEqProofs only [go_sem,ilt a,z6 a,rl,c,e,idxFrom]
theorem zg2 (l : List (List Int)) (p : List Int → Bool) (g : Nat) (fst a : List C) (σ : zb) (f : l.length ≤ 4294967296)
  (i : ∀ x ∈ l,call T g (fst.map V.one ++ vIs x :: a.map V.one) σ = some (vB (p x),σ)) :
  call T 178 [vLs l,.one (.fn g fst a)] σ = some (vB (l.any p),σ):=by
 have e : call T 227 [vLs l,.one (.fn g fst a)] σ = some (vI (idxFrom p 0 l),σ):=by
  rw [zd (fn:=zaK) rfl];have h:=fun a2 a3 a6 a7 => zjj l p g fst a σ f i l.length 0 a2 a3 a6 a7 (by omega) (by omega);simp only [yk,yc] at h
  have d : l.any p = false → idxFrom p 0 l = -1:=fun h => by
   have:=ze4 p l 0;rw [h] at this
   have c : ∀ (l : List (List Int)) k,l.any p = false → idxFrom p k l = -1:=by
    intro l
    induction l with
    | nil => exact fun _ _ => rfl
    | cons x r ih =>
      intro k h;simp only [yi,yb] at h;simp only [idxFrom,h.1,yd,if_false];exact ih _ h.2
   exact c l 0 h
  cases b : l.any p
  ·simp -implicitDefEqProofs only [go_sem,b] at h
   simp -implicitDefEqProofs only [go_sem,zaK,h,d b]
  ·simp -implicitDefEqProofs only [go_sem,b] at h
   simp -implicitDefEqProofs only [go_sem,zaK,h]
 rw [zd (fn:=za9) rfl];simp -implicitDefEqProofs only [go_sem,za9,e,ze4]
attribute [go_sem] V.beq C.beq C.beqs Fz.beq Fz.beqR Value.beq
def zA5 (v b : Int) : Int:=if zfX b = true then v % 2 ^ b.toNat else 0
theorem zbM {b : Int} (h : zfX b = true) : b = 1 ∨ b = 8 ∨ b = 16 ∨ b = 32 ∨ b = 64:=by
 simp only [zfX,yn,decide_eq_true_eq] at h;omega
theorem zvI (n : Int) : Go.IntKind.u64.wrap n = n % 18446744073709551616:=by
 unfold Go.IntKind.wrap Go.IntKind.bits Go.IntKind.signed;simp
@[go_sem] theorem zp9 (v b : Int) (i : 0 ≤ v) (j : v < 18446744073709551616) : call T 259 [zge v,vI b] [] = some (zge (zA5 v b),[]):=by
  rw [zd (fn:=zh6) rfl];cases hm : zfX b
  ·simp -implicitDefEqProofs only [go_sem,zh6,zA5,hm]
  ·have g : Go.IntKind.i64.wrap (64 - 1) = 63:=by decide
   have e : Go.IntKind.i64.wrap (64 - 8) = 56:=(by decide);have d : Go.IntKind.i64.wrap (64 - 16) = 48:=(by decide);have c : Go.IntKind.i64.wrap (64 - 32) = 32:=(by decide);have a : Go.IntKind.i64.wrap (64 - 64) = 0:=(by decide);have h : Go.IntKind.u64.bits = 64:=rfl;rcases zbM hm with rfl | rfl | rfl | rfl | rfl
   all_goals
    simp -implicitDefEqProofs only [yq] at g e d c a;simp -implicitDefEqProofs only [go_sem,zh6,zA5,hm,g,e,d,c,a,h,zvI,Option.some.injEq,Prod.mk.injEq,V.one.injEq,C.f.injEq,Fz.lit.injEq,Value.int.injEq];simp
    try (rw [Int.fdiv_eq_ediv_of_nonneg _ (by omega)]; omega)
def zmE (l : Int) : Bool:=decide (l = 2) || decide (l = 4) || decide (l = 8) || decide (l = 16)
def zdl (b l : Int) : Bool:=zfX b && (decide (l = 1) || (zmE l && (decide (8 ≤ b) && decide (b * l ≤ 128))))
theorem zgS {l : Int} (h : zmE l = true) : l = 2 ∨ l = 4 ∨ l = 8 ∨ l = 16:=by
 simp only [zmE,yn,decide_eq_true_eq] at h;omega
theorem zeg {b l : Int} (h : zdl b l = true) : zfX b = true ∧ (l = 1 ∨ l = 2 ∨ l = 4 ∨ l = 8 ∨ l = 16):=by
 simp only [zdl,ye,yn,decide_eq_true_eq] at h;refine ⟨h.1,?_⟩;rcases h.2 with h | h
 ·exact .inl h
 ·have:=zgS h.1
  omega
@[go_sem] theorem zyj (b l : Int) : call T 251 [vI b,vI l] [] = some (vB (zdl b l),[]):=by
  rw [zd (fn:=zcA) rfl];cases hm : zfX b
  ·simp -implicitDefEqProofs only [go_sem,zcA,zdl,hm]
  by_cases c1 : l = 1
  ·simp -implicitDefEqProofs only [go_sem,zcA,zdl,hm,c1]
  cases a : zmE l
  ·have c:=a
   simp only [zmE,yb,decide_eq_false_iff_not] at c;obtain ⟨⟨⟨c2,c3⟩,c4⟩,c5⟩:=c;simp -implicitDefEqProofs only [go_sem,zcA,zdl,hm,c1,c2,c3,c4,c5,a]
  ·by_cases c8 : 8 ≤ b
   ·have e:=zbM hm
    rcases zgS a with rfl | rfl | rfl | rfl
    all_goals
     have g : Go.IntKind.i64.wrap (b * 2) = b * 2:=wrap_i64 (by omega) (by omega);have h : Go.IntKind.i64.wrap (b * 4) = b * 4:=wrap_i64 (by omega) (by omega);have f : Go.IntKind.i64.wrap (b * 8) = b * 8:=wrap_i64 (by omega) (by omega);have d : Go.IntKind.i64.wrap (b * 16) = b * 16:=wrap_i64 (by omega) (by omega);simp -implicitDefEqProofs only [go_sem,zcA,zdl,hm,c1,a,c8,g,h,f,d]
   ·rcases zgS a with rfl | rfl | rfl | rfl
    all_goals simp -implicitDefEqProofs only [go_sem,zcA,zdl,hm,c1,a,c8]
def zdz (k : Int) : Bool:=decide (k = 17) || decide (k = 19)
@[go_sem] theorem zvH (k : Int) : call T 237 [vI k] [] = some (vB (zdz k),[]):=by
  rw [zd (fn:=zgi) rfl]
  by_cases c1 : k = 17 <;> simp -implicitDefEqProofs only [go_sem,zgi,zdz,c1]
@[go_sem] theorem zzX (l : List (List Fz)) : call T 260 [vL l] [] = some (vL l,[]):=by
  rw [zd (fn:=zkV) rfl];simp -implicitDefEqProofs only [go_sem,zkV]
theorem zh8 {n f : Nat} {args : List V} {r : V × zb} (h : zdJ T (zG T n) f args [] = some r) : call T f args [] = some r:=zlc T n _ _ _ _ h
set_option maxRecDepth 100000 in
theorem zlL (s : Int × Int) (l : Int) (h : l = 1 ∨ l = 2 ∨ l = 4 ∨ l = 8 ∨ l = 16) : call T 261 [vL [rs s],vI l] [] = some (vL (List.replicate l.toNat (rs s)),[]):=by
 rcases h with rfl | rfl | rfl | rfl | rfl
 ·exact zh8 (n:=200) (by kernel_rfl)
 ·exact zh8 (n:=200) (by kernel_rfl)
 ·exact zh8 (n:=200) (by kernel_rfl)
 ·exact zh8 (n:=200) (by kernel_rfl)
 ·exact zh8 (n:=200) (by kernel_rfl)
end AC
