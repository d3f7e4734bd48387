/- A part of the proof of SchedBack. Conditions: none. -/
import Derived.Test.YtmkncmffaaninaaGreatBAP
import Derived.Test.YtmkncmffaaninaaGreatBAQ
import Derived.KernelRfl
set_option linter.unusedVariables false
set_option linter.unusedSimpArgs false
set_option linter.unusedSectionVars false
open List renaming drop_eq_getElem_cons → ya,drop_length → yf,getElem_mem → yg,any_cons → yi,drop_zero → yk,getElem?_cons_zero → ym
open Bool renaming or_eq_false_iff → yb,false_eq_true → yd,and_eq_true → ye,not_eq_true' → yl,or_eq_true → yn
open Int renaming natCast_zero → yc,lt_irrefl → yj,reduceSub → yp
open Option renaming bind_eq_some_iff → yh
open Nat renaming add_assoc → yo,add_comm → yq,le_refl → yr
namespace Go.A
def zzY (P : Program) (CD : Draws) (n : Nat) (fn : Fun) : Prop := ∃ gf κ, P.funcs[n]? = some gf ∧ (gf.name == "runtime.NumGoroutine") = false ∧ zsN P CD κ gf fn = true
def zv7 (Q : Nat → Fun → Prop) : Nat → List (Option Fun) → Prop
 | _,[] => True
 | b,none :: r => zv7 Q (b + 1) r
 | b,some f :: r => Q b f ∧ zv7 Q (b + 1) r
def zsf (Q : Nat → Fun → Prop) : Nat → List (List (Option Fun)) → Prop
 | _,[] => True
 | b,r :: rs => zv7 Q b r ∧ zsf Q (b + 16) rs
def zzF : Nat → Nat → Nat → List Nat
 | 0,_,_ => []
 | n + 1,w,i => if w % 2 = 1 then i :: zzF n (w / 2) (i + 1) else zzF n (w / 2) (i + 1)
def zsa (P : Program) (CD : Draws) : Nat → List (Option (Nat × Fun)) → Bool
 | _,[] => true
 | b,none :: r => zsa P CD (b + 1) r
 | b,some x :: r => (match P.funcs[b]? with
   | some gf => !(gf.name == "runtime.NumGoroutine") && zsN P CD (zzF (Nat.log2 x.1 + 1) x.1 0) gf x.2
   | none => false) && zsa P CD (b + 1) r
def bare (r : List (Option (Nat × Fun))) : List (Option Fun):=r.map fun x => x.map fun y => y.2
theorem zaD {P : Program} {CD : Draws} : ∀ (r : List (Option (Nat × Fun))) (b : Nat),zsa P CD b r = true → zv7 (zzY P CD) b (bare r)
 | [],_,_ => trivial
 | none :: r,b,h => zaD r (b + 1) h
 | some x :: r,b,h => by
   simp only [zsa,ye] at h
   refine ⟨?_,zaD r (b + 1) h.2⟩
   have h1:=h.1
   split at h1
   ·rename_i gf hg
    simp only [ye,yl] at h1
    exact ⟨gf,_,hg,h1.1,h1.2⟩
   ·cases h1
theorem zoW {Q : Nat → Fun → Prop} : ∀ (r : List (Option Fun)) (b : Nat),zv7 Q b r → ∀ (j : Nat) (f : Fun),r[j]? = some (some f) → Q (b + j) f
 | [],_,_,_,_,h => by simp at h
 | none :: r,b,hr,0,f,h => by simp at h
 | some g :: r,b,hr,0,f,h => by
   simp only [ym,Option.some.injEq] at h
   subst h
   exact hr.1
 | none :: r,b,hr,j + 1,f,h => by
   have:=zoW r (b + 1) hr j f (by simpa using h)
   rwa [yo,yq 1 j] at this
 | some g :: r,b,hr,j + 1,f,h => by
   have:=zoW r (b + 1) hr.2 j f (by simpa using h)
   rwa [yo,yq 1 j] at this
theorem zqt {Q : Nat → Fun → Prop} : ∀ (rs : List (List (Option Fun))) (b : Nat),zsf Q b rs → ∀ (i j : Nat) (r : List (Option Fun)) (f : Fun),rs[i]? = some r → r[j]? = some (some f) → Q (b + 16 * i + j) f
 | [],_,_,_,_,_,_,h,_ => by simp at h
 | x :: rs,b,hr,0,j,r,f,h,h' => by
   simp only [ym,Option.some.injEq] at h
   subst h
   exact zoW x b hr.1 j f h'
 | x :: rs,b,hr,i + 1,j,r,f,h,h' => by
   have:=zqt rs (b + 16) hr.2 i j r f (by simpa using h) h'
   have e : b + 16 + 16 * i + j = b + 16 * (i + 1) + j:=by omega
   rwa [e] at this
theorem zAD {rows : List (List (Option Fun))} {n : Nat} {f : Fun} (h : zrV rows n = some (.fn f)) : ∃ r,rows[n / 16]? = some r ∧ r[n % 16]? = some (some f):=by
 unfold zrV at h
 cases hr : rows[n / 16]? with
 | none => simp [hr,zkr] at h
 | some r =>
   refine ⟨r,rfl,?_⟩
   rw [hr,Option.bind_some] at h
   cases hx : r[n % 16]? with
   | none => simp [hx,zkr] at h
   | some o =>
     cases o with
     | none => simp [hx,zkr] at h
     | some g => simpa [hx,zkr] using h
theorem zvx {rows : List (List (Option Fun))} {n : Nat} {g : List V → zb → Option (V × zb)} : zrV rows n ≠ some (.ext g):=by
 unfold zrV zkr
 split <;> simp
theorem zw8 {P : Program} {CD : Draws} {rows : List (List (Option Fun))} (h : zsf (zzY P CD) 0 rows) : ztI P CD (zrV rows):=fun n => by
 refine ⟨fun fn hf => ?_,fun ext he => absurd he zvx⟩
 obtain ⟨r,h1,h2⟩:=zAD hf
 have h3:=zqt rows 0 h (n / 16) (n % 16) r fn h1 h2
 have e : 0 + 16 * (n / 16) + n % 16 = n:=by omega
 rw [e] at h3
 exact h3
theorem zjx {P : Program} {CD : Draws} {k : Nat} {g : List V → zb → Option (V × zb)} {T : Nat → Option Entry}
  (hg : ∀ args σ v σ',g args σ = some (v,σ') → Enters P k ∧ ∀ gg w us,Rel gg w σ → zv gg w σ args us → Calls P k us.toArray w fun e w' => ∃ u g',e = .returned u ∧ zf g' w' σ' v u ∧ Rel g' w' σ' ∧ Ext gg w σ g' w' σ')
  (hT : ztI P CD T) : ztI P CD fun n => if n = k then some (.ext g) else T n:=fun n => by
 by_cases hn : n = k
 ·subst hn
  refine ⟨fun fn hf => ?_,fun ext he => ?_⟩
  ·simp at hf
  ·simp only [if_true,Option.some.injEq,Entry.ext.injEq] at he
   subst he
   exact hg
 ·have:=hT n
  simpa only [if_neg hn] using this
end Go.A
namespace Go.A
def zfy (sz : Nat) : List V → zb → Option (V × zb)
 | [.one (.f (.sl xs))],σ => if xs ≠ [] ∧ zjY sz xs = true ∧ xs.length ≤ LIM then some (.one (.own σ.length 0 0 xs.length),σ ++ [.cells 0 sz (xs.map fun e => e.map C.f)]) else none
 | _,_ => none
end Go.A
namespace Go.A
section
variable {P : Program} {CD : Draws}
theorem zyl {f : Nat} {gf : Func} (hgf : P.funcs[f]? = some gf) (hname : (gf.name == "runtime.NumGoroutine") = false) {fn1 fn2 : Fun} {c0 c1 c2 : Code} (e1 : fn1.body = .seq c0 c1) (e2 : fn2.body = .seq c0 c2) (same : fn1.np = fn2.np ∧ fn1.nslots = fn2.nslots ∧ fn1.keep = fn2.keep) (hc : zkS P CD [0, 2] gf fn1 fn2 = true) :
  Enters P f ∧ ∃ i0 i1 r0 o1 o2 ga gb t3 t4 ty ty' ty'',TwoOk P CD [0,2] gf fn1 fn2 c0 c1 c2 i0 i1 r0 o1 o2 ga gb t3 t4 ty ty' ty'':=by
 unfold zkS at hc
 split at hc
 ·rename_i i0 r0 i1 o1 o2 t4 ga gb c0' c1' c0'' c2' hb hb1 hb2
  rw [e1] at hb1
  rw [e2] at hb2
  simp only [ye,beq_iff_eq,bne_iff_ne,ne_eq,yl,decide_eq_true_eq] at hc
  obtain ⟨⟨⟨⟨⟨⟨⟨⟨⟨⟨⟨⟨⟨⟨⟨⟨h1,h1'⟩,h2⟩,h3⟩,h4⟩,h5⟩,h6⟩,h7⟩,h8⟩,h9⟩,h10⟩,h11⟩,h12⟩,h13⟩,h14⟩,h15⟩,h16⟩:=hc
  split at h4
  ·rename_i t3 ht3
   simp only [ye,bne_iff_ne,ne_eq,yl,decide_eq_true_eq] at h4
   obtain ⟨⟨⟨h4,hne⟩,hk3⟩,hl3⟩:=h4
   obtain ⟨k1,k2⟩:=ziq h4
   injection hb1 with q1 q2
   injection hb2 with q3 q4
   subst q1 q2 q4
   refine ⟨⟨gf,_,hgf,hname,hb⟩,?_⟩
   obtain ⟨te,hte⟩ : ∃ te,P.underlying (zwV o2).1 = some (.slice te):=by
    unfold zmy at h8
    split at h8
    ·rename_i te hte; exact ⟨te,hte⟩
    ·cases h8
   exact ⟨i0,i1,r0,o1,o2,ga,gb,t3,t4,(zwV o2).1,(zwV o2).2,te,hb,e1,e2,h1,h2,h3,k1,k2,hne,⟨hk3,hl3⟩,⟨h5,h6⟩,h7,hte,h9,h10,same,h11,h12,h13,h14,h15,h16⟩
  ·cases h4
 ·cases hc
end
end Go.A
namespace Go.A
section
variable {P : Program} {CD : Draws} {κ : List Tmp}
theorem ztU (hD : DrawOk P CD) {f : Nat} {gf : Func} {fn1 fn2 : Fun} {c0 c1 c2 : Code} {i0 i1 : Nat} {r0 : Array Go.Oper} {o1 o2 : Go.Oper} {ga gb : Go.Code} {t3 t4 ty ty' ty'' : Nat} (hgf : P.funcs[f]? = some gf) (T : TwoOk P CD κ gf fn1 fn2 c0 c1 c2 i0 i1 r0 o1 o2 ga gb t3 t4 ty ty' ty'')
  {va : V} {E : Prop} {σ : zb} {v : V} {σ' : zb} {n0 n2 : Nat} {s0 s2 : St} {e2 : Ex} (h0 : zD zhr n0 c0 (enter fn2 [va] σ) = some (.normal,s0)) (h0e : s0.env.getD 0 vun = va) (hsl : ∀ g' w' u,Rel g' w' s0.st → zf g' w' s0.st va u → ∃ ad n c,u = .slice ad n c ∧ (ad = none → E)) (h2 : zD zhr n2 c2 s0 = some (e2,s2)) (l2 : leave fn2.raw fn2.results (e2,s2) = some (v,σ'))
  (h1 : E → ∃ n1 s1,zD zhr n1 c1 s0 = some (.ret,s1) ∧ leave fn1.raw fn1.results (.ret,s1) = some (v,σ')) (hnp : fn2.np = 1) {g : G} {w : World} {us : List Value} (R0 : Rel g w σ) (hv : zv g w σ [va] us) :
  Calls P f us.toArray w fun e w' => ∃ u g',e = .returned u ∧ zf g' w' σ' v u ∧ Rel g' w' σ' ∧ Ext g w σ g' w' σ':=by
 have hA:=ziH (gf:=gf) (fn:=fn2) R0 hv T.nd T.all T.len T.np T.np2 T.hd (by rw [hnp]; rfl)
 have hall:=fun n => zlu (P:=P) (CD:=CD) (T:=zhr) (g0:=g.clean σ.length) (w0:=w) (σ0:=σ) (κ:=κ) (nt:=gf.ntmps) hD (zdx g σ.length) n fun m _ => zmh m
 have hb0:=zb3 zhr n0 _ _ _ _ h0
 have hfin : ∀ (fn : Fun) (e : Ex) (s : St),zgD P κ gf.results.toList fn.results = true → leave fn.raw fn.results (e,s) = some (v,σ') → s.lim = (enter fn2 [va] σ).lim → ∀ x a' w',zyF (g.clean σ.length) w σ κ gf.ntmps e s x a' w' →
   bodyPost P gf (fun e w' => ∃ u g',e = .returned u ∧ zf g' w' σ' v u ∧ Rel g' w' σ' ∧ Ext g w σ g' w' σ') x a' w' ∧ x = ziu e:=fun fn e s hok hleave hlim x a' w' hx => by
  obtain ⟨rfl,g',A'⟩:=hx
  obtain ⟨q1,q2,u,q3,g2,q4,q5,q6⟩:=ziL (fn:=fn) (gf:=gf) (zdx g σ.length) (by rw [hlim]; exact Nat.le_add_right _ _) hok hleave A'
  have hend : a'.defers = [] ∧ ∃ v1,(results gf a'.tmps).run P w' = .ok v1 w' ∧ ∃ u g',(Ending.returned v1) = .returned u ∧ zf g' w' σ' v u ∧ Rel g' w' σ' ∧ Ext g w σ g' w' σ' :=
   ⟨q2,u,q3,u,G.under g w g2,rfl,zeG (g:=g2) (g':=G.under g w g2) rfl rfl rfl _ _ q4,zmr q6 q5,zma q6⟩
  rcases q1 with rfl | rfl
  ·exact ⟨hend,rfl⟩
  ·exact ⟨hend,rfl⟩
 refine calls_of_wp hgf T.body (wp_seq (wp_mono ((hall n0).1 _ c0 _ .normal s0 T.k0 h0 _ _ _ (yr _) hA) fun x a1 w1 hx => ?_))
 obtain ⟨rfl,g1,A1⟩:=hx
 show Exit.then _ _ .normal a1 w1
 simp only [Exit.then]
 have hsz:=A1.fr.size
 have hu:=A1.fr.env 0 0 T.arg
 simp only [h0e] at hu
 obtain ⟨ad,n,c,hu,hnil⟩:=hsl _ _ _ A1.rel hu
 refine wp_seq (wp_seq (zil ?_))
 refine zo9 (o:=o1) rfl T.e1.1 T.e1.2.1 T.f3 (zp6 (.inr T.e1.2.2) hu) fun a2 P2 => ?_
 refine zo9 (o:=o2) (u:=.bool ad.isNone) (w':=w1) rfl T.e2.1 T.e2.2.1 T.f4 ?_ fun a3 P3 => ?_
 ·unfold execOp
  simp only [T.e2.2.2,zpo,P2.val hsz,Act.eval]
  simp [eqGuard,Lib.run_eql_slice_nil w1 ty ty'' ad n c 0 0 T.ty]
 show Exit.then _ _ .normal a3 w1
 simp only [Exit.then]
 have A3 : At' (g.clean σ.length) w σ κ gf.ntmps g1 w1 s0 a3:=⟨A1.ext,A1.rel,P3.fr (P2.fr A1.fr)⟩
 have hle : σ.length ≤ s0.base:=by rw [hb0.1]; exact yr _
 cases ad with
 | none =>
   have hxs:=hnil rfl
   obtain ⟨n1,s1,h1a,h1b⟩:=h1 hxs
   have hb1:=zb3 zhr n1 _ _ _ _ h1a
   refine wp_cond_true (P3.val (P2.size hsz)) (wp_mono ((hall n1).1 ga c1 s0 .ret s1 T.k1 h1a _ _ _ hle A3) fun x a4 w4 hx => ?_)
   obtain ⟨k1,k2⟩:=hfin fn1 .ret s1 T.q1 h1b (by rw [hb1.2,hb0.2]) x a4 w4 hx
   subst k2
   simp only [ziu,Exit.then]
   exact k1
 | some ad =>
   have hb2:=zb3 zhr n2 _ _ _ _ h2
   refine wp_cond_false (P3.val (P2.size hsz)) (wp_skip ?_)
   simp only [Exit.then]
   exact wp_mono ((hall n2).1 gb c2 s0 e2 s2 T.k2 h2 _ _ _ hle A3) fun x a4 w4 hx => (hfin fn2 e2 s2 T.q2 l2 (by rw [hb2.2,hb0.2]) x a4 w4 hx).1
def zoG (sz : Nat) (σ : zb) (xs : List (List Fz)) : Option (V × zb):=if zjY sz xs = true ∧ xs.length ≤ LIM ∧ 0 < xs.length ∧ Obs.lt σ.length σ = true then some (vsl xs,σ) else none
def zrt (sz : Nat) (σ : zb) (xs : List (List Fz)) : Option (V × zb):=if zjY sz xs = true ∧ xs.length ≤ LIM ∧ Obs.lt σ.length σ = true then some (vsl xs,σ) else none
def zfq (sz : Nat) : List V → zb → Option (V × zb)
 | [.one (.own id ver lo n)],σ => (elems σ (.one (.own id ver lo n))).bind (zoG sz σ)
 | [.one (.f (.sl xs))],o :: σ => zrt sz (o :: σ) xs
 | aS,σ => zlt sz aS σ
def zB9 (va : V) (xs : List (List Fz)) : Prop:=va = vsl xs ∨ (∃ id ver lo n,va = .one (.own id ver lo n)) ∧ 0 < xs.length
theorem ztJ {g : G} {w : World} {σ : zb} {va : V} {xs : List (List Fz)} {u : Value} (h : zB9 va xs) (hel : elems σ va = some xs) (hv : zf g w σ va u) : ∃ ad n c,u = .slice ad n c ∧ (ad = none → xs = []):=by
 rcases h with rfl | ⟨⟨id,ver,lo,n,rfl⟩,hpos⟩
 ·simp only [vsl,zf,zr,rep] at hv
  obtain ⟨ad,c,sz,hu,_,_,hnil⟩:=hv
  refine ⟨ad,_,c,hu,fun e => ?_⟩
  rcases hnil with h | ⟨b,o,h,_⟩
  ·exact h
  ·rw [e] at h; cases h
 ·simp only [zf,zr] at hv
  obtain ⟨ver0,sz,len,hs,hle,hown,ad0,c0,hu0⟩:=hv
  simp only [elems,yh] at hel
  obtain ⟨ob,ho,hf⟩:=hel
  unfold Ob.frz at hf
  split at hf
  ·rename_i ver' sz' es
   split at hf
   ·rename_i hver
    subst hver
    have hs' : shapeOf σ id = some (ver',sz',es.length):=by simp [shapeOf,ho,Ob.shape]
    rw [hs'] at hs
    simp only [Option.some.injEq,Prod.mk.injEq] at hs
    obtain ⟨rfl,rfl,rfl⟩:=hs
    obtain ⟨a,c,hu,hnc,hl0,hl1⟩:=hown rfl
    refine ⟨a,n,c,hu,fun e => ?_⟩
    have hlen : xs.length ≤ n:=by
     have:=(zcr hf).1
     rw [this]
     simp
     omega
    have hc : c ≠ 0:=by omega
    have hle : es.length ≠ 0:=fun h => hc (hl0 h)
    obtain ⟨_,ha,_⟩:=hl1 hle
    have:=ha hc
    rw [e] at this
    cases this
   ·cases hf
  ·cases hf
theorem znF (hD : DrawOk P CD) {f : Nat} {gf : Func} {sz : Nat} (hgf : P.funcs[f]? = some gf) (hname : (gf.name == "runtime.NumGoroutine") = false) (hc : zkS P CD [0, 2] gf zd1 (zdk sz) = true)
  (va : V) (xs : List (List Fz)) (σ : zb) (hel : ∀ o,elems (σ ++ o) va = some xs) (hk : zB9 va xs) (hok : zjY sz xs = true ∧ xs.length ≤ LIM ∧ Obs.lt σ.length σ = true) :
  Enters P f ∧ ∀ g w us,Rel g w σ → zv g w σ [va] us → Calls P f us.toArray w fun e w' => ∃ u g',e = .returned u ∧ zf g' w' σ (vsl xs) u ∧ Rel g' w' σ ∧ Ext g w σ g' w' σ:=by
 obtain ⟨hE,i0,i1,r0,o1,o2,ga,gb,t3,t4,ty,ty',ty'',T⟩:=zyl (fn1:=zd1) (fn2:=zdk sz) (c0:=zkw) (c1:=zmg) (c2:=zl0 sz) hgf hname rfl rfl ⟨rfl,rfl,rfl⟩ hc
 refine ⟨hE,fun g w us R0 hv => ?_⟩
 have hel0:=hel []
 have hel1:=hel [.tok sz [0]]
 rw [List.append_nil] at hel0
 have hlt : ¬ σ.length + 1 ≤ σ.length:=by omega
 refine ztU (E:=xs = []) (va:=va) (n0:=1) (n2:=2) (e2:=.ret) (s0:=⟨[va,vsl []],σ,σ.length,σ.length⟩) (s2:=⟨[vun,.one (.ap σ.length 0 xs)],σ ++ [.tok sz [xs.length]],σ.length,σ.length⟩) hD hgf T ?_ rfl (fun g' w' u _ h => ztJ hk hel0 h) ?_ ?_ (fun hxs => ⟨2,⟨[vun,vsl []],σ,σ.length,σ.length⟩,?_,?_⟩) rfl R0 hv
 ·simp [zD,zkw,steps,step,zaB,R.get,R.put,zvf,enter,zdk,vsl,vun]
 ·simp [zD,zl0,steps,step,zaB,R.get,R.put,zvf,vsl,vun,zk9,zsp,zX,zuQ,R.alloc,hel1,hok.1,zzo,zlT,Ob.front,Ob.setFront,R.setOb,hok.2.1,zpy,clr,St.mkSt]
 ·simp [leave,zdk,outs,zqY,zvW,zyP,zde,vsl,zjE,zjK,V.lts,V.lt,C.lt,hok.2.2,zyL,vun]
 ·simp [zD,zmg,steps,step,zaB,R.get,R.put,zvf,vsl,vun,zpy,clr,St.mkSt]
 ·subst hxs
  simp [leave,zd1,outs,zqY,zvW,zyP,zde,vsl,zjE,zjK,V.lts,V.lt,C.lt,Obs.lt,zyL,vun]
theorem zvY {σ : zb} {id ver lo n : Nat} {xs : List (List Fz)} (h : elems σ (.one (.own id ver lo n)) = some xs) (o : zb) : elems (σ ++ o) (.one (.own id ver lo n)) = some xs:=by
 simp only [elems,yh] at h ⊢
 obtain ⟨ob,h1,h2⟩:=h
 exact ⟨ob,by rw [List.getElem?_append_left (List.getElem?_eq_some_iff.1 h1).1]; exact h1,h2⟩
theorem zno (hD : DrawOk P CD) {f : Nat} {gf : Func} {sz : Nat} (hgf : P.funcs[f]? = some gf) (hname : (gf.name == "runtime.NumGoroutine") = false) (hc : zkS P CD [0, 2] gf zd1 (zdk sz) = true)
  {id ver lo n : Nat} {σ σ' : zb} {v : V} (h : (elems σ (.one (.own id ver lo n))).bind (zoG sz σ) = some (v,σ')) :
  Enters P f ∧ ∀ g w us,Rel g w σ → zv g w σ [.one (.own id ver lo n)] us → Calls P f us.toArray w fun e w' => ∃ u g',e = .returned u ∧ zf g' w' σ' v u ∧ Rel g' w' σ' ∧ Ext g w σ g' w' σ':=by
 rw [yh] at h
 obtain ⟨xs,h1,h2⟩:=h
 unfold zoG at h2
 split at h2
 ·rename_i hok
  injection h2 with h2
  simp only [Prod.mk.injEq] at h2
  obtain ⟨rfl,rfl⟩:=h2
  exact znF hD hgf hname hc _ xs σ (zvY h1) (.inr ⟨⟨_,_,_,_,rfl⟩,hok.2.2.1⟩) ⟨hok.1,hok.2.1,hok.2.2.2⟩
 ·cases h2
theorem zoV (hD : DrawOk P CD) {f : Nat} {gf : Func} {sz : Nat} (hgf : P.funcs[f]? = some gf) (hname : (gf.name == "runtime.NumGoroutine") = false) (hc : zkS P CD [0, 2] gf zd1 (zdk sz) = true)
  {xs : List (List Fz)} {σ σ' : zb} {v : V} (h : zrt sz σ xs = some (v,σ')) :
  Enters P f ∧ ∀ g w us,Rel g w σ → zv g w σ [.one (.f (.sl xs))] us → Calls P f us.toArray w fun e w' => ∃ u g',e = .returned u ∧ zf g' w' σ' v u ∧ Rel g' w' σ' ∧ Ext g w σ g' w' σ':=by
 unfold zrt at h
 split at h
 ·rename_i hok
  injection h with h
  simp only [Prod.mk.injEq] at h
  obtain ⟨rfl,rfl⟩:=h
  exact znF hD hgf hname hc _ xs σ (fun _ => rfl) (.inl rfl) hok
 ·cases h
theorem ztz (hD : DrawOk P CD) {f : Nat} {gf : Func} {sz : Nat} (hgf : P.funcs[f]? = some gf) (hname : (gf.name == "runtime.NumGoroutine") = false) (hc : zkS P CD [0, 2] gf zd1 (zdk sz) = true) (args : List V) (σ : zb) (v : V) (σ' : zb) (h : zfq sz args σ = some (v, σ')) :
  Enters P f ∧ ∀ g w us,Rel g w σ → zv g w σ args us → Calls P f us.toArray w fun e w' => ∃ u g',e = .returned u ∧ zf g' w' σ' v u ∧ Rel g' w' σ' ∧ Ext g w σ g' w' σ':=by
 unfold zfq at h
 split at h
 ·exact zno hD hgf hname hc h
 ·exact zoV hD hgf hname hc h
 ·exact zuY hD hgf hname hc _ _ _ _ h
end
end Go.A
namespace AC
open Go.A Go.A.Lex
def tab : List (List (Option Fun)):=[
 bare [none,none,none,none,none,none,some (5080505921227209936868831408127,zE),none,none,none,none,none,none,none,none,some (47,zhh)],
 bare [some (543,zz),some (4001231,zgj),none,some (365398406976211714909668257631220208966991613951,zP),some (79,zd5),none,some (33571891,zC),some (33554511,zo1),none,some (144115253003754999,zqf),none,some (1022379447,zoK),none,none,none,none],
 bare [none,none,none,none,none,none,none,none,none,none,none,none,none,none,none,none],
 bare [none,none,none,some (4183,zdo),none,none,none,none,none,none,none,none,none,some (38685626227685725776904319,zbl),none,some (31,zF)],
 bare [some (23,zcA),some (70368748126583,zdh),none,some (590304817833848868607,zgt),some (29,zbW),some (23,zfb),none,none,none,none,none,none,none,none,none,none],
 bare [none,none,none,none,none,none,none,none,none,none,none,none,none,none,none,none],
 bare [none,none,some (68719972543,zec),none,some (2417860862618887407011831,zgr),none,none,none,none,some (68719476743,zcz),none,none,none,none,some (141465551735,zah),none],
 bare [none,none,none,none,none,none,none,some (19,zbr),some (11,zcR),none,none,none,none,none,none,none],
 bare [none,none,none,none,none,none,none,none,none,none,none,none,none,none,none,some (669,zda)],
 bare [some (11,zeU),none,some (7,zc2),some (252707005,zc7),some (31,zgd),some (525,zcK),none,some (15407,ziO),some (5,zlJ),some (19,zaP),some (7,zg9),some (36028861980348247,zbu),none,none,none,some (309487371008879061366997373,zW)],
 bare [some (1100015992887,zU),some (5070603543725610699058311077759,zaJ),some (7,zcg),some (7,zb8),none,none,none,none,none,some (66483,zaR),none,none,none,none,none,none],
 bare [none,some (16883,zeO),some (19,za2),some (11,zfe),some (2101171,zfd),none,some (3963069,zfX),some (1074250695,z7),some (16806963,zba),none,none,none,none,none,none,none],
 bare [some (5,zem),some (66483,zay),some (262645,zht),some (19361999891509624300419063,zkh),some (71,zj7),some (29,zdu),some (5,zbV),some (19,zbo),some (7,zbN),some (19,zbx),some (15,zbU),some (2097211,zR),some (359,zbM),some (5,zfo),some (4202527,zbL),some (1299341903921783656432219969421043,zbs)],
 bare [some (4196895,zaf),some (262751,zu),some (2229791,zg),none,none,none,none,none,none,none,none,none,none,none,none,none],
 bare [none,none,none,some (66483,zaL),none,none,some (137506063859,ziQ),some (8590985487,zj3),some (23,zoY),some (4231239,zhO),some (66483,zaQ),some (66483,zbe),some (4196415,zbF),some (5,zfU),some (143,ze2),none],
 bare [none,none,none,none,none,none,none,some (1011,zta),some (16794621,zew),some (11,zki),some (8651699,ziD),some (2963,zck),some (3213974174218952357560221179716737556379227408111879118128127,zj),some (5,zgQ),some (5,zg8),none],
 bare [none,some (115,zpZ),some (16371,zqL),some (147,zh1),some (5,zkn),some (137506063859,zh9)]]
def T (n : Nat) : Option Entry:=if n = 62 then some (.ext (zfy 5)) else if n = 118 then some (.ext zc9) else if n = 181 then some (.ext (zfq 1)) else if n = 117 then some (.ext ziS) else if n = 145 then some (.ext (zet 177)) else zrV tab n
end AC
namespace Go.A
section rules
variable {T : Nat → Option Entry} {s s1 s2 : St} {a b c : Code} {e : Ex} {r : Option (Ex × St)}
end rules
end Go.A
namespace Go.A
def Code.p1 : Code → Code
 | .seq a _ => a
 | .cond _ a _ => a
 | .block _ a => a
 | c => c
def Code.p2 : Code → Code
 | .seq _ b => b
 | .cond _ _ b => b
 | c => c
end Go.A
attribute [go_sem] true_or or_true or_self false_or or_false Go.A.zwR Go.A.zte Go.A.zbQ Go.A.zrr List.all_cons List.all_nil List.headD_cons Int.natCast_nonneg Int.toNat_natCast yc
namespace AC
open Go Go.A Go.A.Lex
abbrev vI (x : Int) : V:=.one (.f (.lit (.int .i64 x)))
abbrev zB7 (x : Int) : V:=.one (.f (.lit (.int .u64 x)))
abbrev vB (x : Bool) : V:=.one (.f (.lit (.bool x)))
abbrev vL (xs : List (List Fz)) : V:=.one (.f (.sl xs))
abbrev vU : V:=.one .un
abbrev vFn (g : Nat) (caps : List C) : V:=.one (.fn g [] caps)
abbrev ei (x : Int) : Fz:=.lit (.int .i64 x)
abbrev eu (x : Int) : Fz:=.lit (.int .u64 x)
def ri (x : Int) : List Fz:=[.lit (.int .i64 x)]
abbrev eI (l : List Int) : Fz:=.sl (l.map ri)
abbrev vIs (l : List Int) : V:=.one (.f (.sl (l.map ri)))
def rl (l : List Int) : List Fz:=[.sl (l.map ri)]
abbrev vLs (l : List (List Int)) : V:=.one (.f (.sl (l.map rl)))
def rs (s : Int × Int) : List Fz:=[.lit (.int .i64 s.1),.lit (.int .i64 s.2)]
abbrev vSs (l : List (Int × Int)) : V:=.one (.f (.sl (l.map rs)))
structure POp where
 kind : Int
 bits : Int
 lanes : Int
 dst : Int
 args : List Int
 imm : Int
structure PPhi where
 bits : Int
 dst : Int
 src : List Int
 args : List Int
structure PBlock where
 phis : List PPhi
 ops : List POp
 kind : Int
 arg : Int
 to : List Int
structure PFunc where
 params : List Int
 ret : Int
 blocks : List PBlock
def ro (o : POp) : List Fz:=[ei o.kind,ei o.bits,ei o.lanes,ei o.dst,eI o.args,eu o.imm]
def rp (p : PPhi) : List Fz:=[ei p.bits,ei p.dst,eI p.src,eI p.args]
def rb (b : PBlock) : List Fz:=[.sl (b.phis.map rp),.sl (b.ops.map ro),ei b.kind,ei b.arg,eI b.to]
abbrev cOp (o : POp) : List C:=[.f (ei o.kind),.f (ei o.bits),.f (ei o.lanes),.f (ei o.dst),.f (eI o.args),.f (eu o.imm)]
abbrev ztZ (p : PPhi) : List C:=[.f (ei p.bits),.f (ei p.dst),.f (eI p.src),.f (eI p.args)]
abbrev zw (b : PBlock) : List C:=[.f (.sl (b.phis.map rp)),.f (.sl (b.ops.map ro)),.f (ei b.kind),.f (ei b.arg),.f (eI b.to)]
abbrev zbI (f : PFunc) : List C:=[.f (eI f.params),.f (ei f.ret),.f (.sl (f.blocks.map rb))]
abbrev vOp (o : POp) : V:=.agg (cOp o)
abbrev zBf (p : PPhi) : V:=.agg (ztZ p)
abbrev zk4 (b : PBlock) : V:=.agg (zw b)
abbrev zgP (f : PFunc) : V:=.agg (zbI f)
attribute [go_sem] Int.reduceEq Int.reduceNe Int.reduceAdd yp Int.reduceMul Int.reduceNeg Int.reduceGT Int.reduceGE
attribute [go_sem] vI zB7 vB vL vU vFn ei eu eI vIs vLs vSs cOp ztZ zw zbI vOp zBf zk4 zgP
theorem wrap_i64 {n : Int} (h : -9223372036854775808 ≤ n) (h' : n < 9223372036854775808) : Go.IntKind.i64.wrap n = n:=by
 unfold Go.IntKind.wrap Go.IntKind.bits Go.IntKind.signed
 simp only [Bool.true_and]
 split
 ·rename_i h1
  simp at h1
  omega
 ·rename_i h1
  simp at h1
  omega
theorem wrap_u64 {n : Int} (h : 0 ≤ n) (h' : n < 18446744073709551616) : Go.IntKind.u64.wrap n = n:=by
 unfold Go.IntKind.wrap Go.IntKind.bits Go.IntKind.signed
 simp only [Bool.false_and]
 have : (2 : Int) ^ 64 = 18446744073709551616:=by decide
 rw [this]
 split <;> first | omega | (rename_i h; simp at h)
theorem zd {k n : Nat} (h : k < n) (h' : n ≤ 4294967296) : Go.IntKind.i64.wrap ((k : Int) + 1) = ((k + 1 : Nat) : Int):=by
 rw [wrap_i64] <;> omega
theorem zH {α : Type} {r : α → List Fz} {l : List α} {k : Nat} (h : k < l.length) : (l.map r)[k]? = some (r l[k]):=by simp [h]
theorem ilt {k n : Nat} (h : k < n) : ((k : Int) < (n : Int)) = True:=by simp [h]
end AC
namespace AC
open Go Go.A Go.A.Lex
def zjg (b : Int) : Bool:=decide (b = 1) || decide (b = 8) || decide (b = 16) || decide (b = 32) || decide (b = 64)
@[go_sem] theorem zyj (b : Int) : call T 197 [vI b] [] = some (vB (zjg b),[]):=by
  rw [ze (fn:=zdu) rfl]
  by_cases c1 : b = 1
  ·simp -implicitDefEqProofs only [go_sem,zdu,zjg,c1]
  by_cases c2 : b = 8
  ·simp -implicitDefEqProofs only [go_sem,zdu,zjg,c1,c2]
  by_cases c3 : b = 16
  ·simp -implicitDefEqProofs only [go_sem,zdu,zjg,c1,c2,c3]
  by_cases c4 : b = 32
  ·simp -implicitDefEqProofs only [go_sem,zdu,zjg,c1,c2,c3,c4]
  by_cases c5 : b = 64 <;> simp -implicitDefEqProofs only [go_sem,zdu,zjg,c1,c2,c3,c4,c5]
def value (v : Int) : Bool:=decide (1 ≤ v) && decide (v ≤ 1023)
@[go_sem] theorem zwB (v : Int) : call T 253 [vI v] [] = some (vB (value v),[]):=by
  rw [ze (fn:=zgQ) rfl]
  by_cases c1 : 1 ≤ v <;> simp -implicitDefEqProofs only [go_sem,zgQ,value,c1]
end AC
namespace AC
open Go Go.A Go.A.Lex
def idxFrom {α : Type} (p : α → Bool) : Nat → List α → Int
 | _,[] => -1
 | k,x :: r => if p x = true then (k : Int) else idxFrom p (k + 1) r
theorem zeF {α : Type} (p : α → Bool) : ∀ (l : List α) (k : Nat),decide (0 ≤ idxFrom p k l) = l.any p
 | [],_ => by simp [idxFrom]
 | x :: r,k => by
   simp only [idxFrom,yi]
   by_cases h : p x = true
   ·simp [h]
   ·simp [h,zeF p r (k + 1)]
theorem zjw (l : List (Int)) (p : Int → Bool) (g : Nat) (fst caps : List C) (σ : zb) (hl : l.length ≤ 4294967296)
  (hf : ∀ x ∈ l,call T g (fst.map V.one ++ vI x :: caps.map V.one) σ = some (vB (p x),σ)) : ∀ (d k : Nat) (a2 a3 a6 a7 : V),l.length - k = d → k ≤ l.length →
  exec T zaG ⟨[vIs l,.one (.fn g fst caps),a2,a3,vI l.length,vI k,a6,a7],σ,σ.length,σ.length⟩ =
   some (if (l.drop k).any p = true then (.ret,⟨[vU,vU,vI (idxFrom p k (l.drop k)),vU,vU,vU,vU,vU],σ,σ.length,σ.length⟩) else (.exit 0,⟨[vU,vU,vU,vU,vU,vU,vU,vU],σ,σ.length,σ.length⟩)):=by
 intro d
 induction d with
 | zero =>
   intro k a2 a3 a6 a7 h1 h2
   have hk : k = l.length:=by omega
   subst hk
   rw [xl zaG rfl,zbR]
   simp -implicitDefEqProofs only [go_sem,yj,yf]
 | succ d ih =>
   intro k a2 a3 a6 a7 h1 h2
   have hk : k < l.length:=by omega
   have hd : l.drop k = l[k] :: l.drop (k + 1):=ya hk
   have hc:=hf l[k] (yg hk)
   rw [xl zaG rfl,zbR,hd]
   cases hp : p l[k]
   ·rw [hp] at hc
    simp -implicitDefEqProofs only [go_sem,ilt hk,zH hk,ri,hc,hp,idxFrom,zd hk hl]
    exact ih (k + 1) _ _ _ _ (by omega) (by omega)
   ·rw [hp] at hc
    simp -implicitDefEqProofs only [go_sem,ilt hk,zH hk,ri,hc,hp,idxFrom]
theorem zV (l : List (Int)) (p : Int → Bool) (g : Nat) (fst caps : List C) (σ : zb) (hl : l.length ≤ 4294967296)
  (hf : ∀ x ∈ l,call T g (fst.map V.one ++ vI x :: caps.map V.one) σ = some (vB (p x),σ)) :
  call T 119 [vIs l,.one (.fn g fst caps)] σ = some (vB (l.any p),σ):=by
 have hI : call T 169 [vIs l,.one (.fn g fst caps)] σ = some (vI (idxFrom p 0 l),σ):=by
  rw [ze (fn:=zaR) rfl]
  have h:=fun a2 a3 a6 a7 => zjw l p g fst caps σ hl hf l.length 0 a2 a3 a6 a7 (by omega) (by omega)
  simp only [yk,yc] at h
  have hn : l.any p = false → idxFrom p 0 l = -1:=fun h => by
   have:=zeF p l 0
   rw [h] at this
   have h2 : ∀ (l : List (Int)) k,l.any p = false → idxFrom p k l = -1:=by
    intro l
    induction l with
    | nil => exact fun _ _ => rfl
    | cons x r ih =>
      intro k h
      simp only [yi,yb] at h
      simp only [idxFrom,h.1,yd,if_false]
      exact ih _ h.2
   exact h2 l 0 h
  cases ha : l.any p
  ·simp -implicitDefEqProofs only [go_sem,ha] at h
   simp -implicitDefEqProofs only [go_sem,zaR,h,hn ha]
  ·simp -implicitDefEqProofs only [go_sem,ha] at h
   simp -implicitDefEqProofs only [go_sem,zaR,h]
 rw [ze (fn:=zbr) rfl]
 simp -implicitDefEqProofs only [go_sem,zbr,hI,zeF]
theorem zh6 (l : List (PBlock)) (p : PBlock → Bool) (g : Nat) (fst caps : List C) (σ : zb) (hl : l.length ≤ 4294967296)
  (hf : ∀ x ∈ l,call T g (fst.map V.one ++ zk4 x :: caps.map V.one) σ = some (vB (p x),σ)) : ∀ (d k : Nat) (a2 a3 a6 a7 : V),l.length - k = d → k ≤ l.length →
  exec T zag ⟨[vL (l.map rb),.one (.fn g fst caps),a2,a3,vI l.length,vI k,a6,a7],σ,σ.length,σ.length⟩ =
   some (if (l.drop k).any p = true then (.ret,⟨[vU,vU,vI (idxFrom p k (l.drop k)),vU,vU,vU,vU,vU],σ,σ.length,σ.length⟩) else (.exit 0,⟨[vU,vU,vU,vU,vU,vU,vU,vU],σ,σ.length,σ.length⟩)):=by
 intro d
 induction d with
 | zero =>
   intro k a2 a3 a6 a7 h1 h2
   have hk : k = l.length:=by omega
   subst hk
   rw [xl zag rfl,zbq]
   simp -implicitDefEqProofs only [go_sem,yj,yf]
 | succ d ih =>
   intro k a2 a3 a6 a7 h1 h2
   have hk : k < l.length:=by omega
   have hd : l.drop k = l[k] :: l.drop (k + 1):=ya hk
   have hc:=hf l[k] (yg hk)
   rw [xl zag rfl,zbq,hd]
   cases hp : p l[k]
   ·rw [hp] at hc
    simp -implicitDefEqProofs only [go_sem,ilt hk,zH hk,rb,hc,hp,idxFrom,zd hk hl]
    exact ih (k + 1) _ _ _ _ (by omega) (by omega)
   ·rw [hp] at hc
    simp -implicitDefEqProofs only [go_sem,ilt hk,zH hk,rb,hc,hp,idxFrom]
theorem zf5 (l : List (PBlock)) (p : PBlock → Bool) (g : Nat) (fst caps : List C) (σ : zb) (hl : l.length ≤ 4294967296)
  (hf : ∀ x ∈ l,call T g (fst.map V.one ++ zk4 x :: caps.map V.one) σ = some (vB (p x),σ)) :
  call T 153 [vL (l.map rb),.one (.fn g fst caps)] σ = some (vB (l.any p),σ):=by
 have hI : call T 193 [vL (l.map rb),.one (.fn g fst caps)] σ = some (vI (idxFrom p 0 l),σ):=by
  rw [ze (fn:=zay) rfl]
  have h:=fun a2 a3 a6 a7 => zh6 l p g fst caps σ hl hf l.length 0 a2 a3 a6 a7 (by omega) (by omega)
  simp only [yk,yc] at h
  have hn : l.any p = false → idxFrom p 0 l = -1:=fun h => by
   have:=zeF p l 0
   rw [h] at this
   have h2 : ∀ (l : List (PBlock)) k,l.any p = false → idxFrom p k l = -1:=by
    intro l
    induction l with
    | nil => exact fun _ _ => rfl
    | cons x r ih =>
      intro k h
      simp only [yi,yb] at h
      simp only [idxFrom,h.1,yd,if_false]
      exact ih _ h.2
   exact h2 l 0 h
  cases ha : l.any p
  ·simp -implicitDefEqProofs only [go_sem,ha] at h
   simp -implicitDefEqProofs only [go_sem,zay,h,hn ha]
  ·simp -implicitDefEqProofs only [go_sem,ha] at h
   simp -implicitDefEqProofs only [go_sem,zay,h]
 rw [ze (fn:=zaP) rfl]
 simp -implicitDefEqProofs only [go_sem,zaP,hI,zeF]
theorem zjF (l : List (PPhi)) (p : PPhi → Bool) (g : Nat) (fst caps : List C) (σ : zb) (hl : l.length ≤ 4294967296)
  (hf : ∀ x ∈ l,call T g (fst.map V.one ++ zBf x :: caps.map V.one) σ = some (vB (p x),σ)) : ∀ (d k : Nat) (a2 a3 a6 a7 : V),l.length - k = d → k ≤ l.length →
  exec T zaK ⟨[vL (l.map rp),.one (.fn g fst caps),a2,a3,vI l.length,vI k,a6,a7],σ,σ.length,σ.length⟩ =
   some (if (l.drop k).any p = true then (.ret,⟨[vU,vU,vI (idxFrom p k (l.drop k)),vU,vU,vU,vU,vU],σ,σ.length,σ.length⟩) else (.exit 0,⟨[vU,vU,vU,vU,vU,vU,vU,vU],σ,σ.length,σ.length⟩)):=by
 intro d
 induction d with
 | zero =>
   intro k a2 a3 a6 a7 h1 h2
   have hk : k = l.length:=by omega
   subst hk
   rw [xl zaK rfl,zbO]
   simp -implicitDefEqProofs only [go_sem,yj,yf]
 | succ d ih =>
   intro k a2 a3 a6 a7 h1 h2
   have hk : k < l.length:=by omega
   have hd : l.drop k = l[k] :: l.drop (k + 1):=ya hk
   have hc:=hf l[k] (yg hk)
   rw [xl zaK rfl,zbO,hd]
   cases hp : p l[k]
   ·rw [hp] at hc
    simp -implicitDefEqProofs only [go_sem,ilt hk,zH hk,rp,hc,hp,idxFrom,zd hk hl]
    exact ih (k + 1) _ _ _ _ (by omega) (by omega)
   ·rw [hp] at hc
    simp -implicitDefEqProofs only [go_sem,ilt hk,zH hk,rp,hc,hp,idxFrom]
theorem zgW (l : List (PPhi)) (p : PPhi → Bool) (g : Nat) (fst caps : List C) (σ : zb) (hl : l.length ≤ 4294967296)
  (hf : ∀ x ∈ l,call T g (fst.map V.one ++ zBf x :: caps.map V.one) σ = some (vB (p x),σ)) :
  call T 199 [vL (l.map rp),.one (.fn g fst caps)] σ = some (vB (l.any p),σ):=by
 have hI : call T 234 [vL (l.map rp),.one (.fn g fst caps)] σ = some (vI (idxFrom p 0 l),σ):=by
  rw [ze (fn:=zaQ) rfl]
  have h:=fun a2 a3 a6 a7 => zjF l p g fst caps σ hl hf l.length 0 a2 a3 a6 a7 (by omega) (by omega)
  simp only [yk,yc] at h
  have hn : l.any p = false → idxFrom p 0 l = -1:=fun h => by
   have:=zeF p l 0
   rw [h] at this
   have h2 : ∀ (l : List (PPhi)) k,l.any p = false → idxFrom p k l = -1:=by
    intro l
    induction l with
    | nil => exact fun _ _ => rfl
    | cons x r ih =>
      intro k h
      simp only [yi,yb] at h
      simp only [idxFrom,h.1,yd,if_false]
      exact ih _ h.2
   exact h2 l 0 h
  cases ha : l.any p
  ·simp -implicitDefEqProofs only [go_sem,ha] at h
   simp -implicitDefEqProofs only [go_sem,zaQ,h,hn ha]
  ·simp -implicitDefEqProofs only [go_sem,ha] at h
   simp -implicitDefEqProofs only [go_sem,zaQ,h]
 rw [ze (fn:=zbo) rfl]
 simp -implicitDefEqProofs only [go_sem,zbo,hI,zeF]
theorem zkx (l : List (POp)) (p : POp → Bool) (g : Nat) (fst caps : List C) (σ : zb) (hl : l.length ≤ 4294967296)
  (hf : ∀ x ∈ l,call T g (fst.map V.one ++ vOp x :: caps.map V.one) σ = some (vB (p x),σ)) : ∀ (d k : Nat) (a2 a3 a6 a7 : V),l.length - k = d → k ≤ l.length →
  exec T zaW ⟨[vL (l.map ro),.one (.fn g fst caps),a2,a3,vI l.length,vI k,a6,a7],σ,σ.length,σ.length⟩ =
   some (if (l.drop k).any p = true then (.ret,⟨[vU,vU,vI (idxFrom p k (l.drop k)),vU,vU,vU,vU,vU],σ,σ.length,σ.length⟩) else (.exit 0,⟨[vU,vU,vU,vU,vU,vU,vU,vU],σ,σ.length,σ.length⟩)):=by
 intro d
 induction d with
 | zero =>
   intro k a2 a3 a6 a7 h1 h2
   have hk : k = l.length:=by omega
   subst hk
   rw [xl zaW rfl,zb6]
   simp -implicitDefEqProofs only [go_sem,yj,yf]
 | succ d ih =>
   intro k a2 a3 a6 a7 h1 h2
   have hk : k < l.length:=by omega
   have hd : l.drop k = l[k] :: l.drop (k + 1):=ya hk
   have hc:=hf l[k] (yg hk)
   rw [xl zaW rfl,zb6,hd]
   cases hp : p l[k]
   ·rw [hp] at hc
    simp -implicitDefEqProofs only [go_sem,ilt hk,zH hk,ro,hc,hp,idxFrom,zd hk hl]
    exact ih (k + 1) _ _ _ _ (by omega) (by omega)
   ·rw [hp] at hc
    simp -implicitDefEqProofs only [go_sem,ilt hk,zH hk,ro,hc,hp,idxFrom]
theorem zib (l : List (POp)) (p : POp → Bool) (g : Nat) (fst caps : List C) (σ : zb) (hl : l.length ≤ 4294967296)
  (hf : ∀ x ∈ l,call T g (fst.map V.one ++ vOp x :: caps.map V.one) σ = some (vB (p x),σ)) :
  call T 201 [vL (l.map ro),.one (.fn g fst caps)] σ = some (vB (l.any p),σ):=by
 have hI : call T 235 [vL (l.map ro),.one (.fn g fst caps)] σ = some (vI (idxFrom p 0 l),σ):=by
  rw [ze (fn:=zbe) rfl]
  have h:=fun a2 a3 a6 a7 => zkx l p g fst caps σ hl hf l.length 0 a2 a3 a6 a7 (by omega) (by omega)
  simp only [yk,yc] at h
  have hn : l.any p = false → idxFrom p 0 l = -1:=fun h => by
   have:=zeF p l 0
   rw [h] at this
   have h2 : ∀ (l : List (POp)) k,l.any p = false → idxFrom p k l = -1:=by
    intro l
    induction l with
    | nil => exact fun _ _ => rfl
    | cons x r ih =>
      intro k h
      simp only [yi,yb] at h
      simp only [idxFrom,h.1,yd,if_false]
      exact ih _ h.2
   exact h2 l 0 h
  cases ha : l.any p
  ·simp -implicitDefEqProofs only [go_sem,ha] at h
   simp -implicitDefEqProofs only [go_sem,zbe,h,hn ha]
  ·simp -implicitDefEqProofs only [go_sem,ha] at h
   simp -implicitDefEqProofs only [go_sem,zbe,h]
 rw [ze (fn:=zbx) rfl]
 simp -implicitDefEqProofs only [go_sem,zbx,hI,zeF]
theorem zi6 (l : List (List Int)) (p : List Int → Bool) (g : Nat) (fst caps : List C) (σ : zb) (hl : l.length ≤ 4294967296)
  (hf : ∀ x ∈ l,call T g (fst.map V.one ++ vIs x :: caps.map V.one) σ = some (vB (p x),σ)) : ∀ (d k : Nat) (a2 a3 a6 a7 : V),l.length - k = d → k ≤ l.length →
  exec T zaw ⟨[vLs l,.one (.fn g fst caps),a2,a3,vI l.length,vI k,a6,a7],σ,σ.length,σ.length⟩ =
   some (if (l.drop k).any p = true then (.ret,⟨[vU,vU,vI (idxFrom p k (l.drop k)),vU,vU,vU,vU,vU],σ,σ.length,σ.length⟩) else (.exit 0,⟨[vU,vU,vU,vU,vU,vU,vU,vU],σ,σ.length,σ.length⟩)):=by
 intro d
 induction d with
 | zero =>
   intro k a2 a3 a6 a7 h1 h2
   have hk : k = l.length:=by omega
   subst hk
   rw [xl zaw rfl,zbD]
   simp -implicitDefEqProofs only [go_sem,yj,yf]
 | succ d ih =>
   intro k a2 a3 a6 a7 h1 h2
   have hk : k < l.length:=by omega
   have hd : l.drop k = l[k] :: l.drop (k + 1):=ya hk
   have hc:=hf l[k] (yg hk)
   rw [xl zaw rfl,zbD,hd]
   cases hp : p l[k]
   ·rw [hp] at hc
    simp -implicitDefEqProofs only [go_sem,ilt hk,zH hk,rl,hc,hp,idxFrom,zd hk hl]
    exact ih (k + 1) _ _ _ _ (by omega) (by omega)
   ·rw [hp] at hc
    simp -implicitDefEqProofs only [go_sem,ilt hk,zH hk,rl,hc,hp,idxFrom]
theorem zgF (l : List (List Int)) (p : List Int → Bool) (g : Nat) (fst caps : List C) (σ : zb) (hl : l.length ≤ 4294967296)
  (hf : ∀ x ∈ l,call T g (fst.map V.one ++ vIs x :: caps.map V.one) σ = some (vB (p x),σ)) :
  call T 178 [vLs l,.one (.fn g fst caps)] σ = some (vB (l.any p),σ):=by
 have hI : call T 227 [vLs l,.one (.fn g fst caps)] σ = some (vI (idxFrom p 0 l),σ):=by
  rw [ze (fn:=zaL) rfl]
  have h:=fun a2 a3 a6 a7 => zi6 l p g fst caps σ hl hf l.length 0 a2 a3 a6 a7 (by omega) (by omega)
  simp only [yk,yc] at h
  have hn : l.any p = false → idxFrom p 0 l = -1:=fun h => by
   have:=zeF p l 0
   rw [h] at this
   have h2 : ∀ (l : List (List Int)) k,l.any p = false → idxFrom p k l = -1:=by
    intro l
    induction l with
    | nil => exact fun _ _ => rfl
    | cons x r ih =>
      intro k h
      simp only [yi,yb] at h
      simp only [idxFrom,h.1,yd,if_false]
      exact ih _ h.2
   exact h2 l 0 h
  cases ha : l.any p
  ·simp -implicitDefEqProofs only [go_sem,ha] at h
   simp -implicitDefEqProofs only [go_sem,zaL,h,hn ha]
  ·simp -implicitDefEqProofs only [go_sem,ha] at h
   simp -implicitDefEqProofs only [go_sem,zaL,h]
 rw [ze (fn:=za2) rfl]
 simp -implicitDefEqProofs only [go_sem,za2,hI,zeF]
end AC
namespace AC
open Go Go.A Go.A.Lex
attribute [go_sem] V.beq C.beq C.beqs Fz.beq Fz.beqR Value.beq
def zBp (v b : Int) : Int:=if zjg b = true then v % 2 ^ b.toNat else 0
theorem zfx {b : Int} (h : zjg b = true) : b = 1 ∨ b = 8 ∨ b = 16 ∨ b = 32 ∨ b = 64:=by
 simp only [zjg,yn,decide_eq_true_eq] at h
 omega
theorem zvv (n : Int) : Go.IntKind.u64.wrap n = n % 18446744073709551616:=by
 unfold Go.IntKind.wrap Go.IntKind.bits Go.IntKind.signed
 simp
@[go_sem] theorem zpu (v b : Int) (h0 : 0 ≤ v) (h1 : v < 18446744073709551616) : call T 259 [zB7 v,vI b] [] = some (zB7 (zBp v b),[]):=by
  rw [ze (fn:=zh1) rfl]
  cases hm : zjg b
  ·simp -implicitDefEqProofs only [go_sem,zh1,zBp,hm]
  ·have w1 : Go.IntKind.i64.wrap (64 - 1) = 63:=by decide
   have w8 : Go.IntKind.i64.wrap (64 - 8) = 56:=by decide
   have w16 : Go.IntKind.i64.wrap (64 - 16) = 48:=by decide
   have w32 : Go.IntKind.i64.wrap (64 - 32) = 32:=by decide
   have w64 : Go.IntKind.i64.wrap (64 - 64) = 0:=by decide
   have hb : Go.IntKind.u64.bits = 64:=rfl
   rcases zfx hm with rfl | rfl | rfl | rfl | rfl
   all_goals
    simp -implicitDefEqProofs only [yp] at w1 w8 w16 w32 w64
    simp -implicitDefEqProofs only [go_sem,zh1,zBp,hm,w1,w8,w16,w32,w64,hb,zvv,Option.some.injEq,Prod.mk.injEq,V.one.injEq,C.f.injEq,Fz.lit.injEq,Value.int.injEq]
    simp
    try (rw [Int.fdiv_eq_ediv_of_nonneg _ (by omega)]; omega)
def zmw (l : Int) : Bool:=decide (l = 2) || decide (l = 4) || decide (l = 8) || decide (l = 16)
def zeR (b l : Int) : Bool:=zjg b && (decide (l = 1) || (zmw l && (decide (8 ≤ b) && decide (b * l ≤ 128))))
theorem zgk {l : Int} (h : zmw l = true) : l = 2 ∨ l = 4 ∨ l = 8 ∨ l = 16:=by
 simp only [zmw,yn,decide_eq_true_eq] at h
 omega
theorem zqd {b l : Int} (h : zeR b l = true) : zjg b = true ∧ (l = 1 ∨ l = 2 ∨ l = 4 ∨ l = 8 ∨ l = 16):=by
 simp only [zeR,ye,yn,decide_eq_true_eq] at h
 refine ⟨h.1,?_⟩
 rcases h.2 with h | h
 ·exact .inl h
 ·have:=zgk h.1
  omega
@[go_sem] theorem zuW (b l : Int) : call T 251 [vI b,vI l] [] = some (vB (zeR b l),[]):=by
  rw [ze (fn:=zck) rfl]
  cases hm : zjg b
  ·simp -implicitDefEqProofs only [go_sem,zck,zeR,hm]
  by_cases c1 : l = 1
  ·simp -implicitDefEqProofs only [go_sem,zck,zeR,hm,c1]
  cases hl : zmw l
  ·have hl':=hl
   simp only [zmw,yb,decide_eq_false_iff_not] at hl'
   obtain ⟨⟨⟨c2,c3⟩,c4⟩,c5⟩:=hl'
   simp -implicitDefEqProofs only [go_sem,zck,zeR,hm,c1,c2,c3,c4,c5,hl]
  ·by_cases c8 : 8 ≤ b
   ·have hm':=zfx hm
    rcases zgk hl with rfl | rfl | rfl | rfl
    all_goals
     have w2 : Go.IntKind.i64.wrap (b * 2) = b * 2:=wrap_i64 (by omega) (by omega)
     have w4 : Go.IntKind.i64.wrap (b * 4) = b * 4:=wrap_i64 (by omega) (by omega)
     have w8 : Go.IntKind.i64.wrap (b * 8) = b * 8:=wrap_i64 (by omega) (by omega)
     have w16 : Go.IntKind.i64.wrap (b * 16) = b * 16:=wrap_i64 (by omega) (by omega)
     simp -implicitDefEqProofs only [go_sem,zck,zeR,hm,c1,hl,c8,w2,w4,w8,w16]
   ·rcases zgk hl with rfl | rfl | rfl | rfl
    all_goals simp -implicitDefEqProofs only [go_sem,zck,zeR,hm,c1,hl,c8]
def zii (k : Int) : Bool:=decide (k = 17) || decide (k = 19)
@[go_sem] theorem zuo (k : Int) : call T 237 [vI k] [] = some (vB (zii k),[]):=by
  rw [ze (fn:=zfU) rfl]
  by_cases c1 : k = 17 <;> simp -implicitDefEqProofs only [go_sem,zfU,zii,c1]
@[go_sem] theorem zw2 (l : List (List Fz)) : call T 260 [vL l] [] = some (vL l,[]):=by
  rw [ze (fn:=zkn) rfl]
  simp -implicitDefEqProofs only [go_sem,zkn]
theorem zhN {n f : Nat} {args : List V} {r : V × zb} (h : zdq T (zD T n) f args [] = some r) : call T f args [] = some r:=zhG T n _ _ _ _ h
set_option maxRecDepth 100000 in
theorem zla (s : Int × Int) (l : Int) (h : l = 1 ∨ l = 2 ∨ l = 4 ∨ l = 8 ∨ l = 16) : call T 261 [vL [rs s],vI l] [] = some (vL (List.replicate l.toNat (rs s)),[]):=by
 rcases h with rfl | rfl | rfl | rfl | rfl
 ·exact zhN (n:=200) (by kernel_rfl)
 ·exact zhN (n:=200) (by kernel_rfl)
 ·exact zhN (n:=200) (by kernel_rfl)
 ·exact zhN (n:=200) (by kernel_rfl)
 ·exact zhN (n:=200) (by kernel_rfl)
end AC
