/- A part of the proof of SchedDepth. Conditions: none. -/
import Derived.Test.YtmkncmffaaninaaGreatDAA
import Derived.Attr
import Derived.Test.YtmkncmffaaninaaGreatDAO
import Derived.Maps.RangeRun
import Derived.Below
import Derived.WalkSpells
set_option linter.unusedVariables false
set_option linter.unusedSimpArgs false
set_option linter.unusedSectionVars false
open Bool renaming and_eq_true → ya,not_eq_true' → yb
open Nat renaming le_refl → yc
open List renaming range' → yd,range → ye
namespace Go.A
attribute [go_sem] R.get R.put V.cells C.kns Ob.elem zd.elem zd.cell zDM upd Ob.write R.setOb R.alloc R.write zFU zB1 ziV vsl vf zAq vfp zEX V.c1 zFw zyb zFB zq5 zE8 aun zjR zEj zE3 zE4
 zux zfE zdl zaq Ob.frz zCY zpK elems Ob.front Ob.setFront Ob.grow Ob.isRow zoE zsq znv zCH zjp zEd zng znY zfZ tokens zCo zDQ R.allocs aal zDT zvz zCT zyh
 zEo zBS afa zER zsF aia zEU cut ald ast nest zDV zED zEe zpS zBw bound zxW zyd zCQ two ztX zBo zEK zuj zFS zE2 zEl zE5 single zE1 byteOf bytesOf zFR zE6 zBH zFe zuP zvC zEh zEZ zBc zEY zBz zCc zET Ob.entries zC1 alk zEO amu zif zmg
 C.shift C.shifts V.shift V.shifts Ob.shift zt2 V.plain V.plains zu6 zvd zvF closed znW R.gets anl za7 znx step steps clr zme St.mkSt St.clear zDU findLabel enter ztp zx6 zCw zBJ zim outs zCn zlX leave
 zso zrT zs9 zpT scK zz4 vun C.lt C.lts V.lt V.lts C.ltss C.ltm Ob.lt Obs.lt
attribute [go_sem] zg9 zqV zyV zAh zBa zBX zgt zzb zw0 zmA
attribute [go_sem] List.getD_cons_zero List.getD_cons_succ List.set_cons_zero List.set_cons_succ List.nil_append List.cons_append List.append_nil List.append_assoc List.length_cons List.length_nil List.length_append List.length_map
 List.map_cons List.map_nil List.getElem?_cons_zero List.getElem?_cons_succ List.take_succ_cons List.take_zero List.drop_succ_cons List.drop_zero List.any_cons List.any_nil List.replicate_succ List.replicate_zero List.take_nil List.drop_nil
 Option.map_some Option.map_none Option.bind_some Option.bind_none if_true if_false Bool.false_eq_true Bool.or_false Bool.or_true Bool.false_or Bool.true_or Bool.not_true Bool.not_false Bool.true_and Bool.and_true Bool.false_and Bool.and_false Function.comp
 Nat.zero_add Nat.add_zero Nat.reduceAdd Nat.reduceSub Nat.reduceLeDiff Nat.reduceMul decide_true decide_false reduceCtorEq not_true_eq_false not_false_eq_true Nat.reduceEqDiff Nat.reduceLT Int.reduceLT Int.reduceLE Int.reduceToNat yc Option.isSome_none Option.isSome_some
 true_and and_true decide_eq_true_eq Bool.and_self Bool.or_self ite_true ite_false Nat.succ_ne_self
end Go.A
namespace Go.A.Lex
abbrev t : Bool:=true
abbrev f : Bool:=false
@[go_sem] abbrev q (op : Op) : Oper:=⟨.loc,op,none⟩
@[go_sem] abbrev e (op : Op) : Oper:=⟨.no,op,none⟩
@[go_sem] abbrev w (t : Nat) (op : Op) : Oper:=⟨.slot t,op,none⟩
@[go_sem] abbrev i (n : Int) : X:=.c (.one (.f (.lit (.int .i64 n))))
@[go_sem] abbrev ik (k : IntKind) (n : Int) : X:=.c (.one (.f (.lit (.int k n))))
@[go_sem] abbrev bo (b : Bool) : X:=.c (.one (.f (.lit (.bool b))))
attribute [go_sem] t f
end Go.A.Lex
namespace Go.A
section
variable {P : Program} {κ : List Tmp} {nt : Nat}
theorem wpOps_cons {ops : Array Go.Oper} {Q : Exit → Act → World → Prop} {i : Nat} {is : List Nat} {a : Act} {w : World} {o : Go.Oper} (ho : ops[i]? = some o) (hg : o.guard = none) (h : o.wp P a w (wpOps P ops Q is) Q) : wpOps P ops Q (i :: is) a w:=by
 simp only [wpOps,ho]
 rw [if_pos (by simp [Region.wanted,hg])]
 exact .inl h
end
end Go.A
namespace Go.A
section
variable {P : Program} {κ : List Tmp} {nt : Nat}
theorem Fr.tmp {g : G} {w : World} {r : R} {a : Act} (F : Fr κ [] nt g w r a) {t : Tmp} (ht : κ.contains t = false) (hlt : t < nt) (u : Value) : Fr κ [] nt g w r (a.put (some t) u):=by
 have h:=F.put (t:=some t) (d:=.loc) (v:=vun) (u:=u) (by simp only [okD,ya,yb,decide_eq_true_eq]; exact ⟨ht,hlt⟩) (fun _ => by simp [vun,zf,zw])
 exact ⟨h.size,h.len,h.env,fun d t h => by simp at h,fun d t h => by simp at h,h.nd,h.bd,h.df⟩
theorem zCW {a : Act} {t : Tmp} {u : Value} (h : t < a.tmps.size) : (a.put (some t) u).tmps.getD t undef = u:=by
 simp only [Act.put,zht]
 simp [h]
theorem zA1 {a : Act} {d : Option Tmp} {u : Value} : (a.put d u).tmps.size = a.tmps.size:=by
 cases d <;> simp [Act.put]
theorem zr6 {a : Act} {t : Tmp} : a.eval (.tmp t) = a.tmps.getD t undef:=rfl
structure Cp (κ : List Tmp) (nt : Nat) (g0 : G) (w0 : World) (σ0 σ : zd) (env : List V) (b l id id' bm clock : Nat) (zbl : Array MapEntry) (tit r : Nat) (seen : Array Nat) (ds : List (Int × V)) (g : G) (w : World) (a : Act) : Prop where
 ext : Ext g0 w0 σ0 g w (σ.set id' (.mp ds))
 rel : Rel g w (σ.set id' (.mp ds))
 fr : Fr κ [] nt g w ⟨[],env,σ.set id' (.mp ds),b,l⟩ a
 it : a.tmps.getD tit undef = .pointer (some ⟨r,0,none⟩)
 hr : ∃ c0,clock ≤ c0 ∧ w.heap[r]? = some (.mapIter (some bm) clock seen c0)
 hb : w.heap[bm]? = some (.map zbl clock)
 rho : g.ρ id = bm
 ow : g.ow r = .no
 no : ∀ o,¬ g.N r o
 new : w0.heap.size ≤ r
end
end Go.A
namespace Go.A
section
variable {P : Program} {κ : List Tmp} {nt : Nat}
structure Nums where
 tm : Nat
 tit : Nat
 t21 : Nat
 t22 : Nat
 t23 : Nat
 t24 : Nat
 t25 : Nat
 t7 : Nat
 t6 : Nat
 t26 : Nat
 t27 : Nat
 t28 : Nat
 t29 : Nat
 t5 : Nat
 mt : Nat
 ty : Nat
 fi : Nat
 lt : Nat
 dt : Nat
def Nums.fresh (n : Nums) : List Nat:=[n.tit,n.t21,n.t22,n.t23,n.t24,n.t25,n.t7,n.t6,n.t26,n.t27,n.t28,n.t29]
structure TyOk (P : Program) (n : Nums) (off sz row : Nat) : Prop where
 zs : ∃ zs : List Value,zeroOf P n.ty = some zs ∧ zs.length = row
 rsz : zhf P n.ty = some row
 row0 : 0 < row
 fld : ∃ fs f k,P.underlying n.ty = some (.struct fs) ∧ fs[n.fi]? = some f ∧ zhf P f.type = some k ∧ k ≠ 0 ∧ f.offset = off
 agg : zjN P n.lt = some true
 lsz : zhf P n.lt = some sz
 dt : ∃ key elem,P.underlying n.dt = some (.map key elem) ∧ P.underlying key = some (.int .i64)
theorem zkG {id : Nat} {ops : Array Go.Oper} {Q : Exit → Act → World → Prop} {a : Act} {w : World} (h : wpOps P ops Q (yd 0 ops.toList.length) a w) : (Go.Code.region id ops false).wp P Q a w:=by
 refine wp_region ?_
 rw [List.range_eq_range']
 simpa using h
theorem zAx {ops : Array Go.Oper} {Q : Exit → Act → World → Prop} {i m : Nat} {a : Act} {w : World} {o : Go.Oper} (ho : ops[i]? = some o) (hg : o.guard = none) (h : o.wp P a w (wpOps P ops Q (yd (i + 1) m)) Q) : wpOps P ops Q (yd i (m + 1)) a w:=by
 rw [List.range'_succ]
 exact wpOps_cons ho hg h
theorem Fr.tr {g g' : G} {w w' : World} {σ σ' : zd} {env : List V} {b l : Nat} {a : Act} (F : Fr κ [] nt g w ⟨[],env,σ,b,l⟩ a) (tr : ∀ v u,zf g w σ v u → zf g' w' σ' v u) : Fr κ [] nt g' w' ⟨[],env,σ',b,l⟩ a :=
 ⟨F.size,F.len,fun i t h => tr _ _ (F.env i t h),fun d t h => by simp at h,fun d t h => by simp at h,F.nd,F.bd,F.df⟩
structure PutS (κ : List Tmp) (nt : Nat) (a a1 : Act) (t : Tmp) (u : Value) : Prop where
 size : a.tmps.size = nt → a1.tmps.size = nt
 val : a.tmps.size = nt → a1.tmps.getD t undef = u
 other : ∀ t',t' ≠ t → a1.tmps.getD t' undef = a.tmps.getD t' undef
 fr : ∀ {g : G} {w : World} {r : R},Fr κ [] nt g w r a → Fr κ [] nt g w r a1
theorem zFV {a : Act} {t : Tmp} (u : Value) (h : κ.contains t = false ∧ t < nt) : PutS κ nt a (a.put (some t) u) t u :=
 ⟨fun hs => by rw [zA1,hs],fun hs => zCW (by rw [hs]; exact h.2),fun t' ht => zlU (fun e => ht (by injection e with e; exact e.symm)),fun F => F.tmp h.1 h.2 u⟩
theorem zrm {ops : Array Go.Oper} {Q : Exit → Act → World → Prop} {i m : Nat} {a : Act} {w w' : World} {o : Go.Oper} {t : Tmp} {u : Value} (ho : ops[i]? = some o) (hg : o.guard = none) (hd : o.dst = some t) (ht : κ.contains t = false ∧ t < nt)
  (hrun : (execOp a.eval o).run P w = .ok (.value u) w') (k : ∀ a1,PutS κ nt a a1 t u → wpOps P ops Q (yd (i + 1) m) a1 w') : wpOps P ops Q (yd i (m + 1)) a w :=
 zAx ho hg (zlR hrun (by rw [hd]; exact k _ (zFV u ht)))
theorem zsv {a : Act} {w : World} {o : Go.Oper} {t : Tmp} {u : Value} (ho : o.op = .assign (.tmp t) ∨ o.op = .move (.tmp t)) (h : a.tmps.getD t undef = u) : (execOp a.eval o).run P w = .ok (.value u) w:=by
 unfold execOp
 rcases ho with ho | ho <;> simp only [ho,zr6,h] <;> simp
end
end Go.A
namespace Go.A
open Go.ChangeMaps (setBlock)
section
variable {P : Program} {κ : List Tmp} {nt : Nat}
end
end Go.A
namespace Go.A
section
variable {P : Program} {κ : List Tmp} {nt : Nat}
end
end Go.A
namespace Go.A
def zrd (P : Program) : Draws:=⟨fun κ nt gops xs => zq6 P κ nt gops xs || zv0 P κ nt gops xs,zn5 P,fun _ _ _ _ => false⟩
theorem zvG {P : Program} (hm : P.follows .mixedOrders = true) : DrawOk P (zrd P) where
 a:=fun Cf S κ nt id gops xs h r r1 h0 hs => by
   simp only [zrd,Bool.or_eq_true] at h
   rcases h with h | h
   ·exact zCM hm Cf S κ nt id gops xs h r r1 h0 hs
   ·exact zzS hm Cf S κ nt id gops xs h r r1 h0 hs
 b:=fun Cf S κ nt id gops ps xs h r r1 h0 hs => zCV hm Cf S κ nt id gops ps xs h r r1 h0 hs
 lab:=fun _ _ _ _ h => by cases h
 c:=fun _ _ _ _ h => by cases h
def zmO : Option Fun → Option Entry
 | some f => some (.fn f)
 | none => none
def zuJ (rows : List (List (Option Fun))) (n : Nat) : Option Entry:=zmO (((rows[n / 16]?).bind (·[n % 16]?)).getD none)
end Go.A
namespace Go.A
open Go.RowKit (Below)
def zvt : List Fz → Option Int
 | [.lit (.int .i64 x)] => some x
 | _ => none
def zga : List (List Fz) → Option (List Int)
 | [] => some []
 | r :: rs => zfE (zvt r) (zga rs)
def zbX (l : List Int) : List Int:=l.mergeSort fun x y => decide (x ≤ y)
def zm : List Int → List Int
 | [] => []
 | [x] => [x]
 | x :: y :: r => if x = y then zm (y :: r) else x :: zm (y :: r)
def zj (x : Int) : List C:=[.f (.lit (.int .i64 x))]
def zxz (x : Int) : List Fz:=[.lit (.int .i64 x)]
def zmw (σ : zd) (l : List Int) : Option (V × zd) :=
 if l.length ≤ LIM then some (.one (.own σ.length 0 0 l.length),σ ++ [.cells 0 1 ((zbX l).map zj)]) else none
def zlI (σ : zd) : Option C → Option (V × zd)
 | some (.f (.sl xs)) => (zga xs).bind (zmw σ)
 | _ => none
def zgW (fv : Nat) : List V → zd → Option (V × zd)
 | [.one (.fn g [] [.ptr id ver i o])],σ => if g = fv ∧ o = 0 then zlI σ (σ.cell id ver i 0) else none
 | _,_ => none
def zhE (ver n : Nat) : Ob → Option (List Int)
 | .cells ver' sz es => if ver' = ver ∧ sz = 1 ∧ es.length = n ∧ n ≤ LIM then (zaq es).bind zga else none
 | _ => none
def zpu (σ : zd) (id ver : Nat) (l : List Int) : V × zd:=(.tup [],σ.set id (.cells ver 1 ((zbX l).map zj)))
def zlj : List V → zd → Option (V × zd)
 | [.one (.f (.sl []))],σ => some (.tup [],σ)
 | [.one (.own id ver 0 n)],σ => ((σ[id]?).bind (zhE ver n)).map (zpu σ id ver)
 | _,_ => none
def zkg (σ : zd) (id ver : Nat) (l : List Int) : V × zd:=(vsl ((zm l).map zxz),σ.set id (.cells (ver + 1) 1 []))
def zff : List V → zd → Option (V × zd)
 | [.one (.f (.sl []))],σ => some (vsl [],σ)
 | [.one (.own id ver 0 n)],σ => ((σ[id]?).bind (zhE ver n)).map (zkg σ id ver)
 | _,_ => none
theorem zz0 {g : G} {w w' : World} {σ : zd} (R : Rel g w σ) (h : Below w.heap.size w w') : Ext g w σ g w' σ ∧ Rel g w' σ:=by
 have H : Ext g w σ g w' σ:={
  os:=h.os
  tape:=h.tape
  output:=h.output
  size:=h.size
  keeps:=fun b o hb => ⟨hb,by
   unfold World.cell?
   rw [h.block b (R.nb b o hb)]⟩
  len:=yc _
  shape:=fun id ver sz len hs => .inl ⟨hs,rfl,fun _ arr t ha => ⟨arr,by rw [h.block _ (Array.getElem?_eq_some_iff.1 ha).1]; exact ha,rfl⟩⟩
  map:=fun id es he => ⟨rfl,es,he⟩
  tok:=fun t k n hn => ⟨n,hn,yc _,fun _ => rfl⟩
  tsz:=fun _ _ hs => hs
  ow:=fun _ _ => rfl
  new:=fun _ _ hn _ _ => hn
  frame:=fun b hb _ => h.block b hb }
 exact ⟨H,fun b o hb => Nat.lt_of_lt_of_le (R.nb b o hb) h.size,fun id ob ho => zcV H rfl (fun _ => rfl) (fun b hb _ => ⟨h.block b hb,rfl,fun _ hn => hn⟩) (R.ob id ob ho)⟩
end Go.A
namespace Go.A
def zjy : Nat → Option Entry:=fun _ => none
theorem zo9 {P : Program} (n : Nat) : zgQ P (zfy zjy (zN zjy n)):=fun _ _ _ _ _ h => by simp [zfy,zjy] at h
structure TwoOk (P : Program) (CD : Draws) (κ : List Tmp) (gf : Func) (fn1 fn2 : Fun) (c0 c1 c2 : Code) (i0 i1 : Nat) (r0 : Array Go.Oper) (o1 o2 : Go.Oper) (ga gb : Go.Code) (t3 t4 ty ty' ty'' : Nat) : Prop where
 body : gf.body = some (.seq (.region i0 r0 false) (.seq (.seq (.region i1 #[o1,o2] false) (.cond (.tmp t4) ga .skip)) gb))
 b1 : fn1.body = .seq c0 c1
 b2 : fn2.body = .seq c0 c2
 k0 : zo P CD κ gf.ntmps (.region i0 r0 false) c0 = true
 k1 : zo P CD κ gf.ntmps ga c1 = true
 k2 : zo P CD κ gf.ntmps gb c2 = true
 e1 : o1.guard = none ∧ o1.dst = some t3 ∧ o1.op = .move (.tmp 0)
 e2 : o2.guard = none ∧ o2.dst = some t4 ∧ o2.op = .binOp .eql ty (.tmp t3) (.const (.slice none 0 0)) ty'
 ne : t3 ≠ t4
 f3 : κ.contains t3 = false ∧ t3 < gf.ntmps
 f4 : κ.contains t4 = false ∧ t4 < gf.ntmps
 arg : κ[0]? = some 0
 ty : P.underlying ty = some (.slice ty'')
 nd : zjl κ = true
 all : κ.all (fun t => decide (t < gf.ntmps)) = true
 same : fn1.np = fn2.np ∧ fn1.nslots = fn2.nslots ∧ fn1.keep = fn2.keep
 len : κ.length = fn2.nslots
 np : fn2.np ≤ fn2.nslots
 np2 : fn2.np ≤ gf.ntmps
 hd : κ.take fn2.np = ye fn2.np
 q1 : zja P κ gf.results.toList fn1.results = true
 q2 : zja P κ gf.results.toList fn2.results = true
section
variable {P : Program} {CD : Draws} {κ : List Tmp}
theorem zyi (hD : DrawOk P CD) {f : Nat} {gf : Func} {fn1 fn2 : Fun} {c0 c1 c2 : Code} {i0 i1 : Nat} {r0 : Array Go.Oper} {o1 o2 : Go.Oper} {ga gb : Go.Code} {t3 t4 ty ty' ty'' : Nat} (hgf : P.funcs[f]? = some gf) (T : TwoOk P CD κ gf fn1 fn2 c0 c1 c2 i0 i1 r0 o1 o2 ga gb t3 t4 ty ty' ty'')
  {xs : List (List Fz)} {σ : zd} {v : V} {σ' : zd} {n0 n2 : Nat} {s0 s2 : St} {e2 : Ex} (h0 : zN zjy n0 c0 (enter fn2 [vsl xs] σ) = some (.normal,s0)) (h0e : s0.env.getD 0 vun = vsl xs) (h2 : zN zjy n2 c2 s0 = some (e2,s2)) (l2 : leave fn2.raw fn2.results (e2,s2) = some (v,σ'))
  (h1 : xs = [] → ∃ n1 s1,zN zjy n1 c1 s0 = some (.ret,s1) ∧ leave fn1.raw fn1.results (.ret,s1) = some (v,σ')) (hnp : fn2.np = 1) {g : G} {w : World} {us : List Value} (R0 : Rel g w σ) (hv : zz g w σ [vsl xs] us) :
  Calls P f us.toArray w fun e w' => ∃ u g',e = .returned u ∧ zf g' w' σ' v u ∧ Rel g' w' σ' ∧ Ext g w σ g' w' σ':=by
 have hA:=zlk (gf:=gf) (fn:=fn2) R0 hv T.nd T.all T.len T.np T.np2 T.hd (by rw [hnp]; rfl)
 have hall:=fun n => zoc (P:=P) (CD:=CD) (T:=zjy) (g0:=g.clean σ.length) (w0:=w) (σ0:=σ) (κ:=κ) (nt:=gf.ntmps) hD (zfC g σ.length) n fun m _ => zo9 m
 have hb0:=zdi zjy n0 _ _ _ _ h0
 have hfin : ∀ (fn : Fun) (e : Ex) (s : St),zja P κ gf.results.toList fn.results = true → leave fn.raw fn.results (e,s) = some (v,σ') → s.lim = (enter fn2 [vsl xs] σ).lim → ∀ x a' w',zCm (g.clean σ.length) w σ κ gf.ntmps e s x a' w' →
   bodyPost P gf (fun e w' => ∃ u g',e = .returned u ∧ zf g' w' σ' v u ∧ Rel g' w' σ' ∧ Ext g w σ g' w' σ') x a' w' ∧ x = zkJ e:=fun fn e s hok hleave hlim x a' w' hx => by
  obtain ⟨rfl,g',A'⟩:=hx
  obtain ⟨q1,q2,u,q3,g2,q4,q5,q6⟩:=zld (fn:=fn) (gf:=gf) (zfC g σ.length) (by rw [hlim]; exact Nat.le_add_right _ _) hok hleave A'
  have hend : a'.defers = [] ∧ ∃ v1,(results gf a'.tmps).run P w' = .ok v1 w' ∧ ∃ u g',(Ending.returned v1) = .returned u ∧ zf g' w' σ' v u ∧ Rel g' w' σ' ∧ Ext g w σ g' w' σ' :=
   ⟨q2,u,q3,u,G.under g w g2,rfl,zgT (g:=g2) (g':=G.under g w g2) rfl rfl rfl _ _ q4,zpe q6 q5,zoD q6⟩
  rcases q1 with rfl | rfl
  ·exact ⟨hend,rfl⟩
  ·exact ⟨hend,rfl⟩
 refine calls_of_wp hgf T.body (wp_seq (wp_mono ((hall n0).1 _ c0 _ .normal s0 T.k0 h0 _ _ _ (yc _) hA) fun x a1 w1 hx => ?_))
 obtain ⟨rfl,g1,A1⟩:=hx
 show Exit.then _ _ .normal a1 w1
 simp only [Exit.then]
 have hsz:=A1.fr.size
 have hu:=A1.fr.env 0 0 T.arg
 simp only [h0e] at hu
 simp only [vsl,zf,zw,rep] at hu
 obtain ⟨ad,c,sz,hu,_,_,hnil⟩:=hu
 refine wp_seq (wp_seq (zkG ?_))
 refine zrm (o:=o1) rfl T.e1.1 T.e1.2.1 T.f3 (zsv (.inr T.e1.2.2) hu) fun a2 P2 => ?_
 refine zrm (o:=o2) (u:=.bool ad.isNone) (w':=w1) rfl T.e2.1 T.e2.2.1 T.f4 ?_ fun a3 P3 => ?_
 ·unfold execOp
  simp only [T.e2.2.2,zr6,P2.val hsz,Act.eval]
  simp [eqGuard,Lib.run_eql_slice_nil w1 ty ty'' ad xs.length c 0 0 T.ty]
 show Exit.then _ _ .normal a3 w1
 simp only [Exit.then]
 have A3 : At' (g.clean σ.length) w σ κ gf.ntmps g1 w1 s0 a3:=⟨A1.ext,A1.rel,P3.fr (P2.fr A1.fr)⟩
 have hle : σ.length ≤ s0.base:=by rw [hb0.1]; exact yc _
 cases ad with
 | none =>
   have hxs : xs = []:=by
    rcases hnil with h | ⟨b,o,h,_⟩
    ·exact h
    ·cases h
   obtain ⟨n1,s1,h1a,h1b⟩:=h1 hxs
   have hb1:=zdi zjy n1 _ _ _ _ h1a
   refine wp_cond_true (P3.val (P2.size hsz)) (wp_mono ((hall n1).1 ga c1 s0 .ret s1 T.k1 h1a _ _ _ hle A3) fun x a4 w4 hx => ?_)
   obtain ⟨k1,k2⟩:=hfin fn1 .ret s1 T.q1 h1b (by rw [hb1.2,hb0.2]) x a4 w4 hx
   subst k2
   simp only [zkJ,Exit.then]
   exact k1
 | some ad =>
   have hb2:=zdi zjy n2 _ _ _ _ h2
   refine wp_cond_false (P3.val (P2.size hsz)) (wp_skip ?_)
   simp only [Exit.then]
   exact wp_mono ((hall n2).1 gb c2 s0 e2 s2 T.k2 h2 _ _ _ hle A3) fun x a4 w4 hx => (hfin fn2 e2 s2 T.q2 l2 (by rw [hb2.2,hb0.2]) x a4 w4 hx).1
def zow (t3 t4 : Nat) (o1 o2 : Go.Oper) : Bool:=o1.guard.isNone && o1.dst == some t3 && o2.guard.isNone && o2.dst == some t4 &&
 (match o1.op with
  | .move (.tmp 0) => true
  | _ => false) && (match o2.op with
  | .binOp .eql _ (.tmp t) (.const (.slice none 0 0)) _ => t == t3
  | _ => false)
def zAv (o : Go.Oper) : Nat × Nat:=match o.op with
 | .binOp _ t _ _ t' => (t,t')
 | _ => (0,0)
theorem zkQ {t3 t4 : Nat} {o1 o2 : Go.Oper} (h : zow t3 t4 o1 o2 = true) : (o1.guard = none ∧ o1.dst = some t3 ∧ o1.op = .move (.tmp 0)) ∧ (o2.guard = none ∧ o2.dst = some t4 ∧ o2.op = .binOp .eql (zAv o2).1 (.tmp t3) (.const (.slice none 0 0)) (zAv o2).2):=by
 unfold zow at h
 simp only [ya,Option.isNone_iff_eq_none,beq_iff_eq] at h
 obtain ⟨⟨⟨⟨⟨h1,h2⟩,h3⟩,h4⟩,h5⟩,h6⟩:=h
 refine ⟨⟨h1,h2,?_⟩,h3,h4,?_⟩
 ·split at h5
  ·assumption
  ·cases h5
 ·unfold zAv
  split at h6
  ·rename_i heq
   rw [heq]
   simp only [beq_iff_eq] at h6
   rw [h6]
  ·cases h6
def zoV (P : Program) (t : Nat) : Bool:=match P.underlying t with
 | some (.slice _) => true
 | _ => false
def zni (P : Program) (CD : Draws) (κ : List Tmp) (gf : Func) (fn1 fn2 : Fun) : Bool:=match gf.body,fn1.body,fn2.body with
 | some (.seq (.region i0 r0 false) (.seq (.seq (.region _ ⟨[o1,o2]⟩ false) (.cond (.tmp t4) ga .skip)) gb)),.seq c0 c1,.seq c0' c2 =>
   zo P CD κ gf.ntmps (.region i0 r0 false) c0 && zo P CD κ gf.ntmps (.region i0 r0 false) c0' && zo P CD κ gf.ntmps ga c1 && zo P CD κ gf.ntmps gb c2 && (match o1.dst with
    | some t3 => zow t3 t4 o1 o2 && t3 != t4 && !κ.contains t3 && decide (t3 < gf.ntmps)
    | none => false) && !κ.contains t4 && decide (t4 < gf.ntmps) && κ[0]? == some 0 && zoV P (zAv o2).1 && zjl κ && κ.all (fun t => decide (t < gf.ntmps)) && κ.length == fn2.nslots && decide (fn2.np ≤ fn2.nslots) && decide (fn2.np ≤ gf.ntmps) && (κ.take fn2.np == ye fn2.np) && zja P κ gf.results.toList fn1.results && zja P κ gf.results.toList fn2.results
 | _,_,_ => false
def zm4 : Code:=.reg [⟨.slot 1,.mv (.c (.one (.f (.sl [])))),none⟩]
def zpm : Code:=.seq (.reg [⟨.slot 1,.mv (.c (.one (.f (.sl [])))),none⟩]) (.ret [false,true])
def zpC (sz : Nat) : Code:=.seq (.reg [⟨.loc,.bsl .tk sz [] [],none⟩,⟨.loc,.mv (.s 0),none⟩,⟨.loc,.app sz (.l 1) (.l 0),none⟩,⟨.slot 1,.mv (.l 0),none⟩]) (.ret [false,true])
def zgv : Fun:=⟨1,2,0,false,[(1,none)],.seq zm4 zpm⟩
def zfn (sz : Nat) : Fun:=⟨1,2,0,false,[(1,none)],.seq zm4 (zpC sz)⟩
def zoa (sz : Nat) : List V → zd → Option (V × zd)
 | [.one (.f (.sl xs))],[] => if znv sz xs = true ∧ xs.length ≤ LIM then some (.one (.f (.sl xs)),[]) else none
 | _,_ => none
theorem zAk (hD : DrawOk P CD) {f : Nat} {gf : Func} {sz : Nat} (hgf : P.funcs[f]? = some gf) (hname : (gf.name == "runtime.NumGoroutine") = false) (hc : zni P CD [0, 2] gf zgv (zfn sz) = true) (args : List V) (σ : zd) (v : V) (σ' : zd) (h : zoa sz args σ = some (v, σ')) :
  Enters P f ∧ ∀ g w us,Rel g w σ → zz g w σ args us → Calls P f us.toArray w fun e w' => ∃ u g',e = .returned u ∧ zf g' w' σ' v u ∧ Rel g' w' σ' ∧ Ext g w σ g' w' σ':=by
 unfold zoa at h
 split at h
 ·rename_i xs
  split at h
  ·rename_i hok
   injection h with h
   simp only [Prod.mk.injEq] at h
   obtain ⟨rfl,rfl⟩:=h
   unfold zni at hc
   split at hc
   ·rename_i i0 r0 i1 o1 o2 t4 ga gb c0 c1 c0' c2 hb hb1 hb2
    simp only [ya,beq_iff_eq,bne_iff_ne,ne_eq,yb,decide_eq_true_eq] at hc
    obtain ⟨⟨⟨⟨⟨⟨⟨⟨⟨⟨⟨⟨⟨⟨⟨⟨h1,h1'⟩,h2⟩,h3⟩,h4⟩,h5⟩,h6⟩,h7⟩,h8⟩,h9⟩,h10⟩,h11⟩,h12⟩,h13⟩,h14⟩,h15⟩,h16⟩:=hc
    split at h4
    ·rename_i t3 ht3
     simp only [ya,bne_iff_ne,ne_eq,yb,decide_eq_true_eq] at h4
     obtain ⟨⟨⟨h4,hne⟩,hk3⟩,hl3⟩:=h4
     obtain ⟨k1,k2⟩:=zkQ h4
     injection hb1 with e1 e2
     injection hb2 with e3 e4
     subst e1 e2 e3 e4
     refine ⟨⟨gf,_,hgf,hname,hb⟩,fun g w us R0 hv => ?_⟩
     obtain ⟨te,hte⟩ : ∃ te,P.underlying (zAv o2).1 = some (.slice te):=by
      unfold zoV at h8
      split at h8
      ·rename_i te hte; exact ⟨te,hte⟩
      ·cases h8
     have T : TwoOk P CD [0,2] gf zgv (zfn sz) zm4 zpm (zpC sz) i0 i1 r0 o1 o2 ga gb t3 t4 (zAv o2).1 (zAv o2).2 te :=
      ⟨hb,rfl,rfl,h1,h2,h3,k1,k2,hne,⟨hk3,hl3⟩,⟨h5,h6⟩,h7,hte,h9,h10,⟨rfl,rfl,rfl⟩,h11,h12,h13,h14,h15,h16⟩
     refine zyi (n0:=1) (n2:=2) (e2:=.ret) (s0:=⟨[vsl xs,vsl []],[],0,0⟩) (s2:=⟨[vun,.one (.ap 0 0 xs)],[.tok sz [xs.length]],0,0⟩) hD hgf T ?_ rfl ?_ ?_ (fun hxs => ⟨2,⟨[vun,vsl []],[],0,0⟩,?_,?_⟩) rfl R0 hv
     ·simp [zN,zm4,steps,step,za7,R.get,R.put,zz4,enter,zfn,vsl,vun]
     ·simp [zN,zpC,steps,step,za7,R.get,R.put,zz4,vsl,vun,znY,zvz,zaq,zyh,R.alloc,elems,hok.1,zCH,zoE,Ob.front,Ob.setFront,R.setOb,hok.2,zso,clr,St.mkSt]
     ·simp [leave,zfn,outs,ztp,zx6,zCw,zfE,vsl,zlX,zme,V.lts,V.lt,C.lt,Obs.lt,zCn,vun]
     ·simp [zN,zpm,steps,step,za7,R.get,R.put,zz4,vsl,vun,zso,clr,St.mkSt]
     ·subst hxs
      simp [leave,zgv,outs,ztp,zx6,zCw,zfE,vsl,zlX,zme,V.lts,V.lt,C.lt,Obs.lt,zCn,vun]
    ·cases h4
   ·cases hc
  ·cases h
 ·cases h
end
end Go.A
