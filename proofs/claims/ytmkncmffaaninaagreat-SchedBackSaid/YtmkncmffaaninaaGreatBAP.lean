/- A part of the proof of SchedBack. Conditions: none. -/
import Derived.Test.YtmkncmffaaninaaGreatBAA
import Derived.Attr
import Derived.Test.YtmkncmffaaninaaGreatBAO
import Derived.Maps.RangeRun
import Derived.Below
import Derived.WalkSpells
set_option linter.unusedVariables false
set_option linter.unusedSimpArgs false
set_option linter.unusedSectionVars false
open Bool renaming and_eq_true → ya,not_eq_true' → yb
open Nat renaming le_refl → yc
open List renaming range' → yd,range → ye
namespace Go.A
attribute [go_sem] R.get R.put V.cells C.kns Ob.elem zb.elem zb.cell zzM upd Ob.write R.setOb R.alloc R.write zCg zxS zfL vsl vf zwY vfp zBg V.c1 zBP zvb zBN zoE zBn aun zhd zAv zBc zBr
 zpI zde zbt zX Ob.frz zzD zm5 elems Ob.front Ob.setFront Ob.grow Ob.isRow zlT zq0 zjY zzo zhn zAL zkg zk9 zdL tokens zyD zAg R.allocs aal zAd zsp zzC zuQ
 zAn zxF afa zBb zpX aia zBm cut ald ast nest zAb zAz zAS zm8 zxA bound zvw zwM zzJ two zrN zxP zA1 zre zCc zBo zAP zBh single zBl byteOf bytesOf zCa zBd zx5 zB2 zrD zr8 zA0 zBi zw5 zBk zx2 zyb zBj Ob.entries zzX alk zAr amu zfj zi8
 C.shift C.shifts V.shift V.shifts Ob.shift zri V.plain V.plains zsE zsc zst closed zk8 R.gets anl zaB zk2 step steps clr zjK St.mkSt St.clear zAe findLabel enter zqY zvW zyP zxn zf8 outs zyL zjE leave
 zpy zoH zqA znl scK zvf vun C.lt C.lts V.lt V.lts C.ltss C.ltm Ob.lt Obs.lt
attribute [go_sem] zek zok zvX zvk zys zxL zdY zwl ztt zj1
attribute [go_sem] List.getD_cons_zero List.getD_cons_succ List.set_cons_zero List.set_cons_succ List.nil_append List.cons_append List.append_nil List.append_assoc List.length_cons List.length_nil List.length_append List.length_map
 List.map_cons List.map_nil List.getElem?_cons_zero List.getElem?_cons_succ List.take_succ_cons List.take_zero List.drop_succ_cons List.drop_zero List.any_cons List.any_nil List.replicate_succ List.replicate_zero List.take_nil List.drop_nil
 Option.map_some Option.map_none Option.bind_some Option.bind_none if_true if_false Bool.false_eq_true Bool.or_false Bool.or_true Bool.false_or Bool.true_or Bool.not_true Bool.not_false Bool.true_and Bool.and_true Bool.false_and Bool.and_false Function.comp
 Nat.zero_add Nat.add_zero Nat.reduceAdd Nat.reduceSub Nat.reduceLeDiff Nat.reduceMul decide_true decide_false reduceCtorEq not_true_eq_false not_false_eq_true Nat.reduceEqDiff Nat.reduceLT Int.reduceLT Int.reduceLE Int.reduceToNat yc Option.isSome_none Option.isSome_some
 true_and and_true decide_eq_true_eq Bool.and_self Bool.or_self ite_true ite_false Nat.succ_ne_self
end Go.A
namespace Go.A.Lex
abbrev t : Bool:=true
abbrev f : Bool:=false
@[go_sem] abbrev q (op : Op) : Oper:=⟨.loc,op,none⟩
@[go_sem] abbrev e (op : Op) : Oper:=⟨.no,op,none⟩
@[go_sem] abbrev w (t : Nat) (op : Op) : Oper:=⟨.slot t,op,none⟩
@[go_sem] abbrev i (n : Int) : X:=.c (.one (.f (.lit (.int .i64 n))))
@[go_sem] abbrev ik (k : IntKind) (n : Int) : X:=.c (.one (.f (.lit (.int k n))))
@[go_sem] abbrev bo (b : Bool) : X:=.c (.one (.f (.lit (.bool b))))
attribute [go_sem] t f
end Go.A.Lex
namespace Go.A
section
variable {P : Program} {κ : List Tmp} {nt : Nat}
theorem wpOps_cons {ops : Array Go.Oper} {Q : Exit → Act → World → Prop} {i : Nat} {is : List Nat} {a : Act} {w : World} {o : Go.Oper} (ho : ops[i]? = some o) (hg : o.guard = none) (h : o.wp P a w (wpOps P ops Q is) Q) : wpOps P ops Q (i :: is) a w:=by
 simp only [wpOps,ho]
 rw [if_pos (by simp [Region.wanted,hg])]
 exact .inl h
end
end Go.A
namespace Go.A
section
variable {P : Program} {κ : List Tmp} {nt : Nat}
theorem Fr.tmp {g : G} {w : World} {r : R} {a : Act} (F : Fr κ [] nt g w r a) {t : Tmp} (ht : κ.contains t = false) (hlt : t < nt) (u : Value) : Fr κ [] nt g w r (a.put (some t) u):=by
 have h:=F.put (t:=some t) (d:=.loc) (v:=vun) (u:=u) (by simp only [okD,ya,yb,decide_eq_true_eq]; exact ⟨ht,hlt⟩) (fun _ => by simp [vun,zf,zr])
 exact ⟨h.size,h.len,h.env,fun d t h => by simp at h,fun d t h => by simp at h,h.nd,h.bd,h.df⟩
theorem zy8 {a : Act} {t : Tmp} {u : Value} (h : t < a.tmps.size) : (a.put (some t) u).tmps.getD t undef = u:=by
 simp only [Act.put,ze0]
 simp [h]
theorem zxN {a : Act} {d : Option Tmp} {u : Value} : (a.put d u).tmps.size = a.tmps.size:=by
 cases d <;> simp [Act.put]
theorem zpo {a : Act} {t : Tmp} : a.eval (.tmp t) = a.tmps.getD t undef:=rfl
structure Cp (κ : List Tmp) (nt : Nat) (g0 : G) (w0 : World) (σ0 σ : zb) (env : List V) (b l id id' bm clock : Nat) (zaO : Array MapEntry) (tit r : Nat) (seen : Array Nat) (ds : List (Int × V)) (g : G) (w : World) (a : Act) : Prop where
 ext : Ext g0 w0 σ0 g w (σ.set id' (.mp ds))
 rel : Rel g w (σ.set id' (.mp ds))
 fr : Fr κ [] nt g w ⟨[],env,σ.set id' (.mp ds),b,l⟩ a
 it : a.tmps.getD tit undef = .pointer (some ⟨r,0,none⟩)
 hr : ∃ c0,clock ≤ c0 ∧ w.heap[r]? = some (.mapIter (some bm) clock seen c0)
 hb : w.heap[bm]? = some (.map zaO clock)
 rho : g.ρ id = bm
 ow : g.ow r = .no
 no : ∀ o,¬ g.N r o
 new : w0.heap.size ≤ r
end
end Go.A
namespace Go.A
section
variable {P : Program} {κ : List Tmp} {nt : Nat}
structure Nums where
 tm : Nat
 tit : Nat
 t21 : Nat
 t22 : Nat
 t23 : Nat
 t24 : Nat
 t25 : Nat
 t7 : Nat
 t6 : Nat
 t26 : Nat
 t27 : Nat
 t28 : Nat
 t29 : Nat
 t5 : Nat
 mt : Nat
 ty : Nat
 fi : Nat
 lt : Nat
 dt : Nat
def Nums.fresh (n : Nums) : List Nat:=[n.tit,n.t21,n.t22,n.t23,n.t24,n.t25,n.t7,n.t6,n.t26,n.t27,n.t28,n.t29]
structure TyOk (P : Program) (n : Nums) (off sz row : Nat) : Prop where
 zs : ∃ zs : List Value,zeroOf P n.ty = some zs ∧ zs.length = row
 rsz : zeN P n.ty = some row
 row0 : 0 < row
 fld : ∃ fs f k,P.underlying n.ty = some (.struct fs) ∧ fs[n.fi]? = some f ∧ zeN P f.type = some k ∧ k ≠ 0 ∧ f.offset = off
 agg : zhi P n.lt = some true
 lsz : zeN P n.lt = some sz
 dt : ∃ key elem,P.underlying n.dt = some (.map key elem) ∧ P.underlying key = some (.int .i64)
theorem zil {id : Nat} {ops : Array Go.Oper} {Q : Exit → Act → World → Prop} {a : Act} {w : World} (h : wpOps P ops Q (yd 0 ops.toList.length) a w) : (Go.Code.region id ops false).wp P Q a w:=by
 refine wp_region ?_
 rw [List.range_eq_range']
 simpa using h
theorem zye {ops : Array Go.Oper} {Q : Exit → Act → World → Prop} {i m : Nat} {a : Act} {w : World} {o : Go.Oper} (ho : ops[i]? = some o) (hg : o.guard = none) (h : o.wp P a w (wpOps P ops Q (yd (i + 1) m)) Q) : wpOps P ops Q (yd i (m + 1)) a w:=by
 rw [List.range'_succ]
 exact wpOps_cons ho hg h
theorem Fr.tr {g g' : G} {w w' : World} {σ σ' : zb} {env : List V} {b l : Nat} {a : Act} (F : Fr κ [] nt g w ⟨[],env,σ,b,l⟩ a) (tr : ∀ v u,zf g w σ v u → zf g' w' σ' v u) : Fr κ [] nt g' w' ⟨[],env,σ',b,l⟩ a :=
 ⟨F.size,F.len,fun i t h => tr _ _ (F.env i t h),fun d t h => by simp at h,fun d t h => by simp at h,F.nd,F.bd,F.df⟩
structure PutS (κ : List Tmp) (nt : Nat) (a a1 : Act) (t : Tmp) (u : Value) : Prop where
 size : a.tmps.size = nt → a1.tmps.size = nt
 val : a.tmps.size = nt → a1.tmps.getD t undef = u
 other : ∀ t',t' ≠ t → a1.tmps.getD t' undef = a.tmps.getD t' undef
 fr : ∀ {g : G} {w : World} {r : R},Fr κ [] nt g w r a → Fr κ [] nt g w r a1
theorem zh4 {a : Act} {t : Tmp} (u : Value) (h : κ.contains t = false ∧ t < nt) : PutS κ nt a (a.put (some t) u) t u :=
 ⟨fun hs => by rw [zxN,hs],fun hs => zy8 (by rw [hs]; exact h.2),fun t' ht => zjQ (fun e => ht (by injection e with e; exact e.symm)),fun F => F.tmp h.1 h.2 u⟩
theorem zo9 {ops : Array Go.Oper} {Q : Exit → Act → World → Prop} {i m : Nat} {a : Act} {w w' : World} {o : Go.Oper} {t : Tmp} {u : Value} (ho : ops[i]? = some o) (hg : o.guard = none) (hd : o.dst = some t) (ht : κ.contains t = false ∧ t < nt)
  (hrun : (execOp a.eval o).run P w = .ok (.value u) w') (k : ∀ a1,PutS κ nt a a1 t u → wpOps P ops Q (yd (i + 1) m) a1 w') : wpOps P ops Q (yd i (m + 1)) a w :=
 zye ho hg (zjS hrun (by rw [hd]; exact k _ (zh4 u ht)))
theorem zp6 {a : Act} {w : World} {o : Go.Oper} {t : Tmp} {u : Value} (ho : o.op = .assign (.tmp t) ∨ o.op = .move (.tmp t)) (h : a.tmps.getD t undef = u) : (execOp a.eval o).run P w = .ok (.value u) w:=by
 unfold execOp
 rcases ho with ho | ho <;> simp only [ho,zpo,h] <;> simp
end
end Go.A
namespace Go.A
open Go.ChangeMaps (setBlock)
section
variable {P : Program} {κ : List Tmp} {nt : Nat}
end
end Go.A
namespace Go.A
section
variable {P : Program} {κ : List Tmp} {nt : Nat}
end
end Go.A
namespace Go.A
def zov (P : Program) : Draws:=⟨fun κ nt gops xs => zoy P κ nt gops xs || zr7 P κ nt gops xs,zlo P,fun _ _ _ _ => false⟩
theorem zsY {P : Program} (hm : P.follows .mixedOrders = true) : DrawOk P (zov P) where
 a:=fun Cf S κ nt id gops xs h r r1 h0 hs => by
   simp only [zov,Bool.or_eq_true] at h
   rcases h with h | h
   ·exact zzw hm Cf S κ nt id gops xs h r r1 h0 hs
   ·exact zwq hm Cf S κ nt id gops xs h r r1 h0 hs
 b:=fun Cf S κ nt id gops ps xs h r r1 h0 hs => zzO hm Cf S κ nt id gops ps xs h r r1 h0 hs
 lab:=fun _ _ _ _ h => by cases h
 c:=fun _ _ _ _ h => by cases h
def zkr : Option Fun → Option Entry
 | some f => some (.fn f)
 | none => none
def zrV (rows : List (List (Option Fun))) (n : Nat) : Option Entry:=zkr (((rows[n / 16]?).bind (·[n % 16]?)).getD none)
end Go.A
namespace Go.A
open Go.RowKit (Below)
def zr3 : List Fz → Option Int
 | [.lit (.int .i64 x)] => some x
 | _ => none
def zdT : List (List Fz) → Option (List Int)
 | [] => some []
 | r :: rs => zde (zr3 r) (zdT rs)
def zbG (l : List Int) : List Int:=l.mergeSort fun x y => decide (x ≤ y)
def zq : List Int → List Int
 | [] => []
 | [x] => [x]
 | x :: y :: r => if x = y then zq (y :: r) else x :: zq (y :: r)
def zi (x : Int) : List C:=[.f (.lit (.int .i64 x))]
def ztT (x : Int) : List Fz:=[.lit (.int .i64 x)]
def zja (σ : zb) (l : List Int) : Option (V × zb) :=
 if l.length ≤ LIM then some (.one (.own σ.length 0 0 l.length),σ ++ [.cells 0 1 ((zbG l).map zi)]) else none
def zjU (σ : zb) : Option C → Option (V × zb)
 | some (.f (.sl xs)) => (zdT xs).bind (zja σ)
 | _ => none
def zet (fv : Nat) : List V → zb → Option (V × zb)
 | [.one (.fn g [] [.ptr id ver i o])],σ => if g = fv ∧ o = 0 then zjU σ (σ.cell id ver i 0) else none
 | _,_ => none
def zff (ver n : Nat) : Ob → Option (List Int)
 | .cells ver' sz es => if ver' = ver ∧ sz = 1 ∧ es.length = n ∧ n ≤ LIM then (zX es).bind zdT else none
 | _ => none
def zlF (σ : zb) (id ver : Nat) (l : List Int) : V × zb:=(.tup [],σ.set id (.cells ver 1 ((zbG l).map zi)))
def ziS : List V → zb → Option (V × zb)
 | [.one (.f (.sl []))],σ => some (.tup [],σ)
 | [.one (.own id ver 0 n)],σ => ((σ[id]?).bind (zff ver n)).map (zlF σ id ver)
 | _,_ => none
def zhY (σ : zb) (id ver : Nat) (l : List Int) : V × zb:=(vsl ((zq l).map ztT),σ.set id (.cells (ver + 1) 1 []))
def zc9 : List V → zb → Option (V × zb)
 | [.one (.f (.sl []))],σ => some (vsl [],σ)
 | [.one (.own id ver 0 n)],σ => ((σ[id]?).bind (zff ver n)).map (zhY σ id ver)
 | _,_ => none
theorem zv4 {g : G} {w w' : World} {σ : zb} (R : Rel g w σ) (h : Below w.heap.size w w') : Ext g w σ g w' σ ∧ Rel g w' σ:=by
 have H : Ext g w σ g w' σ:={
  os:=h.os
  tape:=h.tape
  output:=h.output
  size:=h.size
  keeps:=fun b o hb => ⟨hb,by
   unfold World.cell?
   rw [h.block b (R.nb b o hb)]⟩
  len:=yc _
  shape:=fun id ver sz len hs => .inl ⟨hs,rfl,fun _ arr t ha => ⟨arr,by rw [h.block _ (Array.getElem?_eq_some_iff.1 ha).1]; exact ha,rfl⟩⟩
  map:=fun id es he => ⟨rfl,es,he⟩
  tok:=fun t k n hn => ⟨n,hn,yc _,fun _ => rfl⟩
  tsz:=fun _ _ hs => hs
  ow:=fun _ _ => rfl
  new:=fun _ _ hn _ _ => hn
  frame:=fun b hb _ => h.block b hb }
 exact ⟨H,fun b o hb => Nat.lt_of_lt_of_le (R.nb b o hb) h.size,fun id ob ho => zbA H rfl (fun _ => rfl) (fun b hb _ => ⟨h.block b hb,rfl,fun _ hn => hn⟩) (R.ob id ob ho)⟩
end Go.A
namespace Go.A
def zhr : Nat → Option Entry:=fun _ => none
theorem zmh {P : Program} (n : Nat) : zel P (zdq zhr (zD zhr n)):=fun _ _ _ _ _ h => by simp [zdq,zhr] at h
structure TwoOk (P : Program) (CD : Draws) (κ : List Tmp) (gf : Func) (fn1 fn2 : Fun) (c0 c1 c2 : Code) (i0 i1 : Nat) (r0 : Array Go.Oper) (o1 o2 : Go.Oper) (ga gb : Go.Code) (t3 t4 ty ty' ty'' : Nat) : Prop where
 body : gf.body = some (.seq (.region i0 r0 false) (.seq (.seq (.region i1 #[o1,o2] false) (.cond (.tmp t4) ga .skip)) gb))
 b1 : fn1.body = .seq c0 c1
 b2 : fn2.body = .seq c0 c2
 k0 : zl P CD κ gf.ntmps (.region i0 r0 false) c0 = true
 k1 : zl P CD κ gf.ntmps ga c1 = true
 k2 : zl P CD κ gf.ntmps gb c2 = true
 e1 : o1.guard = none ∧ o1.dst = some t3 ∧ o1.op = .move (.tmp 0)
 e2 : o2.guard = none ∧ o2.dst = some t4 ∧ o2.op = .binOp .eql ty (.tmp t3) (.const (.slice none 0 0)) ty'
 ne : t3 ≠ t4
 f3 : κ.contains t3 = false ∧ t3 < gf.ntmps
 f4 : κ.contains t4 = false ∧ t4 < gf.ntmps
 arg : κ[0]? = some 0
 ty : P.underlying ty = some (.slice ty'')
 nd : zgS κ = true
 all : κ.all (fun t => decide (t < gf.ntmps)) = true
 same : fn1.np = fn2.np ∧ fn1.nslots = fn2.nslots ∧ fn1.keep = fn2.keep
 len : κ.length = fn2.nslots
 np : fn2.np ≤ fn2.nslots
 np2 : fn2.np ≤ gf.ntmps
 hd : κ.take fn2.np = ye fn2.np
 q1 : zgD P κ gf.results.toList fn1.results = true
 q2 : zgD P κ gf.results.toList fn2.results = true
section
variable {P : Program} {CD : Draws} {κ : List Tmp}
theorem zvl (hD : DrawOk P CD) {f : Nat} {gf : Func} {fn1 fn2 : Fun} {c0 c1 c2 : Code} {i0 i1 : Nat} {r0 : Array Go.Oper} {o1 o2 : Go.Oper} {ga gb : Go.Code} {t3 t4 ty ty' ty'' : Nat} (hgf : P.funcs[f]? = some gf) (T : TwoOk P CD κ gf fn1 fn2 c0 c1 c2 i0 i1 r0 o1 o2 ga gb t3 t4 ty ty' ty'')
  {xs : List (List Fz)} {σ : zb} {v : V} {σ' : zb} {n0 n2 : Nat} {s0 s2 : St} {e2 : Ex} (h0 : zD zhr n0 c0 (enter fn2 [vsl xs] σ) = some (.normal,s0)) (h0e : s0.env.getD 0 vun = vsl xs) (h2 : zD zhr n2 c2 s0 = some (e2,s2)) (l2 : leave fn2.raw fn2.results (e2,s2) = some (v,σ'))
  (h1 : xs = [] → ∃ n1 s1,zD zhr n1 c1 s0 = some (.ret,s1) ∧ leave fn1.raw fn1.results (.ret,s1) = some (v,σ')) (hnp : fn2.np = 1) {g : G} {w : World} {us : List Value} (R0 : Rel g w σ) (hv : zv g w σ [vsl xs] us) :
  Calls P f us.toArray w fun e w' => ∃ u g',e = .returned u ∧ zf g' w' σ' v u ∧ Rel g' w' σ' ∧ Ext g w σ g' w' σ':=by
 have hA:=ziH (gf:=gf) (fn:=fn2) R0 hv T.nd T.all T.len T.np T.np2 T.hd (by rw [hnp]; rfl)
 have hall:=fun n => zlu (P:=P) (CD:=CD) (T:=zhr) (g0:=g.clean σ.length) (w0:=w) (σ0:=σ) (κ:=κ) (nt:=gf.ntmps) hD (zdx g σ.length) n fun m _ => zmh m
 have hb0:=zb3 zhr n0 _ _ _ _ h0
 have hfin : ∀ (fn : Fun) (e : Ex) (s : St),zgD P κ gf.results.toList fn.results = true → leave fn.raw fn.results (e,s) = some (v,σ') → s.lim = (enter fn2 [vsl xs] σ).lim → ∀ x a' w',zyF (g.clean σ.length) w σ κ gf.ntmps e s x a' w' →
   bodyPost P gf (fun e w' => ∃ u g',e = .returned u ∧ zf g' w' σ' v u ∧ Rel g' w' σ' ∧ Ext g w σ g' w' σ') x a' w' ∧ x = ziu e:=fun fn e s hok hleave hlim x a' w' hx => by
  obtain ⟨rfl,g',A'⟩:=hx
  obtain ⟨q1,q2,u,q3,g2,q4,q5,q6⟩:=ziL (fn:=fn) (gf:=gf) (zdx g σ.length) (by rw [hlim]; exact Nat.le_add_right _ _) hok hleave A'
  have hend : a'.defers = [] ∧ ∃ v1,(results gf a'.tmps).run P w' = .ok v1 w' ∧ ∃ u g',(Ending.returned v1) = .returned u ∧ zf g' w' σ' v u ∧ Rel g' w' σ' ∧ Ext g w σ g' w' σ' :=
   ⟨q2,u,q3,u,G.under g w g2,rfl,zeG (g:=g2) (g':=G.under g w g2) rfl rfl rfl _ _ q4,zmr q6 q5,zma q6⟩
  rcases q1 with rfl | rfl
  ·exact ⟨hend,rfl⟩
  ·exact ⟨hend,rfl⟩
 refine calls_of_wp hgf T.body (wp_seq (wp_mono ((hall n0).1 _ c0 _ .normal s0 T.k0 h0 _ _ _ (yc _) hA) fun x a1 w1 hx => ?_))
 obtain ⟨rfl,g1,A1⟩:=hx
 show Exit.then _ _ .normal a1 w1
 simp only [Exit.then]
 have hsz:=A1.fr.size
 have hu:=A1.fr.env 0 0 T.arg
 simp only [h0e] at hu
 simp only [vsl,zf,zr,rep] at hu
 obtain ⟨ad,c,sz,hu,_,_,hnil⟩:=hu
 refine wp_seq (wp_seq (zil ?_))
 refine zo9 (o:=o1) rfl T.e1.1 T.e1.2.1 T.f3 (zp6 (.inr T.e1.2.2) hu) fun a2 P2 => ?_
 refine zo9 (o:=o2) (u:=.bool ad.isNone) (w':=w1) rfl T.e2.1 T.e2.2.1 T.f4 ?_ fun a3 P3 => ?_
 ·unfold execOp
  simp only [T.e2.2.2,zpo,P2.val hsz,Act.eval]
  simp [eqGuard,Lib.run_eql_slice_nil w1 ty ty'' ad xs.length c 0 0 T.ty]
 show Exit.then _ _ .normal a3 w1
 simp only [Exit.then]
 have A3 : At' (g.clean σ.length) w σ κ gf.ntmps g1 w1 s0 a3:=⟨A1.ext,A1.rel,P3.fr (P2.fr A1.fr)⟩
 have hle : σ.length ≤ s0.base:=by rw [hb0.1]; exact yc _
 cases ad with
 | none =>
   have hxs : xs = []:=by
    rcases hnil with h | ⟨b,o,h,_⟩
    ·exact h
    ·cases h
   obtain ⟨n1,s1,h1a,h1b⟩:=h1 hxs
   have hb1:=zb3 zhr n1 _ _ _ _ h1a
   refine wp_cond_true (P3.val (P2.size hsz)) (wp_mono ((hall n1).1 ga c1 s0 .ret s1 T.k1 h1a _ _ _ hle A3) fun x a4 w4 hx => ?_)
   obtain ⟨k1,k2⟩:=hfin fn1 .ret s1 T.q1 h1b (by rw [hb1.2,hb0.2]) x a4 w4 hx
   subst k2
   simp only [ziu,Exit.then]
   exact k1
 | some ad =>
   have hb2:=zb3 zhr n2 _ _ _ _ h2
   refine wp_cond_false (P3.val (P2.size hsz)) (wp_skip ?_)
   simp only [Exit.then]
   exact wp_mono ((hall n2).1 gb c2 s0 e2 s2 T.k2 h2 _ _ _ hle A3) fun x a4 w4 hx => (hfin fn2 e2 s2 T.q2 l2 (by rw [hb2.2,hb0.2]) x a4 w4 hx).1
def zmC (t3 t4 : Nat) (o1 o2 : Go.Oper) : Bool:=o1.guard.isNone && o1.dst == some t3 && o2.guard.isNone && o2.dst == some t4 &&
 (match o1.op with
  | .move (.tmp 0) => true
  | _ => false) && (match o2.op with
  | .binOp .eql _ (.tmp t) (.const (.slice none 0 0)) _ => t == t3
  | _ => false)
def zwV (o : Go.Oper) : Nat × Nat:=match o.op with
 | .binOp _ t _ _ t' => (t,t')
 | _ => (0,0)
theorem ziq {t3 t4 : Nat} {o1 o2 : Go.Oper} (h : zmC t3 t4 o1 o2 = true) : (o1.guard = none ∧ o1.dst = some t3 ∧ o1.op = .move (.tmp 0)) ∧ (o2.guard = none ∧ o2.dst = some t4 ∧ o2.op = .binOp .eql (zwV o2).1 (.tmp t3) (.const (.slice none 0 0)) (zwV o2).2):=by
 unfold zmC at h
 simp only [ya,Option.isNone_iff_eq_none,beq_iff_eq] at h
 obtain ⟨⟨⟨⟨⟨h1,h2⟩,h3⟩,h4⟩,h5⟩,h6⟩:=h
 refine ⟨⟨h1,h2,?_⟩,h3,h4,?_⟩
 ·split at h5
  ·assumption
  ·cases h5
 ·unfold zwV
  split at h6
  ·rename_i heq
   rw [heq]
   simp only [beq_iff_eq] at h6
   rw [h6]
  ·cases h6
def zmy (P : Program) (t : Nat) : Bool:=match P.underlying t with
 | some (.slice _) => true
 | _ => false
def zkS (P : Program) (CD : Draws) (κ : List Tmp) (gf : Func) (fn1 fn2 : Fun) : Bool:=match gf.body,fn1.body,fn2.body with
 | some (.seq (.region i0 r0 false) (.seq (.seq (.region _ ⟨[o1,o2]⟩ false) (.cond (.tmp t4) ga .skip)) gb)),.seq c0 c1,.seq c0' c2 =>
   zl P CD κ gf.ntmps (.region i0 r0 false) c0 && zl P CD κ gf.ntmps (.region i0 r0 false) c0' && zl P CD κ gf.ntmps ga c1 && zl P CD κ gf.ntmps gb c2 && (match o1.dst with
    | some t3 => zmC t3 t4 o1 o2 && t3 != t4 && !κ.contains t3 && decide (t3 < gf.ntmps)
    | none => false) && !κ.contains t4 && decide (t4 < gf.ntmps) && κ[0]? == some 0 && zmy P (zwV o2).1 && zgS κ && κ.all (fun t => decide (t < gf.ntmps)) && κ.length == fn2.nslots && decide (fn2.np ≤ fn2.nslots) && decide (fn2.np ≤ gf.ntmps) && (κ.take fn2.np == ye fn2.np) && zgD P κ gf.results.toList fn1.results && zgD P κ gf.results.toList fn2.results
 | _,_,_ => false
def zkw : Code:=.reg [⟨.slot 1,.mv (.c (.one (.f (.sl [])))),none⟩]
def zmg : Code:=.seq (.reg [⟨.slot 1,.mv (.c (.one (.f (.sl [])))),none⟩]) (.ret [false,true])
def zl0 (sz : Nat) : Code:=.seq (.reg [⟨.loc,.bsl .tk sz [] [],none⟩,⟨.loc,.mv (.s 0),none⟩,⟨.loc,.app sz (.l 1) (.l 0),none⟩,⟨.slot 1,.mv (.l 0),none⟩]) (.ret [false,true])
def zd1 : Fun:=⟨1,2,0,false,[(1,none)],.seq zkw zmg⟩
def zdk (sz : Nat) : Fun:=⟨1,2,0,false,[(1,none)],.seq zkw (zl0 sz)⟩
def zlt (sz : Nat) : List V → zb → Option (V × zb)
 | [.one (.f (.sl xs))],[] => if zjY sz xs = true ∧ xs.length ≤ LIM then some (.one (.f (.sl xs)),[]) else none
 | _,_ => none
theorem zuY (hD : DrawOk P CD) {f : Nat} {gf : Func} {sz : Nat} (hgf : P.funcs[f]? = some gf) (hname : (gf.name == "runtime.NumGoroutine") = false) (hc : zkS P CD [0, 2] gf zd1 (zdk sz) = true) (args : List V) (σ : zb) (v : V) (σ' : zb) (h : zlt sz args σ = some (v, σ')) :
  Enters P f ∧ ∀ g w us,Rel g w σ → zv g w σ args us → Calls P f us.toArray w fun e w' => ∃ u g',e = .returned u ∧ zf g' w' σ' v u ∧ Rel g' w' σ' ∧ Ext g w σ g' w' σ':=by
 unfold zlt at h
 split at h
 ·rename_i xs
  split at h
  ·rename_i hok
   injection h with h
   simp only [Prod.mk.injEq] at h
   obtain ⟨rfl,rfl⟩:=h
   unfold zkS at hc
   split at hc
   ·rename_i i0 r0 i1 o1 o2 t4 ga gb c0 c1 c0' c2 hb hb1 hb2
    simp only [ya,beq_iff_eq,bne_iff_ne,ne_eq,yb,decide_eq_true_eq] at hc
    obtain ⟨⟨⟨⟨⟨⟨⟨⟨⟨⟨⟨⟨⟨⟨⟨⟨h1,h1'⟩,h2⟩,h3⟩,h4⟩,h5⟩,h6⟩,h7⟩,h8⟩,h9⟩,h10⟩,h11⟩,h12⟩,h13⟩,h14⟩,h15⟩,h16⟩:=hc
    split at h4
    ·rename_i t3 ht3
     simp only [ya,bne_iff_ne,ne_eq,yb,decide_eq_true_eq] at h4
     obtain ⟨⟨⟨h4,hne⟩,hk3⟩,hl3⟩:=h4
     obtain ⟨k1,k2⟩:=ziq h4
     injection hb1 with e1 e2
     injection hb2 with e3 e4
     subst e1 e2 e3 e4
     refine ⟨⟨gf,_,hgf,hname,hb⟩,fun g w us R0 hv => ?_⟩
     obtain ⟨te,hte⟩ : ∃ te,P.underlying (zwV o2).1 = some (.slice te):=by
      unfold zmy at h8
      split at h8
      ·rename_i te hte; exact ⟨te,hte⟩
      ·cases h8
     have T : TwoOk P CD [0,2] gf zd1 (zdk sz) zkw zmg (zl0 sz) i0 i1 r0 o1 o2 ga gb t3 t4 (zwV o2).1 (zwV o2).2 te :=
      ⟨hb,rfl,rfl,h1,h2,h3,k1,k2,hne,⟨hk3,hl3⟩,⟨h5,h6⟩,h7,hte,h9,h10,⟨rfl,rfl,rfl⟩,h11,h12,h13,h14,h15,h16⟩
     refine zvl (n0:=1) (n2:=2) (e2:=.ret) (s0:=⟨[vsl xs,vsl []],[],0,0⟩) (s2:=⟨[vun,.one (.ap 0 0 xs)],[.tok sz [xs.length]],0,0⟩) hD hgf T ?_ rfl ?_ ?_ (fun hxs => ⟨2,⟨[vun,vsl []],[],0,0⟩,?_,?_⟩) rfl R0 hv
     ·simp [zD,zkw,steps,step,zaB,R.get,R.put,zvf,enter,zdk,vsl,vun]
     ·simp [zD,zl0,steps,step,zaB,R.get,R.put,zvf,vsl,vun,zk9,zsp,zX,zuQ,R.alloc,elems,hok.1,zzo,zlT,Ob.front,Ob.setFront,R.setOb,hok.2,zpy,clr,St.mkSt]
     ·simp [leave,zdk,outs,zqY,zvW,zyP,zde,vsl,zjE,zjK,V.lts,V.lt,C.lt,Obs.lt,zyL,vun]
     ·simp [zD,zmg,steps,step,zaB,R.get,R.put,zvf,vsl,vun,zpy,clr,St.mkSt]
     ·subst hxs
      simp [leave,zd1,outs,zqY,zvW,zyP,zde,vsl,zjE,zjK,V.lts,V.lt,C.lt,Obs.lt,zyL,vun]
    ·cases h4
   ·cases hc
  ·cases h
 ·cases h
end
end Go.A
