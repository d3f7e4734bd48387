/- A part of the proof of SchedDepth. Conditions: none. -/
import Derived.Test.YtmkncmffaaninaaGreatPAC
import Derived.Scope
set_option linter.unusedVariables false
set_option linter.unusedSimpArgs false
set_option linter.unusedSectionVars false
open Bool renaming and_eq_true → ya,false_eq_true → yd,not_eq_true' → yl,and_true → yF
open Option renaming bind_eq_some_iff → yb,map_eq_some_iff → yc,bind_some → yo,getD_some → yx,map_some → yy
open Array renaming getD_eq_getD_getElem? → ye,getElem?_eq_getElem → yf,getElem?_eq_some_iff → yg,replicate → yE
open List renaming getElem?_eq_getElem → yh,mem_append_left → yi,range → yj,getD_eq_getElem?_getD → yk,eq_nil_of_length_eq_zero → ym,mem_append_right → yn,replicate → yp,length_cons → yr,filter_cons → yu,mem_cons_of_mem → yv,getElem?_range → yw,mem_filter → yB,range_succ → yC,mapM_cons → yD,mem_map → yG,range' → yH
open Nat renaming le_refl → yq,lt_or_ge → yz,strongRecOn → yA
namespace Go.A
def zE0 : D → Bool
 | .no => true
 | _ => false
def zxy (κ : List Tmp) (loc : List (Option Tmp)) : Option Operand → Option X → Bool
 | none,none => true
 | some x,some y => okX κ loc x y
 | _,_ => false
def zDR (P : Program) (t : TypeId) : Option Nat → Bool
 | none => zjL P t == some false
 | some n => zjL P t == some true && zhI P t == some n
def zv2 (P : Program) (t : TypeId) (zero : List C) (fresh : List (Nat × Nat)) : Bool :=
 match zeroOf P t with
 | some zs => ze4 zs zero && zha zs fresh
 | none => false
def zFg : Go.Op → Option (TypeId × Operand × Operand × Operand)
 | .mapUpdate t m k v => some (t,m,k,v)
 | .insert t m k v => some (t,m,k,v)
 | _ => none
theorem zy2 {o : Go.Op} {t : TypeId} {m k v : Operand} (h : zFg o = some (t,m,k,v)) : o = .mapUpdate t m k v ∨ o = .insert t m k v:=by
 unfold zFg at h
 split at h
 ·injection h with h
  simp only [Prod.mk.injEq] at h
  obtain ⟨rfl,rfl,rfl,rfl⟩:=h
  exact .inl rfl
 ·injection h with h
  simp only [Prod.mk.injEq] at h
  obtain ⟨rfl,rfl,rfl,rfl⟩:=h
  exact .inr rfl
 ·cases h
def zlB (P : Program) (κ : List Tmp) (loc : List (Option Tmp)) (o : Go.Oper) (d : D) : Op → Bool
 | .mv x => match o.op with
   | .move y => okX κ loc y x
   | .assign y => okX κ loc y x
   | _ => false
 | .pick c x y => match o.op with
   | .pick c' x' y' => okX κ loc c' c && okX κ loc x' x && okX κ loc y' y
   | _ => false
 | .bin op x y => match o.op with
   | .binOp op' _ x' y' _ => decide (op' = op) && okX κ loc x' x && okX κ loc y' y
   | _ => false
 | .beq neg x y => match o.op with
   | .binOp op t x' y' _ => (match op with
     | .eql => !neg
     | .neq => neg
     | _ => false) && (match P.underlying t with
     | some .bool => true
     | _ => false) && okX κ loc x' x && okX κ loc y' y
   | _ => false
 | .pnil neg x => match o.op with
   | .binOp op t x' (.const (.pointer none)) _ => (match op with
     | .eql => !neg
     | .neq => neg
     | _ => false) && (match P.underlying t with
     | some (.pointer _) => true
     | _ => false) && okX κ loc x' x
   | _ => false
 | .eqa n neg x y => match o.op with
   | .binOp op t x' y' _ => (match op with
     | .eql => !neg
     | .neq => neg
     | _ => false) && zvs P t == some n && !(P.eqGuardType P.depth t) && okX κ loc x' x && okX κ loc y' y
   | _ => false
 | .un op x => match o.op with
   | .unOp op' _ x' => decide (op' = op) && okX κ loc x' x
   | _ => false
 | .conv k x => match o.op with
   | .convert s t x' => (P.underlying s).isSome && (match P.underlying t with
     | some (.int k') => decide (k' = k)
     | _ => false) && okX κ loc x' x
   | _ => false
 | .len x => match o.op with
   | .call { callee:=.builtin .len,args:=⟨[x']⟩,argTypes:=⟨[t]⟩ } => (match P.underlying t with
     | some (.slice _) => true
     | _ => false) && okX κ loc x' x
   | _ => false
 | .lens x => match o.op with
   | .call { callee:=.builtin .len,args:=⟨[x']⟩,argTypes:=⟨[t]⟩ } => (match P.underlying t with
     | some .string => true
     | _ => false) && okX κ loc x' x
   | _ => false
 | .fa off x => match o.op with
   | .fieldAddr t x' i => (match P.underlying t with
     | some (.struct fs) => (match fs[i]? with
       | some f => (match zhI P f.type with
         | some n => decide (n ≠ 0)
         | none => false) && f.offset == off
       | none => false)
     | _ => false) && okX κ loc x' x
   | _ => false
 | .ia sz x i => match o.op with
   | .indexAddr t x' i' => (match P.underlying t with
     | some (.slice e) => zhI P e == some sz
     | _ => false) && okX κ loc x' x && okX κ loc i' i
   | _ => false
 | .iaa n sz x i => match o.op with
   | .indexAddr t x' i' => (match P.underlying t with
     | some (.array n' e) => n' == n && zhI P e == some sz
     | _ => false) && okX κ loc x' x && okX κ loc i' i
   | _ => false
 | .ld sz x => match o.op with
   | .load t x' => zDR P t sz && okX κ loc x' x
   | _ => false
 | .st sz x v => match o.op with
   | .store t x' v' => zE0 d && zhI P t == some sz && decide (0 < sz) && okX κ loc x' x && okX κ loc v' v
   | _ => false
 | .al zero fresh => match o.op with
   | .alloc t => zv2 P t zero fresh
   | _ => false
 | .box sz x => match o.op with
   | .box _ x' => decide (0 < sz) && okX κ loc x' x
   | _ => false
 | .bld zero parts fresh => match o.op with
   | .build t ps => zv2 P t zero fresh && (match zn5 P t with
     | some place => zlh κ loc place ps.toList parts
     | none => false)
   | _ => false
 | .bsl _ sz zero parts => match o.op with
   | .buildSlice t len ps => (match P.underlying t with
     | some (.slice e) => zhI P e == some sz && (match zeroOf P e with
       | some zs => zs.length == sz && zs.all Value.oneCell' && zz4 zs zero
       | none => false)
     | _ => false) && decide (0 < sz) && zero.length == len && decide (len * sz ≤ 16777216) && zik κ loc ps.toList parts
   | _ => false
 | .nl _ _ => match o.op with
   | .move (.const (.slice none 0 0)) => true
   | .assign (.const (.slice none 0 0)) => true
   | _ => false
 | .app sz s x => match o.op with
   | .call { callee:=.builtin .append,args:=⟨[s',x']⟩,argTypes:=⟨[t,t']⟩ } => t == t' && (match P.underlying t with
     | some (.slice e) => (match P.info? e with
       | some i => decide (i.bytes ≤ 32768) && i.size == sz
       | none => false) && (match zeroOf P e with
       | some zs => zs.length == sz
       | none => false)
     | _ => false) && decide (0 < sz) && okX κ loc s' s && okX κ loc x' x
   | _ => false
 | .cpy sz x y => match o.op with
   | .call { callee:=.builtin .copy,args:=⟨[x',y']⟩,argTypes:=⟨[t,_]⟩ } => (match P.underlying t with
     | some (.slice e) => zhI P e == some sz
     | _ => false) && decide (0 < sz) && okX κ loc x' x && okX κ loc y' y
   | _ => false
 | .mks zero fresh n => match o.op with
   | .makeSlice t (.tmp l) (.tmp c) => l == c && (match P.underlying t with
     | some (.slice e) => (match P.info? e with
       | some i => decide (i.bytes ≤ 32768) && decide (0 < i.size) && (match zeroOf P e with
         | some zs => zs.length == i.size && ze4 zs zero && (match fresh with
           | some j => zha zs [j]
           | none => true)
         | none => false)
       | none => false)
     | _ => false) && okX κ loc (.tmp l) n
   | _ => false
 | .mkr zero j _ n => match o.op with
   | .makeSlice t (.tmp l) (.tmp c) => l == c && (match P.underlying t with
     | some (.slice e) => (match P.info? e with
       | some i => decide (i.bytes ≤ 32768) && decide (0 < i.size) && (match zeroOf P e with
         | some zs => zs.length == i.size && ze4 zs zero && zha zs [(j,0)]
         | none => false)
       | none => false)
     | _ => false) && okX κ loc (.tmp l) n
   | _ => false
 | .mkc sz n => match o.op with
   | .makeSlice t (.const (.int _ 0)) x => (match P.underlying t with
     | some (.slice e) => (match P.info? e with
       | some i => decide (i.bytes ≤ 32768) && i.size == sz && i.zero.isSome
       | none => false)
     | _ => false) && okX κ loc x n
   | _ => false
 | .slc sz x lo hi mx => match o.op with
   | .slice t x' lo' hi' mx' => (match P.underlying t with
     | some (.slice e) => zhI P e == some sz
     | _ => false) && okX κ loc x' x && zxy κ loc lo' lo && zxy κ loc hi' hi && (match mx,mx' with
     | none,none => true
     | some m,some m' => hi.isSome && okX κ loc m' m
     | _,_ => false)
   | _ => false
 | .slcs x lo hi => match o.op with
   | .slice t x' lo' hi' none => (match P.underlying t with
     | some .string => true
     | _ => false) && okX κ loc x' x && zxy κ loc lo' lo && zxy κ loc hi' hi
   | _ => false
 | .nlc _ _ _ => false
 | .ext x i => match o.op with
   | .extract x' i' => i' == i && okX κ loc x' x
   | _ => false
 | .fld off sz x => match o.op with
   | .field t x' i => (match P.underlying t with
     | some (.struct fs) => (match fs[i]? with
       | some f => f.offset == off && zDR P f.type sz
       | none => false)
     | _ => false) && okX κ loc x' x
   | _ => false
 | .idx n x i => match o.op with
   | .index t x' i' => (match P.underlying t with
     | some (.array n' e) => n' == n && zhI P e == some 1 && zjL P e == some false
     | _ => false) && okX κ loc x' x && okX κ loc i' i
   | _ => false
 | .bxf sz x => match o.op with
   | .box _ x' => decide (0 < sz) && okX κ loc x' x
   | _ => false
 | .frz _ x => match o.op with
   | .move x' => okX κ loc x' x
   | _ => false
 | .sla n l x => match o.op with
   | .slice t x' lo none none => (match P.underlying t with
     | some (.array n' e) => n' == n && zhI P e == some 1
     | _ => false) && okX κ loc x' x && (match lo with
     | none => l == 0
     | some (.const (.int _ k)) => decide (k = (l : Int))
     | _ => false)
   | _ => false
 | .str x => match o.op with
   | .convert s t x' => (match P.underlying s with
     | some (.slice e) => (match P.underlying e with
       | some (.int .u8) => true
       | _ => false)
     | _ => false) && (match P.underlying t with
     | some .string => true
     | _ => false) && okX κ loc x' x
   | _ => false
 | .steq neg x y => match o.op with
   | .binOp op t x' y' _ => (match op with
     | .eql => !neg
     | .neq => neg
     | _ => false) && (match P.underlying t with
     | some .string => true
     | _ => false) && okX κ loc x' x && okX κ loc y' y
   | _ => false
 | .nil x => match o.op with
   | .nilCheck x' => okX κ loc x' x
   | _ => false
 | .mkf f first caps => match o.op with
   | .makeFunc (.func f') first' caps' => f' == f && zzG κ loc first'.toList first && zzG κ loc caps'.toList caps
   | _ => false
 | .mkm => match o.op with
   | .makeMap _ none => true
   | _ => false
 | .lk zero ok m k => match o.op with
   | .lookup t m' k' ok' => ok' == ok && (match P.underlying t with
     | some (.map key elem) => (match P.underlying key with
       | some (.int .i64) => true
       | _ => false) && (match P.info? elem with
       | some i => (match i.zero with
         | some z => zoR z zero
         | none => false)
       | none => false)
     | _ => false) && okX κ loc m' m && okX κ loc k' k
   | _ => false
 | .mu m k v => match zFg o.op with
   | some (t,m',k',v') => zE0 d && (match P.underlying t with
     | some (.map key _) => (match P.underlying key with
       | some (.int .i64) => true
       | _ => false)
     | _ => false) && okX κ loc m' m && okX κ loc k' k && okX κ loc v' v
   | none => false
 | .mxn isMax x y => match o.op with
   | .call { callee:=.builtin b,args:=⟨[x',y']⟩,.. } => decide (b = if isMax then .max else .min) && okX κ loc x' x && okX κ loc y' y
   | _ => false
 | .call _ f xs => match o.op with
   | .call { callee:=.value f',args,.. } => okX κ loc f' f && zzG κ loc args.toList xs
   | _ => false
 | .no _ => true
section
variable {P : Program} {κ : List Tmp} {loc : List (Option Tmp)} {nt : Nat} {g : G} {w : World} {r r' : R} {a : Act} {o : Go.Oper} {d : D} {next : Act → World → Prop} {Q : Exit → Act → World → Prop}
theorem zgV (F : Fr κ loc nt g w r a) {x : Option Operand} {y : Option X} (h : zxy κ loc x y = true) : Opt g w r a x y:=by
 unfold zxy at h
 split at h
 ·exact ⟨fun z hz => (by cases hz),fun _ => rfl⟩
 ·rename_i x y
  exact ⟨fun z hz => (by injection hz with hz; subst hz; exact ⟨x,rfl,F.get h⟩),fun hn => (by cases hn)⟩
 ·cases h
theorem zne {t : TypeId} : ∀ {sz : Option Nat},zDR P t sz = true → match sz with
  | none => zjL P t = some false
  | some n => zjL P t = some true ∧ zhI P t = some n
 | none,h => by simpa [zDR] using h
 | some n,h => by simpa [zDR] using h
theorem zkX {t : TypeId} {zero : List C} {fresh : List (Nat × Nat)} (h : zv2 P t zero fresh = true) : ∃ zs,zeroOf P t = some zs ∧ ze4 zs zero = true ∧ zha zs fresh = true:=by
 unfold zv2 at h
 split at h
 ·rename_i zs hz
  simp only [ya] at h
  exact ⟨zs,hz,h⟩
 ·cases h
theorem zvK {Cf : zad} (S : zgX P Cf) (R0 : Rel g w r.st) (L : Low r.base r.lim r.st) (F : Fr κ loc nt g w r a) (hd : okD κ nt o.dst d = true) {x : Op} (hc : zlB P κ loc o d x = true) {r1 : R} (h : za5 Cf r d x = some r1)
  (k : znX κ (zaS o.dst d :: loc) nt g w r r1 (a.put o.dst) next) : o.wp P a w next Q:=by
 have pure : ∀ {v : V},(∃ u,(execOp a.eval o).run P w = .ok (.value u) w ∧ zf g w r.st v u) → znX κ (zaS o.dst d :: loc) nt g w r (r.put d v) (a.put o.dst) next → o.wp P a w next Q:=fun ⟨u,h1,h2⟩ kk => zlF R0 L F hd h1 h2 kk
 have mapped : ∀ {x : Option V},x.map (r.put d) = some r1 → (∀ v,x = some v → ∃ u,(execOp a.eval o).run P w = .ok (.value u) w ∧ zf g w r.st v u) → o.wp P a w next Q:=fun {x} hx hv => by
  rw [yc] at hx
  obtain ⟨v,h1,rfl⟩:=hx
  exact pure (hv v h1) k
 cases x <;> simp only [za5] at h <;> simp only [zlB] at hc
 case mv x =>
  injection h with h
  subst h
  split at hc
  ·rename_i y ho
   exact pure ⟨_,zoa (.inl ho),F.get hc⟩ k
  ·rename_i y ho
   exact pure ⟨_,zoa (.inr ho),F.get hc⟩ k
  ·cases hc
 case pick c x y =>
  split at hc
  ·rename_i c' x' y' ho
   simp only [ya] at hc
   exact mapped h fun v hv => zxu ho (F.get hc.1.1) (F.get hc.1.2) (F.get hc.2) hv
  ·cases hc
 case bin op x y =>
  split at hc
  ·rename_i op' t x' y' yt ho
   simp only [ya,decide_eq_true_eq] at hc
   obtain ⟨⟨rfl,h1⟩,h2⟩:=hc
   exact mapped h fun v hv => zxn ho (F.get h1) (F.get h2) hv
  ·cases hc
 case beq neg x y =>
  split at hc
  ·rename_i op t x' y' ty ho
   simp only [ya] at hc
   obtain ⟨⟨⟨h1,h2⟩,h4⟩,h5⟩:=hc
   have hop : (op = .eql ∧ neg = false) ∨ (op = .neq ∧ neg = true):=by
    cases op <;> simp_all
   split at h2
   ·rename_i ht
    exact mapped h fun v hv => zyk ho hop ht (F.get h4) (F.get h5) hv
   ·cases h2
  ·cases hc
 case steq neg x y =>
  split at hc
  ·rename_i op t x' y' ty ho
   simp only [ya] at hc
   obtain ⟨⟨⟨h1,h2⟩,h4⟩,h5⟩:=hc
   have hop : (op = .eql ∧ neg = false) ∨ (op = .neq ∧ neg = true):=by
    cases op <;> simp_all
   split at h2
   ·rename_i ht
    exact mapped h fun v hv => zxw ho hop ht (F.get h4) (F.get h5) hv
   ·cases h2
  ·cases hc
 case str x =>
  split at hc
  ·rename_i s t x' ho
   simp only [ya] at hc
   obtain ⟨⟨h1,h2⟩,h3⟩:=hc
   split at h1
   ·rename_i e hs
    split at h1
    ·rename_i he
     split at h2
     ·rename_i ht
      exact mapped h fun v hv => zyO R0 ho hs he ht (F.get h3) hv
     ·cases h2
    ·cases h1
   ·cases h1
  ·cases hc
 case sla n l x =>
  split at hc
  ·rename_i t x' lo ho
   simp only [ya] at hc
   obtain ⟨⟨h1,h2⟩,h3⟩:=hc
   split at h1
   ·rename_i n' e ht
    simp only [ya,beq_iff_eq] at h1
    obtain ⟨rfl,hs⟩:=h1
    refine mapped h fun v hv => zx2 ho ht hs ?_ (F.get h2) hv
    split at h3
    ·exact .inl ⟨rfl,by simpa using h3⟩
    ·rename_i kk k
     exact .inr ⟨kk,by rw [of_decide_eq_true h3]⟩
    ·cases h3
   ·cases h1
  ·cases hc
 case frz sz x =>
  split at hc
  ·rename_i x' ho
   exact zyr R0 L F ho hd (F.get hc) h k
  ·cases hc
 case bxf sz x =>
  split at hc
  ·rename_i t x' ho
   simp only [ya,decide_eq_true_eq] at hc
   split at h
   ·rename_i hcc
    rw [yc] at h
    obtain ⟨fs,hf,rfl⟩:=h
    exact zyM R0 L F ho hd hc.1 (F.get hc.2) hcc hf k
   ·cases h
  ·cases hc
 case pnil neg x =>
  split at hc
  ·rename_i op t x' ty ho
   simp only [ya] at hc
   obtain ⟨⟨h1,h2⟩,h4⟩:=hc
   have hop : (op = .eql ∧ neg = false) ∨ (op = .neq ∧ neg = true):=by
    cases op <;> simp_all
   split at h2
   ·rename_i ht
    exact mapped h fun v hv => zw8 ho hop ht (F.get h4) hv
   ·cases h2
  ·cases hc
 case eqa n neg x y =>
  split at hc
  ·rename_i op t x' y' ty ho
   simp only [ya,beq_iff_eq,yl] at hc
   obtain ⟨⟨⟨⟨h1,h2⟩,h3⟩,h4⟩,h5⟩:=hc
   have hop : (op = .eql ∧ neg = false) ∨ (op = .neq ∧ neg = true):=by
    cases op <;> simp_all
   exact mapped h fun v hv => zAc ho hop h2 h3 (F.get h4) (F.get h5) hv
  ·cases hc
 case un op x =>
  split at hc
  ·rename_i op' t x' ho
   simp only [ya,decide_eq_true_eq] at hc
   obtain ⟨rfl,h1⟩:=hc
   exact mapped h fun v hv => zy1 ho (F.get h1) hv
  ·cases hc
 case conv kk x =>
  split at hc
  ·rename_i s t x' ho
   simp only [ya] at hc
   obtain ⟨⟨h1,h2⟩,h3⟩:=hc
   split at h2
   ·rename_i k' ht
    have : k' = kk:=by simpa using h2
    subst this
    exact mapped h fun v hv => zwN ho h1 ht (F.get h3) hv
   ·cases h2
  ·cases hc
 case len x =>
  split at hc
  ·rename_i x' t ho
   simp only [ya] at hc
   obtain ⟨h1,h2⟩:=hc
   split at h1
   ·rename_i e ht
    exact mapped h fun v hv => zzq ho rfl rfl rfl ht (F.get h2) hv
   ·cases h1
  ·cases hc
 case lens x =>
  split at hc
  ·rename_i x' t ho
   simp only [ya] at hc
   obtain ⟨h1,h2⟩:=hc
   split at h1
   ·rename_i ht
    exact mapped h fun v hv => zwE ho rfl rfl rfl ht (F.get h2) hv
   ·cases h1
  ·cases hc
 case fa off x =>
  split at hc
  ·rename_i t x' i ho
   simp only [ya] at hc
   obtain ⟨h1,h2⟩:=hc
   split at h1
   ·rename_i fs ht
    split at h1
    ·rename_i f hf
     simp only [ya,beq_iff_eq] at h1
     obtain ⟨h1,h3⟩:=h1
     split at h1
     ·rename_i n hs
      exact mapped h fun v hv => zAL ho ht hf hs (by simpa using h1) h3 (F.get h2) hv
     ·cases h1
    ·cases h1
   ·cases h1
  ·cases hc
 case ia sz x i =>
  split at hc
  ·rename_i t x' i' ho
   simp only [ya] at hc
   obtain ⟨⟨h1,h2⟩,h3⟩:=hc
   split at h1
   ·rename_i e ht
    exact mapped h fun v hv => zAQ ho ht (by simpa using h1) (F.get h2) (F.get h3) hv
   ·cases h1
  ·cases hc
 case iaa n sz x i =>
  split at hc
  ·rename_i t x' i' ho
   simp only [ya] at hc
   obtain ⟨⟨h1,h2⟩,h3⟩:=hc
   split at h1
   ·rename_i n' e ht
    simp only [ya,beq_iff_eq] at h1
    obtain ⟨rfl,h1⟩:=h1
    exact mapped h fun v hv => zyi ho ht h1 (F.get h2) (F.get h3) hv
   ·cases h1
  ·cases hc
 case ld sz x =>
  split at hc
  ·rename_i t x' ho
   simp only [ya] at hc
   exact mapped h fun v hv => zvO R0 ho (zne hc.1) (F.get hc.2) hv
  ·cases hc
 case st sz x v =>
  split at hc
  ·rename_i t x' v' ho
   simp only [ya,beq_iff_eq,decide_eq_true_eq] at hc
   obtain ⟨⟨⟨⟨h1,h2⟩,h3⟩,h4⟩,h5⟩:=hc
   rw [yc] at h
   obtain ⟨r2,h,rfl⟩:=h
   exact zAM R0 L F ho hd (by cases d <;> simp [zE0] at h1 ⊢) h2 h3 (F.get h4) (F.get h5) h k
  ·cases hc
 case al zero fresh =>
  injection h with h
  subst h
  split at hc
  ·rename_i t ho
   obtain ⟨zs,h1,h2,h3⟩:=zkX hc
   exact zCj R0 L F ho hd h1 h2 h3 k
  ·cases hc
 case box sz x =>
  split at hc
  ·rename_i t x' ho
   simp only [ya,decide_eq_true_eq] at hc
   split at h
   ·rename_i hcc
    injection h with h
    subst h
    exact zzl R0 L F ho hd hc.1 (F.get hc.2) hcc.1 hcc.2 k
   ·cases h
  ·cases hc
 case bld zero parts fresh =>
  split at hc
  ·rename_i t ps ho
   simp only [ya] at hc
   obtain ⟨h1,h2⟩:=hc
   obtain ⟨zs,h3,h4,h5⟩:=zkX h1
   split at h2
   ·rename_i place hp
    exact zyz R0 L F ho hd h3 h4 h5 hp h2 h k
   ·cases h2
  ·cases hc
 case bsl b sz zero parts =>
  split at hc
  ·rename_i t len ps ho
   simp only [ya,beq_iff_eq,decide_eq_true_eq] at hc
   obtain ⟨⟨⟨⟨h1,h2⟩,h3⟩,h4⟩,h5⟩:=hc
   split at h1
   ·rename_i e ht
    simp only [ya,beq_iff_eq] at h1
    obtain ⟨h1,h6⟩:=h1
    split at h6
    ·rename_i zs hz
     simp only [ya,beq_iff_eq] at h6
     exact zAa R0 L F ho hd ht h1 h2 h3 h4 hz h6.1.1 h6.1.2 h6.2 h5 h k
    ·cases h6
   ·cases h1
  ·cases hc
 case nl b sz =>
  split at hc
  ·rename_i ho
   exact zvZ R0 L F (.inl ho) hd h k
  ·rename_i ho
   exact zvZ R0 L F (.inr ho) hd h k
  ·cases hc
 case app sz s x =>
  split at hc
  ·rename_i s' x' t t' ho
   simp only [ya,beq_iff_eq,decide_eq_true_eq] at hc
   obtain ⟨⟨⟨⟨rfl,h1⟩,h2⟩,h3⟩,h4⟩:=hc
   split at h1
   ·rename_i e ht
    simp only [ya] at h1
    obtain ⟨h1,h5⟩:=h1
    split at h1
    ·rename_i i hi
     split at h5
     ·rename_i zs hz
      simp only [ya,beq_iff_eq,decide_eq_true_eq] at h1 h5
      exact zyw R0 L F ho rfl rfl rfl hd ht hi h1.1 h1.2 h2 hz h5 (F.get h3) (F.get h4) h k
     ·cases h5
    ·cases h1
   ·cases h1
  ·cases hc
 case cpy sz x y =>
  split at hc
  ·rename_i x' y' t t' ho
   simp only [ya,decide_eq_true_eq] at hc
   obtain ⟨⟨⟨h1,h2⟩,h3⟩,h4⟩:=hc
   split at h1
   ·rename_i e ht
    exact zyh R0 L F ho rfl rfl rfl hd ht (by simpa using h1) h2 (F.get h3) (F.get h4) h k
   ·cases h1
  ·cases hc
 case mks zero fresh n =>
  split at hc
  ·rename_i t l c ho
   simp only [ya,beq_iff_eq] at hc
   obtain ⟨⟨rfl,h1⟩,h2⟩:=hc
   split at h1
   ·rename_i e ht
    split at h1
    ·rename_i i hi
     simp only [ya,decide_eq_true_eq] at h1
     obtain ⟨⟨h3,h4⟩,h5⟩:=h1
     split at h5
     ·rename_i zs hz
      simp only [ya,beq_iff_eq] at h5
      obtain ⟨⟨h6,h7⟩,h8⟩:=h5
      refine zyx R0 L F ho hd ht hi h3 rfl h4 hz h6 h7 (fun j hj => ?_) (F.get h2) h k
      subst hj
      simp only [zha,yF] at h8
      split at h8
      ·assumption
      ·cases h8
     ·cases h5
    ·cases h1
   ·cases h1
  ·cases hc
 case mkr zero j sz n =>
  split at hc
  ·rename_i t l c ho
   simp only [ya,beq_iff_eq] at hc
   obtain ⟨⟨rfl,h1⟩,h2⟩:=hc
   split at h1
   ·rename_i e ht
    split at h1
    ·rename_i i hi
     simp only [ya,decide_eq_true_eq] at h1
     obtain ⟨⟨h3,h4⟩,h5⟩:=h1
     split at h5
     ·rename_i zs hz
      simp only [ya,beq_iff_eq] at h5
      obtain ⟨⟨h6,h7⟩,h8⟩:=h5
      refine zzR R0 L F ho hd ht hi h3 rfl h4 hz h6 h7 ?_ (F.get h2) h k
      simp only [zha,yF] at h8
      split at h8
      ·assumption
      ·cases h8
     ·cases h5
    ·cases h1
   ·cases h1
  ·cases hc
 case mkc sz n =>
  split at hc
  ·rename_i t kl x ho
   simp only [ya] at hc
   obtain ⟨h1,h2⟩:=hc
   split at h1
   ·rename_i e ht
    split at h1
    ·rename_i i hi
     simp only [ya,decide_eq_true_eq,beq_iff_eq] at h1
     obtain ⟨⟨h3,h4⟩,h5⟩:=h1
     obtain ⟨z,hz⟩:=Option.isSome_iff_exists.1 h5
     exact zy8 R0 L F ho hd ht hi h3 h4 hz (F.get h2) h k
    ·cases h1
   ·cases h1
  ·cases hc
 case slc sz x lo hi mx =>
  split at hc
  ·rename_i t x' lo' hi' mx' ho
   simp only [ya] at hc
   obtain ⟨⟨⟨⟨h1,h2⟩,h3⟩,h4⟩,h5⟩:=hc
   split at h1
   ·rename_i e ht
    have hq : zB5 r hi mx = true:=by
     by_cases hq : zB5 r hi mx = true
     ·exact hq
     ·rw [if_neg hq] at h
      cases h
    rw [if_pos hq] at h
    refine mapped h fun v hv => zy4 ho ht (by simpa using h1) (zgV F h3) (zgV F h4) ?_ (F.get h2) hv
    split at h5
    ·exact .inl ⟨rfl,rfl⟩
    ·rename_i m m'
     simp only [ya] at h5
     obtain ⟨h5,h6⟩:=h5
     refine .inr ⟨rfl,h5,?_⟩
     cases hi with
     | none => cases h5
     | some hx =>
       obtain ⟨z',e1,e2⟩:=(zgV F h4).1 hx rfl
       have e3:=F.get h6
       simp only [zB5] at hq
       unfold zuh at hq
       split at hq
       ·rename_i q1 q2
        simp only [ya,decide_eq_true_eq] at hq
        rw [q1] at e3
        rw [q2] at e2
        rw [e1,yy,yy,(zA e3).1,(zA e2).1,hq.1,hq.2]
       ·cases hq
    ·cases h5
   ·cases h1
  ·cases hc
 case slcs x lo hi =>
  split at hc
  ·rename_i t x' lo' hi' ho
   simp only [ya] at hc
   obtain ⟨⟨⟨h1,h2⟩,h3⟩,h4⟩:=hc
   split at h1
   ·rename_i ht
    exact mapped h fun v hv => zxs ho ht (zgV F h3) (zgV F h4) (F.get h2) hv
   ·cases h1
  ·cases hc
 case nlc => cases hc
 case ext x i =>
  split at hc
  ·rename_i x' i' ho
   simp only [ya,beq_iff_eq] at hc
   obtain ⟨rfl,h1⟩:=hc
   exact mapped h fun v hv => zzh ho (F.get h1) hv
  ·cases hc
 case fld off sz x =>
  split at hc
  ·rename_i t x' i ho
   simp only [ya] at hc
   obtain ⟨h1,h2⟩:=hc
   split at h1
   ·rename_i fs ht
    split at h1
    ·rename_i f hf
     simp only [ya,beq_iff_eq] at h1
     exact mapped h fun v hv => zzO ho ht hf h1.1 (zne h1.2) (F.get h2) hv
    ·cases h1
   ·cases h1
  ·cases hc
 case idx n x i =>
  split at hc
  ·rename_i t x' i' ho
   simp only [ya] at hc
   obtain ⟨⟨h1,h2⟩,h3⟩:=hc
   split at h1
   ·rename_i n' e ht
    simp only [ya,beq_iff_eq] at h1
    obtain ⟨⟨rfl,h1⟩,h4⟩:=h1
    exact mapped h fun v hv => zx5 ho ht h1 h4 (F.get h2) (F.get h3) hv
   ·cases h1
  ·cases hc
 case nil x =>
  split at hc
  ·rename_i x' ho
   exact mapped h fun v hv => zxH ho (F.get hc) hv
  ·cases hc
 case mkf f first caps =>
  injection h with h
  subst h
  split at hc
  ·rename_i f' first' caps' ho
   simp only [ya,beq_iff_eq] at hc
   obtain ⟨⟨rfl,h1⟩,h2⟩:=hc
   exact pure (zx0 F ho h1 h2) k
  ·cases hc
 case mkm =>
  injection h with h
  subst h
  split at hc
  ·rename_i t ho
   exact zyN R0 L F ho hd k
  ·cases hc
 case lk zero ok m kk =>
  split at hc
  ·rename_i t m' k' ok' ho
   simp only [ya,beq_iff_eq] at hc
   obtain ⟨⟨⟨rfl,h1⟩,h2⟩,h3⟩:=hc
   split at h1
   ·rename_i key elem ht
    simp only [ya] at h1
    obtain ⟨h1,h4⟩:=h1
    split at h1
    ·rename_i hk
     split at h4
     ·rename_i i hi
      split at h4
      ·rename_i z hz
       exact mapped h fun v hv => zBK R0 ho ht hk hi hz h4 (F.get h2) (F.get h3) hv
      ·cases h4
     ·cases h4
    ·cases h1
   ·cases h1
  ·cases hc
 case mu m kk v =>
  split at hc
  ·rename_i t m' k' v' ho
   simp only [ya] at hc
   obtain ⟨⟨⟨⟨h1,h2⟩,h3⟩,h4⟩,h5⟩:=hc
   split at h2
   ·rename_i key elem ht
    split at h2
    ·rename_i hk
     rw [yc] at h
     obtain ⟨r2,h,rfl⟩:=h
     exact zBF R0 L F (zy2 ho) hd (by cases d <;> simp [zE0] at h1 ⊢) ht hk (F.get h3) (F.get h4) (F.get h5) h k
    ·cases h2
   ·cases h2
  ·cases hc
 case mxn isMax x y =>
  split at hc
  ·rename_i b x' y' tys ho
   simp only [ya,decide_eq_true_eq] at hc
   obtain ⟨⟨h1,h2⟩,h3⟩:=hc
   exact mapped h fun v hv => zyg ho rfl h1 rfl (F.get h2) (F.get h3) hv
  ·cases hc
 case call m f xs =>
  split at hc
  ·rename_i f' args tys ho
   simp only [ya] at hc
   exact zwM S R0 L F ho rfl hd hc.1 hc.2 h k
  ·cases hc
 case no => exact absurd h (by simp [za5])
end
end Go.A
namespace Go.A
def zfJ (κ : List Tmp) (loc : List (Option Tmp)) (gops : Array Go.Oper) : Option (Nat × Bool) → Option (X × Bool) → Bool
 | none,none => true
 | some (j,b),some (x,b') => (b == b') && (match (gops[j]?).bind (·.dst) with
   | some t => okX κ loc (.tmp t) x
   | none => false)
 | _,_ => false
def zqb (P : Program) (κ : List Tmp) (nt : Nat) (gops : Array Go.Oper) : List (Option Tmp) → List Go.Oper → List Oper → Bool
 | _,[],[] => true
 | loc,o :: os,x :: xs => okD κ nt o.dst x.dst && zfJ κ loc gops o.guard x.guard && zlB P κ loc o x.dst x.op && zqb P κ nt gops (zaS o.dst x.dst :: loc) os xs
 | _,_,_ => false
section
variable {P : Program} {κ : List Tmp} {loc : List (Option Tmp)} {nt : Nat} {g : G} {w : World} {r r' : R} {a : Act} {o : Go.Oper} {d : D} {next : Act → World → Prop} {Q : Exit → Act → World → Prop}
theorem zqD (F : Fr κ loc nt g w r a) {gops : Array Go.Oper} {gd : Option (Nat × Bool)} {gx : Option (X × Bool)} (h : zfJ κ loc gops gd gx = true) : (gx = none → gd = none):=by
 unfold zfJ at h
 split at h
 ·exact fun _ => rfl
 ·intro h; cases h
 ·cases h
theorem zwZ {gops : Array Go.Oper} {j : Nat} {t : Tmp} {b : Bool} (h : (gops[j]?).bind (·.dst) = some t) (hv : a.tmps.getD t undef = .bool b) : yielded gops a.tmps j = some b:=by
 unfold yielded
 rw [h]
 simp only [yo]
 cases hq : a.tmps[t]? with
 | none => rw [ye,hq] at hv; cases hv
 | some v =>
   rw [ye,hq] at hv
   simp only [yx] at hv
   rw [hv]
theorem zev {Cf : zad} (S : zgX P Cf) (R0 : Rel g w r.st) (F : Fr κ loc nt g w r a) {gops : Array Go.Oper} {x : Oper} (hd : okD κ nt o.dst x.dst = true) (hg : zfJ κ loc gops o.guard x.guard = true) (hc : zlB P κ loc o x.dst x.op = true) {r1 : R} (h : step Cf r x = some r1)
  (k : znX κ (zaS o.dst x.dst :: loc) nt g w r r1 (a.put o.dst) next) (hi : ∀ a',next a' w → next a' w) :
  if Region.wanted o (yielded gops a.tmps) then o.wp P a w next Q else next (a.put o.dst undef) w:=by
 obtain ⟨d,op,gx⟩:=x
 simp only at hd hg hc
 cases gx with
 | none =>
   have:=zqD F hg rfl
   simp only [Region.wanted,this,if_true]
   exact zvK S R0 ⟨trivial⟩ F hd hc h k
 | some p =>
   obtain ⟨y,b⟩:=p
   unfold zfJ at hg
   split at hg
   ·rename_i heq; cases heq
   ·rename_i j b' x' b'' hgd heq
    injection heq with heq
    injection heq with heq1 heq2
    subst heq1 heq2
    simp only [ya,beq_iff_eq] at hg
    obtain ⟨rfl,hg⟩:=hg
    split at hg
    ·rename_i t ht
     have hv:=F.get hg
     simp only [step] at h
     unfold znH at h
     split at h
     ·rename_i tb hget
      rw [hget] at hv
      obtain ⟨ev,_⟩:=zA hv
      have hy:=zwZ (gops:=gops) ht ev
      simp only [Region.wanted,hgd,hy]
      split at h
      ·rename_i htb
       subst htb
       simp only [beq_self_eq_true,if_true]
       exact zvK S R0 ⟨trivial⟩ F hd hc h k
      ·rename_i htb
       injection h with h
       subst h
       have : (some tb == some b') = false:=by simpa using htb
       rw [this]
       simp only [yd,if_false]
       refine k g w _ ?_ ?_ ⟨trivial⟩ (F.put hd fun _ => by simp only [zf]; exact ⟨#[],rfl,by simp only [zz]⟩)
       ·rw [zeU]; exact Ext.refl _ _ _
       ·rw [zeU]; exact R0
     ·rename_i hget
      rw [hget] at hv
      injection h with h
      subst h
      have hu : a.tmps.getD t undef = .tuple #[]:=by
       simp only [zf,zz] at hv
       obtain ⟨us,h1,h2⟩:=hv
       have : us = #[]:=by cases us; simpa using h2
       rw [this] at h1
       exact h1
      have hy : yielded gops a.tmps j = none:=by
       unfold yielded
       rw [ht]
       simp only [yo]
       cases hq : a.tmps[t]? with
       | none => rfl
       | some v =>
         rw [ye,hq] at hu
         simp only [yx] at hu
         rw [hu]
      simp only [Region.wanted,hgd,hy]
      have : (none == some b') = false:=rfl
      rw [this]
      simp only [yd,if_false]
      refine k g w _ ?_ ?_ ⟨trivial⟩ (F.put hd fun _ => by simp only [zf]; exact ⟨#[],rfl,by simp only [zz]⟩)
      ·rw [zeU]; exact Ext.refl _ _ _
      ·rw [zeU]; exact R0
     ·cases h
    ·cases hg
   ·cases hg
theorem zsN {Cf : zad} (S : zgX P Cf) {gops : Array Go.Oper} : ∀ (os : List Go.Oper) (xs : List Oper) (i : Nat) {loc : List (Option Tmp)} {g : G} {w : World} {r : R} {a : Act} {r1 : R},(∀ j,os[j]? = gops[i + j]?) → zqb P κ nt gops loc os xs = true → steps Cf xs r = some r1 → Rel g w r.st → Fr κ loc nt g w r a →
  (∀ g' w' a' loc',Ext g w r.st g' w' r1.st → Rel g' w' r1.st → Fr κ loc' nt g' w' r1 a' → Q .normal a' w') → wpOps P gops Q (yH i os.length) a w
 | [],[],i,loc,g,w,r,a,r1,_,_,h,R0,F,k => by
   simp only [steps,Option.some.injEq] at h
   subst h
   exact k g w a loc (Ext.refl _ _ _) R0 F
 | o :: os,x :: xs,i,loc,g,w,r,a,r1,hi,hc,h,R0,F,k => by
   simp only [zqb,ya] at hc
   obtain ⟨⟨⟨h1,h2⟩,h3⟩,h4⟩:=hc
   simp only [steps,yb] at h
   obtain ⟨r2,h5,h6⟩:=h
   have hio : gops[i]? = some o:=by simpa using (hi 0).symm
   rw [yr,List.range'_succ]
   have key:=zev (Q:=Q) (gops:=gops) (next:=wpOps P gops Q (yH (i + 1) os.length)) S R0 F h1 h2 h3 h5 (fun g' w' a' H R1 _ F1 =>
    zsN S os xs (i + 1) (fun j => by
     have:=hi (j + 1)
     rw [show i + (j + 1) = i + 1 + j from by omega] at this
     rw [← this]
     simp) h4 h6 R1 F1 fun g2 w2 a2 loc2 H2 R2 F2 => k g2 w2 a2 loc2 (H.trans H2) R2 F2) (fun _ h => h)
   simp only [wpOps,hio]
   split
   ·rename_i hw
    rw [if_pos hw] at key
    exact .inl key
   ·rename_i hw
    rw [if_neg hw] at key
    exact key
 | [],_ :: _,_,_,_,_,_,_,_,_,hc,_,_,_,_ => by simp [zqb] at hc
 | _ :: _,[],_,_,_,_,_,_,_,_,hc,_,_,_,_ => by simp [zqb] at hc
structure At' (g0 : G) (w0 : World) (σ0 : zd) (κ : List Tmp) (nt : Nat) (g : G) (w : World) (s : St) (a : Act) : Prop where
 ext : Ext g0 w0 σ0 g w s.st
 rel : Rel g w s.st
 fr : Fr κ [] nt g w ⟨[],s.env,s.st,s.base,s.lim⟩ a
theorem Fr.bare {rs : List V} {env : List V} {st : zd} {b l b' l' : Nat} (F : Fr κ loc nt g w ⟨rs,env,st,b,l⟩ a) : Fr κ [] nt g w ⟨[],env,st,b',l'⟩ a :=
 ⟨F.size,F.len,F.env,fun d t h => by simp at h,fun d t h => by simp at h,F.nd,F.bd,F.df⟩
theorem zmQ : ∀ {bs : List Bool} {vs : List V},bs.length = vs.length → (clr bs vs).length = vs.length
 | [],[],_ => rfl
 | true :: bs,v :: vs,h => by simp only [clr,yr]; rw [zmQ (by simpa using h)]
 | false :: bs,v :: vs,h => by simp only [clr,yr]; rw [zmQ (by simpa using h)]
 | [],_ :: _,h => by simp at h
 | _ :: _,[],h => by simp at h
theorem ztX : ∀ {bs : List Bool} {vs : List V} {i : Nat},(clr bs vs).getD i vun = vs.getD i vun ∨ (clr bs vs).getD i vun = vun
 | [],vs,i => .inr (by simp [clr])
 | true :: bs,[],i => .inr (by simp [clr])
 | false :: bs,[],i => .inr (by simp [clr])
 | true :: bs,v :: vs,0 => .inl (by simp [clr])
 | false :: bs,v :: vs,0 => .inr (by simp [clr])
 | true :: bs,v :: vs,i + 1 => by simpa [clr] using ztX (bs:=bs) (vs:=vs) (i:=i)
 | false :: bs,v :: vs,i + 1 => by simpa [clr] using ztX (bs:=bs) (vs:=vs) (i:=i)
theorem Fr.clr {env : List V} {st : zd} {b l : Nat} {bs : List Bool} (F : Fr κ [] nt g w ⟨[],env,st,b,l⟩ a) (hb : bs.length = κ.length) : Fr κ [] nt g w ⟨[],Go.A.clr bs env,st,b,l⟩ a :=
 ⟨F.size,by
  have:=F.len
  simp only at this
  show (Go.A.clr bs env).length = _
  rw [zmQ (by rw [hb]; exact this.symm)]
  exact this,fun i t h => by
  have:=F.env i t h
  simp only at this ⊢
  rcases ztX (bs:=bs) (vs:=env) (i:=i) with e | e
  ·rw [e]; exact this
  ·rw [e]; simp only [vun,zf,zw],fun d t h => by simp at h,fun d t h => by simp at h,F.nd,F.bd,F.df⟩
theorem zvL {n : Nat} : ∀ {vs : List V} {i : Nat},V.lts n vs = true → (vs.getD i vun).lt n = true
 | [],i,_ => by simp [vun,V.lt,C.lt]
 | v :: vs,0,h => by
   simp only [V.lts,ya] at h
   simpa using h.1
 | v :: vs,i + 1,h => by
   simp only [V.lts,ya] at h
   simpa using zvL (vs:=vs) (i:=i) h.2
theorem zn7 {g0 : G} {w0 : World} {σ0 : zd} {s s' : St} {live : List Bool} {objs : Nat} (hc : Clean g0 σ0.length) (hb : σ0.length ≤ s.base) (hl : live.length = κ.length) (h : s.clear live objs = some s') (A : At' g0 w0 σ0 κ nt g w s a) : ∃ g',At' g0 w0 σ0 κ nt g' w s' a:=by
 unfold St.clear at h
 rw [yc] at h
 obtain ⟨σ',h,rfl⟩:=h
 have F1:=A.fr.clr (bs:=live) hl
 unfold zlW at h
 split at h
 ·injection h with h
  subst h
  exact ⟨g,A.ext,A.rel,F1⟩
 ·split at h
  ·rename_i hlt
   injection h with h
   subst h
   simp only [ya] at hlt
   refine ⟨g.drop (s.base + objs) w,zvv A.ext hc (by omega),zvQ A.rel hlt.2,⟨F1.size,F1.len,fun i t ht => ?_,fun d t h => by simp at h,fun d t h => by simp at h,F1.nd,F1.bd,F1.df⟩⟩
   exact zje _ _ (F1.env i t ht) (zvL hlt.1)
  ·cases h
end
end Go.A
namespace Go.A
theorem zh0 {s s' : St} {live : List Bool} {objs : Nat} (h : s.clear live objs = some s') : s'.base = s.base ∧ s'.lim = s.lim:=by
 unfold St.clear at h
 rw [yc] at h
 obtain ⟨σ',_,rfl⟩:=h
 exact ⟨rfl,rfl⟩
theorem zy7 {sp : Spec} {s s1 : St} (h : zAD sp s = some s1) : s1.base = s.base ∧ s1.lim = s.lim:=by
 unfold zAD at h
 rw [yb] at h
 obtain ⟨r,_,h⟩:=h
 unfold zCy at h
 split at h
 ·split at h
  ·cases h
  ·simp only [yb,yc] at h
   obtain ⟨es,_,ds,_,ds',_,h⟩:=h
   subst h
   exact ⟨rfl,rfl⟩
 ·cases h
theorem zdj (T : Nat → Option Entry) : ∀ (n : Nat) (c : Code) (s : St) (e : Ex) (s' : St),zN T n c s = some (e,s') → s'.base = s.base ∧ s'.lim = s.lim
 | 0,_,_,_,_,h => by simp [zN] at h
 | n + 1,c,s,e,s',h => by
   have ih:=zdj T n
   cases c <;> simp only [zN] at h
   case skip => injection h with h; injection h with h1 h2; subst h2; exact ⟨rfl,rfl⟩
   case label => injection h with h; injection h with h1 h2; subst h2; exact ⟨rfl,rfl⟩
   case ret => injection h with h; injection h with h1 h2; subst h2; exact ⟨rfl,rfl⟩
   case reg ops =>
    rw [yc] at h
    obtain ⟨r,_,h⟩:=h
    injection h with h1 h2
    subst h2
    exact ⟨rfl,rfl⟩
   case regd ps ops =>
    rw [yc] at h
    obtain ⟨r,_,h⟩:=h
    injection h with h1 h2
    subst h2
    exact ⟨rfl,rfl⟩
   case spec sp =>
    rw [yc] at h
    obtain ⟨s1,h1,h⟩:=h
    injection h with _ h2
    subst h2
    exact zy7 h1
   case exit id live objs =>
    rw [yc] at h
    obtain ⟨s1,h1,h⟩:=h
    injection h with _ h2
    subst h2
    exact zh0 h1
   case goto id live objs =>
    rw [yc] at h
    obtain ⟨s1,h1,h⟩:=h
    injection h with _ h2
    subst h2
    exact zh0 h1
   case seq a b =>
    rw [yb] at h
    obtain ⟨⟨e1,s1⟩,h1,h2⟩:=h
    have i1:=ih a s e1 s1 h1
    cases e1 <;> simp only [zsm] at h2
    case normal => have i2:=ih b s1 e s' h2; exact ⟨i2.1.trans i1.1,i2.2.trans i1.2⟩
    all_goals
     injection h2 with h2
     injection h2 with _ h2
     subst h2
     exact i1
   case cond x a b =>
    unfold zsa at h
    split at h
    ·split at h
     ·exact ih _ _ _ _ h
     ·exact ih _ _ _ _ h
    ·cases h
   case block id body =>
    rw [yc] at h
    obtain ⟨⟨e1,s1⟩,h1,h2⟩:=h
    have i1:=ih _ _ _ _ h1
    unfold ztt at h2
    split at h2
    ·rename_i heq
     injection heq with q1 q2
     subst q2
     split at h2 <;> (injection h2 with _ h2; subst h2; exact i1)
    ·injection h2 with _ h2
     subst h2
     exact i1
   case loop live objs body =>
    rw [yb] at h
    obtain ⟨⟨e1,s1⟩,h1,h2⟩:=h
    have i1:=ih _ _ _ _ h1
    cases e1 <;> simp only [zpN] at h2
    case normal =>
     rw [yb] at h2
     obtain ⟨s2,h2,h3⟩:=h2
     have i2:=zh0 h2
     have i3:=ih _ _ _ _ h3
     exact ⟨i3.1.trans (i2.1.trans i1.1),i3.2.trans (i2.2.trans i1.2)⟩
    all_goals
     injection h2 with h2
     injection h2 with _ h2
     subst h2
     exact i1
   case scope body => exact ih _ _ _ _ h
   case sc body cur =>
    rw [yb] at h
    obtain ⟨⟨e1,s1⟩,h1,h2⟩:=h
    have i1:=ih _ _ _ _ h1
    unfold scK at h2
    split at h2
    ·rename_i heq
     injection heq with q1 q2
     subst q2
     split at h2
     ·have i2:=ih _ _ _ _ h2; exact ⟨i2.1.trans i1.1,i2.2.trans i1.2⟩
     ·injection h2 with h2; injection h2 with _ h2; subst h2; exact i1
    ·injection h2 with h2
     injection h2 with _ h2
     subst h2
     exact i1
structure Draws where
 a : List Tmp → Nat → Array Go.Oper → List Oper → Bool
 b : List Tmp → Nat → Array Go.Oper → List (Nat × Nat) → List Oper → Bool
 c : List Tmp → Nat → Go.Code → Spec → Bool
def zo (P : Program) (CD : Draws) (κ : List Tmp) (nt : Nat) : Go.Code → Code → Bool
 | .skip,.skip => true
 | c,.spec sp => CD.c κ nt c sp
 | .region _ ops draw,.regd ps xs => draw && CD.b κ nt ops ps xs
 | .region _ ops draw,.reg xs => if draw then CD.a κ nt ops xs else zqb P κ nt ops [] ops.toList xs
 | .seq a b,.seq a' b' => zo P CD κ nt a a' && zo P CD κ nt b b'
 | .cond c a b,.cond x a' b' => okX κ [] c x && zo P CD κ nt a a' && zo P CD κ nt b b'
 | .block id b,.block id' b' => (id == id') && zo P CD κ nt b b'
 | .loop b,.loop live _ b' => (live.length == κ.length) && zo P CD κ nt b b'
 | .exit id,.exit id' live _ => (id == id') && (live.length == κ.length)
 | .scope b,.scope b' => zo P CD κ nt b b'
 | .label l,.label l' => l == l'
 | .goto l,.goto l' live _ => (l == l') && (live.length == κ.length)
 | .ret,.ret live => live.length == κ.length
 | _,_ => false
def zzC (P : Program) (κ : List Tmp) (nt id : Nat) (gops : Array Go.Oper) (r r1 : R) : Prop:=∀ (g : G) (w : World) (a : Act) (Q : Exit → Act → World → Prop),
 Rel g w r.st → Fr κ [] nt g w r a → (∀ g' w' a' loc',Ext g w r.st g' w' r1.st → Rel g' w' r1.st → Fr κ loc' nt g' w' r1 a' → Q .normal a' w') → (Go.Code.region id gops true).wp P Q a w
structure DrawOk (P : Program) (CD : Draws) : Prop where
 a : ∀ (Cf : zad),zgX P Cf → ∀ (κ : List Tmp) (nt id : Nat) (gops : Array Go.Oper) (xs : List Oper),CD.a κ nt gops xs = true → ∀ (r r1 : R),r.rs = [] → steps Cf xs r = some r1 → zzC P κ nt id gops r r1
 b : ∀ (Cf : zad),zgX P Cf → ∀ (κ : List Tmp) (nt id : Nat) (gops : Array Go.Oper) (ps : List (Nat × Nat)) (xs : List Oper),CD.b κ nt gops ps xs = true → ∀ (r r1 : R),r.rs = [] → zwR Cf ps xs r = some r1 → zzC P κ nt id gops r r1
 lab : ∀ κ nt c sp,CD.c κ nt c sp = true → ∀ l,Go.findLabel c l = none
 c : ∀ (κ : List Tmp) (nt : Nat) (c : Go.Code) (sp : Spec),CD.c κ nt c sp = true → ∀ (s s1 : St),zAD sp s = some s1 → ∀ (g : G) (w : World) (a : Act) (Q : Exit → Act → World → Prop),
   Rel g w s.st → Fr κ [] nt g w ⟨[],s.env,s.st,s.base,s.lim⟩ a → (∀ g' w' a',Ext g w s.st g' w' s1.st → Rel g' w' s1.st → Fr κ [] nt g' w' ⟨[],s1.env,s1.st,s1.base,s1.lim⟩ a' → Q .normal a' w') → c.wp P Q a w
section
variable {P : Program} {CD : Draws} {κ : List Tmp} {nt : Nat}
theorem zjZ (hD : DrawOk P CD) : ∀ {c : Go.Code} {ac : Code} {l : Nat},zo P CD κ nt c ac = true → findLabel ac l = none → Go.findLabel c l = none
 | c,.seq a' b',l,h,hf => by
   cases c <;> simp only [zo,yd] at h
   rename_i a b
   simp only [ya] at h
   simp only [findLabel] at hf
   split at hf
   ·cases hf
   ·rename_i hfa
    simp only [Go.findLabel,zjZ hD h.1 hfa,zjZ hD h.2 hf]
 | c,.label l',l,h,hf => by
   cases c <;> simp only [zo,yd] at h
   rename_i l''
   simp only [beq_iff_eq] at h
   subst h
   simp only [findLabel] at hf
   split at hf
   ·cases hf
   ·rename_i hne
    have : (l'' == l) = false:=by simpa using hne
    simp [Go.findLabel,this]
 | c,.skip,l,h,hf => by cases c <;> simp_all [zo,Go.findLabel]
 | c,.reg _,l,h,hf => by cases c <;> simp_all [zo,Go.findLabel]
 | c,.regd _ _,l,h,hf => by cases c <;> simp_all [zo,Go.findLabel]
 | c,.spec sp,l,h,hf => hD.lab κ nt c sp (by simpa only [zo] using h) l
 | c,.cond _ _ _,l,h,hf => by cases c <;> simp_all [zo,Go.findLabel]
 | c,.block _ _,l,h,hf => by cases c <;> simp_all [zo,Go.findLabel]
 | c,.loop _ _ _,l,h,hf => by cases c <;> simp_all [zo,Go.findLabel]
 | c,.exit _ _ _,l,h,hf => by cases c <;> simp_all [zo,Go.findLabel]
 | c,.scope _,l,h,hf => by cases c <;> simp_all [zo,Go.findLabel]
 | c,.sc _ _,l,h,hf => by cases c <;> simp_all [zo]
 | c,.goto _ _ _,l,h,hf => by cases c <;> simp_all [zo,Go.findLabel]
 | c,.ret _,l,h,hf => by cases c <;> simp_all [zo,Go.findLabel]
theorem zm7 (hD : DrawOk P CD) : ∀ {c : Go.Code} {ac ar : Code} {l : Nat},zo P CD κ nt c ac = true → findLabel ac l = some ar → ∃ r,Go.findLabel c l = some r ∧ zo P CD κ nt r ar = true
 | c,.seq a' b',ar,l,h,hf => by
   cases c <;> simp only [zo,yd] at h
   rename_i a b
   simp only [ya] at h
   simp only [findLabel] at hf
   split at hf
   ·rename_i rest hfa
    injection hf with hf
    subst hf
    obtain ⟨r,h1,h2⟩:=zm7 hD h.1 hfa
    exact ⟨.seq r b,by simp only [Go.findLabel,h1],by simp [zo,h2,h.2]⟩
   ·rename_i hfa
    obtain ⟨r,h1,h2⟩:=zm7 hD h.2 hf
    exact ⟨r,by simp only [Go.findLabel,zjZ hD h.1 hfa,h1],h2⟩
 | c,.label l',ar,l,h,hf => by
   cases c <;> simp only [zo,yd] at h
   rename_i l''
   simp only [beq_iff_eq] at h
   subst h
   simp only [findLabel] at hf
   split at hf
   ·rename_i he
    injection hf with hf
    subst hf
    exact ⟨.skip,by simp [Go.findLabel,he],rfl⟩
   ·cases hf
 | c,.skip,_,l,h,hf => by simp [findLabel] at hf
 | c,.reg _,_,l,h,hf => by simp [findLabel] at hf
 | c,.cond _ _ _,_,l,h,hf => by simp [findLabel] at hf
 | c,.block _ _,_,l,h,hf => by simp [findLabel] at hf
 | c,.loop _ _ _,_,l,h,hf => by simp [findLabel] at hf
 | c,.exit _ _ _,_,l,h,hf => by simp [findLabel] at hf
 | c,.scope _,_,l,h,hf => by simp [findLabel] at hf
 | c,.sc _ _,_,l,h,hf => by simp [findLabel] at hf
 | c,.goto _ _ _,_,l,h,hf => by simp [findLabel] at hf
 | c,.ret _,_,l,h,hf => by simp [findLabel] at hf
end
section
variable {P : Program} {a : Act} {w : World} {Q : Exit → Act → World → Prop}
def RL (P : Program) (c : Go.Code) (Q : Exit → Act → World → Prop) (a : Act) (w : World) : Prop :=
 ∀ (b : Frame) (k : List Item) (cs : List Frame),∃ e a' w',Q e a' w' ∧ Arrives P (lone (b.at a (.code c :: .inLoop c :: k)) cs w) b k cs e a' w'
theorem zBU {c : Go.Code} (h : RL P c Q a w) : (Go.Code.loop c).wp P Q a w:=fun b k cs =>
 let ⟨e,a',w',q,r⟩:=h b k cs; ⟨e,a',w',q,.of_steps (.one step_loop) r⟩
theorem zxV {c : Go.Code} (h : c.wp P (Exit.then (RL P c Q) Q) a w) : RL P c Q a w:=by
 intro b k cs
 obtain ⟨e,a₁,w₁,hq,harr⟩:=h b (.inLoop c :: k) cs
 cases e with
 | normal =>
   obtain ⟨e₂,a₂,w₂,hq₂,harr₂⟩:=hq b k cs
   exact ⟨e₂,a₂,w₂,hq₂,.of_steps (Steps.trans harr (.one step_inLoop)) harr₂⟩
 | exit id => exact ⟨_,a₁,w₁,hq,.pass (x:=.inLoop c) rfl (fun _ _ => .inl (by simp)) harr⟩
 | goto l => exact ⟨_,a₁,w₁,hq,.pass (x:=.inLoop c) rfl (fun _ _ => .inl (by simp)) harr⟩
 | ret => exact ⟨_,a₁,w₁,hq,.pass (x:=.inLoop c) rfl (fun _ _ => .inl (by simp)) harr⟩
 | panic ch => exact ⟨_,a₁,w₁,hq,.pass (x:=.inLoop c) rfl (fun _ _ => .inl (by simp)) harr⟩
 | outgrown => exact ⟨_,a₁,w₁,hq,.pass (x:=.inLoop c) rfl (fun _ _ => .inl (by simp)) harr⟩
def RS (P : Program) (body : Go.Code) (Q : Exit → Act → World → Prop) (rest : Go.Code) (a : Act) (w : World) : Prop :=
 ∀ (b : Frame) (k : List Item) (cs : List Frame),∃ e a' w',Q e a' w' ∧ Arrives P (lone (b.at a (.code rest :: .inScope body :: k)) cs w) b k cs e a' w'
def Exit.inSc (P : Program) (body : Go.Code) (Q : Exit → Act → World → Prop) : Exit → Act → World → Prop
 | .goto l,a,w => match Go.findLabel body l with
   | some r => RS P body Q r a w
   | none => Q (.goto l) a w
 | e,a,w => Q e a w
theorem zA6 {body : Go.Code} (h : RS P body Q body a w) : (Go.Code.scope body).wp P Q a w:=fun b k cs =>
 let ⟨e,a',w',q,r⟩:=h b k cs; ⟨e,a',w',q,.of_steps (.one step_scope) r⟩
theorem zDK {body rest : Go.Code} (h : rest.wp P (Exit.inSc P body Q) a w) : RS P body Q rest a w:=by
 intro b k cs
 obtain ⟨e,a₁,w₁,hq,harr⟩:=h b (.inScope body :: k) cs
 cases e with
 | normal => exact ⟨.normal,a₁,w₁,hq,Steps.trans harr (.one step_inScope)⟩
 | exit id => exact ⟨.exit id,a₁,w₁,hq,fun k' hk => harr k' (by simp [exitTo,hk])⟩
 | goto l =>
   simp only [Exit.inSc] at hq
   cases hf : Go.findLabel body l with
   | none =>
     rw [hf] at hq
     exact ⟨.goto l,a₁,w₁,hq,fun k' hk => harr k' (by simp [gotoIn,hf,hk])⟩
   | some r =>
     rw [hf] at hq
     obtain ⟨e₂,a₂,w₂,hq₂,harr₂⟩:=hq b k cs
     exact ⟨e₂,a₂,w₂,hq₂,.of_steps (harr _ (by simp [gotoIn,hf])) harr₂⟩
 | ret => exact ⟨_,a₁,w₁,hq,harr⟩
 | panic ch => exact ⟨_,a₁,w₁,hq,harr⟩
 | outgrown => exact ⟨_,a₁,w₁,hq,harr⟩
end
def zkz : Ex → Exit
 | .normal => .normal
 | .exit i => .exit i
 | .goto l => .goto l
 | .ret => .ret
section
variable {P : Program} {CD : Draws} {κ : List Tmp} {nt : Nat} {g0 : G} {w0 : World} {σ0 : zd} {T : Nat → Option Entry}
def zCk (g0 : G) (w0 : World) (σ0 : zd) (κ : List Tmp) (nt : Nat) (e : Ex) (s' : St) : Exit → Act → World → Prop:=fun x a w => x = zkz e ∧ ∃ g,At' g0 w0 σ0 κ nt g w s' a
theorem zob (hD : DrawOk P CD) (hcl : Clean g0 σ0.length) : ∀ (n : Nat),(∀ m,m < n → zgX P (zfy T (zN T m))) →
  (∀ (c : Go.Code) (ac : Code) (s : St) (e : Ex) (s' : St),zo P CD κ nt c ac = true → zN T n ac s = some (e,s') → ∀ g w a,σ0.length ≤ s.base → At' g0 w0 σ0 κ nt g w s a → c.wp P (zCk g0 w0 σ0 κ nt e s') a w) ∧
  (∀ (gb gc : Go.Code) (ab ac : Code) (s : St) (e : Ex) (s' : St),zo P CD κ nt gb ab = true → zo P CD κ nt gc ac = true → zN T n (.sc ab ac) s = some (e,s') → ∀ g w a,σ0.length ≤ s.base → At' g0 w0 σ0 κ nt g w s a → RS P gb (zCk g0 w0 σ0 κ nt e s') gc a w) ∧
  (∀ (gb : Go.Code) (live : List Bool) (objs : Nat) (ab : Code) (s : St) (e : Ex) (s' : St),live.length = κ.length → zo P CD κ nt gb ab = true → zN T n (.loop live objs ab) s = some (e,s') → ∀ g w a,σ0.length ≤ s.base → At' g0 w0 σ0 κ nt g w s a → RL P gb (zCk g0 w0 σ0 κ nt e s') a w)
 | 0,_ => ⟨fun _ _ _ _ _ _ h => by simp [zN] at h,fun _ _ _ _ _ _ _ _ _ h => by simp [zN] at h,fun _ _ _ _ _ _ _ _ _ h => by simp [zN] at h⟩
 | n + 1,hS => by
   obtain ⟨ih1,ih2,ih3⟩:=zob hD hcl n fun m hm => hS m (by omega)
   have hSn:=hS n (by omega)
   refine ⟨fun c ac s e s' hc h g w a hb A => ?_,fun gb gc ab ac s e s' hcb hcc h g w a hb A => ?_,fun gb live objs ab s e s' hl hc h g w a hb A => ?_⟩
   ·cases ac <;> simp only [zN] at h
    case skip =>
     injection h with h
     injection h with h1 h2
     subst h1 h2
     cases c <;> simp only [zo,yd] at hc
     exact wp_skip ⟨rfl,g,A⟩
    case label l =>
     injection h with h
     injection h with h1 h2
     subst h1 h2
     cases c <;> simp only [zo,yd] at hc
     exact wp_label ⟨rfl,g,A⟩
    case ret live =>
     injection h with h
     injection h with h1 h2
     subst h1 h2
     cases c <;> simp only [zo,yd,beq_iff_eq] at hc
     exact wp_ret ⟨rfl,g,A.ext,A.rel,A.fr.clr hc⟩
    case exit id live objs =>
     rw [yc] at h
     obtain ⟨s1,h1,h⟩:=h
     injection h with h2 h3
     subst h2 h3
     cases c <;> simp only [zo,yd,ya,beq_iff_eq] at hc
     obtain ⟨rfl,hl⟩:=hc
     obtain ⟨g',A'⟩:=zn7 hcl hb hl h1 A
     exact wp_exit ⟨rfl,g',A'⟩
    case goto l live objs =>
     rw [yc] at h
     obtain ⟨s1,h1,h⟩:=h
     injection h with h2 h3
     subst h2 h3
     cases c <;> simp only [zo,yd,ya,beq_iff_eq] at hc
     obtain ⟨rfl,hl⟩:=hc
     obtain ⟨g',A'⟩:=zn7 hcl hb hl h1 A
     exact wp_goto ⟨rfl,g',A'⟩
    case reg xs =>
     rw [yc] at h
     obtain ⟨r1,h1,h⟩:=h
     injection h with h2 h3
     subst h2 h3
     have hend : ∀ g' w' a' loc',Ext g w s.st g' w' r1.st → Rel g' w' r1.st → Fr κ loc' nt g' w' r1 a' → zCk g0 w0 σ0 κ nt .normal ⟨r1.env,r1.st,s.base,s.lim⟩ .normal a' w':=fun g' w' a' loc' H R1 F1 =>
      ⟨rfl,g',A.ext.trans H,R1,Fr.bare (rs:=r1.rs) (b:=r1.base) (l:=r1.lim) F1⟩
     cases c <;> simp only [zo,yd] at hc
     rename_i id ops draw
     cases draw
     ·simp only [yd,if_false] at hc
      refine wp_region ?_
      rw [List.range_eq_range']
      have:=zsN (Q:=zCk g0 w0 σ0 κ nt .normal ⟨r1.env,r1.st,s.base,s.lim⟩) hSn ops.toList xs 0 (loc:=[]) (fun j => by simp) hc h1 A.rel A.fr hend
      simpa using this
     ·simp only [if_true] at hc
      exact hD.a _ hSn κ nt id ops xs hc _ r1 rfl h1 g w a _ A.rel A.fr hend
    case regd ps xs =>
     rw [yc] at h
     obtain ⟨r1,h1,h⟩:=h
     injection h with h2 h3
     subst h2 h3
     have hend : ∀ g' w' a' loc',Ext g w s.st g' w' r1.st → Rel g' w' r1.st → Fr κ loc' nt g' w' r1 a' → zCk g0 w0 σ0 κ nt .normal ⟨r1.env,r1.st,s.base,s.lim⟩ .normal a' w':=fun g' w' a' loc' H R1 F1 =>
      ⟨rfl,g',A.ext.trans H,R1,Fr.bare (rs:=r1.rs) (b:=r1.base) (l:=r1.lim) F1⟩
     cases c <;> simp only [zo,yd,ya] at hc
     rename_i id ops draw
     obtain ⟨rfl,hc⟩:=hc
     exact hD.b _ hSn κ nt id ops ps xs hc _ r1 rfl h1 g w a _ A.rel A.fr hend
    case spec sp =>
     rw [yc] at h
     obtain ⟨s1,h1,h⟩:=h
     injection h with h2 h3
     subst h2 h3
     have hc' : CD.c κ nt c sp = true:=by simpa only [zo] using hc
     exact hD.c κ nt c sp hc' s s1 h1 g w a _ A.rel A.fr fun g' w' a' H R1 F1 => ⟨rfl,g',A.ext.trans H,R1,F1⟩
    case seq a1 b1 =>
     rw [yb] at h
     obtain ⟨⟨e1,s1⟩,h1,h2⟩:=h
     cases c <;> simp only [zo,yd,ya] at hc
     have hbase:=zdj T n _ _ _ _ h1
     refine wp_seq (wp_mono (ih1 _ _ _ _ _ hc.1 h1 g w a hb A) fun x a' w' hx => ?_)
     obtain ⟨rfl,g',A'⟩:=hx
     cases e1 <;> simp only [zsm] at h2 <;> simp only [zkz,Exit.then]
     case normal => exact ih1 _ _ _ _ _ hc.2 h2 g' w' a' (by rw [hbase.1]; exact hb) A'
     all_goals
      injection h2 with h2
      injection h2 with h2 h3
      subst h2 h3
      exact ⟨rfl,g',A'⟩
    case cond x a1 b1 =>
     unfold zsa at h
     cases c <;> simp only [zo,yd,ya] at hc
     have hv:=A.fr.get hc.1.1
     split at h
     ·rename_i t hget
      rw [hget] at hv
      obtain ⟨ev,_⟩:=zA hv
      refine wp_cond_split ev (fun ht => ?_) (fun ht => ?_)
      ·rw [if_pos ht] at h
       exact ih1 _ _ _ _ _ hc.1.2 h g w a hb A
      ·rw [if_neg (by simp [ht])] at h
       exact ih1 _ _ _ _ _ hc.2 h g w a hb A
     ·cases h
    case block id body =>
     rw [yc] at h
     obtain ⟨⟨e1,s1⟩,h1,h2⟩:=h
     cases c <;> simp only [zo,yd,ya,beq_iff_eq] at hc
     obtain ⟨rfl,hc⟩:=hc
     refine wp_block (wp_mono (ih1 _ _ _ _ _ hc h1 g w a hb A) fun x a' w' hx => ?_)
     obtain ⟨rfl,g',A'⟩:=hx
     cases e1 <;> simp only [ztt] at h2 <;> simp only [zkz,Exit.inBlock]
     case exit id' =>
      split at h2
      ·rename_i he
       injection h2 with h2 h3
       subst h2 h3
       rw [if_pos he]
       exact ⟨rfl,g',A'⟩
      ·rename_i he
       injection h2 with h2 h3
       subst h2 h3
       rw [if_neg he]
       exact ⟨rfl,g',A'⟩
     all_goals
      injection h2 with h2 h3
      subst h2 h3
      exact ⟨rfl,g',A'⟩
    case loop live objs body =>
     cases c <;> simp only [zo,yd,ya,beq_iff_eq] at hc
     refine zBU (zxV ?_)
     rw [yb] at h
     obtain ⟨⟨e1,s1⟩,h1,h2⟩:=h
     have hbase:=zdj T n _ _ _ _ h1
     refine wp_mono (ih1 _ _ _ _ _ hc.2 h1 g w a hb A) fun x a' w' hx => ?_
     obtain ⟨rfl,g',A'⟩:=hx
     cases e1 <;> simp only [zpN] at h2 <;> simp only [zkz,Exit.then]
     case normal =>
      rw [yb] at h2
      obtain ⟨s2,h2,h3⟩:=h2
      obtain ⟨g2,A2⟩:=zn7 hcl (by rw [hbase.1]; exact hb) hc.1 h2 A'
      exact ih3 _ _ _ _ _ _ _ hc.1 hc.2 h3 g2 w' a' (by rw [(zh0 h2).1,hbase.1]; exact hb) A2
     all_goals
      injection h2 with h2
      injection h2 with h2 h3
      subst h2 h3
      exact ⟨rfl,g',A'⟩
    case scope body =>
     cases c <;> simp only [zo,yd] at hc
     exact zA6 (ih2 _ _ _ _ _ _ _ hc hc h g w a hb A)
    case sc => cases c <;> simp [zo] at hc
   ·simp only [zN] at h
    rw [yb] at h
    obtain ⟨⟨e1,s1⟩,h1,h2⟩:=h
    have hbase:=zdj T n _ _ _ _ h1
    refine zDK (wp_mono (ih1 _ _ _ _ _ hcc h1 g w a hb A) fun x a' w' hx => ?_)
    obtain ⟨rfl,g',A'⟩:=hx
    cases e1 <;> simp only [scK] at h2 <;> simp only [zkz,Exit.inSc]
    case goto l =>
     cases hf : findLabel ab l with
     | none =>
       rw [hf] at h2
       rw [zjZ hD hcb hf]
       injection h2 with h2
       injection h2 with h2 h3
       subst h2 h3
       exact ⟨rfl,g',A'⟩
     | some ar =>
       rw [hf] at h2
       obtain ⟨rr,q1,q2⟩:=zm7 hD hcb hf
       rw [q1]
       exact ih2 _ _ _ _ _ _ _ hcb q2 h2 g' w' a' (by rw [hbase.1]; exact hb) A'
    all_goals
     injection h2 with h2
     injection h2 with h2 h3
     subst h2 h3
     exact ⟨rfl,g',A'⟩
   ·simp only [zN] at h
    refine zxV ?_
    rw [yb] at h
    obtain ⟨⟨e1,s1⟩,h1,h2⟩:=h
    have hbase:=zdj T n _ _ _ _ h1
    refine wp_mono (ih1 _ _ _ _ _ hc h1 g w a hb A) fun x a' w' hx => ?_
    obtain ⟨rfl,g',A'⟩:=hx
    cases e1 <;> simp only [zpN] at h2 <;> simp only [zkz,Exit.then]
    case normal =>
     rw [yb] at h2
     obtain ⟨s2,h2,h3⟩:=h2
     obtain ⟨g2,A2⟩:=zn7 hcl (by rw [hbase.1]; exact hb) hl h2 A'
     exact ih3 _ _ _ _ _ _ _ hl hc h3 g2 w' a' (by rw [(zh0 h2).1,hbase.1]; exact hb) A2
    all_goals
     injection h2 with h2
     injection h2 with h2 h3
     subst h2 h3
     exact ⟨rfl,g',A'⟩
end
end Go.A
namespace Go.A
def zja (P : Program) (κ : List Tmp) : List ResultVar → List (Nat × Option (Option Nat)) → Bool
 | [],[] => true
 | .tmp t :: rs,(i,none) :: xs => (κ[i]? == some t) && zja P κ rs xs
 | .cell t ty :: rs,(i,some sz) :: xs => (κ[i]? == some t) && zDR P ty sz && zja P κ rs xs
 | _,_ => false
def zjo : List Nat → Bool
 | [] => true
 | x :: xs => !xs.contains x && zjo xs
theorem zps : ∀ {xs : List Nat},zjo xs = true → xs.Nodup
 | [],_ => List.nodup_nil
 | x :: xs,h => by
   simp only [zjo,ya,yl] at h
   exact List.nodup_cons.2 ⟨by simpa using h.1,zps h.2⟩
def zvg (P : Program) (CD : Draws) (κ : List Tmp) (gf : Func) (fn : Fun) : Bool :=
 (match gf.body with
  | some c => zo P CD κ gf.ntmps c fn.body
  | none => false) &&
 zjo κ && κ.all (fun t => decide (t < gf.ntmps)) && κ.length == fn.nslots && decide (fn.np ≤ fn.nslots) && decide (fn.np ≤ gf.ntmps) && (κ.take fn.np == yj fn.np) && zja P κ gf.results.toList fn.results
def zw5 (P : Program) (CD : Draws) (T : Nat → Option Entry) : Prop:=∀ f,
 (∀ fn, T f = some (.fn fn) → ∃ gf κ, P.funcs[f]? = some gf ∧ (gf.name == "runtime.NumGoroutine") = false ∧ zvg P CD κ gf fn = true) ∧
 (∀ ext,T f = some (.ext ext) → ∀ args σ v σ',ext args σ = some (v,σ') → Enters P f ∧ ∀ g w us,Rel g w σ → zz g w σ args us → Calls P f us.toArray w fun e w' => ∃ u g',e = .returned u ∧ zf g' w' σ' v u ∧ Rel g' w' σ' ∧ Ext g w σ g' w' σ')
section
variable {P : Program} {CD : Draws} {κ : List Tmp} {nt : Nat} {g : G} {w : World} {σ : zd} {T : Nat → Option Entry} {a : Act}
theorem zuZ {t : TypeId} {x : Operand} {u : Value} (h : (execOp a.eval { (default : Go.Oper) with op:=.load t x }).run P w = .ok (.value u) w) : ∃ ad,a.eval x = .pointer (some ad) ∧ (loadVar t ad).run P w = .ok u w ∨ ¬ ∃ ad,a.eval x = .pointer (some ad):=by
 by_cases hx : ∃ ad,a.eval x = .pointer (some ad)
 ·obtain ⟨ad,hx⟩:=hx
  refine ⟨ad,.inl ⟨hx,?_⟩⟩
  unfold execOp at h
  simp only [hx] at h
  simp only [Instr.loadAt,Instr.sureAddr,Sem.run_bind,Sem.run_pure,Result.andThen_ok] at h
  cases hr : (loadVar t ad).run P w with
  | ok v w1 =>
    rw [hr] at h
    simp only [Result.andThen_ok] at h
    injection h with h1 h2
    injection h1 with h1
    rw [h1,h2]
  | halt x w1 =>
    rw [hr] at h
    simp [Result.andThen] at h
 ·exact ⟨⟨0,0,none⟩,.inr hx⟩
def zvi (tmps : Array Value) : ResultVar → Sem Value
 | .tmp t => pure (tmps.getD t undef)
 | .cell ad t => do loadVar t (← asAddr (tmps.getD ad undef))
theorem zwW (gf : Func) (tmps : Array Value) : results gf tmps = (do
  let vs ← gf.results.mapM (zvi tmps)
  pure (if h : vs.size = 1 then vs[0] else .tuple vs)):=by
 unfold results
 congr 1
theorem zuP {r : R} (R0 : Rel g w r.st) (F : Fr κ [] nt g w r a) : ∀ {rs : List ResultVar} {xs : List (Nat × Option (Option Nat))} {raw : Bool} {lim : Nat} {vs : List V},zja P κ rs xs = true → outs raw lim r.st r.env xs = some vs →
  ∃ us v0s,(rs.mapM (zvi a.tmps)).run P w = .ok us w ∧ zz g w r.st v0s us ∧ v0s.length = vs.length ∧ ∀ (i : Nat) (v : V),vs[i]? = some v → ∃ v0,v0s[i]? = some v0 ∧ zz5 raw lim r.st v0 = some v
 | [],[],raw,lim,vs,_,h => by
   simp only [outs,Option.some.injEq] at h
   subst h
   exact ⟨[],[],by simp,by simp only [zz],rfl,fun i v h => by simp at h⟩
 | .tmp t :: rs,(i,none) :: xs,raw,lim,vs,hc,h => by
   simp only [zja,ya,beq_iff_eq] at hc
   simp only [outs] at h
   obtain ⟨v,vs',h1,h2,rfl⟩:=zez h
   obtain ⟨us,v0s,k1,k2,k3,k4⟩:=zuP R0 F hc.2 h2
   simp only [zsC,yo] at h1
   refine ⟨a.tmps.getD t undef :: us,r.env.getD i vun :: v0s,by simp [yD,zvi,k1],by simp only [zz]; exact ⟨_,_,rfl,F.env i t hc.1,k2⟩,by simp [k3],fun j v' hj => ?_⟩
   cases j with
   | zero => simp at hj; subst hj; exact ⟨_,by simp,h1⟩
   | succ j => simpa using k4 j v' (by simpa using hj)
 | .cell t ty :: rs,(i,some sz) :: xs,raw,lim,vs,hc,h => by
   simp only [zja,ya,beq_iff_eq] at hc
   simp only [outs] at h
   obtain ⟨v,vs',h1,h2,rfl⟩:=zez h
   obtain ⟨us,v0s,k1,k2,k3,k4⟩:=zuP R0 F hc.2 h2
   rw [yb] at h1
   obtain ⟨v0,h3,h4⟩:=h1
   simp only [zsC] at h3
   have hx : zf g w r.st (r.env.getD i vun) (a.eval (.tmp t)):=F.env i t hc.1.1
   obtain ⟨u,q1,q2⟩:=zvO (P:=P) (o:={ (default : Go.Oper) with op:=.load ty (.tmp t) }) R0 rfl (zne hc.1.2) hx h3
   have hptr : ∃ ad,a.eval (.tmp t) = .pointer (some ad):=by
    unfold ald at h3
    split at h3 <;> first
     | (rename_i he; rw [he] at hx; simp only [zf,zw] at hx; first | (obtain ⟨_,_,_,_,_,_,ad,e⟩:=hx; exact ⟨ad,e⟩) | (obtain ⟨_,_,e,_⟩:=hx; exact ⟨_,e⟩))
     | cases h3
   obtain ⟨ad,had | hno⟩:=zuZ q1
   ·have he : a.tmps.getD t undef = .pointer (some ad):=had.1
    refine ⟨u :: us,v0 :: v0s,by simp only [yD,zvi,he,asAddr,Sem.run_bind,Sem.run_pure,Result.andThen_ok,had.2,k1],by simp only [zz]; exact ⟨_,_,rfl,q2,k2⟩,by simp [k3],fun j v' hj => ?_⟩
    cases j with
    | zero => simp at hj; subst hj; exact ⟨_,by simp,h4⟩
    | succ j => simpa using k4 j v' (by simpa using hj)
   ·exact absurd hptr hno
 | [],_ :: _,_,_,_,hc,_ => by simp [zja] at hc
 | .tmp _ :: _,[],_,_,_,hc,_ => by simp [zja] at hc
 | .cell _ _ :: _,[],_,_,_,hc,_ => by simp [zja] at hc
 | .tmp _ :: _,(_,some _) :: _,_,_,_,hc,_ => by simp [zja] at hc
 | .cell _ _ :: _,(_,none) :: _,_,_,_,hc,_ => by simp [zja] at hc
theorem znk {lim : Nat} (hl : σ.length ≤ lim) : ∀ {cs : List C} {xs : List Fz},zix lim σ cs = some xs → zdo cs = some xs
 | [],xs,h => by simpa only [zix,zdo] using h
 | c :: cs,xs,h => by
   simp only [zix] at h
   simp only [zdo]
   unfold zfO at h ⊢
   split at h
   ·rename_i x ys h1 h2
    injection h with h
    subst h
    rw [znk hl h2]
    have : zui c = some x:=by
     unfold zBH at h1
     split at h1
     ·split at h1
      ·rename_i hid
       rw [yc] at h1
       obtain ⟨_,h1,_⟩:=h1
       rw [yb] at h1
       obtain ⟨_,h1,_⟩:=h1
       have:=zb h1
       omega
      ·cases h1
     ·exact h1
    rw [this]
   ·cases h
theorem znF (R0 : Rel g w σ) {lim : Nat} : ∀ {cs : List C} {xs : List Fz} {us : List Value},zix lim σ cs = some xs → zv g w σ cs us → zv (g.drop lim w) w (σ.take lim) (xs.map C.f) us
 | [],xs,us,h,hr => by
   simp only [zix,Option.some.injEq] at h
   subst h
   simpa only [List.map_nil,zv] using hr
 | c :: cs,xs,us,h,hr => by
   simp only [zix] at h
   unfold zfO at h
   split at h
   ·rename_i x ys h1 h2
    injection h with h
    subst h
    simp only [zv] at hr
    obtain ⟨v,vs,rfl,k1,k2⟩:=hr
    simp only [List.map_cons,zv]
    refine ⟨v,vs,rfl,?_,znF R0 h2 k2⟩
    unfold zBH at h1
    split at h1
    ·split at h1
     ·rename_i id ver lo n hid
      rw [yc] at h1
      obtain ⟨ys,h1,rfl⟩:=h1
      simp only [zw]
      refine zmS R0 (fun b o h => .inl h) (fun o => ?_) h1 (by simpa only [zf] using k1)
      by_cases hx : ∃ sz es,σ[id]? = some (.cells ver sz es) ∧ es ≠ []
      ·obtain ⟨sz,es,q1,q2⟩:=hx
       obtain ⟨k0,_,arr,t,k3,_⟩:=R0.ob id _ q1 q2
       exact .inl (.inr ⟨(yg.1 k3).1,id,hid,k0⟩)
      ·exact .inr hx
     ·cases h1
    ·simp only [zw]
     exact zb6 zgE _ v (zfH h1 k1)
   ·cases h
theorem zCi {lim : Nat} {raw : Bool} {v0 v : V} {u : Value} (hl : σ.length ≤ lim) (h : zz5 raw lim σ v0 = some v) (hv : zf g w σ v0 u) : zf g w σ v u:=by
 unfold zz5 at h
 split at h
 ·injection h with h; subst h; exact hv
 ·unfold zCx at h
  split at h
  ·split at h
   ·rename_i id ver lo n hid
    rw [yc] at h
    obtain ⟨xs,h,_⟩:=h
    rw [yb] at h
    obtain ⟨ob,h,_⟩:=h
    have:=zb h
    omega
   ·cases h
  ·injection h with h
   subst h
   simp only [zf,zw] at hv
   simp only [vsl,zf,zw]
   exact hv.1
  ·rw [yc] at h
   obtain ⟨xs,h,rfl⟩:=h
   simp only [zf] at hv
   obtain ⟨us,h1,h2⟩:=hv
   simp only [zAo,zf]
   exact ⟨us,h1,zmD (zgN.refl _ _) rfl (znk hl h) h2⟩
  ·injection h with h; subst h; exact hv
theorem zBC (R0 : Rel g w σ) {lim : Nat} {raw : Bool} {v0 v : V} {u : Value} (h : zz5 raw lim σ v0 = some v) (hv : zf g w σ v0 u) (hlt : v.lt lim = true) : zf (g.drop lim w) w (σ.take lim) v u:=by
 unfold zz5 at h
 split at h
 ·injection h with h; subst h; exact zje _ _ hv hlt
 ·unfold zCx at h
  split at h
  ·split at h
   ·rename_i id ver lo n hid
    rw [yc] at h
    obtain ⟨xs,h,rfl⟩:=h
    simp only [vsl,zf,zw]
    refine zmS R0 (fun b o h => .inl h) (fun o => ?_) h hv
    by_cases hx : ∃ sz es,σ[id]? = some (.cells ver sz es) ∧ es ≠ []
    ·obtain ⟨sz,es,k1,k2⟩:=hx
     obtain ⟨k0,_,arr,t,k3,_⟩:=R0.ob id _ k1 k2
     exact .inl (.inr ⟨(yg.1 k3).1,id,hid,k0⟩)
    ·exact .inr hx
   ·cases h
  ·injection h with h
   subst h
   simp only [zf,zw] at hv
   simp only [vsl,zf,zw]
   exact zb6 zgE _ u hv.1
  ·rw [yc] at h
   obtain ⟨xs,h,rfl⟩:=h
   simp only [zf] at hv
   obtain ⟨us,h1,h2⟩:=hv
   simp only [zAo,zf]
   exact ⟨us,h1,znF R0 h h2⟩
  ·injection h with h; subst h; exact zje _ _ hv hlt
theorem zhl : ∀ {vs : List V} {us : List Value},zz g w σ vs us → us.length = vs.length
 | [],us,h => by simp only [zz] at h; simp [h]
 | c :: cs,us,h => by
   simp only [zz] at h
   obtain ⟨v,vs,rfl,_,h3⟩:=h
   simp [zhl h3]
theorem zsk : ∀ {vs : List V} {us : List Value},us.length = vs.length → (∀ (j : Nat) (c : V) (u : Value),vs[j]? = some c → us[j]? = some u → zf g w σ c u) → zz g w σ vs us
 | [],us,hl,_ => by simp only [zz]; exact ym (by simpa using hl)
 | c :: cs,[],hl,_ => by simp at hl
 | c :: cs,v :: vs,hl,h => by
   simp only [zz]
   exact ⟨v,vs,rfl,h 0 c v (by simp) (by simp),zsk (by simpa using hl) fun j c u hc hu => h (j + 1) c u (by simpa using hc) (by simpa using hu)⟩
theorem zyG {n : Nat} : ∀ {vs : List V} {i : Nat} {v : V},V.lts n vs = true → vs[i]? = some v → v.lt n = true
 | [],_,_,_,h => by simp at h
 | x :: xs,0,v,hl,h => by
   simp only [V.lts,ya] at hl
   simp at h
   subst h
   exact hl.1
 | x :: xs,i + 1,v,hl,h => by
   simp only [V.lts,ya] at hl
   exact zyG hl.2 (by simpa using h)
theorem zlj {g0 : G} {w0 : World} {σ0 : zd} {fn : Fun} {gf : Func} {e : Ex} {s : St} {v : V} {σ' : zd} (hc : Clean g0 σ0.length) (hlim : σ0.length ≤ s.lim) (hr : zja P κ gf.results.toList fn.results = true) (h : leave fn.raw fn.results (e,s) = some (v,σ')) (A : At' g0 w0 σ0 κ nt g w s a) :
  (e = .normal ∨ e = .ret) ∧ a.defers = [] ∧ ∃ u,(results gf a.tmps).run P w = .ok u w ∧ ∃ g',zf g' w σ' v u ∧ Rel g' w σ' ∧ Ext g0 w0 σ0 g' w σ':=by
 have h' : (e = .normal ∨ e = .ret) ∧ (outs fn.raw s.lim s.st s.env fn.results).bind (zlD s.lim s.st) = some (v,σ'):=by
  cases e <;> simp only [leave] at h
  case normal => exact ⟨.inl rfl,h⟩
  case ret => exact ⟨.inr rfl,h⟩
  all_goals cases h
 refine ⟨h'.1,A.fr.df,?_⟩
 have h:=h'.2
 rw [yb] at h
 obtain ⟨vs,h1,h2⟩:=h
 unfold zlD at h2
 rw [yc] at h2
 obtain ⟨σ2,h2,h3⟩:=h2
 injection h3 with h3 h4
 subst h3 h4
 obtain ⟨us,v0s,k1,k2,k3,k4⟩:=zuP (P:=P) A.rel A.fr hr h1
 have hul:=zhl k2
 have hrun : (results gf a.tmps).run P w = .ok (if us.length = 1 then us.getD 0 undef else .tuple us.toArray) w:=by
  rw [zwW,Array.mapM_eq_mapM_toList]
  simp only [Sem.run_bind,Sem.run_map,k1]
  simp only [Result.andThen_ok,Sem.run_pure]
  congr 1
  by_cases h : us.length = 1
  ·match us,h with
   | [x],_ => simp
  ·simp [h]
 have hval : ∀ {g' : G},zz g' w σ2 vs us → zf g' w σ2 (zCs vs) (if us.length = 1 then us.getD 0 undef else .tuple us.toArray):=fun {g'} hv => by
  have hl:=zhl hv
  unfold zCs
  split
  ·simp only [zz] at hv
   obtain ⟨x,xs,rfl,q1,rfl⟩:=hv
   simpa using q1
  ·rename_i hne
   have : us.length ≠ 1:=fun h => by
    rw [hl] at h
    match vs,h with
    | [x],_ => exact hne x rfl
   rw [if_neg this]
   simp only [zf]
   exact ⟨_,rfl,by simpa using hv⟩
 refine ⟨_,hrun,?_⟩
 unfold zlW at h2
 split at h2
 ·rename_i hle
  injection h2 with h2
  subst h2
  refine ⟨g,hval (zsk (by omega) fun j c u hc hu => ?_),A.rel,A.ext⟩
  obtain ⟨v0,q1,q2⟩:=k4 j c hc
  obtain ⟨u',q3,q4⟩:=zjX k2 q1
  rw [hu] at q3
  injection q3 with q3
  subst q3
  exact zCi hle q2 q4
 ·split at h2
  ·rename_i hlt
   injection h2 with h2
   subst h2
   simp only [ya] at hlt
   refine ⟨g.drop s.lim w,hval (zsk (by omega) fun j c u hc hu => ?_),zvQ A.rel hlt.2,zvv A.ext hc hlim⟩
   obtain ⟨v0,q1,q2⟩:=k4 j c hc
   obtain ⟨u',q3,q4⟩:=zjX k2 q1
   rw [hu] at q3
   injection q3 with q3
   subst q3
   exact zBC A.rel q2 q4 (zyG hlt.1 hc)
  ·cases h2
theorem zk7 {gf : Func} {fn : Fun} {args : List V} {us : List Value} (R0 : Rel g w σ) (hv : zz g w σ args us) (hnd : zjo κ = true) (hall : κ.all (fun t => decide (t < gf.ntmps)) = true) (hlen : κ.length = fn.nslots) (h1 : fn.np ≤ fn.nslots) (h2 : fn.np ≤ gf.ntmps) (hk : κ.take fn.np = yj fn.np) (hnp : args.length = fn.np) :
  At' (g.clean σ.length) w σ κ gf.ntmps (g.clean σ.length) w (enter fn args σ) { tmps:=us.toArray ++ yE (gf.ntmps - us.toArray.size) undef,defers:=[] }:=by
 have hul:=zhl hv
 refine ⟨Ext.refl _ _ _,zzT R0,⟨by simp; omega,by simp [enter]; omega,fun i t ht => ?_,fun d t h => by simp at h,fun d t h => by simp at h,zps hnd,fun t ht => by simpa using List.all_eq_true.1 hall t ht,rfl⟩⟩
 by_cases hi : i < args.length
 ·have : t = i:=by
   have e1 : (κ.take fn.np)[i]? = some t:=by rw [ziB (by omega)]; exact ht
   rw [hk,yw (by omega)] at e1
   injection e1 with e1
   exact e1.symm
  subst this
  have e2 : (args ++ yp (fn.nslots - args.length) vun).getD t vun = args[t]:=by
   rw [yk,List.getElem?_append_left hi,yh hi]
   rfl
  show zf (g.clean σ.length) w σ ((args ++ yp (fn.nslots - args.length) vun).getD t vun) _
  rw [e2]
  obtain ⟨u,q1,q2⟩:=zjX hv (yh hi)
  have e3 : (us.toArray ++ yE (gf.ntmps - us.toArray.size) undef).getD t undef = u:=by
   rw [ye,Array.getElem?_append_left (by simp; omega)]
   simp [q1]
  rw [e3]
  exact zg1 (g:=g) (g':=g.clean σ.length) rfl rfl rfl _ _ q2
 ·have e2 : (args ++ yp (fn.nslots - args.length) vun).getD i vun = vun:=by
   rw [yk,List.getElem?_append_right (by omega),List.getElem?_replicate]
   split <;> rfl
  show zf (g.clean σ.length) w σ ((args ++ yp (fn.nslots - args.length) vun).getD i vun) _
  rw [e2]
  simp only [vun,zf,zw]
theorem zDH (hD : DrawOk P CD) (hT : zw5 P CD T) (n : Nat) : zgX P (zfy T (zN T n)):=by
 induction n using yA with
 | _ n ih =>
   intro f args σ v σ' h
   unfold zfy at h
   split at h
   ·rename_i fn hfn
    split at h
    ·rename_i hnp
     obtain ⟨gf,κ,hgf,hname,hchk⟩:=(hT f).1 fn hfn
     unfold zvg at hchk
     simp only [ya,beq_iff_eq,decide_eq_true_eq] at hchk
     obtain ⟨⟨⟨⟨⟨⟨⟨h1,h2⟩,h3⟩,h4⟩,h5⟩,h6⟩,h7⟩,h8⟩:=hchk
     split at h1
     ·rename_i c hbody
      refine ⟨⟨gf,c,hgf,hname,hbody⟩,fun g w us R0 hv => ?_⟩
      rw [yb] at h
      obtain ⟨⟨e,s⟩,hex,hleave⟩:=h
      have hA:=zk7 (gf:=gf) R0 hv h2 h3 h4 h5 h6 h7 hnp
      have hbase:=zdj T n _ _ _ _ hex
      have hcode:=(zob (T:=T) (g0:=g.clean σ.length) (w0:=w) (σ0:=σ) (κ:=κ) (nt:=gf.ntmps) hD (zfM g σ.length) n ih).1 c fn.body _ e s h1 hex _ _ _ (yq _) hA
      refine calls_of_wp hgf hbody (wp_mono hcode fun x a' w' hx => ?_)
      obtain ⟨rfl,g',A'⟩:=hx
      obtain ⟨q1,q2,u,q3,g2,q4,q5,q6⟩:=zlj (gf:=gf) (zfM g σ.length) (by rw [hbase.2]; exact Nat.le_add_right _ _) h8 hleave A'
      have hend : a'.defers = [] ∧ ∃ v1,(results gf a'.tmps).run P w' = .ok v1 w' ∧ ∃ u g',(Ending.returned v1) = .returned u ∧ zf g' w' σ' v u ∧ Rel g' w' σ' ∧ Ext g w σ g' w' σ' :=
       ⟨q2,u,q3,u,G.under g w g2,rfl,zg1 (g:=g2) (g':=G.under g w g2) rfl rfl rfl _ _ q4,zpn q6 q5,zoH q6⟩
      rcases q1 with rfl | rfl
      ·exact hend
      ·exact hend
     ·cases h1
    ·cases h
   ·rename_i ext hext
    exact (hT f).2 ext hext args σ v σ' h
   ·cases h
theorem sound (hD : DrawOk P CD) (hT : zw5 P CD T) : zgX P (call T):=fun f args σ v σ' h => by
 obtain ⟨n,hn⟩:=zrE h
 exact zDH hD hT n f args σ v σ' hn
end
end Go.A
namespace Go.A
def zww (o : Go.Oper) : List Nat:=(o.after.toList.filter fun e => Region.binds .any e).map (·.on)
def zat (gops : Array Go.Oper) (j : Nat) : List Nat:=match gops[j]? with
 | some o => zww o
 | none => []
inductive Reach (gops : Array Go.Oper) : Nat → Nat → Prop where
 | edge {j i : Nat} : i ∈ zat gops j → Reach gops j i
 | more {j k i : Nat} : k ∈ zat gops j → Reach gops k i → Reach gops j i
def lo (gops : Array Go.Oper) (xs : List Oper) (i : Nat) : Option Tmp:=match gops[i]?,xs[i]? with
 | some o,some x => zaS o.dst x.dst
 | _,_ => none
def zhT (gops : Array Go.Oper) (xs : List Oper) (j : Nat) : List (Option Tmp):=(yj j).reverse.map (lo gops xs)
def zzY (gops : Array Go.Oper) (xs : List Oper) (j i : Nat) : Option Tmp:=if (zat gops j).contains i then lo gops xs i else none
def zff (gops : Array Go.Oper) (xs : List Oper) (j : Nat) : List (Option Tmp):=(yj j).reverse.map (zzY gops xs j)
theorem zjh {α : Type} (f : Nat → α) {j d : Nat} (h : d < j) : ((yj j).reverse.map f)[d]? = some (f (j - 1 - d)):=by
 rw [List.getElem?_map,List.getElem?_reverse (by simpa using h),List.length_range,yw (by omega)]
 rfl
section
variable {P : Program} {κ : List Tmp} {nt : Nat} {gops : Array Go.Oper} {xs : List Oper}
theorem zlQ {Cf : zad} : ∀ (xs : List Oper) (r r1 : R),steps Cf xs r = some r1 → ∃ rr : Nat → R,rr 0 = r ∧ rr xs.length = r1 ∧ ∀ i x,xs[i]? = some x → step Cf (rr i) x = some (rr (i + 1))
 | [],r,r1,h => by
   simp only [steps,Option.some.injEq] at h
   exact ⟨fun _ => r,rfl,h,fun i x h => by simp at h⟩
 | x :: xs,r,r1,h => by
   simp only [steps,yb] at h
   obtain ⟨r2,h1,h2⟩:=h
   obtain ⟨rr,k1,k2,k3⟩:=zlQ xs r2 r1 h2
   refine ⟨fun i => match i with
    | 0 => r
    | i + 1 => rr i,rfl,k2,fun i y hy => ?_⟩
   cases i with
   | zero =>
     simp at hy
     subst hy
     simp only [k1]
     exact h1
   | succ i => exact k3 i y (by simpa using hy)
structure Mid (gops : Array Go.Oper) (xs : List Oper) (κ : List Tmp) (nt p : Nat) (envD : (Nat → Bool) → List V) (v : Nat → V) (σD : (Nat → Bool) → zd) (g0 : G) (w0 : World) (σ0 : zd) (D : Nat → Bool) (g : G) (w : World) (a : Act) : Prop where
 ext : Ext g0 w0 σ0 g w (σD D)
 rel : Rel g w (σD D)
 size : a.tmps.size = nt
 df : a.defers = []
 slot : ∀ (i : Nat) (t : Tmp),κ[i]? = some t → zf g w (σD D) ((envD D).getD i vun) (a.tmps.getD t undef)
 done : ∀ i t,i < p → D i = true → lo gops xs i = some t → zf g w (σD D) (v i) (a.tmps.getD t undef)
def zba (D : Nat → Bool) (j : Nat) : Nat → Bool:=fun i => if i = j then true else D i
def Dof (listed : Array Bool) : Nat → Bool:=fun i => listed.getD i false
structure Plan (P : Program) (κ : List Tmp) (nt : Nat) (gops : Array Go.Oper) (xs : List Oper) (p : Nat) : Prop where
 len : xs.length = gops.size
 p_le : p ≤ gops.size
 back : ∀ j o,gops[j]? = some o → ∀ i ∈ zww o,i < j
 pre : ∀ j o x,j < p → gops[j]? = some o → xs[j]? = some x → okD κ nt o.dst x.dst = true
 apart : ∀ i j t,i < p → j < p → lo gops xs i = some t → lo gops xs j = some t → i = j
 tail : ∀ j o x,p ≤ j → gops[j]? = some o → xs[j]? = some x → okD κ nt o.dst x.dst = true ∧ zfJ κ (zhT gops xs j) gops o.guard x.guard = true ∧ zlB P κ (zhT gops xs j) o x.dst x.op = true ∧ ∀ i,i < j → Reach gops j i
variable {p b l : Nat} {envD : (Nat → Bool) → List V} {v : Nat → V} {σD : (Nat → Bool) → zd} {g0 : G} {w0 : World} {σ0 : zd} {rr : Nat → R}
def zhk (gops : Array Go.Oper) (D : Nat → Bool) : Prop:=∀ j,D j = true → ∀ i ∈ zat gops j,D i = true
theorem za0 {D : Nat → Bool} (hD : zhk gops D) {j i : Nat} (h : Reach gops j i) : (∀ i ∈ zat gops j,D i = true) → D i = true:=by
 induction h with
 | edge h => exact fun hj => hj _ h
 | more h _ ih => exact fun hj => ih fun i hi => hD _ (hj _ h) i hi
theorem zka {listed : Array Bool} (hs : listed.size = gops.size) {j : Nat} : j ∈ Region.ready .any gops listed ↔ (∃ o,gops[j]? = some o) ∧ Dof listed j = false ∧ ∀ i ∈ zat gops j,Dof listed i = true:=by
 rw [mem_ready]
 constructor
 ·rintro ⟨h0,o,ho,h⟩
  have hlt : j < gops.size:=(yg.1 ho).1
  refine ⟨⟨o,ho⟩,?_,fun i hi => ?_⟩
  ·unfold Dof
   rw [ye,yf (by omega)] at h0 ⊢
   exact h0
  ·unfold zat at hi
   rw [ho] at hi
   unfold zww at hi
   rw [yG] at hi
   obtain ⟨e,he,rfl⟩:=hi
   rw [yB] at he
   exact h e (by simpa using he.1) he.2
 ·rintro ⟨⟨o,ho⟩,h0,h⟩
  have hlt : j < gops.size:=(yg.1 ho).1
  refine ⟨?_,o,ho,fun e he hb => h e.on ?_⟩
  ·unfold Dof at h0
   rw [ye,yf (by omega)] at h0 ⊢
   exact h0
  ·unfold zat
   rw [ho]
   unfold zww
   rw [yG]
   exact ⟨e,by rw [yB]; exact ⟨by simpa using he,hb⟩,rfl⟩
theorem ziA {listed : Array Bool} (hs : listed.size = gops.size) {j : Nat} (hj : j < gops.size) : Dof (listed.setIfInBounds j true) = zba (Dof listed) j:=by
 funext i
 show (listed.setIfInBounds j true).getD i false = if i = j then true else listed.getD i false
 rw [ye,ye,Array.getElem?_setIfInBounds]
 by_cases h : j = i
 ·subst h
  simp [hs,hj]
 ·rw [if_neg h,if_neg (fun e => h e.symm)]
theorem zqS {D : Nat → Bool} (hD : zhk gops D) {j : Nat} (hj : ∀ i ∈ zat gops j,D i = true) : zhk gops (zba D j):=fun k hk i hi => by
 unfold zba at hk ⊢
 split
 ·rfl
 ·split at hk
  ·rename_i e; subst e; exact hj i hi
  ·exact hD k hk i hi
theorem zjw {listed : Array Bool} (hs : listed.size = gops.size) (hb : ∀ j o,gops[j]? = some o → ∀ i ∈ zww o,i < j) : ∀ (n : Nat) ,n < gops.size → Dof listed n = false → Region.ready .any gops listed ≠ []:=by
 intro n
 induction n using yA with
 | _ n ih =>
   intro hn hd hr
   by_cases h : ∀ i ∈ zat gops n,Dof listed i = true
   ·have : n ∈ Region.ready .any gops listed:=(zka hs).2 ⟨⟨gops[n],yf hn⟩,hd,h⟩
    rw [hr] at this
    simp at this
   ·simp only [Classical.not_forall] at h
    obtain ⟨i,hi,hne⟩:=h
    have hlt : i < n:=by
     unfold zat at hi
     rw [yf hn] at hi
     exact hb n _ (yf hn) i hi
    exact ih i hlt (by omega) (by simpa using hne) hr
theorem ztJ (pl : Plan P κ nt gops xs p) (hlen : ∀ D,(envD D).length = κ.length) (hnd : κ.Nodup) (hbd : ∀ t ∈ κ,t < nt) {D : Nat → Bool} {g : G} {w : World} {a : Act} (M : Mid gops xs κ nt p envD v σD g0 w0 σ0 D g w a) {j : Nat} (hj : j ≤ p) {f : Nat → Option Tmp} (hf : ∀ i t,i < j → f i = some t → D i = true ∧ lo gops xs i = some t) :
  Fr κ ((yj j).reverse.map f) nt g w ⟨(yj j).reverse.map v,envD D,σD D,b,l⟩ a:=by
 refine ⟨M.size,hlen D,fun i t ht => M.slot i t ht,fun d t hd _ => ?_,fun d t hd => ?_,hnd,hbd,M.df⟩
 ·have hdj : d < j:=by have:=zb hd; simpa using this
  rw [zjh f hdj] at hd
  injection hd with hd
  obtain ⟨h1,h2⟩:=hf _ t (by omega) hd
  simp only [yk,zjh v hdj,yx]
  exact M.done _ t (by omega) h1 h2
 ·have hdj : d < j:=by have:=zb hd; simpa using this
  rw [zjh f hdj] at hd
  injection hd with hd
  obtain ⟨_,h2⟩:=hf _ t (by omega) hd
  unfold lo at h2
  split at h2
  ·rename_i o x ho hx
   have hp:=pl.pre _ o x (by omega) ho hx
   unfold zaS at h2
   split at h2
   ·rename_i t' heq1 heq2
    injection h2 with h2
    subst h2
    have:=hp
    rw [heq1,heq2] at this
    simp only [okD,ya,yl] at this
    simpa using this.1
   ·cases h2
  ·cases h2
def left (D : Nat → Bool) (l : List Nat) : Nat:=(l.filter fun i => !D i).length
theorem zzp (D : Nat → Bool) (j : Nat) : ∀ l : List Nat,left (zba D j) l ≤ left D l
 | [] => yq _
 | x :: l => by
   have ih:=zzp D j l
   unfold left at ih ⊢
   simp only [yu]
   by_cases hx : x = j
   ·subst hx
    cases D x <;> simp [zba] at ih ⊢ <;> omega
   ·have : zba D j x = D x:=by simp [zba,hx]
    rw [this]
    cases D x <;> simp at ih ⊢ <;> omega
theorem zur (D : Nat → Bool) (j : Nat) (hD : D j = false) : ∀ l : List Nat,j ∈ l → left (zba D j) l < left D l
 | [],h => by simp at h
 | x :: l,h => by
   have hle:=zzp D j l
   by_cases hx : x = j
   ·subst hx
    unfold left at hle ⊢
    simp only [yu,hD]
    simp [zba] at hle ⊢
    omega
   ·have ih:=zur D j hD l (by simpa [Ne.symm hx] using h)
    unfold left at ih ⊢
    simp only [yu]
    have : zba D j x = D x:=by simp [zba,hx]
    rw [this]
    cases D x <;> simp at ih ⊢ <;> omega
theorem zsv {D : Nat → Bool} {n : Nat} (h : left D (yj n) = 0) : ∀ i,i < n → D i = true:=fun i hi => by
 have:=ym h
 rw [List.filter_eq_nil_iff] at this
 simpa using this i (by simpa using hi)
variable {Q : Exit → Act → World → Prop} {Cf : zad}
theorem zs2 {m : Nat} {o : Go.Oper} {x : Oper} (ho : gops[m]? = some o) (hx : xs[m]? = some x) : zhT gops xs (m + 1) = zaS o.dst x.dst :: zhT gops xs m:=by
 unfold zhT
 rw [yC,List.reverse_append]
 simp [lo,ho,hx]
theorem zrF (S : zgX P Cf) (pl : Plan P κ nt gops xs p) (hrr : ∀ i x,xs[i]? = some x → step Cf (rr i) x = some (rr (i + 1))) (hend : ∀ g w a loc,Ext g0 w0 σ0 g w (rr gops.size).st → Rel g w (rr gops.size).st → Fr κ loc nt g w (rr gops.size) a → Q .normal a w) :
  ∀ (fuel m : Nat) (listed : Array Bool) (g : G) (w : World) (a : Act),listed.size = gops.size → p ≤ m → m ≤ gops.size → (∀ i,Dof listed i = decide (i < m)) → gops.size ≤ m + fuel → Ext g0 w0 σ0 g w (rr m).st → Rel g w (rr m).st → Fr κ (zhT gops xs m) nt g w (rr m) a → wpAny P .any gops Q fuel listed a w
 | fuel,m,listed,g,w,a,hs,hpm,hm,hD,hf,H,R0,F => by
   have hready : ∀ j,j ∈ Region.ready .any gops listed → j = m ∧ j < gops.size:=fun j hj => by
    obtain ⟨⟨o,ho⟩,h0,h1⟩:=(zka hs).1 hj
    have hlt : j < gops.size:=(yg.1 ho).1
    rw [hD] at h0
    have hjm : ¬ j < m:=by simpa using h0
    refine ⟨?_,hlt⟩
    have hx : xs[j]? = some (xs[j]'(by rw [pl.len]; exact hlt)):=yh (by rw [pl.len]; exact hlt)
    have hclo:=(pl.tail j o _ (by omega) ho hx).2.2.2
    have hdown : zhk gops (Dof listed):=fun k hk i hi => by
     rw [hD] at hk ⊢
     have hkm : k < m:=by simpa using hk
     unfold zat at hi
     split at hi
     ·rename_i o' ho'
      have:=pl.back k o' ho' i hi
      simp; omega
     ·simp at hi
    rcases yz m j with h | h
    ·have:=za0 hdown (hclo m h) h1
     rw [hD] at this
     simp at this
    ·omega
   have fin : Region.ready .any gops listed = [] → Q .normal a w:=fun hr => by
    have : m = gops.size:=by
     rcases yz m gops.size with h | h
     ·exact absurd hr (zjw hs pl.back m h (by rw [hD]; simp))
     ·omega
    subst this
    exact hend g w a _ H R0 F
   cases fuel with
   | zero =>
     have hr : Region.ready .any gops listed = []:=by
      cases hq : Region.ready .any gops listed with
      | nil => rfl
      | cons j l =>
        have:=hready j (by rw [hq]; simp)
        omega
     exact ⟨hr,fin hr⟩
   | succ fuel =>
     refine ⟨fin,fun j hj => ?_⟩
     obtain ⟨rfl,hlt⟩:=hready j hj
     have ho : gops[j]? = some gops[j]:=yf hlt
     have hx : xs[j]? = some (xs[j]'(by rw [pl.len]; exact hlt)):=yh (by rw [pl.len]; exact hlt)
     obtain ⟨h1,h2,h3,_⟩:=pl.tail j _ _ hpm ho hx
     have key:=zev (Q:=Q) (gops:=gops) (next:=wpAny P .any gops Q fuel (listed.setIfInBounds j true)) S R0 F h1 h2 h3 (hrr j _ hx) (fun g' w' u H1 R1 _ F1 =>
      zrF S pl hrr hend fuel (j + 1) _ g' w' _ (by simpa using hs) (by omega) (by omega) (fun i => by
       rw [ziA hs hlt]
       unfold zba
       split
       ·simp; omega
       ·rw [hD]
        rename_i hne
        simp only [decide_eq_decide]
        omega) (by omega) (H.trans H1) R1 (by rw [zs2 ho hx]; exact F1)) (fun _ h => h)
     unfold wpOp
     simp only [ho]
     split
     ·rename_i hw
      rw [if_pos hw] at key
      exact .inl key
     ·rename_i hw
      rw [if_neg hw] at key
      exact key
termination_by fuel => fuel
def Local (P : Program) (κ : List Tmp) (nt : Nat) (gops : Array Go.Oper) (xs : List Oper) (v : Nat → V) (envD : (Nat → Bool) → List V) (σD : (Nat → Bool) → zd) (p b l : Nat) : Prop :=
 ∀ (j : Nat) (o : Go.Oper) (x : Oper) (D : Nat → Bool) (g : G) (w : World) (a : Act) (next : Act → World → Prop) (Q : Exit → Act → World → Prop),j < p → gops[j]? = some o → xs[j]? = some x → D j = false → (∀ i ∈ zat gops j,D i = true) → zhk gops D → (∀ i,p ≤ i → D i = false) → Rel g w (σD D) →
   Fr κ (zff gops xs j) nt g w ⟨(yj j).reverse.map v,envD D,σD D,b,l⟩ a →
   (∀ g' w' u,Ext g w (σD D) g' w' (σD (zba D j)) → Rel g' w' (σD (zba D j)) → Fr κ (zaS o.dst x.dst :: zff gops xs j) nt g' w' ⟨v j :: (yj j).reverse.map v,envD (zba D j),σD (zba D j),b,l⟩ (a.put o.dst u) → next (a.put o.dst u) w') →
   if Region.wanted o (yielded gops a.tmps) then o.wp P a w next Q else next (a.put o.dst undef) w
theorem zoM (pl : Plan P κ nt gops xs p) {i : Nat} {t : Tmp} (hi : i < p) (h : lo gops xs i = some t) : t ∉ κ:=by
 unfold lo at h
 split at h
 ·rename_i o x ho hx
  have hp:=pl.pre _ o x hi ho hx
  unfold zaS at h
  split at h
  ·rename_i t' heq1 heq2
   injection h with h
   subst h
   rw [heq1,heq2] at hp
   simp only [okD,ya,yl] at hp
   simpa using hp.1
  ·cases h
 ·cases h
theorem zuD (S : zgX P Cf) (pl : Plan P κ nt gops xs p) (LS : Local P κ nt gops xs v envD σD p b l) (hrr : ∀ i x,xs[i]? = some x → step Cf (rr i) x = some (rr (i + 1)))
  (hrs : (rr p).rs = (yj p).reverse.map v) (hlen : ∀ D,(envD D).length = κ.length) (hnd : κ.Nodup) (hbd : ∀ t ∈ κ,t < nt)
  (hall : ∀ D,(∀ i,D i = decide (i < p)) → σD D = (rr p).st ∧ envD D = (rr p).env)
  (hend : ∀ g w a loc,Ext g0 w0 σ0 g w (rr gops.size).st → Rel g w (rr gops.size).st → Fr κ loc nt g w (rr gops.size) a → Q .normal a w) :
  ∀ (fuel : Nat) (listed : Array Bool) (g : G) (w : World) (a : Act),listed.size = gops.size → (∀ i,p ≤ i → Dof listed i = false) → zhk gops (Dof listed) → left (Dof listed) (yj gops.size) ≤ fuel → Mid gops xs κ nt p envD v σD g0 w0 σ0 (Dof listed) g w a → wpAny P .any gops Q fuel listed a w
 | fuel,listed,g,w,a,hs,hp,hcl,hf,M => by
   by_cases hfull : ∀ i,i < p → Dof listed i = true
   ·have hDp : ∀ i,Dof listed i = decide (i < p):=fun i => by
     by_cases hi : i < p
     ·simp [hi,hfull i hi]
     ·simp [hi,hp i (by omega)]
    obtain ⟨hst,hen⟩:=hall _ hDp
    have H:=M.ext
    have R0:=M.rel
    rw [hst] at H R0
    have F0:=ztJ (b:=b) (l:=l) pl hlen hnd hbd M (yq p) (f:=lo gops xs) (fun i t hi ht => ⟨hfull i hi,ht⟩)
    rw [hst,hen,← hrs] at F0
    have F : Fr κ (zhT gops xs p) nt g w (rr p) a:=⟨F0.size,F0.len,F0.env,F0.lc,F0.lk,F0.nd,F0.bd,F0.df⟩
    refine zrF S pl hrr hend fuel p listed g w a hs (yq _) pl.p_le hDp ?_ H R0 F
    have hcount : ∀ n,n ≤ gops.size → n ≤ p + left (Dof listed) (yj n):=fun n => by
     induction n with
     | zero => intro _; omega
     | succ n ih =>
       intro hn
       have:=ih (by omega)
       unfold left at this ⊢
       rw [yC,List.filter_append,List.length_append]
       by_cases hnp : n < p
       ·omega
       ·have h0:=hp n (by omega)
        simp [h0]
        omega
    have:=hcount gops.size (yq _)
    omega
   ·have hready : ∀ j,j ∈ Region.ready .any gops listed → j < p ∧ j < gops.size ∧ Dof listed j = false ∧ ∀ i ∈ zat gops j,Dof listed i = true:=fun j hj => by
     obtain ⟨⟨o,ho⟩,h0,h1⟩:=(zka hs).1 hj
     have hlt : j < gops.size:=(yg.1 ho).1
     refine ⟨?_,hlt,h0,h1⟩
     rcases yz j p with h | h
     ·exact h
     ·have hx : xs[j]? = some (xs[j]'(by rw [pl.len]; exact hlt)):=yh (by rw [pl.len]; exact hlt)
      have hclo:=(pl.tail j o _ h ho hx).2.2.2
      exact absurd (fun i hi => za0 hcl (hclo i (by omega)) h1) hfull
    obtain ⟨i0,hi0⟩:=Classical.not_forall.1 hfull
    obtain ⟨hi0,hne⟩:=Classical.not_imp.1 hi0
    have hne0 : Region.ready .any gops listed ≠ []:=zjw hs pl.back i0 (by have:=pl.p_le; omega) (by simpa using hne)
    cases fuel with
    | zero =>
      have:=zsv (Nat.le_zero.1 hf) i0 (by have:=pl.p_le; omega)
      exact absurd this hne
    | succ fuel =>
      refine ⟨fun hr => absurd hr hne0,fun j hj => ?_⟩
      obtain ⟨hjp,hlt,h0,h1⟩:=hready j hj
      have ho : gops[j]? = some gops[j]:=yf hlt
      have hx : xs[j]? = some (xs[j]'(by rw [pl.len]; exact hlt)):=yh (by rw [pl.len]; exact hlt)
      have hd:=pl.pre j _ _ hjp ho hx
      have F:=ztJ (b:=b) (l:=l) pl hlen hnd hbd M (Nat.le_of_lt hjp) (f:=zzY gops xs j) (fun i t hi ht => by
       unfold zzY at ht
       split at ht
       ·rename_i hc
        exact ⟨h1 i (by simpa using hc),ht⟩
       ·cases ht)
      have key:=LS j _ _ (Dof listed) g w a (wpAny P .any gops Q fuel (listed.setIfInBounds j true)) Q hjp ho hx h0 h1 hcl hp M.rel F (fun g' w' u H1 R1 F1 =>
       zuD S pl LS hrr hrs hlen hnd hbd hall hend fuel _ g' w' _ (by simpa using hs) (fun i hi => by
        rw [ziA hs hlt]
        unfold zba
        split
        ·omega
        ·exact hp i hi) (by rw [ziA hs hlt]; exact zqS hcl h1) (by
        rw [ziA hs hlt]
        have:=zur (Dof listed) j h0 (yj gops.size) (by simpa using hlt)
        omega) (by
        rw [ziA hs hlt]
        refine ⟨M.ext.trans H1,R1,F1.size,F1.df,fun i t ht => ?_,fun i t hi hDi ht => ?_⟩
        ·exact F1.env i t ht
        ·by_cases hij : i = j
         ·subst hij
          have hlo : zaS gops[i].dst (xs[i]'(by rw [pl.len]; exact hlt)).dst = some t:=by
           unfold lo at ht
           rw [ho,hx] at ht
           exact ht
          have:=F1.lc 0 t (by simp [hlo]) (by simp)
          simpa using this
         ·have hDi' : Dof listed i = true:=by
           unfold zba at hDi
           rwa [if_neg hij] at hDi
          have hold:=H1.zf _ _ (M.done i t hi hDi' ht)
          have hput : (a.put gops[j].dst u).tmps.getD t undef = a.tmps.getD t undef:=by
           cases hdst : gops[j].dst with
           | none => rfl
           | some t' =>
             have hne' : t' ≠ t:=fun e => by
              subst e
              rw [hdst] at hd
              unfold okD at hd
              split at hd
              ·rename_i heq _; cases heq
              ·
               rename_i t2 heq hxd
               injection heq with heq
               subst heq
               have hloc : lo gops xs j = some t':=by
                unfold lo
                rw [ho,hx]
                simp [zaS,hdst,hxd]
               exact hij (pl.apart i j t' hi hjp ht hloc)
              ·
               rename_i t2 q heq hxd
               injection heq with heq
               subst heq
               have hk : t' ∈ κ:=List.mem_of_getElem? (by simpa using hd)
               have hlo:=zoM pl hi ht
               exact hlo hk
              ·cases hd
             simp only [Act.put,zhm]
             rw [if_neg (by simp [hne'])]
          rw [hput]
          exact hold))
      unfold wpOp
      simp only [ho]
      split
      ·rename_i hw
       rw [if_pos hw] at key
       exact .inl key
      ·rename_i hw
       rw [if_neg hw] at key
       exact key
termination_by fuel => fuel
end
end Go.A
namespace Go.A
def zAV : Option X → List X
 | some x => [x]
 | none => []
def opX : Op → List X
 | .mv x | .pnil _ x | .un _ x | .conv _ x | .len x | .lens x | .fa _ x | .ld _ x | .box _ x | .bxf _ x | .frz _ x | .sla _ _ x | .str x | .nlc _ _ x | .ext x _ | .fld _ _ x | .nil x | .mks _ _ x | .mkc _ x | .mkr _ _ _ x => [x]
 | .pick c a b => [c,a,b]
 | .cpy _ x y | .bin _ x y | .eqa _ _ x y | .beq _ x y | .ia _ x y | .iaa _ _ x y | .idx _ x y | .steq _ x y | .st _ x y | .app _ x y | .lk _ _ x y | .mxn _ x y => [x,y]
 | .al _ _ | .nl _ _ | .mkm | .no _ => []
 | .bld _ parts _ => parts.map fun p => p.2.2
 | .bsl _ _ _ parts => parts.map fun p => p.2
 | .slc _ x lo hi mx => x :: (zAV lo ++ zAV hi ++ zAV mx)
 | .slcs x lo hi => x :: (zAV lo ++ zAV hi)
 | .mkf _ first caps => first ++ caps
 | .mu m k v => [m,k,v]
 | .call _ f args => f :: args
def zaR : Op → Nat
 | .mv _ | .pnil .. | .pick .. | .bin .. | .eqa .. | .beq .. | .un .. | .conv .. | .len _ | .lens _ | .fa .. | .iaa .. | .idx .. | .ext .. | .fld .. | .nil _ | .mkf .. | .mxn .. | .slcs .. | .bxf .. | .sla .. | .steq .. => 0
 | .bsl .fz _ _ _ => 0
 | .nl .fz _ => 0
 | .bld _ _ [] => 0
 | .ia .. | .slc .. => 1
 | .ld .. | .lk .. | .str .. => 2
 | .call .cl _ _ => 2
 | .st .. => 3
 | .al .. | .box .. | .mks .. | .mkc .. | .mkr .. | .mkm | .nl .. | .bsl .. | .bld .. => 4
 | _ => 5
section
variable {Cf : zad} {r r' r1 : R} {d : D}
theorem zqr {x : Option V} {r1 : R} (h : x.map (r.put d) = some r1) : ∃ v,x = some v ∧ r1 = r.put d v:=by
 rw [yc] at h
 obtain ⟨v,h1,h2⟩:=h
 exact ⟨v,h1,h2.symm⟩
theorem ziP {dflt : Nat} {x : Option X} (h : ∀ y ∈ zAV x,r'.get y = r.get y) : bound r' dflt x = bound r dflt x:=by
 cases x with
 | none => rfl
 | some y => simp [bound,h y (by simp [zAV])]
theorem zkU : ∀ {qs : List (Nat × Nat × X)} {cs : List C},(∀ y ∈ qs.map (fun p => p.2.2),r'.get y = r.get y) → zmU r' qs cs = zmU r qs cs
 | [],_,_ => rfl
 | (off,sz,x) :: qs,cs,h => by
   simp only [zmU,h x (by simp)]
   congr 1
   exact congrArg _ (funext fun c => zkU fun y hy => h y (by simp at hy ⊢; exact .inr hy))
theorem zkS {sz : Nat} : ∀ {qs : List (Nat × X)} {cs : List (List C)},(∀ y ∈ qs.map (fun p => p.2),r'.get y = r.get y) → znS r' sz qs cs = znS r sz qs cs
 | [],_,_ => rfl
 | (i,x) :: qs,cs,h => by
   simp only [znS,h x (by simp)]
   congr 1
   exact zkS fun y hy => h y (by simp at hy ⊢; exact .inr hy)
theorem zh9 : ∀ {ys : List X},(∀ y ∈ ys,r'.get y = r.get y) → r'.gets ys = r.gets ys
 | [],_ => rfl
 | y :: ys,h => by
   have ih:=zh9 (ys:=ys) fun z hz => h z (yv _ hz)
   simp only [R.gets,h y (by simp),ih]
structure Same (n : Nat) (σ σ' : zd) : Prop where
 get : ∀ id o,id < n → σ[id]? = some o → σ'[id]? = some o
structure SameRow (n : Nat) (σ σ' : zd) : Prop where
 row : ∀ id ver sz o,id < n → σ[id]? = some o → o.isRow ver sz = true → ∃ o',σ'[id]? = some o' ∧ o'.isRow ver sz = true
theorem Same.rows {n : Nat} {σ σ' : zd} (h : Same n σ σ') : SameRow n σ σ':=⟨fun id ver sz o hid ho hr => ⟨o,h.get id o hid ho,hr⟩⟩
theorem zz8 {n : Nat} {σ σ' : zd} (h : Same n σ σ') {v v' : V} (hl : v.lt n = true) (hv : zC9 σ v = some v') : zC9 σ' v = some v':=by
 unfold zC9 at hv ⊢
 split at hv
 ·rename_i id ver lo m
  have hid : id < n:=by simpa [V.lt,C.lt] using hl
  rw [yc] at hv ⊢
  obtain ⟨xs,h1,h2⟩:=hv
  rw [yb] at h1
  obtain ⟨o,h1,h3⟩:=h1
  exact ⟨xs,by rw [yb]; exact ⟨o,h.get id o hid h1,h3⟩,h2⟩
 all_goals exact hv
theorem zwK {n : Nat} {σ σ' : zd} (h : Same n σ σ') {v : V} {xs : List (List Fz)} (hl : v.lt n = true) (hv : elems σ v = some xs) : elems σ' v = some xs:=by
 unfold elems at hv ⊢
 split at hv
 ·rename_i id ver lo m
  have hid : id < n:=by simpa [V.lt,C.lt] using hl
  rw [yb] at hv ⊢
  obtain ⟨o,h1,h3⟩:=hv
  exact ⟨o,h.get id o hid h1,h3⟩
 all_goals exact hv
theorem zqB {n : Nat} {σ σ' : zd} (h : Same n σ σ') : ∀ {vs vs' : List V},V.lts n vs = true → zpK σ vs = some vs' → zpK σ' vs = some vs'
 | [],_,_,hv => hv
 | v :: vs,vs',hl,hv => by
   simp only [V.lts,ya] at hl
   simp only [zpK] at hv ⊢
   obtain ⟨y,z,h1,h2,rfl⟩:=zez hv
   rw [zz8 h hl.1 h1,zqB h hl.2 h2]
   rfl
theorem zm2 {n : Nat} : ∀ {a b : List V},V.lts n (a ++ b) = (V.lts n a && V.lts n b)
 | [],b => by simp [V.lts]
 | v :: a,b => by simp [V.lts,zm2 (a:=a),Bool.and_assoc]
theorem zuT {n : Nat} : ∀ {cs : List C},V.lts n (cs.map V.one) = C.lts n cs
 | [] => rfl
 | c :: cs => by simp [V.lts,V.lt,C.lts,zuT (cs:=cs)]
theorem zu9 {n : Nat} : ∀ {ys : List X},(∀ y ∈ ys,(r.get y).lt n = true) → V.lts n (r.gets ys) = true
 | [],_ => rfl
 | y :: ys,h => by
   have ih:=zu9 (ys:=ys) fun z hz => h z (yv _ hz)
   simp [R.gets,V.lts,h y (by simp),ih]
theorem znc {op : Op} {n : Nat} (hq : zaR op ≤ 2) (hg : ∀ x ∈ opX op,r'.get x = r.get x) (hl : ∀ x ∈ opX op,(r.get x).lt n = true) (h1 : zaR op = 1 → SameRow n r.st r'.st) (h2 : zaR op = 2 → Same n r.st r'.st) (h : za5 Cf r d op = some r1) :
  ∃ v,r1 = r.put d v ∧ za5 Cf r' d op = some (r'.put d v):=by
 have one : ∀ {x : Option V},x.map (r.put d) = some r1 → ∀ {y : Option V},(∀ v,x = some v → y = some v) → ∃ v,r1 = r.put d v ∧ y.map (r'.put d) = some (r'.put d v):=fun {x} hx {y} hy => by
  obtain ⟨v,e1,e2⟩:=zqr hx
  exact ⟨v,e2,by rw [hy v e1]; rfl⟩
 cases op <;> simp only [za5] at h ⊢ <;> simp only [opX,List.mem_cons,List.not_mem_nil,or_false,forall_eq_or_imp,forall_eq] at hg hl
 case mv x => injection h with h; exact ⟨_,h.symm,by rw [hg]⟩
 case pick c x y => rw [hg.1,hg.2.1,hg.2.2]; exact one h fun _ e => e
 case bin o x y => rw [hg.1,hg.2]; exact one h fun _ e => e
 case beq neg x y => rw [hg.1,hg.2]; exact one h fun _ e => e
 case eqa n neg x y => rw [hg.1,hg.2]; exact one h fun _ e => e
 case un o x => rw [hg]; exact one h fun _ e => e
 case pnil neg x => rw [hg]; exact one h fun _ e => e
 case conv k x => rw [hg]; exact one h fun _ e => e
 case len x => rw [hg]; exact one h fun _ e => e
 case lens x => rw [hg]; exact one h fun _ e => e
 case fa off x => rw [hg]; exact one h fun _ e => e
 case iaa n' sz x i => rw [hg.1,hg.2]; exact one h fun _ e => e
 case ext x i => rw [hg]; exact one h fun _ e => e
 case idx n' x i => rw [hg.1,hg.2]; exact one h fun _ e => e
 case steq neg x y => rw [hg.1,hg.2]; exact one h fun _ e => e
 case sla n' lo x => rw [hg]; exact one h fun _ e => e
 case bxf sz x =>
  rw [hg]
  split at h
  ·rename_i hc
   rw [if_pos hc]
   rw [yc] at h
   obtain ⟨fs,h1',rfl⟩:=h
   exact ⟨_,rfl,by rw [h1']; rfl⟩
  ·cases h
 case str x =>
  rw [hg]
  have hs:=h2 rfl
  refine one h fun v e => ?_
  rw [yb] at e ⊢
  obtain ⟨xs,e1,e2⟩:=e
  exact ⟨xs,zwK hs (by simpa using hl) e1,e2⟩
 case fld off sz x => rw [hg]; exact one h fun _ e => e
 case nil x => rw [hg]; exact one h fun _ e => e
 case mxn b x y => rw [hg.1,hg.2]; exact one h fun _ e => e
 case mkf f first caps =>
  injection h with h
  rw [zh9 (r:=r) (r':=r') fun y hy => hg y (yi _ hy),zh9 (r:=r) (r':=r') fun y hy => hg y (yn _ hy)]
  exact ⟨_,h.symm,rfl⟩
 case slcs x lo hi =>
  have e1:=hg.1
  have e2 : zuz r' lo hi (r'.get x) = zuz r lo hi (r.get x):=by
   rw [e1]
   unfold zuz
   split
   ·rw [ziP (r:=r) (r':=r') fun y hy => hg.2 y (yi _ hy),ziP (r:=r) (r':=r') fun y hy => hg.2 y (yn _ hy)]
   ·rfl
  rw [e2]
  exact one h fun _ e => e
 case ia sz x i =>
  rw [hg.1,hg.2]
  refine one h fun v e => ?_
  have hrow:=h1 rfl
  unfold aia at e ⊢
  split at e
  ·rename_i id ver lo m kk q heq _
   split at e
   ·rename_i hc
    rw [if_pos hc]
    rw [yb] at e ⊢
    obtain ⟨o,e1,e2⟩:=e
    unfold ztT at e2
    split at e2
    ·rename_i hr
     have hid : id < n:=by
      have:=hl.1
      rw [heq] at this
      simpa [V.lt,C.lt] using this
     obtain ⟨o',q1,q2⟩:=hrow.row id ver sz o hid e1 hr
     exact ⟨o',q1,by unfold ztT; rw [if_pos q2]; exact e2⟩
    ·cases e2
   ·cases e
  all_goals exact e
 case slc sz x lo hi mx =>
  have hrow:=h1 rfl
  have e1:=hg.1
  have hm : zB5 r' hi mx = zB5 r hi mx:=by
   cases mx with
   | none => rfl
   | some m => cases hi with
     | none => rfl
     | some hh =>
       have q1:=hg.2 m (by simp [zAV])
       have q2:=hg.2 hh (by simp [zAV])
       simp only [zB5,q1,q2]
  by_cases hq : zB5 r hi mx = true
  case neg => rw [if_neg hq] at h; cases h
  rw [if_pos hq] at h
  rw [if_pos (hm.trans hq)]
  refine one h fun v e => ?_
  have b1 : ∀ d,bound r' d lo = bound r d lo:=fun d => ziP fun y hy => hg.2 y (yi _ (yi _ hy))
  have b2 : ∀ d,bound r' d hi = bound r d hi:=fun d => ziP fun y hy => hg.2 y (yi _ (yn _ hy))
  rw [e1]
  unfold zEt at e ⊢
  split at e
  ·rw [b1,b2]; exact e
  ·rw [b1,b2]; exact e
  ·rename_i id ver l0 m heq
   rw [b1,b2]
   split at e
   ·cases e
   ·rename_i hmx
    rw [if_neg hmx]
    obtain ⟨a,b,q1,q2,q3⟩:=zlJ e
    rw [q1,q2]
    show zAk r'.st sz id ver l0 m a b = some v
    unfold zAk at q3 ⊢
    split at q3
    ·rename_i hc
     have hid : id < n:=by
      have:=hl.1
      rw [heq] at this
      simpa [V.lt,C.lt] using this
     have hany : (r'.st[id]?).any (Ob.isRow ver sz) = true:=by
      have:=hc.2.2
      cases ho : r.st[id]? with
      | none => simp [ho] at this
      | some o =>
        simp [ho] at this
        obtain ⟨o',q4,q5⟩:=hrow.row id ver sz o hid ho this
        simp [q4,q5]
     rw [if_pos ⟨hc.1,hc.2.1,hany⟩]
     exact q3
    ·cases q3
  ·cases e
 case ld sz x =>
  have hs:=h2 rfl
  rw [hg]
  refine one h fun v e => ?_
  have key : ∀ {id ver i : Nat} {el : List C},id < n → r.st.elem id ver i = some el → r'.st.elem id ver i = some el:=fun {id ver i el} hid he => by
   unfold zd.elem at he ⊢
   rw [yb] at he ⊢
   obtain ⟨o,q1,q2⟩:=he
   exact ⟨o,hs.get id o hid q1,q2⟩
  unfold ald at e ⊢
  split at e
  ·rename_i id ver i off heq
   have hid : id < n:=by
    have:=hl
    rw [heq] at this
    simpa [V.lt,C.lt] using this
   rw [yc] at e ⊢
   obtain ⟨c,q1,q2⟩:=e
   unfold zd.cell at q1 ⊢
   rw [yb] at q1
   obtain ⟨el,q3,q4⟩:=q1
   exact ⟨c,by rw [yb]; exact ⟨el,key hid q3,q4⟩,q2⟩
  ·exact e
  ·rename_i m id ver i off heq
   have hid : id < n:=by
    have:=hl
    rw [heq] at this
    simpa [V.lt,C.lt] using this
   rw [yc] at e ⊢
   obtain ⟨c,q1,q2⟩:=e
   rw [yb] at q1
   obtain ⟨el,q3,q4⟩:=q1
   exact ⟨c,by rw [yb]; exact ⟨el,key hid q3,q4⟩,q2⟩
  ·exact e
  ·cases e
 case lk zero ok m k =>
  have hs:=h2 rfl
  rw [hg.1,hg.2]
  refine one h fun v e => ?_
  unfold alk at e ⊢
  split at e
  ·rename_i id kk heq _
   have hid : id < n:=by
    have:=hl.1
    rw [heq] at this
    simpa [V.lt,C.lt] using this
   rw [yc] at e ⊢
   obtain ⟨es,q1,q2⟩:=e
   rw [yb] at q1
   obtain ⟨o,q3,q4⟩:=q1
   exact ⟨es,by rw [yb]; exact ⟨o,hs.get id o hid q3,q4⟩,q2⟩
  ·exact e
  ·cases e
 case call m f args =>
  cases m
  case cl =>
   have hs:=h2 rfl
   have e1:=hg.1
   have e2:=zh9 (r:=r) (r':=r') (ys:=args) hg.2
   rw [e1,e2]
   unfold znQ at h ⊢
   split at h
   ·rename_i g first caps heq
    simp only at h ⊢
    rw [yb] at h
    obtain ⟨x,q1,q2⟩:=h
    rw [yb] at q1
    obtain ⟨as,q3,q4⟩:=q1
    have hlt : V.lts n (first.map V.one ++ (r.gets args ++ caps.map V.one)) = true:=by
     have h0:=hl.1
     rw [heq] at h0
     simp only [V.lt,C.lt,ya] at h0
     rw [zm2,zm2,zuT,zuT,zu9 hl.2,h0.1,h0.2]
     rfl
    rw [zqB hs hlt q3]
    simp only [yo,q4]
    unfold zvV at q2 ⊢
    split at q2
    ·rename_i hc
     injection q2 with q2
     exact ⟨_,q2.symm,by rw [if_pos hc]⟩
    ·cases q2
   ·cases h
  all_goals (simp only [zaR] at hq; omega)
 case bsl b sz zero parts =>
  cases b <;> simp only [zaR] at hq
  case fz =>
   rw [zkS (r:=r) (r':=r') hg]
   rw [yb] at h
   obtain ⟨es,q1,q2⟩:=h
   simp only [zv3,yc] at q2
   obtain ⟨xs,q2,q3⟩:=q2
   exact ⟨vsl xs,q3.symm,by rw [q1]; simp only [yo,zv3,q2,yy,zDb]⟩
  all_goals omega
 case nl b sz =>
  cases b <;> simp only [zaR] at hq
  case fz =>
   simp only [anl,Option.some.injEq] at h ⊢
   exact ⟨_,h.symm,rfl⟩
  all_goals omega
 case bld zero parts fresh =>
  cases fresh with
  | nil =>
    rw [zkU (r:=r) (r':=r') hg]
    rw [yc] at h
    obtain ⟨cs,q1,q2⟩:=h
    simp only [zf4] at q1 ⊢
    refine ⟨.agg cs,?_,by rw [q1]; simp [zDT,tokens,R.allocs]⟩
    rw [← q2]
    simp [zDT,tokens,R.allocs]
  | cons j js => simp only [zaR] at hq; omega
 all_goals (simp only [zaR] at hq; omega)
end
end Go.A
