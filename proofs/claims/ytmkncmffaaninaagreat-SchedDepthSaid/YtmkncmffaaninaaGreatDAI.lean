/- A part of the proof of SchedDepth. Conditions: none. -/
import Derived.Test.YtmkncmffaaninaaGreatDAH
import Derived.Scope
set_option linter.unusedVariables false
set_option linter.unusedSimpArgs false
set_option linter.unusedSectionVars false
open Bool renaming and_eq_true → ya,false_eq_true → ye,and_true → yh
open Option renaming map_eq_some_iff → yb,bind_some → yf,getD_some → yg,map_some → yi
open Array renaming getD_eq_getD_getElem? → yc
open List renaming length_cons → yd,range' → yj
namespace Go.A
def zDP : D → Bool
 | .no => true
 | _ => false
def zxi (κ : List Tmp) (loc : List (Option Tmp)) : Option Operand → Option X → Bool
 | none,none => true
 | some x,some y => okX κ loc x y
 | _,_ => false
def zDO (P : Program) (t : TypeId) : Option Nat → Bool
 | none => zjN P t == some false
 | some n => zjN P t == some true && zhf P t == some n
def zvV (P : Program) (t : TypeId) (zero : List C) (fresh : List (Nat × Nat)) : Bool :=
 match zeroOf P t with
 | some zs => ze5 zs zero && zhc zs fresh
 | none => false
def zFr : Go.Op → Option (TypeId × Operand × Operand × Operand)
 | .mapUpdate t m k v => some (t,m,k,v)
 | .insert t m k v => some (t,m,k,v)
 | _ => none
theorem zAj {o : Go.Op} {t : TypeId} {m k v : Operand} (h : zFr o = some (t,m,k,v)) : o = .mapUpdate t m k v ∨ o = .insert t m k v:=by
 unfold zFr at h
 split at h
 ·injection h with h
  simp only [Prod.mk.injEq] at h
  obtain ⟨rfl,rfl,rfl,rfl⟩:=h
  exact .inl rfl
 ·injection h with h
  simp only [Prod.mk.injEq] at h
  obtain ⟨rfl,rfl,rfl,rfl⟩:=h
  exact .inr rfl
 ·cases h
def zmf (P : Program) (κ : List Tmp) (loc : List (Option Tmp)) (o : Go.Oper) (d : D) : Op → Bool
 | .mv x => match o.op with
   | .move y => okX κ loc y x
   | .assign y => okX κ loc y x
   | _ => false
 | .pick c x y => match o.op with
   | .pick c' x' y' => okX κ loc c' c && okX κ loc x' x && okX κ loc y' y
   | _ => false
 | .bin op x y => match o.op with
   | .binOp op' _ x' y' _ => decide (op' = op) && okX κ loc x' x && okX κ loc y' y
   | _ => false
 | .beq neg x y => match o.op with
   | .binOp op t x' y' _ => (match op with
     | .eql => !neg
     | .neq => neg
     | _ => false) && (match P.underlying t with
     | some .bool => true
     | _ => false) && okX κ loc x' x && okX κ loc y' y
   | _ => false
 | .pnil neg x => match o.op with
   | .binOp op t x' (.const (.pointer none)) _ => (match op with
     | .eql => !neg
     | .neq => neg
     | _ => false) && (match P.underlying t with
     | some (.pointer _) => true
     | _ => false) && okX κ loc x' x
   | _ => false
 | .eqa n neg x y => match o.op with
   | .binOp op t x' y' _ => (match op with
     | .eql => !neg
     | .neq => neg
     | _ => false) && zu3 P t == some n && !(P.eqGuardType P.depth t) && okX κ loc x' x && okX κ loc y' y
   | _ => false
 | .un op x => match o.op with
   | .unOp op' _ x' => decide (op' = op) && okX κ loc x' x
   | _ => false
 | .conv k x => match o.op with
   | .convert s t x' => (P.underlying s).isSome && (match P.underlying t with
     | some (.int k') => decide (k' = k)
     | _ => false) && okX κ loc x' x
   | _ => false
 | .len x => match o.op with
   | .call { callee:=.builtin .len,args:=⟨[x']⟩,argTypes:=⟨[t]⟩ } => (match P.underlying t with
     | some (.slice _) => true
     | _ => false) && okX κ loc x' x
   | _ => false
 | .lens x => match o.op with
   | .call { callee:=.builtin .len,args:=⟨[x']⟩,argTypes:=⟨[t]⟩ } => (match P.underlying t with
     | some .string => true
     | _ => false) && okX κ loc x' x
   | _ => false
 | .fa off x => match o.op with
   | .fieldAddr t x' i => (match P.underlying t with
     | some (.struct fs) => (match fs[i]? with
       | some f => (match zhf P f.type with
         | some n => decide (n ≠ 0)
         | none => false) && f.offset == off
       | none => false)
     | _ => false) && okX κ loc x' x
   | _ => false
 | .ia sz x i => match o.op with
   | .indexAddr t x' i' => (match P.underlying t with
     | some (.slice e) => zhf P e == some sz
     | _ => false) && okX κ loc x' x && okX κ loc i' i
   | _ => false
 | .iaa n sz x i => match o.op with
   | .indexAddr t x' i' => (match P.underlying t with
     | some (.array n' e) => n' == n && zhf P e == some sz
     | _ => false) && okX κ loc x' x && okX κ loc i' i
   | _ => false
 | .ld sz x => match o.op with
   | .load t x' => zDO P t sz && okX κ loc x' x
   | _ => false
 | .st sz x v => match o.op with
   | .store t x' v' => zDP d && zhf P t == some sz && decide (0 < sz) && okX κ loc x' x && okX κ loc v' v
   | _ => false
 | .al zero fresh => match o.op with
   | .alloc t => zvV P t zero fresh
   | _ => false
 | .box sz x => match o.op with
   | .box _ x' => decide (0 < sz) && okX κ loc x' x
   | _ => false
 | .bld zero parts fresh => match o.op with
   | .build t ps => zvV P t zero fresh && (match zn1 P t with
     | some place => zlu κ loc place ps.toList parts
     | none => false)
   | _ => false
 | .bsl _ sz zero parts => match o.op with
   | .buildSlice t len ps => (match P.underlying t with
     | some (.slice e) => zhf P e == some sz && (match zeroOf P e with
       | some zs => zs.length == sz && zs.all Value.oneCell' && zzA zs zero
       | none => false)
     | _ => false) && decide (0 < sz) && zero.length == len && decide (len * sz ≤ 16777216) && ziB κ loc ps.toList parts
   | _ => false
 | .nl _ _ => match o.op with
   | .move (.const (.slice none 0 0)) => true
   | .assign (.const (.slice none 0 0)) => true
   | _ => false
 | .app sz s x => match o.op with
   | .call { callee:=.builtin .append,args:=⟨[s',x']⟩,argTypes:=⟨[t,t']⟩ } => t == t' && (match P.underlying t with
     | some (.slice e) => (match P.info? e with
       | some i => decide (i.bytes ≤ 32768) && i.size == sz
       | none => false) && (match zeroOf P e with
       | some zs => zs.length == sz
       | none => false)
     | _ => false) && decide (0 < sz) && okX κ loc s' s && okX κ loc x' x
   | _ => false
 | .cpy sz x y => match o.op with
   | .call { callee:=.builtin .copy,args:=⟨[x',y']⟩,argTypes:=⟨[t,_]⟩ } => (match P.underlying t with
     | some (.slice e) => zhf P e == some sz
     | _ => false) && decide (0 < sz) && okX κ loc x' x && okX κ loc y' y
   | _ => false
 | .mks zero fresh n => match o.op with
   | .makeSlice t (.tmp l) (.tmp c) => l == c && (match P.underlying t with
     | some (.slice e) => (match P.info? e with
       | some i => decide (i.bytes ≤ 32768) && decide (0 < i.size) && (match zeroOf P e with
         | some zs => zs.length == i.size && ze5 zs zero && (match fresh with
           | some j => zhc zs [j]
           | none => true)
         | none => false)
       | none => false)
     | _ => false) && okX κ loc (.tmp l) n
   | _ => false
 | .mkr zero j _ n => match o.op with
   | .makeSlice t (.tmp l) (.tmp c) => l == c && (match P.underlying t with
     | some (.slice e) => (match P.info? e with
       | some i => decide (i.bytes ≤ 32768) && decide (0 < i.size) && (match zeroOf P e with
         | some zs => zs.length == i.size && ze5 zs zero && zhc zs [(j,0)]
         | none => false)
       | none => false)
     | _ => false) && okX κ loc (.tmp l) n
   | _ => false
 | .mkc sz n => match o.op with
   | .makeSlice t (.const (.int _ 0)) x => (match P.underlying t with
     | some (.slice e) => (match P.info? e with
       | some i => decide (i.bytes ≤ 32768) && i.size == sz && i.zero.isSome
       | none => false)
     | _ => false) && okX κ loc x n
   | _ => false
 | .slc sz x lo hi mx => match o.op with
   | .slice t x' lo' hi' mx' => (match P.underlying t with
     | some (.slice e) => zhf P e == some sz
     | _ => false) && okX κ loc x' x && zxi κ loc lo' lo && zxi κ loc hi' hi && (match mx,mx' with
     | none,none => true
     | some m,some m' => hi.isSome && okX κ loc m' m
     | _,_ => false)
   | _ => false
 | .slcs x lo hi => match o.op with
   | .slice t x' lo' hi' none => (match P.underlying t with
     | some .string => true
     | _ => false) && okX κ loc x' x && zxi κ loc lo' lo && zxi κ loc hi' hi
   | _ => false
 | .nlc _ _ _ => false
 | .ext x i => match o.op with
   | .extract x' i' => i' == i && okX κ loc x' x
   | _ => false
 | .fld off sz x => match o.op with
   | .field t x' i => (match P.underlying t with
     | some (.struct fs) => (match fs[i]? with
       | some f => f.offset == off && zDO P f.type sz
       | none => false)
     | _ => false) && okX κ loc x' x
   | _ => false
 | .idx n x i => match o.op with
   | .index t x' i' => (match P.underlying t with
     | some (.array n' e) => n' == n && zhf P e == some 1 && zjN P e == some false
     | _ => false) && okX κ loc x' x && okX κ loc i' i
   | _ => false
 | .bxf sz x => match o.op with
   | .box _ x' => decide (0 < sz) && okX κ loc x' x
   | _ => false
 | .frz _ x => match o.op with
   | .move x' => okX κ loc x' x
   | _ => false
 | .stn _ x => match o.op with
   | .store t x' (.const (.slice none 0 0)) => zDP d && zhf P t == some 1 && okX κ loc x' x
   | _ => false
 | .sla n l x => match o.op with
   | .slice t x' lo none none => (match P.underlying t with
     | some (.array n' e) => n' == n && zhf P e == some 1
     | _ => false) && okX κ loc x' x && (match lo with
     | none => l == 0
     | some (.const (.int _ k)) => decide (k = (l : Int))
     | _ => false)
   | _ => false
 | .str x => match o.op with
   | .convert s t x' => (match P.underlying s with
     | some (.slice e) => (match P.underlying e with
       | some (.int .u8) => true
       | _ => false)
     | _ => false) && (match P.underlying t with
     | some .string => true
     | _ => false) && okX κ loc x' x
   | _ => false
 | .steq neg x y => match o.op with
   | .binOp op t x' y' _ => (match op with
     | .eql => !neg
     | .neq => neg
     | _ => false) && (match P.underlying t with
     | some .string => true
     | _ => false) && okX κ loc x' x && okX κ loc y' y
   | _ => false
 | .nil x => match o.op with
   | .nilCheck x' => okX κ loc x' x
   | _ => false
 | .mkf f first caps => match o.op with
   | .makeFunc (.func f') first' caps' => f' == f && zzf κ loc first'.toList first && zzf κ loc caps'.toList caps
   | _ => false
 | .mkm => match o.op with
   | .makeMap _ none => true
   | _ => false
 | .lk zero ok m k => match o.op with
   | .lookup t m' k' ok' => ok' == ok && (match P.underlying t with
     | some (.map key elem) => (match P.underlying key with
       | some (.int .i64) => true
       | _ => false) && (match P.info? elem with
       | some i => (match i.zero with
         | some z => zpv z zero
         | none => false)
       | none => false)
     | _ => false) && okX κ loc m' m && okX κ loc k' k
   | _ => false
 | .mu m k v => match zFr o.op with
   | some (t,m',k',v') => zDP d && (match P.underlying t with
     | some (.map key _) => (match P.underlying key with
       | some (.int .i64) => true
       | _ => false)
     | _ => false) && okX κ loc m' m && okX κ loc k' k && okX κ loc v' v
   | none => false
 | .mxn isMax x y => match o.op with
   | .call { callee:=.builtin b,args:=⟨[x',y']⟩,.. } => decide (b = if isMax then .max else .min) && okX κ loc x' x && okX κ loc y' y
   | _ => false
 | .call _ f xs => match o.op with
   | .call { callee:=.value f',args,.. } => okX κ loc f' f && zzf κ loc args.toList xs
   | _ => false
 | .no _ => true
section
variable {P : Program} {κ : List Tmp} {loc : List (Option Tmp)} {nt : Nat} {g : G} {w : World} {r r' : R} {a : Act} {o : Go.Oper} {d : D} {next : Act → World → Prop} {Q : Exit → Act → World → Prop}
theorem zgI (F : Fr κ loc nt g w r a) {x : Option Operand} {y : Option X} (h : zxi κ loc x y = true) : Opt g w r a x y:=by
 unfold zxi at h
 split at h
 ·exact ⟨fun z hz => (by cases hz),fun _ => rfl⟩
 ·rename_i x y
  exact ⟨fun z hz => (by injection hz with hz; subst hz; exact ⟨x,rfl,F.get h⟩),fun hn => (by cases hn)⟩
 ·cases h
theorem zmN {t : TypeId} : ∀ {sz : Option Nat},zDO P t sz = true → match sz with
  | none => zjN P t = some false
  | some n => zjN P t = some true ∧ zhf P t = some n
 | none,h => by simpa [zDO] using h
 | some n,h => by simpa [zDO] using h
theorem zkZ {t : TypeId} {zero : List C} {fresh : List (Nat × Nat)} (h : zvV P t zero fresh = true) : ∃ zs,zeroOf P t = some zs ∧ ze5 zs zero = true ∧ zhc zs fresh = true:=by
 unfold zvV at h
 split at h
 ·rename_i zs hz
  simp only [ya] at h
  exact ⟨zs,hz,h⟩
 ·cases h
theorem zv2 {Cf : zad} (S : zgQ P Cf) (R0 : Rel g w r.st) (L : Low r.base r.lim r.st) (F : Fr κ loc nt g w r a) (hd : okD κ nt o.dst d = true) {x : Op} (hc : zmf P κ loc o d x = true) {r1 : R} (h : za7 Cf r d x = some r1)
  (k : znE κ (zaO o.dst d :: loc) nt g w r r1 (a.put o.dst) next) : o.wp P a w next Q:=by
 have pure : ∀ {v : V},(∃ u,(execOp a.eval o).run P w = .ok (.value u) w ∧ zf g w r.st v u) → znE κ (zaO o.dst d :: loc) nt g w r (r.put d v) (a.put o.dst) next → o.wp P a w next Q:=fun ⟨u,h1,h2⟩ kk => zlM R0 L F hd h1 h2 kk
 have mapped : ∀ {x : Option V},x.map (r.put d) = some r1 → (∀ v,x = some v → ∃ u,(execOp a.eval o).run P w = .ok (.value u) w ∧ zf g w r.st v u) → o.wp P a w next Q:=fun {x} hx hv => by
  rw [yb] at hx
  obtain ⟨v,h1,rfl⟩:=hx
  exact pure (hv v h1) k
 cases x <;> simp only [za7] at h <;> simp only [zmf] at hc
 case mv x =>
  injection h with h
  subst h
  split at hc
  ·rename_i y ho
   exact pure ⟨_,zog (.inl ho),F.get hc⟩ k
  ·rename_i y ho
   exact pure ⟨_,zog (.inr ho),F.get hc⟩ k
  ·cases hc
 case pick c x y =>
  split at hc
  ·rename_i c' x' y' ho
   simp only [ya] at hc
   exact mapped h fun v hv => zw2 ho (F.get hc.1.1) (F.get hc.1.2) (F.get hc.2) hv
  ·cases hc
 case bin op x y =>
  split at hc
  ·rename_i op' t x' y' yt ho
   simp only [ya,decide_eq_true_eq] at hc
   obtain ⟨⟨rfl,h1⟩,h2⟩:=hc
   exact mapped h fun v hv => zv6 ho (F.get h1) (F.get h2) hv
  ·cases hc
 case beq neg x y =>
  split at hc
  ·rename_i op t x' y' ty ho
   simp only [ya] at hc
   obtain ⟨⟨⟨h1,h2⟩,h4⟩,h5⟩:=hc
   have hop : (op = .eql ∧ neg = false) ∨ (op = .neq ∧ neg = true):=by
    cases op <;> simp_all
   split at h2
   ·rename_i ht
    exact mapped h fun v hv => zyE ho hop ht (F.get h4) (F.get h5) hv
   ·cases h2
  ·cases hc
 case steq neg x y =>
  split at hc
  ·rename_i op t x' y' ty ho
   simp only [ya] at hc
   obtain ⟨⟨⟨h1,h2⟩,h4⟩,h5⟩:=hc
   have hop : (op = .eql ∧ neg = false) ∨ (op = .neq ∧ neg = true):=by
    cases op <;> simp_all
   split at h2
   ·rename_i ht
    exact mapped h fun v hv => zxs ho hop ht (F.get h4) (F.get h5) hv
   ·cases h2
  ·cases hc
 case str x =>
  split at hc
  ·rename_i s t x' ho
   simp only [ya] at hc
   obtain ⟨⟨h1,h2⟩,h3⟩:=hc
   split at h1
   ·rename_i e hs
    split at h1
    ·rename_i he
     split at h2
     ·rename_i ht
      exact mapped h fun v hv => zyQ R0 ho hs he ht (F.get h3) hv
     ·cases h2
    ·cases h1
   ·cases h1
  ·cases hc
 case sla n l x =>
  split at hc
  ·rename_i t x' lo ho
   simp only [ya] at hc
   obtain ⟨⟨h1,h2⟩,h3⟩:=hc
   split at h1
   ·rename_i n' e ht
    simp only [ya,beq_iff_eq] at h1
    obtain ⟨rfl,hs⟩:=h1
    refine mapped h fun v hv => zxU ho ht hs ?_ (F.get h2) hv
    split at h3
    ·exact .inl ⟨rfl,by simpa using h3⟩
    ·rename_i kk k
     exact .inr ⟨kk,by rw [of_decide_eq_true h3]⟩
    ·cases h3
   ·cases h1
  ·cases hc
 case stn sz x =>
  split at hc
  ·rename_i t x' ho
   simp only [ya,beq_iff_eq] at hc
   obtain ⟨⟨h1,h2⟩,h4⟩:=hc
   rw [yb] at h
   obtain ⟨r2,h,rfl⟩:=h
   exact zAb R0 L F ho hd (by cases d <;> simp [zDP] at h1 ⊢) h2 (F.get h4) h k
  ·cases hc
 case frz sz x =>
  split at hc
  ·rename_i x' ho
   exact zx5 R0 L F ho hd (F.get hc) h k
  ·cases hc
 case bxf sz x =>
  split at hc
  ·rename_i t x' ho
   simp only [ya,decide_eq_true_eq] at hc
   split at h
   ·rename_i hcc
    rw [yb] at h
    obtain ⟨fs,hf,rfl⟩:=h
    exact zzR R0 L F ho hd hc.1 (F.get hc.2) hcc hf k
   ·cases h
  ·cases hc
 case pnil neg x =>
  split at hc
  ·rename_i op t x' ty ho
   simp only [ya] at hc
   obtain ⟨⟨h1,h2⟩,h4⟩:=hc
   have hop : (op = .eql ∧ neg = false) ∨ (op = .neq ∧ neg = true):=by
    cases op <;> simp_all
   split at h2
   ·rename_i ht
    exact mapped h fun v hv => zwN ho hop ht (F.get h4) hv
   ·cases h2
  ·cases hc
 case eqa n neg x y =>
  split at hc
  ·rename_i op t x' y' ty ho
   simp only [ya,beq_iff_eq,Bool.not_eq_true'] at hc
   obtain ⟨⟨⟨⟨h1,h2⟩,h3⟩,h4⟩,h5⟩:=hc
   have hop : (op = .eql ∧ neg = false) ∨ (op = .neq ∧ neg = true):=by
    cases op <;> simp_all
   exact mapped h fun v hv => zzF ho hop h2 h3 (F.get h4) (F.get h5) hv
  ·cases hc
 case un op x =>
  split at hc
  ·rename_i op' t x' ho
   simp only [ya,decide_eq_true_eq] at hc
   obtain ⟨rfl,h1⟩:=hc
   exact mapped h fun v hv => zzq ho (F.get h1) hv
  ·cases hc
 case conv kk x =>
  split at hc
  ·rename_i s t x' ho
   simp only [ya] at hc
   obtain ⟨⟨h1,h2⟩,h3⟩:=hc
   split at h2
   ·rename_i k' ht
    have : k' = kk:=by simpa using h2
    subst this
    exact mapped h fun v hv => zxj ho h1 ht (F.get h3) hv
   ·cases h2
  ·cases hc
 case len x =>
  split at hc
  ·rename_i x' t ho
   simp only [ya] at hc
   obtain ⟨h1,h2⟩:=hc
   split at h1
   ·rename_i e ht
    exact mapped h fun v hv => zAg ho rfl rfl rfl ht (F.get h2) hv
   ·cases h1
  ·cases hc
 case lens x =>
  split at hc
  ·rename_i x' t ho
   simp only [ya] at hc
   obtain ⟨h1,h2⟩:=hc
   split at h1
   ·rename_i ht
    exact mapped h fun v hv => zxw ho rfl rfl rfl ht (F.get h2) hv
   ·cases h1
  ·cases hc
 case fa off x =>
  split at hc
  ·rename_i t x' i ho
   simp only [ya] at hc
   obtain ⟨h1,h2⟩:=hc
   split at h1
   ·rename_i fs ht
    split at h1
    ·rename_i f hf
     simp only [ya,beq_iff_eq] at h1
     obtain ⟨h1,h3⟩:=h1
     split at h1
     ·rename_i n hs
      exact mapped h fun v hv => zBQ ho ht hf hs (by simpa using h1) h3 (F.get h2) hv
     ·cases h1
    ·cases h1
   ·cases h1
  ·cases hc
 case ia sz x i =>
  split at hc
  ·rename_i t x' i' ho
   simp only [ya] at hc
   obtain ⟨⟨h1,h2⟩,h3⟩:=hc
   split at h1
   ·rename_i e ht
    exact mapped h fun v hv => zB4 ho ht (by simpa using h1) (F.get h2) (F.get h3) hv
   ·cases h1
  ·cases hc
 case iaa n sz x i =>
  split at hc
  ·rename_i t x' i' ho
   simp only [ya] at hc
   obtain ⟨⟨h1,h2⟩,h3⟩:=hc
   split at h1
   ·rename_i n' e ht
    simp only [ya,beq_iff_eq] at h1
    obtain ⟨rfl,h1⟩:=h1
    exact mapped h fun v hv => zx8 ho ht h1 (F.get h2) (F.get h3) hv
   ·cases h1
  ·cases hc
 case ld sz x =>
  split at hc
  ·rename_i t x' ho
   simp only [ya] at hc
   exact mapped h fun v hv => zvB R0 ho (zmN hc.1) (F.get hc.2) hv
  ·cases hc
 case st sz x v =>
  split at hc
  ·rename_i t x' v' ho
   simp only [ya,beq_iff_eq,decide_eq_true_eq] at hc
   obtain ⟨⟨⟨⟨h1,h2⟩,h3⟩,h4⟩,h5⟩:=hc
   rw [yb] at h
   obtain ⟨r2,h,rfl⟩:=h
   exact zvk R0 L F ho hd (by cases d <;> simp [zDP] at h1 ⊢) h2 h3 (F.get h4) (F.get h5) h k
  ·cases hc
 case al zero fresh =>
  injection h with h
  subst h
  split at hc
  ·rename_i t ho
   obtain ⟨zs,h1,h2,h3⟩:=zkZ hc
   exact zB9 R0 L F ho hd h1 h2 h3 k
  ·cases hc
 case box sz x =>
  split at hc
  ·rename_i t x' ho
   simp only [ya,decide_eq_true_eq] at hc
   split at h
   ·rename_i hcc
    injection h with h
    subst h
    exact zyw R0 L F ho hd hc.1 (F.get hc.2) hcc.1 hcc.2 k
   ·cases h
  ·cases hc
 case bld zero parts fresh =>
  split at hc
  ·rename_i t ps ho
   simp only [ya] at hc
   obtain ⟨h1,h2⟩:=hc
   obtain ⟨zs,h3,h4,h5⟩:=zkZ h1
   split at h2
   ·rename_i place hp
    exact zzo R0 L F ho hd h3 h4 h5 hp h2 h k
   ·cases h2
  ·cases hc
 case bsl b sz zero parts =>
  split at hc
  ·rename_i t len ps ho
   simp only [ya,beq_iff_eq,decide_eq_true_eq] at hc
   obtain ⟨⟨⟨⟨h1,h2⟩,h3⟩,h4⟩,h5⟩:=hc
   split at h1
   ·rename_i e ht
    simp only [ya,beq_iff_eq] at h1
    obtain ⟨h1,h6⟩:=h1
    split at h6
    ·rename_i zs hz
     simp only [ya,beq_iff_eq] at h6
     exact zz1 R0 L F ho hd ht h1 h2 h3 h4 hz h6.1.1 h6.1.2 h6.2 h5 h k
    ·cases h6
   ·cases h1
  ·cases hc
 case nl b sz =>
  split at hc
  ·rename_i ho
   exact zu5 R0 L F (.inl ho) hd h k
  ·rename_i ho
   exact zu5 R0 L F (.inr ho) hd h k
  ·cases hc
 case app sz s x =>
  split at hc
  ·rename_i s' x' t t' ho
   simp only [ya,beq_iff_eq,decide_eq_true_eq] at hc
   obtain ⟨⟨⟨⟨rfl,h1⟩,h2⟩,h3⟩,h4⟩:=hc
   split at h1
   ·rename_i e ht
    simp only [ya] at h1
    obtain ⟨h1,h5⟩:=h1
    split at h1
    ·rename_i i hi
     split at h5
     ·rename_i zs hz
      simp only [ya,beq_iff_eq,decide_eq_true_eq] at h1 h5
      exact zx1 R0 L F ho rfl rfl rfl hd ht hi h1.1 h1.2 h2 hz h5 (F.get h3) (F.get h4) h k
     ·cases h5
    ·cases h1
   ·cases h1
  ·cases hc
 case cpy sz x y =>
  split at hc
  ·rename_i x' y' t t' ho
   simp only [ya,decide_eq_true_eq] at hc
   obtain ⟨⟨⟨h1,h2⟩,h3⟩,h4⟩:=hc
   split at h1
   ·rename_i e ht
    exact zzr R0 L F ho rfl rfl rfl hd ht (by simpa using h1) h2 (F.get h3) (F.get h4) h k
   ·cases h1
  ·cases hc
 case mks zero fresh n =>
  split at hc
  ·rename_i t l c ho
   simp only [ya,beq_iff_eq] at hc
   obtain ⟨⟨rfl,h1⟩,h2⟩:=hc
   split at h1
   ·rename_i e ht
    split at h1
    ·rename_i i hi
     simp only [ya,decide_eq_true_eq] at h1
     obtain ⟨⟨h3,h4⟩,h5⟩:=h1
     split at h5
     ·rename_i zs hz
      simp only [ya,beq_iff_eq] at h5
      obtain ⟨⟨h6,h7⟩,h8⟩:=h5
      refine zyr R0 L F ho hd ht hi h3 rfl h4 hz h6 h7 (fun j hj => ?_) (F.get h2) h k
      subst hj
      simp only [zhc,yh] at h8
      split at h8
      ·assumption
      ·cases h8
     ·cases h5
    ·cases h1
   ·cases h1
  ·cases hc
 case mkr zero j sz n =>
  split at hc
  ·rename_i t l c ho
   simp only [ya,beq_iff_eq] at hc
   obtain ⟨⟨rfl,h1⟩,h2⟩:=hc
   split at h1
   ·rename_i e ht
    split at h1
    ·rename_i i hi
     simp only [ya,decide_eq_true_eq] at h1
     obtain ⟨⟨h3,h4⟩,h5⟩:=h1
     split at h5
     ·rename_i zs hz
      simp only [ya,beq_iff_eq] at h5
      obtain ⟨⟨h6,h7⟩,h8⟩:=h5
      refine zyc R0 L F ho hd ht hi h3 rfl h4 hz h6 h7 ?_ (F.get h2) h k
      simp only [zhc,yh] at h8
      split at h8
      ·assumption
      ·cases h8
     ·cases h5
    ·cases h1
   ·cases h1
  ·cases hc
 case mkc sz n =>
  split at hc
  ·rename_i t kl x ho
   simp only [ya] at hc
   obtain ⟨h1,h2⟩:=hc
   split at h1
   ·rename_i e ht
    split at h1
    ·rename_i i hi
     simp only [ya,decide_eq_true_eq,beq_iff_eq] at h1
     obtain ⟨⟨h3,h4⟩,h5⟩:=h1
     obtain ⟨z,hz⟩:=Option.isSome_iff_exists.1 h5
     exact zy4 R0 L F ho hd ht hi h3 h4 hz (F.get h2) h k
    ·cases h1
   ·cases h1
  ·cases hc
 case slc sz x lo hi mx =>
  split at hc
  ·rename_i t x' lo' hi' mx' ho
   simp only [ya] at hc
   obtain ⟨⟨⟨⟨h1,h2⟩,h3⟩,h4⟩,h5⟩:=hc
   split at h1
   ·rename_i e ht
    have hq : zBo r hi mx = true:=by
     by_cases hq : zBo r hi mx = true
     ·exact hq
     ·rw [if_neg hq] at h
      cases h
    rw [if_pos hq] at h
    refine mapped h fun v hv => zzk ho ht (by simpa using h1) (zgI F h3) (zgI F h4) ?_ (F.get h2) hv
    split at h5
    ·exact .inl ⟨rfl,rfl⟩
    ·rename_i m m'
     simp only [ya] at h5
     obtain ⟨h5,h6⟩:=h5
     refine .inr ⟨rfl,h5,?_⟩
     cases hi with
     | none => cases h5
     | some hx =>
       obtain ⟨z',e1,e2⟩:=(zgI F h4).1 hx rfl
       have e3:=F.get h6
       simp only [zBo] at hq
       unfold ztX at hq
       split at hq
       ·rename_i q1 q2
        simp only [ya,decide_eq_true_eq] at hq
        rw [q1] at e3
        rw [q2] at e2
        rw [e1,yi,yi,(zA e3).1,(zA e2).1,hq.1,hq.2]
       ·cases hq
    ·cases h5
   ·cases h1
  ·cases hc
 case slcs x lo hi =>
  split at hc
  ·rename_i t x' lo' hi' ho
   simp only [ya] at hc
   obtain ⟨⟨⟨h1,h2⟩,h3⟩,h4⟩:=hc
   split at h1
   ·rename_i ht
    exact mapped h fun v hv => zwr ho ht (zgI F h3) (zgI F h4) (F.get h2) hv
   ·cases h1
  ·cases hc
 case nlc => cases hc
 case ext x i =>
  split at hc
  ·rename_i x' i' ho
   simp only [ya,beq_iff_eq] at hc
   obtain ⟨rfl,h1⟩:=hc
   exact mapped h fun v hv => zyT ho (F.get h1) hv
  ·cases hc
 case fld off sz x =>
  split at hc
  ·rename_i t x' i ho
   simp only [ya] at hc
   obtain ⟨h1,h2⟩:=hc
   split at h1
   ·rename_i fs ht
    split at h1
    ·rename_i f hf
     simp only [ya,beq_iff_eq] at h1
     exact mapped h fun v hv => zym ho ht hf h1.1 (zmN h1.2) (F.get h2) hv
    ·cases h1
   ·cases h1
  ·cases hc
 case idx n x i =>
  split at hc
  ·rename_i t x' i' ho
   simp only [ya] at hc
   obtain ⟨⟨h1,h2⟩,h3⟩:=hc
   split at h1
   ·rename_i n' e ht
    simp only [ya,beq_iff_eq] at h1
    obtain ⟨⟨rfl,h1⟩,h4⟩:=h1
    exact mapped h fun v hv => zyy ho ht h1 h4 (F.get h2) (F.get h3) hv
   ·cases h1
  ·cases hc
 case nil x =>
  split at hc
  ·rename_i x' ho
   exact mapped h fun v hv => zxQ ho (F.get hc) hv
  ·cases hc
 case mkf f first caps =>
  injection h with h
  subst h
  split at hc
  ·rename_i f' first' caps' ho
   simp only [ya,beq_iff_eq] at hc
   obtain ⟨⟨rfl,h1⟩,h2⟩:=hc
   exact pure (zxI F ho h1 h2) k
  ·cases hc
 case mkm =>
  injection h with h
  subst h
  split at hc
  ·rename_i t ho
   exact zys R0 L F ho hd k
  ·cases hc
 case lk zero ok m kk =>
  split at hc
  ·rename_i t m' k' ok' ho
   simp only [ya,beq_iff_eq] at hc
   obtain ⟨⟨⟨rfl,h1⟩,h2⟩,h3⟩:=hc
   split at h1
   ·rename_i key elem ht
    simp only [ya] at h1
    obtain ⟨h1,h4⟩:=h1
    split at h1
    ·rename_i hk
     split at h4
     ·rename_i i hi
      split at h4
      ·rename_i z hz
       exact mapped h fun v hv => zBf R0 ho ht hk hi hz h4 (F.get h2) (F.get h3) hv
      ·cases h4
     ·cases h4
    ·cases h1
   ·cases h1
  ·cases hc
 case mu m kk v =>
  split at hc
  ·rename_i t m' k' v' ho
   simp only [ya] at hc
   obtain ⟨⟨⟨⟨h1,h2⟩,h3⟩,h4⟩,h5⟩:=hc
   split at h2
   ·rename_i key elem ht
    split at h2
    ·rename_i hk
     rw [yb] at h
     obtain ⟨r2,h,rfl⟩:=h
     exact zCk R0 L F (zAj ho) hd (by cases d <;> simp [zDP] at h1 ⊢) ht hk (F.get h3) (F.get h4) (F.get h5) h k
    ·cases h2
   ·cases h2
  ·cases hc
 case mxn isMax x y =>
  split at hc
  ·rename_i b x' y' tys ho
   simp only [ya,decide_eq_true_eq] at hc
   obtain ⟨⟨h1,h2⟩,h3⟩:=hc
   exact mapped h fun v hv => zya ho rfl h1 rfl (F.get h2) (F.get h3) hv
  ·cases hc
 case call m f xs =>
  split at hc
  ·rename_i f' args tys ho
   simp only [ya] at hc
   exact zwk S R0 L F ho rfl hd hc.1 hc.2 h k
  ·cases hc
 case no => exact absurd h (by simp [za7])
end
end Go.A
namespace Go.A
def zfM (κ : List Tmp) (loc : List (Option Tmp)) (gops : Array Go.Oper) : Option (Nat × Bool) → Option (X × Bool) → Bool
 | none,none => true
 | some (j,b),some (x,b') => (b == b') && (match (gops[j]?).bind (·.dst) with
   | some t => okX κ loc (.tmp t) x
   | none => false)
 | _,_ => false
def zqp (P : Program) (κ : List Tmp) (nt : Nat) (gops : Array Go.Oper) : List (Option Tmp) → List Go.Oper → List Oper → Bool
 | _,[],[] => true
 | loc,o :: os,x :: xs => okD κ nt o.dst x.dst && zfM κ loc gops o.guard x.guard && zmf P κ loc o x.dst x.op && zqp P κ nt gops (zaO o.dst x.dst :: loc) os xs
 | _,_,_ => false
section
variable {P : Program} {κ : List Tmp} {loc : List (Option Tmp)} {nt : Nat} {g : G} {w : World} {r r' : R} {a : Act} {o : Go.Oper} {d : D} {next : Act → World → Prop} {Q : Exit → Act → World → Prop}
theorem zqu (F : Fr κ loc nt g w r a) {gops : Array Go.Oper} {gd : Option (Nat × Bool)} {gx : Option (X × Bool)} (h : zfM κ loc gops gd gx = true) : (gx = none → gd = none):=by
 unfold zfM at h
 split at h
 ·exact fun _ => rfl
 ·intro h; cases h
 ·cases h
theorem zxh {gops : Array Go.Oper} {j : Nat} {t : Tmp} {b : Bool} (h : (gops[j]?).bind (·.dst) = some t) (hv : a.tmps.getD t undef = .bool b) : yielded gops a.tmps j = some b:=by
 unfold yielded
 rw [h]
 simp only [yf]
 cases hq : a.tmps[t]? with
 | none => rw [yc,hq] at hv; cases hv
 | some v =>
   rw [yc,hq] at hv
   simp only [yg] at hv
   rw [hv]
theorem zeu {Cf : zad} (S : zgQ P Cf) (R0 : Rel g w r.st) (F : Fr κ loc nt g w r a) {gops : Array Go.Oper} {x : Oper} (hd : okD κ nt o.dst x.dst = true) (hg : zfM κ loc gops o.guard x.guard = true) (hc : zmf P κ loc o x.dst x.op = true) {r1 : R} (h : step Cf r x = some r1)
  (k : znE κ (zaO o.dst x.dst :: loc) nt g w r r1 (a.put o.dst) next) (hi : ∀ a',next a' w → next a' w) :
  if Region.wanted o (yielded gops a.tmps) then o.wp P a w next Q else next (a.put o.dst undef) w:=by
 obtain ⟨d,op,gx⟩:=x
 simp only at hd hg hc
 cases gx with
 | none =>
   have:=zqu F hg rfl
   simp only [Region.wanted,this,if_true]
   exact zv2 S R0 ⟨trivial⟩ F hd hc h k
 | some p =>
   obtain ⟨y,b⟩:=p
   unfold zfM at hg
   split at hg
   ·rename_i heq; cases heq
   ·rename_i j b' x' b'' hgd heq
    injection heq with heq
    injection heq with heq1 heq2
    subst heq1 heq2
    simp only [ya,beq_iff_eq] at hg
    obtain ⟨rfl,hg⟩:=hg
    split at hg
    ·rename_i t ht
     have hv:=F.get hg
     simp only [step] at h
     unfold znx at h
     split at h
     ·rename_i tb hget
      rw [hget] at hv
      obtain ⟨ev,_⟩:=zA hv
      have hy:=zxh (gops:=gops) ht ev
      simp only [Region.wanted,hgd,hy]
      split at h
      ·rename_i htb
       subst htb
       simp only [beq_self_eq_true,if_true]
       exact zv2 S R0 ⟨trivial⟩ F hd hc h k
      ·rename_i htb
       injection h with h
       subst h
       have : (some tb == some b') = false:=by simpa using htb
       rw [this]
       simp only [ye,if_false]
       refine k g w _ ?_ ?_ ⟨trivial⟩ (F.put hd fun _ => by simp only [zf]; exact ⟨#[],rfl,by simp only [zz]⟩)
       ·rw [zeX]; exact Ext.refl _ _ _
       ·rw [zeX]; exact R0
     ·rename_i hget
      rw [hget] at hv
      injection h with h
      subst h
      have hu : a.tmps.getD t undef = .tuple #[]:=by
       simp only [zf,zz] at hv
       obtain ⟨us,h1,h2⟩:=hv
       have : us = #[]:=by cases us; simpa using h2
       rw [this] at h1
       exact h1
      have hy : yielded gops a.tmps j = none:=by
       unfold yielded
       rw [ht]
       simp only [yf]
       cases hq : a.tmps[t]? with
       | none => rfl
       | some v =>
         rw [yc,hq] at hu
         simp only [yg] at hu
         rw [hu]
      simp only [Region.wanted,hgd,hy]
      have : (none == some b') = false:=rfl
      rw [this]
      simp only [ye,if_false]
      refine k g w _ ?_ ?_ ⟨trivial⟩ (F.put hd fun _ => by simp only [zf]; exact ⟨#[],rfl,by simp only [zz]⟩)
      ·rw [zeX]; exact Ext.refl _ _ _
      ·rw [zeX]; exact R0
     ·cases h
    ·cases hg
   ·cases hg
theorem zsR {Cf : zad} (S : zgQ P Cf) {gops : Array Go.Oper} : ∀ (os : List Go.Oper) (xs : List Oper) (i : Nat) {loc : List (Option Tmp)} {g : G} {w : World} {r : R} {a : Act} {r1 : R},(∀ j,os[j]? = gops[i + j]?) → zqp P κ nt gops loc os xs = true → steps Cf xs r = some r1 → Rel g w r.st → Fr κ loc nt g w r a →
  (∀ g' w' a' loc',Ext g w r.st g' w' r1.st → Rel g' w' r1.st → Fr κ loc' nt g' w' r1 a' → Q .normal a' w') → wpOps P gops Q (yj i os.length) a w
 | [],[],i,loc,g,w,r,a,r1,_,_,h,R0,F,k => by
   simp only [steps,Option.some.injEq] at h
   subst h
   exact k g w a loc (Ext.refl _ _ _) R0 F
 | o :: os,x :: xs,i,loc,g,w,r,a,r1,hi,hc,h,R0,F,k => by
   simp only [zqp,ya] at hc
   obtain ⟨⟨⟨h1,h2⟩,h3⟩,h4⟩:=hc
   simp only [steps,Option.bind_eq_some_iff] at h
   obtain ⟨r2,h5,h6⟩:=h
   have hio : gops[i]? = some o:=by simpa using (hi 0).symm
   rw [yd,List.range'_succ]
   have key:=zeu (Q:=Q) (gops:=gops) (next:=wpOps P gops Q (yj (i + 1) os.length)) S R0 F h1 h2 h3 h5 (fun g' w' a' H R1 _ F1 =>
    zsR S os xs (i + 1) (fun j => by
     have:=hi (j + 1)
     rw [show i + (j + 1) = i + 1 + j from by omega] at this
     rw [← this]
     simp) h4 h6 R1 F1 fun g2 w2 a2 loc2 H2 R2 F2 => k g2 w2 a2 loc2 (H.trans H2) R2 F2) (fun _ h => h)
   simp only [wpOps,hio]
   split
   ·rename_i hw
    rw [if_pos hw] at key
    exact .inl key
   ·rename_i hw
    rw [if_neg hw] at key
    exact key
 | [],_ :: _,_,_,_,_,_,_,_,_,hc,_,_,_,_ => by simp [zqp] at hc
 | _ :: _,[],_,_,_,_,_,_,_,_,hc,_,_,_,_ => by simp [zqp] at hc
structure At' (g0 : G) (w0 : World) (σ0 : zd) (κ : List Tmp) (nt : Nat) (g : G) (w : World) (s : St) (a : Act) : Prop where
 ext : Ext g0 w0 σ0 g w s.st
 rel : Rel g w s.st
 fr : Fr κ [] nt g w ⟨[],s.env,s.st,s.base,s.lim⟩ a
theorem Fr.bare {rs : List V} {env : List V} {st : zd} {b l b' l' : Nat} (F : Fr κ loc nt g w ⟨rs,env,st,b,l⟩ a) : Fr κ [] nt g w ⟨[],env,st,b',l'⟩ a :=
 ⟨F.size,F.len,F.env,fun d t h => by simp at h,fun d t h => by simp at h,F.nd,F.bd,F.df⟩
theorem zmG : ∀ {bs : List Bool} {vs : List V},bs.length = vs.length → (clr bs vs).length = vs.length
 | [],[],_ => rfl
 | true :: bs,v :: vs,h => by simp only [clr,yd]; rw [zmG (by simpa using h)]
 | false :: bs,v :: vs,h => by simp only [clr,yd]; rw [zmG (by simpa using h)]
 | [],_ :: _,h => by simp at h
 | _ :: _,[],h => by simp at h
theorem zu0 : ∀ {bs : List Bool} {vs : List V} {i : Nat},(clr bs vs).getD i vun = vs.getD i vun ∨ (clr bs vs).getD i vun = vun
 | [],vs,i => .inr (by simp [clr])
 | true :: bs,[],i => .inr (by simp [clr])
 | false :: bs,[],i => .inr (by simp [clr])
 | true :: bs,v :: vs,0 => .inl (by simp [clr])
 | false :: bs,v :: vs,0 => .inr (by simp [clr])
 | true :: bs,v :: vs,i + 1 => by simpa [clr] using zu0 (bs:=bs) (vs:=vs) (i:=i)
 | false :: bs,v :: vs,i + 1 => by simpa [clr] using zu0 (bs:=bs) (vs:=vs) (i:=i)
theorem Fr.clr {env : List V} {st : zd} {b l : Nat} {bs : List Bool} (F : Fr κ [] nt g w ⟨[],env,st,b,l⟩ a) (hb : bs.length = κ.length) : Fr κ [] nt g w ⟨[],Go.A.clr bs env,st,b,l⟩ a :=
 ⟨F.size,by
  have:=F.len
  simp only at this
  show (Go.A.clr bs env).length = _
  rw [zmG (by rw [hb]; exact this.symm)]
  exact this,fun i t h => by
  have:=F.env i t h
  simp only at this ⊢
  rcases zu0 (bs:=bs) (vs:=env) (i:=i) with e | e
  ·rw [e]; exact this
  ·rw [e]; simp only [vun,zf,zw],fun d t h => by simp at h,fun d t h => by simp at h,F.nd,F.bd,F.df⟩
theorem zvN {n : Nat} : ∀ {vs : List V} {i : Nat},V.lts n vs = true → (vs.getD i vun).lt n = true
 | [],i,_ => by simp [vun,V.lt,C.lt]
 | v :: vs,0,h => by
   simp only [V.lts,ya] at h
   simpa using h.1
 | v :: vs,i + 1,h => by
   simp only [V.lts,ya] at h
   simpa using zvN (vs:=vs) (i:=i) h.2
theorem zn6 {g0 : G} {w0 : World} {σ0 : zd} {s s' : St} {live : List Bool} {objs : Nat} (hc : Clean g0 σ0.length) (hb : σ0.length ≤ s.base) (hl : live.length = κ.length) (h : s.clear live objs = some s') (A : At' g0 w0 σ0 κ nt g w s a) : ∃ g',At' g0 w0 σ0 κ nt g' w s' a:=by
 unfold St.clear at h
 rw [yb] at h
 obtain ⟨σ',h,rfl⟩:=h
 have F1:=A.fr.clr (bs:=live) hl
 unfold zme at h
 split at h
 ·injection h with h
  subst h
  exact ⟨g,A.ext,A.rel,F1⟩
 ·split at h
  ·rename_i hlt
   injection h with h
   subst h
   simp only [ya] at hlt
   refine ⟨g.drop (s.base + objs) w,zv1 A.ext hc (by omega),zvO A.rel hlt.2,⟨F1.size,F1.len,fun i t ht => ?_,fun d t h => by simp at h,fun d t h => by simp at h,F1.nd,F1.bd,F1.df⟩⟩
   exact zjn _ _ (F1.env i t ht) (zvN hlt.1)
  ·cases h
end
end Go.A
