/- A part of the proof of SchedFlat. Conditions: none. -/
import Derived.Test.YtmkncmffaaninaaGreatFAH
import Derived.Scope
set_option linter.all false
open Bool renaming and_eq_true → ya,false_eq_true → ye,and_true → yh
open Array renaming getD_eq_getD_getElem? → yb
open Option renaming map_eq_some_iff → yc,bind_some → yf,getD_some → yg,map_some → yi
open List renaming length_cons → yd,range' → yj
namespace Go.A
def zFp : D → Bool
 | .no => true
 | _ => false
def zBH (κ : List Tmp) (loc : List (Option Tmp)) : Option Operand → Option X → Bool
 | none,none => true
 | some x,some y => okX κ loc x y
 | _,_ => false
def zEf (P : Program) (t : TypeId) : Option Nat → Bool
 | none => zlD P t == some false
 | some n => zlD P t == some true && zjo P t == some n
def zv6 (P : Program) (t : TypeId) (zero : List C) (fresh : List (Nat × Nat)) : Bool :=
 match zeroOf P t with
 | some zs => zfm zs zero && zg8 zs fresh
 | none => false
def zF2 : Go.Op → Option (TypeId × Operand × Operand × Operand)
 | .mapUpdate t m k v => some (t,m,k,v)
 | .insert t m k v => some (t,m,k,v)
 | _ => none
theorem zyU {o : Go.Op} {t : TypeId} {m k v : Operand} (h : zF2 o = some (t,m,k,v)) : o = .mapUpdate t m k v ∨ o = .insert t m k v:=by
 unfold zF2 at h;split at h
 ·injection h with h
  simp only [Prod.mk.injEq] at h;obtain ⟨rfl,rfl,rfl,rfl⟩:=h;exact .inl rfl
 ·injection h with h
  simp only [Prod.mk.injEq] at h;obtain ⟨rfl,rfl,rfl,rfl⟩:=h;exact .inr rfl
 ·cases h
def zmm (P : Program) (κ : List Tmp) (loc : List (Option Tmp)) (o : Go.Oper) (d : D) : Op → Bool
 | .mv x => match o.op with
   | .move y => okX κ loc y x
   | .assign y => okX κ loc y x
   | _ => false
 | .pick c x y => match o.op with
   | .pick c' x' y' => okX κ loc c' c && okX κ loc x' x && okX κ loc y' y
   | _ => false
 | .bin op x y => match o.op with
   | .binOp op' _ x' y' _ => decide (op' = op) && okX κ loc x' x && okX κ loc y' y
   | _ => false
 | .beq neg x y => match o.op with
   | .binOp op t x' y' _ => (match op with
     | .eql => !neg
     | .neq => neg
     | _ => false) && (match P.underlying t with
     | some .bool => true
     | _ => false) && okX κ loc x' x && okX κ loc y' y
   | _ => false
 | .eqa n neg x y => match o.op with
   | .binOp op t x' y' _ => (match op with
     | .eql => !neg
     | .neq => neg
     | _ => false) && zvp P t == some n && !(P.eqGuardType P.depth t) && okX κ loc x' x && okX κ loc y' y
   | _ => false
 | .un op x => match o.op with
   | .unOp op' _ x' => decide (op' = op) && okX κ loc x' x
   | _ => false
 | .conv k x => match o.op with
   | .convert s t x' => (P.underlying s).isSome && (match P.underlying t with
     | some (.int k') => decide (k' = k)
     | _ => false) && okX κ loc x' x
   | _ => false
 | .len x => match o.op with
   | .call { callee:=.builtin .len,args:=⟨[x']⟩,argTypes:=⟨[t]⟩ } => (match P.underlying t with
     | some (.slice _) => true
     | _ => false) && okX κ loc x' x
   | _ => false
 | .fa off x => match o.op with
   | .fieldAddr t x' i => (match P.underlying t with
     | some (.struct fs) => (match fs[i]? with
       | some f => (match zjo P f.type with
         | some n => decide (n ≠ 0)
         | none => false) && f.offset == off
       | none => false)
     | _ => false) && okX κ loc x' x
   | _ => false
 | .ia sz x i => match o.op with
   | .indexAddr t x' i' => (match P.underlying t with
     | some (.slice e) => zjo P e == some sz
     | _ => false) && okX κ loc x' x && okX κ loc i' i
   | _ => false
 | .iaa n sz x i => match o.op with
   | .indexAddr t x' i' => (match P.underlying t with
     | some (.array n' e) => n' == n && zjo P e == some sz
     | _ => false) && okX κ loc x' x && okX κ loc i' i
   | _ => false
 | .ld sz x => match o.op with
   | .load t x' => zEf P t sz && okX κ loc x' x
   | _ => false
 | .st sz x v => match o.op with
   | .store t x' v' => zFp d && zjo P t == some sz && decide (0 < sz) && okX κ loc x' x && okX κ loc v' v
   | _ => false
 | .al zero fresh => match o.op with
   | .alloc t => zv6 P t zero fresh
   | _ => false
 | .box sz x => match o.op with
   | .box _ x' => decide (0 < sz) && okX κ loc x' x
   | _ => false
 | .bld zero parts fresh => match o.op with
   | .build t ps => zv6 P t zero fresh && (match zoy P t with
     | some place => zlL κ loc place ps.toList parts
     | none => false)
   | _ => false
 | .bsl _ sz zero parts => match o.op with
   | .buildSlice t len ps => (match P.underlying t with
     | some (.slice e) => zjo P e == some sz && (match zeroOf P e with
       | some zs => zs.length == sz && zs.all Value.oneCell' && zyg zs zero
       | none => false)
     | _ => false) && decide (0 < sz) && zero.length == len && decide (len * sz ≤ 16777216) && ziI κ loc ps.toList parts
   | _ => false
 | .nl _ _ => match o.op with
   | .move (.const (.slice none 0 0)) => true
   | .assign (.const (.slice none 0 0)) => true
   | _ => false
 | .app sz s x => match o.op with
   | .call { callee:=.builtin .append,args:=⟨[s',x']⟩,argTypes:=⟨[t,t']⟩ } => t == t' && (match P.underlying t with
     | some (.slice e) => (match P.info? e with
       | some i => decide (i.bytes ≤ 32768) && i.size == sz
       | none => false) && (match zeroOf P e with
       | some zs => zs.length == sz
       | none => false)
     | _ => false) && decide (0 < sz) && okX κ loc s' s && okX κ loc x' x
   | _ => false
 | .cpy sz x y => match o.op with
   | .call { callee:=.builtin .copy,args:=⟨[x',y']⟩,argTypes:=⟨[t,_]⟩ } => (match P.underlying t with
     | some (.slice e) => zjo P e == some sz
     | _ => false) && decide (0 < sz) && okX κ loc x' x && okX κ loc y' y
   | _ => false
 | .mks zero fresh n => match o.op with
   | .makeSlice t (.tmp l) (.tmp c) => l == c && (match P.underlying t with
     | some (.slice e) => (match P.info? e with
       | some i => decide (i.bytes ≤ 32768) && decide (0 < i.size) && (match zeroOf P e with
         | some zs => zs.length == i.size && zfm zs zero && (match fresh with
           | some j => zg8 zs [j]
           | none => true)
         | none => false)
       | none => false)
     | _ => false) && okX κ loc (.tmp l) n
   | _ => false
 | .mkr zero j _ n => match o.op with
   | .makeSlice t (.tmp l) (.tmp c) => l == c && (match P.underlying t with
     | some (.slice e) => (match P.info? e with
       | some i => decide (i.bytes ≤ 32768) && decide (0 < i.size) && (match zeroOf P e with
         | some zs => zs.length == i.size && zfm zs zero && zg8 zs [(j,0)]
         | none => false)
       | none => false)
     | _ => false) && okX κ loc (.tmp l) n
   | _ => false
 | .mkc sz n => match o.op with
   | .makeSlice t (.const (.int _ 0)) x => (match P.underlying t with
     | some (.slice e) => (match P.info? e with
       | some i => decide (i.bytes ≤ 32768) && i.size == sz && i.zero.isSome
       | none => false)
     | _ => false) && okX κ loc x n
   | _ => false
 | .slc sz x lo hi mx => match o.op with
   | .slice t x' lo' hi' mx' => (match P.underlying t with
     | some (.slice e) => zjo P e == some sz
     | _ => false) && okX κ loc x' x && zBH κ loc lo' lo && zBH κ loc hi' hi && (match mx,mx' with
     | none,none => true
     | some m,some m' => hi.isSome && okX κ loc m' m
     | _,_ => false)
   | _ => false
 | .ext x i => match o.op with
   | .extract x' i' => i' == i && okX κ loc x' x
   | _ => false
 | .fld off sz x => match o.op with
   | .field t x' i => (match P.underlying t with
     | some (.struct fs) => (match fs[i]? with
       | some f => f.offset == off && zEf P f.type sz
       | none => false)
     | _ => false) && okX κ loc x' x
   | _ => false
 | .nil x => match o.op with
   | .nilCheck x' => okX κ loc x' x
   | _ => false
 | .mkf f first caps => match o.op with
   | .makeFunc (.func f') first' caps' => f' == f && zx6 κ loc first'.toList first && zx6 κ loc caps'.toList caps
   | _ => false
 | .mkm => match o.op with
   | .makeMap _ none => true
   | _ => false
 | .lk zero ok m k => match o.op with
   | .lookup t m' k' ok' => ok' == ok && (match P.underlying t with
     | some (.map key elem) => (match P.underlying key with
       | some (.int .i64) => true
       | _ => false) && (match P.info? elem with
       | some i => (match i.zero with
         | some z => zph z zero
         | none => false)
       | none => false)
     | _ => false) && okX κ loc m' m && okX κ loc k' k
   | _ => false
 | .mu m k v => match zF2 o.op with
   | some (t,m',k',v') => zFp d && (match P.underlying t with
     | some (.map key _) => (match P.underlying key with
       | some (.int .i64) => true
       | _ => false)
     | _ => false) && okX κ loc m' m && okX κ loc k' k && okX κ loc v' v
   | none => false
 | .mxn isMax x y => match o.op with
   | .call { callee:=.builtin b,args:=⟨[x',y']⟩,.. } => decide (b = if isMax then .max else .min) && okX κ loc x' x && okX κ loc y' y
   | _ => false
 | .call _ f xs => match o.op with
   | .call { callee:=.value f',args,.. } => okX κ loc f' f && zx6 κ loc args.toList xs
   | _ => false
 | .no _ => true
section
variable {P : Program} {κ : List Tmp} {loc : List (Option Tmp)} {nt : Nat} {g : G} {w : World} {r r' : R} {a : Act} {o : Go.Oper} {d : D} {next : Act → World → Prop} {Q : Exit → Act → World → Prop}
theorem zlI (F : Fr κ loc nt g w r a) {x : Option Operand} {y : Option X} (h : zBH κ loc x y = true) : Opt g w r a x y:=by
 unfold zBH at h;split at h
 ·exact ⟨fun z b => (by cases b),fun _ => rfl⟩
 ·rename_i x y
  exact ⟨fun z b => (by injection b with b; subst b; exact ⟨x,rfl,F.get h⟩),fun c => (by cases c)⟩
 ·cases h
theorem zmU {t : TypeId} : ∀ {sz : Option Nat},zEf P t sz = true → match sz with
  | none => zlD P t = some false
  | some n => zlD P t = some true ∧ zjo P t = some n
 | none,h => by simpa [zEf] using h
 | some n,h => by simpa [zEf] using h
theorem zlP {t : TypeId} {zero : List C} {fresh : List (Nat × Nat)} (h : zv6 P t zero fresh = true) : ∃ zs,zeroOf P t = some zs ∧ zfm zs zero = true ∧ zg8 zs fresh = true:=by
 unfold zv6 at h;split at h
 ·rename_i zs a
  simp only [ya] at h;exact ⟨zs,a,h⟩
 ·cases h
theorem zvw {Cf : zae} (S : zhg P Cf) (J : Rel g w r.st) (L : Low r.base r.lim r.st) (F : Fr κ loc nt g w r a) (hd : okD κ nt o.dst d = true) {x : Op} (p : zmm P κ loc o d x = true) {r1 : R} (h : za8 Cf r d x = some r1)
  (k : zpE κ (za5 o.dst d :: loc) nt g w r r1 (a.put o.dst) next) : o.wp P a w next Q:=by
 have pure : ∀ {v : V},(∃ u,(execOp a.eval o).run P w = .ok (.value u) w ∧ zf g w r.st v u) → zpE κ (za5 o.dst d :: loc) nt g w r (r.put d v) (a.put o.dst) next → o.wp P a w next Q:=fun ⟨u,q,B⟩ kk => zl7 J L F hd q B kk
 have mapped : ∀ {x : Option V},x.map (r.put d) = some r1 → (∀ v,x = some v → ∃ u,(execOp a.eval o).run P w = .ok (.value u) w ∧ zf g w r.st v u) → o.wp P a w next Q:=fun {x} hx D => by
  rw [yc] at hx;obtain ⟨v,q,rfl⟩:=hx;exact pure (D v q) k
 cases x <;> simp only [za8] at h <;> simp only [zmm] at p
 case mv x =>
  injection h with h;subst h;split at p
  ·rename_i y A
   exact pure ⟨_,zrE (.inl A),F.get p⟩ k
  ·rename_i y A
   exact pure ⟨_,zrE (.inr A),F.get p⟩ k
  ·cases p
 case pick c x y =>
  split at p
  ·rename_i c' I Y A
   simp only [ya] at p;exact mapped h fun v D => zxH A (F.get p.1.1) (F.get p.1.2) (F.get p.2) D
  ·cases p
 case bin op x y =>
  split at p
  ·rename_i aB t I Y yt A
   simp only [ya,decide_eq_true_eq] at p;obtain ⟨⟨rfl,q⟩,B⟩:=p;exact mapped h fun v D => zxi A (F.get q) (F.get B) D
  ·cases p
 case beq neg x y =>
  split at p
  ·rename_i op t I Y ty A
   simp only [ya] at p;obtain ⟨⟨⟨q,B⟩,H⟩,C⟩:=p
   have U : (op = .eql ∧ neg = false) ∨ (op = .neq ∧ neg = true):=by
    cases op <;> simp_all
   split at B
   ·rename_i G
    exact mapped h fun v D => zAk A U G (F.get H) (F.get C) D
   ·cases B
  ·cases p
 case eqa n neg x y =>
  split at p
  ·rename_i op t I Y ty A
   simp only [ya,beq_iff_eq,Bool.not_eq_true'] at p;obtain ⟨⟨⟨⟨q,B⟩,E⟩,H⟩,C⟩:=p
   have U : (op = .eql ∧ neg = false) ∨ (op = .neq ∧ neg = true):=by
    cases op <;> simp_all
   exact mapped h fun v D => zy3 A U B E (F.get H) (F.get C) D
  ·cases p
 case un op x =>
  split at p
  ·rename_i aB t I A
   simp only [ya,decide_eq_true_eq] at p;obtain ⟨rfl,q⟩:=p;exact mapped h fun v D => zxY A (F.get q) D
  ·cases p
 case conv kk x =>
  split at p
  ·rename_i s t I A
   simp only [ya] at p;obtain ⟨⟨q,B⟩,E⟩:=p;split at B
   ·rename_i k' G
    have : k' = kk:=(by simpa using B);subst this;exact mapped h fun v D => zwN A q G (F.get E) D
   ·cases B
  ·cases p
 case len x =>
  split at p
  ·rename_i I t A
   simp only [ya] at p;obtain ⟨q,B⟩:=p;split at q
   ·rename_i e G
    exact mapped h fun v D => zy9 A rfl rfl rfl G (F.get B) D
   ·cases q
  ·cases p
 case fa off x =>
  split at p
  ·rename_i t I i A
   simp only [ya] at p;obtain ⟨q,B⟩:=p;split at q
   ·rename_i fs G
    split at q
    ·rename_i f hf
     simp only [ya,beq_iff_eq] at q;obtain ⟨q,E⟩:=q;split at q
     ·rename_i n hs
      exact mapped h fun v D => zBs A G hf hs (by simpa using q) E (F.get B) D
     ·cases q
    ·cases q
   ·cases q
  ·cases p
 case ia sz x i =>
  split at p
  ·rename_i t I i' A
   simp only [ya] at p;obtain ⟨⟨q,B⟩,E⟩:=p;split at q
   ·rename_i e G
    exact mapped h fun v D => zAW A G (by simpa using q) (F.get B) (F.get E) D
   ·cases q
  ·cases p
 case iaa n sz x i =>
  split at p
  ·rename_i t I i' A
   simp only [ya] at p;obtain ⟨⟨q,B⟩,E⟩:=p;split at q
   ·rename_i n' e G
    simp only [ya,beq_iff_eq] at q;obtain ⟨rfl,q⟩:=q;exact mapped h fun v D => zyA A G q (F.get B) (F.get E) D
   ·cases q
  ·cases p
 case ld sz x =>
  split at p
  ·rename_i t I A
   simp only [ya] at p;exact mapped h fun v D => zvt J A (zmU p.1) (F.get p.2) D
  ·cases p
 case st sz x v =>
  split at p
  ·rename_i t I v' A
   simp only [ya,beq_iff_eq,decide_eq_true_eq] at p;obtain ⟨⟨⟨⟨q,B⟩,E⟩,H⟩,C⟩:=p;rw [yc] at h;obtain ⟨r2,h,rfl⟩:=h;exact zBl J L F A hd (by cases d <;> simp [zFp] at q ⊢) B E (F.get H) (F.get C) h k
  ·cases p
 case al zero fresh =>
  injection h with h;subst h;split at p
  ·rename_i t A
   obtain ⟨X,q,B,E⟩:=zlP p;exact zBf J L F A hd q B E k
  ·cases p
 case box sz x =>
  split at p
  ·rename_i t I A
   simp only [ya,decide_eq_true_eq] at p;split at h
   ·rename_i Z
    injection h with h;subst h;exact zzq J L F A hd p.1 (F.get p.2) Z.1 Z.2 k
   ·cases h
  ·cases p
 case bld zero parts fresh =>
  split at p
  ·rename_i t ps A
   simp only [ya] at p;obtain ⟨q,B⟩:=p;obtain ⟨X,E,H,C⟩:=zlP q;split at B
   ·rename_i place hp
    exact zy5 J L F A hd E H C hp B h k
   ·cases B
  ·cases p
 case bsl b sz zero parts =>
  split at p
  ·rename_i t len ps A
   simp only [ya,beq_iff_eq,decide_eq_true_eq] at p;obtain ⟨⟨⟨⟨q,B⟩,E⟩,H⟩,C⟩:=p;split at q
   ·rename_i e G
    simp only [ya,beq_iff_eq] at q;obtain ⟨q,M⟩:=q;split at M
    ·rename_i X O
     simp only [ya,beq_iff_eq] at M;exact zAf J L F A hd G q B E H O M.1.1 M.1.2 M.2 C h k
    ·cases M
   ·cases q
  ·cases p
 case nl b sz =>
  split at p
  ·rename_i A
   exact zv2 J L F (.inl A) hd h k
  ·rename_i A
   exact zv2 J L F (.inr A) hd h k
  ·cases p
 case app sz s x =>
  split at p
  ·rename_i s' I t t' A
   simp only [ya,beq_iff_eq,decide_eq_true_eq] at p;obtain ⟨⟨⟨⟨rfl,q⟩,B⟩,E⟩,H⟩:=p;split at q
   ·rename_i e G
    simp only [ya] at q;obtain ⟨q,C⟩:=q;split at q
    ·rename_i i K
     split at C
     ·rename_i X O
      simp only [ya,beq_iff_eq,decide_eq_true_eq] at q C;exact zx8 J L F A rfl rfl rfl hd G K q.1 q.2 B O C (F.get E) (F.get H) h k
     ·cases C
    ·cases q
   ·cases q
  ·cases p
 case cpy sz x y =>
  split at p
  ·rename_i I Y t t' A
   simp only [ya,decide_eq_true_eq] at p;obtain ⟨⟨⟨q,B⟩,E⟩,H⟩:=p;split at q
   ·rename_i e G
    exact zyP J L F A rfl rfl rfl hd G (by simpa using q) B (F.get E) (F.get H) h k
   ·cases q
  ·cases p
 case mks zero fresh n =>
  split at p
  ·rename_i t l c A
   simp only [ya,beq_iff_eq] at p;obtain ⟨⟨rfl,q⟩,B⟩:=p;split at q
   ·rename_i e G
    split at q
    ·rename_i i K
     simp only [ya,decide_eq_true_eq] at q;obtain ⟨⟨E,H⟩,C⟩:=q;split at C
     ·rename_i X O
      simp only [ya,beq_iff_eq] at C;obtain ⟨⟨M,h7⟩,W⟩:=C;refine zz4 J L F A hd G K E rfl H O M h7 (fun j hj => ?_) (F.get B) h k;subst hj;simp only [zg8,yh] at W;split at W
      ·assumption
      ·cases W
     ·cases C
    ·cases q
   ·cases q
  ·cases p
 case mkr zero j sz n =>
  split at p
  ·rename_i t l c A
   simp only [ya,beq_iff_eq] at p;obtain ⟨⟨rfl,q⟩,B⟩:=p;split at q
   ·rename_i e G
    split at q
    ·rename_i i K
     simp only [ya,decide_eq_true_eq] at q;obtain ⟨⟨E,H⟩,C⟩:=q;split at C
     ·rename_i X O
      simp only [ya,beq_iff_eq] at C;obtain ⟨⟨M,h7⟩,W⟩:=C;refine zzT J L F A hd G K E rfl H O M h7 ?_ (F.get B) h k;simp only [zg8,yh] at W;split at W
      ·assumption
      ·cases W
     ·cases C
    ·cases q
   ·cases q
  ·cases p
 case mkc sz n =>
  split at p
  ·rename_i t kl x A
   simp only [ya] at p;obtain ⟨q,B⟩:=p;split at q
   ·rename_i e G
    split at q
    ·rename_i i K
     simp only [ya,decide_eq_true_eq,beq_iff_eq] at q;obtain ⟨⟨E,H⟩,C⟩:=q;obtain ⟨z,O⟩:=Option.isSome_iff_exists.1 C;exact zyc J L F A hd G K E H O (F.get B) h k
    ·cases q
   ·cases q
  ·cases p
 case slc sz x lo K mx =>
  split at p
  ·rename_i t I aE aH aF A
   simp only [ya] at p;obtain ⟨⟨⟨⟨q,B⟩,E⟩,H⟩,C⟩:=p;split at q
   ·rename_i e G
    have N : zBG r K mx = true:=by
     by_cases N : zBG r K mx = true
     ·exact N
     ·rw [if_neg N] at h
      cases h
    rw [if_pos N] at h;refine mapped h fun v D => zyn A G (by simpa using q) (zlI F E) (zlI F H) ?_ (F.get B) D;split at C
    ·exact .inl ⟨rfl,rfl⟩
    ·rename_i m m'
     simp only [ya] at C;obtain ⟨C,M⟩:=C;refine .inr ⟨rfl,C,?_⟩
     cases K with
     | none => cases C
     | some hx =>
       obtain ⟨z',e1,e2⟩:=(zlI F H).1 hx rfl;have e3:=F.get M;simp only [zBG] at N;unfold zuN at N;split at N
       ·rename_i q1 q2
        simp only [ya,decide_eq_true_eq] at N;rw [q1] at e3;rw [q2] at e2;rw [e1,yi,yi,(zM e3).1,(zM e2).1,N.1,N.2]
       ·cases N
    ·cases C
   ·cases q
  ·cases p
 case ext x i =>
  split at p
  ·rename_i I i' A
   simp only [ya,beq_iff_eq] at p;obtain ⟨rfl,q⟩:=p;exact mapped h fun v D => zAp A (F.get q) D
  ·cases p
 case fld off sz x =>
  split at p
  ·rename_i t I i A
   simp only [ya] at p;obtain ⟨q,B⟩:=p;split at q
   ·rename_i fs G
    split at q
    ·rename_i f hf
     simp only [ya,beq_iff_eq] at q;exact mapped h fun v D => zz0 A G hf q.1 (zmU q.2) (F.get B) D
    ·cases q
   ·cases q
  ·cases p
 case nil x =>
  split at p
  ·rename_i I A
   exact mapped h fun v D => zAI A (F.get p) D
  ·cases p
 case mkf f first caps =>
  injection h with h;subst h;split at p
  ·rename_i f' aA aD A
   simp only [ya,beq_iff_eq] at p;obtain ⟨⟨rfl,q⟩,B⟩:=p;exact pure (zzc F A q B) k
  ·cases p
 case mkm =>
  injection h with h;subst h;split at p
  ·rename_i t A
   exact zAj J L F A hd k
  ·cases p
 case lk zero ok m kk =>
  split at p
  ·rename_i t m' k' aG A
   simp only [ya,beq_iff_eq] at p;obtain ⟨⟨⟨rfl,q⟩,B⟩,E⟩:=p;split at q
   ·rename_i key elem G
    simp only [ya] at q;obtain ⟨q,H⟩:=q;split at q
    ·rename_i hk
     split at H
     ·rename_i i K
      split at H
      ·rename_i z O
       exact mapped h fun v D => zA3 J A G hk K O H (F.get B) (F.get E) D
      ·cases H
     ·cases H
    ·cases q
   ·cases q
  ·cases p
 case mu m kk v =>
  split at p
  ·rename_i t m' k' v' A
   simp only [ya] at p;obtain ⟨⟨⟨⟨q,B⟩,E⟩,H⟩,C⟩:=p;split at B
   ·rename_i key elem G
    split at B
    ·rename_i hk
     rw [yc] at h;obtain ⟨r2,h,rfl⟩:=h;exact zB7 J L F (zyU A) hd (by cases d <;> simp [zFp] at q ⊢) G hk (F.get E) (F.get H) (F.get C) h k
    ·cases B
   ·cases B
  ·cases p
 case mxn isMax x y =>
  split at p
  ·rename_i b I Y aC A
   simp only [ya,decide_eq_true_eq] at p;obtain ⟨⟨q,B⟩,E⟩:=p;exact mapped h fun v D => zAn A rfl q rfl (F.get B) (F.get E) D
  ·cases p
 case call m f xs =>
  split at p
  ·rename_i f' args aC A
   simp only [ya] at p;exact zxy S J L F A rfl hd p.1 p.2 h k
  ·cases p
 case no => exact absurd h (by simp [za8])
end
def zfO (κ : List Tmp) (loc : List (Option Tmp)) (gops : Array Go.Oper) : Option (Nat × Bool) → Option (X × Bool) → Bool
 | none,none => true
 | some (j,b),some (x,b') => (b == b') && (match (gops[j]?).bind (·.dst) with
   | some t => okX κ loc (.tmp t) x
   | none => false)
 | _,_ => false
def zq5 (P : Program) (κ : List Tmp) (nt : Nat) (gops : Array Go.Oper) : List (Option Tmp) → List Go.Oper → List Oper → Bool
 | _,[],[] => true
 | loc,o :: os,x :: xs => okD κ nt o.dst x.dst && zfO κ loc gops o.guard x.guard && zmm P κ loc o x.dst x.op && zq5 P κ nt gops (za5 o.dst x.dst :: loc) os xs
 | _,_,_ => false
section
variable {P : Program} {κ : List Tmp} {loc : List (Option Tmp)} {nt : Nat} {g : G} {w : World} {r r' : R} {a : Act} {o : Go.Oper} {d : D} {next : Act → World → Prop} {Q : Exit → Act → World → Prop}
theorem zqv (F : Fr κ loc nt g w r a) {gops : Array Go.Oper} {c : Option (Nat × Bool)} {b : Option (X × Bool)} (h : zfO κ loc gops c b = true) : (b = none → c = none):=by
 unfold zfO at h;split at h
 ·exact fun _ => rfl
 ·intro h; cases h
 ·cases h
theorem zxt {gops : Array Go.Oper} {j : Nat} {t : Tmp} {b : Bool} (h : (gops[j]?).bind (·.dst) = some t) (c : a.tmps.getD t undef = .bool b) : yielded gops a.tmps j = some b:=by
 unfold yielded;rw [h];simp only [yf]
 cases d : a.tmps[t]? with
 | none => rw [yb,d] at c; cases c
 | some v =>
   rw [yb,d] at c;simp only [yg] at c;rw [c]
theorem zeB {u : zae} (S : zhg P u) (m : Rel g w r.st) (F : Fr κ loc nt g w r a) {gops : Array Go.Oper} {x : Oper} (hd : okD κ nt o.dst x.dst = true) (c : zfO κ loc gops o.guard x.guard = true) (n : zmm P κ loc o x.dst x.op = true) {r1 : R} (h : step u r x = some r1)
  (k : zpE κ (za5 o.dst x.dst :: loc) nt g w r r1 (a.put o.dst) next) (H : ∀ a',next a' w → next a' w) :
  if Region.wanted o (yielded gops a.tmps) then o.wp P a w next Q else next (a.put o.dst undef) w:=by
 obtain ⟨d,op,E⟩:=x;simp only at hd c n
 cases E with
 | none =>
   have:=zqv F c rfl;simp only [Region.wanted,this,if_true];exact zvw S m ⟨trivial⟩ F hd n h k
 | some p =>
   obtain ⟨y,b⟩:=p;unfold zfO at c;split at c
   ·rename_i heq; cases heq
   ·rename_i j s G C i heq
    injection heq with heq;injection heq with heq1 heq2;subst heq1 heq2;simp only [ya,beq_iff_eq] at c;obtain ⟨rfl,c⟩:=c;split at c
    ·rename_i t A
     have l:=F.get c;simp only [step] at h;unfold znC at h;split at h
     ·rename_i tb e
      rw [e] at l;obtain ⟨ev,_⟩:=zM l;have q:=zxt (gops:=gops) A ev;simp only [Region.wanted,i,q];split at h
      ·rename_i f
       subst f;simp only [beq_self_eq_true,if_true];exact zvw S m ⟨trivial⟩ F hd n h k
      ·rename_i f
       injection h with h;subst h;have : (some tb == some s) = false:=(by simpa using f);rw [this];simp only [ye,if_false];refine k g w _ ?_ ?_ ⟨trivial⟩ (F.put hd fun _ => by simp only [zf]; exact ⟨#[],rfl,by simp only [zz]⟩)
       ·rw [zeZ]; exact Ext.refl _ _ _
       ·rw [zeZ]; exact m
     ·rename_i e
      rw [e] at l;injection h with h;subst h
      have hu : a.tmps.getD t undef = .tuple #[]:=by
       simp only [zf,zz] at l;obtain ⟨us,z,B⟩:=l;have : us = #[]:=(by cases us; simpa using B);rw [this] at z;exact z
      have q : yielded gops a.tmps j = none:=by
       unfold yielded;rw [A];simp only [yf]
       cases D : a.tmps[t]? with
       | none => rfl
       | some v =>
         rw [yb,D] at hu;simp only [yg] at hu;rw [hu]
      simp only [Region.wanted,i,q];have : (none == some s) = false:=rfl;rw [this];simp only [ye,if_false];refine k g w _ ?_ ?_ ⟨trivial⟩ (F.put hd fun _ => by simp only [zf]; exact ⟨#[],rfl,by simp only [zz]⟩)
      ·rw [zeZ]; exact Ext.refl _ _ _
      ·rw [zeZ]; exact m
     ·cases h
    ·cases c
   ·cases c
theorem zt7 {d : zae} (S : zhg P d) {gops : Array Go.Oper} : ∀ (os : List Go.Oper) (xs : List Oper) (i : Nat) {loc : List (Option Tmp)} {g : G} {w : World} {r : R} {a : Act} {r1 : R},(∀ j,os[j]? = gops[i + j]?) → zq5 P κ nt gops loc os xs = true → steps d xs r = some r1 → Rel g w r.st → Fr κ loc nt g w r a →
  (∀ g' w' a' loc',Ext g w r.st g' w' r1.st → Rel g' w' r1.st → Fr κ loc' nt g' w' r1 a' → Q .normal a' w') → wpOps P gops Q (yj i os.length) a w
 | [],[],i,loc,g,w,r,a,r1,_,_,h,R0,F,k => by
   simp only [steps,Option.some.injEq] at h;subst h;exact k g w a loc (Ext.refl _ _ _) R0 F
 | o :: os,x :: xs,i,loc,g,w,r,a,r1,hi,hc,h,R0,F,k => by
   simp only [zq5,ya] at hc;obtain ⟨⟨⟨q,f⟩,t⟩,y⟩:=hc;simp only [steps,Option.bind_eq_some_iff] at h;obtain ⟨A,m,z⟩:=h;have c : gops[i]? = some o:=(by simpa using (hi 0).symm);rw [yd,List.range'_succ]
   have key:=zeB (Q:=Q) (gops:=gops) (next:=wpOps P gops Q (yj (i + 1) os.length)) S R0 F q f t m (fun g' w' a' H l _ s =>
    zt7 S os xs (i + 1) (fun j => by
     have:=hi (j + 1);rw [show i + (j + 1) = i + 1 + j from by omega] at this;rw [← this]
     simp) y z l s fun u v a2 b n e p => k u v a2 b (H.trans n) e p) (fun _ h => h)
   simp only [wpOps,c];split
   ·rename_i hw
    rw [if_pos hw] at key;exact .inl key
   ·rename_i hw
    rw [if_neg hw] at key;exact key
 | [],_ :: _,_,_,_,_,_,_,_,_,hc,_,_,_,_ => by simp [zq5] at hc
 | _ :: _,[],_,_,_,_,_,_,_,_,hc,_,_,_,_ => by simp [zq5] at hc
structure At' (g0 : G) (w0 : World) (σ0 : zd) (κ : List Tmp) (nt : Nat) (g : G) (w : World) (s : St) (a : Act) : Prop where
 ext : Ext g0 w0 σ0 g w s.st
 rel : Rel g w s.st
 fr : Fr κ [] nt g w ⟨[],s.env,s.st,s.base,s.lim⟩ a
theorem Fr.bare {rs : List V} {env : List V} {st : zd} {b l c l' : Nat} (F : Fr κ loc nt g w ⟨rs,env,st,b,l⟩ a) : Fr κ [] nt g w ⟨[],env,st,c,l'⟩ a :=
 ⟨F.size,F.len,F.env,fun d t h => by simp at h,fun d t h => by simp at h,F.nd,F.bd,F.df⟩
theorem zm5 : ∀ {bs : List Bool} {vs : List V},bs.length = vs.length → (clr bs vs).length = vs.length
 | [],[],_ => rfl
 | true :: bs,v :: vs,h => by simp only [clr,yd]; rw [zm5 (by simpa using h)]
 | false :: bs,v :: vs,h => by simp only [clr,yd]; rw [zm5 (by simpa using h)]
 | [],_ :: _,h => by simp at h
 | _ :: _,[],h => by simp at h
theorem zuU : ∀ {bs : List Bool} {vs : List V} {i : Nat},(clr bs vs).getD i vun = vs.getD i vun ∨ (clr bs vs).getD i vun = vun
 | [],vs,i => .inr (by simp [clr])
 | true :: bs,[],i => .inr (by simp [clr])
 | false :: bs,[],i => .inr (by simp [clr])
 | true :: bs,v :: vs,0 => .inl (by simp [clr])
 | false :: bs,v :: vs,0 => .inr (by simp [clr])
 | true :: bs,v :: vs,i + 1 => by simpa [clr] using zuU (bs:=bs) (vs:=vs) (i:=i)
 | false :: bs,v :: vs,i + 1 => by simpa [clr] using zuU (bs:=bs) (vs:=vs) (i:=i)
theorem Fr.clr {env : List V} {st : zd} {b l : Nat} {bs : List Bool} (F : Fr κ [] nt g w ⟨[],env,st,b,l⟩ a) (c : bs.length = κ.length) : Fr κ [] nt g w ⟨[],Go.A.clr bs env,st,b,l⟩ a :=
 ⟨F.size,by
  have:=F.len;simp only at this
  show (Go.A.clr bs env).length = _
  rw [zm5 (by rw [c]; exact this.symm)]
  exact this,fun i t h => by
  have:=F.env i t h;simp only at this ⊢;rcases zuU (bs:=bs) (vs:=env) (i:=i) with e | e
  ·rw [e]; exact this
  ·rw [e]; simp only [vun,zf,zy],fun d t h => by simp at h,fun d t h => by simp at h,F.nd,F.bd,F.df⟩
theorem zv4 {n : Nat} : ∀ {vs : List V} {i : Nat},V.lts n vs = true → (vs.getD i vun).lt n = true
 | [],i,_ => by simp [vun,V.lt,C.lt]
 | v :: vs,0,h => by
   simp only [V.lts,ya] at h;simpa using h.1
 | v :: vs,i + 1,h => by
   simp only [V.lts,ya] at h;simpa using zv4 (vs:=vs) (i:=i) h.2
theorem zou {g0 : G} {w0 : World} {σ0 : zd} {s f : St} {live : List Bool} {b : Nat} (j : Clean g0 σ0.length) (m : σ0.length ≤ s.base) (l : live.length = κ.length) (h : s.clear live b = some f) (A : At' g0 w0 σ0 κ nt g w s a) : ∃ g',At' g0 w0 σ0 κ nt g' w f a:=by
 unfold St.clear at h;rw [yc] at h;obtain ⟨σ',h,rfl⟩:=h;have c:=A.fr.clr (bs:=live) l;unfold zmg at h;split at h
 ·injection h with h
  subst h;exact ⟨g,A.ext,A.rel,c⟩
 ·split at h
  ·rename_i e
   injection h with h;subst h;simp only [ya] at e;refine ⟨g.drop (s.base + b) w,zvJ A.ext j (by omega),zvF A.rel e.2,⟨c.size,c.len,fun i t k => ?_,fun d t h => by simp at h,fun d t h => by simp at h,c.nd,c.bd,c.df⟩⟩;exact zjW _ _ (c.env i t k) (zv4 e.1)
  ·cases h
end
end Go.A
