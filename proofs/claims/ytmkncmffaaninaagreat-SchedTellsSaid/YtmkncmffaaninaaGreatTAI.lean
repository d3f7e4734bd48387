/- A part of the proof of SchedTells. Conditions: none. -/
import Derived.Test.YtmkncmffaaninaaGreatTAH
import Derived.Scope
set_option linter.all false
open Bool renaming and_eq_true → ya,false_eq_true → ye,and_true → yh
open Option renaming map_eq_some_iff → yb,bind_some → yf,getD_some → yg,map_some → yi
open Array renaming getD_eq_getD_getElem? → yc
open List renaming length_cons → yd,range' → yj
namespace Go.A
def zF6 : D → Bool
 | .no => true
 | _ => false
def zCr (κ : List Tmp) (loc : List (Option Tmp)) : Option Operand → Option X → Bool
 | none,none => true
 | some x,some y => okX κ loc x y
 | _,_ => false
def zF0 (P : Program) (t : TypeId) : Option Nat → Bool
 | none => zmv P t == some false
 | some n => zmv P t == some true && zjM P t == some n
def zxd (P : Program) (t : TypeId) (zero : List C) (fresh : List (Nat × Nat)) : Bool :=
 match zeroOf P t with
 | some zs => zf2 zs zero && zhY zs fresh
 | none => false
def zHR : Go.Op → Option (TypeId × Operand × Operand × Operand)
 | .mapUpdate t m k v => some (t,m,k,v)
 | .insert t m k v => some (t,m,k,v)
 | _ => none
theorem zBa {o : Go.Op} {t : TypeId} {m k v : Operand} (h : zHR o = some (t,m,k,v)) : o = .mapUpdate t m k v ∨ o = .insert t m k v:=by
 unfold zHR at h;split at h
 ·injection h with h
  simp only [Prod.mk.injEq] at h;obtain ⟨rfl,rfl,rfl,rfl⟩:=h;exact .inl rfl
 ·injection h with h
  simp only [Prod.mk.injEq] at h;obtain ⟨rfl,rfl,rfl,rfl⟩:=h;exact .inr rfl
 ·cases h
def znx (P : Program) (κ : List Tmp) (loc : List (Option Tmp)) (o : Go.Oper) (d : D) : Op → Bool
 | .mv x => match o.op with
   | .move y => okX κ loc y x
   | .assign y => okX κ loc y x
   | _ => false
 | .pick c x y => match o.op with
   | .pick c' x' y' => okX κ loc c' c && okX κ loc x' x && okX κ loc y' y
   | _ => false
 | .bin op x y => match o.op with
   | .binOp op' _ x' y' _ => decide (op' = op) && okX κ loc x' x && okX κ loc y' y
   | _ => false
 | .beq neg x y => match o.op with
   | .binOp op t x' y' _ => (match op with
     | .eql => !neg
     | .neq => neg
     | _ => false) && (match P.underlying t with
     | some .bool => true
     | _ => false) && okX κ loc x' x && okX κ loc y' y
   | _ => false
 | .eqa n neg x y => match o.op with
   | .binOp op t x' y' _ => (match op with
     | .eql => !neg
     | .neq => neg
     | _ => false) && zxH P t == some n && !(P.eqGuardType P.depth t) && okX κ loc x' x && okX κ loc y' y
   | _ => false
 | .un op x => match o.op with
   | .unOp op' _ x' => decide (op' = op) && okX κ loc x' x
   | _ => false
 | .conv k x => match o.op with
   | .convert s t x' => (P.underlying s).isSome && (match P.underlying t with
     | some (.int k') => decide (k' = k)
     | _ => false) && okX κ loc x' x
   | _ => false
 | .len x => match o.op with
   | .call { callee:=.builtin .len,args:=⟨[x']⟩,argTypes:=⟨[t]⟩ } => (match P.underlying t with
     | some (.slice _) => true
     | _ => false) && okX κ loc x' x
   | _ => false
 | .fa off x => match o.op with
   | .fieldAddr t x' i => (match P.underlying t with
     | some (.struct fs) => (match fs[i]? with
       | some f => (match zjM P f.type with
         | some n => decide (n ≠ 0)
         | none => false) && f.offset == off
       | none => false)
     | _ => false) && okX κ loc x' x
   | _ => false
 | .ia sz x i => match o.op with
   | .indexAddr t x' i' => (match P.underlying t with
     | some (.slice e) => zjM P e == some sz
     | _ => false) && okX κ loc x' x && okX κ loc i' i
   | _ => false
 | .iaa n sz x i => match o.op with
   | .indexAddr t x' i' => (match P.underlying t with
     | some (.array n' e) => n' == n && zjM P e == some sz
     | _ => false) && okX κ loc x' x && okX κ loc i' i
   | _ => false
 | .ld sz x => match o.op with
   | .load t x' => zF0 P t sz && okX κ loc x' x
   | _ => false
 | .st sz x v => match o.op with
   | .store t x' v' => zF6 d && zjM P t == some sz && decide (0 < sz) && okX κ loc x' x && okX κ loc v' v
   | _ => false
 | .al zero fresh => match o.op with
   | .alloc t => zxd P t zero fresh
   | _ => false
 | .box sz x => match o.op with
   | .box _ x' => decide (0 < sz) && okX κ loc x' x
   | _ => false
 | .bld zero parts fresh => match o.op with
   | .build t ps => zxd P t zero fresh && (match zpv P t with
     | some place => zmC κ loc place ps.toList parts
     | none => false)
   | _ => false
 | .bsl _ sz zero parts => match o.op with
   | .buildSlice t len ps => (match P.underlying t with
     | some (.slice e) => zjM P e == some sz && (match zeroOf P e with
       | some zs => zs.length == sz && zs.all Value.oneCell' && zzR zs zero
       | none => false)
     | _ => false) && decide (0 < sz) && zero.length == len && decide (len * sz ≤ 16777216) && zjy κ loc ps.toList parts
   | _ => false
 | .nl _ _ => match o.op with
   | .move (.const (.slice none 0 0)) => true
   | .assign (.const (.slice none 0 0)) => true
   | _ => false
 | .app sz s x => match o.op with
   | .call { callee:=.builtin .append,args:=⟨[s',x']⟩,argTypes:=⟨[t,t']⟩ } => t == t' && (match P.underlying t with
     | some (.slice e) => (match P.info? e with
       | some i => decide (i.bytes ≤ 32768) && i.size == sz
       | none => false) && (match zeroOf P e with
       | some zs => zs.length == sz
       | none => false)
     | _ => false) && decide (0 < sz) && okX κ loc s' s && okX κ loc x' x
   | _ => false
 | .cpy sz x y => match o.op with
   | .call { callee:=.builtin .copy,args:=⟨[x',y']⟩,argTypes:=⟨[t,_]⟩ } => (match P.underlying t with
     | some (.slice e) => zjM P e == some sz
     | _ => false) && decide (0 < sz) && okX κ loc x' x && okX κ loc y' y
   | _ => false
 | .mks zero fresh n => match o.op with
   | .makeSlice t (.tmp l) (.tmp c) => l == c && (match P.underlying t with
     | some (.slice e) => (match P.info? e with
       | some i => decide (i.bytes ≤ 32768) && decide (0 < i.size) && (match zeroOf P e with
         | some zs => zs.length == i.size && zf2 zs zero && (match fresh with
           | some j => zhY zs [j]
           | none => true)
         | none => false)
       | none => false)
     | _ => false) && okX κ loc (.tmp l) n
   | _ => false
 | .mkr zero j _ n => match o.op with
   | .makeSlice t (.tmp l) (.tmp c) => l == c && (match P.underlying t with
     | some (.slice e) => (match P.info? e with
       | some i => decide (i.bytes ≤ 32768) && decide (0 < i.size) && (match zeroOf P e with
         | some zs => zs.length == i.size && zf2 zs zero && zhY zs [(j,0)]
         | none => false)
       | none => false)
     | _ => false) && okX κ loc (.tmp l) n
   | _ => false
 | .mkc sz n => match o.op with
   | .makeSlice t (.const (.int _ 0)) x => (match P.underlying t with
     | some (.slice e) => (match P.info? e with
       | some i => decide (i.bytes ≤ 32768) && i.size == sz && i.zero.isSome
       | none => false)
     | _ => false) && okX κ loc x n
   | _ => false
 | .slc sz x lo hi mx => match o.op with
   | .slice t x' lo' hi' mx' => (match P.underlying t with
     | some (.slice e) => zjM P e == some sz
     | _ => false) && okX κ loc x' x && zCr κ loc lo' lo && zCr κ loc hi' hi && (match mx,mx' with
     | none,none => true
     | some m,some m' => hi.isSome && okX κ loc m' m
     | _,_ => false)
   | _ => false
 | .ext x i => match o.op with
   | .extract x' i' => i' == i && okX κ loc x' x
   | _ => false
 | .fld off sz x => match o.op with
   | .field t x' i => (match P.underlying t with
     | some (.struct fs) => (match fs[i]? with
       | some f => f.offset == off && zF0 P f.type sz
       | none => false)
     | _ => false) && okX κ loc x' x
   | _ => false
 | .stn _ x => match o.op with
   | .store t x' (.const (.slice none 0 0)) => zF6 d && zjM P t == some 1 && okX κ loc x' x
   | _ => false
 | .nil x => match o.op with
   | .nilCheck x' => okX κ loc x' x
   | _ => false
 | .mkf f first caps => match o.op with
   | .makeFunc (.func f') first' caps' => f' == f && zzp κ loc first'.toList first && zzp κ loc caps'.toList caps
   | _ => false
 | .mkm => match o.op with
   | .makeMap _ none => true
   | _ => false
 | .lk zero ok m k => match o.op with
   | .lookup t m' k' ok' => ok' == ok && (match P.underlying t with
     | some (.map key elem) => (match P.underlying key with
       | some (.int .i64) => true
       | _ => false) && (match P.info? elem with
       | some i => (match i.zero with
         | some z => zq6 z zero
         | none => false)
       | none => false)
     | _ => false) && okX κ loc m' m && okX κ loc k' k
   | _ => false
 | .mu m k v => match zHR o.op with
   | some (t,m',k',v') => zF6 d && (match P.underlying t with
     | some (.map key _) => (match P.underlying key with
       | some (.int .i64) => true
       | _ => false)
     | _ => false) && okX κ loc m' m && okX κ loc k' k && okX κ loc v' v
   | none => false
 | .mxn isMax x y => match o.op with
   | .call { callee:=.builtin b,args:=⟨[x',y']⟩,.. } => decide (b = if isMax then .max else .min) && okX κ loc x' x && okX κ loc y' y
   | _ => false
 | .call _ f xs => match o.op with
   | .call { callee:=.value f',args,.. } => okX κ loc f' f && zzp κ loc args.toList xs
   | _ => false
 | .no _ => true
section
variable {P : Program} {κ : List Tmp} {loc : List (Option Tmp)} {nt : Nat} {g : G} {w : World} {r r' : R} {a : Act} {o : Go.Oper} {d : D} {next : Act → World → Prop} {Q : Exit → Act → World → Prop}
theorem zmA (F : Fr κ loc nt g w r a) {x : Option Operand} {y : Option X} (h : zCr κ loc x y = true) : Opt g w r a x y:=by
 unfold zCr at h;split at h
 ·exact ⟨fun z b => (by cases b),fun _ => rfl⟩
 ·rename_i x y
  exact ⟨fun z b => (by injection b with b; subst b; exact ⟨x,rfl,F.get h⟩),fun c => (by cases c)⟩
 ·cases h
theorem zox {t : TypeId} : ∀ {sz : Option Nat},zF0 P t sz = true → match sz with
  | none => zmv P t = some false
  | some n => zmv P t = some true ∧ zjM P t = some n
 | none,h => by simpa [zF0] using h
 | some n,h => by simpa [zF0] using h
theorem zmp {t : TypeId} {zero : List C} {fresh : List (Nat × Nat)} (h : zxd P t zero fresh = true) : ∃ zs,zeroOf P t = some zs ∧ zf2 zs zero = true ∧ zhY zs fresh = true:=by
 unfold zxd at h;split at h
 ·rename_i zs a
  simp only [ya] at h;exact ⟨zs,a,h⟩
 ·cases h
theorem zwY {Cf : zai} (S : zh3 P Cf) (J : Rel g w r.st) (L : Low r.base r.lim r.st) (F : Fr κ loc nt g w r a) (hd : okD κ nt o.dst d = true) {x : Op} (p : znx P κ loc o d x = true) {r1 : R} (h : zbm Cf r d x = some r1)
  (k : zpJ κ (zbg o.dst d :: loc) nt g w r r1 (a.put o.dst) next) : o.wp P a w next Q:=by
 have pure : ∀ {v : V},(∃ u,(execOp a.eval o).run P w = .ok (.value u) w ∧ zf g w r.st v u) → zpJ κ (zbg o.dst d :: loc) nt g w r (r.put d v) (a.put o.dst) next → o.wp P a w next Q:=fun ⟨u,q,B⟩ kk => zmW J L F hd q B kk
 have mapped : ∀ {x : Option V},x.map (r.put d) = some r1 → (∀ v,x = some v → ∃ u,(execOp a.eval o).run P w = .ok (.value u) w ∧ zf g w r.st v u) → o.wp P a w next Q:=fun {x} hx D => by
  rw [yb] at hx;obtain ⟨v,q,rfl⟩:=hx;exact pure (D v q) k
 cases x <;> simp only [zbm] at h <;> simp only [znx] at p
 case mv x =>
  injection h with h;subst h;split at p
  ·rename_i y A
   exact pure ⟨_,zsX (.inl A),F.get p⟩ k
  ·rename_i y A
   exact pure ⟨_,zsX (.inr A),F.get p⟩ k
  ·cases p
 case pick c x y =>
  split at p
  ·rename_i c' I Y A
   simp only [ya] at p;exact mapped h fun v D => zxJ A (F.get p.1.1) (F.get p.1.2) (F.get p.2) D
  ·cases p
 case bin op x y =>
  split at p
  ·rename_i aB t I Y yt A
   simp only [ya,decide_eq_true_eq] at p;obtain ⟨⟨rfl,q⟩,B⟩:=p;exact mapped h fun v D => zxU A (F.get q) (F.get B) D
  ·cases p
 case beq neg x y =>
  split at p
  ·rename_i op t I Y ty A
   simp only [ya] at p;obtain ⟨⟨⟨q,B⟩,G⟩,C⟩:=p
   have W : (op = .eql ∧ neg = false) ∨ (op = .neq ∧ neg = true):=by
    cases op <;> simp_all
   split at B
   ·rename_i H
    exact mapped h fun v D => zzZ A W H (F.get G) (F.get C) D
   ·cases B
  ·cases p
 case stn sz x =>
  split at p
  ·rename_i t I A
   simp only [ya,beq_iff_eq] at p;obtain ⟨⟨q,B⟩,G⟩:=p;rw [yb] at h;obtain ⟨r2,h,rfl⟩:=h;exact zAc J L F A hd (by cases d <;> simp [zF6] at q ⊢) B (F.get G) h k
  ·cases p
 case eqa n neg x y =>
  split at p
  ·rename_i op t I Y ty A
   simp only [ya,beq_iff_eq,Bool.not_eq_true'] at p;obtain ⟨⟨⟨⟨q,B⟩,E⟩,G⟩,C⟩:=p
   have W : (op = .eql ∧ neg = false) ∨ (op = .neq ∧ neg = true):=by
    cases op <;> simp_all
   exact mapped h fun v D => zzA A W B E (F.get G) (F.get C) D
  ·cases p
 case un op x =>
  split at p
  ·rename_i aB t I A
   simp only [ya,decide_eq_true_eq] at p;obtain ⟨rfl,q⟩:=p;exact mapped h fun v D => zzP A (F.get q) D
  ·cases p
 case conv kk x =>
  split at p
  ·rename_i s t I A
   simp only [ya] at p;obtain ⟨⟨q,B⟩,E⟩:=p;split at B
   ·rename_i k' H
    have : k' = kk:=(by simpa using B);subst this;exact mapped h fun v D => zyK A q H (F.get E) D
   ·cases B
  ·cases p
 case len x =>
  split at p
  ·rename_i I t A
   simp only [ya] at p;obtain ⟨q,B⟩:=p;split at q
   ·rename_i e H
    exact mapped h fun v D => zBd A rfl rfl rfl H (F.get B) D
   ·cases q
  ·cases p
 case fa off x =>
  split at p
  ·rename_i t I i A
   simp only [ya] at p;obtain ⟨q,B⟩:=p;split at q
   ·rename_i fs H
    split at q
    ·rename_i f hf
     simp only [ya,beq_iff_eq] at q;obtain ⟨q,E⟩:=q;split at q
     ·rename_i n hs
      exact mapped h fun v D => zCK A H hf hs (by simpa using q) E (F.get B) D
     ·cases q
    ·cases q
   ·cases q
  ·cases p
 case ia sz x i =>
  split at p
  ·rename_i t I i' A
   simp only [ya] at p;obtain ⟨⟨q,B⟩,E⟩:=p;split at q
   ·rename_i e H
    exact mapped h fun v D => zCJ A H (by simpa using q) (F.get B) (F.get E) D
   ·cases q
  ·cases p
 case iaa n sz x i =>
  split at p
  ·rename_i t I i' A
   simp only [ya] at p;obtain ⟨⟨q,B⟩,E⟩:=p;split at q
   ·rename_i n' e H
    simp only [ya,beq_iff_eq] at q;obtain ⟨rfl,q⟩:=q;exact mapped h fun v D => zzG A H q (F.get B) (F.get E) D
   ·cases q
  ·cases p
 case ld sz x =>
  split at p
  ·rename_i t I A
   simp only [ya] at p;exact mapped h fun v D => zxA J A (zox p.1) (F.get p.2) D
  ·cases p
 case st sz x v =>
  split at p
  ·rename_i t I v' A
   simp only [ya,beq_iff_eq,decide_eq_true_eq] at p;obtain ⟨⟨⟨⟨q,B⟩,E⟩,G⟩,C⟩:=p;rw [yb] at h;obtain ⟨r2,h,rfl⟩:=h;exact zw4 J L F A hd (by cases d <;> simp [zF6] at q ⊢) B E (F.get G) (F.get C) h k
  ·cases p
 case al zero fresh =>
  injection h with h;subst h;split at p
  ·rename_i t A
   obtain ⟨Z,q,B,E⟩:=zmp p;exact zDn J L F A hd q B E k
  ·cases p
 case box sz x =>
  split at p
  ·rename_i t I A
   simp only [ya,decide_eq_true_eq] at p;split at h
   ·rename_i X
    injection h with h;subst h;exact zAA J L F A hd p.1 (F.get p.2) X.1 X.2 k
   ·cases h
  ·cases p
 case bld zero parts fresh =>
  split at p
  ·rename_i t ps A
   simp only [ya] at p;obtain ⟨q,B⟩:=p;obtain ⟨Z,E,G,C⟩:=zmp q;split at B
   ·rename_i place hp
    exact zBJ J L F A hd E G C hp B h k
   ·cases B
  ·cases p
 case bsl b sz zero parts =>
  split at p
  ·rename_i t len ps A
   simp only [ya,beq_iff_eq,decide_eq_true_eq] at p;obtain ⟨⟨⟨⟨q,B⟩,E⟩,G⟩,C⟩:=p;split at q
   ·rename_i e H
    simp only [ya,beq_iff_eq] at q;obtain ⟨q,M⟩:=q;split at M
    ·rename_i Z O
     simp only [ya,beq_iff_eq] at M;exact zB0 J L F A hd H q B E G O M.1.1 M.1.2 M.2 C h k
    ·cases M
   ·cases q
  ·cases p
 case nl b sz =>
  split at p
  ·rename_i A
   exact zwM J L F (.inl A) hd h k
  ·rename_i A
   exact zwM J L F (.inr A) hd h k
  ·cases p
 case app sz s x =>
  split at p
  ·rename_i s' I t t' A
   simp only [ya,beq_iff_eq,decide_eq_true_eq] at p;obtain ⟨⟨⟨⟨rfl,q⟩,B⟩,E⟩,G⟩:=p;split at q
   ·rename_i e H
    simp only [ya] at q;obtain ⟨q,C⟩:=q;split at q
    ·rename_i i K
     split at C
     ·rename_i Z O
      simp only [ya,beq_iff_eq,decide_eq_true_eq] at q C;exact zzy J L F A rfl rfl rfl hd H K q.1 q.2 B O C (F.get E) (F.get G) h k
     ·cases C
    ·cases q
   ·cases q
  ·cases p
 case cpy sz x y =>
  split at p
  ·rename_i I Y t t' A
   simp only [ya,decide_eq_true_eq] at p;obtain ⟨⟨⟨q,B⟩,E⟩,G⟩:=p;split at q
   ·rename_i e H
    exact zAa J L F A rfl rfl rfl hd H (by simpa using q) B (F.get E) (F.get G) h k
   ·cases q
  ·cases p
 case mks zero fresh n =>
  split at p
  ·rename_i t l c A
   simp only [ya,beq_iff_eq] at p;obtain ⟨⟨rfl,q⟩,B⟩:=p;split at q
   ·rename_i e H
    split at q
    ·rename_i i K
     simp only [ya,decide_eq_true_eq] at q;obtain ⟨⟨E,G⟩,C⟩:=q;split at C
     ·rename_i Z O
      simp only [ya,beq_iff_eq] at C;obtain ⟨⟨M,h7⟩,U⟩:=C;refine zzJ J L F A hd H K E rfl G O M h7 (fun j hj => ?_) (F.get B) h k;subst hj;simp only [zhY,yh] at U;split at U
      ·assumption
      ·cases U
     ·cases C
    ·cases q
   ·cases q
  ·cases p
 case mkr zero j sz n =>
  split at p
  ·rename_i t l c A
   simp only [ya,beq_iff_eq] at p;obtain ⟨⟨rfl,q⟩,B⟩:=p;split at q
   ·rename_i e H
    split at q
    ·rename_i i K
     simp only [ya,decide_eq_true_eq] at q;obtain ⟨⟨E,G⟩,C⟩:=q;split at C
     ·rename_i Z O
      simp only [ya,beq_iff_eq] at C;obtain ⟨⟨M,h7⟩,U⟩:=C;refine zzq J L F A hd H K E rfl G O M h7 ?_ (F.get B) h k;simp only [zhY,yh] at U;split at U
      ·assumption
      ·cases U
     ·cases C
    ·cases q
   ·cases q
  ·cases p
 case mkc sz n =>
  split at p
  ·rename_i t kl x A
   simp only [ya] at p;obtain ⟨q,B⟩:=p;split at q
   ·rename_i e H
    split at q
    ·rename_i i K
     simp only [ya,decide_eq_true_eq,beq_iff_eq] at q;obtain ⟨⟨E,G⟩,C⟩:=q;obtain ⟨z,O⟩:=Option.isSome_iff_exists.1 C;exact zBC J L F A hd H K E G O (F.get B) h k
    ·cases q
   ·cases q
  ·cases p
 case slc sz x lo K mx =>
  split at p
  ·rename_i t I aG aH aF A
   simp only [ya] at p;obtain ⟨⟨⟨⟨q,B⟩,E⟩,G⟩,C⟩:=p;split at q
   ·rename_i e H
    have N : zDJ r K mx = true:=by
     by_cases N : zDJ r K mx = true
     ·exact N
     ·rw [if_neg N] at h
      cases h
    rw [if_pos N] at h;refine mapped h fun v D => zBg A H (by simpa using q) (zmA F E) (zmA F G) ?_ (F.get B) D;split at C
    ·exact .inl ⟨rfl,rfl⟩
    ·rename_i m m'
     simp only [ya] at C;obtain ⟨C,M⟩:=C;refine .inr ⟨rfl,C,?_⟩
     cases K with
     | none => cases C
     | some hx =>
       obtain ⟨z',e1,e2⟩:=(zmA F G).1 hx rfl;have e3:=F.get M;simp only [zDJ] at N;unfold zwm at N;split at N
       ·rename_i q1 q2
        simp only [ya,decide_eq_true_eq] at N;rw [q1] at e3;rw [q2] at e2;rw [e1,yi,yi,(zQ e3).1,(zQ e2).1,N.1,N.2]
       ·cases N
    ·cases C
   ·cases q
  ·cases p
 case ext x i =>
  split at p
  ·rename_i I i' A
   simp only [ya,beq_iff_eq] at p;obtain ⟨rfl,q⟩:=p;exact mapped h fun v D => zAV A (F.get q) D
  ·cases p
 case fld off sz x =>
  split at p
  ·rename_i t I i A
   simp only [ya] at p;obtain ⟨q,B⟩:=p;split at q
   ·rename_i fs H
    split at q
    ·rename_i f hf
     simp only [ya,beq_iff_eq] at q;exact mapped h fun v D => zAG A H hf q.1 (zox q.2) (F.get B) D
    ·cases q
   ·cases q
  ·cases p
 case nil x =>
  split at p
  ·rename_i I A
   exact mapped h fun v D => zzL A (F.get p) D
  ·cases p
 case mkf f first caps =>
  injection h with h;subst h;split at p
  ·rename_i f' aA aD A
   simp only [ya,beq_iff_eq] at p;obtain ⟨⟨rfl,q⟩,B⟩:=p;exact pure (zA9 F A q B) k
  ·cases p
 case mkm =>
  injection h with h;subst h;split at p
  ·rename_i t A
   exact zAv J L F A hd k
  ·cases p
 case lk zero ok m kk =>
  split at p
  ·rename_i t m' k' aE A
   simp only [ya,beq_iff_eq] at p;obtain ⟨⟨⟨rfl,q⟩,B⟩,E⟩:=p;split at q
   ·rename_i key elem H
    simp only [ya] at q;obtain ⟨q,G⟩:=q;split at q
    ·rename_i hk
     split at G
     ·rename_i i K
      split at G
      ·rename_i z O
       exact mapped h fun v D => zDK J A H hk K O G (F.get B) (F.get E) D
      ·cases G
     ·cases G
    ·cases q
   ·cases q
  ·cases p
 case mu m kk v =>
  split at p
  ·rename_i t m' k' v' A
   simp only [ya] at p;obtain ⟨⟨⟨⟨q,B⟩,E⟩,G⟩,C⟩:=p;split at B
   ·rename_i key elem H
    split at B
    ·rename_i hk
     rw [yb] at h;obtain ⟨r2,h,rfl⟩:=h;exact zCH J L F (zBa A) hd (by cases d <;> simp [zF6] at q ⊢) H hk (F.get E) (F.get G) (F.get C) h k
    ·cases B
   ·cases B
  ·cases p
 case mxn isMax x y =>
  split at p
  ·rename_i b I Y aC A
   simp only [ya,decide_eq_true_eq] at p;obtain ⟨⟨q,B⟩,E⟩:=p;exact mapped h fun v D => zBw A rfl q rfl (F.get B) (F.get E) D
  ·cases p
 case call m f xs =>
  split at p
  ·rename_i f' args aC A
   simp only [ya] at p;exact zxV S J L F A rfl hd p.1 p.2 h k
  ·cases p
 case no => exact absurd h (by simp [zbm])
end
def zgz (κ : List Tmp) (loc : List (Option Tmp)) (gops : Array Go.Oper) : Option (Nat × Bool) → Option (X × Bool) → Bool
 | none,none => true
 | some (j,b),some (x,b') => (b == b') && (match (gops[j]?).bind (·.dst) with
   | some t => okX κ loc (.tmp t) x
   | none => false)
 | _,_ => false
def zrM (P : Program) (κ : List Tmp) (nt : Nat) (gops : Array Go.Oper) : List (Option Tmp) → List Go.Oper → List Oper → Bool
 | _,[],[] => true
 | loc,o :: os,x :: xs => okD κ nt o.dst x.dst && zgz κ loc gops o.guard x.guard && znx P κ loc o x.dst x.op && zrM P κ nt gops (zbg o.dst x.dst :: loc) os xs
 | _,_,_ => false
section
variable {P : Program} {κ : List Tmp} {loc : List (Option Tmp)} {nt : Nat} {g : G} {w : World} {r r' : R} {a : Act} {o : Go.Oper} {d : D} {next : Act → World → Prop} {Q : Exit → Act → World → Prop}
theorem zsj (F : Fr κ loc nt g w r a) {gops : Array Go.Oper} {c : Option (Nat × Bool)} {b : Option (X × Bool)} (h : zgz κ loc gops c b = true) : (b = none → c = none):=by
 unfold zgz at h;split at h
 ·exact fun _ => rfl
 ·intro h; cases h
 ·cases h
theorem zxR {gops : Array Go.Oper} {j : Nat} {t : Tmp} {b : Bool} (h : (gops[j]?).bind (·.dst) = some t) (c : a.tmps.getD t undef = .bool b) : yielded gops a.tmps j = some b:=by
 unfold yielded;rw [h];simp only [yf]
 cases d : a.tmps[t]? with
 | none => rw [yc,d] at c; cases c
 | some v =>
   rw [yc,d] at c;simp only [yg] at c;rw [c]
theorem zfb {s : zai} (S : zh3 P s) (m : Rel g w r.st) (F : Fr κ loc nt g w r a) {gops : Array Go.Oper} {x : Oper} (hd : okD κ nt o.dst x.dst = true) (c : zgz κ loc gops o.guard x.guard = true) (n : znx P κ loc o x.dst x.op = true) {r1 : R} (h : step s r x = some r1)
  (k : zpJ κ (zbg o.dst x.dst :: loc) nt g w r r1 (a.put o.dst) next) (H : ∀ a',next a' w → next a' w) :
  if Region.wanted o (yielded gops a.tmps) then o.wp P a w next Q else next (a.put o.dst undef) w:=by
 obtain ⟨d,op,B⟩:=x;simp only at hd c n
 cases B with
 | none =>
   have:=zsj F c rfl;simp only [Region.wanted,this,if_true];exact zwY S m ⟨trivial⟩ F hd n h k
 | some p =>
   obtain ⟨y,b⟩:=p;unfold zgz at c;split at c
   ·rename_i heq; cases heq
   ·rename_i j A G E l heq
    injection heq with heq;injection heq with heq1 heq2;subst heq1 heq2;simp only [ya,beq_iff_eq] at c;obtain ⟨rfl,c⟩:=c;split at c
    ·rename_i t z
     have i:=F.get c;simp only [step] at h;unfold zo7 at h;split at h
     ·rename_i tb e
      rw [e] at i;obtain ⟨ev,_⟩:=zQ i;have q:=zxR (gops:=gops) z ev;simp only [Region.wanted,l,q];split at h
      ·rename_i f
       subst f;simp only [beq_self_eq_true,if_true];exact zwY S m ⟨trivial⟩ F hd n h k
      ·rename_i f
       injection h with h;subst h;have : (some tb == some A) = false:=(by simpa using f);rw [this];simp only [ye,if_false];refine k g w _ ?_ ?_ ⟨trivial⟩ (F.put hd fun _ => by simp only [zf]; exact ⟨#[],rfl,by simp only [zA]⟩)
       ·rw [zfH]; exact Ext.refl _ _ _
       ·rw [zfH]; exact m
     ·rename_i e
      rw [e] at i;injection h with h;subst h
      have hu : a.tmps.getD t undef = .tuple #[]:=by
       simp only [zf,zA] at i;obtain ⟨us,u,D⟩:=i;have : us = #[]:=(by cases us; simpa using D);rw [this] at u;exact u
      have q : yielded gops a.tmps j = none:=by
       unfold yielded;rw [z];simp only [yf]
       cases C : a.tmps[t]? with
       | none => rfl
       | some v =>
         rw [yc,C] at hu;simp only [yg] at hu;rw [hu]
      simp only [Region.wanted,l,q];have : (none == some A) = false:=rfl;rw [this];simp only [ye,if_false];refine k g w _ ?_ ?_ ⟨trivial⟩ (F.put hd fun _ => by simp only [zf]; exact ⟨#[],rfl,by simp only [zA]⟩)
      ·rw [zfH]; exact Ext.refl _ _ _
      ·rw [zfH]; exact m
     ·cases h
    ·cases c
   ·cases c
theorem ztZ {d : zai} (S : zh3 P d) {gops : Array Go.Oper} : ∀ (os : List Go.Oper) (xs : List Oper) (i : Nat) {loc : List (Option Tmp)} {g : G} {w : World} {r : R} {a : Act} {r1 : R},(∀ j,os[j]? = gops[i + j]?) → zrM P κ nt gops loc os xs = true → steps d xs r = some r1 → Rel g w r.st → Fr κ loc nt g w r a →
  (∀ g' w' a' loc',Ext g w r.st g' w' r1.st → Rel g' w' r1.st → Fr κ loc' nt g' w' r1 a' → Q .normal a' w') → wpOps P gops Q (yj i os.length) a w
 | [],[],i,loc,g,w,r,a,r1,_,_,h,R0,F,k => by
   simp only [steps,Option.some.injEq] at h;subst h;exact k g w a loc (Ext.refl _ _ _) R0 F
 | o :: os,x :: xs,i,loc,g,w,r,a,r1,hi,hc,h,R0,F,k => by
   simp only [zrM,ya] at hc;obtain ⟨⟨⟨f,p⟩,m⟩,q⟩:=hc;simp only [steps,Option.bind_eq_some_iff] at h;obtain ⟨A,n,z⟩:=h;have c : gops[i]? = some o:=(by simpa using (hi 0).symm);rw [yd,List.range'_succ]
   have key:=zfb (Q:=Q) (gops:=gops) (next:=wpOps P gops Q (yj (i + 1) os.length)) S R0 F f p m n (fun g' w' a' H y _ u =>
    ztZ S os xs (i + 1) (fun j => by
     have:=hi (j + 1);rw [show i + (j + 1) = i + 1 + j from by omega] at this;rw [← this]
     simp) q z y u fun e v a2 b l t s => k e v a2 b (H.trans l) t s) (fun _ h => h)
   simp only [wpOps,c];split
   ·rename_i hw
    rw [if_pos hw] at key;exact .inl key
   ·rename_i hw
    rw [if_neg hw] at key;exact key
 | [],_ :: _,_,_,_,_,_,_,_,_,hc,_,_,_,_ => by simp [zrM] at hc
 | _ :: _,[],_,_,_,_,_,_,_,_,hc,_,_,_,_ => by simp [zrM] at hc
structure At' (g0 : G) (w0 : World) (σ0 : zd) (κ : List Tmp) (nt : Nat) (g : G) (w : World) (s : St) (a : Act) : Prop where
 ext : Ext g0 w0 σ0 g w s.st
 rel : Rel g w s.st
 fr : Fr κ [] nt g w ⟨[],s.env,s.st,s.base,s.lim⟩ a
theorem Fr.bare {rs : List V} {env : List V} {st : zd} {b l c l' : Nat} (F : Fr κ loc nt g w ⟨rs,env,st,b,l⟩ a) : Fr κ [] nt g w ⟨[],env,st,c,l'⟩ a :=
 ⟨F.size,F.len,F.env,fun d t h => by simp at h,fun d t h => by simp at h,F.nd,F.bd,F.df⟩
theorem zos : ∀ {bs : List Bool} {vs : List V},bs.length = vs.length → (clr bs vs).length = vs.length
 | [],[],_ => rfl
 | true :: bs,v :: vs,h => by simp only [clr,yd]; rw [zos (by simpa using h)]
 | false :: bs,v :: vs,h => by simp only [clr,yd]; rw [zos (by simpa using h)]
 | [],_ :: _,h => by simp at h
 | _ :: _,[],h => by simp at h
theorem zwx : ∀ {bs : List Bool} {vs : List V} {i : Nat},(clr bs vs).getD i vun = vs.getD i vun ∨ (clr bs vs).getD i vun = vun
 | [],vs,i => .inr (by simp [clr])
 | true :: bs,[],i => .inr (by simp [clr])
 | false :: bs,[],i => .inr (by simp [clr])
 | true :: bs,v :: vs,0 => .inl (by simp [clr])
 | false :: bs,v :: vs,0 => .inr (by simp [clr])
 | true :: bs,v :: vs,i + 1 => by simpa [clr] using zwx (bs:=bs) (vs:=vs) (i:=i)
 | false :: bs,v :: vs,i + 1 => by simpa [clr] using zwx (bs:=bs) (vs:=vs) (i:=i)
theorem Fr.clr {env : List V} {st : zd} {b l : Nat} {bs : List Bool} (F : Fr κ [] nt g w ⟨[],env,st,b,l⟩ a) (c : bs.length = κ.length) : Fr κ [] nt g w ⟨[],Go.A.clr bs env,st,b,l⟩ a :=
 ⟨F.size,by
  have:=F.len;simp only at this
  show (Go.A.clr bs env).length = _
  rw [zos (by rw [c]; exact this.symm)]
  exact this,fun i t h => by
  have:=F.env i t h;simp only at this ⊢;rcases zwx (bs:=bs) (vs:=env) (i:=i) with e | e
  ·rw [e]; exact this
  ·rw [e]; simp only [vun,zf,zz],fun d t h => by simp at h,fun d t h => by simp at h,F.nd,F.bd,F.df⟩
theorem zwT {n : Nat} : ∀ {vs : List V} {i : Nat},V.lts n vs = true → (vs.getD i vun).lt n = true
 | [],i,_ => by simp [vun,V.lt,C.lt]
 | v :: vs,0,h => by
   simp only [V.lts,ya] at h;simpa using h.1
 | v :: vs,i + 1,h => by
   simp only [V.lts,ya] at h;simpa using zwT (vs:=vs) (i:=i) h.2
theorem zpH {g0 : G} {w0 : World} {σ0 : zd} {s f : St} {live : List Bool} {b : Nat} (k : Clean g0 σ0.length) (m : σ0.length ≤ s.base) (j : live.length = κ.length) (h : s.clear live b = some f) (A : At' g0 w0 σ0 κ nt g w s a) : ∃ g',At' g0 w0 σ0 κ nt g' w f a:=by
 unfold St.clear at h;rw [yb] at h;obtain ⟨σ',h,rfl⟩:=h;have c:=A.fr.clr (bs:=live) j;unfold znf at h;split at h
 ·injection h with h
  subst h;exact ⟨g,A.ext,A.rel,c⟩
 ·split at h
  ·rename_i e
   injection h with h;subst h;simp only [ya] at e;refine ⟨g.drop (s.base + b) w,zxw A.ext k (by omega),zxv A.rel e.2,⟨c.size,c.len,fun i t l => ?_,fun d t h => by simp at h,fun d t h => by simp at h,c.nd,c.bd,c.df⟩⟩;exact zk7 _ _ (c.env i t l) (zwT e.1)
  ·cases h
end
end Go.A
