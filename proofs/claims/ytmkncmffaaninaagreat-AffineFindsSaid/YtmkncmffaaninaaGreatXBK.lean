/- A part of the proof of AffineFinds. Conditions: none. -/
import Derived.Test.YtmkncmffaaninaaGreatXBJ
import Derived.Test.YtmkncmffaaninaaGreatXBI
import Derived.Test.YtmkncmffaaninaaGreatXAW
import Derived.Test.YtmkncmffaaninaaGreatXAQ
import Derived.KernelRfl
set_option linter.all false
open List renaming mem_of_getElem? → ya,getD_eq_getElem?_getD → yb,replicate → yc,drop_eq_getElem_cons → yd,mem_append → ye,length_replicate → yj,getElem?_set_ne → yl,getElem?_eq_some_iff → ym,drop_length → yo,mem_iff_getElem? → yq,mem_cons_of_mem → ys,replicate_succ → yu,drop_zero → yv,mem_cons_self → yy,getElem_mem → yz,length_set → yA,mem_cons → yB,mem_map → yC
open Int renaming le_refl → yf,natCast_nonneg → yg,toNat_natCast → yh,natCast_zero → yi,lt_irrefl → yk
open Nat renaming zero_add → yn,mul_one → yt
open Bool renaming and_eq_true → yp,false_eq_true → yx
open Option renaming map_eq_some_iff → yr,bind_some → yw
namespace AC
open Go Go.A Go.A.Lex
def zjp : ziS → List POp → ziS
 | D,[] => D
 | D,o :: r => zjp (zkc o.dst o D) r
def opsOf : ziS → List PBlock → ziS
 | D,[] => D
 | D,b :: r => opsOf (zjp D b.ops) r
theorem zsd (n : Nat) (D : ziS) : C.ltm n (zf5 vOp D) = true:=zrf vOp n (fun a => by simp [vOp,cOp,V.lt,C.lts,C.lt]) D
theorem znM (n : Nat) (D : SMap) : C.ltm n (zf5 vSh D) = true:=zrf vSh n (fun a => by simp [vSh,V.lt,C.lts,C.lt]) D
theorem zAG (k : Int) (D : SMap) : zhb k (zf5 vSh D) = (getM k D).map vSh:=zna vSh k D
theorem zGU (k : Int) (o : POp) (D : ziS) : zgq k (V.agg [.f (.lit (.int .i64 o.kind)),.f (.lit (.int .i64 o.bits)),.f (.lit (.int .i64 o.lanes)),.f (.lit (.int .i64 o.dst)),.f (.sl (o.args.map ri)),.f (.lit (.int .u64 o.imm))]) (zf5 vOp D) = zf5 vOp (zkc k o D):=znA vOp k o D
abbrev zym (f : PFunc) (tree : List Int) (s : Int × Int) (D : ziS) (r : zd) : zd:=O0 f :: .cells 0 2 [[.f (.sl []),.f (.lit (.int .u64 0))]] :: O0 f :: O0 f ::
 .cells 0 8 [[.f (.sl (f.params.map ri)),.f (.lit (.int .i64 f.ret)),.f (.sl (f.blocks.map rb)),.f (.lit (.int .i64 2)),.f (.sl ((zo f).map rl)),.f (.sl ((zZ (zo f)).map rl)),.f (.sl (tree.map ri)),.map 7]] ::
 .cells 0 1 [[.fn 159 [.ptr 4 0 0 0] []],[.fn 160 [.ptr 4 0 0 0] []],[.fn 161 [.ptr 4 0 0 0] []],[.fn 162 [.ptr 4 0 0 0] []],[.fn 163 [.ptr 4 0 0 0] []]] ::
 .cells 0 1 [[.ptr 4 0 0 0]] :: .mp (zf5 zgC (zmt f).1) :: .mp (zf5 vSh (zgt f)) :: .cells 0 2 [[.f (.lit (.int .i64 s.1)),.f (.lit (.int .i64 s.2))]] ::
 .mp (zf5 vOp D) :: .mp [] :: .cells 0 2 [[.map 10,.map 11]] :: r
section
variable (f : PFunc) (hf : okF f) (tree : List Int) (s : Int × Int) (v : Int)
include hf
theorem zI5 (b : PBlock) (j : okB b) (h : Nat) : ∀ (d k : Nat) (D : ziS) (a0 a2 a4 a5 a6 a8 a9 c e a : V),b.ops.length - k = d → k ≤ b.ops.length →
  exec T ziy ⟨[a0,vI v,a2,.one (.ptr 1 0 0 0),a4,a5,a6,.one (.ptr 12 0 0 0),a8,a9,c,vL (f.blocks.map rb),vI f.blocks.length,vI h,e,vL (b.ops.map ro),vI b.ops.length,vI k,a],zym f tree s D [.cells 0 5 [zw b]],0,0⟩ =
   some (.exit 2,⟨[vU,vI v,vU,.one (.ptr 1 0 0 0),vU,vU,vU,.one (.ptr 12 0 0 0),vU,vU,vU,vL (f.blocks.map rb),vI f.blocks.length,vI h,vU,vU,vU,vU,vU],zym f tree s (zjp D (b.ops.drop k)) [.cells 0 5 [zw b]],0,0⟩):=by
 intro d
 induction d with
 | zero =>
   intro k D a0 a2 a4 a5 a6 a8 a9 c e a l m;have g : k = b.ops.length:=(by omega);subst g;rw [xl ziy rfl,zkB];simp -implicitDefEqProofs only [go_sem,zym,yk,yo,zjp,zI,zsd,znM]
 | succ d ih =>
   intro k D a0 a2 a4 a5 a6 a8 a9 c e a l m;have g : k < b.ops.length:=(by omega);have hd : b.ops.drop k = b.ops[k] :: b.ops.drop (k + 1):=yd g;have i:=zGU b.ops[k].dst b.ops[k] D;have:=ih (k + 1) (zkc b.ops[k].dst b.ops[k] D) vU vU vU vU vU vU vU vU vU vU (by omega) (by omega);rw [xl ziy rfl,zkB,hd,zjp];simp -implicitDefEqProofs only [go_sem,zym] at this;simp -implicitDefEqProofs only [go_sem,zym,ilt g,zy g,ro,i,zI,zsd,znM,za g j.ops,this]
theorem zIY : ∀ (d k : Nat) (D : ziS) (a0 a2 a4 a5 a6 a8 a9 b c h i e a : V),f.blocks.length - k = d → k ≤ f.blocks.length →
  exec T zh8 ⟨[a0,vI v,a2,.one (.ptr 1 0 0 0),a4,a5,a6,.one (.ptr 12 0 0 0),a8,a9,b,vL (f.blocks.map rb),vI f.blocks.length,vI k,c,h,i,e,a],zym f tree s D [],0,0⟩ =
   some (.exit 0,⟨[vU,vI v,vU,.one (.ptr 1 0 0 0),vU,vU,vU,.one (.ptr 12 0 0 0),vU,vU,vU,vU,vU,vU,vU,vU,vU,vU,vU],zym f tree s (opsOf D (f.blocks.drop k)) [],0,0⟩):=by
 intro d
 induction d with
 | zero =>
   intro k D a0 a2 a4 a5 a6 a8 a9 b c h i e a l m;have g : k = f.blocks.length:=(by omega);subst g;rw [xl zh8 rfl,zkH];simp -implicitDefEqProofs only [go_sem,zym,yk,yo,opsOf,zI,zsd,znM]
 | succ d ih =>
   intro k D a0 a2 a4 a5 a6 a8 a9 b c h i e a l m;have g : k < f.blocks.length:=(by omega);have hd : f.blocks.drop k = f.blocks[k] :: f.blocks.drop (k + 1):=yd g;have j:=hf.block _ (yz g);have q:=fun a0 a2 a4 a5 a6 a8 a9 b c a => zI5 f hf tree s v f.blocks[k] j k f.blocks[k].ops.length 0 D a0 a2 a4 a5 a6 a8 a9 b c a (by omega) (by omega);simp only [yv,yi] at q;have:=ih (k + 1) (zjp D f.blocks[k].ops) vU vU vU vU vU vU vU vU vU vU vU vU vU (by omega) (by omega);rw [xl zh8 rfl,zkH,hd,opsOf];simp -implicitDefEqProofs only [go_sem,zym] at this q;simp -implicitDefEqProofs only [go_sem,zym,ilt g,zy g,rb,q,zI,zsd,znM,za g hf.blocks,this]
omit hf in
theorem zBG (D : ziS) : Finder (zym f tree s D []) 12 10 11 D []:=by
 refine ⟨rfl,rfl,rfl,?_,by decide,by decide⟩;unfold Ok;simp -implicitDefEqProofs only [go_sem,zym,zI,zsd,znM]
end
theorem zwA (f : PFunc) (hf : okF f) (tree : List Int) (g : zm6 f tree) (i : zh4 f 2 tree = 0) (v : Int) (d : getM v (zgt f) ≠ some (64,1)) :
  call T 33 [zfg f,vI v] [] = some (.tup [vFm zj0,vI 10],[]):=by
 rw [ze (fn:=zdB) rfl];have b:=zuE f hf tree g i;have a:=zAG v (zgt f);simp -implicitDefEqProofs only [go_sem,zIv] at b
 cases e : getM v (zgt f) with
 | none =>
   rw [e] at a;simp -implicitDefEqProofs only [go_sem] at a;simp -implicitDefEqProofs only [go_sem,zdB,b,a,zk2,zpv,zI,znM,vFm,fF,zj]
 | some p =>
   rw [e] at a d;have c : ¬ (p.1 = 64 ∧ p.2 = 1):=fun h => d (by rw [← h.1,← h.2]);simp -implicitDefEqProofs only [go_sem,vSh] at a
   by_cases c1 : p.1 = 64
   ·have c2 : ¬ p.2 = 1:=fun c2 => c ⟨c1,c2⟩
    simp -implicitDefEqProofs only [go_sem,zdB,b,a,c1,c2,zk2,zpv,zI,znM,vFm,fF,zj]
   ·simp -implicitDefEqProofs only [go_sem,zdB,b,a,c1,zk2,zpv,zI,znM,vFm,fF,zj]
theorem zGJ (f : PFunc) (hf : okF f) (tree : List Int) (o : zm6 f tree) (p : zh4 f 2 tree = 0) (v : Int) (m : getM v (zgt f) = some (64,1)) (n : Nat) (r : zao) (i : zu6) (l : zro (opsOf [] f.blocks) n [] v = some (r,i)) :
  call T 33 [zfg f,vI v] [] = some (.tup [vFm r,vI 0],[]):=by
 rw [ze (fn:=zdB) rfl];have j:=zuE f hf tree o p;have b:=zAG v (zgt f);rw [m] at b;have q:=fun a0 a2 a4 a5 a6 a8 a9 g h c d a e => zIY f hf tree (64,1) v f.blocks.length 0 [] a0 a2 a4 a5 a6 a8 a9 g h c d a e (by omega) (by omega);have k:=zCO (opsOf [] f.blocks) n _ 12 10 11 [] i v r (zBG f tree (64,1) (opsOf [] f.blocks)) l;have he : zf5 vOp [] = []:=rfl;simp only [yv,yi,he] at q;simp -implicitDefEqProofs only [go_sem,zIv] at j;simp -implicitDefEqProofs only [go_sem,vSh] at b;simp -implicitDefEqProofs only [go_sem,zym,he,vFm,fF,List.set_cons_succ,List.set_cons_zero] at q k;simp -implicitDefEqProofs only [go_sem,zdB,j,b,q,k,zk2,zpv,zI,znM,zsd,vFm,fF,zj]
end AC
namespace AC
theorem zaK {last : Int} {t : Int × Int} {r : List (Int × Int)} : zg last (t :: r) = true ↔ last < t.1 ∧ t.1 ≤ 1023 ∧ t.2 ≠ 0 ∧ zg t.1 r = true:=by
 simp only [zg];split
 ·simp only [yx,false_iff]
  omega
 ·constructor
  ·intro h
   exact ⟨by omega,by omega,by omega,h⟩
  ·exact fun h => h.2.2.2
theorem zE3 {a b : Int} {l : List (Int × Int)} (h : a ≤ b) (hm : zg b l = true) : zg a l = true:=by
 cases l with
 | nil => rfl
 | cons t r =>
   rw [zaK] at hm ⊢;exact ⟨by omega,hm.2⟩
def cf : List (Int × Int) → Int → Int
 | [],_ => 0
 | t :: r,v => if t.1 = v then t.2 else cf r v
theorem zlN : ∀ (l : List (Int × Int)) {a v : Int},zg a l = true → v ≤ a → cf l v = 0
 | [],_,_,_,_ => rfl
 | t :: r,a,v,h,hv => by
   rw [zaK] at h;rw [cf,if_neg (by omega)];exact zlN r h.2.2.2 (by omega)
theorem zFg : ∀ (l k : List (Int × Int)) {a b : Int},zg a l = true → zg b k = true → (∀ v,cf l v = cf k v) → l = k
 | [],[],_,_,_,_,_ => rfl
 | t :: r,[],_,_,h,_,e => by
   rw [zaK] at h;have:=e t.1;simp [cf] at this;exact absurd this h.2.2.1
 | [],t :: r,_,_,_,h,e => by
   rw [zaK] at h;have:=e t.1;simp [cf] at this;exact absurd this.symm h.2.2.1
 | t :: r,u :: s,_,_,h,h',e => by
   rw [zaK] at h h';have c:=e t.1;have f:=e u.1;rw [cf,cf] at c f
   have e1 : t.1 = u.1:=by
    rcases Int.lt_trichotomy t.1 u.1 with d | d | d
    ·rw [if_pos rfl,if_neg (by omega),zlN s h'.2.2.2 (by omega)] at c
     exact absurd c h.2.2.1
    ·exact d
    ·rw [if_neg (by omega),if_pos rfl,zlN r h.2.2.2 (by omega)] at f
     exact absurd f.symm h'.2.2.1
   rw [if_pos rfl,if_pos e1.symm] at c;have e2 : t = u:=Prod.ext e1 c;subst e2;rw [zFg r s h.2.2.2 h'.2.2.2 fun v => ?_];have i:=e v;simp only [cf] at i
   by_cases g : t.1 = v
   ·rw [zlN r h.2.2.2 (by omega),zlN s h'.2.2.2 (by omega)]
   ·rwa [if_neg g,if_neg g] at i
theorem zk9 {last a b : Int} {l : List (Int × Int)} (h : last < a) (c : a ≤ 1023) (hm : zg a l = true) : zg last (zp0 a b l) = true:=by
 unfold zp0;split
 ·exact zE3 (by omega) hm
 ·rw [zaK]
  exact ⟨h,c,by assumption,hm⟩
theorem znr (a b : Int) (l : List (Int × Int)) (v : Int) (h : zg a l = true) : cf (zp0 a b l) v = if a = v then b else cf l v:=by
 unfold zp0;split
 ·rename_i c
  split
  ·rename_i d
   rw [zlN l h (by omega),c]
  ·rfl
 ·rfl
theorem zcT (op : Int → Int → Int) : ∀ (ts us : List (Int × Int)) (last : Int),zg last ts = true → zg last us = true → zg last (zbj op ts us) = true
 | [],[],_,_,_ => by rw [zbj]; rfl
 | t :: ts,[],last,h,_ => by
   rw [zaK] at h;rw [zbj];exact zk9 h.1 h.2.1 (zcT op ts [] t.1 h.2.2.2 rfl)
 | [],u :: us,last,_,h => by
   rw [zaK] at h;rw [zbj];exact zk9 h.1 h.2.1 (zcT op [] us u.1 rfl h.2.2.2)
 | t :: ts,u :: us,last,h,h' => by
   have k:=zaK.1 h;have a:=zaK.1 h';rw [zbj];split
   ·exact zk9 k.1 k.2.1 (zcT op ts (u :: us) t.1 k.2.2.2 (zaK.2 ⟨by assumption,a.2⟩))
   ·split
    ·exact zk9 a.1 a.2.1 (zcT op (t :: ts) us u.1 (zaK.2 ⟨by assumption,k.2⟩) a.2.2.2)
    ·have : t.1 = u.1:=by omega
     exact zk9 k.1 k.2.1 (zcT op ts us t.1 k.2.2.2 (this ▸ a.2.2.2))
 termination_by ts us => ts.length + us.length
theorem zlx (op : Int → Int → Int) (b : op 0 0 = 0) (v : Int) : ∀ (ts us : List (Int × Int)) (last : Int),zg last ts = true → zg last us = true → cf (zbj op ts us) v = op (cf ts v) (cf us v)
 | [],[],_,_,_ => by rw [zbj]; simp [cf,b]
 | t :: ts,[],last,h,_ => by
   rw [zaK] at h;rw [zbj,znr _ _ _ _ (zcT op ts [] t.1 h.2.2.2 rfl),zlx op b v ts [] t.1 h.2.2.2 rfl];simp only [cf];split <;> rfl
 | [],u :: us,last,_,h => by
   rw [zaK] at h;rw [zbj,znr _ _ _ _ (zcT op [] us u.1 rfl h.2.2.2),zlx op b v [] us u.1 rfl h.2.2.2];simp only [cf];split <;> rfl
 | t :: ts,u :: us,last,h,h' => by
   have k:=zaK.1 h;have c:=zaK.1 h';rw [zbj];split
   ·have m : zg t.1 (u :: us) = true:=zaK.2 ⟨by assumption,c.2⟩
    rw [znr _ _ _ _ (zcT op ts (u :: us) t.1 k.2.2.2 m),zlx op b v ts (u :: us) t.1 k.2.2.2 m]
    by_cases a : t.1 = v
    ·rw [if_pos a,zlN (u :: us) m (by omega),cf,if_pos a]
    ·rw [if_neg a]
     conv => rhs; rw [cf]
     rw [if_neg a]
   ·split
    ·have m : zg u.1 (t :: ts) = true:=zaK.2 ⟨by assumption,k.2⟩
     rw [znr _ _ _ _ (zcT op (t :: ts) us u.1 m c.2.2.2),zlx op b v (t :: ts) us u.1 m c.2.2.2]
     by_cases a : u.1 = v
     ·rw [if_pos a,zlN (t :: ts) m (by omega),cf,if_pos a]
     ·rw [if_neg a]
      conv => rhs; rw [cf.eq_2 v u]
      rw [if_neg a]
    ·have e : t.1 = u.1:=by omega
     have m : zg t.1 us = true:=e ▸ c.2.2.2;rw [znr _ _ _ _ (zcT op ts us t.1 k.2.2.2 m),zlx op b v ts us t.1 k.2.2.2 m];simp only [cf,← e];split <;> rfl
 termination_by ts us => ts.length + us.length
theorem ztA (x : Int) : zvL x = x % 18446744073709551616:=by
 unfold zvL Go.IntKind.wrap Go.IntKind.bits Go.IntKind.signed;simp only [Bool.false_and,if_neg Bool.false_ne_true];rfl
section
variable (ts us : List (Int × Int)) (a b n : Int) (ht : zg 0 ts = true) (hu : zg 0 us = true)
include ht hu
omit ht hu in
theorem zGw : ti n 0 0 = 0:=by
 rw [ti,Int.zero_mul];rfl
end
end AC
namespace AC
open Go Go.A
def upN (t : List Int) : Nat → Int → Option Nat
 | 0,_ => none
 | r + 1,a => if a < 0 ∨ (t.length : Int) ≤ a then none else if tr t a = -1 then some 1 else (upN t r (tr t a)).map (· + 1)
theorem zx0 (t : List Int) : ∀ (r : Nat) (a : Int) (n : Nat),upN t r a = some n → upN t (r + 1) a = some n
 | 0,_,_,h => by simp [upN] at h
 | r + 1,a,n,h => by
   rw [upN] at h ⊢;split at h
   ·cases h
   ·rename_i c
    rw [if_neg c];split at h
    ·rename_i c2
     rw [if_pos c2];exact h
    ·rename_i c2
     rw [if_neg c2];rw [yr] at h ⊢;obtain ⟨m,hm,e⟩:=h;exact ⟨m,zx0 t r _ m hm,e⟩
theorem zAb (t : List Int) : ∀ (r : Nat) (acc : List Int) (b : Int),pathFrom t r acc b ≠ [] → ∃ n,upN t r b = some n
 | 0,_,_,h => absurd rfl h
 | r + 1,acc,b,h => by
   rw [pathFrom] at h;rw [upN];split at h
   ·exact absurd rfl h
   ·rename_i c
    rw [if_neg c];split at h
    ·rename_i c2
     rw [if_pos c2];exact ⟨1,rfl⟩
    ·rename_i c2
     rw [if_neg c2];obtain ⟨n,a⟩:=zAb t r _ _ h;exact ⟨n + 1,by rw [a]; rfl⟩
theorem zCR (t : List Int) : ∀ (r : Nat) (acc : List Int) (b x : Int),x ∈ pathFrom t r acc b → x ∈ acc ∨ ∃ n m,upN t r b = some n ∧ upN t r x = some m ∧ (x = b ∨ m < n)
 | 0,_,_,_,h => by simp [pathFrom] at h
 | r + 1,acc,b,x,h => by
   obtain ⟨n,g⟩:=zAb t (r + 1) acc b (fun e => by rw [e] at h; simp at h)
   by_cases a : x = b
   ·exact .inr ⟨n,n,g,by rw [a]; exact g,.inl a⟩
   rw [pathFrom] at h;split at h
   ·simp at h
   ·rename_i c
    split at h
    ·rcases ye.1 h with h | h
     ·exact .inl h
     ·exact absurd (by simpa using h) a
    ·rename_i c2
     rw [upN,if_neg c,if_neg c2,yr] at g;obtain ⟨n0,d,e⟩:=g;rcases zCR t r _ _ x h with h | ⟨k,m,j,i,f⟩
     ·rcases ye.1 h with h | h
      ·exact .inl h
      ·exact absurd (by simpa using h) a
     ·rw [d] at j
      injection j with j;refine .inr ⟨n0 + 1,m,by rw [upN,if_neg c,if_neg c2,d]; rfl,zx0 t r x m i,.inr ?_⟩;rcases f with f | f
      ·subst f
       rw [d] at i;injection i with i;omega
      ·omega
def rkB (t : List Int) (b : Int) : Nat:=(upN t t.length b).getD 0
theorem zF1 {t : List Int} {a b : Int} (j : 0 ≤ a) (d : a ≠ b) (h : zj2 t a b = a) : rkB t a < rkB t b:=by
 unfold zj2 at h;split at h
 ·cases c : (zhM t a).find? fun x => decide (x ∈ zhM t b) with
  | none => rw [c] at h; simp at h; omega
  | some x =>
    rw [c] at h;have f : x = a:=h;subst f;have:=List.find?_some c;have hm : x ∈ zhM t b:=(by simpa using this);rcases zCR t _ _ _ _ hm with h | ⟨n,m,g,i,e⟩
    ·simp at h
    ·unfold rkB
     rw [g,i];exact e.resolve_left d
 ·omega
def rkD (t : List Int) (d : Use) : Nat:=if d.block < 0 then 0 else rkB t d.block * 2000 + (d.at' + 2).toNat
def rkV (f : PFunc) (v : Int) : Nat:=match (zt f).find? fun d => decide (d.v = v) with
 | some d => rkD (zdl (zo f) 0) d
 | none => 0
theorem zFz {f : PFunc} {level : Int} (h : RightP f level) {d : Use} (hd : d ∈ zt f) : rkV f d.v = rkD (zdl (zo f) 0) d:=by
 unfold rkV;rw [zi2 h.once hd]
theorem zF7 {f : PFunc} {level : Int} (h : RightP f level) {d : Use} (hd : d ∈ zt f) (g : ¬ d.block < 0) : d.at' ≤ 1000:=by
 unfold zt at hd;rcases ye.1 hd with hd | hd
 ·exfalso
  have : ∀ (l : List Int) (k : Nat),d ∈ zaJ k l → d.block = -1:=by
   intro l
   induction l with
   | nil => intro k h; simp [zaJ] at h
   | cons b r ih =>
     intro k h;rw [zaJ] at h;rcases yB.1 h with rfl | h
     ·rfl
     ·exact ih _ h
  have:=this _ _ hd;omega
 ·obtain ⟨j,b,e,a⟩:=(zgL _ _ 0).1 hd
  rcases a with a | a
  ·obtain ⟨p,_,rfl⟩:=yC.1 a
   simp only;omega
  ·obtain ⟨i,o,c,_,rfl⟩:=(zlk _ d _ 0).1 a
   have:=(h.size (ya e)).1;have:=(ym.1 c).1;simp only;omega
theorem RightP.arg {f : PFunc} {level : Int} (h : RightP f level) {k : Nat} {b : PBlock} (m : f.blocks[k]? = some b) {j : Nat} {y : POp} (e : b.ops[j]? = some y) {v : Int} (hm : v ∈ y.args) :
  ∃ d ∈ zt f,d.v = v ∧ (d.block < 0 ∨ (d.block = k ∧ d.at' < j) ∨ (d.block ≠ k ∧ zj2 (zdl (zo f) 0) d.block k = d.block)):=by
 have c:=ya m;have t : zgh y = true:=zhz h.typed c (ya e);obtain ⟨a,l,ea⟩:=List.mem_iff_getElem.1 hm;obtain ⟨s,n⟩:=ziO (o:=y) (i:=(k : Int)) (at':=(j : Int)) (zaC y) 0 a (by rw [zmF t]; exact l);rw [yn,yb,List.getElem?_eq_getElem l] at n;have q:=(h.size c).1;have p:=(ym.1 e).1
 have hu : (⟨v,s,(k : Int),(j : Int)⟩ : Use) ∈ zen f:=by
  unfold zen zfj;refine yC.2 ⟨⟨v,s,(k : Int),(j : Int)⟩,(zko _ _ _ 0).2 ⟨k,b,m,?_⟩,?_⟩
  ·rw [yn]
   refine ye.2 (.inr (ye.2 (.inl ((zmh _ _ _ 0).2 ⟨j,y,e,?_⟩))));rw [yn,← ea];exact n
  ·unfold zac
   simp only;rw [if_neg (by omega)]
 obtain ⟨d,g,e1,_,r⟩:=h.uses _ hu;exact ⟨d,g,e1,r⟩
theorem zIk {f : PFunc} {level : Int} (h : RightP f level) {k : Nat} {b : PBlock} (m : f.blocks[k]? = some b) {j : Nat} {y : POp} (i : b.ops[j]? = some y) (hd : 0 < y.dst) {v : Int} (hm : v ∈ y.args) : rkV f v < rkV f y.dst:=by
 have l:=ya m;have p : zgh y = true:=zhz h.typed l (ya i)
 have g : (⟨y.dst,zad y,(k : Int),(j : Int)⟩ : Use) ∈ zt f:=by
  unfold zt;refine ye.2 (.inr ((zgL _ _ 0).2 ⟨k,b,m,.inr ?_⟩));rw [yn];exact (zlk _ _ _ 0).2 ⟨j,y,i,zvj p hd,by rw [yn]⟩
 have e2 : rkV f y.dst = rkB (zdl (zo f) 0) k * 2000 + (j + 2):=by
  rw [zFz h g];unfold rkD;simp only;rw [if_neg (by omega)];omega
 obtain ⟨d,e,rfl,a⟩:=h.arg m i hm;rw [zFz h e,e2];unfold rkD;split
 ·omega
 ·rename_i c
  have o:=zF7 h e c;rcases a with a | ⟨a,n⟩ | ⟨a,n⟩
  ·exact absurd a c
  ·rw [a]; omega
  ·have:=zF1 (by omega) a n
   have : rkB (zdl (zo f) 0) d.block * 2000 + 2000 ≤ rkB (zdl (zo f) 0) k * 2000:=(by omega);omega
theorem zrP {v : Int} {o : POp} : ∀ (l : List POp) (D : ziS),getM v (zjp D l) = some o → getM v D = some o ∨ (o ∈ l ∧ o.dst = v)
 | [],_,h => .inl h
 | p :: l,D,h => by
   rw [zjp] at h;rcases zrP l _ h with h | ⟨h,e⟩
   ·rw [znt] at h
    split at h
    ·rename_i e
     injection h with h;subst h;exact .inr ⟨yy,e⟩
    ·exact .inl h
   ·exact .inr ⟨ys _ h,e⟩
theorem zul {v : Int} {o : POp} : ∀ (l : List PBlock) (D : ziS),getM v (opsOf D l) = some o → getM v D = some o ∨ ∃ b ∈ l,o ∈ b.ops ∧ o.dst = v
 | [],_,h => .inl h
 | b :: l,D,h => by
   rw [opsOf] at h;rcases zul l _ h with h | ⟨x,a,c⟩
   ·rcases zrP _ _ h with h | h
    ·exact .inl h
    ·exact .inr ⟨b,yy,h⟩
   ·exact .inr ⟨x,ys _ a,c⟩
def zH9 (r : zao) : Prop:=r.1.length ≤ 16 ∧ 0 ≤ r.2
theorem ztp (x : Int) : 0 ≤ zvL x:=by
 rw [ztA];omega
theorem zEE {k : Int} {a b g : zao} (h : tell k a b = some g) : 0 ≤ g.2:=by
 have d : ∀ x y : zao,0 ≤ (znR x y).2:=fun x y => by unfold znR; split; exact ztp _; exact yf _
 have e : ∀ x y : zao,0 ≤ (zi3 x y).2:=fun x y => by unfold zi3; split; exact ztp _; exact yf _
 have c : ∀ (x : zao) (n : Int),0 ≤ (zf9 x n).2:=fun x n => by unfold zf9; split; exact ztp _; exact yf _
 unfold tell at h;split at h
 ·injection h with h; subst h; exact d _ _
 split at h
 ·injection h with h; subst h; exact e _ _
 split at h
 ·injection h with h; subst h; exact c _ _
 split at h
 ·injection h with h; subst h; exact c _ _
 split at h
 ·injection h with h; subst h; exact c _ _
 ·cases h
def zIp (v : Int) : zao:=([(v,1)],0)
def zpJ (D : ziS) (g : Int → zao) (v : Int) : zao:=match getM v D with
 | none => zIp v
 | some o => zhK v (if o.bits ≠ 64 ∨ o.lanes ≠ 1 then none else if o.kind = 0 then some ([],o.imm) else if o.kind < 1 ∨ 8 < o.kind then none else match o.args with
   | a :: b :: _ => tell o.kind (g a) (g b)
   | _ => none)
def zFH (D : ziS) : Nat → Int → zao
 | 0,v => zIp v
 | n + 1,v => zpJ D (zFH D n) v
def val (D : ziS) (rk : Int → Nat) (v : Int) : zao:=zFH D (rk v + 1) v
structure Ranked (D : ziS) (rk : Int → Nat) : Prop where
 dst : ∀ v o,getM v D = some o → o.dst = v
 imm : ∀ v o,getM v D = some o → 0 ≤ o.imm
 arg : ∀ v o,getM v D = some o → 1 ≤ o.kind → o.kind ≤ 8 → ∃ a b r,o.args = a :: b :: r ∧ rk a < rk v ∧ rk b < rk v ∧ (0 < a ∧ a < 1024) ∧ 0 < b ∧ b < 1024
theorem zuX {D : ziS} {d : Int → Nat} (h : Ranked D d) {g g' : Int → zao} {v : Int} (e : ∀ w,d w < d v → g w = g' w) : zpJ D g v = zpJ D g' v:=by
 unfold zpJ
 cases i : getM v D with
 | none => rfl
 | some o =>
   simp only
   by_cases c : o.kind < 1 ∨ 8 < o.kind
   ·simp only [if_pos c]
   ·obtain ⟨a,b,r,ea,r1,f,_⟩:=h.arg v o i (by omega) (by omega)
    rw [ea];simp only [e a r1,e b f]
theorem zqY {D : ziS} {a : Int → Nat} (h : Ranked D a) : ∀ (n m : Nat) (v : Int),a v < n → a v < m → zFH D n v = zFH D m v
 | 0,_,_,h1,_ => absurd h1 (by omega)
 | _ + 1,0,_,_,h2 => absurd h2 (by omega)
 | n + 1,m + 1,v,h1,h2 => by
   rw [zFH,zFH];exact zuX h fun w hw => zqY h n m w (by omega) (by omega)
theorem zx7 {D : ziS} {a : Int → Nat} (h : Ranked D a) (v : Int) : val D a v = zpJ D (val D a) v:=by
 unfold val;rw [zFH];exact zuX h fun w hw => zqY h _ _ w (by omega) (by omega)
theorem zFa {v : Int} {q : Option zao} (h : ∀ g,q = some g → 0 ≤ g.2) : zH9 (zhK v q):=by
 unfold zhK zH9
 cases q with
 | none => exact ⟨by simp,yf _⟩
 | some g =>
   simp only;split
   ·exact ⟨by simp,yf _⟩
   ·exact ⟨by omega,h g rfl⟩
theorem zD9 {D : ziS} {b : Int → Nat} (h : Ranked D b) (g : Int → zao) (v : Int) : zH9 (zpJ D g v):=by
 unfold zpJ
 cases c : getM v D with
 | none => exact ⟨by simp [zIp],yf _⟩
 | some o =>
   refine zFa fun x a => ?_;split at a
   ·cases a
   split at a
   ·injection a with a; subst a; exact h.imm v o c
   split at a
   ·cases a
   split at a
   ·exact zEE a
   ·cases a
theorem zr0 {D : ziS} {a : Int → Nat} (h : Ranked D a) (v : Int) : zH9 (val D a v):=by rw [zx7 h]; exact zD9 h _ v
theorem zw0 {v : Int} (a : 0 < v) (b : v < 1024) : zg 0 [(v,1)] = true:=by
 rw [zaK];exact ⟨by omega,by omega,by simp,rfl⟩
theorem zEl {k : Int} {a b g : zao} (h : tell k a b = some g) : zg 0 g.1 = true:=by
 have e : zg 0 (znR a b).1 = true:=by
  unfold znR;split
  ·rename_i c; exact zcT pl _ _ 0 c.1 c.2
  ·rfl
 have f : zg 0 (zi3 a b).1 = true:=by
  unfold zi3;split
  ·rename_i c; exact zcT mi _ _ 0 c.1 c.2
  ·rfl
 have d : ∀ (x : zao) (n : Int),zg 0 (zf9 x n).1 = true:=fun x n => by
  unfold zf9;split
  ·rename_i c; exact zcT (ti n) _ _ 0 c rfl
  ·rfl
 unfold tell at h;split at h
 ·injection h with h; subst h; exact e
 split at h
 ·injection h with h; subst h; exact f
 split at h
 ·injection h with h; subst h; exact d _ _
 split at h
 ·injection h with h; subst h; exact d _ _
 split at h
 ·injection h with h; subst h; exact d _ _
 ·cases h
theorem zFe {v : Int} (a : 0 < v) (b : v < 1024) {q : Option zao} (h : ∀ g,q = some g → zg 0 g.1 = true) : zg 0 (zhK v q).1 = true:=by
 unfold zhK
 cases q with
 | none => exact zw0 a b
 | some g =>
   simp only;split
   ·exact zw0 a b
   ·exact h g rfl
theorem zDj {D : ziS} (g : Int → zao) {v : Int} (b : 0 < v) (c : v < 1024) : zg 0 (zpJ D g v).1 = true:=by
 unfold zpJ
 cases d : getM v D with
 | none => exact zw0 b c
 | some o =>
   refine zFe b c fun x a => ?_;split at a
   ·cases a
   split at a
   ·injection a with a; subst a; rfl
   split at a
   ·cases a
   split at a
   ·exact zEl a
   ·cases a
theorem zwm {D : ziS} {a : Int → Nat} (h : Ranked D a) {v : Int} (b : 0 < v) (c : v < 1024) : zg 0 (val D a v).1 = true:=by rw [zx7 h]; exact zDj _ b c
def zGh (D : ziS) (rk : Int → Nat) (M : zu6) : Prop:=∀ v r,getM v M = some r → r = val D rk v
theorem zs7 {D : ziS} {d : Int → Nat} (h : Ranked D d) : ∀ (n : Nat) (v : Int) (M : zu6),d v < n → zGh D d M → ∃ M',zro D n M v = some (val D d v,M') ∧ zGh D d M'
 | 0,_,_,hn,_ => absurd hn (by omega)
 | n + 1,v,M,hv,hM => by
   rw [zro]
   cases k : getM v M with
   | some r => exact ⟨M,by rw [hM v r k],hM⟩
   | none =>
     have hm : ∃ q g,zBX (zro D n) D M v = some (q,g) ∧ zGh D d g ∧ zhK v q = val D d v:=by
      rw [zx7 h];unfold zBX zpJ
      cases l : getM v D with
      | none => exact ⟨none,M,rfl,hM,rfl⟩
      | some o =>
        simp only;split
        ·exact ⟨none,M,rfl,hM,rfl⟩
        split
        ·exact ⟨_,M,rfl,hM,rfl⟩
        split
        ·exact ⟨none,M,rfl,hM,rfl⟩
        ·rename_i c
         obtain ⟨a,b,r,ea,r1,p,_⟩:=h.arg v o l (by omega) (by omega);rw [ea];obtain ⟨g,e1,i1⟩:=zs7 h n a M (by omega) hM;obtain ⟨m,e2,i2⟩:=zs7 h n b g (by omega) i1;refine ⟨_,m,?_,i2,rfl⟩;simp only [e1,yw,e2];have s:=(zr0 h a).1;have t:=(zr0 h b).1;rw [if_pos ⟨by omega,(zr0 h b).2⟩]
     obtain ⟨q,g,e,i,j⟩:=hm;rw [e];refine ⟨zkc v (zhK v q) g,by simp [j],fun w r f => ?_⟩;rw [znt] at f;split at f
     ·rename_i ew
      injection f with f;rw [← f,j,ew]
     ·exact i w r f
abbrev zHZ (f : PFunc) : ziS:=opsOf [] f.blocks
theorem zwv {f : PFunc} {v : Int} {o : POp} (h : getM v (zHZ f) = some o) : ∃ b ∈ f.blocks,o ∈ b.ops ∧ o.dst = v:=by
 rcases zul _ _ h with h | h
 ·simp [getM] at h
 ·exact h
theorem zio {f : PFunc} (u : okF f) {level : Int} (h : RightP f level) : Ranked (zHZ f) (rkV f):=by
 refine ⟨fun v o i => ?_,fun v o i => ?_,fun v o i B A => ?_⟩
 ·obtain ⟨_,_,_,e⟩:=zwv i
  exact e
 ·obtain ⟨b,m,g,_⟩:=zwv i
  exact ((u.block b m).op o g).1.1
 ·obtain ⟨b,m,g,rfl⟩:=zwv i
  obtain ⟨k,s⟩:=yq.1 m;obtain ⟨j,q⟩:=yq.1 g;have l : zgh o = true:=zhz h.typed m g;have t:=zmF l
  have z : (zaC o).length = 2:=by
   unfold zaC zY;rw [if_pos l]
   by_cases c : o.kind = 4
   ·simp [arith,asks,c]
   ·have x : arith o.kind = true:=by unfold arith; simp; omega
    simp [x,show ¬ o.kind = 0 by omega]
  have hd : 0 < o.dst:=by
   have y : zfx o.kind = false:=(by unfold zfx; simp; omega);unfold zgh at l;simp only [y,yx,if_false,yp] at l;have:=l.2.2.1;unfold value at this;simp only [yp,decide_eq_true_eq] at this;omega
  have p : ∀ w ∈ o.args,rkV f w < rkV f o.dst ∧ 0 < w ∧ w < 1024:=fun w hw => by
   refine ⟨zIk h s q hd hw,?_⟩;obtain ⟨d,n,rfl,_⟩:=h.arg s q hw;have:=h.values d n;unfold value at this;simp only [yp,decide_eq_true_eq] at this;omega
  match e : o.args with
  | [] => have : (zaC o).length = 0:=by rw [t,e]; rfl
          omega
  | [_] => have : (zaC o).length = 1:=by rw [t,e]; rfl
           omega
  | a :: b :: r =>
    obtain ⟨a1,a2⟩:=p a (by rw [e]; simp);obtain ⟨b1,b2⟩:=p b (by rw [e]; simp);exact ⟨a,b,r,rfl,a1,b1,a2,b2⟩
abbrev zzB (f : PFunc) : Int → zao:=val (zHZ f) (rkV f)
theorem zz9 {f : PFunc} (a : okF f) {level : Int} (h : RightP f level) (v : Int) : ∃ n M',zro (zHZ f) n [] v = some (zzB f v,M'):=by
 obtain ⟨M',e,_⟩:=zs7 (zio a h) (rkV f v + 1) v [] (by omega) (fun v r b => by simp [getM] at b);exact ⟨_,M',e⟩
end AC
namespace AC
open Go Go.A Go.A.Lex
def cU (x : Int) : C:=.f (.lit (.int .u64 x))
theorem zIJ : ((1024 : Nat) : Int) = 1024:=rfl
theorem zIO : ((1025 : Nat) : Int) = 1025:=rfl
attribute [go_sem] zIJ zIO
abbrev obW (W : List Int) : Ob:=.cells 0 1025 [W.map cU]
def zDf : List (Int × Int) → List Int → List Int
 | [],W => W
 | t :: r,W => zDf r (W.set t.1.toNat t.2)
theorem zqZ : ∀ (l : List (Int × Int)) (W : List Int),(zDf l W).length = W.length
 | [],_ => rfl
 | t :: r,W => by rw [zDf,zqZ r]; simp
def W0 (off : Int) : List Int:=(yc 1025 (0 : Int)).set 1024 off
theorem znP (off : Int) : (W0 off).length = 1025:=by rw [W0,yA,yj]
theorem zyU {W : List Int} {j : Nat} (h : j < W.length) : (W.map cU)[j]? = some (.f (.lit (.int .u64 (W.getD j 0)))):=by simp [h,cU]
theorem zIx {W : List Int} {j : Nat} (x : Int) (h : j < W.length) : (W.map cU).take j ++ C.f (.lit (.int .u64 x)) :: (W.map cU).drop (j + 1) = (W.set j x).map cU:=by
 rw [ztg _ (by simpa using h),List.map_set];rfl
theorem zsr {last : Int} : ∀ {b : List (Int × Int)},zg last b = true → 0 ≤ last → ∀ t ∈ b,0 < t.1 ∧ t.1 ≤ 1023
 | [],_,_,t,h => by simp at h
 | u :: r,h,h0,t,a => by
   rw [zaK] at h;rcases yB.1 a with rfl | a
   ·omega
   ·exact zsr (last:=u.1) h.2.2.2 (by omega) t a
theorem zI3 (a : List (Int × Int)) (off : Int) (g : a.length ≤ 4294967296) (hm : ∀ t ∈ a,0 < t.1 ∧ t.1 ≤ 1023) : ∀ (d k : Nat) (W : List Int) (a0 a2 a5 : V),W.length = 1025 → a.length - k = d → k ≤ a.length →
  exec T zbL ⟨[a0,.one (.ptr 0 0 0 0),a2,.one (.ptr 1 0 0 0),vI k,a5],[bx a off,obW W],0,2⟩ =
   some (.exit 0,⟨[vU,vU,vU,.one (.ptr 1 0 0 0),vU,vU],[bx a off,obW (zDf (a.drop k) W)],0,2⟩):=by
 intro d
 induction d with
 | zero =>
   intro k W a0 a2 a5 c i l;have b : k = a.length:=(by omega);subst b;rw [xl zbL rfl,zfI];simp -implicitDefEqProofs only [go_sem,bx,zp,yk,yo,zDf]
 | succ d ih =>
   intro k W a0 a2 a5 c i l;have b : k < a.length:=(by omega);have hd : a.drop k = a[k] :: a.drop (k + 1):=yd b;obtain ⟨p1,p2⟩:=hm _ (yz b);have e : 0 ≤ a[k].1:=(by omega);have f : a[k].1 < 1024:=(by omega);have h:=zIx (W:=W) (j:=a[k].1.toNat) a[k].2 (by omega);have hle:=zrE (show a[k].1.toNat < W.length by omega);have:=ih (k + 1) (W.set a[k].1.toNat a[k].2) vU vU vU (by simpa using c) (by omega) (by omega);rw [xl zbL rfl,zfI,hd,zDf];simp -implicitDefEqProofs only [go_sem,obW,bx] at this;simp -implicitDefEqProofs only [go_sem,bx,obW,zp,ilt b,zuA b,row,yg,yh,e,f,yt,h,hle,za b g,this]
def zgS (ts : List (Int × Int)) (off : Int) : List Int:=zDf ts (W0 off)
theorem zdA (a : List (Int × Int)) (off : Int) : (zgS a off).length = 1025:=by rw [zgS,zqZ,znP]
theorem zyb {α : Type} (c : α) : ∀ n : Nat,(yc n [c]).flatten = yc n c
 | 0 => rfl
 | n + 1 => by rw [yu,List.flatten_cons,zyb c n,yu]; rfl
def zHk : Go.A.Code:=zJ.body.p2.p1
def zCl : Go.A.Code:=zJ.body.p2.p2
def zBZ : Go.A.Code:=zJ.body.p1
theorem zGA : zJ.body = .seq zBZ (.seq zHk zCl):=rfl
theorem zDY : zHk = .reg [q (.fa 1 (.s 1)),q (.ld none (.l 0)),q (.bld ((yc 1025 [C.f (.lit (.int .u64 0))]).flatten) [(1024,1,(.l 0))] []),q (.box 1025 (.l 0)),w 3 (.mv (.l 0))]:=rfl
theorem zBC : zBZ = .reg [w 1 (.box 2 (.s 0)),w 2 (.mv (.c (.one (.f (.lit (.pointer none))))))]:=rfl
theorem zC0 : zCl = .seq (.seq (.reg [w 4 (.mv (i 0))]) (.block 0 zbL)) (.seq (.reg [q (.mv (.s 3)),w 2 (.mv (.l 0))]) (.ret [false,false,true,false,false,false])):=rfl
theorem zFu : ∀ W : List Int,C.kns (W.map cU) = true
 | [] => rfl
 | x :: r => by simp only [List.map_cons,cU,C.kns]; exact zFu r
theorem zHa (Z : List C) (W : List Int) (e : Z = W.map cU) (c : W.length = 1025) (b : List (Int × Int)) (off : Int) (a0 a2 a3 a4 a5 : V) :
  exec T (.reg [q (.fa 1 (.s 1)),q (.ld none (.l 0)),q (.bld Z [(1024,1,(.l 0))] []),q (.box 1025 (.l 0)),w 3 (.mv (.l 0))]) ⟨[a0,.one (.ptr 0 0 0 0),a2,a3,a4,a5],[bx b off],0,2⟩ =
   some (.normal,⟨[a0,.one (.ptr 0 0 0 0),a2,.one (.ptr 1 0 0 0),a4,a5],[bx b off,obW (W.set 1024 off)],0,2⟩):=by
 subst e;have d:=zIx (W:=W) (j:=1024) off (by omega);have a : (W.set 1024 off).length = 1025:=by rw [yA,c]
 simp -implicitDefEqProofs only [go_sem,bx,obW,c,d,a,zFu]
theorem zxS (a : List (Int × Int)) (off : Int) (b : a.length ≤ 4294967296) (hm : zg 0 a = true) : call T 141 [fF a off] [] = some (.one (.ptr 1 0 0 0),[bx a off,obW (zgS a off)]):=by
 rw [ze (fn:=zJ) rfl,if_pos (show [fF a off].length = zJ.np from rfl),zGA];have h:=fun a0 a2 a5 => zI3 a off b (zsr hm (by omega)) a.length 0 (W0 off) a0 a2 a5 (znP off) (by omega) (by omega);simp only [yv,yi] at h
 have e0 : exec T zBZ (enter zJ [fF a off] []) = some (.normal,⟨[fF a off,.one (.ptr 0 0 0 0),.one (.f (.lit (.pointer none))),vU,vU,vU],[bx a off],0,2⟩):=by
  rw [zBC,show enter zJ [fF a off] [] = ⟨[fF a off,vU,vU,vU,vU,vU],[],0,2⟩ from rfl];simp -implicitDefEqProofs only [go_sem,fF,bx]
 have e1:=zHa ((yc 1025 [C.f (.lit (.int .u64 0))]).flatten) (yc 1025 0) (by rw [zyb,List.map_replicate]; rfl) (by rw [yj]) a off (fF a off) (.one (.f (.lit (.pointer none)))) vU vU vU;rw [← zDY] at e1;rw [zdI,e0];simp only [yw,zri];rw [zdI,e1];simp only [yw,zri]
 have e2 : exec T zCl ⟨[fF a off,.one (.ptr 0 0 0 0),.one (.f (.lit (.pointer none))),.one (.ptr 1 0 0 0),vU,vU],[bx a off,obW (W0 off)],0,2⟩ = some (.ret,⟨[vU,vU,.one (.ptr 1 0 0 0),vU,vU,vU],[bx a off,obW (zgS a off)],0,2⟩):=by
  simp -implicitDefEqProofs only [go_sem,bx,obW] at h;rw [zC0];simp -implicitDefEqProofs only [go_sem,h,bx,obW,zgS]
 rw [show (yc 1025 (0 : Int)).set 1024 off = W0 off from rfl,e2];simp -implicitDefEqProofs only [go_sem,bx,obW,show zJ.raw = false from rfl,show zJ.results = [(2,none)] from rfl]
def comb (n m a b : Int) : Int:=zvL (zvL (a * n) + zvL (b * m))
def zhR (n m : Int) (B : List Int) : Nat → Nat → List Int → List Int
 | 0,_,W => W
 | d + 1,k,W => zhR n m B d (k + 1) (W.set k (comb n m (W.getD k 0) (B.getD k 0)))
theorem zma (n m : Int) (B : List Int) : ∀ (d k : Nat) (W : List Int),(zhR n m B d k W).length = W.length
 | 0,_,_ => rfl
 | d + 1,k,W => by rw [zhR,zma n m B d]; simp
theorem zjr (n m : Int) (B : List Int) : ∀ (d k : Nat) (W : List Int) (v : Nat),v < W.length → (zhR n m B d k W).getD v 0 = if k ≤ v ∧ v < k + d then comb n m (W.getD v 0) (B.getD v 0) else W.getD v 0
 | 0,k,W,v,_ => by rw [zhR,if_neg (by omega)]
 | d + 1,k,W,v,hv => by
   rw [zhR,zjr n m B d (k + 1) _ v (by simpa using hv)]
   by_cases e : k = v
   ·subst e
    rw [if_neg (by omega),if_pos (by omega)];simp [hv]
   ·have a : (W.set k (comb n m (W.getD k 0) (B.getD k 0))).getD v 0 = W.getD v 0:=by
     simp [yl e]
    rw [a]
    by_cases c : k ≤ v ∧ v < k + (d + 1)
    ·rw [if_pos c,if_pos (by omega)]
    ·rw [if_neg c,if_neg (by omega)]
abbrev zz2 : Ob:=.cells 0 2 [[.f (.sl []),.f (.lit (.int .u64 0))]]
theorem zH1 (n m : Int) (o0 h e g : Ob) (q : ∀ k,o0.lt (k + 7) = true) (B : List Int) (p : B.length = 1025) : ∀ (d k : Nat) (W : List Int) (a0 a2 a4 a5 a : V),W.length = 1025 → d + k = 1024 →
  exec T zdc ⟨[a0,ziM n,a2,ziM m,a4,a5,.one (.ptr 2 0 0 0),.one (.ptr 4 0 0 0),.one (.ptr 6 0 0 0),vI k,a],[o0,h,zz2,e,obW W,g,obW B],0,0⟩ =
   some (.exit 0,⟨[vU,ziM n,vU,ziM m,vU,vU,.one (.ptr 2 0 0 0),.one (.ptr 4 0 0 0),.one (.ptr 6 0 0 0),vU,vU],[o0,h,zz2,e,obW (zhR n m B d k W),g,obW B],0,0⟩):=by
 intro d
 induction d with
 | zero =>
   intro k W a0 a2 a4 a5 a f o;have b : k = 1024:=(by omega);subst b;rw [xl zdc rfl,zfc];simp -implicitDefEqProofs only [go_sem,yk,zhR]
 | succ d ih =>
   intro k W a0 a2 a4 a5 a f o;have b : ((k : Int) < 1024) = True:=(by simp; omega);have i:=zyU (W:=W) (j:=k) (by omega);have l:=zyU (W:=B) (j:=k) (by omega);have c:=zIx (W:=W) (j:=k) (comb n m (W.getD k 0) (B.getD k 0)) (by omega);have hle:=zrE (show k < W.length by omega);have hw : Go.IntKind.i64.wrap ((k : Int) + 1) = ((k + 1 : Nat) : Int):=(by rw [wrap_i64] <;> omega);have:=ih (k + 1) (W.set k (comb n m (W.getD k 0) (B.getD k 0))) vU vU vU vU vU (by simpa using f) (by omega);rw [xl zdc rfl,zfc,zhR];unfold comb at c this ⊢;simp -implicitDefEqProofs only [go_sem,obW,zvL] at this c;simp -implicitDefEqProofs only [go_sem,obW,zvL,b,i,l,yg,yh,yt,c,hle,hw,this]
def za1 (W : List Int) : Nat → Nat → List (Int × Int)
 | 0,_ => []
 | d + 1,k => if W.getD k 0 = 0 then za1 W d (k + 1) else ((k : Int),W.getD k 0) :: za1 W d (k + 1)
theorem zGE (W : List Int) (p : W.length = 1025) (σ : zd) (id : Nat) (b : σ[id]? = some (obW W)) (l : Ok σ) (off : Int) : ∀ (d k : Nat) (acc : List (Int × Int)) (a4 a5 : V),acc.length ≤ k → d + k = 1024 →
  exec T zaX ⟨[.one (.ptr id 0 0 0),.one (.ptr σ.length 0 0 0),.one (.ptr (σ.length + 2) 0 0 0),vI k,a4,a5],σ ++ [zz2,.tok 2 [acc.length],.cells 0 2 [[.ap (σ.length + 1) 0 (rows acc),.f (.lit (.int .u64 off))]]],σ.length,σ.length⟩ =
   some (.exit 0,⟨[vU,.one (.ptr σ.length 0 0 0),.one (.ptr (σ.length + 2) 0 0 0),vU,vU,vU],σ ++ [zz2,.tok 2 [(acc ++ za1 W d k).length],.cells 0 2 [[.ap (σ.length + 1) 0 (rows (acc ++ za1 W d k)),.f (.lit (.int .u64 off))]]],σ.length,σ.length⟩):=by
 intro d;have a:=zc6 b;have h:=zgj b
 induction d with
 | zero =>
   intro k acc a4 a5 n o;have i : k = 1024:=(by omega);subst i;rw [xl zaX rfl,zcb];simp -implicitDefEqProofs only [go_sem,yk,za1]
 | succ d ih =>
   intro k acc a4 a5 n o;have i : ((k : Int) < 1024) = True:=(by simp; omega);have m:=zyU (W:=W) (j:=k) (by omega);have hw : Go.IntKind.i64.wrap ((k : Int) + 1) = ((k + 1 : Nat) : Int):=(by rw [wrap_i64] <;> omega);rw [xl zaX rfl,zcb,za1]
   by_cases c : W.getD k 0 = 0
   ·have:=ih (k + 1) acc vU vU (by omega) (by omega)
    simp -implicitDefEqProofs only [go_sem,obW] at this a;simp -implicitDefEqProofs only [go_sem,obW,i,a,m,c,yg,yh,yt,hw,Ok.up l,h,this]
   ·have e : acc ++ ((k : Int),W.getD k 0) :: za1 W d (k + 1) = (acc ++ [((k : Int),W.getD k 0)]) ++ za1 W d (k + 1):=by simp
    have g : acc.length + 1 ≤ LIM:=(by unfold LIM; omega);have:=ih (k + 1) (acc ++ [((k : Int),W.getD k 0)]) vU vU (by simp; omega) (by omega);rw [← e] at this;rw [← zvB] at this;simp -implicitDefEqProofs only [go_sem,obW] at this a;simp -implicitDefEqProofs only [go_sem,obW,i,a,m,c,yg,yh,yt,zp,g,hw,Ok.up l,h,this]
theorem zB4 (W : List Int) (e : W.length = 1025) (σ : zd) (id : Nat) (b : σ[id]? = some (obW W)) (c : Ok σ) : call T 142 [.one (.ptr id 0 0 0)] σ = some (fF (za1 W 1024 0) (W.getD 1024 0),σ):=by
 rw [ze (fn:=zc0) rfl];have a:=zc6 b;have d:=zyU (W:=W) (j:=1024) (by omega);have h:=fun a4 a5 => zGE W e σ id b c (W.getD 1024 0) 1024 0 [] a4 a5 (by simp) (by omega);simp only [List.nil_append,yi,zj] at h;simp -implicitDefEqProofs only [go_sem,obW] at h a;simp -implicitDefEqProofs only [go_sem,zc0,obW,a,d,h,fF,Ok.at c]
theorem ztm : ∀ (a : List (Int × Int)) (W : List Int) (last : Int),zg last a = true → 0 ≤ last → ∀ v : Nat,(v : Nat) < W.length → (zDf a W).getD v 0 = if (last < v ∧ cf a v ≠ 0) then cf a v else W.getD v 0
 | [],W,_,_,_,v,_ => by simp [zDf,cf]
 | t :: r,W,last,hm,h0,v,hv => by
   rw [zaK] at hm;obtain ⟨m1,m2,k,f⟩:=hm;rw [zDf,ztm r _ t.1 f (by omega) v (by simpa using hv)]
   by_cases e : t.1 = v
   ·have b : cf (t :: r) (v : Int) = t.2:=by simp only [cf]; rw [if_pos e]
    have i : cf r v = 0:=zlN r f (by omega);simp only [b,i,ne_eq,not_true_eq_false,and_false,if_false];rw [if_pos ⟨by omega,k⟩];have : t.1.toNat = v:=(by omega);rw [this];simp [hv]
   ·have b : cf (t :: r) (v : Int) = cf r v:=by simp only [cf]; rw [if_neg e]
    simp only [b];have g : t.1.toNat ≠ v:=(by omega);have j : (W.set t.1.toNat t.2).getD v 0 = W.getD v 0:=(by simp [yl g]);rw [j]
    by_cases c : cf r v = 0
    ·simp only [c,ne_eq,not_true_eq_false,and_false,if_false]
    ·have d : t.1 < v:=by
      by_cases h : (v : Int) ≤ t.1
      ·exact absurd (zlN r f h) c
      ·omega
     rw [if_pos ⟨d,c⟩,if_pos ⟨by omega,c⟩]
theorem zI4 {a : List (Int × Int)} (hm : zg 0 a = true) {v : Int} (h : cf a v ≠ 0) : 0 < v:=by
 by_cases c : v ≤ 0
 ·exact absurd (zlN a hm c) h
 ·omega
theorem zpw (a : List (Int × Int)) (off : Int) (hm : zg 0 a = true) (v : Nat) (d : v < 1024) : (zgS a off).getD v 0 = cf a v:=by
 have b : (W0 off).getD v 0 = 0:=by
  rw [W0,yb,yl (by omega),List.getElem?_replicate,if_pos (by omega)];rfl
 rw [zgS,ztm a _ 0 hm (yf 0) v (by rw [znP]; omega),b]
 by_cases c : cf a v = 0
 ·rw [if_neg (by simp [c]),c]
 ·rw [if_pos ⟨zI4 hm c,c⟩]
theorem zti {a : List (Int × Int)} : ∀ {last : Int},zg last a = true → ∀ {v : Int},1023 < v → cf a v = 0:=by
 induction a with
 | nil => intro _ _ v _; rfl
 | cons t r ih =>
   intro last hm v b;rw [zaK] at hm;simp only [cf];rw [if_neg (by omega)];exact ih hm.2.2.2 b
theorem zx5 (a : List (Int × Int)) (off : Int) (hm : zg 0 a = true) : (zgS a off).getD 1024 0 = off:=by
 rw [zgS,ztm a _ 0 hm (yf 0) 1024 (by rw [znP]; omega),if_neg (by rw [zti hm (by decide)]; simp)];rw [W0,yb,List.getElem?_set_self (by rw [yj]; omega)];rfl
theorem zix (W : List Int) : ∀ (d k : Nat) (last : Int),d + k ≤ 1024 → last < (k : Int) → zg last (za1 W d k) = true
 | 0,_,_,_,_ => rfl
 | d + 1,k,last,h1,h2 => by
   rw [za1];split
   ·exact zix W d (k + 1) last (by omega) (by omega)
   ·rename_i a
    rw [zaK];exact ⟨h2,by simp only; omega,a,zix W d (k + 1) _ (by omega) (by simp only; omega)⟩
theorem ztS (W : List Int) : ∀ (d k : Nat) (v : Nat),cf (za1 W d k) v = if k ≤ v ∧ v < k + d then W.getD v 0 else 0
 | 0,k,v => by rw [za1,if_neg (by omega)]; rfl
 | d + 1,k,v => by
   rw [za1];split
   ·rename_i a
    rw [ztS W d (k + 1) v]
    by_cases e : k = v
    ·subst e
     rw [if_neg (by omega),if_pos (by omega),a]
    ·by_cases c : k + 1 ≤ v ∧ v < k + 1 + d
     ·rw [if_pos c,if_pos (by omega)]
     ·rw [if_neg c,if_neg (by omega)]
   ·simp only [cf]
    by_cases e : k = v
    ·subst e
     rw [if_pos rfl,if_pos (by omega)]
    ·rw [if_neg (by omega),ztS W d (k + 1) v]
     by_cases c : k + 1 ≤ v ∧ v < k + 1 + d
     ·rw [if_pos c,if_pos (by omega)]
     ·rw [if_neg c,if_neg (by omega)]
end AC
namespace AC
open Go Go.A
set_option maxRecDepth 100000
theorem zwV : zgi T (z6 T 20000) 32 [] [] = some (zi4 true,[]):=by kernel_rfl
theorem zGu : call T 32 [] [] = some (zi4 true,[]):=zlF T 20000 _ _ _ _ zwV
end AC
