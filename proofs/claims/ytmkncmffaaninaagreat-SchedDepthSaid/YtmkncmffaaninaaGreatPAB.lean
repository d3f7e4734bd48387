/- A part of the proof of SchedDepth. Conditions: none. -/
import Derived.Test.YtmkncmffaaninaaGreatPAA
import Derived.Laws.Small
import Derived.ChangeKeysEq
import Derived.Deep.MidRow
import Derived.Laws.AppendOwn
import Derived.Laws.MakeOwn
set_option linter.unusedVariables false
set_option linter.unusedSimpArgs false
set_option linter.unusedSectionVars false
open Option renaming map_eq_some_iff → ya,bind_eq_some_iff → yc,getD_some → yz,map_some → yC
open List renaming replicate → yb,getElem?_append_left → ye,mem_of_getElem? → yf,getElem?_eq_getElem → yg,getElem?_map → yh,getElem?_range → yi,getElem?_drop → yk,range → yl,getElem?_take → yq,mem_iff_getElem? → yv,getElem?_replicate → yA,append_assoc → yB,map_cons → yD,replicate_succ' → yE,mem_range → yG,mem_replicate → yH,getElem?_set → yJ,getElem_mem → yK,all_eq_true → yL,mem_map → yN,mem_cons → yR
open Nat renaming le_refl → yd,add_assoc → ym,add_sub_cancel_left → yx,eq_zero_or_pos → yF,add_zero → yI,add_mul → yM,lt_irrefl → yQ,zero_add → yS,zero_le → yU
open Array renaming getElem?_setIfInBounds → yj,getD_eq_getD_getElem? → yn,getElem?_toList → yo,length_toList → yr,toArray_toList → yw,getElem?_eq_getElem → yy,range → yP
open Bool renaming and_eq_true → yp,or_eq_true → yO
open Int renaming mul_le_mul_of_nonneg_right → yu,le_refl → yT
namespace Go.A
def zhI (P : Program) (t : TypeId) : Option Nat:=(P.info? t).map (·.size)
def zjL (P : Program) (t : TypeId) : Option Bool:=(P.underlying t).map fun d => match d with
 | .struct _ | .array _ _ => true
 | _ => false
section
variable {P : Program} {κ : List Tmp} {loc : List (Option Tmp)} {nt : Nat} {g : G} {w : World} {r r' : R} {a : Act} {o : Go.Oper} {d : D} {next : Act → World → Prop} {Q : Exit → Act → World → Prop}
theorem zmw {u : Value} {w' : World} (h : (execOp a.eval o).run P w = .ok (.value u) w') (k : next (a.put o.dst u) w') : o.wp P a w next Q:=by
 unfold Oper.wp
 rw [h]
 exact k
theorem zBY {w' : World} (h : (execOp a.eval o).run P w = .ok .skip w') (k : next (a.put o.dst undef) w') : o.wp P a w next Q:=by
 unfold Oper.wp
 rw [h]
 exact k
theorem zeU (r : R) (d : D) (v : V) : (r.put d v).st = r.st:=by cases d <;> rfl
theorem zA {σ : zd} {v u : Value} (h : zf g w σ (.one (.f (.lit v))) u) : u = v ∧ zxD v = true:=by
 simpa only [zf,zw,rep] using h
theorem zt {σ : zd} {v : Value} (h : zxD v = true) : zf g w σ (.one (.f (.lit v))) v:=by
 rw [zf,zw,rep]
 exact ⟨rfl,h⟩
theorem zpV (op : BinOp) (t : TypeId) (x y : Operand) (yt : TypeId) (ho : o.op = .binOp op t x y yt) {k k' : IntKind} {m n : Int} (hx : a.eval x = .int k m) (hy : a.eval y = .int k' n) :
  (execOp a.eval o).run P w = ((do let v ← binOp op t (.int k m) (.int k' n); pure (Next.value v) : Sem Next)).run P w:=by
 unfold execOp
 simp only [ho,hx,hy,eqGuard]
 cases op <;> simp
theorem zxn {op : BinOp} {t : TypeId} {x y : Operand} {yt : TypeId} (ho : o.op = .binOp op t x y yt) {vx vy v : V} (hx : zf g w r.st vx (a.eval x)) (hy : zf g w r.st vy (a.eval y)) (h : zEW op vx vy = some v) :
  ∃ u,(execOp a.eval o).run P w = .ok (.value u) w ∧ zf g w r.st v u:=by
 unfold zEW at h
 split at h
 ·rename_i k m k' n
  obtain ⟨ex,_⟩:=zA hx
  obtain ⟨ey,_⟩:=zA hy
  rw [zpV op t x y yt ho ex ey]
  split at h
  ·rename_i hs
   unfold zzg at h
   split at h
   ·rename_i h0
    have h0' : ¬ n < 0:=by omega
    cases op <;> simp [zsi] at hs <;> simp only [Option.some.injEq] at h <;> subst h <;>
     exact ⟨_,by simp [binOp,Op.shift,h0'],zt rfl⟩
   ·cases h
  ·rename_i hs
   split at h
   ·rename_i hk
    subst hk
    unfold zFw at h
    cases op <;> simp [zsi] at hs <;> simp only at h
    case quo =>
     split at h
     ·cases h
     ·rename_i h0
      injection h with h
      subst h
      exact ⟨_,by simp [binOp,Op.intDiv,h0],zt rfl⟩
    case rem =>
     split at h
     ·cases h
     ·rename_i h0
      injection h with h
      subst h
      exact ⟨_,by simp [binOp,Op.intDiv,h0],zt rfl⟩
    case andNot => cases h
    all_goals
     injection h with h
     subst h
     refine ⟨_,?_,zt rfl⟩
     simp [binOp,Op.intArith,Op.intBits,Op.intCmp]
    all_goals (by_cases e : m = n <;> simp [e])
   ·cases h
 ·cases h
theorem zoa {x : Operand} (ho : o.op = .move x ∨ o.op = .assign x) : (execOp a.eval o).run P w = .ok (.value (a.eval x)) w:=by
 unfold execOp
 rcases ho with ho | ho <;> simp [ho]
theorem zxu {c x y : Operand} (ho : o.op = .pick c x y) {vc vx vy v : V} (hc : zf g w r.st vc (a.eval c)) (hx : zf g w r.st vx (a.eval x)) (hy : zf g w r.st vy (a.eval y)) (h : zAZ vx vy vc = some v) :
  ∃ u,(execOp a.eval o).run P w = .ok (.value u) w ∧ zf g w r.st v u:=by
 unfold zAZ at h
 split at h
 ·rename_i t
  obtain ⟨ec,_⟩:=zA hc
  injection h with h
  subst h
  refine ⟨if t then a.eval x else a.eval y,?_,?_⟩
  ·unfold execOp
   simp [ho,ec,asBool]
  ·cases t
   ·simpa using hy
   ·simpa using hx
 ·cases h
theorem zy1 {op : UnOp} {t : TypeId} {x : Operand} (ho : o.op = .unOp op t x) {vx v : V} (hx : zf g w r.st vx (a.eval x)) (h : aun op vx = some v) :
  ∃ u,(execOp a.eval o).run P w = .ok (.value u) w ∧ zf g w r.st v u:=by
 unfold aun at h
 split at h
 ·obtain ⟨ex,_⟩:=zA hx
  injection h with h
  subst h
  exact ⟨_,by unfold execOp; simp [ho,ex,Op.unary],zt rfl⟩
 ·obtain ⟨ex,_⟩:=zA hx
  injection h with h
  subst h
  exact ⟨_,by unfold execOp; simp [ho,ex,Op.unary,Op.intArith],zt rfl⟩
 ·cases h
theorem zwN {k : IntKind} {s t : TypeId} {x : Operand} (ho : o.op = .convert s t x) (hs : (P.underlying s).isSome = true) (ht : P.underlying t = some (.int k)) {vx v : V} (hx : zf g w r.st vx (a.eval x)) (h : zBW k vx = some v) :
  ∃ u,(execOp a.eval o).run P w = .ok (.value u) w ∧ zf g w r.st v u:=by
 unfold zBW at h
 split at h
 ·obtain ⟨ex,_⟩:=zA hx
  injection h with h
  subst h
  obtain ⟨ds,hs⟩:=Option.isSome_iff_exists.1 hs
  exact ⟨_,by unfold execOp; simp [ho,ex,convert,run_underlying hs,run_underlying ht,Conv.intToInt],zt rfl⟩
 ·cases h
theorem zrn {σ : zd} {xs : List (List Fz)} {u : Value} (h : zf g w σ (.one (.f (.sl xs))) u) : rep w g.N (.sl xs) u:=by simpa only [zf,zw] using h
theorem zrd {σ : zd} {t k : Nat} {xs : List (List Fz)} {u : Value} (h : zf g w σ (.one (.ap t k xs)) u) : rep w g.N (.sl xs) u:=by
 simp only [zf,zw] at h
 exact h.1
theorem zjq {N : zf0} {xs : List (List Fz)} {u : Value} (h : rep w N (.sl xs) u) : ∃ a c,u = .slice a xs.length c ∧ xs.length ≤ c:=by
 simp only [rep] at h
 obtain ⟨a,c,_,e,hc,_⟩:=h
 exact ⟨a,c,e,hc⟩
theorem zfP {σ : zd} {id ver lo n : Nat} {u : Value} (h : zf g w σ (.one (.own id ver lo n)) u) {sz : Nat} {es : List (List C)} (ho : σ[id]? = some (.cells ver sz es)) : zzi w (g.ρ id) sz es.length lo n u:=by
 simp only [zf,zw] at h
 obtain ⟨v0,sz0,len,h1,_,h3,_⟩:=h
 rw [zn ho] at h1
 injection h1 with h1
 injection h1 with e1 h1
 injection h1 with e2 e3
 subst e1 e2 e3
 exact h3 rfl
theorem zw2 {σ : zd} {v : V} {u : Value} {n : V} (h : zf g w σ v u) (hv : zEz v = some n) : ∃ b k c,u = .slice b k c ∧ n = zCh .i64 k:=by
 unfold zEz at hv
 split at hv
 ·simp only [zf,zw] at h
  obtain ⟨_,_,_,_,_,_,b,c,e⟩:=h
  injection hv with hv
  exact ⟨b,_,c,e,hv.symm⟩
 ·obtain ⟨b,c',e,_⟩:=zjq (zrn h)
  injection hv with hv
  exact ⟨b,_,c',e,hv.symm⟩
 ·obtain ⟨b,c',e,_⟩:=zjq (zrd h)
  injection hv with hv
  exact ⟨b,_,c',e,hv.symm⟩
 ·cases hv
theorem zzq {t : TypeId} {x : Operand} {c : Go.Call} (ho : o.op = .call c) (hc : c.callee = .builtin .len) (hx' : c.args = #[x]) (ht' : c.argTypes = #[t]) {e : TypeId} (ht : P.underlying t = some (.slice e))
  {vx v : V} (hx : zf g w r.st vx (a.eval x)) (h : zEz vx = some v) :
  ∃ u,(execOp a.eval o).run P w = .ok (.value u) w ∧ zf g w r.st v u:=by
 obtain ⟨b,k,c',e,rfl⟩:=zw2 hx h
 refine ⟨.int .i64 k,?_,zt rfl⟩
 unfold execOp
 simp [ho,resolve,hc,hx',ht',e,invoke,builtin,Builtin.len_,run_underlying ht,goInt]
theorem zwE {t : TypeId} {x : Operand} {c : Go.Call} (ho : o.op = .call c) (hc : c.callee = .builtin .len) (hx' : c.args = #[x]) (ht' : c.argTypes = #[t]) (ht : P.underlying t = some .string)
  {vx v : V} (hx : zf g w r.st vx (a.eval x)) (h : zAI vx = some v) :
  ∃ u,(execOp a.eval o).run P w = .ok (.value u) w ∧ zf g w r.st v u:=by
 unfold zAI at h
 split at h
 ·rename_i s
  obtain ⟨ex,_⟩:=zA hx
  injection h with h
  subst h
  refine ⟨.int .i64 s.size,?_,zt rfl⟩
  unfold execOp
  simp [ho,resolve,hc,hx',ht',ex,invoke,builtin,Builtin.len_,run_underlying ht,goInt]
 ·cases h
theorem zuE {t : TypeId} {fs : Array Field} {i : Nat} {f : Field} {ad : Addr} {n : Nat} (ht : P.underlying t = some (.struct fs)) (hf : fs[i]? = some f) (hs : zhI P f.type = some n) (hn : n ≠ 0) :
  (Instr.fieldAt t (.pointer (some ad)) i).run P w = .ok (.pointer (some (ad.add f.offset))) w:=by
 unfold zhI at hs
 cases hq : P.info? f.type with
 | none => simp [hq] at hs
 | some inf =>
   have hsz : inf.size = n:=by simpa [hq] using hs
   simp [Instr.fieldAt,run_underlying ht,hf,Instr.sureAddr,fieldPlace,sizeOf,typeInfo,hq,hsz,hn]
theorem zaA (b o j : Nat) : (⟨b,o,none⟩ : Addr).add j = ⟨b,o + j,none⟩:=by unfold Addr.add; split <;> simp_all
theorem zAL {t : TypeId} {x : Operand} {i n off : Nat} {fs : Array Field} {f : Field} (ho : o.op = .fieldAddr t x i) (ht : P.underlying t = some (.struct fs)) (hf : fs[i]? = some f) (hs : zhI P f.type = some n) (hn : n ≠ 0) (hoff : f.offset = off)
  {vx v : V} (hx : zf g w r.st vx (a.eval x)) (h : afa off vx = some v) :
  ∃ u,(execOp a.eval o).run P w = .ok (.value u) w ∧ zf g w r.st v u:=by
 have key : ∀ ad,a.eval x = .pointer (some ad) → (execOp a.eval o).run P w = .ok (.value (.pointer (some (ad.add off)))) w:=fun ad e => by
  unfold execOp
  simp only [ho,e]
  simp [zuE (w:=w) (ad:=ad) ht hf hs hn,hoff]
 unfold afa at h
 split at h
 ·rename_i id ver j o'
  injection h with h
  subst h
  simp only [zf,zw] at hx
  obtain ⟨v0,sz,len,h1,h2,h3,ad,h4⟩:=hx
  refine ⟨_,key ad h4,?_⟩
  simp only [zf,zw]
  refine ⟨v0,sz,len,h1,h2,fun e => ?_,_,rfl⟩
  have:=h3 e
  rw [h4] at this
  injection this with this
  injection this with this
  rw [this,zaA,ym]
 ·rename_i cs o'
  injection h with h
  subst h
  simp only [zf,zw] at hx
  obtain ⟨b,oo,h1,h2⟩:=hx
  refine ⟨_,key _ h1,?_⟩
  simp only [zf,zw]
  exact ⟨b,oo,by rw [zaA,ym],h2⟩
 ·cases h
theorem zo9 {t e : TypeId} {k : IntKind} {n : Int} {ad : Addr} {len cap sz : Nat} (ht : P.underlying t = some (.slice e)) (hs : zhI P e = some sz) (h0 : 0 ≤ n) (h1 : n < len) :
  (Instr.indexAt t (.slice (some ad) len cap) (.int k n)).run P w = .ok (.pointer (some (ad.add (n.toNat * sz)))) w:=by
 unfold zhI at hs
 cases hq : P.info? e with
 | none => simp [hq] at hs
 | some inf =>
   have hsz : inf.size = sz:=by simpa [hq] using hs
   simp [Instr.indexAt,asIntOf,run_underlying ht,h0,h1,sizeOf,typeInfo,hq,hsz]
theorem zpR {t e : TypeId} {k : IntKind} {n : Int} {ad : Addr} {len sz : Nat} (ht : P.underlying t = some (.array len e)) (hs : zhI P e = some sz) (h0 : 0 ≤ n) (h1 : n < len) :
  (Instr.indexAt t (.pointer (some ad)) (.int k n)).run P w = .ok (.pointer (some (ad.add (n.toNat * sz)))) w:=by
 unfold zhI at hs
 cases hq : P.info? e with
 | none => simp [hq] at hs
 | some inf =>
   have hsz : inf.size = sz:=by simpa [hq] using hs
   simp [Instr.indexAt,asIntOf,run_underlying ht,h0,h1,sizeOf,typeInfo,hq,hsz,Instr.sureAddr]
theorem zkf {ver sz : Nat} {ob : Ob} (h : ob.isRow ver sz = true) : ∃ es,ob = .cells ver sz es:=by
 unfold Ob.isRow at h
 split at h
 ·simp at h
  obtain ⟨rfl,rfl⟩:=h
  exact ⟨_,rfl⟩
 ·cases h
theorem zsy {t e : TypeId} {x i : Operand} {sz : Nat} (ho : o.op = .indexAddr t x i) (ht : P.underlying t = some (.slice e)) (hs : zhI P e = some sz) {xs : List (List Fz)} {k : IntKind} {n : Int} (hx : rep w g.N (.sl xs) (a.eval x)) (hi : a.eval i = .int k n)
  {v : V} (h0 : 0 ≤ n) (h : (xs[n.toNat]?).bind (zEM sz) = some v) : ∃ u,(execOp a.eval o).run P w = .ok (.value u) w ∧ zf g w r.st v u:=by
 rw [yc] at h
 obtain ⟨el,h1,h2⟩:=h
 unfold zEM at h2
 split at h2
 ·rename_i hel
  injection h2 with h2
  subst h2
  simp only [rep] at hx
  obtain ⟨ad,c,sz',e1,e2,e3,e4⟩:=hx
  rcases e4 with rfl | ⟨b,oo,rfl,e4⟩
  ·simp at h1
  ·have hlt:=zb h1
   have hsz : sz' = sz:=by rw [← zbQ e3 h1,hel]
   subst hsz
   refine ⟨.pointer (some ⟨b,oo + n.toNat * sz',none⟩),?_,?_⟩
   ·unfold execOp
    simp only [ho,e1,hi]
    simp [zo9 (w:=w) (ad:=⟨b,oo,none⟩) (cap:=c) ht hs h0 (by omega : n < (xs.length : Int)),zaA]
   ·simp only [vfp,zf,zw]
    exact ⟨b,oo + n.toNat * sz',rfl,zfd e4 h1⟩
 ·cases h2
theorem zAQ {t e : TypeId} {x i : Operand} {sz : Nat} (ho : o.op = .indexAddr t x i) (ht : P.underlying t = some (.slice e)) (hs : zhI P e = some sz)
  {vx vi v : V} (hx : zf g w r.st vx (a.eval x)) (hi : zf g w r.st vi (a.eval i)) (h : aia r.st sz vx vi = some v) :
  ∃ u,(execOp a.eval o).run P w = .ok (.value u) w ∧ zf g w r.st v u:=by
 unfold aia at h
 split at h
 ·rename_i id ver lo n k m
  obtain ⟨ei,_⟩:=zA hi
  split at h
  ·rename_i hm
   rw [yc] at h
   obtain ⟨ob,h1,h2⟩:=h
   unfold ztT at h2
   split at h2
   ·rename_i hrow
    injection h2 with h2
    subst h2
    obtain ⟨es,rfl⟩:=zkf hrow
    obtain ⟨ad,c,e1,e2,e3,e4⟩:=zfP hx h1
    have hne : es.length ≠ 0:=fun h0 => by have:=e3 h0; omega
    obtain ⟨f1,f2,_⟩:=e4 hne
    have f3:=f2 (by omega)
    subst f3
    refine ⟨.pointer (some ⟨g.ρ id,lo * sz + m.toNat * sz,none⟩),?_,?_⟩
    ·unfold execOp
     simp only [ho,e1,ei]
     simp [zo9 (w:=w) (ad:=⟨g.ρ id,lo * sz,none⟩) (cap:=c) ht hs hm.1 hm.2,zaA]
    ·simp only [zf,zw]
     exact ⟨ver,sz,es.length,zn h1,yd _,fun _ => by rw [yM,yI],_,rfl⟩
   ·cases h2
  ·cases h
 ·obtain ⟨ei,_⟩:=zA hi
  split at h
  ·rename_i h0
   exact zsy ho ht hs (zrn hx) ei h0 h
  ·cases h
 ·obtain ⟨ei,_⟩:=zA hi
  split at h
  ·rename_i h0
   exact zsy ho ht hs (zrd hx) ei h0 h
  ·cases h
 ·cases h
theorem zyi {t e : TypeId} {x i : Operand} {len sz : Nat} (ho : o.op = .indexAddr t x i) (ht : P.underlying t = some (.array len e)) (hs : zhI P e = some sz)
  {vx vi v : V} (hx : zf g w r.st vx (a.eval x)) (hi : zf g w r.st vi (a.eval i)) (h : zES len sz vx vi = some v) :
  ∃ u,(execOp a.eval o).run P w = .ok (.value u) w ∧ zf g w r.st v u:=by
 have key : ∀ ad k m,a.eval x = .pointer (some ad) → a.eval i = .int k m → 0 ≤ m ∧ m < len → (execOp a.eval o).run P w = .ok (.value (.pointer (some (ad.add (m.toNat * sz))))) w:=fun ad k m e e' hm => by
  unfold execOp
  simp only [ho,e,e']
  simp [zpR (w:=w) (ad:=ad) ht hs hm.1 hm.2]
 unfold zES at h
 split at h
 ·obtain ⟨ei,_⟩:=zA hi
  split at h
  ·rename_i hm
   injection h with h
   subst h
   simp only [zf,zw] at hx
   obtain ⟨v0,sz0,len0,h1,h2,h3,ad,h4⟩:=hx
   refine ⟨_,key ad _ _ h4 ei hm,?_⟩
   simp only [zf,zw]
   refine ⟨v0,sz0,len0,h1,h2,fun e => ?_,_,rfl⟩
   have:=h3 e
   rw [h4] at this
   injection this with this
   injection this with this
   rw [this,zaA,ym]
  ·cases h
 ·obtain ⟨ei,_⟩:=zA hi
  split at h
  ·rename_i hm
   injection h with h
   subst h
   simp only [zf,zw] at hx
   obtain ⟨b,oo,h1,h2⟩:=hx
   refine ⟨_,key _ _ _ h1 ei hm,?_⟩
   simp only [zf,zw]
   exact ⟨b,oo,by rw [zaA,ym],h2⟩
  ·cases h
 ·cases h
end
end Go.A
namespace Go.A
section
variable {P : Program} {κ : List Tmp} {loc : List (Option Tmp)} {nt : Nat} {g : G} {w : World} {r r' : R} {a : Act} {o : Go.Oper} {d : D} {next : Act → World → Prop} {Q : Exit → Act → World → Prop}
theorem zw1 {v : V} {u : Value} {n : Nat} {σ : zd} (hv : zf g w σ v u) (h : zAz v = some n) : ∃ k,u = .int k (n : Int):=by
 unfold zAz at h
 split at h
 ·rename_i k m
  split at h
  ·injection h with h
   obtain ⟨e,_⟩:=zA hv
   exact ⟨k,by rw [e,← h,Int.toNat_of_nonneg (by assumption)]⟩
  ·cases h
 ·cases h
theorem run_sliceBound {k : IntKind} {n y : Nat} (c : BoundsCode) (h : n ≤ y) : (Instr.sliceBound (.int k n) y c).run P w = .ok n w:=by
 have h1 : (n : Int) ≤ (y : Int):=by omega
 simp [Instr.sliceBound,asIntOf,h1]
theorem zgK (b : Bool) {len cap lo hi : Nat} {vlo vhi vmx : Option Value} (hlo : (vlo = none ∧ lo = 0) ∨ ∃ k,vlo = some (.int k lo)) (hhi : (vhi = none ∧ vmx = none ∧ hi = len) ∨ ∃ k,vhi = some (.int k hi))
  (hmx : vmx = none ∨ vmx = vhi) (h1 : lo ≤ hi) (h2 : hi ≤ cap) :
  (Instr.sliceBounds b len cap vlo vhi vmx).run P w = .ok (lo,hi,if vmx.isSome then hi else cap) w:=by
 rcases hmx with rfl | rfl
 ·rcases hhi with ⟨rfl,_,rfl⟩ | ⟨k,rfl⟩
  ·rcases hlo with ⟨rfl,rfl⟩ | ⟨k',rfl⟩
   ·simp [Instr.sliceBounds]
   ·simp [Instr.sliceBounds,run_sliceBound _ h1]
  ·rcases hlo with ⟨rfl,rfl⟩ | ⟨k',rfl⟩
   ·simp [Instr.sliceBounds,run_sliceBound _ h2]
   ·simp [Instr.sliceBounds,run_sliceBound _ h1,run_sliceBound _ h2]
 ·rcases hhi with ⟨rfl,_,rfl⟩ | ⟨k,rfl⟩
  ·rcases hlo with ⟨rfl,rfl⟩ | ⟨k',rfl⟩
   ·simp [Instr.sliceBounds]
   ·simp [Instr.sliceBounds,run_sliceBound _ h1]
  ·rcases hlo with ⟨rfl,rfl⟩ | ⟨k',rfl⟩
   ·simp [Instr.sliceBounds,run_sliceBound _ h2,run_sliceBound _ (yd hi)]
   ·simp [Instr.sliceBounds,run_sliceBound _ h1,run_sliceBound _ h2,run_sliceBound _ (yd hi)]
theorem zub {t e : TypeId} {len cap lo hi sz : Nat} {ad : Option Addr} {vlo vhi vmx : Option Value} (ht : P.underlying t = some (.slice e)) (hs : zhI P e = some sz) (hlo : (vlo = none ∧ lo = 0) ∨ ∃ k,vlo = some (.int k lo)) (hhi : (vhi = none ∧ vmx = none ∧ hi = len) ∨ ∃ k,vhi = some (.int k hi))
  (hmx : vmx = none ∨ vmx = vhi) (h1 : lo ≤ hi) (h2 : hi ≤ cap) :
  (Instr.sliceAt t (.slice ad len cap) vlo vhi vmx).run P w = .ok (.slice (if (if vmx.isSome then hi else cap) = lo then ad else ad.map (·.add (lo * sz))) (hi - lo) ((if vmx.isSome then hi else cap) - lo)) w:=by
 unfold zhI at hs
 cases hq : P.info? e with
 | none => simp [hq] at hs
 | some inf =>
   have hsz : inf.size = sz:=by simpa [hq] using hs
   simp [Instr.sliceAt,Instr.slice,run_underlying ht,zgK (w:=w) (P:=P) true hlo hhi hmx h1 h2,sizeOf,typeInfo,hq,hsz]
theorem zp0 {t : TypeId} {lo hi : Nat} {s : ByteArray} {vlo vhi : Option Value} (ht : P.underlying t = some .string) (hlo : (vlo = none ∧ lo = 0) ∨ ∃ k,vlo = some (.int k lo)) (hhi : (vhi = none ∧ hi = s.size) ∨ ∃ k,vhi = some (.int k hi))
  (h1 : lo ≤ hi) (h2 : hi ≤ s.size) :
  (Instr.sliceAt t (.string s) vlo vhi none).run P w = .ok (.string (s.extract lo hi)) w:=by
 have:=zgK (w:=w) (P:=P) false (len:=s.size) (cap:=s.size) (vmx:=none) hlo (hhi.imp (fun h => ⟨h.1,rfl,h.2⟩) id) (.inl rfl) h1 h2
 simp [Instr.sliceAt,Instr.slice,run_underlying ht,this]
theorem zsT {N : zf0} {xs : List (List Fz)} {ad : Option Addr} {c lo hi m sz : Nat} (h : rep w N (.sl xs) (.slice ad xs.length c)) (hsz : ∀ e ∈ xs,e.length = sz) (h1 : lo ≤ hi) (h2 : hi ≤ xs.length) (hm : hi ≤ m) :
  rep w N (.sl ((xs.take hi).drop lo)) (.slice (if m = lo then ad else ad.map (·.add (lo * sz))) (hi - lo) (m - lo)):=by
 have hlen : ((xs.take hi).drop lo).length = hi - lo:=by simp; omega
 simp only [rep] at h ⊢
 obtain ⟨ad',c',sz',e1,e2,e3,e4⟩:=h
 injection e1 with e1 _ _
 subst e1
 rw [hlen]
 refine ⟨_,_,sz,rfl,by omega,zdm fun e he => hsz e (List.mem_of_mem_take (List.mem_of_mem_drop he)),?_⟩
 by_cases hz : lo = hi
 ·left
  exact List.eq_nil_of_length_eq_zero (by omega)
 ·right
  have hne : m ≠ lo:=by omega
  rw [if_neg hne]
  rcases e4 with rfl | ⟨b,oo,rfl,e4⟩
  ·simp at h2; omega
  ·have hzz : sz' = sz:=by
    have h0 : 0 < xs.length:=by omega
    rw [← zbQ e3 (yg h0)]
    exact hsz _ (yK h0)
   subst hzz
   refine ⟨b,oo + lo * sz',by simp [zaA],zeA fun i e hi' => ?_⟩
   rw [yk,yq] at hi'
   split at hi'
   ·have:=zfd e4 hi'
    rwa [yM,← ym] at this
   ·cases hi'
theorem zki {loX : Option Go.Operand} {x : Option X} {dflt n : Nat} (hx : ∀ y,x = some y → ∃ y',loX = some y' ∧ zf g w r.st (r.get y) (a.eval y')) (hn : x = none → loX = none) (h : bound r dflt x = some n) :
  (loX.map a.eval = none ∧ n = dflt) ∨ ∃ k,loX.map a.eval = some (.int k n):=by
 cases x with
 | none => simp [bound] at h; left; simp [hn rfl,h]
 | some y =>
   obtain ⟨y',e,hv⟩:=hx y rfl
   obtain ⟨k,hk⟩:=zw1 hv h
   right
   exact ⟨k,by simp [e,hk]⟩
theorem zlJ {f : Nat → Nat → Option V} {x y : Option Nat} {v : V} (h : two f x y = some v) : ∃ m n,x = some m ∧ y = some n ∧ f m n = some v:=by
 unfold two at h
 split at h
 ·exact ⟨_,_,rfl,rfl,h⟩
 ·cases h
theorem zj2 {sz : Nat} : ∀ {xs : List (List Fz)},znw sz xs = true → ∀ e ∈ xs,e.length = sz
 | [],_,e,he => by simp at he
 | x :: xs,h,e,he => by
   simp only [znw,yp,decide_eq_true_eq] at h
   rcases yR.1 he with rfl | he
   ·exact h.1
   ·exact zj2 h.2 e he
def Opt (g : G) (w : World) (r : R) (a : Act) (x : Option Operand) (y : Option X) : Prop:=(∀ z,y = some z → ∃ z',x = some z' ∧ zf g w r.st (r.get z) (a.eval z')) ∧ (y = none → x = none)
theorem zy4 {t e : TypeId} {sz : Nat} {x : Operand} {lo hi mx : Option Operand} {lo' hi' : Option X} {third : Bool} (ho : o.op = .slice t x lo hi mx) (ht : P.underlying t = some (.slice e)) (hs : zhI P e = some sz)
  (hlo : Opt g w r a lo lo') (hhi : Opt g w r a hi hi') (hmx : (mx = none ∧ third = false) ∨ (third = true ∧ hi'.isSome = true ∧ mx.map a.eval = hi.map a.eval))
  {vx v : V} (hx : zf g w r.st vx (a.eval x)) (h : zEt r sz lo' hi' third vx = some v) :
  ∃ u,(execOp a.eval o).run P w = .ok (.value u) w ∧ zf g w r.st v u:=by
 have key : ∀ {ad : Option Addr} {len cap l h' : Nat},a.eval x = .slice ad len cap → bound r 0 lo' = some l → bound r len hi' = some h' → l ≤ h' → h' ≤ cap →
   ∃ m,h' ≤ m ∧ (third = false → m = cap) ∧ (execOp a.eval o).run P w = .ok (.value (.slice (if m = l then ad else ad.map (·.add (l * sz))) (h' - l) (m - l))) w:=by
  intro ad len cap l h' ex hl hh h1 h2
  have b1:=zki (a:=a) hlo.1 hlo.2 hl
  have b2:=zki (a:=a) hhi.1 hhi.2 hh
  have bb : (hi.map a.eval = none ∧ mx.map a.eval = none ∧ h' = len) ∨ ∃ k,hi.map a.eval = some (.int k h'):=by
   rcases b2 with ⟨b2,b3⟩ | b2
   ·rcases hmx with ⟨rfl,_⟩ | ⟨_,hs',em⟩
    ·exact .inl ⟨b2,rfl,b3⟩
    ·exact .inl ⟨b2,by rw [em]; exact b2,b3⟩
   ·exact .inr b2
  have bm : mx.map a.eval = none ∨ mx.map a.eval = hi.map a.eval:=by
   rcases hmx with ⟨rfl,_⟩ | ⟨_,_,em⟩
   ·exact .inl rfl
   ·exact .inr em
  have hrun:=zub (P:=P) (w:=w) (ad:=ad) ht hs b1 bb bm h1 h2
  refine ⟨if (mx.map a.eval).isSome = true then h' else cap,?_,?_,?_⟩
  ·split <;> omega
  ·intro hf
   rcases hmx with ⟨rfl,_⟩ | ⟨h,_⟩
   ·simp
   ·rw [hf] at h; cases h
  ·unfold execOp
   simp only [ho,ex,Sem.run_bind,hrun,Result.andThen_ok,Sem.run_pure]
 unfold zEt at h
 split at h
 ·rename_i xs
  obtain ⟨l,h',hl,hh,h1⟩:=zlJ h
  unfold zya at h1
  split at h1
  ·rename_i hc
   injection h1 with h1
   subst h1
   have hr:=zrn hx
   obtain ⟨ad,c,e1,e2⟩:=zjq hr
   rw [e1] at hr
   obtain ⟨m,k1,_,k3⟩:=key e1 hl hh hc.1 (by omega)
   refine ⟨_,k3,?_⟩
   simp only [vsl,zf,zw]
   exact zsT hr (zj2 hc.2.2) hc.1 hc.2.1 k1
  ·cases h1
 ·rename_i xs
  obtain ⟨l,h',hl,hh,h1⟩:=zlJ h
  unfold zya at h1
  split at h1
  ·rename_i hc
   injection h1 with h1
   subst h1
   have hr:=zrd hx
   obtain ⟨ad,c,e1,e2⟩:=zjq hr
   rw [e1] at hr
   obtain ⟨m,k1,_,k3⟩:=key e1 hl hh hc.1 (by omega)
   refine ⟨_,k3,?_⟩
   simp only [vsl,zf,zw]
   exact zsT hr (zj2 hc.2.2) hc.1 hc.2.1 k1
  ·cases h1
 ·rename_i id ver l0 n
  split at h
  ·cases h
  ·rename_i hth
   obtain ⟨l,h',hl,hh,h1⟩:=zlJ h
   unfold zAk at h1
   split at h1
   ·rename_i hc
    injection h1 with h1
    subst h1
    obtain ⟨c1,c2,c3⟩:=hc
    cases hob : r.st[id]? with
    | none => simp [hob] at c3
    | some ob =>
      simp [hob] at c3
      obtain ⟨es,rfl⟩:=zkf c3
      obtain ⟨ad,c,e1,e2,e3,e4⟩:=zfP hx hob
      obtain ⟨m,k1,k2,k3⟩:=key e1 hl hh c1 (by omega)
      have hm:=k2 (by simpa using hth)
      subst hm
      refine ⟨_,k3,?_⟩
      simp only [zf,zw]
      refine ⟨ver,sz,es.length,zn hob,yd _,fun _ => ⟨_,_,rfl,by omega,fun h0 => by have:=e3 h0; omega,fun h0 => ?_⟩,_,_,rfl⟩
      obtain ⟨f1,f2,arr,ty,f3,f4⟩:=e4 h0
      refine ⟨by omega,fun hne => ?_,arr,ty,f3,?_⟩
      ·rw [if_neg (by omega),f2 (by omega)]
       simp [zaA,yM]
      ·have : (l0 + l + (m - l)) = l0 + m:=by omega
       rw [this]; exact f4
   ·cases h1
 ·cases h
theorem zxs {t : TypeId} {x : Operand} {lo hi : Option Operand} {lo' hi' : Option X} (ho : o.op = .slice t x lo hi none) (ht : P.underlying t = some .string)
  (hlo : Opt g w r a lo lo') (hhi : Opt g w r a hi hi') {vx v : V} (hx : zf g w r.st vx (a.eval x)) (h : zuz r lo' hi' vx = some v) :
  ∃ u,(execOp a.eval o).run P w = .ok (.value u) w ∧ zf g w r.st v u:=by
 unfold zuz at h
 split at h
 ·rename_i s
  obtain ⟨l,h',hl,hh,h1⟩:=zlJ h
  unfold zDi at h1
  split at h1
  ·rename_i hc
   injection h1 with h1
   subst h1
   obtain ⟨ex,_⟩:=zA hx
   refine ⟨_,?_,zt rfl⟩
   unfold execOp
   simp only [ho,ex]
   simp [zp0 (P:=P) (w:=w) ht (zki (a:=a) hlo.1 hlo.2 hl) (zki (a:=a) hhi.1 hhi.2 hh) hc.1 hc.2]
  ·cases h1
 ·cases h
theorem zjX {σ : zd} : ∀ {vs : List V} {us : List Value},zz g w σ vs us → ∀ {i : Nat} {v : V},vs[i]? = some v → ∃ u,us[i]? = some u ∧ zf g w σ v u
 | [],_,_,i,v,h => by simp at h
 | x :: vs,us,hr,i,v,h => by
   simp only [zz] at hr
   obtain ⟨u,us',rfl,h2,h3⟩:=hr
   cases i with
   | zero => simp at h; subst h; exact ⟨u,by simp,h2⟩
   | succ i => simpa using zjX h3 (i:=i) (v:=v) (by simpa using h)
theorem zzh {x : Operand} {i : Nat} (ho : o.op = .extract x i) {vx v : V} (hx : zf g w r.st vx (a.eval x)) (h : zE6 i vx = some v) :
  ∃ u,(execOp a.eval o).run P w = .ok (.value u) w ∧ zf g w r.st v u:=by
 unfold zE6 at h
 split at h
 ·simp only [zf] at hx
  obtain ⟨us,e,hr⟩:=hx
  obtain ⟨u,hu,hv⟩:=zjX hr h
  refine ⟨u,?_,hv⟩
  have hu' : us[i]? = some u:=by simpa using hu
  unfold execOp
  simp [ho,e,Instr.extract,hu']
 ·cases h
theorem zxH {x : Operand} (ho : o.op = .nilCheck x) {vx v : V} (hx : zf g w r.st vx (a.eval x)) (h : zE2 vx = some v) :
  ∃ u,(execOp a.eval o).run P w = .ok (.value u) w ∧ zf g w r.st v u:=by
 unfold zE2 at h
 split at h
 ·injection h with h
  subst h
  refine ⟨a.eval x,?_,hx⟩
  simp only [zf,zw] at hx
  obtain ⟨_,_,_,_,_,_,ad,e⟩:=hx
  unfold execOp
  simp [ho,e]
 ·injection h with h
  subst h
  refine ⟨a.eval x,?_,hx⟩
  simp only [zf,zw] at hx
  obtain ⟨_,_,e,_⟩:=hx
  unfold execOp
  simp [ho,e]
 ·injection h with h
  subst h
  refine ⟨a.eval x,?_,hx⟩
  simp only [zf,zw] at hx
  obtain ⟨_,_,e,_⟩:=hx
  unfold execOp
  simp [ho,e]
 ·cases h
theorem zyg {b : Builtin} {isMax : Bool} {x y : Operand} {c : Go.Call} (ho : o.op = .call c) (hc : c.callee = .builtin b) (hb : b = if isMax then .max else .min) (hargs : c.args = #[x,y])
  {vx vy v : V} (hx : zf g w r.st vx (a.eval x)) (hy : zf g w r.st vy (a.eval y)) (h : zET isMax vx vy = some v) :
  ∃ u,(execOp a.eval o).run P w = .ok (.value u) w ∧ zf g w r.st v u:=by
 unfold zET at h
 split at h
 ·rename_i k m k' n
  split at h
  ·rename_i hk
   subst hk
   injection h with h
   subst h
   obtain ⟨ex,_⟩:=zA hx
   obtain ⟨ey,_⟩:=zA hy
   cases isMax
   ·simp at hb
    subst hb
    refine ⟨.int k (min m n),?_,zt rfl⟩
    unfold execOp
    simp [ho,resolve,hc,hargs,ex,ey,invoke,builtin,Builtin.min_,Builtin.min2]
    omega
   ·simp at hb
    subst hb
    refine ⟨.int k (max m n),?_,zt rfl⟩
    unfold execOp
    simp [ho,resolve,hc,hargs,ex,ey,invoke,builtin,Builtin.max_,Builtin.max2]
    omega
  ·cases h
 ·cases h
end
end Go.A
namespace Go.A
section
variable {P : Program} {κ : List Tmp} {loc : List (Option Tmp)} {nt : Nat} {g : G} {w : World} {r r' : R} {a : Act} {o : Go.Oper} {d : D} {next : Act → World → Prop} {Q : Exit → Act → World → Prop}
theorem zym {σ : zd} {id ver i : Nat} {e : List C} (h : σ.elem id ver i = some e) : ∃ sz es,σ[id]? = some (.cells ver sz es) ∧ es[i]? = some e:=by
 unfold zd.elem at h
 rw [yc] at h
 obtain ⟨ob,h1,h2⟩:=h
 unfold Ob.elem at h2
 split at h2
 ·rename_i ver' sz es
  split at h2
  ·rename_i hv
   subst hv
   exact ⟨sz,es,h1,h2⟩
  ·cases h2
 ·cases h2
theorem zqa (R0 : Rel g w r.st) {id ver i off : Nat} {e : List C} {u : Value} (he : r.st.elem id ver i = some e) (hx : zf g w r.st (.one (.ptr id ver i off)) u) :
  ∃ b o us,u = .pointer (some ⟨b,o + off,none⟩) ∧ us.length = e.length ∧ zv g w r.st e us ∧ (∀ v ∈ us,v.oneCell' = true) ∧ ∀ j v,us[j]? = some v → w.cell? ⟨b,o + j,none⟩ = some v:=by
 obtain ⟨sz,es,h1,h2⟩:=zym he
 have hne : es ≠ []:=fun h => by subst h; simp at h2
 obtain ⟨_,_,arr,t,h3,h4,h5⟩:=R0.ob id _ h1 hne
 simp only [zf,zw] at hx
 obtain ⟨v0,sz0,len,k1,k2,k3,_⟩:=hx
 rw [zn h1] at k1
 injection k1 with k1
 injection k1 with e1 k1
 injection k1 with e2 e3
 subst e1 e2 e3
 have hu:=k3 rfl
 obtain ⟨hel,hcells⟩:=h5 i e h2
 refine ⟨g.ρ id,i * sz,(yl e.length).map fun j => arr.getD (i * sz + j) undef,hu,by simp,zke (by simp) fun j c v hc hv => ?_,fun v hv => ?_,fun j v hv => ?_⟩
 ·obtain ⟨u',k4,k5,_⟩:=hcells j c hc
  rw [yh,yi (zb hc)] at hv
  simp only [yC,Option.some.injEq] at hv
  rw [← hv]
  simp only [yn,k4,yz]
  exact k5
 ·rw [yN] at hv
  obtain ⟨j,hj,rfl⟩:=hv
  rw [yG] at hj
  obtain ⟨u',k4,_,k6⟩:=hcells j _ (yg hj)
  simp only [yn,k4,yz]
  exact k6
 ·rw [yh] at hv
  have hj:=hv
  cases hr : (yl e.length)[j]? with
  | none => rw [hr] at hv; cases hv
  | some j' =>
    have hlt:=zb hr
    simp at hlt
    rw [yi hlt] at hr
    injection hr with hr
    subst hr
    rw [yi hlt] at hv
    simp only [yC,Option.some.injEq] at hv
    obtain ⟨u',k4,_,_⟩:=hcells j _ (yg hlt)
    rw [zg2 h3,k4,← hv]
    simp only [yn,k4,yz]
theorem zhZ {t : TypeId} {b : Bool} (h : zjL P t = some b) : (isAgg t).run P w = .ok b w:=by
 unfold zjL at h
 cases hu : P.underlying t with
 | none => simp [hu] at h
 | some de =>
   simp [hu] at h
   subst h
   unfold isAgg
   rw [Sem.run_bind,run_underlying hu w]
   cases de <;> rfl
theorem zkD {t : TypeId} {ad : Addr} {v : Value} (h : zjL P t = some false) (hc : w.cell? ad = some v) : (Instr.loadAt t (.pointer (some ad))).run P w = .ok v w:=by
 simp [Instr.loadAt,Instr.sureAddr,loadVar,zhZ (w:=w) h,hc]
theorem zkB {t : TypeId} {b o n : Nat} {vs : List Value} (h : zjL P t = some true) (hs : zhI P t = some n) (hn : vs.length = n) (hc : ∀ j v,vs[j]? = some v → w.cell? ⟨b,o + j,none⟩ = some v) :
  (Instr.loadAt t (.pointer (some ⟨b,o,none⟩))).run P w = .ok (.agg vs.toArray) w:=by
 have hl : (loadCells ⟨b,o,none⟩ n).run P w = .ok vs.toArray w:=by
  rw [← hn]
  exact run_loadCells_list (P:=P) w ⟨b,o,none⟩ vs (fun j v hv => by rw [zaA]; exact hc j v hv)
 unfold zhI at hs
 cases hq : P.info? t with
 | none => simp [hq] at hs
 | some inf =>
   have hsz : inf.size = n:=by simpa [hq] using hs
   simp [Instr.loadAt,Instr.sureAddr,loadVar,zhZ (w:=w) h,sizeOf,typeInfo,hq,hsz,hl]
theorem zr7 {α : Type} {o n : Nat} {e x : List α} (h : cut o n e = some x) : o + n ≤ e.length ∧ x = (e.drop o).take n:=by
 unfold cut at h
 split at h
 ·injection h with h; exact ⟨by assumption,h.symm⟩
 ·cases h
theorem zsA {σ : zd} {e : List C} {us : List Value} (h : zv g w σ e us) (o n : Nat) : zv g w σ ((e.drop o).take n) ((us.drop o).take n):=by
 have hl:=zC h
 refine zke (by simp [hl]) fun j c u hc hu => ?_
 rw [yq] at hc hu
 split at hc
 ·rw [if_pos (by assumption),yk] at hu
  rw [yk] at hc
  obtain ⟨u',k1,k2⟩:=zdk h hc
  rw [k1] at hu
  injection hu with hu
  rw [← hu]
  exact k2
 ·cases hc
theorem zpE {σ : zd} : ∀ {cs : List Fz} {us : List Value},us.length = cs.length → (∀ (j : Nat) (x : Fz) (u : Value),cs[j]? = some x → us[j]? = some u → rep w g.N x u) → zv g w σ (cs.map C.f) us
 | cs,us,hl,h => zke (by simpa using hl) fun j c u hc hu => by
   rw [yh,ya] at hc
   obtain ⟨x,hx,rfl⟩:=hc
   simp only [zw]
   exact h j x u hx hu
theorem zvO (R0 : Rel g w r.st) {t : TypeId} {x : Operand} {sz : Option Nat} (ho : o.op = .load t x) (hsz : match sz with
   | none => zjL P t = some false
   | some n => zjL P t = some true ∧ zhI P t = some n)
  {vx v : V} (hx : zf g w r.st vx (a.eval x)) (h : ald r.st sz vx = some v) :
  ∃ u,(execOp a.eval o).run P w = .ok (.value u) w ∧ zf g w r.st v u:=by
 unfold ald at h
 split at h
 ·
  rename_i id ver i off
  rw [ya] at h
  obtain ⟨c,h1,rfl⟩:=h
  unfold zd.cell at h1
  rw [yc] at h1
  obtain ⟨e,h1,h2⟩:=h1
  obtain ⟨b,oo,us,k1,k2,k3,_,k5⟩:=zqa R0 h1 hx
  obtain ⟨u,k6,k7⟩:=zdk k3 h2
  refine ⟨u,?_,k7⟩
  unfold execOp
  simp only [ho,k1]
  simp [zkD (P:=P) (w:=w) hsz (k5 off u k6)]
 ·
  rename_i cs off
  rw [ya] at h
  obtain ⟨y,h1,rfl⟩:=h
  simp only [zf,zw] at hx
  obtain ⟨b,oo,k1,k2⟩:=hx
  obtain ⟨u,_,k4,k5⟩:=zfK k2 h1
  refine ⟨u,?_,by simpa only [vf,zf,zw] using k5⟩
  unfold execOp
  simp only [ho,k1]
  simp [zkD (P:=P) (w:=w) hsz k4]
 ·
  rename_i n id ver i off
  rw [ya] at h
  obtain ⟨e',h1,rfl⟩:=h
  rw [yc] at h1
  obtain ⟨e,h1,h2⟩:=h1
  obtain ⟨hle,rfl⟩:=zr7 h2
  obtain ⟨b,oo,us,k1,k2,k3,_,k5⟩:=zqa R0 h1 hx
  refine ⟨.agg ((us.drop off).take n).toArray,?_,?_⟩
  ·unfold execOp
   simp only [ho,k1]
   simp [zkB (P:=P) (w:=w) (b:=b) (o:=oo + off) (vs:=(us.drop off).take n) hsz.1 hsz.2 (by simp; omega) (fun j v hv => by
    rw [yq] at hv
    split at hv
    ·rw [yk] at hv
     have:=k5 _ _ hv
     rwa [← ym] at this
    ·cases hv)]
  ·simp only [zf]
   exact ⟨_,rfl,by simpa using zsA k3 off n⟩
 ·rename_i n cs off
  rw [ya] at h
  obtain ⟨e',h1,rfl⟩:=h
  obtain ⟨hle,rfl⟩:=zr7 h1
  simp only [zf,zw] at hx
  obtain ⟨b,oo,k1,k2⟩:=hx
  have hcell : ∀ j,j < n → ∃ u,w.cell? ⟨b,oo + off + j,none⟩ = some u ∧ ∀ x,cs[off + j]? = some x → rep w g.N x u:=fun j hj => by
   obtain ⟨u,_,k4,k5⟩:=zfK k2 (yg (by omega : off + j < cs.length))
   refine ⟨u,by rwa [ym],fun x hx => ?_⟩
   rw [yg (by omega : off + j < cs.length)] at hx
   injection hx with hx
   rw [← hx]; exact k5
  let us : List Value:=(yl n).map fun j => (w.cell? ⟨b,oo + off + j,none⟩).getD undef
  refine ⟨.agg us.toArray,?_,?_⟩
  ·unfold execOp
   simp only [ho,k1]
   simp [zkB (P:=P) (w:=w) (b:=b) (o:=oo + off) (vs:=us) hsz.1 hsz.2 (by simp [us]) (fun j v hv => by
    simp only [us,yh,ya] at hv
    obtain ⟨j',hj',hv⟩:=hv
    have hlt:=zb hj'
    simp at hlt
    rw [yi hlt] at hj'
    injection hj' with hj'
    subst hj'
    obtain ⟨u,k4,_⟩:=hcell j hlt
    rw [k4] at hv ⊢
    simpa using hv)]
  ·simp only [zAo,zf]
   refine ⟨us.toArray,rfl,zpE (by simp [us]; omega) fun j x u hx hu => ?_⟩
   rw [yq] at hx
   split at hx
   ·rename_i hj
    rw [yk] at hx
    obtain ⟨u',k4,k5⟩:=hcell j hj
    have : us[j]? = some u':=by
     simp only [us,yh,yi hj,yC,k4,yz]
    rw [show us.toArray.toList = us from by simp,this] at hu
    injection hu with hu
    rw [← hu]
    exact k5 x hx
   ·cases hx
 ·cases h
theorem zx5 {t e : TypeId} {x i : Operand} {len : Nat} (ho : o.op = .index t x i) (ht : P.underlying t = some (.array len e)) (hs : zhI P e = some 1) (hagg : zjL P e = some false)
  {vx vi v : V} (hx : zf g w r.st vx (a.eval x)) (hi : zf g w r.st vi (a.eval i)) (h : zEY len vx vi = some v) :
  ∃ u,(execOp a.eval o).run P w = .ok (.value u) w ∧ zf g w r.st v u:=by
 unfold zEY at h
 split at h
 ·rename_i cs kk k
  obtain ⟨ei,_⟩:=zA hi
  split at h
  ·rename_i hm
   rw [ya] at h
   obtain ⟨c,h1,rfl⟩:=h
   simp only [zf] at hx
   obtain ⟨us,e1,hr⟩:=hx
   obtain ⟨u,k1,k2⟩:=zdk hr h1
   have k1' : us[k.toNat]? = some u:=by simpa using k1
   refine ⟨u,?_,k2⟩
   unfold zhI at hs
   cases hq : P.info? e with
   | none => simp [hq] at hs
   | some inf =>
     have hsz : inf.size = 1:=by simpa [hq] using hs
     unfold execOp
     simp [ho,e1,ei,Instr.index,asIntOf,run_underlying ht,hm.1,hm.2,sizeOf,typeInfo,hq,hsz,part,zhZ (w:=w) hagg,k1']
  ·cases h
 ·cases h
theorem zzO {t : TypeId} {x : Operand} {i off : Nat} {sz : Option Nat} {fs : Array Field} {f : Field} (ho : o.op = .field t x i) (ht : P.underlying t = some (.struct fs)) (hf : fs[i]? = some f) (hoff : f.offset = off)
  (hsz : match sz with
   | none => zjL P f.type = some false
   | some n => zjL P f.type = some true ∧ zhI P f.type = some n)
  {vx v : V} (hx : zf g w r.st vx (a.eval x)) (h : zD1 off sz vx = some v) :
  ∃ u,(execOp a.eval o).run P w = .ok (.value u) w ∧ zf g w r.st v u:=by
 subst hoff
 unfold zD1 at h
 split at h
 ·rename_i cs
  rw [ya] at h
  obtain ⟨c,h1,rfl⟩:=h
  simp only [zf] at hx
  obtain ⟨us,e,hr⟩:=hx
  obtain ⟨u,k1,k2⟩:=zdk hr h1
  have k1' : us[f.offset]? = some u:=by simpa using k1
  refine ⟨u,?_,k2⟩
  unfold execOp
  simp [ho,e,Instr.field,run_underlying ht,hf,asAgg,part,zhZ (w:=w) hsz,k1']
 ·rename_i n cs
  rw [ya] at h
  obtain ⟨cs',h1,rfl⟩:=h
  obtain ⟨hle,rfl⟩:=zr7 h1
  simp only [zf] at hx
  obtain ⟨us,e,hr⟩:=hx
  refine ⟨.agg (us.extract f.offset (f.offset + n)),?_,?_⟩
  ·have hs:=hsz.2
   unfold zhI at hs
   cases hq : P.info? f.type with
   | none => simp [hq] at hs
   | some inf =>
     have hsz' : inf.size = n:=by simpa [hq] using hs
     unfold execOp
     simp [ho,e,Instr.field,run_underlying ht,hf,asAgg,part,zhZ (w:=w) hsz.1,sizeOf,typeInfo,hq,hsz']
  ·simp only [zf]
   refine ⟨_,rfl,?_⟩
   have:=zsA hr f.offset n
   have e2 : (us.extract f.offset (f.offset + n)).toList = (us.toList.drop f.offset).take n:=by
    rw [Array.toList_extract]
    simp [List.extract,yx]
   rw [e2]
   exact this
 ·cases h
def zzG (κ : List Tmp) (loc : List (Option Tmp)) : List Operand → List X → Bool
 | [],[] => true
 | x :: xs,y :: ys => okX κ loc x y && zzG κ loc xs ys
 | _,_ => false
theorem Fr.gets (F : Fr κ loc nt g w r a) : ∀ {xs : List Operand} {ys : List X},zzG κ loc xs ys = true → zz g w r.st (r.gets ys) (xs.map a.eval)
 | [],[],_ => by simp [R.gets,zz]
 | x :: xs,y :: ys,h => by
   simp only [zzG,yp] at h
   simp only [R.gets,zz,yD]
   exact ⟨_,_,rfl,F.get h.1,F.gets h.2⟩
 | [],_ :: _,h => by simp [zzG] at h
 | _ :: _,[],h => by simp [zzG] at h
theorem zrR {σ : zd} : ∀ {vs : List V} {us : List Value},zz g w σ vs us → zv g w σ (vs.map V.c1) us
 | [],us,h => by simpa only [zz,zv,List.map_nil] using h
 | v :: vs,us,h => by
   simp only [zz] at h
   obtain ⟨x,xs,rfl,h1,h2⟩:=h
   simp only [yD,zv]
   refine ⟨x,xs,rfl,?_,zrR h2⟩
   cases v with
   | one c => simpa only [V.c1,zf] using h1
   | agg cs => simp only [V.c1,zw]
   | tup cs => simp only [V.c1,zw]
theorem zx0 (F : Fr κ loc nt g w r a) {f : Nat} {first caps : Array Operand} {first' caps' : List X} (ho : o.op = .makeFunc (.func f) first caps) (h1 : zzG κ loc first.toList first' = true) (h2 : zzG κ loc caps.toList caps' = true) :
  ∃ u,(execOp a.eval o).run P w = .ok (.value u) w ∧ zf g w r.st (.one (.fn f ((r.gets first').map V.c1) ((r.gets caps').map V.c1))) u:=by
 refine ⟨.func (.func f) (first.map a.eval) (caps.map a.eval),?_,?_⟩
 ·unfold execOp
  simp [ho,Instr.makeFunc]
 ·simp only [zf,zw]
  exact ⟨_,_,rfl,by simpa using zrR (F.gets h1),by simpa using zrR (F.gets h2)⟩
end
end Go.A
namespace Go.A
structure Low (base lim : Nat) (σ : zd) : Prop where
 le : True
theorem Low.append {base lim : Nat} {σ : zd} (_ : Low base lim σ) (os : List Ob) : Low base lim (σ ++ os):=⟨trivial⟩
theorem Low.set {base lim : Nat} {σ : zd} (_ : Low base lim σ) {id : Nat} {o : Ob} : Low base lim (σ.set id o):=⟨trivial⟩
def znX (κ : List Tmp) (loc : List (Option Tmp)) (nt : Nat) (g : G) (w : World) (r r' : R) (pa : Value → Act) (next : Act → World → Prop) : Prop :=
 ∀ g' w' u,Ext g w r.st g' w' r'.st → Rel g' w' r'.st → Low r.base r.lim r'.st → Fr κ loc nt g' w' r' (pa u) → next (pa u) w'
section
variable {P : Program} {κ : List Tmp} {loc : List (Option Tmp)} {nt : Nat} {g : G} {w : World} {r r' : R} {a : Act} {o : Go.Oper} {d : D} {next : Act → World → Prop} {Q : Exit → Act → World → Prop}
theorem zlF (R0 : Rel g w r.st) (L : Low r.base r.lim r.st) (F : Fr κ loc nt g w r a) (hd : okD κ nt o.dst d = true) {v : V} {u : Value} (hrun : (execOp a.eval o).run P w = .ok (.value u) w) (hv : zf g w r.st v u)
  (k : znX κ (zaS o.dst d :: loc) nt g w r (r.put d v) (a.put o.dst) next) : o.wp P a w next Q:=by
 refine zmw hrun (k g w _ ?_ ?_ ?_ (F.put hd fun _ => hv)) <;> rw [zeU]
 ·exact Ext.refl _ _ _
 ·exact R0
 ·exact L
theorem zaX {g' : G} {w' : World} {r1 : R} (F : Fr κ loc nt g w r a) (hd : okD κ nt o.dst d = true) (H : Ext g w r.st g' w' r1.st) (R1 : Rel g' w' r1.st) (L1 : Low r.base r.lim r1.st) (he : r1.env = r.env) (hrs : r1.rs = r.rs)
  {v : V} {u : Value} (hrun : (execOp a.eval o).run P w = .ok (.value u) w') (hv : zf g' w' r1.st v u)
  (k : znX κ (zaS o.dst d :: loc) nt g w r (r1.put d v) (a.put o.dst) next) : o.wp P a w next Q:=by
 refine zmw hrun (k g' w' _ ?_ ?_ ?_ ((F.ext H he hrs).put hd fun _ => hv)) <;> rw [zeU]
 ·exact H
 ·exact R1
 ·exact L1
theorem zrM {g' : G} {w' : World} {r1 : R} (F : Fr κ loc nt g w r a) (hd : okD κ nt o.dst d = true) (hno : d = .no) (H : Ext g w r.st g' w' r1.st) (R1 : Rel g' w' r1.st) (L1 : Low r.base r.lim r1.st) (he : r1.env = r.env) (hrs : r1.rs = r.rs)
  (hrun : (execOp a.eval o).run P w = .ok .skip w') (k : znX κ (zaS o.dst d :: loc) nt g w r (r1.put d vun) (a.put o.dst) next) : o.wp P a w next Q:=by
 refine zBY hrun (k g' w' _ ?_ ?_ ?_ ((F.ext H he hrs).put hd fun h => absurd hno h)) <;> rw [zeU]
 ·exact H
 ·exact R1
 ·exact L1
theorem zpt {N : zf0} {x : Fz} {u : Value} (h : rep w N x u) : u.oneCell' = true:=by
 cases x with
 | lit v =>
   simp only [rep] at h
   rw [h.1]
   have:=h.2
   cases v <;> simp_all [zxD,Value.oneCell']
 | sl xs =>
   obtain ⟨_,_,e,_⟩:=zjq h
   rw [e]
   rfl
theorem zvy {σ : zd} {c : C} {u : Value} (h : zw g w σ c u) (hc : c ≠ .un) : u.oneCell' = true:=by
 cases c with
 | f x => simp only [zw] at h; exact zpt h
 | ap t k xs => simp only [zw] at h; exact zpt h.1
 | ptr id ver i off => simp only [zw] at h; obtain ⟨_,_,_,_,_,_,_,e⟩:=h; rw [e]; rfl
 | fp cs off => simp only [zw] at h; obtain ⟨_,_,e,_⟩:=h; rw [e]; rfl
 | own id ver lo n => simp only [zw] at h; obtain ⟨_,_,_,_,_,_,_,_,e⟩:=h; rw [e]; rfl
 | map id => simp only [zw] at h; rw [h.2]; rfl
 | fn f x y => simp only [zw] at h; obtain ⟨_,_,e,_⟩:=h; rw [e]; rfl
 | un => exact absurd rfl hc
theorem zxG : ∀ {cs : List C},C.kns cs = true → ∀ c ∈ cs,c ≠ .un
 | [],_,c,h => by simp at h
 | x :: cs,hk,c,h => by
   cases x <;> simp only [C.kns] at hk <;> first
    | (cases hk; done)
    | (rcases yR.1 h with rfl | h
       ·simp
       ·exact zxG hk c h)
theorem zxT {σ : zd} {cs : List C} {us : List Value} (h : zv g w σ cs us) (hk : C.kns cs = true) : ∀ u ∈ us,u.oneCell' = true:=fun u hu => by
 obtain ⟨j,hj⟩:=yv.1 hu
 have hlt:=zb hj
 rw [zC h] at hlt
 obtain ⟨u',k1,k2⟩:=zdk h (yg hlt)
 rw [hj] at k1
 injection k1 with k1
 subst k1
 exact zvy k2 (zxG hk _ (yK hlt))
theorem zs7 {u : Value} (h : u.oneCell' = true) : u.cells = #[u]:=by cases u <;> simp_all [Value.oneCell',Value.cells]
theorem zhX {σ : zd} {v : V} {u : Value} (h : zf g w σ v u) (hk : C.kns v.cells = true) (h0 : 0 < v.cells.length) : zv g w σ v.cells u.cells.toList ∧ ∀ x ∈ u.cells.toList,x.oneCell' = true:=by
 cases v with
 | one c =>
   simp only [zf] at h
   have hc : c ≠ .un:=zxG (cs:=[c]) hk c (by simp)
   have h1:=zvy h hc
   rw [zs7 h1]
   simp only [V.cells,zv]
   exact ⟨⟨u,[],rfl,h,rfl⟩,fun x hx => by simp at hx; rw [hx]; exact h1⟩
 | agg cs =>
   simp only [zf] at h
   obtain ⟨us,e,hr⟩:=h
   rw [e]
   exact ⟨hr,zxT hr hk⟩
 | tup vs => simp [V.cells] at h0
mutual
theorem zmL {σ : zd} : ∀ (c : C) (u : Value),zw g w σ c u → c.lt σ.length = true
 | .f _,_,_ => by simp [C.lt]
 | .ap t k xs,u,h => by
   simp only [zw] at h
   obtain ⟨_,n,h2,_⟩:=h
   obtain ⟨_,_,h3,_⟩:=zcS h2
   simpa [C.lt] using zb h3
 | .ptr id ver i off,u,h => by
   simp only [zw] at h
   obtain ⟨_,_,_,h1,_⟩:=h
   obtain ⟨_,h3,_⟩:=zaL h1
   simpa [C.lt] using zb h3
 | .fp _ _,_,_ => by simp [C.lt]
 | .own id ver lo n,u,h => by
   simp only [zw] at h
   obtain ⟨_,_,_,h1,_⟩:=h
   obtain ⟨_,h3,_⟩:=zaL h1
   simpa [C.lt] using zb h3
 | .map id,u,h => by
   simp only [zw] at h
   obtain ⟨⟨_,h3⟩,_⟩:=h
   simpa [C.lt] using zb h3
 | .fn f x y,u,h => by
   simp only [zw] at h
   obtain ⟨fs,cs,_,h2,h3⟩:=h
   simp [C.lt,zof x _ h2,zof y _ h3]
 | .un,_,_ => by simp [C.lt]
theorem zof {σ : zd} : ∀ (cs : List C) (us : List Value),zv g w σ cs us → C.lts σ.length cs = true
 | [],_,_ => by simp [C.lts]
 | c :: cs,us,h => by
   simp only [zv] at h
   obtain ⟨v,vs,_,h2,h3⟩:=h
   simp [C.lts,zmL c v h2,zof cs vs h3]
end
theorem zy0 {n : Nat} : ∀ {cs : List C},C.lts n cs = true ↔ ∀ c ∈ cs,c.lt n = true
 | [] => by simp [C.lts]
 | c :: cs => by simp [C.lts,zy0]
theorem zve {n : Nat} : ∀ {es : List (List C)},C.ltss n es = true ↔ ∀ e ∈ es,C.lts n e = true
 | [] => by simp [C.ltss]
 | c :: cs => by simp [C.ltss,zve]
theorem zuG {t : TypeId} {b o : Nat} {arr : Array Value} {ty : TypeId} {u : Value} {n : Nat} (hs : zhI P t = some n) (hn : u.cells.size = n) (hh : w.heap[b]? = some (.cells arr ty (0,0))) (hfit : o + n ≤ arr.size) (h1 : ∀ x ∈ u.cells.toList,x.oneCell' = true) :
  (Instr.storeAt t (.pointer (some ⟨b,o,none⟩)) u).run P w = .ok () (w.setRow b (zcO arr o u.cells.toList)):=by
 have hst:=run_storeCells_at P b o ty u.cells.toList 0 arr w hh (by simpa [hn] using hfit) h1
 simp only [yI] at hst
 unfold zhI at hs
 cases hq : P.info? t with
 | none => simp [hq] at hs
 | some inf =>
   have hsz : inf.size = n:=by simpa [hq] using hs
   simp [Instr.storeAt,Instr.sureAddr,storeVar,sizeOf,typeInfo,hq,hsz,hn,hst,zcO]
theorem zAM (R0 : Rel g w r.st) (L : Low r.base r.lim r.st) (F : Fr κ loc nt g w r a) {t : TypeId} {x v : Operand} {sz : Nat} (ho : o.op = .store t x v) (hd : okD κ nt o.dst d = true) (hno : d = .no) (hs : zhI P t = some sz) (h0 : 0 < sz)
  {vx vv : V} (hx : zf g w r.st vx (a.eval x)) (hv : zf g w r.st vv (a.eval v)) {r1 : R} (h : ast r sz vv.cells vx = some r1)
  (k : znX κ (zaS o.dst d :: loc) nt g w r (r1.put d vun) (a.put o.dst) next) : o.wp P a w next Q:=by
 unfold ast at h
 split at h
 ·rename_i id ver i off
  split at h
  ·rename_i hlen
   unfold R.write at h
   split at h
   ·rename_i hfits
    rw [ya] at h
    obtain ⟨ob',h1,rfl⟩:=h
    rw [yc] at h1
    obtain ⟨ob,h1,h2⟩:=h1
    unfold Ob.write at h2
    split at h2
    ·rename_i ver' sz' es
     split at h2
     ·rename_i hver
      subst hver
      rw [ya] at h2
      obtain ⟨e',h2,rfl⟩:=h2
      rw [yc] at h2
      obtain ⟨e,h2,h3⟩:=h2
      obtain ⟨k1,k2⟩:=zhX hv hfits (by omega)
      obtain ⟨arr,ty,hh,hfit,HE,HR⟩:=zul R0 h1 h2 h3 k1 k2
      have hptr : a.eval x = .pointer (some ⟨g.ρ id,i * sz' + off,none⟩):=by
       simp only [zf,zw] at hx
       obtain ⟨v0,s0,l0,m1,_,m3,_⟩:=hx
       rw [zn h1] at m1
       injection m1 with m1
       injection m1 with e1 m1
       injection m1 with e2 e3
       subst e1 e2
       exact m3 rfl
      have hcl:=zC k1
      have hsize : (a.eval v).cells.size = sz:=by rw [← hlen,← hcl]; simp
      refine zrM (r1:=r.setOb id (upd ver' sz' i es e')) F hd hno HE HR L.set rfl rfl ?_ k
      ·unfold execOp
       simp only [ho,hptr]
       have hrun:=zuG (P:=P) (w:=w) (u:=a.eval v) (n:=sz) (o:=i * sz' + off) hs hsize hh (by rw [hcl,hlen] at hfit; exact hfit) k2
       simp only [Sem.run_bind,hrun,Result.andThen_ok,Sem.run_pure]
     ·cases h2
    ·cases h2
   ·cases h
  ·cases h
 ·cases h
end
end Go.A
namespace Go.A
def zeroOf (P : Program) (t : TypeId) : Option (List Value):=((P.info? t).bind (·.zero)).map fun z => z.cells.toList
def zha (zs : List Value) : List (Nat × Nat) → Bool
 | [] => true
 | j :: js => (match zs[j.1]? with
   | some (.slice none 0 0) => true
   | _ => false) && zha zs js
def G.nils (g : G) (t : Nat) (f : Nat → Value) : G:={ g with tv:=fun t' k => if t' = t then f k else g.tv t' k }
section
variable {g : G} {w : World} {σ : zd}
theorem zvd (R : Rel g w σ) (ob : Ob) (f : Nat → Value) (hob : ∀ {σ' : zd},Ext g w σ (g.nils σ.length f) w σ' → zAr (g.nils σ.length f) w σ' σ.length ob) :
  Ext g w σ (g.nils σ.length f) w (σ ++ [ob]) ∧ Rel (g.nils σ.length f) w (σ ++ [ob]):=by
 have htv : ∀ t k,t < σ.length → (g.nils σ.length f).tv t k = g.tv t k:=fun t k h => by
  show (if t = σ.length then f k else g.tv t k) = _
  rw [if_neg (by omega)]
 have H : Ext g w σ (g.nils σ.length f) w (σ ++ [ob]):={
  os:=rfl
  tape:=rfl
  output:=rfl
  size:=yd _
  keeps:=fun _ _ h => ⟨h,rfl⟩
  len:=by simp
  shape:=fun id ver sz len h => by
   obtain ⟨es,h1,_⟩:=zaL h
   exact .inl ⟨by unfold shapeOf; rw [ye (zb h1)]; exact h,rfl,fun _ arr t ha => ⟨arr,ha,rfl⟩⟩
  map:=fun id es h => ⟨rfl,es,by rw [ye (zb h)]; exact h⟩
  tok:=fun t k n h => by
   obtain ⟨sz,fr,h1,h2⟩:=zcS h
   exact ⟨n,zdE (by rw [ye (zb h1)]; exact h1) h2,yd _,fun _ => htv t k (zb h1)⟩
  tsz:=fun t sz h => by
   obtain ⟨fr,h1⟩:=zet h
   exact zbV (fr:=fr) (by rw [ye (zb h1)]; exact h1)
  ow:=fun _ _ => rfl
  new:=fun _ _ h _ _ => h
  frame:=fun _ _ _ => rfl }
 refine ⟨H,⟨R.nb,fun id o h => ?_⟩⟩
 by_cases hlt : id < σ.length
 ·rw [ye hlt] at h
  exact zcM H rfl (fun k => htv id k hlt) (fun _ _ _ => ⟨rfl,rfl,fun _ h => h⟩) (R.ob id o h)
 ·have hid : id = σ.length:=by
   have:=zb h
   simp at this
   omega
  subst hid
  simp at h
  subst h
  exact hob H
theorem G.nils_tv (g : G) (t k : Nat) (f : Nat → Value) : (g.nils t f).tv t k = f k:=by
 show (if t = t then f k else _) = _
 rw [if_pos rfl]
theorem zuH (R : Rel g w σ) (sz : Nat) (fr : List Nat) (f : Nat → Value) (hz : ∀ k n,fr[k]? = some n → n = 0 ∧ ∃ a,f k = .slice a 0 0) :
  Ext g w σ (g.nils σ.length f) w (σ ++ [.tok sz fr]) ∧ Rel (g.nils σ.length f) w (σ ++ [.tok sz fr]) :=
 zvd R _ f fun _ => fun k n hn => by
  obtain ⟨h0,a,ha⟩:=hz k n hn
  exact .inl ⟨h0,a,by rw [G.nils_tv]; exact ha⟩
theorem zin : ∀ fresh : List (Nat × Nat),(tokens fresh).length = fresh.length
 | [] => rfl
 | _ :: js => by simp [tokens,zin js]
theorem ziL : ∀ (fresh : List (Nat × Nat)) (t : Nat) (cs : List C),(zf4 t fresh cs).length = cs.length
 | [],_,_ => rfl
 | _ :: js,t,cs => by rw [zf4,ziL js]; simp
theorem zl5 {cs : List C} {us : List Value} {j : Nat} {c : C} {u : Value} (h : zv g w σ cs us) (hu : us[j]? = some u) (hc : zw g w σ c u) : zv g w σ (cs.set j c) us:=by
 have hl:=zC h
 refine zke (by simpa using hl) fun i x v hx hv => ?_
 rw [yJ] at hx
 by_cases e : j = i
 ·subst e
  have hlt : j < cs.length:=by rw [← hl]; exact zb hu
  simp [hlt] at hx
  subst hx
  rw [hu] at hv
  injection hv with hv
  rw [← hv]
  exact hc
 ·rw [if_neg e] at hx
  obtain ⟨v',k1,k2⟩:=zdk h hx
  rw [k1] at hv
  injection hv with hv
  rw [← hv]
  exact k2
theorem zrA {N : zf0} : rep w N (.sl []) (.slice none 0 0):=by
 rw [rep]
 exact ⟨none,0,0,rfl,yd _,by simp only [zbO],.inl rfl⟩
theorem zn3 {σ : zd} (R : Rel g w σ) (sz : Nat) : Ext g w σ (g.nils σ.length fun _ => undef) w (σ ++ [.cells 0 sz []]) ∧ Rel (g.nils σ.length fun _ => undef) w (σ ++ [.cells 0 sz []]) :=
 zvd R _ _ fun _ h => absurd rfl h
theorem zzw {σ : zd} {sz n q : Nat} (hq : q < n) (g : G) : zw g w (σ ++ yb n (.cells 0 sz [])) (.own (σ.length + q) 0 0 0) (.slice none 0 0):=by
 rw [zw]
 have hs : shapeOf (σ ++ yb n (.cells 0 sz [])) (σ.length + q) = some (0,sz,0):=by
  unfold shapeOf
  rw [List.getElem?_append_right (by omega),show σ.length + q - σ.length = q by omega,yA,if_pos hq]
  rfl
 exact ⟨0,sz,0,hs,yd _,fun _ => ⟨none,0,rfl,yd _,fun _ => rfl,fun h => absurd rfl h⟩,_,_,rfl⟩
theorem zrJ : ∀ (fresh : List (Nat × Nat)) {g : G} {σ : zd} {cs : List C} {zs : List Value},Rel g w σ → zha zs fresh = true → zv g w σ cs zs →
  ∃ g',Ext g w σ g' w (σ ++ tokens fresh) ∧ Rel g' w (σ ++ tokens fresh) ∧ zv g' w (σ ++ tokens fresh) (zf4 σ.length fresh cs) zs
 | [],g,σ,cs,zs,R,_,h => ⟨g,by simpa [tokens] using Ext.refl g w σ,by simpa [tokens] using R,by simpa [tokens,zf4] using h⟩
 | j :: js,g,σ,cs,zs,R,hf,h => by
   simp only [zha,yp] at hf
   obtain ⟨hj,hjs⟩:=hf
   have hz : zs[j.1]? = some (.slice none 0 0):=by
    split at hj
    ·assumption
    ·cases hj
   by_cases c : 4096 ≤ j.2
   ·obtain ⟨H1,R1⟩:=zn3 R (j.2 - 4096)
    have hc : zw (g.nils σ.length fun _ => undef) w (σ ++ [.cells 0 (j.2 - 4096) []]) (zDQ σ.length j.2) (.slice none 0 0):=by
     rw [zDQ,if_pos c]
     have:=zzw (σ:=σ) (sz:=j.2 - 4096) (n:=1) (q:=0) (w:=w) (by omega) (g.nils σ.length fun _ => undef)
     simpa using this
    obtain ⟨g',H2,R2,h2⟩:=zrJ js R1 hjs (zl5 (H1.zv _ _ h) hz hc)
    refine ⟨g',?_,?_,?_⟩
    ·have:=H1.trans H2
     simpa [tokens,zCv,if_pos c] using this
    ·simpa [tokens,zCv,if_pos c] using R2
    ·simpa [tokens,zCv,if_pos c,zf4] using h2
   ·obtain ⟨H1,R1⟩:=zuH R j.2 [0] (fun _ => .slice none 0 0) (fun k n hn => ⟨by
     cases k with
     | zero => simp at hn; exact hn.symm
     | succ k => simp at hn,none,rfl⟩)
    have hc : zw (g.nils σ.length fun _ => .slice none 0 0) w (σ ++ [.tok j.2 [0]]) (zDQ σ.length j.2) (.slice none 0 0):=by
     rw [zDQ,if_neg c,zw]
     refine ⟨zrA,0,zdE (sz:=j.2) (fr:=[0]) (by simp) (by simp),yd _,fun _ => ?_,j.2,zbV (fr:=[0]) (by simp),by simp only [zbO]⟩
     show _ = if σ.length = σ.length then _ else _
     rw [if_pos rfl]
    obtain ⟨g',H2,R2,h2⟩:=zrJ js R1 hjs (zl5 (H1.zv _ _ h) hz hc)
    refine ⟨g',?_,?_,?_⟩
    ·have:=H1.trans H2
     simpa [tokens,zCv,if_neg c] using this
    ·simpa [tokens,zCv,if_neg c] using R2
    ·simpa [tokens,zCv,if_neg c,zf4] using h2
theorem zgC (R : Rel g w σ) {sz : Nat} {es : List (List C)} {us : List Value} (t : TypeId) (hl : us.length = es.length * sz) (hrow : zca g w σ us.toArray sz es) :
  Ext g w σ (g.own σ.length w.heap.size) (w.alloc (.cells us.toArray t)) (σ ++ [.cells 0 sz es]) ∧ Rel (g.own σ.length w.heap.size) (w.alloc (.cells us.toArray t)) (σ ++ [.cells 0 sz es]) :=
 ztq R (.cells 0 sz es) (.cells us.toArray t) fun H h1 h2 h3 _ => ⟨by rw [h1]; exact h2,by rw [h1]; exact h3,us.toArray,t,by rw [h1]; exact zbg w _,by simp [hl],H.zca hrow⟩
theorem zj6 (σ : zd) (o : Ob) : (σ ++ [o])[σ.length]? = some o:=by simp
theorem ztC {sz : Nat} {es : List (List C)} (o : Obj) : zf (g.own σ.length w.heap.size) (w.alloc o) (σ ++ [.cells 0 sz es]) (.one (.ptr σ.length 0 0 0)) (.pointer (some ⟨w.heap.size,0,none⟩)):=by
 simp only [zf,zw]
 exact ⟨0,sz,es.length,zn (zj6 σ _),yd _,fun _ => by simp [G.own],_,rfl⟩
theorem zlP {sz : Nat} {es : List (List C)} {us : List Value} (t : TypeId) (hl : us.length = es.length * sz) :
  zf (g.own σ.length w.heap.size) (w.alloc (.cells us.toArray t)) (σ ++ [.cells 0 sz es]) (.one (.own σ.length 0 0 es.length)) (.slice (some ⟨w.heap.size,0,none⟩) es.length es.length):=by
 simp only [zf,zw]
 refine ⟨0,sz,es.length,zn (zj6 σ _),yd _,fun _ => ⟨_,_,rfl,yd _,fun h => h,fun _ => ⟨by omega,fun _ => by simp [G.own],us.toArray,t,?_,by simp [hl]⟩⟩,_,_,rfl⟩
 simpa [G.own] using zbg w (.cells us.toArray t)
theorem zkh {cs : List C} {us : List Value} (h : zv g w σ cs us) (h1 : ∀ u ∈ us,u.oneCell' = true) : zca g w σ us.toArray cs.length [cs]:=fun i e hi => by
 cases i with
 | succ i => simp at hi
 | zero =>
   simp at hi
   subst hi
   refine ⟨rfl,fun j c hc => ?_⟩
   obtain ⟨u,k1,k2⟩:=zdk h hc
   exact ⟨u,by simpa using k1,k2,h1 u (yf k1)⟩
theorem zyJ (R : Rel g w σ) {sz : Nat} {xs : List (List Fz)} {us : List Value} (t : TypeId) (hx : Lay w g.N sz xs us) :
  ∃ g',Ext g w σ g' (w.alloc (.cells us.toArray t)) (σ ++ [.tok sz [xs.length]]) ∧ Rel g' (w.alloc (.cells us.toArray t)) (σ ++ [.tok sz [xs.length]]) ∧
    zf g' (w.alloc (.cells us.toArray t)) (σ ++ [.tok sz [xs.length]]) (.one (.ap σ.length 0 xs)) (.slice (some ⟨w.heap.size,0,none⟩) xs.length xs.length):=by
 let g' : G:={ g with tv:=fun t' k => if t' = σ.length then .slice (some ⟨w.heap.size,0,none⟩) xs.length xs.length else g.tv t' k,ow:=zxB g.ow w.heap.size (.tk σ.length 0),N:=fun b o => g.N b o ∨ (b = w.heap.size ∧ o < xs.length * sz) }
 have how : ∀ b,b < w.heap.size → g'.ow b = g.ow b:=fun b hb => zaF g.ow (k:=w.heap.size) (i:=b) _ (by omega)
 have hN : ∀ b o,b < w.heap.size → (g'.N b o ↔ g.N b o):=fun b o hb => ⟨fun h => h.elim id fun h => by omega,.inl⟩
 have htv : ∀ t' k,t' < σ.length → g'.tv t' k = g.tv t' k:=fun t' k h => by
  show (if t' = σ.length then _ else g.tv t' k) = _
  rw [if_neg (by omega)]
 have htv' : ∀ k,g'.tv σ.length k = .slice (some ⟨w.heap.size,0,none⟩) xs.length xs.length:=fun k => by
  show (if σ.length = σ.length then _ else _) = _
  rw [if_pos rfl]
 have H : Ext g w σ g' (w.alloc (.cells us.toArray t)) (σ ++ [.tok sz [xs.length]]) :=
  Ext.alloc R _ g' (fun _ _ => rfl) (fun t' k n h => htv t' k (by obtain ⟨_,_,h1,_⟩:=zcS h; exact zb h1)) how hN _
 have hat:=zbg w (.cells us.toArray t)
 refine ⟨g',H,⟨fun b o h => ?_,fun id o h => ?_⟩,?_⟩
 ·rw [size_alloc]
  rcases h with h | h
  ·have:=R.nb b o h; omega
  ·omega
 ·by_cases hlt : id < σ.length
  ·rw [ye hlt] at h
   exact zcM H rfl (fun k => htv id k hlt) (fun b hb _ => ⟨heap_alloc_old w _ hb,how b hb,fun o => (hN b o hb).1⟩) (R.ob id o h)
  ·have hid : id = σ.length:=by
    have:=zb h
    simp at this
    omega
   subst hid
   simp at h
   subst h
   intro k n hn
   cases k with
   | succ k => simp at hn
   | zero =>
     simp at hn
     subst hn
     rw [htv']
     rcases yF xs.length with h0 | h0
     ·exact .inl ⟨h0,_,by rw [h0]⟩
     ·refine .inr ⟨_,_,_,us.toArray,t,rfl,h0,yd _,zgL _ _ _,hat,by simp [hx.1],fun o' ho' => ?_⟩
      rcases ho' with ho' | ho'
      ·exact absurd (R.nb _ _ ho') (yQ _)
      ·have:=ho'.2; omega
 ·simp only [zf,zw]
  refine ⟨zvo hx.2.1 (yd _) (zla hx H.keeps fun j v hj => ?_),xs.length,zdE (sz:=sz) (fr:=[xs.length]) (by simp) (by simp),yd _,fun _ => (htv' 0).symm,sz,zbV (fr:=[xs.length]) (by simp),hx.2.1⟩
  have hlt:=zb hj
  rw [hx.1] at hlt
  refine ⟨.inr ⟨rfl,by omega⟩,?_⟩
  rw [yS,zg2 hat]
  simpa using hj
theorem zu5 (R : Rel g w σ) {sz : Nat} {xs : List (List Fz)} {us : List Value} (t : TypeId) (hx : Lay w g.N sz xs us) :
  ∃ g',Ext g w σ g' (w.alloc (.cells us.toArray t)) σ ∧ Rel g' (w.alloc (.cells us.toArray t)) σ ∧
    zf g' (w.alloc (.cells us.toArray t)) σ (vsl xs) (.slice (some ⟨w.heap.size,0,none⟩) xs.length xs.length):=by
 obtain ⟨H,R1⟩:=zsp R (.cells us.toArray t)
 refine ⟨_,H,R1,?_⟩
 simp only [vsl,zf,zw]
 refine zvo hx.2.1 (yd _) (zla hx H.keeps fun j v hj => ⟨.inr rfl,?_⟩)
 rw [yS,zg2 (zbg w _)]
 simpa using hj
end
end Go.A
namespace Go.A
section
variable {P : Program} {κ : List Tmp} {loc : List (Option Tmp)} {nt : Nat} {g : G} {w : World} {r r' : R} {a : Act} {o : Go.Oper} {d : D} {next : Act → World → Prop} {Q : Exit → Act → World → Prop}
theorem zc2 {t : TypeId} {zs : List Value} (h : zeroOf P t = some zs) : ∃ i z,P.info? t = some i ∧ i.zero = some z ∧ z.cells.toList = zs:=by
 unfold zeroOf at h
 rw [ya] at h
 obtain ⟨z,h1,h2⟩:=h
 rw [yc] at h1
 obtain ⟨i,h1,h3⟩:=h1
 exact ⟨i,z,h1,h3,h2⟩
theorem zc8 {t : TypeId} {i : TypeInfo} {z : Value} (h1 : P.info? t = some i) (h2 : i.zero = some z) : (zeroValue t).run P w = .ok z w:=by simp [zeroValue,typeInfo,h1,h2]
theorem zCj (R0 : Rel g w r.st) (L : Low r.base r.lim r.st) (F : Fr κ loc nt g w r a) {t : TypeId} {zs : List Value} {zero : List C} {fresh : List (Nat × Nat)} (ho : o.op = .alloc t) (hd : okD κ nt o.dst d = true) (hz : zeroOf P t = some zs) (hc : ze4 zs zero = true) (hf : zha zs fresh = true)
  (k : znX κ (zaS o.dst d :: loc) nt g w r (aal r d zero fresh) (a.put o.dst) next) : o.wp P a w next Q:=by
 obtain ⟨i,z,h1,h2,h3⟩:=zc2 hz
 obtain ⟨hz1,hz2⟩:=zav (g:=g) (w:=w) (σ:=r.st) hc
 obtain ⟨g1,H1,R1,hcr⟩:=zrJ fresh R0 hf hz1
 have hul:=zC hcr
 rw [ziL] at hul
 obtain ⟨H2,R2⟩:=zgC (sz:=zero.length) (es:=[zf4 r.st.length fresh zero]) (us:=zs) R1 t (by simp [hul]) (by
  have:=zkh hcr hz2
  rwa [ziL] at this)
 have hst : (r.st ++ tokens fresh).length = r.st.length + fresh.length:=by simp [zin]
 have e : aal r d zero fresh = (r.allocs (tokens fresh ++ [.cells 0 zero.length [zf4 r.st.length fresh zero]])).put d (.one (.ptr (r.st.length + fresh.length) 0 0 0)):=rfl
 rw [e] at k
 refine zaX (r1:=r.allocs (tokens fresh ++ [.cells 0 zero.length [zf4 r.st.length fresh zero]])) F hd (H1.trans (by simpa [R.allocs,yB] using H2)) (by simpa [R.allocs,yB] using R2) (L.append _) rfl rfl (u:=.pointer (some ⟨w.heap.size,0,none⟩)) ?_ ?_ k
 ·unfold execOp
  simp only [ho]
  have : z.cells = zs.toArray:=by rw [← h3]
  simp [Instr.alloc,zc8 (w:=w) h1 h2,newVar,newRow,this]
 ·have:=ztC (g:=g1) (w:=w) (σ:=r.st ++ tokens fresh) (sz:=zero.length) (es:=[zf4 r.st.length fresh zero]) (.cells zs.toArray t)
  rw [hst] at this
  simpa [R.allocs,yB,zin] using this
theorem zzl (R0 : Rel g w r.st) (L : Low r.base r.lim r.st) (F : Fr κ loc nt g w r a) {t : TypeId} {x : Operand} {sz : Nat} (ho : o.op = .box t x) (hd : okD κ nt o.dst d = true) (h0 : 0 < sz)
  {vx : V} (hx : zf g w r.st vx (a.eval x)) (hl : vx.cells.length = sz) (hk : C.kns vx.cells = true)
  (k : znX κ (zaS o.dst d :: loc) nt g w r ((r.alloc (.cells 0 sz [vx.cells])).put d (.one (.ptr r.st.length 0 0 0))) (a.put o.dst) next) : o.wp P a w next Q:=by
 subst hl
 obtain ⟨k1,k2⟩:=zhX hx hk h0
 obtain ⟨H2,R2⟩:=zgC (sz:=vx.cells.length) (es:=[vx.cells]) R0 t (by simp [zC k1]) (zkh k1 k2)
 refine zaX (r1:=r.alloc (.cells 0 vx.cells.length [vx.cells])) F hd H2 R2 (L.append _) rfl rfl (u:=.pointer (some ⟨w.heap.size,0,none⟩)) ?_ (ztC _) k
 unfold execOp
 simp [ho,Instr.box,newVar,newRow]
theorem zvb : ∀ (l : List Value) (k off : Nat) (cs : Array Value),off + k + l.length ≤ cs.size →
  ((l.zipIdx k).foldl (fun cs (cj : Value × Nat) => cs.setIfInBounds (off + cj.2) cj.1) cs).size = cs.size ∧
  ∀ q,((l.zipIdx k).foldl (fun cs (cj : Value × Nat) => cs.setIfInBounds (off + cj.2) cj.1) cs)[q]? = if q < off + k then cs[q]? else if q < off + k + l.length then l[q - (off + k)]? else cs[q]?
 | [],k,off,cs,_ => ⟨by simp,fun q => by
   simp only [List.zipIdx_nil,List.foldl_nil,List.length_nil,yI]
   split <;> rfl⟩
 | v :: l,k,off,cs,h => by
   simp only [List.length_cons] at h
   obtain ⟨h1,h2⟩:=zvb l (k + 1) off (cs.setIfInBounds (off + k) v) (by simp; omega)
   simp only [List.zipIdx_cons,List.foldl_cons]
   refine ⟨by rw [h1]; simp,fun q => ?_⟩
   rw [h2]
   by_cases c1 : q < off + k
   ·rw [if_pos (by omega),if_pos c1,yj,if_neg (by omega)]
   ·rw [if_neg c1]
    by_cases c2 : q = off + k
    ·subst c2
     rw [if_pos (by omega),if_pos (by simp),yj]
     simp
     omega
    ·rw [if_neg (by omega)]
     by_cases c3 : q < off + k + (l.length + 1)
     ·rw [if_pos (by omega),if_pos (by simpa using c3),show q - (off + k) = q - (off + (k + 1)) + 1 from by omega]
      simp
     ·rw [if_neg (by omega),if_neg (by simpa using c3),yj,if_neg (by omega)]
theorem zsw (l cs : Array Value) (off : Nat) (h : off + l.size ≤ cs.size) :
  (l.zipIdx.foldl (fun cs (cj : Value × Nat) => cs.setIfInBounds (off + cj.2) cj.1) cs).size = cs.size ∧
  ∀ q,(l.zipIdx.foldl (fun cs (cj : Value × Nat) => cs.setIfInBounds (off + cj.2) cj.1) cs)[q]? = if q < off then cs[q]? else if q < off + l.size then l.toList[q - off]? else cs[q]?:=by
 have:=zvb l.toList 0 off cs (by simpa using h)
 rw [← Array.foldl_toList,Array.toList_zipIdx]
 simpa using this
theorem zwk {σ : zd} {cs cs' e : List C} {us us' : List Value} {es : List Value} {off : Nat} (h : zv g w σ cs us) (he : zv g w σ e es) (ho : zDp cs off e = some cs') (hl : us'.length = us.length)
  (hget : ∀ q,us'[q]? = if q < off then us[q]? else if q < off + es.length then es[q - off]? else us[q]?) : zv g w σ cs' us':=by
 obtain ⟨o1,o2,o3⟩:=zpf ho
 have hel:=zC he
 refine zke (by rw [hl,o2]; exact zC h) fun j c u hc hu => ?_
 rw [o3] at hc
 rw [hget] at hu
 have sub : ∀ {l : List C} {m : List Value} {j' : Nat},zv g w σ l m → l[j']? = some c → m[j']? = some u → zw g w σ c u:=fun hr h1 h2 => by
  obtain ⟨u',k1,k2⟩:=zdk hr h1
  rw [k1] at h2
  injection h2 with h2
  rw [← h2]; exact k2
 by_cases c1 : j < off
 ·rw [if_pos c1] at hc hu; exact sub h hc hu
 ·rw [if_neg c1] at hc hu
  by_cases c2 : j < off + e.length
  ·rw [if_pos c2] at hc
   rw [if_pos (by omega)] at hu
   exact sub he hc hu
  ·rw [if_neg c2] at hc
   rw [if_neg (by omega)] at hu
   exact sub h hc hu
def zlh (κ : List Tmp) (loc : List (Option Tmp)) (place : Nat → Option (Nat × Nat)) : List (Nat × Operand) → List (Nat × Nat × X) → Bool
 | [],[] => true
 | (i,x) :: ps,(off,sz,y) :: qs => (place i == some (off,sz)) && decide (0 < sz) && okX κ loc x y && zlh κ loc place ps qs
 | _,_ => false
theorem zqY {place : Nat → Option (Nat × Nat)} (F : Fr κ loc nt g w r a) : ∀ (ps : List (Nat × Operand)) (qs : List (Nat × Nat × X)) (cells : Array Value) (cs cs' : List C),zlh κ loc place ps qs = true → zv g w r.st cs cells.toList → (∀ v ∈ cells.toList,v.oneCell' = true) →
  zmU r qs cs = some cs' → ∃ cells',Instr.fill place cells (ps.map fun p => (p.1,a.eval p.2)) = some cells' ∧ zv g w r.st cs' cells'.toList ∧ ∀ v ∈ cells'.toList,v.oneCell' = true
 | [],[],cells,cs,cs',_,h,h1,hf => by
   simp only [zmU,Option.some.injEq] at hf
   subst hf
   exact ⟨cells,rfl,h,h1⟩
 | (i,x) :: ps,(off,sz,y) :: qs,cells,cs,cs',hp,h,h1,hf => by
   simp only [zlh,yp,beq_iff_eq,decide_eq_true_eq] at hp
   obtain ⟨⟨⟨hpl,hsz⟩,hx⟩,hps⟩:=hp
   simp only [zmU] at hf
   split at hf
   ·rename_i hc
    rw [yc] at hf
    obtain ⟨cs1,ho,hf⟩:=hf
    obtain ⟨k1,k2⟩:=zhX (F.get hx) hc.2 (by omega)
    have hcl:=zC k1
    simp only [yr] at hcl
    obtain ⟨o1,o2,_⟩:=zpf ho
    have hcs:=zC h
    simp only [yr] at hcs
    obtain ⟨f1,f2⟩:=zsw (a.eval x).cells cells off (by omega)
    have hnew:=zwk (us':=((a.eval x).cells.zipIdx.foldl (fun cs (cj : Value × Nat) => cs.setIfInBounds (off + cj.2) cj.1) cells).toList) h k1 ho (by simpa using f1) (fun q => by simpa using f2 q)
    obtain ⟨cells',g1,g2,g3⟩:=zqY F ps qs _ cs1 cs' hps hnew (fun v hv => by
     obtain ⟨q,hq⟩:=yv.1 hv
     rw [yo,f2] at hq
     split at hq
     ·exact h1 v (yf (by rw [yo]; exact hq))
     ·split at hq
      ·exact k2 v (yf hq)
      ·exact h1 v (yf (by rw [yo]; exact hq))) hf
    refine ⟨cells',?_,g2,g3⟩
    simp only [yD,Instr.fill,hpl]
    rw [if_neg]
    ·exact g1
    ·simp only [yO,decide_eq_true_eq,not_or]
     constructor
     ·simp; omega
     ·omega
   ·cases hf
 | [],_ :: _,_,_,_,hp,_,_,_ => by simp [zlh] at hp
 | _ :: _,[],_,_,_,hp,_,_,_ => by simp [zlh] at hp
end
end Go.A
namespace Go.A
def zn5 (P : Program) (t : TypeId) : Option (Nat → Option (Nat × Nat)) :=
 match P.underlying t with
 | some (.array _ e) => (P.info? e).map fun ie i => some (i * ie.size,ie.size)
 | some (.struct fields) => (fields.toList.mapM (fun f => (P.info? f.type).map fun i => (f.offset,i.size))).map fun places i => places.toArray[i]?
 | _ => none
section
variable {P : Program} {κ : List Tmp} {loc : List (Option Tmp)} {nt : Nat} {g : G} {w : World} {r r' : R} {a : Act} {o : Go.Oper} {d : D} {next : Act → World → Prop} {Q : Exit → Act → World → Prop}
theorem zw3 (r : R) (os : List Ob) (x : X) : (r.allocs os).get x = r.get x:=by cases x <;> rfl
theorem znB (r : R) (os : List Ob) : ∀ (qs : List (Nat × Nat × X)) (cs : List C),zmU (r.allocs os) qs cs = zmU r qs cs
 | [],_ => rfl
 | (off,sz,x) :: qs,cs => by
   simp only [zmU,zw3]
   congr 1
   exact congrArg _ (funext fun c => znB r os qs c)
theorem zB2 {t : TypeId} {place : Nat → Option (Nat × Nat)} {zs : List Value} {ps : List (Nat × Value)} {cells : Array Value} (hz : zeroOf P t = some zs) (hp : zn5 P t = some place) (hf : Instr.fill place zs.toArray ps = some cells) : P.built t ps = some cells:=by
 obtain ⟨i,z,h1,h2,h3⟩:=zc2 hz
 subst h3
 unfold zn5 at hp
 unfold Program.built
 split at hp
 ·rename_i n e hu
  rw [ya] at hp
  obtain ⟨ie,h4,rfl⟩:=hp
  simp only [h1,hu,h2,h4]
  simpa using hf
 ·rename_i fs hu
  rw [ya] at hp
  obtain ⟨pl,h4,rfl⟩:=hp
  simp only [h1,hu,h2,h4]
  simpa using hf
 ·cases hp
theorem zyz (R0 : Rel g w r.st) (L : Low r.base r.lim r.st) (F : Fr κ loc nt g w r a) {t : TypeId} {parts : Array (Nat × Operand)} {zs : List Value} {zero : List C} {fresh : List (Nat × Nat)} {place : Nat → Option (Nat × Nat)} {qs : List (Nat × Nat × X)}
  (ho : o.op = .build t parts) (hd : okD κ nt o.dst d = true) (hz : zeroOf P t = some zs) (hc : ze4 zs zero = true) (hf : zha zs fresh = true) (hpl : zn5 P t = some place) (hp : zlh κ loc place parts.toList qs = true)
  {r1 : R} (h : (zmU r qs (zf4 r.st.length fresh zero)).map (zDT r d fresh) = some r1) (k : znX κ (zaS o.dst d :: loc) nt g w r r1 (a.put o.dst) next) : o.wp P a w next Q:=by
 rw [ya] at h
 obtain ⟨cs',h,rfl⟩:=h
 obtain ⟨hz1,hz2⟩:=zav (g:=g) (w:=w) (σ:=r.st) hc
 obtain ⟨g1,H1,R1,hcr⟩:=zrJ fresh R0 hf hz1
 have F1 : Fr κ loc nt g1 w (r.allocs (tokens fresh)) a:=F.ext H1 rfl rfl
 obtain ⟨cells,k1,k2,_⟩:=zqY (place:=place) F1 parts.toList qs zs.toArray _ cs' hp (show zv g1 w (r.st ++ tokens fresh) _ zs from hcr) (by simpa using hz2) (by rw [znB]; exact h)
 have hb:=zB2 hz hpl k1
 refine zaX (r1:=r.allocs (tokens fresh)) F hd H1 R1 (L.append _) rfl rfl (u:=.agg cells) ?_ ?_ k
 ·unfold execOp
  have hb' : P.built t (parts.map fun (i,x) => (i,a.eval x)).toList = some cells:=by simpa using hb
  simp only [ho,Sem.run_bind,run_build w t _ cells hb',Result.andThen_ok,Sem.run_pure]
 ·simp only [zf]
  exact ⟨cells,rfl,k2⟩
theorem zjK {σ : zd} {zc : Array Value} {sz : Nat} {es : List (List C)} (hs : zc.size = sz) (h0 : 0 < sz) (h : ∀ e ∈ es,zv g w σ e zc.toList) (h1 : ∀ u ∈ zc.toList,u.oneCell' = true) : zca g w σ ((yP (es.length * sz)).map (zc[· % zc.size]!)) sz es:=fun i e hi => by
 have hcr:=h e (yf hi)
 have hl:=zC hcr
 simp only [yr,hs] at hl
 refine ⟨hl.symm,fun j c hc => ?_⟩
 obtain ⟨u,k1,k2⟩:=zdk hcr hc
 have hj : j < sz:=by have:=zb hc; omega
 refine ⟨u,?_,k2,h1 u (yf k1)⟩
 have hlt:=inside (zb hi) hj
 rw [Array.getElem?_map,yy (by simpa using hlt)]
 simp only [Array.getElem_range,yC]
 have hmod : (i * sz + j) % zc.size = j:=by rw [hs,Nat.mul_comm,Nat.mul_add_mod,Nat.mod_eq_of_lt hj]
 rw [hmod]
 rw [yo] at k1
 rw [getElem!_pos zc j (by omega)]
 rw [yy (by omega)] at k1
 exact k1
def zik (κ : List Tmp) (loc : List (Option Tmp)) : List (Nat × Operand) → List (Nat × X) → Bool
 | [],[] => true
 | (i,x) :: ps,(j,y) :: qs => (i == j) && okX κ loc x y && zik κ loc ps qs
 | _,_ => false
theorem zo1 (F : Fr κ loc nt g w r a) {sz : Nat} (h0 : 0 < sz) : ∀ (ps : List (Nat × Operand)) (qs : List (Nat × X)) (cells : Array Value) (es es' : List (List C)),zik κ loc ps qs = true → cells.size = es.length * sz → zca g w r.st cells sz es →
  znS r sz qs es = some es' → ∃ cells',Instr.fill (fun i => some (i * sz,sz)) cells (ps.map fun p => (p.1,a.eval p.2)) = some cells' ∧ cells'.size = es'.length * sz ∧ zca g w r.st cells' sz es' ∧ es'.length = es.length
 | [],[],cells,es,es',_,hs,h,hf => by
   simp only [znS,Option.some.injEq] at hf
   subst hf
   exact ⟨cells,rfl,hs,h,rfl⟩
 | (i,x) :: ps,(j,y) :: qs,cells,es,es',hp,hs,h,hf => by
   simp only [zik,yp,beq_iff_eq] at hp
   obtain ⟨⟨rfl,hx⟩,hps⟩:=hp
   simp only [znS] at hf
   split at hf
   ·rename_i hc
    obtain ⟨c1,c2,c3⟩:=hc
    obtain ⟨k1,k2⟩:=zhX (F.get hx) c3 (by omega)
    have hcl:=zC k1
    simp only [yr] at hcl
    have hfit:=zy6 (q:=sz) c1 (yd sz)
    obtain ⟨f1,f2⟩:=zsw (a.eval x).cells cells (i * sz) (by omega)
    obtain ⟨cells',g1,g2,g3,g4⟩:=zo1 F h0 ps qs _ _ es' hps (by rw [f1,hs]; simp) (fun i' e hi' => by
     rw [yJ] at hi'
     by_cases e1 : i = i'
     ·subst e1
      simp [c1] at hi'
      subst hi'
      refine ⟨c2,fun j c hj => ?_⟩
      obtain ⟨u,m1,m2⟩:=zdk k1 hj
      have hlt:=zb hj
      refine ⟨u,?_,m2,k2 u (yf m1)⟩
      rw [f2,if_neg (by omega),if_pos (by omega),yx]
      exact m1
     ·rw [if_neg e1] at hi'
      obtain ⟨m0,m1⟩:=h i' e hi'
      refine ⟨m0,fun j c hj => ?_⟩
      obtain ⟨u,m2,m3,m4⟩:=m1 j c hj
      have hlt:=zb hj
      refine ⟨u,?_,m3,m4⟩
      rw [f2]
      split
      ·exact m2
      ·split
       ·exfalso
        have:=apart (q:=i' * sz + j - i * sz) (sz:=sz) e1 (by omega : j < sz) (by omega)
        omega
       ·exact m2) hf
    refine ⟨cells',?_,g2,g3,by rw [g4]; simp⟩
    simp only [yD,Instr.fill]
    rw [if_neg]
    ·exact g1
    ·simp only [yO,decide_eq_true_eq,not_or]
     constructor
     ·simp; omega
     ·omega
   ·cases hf
 | [],_ :: _,_,_,_,hp,_,_,_ => by simp [zik] at hp
 | _ :: _,[],_,_,_,hp,_,_,_ => by simp [zik] at hp
theorem zfH {σ : zd} {c : C} {x : Fz} {u : Value} (h : zui c = some x) (hc : zw g w σ c u) : rep w g.N x u:=by
 unfold zui at h
 split at h
 ·injection h with h; subst h; simpa only [zw] using hc
 ·injection h with h; subst h; simp only [zw] at hc; exact hc.1
 ·cases h
theorem zez {α : Type} {x : Option α} {xs : Option (List α)} {ys : List α} (h : zfO x xs = some ys) : ∃ y z,x = some y ∧ xs = some z ∧ ys = y :: z:=by
 unfold zfO at h
 split at h
 ·injection h with h; exact ⟨_,_,rfl,rfl,h.symm⟩
 ·cases h
theorem zex : ∀ {cs : List C} {xs : List Fz},zdo cs = some xs → xs.length = cs.length ∧ ∀ (j : Nat) (x : Fz),xs[j]? = some x → ∃ c,cs[j]? = some c ∧ zui c = some x
 | [],xs,h => by
   simp only [zdo,Option.some.injEq] at h
   subst h
   exact ⟨rfl,fun j x hx => by simp at hx⟩
 | c :: cs,xs,h => by
   simp only [zdo] at h
   obtain ⟨y,z,h1,h2,rfl⟩:=zez h
   obtain ⟨l,ih⟩:=zex h2
   refine ⟨by simp [l],fun j x hx => ?_⟩
   cases j with
   | zero => simp at hx; subst hx; exact ⟨c,by simp,h1⟩
   | succ j => simpa using ih j x (by simpa using hx)
theorem zeh : ∀ {es : List (List C)} {xs : List (List Fz)},zaq es = some xs → xs.length = es.length ∧ ∀ (i : Nat) (x : List Fz),xs[i]? = some x → ∃ e,es[i]? = some e ∧ zdo e = some x
 | [],xs,h => by
   simp only [zaq,Option.some.injEq] at h
   subst h
   exact ⟨rfl,fun j x hx => by simp at hx⟩
 | c :: cs,xs,h => by
   simp only [zaq] at h
   obtain ⟨y,z,h1,h2,rfl⟩:=zez h
   obtain ⟨l,ih⟩:=zeh h2
   refine ⟨by simp [l],fun j x hx => ?_⟩
   cases j with
   | zero => simp at hx; subst hx; exact ⟨c,by simp,h1⟩
   | succ j => simpa using ih j x (by simpa using hx)
theorem zk3 {σ : zd} {arr : Array Value} {sz : Nat} {es : List (List C)} {xs : List (List Fz)} (hs : arr.size = es.length * sz) (h : zca g w σ arr sz es) (hf : zaq es = some xs) : Lay w g.N sz xs arr.toList:=by
 obtain ⟨l,hg⟩:=zeh hf
 refine ⟨by simp [hs,l],zdm fun e he => ?_,fun i e hi j x hj => ?_⟩
 ·obtain ⟨i,hi⟩:=yv.1 he
  obtain ⟨e',h1,h2⟩:=hg i e hi
  rw [(zex h2).1]
  exact (h i e' h1).1
 ·obtain ⟨e',h1,h2⟩:=hg i e hi
  obtain ⟨c,h3,h4⟩:=(zex h2).2 j x hj
  obtain ⟨u,m1,m2,m3⟩:=(h i e' h1).2 j c h3
  exact ⟨u,by simpa using m1,zfH h4 m2,m3⟩
theorem ziV {σ : zd} {sz : Nat} {xs : List (List Fz)} {us : List Value} (h : Lay w g.N sz xs us) : zca g w σ us.toArray sz (xs.map fun e => e.map C.f):=fun i e hi => by
 rw [yh,ya] at hi
 obtain ⟨x,hx,rfl⟩:=hi
 refine ⟨by simpa using zbQ h.2.1 hx,fun j c hc => ?_⟩
 rw [yh,ya] at hc
 obtain ⟨y,hy,rfl⟩:=hc
 obtain ⟨u,k1,k2,k3⟩:=h.2.2 i x hx j y hy
 exact ⟨u,by simpa using k1,by simpa only [zw] using k2,k3⟩
def zz4 (zs : List Value) (zero : List (List C)) : Bool:=zero.all fun e => ze4 zs e
theorem zAa (R0 : Rel g w r.st) (L : Low r.base r.lim r.st) (F : Fr κ loc nt g w r a) {t e : TypeId} {len sz : Nat} {parts : Array (Nat × Operand)} {zs : List Value} {zero : List (List C)} {qs : List (Nat × X)} {b : B}
  (ho : o.op = .buildSlice t len parts) (hd : okD κ nt o.dst d = true) (ht : P.underlying t = some (.slice e)) (hs : zhI P e = some sz) (h0 : 0 < sz) (hlen : zero.length = len) (hcap : len * sz ≤ 16777216) (hz : zeroOf P e = some zs) (hzs : zs.length = sz) (hone : zs.all Value.oneCell' = true) (hc : zz4 zs zero = true) (hp : zik κ loc parts.toList qs = true)
  {r1 : R} (h : (znS r sz qs zero).bind (zv3 r d sz b) = some r1) (k : znX κ (zaS o.dst d :: loc) nt g w r r1 (a.put o.dst) next) : o.wp P a w next Q:=by
 subst hlen
 rw [yc] at h
 obtain ⟨es',h,hfr⟩:=h
 obtain ⟨i,z,h1,h2,h3⟩:=zc2 hz
 subst h3
 have hzc : z.cells.size = sz:=by simpa using hzs
 have hz1 : ∀ u ∈ z.cells.toList,u.oneCell' = true:=fun u hu => yL.1 hone u hu
 have hrows:=zjK (g:=g) (w:=w) (σ:=r.st) (zc:=z.cells) (es:=zero) hzc h0 (fun e he => (zav (yL.1 hc e he)).1) hz1
 obtain ⟨cells,k1,k2,k3,k4⟩:=zo1 F h0 parts.toList qs _ zero es' hp (by simp) hrows h
 have hn : es'.length = zero.length:=k4
 have hrun : (execOp a.eval o).run P w = .ok (.value (.slice (some ⟨w.heap.size,0,none⟩) es'.length es'.length)) (w.alloc (.cells cells e)):=by
  unfold zhI at hs
  have hsz : i.size = sz:=by simpa [h1] using hs
  have hcap' : ¬ (16777216 < zero.length * sz):=by omega
  have k1' : Instr.fill (fun i => some (i * sz,sz)) ((yP (zero.length * sz)).map (z.cells[· % z.cells.size]!)) (parts.map fun (i,x) => (i,a.eval x)).toList = some cells:=by simpa using k1
  unfold execOp
  simp only [ho]
  by_cases hl0 : zero.length = 0
  ·have hz' : (yP (zero.length * sz)).map (z.cells[· % z.cells.size]!) = (yP (zero.length * sz)).map ((#[] : Array Value)[· % (#[] : Array Value).size]!):=by simp [hl0,Array.range_zero']
   rw [hz'] at k1'
   simp [Instr.buildSlice,run_underlying ht,sizeOf,typeInfo,h1,hsz,hl0,newRow,hn]
   simp [hl0] at k1'
   simp [k1']
  ·have hne : ¬ (zero.length * sz = 0):=Nat.mul_ne_zero hl0 (by omega)
   simp [Instr.buildSlice,run_underlying ht,sizeOf,typeInfo,h1,hsz,hcap',hne,zc8 (w:=w) h1 h2,newRow,hn]
   simp at k1'
   simp [k1']
 have hca : cells = cells.toList.toArray:=by simp
 rw [hca] at hrun
 cases b with
 | fz =>
   simp only [zv3,ya] at hfr
   obtain ⟨xs,hfr,rfl⟩:=hfr
   have hlay:=zk3 k2 k3 hfr
   rw [← (zeh hfr).1] at hrun
   obtain ⟨g',H,R1,hv⟩:=zu5 R0 e hlay
   exact zaX (r1:=r) F hd H R1 L rfl rfl hrun hv k
 | tk =>
   simp only [zv3,ya] at hfr
   obtain ⟨xs,hfr,rfl⟩:=hfr
   have hlay:=zk3 k2 k3 hfr
   rw [← (zeh hfr).1] at hrun
   obtain ⟨g',H,R1,hv⟩:=zyJ R0 e hlay
   exact zaX (r1:=r.alloc (.tok sz [xs.length])) F hd H R1 (L.append _) rfl rfl hrun hv k
 | rw =>
   simp only [zv3,Option.some.injEq] at hfr
   subst hfr
   obtain ⟨H,R1⟩:=zgC (sz:=sz) (es:=es') R0 e (us:=cells.toList) (by simpa using k2) (by simpa using k3)
   have hv:=zlP (g:=g) (w:=w) (σ:=r.st) (sz:=sz) (es:=es') (us:=cells.toList) e (by simpa using k2)
   exact zaX (r1:=r.alloc (.cells 0 sz es')) F hd H R1 (L.append _) rfl rfl hrun hv k
end
end Go.A
namespace Go.A
section
variable {P : Program} {κ : List Tmp} {loc : List (Option Tmp)} {nt : Nat} {g : G} {w : World} {r r' : R} {a : Act} {o : Go.Oper} {d : D} {next : Act → World → Prop} {Q : Exit → Act → World → Prop}
theorem zCr {σ : zd} {sz : Nat} {f : Nat → Value} (fr : List Nat) {k : Nat} (hk : fr[k]? = some 0) (hf : f k = .slice none 0 0) : zw (g.nils σ.length f) w (σ ++ [.tok sz fr]) (.ap σ.length k []) (.slice none 0 0):=by
 rw [zw]
 exact ⟨zrA,0,zdE (sz:=sz) (fr:=fr) (by simp) hk,yd _,fun _ => by rw [G.nils_tv,hf],sz,zbV (fr:=fr) (by simp),by simp only [zbO]⟩
theorem zvZ (R0 : Rel g w r.st) (L : Low r.base r.lim r.st) (F : Fr κ loc nt g w r a) {b : B} {sz : Nat} (ho : o.op = .move (.const (.slice none 0 0)) ∨ o.op = .assign (.const (.slice none 0 0))) (hd : okD κ nt o.dst d = true)
  {r1 : R} (h : anl r d sz b = some r1) (k : znX κ (zaS o.dst d :: loc) nt g w r r1 (a.put o.dst) next) : o.wp P a w next Q:=by
 have hrun:=zoa (P:=P) (w:=w) (a:=a) ho
 cases b with
 | fz =>
   simp only [anl,Option.some.injEq] at h
   subst h
   exact zlF R0 L F hd hrun (by simpa only [vsl,zf,zw,Act.eval] using zrA) k
 | tk =>
   simp only [anl,Option.some.injEq] at h
   subst h
   obtain ⟨H,R1⟩:=zuH R0 sz [0] (fun _ => .slice none 0 0) (fun k n hn => ⟨by
    cases k with
    | zero => simp at hn; exact hn.symm
    | succ k => simp at hn,none,rfl⟩)
   exact zaX (r1:=r.alloc (.tok sz [0])) F hd H R1 (L.append _) rfl rfl hrun (by simp only [zf]; exact zCr (sz:=sz) [0] (by simp) rfl) k
 | rw =>
   simp only [anl,Option.some.injEq] at h
   subst h
   obtain ⟨H,R1⟩:=zn3 R0 sz
   refine zaX (r1:=r.alloc (.cells 0 sz [])) F hd H R1 (L.append _) rfl rfl hrun ?_ k
   simp only [zf,zw,Act.eval]
   exact ⟨0,sz,0,zn (zj6 _ _),yd _,fun _ => ⟨none,0,rfl,yd _,fun _ => rfl,fun h => absurd rfl h⟩,_,_,rfl⟩
theorem zpu {t e : TypeId} {i : TypeInfo} {z : Value} (ht : P.underlying t = some (.slice e)) (hi : P.info? e = some i) (hz : i.zero = some z) {kk : IntKind} {k : Int} (h0 : 0 ≤ k) (hk : k ≤ LIM) (hb : i.bytes ≤ 32768) :
  (Instr.makeSlice t (.int kk k) (.int kk k)).run P w = .ok (.slice (some ⟨w.heap.size,0,none⟩) k.toNat k.toNat) (w.alloc (.cells (madeCells z.cells (k.toNat * i.size)) e)):=by
 unfold LIM at hk
 refine run_make w t e i z ht hi hz kk kk k k h0 (yT _) ?_ (by omega)
 have h1 : (i.bytes : Int) * k ≤ 32768 * k:=yu (by omega) h0
 omega
theorem zyx (R0 : Rel g w r.st) (L : Low r.base r.lim r.st) (F : Fr κ loc nt g w r a) {t e : TypeId} {x : Operand} {sz : Nat} {i : TypeInfo} {zs : List Value} {zero : List C} {fresh : Option (Nat × Nat)}
  (ho : o.op = .makeSlice t x x) (hd : okD κ nt o.dst d = true) (ht : P.underlying t = some (.slice e)) (hi : P.info? e = some i) (hb : i.bytes ≤ 32768) (hs : i.size = sz) (h0 : 0 < sz) (hz : zeroOf P e = some zs) (hzs : zs.length = sz) (hc : ze4 zs zero = true)
  (hf : ∀ j,fresh = some j → zs[j.1]? = some (.slice none 0 0)) {vx : V} (hx : zf g w r.st vx (a.eval x)) {r1 : R} (h : zDU r d zero fresh vx = some r1) (k : znX κ (zaS o.dst d :: loc) nt g w r r1 (a.put o.dst) next) : o.wp P a w next Q:=by
 obtain ⟨i',z,h1,h2,h3⟩:=zc2 hz
 rw [hi] at h1
 injection h1 with h1
 subst h1
 subst h3
 have hzc : z.cells.size = sz:=by simpa using hzs
 obtain ⟨hz1,hz2⟩:=zav (g:=g) (w:=w) (σ:=r.st) hc
 have hzl : zero.length = sz:=by rw [← zC hz1]; exact hzs
 have hrun : ∀ kk m,a.eval x = .int kk m → 0 ≤ m → m ≤ LIM → (execOp a.eval o).run P w = .ok (.value (.slice (some ⟨w.heap.size,0,none⟩) m.toNat m.toNat)) (w.alloc (.cells (madeCells z.cells (m.toNat * sz)).toList.toArray e)):=fun kk m ex m0 m1 => by
  unfold execOp
  simp only [ho,ex,Sem.run_bind,zpu (P:=P) (w:=w) ht hi h2 m0 m1 hb,Result.andThen_ok,Sem.run_pure,hs]
 unfold zDU at h
 split at h
 ·rename_i kk m
  obtain ⟨ex,_⟩:=zA hx
  split at h
  ·rename_i hm
   injection h with h
   subst h
   rw [hzl] at k
   have hlen : (yb m.toNat zero).length = m.toNat:=by simp
   have hl : (madeCells z.cells (m.toNat * sz)).toList.length = (yb m.toNat zero).length * sz:=by simp [size_madeCells]
   have hrow : zca g w r.st (madeCells z.cells (m.toNat * sz)).toList.toArray sz (yb m.toNat zero):=by
    have:=zjK (g:=g) (w:=w) (σ:=r.st) (es:=yb m.toNat zero) hzc h0 (fun e he => by rw [(yH.1 he).2]; exact hz1) hz2
    rw [hlen] at this
    rw [yw]
    exact this
   obtain ⟨H,R1⟩:=zgC R0 e hl hrow
   have hv:=zlP (g:=g) (w:=w) (σ:=r.st) e hl
   rw [hlen] at hv
   exact zaX (r1:=r.alloc (.cells 0 sz (yb m.toNat zero))) F hd H R1 (L.append _) rfl rfl (hrun kk m ex hm.1 hm.2) hv k
  ·cases h
 ·rename_i j kk m
  obtain ⟨ex,_⟩:=zA hx
  split at h
  ·rename_i hm
   injection h with h
   subst h
   rw [hzl] at k
   obtain ⟨H1,R1⟩:=zuH R0 j.2 (yb m.toNat 0) (fun _ => .slice none 0 0) (fun q n hn => ⟨(yH.1 (yf hn)).2,none,rfl⟩)
   have hlen : ((yl m.toNat).map (nest r.st.length zero j.1)).length = m.toNat:=by simp
   have hl : (madeCells z.cells (m.toNat * sz)).toList.length = ((yl m.toNat).map (nest r.st.length zero j.1)).length * sz:=by simp [size_madeCells]
   have hrow : zca (g.nils r.st.length fun _ => .slice none 0 0) w (r.st ++ [.tok j.2 (yb m.toNat 0)]) (madeCells z.cells (m.toNat * sz)).toList.toArray sz ((yl m.toNat).map (nest r.st.length zero j.1)):=by
    have:=zjK (g:=g.nils r.st.length fun _ => .slice none 0 0) (w:=w) (σ:=r.st ++ [.tok j.2 (yb m.toNat 0)]) (es:=(yl m.toNat).map (nest r.st.length zero j.1)) hzc h0 (fun e he => by
     obtain ⟨q,hq,rfl⟩:=yN.1 he
     rw [yG] at hq
     exact zl5 (H1.zv _ _ hz1) (hf j rfl) (zCr _ (by simp [yA,hq]) rfl)) hz2
    rw [hlen] at this
    rw [yw]
    exact this
   obtain ⟨H,R2⟩:=zgC R1 e hl hrow
   have hv:=zlP (g:=g.nils r.st.length fun _ => .slice none 0 0) (w:=w) (σ:=r.st ++ [.tok j.2 (yb m.toNat 0)]) e hl
   rw [hlen] at hv
   refine zaX (r1:=r.allocs [.tok j.2 (yb m.toNat 0),.cells 0 sz ((yl m.toNat).map (nest r.st.length zero j.1))]) F hd (H1.trans (by simpa [R.allocs] using H)) (by simpa [R.allocs] using R2) (L.append _) rfl rfl (hrun kk m ex hm.1 hm.2) (by simpa [R.allocs] using hv) k
  ·cases h
 ·cases h
theorem ztO {σ : zd} (R : Rel g w σ) (sz : Nat) : ∀ n : Nat,∃ g',Ext g w σ g' w (σ ++ yb n (.cells 0 sz [])) ∧ Rel g' w (σ ++ yb n (.cells 0 sz []))
 | 0 => ⟨g,by simpa using Ext.refl g w σ,by simpa using R⟩
 | n + 1 => by
   obtain ⟨g1,H1,R1⟩:=ztO R sz n
   obtain ⟨H2,R2⟩:=zn3 R1 sz
   refine ⟨_,H1.trans (by simpa [yE] using H2),by simpa [yE] using R2⟩
theorem zzR (R0 : Rel g w r.st) (L : Low r.base r.lim r.st) (F : Fr κ loc nt g w r a) {t e : TypeId} {x : Operand} {sz szi : Nat} {i : TypeInfo} {zs : List Value} {zero : List C} {j : Nat}
  (ho : o.op = .makeSlice t x x) (hd : okD κ nt o.dst d = true) (ht : P.underlying t = some (.slice e)) (hi : P.info? e = some i) (hb : i.bytes ≤ 32768) (hs : i.size = sz) (h0 : 0 < sz) (hz : zeroOf P e = some zs) (hzs : zs.length = sz) (hc : ze4 zs zero = true)
  (hf : zs[j]? = some (.slice none 0 0)) {vx : V} (hx : zf g w r.st vx (a.eval x)) {r1 : R} (h : zEs r d zero j szi vx = some r1) (k : znX κ (zaS o.dst d :: loc) nt g w r r1 (a.put o.dst) next) : o.wp P a w next Q:=by
 obtain ⟨i',z,h1,h2,h3⟩:=zc2 hz
 rw [hi] at h1
 injection h1 with h1
 subst h1
 subst h3
 have hzc : z.cells.size = sz:=by simpa using hzs
 obtain ⟨hz1,hz2⟩:=zav (g:=g) (w:=w) (σ:=r.st) hc
 have hzl : zero.length = sz:=by rw [← zC hz1]; exact hzs
 have hrun : ∀ kk m,a.eval x = .int kk m → 0 ≤ m → m ≤ LIM → (execOp a.eval o).run P w = .ok (.value (.slice (some ⟨w.heap.size,0,none⟩) m.toNat m.toNat)) (w.alloc (.cells (madeCells z.cells (m.toNat * sz)).toList.toArray e)):=fun kk m ex m0 m1 => by
  unfold execOp
  simp only [ho,ex,Sem.run_bind,zpu (P:=P) (w:=w) ht hi h2 m0 m1 hb,Result.andThen_ok,Sem.run_pure,hs]
 unfold zEs at h
 split at h
 ·rename_i kk m
  obtain ⟨ex,_⟩:=zA hx
  split at h
  ·rename_i hm
   injection h with h
   subst h
   rw [hzl] at k
   obtain ⟨g1,H1,R1⟩:=ztO R0 szi m.toNat
   have hlen : ((yl m.toNat).map (zpQ r.st.length zero j)).length = m.toNat:=by simp
   have hl : (madeCells z.cells (m.toNat * sz)).toList.length = ((yl m.toNat).map (zpQ r.st.length zero j)).length * sz:=by simp [size_madeCells]
   have hrow : zca g1 w (r.st ++ yb m.toNat (.cells 0 szi [])) (madeCells z.cells (m.toNat * sz)).toList.toArray sz ((yl m.toNat).map (zpQ r.st.length zero j)):=by
    have:=zjK (g:=g1) (w:=w) (σ:=r.st ++ yb m.toNat (.cells 0 szi [])) (es:=(yl m.toNat).map (zpQ r.st.length zero j)) hzc h0 (fun e he => by
     obtain ⟨q,hq,rfl⟩:=yN.1 he
     rw [yG] at hq
     exact zl5 (H1.zv _ _ hz1) hf (zzw hq g1)) hz2
    rw [hlen] at this
    rw [yw]
    exact this
   obtain ⟨H,R2⟩:=zgC R1 e hl hrow
   have hv:=zlP (g:=g1) (w:=w) (σ:=r.st ++ yb m.toNat (.cells 0 szi [])) e hl
   rw [hlen] at hv
   have hll : (r.st ++ yb m.toNat (Ob.cells 0 szi [])).length = r.st.length + m.toNat:=by simp
   rw [hll] at hv
   refine zaX (r1:=r.allocs (yb m.toNat (.cells 0 szi []) ++ [.cells 0 sz ((yl m.toNat).map (zpQ r.st.length zero j))])) F hd (H1.trans (by simpa [R.allocs] using H)) (by simpa [R.allocs] using R2) (L.append _) rfl rfl (hrun kk m ex hm.1 hm.2) (by simpa [R.allocs] using hv) k
  ·cases h
 ·cases h
theorem zyN (R0 : Rel g w r.st) (L : Low r.base r.lim r.st) (F : Fr κ loc nt g w r a) {t : TypeId} (ho : o.op = .makeMap t none) (hd : okD κ nt o.dst d = true)
  (k : znX κ (zaS o.dst d :: loc) nt g w r ((r.alloc (.mp [])).put d (.one (.map r.st.length))) (a.put o.dst) next) : o.wp P a w next Q:=by
 obtain ⟨H,R1⟩:=ztq R0 (.mp []) (.map #[] 0) fun H h1 h2 h3 => ⟨by rw [h1]; exact h2,by rw [h1]; exact h3,#[],0,by rw [h1]; exact zbg w _,⟨[],.nil,by simp,rfl⟩,by simp,by simp⟩
 refine zaX (r1:=r.alloc (.mp [])) F hd H R1 (L.append _) rfl rfl (u:=.map (some w.heap.size)) ?_ ?_ k
 ·unfold execOp
  simp [ho,Instr.makeMap]
 ·simp only [zf,zw]
  exact ⟨⟨[],zj6 _ _⟩,by simp [G.own]⟩
theorem zwS {σ : zd} (R0 : Rel g w σ) {sz c : Nat} {cur : Array Value} (t : TypeId) (hs : cur.size = c * sz) :
  ∃ g',Ext g w σ g' (w.alloc (.cells cur t)) (σ ++ [.tok sz [0]]) ∧ Rel g' (w.alloc (.cells cur t)) (σ ++ [.tok sz [0]]) ∧
    zf g' (w.alloc (.cells cur t)) (σ ++ [.tok sz [0]]) (.one (.ap σ.length 0 [])) (.slice (some ⟨w.heap.size,0,none⟩) 0 c):=by
 let g' : G:={ g with tv:=fun t' k => if t' = σ.length then .slice (some ⟨w.heap.size,0,none⟩) 0 c else g.tv t' k,ow:=zxB g.ow w.heap.size (.tk σ.length 0) }
 have how : ∀ b,b < w.heap.size → g'.ow b = g.ow b:=fun b hb => zaF g.ow (k:=w.heap.size) (i:=b) _ (by omega)
 have htv : ∀ t' k,t' < σ.length → g'.tv t' k = g.tv t' k:=fun t' k h => by
  show (if t' = σ.length then _ else g.tv t' k) = _
  rw [if_neg (by omega)]
 have htv' : ∀ k,g'.tv σ.length k = .slice (some ⟨w.heap.size,0,none⟩) 0 c:=fun k => by
  show (if σ.length = σ.length then _ else _) = _
  rw [if_pos rfl]
 have H : Ext g w σ g' (w.alloc (.cells cur t)) (σ ++ [.tok sz [0]]) :=
  Ext.alloc R0 _ g' (fun _ _ => rfl) (fun t' k n h => htv t' k (by obtain ⟨_,_,h1,_⟩:=zcS h; exact zb h1)) how (fun _ _ _ => Iff.rfl) _
 have hat:=zbg w (.cells cur t)
 refine ⟨g',H,⟨fun b o h => ?_,fun id o h => ?_⟩,?_⟩
 ·rw [size_alloc]
  have:=R0.nb b o h
  omega
 ·by_cases hlt : id < σ.length
  ·rw [ye hlt] at h
   exact zcM H rfl (fun k => htv id k hlt) (fun b hb _ => ⟨heap_alloc_old w _ hb,how b hb,fun _ h => h⟩) (R0.ob id o h)
  ·have hid : id = σ.length:=by
    have:=zb h
    simp at this
    omega
   subst hid
   simp at h
   subst h
   intro k n hn
   cases k with
   | succ k => simp at hn
   | zero =>
     simp at hn
     subst hn
     rw [htv']
     rcases yF c with h0 | h0
     ·exact .inl ⟨rfl,_,by rw [h0]⟩
     ·exact .inr ⟨_,_,_,cur,t,rfl,h0,yU _,zgL _ _ _,hat,by simp [hs],fun o' ho' => absurd (R0.nb _ _ ho') (yQ _)⟩
 ·simp only [zf,zw,rep]
  exact ⟨⟨_,c,sz,rfl,yU _,by simp only [zbO],.inl trivial⟩,0,zdE (sz:=sz) (fr:=[0]) (by simp) (by simp),yd _,fun _ => (htv' 0).symm,sz,zbV (fr:=[0]) (by simp),by simp only [zbO]⟩
theorem zy8 (R0 : Rel g w r.st) (L : Low r.base r.lim r.st) (F : Fr κ loc nt g w r a) {t e : TypeId} {x : Operand} {kl : IntKind} {sz : Nat} {i : TypeInfo} {z : Value}
  (ho : o.op = .makeSlice t (.const (.int kl 0)) x) (hd : okD κ nt o.dst d = true) (ht : P.underlying t = some (.slice e)) (hi : P.info? e = some i) (hb : i.bytes ≤ 32768) (hs : i.size = sz) (hz : i.zero = some z)
  {vx : V} (hx : zf g w r.st vx (a.eval x)) {r1 : R} (h : zEc r d sz vx = some r1) (k : znX κ (zaS o.dst d :: loc) nt g w r r1 (a.put o.dst) next) : o.wp P a w next Q:=by
 unfold zEc at h
 split at h
 ·rename_i kk m
  obtain ⟨ex,_⟩:=zA hx
  split at h
  ·rename_i hm
   injection h with h
   subst h
   have hl : m ≤ LIM:=hm.2
   unfold LIM at hl
   have hrun:=run_make (P:=P) w t e i z ht hi hz kl kk 0 m (yT _) hm.1 (by
    have h1 : (i.bytes : Int) * m ≤ 32768 * m:=yu (by omega) hm.1
    omega) (by omega)
   simp only [Int.toNat_zero] at hrun
   obtain ⟨g',H,R1,hv⟩:=zwS (c:=m.toNat) (sz:=sz) (cur:=madeCells z.cells (m.toNat * i.size)) R0 e (by rw [size_madeCells,hs])
   refine zaX (r1:=r.alloc (.tok sz [0])) F hd H R1 (L.append _) rfl rfl ?_ hv k
   unfold execOp
   have e0 : a.eval (.const (.int kl 0)) = .int kl 0:=rfl
   simp only [ho,ex,e0,Sem.run_bind,hrun,Result.andThen_ok,Sem.run_pure]
  ·cases h
 ·cases h
end
end Go.A
