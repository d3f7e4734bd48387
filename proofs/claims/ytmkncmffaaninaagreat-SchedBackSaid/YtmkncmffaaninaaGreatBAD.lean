/- A part of the proof of SchedBack. Conditions: none. -/
import Derived.Test.YtmkncmffaaninaaGreatBAC
import Derived.Deep.MidRow
import Derived.Laws.AppendOwn
set_option linter.unusedVariables false
set_option linter.unusedSimpArgs false
set_option linter.unusedSectionVars false
open Option renaming map_eq_some_iff → ya,bind_eq_some_iff → yc,getD_some → yi,map_some → yk
open List renaming getElem?_eq_getElem → yb,getElem?_range → yd,getElem?_drop → ye,getElem?_map → yg,getElem?_take → yh,getElem_mem → yl,mem_cons → yo,map_cons → yp,range → yq
open Array renaming getD_eq_getD_getElem? → yf
open Nat renaming add_assoc → yj,le_refl → yn,add_mul → yr
open Bool renaming and_eq_true → ym
namespace Go.A
section
variable {P : Program} {κ : List Tmp} {loc : List (Option Tmp)} {nt : Nat} {g : G} {w : World} {r r' : R} {a : Act} {o : Go.Oper} {d : D} {next : Act → World → Prop} {Q : Exit → Act → World → Prop}
theorem zuj {v : V} {u : Value} {n : Nat} {σ : zb} (hv : zf g w σ v u) (h : zxA v = some n) : ∃ k,u = .int k (n : Int):=by
 unfold zxA at h
 split at h
 ·rename_i k m
  split at h
  ·injection h with h
   obtain ⟨e,_⟩:=zx hv
   exact ⟨k,by rw [e,← h,Int.toNat_of_nonneg (by assumption)]⟩
  ·cases h
 ·cases h
theorem run_sliceBound {k : IntKind} {n y : Nat} (c : BoundsCode) (h : n ≤ y) : (Instr.sliceBound (.int k n) y c).run P w = .ok n w:=by
 have h1 : (n : Int) ≤ (y : Int):=by omega
 simp [Instr.sliceBound,asIntOf,h1]
theorem zei (b : Bool) {len cap lo hi : Nat} {vlo vhi vmx : Option Value} (hlo : (vlo = none ∧ lo = 0) ∨ ∃ k,vlo = some (.int k lo)) (hhi : (vhi = none ∧ vmx = none ∧ hi = len) ∨ ∃ k,vhi = some (.int k hi))
  (hmx : vmx = none ∨ vmx = vhi) (h1 : lo ≤ hi) (h2 : hi ≤ cap) :
  (Instr.sliceBounds b len cap vlo vhi vmx).run P w = .ok (lo,hi,if vmx.isSome then hi else cap) w:=by
 rcases hmx with rfl | rfl
 ·rcases hhi with ⟨rfl,_,rfl⟩ | ⟨k,rfl⟩
  ·rcases hlo with ⟨rfl,rfl⟩ | ⟨k',rfl⟩
   ·simp [Instr.sliceBounds]
   ·simp [Instr.sliceBounds,run_sliceBound _ h1]
  ·rcases hlo with ⟨rfl,rfl⟩ | ⟨k',rfl⟩
   ·simp [Instr.sliceBounds,run_sliceBound _ h2]
   ·simp [Instr.sliceBounds,run_sliceBound _ h1,run_sliceBound _ h2]
 ·rcases hhi with ⟨rfl,_,rfl⟩ | ⟨k,rfl⟩
  ·rcases hlo with ⟨rfl,rfl⟩ | ⟨k',rfl⟩
   ·simp [Instr.sliceBounds]
   ·simp [Instr.sliceBounds,run_sliceBound _ h1]
  ·rcases hlo with ⟨rfl,rfl⟩ | ⟨k',rfl⟩
   ·simp [Instr.sliceBounds,run_sliceBound _ h2,run_sliceBound _ (yn hi)]
   ·simp [Instr.sliceBounds,run_sliceBound _ h1,run_sliceBound _ h2,run_sliceBound _ (yn hi)]
theorem zrK {t e : TypeId} {len cap lo hi sz : Nat} {ad : Option Addr} {vlo vhi vmx : Option Value} (ht : P.underlying t = some (.slice e)) (hs : zeN P e = some sz) (hlo : (vlo = none ∧ lo = 0) ∨ ∃ k,vlo = some (.int k lo)) (hhi : (vhi = none ∧ vmx = none ∧ hi = len) ∨ ∃ k,vhi = some (.int k hi))
  (hmx : vmx = none ∨ vmx = vhi) (h1 : lo ≤ hi) (h2 : hi ≤ cap) :
  (Instr.sliceAt t (.slice ad len cap) vlo vhi vmx).run P w = .ok (.slice (if (if vmx.isSome then hi else cap) = lo then ad else ad.map (·.add (lo * sz))) (hi - lo) ((if vmx.isSome then hi else cap) - lo)) w:=by
 unfold zeN at hs
 cases hq : P.info? e with
 | none => simp [hq] at hs
 | some inf =>
   have hsz : inf.size = sz:=by simpa [hq] using hs
   simp [Instr.sliceAt,Instr.slice,run_underlying ht,zei (w:=w) (P:=P) true hlo hhi hmx h1 h2,sizeOf,typeInfo,hq,hsz]
theorem zm9 {t : TypeId} {lo hi : Nat} {s : ByteArray} {vlo vhi : Option Value} (ht : P.underlying t = some .string) (hlo : (vlo = none ∧ lo = 0) ∨ ∃ k,vlo = some (.int k lo)) (hhi : (vhi = none ∧ hi = s.size) ∨ ∃ k,vhi = some (.int k hi))
  (h1 : lo ≤ hi) (h2 : hi ≤ s.size) :
  (Instr.sliceAt t (.string s) vlo vhi none).run P w = .ok (.string (s.extract lo hi)) w:=by
 have:=zei (w:=w) (P:=P) false (len:=s.size) (cap:=s.size) (vmx:=none) hlo (hhi.imp (fun h => ⟨h.1,rfl,h.2⟩) id) (.inl rfl) h1 h2
 simp [Instr.sliceAt,Instr.slice,run_underlying ht,this]
theorem zqg {N : zdK} {xs : List (List Fz)} {ad : Option Addr} {c lo hi m sz : Nat} (h : rep w N (.sl xs) (.slice ad xs.length c)) (hsz : ∀ e ∈ xs,e.length = sz) (h1 : lo ≤ hi) (h2 : hi ≤ xs.length) (hm : hi ≤ m) :
  rep w N (.sl ((xs.take hi).drop lo)) (.slice (if m = lo then ad else ad.map (·.add (lo * sz))) (hi - lo) (m - lo)):=by
 have hlen : ((xs.take hi).drop lo).length = hi - lo:=by simp; omega
 simp only [rep] at h ⊢
 obtain ⟨ad',c',sz',e1,e2,e3,e4⟩:=h
 injection e1 with e1 _ _
 subst e1
 rw [hlen]
 refine ⟨_,_,sz,rfl,by omega,zbY fun e he => hsz e (List.mem_of_mem_take (List.mem_of_mem_drop he)),?_⟩
 by_cases hz : lo = hi
 ·left
  exact List.eq_nil_of_length_eq_zero (by omega)
 ·right
  have hne : m ≠ lo:=by omega
  rw [if_neg hne]
  rcases e4 with rfl | ⟨b,oo,rfl,e4⟩
  ·simp at h2; omega
  ·have hzz : sz' = sz:=by
    have h0 : 0 < xs.length:=by omega
    rw [← za6 e3 (yb h0)]
    exact hsz _ (yl h0)
   subst hzz
   refine ⟨b,oo + lo * sz',by simp [z8],zcC fun i e hi' => ?_⟩
   rw [ye,yh] at hi'
   split at hi'
   ·have:=zcW e4 hi'
    rwa [yr,← yj] at this
   ·cases hi'
theorem zhZ {loX : Option Go.Operand} {x : Option X} {dflt n : Nat} (hx : ∀ y,x = some y → ∃ y',loX = some y' ∧ zf g w r.st (r.get y) (a.eval y')) (hn : x = none → loX = none) (h : bound r dflt x = some n) :
  (loX.map a.eval = none ∧ n = dflt) ∨ ∃ k,loX.map a.eval = some (.int k n):=by
 cases x with
 | none => simp [bound] at h; left; simp [hn rfl,h]
 | some y =>
   obtain ⟨y',e,hv⟩:=hx y rfl
   obtain ⟨k,hk⟩:=zuj hv h
   right
   exact ⟨k,by simp [e,hk]⟩
theorem zjO {f : Nat → Nat → Option V} {x y : Option Nat} {v : V} (h : two f x y = some v) : ∃ m n,x = some m ∧ y = some n ∧ f m n = some v:=by
 unfold two at h
 split at h
 ·exact ⟨_,_,rfl,rfl,h⟩
 ·cases h
theorem zhX {sz : Nat} : ∀ {xs : List (List Fz)},zjY sz xs = true → ∀ e ∈ xs,e.length = sz
 | [],_,e,he => by simp at he
 | x :: xs,h,e,he => by
   simp only [zjY,ym,decide_eq_true_eq] at h
   rcases yo.1 he with rfl | he
   ·exact h.1
   ·exact zhX h.2 e he
def Opt (g : G) (w : World) (r : R) (a : Act) (x : Option Operand) (y : Option X) : Prop:=(∀ z,y = some z → ∃ z',x = some z' ∧ zf g w r.st (r.get z) (a.eval z')) ∧ (y = none → x = none)
theorem zuK {t e : TypeId} {sz : Nat} {x : Operand} {lo hi mx : Option Operand} {lo' hi' : Option X} {third : Bool} (ho : o.op = .slice t x lo hi mx) (ht : P.underlying t = some (.slice e)) (hs : zeN P e = some sz)
  (hlo : Opt g w r a lo lo') (hhi : Opt g w r a hi hi') (hmx : (mx = none ∧ third = false) ∨ (third = true ∧ hi'.isSome = true ∧ mx.map a.eval = hi.map a.eval))
  {vx v : V} (hx : zf g w r.st vx (a.eval x)) (h : zA1 r sz lo' hi' third vx = some v) :
  ∃ u,(execOp a.eval o).run P w = .ok (.value u) w ∧ zf g w r.st v u:=by
 have key : ∀ {ad : Option Addr} {len cap l h' : Nat},a.eval x = .slice ad len cap → bound r 0 lo' = some l → bound r len hi' = some h' → l ≤ h' → h' ≤ cap →
   ∃ m,h' ≤ m ∧ (third = false → m = cap) ∧ (execOp a.eval o).run P w = .ok (.value (.slice (if m = l then ad else ad.map (·.add (l * sz))) (h' - l) (m - l))) w:=by
  intro ad len cap l h' ex hl hh h1 h2
  have b1:=zhZ (a:=a) hlo.1 hlo.2 hl
  have b2:=zhZ (a:=a) hhi.1 hhi.2 hh
  have bb : (hi.map a.eval = none ∧ mx.map a.eval = none ∧ h' = len) ∨ ∃ k,hi.map a.eval = some (.int k h'):=by
   rcases b2 with ⟨b2,b3⟩ | b2
   ·rcases hmx with ⟨rfl,_⟩ | ⟨_,hs',em⟩
    ·exact .inl ⟨b2,rfl,b3⟩
    ·exact .inl ⟨b2,by rw [em]; exact b2,b3⟩
   ·exact .inr b2
  have bm : mx.map a.eval = none ∨ mx.map a.eval = hi.map a.eval:=by
   rcases hmx with ⟨rfl,_⟩ | ⟨_,_,em⟩
   ·exact .inl rfl
   ·exact .inr em
  have hrun:=zrK (P:=P) (w:=w) (ad:=ad) ht hs b1 bb bm h1 h2
  refine ⟨if (mx.map a.eval).isSome = true then h' else cap,?_,?_,?_⟩
  ·split <;> omega
  ·intro hf
   rcases hmx with ⟨rfl,_⟩ | ⟨h,_⟩
   ·simp
   ·rw [hf] at h; cases h
  ·unfold execOp
   simp only [ho,ex,Sem.run_bind,hrun,Result.andThen_ok,Sem.run_pure]
 unfold zA1 at h
 split at h
 ·rename_i xs
  obtain ⟨l,h',hl,hh,h1⟩:=zjO h
  unfold zvw at h1
  split at h1
  ·rename_i hc
   injection h1 with h1
   subst h1
   have hr:=zor hx
   obtain ⟨ad,c,e1,e2⟩:=zgY hr
   rw [e1] at hr
   obtain ⟨m,k1,_,k3⟩:=key e1 hl hh hc.1 (by omega)
   refine ⟨_,k3,?_⟩
   simp only [vsl,zf,zr]
   exact zqg hr (zhX hc.2.2) hc.1 hc.2.1 k1
  ·cases h1
 ·rename_i xs
  obtain ⟨l,h',hl,hh,h1⟩:=zjO h
  unfold zvw at h1
  split at h1
  ·rename_i hc
   injection h1 with h1
   subst h1
   have hr:=zpa hx
   obtain ⟨ad,c,e1,e2⟩:=zgY hr
   rw [e1] at hr
   obtain ⟨m,k1,_,k3⟩:=key e1 hl hh hc.1 (by omega)
   refine ⟨_,k3,?_⟩
   simp only [vsl,zf,zr]
   exact zqg hr (zhX hc.2.2) hc.1 hc.2.1 k1
  ·cases h1
 ·rename_i id ver l0 n
  split at h
  ·cases h
  ·rename_i hth
   obtain ⟨l,h',hl,hh,h1⟩:=zjO h
   unfold zwM at h1
   split at h1
   ·rename_i hc
    injection h1 with h1
    subst h1
    obtain ⟨c1,c2,c3⟩:=hc
    cases hob : r.st[id]? with
    | none => simp [hob] at c3
    | some ob =>
      simp [hob] at c3
      obtain ⟨es,rfl⟩:=zhM c3
      obtain ⟨ad,c,e1,e2,e3,e4⟩:=zdE hx hob
      obtain ⟨m,k1,k2,k3⟩:=key e1 hl hh c1 (by omega)
      have hm:=k2 (by simpa using hth)
      subst hm
      refine ⟨_,k3,?_⟩
      simp only [zf,zr]
      refine ⟨ver,sz,es.length,zk hob,yn _,fun _ => ⟨_,_,rfl,by omega,fun h0 => by have:=e3 h0; omega,fun h0 => ?_⟩,_,_,rfl⟩
      obtain ⟨f1,f2,arr,ty,f3,f4⟩:=e4 h0
      refine ⟨by omega,fun hne => ?_,arr,ty,f3,?_⟩
      ·rw [if_neg (by omega),f2 (by omega)]
       simp [z8,yr]
      ·have : (l0 + l + (m - l)) = l0 + m:=by omega
       rw [this]; exact f4
   ·cases h1
 ·cases h
theorem zug {t : TypeId} {x : Operand} {lo hi : Option Operand} {lo' hi' : Option X} (ho : o.op = .slice t x lo hi none) (ht : P.underlying t = some .string)
  (hlo : Opt g w r a lo lo') (hhi : Opt g w r a hi hi') {vx v : V} (hx : zf g w r.st vx (a.eval x)) (h : zre r lo' hi' vx = some v) :
  ∃ u,(execOp a.eval o).run P w = .ok (.value u) w ∧ zf g w r.st v u:=by
 unfold zre at h
 split at h
 ·rename_i s
  obtain ⟨l,h',hl,hh,h1⟩:=zjO h
  unfold zzJ at h1
  split at h1
  ·rename_i hc
   injection h1 with h1
   subst h1
   obtain ⟨ex,_⟩:=zx hx
   refine ⟨_,?_,zn rfl⟩
   unfold execOp
   simp only [ho,ex]
   simp [zm9 (P:=P) (w:=w) ht (zhZ (a:=a) hlo.1 hlo.2 hl) (zhZ (a:=a) hhi.1 hhi.2 hh) hc.1 hc.2]
  ·cases h1
 ·cases h
theorem zgN {σ : zb} : ∀ {vs : List V} {us : List Value},zv g w σ vs us → ∀ {i : Nat} {v : V},vs[i]? = some v → ∃ u,us[i]? = some u ∧ zf g w σ v u
 | [],_,_,i,v,h => by simp at h
 | x :: vs,us,hr,i,v,h => by
   simp only [zv] at hr
   obtain ⟨u,us',rfl,h2,h3⟩:=hr
   cases i with
   | zero => simp at h; subst h; exact ⟨u,by simp,h2⟩
   | succ i => simpa using zgN h3 (i:=i) (v:=v) (by simpa using h)
theorem zvE {x : Operand} {i : Nat} (ho : o.op = .extract x i) {vx v : V} (hx : zf g w r.st vx (a.eval x)) (h : zBo i vx = some v) :
  ∃ u,(execOp a.eval o).run P w = .ok (.value u) w ∧ zf g w r.st v u:=by
 unfold zBo at h
 split at h
 ·simp only [zf] at hx
  obtain ⟨us,e,hr⟩:=hx
  obtain ⟨u,hu,hv⟩:=zgN hr h
  refine ⟨u,?_,hv⟩
  have hu' : us[i]? = some u:=by simpa using hu
  unfold execOp
  simp [ho,e,Instr.extract,hu']
 ·cases h
theorem zvz {x : Operand} (ho : o.op = .nilCheck x) {vx v : V} (hx : zf g w r.st vx (a.eval x)) (h : zBk vx = some v) :
  ∃ u,(execOp a.eval o).run P w = .ok (.value u) w ∧ zf g w r.st v u:=by
 unfold zBk at h
 split at h
 ·injection h with h
  subst h
  refine ⟨a.eval x,?_,hx⟩
  simp only [zf,zr] at hx
  obtain ⟨_,_,_,_,_,_,ad,e⟩:=hx
  unfold execOp
  simp [ho,e]
 ·injection h with h
  subst h
  refine ⟨a.eval x,?_,hx⟩
  simp only [zf,zr] at hx
  obtain ⟨_,_,e,_⟩:=hx
  unfold execOp
  simp [ho,e]
 ·injection h with h
  subst h
  refine ⟨a.eval x,?_,hx⟩
  simp only [zf,zr] at hx
  obtain ⟨_,_,e,_⟩:=hx
  unfold execOp
  simp [ho,e]
 ·cases h
theorem zvc {b : Builtin} {isMax : Bool} {x y : Operand} {c : Go.Call} (ho : o.op = .call c) (hc : c.callee = .builtin b) (hb : b = if isMax then .max else .min) (hargs : c.args = #[x,y])
  {vx vy v : V} (hx : zf g w r.st vx (a.eval x)) (hy : zf g w r.st vy (a.eval y)) (h : zBj isMax vx vy = some v) :
  ∃ u,(execOp a.eval o).run P w = .ok (.value u) w ∧ zf g w r.st v u:=by
 unfold zBj at h
 split at h
 ·rename_i k m k' n
  split at h
  ·rename_i hk
   subst hk
   injection h with h
   subst h
   obtain ⟨ex,_⟩:=zx hx
   obtain ⟨ey,_⟩:=zx hy
   cases isMax
   ·simp at hb
    subst hb
    refine ⟨.int k (min m n),?_,zn rfl⟩
    unfold execOp
    simp [ho,resolve,hc,hargs,ex,ey,invoke,builtin,Builtin.min_,Builtin.min2]
    omega
   ·simp at hb
    subst hb
    refine ⟨.int k (max m n),?_,zn rfl⟩
    unfold execOp
    simp [ho,resolve,hc,hargs,ex,ey,invoke,builtin,Builtin.max_,Builtin.max2]
    omega
  ·cases h
 ·cases h
end
end Go.A
namespace Go.A
section
variable {P : Program} {κ : List Tmp} {loc : List (Option Tmp)} {nt : Nat} {g : G} {w : World} {r r' : R} {a : Act} {o : Go.Oper} {d : D} {next : Act → World → Prop} {Q : Exit → Act → World → Prop}
theorem zvH {σ : zb} {id ver i : Nat} {e : List C} (h : σ.elem id ver i = some e) : ∃ sz es,σ[id]? = some (.cells ver sz es) ∧ es[i]? = some e:=by
 unfold zb.elem at h
 rw [yc] at h
 obtain ⟨ob,h1,h2⟩:=h
 unfold Ob.elem at h2
 split at h2
 ·rename_i ver' sz es
  split at h2
  ·rename_i hv
   subst hv
   exact ⟨sz,es,h1,h2⟩
  ·cases h2
 ·cases h2
theorem znT (R0 : Rel g w r.st) {id ver i off : Nat} {e : List C} {u : Value} (he : r.st.elem id ver i = some e) (hx : zf g w r.st (.one (.ptr id ver i off)) u) :
  ∃ b o us,u = .pointer (some ⟨b,o + off,none⟩) ∧ us.length = e.length ∧ zp g w r.st e us ∧ (∀ v ∈ us,v.oneCell' = true) ∧ ∀ j v,us[j]? = some v → w.cell? ⟨b,o + j,none⟩ = some v:=by
 obtain ⟨sz,es,h1,h2⟩:=zvH he
 have hne : es ≠ []:=fun h => by subst h; simp at h2
 obtain ⟨_,_,arr,t,h3,h4,h5⟩:=R0.ob id _ h1 hne
 simp only [zf,zr] at hx
 obtain ⟨v0,sz0,len,k1,k2,k3,_⟩:=hx
 rw [zk h1] at k1
 injection k1 with k1
 injection k1 with e1 k1
 injection k1 with e2 e3
 subst e1 e2 e3
 have hu:=k3 rfl
 obtain ⟨hel,hcells⟩:=h5 i e h2
 refine ⟨g.ρ id,i * sz,(yq e.length).map fun j => arr.getD (i * sz + j) undef,hu,by simp,zhA (by simp) fun j c v hc hv => ?_,fun v hv => ?_,fun j v hv => ?_⟩
 ·obtain ⟨u',k4,k5,_⟩:=hcells j c hc
  rw [yg,yd (za hc)] at hv
  simp only [yk,Option.some.injEq] at hv
  rw [← hv]
  simp only [yf,k4,yi]
  exact k5
 ·rw [List.mem_map] at hv
  obtain ⟨j,hj,rfl⟩:=hv
  rw [List.mem_range] at hj
  obtain ⟨u',k4,_,k6⟩:=hcells j _ (yb hj)
  simp only [yf,k4,yi]
  exact k6
 ·rw [yg] at hv
  have hj:=hv
  cases hr : (yq e.length)[j]? with
  | none => rw [hr] at hv; cases hv
  | some j' =>
    have hlt:=za hr
    simp at hlt
    rw [yd hlt] at hr
    injection hr with hr
    subst hr
    rw [yd hlt] at hv
    simp only [yk,Option.some.injEq] at hv
    obtain ⟨u',k4,_,_⟩:=hcells j _ (yb hlt)
    rw [zeg h3,k4,← hv]
    simp only [yf,k4,yi]
theorem zft {t : TypeId} {b : Bool} (h : zhi P t = some b) : (isAgg t).run P w = .ok b w:=by
 unfold zhi at h
 cases hu : P.underlying t with
 | none => simp [hu] at h
 | some de =>
   simp [hu] at h
   subst h
   unfold isAgg
   rw [Sem.run_bind,run_underlying hu w]
   cases de <;> rfl
theorem zit {t : TypeId} {ad : Addr} {v : Value} (h : zhi P t = some false) (hc : w.cell? ad = some v) : (Instr.loadAt t (.pointer (some ad))).run P w = .ok v w:=by
 simp [Instr.loadAt,Instr.sureAddr,loadVar,zft (w:=w) h,hc]
theorem zis {t : TypeId} {b o n : Nat} {vs : List Value} (h : zhi P t = some true) (hs : zeN P t = some n) (hn : vs.length = n) (hc : ∀ j v,vs[j]? = some v → w.cell? ⟨b,o + j,none⟩ = some v) :
  (Instr.loadAt t (.pointer (some ⟨b,o,none⟩))).run P w = .ok (.agg vs.toArray) w:=by
 have hl : (loadCells ⟨b,o,none⟩ n).run P w = .ok vs.toArray w:=by
  rw [← hn]
  exact run_loadCells_list (P:=P) w ⟨b,o,none⟩ vs (fun j v hv => by rw [z8]; exact hc j v hv)
 unfold zeN at hs
 cases hq : P.info? t with
 | none => simp [hq] at hs
 | some inf =>
   have hsz : inf.size = n:=by simpa [hq] using hs
   simp [Instr.loadAt,Instr.sureAddr,loadVar,zft (w:=w) h,sizeOf,typeInfo,hq,hsz,hl]
theorem zpn {α : Type} {o n : Nat} {e x : List α} (h : cut o n e = some x) : o + n ≤ e.length ∧ x = (e.drop o).take n:=by
 unfold cut at h
 split at h
 ·injection h with h; exact ⟨by assumption,h.symm⟩
 ·cases h
theorem zp2 {σ : zb} {e : List C} {us : List Value} (h : zp g w σ e us) (o n : Nat) : zp g w σ ((e.drop o).take n) ((us.drop o).take n):=by
 have hl:=zy h
 refine zhA (by simp [hl]) fun j c u hc hu => ?_
 rw [yh] at hc hu
 split at hc
 ·rw [if_pos (by assumption),ye] at hu
  rw [ye] at hc
  obtain ⟨u',k1,k2⟩:=zb0 h hc
  rw [k1] at hu
  injection hu with hu
  rw [← hu]
  exact k2
 ·cases hc
theorem zlR {σ : zb} : ∀ {cs : List Fz} {us : List Value},us.length = cs.length → (∀ (j : Nat) (x : Fz) (u : Value),cs[j]? = some x → us[j]? = some u → rep w g.N x u) → zp g w σ (cs.map C.f) us
 | cs,us,hl,h => zhA (by simpa using hl) fun j c u hc hu => by
   rw [yg,ya] at hc
   obtain ⟨x,hx,rfl⟩:=hc
   simp only [zr]
   exact h j x u hx hu
theorem zsx (R0 : Rel g w r.st) {t : TypeId} {x : Operand} {sz : Option Nat} (ho : o.op = .load t x) (hsz : match sz with
   | none => zhi P t = some false
   | some n => zhi P t = some true ∧ zeN P t = some n)
  {vx v : V} (hx : zf g w r.st vx (a.eval x)) (h : ald r.st sz vx = some v) :
  ∃ u,(execOp a.eval o).run P w = .ok (.value u) w ∧ zf g w r.st v u:=by
 unfold ald at h
 split at h
 ·
  rename_i id ver i off
  rw [ya] at h
  obtain ⟨c,h1,rfl⟩:=h
  unfold zb.cell at h1
  rw [yc] at h1
  obtain ⟨e,h1,h2⟩:=h1
  obtain ⟨b,oo,us,k1,k2,k3,_,k5⟩:=znT R0 h1 hx
  obtain ⟨u,k6,k7⟩:=zb0 k3 h2
  refine ⟨u,?_,k7⟩
  unfold execOp
  simp only [ho,k1]
  simp [zit (P:=P) (w:=w) hsz (k5 off u k6)]
 ·
  rename_i cs off
  rw [ya] at h
  obtain ⟨y,h1,rfl⟩:=h
  simp only [zf,zr] at hx
  obtain ⟨b,oo,k1,k2⟩:=hx
  obtain ⟨u,_,k4,k5⟩:=zdz k2 h1
  refine ⟨u,?_,by simpa only [vf,zf,zr] using k5⟩
  unfold execOp
  simp only [ho,k1]
  simp [zit (P:=P) (w:=w) hsz k4]
 ·
  rename_i n id ver i off
  rw [ya] at h
  obtain ⟨e',h1,rfl⟩:=h
  rw [yc] at h1
  obtain ⟨e,h1,h2⟩:=h1
  obtain ⟨hle,rfl⟩:=zpn h2
  obtain ⟨b,oo,us,k1,k2,k3,_,k5⟩:=znT R0 h1 hx
  refine ⟨.agg ((us.drop off).take n).toArray,?_,?_⟩
  ·unfold execOp
   simp only [ho,k1]
   simp [zis (P:=P) (w:=w) (b:=b) (o:=oo + off) (vs:=(us.drop off).take n) hsz.1 hsz.2 (by simp; omega) (fun j v hv => by
    rw [yh] at hv
    split at hv
    ·rw [ye] at hv
     have:=k5 _ _ hv
     rwa [← yj] at this
    ·cases hv)]
  ·simp only [zf]
   exact ⟨_,rfl,by simpa using zp2 k3 off n⟩
 ·rename_i n cs off
  rw [ya] at h
  obtain ⟨e',h1,rfl⟩:=h
  obtain ⟨hle,rfl⟩:=zpn h1
  simp only [zf,zr] at hx
  obtain ⟨b,oo,k1,k2⟩:=hx
  have hcell : ∀ j,j < n → ∃ u,w.cell? ⟨b,oo + off + j,none⟩ = some u ∧ ∀ x,cs[off + j]? = some x → rep w g.N x u:=fun j hj => by
   obtain ⟨u,_,k4,k5⟩:=zdz k2 (yb (by omega : off + j < cs.length))
   refine ⟨u,by rwa [yj],fun x hx => ?_⟩
   rw [yb (by omega : off + j < cs.length)] at hx
   injection hx with hx
   rw [← hx]; exact k5
  let us : List Value:=(yq n).map fun j => (w.cell? ⟨b,oo + off + j,none⟩).getD undef
  refine ⟨.agg us.toArray,?_,?_⟩
  ·unfold execOp
   simp only [ho,k1]
   simp [zis (P:=P) (w:=w) (b:=b) (o:=oo + off) (vs:=us) hsz.1 hsz.2 (by simp [us]) (fun j v hv => by
    simp only [us,yg,ya] at hv
    obtain ⟨j',hj',hv⟩:=hv
    have hlt:=za hj'
    simp at hlt
    rw [yd hlt] at hj'
    injection hj' with hj'
    subst hj'
    obtain ⟨u,k4,_⟩:=hcell j hlt
    rw [k4] at hv ⊢
    simpa using hv)]
  ·simp only [zwY,zf]
   refine ⟨us.toArray,rfl,zlR (by simp [us]; omega) fun j x u hx hu => ?_⟩
   rw [yh] at hx
   split at hx
   ·rename_i hj
    rw [ye] at hx
    obtain ⟨u',k4,k5⟩:=hcell j hj
    have : us[j]? = some u':=by
     simp only [us,yg,yd hj,yk,k4,yi]
    rw [show us.toArray.toList = us from by simp,this] at hu
    injection hu with hu
    rw [← hu]
    exact k5 x hx
   ·cases hx
 ·cases h
theorem zvR {t e : TypeId} {x i : Operand} {len : Nat} (ho : o.op = .index t x i) (ht : P.underlying t = some (.array len e)) (hs : zeN P e = some 1) (hagg : zhi P e = some false)
  {vx vi v : V} (hx : zf g w r.st vx (a.eval x)) (hi : zf g w r.st vi (a.eval i)) (h : zBh len vx vi = some v) :
  ∃ u,(execOp a.eval o).run P w = .ok (.value u) w ∧ zf g w r.st v u:=by
 unfold zBh at h
 split at h
 ·rename_i cs kk k
  obtain ⟨ei,_⟩:=zx hi
  split at h
  ·rename_i hm
   rw [ya] at h
   obtain ⟨c,h1,rfl⟩:=h
   simp only [zf] at hx
   obtain ⟨us,e1,hr⟩:=hx
   obtain ⟨u,k1,k2⟩:=zb0 hr h1
   have k1' : us[k.toNat]? = some u:=by simpa using k1
   refine ⟨u,?_,k2⟩
   unfold zeN at hs
   cases hq : P.info? e with
   | none => simp [hq] at hs
   | some inf =>
     have hsz : inf.size = 1:=by simpa [hq] using hs
     unfold execOp
     simp [ho,e1,ei,Instr.index,asIntOf,run_underlying ht,hm.1,hm.2,sizeOf,typeInfo,hq,hsz,part,zft (w:=w) hagg,k1']
  ·cases h
 ·cases h
theorem zuJ {t : TypeId} {x : Operand} {i off : Nat} {sz : Option Nat} {fs : Array Field} {f : Field} (ho : o.op = .field t x i) (ht : P.underlying t = some (.struct fs)) (hf : fs[i]? = some f) (hoff : f.offset = off)
  (hsz : match sz with
   | none => zhi P f.type = some false
   | some n => zhi P f.type = some true ∧ zeN P f.type = some n)
  {vx v : V} (hx : zf g w r.st vx (a.eval x)) (h : zAP off sz vx = some v) :
  ∃ u,(execOp a.eval o).run P w = .ok (.value u) w ∧ zf g w r.st v u:=by
 subst hoff
 unfold zAP at h
 split at h
 ·rename_i cs
  rw [ya] at h
  obtain ⟨c,h1,rfl⟩:=h
  simp only [zf] at hx
  obtain ⟨us,e,hr⟩:=hx
  obtain ⟨u,k1,k2⟩:=zb0 hr h1
  have k1' : us[f.offset]? = some u:=by simpa using k1
  refine ⟨u,?_,k2⟩
  unfold execOp
  simp [ho,e,Instr.field,run_underlying ht,hf,asAgg,part,zft (w:=w) hsz,k1']
 ·rename_i n cs
  rw [ya] at h
  obtain ⟨cs',h1,rfl⟩:=h
  obtain ⟨hle,rfl⟩:=zpn h1
  simp only [zf] at hx
  obtain ⟨us,e,hr⟩:=hx
  refine ⟨.agg (us.extract f.offset (f.offset + n)),?_,?_⟩
  ·have hs:=hsz.2
   unfold zeN at hs
   cases hq : P.info? f.type with
   | none => simp [hq] at hs
   | some inf =>
     have hsz' : inf.size = n:=by simpa [hq] using hs
     unfold execOp
     simp [ho,e,Instr.field,run_underlying ht,hf,asAgg,part,zft (w:=w) hsz.1,sizeOf,typeInfo,hq,hsz']
  ·simp only [zf]
   refine ⟨_,rfl,?_⟩
   have:=zp2 hr f.offset n
   have e2 : (us.extract f.offset (f.offset + n)).toList = (us.toList.drop f.offset).take n:=by
    rw [Array.toList_extract]
    simp [List.extract,Nat.add_sub_cancel_left]
   rw [e2]
   exact this
 ·cases h
def zvq (κ : List Tmp) (loc : List (Option Tmp)) : List Operand → List X → Bool
 | [],[] => true
 | x :: xs,y :: ys => okX κ loc x y && zvq κ loc xs ys
 | _,_ => false
theorem Fr.gets (F : Fr κ loc nt g w r a) : ∀ {xs : List Operand} {ys : List X},zvq κ loc xs ys = true → zv g w r.st (r.gets ys) (xs.map a.eval)
 | [],[],_ => by simp [R.gets,zv]
 | x :: xs,y :: ys,h => by
   simp only [zvq,ym] at h
   simp only [R.gets,zv,yp]
   exact ⟨_,_,rfl,F.get h.1,F.gets h.2⟩
 | [],_ :: _,h => by simp [zvq] at h
 | _ :: _,[],h => by simp [zvq] at h
theorem zoC {σ : zb} : ∀ {vs : List V} {us : List Value},zv g w σ vs us → zp g w σ (vs.map V.c1) us
 | [],us,h => by simpa only [zv,zp,List.map_nil] using h
 | v :: vs,us,h => by
   simp only [zv] at h
   obtain ⟨x,xs,rfl,h1,h2⟩:=h
   simp only [yp,zp]
   refine ⟨x,xs,rfl,?_,zoC h2⟩
   cases v with
   | one c => simpa only [V.c1,zf] using h1
   | agg cs => simp only [V.c1,zr]
   | tup cs => simp only [V.c1,zr]
theorem zwN (F : Fr κ loc nt g w r a) {f : Nat} {first caps : Array Operand} {first' caps' : List X} (ho : o.op = .makeFunc (.func f) first caps) (h1 : zvq κ loc first.toList first' = true) (h2 : zvq κ loc caps.toList caps' = true) :
  ∃ u,(execOp a.eval o).run P w = .ok (.value u) w ∧ zf g w r.st (.one (.fn f ((r.gets first').map V.c1) ((r.gets caps').map V.c1))) u:=by
 refine ⟨.func (.func f) (first.map a.eval) (caps.map a.eval),?_,?_⟩
 ·unfold execOp
  simp [ho,Instr.makeFunc]
 ·simp only [zf,zr]
  exact ⟨_,_,rfl,by simpa using zoC (F.gets h1),by simpa using zoC (F.gets h2)⟩
end
end Go.A
namespace Go.A
structure Low (base lim : Nat) (σ : zb) : Prop where
 le : True
theorem Low.append {base lim : Nat} {σ : zb} (_ : Low base lim σ) (os : List Ob) : Low base lim (σ ++ os):=⟨trivial⟩
theorem Low.set {base lim : Nat} {σ : zb} (_ : Low base lim σ) {id : Nat} {o : Ob} : Low base lim (σ.set id o):=⟨trivial⟩
def zkO (κ : List Tmp) (loc : List (Option Tmp)) (nt : Nat) (g : G) (w : World) (r r' : R) (pa : Value → Act) (next : Act → World → Prop) : Prop :=
 ∀ g' w' u,Ext g w r.st g' w' r'.st → Rel g' w' r'.st → Low r.base r.lim r'.st → Fr κ loc nt g' w' r' (pa u) → next (pa u) w'
section
variable {P : Program} {κ : List Tmp} {loc : List (Option Tmp)} {nt : Nat} {g : G} {w : World} {r r' : R} {a : Act} {o : Go.Oper} {d : D} {next : Act → World → Prop} {Q : Exit → Act → World → Prop}
theorem zjc (R0 : Rel g w r.st) (L : Low r.base r.lim r.st) (F : Fr κ loc nt g w r a) (hd : okD κ nt o.dst d = true) {v : V} {u : Value} (hrun : (execOp a.eval o).run P w = .ok (.value u) w) (hv : zf g w r.st v u)
  (k : zkO κ (zaj o.dst d :: loc) nt g w r (r.put d v) (a.put o.dst) next) : o.wp P a w next Q:=by
 refine zjS hrun (k g w _ ?_ ?_ ?_ (F.put hd fun _ => hv)) <;> rw [zcP]
 ·exact Ext.refl _ _ _
 ·exact R0
 ·exact L
theorem zas {g' : G} {w' : World} {r1 : R} (F : Fr κ loc nt g w r a) (hd : okD κ nt o.dst d = true) (H : Ext g w r.st g' w' r1.st) (R1 : Rel g' w' r1.st) (L1 : Low r.base r.lim r1.st) (he : r1.env = r.env) (hrs : r1.rs = r.rs)
  {v : V} {u : Value} (hrun : (execOp a.eval o).run P w = .ok (.value u) w') (hv : zf g' w' r1.st v u)
  (k : zkO κ (zaj o.dst d :: loc) nt g w r (r1.put d v) (a.put o.dst) next) : o.wp P a w next Q:=by
 refine zjS hrun (k g' w' _ ?_ ?_ ?_ ((F.ext H he hrs).put hd fun _ => hv)) <;> rw [zcP]
 ·exact H
 ·exact R1
 ·exact L1
theorem zos {g' : G} {w' : World} {r1 : R} (F : Fr κ loc nt g w r a) (hd : okD κ nt o.dst d = true) (hno : d = .no) (H : Ext g w r.st g' w' r1.st) (R1 : Rel g' w' r1.st) (L1 : Low r.base r.lim r1.st) (he : r1.env = r.env) (hrs : r1.rs = r.rs)
  (hrun : (execOp a.eval o).run P w = .ok .skip w') (k : zkO κ (zaj o.dst d :: loc) nt g w r (r1.put d vun) (a.put o.dst) next) : o.wp P a w next Q:=by
 refine zyr hrun (k g' w' _ ?_ ?_ ?_ ((F.ext H he hrs).put hd fun h => absurd hno h)) <;> rw [zcP]
 ·exact H
 ·exact R1
 ·exact L1
theorem zlM {N : zdK} {x : Fz} {u : Value} (h : rep w N x u) : u.oneCell' = true:=by
 cases x with
 | lit v =>
   simp only [rep] at h
   rw [h.1]
   have:=h.2
   cases v <;> simp_all [zuq,Value.oneCell']
 | sl xs =>
   obtain ⟨_,_,e,_⟩:=zgY h
   rw [e]
   rfl
theorem zsg {σ : zb} {c : C} {u : Value} (h : zr g w σ c u) (hc : c ≠ .un) : u.oneCell' = true:=by
 cases c with
 | f x => simp only [zr] at h; exact zlM h
 | ap t k xs => simp only [zr] at h; exact zlM h.1
 | ptr id ver i off => simp only [zr] at h; obtain ⟨_,_,_,_,_,_,_,e⟩:=h; rw [e]; rfl
 | fp cs off => simp only [zr] at h; obtain ⟨_,_,e,_⟩:=h; rw [e]; rfl
 | own id ver lo n => simp only [zr] at h; obtain ⟨_,_,_,_,_,_,_,_,e⟩:=h; rw [e]; rfl
 | map id => simp only [zr] at h; rw [h.2]; rfl
 | fn f x y => simp only [zr] at h; obtain ⟨_,_,e,_⟩:=h; rw [e]; rfl
 | un => exact absurd rfl hc
theorem zv1 : ∀ {cs : List C},C.kns cs = true → ∀ c ∈ cs,c ≠ .un
 | [],_,c,h => by simp at h
 | x :: cs,hk,c,h => by
   cases x <;> simp only [C.kns] at hk <;> first
    | (cases hk; done)
    | (rcases yo.1 h with rfl | h
       ·simp
       ·exact zv1 hk c h)
theorem zvK {σ : zb} {cs : List C} {us : List Value} (h : zp g w σ cs us) (hk : C.kns cs = true) : ∀ u ∈ us,u.oneCell' = true:=fun u hu => by
 obtain ⟨j,hj⟩:=List.mem_iff_getElem?.1 hu
 have hlt:=za hj
 rw [zy h] at hlt
 obtain ⟨u',k1,k2⟩:=zb0 h (yb hlt)
 rw [hj] at k1
 injection k1 with k1
 subst k1
 exact zsg k2 (zv1 hk _ (yl hlt))
theorem zpN {u : Value} (h : u.oneCell' = true) : u.cells = #[u]:=by cases u <;> simp_all [Value.oneCell',Value.cells]
theorem zfz {σ : zb} {v : V} {u : Value} (h : zf g w σ v u) (hk : C.kns v.cells = true) (h0 : 0 < v.cells.length) : zp g w σ v.cells u.cells.toList ∧ ∀ x ∈ u.cells.toList,x.oneCell' = true:=by
 cases v with
 | one c =>
   simp only [zf] at h
   have hc : c ≠ .un:=zv1 (cs:=[c]) hk c (by simp)
   have h1:=zsg h hc
   rw [zpN h1]
   simp only [V.cells,zp]
   exact ⟨⟨u,[],rfl,h,rfl⟩,fun x hx => by simp at hx; rw [hx]; exact h1⟩
 | agg cs =>
   simp only [zf] at h
   obtain ⟨us,e,hr⟩:=h
   rw [e]
   exact ⟨hr,zvK hr hk⟩
 | tup vs => simp [V.cells] at h0
mutual
theorem zkj {σ : zb} : ∀ (c : C) (u : Value),zr g w σ c u → c.lt σ.length = true
 | .f _,_,_ => by simp [C.lt]
 | .ap t k xs,u,h => by
   simp only [zr] at h
   obtain ⟨_,n,h2,_⟩:=h
   obtain ⟨_,_,h3,_⟩:=zbJ h2
   simpa [C.lt] using za h3
 | .ptr id ver i off,u,h => by
   simp only [zr] at h
   obtain ⟨_,_,_,h1,_⟩:=h
   obtain ⟨_,h3,_⟩:=zak h1
   simpa [C.lt] using za h3
 | .fp _ _,_,_ => by simp [C.lt]
 | .own id ver lo n,u,h => by
   simp only [zr] at h
   obtain ⟨_,_,_,h1,_⟩:=h
   obtain ⟨_,h3,_⟩:=zak h1
   simpa [C.lt] using za h3
 | .map id,u,h => by
   simp only [zr] at h
   obtain ⟨⟨_,h3⟩,_⟩:=h
   simpa [C.lt] using za h3
 | .fn f x y,u,h => by
   simp only [zr] at h
   obtain ⟨fs,cs,_,h2,h3⟩:=h
   simp [C.lt,zlm x _ h2,zlm y _ h3]
 | .un,_,_ => by simp [C.lt]
theorem zlm {σ : zb} : ∀ (cs : List C) (us : List Value),zp g w σ cs us → C.lts σ.length cs = true
 | [],_,_ => by simp [C.lts]
 | c :: cs,us,h => by
   simp only [zp] at h
   obtain ⟨v,vs,_,h2,h3⟩:=h
   simp [C.lts,zkj c v h2,zlm cs vs h3]
end
theorem zu5 {n : Nat} : ∀ {cs : List C},C.lts n cs = true ↔ ∀ c ∈ cs,c.lt n = true
 | [] => by simp [C.lts]
 | c :: cs => by simp [C.lts,zu5]
theorem zsI {n : Nat} : ∀ {es : List (List C)},C.ltss n es = true ↔ ∀ e ∈ es,C.lts n e = true
 | [] => by simp [C.ltss]
 | c :: cs => by simp [C.ltss,zsI]
theorem zrc {t : TypeId} {b o : Nat} {arr : Array Value} {ty : TypeId} {u : Value} {n : Nat} (hs : zeN P t = some n) (hn : u.cells.size = n) (hh : w.heap[b]? = some (.cells arr ty (0,0))) (hfit : o + n ≤ arr.size) (h1 : ∀ x ∈ u.cells.toList,x.oneCell' = true) :
  (Instr.storeAt t (.pointer (some ⟨b,o,none⟩)) u).run P w = .ok () (w.setRow b (zbv arr o u.cells.toList)):=by
 have hst:=run_storeCells_at P b o ty u.cells.toList 0 arr w hh (by simpa [hn] using hfit) h1
 simp only [Nat.add_zero] at hst
 unfold zeN at hs
 cases hq : P.info? t with
 | none => simp [hq] at hs
 | some inf =>
   have hsz : inf.size = n:=by simpa [hq] using hs
   simp [Instr.storeAt,Instr.sureAddr,storeVar,sizeOf,typeInfo,hq,hsz,hn,hst,zbv]
theorem zsS (R0 : Rel g w r.st) (L : Low r.base r.lim r.st) (F : Fr κ loc nt g w r a) {t : TypeId} {x v : Operand} {sz : Nat} (ho : o.op = .store t x v) (hd : okD κ nt o.dst d = true) (hno : d = .no) (hs : zeN P t = some sz) (h0 : 0 < sz)
  {vx vv : V} (hx : zf g w r.st vx (a.eval x)) (hv : zf g w r.st vv (a.eval v)) {r1 : R} (h : ast r sz vv.cells vx = some r1)
  (k : zkO κ (zaj o.dst d :: loc) nt g w r (r1.put d vun) (a.put o.dst) next) : o.wp P a w next Q:=by
 unfold ast at h
 split at h
 ·rename_i id ver i off
  split at h
  ·rename_i hlen
   unfold R.write at h
   split at h
   ·rename_i hfits
    rw [ya] at h
    obtain ⟨ob',h1,rfl⟩:=h
    rw [yc] at h1
    obtain ⟨ob,h1,h2⟩:=h1
    unfold Ob.write at h2
    split at h2
    ·rename_i ver' sz' es
     split at h2
     ·rename_i hver
      subst hver
      rw [ya] at h2
      obtain ⟨e',h2,rfl⟩:=h2
      rw [yc] at h2
      obtain ⟨e,h2,h3⟩:=h2
      obtain ⟨k1,k2⟩:=zfz hv hfits (by omega)
      obtain ⟨arr,ty,hh,hfit,HE,HR⟩:=zrC R0 h1 h2 h3 k1 k2
      have hptr : a.eval x = .pointer (some ⟨g.ρ id,i * sz' + off,none⟩):=by
       simp only [zf,zr] at hx
       obtain ⟨v0,s0,l0,m1,_,m3,_⟩:=hx
       rw [zk h1] at m1
       injection m1 with m1
       injection m1 with e1 m1
       injection m1 with e2 e3
       subst e1 e2
       exact m3 rfl
      have hcl:=zy k1
      have hsize : (a.eval v).cells.size = sz:=by rw [← hlen,← hcl]; simp
      refine zos (r1:=r.setOb id (upd ver' sz' i es e')) F hd hno HE HR L.set rfl rfl ?_ k
      ·unfold execOp
       simp only [ho,hptr]
       have hrun:=zrc (P:=P) (w:=w) (u:=a.eval v) (n:=sz) (o:=i * sz' + off) hs hsize hh (by rw [hcl,hlen] at hfit; exact hfit) k2
       simp only [Sem.run_bind,hrun,Result.andThen_ok,Sem.run_pure]
     ·cases h2
    ·cases h2
   ·cases h
  ·cases h
 ·cases h
end
end Go.A
