/- A part of the proof of SchedDepth. Conditions: none. -/
import Derived.Test.YtmkncmffaaninaaGreatDAC
import Derived.Deep.MidRow
import Derived.Laws.AppendOwn
set_option linter.unusedVariables false
set_option linter.unusedSimpArgs false
set_option linter.unusedSectionVars false
open Option renaming map_eq_some_iff → ya,bind_eq_some_iff → yc,getD_some → yi,map_some → yk
open List renaming getElem?_eq_getElem → yb,getElem?_range → yd,getElem?_drop → ye,getElem?_map → yg,getElem?_take → yh,getElem_mem → yl,mem_cons → yo,map_cons → yp,range → yq
open Array renaming getD_eq_getD_getElem? → yf
open Nat renaming add_assoc → yj,le_refl → yn,add_mul → yr
open Bool renaming and_eq_true → ym
namespace Go.A
section
variable {P : Program} {κ : List Tmp} {loc : List (Option Tmp)} {nt : Nat} {g : G} {w : World} {r r' : R} {a : Act} {o : Go.Oper} {d : D} {next : Act → World → Prop} {Q : Exit → Act → World → Prop}
theorem zwg {v : V} {u : Value} {n : Nat} {σ : zd} (hv : zf g w σ v u) (h : zBw v = some n) : ∃ k,u = .int k (n : Int):=by
 unfold zBw at h
 split at h
 ·rename_i k m
  split at h
  ·injection h with h
   obtain ⟨e,_⟩:=zA hv
   exact ⟨k,by rw [e,← h,Int.toNat_of_nonneg (by assumption)]⟩
  ·cases h
 ·cases h
theorem run_sliceBound {k : IntKind} {n y : Nat} (c : BoundsCode) (h : n ≤ y) : (Instr.sliceBound (.int k n) y c).run P w = .ok n w:=by
 have h1 : (n : Int) ≤ (y : Int):=by omega
 simp [Instr.sliceBound,asIntOf,h1]
theorem zgZ (b : Bool) {len cap lo hi : Nat} {vlo vhi vmx : Option Value} (hlo : (vlo = none ∧ lo = 0) ∨ ∃ k,vlo = some (.int k lo)) (hhi : (vhi = none ∧ vmx = none ∧ hi = len) ∨ ∃ k,vhi = some (.int k hi))
  (hmx : vmx = none ∨ vmx = vhi) (h1 : lo ≤ hi) (h2 : hi ≤ cap) :
  (Instr.sliceBounds b len cap vlo vhi vmx).run P w = .ok (lo,hi,if vmx.isSome then hi else cap) w:=by
 rcases hmx with rfl | rfl
 ·rcases hhi with ⟨rfl,_,rfl⟩ | ⟨k,rfl⟩
  ·rcases hlo with ⟨rfl,rfl⟩ | ⟨k',rfl⟩
   ·simp [Instr.sliceBounds]
   ·simp [Instr.sliceBounds,run_sliceBound _ h1]
  ·rcases hlo with ⟨rfl,rfl⟩ | ⟨k',rfl⟩
   ·simp [Instr.sliceBounds,run_sliceBound _ h2]
   ·simp [Instr.sliceBounds,run_sliceBound _ h1,run_sliceBound _ h2]
 ·rcases hhi with ⟨rfl,_,rfl⟩ | ⟨k,rfl⟩
  ·rcases hlo with ⟨rfl,rfl⟩ | ⟨k',rfl⟩
   ·simp [Instr.sliceBounds]
   ·simp [Instr.sliceBounds,run_sliceBound _ h1]
  ·rcases hlo with ⟨rfl,rfl⟩ | ⟨k',rfl⟩
   ·simp [Instr.sliceBounds,run_sliceBound _ h2,run_sliceBound _ (yn hi)]
   ·simp [Instr.sliceBounds,run_sliceBound _ h1,run_sliceBound _ h2,run_sliceBound _ (yn hi)]
theorem zuc {t e : TypeId} {len cap lo hi sz : Nat} {ad : Option Addr} {vlo vhi vmx : Option Value} (ht : P.underlying t = some (.slice e)) (hs : zhf P e = some sz) (hlo : (vlo = none ∧ lo = 0) ∨ ∃ k,vlo = some (.int k lo)) (hhi : (vhi = none ∧ vmx = none ∧ hi = len) ∨ ∃ k,vhi = some (.int k hi))
  (hmx : vmx = none ∨ vmx = vhi) (h1 : lo ≤ hi) (h2 : hi ≤ cap) :
  (Instr.sliceAt t (.slice ad len cap) vlo vhi vmx).run P w = .ok (.slice (if (if vmx.isSome then hi else cap) = lo then ad else ad.map (·.add (lo * sz))) (hi - lo) ((if vmx.isSome then hi else cap) - lo)) w:=by
 unfold zhf at hs
 cases hq : P.info? e with
 | none => simp [hq] at hs
 | some inf =>
   have hsz : inf.size = sz:=by simpa [hq] using hs
   simp [Instr.sliceAt,Instr.slice,run_underlying ht,zgZ (w:=w) (P:=P) true hlo hhi hmx h1 h2,sizeOf,typeInfo,hq,hsz]
theorem zp2 {t : TypeId} {lo hi : Nat} {s : ByteArray} {vlo vhi : Option Value} (ht : P.underlying t = some .string) (hlo : (vlo = none ∧ lo = 0) ∨ ∃ k,vlo = some (.int k lo)) (hhi : (vhi = none ∧ hi = s.size) ∨ ∃ k,vhi = some (.int k hi))
  (h1 : lo ≤ hi) (h2 : hi ≤ s.size) :
  (Instr.sliceAt t (.string s) vlo vhi none).run P w = .ok (.string (s.extract lo hi)) w:=by
 have:=zgZ (w:=w) (P:=P) false (len:=s.size) (cap:=s.size) (vmx:=none) hlo (hhi.imp (fun h => ⟨h.1,rfl,h.2⟩) id) (.inl rfl) h1 h2
 simp [Instr.sliceAt,Instr.slice,run_underlying ht,this]
theorem ztw {N : zf1} {xs : List (List Fz)} {ad : Option Addr} {c lo hi m sz : Nat} (h : rep w N (.sl xs) (.slice ad xs.length c)) (hsz : ∀ e ∈ xs,e.length = sz) (h1 : lo ≤ hi) (h2 : hi ≤ xs.length) (hm : hi ≤ m) :
  rep w N (.sl ((xs.take hi).drop lo)) (.slice (if m = lo then ad else ad.map (·.add (lo * sz))) (hi - lo) (m - lo)):=by
 have hlen : ((xs.take hi).drop lo).length = hi - lo:=by simp; omega
 simp only [rep] at h ⊢
 obtain ⟨ad',c',sz',e1,e2,e3,e4⟩:=h
 injection e1 with e1 _ _
 subst e1
 rw [hlen]
 refine ⟨_,_,sz,rfl,by omega,zdm fun e he => hsz e (List.mem_of_mem_take (List.mem_of_mem_drop he)),?_⟩
 by_cases hz : lo = hi
 ·left
  exact List.eq_nil_of_length_eq_zero (by omega)
 ·right
  have hne : m ≠ lo:=by omega
  rw [if_neg hne]
  rcases e4 with rfl | ⟨b,oo,rfl,e4⟩
  ·simp at h2; omega
  ·have hzz : sz' = sz:=by
    have h0 : 0 < xs.length:=by omega
    rw [← zbQ e3 (yb h0)]
    exact hsz _ (yl h0)
   subst hzz
   refine ⟨b,oo + lo * sz',by simp [zaz],zey fun i e hi' => ?_⟩
   rw [ye,yh] at hi'
   split at hi'
   ·have:=zfb e4 hi'
    rwa [yr,← yj] at this
   ·cases hi'
theorem zkd {loX : Option Go.Operand} {x : Option X} {dflt n : Nat} (hx : ∀ y,x = some y → ∃ y',loX = some y' ∧ zf g w r.st (r.get y) (a.eval y')) (hn : x = none → loX = none) (h : bound r dflt x = some n) :
  (loX.map a.eval = none ∧ n = dflt) ∨ ∃ k,loX.map a.eval = some (.int k n):=by
 cases x with
 | none => simp [bound] at h; left; simp [hn rfl,h]
 | some y =>
   obtain ⟨y',e,hv⟩:=hx y rfl
   obtain ⟨k,hk⟩:=zwg hv h
   right
   exact ⟨k,by simp [e,hk]⟩
theorem zlH {f : Nat → Nat → Option V} {x y : Option Nat} {v : V} (h : two f x y = some v) : ∃ m n,x = some m ∧ y = some n ∧ f m n = some v:=by
 unfold two at h
 split at h
 ·exact ⟨_,_,rfl,rfl,h⟩
 ·cases h
theorem zj2 {sz : Nat} : ∀ {xs : List (List Fz)},znv sz xs = true → ∀ e ∈ xs,e.length = sz
 | [],_,e,he => by simp at he
 | x :: xs,h,e,he => by
   simp only [znv,ym,decide_eq_true_eq] at h
   rcases yo.1 he with rfl | he
   ·exact h.1
   ·exact zj2 h.2 e he
def Opt (g : G) (w : World) (r : R) (a : Act) (x : Option Operand) (y : Option X) : Prop:=(∀ z,y = some z → ∃ z',x = some z' ∧ zf g w r.st (r.get z) (a.eval z')) ∧ (y = none → x = none)
theorem zzk {t e : TypeId} {sz : Nat} {x : Operand} {lo hi mx : Option Operand} {lo' hi' : Option X} {third : Bool} (ho : o.op = .slice t x lo hi mx) (ht : P.underlying t = some (.slice e)) (hs : zhf P e = some sz)
  (hlo : Opt g w r a lo lo') (hhi : Opt g w r a hi hi') (hmx : (mx = none ∧ third = false) ∨ (third = true ∧ hi'.isSome = true ∧ mx.map a.eval = hi.map a.eval))
  {vx v : V} (hx : zf g w r.st vx (a.eval x)) (h : zEK r sz lo' hi' third vx = some v) :
  ∃ u,(execOp a.eval o).run P w = .ok (.value u) w ∧ zf g w r.st v u:=by
 have key : ∀ {ad : Option Addr} {len cap l h' : Nat},a.eval x = .slice ad len cap → bound r 0 lo' = some l → bound r len hi' = some h' → l ≤ h' → h' ≤ cap →
   ∃ m,h' ≤ m ∧ (third = false → m = cap) ∧ (execOp a.eval o).run P w = .ok (.value (.slice (if m = l then ad else ad.map (·.add (l * sz))) (h' - l) (m - l))) w:=by
  intro ad len cap l h' ex hl hh h1 h2
  have b1:=zkd (a:=a) hlo.1 hlo.2 hl
  have b2:=zkd (a:=a) hhi.1 hhi.2 hh
  have bb : (hi.map a.eval = none ∧ mx.map a.eval = none ∧ h' = len) ∨ ∃ k,hi.map a.eval = some (.int k h'):=by
   rcases b2 with ⟨b2,b3⟩ | b2
   ·rcases hmx with ⟨rfl,_⟩ | ⟨_,hs',em⟩
    ·exact .inl ⟨b2,rfl,b3⟩
    ·exact .inl ⟨b2,by rw [em]; exact b2,b3⟩
   ·exact .inr b2
  have bm : mx.map a.eval = none ∨ mx.map a.eval = hi.map a.eval:=by
   rcases hmx with ⟨rfl,_⟩ | ⟨_,_,em⟩
   ·exact .inl rfl
   ·exact .inr em
  have hrun:=zuc (P:=P) (w:=w) (ad:=ad) ht hs b1 bb bm h1 h2
  refine ⟨if (mx.map a.eval).isSome = true then h' else cap,?_,?_,?_⟩
  ·split <;> omega
  ·intro hf
   rcases hmx with ⟨rfl,_⟩ | ⟨h,_⟩
   ·simp
   ·rw [hf] at h; cases h
  ·unfold execOp
   simp only [ho,ex,Sem.run_bind,hrun,Result.andThen_ok,Sem.run_pure]
 unfold zEK at h
 split at h
 ·rename_i xs
  obtain ⟨l,h',hl,hh,h1⟩:=zlH h
  unfold zxW at h1
  split at h1
  ·rename_i hc
   injection h1 with h1
   subst h1
   have hr:=zsd hx
   obtain ⟨ad,c,e1,e2⟩:=zjF hr
   rw [e1] at hr
   obtain ⟨m,k1,_,k3⟩:=key e1 hl hh hc.1 (by omega)
   refine ⟨_,k3,?_⟩
   simp only [vsl,zf,zw]
   exact ztw hr (zj2 hc.2.2) hc.1 hc.2.1 k1
  ·cases h1
 ·rename_i xs
  obtain ⟨l,h',hl,hh,h1⟩:=zlH h
  unfold zxW at h1
  split at h1
  ·rename_i hc
   injection h1 with h1
   subst h1
   have hr:=zsa hx
   obtain ⟨ad,c,e1,e2⟩:=zjF hr
   rw [e1] at hr
   obtain ⟨m,k1,_,k3⟩:=key e1 hl hh hc.1 (by omega)
   refine ⟨_,k3,?_⟩
   simp only [vsl,zf,zw]
   exact ztw hr (zj2 hc.2.2) hc.1 hc.2.1 k1
  ·cases h1
 ·rename_i id ver l0 n
  split at h
  ·cases h
  ·rename_i hth
   obtain ⟨l,h',hl,hh,h1⟩:=zlH h
   unfold zyd at h1
   split at h1
   ·rename_i hc
    injection h1 with h1
    subst h1
    obtain ⟨c1,c2,c3⟩:=hc
    cases hob : r.st[id]? with
    | none => simp [hob] at c3
    | some ob =>
      simp [hob] at c3
      obtain ⟨es,rfl⟩:=zj4 c3
      obtain ⟨ad,c,e1,e2,e3,e4⟩:=zfY hx hob
      obtain ⟨m,k1,k2,k3⟩:=key e1 hl hh c1 (by omega)
      have hm:=k2 (by simpa using hth)
      subst hm
      refine ⟨_,k3,?_⟩
      simp only [zf,zw]
      refine ⟨ver,sz,es.length,zn hob,yn _,fun _ => ⟨_,_,rfl,by omega,fun h0 => by have:=e3 h0; omega,fun h0 => ?_⟩,_,_,rfl⟩
      obtain ⟨f1,f2,arr,ty,f3,f4⟩:=e4 h0
      refine ⟨by omega,fun hne => ?_,arr,ty,f3,?_⟩
      ·rw [if_neg (by omega),f2 (by omega)]
       simp [zaz,yr]
      ·have : (l0 + l + (m - l)) = l0 + m:=by omega
       rw [this]; exact f4
   ·cases h1
 ·cases h
theorem zwr {t : TypeId} {x : Operand} {lo hi : Option Operand} {lo' hi' : Option X} (ho : o.op = .slice t x lo hi none) (ht : P.underlying t = some .string)
  (hlo : Opt g w r a lo lo') (hhi : Opt g w r a hi hi') {vx v : V} (hx : zf g w r.st vx (a.eval x)) (h : zuj r lo' hi' vx = some v) :
  ∃ u,(execOp a.eval o).run P w = .ok (.value u) w ∧ zf g w r.st v u:=by
 unfold zuj at h
 split at h
 ·rename_i s
  obtain ⟨l,h',hl,hh,h1⟩:=zlH h
  unfold zCQ at h1
  split at h1
  ·rename_i hc
   injection h1 with h1
   subst h1
   obtain ⟨ex,_⟩:=zA hx
   refine ⟨_,?_,zt rfl⟩
   unfold execOp
   simp only [ho,ex]
   simp [zp2 (P:=P) (w:=w) ht (zkd (a:=a) hlo.1 hlo.2 hl) (zkd (a:=a) hhi.1 hhi.2 hh) hc.1 hc.2]
  ·cases h1
 ·cases h
theorem zjQ {σ : zd} : ∀ {vs : List V} {us : List Value},zz g w σ vs us → ∀ {i : Nat} {v : V},vs[i]? = some v → ∃ u,us[i]? = some u ∧ zf g w σ v u
 | [],_,_,i,v,h => by simp at h
 | x :: vs,us,hr,i,v,h => by
   simp only [zz] at hr
   obtain ⟨u,us',rfl,h2,h3⟩:=hr
   cases i with
   | zero => simp at h; subst h; exact ⟨u,by simp,h2⟩
   | succ i => simpa using zjQ h3 (i:=i) (v:=v) (by simpa using h)
theorem zyT {x : Operand} {i : Nat} (ho : o.op = .extract x i) {vx v : V} (hx : zf g w r.st vx (a.eval x)) (h : zE2 i vx = some v) :
  ∃ u,(execOp a.eval o).run P w = .ok (.value u) w ∧ zf g w r.st v u:=by
 unfold zE2 at h
 split at h
 ·simp only [zf] at hx
  obtain ⟨us,e,hr⟩:=hx
  obtain ⟨u,hu,hv⟩:=zjQ hr h
  refine ⟨u,?_,hv⟩
  have hu' : us[i]? = some u:=by simpa using hu
  unfold execOp
  simp [ho,e,Instr.extract,hu']
 ·cases h
theorem zxQ {x : Operand} (ho : o.op = .nilCheck x) {vx v : V} (hx : zf g w r.st vx (a.eval x)) (h : zEY vx = some v) :
  ∃ u,(execOp a.eval o).run P w = .ok (.value u) w ∧ zf g w r.st v u:=by
 unfold zEY at h
 split at h
 ·injection h with h
  subst h
  refine ⟨a.eval x,?_,hx⟩
  simp only [zf,zw] at hx
  obtain ⟨_,_,_,_,_,_,ad,e⟩:=hx
  unfold execOp
  simp [ho,e]
 ·injection h with h
  subst h
  refine ⟨a.eval x,?_,hx⟩
  simp only [zf,zw] at hx
  obtain ⟨_,_,e,_⟩:=hx
  unfold execOp
  simp [ho,e]
 ·injection h with h
  subst h
  refine ⟨a.eval x,?_,hx⟩
  simp only [zf,zw] at hx
  obtain ⟨_,_,e,_⟩:=hx
  unfold execOp
  simp [ho,e]
 ·cases h
theorem zya {b : Builtin} {isMax : Bool} {x y : Operand} {c : Go.Call} (ho : o.op = .call c) (hc : c.callee = .builtin b) (hb : b = if isMax then .max else .min) (hargs : c.args = #[x,y])
  {vx vy v : V} (hx : zf g w r.st vx (a.eval x)) (hy : zf g w r.st vy (a.eval y)) (h : zET isMax vx vy = some v) :
  ∃ u,(execOp a.eval o).run P w = .ok (.value u) w ∧ zf g w r.st v u:=by
 unfold zET at h
 split at h
 ·rename_i k m k' n
  split at h
  ·rename_i hk
   subst hk
   injection h with h
   subst h
   obtain ⟨ex,_⟩:=zA hx
   obtain ⟨ey,_⟩:=zA hy
   cases isMax
   ·simp at hb
    subst hb
    refine ⟨.int k (min m n),?_,zt rfl⟩
    unfold execOp
    simp [ho,resolve,hc,hargs,ex,ey,invoke,builtin,Builtin.min_,Builtin.min2]
    omega
   ·simp at hb
    subst hb
    refine ⟨.int k (max m n),?_,zt rfl⟩
    unfold execOp
    simp [ho,resolve,hc,hargs,ex,ey,invoke,builtin,Builtin.max_,Builtin.max2]
    omega
  ·cases h
 ·cases h
end
end Go.A
namespace Go.A
section
variable {P : Program} {κ : List Tmp} {loc : List (Option Tmp)} {nt : Nat} {g : G} {w : World} {r r' : R} {a : Act} {o : Go.Oper} {d : D} {next : Act → World → Prop} {Q : Exit → Act → World → Prop}
theorem zyY {σ : zd} {id ver i : Nat} {e : List C} (h : σ.elem id ver i = some e) : ∃ sz es,σ[id]? = some (.cells ver sz es) ∧ es[i]? = some e:=by
 unfold zd.elem at h
 rw [yc] at h
 obtain ⟨ob,h1,h2⟩:=h
 unfold Ob.elem at h2
 split at h2
 ·rename_i ver' sz es
  split at h2
  ·rename_i hv
   subst hv
   exact ⟨sz,es,h1,h2⟩
  ·cases h2
 ·cases h2
theorem zqZ (R0 : Rel g w r.st) {id ver i off : Nat} {e : List C} {u : Value} (he : r.st.elem id ver i = some e) (hx : zf g w r.st (.one (.ptr id ver i off)) u) :
  ∃ b o us,u = .pointer (some ⟨b,o + off,none⟩) ∧ us.length = e.length ∧ zv g w r.st e us ∧ (∀ v ∈ us,v.oneCell' = true) ∧ ∀ j v,us[j]? = some v → w.cell? ⟨b,o + j,none⟩ = some v:=by
 obtain ⟨sz,es,h1,h2⟩:=zyY he
 have hne : es ≠ []:=fun h => by subst h; simp at h2
 obtain ⟨_,_,arr,t,h3,h4,h5⟩:=R0.ob id _ h1 hne
 simp only [zf,zw] at hx
 obtain ⟨v0,sz0,len,k1,k2,k3,_⟩:=hx
 rw [zn h1] at k1
 injection k1 with k1
 injection k1 with e1 k1
 injection k1 with e2 e3
 subst e1 e2 e3
 have hu:=k3 rfl
 obtain ⟨hel,hcells⟩:=h5 i e h2
 refine ⟨g.ρ id,i * sz,(yq e.length).map fun j => arr.getD (i * sz + j) undef,hu,by simp,zj0 (by simp) fun j c v hc hv => ?_,fun v hv => ?_,fun j v hv => ?_⟩
 ·obtain ⟨u',k4,k5,_⟩:=hcells j c hc
  rw [yg,yd (zb hc)] at hv
  simp only [yk,Option.some.injEq] at hv
  rw [← hv]
  simp only [yf,k4,yi]
  exact k5
 ·rw [List.mem_map] at hv
  obtain ⟨j,hj,rfl⟩:=hv
  rw [List.mem_range] at hj
  obtain ⟨u',k4,_,k6⟩:=hcells j _ (yb hj)
  simp only [yf,k4,yi]
  exact k6
 ·rw [yg] at hv
  have hj:=hv
  cases hr : (yq e.length)[j]? with
  | none => rw [hr] at hv; cases hv
  | some j' =>
    have hlt:=zb hr
    simp at hlt
    rw [yd hlt] at hr
    injection hr with hr
    subst hr
    rw [yd hlt] at hv
    simp only [yk,Option.some.injEq] at hv
    obtain ⟨u',k4,_,_⟩:=hcells j _ (yb hlt)
    rw [zgX h3,k4,← hv]
    simp only [yf,k4,yi]
theorem zhV {t : TypeId} {b : Bool} (h : zjN P t = some b) : (isAgg t).run P w = .ok b w:=by
 unfold zjN at h
 cases hu : P.underlying t with
 | none => simp [hu] at h
 | some de =>
   simp [hu] at h
   subst h
   unfold isAgg
   rw [Sem.run_bind,run_underlying hu w]
   cases de <;> rfl
theorem zkO {t : TypeId} {ad : Addr} {v : Value} (h : zjN P t = some false) (hc : w.cell? ad = some v) : (Instr.loadAt t (.pointer (some ad))).run P w = .ok v w:=by
 simp [Instr.loadAt,Instr.sureAddr,loadVar,zhV (w:=w) h,hc]
theorem zkM {t : TypeId} {b o n : Nat} {vs : List Value} (h : zjN P t = some true) (hs : zhf P t = some n) (hn : vs.length = n) (hc : ∀ j v,vs[j]? = some v → w.cell? ⟨b,o + j,none⟩ = some v) :
  (Instr.loadAt t (.pointer (some ⟨b,o,none⟩))).run P w = .ok (.agg vs.toArray) w:=by
 have hl : (loadCells ⟨b,o,none⟩ n).run P w = .ok vs.toArray w:=by
  rw [← hn]
  exact run_loadCells_list (P:=P) w ⟨b,o,none⟩ vs (fun j v hv => by rw [zaz]; exact hc j v hv)
 unfold zhf at hs
 cases hq : P.info? t with
 | none => simp [hq] at hs
 | some inf =>
   have hsz : inf.size = n:=by simpa [hq] using hs
   simp [Instr.loadAt,Instr.sureAddr,loadVar,zhV (w:=w) h,sizeOf,typeInfo,hq,hsz,hl]
theorem zrL {α : Type} {o n : Nat} {e x : List α} (h : cut o n e = some x) : o + n ≤ e.length ∧ x = (e.drop o).take n:=by
 unfold cut at h
 split at h
 ·injection h with h; exact ⟨by assumption,h.symm⟩
 ·cases h
theorem zth {σ : zd} {e : List C} {us : List Value} (h : zv g w σ e us) (o n : Nat) : zv g w σ ((e.drop o).take n) ((us.drop o).take n):=by
 have hl:=zC h
 refine zj0 (by simp [hl]) fun j c u hc hu => ?_
 rw [yh] at hc hu
 split at hc
 ·rw [if_pos (by assumption),ye] at hu
  rw [ye] at hc
  obtain ⟨u',k1,k2⟩:=zdj h hc
  rw [k1] at hu
  injection hu with hu
  rw [← hu]
  exact k2
 ·cases hc
theorem zoW {σ : zd} : ∀ {cs : List Fz} {us : List Value},us.length = cs.length → (∀ (j : Nat) (x : Fz) (u : Value),cs[j]? = some x → us[j]? = some u → rep w g.N x u) → zv g w σ (cs.map C.f) us
 | cs,us,hl,h => zj0 (by simpa using hl) fun j c u hc hu => by
   rw [yg,ya] at hc
   obtain ⟨x,hx,rfl⟩:=hc
   simp only [zw]
   exact h j x u hx hu
theorem zvB (R0 : Rel g w r.st) {t : TypeId} {x : Operand} {sz : Option Nat} (ho : o.op = .load t x) (hsz : match sz with
   | none => zjN P t = some false
   | some n => zjN P t = some true ∧ zhf P t = some n)
  {vx v : V} (hx : zf g w r.st vx (a.eval x)) (h : ald r.st sz vx = some v) :
  ∃ u,(execOp a.eval o).run P w = .ok (.value u) w ∧ zf g w r.st v u:=by
 unfold ald at h
 split at h
 ·
  rename_i id ver i off
  rw [ya] at h
  obtain ⟨c,h1,rfl⟩:=h
  unfold zd.cell at h1
  rw [yc] at h1
  obtain ⟨e,h1,h2⟩:=h1
  obtain ⟨b,oo,us,k1,k2,k3,_,k5⟩:=zqZ R0 h1 hx
  obtain ⟨u,k6,k7⟩:=zdj k3 h2
  refine ⟨u,?_,k7⟩
  unfold execOp
  simp only [ho,k1]
  simp [zkO (P:=P) (w:=w) hsz (k5 off u k6)]
 ·
  rename_i cs off
  rw [ya] at h
  obtain ⟨y,h1,rfl⟩:=h
  simp only [zf,zw] at hx
  obtain ⟨b,oo,k1,k2⟩:=hx
  obtain ⟨u,_,k4,k5⟩:=zfF k2 h1
  refine ⟨u,?_,by simpa only [vf,zf,zw] using k5⟩
  unfold execOp
  simp only [ho,k1]
  simp [zkO (P:=P) (w:=w) hsz k4]
 ·
  rename_i n id ver i off
  rw [ya] at h
  obtain ⟨e',h1,rfl⟩:=h
  rw [yc] at h1
  obtain ⟨e,h1,h2⟩:=h1
  obtain ⟨hle,rfl⟩:=zrL h2
  obtain ⟨b,oo,us,k1,k2,k3,_,k5⟩:=zqZ R0 h1 hx
  refine ⟨.agg ((us.drop off).take n).toArray,?_,?_⟩
  ·unfold execOp
   simp only [ho,k1]
   simp [zkM (P:=P) (w:=w) (b:=b) (o:=oo + off) (vs:=(us.drop off).take n) hsz.1 hsz.2 (by simp; omega) (fun j v hv => by
    rw [yh] at hv
    split at hv
    ·rw [ye] at hv
     have:=k5 _ _ hv
     rwa [← yj] at this
    ·cases hv)]
  ·simp only [zf]
   exact ⟨_,rfl,by simpa using zth k3 off n⟩
 ·rename_i n cs off
  rw [ya] at h
  obtain ⟨e',h1,rfl⟩:=h
  obtain ⟨hle,rfl⟩:=zrL h1
  simp only [zf,zw] at hx
  obtain ⟨b,oo,k1,k2⟩:=hx
  have hcell : ∀ j,j < n → ∃ u,w.cell? ⟨b,oo + off + j,none⟩ = some u ∧ ∀ x,cs[off + j]? = some x → rep w g.N x u:=fun j hj => by
   obtain ⟨u,_,k4,k5⟩:=zfF k2 (yb (by omega : off + j < cs.length))
   refine ⟨u,by rwa [yj],fun x hx => ?_⟩
   rw [yb (by omega : off + j < cs.length)] at hx
   injection hx with hx
   rw [← hx]; exact k5
  let us : List Value:=(yq n).map fun j => (w.cell? ⟨b,oo + off + j,none⟩).getD undef
  refine ⟨.agg us.toArray,?_,?_⟩
  ·unfold execOp
   simp only [ho,k1]
   simp [zkM (P:=P) (w:=w) (b:=b) (o:=oo + off) (vs:=us) hsz.1 hsz.2 (by simp [us]) (fun j v hv => by
    simp only [us,yg,ya] at hv
    obtain ⟨j',hj',hv⟩:=hv
    have hlt:=zb hj'
    simp at hlt
    rw [yd hlt] at hj'
    injection hj' with hj'
    subst hj'
    obtain ⟨u,k4,_⟩:=hcell j hlt
    rw [k4] at hv ⊢
    simpa using hv)]
  ·simp only [zAq,zf]
   refine ⟨us.toArray,rfl,zoW (by simp [us]; omega) fun j x u hx hu => ?_⟩
   rw [yh] at hx
   split at hx
   ·rename_i hj
    rw [ye] at hx
    obtain ⟨u',k4,k5⟩:=hcell j hj
    have : us[j]? = some u':=by
     simp only [us,yg,yd hj,yk,k4,yi]
    rw [show us.toArray.toList = us from by simp,this] at hu
    injection hu with hu
    rw [← hu]
    exact k5 x hx
   ·cases hx
 ·cases h
theorem zyy {t e : TypeId} {x i : Operand} {len : Nat} (ho : o.op = .index t x i) (ht : P.underlying t = some (.array len e)) (hs : zhf P e = some 1) (hagg : zjN P e = some false)
  {vx vi v : V} (hx : zf g w r.st vx (a.eval x)) (hi : zf g w r.st vi (a.eval i)) (h : zE5 len vx vi = some v) :
  ∃ u,(execOp a.eval o).run P w = .ok (.value u) w ∧ zf g w r.st v u:=by
 unfold zE5 at h
 split at h
 ·rename_i cs kk k
  obtain ⟨ei,_⟩:=zA hi
  split at h
  ·rename_i hm
   rw [ya] at h
   obtain ⟨c,h1,rfl⟩:=h
   simp only [zf] at hx
   obtain ⟨us,e1,hr⟩:=hx
   obtain ⟨u,k1,k2⟩:=zdj hr h1
   have k1' : us[k.toNat]? = some u:=by simpa using k1
   refine ⟨u,?_,k2⟩
   unfold zhf at hs
   cases hq : P.info? e with
   | none => simp [hq] at hs
   | some inf =>
     have hsz : inf.size = 1:=by simpa [hq] using hs
     unfold execOp
     simp [ho,e1,ei,Instr.index,asIntOf,run_underlying ht,hm.1,hm.2,sizeOf,typeInfo,hq,hsz,part,zhV (w:=w) hagg,k1']
  ·cases h
 ·cases h
theorem zym {t : TypeId} {x : Operand} {i off : Nat} {sz : Option Nat} {fs : Array Field} {f : Field} (ho : o.op = .field t x i) (ht : P.underlying t = some (.struct fs)) (hf : fs[i]? = some f) (hoff : f.offset = off)
  (hsz : match sz with
   | none => zjN P f.type = some false
   | some n => zjN P f.type = some true ∧ zhf P f.type = some n)
  {vx v : V} (hx : zf g w r.st vx (a.eval x)) (h : zEl off sz vx = some v) :
  ∃ u,(execOp a.eval o).run P w = .ok (.value u) w ∧ zf g w r.st v u:=by
 subst hoff
 unfold zEl at h
 split at h
 ·rename_i cs
  rw [ya] at h
  obtain ⟨c,h1,rfl⟩:=h
  simp only [zf] at hx
  obtain ⟨us,e,hr⟩:=hx
  obtain ⟨u,k1,k2⟩:=zdj hr h1
  have k1' : us[f.offset]? = some u:=by simpa using k1
  refine ⟨u,?_,k2⟩
  unfold execOp
  simp [ho,e,Instr.field,run_underlying ht,hf,asAgg,part,zhV (w:=w) hsz,k1']
 ·rename_i n cs
  rw [ya] at h
  obtain ⟨cs',h1,rfl⟩:=h
  obtain ⟨hle,rfl⟩:=zrL h1
  simp only [zf] at hx
  obtain ⟨us,e,hr⟩:=hx
  refine ⟨.agg (us.extract f.offset (f.offset + n)),?_,?_⟩
  ·have hs:=hsz.2
   unfold zhf at hs
   cases hq : P.info? f.type with
   | none => simp [hq] at hs
   | some inf =>
     have hsz' : inf.size = n:=by simpa [hq] using hs
     unfold execOp
     simp [ho,e,Instr.field,run_underlying ht,hf,asAgg,part,zhV (w:=w) hsz.1,sizeOf,typeInfo,hq,hsz']
  ·simp only [zf]
   refine ⟨_,rfl,?_⟩
   have:=zth hr f.offset n
   have e2 : (us.extract f.offset (f.offset + n)).toList = (us.toList.drop f.offset).take n:=by
    rw [Array.toList_extract]
    simp [List.extract,Nat.add_sub_cancel_left]
   rw [e2]
   exact this
 ·cases h
def zzf (κ : List Tmp) (loc : List (Option Tmp)) : List Operand → List X → Bool
 | [],[] => true
 | x :: xs,y :: ys => okX κ loc x y && zzf κ loc xs ys
 | _,_ => false
theorem Fr.gets (F : Fr κ loc nt g w r a) : ∀ {xs : List Operand} {ys : List X},zzf κ loc xs ys = true → zz g w r.st (r.gets ys) (xs.map a.eval)
 | [],[],_ => by simp [R.gets,zz]
 | x :: xs,y :: ys,h => by
   simp only [zzf,ym] at h
   simp only [R.gets,zz,yp]
   exact ⟨_,_,rfl,F.get h.1,F.gets h.2⟩
 | [],_ :: _,h => by simp [zzf] at h
 | _ :: _,[],h => by simp [zzf] at h
theorem zru {σ : zd} : ∀ {vs : List V} {us : List Value},zz g w σ vs us → zv g w σ (vs.map V.c1) us
 | [],us,h => by simpa only [zz,zv,List.map_nil] using h
 | v :: vs,us,h => by
   simp only [zz] at h
   obtain ⟨x,xs,rfl,h1,h2⟩:=h
   simp only [yp,zv]
   refine ⟨x,xs,rfl,?_,zru h2⟩
   cases v with
   | one c => simpa only [V.c1,zf] using h1
   | agg cs => simp only [V.c1,zw]
   | tup cs => simp only [V.c1,zw]
theorem zxI (F : Fr κ loc nt g w r a) {f : Nat} {first caps : Array Operand} {first' caps' : List X} (ho : o.op = .makeFunc (.func f) first caps) (h1 : zzf κ loc first.toList first' = true) (h2 : zzf κ loc caps.toList caps' = true) :
  ∃ u,(execOp a.eval o).run P w = .ok (.value u) w ∧ zf g w r.st (.one (.fn f ((r.gets first').map V.c1) ((r.gets caps').map V.c1))) u:=by
 refine ⟨.func (.func f) (first.map a.eval) (caps.map a.eval),?_,?_⟩
 ·unfold execOp
  simp [ho,Instr.makeFunc]
 ·simp only [zf,zw]
  exact ⟨_,_,rfl,by simpa using zru (F.gets h1),by simpa using zru (F.gets h2)⟩
end
end Go.A
namespace Go.A
structure Low (base lim : Nat) (σ : zd) : Prop where
 le : True
theorem Low.append {base lim : Nat} {σ : zd} (_ : Low base lim σ) (os : List Ob) : Low base lim (σ ++ os):=⟨trivial⟩
theorem Low.set {base lim : Nat} {σ : zd} (_ : Low base lim σ) {id : Nat} {o : Ob} : Low base lim (σ.set id o):=⟨trivial⟩
def znE (κ : List Tmp) (loc : List (Option Tmp)) (nt : Nat) (g : G) (w : World) (r r' : R) (pa : Value → Act) (next : Act → World → Prop) : Prop :=
 ∀ g' w' u,Ext g w r.st g' w' r'.st → Rel g' w' r'.st → Low r.base r.lim r'.st → Fr κ loc nt g' w' r' (pa u) → next (pa u) w'
section
variable {P : Program} {κ : List Tmp} {loc : List (Option Tmp)} {nt : Nat} {g : G} {w : World} {r r' : R} {a : Act} {o : Go.Oper} {d : D} {next : Act → World → Prop} {Q : Exit → Act → World → Prop}
theorem zlM (R0 : Rel g w r.st) (L : Low r.base r.lim r.st) (F : Fr κ loc nt g w r a) (hd : okD κ nt o.dst d = true) {v : V} {u : Value} (hrun : (execOp a.eval o).run P w = .ok (.value u) w) (hv : zf g w r.st v u)
  (k : znE κ (zaO o.dst d :: loc) nt g w r (r.put d v) (a.put o.dst) next) : o.wp P a w next Q:=by
 refine zlR hrun (k g w _ ?_ ?_ ?_ (F.put hd fun _ => hv)) <;> rw [zeX]
 ·exact Ext.refl _ _ _
 ·exact R0
 ·exact L
theorem zaV {g' : G} {w' : World} {r1 : R} (F : Fr κ loc nt g w r a) (hd : okD κ nt o.dst d = true) (H : Ext g w r.st g' w' r1.st) (R1 : Rel g' w' r1.st) (L1 : Low r.base r.lim r1.st) (he : r1.env = r.env) (hrs : r1.rs = r.rs)
  {v : V} {u : Value} (hrun : (execOp a.eval o).run P w = .ok (.value u) w') (hv : zf g' w' r1.st v u)
  (k : znE κ (zaO o.dst d :: loc) nt g w r (r1.put d v) (a.put o.dst) next) : o.wp P a w next Q:=by
 refine zlR hrun (k g' w' _ ?_ ?_ ?_ ((F.ext H he hrs).put hd fun _ => hv)) <;> rw [zeX]
 ·exact H
 ·exact R1
 ·exact L1
theorem zrn {g' : G} {w' : World} {r1 : R} (F : Fr κ loc nt g w r a) (hd : okD κ nt o.dst d = true) (hno : d = .no) (H : Ext g w r.st g' w' r1.st) (R1 : Rel g' w' r1.st) (L1 : Low r.base r.lim r1.st) (he : r1.env = r.env) (hrs : r1.rs = r.rs)
  (hrun : (execOp a.eval o).run P w = .ok .skip w') (k : znE κ (zaO o.dst d :: loc) nt g w r (r1.put d vun) (a.put o.dst) next) : o.wp P a w next Q:=by
 refine zBN hrun (k g' w' _ ?_ ?_ ?_ ((F.ext H he hrs).put hd fun h => absurd hno h)) <;> rw [zeX]
 ·exact H
 ·exact R1
 ·exact L1
theorem zo3 {N : zf1} {x : Fz} {u : Value} (h : rep w N x u) : u.oneCell' = true:=by
 cases x with
 | lit v =>
   simp only [rep] at h
   rw [h.1]
   have:=h.2
   cases v <;> simp_all [zxA,Value.oneCell']
 | sl xs =>
   obtain ⟨_,_,e,_⟩:=zjF h
   rw [e]
   rfl
theorem zv4 {σ : zd} {c : C} {u : Value} (h : zw g w σ c u) (hc : c ≠ .un) : u.oneCell' = true:=by
 cases c with
 | f x => simp only [zw] at h; exact zo3 h
 | ap t k xs => simp only [zw] at h; exact zo3 h.1
 | ptr id ver i off => simp only [zw] at h; obtain ⟨_,_,_,_,_,_,_,e⟩:=h; rw [e]; rfl
 | fp cs off => simp only [zw] at h; obtain ⟨_,_,e,_⟩:=h; rw [e]; rfl
 | own id ver lo n => simp only [zw] at h; obtain ⟨_,_,_,_,_,_,_,_,e⟩:=h; rw [e]; rfl
 | map id => simp only [zw] at h; rw [h.2]; rfl
 | fn f x y => simp only [zw] at h; obtain ⟨_,_,e,_⟩:=h; rw [e]; rfl
 | un => exact absurd rfl hc
theorem zxN : ∀ {cs : List C},C.kns cs = true → ∀ c ∈ cs,c ≠ .un
 | [],_,c,h => by simp at h
 | x :: cs,hk,c,h => by
   cases x <;> simp only [C.kns] at hk <;> first
    | (cases hk; done)
    | (rcases yo.1 h with rfl | h
       ·simp
       ·exact zxN hk c h)
theorem zz2 {σ : zd} {cs : List C} {us : List Value} (h : zv g w σ cs us) (hk : C.kns cs = true) : ∀ u ∈ us,u.oneCell' = true:=fun u hu => by
 obtain ⟨j,hj⟩:=List.mem_iff_getElem?.1 hu
 have hlt:=zb hj
 rw [zC h] at hlt
 obtain ⟨u',k1,k2⟩:=zdj h (yb hlt)
 rw [hj] at k1
 injection k1 with k1
 subst k1
 exact zv4 k2 (zxN hk _ (yl hlt))
theorem ztD {u : Value} (h : u.oneCell' = true) : u.cells = #[u]:=by cases u <;> simp_all [Value.oneCell',Value.cells]
theorem zhZ {σ : zd} {v : V} {u : Value} (h : zf g w σ v u) (hk : C.kns v.cells = true) (h0 : 0 < v.cells.length) : zv g w σ v.cells u.cells.toList ∧ ∀ x ∈ u.cells.toList,x.oneCell' = true:=by
 cases v with
 | one c =>
   simp only [zf] at h
   have hc : c ≠ .un:=zxN (cs:=[c]) hk c (by simp)
   have h1:=zv4 h hc
   rw [ztD h1]
   simp only [V.cells,zv]
   exact ⟨⟨u,[],rfl,h,rfl⟩,fun x hx => by simp at hx; rw [hx]; exact h1⟩
 | agg cs =>
   simp only [zf] at h
   obtain ⟨us,e,hr⟩:=h
   rw [e]
   exact ⟨hr,zz2 hr hk⟩
 | tup vs => simp [V.cells] at h0
mutual
theorem zmB {σ : zd} : ∀ (c : C) (u : Value),zw g w σ c u → c.lt σ.length = true
 | .f _,_,_ => by simp [C.lt]
 | .ap t k xs,u,h => by
   simp only [zw] at h
   obtain ⟨_,n,h2,_⟩:=h
   obtain ⟨_,_,h3,_⟩:=zcX h2
   simpa [C.lt] using zb h3
 | .ptr id ver i off,u,h => by
   simp only [zw] at h
   obtain ⟨_,_,_,h1,_⟩:=h
   obtain ⟨_,h3,_⟩:=zaR h1
   simpa [C.lt] using zb h3
 | .fp _ _,_,_ => by simp [C.lt]
 | .own id ver lo n,u,h => by
   simp only [zw] at h
   obtain ⟨_,_,_,h1,_⟩:=h
   obtain ⟨_,h3,_⟩:=zaR h1
   simpa [C.lt] using zb h3
 | .map id,u,h => by
   simp only [zw] at h
   obtain ⟨⟨_,h3⟩,_⟩:=h
   simpa [C.lt] using zb h3
 | .fn f x y,u,h => by
   simp only [zw] at h
   obtain ⟨fs,cs,_,h2,h3⟩:=h
   simp [C.lt,zn8 x _ h2,zn8 y _ h3]
 | .un,_,_ => by simp [C.lt]
theorem zn8 {σ : zd} : ∀ (cs : List C) (us : List Value),zv g w σ cs us → C.lts σ.length cs = true
 | [],_,_ => by simp [C.lts]
 | c :: cs,us,h => by
   simp only [zv] at h
   obtain ⟨v,vs,_,h2,h3⟩:=h
   simp [C.lts,zmB c v h2,zn8 cs vs h3]
end
theorem zxV {n : Nat} : ∀ {cs : List C},C.lts n cs = true ↔ ∀ c ∈ cs,c.lt n = true
 | [] => by simp [C.lts]
 | c :: cs => by simp [C.lts,zxV]
theorem zvq {n : Nat} : ∀ {es : List (List C)},C.ltss n es = true ↔ ∀ e ∈ es,C.lts n e = true
 | [] => by simp [C.ltss]
 | c :: cs => by simp [C.ltss,zvq]
theorem zur {t : TypeId} {b o : Nat} {arr : Array Value} {ty : TypeId} {u : Value} {n : Nat} (hs : zhf P t = some n) (hn : u.cells.size = n) (hh : w.heap[b]? = some (.cells arr ty (0,0))) (hfit : o + n ≤ arr.size) (h1 : ∀ x ∈ u.cells.toList,x.oneCell' = true) :
  (Instr.storeAt t (.pointer (some ⟨b,o,none⟩)) u).run P w = .ok () (w.setRow b (zcS arr o u.cells.toList)):=by
 have hst:=run_storeCells_at P b o ty u.cells.toList 0 arr w hh (by simpa [hn] using hfit) h1
 simp only [Nat.add_zero] at hst
 unfold zhf at hs
 cases hq : P.info? t with
 | none => simp [hq] at hs
 | some inf =>
   have hsz : inf.size = n:=by simpa [hq] using hs
   simp [Instr.storeAt,Instr.sureAddr,storeVar,sizeOf,typeInfo,hq,hsz,hn,hst,zcS]
theorem zvk (R0 : Rel g w r.st) (L : Low r.base r.lim r.st) (F : Fr κ loc nt g w r a) {t : TypeId} {x v : Operand} {sz : Nat} (ho : o.op = .store t x v) (hd : okD κ nt o.dst d = true) (hno : d = .no) (hs : zhf P t = some sz) (h0 : 0 < sz)
  {vx vv : V} (hx : zf g w r.st vx (a.eval x)) (hv : zf g w r.st vv (a.eval v)) {r1 : R} (h : ast r sz vv.cells vx = some r1)
  (k : znE κ (zaO o.dst d :: loc) nt g w r (r1.put d vun) (a.put o.dst) next) : o.wp P a w next Q:=by
 unfold ast at h
 split at h
 ·rename_i id ver i off
  split at h
  ·rename_i hlen
   unfold R.write at h
   split at h
   ·rename_i hfits
    rw [ya] at h
    obtain ⟨ob',h1,rfl⟩:=h
    rw [yc] at h1
    obtain ⟨ob,h1,h2⟩:=h1
    unfold Ob.write at h2
    split at h2
    ·rename_i ver' sz' es
     split at h2
     ·rename_i hver
      subst hver
      rw [ya] at h2
      obtain ⟨e',h2,rfl⟩:=h2
      rw [yc] at h2
      obtain ⟨e,h2,h3⟩:=h2
      obtain ⟨k1,k2⟩:=zhZ hv hfits (by omega)
      obtain ⟨arr,ty,hh,hfit,HE,HR⟩:=zuk R0 h1 h2 h3 k1 k2
      have hptr : a.eval x = .pointer (some ⟨g.ρ id,i * sz' + off,none⟩):=by
       simp only [zf,zw] at hx
       obtain ⟨v0,s0,l0,m1,_,m3,_⟩:=hx
       rw [zn h1] at m1
       injection m1 with m1
       injection m1 with e1 m1
       injection m1 with e2 e3
       subst e1 e2
       exact m3 rfl
      have hcl:=zC k1
      have hsize : (a.eval v).cells.size = sz:=by rw [← hlen,← hcl]; simp
      refine zrn (r1:=r.setOb id (upd ver' sz' i es e')) F hd hno HE HR L.set rfl rfl ?_ k
      ·unfold execOp
       simp only [ho,hptr]
       have hrun:=zur (P:=P) (w:=w) (u:=a.eval v) (n:=sz) (o:=i * sz' + off) hs hsize hh (by rw [hcl,hlen] at hfit; exact hfit) k2
       simp only [Sem.run_bind,hrun,Result.andThen_ok,Sem.run_pure]
     ·cases h2
    ·cases h2
   ·cases h
  ·cases h
 ·cases h
end
end Go.A
