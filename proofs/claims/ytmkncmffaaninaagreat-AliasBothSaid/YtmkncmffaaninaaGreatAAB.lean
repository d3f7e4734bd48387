/- A part of the proof of AliasBoth. Conditions: none. -/
import Derived.Test.YtmkncmffaaninaaGreatAAA
import Derived.Below
import Derived.Laws.CopyRow
import Derived.Deep.Draws
set_option linter.all false
open Array renaming getElem?_eq_some_iff → ya,getElem?_toList → yk
open List renaming getElem?_append_left → yb,getElem?_set_ne → yd,getElem?_append → ye,getElem?_eq_getElem → yf,getElem?_range → yi,getElem?_take → yl,getElem?_drop → ym,length_append → yn,getElem?_set → yp,getElem?_map → yr,map_id → yu,range → yv
open Nat renaming mul_le_mul_right → yc,add_mul → yg,lt_of_lt_of_le → yh,le_refl → yj,le_trans → yo,le_of_not_lt → yq
open Option renaming map_some → yt
namespace Go.A
def zxN : Value → Bool
 | .bool _ | .int _ _ | .float _ _ | .complex _ _ _ | .string _ | .nilFunc | .nilIface => true
 | .pointer none | .map none | .slice none 0 0 => true
 | _ => false
abbrev zeb:=Nat → Nat → Prop
mutual
def rep (w : World) (N : zeb) : Fz → Value → Prop
 | .lit v,u => u = v ∧ zxN v = true
 | .sl xs,u => ∃ a c sz,u = .slice a xs.length c ∧ xs.length ≤ c ∧ zbr sz xs ∧ (xs = [] ∨ ∃ b o,a = some ⟨b,o,none⟩ ∧ zdX w N sz xs b o)
def zfE (w : World) (N : zeb) : List Fz → Nat → Nat → Prop
 | [],_,_ => True
 | x :: xs,b,o => (∃ u,N b o ∧ w.cell? ⟨b,o,none⟩ = some u ∧ rep w N x u) ∧ zfE w N xs b (o + 1)
def zdX (w : World) (N : zeb) : Nat → List (List Fz) → Nat → Nat → Prop
 | _,[],_,_ => True
 | sz,e :: es,b,o => zfE w N e b o ∧ zdX w N sz es b (o + sz)
def zbr : Nat → List (List Fz) → Prop
 | _,[] => True
 | sz,e :: es => e.length = sz ∧ zbr sz es
end
def ze5 (w w' : World) (N N' : zeb) : Prop:=∀ b o,N b o → N' b o ∧ w'.cell? ⟨b,o,none⟩ = w.cell? ⟨b,o,none⟩
theorem ze5.refl (w : World) (N : zeb) : ze5 w w N N:=fun _ _ h => ⟨h,rfl⟩
theorem ze5.trans {w f c : World} {N g e : zeb} (h : ze5 w f N g) (d : ze5 f c g e) : ze5 w c N e:=fun b o a =>
 ⟨(d b o (h b o a).1).1,((d b o (h b o a).1).2).trans (h b o a).2⟩
mutual
theorem zbD {w w' : World} {N e : zeb} (H : ze5 w w' N e) : ∀ (x : Fz) (u : Value),rep w N x u → rep w' e x u
 | .lit v,u,h => by simpa only [rep] using h
 | .sl xs,u,h => by
   simp only [rep] at h ⊢;obtain ⟨a,c,sz,i,f,g,d⟩:=h;refine ⟨a,c,sz,i,f,g,?_⟩;rcases d with d | ⟨b,o,d,j⟩
   ·exact .inl d
   ·exact .inr ⟨b,o,d,zlg H sz xs b o j⟩
theorem zc8 {w w' : World} {N a : zeb} (H : ze5 w w' N a) : ∀ (xs : List Fz) (b o : Nat),zfE w N xs b o → zfE w' a xs b o
 | [],_,_,_ => by simp only [zfE]
 | x :: xs,b,o,h => by
   simp only [zfE] at h ⊢;obtain ⟨⟨u,c,d,f⟩,e⟩:=h;exact ⟨⟨u,(H b o c).1,(H b o c).2.trans d,zbD H x u f⟩,zc8 H xs b (o + 1) e⟩
theorem zlg {w w' : World} {N a : zeb} (H : ze5 w w' N a) : ∀ (sz : Nat) (es : List (List Fz)) (b o : Nat),zdX w N sz es b o → zdX w' a sz es b o
 | _,[],_,_,_ => by simp only [zdX]
 | sz,e :: es,b,o,h => by
   simp only [zdX] at h ⊢;exact ⟨zc8 H e b o h.1,zlg H sz es b (o + sz) h.2⟩
end
section
variable {w : World} {N : zeb}
theorem zba {sz : Nat} : ∀ {es : List (List Fz)},zbr sz es → ∀ {i : Nat} {e : List Fz},es[i]? = some e → e.length = sz
 | [],_,i,e,h => by simp at h
 | x :: xs,hl,i,e,h => by
   simp only [zbr] at hl
   cases i with
   | zero => simp at h; subst h; exact hl.1
   | succ i => exact zba hl.2 (by simpa using h)
theorem zcT {sz : Nat} : ∀ {es : List (List Fz)},(∀ e ∈ es,e.length = sz) → zbr sz es
 | [],_ => by simp only [zbr]
 | x :: xs,h => by
   simp only [zbr];exact ⟨h x (by simp),zcT fun e he => h e (by simp [he])⟩
theorem zdd {sz : Nat} {es : List (List Fz)} (h : zbr sz es) : ∀ e ∈ es,e.length = sz:=fun e he => by
 obtain ⟨i,a⟩:=List.mem_iff_getElem?.1 he;exact zba h a
theorem zeK : ∀ {cs : List Fz} {b o : Nat},zfE w N cs b o → ∀ {j : Nat} {x : Fz},cs[j]? = some x → ∃ u,N b (o + j) ∧ w.cell? ⟨b,o + j,none⟩ = some u ∧ rep w N x u
 | [],_,_,_,j,x,h => by simp at h
 | y :: ys,b,o,hr,j,x,h => by
   simp only [zfE] at hr
   cases j with
   | zero => simp at h; subst h; exact hr.1
   | succ j =>
     have:=zeK hr.2 (j:=j) (x:=x) (by simpa using h)
     rwa [show o + (j + 1) = o + 1 + j from by omega]
theorem zf4 : ∀ {cs : List Fz} {b o : Nat},(∀ j x,cs[j]? = some x → ∃ u,N b (o + j) ∧ w.cell? ⟨b,o + j,none⟩ = some u ∧ rep w N x u) → zfE w N cs b o
 | [],_,_,_ => by simp only [zfE]
 | y :: ys,b,o,h => by
   simp only [zfE];refine ⟨by simpa using h 0 y (by simp),zf4 fun j x a => ?_⟩;have:=h (j + 1) x (by simpa using a)
   rwa [show o + (j + 1) = o + 1 + j from by omega] at this
theorem zda {sz : Nat} : ∀ {es : List (List Fz)} {b o : Nat},zdX w N sz es b o → ∀ {i : Nat} {e : List Fz},es[i]? = some e → zfE w N e b (o + i * sz)
 | [],_,_,_,i,e,h => by simp at h
 | y :: ys,b,o,hr,i,e,h => by
   simp only [zdX] at hr
   cases i with
   | zero => simp at h; subst h; simpa using hr.1
   | succ i =>
     have:=zda hr.2 (i:=i) (e:=e) (by simpa using h)
     rwa [show o + (i + 1) * sz = o + sz + i * sz from by rw [yg]; omega]
theorem zdI {sz : Nat} : ∀ {es : List (List Fz)} {b o : Nat},(∀ i e,es[i]? = some e → zfE w N e b (o + i * sz)) → zdX w N sz es b o
 | [],_,_,_ => by simp only [zdX]
 | y :: ys,b,o,h => by
   simp only [zdX];refine ⟨by simpa using h 0 y (by simp),zdI fun i e a => ?_⟩;have:=h (i + 1) e (by simpa using a)
   rwa [show o + (i + 1) * sz = o + sz + i * sz from by rw [yg]; omega] at this
end
inductive Ow where
 | no
 | ob (id : Nat)
 | tk (t k : Nat)
structure G where
 ρ : Nat → Nat
 tv : Nat → Nat → Value
 ow : Nat → Ow
 N : zeb
def Ob.shape : Ob → Option (Nat × Nat × Nat)
 | .cells ver sz es => some (ver,sz,es.length)
 | _ => none
def shapeOf (σ : zb) (id : Nat) : Option (Nat × Nat × Nat):=(σ[id]?).bind Ob.shape
def Ob.fr (k : Nat) : Ob → Option Nat
 | .tok _ fr => fr[k]?
 | _ => none
def zkF (σ : zb) (t k : Nat) : Option Nat:=(σ[t]?).bind (Ob.fr k)
def Ob.tsz : Ob → Option Nat
 | .tok sz _ => some sz
 | _ => none
def zlR (σ : zb) (t : Nat) : Option Nat:=(σ[t]?).bind Ob.tsz
def zya (w : World) (b sz len lo n : Nat) (u : Value) : Prop :=
 ∃ a c,u = .slice a n c ∧ n ≤ c ∧ (len = 0 → c = 0) ∧ (len ≠ 0 → lo + n ≤ len ∧ (c ≠ 0 → a = some ⟨b,lo * sz,none⟩) ∧ ∃ arr t,w.heap[b]? = some (.cells arr t (0,0)) ∧ (lo + c) * sz ≤ arr.size)
mutual
def zq (g : G) (w : World) (σ : zb) : C → Value → Prop
 | .f x,u => rep w g.N x u
 | .ap t k xs,u => rep w g.N (.sl xs) u ∧ ∃ n,zkF σ t k = some n ∧ xs.length ≤ n ∧ (xs.length = n → u = g.tv t k) ∧ ∃ sz,zlR σ t = some sz ∧ zbr sz xs
 | .ptr id ver i off,u => ∃ ver0 sz len,shapeOf σ id = some (ver0,sz,len) ∧ ver ≤ ver0 ∧ (ver = ver0 → u = .pointer (some ⟨g.ρ id,i * sz + off,none⟩)) ∧ ∃ ad,u = .pointer (some ad)
 | .fp cs off,u => ∃ b o,u = .pointer (some ⟨b,o + off,none⟩) ∧ zfE w g.N cs b o
 | .own id ver lo n,u => ∃ ver0 sz len,shapeOf σ id = some (ver0,sz,len) ∧ ver ≤ ver0 ∧ (ver = ver0 → zya w (g.ρ id) sz len lo n u) ∧ ∃ ad c,u = .slice ad n c
 | .map id,u => (∃ es,σ[id]? = some (.mp es)) ∧ u = .map (some (g.ρ id))
 | .fn f first caps,u => ∃ fs cs,u = .func (.func f) fs cs ∧ zm g w σ first fs.toList ∧ zm g w σ caps cs.toList
 | .un,_ => True
def zm (g : G) (w : World) (σ : zb) : List C → List Value → Prop
 | [],us => us = []
 | c :: cs,us => ∃ v vs,us = v :: vs ∧ zq g w σ c v ∧ zm g w σ cs vs
end
mutual
def ze (g : G) (w : World) (σ : zb) : V → Value → Prop
 | .one c,u => zq g w σ c u
 | .agg cs,u => ∃ us,u = .agg us ∧ zm g w σ cs us.toList
 | .tup vs,u => ∃ us,u = .tuple us ∧ zv g w σ vs us.toList
def zv (g : G) (w : World) (σ : zb) : List V → List Value → Prop
 | [],us => us = []
 | v :: vs,us => ∃ x xs,us = x :: xs ∧ ze g w σ v x ∧ zv g w σ vs xs
end
structure Ext (g : G) (w : World) (σ : zb) (g' : G) (w' : World) (σ' : zb) : Prop where
 os : w'.os = w.os
 tape : w'.tape = w.tape
 output : w'.output = w.output
 size : w.heap.size ≤ w'.heap.size
 keeps : ze5 w w' g.N g'.N
 len : σ.length ≤ σ'.length
 shape : ∀ id ver sz len,shapeOf σ id = some (ver,sz,len) →
  (shapeOf σ' id = some (ver,sz,len) ∧ g'.ρ id = g.ρ id ∧ (len ≠ 0 → ∀ arr t,w.heap[g.ρ id]? = some (.cells arr t (0,0)) → ∃ arr',w'.heap[g.ρ id]? = some (.cells arr' t (0,0)) ∧ arr'.size = arr.size)) ∨
  ∃ ver1 len1,shapeOf σ' id = some (ver1,sz,len1) ∧ ver < ver1
 map : ∀ id es,σ[id]? = some (.mp es) → g'.ρ id = g.ρ id ∧ ∃ es',σ'[id]? = some (.mp es')
 tok : ∀ t k n,zkF σ t k = some n → ∃ n',zkF σ' t k = some n' ∧ n ≤ n' ∧ (n = n' → g'.tv t k = g.tv t k)
 tsz : ∀ t sz,zlR σ t = some sz → zlR σ' t = some sz
 ow : ∀ b,b < w.heap.size → g'.ow b = g.ow b
 new : ∀ b o,g'.N b o → b < w.heap.size → g.ow b = .no → g.N b o
 frame : ∀ b,b < w.heap.size → g.ow b = .no → w'.heap[b]? = w.heap[b]?
theorem Ext.refl (g : G) (w : World) (σ : zb) : Ext g w σ g w σ where
 os:=rfl
 tape:=rfl
 output:=rfl
 size:=yj _
 keeps:=ze5.refl _ _
 len:=yj _
 shape:=fun id b sz len h => .inl ⟨h,rfl,fun _ arr t a => ⟨arr,a,rfl⟩⟩
 map:=fun id es h => ⟨rfl,es,h⟩
 tok:=fun t k n h => ⟨n,h,yj _,fun _ => rfl⟩
 tsz:=fun _ _ h => h
 ow:=fun _ _ => rfl
 new:=fun _ _ h _ _ => h
 frame:=fun _ _ _ => rfl
theorem Ext.trans {g D y : G} {w B z : World} {σ σ1 σ2 : zb} (h : Ext g w σ D B σ1) (k : Ext D B σ1 y z σ2) : Ext g w σ y z σ2 where
 os:=k.os.trans h.os
 tape:=k.tape.trans h.tape
 output:=k.output.trans h.output
 size:=yo h.size k.size
 keeps:=h.keeps.trans k.keeps
 len:=yo h.len k.len
 shape:=fun id p sz len K => by
  rcases h.shape id p sz len K with ⟨a,b,c⟩ | ⟨v1,q,a,b⟩
  ·rcases k.shape id p sz len a with ⟨d,i,u⟩ | ⟨v1,q,d,i⟩
   ·refine .inl ⟨d,i.trans b,fun C arr t L => ?_⟩
    obtain ⟨j,J,E⟩:=c C arr t L;obtain ⟨m,H,N⟩:=u C j t (by rw [b]; exact J);exact ⟨m,by rw [← b]; exact H,N.trans E⟩
   ·exact .inr ⟨v1,q,d,i⟩
  ·rcases k.shape id v1 sz q a with ⟨d,_⟩ | ⟨v2,M,d,i⟩
   ·exact .inr ⟨v1,q,d,b⟩
   ·exact .inr ⟨v2,M,d,Nat.lt_trans b i⟩
 map:=fun id es hm => by
  obtain ⟨a,s,b⟩:=h.map id es hm;obtain ⟨d,x,i⟩:=k.map id s b;exact ⟨d.trans a,x,i⟩
 tok:=fun t A n r => by
  obtain ⟨v,a,b,c⟩:=h.tok t A n r;obtain ⟨n2,d,i,u⟩:=k.tok t A v a
  exact ⟨n2,d,yo b i,fun e => by
   have I : n = v:=(by omega);have e2 : v = n2:=by omega
   exact (u e2).trans (c I)⟩
 tsz:=fun t sz O => k.tsz t sz (h.tsz t sz O)
 ow:=fun b f => (k.ow b (yh f h.size)).trans (h.ow b f)
 new:=fun b o r f l => h.new b o (k.new b o r (yh f h.size) ((h.ow b f).trans l)) f l
 frame:=fun b f l => (k.frame b (yh f h.size) ((h.ow b f).trans l)).trans (h.frame b f l)
mutual
theorem Ext.zq {g g' : G} {w w' : World} {σ σ' : zb} (H : Ext g w σ g' w' σ') : ∀ (c : C) (u : Value),zq g w σ c u → Go.A.zq g' w' σ' c u
 | .f x,u,h => by
   simp only [Go.A.zq] at h ⊢;exact zbD H.keeps x u h
 | .ap t k xs,u,h => by
   simp only [Go.A.zq] at h ⊢;obtain ⟨j,n,d,m,l,sz,B,J⟩:=h;obtain ⟨s,a,b,c⟩:=H.tok t k n d;refine ⟨zbD H.keeps _ u j,s,a,by omega,fun e => ?_,sz,H.tsz t sz B,J⟩;have r : n = s:=(by omega);rw [c r];exact l (by omega)
 | .ptr id ver i off,u,h => by
   simp only [Go.A.zq] at h ⊢;obtain ⟨v0,sz,len,j,d,m,l⟩:=h;rcases H.shape id v0 sz len j with ⟨a,b,_⟩ | ⟨v1,q,a,b⟩
   ·exact ⟨v0,sz,len,a,d,by rw [b]; exact m,l⟩
   ·exact ⟨v1,sz,q,a,by omega,fun e => by omega,l⟩
 | .fp cs off,u,h => by
   simp only [Go.A.zq] at h ⊢;obtain ⟨b,o,j,d⟩:=h;exact ⟨b,o,j,zc8 H.keeps cs b o d⟩
 | .own id ver lo n,u,h => by
   simp only [Go.A.zq] at h ⊢;obtain ⟨v0,sz,len,j,d,m,l⟩:=h;rcases H.shape id v0 sz len j with ⟨a,b,c⟩ | ⟨v1,q,a,b⟩
   ·refine ⟨v0,sz,len,a,d,fun e => ?_,l⟩
    obtain ⟨ad,cp,r,e2,D,E⟩:=m e;refine ⟨ad,cp,r,e2,D,fun v => ?_⟩;obtain ⟨f1,f2,arr,t,f3,f4⟩:=E v;obtain ⟨p,I,y⟩:=c v arr t f3;exact ⟨f1,by rw [b]; exact f2,p,t,by rw [b]; exact I,by rw [y]; exact f4⟩
   ·exact ⟨v1,sz,q,a,by omega,fun e => by omega,l⟩
 | .map id,u,h => by
   simp only [Go.A.zq] at h ⊢;obtain ⟨⟨es,j⟩,d⟩:=h;obtain ⟨a,es',b⟩:=H.map id es j;exact ⟨⟨es',b⟩,by rw [a]; exact d⟩
 | .fn f a b,u,h => by
   simp only [Go.A.zq] at h ⊢;obtain ⟨z,cs,j,d,m⟩:=h;exact ⟨z,cs,j,Ext.zm H a _ d,Ext.zm H b _ m⟩
 | .un,_,_ => by simp only [Go.A.zq]
theorem Ext.zm {g g' : G} {w w' : World} {σ σ' : zb} (H : Ext g w σ g' w' σ') : ∀ (cs : List C) (us : List Value),zm g w σ cs us → Go.A.zm g' w' σ' cs us
 | [],us,h => by simpa only [Go.A.zm] using h
 | c :: cs,us,h => by
   simp only [Go.A.zm] at h ⊢;obtain ⟨v,vs,d,a,b⟩:=h;exact ⟨v,vs,d,Ext.zq H c v a,Ext.zm H cs vs b⟩
end
mutual
theorem Ext.ze {g g' : G} {w w' : World} {σ σ' : zb} (H : Ext g w σ g' w' σ') : ∀ (c : V) (u : Value),ze g w σ c u → Go.A.ze g' w' σ' c u
 | .one c,u,h => by
   simp only [Go.A.ze] at h ⊢;exact H.zq c u h
 | .agg cs,u,h => by
   simp only [Go.A.ze] at h ⊢;obtain ⟨us,b,a⟩:=h;exact ⟨us,b,H.zm cs _ a⟩
 | .tup vs,u,h => by
   simp only [Go.A.ze] at h ⊢;obtain ⟨us,b,a⟩:=h;exact ⟨us,b,Ext.zv H vs _ a⟩
theorem Ext.zv {g g' : G} {w w' : World} {σ σ' : zb} (H : Ext g w σ g' w' σ') : ∀ (cs : List V) (us : List Value),zv g w σ cs us → Go.A.zv g' w' σ' cs us
 | [],us,h => by simpa only [Go.A.zv] using h
 | c :: cs,us,h => by
   simp only [Go.A.zv] at h ⊢;obtain ⟨v,vs,d,a,b⟩:=h;exact ⟨v,vs,d,Ext.ze H c v a,Ext.zv H cs vs b⟩
end
def zmT (g : G) (w : World) (σ : zb) : List (Int × V) → List MapEntry → Prop
 | [],es => es = []
 | x :: xs,es => ∃ e rest,es = e :: rest ∧ e.key = .int .i64 x.1 ∧ ze g w σ x.2 e.val ∧ zmT g w σ xs rest
def zjr (g : G) (w : World) (σ : zb) (es : List (Int × V)) (zB : List MapEntry) (clock : Nat) : Prop :=
 (∃ es',es'.Perm es ∧ (es'.map (·.1)).Nodup ∧ zmT g w σ es' zB) ∧ (zB.map (·.born)).Nodup ∧ ∀ e ∈ zB,e.born < clock
def zb9 (g : G) (w : World) (σ : zb) (arr : Array Value) (sz : Nat) (es : List (List C)) : Prop :=
 ∀ i e,es[i]? = some e → e.length = sz ∧ ∀ j c,e[j]? = some c → ∃ u,arr[i * sz + j]? = some u ∧ zq g w σ c u ∧ u.oneCell' = true
def zyl (g : G) (w : World) (σ : zb) (id : Nat) : Ob → Prop
 | .cells _ sz es => es ≠ [] → g.ow (g.ρ id) = .ob id ∧ (∀ o,¬ g.N (g.ρ id) o) ∧ ∃ arr t,w.heap[g.ρ id]? = some (.cells arr t (0,0)) ∧ es.length * sz ≤ arr.size ∧ zb9 g w σ arr sz es
 | .mp es => g.ow (g.ρ id) = .ob id ∧ (∀ o,¬ g.N (g.ρ id) o) ∧ ∃ zB clock,w.heap[g.ρ id]? = some (.map zB clock) ∧ zjr g w σ es zB.toList clock
 | .tok sz fr => ∀ k n,fr[k]? = some n → (n = 0 ∧ ∃ a,g.tv id k = .slice a 0 0) ∨
  ∃ b o c arr t,g.tv id k = .slice (some ⟨b,o,none⟩) n c ∧ 0 < c ∧ n ≤ c ∧ g.ow b = .tk id k ∧ w.heap[b]? = some (.cells arr t (0,0)) ∧ o + c * sz ≤ arr.size ∧ ∀ o',g.N b o' → o' < o + n * sz
structure Rel (g : G) (w : World) (σ : zb) : Prop where
 nb : ∀ b o,g.N b o → b < w.heap.size
 ob : ∀ id o,σ[id]? = some o → zyl g w σ id o
theorem Ext.zb9 {g g' : G} {w w' : World} {σ σ' : zb} (H : Ext g w σ g' w' σ') {arr : Array Value} {sz : Nat} {es : List (List C)} (h : zb9 g w σ arr sz es) : Go.A.zb9 g' w' σ' arr sz es :=
 fun i e d => ⟨(h i e d).1,fun j c f => by
  obtain ⟨u,a,b,c1⟩:=(h i e d).2 j c f
  exact ⟨u,a,H.zq c u b,c1⟩⟩
theorem Ext.zmT {g g' : G} {w w' : World} {σ σ' : zb} (H : Ext g w σ g' w' σ') : ∀ {es : List (Int × V)} {zB : List MapEntry},zmT g w σ es zB → Go.A.zmT g' w' σ' es zB
 | [],_,h => h
 | x :: xs,_,h => by
   obtain ⟨e,rest,d,a,c,b⟩:=h;exact ⟨e,rest,d,a,H.ze _ _ c,Ext.zmT H b⟩
theorem zu3 {g : G} {w : World} {σ : zb} {es a : List (Int × V)} {zB : List MapEntry} {clock : Nat} (h : es.Perm a) (hm : zjr g w σ es zB clock) : zjr g w σ a zB clock:=by
 obtain ⟨⟨es',e,b,d⟩,c⟩:=hm;exact ⟨⟨es',e.trans h,b,d⟩,c⟩
theorem zlW {g g' : G} {w w' : World} {σ σ' : zb} {es : List (Int × V)} {zB : List MapEntry} {clock : Nat} (h : zjr g w σ es zB clock) (f : Int × V → Int × V) (d : ∀ e,(f e).1 = e.1) (k : ∀ es',es'.Perm es → Go.A.zmT g w σ es' zB → Go.A.zmT g' w' σ' (es'.map f) zB) : Go.A.zjr g' w' σ' (es.map f) zB clock:=by
 obtain ⟨⟨es',a,b,i⟩,c⟩:=h;refine ⟨⟨es'.map f,a.map f,?_,k es' a i⟩,c⟩
 have e : (es'.map f).map (·.1) = es'.map (·.1):=by
  rw [List.map_map];exact List.map_congr_left fun e _ => d e
 rw [e];exact b
theorem Ext.zjr {g g' : G} {w w' : World} {σ σ' : zb} (H : Ext g w σ g' w' σ') {es : List (Int × V)} {zB : List MapEntry} {clock : Nat} (h : zjr g w σ es zB clock) : Go.A.zjr g' w' σ' es zB clock:=by
 have:=zlW (g':=g') (w':=w') (σ':=σ') h id (fun _ => rfl) (fun es' _ h => by rw [yu]; exact H.zmT h)
 rwa [yu] at this
end Go.A
namespace Go.A
def zr1 {α : Type} (f : Nat → α) (k : Nat) (v : α) : Nat → α:=fun i => if i = k then v else f i
@[simp] theorem zcv {α : Type} (f : Nat → α) (k : Nat) (v : α) : zr1 f k v k = v:=by simp [zr1]
theorem zP {α : Type} (f : Nat → α) {k i : Nat} (v : α) (h : i ≠ k) : zr1 f k v i = f i:=by simp [zr1,h]
theorem zao {σ : zb} {id a sz len : Nat} (h : shapeOf σ id = some (a,sz,len)) : ∃ es,σ[id]? = some (.cells a sz es) ∧ es.length = len:=by
 unfold shapeOf at h
 cases b : σ[id]? with
 | none => simp [b] at h
 | some o =>
   cases o with
   | cells v s es => simp [b,Ob.shape] at h; exact ⟨es,by simp [h],h.2.2⟩
   | tok s fr => simp [b,Ob.shape] at h
   | mp es => simp [b,Ob.shape] at h
theorem zo {σ : zb} {id a sz : Nat} {es : List (List C)} (h : σ[id]? = some (.cells a sz es)) : shapeOf σ id = some (a,sz,es.length):=by simp [shapeOf,h,Ob.shape]
theorem zb7 {σ : zb} {t k n : Nat} (h : zkF σ t k = some n) : ∃ sz fr,σ[t]? = some (.tok sz fr) ∧ fr[k]? = some n:=by
 unfold zkF at h
 cases a : σ[t]? with
 | none => simp [a] at h
 | some o =>
   cases o with
   | cells v s es => simp [a,Ob.fr] at h
   | tok s fr => simp [a,Ob.fr] at h; exact ⟨s,fr,rfl,h⟩
   | mp es => simp [a,Ob.fr] at h
theorem zct {σ : zb} {t k n sz : Nat} {fr : List Nat} (h : σ[t]? = some (.tok sz fr)) (a : fr[k]? = some n) : zkF σ t k = some n:=by simp [zkF,h,Ob.fr,a]
theorem zdh {σ : zb} {t sz : Nat} (h : zlR σ t = some sz) : ∃ fr,σ[t]? = some (.tok sz fr):=by
 unfold zlR at h
 cases a : σ[t]? with
 | none => simp [a] at h
 | some o =>
   cases o with
   | cells v s es => simp [a,Ob.tsz] at h
   | tok s fr => simp [a,Ob.tsz] at h; exact ⟨fr,by rw [h]⟩
   | mp es => simp [a,Ob.tsz] at h
theorem zbC {σ : zb} {t sz : Nat} {fr : List Nat} (h : σ[t]? = some (.tok sz fr)) : zlR σ t = some sz:=by simp [zlR,h,Ob.tsz]
theorem za {α : Type} {l : List α} {i : Nat} {x : α} (h : l[i]? = some x) : i < l.length:=(List.getElem?_eq_some_iff.1 h).1
section
variable {g g' : G} {w w' : World} {σ σ' : zb}
def zrh (g : G) (w : World) (g' : G) (w' : World) (b : Nat) : Prop:=w'.heap[b]? = w.heap[b]? ∧ g'.ow b = g.ow b ∧ ∀ o,g'.N b o → g.N b o
theorem zbi (H : Ext g w σ g' w' σ') {id : Nat} {o : Ob} (x : g'.ρ id = g.ρ id) (A : ∀ k,g'.tv id k = g.tv id k)
  (q : ∀ b,b < w.heap.size → g.ow b = .ob id ∨ (∃ k,g.ow b = .tk id k) → zrh g w g' w' b) (h : zyl g w σ id o) : zyl g' w' σ' id o:=by
 cases o with
 | cells ver sz es =>
   intro r;obtain ⟨e,i,arr,t,d,f,p⟩:=h r;have a : g.ρ id < w.heap.size:=(ya.1 d).1;obtain ⟨m,l,j⟩:=q _ a (.inl e);rw [x];exact ⟨l.trans e,fun o s => i o (j o s),arr,t,m.trans d,f,H.zb9 p⟩
 | mp es =>
   obtain ⟨e,i,zB,clock,d,f⟩:=h;have a : g.ρ id < w.heap.size:=(ya.1 d).1;obtain ⟨m,l,j⟩:=q _ a (.inl e);unfold zyl;rw [x];exact ⟨l.trans e,fun o s => i o (j o s),zB,clock,m.trans d,H.zjr f⟩
 | tok sz fr =>
   intro k n y;rw [A];rcases h k n y with h | ⟨b,o,c,arr,t,e,i,d,f,p,B,z⟩
   ·exact .inl h
   ·have a : b < w.heap.size:=(ya.1 p).1
    obtain ⟨m,l,j⟩:=q _ a (.inr ⟨k,f⟩);exact .inr ⟨b,o,c,arr,t,e,i,d,l.trans f,m.trans p,B,fun v u => z v (j v u)⟩
theorem heap_alloc_old (w : World) (o : Obj) {b : Nat} (h : b < w.heap.size) : (w.alloc o).heap[b]? = w.heap[b]?:=by
 show (w.heap.push o)[b]? = _
 rw [Array.getElem?_push,if_neg (by omega)]
theorem z7 (w : World) (o : Obj) : (w.alloc o).heap[w.heap.size]? = some o:=by
 show (w.heap.push o)[w.heap.size]? = _
 simp
theorem zn0 (w : World) (o : Obj) {b i : Nat} (h : b < w.heap.size) : (w.alloc o).cell? ⟨b,i,none⟩ = w.cell? ⟨b,i,none⟩:=by
 unfold World.cell?;rw [heap_alloc_old w o h]
theorem size_alloc (w : World) (o : Obj) : (w.alloc o).heap.size = w.heap.size + 1:=World.size_alloc w o
theorem Ext.alloc (R : Rel g w σ) (o : Obj) (g' : G) (j : ∀ id,id < σ.length → g'.ρ id = g.ρ id) (p : ∀ t k n,zkF σ t k = some n → g'.tv t k = g.tv t k) (hw : ∀ b,b < w.heap.size → g'.ow b = g.ow b)
  (f : ∀ b o,b < w.heap.size → (g'.N b o ↔ g.N b o)) (os : List Ob) : Ext g w σ g' (w.alloc o) (σ ++ os) where
 os:=rfl
 tape:=rfl
 output:=rfl
 size:=by rw [size_alloc]; omega
 keeps:=fun b i h => ⟨(f b i (R.nb b i h)).2 h,zn0 w o (R.nb b i h)⟩
 len:=by simp
 shape:=fun id m sz len h => by
  obtain ⟨es,a,e⟩:=zao h;have c:=za a;refine .inl ⟨by unfold shapeOf; rw [yb c]; exact h,j id c,fun _ arr t l => ⟨arr,?_,rfl⟩⟩;rw [heap_alloc_old w o (ya.1 l).1];exact l
 map:=fun id es h => ⟨j id (za h),es,by rw [yb (za h)]; exact h⟩
 tok:=fun t k n h => by
  obtain ⟨sz,fr,a,e⟩:=zb7 h;exact ⟨n,zct (by rw [yb (za a)]; exact a) e,yj _,fun _ => p t k n h⟩
 tsz:=fun t sz h => by
  obtain ⟨fr,a⟩:=zdh h;exact zbC (fr:=fr) (by rw [yb (za a)]; exact a)
 ow:=hw
 new:=fun b i h d _ => (f b i d).1 h
 frame:=fun b d _ => heap_alloc_old w o d
def G.freeze (g : G) (b : Nat) : G:={ g with N:=fun b' o => g.N b' o ∨ b' = b }
theorem zqz (R : Rel g w σ) (o : Obj) : Ext g w σ (g.freeze w.heap.size) (w.alloc o) σ ∧ Rel (g.freeze w.heap.size) (w.alloc o) σ:=by
 have c : ∀ b i,b < w.heap.size → ((g.freeze w.heap.size).N b i ↔ g.N b i):=fun b i a =>
  ⟨fun h => h.elim id (fun e => by omega),.inl⟩
 have H : Ext g w σ (g.freeze w.heap.size) (w.alloc o) σ:=by
  have:=Ext.alloc R o (g.freeze w.heap.size) (fun _ _ => rfl) (fun _ _ _ _ => rfl) (fun _ _ => rfl) c [];simpa using this
 refine ⟨H,⟨fun b i h => ?_,fun id ob h => zbi H rfl (fun _ => rfl) (fun b a _ => ⟨heap_alloc_old w o a,rfl,fun i => (c b i a).1⟩) (R.ob id ob h)⟩⟩;rw [size_alloc];rcases h with h | h
 ·have:=R.nb b i h; omega
 ·omega
def G.own (g : G) (id b : Nat) : G:={ g with ρ:=zr1 g.ρ id b,ow:=zr1 g.ow b (.ob id) }
theorem zrx (R : Rel g w σ) (ob : Ob) (o : Obj) (a : ∀ {g' : G} {σ' : zb},Ext g w σ g' (w.alloc o) σ' → g'.ρ σ.length = w.heap.size → g'.ow w.heap.size = .ob σ.length → (∀ i,¬ g'.N w.heap.size i) → zyl g' (w.alloc o) σ' σ.length ob) :
  Ext g w σ (g.own σ.length w.heap.size) (w.alloc o) (σ ++ [ob]) ∧ Rel (g.own σ.length w.heap.size) (w.alloc o) (σ ++ [ob]):=by
 have H : Ext g w σ (g.own σ.length w.heap.size) (w.alloc o) (σ ++ [ob]) :=
  Ext.alloc R o (g.own σ.length w.heap.size) (fun id h => zP g.ρ (k:=σ.length) (i:=id) _ (by omega)) (fun _ _ _ _ => rfl) (fun b h => zP g.ow (k:=w.heap.size) (i:=b) _ (by omega)) (fun _ _ _ => Iff.rfl) [ob]
 refine ⟨H,⟨fun b i h => by rw [size_alloc]; have:=R.nb b i h; omega,fun id x h => ?_⟩⟩
 by_cases c : id < σ.length
 ·rw [yb c] at h
  exact zbi H (zP g.ρ (k:=σ.length) (i:=id) _ (by omega)) (fun _ => rfl) (fun b f _ => ⟨heap_alloc_old w o f,zP g.ow (k:=w.heap.size) (i:=b) _ (by omega),fun _ h => h⟩) (R.ob id x h)
 ·have d : id = σ.length:=by
   have:=za h;simp at this;omega
  subst d;simp at h;subst h;exact a H (by simp [G.own]) (by simp [G.own]) (fun i e => by have:=R.nb _ i e; omega)
theorem zsQ {id j : Nat} {new : Ob} (σ : zb) : (σ.set id new)[j]? = if id = j ∧ id < σ.length then some new else σ[j]?:=by
 rw [yp]
 by_cases h : id = j
 ·subst h
  by_cases a : id < σ.length
  ·simp [a]
  ·simp [a,List.getElem?_eq_none (yq a)]
 ·simp [h]
theorem zrp {id j : Nat} {new : Ob} (h : j ≠ id) : shapeOf (σ.set id new) j = shapeOf σ j:=by
 unfold shapeOf;rw [yd (Ne.symm h)]
theorem zwj {id j k : Nat} {new : Ob} (h : j ≠ id) : zkF (σ.set id new) j k = zkF σ j k:=by
 unfold zkF;rw [yd (Ne.symm h)]
theorem zn {id : Nat} {a new : Ob} (h : σ[id]? = some a) : (σ.set id new)[id]? = some new:=by
 rw [zsQ];simp [za h]
theorem replace {id : Nat} {r new : Ob} (R : Rel g w σ) (l : σ[id]? = some r) (m : Nat → Prop)
  (J : w'.os = w.os) (y : w'.tape = w.tape) (G : w'.output = w.output) (A : w.heap.size ≤ w'.heap.size)
  (f : ∀ b,b < w.heap.size → ¬ m b → zrh g w g' w' b)
  (i : ∀ b,m b → (g.ow b = .ob id ∨ ∃ k,g.ow b = .tk id k) ∧ g'.ow b = g.ow b ∧ ∀ o,g.N b o → g'.N b o ∧ w'.cell? ⟨b,o,none⟩ = w.cell? ⟨b,o,none⟩)
  (V : ∀ b o,¬ m b → g.N b o → g'.N b o)
  (Q : ∀ j,j ≠ id → g'.ρ j = g.ρ j) (B : ∀ j k,j ≠ id → g'.tv j k = g.tv j k)
  (L : ∀ b o,g'.N b o → b < w'.heap.size)
  (q : ∀ ver sz len,shapeOf σ id = some (ver,sz,len) →
   (shapeOf (σ.set id new) id = some (ver,sz,len) ∧ g'.ρ id = g.ρ id ∧ (len ≠ 0 → ∀ arr t,w.heap[g.ρ id]? = some (.cells arr t (0,0)) → ∃ arr',w'.heap[g.ρ id]? = some (.cells arr' t (0,0)) ∧ arr'.size = arr.size)) ∨
   ∃ ver1 len1,shapeOf (σ.set id new) id = some (ver1,sz,len1) ∧ ver < ver1)
  (E : ∀ es,r = .mp es → g'.ρ id = g.ρ id ∧ ∃ es',new = .mp es')
  (D : ∀ k n,zkF σ id k = some n → ∃ n',zkF (σ.set id new) id k = some n' ∧ n ≤ n' ∧ (n = n' → g'.tv id k = g.tv id k))
  (C : ∀ sz fr,r = .tok sz fr → ∃ fr',new = .tok sz fr')
  (z : Ext g w σ g' w' (σ.set id new) → zyl g' w' (σ.set id new) id new) :
  Ext g w σ g' w' (σ.set id new) ∧ Rel g' w' (σ.set id new):=by
 have u : ∀ b o,b < w.heap.size → ¬ m b → w'.cell? ⟨b,o,none⟩ = w.cell? ⟨b,o,none⟩:=fun b o p c => by
  unfold World.cell?;rw [(f b p c).1]
 have v : ze5 w w' g.N g'.N:=fun b o h => by
  by_cases c : m b
  ·exact (i b c).2.2 o h
  ·exact ⟨V b o c h,u b o (R.nb b o h) c⟩
 have H : Ext g w σ g' w' (σ.set id new):={
  os:=J
  tape:=y
  output:=G
  size:=A
  keeps:=v
  len:=by simp
  shape:=fun j ver sz len d => by
   by_cases e : j = id
   ·subst e; exact q ver sz len d
   ·refine .inl ⟨by rw [zrp e]; exact d,Q j e,fun W arr t X => ⟨arr,?_,rfl⟩⟩
    obtain ⟨es,s,I⟩:=zao d;have M : es ≠ []:=fun h => by subst h; exact W I.symm
    obtain ⟨S,_,arr',Y,U,_⟩:=R.ob j _ s M;have K : g.ρ j < w.heap.size:=(ya.1 U).1
    have c : ¬ m (g.ρ j):=fun c => by
     rcases (i _ c).1 with h | ⟨k,h⟩
     ·rw [S] at h; injection h with h; exact e h
     ·rw [S] at h; cases h
    rw [(f _ K c).1]; exact X
  map:=fun j es d => by
   by_cases e : j = id
   ·subst e
    obtain ⟨a,es',b⟩:=E es (by rw [l] at d; injection d);exact ⟨a,es',by rw [zn l,b]⟩
   ·exact ⟨Q j e,es,by rw [yd (Ne.symm e)]; exact d⟩
  tok:=fun j k n d => by
   by_cases e : j = id
   ·subst e; exact D k n d
   ·exact ⟨n,by rw [zwj e]; exact d,yj _,fun _ => B j k e⟩
  tsz:=fun j sz d => by
   obtain ⟨fr,s⟩:=zdh d
   by_cases e : j = id
   ·subst e
    rw [l] at s;injection s with s;obtain ⟨fr',I⟩:=C sz fr s;exact zbC (fr:=fr') (by rw [zn l,I])
   ·exact zbC (fr:=fr) (by rw [yd (Ne.symm e)]; exact s)
  ow:=fun b p => by
   by_cases c : m b
   ·exact (i b c).2.1
   ·exact (f b p c).2.1
  new:=fun b o h p O => by
   by_cases c : m b
   ·rcases (i b c).1 with h | ⟨k,h⟩ <;> rw [O] at h <;> cases h
   ·exact (f b p c).2.2 o h
  frame:=fun b p O => by
   by_cases c : m b
   ·rcases (i b c).1 with h | ⟨k,h⟩ <;> rw [O] at h <;> cases h
   ·exact (f b p c).1 }
 refine ⟨H,⟨L,fun j x d => ?_⟩⟩
 by_cases e : j = id
 ·subst e
  rw [zn l] at d;injection d with d;subst d;exact z H
 ·rw [yd (Ne.symm e)] at d
  refine zbi H (Q j e) (fun k => B j k e) (fun b p P => f b p fun c => ?_) (R.ob j x d)
  rcases (i b c).1 with h | ⟨k,h⟩ <;> rcases P with h' | ⟨k',h'⟩ <;> rw [h] at h'
  ·injection h' with h'; exact e h'.symm
  ·cases h'
  ·cases h'
  ·injection h' with h'; exact e h'.symm
end
def zbs (arr : Array Value) (p : Nat) (us : List Value) : Array Value:=(arr.toList.take p ++ us ++ arr.toList.drop (p + us.length)).toArray
theorem zc4 {arr : Array Value} {p : Nat} {us : List Value} (h : p + us.length ≤ arr.size) : (zbs arr p us).size = arr.size:=by
 unfold zbs;simp;omega
theorem zdb {arr : Array Value} {p : Nat} {us : List Value} (h : p + us.length ≤ arr.size) (q : Nat) :
  (zbs arr p us)[q]? = if q < p then arr[q]? else if q < p + us.length then us[q - p]? else arr[q]?:=by
 unfold zbs;rw [List.getElem?_toArray,List.append_assoc,ye];have c : (arr.toList.take p).length = p:=by simp; omega
 rw [c]
 by_cases a : q < p
 ·rw [if_pos a,if_pos a,yl,if_pos a,yk]
 ·rw [if_neg a,if_neg a,ye]
  by_cases b : q < p + us.length
  ·rw [if_pos (by omega),if_pos b]
  ·rw [if_neg (by omega),if_neg b,ym,yk]
   congr 1
   omega
theorem znf {e b cs : List C} {off : Nat} (h : zAR e off cs = some b) : off + cs.length ≤ e.length ∧ b.length = e.length ∧
  ∀ j,b[j]? = if j < off then e[j]? else if j < off + cs.length then cs[j - off]? else e[j]?:=by
 unfold zAR at h;split at h
 ·rename_i f
  injection h with h;subst h;refine ⟨f,by simp; omega,fun j => ?_⟩;rw [ye];have d : (e.take off).length = off:=by simp; omega
  rw [d]
  by_cases a : j < off
  ·rw [if_pos a,if_pos a,yl,if_pos a]
  ·rw [if_neg a,if_neg a,ye]
   by_cases c : j < off + cs.length
   ·rw [if_pos (by omega),if_pos c]
   ·rw [if_neg (by omega),if_neg c,ym]
    congr 1
    omega
 ·cases h
theorem zw {g : G} {w : World} {σ : zb} : ∀ {cs : List C} {us : List Value},zm g w σ cs us → us.length = cs.length
 | [],us,h => by simp only [zm] at h; simp [h]
 | c :: cs,us,h => by
   simp only [zm] at h;obtain ⟨v,vs,rfl,_,a⟩:=h;simp [zw a]
theorem zcD {g : G} {w : World} {σ : zb} : ∀ {cs : List C} {us : List Value},zm g w σ cs us → ∀ {j : Nat} {c : C},cs[j]? = some c → ∃ u,us[j]? = some u ∧ zq g w σ c u
 | [],_,_,j,c,h => by simp at h
 | x :: cs,us,hr,j,c,h => by
   simp only [zm] at hr;obtain ⟨v,vs,rfl,a,b⟩:=hr
   cases j with
   | zero => simp at h; subst h; exact ⟨v,by simp,a⟩
   | succ j => simpa using zcD b (j:=j) (c:=c) (by simpa using h)
theorem zic {g : G} {w : World} {σ : zb} : ∀ {cs : List C} {us : List Value},us.length = cs.length → (∀ (j : Nat) (c : C) (u : Value),cs[j]? = some c → us[j]? = some u → zq g w σ c u) → zm g w σ cs us
 | [],us,hl,_ => by simp only [zm]; exact List.eq_nil_of_length_eq_zero (by simpa using hl)
 | c :: cs,[],hl,_ => by simp at hl
 | c :: cs,v :: vs,hl,h => by
   simp only [zm];exact ⟨v,vs,rfl,h 0 c v (by simp) (by simp),zic (by simpa using hl) fun j c u a hu => h (j + 1) c u (by simpa using a) (by simpa using hu)⟩
theorem apart {i a sz j q : Nat} (h : i ≠ a) (c : j < sz) (b : q < sz) : i * sz + q ≠ a * sz + j:=by
 rcases Nat.lt_or_gt_of_ne h with h | h
 ·have : (i + 1) * sz ≤ a * sz:=yc _ h
  rw [yg] at this;omega
 ·have : (a + 1) * sz ≤ i * sz:=yc _ h
  rw [yg] at this;omega
theorem inside {i n sz q : Nat} (h : i < n) (a : q < sz) : i * sz + q < n * sz:=by
 have : (i + 1) * sz ≤ n * sz:=yc _ h;rw [yg] at this;omega
theorem zwQ {i n sz q : Nat} (h : i < n) (a : q ≤ sz) : i * sz + q ≤ n * sz:=by
 have : (i + 1) * sz ≤ n * sz:=yc _ h;rw [yg] at this;omega
section
variable {g : G} {w : World} {σ : zb}
theorem zta (R : Rel g w σ) {id z sz i off : Nat} {es : List (List C)} {e O cs : List C} {us : List Value} (m : σ[id]? = some (.cells z sz es)) (B : es[i]? = some e) (Y : zAR e off cs = some O)
  (G : zm g w σ cs us) (Z : ∀ u ∈ us,u.oneCell' = true) :
  ∃ arr t,w.heap[g.ρ id]? = some (.cells arr t (0,0)) ∧ i * sz + off + us.length ≤ arr.size ∧
    Ext g w σ g (w.setRow (g.ρ id) (zbs arr (i * sz + off) us)) (σ.set id (.cells z sz (es.set i O))) ∧
    Rel g (w.setRow (g.ρ id) (zbs arr (i * sz + off) us)) (σ.set id (.cells z sz (es.set i O))):=by
 have M : es ≠ []:=fun h => by subst h; simp at B
 obtain ⟨I,Q,arr,t,E,N,f⟩:=R.ob id _ m M;obtain ⟨aB,hle,D⟩:=znf Y;have aA:=zw G;have K:=(f i e B).1;have r:=za B
 have l : i * sz + off + us.length ≤ arr.size:=by
  have:=zwQ (q:=off + us.length) r (by omega : off + us.length ≤ sz);omega
 refine ⟨arr,t,E,l,?_⟩;have P : g.ρ id < w.heap.size:=(ya.1 E).1
 refine replace (g':=g) R m (fun b => b = g.ρ id) rfl rfl rfl (by simp) (fun b L ht => ⟨setRow_other w _ _ _ ht,rfl,fun _ h => h⟩)
  (fun b L => ⟨.inl (by rw [L]; exact I),rfl,fun o h => absurd (by rw [L] at h; exact h) (Q o)⟩) (fun _ _ _ h => h) (fun _ _ => rfl) (fun _ _ _ => rfl) (fun b o h => by simpa using R.nb b o h) ?_ ?_ ?_ (fun _ _ h => by cases h) ?_
 ·intro W X S J
  refine .inl ⟨?_,rfl,fun _ V t0 A => ?_⟩
  ·rw [zo m] at J
   injection J with J;rw [zo (zn m),← J];simp
  ·rw [E] at A
   injection A with A;injection A with A h0t;subst A;subst h0t;exact ⟨_,setRow_heap w _ _ _ _ _ E,zc4 l⟩
 ·intro es' h; cases h
 ·intro k n h; simp [zkF,m,Ob.fr] at h
 ·intro H U
  refine ⟨I,Q,_,t,setRow_heap w _ _ _ _ _ E,by rw [zc4 l]; simpa using N,fun y x v => ?_⟩;rw [yp] at v
  by_cases s : i = y
  ·subst s
   simp [r] at v;subst v;refine ⟨hle.trans K,fun j c p => ?_⟩;rw [D] at p;rw [zdb l]
   by_cases c1 : j < off
   ·rw [if_pos c1] at p
    obtain ⟨u,a,b,d⟩:=(f i e B).2 j c p;exact ⟨u,by rw [if_pos (by omega)]; exact a,H.zq c u b,d⟩
   ·rw [if_neg c1] at p
    by_cases c2 : j < off + cs.length
    ·rw [if_pos c2] at p
     obtain ⟨u,a,b⟩:=zcD G p;refine ⟨u,?_,H.zq c u b,Z u (List.mem_of_getElem? a)⟩;rw [if_neg (by omega),if_pos (by omega),show i * sz + j - (i * sz + off) = j - off from by omega];exact a
    ·rw [if_neg c2] at p
     obtain ⟨u,a,b,d⟩:=(f i e B).2 j c p;exact ⟨u,by rw [if_neg (by omega),if_neg (by omega)]; exact a,H.zq c u b,d⟩
  ·rw [if_neg s] at v
   refine ⟨(f y x v).1,fun j c p => ?_⟩;obtain ⟨u,a,b,d⟩:=(f y x v).2 j c p;have hj : j < sz:=(by have:=za p; have:=(f y x v).1; omega);refine ⟨u,?_,H.zq c u b,d⟩;rw [zdb l]
   by_cases c1 : y * sz + j < i * sz + off
   ·rw [if_pos c1]; exact a
   ·rw [if_neg c1]
    by_cases c2 : y * sz + j < i * sz + off + us.length
    ·exfalso
     have:=apart (q:=y * sz + j - i * sz) s hj (by omega);omega
    ·rw [if_neg c2]; exact a
def G.setTv (g : G) (t k : Nat) (u : Value) : G:={ g with tv:=fun t' k' => if t' = t ∧ k' = k then u else g.tv t' k' }
theorem G.setTv_same (g : G) (t k : Nat) (u : Value) : (g.setTv t k u).tv t k = u:=by simp [G.setTv]
theorem G.setTv_ne (g : G) {t k a b : Nat} (u : Value) (h : ¬ (a = t ∧ b = k)) : (g.setTv t k u).tv a b = g.tv a b:=by simp [G.setTv,h]
theorem zua {N : zeb} {xs : List (List Fz)} {b o c sz : Nat} (a : zbr sz xs) (d : xs.length ≤ c) (h : zdX w N sz xs b o) : rep w N (.sl xs) (.slice (some ⟨b,o,none⟩) xs.length c):=by
 simp only [rep];exact ⟨_,c,sz,rfl,d,a,.inr ⟨b,o,rfl,h⟩⟩
def Lay (w : World) (N : zeb) (sz : Nat) (xs : List (List Fz)) (us : List Value) : Prop :=
 us.length = xs.length * sz ∧ zbr sz xs ∧ ∀ i e,xs[i]? = some e → ∀ j x,e[j]? = some x → ∃ u,us[i * sz + j]? = some u ∧ rep w N x u ∧ u.oneCell' = true
theorem Lay.mono {w w' : World} {N d : zeb} {sz : Nat} {xs : List (List Fz)} {us : List Value} (h : Lay w N sz xs us) (H : ze5 w w' N d) : Lay w' d sz xs us :=
 ⟨h.1,h.2.1,fun i e f j x g => by
  obtain ⟨u,a,b,c⟩:=h.2.2 i e f j x g
  exact ⟨u,a,zbD H x u b,c⟩⟩
theorem Lay.append {N : zeb} {sz : Nat} {xs ys : List (List Fz)} {us vs : List Value} (h : Lay w N sz xs us) (k : Lay w N sz ys vs) : Lay w N sz (xs ++ ys) (us ++ vs):=by
 refine ⟨by rw [yn,yn,h.1,k.1,yg],zcT fun e he => ?_,fun i e d j x f => ?_⟩
 ·rcases List.mem_append.1 he with he | he
  ·exact zdd h.2.1 e he
  ·exact zdd k.2.1 e he
 ·rw [ye] at d
  by_cases c : i < xs.length
  ·rw [if_pos c] at d
   obtain ⟨u,a,b⟩:=h.2.2 i e d j x f;refine ⟨u,?_,b⟩;rw [yb (za a)];exact a
  ·rw [if_neg c] at d
   obtain ⟨u,a,b⟩:=k.2.2 _ e d j x f;refine ⟨u,?_,b⟩
   have : i * sz + j = us.length + ((i - xs.length) * sz + j):=by
    rw [h.1,Nat.sub_mul];have : xs.length * sz ≤ i * sz:=yc _ (yq c);omega
   rw [this,List.getElem?_append_right (by omega),Nat.add_sub_cancel_left];exact a
theorem zoY {N : zeb} {xs : List (List Fz)} {u : Value} (h : rep w N (.sl xs) u) (z : ∀ x u,rep w N x u → u.oneCell' = true) : ∃ a c sz us,u = .slice a xs.length c ∧ xs.length ≤ c ∧ Lay w N sz xs us ∧ (xs = [] ∨ ∃ b o,a = some ⟨b,o,none⟩ ∧ ∀ j v,us[j]? = some v → w.cell? ⟨b,o + j,none⟩ = some v):=by
 simp only [rep] at h;obtain ⟨a,c,sz,e,t,m,p⟩:=h;rcases p with rfl | ⟨b,o,rfl,p⟩
 ·exact ⟨a,c,sz,[],e,t,⟨by simp,m,fun i e h => by simp at h⟩,.inl rfl⟩
 ·refine ⟨_,c,sz,(yv (xs.length * sz)).map fun j => (w.cell? ⟨b,o + j,none⟩).getD undef,e,t,⟨by simp,m,fun i e k j x f => ?_⟩,.inr ⟨b,o,rfl,fun j v g => ?_⟩⟩
  ·have d:=inside (za k) (by have:=za f; have:=zba m k; omega : j < sz)
   obtain ⟨u,A,n,q⟩:=zeK (zda p k) f;refine ⟨u,?_,q,z x u q⟩;rw [yr,yi d];simp only [yt];rw [show o + (i * sz + j) = o + i * sz + j from by omega,n];rfl
  ·rw [yr] at g
   cases f : (yv (xs.length * sz))[j]? with
   | none => rw [f] at g; cases g
   | some j' =>
     have d:=za f;simp at d;rw [yi d] at f;injection f with f;subst f;rw [yi d] at g;simp only [yt] at g
     have l : 0 < sz:=by
      rcases Nat.eq_zero_or_pos sz with s | s
      ·subst s; simp at d
      ·exact s
     have k : j / sz < xs.length:=(Nat.div_lt_iff_lt_mul l).2 d;have f : j % sz < sz:=Nat.mod_lt _ l;have y:=zba m (yf k);obtain ⟨u,A,n,q⟩:=zeK (zda p (yf k)) (yf (by omega : j % sz < xs[j / sz].length))
     have r : o + j / sz * sz + j % sz = o + j:=by
      have:=Nat.div_add_mod j sz;rw [Nat.mul_comm] at this;omega
     rw [r] at n;rw [n] at g ⊢;exact g
theorem zjw {N c : zeb} {w' : World} {sz b o : Nat} {xs : List (List Fz)} {us : List Value} (h : Lay w N sz xs us) (H : ze5 w w' N c) (f : ∀ j v,us[j]? = some v → c b (o + j) ∧ w'.cell? ⟨b,o + j,none⟩ = some v) : zdX w' c sz xs b o :=
 zdI fun i e d => zf4 fun j x g => by
  obtain ⟨u,a,k,_⟩:=h.2.2 i e d j x g;obtain ⟨c1,c2⟩:=f _ u a;rw [show o + (i * sz + j) = o + i * sz + j from by omega] at c1 c2;exact ⟨u,c1,c2,zbD H x u k⟩
end
end Go.A
