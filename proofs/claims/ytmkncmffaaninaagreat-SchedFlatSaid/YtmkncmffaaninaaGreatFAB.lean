/- A part of the proof of SchedFlat. Conditions: none. -/
import Derived.Test.YtmkncmffaaninaaGreatFAA
import Derived.Below
import Derived.Laws.CopyRow
import Derived.Deep.Draws
set_option linter.all false
open Array renaming getElem?_eq_some_iff → ya,getElem?_toList → yk
open List renaming getElem?_append_left → yb,getElem?_set_ne → yd,getElem?_append → ye,getElem?_eq_getElem → yf,getElem?_range → yi,getElem?_take → yl,getElem?_drop → ym,length_append → yn,getElem?_set → yp,getElem?_map → yr,map_id → yu,range → yv
open Nat renaming mul_le_mul_right → yc,add_mul → yg,lt_of_lt_of_le → yh,le_refl → yj,le_trans → yo,le_of_not_lt → yq
open Option renaming map_some → yt
namespace Go.A
def zxS : Value → Bool
 | .bool _ | .int _ _ | .float _ _ | .complex _ _ _ | .string _ | .nilFunc | .nilIface => true
 | .pointer none | .map none | .slice none 0 0 => true
 | _ => false
abbrev zgd:=Nat → Nat → Prop
mutual
def rep (w : World) (N : zgd) : Fz → Value → Prop
 | .lit v,u => u = v ∧ zxS v = true
 | .sl xs,u => ∃ a c sz,u = .slice a xs.length c ∧ xs.length ≤ c ∧ zbO sz xs ∧ (xs = [] ∨ ∃ b o,a = some ⟨b,o,none⟩ ∧ zfU w N sz xs b o)
def zht (w : World) (N : zgd) : List Fz → Nat → Nat → Prop
 | [],_,_ => True
 | x :: xs,b,o => (∃ u,N b o ∧ w.cell? ⟨b,o,none⟩ = some u ∧ rep w N x u) ∧ zht w N xs b (o + 1)
def zfU (w : World) (N : zgd) : Nat → List (List Fz) → Nat → Nat → Prop
 | _,[],_,_ => True
 | sz,e :: es,b,o => zht w N e b o ∧ zfU w N sz es b (o + sz)
def zbO : Nat → List (List Fz) → Prop
 | _,[] => True
 | sz,e :: es => e.length = sz ∧ zbO sz es
end
def zhd (w w' : World) (N N' : zgd) : Prop:=∀ b o,N b o → N' b o ∧ w'.cell? ⟨b,o,none⟩ = w.cell? ⟨b,o,none⟩
theorem zhd.refl (w : World) (N : zgd) : zhd w w N N:=fun _ _ h => ⟨h,rfl⟩
theorem zhd.trans {w f c : World} {N e d : zgd} (h : zhd w f N e) (g : zhd f c e d) : zhd w c N d:=fun b o a =>
 ⟨(g b o (h b o a).1).1,((g b o (h b o a).1).2).trans (h b o a).2⟩
mutual
theorem zcM {w w' : World} {N e : zgd} (H : zhd w w' N e) : ∀ (x : Fz) (u : Value),rep w N x u → rep w' e x u
 | .lit v,u,h => by simpa only [rep] using h
 | .sl xs,u,h => by
   simp only [rep] at h ⊢;obtain ⟨a,c,sz,f,j,i,d⟩:=h;refine ⟨a,c,sz,f,j,i,?_⟩;rcases d with d | ⟨b,o,d,g⟩
   ·exact .inl d
   ·exact .inr ⟨b,o,d,zn1 H sz xs b o g⟩
theorem zff {w w' : World} {N c : zgd} (H : zhd w w' N c) : ∀ (xs : List Fz) (b o : Nat),zht w N xs b o → zht w' c xs b o
 | [],_,_,_ => by simp only [zht]
 | x :: xs,b,o,h => by
   simp only [zht] at h ⊢;obtain ⟨⟨u,a,f,d⟩,e⟩:=h;exact ⟨⟨u,(H b o a).1,(H b o a).2.trans f,zcM H x u d⟩,zff H xs b (o + 1) e⟩
theorem zn1 {w w' : World} {N a : zgd} (H : zhd w w' N a) : ∀ (sz : Nat) (es : List (List Fz)) (b o : Nat),zfU w N sz es b o → zfU w' a sz es b o
 | _,[],_,_,_ => by simp only [zfU]
 | sz,e :: es,b,o,h => by
   simp only [zfU] at h ⊢;exact ⟨zff H e b o h.1,zn1 H sz es b (o + sz) h.2⟩
end
section
variable {w : World} {N : zgd}
theorem zbS {sz : Nat} : ∀ {es : List (List Fz)},zbO sz es → ∀ {i : Nat} {e : List Fz},es[i]? = some e → e.length = sz
 | [],_,i,e,h => by simp at h
 | x :: xs,hl,i,e,h => by
   simp only [zbO] at hl
   cases i with
   | zero => simp at h; subst h; exact hl.1
   | succ i => exact zbS hl.2 (by simpa using h)
theorem zeW {sz : Nat} : ∀ {es : List (List Fz)},(∀ e ∈ es,e.length = sz) → zbO sz es
 | [],_ => by simp only [zbO]
 | x :: xs,h => by
   simp only [zbO];exact ⟨h x (by simp),zeW fun e he => h e (by simp [he])⟩
theorem zfs {sz : Nat} {es : List (List Fz)} (h : zbO sz es) : ∀ e ∈ es,e.length = sz:=fun e he => by
 obtain ⟨i,a⟩:=List.mem_iff_getElem?.1 he;exact zbS h a
theorem zgO : ∀ {cs : List Fz} {b o : Nat},zht w N cs b o → ∀ {j : Nat} {x : Fz},cs[j]? = some x → ∃ u,N b (o + j) ∧ w.cell? ⟨b,o + j,none⟩ = some u ∧ rep w N x u
 | [],_,_,_,j,x,h => by simp at h
 | y :: ys,b,o,hr,j,x,h => by
   simp only [zht] at hr
   cases j with
   | zero => simp at h; subst h; exact hr.1
   | succ j =>
     have:=zgO hr.2 (j:=j) (x:=x) (by simpa using h)
     rwa [show o + (j + 1) = o + 1 + j from by omega]
theorem zij : ∀ {cs : List Fz} {b o : Nat},(∀ j x,cs[j]? = some x → ∃ u,N b (o + j) ∧ w.cell? ⟨b,o + j,none⟩ = some u ∧ rep w N x u) → zht w N cs b o
 | [],_,_,_ => by simp only [zht]
 | y :: ys,b,o,h => by
   simp only [zht];refine ⟨by simpa using h 0 y (by simp),zij fun j x a => ?_⟩;have:=h (j + 1) x (by simpa using a)
   rwa [show o + (j + 1) = o + 1 + j from by omega] at this
theorem zfk {sz : Nat} : ∀ {es : List (List Fz)} {b o : Nat},zfU w N sz es b o → ∀ {i : Nat} {e : List Fz},es[i]? = some e → zht w N e b (o + i * sz)
 | [],_,_,_,i,e,h => by simp at h
 | y :: ys,b,o,hr,i,e,h => by
   simp only [zfU] at hr
   cases i with
   | zero => simp at h; subst h; simpa using hr.1
   | succ i =>
     have:=zfk hr.2 (i:=i) (e:=e) (by simpa using h)
     rwa [show o + (i + 1) * sz = o + sz + i * sz from by rw [yg]; omega]
theorem zfS {sz : Nat} : ∀ {es : List (List Fz)} {b o : Nat},(∀ i e,es[i]? = some e → zht w N e b (o + i * sz)) → zfU w N sz es b o
 | [],_,_,_ => by simp only [zfU]
 | y :: ys,b,o,h => by
   simp only [zfU];refine ⟨by simpa using h 0 y (by simp),zfS fun i e a => ?_⟩;have:=h (i + 1) e (by simpa using a)
   rwa [show o + (i + 1) * sz = o + sz + i * sz from by rw [yg]; omega] at this
end
inductive Ow where
 | no
 | ob (id : Nat)
 | tk (t k : Nat)
structure G where
 ρ : Nat → Nat
 tv : Nat → Nat → Value
 ow : Nat → Ow
 N : zgd
def Ob.shape : Ob → Option (Nat × Nat × Nat)
 | .cells ver sz es => some (ver,sz,es.length)
 | _ => none
def shapeOf (σ : zd) (id : Nat) : Option (Nat × Nat × Nat):=(σ[id]?).bind Ob.shape
def Ob.fr (k : Nat) : Ob → Option Nat
 | .tok _ fr => fr[k]?
 | _ => none
def zmP (σ : zd) (t k : Nat) : Option Nat:=(σ[t]?).bind (Ob.fr k)
def Ob.tsz : Ob → Option Nat
 | .tok sz _ => some sz
 | _ => none
def zog (σ : zd) (t : Nat) : Option Nat:=(σ[t]?).bind Ob.tsz
def zzi (w : World) (b sz len lo n : Nat) (u : Value) : Prop :=
 ∃ a c,u = .slice a n c ∧ n ≤ c ∧ (len = 0 → c = 0) ∧ (len ≠ 0 → lo + n ≤ len ∧ (c ≠ 0 → a = some ⟨b,lo * sz,none⟩) ∧ ∃ arr t,w.heap[b]? = some (.cells arr t (0,0)) ∧ (lo + c) * sz ≤ arr.size)
mutual
def zy (g : G) (w : World) (σ : zd) : C → Value → Prop
 | .f x,u => rep w g.N x u
 | .ap t k xs,u => rep w g.N (.sl xs) u ∧ ∃ n,zmP σ t k = some n ∧ xs.length ≤ n ∧ (xs.length = n → u = g.tv t k) ∧ ∃ sz,zog σ t = some sz ∧ zbO sz xs
 | .ptr id ver i off,u => ∃ ver0 sz len,shapeOf σ id = some (ver0,sz,len) ∧ ver ≤ ver0 ∧ (ver = ver0 → u = .pointer (some ⟨g.ρ id,i * sz + off,none⟩)) ∧ ∃ ad,u = .pointer (some ad)
 | .fp cs off,u => ∃ b o,u = .pointer (some ⟨b,o + off,none⟩) ∧ zht w g.N cs b o
 | .own id ver lo n,u => ∃ ver0 sz len,shapeOf σ id = some (ver0,sz,len) ∧ ver ≤ ver0 ∧ (ver = ver0 → zzi w (g.ρ id) sz len lo n u) ∧ ∃ ad c,u = .slice ad n c
 | .map id,u => (∃ es,σ[id]? = some (.mp es)) ∧ u = .map (some (g.ρ id))
 | .fn f first caps,u => ∃ fs cs,u = .func (.func f) fs cs ∧ zv g w σ first fs.toList ∧ zv g w σ caps cs.toList
 | .un,_ => True
def zv (g : G) (w : World) (σ : zd) : List C → List Value → Prop
 | [],us => us = []
 | c :: cs,us => ∃ v vs,us = v :: vs ∧ zy g w σ c v ∧ zv g w σ cs vs
end
mutual
def zf (g : G) (w : World) (σ : zd) : V → Value → Prop
 | .one c,u => zy g w σ c u
 | .agg cs,u => ∃ us,u = .agg us ∧ zv g w σ cs us.toList
 | .tup vs,u => ∃ us,u = .tuple us ∧ zz g w σ vs us.toList
def zz (g : G) (w : World) (σ : zd) : List V → List Value → Prop
 | [],us => us = []
 | v :: vs,us => ∃ x xs,us = x :: xs ∧ zf g w σ v x ∧ zz g w σ vs xs
end
structure Ext (g : G) (w : World) (σ : zd) (g' : G) (w' : World) (σ' : zd) : Prop where
 os : w'.os = w.os
 tape : w'.tape = w.tape
 output : w'.output = w.output
 size : w.heap.size ≤ w'.heap.size
 keeps : zhd w w' g.N g'.N
 len : σ.length ≤ σ'.length
 shape : ∀ id ver sz len,shapeOf σ id = some (ver,sz,len) →
  (shapeOf σ' id = some (ver,sz,len) ∧ g'.ρ id = g.ρ id ∧ (len ≠ 0 → ∀ arr t,w.heap[g.ρ id]? = some (.cells arr t (0,0)) → ∃ arr',w'.heap[g.ρ id]? = some (.cells arr' t (0,0)) ∧ arr'.size = arr.size)) ∨
  ∃ ver1 len1,shapeOf σ' id = some (ver1,sz,len1) ∧ ver < ver1
 map : ∀ id es,σ[id]? = some (.mp es) → g'.ρ id = g.ρ id ∧ ∃ es',σ'[id]? = some (.mp es')
 tok : ∀ t k n,zmP σ t k = some n → ∃ n',zmP σ' t k = some n' ∧ n ≤ n' ∧ (n = n' → g'.tv t k = g.tv t k)
 tsz : ∀ t sz,zog σ t = some sz → zog σ' t = some sz
 ow : ∀ b,b < w.heap.size → g'.ow b = g.ow b
 new : ∀ b o,g'.N b o → b < w.heap.size → g.ow b = .no → g.N b o
 frame : ∀ b,b < w.heap.size → g.ow b = .no → w'.heap[b]? = w.heap[b]?
theorem Ext.refl (g : G) (w : World) (σ : zd) : Ext g w σ g w σ where
 os:=rfl
 tape:=rfl
 output:=rfl
 size:=yj _
 keeps:=zhd.refl _ _
 len:=yj _
 shape:=fun id a sz len h => .inl ⟨h,rfl,fun _ arr t b => ⟨arr,b,rfl⟩⟩
 map:=fun id es h => ⟨rfl,es,h⟩
 tok:=fun t k n h => ⟨n,h,yj _,fun _ => rfl⟩
 tsz:=fun _ _ h => h
 ow:=fun _ _ => rfl
 new:=fun _ _ h _ _ => h
 frame:=fun _ _ _ => rfl
theorem Ext.trans {g C A : G} {w D B : World} {σ σ1 σ2 : zd} (h : Ext g w σ C D σ1) (k : Ext C D σ1 A B σ2) : Ext g w σ A B σ2 where
 os:=k.os.trans h.os
 tape:=k.tape.trans h.tape
 output:=k.output.trans h.output
 size:=yo h.size k.size
 keeps:=h.keeps.trans k.keeps
 len:=yo h.len k.len
 shape:=fun id m sz len E => by
  rcases h.shape id m sz len E with ⟨a,b,c⟩ | ⟨v1,q,a,b⟩
  ·rcases k.shape id m sz len a with ⟨d,i,r⟩ | ⟨v1,q,d,i⟩
   ·refine .inl ⟨d,i.trans b,fun z arr t I => ?_⟩
    obtain ⟨p,J,H⟩:=c z arr t I;obtain ⟨l,K,M⟩:=r z p t (by rw [b]; exact J);exact ⟨l,by rw [← b]; exact K,M.trans H⟩
   ·exact .inr ⟨v1,q,d,i⟩
  ·rcases k.shape id v1 sz q a with ⟨d,_⟩ | ⟨v2,N,d,i⟩
   ·exact .inr ⟨v1,q,d,b⟩
   ·exact .inr ⟨v2,N,d,Nat.lt_trans b i⟩
 map:=fun id es hm => by
  obtain ⟨a,x,b⟩:=h.map id es hm;obtain ⟨d,u,i⟩:=k.map id x b;exact ⟨d.trans a,u,i⟩
 tok:=fun t y n v => by
  obtain ⟨s,a,b,c⟩:=h.tok t y n v;obtain ⟨n2,d,i,r⟩:=k.tok t y s a
  exact ⟨n2,d,yo b i,fun e => by
   have e1 : n = s:=(by omega);have e2 : s = n2:=by omega
   exact (r e2).trans (c e1)⟩
 tsz:=fun t sz L => k.tsz t sz (h.tsz t sz L)
 ow:=fun b f => (k.ow b (yh f h.size)).trans (h.ow b f)
 new:=fun b o v f j => h.new b o (k.new b o v (yh f h.size) ((h.ow b f).trans j)) f j
 frame:=fun b f j => (k.frame b (yh f h.size) ((h.ow b f).trans j)).trans (h.frame b f j)
mutual
theorem Ext.zy {g g' : G} {w w' : World} {σ σ' : zd} (H : Ext g w σ g' w' σ') : ∀ (c : C) (u : Value),zy g w σ c u → Go.A.zy g' w' σ' c u
 | .f x,u,h => by
   simp only [Go.A.zy] at h ⊢;exact zcM H.keeps x u h
 | .ap t k xs,u,h => by
   simp only [Go.A.zy] at h ⊢;obtain ⟨j,n,d,m,l,sz,v,D⟩:=h;obtain ⟨s,a,b,c⟩:=H.tok t k n d;refine ⟨zcM H.keeps _ u j,s,a,by omega,fun e => ?_,sz,H.tsz t sz v,D⟩;have e1 : n = s:=(by omega);rw [c e1];exact l (by omega)
 | .ptr id ver i off,u,h => by
   simp only [Go.A.zy] at h ⊢;obtain ⟨v0,sz,len,j,d,m,l⟩:=h;rcases H.shape id v0 sz len j with ⟨a,b,_⟩ | ⟨v1,q,a,b⟩
   ·exact ⟨v0,sz,len,a,d,by rw [b]; exact m,l⟩
   ·exact ⟨v1,sz,q,a,by omega,fun e => by omega,l⟩
 | .fp cs off,u,h => by
   simp only [Go.A.zy] at h ⊢;obtain ⟨b,o,j,d⟩:=h;exact ⟨b,o,j,zff H.keeps cs b o d⟩
 | .own id ver lo n,u,h => by
   simp only [Go.A.zy] at h ⊢;obtain ⟨v0,sz,len,j,d,m,l⟩:=h;rcases H.shape id v0 sz len j with ⟨a,b,c⟩ | ⟨v1,q,a,b⟩
   ·refine ⟨v0,sz,len,a,d,fun e => ?_,l⟩
    obtain ⟨ad,cp,e1,e2,e3,e4⟩:=m e;refine ⟨ad,cp,e1,e2,e3,fun r => ?_⟩;obtain ⟨f1,f2,arr,t,f3,f4⟩:=e4 r;obtain ⟨p,B,y⟩:=c r arr t f3;exact ⟨f1,by rw [b]; exact f2,p,t,by rw [b]; exact B,by rw [y]; exact f4⟩
   ·exact ⟨v1,sz,q,a,by omega,fun e => by omega,l⟩
 | .map id,u,h => by
   simp only [Go.A.zy] at h ⊢;obtain ⟨⟨es,j⟩,d⟩:=h;obtain ⟨a,es',b⟩:=H.map id es j;exact ⟨⟨es',b⟩,by rw [a]; exact d⟩
 | .fn f a b,u,h => by
   simp only [Go.A.zy] at h ⊢;obtain ⟨z,cs,j,d,m⟩:=h;exact ⟨z,cs,j,Ext.zv H a _ d,Ext.zv H b _ m⟩
 | .un,_,_ => by simp only [Go.A.zy]
theorem Ext.zv {g g' : G} {w w' : World} {σ σ' : zd} (H : Ext g w σ g' w' σ') : ∀ (cs : List C) (us : List Value),zv g w σ cs us → Go.A.zv g' w' σ' cs us
 | [],us,h => by simpa only [Go.A.zv] using h
 | c :: cs,us,h => by
   simp only [Go.A.zv] at h ⊢;obtain ⟨v,vs,a,d,b⟩:=h;exact ⟨v,vs,a,Ext.zy H c v d,Ext.zv H cs vs b⟩
end
mutual
theorem Ext.zf {g g' : G} {w w' : World} {σ σ' : zd} (H : Ext g w σ g' w' σ') : ∀ (c : V) (u : Value),zf g w σ c u → Go.A.zf g' w' σ' c u
 | .one c,u,h => by
   simp only [Go.A.zf] at h ⊢;exact H.zy c u h
 | .agg cs,u,h => by
   simp only [Go.A.zf] at h ⊢;obtain ⟨us,a,b⟩:=h;exact ⟨us,a,H.zv cs _ b⟩
 | .tup vs,u,h => by
   simp only [Go.A.zf] at h ⊢;obtain ⟨us,a,b⟩:=h;exact ⟨us,a,Ext.zz H vs _ b⟩
theorem Ext.zz {g g' : G} {w w' : World} {σ σ' : zd} (H : Ext g w σ g' w' σ') : ∀ (cs : List V) (us : List Value),zz g w σ cs us → Go.A.zz g' w' σ' cs us
 | [],us,h => by simpa only [Go.A.zz] using h
 | c :: cs,us,h => by
   simp only [Go.A.zz] at h ⊢;obtain ⟨v,vs,a,d,b⟩:=h;exact ⟨v,vs,a,Ext.zf H c v d,Ext.zz H cs vs b⟩
end
def zqc (g : G) (w : World) (σ : zd) : List (Int × V) → List MapEntry → Prop
 | [],es => es = []
 | x :: xs,es => ∃ e rest,es = e :: rest ∧ e.key = .int .i64 x.1 ∧ zf g w σ x.2 e.val ∧ zqc g w σ xs rest
def zlB (g : G) (w : World) (σ : zd) (es : List (Int × V)) (zbn : List MapEntry) (clock : Nat) : Prop :=
 (∃ es',es'.Perm es ∧ (es'.map (·.1)).Nodup ∧ zqc g w σ es' zbn) ∧ (zbn.map (·.born)).Nodup ∧ ∀ e ∈ zbn,e.born < clock
def zca (g : G) (w : World) (σ : zd) (arr : Array Value) (sz : Nat) (es : List (List C)) : Prop :=
 ∀ i e,es[i]? = some e → e.length = sz ∧ ∀ j c,e[j]? = some c → ∃ u,arr[i * sz + j]? = some u ∧ zy g w σ c u ∧ u.oneCell' = true
def zAO (g : G) (w : World) (σ : zd) (id : Nat) : Ob → Prop
 | .cells _ sz es => es ≠ [] → g.ow (g.ρ id) = .ob id ∧ (∀ o,¬ g.N (g.ρ id) o) ∧ ∃ arr t,w.heap[g.ρ id]? = some (.cells arr t (0,0)) ∧ es.length * sz ≤ arr.size ∧ zca g w σ arr sz es
 | .mp es => g.ow (g.ρ id) = .ob id ∧ (∀ o,¬ g.N (g.ρ id) o) ∧ ∃ zbn clock,w.heap[g.ρ id]? = some (.map zbn clock) ∧ zlB g w σ es zbn.toList clock
 | .tok sz fr => ∀ k n,fr[k]? = some n → (n = 0 ∧ ∃ a,g.tv id k = .slice a 0 0) ∨
  ∃ b o c arr t,g.tv id k = .slice (some ⟨b,o,none⟩) n c ∧ 0 < c ∧ n ≤ c ∧ g.ow b = .tk id k ∧ w.heap[b]? = some (.cells arr t (0,0)) ∧ o + c * sz ≤ arr.size ∧ ∀ o',g.N b o' → o' < o + n * sz
structure Rel (g : G) (w : World) (σ : zd) : Prop where
 nb : ∀ b o,g.N b o → b < w.heap.size
 ob : ∀ id o,σ[id]? = some o → zAO g w σ id o
theorem Ext.zca {g g' : G} {w w' : World} {σ σ' : zd} (H : Ext g w σ g' w' σ') {arr : Array Value} {sz : Nat} {es : List (List C)} (h : zca g w σ arr sz es) : Go.A.zca g' w' σ' arr sz es :=
 fun i e d => ⟨(h i e d).1,fun j c f => by
  obtain ⟨u,a,b,c1⟩:=(h i e d).2 j c f
  exact ⟨u,a,H.zy c u b,c1⟩⟩
theorem Ext.zqc {g g' : G} {w w' : World} {σ σ' : zd} (H : Ext g w σ g' w' σ') : ∀ {es : List (Int × V)} {zbn : List MapEntry},zqc g w σ es zbn → Go.A.zqc g' w' σ' es zbn
 | [],_,h => h
 | x :: xs,_,h => by
   obtain ⟨e,rest,a,d,b,c⟩:=h;exact ⟨e,rest,a,d,H.zf _ _ b,Ext.zqc H c⟩
theorem zwA {g : G} {w : World} {σ : zd} {es a : List (Int × V)} {zbn : List MapEntry} {clock : Nat} (h : es.Perm a) (hm : zlB g w σ es zbn clock) : zlB g w σ a zbn clock:=by
 obtain ⟨⟨es',b,e,c⟩,d⟩:=hm;exact ⟨⟨es',b.trans h,e,c⟩,d⟩
theorem zos {g g' : G} {w w' : World} {σ σ' : zd} {es : List (Int × V)} {zbn : List MapEntry} {clock : Nat} (h : zlB g w σ es zbn clock) (f : Int × V → Int × V) (c : ∀ e,(f e).1 = e.1) (k : ∀ es',es'.Perm es → Go.A.zqc g w σ es' zbn → Go.A.zqc g' w' σ' (es'.map f) zbn) : Go.A.zlB g' w' σ' (es.map f) zbn clock:=by
 obtain ⟨⟨es',a,i,b⟩,d⟩:=h;refine ⟨⟨es'.map f,a.map f,?_,k es' a b⟩,d⟩
 have e : (es'.map f).map (·.1) = es'.map (·.1):=by
  rw [List.map_map];exact List.map_congr_left fun e _ => c e
 rw [e];exact i
theorem Ext.zlB {g g' : G} {w w' : World} {σ σ' : zd} (H : Ext g w σ g' w' σ') {es : List (Int × V)} {zbn : List MapEntry} {clock : Nat} (h : zlB g w σ es zbn clock) : Go.A.zlB g' w' σ' es zbn clock:=by
 have:=zos (g':=g') (w':=w') (σ':=σ') h id (fun _ => rfl) (fun es' _ h => by rw [yu]; exact H.zqc h)
 rwa [yu] at this
end Go.A
namespace Go.A
def zxW {α : Type} (f : Nat → α) (k : Nat) (v : α) : Nat → α:=fun i => if i = k then v else f i
@[simp] theorem zgX {α : Type} (f : Nat → α) (k : Nat) (v : α) : zxW f k v k = v:=by simp [zxW]
theorem zaH {α : Type} (f : Nat → α) {k i : Nat} (v : α) (h : i ≠ k) : zxW f k v i = f i:=by simp [zxW,h]
theorem zaM {σ : zd} {id a sz len : Nat} (h : shapeOf σ id = some (a,sz,len)) : ∃ es,σ[id]? = some (.cells a sz es) ∧ es.length = len:=by
 unfold shapeOf at h
 cases b : σ[id]? with
 | none => simp [b] at h
 | some o =>
   cases o with
   | cells v s es => simp [b,Ob.shape] at h; exact ⟨es,by simp [h],h.2.2⟩
   | tok s fr => simp [b,Ob.shape] at h
   | mp es => simp [b,Ob.shape] at h
theorem zt {σ : zd} {id a sz : Nat} {es : List (List C)} (h : σ[id]? = some (.cells a sz es)) : shapeOf σ id = some (a,sz,es.length):=by simp [shapeOf,h,Ob.shape]
theorem zcR {σ : zd} {t k n : Nat} (h : zmP σ t k = some n) : ∃ sz fr,σ[t]? = some (.tok sz fr) ∧ fr[k]? = some n:=by
 unfold zmP at h
 cases a : σ[t]? with
 | none => simp [a] at h
 | some o =>
   cases o with
   | cells v s es => simp [a,Ob.fr] at h
   | tok s fr => simp [a,Ob.fr] at h; exact ⟨s,fr,rfl,h⟩
   | mp es => simp [a,Ob.fr] at h
theorem zdG {σ : zd} {t k n sz : Nat} {fr : List Nat} (h : σ[t]? = some (.tok sz fr)) (a : fr[k]? = some n) : zmP σ t k = some n:=by simp [zmP,h,Ob.fr,a]
theorem zeD {σ : zd} {t sz : Nat} (h : zog σ t = some sz) : ∃ fr,σ[t]? = some (.tok sz fr):=by
 unfold zog at h
 cases a : σ[t]? with
 | none => simp [a] at h
 | some o =>
   cases o with
   | cells v s es => simp [a,Ob.tsz] at h
   | tok s fr => simp [a,Ob.tsz] at h; exact ⟨fr,by rw [h]⟩
   | mp es => simp [a,Ob.tsz] at h
theorem zb9 {σ : zd} {t sz : Nat} {fr : List Nat} (h : σ[t]? = some (.tok sz fr)) : zog σ t = some sz:=by simp [zog,h,Ob.tsz]
theorem zb {α : Type} {l : List α} {i : Nat} {x : α} (h : l[i]? = some x) : i < l.length:=(List.getElem?_eq_some_iff.1 h).1
section
variable {g g' : G} {w w' : World} {σ σ' : zd}
def zs6 (g : G) (w : World) (g' : G) (w' : World) (b : Nat) : Prop:=w'.heap[b]? = w.heap[b]? ∧ g'.ow b = g.ow b ∧ ∀ o,g'.N b o → g.N b o
theorem zcS (H : Ext g w σ g' w' σ') {id : Nat} {o : Ob} (v : g'.ρ id = g.ρ id) (z : ∀ k,g'.tv id k = g.tv id k)
  (r : ∀ b,b < w.heap.size → g.ow b = .ob id ∨ (∃ k,g.ow b = .tk id k) → zs6 g w g' w' b) (h : zAO g w σ id o) : zAO g' w' σ' id o:=by
 cases o with
 | cells ver sz es =>
   intro u;obtain ⟨d,i,arr,t,e,f,p⟩:=h u;have a : g.ρ id < w.heap.size:=(ya.1 e).1;obtain ⟨j,l,m⟩:=r _ a (.inl d);rw [v];exact ⟨l.trans d,fun o s => i o (m o s),arr,t,j.trans e,f,H.zca p⟩
 | mp es =>
   obtain ⟨d,i,zbn,clock,e,f⟩:=h;have a : g.ρ id < w.heap.size:=(ya.1 e).1;obtain ⟨j,l,m⟩:=r _ a (.inl d);unfold zAO;rw [v];exact ⟨l.trans d,fun o s => i o (m o s),zbn,clock,j.trans e,H.zlB f⟩
 | tok sz fr =>
   intro k n B;rw [z];rcases h k n B with h | ⟨b,o,c,arr,t,d,i,e,f,p,A,y⟩
   ·exact .inl h
   ·have a : b < w.heap.size:=(ya.1 p).1
    obtain ⟨j,l,m⟩:=r _ a (.inr ⟨k,f⟩);exact .inr ⟨b,o,c,arr,t,d,i,e,l.trans f,j.trans p,A,fun x q => y x (m x q)⟩
theorem heap_alloc_old (w : World) (o : Obj) {b : Nat} (h : b < w.heap.size) : (w.alloc o).heap[b]? = w.heap[b]?:=by
 show (w.heap.push o)[b]? = _
 rw [Array.getElem?_push,if_neg (by omega)]
theorem zbd (w : World) (o : Obj) : (w.alloc o).heap[w.heap.size]? = some o:=by
 show (w.heap.push o)[w.heap.size]? = _
 simp
theorem zql (w : World) (o : Obj) {b i : Nat} (h : b < w.heap.size) : (w.alloc o).cell? ⟨b,i,none⟩ = w.cell? ⟨b,i,none⟩:=by
 unfold World.cell?;rw [heap_alloc_old w o h]
theorem size_alloc (w : World) (o : Obj) : (w.alloc o).heap.size = w.heap.size + 1:=World.size_alloc w o
theorem Ext.alloc (R : Rel g w σ) (o : Obj) (g' : G) (l : ∀ id,id < σ.length → g'.ρ id = g.ρ id) (m : ∀ t k n,zmP σ t k = some n → g'.tv t k = g.tv t k) (hw : ∀ b,b < w.heap.size → g'.ow b = g.ow b)
  (j : ∀ b o,b < w.heap.size → (g'.N b o ↔ g.N b o)) (os : List Ob) : Ext g w σ g' (w.alloc o) (σ ++ os) where
 os:=rfl
 tape:=rfl
 output:=rfl
 size:=by rw [size_alloc]; omega
 keeps:=fun b i h => ⟨(j b i (R.nb b i h)).2 h,zql w o (R.nb b i h)⟩
 len:=by simp
 shape:=fun id p sz len h => by
  obtain ⟨es,a,e⟩:=zaM h;have c:=zb a;refine .inl ⟨by unfold shapeOf; rw [yb c]; exact h,l id c,fun _ arr t f => ⟨arr,?_,rfl⟩⟩;rw [heap_alloc_old w o (ya.1 f).1];exact f
 map:=fun id es h => ⟨l id (zb h),es,by rw [yb (zb h)]; exact h⟩
 tok:=fun t k n h => by
  obtain ⟨sz,fr,a,e⟩:=zcR h;exact ⟨n,zdG (by rw [yb (zb a)]; exact a) e,yj _,fun _ => m t k n h⟩
 tsz:=fun t sz h => by
  obtain ⟨fr,a⟩:=zeD h;exact zb9 (fr:=fr) (by rw [yb (zb a)]; exact a)
 ow:=hw
 new:=fun b i h d _ => (j b i d).1 h
 frame:=fun b d _ => heap_alloc_old w o d
def G.freeze (g : G) (b : Nat) : G:={ g with N:=fun b' o => g.N b' o ∨ b' = b }
theorem ztV (R : Rel g w σ) (o : Obj) : Ext g w σ (g.freeze w.heap.size) (w.alloc o) σ ∧ Rel (g.freeze w.heap.size) (w.alloc o) σ:=by
 have c : ∀ b i,b < w.heap.size → ((g.freeze w.heap.size).N b i ↔ g.N b i):=fun b i a =>
  ⟨fun h => h.elim id (fun e => by omega),.inl⟩
 have H : Ext g w σ (g.freeze w.heap.size) (w.alloc o) σ:=by
  have:=Ext.alloc R o (g.freeze w.heap.size) (fun _ _ => rfl) (fun _ _ _ _ => rfl) (fun _ _ => rfl) c [];simpa using this
 refine ⟨H,⟨fun b i h => ?_,fun id ob h => zcS H rfl (fun _ => rfl) (fun b a _ => ⟨heap_alloc_old w o a,rfl,fun i => (c b i a).1⟩) (R.ob id ob h)⟩⟩;rw [size_alloc];rcases h with h | h
 ·have:=R.nb b i h; omega
 ·omega
def G.own (g : G) (id b : Nat) : G:={ g with ρ:=zxW g.ρ id b,ow:=zxW g.ow b (.ob id) }
theorem ztK (R : Rel g w σ) (ob : Ob) (o : Obj) (d : ∀ {g' : G} {σ' : zd},Ext g w σ g' (w.alloc o) σ' → g'.ρ σ.length = w.heap.size → g'.ow w.heap.size = .ob σ.length → (∀ i,¬ g'.N w.heap.size i) → zAO g' (w.alloc o) σ' σ.length ob) :
  Ext g w σ (g.own σ.length w.heap.size) (w.alloc o) (σ ++ [ob]) ∧ Rel (g.own σ.length w.heap.size) (w.alloc o) (σ ++ [ob]):=by
 have H : Ext g w σ (g.own σ.length w.heap.size) (w.alloc o) (σ ++ [ob]) :=
  Ext.alloc R o (g.own σ.length w.heap.size) (fun id h => zaH g.ρ (k:=σ.length) (i:=id) _ (by omega)) (fun _ _ _ _ => rfl) (fun b h => zaH g.ow (k:=w.heap.size) (i:=b) _ (by omega)) (fun _ _ _ => Iff.rfl) [ob]
 refine ⟨H,⟨fun b i h => by rw [size_alloc]; have:=R.nb b i h; omega,fun id x h => ?_⟩⟩
 by_cases a : id < σ.length
 ·rw [yb a] at h
  exact zcS H (zaH g.ρ (k:=σ.length) (i:=id) _ (by omega)) (fun _ => rfl) (fun b f _ => ⟨heap_alloc_old w o f,zaH g.ow (k:=w.heap.size) (i:=b) _ (by omega),fun _ h => h⟩) (R.ob id x h)
 ·have c : id = σ.length:=by
   have:=zb h;simp at this;omega
  subst c;simp at h;subst h;exact d H (by simp [G.own]) (by simp [G.own]) (fun i e => by have:=R.nb _ i e; omega)
theorem zyZ {id j : Nat} {new : Ob} (σ : zd) : (σ.set id new)[j]? = if id = j ∧ id < σ.length then some new else σ[j]?:=by
 rw [yp]
 by_cases h : id = j
 ·subst h
  by_cases a : id < σ.length
  ·simp [a]
  ·simp [a,List.getElem?_eq_none (yq a)]
 ·simp [h]
theorem zsU {id j : Nat} {new : Ob} (h : j ≠ id) : shapeOf (σ.set id new) j = shapeOf σ j:=by
 unfold shapeOf;rw [yd (Ne.symm h)]
theorem zyr {id j k : Nat} {new : Ob} (h : j ≠ id) : zmP (σ.set id new) j k = zmP σ j k:=by
 unfold zmP;rw [yd (Ne.symm h)]
theorem zB {id : Nat} {a new : Ob} (h : σ[id]? = some a) : (σ.set id new)[id]? = some new:=by
 rw [zyZ];simp [zb h]
theorem replace {id : Nat} {s new : Ob} (R : Rel g w σ) (l : σ[id]? = some s) (q : Nat → Prop)
  (J : w'.os = w.os) (y : w'.tape = w.tape) (B : w'.output = w.output) (v : w.heap.size ≤ w'.heap.size)
  (f : ∀ b,b < w.heap.size → ¬ q b → zs6 g w g' w' b)
  (i : ∀ b,q b → (g.ow b = .ob id ∨ ∃ k,g.ow b = .tk id k) ∧ g'.ow b = g.ow b ∧ ∀ o,g.N b o → g'.N b o ∧ w'.cell? ⟨b,o,none⟩ = w.cell? ⟨b,o,none⟩)
  (W : ∀ b o,¬ q b → g.N b o → g'.N b o)
  (Q : ∀ j,j ≠ id → g'.ρ j = g.ρ j) (D : ∀ j k,j ≠ id → g'.tv j k = g.tv j k)
  (O : ∀ b o,g'.N b o → b < w'.heap.size)
  (p : ∀ ver sz len,shapeOf σ id = some (ver,sz,len) →
   (shapeOf (σ.set id new) id = some (ver,sz,len) ∧ g'.ρ id = g.ρ id ∧ (len ≠ 0 → ∀ arr t,w.heap[g.ρ id]? = some (.cells arr t (0,0)) → ∃ arr',w'.heap[g.ρ id]? = some (.cells arr' t (0,0)) ∧ arr'.size = arr.size)) ∨
   ∃ ver1 len1,shapeOf (σ.set id new) id = some (ver1,sz,len1) ∧ ver < ver1)
  (C : ∀ es,s = .mp es → g'.ρ id = g.ρ id ∧ ∃ es',new = .mp es')
  (E : ∀ k n,zmP σ id k = some n → ∃ n',zmP (σ.set id new) id k = some n' ∧ n ≤ n' ∧ (n = n' → g'.tv id k = g.tv id k))
  (G : ∀ sz fr,s = .tok sz fr → ∃ fr',new = .tok sz fr')
  (z : Ext g w σ g' w' (σ.set id new) → zAO g' w' (σ.set id new) id new) :
  Ext g w σ g' w' (σ.set id new) ∧ Rel g' w' (σ.set id new):=by
 have A : ∀ b o,b < w.heap.size → ¬ q b → w'.cell? ⟨b,o,none⟩ = w.cell? ⟨b,o,none⟩:=fun b o m c => by
  unfold World.cell?;rw [(f b m c).1]
 have r : zhd w w' g.N g'.N:=fun b o h => by
  by_cases c : q b
  ·exact (i b c).2.2 o h
  ·exact ⟨W b o c h,A b o (R.nb b o h) c⟩
 have H : Ext g w σ g' w' (σ.set id new):={
  os:=J
  tape:=y
  output:=B
  size:=v
  keeps:=r
  len:=by simp
  shape:=fun j ver sz len d => by
   by_cases e : j = id
   ·subst e; exact p ver sz len d
   ·refine .inl ⟨by rw [zsU e]; exact d,Q j e,fun U arr t V => ⟨arr,?_,rfl⟩⟩
    obtain ⟨es,u,K⟩:=zaM d;have P : es ≠ []:=fun h => by subst h; exact U K.symm
    obtain ⟨S,_,arr',Y,X,_⟩:=R.ob j _ u P;have I : g.ρ j < w.heap.size:=(ya.1 X).1
    have c : ¬ q (g.ρ j):=fun c => by
     rcases (i _ c).1 with h | ⟨k,h⟩
     ·rw [S] at h; injection h with h; exact e h
     ·rw [S] at h; cases h
    rw [(f _ I c).1]; exact V
  map:=fun j es d => by
   by_cases e : j = id
   ·subst e
    obtain ⟨a,es',b⟩:=C es (by rw [l] at d; injection d);exact ⟨a,es',by rw [zB l,b]⟩
   ·exact ⟨Q j e,es,by rw [yd (Ne.symm e)]; exact d⟩
  tok:=fun j k n d => by
   by_cases e : j = id
   ·subst e; exact E k n d
   ·exact ⟨n,by rw [zyr e]; exact d,yj _,fun _ => D j k e⟩
  tsz:=fun j sz d => by
   obtain ⟨fr,u⟩:=zeD d
   by_cases e : j = id
   ·subst e
    rw [l] at u;injection u with u;obtain ⟨fr',K⟩:=G sz fr u;exact zb9 (fr:=fr') (by rw [zB l,K])
   ·exact zb9 (fr:=fr) (by rw [yd (Ne.symm e)]; exact u)
  ow:=fun b m => by
   by_cases c : q b
   ·exact (i b c).2.1
   ·exact (f b m c).2.1
  new:=fun b o h m L => by
   by_cases c : q b
   ·rcases (i b c).1 with h | ⟨k,h⟩ <;> rw [L] at h <;> cases h
   ·exact (f b m c).2.2 o h
  frame:=fun b m L => by
   by_cases c : q b
   ·rcases (i b c).1 with h | ⟨k,h⟩ <;> rw [L] at h <;> cases h
   ·exact (f b m c).1 }
 refine ⟨H,⟨O,fun j x d => ?_⟩⟩
 by_cases e : j = id
 ·subst e
  rw [zB l] at d;injection d with d;subst d;exact z H
 ·rw [yd (Ne.symm e)] at d
  refine zcS H (Q j e) (fun k => D j k e) (fun b m M => f b m fun c => ?_) (R.ob j x d)
  rcases (i b c).1 with h | ⟨k,h⟩ <;> rcases M with h' | ⟨k',h'⟩ <;> rw [h] at h'
  ·injection h' with h'; exact e h'.symm
  ·cases h'
  ·cases h'
  ·injection h' with h'; exact e h'.symm
end
def zcP (arr : Array Value) (p : Nat) (us : List Value) : Array Value:=(arr.toList.take p ++ us ++ arr.toList.drop (p + us.length)).toArray
theorem zfl {arr : Array Value} {p : Nat} {us : List Value} (h : p + us.length ≤ arr.size) : (zcP arr p us).size = arr.size:=by
 unfold zcP;simp;omega
theorem zfr {arr : Array Value} {p : Nat} {us : List Value} (h : p + us.length ≤ arr.size) (q : Nat) :
  (zcP arr p us)[q]? = if q < p then arr[q]? else if q < p + us.length then us[q - p]? else arr[q]?:=by
 unfold zcP;rw [List.getElem?_toArray,List.append_assoc,ye];have c : (arr.toList.take p).length = p:=by simp; omega
 rw [c]
 by_cases a : q < p
 ·rw [if_pos a,if_pos a,yl,if_pos a,yk]
 ·rw [if_neg a,if_neg a,ye]
  by_cases b : q < p + us.length
  ·rw [if_pos (by omega),if_pos b]
  ·rw [if_neg (by omega),if_neg b,ym,yk]
   congr 1
   omega
theorem zpK {e b cs : List C} {off : Nat} (h : zEa e off cs = some b) : off + cs.length ≤ e.length ∧ b.length = e.length ∧
  ∀ j,b[j]? = if j < off then e[j]? else if j < off + cs.length then cs[j - off]? else e[j]?:=by
 unfold zEa at h;split at h
 ·rename_i f
  injection h with h;subst h;refine ⟨f,by simp; omega,fun j => ?_⟩;rw [ye];have d : (e.take off).length = off:=by simp; omega
  rw [d]
  by_cases a : j < off
  ·rw [if_pos a,if_pos a,yl,if_pos a]
  ·rw [if_neg a,if_neg a,ye]
   by_cases c : j < off + cs.length
   ·rw [if_pos (by omega),if_pos c]
   ·rw [if_neg (by omega),if_neg c,ym]
    congr 1
    omega
 ·cases h
theorem zI {g : G} {w : World} {σ : zd} : ∀ {cs : List C} {us : List Value},zv g w σ cs us → us.length = cs.length
 | [],us,h => by simp only [zv] at h; simp [h]
 | c :: cs,us,h => by
   simp only [zv] at h;obtain ⟨v,vs,rfl,_,a⟩:=h;simp [zI a]
theorem zei {g : G} {w : World} {σ : zd} : ∀ {cs : List C} {us : List Value},zv g w σ cs us → ∀ {j : Nat} {c : C},cs[j]? = some c → ∃ u,us[j]? = some u ∧ zy g w σ c u
 | [],_,_,j,c,h => by simp at h
 | x :: cs,us,hr,j,c,h => by
   simp only [zv] at hr;obtain ⟨v,vs,rfl,b,a⟩:=hr
   cases j with
   | zero => simp at h; subst h; exact ⟨v,by simp,b⟩
   | succ j => simpa using zei a (j:=j) (c:=c) (by simpa using h)
theorem zkK {g : G} {w : World} {σ : zd} : ∀ {cs : List C} {us : List Value},us.length = cs.length → (∀ (j : Nat) (c : C) (u : Value),cs[j]? = some c → us[j]? = some u → zy g w σ c u) → zv g w σ cs us
 | [],us,hl,_ => by simp only [zv]; exact List.eq_nil_of_length_eq_zero (by simpa using hl)
 | c :: cs,[],hl,_ => by simp at hl
 | c :: cs,v :: vs,hl,h => by
   simp only [zv];exact ⟨v,vs,rfl,h 0 c v (by simp) (by simp),zkK (by simpa using hl) fun j c u a hu => h (j + 1) c u (by simpa using a) (by simpa using hu)⟩
theorem apart {i a sz j q : Nat} (h : i ≠ a) (c : j < sz) (b : q < sz) : i * sz + q ≠ a * sz + j:=by
 rcases Nat.lt_or_gt_of_ne h with h | h
 ·have : (i + 1) * sz ≤ a * sz:=yc _ h
  rw [yg] at this;omega
 ·have : (a + 1) * sz ≤ i * sz:=yc _ h
  rw [yg] at this;omega
theorem inside {i n sz q : Nat} (h : i < n) (a : q < sz) : i * sz + q < n * sz:=by
 have : (i + 1) * sz ≤ n * sz:=yc _ h;rw [yg] at this;omega
theorem zzp {i n sz q : Nat} (h : i < n) (a : q ≤ sz) : i * sz + q ≤ n * sz:=by
 have : (i + 1) * sz ≤ n * sz:=yc _ h;rw [yg] at this;omega
section
variable {g : G} {w : World} {σ : zd}
theorem zuv (R : Rel g w σ) {id v sz i off : Nat} {es : List (List C)} {e N cs : List C} {us : List Value} (m : σ[id]? = some (.cells v sz es)) (B : es[i]? = some e) (Z : zEa e off cs = some N)
  (E : zv g w σ cs us) (h1 : ∀ u ∈ us,u.oneCell' = true) :
  ∃ arr t,w.heap[g.ρ id]? = some (.cells arr t (0,0)) ∧ i * sz + off + us.length ≤ arr.size ∧
    Ext g w σ g (w.setRow (g.ρ id) (zcP arr (i * sz + off) us)) (σ.set id (.cells v sz (es.set i N))) ∧
    Rel g (w.setRow (g.ρ id) (zcP arr (i * sz + off) us)) (σ.set id (.cells v sz (es.set i N))):=by
 have O : es ≠ []:=fun h => by subst h; simp at B
 obtain ⟨G,V,arr,t,I,M,f⟩:=R.ob id _ m O;obtain ⟨aA,hle,D⟩:=zpK Z;have Y:=zI E;have L:=(f i e B).1;have r:=zb B
 have l : i * sz + off + us.length ≤ arr.size:=by
  have:=zzp (q:=off + us.length) r (by omega : off + us.length ≤ sz);omega
 refine ⟨arr,t,I,l,?_⟩;have Q : g.ρ id < w.heap.size:=(ya.1 I).1
 refine replace (g':=g) R m (fun b => b = g.ρ id) rfl rfl rfl (by simp) (fun b K ht => ⟨setRow_other w _ _ _ ht,rfl,fun _ h => h⟩)
  (fun b K => ⟨.inl (by rw [K]; exact G),rfl,fun o h => absurd (by rw [K] at h; exact h) (V o)⟩) (fun _ _ _ h => h) (fun _ _ => rfl) (fun _ _ _ => rfl) (fun b o h => by simpa using R.nb b o h) ?_ ?_ ?_ (fun _ _ h => by cases h) ?_
 ·intro P X W J
  refine .inl ⟨?_,rfl,fun _ U t0 A => ?_⟩
  ·rw [zt m] at J
   injection J with J;rw [zt (zB m),← J];simp
  ·rw [I] at A
   injection A with A;injection A with A h0t;subst A;subst h0t;exact ⟨_,setRow_heap w _ _ _ _ _ I,zfl l⟩
 ·intro es' h; cases h
 ·intro k n h; simp [zmP,m,Ob.fr] at h
 ·intro H S
  refine ⟨G,V,_,t,setRow_heap w _ _ _ _ _ I,by rw [zfl l]; simpa using M,fun z x s => ?_⟩;rw [yp] at s
  by_cases y : i = z
  ·subst y
   simp [r] at s;subst s;refine ⟨hle.trans L,fun j c p => ?_⟩;rw [D] at p;rw [zfr l]
   by_cases c1 : j < off
   ·rw [if_pos c1] at p
    obtain ⟨u,a,b,d⟩:=(f i e B).2 j c p;exact ⟨u,by rw [if_pos (by omega)]; exact a,H.zy c u b,d⟩
   ·rw [if_neg c1] at p
    by_cases c2 : j < off + cs.length
    ·rw [if_pos c2] at p
     obtain ⟨u,a,b⟩:=zei E p;refine ⟨u,?_,H.zy c u b,h1 u (List.mem_of_getElem? a)⟩;rw [if_neg (by omega),if_pos (by omega),show i * sz + j - (i * sz + off) = j - off from by omega];exact a
    ·rw [if_neg c2] at p
     obtain ⟨u,a,b,d⟩:=(f i e B).2 j c p;exact ⟨u,by rw [if_neg (by omega),if_neg (by omega)]; exact a,H.zy c u b,d⟩
  ·rw [if_neg y] at s
   refine ⟨(f z x s).1,fun j c p => ?_⟩;obtain ⟨u,a,b,d⟩:=(f z x s).2 j c p;have hj : j < sz:=(by have:=zb p; have:=(f z x s).1; omega);refine ⟨u,?_,H.zy c u b,d⟩;rw [zfr l]
   by_cases c1 : z * sz + j < i * sz + off
   ·rw [if_pos c1]; exact a
   ·rw [if_neg c1]
    by_cases c2 : z * sz + j < i * sz + off + us.length
    ·exfalso
     have:=apart (q:=z * sz + j - i * sz) y hj (by omega);omega
    ·rw [if_neg c2]; exact a
def G.setTv (g : G) (t k : Nat) (u : Value) : G:={ g with tv:=fun t' k' => if t' = t ∧ k' = k then u else g.tv t' k' }
theorem G.setTv_same (g : G) (t k : Nat) (u : Value) : (g.setTv t k u).tv t k = u:=by simp [G.setTv]
theorem G.setTv_ne (g : G) {t k b a : Nat} (u : Value) (h : ¬ (b = t ∧ a = k)) : (g.setTv t k u).tv b a = g.tv b a:=by simp [G.setTv,h]
theorem zvO {N : zgd} {xs : List (List Fz)} {b o c sz : Nat} (d : zbO sz xs) (a : xs.length ≤ c) (h : zfU w N sz xs b o) : rep w N (.sl xs) (.slice (some ⟨b,o,none⟩) xs.length c):=by
 simp only [rep];exact ⟨_,c,sz,rfl,a,d,.inr ⟨b,o,rfl,h⟩⟩
def Lay (w : World) (N : zgd) (sz : Nat) (xs : List (List Fz)) (us : List Value) : Prop :=
 us.length = xs.length * sz ∧ zbO sz xs ∧ ∀ i e,xs[i]? = some e → ∀ j x,e[j]? = some x → ∃ u,us[i * sz + j]? = some u ∧ rep w N x u ∧ u.oneCell' = true
theorem Lay.mono {w w' : World} {N d : zgd} {sz : Nat} {xs : List (List Fz)} {us : List Value} (h : Lay w N sz xs us) (H : zhd w w' N d) : Lay w' d sz xs us :=
 ⟨h.1,h.2.1,fun i e f j x g => by
  obtain ⟨u,a,b,c⟩:=h.2.2 i e f j x g
  exact ⟨u,a,zcM H x u b,c⟩⟩
theorem Lay.append {N : zgd} {sz : Nat} {xs ys : List (List Fz)} {us vs : List Value} (h : Lay w N sz xs us) (k : Lay w N sz ys vs) : Lay w N sz (xs ++ ys) (us ++ vs):=by
 refine ⟨by rw [yn,yn,h.1,k.1,yg],zeW fun e he => ?_,fun i e d j x f => ?_⟩
 ·rcases List.mem_append.1 he with he | he
  ·exact zfs h.2.1 e he
  ·exact zfs k.2.1 e he
 ·rw [ye] at d
  by_cases c : i < xs.length
  ·rw [if_pos c] at d
   obtain ⟨u,a,b⟩:=h.2.2 i e d j x f;refine ⟨u,?_,b⟩;rw [yb (zb a)];exact a
  ·rw [if_neg c] at d
   obtain ⟨u,a,b⟩:=k.2.2 _ e d j x f;refine ⟨u,?_,b⟩
   have : i * sz + j = us.length + ((i - xs.length) * sz + j):=by
    rw [h.1,Nat.sub_mul];have : xs.length * sz ≤ i * sz:=yc _ (yq c);omega
   rw [this,List.getElem?_append_right (by omega),Nat.add_sub_cancel_left];exact a
theorem znt {N : zgd} {xs : List (List Fz)} {u : Value} (h : rep w N (.sl xs) u) (A : ∀ x u,rep w N x u → u.oneCell' = true) : ∃ a c sz us,u = .slice a xs.length c ∧ xs.length ≤ c ∧ Lay w N sz xs us ∧ (xs = [] ∨ ∃ b o,a = some ⟨b,o,none⟩ ∧ ∀ j v,us[j]? = some v → w.cell? ⟨b,o + j,none⟩ = some v):=by
 simp only [rep] at h;obtain ⟨a,c,sz,e,t,n,m⟩:=h;rcases m with rfl | ⟨b,o,rfl,m⟩
 ·exact ⟨a,c,sz,[],e,t,⟨by simp,n,fun i e h => by simp at h⟩,.inl rfl⟩
 ·refine ⟨_,c,sz,(yv (xs.length * sz)).map fun j => (w.cell? ⟨b,o + j,none⟩).getD undef,e,t,⟨by simp,n,fun i e k j x f => ?_⟩,.inr ⟨b,o,rfl,fun j v g => ?_⟩⟩
  ·have d:=inside (zb k) (by have:=zb f; have:=zbS n k; omega : j < sz)
   obtain ⟨u,z,p,s⟩:=zgO (zfk m k) f;refine ⟨u,?_,s,A x u s⟩;rw [yr,yi d];simp only [yt];rw [show o + (i * sz + j) = o + i * sz + j from by omega,p];rfl
  ·rw [yr] at g
   cases f : (yv (xs.length * sz))[j]? with
   | none => rw [f] at g; cases g
   | some j' =>
     have d:=zb f;simp at d;rw [yi d] at f;injection f with f;subst f;rw [yi d] at g;simp only [yt] at g
     have l : 0 < sz:=by
      rcases Nat.eq_zero_or_pos sz with q | q
      ·subst q; simp at d
      ·exact q
     have k : j / sz < xs.length:=(Nat.div_lt_iff_lt_mul l).2 d;have f : j % sz < sz:=Nat.mod_lt _ l;have y:=zbS n (yf k);obtain ⟨u,z,p,s⟩:=zgO (zfk m (yf k)) (yf (by omega : j % sz < xs[j / sz].length))
     have r : o + j / sz * sz + j % sz = o + j:=by
      have:=Nat.div_add_mod j sz;rw [Nat.mul_comm] at this;omega
     rw [r] at p;rw [p] at g ⊢;exact g
theorem zlA {N c : zgd} {w' : World} {sz b o : Nat} {xs : List (List Fz)} {us : List Value} (h : Lay w N sz xs us) (H : zhd w w' N c) (f : ∀ j v,us[j]? = some v → c b (o + j) ∧ w'.cell? ⟨b,o + j,none⟩ = some v) : zfU w' c sz xs b o :=
 zfS fun i e d => zij fun j x g => by
  obtain ⟨u,a,k,_⟩:=h.2.2 i e d j x g;obtain ⟨c1,c2⟩:=f _ u a;rw [show o + (i * sz + j) = o + i * sz + j from by omega] at c1 c2;exact ⟨u,c1,c2,zcM H x u k⟩
end
end Go.A
