/- A part of the proof of SchedTells. Conditions: none. -/
import Derived.Test.YtmkncmffaaninaaGreatTAA
import Derived.Below
import Derived.Laws.CopyRow
import Derived.Deep.Draws
set_option linter.all false
open Array renaming getElem?_eq_some_iff → ya,getElem?_toList → yk
open List renaming getElem?_append_left → yb,getElem?_set_ne → yd,getElem?_append → ye,getElem?_eq_getElem → yf,getElem?_range → yi,getElem?_take → yl,getElem?_drop → ym,length_append → yn,getElem?_set → yp,getElem?_map → yr,map_id → yu,range → yv
open Nat renaming mul_le_mul_right → yc,add_mul → yg,lt_of_lt_of_le → yh,le_refl → yj,le_trans → yo,le_of_not_lt → yq
open Option renaming map_some → yt
namespace Go.A
def zzg : Value → Bool
 | .bool _ | .int _ _ | .float _ _ | .complex _ _ _ | .string _ | .nilFunc | .nilIface => true
 | .pointer none | .map none | .slice none 0 0 => true
 | _ => false
abbrev zgU:=Nat → Nat → Prop
mutual
def rep (w : World) (N : zgU) : Fz → Value → Prop
 | .lit v,u => u = v ∧ zzg v = true
 | .sl xs,u => ∃ a c sz,u = .slice a xs.length c ∧ xs.length ≤ c ∧ zb9 sz xs ∧ (xs = [] ∨ ∃ b o,a = some ⟨b,o,none⟩ ∧ zgs w N sz xs b o)
def zh7 (w : World) (N : zgU) : List Fz → Nat → Nat → Prop
 | [],_,_ => True
 | x :: xs,b,o => (∃ u,N b o ∧ w.cell? ⟨b,o,none⟩ = some u ∧ rep w N x u) ∧ zh7 w N xs b (o + 1)
def zgs (w : World) (N : zgU) : Nat → List (List Fz) → Nat → Nat → Prop
 | _,[],_,_ => True
 | sz,e :: es,b,o => zh7 w N e b o ∧ zgs w N sz es b (o + sz)
def zb9 : Nat → List (List Fz) → Prop
 | _,[] => True
 | sz,e :: es => e.length = sz ∧ zb9 sz es
end
def zhS (w w' : World) (N N' : zgU) : Prop:=∀ b o,N b o → N' b o ∧ w'.cell? ⟨b,o,none⟩ = w.cell? ⟨b,o,none⟩
theorem zhS.refl (w : World) (N : zgU) : zhS w w N N:=fun _ _ h => ⟨h,rfl⟩
theorem zhS.trans {w c e : World} {N f g : zgU} (h : zhS w c N f) (d : zhS c e f g) : zhS w e N g:=fun b o a =>
 ⟨(d b o (h b o a).1).1,((d b o (h b o a).1).2).trans (h b o a).2⟩
mutual
theorem zdb {w w' : World} {N e : zgU} (H : zhS w w' N e) : ∀ (x : Fz) (u : Value),rep w N x u → rep w' e x u
 | .lit v,u,h => by simpa only [rep] using h
 | .sl xs,u,h => by
   simp only [rep] at h ⊢;obtain ⟨a,c,sz,j,f,g,d⟩:=h;refine ⟨a,c,sz,j,f,g,?_⟩;rcases d with d | ⟨b,o,d,i⟩
   ·exact .inl d
   ·exact .inr ⟨b,o,d,zo4 H sz xs b o i⟩
theorem zfT {w w' : World} {N a : zgU} (H : zhS w w' N a) : ∀ (xs : List Fz) (b o : Nat),zh7 w N xs b o → zh7 w' a xs b o
 | [],_,_,_ => by simp only [zh7]
 | x :: xs,b,o,h => by
   simp only [zh7] at h ⊢;obtain ⟨⟨u,c,d,e⟩,f⟩:=h;exact ⟨⟨u,(H b o c).1,(H b o c).2.trans d,zdb H x u e⟩,zfT H xs b (o + 1) f⟩
theorem zo4 {w w' : World} {N a : zgU} (H : zhS w w' N a) : ∀ (sz : Nat) (es : List (List Fz)) (b o : Nat),zgs w N sz es b o → zgs w' a sz es b o
 | _,[],_,_,_ => by simp only [zgs]
 | sz,e :: es,b,o,h => by
   simp only [zgs] at h ⊢;exact ⟨zfT H e b o h.1,zo4 H sz es b (o + sz) h.2⟩
end
section
variable {w : World} {N : zgU}
theorem zcb {sz : Nat} : ∀ {es : List (List Fz)},zb9 sz es → ∀ {i : Nat} {e : List Fz},es[i]? = some e → e.length = sz
 | [],_,i,e,h => by simp at h
 | x :: xs,hl,i,e,h => by
   simp only [zb9] at hl
   cases i with
   | zero => simp at h; subst h; exact hl.1
   | succ i => exact zcb hl.2 (by simpa using h)
theorem zfK {sz : Nat} : ∀ {es : List (List Fz)},(∀ e ∈ es,e.length = sz) → zb9 sz es
 | [],_ => by simp only [zb9]
 | x :: xs,h => by
   simp only [zb9];exact ⟨h x (by simp),zfK fun e he => h e (by simp [he])⟩
theorem zf7 {sz : Nat} {es : List (List Fz)} (h : zb9 sz es) : ∀ e ∈ es,e.length = sz:=fun e he => by
 obtain ⟨i,a⟩:=List.mem_iff_getElem?.1 he;exact zcb h a
theorem zhC : ∀ {cs : List Fz} {b o : Nat},zh7 w N cs b o → ∀ {j : Nat} {x : Fz},cs[j]? = some x → ∃ u,N b (o + j) ∧ w.cell? ⟨b,o + j,none⟩ = some u ∧ rep w N x u
 | [],_,_,_,j,x,h => by simp at h
 | y :: ys,b,o,hr,j,x,h => by
   simp only [zh7] at hr
   cases j with
   | zero => simp at h; subst h; exact hr.1
   | succ j =>
     have:=zhC hr.2 (j:=j) (x:=x) (by simpa using h)
     rwa [show o + (j + 1) = o + 1 + j from by omega]
theorem ziW : ∀ {cs : List Fz} {b o : Nat},(∀ j x,cs[j]? = some x → ∃ u,N b (o + j) ∧ w.cell? ⟨b,o + j,none⟩ = some u ∧ rep w N x u) → zh7 w N cs b o
 | [],_,_,_ => by simp only [zh7]
 | y :: ys,b,o,h => by
   simp only [zh7];refine ⟨by simpa using h 0 y (by simp),ziW fun j x a => ?_⟩;have:=h (j + 1) x (by simpa using a)
   rwa [show o + (j + 1) = o + 1 + j from by omega] at this
theorem zf1 {sz : Nat} : ∀ {es : List (List Fz)} {b o : Nat},zgs w N sz es b o → ∀ {i : Nat} {e : List Fz},es[i]? = some e → zh7 w N e b (o + i * sz)
 | [],_,_,_,i,e,h => by simp at h
 | y :: ys,b,o,hr,i,e,h => by
   simp only [zgs] at hr
   cases i with
   | zero => simp at h; subst h; simpa using hr.1
   | succ i =>
     have:=zf1 hr.2 (i:=i) (e:=e) (by simpa using h)
     rwa [show o + (i + 1) * sz = o + sz + i * sz from by rw [yg]; omega]
theorem zgG {sz : Nat} : ∀ {es : List (List Fz)} {b o : Nat},(∀ i e,es[i]? = some e → zh7 w N e b (o + i * sz)) → zgs w N sz es b o
 | [],_,_,_ => by simp only [zgs]
 | y :: ys,b,o,h => by
   simp only [zgs];refine ⟨by simpa using h 0 y (by simp),zgG fun i e a => ?_⟩;have:=h (i + 1) e (by simpa using a)
   rwa [show o + (i + 1) * sz = o + sz + i * sz from by rw [yg]; omega] at this
end
inductive Ow where
 | no
 | ob (id : Nat)
 | tk (t k : Nat)
structure G where
 ρ : Nat → Nat
 tv : Nat → Nat → Value
 ow : Nat → Ow
 N : zgU
def Ob.shape : Ob → Option (Nat × Nat × Nat)
 | .cells ver sz es => some (ver,sz,es.length)
 | _ => none
def shapeOf (σ : zd) (id : Nat) : Option (Nat × Nat × Nat):=(σ[id]?).bind Ob.shape
def Ob.fr (k : Nat) : Ob → Option Nat
 | .tok _ fr => fr[k]?
 | _ => none
def znR (σ : zd) (t k : Nat) : Option Nat:=(σ[t]?).bind (Ob.fr k)
def Ob.tsz : Ob → Option Nat
 | .tok sz _ => some sz
 | _ => none
def zpe (σ : zd) (t : Nat) : Option Nat:=(σ[t]?).bind Ob.tsz
def zBX (w : World) (b sz len lo n : Nat) (u : Value) : Prop :=
 ∃ a c,u = .slice a n c ∧ n ≤ c ∧ (len = 0 → c = 0) ∧ (len ≠ 0 → lo + n ≤ len ∧ (c ≠ 0 → a = some ⟨b,lo * sz,none⟩) ∧ ∃ arr t,w.heap[b]? = some (.cells arr t (0,0)) ∧ (lo + c) * sz ≤ arr.size)
mutual
def zz (g : G) (w : World) (σ : zd) : C → Value → Prop
 | .f x,u => rep w g.N x u
 | .ap t k xs,u => rep w g.N (.sl xs) u ∧ ∃ n,znR σ t k = some n ∧ xs.length ≤ n ∧ (xs.length = n → u = g.tv t k) ∧ ∃ sz,zpe σ t = some sz ∧ zb9 sz xs
 | .ptr id ver i off,u => ∃ ver0 sz len,shapeOf σ id = some (ver0,sz,len) ∧ ver ≤ ver0 ∧ (ver = ver0 → u = .pointer (some ⟨g.ρ id,i * sz + off,none⟩)) ∧ ∃ ad,u = .pointer (some ad)
 | .fp cs off,u => ∃ b o,u = .pointer (some ⟨b,o + off,none⟩) ∧ zh7 w g.N cs b o
 | .own id ver lo n,u => ∃ ver0 sz len,shapeOf σ id = some (ver0,sz,len) ∧ ver ≤ ver0 ∧ (ver = ver0 → zBX w (g.ρ id) sz len lo n u) ∧ ∃ ad c,u = .slice ad n c
 | .map id,u => (∃ es,σ[id]? = some (.mp es)) ∧ u = .map (some (g.ρ id))
 | .fn f first caps,u => ∃ fs cs,u = .func (.func f) fs cs ∧ zw g w σ first fs.toList ∧ zw g w σ caps cs.toList
 | .un,_ => True
def zw (g : G) (w : World) (σ : zd) : List C → List Value → Prop
 | [],us => us = []
 | c :: cs,us => ∃ v vs,us = v :: vs ∧ zz g w σ c v ∧ zw g w σ cs vs
end
mutual
def zf (g : G) (w : World) (σ : zd) : V → Value → Prop
 | .one c,u => zz g w σ c u
 | .agg cs,u => ∃ us,u = .agg us ∧ zw g w σ cs us.toList
 | .tup vs,u => ∃ us,u = .tuple us ∧ zA g w σ vs us.toList
def zA (g : G) (w : World) (σ : zd) : List V → List Value → Prop
 | [],us => us = []
 | v :: vs,us => ∃ x xs,us = x :: xs ∧ zf g w σ v x ∧ zA g w σ vs xs
end
structure Ext (g : G) (w : World) (σ : zd) (g' : G) (w' : World) (σ' : zd) : Prop where
 os : w'.os = w.os
 tape : w'.tape = w.tape
 output : w'.output = w.output
 size : w.heap.size ≤ w'.heap.size
 keeps : zhS w w' g.N g'.N
 len : σ.length ≤ σ'.length
 shape : ∀ id ver sz len,shapeOf σ id = some (ver,sz,len) →
  (shapeOf σ' id = some (ver,sz,len) ∧ g'.ρ id = g.ρ id ∧ (len ≠ 0 → ∀ arr t,w.heap[g.ρ id]? = some (.cells arr t (0,0)) → ∃ arr',w'.heap[g.ρ id]? = some (.cells arr' t (0,0)) ∧ arr'.size = arr.size)) ∨
  ∃ ver1 len1,shapeOf σ' id = some (ver1,sz,len1) ∧ ver < ver1
 map : ∀ id es,σ[id]? = some (.mp es) → g'.ρ id = g.ρ id ∧ ∃ es',σ'[id]? = some (.mp es')
 tok : ∀ t k n,znR σ t k = some n → ∃ n',znR σ' t k = some n' ∧ n ≤ n' ∧ (n = n' → g'.tv t k = g.tv t k)
 tsz : ∀ t sz,zpe σ t = some sz → zpe σ' t = some sz
 ow : ∀ b,b < w.heap.size → g'.ow b = g.ow b
 new : ∀ b o,g'.N b o → b < w.heap.size → g.ow b = .no → g.N b o
 frame : ∀ b,b < w.heap.size → g.ow b = .no → w'.heap[b]? = w.heap[b]?
theorem Ext.refl (g : G) (w : World) (σ : zd) : Ext g w σ g w σ where
 os:=rfl
 tape:=rfl
 output:=rfl
 size:=yj _
 keeps:=zhS.refl _ _
 len:=yj _
 shape:=fun id a sz len h => .inl ⟨h,rfl,fun _ arr t b => ⟨arr,b,rfl⟩⟩
 map:=fun id es h => ⟨rfl,es,h⟩
 tok:=fun t k n h => ⟨n,h,yj _,fun _ => rfl⟩
 tsz:=fun _ _ h => h
 ow:=fun _ _ => rfl
 new:=fun _ _ h _ _ => h
 frame:=fun _ _ _ => rfl
theorem Ext.trans {g B z : G} {w A C : World} {σ σ1 σ2 : zd} (h : Ext g w σ B A σ1) (k : Ext B A σ1 z C σ2) : Ext g w σ z C σ2 where
 os:=k.os.trans h.os
 tape:=k.tape.trans h.tape
 output:=k.output.trans h.output
 size:=yo h.size k.size
 keeps:=h.keeps.trans k.keeps
 len:=yo h.len k.len
 shape:=fun id p sz len M => by
  rcases h.shape id p sz len M with ⟨a,b,c⟩ | ⟨v1,q,a,b⟩
  ·rcases k.shape id p sz len a with ⟨d,i,x⟩ | ⟨v1,q,d,i⟩
   ·refine .inl ⟨d,i.trans b,fun y arr t J => ?_⟩
    obtain ⟨m,E,K⟩:=c y arr t J;obtain ⟨l,I,L⟩:=x y m t (by rw [b]; exact E);exact ⟨l,by rw [← b]; exact I,L.trans K⟩
   ·exact .inr ⟨v1,q,d,i⟩
  ·rcases k.shape id v1 sz q a with ⟨d,_⟩ | ⟨v2,N,d,i⟩
   ·exact .inr ⟨v1,q,d,b⟩
   ·exact .inr ⟨v2,N,d,Nat.lt_trans b i⟩
 map:=fun id es hm => by
  obtain ⟨a,s,b⟩:=h.map id es hm;obtain ⟨d,v,i⟩:=k.map id s b;exact ⟨d.trans a,v,i⟩
 tok:=fun t D n r => by
  obtain ⟨u,a,b,c⟩:=h.tok t D n r;obtain ⟨n2,d,i,x⟩:=k.tok t D u a
  exact ⟨n2,d,yo b i,fun e => by
   have e1 : n = u:=(by omega);have e2 : u = n2:=by omega
   exact (x e2).trans (c e1)⟩
 tsz:=fun t sz H => k.tsz t sz (h.tsz t sz H)
 ow:=fun b f => (k.ow b (yh f h.size)).trans (h.ow b f)
 new:=fun b o r f j => h.new b o (k.new b o r (yh f h.size) ((h.ow b f).trans j)) f j
 frame:=fun b f j => (k.frame b (yh f h.size) ((h.ow b f).trans j)).trans (h.frame b f j)
mutual
theorem Ext.zz {g g' : G} {w w' : World} {σ σ' : zd} (H : Ext g w σ g' w' σ') : ∀ (c : C) (u : Value),zz g w σ c u → Go.A.zz g' w' σ' c u
 | .f x,u,h => by
   simp only [Go.A.zz] at h ⊢;exact zdb H.keeps x u h
 | .ap t k xs,u,h => by
   simp only [Go.A.zz] at h ⊢;obtain ⟨d,n,j,m,l,sz,z,B⟩:=h;obtain ⟨s,a,b,c⟩:=H.tok t k n j;refine ⟨zdb H.keeps _ u d,s,a,by omega,fun e => ?_,sz,H.tsz t sz z,B⟩;have e1 : n = s:=(by omega);rw [c e1];exact l (by omega)
 | .ptr id ver i off,u,h => by
   simp only [Go.A.zz] at h ⊢;obtain ⟨v0,sz,len,d,j,m,l⟩:=h;rcases H.shape id v0 sz len d with ⟨a,b,_⟩ | ⟨v1,q,a,b⟩
   ·exact ⟨v0,sz,len,a,j,by rw [b]; exact m,l⟩
   ·exact ⟨v1,sz,q,a,by omega,fun e => by omega,l⟩
 | .fp cs off,u,h => by
   simp only [Go.A.zz] at h ⊢;obtain ⟨b,o,d,j⟩:=h;exact ⟨b,o,d,zfT H.keeps cs b o j⟩
 | .own id ver lo n,u,h => by
   simp only [Go.A.zz] at h ⊢;obtain ⟨v0,sz,len,d,j,m,l⟩:=h;rcases H.shape id v0 sz len d with ⟨a,b,c⟩ | ⟨v1,q,a,b⟩
   ·refine ⟨v0,sz,len,a,j,fun e => ?_,l⟩
    obtain ⟨ad,cp,e1,e2,e3,e4⟩:=m e;refine ⟨ad,cp,e1,e2,e3,fun r => ?_⟩;obtain ⟨f1,f2,arr,t,f3,f4⟩:=e4 r;obtain ⟨p,y,v⟩:=c r arr t f3;exact ⟨f1,by rw [b]; exact f2,p,t,by rw [b]; exact y,by rw [v]; exact f4⟩
   ·exact ⟨v1,sz,q,a,by omega,fun e => by omega,l⟩
 | .map id,u,h => by
   simp only [Go.A.zz] at h ⊢;obtain ⟨⟨es,d⟩,j⟩:=h;obtain ⟨a,es',b⟩:=H.map id es d;exact ⟨⟨es',b⟩,by rw [a]; exact j⟩
 | .fn f a b,u,h => by
   simp only [Go.A.zz] at h ⊢;obtain ⟨fs,cs,d,j,m⟩:=h;exact ⟨fs,cs,d,Ext.zw H a _ j,Ext.zw H b _ m⟩
 | .un,_,_ => by simp only [Go.A.zz]
theorem Ext.zw {g g' : G} {w w' : World} {σ σ' : zd} (H : Ext g w σ g' w' σ') : ∀ (cs : List C) (us : List Value),zw g w σ cs us → Go.A.zw g' w' σ' cs us
 | [],us,h => by simpa only [Go.A.zw] using h
 | c :: cs,us,h => by
   simp only [Go.A.zw] at h ⊢;obtain ⟨v,vs,d,a,b⟩:=h;exact ⟨v,vs,d,Ext.zz H c v a,Ext.zw H cs vs b⟩
end
mutual
theorem Ext.zf {g g' : G} {w w' : World} {σ σ' : zd} (H : Ext g w σ g' w' σ') : ∀ (c : V) (u : Value),zf g w σ c u → Go.A.zf g' w' σ' c u
 | .one c,u,h => by
   simp only [Go.A.zf] at h ⊢;exact H.zz c u h
 | .agg cs,u,h => by
   simp only [Go.A.zf] at h ⊢;obtain ⟨us,b,a⟩:=h;exact ⟨us,b,H.zw cs _ a⟩
 | .tup vs,u,h => by
   simp only [Go.A.zf] at h ⊢;obtain ⟨us,b,a⟩:=h;exact ⟨us,b,Ext.zA H vs _ a⟩
theorem Ext.zA {g g' : G} {w w' : World} {σ σ' : zd} (H : Ext g w σ g' w' σ') : ∀ (cs : List V) (us : List Value),zA g w σ cs us → Go.A.zA g' w' σ' cs us
 | [],us,h => by simpa only [Go.A.zA] using h
 | c :: cs,us,h => by
   simp only [Go.A.zA] at h ⊢;obtain ⟨v,vs,d,a,b⟩:=h;exact ⟨v,vs,d,Ext.zf H c v a,Ext.zA H cs vs b⟩
end
def zrw (g : G) (w : World) (σ : zd) : List (Int × V) → List MapEntry → Prop
 | [],es => es = []
 | x :: xs,es => ∃ e rest,es = e :: rest ∧ e.key = .int .i64 x.1 ∧ zf g w σ x.2 e.val ∧ zrw g w σ xs rest
def zmq (g : G) (w : World) (σ : zd) (es : List (Int × V)) (zbC : List MapEntry) (clock : Nat) : Prop :=
 (∃ es',es'.Perm es ∧ (es'.map (·.1)).Nodup ∧ zrw g w σ es' zbC) ∧ (zbC.map (·.born)).Nodup ∧ ∀ e ∈ zbC,e.born < clock
def zci (g : G) (w : World) (σ : zd) (arr : Array Value) (sz : Nat) (es : List (List C)) : Prop :=
 ∀ i e,es[i]? = some e → e.length = sz ∧ ∀ j c,e[j]? = some c → ∃ u,arr[i * sz + j]? = some u ∧ zz g w σ c u ∧ u.oneCell' = true
def zCe (g : G) (w : World) (σ : zd) (id : Nat) : Ob → Prop
 | .cells _ sz es => es ≠ [] → g.ow (g.ρ id) = .ob id ∧ (∀ o,¬ g.N (g.ρ id) o) ∧ ∃ arr t,w.heap[g.ρ id]? = some (.cells arr t (0,0)) ∧ es.length * sz ≤ arr.size ∧ zci g w σ arr sz es
 | .mp es => g.ow (g.ρ id) = .ob id ∧ (∀ o,¬ g.N (g.ρ id) o) ∧ ∃ zbC clock,w.heap[g.ρ id]? = some (.map zbC clock) ∧ zmq g w σ es zbC.toList clock
 | .tok sz fr => ∀ k n,fr[k]? = some n → (n = 0 ∧ ∃ a,g.tv id k = .slice a 0 0) ∨
  ∃ b o c arr t,g.tv id k = .slice (some ⟨b,o,none⟩) n c ∧ 0 < c ∧ n ≤ c ∧ g.ow b = .tk id k ∧ w.heap[b]? = some (.cells arr t (0,0)) ∧ o + c * sz ≤ arr.size ∧ ∀ o',g.N b o' → o' < o + n * sz
structure Rel (g : G) (w : World) (σ : zd) : Prop where
 nb : ∀ b o,g.N b o → b < w.heap.size
 ob : ∀ id o,σ[id]? = some o → zCe g w σ id o
theorem Ext.zci {g g' : G} {w w' : World} {σ σ' : zd} (H : Ext g w σ g' w' σ') {arr : Array Value} {sz : Nat} {es : List (List C)} (h : zci g w σ arr sz es) : Go.A.zci g' w' σ' arr sz es :=
 fun i e d => ⟨(h i e d).1,fun j c f => by
  obtain ⟨u,a,b,c1⟩:=(h i e d).2 j c f
  exact ⟨u,a,H.zz c u b,c1⟩⟩
theorem Ext.zrw {g g' : G} {w w' : World} {σ σ' : zd} (H : Ext g w σ g' w' σ') : ∀ {es : List (Int × V)} {zbC : List MapEntry},zrw g w σ es zbC → Go.A.zrw g' w' σ' es zbC
 | [],_,h => h
 | x :: xs,_,h => by
   obtain ⟨e,rest,c,a,b,d⟩:=h;exact ⟨e,rest,c,a,H.zf _ _ b,Ext.zrw H d⟩
theorem zx8 {g : G} {w : World} {σ : zd} {es a : List (Int × V)} {zbC : List MapEntry} {clock : Nat} (h : es.Perm a) (hm : zmq g w σ es zbC clock) : zmq g w σ a zbC clock:=by
 obtain ⟨⟨es',d,b,c⟩,e⟩:=hm;exact ⟨⟨es',d.trans h,b,c⟩,e⟩
theorem zpo {g g' : G} {w w' : World} {σ σ' : zd} {es : List (Int × V)} {zbC : List MapEntry} {clock : Nat} (h : zmq g w σ es zbC clock) (f : Int × V → Int × V) (b : ∀ e,(f e).1 = e.1) (k : ∀ es',es'.Perm es → Go.A.zrw g w σ es' zbC → Go.A.zrw g' w' σ' (es'.map f) zbC) : Go.A.zmq g' w' σ' (es.map f) zbC clock:=by
 obtain ⟨⟨es',a,c,d⟩,i⟩:=h;refine ⟨⟨es'.map f,a.map f,?_,k es' a d⟩,i⟩
 have e : (es'.map f).map (·.1) = es'.map (·.1):=by
  rw [List.map_map];exact List.map_congr_left fun e _ => b e
 rw [e];exact c
theorem Ext.zmq {g g' : G} {w w' : World} {σ σ' : zd} (H : Ext g w σ g' w' σ') {es : List (Int × V)} {zbC : List MapEntry} {clock : Nat} (h : zmq g w σ es zbC clock) : Go.A.zmq g' w' σ' es zbC clock:=by
 have:=zpo (g':=g') (w':=w') (σ':=σ') h id (fun _ => rfl) (fun es' _ h => by rw [yu]; exact H.zrw h)
 rwa [yu] at this
end Go.A
namespace Go.A
def zzd {α : Type} (f : Nat → α) (k : Nat) (v : α) : Nat → α:=fun i => if i = k then v else f i
@[simp] theorem zhJ {α : Type} (f : Nat → α) (k : Nat) (v : α) : zzd f k v k = v:=by simp [zzd]
theorem zaQ {α : Type} (f : Nat → α) {k i : Nat} (v : α) (h : i ≠ k) : zzd f k v i = f i:=by simp [zzd,h]
theorem za2 {σ : zd} {id a sz len : Nat} (h : shapeOf σ id = some (a,sz,len)) : ∃ es,σ[id]? = some (.cells a sz es) ∧ es.length = len:=by
 unfold shapeOf at h
 cases b : σ[id]? with
 | none => simp [b] at h
 | some o =>
   cases o with
   | cells v s es => simp [b,Ob.shape] at h; exact ⟨es,by simp [h],h.2.2⟩
   | tok s fr => simp [b,Ob.shape] at h
   | mp es => simp [b,Ob.shape] at h
theorem zu {σ : zd} {id a sz : Nat} {es : List (List C)} (h : σ[id]? = some (.cells a sz es)) : shapeOf σ id = some (a,sz,es.length):=by simp [shapeOf,h,Ob.shape]
theorem zdi {σ : zd} {t k n : Nat} (h : znR σ t k = some n) : ∃ sz fr,σ[t]? = some (.tok sz fr) ∧ fr[k]? = some n:=by
 unfold znR at h
 cases a : σ[t]? with
 | none => simp [a] at h
 | some o =>
   cases o with
   | cells v s es => simp [a,Ob.fr] at h
   | tok s fr => simp [a,Ob.fr] at h; exact ⟨s,fr,rfl,h⟩
   | mp es => simp [a,Ob.fr] at h
theorem zd3 {σ : zd} {t k n sz : Nat} {fr : List Nat} (h : σ[t]? = some (.tok sz fr)) (a : fr[k]? = some n) : znR σ t k = some n:=by simp [znR,h,Ob.fr,a]
theorem zfc {σ : zd} {t sz : Nat} (h : zpe σ t = some sz) : ∃ fr,σ[t]? = some (.tok sz fr):=by
 unfold zpe at h
 cases a : σ[t]? with
 | none => simp [a] at h
 | some o =>
   cases o with
   | cells v s es => simp [a,Ob.tsz] at h
   | tok s fr => simp [a,Ob.tsz] at h; exact ⟨fr,by rw [h]⟩
   | mp es => simp [a,Ob.tsz] at h
theorem zct {σ : zd} {t sz : Nat} {fr : List Nat} (h : σ[t]? = some (.tok sz fr)) : zpe σ t = some sz:=by simp [zpe,h,Ob.tsz]
theorem zb {α : Type} {l : List α} {i : Nat} {x : α} (h : l[i]? = some x) : i < l.length:=(List.getElem?_eq_some_iff.1 h).1
section
variable {g g' : G} {w w' : World} {σ σ' : zd}
def zuO (g : G) (w : World) (g' : G) (w' : World) (b : Nat) : Prop:=w'.heap[b]? = w.heap[b]? ∧ g'.ow b = g.ow b ∧ ∀ o,g'.N b o → g.N b o
theorem zdq (H : Ext g w σ g' w' σ') {id : Nat} {o : Ob} (x : g'.ρ id = g.ρ id) (y : ∀ k,g'.tv id k = g.tv id k)
  (s : ∀ b,b < w.heap.size → g.ow b = .ob id ∨ (∃ k,g.ow b = .tk id k) → zuO g w g' w' b) (h : zCe g w σ id o) : zCe g' w' σ' id o:=by
 cases o with
 | cells ver sz es =>
   intro u;obtain ⟨d,m,arr,t,e,f,p⟩:=h u;have a : g.ρ id < w.heap.size:=(ya.1 e).1;obtain ⟨j,i,l⟩:=s _ a (.inl d);rw [x];exact ⟨i.trans d,fun o q => m o (l o q),arr,t,j.trans e,f,H.zci p⟩
 | mp es =>
   obtain ⟨d,m,zbC,clock,e,f⟩:=h;have a : g.ρ id < w.heap.size:=(ya.1 e).1;obtain ⟨j,i,l⟩:=s _ a (.inl d);unfold zCe;rw [x];exact ⟨i.trans d,fun o q => m o (l o q),zbC,clock,j.trans e,H.zmq f⟩
 | tok sz fr =>
   intro k n z;rw [y];rcases h k n z with h | ⟨b,o,c,arr,t,d,m,e,f,p,B,A⟩
   ·exact .inl h
   ·have a : b < w.heap.size:=(ya.1 p).1
    obtain ⟨j,i,l⟩:=s _ a (.inr ⟨k,f⟩);exact .inr ⟨b,o,c,arr,t,d,m,e,i.trans f,j.trans p,B,fun v r => A v (l v r)⟩
theorem heap_alloc_old (w : World) (o : Obj) {b : Nat} (h : b < w.heap.size) : (w.alloc o).heap[b]? = w.heap[b]?:=by
 show (w.heap.push o)[b]? = _
 rw [Array.getElem?_push,if_neg (by omega)]
theorem zbu (w : World) (o : Obj) : (w.alloc o).heap[w.heap.size]? = some o:=by
 show (w.heap.push o)[w.heap.size]? = _
 simp
theorem zrk (w : World) (o : Obj) {b i : Nat} (h : b < w.heap.size) : (w.alloc o).cell? ⟨b,i,none⟩ = w.cell? ⟨b,i,none⟩:=by
 unfold World.cell?;rw [heap_alloc_old w o h]
theorem size_alloc (w : World) (o : Obj) : (w.alloc o).heap.size = w.heap.size + 1:=World.size_alloc w o
theorem Ext.alloc (R : Rel g w σ) (o : Obj) (g' : G) (l : ∀ id,id < σ.length → g'.ρ id = g.ρ id) (m : ∀ t k n,znR σ t k = some n → g'.tv t k = g.tv t k) (hw : ∀ b,b < w.heap.size → g'.ow b = g.ow b)
  (f : ∀ b o,b < w.heap.size → (g'.N b o ↔ g.N b o)) (os : List Ob) : Ext g w σ g' (w.alloc o) (σ ++ os) where
 os:=rfl
 tape:=rfl
 output:=rfl
 size:=by rw [size_alloc]; omega
 keeps:=fun b i h => ⟨(f b i (R.nb b i h)).2 h,zrk w o (R.nb b i h)⟩
 len:=by simp
 shape:=fun id p sz len h => by
  obtain ⟨es,a,j⟩:=za2 h;have c:=zb a;refine .inl ⟨by unfold shapeOf; rw [yb c]; exact h,l id c,fun _ arr t e => ⟨arr,?_,rfl⟩⟩;rw [heap_alloc_old w o (ya.1 e).1];exact e
 map:=fun id es h => ⟨l id (zb h),es,by rw [yb (zb h)]; exact h⟩
 tok:=fun t k n h => by
  obtain ⟨sz,fr,a,j⟩:=zdi h;exact ⟨n,zd3 (by rw [yb (zb a)]; exact a) j,yj _,fun _ => m t k n h⟩
 tsz:=fun t sz h => by
  obtain ⟨fr,a⟩:=zfc h;exact zct (fr:=fr) (by rw [yb (zb a)]; exact a)
 ow:=hw
 new:=fun b i h d _ => (f b i d).1 h
 frame:=fun b d _ => heap_alloc_old w o d
def G.freeze (g : G) (b : Nat) : G:={ g with N:=fun b' o => g.N b' o ∨ b' = b }
theorem zuQ (R : Rel g w σ) (o : Obj) : Ext g w σ (g.freeze w.heap.size) (w.alloc o) σ ∧ Rel (g.freeze w.heap.size) (w.alloc o) σ:=by
 have c : ∀ b i,b < w.heap.size → ((g.freeze w.heap.size).N b i ↔ g.N b i):=fun b i a =>
  ⟨fun h => h.elim id (fun e => by omega),.inl⟩
 have H : Ext g w σ (g.freeze w.heap.size) (w.alloc o) σ:=by
  have:=Ext.alloc R o (g.freeze w.heap.size) (fun _ _ => rfl) (fun _ _ _ _ => rfl) (fun _ _ => rfl) c [];simpa using this
 refine ⟨H,⟨fun b i h => ?_,fun id ob h => zdq H rfl (fun _ => rfl) (fun b a _ => ⟨heap_alloc_old w o a,rfl,fun i => (c b i a).1⟩) (R.ob id ob h)⟩⟩;rw [size_alloc];rcases h with h | h
 ·have:=R.nb b i h; omega
 ·omega
def G.own (g : G) (id b : Nat) : G:={ g with ρ:=zzd g.ρ id b,ow:=zzd g.ow b (.ob id) }
theorem zvb (R : Rel g w σ) (ob : Ob) (o : Obj) (a : ∀ {g' : G} {σ' : zd},Ext g w σ g' (w.alloc o) σ' → g'.ρ σ.length = w.heap.size → g'.ow w.heap.size = .ob σ.length → (∀ i,¬ g'.N w.heap.size i) → zCe g' (w.alloc o) σ' σ.length ob) :
  Ext g w σ (g.own σ.length w.heap.size) (w.alloc o) (σ ++ [ob]) ∧ Rel (g.own σ.length w.heap.size) (w.alloc o) (σ ++ [ob]):=by
 have H : Ext g w σ (g.own σ.length w.heap.size) (w.alloc o) (σ ++ [ob]) :=
  Ext.alloc R o (g.own σ.length w.heap.size) (fun id h => zaQ g.ρ (k:=σ.length) (i:=id) _ (by omega)) (fun _ _ _ _ => rfl) (fun b h => zaQ g.ow (k:=w.heap.size) (i:=b) _ (by omega)) (fun _ _ _ => Iff.rfl) [ob]
 refine ⟨H,⟨fun b i h => by rw [size_alloc]; have:=R.nb b i h; omega,fun id x h => ?_⟩⟩
 by_cases d : id < σ.length
 ·rw [yb d] at h
  exact zdq H (zaQ g.ρ (k:=σ.length) (i:=id) _ (by omega)) (fun _ => rfl) (fun b f _ => ⟨heap_alloc_old w o f,zaQ g.ow (k:=w.heap.size) (i:=b) _ (by omega),fun _ h => h⟩) (R.ob id x h)
 ·have c : id = σ.length:=by
   have:=zb h;simp at this;omega
  subst c;simp at h;subst h;exact a H (by simp [G.own]) (by simp [G.own]) (fun i e => by have:=R.nb _ i e; omega)
theorem zA3 {id j : Nat} {new : Ob} (σ : zd) : (σ.set id new)[j]? = if id = j ∧ id < σ.length then some new else σ[j]?:=by
 rw [yp]
 by_cases h : id = j
 ·subst h
  by_cases a : id < σ.length
  ·simp [a]
  ·simp [a,List.getElem?_eq_none (yq a)]
 ·simp [h]
theorem zvp {id j : Nat} {new : Ob} (h : j ≠ id) : shapeOf (σ.set id new) j = shapeOf σ j:=by
 unfold shapeOf;rw [yd (Ne.symm h)]
theorem zBM {id j k : Nat} {new : Ob} (h : j ≠ id) : znR (σ.set id new) j k = znR σ j k:=by
 unfold znR;rw [yd (Ne.symm h)]
theorem zD {id : Nat} {a new : Ob} (h : σ[id]? = some a) : (σ.set id new)[id]? = some new:=by
 rw [zA3];simp [zb h]
theorem replace {id : Nat} {r new : Ob} (R : Rel g w σ) (l : σ[id]? = some r) (m : Nat → Prop)
  (M : w'.os = w.os) (z : w'.tape = w.tape) (C : w'.output = w.output) (s : w.heap.size ≤ w'.heap.size)
  (i : ∀ b,b < w.heap.size → ¬ m b → zuO g w g' w' b)
  (f : ∀ b,m b → (g.ow b = .ob id ∨ ∃ k,g.ow b = .tk id k) ∧ g'.ow b = g.ow b ∧ ∀ o,g.N b o → g'.N b o ∧ w'.cell? ⟨b,o,none⟩ = w.cell? ⟨b,o,none⟩)
  (X : ∀ b o,¬ m b → g.N b o → g'.N b o)
  (P : ∀ j,j ≠ id → g'.ρ j = g.ρ j) (D : ∀ j k,j ≠ id → g'.tv j k = g.tv j k)
  (Q : ∀ b o,g'.N b o → b < w'.heap.size)
  (p : ∀ ver sz len,shapeOf σ id = some (ver,sz,len) →
   (shapeOf (σ.set id new) id = some (ver,sz,len) ∧ g'.ρ id = g.ρ id ∧ (len ≠ 0 → ∀ arr t,w.heap[g.ρ id]? = some (.cells arr t (0,0)) → ∃ arr',w'.heap[g.ρ id]? = some (.cells arr' t (0,0)) ∧ arr'.size = arr.size)) ∨
   ∃ ver1 len1,shapeOf (σ.set id new) id = some (ver1,sz,len1) ∧ ver < ver1)
  (G : ∀ es,r = .mp es → g'.ρ id = g.ρ id ∧ ∃ es',new = .mp es')
  (B : ∀ k n,znR σ id k = some n → ∃ n',znR (σ.set id new) id k = some n' ∧ n ≤ n' ∧ (n = n' → g'.tv id k = g.tv id k))
  (E : ∀ sz fr,r = .tok sz fr → ∃ fr',new = .tok sz fr')
  (v : Ext g w σ g' w' (σ.set id new) → zCe g' w' (σ.set id new) id new) :
  Ext g w σ g' w' (σ.set id new) ∧ Rel g' w' (σ.set id new):=by
 have A : ∀ b o,b < w.heap.size → ¬ m b → w'.cell? ⟨b,o,none⟩ = w.cell? ⟨b,o,none⟩:=fun b o q c => by
  unfold World.cell?;rw [(i b q c).1]
 have y : zhS w w' g.N g'.N:=fun b o h => by
  by_cases c : m b
  ·exact (f b c).2.2 o h
  ·exact ⟨X b o c h,A b o (R.nb b o h) c⟩
 have H : Ext g w σ g' w' (σ.set id new):={
  os:=M
  tape:=z
  output:=C
  size:=s
  keeps:=y
  len:=by simp
  shape:=fun j ver sz len d => by
   by_cases e : j = id
   ·subst e; exact p ver sz len d
   ·refine .inl ⟨by rw [zvp e]; exact d,P j e,fun U arr t W => ⟨arr,?_,rfl⟩⟩
    obtain ⟨es,u,L⟩:=za2 d;have J : es ≠ []:=fun h => by subst h; exact U L.symm
    obtain ⟨S,_,arr',Y,V,_⟩:=R.ob j _ u J;have O : g.ρ j < w.heap.size:=(ya.1 V).1
    have c : ¬ m (g.ρ j):=fun c => by
     rcases (f _ c).1 with h | ⟨k,h⟩
     ·rw [S] at h; injection h with h; exact e h
     ·rw [S] at h; cases h
    rw [(i _ O c).1]; exact W
  map:=fun j es d => by
   by_cases e : j = id
   ·subst e
    obtain ⟨a,es',b⟩:=G es (by rw [l] at d; injection d);exact ⟨a,es',by rw [zD l,b]⟩
   ·exact ⟨P j e,es,by rw [yd (Ne.symm e)]; exact d⟩
  tok:=fun j k n d => by
   by_cases e : j = id
   ·subst e; exact B k n d
   ·exact ⟨n,by rw [zBM e]; exact d,yj _,fun _ => D j k e⟩
  tsz:=fun j sz d => by
   obtain ⟨fr,u⟩:=zfc d
   by_cases e : j = id
   ·subst e
    rw [l] at u;injection u with u;obtain ⟨fr',L⟩:=E sz fr u;exact zct (fr:=fr') (by rw [zD l,L])
   ·exact zct (fr:=fr) (by rw [yd (Ne.symm e)]; exact u)
  ow:=fun b q => by
   by_cases c : m b
   ·exact (f b c).2.1
   ·exact (i b q c).2.1
  new:=fun b o h q I => by
   by_cases c : m b
   ·rcases (f b c).1 with h | ⟨k,h⟩ <;> rw [I] at h <;> cases h
   ·exact (i b q c).2.2 o h
  frame:=fun b q I => by
   by_cases c : m b
   ·rcases (f b c).1 with h | ⟨k,h⟩ <;> rw [I] at h <;> cases h
   ·exact (i b q c).1 }
 refine ⟨H,⟨Q,fun j x d => ?_⟩⟩
 by_cases e : j = id
 ·subst e
  rw [zD l] at d;injection d with d;subst d;exact v H
 ·rw [yd (Ne.symm e)] at d
  refine zdq H (P j e) (fun k => D j k e) (fun b q K => i b q fun c => ?_) (R.ob j x d)
  rcases (f b c).1 with h | ⟨k,h⟩ <;> rcases K with h' | ⟨k',h'⟩ <;> rw [h] at h'
  ·injection h' with h'; exact e h'.symm
  ·cases h'
  ·cases h'
  ·injection h' with h'; exact e h'.symm
end
def zdr (arr : Array Value) (p : Nat) (us : List Value) : Array Value:=(arr.toList.take p ++ us ++ arr.toList.drop (p + us.length)).toArray
theorem zfV {arr : Array Value} {p : Nat} {us : List Value} (h : p + us.length ≤ arr.size) : (zdr arr p us).size = arr.size:=by
 unfold zdr;simp;omega
theorem zf8 {arr : Array Value} {p : Nat} {us : List Value} (h : p + us.length ≤ arr.size) (q : Nat) :
  (zdr arr p us)[q]? = if q < p then arr[q]? else if q < p + us.length then us[q - p]? else arr[q]?:=by
 unfold zdr;rw [List.getElem?_toArray,List.append_assoc,ye];have c : (arr.toList.take p).length = p:=by simp; omega
 rw [c]
 by_cases a : q < p
 ·rw [if_pos a,if_pos a,yl,if_pos a,yk]
 ·rw [if_neg a,if_neg a,ye]
  by_cases b : q < p + us.length
  ·rw [if_pos (by omega),if_pos b]
  ·rw [if_neg (by omega),if_neg b,ym,yk]
   congr 1
   omega
theorem zqn {e b cs : List C} {off : Nat} (h : zEC e off cs = some b) : off + cs.length ≤ e.length ∧ b.length = e.length ∧
  ∀ j,b[j]? = if j < off then e[j]? else if j < off + cs.length then cs[j - off]? else e[j]?:=by
 unfold zEC at h;split at h
 ·rename_i d
  injection h with h;subst h;refine ⟨d,by simp; omega,fun j => ?_⟩;rw [ye];have f : (e.take off).length = off:=by simp; omega
  rw [f]
  by_cases a : j < off
  ·rw [if_pos a,if_pos a,yl,if_pos a]
  ·rw [if_neg a,if_neg a,ye]
   by_cases c : j < off + cs.length
   ·rw [if_pos (by omega),if_pos c]
   ·rw [if_neg (by omega),if_neg c,ym]
    congr 1
    omega
 ·cases h
theorem zJ {g : G} {w : World} {σ : zd} : ∀ {cs : List C} {us : List Value},zw g w σ cs us → us.length = cs.length
 | [],us,h => by simp only [zw] at h; simp [h]
 | c :: cs,us,h => by
   simp only [zw] at h;obtain ⟨v,vs,rfl,_,a⟩:=h;simp [zJ a]
theorem zeM {g : G} {w : World} {σ : zd} : ∀ {cs : List C} {us : List Value},zw g w σ cs us → ∀ {j : Nat} {c : C},cs[j]? = some c → ∃ u,us[j]? = some u ∧ zz g w σ c u
 | [],_,_,j,c,h => by simp at h
 | x :: cs,us,hr,j,c,h => by
   simp only [zw] at hr;obtain ⟨v,vs,rfl,a,b⟩:=hr
   cases j with
   | zero => simp at h; subst h; exact ⟨v,by simp,a⟩
   | succ j => simpa using zeM b (j:=j) (c:=c) (by simpa using h)
theorem zlg {g : G} {w : World} {σ : zd} : ∀ {cs : List C} {us : List Value},us.length = cs.length → (∀ (j : Nat) (c : C) (u : Value),cs[j]? = some c → us[j]? = some u → zz g w σ c u) → zw g w σ cs us
 | [],us,hl,_ => by simp only [zw]; exact List.eq_nil_of_length_eq_zero (by simpa using hl)
 | c :: cs,[],hl,_ => by simp at hl
 | c :: cs,v :: vs,hl,h => by
   simp only [zw];exact ⟨v,vs,rfl,h 0 c v (by simp) (by simp),zlg (by simpa using hl) fun j c u a hu => h (j + 1) c u (by simpa using a) (by simpa using hu)⟩
theorem apart {i a sz j q : Nat} (h : i ≠ a) (b : j < sz) (c : q < sz) : i * sz + q ≠ a * sz + j:=by
 rcases Nat.lt_or_gt_of_ne h with h | h
 ·have : (i + 1) * sz ≤ a * sz:=yc _ h
  rw [yg] at this;omega
 ·have : (a + 1) * sz ≤ i * sz:=yc _ h
  rw [yg] at this;omega
theorem inside {i n sz q : Nat} (h : i < n) (a : q < sz) : i * sz + q < n * sz:=by
 have : (i + 1) * sz ≤ n * sz:=yc _ h;rw [yg] at this;omega
theorem zAq {i n sz q : Nat} (h : i < n) (a : q ≤ sz) : i * sz + q ≤ n * sz:=by
 have : (i + 1) * sz ≤ n * sz:=yc _ h;rw [yg] at this;omega
section
variable {g : G} {w : World} {σ : zd}
theorem zvR (R : Rel g w σ) {id y sz i off : Nat} {es : List (List C)} {e N cs : List C} {us : List Value} (m : σ[id]? = some (.cells y sz es)) (G : es[i]? = some e) (Y : zEC e off cs = some N)
  (B : zw g w σ cs us) (h1 : ∀ u ∈ us,u.oneCell' = true) :
  ∃ arr t,w.heap[g.ρ id]? = some (.cells arr t (0,0)) ∧ i * sz + off + us.length ≤ arr.size ∧
    Ext g w σ g (w.setRow (g.ρ id) (zdr arr (i * sz + off) us)) (σ.set id (.cells y sz (es.set i N))) ∧
    Rel g (w.setRow (g.ρ id) (zdr arr (i * sz + off) us)) (σ.set id (.cells y sz (es.set i N))):=by
 have M : es ≠ []:=fun h => by subst h; simp at G
 obtain ⟨D,S,arr,t,I,K,f⟩:=R.ob id _ m M;obtain ⟨aA,hle,E⟩:=zqn Y;have X:=zJ B;have O:=(f i e G).1;have r:=zb G
 have l : i * sz + off + us.length ≤ arr.size:=by
  have:=zAq (q:=off + us.length) r (by omega : off + us.length ≤ sz);omega
 refine ⟨arr,t,I,l,?_⟩;have Q : g.ρ id < w.heap.size:=(ya.1 I).1
 refine replace (g':=g) R m (fun b => b = g.ρ id) rfl rfl rfl (by simp) (fun b L Z => ⟨setRow_other w _ _ _ Z,rfl,fun _ h => h⟩)
  (fun b L => ⟨.inl (by rw [L]; exact D),rfl,fun o h => absurd (by rw [L] at h; exact h) (S o)⟩) (fun _ _ _ h => h) (fun _ _ => rfl) (fun _ _ _ => rfl) (fun b o h => by simpa using R.nb b o h) ?_ ?_ ?_ (fun _ _ h => by cases h) ?_
 ·intro W aB U J
  refine .inl ⟨?_,rfl,fun _ V t0 A => ?_⟩
  ·rw [zu m] at J
   injection J with J;rw [zu (zD m),← J];simp
  ·rw [I] at A
   injection A with A;injection A with A h0t;subst A;subst h0t;exact ⟨_,setRow_heap w _ _ _ _ _ I,zfV l⟩
 ·intro es' h; cases h
 ·intro k n h; simp [znR,m,Ob.fr] at h
 ·intro H P
  refine ⟨D,S,_,t,setRow_heap w _ _ _ _ _ I,by rw [zfV l]; simpa using K,fun s x v => ?_⟩;rw [yp] at v
  by_cases z : i = s
  ·subst z
   simp [r] at v;subst v;refine ⟨hle.trans O,fun j c p => ?_⟩;rw [E] at p;rw [zf8 l]
   by_cases c1 : j < off
   ·rw [if_pos c1] at p
    obtain ⟨u,a,b,d⟩:=(f i e G).2 j c p;exact ⟨u,by rw [if_pos (by omega)]; exact a,H.zz c u b,d⟩
   ·rw [if_neg c1] at p
    by_cases c2 : j < off + cs.length
    ·rw [if_pos c2] at p
     obtain ⟨u,a,b⟩:=zeM B p;refine ⟨u,?_,H.zz c u b,h1 u (List.mem_of_getElem? a)⟩;rw [if_neg (by omega),if_pos (by omega),show i * sz + j - (i * sz + off) = j - off from by omega];exact a
    ·rw [if_neg c2] at p
     obtain ⟨u,a,b,d⟩:=(f i e G).2 j c p;exact ⟨u,by rw [if_neg (by omega),if_neg (by omega)]; exact a,H.zz c u b,d⟩
  ·rw [if_neg z] at v
   refine ⟨(f s x v).1,fun j c p => ?_⟩;obtain ⟨u,a,b,d⟩:=(f s x v).2 j c p;have hj : j < sz:=(by have:=zb p; have:=(f s x v).1; omega);refine ⟨u,?_,H.zz c u b,d⟩;rw [zf8 l]
   by_cases c1 : s * sz + j < i * sz + off
   ·rw [if_pos c1]; exact a
   ·rw [if_neg c1]
    by_cases c2 : s * sz + j < i * sz + off + us.length
    ·exfalso
     have:=apart (q:=s * sz + j - i * sz) z hj (by omega);omega
    ·rw [if_neg c2]; exact a
def G.setTv (g : G) (t k : Nat) (u : Value) : G:={ g with tv:=fun t' k' => if t' = t ∧ k' = k then u else g.tv t' k' }
theorem G.setTv_same (g : G) (t k : Nat) (u : Value) : (g.setTv t k u).tv t k = u:=by simp [G.setTv]
theorem G.setTv_ne (g : G) {t k a b : Nat} (u : Value) (h : ¬ (a = t ∧ b = k)) : (g.setTv t k u).tv a b = g.tv a b:=by simp [G.setTv,h]
theorem zxh {N : zgU} {xs : List (List Fz)} {b o c sz : Nat} (a : zb9 sz xs) (d : xs.length ≤ c) (h : zgs w N sz xs b o) : rep w N (.sl xs) (.slice (some ⟨b,o,none⟩) xs.length c):=by
 simp only [rep];exact ⟨_,c,sz,rfl,d,a,.inr ⟨b,o,rfl,h⟩⟩
def Lay (w : World) (N : zgU) (sz : Nat) (xs : List (List Fz)) (us : List Value) : Prop :=
 us.length = xs.length * sz ∧ zb9 sz xs ∧ ∀ i e,xs[i]? = some e → ∀ j x,e[j]? = some x → ∃ u,us[i * sz + j]? = some u ∧ rep w N x u ∧ u.oneCell' = true
theorem Lay.mono {w w' : World} {N d : zgU} {sz : Nat} {xs : List (List Fz)} {us : List Value} (h : Lay w N sz xs us) (H : zhS w w' N d) : Lay w' d sz xs us :=
 ⟨h.1,h.2.1,fun i e g j x f => by
  obtain ⟨u,a,b,c⟩:=h.2.2 i e g j x f
  exact ⟨u,a,zdb H x u b,c⟩⟩
theorem Lay.append {N : zgU} {sz : Nat} {xs ys : List (List Fz)} {us vs : List Value} (h : Lay w N sz xs us) (k : Lay w N sz ys vs) : Lay w N sz (xs ++ ys) (us ++ vs):=by
 refine ⟨by rw [yn,yn,h.1,k.1,yg],zfK fun e he => ?_,fun i e d j x f => ?_⟩
 ·rcases List.mem_append.1 he with he | he
  ·exact zf7 h.2.1 e he
  ·exact zf7 k.2.1 e he
 ·rw [ye] at d
  by_cases c : i < xs.length
  ·rw [if_pos c] at d
   obtain ⟨u,a,b⟩:=h.2.2 i e d j x f;refine ⟨u,?_,b⟩;rw [yb (zb a)];exact a
  ·rw [if_neg c] at d
   obtain ⟨u,a,b⟩:=k.2.2 _ e d j x f;refine ⟨u,?_,b⟩
   have : i * sz + j = us.length + ((i - xs.length) * sz + j):=by
    rw [h.1,Nat.sub_mul];have : xs.length * sz ≤ i * sz:=yc _ (yq c);omega
   rw [this,List.getElem?_append_right (by omega),Nat.add_sub_cancel_left];exact a
theorem zoc {N : zgU} {xs : List (List Fz)} {u : Value} (h : rep w N (.sl xs) u) (y : ∀ x u,rep w N x u → u.oneCell' = true) : ∃ a c sz us,u = .slice a xs.length c ∧ xs.length ≤ c ∧ Lay w N sz xs us ∧ (xs = [] ∨ ∃ b o,a = some ⟨b,o,none⟩ ∧ ∀ j v,us[j]? = some v → w.cell? ⟨b,o + j,none⟩ = some v):=by
 simp only [rep] at h;obtain ⟨a,c,sz,e,t,m,p⟩:=h;rcases p with rfl | ⟨b,o,rfl,p⟩
 ·exact ⟨a,c,sz,[],e,t,⟨by simp,m,fun i e h => by simp at h⟩,.inl rfl⟩
 ·refine ⟨_,c,sz,(yv (xs.length * sz)).map fun j => (w.cell? ⟨b,o + j,none⟩).getD undef,e,t,⟨by simp,m,fun i e k j x f => ?_⟩,.inr ⟨b,o,rfl,fun j v g => ?_⟩⟩
  ·have d:=inside (zb k) (by have:=zb f; have:=zcb m k; omega : j < sz)
   obtain ⟨u,z,n,q⟩:=zhC (zf1 p k) f;refine ⟨u,?_,q,y x u q⟩;rw [yr,yi d];simp only [yt];rw [show o + (i * sz + j) = o + i * sz + j from by omega,n];rfl
  ·rw [yr] at g
   cases f : (yv (xs.length * sz))[j]? with
   | none => rw [f] at g; cases g
   | some j' =>
     have d:=zb f;simp at d;rw [yi d] at f;injection f with f;subst f;rw [yi d] at g;simp only [yt] at g
     have l : 0 < sz:=by
      rcases Nat.eq_zero_or_pos sz with s | s
      ·subst s; simp at d
      ·exact s
     have k : j / sz < xs.length:=(Nat.div_lt_iff_lt_mul l).2 d;have f : j % sz < sz:=Nat.mod_lt _ l;have A:=zcb m (yf k);obtain ⟨u,z,n,q⟩:=zhC (zf1 p (yf k)) (yf (by omega : j % sz < xs[j / sz].length))
     have r : o + j / sz * sz + j % sz = o + j:=by
      have:=Nat.div_add_mod j sz;rw [Nat.mul_comm] at this;omega
     rw [r] at n;rw [n] at g ⊢;exact g
theorem zmd {N c : zgU} {w' : World} {sz b o : Nat} {xs : List (List Fz)} {us : List Value} (h : Lay w N sz xs us) (H : zhS w w' N c) (d : ∀ j v,us[j]? = some v → c b (o + j) ∧ w'.cell? ⟨b,o + j,none⟩ = some v) : zgs w' c sz xs b o :=
 zgG fun i e g => ziW fun j x f => by
  obtain ⟨u,a,k,_⟩:=h.2.2 i e g j x f;obtain ⟨c1,c2⟩:=d _ u a;rw [show o + (i * sz + j) = o + i * sz + j from by omega] at c1 c2;exact ⟨u,c1,c2,zdb H x u k⟩
end
end Go.A
