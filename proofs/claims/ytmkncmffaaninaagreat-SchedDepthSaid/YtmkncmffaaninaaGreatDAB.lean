/- A part of the proof of SchedDepth. Conditions: none. -/
import Derived.Test.YtmkncmffaaninaaGreatDAA
import Derived.Below
import Derived.Laws.CopyRow
import Derived.Deep.Draws
set_option linter.unusedVariables false
set_option linter.unusedSimpArgs false
set_option linter.unusedSectionVars false
open Array renaming getElem?_eq_some_iff → ya,getElem?_toList → yk
open List renaming getElem?_append_left → yb,getElem?_set_ne → yd,getElem?_append → ye,getElem?_eq_getElem → yf,getElem?_range → yi,getElem?_take → yl,getElem?_drop → ym,length_append → yn,getElem?_set → yp,getElem?_map → yr,map_id → yu,range → yv
open Nat renaming mul_le_mul_right → yc,add_mul → yg,lt_of_lt_of_le → yh,le_refl → yj,le_trans → yo,le_of_not_lt → yq
open Option renaming map_some → yt
namespace Go.A
def zxA : Value → Bool
 | .bool _ | .int _ _ | .float _ _ | .complex _ _ _ | .string _ | .nilFunc | .nilIface => true
 | .pointer none | .map none => true
 | _ => false
abbrev zf1:=Nat → Nat → Prop
mutual
def rep (w : World) (N : zf1) : Fz → Value → Prop
 | .lit v,u => u = v ∧ zxA v = true
 | .sl xs,u => ∃ a c sz,u = .slice a xs.length c ∧ xs.length ≤ c ∧ zbO sz xs ∧ (xs = [] ∨ ∃ b o,a = some ⟨b,o,none⟩ ∧ zfp w N sz xs b o)
def zho (w : World) (N : zf1) : List Fz → Nat → Nat → Prop
 | [],_,_ => True
 | x :: xs,b,o => (∃ u,N b o ∧ w.cell? ⟨b,o,none⟩ = some u ∧ rep w N x u) ∧ zho w N xs b (o + 1)
def zfp (w : World) (N : zf1) : Nat → List (List Fz) → Nat → Nat → Prop
 | _,[],_,_ => True
 | sz,e :: es,b,o => zho w N e b o ∧ zfp w N sz es b (o + sz)
def zbO : Nat → List (List Fz) → Prop
 | _,[] => True
 | sz,e :: es => e.length = sz ∧ zbO sz es
end
def zgM (w w' : World) (N N' : zf1) : Prop:=∀ b o,N b o → N' b o ∧ w'.cell? ⟨b,o,none⟩ = w.cell? ⟨b,o,none⟩
theorem zgM.refl (w : World) (N : zf1) : zgM w w N N:=fun _ _ h => ⟨h,rfl⟩
theorem zgM.trans {w w1 w2 : World} {N N1 N2 : zf1} (h : zgM w w1 N N1) (h' : zgM w1 w2 N1 N2) : zgM w w2 N N2:=fun b o hb =>
 ⟨(h' b o (h b o hb).1).1,((h' b o (h b o hb).1).2).trans (h b o hb).2⟩
mutual
theorem zb5 {w w' : World} {N N' : zf1} (H : zgM w w' N N') : ∀ (x : Fz) (u : Value),rep w N x u → rep w' N' x u
 | .lit v,u,h => by simpa only [rep] using h
 | .sl xs,u,h => by
   simp only [rep] at h ⊢
   obtain ⟨a,c,sz,h1,h2,h3,h4⟩:=h
   refine ⟨a,c,sz,h1,h2,h3,?_⟩
   rcases h4 with h4 | ⟨b,o,h4,h5⟩
   ·exact .inl h4
   ·exact .inr ⟨b,o,h4,znD H sz xs b o h5⟩
theorem zfe {w w' : World} {N N' : zf1} (H : zgM w w' N N') : ∀ (xs : List Fz) (b o : Nat),zho w N xs b o → zho w' N' xs b o
 | [],_,_,_ => by simp only [zho]
 | x :: xs,b,o,h => by
   simp only [zho] at h ⊢
   obtain ⟨⟨u,h1,h2,h3⟩,h4⟩:=h
   exact ⟨⟨u,(H b o h1).1,(H b o h1).2.trans h2,zb5 H x u h3⟩,zfe H xs b (o + 1) h4⟩
theorem znD {w w' : World} {N N' : zf1} (H : zgM w w' N N') : ∀ (sz : Nat) (es : List (List Fz)) (b o : Nat),zfp w N sz es b o → zfp w' N' sz es b o
 | _,[],_,_,_ => by simp only [zfp]
 | sz,e :: es,b,o,h => by
   simp only [zfp] at h ⊢
   exact ⟨zfe H e b o h.1,znD H sz es b (o + sz) h.2⟩
end
section
variable {w : World} {N : zf1}
theorem zbQ {sz : Nat} : ∀ {es : List (List Fz)},zbO sz es → ∀ {i : Nat} {e : List Fz},es[i]? = some e → e.length = sz
 | [],_,i,e,h => by simp at h
 | x :: xs,hl,i,e,h => by
   simp only [zbO] at hl
   cases i with
   | zero => simp at h; subst h; exact hl.1
   | succ i => exact zbQ hl.2 (by simpa using h)
theorem zdm {sz : Nat} : ∀ {es : List (List Fz)},(∀ e ∈ es,e.length = sz) → zbO sz es
 | [],_ => by simp only [zbO]
 | x :: xs,h => by
   simp only [zbO]
   exact ⟨h x (by simp),zdm fun e he => h e (by simp [he])⟩
theorem zfm {sz : Nat} {es : List (List Fz)} (h : zbO sz es) : ∀ e ∈ es,e.length = sz:=fun e he => by
 obtain ⟨i,hi⟩:=List.mem_iff_getElem?.1 he
 exact zbQ h hi
theorem zfF : ∀ {cs : List Fz} {b o : Nat},zho w N cs b o → ∀ {j : Nat} {x : Fz},cs[j]? = some x → ∃ u,N b (o + j) ∧ w.cell? ⟨b,o + j,none⟩ = some u ∧ rep w N x u
 | [],_,_,_,j,x,h => by simp at h
 | y :: ys,b,o,hr,j,x,h => by
   simp only [zho] at hr
   cases j with
   | zero => simp at h; subst h; exact hr.1
   | succ j =>
     have:=zfF hr.2 (j:=j) (x:=x) (by simpa using h)
     rwa [show o + (j + 1) = o + 1 + j from by omega]
theorem zf6 : ∀ {cs : List Fz} {b o : Nat},(∀ j x,cs[j]? = some x → ∃ u,N b (o + j) ∧ w.cell? ⟨b,o + j,none⟩ = some u ∧ rep w N x u) → zho w N cs b o
 | [],_,_,_ => by simp only [zho]
 | y :: ys,b,o,h => by
   simp only [zho]
   refine ⟨by simpa using h 0 y (by simp),zf6 fun j x hj => ?_⟩
   have:=h (j + 1) x (by simpa using hj)
   rwa [show o + (j + 1) = o + 1 + j from by omega] at this
theorem zfb {sz : Nat} : ∀ {es : List (List Fz)} {b o : Nat},zfp w N sz es b o → ∀ {i : Nat} {e : List Fz},es[i]? = some e → zho w N e b (o + i * sz)
 | [],_,_,_,i,e,h => by simp at h
 | y :: ys,b,o,hr,i,e,h => by
   simp only [zfp] at hr
   cases i with
   | zero => simp at h; subst h; simpa using hr.1
   | succ i =>
     have:=zfb hr.2 (i:=i) (e:=e) (by simpa using h)
     rwa [show o + (i + 1) * sz = o + sz + i * sz from by rw [yg]; omega]
theorem zey {sz : Nat} : ∀ {es : List (List Fz)} {b o : Nat},(∀ i e,es[i]? = some e → zho w N e b (o + i * sz)) → zfp w N sz es b o
 | [],_,_,_ => by simp only [zfp]
 | y :: ys,b,o,h => by
   simp only [zfp]
   refine ⟨by simpa using h 0 y (by simp),zey fun i e hi => ?_⟩
   have:=h (i + 1) e (by simpa using hi)
   rwa [show o + (i + 1) * sz = o + sz + i * sz from by rw [yg]; omega] at this
end
inductive Ow where
 | no
 | ob (id : Nat)
 | tk (t k : Nat)
structure G where
 ρ : Nat → Nat
 tv : Nat → Nat → Value
 ow : Nat → Ow
 N : zf1
def Ob.shape : Ob → Option (Nat × Nat × Nat)
 | .cells ver sz es => some (ver,sz,es.length)
 | _ => none
def shapeOf (σ : zd) (id : Nat) : Option (Nat × Nat × Nat):=(σ[id]?).bind Ob.shape
def Ob.fr (k : Nat) : Ob → Option Nat
 | .tok _ fr => fr[k]?
 | _ => none
def zlw (σ : zd) (t k : Nat) : Option Nat:=(σ[t]?).bind (Ob.fr k)
def Ob.tsz : Ob → Option Nat
 | .tok sz _ => some sz
 | _ => none
def znT (σ : zd) (t : Nat) : Option Nat:=(σ[t]?).bind Ob.tsz
def zxO (w : World) (b sz len lo n : Nat) (u : Value) : Prop :=
 ∃ a c,u = .slice a n c ∧ n ≤ c ∧ (len = 0 → c = 0) ∧ (len ≠ 0 → lo + n ≤ len ∧ (c ≠ 0 → a = some ⟨b,lo * sz,none⟩) ∧ ∃ arr t,w.heap[b]? = some (.cells arr t (0,0)) ∧ (lo + c) * sz ≤ arr.size)
mutual
def zw (g : G) (w : World) (σ : zd) : C → Value → Prop
 | .f x,u => rep w g.N x u
 | .ap t k xs,u => rep w g.N (.sl xs) u ∧ ∃ n,zlw σ t k = some n ∧ xs.length ≤ n ∧ (xs.length = n → u = g.tv t k) ∧ ∃ sz,znT σ t = some sz ∧ zbO sz xs
 | .ptr id ver i off,u => ∃ ver0 sz len,shapeOf σ id = some (ver0,sz,len) ∧ ver ≤ ver0 ∧ (ver = ver0 → u = .pointer (some ⟨g.ρ id,i * sz + off,none⟩)) ∧ ∃ ad,u = .pointer (some ad)
 | .fp cs off,u => ∃ b o,u = .pointer (some ⟨b,o + off,none⟩) ∧ zho w g.N cs b o
 | .own id ver lo n,u => ∃ ver0 sz len,shapeOf σ id = some (ver0,sz,len) ∧ ver ≤ ver0 ∧ (ver = ver0 → zxO w (g.ρ id) sz len lo n u) ∧ ∃ ad c,u = .slice ad n c
 | .map id,u => (∃ es,σ[id]? = some (.mp es)) ∧ u = .map (some (g.ρ id))
 | .fn f first caps,u => ∃ fs cs,u = .func (.func f) fs cs ∧ zv g w σ first fs.toList ∧ zv g w σ caps cs.toList
 | .un,_ => True
def zv (g : G) (w : World) (σ : zd) : List C → List Value → Prop
 | [],us => us = []
 | c :: cs,us => ∃ v vs,us = v :: vs ∧ zw g w σ c v ∧ zv g w σ cs vs
end
mutual
def zf (g : G) (w : World) (σ : zd) : V → Value → Prop
 | .one c,u => zw g w σ c u
 | .agg cs,u => ∃ us,u = .agg us ∧ zv g w σ cs us.toList
 | .tup vs,u => ∃ us,u = .tuple us ∧ zz g w σ vs us.toList
def zz (g : G) (w : World) (σ : zd) : List V → List Value → Prop
 | [],us => us = []
 | v :: vs,us => ∃ x xs,us = x :: xs ∧ zf g w σ v x ∧ zz g w σ vs xs
end
structure Ext (g : G) (w : World) (σ : zd) (g' : G) (w' : World) (σ' : zd) : Prop where
 os : w'.os = w.os
 tape : w'.tape = w.tape
 output : w'.output = w.output
 size : w.heap.size ≤ w'.heap.size
 keeps : zgM w w' g.N g'.N
 len : σ.length ≤ σ'.length
 shape : ∀ id ver sz len,shapeOf σ id = some (ver,sz,len) →
  (shapeOf σ' id = some (ver,sz,len) ∧ g'.ρ id = g.ρ id ∧ (len ≠ 0 → ∀ arr t,w.heap[g.ρ id]? = some (.cells arr t (0,0)) → ∃ arr',w'.heap[g.ρ id]? = some (.cells arr' t (0,0)) ∧ arr'.size = arr.size)) ∨
  ∃ ver1 len1,shapeOf σ' id = some (ver1,sz,len1) ∧ ver < ver1
 map : ∀ id es,σ[id]? = some (.mp es) → g'.ρ id = g.ρ id ∧ ∃ es',σ'[id]? = some (.mp es')
 tok : ∀ t k n,zlw σ t k = some n → ∃ n',zlw σ' t k = some n' ∧ n ≤ n' ∧ (n = n' → g'.tv t k = g.tv t k)
 tsz : ∀ t sz,znT σ t = some sz → znT σ' t = some sz
 ow : ∀ b,b < w.heap.size → g'.ow b = g.ow b
 new : ∀ b o,g'.N b o → b < w.heap.size → g.ow b = .no → g.N b o
 frame : ∀ b,b < w.heap.size → g.ow b = .no → w'.heap[b]? = w.heap[b]?
theorem Ext.refl (g : G) (w : World) (σ : zd) : Ext g w σ g w σ where
 os:=rfl
 tape:=rfl
 output:=rfl
 size:=yj _
 keeps:=zgM.refl _ _
 len:=yj _
 shape:=fun id ver sz len h => .inl ⟨h,rfl,fun _ arr t ha => ⟨arr,ha,rfl⟩⟩
 map:=fun id es h => ⟨rfl,es,h⟩
 tok:=fun t k n h => ⟨n,h,yj _,fun _ => rfl⟩
 tsz:=fun _ _ h => h
 ow:=fun _ _ => rfl
 new:=fun _ _ h _ _ => h
 frame:=fun _ _ _ => rfl
theorem Ext.trans {g g1 g2 : G} {w w1 w2 : World} {σ σ1 σ2 : zd} (h : Ext g w σ g1 w1 σ1) (k : Ext g1 w1 σ1 g2 w2 σ2) : Ext g w σ g2 w2 σ2 where
 os:=k.os.trans h.os
 tape:=k.tape.trans h.tape
 output:=k.output.trans h.output
 size:=yo h.size k.size
 keeps:=h.keeps.trans k.keeps
 len:=yo h.len k.len
 shape:=fun id ver sz len hs => by
  rcases h.shape id ver sz len hs with ⟨a,b,c⟩ | ⟨v1,l1,a,b⟩
  ·rcases k.shape id ver sz len a with ⟨a',b',c'⟩ | ⟨v1,l1,a',b'⟩
   ·refine .inl ⟨a',b'.trans b,fun hl arr t ha => ?_⟩
    obtain ⟨arr1,h1,h2⟩:=c hl arr t ha
    obtain ⟨arr2,h3,h4⟩:=c' hl arr1 t (by rw [b]; exact h1)
    exact ⟨arr2,by rw [← b]; exact h3,h4.trans h2⟩
   ·exact .inr ⟨v1,l1,a',b'⟩
  ·rcases k.shape id v1 sz l1 a with ⟨a',_⟩ | ⟨v2,l2,a',b'⟩
   ·exact .inr ⟨v1,l1,a',b⟩
   ·exact .inr ⟨v2,l2,a',Nat.lt_trans b b'⟩
 map:=fun id es hm => by
  obtain ⟨a,es1,b⟩:=h.map id es hm
  obtain ⟨a',es2,b'⟩:=k.map id es1 b
  exact ⟨a'.trans a,es2,b'⟩
 tok:=fun t kk n hn => by
  obtain ⟨n1,a,b,c⟩:=h.tok t kk n hn
  obtain ⟨n2,a',b',c'⟩:=k.tok t kk n1 a
  exact ⟨n2,a',yo b b',fun e => by
   have e1 : n = n1:=by omega
   have e2 : n1 = n2:=by omega
   exact (c' e2).trans (c e1)⟩
 tsz:=fun t sz ht => k.tsz t sz (h.tsz t sz ht)
 ow:=fun b hb => (k.ow b (yh hb h.size)).trans (h.ow b hb)
 new:=fun b o hn hb ho => h.new b o (k.new b o hn (yh hb h.size) ((h.ow b hb).trans ho)) hb ho
 frame:=fun b hb ho => (k.frame b (yh hb h.size) ((h.ow b hb).trans ho)).trans (h.frame b hb ho)
mutual
theorem Ext.zw {g g' : G} {w w' : World} {σ σ' : zd} (H : Ext g w σ g' w' σ') : ∀ (c : C) (u : Value),zw g w σ c u → Go.A.zw g' w' σ' c u
 | .f x,u,h => by
   simp only [Go.A.zw] at h ⊢
   exact zb5 H.keeps x u h
 | .ap t k xs,u,h => by
   simp only [Go.A.zw] at h ⊢
   obtain ⟨h1,n,h2,h3,h4,sz,h5,h6⟩:=h
   obtain ⟨n',a,b,c⟩:=H.tok t k n h2
   refine ⟨zb5 H.keeps _ u h1,n',a,by omega,fun e => ?_,sz,H.tsz t sz h5,h6⟩
   have e1 : n = n':=by omega
   rw [c e1]
   exact h4 (by omega)
 | .ptr id ver i off,u,h => by
   simp only [Go.A.zw] at h ⊢
   obtain ⟨v0,sz,len,h1,h2,h3,h4⟩:=h
   rcases H.shape id v0 sz len h1 with ⟨a,b,_⟩ | ⟨v1,l1,a,b⟩
   ·exact ⟨v0,sz,len,a,h2,by rw [b]; exact h3,h4⟩
   ·exact ⟨v1,sz,l1,a,by omega,fun e => by omega,h4⟩
 | .fp cs off,u,h => by
   simp only [Go.A.zw] at h ⊢
   obtain ⟨b,o,h1,h2⟩:=h
   exact ⟨b,o,h1,zfe H.keeps cs b o h2⟩
 | .own id ver lo n,u,h => by
   simp only [Go.A.zw] at h ⊢
   obtain ⟨v0,sz,len,h1,h2,h3,h4⟩:=h
   rcases H.shape id v0 sz len h1 with ⟨a,b,c⟩ | ⟨v1,l1,a,b⟩
   ·refine ⟨v0,sz,len,a,h2,fun e => ?_,h4⟩
    obtain ⟨ad,cp,e1,e2,e3,e4⟩:=h3 e
    refine ⟨ad,cp,e1,e2,e3,fun hl => ?_⟩
    obtain ⟨f1,f2,arr,t,f3,f4⟩:=e4 hl
    obtain ⟨arr',g1,g2⟩:=c hl arr t f3
    exact ⟨f1,by rw [b]; exact f2,arr',t,by rw [b]; exact g1,by rw [g2]; exact f4⟩
   ·exact ⟨v1,sz,l1,a,by omega,fun e => by omega,h4⟩
 | .map id,u,h => by
   simp only [Go.A.zw] at h ⊢
   obtain ⟨⟨es,h1⟩,h2⟩:=h
   obtain ⟨a,es',b⟩:=H.map id es h1
   exact ⟨⟨es',b⟩,by rw [a]; exact h2⟩
 | .fn f a b,u,h => by
   simp only [Go.A.zw] at h ⊢
   obtain ⟨fs,cs,h1,h2,h3⟩:=h
   exact ⟨fs,cs,h1,Ext.zv H a _ h2,Ext.zv H b _ h3⟩
 | .un,_,_ => by simp only [Go.A.zw]
theorem Ext.zv {g g' : G} {w w' : World} {σ σ' : zd} (H : Ext g w σ g' w' σ') : ∀ (cs : List C) (us : List Value),zv g w σ cs us → Go.A.zv g' w' σ' cs us
 | [],us,h => by simpa only [Go.A.zv] using h
 | c :: cs,us,h => by
   simp only [Go.A.zv] at h ⊢
   obtain ⟨v,vs,h1,h2,h3⟩:=h
   exact ⟨v,vs,h1,Ext.zw H c v h2,Ext.zv H cs vs h3⟩
end
mutual
theorem Ext.zf {g g' : G} {w w' : World} {σ σ' : zd} (H : Ext g w σ g' w' σ') : ∀ (c : V) (u : Value),zf g w σ c u → Go.A.zf g' w' σ' c u
 | .one c,u,h => by
   simp only [Go.A.zf] at h ⊢
   exact H.zw c u h
 | .agg cs,u,h => by
   simp only [Go.A.zf] at h ⊢
   obtain ⟨us,h1,h2⟩:=h
   exact ⟨us,h1,H.zv cs _ h2⟩
 | .tup vs,u,h => by
   simp only [Go.A.zf] at h ⊢
   obtain ⟨us,h1,h2⟩:=h
   exact ⟨us,h1,Ext.zz H vs _ h2⟩
theorem Ext.zz {g g' : G} {w w' : World} {σ σ' : zd} (H : Ext g w σ g' w' σ') : ∀ (cs : List V) (us : List Value),zz g w σ cs us → Go.A.zz g' w' σ' cs us
 | [],us,h => by simpa only [Go.A.zz] using h
 | c :: cs,us,h => by
   simp only [Go.A.zz] at h ⊢
   obtain ⟨v,vs,h1,h2,h3⟩:=h
   exact ⟨v,vs,h1,Ext.zf H c v h2,Ext.zz H cs vs h3⟩
end
def zpX (g : G) (w : World) (σ : zd) : List (Int × V) → List MapEntry → Prop
 | [],es => es = []
 | x :: xs,es => ∃ e rest,es = e :: rest ∧ e.key = .int .i64 x.1 ∧ zf g w σ x.2 e.val ∧ zpX g w σ xs rest
def zk2 (g : G) (w : World) (σ : zd) (es : List (Int × V)) (zbl : List MapEntry) (clock : Nat) : Prop :=
 (∃ es',es'.Perm es ∧ (es'.map (·.1)).Nodup ∧ zpX g w σ es' zbl) ∧ (zbl.map (·.born)).Nodup ∧ ∀ e ∈ zbl,e.born < clock
def zco (g : G) (w : World) (σ : zd) (arr : Array Value) (sz : Nat) (es : List (List C)) : Prop :=
 ∀ i e,es[i]? = some e → e.length = sz ∧ ∀ j c,e[j]? = some c → ∃ u,arr[i * sz + j]? = some u ∧ zw g w σ c u ∧ u.oneCell' = true
def zAt (g : G) (w : World) (σ : zd) (id : Nat) : Ob → Prop
 | .cells _ sz es => es ≠ [] → g.ow (g.ρ id) = .ob id ∧ (∀ o,¬ g.N (g.ρ id) o) ∧ ∃ arr t,w.heap[g.ρ id]? = some (.cells arr t (0,0)) ∧ es.length * sz ≤ arr.size ∧ zco g w σ arr sz es
 | .mp es => g.ow (g.ρ id) = .ob id ∧ (∀ o,¬ g.N (g.ρ id) o) ∧ ∃ zbl clock,w.heap[g.ρ id]? = some (.map zbl clock) ∧ zk2 g w σ es zbl.toList clock
 | .tok sz fr => ∀ k n,fr[k]? = some n → (n = 0 ∧ ∃ a,g.tv id k = .slice a 0 0) ∨
  ∃ b o c arr t,g.tv id k = .slice (some ⟨b,o,none⟩) n c ∧ 0 < c ∧ n ≤ c ∧ g.ow b = .tk id k ∧ w.heap[b]? = some (.cells arr t (0,0)) ∧ o + c * sz ≤ arr.size ∧ ∀ o',g.N b o' → o' < o + n * sz
structure Rel (g : G) (w : World) (σ : zd) : Prop where
 nb : ∀ b o,g.N b o → b < w.heap.size
 ob : ∀ id o,σ[id]? = some o → zAt g w σ id o
theorem Ext.zco {g g' : G} {w w' : World} {σ σ' : zd} (H : Ext g w σ g' w' σ') {arr : Array Value} {sz : Nat} {es : List (List C)} (h : zco g w σ arr sz es) : Go.A.zco g' w' σ' arr sz es :=
 fun i e hi => ⟨(h i e hi).1,fun j c hj => by
  obtain ⟨u,a,b,c1⟩:=(h i e hi).2 j c hj
  exact ⟨u,a,H.zw c u b,c1⟩⟩
theorem Ext.zpX {g g' : G} {w w' : World} {σ σ' : zd} (H : Ext g w σ g' w' σ') : ∀ {es : List (Int × V)} {zbl : List MapEntry},zpX g w σ es zbl → Go.A.zpX g' w' σ' es zbl
 | [],_,h => h
 | x :: xs,_,h => by
   obtain ⟨e,rest,h1,h2,h3,h4⟩:=h
   exact ⟨e,rest,h1,h2,H.zf _ _ h3,Ext.zpX H h4⟩
theorem zxm {g : G} {w : World} {σ : zd} {es es1 : List (Int × V)} {zbl : List MapEntry} {clock : Nat} (h : es.Perm es1) (hm : zk2 g w σ es zbl clock) : zk2 g w σ es1 zbl clock:=by
 obtain ⟨⟨es',h1,h2,h3⟩,h4⟩:=hm
 exact ⟨⟨es',h1.trans h,h2,h3⟩,h4⟩
theorem zn4 {g g' : G} {w w' : World} {σ σ' : zd} {es : List (Int × V)} {zbl : List MapEntry} {clock : Nat} (h : zk2 g w σ es zbl clock) (f : Int × V → Int × V) (hf : ∀ e,(f e).1 = e.1) (k : ∀ es',es'.Perm es → Go.A.zpX g w σ es' zbl → Go.A.zpX g' w' σ' (es'.map f) zbl) : Go.A.zk2 g' w' σ' (es.map f) zbl clock:=by
 obtain ⟨⟨es',h1,h2,h3⟩,h4⟩:=h
 refine ⟨⟨es'.map f,h1.map f,?_,k es' h1 h3⟩,h4⟩
 have e : (es'.map f).map (·.1) = es'.map (·.1):=by
  rw [List.map_map]
  exact List.map_congr_left fun e _ => hf e
 rw [e]
 exact h2
theorem Ext.zk2 {g g' : G} {w w' : World} {σ σ' : zd} (H : Ext g w σ g' w' σ') {es : List (Int × V)} {zbl : List MapEntry} {clock : Nat} (h : zk2 g w σ es zbl clock) : Go.A.zk2 g' w' σ' es zbl clock:=by
 have:=zn4 (g':=g') (w':=w') (σ':=σ') h id (fun _ => rfl) (fun es' _ h => by rw [yu]; exact H.zpX h)
 rwa [yu] at this
end Go.A
namespace Go.A
def zxD {α : Type} (f : Nat → α) (k : Nat) (v : α) : Nat → α:=fun i => if i = k then v else f i
@[simp] theorem zha {α : Type} (f : Nat → α) (k : Nat) (v : α) : zxD f k v k = v:=by simp [zxD]
theorem zaF {α : Type} (f : Nat → α) {k i : Nat} (v : α) (h : i ≠ k) : zxD f k v i = f i:=by simp [zxD,h]
theorem zaR {σ : zd} {id ver sz len : Nat} (h : shapeOf σ id = some (ver,sz,len)) : ∃ es,σ[id]? = some (.cells ver sz es) ∧ es.length = len:=by
 unfold shapeOf at h
 cases ho : σ[id]? with
 | none => simp [ho] at h
 | some o =>
   cases o with
   | cells v s es => simp [ho,Ob.shape] at h; exact ⟨es,by simp [h],h.2.2⟩
   | tok s fr => simp [ho,Ob.shape] at h
   | mp es => simp [ho,Ob.shape] at h
theorem zn {σ : zd} {id ver sz : Nat} {es : List (List C)} (h : σ[id]? = some (.cells ver sz es)) : shapeOf σ id = some (ver,sz,es.length):=by simp [shapeOf,h,Ob.shape]
theorem zcX {σ : zd} {t k n : Nat} (h : zlw σ t k = some n) : ∃ sz fr,σ[t]? = some (.tok sz fr) ∧ fr[k]? = some n:=by
 unfold zlw at h
 cases ho : σ[t]? with
 | none => simp [ho] at h
 | some o =>
   cases o with
   | cells v s es => simp [ho,Ob.fr] at h
   | tok s fr => simp [ho,Ob.fr] at h; exact ⟨s,fr,rfl,h⟩
   | mp es => simp [ho,Ob.fr] at h
theorem zdD {σ : zd} {t k n sz : Nat} {fr : List Nat} (h : σ[t]? = some (.tok sz fr)) (hn : fr[k]? = some n) : zlw σ t k = some n:=by simp [zlw,h,Ob.fr,hn]
theorem zez {σ : zd} {t sz : Nat} (h : znT σ t = some sz) : ∃ fr,σ[t]? = some (.tok sz fr):=by
 unfold znT at h
 cases ho : σ[t]? with
 | none => simp [ho] at h
 | some o =>
   cases o with
   | cells v s es => simp [ho,Ob.tsz] at h
   | tok s fr => simp [ho,Ob.tsz] at h; exact ⟨fr,by rw [h]⟩
   | mp es => simp [ho,Ob.tsz] at h
theorem zce {σ : zd} {t sz : Nat} {fr : List Nat} (h : σ[t]? = some (.tok sz fr)) : znT σ t = some sz:=by simp [znT,h,Ob.tsz]
theorem zb {α : Type} {l : List α} {i : Nat} {x : α} (h : l[i]? = some x) : i < l.length:=(List.getElem?_eq_some_iff.1 h).1
section
variable {g g' : G} {w w' : World} {σ σ' : zd}
def ztk (g : G) (w : World) (g' : G) (w' : World) (b : Nat) : Prop:=w'.heap[b]? = w.heap[b]? ∧ g'.ow b = g.ow b ∧ ∀ o,g'.N b o → g.N b o
theorem zcV (H : Ext g w σ g' w' σ') {id : Nat} {o : Ob} (hr : g'.ρ id = g.ρ id) (ht : ∀ k,g'.tv id k = g.tv id k)
  (hb : ∀ b,b < w.heap.size → g.ow b = .ob id ∨ (∃ k,g.ow b = .tk id k) → ztk g w g' w' b) (h : zAt g w σ id o) : zAt g' w' σ' id o:=by
 cases o with
 | cells ver sz es =>
   intro hne
   obtain ⟨h1,h2,arr,t,h3,h4,h5⟩:=h hne
   have hlt : g.ρ id < w.heap.size:=(ya.1 h3).1
   obtain ⟨k1,k2,k3⟩:=hb _ hlt (.inl h1)
   rw [hr]
   exact ⟨k2.trans h1,fun o ho => h2 o (k3 o ho),arr,t,k1.trans h3,h4,H.zco h5⟩
 | mp es =>
   obtain ⟨h1,h2,zbl,clock,h3,h4⟩:=h
   have hlt : g.ρ id < w.heap.size:=(ya.1 h3).1
   obtain ⟨k1,k2,k3⟩:=hb _ hlt (.inl h1)
   unfold zAt
   rw [hr]
   exact ⟨k2.trans h1,fun o ho => h2 o (k3 o ho),zbl,clock,k1.trans h3,H.zk2 h4⟩
 | tok sz fr =>
   intro k n hn
   rw [ht]
   rcases h k n hn with h | ⟨b,o,c,arr,t,h1,h2,h3,h4,h5,h6,h7⟩
   ·exact .inl h
   ·have hlt : b < w.heap.size:=(ya.1 h5).1
    obtain ⟨k1,k2,k3⟩:=hb _ hlt (.inr ⟨k,h4⟩)
    exact .inr ⟨b,o,c,arr,t,h1,h2,h3,k2.trans h4,k1.trans h5,h6,fun o' ho' => h7 o' (k3 o' ho')⟩
theorem heap_alloc_old (w : World) (o : Obj) {b : Nat} (h : b < w.heap.size) : (w.alloc o).heap[b]? = w.heap[b]?:=by
 show (w.heap.push o)[b]? = _
 rw [Array.getElem?_push,if_neg (by omega)]
theorem zbb (w : World) (o : Obj) : (w.alloc o).heap[w.heap.size]? = some o:=by
 show (w.heap.push o)[w.heap.size]? = _
 simp
theorem zpV (w : World) (o : Obj) {b i : Nat} (h : b < w.heap.size) : (w.alloc o).cell? ⟨b,i,none⟩ = w.cell? ⟨b,i,none⟩:=by
 unfold World.cell?
 rw [heap_alloc_old w o h]
theorem size_alloc (w : World) (o : Obj) : (w.alloc o).heap.size = w.heap.size + 1:=World.size_alloc w o
theorem Ext.alloc (R : Rel g w σ) (o : Obj) (g' : G) (hρ : ∀ id,id < σ.length → g'.ρ id = g.ρ id) (ht : ∀ t k n,zlw σ t k = some n → g'.tv t k = g.tv t k) (hw : ∀ b,b < w.heap.size → g'.ow b = g.ow b)
  (hN : ∀ b o,b < w.heap.size → (g'.N b o ↔ g.N b o)) (os : List Ob) : Ext g w σ g' (w.alloc o) (σ ++ os) where
 os:=rfl
 tape:=rfl
 output:=rfl
 size:=by rw [size_alloc]; omega
 keeps:=fun b i h => ⟨(hN b i (R.nb b i h)).2 h,zpV w o (R.nb b i h)⟩
 len:=by simp
 shape:=fun id ver sz len h => by
  obtain ⟨es,h1,h2⟩:=zaR h
  have hlt:=zb h1
  refine .inl ⟨by unfold shapeOf; rw [yb hlt]; exact h,hρ id hlt,fun _ arr t ha => ⟨arr,?_,rfl⟩⟩
  rw [heap_alloc_old w o (ya.1 ha).1]
  exact ha
 map:=fun id es h => ⟨hρ id (zb h),es,by rw [yb (zb h)]; exact h⟩
 tok:=fun t k n h => by
  obtain ⟨sz,fr,h1,h2⟩:=zcX h
  exact ⟨n,zdD (by rw [yb (zb h1)]; exact h1) h2,yj _,fun _ => ht t k n h⟩
 tsz:=fun t sz h => by
  obtain ⟨fr,h1⟩:=zez h
  exact zce (fr:=fr) (by rw [yb (zb h1)]; exact h1)
 ow:=hw
 new:=fun b i h hb _ => (hN b i hb).1 h
 frame:=fun b hb _ => heap_alloc_old w o hb
def G.freeze (g : G) (b : Nat) : G:={ g with N:=fun b' o => g.N b' o ∨ b' = b }
theorem zsO (R : Rel g w σ) (o : Obj) : Ext g w σ (g.freeze w.heap.size) (w.alloc o) σ ∧ Rel (g.freeze w.heap.size) (w.alloc o) σ:=by
 have hN : ∀ b i,b < w.heap.size → ((g.freeze w.heap.size).N b i ↔ g.N b i):=fun b i hb =>
  ⟨fun h => h.elim id (fun e => by omega),.inl⟩
 have H : Ext g w σ (g.freeze w.heap.size) (w.alloc o) σ:=by
  have:=Ext.alloc R o (g.freeze w.heap.size) (fun _ _ => rfl) (fun _ _ _ _ => rfl) (fun _ _ => rfl) hN []
  simpa using this
 refine ⟨H,⟨fun b i h => ?_,fun id ob h => zcV H rfl (fun _ => rfl) (fun b hb _ => ⟨heap_alloc_old w o hb,rfl,fun i => (hN b i hb).1⟩) (R.ob id ob h)⟩⟩
 rw [size_alloc]
 rcases h with h | h
 ·have:=R.nb b i h; omega
 ·omega
def G.own (g : G) (id b : Nat) : G:={ g with ρ:=zxD g.ρ id b,ow:=zxD g.ow b (.ob id) }
theorem zsp (R : Rel g w σ) (ob : Ob) (o : Obj) (hob : ∀ {g' : G} {σ' : zd},Ext g w σ g' (w.alloc o) σ' → g'.ρ σ.length = w.heap.size → g'.ow w.heap.size = .ob σ.length → (∀ i,¬ g'.N w.heap.size i) → zAt g' (w.alloc o) σ' σ.length ob) :
  Ext g w σ (g.own σ.length w.heap.size) (w.alloc o) (σ ++ [ob]) ∧ Rel (g.own σ.length w.heap.size) (w.alloc o) (σ ++ [ob]):=by
 have H : Ext g w σ (g.own σ.length w.heap.size) (w.alloc o) (σ ++ [ob]) :=
  Ext.alloc R o (g.own σ.length w.heap.size) (fun id h => zaF g.ρ (k:=σ.length) (i:=id) _ (by omega)) (fun _ _ _ _ => rfl) (fun b h => zaF g.ow (k:=w.heap.size) (i:=b) _ (by omega)) (fun _ _ _ => Iff.rfl) [ob]
 refine ⟨H,⟨fun b i h => by rw [size_alloc]; have:=R.nb b i h; omega,fun id x h => ?_⟩⟩
 by_cases hlt : id < σ.length
 ·rw [yb hlt] at h
  exact zcV H (zaF g.ρ (k:=σ.length) (i:=id) _ (by omega)) (fun _ => rfl) (fun b hb _ => ⟨heap_alloc_old w o hb,zaF g.ow (k:=w.heap.size) (i:=b) _ (by omega),fun _ h => h⟩) (R.ob id x h)
 ·have hid : id = σ.length:=by
   have:=zb h
   simp at this
   omega
  subst hid
  simp at h
  subst h
  exact hob H (by simp [G.own]) (by simp [G.own]) (fun i hn => by have:=R.nb _ i hn; omega)
theorem zxS {id j : Nat} {new : Ob} (σ : zd) : (σ.set id new)[j]? = if id = j ∧ id < σ.length then some new else σ[j]?:=by
 rw [yp]
 by_cases h : id = j
 ·subst h
  by_cases h2 : id < σ.length
  ·simp [h2]
  ·simp [h2,List.getElem?_eq_none (yq h2)]
 ·simp [h]
theorem ztN {id j : Nat} {new : Ob} (h : j ≠ id) : shapeOf (σ.set id new) j = shapeOf σ j:=by
 unfold shapeOf
 rw [yd (Ne.symm h)]
theorem zyN {id j k : Nat} {new : Ob} (h : j ≠ id) : zlw (σ.set id new) j k = zlw σ j k:=by
 unfold zlw
 rw [yd (Ne.symm h)]
theorem zx {id : Nat} {old new : Ob} (h : σ[id]? = some old) : (σ.set id new)[id]? = some new:=by
 rw [zxS]
 simp [zb h]
theorem replace {id : Nat} {old new : Ob} (R : Rel g w σ) (hid : σ[id]? = some old) (Tc : Nat → Prop)
  (hos : w'.os = w.os) (htape : w'.tape = w.tape) (hout : w'.output = w.output) (hsize : w.heap.size ≤ w'.heap.size)
  (hst : ∀ b,b < w.heap.size → ¬ Tc b → ztk g w g' w' b)
  (htc : ∀ b,Tc b → (g.ow b = .ob id ∨ ∃ k,g.ow b = .tk id k) ∧ g'.ow b = g.ow b ∧ ∀ o,g.N b o → g'.N b o ∧ w'.cell? ⟨b,o,none⟩ = w.cell? ⟨b,o,none⟩)
  (hN : ∀ b o,¬ Tc b → g.N b o → g'.N b o)
  (hρ : ∀ j,j ≠ id → g'.ρ j = g.ρ j) (htv : ∀ j k,j ≠ id → g'.tv j k = g.tv j k)
  (hnb : ∀ b o,g'.N b o → b < w'.heap.size)
  (hshape : ∀ ver sz len,shapeOf σ id = some (ver,sz,len) →
   (shapeOf (σ.set id new) id = some (ver,sz,len) ∧ g'.ρ id = g.ρ id ∧ (len ≠ 0 → ∀ arr t,w.heap[g.ρ id]? = some (.cells arr t (0,0)) → ∃ arr',w'.heap[g.ρ id]? = some (.cells arr' t (0,0)) ∧ arr'.size = arr.size)) ∨
   ∃ ver1 len1,shapeOf (σ.set id new) id = some (ver1,sz,len1) ∧ ver < ver1)
  (hmap : ∀ es,old = .mp es → g'.ρ id = g.ρ id ∧ ∃ es',new = .mp es')
  (htok : ∀ k n,zlw σ id k = some n → ∃ n',zlw (σ.set id new) id k = some n' ∧ n ≤ n' ∧ (n = n' → g'.tv id k = g.tv id k))
  (htsz : ∀ sz fr,old = .tok sz fr → ∃ fr',new = .tok sz fr')
  (horel : Ext g w σ g' w' (σ.set id new) → zAt g' w' (σ.set id new) id new) :
  Ext g w σ g' w' (σ.set id new) ∧ Rel g' w' (σ.set id new):=by
 have hcell : ∀ b o,b < w.heap.size → ¬ Tc b → w'.cell? ⟨b,o,none⟩ = w.cell? ⟨b,o,none⟩:=fun b o hb ht => by
  unfold World.cell?
  rw [(hst b hb ht).1]
 have hkeep : zgM w w' g.N g'.N:=fun b o h => by
  by_cases ht : Tc b
  ·exact (htc b ht).2.2 o h
  ·exact ⟨hN b o ht h,hcell b o (R.nb b o h) ht⟩
 have H : Ext g w σ g' w' (σ.set id new):={
  os:=hos
  tape:=htape
  output:=hout
  size:=hsize
  keeps:=hkeep
  len:=by simp
  shape:=fun j ver sz len hj => by
   by_cases e : j = id
   ·subst e; exact hshape ver sz len hj
   ·refine .inl ⟨by rw [ztN e]; exact hj,hρ j e,fun hl arr t ha => ⟨arr,?_,rfl⟩⟩
    obtain ⟨es,h1,h2⟩:=zaR hj
    have hne : es ≠ []:=fun h => by subst h; exact hl h2.symm
    obtain ⟨k1,_,arr',t',k3,_⟩:=R.ob j _ h1 hne
    have hlt : g.ρ j < w.heap.size:=(ya.1 k3).1
    have ht : ¬ Tc (g.ρ j):=fun ht => by
     rcases (htc _ ht).1 with h | ⟨k,h⟩
     ·rw [k1] at h; injection h with h; exact e h
     ·rw [k1] at h; cases h
    rw [(hst _ hlt ht).1]; exact ha
  map:=fun j es hj => by
   by_cases e : j = id
   ·subst e
    obtain ⟨a,es',b⟩:=hmap es (by rw [hid] at hj; injection hj)
    exact ⟨a,es',by rw [zx hid,b]⟩
   ·exact ⟨hρ j e,es,by rw [yd (Ne.symm e)]; exact hj⟩
  tok:=fun j k n hj => by
   by_cases e : j = id
   ·subst e; exact htok k n hj
   ·exact ⟨n,by rw [zyN e]; exact hj,yj _,fun _ => htv j k e⟩
  tsz:=fun j sz hj => by
   obtain ⟨fr,h1⟩:=zez hj
   by_cases e : j = id
   ·subst e
    rw [hid] at h1
    injection h1 with h1
    obtain ⟨fr',h2⟩:=htsz sz fr h1
    exact zce (fr:=fr') (by rw [zx hid,h2])
   ·exact zce (fr:=fr) (by rw [yd (Ne.symm e)]; exact h1)
  ow:=fun b hb => by
   by_cases ht : Tc b
   ·exact (htc b ht).2.1
   ·exact (hst b hb ht).2.1
  new:=fun b o h hb ho => by
   by_cases ht : Tc b
   ·rcases (htc b ht).1 with h | ⟨k,h⟩ <;> rw [ho] at h <;> cases h
   ·exact (hst b hb ht).2.2 o h
  frame:=fun b hb ho => by
   by_cases ht : Tc b
   ·rcases (htc b ht).1 with h | ⟨k,h⟩ <;> rw [ho] at h <;> cases h
   ·exact (hst b hb ht).1 }
 refine ⟨H,⟨hnb,fun j x hj => ?_⟩⟩
 by_cases e : j = id
 ·subst e
  rw [zx hid] at hj
  injection hj with hj
  subst hj
  exact horel H
 ·rw [yd (Ne.symm e)] at hj
  refine zcV H (hρ j e) (fun k => htv j k e) (fun b hb hob => hst b hb fun ht => ?_) (R.ob j x hj)
  rcases (htc b ht).1 with h | ⟨k,h⟩ <;> rcases hob with h' | ⟨k',h'⟩ <;> rw [h] at h'
  ·injection h' with h'; exact e h'.symm
  ·cases h'
  ·cases h'
  ·injection h' with h'; exact e h'.symm
end
end Go.A
namespace Go.A
def zcS (arr : Array Value) (p : Nat) (us : List Value) : Array Value:=(arr.toList.take p ++ us ++ arr.toList.drop (p + us.length)).toArray
theorem ze8 {arr : Array Value} {p : Nat} {us : List Value} (h : p + us.length ≤ arr.size) : (zcS arr p us).size = arr.size:=by
 unfold zcS
 simp
 omega
theorem zfh {arr : Array Value} {p : Nat} {us : List Value} (h : p + us.length ≤ arr.size) (q : Nat) :
  (zcS arr p us)[q]? = if q < p then arr[q]? else if q < p + us.length then us[q - p]? else arr[q]?:=by
 unfold zcS
 rw [List.getElem?_toArray,List.append_assoc,ye]
 have hp : (arr.toList.take p).length = p:=by simp; omega
 rw [hp]
 by_cases h1 : q < p
 ·rw [if_pos h1,if_pos h1,yl,if_pos h1,yk]
 ·rw [if_neg h1,if_neg h1,ye]
  by_cases h2 : q < p + us.length
  ·rw [if_pos (by omega),if_pos h2]
  ·rw [if_neg (by omega),if_neg h2,ym,yk]
   congr 1
   omega
theorem zpc {e e' cs : List C} {off : Nat} (h : zDM e off cs = some e') : off + cs.length ≤ e.length ∧ e'.length = e.length ∧
  ∀ j,e'[j]? = if j < off then e[j]? else if j < off + cs.length then cs[j - off]? else e[j]?:=by
 unfold zDM at h
 split at h
 ·rename_i hl
  injection h with h
  subst h
  refine ⟨hl,by simp; omega,fun j => ?_⟩
  rw [ye]
  have hp : (e.take off).length = off:=by simp; omega
  rw [hp]
  by_cases h1 : j < off
  ·rw [if_pos h1,if_pos h1,yl,if_pos h1]
  ·rw [if_neg h1,if_neg h1,ye]
   by_cases h2 : j < off + cs.length
   ·rw [if_pos (by omega),if_pos h2]
   ·rw [if_neg (by omega),if_neg h2,ym]
    congr 1
    omega
 ·cases h
theorem zC {g : G} {w : World} {σ : zd} : ∀ {cs : List C} {us : List Value},zv g w σ cs us → us.length = cs.length
 | [],us,h => by simp only [zv] at h; simp [h]
 | c :: cs,us,h => by
   simp only [zv] at h
   obtain ⟨v,vs,rfl,_,h3⟩:=h
   simp [zC h3]
theorem zdj {g : G} {w : World} {σ : zd} : ∀ {cs : List C} {us : List Value},zv g w σ cs us → ∀ {j : Nat} {c : C},cs[j]? = some c → ∃ u,us[j]? = some u ∧ zw g w σ c u
 | [],_,_,j,c,h => by simp at h
 | x :: cs,us,hr,j,c,h => by
   simp only [zv] at hr
   obtain ⟨v,vs,rfl,h2,h3⟩:=hr
   cases j with
   | zero => simp at h; subst h; exact ⟨v,by simp,h2⟩
   | succ j => simpa using zdj h3 (j:=j) (c:=c) (by simpa using h)
theorem zj0 {g : G} {w : World} {σ : zd} : ∀ {cs : List C} {us : List Value},us.length = cs.length → (∀ (j : Nat) (c : C) (u : Value),cs[j]? = some c → us[j]? = some u → zw g w σ c u) → zv g w σ cs us
 | [],us,hl,_ => by simp only [zv]; exact List.eq_nil_of_length_eq_zero (by simpa using hl)
 | c :: cs,[],hl,_ => by simp at hl
 | c :: cs,v :: vs,hl,h => by
   simp only [zv]
   exact ⟨v,vs,rfl,h 0 c v (by simp) (by simp),zj0 (by simpa using hl) fun j c u hc hu => h (j + 1) c u (by simpa using hc) (by simpa using hu)⟩
theorem apart {i i' sz j q : Nat} (h : i ≠ i') (hj : j < sz) (hq : q < sz) : i * sz + q ≠ i' * sz + j:=by
 rcases Nat.lt_or_gt_of_ne h with h | h
 ·have : (i + 1) * sz ≤ i' * sz:=yc _ h
  rw [yg] at this
  omega
 ·have : (i' + 1) * sz ≤ i * sz:=yc _ h
  rw [yg] at this
  omega
theorem inside {i n sz q : Nat} (h : i < n) (hq : q < sz) : i * sz + q < n * sz:=by
 have : (i + 1) * sz ≤ n * sz:=yc _ h
 rw [yg] at this
 omega
theorem zzT {i n sz q : Nat} (h : i < n) (hq : q ≤ sz) : i * sz + q ≤ n * sz:=by
 have : (i + 1) * sz ≤ n * sz:=yc _ h
 rw [yg] at this
 omega
section
variable {g : G} {w : World} {σ : zd}
theorem zuk (R : Rel g w σ) {id ver sz i off : Nat} {es : List (List C)} {e e' cs : List C} {us : List Value} (hid : σ[id]? = some (.cells ver sz es)) (hi : es[i]? = some e) (ho : zDM e off cs = some e')
  (hus : zv g w σ cs us) (h1 : ∀ u ∈ us,u.oneCell' = true) :
  ∃ arr t,w.heap[g.ρ id]? = some (.cells arr t (0,0)) ∧ i * sz + off + us.length ≤ arr.size ∧
    Ext g w σ g (w.setRow (g.ρ id) (zcS arr (i * sz + off) us)) (σ.set id (.cells ver sz (es.set i e'))) ∧
    Rel g (w.setRow (g.ρ id) (zcS arr (i * sz + off) us)) (σ.set id (.cells ver sz (es.set i e'))):=by
 have hne : es ≠ []:=fun h => by subst h; simp at hi
 obtain ⟨how,hN,arr,t,hh,hsz,hrow⟩:=R.ob id _ hid hne
 obtain ⟨hov,hle,hget⟩:=zpc ho
 have hul:=zC hus
 have hel:=(hrow i e hi).1
 have hilt:=zb hi
 have hfit : i * sz + off + us.length ≤ arr.size:=by
  have:=zzT (q:=off + us.length) hilt (by omega : off + us.length ≤ sz)
  omega
 refine ⟨arr,t,hh,hfit,?_⟩
 have hglt : g.ρ id < w.heap.size:=(ya.1 hh).1
 refine replace (g':=g) R hid (fun b => b = g.ρ id) rfl rfl rfl (by simp) (fun b hb ht => ⟨setRow_other w _ _ _ ht,rfl,fun _ h => h⟩)
  (fun b hb => ⟨.inl (by rw [hb]; exact how),rfl,fun o h => absurd (by rw [hb] at h; exact h) (hN o)⟩) (fun _ _ _ h => h) (fun _ _ => rfl) (fun _ _ _ => rfl) (fun b o h => by simpa using R.nb b o h) ?_ ?_ ?_ (fun _ _ h => by cases h) ?_
 ·intro ver' sz' len' hs
  refine .inl ⟨?_,rfl,fun _ arr0 t0 h0 => ?_⟩
  ·rw [zn hid] at hs
   injection hs with hs
   rw [zn (zx hid),← hs]
   simp
  ·rw [hh] at h0
   injection h0 with h0
   injection h0 with h0 h0t
   subst h0
   subst h0t
   exact ⟨_,setRow_heap w _ _ _ _ _ hh,ze8 hfit⟩
 ·intro es' h; cases h
 ·intro k n h; simp [zlw,hid,Ob.fr] at h
 ·intro H hne'
  refine ⟨how,hN,_,t,setRow_heap w _ _ _ _ _ hh,by rw [ze8 hfit]; simpa using hsz,fun i' x hx => ?_⟩
  rw [yp] at hx
  by_cases hii : i = i'
  ·subst hii
   simp [hilt] at hx
   subst hx
   refine ⟨hle.trans hel,fun j c hc => ?_⟩
   rw [hget] at hc
   rw [zfh hfit]
   by_cases c1 : j < off
   ·rw [if_pos c1] at hc
    obtain ⟨u,a,b,d⟩:=(hrow i e hi).2 j c hc
    exact ⟨u,by rw [if_pos (by omega)]; exact a,H.zw c u b,d⟩
   ·rw [if_neg c1] at hc
    by_cases c2 : j < off + cs.length
    ·rw [if_pos c2] at hc
     obtain ⟨u,a,b⟩:=zdj hus hc
     refine ⟨u,?_,H.zw c u b,h1 u (List.mem_of_getElem? a)⟩
     rw [if_neg (by omega),if_pos (by omega),show i * sz + j - (i * sz + off) = j - off from by omega]
     exact a
    ·rw [if_neg c2] at hc
     obtain ⟨u,a,b,d⟩:=(hrow i e hi).2 j c hc
     exact ⟨u,by rw [if_neg (by omega),if_neg (by omega)]; exact a,H.zw c u b,d⟩
  ·rw [if_neg hii] at hx
   refine ⟨(hrow i' x hx).1,fun j c hc => ?_⟩
   obtain ⟨u,a,b,d⟩:=(hrow i' x hx).2 j c hc
   have hj : j < sz:=by have:=zb hc; have:=(hrow i' x hx).1; omega
   refine ⟨u,?_,H.zw c u b,d⟩
   rw [zfh hfit]
   by_cases c1 : i' * sz + j < i * sz + off
   ·rw [if_pos c1]; exact a
   ·rw [if_neg c1]
    by_cases c2 : i' * sz + j < i * sz + off + us.length
    ·exfalso
     have:=apart (q:=i' * sz + j - i * sz) hii hj (by omega)
     omega
    ·rw [if_neg c2]; exact a
def G.setTv (g : G) (t k : Nat) (u : Value) : G:={ g with tv:=fun t' k' => if t' = t ∧ k' = k then u else g.tv t' k' }
theorem G.setTv_same (g : G) (t k : Nat) (u : Value) : (g.setTv t k u).tv t k = u:=by simp [G.setTv]
theorem G.setTv_ne (g : G) {t k t' k' : Nat} (u : Value) (h : ¬ (t' = t ∧ k' = k)) : (g.setTv t k u).tv t' k' = g.tv t' k':=by simp [G.setTv,h]
theorem zvI {N : zf1} {xs : List (List Fz)} {b o c sz : Nat} (hl : zbO sz xs) (hc : xs.length ≤ c) (h : zfp w N sz xs b o) : rep w N (.sl xs) (.slice (some ⟨b,o,none⟩) xs.length c):=by
 simp only [rep]
 exact ⟨_,c,sz,rfl,hc,hl,.inr ⟨b,o,rfl,h⟩⟩
def Lay (w : World) (N : zf1) (sz : Nat) (xs : List (List Fz)) (us : List Value) : Prop :=
 us.length = xs.length * sz ∧ zbO sz xs ∧ ∀ i e,xs[i]? = some e → ∀ j x,e[j]? = some x → ∃ u,us[i * sz + j]? = some u ∧ rep w N x u ∧ u.oneCell' = true
theorem Lay.mono {w w' : World} {N N' : zf1} {sz : Nat} {xs : List (List Fz)} {us : List Value} (h : Lay w N sz xs us) (H : zgM w w' N N') : Lay w' N' sz xs us :=
 ⟨h.1,h.2.1,fun i e hi j x hj => by
  obtain ⟨u,a,b,c⟩:=h.2.2 i e hi j x hj
  exact ⟨u,a,zb5 H x u b,c⟩⟩
theorem Lay.append {N : zf1} {sz : Nat} {xs ys : List (List Fz)} {us vs : List Value} (h : Lay w N sz xs us) (k : Lay w N sz ys vs) : Lay w N sz (xs ++ ys) (us ++ vs):=by
 refine ⟨by rw [yn,yn,h.1,k.1,yg],zdm fun e he => ?_,fun i e hi j x hj => ?_⟩
 ·rcases List.mem_append.1 he with he | he
  ·exact zfm h.2.1 e he
  ·exact zfm k.2.1 e he
 ·rw [ye] at hi
  by_cases c : i < xs.length
  ·rw [if_pos c] at hi
   obtain ⟨u,a,b⟩:=h.2.2 i e hi j x hj
   refine ⟨u,?_,b⟩
   rw [yb (zb a)]
   exact a
  ·rw [if_neg c] at hi
   obtain ⟨u,a,b⟩:=k.2.2 _ e hi j x hj
   refine ⟨u,?_,b⟩
   have : i * sz + j = us.length + ((i - xs.length) * sz + j):=by
    rw [h.1,Nat.sub_mul]
    have : xs.length * sz ≤ i * sz:=yc _ (yq c)
    omega
   rw [this,List.getElem?_append_right (by omega),Nat.add_sub_cancel_left]
   exact a
theorem zmI {N : zf1} {xs : List (List Fz)} {u : Value} (h : rep w N (.sl xs) u) (h1 : ∀ x u,rep w N x u → u.oneCell' = true) : ∃ a c sz us,u = .slice a xs.length c ∧ xs.length ≤ c ∧ Lay w N sz xs us ∧ (xs = [] ∨ ∃ b o,a = some ⟨b,o,none⟩ ∧ ∀ j v,us[j]? = some v → w.cell? ⟨b,o + j,none⟩ = some v):=by
 simp only [rep] at h
 obtain ⟨a,c,sz,e,hc,hl,hr⟩:=h
 rcases hr with rfl | ⟨b,o,rfl,hr⟩
 ·exact ⟨a,c,sz,[],e,hc,⟨by simp,hl,fun i e h => by simp at h⟩,.inl rfl⟩
 ·refine ⟨_,c,sz,(yv (xs.length * sz)).map fun j => (w.cell? ⟨b,o + j,none⟩).getD undef,e,hc,⟨by simp,hl,fun i e hi j x hj => ?_⟩,.inr ⟨b,o,rfl,fun j v hv => ?_⟩⟩
  ·have hlt:=inside (zb hi) (by have:=zb hj; have:=zbQ hl hi; omega : j < sz)
   obtain ⟨u,k1,k2,k3⟩:=zfF (zfb hr hi) hj
   refine ⟨u,?_,k3,h1 x u k3⟩
   rw [yr,yi hlt]
   simp only [yt]
   rw [show o + (i * sz + j) = o + i * sz + j from by omega,k2]
   rfl
  ·rw [yr] at hv
   cases hj : (yv (xs.length * sz))[j]? with
   | none => rw [hj] at hv; cases hv
   | some j' =>
     have hlt:=zb hj
     simp at hlt
     rw [yi hlt] at hj
     injection hj with hj
     subst hj
     rw [yi hlt] at hv
     simp only [yt] at hv
     have hsz : 0 < sz:=by
      rcases Nat.eq_zero_or_pos sz with h0 | h0
      ·subst h0; simp at hlt
      ·exact h0
     have hi : j / sz < xs.length:=(Nat.div_lt_iff_lt_mul hsz).2 hlt
     have hj : j % sz < sz:=Nat.mod_lt _ hsz
     have hel:=zbQ hl (yf hi)
     obtain ⟨u,k1,k2,k3⟩:=zfF (zfb hr (yf hi)) (yf (by omega : j % sz < xs[j / sz].length))
     have hjj : o + j / sz * sz + j % sz = o + j:=by
      have:=Nat.div_add_mod j sz
      rw [Nat.mul_comm] at this
      omega
     rw [hjj] at k2
     rw [k2] at hv ⊢
     exact hv
theorem zle {N N' : zf1} {w' : World} {sz b o : Nat} {xs : List (List Fz)} {us : List Value} (h : Lay w N sz xs us) (H : zgM w w' N N') (hc : ∀ j v,us[j]? = some v → N' b (o + j) ∧ w'.cell? ⟨b,o + j,none⟩ = some v) : zfp w' N' sz xs b o :=
 zey fun i e hi => zf6 fun j x hj => by
  obtain ⟨u,a,k,_⟩:=h.2.2 i e hi j x hj
  obtain ⟨c1,c2⟩:=hc _ u a
  rw [show o + (i * sz + j) = o + i * sz + j from by omega] at c1 c2
  exact ⟨u,c1,c2,zb5 H x u k⟩
end
end Go.A
