/- A part of the proof of AffineFinds. Conditions: none. -/
import Derived.Test.YtmkncmffaaninaaGreatXBM
import Derived.Shelf.SlIterI.Sorted
import Derived.RangeFuncBox
import Derived.RangeFuncLeaves
import Derived.WalkKit
import Derived.OwnWalkIn
import Derived.TacticsInMore
import Derived.LoopNIn
import Derived.LoopIn
import Derived.Test.YtmkncmffaaninaaGreatXAQ
import Derived.Test.YtmkncmffaaninaaGreatXAK
import GoSem.ClaimChange
import Derived.DataReads
import Derived.ProofKit
import Derived.Test.YtmkncmffaaninaaGreatRows
set_option linter.all false
open List renaming getElem?_append_left → ya,eq_nil_of_length_eq_zero → yb,append_toArray → yf,size_toArray → yg,push_toArray → yh,length_cons → yj,cons_append → yk,length_nil → yn,nil_append → yo,getElem?_append → yr,getElem?_map → yt
open Array renaming getElem?_eq_some_iff → yc,replicate_succ → yd,replicate_zero → ye
open Option renaming bind_eq_some_iff → yi
open Nat renaming lt_of_lt_of_le → yl,le_refl → ym,reduceAdd → yp,reduceSub → yq
namespace Go.Proofs
open Go.RowKit Go.Maps Go.Sort Go.Shelf
attribute [local go_sem] Oper.semAt_some
structure LiesAt (w : World) (B o : Nat) (ad : Option Addr) (c : Nat) (zs : List Int) : Prop where
 box : B < w.heap.size ∧ w.cell? ⟨B,o,none⟩ = some (.slice ad zs.length c)
 row : zs ≠ [] → ∃ blk off,ad = some ⟨blk,off,none⟩ ∧ blk < w.heap.size ∧ ∀ (j : Nat) x,zs[j]? = some x → w.cell? ⟨blk,off + j,none⟩ = some (.int .i64 x)
theorem LiesAt.later {w W : World} {B o : Nat} {ad : Option Addr} {c : Nat} {f : List Int} (h : LiesAt w B o ad c f) (d : Below w.heap.size w W) : LiesAt W B o ad c f:=by
 have e : ∀ b i,b < w.heap.size → W.cell? ⟨b,i,none⟩ = w.cell? ⟨b,i,none⟩:=fun b i h => by unfold World.cell?; rw [d.block b h]
 refine ⟨⟨yl h.box.1 d.size,by rw [e _ _ h.box.1]; exact h.box.2⟩,fun k => ?_⟩;obtain ⟨a,off,n,g,l⟩:=h.row k;exact ⟨a,off,n,yl g d.size,fun j x m => by rw [e _ _ g]; exact l j x m⟩
set_option maxRecDepth 100000 in
set_option maxHeartbeats 2000000 in
theorem Tryz.values1 (F : Fence) (n : Nat) (u : F.fn 177) (m : F.round = none) (H : 1 ≤ n) (l B o : Nat) (ad : Option Addr) (c : Nat) (a : List Int) (A : a.length ≤ 4294967296) (w0 : World) (q : LiesAt w0 B o ad c a) (J : List Int → World → Prop) (g : ∀ s W',J s W' → Below w0.heap.size w0 W')
  (z : ∀ pre x W1,J pre W1 → pre.length < a.length → YieldAt F (n - 1) Tryz.prog l #[encZ x] W1 fun e W' => e = .returned (.bool true) ∧ J (pre ++ [x]) W' ∧ KeepsWalks W1 W')
  (W : World) (t : J [] W) :
  CallsIn F n Tryz.prog 177 #[.func (.yield l) #[] #[],.pointer (some ⟨B,o,none⟩)] W fun e W' => (∃ v,e = .returned v) ∧ J a W':=by
 have p : W.cell? ⟨B,o,none⟩ = some (.slice ad a.length c):=(q.later (g _ _ t)).box.2;refine callsIn_of_wp Tryz.func177 rfl u ?_ m;simp only [Tryz.ntmps177,yg,yj,yn,yp,yq,yd,ye,yh,yf,yo,yk]
 gi_wp2
 gi_loopw [7] (fun i wr => ∃ k : Nat,k ≤ a.length ∧ i = .int .i64 k ∧ J (a.take k) wr) (fun i _ => match i with | .int _ k => a.length - k.toNat | _ => 0)
 case atStart => exact ⟨0,Nat.zero_le _,rfl,t⟩
 case round =>
  obtain ⟨k,G,rfl,d⟩:=hrel
  by_cases f : k < a.length
  ·obtain ⟨w,off,rfl,r,b⟩:=(q.later (g _ _ d)).row (fun e => by subst e; simp at f)
   have h:=b k a[k] (by simp [f]);obtain ⟨fn,tmps,assign,body,D,y⟩:=z (a.take k) a[k] _ d (by simp; omega);clear b q p
   gi_wp2
   refine y.mono ?_;rintro e E ⟨rfl,j,C⟩
   gi_wp2
   go_roundw
   case rel => exact ⟨k + 1,by omega,by go_num,by rw [List.take_succ_eq_append_getElem f]; exact j⟩
   case measure =>
    show a.length - ((k : Int) + 1).toNat < a.length - (k : Int).toNat
    omega
  ·have : k = a.length:=by omega
   subst this
   gi_wp2
   go_end0
   exact ⟨⟨_,rfl⟩,by simpa using d⟩
def zEr (F : Fence) (n : Nat) (P : Program) (g : Nat) (lb : Array Value) (zs : List Int) (w : World) : Prop :=
 ∀ (l : Nat) (J : List Int → World → Prop) (W : World),(∀ s W',J s W' → Below w.heap.size w W') →
   (∀ pre x W1,J pre W1 → pre.length < zs.length → YieldAt F (n - 1) P l #[encZ x] W1 fun e W' => e = .returned (.bool true) ∧ J (pre ++ [x]) W' ∧ KeepsWalks W1 W') →
   J [] W →
   CallsIn F n P g (#[.func (.yield l) #[] #[]] ++ lb) W fun e W' => (∃ v,e = .returned v) ∧ J zs W'
theorem Tryz.values_gives (F : Fence) (n : Nat) (f : F.fn 177) (b : F.round = none) (h : 1 ≤ n) (B o : Nat) (ad : Option Addr) (c : Nat) (a : List Int) (d : a.length ≤ 4294967296) (w0 : World) (i : LiesAt w0 B o ad c a) :
 zEr F n Tryz.prog 177 #[.pointer (some ⟨B,o,none⟩)] a w0:=fun l J W e g j => Tryz.values1 F n f b h l B o ad c a d w0 i J e g W j
variable {P : Program} {ρ : Ren}
set_option maxRecDepth 100000 in
set_option maxHeartbeats 4000000 in
theorem zuT (L : SlLaysZI.n11 P ρ) (F : Fence) (n : Nat) (S : F.fn (ρ.f 11)) (D : F.round = none) (hn : 2 ≤ n) (g : Nat) (o : Array Value) (Q : F.fn g) (eg : ∀ args w,(callFunc g args).run P w = .ok (.enter g args) w)
  (p : List Int) (hN : p.length ≤ maxLen) (O : p.length * 8 ≤ 140737488355328) (w : World) (G : zEr F (n - 1) P g o p w) :
  CallsIn F n P (ρ.f 11) #[.slice none 0 0,.func (.func g) #[] o] w fun e w' => ∃ v : Value,e = .returned v ∧ w'.ownsRow w.heap.size (ρ.t 26) 1 v p.length (p.map encZ) ∧ (v = .slice none 0 0 ↔ p = []) ∧ Below w.heap.size w w':=by
 have h1 : 1 ≤ n:=by omega
 have mixed:=L.mixed; have t0:=L.t0; have a0:=L.a0; have z0:=L.z0; have v0:=L.v0; have t24:=L.t24; have a24:=L.a24; have z24:=L.z24; have v24:=L.v24; have t26:=L.t26; have a26:=L.a26; have z26:=L.z26; have v26:=L.v26; have t28:=L.t28; have a28:=L.a28; have z28:=L.z28; have v28:=L.v28;have A : ρ.t 24 ≠ ρ.t 26:=fun e => by have h:=L.t24; rw [e,L.t26] at h; cases h
 have u0:=run_underlying L.t0; have aD:=run_underlying L.t24; have aA:=run_underlying L.t26; have V:=run_underlying L.t28;obtain ⟨_,_,Y⟩:=L.f11;refine callsIn_of_wp_marks Y rfl S ?_ D;simp only [SlBodyZ.n11_ntmps ρ,yg,yj,yn,yp,yq,yd,ye,yh,yf,yo,yk]
 gi_wp2
 refine wpIn_rangeFunc ?_;intro fn R;rw [D];obtain ⟨W0,j⟩ : ∃ W0,w.alloc (.cells #[.slice none 0 0] (ρ.t 24)) = W0:=⟨_,rfl⟩;have H : W0.heap.size = w.heap.size + 1:=by rw [← j]; simp
 have I : W0.heap[w.heap.size]? = some (.cells #[.slice none 0 0] (ρ.t 24) (0,0)):=by rw [← j]; exact World.alloc_heap_new w _
 have q : Below w.heap.size w W0:=by rw [← j]; exact (Below.refl _ w).alloc (ym _) _
 rw [j]
 let rec0:=AnyZI.apRec ρ fn (.func (.func g) #[] o) w.heap.size W0.heap.size .ready none
 obtain ⟨i,a⟩ : ∃ i,(W0.alloc (.deferred (some []))).alloc (.loop rec0) = i:=⟨_,rfl⟩
 have hold : ∀ k,k < W0.heap.size → i.heap[k]? = W0.heap[k]?:=fun k Z => by
  rw [← a]; exact (Below.heap_alloc _ _ k (by simp; omega)).trans (Below.heap_alloc _ _ k Z)
 have M : Below w.heap.size w i:=by rw [← a]; exact (q.alloc q.size _).alloc (by have:=q.size; simp; omega) _
 have aB : i.heap.size = W0.heap.size + 2:=by rw [← a]; simp
 have X : AnyZI.ApAt ρ w fn (.func (.func g) #[] o) w.heap.size (W0.heap.size + 1) W0.heap.size [] i :=
  ⟨⟨_,(hold w.heap.size (by omega)).trans I,⟨rfl,.inl ⟨rfl,rfl⟩⟩,by simp⟩,
   by rw [← a]; have:=World.alloc_heap_new (W0.alloc (.deferred (some []))) (.loop rec0); rwa [World.size_alloc] at this,
   by rw [← a]; exact (Below.heap_alloc _ _ _ (by simp)).trans (World.alloc_heap_new W0 _),M⟩
 refine ⟨W0.heap.size + 1,[{ target:=.collected W0.heap.size,args:=#[] }],i,{ target:=.fn (.func g) o,args:=#[.func (.yield (W0.heap.size + 1)) #[] #[]] },i,g,
  #[.func (.yield (W0.heap.size + 1)) #[] #[]] ++ o,i,?_,?_,?_,?_,fun _ => h1,?_⟩
 ·rw [← a]; exact run_enterLoop_outer _ _ _ _ _
 ·simp [resolve,go_sem]
 ·intro f' u; simp [Target.leads] at u; subst u; exact Q
 ·simp [invoke,go_sem,eg]
 ·refine (G (W0.heap.size + 1) (AnyZI.ApAt ρ w fn (.func (.func g) #[] o) w.heap.size (W0.heap.size + 1) W0.heap.size) i (fun s W' h => h.below)
   (fun pre x W U hl => AnyZI.apYield { L with } F (n - 1 - 1) w fn R _ w.heap.size (W0.heap.size + 1) W0.heap.size (by omega) (by omega) (by omega) (ym _) (by omega) p.length hN O pre x W U hl) X).mono ?_
  rintro e J ⟨⟨v0,rfl⟩,r⟩;obtain ⟨v,hv,m,B⟩:=r.box;have z:=run_endLoop (P:=P) r.L (by simp [AnyZI.apRec]);obtain ⟨l,b⟩ : ∃ l,J.putObj (W0.heap.size + 1) (.loop { rec0 with state:=.exhausted }) = l:=⟨_,rfl⟩;have d:=z;rw [show J.putObj (W0.heap.size + 1) (.loop { rec0 with state:=.exhausted }) = l from b] at d;have C : J.grownBy l (some (W0.heap.size + 1)):=by rw [← b]; exact grownBy_putObj_a _ _ _
  have N : l.heap[w.heap.size]? = some (.cells #[v] (ρ.t 24) (0,0)):=by rw [← b]; exact (World.putObj_heap_other (by omega)).trans hv
  have y : l.heap[W0.heap.size]? = some (.deferred (some [])):=by rw [← b]; exact (World.putObj_heap_other (by omega)).trans r.K
  have c:=m.kept C (ownsRow_ne_a m r.L (fun cur e => by first | cases e | exact A (Obj.cells.inj e).2.1));have E : Below w.heap.size w l:=r.below.grown C r.below.size (fun k e => by cases e; omega);obtain ⟨aE,aC⟩:=cell_of_box_a N;clear b;refine ⟨none,l,d,?_⟩
  gi_wp2
  rw [← H];refine ⟨by simp,.inl ⟨_,_,rfl,run_takeDeferred y,?_⟩⟩;exact ⟨_,results_tmp rfl _ _ _,v,rfl,c.kept (grownBy_putObj_a _ _ _) (ownsRow_ne_a c y (fun cur e => by first | cases e | exact A (Obj.cells.inj e).2.1)),B,E.grown (grownBy_putObj_a _ _ _) E.size (fun k e => by cases e; omega)⟩
set_option maxHeartbeats 1000000 in
theorem zsF (L : SlLaysZI.n8 P ρ) (F : Fence) (n : Nat) (p : F.fn (ρ.f 8)) (l : F.fn (ρ.f 11)) (d : F.round = none) (z : 3 ≤ n) (g : Nat) (k : Array Value) (j : F.fn g) (eg : ∀ args w,(callFunc g args).run P w = .ok (.enter g args) w)
  (a : List Int) (m : a.length ≤ maxLen) (i : a.length * 8 ≤ 140737488355328) (w : World) (b : zEr F (n - 1 - 1) P g k a w) :
  CallsIn F n P (ρ.f 8) #[.func (.func g) #[] k] w fun e w' => ∃ v : Value,e = .returned v ∧ w'.ownsRow w.heap.size (ρ.t 26) 1 v a.length (a.map encZ) ∧ (v = .slice none 0 0 ↔ a = []) ∧ Below w.heap.size w w':=by
 have A : 1 ≤ n:=by omega
 have x : ∀ args w,(callFunc (ρ.f 11) args).run P w = .ok (.enter (ρ.f 11) args) w:=L.f11.enters rfl;have mixed:=L.mixed; have t0:=L.t0; have a0:=L.a0; have z0:=L.z0; have v0:=L.v0; have t24:=L.t24; have a24:=L.a24; have z24:=L.z24; have v24:=L.v24; have t26:=L.t26; have a26:=L.a26; have z26:=L.z26; have v26:=L.v26; have t28:=L.t28; have a28:=L.a28; have z28:=L.z28; have v28:=L.v28;have y:=run_underlying L.t0; have r:=run_underlying L.t24; have s:=run_underlying L.t26; have u:=run_underlying L.t28;obtain ⟨_,_,o⟩:=L.f8;refine callsIn_of_wp o rfl p ?_ d;simp only [SlBodyZ.n8_ntmps ρ,yg,yj,yn,yp,yq,yd,ye,yh,yf,yo,yk]
 gi_wp2_with (gi_at_fn (ρ.f 11); refine (zuT { L with } F (n - 1) l d (by omega) g k j eg a m i _ b).mono ?_; rintro e w' ⟨v,rfl,c,h,q⟩)
 go_ret
 exact ⟨v,rfl,c,h,q⟩
set_option maxRecDepth 100000 in
set_option maxHeartbeats 2000000 in
theorem zuJ (L : SlLaysZI.n6 P ρ) (F : Fence) (n : Nat) (E : F.fn (ρ.f 6)) (I : F.fn (ρ.f 8)) (R : F.fn (ρ.f 9)) (s : F.fn (ρ.f 11)) (k : F.round = none) (V : 4 ≤ n) (c : AnyZI.SortsIn P ρ F (n - 1)) (e9 : ∀ args w,(callFunc (ρ.f 9) args).run P w = .ok (.enter (ρ.f 9) args) w) (g : Nat) (r : Array Value) (q : F.fn g) (eg : ∀ args w,(callFunc g args).run P w = .ok (.enter g args) w)
  (b : List Int) (G : b.length ≤ maxLen) (p : b.length * 8 ≤ 140737488355328) (w : World) (i : zEr F (n - 1 - 1 - 1) P g r b w) :
  CallsIn F n P (ρ.f 6) #[.func (.func g) #[] r] w fun e w' => ∃ v : Value,e = .returned v ∧ w'.ownsRow w.heap.size (ρ.t 26) 1 v b.length ((b.mergeSort (fun x y => decide (x ≤ y))).map encZ) ∧ (v = .slice none 0 0 ↔ b = []) ∧ Below w.heap.size w w':=by
 have X : 1 ≤ n:=by omega
 have e8 : ∀ args w,(callFunc (ρ.f 8) args).run P w = .ok (.enter (ρ.f 8) args) w:=L.f8.enters rfl;have mixed:=L.mixed; have t0:=L.t0; have a0:=L.a0; have z0:=L.z0; have v0:=L.v0; have t24:=L.t24; have a24:=L.a24; have z24:=L.z24; have v24:=L.v24; have t26:=L.t26; have a26:=L.a26; have z26:=L.z26; have v26:=L.v26; have t28:=L.t28; have a28:=L.a28; have z28:=L.z28; have v28:=L.v28;have U:=run_underlying L.t0; have K:=run_underlying L.t24; have M:=run_underlying L.t26; have Q:=run_underlying L.t28;obtain ⟨_,_,H⟩:=L.f6;refine callsIn_of_wp H rfl E ?_ k;simp only [SlBodyZ.n6_ntmps ρ,yg,yj,yn,yp,yq,yd,ye,yh,yf,yo,yk]
 gi_wp2_with (gi_at_fn (ρ.f 8); refine (zsF { L with } F (n - 1) I s k (by omega) g r q eg b G p _ i).mono ?_; rintro e W ⟨v,rfl,d,l,A⟩)
 rcases d.2 with ⟨rfl,B⟩ | ⟨z,cap,cur,rfl,a,h,r1,C,O,N⟩
 ·have m : b = []:=yb B
  subst m
  gi_wp2_with (gi_at_fn (ρ.f 9); refine (c.2 none 0 W).mono ?_; rintro e w' ⟨rfl,rfl⟩)
  go_ret
  exact ⟨.slice none 0 0,rfl,by simpa using d,by simp,A⟩
 ·have D : Holds encZ W z 0 b.toArray:=holds_of_block_i h (by simpa using N)
  have o : z < W.heap.size:=(yc.1 h).1;have u : b.length < 4611686018427387904:=by omega
  have cS:=c.1 z 0 cap b W D o u
  gi_wp2_with (gi_at_fn (ρ.f 9); refine cS.mono ?_; rintro e w' ⟨rfl,S,os,rfl⟩)
  go_ret
  exact ⟨_,rfl,ownsRow_sorted_i (by simp) a h r1 C O,l,A.grown (grownBy_sorted_i _) A.size (fun j J => by cases J; exact a)⟩
theorem Tryz.sorts (m : Nat) : AnyZI.SortsIn Tryz.prog Tryz.sorted_ren Fence.wide m :=
 ⟨fun b off cap d W e a c => callsIn_wide.2 (AnyM.slices_Sort_int Tryz.sort b off cap d W e a c),
  fun p cap W => callsIn_wide.2 (AnyM.slices_Sort_int_none Tryz.sort p cap W)⟩
end Go.Proofs
namespace Go.A
open Go.RowKit (Below)
section
variable {g : G} {w w' : World} {σ : zd}
theorem zFL (R : Rel g w σ) (f : Below w.heap.size w w') {a : Nat} {cur : Array Value} {t : TypeId} (u : w'.heap[a]? = some (.cells cur t (0,0))) (s : w.heap.size ≤ a) {l : List Int} (B : l.length ≤ cur.size) (A : ∀ (j : Nat) x,l[j]? = some x → cur[j]? = some (.int .i64 x)) :
  Ext g w σ (g.own σ.length a) w' (σ ++ [.cells 0 1 (l.map zG)]) ∧ Rel (g.own σ.length a) w' (σ ++ [.cells 0 1 (l.map zG)]):=by
 have v : ∀ id,id < σ.length → (g.own σ.length a).ρ id = g.ρ id:=fun id h => zas g.ρ (k:=σ.length) (i:=id) _ (by omega);have hw : ∀ b,b < w.heap.size → (g.own σ.length a).ow b = g.ow b:=fun b h => zas g.ow (k:=a) (i:=b) _ (by omega)
 have H : Ext g w σ (g.own σ.length a) w' (σ ++ [.cells 0 1 (l.map zG)]):={
  os:=f.os
  tape:=f.tape
  output:=f.output
  size:=f.size
  keeps:=fun b i h => ⟨h,by unfold World.cell?; rw [f.block b (R.nb b i h)]⟩
  len:=by simp
  shape:=fun id C sz len h => by
   obtain ⟨es,p,z⟩:=za9 h;have d:=zb p;refine .inl ⟨by unfold shapeOf; rw [ya d]; exact h,v id d,fun _ arr t y => ⟨arr,?_,rfl⟩⟩;rw [f.block _ (yc.1 y).1];exact y
  map:=fun id es h => ⟨v id (zb h),es,by rw [ya (zb h)]; exact h⟩
  tok:=fun t k n h => by
   obtain ⟨sz,fr,p,z⟩:=zdR h;exact ⟨n,zew (by rw [ya (zb p)]; exact p) z,ym _,fun _ => rfl⟩
  tsz:=fun t sz h => by
   obtain ⟨fr,p⟩:=zfS h;exact zde (fr:=fr) (by rw [ya (zb p)]; exact p)
  ow:=hw
  new:=fun b i h _ _ => h
  frame:=fun b q _ => f.block b q }
 refine ⟨H,⟨fun b i h => yl (R.nb b i h) f.size,fun id x h => ?_⟩⟩
 by_cases d : id < σ.length
 ·rw [ya d] at h
  exact zcl H (v id d) (fun _ => rfl) (fun b q _ => ⟨f.block b q,hw b q,fun _ h => h⟩) (R.ob id x h)
 ·have r : id = σ.length:=by
   have:=zb h;simp at this;omega
  subst r;simp at h;subst h;intro _;have e1 : (g.own σ.length a).ρ σ.length = a:=by simp [G.own]
  have e2 : (g.own σ.length a).ow a = .ob σ.length:=by simp [G.own]
  rw [e1];refine ⟨e2,fun o h => by have:=R.nb _ _ h; omega,cur,t,u,by simpa using B,fun i e he => ?_⟩;rw [yt,Option.map_eq_some_iff] at he;obtain ⟨x,D,rfl⟩:=he;refine ⟨rfl,fun j c m => ?_⟩
  cases j with
  | succ j => simp [zG] at m
  | zero =>
    simp [zG] at m;subst m;exact ⟨.int .i64 x,by simpa using A i x D,by simp [zF,rep,zBx],rfl⟩
end
theorem zo2 : ∀ {xs : List (List Fz)} {l : List Int},zhC xs = some l → xs = l.map zzr
 | [],l,h => by simp [zhC] at h; subst h; rfl
 | x :: xs,l,h => by
   simp only [zhC] at h;unfold zg6 at h;split at h
   ·rename_i a0 bs a b
    injection h with h;subst h;rw [zo2 b];unfold zxb at a;split at a
    ·injection a with a; subst a; rfl
    ·cases a
   ·cases h
end Go.A
namespace Go.Proofs
open Go.RowKit Go.Maps Go.Sort Go.Shelf
open Go.A in
theorem Tryz.ext_sorted (args : List V) (σ : zd) (v : V) (σ' : zd) (h : zkk 177 args σ = some (v,σ')) :
  Go.A.Enters Tryz.prog 145 ∧ ∀ g w us,Rel g w σ → zO g w σ args us → Calls Tryz.prog 145 us.toArray w fun e w' => ∃ u g',e = .returned u ∧ zh g' w' σ' v u ∧ Rel g' w' σ' ∧ Ext g w σ g' w' σ':=by
 refine ⟨⟨Tryz.f145,_,Tryz.func145,by kernel_rfl,rfl⟩,fun g w us U hv => ?_⟩;unfold zkk at h;split at h
 ·rename_i f q aO i o
  split at h
  ·rename_i hf
   obtain ⟨rfl,rfl⟩:=hf;unfold zsC at h;split at h
   ·rename_i xs n
    rw [yi] at h;obtain ⟨l,hl,h⟩:=h;have hx:=zo2 hl;subst hx;unfold ztQ at h;split at h
    ·rename_i z
     injection h with h;simp only [Prod.mk.injEq] at h;obtain ⟨rfl,rfl⟩:=h;simp only [zO,zh,zF,zA] at hv;obtain ⟨u,rest,rfl,⟨fs,cs,rfl,aJ,p,ps,aA,hp,rfl⟩,rfl⟩:=hv;unfold zd.cell zd.elem at n;rw [yi] at n;obtain ⟨el,d,Z⟩:=n;rw [yi] at d;obtain ⟨ob,Q,d⟩:=d
     cases ob with
     | tok _ _ => simp [Ob.elem] at d
     | mp _ => simp [Ob.elem] at d
     | cells ver' sz es =>
       simp only [Ob.elem] at d;split at d
       ·rename_i P
        subst P;have aC : es ≠ []:=fun e => by subst e; simp at d
        obtain ⟨_,_,arr,t,s,_,K⟩:=U.ob q _ Q aC;obtain ⟨hlen,C⟩:=K i el d;obtain ⟨u,aE,O,_⟩:=C 0 _ Z;simp only [zF,rep] at O;obtain ⟨ad,c,X,rfl,_,I,k⟩:=O;obtain ⟨v0,aN,aL,a,_,aF,_⟩:=hp;have aB:=zC Q;rw [aB] at a;injection a with a;simp only [Prod.mk.injEq] at a;obtain ⟨rfl,rfl,rfl⟩:=a;have aG:=aF rfl;subst aG;have R : fs = #[]:=(by cases fs; simpa using aJ);have J : cs = #[.pointer (some ⟨g.ρ q,i * sz + 0,none⟩)]:=(by cases cs; simpa using aA);subst R J;have aH : g.ρ q < w.heap.size:=(yc.1 s).1
        have hw : w.cell? ⟨g.ρ q,i * sz + 0,none⟩ = some (.slice ad l.length c):=by
         unfold World.cell?;rw [s];simpa using aE
        have hL : LiesAt w (g.ρ q) (i * sz + 0) ad c l:=⟨⟨aH,hw⟩,fun E => by
         rcases k with k | ⟨b,o,rfl,k⟩
         ·exact absurd (List.map_eq_nil_iff.1 k) E
         ·have aD : X = 1:=by
           cases l with
           | nil => exact absurd rfl E
           | cons x r => simp only [List.map_cons,zcs] at I; rw [← I.1]; rfl
          subst aD
          have B : ∀ (j : Nat) x,l[j]? = some x → g.N b (o + j) ∧ w.cell? ⟨b,o + j,none⟩ = some (.int .i64 x):=fun j x C => by
           have W:=zfC k (i:=j) (e:=zzr x) (by simp [C]);obtain ⟨u,n1,n2,n3⟩:=zhw W (j:=0) (x:=.lit (.int .i64 x)) (by simp [zzr]);simp only [rep] at n3;rw [Nat.mul_one,Nat.add_zero] at n1 n2;exact ⟨n1,by rw [n2,n3.1]⟩
          obtain ⟨x,r,rfl⟩ : ∃ x r,l = x :: r:=by
           cases l with
           | nil => exact absurd rfl E
           | cons x r => exact ⟨x,r,rfl⟩
          exact ⟨b,o,rfl,U.nb b _ (B 0 x (by simp)).1,fun j x C => (B j x C).2⟩⟩
        unfold LIM at z;have cS:=zuJ Tryz.sorted Fence.wide 5 trivial trivial trivial trivial rfl (by omega) (Tryz.sorts _) (enters_of Tryz.func117 (by kernel_rfl) rfl) 177 #[.pointer (some ⟨g.ρ q,i * sz + 0,none⟩)] trivial (enters_of Tryz.func177 (by kernel_rfl) rfl) l (by unfold maxLen; omega) (by omega) w (Tryz.values_gives Fence.wide 2 trivial rfl (by omega) _ _ ad c l z w hL);have aK:=callsIn_wide.1 cS;refine Calls.mono (f:=145) aK fun e w' he => ?_;obtain ⟨v,rfl,aI,M,hB⟩:=he;have m : (zkA l).length = l.length:=List.length_mergeSort l;rcases aI.2 with ⟨rfl,E⟩ | ⟨gb,cap,cur,rfl,D,L,r1,r2,r3,r4⟩
        ·have Y : l = []:=yb E
         subst Y;obtain ⟨H,R1⟩:=zCG U hB;obtain ⟨H2,R2⟩:=zsY R1 1;refine ⟨_,_,rfl,?_,by simpa [zkA] using R2,by simpa [zkA] using H.trans H2⟩;simp only [zh,zF];exact ⟨0,1,0,by simp [shapeOf,zkA,Ob.shape],ym _,fun _ => ⟨none,0,rfl,ym _,fun _ => rfl,fun h => absurd rfl h⟩,_,_,rfl⟩
        ·have S : ∀ (j : Nat) x,(zkA l)[j]? = some x → cur[j]? = some (.int .i64 x):=fun j x C => by
          have aM : j < l.length:=by rw [← m]; exact (List.getElem?_eq_some_iff.1 C).1
          have W : (cur.toList.take (l.length * 1))[j]? = some (.int .i64 x):=by
           rw [r4,yt];have : (l.mergeSort fun x y => decide (x ≤ y))[j]? = some x:=C;rw [this];rfl
          rw [List.getElem?_take,if_pos (by omega)] at W;simpa using W
         obtain ⟨H,R1⟩:=zFL U hB L D (l:=zkA l) (by rw [m]; omega) S;refine ⟨_,_,rfl,?_,R1,H⟩;simp only [zh,zF];have e1 : (g.own σ.length gb).ρ σ.length = gb:=(by simp [G.own]);refine ⟨0,1,l.length,by simp [shapeOf,Ob.shape,m],ym _,fun _ => ⟨some ⟨gb,0,none⟩,cap,rfl,r1,fun h => ?_,fun h => ⟨by omega,fun _ => by rw [e1],cur,_,by rw [e1]; exact L,by omega⟩⟩,_,_,rfl⟩;have:=M.2 (yb h);cases this
       ·cases d
    ·cases h
   ·cases h
  ·cases h
 ·cases h
end Go.Proofs
namespace AC
open Go.A Go.A.Lex
theorem zHN : zxs (zGH Go.Proofs.Tryz.prog (zs0 Go.Proofs.Tryz.prog)) 0 tab :=
 ⟨zbD _ 0 (by kernel_rfl),zbD _ 16 (by kernel_rfl),zbD _ 32 (by kernel_rfl),zbD _ 48 (by kernel_rfl),zbD _ 64 (by kernel_rfl),zbD _ 80 (by kernel_rfl),zbD _ 96 (by kernel_rfl),zbD _ 112 (by kernel_rfl),zbD _ 128 (by kernel_rfl),zbD _ 144 (by kernel_rfl),zbD _ 160 (by kernel_rfl),zbD _ 176 (by kernel_rfl),zbD _ 192 (by kernel_rfl),zbD _ 208 (by kernel_rfl),zbD _ 224 (by kernel_rfl),zbD _ 240 (by kernel_rfl),zbD _ 256 (by kernel_rfl),trivial⟩
theorem zJH : zzs Go.Proofs.Tryz.prog (zs0 Go.Proofs.Tryz.prog) T:=by
 refine ztx ?_ (ztx ?_ (ztx ?_ (zDV zHN)))
 ·exact Go.Proofs.Tryz.ext_compact
 ·exact fun args σ v σ' h => zyI (zxD (by kernel_rfl)) Go.Proofs.Tryz.func181 (by kernel_rfl) (by kernel_rfl) args σ v σ' h
 ·exact Go.Proofs.Tryz.ext_sorted
end AC
namespace Go.A
def zje : List (List Fz → Prop) → List Fz → Prop
 | [],cs => cs = []
 | p :: ps,cs => ∃ a b,cs = a ++ b ∧ p a ∧ zje ps b
def zuo (P : Program) : List Field → Nat → Nat → Bool
 | [],off,total => off == total
 | f :: fs,off,total => f.offset == off && zuo P fs (off + P.cellsOf f.type) total
def zhN (P : Program) : Nat → TypeId → Bool
 | 0,_ => false
 | n + 1,t => match P.underlying t with
   | some .bool => P.cellsOf t == 1
   | some (.int _) => P.cellsOf t == 1
   | some (.slice e) => P.cellsOf t == 1 && decide (0 < P.cellsOf e) && zhN P n e
   | some (.struct fs) => (fs.toList.all fun f => zhN P n f.type) && zuo P fs.toList 0 (P.cellsOf t)
   | some (.array m e) => zhN P n e && (P.cellsOf t == m * P.cellsOf e)
   | _ => false
theorem mapM_some {α β : Type} {f : α → Option β} : ∀ {l : List α} {ys : List β},l.mapM f = some ys → ys.length = l.length ∧ ∀ (i : Nat) (x : α),l[i]? = some x → ∃ y,ys[i]? = some y ∧ f x = some y
 | [],ys,h => by
   simp at h;subst h;exact ⟨rfl,fun i x c => by simp at c⟩
 | a :: l,ys,h => by
   rw [List.mapM_cons] at h
   cases d : f a with
   | none => simp [d] at h
   | some b =>
     cases e : l.mapM f with
     | none => simp [d,e] at h
     | some zs =>
       simp [d,e] at h;subst h;obtain ⟨g,j⟩:=mapM_some e;refine ⟨by simp [g],fun i x c => ?_⟩
       cases i with
       | zero => simp at c; subst c; exact ⟨b,by simp,d⟩
       | succ i => simpa using j i x (by simpa using c)
theorem zqL {α : Type} {p : Nat → α → Prop} : ∀ (n : Nat),(∀ i,i < n → ∃ x,p i x) → ∃ xs : List α,xs.length = n ∧ ∀ i x,xs[i]? = some x → p i x
 | 0,_ => ⟨[],rfl,fun i x h => by simp at h⟩
 | n + 1,h => by
   obtain ⟨xs,b,f⟩:=zqL n fun i c => h i (by omega);obtain ⟨x,d⟩:=h n (by omega);refine ⟨xs ++ [x],by simp [b],fun i y a => ?_⟩;rw [yr] at a;split at a
   ·exact f i y a
   ·rename_i c
    have:=zb a;simp at this;have e : i = n:=(by omega);subst e;rw [b] at a;simp at a;rw [← a];exact d
section
variable {H : Type} {enc : TypeId × Value → H} {P : Program} {w : World}
def zsZ (w : World) : zgY:=fun b _ => b < w.heap.size
def zgc (w : World) (xs : List Fz) (cs : List Value) : Prop:=xs.length = cs.length ∧ ∀ (j : Nat) (x : Fz) (u : Value),xs[j]? = some x → cs[j]? = some u → rep w (zsZ w) x u
theorem zgc.append {xs ys : List Fz} {cs ds : List Value} (h : zgc w xs cs) (k : zgc w ys ds) : zgc w (xs ++ ys) (cs ++ ds):=by
 refine ⟨by simp [h.1,k.1],fun j x u a hu => ?_⟩;rw [yr] at a hu;have:=h.1;split at a
 ·rw [if_pos (by omega)] at hu; exact h.2 j x u a hu
 ·rw [if_neg (by omega)] at hu; rw [h.1] at a; exact k.2 _ x u a hu
theorem zgc.one {x : Fz} {u : Value} (h : rep w (zsZ w) x u) : zgc w [x] [u] :=
 ⟨rfl,fun j y v a b => by
  cases j with
  | zero => simp at a b; rw [← a,← b]; exact h
  | succ j => simp at a⟩
end
end Go.A
namespace Go.A
open Go.RowKit
def G0 (w : World) : G:=⟨fun _ => 0,fun _ _ => undef,fun _ => .no,zsZ w⟩
theorem zJI (w : World) : Rel (G0 w) w []:=⟨fun _ _ h => h,fun id o h => by simp at h⟩
def zlY (P : Program) (t : TypeId) : Bool:=match P.underlying t with
 | some (.struct _) | some (.array _ _) => true
 | _ => false
def zqI (agg : Bool) (xs : List Fz) : V:=if agg then zDc xs else .one (.f (xs.headD (.lit undef)))
section
variable {H : Type} {enc : TypeId × Value → H} {P : Program} {w : World}
theorem zyw {C : zaq} (S : zg3 P C) {f : Nat} {args : List V} {us : List Value} {b : Bool} (a : C f args [] = some (zi4 b,[])) (c : zO (G0 w) w [] args us) :
  Calls P f us.toArray w fun e w' => e = .returned (.bool b) ∧ Below w.heap.size w w':=by
 obtain ⟨_,h⟩:=S f args [] (zi4 b) [] a;refine (h (G0 w) w us (zJI w) c).mono fun e w' he => ?_;obtain ⟨u,g',rfl,g,_,H⟩:=he;obtain ⟨rfl,_⟩:=z7 g;exact ⟨rfl,H.os,H.tape,H.output,H.size,fun k d => H.frame k d rfl⟩
end
end Go.A
namespace Go.A
open Go.RowKit Go.ChangeShapes
section
variable {H : Type} {enc : TypeId × Value → H} {P : Program}
theorem zyV {f : Func} {s : ChangeSpec} {apart fresh handsOn again : Bool} {W h : World} {args : Array Value} {v : Value} {ds gs : List (DataW H)} {before : List MemPlace}
  (k : DataW.Whole enc P f.params.toList s.vars apart W args.toList ds gs before) (n : Below W.heap.size W h) (o : s.vars = [])
  (e : ∀ (b : Nat) (sp : Nat → Bool) (hd : Bool),DataW.TrodAll enc P h b sp hd f.resultTypes.toList (v.resultList f.resultTypes.size) (s.fn H (ds ++ gs)).results [])
  (c : ∀ sp : Nat → Bool,(∀ p ∈ before,sp p.block = true) → DataW.TrodAll enc P h 0 sp true f.params.toList args.toList (s.fn H (ds ++ gs)).args before)
  (g : (s.fn H (ds ++ gs)).vars = [])
  (l : ∀ (j : Nat) (t : TypeId) (r : Value),f.resultTypes[j]? = some t → (v.resultList f.resultTypes.size)[j]? = some r → Value.okWide P h .any 0 t r) :
  s.post enc P f apart fresh handsOn again W args v h:=by
 have inside : ∀ x ∈ before,x.block < W.heap.size:=k.lt;have i : ∀ x ∈ before,(fun b => decide (b < W.heap.size)) x.block = true:=fun x d => decide_eq_true (inside x d);have m : ∀ sp : Nat → Bool,DataW.TrodVars enc P h sp s.vars (s.fn H (ds ++ gs)).vars []:=fun sp => by rw [o,g]; rfl
 have whole:=k;obtain ⟨_,_,_,_,_,a,once⟩:=k;refine ⟨ds,gs,before,[],before,[],whole,e _ _ _,c _ i,m _,World.keptBut_mono (fun x d => ⟨d,.inr (by simpa using d)⟩) (n.frame _),fun _ => ⟨l,_,_,before,⟨before,[],trodAll_append (c _ fun _ _ => rfl) (e _ _ _),m _,by simp,fun b off d => ?_,once⟩,fun x d _ => by simpa using d⟩⟩;rw [n.frozen (p:=⟨b,off,none⟩) (inside _ d)];exact a b off d
end
section
variable {H : Type} {enc : TypeId × Value → H} {P : Program}
end
end Go.A
namespace AC
open Go Go.A Go.Proofs
set_option maxRecDepth 100000
theorem mixed : Tryz.prog.follows .mixedOrders = true:=by kernel_rfl
theorem zGl : zg3 Tryz.prog (call T):=sound (zxD mixed) zJH
end AC
namespace Go.Proofs.YtmkncmffaaninaaGreat
open Go.ChangeShapes Go.WideShapes Go.ChangeAt Go.RowKit Go.A
theorem Tryz.own : ownKnob Tryz.prog.godebug = none:=by kernel_rfl
theorem Tryz.laidOut : laidOutB Tryz.prog = true:=by kernel_rfl
end Go.Proofs.YtmkncmffaaninaaGreat
