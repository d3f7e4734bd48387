/- A part of the proof of SchedTells. Conditions: none. -/
import Derived.Test.YtmkncmffaaninaaGreatTBL
import Derived.Shelf.SlIterI.Sorted
import Derived.RangeFuncBox
import Derived.RangeFuncLeaves
import Derived.WalkKit
import Derived.OwnWalkIn
import Derived.TacticsInMore
import Derived.LoopNIn
import Derived.LoopIn
import Derived.Test.YtmkncmffaaninaaGreatTAQ
import Derived.KernelRfl
import Derived.Test.YtmkncmffaaninaaGreatTBK
set_option linter.all false
open List renaming length_map → ya,getElem?_append_left → yb,getElem?_eq_getElem → yc,eq_nil_of_length_eq_zero → yd,getElem_mem → ye,range' → yf,append_toArray → yk,pairwise_cons → yl,length_nil → ym,size_toArray → yn,push_toArray → yo,length_cons → yq,cons_append → yr,nil_append → yu,getElem?_eq_some_iff → yv,map_nil → yB,range'_zero → yC,range'_succ → yD,getElem?_map → yF,all_cons → yH,mem_range'_1 → yI,all_eq_true → yK,map_append → yN,map_cons → yO,mem_cons → yP,range → yR
open Array renaming getElem?_eq_some_iff → yg,replicate_succ → yi,replicate_zero → yj
open Int renaming eq_ofNat_of_zero_le → yh,toNat_natCast → yw,lt_irrefl → yz,natCast_zero → yA,toNat_of_nonneg → yE
open Option renaming bind_eq_some_iff → yp
open Nat renaming lt_of_lt_of_le → ys,le_refl → yt,reduceAdd → yx,reduceSub → yy,zero_le → yQ
open Bool renaming not_eq_true' → yG,and_eq_true → yJ,or_eq_true → yL,eq_iff_iff → yM
namespace Go.Proofs
open Go.RowKit Go.Maps Go.Sort Go.Shelf
attribute [local go_sem] Oper.semAt_some
structure LiesAt (w : World) (B o : Nat) (ad : Option Addr) (c : Nat) (zs : List Int) : Prop where
 box : B < w.heap.size ∧ w.cell? ⟨B,o,none⟩ = some (.slice ad zs.length c)
 row : zs ≠ [] → ∃ blk off,ad = some ⟨blk,off,none⟩ ∧ blk < w.heap.size ∧ ∀ (j : Nat) x,zs[j]? = some x → w.cell? ⟨blk,off + j,none⟩ = some (.int .i64 x)
theorem LiesAt.later {w W : World} {B o : Nat} {ad : Option Addr} {c : Nat} {f : List Int} (h : LiesAt w B o ad c f) (a : Below w.heap.size w W) : LiesAt W B o ad c f:=by
 have e : ∀ b i,b < w.heap.size → W.cell? ⟨b,i,none⟩ = w.cell? ⟨b,i,none⟩:=fun b i h => by unfold World.cell?; rw [a.block b h]
 refine ⟨⟨ys h.box.1 a.size,by rw [e _ _ h.box.1]; exact h.box.2⟩,fun n => ?_⟩;obtain ⟨d,off,k,g,m⟩:=h.row n;exact ⟨d,off,k,ys g a.size,fun j x l => by rw [e _ _ g]; exact m j x l⟩
set_option maxRecDepth 100000 in
set_option maxHeartbeats 2000000 in
theorem Tryz.values1 (F : Fence) (n : Nat) (z : F.fn 177) (q : F.round = none) (G : 1 ≤ n) (l B o : Nat) (ad : Option Addr) (c : Nat) (a : List Int) (w : a.length ≤ 4294967296) (w0 : World) (j : LiesAt w0 B o ad c a) (J : List Int → World → Prop) (g : ∀ s W',J s W' → Below w0.heap.size w0 W')
  (y : ∀ pre x W1,J pre W1 → pre.length < a.length → YieldAt F (n - 1) Tryz.prog l #[encZ x] W1 fun e W' => e = .returned (.bool true) ∧ J (pre ++ [x]) W' ∧ KeepsWalks W1 W')
  (W : World) (t : J [] W) :
  CallsIn F n Tryz.prog 177 #[.func (.yield l) #[] #[],.pointer (some ⟨B,o,none⟩)] W fun e W' => (∃ v,e = .returned v) ∧ J a W':=by
 have m : W.cell? ⟨B,o,none⟩ = some (.slice ad a.length c):=(j.later (g _ _ t)).box.2;refine callsIn_of_wp Tryz.func177 rfl z ?_ q;simp only [Tryz.ntmps177,yn,yq,ym,yx,yy,yi,yj,yo,yk,yu,yr]
 gi_wp2
 gi_loopw [7] (fun i wr => ∃ k : Nat,k ≤ a.length ∧ i = .int .i64 k ∧ J (a.take k) wr) (fun i _ => match i with | .int _ k => a.length - k.toNat | _ => 0)
 case atStart => exact ⟨0,yQ _,rfl,t⟩
 case round =>
  obtain ⟨k,E,rfl,d⟩:=hrel
  by_cases f : k < a.length
  ·obtain ⟨C,off,rfl,r,b⟩:=(j.later (g _ _ d)).row (fun e => by subst e; simp at f)
   have p:=b k a[k] (by simp [f]);obtain ⟨fn,tmps,assign,body,D,A⟩:=y (a.take k) a[k] _ d (by simp; omega);clear b j m
   gi_wp2
   refine A.mono ?_;rintro e H ⟨rfl,h,u⟩
   gi_wp2
   go_roundw
   case rel => exact ⟨k + 1,by omega,by go_num,by rw [List.take_succ_eq_append_getElem f]; exact h⟩
   case measure =>
    show a.length - ((k : Int) + 1).toNat < a.length - (k : Int).toNat
    omega
  ·have : k = a.length:=by omega
   subst this
   gi_wp2
   go_end0
   exact ⟨⟨_,rfl⟩,by simpa using d⟩
def zCD (F : Fence) (n : Nat) (P : Program) (g : Nat) (lb : Array Value) (zs : List Int) (w : World) : Prop :=
 ∀ (l : Nat) (J : List Int → World → Prop) (W : World),(∀ s W',J s W' → Below w.heap.size w W') →
   (∀ pre x W1,J pre W1 → pre.length < zs.length → YieldAt F (n - 1) P l #[encZ x] W1 fun e W' => e = .returned (.bool true) ∧ J (pre ++ [x]) W' ∧ KeepsWalks W1 W') →
   J [] W →
   CallsIn F n P g (#[.func (.yield l) #[] #[]] ++ lb) W fun e W' => (∃ v,e = .returned v) ∧ J zs W'
theorem Tryz.values_gives (F : Fence) (n : Nat) (i : F.fn 177) (e : F.round = none) (h : 1 ≤ n) (B o : Nat) (ad : Option Addr) (c : Nat) (a : List Int) (b : a.length ≤ 4294967296) (w0 : World) (f : LiesAt w0 B o ad c a) :
 zCD F n Tryz.prog 177 #[.pointer (some ⟨B,o,none⟩)] a w0:=fun l J W d g j => Tryz.values1 F n i e h l B o ad c a b w0 f J d g W j
variable {P : Program} {ρ : Ren}
set_option maxRecDepth 100000 in
set_option maxHeartbeats 4000000 in
theorem zum (L : SlLaysZI.n11 P ρ) (F : Fence) (n : Nat) (S : F.fn (ρ.f 11)) (z : F.round = none) (hn : 2 ≤ n) (g : Nat) (p : Array Value) (M : F.fn g) (eg : ∀ args w,(callFunc g args).run P w = .ok (.enter g args) w)
  (q : List Int) (hN : q.length ≤ maxLen) (N : q.length * 8 ≤ 140737488355328) (w : World) (C : zCD F (n - 1) P g p q w) :
  CallsIn F n P (ρ.f 11) #[.slice none 0 0,.func (.func g) #[] p] w fun e w' => ∃ v : Value,e = .returned v ∧ w'.ownsRow w.heap.size (ρ.t 26) 1 v q.length (q.map encZ) ∧ (v = .slice none 0 0 ↔ q = []) ∧ Below w.heap.size w w':=by
 have h1 : 1 ≤ n:=by omega
 have mixed:=L.mixed; have t0:=L.t0; have a0:=L.a0; have z0:=L.z0; have v0:=L.v0; have t24:=L.t24; have a24:=L.a24; have z24:=L.z24; have v24:=L.v24; have t26:=L.t26; have a26:=L.a26; have z26:=L.z26; have v26:=L.v26; have t28:=L.t28; have a28:=L.a28; have z28:=L.z28; have v28:=L.v28;have G : ρ.t 24 ≠ ρ.t 26:=fun e => by have h:=L.t24; rw [e,L.t26] at h; cases h
 have u0:=run_underlying L.t0; have aA:=run_underlying L.t24; have Z:=run_underlying L.t26; have aD:=run_underlying L.t28;obtain ⟨_,_,FG⟩:=L.f11;refine callsIn_of_wp_marks FG rfl S ?_ z;simp only [SlBodyZ.n11_ntmps ρ,yn,yq,ym,yx,yy,yi,yj,yo,yk,yu,yr]
 gi_wp2
 refine wpIn_rangeFunc ?_;intro fn U;rw [z];obtain ⟨a,l⟩ : ∃ a,w.alloc (.cells #[.slice none 0 0] (ρ.t 24)) = a:=⟨_,rfl⟩;have Q : a.heap.size = w.heap.size + 1:=by rw [← l]; simp
 have O : a.heap[w.heap.size]? = some (.cells #[.slice none 0 0] (ρ.t 24) (0,0)):=by rw [← l]; exact World.alloc_heap_new w _
 have r : Below w.heap.size w a:=by rw [← l]; exact (Below.refl _ w).alloc (yt _) _
 rw [l]
 let rec0:=AnyZI.apRec ρ fn (.func (.func g) #[] p) w.heap.size a.heap.size .ready none
 obtain ⟨j,b⟩ : ∃ j,(a.alloc (.deferred (some []))).alloc (.loop rec0) = j:=⟨_,rfl⟩
 have hold : ∀ k,k < a.heap.size → j.heap[k]? = a.heap[k]?:=fun k hk => by
  rw [← b]; exact (Below.heap_alloc _ _ k (by simp; omega)).trans (Below.heap_alloc _ _ k hk)
 have J : Below w.heap.size w j:=by rw [← b]; exact (r.alloc r.size _).alloc (by have:=r.size; simp; omega) _
 have aB : j.heap.size = a.heap.size + 2:=by rw [← b]; simp
 have hM : AnyZI.ApAt ρ w fn (.func (.func g) #[] p) w.heap.size (a.heap.size + 1) a.heap.size [] j :=
  ⟨⟨_,(hold w.heap.size (by omega)).trans O,⟨rfl,.inl ⟨rfl,rfl⟩⟩,by simp⟩,
   by rw [← b]; have:=World.alloc_heap_new (a.alloc (.deferred (some []))) (.loop rec0); rwa [World.size_alloc] at this,
   by rw [← b]; exact (Below.heap_alloc _ _ _ (by simp)).trans (World.alloc_heap_new a _),J⟩
 refine ⟨a.heap.size + 1,[{ target:=.collected a.heap.size,args:=#[] }],j,{ target:=.fn (.func g) p,args:=#[.func (.yield (a.heap.size + 1)) #[] #[]] },j,g,
  #[.func (.yield (a.heap.size + 1)) #[] #[]] ++ p,j,?_,?_,?_,?_,fun _ => h1,?_⟩
 ·rw [← b]; exact run_enterLoop_outer _ _ _ _ _
 ·simp [resolve,go_sem]
 ·intro f' E; simp [Target.leads] at E; subst E; exact M
 ·simp [invoke,go_sem,eg]
 ·refine (C (a.heap.size + 1) (AnyZI.ApAt ρ w fn (.func (.func g) #[] p) w.heap.size (a.heap.size + 1) a.heap.size) j (fun s W' h => h.below)
   (fun pre x W hJ V => AnyZI.apYield { L with } F (n - 1 - 1) w fn U _ w.heap.size (a.heap.size + 1) a.heap.size (by omega) (by omega) (by omega) (yt _) (by omega) q.length hN N pre x W hJ V) hM).mono ?_
  rintro e I ⟨⟨v0,rfl⟩,u⟩;obtain ⟨v,Y,m,y⟩:=u.box;have B:=run_endLoop (P:=P) u.L (by simp [AnyZI.apRec]);obtain ⟨o,i⟩ : ∃ o,I.putObj (a.heap.size + 1) (.loop { rec0 with state:=.exhausted }) = o:=⟨_,rfl⟩;have d:=B;rw [show I.putObj (a.heap.size + 1) (.loop { rec0 with state:=.exhausted }) = o from i] at d;have A : I.grownBy o (some (a.heap.size + 1)):=by rw [← i]; exact grownBy_putObj_a _ _ _
  have R : o.heap[w.heap.size]? = some (.cells #[v] (ρ.t 24) (0,0)):=by rw [← i]; exact (World.putObj_heap_other (by omega)).trans Y
  have D : o.heap[a.heap.size]? = some (.deferred (some [])):=by rw [← i]; exact (World.putObj_heap_other (by omega)).trans u.K
  have c:=m.kept A (ownsRow_ne_a m u.L (fun cur e => by first | cases e | exact G (Obj.cells.inj e).2.1));have H : Below w.heap.size w o:=u.below.grown A u.below.size (fun k e => by cases e; omega);obtain ⟨aC,X⟩:=cell_of_box_a R;clear i;refine ⟨none,o,d,?_⟩
  gi_wp2
  rw [← Q];refine ⟨by simp,.inl ⟨_,_,rfl,run_takeDeferred D,?_⟩⟩;exact ⟨_,results_tmp rfl _ _ _,v,rfl,c.kept (grownBy_putObj_a _ _ _) (ownsRow_ne_a c D (fun cur e => by first | cases e | exact G (Obj.cells.inj e).2.1)),y,H.grown (grownBy_putObj_a _ _ _) H.size (fun k e => by cases e; omega)⟩
set_option maxHeartbeats 1000000 in
theorem ztu (L : SlLaysZI.n8 P ρ) (F : Fence) (n : Nat) (q : F.fn (ρ.f 8)) (j : F.fn (ρ.f 11)) (h : F.round = none) (A : 3 ≤ n) (g : Nat) (k : Array Value) (i : F.fn g) (eg : ∀ args w,(callFunc g args).run P w = .ok (.enter g args) w)
  (a : List Int) (p : a.length ≤ maxLen) (l : a.length * 8 ≤ 140737488355328) (w : World) (b : zCD F (n - 1 - 1) P g k a w) :
  CallsIn F n P (ρ.f 8) #[.func (.func g) #[] k] w fun e w' => ∃ v : Value,e = .returned v ∧ w'.ownsRow w.heap.size (ρ.t 26) 1 v a.length (a.map encZ) ∧ (v = .slice none 0 0 ↔ a = []) ∧ Below w.heap.size w w':=by
 have y : 1 ≤ n:=by omega
 have r : ∀ args w,(callFunc (ρ.f 11) args).run P w = .ok (.enter (ρ.f 11) args) w:=L.f11.enters rfl;have mixed:=L.mixed; have t0:=L.t0; have a0:=L.a0; have z0:=L.z0; have v0:=L.v0; have t24:=L.t24; have a24:=L.a24; have z24:=L.z24; have v24:=L.v24; have t26:=L.t26; have a26:=L.a26; have z26:=L.z26; have v26:=L.v26; have t28:=L.t28; have a28:=L.a28; have z28:=L.z28; have v28:=L.v28;have z:=run_underlying L.t0; have x:=run_underlying L.t24; have o:=run_underlying L.t26; have s:=run_underlying L.t28;obtain ⟨_,_,u⟩:=L.f8;refine callsIn_of_wp u rfl q ?_ h;simp only [SlBodyZ.n8_ntmps ρ,yn,yq,ym,yx,yy,yi,yj,yo,yk,yu,yr]
 gi_wp2_with (gi_at_fn (ρ.f 11); refine (zum { L with } F (n - 1) j h (by omega) g k i eg a p l _ b).mono ?_; rintro e w' ⟨v,rfl,d,c,m⟩)
 go_ret
 exact ⟨v,rfl,d,c,m⟩
set_option maxRecDepth 100000 in
set_option maxHeartbeats 2000000 in
theorem zug (L : SlLaysZI.n6 P ρ) (F : Fence) (n : Nat) (Q : F.fn (ρ.f 6)) (J : F.fn (ρ.f 8)) (R : F.fn (ρ.f 9)) (r : F.fn (ρ.f 11)) (l : F.round = none) (V : 4 ≤ n) (c : AnyZI.SortsIn P ρ F (n - 1)) (e9 : ∀ args w,(callFunc (ρ.f 9) args).run P w = .ok (.enter (ρ.f 9) args) w) (g : Nat) (u : Array Value) (o : F.fn g) (eg : ∀ args w,(callFunc g args).run P w = .ok (.enter g args) w)
  (a : List Int) (I : a.length ≤ maxLen) (A : a.length * 8 ≤ 140737488355328) (w : World) (i : zCD F (n - 1 - 1 - 1) P g u a w) :
  CallsIn F n P (ρ.f 6) #[.func (.func g) #[] u] w fun e w' => ∃ v : Value,e = .returned v ∧ w'.ownsRow w.heap.size (ρ.t 26) 1 v a.length ((a.mergeSort (fun x y => decide (x ≤ y))).map encZ) ∧ (v = .slice none 0 0 ↔ a = []) ∧ Below w.heap.size w w':=by
 have S : 1 ≤ n:=by omega
 have e8 : ∀ args w,(callFunc (ρ.f 8) args).run P w = .ok (.enter (ρ.f 8) args) w:=L.f8.enters rfl;have mixed:=L.mixed; have t0:=L.t0; have a0:=L.a0; have z0:=L.z0; have v0:=L.v0; have t24:=L.t24; have a24:=L.a24; have z24:=L.z24; have v24:=L.v24; have t26:=L.t26; have a26:=L.a26; have z26:=L.z26; have v26:=L.v26; have t28:=L.t28; have a28:=L.a28; have z28:=L.z28; have v28:=L.v28;have U:=run_underlying L.t0; have O:=run_underlying L.t24; have H:=run_underlying L.t26; have K:=run_underlying L.t28;obtain ⟨_,_,N⟩:=L.f6;refine callsIn_of_wp N rfl Q ?_ l;simp only [SlBodyZ.n6_ntmps ρ,yn,yq,ym,yx,yy,yi,yj,yo,yk,yu,yr]
 gi_wp2_with (gi_at_fn (ρ.f 8); refine (ztu { L with } F (n - 1) J r l (by omega) g u o eg a I A _ i).mono ?_; rintro e W ⟨v,rfl,d,k,s⟩)
 rcases d.2 with ⟨rfl,G⟩ | ⟨z,cap,cur,rfl,b,h,r1,M,B,C⟩
 ·have q : a = []:=yd G
  subst q
  gi_wp2_with (gi_at_fn (ρ.f 9); refine (c.2 none 0 W).mono ?_; rintro e w' ⟨rfl,rfl⟩)
  go_ret
  exact ⟨.slice none 0 0,rfl,by simpa using d,by simp,s⟩
 ·have D : Holds encZ W z 0 a.toArray:=holds_of_block_i h (by simpa using C)
  have m : z < W.heap.size:=(yg.1 h).1;have p : a.length < 4611686018427387904:=by omega
  have cS:=c.1 z 0 cap a W D m p
  gi_wp2_with (gi_at_fn (ρ.f 9); refine cS.mono ?_; rintro e w' ⟨rfl,X,os,rfl⟩)
  go_ret
  exact ⟨_,rfl,ownsRow_sorted_i (by simp) b h r1 M B,k,s.grown (grownBy_sorted_i _) s.size (fun j E => by cases E; exact b)⟩
theorem Tryz.sorts (m : Nat) : AnyZI.SortsIn Tryz.prog Tryz.sorted_ren Fence.wide m :=
 ⟨fun c off cap d W e a b => callsIn_wide.2 (AnyM.slices_Sort_int Tryz.sort c off cap d W e a b),
  fun p cap W => callsIn_wide.2 (AnyM.slices_Sort_int_none Tryz.sort p cap W)⟩
end Go.Proofs
namespace Go.A
open Go.RowKit (Below)
section
variable {g : G} {w w' : World} {σ : zd}
theorem zFo (R : Rel g w σ) (f : Below w.heap.size w w') {a : Nat} {cur : Array Value} {t : TypeId} (v : w'.heap[a]? = some (.cells cur t (0,0))) (s : w.heap.size ≤ a) {l : List Int} (A : l.length ≤ cur.size) (B : ∀ (j : Nat) x,l[j]? = some x → cur[j]? = some (.int .i64 x)) :
  Ext g w σ (g.own σ.length a) w' (σ ++ [.cells 0 1 (l.map zn)]) ∧ Rel (g.own σ.length a) w' (σ ++ [.cells 0 1 (l.map zn)]):=by
 have u : ∀ id,id < σ.length → (g.own σ.length a).ρ id = g.ρ id:=fun id h => zaQ g.ρ (k:=σ.length) (i:=id) _ (by omega);have hw : ∀ b,b < w.heap.size → (g.own σ.length a).ow b = g.ow b:=fun b h => zaQ g.ow (k:=a) (i:=b) _ (by omega)
 have H : Ext g w σ (g.own σ.length a) w' (σ ++ [.cells 0 1 (l.map zn)]):={
  os:=f.os
  tape:=f.tape
  output:=f.output
  size:=f.size
  keeps:=fun b i h => ⟨h,by unfold World.cell?; rw [f.block b (R.nb b i h)]⟩
  len:=by simp
  shape:=fun id D sz len h => by
   obtain ⟨es,p,z⟩:=za2 h;have d:=zb p;refine .inl ⟨by unfold shapeOf; rw [yb d]; exact h,u id d,fun _ arr t y => ⟨arr,?_,rfl⟩⟩;rw [f.block _ (yg.1 y).1];exact y
  map:=fun id es h => ⟨u id (zb h),es,by rw [yb (zb h)]; exact h⟩
  tok:=fun t k n h => by
   obtain ⟨sz,fr,p,z⟩:=zdi h;exact ⟨n,zd3 (by rw [yb (zb p)]; exact p) z,yt _,fun _ => rfl⟩
  tsz:=fun t sz h => by
   obtain ⟨fr,p⟩:=zfc h;exact zct (fr:=fr) (by rw [yb (zb p)]; exact p)
  ow:=hw
  new:=fun b i h _ _ => h
  frame:=fun b q _ => f.block b q }
 refine ⟨H,⟨fun b i h => ys (R.nb b i h) f.size,fun id x h => ?_⟩⟩
 by_cases d : id < σ.length
 ·rw [yb d] at h
  exact zdq H (u id d) (fun _ => rfl) (fun b q _ => ⟨f.block b q,hw b q,fun _ h => h⟩) (R.ob id x h)
 ·have r : id = σ.length:=by
   have:=zb h;simp at this;omega
  subst r;simp at h;subst h;intro _;have e1 : (g.own σ.length a).ρ σ.length = a:=by simp [G.own]
  have e2 : (g.own σ.length a).ow a = .ob σ.length:=by simp [G.own]
  rw [e1];refine ⟨e2,fun o h => by have:=R.nb _ _ h; omega,cur,t,v,by simpa using A,fun i e he => ?_⟩;rw [yF,Option.map_eq_some_iff] at he;obtain ⟨x,C,rfl⟩:=he;refine ⟨rfl,fun j c m => ?_⟩
  cases j with
  | succ j => simp [zn] at m
  | zero =>
    simp [zn] at m;subst m;exact ⟨.int .i64 x,by simpa using B i x C,by simp [zz,rep,zzg],rfl⟩
end
theorem zoP : ∀ {xs : List (List Fz)} {l : List Int},zg5 xs = some l → xs = l.map zxP
 | [],l,h => by simp [zg5] at h; subst h; rfl
 | x :: xs,l,h => by
   simp only [zg5] at h;unfold zgl at h;split at h
   ·rename_i a0 bs a b
    injection h with h;subst h;rw [zoP b];unfold zxu at a;split at a
    ·injection a with a; subst a; rfl
    ·cases a
   ·cases h
end Go.A
namespace Go.Proofs
open Go.RowKit Go.Maps Go.Sort Go.Shelf
open Go.A in
theorem Tryz.ext_sorted (args : List V) (σ : zd) (v : V) (σ' : zd) (h : zhW 177 args σ = some (v,σ')) :
  Go.A.Enters Tryz.prog 145 ∧ ∀ g w us,Rel g w σ → zA g w σ args us → Calls Tryz.prog 145 us.toArray w fun e w' => ∃ u g',e = .returned u ∧ zf g' w' σ' v u ∧ Rel g' w' σ' ∧ Ext g w σ g' w' σ':=by
 refine ⟨⟨Tryz.f145,_,Tryz.func145,by kernel_rfl,rfl⟩,fun g w us W hv => ?_⟩;unfold zhW at h;split at h
 ·rename_i f q aQ i o
  split at h
  ·rename_i hf
   obtain ⟨rfl,rfl⟩:=hf;unfold zmU at h;split at h
   ·rename_i xs n
    rw [yp] at h;obtain ⟨l,hl,h⟩:=h;have hx:=zoP hl;subst hx;unfold znr at h;split at h
    ·rename_i C
     injection h with h;simp only [Prod.mk.injEq] at h;obtain ⟨rfl,rfl⟩:=h;simp only [zA,zf,zz,zw] at hv;obtain ⟨u,rest,rfl,⟨fs,cs,rfl,aD,p,ps,aF,hp,rfl⟩,rfl⟩:=hv;unfold zd.cell zd.elem at n;rw [yp] at n;obtain ⟨el,d,aI⟩:=n;rw [yp] at d;obtain ⟨ob,R,d⟩:=d
     cases ob with
     | tok _ _ => simp [Ob.elem] at d
     | mp _ => simp [Ob.elem] at d
     | cells ver' sz es =>
       simp only [Ob.elem] at d;split at d
       ·rename_i M
        subst M;have aJ : es ≠ []:=fun e => by subst e; simp at d
        obtain ⟨_,_,arr,t,s,_,J⟩:=W.ob q _ R aJ;obtain ⟨hlen,B⟩:=J i el d;obtain ⟨u,aG,L,_⟩:=B 0 _ aI;simp only [zz,rep] at L;obtain ⟨ad,c,aM,rfl,_,S,k⟩:=L;obtain ⟨v0,aP,aN,a,_,aH,_⟩:=hp;have aL:=zu R;rw [aL] at a;injection a with a;simp only [Prod.mk.injEq] at a;obtain ⟨rfl,rfl,rfl⟩:=a;have aA:=aH rfl;subst aA;have K : fs = #[]:=(by cases fs; simpa using aD);have O : cs = #[.pointer (some ⟨g.ρ q,i * sz + 0,none⟩)]:=(by cases cs; simpa using aF);subst K O;have aE : g.ρ q < w.heap.size:=(yg.1 s).1
        have hw : w.cell? ⟨g.ρ q,i * sz + 0,none⟩ = some (.slice ad l.length c):=by
         unfold World.cell?;rw [s];simpa using aG
        have hL : LiesAt w (g.ρ q) (i * sz + 0) ad c l:=⟨⟨aE,hw⟩,fun Q => by
         rcases k with k | ⟨b,o,rfl,k⟩
         ·exact absurd (List.map_eq_nil_iff.1 k) Q
         ·have Z : aM = 1:=by
           cases l with
           | nil => exact absurd rfl Q
           | cons x r => simp only [yO,zb9] at S; rw [← S.1]; rfl
          subst Z
          have z : ∀ (j : Nat) x,l[j]? = some x → g.N b (o + j) ∧ w.cell? ⟨b,o + j,none⟩ = some (.int .i64 x):=fun j x B => by
           have U:=zf1 k (i:=j) (e:=zxP x) (by simp [B]);obtain ⟨u,n1,n2,n3⟩:=zhC U (j:=0) (x:=.lit (.int .i64 x)) (by simp [zxP]);simp only [rep] at n3;rw [Nat.mul_one,Nat.add_zero] at n1 n2;exact ⟨n1,by rw [n2,n3.1]⟩
          obtain ⟨x,r,rfl⟩ : ∃ x r,l = x :: r:=by
           cases l with
           | nil => exact absurd rfl Q
           | cons x r => exact ⟨x,r,rfl⟩
          exact ⟨b,o,rfl,W.nb b _ (z 0 x (by simp)).1,fun j x B => (z j x B).2⟩⟩
        unfold LIM at C;have cS:=zug Tryz.sorted Fence.wide 5 trivial trivial trivial trivial rfl (by omega) (Tryz.sorts _) (enters_of Tryz.func117 (by kernel_rfl) rfl) 177 #[.pointer (some ⟨g.ρ q,i * sz + 0,none⟩)] trivial (enters_of Tryz.func177 (by kernel_rfl) rfl) l (by unfold maxLen; omega) (by omega) w (Tryz.values_gives Fence.wide 2 trivial rfl (by omega) _ _ ad c l C w hL);have aK:=callsIn_wide.1 cS;refine Calls.mono (f:=145) aK fun e w' he => ?_;obtain ⟨v,rfl,aB,I,hB⟩:=he;have m : (zcx l).length = l.length:=List.length_mergeSort l;rcases aB.2 with ⟨rfl,Q⟩ | ⟨X,cap,cur,rfl,D,P,r1,r2,r3,r4⟩
        ·have aC : l = []:=yd Q
         subst aC;obtain ⟨H,Y⟩:=zBD W hB;obtain ⟨H2,R2⟩:=zpE Y 1;refine ⟨_,_,rfl,?_,by simpa [zcx] using R2,by simpa [zcx] using H.trans H2⟩;simp only [zf,zz];exact ⟨0,1,0,by simp [shapeOf,zcx,Ob.shape],yt _,fun _ => ⟨none,0,rfl,yt _,fun _ => rfl,fun h => absurd rfl h⟩,_,_,rfl⟩
        ·have E : ∀ (j : Nat) x,(zcx l)[j]? = some x → cur[j]? = some (.int .i64 x):=fun j x B => by
          have aO : j < l.length:=by rw [← m]; exact (yv.1 B).1
          have U : (cur.toList.take (l.length * 1))[j]? = some (.int .i64 x):=by
           rw [r4,yF];have : (l.mergeSort fun x y => decide (x ≤ y))[j]? = some x:=B;rw [this];rfl
          rw [List.getElem?_take,if_pos (by omega)] at U;simpa using U
         obtain ⟨H,Y⟩:=zFo W hB P D (l:=zcx l) (by rw [m]; omega) E;refine ⟨_,_,rfl,?_,Y,H⟩;simp only [zf,zz];have e1 : (g.own σ.length X).ρ σ.length = X:=(by simp [G.own]);refine ⟨0,1,l.length,by simp [shapeOf,Ob.shape,m],yt _,fun _ => ⟨some ⟨X,0,none⟩,cap,rfl,r1,fun h => ?_,fun h => ⟨by omega,fun _ => by rw [e1],cur,_,by rw [e1]; exact P,by omega⟩⟩,_,_,rfl⟩;have:=I.2 (yd h);cases this
       ·cases d
    ·cases h
   ·cases h
  ·cases h
 ·cases h
end Go.Proofs
namespace AC
open Go Go.A
def zEY (x : Int) : List Int → List Int
 | [] => [x]
 | y :: r => if x ≤ y then x :: y :: r else y :: zEY x r
def zEo : List Int → List Int
 | [] => []
 | x :: r => zEY x (zEo r)
theorem zqC (x : Int) : ∀ l,(zEY x l).Perm (x :: l)
 | [] => .refl _
 | y :: r => by
   rw [zEY];split
   ·exact .refl _
   ·exact ((zqC x r).cons y).trans (.swap x y r)
theorem zvn : ∀ l,(zEo l).Perm l
 | [] => .refl _
 | x :: r => (zqC x (zEo r)).trans ((zvn r).cons x)
theorem zp2 (x : Int) : ∀ l,l.Pairwise (fun a b => a ≤ b) → (zEY x l).Pairwise (fun a b => a ≤ b)
 | [],_ => by simp [zEY]
 | y :: r,h => by
   rw [yl] at h;rw [zEY];split
   ·rename_i c
    rw [yl];refine ⟨fun z d => ?_,yl.2 h⟩;rcases yP.1 d with rfl | d
    ·exact c
    ·exact Int.le_trans c (h.1 z d)
   ·rename_i c
    rw [yl];refine ⟨fun z d => ?_,zp2 x r h.2⟩;rcases yP.1 ((zqC x r).subset d) with rfl | d
    ·omega
    ·exact h.1 z d
theorem zqX : ∀ l,(zEo l).Pairwise (fun a b => a ≤ b)
 | [] => by simp [zEo]
 | x :: r => zp2 x _ (zqX r)
theorem zvy (l : List Int) : zcx l = zEo l:=by
 have d : (zcx l).Pairwise (fun a b => decide (a ≤ b) = true):=List.pairwise_mergeSort (fun a b c d e => by simp only [decide_eq_true_eq] at *; omega) (fun a b => by simp only [yL,decide_eq_true_eq]; omega) l;refine List.Perm.eq_of_pairwise (le:=fun a b => a ≤ b) (fun a b _ _ d e => by omega) (d.imp fun h => by simpa using h) (zqX l) ?_;exact (List.mergeSort_perm l _).trans (zvn l).symm
def zqw (σ : zd) (l : List Int) : Option (V × zd) :=
 if l.length ≤ LIM then some (.one (.own σ.length 0 0 l.length),σ ++ [.cells 0 1 ((zEo l).map zn)]) else none
def zqd (σ : zd) : Option C → Option (V × zd)
 | some (.f (.sl xs)) => (zg5 xs).bind (zqw σ)
 | _ => none
def zn0 (fv : Nat) : List V → zd → Option (V × zd)
 | [.one (.fn g [] [.ptr id ver i o])],σ => if g = fv ∧ o = 0 then zqd σ (σ.cell id ver i 0) else none
 | _,_ => none
def ztP (σ : zd) (id ver : Nat) (l : List Int) : V × zd:=(.tup [],σ.set id (.cells ver 1 ((zEo l).map zn)))
def ztr : List V → zd → Option (V × zd)
 | [.one (.f (.sl []))],σ => some (.tup [],σ)
 | [.one (.own id ver 0 n)],σ => ((σ[id]?).bind (ziA ver n)).map (ztP σ id ver)
 | _,_ => none
theorem zvN : znr = zqw:=by funext σ l; simp only [znr,zqw,zvy]
theorem zv8 : zmU = zqd:=by
 funext σ c
 unfold zmU zqd;rw [zvN];rfl
theorem ztU (fv : Nat) : zhW fv = zn0 fv:=by
 funext a σ
 unfold zhW zn0;rw [zv8];rfl
theorem zxX : zqq = ztP:=by funext σ id ver l; simp only [zqq,ztP,zvy]
theorem zyq : zmE = ztr:=by
 funext a σ
 unfold zmE ztr;rw [zxX];rfl
def T' (n : Nat) : Option Entry:=if n = 62 then some (.ext (zi8 5)) else if n = 118 then some (.ext zf4) else if n = 181 then some (.ext (zi0 1)) else if n = 117 then some (.ext ztr) else if n = 145 then some (.ext (zn0 177)) else zv4 tab n
theorem zIk : T = T':=by
 funext n
 unfold T T';rw [zyq,ztU]
set_option maxRecDepth 100000 in
theorem zwF : zgp T' (zU T' 20000) 15 [] [] = some (zkh true,[]):=by kernel_rfl
theorem zFz : call T 15 [] [] = some (zkh true,[]):=by
 refine zle T 20000 _ _ _ _ ?_;rw [zIk];exact zwF
end AC
namespace AC
open Go Go.A Go.A.Lex
theorem zii (k : Int) : call T 31 [vI k] [] = some (vB (pure k),[]):=by
 rw [ze (fn:=zak) rfl]
 have e : pure k = (decide (0 ≤ k) && (decide (k ≤ 22) && (!decide (k = 4) && (decide (k < 16) || decide (20 < k))))):=by
  unfold pure impure;rw [yM];simp only [yJ,yG,Bool.or_eq_false_iff,yL,decide_eq_true_eq,decide_eq_false_iff_not];omega
 rw [e]
 by_cases c1 : 0 ≤ k
 case neg => simp -implicitDefEqProofs only [go_sem,zak,ge_iff_le,c1]
 by_cases c2 : k ≤ 22
 case neg => simp -implicitDefEqProofs only [go_sem,zak,ge_iff_le,c1,c2]
 by_cases c3 : k = 4
 case pos => simp -implicitDefEqProofs only [go_sem,zak,ge_iff_le,c3]
 by_cases c4 : k < 16
 case pos => simp -implicitDefEqProofs only [go_sem,zak,ge_iff_le,c1,c2,c3,c4]
 simp -implicitDefEqProofs only [go_sem,zak,ge_iff_le,gt_iff_lt,c1,c2,c3,c4]
section
variable (f : PFunc) (ask : List C) (b : PBlock) (hbl : b.ops.length ≤ 1000)
include hbl
end
section
variable (f : PFunc) (k a : Int) (b : PBlock) (order : List Int) (n : Nat) (hol : order.length ≤ 1000) (hr : ∀ x ∈ order,0 ≤ x ∧ x < (b.ops.length : Int)) (v6 : V)
include hol hr
end
theorem zhw (f : PFunc) (b : okF f) (k : Int) : call T 28 [zd4 f,vI k] [] = some (vB (zaY f k),[]):=by
 rw [ze (fn:=zaX) rfl];have a:=ztN f b 2;simp -implicitDefEqProofs only [go_sem] at a;unfold zaY
 by_cases c1 : zac f 2 = 0
 case neg => simp -implicitDefEqProofs only [go_sem,zaX,a,c1]
 by_cases c2 : 0 ≤ k
 case neg => simp -implicitDefEqProofs only [go_sem,zaX,a,c1,ge_iff_le,c2]
 simp -implicitDefEqProofs only [go_sem,zaX,a,c1,ge_iff_le,c2]
theorem zlf (b : PBlock) (hb : okB b) (a k : Nat) (m : k < a → a < b.ops.length) : call T 29 [znI b,vI a,vI k] [] = some (vB (onB b.ops a k),[]):=by
 rw [ze (fn:=zbf) rfl];unfold onB
 by_cases c : k < a
 case neg =>
  have g : (a : Int) ≤ (k : Int):=by omega
  simp -implicitDefEqProofs only [go_sem,zbf,ge_iff_le,g,c]
 have g : ¬ (a : Int) ≤ (k : Int):=by omega
 have j:=m c;have l : k < b.ops.length:=by omega
 have e1 : b.ops.getD k op0 = b.ops[k]:=by simp [l]
 have e2 : b.ops.getD a op0 = b.ops[a]:=by simp [j]
 have f:=zfS b.ops[a].args b.ops[k].dst (hb.op _ (ye j)).2;have d:=zii b.ops[k].kind;have e:=zii b.ops[a].kind;have i:=zj (r:=ro) l;have h:=zj (r:=ro) j;rw [e1,e2];simp -implicitDefEqProofs only [go_sem,ro] at f d e i h
 by_cases c1 : b.ops[k].dst = 0
 ·cases c3 : pure b.ops[k].kind <;> simp -implicitDefEqProofs only [c3] at d <;> simp -implicitDefEqProofs only [go_sem,zbf,ge_iff_le,c,g,i,h,d,e,c1,c3,ne_eq]
 by_cases c2 : b.ops[k].dst ∈ b.ops[a].args
 ·simp -implicitDefEqProofs only [c2] at f
  simp -implicitDefEqProofs only [go_sem,zbf,ge_iff_le,c,g,i,h,f,c1,c2,ne_eq]
 ·simp -implicitDefEqProofs only [c2] at f
  cases c3 : pure b.ops[k].kind <;> simp -implicitDefEqProofs only [c3] at d <;> simp -implicitDefEqProofs only [go_sem,zbf,ge_iff_le,c,g,i,h,f,d,e,c1,c2,c3,ne_eq]
def zzh (ops : List POp) (a i : Nat) : List Int:=((yR i).filter (onB ops a)).map Int.ofNat
theorem zzz (ops : List POp) (a i : Nat) : zzh ops a (i + 1) = zzh ops a i ++ if onB ops a i = true then [(i : Int)] else []:=by
 unfold zzh;rw [List.range_succ,List.filter_append,yN,List.filter_cons,List.filter_nil];split <;> rfl
theorem zEe (ops : List POp) (a i : Nat) : (zzh ops a i).length ≤ i:=by
 unfold zzh;rw [ya];have:=List.length_filter_le (onB ops a) (yR i);simpa using this
section
variable (f : PFunc) (n : Nat) (b : PBlock) (hn : n < f.blocks.length) (hb : f.blocks[n]? = some b) (hB : okB b)
include hn hb hB
theorem zAh (a : Nat) (m : a < b.ops.length) : ∀ (d i : Nat) (a0 a4 a7 a8 a9 : V),a - i = d → i ≤ a →
  exec T zbX ⟨[a0,vI n,vI a,.one (.ptr 0 0 0 0),a4,.one (.ap 1 0 ((zzh b.ops a i).map ri)),vI i,a7,a8,a9],[.cells 0 3 [z6 f],.tok 1 [(zzh b.ops a i).length]],0,0⟩ =
   some (.exit 0,⟨[vU,vU,vU,vU,vU,.one (.ap 1 0 ((zzh b.ops a a).map ri)),vU,vU,vU,vU],[.cells 0 3 [z6 f],.tok 1 [(zzh b.ops a a).length]],0,0⟩):=by
 intro d
 induction d with
 | zero =>
   intro i a0 a4 a7 a8 a9 l k;have h : i = a:=(by omega);subst h;rw [xl zbX rfl,zei];simp -implicitDefEqProofs only [go_sem,yz]
 | succ d ih =>
   intro i a0 a4 a7 a8 a9 l k;have h : i < a:=(by omega);have:=ih (i + 1) vU vU vU vU vU (by omega) (by omega);have g:=zlf b hB a i (fun _ => m);have e : (zzh b.ops a i).length + 1 ≤ LIM:=(by have:=zEe b.ops a i; have:=hB.ops; unfold LIM; omega);have j : (f.blocks.map rb)[n]? = some (rb b):=(by simp [hb]);rw [zzz] at this;rw [xl zbX rfl,zei];simp -implicitDefEqProofs only [go_sem,rb] at g j;have w:=za h (show a ≤ 4294967296 by have:=hB.ops; omega)
   cases c : onB b.ops a i with
   | true =>
     rw [c] at g this;simp -implicitDefEqProofs only [go_sem,yN,yO,yB,ri] at this;simp -implicitDefEqProofs only [go_sem,ilt h,j,g,e,w,this]
   | false =>
     rw [c] at g this;simp -implicitDefEqProofs only [go_sem] at this;simp -implicitDefEqProofs only [go_sem,ilt h,j,g,w,this]
end
def ziB (f : PFunc) (k a : Int) : List Int:=if zaY f k = true ∧ 0 ≤ a then (match f.blocks[k.toNat]? with | some b => if a < b.ops.length then zdV b.ops a.toNat else [] | none => []) else []
theorem ztG (f : PFunc) (i : okF f) (k a : Int) : call T 24 [zd4 f,vI k,vI a] [] = some (vIs (ziB f k a),[]):=by
 rw [ze (fn:=zay) rfl];have hr:=zhw f i k
 by_cases c : zaY f k = true
 case neg =>
  have l : zaY f k = false:=by simpa using c
  have e : ziB f k a = []:=by unfold ziB; rw [if_neg (fun h => c h.1)]
  rw [l] at hr;simp -implicitDefEqProofs only [go_sem] at hr;simp -implicitDefEqProofs only [go_sem,zay,hr,e,yB]
 rw [c] at hr;obtain ⟨j,o,p⟩:=zat.1 c;obtain ⟨n,rfl⟩:=yh j;have hn : n < f.blocks.length:=by omega
 obtain ⟨b,hb⟩ : ∃ b,f.blocks[n]? = some b:=⟨_,yc hn⟩;have g : (f.blocks.map rb)[n]? = some (rb b):=by simp [hb]
 have hB:=zwX i hb;have d : ((n : Int) < (f.blocks.length : Int)) = True:=by simp; omega
 simp -implicitDefEqProofs only [go_sem,rb] at hr g
 by_cases c1 : a < 0
 ·have e : ziB f n a = []:=by unfold ziB; rw [if_neg (fun h => by omega)]
  simp -implicitDefEqProofs only [go_sem,zay,hr,c1,e,yB]
 have e : ziB f n a = if a < (b.ops.length : Int) then zdV b.ops a.toNat else []:=by unfold ziB; rw [if_pos ⟨c,by omega⟩,yw,hb]
 by_cases c2 : a < (b.ops.length : Int)
 case neg =>
  have c3 : a ≥ (b.ops.length : Int):=by omega
  rw [if_neg c2] at e;simp -implicitDefEqProofs only [go_sem,zay,hr,c1,d,g,ya,eq_true c3,e,yB]
 rw [if_pos c2] at e;obtain ⟨m,rfl⟩:=yh (show 0 ≤ a by omega);have c3 : ¬ (m : Int) ≥ (b.ops.length : Int):=by omega
 have h:=fun a0 a4 a7 a8 a9 => zAh f n b hn hb hB m (by omega) m 0 a0 a4 a7 a8 a9 (by omega) (by omega);have e0 : zzh b.ops m 0 = []:=rfl;have e1 : zzh b.ops m m = zdV b.ops m:=rfl;rw [e0,e1] at h;rw [e,yw];simp only [yA,yB,ym] at h;simp -implicitDefEqProofs only [go_sem] at h;simp -implicitDefEqProofs only [go_sem,zay,hr,c1,d,g,ya,c3,h]
theorem zr7 (f : PFunc) (k a : Int) : ziB f k a = zj6 f k a:=by
 unfold ziB zj6
 by_cases c : zaY f k = true ∧ 0 ≤ a
 case neg => rw [if_neg c,if_neg c]
 rw [if_pos c,if_pos c];obtain ⟨h,e,b⟩:=zat.1 c.1;have hn : k.toNat < f.blocks.length:=by omega
 rw [yc hn];have d:=b.oneDef (ye hn);have g:=b.size (ye hn)
 show (if a < (f.blocks[k.toNat].ops.length : Int) then zdV f.blocks[k.toNat].ops a.toNat else []) = (zdv f.blocks[k.toNat]).getD a.toNat []
 rw [zjW d];split
 ·exact (getD_map _ _ _ (by omega)).symm
 ·rw [List.getD_eq_getElem?_getD,List.getElem?_eq_none (by simp; omega)]
  rfl
section
variable (f : PFunc) (n : Nat) (order : List Int) (hol : order.length ≤ 4294967296)
include hol
theorem zz5 : ∀ (d i : Nat) (a0 a4 a6 a7 a8 a9 e g b a : V),i + d = order.length →
  exec T zbQ ⟨[a0,vI n,vIs order,.one (.ptr 0 0 0 0),a4,vI i,a6,a7,a8,a9,e,g,b,a],[.cells 0 3 [z6 f]],0,0⟩ =
   some (if (yf i d).all (fun j => decide ((j : Int) ∈ order)) = true then (.exit 0,⟨[vU,vI n,vIs order,.one (.ptr 0 0 0 0),vU,vU,vU,vU,vU,vU,vU,vU,vU,vU],[.cells 0 3 [z6 f]],0,0⟩)
    else (.ret,⟨[vU,vU,vU,vU,vB false,vU,vU,vU,vU,vU,vU,vU,vU,vU],[.cells 0 3 [z6 f]],0,0⟩)):=by
 intro d
 induction d with
 | zero =>
   intro i a0 a4 a6 a7 a8 a9 e g b a l;have k : i = order.length:=(by omega);subst k;rw [xl zbQ rfl,zem];simp -implicitDefEqProofs only [go_sem,yz,ya,yC]
 | succ d ih =>
   intro i a0 a4 a6 a7 a8 a9 e g b a l;have k : i < order.length:=(by omega);have h:=zfS order i hol;have:=ih (i + 1) vU vU vU vU vU vU vU vU vU vU (by omega);rw [xl zbQ rfl,zem,yD,yH];simp -implicitDefEqProofs only [go_sem] at this h
   by_cases c : (i : Int) ∈ order
   ·simp -implicitDefEqProofs only [c,decide_true] at h
    simp -implicitDefEqProofs only [go_sem,ilt k,ya,h,c,za k hol,this]
   ·simp -implicitDefEqProofs only [c,decide_false] at h
    simp -implicitDefEqProofs only [go_sem,ilt k,ya,h,c]
variable (b : PBlock) (hb : f.blocks[n]? = some b) (hB : okB b) (hr : ∀ x ∈ order,0 ≤ x ∧ x < (b.ops.length : Int))
include hb hB hr
theorem zBI (i : Nat) (o : i < order.length) : ∀ (d k : Nat) (a0 a4 a5 a8 a9 j e h g : V),k + d = order.length →
  exec T zbI ⟨[a0,vI n,vIs order,.one (.ptr 0 0 0 0),a4,a5,vI i,vI k,a8,a9,j,e,h,g],[.cells 0 3 [z6 f]],0,0⟩ =
   some (if (yf k d).all (fun k => !onB b.ops (order.getD i 0).toNat (order.getD k 0).toNat) = true then (.exit 4,⟨[vU,vI n,vIs order,.one (.ptr 0 0 0 0),vU,vU,vI i,vU,vU,vU,vU,vU,vU,vU],[.cells 0 3 [z6 f]],0,0⟩)
    else (.ret,⟨[vU,vU,vU,vU,vB false,vU,vU,vU,vU,vU,vU,vU,vU,vU],[.cells 0 3 [z6 f]],0,0⟩)):=by
 have q : order.getD i 0 = order[i]:=by simp [o]
 obtain ⟨p1,p2⟩:=hr _ (ye o);intro d
 induction d with
 | zero =>
   intro k a0 a4 a5 a8 a9 j e h g r;have a : k = order.length:=(by omega);subst a;rw [xl zbI rfl,zd1];simp -implicitDefEqProofs only [go_sem,yz,ya,yC]
 | succ d ih =>
   intro k a0 a4 a5 a8 a9 j e h g r;have a : k < order.length:=(by omega);have s : order.getD k 0 = order[k]:=(by simp [a]);obtain ⟨t,u⟩:=hr _ (ye a);have l:=zlf b hB order[i].toNat order[k].toNat (fun _ => by omega);rw [yE p1,yE t] at l;have p : (f.blocks.map rb)[n]? = some (rb b):=(by simp [hb]);have m : ((n : Int) < (f.blocks.length : Int)) = True:=(by have:=(yv.1 hb).1; simp; omega);have:=ih (k + 1) vU vU vU vU vU vU vU vU vU (by omega);rw [xl zbI rfl,zd1,yD,yH,q,s];rw [q] at this;simp -implicitDefEqProofs only [go_sem,rb] at this l p
   cases c : onB b.ops order[i].toNat order[k].toNat with
   | true =>
     rw [c] at l;simp -implicitDefEqProofs only [go_sem,ilt a,ya,m,p,zj o,zj a,ri,l]
   | false =>
     rw [c] at l;simp -implicitDefEqProofs only [go_sem,ilt a,ya,m,p,zj o,zj a,ri,l,za a hol,this]
theorem zAk : ∀ (d i : Nat) (a0 a4 a5 a7 a8 a9 e g c a : V),i + d = order.length →
  exec T zb4 ⟨[a0,vI n,vIs order,.one (.ptr 0 0 0 0),a4,a5,vI i,a7,a8,a9,e,g,c,a],[.cells 0 3 [z6 f]],0,0⟩ =
   some (if (yf i d).all (fun i => (yf (i + 1) (order.length - (i + 1))).all (fun k => !onB b.ops (order.getD i 0).toNat (order.getD k 0).toNat)) = true then (.exit 2,⟨[vU,vU,vU,vU,vU,vU,vU,vU,vU,vU,vU,vU,vU,vU],[.cells 0 3 [z6 f]],0,0⟩)
    else (.ret,⟨[vU,vU,vU,vU,vB false,vU,vU,vU,vU,vU,vU,vU,vU,vU],[.cells 0 3 [z6 f]],0,0⟩)):=by
 intro d
 induction d with
 | zero =>
   intro i a0 a4 a5 a7 a8 a9 e g c a l;have j : i = order.length:=(by omega);subst j;rw [xl zb4 rfl,zel];simp -implicitDefEqProofs only [go_sem,yz,ya,yC]
 | succ d ih =>
   intro i a0 a4 a5 a7 a8 a9 e g c a l;have j : i < order.length:=(by omega);have h:=fun a0 a4 a5 a8 a9 e g c a => zBI f n order hol b hb hB hr i j (order.length - (i + 1)) (i + 1) a0 a4 a5 a8 a9 e g c a (by omega);have:=ih (i + 1) vU vU vU vU vU vU vU vU vU vU (by omega);rw [xl zb4 rfl,zel,yD,yH];generalize hq : ((yf (i + 1) (order.length - (i + 1))).all fun k => !onB b.ops (order.getD i 0).toNat (order.getD k 0).toNat) = q at *;simp -implicitDefEqProofs only [go_sem] at this h
   cases q with
   | true => simp -implicitDefEqProofs only [go_sem,ilt j,ya,za j hol,h,this]
   | false => simp -implicitDefEqProofs only [go_sem,ilt j,ya,za j hol,h]
end
theorem zu4 {ops : List POp} {order : List Int} (d : order.length = ops.length) : znA ops order = ((yf 0 order.length).all (fun j => decide ((j : Int) ∈ order)) && (yf 0 order.length).all (fun i => (yf (i + 1) (order.length - (i + 1))).all (fun k => !onB ops (order.getD i 0).toNat (order.getD k 0).toNat))):=by
 unfold znA;rw [decide_eq_true d,Bool.true_and,yM];simp only [yJ,yK,List.mem_range,yI,decide_eq_true_eq,yG,Bool.and_eq_false_iff,decide_eq_false_iff_not,yQ,Nat.zero_add,true_and];refine and_congr Iff.rfl ⟨fun h i a k b => (h i a k (by omega)).elim (fun q => absurd (show i < k by omega) q) id,fun h i a k b => ?_⟩
 by_cases c : i < k
 ·exact .inr (h i a k ⟨by omega,by omega⟩)
 ·exact .inl c
def zmh (f : PFunc) (k : Int) (order : List Int) : Bool:=zaY f k && (match f.blocks[k.toNat]? with | some b => znA b.ops order | none => false)
theorem znE (f : PFunc) (v : okF f) (k : Int) (order : List Int) (hol : order.length ≤ 4294967296) : call T 21 [zd4 f,vI k,vIs order] [] = some (vB (zmh f k order),[]):=by
 rw [ze (fn:=zaA) rfl];have hr:=zhw f v k
 cases c : zaY f k with
 | false =>
   rw [c] at hr;have e : zmh f k order = false:=(by unfold zmh; rw [c]; rfl);rw [e];simp -implicitDefEqProofs only [go_sem] at hr;simp -implicitDefEqProofs only [go_sem,zaA,hr]
 | true =>
   rw [c] at hr;obtain ⟨y,A,C⟩:=zat.1 c;obtain ⟨n,rfl⟩:=yh y;have hn : n < f.blocks.length:=(by omega);obtain ⟨b,hb⟩ : ∃ b,f.blocks[n]? = some b:=⟨_,yc hn⟩;have s : (f.blocks.map rb)[n]? = some (rb b):=(by simp [hb]);have hB:=zwX v hb;have m : ((n : Int) < (f.blocks.length : Int)) = True:=(by simp; omega);simp -implicitDefEqProofs only [go_sem,rb] at hr s;have e0 : zmh f n order = znA b.ops order:=(by unfold zmh; rw [c,yw,hb]; rfl);rw [e0]
   by_cases u : order.length = b.ops.length
   case neg =>
    have a : ¬ (order.length : Int) = (b.ops.length : Int):=(by omega);have e : znA b.ops order = false:=(by unfold znA; rw [decide_eq_false u]; rfl);simp -implicitDefEqProofs only [go_sem,zaA,hr,m,s,ya,a,e]
   have a : (order.length : Int) = (b.ops.length : Int):=(by omega);have p:=fun a0 a4 a6 a7 a8 a9 o g l h => zz5 f n order hol order.length 0 a0 a4 a6 a7 a8 a9 o g l h (by omega);rw [zu4 u];simp only [yA] at p
   cases q : (yf 0 order.length).all (fun j => decide ((j : Int) ∈ order)) with
   | false =>
     rw [q] at p;simp -implicitDefEqProofs only [go_sem] at p;simp -implicitDefEqProofs only [go_sem,zaA,hr,m,s,ya,a,p]
   | true =>
     have d:=zjj order.length order rfl fun i B => by
      have:=yK.1 q i (by rw [yI]; omega);simpa using this
     have t : ∀ x ∈ order,0 ≤ x ∧ x < (b.ops.length : Int):=fun x z => by rw [← a]; exact zpK.1 (d.mem_iff.1 z)
     have r:=fun a0 a4 a5 a7 a8 a9 o g l h => zAk f n order hol b hb hB t order.length 0 a0 a4 a5 a7 a8 a9 o g l h (by omega);simp only [yA] at r;rw [q] at p;generalize hw : ((yf 0 order.length).all (fun i => (yf (i + 1) (order.length - (i + 1))).all (fun k => !onB b.ops (order.getD i 0).toNat (order.getD k 0).toNat))) = w at *;simp -implicitDefEqProofs only [go_sem] at p r;cases w <;> simp -implicitDefEqProofs only [go_sem] at r <;> simp -implicitDefEqProofs only [go_sem,zaA,hr,m,s,ya,a,p,r]
theorem zrQ (f : PFunc) (k : Int) (order : List Int) : zmh f k order = ziY f k order:=by
 unfold zmh ziY
 cases c : zaY f k with
 | false => rfl
 | true =>
   obtain ⟨d,b,a⟩:=zat.1 c;have hn : k.toNat < f.blocks.length:=(by omega);rw [yc hn];exact congrArg (true && ·) (zuZ (a.oneDef (ye hn)) order).symm
end AC
