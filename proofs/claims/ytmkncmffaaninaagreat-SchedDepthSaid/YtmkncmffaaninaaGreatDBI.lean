/- A part of the proof of SchedDepth. Conditions: none. -/
import Derived.Test.YtmkncmffaaninaaGreatDBH
import Derived.Shelf.SlIterI.Sorted
import Derived.RangeFuncBox
import Derived.RangeFuncLeaves
import Derived.WalkKit
import Derived.OwnWalkIn
import Derived.TacticsInMore
import Derived.LoopNIn
import Derived.LoopIn
import Derived.Test.YtmkncmffaaninaaGreatDAR
import Derived.KernelRfl
import Derived.Shelf.RegionOpenPlain
import Derived.Deep.LoopGhost
import Derived.Lib.Walk
import Derived.Lib.SliceRun
set_option linter.unusedVariables false
set_option linter.unusedSimpArgs false
set_option linter.unusedSectionVars false
open List renaming getElem?_append_left → ya,getD_eq_getElem?_getD → yb,getElem?_eq_getElem → ye,eq_nil_of_length_eq_zero → yf,getElem?_map → yh,append_toArray → yl,pairwise_cons → ym,size_toArray → yn,push_toArray → yo,length_cons → yq,cons_append → yr,length_nil → yt,nil_append → yu,foldl_cons → yx,getElem?_take → yy,getElem_mem → yz,mem_cons → yB
open Array renaming getElem?_eq_some_iff → yc,replicate_succ → yj,replicate_zero → yk
open Int renaming toNat_natCast → yd,natCast_nonneg → ys,lt_irrefl → yA
open Nat renaming le_refl → yg,lt_of_lt_of_le → yi,reduceAdd → yv,reduceSub → yw,zero_le → yC
open Option renaming bind_eq_some_iff → yp
namespace Go.Proofs
open Go.RowKit Go.Maps Go.Sort Go.Shelf
attribute [local go_sem] Oper.semAt_some
structure LiesAt (w : World) (B o : Nat) (ad : Option Addr) (c : Nat) (zs : List Int) : Prop where
 box : B < w.heap.size ∧ w.cell? ⟨B,o,none⟩ = some (.slice ad zs.length c)
 row : zs ≠ [] → ∃ blk off,ad = some ⟨blk,off,none⟩ ∧ blk < w.heap.size ∧ ∀ (j : Nat) x,zs[j]? = some x → w.cell? ⟨blk,off + j,none⟩ = some (.int .i64 x)
theorem LiesAt.later {w W : World} {B o : Nat} {ad : Option Addr} {c : Nat} {zs : List Int} (h : LiesAt w B o ad c zs) (hb : Below w.heap.size w W) : LiesAt W B o ad c zs:=by
 have hc : ∀ b i,b < w.heap.size → W.cell? ⟨b,i,none⟩ = w.cell? ⟨b,i,none⟩:=fun b i h => by unfold World.cell?; rw [hb.block b h]
 refine ⟨⟨yi h.box.1 hb.size,by rw [hc _ _ h.box.1]; exact h.box.2⟩,fun hz => ?_⟩
 obtain ⟨blk,off,h1,h2,h3⟩:=h.row hz
 exact ⟨blk,off,h1,yi h2 hb.size,fun j x hj => by rw [hc _ _ h2]; exact h3 j x hj⟩
set_option maxRecDepth 100000 in
set_option maxHeartbeats 2000000 in
theorem Tryz.values1 (F : Fence) (n : Nat) (h7 : F.fn 177) (hro : F.round = none) (hn : 1 ≤ n) (l B o : Nat) (ad : Option Addr) (c : Nat) (zs : List Int) (hzl : zs.length ≤ 4294967296) (w0 : World) (hL : LiesAt w0 B o ad c zs) (J : List Int → World → Prop) (hJb : ∀ s W',J s W' → Below w0.heap.size w0 W')
  (hY : ∀ pre x W1,J pre W1 → pre.length < zs.length → YieldAt F (n - 1) Tryz.prog l #[encZ x] W1 fun e W' => e = .returned (.bool true) ∧ J (pre ++ [x]) W' ∧ KeepsWalks W1 W')
  (W : World) (h0 : J [] W) :
  CallsIn F n Tryz.prog 177 #[.func (.yield l) #[] #[],.pointer (some ⟨B,o,none⟩)] W fun e W' => (∃ v,e = .returned v) ∧ J zs W':=by
 have hBs : W.cell? ⟨B,o,none⟩ = some (.slice ad zs.length c):=(hL.later (hJb _ _ h0)).box.2
 refine callsIn_of_wp Tryz.func177 rfl h7 ?_ hro
 simp only [Tryz.ntmps177,yn,yq,yt,yv,yw,yj,yk,yo,yl,yu,yr]
 gi_wp2
 gi_loopw [7] (fun i wr => ∃ k : Nat,k ≤ zs.length ∧ i = .int .i64 k ∧ J (zs.take k) wr) (fun i _ => match i with | .int _ k => zs.length - k.toNat | _ => 0)
 case atStart => exact ⟨0,yC _,rfl,h0⟩
 case round =>
  obtain ⟨k,hk,rfl,hJs⟩:=hrel
  by_cases hlt : k < zs.length
  ·obtain ⟨blk,off,rfl,hblk,hrow⟩:=(hL.later (hJb _ _ hJs)).row (fun e => by subst e; simp at hlt)
   have hcell:=hrow k zs[k] (by simp [hlt])
   obtain ⟨fn,tmps,assign,body,hy,hR⟩:=hY (zs.take k) zs[k] _ hJs (by simp; omega)
   clear hrow hL hBs
   gi_wp2
   refine hR.mono ?_
   rintro e W3 ⟨rfl,hJ3,hk3⟩
   gi_wp2
   go_roundw
   case rel => exact ⟨k + 1,by omega,by go_num,by rw [List.take_succ_eq_append_getElem hlt]; exact hJ3⟩
   case measure =>
    show zs.length - ((k : Int) + 1).toNat < zs.length - (k : Int).toNat
    omega
  ·have : k = zs.length:=by omega
   subst this
   gi_wp2
   go_end0
   exact ⟨⟨_,rfl⟩,by simpa using hJs⟩
def zAC (F : Fence) (n : Nat) (P : Program) (g : Nat) (lb : Array Value) (zs : List Int) (w : World) : Prop :=
 ∀ (l : Nat) (J : List Int → World → Prop) (W : World),(∀ s W',J s W' → Below w.heap.size w W') →
   (∀ pre x W1,J pre W1 → pre.length < zs.length → YieldAt F (n - 1) P l #[encZ x] W1 fun e W' => e = .returned (.bool true) ∧ J (pre ++ [x]) W' ∧ KeepsWalks W1 W') →
   J [] W →
   CallsIn F n P g (#[.func (.yield l) #[] #[]] ++ lb) W fun e W' => (∃ v,e = .returned v) ∧ J zs W'
theorem Tryz.values_gives (F : Fence) (n : Nat) (h7 : F.fn 177) (hro : F.round = none) (hn : 1 ≤ n) (B o : Nat) (ad : Option Addr) (c : Nat) (zs : List Int) (hzl : zs.length ≤ 4294967296) (w0 : World) (hL : LiesAt w0 B o ad c zs) :
 zAC F n Tryz.prog 177 #[.pointer (some ⟨B,o,none⟩)] zs w0:=fun l J W hJb hY h0 => Tryz.values1 F n h7 hro hn l B o ad c zs hzl w0 hL J hJb hY W h0
variable {P : Program} {ρ : Ren}
set_option maxRecDepth 100000 in
set_option maxHeartbeats 4000000 in
theorem zte (L : SlLaysZI.n11 P ρ) (F : Fence) (n : Nat) (h11 : F.fn (ρ.f 11)) (hro : F.round = none) (hn : 2 ≤ n) (g : Nat) (lb : Array Value) (hFg : F.fn g) (eg : ∀ args w,(callFunc g args).run P w = .ok (.enter g args) w)
  (zs : List Int) (hN : zs.length ≤ maxLen) (hNb : zs.length * 8 ≤ 140737488355328) (w : World) (hseq : zAC F (n - 1) P g lb zs w) :
  CallsIn F n P (ρ.f 11) #[.slice none 0 0,.func (.func g) #[] lb] w fun e w' => ∃ v : Value,e = .returned v ∧ w'.ownsRow w.heap.size (ρ.t 26) 1 v zs.length (zs.map encZ) ∧ (v = .slice none 0 0 ↔ zs = []) ∧ Below w.heap.size w w':=by
 have h1 : 1 ≤ n:=by omega
 have mixed:=L.mixed; have t0:=L.t0; have a0:=L.a0; have z0:=L.z0; have v0:=L.v0; have t24:=L.t24; have a24:=L.a24; have z24:=L.z24; have v24:=L.v24; have t26:=L.t26; have a26:=L.a26; have z26:=L.z26; have v26:=L.v26; have t28:=L.t28; have a28:=L.a28; have z28:=L.z28; have v28:=L.v28
 have hne : ρ.t 24 ≠ ρ.t 26:=fun e => by have h:=L.t24; rw [e,L.t26] at h; cases h
 have u0:=run_underlying L.t0; have u24:=run_underlying L.t24; have u26:=run_underlying L.t26; have u28:=run_underlying L.t28
 obtain ⟨_,_,FG⟩:=L.f11
 refine callsIn_of_wp_marks FG rfl h11 ?_ hro
 simp only [SlBodyZ.n11_ntmps ρ,yn,yq,yt,yv,yw,yj,yk,yo,yl,yu,yr]
 gi_wp2
 refine wpIn_rangeFunc ?_
 intro fn hfn
 rw [hro]
 obtain ⟨W0,hW0⟩ : ∃ W0,w.alloc (.cells #[.slice none 0 0] (ρ.t 24)) = W0:=⟨_,rfl⟩
 have hs0 : W0.heap.size = w.heap.size + 1:=by rw [← hW0]; simp
 have hv0 : W0.heap[w.heap.size]? = some (.cells #[.slice none 0 0] (ρ.t 24) (0,0)):=by rw [← hW0]; exact World.alloc_heap_new w _
 have hb0 : Below w.heap.size w W0:=by rw [← hW0]; exact (Below.refl _ w).alloc (yg _) _
 rw [hW0]
 let rec0:=AnyZI.apRec ρ fn (.func (.func g) #[] lb) w.heap.size W0.heap.size .ready none
 obtain ⟨W1,hW1⟩ : ∃ W1,(W0.alloc (.deferred (some []))).alloc (.loop rec0) = W1:=⟨_,rfl⟩
 have hold : ∀ k,k < W0.heap.size → W1.heap[k]? = W0.heap[k]?:=fun k hk => by
  rw [← hW1]; exact (Below.heap_alloc _ _ k (by simp; omega)).trans (Below.heap_alloc _ _ k hk)
 have hb1 : Below w.heap.size w W1:=by rw [← hW1]; exact (hb0.alloc hb0.size _).alloc (by have:=hb0.size; simp; omega) _
 have hs1 : W1.heap.size = W0.heap.size + 2:=by rw [← hW1]; simp
 have hM : AnyZI.ApAt ρ w fn (.func (.func g) #[] lb) w.heap.size (W0.heap.size + 1) W0.heap.size [] W1 :=
  ⟨⟨_,(hold w.heap.size (by omega)).trans hv0,⟨rfl,.inl ⟨rfl,rfl⟩⟩,by simp⟩,
   by rw [← hW1]; have:=World.alloc_heap_new (W0.alloc (.deferred (some []))) (.loop rec0); rwa [World.size_alloc] at this,
   by rw [← hW1]; exact (Below.heap_alloc _ _ _ (by simp)).trans (World.alloc_heap_new W0 _),hb1⟩
 refine ⟨W0.heap.size + 1,[{ target:=.collected W0.heap.size,args:=#[] }],W1,{ target:=.fn (.func g) lb,args:=#[.func (.yield (W0.heap.size + 1)) #[] #[]] },W1,g,
  #[.func (.yield (W0.heap.size + 1)) #[] #[]] ++ lb,W1,?_,?_,?_,?_,fun _ => h1,?_⟩
 ·rw [← hW1]; exact run_enterLoop_outer _ _ _ _ _
 ·simp [resolve,go_sem]
 ·intro f' hf'; simp [Target.leads] at hf'; subst hf'; exact hFg
 ·simp [invoke,go_sem,eg]
 ·refine (hseq (W0.heap.size + 1) (AnyZI.ApAt ρ w fn (.func (.func g) #[] lb) w.heap.size (W0.heap.size + 1) W0.heap.size) W1 (fun s W' h => h.below)
   (fun pre x W hJ hl => AnyZI.apYield { L with } F (n - 1 - 1) w fn hfn _ w.heap.size (W0.heap.size + 1) W0.heap.size (by omega) (by omega) (by omega) (yg _) (by omega) zs.length hN hNb pre x W hJ hl) hM).mono ?_
  rintro e W2 ⟨⟨v0,rfl⟩,h2⟩
  obtain ⟨v,hv,hrow,hnil⟩:=h2.box
  have hend:=run_endLoop (P:=P) h2.L (by simp [AnyZI.apRec])
  obtain ⟨W3,hW3⟩ : ∃ W3,W2.putObj (W0.heap.size + 1) (.loop { rec0 with state:=.exhausted }) = W3:=⟨_,rfl⟩
  have hend':=hend
  rw [show W2.putObj (W0.heap.size + 1) (.loop { rec0 with state:=.exhausted }) = W3 from hW3] at hend'
  have hg3 : W2.grownBy W3 (some (W0.heap.size + 1)):=by rw [← hW3]; exact grownBy_putObj_a _ _ _
  have hv3 : W3.heap[w.heap.size]? = some (.cells #[v] (ρ.t 24) (0,0)):=by rw [← hW3]; exact (World.putObj_heap_other (by omega)).trans hv
  have hK3 : W3.heap[W0.heap.size]? = some (.deferred (some [])):=by rw [← hW3]; exact (World.putObj_heap_other (by omega)).trans h2.K
  have hrow3:=hrow.kept hg3 (ownsRow_ne_a hrow h2.L (fun cur e => by first | cases e | exact hne (Obj.cells.inj e).2.1))
  have hb3 : Below w.heap.size w W3:=h2.below.grown hg3 h2.below.size (fun k e => by cases e; omega)
  obtain ⟨hc3,hf3⟩:=cell_of_box_a hv3
  clear hW3
  refine ⟨none,W3,hend',?_⟩
  gi_wp2
  rw [← hs0]
  refine ⟨by simp,.inl ⟨_,_,rfl,run_takeDeferred hK3,?_⟩⟩
  exact ⟨_,results_tmp rfl _ _ _,v,rfl,hrow3.kept (grownBy_putObj_a _ _ _) (ownsRow_ne_a hrow3 hK3 (fun cur e => by first | cases e | exact hne (Obj.cells.inj e).2.1)),hnil,hb3.grown (grownBy_putObj_a _ _ _) hb3.size (fun k e => by cases e; omega)⟩
set_option maxHeartbeats 1000000 in
theorem zsf (L : SlLaysZI.n8 P ρ) (F : Fence) (n : Nat) (h8 : F.fn (ρ.f 8)) (h11 : F.fn (ρ.f 11)) (hro : F.round = none) (hn : 3 ≤ n) (g : Nat) (lb : Array Value) (hFg : F.fn g) (eg : ∀ args w,(callFunc g args).run P w = .ok (.enter g args) w)
  (zs : List Int) (hN : zs.length ≤ maxLen) (hNb : zs.length * 8 ≤ 140737488355328) (w : World) (hseq : zAC F (n - 1 - 1) P g lb zs w) :
  CallsIn F n P (ρ.f 8) #[.func (.func g) #[] lb] w fun e w' => ∃ v : Value,e = .returned v ∧ w'.ownsRow w.heap.size (ρ.t 26) 1 v zs.length (zs.map encZ) ∧ (v = .slice none 0 0 ↔ zs = []) ∧ Below w.heap.size w w':=by
 have h1 : 1 ≤ n:=by omega
 have e11 : ∀ args w,(callFunc (ρ.f 11) args).run P w = .ok (.enter (ρ.f 11) args) w:=L.f11.enters rfl
 have mixed:=L.mixed; have t0:=L.t0; have a0:=L.a0; have z0:=L.z0; have v0:=L.v0; have t24:=L.t24; have a24:=L.a24; have z24:=L.z24; have v24:=L.v24; have t26:=L.t26; have a26:=L.a26; have z26:=L.z26; have v26:=L.v26; have t28:=L.t28; have a28:=L.a28; have z28:=L.z28; have v28:=L.v28
 have u0:=run_underlying L.t0; have u24:=run_underlying L.t24; have u26:=run_underlying L.t26; have u28:=run_underlying L.t28
 obtain ⟨_,_,FG⟩:=L.f8
 refine callsIn_of_wp FG rfl h8 ?_ hro
 simp only [SlBodyZ.n8_ntmps ρ,yn,yq,yt,yv,yw,yj,yk,yo,yl,yu,yr]
 gi_wp2_with (gi_at_fn (ρ.f 11); refine (zte { L with } F (n - 1) h11 hro (by omega) g lb hFg eg zs hN hNb _ hseq).mono ?_; rintro e w' ⟨v,rfl,hrow,hnil,hb⟩)
 go_ret
 exact ⟨v,rfl,hrow,hnil,hb⟩
set_option maxRecDepth 100000 in
set_option maxHeartbeats 2000000 in
theorem ztH (L : SlLaysZI.n6 P ρ) (F : Fence) (n : Nat) (h6 : F.fn (ρ.f 6)) (h8 : F.fn (ρ.f 8)) (h9 : F.fn (ρ.f 9)) (h11 : F.fn (ρ.f 11)) (hro : F.round = none) (hn : 4 ≤ n) (hsort : AnyZI.SortsIn P ρ F (n - 1)) (e9 : ∀ args w,(callFunc (ρ.f 9) args).run P w = .ok (.enter (ρ.f 9) args) w) (g : Nat) (lb : Array Value) (hFg : F.fn g) (eg : ∀ args w,(callFunc g args).run P w = .ok (.enter g args) w)
  (zs : List Int) (hN : zs.length ≤ maxLen) (hNb : zs.length * 8 ≤ 140737488355328) (w : World) (hseq : zAC F (n - 1 - 1 - 1) P g lb zs w) :
  CallsIn F n P (ρ.f 6) #[.func (.func g) #[] lb] w fun e w' => ∃ v : Value,e = .returned v ∧ w'.ownsRow w.heap.size (ρ.t 26) 1 v zs.length ((zs.mergeSort (fun x y => decide (x ≤ y))).map encZ) ∧ (v = .slice none 0 0 ↔ zs = []) ∧ Below w.heap.size w w':=by
 have h1 : 1 ≤ n:=by omega
 have e8 : ∀ args w,(callFunc (ρ.f 8) args).run P w = .ok (.enter (ρ.f 8) args) w:=L.f8.enters rfl
 have mixed:=L.mixed; have t0:=L.t0; have a0:=L.a0; have z0:=L.z0; have v0:=L.v0; have t24:=L.t24; have a24:=L.a24; have z24:=L.z24; have v24:=L.v24; have t26:=L.t26; have a26:=L.a26; have z26:=L.z26; have v26:=L.v26; have t28:=L.t28; have a28:=L.a28; have z28:=L.z28; have v28:=L.v28
 have u0:=run_underlying L.t0; have u24:=run_underlying L.t24; have u26:=run_underlying L.t26; have u28:=run_underlying L.t28
 obtain ⟨_,_,FG⟩:=L.f6
 refine callsIn_of_wp FG rfl h6 ?_ hro
 simp only [SlBodyZ.n6_ntmps ρ,yn,yq,yt,yv,yw,yj,yk,yo,yl,yu,yr]
 gi_wp2_with (gi_at_fn (ρ.f 8); refine (zsf { L with } F (n - 1) h8 h11 hro (by omega) g lb hFg eg zs hN hNb _ hseq).mono ?_; rintro e W ⟨v,rfl,hrow,hnil,hb⟩)
 rcases hrow.2 with ⟨rfl,hz⟩ | ⟨gb,cap,cur,rfl,hbase,hgb,r1,r2,r3,r4⟩
 ·have hss : zs = []:=yf hz
  subst hss
  gi_wp2_with (gi_at_fn (ρ.f 9); refine (hsort.2 none 0 W).mono ?_; rintro e w' ⟨rfl,rfl⟩)
  go_ret
  exact ⟨.slice none 0 0,rfl,by simpa using hrow,by simp,hb⟩
 ·have hH : Holds encZ W gb 0 zs.toArray:=holds_of_block_i hgb (by simpa using r4)
  have hgl : gb < W.heap.size:=(yc.1 hgb).1
  have hsz : zs.length < 4611686018427387904:=by omega
  have cS:=hsort.1 gb 0 cap zs W hH hgl hsz
  gi_wp2_with (gi_at_fn (ρ.f 9); refine cS.mono ?_; rintro e w' ⟨rfl,nn,os,rfl⟩)
  go_ret
  exact ⟨_,rfl,ownsRow_sorted_i (by simp) hbase hgb r1 r2 r3,hnil,hb.grown (grownBy_sorted_i _) hb.size (fun j hj => by cases hj; exact hbase)⟩
theorem Tryz.sorts (m : Nat) : AnyZI.SortsIn Tryz.prog Tryz.sorted_ren Fence.wide m :=
 ⟨fun blk off cap ss W hH hblk hsz => callsIn_wide.2 (AnyM.slices_Sort_int Tryz.sort blk off cap ss W hH hblk hsz),
  fun p cap W => callsIn_wide.2 (AnyM.slices_Sort_int_none Tryz.sort p cap W)⟩
end Go.Proofs
namespace Go.A
open Go.RowKit (Below)
section
variable {g : G} {w w' : World} {σ : zd}
theorem zCA (R : Rel g w σ) (hB : Below w.heap.size w w') {gb : Nat} {cur : Array Value} {t : TypeId} (hgb : w'.heap[gb]? = some (.cells cur t (0,0))) (hbase : w.heap.size ≤ gb) {l : List Int} (hl : l.length ≤ cur.size) (hc : ∀ (j : Nat) x,l[j]? = some x → cur[j]? = some (.int .i64 x)) :
  Ext g w σ (g.own σ.length gb) w' (σ ++ [.cells 0 1 (l.map zj)]) ∧ Rel (g.own σ.length gb) w' (σ ++ [.cells 0 1 (l.map zj)]):=by
 have hρ : ∀ id,id < σ.length → (g.own σ.length gb).ρ id = g.ρ id:=fun id h => zaF g.ρ (k:=σ.length) (i:=id) _ (by omega)
 have hw : ∀ b,b < w.heap.size → (g.own σ.length gb).ow b = g.ow b:=fun b h => zaF g.ow (k:=gb) (i:=b) _ (by omega)
 have H : Ext g w σ (g.own σ.length gb) w' (σ ++ [.cells 0 1 (l.map zj)]):={
  os:=hB.os
  tape:=hB.tape
  output:=hB.output
  size:=hB.size
  keeps:=fun b i h => ⟨h,by unfold World.cell?; rw [hB.block b (R.nb b i h)]⟩
  len:=by simp
  shape:=fun id ver sz len h => by
   obtain ⟨es,h1,h2⟩:=zaR h
   have hlt:=zb h1
   refine .inl ⟨by unfold shapeOf; rw [ya hlt]; exact h,hρ id hlt,fun _ arr t ha => ⟨arr,?_,rfl⟩⟩
   rw [hB.block _ (yc.1 ha).1]
   exact ha
  map:=fun id es h => ⟨hρ id (zb h),es,by rw [ya (zb h)]; exact h⟩
  tok:=fun t k n h => by
   obtain ⟨sz,fr,h1,h2⟩:=zcX h
   exact ⟨n,zdD (by rw [ya (zb h1)]; exact h1) h2,yg _,fun _ => rfl⟩
  tsz:=fun t sz h => by
   obtain ⟨fr,h1⟩:=zez h
   exact zce (fr:=fr) (by rw [ya (zb h1)]; exact h1)
  ow:=hw
  new:=fun b i h _ _ => h
  frame:=fun b hb _ => hB.block b hb }
 refine ⟨H,⟨fun b i h => yi (R.nb b i h) hB.size,fun id x h => ?_⟩⟩
 by_cases hlt : id < σ.length
 ·rw [ya hlt] at h
  exact zcV H (hρ id hlt) (fun _ => rfl) (fun b hb _ => ⟨hB.block b hb,hw b hb,fun _ h => h⟩) (R.ob id x h)
 ·have hid : id = σ.length:=by
   have:=zb h
   simp at this
   omega
  subst hid
  simp at h
  subst h
  intro _
  have e1 : (g.own σ.length gb).ρ σ.length = gb:=by simp [G.own]
  have e2 : (g.own σ.length gb).ow gb = .ob σ.length:=by simp [G.own]
  rw [e1]
  refine ⟨e2,fun o h => by have:=R.nb _ _ h; omega,cur,t,hgb,by simpa using hl,fun i e he => ?_⟩
  rw [yh,Option.map_eq_some_iff] at he
  obtain ⟨x,hx,rfl⟩:=he
  refine ⟨rfl,fun j c hcc => ?_⟩
  cases j with
  | succ j => simp [zj] at hcc
  | zero =>
    simp [zj] at hcc
    subst hcc
    exact ⟨.int .i64 x,by simpa using hc i x hx,by simp [zw,rep,zxA],rfl⟩
end
theorem znp : ∀ {xs : List (List Fz)} {l : List Int},zga xs = some l → xs = l.map zxz
 | [],l,h => by simp [zga] at h; subst h; rfl
 | x :: xs,l,h => by
   simp only [zga] at h
   unfold zfE at h
   split at h
   ·rename_i a0 bs h1 h2
    injection h with h
    subst h
    rw [znp h2]
    unfold zvt at h1
    split at h1
    ·injection h1 with h1; subst h1; rfl
    ·cases h1
   ·cases h
end Go.A
namespace Go.Proofs
open Go.RowKit Go.Maps Go.Sort Go.Shelf
open Go.A in
theorem Tryz.ext_sorted (args : List V) (σ : zd) (v : V) (σ' : zd) (h : zgW 177 args σ = some (v,σ')) :
  Go.A.Enters Tryz.prog 145 ∧ ∀ g w us,Rel g w σ → zz g w σ args us → Calls Tryz.prog 145 us.toArray w fun e w' => ∃ u g',e = .returned u ∧ zf g' w' σ' v u ∧ Rel g' w' σ' ∧ Ext g w σ g' w' σ':=by
 refine ⟨⟨Tryz.f145,_,Tryz.func145,by kernel_rfl,rfl⟩,fun g w us R0 hv => ?_⟩
 unfold zgW at h
 split at h
 ·rename_i f oid ver i o
  split at h
  ·rename_i hf
   obtain ⟨rfl,rfl⟩:=hf
   unfold zlI at h
   split at h
   ·rename_i xs hcell
    rw [yp] at h
    obtain ⟨l,hl,h⟩:=h
    have hx:=znp hl
    subst hx
    unfold zmw at h
    split at h
    ·rename_i hlim
     injection h with h
     simp only [Prod.mk.injEq] at h
     obtain ⟨rfl,rfl⟩:=h
     simp only [zz,zf,zw,zv] at hv
     obtain ⟨u,rest,rfl,⟨fs,cs,rfl,hfs,p,ps,hcs,hp,rfl⟩,rfl⟩:=hv
     unfold zd.cell zd.elem at hcell
     rw [yp] at hcell
     obtain ⟨el,hel,hc0⟩:=hcell
     rw [yp] at hel
     obtain ⟨ob,hob,hel⟩:=hel
     cases ob with
     | tok _ _ => simp [Ob.elem] at hel
     | mp _ => simp [Ob.elem] at hel
     | cells ver' sz es =>
       simp only [Ob.elem] at hel
       split at hel
       ·rename_i hver
        subst hver
        have hne : es ≠ []:=fun e => by subst e; simp at hel
        obtain ⟨_,_,arr,t,hheap,_,hrow⟩:=R0.ob oid _ hob hne
        obtain ⟨hlen,hj⟩:=hrow i el hel
        obtain ⟨u,hu1,hu2,_⟩:=hj 0 _ hc0
        simp only [zw,rep] at hu2
        obtain ⟨ad,c,sz',rfl,_,hla,hrep⟩:=hu2
        obtain ⟨v0,sz0,len0,hshape,_,hpt,_⟩:=hp
        have hsh:=zn hob
        rw [hsh] at hshape
        injection hshape with hshape
        simp only [Prod.mk.injEq] at hshape
        obtain ⟨rfl,rfl,rfl⟩:=hshape
        have hpv:=hpt rfl
        subst hpv
        have hfs' : fs = #[]:=by cases fs; simpa using hfs
        have hcs' : cs = #[.pointer (some ⟨g.ρ oid,i * sz + 0,none⟩)]:=by cases cs; simpa using hcs
        subst hfs' hcs'
        have hlt : g.ρ oid < w.heap.size:=(yc.1 hheap).1
        have hw : w.cell? ⟨g.ρ oid,i * sz + 0,none⟩ = some (.slice ad l.length c):=by
         unfold World.cell?
         rw [hheap]
         simpa using hu1
        have hL : LiesAt w (g.ρ oid) (i * sz + 0) ad c l:=⟨⟨hlt,hw⟩,fun hz => by
         rcases hrep with hrep | ⟨b,o,rfl,hrep⟩
         ·exact absurd (List.map_eq_nil_iff.1 hrep) hz
         ·have hs1 : sz' = 1:=by
           cases l with
           | nil => exact absurd rfl hz
           | cons x r => simp only [List.map_cons,zbO] at hla; rw [← hla.1]; rfl
          subst hs1
          have hget : ∀ (j : Nat) x,l[j]? = some x → g.N b (o + j) ∧ w.cell? ⟨b,o + j,none⟩ = some (.int .i64 x):=fun j x hj => by
           have h1:=zfb hrep (i:=j) (e:=zxz x) (by simp [hj])
           obtain ⟨u,n1,n2,n3⟩:=zfF h1 (j:=0) (x:=.lit (.int .i64 x)) (by simp [zxz])
           simp only [rep] at n3
           rw [Nat.mul_one,Nat.add_zero] at n1 n2
           exact ⟨n1,by rw [n2,n3.1]⟩
          obtain ⟨x,r,rfl⟩ : ∃ x r,l = x :: r:=by
           cases l with
           | nil => exact absurd rfl hz
           | cons x r => exact ⟨x,r,rfl⟩
          exact ⟨b,o,rfl,R0.nb b _ (hget 0 x (by simp)).1,fun j x hj => (hget j x hj).2⟩⟩
        unfold LIM at hlim
        have cS:=ztH Tryz.sorted Fence.wide 5 trivial trivial trivial trivial rfl (by omega) (Tryz.sorts _) (enters_of Tryz.func117 (by kernel_rfl) rfl) 177 #[.pointer (some ⟨g.ρ oid,i * sz + 0,none⟩)] trivial (enters_of Tryz.func177 (by kernel_rfl) rfl) l (by unfold maxLen; omega) (by omega) w (Tryz.values_gives Fence.wide 2 trivial rfl (by omega) _ _ ad c l hlim w hL)
        have cS':=callsIn_wide.1 cS
        refine Calls.mono (f:=145) cS' fun e w' he => ?_
        obtain ⟨v,rfl,hrw,hnil,hB⟩:=he
        have hslen : (zbX l).length = l.length:=List.length_mergeSort l
        rcases hrw.2 with ⟨rfl,hz⟩ | ⟨gb,cap,cur,rfl,hbase,hgb,r1,r2,r3,r4⟩
        ·have hl0 : l = []:=yf hz
         subst hl0
         obtain ⟨H,R1⟩:=zz0 R0 hB
         obtain ⟨H2,R2⟩:=zn7 R1 1
         refine ⟨_,_,rfl,?_,by simpa [zbX] using R2,by simpa [zbX] using H.trans H2⟩
         simp only [zf,zw]
         exact ⟨0,1,0,by simp [shapeOf,zbX,Ob.shape],yg _,fun _ => ⟨none,0,rfl,yg _,fun _ => rfl,fun h => absurd rfl h⟩,_,_,rfl⟩
        ·have hcur : ∀ (j : Nat) x,(zbX l)[j]? = some x → cur[j]? = some (.int .i64 x):=fun j x hj => by
          have hjl : j < l.length:=by rw [← hslen]; exact (List.getElem?_eq_some_iff.1 hj).1
          have h1 : (cur.toList.take (l.length * 1))[j]? = some (.int .i64 x):=by
           rw [r4,yh]
           have : (l.mergeSort fun x y => decide (x ≤ y))[j]? = some x:=hj
           rw [this]
           rfl
          rw [yy,if_pos (by omega)] at h1
          simpa using h1
         obtain ⟨H,R1⟩:=zCA R0 hB hgb hbase (l:=zbX l) (by rw [hslen]; omega) hcur
         refine ⟨_,_,rfl,?_,R1,H⟩
         simp only [zf,zw]
         have e1 : (g.own σ.length gb).ρ σ.length = gb:=by simp [G.own]
         refine ⟨0,1,l.length,by simp [shapeOf,Ob.shape,hslen],yg _,fun _ => ⟨some ⟨gb,0,none⟩,cap,rfl,r1,fun h => ?_,fun h => ⟨by omega,fun _ => by rw [e1],cur,_,by rw [e1]; exact hgb,by omega⟩⟩,_,_,rfl⟩
         have:=hnil.2 (yf h)
         cases this
       ·cases hel
    ·cases h
   ·cases h
  ·cases h
 ·cases h
end Go.Proofs
namespace AC
open Go Go.A
def zC8 (x : Int) : List Int → List Int
 | [] => [x]
 | y :: r => if x ≤ y then x :: y :: r else y :: zC8 x r
def zCs : List Int → List Int
 | [] => []
 | x :: r => zC8 x (zCs r)
theorem zps (x : Int) : ∀ l,(zC8 x l).Perm (x :: l)
 | [] => .refl _
 | y :: r => by
   rw [zC8]
   split
   ·exact .refl _
   ·exact ((zps x r).cons y).trans (.swap x y r)
theorem zsQ : ∀ l,(zCs l).Perm l
 | [] => .refl _
 | x :: r => (zps x (zCs r)).trans ((zsQ r).cons x)
theorem zpd (x : Int) : ∀ l,l.Pairwise (fun a b => a ≤ b) → (zC8 x l).Pairwise (fun a b => a ≤ b)
 | [],_ => by simp [zC8]
 | y :: r,h => by
   rw [ym] at h
   rw [zC8]
   split
   ·rename_i c
    rw [ym]
    refine ⟨fun z hz => ?_,ym.2 h⟩
    rcases yB.1 hz with rfl | hz
    ·exact c
    ·exact Int.le_trans c (h.1 z hz)
   ·rename_i c
    rw [ym]
    refine ⟨fun z hz => ?_,zpd x r h.2⟩
    rcases yB.1 ((zps x r).subset hz) with rfl | hz
    ·omega
    ·exact h.1 z hz
theorem zo8 : ∀ l,(zCs l).Pairwise (fun a b => a ≤ b)
 | [] => by simp [zCs]
 | x :: r => zpd x _ (zo8 r)
theorem zsx (l : List Int) : zbX l = zCs l:=by
 have h1 : (zbX l).Pairwise (fun a b => decide (a ≤ b) = true):=List.pairwise_mergeSort (fun a b c h1 h2 => by simp only [decide_eq_true_eq] at *; omega) (fun a b => by simp only [Bool.or_eq_true,decide_eq_true_eq]; omega) l
 refine List.Perm.eq_of_pairwise (le:=fun a b => a ≤ b) (fun a b _ _ h1 h2 => by omega) (h1.imp fun h => by simpa using h) (zo8 l) ?_
 exact (List.mergeSort_perm l _).trans (zsQ l).symm
def zot (σ : zd) (l : List Int) : Option (V × zd) :=
 if l.length ≤ LIM then some (.one (.own σ.length 0 0 l.length),σ ++ [.cells 0 1 ((zCs l).map zj)]) else none
def zoQ (σ : zd) : Option C → Option (V × zd)
 | some (.f (.sl xs)) => (zga xs).bind (zot σ)
 | _ => none
def znb (fv : Nat) : List V → zd → Option (V × zd)
 | [.one (.fn g [] [.ptr id ver i o])],σ => if g = fv ∧ o = 0 then zoQ σ (σ.cell id ver i 0) else none
 | _,_ => none
def zrc (σ : zd) (id ver : Nat) (l : List Int) : V × zd:=(.tup [],σ.set id (.cells ver 1 ((zCs l).map zj)))
def zrS : List V → zd → Option (V × zd)
 | [.one (.f (.sl []))],σ => some (.tup [],σ)
 | [.one (.own id ver 0 n)],σ => ((σ[id]?).bind (zhE ver n)).map (zrc σ id ver)
 | _,_ => none
theorem zuf : zmw = zot:=by funext σ l; simp only [zmw,zot,zsx]
theorem zue : zlI = zoQ:=by
 funext σ c
 unfold zlI zoQ
 rw [zuf]
 rfl
theorem ztl (fv : Nat) : zgW fv = znb fv:=by
 funext a σ
 unfold zgW znb
 rw [zue]
 rfl
theorem zxo : zpu = zrc:=by funext σ id ver l; simp only [zpu,zrc,zsx]
theorem zwL : zlj = zrS:=by
 funext a σ
 unfold zlj zrS
 rw [zxo]
 rfl
def T' (n : Nat) : Option Entry:=if n = 62 then some (.ext (zlT 5)) else if n = 118 then some (.ext zff) else if n = 181 then some (.ext (zh6 1)) else if n = 117 then some (.ext zrS) else if n = 145 then some (.ext (znb 177)) else zuJ tab n
theorem zFX : T = T':=by
 funext n
 unfold T T'
 rw [zwL,ztl]
set_option maxRecDepth 100000 in
theorem zus : zfy T' (zN T' 20000) 15 [] [] = some (ziV true,[]):=by kernel_rfl
theorem zC6 : call T 15 [] [] = some (ziV true,[]):=by
 refine zkh T 20000 _ _ _ _ ?_
 rw [zFX]
 exact zus
end AC
namespace AC
open Go Go.A Go.A.Lex
theorem znN (g : Int → Int) : ∀ (l : List Int) (n : Int),l.foldl (fun n k => max n (g k + 1)) (n + 1) = l.foldl (fun n k => max n (g k)) n + 1
 | [],_ => rfl
 | x :: l,n => by
   rw [yx,yx,← znN g l (max n (g x))]
   congr 1
   omega
theorem zoX : ∀ (r : List (List Int)) (out : List Int),zza out → zza (zc2 out r)
 | [],_,h => h
 | l :: r,out,h => by rw [zc2]; exact zoX r _ (h.step l)
theorem zwA {b : PBlock} (h1 : OneDef b.ops) : zza (zfz b):=zoX _ _ fun v hv => by simp at hv
section
variable (f : PFunc) (k : Int) (dl : List Int)
theorem zFn (a : Nat) (ha : a < dl.length) (l : List Int) (hll : l.length ≤ 4294967296) (hl : ∀ x ∈ l,0 ≤ x ∧ x < (a : Int) ∧ dl.getD x.toNat 0 < dl.getD a 0) : ∀ (d j : Nat) (m : Int) (a0 a1 a3 a10 a11 a12 a13 a14 a15 a16 : V),l.length - j = d → j ≤ l.length →
  exec T zau ⟨[a0,a1,.one (.ptr 0 0 0 0),a3,vI k,vIs dl,vI a,vIs l,vI m,vI j,a10,a11,a12,a13,a14,a15,a16],[.cells 0 3 [zcJ f]],0,0⟩ =
   some (.exit 2,⟨[vU,vU,.one (.ptr 0 0 0 0),vU,vI k,vIs dl,vI a,vU,vI ((l.drop j).foldl (fun n x => max n (dl.getD x.toNat 0)) m),vU,vU,vU,vU,vU,vU,vU,vU],[.cells 0 3 [zcJ f]],0,0⟩):=by
 intro d
 induction d with
 | zero =>
   intro j m a0 a1 a3 a10 a11 a12 a13 a14 a15 a16 h1 h2
   have hj : j = l.length:=by omega
   subst hj
   have e : l.drop l.length = []:=by simp
   rw [e,List.foldl_nil,xl zau rfl,zbr]
   simp -implicitDefEqProofs only [go_sem,yA]
 | succ d ih =>
   intro j m a0 a1 a3 a10 a11 a12 a13 a14 a15 a16 h1 h2
   have hj : j < l.length:=by omega
   have hdj : l.drop j = l[j] :: l.drop (j + 1):=List.drop_eq_getElem_cons hj
   obtain ⟨q1,q2,q3⟩:=hl _ (yz hj)
   have g1 : dl[l[j].toNat]? = some (dl.getD l[j].toNat 0):=by rw [yb,ye (by omega)]; rfl
   have g2 : dl[a]? = some (dl.getD a 0):=by rw [yb,ye ha]; rfl
   have c1 : ¬ l[j] < 0:=by omega
   have c2 : ¬ (a : Int) ≤ l[j]:=by omega
   have c3 : ¬ dl.getD a 0 ≤ dl.getD l[j].toNat 0:=by omega
   have:=ih (j + 1) (max m (dl.getD l[j].toNat 0)) vU vU vU vU vU vU vU vU vU vU (by omega) (by omega)
   rw [hdj,yx,xl zau rfl,zbr]
   simp -implicitDefEqProofs only [go_sem] at this
   simp -implicitDefEqProofs only [go_sem,ilt hj,zp hj,ri,c1,c2,c3,q1,g1,g2,yh,ys,yd,za hj hll,this]
theorem zFb (hdl : dl.length ≤ 1000) (l : Nat → List Int) (hc : ∀ a : Nat,a < dl.length → call T 23 [zgS f,vI k,vI a] [] = some (vIs (l a),[]))
  (hl : ∀ a : Nat,a < dl.length → (l a).length ≤ 4294967296 ∧ (∀ x ∈ l a,0 ≤ x ∧ x < (a : Int) ∧ dl.getD x.toNat 0 < dl.getD a 0) ∧ dl.getD a 0 = (l a).foldl (fun n x => max n (dl.getD x.toNat 0)) (-1) + 1 ∧ 0 ≤ dl.getD a 0 ∧ dl.getD a 0 ≤ 1000000) :
  ∀ (d a : Nat) (a0 a1 a3 a7 a8 a9 a10 a11 a12 a13 a14 a15 a16 : V),dl.length - a = d → a ≤ dl.length →
  exec T zaw ⟨[a0,a1,.one (.ptr 0 0 0 0),a3,vI k,vIs dl,vI a,a7,a8,a9,a10,a11,a12,a13,a14,a15,a16],[.cells 0 3 [zcJ f]],0,0⟩ =
   some (.exit 0,⟨[vU,vU,vU,vU,vU,vU,vU,vU,vU,vU,vU,vU,vU,vU,vU,vU,vU],[.cells 0 3 [zcJ f]],0,0⟩):=by
 intro d
 induction d with
 | zero =>
   intro a a0 a1 a3 a7 a8 a9 a10 a11 a12 a13 a14 a15 a16 h1 h2
   have ha : a = dl.length:=by omega
   subst ha
   rw [xl zaw rfl,zbo]
   simp -implicitDefEqProofs only [go_sem,yA]
 | succ d ih =>
   intro a a0 a1 a3 a7 a8 a9 a10 a11 a12 a13 a14 a15 a16 h1 h2
   have ha : a < dl.length:=by omega
   obtain ⟨q1,q2,q3,q4,q5⟩:=hl a ha
   have hca:=hc a ha
   have h0:=fun a0 a1 a3 a10 a11 a12 a13 a14 a15 a16 => zFn f k dl a ha (l a) q1 q2 (l a).length 0 (-1) a0 a1 a3 a10 a11 a12 a13 a14 a15 a16 (by omega) (by omega)
   rw [List.drop_zero] at h0
   have g2 : dl[a]? = some (dl.getD a 0):=by rw [yb,ye ha]; rfl
   have hlt : ((a : Int) < (dl.length : Int)) = True:=by simp; exact ha
   have hw : Go.IntKind.i64.wrap ((l a).foldl (fun n x => max n (dl.getD x.toNat 0)) (-1) + 1) = dl.getD a 0:=by rw [← q3,wrap_i64] <;> omega
   have:=ih (a + 1) vU vU vU vU vU vU vU vU vU vU vU vU vU (by omega) (by omega)
   rw [xl zaw rfl,zbo]
   simp -implicitDefEqProofs only [go_sem] at this hca h0
   simp -implicitDefEqProofs only [go_sem,hlt,hca,h0,g2,yh,ri,hw,ys,yd,za ha (show dl.length ≤ 4294967296 by omega),this]
end
theorem zyl (f : PFunc) (hf : anyF f) (x : Int) (hx : 0 ≤ x ∧ x < 256) : call T 5 [zgS f,.one (.f (.lit (.int .u8 x)))] [] = some (vB true,[]):=by
 rw [ze (fn:=zac) rfl]
 have haw:=zC6
 obtain ⟨sb,hsm,hsb⟩:=zsi f hf
 simp -implicitDefEqProofs only [go_sem] at haw hsm
 cases sb with
 | false => simp -implicitDefEqProofs only [go_sem,zac,haw,hsm]
 | true =>
   have hok:=zAS hf (hsb rfl)
   have hck:=zrz f hok 2
   simp -implicitDefEqProofs only [go_sem] at hck
   by_cases c : zaa f 2 = 0
   ·have hR:=znG.1 c
    have hb:=zgE hR.may
    have hn0 : ¬ (f.blocks.length : Int) = 0:=by omega
    have hwx : Go.IntKind.i64.wrap x = x:=wrap_i64 (by omega) (by omega)
    obtain ⟨k,hk⟩ : ∃ k : Nat,(k : Int) = x.tmod (f.blocks.length : Int):=⟨(x.tmod (f.blocks.length : Int)).toNat,by have:=Int.tmod_nonneg (f.blocks.length : Int) hx.1; omega⟩
    have hkl : k < f.blocks.length:=by have:=Int.tmod_lt_of_pos x (show (0 : Int) < (f.blocks.length : Int) by omega); omega
    have hr2 : zge f k = true:=zk7.2 ⟨by omega,by omega,hR⟩
    have hbk : f.blocks[k]? = some f.blocks[k]:=ye hkl
    have hm:=yz hkl
    have h1:=hR.oneDef hm
    have hsz:=hR.size hm
    have eD : zpn f k = zfz f.blocks[k]:=by unfold zpn; rw [if_pos hr2,yd,hbk]
    have hD:=znU f hok k
    rw [eD] at hD
    have hdl : (zfz f.blocks[k]).length = f.blocks[k].ops.length:=zx0 _
    have h2:=fun a0 a1 a3 a7 a8 a9 a10 a11 a12 a13 a14 a15 a16 => zFb f k (zfz f.blocks[k]) (by omega) (zhd f.blocks[k].ops) (fun a ha => by
     have:=znX f hok k a
     rw [this]
     have : zmk f k a = zhd f.blocks[k].ops a:=by
      unfold zmk
      rw [if_pos ⟨hr2,by omega⟩,yd,yd,hbk]
      show (zfA f.blocks[k]).getD a [] = _
      rw [zrw h1]
      exact getD_map _ _ _ (by omega)
     rw [this]) (fun a ha => by
     have hat:=zAE h1 (a:=a) (by omega)
     have hg : (zfz f.blocks[k]).getD a 0 = zaC (zfz f.blocks[k]) (zhd f.blocks[k].ops a):=by rw [yb,hat]; rfl
     have hmx:=zm0 (g:=fun x => (zfz f.blocks[k]).getD x.toNat 0 + 1) (zhd f.blocks[k].ops a) 0
     have hfs:=znN (fun x => (zfz f.blocks[k]).getD x.toNat 0) (zhd f.blocks[k].ops a) (-1)
     have hlow : zza (zfz f.blocks[k]):=zwA h1
     refine ⟨by have:=znr f.blocks[k].ops a; omega,fun x hx => ?_,?_,?_,?_⟩
     ·have hlt:=zrh hx
      have:=hmx.2 x hx
      rw [hg]
      unfold zaC
      exact ⟨hlt.1,hlt.2,by omega⟩
     ·rw [hg,← hfs]; rfl
     ·exact (zrD hlow a).1
     ·have:=(zrD hlow a).2; omega) (zfz f.blocks[k]).length 0 a0 a1 a3 a7 a8 a9 a10 a11 a12 a13 a14 a15 a16 (by omega) (by omega)
    simp -implicitDefEqProofs only [go_sem] at hD h2
    simp -implicitDefEqProofs only [go_sem,zac,haw,hsm,hck,c,hn0,hwx,← hk,hD,h2,hdl,zp hkl,rb,yh,hbk,ys,yd]
   ·simp -implicitDefEqProofs only [go_sem,zac,haw,hsm,hck,c]
end AC
namespace Go.Proofs
open Go.Shelf Go.RowKit Go.Lib
theorem Tryz.mixed0 : Tryz.prog.follows .mixedOrders = true:=by kernel_rfl
theorem Tryz.infoB : (Tryz.prog.info? 44).map (fun i => (i.zero,i.size,i.bytes)) = some (some (.agg #[.slice none 0 0,.slice none 0 0,.int .i64 0,.int .i64 0,.slice none 0 0]),5,88):=by kernel_rfl
set_option maxHeartbeats 2000000 in
set_option maxRecDepth 100000 in
theorem Tryz.clone_block (b off n c : Nat) (zs : List Value) (w : World) (hz : zs.length = n * 5) (hmax : n ≤ maxLen) (hbig : n * 88 ≤ 140737488355328) (hc : ∀ j u,zs[j]? = some u → w.cell? ⟨b,off + j,none⟩ = some u) (h1 : ∀ u ∈ zs,u.oneCell' = true) :
  Calls Tryz.prog 62 #[.slice (some ⟨b,off,none⟩) n c] w fun e w' => ∃ v',e = .returned v' ∧ w'.ownsRow w.heap.size 44 5 v' n zs ∧ v' ≠ .slice none 0 0 ∧ Below w.heap.size w w':=by
 have mixed:=Tryz.mixed0
 obtain ⟨i0,hi,hz0,hz1,hz2⟩:=info_parts Tryz.infoB
 have t23:=Tryz.underlying23
 have q22 : ∀ (w : World) (a : Option Addr) (n c n' c' : Nat),(binOp .eql 23 (.slice a n c) (.slice none n' c')).run Tryz.prog w = .ok (.bool a.isNone) w:=fun w a n c n' c' => Lib.run_eql_slice_nil w _ _ a n c n' c' t23
 have u22 : ∀ w,Sem.run Tryz.prog (underlying 23) w = .ok (TypeDesc.slice 44) w:=run_underlying t23
 have A : Aside (∀ j u,zs[j]? = some u → w.cell? ⟨b,off + j,none⟩ = some u):=hc
 clear hc
 go_enter Tryz.func62,Tryz.ntmps62
 go_wp2_with (at_builtin; refine wpList_append_own _ rfl _ _ 23 rfl w.heap.size 44 i0 (.agg #[.slice none 0 0,.slice none 0 0,.int .i64 0,.int .i64 0,.slice none 0 0]) 5 88 t23 hi hz0 hz1 hz2 rfl (by decide) _ _ _ rfl (World.ownsRow_made w #[] 0 (yg _) (yC _) rfl) ⟨b,off,none⟩ n c zs rfl ?qc1 ?qc2 ?qc3 ?qc4 ?qc5 ?qc6 ?_)
 case qc1 => exact hz
 case qc2 =>
  intro j u hj
  rw [Addr.add_lit]
  refine Lib.cell?_alloc_some _ ?_
  exact A.out j u hj
 case qc3 => exact h1
 case qc4 => omega
 case qc5 => omega
 case qc6 => simp
 intro v' w1 hown hgrow hnil
 go_wp2
 go_ret
 refine ⟨v',rfl,by simpa using hown,?_,?_⟩
 ·exact hnil
 ·exact ((Below.refl _ w).alloc (yg _) _).grown hgrow (by simp) (by intro k hk; simp [Value.ownBlock] at hk; omega)
end Go.Proofs
namespace Go.A
open Go.RowKit (Below)
section
variable {g : G} {w w' : World} {σ : zd}
theorem zAV (R : Rel g w σ) (hB : Below w.heap.size w w') {gb : Nat} {cur : Array Value} {t : TypeId} (hgb : w'.heap[gb]? = some (.cells cur t (0,0))) (hbase : w.heap.size ≤ gb) {sz0 : Nat} {es0 : List (List C)} (hl : es0.length * sz0 ≤ cur.size) (hc : zco g w σ cur sz0 es0) :
  Ext g w σ (g.own σ.length gb) w' (σ ++ [.cells 0 sz0 es0]) ∧ Rel (g.own σ.length gb) w' (σ ++ [.cells 0 sz0 es0]):=by
 have hρ : ∀ id,id < σ.length → (g.own σ.length gb).ρ id = g.ρ id:=fun id h => zaF g.ρ (k:=σ.length) (i:=id) _ (by omega)
 have hw : ∀ b,b < w.heap.size → (g.own σ.length gb).ow b = g.ow b:=fun b h => zaF g.ow (k:=gb) (i:=b) _ (by omega)
 have H : Ext g w σ (g.own σ.length gb) w' (σ ++ [.cells 0 sz0 es0]):={
  os:=hB.os
  tape:=hB.tape
  output:=hB.output
  size:=hB.size
  keeps:=fun b i h => ⟨h,by unfold World.cell?; rw [hB.block b (R.nb b i h)]⟩
  len:=by simp
  shape:=fun id ver sz len h => by
   obtain ⟨es,h1,h2⟩:=zaR h
   have hlt:=zb h1
   refine .inl ⟨by unfold shapeOf; rw [ya hlt]; exact h,hρ id hlt,fun _ arr t ha => ⟨arr,?_,rfl⟩⟩
   rw [hB.block _ (yc.1 ha).1]
   exact ha
  map:=fun id es h => ⟨hρ id (zb h),es,by rw [ya (zb h)]; exact h⟩
  tok:=fun t k n h => by
   obtain ⟨sz,fr,h1,h2⟩:=zcX h
   exact ⟨n,zdD (by rw [ya (zb h1)]; exact h1) h2,yg _,fun _ => rfl⟩
  tsz:=fun t sz h => by
   obtain ⟨fr,h1⟩:=zez h
   exact zce (fr:=fr) (by rw [ya (zb h1)]; exact h1)
  ow:=hw
  new:=fun b i h _ _ => h
  frame:=fun b hb _ => hB.block b hb }
 refine ⟨H,⟨fun b i h => yi (R.nb b i h) hB.size,fun id x h => ?_⟩⟩
 by_cases hlt : id < σ.length
 ·rw [ya hlt] at h
  exact zcV H (hρ id hlt) (fun _ => rfl) (fun b hb _ => ⟨hB.block b hb,hw b hb,fun _ h => h⟩) (R.ob id x h)
 ·have hid : id = σ.length:=by
   have:=zb h
   simp at this
   omega
  subst hid
  simp at h
  subst h
  intro _
  have e1 : (g.own σ.length gb).ρ σ.length = gb:=by simp [G.own]
  have e2 : (g.own σ.length gb).ow gb = .ob σ.length:=by simp [G.own]
  rw [e1]
  refine ⟨e2,fun o h => by have:=R.nb _ _ h; omega,cur,t,hgb,hl,H.zco hc⟩
end
end Go.A
namespace Go.Proofs
open Go.RowKit
open Go.A in
theorem Tryz.ext_cloneB (args : List V) (σ : zd) (v : V) (σ' : zd) (h : zlT 5 args σ = some (v,σ')) :
  Go.A.Enters Tryz.prog 62 ∧ ∀ g w us,Rel g w σ → zz g w σ args us → Calls Tryz.prog 62 us.toArray w fun e w' => ∃ u g',e = .returned u ∧ zf g' w' σ' v u ∧ Rel g' w' σ' ∧ Ext g w σ g' w' σ':=by
 refine ⟨⟨Tryz.f62,_,Tryz.func62,by kernel_rfl,rfl⟩,fun g w us R0 hv => ?_⟩
 unfold zlT at h
 split at h
 ·rename_i xs
  split at h
  ·rename_i hok
   obtain ⟨hne,hsz,hlim⟩:=hok
   injection h with h
   simp only [Prod.mk.injEq] at h
   obtain ⟨rfl,rfl⟩:=h
   simp only [zz,zf,zw] at hv
   obtain ⟨u,rest,rfl,hrep,rfl⟩:=hv
   obtain ⟨a,c,sz,zs,rfl,hnc,hlay,hadr⟩:=zmI hrep fun x u h => zo3 h
   rcases hadr with hx | ⟨b,o,rfl,hcell⟩
   ·exact absurd hx hne
   have h5 : sz = 5:=by
    have hl2:=hlay.2.1
    cases xs with
    | nil => exact absurd rfl hne
    | cons x r =>
      simp only [zbO] at hl2
      simp only [znv,Bool.and_eq_true,decide_eq_true_eq] at hsz
      rw [← hl2.1,hsz.1]
   subst h5
   unfold LIM at hlim
   have hlen : zs.length = xs.length * 5:=hlay.1
   refine Calls.mono (f:=62) (Tryz.clone_block b o xs.length c zs w hlen (by unfold maxLen; omega) (by omega) hcell (zrx (by omega) hlay)) fun e w' he => ?_
   obtain ⟨v,rfl,hrw,hnil,hB⟩:=he
   rcases hrw.2 with ⟨rfl,hz⟩ | ⟨gb,cap,cur,rfl,hbase,hgb,r1,r2,r3,r4⟩
   ·exact absurd rfl hnil
   have hpos : 0 < xs.length:=List.length_pos_iff.2 hne
   have hrow0:=ziQ (σ:=σ) (g:=g) hlay
   have hrow : zco g w σ cur 5 (xs.map fun e => e.map C.f):=fun i e hi => by
    obtain ⟨q1,q2⟩:=hrow0 i e hi
    refine ⟨q1,fun j c hj => ?_⟩
    obtain ⟨u,k1,k2,k3⟩:=q2 j c hj
    refine ⟨u,?_,k2,k3⟩
    have k4 : zs[i * 5 + j]? = some u:=by simpa using k1
    rw [← r4,yy] at k4
    split at k4
    ·simpa using k4
    ·cases k4
   obtain ⟨H,R1⟩:=zAV R0 hB hgb hbase (by rw [List.length_map,r3]; exact Nat.mul_le_mul_right 5 r1) hrow
   refine ⟨_,_,rfl,?_,R1,H⟩
   simp only [zf,zw]
   have e1 : (g.own σ.length gb).ρ σ.length = gb:=by simp [G.own]
   exact ⟨0,5,xs.length,by simp [shapeOf,Ob.shape],yg _,fun _ => ⟨some ⟨gb,0,none⟩,cap,rfl,r1,fun h => by omega,fun h => ⟨by omega,fun _ => by rw [e1],cur,_,by rw [e1]; exact hgb,by omega⟩⟩,_,_,rfl⟩
  ·cases h
 ·cases h
end Go.Proofs
namespace AC
open Go.A Go.A.Lex
theorem zEG : zvu (zCI Go.Proofs.Tryz.prog (zrd Go.Proofs.Tryz.prog)) 0 tab :=
 ⟨zbj _ 0 (by kernel_rfl),zbj _ 16 (by kernel_rfl),zbj _ 32 (by kernel_rfl),zbj _ 48 (by kernel_rfl),zbj _ 64 (by kernel_rfl),zbj _ 80 (by kernel_rfl),zbj _ 96 (by kernel_rfl),zbj _ 112 (by kernel_rfl),zbj _ 128 (by kernel_rfl),zbj _ 144 (by kernel_rfl),zbj _ 160 (by kernel_rfl),zbj _ 176 (by kernel_rfl),zbj _ 192 (by kernel_rfl),zbj _ 208 (by kernel_rfl),zbj _ 224 (by kernel_rfl),zbj _ 240 (by kernel_rfl),zbj _ 256 (by kernel_rfl),trivial⟩
theorem zFW : zw3 Go.Proofs.Tryz.prog (zrd Go.Proofs.Tryz.prog) T:=by
 refine zma ?_ (zma ?_ (zma ?_ (zma ?_ (zma ?_ (zCd zEG)))))
 ·exact Go.Proofs.Tryz.ext_cloneB
 ·exact Go.Proofs.Tryz.ext_compact
 ·exact fun args σ v σ' h => zwd (zvG (by kernel_rfl)) Go.Proofs.Tryz.func181 (by kernel_rfl) (by kernel_rfl) args σ v σ' h
 ·exact Go.Proofs.Tryz.ext_sort
 ·exact Go.Proofs.Tryz.ext_sorted
end AC
