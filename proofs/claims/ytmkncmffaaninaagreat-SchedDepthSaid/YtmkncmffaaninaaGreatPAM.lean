/- A part of the proof of SchedDepth. Conditions: none. -/
import Derived.Test.YtmkncmffaaninaaGreatPAL
import Derived.Shelf.SlIterI.Sorted
import Derived.RangeFuncBox
import Derived.RangeFuncLeaves
import Derived.WalkKit
import Derived.OwnWalkIn
import Derived.TacticsInMore
import Derived.LoopNIn
import Derived.LoopIn
import Derived.Test.YtmkncmffaaninaaGreatPAG
import Derived.KernelRfl
import Derived.Shelf.RegionOpenPlain
import Derived.Deep.LoopGhost
import Derived.Lib.Walk
import Derived.Lib.SliceRun
import Derived.Test.YtmkncmffaaninaaGreatPAE
import GoSem.ClaimChange
import Derived.DataReads
import Derived.ProofKit
import Derived.Test.YtmkncmffaaninaaGreatRows
import Derived.SizedLaws
set_option linter.unusedVariables false
set_option linter.unusedSimpArgs false
set_option linter.unusedSectionVars false
open List renaming getElem?_append_left → ya,getElem?_eq_getElem → yb,eq_nil_of_length_eq_zero → yd,getElem?_map → ye,getD_eq_getElem?_getD → yf,append_toArray → yo,map_cons → yp,pairwise_cons → yq,size_toArray → yr,push_toArray → yt,mem_iff_getElem? → yu,length_cons → yv,cons_append → yw,map_nil → yy,length_nil → yz,nil_append → yA,append_nil → yB,drop_eq_nil_of_le → yE,all_eq_true → yF,mem_cons → yG,take_append_drop → yI,foldl_cons → yJ,getElem?_append → yK,mem_of_getElem? → yL,mem_cons_of_mem → yM,getElem?_take → yN,getElem_mem → yO,length_map → yP,all_append → yQ,replicate → yS,drop_drop → yT,mem_map → yV
open Bool renaming and_eq_true → yc
open Array renaming getElem?_eq_some_iff → yg,replicate_succ → ym,replicate_zero → yn
open Option renaming bind_eq_some_iff → yh,map_eq_some_iff → yk
open Int renaming toNat_natCast → yi,natCast_nonneg → yx,lt_irrefl → yR
open Nat renaming le_refl → yj,lt_of_lt_of_le → yl,reduceAdd → yC,reduceSub → yD,mul_le_mul_right → yH,zero_le → yU
namespace Go.Proofs
open Go.RowKit Go.Maps Go.Sort Go.Shelf
attribute [local go_sem] Oper.semAt_some
structure LiesAt (w : World) (B o : Nat) (ad : Option Addr) (c : Nat) (zs : List Int) : Prop where
 box : B < w.heap.size ∧ w.cell? ⟨B,o,none⟩ = some (.slice ad zs.length c)
 row : zs ≠ [] → ∃ blk off,ad = some ⟨blk,off,none⟩ ∧ blk < w.heap.size ∧ ∀ (j : Nat) x,zs[j]? = some x → w.cell? ⟨blk,off + j,none⟩ = some (.int .i64 x)
theorem LiesAt.later {w W : World} {B o : Nat} {ad : Option Addr} {c : Nat} {zs : List Int} (h : LiesAt w B o ad c zs) (hb : Below w.heap.size w W) : LiesAt W B o ad c zs:=by
 have hc : ∀ b i,b < w.heap.size → W.cell? ⟨b,i,none⟩ = w.cell? ⟨b,i,none⟩:=fun b i h => by unfold World.cell?; rw [hb.block b h]
 refine ⟨⟨yl h.box.1 hb.size,by rw [hc _ _ h.box.1]; exact h.box.2⟩,fun hz => ?_⟩
 obtain ⟨blk,off,h1,h2,h3⟩:=h.row hz
 exact ⟨blk,off,h1,yl h2 hb.size,fun j x hj => by rw [hc _ _ h2]; exact h3 j x hj⟩
set_option maxRecDepth 100000 in
set_option maxHeartbeats 2000000 in
theorem Tryz.values1 (F : Fence) (n : Nat) (h7 : F.fn 177) (hro : F.round = none) (hn : 1 ≤ n) (l B o : Nat) (ad : Option Addr) (c : Nat) (zs : List Int) (hzl : zs.length ≤ 4294967296) (w0 : World) (hL : LiesAt w0 B o ad c zs) (J : List Int → World → Prop) (hJb : ∀ s W',J s W' → Below w0.heap.size w0 W')
  (hY : ∀ pre x W1,J pre W1 → pre.length < zs.length → YieldAt F (n - 1) Tryz.prog l #[encZ x] W1 fun e W' => e = .returned (.bool true) ∧ J (pre ++ [x]) W' ∧ KeepsWalks W1 W')
  (W : World) (h0 : J [] W) :
  CallsIn F n Tryz.prog 177 #[.func (.yield l) #[] #[],.pointer (some ⟨B,o,none⟩)] W fun e W' => (∃ v,e = .returned v) ∧ J zs W':=by
 have hBs : W.cell? ⟨B,o,none⟩ = some (.slice ad zs.length c):=(hL.later (hJb _ _ h0)).box.2
 refine callsIn_of_wp Tryz.func177 rfl h7 ?_ hro
 simp only [Tryz.ntmps177,yr,yv,yz,yC,yD,ym,yn,yt,yo,yA,yw]
 gi_wp2
 gi_loopw [7] (fun i wr => ∃ k : Nat,k ≤ zs.length ∧ i = .int .i64 k ∧ J (zs.take k) wr) (fun i _ => match i with | .int _ k => zs.length - k.toNat | _ => 0)
 case atStart => exact ⟨0,yU _,rfl,h0⟩
 case round =>
  obtain ⟨k,hk,rfl,hJs⟩:=hrel
  by_cases hlt : k < zs.length
  ·obtain ⟨blk,off,rfl,hblk,hrow⟩:=(hL.later (hJb _ _ hJs)).row (fun e => by subst e; simp at hlt)
   have hcell:=hrow k zs[k] (by simp [hlt])
   obtain ⟨fn,tmps,assign,body,hy,hR⟩:=hY (zs.take k) zs[k] _ hJs (by simp; omega)
   clear hrow hL hBs
   gi_wp2
   refine hR.mono ?_
   rintro e W3 ⟨rfl,hJ3,hk3⟩
   gi_wp2
   go_roundw
   case rel => exact ⟨k + 1,by omega,by go_num,by rw [List.take_succ_eq_append_getElem hlt]; exact hJ3⟩
   case measure =>
    show zs.length - ((k : Int) + 1).toNat < zs.length - (k : Int).toNat
    omega
  ·have : k = zs.length:=by omega
   subst this
   gi_wp2
   go_end0
   exact ⟨⟨_,rfl⟩,by simpa using hJs⟩
def zBB (F : Fence) (n : Nat) (P : Program) (g : Nat) (lb : Array Value) (zs : List Int) (w : World) : Prop :=
 ∀ (l : Nat) (J : List Int → World → Prop) (W : World),(∀ s W',J s W' → Below w.heap.size w W') →
   (∀ pre x W1,J pre W1 → pre.length < zs.length → YieldAt F (n - 1) P l #[encZ x] W1 fun e W' => e = .returned (.bool true) ∧ J (pre ++ [x]) W' ∧ KeepsWalks W1 W') →
   J [] W →
   CallsIn F n P g (#[.func (.yield l) #[] #[]] ++ lb) W fun e W' => (∃ v,e = .returned v) ∧ J zs W'
theorem Tryz.values_gives (F : Fence) (n : Nat) (h7 : F.fn 177) (hro : F.round = none) (hn : 1 ≤ n) (B o : Nat) (ad : Option Addr) (c : Nat) (zs : List Int) (hzl : zs.length ≤ 4294967296) (w0 : World) (hL : LiesAt w0 B o ad c zs) :
 zBB F n Tryz.prog 177 #[.pointer (some ⟨B,o,none⟩)] zs w0:=fun l J W hJb hY h0 => Tryz.values1 F n h7 hro hn l B o ad c zs hzl w0 hL J hJb hY W h0
variable {P : Program} {ρ : Ren}
set_option maxRecDepth 100000 in
set_option maxHeartbeats 4000000 in
theorem zti (L : SlLaysZI.n11 P ρ) (F : Fence) (n : Nat) (h11 : F.fn (ρ.f 11)) (hro : F.round = none) (hn : 2 ≤ n) (g : Nat) (lb : Array Value) (hFg : F.fn g) (eg : ∀ args w,(callFunc g args).run P w = .ok (.enter g args) w)
  (zs : List Int) (hN : zs.length ≤ maxLen) (hNb : zs.length * 8 ≤ 140737488355328) (w : World) (hseq : zBB F (n - 1) P g lb zs w) :
  CallsIn F n P (ρ.f 11) #[.slice none 0 0,.func (.func g) #[] lb] w fun e w' => ∃ v : Value,e = .returned v ∧ w'.ownsRow w.heap.size (ρ.t 26) 1 v zs.length (zs.map encZ) ∧ (v = .slice none 0 0 ↔ zs = []) ∧ Below w.heap.size w w':=by
 have h1 : 1 ≤ n:=by omega
 have mixed:=L.mixed; have t0:=L.t0; have a0:=L.a0; have z0:=L.z0; have v0:=L.v0; have t24:=L.t24; have a24:=L.a24; have z24:=L.z24; have v24:=L.v24; have t26:=L.t26; have a26:=L.a26; have z26:=L.z26; have v26:=L.v26; have t28:=L.t28; have a28:=L.a28; have z28:=L.z28; have v28:=L.v28
 have hne : ρ.t 24 ≠ ρ.t 26:=fun e => by have h:=L.t24; rw [e,L.t26] at h; cases h
 have u0:=run_underlying L.t0; have u24:=run_underlying L.t24; have u26:=run_underlying L.t26; have u28:=run_underlying L.t28
 obtain ⟨_,_,FG⟩:=L.f11
 refine callsIn_of_wp_marks FG rfl h11 ?_ hro
 simp only [SlBodyZ.n11_ntmps ρ,yr,yv,yz,yC,yD,ym,yn,yt,yo,yA,yw]
 gi_wp2
 refine wpIn_rangeFunc ?_
 intro fn hfn
 rw [hro]
 obtain ⟨W0,hW0⟩ : ∃ W0,w.alloc (.cells #[.slice none 0 0] (ρ.t 24)) = W0:=⟨_,rfl⟩
 have hs0 : W0.heap.size = w.heap.size + 1:=by rw [← hW0]; simp
 have hv0 : W0.heap[w.heap.size]? = some (.cells #[.slice none 0 0] (ρ.t 24) (0,0)):=by rw [← hW0]; exact World.alloc_heap_new w _
 have hb0 : Below w.heap.size w W0:=by rw [← hW0]; exact (Below.refl _ w).alloc (yj _) _
 rw [hW0]
 let rec0:=AnyZI.apRec ρ fn (.func (.func g) #[] lb) w.heap.size W0.heap.size .ready none
 obtain ⟨W1,hW1⟩ : ∃ W1,(W0.alloc (.deferred (some []))).alloc (.loop rec0) = W1:=⟨_,rfl⟩
 have hold : ∀ k,k < W0.heap.size → W1.heap[k]? = W0.heap[k]?:=fun k hk => by
  rw [← hW1]; exact (Below.heap_alloc _ _ k (by simp; omega)).trans (Below.heap_alloc _ _ k hk)
 have hb1 : Below w.heap.size w W1:=by rw [← hW1]; exact (hb0.alloc hb0.size _).alloc (by have:=hb0.size; simp; omega) _
 have hs1 : W1.heap.size = W0.heap.size + 2:=by rw [← hW1]; simp
 have hM : AnyZI.ApAt ρ w fn (.func (.func g) #[] lb) w.heap.size (W0.heap.size + 1) W0.heap.size [] W1 :=
  ⟨⟨_,(hold w.heap.size (by omega)).trans hv0,⟨rfl,.inl ⟨rfl,rfl⟩⟩,by simp⟩,
   by rw [← hW1]; have:=World.alloc_heap_new (W0.alloc (.deferred (some []))) (.loop rec0); rwa [World.size_alloc] at this,
   by rw [← hW1]; exact (Below.heap_alloc _ _ _ (by simp)).trans (World.alloc_heap_new W0 _),hb1⟩
 refine ⟨W0.heap.size + 1,[{ target:=.collected W0.heap.size,args:=#[] }],W1,{ target:=.fn (.func g) lb,args:=#[.func (.yield (W0.heap.size + 1)) #[] #[]] },W1,g,
  #[.func (.yield (W0.heap.size + 1)) #[] #[]] ++ lb,W1,?_,?_,?_,?_,fun _ => h1,?_⟩
 ·rw [← hW1]; exact run_enterLoop_outer _ _ _ _ _
 ·simp [resolve,go_sem]
 ·intro f' hf'; simp [Target.leads] at hf'; subst hf'; exact hFg
 ·simp [invoke,go_sem,eg]
 ·refine (hseq (W0.heap.size + 1) (AnyZI.ApAt ρ w fn (.func (.func g) #[] lb) w.heap.size (W0.heap.size + 1) W0.heap.size) W1 (fun s W' h => h.below)
   (fun pre x W hJ hl => AnyZI.apYield { L with } F (n - 1 - 1) w fn hfn _ w.heap.size (W0.heap.size + 1) W0.heap.size (by omega) (by omega) (by omega) (yj _) (by omega) zs.length hN hNb pre x W hJ hl) hM).mono ?_
  rintro e W2 ⟨⟨v0,rfl⟩,h2⟩
  obtain ⟨v,hv,hrow,hnil⟩:=h2.box
  have hend:=run_endLoop (P:=P) h2.L (by simp [AnyZI.apRec])
  obtain ⟨W3,hW3⟩ : ∃ W3,W2.putObj (W0.heap.size + 1) (.loop { rec0 with state:=.exhausted }) = W3:=⟨_,rfl⟩
  have hend':=hend
  rw [show W2.putObj (W0.heap.size + 1) (.loop { rec0 with state:=.exhausted }) = W3 from hW3] at hend'
  have hg3 : W2.grownBy W3 (some (W0.heap.size + 1)):=by rw [← hW3]; exact grownBy_putObj_a _ _ _
  have hv3 : W3.heap[w.heap.size]? = some (.cells #[v] (ρ.t 24) (0,0)):=by rw [← hW3]; exact (World.putObj_heap_other (by omega)).trans hv
  have hK3 : W3.heap[W0.heap.size]? = some (.deferred (some [])):=by rw [← hW3]; exact (World.putObj_heap_other (by omega)).trans h2.K
  have hrow3:=hrow.kept hg3 (ownsRow_ne_a hrow h2.L (fun cur e => by first | cases e | exact hne (Obj.cells.inj e).2.1))
  have hb3 : Below w.heap.size w W3:=h2.below.grown hg3 h2.below.size (fun k e => by cases e; omega)
  obtain ⟨hc3,hf3⟩:=cell_of_box_a hv3
  clear hW3
  refine ⟨none,W3,hend',?_⟩
  gi_wp2
  rw [← hs0]
  refine ⟨by simp,.inl ⟨_,_,rfl,run_takeDeferred hK3,?_⟩⟩
  exact ⟨_,results_tmp rfl _ _ _,v,rfl,hrow3.kept (grownBy_putObj_a _ _ _) (ownsRow_ne_a hrow3 hK3 (fun cur e => by first | cases e | exact hne (Obj.cells.inj e).2.1)),hnil,hb3.grown (grownBy_putObj_a _ _ _) hb3.size (fun k e => by cases e; omega)⟩
set_option maxHeartbeats 1000000 in
theorem zrx (L : SlLaysZI.n8 P ρ) (F : Fence) (n : Nat) (h8 : F.fn (ρ.f 8)) (h11 : F.fn (ρ.f 11)) (hro : F.round = none) (hn : 3 ≤ n) (g : Nat) (lb : Array Value) (hFg : F.fn g) (eg : ∀ args w,(callFunc g args).run P w = .ok (.enter g args) w)
  (zs : List Int) (hN : zs.length ≤ maxLen) (hNb : zs.length * 8 ≤ 140737488355328) (w : World) (hseq : zBB F (n - 1 - 1) P g lb zs w) :
  CallsIn F n P (ρ.f 8) #[.func (.func g) #[] lb] w fun e w' => ∃ v : Value,e = .returned v ∧ w'.ownsRow w.heap.size (ρ.t 26) 1 v zs.length (zs.map encZ) ∧ (v = .slice none 0 0 ↔ zs = []) ∧ Below w.heap.size w w':=by
 have h1 : 1 ≤ n:=by omega
 have e11 : ∀ args w,(callFunc (ρ.f 11) args).run P w = .ok (.enter (ρ.f 11) args) w:=L.f11.enters rfl
 have mixed:=L.mixed; have t0:=L.t0; have a0:=L.a0; have z0:=L.z0; have v0:=L.v0; have t24:=L.t24; have a24:=L.a24; have z24:=L.z24; have v24:=L.v24; have t26:=L.t26; have a26:=L.a26; have z26:=L.z26; have v26:=L.v26; have t28:=L.t28; have a28:=L.a28; have z28:=L.z28; have v28:=L.v28
 have u0:=run_underlying L.t0; have u24:=run_underlying L.t24; have u26:=run_underlying L.t26; have u28:=run_underlying L.t28
 obtain ⟨_,_,FG⟩:=L.f8
 refine callsIn_of_wp FG rfl h8 ?_ hro
 simp only [SlBodyZ.n8_ntmps ρ,yr,yv,yz,yC,yD,ym,yn,yt,yo,yA,yw]
 gi_wp2_with (gi_at_fn (ρ.f 11); refine (zti { L with } F (n - 1) h11 hro (by omega) g lb hFg eg zs hN hNb _ hseq).mono ?_; rintro e w' ⟨v,rfl,hrow,hnil,hb⟩)
 go_ret
 exact ⟨v,rfl,hrow,hnil,hb⟩
set_option maxRecDepth 100000 in
set_option maxHeartbeats 2000000 in
theorem zsx (L : SlLaysZI.n6 P ρ) (F : Fence) (n : Nat) (h6 : F.fn (ρ.f 6)) (h8 : F.fn (ρ.f 8)) (h9 : F.fn (ρ.f 9)) (h11 : F.fn (ρ.f 11)) (hro : F.round = none) (hn : 4 ≤ n) (hsort : AnyZI.SortsIn P ρ F (n - 1)) (e9 : ∀ args w,(callFunc (ρ.f 9) args).run P w = .ok (.enter (ρ.f 9) args) w) (g : Nat) (lb : Array Value) (hFg : F.fn g) (eg : ∀ args w,(callFunc g args).run P w = .ok (.enter g args) w)
  (zs : List Int) (hN : zs.length ≤ maxLen) (hNb : zs.length * 8 ≤ 140737488355328) (w : World) (hseq : zBB F (n - 1 - 1 - 1) P g lb zs w) :
  CallsIn F n P (ρ.f 6) #[.func (.func g) #[] lb] w fun e w' => ∃ v : Value,e = .returned v ∧ w'.ownsRow w.heap.size (ρ.t 26) 1 v zs.length ((zs.mergeSort (fun x y => decide (x ≤ y))).map encZ) ∧ (v = .slice none 0 0 ↔ zs = []) ∧ Below w.heap.size w w':=by
 have h1 : 1 ≤ n:=by omega
 have e8 : ∀ args w,(callFunc (ρ.f 8) args).run P w = .ok (.enter (ρ.f 8) args) w:=L.f8.enters rfl
 have mixed:=L.mixed; have t0:=L.t0; have a0:=L.a0; have z0:=L.z0; have v0:=L.v0; have t24:=L.t24; have a24:=L.a24; have z24:=L.z24; have v24:=L.v24; have t26:=L.t26; have a26:=L.a26; have z26:=L.z26; have v26:=L.v26; have t28:=L.t28; have a28:=L.a28; have z28:=L.z28; have v28:=L.v28
 have u0:=run_underlying L.t0; have u24:=run_underlying L.t24; have u26:=run_underlying L.t26; have u28:=run_underlying L.t28
 obtain ⟨_,_,FG⟩:=L.f6
 refine callsIn_of_wp FG rfl h6 ?_ hro
 simp only [SlBodyZ.n6_ntmps ρ,yr,yv,yz,yC,yD,ym,yn,yt,yo,yA,yw]
 gi_wp2_with (gi_at_fn (ρ.f 8); refine (zrx { L with } F (n - 1) h8 h11 hro (by omega) g lb hFg eg zs hN hNb _ hseq).mono ?_; rintro e W ⟨v,rfl,hrow,hnil,hb⟩)
 rcases hrow.2 with ⟨rfl,hz⟩ | ⟨gb,cap,cur,rfl,hbase,hgb,r1,r2,r3,r4⟩
 ·have hss : zs = []:=yd hz
  subst hss
  gi_wp2_with (gi_at_fn (ρ.f 9); refine (hsort.2 none 0 W).mono ?_; rintro e w' ⟨rfl,rfl⟩)
  go_ret
  exact ⟨.slice none 0 0,rfl,by simpa using hrow,by simp,hb⟩
 ·have hH : Holds encZ W gb 0 zs.toArray:=holds_of_block_i hgb (by simpa using r4)
  have hgl : gb < W.heap.size:=(yg.1 hgb).1
  have hsz : zs.length < 4611686018427387904:=by omega
  have cS:=hsort.1 gb 0 cap zs W hH hgl hsz
  gi_wp2_with (gi_at_fn (ρ.f 9); refine cS.mono ?_; rintro e w' ⟨rfl,nn,os,rfl⟩)
  go_ret
  exact ⟨_,rfl,ownsRow_sorted_i (by simp) hbase hgb r1 r2 r3,hnil,hb.grown (grownBy_sorted_i _) hb.size (fun j hj => by cases hj; exact hbase)⟩
theorem Tryz.sorts (m : Nat) : AnyZI.SortsIn Tryz.prog Tryz.sorted_ren Fence.wide m :=
 ⟨fun blk off cap ss W hH hblk hsz => callsIn_wide.2 (AnyM.slices_Sort_int Tryz.sort blk off cap ss W hH hblk hsz),
  fun p cap W => callsIn_wide.2 (AnyM.slices_Sort_int_none Tryz.sort p cap W)⟩
end Go.Proofs
namespace Go.A
open Go.RowKit (Below)
section
variable {g : G} {w w' : World} {σ : zd}
theorem zCR (R : Rel g w σ) (hB : Below w.heap.size w w') {gb : Nat} {cur : Array Value} {t : TypeId} (hgb : w'.heap[gb]? = some (.cells cur t (0,0))) (hbase : w.heap.size ≤ gb) {l : List Int} (hl : l.length ≤ cur.size) (hc : ∀ (j : Nat) x,l[j]? = some x → cur[j]? = some (.int .i64 x)) :
  Ext g w σ (g.own σ.length gb) w' (σ ++ [.cells 0 1 (l.map zj)]) ∧ Rel (g.own σ.length gb) w' (σ ++ [.cells 0 1 (l.map zj)]):=by
 have hρ : ∀ id,id < σ.length → (g.own σ.length gb).ρ id = g.ρ id:=fun id h => zaF g.ρ (k:=σ.length) (i:=id) _ (by omega)
 have hw : ∀ b,b < w.heap.size → (g.own σ.length gb).ow b = g.ow b:=fun b h => zaF g.ow (k:=gb) (i:=b) _ (by omega)
 have H : Ext g w σ (g.own σ.length gb) w' (σ ++ [.cells 0 1 (l.map zj)]):={
  os:=hB.os
  tape:=hB.tape
  output:=hB.output
  size:=hB.size
  keeps:=fun b i h => ⟨h,by unfold World.cell?; rw [hB.block b (R.nb b i h)]⟩
  len:=by simp
  shape:=fun id ver sz len h => by
   obtain ⟨es,h1,h2⟩:=zaL h
   have hlt:=zb h1
   refine .inl ⟨by unfold shapeOf; rw [ya hlt]; exact h,hρ id hlt,fun _ arr t ha => ⟨arr,?_,rfl⟩⟩
   rw [hB.block _ (yg.1 ha).1]
   exact ha
  map:=fun id es h => ⟨hρ id (zb h),es,by rw [ya (zb h)]; exact h⟩
  tok:=fun t k n h => by
   obtain ⟨sz,fr,h1,h2⟩:=zcS h
   exact ⟨n,zdE (by rw [ya (zb h1)]; exact h1) h2,yj _,fun _ => rfl⟩
  tsz:=fun t sz h => by
   obtain ⟨fr,h1⟩:=zet h
   exact zbV (fr:=fr) (by rw [ya (zb h1)]; exact h1)
  ow:=hw
  new:=fun b i h _ _ => h
  frame:=fun b hb _ => hB.block b hb }
 refine ⟨H,⟨fun b i h => yl (R.nb b i h) hB.size,fun id x h => ?_⟩⟩
 by_cases hlt : id < σ.length
 ·rw [ya hlt] at h
  exact zcM H (hρ id hlt) (fun _ => rfl) (fun b hb _ => ⟨hB.block b hb,hw b hb,fun _ h => h⟩) (R.ob id x h)
 ·have hid : id = σ.length:=by
   have:=zb h
   simp at this
   omega
  subst hid
  simp at h
  subst h
  intro _
  have e1 : (g.own σ.length gb).ρ σ.length = gb:=by simp [G.own]
  have e2 : (g.own σ.length gb).ow gb = .ob σ.length:=by simp [G.own]
  rw [e1]
  refine ⟨e2,fun o h => by have:=R.nb _ _ h; omega,cur,t,hgb,by simpa using hl,fun i e he => ?_⟩
  rw [ye,yk] at he
  obtain ⟨x,hx,rfl⟩:=he
  refine ⟨rfl,fun j c hcc => ?_⟩
  cases j with
  | succ j => simp [zj] at hcc
  | zero =>
    simp [zj] at hcc
    subst hcc
    exact ⟨.int .i64 x,by simpa using hc i x hx,by simp [zw,rep,zxD],rfl⟩
end
theorem zni : ∀ {xs : List (List Fz)} {l : List Int},zgi xs = some l → xs = l.map zxj
 | [],l,h => by simp [zgi] at h; subst h; rfl
 | x :: xs,l,h => by
   simp only [zgi] at h
   unfold zfO at h
   split at h
   ·rename_i a0 bs h1 h2
    injection h with h
    subst h
    rw [zni h2]
    unfold zvh at h1
    split at h1
    ·injection h1 with h1; subst h1; rfl
    ·cases h1
   ·cases h
end Go.A
namespace Go.Proofs
open Go.RowKit Go.Maps Go.Sort Go.Shelf
open Go.A in
theorem Tryz.ext_sorted (args : List V) (σ : zd) (v : V) (σ' : zd) (h : zgT 177 args σ = some (v,σ')) :
  Go.A.Enters Tryz.prog 145 ∧ ∀ g w us,Rel g w σ → zz g w σ args us → Calls Tryz.prog 145 us.toArray w fun e w' => ∃ u g',e = .returned u ∧ zf g' w' σ' v u ∧ Rel g' w' σ' ∧ Ext g w σ g' w' σ':=by
 refine ⟨⟨Tryz.f145,_,Tryz.func145,by kernel_rfl,rfl⟩,fun g w us R0 hv => ?_⟩
 unfold zgT at h
 split at h
 ·rename_i f oid ver i o
  split at h
  ·rename_i hf
   obtain ⟨rfl,rfl⟩:=hf
   unfold zl3 at h
   split at h
   ·rename_i xs hcell
    rw [yh] at h
    obtain ⟨l,hl,h⟩:=h
    have hx:=zni hl
    subst hx
    unfold zmq at h
    split at h
    ·rename_i hlim
     injection h with h
     simp only [Prod.mk.injEq] at h
     obtain ⟨rfl,rfl⟩:=h
     simp only [zz,zf,zw,zv] at hv
     obtain ⟨u,rest,rfl,⟨fs,cs,rfl,hfs,p,ps,hcs,hp,rfl⟩,rfl⟩:=hv
     unfold zd.cell zd.elem at hcell
     rw [yh] at hcell
     obtain ⟨el,hel,hc0⟩:=hcell
     rw [yh] at hel
     obtain ⟨ob,hob,hel⟩:=hel
     cases ob with
     | tok _ _ => simp [Ob.elem] at hel
     | mp _ => simp [Ob.elem] at hel
     | cells ver' sz es =>
       simp only [Ob.elem] at hel
       split at hel
       ·rename_i hver
        subst hver
        have hne : es ≠ []:=fun e => by subst e; simp at hel
        obtain ⟨_,_,arr,t,hheap,_,hrow⟩:=R0.ob oid _ hob hne
        obtain ⟨hlen,hj⟩:=hrow i el hel
        obtain ⟨u,hu1,hu2,_⟩:=hj 0 _ hc0
        simp only [zw,rep] at hu2
        obtain ⟨ad,c,sz',rfl,_,hla,hrep⟩:=hu2
        obtain ⟨v0,sz0,len0,hshape,_,hpt,_⟩:=hp
        have hsh:=zn hob
        rw [hsh] at hshape
        injection hshape with hshape
        simp only [Prod.mk.injEq] at hshape
        obtain ⟨rfl,rfl,rfl⟩:=hshape
        have hpv:=hpt rfl
        subst hpv
        have hfs' : fs = #[]:=by cases fs; simpa using hfs
        have hcs' : cs = #[.pointer (some ⟨g.ρ oid,i * sz + 0,none⟩)]:=by cases cs; simpa using hcs
        subst hfs' hcs'
        have hlt : g.ρ oid < w.heap.size:=(yg.1 hheap).1
        have hw : w.cell? ⟨g.ρ oid,i * sz + 0,none⟩ = some (.slice ad l.length c):=by
         unfold World.cell?
         rw [hheap]
         simpa using hu1
        have hL : LiesAt w (g.ρ oid) (i * sz + 0) ad c l:=⟨⟨hlt,hw⟩,fun hz => by
         rcases hrep with hrep | ⟨b,o,rfl,hrep⟩
         ·exact absurd (List.map_eq_nil_iff.1 hrep) hz
         ·have hs1 : sz' = 1:=by
           cases l with
           | nil => exact absurd rfl hz
           | cons x r => simp only [yp,zbO] at hla; rw [← hla.1]; rfl
          subst hs1
          have hget : ∀ (j : Nat) x,l[j]? = some x → g.N b (o + j) ∧ w.cell? ⟨b,o + j,none⟩ = some (.int .i64 x):=fun j x hj => by
           have h1:=zfd hrep (i:=j) (e:=zxj x) (by simp [hj])
           obtain ⟨u,n1,n2,n3⟩:=zfK h1 (j:=0) (x:=.lit (.int .i64 x)) (by simp [zxj])
           simp only [rep] at n3
           rw [Nat.mul_one,Nat.add_zero] at n1 n2
           exact ⟨n1,by rw [n2,n3.1]⟩
          obtain ⟨x,r,rfl⟩ : ∃ x r,l = x :: r:=by
           cases l with
           | nil => exact absurd rfl hz
           | cons x r => exact ⟨x,r,rfl⟩
          exact ⟨b,o,rfl,R0.nb b _ (hget 0 x (by simp)).1,fun j x hj => (hget j x hj).2⟩⟩
        unfold LIM at hlim
        have cS:=zsx Tryz.sorted Fence.wide 5 trivial trivial trivial trivial rfl (by omega) (Tryz.sorts _) (enters_of Tryz.func117 (by kernel_rfl) rfl) 177 #[.pointer (some ⟨g.ρ oid,i * sz + 0,none⟩)] trivial (enters_of Tryz.func177 (by kernel_rfl) rfl) l (by unfold maxLen; omega) (by omega) w (Tryz.values_gives Fence.wide 2 trivial rfl (by omega) _ _ ad c l hlim w hL)
        have cS':=callsIn_wide.1 cS
        refine Calls.mono (f:=145) cS' fun e w' he => ?_
        obtain ⟨v,rfl,hrw,hnil,hB⟩:=he
        have hslen : (zbX l).length = l.length:=List.length_mergeSort l
        rcases hrw.2 with ⟨rfl,hz⟩ | ⟨gb,cap,cur,rfl,hbase,hgb,r1,r2,r3,r4⟩
        ·have hl0 : l = []:=yd hz
         subst hl0
         obtain ⟨H,R1⟩:=zAg R0 hB
         obtain ⟨H2,R2⟩:=zn3 R1 1
         refine ⟨_,_,rfl,?_,by simpa [zbX] using R2,by simpa [zbX] using H.trans H2⟩
         simp only [zf,zw]
         exact ⟨0,1,0,by simp [shapeOf,zbX,Ob.shape],yj _,fun _ => ⟨none,0,rfl,yj _,fun _ => rfl,fun h => absurd rfl h⟩,_,_,rfl⟩
        ·have hcur : ∀ (j : Nat) x,(zbX l)[j]? = some x → cur[j]? = some (.int .i64 x):=fun j x hj => by
          have hjl : j < l.length:=by rw [← hslen]; exact (List.getElem?_eq_some_iff.1 hj).1
          have h1 : (cur.toList.take (l.length * 1))[j]? = some (.int .i64 x):=by
           rw [r4,ye]
           have : (l.mergeSort fun x y => decide (x ≤ y))[j]? = some x:=hj
           rw [this]
           rfl
          rw [yN,if_pos (by omega)] at h1
          simpa using h1
         obtain ⟨H,R1⟩:=zCR R0 hB hgb hbase (l:=zbX l) (by rw [hslen]; omega) hcur
         refine ⟨_,_,rfl,?_,R1,H⟩
         simp only [zf,zw]
         have e1 : (g.own σ.length gb).ρ σ.length = gb:=by simp [G.own]
         refine ⟨0,1,l.length,by simp [shapeOf,Ob.shape,hslen],yj _,fun _ => ⟨some ⟨gb,0,none⟩,cap,rfl,r1,fun h => ?_,fun h => ⟨by omega,fun _ => by rw [e1],cur,_,by rw [e1]; exact hgb,by omega⟩⟩,_,_,rfl⟩
         have:=hnil.2 (yd h)
         cases this
       ·cases hel
    ·cases h
   ·cases h
  ·cases h
 ·cases h
end Go.Proofs
namespace AC
open Go Go.A
def zDd (x : Int) : List Int → List Int
 | [] => [x]
 | y :: r => if x ≤ y then x :: y :: r else y :: zDd x r
def zCw : List Int → List Int
 | [] => []
 | x :: r => zDd x (zCw r)
theorem zoC (x : Int) : ∀ l,(zDd x l).Perm (x :: l)
 | [] => .refl _
 | y :: r => by
   rw [zDd]
   split
   ·exact .refl _
   ·exact ((zoC x r).cons y).trans (.swap x y r)
theorem zs8 : ∀ l,(zCw l).Perm l
 | [] => .refl _
 | x :: r => (zoC x (zCw r)).trans ((zs8 r).cons x)
theorem zpw (x : Int) : ∀ l,l.Pairwise (fun a b => a ≤ b) → (zDd x l).Pairwise (fun a b => a ≤ b)
 | [],_ => by simp [zDd]
 | y :: r,h => by
   rw [yq] at h
   rw [zDd]
   split
   ·rename_i c
    rw [yq]
    refine ⟨fun z hz => ?_,yq.2 h⟩
    rcases yG.1 hz with rfl | hz
    ·exact c
    ·exact Int.le_trans c (h.1 z hz)
   ·rename_i c
    rw [yq]
    refine ⟨fun z hz => ?_,zpw x r h.2⟩
    rcases yG.1 ((zoC x r).subset hz) with rfl | hz
    ·omega
    ·exact h.1 z hz
theorem zoI : ∀ l,(zCw l).Pairwise (fun a b => a ≤ b)
 | [] => by simp [zCw]
 | x :: r => zpw x _ (zoI r)
theorem zsr (l : List Int) : zbX l = zCw l:=by
 have h1 : (zbX l).Pairwise (fun a b => decide (a ≤ b) = true):=List.pairwise_mergeSort (fun a b c h1 h2 => by simp only [decide_eq_true_eq] at *; omega) (fun a b => by simp only [Bool.or_eq_true,decide_eq_true_eq]; omega) l
 refine List.Perm.eq_of_pairwise (le:=fun a b => a ≤ b) (fun a b _ _ h1 h2 => by omega) (h1.imp fun h => by simpa using h) (zoI l) ?_
 exact (List.mergeSort_perm l _).trans (zs8 l).symm
def zot (σ : zd) (l : List Int) : Option (V × zd) :=
 if l.length ≤ LIM then some (.one (.own σ.length 0 0 l.length),σ ++ [.cells 0 1 ((zCw l).map zj)]) else none
def zou (σ : zd) : Option C → Option (V × zd)
 | some (.f (.sl xs)) => (zgi xs).bind (zot σ)
 | _ => none
def zmY (fv : Nat) : List V → zd → Option (V × zd)
 | [.one (.fn g [] [.ptr id ver i o])],σ => if g = fv ∧ o = 0 then zou σ (σ.cell id ver i 0) else none
 | _,_ => none
def zrL (σ : zd) (id ver : Nat) (l : List Int) : V × zd:=(.tup [],σ.set id (.cells ver 1 ((zCw l).map zj)))
def zrc : List V → zd → Option (V × zd)
 | [.one (.f (.sl []))],σ => some (.tup [],σ)
 | [.one (.own id ver 0 n)],σ => ((σ[id]?).bind (zhO ver n)).map (zrL σ id ver)
 | _,_ => none
theorem zum : zmq = zot:=by funext σ l; simp only [zmq,zot,zsr]
theorem zt0 : zl3 = zou:=by
 funext σ c
 unfold zl3 zou
 rw [zum]
 rfl
theorem ztF (fv : Nat) : zgT fv = zmY fv:=by
 funext a σ
 unfold zgT zmY
 rw [zt0]
 rfl
theorem zwb : zom = zrL:=by funext σ id ver l; simp only [zom,zrL,zsr]
theorem zxc : zlt = zrc:=by
 funext a σ
 unfold zlt zrc
 rw [zwb]
 rfl
def T' (n : Nat) : Option Entry:=if n = 62 then some (.ext (zlI 5)) else if n = 118 then some (.ext zfl) else if n = 181 then some (.ext (zh3 1)) else if n = 117 then some (.ext zrc) else if n = 145 then some (.ext (zmY 177)) else zt6 tab n
theorem zFU : T = T':=by
 funext n
 unfold T T'
 rw [zxc,ztF]
set_option maxRecDepth 100000 in
theorem zt7 : zfy T' (zN T' 20000) 15 [] [] = some (ziY true,[]):=by kernel_rfl
theorem zCX : call T 15 [] [] = some (ziY true,[]):=by
 refine zj5 T 20000 _ _ _ _ ?_
 rw [zFU]
 exact zt7
end AC
namespace AC
open Go Go.A Go.A.Lex
theorem znr (g : Int → Int) : ∀ (l : List Int) (n : Int),l.foldl (fun n k => max n (g k + 1)) (n + 1) = l.foldl (fun n k => max n (g k)) n + 1
 | [],_ => rfl
 | x :: l,n => by
   rw [yJ,yJ,← znr g l (max n (g x))]
   congr 1
   omega
theorem zo0 : ∀ (r : List (List Int)) (out : List Int),zyF out → zyF (zdg out r)
 | [],_,h => h
 | l :: r,out,h => by rw [zdg]; exact zo0 r _ (h.step l)
theorem zxi {b : PBlock} (h1 : OneDef b.ops) : zyF (zfz b):=zo0 _ _ fun v hv => by simp at hv
section
variable (f : PFunc) (k : Int) (dl : List Int)
theorem zFA (a : Nat) (ha : a < dl.length) (l : List Int) (hll : l.length ≤ 4294967296) (hl : ∀ x ∈ l,0 ≤ x ∧ x < (a : Int) ∧ dl.getD x.toNat 0 < dl.getD a 0) : ∀ (d j : Nat) (m : Int) (a0 a1 a3 a10 a11 a12 a13 a14 a15 a16 : V),l.length - j = d → j ≤ l.length →
  exec T zau ⟨[a0,a1,.one (.ptr 0 0 0 0),a3,vI k,vIs dl,vI a,vIs l,vI m,vI j,a10,a11,a12,a13,a14,a15,a16],[.cells 0 3 [zcW f]],0,0⟩ =
   some (.exit 2,⟨[vU,vU,.one (.ptr 0 0 0 0),vU,vI k,vIs dl,vI a,vU,vI ((l.drop j).foldl (fun n x => max n (dl.getD x.toNat 0)) m),vU,vU,vU,vU,vU,vU,vU,vU],[.cells 0 3 [zcW f]],0,0⟩):=by
 intro d
 induction d with
 | zero =>
   intro j m a0 a1 a3 a10 a11 a12 a13 a14 a15 a16 h1 h2
   have hj : j = l.length:=by omega
   subst hj
   have e : l.drop l.length = []:=by simp
   rw [e,List.foldl_nil,xl zau rfl,zbo]
   simp -implicitDefEqProofs only [go_sem,yR]
 | succ d ih =>
   intro j m a0 a1 a3 a10 a11 a12 a13 a14 a15 a16 h1 h2
   have hj : j < l.length:=by omega
   have hdj : l.drop j = l[j] :: l.drop (j + 1):=List.drop_eq_getElem_cons hj
   obtain ⟨q1,q2,q3⟩:=hl _ (yO hj)
   have g1 : dl[l[j].toNat]? = some (dl.getD l[j].toNat 0):=by rw [yf,yb (by omega)]; rfl
   have g2 : dl[a]? = some (dl.getD a 0):=by rw [yf,yb ha]; rfl
   have c1 : ¬ l[j] < 0:=by omega
   have c2 : ¬ (a : Int) ≤ l[j]:=by omega
   have c3 : ¬ dl.getD a 0 ≤ dl.getD l[j].toNat 0:=by omega
   have:=ih (j + 1) (max m (dl.getD l[j].toNat 0)) vU vU vU vU vU vU vU vU vU vU (by omega) (by omega)
   rw [hdj,yJ,xl zau rfl,zbo]
   simp -implicitDefEqProofs only [go_sem] at this
   simp -implicitDefEqProofs only [go_sem,ilt hj,zp hj,ri,c1,c2,c3,q1,g1,g2,ye,yx,yi,za hj hll,this]
theorem zFH (hdl : dl.length ≤ 1000) (l : Nat → List Int) (hc : ∀ a : Nat,a < dl.length → call T 23 [zhc f,vI k,vI a] [] = some (vIs (l a),[]))
  (hl : ∀ a : Nat,a < dl.length → (l a).length ≤ 4294967296 ∧ (∀ x ∈ l a,0 ≤ x ∧ x < (a : Int) ∧ dl.getD x.toNat 0 < dl.getD a 0) ∧ dl.getD a 0 = (l a).foldl (fun n x => max n (dl.getD x.toNat 0)) (-1) + 1 ∧ 0 ≤ dl.getD a 0 ∧ dl.getD a 0 ≤ 1000000) :
  ∀ (d a : Nat) (a0 a1 a3 a7 a8 a9 a10 a11 a12 a13 a14 a15 a16 : V),dl.length - a = d → a ≤ dl.length →
  exec T zaw ⟨[a0,a1,.one (.ptr 0 0 0 0),a3,vI k,vIs dl,vI a,a7,a8,a9,a10,a11,a12,a13,a14,a15,a16],[.cells 0 3 [zcW f]],0,0⟩ =
   some (.exit 0,⟨[vU,vU,vU,vU,vU,vU,vU,vU,vU,vU,vU,vU,vU,vU,vU,vU,vU],[.cells 0 3 [zcW f]],0,0⟩):=by
 intro d
 induction d with
 | zero =>
   intro a a0 a1 a3 a7 a8 a9 a10 a11 a12 a13 a14 a15 a16 h1 h2
   have ha : a = dl.length:=by omega
   subst ha
   rw [xl zaw rfl,zbq]
   simp -implicitDefEqProofs only [go_sem,yR]
 | succ d ih =>
   intro a a0 a1 a3 a7 a8 a9 a10 a11 a12 a13 a14 a15 a16 h1 h2
   have ha : a < dl.length:=by omega
   obtain ⟨q1,q2,q3,q4,q5⟩:=hl a ha
   have hca:=hc a ha
   have h0:=fun a0 a1 a3 a10 a11 a12 a13 a14 a15 a16 => zFA f k dl a ha (l a) q1 q2 (l a).length 0 (-1) a0 a1 a3 a10 a11 a12 a13 a14 a15 a16 (by omega) (by omega)
   rw [List.drop_zero] at h0
   have g2 : dl[a]? = some (dl.getD a 0):=by rw [yf,yb ha]; rfl
   have hlt : ((a : Int) < (dl.length : Int)) = True:=by simp; exact ha
   have hw : Go.IntKind.i64.wrap ((l a).foldl (fun n x => max n (dl.getD x.toNat 0)) (-1) + 1) = dl.getD a 0:=by rw [← q3,wrap_i64] <;> omega
   have:=ih (a + 1) vU vU vU vU vU vU vU vU vU vU vU vU vU (by omega) (by omega)
   rw [xl zaw rfl,zbq]
   simp -implicitDefEqProofs only [go_sem] at this hca h0
   simp -implicitDefEqProofs only [go_sem,hlt,hca,h0,g2,ye,ri,hw,yx,yi,za ha (show dl.length ≤ 4294967296 by omega),this]
end
theorem zxO (f : PFunc) (hf : anyF f) (x : Int) (hx : 0 ≤ x ∧ x < 256) : call T 5 [zhc f,.one (.f (.lit (.int .u8 x)))] [] = some (vB true,[]):=by
 rw [ze (fn:=zac) rfl]
 have haw:=zCX
 obtain ⟨sb,hsm,hsb⟩:=zrC f hf
 simp -implicitDefEqProofs only [go_sem] at haw hsm
 cases sb with
 | false => simp -implicitDefEqProofs only [go_sem,zac,haw,hsm]
 | true =>
   have hok:=zB1 hf (hsb rfl)
   have hck:=zr1 f hok 2
   simp -implicitDefEqProofs only [go_sem] at hck
   by_cases c : z6 f 2 = 0
   ·have hR:=znl.1 c
    have hb:=zgD hR.may
    have hn0 : ¬ (f.blocks.length : Int) = 0:=by omega
    have hwx : Go.IntKind.i64.wrap x = x:=wrap_i64 (by omega) (by omega)
    obtain ⟨k,hk⟩ : ∃ k : Nat,(k : Int) = x.tmod (f.blocks.length : Int):=⟨(x.tmod (f.blocks.length : Int)).toNat,by have:=Int.tmod_nonneg (f.blocks.length : Int) hx.1; omega⟩
    have hkl : k < f.blocks.length:=by have:=Int.tmod_lt_of_pos x (show (0 : Int) < (f.blocks.length : Int) by omega); omega
    have hr2 : zgn f k = true:=zk6.2 ⟨by omega,by omega,hR⟩
    have hbk : f.blocks[k]? = some f.blocks[k]:=yb hkl
    have hm:=yO hkl
    have h1:=hR.oneDef hm
    have hsz:=hR.size hm
    have eD : zpo f k = zfz f.blocks[k]:=by unfold zpo; rw [if_pos hr2,yi,hbk]
    have hD:=znP f hok k
    rw [eD] at hD
    have hdl : (zfz f.blocks[k]).length = f.blocks[k].ops.length:=zzP _
    have h2:=fun a0 a1 a3 a7 a8 a9 a10 a11 a12 a13 a14 a15 a16 => zFH f k (zfz f.blocks[k]) (by omega) (zhe f.blocks[k].ops) (fun a ha => by
     have:=znU f hok k a
     rw [this]
     have : zl0 f k a = zhe f.blocks[k].ops a:=by
      unfold zl0
      rw [if_pos ⟨hr2,by omega⟩,yi,yi,hbk]
      show (zfA f.blocks[k]).getD a [] = _
      rw [zrg h1]
      exact getD_map _ _ _ (by omega)
     rw [this]) (fun a ha => by
     have hat:=zBS h1 (a:=a) (by omega)
     have hg : (zfz f.blocks[k]).getD a 0 = zaB (zfz f.blocks[k]) (zhe f.blocks[k].ops a):=by rw [yf,hat]; rfl
     have hmx:=zmV (g:=fun x => (zfz f.blocks[k]).getD x.toNat 0 + 1) (zhe f.blocks[k].ops a) 0
     have hfs:=znr (fun x => (zfz f.blocks[k]).getD x.toNat 0) (zhe f.blocks[k].ops a) (-1)
     have hlow : zyF (zfz f.blocks[k]):=zxi h1
     refine ⟨by have:=znL f.blocks[k].ops a; omega,fun x hx => ?_,?_,?_,?_⟩
     ·have hlt:=zrm hx
      have:=hmx.2 x hx
      rw [hg]
      unfold zaB
      exact ⟨hlt.1,hlt.2,by omega⟩
     ·rw [hg,← hfs]; rfl
     ·exact (zrB hlow a).1
     ·have:=(zrB hlow a).2; omega) (zfz f.blocks[k]).length 0 a0 a1 a3 a7 a8 a9 a10 a11 a12 a13 a14 a15 a16 (by omega) (by omega)
    simp -implicitDefEqProofs only [go_sem] at hD h2
    simp -implicitDefEqProofs only [go_sem,zac,haw,hsm,hck,c,hn0,hwx,← hk,hD,h2,hdl,zp hkl,rb,ye,hbk,yx,yi]
   ·simp -implicitDefEqProofs only [go_sem,zac,haw,hsm,hck,c]
end AC
namespace Go.Proofs
open Go.Shelf Go.RowKit Go.Lib
theorem Tryz.mixed0 : Tryz.prog.follows .mixedOrders = true:=by kernel_rfl
theorem Tryz.infoB : (Tryz.prog.info? 44).map (fun i => (i.zero,i.size,i.bytes)) = some (some (.agg #[.slice none 0 0,.slice none 0 0,.int .i64 0,.int .i64 0,.slice none 0 0]),5,88):=by kernel_rfl
set_option maxHeartbeats 2000000 in
set_option maxRecDepth 100000 in
theorem Tryz.clone_block (b off n c : Nat) (zs : List Value) (w : World) (hz : zs.length = n * 5) (hmax : n ≤ maxLen) (hbig : n * 88 ≤ 140737488355328) (hc : ∀ j u,zs[j]? = some u → w.cell? ⟨b,off + j,none⟩ = some u) (h1 : ∀ u ∈ zs,u.oneCell' = true) :
  Calls Tryz.prog 62 #[.slice (some ⟨b,off,none⟩) n c] w fun e w' => ∃ v',e = .returned v' ∧ w'.ownsRow w.heap.size 44 5 v' n zs ∧ v' ≠ .slice none 0 0 ∧ Below w.heap.size w w':=by
 have mixed:=Tryz.mixed0
 obtain ⟨i0,hi,hz0,hz1,hz2⟩:=info_parts Tryz.infoB
 have t23:=Tryz.underlying23
 have q22 : ∀ (w : World) (a : Option Addr) (n c n' c' : Nat),(binOp .eql 23 (.slice a n c) (.slice none n' c')).run Tryz.prog w = .ok (.bool a.isNone) w:=fun w a n c n' c' => Lib.run_eql_slice_nil w _ _ a n c n' c' t23
 have u22 : ∀ w,Sem.run Tryz.prog (underlying 23) w = .ok (TypeDesc.slice 44) w:=run_underlying t23
 have A : Aside (∀ j u,zs[j]? = some u → w.cell? ⟨b,off + j,none⟩ = some u):=hc
 clear hc
 go_enter Tryz.func62,Tryz.ntmps62
 go_wp2_with (at_builtin; refine wpList_append_own _ rfl _ _ 23 rfl w.heap.size 44 i0 (.agg #[.slice none 0 0,.slice none 0 0,.int .i64 0,.int .i64 0,.slice none 0 0]) 5 88 t23 hi hz0 hz1 hz2 rfl (by decide) _ _ _ rfl (World.ownsRow_made w #[] 0 (yj _) (yU _) rfl) ⟨b,off,none⟩ n c zs rfl ?qc1 ?qc2 ?qc3 ?qc4 ?qc5 ?qc6 ?_)
 case qc1 => exact hz
 case qc2 =>
  intro j u hj
  rw [Addr.add_lit]
  refine Lib.cell?_alloc_some _ ?_
  exact A.out j u hj
 case qc3 => exact h1
 case qc4 => omega
 case qc5 => omega
 case qc6 => simp
 intro v' w1 hown hgrow hnil
 go_wp2
 go_ret
 refine ⟨v',rfl,by simpa using hown,?_,?_⟩
 ·exact hnil
 ·exact ((Below.refl _ w).alloc (yj _) _).grown hgrow (by simp) (by intro k hk; simp [Value.ownBlock] at hk; omega)
end Go.Proofs
namespace Go.A
open Go.RowKit (Below)
section
variable {g : G} {w w' : World} {σ : zd}
theorem zBb (R : Rel g w σ) (hB : Below w.heap.size w w') {gb : Nat} {cur : Array Value} {t : TypeId} (hgb : w'.heap[gb]? = some (.cells cur t (0,0))) (hbase : w.heap.size ≤ gb) {sz0 : Nat} {es0 : List (List C)} (hl : es0.length * sz0 ≤ cur.size) (hc : zca g w σ cur sz0 es0) :
  Ext g w σ (g.own σ.length gb) w' (σ ++ [.cells 0 sz0 es0]) ∧ Rel (g.own σ.length gb) w' (σ ++ [.cells 0 sz0 es0]):=by
 have hρ : ∀ id,id < σ.length → (g.own σ.length gb).ρ id = g.ρ id:=fun id h => zaF g.ρ (k:=σ.length) (i:=id) _ (by omega)
 have hw : ∀ b,b < w.heap.size → (g.own σ.length gb).ow b = g.ow b:=fun b h => zaF g.ow (k:=gb) (i:=b) _ (by omega)
 have H : Ext g w σ (g.own σ.length gb) w' (σ ++ [.cells 0 sz0 es0]):={
  os:=hB.os
  tape:=hB.tape
  output:=hB.output
  size:=hB.size
  keeps:=fun b i h => ⟨h,by unfold World.cell?; rw [hB.block b (R.nb b i h)]⟩
  len:=by simp
  shape:=fun id ver sz len h => by
   obtain ⟨es,h1,h2⟩:=zaL h
   have hlt:=zb h1
   refine .inl ⟨by unfold shapeOf; rw [ya hlt]; exact h,hρ id hlt,fun _ arr t ha => ⟨arr,?_,rfl⟩⟩
   rw [hB.block _ (yg.1 ha).1]
   exact ha
  map:=fun id es h => ⟨hρ id (zb h),es,by rw [ya (zb h)]; exact h⟩
  tok:=fun t k n h => by
   obtain ⟨sz,fr,h1,h2⟩:=zcS h
   exact ⟨n,zdE (by rw [ya (zb h1)]; exact h1) h2,yj _,fun _ => rfl⟩
  tsz:=fun t sz h => by
   obtain ⟨fr,h1⟩:=zet h
   exact zbV (fr:=fr) (by rw [ya (zb h1)]; exact h1)
  ow:=hw
  new:=fun b i h _ _ => h
  frame:=fun b hb _ => hB.block b hb }
 refine ⟨H,⟨fun b i h => yl (R.nb b i h) hB.size,fun id x h => ?_⟩⟩
 by_cases hlt : id < σ.length
 ·rw [ya hlt] at h
  exact zcM H (hρ id hlt) (fun _ => rfl) (fun b hb _ => ⟨hB.block b hb,hw b hb,fun _ h => h⟩) (R.ob id x h)
 ·have hid : id = σ.length:=by
   have:=zb h
   simp at this
   omega
  subst hid
  simp at h
  subst h
  intro _
  have e1 : (g.own σ.length gb).ρ σ.length = gb:=by simp [G.own]
  have e2 : (g.own σ.length gb).ow gb = .ob σ.length:=by simp [G.own]
  rw [e1]
  refine ⟨e2,fun o h => by have:=R.nb _ _ h; omega,cur,t,hgb,hl,H.zca hc⟩
end
end Go.A
namespace Go.Proofs
open Go.RowKit
open Go.A in
theorem Tryz.ext_cloneB (args : List V) (σ : zd) (v : V) (σ' : zd) (h : zlI 5 args σ = some (v,σ')) :
  Go.A.Enters Tryz.prog 62 ∧ ∀ g w us,Rel g w σ → zz g w σ args us → Calls Tryz.prog 62 us.toArray w fun e w' => ∃ u g',e = .returned u ∧ zf g' w' σ' v u ∧ Rel g' w' σ' ∧ Ext g w σ g' w' σ':=by
 refine ⟨⟨Tryz.f62,_,Tryz.func62,by kernel_rfl,rfl⟩,fun g w us R0 hv => ?_⟩
 unfold zlI at h
 split at h
 ·rename_i xs
  split at h
  ·rename_i hok
   obtain ⟨hne,hsz,hlim⟩:=hok
   injection h with h
   simp only [Prod.mk.injEq] at h
   obtain ⟨rfl,rfl⟩:=h
   simp only [zz,zf,zw] at hv
   obtain ⟨u,rest,rfl,hrep,rfl⟩:=hv
   obtain ⟨a,c,sz,zs,rfl,hnc,hlay,hadr⟩:=zmJ hrep fun x u h => zpt h
   rcases hadr with hx | ⟨b,o,rfl,hcell⟩
   ·exact absurd hx hne
   have h5 : sz = 5:=by
    have hl2:=hlay.2.1
    cases xs with
    | nil => exact absurd rfl hne
    | cons x r =>
      simp only [zbO] at hl2
      simp only [znw,yc,decide_eq_true_eq] at hsz
      rw [← hl2.1,hsz.1]
   subst h5
   unfold LIM at hlim
   have hlen : zs.length = xs.length * 5:=hlay.1
   refine Calls.mono (f:=62) (Tryz.clone_block b o xs.length c zs w hlen (by unfold maxLen; omega) (by omega) hcell (zrV (by omega) hlay)) fun e w' he => ?_
   obtain ⟨v,rfl,hrw,hnil,hB⟩:=he
   rcases hrw.2 with ⟨rfl,hz⟩ | ⟨gb,cap,cur,rfl,hbase,hgb,r1,r2,r3,r4⟩
   ·exact absurd rfl hnil
   have hpos : 0 < xs.length:=List.length_pos_iff.2 hne
   have hrow0:=ziV (σ:=σ) (g:=g) hlay
   have hrow : zca g w σ cur 5 (xs.map fun e => e.map C.f):=fun i e hi => by
    obtain ⟨q1,q2⟩:=hrow0 i e hi
    refine ⟨q1,fun j c hj => ?_⟩
    obtain ⟨u,k1,k2,k3⟩:=q2 j c hj
    refine ⟨u,?_,k2,k3⟩
    have k4 : zs[i * 5 + j]? = some u:=by simpa using k1
    rw [← r4,yN] at k4
    split at k4
    ·simpa using k4
    ·cases k4
   obtain ⟨H,R1⟩:=zBb R0 hB hgb hbase (by rw [yP,r3]; exact yH 5 r1) hrow
   refine ⟨_,_,rfl,?_,R1,H⟩
   simp only [zf,zw]
   have e1 : (g.own σ.length gb).ρ σ.length = gb:=by simp [G.own]
   exact ⟨0,5,xs.length,by simp [shapeOf,Ob.shape],yj _,fun _ => ⟨some ⟨gb,0,none⟩,cap,rfl,r1,fun h => by omega,fun h => ⟨by omega,fun _ => by rw [e1],cur,_,by rw [e1]; exact hgb,by omega⟩⟩,_,_,rfl⟩
  ·cases h
 ·cases h
end Go.Proofs
namespace AC
open Go.A Go.A.Lex
theorem zED : zvG (zDf Go.Proofs.Tryz.prog (zsj Go.Proofs.Tryz.prog)) 0 tab :=
 ⟨zbe _ 0 (by kernel_rfl),zbe _ 16 (by kernel_rfl),zbe _ 32 (by kernel_rfl),zbe _ 48 (by kernel_rfl),zbe _ 64 (by kernel_rfl),zbe _ 80 (by kernel_rfl),zbe _ 96 (by kernel_rfl),zbe _ 112 (by kernel_rfl),zbe _ 128 (by kernel_rfl),zbe _ 144 (by kernel_rfl),zbe _ 160 (by kernel_rfl),zbe _ 176 (by kernel_rfl),zbe _ 192 (by kernel_rfl),zbe _ 208 (by kernel_rfl),zbe _ 224 (by kernel_rfl),zbe _ 240 (by kernel_rfl),zbe _ 256 (by kernel_rfl),trivial⟩
theorem zFS : zw5 Go.Proofs.Tryz.prog (zsj Go.Proofs.Tryz.prog) T:=by
 refine zmi ?_ (zmi ?_ (zmi ?_ (zmi ?_ (zmi ?_ (zCg zED)))))
 ·exact Go.Proofs.Tryz.ext_cloneB
 ·exact Go.Proofs.Tryz.ext_compact
 ·exact fun args σ v σ' h => zxp (zvC (by kernel_rfl)) Go.Proofs.Tryz.func181 (by kernel_rfl) (by kernel_rfl) args σ v σ' h
 ·exact Go.Proofs.Tryz.ext_sort
 ·exact Go.Proofs.Tryz.ext_sorted
end AC
namespace Go.A
def zh5 : List (List Fz → Prop) → List Fz → Prop
 | [],cs => cs = []
 | p :: ps,cs => ∃ a b,cs = a ++ b ∧ p a ∧ zh5 ps b
def zsV (P : Program) : List Field → Nat → Nat → Bool
 | [],off,total => off == total
 | f :: fs,off,total => f.offset == off && zsV P fs (off + P.cellsOf f.type) total
def zgO (P : Program) : Nat → TypeId → Bool
 | 0,_ => false
 | n + 1,t => match P.underlying t with
   | some .bool => P.cellsOf t == 1
   | some (.int _) => P.cellsOf t == 1
   | some (.slice e) => P.cellsOf t == 1 && decide (0 < P.cellsOf e) && zgO P n e
   | some (.struct fs) => (fs.toList.all fun f => zgO P n f.type) && zsV P fs.toList 0 (P.cellsOf t)
   | some (.array m e) => zgO P n e && (P.cellsOf t == m * P.cellsOf e)
   | _ => false
theorem mapM_some {α β : Type} {f : α → Option β} : ∀ {l : List α} {ys : List β},l.mapM f = some ys → ys.length = l.length ∧ ∀ (i : Nat) (x : α),l[i]? = some x → ∃ y,ys[i]? = some y ∧ f x = some y
 | [],ys,h => by
   simp at h
   subst h
   exact ⟨rfl,fun i x hx => by simp at hx⟩
 | a :: l,ys,h => by
   rw [List.mapM_cons] at h
   cases ha : f a with
   | none => simp [ha] at h
   | some b =>
     cases hl : l.mapM f with
     | none => simp [ha,hl] at h
     | some zs =>
       simp [ha,hl] at h
       subst h
       obtain ⟨h1,h2⟩:=mapM_some hl
       refine ⟨by simp [h1],fun i x hx => ?_⟩
       cases i with
       | zero => simp at hx; subst hx; exact ⟨b,by simp,ha⟩
       | succ i => simpa using h2 i x (by simpa using hx)
theorem zpi {α : Type} {p : Nat → α → Prop} : ∀ (n : Nat),(∀ i,i < n → ∃ x,p i x) → ∃ xs : List α,xs.length = n ∧ ∀ i x,xs[i]? = some x → p i x
 | 0,_ => ⟨[],rfl,fun i x h => by simp at h⟩
 | n + 1,h => by
   obtain ⟨xs,h1,h2⟩:=zpi n fun i hi => h i (by omega)
   obtain ⟨x,hx⟩:=h n (by omega)
   refine ⟨xs ++ [x],by simp [h1],fun i y hy => ?_⟩
   rw [yK] at hy
   split at hy
   ·exact h2 i y hy
   ·rename_i hi
    have:=zb hy
    simp at this
    have e : i = n:=by omega
    subst e
    rw [h1] at hy
    simp at hy
    rw [← hy]
    exact hx
section
variable {H : Type} {enc : TypeId × Value → H} {P : Program} {w : World}
def zrH (w : World) : zf0:=fun b _ => b < w.heap.size
def zfu (w : World) (xs : List Fz) (cs : List Value) : Prop:=xs.length = cs.length ∧ ∀ (j : Nat) (x : Fz) (u : Value),xs[j]? = some x → cs[j]? = some u → rep w (zrH w) x u
theorem zfu.append {xs ys : List Fz} {cs ds : List Value} (h : zfu w xs cs) (k : zfu w ys ds) : zfu w (xs ++ ys) (cs ++ ds):=by
 refine ⟨by simp [h.1,k.1],fun j x u hx hu => ?_⟩
 rw [yK] at hx hu
 have:=h.1
 split at hx
 ·rw [if_pos (by omega)] at hu; exact h.2 j x u hx hu
 ·rw [if_neg (by omega)] at hu; rw [h.1] at hx; exact k.2 _ x u hx hu
theorem zfu.one {x : Fz} {u : Value} (h : rep w (zrH w) x u) : zfu w [x] [u] :=
 ⟨rfl,fun j y v hy hv => by
  cases j with
  | zero => simp at hy hv; rw [← hy,← hv]; exact h
  | succ j => simp at hy⟩
end
end Go.A
namespace Go.A
open Go.RowKit
def G0 (w : World) : G:=⟨fun _ => 0,fun _ _ => undef,fun _ => .no,zrH w⟩
theorem zFV (w : World) : Rel (G0 w) w []:=⟨fun _ _ h => h,fun id o h => by simp at h⟩
def zkM (P : Program) (t : TypeId) : Bool:=match P.underlying t with
 | some (.struct _) | some (.array _ _) => true
 | _ => false
def zpe (agg : Bool) (xs : List Fz) : V:=if agg then zAo xs else .one (.f (xs.headD (.lit undef)))
section
variable {H : Type} {enc : TypeId × Value → H} {P : Program} {w : World}
theorem zv8 {C : zad} (S : zgX P C) {f : Nat} {args : List V} {us : List Value} {b : Bool} (hc : C f args [] = some (ziY b,[])) (hv : zz (G0 w) w [] args us) :
  Calls P f us.toArray w fun e w' => e = .returned (.bool b) ∧ Below w.heap.size w w':=by
 obtain ⟨_,h⟩:=S f args [] (ziY b) [] hc
 refine (h (G0 w) w us (zFV w) hv).mono fun e w' he => ?_
 obtain ⟨u,g',rfl,h1,_,H⟩:=he
 obtain ⟨rfl,_⟩:=zA h1
 exact ⟨rfl,H.os,H.tape,H.output,H.size,fun k hk => H.frame k hk rfl⟩
end
end Go.A
namespace Go.A
open Go.RowKit Go.ChangeShapes
section
variable {H : Type} {enc : TypeId × Value → H} {P : Program}
theorem zwc {f : Func} {s : ChangeSpec} {apart fresh handsOn again : Bool} {W W' : World} {args : Array Value} {v : Value} {ds gs : List (DataW H)} {before : List MemPlace}
  (hW : DataW.Whole enc P f.params.toList s.vars apart W args.toList ds gs before) (hB : Below W.heap.size W W') (hv : s.vars = [])
  (hres : ∀ (b : Nat) (sp : Nat → Bool) (hd : Bool),DataW.TrodAll enc P W' b sp hd f.resultTypes.toList (v.resultList f.resultTypes.size) (s.fn H (ds ++ gs)).results [])
  (hargs : ∀ sp : Nat → Bool,(∀ p ∈ before,sp p.block = true) → DataW.TrodAll enc P W' 0 sp true f.params.toList args.toList (s.fn H (ds ++ gs)).args before)
  (hvars : (s.fn H (ds ++ gs)).vars = [])
  (hok : ∀ (j : Nat) (t : TypeId) (r : Value),f.resultTypes[j]? = some t → (v.resultList f.resultTypes.size)[j]? = some r → Value.okWide P W' .any 0 t r) :
  s.post enc P f apart fresh handsOn again W args v W':=by
 have inside : ∀ x ∈ before,x.block < W.heap.size:=hW.lt
 have mine : ∀ x ∈ before,(fun b => decide (b < W.heap.size)) x.block = true:=fun x hx => decide_eq_true (inside x hx)
 have nv : ∀ sp : Nat → Bool,DataW.TrodVars enc P W' sp s.vars (s.fn H (ds ++ gs)).vars []:=fun sp => by rw [hv,hvars]; rfl
 have whole:=hW
 obtain ⟨_,_,_,_,_,unfrozen,once⟩:=hW
 refine ⟨ds,gs,before,[],before,[],whole,hres _ _ _,hargs _ mine,nv _,World.keptBut_mono (fun x hx => ⟨hx,.inr (by simpa using hx)⟩) (hB.frame _),fun _ => ⟨hok,_,_,before,⟨before,[],trodAll_append (hargs _ fun _ _ => rfl) (hres _ _ _),nv _,by simp,fun b off hx => ?_,once⟩,fun x hx _ => by simpa using hx⟩⟩
 rw [hB.frozen (p:=⟨b,off,none⟩) (inside _ hx)]
 exact unfrozen b off hx
end
end Go.A
namespace Go.A
open Go.RowKit Go.ChangeShapes
section
variable {H : Type} {enc : TypeId × Value → H} {P : Program}
end
end Go.A
namespace AC
open Go Go.A Go.Proofs
set_option maxRecDepth 100000
theorem mixed : Tryz.prog.follows .mixedOrders = true:=by kernel_rfl
theorem zDE : zgX Tryz.prog (call T):=sound (zvC mixed) zFS
end AC
namespace Go.Proofs.YtmkncmffaaninaaGreat
open Go.ChangeShapes Go.WideShapes Go.ChangeAt Go.RowKit Go.A
theorem Tryz.own : ownKnob Tryz.prog.godebug = none:=by kernel_rfl
theorem Tryz.laidOut : laidOutB Tryz.prog = true:=by kernel_rfl
end Go.Proofs.YtmkncmffaaninaaGreat
namespace Go.A
open Go.RowKit Go.ChangeShapes
def zbm (P : Program) : Nat → TypeId → List Fz → Prop
 | 0,_,_ => False
 | n + 1,t,cs => match P.underlying t with
   | some .bool => ∃ b,cs = [.lit (.bool b)]
   | some (.int k) => ∃ x,cs = [.lit (.int k x)] ∧ (Lit.int k x).wf = true
   | some (.slice e) => ∃ xs : List (List Fz),cs = [.sl xs] ∧ xs.length * P.bytesOf e ≤ reachBytes ∧ ∀ x ∈ xs,zbm P n e x
   | some (.struct fs) => zh5 (fs.toList.map fun f => zbm P n f.type) cs
   | some (.array m e) => zh5 (yS m (zbm P n e)) cs
   | _ => False
section
variable {H : Type} {P : Program}
theorem zld {e : TypeId} : ∀ {l : List (DataW H)},(DataW.weightsAll P e l).all (· ≤ reachBytes) = true → ∀ {d},d ∈ l → (d.weights P e).all (· ≤ reachBytes) = true
 | [],_,_,hd => by simp at hd
 | x :: r,h,d,hd => by
   rw [DataW.weightsAll,yQ,yc] at h
   rcases yG.1 hd with rfl | hd
   ·exact h.1
   ·exact zld h.2 hd
theorem zjy {ts : List TypeId} {ds : List (DataW H)} (h : (DataW.weightsEach P ts ds).all (· ≤ reachBytes) = true) {j : Nat} {t : TypeId} {d : DataW H} (ht : ts[j]? = some t) (hd : ds[j]? = some d) : (d.weights P t).all (· ≤ reachBytes) = true :=
 yF.2 fun n hn => yF.1 h n (DataW.weights_mem_each ht hd n hn)
end
section
variable {H : Type} {enc : TypeId × Value → H} {P : Program} {w : World}
theorem zsR {sp : Nat → Bool} {hd : Bool} : ∀ (m : Nat) (t : TypeId) (fuel : Nat) (cs : List Value) (x : DataW H × List MemPlace),zgO P m t = true → DataW.trod enc P w 0 sp hd fuel t cs = some x → (x.1.weights P t).all (· ≤ reachBytes) = true →
  cs.length = P.cellsOf t ∧ ∃ xs,zbm P m t xs ∧ zfu w xs cs
 | 0,_,_,_,_,h,_,_ => by simp [zgO] at h
 | _ + 1,_,0,_,_,_,h,_ => by simp [DataW.trod] at h
 | m + 1,t,fuel + 1,cs,x,hp,h,hwt => by
   have ih:=fun t' fuel' cs' x' => zsR (sp:=sp) (hd:=hd) m t' fuel' cs' x'
   unfold zgO at hp
   unfold DataW.trod at h
   unfold zbm
   split at hp
   ·
    rename_i hu
    rw [hu] at h ⊢
    simp only [beq_iff_eq] at hp
    split at h <;> try (cases h; done)
    all_goals rename_i heq1 <;> try (injection heq1 with heq1; cases heq1; done)
    rename_i b
    exact ⟨by simp [hp],[.lit (.bool b)],⟨b,rfl⟩,.one (by simp [rep,zxD])⟩
   ·
    rename_i k hu
    rw [hu] at h ⊢
    simp only [beq_iff_eq] at hp
    split at h <;> try (cases h; done)
    all_goals rename_i heq1 <;> try (injection heq1 with heq1; cases heq1; done)
    rename_i k0 k1 n
    injection heq1 with heq1
    injection heq1 with heq1
    subst heq1
    split at h
    ·rename_i hc
     obtain ⟨rfl,hw⟩:=hc
     exact ⟨by simp [hp],[.lit (.int k1 n)],⟨n,rfl,hw⟩,.one (by simp [rep,zxD])⟩
    ·cases h
   ·
    rename_i e hu
    rw [hu] at h ⊢
    simp only [yc,beq_iff_eq,decide_eq_true_eq] at hp
    obtain ⟨⟨hp1,hp2⟩,hp3⟩:=hp
    split at h <;> try (cases h; done)
    all_goals rename_i heq1 <;> try (injection heq1 with heq1; cases heq1; done)
    ·refine ⟨by simp [hp1],[.sl []],⟨[],rfl,by simp,fun x hx => by simp at hx⟩,.one ?_⟩
     rw [rep]
     exact ⟨none,0,0,rfl,yj _,by simp only [zbO],.inl rfl⟩
    ·rename_i e0 a len cap
     injection heq1 with heq1
     injection heq1 with heq1
     subst heq1
     dsimp only at h
     split at h
     ·rename_i hc
      rw [yh] at h
      obtain ⟨els,h1,hx0⟩:=h
      obtain ⟨hl0,h2⟩:=mapM_some h1
      rw [yk] at hx0
      obtain ⟨rest,_,hx0⟩:=hx0
      subst hx0
      simp only [DataW.weights,hu,List.all_cons,yQ,yc,decide_eq_true_eq,yP] at hwt
      obtain ⟨hw1,hw2,_⟩:=hwt
      rw [List.length_range] at hl0
      have hel : ∀ i,i < len → ∃ ci,w.cells? 0 (a.add (i * P.cellsOf e)) (P.cellsOf e) = some ci ∧ ∃ xi,zbm P m e xi ∧ zfu w xi ci:=fun i hi => by
       obtain ⟨y,hy0,h3⟩:=h2 i i (by simp [hi])
       rw [yh] at h3
       obtain ⟨ci,h3,h4⟩:=h3
       exact ⟨ci,h3,(ih e fuel ci y hp3 h4 (zld hw2 (yV.2 ⟨y,yL hy0,rfl⟩))).2⟩
      obtain ⟨xs,hx1,hx2⟩:=zpi (p:=fun i xi => ∃ ci,w.cells? 0 (a.add (i * P.cellsOf e)) (P.cellsOf e) = some ci ∧ zbm P m e xi ∧ zfu w xi ci) len fun i hi => by
       obtain ⟨ci,q1,xi,q2,q3⟩:=hel i hi
       exact ⟨xi,ci,q1,q2,q3⟩
      refine ⟨by simp [hp1],[.sl xs],⟨xs,rfl,Nat.le_trans (yH _ (by omega)) hw1,fun y hy => ?_⟩,.one ?_⟩
      ·obtain ⟨i,hi⟩:=yu.1 hy
       obtain ⟨_,_,q2,_⟩:=hx2 i y hi
       exact q2
      ·rw [rep]
       refine ⟨some a,cap,P.cellsOf e,by rw [hx1],by omega,zdm fun y hy => ?_,?_⟩
       ·obtain ⟨i,hi⟩:=yu.1 hy
        obtain ⟨ci,q1,_,q3⟩:=hx2 i y hi
        rw [q3.1]
        exact (World.cells?_some q1).2.1
       ·rcases Nat.eq_zero_or_pos len with h0 | h0
        ·exact .inl (yd (by omega))
        ·obtain ⟨c0,q1,_⟩:=hel 0 h0
         obtain ⟨_,l0,g0⟩:=World.cells?_some q1
         have hc0:=g0 0 hp2
         rw [Nat.zero_mul,Addr.add_zero',Addr.add_zero',yb (by omega)] at hc0
         have hspot:=World.cell?_spot hc0
         obtain ⟨b,o,s⟩:=a
         simp only at hspot
         subst hspot
         refine .inr ⟨b,o,rfl,zeA fun i y hi => ?_⟩
         obtain ⟨ci,q1,_,q3⟩:=hx2 i y hi
         obtain ⟨_,l1,g1⟩:=World.cells?_some q1
         refine zf3 fun j z hj => ?_
         have hjl : j < ci.length:=by rw [← q3.1]; exact zb hj
         have hcell:=g1 j (by omega)
         rw [zaA,zaA,yb hjl] at hcell
         exact ⟨ci[j],World.block_lt_of_cell? w ⟨b,o + i * P.cellsOf e + j,none⟩ hcell,hcell,q3.2 j z _ hj (yb hjl)⟩
     ·cases h
   ·
    rename_i fs hu
    rw [hu] at h ⊢
    simp only [yc] at hp
    obtain ⟨hp1,hp2⟩:=hp
    dsimp only at h
    split at h
    ·rename_i hlen
     refine ⟨hlen,?_⟩
     rw [yk] at h
     obtain ⟨ys,h1,hx0⟩:=h
     subst hx0
     simp only [DataW.weights,hu] at hwt
     obtain ⟨_,h2⟩:=mapM_some h1
     have key : ∀ (l : List Field) (off : Nat),(∀ f ∈ l,f ∈ fs.toList) → zsV P l off (P.cellsOf t) = true → ∃ xs,zh5 (l.map fun f => zbm P m f.type) xs ∧ zfu w xs (cs.drop off):=by
      intro l
      induction l with
      | nil =>
        intro off _ hcg
        simp only [zsV,beq_iff_eq] at hcg
        exact ⟨[],by simp only [yy,zh5],by rw [yE (by omega)]; exact ⟨rfl,fun j x u h => by simp at h⟩⟩
      | cons f l ihl =>
        intro off hmem hcg
        simp only [zsV,yc,beq_iff_eq] at hcg
        obtain ⟨hf,hcg⟩:=hcg
        obtain ⟨xs,q1,q2⟩:=ihl (off + P.cellsOf f.type) (fun g hg => hmem g (yM _ hg)) hcg
        obtain ⟨i,hi⟩:=yu.1 (hmem f (by simp))
        obtain ⟨y,hy0,h3⟩:=h2 i f hi
        obtain ⟨_,as,q3,q4⟩:=ih f.type fuel _ y (yF.1 hp1 f (hmem f (by simp))) h3 (zjy hwt (j:=i) (by rw [ye,hi]; rfl) (by rw [ye,hy0]; rfl))
        rw [hf] at q4
        refine ⟨as ++ xs,by simp only [yp,zh5]; exact ⟨as,xs,rfl,q3,q1⟩,?_⟩
        have e1 : cs.drop off = (cs.drop off).take (P.cellsOf f.type) ++ cs.drop (off + P.cellsOf f.type):=by
         rw [← yT,yI]
        rw [e1]
        exact q4.append q2
     obtain ⟨xs,q1,q2⟩:=key fs.toList 0 (fun f h => h) hp2
     exact ⟨xs,q1,by simpa using q2⟩
    ·cases h
   ·
    rename_i n e hu
    rw [hu] at h ⊢
    simp only [yc,beq_iff_eq] at hp
    obtain ⟨hp1,hp2⟩:=hp
    dsimp only at h
    split at h
    ·rename_i hlen
     refine ⟨hlen,?_⟩
     rw [yk] at h
     obtain ⟨ys,h1,hx0⟩:=h
     subst hx0
     simp only [DataW.weights,hu] at hwt
     obtain ⟨_,h2⟩:=mapM_some h1
     have key : ∀ (k i : Nat),i + k = n → ∃ xs,zh5 (yS k (zbm P m e)) xs ∧ zfu w xs (cs.drop (i * P.cellsOf e)):=by
      intro k
      induction k with
      | zero =>
        intro i hik
        have : i = n:=by omega
        subst this
        exact ⟨[],rfl,by rw [yE (by omega)]; exact ⟨rfl,fun j x u h => by simp at h⟩⟩
      | succ k ihk =>
        intro i hik
        obtain ⟨xs,q1,q2⟩:=ihk (i + 1) (by omega)
        obtain ⟨y,hy0,h3⟩:=h2 i i (List.getElem?_range (by omega))
        obtain ⟨_,as,q3,q4⟩:=ih e fuel _ y hp1 h3 (zld hwt (yV.2 ⟨y,yL hy0,rfl⟩))
        refine ⟨as ++ xs,by simp only [List.replicate_succ,zh5]; exact ⟨as,xs,rfl,q3,q1⟩,?_⟩
        have e1 : cs.drop (i * P.cellsOf e) = (cs.drop (i * P.cellsOf e)).take (P.cellsOf e) ++ cs.drop ((i + 1) * P.cellsOf e):=by
         rw [Nat.add_mul,Nat.one_mul,← yT,yI]
        rw [e1]
        exact q4.append q2
     obtain ⟨xs,q1,q2⟩:=key n 0 (by omega)
     exact ⟨xs,q1,by simpa using q2⟩
    ·cases h
   ·cases hp
theorem zvc {m : Nat} {t : TypeId} {v : Value} {d : DataW H} {ps : List MemPlace} {base : Nat} {sp : Nat → Bool} {hd : Bool} (hp : zgO P m t = true) (hok : Value.okWide P w .any base t v) (h : DataW.Trod enc P w 0 sp hd t v d ps) (hwt : (d.weights P t).all (· ≤ reachBytes) = true) :
  ∃ xs,zbm P m t xs ∧ zf (G0 w) w [] (zpe (zkM P t) xs) v:=by
 obtain ⟨fuel,h⟩:=h
 obtain ⟨hl,xs,h1,h2⟩:=zsR m t fuel _ _ hp h hwt
 refine ⟨xs,h1,?_⟩
 have agg : zkM P t = true → zf (G0 w) w [] (zpe (zkM P t) xs) v:=fun ha => by
  have : ∃ cs,v = .agg cs:=by
   unfold zkM at ha
   unfold Value.okWide at hok
   split at ha
   ·rename_i heq; rw [heq] at hok; obtain ⟨cs,e,_⟩:=hok; exact ⟨cs,e⟩
   ·rename_i heq; rw [heq] at hok; obtain ⟨cs,e,_⟩:=hok; exact ⟨cs,e⟩
   ·cases ha
  obtain ⟨cs,rfl⟩:=this
  rw [ha]
  simp only [zpe,if_true,zAo,zf]
  exact ⟨cs,rfl,zpE (by simpa [Value.cells] using h2.1.symm) fun j x u hx hu => h2.2 j x u hx (by simpa [Value.cells] using hu)⟩
 cases ha : zkM P t with
 | true => rw [← ha]; exact agg ha
 | false =>
   have hone : v.oneCell' = true ∧ P.cellsOf t = 1:=by
    cases m with
    | zero => simp [zgO] at hp
    | succ m =>
      unfold zgO at hp
      unfold zkM at ha
      unfold Value.okWide at hok
      split at hp
      ·rename_i hu
       simp only [beq_iff_eq] at hp
       simp only [hu,Cell.okWide] at hok
       refine ⟨?_,hp⟩
       cases v <;> simp_all [Cell.okWide,Cell.ok,Value.oneCell']
      ·rename_i k hu
       simp only [beq_iff_eq] at hp
       simp only [hu,Cell.okWide] at hok
       refine ⟨?_,hp⟩
       cases v <;> simp_all [Cell.okWide,Cell.ok,Value.oneCell']
      ·rename_i e hu
       simp only [yc,beq_iff_eq] at hp
       simp only [hu,Cell.okWide] at hok
       refine ⟨?_,hp.1.1⟩
       cases v <;> simp_all [Cell.okWide,Cell.ok,Value.oneCell']
      ·rename_i hu; rw [hu] at ha; simp at ha
      ·rename_i hu; rw [hu] at ha; simp at ha
      ·cases hp
   have hc:=zs7 hone.1
   rw [hc] at h2
   obtain ⟨q1,q2⟩:=h2
   match xs,q1 with
   | [x],_ =>
     simp only [zpe,Bool.false_eq_true,if_false,List.headD_cons,zf,zw]
     exact q2 0 x v (by simp) (by simp)
end
section
variable {H : Type} {enc : TypeId × Value → H} {P : Program}
theorem zBM {C : zad} (S : zgX P C) {f : Nat} {fn : Func} {s : ChangeSpec} {t1 t2 tb m1 m2 : Nat} {apart fresh handsOn again : Bool}
  (hl : laidOutB P = true) (hpar : fn.params = #[t1,t2]) (hres : fn.resultTypes = #[tb]) (hb : P.underlying tb = some .bool) (hvars : s.vars = [])
  (r1 : P.readableRec t1 = true) (r2 : P.readableRec t2 = true) (z1 : t1 < P.types.size) (z2 : t2 < P.types.size) (p1 : zgO P m1 t1 = true) (p2 : zgO P m2 t2 = true)
  (hfn : ∀ (d1 d2 : DataW H),(s.fn H [d1,d2]).results = [.lit (.bool true)] ∧ (s.fn H [d1,d2]).args = [d1,d2] ∧ (s.fn H [d1,d2]).vars = [])
  (hA : ∀ x1 x2,zbm P m1 t1 x1 → zbm P m2 t2 x2 → C f [zpe (zkM P t1) x1,zpe (zkM P t2) x2] [] = some (ziY true,[]))
  {W : World} {base : Nat} {args : Array Value} {ds gs : List (DataW H)} {before : List MemPlace}
  (hval : ∀ (j : Nat) t v,fn.params[j]? = some t → args[j]? = some v → Value.okWide P W .any base t v)
  (hW : DataW.Whole enc P fn.params.toList s.vars apart W args.toList ds gs before)
  (hsz : (DataW.weightsEach P (fn.params.toList ++ s.plain.varTypes P) (ds ++ gs)).all (· ≤ reachBytes) = true) :
  Calls P f args W fun e W' => ∃ v,e = .returned v ∧ s.post enc P fn apart fresh handsOn again W args v W':=by
 have hW':=hW
 obtain ⟨p,q,hA0,hV,rfl,hfz,hnd⟩:=hW
 rw [hpar] at hA0 hval hsz
 obtain ⟨v1,v2,d1,d2,q1,q2,rfl,rfl,rfl,h1,h2⟩:=trodAll_two hA0
 rw [hvars] at hV
 obtain ⟨rfl,rfl⟩:=trodVars_none hV
 obtain ⟨x1,k1,e1⟩:=zvc p1 (hval 0 t1 v1 rfl rfl) h1 (zjy hsz (j:=0) rfl rfl)
 obtain ⟨x2,k2,e2⟩:=zvc p2 (hval 1 t2 v2 rfl rfl) h2 (zjy hsz (j:=1) rfl rfl)
 have hv : zz (G0 W) W [] [zpe (zkM P t1) x1,zpe (zkM P t2) x2] [v1,v2]:=by
  simp only [zz]
  exact ⟨v1,[v2],rfl,e1,v2,[],rfl,e2,rfl⟩
 refine (zv8 S (hA x1 x2 k1 k2) hv).mono fun e W' he => ?_
 obtain ⟨rfl,hB⟩:=he
 obtain ⟨f1,f2,f3⟩:=hfn d1 d2
 have hlt:=hW'.lt
 have g1 : ∀ x ∈ q1,x.block < W.heap.size:=fun x hx => hlt x (by simp [hx])
 have g2 : ∀ x ∈ q2,x.block < W.heap.size:=fun x hx => hlt x (by simp [hx])
 refine ⟨_,rfl,zwc hW' hB hvars (fun _ _ _ => ?_) (fun sp hsp => ?_) (by rw [yB,f3]) (ok_one hres rfl (okWide_bool_mk hb _))⟩
 ·rw [hres]
  show DataW.TrodAll enc P W' _ _ _ [tb] [.bool true] (s.fn H ([d1,d2] ++ [])).results []
  rw [yB,f1]
  exact trodAll_mk1 (shut_bool hb _)
 ·rw [hpar]
  show DataW.TrodAll enc P W' 0 sp true [t1,t2] [v1,v2] (s.fn H ([d1,d2] ++ [])).args (q1 ++ q2 ++ [])
  rw [yB,yB,f2]
  exact trodAll_mk2 (WideElems.Trod_stays hl r1 z1 h1 (fun x hx => hB.same (g1 x hx)) (fun x hx => hsp x (by simp [hx]))) (WideElems.Trod_stays hl r2 z2 h2 (fun x hx => hB.same (g2 x hx)) (fun x hx => hsp x (by simp [hx])))
end
end Go.A
namespace AC
open Go Go.A Go.Proofs
set_option maxRecDepth 100000
theorem zBO {n b : Nat} (hb : 1 ≤ b) (h : n * b ≤ reachBytes) : n ≤ LB:=by
 have : n * 1 ≤ n * b:=Nat.mul_le_mul_left n hb
 unfold reachBytes at h
 unfold LB
 omega
theorem zDJ {m : Nat} {x : List Fz} (h : zbm Tryz.prog m 49 x) : ∃ n,x = [.lit (.int .u64 n)] ∧ 0 ≤ n ∧ n < 18446744073709551616:=by
 cases m with
 | zero => exact h.elim
 | succ m =>
   unfold zbm at h
   rw [Tryz.underlying49] at h
   obtain ⟨n,h1,h2⟩:=h
   refine ⟨n,h1,?_⟩
   simp only [Lit.wf,yc,decide_eq_true_eq] at h2
   have e : IntKind.u64.max = 18446744073709551615:=by decide
   have e2 : IntKind.u64.min = 0:=by decide
   omega
theorem zD7 {m : Nat} {x : List Fz} (h : zbm Tryz.prog m 5 x) : ∃ n,x = [.lit (.int .u8 n)] ∧ 0 ≤ n ∧ n < 256:=by
 cases m with
 | zero => exact h.elim
 | succ m =>
   unfold zbm at h
   rw [Tryz.underlying5] at h
   obtain ⟨n,h1,h2⟩:=h
   refine ⟨n,h1,?_⟩
   simp only [Lit.wf,yc,decide_eq_true_eq] at h2
   have e : IntKind.u8.max = 255:=by decide
   have e2 : IntKind.u8.min = 0:=by decide
   omega
theorem zhM {m : Nat} {x : List Fz} (h : zbm Tryz.prog m 3 x) : ∃ n,x = ri n ∧ -9223372036854775808 ≤ n ∧ n ≤ 9223372036854775807:=by
 cases m with
 | zero => exact h.elim
 | succ m =>
   unfold zbm at h
   rw [Tryz.underlying3] at h
   obtain ⟨n,h1,h2⟩:=h
   refine ⟨n,h1,?_⟩
   simp only [Lit.wf,yc,decide_eq_true_eq] at h2
   have e : IntKind.i64.max = 9223372036854775807:=by decide
   have e2 : IntKind.i64.min = -9223372036854775808:=by decide
   omega
theorem zo7 {α : Type} {P : List Fz → Prop} {r : α → List Fz} {q : α → Prop} (h : ∀ x,P x → ∃ a,x = r a ∧ q a) : ∀ xs : List (List Fz),(∀ x ∈ xs,P x) → ∃ l : List α,xs = l.map r ∧ ∀ a ∈ l,q a
 | [],_ => ⟨[],rfl,fun _ h => by simp at h⟩
 | x :: xs,hx => by
   obtain ⟨l,rfl,h2⟩:=zo7 h xs fun y hy => hx y (yM _ hy)
   obtain ⟨a,rfl,ha⟩:=h x (hx x List.mem_cons_self)
   refine ⟨a :: l,rfl,fun u hu => ?_⟩
   rcases yG.1 hu with rfl | hu
   ·exact ha
   ·exact h2 u hu
theorem b3 : 1 ≤ Tryz.prog.bytesOf 3:=of_decide_eq_true (by kernel_rfl)
theorem b27 : 1 ≤ Tryz.prog.bytesOf 51:=of_decide_eq_true (by kernel_rfl)
theorem b61 : 1 ≤ Tryz.prog.bytesOf 74:=of_decide_eq_true (by kernel_rfl)
theorem b32 : 1 ≤ Tryz.prog.bytesOf 44:=of_decide_eq_true (by kernel_rfl)
theorem zl7 {m : Nat} {x : List Fz} (h : zbm Tryz.prog m 22 x) : ∃ l : List Int,x = rl l ∧ l.length ≤ LB ∧ ∀ n ∈ l,-9223372036854775808 ≤ n ∧ n ≤ 9223372036854775807:=by
 cases m with
 | zero => exact h.elim
 | succ m =>
   unfold zbm at h
   rw [Tryz.underlying22] at h
   obtain ⟨xs,rfl,hn,hx⟩:=h
   obtain ⟨l,rfl,hl⟩:=zo7 (fun x hx => zhM hx) xs hx
   exact ⟨l,rfl,by simpa using zBO b3 hn,hl⟩
theorem zEr {m : Nat} {x : List Fz} (h : zbm Tryz.prog m 51 x) : ∃ o : POp,x = ro o ∧ (0 ≤ o.imm ∧ o.imm < 18446744073709551616) ∧ o.args.length ≤ LB:=by
 cases m with
 | zero => exact h.elim
 | succ m =>
   unfold zbm at h
   rw [Tryz.underlying51] at h
   simp only [yp,yy,zh5] at h
   obtain ⟨p1,q1,rfl,h1,p2,q2,rfl,h2,p3,q3,rfl,h3,p4,q4,rfl,h4,p5,q5,rfl,h5,p6,q6,rfl,h6,rfl⟩:=h
   obtain ⟨a,rfl,_⟩:=zhM h1
   obtain ⟨b,rfl,_⟩:=zhM h2
   obtain ⟨c,rfl,_⟩:=zhM h3
   obtain ⟨d,rfl,_⟩:=zhM h4
   obtain ⟨e,rfl,he,_⟩:=zl7 h5
   obtain ⟨g,rfl,hg⟩:=zDJ h6
   exact ⟨⟨a,b,c,d,e,g⟩,rfl,hg,he⟩
theorem zCJ {m : Nat} {x : List Fz} (h : zbm Tryz.prog m 74 x) : ∃ p : PPhi,x = rp p ∧ p.src.length ≤ LB ∧ p.args.length ≤ LB:=by
 cases m with
 | zero => exact h.elim
 | succ m =>
   unfold zbm at h
   rw [Tryz.underlying74] at h
   simp only [yp,yy,zh5] at h
   obtain ⟨p1,q1,rfl,h1,p2,q2,rfl,h2,p3,q3,rfl,h3,p4,q4,rfl,h4,rfl⟩:=h
   obtain ⟨a,rfl,_⟩:=zhM h1
   obtain ⟨b,rfl,_⟩:=zhM h2
   obtain ⟨c,rfl,hc,_⟩:=zl7 h3
   obtain ⟨d,rfl,hd,_⟩:=zl7 h4
   exact ⟨⟨a,b,c,d⟩,rfl,hc,hd⟩
theorem zyb {m : Nat} {x : List Fz} (h : zbm Tryz.prog m 44 x) : ∃ b : PBlock,x = rb b ∧ anyB b:=by
 cases m with
 | zero => exact h.elim
 | succ m =>
   unfold zbm at h
   rw [Tryz.underlying44] at h
   simp only [yp,yy,zh5] at h
   obtain ⟨p1,q1,rfl,h1,p2,q2,rfl,h2,p3,q3,rfl,h3,rfl⟩:=h
   cases m with
   | zero => exact h1.elim
   | succ m =>
     unfold zbm at h1 h2 h3
     rw [Tryz.underlying39] at h1
     rw [Tryz.underlying40] at h2
     rw [Tryz.underlying42] at h3
     simp only [yp,yy,zh5] at h3
     obtain ⟨xs,rfl,n1,k1⟩:=h1
     obtain ⟨ys,rfl,n2,k2⟩:=h2
     obtain ⟨r1,s1,rfl,g1,r2,s2,rfl,g2,r3,s3,rfl,g3,rfl⟩:=h3
     obtain ⟨a,rfl,_⟩:=zhM g1
     obtain ⟨b,rfl,_⟩:=zhM g2
     obtain ⟨c,rfl,hc,_⟩:=zl7 g3
     obtain ⟨phis,rfl,hp⟩:=zo7 (fun x hx => zCJ hx) xs k1
     obtain ⟨ops,rfl,ho⟩:=zo7 (fun x hx => zEr hx) ys k2
     refine ⟨⟨phis,ops,a,b,c⟩,rfl,?_,?_,hp,ho,hc⟩
     ·simpa using zBO b61 n1
     ·simpa using zBO b27 n2
theorem zBs {m : Nat} {x : List Fz} (h : zbm Tryz.prog m 25 x) : ∃ f : PFunc,zpe true x = zhc f ∧ anyF f:=by
 cases m with
 | zero => exact h.elim
 | succ m =>
   unfold zbm at h
   rw [Tryz.underlying25] at h
   simp only [yp,yy,zh5] at h
   obtain ⟨p1,q1,rfl,h1,p2,q2,rfl,h2,p3,q3,rfl,h3,rfl⟩:=h
   obtain ⟨a,rfl,ha,_⟩:=zl7 h1
   obtain ⟨b,rfl,_⟩:=zhM h2
   cases m with
   | zero => exact h3.elim
   | succ m =>
     unfold zbm at h3
     rw [Tryz.underlying23] at h3
     obtain ⟨xs,rfl,n1,k1⟩:=h3
     obtain ⟨l,rfl,hl⟩:=zo7 (fun x hx => zyb hx) xs k1
     refine ⟨⟨a,b,l⟩,rfl,ha,?_,hl⟩
     simpa using zBO b32 n1
end AC
namespace AC
open Go Go.A Go.Proofs
set_option maxRecDepth 100000
theorem zoz (x1 x2 : List Fz) (h1 : zbm Tryz.prog 8 25 x1) (h2 : zbm Tryz.prog 8 5 x2) :
  call T 5 [zpe true x1,zpe false x2] [] = some (ziY true,[]):=by
 obtain ⟨f1,e1,hf1⟩:=zBs h1
 rw [e1]
 obtain ⟨y2,rfl,b2⟩:=zD7 h2
 exact zxO f1 hf1 y2 b2
end AC
namespace Go.Proofs.YtmkncmffaaninaaGreat
open Go.ChangeShapes Go.WideShapes Go.ChangeAt Go.RowKit Go.A
set_option maxRecDepth 100000 in
theorem zmx (os : Os) (started : os.Started) (H : Type) (enc : TypeId × Value → H) :
  ReturnsInHanded {} Tryz.checked os 5 .any (Rows.schedDepthSpec.pre6 enc Tryz.prog Tryz.f5 Rows.schedDepthRow.domain false) (Rows.schedDepthSpec.post enc Tryz.prog Tryz.f5 false true false false):=by
 refine returnsInHanded_of_change_sized (C:=Tryz.checked) Tryz.own started (by kernel_rfl) Tryz.func5
  (ChangeSpec.witness6 (enc:=enc) (C:=Tryz.checked) false ⟨#[],#[.agg #[.slice none 0 0,.int .i64 0,.slice none 0 0],.int .u8 0],[]⟩ 8 (by kernel_rfl) (by kernel_rfl) (by kernel_rfl) (by kernel_rfl)) ?_
 intro W base args ds gs before hval hW _ hsz _
 exact zBM (m1:=8) (m2:=8) (t1:=25) (t2:=5) (tb:=4) AC.zDE Tryz.laidOut Tryz.params5 (by kernel_rfl) (by kernel_rfl) rfl (by kernel_rfl) (by kernel_rfl) (of_decide_eq_true (by kernel_rfl)) (of_decide_eq_true (by kernel_rfl)) (by kernel_rfl) (by kernel_rfl) (fun _ _ => ⟨rfl,rfl,rfl⟩) AC.zoz hval hW hsz
end Go.Proofs.YtmkncmffaaninaaGreat
