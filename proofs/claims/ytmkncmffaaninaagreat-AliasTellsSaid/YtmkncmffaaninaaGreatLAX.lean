/- A part of the proof of AliasTells. Conditions: none. -/
import Derived.Shelf.SlIterI.Sorted
import Derived.Shelf.SortM.Plain
import Derived.Shelf.SortM.SortNone
import Derived.Ground.GgzProg
import Derived.Ground.SlgmProg
import Derived.Test.YtmkncmffaaninaaGreatProg
import Derived.Shelf.SlicesG.CompactI
import Derived.Test.YtmkncmffaaninaaGreatLAW
import Derived.RangeFuncBox
import Derived.RangeFuncLeaves
import Derived.WalkKit
import Derived.OwnWalkIn
import Derived.TacticsInMore
import Derived.LoopNIn
import Derived.LoopIn
import Derived.Test.YtmkncmffaaninaaGreatLAJ
import Derived.Test.YtmkncmffaaninaaGreatLAF
import GoSem.ClaimChange
import Derived.DataReads
import Derived.ProofKit
import Derived.Test.YtmkncmffaaninaaGreatRows
set_option linter.all false
open List renaming getElem?_append_left → ya,getElem?_eq_some_iff → yb,eq_nil_of_length_eq_zero → yc,append_toArray → yh,size_toArray → yj,push_toArray → yk,length_cons → ym,cons_append → yn,length_nil → yp,nil_append → yq,getElem?_map → yr,getElem?_append → yv,replicate → yw
open Option renaming bind_eq_some_iff → yd,map_eq_some_iff → yl
open Array renaming getElem?_eq_some_iff → ye,replicate_succ → yf,replicate_zero → yg
open Nat renaming le_refl → yi,lt_of_lt_of_le → yo,reduceAdd → yt,reduceSub → yu,add_zero → yx,mul_one → yy
namespace Go.Proofs
open Go.Shelf
def Tryz.sorted_ren : Go.Shelf.Ren:=⟨fun | 6 => 145 | 8 => 176 | 9 => 117 | 11 => 226 | 13 => 168 | 12 => 167 | 23 => 222 | 24 => 223 | 14 => 213 | 15 => 214 | 16 => 215 | 17 => 216 | 18 => 217 | 19 => 218 | 20 => 219 | 21 => 220 | 22 => 221 | 25 => 241 | 26 => 242 | 27 => 243 | 28 => 244 | 29 => 245 | 30 => 246 | 31 => 256 | n => n,fun | 26 => 3 | 28 => 177 | 24 => 22 | 0 => 0 | 3 => 3 | 37 => 199 | 48 => 230 | 50 => 49 | 4 => 4 | 40 => 225 | 39 => 224 | 45 => 138 | 5 => 5 | 9 => 9 | 51 => 244 | 55 => 248 | 57 => 254 | 58 => 144 | 33 => 48 | n => n,fun | n => n⟩
theorem Tryz.sorted : Go.Proofs.SlLaysZI.n6 Tryz.prog Tryz.sorted_ren:={
 mixed:=by kernel_rfl
 f6:=⟨Tryz.f145.name,by decide,Tryz.func145.trans (congrArg some (by kernel_rfl))⟩
 f8:=⟨Tryz.f176.name,by decide,Tryz.func176.trans (congrArg some (by kernel_rfl))⟩
 f11:=⟨Tryz.f226.name,by decide,Tryz.func226.trans (congrArg some (by kernel_rfl))⟩
 t0:=Tryz.underlying0
 a0:=Tryz.isAgg0
 z0:=Tryz.sizeOf0
 v0:=Tryz.zeroValue0
 t24:=Tryz.underlying22
 a24:=Tryz.isAgg22
 z24:=Tryz.sizeOf22
 v24:=Tryz.zeroValue22
 t26:=Tryz.underlying3
 a26:=Tryz.isAgg3
 z26:=Tryz.sizeOf3
 v26:=Tryz.zeroValue3
 t28:=Tryz.underlying177
 a28:=Tryz.isAgg177
 z28:=Tryz.sizeOf177
 v28:=Tryz.zeroValue177
 i26:=by kernel_rfl }
def Tryz.sort_ren : Go.Shelf.Ren:=⟨fun | 5 => 117 | 8 => 168 | 7 => 167 | 19 => 222 | 20 => 223 | 10 => 213 | 11 => 214 | 12 => 215 | 13 => 216 | 14 => 217 | 15 => 218 | 16 => 219 | 17 => 220 | 18 => 221 | 30 => 241 | 31 => 242 | 32 => 243 | 33 => 244 | 34 => 245 | 35 => 246 | 40 => 256 | n => n,fun | 23 => 22 | 25 => 3 | 3 => 3 | 32 => 199 | 22 => 22 | 0 => 0 | 44 => 230 | 46 => 49 | 4 => 4 | 36 => 225 | 35 => 224 | 41 => 138 | 5 => 5 | 9 => 9 | 53 => 244 | 57 => 248 | 63 => 254 | 64 => 144 | n => n,fun | n => n⟩
theorem Tryz.sort : Go.Proofs.SlLaysM.n5 Tryz.prog Tryz.sort_ren:={
 mixed:=by kernel_rfl
 f5:=⟨Tryz.f117.name,by decide,Tryz.func117.trans (congrArg some (by kernel_rfl))⟩
 f7:=⟨Tryz.f167.name,by decide,Tryz.func167.trans (congrArg some (by kernel_rfl))⟩
 f8:=Tryz.func168.trans (congrArg some (by kernel_rfl))
 f10:=⟨Tryz.f213.name,by decide,Tryz.func213.trans (congrArg some (by kernel_rfl))⟩
 f11:=⟨Tryz.f214.name,by decide,Tryz.func214.trans (congrArg some (by kernel_rfl))⟩
 f12:=⟨Tryz.f215.name,by decide,Tryz.func215.trans (congrArg some (by kernel_rfl))⟩
 f13:=⟨Tryz.f216.name,by decide,Tryz.func216.trans (congrArg some (by kernel_rfl))⟩
 f14:=⟨Tryz.f217.name,by decide,Tryz.func217.trans (congrArg some (by kernel_rfl))⟩
 f15:=⟨Tryz.f218.name,by decide,Tryz.func218.trans (congrArg some (by kernel_rfl))⟩
 f16:=⟨Tryz.f219.name,by decide,Tryz.func219.trans (congrArg some (by kernel_rfl))⟩
 f17:=⟨Tryz.f220.name,by decide,Tryz.func220.trans (congrArg some (by kernel_rfl))⟩
 f18:=⟨Tryz.f221.name,by decide,Tryz.func221.trans (congrArg some (by kernel_rfl))⟩
 f19:=Tryz.func222.trans (congrArg some (by kernel_rfl))
 f20:=Tryz.func223.trans (congrArg some (by kernel_rfl))
 f30:=⟨Tryz.f241.name,by decide,Tryz.func241.trans (congrArg some (by kernel_rfl))⟩
 f31:=Tryz.func242.trans (congrArg some (by kernel_rfl))
 f32:=Tryz.func243.trans (congrArg some (by kernel_rfl))
 f33:=⟨Tryz.f244.name,by decide,Tryz.func244.trans (congrArg some (by kernel_rfl))⟩
 f34:=⟨Tryz.f245.name,by decide,Tryz.func245.trans (congrArg some (by kernel_rfl))⟩
 f35:=⟨Tryz.f246.name,by decide,Tryz.func246.trans (congrArg some (by kernel_rfl))⟩
 f40:=⟨Tryz.f256.name,by decide,Tryz.func256.trans (congrArg some (by kernel_rfl))⟩
 t0:=Tryz.underlying0
 a0:=Tryz.isAgg0
 z0:=Tryz.sizeOf0
 v0:=Tryz.zeroValue0
 t3:=Tryz.underlying3
 a3:=Tryz.isAgg3
 z3:=Tryz.sizeOf3
 v3:=Tryz.zeroValue3
 t4:=Tryz.underlying4
 a4:=Tryz.isAgg4
 z4:=Tryz.sizeOf4
 v4:=Tryz.zeroValue4
 t5:=Tryz.underlying5
 a5:=Tryz.isAgg5
 z5:=Tryz.sizeOf5
 v5:=Tryz.zeroValue5
 t9:=Tryz.underlying9
 a9:=Tryz.isAgg9
 z9:=Tryz.sizeOf9
 v9:=Tryz.zeroValue9
 t22:=Tryz.underlying22
 a22:=Tryz.isAgg22
 z22:=Tryz.sizeOf22
 v22:=Tryz.zeroValue22
 t23:=Tryz.underlying22
 a23:=Tryz.isAgg22
 z23:=Tryz.sizeOf22
 v23:=Tryz.zeroValue22
 t25:=Tryz.underlying3
 a25:=Tryz.isAgg3
 z25:=Tryz.sizeOf3
 v25:=Tryz.zeroValue3
 t32:=Tryz.underlying199
 a32:=Tryz.isAgg199
 z32:=Tryz.sizeOf199
 v32:=Tryz.zeroValue199
 t35:=Tryz.underlying224
 a35:=Tryz.isAgg224
 z35:=Tryz.sizeOf224
 v35:=Tryz.zeroValue224
 t36:=Tryz.underlying225
 a36:=Tryz.isAgg225
 z36:=Tryz.sizeOf225
 v36:=Tryz.zeroValue225
 t41:=Tryz.underlying138
 a41:=Tryz.isAgg138
 z41:=Tryz.sizeOf138
 v41:=Tryz.zeroValue138
 t44:=Tryz.underlying230
 a44:=Tryz.isAgg230
 z44:=Tryz.sizeOf230
 v44:=Tryz.zeroValue230
 t46:=Tryz.underlying49
 a46:=Tryz.isAgg49
 z46:=Tryz.sizeOf49
 v46:=Tryz.zeroValue49
 t53:=Tryz.underlying244
 a53:=Tryz.isAgg244
 z53:=Tryz.sizeOf244
 v53:=Tryz.zeroValue244
 t57:=Tryz.underlying248
 a57:=Tryz.isAgg248
 z57:=Tryz.sizeOf248
 v57:=Tryz.zeroValue248
 t63:=Tryz.underlying254
 a63:=Tryz.isAgg254
 z63:=Tryz.sizeOf254
 v63:=Tryz.zeroValue254
 t64:=Tryz.underlying144
 a64:=Tryz.isAgg144
 z64:=Tryz.sizeOf144
 v64:=Tryz.zeroValue144 }
def Tryz.compact_ren : Go.Shelf.Ren:=⟨fun | 43 => 118 | n => n,fun | 22 => 22 | 23 => 3 | 3 => 3 | 4 => 4 | 0 => 0 | n => n,fun n => n⟩
theorem Tryz.compact : Go.Proofs.SlLaysN.n43 Tryz.prog Tryz.compact_ren:={
 mixed:=by kernel_rfl
 f43:=⟨Tryz.f118.name,by decide,Tryz.func118.trans (congrArg some (by kernel_rfl))⟩
 t0:=Tryz.underlying0
 a0:=Tryz.isAgg0
 z0:=Tryz.sizeOf0
 v0:=Tryz.zeroValue0
 t3:=Tryz.underlying3
 a3:=Tryz.isAgg3
 z3:=Tryz.sizeOf3
 v3:=Tryz.zeroValue3
 t4:=Tryz.underlying4
 a4:=Tryz.isAgg4
 z4:=Tryz.sizeOf4
 v4:=Tryz.zeroValue4
 t22:=Tryz.underlying22
 a22:=Tryz.isAgg22
 z22:=Tryz.sizeOf22
 v22:=Tryz.zeroValue22
 t23:=Tryz.underlying3
 a23:=Tryz.isAgg3
 z23:=Tryz.sizeOf3
 v23:=Tryz.zeroValue3
 i23:=by kernel_rfl }
end Go.Proofs
namespace Go.Proofs
open Go.A Go.Sort
theorem zAQ {g : G} {w : World} {σ : zd} {id b : Nat} (d : σ[id]? = some (.cells b 1 [])) {u : Value} (e : zh g w σ (.one (.own id b 0 0)) u) : ∃ a,u = .slice a 0 0:=by
 obtain ⟨a,c,e1,e2,e3,e4⟩:=zh4 e d;exact ⟨a,by rw [e1,e3 rfl]⟩
theorem zqy {σ : zd} {id : Nat} {o : Ob} (h : σ[id]? = some o) : σ.set id o = σ:=by
 apply List.ext_getElem?;intro j;rw [List.getElem?_set]
 by_cases e : id = j
 ·subst e
  rw [if_pos rfl,if_pos (yb.1 h).1,h]
 ·rw [if_neg e]
theorem Tryz.ext_compact (args : List V) (σ : zd) (v : V) (σ' : zd) (h : zjT args σ = some (v,σ')) :
  Go.A.Enters Tryz.prog 118 ∧ ∀ g w us,Rel g w σ → zW g w σ args us → Calls Tryz.prog 118 us.toArray w fun e w' => ∃ u g',e = .returned u ∧ zh g' w' σ' v u ∧ Rel g' w' σ' ∧ Ext g w σ g' w' σ':=by
 refine ⟨⟨Tryz.f118,_,Tryz.func118,by kernel_rfl,rfl⟩,fun g w us B r => ?_⟩
 have p : ∀ (g : G) (w : World) (σ : zd) a c,zh g w σ (vsl []) (.slice a 0 c):=fun g w σ a c => by
  simp only [vsl,zh,zK,rep];exact ⟨a,c,0,rfl,by simp,by simp only [zcC],by simp⟩
 unfold zjT at h;split at h
 ·injection h with h
  simp only [Prod.mk.injEq] at h;obtain ⟨rfl,rfl⟩:=h;simp only [zW,zh,zK,rep] at r;obtain ⟨u,rest,rfl,⟨a,c,sz,rfl,_⟩,rfl⟩:=r;have z:=AnyG.slices_Compact_int_empty Tryz.compact a c w;refine Calls.mono (f:=118) z fun e w' he => ?_;obtain ⟨rfl,rfl⟩:=he;exact ⟨_,g,rfl,p _ _ _ _ _,B,Ext.refl _ _ _⟩
 ·rename_i id D n
  rw [yl] at h;obtain ⟨l,C,s⟩:=h;rw [yd] at C;obtain ⟨o,m,C⟩:=C;obtain ⟨rfl,hn,E⟩:=zvz C;subst hn;simp only [zpC,Prod.mk.injEq] at s;obtain ⟨rfl,rfl⟩:=s;simp only [zW] at r;obtain ⟨u,rest,rfl,r,rfl⟩:=r
  by_cases R : l = []
  ·subst R
   obtain ⟨a,rfl⟩:=zAQ m r;have z:=AnyG.slices_Compact_int_empty Tryz.compact a 0 w;refine Calls.mono (f:=118) z fun e w' he => ?_;obtain ⟨rfl,rfl⟩:=he
   obtain ⟨H,I⟩:=replace (g':=g) (w':=w') (new:=.cells (D + 1) 1 []) B m (fun _ => False) rfl rfl rfl (yi _) (fun b _ _ => ⟨rfl,rfl,fun _ h => h⟩) (fun b U => U.elim) (fun _ _ _ h => h) (fun _ _ => rfl) (fun _ _ _ => rfl) (fun b o h => B.nb b o h)
    (fun N Y P J => by
     rw [zG m] at J;injection J with J;injection J with C s;injection s with s h3;subst C s
     exact .inr ⟨D + 1,0,by rw [zG (zI m)]; rfl,by omega⟩)
    (fun es' h => by cases h) (fun k n h => by simp [zpd,m,Ob.fr] at h) (fun _ _ h => by cases h) (fun H L => absurd rfl L)
   exact ⟨_,g,rfl,p _ _ _ _ _,I,H⟩
  ·obtain ⟨c,arr,t,rfl,X,K,q3,S,q5,Z⟩:=zF6 B m R r
   have z:=AnyG.slices_Compact_int Tryz.compact (g.ρ id) 0 c l w (zC6 B K S) (by unfold LIM at E; omega) X;rw [zAz] at z;refine Calls.mono (f:=118) z fun e w' he => ?_;obtain ⟨rfl,q,rfl⟩:=he;have hle:=zrH l;obtain ⟨H,I⟩:=zFp B m (d:=(zam l ++ yw (l.length - (zam l).length) 0).toArray) K q5 Z q #[];have Q:=zF0 (w:=w) (q:=q) (os:=#[]) (d:=(zam l ++ yw (l.length - (zam l).length) 0).toArray) K;rw [grow_empty] at H I Q;refine ⟨_,g.give (g.ρ id),rfl,?_,I,H⟩;simp only [vsl,zh,zK,rep,List.length_map];refine ⟨_,c,1,rfl,by omega,zf0 (fun e he => by obtain ⟨x,_,rfl⟩:=List.mem_map.1 he; rfl),.inr ⟨g.ρ id,0,rfl,zhd fun i e he => zjK fun j x M => ?_⟩⟩;rw [yr,yl] at he;obtain ⟨y,O,rfl⟩:=he
   cases j with
   | succ j => simp [zAk] at M
   | zero =>
     simp [zAk] at M;subst M;have W : i < (zam l).length:=(yb.1 O).1;refine ⟨.int .i64 y,.inr rfl,?_,by simp [rep,zEs]⟩;rw [zju Q,Nat.zero_add,yy,yx,zwQ (by simp; omega) (by simp; omega)];have:=(yb.1 O).2;simp [List.getElem_append_left W,this]
 ·cases h
end Go.Proofs
namespace Go.Proofs
open Go.RowKit Go.Maps Go.Sort Go.Shelf
attribute [local go_sem] Oper.semAt_some
structure LiesAt (w : World) (B o : Nat) (ad : Option Addr) (c : Nat) (zs : List Int) : Prop where
 box : B < w.heap.size ∧ w.cell? ⟨B,o,none⟩ = some (.slice ad zs.length c)
 row : zs ≠ [] → ∃ blk off,ad = some ⟨blk,off,none⟩ ∧ blk < w.heap.size ∧ ∀ (j : Nat) x,zs[j]? = some x → w.cell? ⟨blk,off + j,none⟩ = some (.int .i64 x)
theorem LiesAt.later {w W : World} {B o : Nat} {ad : Option Addr} {c : Nat} {g : List Int} (h : LiesAt w B o ad c g) (a : Below w.heap.size w W) : LiesAt W B o ad c g:=by
 have f : ∀ b i,b < w.heap.size → W.cell? ⟨b,i,none⟩ = w.cell? ⟨b,i,none⟩:=fun b i h => by unfold World.cell?; rw [a.block b h]
 refine ⟨⟨yo h.box.1 a.size,by rw [f _ _ h.box.1]; exact h.box.2⟩,fun k => ?_⟩;obtain ⟨d,off,m,e,l⟩:=h.row k;exact ⟨d,off,m,yo e a.size,fun j x n => by rw [f _ _ e]; exact l j x n⟩
set_option maxRecDepth 100000 in
set_option maxHeartbeats 2000000 in
theorem Tryz.values1 (F : Fence) (n : Nat) (y : F.fn 177) (h : F.round = none) (H : 1 ≤ n) (l B o : Nat) (ad : Option Addr) (c : Nat) (a : List Int) (w : a.length ≤ 4294967296) (w0 : World) (q : LiesAt w0 B o ad c a) (J : List Int → World → Prop) (g : ∀ s W',J s W' → Below w0.heap.size w0 W')
  (z : ∀ pre x W1,J pre W1 → pre.length < a.length → YieldAt F (n - 1) Tryz.prog l #[encZ x] W1 fun e W' => e = .returned (.bool true) ∧ J (pre ++ [x]) W' ∧ KeepsWalks W1 W')
  (W : World) (r : J [] W) :
  CallsIn F n Tryz.prog 177 #[.func (.yield l) #[] #[],.pointer (some ⟨B,o,none⟩)] W fun e W' => (∃ v,e = .returned v) ∧ J a W':=by
 have m : W.cell? ⟨B,o,none⟩ = some (.slice ad a.length c):=(q.later (g _ _ r)).box.2;refine callsIn_of_wp Tryz.func177 rfl y ?_ h;simp only [Tryz.ntmps177,yj,ym,yp,yt,yu,yf,yg,yk,yh,yq,yn]
 gi_wp2
 gi_loopw [7] (fun i wr => ∃ k : Nat,k ≤ a.length ∧ i = .int .i64 k ∧ J (a.take k) wr) (fun i _ => match i with | .int _ k => a.length - k.toNat | _ => 0)
 case atStart => exact ⟨0,Nat.zero_le _,rfl,r⟩
 case round =>
  obtain ⟨k,G,rfl,d⟩:=hrel
  by_cases f : k < a.length
  ·obtain ⟨C,off,rfl,t,b⟩:=(q.later (g _ _ d)).row (fun e => by subst e; simp at f)
   have j:=b k a[k] (by simp [f]);obtain ⟨fn,tmps,assign,body,E,A⟩:=z (a.take k) a[k] _ d (by simp; omega);clear b q m
   gi_wp2
   refine A.mono ?_;rintro e D ⟨rfl,p,u⟩
   gi_wp2
   go_roundw
   case rel => exact ⟨k + 1,by omega,by go_num,by rw [List.take_succ_eq_append_getElem f]; exact p⟩
   case measure =>
    show a.length - ((k : Int) + 1).toNat < a.length - (k : Int).toNat
    omega
  ·have : k = a.length:=by omega
   subst this
   gi_wp2
   go_end0
   exact ⟨⟨_,rfl⟩,by simpa using d⟩
def zFR (F : Fence) (n : Nat) (P : Program) (g : Nat) (lb : Array Value) (zs : List Int) (w : World) : Prop :=
 ∀ (l : Nat) (J : List Int → World → Prop) (W : World),(∀ s W',J s W' → Below w.heap.size w W') →
   (∀ pre x W1,J pre W1 → pre.length < zs.length → YieldAt F (n - 1) P l #[encZ x] W1 fun e W' => e = .returned (.bool true) ∧ J (pre ++ [x]) W' ∧ KeepsWalks W1 W') →
   J [] W →
   CallsIn F n P g (#[.func (.yield l) #[] #[]] ++ lb) W fun e W' => (∃ v,e = .returned v) ∧ J zs W'
theorem Tryz.values_gives (F : Fence) (n : Nat) (f : F.fn 177) (e : F.round = none) (i : 1 ≤ n) (B o : Nat) (ad : Option Addr) (c : Nat) (a : List Int) (d : a.length ≤ 4294967296) (w0 : World) (j : LiesAt w0 B o ad c a) :
 zFR F n Tryz.prog 177 #[.pointer (some ⟨B,o,none⟩)] a w0:=fun l J W b h g => Tryz.values1 F n f e i l B o ad c a d w0 j J b h W g
variable {P : Program} {ρ : Ren}
set_option maxRecDepth 100000 in
set_option maxHeartbeats 4000000 in
theorem zvQ (L : SlLaysZI.n11 P ρ) (F : Fence) (n : Nat) (R : F.fn (ρ.f 11)) (B : F.round = none) (hn : 2 ≤ n) (g : Nat) (o : Array Value) (O : F.fn g) (eg : ∀ args w,(callFunc g args).run P w = .ok (.enter g args) w)
  (q : List Int) (U : q.length ≤ maxLen) (H : q.length * 8 ≤ 140737488355328) (w : World) (A : zFR F (n - 1) P g o q w) :
  CallsIn F n P (ρ.f 11) #[.slice none 0 0,.func (.func g) #[] o] w fun e w' => ∃ v : Value,e = .returned v ∧ w'.ownsRow w.heap.size (ρ.t 26) 1 v q.length (q.map encZ) ∧ (v = .slice none 0 0 ↔ q = []) ∧ Below w.heap.size w w':=by
 have h1 : 1 ≤ n:=by omega
 have mixed:=L.mixed; have t0:=L.t0; have a0:=L.a0; have z0:=L.z0; have v0:=L.v0; have t24:=L.t24; have a24:=L.a24; have z24:=L.z24; have v24:=L.v24; have t26:=L.t26; have a26:=L.a26; have z26:=L.z26; have v26:=L.v26; have t28:=L.t28; have a28:=L.a28; have z28:=L.z28; have v28:=L.v28;have E : ρ.t 24 ≠ ρ.t 26:=fun e => by have h:=L.t24; rw [e,L.t26] at h; cases h
 have u0:=run_underlying L.t0; have V:=run_underlying L.t24; have Z:=run_underlying L.t26; have X:=run_underlying L.t28;obtain ⟨_,_,FG⟩:=L.f11;refine callsIn_of_wp_marks FG rfl R ?_ B;simp only [SlBodyZ.n11_ntmps ρ,yj,ym,yp,yt,yu,yf,yg,yk,yh,yq,yn]
 gi_wp2
 refine wpIn_rangeFunc ?_;intro fn Q;rw [B];obtain ⟨W0,j⟩ : ∃ W0,w.alloc (.cells #[.slice none 0 0] (ρ.t 24)) = W0:=⟨_,rfl⟩;have N : W0.heap.size = w.heap.size + 1:=by rw [← j]; simp
 have J : W0.heap[w.heap.size]? = some (.cells #[.slice none 0 0] (ρ.t 24) (0,0)):=by rw [← j]; exact World.alloc_heap_new w _
 have p : Below w.heap.size w W0:=by rw [← j]; exact (Below.refl _ w).alloc (yi _) _
 rw [j]
 let rec0:=AnyZI.apRec ρ fn (.func (.func g) #[] o) w.heap.size W0.heap.size .ready none
 obtain ⟨i,a⟩ : ∃ i,(W0.alloc (.deferred (some []))).alloc (.loop rec0) = i:=⟨_,rfl⟩
 have hold : ∀ k,k < W0.heap.size → i.heap[k]? = W0.heap[k]?:=fun k hk => by
  rw [← a]; exact (Below.heap_alloc _ _ k (by simp; omega)).trans (Below.heap_alloc _ _ k hk)
 have I : Below w.heap.size w i:=by rw [← a]; exact (p.alloc p.size _).alloc (by have:=p.size; simp; omega) _
 have Y : i.heap.size = W0.heap.size + 2:=by rw [← a]; simp
 have hM : AnyZI.ApAt ρ w fn (.func (.func g) #[] o) w.heap.size (W0.heap.size + 1) W0.heap.size [] i :=
  ⟨⟨_,(hold w.heap.size (by omega)).trans J,⟨rfl,.inl ⟨rfl,rfl⟩⟩,by simp⟩,
   by rw [← a]; have:=World.alloc_heap_new (W0.alloc (.deferred (some []))) (.loop rec0); rwa [World.size_alloc] at this,
   by rw [← a]; exact (Below.heap_alloc _ _ _ (by simp)).trans (World.alloc_heap_new W0 _),I⟩
 refine ⟨W0.heap.size + 1,[{ target:=.collected W0.heap.size,args:=#[] }],i,{ target:=.fn (.func g) o,args:=#[.func (.yield (W0.heap.size + 1)) #[] #[]] },i,g,
  #[.func (.yield (W0.heap.size + 1)) #[] #[]] ++ o,i,?_,?_,?_,?_,fun _ => h1,?_⟩
 ·rw [← a]; exact run_enterLoop_outer _ _ _ _ _
 ·simp [resolve,go_sem]
 ·intro f' y; simp [Target.leads] at y; subst y; exact O
 ·simp [invoke,go_sem,eg]
 ·refine (A (W0.heap.size + 1) (AnyZI.ApAt ρ w fn (.func (.func g) #[] o) w.heap.size (W0.heap.size + 1) W0.heap.size) i (fun s W' h => h.below)
   (fun pre x W hJ hl => AnyZI.apYield { L with } F (n - 1 - 1) w fn Q _ w.heap.size (W0.heap.size + 1) W0.heap.size (by omega) (by omega) (by omega) (yi _) (by omega) q.length U H pre x W hJ hl) hM).mono ?_
  rintro e S ⟨⟨v0,rfl⟩,r⟩;obtain ⟨v,hv,m,u⟩:=r.box;have G:=run_endLoop (P:=P) r.L (by simp [AnyZI.apRec]);obtain ⟨l,d⟩ : ∃ l,S.putObj (W0.heap.size + 1) (.loop { rec0 with state:=.exhausted }) = l:=⟨_,rfl⟩;have c:=G;rw [show S.putObj (W0.heap.size + 1) (.loop { rec0 with state:=.exhausted }) = l from d] at c;have z : S.grownBy l (some (W0.heap.size + 1)):=by rw [← d]; exact grownBy_putObj_a _ _ _
  have M : l.heap[w.heap.size]? = some (.cells #[v] (ρ.t 24) (0,0)):=by rw [← d]; exact (World.putObj_heap_other (by omega)).trans hv
  have D : l.heap[W0.heap.size]? = some (.deferred (some [])):=by rw [← d]; exact (World.putObj_heap_other (by omega)).trans r.K
  have b:=m.kept z (ownsRow_ne_a m r.L (fun cur e => by first | cases e | exact E (Obj.cells.inj e).2.1));have C : Below w.heap.size w l:=r.below.grown z r.below.size (fun k e => by cases e; omega);obtain ⟨aB,aA⟩:=cell_of_box_a M;clear d;refine ⟨none,l,c,?_⟩
  gi_wp2
  rw [← N];refine ⟨by simp,.inl ⟨_,_,rfl,run_takeDeferred D,?_⟩⟩;exact ⟨_,results_tmp rfl _ _ _,v,rfl,b.kept (grownBy_putObj_a _ _ _) (ownsRow_ne_a b D (fun cur e => by first | cases e | exact E (Obj.cells.inj e).2.1)),u,C.grown (grownBy_putObj_a _ _ _) C.size (fun k e => by cases e; omega)⟩
set_option maxHeartbeats 1000000 in
theorem zuh (L : SlLaysZI.n8 P ρ) (F : Fence) (n : Nat) (s : F.fn (ρ.f 8)) (j : F.fn (ρ.f 11)) (h : F.round = none) (z : 3 ≤ n) (g : Nat) (k : Array Value) (l : F.fn g) (eg : ∀ args w,(callFunc g args).run P w = .ok (.enter g args) w)
  (a : List Int) (p : a.length ≤ maxLen) (i : a.length * 8 ≤ 140737488355328) (w : World) (d : zFR F (n - 1 - 1) P g k a w) :
  CallsIn F n P (ρ.f 8) #[.func (.func g) #[] k] w fun e w' => ∃ v : Value,e = .returned v ∧ w'.ownsRow w.heap.size (ρ.t 26) 1 v a.length (a.map encZ) ∧ (v = .slice none 0 0 ↔ a = []) ∧ Below w.heap.size w w':=by
 have A : 1 ≤ n:=by omega
 have r : ∀ args w,(callFunc (ρ.f 11) args).run P w = .ok (.enter (ρ.f 11) args) w:=L.f11.enters rfl;have mixed:=L.mixed; have t0:=L.t0; have a0:=L.a0; have z0:=L.z0; have v0:=L.v0; have t24:=L.t24; have a24:=L.a24; have z24:=L.z24; have v24:=L.v24; have t26:=L.t26; have a26:=L.a26; have z26:=L.z26; have v26:=L.v26; have t28:=L.t28; have a28:=L.a28; have z28:=L.z28; have v28:=L.v28;have y:=run_underlying L.t0; have u:=run_underlying L.t24; have q:=run_underlying L.t26; have m:=run_underlying L.t28;obtain ⟨_,_,x⟩:=L.f8;refine callsIn_of_wp x rfl s ?_ h;simp only [SlBodyZ.n8_ntmps ρ,yj,ym,yp,yt,yu,yf,yg,yk,yh,yq,yn]
 gi_wp2_with (gi_at_fn (ρ.f 11); refine (zvQ { L with } F (n - 1) j h (by omega) g k l eg a p i _ d).mono ?_; rintro e w' ⟨v,rfl,c,b,o⟩)
 go_ret
 exact ⟨v,rfl,c,b,o⟩
set_option maxRecDepth 100000 in
set_option maxHeartbeats 2000000 in
theorem zvO (L : SlLaysZI.n6 P ρ) (F : Fence) (n : Nat) (I : F.fn (ρ.f 6)) (J : F.fn (ρ.f 8)) (R : F.fn (ρ.f 9)) (q : F.fn (ρ.f 11)) (l : F.round = none) (V : 4 ≤ n) (a : AnyZI.SortsIn P ρ F (n - 1)) (e9 : ∀ args w,(callFunc (ρ.f 9) args).run P w = .ok (.enter (ρ.f 9) args) w) (g : Nat) (r : Array Value) (z : F.fn g) (eg : ∀ args w,(callFunc g args).run P w = .ok (.enter g args) w)
  (c : List Int) (G : c.length ≤ maxLen) (o : c.length * 8 ≤ 140737488355328) (w : World) (k : zFR F (n - 1 - 1 - 1) P g r c w) :
  CallsIn F n P (ρ.f 6) #[.func (.func g) #[] r] w fun e w' => ∃ v : Value,e = .returned v ∧ w'.ownsRow w.heap.size (ρ.t 26) 1 v c.length ((c.mergeSort (fun x y => decide (x ≤ y))).map encZ) ∧ (v = .slice none 0 0 ↔ c = []) ∧ Below w.heap.size w w':=by
 have X : 1 ≤ n:=by omega
 have e8 : ∀ args w,(callFunc (ρ.f 8) args).run P w = .ok (.enter (ρ.f 8) args) w:=L.f8.enters rfl;have mixed:=L.mixed; have t0:=L.t0; have a0:=L.a0; have z0:=L.z0; have v0:=L.v0; have t24:=L.t24; have a24:=L.a24; have z24:=L.z24; have v24:=L.v24; have t26:=L.t26; have a26:=L.a26; have z26:=L.z26; have v26:=L.v26; have t28:=L.t28; have a28:=L.a28; have z28:=L.z28; have v28:=L.v28;have U:=run_underlying L.t0; have M:=run_underlying L.t24; have H:=run_underlying L.t26; have B:=run_underlying L.t28;obtain ⟨_,_,Q⟩:=L.f6;refine callsIn_of_wp Q rfl I ?_ l;simp only [SlBodyZ.n6_ntmps ρ,yj,ym,yp,yt,yu,yf,yg,yk,yh,yq,yn]
 gi_wp2_with (gi_at_fn (ρ.f 8); refine (zuh { L with } F (n - 1) J q l (by omega) g r z eg c G o _ k).mono ?_; rintro e W ⟨v,rfl,d,i,p⟩)
 rcases d.2 with ⟨rfl,K⟩ | ⟨u,cap,cur,rfl,b,h,r1,D,O,C⟩
 ·have s : c = []:=yc K
  subst s
  gi_wp2_with (gi_at_fn (ρ.f 9); refine (a.2 none 0 W).mono ?_; rintro e w' ⟨rfl,rfl⟩)
  go_ret
  exact ⟨.slice none 0 0,rfl,by simpa using d,by simp,p⟩
 ·have E : Holds encZ W u 0 c.toArray:=holds_of_block_i h (by simpa using C)
  have m : u < W.heap.size:=(ye.1 h).1;have A : c.length < 4611686018427387904:=by omega
  have cS:=a.1 u 0 cap c W E m A
  gi_wp2_with (gi_at_fn (ρ.f 9); refine cS.mono ?_; rintro e w' ⟨rfl,S,os,rfl⟩)
  go_ret
  exact ⟨_,rfl,ownsRow_sorted_i (by simp) b h r1 D O,i,p.grown (grownBy_sorted_i _) p.size (fun j N => by cases N; exact b)⟩
theorem Tryz.sorts (m : Nat) : AnyZI.SortsIn Tryz.prog Tryz.sorted_ren Fence.wide m :=
 ⟨fun c off cap d W e a b => callsIn_wide.2 (AnyM.slices_Sort_int Tryz.sort c off cap d W e a b),
  fun p cap W => callsIn_wide.2 (AnyM.slices_Sort_int_none Tryz.sort p cap W)⟩
end Go.Proofs
namespace Go.A
open Go.RowKit (Below)
section
variable {g : G} {w w' : World} {σ : zd}
theorem zHL (R : Rel g w σ) (f : Below w.heap.size w w') {a : Nat} {cur : Array Value} {t : TypeId} (u : w'.heap[a]? = some (.cells cur t (0,0))) (s : w.heap.size ≤ a) {l : List Int} (D : l.length ≤ cur.size) (B : ∀ (j : Nat) x,l[j]? = some x → cur[j]? = some (.int .i64 x)) :
  Ext g w σ (g.own σ.length a) w' (σ ++ [.cells 0 1 (l.map zL)]) ∧ Rel (g.own σ.length a) w' (σ ++ [.cells 0 1 (l.map zL)]):=by
 have r : ∀ id,id < σ.length → (g.own σ.length a).ρ id = g.ρ id:=fun id h => zaC g.ρ (k:=σ.length) (i:=id) _ (by omega);have hw : ∀ b,b < w.heap.size → (g.own σ.length a).ow b = g.ow b:=fun b h => zaC g.ow (k:=a) (i:=b) _ (by omega)
 have H : Ext g w σ (g.own σ.length a) w' (σ ++ [.cells 0 1 (l.map zL)]):={
  os:=f.os
  tape:=f.tape
  output:=f.output
  size:=f.size
  keeps:=fun b i h => ⟨h,by unfold World.cell?; rw [f.block b (R.nb b i h)]⟩
  len:=by simp
  shape:=fun id A sz len h => by
   obtain ⟨es,p,z⟩:=zbs h;have d:=zb p;refine .inl ⟨by unfold shapeOf; rw [ya d]; exact h,r id d,fun _ arr t y => ⟨arr,?_,rfl⟩⟩;rw [f.block _ (ye.1 y).1];exact y
  map:=fun id es h => ⟨r id (zb h),es,by rw [ya (zb h)]; exact h⟩
  tok:=fun t k n h => by
   obtain ⟨sz,fr,p,z⟩:=zee h;exact ⟨n,zfr (by rw [ya (zb p)]; exact p) z,yi _,fun _ => rfl⟩
  tsz:=fun t sz h => by
   obtain ⟨fr,p⟩:=zgs h;exact zdy (fr:=fr) (by rw [ya (zb p)]; exact p)
  ow:=hw
  new:=fun b i h _ _ => h
  frame:=fun b q _ => f.block b q }
 refine ⟨H,⟨fun b i h => yo (R.nb b i h) f.size,fun id x h => ?_⟩⟩
 by_cases d : id < σ.length
 ·rw [ya d] at h
  exact zdb H (r id d) (fun _ => rfl) (fun b q _ => ⟨f.block b q,hw b q,fun _ h => h⟩) (R.ob id x h)
 ·have v : id = σ.length:=by
   have:=zb h;simp at this;omega
  subst v;simp at h;subst h;intro _;have e1 : (g.own σ.length a).ρ σ.length = a:=by simp [G.own]
  have e2 : (g.own σ.length a).ow a = .ob σ.length:=by simp [G.own]
  rw [e1];refine ⟨e2,fun o h => by have:=R.nb _ _ h; omega,cur,t,u,by simpa using D,fun i e he => ?_⟩;rw [yr,yl] at he;obtain ⟨x,C,rfl⟩:=he;refine ⟨rfl,fun j c m => ?_⟩
  cases j with
  | succ j => simp [zL] at m
  | zero =>
    simp [zL] at m;subst m;exact ⟨.int .i64 x,by simpa using B i x C,by simp [zK,rep,zEs],rfl⟩
end
theorem zpT : ∀ {xs : List (List Fz)} {l : List Int},zio xs = some l → xs = l.map zAk
 | [],l,h => by simp [zio] at h; subst h; rfl
 | x :: xs,l,h => by
   simp only [zio] at h;unfold zhN at h;split at h
   ·rename_i a0 bs a b
    injection h with h;subst h;rw [zpT b];unfold zze at a;split at a
    ·injection a with a; subst a; rfl
    ·cases a
   ·cases h
end Go.A
namespace Go.Proofs
open Go.RowKit Go.Maps Go.Sort Go.Shelf
open Go.A in
theorem Tryz.ext_sorted (args : List V) (σ : zd) (v : V) (σ' : zd) (h : zlM 177 args σ = some (v,σ')) :
  Go.A.Enters Tryz.prog 145 ∧ ∀ g w us,Rel g w σ → zW g w σ args us → Calls Tryz.prog 145 us.toArray w fun e w' => ∃ u g',e = .returned u ∧ zh g' w' σ' v u ∧ Rel g' w' σ' ∧ Ext g w σ g' w' σ':=by
 refine ⟨⟨Tryz.f145,_,Tryz.func145,by kernel_rfl,rfl⟩,fun g w us U hv => ?_⟩;unfold zlM at h;split at h
 ·rename_i f q aM i o
  split at h
  ·rename_i hf
   obtain ⟨rfl,rfl⟩:=hf;unfold zt7 at h;split at h
   ·rename_i xs m
    rw [yd] at h;obtain ⟨l,hl,h⟩:=h;have hx:=zpT hl;subst hx;unfold zuS at h;split at h
    ·rename_i B
     injection h with h;simp only [Prod.mk.injEq] at h;obtain ⟨rfl,rfl⟩:=h;simp only [zW,zh,zK,zC] at hv;obtain ⟨u,rest,rfl,⟨fs,cs,rfl,aA,p,ps,aF,hp,rfl⟩,rfl⟩:=hv;unfold zd.cell zd.elem at m;rw [yd] at m;obtain ⟨el,d,X⟩:=m;rw [yd] at d;obtain ⟨ob,O,d⟩:=d
     cases ob with
     | tok _ _ => simp [Ob.elem] at d
     | mp _ => simp [Ob.elem] at d
     | cells ver' sz es =>
       simp only [Ob.elem] at d;split at d
       ·rename_i M
        subst M;have aK : es ≠ []:=fun e => by subst e; simp at d
        obtain ⟨_,_,arr,t,s,_,L⟩:=U.ob q _ O aK;obtain ⟨hlen,z⟩:=L i el d;obtain ⟨u,aJ,Q,_⟩:=z 0 _ X;simp only [zK,rep] at Q;obtain ⟨ad,c,Y,rfl,_,S,k⟩:=Q;obtain ⟨v0,aN,aL,a,_,aC,_⟩:=hp;have aD:=zG O;rw [aD] at a;injection a with a;simp only [Prod.mk.injEq] at a;obtain ⟨rfl,rfl,rfl⟩:=a;have Z:=aC rfl;subst Z;have I : fs = #[]:=(by cases fs; simpa using aA);have R : cs = #[.pointer (some ⟨g.ρ q,i * sz + 0,none⟩)]:=(by cases cs; simpa using aF);subst I R;have aE : g.ρ q < w.heap.size:=(ye.1 s).1
        have hw : w.cell? ⟨g.ρ q,i * sz + 0,none⟩ = some (.slice ad l.length c):=by
         unfold World.cell?;rw [s];simpa using aJ
        have hL : LiesAt w (g.ρ q) (i * sz + 0) ad c l:=⟨⟨aE,hw⟩,fun K => by
         rcases k with k | ⟨b,o,rfl,k⟩
         ·exact absurd (List.map_eq_nil_iff.1 k) K
         ·have aB : Y = 1:=by
           cases l with
           | nil => exact absurd rfl K
           | cons x r => simp only [List.map_cons,zcC] at S; rw [← S.1]; rfl
          subst aB
          have C : ∀ (j : Nat) x,l[j]? = some x → g.N b (o + j) ∧ w.cell? ⟨b,o + j,none⟩ = some (.int .i64 x):=fun j x z => by
           have W:=zgn k (i:=j) (e:=zAk x) (by simp [z]);obtain ⟨u,n1,n2,n3⟩:=zie W (j:=0) (x:=.lit (.int .i64 x)) (by simp [zAk]);simp only [rep] at n3;rw [yy,yx] at n1 n2;exact ⟨n1,by rw [n2,n3.1]⟩
          obtain ⟨x,r,rfl⟩ : ∃ x r,l = x :: r:=by
           cases l with
           | nil => exact absurd rfl K
           | cons x r => exact ⟨x,r,rfl⟩
          exact ⟨b,o,rfl,U.nb b _ (C 0 x (by simp)).1,fun j x z => (C j x z).2⟩⟩
        unfold LIM at B;have cS:=zvO Tryz.sorted Fence.wide 5 trivial trivial trivial trivial rfl (by omega) (Tryz.sorts _) (enters_of Tryz.func117 (by kernel_rfl) rfl) 177 #[.pointer (some ⟨g.ρ q,i * sz + 0,none⟩)] trivial (enters_of Tryz.func177 (by kernel_rfl) rfl) l (by unfold maxLen; omega) (by omega) w (Tryz.values_gives Fence.wide 2 trivial rfl (by omega) _ _ ad c l B w hL);have aI:=callsIn_wide.1 cS;refine Calls.mono (f:=145) aI fun e w' he => ?_;obtain ⟨v,rfl,aH,E,hB⟩:=he;have n : (zkZ l).length = l.length:=List.length_mergeSort l;rcases aH.2 with ⟨rfl,K⟩ | ⟨gb,cap,cur,rfl,D,J,r1,r2,r3,r4⟩
        ·have aG : l = []:=yc K
         subst aG;obtain ⟨H,R1⟩:=zD4 U hB;obtain ⟨H2,R2⟩:=zvh R1 1;refine ⟨_,_,rfl,?_,by simpa [zkZ] using R2,by simpa [zkZ] using H.trans H2⟩;simp only [zh,zK];exact ⟨0,1,0,by simp [shapeOf,zkZ,Ob.shape],yi _,fun _ => ⟨none,0,rfl,yi _,fun _ => rfl,fun h => absurd rfl h⟩,_,_,rfl⟩
        ·have P : ∀ (j : Nat) x,(zkZ l)[j]? = some x → cur[j]? = some (.int .i64 x):=fun j x z => by
          have aO : j < l.length:=by rw [← n]; exact (yb.1 z).1
          have W : (cur.toList.take (l.length * 1))[j]? = some (.int .i64 x):=by
           rw [r4,yr];have : (l.mergeSort fun x y => decide (x ≤ y))[j]? = some x:=z;rw [this];rfl
          rw [List.getElem?_take,if_pos (by omega)] at W;simpa using W
         obtain ⟨H,R1⟩:=zHL U hB J D (l:=zkZ l) (by rw [n]; omega) P;refine ⟨_,_,rfl,?_,R1,H⟩;simp only [zh,zK];have e1 : (g.own σ.length gb).ρ σ.length = gb:=(by simp [G.own]);refine ⟨0,1,l.length,by simp [shapeOf,Ob.shape,n],yi _,fun _ => ⟨some ⟨gb,0,none⟩,cap,rfl,r1,fun h => ?_,fun h => ⟨by omega,fun _ => by rw [e1],cur,_,by rw [e1]; exact J,by omega⟩⟩,_,_,rfl⟩;have:=E.2 (yc h);cases this
       ·cases d
    ·cases h
   ·cases h
  ·cases h
 ·cases h
end Go.Proofs
namespace AC
open Go.A Go.A.Lex
theorem zKi : zy3 (zHx Go.Proofs.Tryz.prog (zuW Go.Proofs.Tryz.prog)) 0 tab :=
 ⟨zbT _ 0 (by kernel_rfl),zbT _ 16 (by kernel_rfl),zbT _ 32 (by kernel_rfl),zbT _ 48 (by kernel_rfl),zbT _ 64 (by kernel_rfl),zbT _ 80 (by kernel_rfl),zbT _ 96 (by kernel_rfl),zbT _ 112 (by kernel_rfl),zbT _ 128 (by kernel_rfl),zbT _ 144 (by kernel_rfl),zbT _ 160 (by kernel_rfl),zbT _ 176 (by kernel_rfl),zbT _ 192 (by kernel_rfl),zbT _ 208 (by kernel_rfl),zbT _ 224 (by kernel_rfl),zbT _ 240 (by kernel_rfl),zbT _ 256 (by kernel_rfl),trivial⟩
theorem zLR : zAR Go.Proofs.Tryz.prog (zuW Go.Proofs.Tryz.prog) T:=by
 refine zvm ?_ (zvm ?_ (zvm ?_ (zFi zKi)))
 ·exact Go.Proofs.Tryz.ext_compact
 ·exact fun args σ v σ' h => zA6 (zzm (by kernel_rfl)) Go.Proofs.Tryz.func181 (by kernel_rfl) (by kernel_rfl) args σ v σ' h
 ·exact Go.Proofs.Tryz.ext_sorted
end AC
namespace Go.A
def zji : List (List Fz → Prop) → List Fz → Prop
 | [],cs => cs = []
 | p :: ps,cs => ∃ a b,cs = a ++ b ∧ p a ∧ zji ps b
def zwT (P : Program) : List Field → Nat → Nat → Bool
 | [],off,total => off == total
 | f :: fs,off,total => f.offset == off && zwT P fs (off + P.cellsOf f.type) total
def zit (P : Program) : Nat → TypeId → Bool
 | 0,_ => false
 | n + 1,t => match P.underlying t with
   | some .bool => P.cellsOf t == 1
   | some (.int _) => P.cellsOf t == 1
   | some (.slice e) => P.cellsOf t == 1 && decide (0 < P.cellsOf e) && zit P n e
   | some (.struct fs) => (fs.toList.all fun f => zit P n f.type) && zwT P fs.toList 0 (P.cellsOf t)
   | some (.array m e) => zit P n e && (P.cellsOf t == m * P.cellsOf e)
   | _ => false
theorem mapM_some {α β : Type} {f : α → Option β} : ∀ {l : List α} {ys : List β},l.mapM f = some ys → ys.length = l.length ∧ ∀ (i : Nat) (x : α),l[i]? = some x → ∃ y,ys[i]? = some y ∧ f x = some y
 | [],ys,h => by
   simp at h;subst h;exact ⟨rfl,fun i x c => by simp at c⟩
 | a :: l,ys,h => by
   rw [List.mapM_cons] at h
   cases d : f a with
   | none => simp [d] at h
   | some b =>
     cases e : l.mapM f with
     | none => simp [d,e] at h
     | some zs =>
       simp [d,e] at h;subst h;obtain ⟨g,j⟩:=mapM_some e;refine ⟨by simp [g],fun i x c => ?_⟩
       cases i with
       | zero => simp at c; subst c; exact ⟨b,by simp,d⟩
       | succ i => simpa using j i x (by simpa using c)
theorem zru {α : Type} {p : Nat → α → Prop} : ∀ (n : Nat),(∀ i,i < n → ∃ x,p i x) → ∃ xs : List α,xs.length = n ∧ ∀ i x,xs[i]? = some x → p i x
 | 0,_ => ⟨[],rfl,fun i x h => by simp at h⟩
 | n + 1,h => by
   obtain ⟨xs,b,f⟩:=zru n fun i d => h i (by omega);obtain ⟨x,c⟩:=h n (by omega);refine ⟨xs ++ [x],by simp [b],fun i y a => ?_⟩;rw [yv] at a;split at a
   ·exact f i y a
   ·rename_i d
    have:=zb a;simp at this;have e : i = n:=(by omega);subst e;rw [b] at a;simp at a;rw [← a];exact c
section
variable {H : Type} {enc : TypeId × Value → H} {P : Program} {w : World}
def zvn (w : World) : zhv:=fun b _ => b < w.heap.size
def zgB (w : World) (xs : List Fz) (cs : List Value) : Prop:=xs.length = cs.length ∧ ∀ (j : Nat) (x : Fz) (u : Value),xs[j]? = some x → cs[j]? = some u → rep w (zvn w) x u
theorem zgB.append {xs ys : List Fz} {cs ds : List Value} (h : zgB w xs cs) (k : zgB w ys ds) : zgB w (xs ++ ys) (cs ++ ds):=by
 refine ⟨by simp [h.1,k.1],fun j x u a hu => ?_⟩;rw [yv] at a hu;have:=h.1;split at a
 ·rw [if_pos (by omega)] at hu; exact h.2 j x u a hu
 ·rw [if_neg (by omega)] at hu; rw [h.1] at a; exact k.2 _ x u a hu
theorem zgB.one {x : Fz} {u : Value} (h : rep w (zvn w) x u) : zgB w [x] [u] :=
 ⟨rfl,fun j y v a b => by
  cases j with
  | zero => simp at a b; rw [← a,← b]; exact h
  | succ j => simp at a⟩
end
end Go.A
namespace Go.A
open Go.RowKit
def G0 (w : World) : G:=⟨fun _ => 0,fun _ _ => undef,fun _ => .no,zvn w⟩
theorem zLL (w : World) : Rel (G0 w) w []:=⟨fun _ _ h => h,fun id o h => by simp at h⟩
def zmW (P : Program) (t : TypeId) : Bool:=match P.underlying t with
 | some (.struct _) | some (.array _ _) => true
 | _ => false
def zqn (agg : Bool) (xs : List Fz) : V:=if agg then zEV xs else .one (.f (xs.headD (.lit undef)))
section
variable {H : Type} {enc : TypeId × Value → H} {P : Program} {w : World}
theorem zBp {C : zaz} (S : zhU P C) {f : Nat} {args : List V} {us : List Value} {b : Bool} (g : C f args [] = some (zk4 b,[])) (c : zW (G0 w) w [] args us) :
  Calls P f us.toArray w fun e w' => e = .returned (.bool b) ∧ Below w.heap.size w w':=by
 obtain ⟨_,h⟩:=S f args [] (zk4 b) [] g;refine (h (G0 w) w us (zLL w) c).mono fun e w' he => ?_;obtain ⟨u,g',rfl,a,_,H⟩:=he;obtain ⟨rfl,_⟩:=zaf a;exact ⟨rfl,H.os,H.tape,H.output,H.size,fun k d => H.frame k d rfl⟩
end
end Go.A
namespace Go.A
open Go.RowKit Go.ChangeShapes
section
variable {H : Type} {enc : TypeId × Value → H} {P : Program}
theorem zAp {f : Func} {s : ChangeSpec} {apart fresh handsOn again : Bool} {W h : World} {args : Array Value} {v : Value} {ds gs : List (DataW H)} {before : List MemPlace}
  (l : DataW.Whole enc P f.params.toList s.vars apart W args.toList ds gs before) (n : Below W.heap.size W h) (o : s.vars = [])
  (e : ∀ (b : Nat) (sp : Nat → Bool) (hd : Bool),DataW.TrodAll enc P h b sp hd f.resultTypes.toList (v.resultList f.resultTypes.size) (s.fn H (ds ++ gs)).results [])
  (c : ∀ sp : Nat → Bool,(∀ p ∈ before,sp p.block = true) → DataW.TrodAll enc P h 0 sp true f.params.toList args.toList (s.fn H (ds ++ gs)).args before)
  (g : (s.fn H (ds ++ gs)).vars = [])
  (k : ∀ (j : Nat) (t : TypeId) (r : Value),f.resultTypes[j]? = some t → (v.resultList f.resultTypes.size)[j]? = some r → Value.okWide P h .any 0 t r) :
  s.post enc P f apart fresh handsOn again W args v h:=by
 have inside : ∀ x ∈ before,x.block < W.heap.size:=l.lt;have i : ∀ x ∈ before,(fun b => decide (b < W.heap.size)) x.block = true:=fun x d => decide_eq_true (inside x d);have m : ∀ sp : Nat → Bool,DataW.TrodVars enc P h sp s.vars (s.fn H (ds ++ gs)).vars []:=fun sp => by rw [o,g]; rfl
 have whole:=l;obtain ⟨_,_,_,_,_,a,once⟩:=l;refine ⟨ds,gs,before,[],before,[],whole,e _ _ _,c _ i,m _,World.keptBut_mono (fun x d => ⟨d,.inr (by simpa using d)⟩) (n.frame _),fun _ => ⟨k,_,_,before,⟨before,[],trodAll_append (c _ fun _ _ => rfl) (e _ _ _),m _,by simp,fun b off d => ?_,once⟩,fun x d _ => by simpa using d⟩⟩;rw [n.frozen (p:=⟨b,off,none⟩) (inside _ d)];exact a b off d
end
section
variable {H : Type} {enc : TypeId × Value → H} {P : Program}
end
end Go.A
namespace AC
open Go Go.A Go.Proofs
set_option maxRecDepth 100000
theorem mixed : Tryz.prog.follows .mixedOrders = true:=by kernel_rfl
theorem zHT : zhU Tryz.prog (call T):=sound (zzm mixed) zLR
end AC
namespace Go.Proofs.YtmkncmffaaninaaGreat
open Go.ChangeShapes Go.WideShapes Go.ChangeAt Go.RowKit Go.A
theorem Tryz.own : ownKnob Tryz.prog.godebug = none:=by kernel_rfl
theorem Tryz.laidOut : laidOutB Tryz.prog = true:=by kernel_rfl
end Go.Proofs.YtmkncmffaaninaaGreat
