/- A part of the proof of SchedFlat. Conditions: none. -/
import Derived.Test.YtmkncmffaaninaaGreatFAO
import Derived.Sort.Grow
import Derived.Lib.SlicesCompact
import Derived.Shelf.SlIterI.Sorted
import Derived.Shelf.SortM.Plain
import Derived.Shelf.SortM.SortNone
import Derived.Ground.GgzProg
import Derived.Ground.SlgmProg
import Derived.Test.YtmkncmffaaninaaGreatProg
import Derived.Shelf.SlicesG.CompactI
import Derived.RangeFuncBox
import Derived.RangeFuncLeaves
import Derived.WalkKit
import Derived.OwnWalkIn
import Derived.TacticsInMore
import Derived.LoopNIn
import Derived.LoopIn
set_option linter.all false
open Array renaming getElem?_eq_some_iff → ya,replicate_succ → yh,replicate_zero → yi,getElem?_append_left → yq,getElem?_modify → yy
open List renaming getElem?_eq_some_iff → yb,getElem?_append_left → yc,eq_nil_of_length_eq_zero → yf,length_cons → yg,append_toArray → yj,getElem?_map → yl,size_toArray → ym,push_toArray → yn,cons_append → yo,length_nil → yr,nil_append → yt,getElem?_eq_getElem → yu,length_mergeSort → yx,map_cons → yA,replicate → yC
open Option renaming bind_eq_some_iff → yd,map_eq_some_iff → ye
open Nat renaming le_refl → yk,lt_of_lt_of_le → yp,reduceAdd → yv,reduceSub → yw,add_zero → yz,mul_one → yB,zero_add → yD
namespace Go.A
open Go.Sort
theorem zBu {c : C} {v : Value} (h : ztr c = some (.lit v)) : c = .f (.lit v):=by
 cases c <;> simp only [ztr] at h <;> first | (injection h with h; injection h) | (injection h with h; rw [h]) | cases h
theorem ztT : ∀ {es : List (List C)} {l : List Int},(zaf es).bind zgp = some l → es = l.map zl
 | [],l,h => by simp [zaf,zgp] at h; subst h; rfl
 | e :: es,l,h => by
   simp only [zaf] at h;unfold zfF at h;split at h
   ·rename_i x xs a i
    simp only [Option.bind_some,zgp] at h;unfold zfF at h;split at h
    ·rename_i y ys b g
     injection h with h;subst h;have f:=ztT (es:=es) (l:=ys) (by rw [i]; exact g);subst f
     have : e = zl y:=by
      unfold zvK at b;split at b
      ·rename_i z
       injection b with b;subst b
       cases e with
       | nil => simp [zdR] at a
       | cons c cs =>
         simp only [zdR] at a;unfold zfF at a;split at a
         ·rename_i a0 bs j d
          injection a with a;injection a with h3 h4;subst h3 h4
          cases cs with
          | nil => rw [zBu j]; rfl
          | cons c2 cs =>
            simp only [zdR] at d;unfold zfF at d;split at d
            ·cases d
            ·cases d
         ·cases a
      ·cases b
     rw [this];rfl
    ·cases h
   ·simp at h
theorem znR {a n : Nat} {o : Ob} {l : List Int} (h : zhW a n o = some l) : o = .cells a 1 (l.map zl) ∧ l.length = n ∧ n ≤ LIM:=by
 cases o with
 | tok _ _ => simp [zhW] at h
 | mp _ => simp [zhW] at h
 | cells ver' sz es =>
   simp only [zhW] at h;split at h
   ·rename_i d
    obtain ⟨rfl,rfl,c,b⟩:=d;have:=ztT h;subst this;exact ⟨rfl,by simpa using c,b⟩
   ·cases h
section
variable {g : G} {w : World} {σ : zd}
theorem zwk (R : Rel g w σ) {id d : Nat} {l : List Int} (b : σ[id]? = some (.cells d 1 (l.map zl))) (h : l ≠ []) {u : Value} (s : zf g w σ (.one (.own id d 0 l.length)) u) :
  ∃ c arr t,u = .slice (some ⟨g.ρ id,0,none⟩) l.length c ∧ l.length ≤ c ∧ w.heap[g.ρ id]? = some (.cells arr t (0,0)) ∧ l.length ≤ arr.size ∧ (∀ (j : Nat) x,l[j]? = some x → arr[j]? = some (.int .i64 x)) ∧ g.ow (g.ρ id) = .ob id ∧ ∀ o,¬ g.N (g.ρ id) o:=by
 obtain ⟨a,c,e1,e2,e3,e4⟩:=zgJ s b;have e : l.map zl ≠ []:=by simpa using h
 obtain ⟨r,z,arr,t,B,m,y⟩:=R.ob id _ b e;have k : 0 < l.length:=List.length_pos_iff.2 h;obtain ⟨_,f2,_⟩:=e4 (by simp; omega);have p:=f2 (by omega);refine ⟨c,arr,t,(by rw [e1,p]; try simp),e2,B,by simpa using m,fun j x q => ?_,r,z⟩;obtain ⟨_,n⟩:=y j (zl x) (by simp [q]);obtain ⟨v,A,i,_⟩:=n 0 (.f (.lit (.int .i64 x))) (by simp [zl]);simp only [zy,rep] at i;rw [← i.1];simpa using A
theorem zuk (R : Rel g w σ) {l : List Int} {b : Nat} {arr : Array Value} {t : TypeId} (h : w.heap[b]? = some (.cells arr t (0,0))) (c : ∀ (j : Nat) x,l[j]? = some x → arr[j]? = some (.int .i64 x)) : Holds (Value.int .i64) w b 0 l.toArray:=fun j d => by
 have a : j < l.length:=by simpa using d
 refine ⟨?_,by simp [World.frozen?,h]⟩;rw [zh1 h,yD,c j l[j] (by simp [a])];simp [a]
theorem zrF {q : Nat} {b : Nat} {d : Array Int} {os : Array Obj} {arr : Array Value} {t : TypeId} (h : w.heap[b]? = some (.cells arr t (0,0))) :
  (grow (putRow (Value.int .i64) (Sort.ahead w q) b 0 d) os).heap[b]? = some (.cells (putCells (Value.int .i64) 0 d arr) t (0,0)):=by
 have a : b < w.heap.size:=(ya.1 h).1;simp only [grow,putRow,mapBlock,Sort.ahead];rw [yq (by simpa using a),yy,if_pos rfl,h];rfl
theorem zq9 {q : Nat} {b j : Nat} {d : Array Int} {os : Array Obj} (c : j < w.heap.size) (a : j ≠ b) :
  (grow (putRow (Value.int .i64) (Sort.ahead w q) b 0 d) os).heap[j]? = w.heap[j]?:=by
 simp only [grow,putRow,mapBlock,Sort.ahead];rw [yq (by simpa using c),yy,if_neg (Ne.symm a)]
theorem zjd (d : Array Int) (arr : Array Value) : (putCells (Value.int .i64) 0 d arr).size = arr.size:=by simp [putCells]
theorem znV {d : Array Int} {arr : Array Value} {j : Nat} (c : j < d.size) (hd : d.size ≤ arr.size) : (putCells (Value.int .i64) 0 d arr)[j]? = some (.int .i64 d[j]):=by
 have a : j < arr.size:=by omega
 have b : j < (putCells (Value.int .i64) 0 d arr).size:=by rw [zjd]; exact a
 rw [Array.getElem?_eq_getElem b];simp [putCells,c]
theorem zDk (R : Rel g w σ) {id d : Nat} {l : List Int} (a : σ[id]? = some (.cells d 1 (l.map zl))) {l' : List Int} (m : l'.length = l.length) {arr : Array Value} {t : TypeId}
  (v : w.heap[g.ρ id]? = some (.cells arr t (0,0))) (I : l.length ≤ arr.size) (p : g.ow (g.ρ id) = .ob id) (C : ∀ o,¬ g.N (g.ρ id) o) (q : Nat) (os : Array Obj) :
  Ext g w σ g (grow (putRow (Value.int .i64) (Sort.ahead w q) (g.ρ id) 0 l'.toArray) os) (σ.set id (.cells d 1 (l'.map zl))) ∧
  Rel g (grow (putRow (Value.int .i64) (Sort.ahead w q) (g.ρ id) 0 l'.toArray) os) (σ.set id (.cells d 1 (l'.map zl))):=by
 refine replace (g':=g) R a (fun b => b = g.ρ id) rfl rfl rfl (by simp [grow,Sort.ahead]) (fun b s J => ⟨zq9 s J,rfl,fun _ h => h⟩)
  (fun b s => ⟨.inl (by rw [s]; exact p),rfl,fun o h => absurd (by rw [s] at h; exact h) (C o)⟩) (fun _ _ _ h => h) (fun _ _ => rfl) (fun _ _ _ => rfl)
  (fun b o h => by have:=R.nb b o h; simp [grow,Sort.ahead]; omega) ?_ ?_ ?_ (fun _ _ h => by cases h) ?_
 ·intro z E D r
  refine .inl ⟨?_,rfl,fun _ B t0 f => ?_⟩
  ·rw [zt a] at r
   injection r with r;rw [zt (zB a),← r];simp [m]
  ·rw [v] at f
   injection f with f;injection f with f h0t;subst f;subst h0t;exact ⟨_,zrF v,zjd _ _⟩
 ·intro es' h; cases h
 ·intro k n h; simp [zmP,a,Ob.fr] at h
 ·intro H A
  refine ⟨p,C,_,t,zrF v,by rw [zjd]; simp [m]; omega,fun i e he => ?_⟩;rw [yl,ye] at he;obtain ⟨x,y,rfl⟩:=he;refine ⟨rfl,fun j c u => ?_⟩;have G : i < l'.length:=(yb.1 y).1
  cases j with
  | succ j => simp [zl] at u
  | zero =>
    simp [zl] at u;subst u;refine ⟨.int .i64 x,?_,by simp [zy,rep,zxS],rfl⟩;rw [yB,yz,znV (by simpa using G) (by simp; omega)];have:=(yb.1 y).2;simp [this]
theorem zCm (R : Rel g w σ) {id c : Nat} {l : List Int} (a : σ[id]? = some (.cells c 1 (l.map zl))) {d : Array Int} {arr : Array Value} {t : TypeId}
  (y : w.heap[g.ρ id]? = some (.cells arr t (0,0))) (m : g.ow (g.ρ id) = .ob id) (v : ∀ o,¬ g.N (g.ρ id) o) (q : Nat) (os : Array Obj) :
  Ext g w σ (g.give (g.ρ id)) (grow (putRow (Value.int .i64) (Sort.ahead w q) (g.ρ id) 0 d) os) (σ.set id (.cells (c + 1) 1 [])) ∧
  Rel (g.give (g.ρ id)) (grow (putRow (Value.int .i64) (Sort.ahead w q) (g.ρ id) 0 d) os) (σ.set id (.cells (c + 1) 1 [])):=by
 have f : g.ρ id < w.heap.size:=(ya.1 y).1
 refine replace (g':=g.give (g.ρ id)) R a (fun b => b = g.ρ id) rfl rfl rfl (by simp [grow,Sort.ahead]) (fun b f s => ⟨zq9 f s,rfl,fun o h => h.elim (fun x => x) (fun e => absurd e s)⟩)
  (fun b f => ⟨.inl (by rw [f]; exact m),rfl,fun o h => absurd (by rw [f] at h; exact h) (v o)⟩) (fun _ _ _ h => .inl h) (fun _ _ => rfl) (fun _ _ _ => rfl)
  (fun b o h => by
   simp only [grow,Array.size_append,size_putRow,Sort.ahead];rcases h with h | h
   ·have:=R.nb b o h; omega
   ·omega) ?_ ?_ ?_ (fun _ _ h => by cases h) ?_
 ·intro p u r j
  rw [zt a] at j;injection j with j;injection j with h1 h2;injection h2 with h2 h3;subst h1 h2;exact .inr ⟨c + 1,0,by rw [zt (zB a)]; rfl,by omega⟩
 ·intro es' h; cases h
 ·intro k n h; simp [zmP,a,Ob.fr] at h
 ·intro H i
  exact absurd rfl i
end
end Go.A
namespace Go.A
open Go.Lib
def zgF : Option Int → List Int → List Int
 | _,[] => []
 | p,x :: r => if p = some x then zgF p r else x :: zgF (some x) r
theorem zni : ∀ (r : List Int) (x : Int),x :: zgF (some x) r = zn (x :: r)
 | [],x => rfl
 | y :: r,x => by
   simp only [zn,zgF]
   by_cases h : x = y
   ·subst h
    rw [if_pos rfl,if_pos rfl];exact zni r x
   ·rw [if_neg (by simpa using h),if_neg h,zni r y]
theorem zr9 (l : List Int) : zgF none l = zn l:=by
 cases l with
 | nil => rfl
 | cons x r => simp [zgF,zni]
theorem ztM (l : List Int) : ∀ (n k : Nat),k + n = l.length → (((List.range' k n).filter (keeps l.toArray)).map (l.toArray[·]!)) = zgF (if k = 0 then none else l[k - 1]?) (l.drop k)
 | 0,k,h => by
   rw [List.drop_of_length_le (by omega)];simp [zgF]
 | n + 1,k,h => by
   have f : k < l.length:=(by omega);have c:=ztM l n (k + 1) (by omega);rw [List.drop_eq_getElem_cons f];simp only [List.range'_succ,zgF,List.filter_cons];simp only [Nat.add_one_ne_zero,if_false,Nat.add_sub_cancel,yu f] at c;have e : l.toArray[k]! = l[k]:=by simp [f]
   by_cases d : k = 0
   ·subst d
    have a : keeps l.toArray 0 = true:=(by simp [keeps]);rw [a,if_pos rfl,if_pos rfl,if_neg (by simp),yA,c,e]
   ·have b : k - 1 < l.length:=by omega
    have e1 : l.toArray[k - 1]! = l[k - 1]:=(by simp [b]);rw [if_neg d,yu b]
    by_cases hd : l[k - 1] = l[k]
    ·have a : keeps l.toArray k = false:=by
      have : ¬ l.toArray[k]! ≠ l.toArray[k - 1]!:=(by rw [e,e1,hd]; simp);simp only [keeps,d,false_or,decide_eq_false_iff_not];exact this
     simp only [a,Bool.false_eq_true,if_false];rw [if_pos (by rw [hd]),c,hd]
    ·have a : keeps l.toArray k = true:=by
      have : l.toArray[k]! ≠ l.toArray[k - 1]!:=by rw [e,e1]; exact fun h => hd h.symm
      simp only [keeps,d,false_or,decide_eq_true_eq];exact this
     simp only [a,if_true,yA];rw [if_neg (by simpa using hd),c,e]
theorem zwW (l : List Int) : Lib.compact l = zn l:=by
 have:=ztM l l.length 0 (by simp);simp only [if_true,List.drop_zero] at this;rw [← zr9,← this,Lib.compact,compactUpTo,List.range_eq_range']
theorem zpI : ∀ l : List Int,(zn l).length ≤ l.length
 | [] => by simp [zn]
 | [x] => by simp [zn]
 | x :: y :: r => by
   have:=zpI (y :: r);simp only [zn];split
   ·simp only [yg] at this ⊢; omega
   ·simp only [yg] at this ⊢; omega
end Go.A
namespace Go.Proofs
open Go.Shelf
def Tryz.sorted_ren : Go.Shelf.Ren:=⟨fun | 6 => 145 | 8 => 176 | 9 => 117 | 11 => 226 | 13 => 168 | 12 => 167 | 23 => 222 | 24 => 223 | 14 => 213 | 15 => 214 | 16 => 215 | 17 => 216 | 18 => 217 | 19 => 218 | 20 => 219 | 21 => 220 | 22 => 221 | 25 => 241 | 26 => 242 | 27 => 243 | 28 => 244 | 29 => 245 | 30 => 246 | 31 => 256 | n => n,fun | 26 => 3 | 28 => 177 | 24 => 22 | 0 => 0 | 3 => 3 | 37 => 199 | 48 => 230 | 50 => 49 | 4 => 4 | 40 => 225 | 39 => 224 | 45 => 138 | 5 => 5 | 9 => 9 | 51 => 244 | 55 => 248 | 57 => 254 | 58 => 144 | 33 => 48 | n => n,fun | n => n⟩
theorem Tryz.sorted : Go.Proofs.SlLaysZI.n6 Tryz.prog Tryz.sorted_ren:={
 mixed:=by kernel_rfl
 f6:=⟨Tryz.f145.name,by decide,Tryz.func145.trans (congrArg some (by kernel_rfl))⟩
 f8:=⟨Tryz.f176.name,by decide,Tryz.func176.trans (congrArg some (by kernel_rfl))⟩
 f11:=⟨Tryz.f226.name,by decide,Tryz.func226.trans (congrArg some (by kernel_rfl))⟩
 t0:=Tryz.underlying0
 a0:=Tryz.isAgg0
 z0:=Tryz.sizeOf0
 v0:=Tryz.zeroValue0
 t24:=Tryz.underlying22
 a24:=Tryz.isAgg22
 z24:=Tryz.sizeOf22
 v24:=Tryz.zeroValue22
 t26:=Tryz.underlying3
 a26:=Tryz.isAgg3
 z26:=Tryz.sizeOf3
 v26:=Tryz.zeroValue3
 t28:=Tryz.underlying177
 a28:=Tryz.isAgg177
 z28:=Tryz.sizeOf177
 v28:=Tryz.zeroValue177
 i26:=by kernel_rfl }
def Tryz.sort_ren : Go.Shelf.Ren:=⟨fun | 5 => 117 | 8 => 168 | 7 => 167 | 19 => 222 | 20 => 223 | 10 => 213 | 11 => 214 | 12 => 215 | 13 => 216 | 14 => 217 | 15 => 218 | 16 => 219 | 17 => 220 | 18 => 221 | 30 => 241 | 31 => 242 | 32 => 243 | 33 => 244 | 34 => 245 | 35 => 246 | 40 => 256 | n => n,fun | 23 => 22 | 25 => 3 | 3 => 3 | 32 => 199 | 22 => 22 | 0 => 0 | 44 => 230 | 46 => 49 | 4 => 4 | 36 => 225 | 35 => 224 | 41 => 138 | 5 => 5 | 9 => 9 | 53 => 244 | 57 => 248 | 63 => 254 | 64 => 144 | n => n,fun | n => n⟩
theorem Tryz.sort : Go.Proofs.SlLaysM.n5 Tryz.prog Tryz.sort_ren:={
 mixed:=by kernel_rfl
 f5:=⟨Tryz.f117.name,by decide,Tryz.func117.trans (congrArg some (by kernel_rfl))⟩
 f7:=⟨Tryz.f167.name,by decide,Tryz.func167.trans (congrArg some (by kernel_rfl))⟩
 f8:=Tryz.func168.trans (congrArg some (by kernel_rfl))
 f10:=⟨Tryz.f213.name,by decide,Tryz.func213.trans (congrArg some (by kernel_rfl))⟩
 f11:=⟨Tryz.f214.name,by decide,Tryz.func214.trans (congrArg some (by kernel_rfl))⟩
 f12:=⟨Tryz.f215.name,by decide,Tryz.func215.trans (congrArg some (by kernel_rfl))⟩
 f13:=⟨Tryz.f216.name,by decide,Tryz.func216.trans (congrArg some (by kernel_rfl))⟩
 f14:=⟨Tryz.f217.name,by decide,Tryz.func217.trans (congrArg some (by kernel_rfl))⟩
 f15:=⟨Tryz.f218.name,by decide,Tryz.func218.trans (congrArg some (by kernel_rfl))⟩
 f16:=⟨Tryz.f219.name,by decide,Tryz.func219.trans (congrArg some (by kernel_rfl))⟩
 f17:=⟨Tryz.f220.name,by decide,Tryz.func220.trans (congrArg some (by kernel_rfl))⟩
 f18:=⟨Tryz.f221.name,by decide,Tryz.func221.trans (congrArg some (by kernel_rfl))⟩
 f19:=Tryz.func222.trans (congrArg some (by kernel_rfl))
 f20:=Tryz.func223.trans (congrArg some (by kernel_rfl))
 f30:=⟨Tryz.f241.name,by decide,Tryz.func241.trans (congrArg some (by kernel_rfl))⟩
 f31:=Tryz.func242.trans (congrArg some (by kernel_rfl))
 f32:=Tryz.func243.trans (congrArg some (by kernel_rfl))
 f33:=⟨Tryz.f244.name,by decide,Tryz.func244.trans (congrArg some (by kernel_rfl))⟩
 f34:=⟨Tryz.f245.name,by decide,Tryz.func245.trans (congrArg some (by kernel_rfl))⟩
 f35:=⟨Tryz.f246.name,by decide,Tryz.func246.trans (congrArg some (by kernel_rfl))⟩
 f40:=⟨Tryz.f256.name,by decide,Tryz.func256.trans (congrArg some (by kernel_rfl))⟩
 t0:=Tryz.underlying0
 a0:=Tryz.isAgg0
 z0:=Tryz.sizeOf0
 v0:=Tryz.zeroValue0
 t3:=Tryz.underlying3
 a3:=Tryz.isAgg3
 z3:=Tryz.sizeOf3
 v3:=Tryz.zeroValue3
 t4:=Tryz.underlying4
 a4:=Tryz.isAgg4
 z4:=Tryz.sizeOf4
 v4:=Tryz.zeroValue4
 t5:=Tryz.underlying5
 a5:=Tryz.isAgg5
 z5:=Tryz.sizeOf5
 v5:=Tryz.zeroValue5
 t9:=Tryz.underlying9
 a9:=Tryz.isAgg9
 z9:=Tryz.sizeOf9
 v9:=Tryz.zeroValue9
 t22:=Tryz.underlying22
 a22:=Tryz.isAgg22
 z22:=Tryz.sizeOf22
 v22:=Tryz.zeroValue22
 t23:=Tryz.underlying22
 a23:=Tryz.isAgg22
 z23:=Tryz.sizeOf22
 v23:=Tryz.zeroValue22
 t25:=Tryz.underlying3
 a25:=Tryz.isAgg3
 z25:=Tryz.sizeOf3
 v25:=Tryz.zeroValue3
 t32:=Tryz.underlying199
 a32:=Tryz.isAgg199
 z32:=Tryz.sizeOf199
 v32:=Tryz.zeroValue199
 t35:=Tryz.underlying224
 a35:=Tryz.isAgg224
 z35:=Tryz.sizeOf224
 v35:=Tryz.zeroValue224
 t36:=Tryz.underlying225
 a36:=Tryz.isAgg225
 z36:=Tryz.sizeOf225
 v36:=Tryz.zeroValue225
 t41:=Tryz.underlying138
 a41:=Tryz.isAgg138
 z41:=Tryz.sizeOf138
 v41:=Tryz.zeroValue138
 t44:=Tryz.underlying230
 a44:=Tryz.isAgg230
 z44:=Tryz.sizeOf230
 v44:=Tryz.zeroValue230
 t46:=Tryz.underlying49
 a46:=Tryz.isAgg49
 z46:=Tryz.sizeOf49
 v46:=Tryz.zeroValue49
 t53:=Tryz.underlying244
 a53:=Tryz.isAgg244
 z53:=Tryz.sizeOf244
 v53:=Tryz.zeroValue244
 t57:=Tryz.underlying248
 a57:=Tryz.isAgg248
 z57:=Tryz.sizeOf248
 v57:=Tryz.zeroValue248
 t63:=Tryz.underlying254
 a63:=Tryz.isAgg254
 z63:=Tryz.sizeOf254
 v63:=Tryz.zeroValue254
 t64:=Tryz.underlying144
 a64:=Tryz.isAgg144
 z64:=Tryz.sizeOf144
 v64:=Tryz.zeroValue144 }
def Tryz.compact_ren : Go.Shelf.Ren:=⟨fun | 43 => 118 | n => n,fun | 22 => 22 | 23 => 3 | 3 => 3 | 4 => 4 | 0 => 0 | n => n,fun n => n⟩
theorem Tryz.compact : Go.Proofs.SlLaysN.n43 Tryz.prog Tryz.compact_ren:={
 mixed:=by kernel_rfl
 f43:=⟨Tryz.f118.name,by decide,Tryz.func118.trans (congrArg some (by kernel_rfl))⟩
 t0:=Tryz.underlying0
 a0:=Tryz.isAgg0
 z0:=Tryz.sizeOf0
 v0:=Tryz.zeroValue0
 t3:=Tryz.underlying3
 a3:=Tryz.isAgg3
 z3:=Tryz.sizeOf3
 v3:=Tryz.zeroValue3
 t4:=Tryz.underlying4
 a4:=Tryz.isAgg4
 z4:=Tryz.sizeOf4
 v4:=Tryz.zeroValue4
 t22:=Tryz.underlying22
 a22:=Tryz.isAgg22
 z22:=Tryz.sizeOf22
 v22:=Tryz.zeroValue22
 t23:=Tryz.underlying3
 a23:=Tryz.isAgg3
 z23:=Tryz.sizeOf3
 v23:=Tryz.zeroValue3
 i23:=by kernel_rfl }
end Go.Proofs
namespace Go.Proofs
open Go.A Go.Sort
theorem zqJ {g : G} {w : World} {σ : zd} {id b : Nat} (d : σ[id]? = some (.cells b 1 [])) {u : Value} (e : zf g w σ (.one (.own id b 0 0)) u) : ∃ a,u = .slice a 0 0:=by
 obtain ⟨a,c,e1,e2,e3,e4⟩:=zgJ e d;exact ⟨a,by rw [e1,e3 rfl]⟩
theorem zBe {σ : zd} {id : Nat} {o : Ob} (h : σ[id]? = some o) : σ.set id o = σ:=by
 apply List.ext_getElem?;intro j;rw [List.getElem?_set]
 by_cases e : id = j
 ·subst e
  rw [if_pos rfl,if_pos (yb.1 h).1,h]
 ·rw [if_neg e]
theorem Tryz.ext_sort (args : List V) (σ : zd) (v : V) (σ' : zd) (h : zlE args σ = some (v,σ')) :
  Go.A.Enters Tryz.prog 117 ∧ ∀ g w us,Rel g w σ → zz g w σ args us → Calls Tryz.prog 117 us.toArray w fun e w' => ∃ u g',e = .returned u ∧ zf g' w' σ' v u ∧ Rel g' w' σ' ∧ Ext g w σ g' w' σ':=by
 refine ⟨⟨Tryz.f117,_,Tryz.func117,by kernel_rfl,rfl⟩,fun g w us p i => ?_⟩;have b : ∀ (g : G) (w : World) (σ : zd),zf g w σ (.tup []) (.tuple #[]):=fun g w σ => by simp only [zf]; exact ⟨#[],rfl,by simp only [zz]⟩
 unfold zlE at h;split at h
 ·injection h with h
  simp only [Prod.mk.injEq] at h;obtain ⟨rfl,rfl⟩:=h;simp only [zz,zf,zy,rep] at i;obtain ⟨u,rest,rfl,⟨a,c,sz,rfl,_⟩,rfl⟩:=i;have k:=AnyM.slices_Sort_int_none Tryz.sort a c w;refine Calls.mono (f:=117) k fun e w' he => ?_;obtain ⟨rfl,rfl⟩:=he;exact ⟨_,g,rfl,b _ _ _,p,Ext.refl _ _ _⟩
 ·rename_i id I n
  rw [ye] at h;obtain ⟨l,r,x⟩:=h;rw [yd] at r;obtain ⟨o,d,r⟩:=r;obtain ⟨rfl,K,m⟩:=znR r;subst K;simp only [zp1,Prod.mk.injEq] at x;obtain ⟨rfl,rfl⟩:=x;simp only [zz] at i;obtain ⟨u,rest,rfl,i,rfl⟩:=i;have j : (zcc l).length = l.length:=yx l
  by_cases y : l = []
  ·subst y
   obtain ⟨a,rfl⟩:=zqJ d i;have k:=AnyM.slices_Sort_int_none Tryz.sort a 0 w;refine Calls.mono (f:=117) k fun e w' he => ?_;obtain ⟨rfl,rfl⟩:=he;have z : zcc [] = []:=(by simp [zcc]);rw [z,zBe d];exact ⟨_,g,rfl,b _ _ _,p,Ext.refl _ _ _⟩
  ·obtain ⟨c,arr,t,rfl,L,s,J,E,C,D⟩:=zwk p d y i
   have k:=AnyM.slices_Sort_int Tryz.sort (g.ρ id) 0 c l w (zuk p s E) (ya.1 s).1 (by unfold LIM at m; omega);refine Calls.mono (f:=117) k fun e w' he => ?_;obtain ⟨rfl,q,os,rfl⟩:=he;obtain ⟨H,B⟩:=zDk p d (l':=zcc l) j s J C D q os;exact ⟨_,g,rfl,b _ _ _,B,H⟩
 ·cases h
theorem Tryz.ext_compact (args : List V) (σ : zd) (v : V) (σ' : zd) (h : zfp args σ = some (v,σ')) :
  Go.A.Enters Tryz.prog 118 ∧ ∀ g w us,Rel g w σ → zz g w σ args us → Calls Tryz.prog 118 us.toArray w fun e w' => ∃ u g',e = .returned u ∧ zf g' w' σ' v u ∧ Rel g' w' σ' ∧ Ext g w σ g' w' σ':=by
 refine ⟨⟨Tryz.f118,_,Tryz.func118,by kernel_rfl,rfl⟩,fun g w us C r => ?_⟩
 have p : ∀ (g : G) (w : World) (σ : zd) a c,zf g w σ (vsl []) (.slice a 0 c):=fun g w σ a c => by
  simp only [vsl,zf,zy,rep];exact ⟨a,c,0,rfl,by simp,by simp only [zbO],by simp⟩
 unfold zfp at h;split at h
 ·injection h with h
  simp only [Prod.mk.injEq] at h;obtain ⟨rfl,rfl⟩:=h;simp only [zz,zf,zy,rep] at r;obtain ⟨u,rest,rfl,⟨a,c,sz,rfl,_⟩,rfl⟩:=r;have z:=AnyG.slices_Compact_int_empty Tryz.compact a c w;refine Calls.mono (f:=118) z fun e w' he => ?_;obtain ⟨rfl,rfl⟩:=he;exact ⟨_,g,rfl,p _ _ _ _ _,C,Ext.refl _ _ _⟩
 ·rename_i id E n
  rw [ye] at h;obtain ⟨l,B,s⟩:=h;rw [yd] at B;obtain ⟨o,m,B⟩:=B;obtain ⟨rfl,hn,D⟩:=znR B;subst hn;simp only [zku,Prod.mk.injEq] at s;obtain ⟨rfl,rfl⟩:=s;simp only [zz] at r;obtain ⟨u,rest,rfl,r,rfl⟩:=r
  by_cases O : l = []
  ·subst O
   obtain ⟨a,rfl⟩:=zqJ m r;have z:=AnyG.slices_Compact_int_empty Tryz.compact a 0 w;refine Calls.mono (f:=118) z fun e w' he => ?_;obtain ⟨rfl,rfl⟩:=he
   obtain ⟨H,J⟩:=replace (g':=g) (w':=w') (new:=.cells (E + 1) 1 []) C m (fun _ => False) rfl rfl rfl (yk _) (fun b _ _ => ⟨rfl,rfl,fun _ h => h⟩) (fun b U => U.elim) (fun _ _ _ h => h) (fun _ _ => rfl) (fun _ _ _ => rfl) (fun b o h => C.nb b o h)
    (fun N S P I => by
     rw [zt m] at I;injection I with I;injection I with B s;injection s with s h3;subst B s
     exact .inr ⟨E + 1,0,by rw [zt (zB m)]; rfl,by omega⟩)
    (fun es' h => by cases h) (fun k n h => by simp [zmP,m,Ob.fr] at h) (fun _ _ h => by cases h) (fun H M => absurd rfl M)
   exact ⟨_,g,rfl,p _ _ _ _ _,J,H⟩
  ·obtain ⟨c,arr,t,rfl,Z,K,q3,q4,X,Y⟩:=zwk C m O r
   have z:=AnyG.slices_Compact_int Tryz.compact (g.ρ id) 0 c l w (zuk C K q4) (by unfold LIM at D; omega) Z;rw [zwW] at z;refine Calls.mono (f:=118) z fun e w' he => ?_;obtain ⟨rfl,q,rfl⟩:=he;have hle:=zpI l;obtain ⟨H,J⟩:=zCm C m (d:=(zn l ++ yC (l.length - (zn l).length) 0).toArray) K X Y q #[];have Q:=zrF (w:=w) (q:=q) (os:=#[]) (d:=(zn l ++ yC (l.length - (zn l).length) 0).toArray) K;rw [grow_empty] at H J Q;refine ⟨_,g.give (g.ρ id),rfl,?_,J,H⟩;simp only [vsl,zf,zy,rep,List.length_map];refine ⟨_,c,1,rfl,by omega,zeW (fun e he => by obtain ⟨x,_,rfl⟩:=List.mem_map.1 he; rfl),.inr ⟨g.ρ id,0,rfl,zfS fun i e he => zij fun j x L => ?_⟩⟩;rw [yl,ye] at he;obtain ⟨y,R,rfl⟩:=he
   cases j with
   | succ j => simp [zxN] at L
   | zero =>
     simp [zxN] at L;subst L;have W : i < (zn l).length:=(yb.1 R).1;refine ⟨.int .i64 y,.inr rfl,?_,by simp [rep,zxS]⟩;rw [zh1 Q,yD,yB,yz,znV (by simp; omega) (by simp; omega)];have:=(yb.1 R).2;simp [List.getElem_append_left W,this]
 ·cases h
end Go.Proofs
namespace Go.Proofs
open Go.RowKit Go.Maps Go.Sort Go.Shelf
attribute [local go_sem] Oper.semAt_some
structure LiesAt (w : World) (B o : Nat) (ad : Option Addr) (c : Nat) (zs : List Int) : Prop where
 box : B < w.heap.size ∧ w.cell? ⟨B,o,none⟩ = some (.slice ad zs.length c)
 row : zs ≠ [] → ∃ blk off,ad = some ⟨blk,off,none⟩ ∧ blk < w.heap.size ∧ ∀ (j : Nat) x,zs[j]? = some x → w.cell? ⟨blk,off + j,none⟩ = some (.int .i64 x)
theorem LiesAt.later {w W : World} {B o : Nat} {ad : Option Addr} {c : Nat} {g : List Int} (h : LiesAt w B o ad c g) (a : Below w.heap.size w W) : LiesAt W B o ad c g:=by
 have f : ∀ b i,b < w.heap.size → W.cell? ⟨b,i,none⟩ = w.cell? ⟨b,i,none⟩:=fun b i h => by unfold World.cell?; rw [a.block b h]
 refine ⟨⟨yp h.box.1 a.size,by rw [f _ _ h.box.1]; exact h.box.2⟩,fun k => ?_⟩;obtain ⟨d,off,m,e,n⟩:=h.row k;exact ⟨d,off,m,yp e a.size,fun j x l => by rw [f _ _ e]; exact n j x l⟩
set_option maxRecDepth 100000 in
set_option maxHeartbeats 2000000 in
theorem Tryz.values1 (F : Fence) (n : Nat) (y : F.fn 177) (p : F.round = none) (G : 1 ≤ n) (l B o : Nat) (ad : Option Addr) (c : Nat) (a : List Int) (w : a.length ≤ 4294967296) (w0 : World) (q : LiesAt w0 B o ad c a) (J : List Int → World → Prop) (g : ∀ s W',J s W' → Below w0.heap.size w0 W')
  (A : ∀ pre x W1,J pre W1 → pre.length < a.length → YieldAt F (n - 1) Tryz.prog l #[encZ x] W1 fun e W' => e = .returned (.bool true) ∧ J (pre ++ [x]) W' ∧ KeepsWalks W1 W')
  (W : World) (t : J [] W) :
  CallsIn F n Tryz.prog 177 #[.func (.yield l) #[] #[],.pointer (some ⟨B,o,none⟩)] W fun e W' => (∃ v,e = .returned v) ∧ J a W':=by
 have j : W.cell? ⟨B,o,none⟩ = some (.slice ad a.length c):=(q.later (g _ _ t)).box.2;refine callsIn_of_wp Tryz.func177 rfl y ?_ p;simp only [Tryz.ntmps177,ym,yg,yr,yv,yw,yh,yi,yn,yj,yt,yo]
 gi_wp2
 gi_loopw [7] (fun i wr => ∃ k : Nat,k ≤ a.length ∧ i = .int .i64 k ∧ J (a.take k) wr) (fun i _ => match i with | .int _ k => a.length - k.toNat | _ => 0)
 case atStart => exact ⟨0,Nat.zero_le _,rfl,t⟩
 case round =>
  obtain ⟨k,D,rfl,f⟩:=hrel
  by_cases d : k < a.length
  ·obtain ⟨z,off,rfl,r,b⟩:=(q.later (g _ _ f)).row (fun e => by subst e; simp at d)
   have m:=b k a[k] (by simp [d]);obtain ⟨fn,tmps,assign,body,H,u⟩:=A (a.take k) a[k] _ f (by simp; omega);clear b q j
   gi_wp2
   refine u.mono ?_;rintro e E ⟨rfl,h,C⟩
   gi_wp2
   go_roundw
   case rel => exact ⟨k + 1,by omega,by go_num,by rw [List.take_succ_eq_append_getElem d]; exact h⟩
   case measure =>
    show a.length - ((k : Int) + 1).toNat < a.length - (k : Int).toNat
    omega
  ·have : k = a.length:=by omega
   subst this
   gi_wp2
   go_end0
   exact ⟨⟨_,rfl⟩,by simpa using f⟩
def zBJ (F : Fence) (n : Nat) (P : Program) (g : Nat) (lb : Array Value) (zs : List Int) (w : World) : Prop :=
 ∀ (l : Nat) (J : List Int → World → Prop) (W : World),(∀ s W',J s W' → Below w.heap.size w W') →
   (∀ pre x W1,J pre W1 → pre.length < zs.length → YieldAt F (n - 1) P l #[encZ x] W1 fun e W' => e = .returned (.bool true) ∧ J (pre ++ [x]) W' ∧ KeepsWalks W1 W') →
   J [] W →
   CallsIn F n P g (#[.func (.yield l) #[] #[]] ++ lb) W fun e W' => (∃ v,e = .returned v) ∧ J zs W'
theorem Tryz.values_gives (F : Fence) (n : Nat) (h : F.fn 177) (e : F.round = none) (j : 1 ≤ n) (B o : Nat) (ad : Option Addr) (c : Nat) (a : List Int) (b : a.length ≤ 4294967296) (w0 : World) (f : LiesAt w0 B o ad c a) :
 zBJ F n Tryz.prog 177 #[.pointer (some ⟨B,o,none⟩)] a w0:=fun l J W d i g => Tryz.values1 F n h e j l B o ad c a b w0 f J d i W g
variable {P : Program} {ρ : Ren}
set_option maxRecDepth 100000 in
set_option maxHeartbeats 4000000 in
theorem zs0 (L : SlLaysZI.n11 P ρ) (F : Fence) (n : Nat) (U : F.fn (ρ.f 11)) (D : F.round = none) (hn : 2 ≤ n) (g : Nat) (r : Array Value) (R : F.fn g) (eg : ∀ args w,(callFunc g args).run P w = .ok (.enter g args) w)
  (q : List Int) (hN : q.length ≤ maxLen) (N : q.length * 8 ≤ 140737488355328) (w : World) (C : zBJ F (n - 1) P g r q w) :
  CallsIn F n P (ρ.f 11) #[.slice none 0 0,.func (.func g) #[] r] w fun e w' => ∃ v : Value,e = .returned v ∧ w'.ownsRow w.heap.size (ρ.t 26) 1 v q.length (q.map encZ) ∧ (v = .slice none 0 0 ↔ q = []) ∧ Below w.heap.size w w':=by
 have Y : 1 ≤ n:=by omega
 have mixed:=L.mixed; have t0:=L.t0; have a0:=L.a0; have z0:=L.z0; have v0:=L.v0; have t24:=L.t24; have a24:=L.a24; have z24:=L.z24; have v24:=L.v24; have t26:=L.t26; have a26:=L.a26; have z26:=L.z26; have v26:=L.v26; have t28:=L.t28; have a28:=L.a28; have z28:=L.z28; have v28:=L.v28;have z : ρ.t 24 ≠ ρ.t 26:=fun e => by have h:=L.t24; rw [e,L.t26] at h; cases h
 have u0:=run_underlying L.t0; have aD:=run_underlying L.t24; have aE:=run_underlying L.t26; have aC:=run_underlying L.t28;obtain ⟨_,_,FG⟩:=L.f11;refine callsIn_of_wp_marks FG rfl U ?_ D;simp only [SlBodyZ.n11_ntmps ρ,ym,yg,yr,yv,yw,yh,yi,yn,yj,yt,yo]
 gi_wp2
 refine wpIn_rangeFunc ?_;intro fn S;rw [D];obtain ⟨a,l⟩ : ∃ a,w.alloc (.cells #[.slice none 0 0] (ρ.t 24)) = a:=⟨_,rfl⟩;have O : a.heap.size = w.heap.size + 1:=by rw [← l]; simp
 have Q : a.heap[w.heap.size]? = some (.cells #[.slice none 0 0] (ρ.t 24) (0,0)):=by rw [← l]; exact World.alloc_heap_new w _
 have p : Below w.heap.size w a:=by rw [← l]; exact (Below.refl _ w).alloc (yk _) _
 rw [l]
 let rec0:=AnyZI.apRec ρ fn (.func (.func g) #[] r) w.heap.size a.heap.size .ready none
 obtain ⟨j,b⟩ : ∃ j,(a.alloc (.deferred (some []))).alloc (.loop rec0) = j:=⟨_,rfl⟩
 have hold : ∀ k,k < a.heap.size → j.heap[k]? = a.heap[k]?:=fun k V => by
  rw [← b]; exact (Below.heap_alloc _ _ k (by simp; omega)).trans (Below.heap_alloc _ _ k V)
 have M : Below w.heap.size w j:=by rw [← b]; exact (p.alloc p.size _).alloc (by have:=p.size; simp; omega) _
 have aB : j.heap.size = a.heap.size + 2:=by rw [← b]; simp
 have hM : AnyZI.ApAt ρ w fn (.func (.func g) #[] r) w.heap.size (a.heap.size + 1) a.heap.size [] j :=
  ⟨⟨_,(hold w.heap.size (by omega)).trans Q,⟨rfl,.inl ⟨rfl,rfl⟩⟩,by simp⟩,
   by rw [← b]; have:=World.alloc_heap_new (a.alloc (.deferred (some []))) (.loop rec0); rwa [World.size_alloc] at this,
   by rw [← b]; exact (Below.heap_alloc _ _ _ (by simp)).trans (World.alloc_heap_new a _),M⟩
 refine ⟨a.heap.size + 1,[{ target:=.collected a.heap.size,args:=#[] }],j,{ target:=.fn (.func g) r,args:=#[.func (.yield (a.heap.size + 1)) #[] #[]] },j,g,
  #[.func (.yield (a.heap.size + 1)) #[] #[]] ++ r,j,?_,?_,?_,?_,fun _ => Y,?_⟩
 ·rw [← b]; exact run_enterLoop_outer _ _ _ _ _
 ·simp [resolve,go_sem]
 ·intro f' G; simp [Target.leads] at G; subst G; exact R
 ·simp [invoke,go_sem,eg]
 ·refine (C (a.heap.size + 1) (AnyZI.ApAt ρ w fn (.func (.func g) #[] r) w.heap.size (a.heap.size + 1) a.heap.size) j (fun s W' h => h.below)
   (fun pre x W hJ X => AnyZI.apYield { L with } F (n - 1 - 1) w fn S _ w.heap.size (a.heap.size + 1) a.heap.size (by omega) (by omega) (by omega) (yk _) (by omega) q.length hN N pre x W hJ X) hM).mono ?_
  rintro e I ⟨⟨v0,rfl⟩,u⟩;obtain ⟨v,Z,o,H⟩:=u.box;have y:=run_endLoop (P:=P) u.L (by simp [AnyZI.apRec]);obtain ⟨m,d⟩ : ∃ m,I.putObj (a.heap.size + 1) (.loop { rec0 with state:=.exhausted }) = m:=⟨_,rfl⟩;have i:=y;rw [show I.putObj (a.heap.size + 1) (.loop { rec0 with state:=.exhausted }) = m from d] at i;have A : I.grownBy m (some (a.heap.size + 1)):=by rw [← d]; exact grownBy_putObj_a _ _ _
  have J : m.heap[w.heap.size]? = some (.cells #[v] (ρ.t 24) (0,0)):=by rw [← d]; exact (World.putObj_heap_other (by omega)).trans Z
  have E : m.heap[a.heap.size]? = some (.deferred (some [])):=by rw [← d]; exact (World.putObj_heap_other (by omega)).trans u.K
  have c:=o.kept A (ownsRow_ne_a o u.L (fun cur e => by first | cases e | exact z (Obj.cells.inj e).2.1));have B : Below w.heap.size w m:=u.below.grown A u.below.size (fun k e => by cases e; omega);obtain ⟨aF,aA⟩:=cell_of_box_a J;clear d;refine ⟨none,m,i,?_⟩
  gi_wp2
  rw [← O];refine ⟨by simp,.inl ⟨_,_,rfl,run_takeDeferred E,?_⟩⟩;exact ⟨_,results_tmp rfl _ _ _,v,rfl,c.kept (grownBy_putObj_a _ _ _) (ownsRow_ne_a c E (fun cur e => by first | cases e | exact z (Obj.cells.inj e).2.1)),H,B.grown (grownBy_putObj_a _ _ _) B.size (fun k e => by cases e; omega)⟩
set_option maxHeartbeats 1000000 in
theorem zso (L : SlLaysZI.n8 P ρ) (F : Fence) (n : Nat) (x : F.fn (ρ.f 8)) (j : F.fn (ρ.f 11)) (h : F.round = none) (A : 3 ≤ n) (g : Nat) (l : Array Value) (i : F.fn g) (eg : ∀ args w,(callFunc g args).run P w = .ok (.enter g args) w)
  (a : List Int) (q : a.length ≤ maxLen) (k : a.length * 8 ≤ 140737488355328) (w : World) (c : zBJ F (n - 1 - 1) P g l a w) :
  CallsIn F n P (ρ.f 8) #[.func (.func g) #[] l] w fun e w' => ∃ v : Value,e = .returned v ∧ w'.ownsRow w.heap.size (ρ.t 26) 1 v a.length (a.map encZ) ∧ (v = .slice none 0 0 ↔ a = []) ∧ Below w.heap.size w w':=by
 have y : 1 ≤ n:=by omega
 have s : ∀ args w,(callFunc (ρ.f 11) args).run P w = .ok (.enter (ρ.f 11) args) w:=L.f11.enters rfl;have mixed:=L.mixed; have t0:=L.t0; have a0:=L.a0; have z0:=L.z0; have v0:=L.v0; have t24:=L.t24; have a24:=L.a24; have z24:=L.z24; have v24:=L.v24; have t26:=L.t26; have a26:=L.a26; have z26:=L.z26; have v26:=L.v26; have t28:=L.t28; have a28:=L.a28; have z28:=L.z28; have v28:=L.v28;have z:=run_underlying L.t0; have p:=run_underlying L.t24; have r:=run_underlying L.t26; have o:=run_underlying L.t28;obtain ⟨_,_,u⟩:=L.f8;refine callsIn_of_wp u rfl x ?_ h;simp only [SlBodyZ.n8_ntmps ρ,ym,yg,yr,yv,yw,yh,yi,yn,yj,yt,yo]
 gi_wp2_with (gi_at_fn (ρ.f 11); refine (zs0 { L with } F (n - 1) j h (by omega) g l i eg a q k _ c).mono ?_; rintro e w' ⟨v,rfl,b,d,m⟩)
 go_ret
 exact ⟨v,rfl,b,d,m⟩
set_option maxRecDepth 100000 in
set_option maxHeartbeats 2000000 in
theorem ztk (L : SlLaysZI.n6 P ρ) (F : Fence) (n : Nat) (N : F.fn (ρ.f 6)) (O : F.fn (ρ.f 8)) (Y : F.fn (ρ.f 9)) (q : F.fn (ρ.f 11)) (l : F.round = none) (X : 4 ≤ n) (c : AnyZI.SortsIn P ρ F (n - 1)) (R : ∀ args w,(callFunc (ρ.f 9) args).run P w = .ok (.enter (ρ.f 9) args) w) (g : Nat) (A : Array Value) (p : F.fn g) (eg : ∀ args w,(callFunc g args).run P w = .ok (.enter g args) w)
  (a : List Int) (I : a.length ≤ maxLen) (z : a.length * 8 ≤ 140737488355328) (w : World) (i : zBJ F (n - 1 - 1 - 1) P g A a w) :
  CallsIn F n P (ρ.f 6) #[.func (.func g) #[] A] w fun e w' => ∃ v : Value,e = .returned v ∧ w'.ownsRow w.heap.size (ρ.t 26) 1 v a.length ((a.mergeSort (fun x y => decide (x ≤ y))).map encZ) ∧ (v = .slice none 0 0 ↔ a = []) ∧ Below w.heap.size w w':=by
 have S : 1 ≤ n:=by omega
 have Z : ∀ args w,(callFunc (ρ.f 8) args).run P w = .ok (.enter (ρ.f 8) args) w:=L.f8.enters rfl;have mixed:=L.mixed; have t0:=L.t0; have a0:=L.a0; have z0:=L.z0; have v0:=L.v0; have t24:=L.t24; have a24:=L.a24; have z24:=L.z24; have v24:=L.v24; have t26:=L.t26; have a26:=L.a26; have z26:=L.z26; have v26:=L.v26; have t28:=L.t28; have a28:=L.a28; have z28:=L.z28; have v28:=L.v28;have U:=run_underlying L.t0; have C:=run_underlying L.t24; have H:=run_underlying L.t26; have B:=run_underlying L.t28;obtain ⟨_,_,J⟩:=L.f6;refine callsIn_of_wp J rfl N ?_ l;simp only [SlBodyZ.n6_ntmps ρ,ym,yg,yr,yv,yw,yh,yi,yn,yj,yt,yo]
 gi_wp2_with (gi_at_fn (ρ.f 8); refine (zso { L with } F (n - 1) O q l (by omega) g A p eg a I z _ i).mono ?_; rintro e W ⟨v,rfl,d,k,o⟩)
 rcases d.2 with ⟨rfl,D⟩ | ⟨m,cap,cur,rfl,b,h,r1,Q,M,E⟩
 ·have s : a = []:=yf D
  subst s
  gi_wp2_with (gi_at_fn (ρ.f 9); refine (c.2 none 0 W).mono ?_; rintro e w' ⟨rfl,rfl⟩)
  go_ret
  exact ⟨.slice none 0 0,rfl,by simpa using d,by simp,o⟩
 ·have K : Holds encZ W m 0 a.toArray:=holds_of_block_i h (by simpa using E)
  have u : m < W.heap.size:=(ya.1 h).1;have r : a.length < 4611686018427387904:=by omega
  have cS:=c.1 m 0 cap a W K u r
  gi_wp2_with (gi_at_fn (ρ.f 9); refine cS.mono ?_; rintro e w' ⟨rfl,V,os,rfl⟩)
  go_ret
  exact ⟨_,rfl,ownsRow_sorted_i (by simp) b h r1 Q M,k,o.grown (grownBy_sorted_i _) o.size (fun j G => by cases G; exact b)⟩
theorem Tryz.sorts (m : Nat) : AnyZI.SortsIn Tryz.prog Tryz.sorted_ren Fence.wide m :=
 ⟨fun b off cap e W d a c => callsIn_wide.2 (AnyM.slices_Sort_int Tryz.sort b off cap e W d a c),
  fun p cap W => callsIn_wide.2 (AnyM.slices_Sort_int_none Tryz.sort p cap W)⟩
end Go.Proofs
namespace Go.A
open Go.RowKit (Below)
section
variable {g : G} {w w' : World} {σ : zd}
theorem zD7 (R : Rel g w σ) (f : Below w.heap.size w w') {a : Nat} {cur : Array Value} {t : TypeId} (s : w'.heap[a]? = some (.cells cur t (0,0))) (u : w.heap.size ≤ a) {l : List Int} (B : l.length ≤ cur.size) (C : ∀ (j : Nat) x,l[j]? = some x → cur[j]? = some (.int .i64 x)) :
  Ext g w σ (g.own σ.length a) w' (σ ++ [.cells 0 1 (l.map zl)]) ∧ Rel (g.own σ.length a) w' (σ ++ [.cells 0 1 (l.map zl)]):=by
 have v : ∀ id,id < σ.length → (g.own σ.length a).ρ id = g.ρ id:=fun id h => zaH g.ρ (k:=σ.length) (i:=id) _ (by omega);have hw : ∀ b,b < w.heap.size → (g.own σ.length a).ow b = g.ow b:=fun b h => zaH g.ow (k:=a) (i:=b) _ (by omega)
 have H : Ext g w σ (g.own σ.length a) w' (σ ++ [.cells 0 1 (l.map zl)]):={
  os:=f.os
  tape:=f.tape
  output:=f.output
  size:=f.size
  keeps:=fun b i h => ⟨h,by unfold World.cell?; rw [f.block b (R.nb b i h)]⟩
  len:=by simp
  shape:=fun id D sz len h => by
   obtain ⟨es,p,y⟩:=zaM h;have d:=zb p;refine .inl ⟨by unfold shapeOf; rw [yc d]; exact h,v id d,fun _ arr t z => ⟨arr,?_,rfl⟩⟩;rw [f.block _ (ya.1 z).1];exact z
  map:=fun id es h => ⟨v id (zb h),es,by rw [yc (zb h)]; exact h⟩
  tok:=fun t k n h => by
   obtain ⟨sz,fr,p,y⟩:=zcR h;exact ⟨n,zdG (by rw [yc (zb p)]; exact p) y,yk _,fun _ => rfl⟩
  tsz:=fun t sz h => by
   obtain ⟨fr,p⟩:=zeD h;exact zb9 (fr:=fr) (by rw [yc (zb p)]; exact p)
  ow:=hw
  new:=fun b i h _ _ => h
  frame:=fun b q _ => f.block b q }
 refine ⟨H,⟨fun b i h => yp (R.nb b i h) f.size,fun id x h => ?_⟩⟩
 by_cases d : id < σ.length
 ·rw [yc d] at h
  exact zcS H (v id d) (fun _ => rfl) (fun b q _ => ⟨f.block b q,hw b q,fun _ h => h⟩) (R.ob id x h)
 ·have r : id = σ.length:=by
   have:=zb h;simp at this;omega
  subst r;simp at h;subst h;intro _;have e1 : (g.own σ.length a).ρ σ.length = a:=by simp [G.own]
  have e2 : (g.own σ.length a).ow a = .ob σ.length:=by simp [G.own]
  rw [e1];refine ⟨e2,fun o h => by have:=R.nb _ _ h; omega,cur,t,s,by simpa using B,fun i e he => ?_⟩;rw [yl,ye] at he;obtain ⟨x,A,rfl⟩:=he;refine ⟨rfl,fun j c m => ?_⟩
  cases j with
  | succ j => simp [zl] at m
  | zero =>
    simp [zl] at m;subst m;exact ⟨.int .i64 x,by simpa using C i x A,by simp [zy,rep,zxS],rfl⟩
end
theorem znQ : ∀ {xs : List (List Fz)} {l : List Int},zgp xs = some l → xs = l.map zxN
 | [],l,h => by simp [zgp] at h; subst h; rfl
 | x :: xs,l,h => by
   simp only [zgp] at h;unfold zfF at h;split at h
   ·rename_i a0 bs a b
    injection h with h;subst h;rw [znQ b];unfold zvK at a;split at a
    ·injection a with a; subst a; rfl
    ·cases a
   ·cases h
end Go.A
namespace Go.Proofs
open Go.RowKit Go.Maps Go.Sort Go.Shelf
open Go.A in
theorem Tryz.ext_sorted (args : List V) (σ : zd) (v : V) (σ' : zd) (h : zg0 177 args σ = some (v,σ')) :
  Go.A.Enters Tryz.prog 145 ∧ ∀ g w us,Rel g w σ → zz g w σ args us → Calls Tryz.prog 145 us.toArray w fun e w' => ∃ u g',e = .returned u ∧ zf g' w' σ' v u ∧ Rel g' w' σ' ∧ Ext g w σ g' w' σ':=by
 refine ⟨⟨Tryz.f145,_,Tryz.func145,by kernel_rfl,rfl⟩,fun g w us W hv => ?_⟩;unfold zg0 at h;split at h
 ·rename_i f q aM i o
  split at h
  ·rename_i hf
   obtain ⟨rfl,rfl⟩:=hf;unfold zmo at h;split at h
   ·rename_i xs m
    rw [yd] at h;obtain ⟨l,hl,h⟩:=h;have hx:=znQ hl;subst hx;unfold zlW at h;split at h
    ·rename_i B
     injection h with h;simp only [Prod.mk.injEq] at h;obtain ⟨rfl,rfl⟩:=h;simp only [zz,zf,zy,zv] at hv;obtain ⟨u,rest,rfl,⟨fs,cs,rfl,aE,p,ps,aG,hp,rfl⟩,rfl⟩:=hv;unfold zd.cell zd.elem at m;rw [yd] at m;obtain ⟨el,d,aF⟩:=m;rw [yd] at d;obtain ⟨ob,K,d⟩:=d
     cases ob with
     | tok _ _ => simp [Ob.elem] at d
     | mp _ => simp [Ob.elem] at d
     | cells ver' sz es =>
       simp only [Ob.elem] at d;split at d
       ·rename_i Q
        subst Q;have Z : es ≠ []:=fun e => by subst e; simp at d
        obtain ⟨_,_,arr,t,s,_,M⟩:=W.ob q _ K Z;obtain ⟨hlen,C⟩:=M i el d;obtain ⟨u,aI,I,_⟩:=C 0 _ aF;simp only [zy,rep] at I;obtain ⟨ad,c,aD,rfl,_,J,k⟩:=I;obtain ⟨v0,aN,aL,a,_,aJ,_⟩:=hp;have aC:=zt K;rw [aC] at a;injection a with a;simp only [Prod.mk.injEq] at a;obtain ⟨rfl,rfl,rfl⟩:=a;have aB:=aJ rfl;subst aB;have P : fs = #[]:=(by cases fs; simpa using aE);have R : cs = #[.pointer (some ⟨g.ρ q,i * sz + 0,none⟩)]:=(by cases cs; simpa using aG);subst P R;have X : g.ρ q < w.heap.size:=(ya.1 s).1
        have hw : w.cell? ⟨g.ρ q,i * sz + 0,none⟩ = some (.slice ad l.length c):=by
         unfold World.cell?;rw [s];simpa using aI
        have hL : LiesAt w (g.ρ q) (i * sz + 0) ad c l:=⟨⟨X,hw⟩,fun O => by
         rcases k with k | ⟨b,o,rfl,k⟩
         ·exact absurd (List.map_eq_nil_iff.1 k) O
         ·have aA : aD = 1:=by
           cases l with
           | nil => exact absurd rfl O
           | cons x r => simp only [yA,zbO] at J; rw [← J.1]; rfl
          subst aA
          have z : ∀ (j : Nat) x,l[j]? = some x → g.N b (o + j) ∧ w.cell? ⟨b,o + j,none⟩ = some (.int .i64 x):=fun j x C => by
           have U:=zfk k (i:=j) (e:=zxN x) (by simp [C]);obtain ⟨u,n1,n2,n3⟩:=zgO U (j:=0) (x:=.lit (.int .i64 x)) (by simp [zxN]);simp only [rep] at n3;rw [yB,yz] at n1 n2;exact ⟨n1,by rw [n2,n3.1]⟩
          obtain ⟨x,r,rfl⟩ : ∃ x r,l = x :: r:=by
           cases l with
           | nil => exact absurd rfl O
           | cons x r => exact ⟨x,r,rfl⟩
          exact ⟨b,o,rfl,W.nb b _ (z 0 x (by simp)).1,fun j x C => (z j x C).2⟩⟩
        unfold LIM at B;have cS:=ztk Tryz.sorted Fence.wide 5 trivial trivial trivial trivial rfl (by omega) (Tryz.sorts _) (enters_of Tryz.func117 (by kernel_rfl) rfl) 177 #[.pointer (some ⟨g.ρ q,i * sz + 0,none⟩)] trivial (enters_of Tryz.func177 (by kernel_rfl) rfl) l (by unfold maxLen; omega) (by omega) w (Tryz.values_gives Fence.wide 2 trivial rfl (by omega) _ _ ad c l B w hL);have aH:=callsIn_wide.1 cS;refine Calls.mono (f:=145) aH fun e w' he => ?_;obtain ⟨v,rfl,aK,S,hB⟩:=he;have n : (zcc l).length = l.length:=yx l;rcases aK.2 with ⟨rfl,O⟩ | ⟨gb,cap,cur,rfl,D,E,r1,r2,r3,r4⟩
        ·have Y : l = []:=yf O
         subst Y;obtain ⟨H,R1⟩:=zyj W hB;obtain ⟨H2,R2⟩:=zoE R1 1;refine ⟨_,_,rfl,?_,by simpa [zcc] using R2,by simpa [zcc] using H.trans H2⟩;simp only [zf,zy];exact ⟨0,1,0,by simp [shapeOf,zcc,Ob.shape],yk _,fun _ => ⟨none,0,rfl,yk _,fun _ => rfl,fun h => absurd rfl h⟩,_,_,rfl⟩
        ·have L : ∀ (j : Nat) x,(zcc l)[j]? = some x → cur[j]? = some (.int .i64 x):=fun j x C => by
          have aO : j < l.length:=by rw [← n]; exact (yb.1 C).1
          have U : (cur.toList.take (l.length * 1))[j]? = some (.int .i64 x):=by
           rw [r4,yl];have : (l.mergeSort fun x y => decide (x ≤ y))[j]? = some x:=C;rw [this];rfl
          rw [List.getElem?_take,if_pos (by omega)] at U;simpa using U
         obtain ⟨H,R1⟩:=zD7 W hB E D (l:=zcc l) (by rw [n]; omega) L;refine ⟨_,_,rfl,?_,R1,H⟩;simp only [zf,zy];have e1 : (g.own σ.length gb).ρ σ.length = gb:=(by simp [G.own]);refine ⟨0,1,l.length,by simp [shapeOf,Ob.shape,n],yk _,fun _ => ⟨some ⟨gb,0,none⟩,cap,rfl,r1,fun h => ?_,fun h => ⟨by omega,fun _ => by rw [e1],cur,_,by rw [e1]; exact E,by omega⟩⟩,_,_,rfl⟩;have:=S.2 (yf h);cases this
       ·cases d
    ·cases h
   ·cases h
  ·cases h
 ·cases h
end Go.Proofs
