/- A part of the proof of AliasBoth. Conditions: none. -/
import Derived.Test.YtmkncmffaaninaaGreatABF
import Derived.Test.YtmkncmffaaninaaGreatAAO
import Derived.Sort.Grow
import Derived.Lib.SlicesCompact
import Derived.Shelf.SlIterI.Sorted
import Derived.Shelf.SortM.Plain
import Derived.Shelf.SortM.SortNone
import Derived.Ground.GgzProg
import Derived.Ground.SlgmProg
import Derived.Test.YtmkncmffaaninaaGreatProg
import Derived.Shelf.SlicesG.CompactI
import Derived.RangeFuncBox
import Derived.RangeFuncLeaves
import Derived.WalkKit
import Derived.OwnWalkIn
import Derived.TacticsInMore
import Derived.LoopNIn
import Derived.LoopIn
import Derived.Test.YtmkncmffaaninaaGreatAAQ
set_option linter.all false
open Array renaming getElem?_eq_some_iff → ya,replicate_succ → yg,replicate_zero → yh,getElem?_append_left → yp,getElem?_modify → yx
open List renaming getElem?_append_left → yb,getElem?_eq_some_iff → yc,eq_nil_of_length_eq_zero → yd,length_cons → ye,append_toArray → yi,size_toArray → yk,push_toArray → yl,cons_append → yn,length_nil → yq,nil_append → yr,getElem?_eq_getElem → yt,getElem?_map → yu,map_cons → yy,replicate → yz
open Option renaming bind_eq_some_iff → yf,map_eq_some_iff → ym
open Nat renaming le_refl → yj,lt_of_lt_of_le → yo,reduceAdd → yv,reduceSub → yw,zero_add → yA,add_zero → yB,mul_one → yC
namespace AC
open Go Go.A Go.A.Lex
theorem zwO (x y : Int) : IntKind.u64.wrap (IntKind.u64.wrap (y - x) + IntKind.u64.wrap (x - y)) = 0:=by
 have h : ∀ z,IntKind.u64.wrap z = z % 18446744073709551616:=zsd;rw [h,h,h];omega
theorem znB (x : Int) : IntKind.u64.wrap (x - x) = 0:=by rw [Int.sub_self]; exact wrap_u64 (by omega) (by omega)
theorem zyL (f : PFunc) (C : anyF f) (k a b : Int) : call T 9 [zbS f,.agg [.f (ei k),.f (ei a),.f (ei b)]] [] = some (vB true,[]):=by
 rw [zd (fn:=zu) rfl];have g:=zrR;obtain ⟨D,i,s⟩:=zpJ f C;simp -implicitDefEqProofs only [go_sem] at g i
 cases D with
 | false => simp -implicitDefEqProofs only [go_sem,zu,g,i]
 | true =>
   have d:=zyR C (s rfl)
   obtain ⟨X,c,p⟩ : ∃ (X : Int → zbw) (c : Int → Int),RightP f 2 → ∀ v,call T 33 [zbS f,vI v] [] = some (.tup [vFm (X v),vI (c v)],[]) ∧ (X v).1.length ≤ 1000:=by
    by_cases x : RightP f 2
    ·obtain ⟨X,c,h⟩:=zy1 f d x
     exact ⟨X,c,fun _ => h⟩
    ·exact ⟨fun _ => zqr,fun _ => 0,fun h => absurd h x⟩
   have d1:=zfG f d X c p k a b;have d2:=zfG f d X c p k b a;have d3:=zfG f d X c p k a a;have p1:=znK f d X c p k a b;have p2:=znK f d X c p k a a;have j:=zkg f d X c p k a b;have l:=zkg f d X c p k a a;have o:=zaU f d k a
   cases z : zdL f k a with
   | none =>
     rw [z] at d1 d2 d3 p1 p2 j l o;cases r : zdL f k b <;> rw [r] at d1 d2 p1 j <;> simp -implicitDefEqProofs only [go_sem,zgU,zpt,zvE] at d1 d2 d3 p1 p2 j l o <;> simp -implicitDefEqProofs only [go_sem,zu,beq_self_eq_true,g,i,d1,d2,d3,p1,p2,j,l,o]
   | some A =>
     obtain ⟨v,m⟩:=A;obtain ⟨x,G,m1⟩:=zhU z;rw [z] at d1 d2 d3 p1 p2 j l o;have u : ¬ m ≤ 0:=(by omega);have t : ¬ (0 : Int) = m:=(by omega);have z3 : IntKind.u64.wrap (0 - 0) = 0:=wrap_u64 (by omega) (by omega)
     cases r : zdL f k b with
     | none =>
       rw [r] at d1 d2 p1 j;simp -implicitDefEqProofs only [go_sem,zgU,zpt,zvE,znB,u,t,z3] at d1 d2 d3 p1 p2 j l o;simp -implicitDefEqProofs only [go_sem,zu,beq_self_eq_true,g,i,d1,d2,d3,p1,p2,j,l,o]
     | some B =>
       obtain ⟨w,n⟩:=B;rw [r] at d1 d2 p1 j;have E:=zwO (X v).2 (X w).2
       by_cases q : (X v).1 = (X w).1
       ·have y : (X w).1 = (X v).1:=q.symm
        simp -implicitDefEqProofs only [go_sem,zgU,zpt,zvE,znB,u,t,z3] at d3 p2 l o;simp -implicitDefEqProofs only [go_sem,zpt,zvE,eq_true q,eq_true y] at d1 d2 p1 j;simp -implicitDefEqProofs only [go_sem,zu,beq_self_eq_true,g,i,d1,d2,d3,p1,p2,j,l,o,E]
       ·have y : ¬ (X w).1 = (X v).1:=fun e => q e.symm
        simp -implicitDefEqProofs only [go_sem,zgU,zpt,zvE,znB,u,t,z3] at d3 p2 l o;simp -implicitDefEqProofs only [go_sem,zpt,zvE,q,y] at d1 d2 p1 j;simp -implicitDefEqProofs only [go_sem,zu,beq_self_eq_true,g,i,d1,d2,d3,p1,p2,j,l,o]
end AC
namespace Go.A
open Go.Sort
theorem zzm {c : C} {v : Value} (h : zvD c = some (.lit v)) : c = .f (.lit v):=by
 cases c <;> simp only [zvD] at h <;> first | (injection h with h; injection h) | (injection h with h; rw [h]) | cases h
theorem zrD : ∀ {es : List (List C)} {l : List Int},(zbx es).bind zeS = some l → es = l.map zF
 | [],l,h => by simp [zbx,zeS] at h; subst h; rfl
 | e :: es,l,h => by
   simp only [zbx] at h;unfold zeA at h;split at h
   ·rename_i x xs a f
    simp only [Option.bind_some,zeS] at h;unfold zeA at h;split at h
    ·rename_i y ys b g
     injection h with h;subst h;have i:=zrD (es:=es) (l:=ys) (by rw [f]; exact g);subst i
     have : e = zF y:=by
      unfold zty at b;split at b
      ·rename_i z
       injection b with b;subst b
       cases e with
       | nil => simp [zdm] at a
       | cons c cs =>
         simp only [zdm] at a;unfold zeA at a;split at a
         ·rename_i a0 bs j d
          injection a with a;injection a with h3 h4;subst h3 h4
          cases cs with
          | nil => rw [zzm j]; rfl
          | cons c2 cs =>
            simp only [zdm] at d;unfold zeA at d;split at d
            ·cases d
            ·cases d
         ·cases a
      ·cases b
     rw [this];rfl
    ·cases h
   ·simp at h
theorem zrK {a n : Nat} {o : Ob} {l : List Int} (h : zkA a n o = some l) : o = .cells a 1 (l.map zF) ∧ l.length = n ∧ n ≤ LIM:=by
 cases o with
 | tok _ _ => simp [zkA] at h
 | mp _ => simp [zkA] at h
 | cells ver' sz es =>
   simp only [zkA] at h;split at h
   ·rename_i b
    obtain ⟨rfl,rfl,d,c⟩:=b;have:=zrD h;subst this;exact ⟨rfl,by simpa using d,c⟩
   ·cases h
section
variable {g : G} {w : World} {σ : zb}
theorem zzB (R : Rel g w σ) {id d : Nat} {l : List Int} (b : σ[id]? = some (.cells d 1 (l.map zF))) (i : l ≠ []) {u : Value} (q : ze g w σ (.one (.own id d 0 l.length)) u) :
  ∃ c arr t,u = .slice (some ⟨g.ρ id,0,none⟩) l.length c ∧ l.length ≤ c ∧ w.heap[g.ρ id]? = some (.cells arr t (0,0)) ∧ l.length ≤ arr.size ∧ (∀ (j : Nat) x,l[j]? = some x → arr[j]? = some (.int .i64 x)) ∧ g.ow (g.ρ id) = .ob id ∧ ∀ o,¬ g.N (g.ρ id) o:=by
 obtain ⟨a,c,r,e2,E,A⟩:=zeG q b;have e : l.map zF ≠ []:=by simpa using i
 obtain ⟨B,s,arr,t,n,C,p⟩:=R.ob id _ b e;have k : 0 < l.length:=List.length_pos_iff.2 i;obtain ⟨_,f2,_⟩:=A (by simp; omega);have D:=f2 (by omega);refine ⟨c,arr,t,(by rw [r,D]; try simp),e2,n,by simpa using C,fun j x z => ?_,B,s⟩;obtain ⟨_,m⟩:=p j (zF x) (by simp [z]);obtain ⟨v,y,h,_⟩:=m 0 (.f (.lit (.int .i64 x))) (by simp [zF]);simp only [zq,rep] at h;rw [← h.1];simpa using y
theorem zxe (R : Rel g w σ) {l : List Int} {b : Nat} {arr : Array Value} {t : TypeId} (h : w.heap[b]? = some (.cells arr t (0,0))) (c : ∀ (j : Nat) x,l[j]? = some x → arr[j]? = some (.int .i64 x)) : Holds (Value.int .i64) w b 0 l.toArray:=fun j d => by
 have a : j < l.length:=by simpa using d
 refine ⟨?_,by simp [World.frozen?,h]⟩;rw [zfQ h,yA,c j l[j] (by simp [a])];simp [a]
theorem zyG {q : Nat} {b : Nat} {d : Array Int} {os : Array Obj} {arr : Array Value} {t : TypeId} (h : w.heap[b]? = some (.cells arr t (0,0))) :
  (grow (putRow (Value.int .i64) (Sort.ahead w q) b 0 d) os).heap[b]? = some (.cells (putCells (Value.int .i64) 0 d arr) t (0,0)):=by
 have a : b < w.heap.size:=(ya.1 h).1;simp only [grow,putRow,mapBlock,Sort.ahead];rw [yp (by simpa using a),yx,if_pos rfl,h];rfl
theorem zvs {q : Nat} {b j : Nat} {d : Array Int} {os : Array Obj} (c : j < w.heap.size) (a : j ≠ b) :
  (grow (putRow (Value.int .i64) (Sort.ahead w q) b 0 d) os).heap[j]? = w.heap[j]?:=by
 simp only [grow,putRow,mapBlock,Sort.ahead];rw [yp (by simpa using c),yx,if_neg (Ne.symm a)]
theorem zqf (d : Array Int) (arr : Array Value) : (putCells (Value.int .i64) 0 d arr).size = arr.size:=by simp [putCells]
theorem zrl {d : Array Int} {arr : Array Value} {j : Nat} (c : j < d.size) (hd : d.size ≤ arr.size) : (putCells (Value.int .i64) 0 d arr)[j]? = some (.int .i64 d[j]):=by
 have b : j < arr.size:=by omega
 have a : j < (putCells (Value.int .i64) 0 d arr).size:=by rw [zqf]; exact b
 rw [Array.getElem?_eq_getElem a];simp [putCells,c]
theorem zyA (R : Rel g w σ) {id c : Nat} {l : List Int} (a : σ[id]? = some (.cells c 1 (l.map zF))) {d : Array Int} {arr : Array Value} {t : TypeId}
  (y : w.heap[g.ρ id]? = some (.cells arr t (0,0))) (m : g.ow (g.ρ id) = .ob id) (v : ∀ o,¬ g.N (g.ρ id) o) (q : Nat) (os : Array Obj) :
  Ext g w σ (g.give (g.ρ id)) (grow (putRow (Value.int .i64) (Sort.ahead w q) (g.ρ id) 0 d) os) (σ.set id (.cells (c + 1) 1 [])) ∧
  Rel (g.give (g.ρ id)) (grow (putRow (Value.int .i64) (Sort.ahead w q) (g.ρ id) 0 d) os) (σ.set id (.cells (c + 1) 1 [])):=by
 have f : g.ρ id < w.heap.size:=(ya.1 y).1
 refine replace (g':=g.give (g.ρ id)) R a (fun b => b = g.ρ id) rfl rfl rfl (by simp [grow,Sort.ahead]) (fun b f s => ⟨zvs f s,rfl,fun o h => h.elim (fun x => x) (fun e => absurd e s)⟩)
  (fun b f => ⟨.inl (by rw [f]; exact m),rfl,fun o h => absurd (by rw [f] at h; exact h) (v o)⟩) (fun _ _ _ h => .inl h) (fun _ _ => rfl) (fun _ _ _ => rfl)
  (fun b o h => by
   simp only [grow,Array.size_append,size_putRow,Sort.ahead];rcases h with h | h
   ·have:=R.nb b o h; omega
   ·omega) ?_ ?_ ?_ (fun _ _ h => by cases h) ?_
 ·intro r u p j
  rw [zo a] at j;injection j with j;injection j with h1 h2;injection h2 with h2 h3;subst h1 h2;exact .inr ⟨c + 1,0,by rw [zo (zn a)]; rfl,by omega⟩
 ·intro es' h; cases h
 ·intro k n h; simp [zkF,a,Ob.fr] at h
 ·intro H i
  exact absurd rfl i
end
end Go.A
namespace Go.A
open Go.Lib
def zeD : Option Int → List Int → List Int
 | _,[] => []
 | p,x :: r => if p = some x then zeD p r else x :: zeD (some x) r
theorem zkY : ∀ (r : List Int) (x : Int),x :: zeD (some x) r = zZ (x :: r)
 | [],x => rfl
 | y :: r,x => by
   simp only [zZ,zeD]
   by_cases h : x = y
   ·subst h
    rw [if_pos rfl,if_pos rfl];exact zkY r x
   ·rw [if_neg (by simpa using h),if_neg h,zkY r y]
theorem zpV (l : List Int) : zeD none l = zZ l:=by
 cases l with
 | nil => rfl
 | cons x r => simp [zeD,zkY]
theorem zqw (l : List Int) : ∀ (n k : Nat),k + n = l.length → (((List.range' k n).filter (keeps l.toArray)).map (l.toArray[·]!)) = zeD (if k = 0 then none else l[k - 1]?) (l.drop k)
 | 0,k,h => by
   rw [List.drop_of_length_le (by omega)];simp [zeD]
 | n + 1,k,h => by
   have f : k < l.length:=(by omega);have d:=zqw l n (k + 1) (by omega);rw [List.drop_eq_getElem_cons f];simp only [List.range'_succ,zeD,List.filter_cons];simp only [Nat.add_one_ne_zero,if_false,Nat.add_sub_cancel,yt f] at d;have e : l.toArray[k]! = l[k]:=by simp [f]
   by_cases c : k = 0
   ·subst c
    have a : keeps l.toArray 0 = true:=(by simp [keeps]);rw [a,if_pos rfl,if_pos rfl,if_neg (by simp),yy,d,e]
   ·have b : k - 1 < l.length:=by omega
    have g : l.toArray[k - 1]! = l[k - 1]:=(by simp [b]);rw [if_neg c,yt b]
    by_cases hd : l[k - 1] = l[k]
    ·have a : keeps l.toArray k = false:=by
      have : ¬ l.toArray[k]! ≠ l.toArray[k - 1]!:=(by rw [e,g,hd]; simp);simp only [keeps,c,false_or,decide_eq_false_iff_not];exact this
     simp only [a,Bool.false_eq_true,if_false];rw [if_pos (by rw [hd]),d,hd]
    ·have a : keeps l.toArray k = true:=by
      have : l.toArray[k]! ≠ l.toArray[k - 1]!:=by rw [e,g]; exact fun h => hd h.symm
      simp only [keeps,c,false_or,decide_eq_true_eq];exact this
     simp only [a,if_true,yy];rw [if_neg (by simpa using hd),d,e]
theorem zu6 (l : List Int) : Lib.compact l = zZ l:=by
 have:=zqw l l.length 0 (by simp);simp only [if_true,List.drop_zero] at this;rw [← zpV,← this,Lib.compact,compactUpTo,List.range_eq_range']
theorem zmC : ∀ l : List Int,(zZ l).length ≤ l.length
 | [] => by simp [zZ]
 | [x] => by simp [zZ]
 | x :: y :: r => by
   have:=zmC (y :: r);simp only [zZ];split
   ·simp only [ye] at this ⊢; omega
   ·simp only [ye] at this ⊢; omega
end Go.A
namespace Go.Proofs
open Go.Shelf
def Tryz.sorted_ren : Go.Shelf.Ren:=⟨fun | 6 => 145 | 8 => 176 | 9 => 117 | 11 => 226 | 13 => 168 | 12 => 167 | 23 => 222 | 24 => 223 | 14 => 213 | 15 => 214 | 16 => 215 | 17 => 216 | 18 => 217 | 19 => 218 | 20 => 219 | 21 => 220 | 22 => 221 | 25 => 241 | 26 => 242 | 27 => 243 | 28 => 244 | 29 => 245 | 30 => 246 | 31 => 256 | n => n,fun | 26 => 3 | 28 => 177 | 24 => 22 | 0 => 0 | 3 => 3 | 37 => 199 | 48 => 230 | 50 => 49 | 4 => 4 | 40 => 225 | 39 => 224 | 45 => 138 | 5 => 5 | 9 => 9 | 51 => 244 | 55 => 248 | 57 => 254 | 58 => 144 | 33 => 48 | n => n,fun | n => n⟩
theorem Tryz.sorted : Go.Proofs.SlLaysZI.n6 Tryz.prog Tryz.sorted_ren:={
 mixed:=by kernel_rfl
 f6:=⟨Tryz.f145.name,by decide,Tryz.func145.trans (congrArg some (by kernel_rfl))⟩
 f8:=⟨Tryz.f176.name,by decide,Tryz.func176.trans (congrArg some (by kernel_rfl))⟩
 f11:=⟨Tryz.f226.name,by decide,Tryz.func226.trans (congrArg some (by kernel_rfl))⟩
 t0:=Tryz.underlying0
 a0:=Tryz.isAgg0
 z0:=Tryz.sizeOf0
 v0:=Tryz.zeroValue0
 t24:=Tryz.underlying22
 a24:=Tryz.isAgg22
 z24:=Tryz.sizeOf22
 v24:=Tryz.zeroValue22
 t26:=Tryz.underlying3
 a26:=Tryz.isAgg3
 z26:=Tryz.sizeOf3
 v26:=Tryz.zeroValue3
 t28:=Tryz.underlying177
 a28:=Tryz.isAgg177
 z28:=Tryz.sizeOf177
 v28:=Tryz.zeroValue177
 i26:=by kernel_rfl }
def Tryz.sort_ren : Go.Shelf.Ren:=⟨fun | 5 => 117 | 8 => 168 | 7 => 167 | 19 => 222 | 20 => 223 | 10 => 213 | 11 => 214 | 12 => 215 | 13 => 216 | 14 => 217 | 15 => 218 | 16 => 219 | 17 => 220 | 18 => 221 | 30 => 241 | 31 => 242 | 32 => 243 | 33 => 244 | 34 => 245 | 35 => 246 | 40 => 256 | n => n,fun | 23 => 22 | 25 => 3 | 3 => 3 | 32 => 199 | 22 => 22 | 0 => 0 | 44 => 230 | 46 => 49 | 4 => 4 | 36 => 225 | 35 => 224 | 41 => 138 | 5 => 5 | 9 => 9 | 53 => 244 | 57 => 248 | 63 => 254 | 64 => 144 | n => n,fun | n => n⟩
theorem Tryz.sort : Go.Proofs.SlLaysM.n5 Tryz.prog Tryz.sort_ren:={
 mixed:=by kernel_rfl
 f5:=⟨Tryz.f117.name,by decide,Tryz.func117.trans (congrArg some (by kernel_rfl))⟩
 f7:=⟨Tryz.f167.name,by decide,Tryz.func167.trans (congrArg some (by kernel_rfl))⟩
 f8:=Tryz.func168.trans (congrArg some (by kernel_rfl))
 f10:=⟨Tryz.f213.name,by decide,Tryz.func213.trans (congrArg some (by kernel_rfl))⟩
 f11:=⟨Tryz.f214.name,by decide,Tryz.func214.trans (congrArg some (by kernel_rfl))⟩
 f12:=⟨Tryz.f215.name,by decide,Tryz.func215.trans (congrArg some (by kernel_rfl))⟩
 f13:=⟨Tryz.f216.name,by decide,Tryz.func216.trans (congrArg some (by kernel_rfl))⟩
 f14:=⟨Tryz.f217.name,by decide,Tryz.func217.trans (congrArg some (by kernel_rfl))⟩
 f15:=⟨Tryz.f218.name,by decide,Tryz.func218.trans (congrArg some (by kernel_rfl))⟩
 f16:=⟨Tryz.f219.name,by decide,Tryz.func219.trans (congrArg some (by kernel_rfl))⟩
 f17:=⟨Tryz.f220.name,by decide,Tryz.func220.trans (congrArg some (by kernel_rfl))⟩
 f18:=⟨Tryz.f221.name,by decide,Tryz.func221.trans (congrArg some (by kernel_rfl))⟩
 f19:=Tryz.func222.trans (congrArg some (by kernel_rfl))
 f20:=Tryz.func223.trans (congrArg some (by kernel_rfl))
 f30:=⟨Tryz.f241.name,by decide,Tryz.func241.trans (congrArg some (by kernel_rfl))⟩
 f31:=Tryz.func242.trans (congrArg some (by kernel_rfl))
 f32:=Tryz.func243.trans (congrArg some (by kernel_rfl))
 f33:=⟨Tryz.f244.name,by decide,Tryz.func244.trans (congrArg some (by kernel_rfl))⟩
 f34:=⟨Tryz.f245.name,by decide,Tryz.func245.trans (congrArg some (by kernel_rfl))⟩
 f35:=⟨Tryz.f246.name,by decide,Tryz.func246.trans (congrArg some (by kernel_rfl))⟩
 f40:=⟨Tryz.f256.name,by decide,Tryz.func256.trans (congrArg some (by kernel_rfl))⟩
 t0:=Tryz.underlying0
 a0:=Tryz.isAgg0
 z0:=Tryz.sizeOf0
 v0:=Tryz.zeroValue0
 t3:=Tryz.underlying3
 a3:=Tryz.isAgg3
 z3:=Tryz.sizeOf3
 v3:=Tryz.zeroValue3
 t4:=Tryz.underlying4
 a4:=Tryz.isAgg4
 z4:=Tryz.sizeOf4
 v4:=Tryz.zeroValue4
 t5:=Tryz.underlying5
 a5:=Tryz.isAgg5
 z5:=Tryz.sizeOf5
 v5:=Tryz.zeroValue5
 t9:=Tryz.underlying9
 a9:=Tryz.isAgg9
 z9:=Tryz.sizeOf9
 v9:=Tryz.zeroValue9
 t22:=Tryz.underlying22
 a22:=Tryz.isAgg22
 z22:=Tryz.sizeOf22
 v22:=Tryz.zeroValue22
 t23:=Tryz.underlying22
 a23:=Tryz.isAgg22
 z23:=Tryz.sizeOf22
 v23:=Tryz.zeroValue22
 t25:=Tryz.underlying3
 a25:=Tryz.isAgg3
 z25:=Tryz.sizeOf3
 v25:=Tryz.zeroValue3
 t32:=Tryz.underlying199
 a32:=Tryz.isAgg199
 z32:=Tryz.sizeOf199
 v32:=Tryz.zeroValue199
 t35:=Tryz.underlying224
 a35:=Tryz.isAgg224
 z35:=Tryz.sizeOf224
 v35:=Tryz.zeroValue224
 t36:=Tryz.underlying225
 a36:=Tryz.isAgg225
 z36:=Tryz.sizeOf225
 v36:=Tryz.zeroValue225
 t41:=Tryz.underlying138
 a41:=Tryz.isAgg138
 z41:=Tryz.sizeOf138
 v41:=Tryz.zeroValue138
 t44:=Tryz.underlying230
 a44:=Tryz.isAgg230
 z44:=Tryz.sizeOf230
 v44:=Tryz.zeroValue230
 t46:=Tryz.underlying49
 a46:=Tryz.isAgg49
 z46:=Tryz.sizeOf49
 v46:=Tryz.zeroValue49
 t53:=Tryz.underlying244
 a53:=Tryz.isAgg244
 z53:=Tryz.sizeOf244
 v53:=Tryz.zeroValue244
 t57:=Tryz.underlying248
 a57:=Tryz.isAgg248
 z57:=Tryz.sizeOf248
 v57:=Tryz.zeroValue248
 t63:=Tryz.underlying254
 a63:=Tryz.isAgg254
 z63:=Tryz.sizeOf254
 v63:=Tryz.zeroValue254
 t64:=Tryz.underlying144
 a64:=Tryz.isAgg144
 z64:=Tryz.sizeOf144
 v64:=Tryz.zeroValue144 }
def Tryz.compact_ren : Go.Shelf.Ren:=⟨fun | 43 => 118 | n => n,fun | 22 => 22 | 23 => 3 | 3 => 3 | 4 => 4 | 0 => 0 | n => n,fun n => n⟩
theorem Tryz.compact : Go.Proofs.SlLaysN.n43 Tryz.prog Tryz.compact_ren:={
 mixed:=by kernel_rfl
 f43:=⟨Tryz.f118.name,by decide,Tryz.func118.trans (congrArg some (by kernel_rfl))⟩
 t0:=Tryz.underlying0
 a0:=Tryz.isAgg0
 z0:=Tryz.sizeOf0
 v0:=Tryz.zeroValue0
 t3:=Tryz.underlying3
 a3:=Tryz.isAgg3
 z3:=Tryz.sizeOf3
 v3:=Tryz.zeroValue3
 t4:=Tryz.underlying4
 a4:=Tryz.isAgg4
 z4:=Tryz.sizeOf4
 v4:=Tryz.zeroValue4
 t22:=Tryz.underlying22
 a22:=Tryz.isAgg22
 z22:=Tryz.sizeOf22
 v22:=Tryz.zeroValue22
 t23:=Tryz.underlying3
 a23:=Tryz.isAgg3
 z23:=Tryz.sizeOf3
 v23:=Tryz.zeroValue3
 i23:=by kernel_rfl }
end Go.Proofs
namespace Go.Proofs
open Go.A Go.Sort
theorem zvk {g : G} {w : World} {σ : zb} {id b : Nat} (d : σ[id]? = some (.cells b 1 [])) {u : Value} (h : ze g w σ (.one (.own id b 0 0)) u) : ∃ a,u = .slice a 0 0:=by
 obtain ⟨a,c,f,e2,e,i⟩:=zeG h d;exact ⟨a,by rw [f,e rfl]⟩
theorem zpu {σ : zb} {id : Nat} {o : Ob} (h : σ[id]? = some o) : σ.set id o = σ:=by
 apply List.ext_getElem?;intro j;rw [List.getElem?_set]
 by_cases e : id = j
 ·subst e
  rw [if_pos rfl,if_pos (yc.1 h).1,h]
 ·rw [if_neg e]
theorem Tryz.ext_compact (args : List V) (σ : zb) (v : V) (σ' : zb) (h : zgb args σ = some (v,σ')) :
  Go.A.Enters Tryz.prog 118 ∧ ∀ g w us,Rel g w σ → zv g w σ args us → Calls Tryz.prog 118 us.toArray w fun e w' => ∃ u g',e = .returned u ∧ ze g' w' σ' v u ∧ Rel g' w' σ' ∧ Ext g w σ g' w' σ':=by
 refine ⟨⟨Tryz.f118,_,Tryz.func118,by kernel_rfl,rfl⟩,fun g w us C r => ?_⟩
 have p : ∀ (g : G) (w : World) (σ : zb) a c,ze g w σ (vsl []) (.slice a 0 c):=fun g w σ a c => by
  simp only [vsl,ze,zq,rep];exact ⟨a,c,0,rfl,by simp,by simp only [zbr],by simp⟩
 unfold zgb at h;split at h
 ·injection h with h
  simp only [Prod.mk.injEq] at h;obtain ⟨rfl,rfl⟩:=h;simp only [zv,ze,zq,rep] at r;obtain ⟨u,rest,rfl,⟨a,c,sz,rfl,_⟩,rfl⟩:=r;have z:=AnyG.slices_Compact_int_empty Tryz.compact a c w;refine Calls.mono (f:=118) z fun e w' he => ?_;obtain ⟨rfl,rfl⟩:=he;exact ⟨_,g,rfl,p _ _ _ _ _,C,Ext.refl _ _ _⟩
 ·rename_i id E n
  rw [ym] at h;obtain ⟨l,B,s⟩:=h;rw [yf] at B;obtain ⟨o,m,B⟩:=B;obtain ⟨rfl,U,D⟩:=zrK B;subst U;simp only [zk1,Prod.mk.injEq] at s;obtain ⟨rfl,rfl⟩:=s;simp only [zv] at r;obtain ⟨u,rest,rfl,r,rfl⟩:=r
  by_cases Q : l = []
  ·subst Q
   obtain ⟨a,rfl⟩:=zvk m r;have z:=AnyG.slices_Compact_int_empty Tryz.compact a 0 w;refine Calls.mono (f:=118) z fun e w' he => ?_;obtain ⟨rfl,rfl⟩:=he
   obtain ⟨H,J⟩:=replace (g':=g) (w':=w') (new:=.cells (E + 1) 1 []) C m (fun _ => False) rfl rfl rfl (yj _) (fun b _ _ => ⟨rfl,rfl,fun _ h => h⟩) (fun b Z => Z.elim) (fun _ _ _ h => h) (fun _ _ => rfl) (fun _ _ _ => rfl) (fun b o h => C.nb b o h)
    (fun R S O I => by
     rw [zo m] at I;injection I with I;injection I with B s;injection s with s h3;subst B s
     exact .inr ⟨E + 1,0,by rw [zo (zn m)]; rfl,by omega⟩)
    (fun es' h => by cases h) (fun k n h => by simp [zkF,m,Ob.fr] at h) (fun _ _ h => by cases h) (fun H L => absurd rfl L)
   exact ⟨_,g,rfl,p _ _ _ _ _,J,H⟩
  ·obtain ⟨c,arr,t,rfl,q1,K,q3,W,Y,q6⟩:=zzB C m Q r
   have z:=AnyG.slices_Compact_int Tryz.compact (g.ρ id) 0 c l w (zxe C K W) (by unfold LIM at D; omega) q1;rw [zu6] at z;refine Calls.mono (f:=118) z fun e w' he => ?_;obtain ⟨rfl,q,rfl⟩:=he;have hle:=zmC l;obtain ⟨H,J⟩:=zyA C m (d:=(zZ l ++ yz (l.length - (zZ l).length) 0).toArray) K Y q6 q #[];have P:=zyG (w:=w) (q:=q) (os:=#[]) (d:=(zZ l ++ yz (l.length - (zZ l).length) 0).toArray) K;rw [grow_empty] at H J P;refine ⟨_,g.give (g.ρ id),rfl,?_,J,H⟩;simp only [vsl,ze,zq,rep,List.length_map];refine ⟨_,c,1,rfl,by omega,zcT (fun e he => by obtain ⟨x,_,rfl⟩:=List.mem_map.1 he; rfl),.inr ⟨g.ρ id,0,rfl,zdI fun i e he => zf4 fun j x M => ?_⟩⟩;rw [yu,ym] at he;obtain ⟨y,N,rfl⟩:=he
   cases j with
   | succ j => simp [zuP] at M
   | zero =>
     simp [zuP] at M;subst M;have X : i < (zZ l).length:=(yc.1 N).1;refine ⟨.int .i64 y,.inr rfl,?_,by simp [rep,zxN]⟩;rw [zfQ P,yA,yC,yB,zrl (by simp; omega) (by simp; omega)];have:=(yc.1 N).2;simp [List.getElem_append_left X,this]
 ·cases h
end Go.Proofs
namespace Go.Proofs
open Go.RowKit Go.Maps Go.Sort Go.Shelf
attribute [local go_sem] Oper.semAt_some
structure LiesAt (w : World) (B o : Nat) (ad : Option Addr) (c : Nat) (zs : List Int) : Prop where
 box : B < w.heap.size ∧ w.cell? ⟨B,o,none⟩ = some (.slice ad zs.length c)
 row : zs ≠ [] → ∃ blk off,ad = some ⟨blk,off,none⟩ ∧ blk < w.heap.size ∧ ∀ (j : Nat) x,zs[j]? = some x → w.cell? ⟨blk,off + j,none⟩ = some (.int .i64 x)
theorem LiesAt.later {w W : World} {B o : Nat} {ad : Option Addr} {c : Nat} {f : List Int} (h : LiesAt w B o ad c f) (d : Below w.heap.size w W) : LiesAt W B o ad c f:=by
 have g : ∀ b i,b < w.heap.size → W.cell? ⟨b,i,none⟩ = w.cell? ⟨b,i,none⟩:=fun b i h => by unfold World.cell?; rw [d.block b h]
 refine ⟨⟨yo h.box.1 d.size,by rw [g _ _ h.box.1]; exact h.box.2⟩,fun m => ?_⟩;obtain ⟨a,off,l,e,k⟩:=h.row m;exact ⟨a,off,l,yo e d.size,fun j x n => by rw [g _ _ e]; exact k j x n⟩
set_option maxRecDepth 100000 in
set_option maxHeartbeats 2000000 in
theorem Tryz.values1 (F : Fence) (n : Nat) (C : F.fn 177) (q : F.round = none) (D : 1 ≤ n) (l B o : Nat) (ad : Option Addr) (c : Nat) (a : List Int) (y : a.length ≤ 4294967296) (w0 : World) (j : LiesAt w0 B o ad c a) (J : List Int → World → Prop) (g : ∀ s W',J s W' → Below w0.heap.size w0 W')
  (A : ∀ pre x W1,J pre W1 → pre.length < a.length → YieldAt F (n - 1) Tryz.prog l #[encZ x] W1 fun e W' => e = .returned (.bool true) ∧ J (pre ++ [x]) W' ∧ KeepsWalks W1 W')
  (W : World) (r : J [] W) :
  CallsIn F n Tryz.prog 177 #[.func (.yield l) #[] #[],.pointer (some ⟨B,o,none⟩)] W fun e W' => (∃ v,e = .returned v) ∧ J a W':=by
 have p : W.cell? ⟨B,o,none⟩ = some (.slice ad a.length c):=(j.later (g _ _ r)).box.2;refine callsIn_of_wp Tryz.func177 rfl C ?_ q;simp only [Tryz.ntmps177,yk,ye,yq,yv,yw,yg,yh,yl,yi,yr,yn]
 gi_wp2
 gi_loopw [7] (fun i wr => ∃ k : Nat,k ≤ a.length ∧ i = .int .i64 k ∧ J (a.take k) wr) (fun i _ => match i with | .int _ k => a.length - k.toNat | _ => 0)
 case atStart => exact ⟨0,Nat.zero_le _,rfl,r⟩
 case round =>
  obtain ⟨k,G,rfl,f⟩:=hrel
  by_cases d : k < a.length
  ·obtain ⟨w,off,rfl,t,b⟩:=(j.later (g _ _ f)).row (fun e => by subst e; simp at d)
   have m:=b k a[k] (by simp [d]);obtain ⟨fn,tmps,assign,body,E,z⟩:=A (a.take k) a[k] _ f (by simp; omega);clear b j p
   gi_wp2
   refine z.mono ?_;rintro e H ⟨rfl,h,u⟩
   gi_wp2
   go_roundw
   case rel => exact ⟨k + 1,by omega,by go_num,by rw [List.take_succ_eq_append_getElem d]; exact h⟩
   case measure =>
    show a.length - ((k : Int) + 1).toNat < a.length - (k : Int).toNat
    omega
  ·have : k = a.length:=by omega
   subst this
   gi_wp2
   go_end0
   exact ⟨⟨_,rfl⟩,by simpa using f⟩
def zze (F : Fence) (n : Nat) (P : Program) (g : Nat) (lb : Array Value) (zs : List Int) (w : World) : Prop :=
 ∀ (l : Nat) (J : List Int → World → Prop) (W : World),(∀ s W',J s W' → Below w.heap.size w W') →
   (∀ pre x W1,J pre W1 → pre.length < zs.length → YieldAt F (n - 1) P l #[encZ x] W1 fun e W' => e = .returned (.bool true) ∧ J (pre ++ [x]) W' ∧ KeepsWalks W1 W') →
   J [] W →
   CallsIn F n P g (#[.func (.yield l) #[] #[]] ++ lb) W fun e W' => (∃ v,e = .returned v) ∧ J zs W'
theorem Tryz.values_gives (F : Fence) (n : Nat) (j : F.fn 177) (e : F.round = none) (f : 1 ≤ n) (B o : Nat) (ad : Option Addr) (c : Nat) (a : List Int) (b : a.length ≤ 4294967296) (w0 : World) (g : LiesAt w0 B o ad c a) :
 zze F n Tryz.prog 177 #[.pointer (some ⟨B,o,none⟩)] a w0:=fun l J W d i h => Tryz.values1 F n j e f l B o ad c a b w0 g J d i W h
variable {P : Program} {ρ : Ren}
set_option maxRecDepth 100000 in
set_option maxHeartbeats 4000000 in
theorem zqB (L : SlLaysZI.n11 P ρ) (F : Fence) (n : Nat) (U : F.fn (ρ.f 11)) (D : F.round = none) (hn : 2 ≤ n) (g : Nat) (q : Array Value) (N : F.fn g) (eg : ∀ args w,(callFunc g args).run P w = .ok (.enter g args) w)
  (r : List Int) (Z : r.length ≤ maxLen) (M : r.length * 8 ≤ 140737488355328) (w : World) (E : zze F (n - 1) P g q r w) :
  CallsIn F n P (ρ.f 11) #[.slice none 0 0,.func (.func g) #[] q] w fun e w' => ∃ v : Value,e = .returned v ∧ w'.ownsRow w.heap.size (ρ.t 26) 1 v r.length (r.map encZ) ∧ (v = .slice none 0 0 ↔ r = []) ∧ Below w.heap.size w w':=by
 have h1 : 1 ≤ n:=by omega
 have mixed:=L.mixed; have t0:=L.t0; have a0:=L.a0; have z0:=L.z0; have v0:=L.v0; have t24:=L.t24; have a24:=L.a24; have z24:=L.z24; have v24:=L.v24; have t26:=L.t26; have a26:=L.a26; have z26:=L.z26; have v26:=L.v26; have t28:=L.t28; have a28:=L.a28; have z28:=L.z28; have v28:=L.v28;have A : ρ.t 24 ≠ ρ.t 26:=fun e => by have h:=L.t24; rw [e,L.t26] at h; cases h
 have u0:=run_underlying L.t0; have aD:=run_underlying L.t24; have aA:=run_underlying L.t26; have aC:=run_underlying L.t28;obtain ⟨_,_,Y⟩:=L.f11;refine callsIn_of_wp_marks Y rfl U ?_ D;simp only [SlBodyZ.n11_ntmps ρ,yk,ye,yq,yv,yw,yg,yh,yl,yi,yr,yn]
 gi_wp2
 refine wpIn_rangeFunc ?_;intro fn I;rw [D];obtain ⟨a,l⟩ : ∃ a,w.alloc (.cells #[.slice none 0 0] (ρ.t 24)) = a:=⟨_,rfl⟩;have J : a.heap.size = w.heap.size + 1:=by rw [← l]; simp
 have R : a.heap[w.heap.size]? = some (.cells #[.slice none 0 0] (ρ.t 24) (0,0)):=by rw [← l]; exact World.alloc_heap_new w _
 have p : Below w.heap.size w a:=by rw [← l]; exact (Below.refl _ w).alloc (yj _) _
 rw [l]
 let rec0:=AnyZI.apRec ρ fn (.func (.func g) #[] q) w.heap.size a.heap.size .ready none
 obtain ⟨j,b⟩ : ∃ j,(a.alloc (.deferred (some []))).alloc (.loop rec0) = j:=⟨_,rfl⟩
 have hold : ∀ k,k < a.heap.size → j.heap[k]? = a.heap[k]?:=fun k hk => by
  rw [← b]; exact (Below.heap_alloc _ _ k (by simp; omega)).trans (Below.heap_alloc _ _ k hk)
 have Q : Below w.heap.size w j:=by rw [← b]; exact (p.alloc p.size _).alloc (by have:=p.size; simp; omega) _
 have V : j.heap.size = a.heap.size + 2:=by rw [← b]; simp
 have hM : AnyZI.ApAt ρ w fn (.func (.func g) #[] q) w.heap.size (a.heap.size + 1) a.heap.size [] j :=
  ⟨⟨_,(hold w.heap.size (by omega)).trans R,⟨rfl,.inl ⟨rfl,rfl⟩⟩,by simp⟩,
   by rw [← b]; have:=World.alloc_heap_new (a.alloc (.deferred (some []))) (.loop rec0); rwa [World.size_alloc] at this,
   by rw [← b]; exact (Below.heap_alloc _ _ _ (by simp)).trans (World.alloc_heap_new a _),Q⟩
 refine ⟨a.heap.size + 1,[{ target:=.collected a.heap.size,args:=#[] }],j,{ target:=.fn (.func g) q,args:=#[.func (.yield (a.heap.size + 1)) #[] #[]] },j,g,
  #[.func (.yield (a.heap.size + 1)) #[] #[]] ++ q,j,?_,?_,?_,?_,fun _ => h1,?_⟩
 ·rw [← b]; exact run_enterLoop_outer _ _ _ _ _
 ·simp [resolve,go_sem]
 ·intro f' H; simp [Target.leads] at H; subst H; exact N
 ·simp [invoke,go_sem,eg]
 ·refine (E (a.heap.size + 1) (AnyZI.ApAt ρ w fn (.func (.func g) #[] q) w.heap.size (a.heap.size + 1) a.heap.size) j (fun s W' h => h.below)
   (fun pre x W X hl => AnyZI.apYield { L with } F (n - 1 - 1) w fn I _ w.heap.size (a.heap.size + 1) a.heap.size (by omega) (by omega) (by omega) (yj _) (by omega) r.length Z M pre x W X hl) hM).mono ?_
  rintro e S ⟨⟨v0,rfl⟩,u⟩;obtain ⟨v,hv,m,G⟩:=u.box;have C:=run_endLoop (P:=P) u.L (by simp [AnyZI.apRec]);obtain ⟨o,c⟩ : ∃ o,S.putObj (a.heap.size + 1) (.loop { rec0 with state:=.exhausted }) = o:=⟨_,rfl⟩;have d:=C;rw [show S.putObj (a.heap.size + 1) (.loop { rec0 with state:=.exhausted }) = o from c] at d;have B : S.grownBy o (some (a.heap.size + 1)):=by rw [← c]; exact grownBy_putObj_a _ _ _
  have O : o.heap[w.heap.size]? = some (.cells #[v] (ρ.t 24) (0,0)):=by rw [← c]; exact (World.putObj_heap_other (by omega)).trans hv
  have z : o.heap[a.heap.size]? = some (.deferred (some [])):=by rw [← c]; exact (World.putObj_heap_other (by omega)).trans u.K
  have i:=m.kept B (ownsRow_ne_a m u.L (fun cur e => by first | cases e | exact A (Obj.cells.inj e).2.1));have y : Below w.heap.size w o:=u.below.grown B u.below.size (fun k e => by cases e; omega);obtain ⟨aE,aB⟩:=cell_of_box_a O;clear c;refine ⟨none,o,d,?_⟩
  gi_wp2
  rw [← J];refine ⟨by simp,.inl ⟨_,_,rfl,run_takeDeferred z,?_⟩⟩;exact ⟨_,results_tmp rfl _ _ _,v,rfl,i.kept (grownBy_putObj_a _ _ _) (ownsRow_ne_a i z (fun cur e => by first | cases e | exact A (Obj.cells.inj e).2.1)),G,y.grown (grownBy_putObj_a _ _ _) y.size (fun k e => by cases e; omega)⟩
set_option maxHeartbeats 1000000 in
theorem zpa (L : SlLaysZI.n8 P ρ) (F : Fence) (n : Nat) (y : F.fn (ρ.f 8)) (k : F.fn (ρ.f 11)) (c : F.round = none) (z : 3 ≤ n) (g : Nat) (l : Array Value) (j : F.fn g) (u : ∀ args w,(callFunc g args).run P w = .ok (.enter g args) w)
  (a : List Int) (r : a.length ≤ maxLen) (i : a.length * 8 ≤ 140737488355328) (w : World) (d : zze F (n - 1 - 1) P g l a w) :
  CallsIn F n P (ρ.f 8) #[.func (.func g) #[] l] w fun e w' => ∃ v : Value,e = .returned v ∧ w'.ownsRow w.heap.size (ρ.t 26) 1 v a.length (a.map encZ) ∧ (v = .slice none 0 0 ↔ a = []) ∧ Below w.heap.size w w':=by
 have B : 1 ≤ n:=by omega
 have q : ∀ args w,(callFunc (ρ.f 11) args).run P w = .ok (.enter (ρ.f 11) args) w:=L.f11.enters rfl;have mixed:=L.mixed; have t0:=L.t0; have a0:=L.a0; have z0:=L.z0; have v0:=L.v0; have t24:=L.t24; have a24:=L.a24; have z24:=L.z24; have v24:=L.v24; have t26:=L.t26; have a26:=L.a26; have z26:=L.z26; have v26:=L.v26; have t28:=L.t28; have a28:=L.a28; have z28:=L.z28; have v28:=L.v28;have A:=run_underlying L.t0; have o:=run_underlying L.t24; have x:=run_underlying L.t26; have m:=run_underlying L.t28;obtain ⟨_,_,p⟩:=L.f8;refine callsIn_of_wp p rfl y ?_ c;simp only [SlBodyZ.n8_ntmps ρ,yk,ye,yq,yv,yw,yg,yh,yl,yi,yr,yn]
 gi_wp2_with (gi_at_fn (ρ.f 11); refine (zqB { L with } F (n - 1) k c (by omega) g l j u a r i _ d).mono ?_; rintro e w' ⟨v,rfl,b,h,s⟩)
 go_ret
 exact ⟨v,rfl,b,h,s⟩
set_option maxRecDepth 100000 in
set_option maxHeartbeats 2000000 in
theorem zri (L : SlLaysZI.n6 P ρ) (F : Fence) (n : Nat) (R : F.fn (ρ.f 6)) (O : F.fn (ρ.f 8)) (Y : F.fn (ρ.f 9)) (s : F.fn (ρ.f 11)) (i : F.round = none) (S : 4 ≤ n) (c : AnyZI.SortsIn P ρ F (n - 1)) (e9 : ∀ args w,(callFunc (ρ.f 9) args).run P w = .ok (.enter (ρ.f 9) args) w) (g : Nat) (u : Array Value) (p : F.fn g) (Q : ∀ args w,(callFunc g args).run P w = .ok (.enter g args) w)
  (a : List Int) (G : a.length ≤ maxLen) (m : a.length * 8 ≤ 140737488355328) (w : World) (k : zze F (n - 1 - 1 - 1) P g u a w) :
  CallsIn F n P (ρ.f 6) #[.func (.func g) #[] u] w fun e w' => ∃ v : Value,e = .returned v ∧ w'.ownsRow w.heap.size (ρ.t 26) 1 v a.length ((a.mergeSort (fun x y => decide (x ≤ y))).map encZ) ∧ (v = .slice none 0 0 ↔ a = []) ∧ Below w.heap.size w w':=by
 have Z : 1 ≤ n:=by omega
 have V : ∀ args w,(callFunc (ρ.f 8) args).run P w = .ok (.enter (ρ.f 8) args) w:=L.f8.enters rfl;have mixed:=L.mixed; have t0:=L.t0; have a0:=L.a0; have z0:=L.z0; have v0:=L.v0; have t24:=L.t24; have a24:=L.a24; have z24:=L.z24; have v24:=L.v24; have t26:=L.t26; have a26:=L.a26; have z26:=L.z26; have v26:=L.v26; have t28:=L.t28; have a28:=L.a28; have z28:=L.z28; have v28:=L.v28;have U:=run_underlying L.t0; have D:=run_underlying L.t24; have J:=run_underlying L.t26; have B:=run_underlying L.t28;obtain ⟨_,_,E⟩:=L.f6;refine callsIn_of_wp E rfl R ?_ i;simp only [SlBodyZ.n6_ntmps ρ,yk,ye,yq,yv,yw,yg,yh,yl,yi,yr,yn]
 gi_wp2_with (gi_at_fn (ρ.f 8); refine (zpa { L with } F (n - 1) O s i (by omega) g u p Q a G m _ k).mono ?_; rintro e W ⟨v,rfl,d,l,o⟩)
 rcases d.2 with ⟨rfl,I⟩ | ⟨z,cap,cur,rfl,b,h,r1,C,N,H⟩
 ·have r : a = []:=yd I
  subst r
  gi_wp2_with (gi_at_fn (ρ.f 9); refine (c.2 none 0 W).mono ?_; rintro e w' ⟨rfl,rfl⟩)
  go_ret
  exact ⟨.slice none 0 0,rfl,by simpa using d,by simp,o⟩
 ·have K : Holds encZ W z 0 a.toArray:=holds_of_block_i h (by simpa using H)
  have A : z < W.heap.size:=(ya.1 h).1;have q : a.length < 4611686018427387904:=by omega
  have cS:=c.1 z 0 cap a W K A q
  gi_wp2_with (gi_at_fn (ρ.f 9); refine cS.mono ?_; rintro e w' ⟨rfl,X,os,rfl⟩)
  go_ret
  exact ⟨_,rfl,ownsRow_sorted_i (by simp) b h r1 C N,l,o.grown (grownBy_sorted_i _) o.size (fun j M => by cases M; exact b)⟩
theorem Tryz.sorts (m : Nat) : AnyZI.SortsIn Tryz.prog Tryz.sorted_ren Fence.wide m :=
 ⟨fun c off cap d W e a b => callsIn_wide.2 (AnyM.slices_Sort_int Tryz.sort c off cap d W e a b),
  fun p cap W => callsIn_wide.2 (AnyM.slices_Sort_int_none Tryz.sort p cap W)⟩
end Go.Proofs
namespace Go.A
open Go.RowKit (Below)
section
variable {g : G} {w w' : World} {σ : zb}
theorem zAE (R : Rel g w σ) (f : Below w.heap.size w w') {a : Nat} {cur : Array Value} {t : TypeId} (v : w'.heap[a]? = some (.cells cur t (0,0))) (r : w.heap.size ≤ a) {l : List Int} (D : l.length ≤ cur.size) (A : ∀ (j : Nat) x,l[j]? = some x → cur[j]? = some (.int .i64 x)) :
  Ext g w σ (g.own σ.length a) w' (σ ++ [.cells 0 1 (l.map zF)]) ∧ Rel (g.own σ.length a) w' (σ ++ [.cells 0 1 (l.map zF)]):=by
 have u : ∀ id,id < σ.length → (g.own σ.length a).ρ id = g.ρ id:=fun id h => zP g.ρ (k:=σ.length) (i:=id) _ (by omega);have hw : ∀ b,b < w.heap.size → (g.own σ.length a).ow b = g.ow b:=fun b h => zP g.ow (k:=a) (i:=b) _ (by omega)
 have H : Ext g w σ (g.own σ.length a) w' (σ ++ [.cells 0 1 (l.map zF)]):={
  os:=f.os
  tape:=f.tape
  output:=f.output
  size:=f.size
  keeps:=fun b i h => ⟨h,by unfold World.cell?; rw [f.block b (R.nb b i h)]⟩
  len:=by simp
  shape:=fun id E sz len h => by
   obtain ⟨es,m,y⟩:=zao h;have d:=za m;refine .inl ⟨by unfold shapeOf; rw [yb d]; exact h,u id d,fun _ arr t z => ⟨arr,?_,rfl⟩⟩;rw [f.block _ (ya.1 z).1];exact z
  map:=fun id es h => ⟨u id (za h),es,by rw [yb (za h)]; exact h⟩
  tok:=fun t k n h => by
   obtain ⟨sz,fr,m,y⟩:=zb7 h;exact ⟨n,zct (by rw [yb (za m)]; exact m) y,yj _,fun _ => rfl⟩
  tsz:=fun t sz h => by
   obtain ⟨fr,m⟩:=zdh h;exact zbC (fr:=fr) (by rw [yb (za m)]; exact m)
  ow:=hw
  new:=fun b i h _ _ => h
  frame:=fun b q _ => f.block b q }
 refine ⟨H,⟨fun b i h => yo (R.nb b i h) f.size,fun id x h => ?_⟩⟩
 by_cases d : id < σ.length
 ·rw [yb d] at h
  exact zbi H (u id d) (fun _ => rfl) (fun b q _ => ⟨f.block b q,hw b q,fun _ h => h⟩) (R.ob id x h)
 ·have s : id = σ.length:=by
   have:=za h;simp at this;omega
  subst s;simp at h;subst h;intro _;have C : (g.own σ.length a).ρ σ.length = a:=by simp [G.own]
  have e2 : (g.own σ.length a).ow a = .ob σ.length:=by simp [G.own]
  rw [C];refine ⟨e2,fun o h => by have:=R.nb _ _ h; omega,cur,t,v,by simpa using D,fun i e he => ?_⟩;rw [yu,ym] at he;obtain ⟨x,B,rfl⟩:=he;refine ⟨rfl,fun j c p => ?_⟩
  cases j with
  | succ j => simp [zF] at p
  | zero =>
    simp [zF] at p;subst p;exact ⟨.int .i64 x,by simpa using A i x B,by simp [zq,rep,zxN],rfl⟩
end
theorem zlD : ∀ {xs : List (List Fz)} {l : List Int},zeS xs = some l → xs = l.map zuP
 | [],l,h => by simp [zeS] at h; subst h; rfl
 | x :: xs,l,h => by
   simp only [zeS] at h;unfold zeA at h;split at h
   ·rename_i a0 bs a b
    injection h with h;subst h;rw [zlD b];unfold zty at a;split at a
    ·injection a with a; subst a; rfl
    ·cases a
   ·cases h
end Go.A
namespace Go.Proofs
open Go.RowKit Go.Maps Go.Sort Go.Shelf
open Go.A in
theorem Tryz.ext_sorted (args : List V) (σ : zb) (v : V) (σ' : zb) (h : zhH 177 args σ = some (v,σ')) :
  Go.A.Enters Tryz.prog 145 ∧ ∀ g w us,Rel g w σ → zv g w σ args us → Calls Tryz.prog 145 us.toArray w fun e w' => ∃ u g',e = .returned u ∧ ze g' w' σ' v u ∧ Rel g' w' σ' ∧ Ext g w σ g' w' σ':=by
 refine ⟨⟨Tryz.f145,_,Tryz.func145,by kernel_rfl,rfl⟩,fun g w us U hv => ?_⟩;unfold zhH at h;split at h
 ·rename_i f q aN i o
  split at h
  ·rename_i hf
   obtain ⟨rfl,rfl⟩:=hf;unfold zqk at h;split at h
   ·rename_i xs m
    rw [yf] at h;obtain ⟨l,hl,h⟩:=h;have hx:=zlD hl;subst hx;unfold zpd at h;split at h
    ·rename_i C
     injection h with h;simp only [Prod.mk.injEq] at h;obtain ⟨rfl,rfl⟩:=h;simp only [zv,ze,zq,zm] at hv;obtain ⟨u,rest,rfl,⟨fs,cs,rfl,aH,p,ps,aG,hp,rfl⟩,rfl⟩:=hv;unfold zb.cell zb.elem at m;rw [yf] at m;obtain ⟨el,d,aE⟩:=m;rw [yf] at d;obtain ⟨ob,O,d⟩:=d
     cases ob with
     | tok _ _ => simp [Ob.elem] at d
     | mp _ => simp [Ob.elem] at d
     | cells ver' sz es =>
       simp only [Ob.elem] at d;split at d
       ·rename_i Q
        subst Q;have aB : es ≠ []:=fun e => by subst e; simp at d
        obtain ⟨_,_,arr,t,s,_,J⟩:=U.ob q _ O aB;obtain ⟨hlen,B⟩:=J i el d;obtain ⟨u,Y,M,_⟩:=B 0 _ aE;simp only [zq,rep] at M;obtain ⟨ad,c,X,rfl,_,P,k⟩:=M;obtain ⟨v0,aO,aL,a,_,aC,_⟩:=hp;have aK:=zo O;rw [aK] at a;injection a with a;simp only [Prod.mk.injEq] at a;obtain ⟨rfl,rfl,rfl⟩:=a;have aF:=aC rfl;subst aF;have S : fs = #[]:=(by cases fs; simpa using aH);have I : cs = #[.pointer (some ⟨g.ρ q,i * sz + 0,none⟩)]:=(by cases cs; simpa using aG);subst S I;have aA : g.ρ q < w.heap.size:=(ya.1 s).1
        have hw : w.cell? ⟨g.ρ q,i * sz + 0,none⟩ = some (.slice ad l.length c):=by
         unfold World.cell?;rw [s];simpa using Y
        have hL : LiesAt w (g.ρ q) (i * sz + 0) ad c l:=⟨⟨aA,hw⟩,fun R => by
         rcases k with k | ⟨b,o,rfl,k⟩
         ·exact absurd (List.map_eq_nil_iff.1 k) R
         ·have Z : X = 1:=by
           cases l with
           | nil => exact absurd rfl R
           | cons x r => simp only [yy,zbr] at P; rw [← P.1]; rfl
          subst Z
          have z : ∀ (j : Nat) x,l[j]? = some x → g.N b (o + j) ∧ w.cell? ⟨b,o + j,none⟩ = some (.int .i64 x):=fun j x B => by
           have W:=zda k (i:=j) (e:=zuP x) (by simp [B]);obtain ⟨u,n1,n2,n3⟩:=zeK W (j:=0) (x:=.lit (.int .i64 x)) (by simp [zuP]);simp only [rep] at n3;rw [yC,yB] at n1 n2;exact ⟨n1,by rw [n2,n3.1]⟩
          obtain ⟨x,r,rfl⟩ : ∃ x r,l = x :: r:=by
           cases l with
           | nil => exact absurd rfl R
           | cons x r => exact ⟨x,r,rfl⟩
          exact ⟨b,o,rfl,U.nb b _ (z 0 x (by simp)).1,fun j x B => (z j x B).2⟩⟩
        unfold LIM at C;have cS:=zri Tryz.sorted Fence.wide 5 trivial trivial trivial trivial rfl (by omega) (Tryz.sorts _) (enters_of Tryz.func117 (by kernel_rfl) rfl) 177 #[.pointer (some ⟨g.ρ q,i * sz + 0,none⟩)] trivial (enters_of Tryz.func177 (by kernel_rfl) rfl) l (by unfold maxLen; omega) (by omega) w (Tryz.values_gives Fence.wide 2 trivial rfl (by omega) _ _ ad c l C w hL);have aJ:=callsIn_wide.1 cS;refine Calls.mono (f:=145) aJ fun e w' he => ?_;obtain ⟨v,rfl,aI,L,hB⟩:=he;have n : (zjb l).length = l.length:=List.length_mergeSort l;rcases aI.2 with ⟨rfl,R⟩ | ⟨gb,cap,cur,rfl,D,K,r1,r2,r3,r4⟩
        ·have aD : l = []:=yd R
         subst aD;obtain ⟨H,R1⟩:=zxq U hB;obtain ⟨H2,R2⟩:=zpU R1 1;refine ⟨_,_,rfl,?_,by simpa [zjb] using R2,by simpa [zjb] using H.trans H2⟩;simp only [ze,zq];exact ⟨0,1,0,by simp [shapeOf,zjb,Ob.shape],yj _,fun _ => ⟨none,0,rfl,yj _,fun _ => rfl,fun h => absurd rfl h⟩,_,_,rfl⟩
        ·have E : ∀ (j : Nat) x,(zjb l)[j]? = some x → cur[j]? = some (.int .i64 x):=fun j x B => by
          have aM : j < l.length:=by rw [← n]; exact (yc.1 B).1
          have W : (cur.toList.take (l.length * 1))[j]? = some (.int .i64 x):=by
           rw [r4,yu];have : (l.mergeSort fun x y => decide (x ≤ y))[j]? = some x:=B;rw [this];rfl
          rw [List.getElem?_take,if_pos (by omega)] at W;simpa using W
         obtain ⟨H,R1⟩:=zAE U hB K D (l:=zjb l) (by rw [n]; omega) E;refine ⟨_,_,rfl,?_,R1,H⟩;simp only [ze,zq];have e1 : (g.own σ.length gb).ρ σ.length = gb:=(by simp [G.own]);refine ⟨0,1,l.length,by simp [shapeOf,Ob.shape,n],yj _,fun _ => ⟨some ⟨gb,0,none⟩,cap,rfl,r1,fun h => ?_,fun h => ⟨by omega,fun _ => by rw [e1],cur,_,by rw [e1]; exact K,by omega⟩⟩,_,_,rfl⟩;have:=L.2 (yd h);cases this
       ·cases d
    ·cases h
   ·cases h
  ·cases h
 ·cases h
end Go.Proofs
namespace AC
open Go.A Go.A.Lex
theorem zCf : ztt (zAg Go.Proofs.Tryz.prog (zo8 Go.Proofs.Tryz.prog)) 0 tab :=
 ⟨zaQ _ 0 (by kernel_rfl),zaQ _ 16 (by kernel_rfl),zaQ _ 32 (by kernel_rfl),zaQ _ 48 (by kernel_rfl),zaQ _ 64 (by kernel_rfl),zaQ _ 80 (by kernel_rfl),zaQ _ 96 (by kernel_rfl),zaQ _ 112 (by kernel_rfl),zaQ _ 128 (by kernel_rfl),zaQ _ 144 (by kernel_rfl),zaQ _ 160 (by kernel_rfl),zaQ _ 176 (by kernel_rfl),zaQ _ 192 (by kernel_rfl),zaQ _ 208 (by kernel_rfl),zaQ _ 224 (by kernel_rfl),zaQ _ 240 (by kernel_rfl),zaQ _ 256 (by kernel_rfl),trivial⟩
theorem zD1 : zvn Go.Proofs.Tryz.prog (zo8 Go.Proofs.Tryz.prog) T:=by
 refine zpo ?_ (zpo ?_ (zpo ?_ (zyZ zCf)))
 ·exact Go.Proofs.Tryz.ext_compact
 ·exact fun args σ v σ' h => zuQ (ztZ (by kernel_rfl)) Go.Proofs.Tryz.func181 (by kernel_rfl) (by kernel_rfl) args σ v σ' h
 ·exact Go.Proofs.Tryz.ext_sorted
end AC
