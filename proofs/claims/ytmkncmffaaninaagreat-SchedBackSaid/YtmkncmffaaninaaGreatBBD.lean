/- A part of the proof of SchedBack. Conditions: none. -/
import Derived.Test.YtmkncmffaaninaaGreatBBC
import Derived.Test.YtmkncmffaaninaaGreatBAV
import Derived.Test.YtmkncmffaaninaaGreatBAP
import Derived.Sort.Grow
import Derived.Lib.SlicesCompact
import Derived.Shelf.SlIterI.Sorted
import Derived.Shelf.SortM.Plain
import Derived.Shelf.SortM.SortNone
import Derived.Ground.GgzProg
import Derived.Ground.SlgmProg
import Derived.Test.YtmkncmffaaninaaGreatProg
import Derived.Shelf.SlicesG.CompactI
import Derived.RangeFuncBox
import Derived.RangeFuncLeaves
import Derived.WalkKit
import Derived.OwnWalkIn
import Derived.TacticsInMore
import Derived.LoopNIn
import Derived.LoopIn
set_option linter.unusedVariables false
set_option linter.unusedSimpArgs false
set_option linter.unusedSectionVars false
open List renaming getElem?_eq_getElem → ya,getD_eq_getElem?_getD → yb,getElem?_eq_some_iff → yc,length_cons → yf,mem_of_getElem? → yh,append_toArray → yl,getElem?_map → ym,size_toArray → yn,push_toArray → yo,cons_append → yp,length_nil → yr,nil_append → yt,replicate → yu,length_replicate → yx,getElem?_eq_none → yy,mem_iff_getElem → yA,mem_append → yB,ext_getElem? → yE,getElem_mem → yG,map_cons → yL,mem_map → yM
open Int renaming toNat_natCast → yd
open Array renaming getElem?_eq_some_iff → ye,replicate_succ → yj,replicate_zero → yk,getElem?_append_left → yq,getElem?_modify → yC
open Nat renaming zero_add → yg,reduceAdd → yv,reduceSub → yw,lt_of_lt_of_le → yD,le_refl → yH,add_zero → yK,mul_one → yN
open Option renaming map_eq_some_iff → yi,bind_eq_some_iff → yz,getD_some → yI,map_some → yJ
open Bool renaming and_eq_true → yF
namespace AC
open Go Go.A
theorem zir {o : POp} {i at' : Int} : ∀ (l : List (Int × Int)) (k j : Nat),j < l.length → ∃ s,(⟨o.args.getD (k + j) 0,s,i,at'⟩ : Use) ∈ zM o i at' k l
 | [],_,_,h => by simp at h
 | s :: l,k,j,h => by
   rw [zM]
   cases j with
   | zero => exact ⟨s,List.mem_cons_self⟩
   | succ j =>
     obtain ⟨t,ht⟩:=zir (o:=o) (i:=i) (at':=at') l (k + 1) j (by simpa using h)
     rw [show k + 1 + j = k + (j + 1) by omega] at ht
     exact ⟨t,List.mem_cons_of_mem _ ht⟩
theorem zq8 {o : POp} (h : zgE o = true) : (zbd o).length = o.args.length:=by
 have h':=h
 unfold zgE at h'
 simp only [yF,decide_eq_true_eq] at h'
 unfold zbd
 rw [if_pos h]
 exact h'.2.2.2.1
theorem zjv {l : List Use} (h : (l.map Use.v).Nodup) {x y : Use} (hx : x ∈ l) (hy : y ∈ l) (e : x.v = y.v) : x = y:=by
 have h1:=zhy h hx
 have h2:=zhy h hy
 rw [e] at h1
 rw [h1] at h2
 exact Option.some.inj h2
theorem RightP.ahead {f : PFunc} {level : Int} (h : RightP f level) {k : Nat} {b : PBlock} (hb : f.blocks[k]? = some b) {i j : Nat} {x y : POp} (hx : b.ops[i]? = some x) (hy : b.ops[j]? = some y) (hd : x.dst ≠ 0) (hm : x.dst ∈ y.args) : i < j:=by
 have hbm:=yh hb
 have mx : zgE x = true:=zfB h.typed hbm (yh hx)
 have my : zgE y = true:=zfB h.typed hbm (yh hy)
 have hg:=zlZ mx (by have:=zvd mx; omega)
 obtain ⟨a,ha,ea⟩:=yA.1 hm
 obtain ⟨s,hs⟩:=zir (o:=y) (i:=(k : Int)) (at':=(j : Int)) (zbd y) 0 a (by rw [zq8 my]; exact ha)
 rw [yg,yb,ya ha] at hs
 have hsz:=(h.size hbm).1
 have hjl:=(yc.1 hy).1
 have hu : (⟨x.dst,s,(k : Int),(j : Int)⟩ : Use) ∈ zf1 f:=by
  unfold zf1 zdd
  refine yM.2 ⟨⟨x.dst,s,(k : Int),(j : Int)⟩,(zcv _ _ _ 0).2 ⟨k,b,hb,?_⟩,?_⟩
  ·rw [yg]
   refine yB.2 (.inr (yB.2 (.inl ((zeu _ _ _ 0).2 ⟨j,y,hy,?_⟩))))
   rw [yg]
   rw [← ea]
   exact hs
  ·unfold zey
   simp only
   rw [if_neg (by omega)]
 obtain ⟨d,hd1,e1,_,hp⟩:=h.uses _ hu
 have hdx : (⟨x.dst,zY x,(k : Int),(i : Int)⟩ : Use) ∈ zO f:=by
  unfold zO
  refine yB.2 (.inr ((zb5 _ _ 0).2 ⟨k,b,hb,.inr ?_⟩))
  rw [yg]
  exact (zfH _ _ _ 0).2 ⟨i,x,hx,hg,by rw [yg]⟩
 have:=zjv h.once hd1 hdx e1
 subst this
 rcases hp with hp | ⟨_,hp⟩ | ⟨hp,_⟩
 ·have : (k : Int) < 0:=hp
  omega
 ·have : (i : Int) < (j : Int):=hp
  omega
 ·exact absurd rfl hp
def zgq (order : List Int) : List Int:=zdX 0 order (yu order.length 0)
section
variable {ops : List POp} {order : List Int} (hl : LegalP ops order)
include hl
theorem zlx : (zgq order).length = ops.length:=by unfold zgq; rw [zdZ,yx,hl.len]
theorem zwy {j : Nat} (hj : j < order.length) : (zgq order)[order[j].toNat]? = some (j : Int):=by
 have hr:=hl.range _ (yG hj)
 have:=zrZ order 0 (yu order.length 0) (fun y hy => by have:=hl.range y hy; have:=hl.len; simp only [yx]; omega) hl.nodup j order[j] (ya hj)
 rw [yg] at this
 unfold tr at this
 have hb:=zlx hl
 unfold zgq at hb ⊢
 rw [yb,ya (by omega)] at this
 rw [ya (by omega)]
 exact congrArg some this
theorem zrU {i : Nat} (hi : i < ops.length) : ∃ p,∃ (hp : p < order.length),order[p] = (i : Int) ∧ (zgq order)[i]? = some (p : Int):=by
 obtain ⟨p,hp,e⟩:=yA.1 (hl.all (x:=(i : Int)) (by omega) (by omega))
 refine ⟨p,hp,e,?_⟩
 have:=zwy hl hp
 rwa [e,yd] at this
theorem zmR {p : Nat} (hp : p < order.length) : (zcX ops order)[p]? = ops[order[p].toNat]?:=by
 have hr:=hl.range _ (yG hp)
 unfold zcX
 rw [ym,ya hp,yJ,yb,ya (show order[p].toNat < ops.length by omega)]
 rfl
theorem zuh : zcX (zcX ops order) (zgq order) = ops:=by
 have hb:=zlx hl
 refine yE fun i => ?_
 by_cases c : i < ops.length
 ·obtain ⟨p,hp,e,he⟩:=zrU hl c
  unfold zcX
  rw [ym,he,yJ,yd,yb]
  have:=zmR hl hp
  unfold zcX at this
  rw [this,e,yd,ya c]
  rfl
 ·rw [yy (by rw [zhl]; omega),yy (by omega)]
theorem zul (hu : ∀ (i j : Nat) (x y : POp),ops[i]? = some x → ops[j]? = some y → x.dst ≠ 0 → x.dst ∈ y.args → i < j) : LegalP (zcX ops order) (zgq order):=by
 have hb:=zlx hl
 have hn:=hl.len
 refine ⟨?_,fun i k hi hk hik => ?_⟩
 ·rw [zhl,hn]
  refine zgo _ _ hb fun p hp => ?_
  have:=zwy hl (j:=p) (by omega)
  exact yh this
 ·obtain ⟨p,hp,ep,hp2⟩:=zrU hl (i:=i) (by omega)
  obtain ⟨q,hq,eq,hq2⟩:=zrU hl (i:=k) (by omega)
  have e1 : (zgq order)[i] = (p : Int):=by rw [ya hi] at hp2; exact Option.some.inj hp2
  have e2 : (zgq order)[k] = (q : Int):=by rw [ya hk] at hq2; exact Option.some.inj hq2
  rw [e1,e2,yd,yd]
  cases c : onB (zcX ops order) p q with
  | false => rfl
  | true =>
    exfalso
    unfold onB at c
    have g1:=zmR hl hp
    have g2:=zmR hl hq
    rw [ep,yd] at g1
    rw [eq,yd] at g2
    have i1 : ops[i]? = some ops[i]:=ya (by omega)
    have i2 : ops[k]? = some ops[k]:=ya (by omega)
    rw [yb,yb,g1,g2,i1,i2] at c
    simp only [yI,yF,Bool.or_eq_true,decide_eq_true_eq] at c
    obtain ⟨c1,c2 | c2⟩:=c
    ·have:=hu k i _ _ i2 i1 c2.1 c2.2
     omega
    ·have:=hl.ahead q p hq hp c1
     rw [ep,eq,yd,yd] at this
     unfold onB at this
     rw [yb,yb,i1,i2] at this
     simp only [yI,Bool.and_eq_false_iff,Bool.or_eq_false_iff,decide_eq_false_iff_not] at this
     rcases this with h | ⟨_,h⟩
     ·omega
     ·rw [c2.1,c2.2] at h
      simp at h
end
theorem zxa {f : PFunc} {k : Nat} {b : PBlock} (hb : f.blocks[k]? = some b) {order : List Int} (hl : LegalP b.ops order) : zh4 (zh4 f k order) k (zgq order) = f:=by
 have hb2 : (zh4 f k order).blocks[k]? = some (zfi b order):=by rw [zeC hb,if_pos rfl]
 rw [ziN hb2]
 have e : zfi (zfi b order) (zgq order) = b:=by
  unfold zfi
  simp only
  rw [zuh hl]
 rw [e,ziN hb]
 have hk:=(yc.1 hb).1
 simp only [List.set_set]
 have : f.blocks.set k b = f.blocks:=by
  have he:=(yc.1 hb).2
  rw [← he]
  exact List.set_getElem_self hk
 rw [this]
end AC
namespace Go.A
open Go.Sort
theorem zxc {c : C} {v : Value} (h : zpI c = some (.lit v)) : c = .f (.lit v):=by
 cases c <;> simp only [zpI] at h <;> first | (injection h with h; injection h) | (injection h with h; rw [h]) | cases h
theorem zpS : ∀ {es : List (List C)} {l : List Int},(zX es).bind zdT = some l → es = l.map zi
 | [],l,h => by simp [zX,zdT] at h; subst h; rfl
 | e :: es,l,h => by
   simp only [zX] at h
   unfold zde at h
   split at h
   ·rename_i x xs h1 h2
    simp only [Option.bind_some,zdT] at h
    unfold zde at h
    split at h
    ·rename_i y ys k1 k2
     injection h with h
     subst h
     have ih:=zpS (es:=es) (l:=ys) (by rw [h2]; exact k2)
     subst ih
     have : e = zi y:=by
      unfold zr3 at k1
      split at k1
      ·rename_i z
       injection k1 with k1
       subst k1
       cases e with
       | nil => simp [zbt] at h1
       | cons c cs =>
         simp only [zbt] at h1
         unfold zde at h1
         split at h1
         ·rename_i a0 bs q1 q2
          injection h1 with h1
          injection h1 with h3 h4
          subst h3 h4
          cases cs with
          | nil => rw [zxc q1]; rfl
          | cons c2 cs =>
            simp only [zbt] at q2
            unfold zde at q2
            split at q2
            ·cases q2
            ·cases q2
         ·cases h1
      ·cases k1
     rw [this]
     rfl
    ·cases h
   ·simp at h
theorem zk1 {ver n : Nat} {o : Ob} {l : List Int} (h : zff ver n o = some l) : o = .cells ver 1 (l.map zi) ∧ l.length = n ∧ n ≤ LIM:=by
 cases o with
 | tok _ _ => simp [zff] at h
 | mp _ => simp [zff] at h
 | cells ver' sz es =>
   simp only [zff] at h
   split at h
   ·rename_i hc
    obtain ⟨rfl,rfl,h3,h4⟩:=hc
    have:=zpS h
    subst this
    exact ⟨rfl,by simpa using h3,h4⟩
   ·cases h
section
variable {g : G} {w : World} {σ : zb}
theorem zsi (R : Rel g w σ) {id ver : Nat} {l : List Int} (hid : σ[id]? = some (.cells ver 1 (l.map zi))) (hl : l ≠ []) {u : Value} (hv : zf g w σ (.one (.own id ver 0 l.length)) u) :
  ∃ c arr t,u = .slice (some ⟨g.ρ id,0,none⟩) l.length c ∧ l.length ≤ c ∧ w.heap[g.ρ id]? = some (.cells arr t (0,0)) ∧ l.length ≤ arr.size ∧ (∀ (j : Nat) x,l[j]? = some x → arr[j]? = some (.int .i64 x)) ∧ g.ow (g.ρ id) = .ob id ∧ ∀ o,¬ g.N (g.ρ id) o:=by
 obtain ⟨a,c,e1,e2,e3,e4⟩:=zdE hv hid
 have hne : l.map zi ≠ []:=by simpa using hl
 obtain ⟨k1,k2,arr,t,k3,k4,k5⟩:=R.ob id _ hid hne
 have hpos : 0 < l.length:=List.length_pos_iff.2 hl
 obtain ⟨_,f2,_⟩:=e4 (by simp; omega)
 have ha:=f2 (by omega)
 refine ⟨c,arr,t,(by rw [e1,ha]; try simp),e2,k3,by simpa using k4,fun j x hj => ?_,k1,k2⟩
 obtain ⟨_,h2⟩:=k5 j (zi x) (by simp [hj])
 obtain ⟨v,q1,q2,_⟩:=h2 0 (.f (.lit (.int .i64 x))) (by simp [zi])
 simp only [zr,rep] at q2
 rw [← q2.1]
 simpa using q1
theorem zp1 (R : Rel g w σ) {l : List Int} {b : Nat} {arr : Array Value} {t : TypeId} (h : w.heap[b]? = some (.cells arr t (0,0))) (h2 : ∀ (j : Nat) x,l[j]? = some x → arr[j]? = some (.int .i64 x)) : Holds (Value.int .i64) w b 0 l.toArray:=fun j hj => by
 have hj' : j < l.length:=by simpa using hj
 refine ⟨?_,by simp [World.frozen?,h]⟩
 rw [zeg h,yg,h2 j l[j] (by simp [hj'])]
 simp [hj']
theorem zo7 {q : Nat} {b : Nat} {d : Array Int} {os : Array Obj} {arr : Array Value} {t : TypeId} (h : w.heap[b]? = some (.cells arr t (0,0))) :
  (grow (putRow (Value.int .i64) (Sort.ahead w q) b 0 d) os).heap[b]? = some (.cells (putCells (Value.int .i64) 0 d arr) t (0,0)):=by
 have hb : b < w.heap.size:=(ye.1 h).1
 simp only [grow,putRow,mapBlock,Sort.ahead]
 rw [yq (by simpa using hb),yC,if_pos rfl,h]
 rfl
theorem zoe {q : Nat} {b j : Nat} {d : Array Int} {os : Array Obj} (hj : j < w.heap.size) (hne : j ≠ b) :
  (grow (putRow (Value.int .i64) (Sort.ahead w q) b 0 d) os).heap[j]? = w.heap[j]?:=by
 simp only [grow,putRow,mapBlock,Sort.ahead]
 rw [yq (by simpa using hj),yC,if_neg (Ne.symm hne)]
theorem zgf (d : Array Int) (arr : Array Value) : (putCells (Value.int .i64) 0 d arr).size = arr.size:=by simp [putCells]
theorem zk5 {d : Array Int} {arr : Array Value} {j : Nat} (hj : j < d.size) (hd : d.size ≤ arr.size) : (putCells (Value.int .i64) 0 d arr)[j]? = some (.int .i64 d[j]):=by
 have h1 : j < arr.size:=by omega
 have h2 : j < (putCells (Value.int .i64) 0 d arr).size:=by rw [zgf]; exact h1
 rw [Array.getElem?_eq_getElem h2]
 simp [putCells,hj]
theorem zzR (R : Rel g w σ) {id ver : Nat} {l : List Int} (hid : σ[id]? = some (.cells ver 1 (l.map zi))) {l' : List Int} (hl' : l'.length = l.length) {arr : Array Value} {t : TypeId}
  (hh : w.heap[g.ρ id]? = some (.cells arr t (0,0))) (hsz : l.length ≤ arr.size) (how : g.ow (g.ρ id) = .ob id) (hN : ∀ o,¬ g.N (g.ρ id) o) (q : Nat) (os : Array Obj) :
  Ext g w σ g (grow (putRow (Value.int .i64) (Sort.ahead w q) (g.ρ id) 0 l'.toArray) os) (σ.set id (.cells ver 1 (l'.map zi))) ∧
  Rel g (grow (putRow (Value.int .i64) (Sort.ahead w q) (g.ρ id) 0 l'.toArray) os) (σ.set id (.cells ver 1 (l'.map zi))):=by
 refine replace (g':=g) R hid (fun b => b = g.ρ id) rfl rfl rfl (by simp [grow,Sort.ahead]) (fun b hb ht => ⟨zoe hb ht,rfl,fun _ h => h⟩)
  (fun b hb => ⟨.inl (by rw [hb]; exact how),rfl,fun o h => absurd (by rw [hb] at h; exact h) (hN o)⟩) (fun _ _ _ h => h) (fun _ _ => rfl) (fun _ _ _ => rfl)
  (fun b o h => by have:=R.nb b o h; simp [grow,Sort.ahead]; omega) ?_ ?_ ?_ (fun _ _ h => by cases h) ?_
 ·intro ver' sz' len' hs
  refine .inl ⟨?_,rfl,fun _ arr0 t0 h0 => ?_⟩
  ·rw [zk hid] at hs
   injection hs with hs
   rw [zk (zt hid),← hs]
   simp [hl']
  ·rw [hh] at h0
   injection h0 with h0
   injection h0 with h0 h0t
   subst h0
   subst h0t
   exact ⟨_,zo7 hh,zgf _ _⟩
 ·intro es' h; cases h
 ·intro k n h; simp [zi7,hid,Ob.fr] at h
 ·intro H hne'
  refine ⟨how,hN,_,t,zo7 hh,by rw [zgf]; simp [hl']; omega,fun i e he => ?_⟩
  rw [ym,yi] at he
  obtain ⟨x,hx,rfl⟩:=he
  refine ⟨rfl,fun j c hc => ?_⟩
  have hi : i < l'.length:=(yc.1 hx).1
  cases j with
  | succ j => simp [zi] at hc
  | zero =>
    simp [zi] at hc
    subst hc
    refine ⟨.int .i64 x,?_,by simp [zr,rep,zuq],rfl⟩
    rw [yN,yK,zk5 (by simpa using hi) (by simp; omega)]
    have:=(yc.1 hx).2
    simp [this]
theorem zxz (R : Rel g w σ) {id ver : Nat} {l : List Int} (hid : σ[id]? = some (.cells ver 1 (l.map zi))) {d : Array Int} {arr : Array Value} {t : TypeId}
  (hh : w.heap[g.ρ id]? = some (.cells arr t (0,0))) (how : g.ow (g.ρ id) = .ob id) (hN : ∀ o,¬ g.N (g.ρ id) o) (q : Nat) (os : Array Obj) :
  Ext g w σ (g.give (g.ρ id)) (grow (putRow (Value.int .i64) (Sort.ahead w q) (g.ρ id) 0 d) os) (σ.set id (.cells (ver + 1) 1 [])) ∧
  Rel (g.give (g.ρ id)) (grow (putRow (Value.int .i64) (Sort.ahead w q) (g.ρ id) 0 d) os) (σ.set id (.cells (ver + 1) 1 [])):=by
 have hb : g.ρ id < w.heap.size:=(ye.1 hh).1
 refine replace (g':=g.give (g.ρ id)) R hid (fun b => b = g.ρ id) rfl rfl rfl (by simp [grow,Sort.ahead]) (fun b hb ht => ⟨zoe hb ht,rfl,fun o h => h.elim (fun x => x) (fun e => absurd e ht)⟩)
  (fun b hb => ⟨.inl (by rw [hb]; exact how),rfl,fun o h => absurd (by rw [hb] at h; exact h) (hN o)⟩) (fun _ _ _ h => .inl h) (fun _ _ => rfl) (fun _ _ _ => rfl)
  (fun b o h => by
   simp only [grow,Array.size_append,size_putRow,Sort.ahead]
   rcases h with h | h
   ·have:=R.nb b o h; omega
   ·omega) ?_ ?_ ?_ (fun _ _ h => by cases h) ?_
 ·intro ver' sz' len' hs
  rw [zk hid] at hs
  injection hs with hs
  injection hs with h1 h2
  injection h2 with h2 h3
  subst h1 h2
  exact .inr ⟨ver + 1,0,by rw [zk (zt hid)]; rfl,by omega⟩
 ·intro es' h; cases h
 ·intro k n h; simp [zi7,hid,Ob.fr] at h
 ·intro H hne'
  exact absurd rfl hne'
end
end Go.A
namespace Go.A
open Go.Lib
def zd4 : Option Int → List Int → List Int
 | _,[] => []
 | p,x :: r => if p = some x then zd4 p r else x :: zd4 (some x) r
theorem zkC : ∀ (r : List Int) (x : Int),x :: zd4 (some x) r = zq (x :: r)
 | [],x => rfl
 | y :: r,x => by
   simp only [zq,zd4]
   by_cases h : x = y
   ·subst h
    rw [if_pos rfl,if_pos rfl]
    exact zkC r x
   ·rw [if_neg (by simpa using h),if_neg h,zkC r y]
theorem zo0 (l : List Int) : zd4 none l = zq l:=by
 cases l with
 | nil => rfl
 | cons x r => simp [zd4,zkC]
theorem zqG (l : List Int) : ∀ (n k : Nat),k + n = l.length → (((List.range' k n).filter (keeps l.toArray)).map (l.toArray[·]!)) = zd4 (if k = 0 then none else l[k - 1]?) (l.drop k)
 | 0,k,h => by
   rw [List.drop_of_length_le (by omega)]
   simp [zd4]
 | n + 1,k,h => by
   have hk : k < l.length:=by omega
   have ih:=zqG l n (k + 1) (by omega)
   rw [List.drop_eq_getElem_cons hk]
   simp only [List.range'_succ,zd4,List.filter_cons]
   simp only [Nat.add_one_ne_zero,if_false,Nat.add_sub_cancel,ya hk] at ih
   have e : l.toArray[k]! = l[k]:=by simp [hk]
   by_cases h0 : k = 0
   ·subst h0
    have hkeep : keeps l.toArray 0 = true:=by simp [keeps]
    rw [hkeep,if_pos rfl,if_pos rfl,if_neg (by simp),yL,ih,e]
   ·have hk1 : k - 1 < l.length:=by omega
    have e1 : l.toArray[k - 1]! = l[k - 1]:=by simp [hk1]
    rw [if_neg h0,ya hk1]
    by_cases hd : l[k - 1] = l[k]
    ·have hkeep : keeps l.toArray k = false:=by
      have : ¬ l.toArray[k]! ≠ l.toArray[k - 1]!:=by rw [e,e1,hd]; simp
      simp only [keeps,h0,false_or,decide_eq_false_iff_not]
      exact this
     simp only [hkeep,Bool.false_eq_true,if_false]
     rw [if_pos (by rw [hd]),ih,hd]
    ·have hkeep : keeps l.toArray k = true:=by
      have : l.toArray[k]! ≠ l.toArray[k - 1]!:=by rw [e,e1]; exact fun h => hd h.symm
      simp only [keeps,h0,false_or,decide_eq_true_eq]
      exact this
     simp only [hkeep,if_true,yL]
     rw [if_neg (by simpa using hd),ih,e]
theorem zti (l : List Int) : Lib.compact l = zq l:=by
 have:=zqG l l.length 0 (by simp)
 simp only [if_true,List.drop_zero] at this
 rw [← zo0,← this,Lib.compact,compactUpTo,List.range_eq_range']
theorem zmJ : ∀ l : List Int,(zq l).length ≤ l.length
 | [] => by simp [zq]
 | [x] => by simp [zq]
 | x :: y :: r => by
   have:=zmJ (y :: r)
   simp only [zq]
   split
   ·simp only [yf] at this ⊢; omega
   ·simp only [yf] at this ⊢; omega
end Go.A
namespace Go.Proofs
open Go.Shelf
def Tryz.sorted_ren : Go.Shelf.Ren:=⟨fun | 6 => 145 | 8 => 176 | 9 => 117 | 11 => 226 | 13 => 168 | 12 => 167 | 23 => 222 | 24 => 223 | 14 => 213 | 15 => 214 | 16 => 215 | 17 => 216 | 18 => 217 | 19 => 218 | 20 => 219 | 21 => 220 | 22 => 221 | 25 => 241 | 26 => 242 | 27 => 243 | 28 => 244 | 29 => 245 | 30 => 246 | 31 => 256 | n => n,fun | 26 => 3 | 28 => 177 | 24 => 22 | 0 => 0 | 3 => 3 | 37 => 199 | 48 => 230 | 50 => 49 | 4 => 4 | 40 => 225 | 39 => 224 | 45 => 138 | 5 => 5 | 9 => 9 | 51 => 244 | 55 => 248 | 57 => 254 | 58 => 144 | 33 => 48 | n => n,fun | n => n⟩
theorem Tryz.sorted : Go.Proofs.SlLaysZI.n6 Tryz.prog Tryz.sorted_ren:={
 mixed:=by kernel_rfl
 f6:=⟨Tryz.f145.name,by decide,Tryz.func145.trans (congrArg some (by kernel_rfl))⟩
 f8:=⟨Tryz.f176.name,by decide,Tryz.func176.trans (congrArg some (by kernel_rfl))⟩
 f11:=⟨Tryz.f226.name,by decide,Tryz.func226.trans (congrArg some (by kernel_rfl))⟩
 t0:=Tryz.underlying0
 a0:=Tryz.isAgg0
 z0:=Tryz.sizeOf0
 v0:=Tryz.zeroValue0
 t24:=Tryz.underlying22
 a24:=Tryz.isAgg22
 z24:=Tryz.sizeOf22
 v24:=Tryz.zeroValue22
 t26:=Tryz.underlying3
 a26:=Tryz.isAgg3
 z26:=Tryz.sizeOf3
 v26:=Tryz.zeroValue3
 t28:=Tryz.underlying177
 a28:=Tryz.isAgg177
 z28:=Tryz.sizeOf177
 v28:=Tryz.zeroValue177
 i26:=by kernel_rfl }
def Tryz.sort_ren : Go.Shelf.Ren:=⟨fun | 5 => 117 | 8 => 168 | 7 => 167 | 19 => 222 | 20 => 223 | 10 => 213 | 11 => 214 | 12 => 215 | 13 => 216 | 14 => 217 | 15 => 218 | 16 => 219 | 17 => 220 | 18 => 221 | 30 => 241 | 31 => 242 | 32 => 243 | 33 => 244 | 34 => 245 | 35 => 246 | 40 => 256 | n => n,fun | 23 => 22 | 25 => 3 | 3 => 3 | 32 => 199 | 22 => 22 | 0 => 0 | 44 => 230 | 46 => 49 | 4 => 4 | 36 => 225 | 35 => 224 | 41 => 138 | 5 => 5 | 9 => 9 | 53 => 244 | 57 => 248 | 63 => 254 | 64 => 144 | n => n,fun | n => n⟩
theorem Tryz.sort : Go.Proofs.SlLaysM.n5 Tryz.prog Tryz.sort_ren:={
 mixed:=by kernel_rfl
 f5:=⟨Tryz.f117.name,by decide,Tryz.func117.trans (congrArg some (by kernel_rfl))⟩
 f7:=⟨Tryz.f167.name,by decide,Tryz.func167.trans (congrArg some (by kernel_rfl))⟩
 f8:=Tryz.func168.trans (congrArg some (by kernel_rfl))
 f10:=⟨Tryz.f213.name,by decide,Tryz.func213.trans (congrArg some (by kernel_rfl))⟩
 f11:=⟨Tryz.f214.name,by decide,Tryz.func214.trans (congrArg some (by kernel_rfl))⟩
 f12:=⟨Tryz.f215.name,by decide,Tryz.func215.trans (congrArg some (by kernel_rfl))⟩
 f13:=⟨Tryz.f216.name,by decide,Tryz.func216.trans (congrArg some (by kernel_rfl))⟩
 f14:=⟨Tryz.f217.name,by decide,Tryz.func217.trans (congrArg some (by kernel_rfl))⟩
 f15:=⟨Tryz.f218.name,by decide,Tryz.func218.trans (congrArg some (by kernel_rfl))⟩
 f16:=⟨Tryz.f219.name,by decide,Tryz.func219.trans (congrArg some (by kernel_rfl))⟩
 f17:=⟨Tryz.f220.name,by decide,Tryz.func220.trans (congrArg some (by kernel_rfl))⟩
 f18:=⟨Tryz.f221.name,by decide,Tryz.func221.trans (congrArg some (by kernel_rfl))⟩
 f19:=Tryz.func222.trans (congrArg some (by kernel_rfl))
 f20:=Tryz.func223.trans (congrArg some (by kernel_rfl))
 f30:=⟨Tryz.f241.name,by decide,Tryz.func241.trans (congrArg some (by kernel_rfl))⟩
 f31:=Tryz.func242.trans (congrArg some (by kernel_rfl))
 f32:=Tryz.func243.trans (congrArg some (by kernel_rfl))
 f33:=⟨Tryz.f244.name,by decide,Tryz.func244.trans (congrArg some (by kernel_rfl))⟩
 f34:=⟨Tryz.f245.name,by decide,Tryz.func245.trans (congrArg some (by kernel_rfl))⟩
 f35:=⟨Tryz.f246.name,by decide,Tryz.func246.trans (congrArg some (by kernel_rfl))⟩
 f40:=⟨Tryz.f256.name,by decide,Tryz.func256.trans (congrArg some (by kernel_rfl))⟩
 t0:=Tryz.underlying0
 a0:=Tryz.isAgg0
 z0:=Tryz.sizeOf0
 v0:=Tryz.zeroValue0
 t3:=Tryz.underlying3
 a3:=Tryz.isAgg3
 z3:=Tryz.sizeOf3
 v3:=Tryz.zeroValue3
 t4:=Tryz.underlying4
 a4:=Tryz.isAgg4
 z4:=Tryz.sizeOf4
 v4:=Tryz.zeroValue4
 t5:=Tryz.underlying5
 a5:=Tryz.isAgg5
 z5:=Tryz.sizeOf5
 v5:=Tryz.zeroValue5
 t9:=Tryz.underlying9
 a9:=Tryz.isAgg9
 z9:=Tryz.sizeOf9
 v9:=Tryz.zeroValue9
 t22:=Tryz.underlying22
 a22:=Tryz.isAgg22
 z22:=Tryz.sizeOf22
 v22:=Tryz.zeroValue22
 t23:=Tryz.underlying22
 a23:=Tryz.isAgg22
 z23:=Tryz.sizeOf22
 v23:=Tryz.zeroValue22
 t25:=Tryz.underlying3
 a25:=Tryz.isAgg3
 z25:=Tryz.sizeOf3
 v25:=Tryz.zeroValue3
 t32:=Tryz.underlying199
 a32:=Tryz.isAgg199
 z32:=Tryz.sizeOf199
 v32:=Tryz.zeroValue199
 t35:=Tryz.underlying224
 a35:=Tryz.isAgg224
 z35:=Tryz.sizeOf224
 v35:=Tryz.zeroValue224
 t36:=Tryz.underlying225
 a36:=Tryz.isAgg225
 z36:=Tryz.sizeOf225
 v36:=Tryz.zeroValue225
 t41:=Tryz.underlying138
 a41:=Tryz.isAgg138
 z41:=Tryz.sizeOf138
 v41:=Tryz.zeroValue138
 t44:=Tryz.underlying230
 a44:=Tryz.isAgg230
 z44:=Tryz.sizeOf230
 v44:=Tryz.zeroValue230
 t46:=Tryz.underlying49
 a46:=Tryz.isAgg49
 z46:=Tryz.sizeOf49
 v46:=Tryz.zeroValue49
 t53:=Tryz.underlying244
 a53:=Tryz.isAgg244
 z53:=Tryz.sizeOf244
 v53:=Tryz.zeroValue244
 t57:=Tryz.underlying248
 a57:=Tryz.isAgg248
 z57:=Tryz.sizeOf248
 v57:=Tryz.zeroValue248
 t63:=Tryz.underlying254
 a63:=Tryz.isAgg254
 z63:=Tryz.sizeOf254
 v63:=Tryz.zeroValue254
 t64:=Tryz.underlying144
 a64:=Tryz.isAgg144
 z64:=Tryz.sizeOf144
 v64:=Tryz.zeroValue144 }
end Go.Proofs
namespace Go.Proofs
open Go.Shelf
def Tryz.compact_ren : Go.Shelf.Ren:=⟨fun | 43 => 118 | n => n,fun | 22 => 22 | 23 => 3 | 3 => 3 | 4 => 4 | 0 => 0 | n => n,fun n => n⟩
theorem Tryz.compact : Go.Proofs.SlLaysN.n43 Tryz.prog Tryz.compact_ren:={
 mixed:=by kernel_rfl
 f43:=⟨Tryz.f118.name,by decide,Tryz.func118.trans (congrArg some (by kernel_rfl))⟩
 t0:=Tryz.underlying0
 a0:=Tryz.isAgg0
 z0:=Tryz.sizeOf0
 v0:=Tryz.zeroValue0
 t3:=Tryz.underlying3
 a3:=Tryz.isAgg3
 z3:=Tryz.sizeOf3
 v3:=Tryz.zeroValue3
 t4:=Tryz.underlying4
 a4:=Tryz.isAgg4
 z4:=Tryz.sizeOf4
 v4:=Tryz.zeroValue4
 t22:=Tryz.underlying22
 a22:=Tryz.isAgg22
 z22:=Tryz.sizeOf22
 v22:=Tryz.zeroValue22
 t23:=Tryz.underlying3
 a23:=Tryz.isAgg3
 z23:=Tryz.sizeOf3
 v23:=Tryz.zeroValue3
 i23:=by kernel_rfl }
end Go.Proofs
namespace Go.Proofs
open Go.A Go.Sort
theorem zn9 {g : G} {w : World} {σ : zb} {id ver : Nat} (hid : σ[id]? = some (.cells ver 1 [])) {u : Value} (hv : zf g w σ (.one (.own id ver 0 0)) u) : ∃ a,u = .slice a 0 0:=by
 obtain ⟨a,c,e1,e2,e3,e4⟩:=zdE hv hid
 exact ⟨a,by rw [e1,e3 rfl]⟩
theorem zyn {σ : zb} {id : Nat} {o : Ob} (h : σ[id]? = some o) : σ.set id o = σ:=by
 apply yE
 intro j
 rw [List.getElem?_set]
 by_cases e : id = j
 ·subst e
  rw [if_pos rfl,if_pos (yc.1 h).1,h]
 ·rw [if_neg e]
theorem Tryz.ext_sort (args : List V) (σ : zb) (v : V) (σ' : zb) (h : ziS args σ = some (v,σ')) :
  Go.A.Enters Tryz.prog 117 ∧ ∀ g w us,Rel g w σ → zv g w σ args us → Calls Tryz.prog 117 us.toArray w fun e w' => ∃ u g',e = .returned u ∧ zf g' w' σ' v u ∧ Rel g' w' σ' ∧ Ext g w σ g' w' σ':=by
 refine ⟨⟨Tryz.f117,_,Tryz.func117,by kernel_rfl,rfl⟩,fun g w us R0 hv => ?_⟩
 have htup : ∀ (g : G) (w : World) (σ : zb),zf g w σ (.tup []) (.tuple #[]):=fun g w σ => by simp only [zf]; exact ⟨#[],rfl,by simp only [zv]⟩
 unfold ziS at h
 split at h
 ·injection h with h
  simp only [Prod.mk.injEq] at h
  obtain ⟨rfl,rfl⟩:=h
  simp only [zv,zf,zr,rep] at hv
  obtain ⟨u,rest,rfl,⟨a,c,sz,rfl,_⟩,rfl⟩:=hv
  have hc:=AnyM.slices_Sort_int_none Tryz.sort a c w
  refine Calls.mono (f:=117) hc fun e w' he => ?_
  obtain ⟨rfl,rfl⟩:=he
  exact ⟨_,g,rfl,htup _ _ _,R0,Ext.refl _ _ _⟩
 ·rename_i id ver n
  rw [yi] at h
  obtain ⟨l,h1,h2⟩:=h
  rw [yz] at h1
  obtain ⟨o,hid,h1⟩:=h1
  obtain ⟨rfl,hn,hlim⟩:=zk1 h1
  subst hn
  simp only [zlF,Prod.mk.injEq] at h2
  obtain ⟨rfl,rfl⟩:=h2
  simp only [zv] at hv
  obtain ⟨u,rest,rfl,hv,rfl⟩:=hv
  have hperm : (zbG l).length = l.length:=List.length_mergeSort l
  by_cases hl : l = []
  ·subst hl
   obtain ⟨a,rfl⟩:=zn9 hid hv
   have hc:=AnyM.slices_Sort_int_none Tryz.sort a 0 w
   refine Calls.mono (f:=117) hc fun e w' he => ?_
   obtain ⟨rfl,rfl⟩:=he
   have hs : zbG [] = []:=by simp [zbG]
   rw [hs,zyn hid]
   exact ⟨_,g,rfl,htup _ _ _,R0,Ext.refl _ _ _⟩
  ·obtain ⟨c,arr,t,rfl,q1,q2,q3,q4,q5,q6⟩:=zsi R0 hid hl hv
   have hc:=AnyM.slices_Sort_int Tryz.sort (g.ρ id) 0 c l w (zp1 R0 q2 q4) (ye.1 q2).1 (by unfold LIM at hlim; omega)
   refine Calls.mono (f:=117) hc fun e w' he => ?_
   obtain ⟨rfl,q,os,rfl⟩:=he
   obtain ⟨H,R1⟩:=zzR R0 hid (l':=zbG l) hperm q2 q3 q5 q6 q os
   exact ⟨_,g,rfl,htup _ _ _,R1,H⟩
 ·cases h
theorem Tryz.ext_compact (args : List V) (σ : zb) (v : V) (σ' : zb) (h : zc9 args σ = some (v,σ')) :
  Go.A.Enters Tryz.prog 118 ∧ ∀ g w us,Rel g w σ → zv g w σ args us → Calls Tryz.prog 118 us.toArray w fun e w' => ∃ u g',e = .returned u ∧ zf g' w' σ' v u ∧ Rel g' w' σ' ∧ Ext g w σ g' w' σ':=by
 refine ⟨⟨Tryz.f118,_,Tryz.func118,by kernel_rfl,rfl⟩,fun g w us R0 hv => ?_⟩
 have hnil : ∀ (g : G) (w : World) (σ : zb) a c,zf g w σ (vsl []) (.slice a 0 c):=fun g w σ a c => by
  simp only [vsl,zf,zr,rep]
  exact ⟨a,c,0,rfl,by simp,by simp only [za1],by simp⟩
 unfold zc9 at h
 split at h
 ·injection h with h
  simp only [Prod.mk.injEq] at h
  obtain ⟨rfl,rfl⟩:=h
  simp only [zv,zf,zr,rep] at hv
  obtain ⟨u,rest,rfl,⟨a,c,sz,rfl,_⟩,rfl⟩:=hv
  have hc:=AnyG.slices_Compact_int_empty Tryz.compact a c w
  refine Calls.mono (f:=118) hc fun e w' he => ?_
  obtain ⟨rfl,rfl⟩:=he
  exact ⟨_,g,rfl,hnil _ _ _ _ _,R0,Ext.refl _ _ _⟩
 ·rename_i id ver n
  rw [yi] at h
  obtain ⟨l,h1,h2⟩:=h
  rw [yz] at h1
  obtain ⟨o,hid,h1⟩:=h1
  obtain ⟨rfl,hn,hlim⟩:=zk1 h1
  subst hn
  simp only [zhY,Prod.mk.injEq] at h2
  obtain ⟨rfl,rfl⟩:=h2
  simp only [zv] at hv
  obtain ⟨u,rest,rfl,hv,rfl⟩:=hv
  by_cases hl : l = []
  ·subst hl
   obtain ⟨a,rfl⟩:=zn9 hid hv
   have hc:=AnyG.slices_Compact_int_empty Tryz.compact a 0 w
   refine Calls.mono (f:=118) hc fun e w' he => ?_
   obtain ⟨rfl,rfl⟩:=he
   obtain ⟨H,R1⟩:=replace (g':=g) (w':=w') (new:=.cells (ver + 1) 1 []) R0 hid (fun _ => False) rfl rfl rfl (yH _) (fun b _ _ => ⟨rfl,rfl,fun _ h => h⟩) (fun b hb => hb.elim) (fun _ _ _ h => h) (fun _ _ => rfl) (fun _ _ _ => rfl) (fun b o h => R0.nb b o h)
    (fun ver' sz' len' hs => by
     rw [zk hid] at hs
     injection hs with hs
     injection hs with h1 h2
     injection h2 with h2 h3
     subst h1 h2
     exact .inr ⟨ver + 1,0,by rw [zk (zt hid)]; rfl,by omega⟩)
    (fun es' h => by cases h) (fun k n h => by simp [zi7,hid,Ob.fr] at h) (fun _ _ h => by cases h) (fun H hne => absurd rfl hne)
   exact ⟨_,g,rfl,hnil _ _ _ _ _,R1,H⟩
  ·obtain ⟨c,arr,t,rfl,q1,q2,q3,q4,q5,q6⟩:=zsi R0 hid hl hv
   have hc:=AnyG.slices_Compact_int Tryz.compact (g.ρ id) 0 c l w (zp1 R0 q2 q4) (by unfold LIM at hlim; omega) q1
   rw [zti] at hc
   refine Calls.mono (f:=118) hc fun e w' he => ?_
   obtain ⟨rfl,q,rfl⟩:=he
   have hle:=zmJ l
   obtain ⟨H,R1⟩:=zxz R0 hid (d:=(zq l ++ yu (l.length - (zq l).length) 0).toArray) q2 q5 q6 q #[]
   have hh:=zo7 (w:=w) (q:=q) (os:=#[]) (d:=(zq l ++ yu (l.length - (zq l).length) 0).toArray) q2
   rw [grow_empty] at H R1 hh
   refine ⟨_,g.give (g.ρ id),rfl,?_,R1,H⟩
   simp only [vsl,zf,zr,rep,List.length_map]
   refine ⟨_,c,1,rfl,by omega,zbY (fun e he => by obtain ⟨x,_,rfl⟩:=yM.1 he; rfl),.inr ⟨g.ρ id,0,rfl,zcC fun i e he => zdI fun j x hj => ?_⟩⟩
   rw [ym,yi] at he
   obtain ⟨y,hy,rfl⟩:=he
   cases j with
   | succ j => simp [ztT] at hj
   | zero =>
     simp [ztT] at hj
     subst hj
     have hi : i < (zq l).length:=(yc.1 hy).1
     refine ⟨.int .i64 y,.inr rfl,?_,by simp [rep,zuq]⟩
     rw [zeg hh,yg,yN,yK,zk5 (by simp; omega) (by simp; omega)]
     have:=(yc.1 hy).2
     simp [List.getElem_append_left hi,this]
 ·cases h
end Go.Proofs
namespace Go.Proofs
open Go.RowKit Go.Maps Go.Sort Go.Shelf
attribute [local go_sem] Oper.semAt_some
structure LiesAt (w : World) (B o : Nat) (ad : Option Addr) (c : Nat) (zs : List Int) : Prop where
 box : B < w.heap.size ∧ w.cell? ⟨B,o,none⟩ = some (.slice ad zs.length c)
 row : zs ≠ [] → ∃ blk off,ad = some ⟨blk,off,none⟩ ∧ blk < w.heap.size ∧ ∀ (j : Nat) x,zs[j]? = some x → w.cell? ⟨blk,off + j,none⟩ = some (.int .i64 x)
theorem LiesAt.later {w W : World} {B o : Nat} {ad : Option Addr} {c : Nat} {zs : List Int} (h : LiesAt w B o ad c zs) (hb : Below w.heap.size w W) : LiesAt W B o ad c zs:=by
 have hc : ∀ b i,b < w.heap.size → W.cell? ⟨b,i,none⟩ = w.cell? ⟨b,i,none⟩:=fun b i h => by unfold World.cell?; rw [hb.block b h]
 refine ⟨⟨yD h.box.1 hb.size,by rw [hc _ _ h.box.1]; exact h.box.2⟩,fun hz => ?_⟩
 obtain ⟨blk,off,h1,h2,h3⟩:=h.row hz
 exact ⟨blk,off,h1,yD h2 hb.size,fun j x hj => by rw [hc _ _ h2]; exact h3 j x hj⟩
set_option maxRecDepth 100000 in
set_option maxHeartbeats 2000000 in
theorem Tryz.values1 (F : Fence) (n : Nat) (h7 : F.fn 177) (hro : F.round = none) (hn : 1 ≤ n) (l B o : Nat) (ad : Option Addr) (c : Nat) (zs : List Int) (hzl : zs.length ≤ 4294967296) (w0 : World) (hL : LiesAt w0 B o ad c zs) (J : List Int → World → Prop) (hJb : ∀ s W',J s W' → Below w0.heap.size w0 W')
  (hY : ∀ pre x W1,J pre W1 → pre.length < zs.length → YieldAt F (n - 1) Tryz.prog l #[encZ x] W1 fun e W' => e = .returned (.bool true) ∧ J (pre ++ [x]) W' ∧ KeepsWalks W1 W')
  (W : World) (h0 : J [] W) :
  CallsIn F n Tryz.prog 177 #[.func (.yield l) #[] #[],.pointer (some ⟨B,o,none⟩)] W fun e W' => (∃ v,e = .returned v) ∧ J zs W':=by
 have hBs : W.cell? ⟨B,o,none⟩ = some (.slice ad zs.length c):=(hL.later (hJb _ _ h0)).box.2
 refine callsIn_of_wp Tryz.func177 rfl h7 ?_ hro
 simp only [Tryz.ntmps177,yn,yf,yr,yv,yw,yj,yk,yo,yl,yt,yp]
 gi_wp2
 gi_loopw [7] (fun i wr => ∃ k : Nat,k ≤ zs.length ∧ i = .int .i64 k ∧ J (zs.take k) wr) (fun i _ => match i with | .int _ k => zs.length - k.toNat | _ => 0)
 case atStart => exact ⟨0,Nat.zero_le _,rfl,h0⟩
 case round =>
  obtain ⟨k,hk,rfl,hJs⟩:=hrel
  by_cases hlt : k < zs.length
  ·obtain ⟨blk,off,rfl,hblk,hrow⟩:=(hL.later (hJb _ _ hJs)).row (fun e => by subst e; simp at hlt)
   have hcell:=hrow k zs[k] (by simp [hlt])
   obtain ⟨fn,tmps,assign,body,hy,hR⟩:=hY (zs.take k) zs[k] _ hJs (by simp; omega)
   clear hrow hL hBs
   gi_wp2
   refine hR.mono ?_
   rintro e W3 ⟨rfl,hJ3,hk3⟩
   gi_wp2
   go_roundw
   case rel => exact ⟨k + 1,by omega,by go_num,by rw [List.take_succ_eq_append_getElem hlt]; exact hJ3⟩
   case measure =>
    show zs.length - ((k : Int) + 1).toNat < zs.length - (k : Int).toNat
    omega
  ·have : k = zs.length:=by omega
   subst this
   gi_wp2
   go_end0
   exact ⟨⟨_,rfl⟩,by simpa using hJs⟩
def zyk (F : Fence) (n : Nat) (P : Program) (g : Nat) (lb : Array Value) (zs : List Int) (w : World) : Prop :=
 ∀ (l : Nat) (J : List Int → World → Prop) (W : World),(∀ s W',J s W' → Below w.heap.size w W') →
   (∀ pre x W1,J pre W1 → pre.length < zs.length → YieldAt F (n - 1) P l #[encZ x] W1 fun e W' => e = .returned (.bool true) ∧ J (pre ++ [x]) W' ∧ KeepsWalks W1 W') →
   J [] W →
   CallsIn F n P g (#[.func (.yield l) #[] #[]] ++ lb) W fun e W' => (∃ v,e = .returned v) ∧ J zs W'
theorem Tryz.values_gives (F : Fence) (n : Nat) (h7 : F.fn 177) (hro : F.round = none) (hn : 1 ≤ n) (B o : Nat) (ad : Option Addr) (c : Nat) (zs : List Int) (hzl : zs.length ≤ 4294967296) (w0 : World) (hL : LiesAt w0 B o ad c zs) :
 zyk F n Tryz.prog 177 #[.pointer (some ⟨B,o,none⟩)] zs w0:=fun l J W hJb hY h0 => Tryz.values1 F n h7 hro hn l B o ad c zs hzl w0 hL J hJb hY W h0
variable {P : Program} {ρ : Ren}
set_option maxRecDepth 100000 in
set_option maxHeartbeats 4000000 in
theorem zp7 (L : SlLaysZI.n11 P ρ) (F : Fence) (n : Nat) (h11 : F.fn (ρ.f 11)) (hro : F.round = none) (hn : 2 ≤ n) (g : Nat) (lb : Array Value) (hFg : F.fn g) (eg : ∀ args w,(callFunc g args).run P w = .ok (.enter g args) w)
  (zs : List Int) (hN : zs.length ≤ maxLen) (hNb : zs.length * 8 ≤ 140737488355328) (w : World) (hseq : zyk F (n - 1) P g lb zs w) :
  CallsIn F n P (ρ.f 11) #[.slice none 0 0,.func (.func g) #[] lb] w fun e w' => ∃ v : Value,e = .returned v ∧ w'.ownsRow w.heap.size (ρ.t 26) 1 v zs.length (zs.map encZ) ∧ (v = .slice none 0 0 ↔ zs = []) ∧ Below w.heap.size w w':=by
 have h1 : 1 ≤ n:=by omega
 have mixed:=L.mixed; have t0:=L.t0; have a0:=L.a0; have z0:=L.z0; have v0:=L.v0; have t24:=L.t24; have a24:=L.a24; have z24:=L.z24; have v24:=L.v24; have t26:=L.t26; have a26:=L.a26; have z26:=L.z26; have v26:=L.v26; have t28:=L.t28; have a28:=L.a28; have z28:=L.z28; have v28:=L.v28
 have hne : ρ.t 24 ≠ ρ.t 26:=fun e => by have h:=L.t24; rw [e,L.t26] at h; cases h
 have u0:=run_underlying L.t0; have u24:=run_underlying L.t24; have u26:=run_underlying L.t26; have u28:=run_underlying L.t28
 obtain ⟨_,_,FG⟩:=L.f11
 refine callsIn_of_wp_marks FG rfl h11 ?_ hro
 simp only [SlBodyZ.n11_ntmps ρ,yn,yf,yr,yv,yw,yj,yk,yo,yl,yt,yp]
 gi_wp2
 refine wpIn_rangeFunc ?_
 intro fn hfn
 rw [hro]
 obtain ⟨W0,hW0⟩ : ∃ W0,w.alloc (.cells #[.slice none 0 0] (ρ.t 24)) = W0:=⟨_,rfl⟩
 have hs0 : W0.heap.size = w.heap.size + 1:=by rw [← hW0]; simp
 have hv0 : W0.heap[w.heap.size]? = some (.cells #[.slice none 0 0] (ρ.t 24) (0,0)):=by rw [← hW0]; exact World.alloc_heap_new w _
 have hb0 : Below w.heap.size w W0:=by rw [← hW0]; exact (Below.refl _ w).alloc (yH _) _
 rw [hW0]
 let rec0:=AnyZI.apRec ρ fn (.func (.func g) #[] lb) w.heap.size W0.heap.size .ready none
 obtain ⟨W1,hW1⟩ : ∃ W1,(W0.alloc (.deferred (some []))).alloc (.loop rec0) = W1:=⟨_,rfl⟩
 have hold : ∀ k,k < W0.heap.size → W1.heap[k]? = W0.heap[k]?:=fun k hk => by
  rw [← hW1]; exact (Below.heap_alloc _ _ k (by simp; omega)).trans (Below.heap_alloc _ _ k hk)
 have hb1 : Below w.heap.size w W1:=by rw [← hW1]; exact (hb0.alloc hb0.size _).alloc (by have:=hb0.size; simp; omega) _
 have hs1 : W1.heap.size = W0.heap.size + 2:=by rw [← hW1]; simp
 have hM : AnyZI.ApAt ρ w fn (.func (.func g) #[] lb) w.heap.size (W0.heap.size + 1) W0.heap.size [] W1 :=
  ⟨⟨_,(hold w.heap.size (by omega)).trans hv0,⟨rfl,.inl ⟨rfl,rfl⟩⟩,by simp⟩,
   by rw [← hW1]; have:=World.alloc_heap_new (W0.alloc (.deferred (some []))) (.loop rec0); rwa [World.size_alloc] at this,
   by rw [← hW1]; exact (Below.heap_alloc _ _ _ (by simp)).trans (World.alloc_heap_new W0 _),hb1⟩
 refine ⟨W0.heap.size + 1,[{ target:=.collected W0.heap.size,args:=#[] }],W1,{ target:=.fn (.func g) lb,args:=#[.func (.yield (W0.heap.size + 1)) #[] #[]] },W1,g,
  #[.func (.yield (W0.heap.size + 1)) #[] #[]] ++ lb,W1,?_,?_,?_,?_,fun _ => h1,?_⟩
 ·rw [← hW1]; exact run_enterLoop_outer _ _ _ _ _
 ·simp [resolve,go_sem]
 ·intro f' hf'; simp [Target.leads] at hf'; subst hf'; exact hFg
 ·simp [invoke,go_sem,eg]
 ·refine (hseq (W0.heap.size + 1) (AnyZI.ApAt ρ w fn (.func (.func g) #[] lb) w.heap.size (W0.heap.size + 1) W0.heap.size) W1 (fun s W' h => h.below)
   (fun pre x W hJ hl => AnyZI.apYield { L with } F (n - 1 - 1) w fn hfn _ w.heap.size (W0.heap.size + 1) W0.heap.size (by omega) (by omega) (by omega) (yH _) (by omega) zs.length hN hNb pre x W hJ hl) hM).mono ?_
  rintro e W2 ⟨⟨v0,rfl⟩,h2⟩
  obtain ⟨v,hv,hrow,hnil⟩:=h2.box
  have hend:=run_endLoop (P:=P) h2.L (by simp [AnyZI.apRec])
  obtain ⟨W3,hW3⟩ : ∃ W3,W2.putObj (W0.heap.size + 1) (.loop { rec0 with state:=.exhausted }) = W3:=⟨_,rfl⟩
  have hend':=hend
  rw [show W2.putObj (W0.heap.size + 1) (.loop { rec0 with state:=.exhausted }) = W3 from hW3] at hend'
  have hg3 : W2.grownBy W3 (some (W0.heap.size + 1)):=by rw [← hW3]; exact grownBy_putObj_a _ _ _
  have hv3 : W3.heap[w.heap.size]? = some (.cells #[v] (ρ.t 24) (0,0)):=by rw [← hW3]; exact (World.putObj_heap_other (by omega)).trans hv
  have hK3 : W3.heap[W0.heap.size]? = some (.deferred (some [])):=by rw [← hW3]; exact (World.putObj_heap_other (by omega)).trans h2.K
  have hrow3:=hrow.kept hg3 (ownsRow_ne_a hrow h2.L (fun cur e => by first | cases e | exact hne (Obj.cells.inj e).2.1))
  have hb3 : Below w.heap.size w W3:=h2.below.grown hg3 h2.below.size (fun k e => by cases e; omega)
  obtain ⟨hc3,hf3⟩:=cell_of_box_a hv3
  clear hW3
  refine ⟨none,W3,hend',?_⟩
  gi_wp2
  rw [← hs0]
  refine ⟨by simp,.inl ⟨_,_,rfl,run_takeDeferred hK3,?_⟩⟩
  exact ⟨_,results_tmp rfl _ _ _,v,rfl,hrow3.kept (grownBy_putObj_a _ _ _) (ownsRow_ne_a hrow3 hK3 (fun cur e => by first | cases e | exact hne (Obj.cells.inj e).2.1)),hnil,hb3.grown (grownBy_putObj_a _ _ _) hb3.size (fun k e => by cases e; omega)⟩
set_option maxHeartbeats 1000000 in
theorem zpv (L : SlLaysZI.n8 P ρ) (F : Fence) (n : Nat) (h8 : F.fn (ρ.f 8)) (h11 : F.fn (ρ.f 11)) (hro : F.round = none) (hn : 3 ≤ n) (g : Nat) (lb : Array Value) (hFg : F.fn g) (eg : ∀ args w,(callFunc g args).run P w = .ok (.enter g args) w)
  (zs : List Int) (hN : zs.length ≤ maxLen) (hNb : zs.length * 8 ≤ 140737488355328) (w : World) (hseq : zyk F (n - 1 - 1) P g lb zs w) :
  CallsIn F n P (ρ.f 8) #[.func (.func g) #[] lb] w fun e w' => ∃ v : Value,e = .returned v ∧ w'.ownsRow w.heap.size (ρ.t 26) 1 v zs.length (zs.map encZ) ∧ (v = .slice none 0 0 ↔ zs = []) ∧ Below w.heap.size w w':=by
 have h1 : 1 ≤ n:=by omega
 have e11 : ∀ args w,(callFunc (ρ.f 11) args).run P w = .ok (.enter (ρ.f 11) args) w:=L.f11.enters rfl
 have mixed:=L.mixed; have t0:=L.t0; have a0:=L.a0; have z0:=L.z0; have v0:=L.v0; have t24:=L.t24; have a24:=L.a24; have z24:=L.z24; have v24:=L.v24; have t26:=L.t26; have a26:=L.a26; have z26:=L.z26; have v26:=L.v26; have t28:=L.t28; have a28:=L.a28; have z28:=L.z28; have v28:=L.v28
 have u0:=run_underlying L.t0; have u24:=run_underlying L.t24; have u26:=run_underlying L.t26; have u28:=run_underlying L.t28
 obtain ⟨_,_,FG⟩:=L.f8
 refine callsIn_of_wp FG rfl h8 ?_ hro
 simp only [SlBodyZ.n8_ntmps ρ,yn,yf,yr,yv,yw,yj,yk,yo,yl,yt,yp]
 gi_wp2_with (gi_at_fn (ρ.f 11); refine (zp7 { L with } F (n - 1) h11 hro (by omega) g lb hFg eg zs hN hNb _ hseq).mono ?_; rintro e w' ⟨v,rfl,hrow,hnil,hb⟩)
 go_ret
 exact ⟨v,rfl,hrow,hnil,hb⟩
set_option maxRecDepth 100000 in
set_option maxHeartbeats 2000000 in
theorem zpD (L : SlLaysZI.n6 P ρ) (F : Fence) (n : Nat) (h6 : F.fn (ρ.f 6)) (h8 : F.fn (ρ.f 8)) (h9 : F.fn (ρ.f 9)) (h11 : F.fn (ρ.f 11)) (hro : F.round = none) (hn : 4 ≤ n) (hsort : AnyZI.SortsIn P ρ F (n - 1)) (e9 : ∀ args w,(callFunc (ρ.f 9) args).run P w = .ok (.enter (ρ.f 9) args) w) (g : Nat) (lb : Array Value) (hFg : F.fn g) (eg : ∀ args w,(callFunc g args).run P w = .ok (.enter g args) w)
  (zs : List Int) (hN : zs.length ≤ maxLen) (hNb : zs.length * 8 ≤ 140737488355328) (w : World) (hseq : zyk F (n - 1 - 1 - 1) P g lb zs w) :
  CallsIn F n P (ρ.f 6) #[.func (.func g) #[] lb] w fun e w' => ∃ v : Value,e = .returned v ∧ w'.ownsRow w.heap.size (ρ.t 26) 1 v zs.length ((zs.mergeSort (fun x y => decide (x ≤ y))).map encZ) ∧ (v = .slice none 0 0 ↔ zs = []) ∧ Below w.heap.size w w':=by
 have h1 : 1 ≤ n:=by omega
 have e8 : ∀ args w,(callFunc (ρ.f 8) args).run P w = .ok (.enter (ρ.f 8) args) w:=L.f8.enters rfl
 have mixed:=L.mixed; have t0:=L.t0; have a0:=L.a0; have z0:=L.z0; have v0:=L.v0; have t24:=L.t24; have a24:=L.a24; have z24:=L.z24; have v24:=L.v24; have t26:=L.t26; have a26:=L.a26; have z26:=L.z26; have v26:=L.v26; have t28:=L.t28; have a28:=L.a28; have z28:=L.z28; have v28:=L.v28
 have u0:=run_underlying L.t0; have u24:=run_underlying L.t24; have u26:=run_underlying L.t26; have u28:=run_underlying L.t28
 obtain ⟨_,_,FG⟩:=L.f6
 refine callsIn_of_wp FG rfl h6 ?_ hro
 simp only [SlBodyZ.n6_ntmps ρ,yn,yf,yr,yv,yw,yj,yk,yo,yl,yt,yp]
 gi_wp2_with (gi_at_fn (ρ.f 8); refine (zpv { L with } F (n - 1) h8 h11 hro (by omega) g lb hFg eg zs hN hNb _ hseq).mono ?_; rintro e W ⟨v,rfl,hrow,hnil,hb⟩)
 rcases hrow.2 with ⟨rfl,hz⟩ | ⟨gb,cap,cur,rfl,hbase,hgb,r1,r2,r3,r4⟩
 ·have hss : zs = []:=List.eq_nil_of_length_eq_zero hz
  subst hss
  gi_wp2_with (gi_at_fn (ρ.f 9); refine (hsort.2 none 0 W).mono ?_; rintro e w' ⟨rfl,rfl⟩)
  go_ret
  exact ⟨.slice none 0 0,rfl,by simpa using hrow,by simp,hb⟩
 ·have hH : Holds encZ W gb 0 zs.toArray:=holds_of_block_i hgb (by simpa using r4)
  have hgl : gb < W.heap.size:=(ye.1 hgb).1
  have hsz : zs.length < 4611686018427387904:=by omega
  have cS:=hsort.1 gb 0 cap zs W hH hgl hsz
  gi_wp2_with (gi_at_fn (ρ.f 9); refine cS.mono ?_; rintro e w' ⟨rfl,nn,os,rfl⟩)
  go_ret
  exact ⟨_,rfl,ownsRow_sorted_i (by simp) hbase hgb r1 r2 r3,hnil,hb.grown (grownBy_sorted_i _) hb.size (fun j hj => by cases hj; exact hbase)⟩
theorem Tryz.sorts (m : Nat) : AnyZI.SortsIn Tryz.prog Tryz.sorted_ren Fence.wide m :=
 ⟨fun blk off cap ss W hH hblk hsz => callsIn_wide.2 (AnyM.slices_Sort_int Tryz.sort blk off cap ss W hH hblk hsz),
  fun p cap W => callsIn_wide.2 (AnyM.slices_Sort_int_none Tryz.sort p cap W)⟩
end Go.Proofs
