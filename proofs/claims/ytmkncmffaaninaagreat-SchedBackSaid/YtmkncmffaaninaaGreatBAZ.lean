/- A part of the proof of SchedBack. Conditions: none. -/
import Derived.Test.YtmkncmffaaninaaGreatBAY
import Derived.Test.YtmkncmffaaninaaGreatBAX
set_option linter.unusedVariables false
set_option linter.unusedSimpArgs false
set_option linter.unusedSectionVars false
open List renaming length_cons → ya,append_assoc → yb,mem_append → yc,replicate → ye,mem_cons_self → yf,singleton_append → yg,getD_eq_getElem?_getD → yh,mem_cons_of_mem → yi,getElem?_eq_getElem → yj,mem_cons → yl,take_of_length_le → yn,getElem_mem → yo,nil_append → yp,find?_cons → yq,mem_singleton → ys,all_cons → yv,cons_append → yx,all_eq_true → yy,map_set → yz,all_map → yA,map → yD
open Bool renaming and_eq_true → yd,eq_iff_iff → yB,true_and → yC
open Int renaming toNat_natCast → yk,natCast_nonneg → yr,natCast_zero → yt,reduceToNat → yw
open Option renaming bind_some → ym
open Nat renaming zero_add → yu
namespace AC
open Go Go.A Go.A.Lex
def zjp : Go.A.Code:=zQ.p2.p2.p2.p2.p2.p2.p2
theorem zux : ziA = .seq .skip zjp:=rfl
section
variable (succ pred : List (List Int)) (hpl : pred.length = succ.length) (hps : ∀ l ∈ pred,l.length ≤ 4294967296) (n : Nat) (hn : n = succ.length) (hn64 : n ≤ 64) (root : Nat) (hroot : root < n) (tail : List Int) (htl : tail.length ≤ 4294967295)
include hpl hps hn hn64
theorem zyW (order : List Int) (hol : order.length ≤ 4294967296) (ho : ∀ x ∈ order,0 ≤ x ∧ x < (n : Int)) (t : List Int) : ∀ (d k : Nat) (at' : List Int) (a0 a3 a5 a8 a9 a10 a11 a12 a13 a17 a18 a19 a20 a21 a22 a23 a24 a25 a26 a27 a28 : V),at'.length = n → order.length - k = d → k ≤ order.length →
  exec T zfS ⟨[a0,vI root,.one (.ptr 0 0 0 0),a3,vIs order,a5,.one (.own 1 0 0 n),.one (.own 2 0 0 n),a8,a9,a10,a11,a12,a13,vIs order,vI order.length,vI k,a17,a18,a19,a20,a21,a22,a23,a24,a25,a26,a27,a28],stT succ pred t at',0,0⟩ =
   some (.exit 0,⟨[vU,vI root,.one (.ptr 0 0 0 0),vU,vIs order,vU,.one (.own 1 0 0 n),.one (.own 2 0 0 n),vU,vU,vU,vU,vU,vU,vU,vU,vU,vU,vU,vU,vU,vU,vU,vU,vU,vU,vU,vU,vU],stT succ pred t (zdX k (order.drop k) at'),0,0⟩):=by
 intro d
 induction d with
 | zero =>
   intro k at' a0 a3 a5 a8 a9 a10 a11 a12 a13 a17 a18 a19 a20 a21 a22 a23 a24 a25 a26 a27 a28 ha h1 h2
   have hk : k = order.length:=by omega
   subst hk
   rw [xl zfS rfl,ziz]
   simp -implicitDefEqProofs only [go_sem,stT,obG,Int.lt_irrefl,List.drop_length,zdX]
 | succ d ih =>
   intro k at' a0 a3 a5 a8 a9 a10 a11 a12 a13 a17 a18 a19 a20 a21 a22 a23 a24 a25 a26 a27 a28 ha h1 h2
   have hk : k < order.length:=by omega
   have hd : order.drop k = order[k] :: order.drop (k + 1):=List.drop_eq_getElem_cons hk
   obtain ⟨p1,p2⟩:=ho _ (yo hk)
   have hc:=zrB (t:=at') (a:=order[k]) (by omega) (by omega)
   have hset : (at'.map zi).set order[k].toNat [C.f (.lit (.int .i64 (k : Int)))] = (at'.set order[k].toNat (k : Int)).map zi:=by rw [yz]; rfl
   have:=ih (k + 1) (at'.set order[k].toNat (k : Int)) vU vU vU vU vU vU vU vU vU vU vU vU vU vU vU vU vU vU vU vU vU (by simpa using ha) (by omega) (by omega)
   rw [xl zfS rfl,ziz,hd,zdX]
   simp -implicitDefEqProofs only [go_sem,stT,obG] at this
   simp -implicitDefEqProofs only [go_sem,stT,obG,ilt hk,zH hk,ri,p1,p2,hc,hset,zd hk hol,this]
include hroot htl
theorem znW (K : Nat) (at' : List Int) (hat : at'.length = n) (t : List Int) (ht : t.length = n) (o0 : Int) (res : Option (Int × Int)) (h : zoJ pred t at' K tail = some res)
  (a0 a3 a5 a8 a9 a10 a11 a12 a13 a14 a15 a16 a17 a18 a19 a20 a21 a22 a23 a24 a25 a26 a27 a28 : V) :
  exec T zjp ⟨[a0,vI root,.one (.ptr 0 0 0 0),a3,vIs (o0 :: tail),a5,.one (.own 1 0 0 n),.one (.own 2 0 0 n),a8,a9,a10,a11,a12,a13,a14,a15,a16,a17,a18,a19,a20,a21,a22,a23,a24,a25,a26,a27,a28],stT succ pred t at',0,0⟩ =
   some (match res with
    | none => (.ret,⟨[vU,vU,vU,.one (.own 1 0 0 n),vU,vU,vU,vU,vU,vU,vU,vU,vU,vU,vU,vU,vU,vU,vU,vU,vU,vU,vU,vU,vU,vU,vU,vU,vU],stT succ pred (t.set root (-1)) at',0,0⟩)
    | some (x,b) => (.goto 0,⟨[vU,vI root,.one (.ptr 0 0 0 0),vU,vIs (o0 :: tail),vU,.one (.own 1 0 0 n),.one (.own 2 0 0 n),vU,vU,vU,vU,vU,vU,vU,vU,vU,vU,vU,vU,vU,vU,vU,vU,vU,vU,vU,vU,vU],stT succ pred (t.set x.toNat b) at',0,0⟩)):=by
 have h3:=fun a0 a3 a5 a8 a9 a10 a11 a12 a13 a14 a15 a16 a17 a21 a22 a23 a24 a25 a26 a27 a28 => zzi succ pred hpl hps n hn hn64 root (o0 :: tail) tail at' hat (by omega) K t ht tail.length 0 res a0 a3 a5 a8 a9 a10 a11 a12 a13 a14 a15 a16 a17 a21 a22 a23 a24 a25 a26 a27 a28 (by omega) (by omega) h
 simp only [yt] at h3
 have hri : (ri o0).length = 1:=rfl
 have e1 : (ri o0 :: tail.map ri).take (tail.length + 1) = ri o0 :: tail.map ri:=yn (by simp)
 have e2 : (1 ≤ tail.length + 1) = True:=by simp
 have hrt : ((root : Int) < (n : Int)) = True:=by simp; omega
 have hset : (t.map zi).set root [C.f (.lit (.int .i64 (-1)))] = (t.set root (-1)).map zi:=by rw [yz]; rfl
 have hc:=zrB (t:=t) (a:=(root : Int)) (by omega) (by omega)
 rw [yk] at hc
 cases res with
 | none =>
   simp -implicitDefEqProofs only [go_sem,stT,obG] at h3
   simp -implicitDefEqProofs only [go_sem,stT,obG,zjp,zQ,Code.p2,yw,hri,zru,e1,e2,h3,hrt,yr,yk,hc,hset]
 | some xb =>
   obtain ⟨x,b⟩:=xb
   simp -implicitDefEqProofs only [go_sem,stT,obG] at h3
   simp -implicitDefEqProofs only [go_sem,stT,obG,zjp,zQ,Code.p2,yw,hri,zru,e1,e2,h3]
theorem zxp (K : Nat) (at' : List Int) (hat : at'.length = n) (o0 : Int) : ∀ (r : Nat) (t t' : List Int) (a0 a3 a5 a8 a9 a10 a11 a12 a13 a14 a15 a16 a17 a18 a19 a20 a21 a22 a23 a24 a25 a26 a27 a28 : V),t.length = n → zeJ pred at' K tail r t = some t' →
  exec T (.sc zQ ziA) ⟨[a0,vI root,.one (.ptr 0 0 0 0),a3,vIs (o0 :: tail),a5,.one (.own 1 0 0 n),.one (.own 2 0 0 n),a8,a9,a10,a11,a12,a13,a14,a15,a16,a17,a18,a19,a20,a21,a22,a23,a24,a25,a26,a27,a28],stT succ pred t at',0,0⟩ =
   some (.ret,⟨[vU,vU,vU,.one (.own 1 0 0 n),vU,vU,vU,vU,vU,vU,vU,vU,vU,vU,vU,vU,vU,vU,vU,vU,vU,vU,vU,vU,vU,vU,vU,vU,vU],stT succ pred (t'.set root (-1)) at',0,0⟩):=by
 intro r
 induction r with
 | zero => intro t t' _ _ _ _ _ _ _ _ _ _ _ _ _ _ _ _ _ _ _ _ _ _ _ _ _ h; simp [zeJ] at h
 | succ r ih =>
   intro t t' a0 a3 a5 a8 a9 a10 a11 a12 a13 a14 a15 a16 a17 a18 a19 a20 a21 a22 a23 a24 a25 a26 a27 a28 ht h
   rw [zeJ] at h
   rw [zeM,zux,zdY,zek]
   simp only [ym,zpy]
   split at h
   ·cases h
   ·rename_i hp
    injection h with h
    subst h
    rw [znW succ pred hpl hps n hn hn64 root hroot tail htl K at' hat t ht o0 none hp]
    simp only [ym,scK]
   ·rename_i x b hp
    rw [znW succ pred hpl hps n hn hn64 root hroot tail htl K at' hat t ht o0 (some (x,b)) hp]
    simp only [ym,scK,znn]
    exact ih _ _ _ _ _ _ _ _ _ _ _ _ _ _ _ _ _ _ _ _ _ _ _ _ _ _ (by simpa using ht) h
end
def zAm : Go.A.Code:=zQ.p1
def zA9 : Go.A.Code:=zQ.p2.p1
def zAH : Go.A.Code:=zQ.p2.p2.p1
def zAE : Go.A.Code:=zQ.p2.p2.p2.p1
def zAM : Go.A.Code:=zQ.p2.p2.p2.p2.p1
def zAK : Go.A.Code:=zQ.p2.p2.p2.p2.p2.p1
theorem zBT : zQ = .seq zAm (.seq zA9 (.seq zAH (.seq zAE (.seq zAM (.seq zAK (.seq (.label 0) zjp)))))):=rfl
theorem zvS (succ pred : List (List Int)) (hs : zkN succ) (hm : zwU succ pred = true) (root : Nat) (hr : root < succ.length) (k : Nat) (hk : k ≤ 4294967295) (o : List Int) (ho : dfs succ k (zpz root) = some o)
  (o0 : Int) (tail : List Int) (hrev : o.reverse = o0 :: tail) (hor : ∀ x ∈ o,0 ≤ x ∧ x < (succ.length : Int)) (hol : o.length ≤ 4294967295) (K r : Nat) (t : List Int) (ht : zeJ pred (at0 succ.length o.reverse) K tail r (zh5 succ.length root) = some t) :
  call T 195 [.agg [.f (.sl (succ.map rl)),.f (.sl (pred.map rl))],vI root] [] = some (vIs (t.set root (-1)),[]):=by
 rw [ze (fn:=zkh) rfl]
 have hmk : zdb succ = true ∧ zam succ = pred:=by simpa [zwU] using hm
 obtain ⟨q1,q2,q3⟩:=ze3 hmk.1
 have hpl : pred.length = succ.length:=by rw [← hmk.2,zgl]
 have hps : ∀ l ∈ pred,l.length ≤ 4294967296:=by rw [← hmk.2]; exact zlS succ hs (zhK hmk.1)
 have hO:=zum succ pred hs hm root hr k hk o ho
 have hR:=zrh succ.length q1 q2
 have htl : tail.length ≤ 4294967295:=by
  have : o.reverse.length = tail.length + 1:=by rw [hrev]; rfl
  rw [List.length_reverse] at this
  omega
 have hf:=fun a0 a3 a5 a8 a9 a10 a11 a12 a13 a17 a18 a19 a20 a21 a22 a23 a24 a25 a26 a27 a28 => zyW succ pred hpl hps succ.length rfl q2 root (o0 :: tail) (by simp only [ya]; omega) (fun x hx => hor x (List.mem_reverse.1 (by rw [hrev]; exact hx))) (ye succ.length (-2)) (o0 :: tail).length 0 (ye succ.length 0) a0 a3 a5 a8 a9 a10 a11 a12 a13 a17 a18 a19 a20 a21 a22 a23 a24 a25 a26 a27 a28 (by simp) rfl (Nat.zero_le _)
 simp only [List.drop_zero,yt] at hf
 rw [hrev] at hO ht
 have hrt : ((root : Int) < (succ.length : Int)) = True:=by simp; omega
 have hset : ((ye succ.length (-2 : Int)).map zi).set root [C.f (.lit (.int .i64 (root : Int)))] = (zh5 succ.length root).map zi:=by rw [zh5,yz]; rfl
 have hcell : ((ye succ.length (-2 : Int)).map zi)[root]? = some [.f (.lit (.int .i64 (-2)))]:=by simp [hr,zi]
 have hat : (at0 succ.length (o0 :: tail)).length = succ.length:=by rw [at0,zdZ]; simp
 have hlim : (succ.length : Int) ≤ (LIM : Int):=by unfold LIM; omega
 have hz : ye succ.length [C.f (.lit (.int .i64 0))] = (ye succ.length (0 : Int)).map zi:=by rw [List.map_replicate]; rfl
 have hnz : ¬ ((tail.length + 1 : Nat) : Int) = 0:=by omega
 have e1 : exec T (.scope zQ) ⟨[.agg [.f (.sl (succ.map rl)),.f (.sl (pred.map rl))],vI root,.one (.ptr 0 0 0 0),vL [],vU,vU,vU,vU,vU,vU,vU,vU,vU,vU,vU,vU,vU,vU,vU,vU,vU,vU,vU,vU,vU,vU,vU,vU,vU],[obG succ pred],0,0⟩ = some (.ret,⟨[vU,vU,vU,.one (.own 1 0 0 succ.length),vU,vU,vU,vU,vU,vU,vU,vU,vU,vU,vU,vU,vU,vU,vU,vU,vU,vU,vU,vU,vU,vU,vU,vU,vU],stT succ pred (t.set root (-1)) (at0 succ.length (o0 :: tail)),0,0⟩):=by
  have h:=fun a0 a3 a5 a8 a9 a10 a11 a12 a13 a14 a15 a16 a17 a18 a19 a20 a21 a22 a23 a24 a25 a26 a27 a28 => zxp succ pred hpl hps succ.length rfl q2 root hr tail htl K (at0 succ.length (o0 :: tail)) hat o0 r (zh5 succ.length root) t a0 a3 a5 a8 a9 a10 a11 a12 a13 a14 a15 a16 a17 a18 a19 a20 a21 a22 a23 a24 a25 a26 a27 a28 (by simp [zh5]) ht
  rw [← h vU vU vU vU vU vU vU vU vU vU vU vU vU vU vU vU vU vU vU vU vU vU vU vU]
  rw [zj1,zeM,zeM]
  congr 1
  rw [zux,zdY,zek]
  simp only [ym,zpy]
  rw [zBT]
  have hdt : zAE = .regd [] [⟨.loc,.bsl .fz 1 [[.f (.lit (.int .i64 0))]] [(0,.c (vI (-2)))],none⟩,⟨.loc,.mv (.s 5),none⟩,⟨.loc,.call .ck (.c (.one (.fn 230 [] []))) [.l 1,.l 0],none⟩,⟨.loc,.mv (.s 5),none⟩,⟨.loc,.mks [.f (.lit (.int .i64 0))] none (.l 0),none⟩,⟨.slot 6,.mv (.l 2),none⟩,⟨.slot 7,.mv (.l 1),none⟩]:=rfl
  have hlr : (yD zi (ye succ.length (-2 : Int))).map (C.shifts 1) = yD zi (ye succ.length (-2 : Int)):=by
   rw [List.map_map]
   rfl
  simp -implicitDefEqProofs only [go_sem,obG,stT] at hO hR hf
  simp -implicitDefEqProofs only [go_sem,obG,stT,zAm,zA9,zAH,hdt,zAM,zAK,zQ,Code.p1,Code.p2,hO,hR,hnz,hlim,yr,yk,hz,hlr,hf,hrt,hcell,hset]
  rfl
 have htk : ((t.set root (-1)).map zi).take succ.length = (t.set root (-1)).map zi:=yn (by have:=zic ht; simp [zh5] at this; simp; omega)
 simp -implicitDefEqProofs only [go_sem,obG,stT] at e1
 simp -implicitDefEqProofs only [go_sem,zkh,e1,htk,zbP]
end AC
namespace AC
open Go Go.A Go.A.Lex
open Dm
theorem zqy {α : Type} (k k' : Int) (v : α) : ∀ D : List (Int × α),getM k (zh7 k' v D) = if k' = k then some v else getM k D
 | [] => by by_cases c : k' = k <;> simp [zh7,getM,c]
 | e :: D => by
   rw [zh7]
   by_cases c : e.1 = k'
   ·rw [if_pos c,getM,getM]
    by_cases d : k' = k
    ·rw [if_pos d,if_pos d]
    ·rw [if_neg d,if_neg d,if_neg (fun h => d (c.symm.trans h))]
   ·rw [if_neg c,getM,getM,zqy k k' v D]
    by_cases d : e.1 = k
    ·rw [if_pos d,if_pos d,if_neg (fun h => c (d.trans h.symm))]
    ·rw [if_neg d,if_neg d]
def toP (u : Use) : PDef:=⟨u.block,u.at',u.shape⟩
def lk (ds : List Use) (v : Int) : Option PDef:=(ds.find? fun u => decide (u.v = v)).map toP
def Rep (D : zhW) (ds : List Use) : Prop:=∀ v,getM v D = lk ds v
theorem zAs (ds : List Use) (u : Use) (v : Int) : lk (ds ++ [u]) v = if (lk ds v).isSome = true then lk ds v else if u.v = v then some (toP u) else none:=by
 unfold lk
 rw [List.find?_append]
 cases h : ds.find? (fun u => decide (u.v = v)) with
 | some x => simp
 | none =>
   by_cases c : u.v = v
   ·simp [c]
   ·simp [c]
theorem zra {D : zhW} {ds : List Use} (R : Rep D ds) (u : Use) (h : (lk ds u.v).isNone = true) : Rep (zh7 u.v (toP u) D) (ds ++ [u]):=by
 intro v
 rw [zqy,zAs,R v]
 by_cases c : u.v = v
 ·subst c
  have : (lk ds u.v).isSome = false:=by
   cases e : lk ds u.v
   ·rfl
   ·rw [e] at h; cases h
  rw [if_pos rfl,this,if_neg (by simp),if_pos rfl]
 ·rw [if_neg c,if_neg c]
  cases e : lk ds v <;> simp
def zdO : List Use → List Use → Bool
 | _,[] => true
 | pre,u :: r => (value u.v && (lk pre u.v).isNone) && zdO (pre ++ [u]) r
theorem zjz : ∀ (a b pre : List Use),zdO pre (a ++ b) = (zdO pre a && zdO (pre ++ a) b)
 | [],b,pre => by rw [yp,List.append_nil,zdO,yC]
 | u :: a,b,pre => by
   rw [yx,zdO,zdO,zjz a b]
   simp only [Bool.and_assoc,yb,yg]
theorem zj5 {ds : List Use} {v : Int} : (lk ds v).isNone = true ↔ ∀ u ∈ ds,u.v ≠ v:=by
 unfold lk
 rw [Option.isNone_map,Option.isNone_iff_eq_none,List.find?_eq_none]
 simp
theorem zr2 (v : Int) : ∀ (pre : List Use) (u : Use) (r : List Use) (k : Nat),u.v = v → (zB v k (pre ++ u :: r) = ((k + pre.length : Nat) : Int) ↔ ∀ x ∈ pre,x.v ≠ v)
 | [],u,r,k,h => by simp [zB,h]
 | x :: pre,u,r,k,h => by
   rw [yx,zB]
   by_cases c : x.v = v
   ·rw [if_pos c]
    constructor
    ·intro e
     simp only [ya] at e
     omega
    ·intro e
     exact absurd c (e x yf)
   ·rw [if_neg c]
    have ih:=zr2 v pre u r (k + 1) h
    rw [show k + 1 + pre.length = k + (x :: pre).length by simp only [ya]; omega] at ih
    rw [ih]
    constructor
    ·intro e y hy
     rcases yl.1 hy with rfl | hy
     ·exact c
     ·exact e y hy
    ·exact fun e y hy => e y (yi _ hy)
theorem zoX (defs : List Use) : ∀ (r pre : List Use),defs = pre ++ r → zfK defs pre.length r = zdO pre r
 | [],_,_ => rfl
 | u :: r,pre,h => by
   have ih:=zoX defs r (pre ++ [u]) (by rw [h]; simp)
   rw [List.length_append,List.length_singleton] at ih
   rw [zfK,zdO,ih]
   congr 2
   have h1:=zr2 u.v pre u r 0 rfl
   rw [← h,yu] at h1
   rw [yB,decide_eq_true_eq,h1,zj5]
theorem zg2 {v : Int} : value v = true ↔ ¬ (v < 1 ∨ 1023 < v):=by
 unfold value
 rw [yd,decide_eq_true_eq,decide_eq_true_eq]
 omega
theorem znr : ∀ (l : List Int) (k : Nat) (D : zhW) (pre : List Use),Rep D pre → (∀ u ∈ pre,u.v ≤ (k : Int)) → k + l.length ≤ 16 → Rep (zcy k D l) (pre ++ zcQ k l) ∧ zdO pre (zcQ k l) = true
 | [],k,D,pre,R,_,_ => by simpa [zcy,zcQ,zdO] using R
 | b :: l,k,D,pre,R,hp,hl => by
   have hn : (lk pre ((k : Int) + 1)).isNone = true:=zj5.2 fun u hu => by have:=hp u hu; omega
   simp only [ya] at hl
   obtain ⟨h1,h2⟩:=znr l (k + 1) (zh7 ((k : Int) + 1) ⟨-1,0,(b,1)⟩ D) (pre ++ [(⟨(k : Int) + 1,(b,1),-1,0⟩ : Use)]) (zra R (⟨(k : Int) + 1,(b,1),-1,0⟩ : Use) hn) (fun u hu => by
    rcases yc.1 hu with hu | hu
    ·have:=hp u hu; omega
    ·rw [ys.1 hu]; show (k : Int) + 1 ≤ _; omega) (by omega)
   rw [zcy,zcQ,zdO,h2]
   rw [yb,yg] at h1
   refine ⟨h1,?_⟩
   have hv : value ((k : Int) + 1) = true:=zg2.2 (by omega)
   simp only [hv,hn,Bool.and_true]
theorem zsR (i : Int) : ∀ (l : List PPhi) (D : zhW) (pre : List Use),Rep D pre → ((zee i D l).2.isNone = zdO pre (zeA i l)) ∧ (zdO pre (zeA i l) = true → Rep (zee i D l).1 (pre ++ zeA i l))
 | [],D,pre,R => ⟨rfl,fun _ => by simpa [zee,zeA] using R⟩
 | p :: l,D,pre,R => by
   have e : zeA i (p :: l) = ⟨p.dst,(p.bits,1),i,-1⟩ :: zeA i l:=rfl
   rw [zee,e,zdO]
   by_cases c : p.dst < 1 ∨ 1023 < p.dst
   ·have hv : value p.dst = false:=by
     cases h : value p.dst
     ·rfl
     ·exact absurd c (zg2.1 h)
    rw [if_pos c,hv]
    exact ⟨rfl,fun h => by simp at h⟩
   ·have hv : value p.dst = true:=zg2.2 c
    rw [if_neg c,hv,R p.dst]
    cases hn : (lk pre p.dst).isNone
    ·rw [if_neg (by simp)]
     exact ⟨rfl,fun h => by simp at h⟩
    ·rw [if_pos rfl]
     have R' : Rep (zh7 p.dst ⟨i,-1,(p.bits,1)⟩ D) (pre ++ [(⟨p.dst,(p.bits,1),i,-1⟩ : Use)]):=zra R (⟨p.dst,(p.bits,1),i,-1⟩ : Use) hn
     obtain ⟨h1,h2⟩:=zsR i l _ _ R'
     rw [yb,yg] at h2
     exact ⟨by simpa using h1,fun h => h2 (by simpa using h)⟩
theorem zmp {o : POp} (h : 0 < (zY o).1) : value o.dst = true:=by
 unfold zY at h
 split at h
 ·simp at h
 ·rename_i c
  have hm : zgE o = true:=by
   cases e : zgE o
   ·exact absurd (.inl e) c
   ·rfl
  have hs : zii o.kind = false:=by
   cases e : zii o.kind
   ·rfl
   ·exact absurd (.inr e) c
  unfold zgE at hm
  simp only [yd] at hm
  have:=hm.2.2.1
  rw [hs] at this
  simpa using this
theorem zrA (i : Int) : ∀ (l : List POp) (k : Nat) (D : zhW) (pre : List Use),Rep D pre → ((zgz i k D l).2.isNone = zdO pre (zb2 i k l)) ∧ (zdO pre (zb2 i k l) = true → Rep (zgz i k D l).1 (pre ++ zb2 i k l))
 | [],k,D,pre,R => ⟨rfl,fun _ => by simpa [zgz,zb2] using R⟩
 | o :: l,k,D,pre,R => by
   rw [zgz,zb2]
   by_cases c : (zY o).1 ≤ 0
   ·rw [if_pos c,if_neg (show ¬ 0 < (zY o).1 by omega)]
    exact zrA i l (k + 1) D pre R
   ·rw [if_neg c,if_pos (show 0 < (zY o).1 by omega),zdO,zmp (o:=o) (by omega),R o.dst]
    cases hn : (lk pre o.dst).isNone
    ·rw [if_neg (by simp)]
     exact ⟨rfl,fun h => by simp at h⟩
    ·rw [if_pos rfl]
     have R' : Rep (zh7 o.dst ⟨i,(k : Int),zY o⟩ D) (pre ++ [(⟨o.dst,zY o,i,(k : Int)⟩ : Use)]):=zra R (⟨o.dst,zY o,i,(k : Int)⟩ : Use) hn
     obtain ⟨h1,h2⟩:=zrA i l (k + 1) _ _ R'
     rw [yb,yg] at h2
     exact ⟨by simpa using h1,fun h => h2 (by simpa using h)⟩
theorem znu : ∀ (l : List PBlock) (k : Nat) (D : zhW) (pre : List Use),Rep D pre → ((zcw k D l).2.isNone = zdO pre (zJ k l)) ∧ (zdO pre (zJ k l) = true → Rep (zcw k D l).1 (pre ++ zJ k l))
 | [],k,D,pre,R => ⟨rfl,fun _ => by simpa [zcw,zJ] using R⟩
 | b :: l,k,D,pre,R => by
   obtain ⟨p1,p2⟩:=zsR (k : Int) b.phis D pre R
   rw [zcw,zJ,zjz,zjz]
   cases hp : zee (k : Int) D b.phis with
   | mk D1 q =>
     rw [hp] at p1 p2
     cases q with
     | some x =>
       rw [← p1]
       exact ⟨rfl,fun h => by simp at h⟩
     | none =>
       rw [← p1]
       have R1:=p2 (by rw [← p1]; rfl)
       simp only at R1
       obtain ⟨o1,o2⟩:=zrA (k : Int) b.ops 0 D1 _ R1
       simp only
       cases ho : zgz (k : Int) 0 D1 b.ops with
       | mk D2 q2 =>
         rw [ho] at o1 o2
         cases q2 with
         | some x =>
           rw [← o1]
           exact ⟨rfl,fun h => by simp at h⟩
         | none =>
           rw [← o1]
           have R2:=o2 (by rw [← o1]; rfl)
           obtain ⟨b1,b2⟩:=znu l (k + 1) D2 _ R2
           rw [yb] at b1 b2
           simp only [yb] at b1 b2
           refine ⟨by simpa using b1,fun h => ?_⟩
           have:=b2 (by simpa using h)
           simpa [yb] using this
theorem zym {f : PFunc} (h : f.params.length ≤ 16) : ((zoF f).2.isNone = zfK (zO f) 0 (zO f)) ∧ (zfK (zO f) 0 (zO f) = true → Rep (zoF f).1 (zO f)):=by
 have e:=zoX (zO f) (zO f) [] (by simp)
 rw [List.length_nil] at e
 have R0 : Rep [] []:=fun v => rfl
 obtain ⟨h1,h2⟩:=znr f.params 0 [] [] R0 (by simp) (by omega)
 rw [yp] at h1
 obtain ⟨b1,b2⟩:=znu f.blocks 0 _ _ h1
 have ea : zdO [] (zO f) = zdO (zcQ 0 f.params) (zJ 0 f.blocks):=by
  unfold zO
  rw [zjz,h2,yC,yp]
 rw [e,ea]
 exact ⟨b1,b2⟩
end AC
namespace AC
open Go Go.A Go.A.Lex
open Dm
theorem zy2 {f : PFunc} (hf : okF f) (h : za5 f = true) : ∃ (t : List Int) (O : Int → Prop) (pos : Int → Nat),TreeOf (zI f) ((0 : Nat) : Int) O pos t ∧ zp8 f (t.set 0 (-1)):=by
 have hm:=ze4 h
 obtain ⟨n1,n64,hr⟩:=zd8 hm
 obtain ⟨o,o0,tail,t,O,pos,h1,h2,h3,h4,h5,Q,h6⟩:=zzK hm (root:=0) (by omega)
 refine ⟨t,O,pos,Q,?_,fun _ => ?_⟩
 ·rw [zim Q]; omega
 ·have hmay : zwU (zI f) (zam (zI f)) = true:=by unfold zwU; rw [hm]; simp
  exact zvS (zI f) (zam (zI f)) (zl5 hf) hmay 0 (by omega) 200 (by omega) o h1 o0 tail h2 h3 (by omega) 200 5000 t h5
theorem zoB (f : PFunc) (hf : okF f) : ∃ tree,zp8 f tree ∧ (za5 f = true → ∃ (t : List Int) (O : Int → Prop) (pos : Int → Nat),TreeOf (zI f) ((0 : Nat) : Int) O pos t ∧ tree = t.set 0 (-1)):=by
 cases c : za5 f
 ·exact ⟨[],⟨by simp,fun h => by rw [c] at h; cases h⟩,fun h => by cases h⟩
 ·obtain ⟨t,O,pos,Q,hT⟩:=zy2 hf c
  exact ⟨_,hT,fun _ => ⟨t,O,pos,Q,rfl⟩⟩
noncomputable def zyH (f : PFunc) : List Int:=open Classical in if h : okF f then (zoB f h).choose else []
theorem zy3 {f : PFunc} (hf : okF f) : zp8 f (zyH f):=by
 unfold zyH
 rw [dif_pos hf]
 exact (zoB f hf).choose_spec.1
theorem zy1 {f : PFunc} (hf : okF f) (h : za5 f = true) : ∃ (t : List Int) (O : Int → Prop) (pos : Int → Nat),TreeOf (zI f) ((0 : Nat) : Int) O pos t ∧ zyH f = t.set 0 (-1):=by
 unfold zyH
 rw [dif_pos hf]
 exact (zoB f hf).choose_spec.2 h
theorem ztA (f : PFunc) (hf : okF f) (level : Int) : call T 51 [zgP f,vI level] [] = some (vI (zmH f level (zyH f)),[]):=ztm f hf level _ (zy3 hf)
section
variable {f : PFunc} (hf : okF f) (hg : za5 f = true) {t : List Int} {O : Int → Prop} {pos : Int → Nat} (Q : TreeOf (zI f) ((0 : Nat) : Int) O pos t)
include hg Q
theorem zij : ∀ (l : List PBlock) (i : Nat),zcq (zam (zI f)) (t.set 0 (-1)) i l = zbB (zam (zI f)) (zjD (zI f) 0 (-1)) i l
 | [],_ => rfl
 | b :: l,i => by
   rw [zcq,zbB,zij l (i + 1),zn6,zkt]
   congr 1
   have e : zia (t.set 0 (-1)) (i : Int) (i : Int) = (zjD (zI f) 0 (-1)).getD i false:=by
    rw [yB]
    have h1:=zyg Q (i : Int) (i : Int)
    have h2:=zrb (ze4 hg) Q i
    rw [h1]
    exact ⟨fun h => h2.2 h.1,fun h => ⟨h2.1 h,h2.1 h,zxu _⟩⟩
   rw [e,Bool.and_comm (b.phis.all _)]
theorem ztd : zed f (t.set 0 (-1)) = zhg f:=by
 unfold zed zhg
 rw [zij hg Q]
end
theorem zhS (ask : Use → Int) (c : Int) (hc : c ≠ 0) : ∀ l : List Use,(∀ u ∈ l,ask u = 0 ∨ ask u = c) → zG ask l = if l.all (fun u => decide (ask u = 0)) = true then 0 else c
 | [],_ => rfl
 | u :: l,h => by
   have ih:=zhS ask c hc l fun x hx => h x (yi _ hx)
   rw [zG,yv]
   rcases h u yf with h0 | h0
   ·rw [if_pos h0,ih,h0]
    simp
   ·rw [if_neg (by rw [h0]; exact hc),h0]
    simp [hc]
theorem zj0 {l : List Use} {p q : Use → Bool} (h : ∀ u ∈ l,p u = q u) : l.all p = l.all q:=by
 induction l with
 | nil => rfl
 | cons x l ih => rw [yv,yv,h x yf,ih fun y hy => h y (yi _ hy)]
theorem zhv (defs : List Use) (v : Int) : ∀ (k : Nat),(zB v k defs < 0 ↔ (lk defs v).isNone = true) ∧ (0 ≤ zB v k defs → defs[(zB v k defs - k).toNat]? = defs.find? (fun u => decide (u.v = v))):=by
 induction defs with
 | nil => intro k; simp [zB,lk]
 | cons u r ih =>
   intro k
   obtain ⟨h1,h2⟩:=ih (k + 1)
   rw [zB]
   by_cases c : u.v = v
   ·rw [if_pos c]
    constructor
    ·constructor
     ·intro h; omega
     ·intro h
      exact absurd c (zj5.1 h u yf)
    ·intro _
     rw [Int.sub_self,yq,decide_eq_true c]
     rfl
   ·rw [if_neg c]
    have e : lk (u :: r) v = lk r v:=by unfold lk; rw [yq,decide_eq_false c]
    rw [e]
    refine ⟨h1,fun h => ?_⟩
    have:=h2 h
    have hb:=ziX v r (k + 1) h
    rw [yq,decide_eq_false c,← this]
    rw [show (zB v (k + 1) r - (k : Int)).toNat = (zB v (k + 1) r - ((k + 1 : Nat) : Int)).toNat + 1 by omega,List.getElem?_cons_succ]
theorem zxH {defs : List Use} {v : Int} {p : PDef} (h : lk defs v = some p) : toP (zha defs v) = p:=by
 obtain ⟨h1,h2⟩:=zhv defs v 0
 have h0 : 0 ≤ zB v 0 defs:=by
  by_cases c : zB v 0 defs < 0
  ·have:=h1.1 c
   rw [h] at this
   cases this
  ·omega
 have:=h2 h0
 rw [show zB v 0 defs - ((0 : Nat) : Int) = zB v 0 defs by omega] at this
 unfold lk at h
 cases e : defs.find? (fun u => decide (u.v = v)) with
 | none => rw [e] at h; cases h
 | some x =>
   rw [e] at h this
   unfold zha
   rw [yh,this]
   simpa using h
theorem zjy (p : PPhi) : ∀ (l : List Int) (k : Nat),k + l.length ≤ p.src.length → ∀ u ∈ zac p k l,u.block ∈ p.src ∧ u.at' = 1048576
 | [],_,_ => by simp [zac]
 | v :: l,k,h => by
   simp only [ya] at h
   intro u hu
   rw [zac] at hu
   rcases yl.1 hu with rfl | hu
   ·refine ⟨?_,rfl⟩
    show p.src.getD k 0 ∈ p.src
    rw [yh,yj (by omega)]
    exact yo _
   ·exact zjy p l (k + 1) (by omega) u hu
theorem zkJ (o : POp) (i at' : Int) : ∀ (l : List (Int × Int)) (k : Nat),∀ u ∈ zM o i at' k l,u.block = i ∧ u.at' = at'
 | [],_ => by simp [zM]
 | s :: l,k => by
   intro u hu
   rw [zM] at hu
   rcases yl.1 hu with rfl | hu
   ·exact ⟨rfl,rfl⟩
   ·exact zkJ o i at' l (k + 1) u hu
theorem zi9 (i : Int) : ∀ (l : List POp) (k : Nat),∀ u ∈ zad i k l,u.block = i ∧ 0 ≤ u.at' ∧ u.at' < ((k + l.length : Nat) : Int)
 | [],_ => by simp [zad]
 | o :: l,k => by
   intro u hu
   rw [zad] at hu
   rcases yc.1 hu with hu | hu
   ·obtain ⟨h1,h2⟩:=zkJ o i (k : Int) _ 0 u hu
    simp only [ya]
    exact ⟨h1,by omega,by omega⟩
   ·obtain ⟨h1,h2,h3⟩:=zi9 i l (k + 1) u hu
    simp only [ya]
    exact ⟨h1,h2,by omega⟩
theorem ziY (pred : List (List Int)) (reach : List Bool) : ∀ (l : List PBlock) (i : Nat),zbB pred reach i l = true → ∀ k b,l[k]? = some b → zkt pred reach (i + k) b = true
 | [],_,_ => by simp
 | b :: l,i,h => by
   rw [zbB,yd] at h
   intro k c hc
   cases k with
   | zero =>
     simp only [List.getElem?_cons_zero,Option.some.injEq] at hc
     subst hc
     exact h.1
   | succ k =>
     have:=ziY pred reach l (i + 1) h.2 k c (by simpa using hc)
     rwa [show i + 1 + k = i + (k + 1) by omega] at this
theorem zid (f : PFunc) (P : Int → Prop) : ∀ (l : List PBlock) (k : Nat),(∀ j b,l[j]? = some b → P ((k + j : Nat) : Int) ∧ b.ops.length ≤ 1000 ∧ ∀ p ∈ b.phis,p.args.length = p.src.length ∧ ∀ x ∈ p.src,P x) → ∀ u ∈ zcF f k l,P u.block ∧ (u.at' = 1048576 ∨ (0 ≤ u.at' ∧ u.at' < 1000))
 | [],_,_ => by simp [zcF]
 | b :: l,k,h => by
   intro u hu
   obtain ⟨h0,hol,hp⟩:=h 0 b rfl
   rw [Nat.add_zero] at h0
   rw [zcF,zfu] at hu
   rcases yc.1 hu with hu | hu
   ·rcases yc.1 hu with hu | hu
    ·unfold zdn at hu
     rw [List.mem_flatMap] at hu
     obtain ⟨p,hpm,hu⟩:=hu
     obtain ⟨e1,e2⟩:=hp p hpm
     obtain ⟨q1,q2⟩:=zjy p p.args 0 (by omega) u hu
     exact ⟨e2 _ q1,.inl q2⟩
    ·rcases yc.1 hu with hu | hu
     ·obtain ⟨q1,q2,q3⟩:=zi9 (k : Int) b.ops 0 u hu
      rw [q1]
      exact ⟨h0,.inr ⟨q2,by omega⟩⟩
     ·unfold zc3 at hu
      split at hu
      ·simp at hu
      ·rw [ys.1 hu]
       exact ⟨h0,.inl rfl⟩
   ·exact zid f P l (k + 1) (fun j c hc => by
    have:=h (j + 1) c (by simpa using hc)
    rwa [show k + (j + 1) = k + 1 + j by omega] at this) u hu
theorem zhc (i : Int) : ∀ (l : List POp) (k : Nat),∀ u ∈ zb2 i k l,u.block = i ∧ 0 ≤ u.at' ∧ u.at' < ((k + l.length : Nat) : Int)
 | [],_ => by simp [zb2]
 | o :: l,k => by
   intro u hu
   rw [zb2] at hu
   simp only [ya]
   split at hu
   ·rcases yl.1 hu with rfl | hu
    ·exact ⟨rfl,by show (0 : Int) ≤ (k : Int); omega,by show (k : Int) < _; omega⟩
    ·obtain ⟨h1,h2,h3⟩:=zhc i l (k + 1) u hu
     exact ⟨h1,h2,by omega⟩
   ·obtain ⟨h1,h2,h3⟩:=zhc i l (k + 1) u hu
    exact ⟨h1,h2,by omega⟩
theorem zgv : ∀ (l : List PBlock) (k : Nat),(∀ b ∈ l,b.ops.length ≤ 1000) → ∀ u ∈ zJ k l,(k : Int) ≤ u.block ∧ u.block < ((k + l.length : Nat) : Int) ∧ u.at' < 1000
 | [],_,_ => by simp [zJ]
 | b :: l,k,h => by
   intro u hu
   have hb:=h b yf
   simp only [ya]
   rw [zJ] at hu
   rcases yc.1 hu with hu | hu
   ·unfold zeA at hu
    obtain ⟨p,_,rfl⟩:=List.mem_map.1 hu
    exact ⟨Int.le_refl _,by show (k : Int) < _; omega,by show (-1 : Int) < 1000; omega⟩
   ·rcases yc.1 hu with hu | hu
    ·obtain ⟨h1,h2,h3⟩:=zhc (k : Int) b.ops 0 u hu
     exact ⟨by omega,by omega,by omega⟩
    ·obtain ⟨h1,h2,h3⟩:=zgv l (k + 1) (fun c hc => h c (yi _ hc)) u hu
     exact ⟨by omega,by omega,h3⟩
theorem zeo : ∀ (l : List Int) (k : Nat),∀ u ∈ zcQ k l,u.block = -1 ∧ u.at' = 0
 | [],_ => by simp [zcQ]
 | b :: l,k => by
   intro u hu
   rw [zcQ] at hu
   rcases yl.1 hu with rfl | hu
   ·exact ⟨rfl,rfl⟩
   ·exact zeo l (k + 1) u hu
theorem zlE {f : PFunc} (h : zky f ≤ 512) : ∀ b ∈ f.blocks,b.ops.length ≤ 1000:=fun b hb => by
 have key : ∀ l : List PBlock,b ∈ l → b.phis.length + b.ops.length ≤ (l.map fun b => b.phis.length + b.ops.length).sum:=by
  intro l
  induction l with
  | nil => intro h; cases h
  | cons a l ih =>
    intro h
    simp only [List.map_cons,List.sum_cons]
    rcases yl.1 h with rfl | h
    ·omega
    ·have:=ih h; omega
 have:=key _ hb
 unfold zky at h
 omega
theorem zwr {f : PFunc} (hf : okF f) (level : Int) (hm : zn2 f = true) : ziw f level (zyH f) = zdl f level ∨ level < 0 ∨ 2 < level:=by
 by_cases hlv : level < 0 ∨ 2 < level
 ·exact .inr hlv
 left
 unfold ziw zdl
 have hmf : ¬ zn2 f = false:=by simp [hm]
 have tf : ¬ (true = false):=by simp
 have ff : false = false:=rfl
 rw [if_neg hlv,if_neg hmf,if_neg hmf]
 cases hg : za5 f
 ·have e1 : zed f (zyH f) = false:=by unfold zed; rw [hg]; rfl
  have e2 : zhg f = false:=by unfold zhg; rw [hg]; rfl
  rw [if_pos e1,if_pos e2]
 obtain ⟨t,O,pos,Q,hTr⟩:=zy1 hf hg
 have hmk:=ze4 hg
 rw [hTr,ztd hg Q]
 cases hs : zhg f
 ·rw [if_pos ff,if_pos ff]
 rw [if_neg tf,if_neg tf]
 cases ht : zeE f level
 ·rw [if_pos ff,if_pos ff]
 rw [if_neg tf,if_neg tf]
 obtain ⟨n1,n64,np,nsz,nb⟩:=znI hm
 obtain ⟨d1,d2⟩:=zym (f:=f) np
 cases hd : zoF f with
 | mk D q =>
   rw [hd] at d1 d2
   cases q with
   | some x =>
     have : zfK (zO f) 0 (zO f) = false:=d1.symm
     simp only
     rw [if_pos this]
   | none =>
     have hok : zfK (zO f) 0 (zO f) = true:=d1.symm
     have R:=d2 hok
     simp only at R ⊢
     rw [hok,if_neg tf]
     have hsf : zbB (zam (zI f)) (zjD (zI f) 0 (-1)) 0 f.blocks = true:=by
      unfold zhg at hs
      rw [yd] at hs
      exact hs.2
     have hOi : ∀ i : Nat,i < f.blocks.length → O (i : Int):=fun i hi => by
      have:=ziY _ _ _ _ hsf i _ (yj hi)
      unfold zkt at this
      rw [yd,yu] at this
      exact (zrb hmk Q i).1 this.1
     have hr:=(zd8 hmk).2.2
     have hsl : (zI f).length = f.blocks.length:=by simp [zI]
     have hU : ∀ u ∈ zdd f,O u.block ∧ (u.at' = 1048576 ∨ (0 ≤ u.at' ∧ u.at' < 1000)):=by
      refine zid f O f.blocks 0 fun j b hb => ?_
      have hj:=(List.getElem?_eq_some_iff.1 hb).1
      have hsb:=ziY _ _ _ _ hsf j b hb
      rw [yu] at hsb ⊢
      unfold zkt at hsb
      simp only [yd,yy] at hsb
      refine ⟨hOi j hj,zlE nsz b (List.mem_of_getElem? hb),fun p hp => ?_⟩
      have h1:=hsb.2.2 p hp
      unfold zli at h1
      simp only [yd,decide_eq_true_eq] at h1
      refine ⟨h1.2,fun x hx => ?_⟩
      rw [h1.1] at hx
      have:=(zmf hr (x:=(j : Int)) ⟨by omega,by omega⟩ x).1 (by rw [yk]; exact hx)
      obtain ⟨y,hy⟩ : ∃ y : Nat,(y : Int) = x:=⟨x.toNat,by have:=this.1; omega⟩
      rw [← hy]
      exact hOi y (by have:=this.2.1; omega)
     have hDf : ∀ d ∈ zO f,(d.block < 0 ∨ O d.block) ∧ d.at' < 1000:=fun d hd' => by
      unfold zO at hd'
      rcases yc.1 hd' with hd' | hd'
      ·obtain ⟨e1,e2⟩:=zeo _ _ d hd'
       exact ⟨.inl (by omega),by omega⟩
      ·obtain ⟨e1,e2,e3⟩:=zgv f.blocks 0 (zlE nsz) d hd'
       refine ⟨.inr ?_,e3⟩
       obtain ⟨y,hy⟩ : ∃ y : Nat,(y : Int) = d.block:=⟨d.block.toNat,by omega⟩
       rw [← hy]
       exact hOi y (by omega)
     have f1:=zhS (zik D) 7 (by omega) (zdd f) fun u _ => by unfold zik; split <;> simp
     have a1 : (zdd f).all (fun u => decide (zik D u = 0)) = (zf1 f).all (zng (zO f)):=by
      unfold zf1
      rw [yA]
      refine zj0 fun u _ => ?_
      show decide (zik D u = 0) = zng (zO f) (zey u)
      have e:=(zhv (zO f) u.v 0).1
      unfold zik zng
      rw [R u.v]
      show _ = !decide (zB u.v 0 (zO f) < 0)
      by_cases c : zB u.v 0 (zO f) < 0
      ·rw [if_pos (e.1 c),decide_eq_true c]; rfl
      ·rw [if_neg (fun h => c (e.2 h)),decide_eq_false c]; rfl
     rw [f1,a1]
     cases b1 : (zf1 f).all (zng (zO f))
     ·simp
     have hdef : ∀ u ∈ zdd f,∃ p,lk (zO f) u.v = some p:=fun u hu => by
      have:=yy.1 b1 (zey u) (List.mem_map_of_mem hu)
      unfold zng at this
      have e:=(zhv (zO f) u.v 0).1
      cases h : lk (zO f) u.v with
      | some p => exact ⟨p,rfl⟩
      | none =>
        have hn:=e.2 (by rw [h]; rfl)
        have : (!decide (zB u.v 0 (zO f) < 0)) = true:=this
        rw [decide_eq_true hn] at this
        cases this
     have hat : ∀ u ∈ zdd f,ziJ D u.v = toP (zha (zO f) u.v):=fun u hu => by
      obtain ⟨p,hp⟩:=hdef u hu
      unfold ziJ
      rw [R u.v,hp,zxH hp]
      rfl
     have f2:=zhS (zbi D) 6 (by omega) (zdd f) fun u _ => by unfold zbi; split <;> simp
     have a2 : (zdd f).all (fun u => decide (zbi D u = 0)) = (zf1 f).all (sameShape (zO f)):=by
      unfold zf1
      rw [yA]
      refine zj0 fun u hu => ?_
      show decide (zbi D u = 0) = sameShape (zO f) (zey u)
      unfold zbi sameShape
      rw [hat u hu]
      show decide ((if (zha (zO f) u.v).shape = u.shape then (0 : Int) else 6) = 0) = decide ((zha (zO f) u.v).shape = u.shape)
      by_cases c : (zha (zO f) u.v).shape = u.shape
      ·rw [if_pos c,decide_eq_true c]; rfl
      ·rw [if_neg c,decide_eq_false c]; rfl
     rw [f2,a2]
     cases b2 : (zf1 f).all (sameShape (zO f))
     ·simp
     have f3:=zhS (zax D (t.set 0 (-1))) 7 (by omega) (zdd f) fun u _ => by
      unfold zax
      simp only
      split
      ·simp
      ·split <;> simp
     have a3 : (zdd f).all (fun u => decide (zax D (t.set 0 (-1)) u = 0)) = (zf1 f).all (zgV (zO f) (zjk (zI f) 0)):=by
      have e7 : zjk (zI f) 0 = t.set 0 (-1):=zwv hmk Q
      rw [e7]
      unfold zf1
      rw [yA]
      refine zj0 fun u hu => ?_
      show decide (zax D (t.set 0 (-1)) u = 0) = zgV (zO f) (t.set 0 (-1)) (zey u)
      obtain ⟨uo,ua⟩:=hU u hu
      unfold zax zgV
      rw [hat u hu]
      have hv1 : (zey u).v = u.v:=rfl
      have hb1 : (zey u).block = u.block:=rfl
      rw [hv1,hb1]
      obtain ⟨d,hd'⟩ : ∃ d,d = zha (zO f) u.v:=⟨_,rfl⟩
      rw [← hd']
      have hdm : d ∈ zO f:=by
       obtain ⟨p,hp⟩:=hdef u hu
       have hi:=zhv (zO f) u.v 0
       have h0 : 0 ≤ zB u.v 0 (zO f):=by
        by_cases c : zB u.v 0 (zO f) < 0
        ·have:=hi.1.1 c
         rw [hp] at this
         cases this
        ·omega
       have hlt:=ziX u.v (zO f) 0 h0
       rw [hd']
       unfold zha
       rw [yh,yj (by omega)]
       exact yo _
      obtain ⟨db,da⟩:=hDf d hdm
      show decide ((if d.block < 0 then (0 : Int) else if (d.block = u.block ∧ d.at' < u.at') ∨ (d.block ≠ u.block ∧ zia (t.set 0 (-1)) d.block u.block = true) then 0 else 7) = 0) = _
      by_cases c1 : d.block < 0
      ·rw [if_pos c1,decide_eq_true c1]; rfl
      ·rw [if_neg c1,decide_eq_false c1]
       have dO:=db.resolve_left c1
       have hmo:=zwg Q dO uo
       by_cases c2 : d.block = u.block
       ·have h3 : (d.at' < u.at') ↔ (d.at' < (zey u).at'):=by
         show _ ↔ d.at' < (if u.at' = 1048576 then 1000 else u.at')
         split <;> omega
        by_cases c3 : d.at' < u.at'
        ·rw [if_pos (.inl ⟨c2,c3⟩),decide_eq_true c2,decide_eq_true (h3.1 c3)]; rfl
        ·rw [if_neg (fun h => h.elim (fun h => c3 h.2) (fun h => h.1 c2)),decide_eq_true c2,decide_eq_false (fun h => c3 (h3.2 h))]; rfl
       ·rw [decide_eq_false c2]
        by_cases c4 : zia (t.set 0 (-1)) d.block u.block = true
        ·rw [if_pos (.inr ⟨c2,c4⟩),decide_eq_true (hmo.2 c4)]; rfl
        ·rw [if_neg (fun h => h.elim (fun h => c2 h.1) (fun h => c4 h.2)),decide_eq_false (fun h => c4 (hmo.1 h))]; rfl
     rw [f3,a3]
     cases b3 : (zf1 f).all (zgV (zO f) (zjk (zI f) 0)) <;> simp
theorem zvj {f : PFunc} (hf : okF f) (level : Int) : zmH f level (zyH f) = zdl f level:=by
 unfold zmH
 by_cases hlv : level < 0 ∨ 2 < level
 ·rw [if_pos hlv]
  unfold zdl
  rw [if_pos hlv]
 ·rw [if_neg hlv]
  cases hm : zn2 f
  ·unfold ziw zdl
   rw [if_neg hlv,if_pos hm,if_pos hm]
  ·exact (zwr hf level hm).resolve_right hlv
end AC
