/- A part of the proof of AliasBoth. Conditions: none. -/
import Derived.Test.YtmkncmffaaninaaGreatAAV
set_option linter.all false
open List renaming drop_eq_getElem_cons → ya,length_cons → yc,getElem?_eq_some_iff → ye,getElem_mem → yf,take_succ_eq_append_getElem → yh,replicate → yi,drop_length → yj,length → yk,drop_zero → yl,take_of_length_le → ym,getElem?_eq_none → yn,map_append → yo,length_append → yq,take_zero → yu,sum_cons → yw,map_set → yx,mem_map → yy,map → yz
open Int renaming natCast_zero → yb,lt_irrefl → yg,natCast_nonneg → yp,toNat_natCast → yr
open Bool renaming and_eq_true → yd,not_eq_true' → ys
open Nat renaming add_assoc → yt,add_comm → yv
namespace AC
open Go Go.A Go.A.Lex
def apR : Nat → List (List Int) → List (List C)
 | _,[] => []
 | q,l :: r => [.ap 0 q (l.map ri)] :: apR (q + 1) r
theorem zf6 : ∀ (out : List (List Int)) (q : Nat),(apR q out).length = out.length
 | [],_ => rfl
 | l :: r,q => by simp [apR,zf6 r (q + 1)]
theorem zsz : ∀ (out : List (List Int)) (q k : Nat) (h : k < out.length),(apR q out)[k]? = some [.ap 0 (q + k) (out[k].map ri)]
 | [],_,_,h => by simp at h
 | l :: r,q,0,_ => by simp [apR]
 | l :: r,q,k + 1,h => by
   simp only [apR,List.getElem?_cons_succ,List.getElem_cons_succ];rw [zsz r (q + 1) k (by simpa using h),yt,yv 1 k]
theorem zvL : ∀ (out : List (List Int)) (q k : Nat) (l : List Int),(apR q out).set k [.ap 0 (q + k) (l.map ri)] = apR q (out.set k l)
 | [],_,_,_ => rfl
 | x :: r,q,0,l => by simp [apR]
 | x :: r,q,k + 1,l => by
   simp only [apR,List.set_cons_succ];rw [← zvL r (q + 1) k l,yt,yv 1 k]
theorem zxV : ∀ (out : List (List Int)) (q : Nat),zbx (apR q out) = some (out.map rl)
 | [],_ => rfl
 | x :: r,q => by simp [apR,zbx,zdm,zvD,zeA,zxV r (q + 1),rl]
theorem zAr (n : Nat) : (List.range n).map (nest 0 [.f (.sl [])] 0) = apR 0 (yi n []):=by
 apply List.ext_getElem?;intro k
 by_cases a : k < n
 ·rw [zsz _ _ _ (by simpa using a)]
  simp [a,nest]
 ·rw [yn (by simp; omega),yn (by rw [zf6]; simp; omega)]
theorem zvO {i : Int} {out : List (List Int)} {x : Int} {B : Nat} (h : ∀ y ∈ out,y.length ≤ B) : ∀ y ∈ zsl i out x,y.length ≤ B + 1:=by
 intro y b;rcases List.mem_or_eq_of_mem_set b with a | a
 ·have:=h y a
  omega
 ·subst a
  simp only [yq,yc,List.length_nil,List.getD_eq_getElem?_getD]
  cases e : out[x.toNat]? with
  | none => simp
  | some z =>
    have:=h z (List.mem_of_getElem? e);simp;omega
theorem zpg (i : Int) : ∀ (l : List Int) (out : List (List Int)) (B : Nat),(∀ y ∈ out,y.length ≤ B) → ∀ y ∈ l.foldl (zsl i) out,y.length ≤ B + l.length
 | [],_,_,h => h
 | x :: r,out,B,h => fun y a => by
   have:=zpg i r (zsl i out x) (B + 1) (zvO h) y a;simp only [yc];omega
abbrev pst (out : List (List Int)) : zb:=[.tok 1 (out.map yk),.cells 0 1 (apR 0 out)]
theorem zys (succ : List (List Int)) (i n : Nat) (l : List Int) (C : l.length ≤ 4294967296) (v : ∀ x ∈ l,0 ≤ x ∧ x < n) : ∀ (d k : Nat) (out : List (List Int)) (B : Nat) (a0 a1 a4 a5 a9 b : V),l.length - k = d → k ≤ l.length → out.length = n →
  (∀ y ∈ out,y.length ≤ B) → B + d ≤ 4294967296 →
  exec T zd6 ⟨[a0,a1,.one (.own 1 0 0 n),vI i,a4,a5,vLs succ,vI succ.length,vI i,a9,vIs l,vI l.length,vI k,b],pst out,0,0⟩ =
   some (.exit 2,⟨[vU,vU,.one (.own 1 0 0 n),vU,vU,vU,vLs succ,vI succ.length,vI i,vU,vU,vU,vU,vU],pst ((l.drop k).foldl (zsl i) out),0,0⟩):=by
 intro d
 induction d with
 | zero =>
   intro k out B a0 a1 a4 a5 a9 b A u r o t;have c : k = l.length:=(by omega);subst c;rw [xl zd6 rfl,zfN];simp -implicitDefEqProofs only [go_sem,yg,yj,List.foldl_nil]
 | succ d ih =>
   intro k out B a0 a1 a4 a5 a9 b A u r o t;have c : k < l.length:=(by omega);have hd : l.drop k = l[k] :: l.drop (k + 1):=ya c;obtain ⟨D,E⟩:=v _ (yf c);generalize hxe : l[k] = x at *;obtain ⟨j,rfl⟩ : ∃ j : Nat,x = j:=⟨x.toNat,by omega⟩;have f : j < out.length:=(by omega);have g : ((j : Int) < (n : Int)) = True:=(by simp; omega);have p:=zsz out 0 j f;have s:=fun m => zvL out 0 j m;simp only [Nat.zero_add] at p s;have w : (out.map yk)[j]? = some out[j].length:=by simp [f]
   have e : out[j].length + 1 ≤ LIM:=by
    have:=o _ (yf f);unfold LIM;omega
   have a : zsl i out j = out.set j (out[j] ++ [(i : Int)]):=(by simp [zsl,f]);have q : (l.map ri)[k]? = some (ri (j : Int)):=(by rw [z6 c,hxe]);rw [xl zd6 rfl,zfN,hd,List.foldl_cons];simp -implicitDefEqProofs only [go_sem,ilt c,q,ri,D,g,yr,p,w,e,zf6,yo,yx];have z : yz ri out[j] ++ [[Fz.lit (Value.int .i64 (i : Int))]] = yz ri (out[j] ++ [(i : Int)]):=(by simp [ri]);rw [z];simp -implicitDefEqProofs only [go_sem,s,zf6,zf c C,p]
   have h : ∀ y ∈ out.set j (out[j] ++ [(i : Int)]),y.length ≤ B + 1:=by
    rw [← a];exact zvO o
   have:=ih (k + 1) (out.set j (out[j] ++ [(i : Int)])) (B + 1) vU vU vU vU vU vU (by omega) (by omega) (by simpa using r) h (by omega);rw [a];simp -implicitDefEqProofs only [go_sem,pst,yx] at this ⊢;exact this
theorem zzt (succ : List (List Int)) (p : succ.length ≤ 4294967296) (q : ∀ l ∈ succ,l.length ≤ 4294967296) (n : ∀ l ∈ succ,∀ x ∈ l,0 ≤ x ∧ x < succ.length) : ∀ (d k : Nat) (out : List (List Int)) (B : Nat) (a0 a1 a3 a4 a5 a9 e b c a : V),succ.length - k = d → k ≤ succ.length → out.length = succ.length →
  (∀ y ∈ out,y.length ≤ B) → B + ((succ.drop k).map yk).sum ≤ 4294967296 →
  exec T zd8 ⟨[a0,a1,.one (.own 1 0 0 succ.length),a3,a4,a5,vLs succ,vI succ.length,vI k,a9,e,b,c,a],pst out,0,0⟩ =
   some (.exit 0,⟨[vU,vU,.one (.own 1 0 0 succ.length),vU,vU,vU,vU,vU,vU,vU,vU,vU,vU,vU],pst (zbd k (succ.drop k) out),0,0⟩):=by
 intro d
 induction d with
 | zero =>
   intro k out B a0 a1 a3 a4 a5 a9 e b c a o m h g i;have f : k = succ.length:=(by omega);subst f;rw [xl zd8 rfl,zfK];simp -implicitDefEqProofs only [go_sem,yg,yj,zbd]
 | succ d ih =>
   intro k out B a0 a1 a3 a4 a5 a9 e b c a o m h g i;have f : k < succ.length:=(by omega);have hd : succ.drop k = succ[k] :: succ.drop (k + 1):=ya f;have hm:=yf f;rw [hd,List.map_cons,yw] at i;have j:=fun a0 a1 a4 a5 a9 a => zys succ k succ.length succ[k] (q _ hm) (n _ hm) succ[k].length 0 out B a0 a1 a4 a5 a9 a (by omega) (by omega) h g (by omega);have:=ih (k + 1) (succ[k].foldl (zsl k) out) (B + succ[k].length) vU vU vU vU vU vU vU vU vU vU (by omega) (by omega) (by rw [zfq,h]) (zpg _ _ _ _ g) (by omega);rw [xl zd8 rfl,zfK,hd,zbd];simp -implicitDefEqProofs only [go_sem,pst,yl,yb] at j this;simp -implicitDefEqProofs only [go_sem,ilt f,z6 f,rl,pst,j,zf f p];exact this
theorem zu2 (succ : List (List Int)) (j : succ.length ≤ 4294967296) (k : ∀ l ∈ succ,l.length ≤ 4294967296) (i : ∀ l ∈ succ,∀ x ∈ l,0 ≤ x ∧ x < succ.length) (m : (succ.map yk).sum ≤ 4294967296) :
  call T 182 [vLs succ] [] = some (vLs (zah succ),[]):=by
 rw [zd (fn:=zgz) rfl];have h:=fun a0 a1 a3 a4 a5 a9 f b d e => zzt succ j k i succ.length 0 (yi succ.length []) 0 a0 a1 a3 a4 a5 a9 f b d e (by omega) (by omega) (by simp) (fun y g => by rw [(List.mem_replicate.1 g).2]; simp) (by simpa using m);have hlen : (apR 0 (zbd 0 succ (yi succ.length []))).length = succ.length:=by rw [zf6,zem]; simp
 have a : (succ.length : Int) ≤ (LIM : Int):=by unfold LIM; omega
 have c : (apR 0 (zbd 0 succ (yi succ.length []))).take succ.length = apR 0 (zbd 0 succ (yi succ.length [])):=ym (by omega);simp -implicitDefEqProofs only [go_sem,pst,yl,yb,List.map_replicate] at h;simp -implicitDefEqProofs only [go_sem,zgz,a,zAr,h,yp,yr,c,zxV,zah]
theorem zo6 {f : Nat} {g : List V → zb → Option (V × zb)} (h : T f = some (.ext g)) (args : List V) (σ : zb) : call T f args σ = g args σ:=by
 simp only [call,zdJ,h]
theorem zs9 (l : List Int) : zpv 1 (l.map ri) = true:=by
 induction l with
 | nil => rfl
 | cons x r ih => simp [zpv,ri,ih]
@[go_sem] theorem zn1 (l : List Int) (a : l.length ≤ 4294967296) : call T 181 [vIs l] [] = some (vIs l,[]):=by
  rw [zo6 (g:=zhl 1) rfl];simp [zhl,zl2,zs9,LIM,a]
theorem zkH (l : List Int) (n : Int) (a : l.length ≤ 4294967296) (o : Ob) (r : zb) : call T 179 [vIs l,.one (.ptr 1 0 0 0)] (o :: .cells 0 1 [[.f (ei n)]] :: r) = some (vB (!rising l n),o :: .cells 0 1 [[.f (ei n)]] :: r):=by
 rw [zd (fn:=zfT) rfl];have h:=zk6 l n a;simp -implicitDefEqProofs only [go_sem] at h;simp -implicitDefEqProofs only [go_sem,zfT,h]
theorem zkB (n : Int) : ∀ (l : List Int) (last : Int),zaD n last l = true → ∀ x ∈ l,last < x ∧ x < n
 | [],_,_,x,h => by simp at h
 | y :: r,last,h,x,a => by
   simp only [zaD] at h;split at h
   ·cases h
   ·rename_i b
    rcases List.mem_cons.1 a with rfl | a
    ·omega
    ·have:=zkB n r y h x a
     omega
theorem zo0 (n : Int) : ∀ (l : List Int) (last : Int),zaD n last l = true → -1 ≤ last → last < n → (l.length : Int) ≤ n - last - 1
 | [],last,_,h1,h2 => by simp; omega
 | y :: r,last,h,h1,h2 => by
   simp only [zaD] at h;split at h
   ·cases h
   ·rename_i a
    have:=zo0 n r y h (by omega) (by omega);simp only [yc];omega
theorem zfp {succ : List (List Int)} (h : zdc succ = true) : 1 ≤ succ.length ∧ succ.length ≤ 64 ∧ ∀ l ∈ succ,rising l succ.length = true:=by
 simp only [zdc,ys,Bool.or_eq_false_iff,decide_eq_false_iff_not,List.any_eq_false,ys,Bool.not_eq_false] at h;exact ⟨by omega,by omega,fun l a => by simpa using h.2.2 l a⟩
theorem zop (B : Nat) : ∀ l : List Nat,(∀ x ∈ l,x ≤ B) → l.sum ≤ B * l.length
 | [],_ => by simp
 | x :: r,h => by
   have c:=h x (by simp);have b:=zop B r fun y a => h y (by simp [a]);simp only [yw,yc,Nat.mul_add];omega
theorem zwU (succ : List (List Int)) (m : zlw succ) (p : succ.length ≤ 64) (f h : Ob) (l : f.lt 3 = true) (i : h.lt 3 = true) : ∀ (d k : Nat) (a0 a2 a3 a5 a6 a : V),succ.length - k = d → k ≤ succ.length →
  exec T zeB ⟨[a0,.one (.ptr 0 0 0 0),a2,a3,.one (.ap 2 0 ((succ.take k).map rl)),a5,a6,vLs succ,vI succ.length,vI k,a],[f,h,.tok 1 [k]],0,0⟩ =
   some (.exit 0,⟨[vU,.one (.ptr 0 0 0 0),vU,vU,.one (.ap 2 0 (succ.map rl)),vU,vU,vU,vU,vU,vU],[f,h,.tok 1 [succ.length]],0,0⟩):=by
 intro d
 induction d with
 | zero =>
   intro k a0 a2 a3 a5 a6 a o n;have b : k = succ.length:=(by omega);subst b;rw [xl zeB rfl,zgQ];simp -implicitDefEqProofs only [go_sem,yg,List.take_length]
 | succ d ih =>
   intro k a0 a2 a3 a5 a6 a o n;have b : k < succ.length:=(by omega);have j:=zn1 succ[k] (m.2 _ (yf b));have g : (succ.take k).length = k:=(by simp; omega);have c : k + 1 ≤ LIM:=by unfold LIM; omega
   have e : (succ.take k).map rl ++ [[Fz.sl (succ[k].map ri)]] = (succ.take (k + 1)).map rl:=by
    rw [yh b,yo];rfl
   rw [xl zeB rfl,zgQ];simp -implicitDefEqProofs only [go_sem] at j;simp -implicitDefEqProofs only [go_sem,ilt b,z6 b,rl,j,g,c,zf b m.1];have:=ih (k + 1) vU vU vU vU vU vU (by omega) (by omega);rw [← e] at this;simp -implicitDefEqProofs only [go_sem] at this;exact this
def zpj (succ : List (List Int)) : V:=if zdc succ = true then .tup [.agg [.f (.sl (succ.map rl)),.f (.sl ((zah succ).map rl))],vI 0] else .tup [.agg [.f (.sl []),.f (.sl [])],vI 5]
theorem zh7 {succ : List (List Int)} (h : zdc succ = true) : (succ.map yk).sum ≤ 4294967296:=by
 obtain ⟨f,a,d⟩:=zfp h
 have:=zop 64 (succ.map yk) (fun x c => by
  obtain ⟨l,b,rfl⟩:=yy.1 c;have:=zo0 _ _ _ (d l b) (by omega) (by omega)
  omega)
 rw [List.length_map] at this;have e : 64 * succ.length ≤ 64 * 64:=Nat.mul_le_mul_left _ a;omega
@[go_sem] theorem zhM (succ : List (List Int)) (g : zlw succ) : call T 147 [vLs succ] [] = some (zpj succ,[]):=by
  rw [zd (fn:=zdf) rfl];have d:=zg2 succ (fun l => !rising l succ.length) 179 [] [.ptr 1 0 0 0] [.cells 0 2 [[.f (.sl []),.f (.sl [])]],.cells 0 1 [[.f (ei succ.length)]]] g.1 (fun x i => zkH x _ (g.2 x i) _ _);simp -implicitDefEqProofs only [go_sem] at d
  by_cases c1 : succ.length < 1
  ·have a : (succ.length : Int) < 1:=by omega
   simp -implicitDefEqProofs only [go_sem,zdf,zpj,zdc,c1,a]
  have a : ¬ (succ.length : Int) < 1:=by omega
  by_cases c2 : 64 < succ.length
  ·have b : (64 : Int) < (succ.length : Int):=by omega
   simp -implicitDefEqProofs only [go_sem,zdf,zpj,zdc,c1,a,c2,b]
  have b : ¬ (64 : Int) < (succ.length : Int):=by omega
  cases c3 : succ.any fun l => !rising l succ.length
  ·have c : zdc succ = true:=by simp [zdc,c1,c2,c3]
   obtain ⟨o,n,m⟩:=zfp c;have h:=fun a0 a2 a3 a5 a6 j => zwU succ g n (.cells 0 2 [[.f (.sl []),.f (.sl [])]]) (.cells 0 1 [[.f (ei succ.length)]]) rfl rfl succ.length 0 a0 a2 a3 a5 a6 j (by omega) (by omega);have k:=zu2 succ g.1 g.2 (fun l h x i => by have:=zkB _ _ _ (m l h) x i; omega) (zh7 c);have e : (succ.length : Int) ≤ (LIM : Int):=(by unfold LIM; omega);simp -implicitDefEqProofs only [go_sem,yu,yb] at h k;simp -implicitDefEqProofs only [go_sem,zdf,a,b,d,c3,e,yp,h,k,zpj,c]
  ·simp -implicitDefEqProofs only [go_sem,zdf,zpj,zdc,c1,a,c2,b,d,c3]
theorem zok (l : List Int) : zeS (l.map ri) = some l:=by
 induction l with
 | nil => rfl
 | cons x r ih => simp [zeS,zty,ri,zeA,ih]
theorem zez (l : List Int) : zbx (l.map zF) = some (l.map ri):=by
 induction l with
 | nil => rfl
 | cons x r ih => simp [zbx,zdm,zvD,zF,zeA,ih,ri]
theorem zr9 (l : List Int) (a : l.length ≤ 4294967296) (σ : zb) (id : Nat) (b : σ[id]? = some (.cells 0 1 [[.f (.sl (l.map ri))]])) :
  call T 145 [.one (.fn 177 [] [.ptr id 0 0 0])] σ = some (.one (.own σ.length 0 0 l.length),σ ++ [.cells 0 1 ((zjb l).map zF)]):=by
 rw [zo6 (g:=zhH 177) rfl];simp [zhH,zb.cell,zb.elem,b,Ob.elem,zqk,zok,zpd,LIM,a]
theorem zq6 (l : List Int) (n : Nat) (a : l.length = n) (b : n ≤ 4294967296) (σ : zb) (id : Nat) (c : σ[id]? = some (.cells 0 1 (l.map zF))) :
  call T 118 [.one (.own id 0 0 n)] σ = some (vIs (zZ l),σ.set id (.cells 1 1 [])):=by
 rw [zo6 (g:=zgb) rfl];subst a;simp [zgb,c,zkA,LIM,b,zez,zok,zk1,vsl];exact fun _ _ => rfl
@[go_sem] theorem zs4 (l : List Int) : call T 146 [vIs l] [] = some (.one (.fn 177 [] [.ptr 0 0 0 0]),[.cells 0 1 [[.f (.sl (l.map ri))]]]):=by
  rw [zd (fn:=zc7) rfl];simp -implicitDefEqProofs only [go_sem,zc7]
theorem zly (l : List Int) : (zjb l).length = l.length:=List.length_mergeSort l
theorem znx (k n : Int) (a b : Ob) (r : zb) : call T 144 [vI k,.one (.ptr 2 0 0 0)] (a :: b :: .cells 0 1 [[.f (ei n)]] :: r) = some (vB (zuE n k),a :: b :: .cells 0 1 [[.f (ei n)]] :: r):=by
 rw [zd (fn:=zfD) rfl]
 by_cases c : k < 1
 ·simp -implicitDefEqProofs only [go_sem,zfD,zuE,c]
 ·by_cases d : n ≤ k <;> simp -implicitDefEqProofs only [go_sem,zfD,zuE,c,d]
def zsR (n : Nat) (b : PBlock) : Bool:=decide (zrr b.kind = b.to.length) && !b.to.any (zuE n)
def zgg (n : Nat) : Nat → List PBlock → Option (Nat × PBlock)
 | _,[] => none
 | k,b :: r => if zsR n b = true then zgg n (k + 1) r else some (k,b)
def zw0 (l : List Int) : List Int:=zZ (zjb l)
def zA (f : PFunc) : List (List Int):=f.blocks.map fun b => zw0 b.to
theorem zAN (f : PFunc) (o : okF f) (t : f.blocks.length ≤ 64) : ∀ (d k : Nat) (a0 a1 a3 a6 a7 c g : V),f.blocks.length - k = d → k ≤ f.blocks.length →
  exec T zgD ⟨[a0,a1,.one (.ptr 1 0 0 0),a3,.one (.ptr 2 0 0 0),.one (.ap 3 0 (((zA f).take k).map rl)),a6,a7,vL (f.blocks.map rb),vI f.blocks.length,vI k,c,g],[.cells 0 3 [zcN f],.cells 0 2 [[.f (.sl []),.f (.sl [])]],.cells 0 1 [[.f (ei f.blocks.length)]],.tok 1 [k]],0,0⟩ =
   some (match zgg f.blocks.length k (f.blocks.drop k) with
    | none => (.exit 0,⟨[vU,vU,.one (.ptr 1 0 0 0),vU,vU,.one (.ap 3 0 ((zA f).map rl)),vU,vU,vU,vU,vU,vU,vU],[.cells 0 3 [zcN f],.cells 0 2 [[.f (.sl []),.f (.sl [])]],.cells 0 1 [[.f (ei f.blocks.length)]],.tok 1 [f.blocks.length]],0,0⟩)
    | some (j,b) => (.ret,⟨[vU,vU,.one (.ptr 1 0 0 0),vI 5,vU,vU,vU,vU,vU,vU,vU,vU,vU],[.cells 0 3 [zcN f],.cells 0 2 [[.f (.sl []),.f (.sl [])]],.cells 0 1 [[.f (ei f.blocks.length)]],.tok 1 [j],.cells 0 5 [zK b]],0,0⟩)):=by
 intro d
 induction d with
 | zero =>
   intro k a0 a1 a3 a6 a7 c g s q;have a : k = f.blocks.length:=(by omega);subst a;have e : (zA f).take f.blocks.length = zA f:=ym (by simp [zA]);rw [xl zgD rfl,zjo,e];simp -implicitDefEqProofs only [go_sem,yg,yj,zgg]
 | succ d ih =>
   intro k a0 a1 a3 a6 a7 c g s q;have a : k < f.blocks.length:=(by omega);have hd : f.blocks.drop k = f.blocks[k] :: f.blocks.drop (k + 1):=ya a;have hm:=o.block _ (yf a);rw [xl zgD rfl,zjo,hd,zgg]
   by_cases c1 : zrr f.blocks[k].kind = f.blocks[k].to.length
   ·have l:=zaq f.blocks[k].to (zuE f.blocks.length) 144 [] [.ptr 2 0 0 0] [.cells 0 3 [zcN f],.cells 0 2 [[.f (.sl []),.f (.sl [])]],.cells 0 1 [[.f (ei f.blocks.length)]],.tok 1 [k],.cells 0 5 [zK f.blocks[k]]] hm.to (fun x _ => znx x _ _ _ _)
    cases c2 : f.blocks[k].to.any (zuE f.blocks.length)
    ·have m : ((zA f).take k).length = k:=by simp [zA]; omega
     have h : k + 1 ≤ LIM:=(by unfold LIM; omega);have n:=zs4 f.blocks[k].to;have p:=zr9 f.blocks[k].to hm.to [.cells 0 3 [zcN f],.cells 0 2 [[.f (.sl []),.f (.sl [])]],.cells 0 1 [[.f (ei f.blocks.length)]],.tok 1 [k],.cells 0 5 [zK f.blocks[k]],.cells 0 1 [[.f (.sl (f.blocks[k].to.map ri))]]] 5 rfl;have i:=zq6 (zjb f.blocks[k].to) f.blocks[k].to.length (zly _) hm.to [.cells 0 3 [zcN f],.cells 0 2 [[.f (.sl []),.f (.sl [])]],.cells 0 1 [[.f (ei f.blocks.length)]],.tok 1 [k],.cells 0 5 [zK f.blocks[k]],.cells 0 1 [[.f (.sl (f.blocks[k].to.map ri))]],.cells 0 1 ((zjb f.blocks[k].to).map zF)] 6 rfl
     have e : ((zA f).take k).map rl ++ [[Fz.sl ((zZ (zjb f.blocks[k].to)).map ri)]] = ((zA f).take (k + 1)).map rl:=by
      rw [yh (by simpa [zA] using a),yo];simp [zA,rl,zw0]
     have:=ih (k + 1) vU vU vU vU vU vU vU (by omega) (by omega);rw [← e] at this;simp -implicitDefEqProofs only [go_sem] at l n p i this;simp -implicitDefEqProofs only [go_sem,ilt a,z6 a,rb,c1,l,c2,zsR,n,p,i,m,h,zf a o.blocks] at this ⊢;exact this
    ·simp -implicitDefEqProofs only [go_sem] at l
     simp -implicitDefEqProofs only [go_sem,ilt a,z6 a,rb,c1,l,c2,zsR]
   ·have r : ¬ zrr f.blocks[k].kind = (f.blocks[k].to.length : Int):=c1
    simp -implicitDefEqProofs only [go_sem,ilt a,z6 a,rb,c1,zsR]
theorem zlv (n : Nat) : ∀ (bs : List PBlock) (k : Nat),(zgg n k bs).isNone = bs.all (zsR n)
 | [],_ => rfl
 | b :: r,k => by
   simp only [zgg,List.all_cons];cases h : zsR n b
   ·simp
   ·simpa using zlv n r (k + 1)
theorem zhR : ∀ l : List Int,(zZ l).length ≤ l.length
 | [] => by simp [zZ]
 | [x] => by simp [zZ]
 | x :: y :: r => by
   have:=zhR (y :: r);simp only [zZ];split
   ·simp only [yc] at this ⊢; omega
   ·simp only [yc] at this ⊢; omega
theorem zq2 (l : List Int) : (zw0 l).length ≤ l.length:=by
 have:=zhR (zjb l)
 rwa [zly] at this
theorem znh {f : PFunc} (a : okF f) : zlw (zA f):=by
 refine ⟨by simpa [zA] using a.blocks,fun l c => ?_⟩;obtain ⟨b,d,rfl⟩:=yy.1 c;have:=zq2 b.to;have:=(a.block b d).to;omega
def zbA (f : PFunc) : Bool:=!decide (64 < f.blocks.length) && (f.blocks.all (zsR f.blocks.length) && zdc (zA f))
def zmg (f : PFunc) : V:=if zbA f = true then .tup [.agg [.f (.sl ((zA f).map rl)),.f (.sl ((zah (zA f)).map rl))],vI 0] else .tup [.agg [.f (.sl []),.f (.sl [])],vI 5]
@[go_sem] theorem zjX (f : PFunc) (i : okF f) : call T 98 [zbS f] [] = some (zmg f,[]):=by
  rw [zd (fn:=zeM) rfl]
  by_cases c1 : 64 < f.blocks.length
  ·have a : (64 : Int) < (f.blocks.length : Int):=by omega
   simp -implicitDefEqProofs only [go_sem,zeM,c1,a,zmg,zbA]
  have a : ¬ (64 : Int) < (f.blocks.length : Int):=by omega
  have c:=fun a0 a1 a3 a6 a7 h g => zAN f i (by omega) f.blocks.length 0 a0 a1 a3 a6 a7 h g (by omega) (by omega);have d:=zlv f.blocks.length f.blocks 0;simp only [yl,yb,yu] at c
  cases e : zgg f.blocks.length 0 f.blocks with
  | some x =>
    rw [e] at d;simp only [Option.isNone_some] at d;obtain ⟨j,b⟩:=x;simp -implicitDefEqProofs only [go_sem,e] at c;simp -implicitDefEqProofs only [go_sem,zeM,c1,a,c,zmg,zbA,← d]
  | none =>
    rw [e] at d;simp only [Option.isNone_none] at d;have hm:=zhM (zA f) (znh i);cases e2 : zdc (zA f)
    ·simp -implicitDefEqProofs only [go_sem,e,zpj,e2] at c hm
     simp -implicitDefEqProofs only [go_sem,zeM,c1,a,c,hm,zmg,zbA,← d,e2]
    ·simp -implicitDefEqProofs only [go_sem,e,zpj,e2] at c hm
     simp -implicitDefEqProofs only [go_sem,zeM,c1,a,c,hm,zmg,zbA,← d,e2]
theorem zrY {t : List Int} {a : Int} (c : ¬ a < 0) (b : ¬ (t.length : Int) ≤ a) : (t.map ri)[a.toNat]? = some [.lit (.int .i64 (tr t a))]:=by
 have : a.toNat < t.length:=by omega
 rw [z6 this];simp [tr,this,ri]
theorem zu9 (t : List Int) (e : t.length ≤ 4294967296) : ∀ (d k : Nat) (a : Int) (a2 a3 a6 a7 a8 : V),t.length - k = d → k ≤ t.length →
  exec T zfi ⟨[vIs t,vI a,a2,a3,vI t.length,vI k,a6,a7,a8],[],0,0⟩ =
   some (match zU t d k a with
    | none => (.exit 0,⟨[vU,vU,vU,vU,vU,vU,vU,vU,vU],[],0,0⟩)
    | some n => (.ret,⟨[vU,vU,vI n,vU,vU,vU,vU,vU,vU],[],0,0⟩)):=by
 intro d
 induction d with
 | zero =>
   intro k a a2 a3 a6 a7 a8 f c;have b : k = t.length:=(by omega);subst b;rw [xl zfi rfl,zhB];simp -implicitDefEqProofs only [go_sem,yg,zU]
 | succ d ih =>
   intro k a a2 a3 a6 a7 a8 f c;have b : k < t.length:=(by omega);rw [xl zfi rfl,zhB,zU]
   by_cases c1 : a < 0
   ·simp -implicitDefEqProofs only [go_sem,ilt b,c1]
   by_cases c2 : (t.length : Int) ≤ a
   ·simp -implicitDefEqProofs only [go_sem,ilt b,c1,c2]
   have c0 : 0 ≤ a:=(by omega);have c3 : a < (t.length : Int):=by omega
   by_cases c4 : tr t a = -1
   ·simp -implicitDefEqProofs only [go_sem,ilt b,c0,c1,c2,c3,zrY c1 c2,c4]
   ·have:=ih (k + 1) (tr t a) vU vU vU vU vU (by omega) (by omega)
    simp -implicitDefEqProofs only [go_sem] at this;simp -implicitDefEqProofs only [go_sem,ilt b,c0,c1,c2,c3,zrY c1 c2,c4,zf b e];rw [this];rfl
@[go_sem] theorem zii (t : List Int) (a : Int) (b : t.length ≤ 4294967296) : call T 250 [vIs t,vI a] [] = some (vI (zx t a),[]):=by
  rw [zd (fn:=zje) rfl];have h:=fun a2 a3 a6 a7 a8 => zu9 t b t.length 0 a a2 a3 a6 a7 a8 (by omega) (by omega);simp only [yb] at h;cases e : zU t t.length 0 a <;> simp -implicitDefEqProofs only [go_sem,e] at h <;> simp -implicitDefEqProofs only [go_sem,zje,h,zx,e,Option.getD_none,Option.getD_some]
theorem zuv (t : List Int) (e : t.length ≤ 4294967296) : ∀ (d k n : Nat) (a1 a3 a4 a8 a9 b : V),t.length - k = d → k ≤ t.length → n ≤ k →
  exec T zfA ⟨[vIs t,a1,vI n,a3,a4,vIs t,vI t.length,vI k,a8,a9,b],[],0,0⟩ =
   some (match zbo t k n (t.drop k) with
    | none => (.ret,⟨[vU,vB false,vU,vU,vU,vU,vU,vU,vU,vU,vU],[],0,0⟩)
    | some n => (.exit 0,⟨[vU,vU,vI n,vU,vU,vU,vU,vU,vU,vU,vU],[],0,0⟩)):=by
 intro d
 induction d with
 | zero =>
   intro k n a1 a3 a4 a8 a9 b i g h;have a : k = t.length:=(by omega);subst a;rw [xl zfA rfl,zhi];simp -implicitDefEqProofs only [go_sem,yg,yj,zbo]
 | succ d ih =>
   intro k n a1 a3 a4 a8 a9 b i g h;have a : k < t.length:=(by omega);have hd : t.drop k = t[k] :: t.drop (k + 1):=ya a;have c:=zii t k e;have f:=zf (k:=n) (n:=t.length) (by omega) e;rw [xl zfA rfl,zhi,hd,zbo];simp -implicitDefEqProofs only [go_sem] at c
   by_cases c1 : t[k] = -2
   ·have:=ih (k + 1) n vU vU vU vU vU vU (by omega) (by omega) (by omega)
    simp -implicitDefEqProofs only [go_sem] at this;simp -implicitDefEqProofs only [go_sem,ilt a,z6 a,ri,c1,zf a e];rw [this]
    all_goals rfl
   ·by_cases c2 : t[k] = -1
    ·by_cases c3 : zx t k < 0
     ·simp -implicitDefEqProofs only [go_sem,ilt a,z6 a,ri,c1,c2,c,c3,f]
     ·have:=ih (k + 1) (n + 1) vU vU vU vU vU vU (by omega) (by omega) (by omega)
      simp -implicitDefEqProofs only [go_sem] at this;simp -implicitDefEqProofs only [go_sem,ilt a,z6 a,ri,c1,c2,c,c3,f,zf a e];rw [this]
      all_goals rfl
    ·by_cases c3 : zx t k < 0
     ·simp -implicitDefEqProofs only [go_sem,ilt a,z6 a,ri,c1,c2,c,c3]
     ·have:=ih (k + 1) n vU vU vU vU vU vU (by omega) (by omega) (by omega)
      simp -implicitDefEqProofs only [go_sem] at this;simp -implicitDefEqProofs only [go_sem,ilt a,z6 a,ri,c1,c2,c,c3,zf a e];rw [this]
      all_goals rfl
@[go_sem] theorem zur (t : List Int) (d : t.length ≤ 4294967296) : call T 248 [vIs t] [] = some (vB (zfY t),[]):=by
  rw [zd (fn:=ze2) rfl];have h:=fun a1 a3 a4 a8 a9 a => zuv t d t.length 0 0 a1 a3 a4 a8 a9 a (by omega) (by omega) (by omega);simp only [yb,yl] at h
  cases e : zbo t 0 0 t with
  | none =>
    simp -implicitDefEqProofs only [go_sem,e] at h;simp -implicitDefEqProofs only [go_sem,ze2,h,zfY,e];rfl
  | some n =>
    simp -implicitDefEqProofs only [go_sem,e] at h
    by_cases c : n = 1
    ·subst c
     simp -implicitDefEqProofs only [go_sem,ze2,h,zfY,e];rfl
    ·have b : ¬ (n : Int) = 1:=by omega
     have c2 : (some n == some 1) = false:=(by simpa using c);simp -implicitDefEqProofs only [go_sem,ze2,h,zfY,e,b,c2]
theorem zp2 (t : List Int) (a : Int) (b : t.length ≤ 4294967296) (r : zb) : call T 249 [vI a,.one (.ptr 0 0 0 0)] (.cells 0 1 [[.f (eI t)]] :: r) = some (vB (decide (zx t a < 0)),.cells 0 1 [[.f (eI t)]] :: r):=by
 rw [zd (fn:=zkJ) rfl];have h:=zii t a b;simp -implicitDefEqProofs only [go_sem] at h;simp -implicitDefEqProofs only [go_sem,zkJ,h]
theorem zsu (t l : List Int) (d : t.length ≤ 4294967296) (b : l.length ≤ 4294967296) : call T 232 [vIs t,vIs l] [] = some (vB (inS t l),[]):=by
 rw [zd (fn:=zpZ) rfl];have g:=zaq l (fun a => decide (zx t a < 0)) 249 [] [.ptr 0 0 0 0] [.cells 0 1 [[.f (eI t)]]] b (fun x _ => zp2 t x d []);have e:=zur t d;simp -implicitDefEqProofs only [go_sem] at g;cases c : zfY t <;> simp -implicitDefEqProofs only [go_sem,c] at e <;> simp -implicitDefEqProofs only [go_sem,zpZ,e,c,g,inS]
theorem zlo (t : List Int) (a b : Int) (c : t.length ≤ 4294967296) : call T 232 [vIs t,vL [[ei a],[ei b]]] [] = some (vB (inS t [a,b]),[]):=zsu t [a,b] c (by simp)
theorem zyh (t : List Int) (h : t.length ≤ 4294967296) (i : zfY t = true) : ∀ (d : Nat) (a b : Int) (a3 a4 a5 a6 : V),0 ≤ zx t a → 0 ≤ zx t b → zx t a + zx t b ≤ d →
  exec T zgx ⟨[vIs t,vI a,vI b,a3,a4,a5,a6],[],0,0⟩ = some (.exit 0,⟨[vU,vI (zgA t d a b),vU,vU,vU,vU,vU],[],0,0⟩):=by
 intro d
 induction d with
 | zero =>
   intro a b a3 a4 a5 a6 g f hd;have j:=zfc g;have m:=zfc f;have e : a = b:=zrH i j m (ze9 (by omega)) (ze9 (by omega));subst e;rw [xl zgx rfl,zjm];simp -implicitDefEqProofs only [go_sem,zgA]
 | succ d ih =>
   intro a b a3 a4 a5 a6 g f hd;obtain ⟨a0,a1⟩:=zfc g;obtain ⟨b0,b1⟩:=zfc f;have ca:=zii t a h;have cb:=zii t b h;simp -implicitDefEqProofs only [go_sem] at ca cb;rw [xl zgx rfl,zjm,zgA]
   by_cases c1 : a = b
   ·subst c1
    simp -implicitDefEqProofs only [go_sem]
   by_cases c2 : zx t b ≤ zx t a
   ·have c : tr t a ≠ -1:=fun e => by
     have k:=zin a0 a1 e;exact c1 (zrH i ⟨a0,a1⟩ ⟨b0,b1⟩ e (ze9 (by omega)))
    have l:=zc6 g c;have:=ih (tr t a) b vU vU vU vU (by omega) f (by omega);simp -implicitDefEqProofs only [go_sem] at this;simp -implicitDefEqProofs only [go_sem,c1,c2,ca,cb,a0,zrY (t:=t) (a:=a) (by omega) (by omega),this]
   ·have c : tr t b ≠ -1:=fun e => by
     have k:=zin b0 b1 e;omega
    have l:=zc6 f c;have:=ih a (tr t b) vU vU vU vU g (by omega) (by omega);simp -implicitDefEqProofs only [go_sem] at this;simp -implicitDefEqProofs only [go_sem,c1,c2,ca,cb,b0,zrY (t:=t) (a:=b) (by omega) (by omega),this]
@[go_sem] theorem zw3 (t : List Int) (a b : Int) (e : t.length ≤ 4294967296) : call T 233 [vIs t,vI a,vI b] [] = some (vI (zuH t a b),[]):=by
  rw [zd (fn:=zig) rfl];have d:=zlo t a b e;cases c : inS t [a,b]
  ·simp -implicitDefEqProofs only [go_sem,c] at d
   simp -implicitDefEqProofs only [go_sem,zig,d,c,zuH]
  ·obtain ⟨i,f,g⟩:=zAF c
   have h:=fun a3 a4 a5 a6 => zyh t e i (zx t a + zx t b).toNat a b a3 a4 a5 a6 f g (by omega);simp -implicitDefEqProofs only [go_sem,c] at d h;simp -implicitDefEqProofs only [go_sem,zig,d,c,zuH,h]
@[go_sem] theorem zmN (t : List Int) (a b : Int) (e : t.length ≤ 4294967296) : call T 196 [vIs t,vI a,vI b] [] = some (vB (ziA t a b),[]):=by
  rw [zd (fn:=zkS) rfl];have d:=zlo t a b e;have hm:=zw3 t a b e;simp -implicitDefEqProofs only [go_sem] at hm;cases c : inS t [a,b] <;> simp -implicitDefEqProofs only [go_sem,c] at d <;> simp -implicitDefEqProofs only [go_sem,zkS,d,hm,c,ziA]
mutual
theorem ztG {n m : Nat} (h : n ≤ m) : ∀ c : C,c.lt n = true → c.lt m = true
 | .f _,_ => rfl
 | .ap t _ _,e => by simp only [C.lt,decide_eq_true_eq] at e ⊢; omega
 | .ptr id _ _ _,e => by simp only [C.lt,decide_eq_true_eq] at e ⊢; omega
 | .fp _ _,_ => rfl
 | .own id _ _ _,e => by simp only [C.lt,decide_eq_true_eq] at e ⊢; omega
 | .map id,e => by simp only [C.lt,decide_eq_true_eq] at e ⊢; omega
 | .fn _ a b,e => by
   simp only [C.lt,yd] at e ⊢;exact ⟨zcW h a e.1,zcW h b e.2⟩
 | .un,_ => rfl
theorem zcW {n m : Nat} (h : n ≤ m) : ∀ cs : List C,C.lts n cs = true → C.lts m cs = true
 | [],_ => by simp only [C.lts]
 | c :: cs,e => by
   simp only [C.lts,yd] at e ⊢;exact ⟨ztG h c e.1,zcW h cs e.2⟩
end
mutual
theorem ztX {n m : Nat} (h : n ≤ m) : ∀ v : V,v.lt n = true → v.lt m = true
 | .one c,e => by simp only [V.lt] at e ⊢; exact ztG h c e
 | .agg cs,e => by simp only [V.lt] at e ⊢; exact zcW h cs e
 | .tup vs,e => by simp only [V.lt] at e ⊢; exact zqo h vs e
theorem zqo {n m : Nat} (h : n ≤ m) : ∀ vs : List V,V.lts n vs = true → V.lts m vs = true
 | [],_ => by simp only [V.lts]
 | v :: vs,e => by
   simp only [V.lts,yd] at e ⊢;exact ⟨ztX h v e.1,zqo h vs e.2⟩
end
theorem zoG {n m : Nat} (h : n ≤ m) : ∀ es : List (List C),C.ltss n es = true → C.ltss m es = true
 | [],_ => by simp only [C.ltss]
 | c :: cs,e => by
   simp only [C.ltss,yd] at e ⊢;exact ⟨zcW h c e.1,zoG h cs e.2⟩
theorem zqT {n m : Nat} (h : n ≤ m) : ∀ es : List (Int × V),C.ltm n es = true → C.ltm m es = true
 | [],_ => by simp only [C.ltm]
 | c :: cs,e => by
   simp only [C.ltm,yd] at e ⊢;exact ⟨ztX h c.2 e.1,zqT h cs e.2⟩
theorem zyM {n m : Nat} (h : n ≤ m) : ∀ o : Ob,o.lt n = true → o.lt m = true
 | .cells _ _ es,e => by simp only [Ob.lt] at e ⊢; exact zoG h es e
 | .tok _ _,_ => rfl
 | .mp es,e => by simp only [Ob.lt] at e ⊢; exact zqT h es e
theorem zm3 {n m : Nat} (h : n ≤ m) : ∀ os : List Ob,Obs.lt n os = true → Obs.lt m os = true
 | [],_ => by simp only [Obs.lt]
 | o :: os,e => by
   simp only [Obs.lt,yd] at e ⊢;exact ⟨zyM h o e.1,zm3 h os e.2⟩
theorem zcR {σ : zb} {k : Nat} {o : Ob} (h : σ[k]? = some o) (r : zb) : (σ ++ r)[k]? = some o:=by
 have : k < σ.length:=(ye.1 h).1;rw [List.getElem?_append_left this,h]
theorem zex {σ : zb} {k : Nat} {o : Ob} (h : σ[k]? = some o) (j : Nat) : (k < σ.length + j) = True:=by
 have : k < σ.length:=(ye.1 h).1;simp; omega
theorem zdT {σ : zb} {k : Nat} {o : Ob} (h : σ[k]? = some o) : (k < σ.length) = True:=by
 have : k < σ.length:=(ye.1 h).1;simp; omega
theorem zDg (n : Nat) : (n < n + 1) = True:=by simp
theorem zDd (n : Nat) : (n < n + 2) = True:=by simp
theorem zC0 (n : Nat) : (n < n + 3) = True:=by simp
theorem zDC (n : Nat) : (n < n + 4) = True:=by simp
theorem zDF (n : Nat) : (n + 1 < n + 2) = True:=by simp
theorem zCV (n : Nat) : (n + 1 < n + 3) = True:=by simp
theorem zC5 (n : Nat) : (n + 2 < n + 3) = True:=by simp
theorem zDz (n : Nat) : (n + 3 < n + 4) = True:=by simp
theorem zC1 (n : Nat) : (n + 2 < n + 4) = True:=by simp
theorem zDy (n : Nat) : (n + 1 < n + 4) = True:=by simp
theorem zDh (n k : Nat) : (n + k ≤ n + k) = True:=by simp
theorem zDu (n : Nat) : (n + 2 ≤ n + 1) = False:=by simp
theorem zDe (n : Nat) : (n + 3 ≤ n + 1) = False:=by simp
theorem zC4 (n : Nat) : (n + 3 ≤ n + 2) = False:=by simp
theorem zDs (n : Nat) : (n + 4 ≤ n + 1) = False:=by simp
theorem zC3 (n : Nat) : (n + 4 ≤ n + 2) = False:=by simp
theorem zDv (n : Nat) : (n + 4 ≤ n + 3) = False:=by simp
attribute [go_sem] zDg zDd zC0 zDC zDF zCV zC5 zDz zC1 zDy zDh zDu zDe zC4 zDs zC3 zDv
def Ok (σ : zb) : Prop:=Obs.lt σ.length σ = true
theorem Ok.up {σ : zb} (h : Ok σ) (k : Nat) : Obs.lt (σ.length + k) σ = true:=zm3 (Nat.le_add_right _ _) _ h
theorem Ok.at {σ : zb} (h : Ok σ) : Obs.lt σ.length σ = true:=h
theorem Ok.app {σ r : zb} (h : Ok σ) (a : Obs.lt (σ.length + r.length) r = true) : Ok (σ ++ r):=by
 unfold Ok;rw [yq,zk7,Ok.up h,a];rfl
end AC
