/- A part of the proof of SchedTells. Conditions: none. -/
import Derived.Test.YtmkncmffaaninaaGreatTBJ
import Derived.Test.YtmkncmffaaninaaGreatTAR
import Derived.Test.YtmkncmffaaninaaGreatTAW
set_option linter.all false
open List renaming getElem?_eq_getElem → ya,getElem?_map → yb,getD_eq_getElem?_getD → yc,getElem_mem → yd,drop_eq_getElem_cons → yf,getElem?_cons_zero → yg,mem_cons_of_mem → yh,mem_of_getElem? → yk,length_map → yn,mem_append → yo,mem_cons → yp,mem_cons_self → yr,drop_zero → ys,map_nil → yt,length_cons → yu,map_cons → yz
open Int renaming toNat_natCast → ye,natCast_nonneg → yi,lt_irrefl → yj,reduceAdd → yl,natCast_zero → yw
open Option renaming bind_some → ym
open Bool renaming false_ne_true → yq,false_and → yx,true_and → yy
open Nat renaming le_trans → yv,le_refl → yA
namespace AC
open Go Go.A Go.A.Lex
theorem zkD (ops : List POp) (a : Nat) : (zdV ops a).length ≤ a:=by
 unfold zdV;rw [yn];exact yv (List.length_filter_le _ _) (by simp)
theorem zp5 {b : PBlock} (h1 : OneDef b.ops) (e : b.ops.length ≤ 1000) : ∀ l ∈ zdv b,l.length ≤ 1000:=fun l c => by
 rw [zjW h1] at c;obtain ⟨a,d,rfl⟩:=List.mem_map.1 c;have:=zkD b.ops a;have:=List.mem_range.1 d;omega
theorem zht (b : PBlock) : (zdv b).length = b.ops.length:=by unfold zdv; exact zhe _ _ _ _
section
variable (b : PBlock) (hb : okB b) (h1 : OneDef b.ops) (hs : ∀ o ∈ b.ops,o.args.length ≤ 64) (hn2 : b.ops.length ≤ 1000)
include hb h1 hs hn2
theorem zym (order : List Int) (f : order.length ≤ 4294967296) : call T 65 [znI b,vIs order] [] = some (vB (zrB b order),[]):=by
 rw [ze (fn:=zgo) rfl];have a:=zlj b hb hs b.ops.length rfl hn2;simp -implicitDefEqProofs only [go_sem] at a;unfold zrB
 by_cases c : order.length = b.ops.length
 ·have d : (order.length : Int) = (b.ops.length : Int):=by omega
  obtain ⟨i,h⟩:=zAK b b.ops.length rfl hn2 (zdv b) (zht b) (fun l g => yv (zp5 h1 hn2 l g) (by omega)) order c b.ops.length 0 [] [] (by omega) (by omega) zm7.nil;rw [ys] at h;rw [decide_eq_true c,yy]
  cases e : zgL (zdv b) b.ops.length [] order with
  | true =>
    simp -implicitDefEqProofs only [go_sem,e,ziS,yt] at h;simp -implicitDefEqProofs only [go_sem,zgo,c,a,h]
  | false =>
    rw [e] at h;simp -implicitDefEqProofs only [go_sem,ziS,yt,if_neg yq] at h;simp -implicitDefEqProofs only [go_sem,zgo,c,a,h]
 ·have d : ¬ (order.length : Int) = (b.ops.length : Int):=by omega
  rw [decide_eq_false c,yx];simp -implicitDefEqProofs only [go_sem,zgo,c,d]
end
def ziY (f : PFunc) (k : Int) (order : List Int) : Bool:=zaY f k && (match f.blocks[k.toNat]? with | some b => zrB b order | none => false)
def zj6 (f : PFunc) (k at' : Int) : List Int:=if zaY f k = true ∧ 0 ≤ at' then (match f.blocks[k.toNat]? with | some b => (zdv b).getD at'.toNat [] | none => []) else []
theorem zwX {f : PFunc} (a : okF f) {k : Nat} {b : PBlock} (hb : f.blocks[k]? = some b) : okB b:=a.block b (yk hb)
theorem zj8 (f : PFunc) (g : okF f) (k : Int) (order : List Int) (c : order.length ≤ 4294967296) : call T 20 [zd4 f,vI k,vIs order] [] = some (vB (ziY f k order),[]):=by
 rw [ze (fn:=zhp) rfl];have a:=zfO f g k;unfold ziY
 cases e : zaY f k with
 | false =>
   rw [e] at a;simp -implicitDefEqProofs only [go_sem] at a;rw [yx];simp -implicitDefEqProofs only [go_sem,zhp,a]
 | true =>
   obtain ⟨i,j,d⟩:=zat.1 e;have b : k.toNat < f.blocks.length:=(by omega);have hb : f.blocks[k.toNat]? = some f.blocks[k.toNat]:=ya b;have hm:=yd b;have h:=zym f.blocks[k.toNat] (g.block _ hm) (d.oneDef hm) (d.size hm).2 (d.size hm).1 order c;rw [e] at a;rw [hb,yy];simp -implicitDefEqProofs only [go_sem] at a h;simp -implicitDefEqProofs only [go_sem,zhp,a,i,zj b,rb,yb,hb,h]
theorem zpi (f : PFunc) (g : okF f) (k at' : Int) : call T 23 [zd4 f,vI k,vI at'] [] = some (vIs (zj6 f k at'),[]):=by
 rw [ze (fn:=zfh) rfl];have a:=zfO f g k
 cases e : zaY f k with
 | false =>
   have eF : zj6 f k at' = []:=(by unfold zj6; rw [e,if_neg (fun h => yq h.1)]);rw [e] at a;simp -implicitDefEqProofs only [go_sem] at a;simp -implicitDefEqProofs only [go_sem,zfh,a,eF]
 | true =>
   obtain ⟨j,l,i⟩:=zat.1 e;have b : k.toNat < f.blocks.length:=(by omega);have hb : f.blocks[k.toNat]? = some f.blocks[k.toNat]:=ya b;have hm:=yd b;have d:=zlj f.blocks[k.toNat] (g.block _ hm) (i.size hm).2 _ rfl (i.size hm).1;have hlen:=zht f.blocks[k.toNat];rw [e] at a;simp -implicitDefEqProofs only [go_sem] at a d
   by_cases c : at' < 0
   ·have eF : zj6 f k at' = []:=by unfold zj6; rw [if_neg (fun h => by omega)]
    simp -implicitDefEqProofs only [go_sem,zfh,a,c,eF]
   ·have c1 : 0 ≤ at':=by omega
    have eF : zj6 f k at' = (zdv f.blocks[k.toNat]).getD at'.toNat []:=by unfold zj6; rw [if_pos ⟨e,c1⟩,hb]
    by_cases c2 : (f.blocks[k.toNat].ops.length : Int) ≤ at'
    ·have e0 : (zdv f.blocks[k.toNat]).getD at'.toNat [] = []:=by rw [yc,List.getElem?_eq_none (by omega)]; rfl
     simp -implicitDefEqProofs only [go_sem,zfh,a,c,c2,j,zj b,rb,yb,hb,eF,e0]
    ·have e0 : (zdv f.blocks[k.toNat])[at'.toNat]? = some ((zdv f.blocks[k.toNat]).getD at'.toNat []):=by rw [yc,ya (by omega)]; rfl
     simp -implicitDefEqProofs only [go_sem,zfh,a,c,c1,c2,j,zj b,rb,rl,yb,hb,d,eF,e0]
end AC
namespace AC
open Go Go.A
theorem zp9 (i : Int) (u : Use) : ∀ (l : List POp) (k : Nat),u ∈ zo i k l ↔ ∃ j o,l[j]? = some o ∧ u ∈ zkl o i ((k + j : Nat) : Int)
 | [],k => by simp [zo]
 | o :: l,k => by
   rw [zo,yo,zp9 i u l (k + 1)];constructor
   ·rintro (h | ⟨j,x,a,b⟩)
    ·exact ⟨0,o,rfl,h⟩
    ·exact ⟨j + 1,x,by simpa using a,by rwa [show k + (j + 1) = k + 1 + j by omega]⟩
   ·rintro ⟨j,x,a,b⟩
    cases j with
    | zero =>
      simp only [yg,Option.some.injEq] at a;subst a;exact .inl b
    | succ j => exact .inr ⟨j,x,by simpa using a,by rwa [show k + 1 + j = k + (j + 1) by omega]⟩
theorem zoI (f : PFunc) (u : Use) : ∀ (l : List PBlock) (k : Nat),u ∈ zas f k l ↔ ∃ j b,l[j]? = some b ∧ u ∈ zgT f ((k + j : Nat) : Int) b
 | [],k => by simp [zas]
 | b :: l,k => by
   rw [zas,yo,zoI f u l (k + 1)];constructor
   ·rintro (h | ⟨j,x,a,c⟩)
    ·exact ⟨0,b,rfl,h⟩
    ·exact ⟨j + 1,x,by simpa using a,by rwa [show k + (j + 1) = k + 1 + j by omega]⟩
   ·rintro ⟨j,x,a,c⟩
    cases j with
    | zero =>
      simp only [yg,Option.some.injEq] at a;subst a;exact .inl c
    | succ j => exact .inr ⟨j,x,by simpa using a,by rwa [show k + 1 + j = k + (j + 1) by omega]⟩
theorem zr8 (i : Int) (d : Use) : ∀ (l : List POp) (k : Nat),d ∈ zby i k l ↔ ∃ j o,l[j]? = some o ∧ 0 < (zT o).1 ∧ d = ⟨o.dst,zT o,i,((k + j : Nat) : Int)⟩
 | [],k => by simp [zby]
 | o :: l,k => by
   have f:=zr8 i d l (k + 1);rw [zby];constructor
   ·intro h
    have key : d ∈ zby i (k + 1) l → ∃ j x,(o :: l)[j]? = some x ∧ 0 < (zT x).1 ∧ d = ⟨x.dst,zT x,i,((k + j : Nat) : Int)⟩:=fun h => by
     obtain ⟨j,x,a,b,e⟩:=f.1 h;exact ⟨j + 1,x,by simpa using a,b,by rw [e,show k + (j + 1) = k + 1 + j by omega]⟩
    split at h
    ·rename_i c
     rcases yp.1 h with h | h
     ·exact ⟨0,o,rfl,c,h⟩
     ·exact key h
    ·exact key h
   ·rintro ⟨j,x,a,b,e⟩
    cases j with
    | zero =>
      simp only [yg,Option.some.injEq] at a;subst a;rw [if_pos b];exact yp.2 (.inl e)
    | succ j =>
      have:=f.2 ⟨j,x,by simpa using a,b,by rw [e,show k + (j + 1) = k + 1 + j by omega]⟩;split
      ·exact yh _ this
      ·exact this
theorem zlU (d : Use) : ∀ (l : List PBlock) (k : Nat),d ∈ zL k l ↔ ∃ j b,l[j]? = some b ∧ (d ∈ zc0 ((k + j : Nat) : Int) b.phis ∨ d ∈ zby ((k + j : Nat) : Int) 0 b.ops)
 | [],k => by simp [zL]
 | b :: l,k => by
   rw [zL,yo,yo,zlU d l (k + 1)];constructor
   ·rintro (h | h | ⟨j,x,c,a⟩)
    ·exact ⟨0,b,rfl,.inl h⟩
    ·exact ⟨0,b,rfl,.inr h⟩
    ·exact ⟨j + 1,x,by simpa using c,by rwa [show k + (j + 1) = k + 1 + j by omega]⟩
   ·rintro ⟨j,x,c,a⟩
    cases j with
    | zero =>
      simp only [yg,Option.some.injEq] at c;subst c;rcases a with a | a
      ·exact .inl a
      ·exact .inr (.inl a)
    | succ j => exact .inr (.inr ⟨j,x,by simpa using c,by rwa [show k + 1 + j = k + (j + 1) by omega]⟩)
def zg8 (ops : List POp) (order : List Int) : List POp:=order.map fun a => ops.getD a.toNat op0
def zoD (b : PBlock) (order : List Int) : PBlock:=⟨b.phis,zg8 b.ops order,b.kind,b.arg,b.to⟩
def zzc (f : PFunc) (k : Nat) (order : List Int) : PFunc:=match f.blocks[k]? with
 | some b => ⟨f.params,f.ret,f.blocks.set k (zoD b order)⟩
 | none => f
theorem zuL (ops : List POp) (order : List Int) : (zg8 ops order).length = order.length:=by simp [zg8]
theorem zsS (ops : List POp) : zg8 ops (ints ops.length) = ops:=by
 refine List.ext_getElem (by simp [zg8,ints]) fun i b a => ?_;simp only [zg8,ints,List.getElem_map,List.getElem_range]
 show ops.getD ((i : Int)).toNat op0 = _
 rw [ye,yc,ya a]; rfl
theorem zy9 {ops : List POp} {order : List Int} (h : LegalP ops order) : (zg8 ops order).Perm ops:=by
 have:=h.perm.map fun a => ops.getD a.toNat op0;exact this.trans (by rw [show (ints ops.length).map (fun a : Int => ops.getD a.toNat op0) = zg8 ops (ints ops.length) from rfl,zsS])
section
variable {f : PFunc} {k : Nat} {b : PBlock} (hb : f.blocks[k]? = some b) (order : List Int)
include hb
theorem zpP : zzc f k order = ⟨f.params,f.ret,f.blocks.set k (zoD b order)⟩:=by unfold zzc; rw [hb]
theorem zzN (j : Nat) : (zzc f k order).blocks[j]? = if j = k then some (zoD b order) else f.blocks[j]?:=by
 rw [zpP hb];have a:=(List.getElem?_eq_some_iff.1 hb).1
 by_cases c : j = k
 ·subst c; rw [if_pos rfl]; exact List.getElem?_set_self a
 ·rw [if_neg c]; exact List.getElem?_set_ne (fun h => c h.symm)
theorem zDA : (zzc f k order).blocks.length = f.blocks.length:=by rw [zpP hb]; exact List.length_set
theorem zDc {α : Type} (g : PBlock → α) (a : g (zoD b order) = g b) : (zzc f k order).blocks.map g = f.blocks.map g:=by
 refine List.ext_getElem? fun j => ?_;rw [yb,yb,zzN hb]
 by_cases c : j = k
 ·subst c; rw [if_pos rfl,hb]; exact congrArg some a
 ·rw [if_neg c]
end
def LB : Nat:=140737488351232
structure anyB (b : PBlock) : Prop where
 phis : b.phis.length ≤ LB
 ops : b.ops.length ≤ LB
 phi : ∀ p ∈ b.phis,p.src.length ≤ LB ∧ p.args.length ≤ LB
 op : ∀ o ∈ b.ops,(0 ≤ o.imm ∧ o.imm < 18446744073709551616) ∧ o.args.length ≤ LB
 to : b.to.length ≤ LB
structure anyF (f : PFunc) : Prop where
 params : f.params.length ≤ LB
 blocks : f.blocks.length ≤ LB
 block : ∀ b ∈ f.blocks,anyB b
theorem zv1 {n : Nat} (h : n ≤ 9223372036854775807) : Go.IntKind.i64.wrap (n : Int) = (n : Int):=wrap_i64 (by omega) (by omega)
theorem zlx {k n : Nat} (h : k < n) (a : n ≤ LB) : Go.IntKind.i64.wrap ((k : Int) + 1) = ((k + 1 : Nat) : Int):=by
 unfold LB at a;rw [wrap_i64] <;> omega
end AC
namespace AC
open Go Go.A Go.A.Lex
def zxz : Nat → List PPhi → Nat
 | n,[] => n
 | n,p :: r => if n ≤ 20000 then zxz (n + 1 + p.src.length + p.args.length) r else n
def zzi : Nat → List POp → Nat
 | n,[] => n
 | n,o :: r => if n ≤ 20000 then zzi (n + 1 + o.args.length) r else n
def zzf : Nat → List PBlock → Nat
 | n,[] => n
 | n,b :: r => if n ≤ 20000 then zzf (zzi (zxz (n + 1 + b.to.length) b.phis) b.ops) r else n
def zrT (f : PFunc) : Bool:=decide (zzf f.params.length f.blocks ≤ 20000)
theorem zBn (b : LB = 140737488351232) : ∀ (l : List PPhi) (n : Nat),(∀ p ∈ l,p.src.length ≤ LB ∧ p.args.length ≤ LB) → n ≤ 500000000000000 → zxz n l ≤ 500000000000000
 | [],n,_,h => h
 | p :: l,n,hp,h => by
   have:=hp p yr;rw [zxz];split
   ·exact zBn b l _ (fun q a => hp q (yh _ a)) (by omega)
   ·exact h
theorem zBs (b : LB = 140737488351232) : ∀ (l : List POp) (n : Nat),(∀ p ∈ l,p.args.length ≤ LB) → n ≤ 500000000000000 → zzi n l ≤ 500000000000000
 | [],n,_,h => h
 | p :: l,n,hp,h => by
   have:=hp p yr;rw [zzi];split
   ·exact zBs b l _ (fun q a => hp q (yh _ a)) (by omega)
   ·exact h
section
variable (f : PFunc) (hf : anyF f)
include hf
theorem zHp (i : Nat) (b : i < f.blocks.length) : ∀ (d k n : Nat) (a0 a2 a6 a7 a8 a9 : V),f.blocks[i].phis.length - k = d → k ≤ f.blocks[i].phis.length → n ≤ 1000000000000000 →
  exec T zbS ⟨[a0,.one (.ptr 0 0 0 0),a2,vI (n : Int),vI i,vI k,a6,a7,a8,a9],[.cells 0 3 [z6 f]],0,0⟩ =
   some (.exit 2,⟨[vU,.one (.ptr 0 0 0 0),vU,vI (zxz n (f.blocks[i].phis.drop k) : Nat),vI i,vU,vU,vU,vU,vU],[.cells 0 3 [z6 f]],0,0⟩):=by
 have j:=hf.block _ (yd b);intro d
 induction d with
 | zero =>
   intro k n a0 a2 a6 a7 a8 a9 l q o;have a : k = f.blocks[i].phis.length:=(by omega);subst a;have e : f.blocks[i].phis.drop f.blocks[i].phis.length = []:=(by simp);rw [xl zbS rfl,zea,e,zxz];simp -implicitDefEqProofs only [go_sem,zj b,rb,yj]
 | succ d ih =>
   intro k n a0 a2 a6 a7 a8 a9 l q o;have a : k < f.blocks[i].phis.length:=(by omega);have g : f.blocks[i].phis.drop k = f.blocks[i].phis[k] :: f.blocks[i].phis.drop (k + 1):=yf a;have t:=j.phi _ (yd a);have s : LB = 140737488351232:=rfl;rw [xl zbS rfl,zea,g,zxz]
   by_cases c : n ≤ 20000
   ·have h : ((n : Nat) : Int) ≤ 20000:=by omega
    have m : Go.IntKind.i64.wrap ((n : Int) + 1) = ((n + 1 : Nat) : Int):=zv1 (n:=n + 1) (by omega);have r : Go.IntKind.i64.wrap (((n + 1 : Nat) : Int) + (f.blocks[i].phis[k].src.length : Int)) = ((n + 1 + f.blocks[i].phis[k].src.length : Nat) : Int):=zv1 (n:=n + 1 + f.blocks[i].phis[k].src.length) (by omega);have p : Go.IntKind.i64.wrap (((n + 1 + f.blocks[i].phis[k].src.length : Nat) : Int) + (f.blocks[i].phis[k].args.length : Int)) = ((n + 1 + f.blocks[i].phis[k].src.length + f.blocks[i].phis[k].args.length : Nat) : Int):=zv1 (n:=n + 1 + f.blocks[i].phis[k].src.length + f.blocks[i].phis[k].args.length) (by omega);have:=ih (k + 1) (n + 1 + f.blocks[i].phis[k].src.length + f.blocks[i].phis[k].args.length) vU vU vU vU vU vU (by omega) (by omega) (by omega);rw [if_pos c];simp -implicitDefEqProofs only [go_sem] at this;simp -implicitDefEqProofs only [go_sem,ilt a,zj b,zj a,rb,rp,h,m,r,p,zlx a j.phis,this]
   ·have h : ¬ ((n : Nat) : Int) ≤ 20000:=by omega
    rw [if_neg c];simp -implicitDefEqProofs only [go_sem,ilt a,zj b,rb,h]
theorem zHG (i : Nat) (b : i < f.blocks.length) : ∀ (d k n : Nat) (a0 a2 a5 a7 a8 a9 : V),f.blocks[i].ops.length - k = d → k ≤ f.blocks[i].ops.length → n ≤ 1000000000000000 →
  exec T zb8 ⟨[a0,.one (.ptr 0 0 0 0),a2,vI (n : Int),vI i,a5,vI k,a7,a8,a9],[.cells 0 3 [z6 f]],0,0⟩ =
   some (.exit 4,⟨[vU,.one (.ptr 0 0 0 0),vU,vI (zzi n (f.blocks[i].ops.drop k) : Nat),vI i,vU,vU,vU,vU,vU],[.cells 0 3 [z6 f]],0,0⟩):=by
 have j:=hf.block _ (yd b);intro d
 induction d with
 | zero =>
   intro k n a0 a2 a5 a7 a8 a9 l p o;have a : k = f.blocks[i].ops.length:=(by omega);subst a;have e : f.blocks[i].ops.drop f.blocks[i].ops.length = []:=(by simp);rw [xl zb8 rfl,zec,e,zzi];simp -implicitDefEqProofs only [go_sem,zj b,rb,yj]
 | succ d ih =>
   intro k n a0 a2 a5 a7 a8 a9 l p o;have a : k < f.blocks[i].ops.length:=(by omega);have g : f.blocks[i].ops.drop k = f.blocks[i].ops[k] :: f.blocks[i].ops.drop (k + 1):=yf a;have s:=j.op _ (yd a);have r : LB = 140737488351232:=rfl;rw [xl zb8 rfl,zec,g,zzi]
   by_cases c : n ≤ 20000
   ·have h : ((n : Nat) : Int) ≤ 20000:=by omega
    have m : Go.IntKind.i64.wrap ((n : Int) + 1) = ((n + 1 : Nat) : Int):=zv1 (n:=n + 1) (by omega);have q : Go.IntKind.i64.wrap (((n + 1 : Nat) : Int) + (f.blocks[i].ops[k].args.length : Int)) = ((n + 1 + f.blocks[i].ops[k].args.length : Nat) : Int):=zv1 (n:=n + 1 + f.blocks[i].ops[k].args.length) (by omega);have:=ih (k + 1) (n + 1 + f.blocks[i].ops[k].args.length) vU vU vU vU vU vU (by omega) (by omega) (by omega);rw [if_pos c];simp -implicitDefEqProofs only [go_sem] at this;simp -implicitDefEqProofs only [go_sem,ilt a,zj b,zj a,rb,ro,h,m,q,zlx a j.ops,this]
   ·have h : ¬ ((n : Nat) : Int) ≤ 20000:=by omega
    rw [if_neg c];simp -implicitDefEqProofs only [go_sem,ilt a,zj b,rb,h]
theorem zHP : ∀ (d k n : Nat) (a0 a2 a5 a6 a7 a8 a9 : V),f.blocks.length - k = d → k ≤ f.blocks.length → n ≤ 500000000000000 →
  exec T zbU ⟨[a0,.one (.ptr 0 0 0 0),a2,vI (n : Int),vI k,a5,a6,a7,a8,a9],[.cells 0 3 [z6 f]],0,0⟩ =
   some (.exit 0,⟨[vU,vU,vU,vI (zzf n (f.blocks.drop k) : Nat),vU,vU,vU,vU,vU,vU],[.cells 0 3 [z6 f]],0,0⟩):=by
 have i : LB = 140737488351232:=rfl;intro d
 induction d with
 | zero =>
   intro k n a0 a2 a5 a6 a7 a8 a9 l r p;have a : k = f.blocks.length:=(by omega);subst a;have e : f.blocks.drop f.blocks.length = []:=(by simp);rw [xl zbU rfl,zen,e,zzf];simp -implicitDefEqProofs only [go_sem,yj]
 | succ d ih =>
   intro k n a0 a2 a5 a6 a7 a8 a9 l r p;have a : k < f.blocks.length:=(by omega);have g : f.blocks.drop k = f.blocks[k] :: f.blocks.drop (k + 1):=yf a;have b:=hf.block _ (yd a);have q:=b.to;rw [xl zbU rfl,zen,g,zzf]
   by_cases c : n ≤ 20000
   ·have h : ((n : Nat) : Int) ≤ 20000:=by omega
    have m : Go.IntKind.i64.wrap ((n : Int) + 1) = ((n + 1 : Nat) : Int):=zv1 (n:=n + 1) (by omega);have s : Go.IntKind.i64.wrap (((n + 1 : Nat) : Int) + (f.blocks[k].to.length : Int)) = ((n + 1 + f.blocks[k].to.length : Nat) : Int):=zv1 (n:=n + 1 + f.blocks[k].to.length) (by omega);have b1:=zBn i f.blocks[k].phis (n + 1 + f.blocks[k].to.length) b.phi (by omega);have b2:=zBs i f.blocks[k].ops _ (fun o j => (b.op o j).2) b1;have p1:=fun a0 a2 a6 a7 a8 a9 => zHp f hf k a f.blocks[k].phis.length 0 (n + 1 + f.blocks[k].to.length) a0 a2 a6 a7 a8 a9 (by omega) (by omega) (by omega);have p2:=fun a0 a2 a5 a7 a8 a9 => zHG f hf k a f.blocks[k].ops.length 0 (zxz (n + 1 + f.blocks[k].to.length) f.blocks[k].phis) a0 a2 a5 a7 a8 a9 (by omega) (by omega) (by omega);have:=ih (k + 1) (zzi (zxz (n + 1 + f.blocks[k].to.length) f.blocks[k].phis) f.blocks[k].ops) vU vU vU vU vU vU vU (by omega) (by omega) b2;rw [if_pos c];rw [ys] at p1 p2;simp -implicitDefEqProofs only [go_sem] at this p1 p2;simp -implicitDefEqProofs only [go_sem,ilt a,zj a,rb,h,m,s,p1,p2,zlx a hf.blocks,this]
   ·have h : ¬ ((n : Nat) : Int) ≤ 20000:=by omega
    rw [if_neg c];simp -implicitDefEqProofs only [go_sem,ilt a,h]
theorem zsY : call T 61 [zd4 f] [] = some (vB (zrT f),[]):=by
 have d : LB = 140737488351232:=rfl;have b:=hf.params;rw [ze (fn:=zcj) rfl];have h:=fun a0 a2 a5 a6 a7 a8 a9 => zHP f hf f.blocks.length 0 f.params.length a0 a2 a5 a6 a7 a8 a9 (by omega) (by omega) (by omega);rw [ys] at h;simp -implicitDefEqProofs only [go_sem] at h;unfold zrT
 by_cases c : zzf f.params.length f.blocks ≤ 20000
 ·have a : ((zzf f.params.length f.blocks : Nat) : Int) ≤ 20000:=by omega
  simp -implicitDefEqProofs only [go_sem,zcj,h,c,a]
 ·have a : ¬ ((zzf f.params.length f.blocks : Nat) : Int) ≤ 20000:=by omega
  simp -implicitDefEqProofs only [go_sem,zcj,h,c,a]
theorem zGx : ∀ (d k : Nat) (n : Int),f.blocks.length - k = d → k ≤ f.blocks.length →
  ∃ m : Int,∀ (a0 a2 a5 : V),exec T zbZ ⟨[a0,.one (.ptr 0 0 0 0),a2,vI n,vI k,a5],[.cells 0 3 [z6 f]],0,0⟩ =
    some (.exit 0,⟨[vU,.one (.ptr 0 0 0 0),vU,vI m,vU,vU],[.cells 0 3 [z6 f]],0,0⟩):=by
 have e : LB = 140737488351232:=rfl;intro d
 induction d with
 | zero =>
   intro k n c b;have a : k = f.blocks.length:=(by omega);subst a;refine ⟨n,fun a0 a2 a5 => ?_⟩;rw [xl zbZ rfl,zeo];simp -implicitDefEqProofs only [go_sem,yj]
 | succ d ih =>
   intro k n c b;have a : k < f.blocks.length:=(by omega);obtain ⟨m,hm⟩:=ih (k + 1) (Go.IntKind.i64.wrap (Go.IntKind.i64.wrap (Go.IntKind.i64.wrap (n + 1) + (f.blocks[k].ops.length : Int)) + (f.blocks[k].phis.length : Int))) (by omega) (by omega);refine ⟨m,fun a0 a2 a5 => ?_⟩;have:=hm vU vU vU;rw [xl zbZ rfl,zeo];simp -implicitDefEqProofs only [go_sem] at this;simp -implicitDefEqProofs only [go_sem,ilt a,zj a,rb,zlx a hf.blocks,this]
theorem ztQ : ∃ b : Bool,call T 16 [zd4 f] [] = some (vB b,[]) ∧ (b = true → zrT f = true):=by
 obtain ⟨m,hm⟩:=zGx f hf f.blocks.length 0 0 (by omega) (by omega);have a:=zsY f hf;rw [ze (fn:=zC) rfl];simp -implicitDefEqProofs only [go_sem] at hm a;cases c : zrT f
 ·refine ⟨false,?_,fun h => by cases h⟩
  rw [c] at a;simp -implicitDefEqProofs only [go_sem,zC,hm,a]
 ·rw [c] at a
  by_cases c1 : (f.blocks.length : Int) ≤ 16
  ·have d : ¬ (64 : Int) < (f.blocks.length : Int):=by omega
   by_cases c3 : m ≤ 100
   ·refine ⟨true,?_,fun _ => rfl⟩
    simp -implicitDefEqProofs only [go_sem,zC,hm,a,c1,c3]
   ·by_cases c4 : 512 < m
    ·refine ⟨true,?_,fun _ => rfl⟩
     simp -implicitDefEqProofs only [go_sem,zC,hm,a,c1,d,c3,c4]
    ·refine ⟨false,?_,fun h => by cases h⟩
     simp -implicitDefEqProofs only [go_sem,zC,hm,a,c1,d,c3,c4]
  ·by_cases c2 : (64 : Int) < (f.blocks.length : Int)
   ·refine ⟨true,?_,fun _ => rfl⟩
    simp -implicitDefEqProofs only [go_sem,zC,hm,a,c1,c2]
   ·by_cases c4 : 512 < m
    ·refine ⟨true,?_,fun _ => rfl⟩
     simp -implicitDefEqProofs only [go_sem,zC,hm,a,c1,c2,c4]
    ·refine ⟨false,?_,fun h => by cases h⟩
     simp -implicitDefEqProofs only [go_sem,zC,hm,a,c1,c2,c4]
end
theorem zB5 : ∀ (l : List PPhi) (n : Nat),zxz n l ≤ 20000 → n + l.length ≤ zxz n l ∧ ∀ p ∈ l,p.src.length ≤ 20000 ∧ p.args.length ≤ 20000
 | [],n,_ => ⟨yA _,fun _ h => by simp at h⟩
 | p :: l,n,h => by
   rw [zxz] at h ⊢;split at h
   ·rename_i c
    obtain ⟨d,b⟩:=zB5 l _ h;rw [if_pos c];refine ⟨by simp only [yu]; omega,fun q a => ?_⟩;rcases yp.1 a with rfl | a
    ·omega
    ·exact b q a
   ·omega
theorem zA2 : ∀ (l : List POp) (n : Nat),zzi n l ≤ 20000 → n + l.length ≤ zzi n l ∧ ∀ p ∈ l,p.args.length ≤ 20000
 | [],n,_ => ⟨yA _,fun _ h => by simp at h⟩
 | p :: l,n,h => by
   rw [zzi] at h ⊢;split at h
   ·rename_i c
    obtain ⟨d,b⟩:=zA2 l _ h;rw [if_pos c];refine ⟨by simp only [yu]; omega,fun q a => ?_⟩;rcases yp.1 a with rfl | a
    ·omega
    ·exact b q a
   ·omega
theorem zAb : ∀ (l : List PBlock) (n : Nat),(∀ b ∈ l,anyB b) → zzf n l ≤ 20000 → n + l.length + (l.map fun b => b.phis.length + b.ops.length).sum ≤ zzf n l ∧ ∀ b ∈ l,okB b
 | [],n,_,_ => ⟨by simp [zzf],fun _ h => by simp at h⟩
 | b :: l,n,ha,h => by
   rw [zzf] at h ⊢;split at h
   ·rename_i c
    obtain ⟨k,g⟩:=zAb l _ (fun x j => ha x (yh _ j)) h;rw [if_pos c];obtain ⟨m,i⟩:=zA2 b.ops _ (show zzi (zxz (n + 1 + b.to.length) b.phis) b.ops ≤ 20000 by omega);obtain ⟨p1,p2⟩:=zB5 b.phis _ (show zxz (n + 1 + b.to.length) b.phis ≤ 20000 by omega);refine ⟨by simp only [yu,yz,List.sum_cons]; omega,fun q a => ?_⟩;rcases yp.1 a with rfl | a
    ·have f:=ha q yr
     exact ⟨by omega,by omega,fun p e => by have:=p2 p e; exact ⟨by omega,by omega⟩,fun o d => ⟨(f.op o d).1,by have:=i o d; omega⟩,by omega⟩
    ·exact g q a
   ·omega
theorem zDL {f : PFunc} (hf : anyF f) (h : zrT f = true) : okF f:=by
 unfold zrT at h;rw [decide_eq_true_eq] at h;obtain ⟨b,a⟩:=zAb f.blocks _ hf.block h;exact ⟨by omega,by omega,a,by omega⟩
theorem zv5 : ∀ l : List PBlock,zoV 5 (l.map rb) = true
 | [] => rfl
 | b :: r => by simp [zoV,rb,zv5 r]
theorem zuW (l : List PBlock) (b : l ≠ []) (a : l.length ≤ 4294967296) (σ : zd) : call T 62 [vL (l.map rb)] σ = some (.one (.own σ.length 0 0 l.length),σ ++ [.cells 0 5 (l.map zg)]):=by
 rw [zlr (g:=zi8 5) rfl];have c : l.map rb ≠ []:=by simpa using b
 have e : (l.map rb).map (fun e => e.map C.f) = l.map zg:=by rw [List.map_map]; rfl
 simp only [zi8,yn,e];rw [if_pos ⟨c,zv5 l,a⟩]
theorem zEq : ∀ l : List PBlock,zaj (l.map zg) = some (l.map rb)
 | [] => rfl
 | b :: r => by simp [zaj,zeq,zun,zgl,rb,zEq r]
theorem zwC (a : PBlock) (t q : Nat) : ∀ (l : List PBlock) (k : Nat),zaj ((l.map zg).set k [.f (.sl (a.phis.map rp)),.ap t q (a.ops.map ro),.f (ei a.kind),.f (ei a.arg),.f (eI a.to)]) = some ((l.set k a).map rb)
 | [],_ => rfl
 | b :: r,0 => by simp [zaj,zeq,zun,zgl,rb,zEq r]
 | b :: r,k + 1 => by simp [zaj,zeq,zun,zgl,rb,zwC a t q r k]
abbrev zF3 : Ob:=.cells 0 3 [[.f (.sl []),.f (.lit (.int .i64 0)),.f (.sl [])]]
abbrev zGu : PFunc:=⟨[],0,[]⟩
def zxS (f : PFunc) (k : Int) (order : List Int) : PFunc:=if ziY f k order = true then zzc f k.toNat order else zGu
def zFs (f : PFunc) (k : Int) (order : List Int) : Int:=if ziY f k order = true then 0 else 10
section
variable (f : PFunc) (hf : okF f) (k : Nat) (b : PBlock) (hb : f.blocks[k]? = some b) (order : List Int) (hr : ∀ x ∈ order,0 ≤ x ∧ x < (b.ops.length : Int)) (hol : order.length ≤ 4294967296)
include hf hb hr hol
theorem zFG : ∀ (d i : Nat) (acc : List POp) (a0 a2 a5 a7 a8 a9 a : V),order.length - i = d → i ≤ order.length → acc.length = i →
  exec T zik ⟨[a0,vI k,a2,.one (.ptr 0 0 0 0),.one (.ptr 1 0 0 0),a5,.one (.ap 2 0 (acc.map ro)),a7,a8,a9,vIs order,vI order.length,vI i,a],[.cells 0 3 [z6 f],zF3,.tok 6 [acc.length]],0,0⟩ =
   some (.exit 0,⟨[vU,vI k,vU,.one (.ptr 0 0 0 0),.one (.ptr 1 0 0 0),vU,.one (.ap 2 0 ((acc ++ zg8 b.ops (order.drop i)).map ro)),vU,vU,vU,vU,vU,vU,vU],[.cells 0 3 [z6 f],zF3,.tok 6 [(acc ++ zg8 b.ops (order.drop i)).length]],0,0⟩):=by
 intro d
 induction d with
 | zero =>
   intro i acc a0 a2 a5 a7 a8 a9 a n q o;have p : i = order.length:=(by omega);subst p;rw [xl zik rfl,zkF,List.drop_length];simp -implicitDefEqProofs only [go_sem,yj,zg8,yt,List.append_nil]
 | succ d ih =>
   intro i acc a0 a2 a5 a7 a8 a9 a n q o;have g : i < order.length:=(by omega);have l : order.drop i = order[i] :: order.drop (i + 1):=yf g;obtain ⟨r1,r⟩:=hr _ (yd g);have m : order[i].toNat < b.ops.length:=(by omega);have c : (b.ops.map ro)[order[i].toNat]? = some (ro (b.ops.getD order[i].toNat op0)):=(by simp [m]);have j : acc.length + 1 ≤ LIM:=(by unfold LIM; omega);have h : (f.blocks.map rb)[k]? = some (rb b):=(by simp [hb]);have e : acc ++ zg8 b.ops (order[i] :: order.drop (i + 1)) = (acc ++ [b.ops.getD order[i].toNat op0]) ++ zg8 b.ops (order.drop (i + 1)):=(by simp only [zg8,yz,List.append_assoc,List.singleton_append]);have e2 : acc.map ro ++ [ro (b.ops.getD order[i].toNat op0)] = (acc ++ [b.ops.getD order[i].toNat op0]).map ro:=(by simp);have:=ih (i + 1) (acc ++ [b.ops.getD order[i].toNat op0]) vU vU vU vU vU vU vU (by omega) (by omega) (by simp; omega);rw [xl zik rfl,zkF,l,e];rw [← e2] at this;simp -implicitDefEqProofs only [go_sem,rb,ro] at this c h;simp -implicitDefEqProofs only [go_sem,ilt g,zj g,ri,rb,ro,c,h,r1,j,za g hol,this]
end
theorem zrh (f : PFunc) (hf : okF f) (k : Int) (order : List Int) (hol : order.length ≤ 4294967296) : call T 17 [zd4 f,vI k,vIs order] [] = some (.tup [zd4 (zxS f k order),vI (zFs f k order)],[]):=by
 rw [ze (fn:=zjt) rfl];have d:=zj8 f hf k order hol;unfold zxS zFs
 by_cases c : ziY f k order = true
 ·rw [c] at d
  rw [if_pos c,if_pos c];have l:=c;unfold ziY at l;simp only [Bool.and_eq_true] at l;obtain ⟨c1,c2⟩:=l;obtain ⟨s,u,t⟩:=zat.1 c1;obtain ⟨n,rfl⟩:=Int.eq_ofNat_of_zero_le s;have p : n < f.blocks.length:=by omega
  simp only [ye] at c2;obtain ⟨b,hb⟩ : ∃ b,f.blocks[n]? = some b:=⟨_,ya p⟩;rw [hb] at c2;have r:=(ztg (t.oneDef (yk hb))).1 c2;have h:=fun a0 a2 a5 a7 a8 a9 o => zFG f hf n b hb order r.range hol order.length 0 [] a0 a2 a5 a7 a8 a9 o (by omega) (by omega) rfl;have q:=zuW f.blocks (by intro e; rw [e] at p; simp at p) (by have:=hf.blocks; omega);have g : (f.blocks.map zg)[n]? = some (zg b):=by simp [hb]
  have a:=zwC (zoD b order) 2 0 f.blocks n;simp only [zoD] at a;have j : zzc f n order = ⟨f.params,f.ret,f.blocks.set n (zoD b order)⟩:=zpP hb order;have m : ((n : Int) < (f.blocks.length : Int)) = True:=by simp; omega
  simp only [yw,yt,List.nil_append,ys,List.length_nil] at h;have i : ((f.blocks.map zg).set n [.f (.sl (b.phis.map rp)),.ap 2 0 ((zg8 b.ops order).map ro),.f (ei b.kind),.f (ei b.arg),.f (eI b.to)]).take f.blocks.length = (f.blocks.map zg).set n [.f (.sl (b.phis.map rp)),.ap 2 0 ((zg8 b.ops order).map ro),.f (ei b.kind),.f (ei b.arg),.f (eI b.to)]:=List.take_of_length_le (by simp);simp -implicitDefEqProofs only [go_sem] at d h q g a i;rw [ye,j];simp -implicitDefEqProofs only [go_sem,zjt,d,h,q,g,m,a,i,zoD]
 ·have l : ziY f k order = false:=by simpa using c
  rw [l] at d;rw [if_neg c,if_neg c];simp -implicitDefEqProofs only [go_sem] at d;simp -implicitDefEqProofs only [go_sem,zjt,d,yt]
abbrev fSt (f : PFunc) (b : PBlock) (D : ztY) (out : List Int) : zd:=[.cells 0 3 [z6 f],.cells 0 5 [zg b],.mp (ziS vBo D),.tok 1 [out.length]]
abbrev zFX : V:=.one (.f (.sl [[.lit (.bool true)],[.lit (.bool false)]]))
def zkT (on : List (List Int)) (ops : List POp) (out : List Int) (p : Bool) (a : Nat) : Bool:=decide (pure (ops.getD a op0).kind = p) && zfv on out a
def zjK (on : List (List Int)) (ops : List POp) (out : List Int) (p : Bool) : Nat → Nat → Option Nat
 | 0,_ => none
 | d + 1,k => if zkT on ops out p k = true then some k else zjK on ops out p d (k + 1)
theorem zqQ (on : List (List Int)) (ops : List POp) (out : List Int) (p : Bool) : ∀ d k,zjK on ops out p d k = (List.range' k d).find? (zkT on ops out p)
 | 0,_ => rfl
 | d + 1,k => by
   rw [zjK,List.range'_succ,List.find?_cons];cases c : zkT on ops out p k
   ·rw [if_neg (by simp),zqQ]
   ·rw [if_pos rfl]
theorem ztK (on : List (List Int)) (ops : List POp) (out : List Int) (p : Bool) : zjK on ops out p ops.length 0 = zhs on ops p out:=by
 rw [zqQ,← List.range_eq_range'];rfl
section
variable (f : PFunc) (b : PBlock) (hb : okB b) (n : Nat) (hn : n = b.ops.length) (hn2 : n ≤ 1000) (on : List (List Int)) (hon : on.length = n) (hol : ∀ l ∈ on,l.length ≤ 4294967296)
include hb hn hn2 hon hol
theorem zEf (p : Bool) (i : Int) (D : ztY) (out : List Int) (E : out.length ≤ 100000) (G : zm7 D out) : ∀ (d k : Nat) (a0 a1 a2 a3 a9 w t u s a20 : V),n - k = d → k ≤ n →
  exec T zdx ⟨[a0,a1,a2,a3,.one (.ptr 1 0 0 0),vLs on,.one (.map 2),.one (.ap 3 0 (out.map ri)),vB p,a9,w,t,zFX,vI 2,vI i,u,vL (b.ops.map ro),vI n,vI k,s,a20],fSt f b D out,0,0⟩ =
   some (match zjK on b.ops out p d k with
    | some a => (.goto 0,⟨[vU,vU,vU,vU,.one (.ptr 1 0 0 0),vLs on,.one (.map 2),.one (.ap 3 0 ((out ++ [(a : Int)]).map ri)),vU,vU,vU,vU,vU,vU,vU,vU,vU,vU,vU,vU,vU],fSt f b (zkf (a : Int) true D) (out ++ [(a : Int)]),0,0⟩)
    | none => (.exit 2,⟨[vU,vU,vU,vU,.one (.ptr 1 0 0 0),vLs on,.one (.map 2),.one (.ap 3 0 (out.map ri)),vU,vU,vU,vU,zFX,vI 2,vI i,vU,vU,vU,vU,vU,vU],fSt f b D out,0,0⟩)):=by
 intro d
 induction d with
 | zero =>
   intro k a0 a1 a2 a3 a9 w t u s a20 H I;have : k = n:=(by omega);subst this;rw [zjK,xl zdx rfl,ze9];simp -implicitDefEqProofs only [go_sem,fSt,yj,zhT]
 | succ d ih =>
   intro k a0 a1 a2 a3 a9 w t u s a20 H I;have m : k < b.ops.length:=(by omega);have j : ((k : Int) < (n : Int)) = True:=(by simp; omega);have x : b.ops.getD k op0 = b.ops[k]:=(by rw [yc,ya m]; rfl);have A:=zz2 k D;have hw:=G k;have g:=ih (k + 1) vU vU vU vU vU vU vU vU vU vU (by omega) (by omega);have o:=zl0 b.ops[k].kind;rw [zjK]
   by_cases c1 : (k : Int) ∈ out
   ·have e : zkT on b.ops out p k = false:=by unfold zkT zfv; rw [decide_eq_true c1]; simp
    rw [decide_eq_true c1] at hw
    have B : getM (k : Int) D = some true:=by
     unfold zjc at hw
     cases e : getM (k : Int) D with
     | none => rw [e] at hw; cases hw
     | some v => rw [e] at hw; exact congrArg some hw
    rw [B] at A;rw [e,if_neg (by simp),xl zdx rfl,ze9];simp -implicitDefEqProofs only [go_sem,fSt,vBo,Option.map_some] at A g;simp -implicitDefEqProofs only [go_sem,fSt,j,zj m,ro,A,zhT,za m hb.ops,g]
   rw [decide_eq_false c1] at hw
   have c : zh6 (k : Int) (ziS vBo D) = none ∨ zh6 (k : Int) (ziS vBo D) = some (vBo false):=by
    rw [A];unfold zjc at hw
    cases e : getM (k : Int) D with
    | none => exact .inl rfl
    | some v => rw [e] at hw; right; simp only [Option.getD_some] at hw; rw [hw]; rfl
   by_cases c2 : pure b.ops[k].kind = p
   ·have h : on[k]? = some (on.getD k []):=by rw [yc,ya (by omega)]; rfl
    have C : (on.getD k []).length ≤ 4294967296:=hol _ (yk h);have q:=zqJ (fSt f b D out ++ [.cells 0 6 [cOp b.ops[k]]]) 2 D rfl (by unfold Ok; simp -implicitDefEqProofs only [go_sem,fSt,zhT]) (on.getD k []) C;rw [G.all] at q;rw [c2] at o;have l : (p == p) = true:=by simp
    cases c3 : ((on.getD k []).all fun y => decide (y ∈ out)) with
    | false =>
      have e : zkT on b.ops out p k = false:=(by unfold zkT zfv; rw [c3]; simp);rw [c3] at q;rw [e,if_neg (by simp),xl zdx rfl,ze9];simp -implicitDefEqProofs only [go_sem,fSt] at o q g;rcases c with c | c
      ·simp -implicitDefEqProofs only [go_sem,fSt,l,j,zj m,ro,c,o,q,h,yb,rl,yi,ye,zhT,za m hb.ops,g]
      ·simp -implicitDefEqProofs only [go_sem,vBo] at c
       simp -implicitDefEqProofs only [go_sem,fSt,l,j,zj m,ro,c,o,q,h,yb,rl,yi,ye,zhT,za m hb.ops,g]
    | true =>
      have e : zkT on b.ops out p k = true:=(by unfold zkT zfv; rw [c3,decide_eq_false c1,x,decide_eq_true c2]; rfl);rw [c3] at q;have r : out.length + 1 ≤ LIM:=(by unfold LIM; omega);have hm:=zEr k true D;have he : out.map ri ++ [[.lit (.int .i64 (k : Int))]] = (out ++ [(k : Int)]).map ri:=(by simp [ri,ei]);have z : (out ++ [(k : Int)]).length = out.length + 1:=(by simp);rw [e,if_pos rfl,xl zdx rfl,ze9];simp only [← he];simp -implicitDefEqProofs only [go_sem,fSt] at o q;rcases c with c | c
      ·simp -implicitDefEqProofs only [go_sem,fSt,l,j,zj m,ro,c,o,q,hm,h,z,yb,rl,r,yi,ye,yn,zhT]
      ·simp -implicitDefEqProofs only [go_sem,vBo] at c
       simp -implicitDefEqProofs only [go_sem,fSt,l,j,zj m,ro,c,o,q,hm,h,z,yb,rl,r,yi,ye,yn,zhT]
   ·have e : zkT on b.ops out p k = false:=by unfold zkT; rw [x,decide_eq_false c2]; rfl
    have l : (pure b.ops[k].kind == p) = false:=(by simpa using c2);rw [e,if_neg (by simp),xl zdx rfl,ze9];simp -implicitDefEqProofs only [go_sem,fSt] at o g;rcases c with c | c
    ·simp -implicitDefEqProofs only [go_sem,fSt,l,j,zj m,ro,c,o,zhT,za m hb.ops,g]
    ·simp -implicitDefEqProofs only [go_sem,vBo] at c
     simp -implicitDefEqProofs only [go_sem,fSt,l,j,zj m,ro,c,o,zhT,za m hb.ops,g]
end
def zFV : Go.A.Code:=zx.p1
def zGg : Go.A.Code:=zx.p2.p1
def zGT : Go.A.Code:=zx.p2.p2.p1
def zGZ : Go.A.Code:=zx.p2.p2.p2.p1
def zGk : Go.A.Code:=zx.p2.p2.p2.p2.p1
def zlb : Go.A.Code:=zx.p2.p2.p2.p2.p2.p2
theorem zr1 : zx = .seq zFV (.seq zGg (.seq zGT (.seq zGZ (.seq zGk (.seq (.label 0) zlb))))):=rfl
theorem zvJ : zhm = .seq .skip zlb:=rfl
section
variable (f : PFunc) (b : PBlock) (hb : okB b) (n : Nat) (hn : n = b.ops.length) (hn2 : n ≤ 1000) (on : List (List Int)) (hon : on.length = n) (hol : ∀ l ∈ on,l.length ≤ 4294967296)
include hb hn hn2 hon hol
theorem zxt (D : ztY) (out : List Int) (m : out.length ≤ 100000) (v : zm7 D out) (a0 a1 a2 a3 a8 a9 l j k t u s g a20 : V) :
  exec T zcv ⟨[a0,a1,a2,a3,.one (.ptr 1 0 0 0),vLs on,.one (.map 2),.one (.ap 3 0 (out.map ri)),a8,a9,l,j,zFX,vI 2,vI 0,k,t,u,s,g,a20],fSt f b D out,0,0⟩ =
   some (match zde on b.ops out with
    | some a => (.goto 0,⟨[vU,vU,vU,vU,.one (.ptr 1 0 0 0),vLs on,.one (.map 2),.one (.ap 3 0 ((out ++ [(a : Int)]).map ri)),vU,vU,vU,vU,vU,vU,vU,vU,vU,vU,vU,vU,vU],fSt f b (zkf (a : Int) true D) (out ++ [(a : Int)]),0,0⟩)
    | none => (.exit 0,⟨[vU,vU,vU,vU,vU,vU,vU,.one (.ap 3 0 (out.map ri)),vU,vU,vU,vU,vU,vU,vU,vU,vU,vU,vU,vU,vU],fSt f b D out,0,0⟩)):=by
 have h:=fun (p : Bool) (i : Int) a0 a1 a2 a3 a9 l j k g a20 => zEf f b hb n hn hn2 on hon hol p i D out m v n 0 a0 a1 a2 a3 a9 l j k g a20 (by omega) (by omega);have q:=fun p => ztK on b.ops out p;rw [← hn] at q;have c : (b.ops.length : Int) = n:=by rw [hn]
 have o : Go.IntKind.i64.wrap 1 = 1:=by decide
 have r : Go.IntKind.i64.wrap 2 = 2:=by decide
 simp only [yw,q] at h;unfold zde
 cases e1 : zhs on b.ops true out with
 | some a =>
   rw [Option.some_or];have d:=h true;rw [e1] at d;simp -implicitDefEqProofs only [go_sem,fSt] at d;rw [xl zcv rfl,zdw];simp -implicitDefEqProofs only [go_sem,fSt,c,d]
 | none =>
   rw [Option.none_or];have d:=h true;rw [e1] at d
   cases e2 : zhs on b.ops false out with
   | some a =>
     have e:=h false;rw [e2] at e;simp -implicitDefEqProofs only [go_sem,fSt] at d e;rw [xl zcv rfl,zdw];simp -implicitDefEqProofs only [go_sem,fSt,c,d,zhT,yl,o,r];rw [xl zcv rfl,zdw];simp -implicitDefEqProofs only [go_sem,fSt,c,e,zhT,yl,o,r]
   | none =>
     have e:=h false;rw [e2] at e;simp -implicitDefEqProofs only [go_sem,fSt] at d e;rw [xl zcv rfl,zdw];simp -implicitDefEqProofs only [go_sem,fSt,c,d,zhT,yl,o,r];rw [xl zcv rfl,zdw];simp -implicitDefEqProofs only [go_sem,fSt,c,e,zhT,yl,o,r];rw [xl zcv rfl,zdw];simp -implicitDefEqProofs only [go_sem,fSt,c,e,zhT,yl,o,r]
theorem zB2 : ∀ (d : Nat) (D : ztY) (out : List Int),out.length + d ≤ 100000 → zm7 D out → zde on b.ops (ze4 on b.ops d out) = none → ∃ D' : ztY,∀ (a0 a1 a2 a3 a8 a9 m k q p o l g j c i a20 : V),
  exec T (.sc zx zhm) ⟨[a0,a1,a2,a3,.one (.ptr 1 0 0 0),vLs on,.one (.map 2),.one (.ap 3 0 (out.map ri)),a8,a9,m,k,q,p,o,l,g,j,c,i,a20],fSt f b D out,0,0⟩ =
   some (.ret,⟨[vU,vU,vU,.one (.ap 3 0 ((ze4 on b.ops d out).map ri)),vU,vU,vU,vU,vU,vU,vU,vU,vU,vU,vU,vU,vU,vU,vU,vU,vU],fSt f b D' (ze4 on b.ops d out),0,0⟩):=by
 intro d
 have stop : ∀ (D : ztY) (out : List Int),out.length ≤ 100000 → zm7 D out → zde on b.ops out = none → ∀ (a0 a1 a2 a3 a8 a9 m k q p o l g j c i a20 : V),
  exec T (.sc zx zhm) ⟨[a0,a1,a2,a3,.one (.ptr 1 0 0 0),vLs on,.one (.map 2),.one (.ap 3 0 (out.map ri)),a8,a9,m,k,q,p,o,l,g,j,c,i,a20],fSt f b D out,0,0⟩ =
   some (.ret,⟨[vU,vU,vU,.one (.ap 3 0 (out.map ri)),vU,vU,vU,vU,vU,vU,vU,vU,vU,vU,vU,vU,vU,vU,vU,vU,vU],fSt f b D out,0,0⟩):=by
  intro D out t r s a0 a1 a2 a3 a8 a9 m k q p o l g j c i a20;have h:=fun a0 a1 a2 a3 a8 a9 m k l g j c i a20 => zxt f b hb n hn hn2 on hon hol D out t r a0 a1 a2 a3 a8 a9 m k l g j c i a20;rw [s] at h;simp -implicitDefEqProofs only [go_sem,fSt] at h
  have e : exec T zlb ⟨[a0,a1,a2,a3,.one (.ptr 1 0 0 0),vLs on,.one (.map 2),.one (.ap 3 0 (out.map ri)),a8,a9,m,k,q,p,o,l,g,j,c,i,a20],fSt f b D out,0,0⟩ =
    some (.ret,⟨[vU,vU,vU,.one (.ap 3 0 (out.map ri)),vU,vU,vU,vU,vU,vU,vU,vU,vU,vU,vU,vU,vU,vU,vU,vU,vU],fSt f b D out,0,0⟩):=by
   simp -implicitDefEqProofs only [go_sem,fSt,zlb,zx,Code.p2,show ((2 : Nat) : Int) = 2 from rfl,h]
  rw [zfl,zvJ,zfP,zfC];simp only [ym,zrr];rw [e];simp only [ym,scK]
 induction d with
 | zero =>
   intro D out t r s;rw [ze4] at s ⊢;exact ⟨D,stop D out t r s⟩
 | succ d ih =>
   intro D out t r s
   cases ep : zde on b.ops out with
   | none =>
     rw [ze4,ep];exact ⟨D,stop D out (by omega) r ep⟩
   | some a =>
     rw [ze4,ep] at s ⊢;obtain ⟨D',u⟩:=ih (zkf (a : Int) true D) (out ++ [(a : Int)]) (by simp; omega) (r.put _) s;refine ⟨D',fun a0 a1 a2 a3 a8 a9 m k q p o l g j c i a20 => ?_⟩;have h:=fun a0 a1 a2 a3 a8 a9 m k l g j c i a20 => zxt f b hb n hn hn2 on hon hol D out (by omega) r a0 a1 a2 a3 a8 a9 m k l g j c i a20;rw [ep] at h
     have e : exec T zlb ⟨[a0,a1,a2,a3,.one (.ptr 1 0 0 0),vLs on,.one (.map 2),.one (.ap 3 0 (out.map ri)),a8,a9,m,k,q,p,o,l,g,j,c,i,a20],fSt f b D out,0,0⟩ =
       some (.goto 0,⟨[vU,vU,vU,vU,.one (.ptr 1 0 0 0),vLs on,.one (.map 2),.one (.ap 3 0 ((out ++ [(a : Int)]).map ri)),vU,vU,vU,vU,vU,vU,vU,vU,vU,vU,vU,vU,vU],fSt f b (zkf (a : Int) true D) (out ++ [(a : Int)]),0,0⟩):=by
      simp -implicitDefEqProofs only [go_sem,fSt] at h;simp -implicitDefEqProofs only [go_sem,fSt,zlb,zx,Code.p2,show ((2 : Nat) : Int) = 2 from rfl,h]
     rw [zfl,zvJ,zfP,zfC];simp only [ym,zrr];rw [e];simp only [ym,scK,zpg];exact u _ _ _ _ _ _ _ _ _ _ _ _ _ _ _ _ _
end
theorem zBH {b : PBlock} (i : OneDef b.ops) : zde (zdv b) b.ops (znF b) = none:=by
 obtain ⟨f,h⟩:=zxx i;have c : ∀ a,a < b.ops.length → (a : Int) ∈ znF b:=fun a j => (zjG h f.nodup f.range).mem_iff.2 (zpK.2 ⟨by omega,by omega⟩)
 cases e : zde (zdv b) b.ops (znF b) with
 | none => rfl
 | some a =>
   obtain ⟨g,d⟩:=znT e;unfold zfv at d;rw [decide_eq_true (c a g)] at d;simp at d
def znO (f : PFunc) (k : Int) : List Int:=if zaY f k = true then (match f.blocks[k.toNat]? with | some b => znF b | none => []) else []
theorem zql (f : PFunc) (c : okF f) (k : Int) : call T 25 [zd4 f,vI k] [] = some (vIs (znO f k),[]):=by
 rw [ze (fn:=ziu) rfl];have b:=zfO f c k
 cases e : zaY f k with
 | false =>
   have eF : znO f k = []:=(by unfold znO; rw [e,if_neg yq]);rw [e] at b
   have e1 : exec T (.scope zx) ⟨[zd4 f,vI k,.one (.ptr 0 0 0 0),vL [],vU,vU,vU,vU,vU,vU,vU,vU,vU,vU,vU,vU,vU,vU,vU,vU,vU],[.cells 0 3 [z6 f]],0,0⟩ =
     some (.ret,⟨[vU,vU,vU,vL [],vU,vU,vU,vU,vU,vU,vU,vU,vU,vU,vU,vU,vU,vU,vU,vU,vU],[.cells 0 3 [z6 f]],0,0⟩):=by
    rw [ziZ,zfl,zr1];simp -implicitDefEqProofs only [go_sem] at b;simp -implicitDefEqProofs only [go_sem,zFV,zx,Code.p1,Code.p2,b]
   simp -implicitDefEqProofs only [go_sem] at e1;simp -implicitDefEqProofs only [go_sem,ziu,e1,eF]
 | true =>
   obtain ⟨r,s,m⟩:=zat.1 e;have d : k.toNat < f.blocks.length:=(by omega);have j : f.blocks[k.toNat]? = some f.blocks[k.toNat]:=ya d;have hm:=yd d;have eF : znO f k = znF f.blocks[k.toNat]:=(by unfold znO; rw [if_pos e,j]);have i:=m.oneDef hm;have a:=m.size hm;have g:=zlj f.blocks[k.toNat] (c.block _ hm) a.2 _ rfl a.1;obtain ⟨q,h⟩:=zB2 f f.blocks[k.toNat] (c.block _ hm) f.blocks[k.toNat].ops.length rfl a.1 (zdv f.blocks[k.toNat]) (zht _) (fun l p => yv (zp5 i a.1 l p) (by omega)) f.blocks[k.toNat].ops.length [] [] (by simp; omega) zm7.nil (zBH i)
   have e1 : exec T (.scope zx) ⟨[zd4 f,vI k,.one (.ptr 0 0 0 0),vL [],vU,vU,vU,vU,vU,vU,vU,vU,vU,vU,vU,vU,vU,vU,vU,vU,vU],[.cells 0 3 [z6 f]],0,0⟩ =
     some (.ret,⟨[vU,vU,vU,.one (.ap 3 0 ((znF f.blocks[k.toNat]).map ri)),vU,vU,vU,vU,vU,vU,vU,vU,vU,vU,vU,vU,vU,vU,vU,vU,vU],fSt f f.blocks[k.toNat] q (znF f.blocks[k.toNat]),0,0⟩):=by
    have o:=h (zd4 f) (vI k) (.one (.ptr 0 0 0 0)) (vL []) vU vU vU (vB false) vU vU vU vU vU vU vU vU vU;unfold znF;rw [← o];rw [ziZ,zfl,zfl]
    congr 1
    rw [zvJ,zfP,zfC];simp only [ym,zrr];rw [zr1];rw [e] at b;have n : ziS vBo [] = []:=rfl;simp -implicitDefEqProofs only [go_sem] at b g;simp -implicitDefEqProofs only [go_sem,fSt,n,zFV,zGg,zGT,zGZ,zGk,zx,Code.p1,Code.p2,b,g,r,zj d,rb,yb,j]
    try rfl
   simp -implicitDefEqProofs only [go_sem,fSt] at e1;simp -implicitDefEqProofs only [go_sem,ziu,e1,eF]
end AC
