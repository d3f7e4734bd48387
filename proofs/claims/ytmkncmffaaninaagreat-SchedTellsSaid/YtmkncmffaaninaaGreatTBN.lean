/- A part of the proof of SchedTells. Conditions: none. -/
import Derived.Test.YtmkncmffaaninaaGreatTBM
import Derived.Test.YtmkncmffaaninaaGreatTBK
import Derived.Test.YtmkncmffaaninaaGreatTBA
import Derived.Test.YtmkncmffaaninaaGreatTBL
import Derived.Test.YtmkncmffaaninaaGreatTAQ
import Derived.Shelf.RegionOpenPlain
import Derived.WalkKit
import Derived.Deep.LoopGhost
import Derived.Lib.Walk
import Derived.Lib.SliceRun
set_option linter.all false
open List renaming getElem?_eq_getElem → ya,length_map → yb,mem_of_getElem? → yc,getElem?_eq_some_iff → yd,getElem?_append_left → ye,getElem_mem → yf,range → yh,getD_eq_getElem?_getD → yl,drop_eq_getElem_cons → ym,range' → yo,getElem?_map → yp,range_eq_range' → yq,foldl_cons → ys,mem_append → yt,foldl_nil → yv,map_nil → yw,range'_zero → yx,range'_succ → yy,mem_cons_of_mem → yz,drop_zero → yB,mem_cons_self → yC,find?_append → yD,find?_some → yE,find?_cons → yF
open Int renaming eq_ofNat_of_zero_le → yg,natCast_zero → yi,toNat_natCast → yj,lt_irrefl → yk
open Bool renaming false_ne_true → yn,and_eq_true → yr
open Nat renaming zero_add → yu,le_refl → yA
namespace AC
open Go Go.A Go.A.Lex
theorem zsR : ∀ l : List Int,Fz.beqs (l.map ri) (l.map ri) = true
 | [] => by simp [Fz.beqs]
 | x :: l => by simp [Fz.beqs,Fz.beqR,Fz.beq,Value.beq,ri,zsR l]
theorem zEH (l : List Int) : V.beq (.one (.f (.sl (l.map ri)))) (.one (.f (.sl (l.map ri)))) = true:=by simp only [V.beq,C.beq,Fz.beq,zsR]
theorem zCp (k : IntKind) (a : Int) : V.beq (.one (.f (.lit (.int k a)))) (.one (.f (.lit (.int k a)))) = true:=by simp [V.beq,C.beq,Fz.beq,Value.beq]
theorem zD8 (a b c d : Nat) : V.beq (.one (.own a b c d)) (.one (.own a b c d)) = true:=by simp [V.beq,C.beq]
section
variable (f : PFunc) (hf : okF f) (n : Nat) (b : PBlock) (hb : f.blocks[n]? = some b) (order : List Int) (hr : ∀ x ∈ order,0 ≤ x ∧ x < (b.ops.length : Int)) (hol : order.length ≤ 4294967296)
abbrev zGd (b : PBlock) (acc : List POp) : List C:=[.f (.sl (b.phis.map rp)),.ap 4 0 (acc.map ro),.f (ei b.kind),.f (ei b.arg),.f (eI b.to)]
abbrev zyh (f : PFunc) (n : Nat) (b : PBlock) (acc : List POp) : zd:=[.cells 0 3 [z6 f],zF3,.cells 1 5 ((f.blocks.map zg).set n (zGd b acc)),.cells 0 3 [[.f (eI f.params),.f (ei f.ret),.own 2 1 0 f.blocks.length]],.tok 6 [acc.length]]
include hf hb hr hol
theorem zFp : ∀ (d i : Nat) (acc : List POp) (a0 a5 a8 a9 : V),order.length - i = d → i ≤ order.length → acc.length = i →
  exec T zc7 ⟨[a0,vI n,vIs order,.one (.ptr 0 0 0 0),.one (.ptr 1 0 0 0),a5,.one (.ptr 3 0 0 0),vI i,a8,a9],zyh f n b acc,0,0⟩ =
   some (.exit 0,⟨[vU,vU,vU,vU,.one (.ptr 1 0 0 0),vU,.one (.ptr 3 0 0 0),vU,vU,vU],zyh f n b (acc ++ zg8 b.ops (order.drop i)),0,0⟩):=by
 intro d
 induction d with
 | zero =>
   intro i acc a0 a5 a8 a9 o s p;have q : i = order.length:=(by omega);subst q;rw [xl zc7 rfl,zfk,List.drop_length];simp -implicitDefEqProofs only [go_sem,zyh,zGd,yk,yb,zg8,yw,List.append_nil]
 | succ d ih =>
   intro i acc a0 a5 a8 a9 o s p;have c : i < order.length:=(by omega);have k : order.drop i = order[i] :: order.drop (i + 1):=ym c;obtain ⟨r1,t⟩:=hr _ (yf c);have l : order[i].toNat < b.ops.length:=(by omega);have a : (b.ops.map ro)[order[i].toNat]? = some (ro (b.ops.getD order[i].toNat op0)):=(by simp [l]);have j : acc.length + 1 ≤ LIM:=(by unfold LIM; omega);have g : (f.blocks.map rb)[n]? = some (rb b):=(by simp [hb]);have r : n < f.blocks.length:=(yd.1 hb).1;have m : ((n : Int) < (f.blocks.length : Int)) = True:=(by simp; omega);have h : ∀ x : List C,((f.blocks.map zg).set n x)[n]? = some x:=fun x => List.getElem?_set_self (by simp; exact r);have e : acc ++ zg8 b.ops (order[i] :: order.drop (i + 1)) = (acc ++ [b.ops.getD order[i].toNat op0]) ++ zg8 b.ops (order.drop (i + 1)):=(by simp only [zg8,List.map_cons,List.append_assoc,List.singleton_append]);have e2 : acc.map ro ++ [ro (b.ops.getD order[i].toNat op0)] = (acc ++ [b.ops.getD order[i].toNat op0]).map ro:=(by simp);have:=ih (i + 1) (acc ++ [b.ops.getD order[i].toNat op0]) vU vU vU vU (by omega) (by omega) (by simp; omega);rw [xl zc7 rfl,zfk,k,e];rw [zyh,zGd,← e2] at this;simp -implicitDefEqProofs only [go_sem,rb,ro] at this a g;simp -implicitDefEqProofs only [go_sem,zyh,zGd,ilt c,zj c,ri,yb,rb,ro,a,g,m,h,r1,j,zD8,List.set_set,za c hol,this]
end
theorem zvV (f : PFunc) (hf : okF f) (k : Int) (order : List Int) (hol : order.length ≤ 4294967296) : call T 18 [zd4 f,vI k,vIs order] [] = some (.tup [zd4 (zxS f k order),vI (zFs f k order)],[]):=by
 rw [ze (fn:=zdG) rfl];have a:=znE f hf k order hol;rw [zrQ] at a
 by_cases c : ziY f k order = true
 ·have e1 : zxS f k order = zzc f k.toNat order:=by unfold zxS; rw [if_pos c]
  have e2 : zFs f k order = 0:=by unfold zFs; rw [if_pos c]
  rw [c] at a;have m:=c;unfold ziY at m;simp only [yr] at m;obtain ⟨c1,c2⟩:=m;obtain ⟨t,w,v⟩:=zat.1 c1;obtain ⟨n,rfl⟩:=yg t;have u : n < f.blocks.length:=by omega
  simp only [yj] at c2;obtain ⟨b,hb⟩ : ∃ b,f.blocks[n]? = some b:=⟨_,ya u⟩;rw [hb] at c2;have s:=(ztg (v.oneDef (yc hb))).1 c2;have h:=fun a0 a5 a8 a9 => zFp f hf n b hb order s.range hol order.length 0 [] a0 a5 a8 a9 (by omega) (by omega) rfl;have g : (f.blocks.map zg)[n]? = some (zg b):=by simp [hb]
  have d:=zwC (zoD b order) 4 0 f.blocks n;simp only [zoD] at d;have j : zzc f n order = ⟨f.params,f.ret,f.blocks.set n (zoD b order)⟩:=zpP hb order;have p : ((n : Int) < (f.blocks.length : Int)) = True:=by simp; omega
  have r:=zv5 f.blocks;have q:=hf.blocks;have l : 0 < f.blocks.length:=by omega
  have o : f.blocks.length ≤ LIM:=q;have em : (f.blocks.map rb).map (fun e => e.map C.f) = f.blocks.map zg:=by rw [List.map_map]; rfl
  simp only [yi,List.nil_append,yB] at h;have i : ((f.blocks.map zg).set n [.f (.sl (b.phis.map rp)),.ap 4 0 ((zg8 b.ops order).map ro),.f (ei b.kind),.f (ei b.arg),.f (eI b.to)]).take f.blocks.length = (f.blocks.map zg).set n [.f (.sl (b.phis.map rp)),.ap 4 0 ((zg8 b.ops order).map ro),.f (ei b.kind),.f (ei b.arg),.f (eI b.to)]:=List.take_of_length_le (by simp);rw [e1,e2,yj,j];simp -implicitDefEqProofs only [go_sem,zyh,zGd,yw] at a h g d i r em;simp -implicitDefEqProofs only [go_sem,zdG,a,h,g,p,d,i,zoD,zEH,zCp,r,l,o,em,yb,zsR]
 ·have m : ziY f k order = false:=by simpa using c
  have e1 : zxS f k order = zGu:=by unfold zxS; rw [if_neg c]
  have e2 : zFs f k order = 10:=by unfold zFs; rw [if_neg c]
  rw [m] at a;rw [e1,e2];simp -implicitDefEqProofs only [go_sem] at a;simp -implicitDefEqProofs only [go_sem,zdG,a,yw]
def rdR (ops : List POp) (out : List Int) (a : Nat) : Bool:=!decide ((a : Int) ∈ out) && (yo 0 a).all fun k => !onB ops a k || decide ((k : Int) ∈ out)
def puR (ops : List POp) (a : Nat) : Bool:=pure (ops.getD a op0).kind
def zfQ (rd pu : Nat → Bool) (best : Int) (a : Nat) : Int:=if (rd a && (decide (best < 0) || (pu a && !pu best.toNat))) = true then (a : Int) else best
def zx7 : Option Nat → Int
 | some a => a
 | none => -1
theorem zud (rd pu : Nat → Bool) : ∀ i : Nat,(yh i).foldl (zfQ rd pu) (-1) = zx7 (((yh i).find? fun a => decide (pu a = true) && rd a).or ((yh i).find? fun a => decide (pu a = false) && rd a))
 | 0 => rfl
 | i + 1 => by
   rw [List.range_succ,List.foldl_append,zud rd pu i,yD,yD];simp only [ys,yv]
   cases f : (yh i).find? fun a => decide (pu a = true) && rd a with
   | some a =>
     have c : pu a = true:=(by have:=yE f; simp at this; exact this.1);have : ¬ ((a : Int) < 0):=(by omega);simp [zx7,zfQ,c,this]
   | none =>
     cases e : (yh i).find? fun a => decide (pu a = false) && rd a with
     | some a =>
       have c : pu a = false:=(by have:=yE e; simp at this; exact this.1);have : ¬ ((a : Int) < 0):=(by omega);cases b : rd i <;> cases d : pu i <;> simp [zx7,zfQ,c,b,d,this]
     | none => cases b : rd i <;> cases d : pu i <;> simp [zx7,zfQ,b,d]
theorem zHI {ops : List POp} {out : List Int} {a : Nat} (b : a < ops.length) : rdR ops out a = zfv ((yh ops.length).map (zdV ops)) out a:=by
 unfold rdR zfv;rw [getD_map _ _ _ b];unfold zdV;rw [List.all_map,List.all_filter,yq];rfl
theorem zEP (ops : List POp) (out : List Int) : (yo 0 ops.length).foldl (zfQ (rdR ops out) (puR ops)) (-1) = zx7 (zde ((yh ops.length).map (zdV ops)) ops out):=by
 rw [← yq,zud];unfold zde zhs
 have key : ∀ w,((yh ops.length).find? fun a => decide (puR ops a = w) && rdR ops out a) = (yh ops.length).find? fun a => decide (pure (ops.getD a op0).kind = w) && zfv ((yh ops.length).map (zdV ops)) out a:=fun w => by
  have : ∀ l : List Nat,(∀ a ∈ l,a < ops.length) → (l.find? fun a => decide (puR ops a = w) && rdR ops out a) = l.find? fun a => decide (pure (ops.getD a op0).kind = w) && zfv ((yh ops.length).map (zdV ops)) out a:=by
   intro l
   induction l with
   | nil => intro _; rfl
   | cons a l ih =>
     intro h;rw [yF,yF,ih fun x b => h x (yz _ b),zHI (h a yC)];rfl
  exact this _ fun a c => List.mem_range.1 c
 rw [key true,key false]
section
variable (f : PFunc) (b : PBlock) (hB : okB b)
abbrev zml (f : PFunc) (b : PBlock) (out : List Int) : zd:=[.cells 0 3 [z6 f],.tok 1 [out.length],.cells 0 5 [zg b]]
include hB
theorem zCq (out : List Int) (p : out.length ≤ 4294967296) (e : Int) (a : Nat) (s : a < b.ops.length) : ∀ (d k : Nat) (r : Bool) (a0 a1 a2 a3 m h l i g : V),k + d = a →
  exec T zcR ⟨[a0,a1,a2,a3,.one (.ap 1 0 (out.map ri)),.one (.ptr 2 0 0 0),vI e,vI a,vB r,vI k,m,h,l,i,g],zml f b out,0,0⟩ =
   some (.exit 4,⟨[vU,vU,vU,vU,.one (.ap 1 0 (out.map ri)),.one (.ptr 2 0 0 0),vI e,vI a,vB (r && (yo k d).all fun k => !onB b.ops a k || decide ((k : Int) ∈ out)),vU,vU,vU,vU,vU,vU],zml f b out,0,0⟩):=by
 intro d
 induction d with
 | zero =>
   intro k r a0 a1 a2 a3 m h l i g q;have j : k = a:=(by omega);subst j;rw [xl zcR rfl,zes];simp -implicitDefEqProofs only [go_sem,zml,yk,yx]
 | succ d ih =>
   intro k r a0 a1 a2 a3 m h l i g q;have j : k < a:=(by omega);have w:=za j (show a ≤ 4294967296 by have:=hB.ops; omega);have n:=zlf b hB a k (fun _ => s);have o:=zfS out k p;rw [xl zcR rfl,zes,yy,List.all_cons];simp -implicitDefEqProofs only [go_sem] at n o
   cases r with
   | false =>
     have:=ih (k + 1) false vU vU vU vU vU vU vU vU vU (by omega);simp -implicitDefEqProofs only [go_sem,zml] at this;simp -implicitDefEqProofs only [go_sem,zml,ilt j,w,this]
   | true =>
     cases c : onB b.ops a k with
     | false =>
       have:=ih (k + 1) true vU vU vU vU vU vU vU vU vU (by omega);rw [c] at n;simp -implicitDefEqProofs only [go_sem,zml] at this;simp -implicitDefEqProofs only [go_sem,zml,ilt j,w,n,this]
     | true =>
       rw [c] at n;have:=ih (k + 1) (decide ((k : Int) ∈ out)) vU vU vU vU vU vU vU vU vU (by omega)
       cases c2 : decide ((k : Int) ∈ out) with
       | true =>
         rw [c2] at o this;simp -implicitDefEqProofs only [go_sem,zml] at this;simp -implicitDefEqProofs only [go_sem,zml,ilt j,w,n,o,this]
       | false =>
         rw [c2] at o this;simp -implicitDefEqProofs only [go_sem,zml] at this;simp -implicitDefEqProofs only [go_sem,zml,ilt j,w,n,o,this]
theorem zDI (out : List Int) (A : out.length ≤ 4294967296) : ∀ (d a : Nat) (e : Int) (a0 a1 a2 a3 a8 a9 o j n l h : V),a + d = b.ops.length → e < (b.ops.length : Int) →
  exec T zcA ⟨[a0,a1,a2,a3,.one (.ap 1 0 (out.map ri)),.one (.ptr 2 0 0 0),vI e,vI a,a8,a9,o,j,n,l,h],zml f b out,0,0⟩ =
   some (.exit 2,⟨[vU,vU,vU,vU,.one (.ap 1 0 (out.map ri)),.one (.ptr 2 0 0 0),vI ((yo a d).foldl (zfQ (rdR b.ops out) (puR b.ops)) e),vU,vU,vU,vU,vU,vU,vU,vU],zml f b out,0,0⟩):=by
 intro d
 induction d with
 | zero =>
   intro a e a0 a1 a2 a3 a8 a9 o j n l h B y;have C : a = b.ops.length:=(by omega);subst C;rw [xl zcA rfl,zeV];simp -implicitDefEqProofs only [go_sem,zml,yk,yb,yx,yv]
 | succ d ih =>
   intro a e a0 a1 a2 a3 a8 a9 o j n l h B y;have p : a < b.ops.length:=(by omega);have w:=za p hB.ops;have t:=zfS out a A;have s:=fun r a0 a1 a2 a3 o j n l h => zCq f b hB out A e a p a 0 r a0 a1 a2 a3 o j n l h (by omega);have u:=zii b.ops[a].kind;have e1 : puR b.ops a = pure b.ops[a].kind:=(by unfold puR; simp [p]);rw [xl zcA rfl,zeV,yy,ys];have g : rdR b.ops out a = (!decide ((a : Int) ∈ out) && (yo 0 a).all fun k => !onB b.ops a k || decide ((k : Int) ∈ out)):=rfl;generalize (yo 0 a).all (fun k => !onB b.ops a k || decide ((k : Int) ∈ out)) = q at *;have x:=zj (r:=ro) p;simp only [yi] at s;simp -implicitDefEqProofs only [go_sem,zml,ro] at t s u x
   cases c : rdR b.ops out a with
   | false =>
     have eb : zfQ (rdR b.ops out) (puR b.ops) e a = e:=(by unfold zfQ; rw [c]; rfl);have:=ih (a + 1) e vU vU vU vU vU vU vU vU vU vU vU (by omega) y;rw [eb];rw [c] at g;simp -implicitDefEqProofs only [go_sem,zml] at this;simp -implicitDefEqProofs only [go_sem,zml,ilt p,yb,t,s,← g,w,this]
   | true =>
     rw [c] at g
     by_cases c1 : e < 0
     ·have eb : zfQ (rdR b.ops out) (puR b.ops) e a = a:=by unfold zfQ; rw [c,decide_eq_true c1]; rfl
      have:=ih (a + 1) a vU vU vU vU vU vU vU vU vU vU vU (by omega) (by omega);rw [eb];simp -implicitDefEqProofs only [go_sem,zml] at this;simp -implicitDefEqProofs only [go_sem,zml,ilt p,yb,t,s,← g,c1,w,this]
     ·obtain ⟨m,rfl⟩:=yg (show 0 ≤ e by omega)
      have hm : m < b.ops.length:=(by omega);have i:=zii b.ops[m].kind;have e2 : puR b.ops m = pure b.ops[m].kind:=(by unfold puR; simp [hm]);have z:=zj (r:=ro) hm;have v : ((m : Int) < (b.ops.length : Int)) = True:=(by simp; omega);simp -implicitDefEqProofs only [go_sem,ro] at i z
      have eb : zfQ (rdR b.ops out) (puR b.ops) m a = if (pure b.ops[a].kind && !pure b.ops[m].kind) = true then (a : Int) else m:=by unfold zfQ; rw [c,decide_eq_false c1,yj,e1,e2]; rfl
      rw [eb]
      cases c2 : pure b.ops[a].kind with
      | false =>
        have:=ih (a + 1) m vU vU vU vU vU vU vU vU vU vU vU (by omega) y;rw [c2] at u;simp -implicitDefEqProofs only [go_sem,zml] at this;simp -implicitDefEqProofs only [go_sem,zml,ilt p,yb,t,s,← g,c1,x,u,w,this]
      | true =>
        rw [c2] at u
        cases c3 : pure b.ops[m].kind with
        | true =>
          have:=ih (a + 1) m vU vU vU vU vU vU vU vU vU vU vU (by omega) y;rw [c3] at i;simp -implicitDefEqProofs only [go_sem,zml] at this;simp -implicitDefEqProofs only [go_sem,zml,ilt p,yb,t,s,← g,c1,x,z,v,u,i,w,this]
        | false =>
          have:=ih (a + 1) a vU vU vU vU vU vU vU vU vU vU vU (by omega) (by omega);rw [c3] at i;simp -implicitDefEqProofs only [go_sem,zml] at this;simp -implicitDefEqProofs only [go_sem,zml,ilt p,yb,t,s,← g,c1,x,z,v,u,i,w,this]
theorem zCX (p : b.ops.length ≤ 1000) : ∀ (d : Nat) (out : List Int) (a0 a1 a2 a3 a6 a7 a8 a9 j e i g c : V),OutIs b.ops out → out.length + d = b.ops.length →
  exec T zco ⟨[a0,a1,a2,a3,.one (.ap 1 0 (out.map ri)),.one (.ptr 2 0 0 0),a6,a7,a8,a9,j,e,i,g,c],zml f b out,0,0⟩ =
   some (.exit 0,⟨[vU,vU,vU,vU,.one (.ap 1 0 ((ze4 ((yh b.ops.length).map (zdV b.ops)) b.ops d out).map ri)),vU,vU,vU,vU,vU,vU,vU,vU,vU,vU],zml f b (ze4 ((yh b.ops.length).map (zdV b.ops)) b.ops d out),0,0⟩):=by
 intro d
 induction d with
 | zero =>
   intro out a0 a1 a2 a3 a6 a7 a8 a9 j e i g c n q;have r : out.length = b.ops.length:=(by omega);have k : ((out.length : Int) < (b.ops.length : Int)) = False:=(by simp; omega);rw [xl zco rfl,zeG,ze4];simp -implicitDefEqProofs only [go_sem,zml,yb,k]
 | succ d ih =>
   intro out a0 a1 a2 a3 a6 a7 a8 a9 j e i g c n q;have k : ((out.length : Int) < (b.ops.length : Int)) = True:=(by simp; omega);obtain ⟨a,o⟩:=zsb n (by omega);have l:=znT o;have h:=fun a0 a1 a2 a3 a8 a9 j e i g c => zDI f b hB out (by omega) b.ops.length 0 (-1) a0 a1 a2 a3 a8 a9 j e i g c (by omega) (by omega);rw [zEP,o] at h;have m : out.length + 1 ≤ LIM:=(by unfold LIM; omega);have e2 : out.map ri ++ [[.lit (.int .i64 (a : Int))]] = (out ++ [(a : Int)]).map ri:=(by simp [ri]);have:=ih (out ++ [(a : Int)]) vU vU vU vU vU vU vU vU vU vU vU vU vU (n.step l.1 l.2) (by simp; omega);rw [← e2] at this;rw [xl zco rfl,zeG,ze4,o];simp only [yi] at h;simp -implicitDefEqProofs only [go_sem,zml,zx7] at this h;simp -implicitDefEqProofs only [go_sem,zml,yb,k,h,m,this]
end
theorem zup (f : PFunc) (q : okF f) (k : Int) : call T 26 [zd4 f,vI k] [] = some (vIs (znO f k),[]):=by
 rw [ze (fn:=zdd) rfl];have a:=zhw f q k
 cases c : zaY f k with
 | false =>
   have e : znO f k = []:=(by unfold znO; rw [c,if_neg yn]);rw [c] at a;rw [e];simp -implicitDefEqProofs only [go_sem] at a;simp -implicitDefEqProofs only [go_sem,zdd,a,yw]
 | true =>
   obtain ⟨u,w,s⟩:=zat.1 c;obtain ⟨n,rfl⟩:=yg u;have v : n < f.blocks.length:=(by omega);obtain ⟨b,d⟩ : ∃ b,f.blocks[n]? = some b:=⟨_,ya v⟩;have e : znO f n = znF b:=(by unfold znO; rw [if_pos c,yj,d]);have r : (f.blocks.map rb)[n]? = some (rb b):=(by simp [d]);have hB:=zwX q d;have o : ((n : Int) < (f.blocks.length : Int)) = True:=(by simp; omega);have t:=s.oneDef (yc d);have g:=(s.size (yc d)).1;have h:=fun a0 a1 a2 a3 a6 a7 a8 a9 p j m l i => zCX f b hB g b.ops.length [] a0 a1 a2 a3 a6 a7 a8 a9 p j m l i (zvu _) (by simp);have e2 : ze4 ((yh b.ops.length).map (zdV b.ops)) b.ops b.ops.length [] = znF b:=(by unfold znF; rw [zjW t]);rw [e2] at h;rw [c] at a;rw [e];simp -implicitDefEqProofs only [go_sem,zml,rb,yw] at a h r;simp -implicitDefEqProofs only [go_sem,zdd,a,o,r,h]
def zB9 (out : List Int) : Prop:=∀ v ∈ out,0 ≤ v ∧ v ≤ (out.length : Int)
theorem zwr {out : List Int} (h : zB9 out) (j : Nat) : 0 ≤ out.getD j 0 ∧ out.getD j 0 ≤ (out.length : Int):=by
 rw [yl]
 cases e : out[j]? with
 | none => simp
 | some v => exact h v (yc e)
theorem zuz {out : List Int} (h : zB9 out) (l : List Int) : 0 ≤ zaD out l ∧ zaD out l ≤ (out.length : Int) + 1:=by
 unfold zaD;have a:=zsA (g:=fun k => out.getD k.toNat 0 + 1) l 0;refine ⟨a.1,?_⟩;rcases zso (g:=fun k => out.getD k.toNat 0 + 1) l 0 with e | ⟨k,_,e⟩
 ·rw [e]; omega
 ·rw [e]
  have:=(zwr h k.toNat).2;omega
theorem zB9.step {out : List Int} (h : zB9 out) (l : List Int) : zB9 (out ++ [zaD out l]):=fun v a => by
 have:=zuz h l;rw [List.length_append,List.length_singleton];rcases yt.1 a with a | a
 ·have:=h v a; omega
 ·rw [List.mem_singleton.1 a]; omega
section
variable (f : PFunc) (on : List (List Int)) (hon : on.length ≤ 1000)
include hon
theorem zCV (i : Nat) (out : List Int) (t : out.length ≤ 1000) (q : zB9 out) (l : List Int) (m : l.length ≤ 4294967296) (o : ∀ k ∈ l,0 ≤ k ∧ k < (out.length : Int)) : ∀ (d j : Nat) (n : Int) (a0 a1 a2 a3 a5 a7 a8 c a : V),l.length - j = d → j ≤ l.length →
  exec T zgP ⟨[a0,a1,a2,a3,.one (.ap 1 0 (out.map ri)),a5,vI n,a7,a8,vLs on,vI on.length,vI i,c,vIs l,vI l.length,vI j,a],[.cells 0 3 [z6 f],.tok 1 [out.length]],0,0⟩ =
   some (.exit 2,⟨[vU,vU,vU,vU,.one (.ap 1 0 (out.map ri)),vU,vI ((l.drop j).foldl (fun n k => max n (out.getD k.toNat 0 + 1)) n),vU,vU,vLs on,vI on.length,vI i,vU,vU,vU,vU,vU],[.cells 0 3 [z6 f],.tok 1 [out.length]],0,0⟩):=by
 intro d
 induction d with
 | zero =>
   intro j n a0 a1 a2 a3 a5 a7 a8 c a p r;have b : j = l.length:=(by omega);subst b;have e : l.drop l.length = []:=(by simp);rw [e,yv,xl zgP rfl,ziG];simp -implicitDefEqProofs only [go_sem,yk]
 | succ d ih =>
   intro j n a0 a1 a2 a3 a5 a7 a8 c a p r;have b : j < l.length:=(by omega);have h : l.drop j = l[j] :: l.drop (j + 1):=ym b;obtain ⟨s,v⟩:=o _ (yf b);have u:=zwr q l[j].toNat;have hw : Go.IntKind.i64.wrap (out.getD l[j].toNat 0 + 1) = out.getD l[j].toNat 0 + 1:=(by rw [wrap_i64] <;> omega);have g : out[l[j].toNat]? = some (out.getD l[j].toNat 0):=(by rw [yl,ya (by omega)]; rfl);have:=ih (j + 1) (max n (out.getD l[j].toNat 0 + 1)) vU vU vU vU vU vU vU vU vU (by omega) (by omega);rw [h,ys,xl zgP rfl,ziG];simp -implicitDefEqProofs only [go_sem] at this;simp -implicitDefEqProofs only [go_sem,ilt b,zj b,ri,s,g,yp,hw,za b m,this]
theorem zCF (t : ∀ (i : Nat) (l : List Int),on[i]? = some l → l.length ≤ 4294967296 ∧ ∀ k ∈ l,0 ≤ k ∧ k < (i : Int)) : ∀ (d i : Nat) (out : List Int) (a0 a1 a2 a3 a5 a6 a7 a8 b g c h a : V),on.length - i = d → i ≤ on.length → out.length = i → zB9 out →
  exec T zgM ⟨[a0,a1,a2,a3,.one (.ap 1 0 (out.map ri)),a5,a6,a7,a8,vLs on,vI on.length,vI i,b,g,c,h,a],[.cells 0 3 [z6 f],.tok 1 [out.length]],0,0⟩ =
   some (.exit 0,⟨[vU,vU,vU,vU,.one (.ap 1 0 ((zdy out (on.drop i)).map ri)),vU,vU,vU,vU,vU,vU,vU,vU,vU,vU,vU,vU],[.cells 0 3 [z6 f],.tok 1 [(zdy out (on.drop i)).length]],0,0⟩):=by
 intro d
 induction d with
 | zero =>
   intro i out a0 a1 a2 a3 a5 a6 a7 a8 b g c h a u w p r;have j : i = on.length:=(by omega);subst j;have e : on.drop on.length = []:=(by simp);rw [e,zdy,xl zgM rfl,zix];simp -implicitDefEqProofs only [go_sem,yk]
 | succ d ih =>
   intro i out a0 a1 a2 a3 a5 a6 a7 a8 b g c h a u w p r;have j : i < on.length:=(by omega);have q : on.drop i = on[i] :: on.drop (i + 1):=ym j;obtain ⟨x,v⟩:=t i on[i] (ya j);have o:=fun a0 a1 a2 a3 a5 a7 a8 b a => zCV f on hon i out (by omega) r on[i] x (by rw [p]; exact v) on[i].length 0 0 a0 a1 a2 a3 a5 a7 a8 b a (by omega) (by omega);rw [yB] at o;have eR : on[i].foldl (fun n k => max n (out.getD k.toNat 0 + 1)) 0 = zaD out on[i]:=rfl;rw [eR] at o;have m : out.length + 1 ≤ LIM:=(by unfold LIM; omega);have he : out.map ri ++ [[.lit (.int .i64 (zaD out on[i]))]] = (out ++ [zaD out on[i]]).map ri:=(by simp [ri,ei]);have s : (out ++ [zaD out on[i]]).length = out.length + 1:=(by simp);have:=ih (i + 1) (out ++ [zaD out on[i]]) vU vU vU vU vU vU vU vU vU vU vU vU vU (by omega) (by omega) (by simp [p]) (r.step _);rw [q,zdy,xl zgM rfl,zix];rw [s] at this;simp only [← he] at this;simp -implicitDefEqProofs only [go_sem] at this o;simp -implicitDefEqProofs only [go_sem,ilt j,zj j,rl,o,m,yb,za j (show on.length ≤ 4294967296 by omega),this]
end
def znJ (f : PFunc) (k : Int) : List Int:=if zaY f k = true then (match f.blocks[k.toNat]? with | some b => zhi b | none => []) else []
theorem zpm (f : PFunc) (t : okF f) (k : Int) : call T 27 [zd4 f,vI k] [] = some (vIs (znJ f k),[]):=by
 rw [ze (fn:=zhv) rfl];have b:=zfO f t k
 cases e : zaY f k with
 | false =>
   have eF : znJ f k = []:=(by unfold znJ; rw [e,if_neg yn]);rw [e] at b;simp -implicitDefEqProofs only [go_sem] at b;simp -implicitDefEqProofs only [go_sem,zhv,b,eF]
 | true =>
   obtain ⟨C,D,u⟩:=zat.1 e;have o : k.toNat < f.blocks.length:=(by omega);have s : f.blocks[k.toNat]? = some f.blocks[k.toNat]:=ya o;have hm:=yf o;have eF : znJ f k = zhi f.blocks[k.toNat]:=(by unfold znJ; rw [if_pos e,s]);have y:=u.oneDef hm;have d:=u.size hm;have r:=zlj f.blocks[k.toNat] (t.block _ hm) d.2 _ rfl d.1;have hlen:=zht f.blocks[k.toNat]
   have h:=fun a0 a1 a2 a3 a5 a6 a7 a8 q n m p g => zCF f (zdv f.blocks[k.toNat]) (by omega) (fun i l a => by
    rw [zjW y,yp] at a
    cases c : (yh f.blocks[k.toNat].ops.length)[i]? with
    | none => rw [c] at a; cases a
    | some j =>
      rw [c] at a;simp only [Option.map_some,Option.some.injEq] at a;subst a
      have z : j = i:=by
       have:=(yd.1 c).2;simpa using this.symm
      subst z;have w : j < f.blocks[k.toNat].ops.length:=by simpa using (yd.1 c).1
      exact ⟨by have:=zkD f.blocks[k.toNat].ops j; omega,fun x B => zpx B⟩) (zdv f.blocks[k.toNat]).length 0 [] a0 a1 a2 a3 a5 a6 a7 a8 q n m p g (by omega) (by omega) rfl (fun v A => by simp at A)
   rw [yB] at h;have eD : zdy [] (zdv f.blocks[k.toNat]) = zhi f.blocks[k.toNat]:=rfl;rw [eD] at h;rw [e] at b;simp -implicitDefEqProofs only [go_sem] at b r h;simp -implicitDefEqProofs only [go_sem,zhv,b,r,h,C,zj o,rb,yp,s,eF]
theorem zq7 : ∀ (r : List (List Int)) (out : List Int),zB9 out → zB9 (zdy out r)
 | [],_,h => h
 | l :: r,out,h => by rw [zdy]; exact zq7 r _ (h.step l)
theorem zyr {b : PBlock} (c : OneDef b.ops) : zB9 (zhi b):=zq7 _ _ fun v a => by simp at a
section
variable (f : PFunc) (k : Int) (dl : List Int)
end
end AC
namespace AC
open Go Go.A
section
variable {f : PFunc} {k : Nat} {b : PBlock} (hb : f.blocks[k]? = some b) {order : List Int} (hl : LegalP b.ops order)
include hb hl
end
theorem zlX {o : POp} {i at' : Int} : ∀ (l : List (Int × Int)) (k j : Nat),j < l.length → ∃ s,(⟨o.args.getD (k + j) 0,s,i,at'⟩ : Use) ∈ zM o i at' k l
 | [],_,_,h => by simp at h
 | s :: l,k,j,h => by
   rw [zM]
   cases j with
   | zero => exact ⟨s,yC⟩
   | succ j =>
     obtain ⟨t,a⟩:=zlX (o:=o) (i:=i) (at':=at') l (k + 1) j (by simpa using h);rw [show k + 1 + j = k + (j + 1) by omega] at a;exact ⟨t,yz _ a⟩
theorem zvX {o : POp} (h : zgN o = true) : (zaN o).length = o.args.length:=by
 have a:=h;unfold zgN at a;simp only [yr,decide_eq_true_eq] at a;unfold zaN;rw [if_pos h];exact a.2.2.2.1
theorem znc {l : List Use} (h : (l.map Use.v).Nodup) {x y : Use} (c : x ∈ l) (d : y ∈ l) (e : x.v = y.v) : x = y:=by
 have b:=zlw h c;have a:=zlw h d;rw [e] at b;rw [b] at a;exact Option.some.inj a
theorem RightP.ahead {f : PFunc} {level : Int} (h : RightP f level) {k : Nat} {b : PBlock} (n : f.blocks[k]? = some b) {i j : Nat} {x y : POp} (r : b.ops[i]? = some x) (m : b.ops[j]? = some y) (hd : x.dst ≠ 0) (hm : x.dst ∈ y.args) : i < j:=by
 have e:=yc n;have p : zgN x = true:=zn2 h.typed e (yc r);have w : zgN y = true:=zn2 h.typed e (yc m);have v:=zqk p (by have:=zAL p; omega);obtain ⟨a,q,ea⟩:=List.mem_iff_getElem.1 hm;obtain ⟨s,t⟩:=zlX (o:=y) (i:=(k : Int)) (at':=(j : Int)) (zaN y) 0 a (by rw [zvX w]; exact q);rw [yu,yl,ya q] at t;have u:=(h.size e).1;have z:=(yd.1 m).1
 have hu : (⟨x.dst,s,(k : Int),(j : Int)⟩ : Use) ∈ zfg f:=by
  unfold zfg zfJ;refine List.mem_map.2 ⟨⟨x.dst,s,(k : Int),(j : Int)⟩,(zoI _ _ _ 0).2 ⟨k,b,n,?_⟩,?_⟩
  ·rw [yu]
   refine yt.2 (.inr (yt.2 (.inl ((zp9 _ _ _ 0).2 ⟨j,y,m,?_⟩))));rw [yu];rw [← ea];exact t
  ·unfold z8
   simp only;rw [if_neg (by omega)]
 obtain ⟨d,l,e1,_,c⟩:=h.uses _ hu
 have g : (⟨x.dst,zT x,(k : Int),(i : Int)⟩ : Use) ∈ zN f:=by
  unfold zN;refine yt.2 (.inr ((zlU _ _ 0).2 ⟨k,b,n,.inr ?_⟩));rw [yu];exact (zr8 _ _ _ 0).2 ⟨i,x,r,v,by rw [yu]⟩
 have:=znc h.once l g e1;subst this;rcases c with c | ⟨_,c⟩ | ⟨c,_⟩
 ·have : (k : Int) < 0:=c
  omega
 ·have : (i : Int) < (j : Int):=c
  omega
 ·exact absurd rfl c
section
variable {ops : List POp} {order : List Int} (hl : LegalP ops order)
include hl
end
end AC
namespace AC
open Go Go.A Go.A.Lex
theorem zCx {b : PBlock} (h : okB b) {order : List Int} (hl : LegalP b.ops order) : okB (zoD b order) where
 phis:=h.phis
 ops:=by show (zg8 b.ops order).length ≤ _; rw [zuL,hl.len]; exact h.ops
 phi:=h.phi
 op:=fun o a => h.op o ((zy9 hl).mem_iff.1 a)
 to:=h.to
theorem zFg {f : PFunc} (h : okF f) {k : Nat} {b : PBlock} (c : f.blocks[k]? = some b) {order : List Int} (hl : LegalP b.ops order) : okF (zzc f k order) where
 params:=by rw [zpP c]; exact h.params
 blocks:=by rw [zDA c]; exact h.blocks
 block:=fun x d => by
  obtain ⟨i,a⟩:=List.mem_iff_getElem?.1 d;rw [zzN c] at a;split at a
  ·injection a with a
   subst a;exact zCx (h.block b (yc c)) hl
  ·exact h.block x (yc a)
 small:=by
  rw [zDc c order (fun b => b.phis.length + b.ops.length) (by show b.phis.length + (zg8 b.ops order).length = _; rw [zuL,hl.len])];exact h.small
section
variable (f g : PFunc) (k : Nat) (ak : C) (order : List Int) (hlen : g.blocks.length = f.blocks.length) (hl : f.blocks.length ≤ 4294967296)
 (hg : ∀ i,i ≠ k → g.blocks[i]? = f.blocks[i]?)
include hlen hl hg
end
section
variable (f g : PFunc) (k : Nat) (ak : C) (order : List Int) (n : Nat) (hn : order.length = n) (hn2 : n ≤ 600) (hr : ∀ x ∈ order,0 ≤ x ∧ x < (n : Int))
include hn hn2 hr
end
def zlz (ops : List POp) (dl : List Int) (a : Nat) (w : Int) (k : Nat) : Int:=if onB ops a k = true then max w (dl.getD k 0 + 1) else w
theorem zDV (ops : List POp) (dl : List Int) (a : Nat) : (yo 0 a).foldl (zlz ops dl a) 0 = zaD dl (zdV ops a):=by
 unfold zaD zdV;rw [List.foldl_map,List.foldl_filter,yq];rfl
section
variable (f g h : PFunc) (n : Nat) (a0' : C) (o' : C) (b : PBlock) (hb : f.blocks[n]? = some b) (hB : okB b) (hbl : b.ops.length ≤ 1000) (dl : List Int) (hdl : dl.length = b.ops.length) (hlow : ∀ k,0 ≤ dl.getD k 0 ∧ dl.getD k 0 ≤ 1000)
abbrev zHd (f g h : PFunc) (n : Nat) (a0' o' : C) : zd:=[.cells 0 3 [z6 f],.cells 0 3 [[.f (ei n),a0',o']],.cells 0 3 [z6 g],.cells 0 3 [z6 h]]
include hb hB hbl hdl hlow
theorem zHH (a : Nat) (z : a < b.ops.length) : ∀ (d k : Nat) (w : Int) (a0 a1 a4 a5 a6 a7 a8 o j p i m e l a20 q : V),k + d = a →
  exec T zaH ⟨[a0,a1,.one (.ptr 0 0 0 0),.one (.ptr 1 0 0 0),a4,a5,a6,a7,a8,vIs dl,vI a,vI w,vI k,o,j,p,i,m,e,l,a20,q],zHd f g h n a0' o',0,0⟩ =
   some (.exit 2,⟨[vU,vU,.one (.ptr 0 0 0 0),.one (.ptr 1 0 0 0),vU,vU,vU,vU,vU,vIs dl,vI a,vI ((yo k d).foldl (zlz b.ops dl a) w),vU,vU,vU,vU,vU,vU,vU,vU,vU,vU],zHd f g h n a0' o',0,0⟩):=by
 intro d
 induction d with
 | zero =>
   intro k w a0 a1 a4 a5 a6 a7 a8 o j p i m e l a20 q y;have r : k = a:=(by omega);subst r;rw [xl zaH rfl,zbH];simp -implicitDefEqProofs only [go_sem,yk,yx,yv]
 | succ d ih =>
   intro k w a0 a1 a4 a5 a6 a7 a8 o j p i m e l a20 q y;have r : k < a:=(by omega);have s : k < dl.length:=(by omega);have u:=zlf b hB a k (fun _ => z);have v : (f.blocks.map rb)[n]? = some (rb b):=(by simp [hb]);have t : ((n : Int) < (f.blocks.length : Int)) = True:=(by have:=(yd.1 hb).1; simp; omega);have x : dl.getD k 0 = dl[k]:=(by simp [s]);have hw : IntKind.i64.wrap (dl[k] + 1) = dl[k] + 1:=(by have:=hlow k; rw [x] at this; exact wrap_i64 (by omega) (by omega));have:=ih (k + 1) (zlz b.ops dl a w k) vU vU vU vU vU vU vU vU vU vU vU vU vU vU vU vU (by omega);rw [xl zaH rfl,zbH,yy,ys]
   have ew : zlz b.ops dl a w k = if onB b.ops a k = true then max w (dl[k] + 1) else w:=by unfold zlz; rw [x]
   generalize zlz b.ops dl a w k = w' at *;simp -implicitDefEqProofs only [go_sem,rb] at this u v
   cases c : onB b.ops a k with
   | true =>
     rw [c,if_pos rfl] at ew;rw [c] at u;simp -implicitDefEqProofs only [go_sem,ilt r,t,v,u,zj s,ri,hw,← ew,za r (show a ≤ 4294967296 by omega),this]
   | false =>
     rw [c,if_neg yn] at ew;subst ew;rw [c] at u;simp -implicitDefEqProofs only [go_sem,ilt r,t,v,u,za r (show a ≤ 4294967296 by omega),this]
theorem zHu (s : ∀ a,a < b.ops.length → dl[a]? = some (zaD dl (zdV b.ops a))) : ∀ (d a : Nat) (a0 a1 a4 a5 a6 a7 a8 p q l i m e k c j a20 o : V),a + d = dl.length →
  exec T zaG ⟨[a0,a1,.one (.ptr 0 0 0 0),.one (.ptr 1 0 0 0),a4,a5,a6,a7,a8,vIs dl,vI a,p,q,l,i,m,e,k,c,j,a20,o],zHd f g h n a0' o',0,0⟩ =
   some (.exit 0,⟨[vU,vU,vU,vU,vU,vU,vU,vU,vU,vU,vU,vU,vU,vU,vU,vU,vU,vU,vU,vU,vU,vU],zHd f g h n a0' o',0,0⟩):=by
 intro d
 induction d with
 | zero =>
   intro a a0 a1 a4 a5 a6 a7 a8 p q l i m e k c j a20 o u;have v : a = dl.length:=(by omega);subst v;rw [xl zaG rfl,zbG];simp -implicitDefEqProofs only [go_sem,yk,yb]
 | succ d ih =>
   intro a a0 a1 a4 a5 a6 a7 a8 p q l i m e k c j a20 o u;have t : a < dl.length:=(by omega);have r:=fun a0 a1 a4 a5 a6 a7 a8 l i m e k c j a20 o => zHH f g h n a0' o' b hb hB hbl dl hdl hlow a (by omega) a 0 0 a0 a1 a4 a5 a6 a7 a8 l i m e k c j a20 o (by omega);rw [zDV] at r;have hd:=s a (by omega);have w : (dl.map ri)[a]? = some [.lit (.int .i64 (zaD dl (zdV b.ops a)))]:=(by rw [yp,hd]; rfl);have:=ih (a + 1) vU vU vU vU vU vU vU vU vU vU vU vU vU vU vU vU vU vU (by omega);rw [xl zaG rfl,zbG];simp only [yi] at r;simp -implicitDefEqProofs only [go_sem] at this r;simp -implicitDefEqProofs only [go_sem,ilt t,yb,r,w,za t (show dl.length ≤ 4294967296 by omega),this]
end
theorem zCS (f : PFunc) (b : okF f) (k : Int) (order : List Int) : okF (zxS f k order):=by
 unfold zxS;split
 ·rename_i c
  unfold ziY at c;simp only [yr] at c;obtain ⟨c1,c2⟩:=c;obtain ⟨g,e,d⟩:=zat.1 c1;have a : k.toNat < f.blocks.length:=by omega
  have hb : f.blocks[k.toNat]? = some f.blocks[k.toNat]:=ya a;rw [hb] at c2;exact zFg b hb ((ztg (d.oneDef (yf a))).1 c2)
 ·exact ⟨by simp,by simp,fun _ h => by simp at h,by simp⟩
theorem zAt (f : PFunc) (N : anyF f) (k a : Int) (order : List Int) (R : order.length ≤ LB) : call T 3 [zd4 f,.agg [.f (ei k),.f (ei a),.f (eI order)]] [] = some (vB true,[]):=by
 rw [ze (fn:=zP) rfl];have h:=zFz;obtain ⟨P,i,y⟩:=ztQ f N;simp -implicitDefEqProofs only [go_sem] at h i
 cases P with
 | false => simp -implicitDefEqProofs only [go_sem,zP,h,i]
 | true =>
   have d:=zDL N (y rfl)
   by_cases c6 : (order.length : Int) > 600
   ·simp -implicitDefEqProofs only [go_sem,zP,h,i,yb,c6]
   have p1:=zrh f d k order (by omega);have p2:=zvV f d k order (by omega);have s:=zuR (zxS f k order) (zxS f k order) (zCS f d k order);have q:=zj8 f d k order (by omega);have p:=znE f d k order (by omega);rw [zrQ] at p;have r:=zpi f d k a;have m:=ztG f d k a;rw [zr7] at m;have f1:=zql f d k;have f2:=zup f d k;have d1:=zpm f d k;have r1:=zhw f d k
   have K : (zj6 f k a).length ≤ 4294967296:=by
    rw [← zr7];unfold ziB;split
    ·rename_i c
     obtain ⟨C,M,l⟩:=zat.1 c.1;have j : k.toNat < f.blocks.length:=(by omega);rw [ya j];simp only;split
     ·have:=zkD f.blocks[k.toNat].ops a.toNat
      have:=(l.size (yf j)).1;omega
     ·simp
    ·simp
   have E : (znO f k).length ≤ 4294967296:=by
    unfold znO;split
    ·rename_i c
     obtain ⟨C,M,l⟩:=zat.1 c;have j : k.toNat < f.blocks.length:=(by omega);rw [ya j];simp only;rw [(zxx (l.oneDef (yf j))).2];have:=(l.size (yf j)).1;omega
    ·simp
   have i1:=zbx (zj6 f k a) (zj6 f k a) K;have i2:=zbx (znO f k) (znO f k) E
   cases c : zaY f k with
   | false =>
     have e : znJ f k = []:=(by unfold znJ; rw [c,if_neg yn]);rw [c] at r1;rw [e] at d1;generalize zxS f k order = g at *;simp -implicitDefEqProofs only [go_sem] at p1 p2 s q p r m f1 f2 d1 r1 i1 i2;simp -implicitDefEqProofs only [go_sem,zP,h,i,yb,c6,p1,p2,s,q,p,r,m,f1,f2,d1,r1,i1,i2,beq_self_eq_true,yi]
   | true =>
     obtain ⟨C,M,l⟩:=zat.1 c;obtain ⟨n,rfl⟩:=yg C;have j : n < f.blocks.length:=(by omega);obtain ⟨b,hb⟩ : ∃ b,f.blocks[n]? = some b:=⟨_,ya j⟩;have e : znJ f n = zhi b:=(by unfold znJ; rw [if_pos c,yj,hb]);have hB:=zwX d hb;have hm:=yc hb;have L:=l.oneDef hm;have u:=(l.size hm).1;have hdl : (zhi b).length = b.ops.length:=zAU b;have hlow : ∀ k,0 ≤ (zhi b).getD k 0 ∧ (zhi b).getD k 0 ≤ 1000:=fun k => by have:=zwr (zyr L) k; omega
     have O : (f.blocks.map rb)[n]? = some (rb b):=(by simp [hb]);have J : ((n : Int) < (f.blocks.length : Int)) = True:=(by simp; omega);rw [c] at r1;rw [e] at d1;generalize zxS f n order = g at *;have w:=fun a0 a1 a4 a5 a6 a7 a8 B H D x G v A t z a20 I => zHu f g g n (.f (ei a)) (.f (eI order)) b hb hB u (zhi b) hdl hlow (fun a Q => zD4 L Q) (zhi b).length 0 a0 a1 a4 a5 a6 a7 a8 B H D x G v A t z a20 I (by omega);have o : ((zhi b).length : Int) = (b.ops.length : Int):=(by rw [hdl]);simp only [yi] at w;simp -implicitDefEqProofs only [go_sem,rb] at p1 p2 s q p r m f1 f2 d1 r1 i1 i2 w O;simp -implicitDefEqProofs only [go_sem,zP,h,i,yb,c6,p1,p2,s,q,p,r,m,f1,f2,d1,r1,i1,i2,beq_self_eq_true,J,O,o,w]
end AC
namespace Go.Proofs
open Go.Shelf Go.RowKit Go.Lib
theorem Tryz.mixed0 : Tryz.prog.follows .mixedOrders = true:=by kernel_rfl
theorem Tryz.infoB : (Tryz.prog.info? 44).map (fun i => (i.zero,i.size,i.bytes)) = some (some (.agg #[.slice none 0 0,.slice none 0 0,.int .i64 0,.int .i64 0,.slice none 0 0]),5,88):=by kernel_rfl
set_option maxHeartbeats 2000000 in
set_option maxRecDepth 100000 in
theorem Tryz.clone_block (b off n c : Nat) (f : List Value) (w : World) (x : f.length = n * 5) (r : n ≤ maxLen) (s : n * 88 ≤ 140737488355328) (q : ∀ j u,f[j]? = some u → w.cell? ⟨b,off + j,none⟩ = some u) (t : ∀ u ∈ f,u.oneCell' = true) :
  Calls Tryz.prog 62 #[.slice (some ⟨b,off,none⟩) n c] w fun e w' => ∃ v',e = .returned v' ∧ w'.ownsRow w.heap.size 44 5 v' n f ∧ v' ≠ .slice none 0 0 ∧ Below w.heap.size w w':=by
 have mixed:=Tryz.mixed0;obtain ⟨i0,B,i,o,l⟩:=info_parts Tryz.infoB;have t23:=Tryz.underlying23;have C : ∀ (w : World) (a : Option Addr) (n c m p : Nat),(binOp .eql 23 (.slice a n c) (.slice none m p)).run Tryz.prog w = .ok (.bool a.isNone) w:=fun w a n c m p => Lib.run_eql_slice_nil w _ _ a n c m p t23;have y : ∀ w,Sem.run Tryz.prog (underlying 23) w = .ok (TypeDesc.slice 44) w:=run_underlying t23;have A : Aside (∀ j u,f[j]? = some u → w.cell? ⟨b,off + j,none⟩ = some u):=q;clear q
 go_enter Tryz.func62,Tryz.ntmps62
 go_wp2_with (at_builtin; refine wpList_append_own _ rfl _ _ 23 rfl w.heap.size 44 i0 (.agg #[.slice none 0 0,.slice none 0 0,.int .i64 0,.int .i64 0,.slice none 0 0]) 5 88 t23 B i o l rfl (by decide) _ _ _ rfl (World.ownsRow_made w #[] 0 (yA _) (Nat.zero_le _) rfl) ⟨b,off,none⟩ n c f rfl ?qc1 ?qc2 ?qc3 ?qc4 ?qc5 ?qc6 ?_)
 case qc1 => exact x
 case qc2 =>
  intro j u v;rw [Addr.add_lit];refine Lib.cell?_alloc_some _ ?_;exact A.out j u v
 case qc3 => exact t
 case qc4 => omega
 case qc5 => omega
 case qc6 => simp
 intro v' D g d h
 go_wp2
 go_ret
 refine ⟨v',rfl,by simpa using g,?_,?_⟩
 ·exact h
 ·exact ((Below.refl _ w).alloc (yA _) _).grown d (by simp) (by intro k z; simp [Value.ownBlock] at z; omega)
end Go.Proofs
namespace Go.A
open Go.RowKit (Below)
section
variable {g : G} {w w' : World} {σ : zd}
theorem zDx (R : Rel g w σ) (f : Below w.heap.size w w') {a : Nat} {cur : Array Value} {t : TypeId} (r : w'.heap[a]? = some (.cells cur t (0,0))) (p : w.heap.size ≤ a) {c : Nat} {e : List (List C)} (v : e.length * c ≤ cur.size) (y : zci g w σ cur c e) :
  Ext g w σ (g.own σ.length a) w' (σ ++ [.cells 0 c e]) ∧ Rel (g.own σ.length a) w' (σ ++ [.cells 0 c e]):=by
 have q : ∀ id,id < σ.length → (g.own σ.length a).ρ id = g.ρ id:=fun id h => zaQ g.ρ (k:=σ.length) (i:=id) _ (by omega);have hw : ∀ b,b < w.heap.size → (g.own σ.length a).ow b = g.ow b:=fun b h => zaQ g.ow (k:=a) (i:=b) _ (by omega)
 have H : Ext g w σ (g.own σ.length a) w' (σ ++ [.cells 0 c e]):={
  os:=f.os
  tape:=f.tape
  output:=f.output
  size:=f.size
  keeps:=fun b i h => ⟨h,by unfold World.cell?; rw [f.block b (R.nb b i h)]⟩
  len:=by simp
  shape:=fun id z sz len h => by
   obtain ⟨es,j,u⟩:=za2 h;have d:=zb j;refine .inl ⟨by unfold shapeOf; rw [ye d]; exact h,q id d,fun _ arr t s => ⟨arr,?_,rfl⟩⟩;rw [f.block _ (Array.getElem?_eq_some_iff.1 s).1];exact s
  map:=fun id es h => ⟨q id (zb h),es,by rw [ye (zb h)]; exact h⟩
  tok:=fun t k n h => by
   obtain ⟨sz,fr,j,u⟩:=zdi h;exact ⟨n,zd3 (by rw [ye (zb j)]; exact j) u,yA _,fun _ => rfl⟩
  tsz:=fun t sz h => by
   obtain ⟨fr,j⟩:=zfc h;exact zct (fr:=fr) (by rw [ye (zb j)]; exact j)
  ow:=hw
  new:=fun b i h _ _ => h
  frame:=fun b l _ => f.block b l }
 refine ⟨H,⟨fun b i h => Nat.lt_of_lt_of_le (R.nb b i h) f.size,fun id x h => ?_⟩⟩
 by_cases d : id < σ.length
 ·rw [ye d] at h
  exact zdq H (q id d) (fun _ => rfl) (fun b l _ => ⟨f.block b l,hw b l,fun _ h => h⟩) (R.ob id x h)
 ·have m : id = σ.length:=by
   have:=zb h;simp at this;omega
  subst m;simp at h;subst h;intro _;have e1 : (g.own σ.length a).ρ σ.length = a:=by simp [G.own]
  have e2 : (g.own σ.length a).ow a = .ob σ.length:=by simp [G.own]
  rw [e1];refine ⟨e2,fun o h => by have:=R.nb _ _ h; omega,cur,t,r,v,H.zci y⟩
end
end Go.A
namespace Go.Proofs
open Go.RowKit
open Go.A in
theorem Tryz.ext_cloneB (args : List V) (σ : zd) (v : V) (σ' : zd) (h : zi8 5 args σ = some (v,σ')) :
  Go.A.Enters Tryz.prog 62 ∧ ∀ g w us,Rel g w σ → zA g w σ args us → Calls Tryz.prog 62 us.toArray w fun e w' => ∃ u g',e = .returned u ∧ zf g' w' σ' v u ∧ Rel g' w' σ' ∧ Ext g w σ g' w' σ':=by
 refine ⟨⟨Tryz.f62,_,Tryz.func62,by kernel_rfl,rfl⟩,fun g w us R0 M => ?_⟩;unfold zi8 at h;split at h
 ·rename_i xs
  split at h
  ·rename_i L
   obtain ⟨l,p,B⟩:=L;injection h with h;simp only [Prod.mk.injEq] at h;obtain ⟨rfl,rfl⟩:=h;simp only [zA,zf,zz] at M;obtain ⟨u,rest,rfl,q,rfl⟩:=M;obtain ⟨a,c,sz,J,rfl,X,d,y⟩:=zoc q fun x u h => zqb h;rcases y with hx | ⟨b,o,rfl,n⟩
   ·exact absurd hx l
   have Y : sz = 5:=by
    have t:=d.2.1
    cases xs with
    | nil => exact absurd rfl l
    | cons x r =>
      simp only [zb9] at t;simp only [zoV,yr,decide_eq_true_eq] at p;rw [← t.1,p.1]
   subst Y;unfold LIM at B;have hlen : J.length = xs.length * 5:=d.1;refine Calls.mono (f:=62) (Tryz.clone_block b o xs.length c J w hlen (by unfold maxLen; omega) (by omega) n (zsH (by omega) d)) fun e w' he => ?_;obtain ⟨v,rfl,I,s,P⟩:=he;rcases I.2 with ⟨rfl,hz⟩ | ⟨K,cap,cur,rfl,m,D,r1,r2,Q,S⟩
   ·exact absurd rfl s
   have N : 0 < xs.length:=List.length_pos_iff.2 l;have k:=zjZ (σ:=σ) (g:=g) d
   have z : zci g w σ cur 5 (xs.map fun e => e.map C.f):=fun i e hi => by
    obtain ⟨q1,Z⟩:=k i e hi;refine ⟨q1,fun j c W => ?_⟩;obtain ⟨u,R,O,U⟩:=Z j c W;refine ⟨u,?_,O,U⟩;have E : J[i * 5 + j]? = some u:=(by simpa using R);rw [← S,List.getElem?_take] at E;split at E
    ·simpa using E
    ·cases E
   obtain ⟨H,R1⟩:=zDx R0 P D m (by rw [yb,Q]; exact Nat.mul_le_mul_right 5 r1) z;refine ⟨_,_,rfl,?_,R1,H⟩;simp only [zf,zz];have e1 : (g.own σ.length K).ρ σ.length = K:=(by simp [G.own]);exact ⟨0,5,xs.length,by simp [shapeOf,Ob.shape],yA _,fun _ => ⟨some ⟨K,0,none⟩,cap,rfl,r1,fun h => by omega,fun h => ⟨by omega,fun _ => by rw [e1],cur,_,by rw [e1]; exact D,by omega⟩⟩,_,_,rfl⟩
  ·cases h
 ·cases h
end Go.Proofs
namespace AC
open Go.A Go.A.Lex
theorem zGc : zw0 (zFy Go.Proofs.Tryz.prog (ztf Go.Proofs.Tryz.prog)) 0 tab :=
 ⟨zbt _ 0 (by kernel_rfl),zbt _ 16 (by kernel_rfl),zbt _ 32 (by kernel_rfl),zbt _ 48 (by kernel_rfl),zbt _ 64 (by kernel_rfl),zbt _ 80 (by kernel_rfl),zbt _ 96 (by kernel_rfl),zbt _ 112 (by kernel_rfl),zbt _ 128 (by kernel_rfl),zbt _ 144 (by kernel_rfl),zbt _ 160 (by kernel_rfl),zbt _ 176 (by kernel_rfl),zbt _ 192 (by kernel_rfl),zbt _ 208 (by kernel_rfl),zbt _ 224 (by kernel_rfl),zbt _ 240 (by kernel_rfl),zbt _ 256 (by kernel_rfl),trivial⟩
theorem zIc : zyG Go.Proofs.Tryz.prog (ztf Go.Proofs.Tryz.prog) T:=by
 refine zm9 ?_ (zm9 ?_ (zm9 ?_ (zm9 ?_ (zm9 ?_ (zCg zGc)))))
 ·exact Go.Proofs.Tryz.ext_cloneB
 ·exact Go.Proofs.Tryz.ext_compact
 ·exact fun args σ v σ' h => zy0 (zw1 (by kernel_rfl)) Go.Proofs.Tryz.func181 (by kernel_rfl) (by kernel_rfl) args σ v σ' h
 ·exact Go.Proofs.Tryz.ext_sort
 ·exact Go.Proofs.Tryz.ext_sorted
end AC
