/- A part of the proof of AliasTells. Conditions: none. -/
import Derived.Test.YtmkncmffaaninaaGreatLAT
import Derived.Test.YtmkncmffaaninaaGreatLAQ
import Derived.Test.YtmkncmffaaninaaGreatLAS
import Derived.Test.YtmkncmffaaninaaGreatLAO
import Derived.Test.YtmkncmffaaninaaGreatLAJ
set_option linter.all false
open List renaming drop_eq_getElem_cons → ya,mem_of_getElem? → yd,getElem?_eq_some_iff → ye,mem_append → yi,set_append_right → yk,map_cons → yl,eq_nil_of_length_eq_zero → ym,length_append → yo,mem_cons_of_mem → yp,length_cons → yr,length_nil → yt,length_set → yu,drop_length → yx,getD_eq_getElem?_getD → yy,length_map → yz,mem_cons_self → yA,getElem?_eq_getElem → yB,mem_iff_getElem → yD,headD_cons → yE,getElem?_set_ne → yF,mem_cons → yH,all_cons → yI,mem_map → yK,all_nil → yL,drop_zero → yO,set_set → yQ,map → yR,set → yS
open Option renaming getD_none → yb,getD_some → yf,isSome_none → yn,map_eq_some_iff → yw,isSome_some → yC
open And renaming intro → yc
open Int renaming natCast_nonneg → yg,toNat_natCast → yh,natCast_zero → yq,lt_irrefl → yv,reduceAdd → yG,le_refl → yN
open Nat renaming zero_add → yj,le_refl → yM
open Bool renaming and_eq_true → yJ,and_self → yP
namespace AC
open Go Go.A
theorem zjB {o : POp} {i at' : Int} : ∀ (l : List (Int × Int)) (k j : Nat),j < l.length → ∃ s,(⟨o.args.getD (k + j) 0,s,i,at'⟩ : Use) ∈ zy o i at' k l
 | [],_,_,h => by simp at h
 | s :: l,k,j,h => by
   rw [zy]
   cases j with
   | zero => exact ⟨s,yA⟩
   | succ j =>
     obtain ⟨t,a⟩:=zjB (o:=o) (i:=i) (at':=at') l (k + 1) j (by simpa using h);rw [show k + 1 + j = k + (j + 1) by omega] at a;exact ⟨t,yp _ a⟩
theorem znx {o : POp} (h : zeO o = true) : (zaa o).length = o.args.length:=by
 have a:=h;unfold zeO at a;simp only [yJ,decide_eq_true_eq] at a;unfold zaa;rw [if_pos h];exact a.2.2.2.1
theorem zlV {l : List Use} (h : (l.map Use.v).Nodup) {x y : Use} (d : x ∈ l) (c : y ∈ l) (e : x.v = y.v) : x = y:=by
 have a:=zih h d;have b:=zih h c;rw [e] at a;rw [a] at b;exact Option.some.inj b
theorem RightP.ahead {f : PFunc} {level : Int} (h : RightP f level) {k : Nat} {b : PBlock} (g : f.blocks[k]? = some b) {i j : Nat} {x y : POp} (t : b.ops[i]? = some x) (l : b.ops[j]? = some y) (hd : x.dst ≠ 0) (hm : x.dst ∈ y.args) : i < j:=by
 have e:=yd g;have q : zeO x = true:=zeo h.typed e (yd t);have v : zeO y = true:=zeo h.typed e (yd l);have w:=zvr q (by have:=zIG q; omega);obtain ⟨a,p,ea⟩:=yD.1 hm;obtain ⟨s,r⟩:=zjB (o:=y) (i:=(k : Int)) (at':=(j : Int)) (zaa y) 0 a (by rw [znx v]; exact p);rw [yj,yy,yB p] at r;have z:=(h.size e).1;have u:=(ye.1 l).1
 have hu : (⟨x.dst,s,(k : Int),(j : Int)⟩ : Use) ∈ zec f:=by
  unfold zec zdU;refine yK.2 ⟨⟨x.dst,s,(k : Int),(j : Int)⟩,(ziY _ _ _ 0).2 ⟨k,b,g,?_⟩,?_⟩
  ·rw [yj]
   refine yi.2 (.inr (yi.2 (.inl ((zj6 _ _ _ 0).2 ⟨j,y,l,?_⟩))));rw [yj];rw [← ea];exact r
  ·unfold zad
   simp only;rw [if_neg (by omega)]
 obtain ⟨d,n,e1,_,c⟩:=h.uses _ hu
 have m : (⟨x.dst,zJ x,(k : Int),(i : Int)⟩ : Use) ∈ zD f:=by
  unfold zD;refine yi.2 (.inr ((zhq _ _ 0).2 ⟨k,b,g,.inr ?_⟩));rw [yj];exact (zmG _ _ _ 0).2 ⟨i,x,t,w,by rw [yj]⟩
 have:=zlV h.once n m e1;subst this;rcases c with c | ⟨_,c⟩ | ⟨c,_⟩
 ·have : (k : Int) < 0:=c
  omega
 ·have : (i : Int) < (j : Int):=c
  omega
 ·exact absurd rfl c
section
variable {ops : List POp} {order : List Int} (hl : LegalP ops order)
include hl
end
end AC
namespace AC
open Go Go.A Go.A.Lex
def vSh (s : Int × Int) : V:=.agg [.f (ei s.1),.f (ei s.2)]
abbrev SMap:=List (Int × (Int × Int))
def ztG : SMap → ziO → SMap
 | S,[] => S
 | S,e :: r => ztG (zjb e.1 e.2.shape S) r
theorem zy2 : ∀ (D : ziO) (S : SMap),zjc 2 (some 2) 4 (zgx zhn D) (zgx vSh S) = some (zgx vSh (ztG S D))
 | [],S => rfl
 | e :: r,S => by
   have c : ∀ l : List (Int × PDef),zgx zhn (e :: l) = (e.1,zhn e.2) :: zgx zhn l:=fun _ => rfl;rw [c,zjc];have a : (zhn e.2).cells.length = 4 ∧ C.kns (zhn e.2).cells = true:=⟨rfl,rfl⟩;rw [if_pos a];have b : zzT 2 (some 2) (zhn e.2) = some (vSh e.2.shape):=rfl;rw [b,Option.bind_some,zn5,zy2 r,ztG]
theorem zhl {α : Type} (k v : Int) (a : α) : ∀ S : List (Int × α),getM v (zjb k a S) = if k = v then some a else getM v S
 | [] => rfl
 | e :: r => by
   simp only [zjb]
   by_cases h : e.1 = k
   ·rw [if_pos h]
    simp only [getM,h]
    by_cases b : k = v
    ·rw [if_pos b,if_pos b]
    ·rw [if_neg b,if_neg b,if_neg b]
   ·rw [if_neg h]
    simp only [getM]
    by_cases b : e.1 = v
    ·rw [if_pos b,if_pos b,if_neg (by omega)]
    ·rw [if_neg b,if_neg b,zhl k v a r]
theorem zwD {α : Type} {v : Int} : ∀ {S : List (Int × α)},v ∉ S.map Prod.fst → getM v S = none
 | [],_ => rfl
 | e :: r,h => by
   simp only [yl,yH,not_or] at h;rw [getM,if_neg (fun a => h.1 a.symm),zwD h.2]
theorem zoV (v : Int) : ∀ (D : ziO) (S : SMap),(D.map Prod.fst).Nodup → getM v (ztG S D) = match getM v D with
  | some d => some d.shape
  | none => getM v S
 | [],S,_ => rfl
 | e :: r,S,h => by
   simp only [yl,List.nodup_cons] at h;rw [ztG,zoV v r _ h.2,getM,zhl]
   by_cases a : e.1 = v
   ·rw [if_pos a,if_pos a,zwD (a ▸ h.1)]
   ·rw [if_neg a,if_neg a]
theorem zwc {α : Type} (k : Int) (a : α) : ∀ S : List (Int × α),(zjb k a S).map Prod.fst = if k ∈ S.map Prod.fst then S.map Prod.fst else S.map Prod.fst ++ [k]
 | [] => by simp [zjb]
 | e :: r => by
   simp only [zjb]
   by_cases h : e.1 = k
   ·rw [if_pos h]; simp [h]
   ·rw [if_neg h,yl,zwc k a r]
    by_cases b : k ∈ r.map Prod.fst
    ·rw [if_pos b,if_pos (by rw [yl]; exact yp _ b),yl]
    ·rw [if_neg b,if_neg (by rw [yl,yH]; rintro (c | c); exact h c.symm; exact b c)]; rfl
theorem zjV {α : Type} (k : Int) (a : α) {S : List (Int × α)} (h : (S.map Prod.fst).Nodup) : ((zjb k a S).map Prod.fst).Nodup:=by
 rw [zwc];split
 ·exact h
 ·rename_i d
  rw [List.nodup_append];refine ⟨h,by simp,fun x c y b => ?_⟩;rw [List.mem_singleton] at b;intro e;exact d (by rw [← b,← e]; exact c)
theorem zp3 : ∀ (l : List Int) (i : Nat) (D : ziO),(D.map Prod.fst).Nodup → ((zb4 i D l).map Prod.fst).Nodup
 | [],_,_,h => h
 | _ :: r,_,_,h => zp3 r _ _ (zjV _ _ h)
theorem ztd (i : Int) : ∀ (l : List PPhi) (D : ziO),(D.map Prod.fst).Nodup → ((zgT i D l).1.map Prod.fst).Nodup
 | [],_,h => h
 | p :: r,D,h => by
   unfold zgT;split
   ·exact h
   ·split
    ·exact ztd i r _ (zjV _ _ h)
    ·exact zjV _ _ h
theorem zrJ (i : Int) : ∀ (l : List POp) (k : Nat) (D : ziO),(D.map Prod.fst).Nodup → ((zgv i k D l).1.map Prod.fst).Nodup
 | [],_,_,h => h
 | p :: r,k,D,h => by
   unfold zgv;split
   ·exact zrJ i r _ _ h
   ·split
    ·exact zrJ i r _ _ (zjV _ _ h)
    ·exact zjV _ _ h
theorem zpR : ∀ (l : List PBlock) (i : Nat) (D : ziO),(D.map Prod.fst).Nodup → ((zc9 i D l).1.map Prod.fst).Nodup
 | [],_,_,h => h
 | b :: r,i,D,h => by
   unfold zc9;have a:=ztd i b.phis D h;split
   ·rename_i e; rw [e] at a; exact a
   ·rename_i d e
    rw [e] at a;have c:=zrJ i b.ops 0 d a;split
    ·rename_i e2; rw [e2] at c; exact c
    ·rename_i e2; rw [e2] at c; exact zpR r _ _ c
theorem ztJ (f : PFunc) : ((zj4 f).1.map Prod.fst).Nodup:=zpR _ _ _ (zp3 _ _ _ (by simp))
def zer (f : PFunc) : SMap:=ztG [] (zj4 f).1
theorem zpG {α : Type} (enc : α → V) (n : Nat) (h : ∀ a,(enc a).shift n = enc a) : ∀ D : List (Int × α),yR (fun e => (e.fst,V.shift n e.snd)) (zgx enc D) = zgx enc D
 | [] => rfl
 | e :: r => by
   have b:=zpG enc n h r;unfold zgx at b ⊢;simp only [yl,h,b]
theorem zl3 (n : Nat) (D : ziO) : yR (fun e => (e.fst,V.shift n e.snd)) (zgx zhn D) = zgx zhn D:=zpG zhn n (fun _ => rfl) D
theorem zqA (n : Nat) (D : SMap) : yR (fun e => (e.fst,V.shift n e.snd)) (zgx vSh D) = zgx vSh D:=zpG vSh n (fun _ => rfl) D
abbrev zKv (f : PFunc) (tree : List Int) : zd:=[O0 f,O0 f,.cells 0 8 [[.f (.sl (f.params.map ri)),.f (.lit (.int .i64 f.ret)),.f (.sl (f.blocks.map rb)),.f (.lit (.int .i64 2)),.f (.sl ((zn f).map rl)),.f (.sl ((z7 (zn f)).map rl)),.f (.sl (tree.map ri)),.map 5]],
 .cells 0 1 [[.fn 159 [.ptr 2 0 0 0] []],[.fn 160 [.ptr 2 0 0 0] []],[.fn 161 [.ptr 2 0 0 0] []],[.fn 162 [.ptr 2 0 0 0] []],[.fn 163 [.ptr 2 0 0 0] []]],
 .cells 0 1 [[.ptr 2 0 0 0]],.mp (zgx zhn (zj4 f).1),.mp (zgx vSh (zer f))]
theorem zwF (f : PFunc) (d : okF f) (tree : List Int) (b : zm6 f tree) (a : ziQ f 2 tree = 0) :
  call T 84 [za9 f] [] = some (.one (.map 6),zKv f tree):=by
 rw [ze (fn:=zjv) rfl];obtain ⟨σ',h,c⟩:=zw3 f d 2 tree b;rw [c a,a] at h;have e : zjc 2 (some 2) 4 (zgx zhn (zj4 f).1) [] = some (zgx vSh (zer f)):=zy2 (zj4 f).1 [];simp -implicitDefEqProofs only [go_sem] at h;simp -implicitDefEqProofs only [go_sem,zjv,h,zCi,zxc,zyZ,zl3,e,vSh,zKv]
variable (a0 a1 a2 a3 a4 a5 a6 a7 a8 a9 : V)
def row (t : Int × Int) : List Fz:=[.lit (.int .i64 t.1),.lit (.int .u64 t.2)]
def rows (ts : List (Int × Int)) : List (List Fz):=ts.map row
def fF (ts : List (Int × Int)) (off : Int) : V:=.agg [.f (.sl (rows ts)),.f (.lit (.int .u64 off))]
theorem zi1 {k n : Nat} (h : k < n) (a : n ≤ 9223372036854775807) : Go.IntKind.i64.wrap ((k : Int) + 1) = ((k + 1 : Nat) : Int):=by rw [wrap_i64] <;> omega
def zg : Int → List (Int × Int) → Bool
 | _,[] => true
 | last,t :: r => if t.1 ≤ last ∨ 1023 < t.1 ∨ t.2 = 0 then false else zg t.1 r
theorem zGH (a : List (Int × Int)) (off : Int) (j : a.length ≤ 9223372036854775807) : ∀ (d k : Nat) (last : Int) (a0 a1 a2 a4 a8 a9 : V),a.length - k = d → k ≤ a.length →
  (zg last (a.drop k) = true → exec T zgF ⟨[a0,a1,a2,vI last,a4,vL (rows a),vI a.length,vI k,a8,a9],[.cells 0 2 [[.f (.sl (rows a)),.f (.lit (.int .u64 off))]]],0,0⟩ = some (.exit 0,⟨[vU,vU,vU,vU,vU,vU,vU,vU,vU,vU],[.cells 0 2 [[.f (.sl (rows a)),.f (.lit (.int .u64 off))]]],0,0⟩)) ∧
  (zg last (a.drop k) = false → ∃ o,exec T zgF ⟨[a0,a1,a2,vI last,a4,vL (rows a),vI a.length,vI k,a8,a9],[.cells 0 2 [[.f (.sl (rows a)),.f (.lit (.int .u64 off))]]],0,0⟩ = some (.ret,⟨[vU,vU,vB false,vU,vU,vU,vU,vU,vU,vU],[.cells 0 2 [[.f (.sl (rows a)),.f (.lit (.int .u64 off))]],o],0,0⟩)):=by
 intro d
 induction d with
 | zero =>
   intro k last a0 a1 a2 a4 a8 a9 i g;have b : k = a.length:=(by omega);subst b;rw [xl zgF rfl,zkq];simp -implicitDefEqProofs only [go_sem,yv,yx,zg,true_implies,false_implies,reduceCtorEq]
 | succ d ih =>
   intro k last a0 a1 a2 a4 a8 a9 i g;have b : k < a.length:=(by omega);have hd : a.drop k = a[k] :: a.drop (k + 1):=ya b;have c : (k : Int) < (a.length : Int):=(by omega);have e : (rows a)[k]? = some (row a[k]):=(by simp [rows,b]);rw [xl zgF rfl,zkq,hd];simp -implicitDefEqProofs only [go_sem,c,yg,yh,e,row,zg]
   by_cases c1 : a[k].1 ≤ last
   ·simp -implicitDefEqProofs only [go_sem,c1,true_or]
    exact ⟨fun h => by simp at h,fun _ => ⟨_,rfl⟩⟩
   ·by_cases c2 : 1023 < a[k].1
    ·simp -implicitDefEqProofs only [go_sem,c1,c2,true_or,or_true]
     exact ⟨fun h => by simp at h,fun _ => ⟨_,rfl⟩⟩
    ·by_cases c3 : a[k].2 = 0
     ·simp -implicitDefEqProofs only [go_sem,c1,c2,c3,true_or,or_true]
      exact ⟨fun h => by simp at h,fun _ => ⟨_,rfl⟩⟩
     ·simp -implicitDefEqProofs only [go_sem,c1,c2,c3,zi1 b j,or_false]
      exact ih (k + 1) _ _ _ _ _ _ _ (by omega) (by omega)
theorem zzg (a : List (Int × Int)) (off : Int) (c : a.length ≤ 9223372036854775807) : call T 36 [fF a off] [] = some (zk4 (zg 0 a),[]):=by
 rw [ze (fn:=ziZ) rfl];have h:=zGH a off c a.length 0 0
 cases hm : zg 0 a with
 | true =>
   have b:=fun a0 a1 a2 a4 a8 a9 => (h a0 a1 a2 a4 a8 a9 (by omega) (by omega)).1 hm;simp -implicitDefEqProofs only [go_sem,ziZ,fF,rows,row,yz,yq] at b ⊢;simp -implicitDefEqProofs only [go_sem,b]
 | false =>
   obtain ⟨o,b⟩:=(h (fF a off) (.one (.ptr 0 0 0 0)) (vB false) vU vU vU (by omega) (by omega)).2 hm;simp -implicitDefEqProofs only [go_sem,ziZ,fF,rows,yz,yq] at b ⊢;simp -implicitDefEqProofs only [go_sem,b]
end AC
namespace AC
open Go Go.A Go.A.Lex
theorem zwL {ts : List (Int × Int)} {k : Nat} (a : k < ts.length) : (rows ts)[k]? = some (row ts[k]):=by simp [rows,a]
theorem zv (ts : List (Int × Int)) : (rows ts).length = ts.length:=by simp [rows]
theorem zwk (ts : List (Int × Int)) (a b : Int) : rows ts ++ [[.lit (.int .i64 a),.lit (.int .u64 b)]] = rows (ts ++ [(a,b)]):=by simp [rows,row]
theorem zoN : ∀ ts : List (Int × Int),Fz.beqs (rows ts) (rows ts) = true
 | [] => rfl
 | t :: r => by
   have:=zoN r;simp only [rows,yl,row] at this ⊢;simp [Fz.beqs,Fz.beqR,Fz.beq,Value.beq,this]
theorem zl : rows [] = []:=rfl
def zrr (a b : Int) (l : List (Int × Int)) : List (Int × Int):=if b = 0 then l else (a,b) :: l
def zaL (op : Int → Int → Int) : List (Int × Int) → List (Int × Int) → List (Int × Int)
 | [],[] => []
 | t :: ts,[] => zrr t.1 (op t.2 0) (zaL op ts [])
 | [],u :: us => zrr u.1 (op 0 u.2) (zaL op [] us)
 | t :: ts,u :: us => if t.1 < u.1 then zrr t.1 (op t.2 0) (zaL op ts (u :: us)) else if u.1 < t.1 then zrr u.1 (op 0 u.2) (zaL op (t :: ts) us) else zrr t.1 (op t.2 u.2) (zaL op ts us)
 termination_by ts us => ts.length + us.length
def bx (ts : List (Int × Int)) (off : Int) : Ob:=.cells 0 2 [[.f (.sl (rows ts)),.f (.lit (.int .u64 off))]]
def bo6 (acc : List (Int × Int)) (off : Int) : Ob:=.cells 0 2 [[.ap 6 0 (rows acc),.f (.lit (.int .u64 off))]]
def zz : Ob:=.cells 0 2 [[.f (.sl []),.f (.lit (.int .u64 0))]]
theorem zlH (acc : List (Int × Int)) (a b : Int) (l : List (Int × Int)) : acc ++ zrr a b l = (if b = 0 then acc else acc ++ [(a,b)]) ++ l:=by
 unfold zrr;split <;> simp
theorem zBX (xs ys : List (List Fz)) : V.beq (.one (.f (.sl xs))) (.one (.f (.sl ys))) = Fz.beqs xs ys:=by simp only [V.beq,C.beq,Fz.beq]
theorem zxK (k : IntKind) (a : Int) : V.beq (.one (.f (.lit (.int k a)))) (.one (.f (.lit (.int k a)))) = true:=by simp [V.beq,C.beq,Fz.beq,Value.beq]
theorem zED (k c : IntKind) (a b : Int) (o : Nat) : V.beq (.one (.fp [.lit (.int k a),.lit (.int c b)] o)) (.one (.fp [.lit (.int k a),.lit (.int c b)] o)) = true:=by simp [V.beq,C.beq,Fz.beqR,Fz.beq,Value.beq]
def zq4 : Go.A.Code:=zu.p1
def zdO : Go.A.Code:=zu.p2.p1.p2.p1.p1
def zyx : Go.A.Code:=zu.p2.p1.p2.p2
theorem ztz : zu = .seq zq4 (.block 1 (.seq (.reg [w 9 (.al [.f (.lit (.int .i64 0)),.f (.lit (.int .u64 0))] [])]) (.seq (.block 2 zdO) zyx))):=rfl
section
variable (a0 a1 : V) (op : Int → Int → Int) (g : Nat) (caps : List C) (o0 o1 o2 : Ob) (ts us acc : List (Int × Int)) (off off' off2 : Int) (i k : Nat) (hl : ts.length + us.length ≤ 4294967296)
abbrev zhX (i k : V) (b9 b10 b11 b12 b13 : V) : List V:=[a0,a1,.one (.fn g [] caps),.one (.ptr 3 0 0 0),.one (.ptr 4 0 0 0),.one (.ptr 5 0 0 0),.one (.ptr 7 0 0 0),i,k,b9,b10,b11,b12,b13]
abbrev bst (tl : List Ob) : zd:=o0 :: o1 :: o2 :: bx ts off :: bx us off' :: zz :: .tok 2 [acc.length] :: bo6 acc off2 :: tl
def ob8 (v s : Int) : Ob:=.cells 0 2 [[.f (.lit (.int .i64 v)),.f (.lit (.int .u64 s))]]
theorem zAm (h : i < ts.length ∨ k < us.length) (a9 a10 a11 a12 a13 : V) : exec T zq4 ⟨zhX a0 a1 g caps (vI i) (vI k) a9 a10 a11 a12 a13,bst o0 o1 o2 ts us acc off off' off2 [],3,3⟩ = some (.normal,⟨zhX a0 a1 g caps (vI i) (vI k) a9 (vB true) a11 a12 a13,bst o0 o1 o2 ts us acc off off' off2 [],3,3⟩):=by
 unfold zq4 zu Code.p1
 by_cases ci : i < ts.length
 ·have a : (i : Int) < (ts.length : Int):=by omega
  simp -implicitDefEqProofs only [go_sem,zhX,bst,bx,bo6,zz,zv,a]
 ·have a : ¬ (i : Int) < (ts.length : Int):=by omega
  have b : (k : Int) < (us.length : Int):=by omega
  simp -implicitDefEqProofs only [go_sem,zhX,bst,bx,bo6,zz,zv,a,b]
theorem zxh (b : i = ts.length) (c : k = us.length) (a : C.lts 8 caps = true) (f : o0.lt 8 = true) (d : o1.lt 8 = true) (e : o2.lt 8 = true) (a9 a10 a11 a12 a13 : V) : exec T zq4 ⟨zhX a0 a1 g caps (vI i) (vI k) a9 a10 a11 a12 a13,bst o0 o1 o2 ts us acc off off' off2 [],3,3⟩ =
  some (.exit 0,⟨[vU,vU,vU,vU,vU,.one (.ptr 5 0 0 0),.one (.ptr 7 0 0 0),vU,vU,vU,vU,vU,vU,vU],bst o0 o1 o2 ts us acc off off' off2 [],3,3⟩):=by
 subst b;subst c;unfold zq4 zu Code.p1;simp -implicitDefEqProofs only [go_sem,zhX,bst,bx,bo6,zz,zv,yv]
include hl in
theorem zAt (i k : V) (j : acc.length < ts.length + us.length) (v s : Int) (a e c f : V) : ∃ b,exec T zyx ⟨zhX a0 a1 g caps i k (.one (.ptr 8 0 0 0)) a e c f,bst o0 o1 o2 ts us acc off off' off2 [ob8 v s],3,3⟩ =
  some (.normal,⟨zhX a0 a1 g caps i k (.one (.ptr 8 0 0 0)) a e c b,bst o0 o1 o2 ts us (if s = 0 then acc else acc ++ [(v,s)]) off off' off2 [ob8 v s],3,3⟩):=by
 have d : acc.length + 1 ≤ LIM:=by unfold LIM; omega
 unfold zyx zu Code.p1 Code.p2
 by_cases h : s = 0
 ·exact ⟨vB false,by simp -implicitDefEqProofs only [go_sem,zhX,bst,bx,bo6,zz,ob8,zv,h,decide_true]⟩
 ·exact ⟨vB true,by simp -implicitDefEqProofs only [go_sem,zhX,bst,bx,bo6,zz,ob8,zv,h,decide_false,d,zwk]⟩
def zqY : Go.A.Code:=zdO.p1
def zxH : Go.A.Code:=zdO.p2.p1.p1
def zxP : Go.A.Code:=zdO.p2.p1.p2
def zxI : Go.A.Code:=zdO.p2.p2.p1
def zxY : Go.A.Code:=zdO.p2.p2.p2.p1.p1
def zxg : Go.A.Code:=zdO.p2.p2.p2.p1.p2
def zx4 : Go.A.Code:=zdO.p2.p2.p2.p2.p1
def zx7 : Go.A.Code:=zdO.p2.p2.p2.p2.p2
theorem zjU : zdO = .seq zqY (.cond (.s 11) (.seq zxH zxP) (.seq zxI (.cond (.s 12) (.seq zxY zxg) (.seq zx4 zx7)))):=rfl
variable (a10 a11 a12 a13 : V)
abbrev vp8 : V:=.one (.ptr 8 0 0 0)
theorem zw4 (h : k = us.length ∨ ∃ (d : i < ts.length) (c : k < us.length),ts[i].1 < us[k].1) (c : k ≤ us.length) : exec T zqY ⟨zhX a0 a1 g caps (vI i) (vI k) vp8 a10 a11 a12 a13,bst o0 o1 o2 ts us acc off off' off2 [ob8 0 0],3,3⟩ =
  some (.normal,⟨zhX a0 a1 g caps (vI i) (vI k) vp8 a10 (vB true) a12 a13,bst o0 o1 o2 ts us acc off off' off2 [ob8 0 0],3,3⟩):=by
 unfold zqY zdO zu Code.p1 Code.p2
 by_cases ck : k = us.length
 ·subst ck
  simp -implicitDefEqProofs only [go_sem,zhX,bst,bx,bo6,zz,ob8,zv]
 ·have a : ¬ (k : Int) = (us.length : Int):=by omega
  rcases h with h | ⟨d,c,h⟩
  ·exact absurd h ck
  have b : (i : Int) < (ts.length : Int):=by omega
  simp -implicitDefEqProofs only [go_sem,zhX,bst,bx,bo6,zz,ob8,zv,a,b,yg,yh,zwL d,zwL c,row,h]
theorem zrO (c : k < us.length) (h : ∀ hi : i < ts.length,¬ ts[i].1 < us[k].1) : exec T zqY ⟨zhX a0 a1 g caps (vI i) (vI k) vp8 a10 a11 a12 a13,bst o0 o1 o2 ts us acc off off' off2 [ob8 0 0],3,3⟩ =
  some (.normal,⟨zhX a0 a1 g caps (vI i) (vI k) vp8 a10 (vB false) a12 a13,bst o0 o1 o2 ts us acc off off' off2 [ob8 0 0],3,3⟩):=by
 unfold zqY zdO zu Code.p1 Code.p2;have b : ¬ (k : Int) = (us.length : Int):=by omega
 by_cases hi : i < ts.length
 ·have a : (i : Int) < (ts.length : Int):=by omega
  simp -implicitDefEqProofs only [go_sem,zhX,bst,bx,bo6,zz,ob8,zv,b,a,yg,yh,zwL hi,zwL c,row,h hi]
 ·have a : ¬ (i : Int) < (ts.length : Int):=by omega
  simp -implicitDefEqProofs only [go_sem,zhX,bst,bx,bo6,zz,ob8,zv,b,a]
theorem zpc (b : i ≤ ts.length) (e : k < us.length) (c : Bool) (h : (∃ h : i < ts.length,c = decide (us[k].1 < ts[i].1)) ∨ (i = ts.length ∧ c = true)) : exec T zxI ⟨zhX a0 a1 g caps (vI i) (vI k) vp8 a10 a11 a12 a13,bst o0 o1 o2 ts us acc off off' off2 [ob8 0 0],3,3⟩ =
  some (.normal,⟨zhX a0 a1 g caps (vI i) (vI k) vp8 a10 a11 (vB c) a13,bst o0 o1 o2 ts us acc off off' off2 [ob8 0 0],3,3⟩):=by
 unfold zxI zdO zu Code.p1 Code.p2;rcases h with ⟨b,h⟩ | ⟨h,d⟩
 ·have a : ¬ (i : Int) = (ts.length : Int):=by omega
  simp -implicitDefEqProofs only [go_sem,zhX,bst,bx,bo6,zz,ob8,zv,a,yg,yh,zwL b,zwL e,row,h]
 ·subst d
  subst h;simp -implicitDefEqProofs only [go_sem,zhX,bst,bx,bo6,zz,ob8,zv]
section
variable (hdo : ∀ a b τ,call T g (zf4 a :: zf4 b :: caps.map V.one) (o0 :: o1 :: o2 :: τ) = some (zf4 (op a b),o0 :: o1 :: o2 :: τ))
include hdo
theorem ztw (a : i < ts.length) : exec T zxH ⟨zhX a0 a1 g caps (vI i) (vI k) vp8 a10 a11 a12 a13,bst o0 o1 o2 ts us acc off off' off2 [ob8 0 0],3,3⟩ =
  some (.normal,⟨zhX a0 a1 g caps (vI i) (vI k) vp8 a10 a11 a12 a13,bst o0 o1 o2 ts us acc off off' off2 [ob8 ts[i].1 (op ts[i].2 0)],3,3⟩):=by
 unfold zxH zdO zu Code.p1 Code.p2;simp -implicitDefEqProofs only [go_sem,zhX,bst,bx,bo6,zz,ob8,zn7,zxf,zcc,zpA,yI,yL,yE,zBX,zED,zxK,zoN,yg,yh,zwL a,row,hdo]
theorem zs7 (a : k < us.length) : exec T zxY ⟨zhX a0 a1 g caps (vI i) (vI k) vp8 a10 a11 a12 a13,bst o0 o1 o2 ts us acc off off' off2 [ob8 0 0],3,3⟩ =
  some (.normal,⟨zhX a0 a1 g caps (vI i) (vI k) vp8 a10 a11 a12 a13,bst o0 o1 o2 ts us acc off off' off2 [ob8 us[k].1 (op 0 us[k].2)],3,3⟩):=by
 unfold zxY zdO zu Code.p1 Code.p2;simp -implicitDefEqProofs only [go_sem,zhX,bst,bx,bo6,zz,ob8,zn7,zxf,zcc,zpA,yI,yL,yE,zBX,zED,zxK,zoN,yg,yh,zwL a,row,hdo]
theorem zzZ (a : i < ts.length) (b : k < us.length) : exec T zx4 ⟨zhX a0 a1 g caps (vI i) (vI k) vp8 a10 a11 a12 a13,bst o0 o1 o2 ts us acc off off' off2 [ob8 0 0],3,3⟩ =
  some (.normal,⟨zhX a0 a1 g caps (vI i) (vI k) vp8 a10 a11 a12 a13,bst o0 o1 o2 ts us acc off off' off2 [ob8 ts[i].1 (op ts[i].2 us[k].2)],3,3⟩):=by
 unfold zx4 zdO zu Code.p1 Code.p2;simp -implicitDefEqProofs only [go_sem,zhX,bst,bx,bo6,zz,ob8,zn7,zxf,zcc,zpA,yI,yL,yE,zBX,zED,zxK,zoN,yg,yh,zwL a,zwL b,row,hdo]
end
theorem zsL (a : i < ts.length) (hw : ts.length ≤ 9223372036854775807) (τ : zd) : exec T zxP ⟨zhX a0 a1 g caps (vI i) (vI k) vp8 a10 a11 a12 a13,τ,3,3⟩ =
  some (.normal,⟨zhX a0 a1 g caps (vI (i + 1 : Nat)) (vI k) vp8 a10 a11 a12 a13,τ,3,3⟩):=by
 unfold zxP zdO zu Code.p1 Code.p2;simp -implicitDefEqProofs only [go_sem,zhX,zi1 a hw]
theorem ztf (a : k < us.length) (hw : us.length ≤ 9223372036854775807) (τ : zd) : exec T zxg ⟨zhX a0 a1 g caps (vI i) (vI k) vp8 a10 a11 a12 a13,τ,3,3⟩ =
  some (.normal,⟨zhX a0 a1 g caps (vI i) (vI (k + 1 : Nat)) vp8 a10 a11 a12 a13,τ,3,3⟩):=by
 unfold zxg zdO zu Code.p1 Code.p2;simp -implicitDefEqProofs only [go_sem,zhX,zi1 a hw]
theorem zAh (b : i < ts.length) (c : k < us.length) (hw : ts.length ≤ 9223372036854775807) (a : us.length ≤ 9223372036854775807) (τ : zd) : exec T zx7 ⟨zhX a0 a1 g caps (vI i) (vI k) vp8 a10 a11 a12 a13,τ,3,3⟩ =
  some (.normal,⟨zhX a0 a1 g caps (vI (i + 1 : Nat)) (vI (k + 1 : Nat)) vp8 a10 a11 a12 a13,τ,3,3⟩):=by
 unfold zx7 zdO zu Code.p1 Code.p2;simp -implicitDefEqProofs only [go_sem,zhX,zi1 b hw,zi1 c a]
theorem zlJ (op : Int → Int → Int) (g : Nat) (caps : List C) (o0 o1 o2 : Ob) (e : C.lts 8 caps = true) (m : o0.lt 8 = true) (o : o1.lt 8 = true) (n : o2.lt 8 = true)
  (ts us : List (Int × Int)) (off off' off2 : Int) (hl : ts.length + us.length ≤ 4294967296) (i k f h : Nat) (l : i < ts.length ∨ k < us.length) (acc : List (Int × Int)) (d : acc.length < ts.length + us.length) (a0 a1 a9 a10 a11 a12 a13 : V) (v s : Int)
  (a : ∀ b11 b12 b13,∃ c11 c12 c13,exec T zdO ⟨zhX a0 a1 g caps (vI i) (vI k) vp8 (vB true) b11 b12 b13,bst o0 o1 o2 ts us acc off off' off2 [ob8 0 0],3,3⟩ =
   some (.normal,⟨zhX a0 a1 g caps (vI f) (vI h) vp8 (vB true) c11 c12 c13,bst o0 o1 o2 ts us acc off off' off2 [ob8 v s],3,3⟩)) (r : Option (Ex × St))
  (p : exec T zhh ⟨zhX vU vU g caps (vI f) (vI h) vU vU vU vU vU,bst o0 o1 o2 ts us (if s = 0 then acc else acc ++ [(v,s)]) off off' off2 [],3,3⟩ = r) :
  exec T zhh ⟨zhX a0 a1 g caps (vI i) (vI k) a9 a10 a11 a12 a13,bst o0 o1 o2 ts us acc off off' off2 [],3,3⟩ = r:=by
 obtain ⟨c11,c12,c13,a⟩:=a a11 a12 a13;obtain ⟨c,j⟩:=zAt a0 a1 g caps o0 o1 o2 ts us acc off off' off2 hl (vI f) (vI h) d v s (vB true) c11 c12 c13;refine zJw (b:=zu) (s1:=⟨zhX a0 a1 g caps (vI f) (vI h) vp8 (vB true) c11 c12 c,bst o0 o1 o2 ts us (if s = 0 then acc else acc ++ [(v,s)]) off off' off2 [ob8 v s],3,3⟩) rfl ?_ ?_ p
 ·rw [ztz]
  refine zmI (zAm a0 a1 g caps o0 o1 o2 ts us acc off off' off2 i k l a9 a10 a11 a12 a13) (zzI (zmI (s1:=⟨zhX a0 a1 g caps (vI i) (vI k) vp8 (vB true) a11 a12 a13,bst o0 o1 o2 ts us acc off off' off2 [ob8 0 0],3,3⟩) ?_ (zmI (zzI a) j)));simp -implicitDefEqProofs only [go_sem,zhX,bst,bx,bo6,zz,ob8]
 ·unfold Ob.lt at m o n
  simp -implicitDefEqProofs only [go_sem,zhX,bst,bx,bo6,zz,ob8,e,m,o,n]
theorem zCP (op : Int → Int → Int) (g : Nat) (caps : List C) (o0 o1 o2 : Ob) (e : C.lts 8 caps = true) (t : o0.lt 8 = true) (v : o1.lt 8 = true) (u : o2.lt 8 = true)
  (hdo : ∀ a b τ,call T g (zf4 a :: zf4 b :: caps.map V.one) (o0 :: o1 :: o2 :: τ) = some (zf4 (op a b),o0 :: o1 :: o2 :: τ))
  (ts us : List (Int × Int)) (off off' off2 : Int) (hl : ts.length + us.length ≤ 4294967296) :
  ∀ (d i k : Nat) (acc : List (Int × Int)) (a0 a1 a9 a10 a11 a12 a13 : V),(ts.length - i) + (us.length - k) ≤ d → i ≤ ts.length → k ≤ us.length → acc.length ≤ i + k →
  exec T zhh ⟨zhX a0 a1 g caps (vI i) (vI k) a9 a10 a11 a12 a13,bst o0 o1 o2 ts us acc off off' off2 [],3,3⟩ =
  some (.exit 0,⟨[vU,vU,vU,vU,vU,.one (.ptr 5 0 0 0),.one (.ptr 7 0 0 0),vU,vU,vU,vU,vU,vU,vU],
   bst o0 o1 o2 ts us (acc ++ zaL op (ts.drop i) (us.drop k)) off off' off2 [],3,3⟩):=by
 intro d
 induction d with
 | zero =>
   intro i k acc a0 a1 a9 a10 a11 a12 a13 z p s y;have j : i = ts.length:=(by omega);have c : k = us.length:=(by omega);refine zHV (b:=zu) rfl ?_ (by simp);rw [ztz];refine zJz ?_ (by simp);rw [zxh a0 a1 g caps o0 o1 o2 ts us acc off off' off2 i k j c e t v u];subst j;subst c;simp only [yx,zaL,List.append_nil]
 | succ d ih =>
   intro i k acc a0 a1 a9 a10 a11 a12 a13 z p s y
   by_cases j : i < ts.length
   ·have n : ts.drop i = ts[i] :: ts.drop (i + 1):=ya j
    by_cases c : k < us.length
    ·have l : us.drop k = us[k] :: us.drop (k + 1):=ya c
     by_cases m : ts[i].1 < us[k].1
     ·refine zlJ op g caps o0 o1 o2 e t v u ts us off off' off2 hl i k (i + 1) k (.inl j) acc (by omega) a0 a1 a9 a10 a11 a12 a13 ts[i].1 (op ts[i].2 0) (fun r o f => ⟨vB true,o,f,?_⟩) _ ?_
      ·rw [zjU]
       exact zmI (zw4 a0 a1 g caps o0 o1 o2 ts us acc off off' off2 i k _ _ _ _ (.inr ⟨j,c,m⟩) s) (zKo rfl (zmI (ztw a0 a1 op g caps o0 o1 o2 ts us acc off off' off2 i k _ _ _ _ hdo j) (zsL a0 a1 g caps ts i k _ _ _ _ j (by omega) _)))
      ·rw [ih (i + 1) k _ _ _ _ _ _ _ _ (by omega) (by omega) (by omega) (by split <;> (try rw [yo]) <;> (try simp only [yr,yt]) <;> omega),n,l,zaL,if_pos m,zlH]
     ·by_cases q : us[k].1 < ts[i].1
      ·refine zlJ op g caps o0 o1 o2 e t v u ts us off off' off2 hl i k i (k + 1) (.inl j) acc (by omega) a0 a1 a9 a10 a11 a12 a13 us[k].1 (op 0 us[k].2) (fun r o f => ⟨vB false,vB true,f,?_⟩) _ ?_
       ·rw [zjU]
        exact zmI (zrO a0 a1 g caps o0 o1 o2 ts us acc off off' off2 i k _ _ _ _ c (fun _ => m)) (zKy rfl (zmI (zpc a0 a1 g caps o0 o1 o2 ts us acc off off' off2 i k _ _ _ _ p c true (.inl ⟨j,by simp [q]⟩)) (zKo rfl (zmI (zs7 a0 a1 op g caps o0 o1 o2 ts us acc off off' off2 i k _ _ _ _ hdo c) (ztf a0 a1 g caps us i k _ _ _ _ c (by omega) _)))))
       ·rw [ih i (k + 1) _ _ _ _ _ _ _ _ (by omega) (by omega) (by omega) (by split <;> (try rw [yo]) <;> (try simp only [yr,yt]) <;> omega),n,l,zaL,if_neg m,if_pos q,zlH]
      ·refine zlJ op g caps o0 o1 o2 e t v u ts us off off' off2 hl i k (i + 1) (k + 1) (.inl j) acc (by omega) a0 a1 a9 a10 a11 a12 a13 ts[i].1 (op ts[i].2 us[k].2) (fun r o f => ⟨vB false,vB false,f,?_⟩) _ ?_
       ·rw [zjU]
        exact zmI (zrO a0 a1 g caps o0 o1 o2 ts us acc off off' off2 i k _ _ _ _ c (fun _ => m)) (zKy rfl (zmI (zpc a0 a1 g caps o0 o1 o2 ts us acc off off' off2 i k _ _ _ _ p c false (.inl ⟨j,by simp [q]⟩)) (zKy rfl (zmI (zzZ a0 a1 op g caps o0 o1 o2 ts us acc off off' off2 i k _ _ _ _ hdo j c) (zAh a0 a1 g caps ts us i k _ _ _ _ j c (by omega) (by omega) _)))))
       ·rw [ih (i + 1) (k + 1) _ _ _ _ _ _ _ _ (by omega) (by omega) (by omega) (by split <;> (try rw [yo]) <;> (try simp only [yr,yt]) <;> omega),n,l,zaL,if_neg m,if_neg q,zlH]
    ·have x : k = us.length:=by omega
     have l : us.drop k = []:=(by simp [x]);refine zlJ op g caps o0 o1 o2 e t v u ts us off off' off2 hl i k (i + 1) k (.inl j) acc (by omega) a0 a1 a9 a10 a11 a12 a13 ts[i].1 (op ts[i].2 0) (fun r o f => ⟨vB true,o,f,?_⟩) _ ?_
     ·rw [zjU]
      exact zmI (zw4 a0 a1 g caps o0 o1 o2 ts us acc off off' off2 i k _ _ _ _ (.inl x) s) (zKo rfl (zmI (ztw a0 a1 op g caps o0 o1 o2 ts us acc off off' off2 i k _ _ _ _ hdo j) (zsL a0 a1 g caps ts i k _ _ _ _ j (by omega) _)))
     ·rw [ih (i + 1) k _ _ _ _ _ _ _ _ (by omega) (by omega) (by omega) (by split <;> (try rw [yo]) <;> (try simp only [yr,yt]) <;> omega),n,l,zaL,zlH]
   ·have w : i = ts.length:=by omega
    have n : ts.drop i = []:=by simp [w]
    by_cases c : k < us.length
    ·have l : us.drop k = us[k] :: us.drop (k + 1):=ya c
     refine zlJ op g caps o0 o1 o2 e t v u ts us off off' off2 hl i k i (k + 1) (.inr c) acc (by omega) a0 a1 a9 a10 a11 a12 a13 us[k].1 (op 0 us[k].2) (fun r o f => ⟨vB false,vB true,f,?_⟩) _ ?_
     ·rw [zjU]
      exact zmI (zrO a0 a1 g caps o0 o1 o2 ts us acc off off' off2 i k _ _ _ _ c (fun h => absurd h j)) (zKy rfl (zmI (zpc a0 a1 g caps o0 o1 o2 ts us acc off off' off2 i k _ _ _ _ p c true (.inr ⟨w,rfl⟩)) (zKo rfl (zmI (zs7 a0 a1 op g caps o0 o1 o2 ts us acc off off' off2 i k _ _ _ _ hdo c) (ztf a0 a1 g caps us i k _ _ _ _ c (by omega) _)))))
     ·rw [ih i (k + 1) _ _ _ _ _ _ _ _ (by omega) (by omega) (by omega) (by split <;> (try rw [yo]) <;> (try simp only [yr,yt]) <;> omega),n,l,zaL,zlH]
    ·exact ih i k acc a0 a1 a9 a10 a11 a12 a13 (by omega) p s y
theorem zq5 (op : Int → Int → Int) (g : Nat) (caps : List C) (o0 o1 o2 : Ob) (f : C.lts 8 caps = true) (i : ∀ n,3 ≤ n → o0.lt n = true) (k : ∀ n,3 ≤ n → o1.lt n = true) (j : ∀ n,3 ≤ n → o2.lt n = true)
  (hdo : ∀ a b τ,call T g (zf4 a :: zf4 b :: caps.map V.one) (o0 :: o1 :: o2 :: τ) = some (zf4 (op a b),o0 :: o1 :: o2 :: τ))
  (ts us : List (Int × Int)) (off off' : Int) (hl : ts.length + us.length ≤ 4294967296) :
  call T 135 [fF ts off,fF us off',.one (.fn g [] caps)] [o0,o1,o2] = some (fF (zaL op ts us) (op off off'),[o0,o1,o2]):=by
 rw [ze (fn:=zkh) rfl];have e:=i 3 (yM 3);have d:=k 3 (yM 3);have c:=j 3 (yM 3);unfold Ob.lt at e d c;have h:=zCP op g caps o0 o1 o2 f (i 8 (by omega)) (k 8 (by omega)) (j 8 (by omega)) hdo ts us off off' (op off off') hl (ts.length + us.length) 0 0 [];have h:=fun a0 a1 a9 a10 a11 a12 a13 => h a0 a1 a9 a10 a11 a12 a13 (by omega) (by omega) (by omega) (by simp);simp -implicitDefEqProofs only [go_sem,zkh,zhX,bst,bx,bo6,zz,fF,hdo,yq,zl,e,d,c] at h ⊢;simp -implicitDefEqProofs only [go_sem,h,bx,e,d,c]
end
abbrev ztp (x : Int) : Int:=Go.IntKind.u64.wrap x
def pl (a b : Int) : Int:=ztp (a + b)
def mi (a b : Int) : Int:=ztp (a - b)
def ti (n : Int) (a _b : Int) : Int:=ztp (a * n)
theorem zAB (a b : Int) (τ : zd) : call T 137 [zf4 a,zf4 b] τ = some (zf4 (pl a b),τ):=by
 rw [ze (fn:=ziJ) rfl];simp -implicitDefEqProofs only [go_sem,ziJ,pl,ztp]
theorem zyf (a b : Int) (τ : zd) : call T 136 [zf4 a,zf4 b] τ = some (zf4 (mi a b),τ):=by
 rw [ze (fn:=zhL) rfl];simp -implicitDefEqProofs only [go_sem,zhL,mi,ztp]
theorem zyk (n : Int) (o0 c : Ob) (a b : Int) (τ : zd) : call T 138 [zf4 a,zf4 b,.one (.ptr 1 0 0 0)] (o0 :: .cells 0 1 [[.f (.lit (.int .u64 n))]] :: c :: τ) = some (zf4 (ti n a b),o0 :: .cells 0 1 [[.f (.lit (.int .u64 n))]] :: c :: τ):=by
 rw [ze (fn:=zhR) rfl];simp -implicitDefEqProofs only [go_sem,zhR,ti,ztp]
theorem zv5 (a : List (Int × Int)) (off : Int) (b : a.length ≤ 9223372036854775807) : call T 175 [fF a off] [] = some (zk4 (!zg 0 a),[]):=by
 rw [ze (fn:=zjq) rfl];have h:=zzg a off b;simp -implicitDefEqProofs only [go_sem,zjq,fF] at h ⊢;simp -implicitDefEqProofs only [go_sem,h]
theorem zsF (c us : List (Int × Int)) (off a : Int) (k : c.length ≤ 9223372036854775807) (e : us.length ≤ 9223372036854775807) :
  call T 225 [.one (.f (.sl [[.sl (rows c),.lit (.int .u64 off)],[.sl (rows us),.lit (.int .u64 a)]])),.one (.fn 175 [] [])] [] =
   some (vI (if zg 0 c then (if zg 0 us then -1 else 1) else 0),[]):=by
 rw [ze (fn:=za2) rfl];have h:=zv5 c off k;have b:=zv5 us a e;have g : IntKind.i64.wrap 1 = 1:=by decide
 have d : IntKind.i64.wrap 2 = 2:=by decide
 have n2 : ((2 : Nat) : Int) = 2:=rfl;have l : ∀ n : Nat,((n + 1 + 1 : Nat) : Int) = (n : Int) + 2:=fun n => by omega
 have e1 : (1 : Int) < 2:=by decide
 simp -implicitDefEqProofs only [go_sem,fF] at h b
 cases i : zg 0 c with
 | false =>
   simp -implicitDefEqProofs only [i,go_sem] at h;simp -implicitDefEqProofs only [go_sem,za2,xl zby rfl,zbB,h,g,d,n2,yG]
 | true =>
   simp -implicitDefEqProofs only [i,go_sem] at h
   cases j : zg 0 us with
   | false =>
     simp -implicitDefEqProofs only [j,go_sem] at b;simp -implicitDefEqProofs only [go_sem,za2,xl zby rfl,zbB,h,b,g,d,n2,yG]
   | true =>
     simp -implicitDefEqProofs only [j,go_sem] at b;simp -implicitDefEqProofs only [go_sem,za2,xl zby rfl,zbB,h,b,g,d,n2,yG]
theorem zo4 (b us : List (Int × Int)) (off a : Int) (g : b.length ≤ 9223372036854775807) (d : us.length ≤ 9223372036854775807) :
  call T 174 [.one (.f (.sl [[.sl (rows b),.lit (.int .u64 off)],[.sl (rows us),.lit (.int .u64 a)]])),.one (.fn 175 [] [])] [] =
   some (vB (!(zg 0 b && zg 0 us)),[]):=by
 rw [ze (fn:=zaA) rfl];have h:=zsF b us off a g d;have e1 : decide ((0 : Int) ≤ -1) = false:=by decide
 have e2 : decide ((0 : Int) ≤ 1) = true:=by decide
 have e3 : decide ((0 : Int) ≤ 0) = true:=by decide
 cases c : zg 0 b with
 | false =>
   simp -implicitDefEqProofs only [c,go_sem] at h;simp -implicitDefEqProofs only [go_sem,zaA,h,e3]
 | true =>
   cases e : zg 0 us with
   | false =>
     simp -implicitDefEqProofs only [c,e,go_sem] at h;simp -implicitDefEqProofs only [go_sem,zaA,h,e2]
   | true =>
     simp -implicitDefEqProofs only [c,e,go_sem] at h;simp -implicitDefEqProofs only [go_sem,zaA,h,e1]
theorem zzr (b us : List (Int × Int)) (off a : Int) (d : b.length ≤ 9223372036854775807) (c : us.length ≤ 9223372036854775807) :
  call T 134 [.one (.f (.sl [[.sl (rows b),.lit (.int .u64 off)],[.sl (rows us),.lit (.int .u64 a)]]))] [] =
   some (vB (zg 0 b && zg 0 us),[]):=by
 rw [ze (fn:=zlX) rfl];have h:=zo4 b us off a d c;simp -implicitDefEqProofs only [go_sem,zlX,h,Bool.not_not]
abbrev nF : V:=fF [] 0
theorem zEx (d us : List (Int × Int)) (off c : Int) (i : d.length + us.length ≤ 4294967296) :
  call T 82 [fF d off,fF us c] [] = some (if zg 0 d = true ∧ zg 0 us = true then fF (zaL pl d us) (pl off c) else nF,[]):=by
 rw [ze (fn:=zgN) rfl];have h:=zzr d us off c (by omega) (by omega);have f:=zq5 pl 137 [] (bx d off) (bx us c) zz rfl (fun _ _ => rfl) (fun _ _ => rfl) (fun _ _ => rfl) (fun a b τ => zAB a b _) d us off c i;simp -implicitDefEqProofs only [go_sem,bx,zz,fF] at f
 cases e : zg 0 d with
 | false =>
   simp -implicitDefEqProofs only [e,go_sem] at h;simp -implicitDefEqProofs only [go_sem,zgN,fF,h,false_and,zl]
 | true =>
   cases g : zg 0 us with
   | false =>
     simp -implicitDefEqProofs only [e,g,go_sem] at h;simp -implicitDefEqProofs only [go_sem,zgN,fF,h,and_false,zl]
   | true =>
     simp -implicitDefEqProofs only [e,g,go_sem] at h;simp -implicitDefEqProofs only [go_sem,zgN,fF,h,f]
theorem zBi (d us : List (Int × Int)) (off c : Int) (i : d.length + us.length ≤ 4294967296) :
  call T 81 [fF d off,fF us c] [] = some (if zg 0 d = true ∧ zg 0 us = true then fF (zaL mi d us) (mi off c) else nF,[]):=by
 rw [ze (fn:=zfY) rfl];have h:=zzr d us off c (by omega) (by omega);have f:=zq5 mi 136 [] (bx d off) (bx us c) zz rfl (fun _ _ => rfl) (fun _ _ => rfl) (fun _ _ => rfl) (fun a b τ => zyf a b _) d us off c i;simp -implicitDefEqProofs only [go_sem,bx,zz,fF] at f
 cases e : zg 0 d with
 | false =>
   simp -implicitDefEqProofs only [e,go_sem] at h;simp -implicitDefEqProofs only [go_sem,zfY,fF,h,false_and,zl]
 | true =>
   cases g : zg 0 us with
   | false =>
     simp -implicitDefEqProofs only [e,g,go_sem] at h;simp -implicitDefEqProofs only [go_sem,zfY,fF,h,and_false,zl]
   | true =>
     simp -implicitDefEqProofs only [e,g,go_sem] at h;simp -implicitDefEqProofs only [go_sem,zfY,fF,h,f]
theorem zz1 (c : List (Int × Int)) (off n : Int) (g : c.length ≤ 4294967296) :
  call T 83 [fF c off,zf4 n] [] = some (if zg 0 c = true then fF (zaL (ti n) c []) (ti n off 0) else nF,[]):=by
 rw [ze (fn:=zhr) rfl];have h:=zzg c off (by omega);have e:=zq5 (ti n) 138 [.ptr 1 0 0 0] (bx c off) (.cells 0 1 [[.f (.lit (.int .u64 n))]]) zz rfl (fun _ _ => rfl) (fun _ _ => rfl) (fun _ _ => rfl) (fun a b τ => zyk n _ _ a b _) c [] off 0 (by simpa using g);simp -implicitDefEqProofs only [go_sem,fF] at h;simp -implicitDefEqProofs only [go_sem,bx,zz,fF,zl] at e
 cases d : zg 0 c with
 | false =>
   simp -implicitDefEqProofs only [d,go_sem] at h;simp -implicitDefEqProofs only [go_sem,zhr,fF,h,zl]
 | true =>
   simp -implicitDefEqProofs only [d,go_sem] at h;simp -implicitDefEqProofs only [go_sem,zhr,fF,h,e]
abbrev zQ:=List (Int × Int) × Int
def vFm (x : zQ) : V:=fF x.1 x.2
abbrev zuD:=List (Int × zQ)
abbrev ziS:=List (Int × POp)
abbrev zlL : zQ:=([],0)
def zlB (a b : zQ) : zQ:=if zg 0 a.1 = true ∧ zg 0 b.1 = true then (zaL pl a.1 b.1,pl a.2 b.2) else zlL
def zil (a b : zQ) : zQ:=if zg 0 a.1 = true ∧ zg 0 b.1 = true then (zaL mi a.1 b.1,mi a.2 b.2) else zlL
def zfV (a : zQ) (n : Int) : zQ:=if zg 0 a.1 = true then (zaL (ti n) a.1 [],ti n a.2 0) else zlL
def tell (k : Int) (a b : zQ) : Option zQ :=
 if k = 1 then some (zlB a b) else if k = 2 then some (zil a b) else if k = 3 ∧ b.1.length = 0 then some (zfV a b.2)
 else if k = 3 ∧ a.1.length = 0 then some (zfV b a.2) else if k = 8 ∧ b.1.length = 0 ∧ b.2 < 64 then some (zfV a (IntKind.u64.wrap (1 * 2 ^ min b.2.toNat 64))) else none
def zvq (form : zuD → Int → Option (zQ × zuD)) (ops : ziS) (M : zuD) (v : Int) : Option (Option zQ × zuD) :=
 match getM v ops with
 | none => some (none,M)
 | some o => if o.bits ≠ 64 ∨ o.lanes ≠ 1 then some (none,M) else if o.kind = 0 then some (some ([],o.imm),M) else if o.kind < 1 ∨ 8 < o.kind then some (none,M)
   else match o.args with
    | a :: b :: _ => (form M a).bind fun x => (form x.2 b).bind fun y => if x.1.1.length + y.1.1.length ≤ 4294967296 ∧ 0 ≤ y.1.2 then some (tell o.kind x.1 y.1,y.2) else none
    | _ => none
def zha (v : Int) : Option zQ → zQ
 | some f => if 16 < f.1.length then ([(v,1)],0) else f
 | none => ([(v,1)],0)
def zly (ops : ziS) : Nat → zuD → Int → Option (zQ × zuD)
 | 0,_,_ => none
 | n + 1,M,v => match getM v M with
   | some f => some (f,M)
   | none => (zvq (zly ops n) ops M v).map fun r => (zha v r.1,zjb v (zha v r.1) r.2)
structure Finder (σ : zd) (x m1 m2 : Nat) (ops : ziS) (M : zuD) : Prop where
 hx : σ[x]? = some (.cells 0 2 [[.map m1,.map m2]])
 ho : σ[m1]? = some (.mp (zgx vOp ops))
 hf : σ[m2]? = some (.mp (zgx vFm M))
 ok : Ok σ
 n1 : m1 ≠ m2
 n2 : x ≠ m2
theorem zJt (n : Nat) (M : zuD) : C.ltm n (zgx vFm M) = true:=zrh vFm n (fun a => by simp [vFm,fF,V.lt,C.lts,C.lt]) M
theorem zmA (n m : Nat) (o : Ob) (b : o.lt n = true) : ∀ σ : zd,Obs.lt n σ = true → Obs.lt n (σ.set m o) = true:=by
 intro σ h
 induction σ generalizing m with
 | nil => exact h
 | cons a r ih =>
   simp only [Obs.lt,yJ] at h
   cases m with
   | zero => simp only [yS,Obs.lt,b,h.2,yP]
   | succ m => simp only [yS,Obs.lt,h.1,ih m h.2,yP]
theorem Finder.put {σ : zd} {x m1 m2 : Nat} {ops : ziS} {M : zuD} (h : Finder σ x m1 m2 ops M) (b : zuD) : Finder (σ.set m2 (.mp (zgx vFm b))) x m1 m2 ops b:=by
 have a : m2 < σ.length:=(ye.1 h.hf).1;refine ⟨?_,?_,?_,?_,h.n1,h.n2⟩
 ·rw [yF (fun e => h.n2 e.symm)]; exact h.hx
 ·rw [yF (fun e => h.n1 e.symm)]; exact h.ho
 ·simp [a]
 ·unfold Ok
  rw [yu];exact zmA _ _ _ (by simp only [Ob.lt]; exact zJt _ _) _ h.ok
theorem Finder.app {σ : zd} {x m1 m2 : Nat} {ops : ziS} {M : zuD} (h : Finder σ x m1 m2 ops M) (r : zd) (a : Obs.lt (σ.length + r.length) r = true) : Finder (σ ++ r) x m1 m2 ops M :=
 ⟨zdm h.hx r,zdm h.ho r,zdm h.hf r,h.ok.app a,h.n1,h.n2⟩
theorem zku {σ : zd} {m : Nat} {o0 : Ob} (h : σ[m]? = some o0) (o : Ob) (r : zd) : (σ ++ r).set m o = σ.set m o ++ r:=by
 rw [List.set_append_left _ _ (ye.1 h).1]
theorem zqy {σ : zd} {m : Nat} {o : Ob} (h : σ[m]? = some o) : σ.set m o = σ:=by
 obtain ⟨a,rfl⟩:=ye.1 h;exact List.set_getElem_self a
theorem zEq (k : Int) (D : ziS) : zhM k (zgx vOp D) = (getM k D).map vOp:=znZ vOp k D
theorem zIO (k : Int) (D : zuD) : zhM k (zgx vFm D) = (getM k D).map vFm:=znZ vFm k D
def zJ9 (ops : ziS) (n : Nat) : Prop:=∀ (σ : zd) (x m1 m2 : Nat) (M M' : zuD) (v : Int) (f : zQ),Finder σ x m1 m2 ops M → zly ops n M v = some (f,M') →
 call T 85 [.one (.ptr x 0 0 0),vI v] σ = some (vFm f,σ.set m2 (.mp (zgx vFm M')))
theorem zhD {α : Type} {σ : List α} {n : Nat} (h : σ.length = n) (o : α) (r : List α) : (σ ++ o :: r)[n]? = some o:=by subst h; simp
theorem zis {α : Type} {σ : List α} {n : Nat} (h : σ.length = n) (o p : α) (r : List α) : (σ ++ o :: p :: r)[n + 1]? = some p:=by subst h; simp
theorem ziL {α : Type} {σ : List α} {n : Nat} (h : σ.length = n) (o p a : α) (r : List α) : (σ ++ o :: p :: a :: r)[n + 2]? = some a:=by subst h; simp
theorem ziv {α : Type} {σ : List α} {n : Nat} (h : σ.length = n) (o p a s : α) (r : List α) : (σ ++ o :: p :: a :: s :: r)[n + 3]? = some s:=by subst h; simp
theorem zEG {α : Type} {σ : List α} {n : Nat} (h : σ.length = n) (o p a s t : α) (r : List α) : (σ ++ o :: p :: a :: s :: t :: r)[n + 4]? = some t:=by subst h; simp
theorem zlQ {α : Type} {σ : List α} {n : Nat} (h : σ.length = n) (x o : α) (r : List α) : (σ ++ o :: r).set n x = σ ++ x :: r:=by subst h; simp [yk]
theorem zoo {α : Type} {σ : List α} {n : Nat} (h : σ.length = n) (x o p : α) (r : List α) : (σ ++ o :: p :: r).set (n + 1) x = σ ++ o :: x :: r:=by subst h; simp [yk]
theorem zk8 {α : Type} {σ : List α} {n : Nat} (h : σ.length = n) (x o p a : α) (r : List α) : (σ ++ o :: p :: a :: r).set (n + 2) x = σ ++ o :: p :: x :: r:=by subst h; simp [yk]
theorem zjP {α : Type} {σ : List α} {n : Nat} (h : σ.length = n) (x o p a s : α) (r : List α) : (σ ++ o :: p :: a :: s :: r).set (n + 3) x = σ ++ o :: p :: a :: x :: r:=by subst h; simp [yk]
theorem zCb {α : Type} {σ : List α} {n : Nat} (h : σ.length = n) (x o p a s t : α) (r : List α) : (σ ++ o :: p :: a :: s :: t :: r).set (n + 4) x = σ ++ o :: p :: a :: s :: x :: r:=by subst h; simp [yk]
theorem zij {α : Type} {σ : List α} {n : Nat} (h : σ.length = n) (r : List α) : (σ ++ r).take n = σ:=by subst h; simp
theorem zCL : ∀ l : List Int,Fz.beqs (l.map ri) (l.map ri) = true
 | [] => rfl
 | x :: r => by
   rw [yl,Fz.beqs,zCL r];simp [ri,ei,Fz.beqR,Fz.beq,Value.beq]
theorem zay (a b : Int) (l : List Int) : Fz.beqs ([.lit (.int .i64 a)] :: [.lit (.int .i64 b)] :: l.map ri) ([.lit (.int .i64 a)] :: [.lit (.int .i64 b)] :: l.map ri) = true:=zCL (a :: b :: l)
theorem n21 (n : Nat) : n + 2 + 1 = n + 3:=rfl
theorem zAT (a b : zQ) (c : a.1.length + b.1.length ≤ 4294967296) : call T 82 [fF a.1 a.2,fF b.1 b.2] [] = some (fF (zlB a b).1 (zlB a b).2,[]):=by
 rw [zEx a.1 b.1 a.2 b.2 c,zlB];split <;> rfl
theorem zyi (a b : zQ) (c : a.1.length + b.1.length ≤ 4294967296) : call T 81 [fF a.1 a.2,fF b.1 b.2] [] = some (fF (zil a b).1 (zil a b).2,[]):=by
 rw [zBi a.1 b.1 a.2 b.2 c,zil];split <;> rfl
theorem znB (a : zQ) (n : Int) (b : a.1.length ≤ 4294967296) : call T 83 [fF a.1 a.2,zf4 n] [] = some (fF (zfV a n).1 (zfV a n).2,[]):=by
 rw [zz1 a.1 a.2 n b,zfV];split <;> rfl
set_option maxHeartbeats 2000000 in
theorem zEr (ops : ziS) (n : Nat) (hC : zJ9 ops n) (σ : zd) (x m1 m2 : Nat) (M M' : zuD) (v : Int) (f : Option zQ) (h : Finder σ x m1 m2 ops M) (hm : zvq (zly ops n) ops M v = some (f,M')) :
  call T 139 [.one (.ptr x 0 0 0),vI v] σ = some (.tup [vFm (f.getD zlL),vB f.isSome],σ.set m2 (.mp (zgx vFm M'))):=by
 rw [ze (fn:=zi) rfl];have K:=fun r => zdm h.hx r;have go:=fun r => zdm h.ho r;have N:=fun j => zgU h.hx j;have A:=h.hx;have t:=h.ho;have w:=zgS h.hx;have ok:=fun k => Ok.up h.ok k;have z:=Ok.at h.ok;have O:=zqy h.hf;unfold zvq at hm
 cases e : getM v ops with
 | none =>
   rw [e] at hm;simp only [Option.some.injEq,Prod.mk.injEq] at hm;obtain ⟨rfl,rfl⟩:=hm;have u:=zEq v ops;rw [e] at u;simp -implicitDefEqProofs only [go_sem] at u;simp -implicitDefEqProofs only [go_sem,zi,K,go,N,A,t,w,ok,z,O,u,vFm,fF,zl,yb,yn]
 | some o =>
   rw [e] at hm;have u:=zEq v ops;rw [e] at u;simp -implicitDefEqProofs only [go_sem] at u
   by_cases c1 : o.bits = 64
   ·by_cases c2 : o.lanes = 1
    ·by_cases c3 : o.kind = 0
     ·simp only [c1,c2,c3,ne_eq,not_true_eq_false,or_self,if_false,if_true,Option.some.injEq,Prod.mk.injEq] at hm
      obtain ⟨rfl,rfl⟩:=hm;simp -implicitDefEqProofs only [go_sem,zi,K,go,N,A,t,w,ok,z,O,u,c1,c2,c3,vFm,fF,zl,yf,yC]
     ·by_cases c4 : o.kind < 1
      ·simp only [c1,c2,c3,c4,true_or,ne_eq,not_true_eq_false,or_self,if_false,if_true,Option.some.injEq,Prod.mk.injEq] at hm
       obtain ⟨rfl,rfl⟩:=hm;simp -implicitDefEqProofs only [go_sem,zi,K,go,N,A,t,w,ok,z,O,u,c1,c2,c3,c4,vFm,fF,zl,yb,yn]
      ·by_cases c5 : 8 < o.kind
       ·simp only [c1,c2,c3,c4,c5,or_true,ne_eq,not_true_eq_false,or_self,if_false,if_true,Option.some.injEq,Prod.mk.injEq] at hm
        obtain ⟨rfl,rfl⟩:=hm;simp -implicitDefEqProofs only [go_sem,zi,K,go,N,A,t,w,ok,z,O,u,c1,c2,c3,c4,c5,vFm,fF,zl,yb,yn]
       ·simp only [c1,c2,c3,c4,c5,ne_eq,not_true_eq_false,or_self,if_false] at hm
        obtain ⟨d,aF,U,I,args,G⟩:=o;simp only at c1 c2 c3 c4 c5 hm u;subst c1;subst c2
        match args,hm,u with
        | [],hm,_ => simp at hm
        | [_],hm,_ => simp at hm
        | a :: b :: rest,hm,u =>
        simp only [Option.bind_eq_some_iff] at hm;obtain ⟨⟨fa,M1⟩,f1,⟨fb,V⟩,f2,hm⟩:=hm;simp only at f2 hm;split at hm
        case isFalse => simp at hm
        rename_i i;simp only [Option.some.injEq,Prod.mk.injEq] at hm;obtain ⟨rfl,rfl⟩:=hm;have r1:=h.app [Ob.cells 0 2 [[.f (.sl []),.f (.lit (.int .u64 0))]],.cells 0 6 [cOp ⟨d,64,1,I,a :: b :: rest,G⟩]] (by simp -implicitDefEqProofs only [go_sem]);have g1:=hC _ x m1 m2 _ _ a fa r1 f1;rw [zku h.hf] at g1;have R:=h.put M1;have r2:=R.app [Ob.cells 0 2 [[.f (.sl []),.f (.lit (.int .u64 0))]],.cells 0 6 [cOp ⟨d,64,1,I,a :: b :: rest,G⟩]] (by simp -implicitDefEqProofs only [go_sem]);have S:=hC _ x m1 m2 _ _ b fb r2 f2;rw [zku R.hf] at S;have h2:=R.put V;rw [yQ] at S h2;have C : (σ.set m2 (.mp (zgx vFm M1))).length = σ.length:=yu;have g : (σ.set m2 (.mp (zgx vFm V))).length = σ.length:=yu;generalize σ.set m2 (.mp (zgx vFm M1)) = σ1 at *;generalize σ.set m2 (.mp (zgx vFm V)) = σ2 at *;have aB:=fun (o : Ob) r => zhD C o r;have Z:=fun (o p : Ob) r => zis C o p r;have aD:=fun (o : Ob) r => zhD g o r;have Y:=fun (o p : Ob) r => zis g o p r;have aE:=fun (o p q : Ob) r => ziL g o p q r;have aC:=fun (o p q s : Ob) r => ziv g o p q s r;have W:=fun (x o : Ob) r => zlQ g x o r;have aA:=fun (x o p : Ob) r => zoo g x o p r;have X:=fun (x o p q : Ob) r => zk8 g x o p q r;have aG:=fun (x o p q s : Ob) r => zjP g x o p q s r;have tb:=fun (r : zd) => zij g r;have P:=fun k => Ok.up h2.ok k;have E:=Ok.at h2.ok;have Q:=fun k => Ok.up R.ok k;have D:=Ok.at R.ok;simp only [C,g] at P E Q D;simp -implicitDefEqProofs only [go_sem,vFm,fF,ri] at g1 S
        have ep : ∀ a b : zQ,zlB a b = if zg 0 a.1 = true ∧ zg 0 b.1 = true then (zaL pl a.1 b.1,pl a.2 b.2) else zlL:=fun _ _ => rfl
        have lA : fa.1.length ≤ 4294967296:=(by omega);have lB : fb.1.length ≤ 4294967296:=by omega
        have vP : ∀ (c : Prop) [Decidable c] (x y : zQ),(if c then x else y).1 = if c then x.1 else y.1:=fun c _ x y => by split <;> rfl
        have H:=yc K <| yc go <| yc N <| yc A <| yc t <| yc w <| yc ok <| yc z <| yc u <| yc C <| yc g <| yc g1 <| yc S <| yc aB <| yc Z <| yc aD <| yc Y <| yc aE <| yc aC <| yc W <| yc aA <| yc X <| yc aG <| yc tb <| yc Q <| yc P <| yc D E
        by_cases d1 : d = 1
        ·subst d1
         have m : tell 1 fa fb = some (zlB fa fb):=(by simp [tell]);have p1:=zAT fa fb i.1;simp -implicitDefEqProofs only [go_sem,fF] at p1;simp -implicitDefEqProofs only [go_sem,zi,H,vFm,fF,ri,zv,zl,m,zay,n21,yf,yb,p1]
        by_cases d2 : d = 2
        ·subst d2
         have m : tell 2 fa fb = some (zil fa fb):=(by simp [tell]);have p1:=zyi fa fb i.1;simp -implicitDefEqProofs only [go_sem,fF] at p1;simp -implicitDefEqProofs only [go_sem,zi,H,vFm,fF,ri,zv,zl,m,zay,n21,yf,yb,p1]
        by_cases d3 : d = 3
        ·subst d3
         by_cases B : (fb.1.length : Int) = 0
         ·have l : fb.1 = []:=ym (by omega)
          have m : tell 3 fa fb = some (zfV fa fb.2):=(by simp [tell,l]);have p1:=znB fa fb.2 lA;simp -implicitDefEqProofs only [go_sem,fF] at p1;simp -implicitDefEqProofs only [go_sem,zi,H,vFm,fF,ri,zv,zl,m,zay,n21,yf,yb,p1,B]
         ·have l : ¬ fb.1 = []:=fun h => B (by rw [h]; rfl)
          by_cases J : (fa.1.length : Int) = 0
          ·have L : fa.1 = []:=ym (by omega)
           have m : tell 3 fa fb = some (zfV fb fa.2):=(by simp [tell,l,L]);have p1:=znB fb fa.2 lB;simp -implicitDefEqProofs only [go_sem,fF] at p1;simp -implicitDefEqProofs only [go_sem,zi,H,vFm,fF,ri,zv,zl,m,zay,n21,yf,yb,p1,B,J,eq_true i.2]
          ·have L : ¬ fa.1 = []:=fun h => J (by rw [h]; rfl)
           have m : tell 3 fa fb = none:=(by simp [tell,l,L]);simp -implicitDefEqProofs only [go_sem,zi,H,vFm,fF,ri,zv,zl,m,zay,n21,yf,yb,B,J]
        by_cases d4 : d = 8
        ·subst d4
         by_cases B : (fb.1.length : Int) = 0
         ·have l : fb.1 = []:=ym (by omega)
          by_cases J : fb.2 < 64
          ·have m : tell 8 fa fb = some (zfV fa (IntKind.u64.wrap (1 * 2 ^ min fb.2.toNat 64))):=by simp [tell,l,J]
           have p1:=znB fa (IntKind.u64.wrap (1 * 2 ^ min fb.2.toNat 64)) lA;simp -implicitDefEqProofs only [go_sem,fF] at p1;simp -implicitDefEqProofs only [go_sem,zi,H,vFm,fF,ri,zv,zl,m,zay,n21,yf,yb,p1,B,J,eq_true i.2]
          ·have m : tell 8 fa fb = none:=by simp [tell,l,J]
           simp -implicitDefEqProofs only [go_sem,zi,H,vFm,fF,ri,zv,zl,m,zay,n21,yf,yb,B,J]
         ·have l : ¬ fb.1 = []:=fun h => B (by rw [h]; rfl)
          have m : tell 8 fa fb = none:=(by simp [tell,l]);simp -implicitDefEqProofs only [go_sem,zi,H,vFm,fF,ri,zv,zl,m,zay,n21,yf,yb,B]
        have m : tell d fa fb = none:=(by simp [tell,d1,d2,d3,d4]);simp -implicitDefEqProofs only [go_sem,zi,H,vFm,fF,ri,zv,zl,m,zay,n21,yf,yb,c3,c4,c5,d1,d2,d3,d4]
    ·simp only [c1,c2,not_false_eq_true,or_true,if_true,ne_eq,Option.some.injEq,Prod.mk.injEq] at hm
     obtain ⟨rfl,rfl⟩:=hm;simp -implicitDefEqProofs only [go_sem,zi,K,go,N,A,t,w,ok,z,O,u,c1,c2,vFm,fF,zl,yb,yn]
   ·simp only [c1,not_false_eq_true,true_or,if_true,ne_eq,Option.some.injEq,Prod.mk.injEq] at hm
    obtain ⟨rfl,rfl⟩:=hm;simp -implicitDefEqProofs only [go_sem,zi,K,go,N,A,t,w,ok,z,O,u,c1,vFm,fF,zl,yb,yn]
theorem zCT (ops : ziS) : ∀ n : Nat,zJ9 ops n:=by
 intro n
 induction n with
 | zero => intro σ x m1 m2 M M' v f _ h; simp [zly] at h
 | succ n ih =>
   intro σ x m1 m2 M M' v f h hf;rw [ze (fn:=za8) rfl];have gx:=fun r => zdm h.hx r;have gf:=fun r => zdm h.hf r;have Z:=fun j => zgU h.hx j;have lf:=fun j => zgU h.hf j;have C:=h.hx;have z:=h.hf;have y:=zgS h.hx;have m:=zgS h.hf;have ok:=fun k => Ok.up h.ok k;have u:=Ok.at h.ok;have i:=zIO v M;simp only [zly] at hf
   cases e : getM v M with
   | some f0 =>
     rw [e] at hf i;simp only [Option.some.injEq,Prod.mk.injEq] at hf;obtain ⟨rfl,rfl⟩:=hf;have hs:=zqy h.hf;simp -implicitDefEqProofs only [go_sem,vFm,fF] at i hs;simp -implicitDefEqProofs only [go_sem,za8,gx,gf,Z,lf,C,z,y,m,ok,u,hs,i,vFm,fF,zl]
   | none =>
     rw [e] at hf i;simp only [yw] at hf;obtain ⟨⟨r,t⟩,hm,hf⟩:=hf;simp only [Prod.mk.injEq] at hf;obtain ⟨rfl,rfl⟩:=hf;have r1:=h.app [Ob.cells 0 2 [[.f (.sl []),.f (.lit (.int .u64 0))]],.cells 0 2 [[.f (.sl []),.f (.lit (.int .u64 0))]],.cells 0 2 [[.f (.sl (rows [(v,1)])),.f (.lit (.int .u64 0))]]] (by simp -implicitDefEqProofs only [go_sem]);have K:=zEr ops n ih _ x m1 m2 M t v r r1 hm;rw [zku h.hf] at K;have Q:=h.put t;have a : (σ.set m2 (.mp (zgx vFm t))).length = σ.length:=yu;have b : ∀ Y,(σ.set m2 (.mp (zgx vFm t))).set m2 Y = σ.set m2 Y:=fun Y => yQ _;have fx:=fun r => zdm Q.hx r;have ff:=fun r => zdm Q.hf r;have U:=Q.hx;have P:=Q.hf;have B:=fun k => Ok.up Q.ok k;have g:=Ok.at Q.ok;have A:=fun Y r => zku Q.hf Y r;have h2:=h.put (zjb v (zha v r) t);have w:=fun k => Ok.up h2.ok k;have d:=Ok.at h2.ok;have hu : (σ.set m2 (.mp (zgx vFm (zjb v (zha v r) t)))).length = σ.length:=yu;have l:=zn5 vFm v (zha v r) t;simp only [a,hu] at B g w d;generalize hσ1 : σ.set m2 (.mp (zgx vFm t)) = σ1 at *;simp only [b] at A;generalize hσ2 : σ.set m2 (.mp (zgx vFm (zjb v (zha v r) t))) = σ2 at *;have E:=fun (o : Ob) r => zhD a o r;have O:=fun (o p : Ob) r => zis a o p r;have V:=fun (o p q : Ob) r => ziL a o p q r;have W:=fun (o p q s : Ob) r => ziv a o p q s r;have S:=fun (x o : Ob) r => zlQ a x o r;have L:=fun (x o p : Ob) r => zoo a x o p r;have I:=fun (x o p q : Ob) r => zk8 a x o p q r;have X:=fun (x o p q s : Ob) r => zjP a x o p q s r;have ta:=fun (r : zd) => zij a r;have G:=fun (o : Ob) r => zhD hu o r;have R:=fun (o p : Ob) r => zis hu o p r;have J:=fun (o p q : Ob) r => ziL hu o p q r;have D:=fun (o p q s : Ob) r => ziv hu o p q s r;have H:=fun (x o : Ob) r => zlQ hu x o r;have N:=fun (x o p : Ob) r => zoo hu x o p r;have tb:=fun (r : zd) => zij hu r;have aB : ∀ j,(x < σ.length + j) = True:=Z;have aA : ∀ j,(m2 < σ.length + j) = True:=lf
     cases r with
     | none =>
       simp only [zha] at l hσ2 ⊢;simp -implicitDefEqProofs only [go_sem,vFm,fF,rows,row,yb,yn] at K i l hσ2;simp -implicitDefEqProofs only [go_sem,za8,gx,gf,Z,lf,C,z,y,m,ok,u,i,K,a,hu,b,fx,ff,U,P,B,g,w,d,A,l,hσ2,E,O,V,W,S,L,I,X,ta,G,R,J,D,H,N,tb,vFm,fF,rows,row]
     | some f =>
       by_cases c : 16 < f.1.length
       ·have c' : (16 : Int) < (f.1.length : Int):=by omega
        simp only [zha,if_pos c] at l hσ2 ⊢;simp -implicitDefEqProofs only [go_sem,vFm,fF,rows,row,yf,yC] at K i l hσ2;simp -implicitDefEqProofs only [go_sem,za8,gx,gf,Z,lf,C,z,y,m,ok,u,i,K,a,hu,b,fx,ff,U,P,B,g,w,d,A,l,hσ2,E,O,V,W,S,L,I,X,ta,G,R,J,D,H,N,tb,vFm,fF,rows,row,yz,c']
       ·have c' : ¬ (16 : Int) < (f.1.length : Int):=by omega
        simp only [zha,if_neg c] at l hσ2 ⊢;simp -implicitDefEqProofs only [go_sem,vFm,fF,rows,row,yf,yC] at K i l hσ2;simp -implicitDefEqProofs only [go_sem,za8,gx,gf,Z,lf,C,z,y,m,ok,u,i,K,a,hu,b,fx,ff,U,P,B,g,w,d,A,l,hσ2,E,O,V,W,S,L,I,X,ta,G,R,J,D,H,N,tb,vFm,fF,rows,row,yz,c']
def zky : ziS → List POp → ziS
 | D,[] => D
 | D,o :: r => zky (zjb o.dst o D) r
def opsOf : ziS → List PBlock → ziS
 | D,[] => D
 | D,b :: r => opsOf (zky D b.ops) r
theorem ztx (n : Nat) (D : ziS) : C.ltm n (zgx vOp D) = true:=zrh vOp n (fun a => by simp [vOp,cOp,V.lt,C.lts,C.lt]) D
theorem zoP (n : Nat) (D : SMap) : C.ltm n (zgx vSh D) = true:=zrh vSh n (fun a => by simp [vSh,V.lt,C.lts,C.lt]) D
theorem zB0 (k : Int) (D : SMap) : zhM k (zgx vSh D) = (getM k D).map vSh:=znZ vSh k D
theorem zIq (k : Int) (o : POp) (D : ziS) : zg5 k (V.agg [.f (.lit (.int .i64 o.kind)),.f (.lit (.int .i64 o.bits)),.f (.lit (.int .i64 o.lanes)),.f (.lit (.int .i64 o.dst)),.f (.sl (o.args.map ri)),.f (.lit (.int .u64 o.imm))]) (zgx vOp D) = zgx vOp (zjb k o D):=zn5 vOp k o D
abbrev zBu (f : PFunc) (tree : List Int) (s : Int × Int) (D : ziS) (r : zd) : zd:=O0 f :: .cells 0 2 [[.f (.sl []),.f (.lit (.int .u64 0))]] :: O0 f :: O0 f ::
 .cells 0 8 [[.f (.sl (f.params.map ri)),.f (.lit (.int .i64 f.ret)),.f (.sl (f.blocks.map rb)),.f (.lit (.int .i64 2)),.f (.sl ((zn f).map rl)),.f (.sl ((z7 (zn f)).map rl)),.f (.sl (tree.map ri)),.map 7]] ::
 .cells 0 1 [[.fn 159 [.ptr 4 0 0 0] []],[.fn 160 [.ptr 4 0 0 0] []],[.fn 161 [.ptr 4 0 0 0] []],[.fn 162 [.ptr 4 0 0 0] []],[.fn 163 [.ptr 4 0 0 0] []]] ::
 .cells 0 1 [[.ptr 4 0 0 0]] :: .mp (zgx zhn (zj4 f).1) :: .mp (zgx vSh (zer f)) :: .cells 0 2 [[.f (.lit (.int .i64 s.1)),.f (.lit (.int .i64 s.2))]] ::
 .mp (zgx vOp D) :: .mp [] :: .cells 0 2 [[.map 10,.map 11]] :: r
section
variable (f : PFunc) (hf : okF f) (tree : List Int) (s : Int × Int) (v : Int)
include hf
theorem zLo (b : PBlock) (j : okB b) (h : Nat) : ∀ (d k : Nat) (D : ziS) (a0 a2 a4 a5 a6 a8 a9 c e a : V),b.ops.length - k = d → k ≤ b.ops.length →
  exec T zjm ⟨[a0,vI v,a2,.one (.ptr 1 0 0 0),a4,a5,a6,.one (.ptr 12 0 0 0),a8,a9,c,vL (f.blocks.map rb),vI f.blocks.length,vI h,e,vL (b.ops.map ro),vI b.ops.length,vI k,a],zBu f tree s D [.cells 0 5 [zx b]],0,0⟩ =
   some (.exit 2,⟨[vU,vI v,vU,.one (.ptr 1 0 0 0),vU,vU,vU,.one (.ptr 12 0 0 0),vU,vU,vU,vL (f.blocks.map rb),vI f.blocks.length,vI h,vU,vU,vU,vU,vU],zBu f tree s (zky D (b.ops.drop k)) [.cells 0 5 [zx b]],0,0⟩):=by
 intro d
 induction d with
 | zero =>
   intro k D a0 a2 a4 a5 a6 a8 a9 c e a m l;have g : k = b.ops.length:=(by omega);subst g;rw [xl zjm rfl,zlg];simp -implicitDefEqProofs only [go_sem,zBu,yv,yx,zky,zP,ztx,zoP]
 | succ d ih =>
   intro k D a0 a2 a4 a5 a6 a8 a9 c e a m l;have g : k < b.ops.length:=(by omega);have hd : b.ops.drop k = b.ops[k] :: b.ops.drop (k + 1):=ya g;have i:=zIq b.ops[k].dst b.ops[k] D;have:=ih (k + 1) (zjb b.ops[k].dst b.ops[k] D) vU vU vU vU vU vU vU vU vU vU (by omega) (by omega);rw [xl zjm rfl,zlg,hd,zky];simp -implicitDefEqProofs only [go_sem,zBu] at this;simp -implicitDefEqProofs only [go_sem,zBu,ilt g,zt g,ro,i,zP,ztx,zoP,za g j.ops,this]
theorem zLl : ∀ (d k : Nat) (D : ziS) (a0 a2 a4 a5 a6 a8 a9 b c e i h a : V),f.blocks.length - k = d → k ≤ f.blocks.length →
  exec T zjf ⟨[a0,vI v,a2,.one (.ptr 1 0 0 0),a4,a5,a6,.one (.ptr 12 0 0 0),a8,a9,b,vL (f.blocks.map rb),vI f.blocks.length,vI k,c,e,i,h,a],zBu f tree s D [],0,0⟩ =
   some (.exit 0,⟨[vU,vI v,vU,.one (.ptr 1 0 0 0),vU,vU,vU,.one (.ptr 12 0 0 0),vU,vU,vU,vU,vU,vU,vU,vU,vU,vU,vU],zBu f tree s (opsOf D (f.blocks.drop k)) [],0,0⟩):=by
 intro d
 induction d with
 | zero =>
   intro k D a0 a2 a4 a5 a6 a8 a9 b c e i h a m l;have g : k = f.blocks.length:=(by omega);subst g;rw [xl zjf rfl,zlD];simp -implicitDefEqProofs only [go_sem,zBu,yv,yx,opsOf,zP,ztx,zoP]
 | succ d ih =>
   intro k D a0 a2 a4 a5 a6 a8 a9 b c e i h a m l;have g : k < f.blocks.length:=(by omega);have hd : f.blocks.drop k = f.blocks[k] :: f.blocks.drop (k + 1):=ya g;have j:=hf.block _ (List.getElem_mem g);have q:=fun a0 a2 a4 a5 a6 a8 a9 b c a => zLo f hf tree s v f.blocks[k] j k f.blocks[k].ops.length 0 D a0 a2 a4 a5 a6 a8 a9 b c a (by omega) (by omega);simp only [yO,yq] at q;have:=ih (k + 1) (zky D f.blocks[k].ops) vU vU vU vU vU vU vU vU vU vU vU vU vU (by omega) (by omega);rw [xl zjf rfl,zlD,hd,opsOf];simp -implicitDefEqProofs only [go_sem,zBu] at this q;simp -implicitDefEqProofs only [go_sem,zBu,ilt g,zt g,rb,q,zP,ztx,zoP,za g hf.blocks,this]
omit hf in
theorem zCY (D : ziS) : Finder (zBu f tree s D []) 12 10 11 D []:=by
 refine ⟨rfl,rfl,rfl,?_,by decide,by decide⟩;unfold Ok;simp -implicitDefEqProofs only [go_sem,zBu,zP,ztx,zoP]
end
theorem zyu (f : PFunc) (hf : okF f) (tree : List Int) (g : zm6 f tree) (i : ziQ f 2 tree = 0) (v : Int) (d : getM v (zer f) ≠ some (64,1)) :
  call T 33 [za9 f,vI v] [] = some (.tup [vFm zlL,vI 10],[]):=by
 rw [ze (fn:=zgm) rfl];have b:=zwF f hf tree g i;have a:=zB0 v (zer f);simp -implicitDefEqProofs only [go_sem,zKv] at b
 cases e : getM v (zer f) with
 | none =>
   rw [e] at a;simp -implicitDefEqProofs only [go_sem] at a;simp -implicitDefEqProofs only [go_sem,zgm,b,a,zl3,zqA,zP,zoP,vFm,fF,zl]
 | some p =>
   rw [e] at a d;have c : ¬ (p.1 = 64 ∧ p.2 = 1):=fun h => d (by rw [← h.1,← h.2]);simp -implicitDefEqProofs only [go_sem,vSh] at a
   by_cases c1 : p.1 = 64
   ·have c2 : ¬ p.2 = 1:=fun c2 => c ⟨c1,c2⟩
    simp -implicitDefEqProofs only [go_sem,zgm,b,a,c1,c2,zl3,zqA,zP,zoP,vFm,fF,zl]
   ·simp -implicitDefEqProofs only [go_sem,zgm,b,a,c1,zl3,zqA,zP,zoP,vFm,fF,zl]
theorem zBH (f : PFunc) (hf : okF f) (tree : List Int) (m : zm6 f tree) (l : ziQ f 2 tree = 0) (v : Int) (p : getM v (zer f) = some (64,1)) (n : Nat) (r : zQ) (j : zuD) (o : zly (opsOf [] f.blocks) n [] v = some (r,j)) :
  call T 33 [za9 f,vI v] [] = some (.tup [vFm r,vI 0],[]):=by
 rw [ze (fn:=zgm) rfl];have k:=zwF f hf tree m l;have a:=zB0 v (zer f);rw [p] at a;have q:=fun a0 a2 a4 a5 a6 a8 a9 e g c h d b => zLl f hf tree (64,1) v f.blocks.length 0 [] a0 a2 a4 a5 a6 a8 a9 e g c h d b (by omega) (by omega);have i:=zCT (opsOf [] f.blocks) n _ 12 10 11 [] j v r (zCY f tree (64,1) (opsOf [] f.blocks)) o;have he : zgx vOp [] = []:=rfl;simp only [yO,yq,he] at q;simp -implicitDefEqProofs only [go_sem,zKv] at k;simp -implicitDefEqProofs only [go_sem,vSh] at a;simp -implicitDefEqProofs only [go_sem,zBu,he,vFm,fF,List.set_cons_succ,List.set_cons_zero] at q i;simp -implicitDefEqProofs only [go_sem,zgm,k,a,q,i,zl3,zqA,zP,zoP,ztx,vFm,fF,zl]
theorem zAA (a us : List (Int × Int)) (n : a.length = us.length) (j : a.length ≤ 9223372036854775807) : ∀ (d k : Nat) (b2 b3 b4 b7 b8 : V),a.length - k = d → k ≤ a.length →
  (a.drop k = us.drop k → exec T zbK ⟨[vL (rows a),vL (rows us),b2,b3,b4,vI a.length,vI k,b7,b8],[],0,0⟩ = some (.exit 0,⟨[vU,vU,vU,vU,vU,vU,vU,vU,vU],[],0,0⟩)) ∧
  (a.drop k ≠ us.drop k → exec T zbK ⟨[vL (rows a),vL (rows us),b2,b3,b4,vI a.length,vI k,b7,b8],[],0,0⟩ = some (.ret,⟨[vU,vU,vB false,vU,vU,vU,vU,vU,vU],[],0,0⟩)):=by
 intro d
 induction d with
 | zero =>
   intro k b2 b3 b4 b7 b8 m l;have c : k = a.length:=(by omega);subst c;have e : us.drop a.length = []:=(by simp [n]);have o : a.drop a.length = []:=(by simp);refine ⟨fun _ => ?_,fun h => absurd (o.trans e.symm) h⟩;rw [xl zbK rfl,zfN];simp -implicitDefEqProofs only [go_sem,yv]
 | succ d ih =>
   intro k b2 b3 b4 b7 b8 m l;have c : k < a.length:=(by omega);have b : k < us.length:=(by omega);have hd : a.drop k = a[k] :: a.drop (k + 1):=ya c;have i : us.drop k = us[k] :: us.drop (k + 1):=ya b;have f : (k : Int) < (a.length : Int):=(by omega);rw [xl zbK rfl,zfN,hd,i];obtain ⟨m,l⟩:=ih (k + 1) (vB false) vU vU vU vU (by omega) (by omega);have g : (a[k] = us[k]) ↔ (a[k].1 = us[k].1 ∧ a[k].2 = us[k].2):=Prod.ext_iff
   by_cases c1 : a[k].1 = us[k].1
   ·by_cases c2 : a[k].2 = us[k].2
    ·simp -implicitDefEqProofs only [go_sem,f,zwL c,zwL b,row,zi1 c j,List.cons.injEq,g,ne_eq,c1,c2,and_self,true_and]
     exact ih (k + 1) _ _ _ _ _ (by omega) (by omega)
    ·simp -implicitDefEqProofs only [go_sem,f,zwL c,zwL b,row,zi1 c j,List.cons.injEq,g,ne_eq,c1,c2,and_false,false_and,not_false_eq_true,true_implies,false_implies]
   ·simp -implicitDefEqProofs only [go_sem,f,zwL c,zwL b,row,zi1 c j,List.cons.injEq,g,ne_eq,c1,false_and,not_false_eq_true,true_implies,false_implies]
theorem zmD (a us : List (Int × Int)) (e : a.length ≤ 9223372036854775807) : call T 133 [vL (rows a),vL (rows us)] [] = some (vB (decide (a = us)),[]):=by
 rw [ze (fn:=zb5) rfl]
 by_cases d : a.length = us.length
 ·have h:=zAA a us d e a.length 0
  have f : (us.length : Int) = a.length:=by omega
  by_cases he : a = us
  ·subst he
   have b:=fun b2 b3 b4 b7 b8 => (h b2 b3 b4 b7 b8 (by omega) (by omega)).1 rfl;simp -implicitDefEqProofs only [go_sem] at b;simp -implicitDefEqProofs only [go_sem,zb5,b,zv]
  ·have b:=fun b2 b3 b4 b7 b8 => (h b2 b3 b4 b7 b8 (by omega) (by omega)).2 (by simpa using he)
   simp -implicitDefEqProofs only [go_sem] at b;simp -implicitDefEqProofs only [go_sem,zb5,b,he,zv,f]
 ·have he : ¬ a = us:=fun h => d (by rw [h])
  have c : ¬ (a.length : Int) = (us.length : Int):=by omega
  simp -implicitDefEqProofs only [go_sem,zb5,c,he,zv]
end AC
namespace AC
theorem zaX {last : Int} {t : Int × Int} {r : List (Int × Int)} : zg last (t :: r) = true ↔ last < t.1 ∧ t.1 ≤ 1023 ∧ t.2 ≠ 0 ∧ zg t.1 r = true:=by
 simp only [zg];split
 ·simp only [Bool.false_eq_true,false_iff]
  omega
 ·constructor
  ·intro h
   exact ⟨by omega,by omega,by omega,h⟩
  ·exact fun h => h.2.2.2
theorem zFD {a b : Int} {l : List (Int × Int)} (h : a ≤ b) (hm : zg b l = true) : zg a l = true:=by
 cases l with
 | nil => rfl
 | cons t r =>
   rw [zaX] at hm ⊢;exact ⟨by omega,hm.2⟩
def cf : List (Int × Int) → Int → Int
 | [],_ => 0
 | t :: r,v => if t.1 = v then t.2 else cf r v
theorem zmO : ∀ (l : List (Int × Int)) {a v : Int},zg a l = true → v ≤ a → cf l v = 0
 | [],_,_,_,_ => rfl
 | t :: r,a,v,h,hv => by
   rw [zaX] at h;rw [cf,if_neg (by omega)];exact zmO r h.2.2.2 (by omega)
theorem zy5 : ∀ (l k : List (Int × Int)) {a b : Int},zg a l = true → zg b k = true → (∀ v,cf l v = cf k v) → l = k
 | [],[],_,_,_,_,_ => rfl
 | t :: r,[],_,_,h,_,e => by
   rw [zaX] at h;have:=e t.1;simp [cf] at this;exact absurd this h.2.2.1
 | [],t :: r,_,_,_,h,e => by
   rw [zaX] at h;have:=e t.1;simp [cf] at this;exact absurd this.symm h.2.2.1
 | t :: r,u :: s,_,_,h,h',e => by
   rw [zaX] at h h';have c:=e t.1;have f:=e u.1;rw [cf,cf] at c f
   have e1 : t.1 = u.1:=by
    rcases Int.lt_trichotomy t.1 u.1 with d | d | d
    ·rw [if_pos rfl,if_neg (by omega),zmO s h'.2.2.2 (by omega)] at c
     exact absurd c h.2.2.1
    ·exact d
    ·rw [if_neg (by omega),if_pos rfl,zmO r h.2.2.2 (by omega)] at f
     exact absurd f.symm h'.2.2.1
   rw [if_pos rfl,if_pos e1.symm] at c;have e2 : t = u:=Prod.ext e1 c;subst e2;rw [zy5 r s h.2.2.2 h'.2.2.2 fun v => ?_];have i:=e v;simp only [cf] at i
   by_cases g : t.1 = v
   ·rw [zmO r h.2.2.2 (by omega),zmO s h'.2.2.2 (by omega)]
   ·rwa [if_neg g,if_neg g] at i
theorem zlY {last a b : Int} {l : List (Int × Int)} (h : last < a) (c : a ≤ 1023) (hm : zg a l = true) : zg last (zrr a b l) = true:=by
 unfold zrr;split
 ·exact zFD (by omega) hm
 ·rw [zaX]
  exact ⟨h,c,by assumption,hm⟩
theorem zoK (a b : Int) (l : List (Int × Int)) (v : Int) (h : zg a l = true) : cf (zrr a b l) v = if a = v then b else cf l v:=by
 unfold zrr;split
 ·rename_i c
  split
  ·rename_i d
   rw [zmO l h (by omega),c]
  ·rfl
 ·rfl
theorem zb1 (op : Int → Int → Int) : ∀ (ts us : List (Int × Int)) (last : Int),zg last ts = true → zg last us = true → zg last (zaL op ts us) = true
 | [],[],_,_,_ => by rw [zaL]; rfl
 | t :: ts,[],last,h,_ => by
   rw [zaX] at h;rw [zaL];exact zlY h.1 h.2.1 (zb1 op ts [] t.1 h.2.2.2 rfl)
 | [],u :: us,last,_,h => by
   rw [zaX] at h;rw [zaL];exact zlY h.1 h.2.1 (zb1 op [] us u.1 rfl h.2.2.2)
 | t :: ts,u :: us,last,h,h' => by
   have k:=zaX.1 h;have a:=zaX.1 h';rw [zaL];split
   ·exact zlY k.1 k.2.1 (zb1 op ts (u :: us) t.1 k.2.2.2 (zaX.2 ⟨by assumption,a.2⟩))
   ·split
    ·exact zlY a.1 a.2.1 (zb1 op (t :: ts) us u.1 (zaX.2 ⟨by assumption,k.2⟩) a.2.2.2)
    ·have : t.1 = u.1:=by omega
     exact zlY k.1 k.2.1 (zb1 op ts us t.1 k.2.2.2 (this ▸ a.2.2.2))
 termination_by ts us => ts.length + us.length
theorem zh1 (op : Int → Int → Int) (b : op 0 0 = 0) (v : Int) : ∀ (ts us : List (Int × Int)) (last : Int),zg last ts = true → zg last us = true → cf (zaL op ts us) v = op (cf ts v) (cf us v)
 | [],[],_,_,_ => by rw [zaL]; simp [cf,b]
 | t :: ts,[],last,h,_ => by
   rw [zaX] at h;rw [zaL,zoK _ _ _ _ (zb1 op ts [] t.1 h.2.2.2 rfl),zh1 op b v ts [] t.1 h.2.2.2 rfl];simp only [cf];split <;> rfl
 | [],u :: us,last,_,h => by
   rw [zaX] at h;rw [zaL,zoK _ _ _ _ (zb1 op [] us u.1 rfl h.2.2.2),zh1 op b v [] us u.1 rfl h.2.2.2];simp only [cf];split <;> rfl
 | t :: ts,u :: us,last,h,h' => by
   have k:=zaX.1 h;have c:=zaX.1 h';rw [zaL];split
   ·have m : zg t.1 (u :: us) = true:=zaX.2 ⟨by assumption,c.2⟩
    rw [zoK _ _ _ _ (zb1 op ts (u :: us) t.1 k.2.2.2 m),zh1 op b v ts (u :: us) t.1 k.2.2.2 m]
    by_cases a : t.1 = v
    ·rw [if_pos a,zmO (u :: us) m (by omega),cf,if_pos a]
    ·rw [if_neg a]
     conv => rhs; rw [cf]
     rw [if_neg a]
   ·split
    ·have m : zg u.1 (t :: ts) = true:=zaX.2 ⟨by assumption,k.2⟩
     rw [zoK _ _ _ _ (zb1 op (t :: ts) us u.1 m c.2.2.2),zh1 op b v (t :: ts) us u.1 m c.2.2.2]
     by_cases a : u.1 = v
     ·rw [if_pos a,zmO (t :: ts) m (by omega),cf,if_pos a]
     ·rw [if_neg a]
      conv => rhs; rw [cf.eq_2 v u]
      rw [if_neg a]
    ·have e : t.1 = u.1:=by omega
     have m : zg t.1 us = true:=e ▸ c.2.2.2;rw [zoK _ _ _ _ (zb1 op ts us t.1 k.2.2.2 m),zh1 op b v ts us t.1 k.2.2.2 m];simp only [cf,← e];split <;> rfl
 termination_by ts us => ts.length + us.length
theorem zls (x : Int) : ztp x = x % 18446744073709551616:=by
 unfold ztp Go.IntKind.wrap Go.IntKind.bits Go.IntKind.signed;simp only [Bool.false_and,if_neg Bool.false_ne_true];rfl
section
variable (ts us : List (Int × Int)) (a b n : Int) (ht : zg 0 ts = true) (hu : zg 0 us = true)
include ht hu
omit ht hu in
theorem zDZ : ti n 0 0 = 0:=by
 rw [ti,Int.zero_mul];rfl
end
end AC
namespace AC
open Go Go.A
def upN (t : List Int) : Nat → Int → Option Nat
 | 0,_ => none
 | r + 1,a => if a < 0 ∨ (t.length : Int) ≤ a then none else if tr t a = -1 then some 1 else (upN t r (tr t a)).map (· + 1)
theorem zzs (t : List Int) : ∀ (r : Nat) (a : Int) (n : Nat),upN t r a = some n → upN t (r + 1) a = some n
 | 0,_,_,h => by simp [upN] at h
 | r + 1,a,n,h => by
   rw [upN] at h ⊢;split at h
   ·cases h
   ·rename_i c
    rw [if_neg c];split at h
    ·rename_i c2
     rw [if_pos c2];exact h
    ·rename_i c2
     rw [if_neg c2];rw [yw] at h ⊢;obtain ⟨m,hm,e⟩:=h;exact ⟨m,zzs t r _ m hm,e⟩
theorem zD1 (t : List Int) : ∀ (r : Nat) (acc : List Int) (b : Int),pathFrom t r acc b ≠ [] → ∃ n,upN t r b = some n
 | 0,_,_,h => absurd rfl h
 | r + 1,acc,b,h => by
   rw [pathFrom] at h;rw [upN];split at h
   ·exact absurd rfl h
   ·rename_i c
    rw [if_neg c];split at h
    ·rename_i c2
     rw [if_pos c2];exact ⟨1,rfl⟩
    ·rename_i c2
     rw [if_neg c2];obtain ⟨n,a⟩:=zD1 t r _ _ h;exact ⟨n + 1,by rw [a]; rfl⟩
theorem zBY (t : List Int) : ∀ (r : Nat) (acc : List Int) (b x : Int),x ∈ pathFrom t r acc b → x ∈ acc ∨ ∃ n m,upN t r b = some n ∧ upN t r x = some m ∧ (x = b ∨ m < n)
 | 0,_,_,_,h => by simp [pathFrom] at h
 | r + 1,acc,b,x,h => by
   obtain ⟨n,g⟩:=zD1 t (r + 1) acc b (fun e => by rw [e] at h; simp at h)
   by_cases a : x = b
   ·exact .inr ⟨n,n,g,by rw [a]; exact g,.inl a⟩
   rw [pathFrom] at h;split at h
   ·simp at h
   ·rename_i c
    split at h
    ·rcases yi.1 h with h | h
     ·exact .inl h
     ·exact absurd (by simpa using h) a
    ·rename_i c2
     rw [upN,if_neg c,if_neg c2,yw] at g;obtain ⟨n0,d,e⟩:=g;rcases zBY t r _ _ x h with h | ⟨k,m,j,f,i⟩
     ·rcases yi.1 h with h | h
      ·exact .inl h
      ·exact absurd (by simpa using h) a
     ·rw [d] at j
      injection j with j;refine .inr ⟨n0 + 1,m,by rw [upN,if_neg c,if_neg c2,d]; rfl,zzs t r x m f,.inr ?_⟩;rcases i with i | i
      ·subst i
       rw [d] at f;injection f with f;omega
      ·omega
def rkB (t : List Int) (b : Int) : Nat:=(upN t t.length b).getD 0
theorem zHQ {t : List Int} {a b : Int} (j : 0 ≤ a) (c : a ≠ b) (h : zkP t a b = a) : rkB t a < rkB t b:=by
 unfold zkP at h;split at h
 ·cases d : (ziF t a).find? fun x => decide (x ∈ ziF t b) with
  | none => rw [d] at h; simp at h; omega
  | some x =>
    rw [d] at h;have g : x = a:=h;subst g;have:=List.find?_some d;have hm : x ∈ ziF t b:=(by simpa using this);rcases zBY t _ _ _ _ hm with h | ⟨n,m,e,f,i⟩
    ·simp at h
    ·unfold rkB
     rw [e,f];exact i.resolve_left c
 ·omega
def rkD (t : List Int) (d : Use) : Nat:=if d.block < 0 then 0 else rkB t d.block * 2000 + (d.at' + 2).toNat
def rkV (f : PFunc) (v : Int) : Nat:=match (zD f).find? fun d => decide (d.v = v) with
 | some d => rkD (zdK (zn f) 0) d
 | none => 0
theorem zHi {f : PFunc} {level : Int} (h : RightP f level) {d : Use} (hd : d ∈ zD f) : rkV f d.v = rkD (zdK (zn f) 0) d:=by
 unfold rkV;rw [zih h.once hd]
theorem zH9 {f : PFunc} {level : Int} (h : RightP f level) {d : Use} (hd : d ∈ zD f) (g : ¬ d.block < 0) : d.at' ≤ 1000:=by
 unfold zD at hd;rcases yi.1 hd with hd | hd
 ·exfalso
  have : ∀ (l : List Int) (k : Nat),d ∈ zaS k l → d.block = -1:=by
   intro l
   induction l with
   | nil => intro k h; simp [zaS] at h
   | cons b r ih =>
     intro k h;rw [zaS] at h;rcases yH.1 h with rfl | h
     ·rfl
     ·exact ih _ h
  have:=this _ _ hd;omega
 ·obtain ⟨j,b,c,a⟩:=(zhq _ _ 0).1 hd
  rcases a with a | a
  ·obtain ⟨p,_,rfl⟩:=yK.1 a
   simp only;omega
  ·obtain ⟨i,o,e,_,rfl⟩:=(zmG _ d _ 0).1 a
   have:=(h.size (yd c)).1;have:=(ye.1 e).1;simp only;omega
theorem RightP.arg {f : PFunc} {level : Int} (h : RightP f level) {k : Nat} {b : PBlock} (l : f.blocks[k]? = some b) {j : Nat} {y : POp} (e : b.ops[j]? = some y) {v : Int} (hm : v ∈ y.args) :
  ∃ d ∈ zD f,d.v = v ∧ (d.block < 0 ∨ (d.block = k ∧ d.at' < j) ∨ (d.block ≠ k ∧ zkP (zdK (zn f) 0) d.block k = d.block)):=by
 have c:=yd l;have r : zeO y = true:=zeo h.typed c (yd e);obtain ⟨a,m,ea⟩:=yD.1 hm;obtain ⟨s,n⟩:=zjB (o:=y) (i:=(k : Int)) (at':=(j : Int)) (zaa y) 0 a (by rw [znx r]; exact m);rw [yj,yy,yB m] at n;have t:=(h.size c).1;have p:=(ye.1 e).1
 have hu : (⟨v,s,(k : Int),(j : Int)⟩ : Use) ∈ zec f:=by
  unfold zec zdU;refine yK.2 ⟨⟨v,s,(k : Int),(j : Int)⟩,(ziY _ _ _ 0).2 ⟨k,b,l,?_⟩,?_⟩
  ·rw [yj]
   refine yi.2 (.inr (yi.2 (.inl ((zj6 _ _ _ 0).2 ⟨j,y,e,?_⟩))));rw [yj,← ea];exact n
  ·unfold zad
   simp only;rw [if_neg (by omega)]
 obtain ⟨d,g,e1,_,q⟩:=h.uses _ hu;exact ⟨d,g,e1,q⟩
theorem zJc {f : PFunc} {level : Int} (h : RightP f level) {k : Nat} {b : PBlock} (g : f.blocks[k]? = some b) {j : Nat} {y : POp} (i : b.ops[j]? = some y) (hd : 0 < y.dst) {v : Int} (hm : v ∈ y.args) : rkV f v < rkV f y.dst:=by
 have l:=yd g;have o : zeO y = true:=zeo h.typed l (yd i)
 have m : (⟨y.dst,zJ y,(k : Int),(j : Int)⟩ : Use) ∈ zD f:=by
  unfold zD;refine yi.2 (.inr ((zhq _ _ 0).2 ⟨k,b,g,.inr ?_⟩));rw [yj];exact (zmG _ _ _ 0).2 ⟨j,y,i,zvr o hd,by rw [yj]⟩
 have e2 : rkV f y.dst = rkB (zdK (zn f) 0) k * 2000 + (j + 2):=by
  rw [zHi h m];unfold rkD;simp only;rw [if_neg (by omega)];omega
 obtain ⟨d,e,rfl,a⟩:=h.arg g i hm;rw [zHi h e,e2];unfold rkD;split
 ·omega
 ·rename_i c
  have p:=zH9 h e c;rcases a with a | ⟨a,n⟩ | ⟨a,n⟩
  ·exact absurd a c
  ·rw [a]; omega
  ·have:=zHQ (by omega) a n
   have : rkB (zdK (zn f) 0) d.block * 2000 + 2000 ≤ rkB (zdK (zn f) 0) k * 2000:=(by omega);omega
theorem zte {v : Int} {o : POp} : ∀ (l : List POp) (D : ziS),getM v (zky D l) = some o → getM v D = some o ∨ (o ∈ l ∧ o.dst = v)
 | [],_,h => .inl h
 | p :: l,D,h => by
   rw [zky] at h;rcases zte l _ h with h | ⟨h,e⟩
   ·rw [zhl] at h
    split at h
    ·rename_i e
     injection h with h;subst h;exact .inr ⟨yA,e⟩
    ·exact .inl h
   ·exact .inr ⟨yp _ h,e⟩
theorem zvG {v : Int} {o : POp} : ∀ (l : List PBlock) (D : ziS),getM v (opsOf D l) = some o → getM v D = some o ∨ ∃ b ∈ l,o ∈ b.ops ∧ o.dst = v
 | [],_,h => .inl h
 | b :: l,D,h => by
   rw [opsOf] at h;rcases zvG l _ h with h | ⟨x,a,c⟩
   ·rcases zte _ _ h with h | h
    ·exact .inl h
    ·exact .inr ⟨b,yA,h⟩
   ·exact .inr ⟨x,yp _ a,c⟩
def zJk (r : zQ) : Prop:=r.1.length ≤ 16 ∧ 0 ≤ r.2
theorem zko (x : Int) : 0 ≤ ztp x:=by
 rw [zls];omega
theorem zE2 {k : Int} {a b g : zQ} (h : tell k a b = some g) : 0 ≤ g.2:=by
 have d : ∀ x y : zQ,0 ≤ (zlB x y).2:=fun x y => by unfold zlB; split; exact zko _; exact yN _
 have e : ∀ x y : zQ,0 ≤ (zil x y).2:=fun x y => by unfold zil; split; exact zko _; exact yN _
 have c : ∀ (x : zQ) (n : Int),0 ≤ (zfV x n).2:=fun x n => by unfold zfV; split; exact zko _; exact yN _
 unfold tell at h;split at h
 ·injection h with h; subst h; exact d _ _
 split at h
 ·injection h with h; subst h; exact e _ _
 split at h
 ·injection h with h; subst h; exact c _ _
 split at h
 ·injection h with h; subst h; exact c _ _
 split at h
 ·injection h with h; subst h; exact c _ _
 ·cases h
end AC
