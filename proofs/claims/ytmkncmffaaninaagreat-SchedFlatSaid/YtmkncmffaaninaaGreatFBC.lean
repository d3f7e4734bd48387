/- A part of the proof of SchedFlat. Conditions: none. -/
import Derived.Test.YtmkncmffaaninaaGreatFBB
import Derived.Test.YtmkncmffaaninaaGreatFAZ
set_option linter.all false
open List renaming getElem?_eq_none → ya,length_map → yb,ext_getElem? → ye,drop_eq_getElem_cons → yf,getElem_mem → yi,replicate → yj,getElem?_cons_succ → yk,getElem?_cons_zero → yl,getElem?_set_self → ym,getElem?_set_ne → yn,drop_length → yo,append_nil → yp,set_cons_succ → yq,drop_zero → ys,range → yt,length_set → yu,length → yA
open Int renaming natCast_nonneg → yc,toNat_natCast → yd,lt_irrefl → yg,natCast_zero → yh
open Bool renaming false_eq_true → yr,not_eq_false' → yv,and_eq_true → yy,or_eq_true → yz,true_and → yB
open Option renaming isNone_some → yw,isNone_none → yx
namespace AC
open Go Go.A Go.A.Lex
abbrev O0 (f : PFunc) : Ob:=.cells 0 3 [zc4 f]
abbrev cM (g : Nat) : C:=.fn g [.ptr 1 0 0 0] []
abbrev O2 : Ob:=.cells 0 1 [[cM 159],[cM 160],[cM 161],[cM 162],[cM 163]]
def zhU (pi : List Int) (p : PPhi) : Bool:=decide (p.src = pi) && decide (p.args.length = p.src.length)
def zeC (b : PBlock) : Bool:=!((decide (b.kind = 1) || decide (b.kind = 3)) && !decide (b.arg = 0))
def zq1 (pred : List (List Int)) (tree : List Int) (i : Nat) (b : PBlock) : Bool:=zkR tree i i && (b.phis.all (zhU (pred.getD i [])) && zeC b)
def zE3 (pred : List (List Int)) (tree : List Int) (i : Nat) (b : PBlock) : Option (List Ob) :=
 if zkR tree i i = false then some [.cells 0 5 [zh b]] else
 match b.phis.find? fun p => !zhU (pred.getD i []) p with
 | some p => some [.cells 0 5 [zh b],.cells 0 4 [zuR p]]
 | none => if zeC b = false then some [.cells 0 5 [zh b]] else none
def zgY (pred : List (List Int)) (tree : List Int) : Nat → List PBlock → Option (List Ob)
 | _,[] => none
 | i,b :: r => match zE3 pred tree i b with
   | some G => some G
   | none => zgY pred tree (i + 1) r
theorem zyw (pred : List (List Int)) (tree : List Int) (i : Nat) (b : PBlock) : (zE3 pred tree i b).isNone = zq1 pred tree i b:=by
 unfold zE3 zq1;cases c : zkR tree i i
 ·simp
 ·simp only [Bool.true_eq_false,if_false,yB]
  cases a : b.phis.find? fun p => !zhU (pred.getD i []) p with
  | some p =>
    rw [show b.phis.all (zhU (pred.getD i [])) = false from zeY a];rfl
  | none =>
    rw [ze4 a];cases d : zeC b <;> simp
def zd1 (pred : List (List Int)) (tree : List Int) : Nat → List PBlock → Bool
 | _,[] => true
 | i,b :: r => zq1 pred tree i b && zd1 pred tree (i + 1) r
theorem zk1 (pred : List (List Int)) (tree : List Int) : ∀ (l : List PBlock) (i : Nat),(zgY pred tree i l).isNone = zd1 pred tree i l
 | [],_ => rfl
 | b :: r,i => by
   have h:=zyw pred tree i b;simp only [zgY,zd1]
   cases e : zE3 pred tree i b with
   | some G =>
     rw [e] at h;simp only [yw] at h;simp [← h]
   | none =>
     rw [e] at h;simp only [yx] at h;rw [← h,yB];exact zk1 pred tree r (i + 1)
section
variable (f : PFunc) (hf : okF f) (level : Int) (dd : C) (hdd : dd = .f (.lit (.map none))) (pred : List (List Int)) (hpl : pred.length = f.blocks.length) (hpp : ∀ l ∈ pred,l.length ≤ 4294967296) (tree : List Int) (htl : tree.length ≤ 4294967296) (x y : C) (hx : ∃ a,x = .f a) (hy : ∃ a,y = .f a)
abbrev zod (f : PFunc) (level : Int) (pred : List (List Int)) (tree : List Int) : zd:=[O0 f,zxT f level (.f (.sl ((zp f).map rl))) (.f (.sl (pred.map rl))) (.f (eI tree)) (.f (.lit (.map none))),O2,.cells 0 2 [[.f (.sl ((zp f).map rl)),.f (.sl (pred.map rl))]]]
include hf hpl hpp htl
theorem zBZ (b : PBlock) (o : okB b) (i : Nat) (s : i < f.blocks.length) : ∀ (d k : Nat) (a1 a3 a6 a7 h j g m l : V),b.phis.length - k = d → k ≤ b.phis.length →
  exec T zbM ⟨[.one (.ptr 1 0 0 0),a1,.one (.ptr 3 0 0 0),a3,vI i,.one (.ptr 4 0 0 0),a6,a7,vL (f.blocks.map rb),vI f.blocks.length,vI i,h,j,vL (b.phis.map rp),vI b.phis.length,vI k,g,m,l],zod f level pred tree ++ [.cells 0 5 [zh b]],3,3⟩ =
   some (match (b.phis.drop k).find? (fun p => !zhU (pred.getD i []) p) with
    | none => (.exit 2,⟨[.one (.ptr 1 0 0 0),vU,.one (.ptr 3 0 0 0),vU,vU,.one (.ptr 4 0 0 0),vU,vU,vL (f.blocks.map rb),vI f.blocks.length,vI i,vU,vU,vU,vU,vU,vU,vU,vU],zod f level pred tree ++ [.cells 0 5 [zh b]],3,3⟩)
    | some p => (.ret,⟨[vU,vI 5,vU,vU,vU,vU,vU,vU,vU,vU,vU,vU,vU,vU,vU,vU,vU,vU,vU],zod f level pred tree ++ [.cells 0 5 [zh b],.cells 0 4 [zuR p]],3,3⟩)):=by
 intro d
 induction d with
 | zero =>
   intro k a1 a3 a6 a7 h j g m l r q;have a : k = b.phis.length:=(by omega);subst a;rw [xl zbM rfl,zdw];simp -implicitDefEqProofs only [go_sem,zod,yg,yo,List.find?_nil]
 | succ d ih =>
   intro k a1 a3 a6 a7 h j g m l r q;have a : k < b.phis.length:=(by omega);have hd : b.phis.drop k = b.phis[k] :: b.phis.drop (k + 1):=yf a;have c : i < pred.length:=(by omega);have n : pred.getD i [] = pred[i]:=(by simp [c]);have he:=zlc b.phis[k].src pred[i] [] (o.phi _ (yi a)).1;rw [xl zbM rfl,zdw,hd,List.find?_cons,n];rw [n] at ih
   by_cases c1 : b.phis[k].src = pred[i]
   ·by_cases c2 : b.phis[k].args.length = b.phis[k].src.length
    ·have e : ((b.phis[k].args.length : Int) = (b.phis[k].src.length : Int)) = True:=by simp [c2]
     have:=ih (k + 1) vU vU vU vU vU vU vU vU vU (by omega) (by omega);simp -implicitDefEqProofs only [go_sem,zod,eq_true c1] at he this;simp -implicitDefEqProofs only [go_sem,zod,ilt a,zm a,zm c,rp,rl,he,eq_true c1,e,eq_true c2,zhU,za a o.phis,this]
    ·have e : ¬ (b.phis[k].args.length : Int) = (b.phis[k].src.length : Int):=by omega
     simp -implicitDefEqProofs only [go_sem,zod,eq_true c1] at he;simp -implicitDefEqProofs only [go_sem,zod,ilt a,zm a,zm c,rp,rl,he,eq_true c1,e,c2,zhU]
   ·simp -implicitDefEqProofs only [go_sem,zod,c1] at he
    simp -implicitDefEqProofs only [go_sem,zod,ilt a,zm a,zm c,rp,rl,he,c1,zhU]
theorem zB8 : ∀ (d k : Nat) (a1 a3 a4 a5 a6 a7 c e m l n b g h : V),f.blocks.length - k = d → k ≤ f.blocks.length →
  exec T zbt ⟨[.one (.ptr 1 0 0 0),a1,.one (.ptr 3 0 0 0),a3,a4,a5,a6,a7,vL (f.blocks.map rb),vI f.blocks.length,vI k,c,e,m,l,n,b,g,h],zod f level pred tree,3,3⟩ =
   some (match zgY pred tree k (f.blocks.drop k) with
    | none => (.exit 0,⟨[vU,vU,vU,vU,vU,vU,vU,vU,vU,vU,vU,vU,vU,vU,vU,vU,vU,vU,vU],zod f level pred tree,3,3⟩)
    | some G => (.ret,⟨[vU,vI 5,vU,vU,vU,vU,vU,vU,vU,vU,vU,vU,vU,vU,vU,vU,vU,vU,vU],zod f level pred tree ++ G,3,3⟩)):=by
 intro d
 induction d with
 | zero =>
   intro k a1 a3 a4 a5 a6 a7 c e m l n b g h u t;have a : k = f.blocks.length:=(by omega);subst a;rw [xl zbt rfl,zdQ];simp -implicitDefEqProofs only [go_sem,zod,yg,yo,zgY]
 | succ d ih =>
   intro k a1 a3 a4 a5 a6 a7 c e m l n b g h u t;have a : k < f.blocks.length:=(by omega);have hd : f.blocks.drop k = f.blocks[k] :: f.blocks.drop (k + 1):=yf a;have s:=hf.block _ (yi a);have i:=zpc tree k k htl;have j:=fun a1 a3 a6 a7 c e b g h => zBZ f hf level pred hpl hpp tree htl f.blocks[k] s k a f.blocks[k].phis.length 0 a1 a3 a6 a7 c e b g h (by omega) (by omega);simp only [ys,yh] at j;rw [xl zbt rfl,zdQ,hd,zgY,zE3];cases e1 : zkR tree k k
   ·simp -implicitDefEqProofs only [go_sem,e1] at i
    simp -implicitDefEqProofs only [go_sem,zod,ilt a,zm a,rb,i]
   ·cases e2 : f.blocks[k].phis.find? (fun p => !zhU (pred.getD k []) p) with
    | some p =>
      simp -implicitDefEqProofs only [go_sem,zod,e1,e2] at i j;simp -implicitDefEqProofs only [go_sem,zod,ilt a,zm a,rb,i,j]
    | none =>
      have:=ih (k + 1) vU vU vU vU vU vU vU vU vU vU vU vU vU vU (by omega) (by omega);simp -implicitDefEqProofs only [go_sem,zod,e1,e2] at i j this
      by_cases o : f.blocks[k].kind = 1
      ·by_cases q : f.blocks[k].arg = 0
       ·simp -implicitDefEqProofs only [go_sem,zod,ilt a,zm a,rb,i,j,zeC,eq_true o,eq_true q,za a hf.blocks,this]
       ·simp -implicitDefEqProofs only [go_sem,zod,ilt a,zm a,rb,i,j,zeC,eq_true o,q]
      ·by_cases r : f.blocks[k].kind = 3
       ·by_cases q : f.blocks[k].arg = 0
        ·simp -implicitDefEqProofs only [go_sem,zod,ilt a,zm a,rb,i,j,zeC,o,eq_true r,eq_true q,za a hf.blocks,this]
        ·simp -implicitDefEqProofs only [go_sem,zod,ilt a,zm a,rb,i,j,zeC,o,eq_true r,q]
       ·simp -implicitDefEqProofs only [go_sem,zod,ilt a,zm a,rb,i,j,zeC,o,r,za a hf.blocks,this]
end
theorem zGw (n : Nat) : (n + 1 + 1 + 1 + 1 ≤ 3) = False:=by simp
theorem zqi (f : PFunc) (hf : okF f) (level : Int) (a : zay f = false) : call T 159 [.one (.ptr 1 0 0 0)] [O0 f,zxT f level (.f (.sl [])) (.f (.sl [])) (.f (.sl [])) (.f (.lit (.map none))),O2] = some (vI 5,[O0 f,zxT f level (.f (.sl [])) (.f (.sl [])) (.f (.sl [])) (.f (.lit (.map none))),O2]):=by
 rw [ze (fn:=zar) rfl];have h:=zl0 f hf;simp -implicitDefEqProofs only [go_sem,zgy,a] at h;simp -implicitDefEqProofs only [go_sem,zar,h]
def zhc (f : PFunc) (tree : List Int) : Bool:=zay f && zd1 (zN (zp f)) tree 0 f.blocks
theorem zj0 (succ : List (List Int)) (b : zjV succ) (c : (succ.map yA).sum ≤ 4294967296) : ∀ l ∈ zN succ,l.length ≤ 4294967296:=by
 have h : ∀ (l : List (List Int)) (i : Nat) (out : List (List Int)) (B : Nat),(∀ y ∈ out,y.length ≤ B) → ∀ y ∈ za7 i l out,y.length ≤ B + (l.map yA).sum:=by
  intro l
  induction l with
  | nil => intro i out B h y hy; exact h y hy
  | cons x r ih =>
    intro i out B h y hy;have:=ih (i + 1) (x.foldl (zs4 i) out) (B + x.length) (zrB _ _ _ _ h) y hy;simp only [List.map_cons,List.sum_cons];omega
 intro l a;have:=h succ 0 (yj succ.length []) 0 (fun y hy => by rw [(List.mem_replicate.1 hy).2]; simp) l a;omega
theorem zfo {f : PFunc} (h : zay f = true) : zbk (zp f) = true:=by
 simp only [zay,yy] at h;exact h.2.2
theorem zsg (f : PFunc) (hf : okF f) (level : Int) (o : zay f = true) (tree : List Int) (htl : tree.length ≤ 4294967296)
  (n : call T 195 [.agg [.f (.sl ((zp f).map rl)),.f (.sl ((zN (zp f)).map rl))],vI 0] [] = some (vIs tree,[])) :
  call T 159 [.one (.ptr 1 0 0 0)] [O0 f,zxT f level (.f (.sl [])) (.f (.sl [])) (.f (.sl [])) (.f (.lit (.map none))),O2] =
   some (vI (if zd1 (zN (zp f)) tree 0 f.blocks = true then 0 else 5),[O0 f,zxT f level (.f (.sl ((zp f).map rl))) (.f (.sl ((zN (zp f)).map rl))) (.f (eI tree)) (.f (.lit (.map none))),O2]):=by
 rw [ze (fn:=zar) rfl];have h:=zl0 f hf;have b:=fun a1 a3 a4 a5 a6 a7 j k d c i g l m => zB8 f hf level (zN (zp f)) (by rw [zcq]; simp [zp]) (zj0 _ (zin hf) (zgS (zfo o))) tree htl f.blocks.length 0 a1 a3 a4 a5 a6 a7 j k d c i g l m (by omega) (by omega);simp only [ys,yh] at b;have a:=zk1 (zN (zp f)) tree f.blocks 0;simp -implicitDefEqProofs only [go_sem,zgy,o] at h n
 cases e : zgY (zN (zp f)) tree 0 f.blocks with
 | none =>
   rw [e] at a;simp only [yx] at a;simp -implicitDefEqProofs only [go_sem,zod,e] at b;simp -implicitDefEqProofs only [go_sem,zar,h,n,b,← a]
 | some G =>
   rw [e] at a;simp only [yw] at a;simp -implicitDefEqProofs only [go_sem,zod,e] at b;simp -implicitDefEqProofs only [go_sem,zar,h,n,b,← a,zGw]
section
variable (succ pred : List (List Int)) (hn : succ.length ≤ 64) (hp : pred.length ≤ 64) (hl : ∀ l ∈ succ,l.length ≤ 4294967296) (hlp : ∀ l ∈ pred,l.length ≤ 4294967296)
abbrev s62 : zd:=[.cells 0 2 [[.f (.sl (succ.map rl)),.f (.sl (pred.map rl))]],.cells 0 2 [[.f (.sl (succ.map rl)),.f (.sl (pred.map rl))]]]
include hn hp hl hlp
theorem zBn : ∀ (d k : Nat) (a0 a1 a4 a6 a7 a8 a9 a b : V),succ.length - k = d → k ≤ succ.length →
  exec T zcz ⟨[a0,a1,.one (.ptr 0 0 0 0),.one (.ptr 1 0 0 0),a4,vI k,a6,a7,a8,a9,a,b],s62 succ pred,0,0⟩ = some (.exit 0,⟨[vU,vU,.one (.ptr 0 0 0 0),.one (.ptr 1 0 0 0),vU,vU,vU,vU,vU,vU,vU,vU],s62 succ pred,0,0⟩):=by
 intro d
 induction d with
 | zero =>
   intro k a0 a1 a4 a6 a7 a8 a9 a b f g;have c : k = succ.length:=(by omega);subst c;rw [xl zcz rfl,zdW];simp -implicitDefEqProofs only [go_sem,s62,yg,yb]
 | succ d ih =>
   intro k a0 a1 a4 a6 a7 a8 a9 a b f g;have c : k < succ.length:=(by omega);have e:=zhr succ[k] succ[k] (hl _ (yi c));have:=ih (k + 1) vU vU vU vU vU vU vU vU vU (by omega) (by omega);rw [xl zcz rfl,zdW];simp -implicitDefEqProofs only [go_sem] at e;simp -implicitDefEqProofs only [go_sem,s62] at this;simp -implicitDefEqProofs only [go_sem,s62,ilt c,zm c,rl,yb,e,za c (show succ.length ≤ 4294967296 by omega),this]
theorem zCx : ∀ (d k : Nat) (a0 a1 a4 a5 a7 a8 a9 a b : V),pred.length - k = d → k ≤ pred.length →
  exec T zb4 ⟨[a0,a1,.one (.ptr 0 0 0 0),.one (.ptr 1 0 0 0),a4,a5,vI k,a7,a8,a9,a,b],s62 succ pred,0,0⟩ = some (.exit 2,⟨[vU,vU,vU,vU,vU,vU,vU,vU,vU,vU,vU,vU],s62 succ pred,0,0⟩):=by
 intro d
 induction d with
 | zero =>
   intro k a0 a1 a4 a5 a7 a8 a9 a b f g;have c : k = pred.length:=(by omega);subst c;rw [xl zb4 rfl,zeg];simp -implicitDefEqProofs only [go_sem,s62,yg,yb]
 | succ d ih =>
   intro k a0 a1 a4 a5 a7 a8 a9 a b f g;have c : k < pred.length:=(by omega);have e:=zhr pred[k] pred[k] (hlp _ (yi c));have:=ih (k + 1) vU vU vU vU vU vU vU vU vU (by omega) (by omega);rw [xl zb4 rfl,zeg];simp -implicitDefEqProofs only [go_sem] at e;simp -implicitDefEqProofs only [go_sem,s62] at this;simp -implicitDefEqProofs only [go_sem,s62,ilt c,zm c,rl,yb,e,za c (show pred.length ≤ 4294967296 by omega),this]
theorem ztw : call T 173 [.agg [.f (.sl (succ.map rl)),.f (.sl (pred.map rl))],.agg [.f (.sl (succ.map rl)),.f (.sl (pred.map rl))]] [] = some (vB true,[]):=by
 rw [ze (fn:=zeM) rfl];have d:=fun a0 a1 a4 a6 a7 a8 a9 a b => zBn succ pred hn hp hl hlp succ.length 0 a0 a1 a4 a6 a7 a8 a9 a b (by omega) (by omega);have c:=fun a0 a1 a4 a5 a7 a8 a9 a b => zCx succ pred hn hp hl hlp pred.length 0 a0 a1 a4 a5 a7 a8 a9 a b (by omega) (by omega);simp only [yh] at d c;simp -implicitDefEqProofs only [go_sem,s62] at d c;simp -implicitDefEqProofs only [go_sem,zeM,yb,d,c]
end
theorem zyL (succ : List (List Int)) (a : zjV succ) (hm : zbk succ = true) : call T 130 [.agg [.f (.sl (succ.map rl)),.f (.sl ((zN succ).map rl))]] [] = some (vB true,[]):=by
 rw [ze (fn:=zfc) rfl];obtain ⟨g,d,e⟩:=zgg hm;have b:=znF succ a;have c:=ztw succ (zN succ) d (by rw [zcq]; exact d) a.2 (zj0 succ a (zgS hm));simp -implicitDefEqProofs only [go_sem,zkf,hm] at b;simp -implicitDefEqProofs only [go_sem] at c;simp -implicitDefEqProofs only [go_sem,zfc,b,c]
section
variable (succ : List (List Int)) (root : Int)
def ovB (c b : Nat) : Bool:=(zdq succ root (-1)).getD b false && !(zdq succ root (c : Int)).getD b false
def zn8 (c : Nat) : List Bool:=(yt succ.length).map fun b => ovB succ root c b
def zga (c k : Nat) : List Bool:=(yt succ.length).map fun b => if b < k then ovB succ root c b else false
def ze6 (b a : Nat) : Nat → Nat → Bool
 | _,0 => true
 | k,d + 1 => (decide (k = b) || (!ovB succ root k b || ovB succ root k a)) && ze6 b a (k + 1) d
def zf2 (b : Nat) : Nat → Nat → Int → Int
 | _,0,v => v
 | k,d + 1,v => zf2 b (k + 1) d (if (!decide (k = b) && (ovB succ root k b && ze6 succ root b k 0 succ.length)) = true then (k : Int) else v)
def zry (b : Nat) : Int:=if (b : Int) = root then -1 else zf2 succ root b 0 succ.length (-2)
def zgk (k : Nat) : List Int:=(yt succ.length).map fun b => if b < k then zry succ root b else 0
def zeU : List Int:=(yt succ.length).map fun b => zry succ root b
theorem zjR (c : Nat) : (zn8 succ root c).length = succ.length:=by simp [zn8]
theorem zew (c k : Nat) : (zga succ root c k).length = succ.length:=by simp [zga]
theorem ziD (w : Int) : (zdq succ root w).length = succ.length:=by
 unfold zdq;split
 ·simp
 ·rw [zgI]; simp
theorem zs2 (c b : Nat) (h : b < succ.length) : (zn8 succ root c)[b]? = some (ovB succ root c b):=by simp [zn8,h]
theorem zid (c k b : Nat) (h : b < succ.length) : (zga succ root c k)[b]? = some (if b < k then ovB succ root c b else false):=by simp [zga,h]
theorem zvo (c : Nat) : zga succ root c 0 = yj succ.length false:=by
 apply ye;intro j
 by_cases h : j < succ.length
 ·rw [zid succ root c 0 j h]; simp [h]
 ·rw [ya (by rw [zew]; omega),ya (by simp; omega)]
theorem zxo (c : Nat) : zga succ root c succ.length = zn8 succ root c:=by
 apply ye;intro j
 by_cases h : j < succ.length
 ·rw [zid succ root c _ j h,zs2 succ root c j h,if_pos h]
 ·rw [ya (by rw [zew]; omega),ya (by rw [zjR]; omega)]
theorem zxO (c k : Nat) (h : k < succ.length) : (zga succ root c k).set k (ovB succ root c k) = zga succ root c (k + 1):=by
 apply ye;intro j
 by_cases a : j < succ.length
 ·rw [zid succ root c (k + 1) j a]
  by_cases e : k = j
  ·subst e
   rw [ym (by rw [zew]; exact h),if_pos (by omega)]
  ·rw [yn e,zid succ root c k j a]
   by_cases f : j < k
   ·rw [if_pos f,if_pos (by omega)]
   ·rw [if_neg f,if_neg (by omega)]
 ·rw [ya (by rw [yu,zew]; omega),ya (by rw [zew]; omega)]
theorem zgh (k : Nat) : (zgk succ root k).length = succ.length:=by simp [zgk]
theorem zmA (k b : Nat) (h : b < succ.length) : (zgk succ root k)[b]? = some (if b < k then zry succ root b else 0):=by simp [zgk,h]
theorem zx3 (k : Nat) (h : k < succ.length) : (zgk succ root k).set k (zry succ root k) = zgk succ root (k + 1):=by
 apply ye;intro j
 by_cases a : j < succ.length
 ·rw [zmA succ root (k + 1) j a]
  by_cases e : k = j
  ·subst e
   rw [ym (by rw [zgh]; exact h),if_pos (by omega)]
  ·rw [yn e,zmA succ root k j a]
   by_cases f : j < k
   ·rw [if_pos f,if_pos (by omega)]
   ·rw [if_neg f,if_neg (by omega)]
 ·rw [ya (by rw [yu,zgh]; omega),ya (by rw [zgh]; omega)]
theorem zwB : zgk succ root 0 = yj succ.length 0:=by
 apply ye;intro j
 by_cases h : j < succ.length
 ·rw [zmA succ root 0 j h]; simp [h]
 ·rw [ya (by rw [zgh]; omega),ya (by simp; omega)]
theorem zyp : zgk succ root succ.length = zeU succ root:=by
 unfold zgk zeU;apply List.map_congr_left;intro b a;rw [if_pos (List.mem_range.1 a)]
def zmZ (n k : Nat) : List (List C):=(yt n).map fun a => if a < k then [.own (a + 1 + 1) 0 0 n] else [.f (.sl [])]
theorem zhx (n k : Nat) : (zmZ n k).length = n:=by simp [zmZ]
theorem zhh (n k a : Nat) (h : a < n) (b : a < k) : (zmZ n k)[a]? = some [.own (a + 1 + 1) 0 0 n]:=by simp [zmZ,h,b]
theorem zzY (n k a : Nat) (h : a < n) : ∃ c,(zmZ n k)[a]? = some [c]:=by
 by_cases b : a < k
 ·exact ⟨_,zhh n k a h b⟩
 ·exact ⟨.f (.sl []),by simp [zmZ,h,b]⟩
theorem zzC (n k : Nat) (h : k < n) : (zmZ n k).set k [.own (k + 1 + 1) 0 0 n] = zmZ n (k + 1):=by
 apply ye;intro j
 by_cases a : j < n
 ·by_cases e : k = j
  ·subst e
   rw [ym (by rw [zhx]; exact h),zhh n _ _ a (by omega)]
  ·rw [yn e]
   by_cases f : j < k
   ·rw [zhh n k j a f,zhh n (k + 1) j a (by omega)]
   ·simp [zmZ,a,f,show ¬ j < k + 1 by omega]
 ·rw [ya (by rw [yu,zhx]; omega),ya (by rw [zhx]; omega)]
theorem zxm (n : Nat) : zmZ n 0 = yj n [.f (.sl [])]:=by
 apply ye;intro j
 by_cases h : j < n
 ·simp [zmZ,h]
 ·rw [ya (by rw [zhx]; omega),ya (by simp; omega)]
def ze0 (k : Nat) : zd:=(yt k).map fun c => .cells 0 1 ((zn8 succ root c).map zfX)
theorem zaI (k : Nat) : (ze0 succ root k).length = k:=by simp [ze0]
theorem zu5 (k : Nat) : ze0 succ root k ++ [.cells 0 1 ((zn8 succ root k).map zfX)] = ze0 succ root (k + 1):=by
 unfold ze0;rw [List.range_succ,List.map_append];rfl
theorem zwX (k c : Nat) (h : c < k) : (ze0 succ root k)[c]? = some (.cells 0 1 ((zn8 succ root c).map zfX)):=by simp [ze0,h]
end
section
variable (succ pred : List (List Int)) (root : Int) (hn1 : 1 ≤ succ.length) (hn : succ.length ≤ 64) (hl : ∀ l ∈ succ,l.length ≤ 4294967296) (hr : ∀ l ∈ succ,∀ y ∈ l,0 ≤ y ∧ y < (succ.length : Int)) (h0 : 0 ≤ root ∧ root < (succ.length : Int))
abbrev sT7 (k a : Nat) (r : zd) : zd:=zq0 succ pred :: .cells 0 1 (zmZ succ.length k) :: (ze0 succ root a ++ r)
theorem zC8 {l : List Bool} {k : Nat} (h : k < l.length) : (l.map rbo)[k]? = some [.lit (.bool (l.getD k false))]:=by simp [h,rbo]
theorem ovl (k m : Nat) (h : k ≤ m) : (yA (ze0 succ root k) ≤ m) = True:=by rw [zaI]; simp [h]
include hn hl hr h0
theorem zAZ (a : Nat) (D : a < succ.length) : ∀ (d k : Nat) (a0 a3 m q r i h n j t s p a20 u a22 a23 : V),succ.length - k = d → k ≤ succ.length →
  exec T zco ⟨[a0,vI root,.one (.ptr 0 0 0 0),a3,vI succ.length,vBs (zdq succ root (-1)),.one (.own 1 0 0 succ.length),vI a,vBs (zdq succ root a),vI k,m,q,r,i,h,n,j,t,s,p,a20,u,a22,a23],sT7 succ pred root (a + 1) a [.cells 0 1 ((zga succ root a k).map zfX)],0,0⟩ =
   some (.exit 2,⟨[vU,vI root,.one (.ptr 0 0 0 0),vU,vI succ.length,vBs (zdq succ root (-1)),.one (.own 1 0 0 succ.length),vI a,vU,vU,vU,vU,vU,vU,vU,vU,vU,vU,vU,vU,vU,vU,vU,vU],sT7 succ pred root (a + 1) (a + 1) [],0,0⟩):=by
 intro d
 induction d with
 | zero =>
   intro k a0 a3 m q r i h n j t s p a20 u a22 a23 E B;have g : k = succ.length:=(by omega);subst g;have e:=zu5 succ root a;rw [← zxo] at e;rw [xl zco rfl,zd7];have d1:=ovl succ root (a + 1) 999998 (by omega);simp -implicitDefEqProofs only [go_sem,sT7,yg,e,yp,d1]
 | succ d ih =>
   intro k a0 a3 m q r i h n j t s p a20 u a22 a23 E B;have g : k < succ.length:=(by omega);have x:=zC8 (l:=zdq succ root (-1)) (k:=k) (by rw [ziD]; exact g);have H:=zC8 (l:=zdq succ root (a : Int)) (k:=k) (by rw [ziD]; exact g);have go:=zhh succ.length (a + 1) a D (by omega)
   have A : (ze0 succ root a ++ [Ob.cells 0 1 ((zga succ root a k).map zfX)])[a]? = some (.cells 0 1 ((zga succ root a k).map zfX)):=by
    rw [List.getElem?_append_right (by rw [zaI]; omega),zaI,Nat.sub_self];rfl
   have z : ∀ o,(ze0 succ root a ++ [Ob.cells 0 1 ((zga succ root a k).map zfX)]).set a o = ze0 succ root a ++ [o]:=fun o => by
    have:=zrz (ze0 succ root a) [] (Ob.cells 0 1 ((zga succ root a k).map zfX)) o
    rwa [zaI] at this
   have y : ((zga succ root a k).map zfX)[k]? = some [.f (.lit (.bool false))]:=by
    rw [List.getElem?_map,zid succ root a k k g,if_neg (by omega)];rfl
   have b : ((zga succ root a k).map zfX).set k [C.f (.lit (.bool (ovB succ root a k)))] = (zga succ root a (k + 1)).map zfX:=by
    rw [← zxO succ root a k g,List.map_set];rfl
   have G : (zga succ root a k).length = succ.length:=zew succ root a k;have v : ((a : Int) < (succ.length : Int)) = True:=(by simp; omega);have w : ((k : Int) < (succ.length : Int)) = True:=(by simp; omega);have:=ih (k + 1) vU vU vU vU vU vU vU vU vU vU vU vU vU vU vU vU (by omega) (by omega);have d1:=ovl succ root a 999997 (by omega);rw [xl zco rfl,zd7];simp -implicitDefEqProofs only [go_sem,sT7] at this;cases c : (zdq succ root (-1)).getD k false
   ·have e : ovB succ root a k = false:=by unfold ovB; rw [c]; rfl
    rw [c] at x;rw [e] at b;simp -implicitDefEqProofs only [go_sem,sT7,zq0,ilt g,v,w,x,go,A,z,y,b,yk,yl,yq,yc,yd,yb,d1,za g (show succ.length ≤ 4294967296 by omega),this]
   ·have e : ovB succ root a k = !(zdq succ root (a : Int)).getD k false:=by unfold ovB; rw [c]; rfl
    rw [c] at x;rw [e] at b;simp -implicitDefEqProofs only [go_sem,sT7,zq0,ilt g,v,w,x,H,go,A,z,y,b,yk,yl,yq,yc,yd,yb,d1,za g (show succ.length ≤ 4294967296 by omega),this]
theorem zCd : ∀ (d k : Nat) (a0 a3 a8 a9 e i j b a g c m l h a20 n a22 a23 : V),succ.length - k = d → k ≤ succ.length →
  exec T zcf ⟨[a0,vI root,.one (.ptr 0 0 0 0),a3,vI succ.length,vBs (zdq succ root (-1)),.one (.own 1 0 0 succ.length),vI k,a8,a9,e,i,j,b,a,g,c,m,l,h,a20,n,a22,a23],sT7 succ pred root k k [],0,0⟩ =
   some (.exit 0,⟨[vU,vI root,vU,vU,vI succ.length,vU,.one (.own 1 0 0 succ.length),vU,vU,vU,vU,vU,vU,vU,vU,vU,vU,vU,vU,vU,vU,vU,vU,vU],sT7 succ pred root succ.length succ.length [],0,0⟩):=by
 intro d
 induction d with
 | zero =>
   intro k a0 a3 a8 a9 e i j b a g c m l h a20 n a22 a23 w u;have o : k = succ.length:=(by omega);subst o;rw [xl zcf rfl,zdX];have d1:=ovl succ root succ.length 999998 (by omega);simp -implicitDefEqProofs only [go_sem,sT7,yg,yp,d1]
 | succ d ih =>
   intro k a0 a3 a8 a9 e i j b a g c m l h a20 n a22 a23 w u;have o : k < succ.length:=(by omega);have t:=zmQ succ pred (by omega) hl hr (k : Int) root h0;have s:=fun a0 a3 e i j b a g c m l h a20 n a22 a23 => zAZ succ pred root hn hl hr h0 k o succ.length 0 a0 a3 e i j b a g c m l h a20 n a22 a23 (by omega) (by omega);simp only [yh,zvo] at s;have:=ih (k + 1) vU vU vU vU vU vU vU vU vU vU vU vU vU vU vU vU vU vU (by omega) (by omega);obtain ⟨c0,r⟩:=zzY succ.length k k o;have p:=zzC succ.length k o;have v : yj succ.length [C.f (.lit (.bool false))] = (yj succ.length false).map zfX:=(by rw [List.map_replicate]; rfl);have q : (succ.length : Int) ≤ (LIM : Int):=(by unfold LIM; omega);have d1:=ovl succ root (k + 1) 999998 (by omega);have hlen : (ze0 succ root k).length = k:=zaI succ root k;rw [xl zcf rfl,zdX];simp -implicitDefEqProofs only [go_sem] at t;simp -implicitDefEqProofs only [go_sem,sT7,yp] at s this;simp -implicitDefEqProofs only [go_sem,sT7,zq0,ilt o,q,v,r,p,hlen,yp,List.cons_append,List.length_cons,yk,yl,yq,List.set_cons_zero,yc,yd,yb,t,s,d1,za o (show succ.length ≤ 4294967296 by omega),this]
end
section
variable (f : PFunc) (hf : okF f) (succ pred : List (List Int)) (hpl : pred.length = f.blocks.length) (hpe : ∀ l ∈ pred,l.length ≤ 4294967296) (reach : List Bool) (hrl : reach.length = f.blocks.length)
abbrev znT (r : zd) : zd:=.cells 0 3 [zc4 f] :: .cells 0 2 [[.f (.sl (succ.map rl)),.f (.sl (pred.map rl))]] :: r
include hf hpl hpe hrl
theorem zwD (b : PBlock) (r : okB b) (i : Nat) (w : i < f.blocks.length) : ∀ (d k : Nat) (a0 a2 a4 a9 m n o j : V),b.phis.length - k = d → k ≤ b.phis.length →
  exec T zbu ⟨[a0,.one (.ptr 0 0 0 0),a2,.one (.ptr 1 0 0 0),a4,.one (.f (.sl (reach.map rbo))),vI i,.one (.ptr 2 0 0 0),vI k,a9,m,n,o,j],znT f succ pred [.cells 0 5 [zh b]],0,0⟩ =
   some (if (b.phis.drop k).all (zhU (pred.getD i [])) = true then (.exit 2,⟨[vU,.one (.ptr 0 0 0 0),vU,.one (.ptr 1 0 0 0),vU,.one (.f (.sl (reach.map rbo))),vI i,vU,vU,vU,vU,vU,vU,vU],znT f succ pred [.cells 0 5 [zh b]],0,0⟩)
    else (.ret,⟨[vU,vU,vB false,vU,vU,vU,vU,vU,vU,vU,vU,vU,vU,vU],znT f succ pred [.cells 0 5 [zh b]],0,0⟩)):=by
 intro d
 induction d with
 | zero =>
   intro k a0 a2 a4 a9 m n o j u t;have g : k = b.phis.length:=(by omega);subst g;rw [xl zbu rfl,zdH];simp -implicitDefEqProofs only [go_sem,znT,yg,yb,yo,List.all_nil]
 | succ d ih =>
   intro k a0 a2 a4 a9 m n o j u t;have g : k < b.phis.length:=(by omega);have hd : b.phis.drop k = b.phis[k] :: b.phis.drop (k + 1):=yf g;have a : i < pred.length:=(by omega);have s : pred.getD i [] = pred[i]:=(by rw [List.getD_eq_getElem?_getD,List.getElem?_eq_getElem a]; rfl);have v:=r.phi _ (yi g);have p:=zhr b.phis[k].src pred[i] v.1;have:=ih (k + 1) vU vU vU vU vU vU vU vU (by omega) (by omega);rw [xl zbu rfl,zdH,hd,List.all_cons];rw [s] at this ⊢;simp -implicitDefEqProofs only [go_sem,znT] at this
   by_cases c : b.phis[k].src = pred[i]
   ·by_cases c2 : b.phis[k].args.length = pred[i].length
    ·have e : zhU pred[i] b.phis[k] = true:=by
      unfold zhU;rw [decide_eq_true c,decide_eq_true (by rw [c]; exact c2)];rfl
     have l : (b.phis[k].args.length : Int) = (pred[i].length : Int):=(by omega);simp -implicitDefEqProofs only [go_sem,decide_eq_true c] at p;simp -implicitDefEqProofs only [go_sem,znT,ilt g,ilt a,zm g,zm a,rp,rl,yb,p,eq_true l,e,yc,yd,za g r.phis,this]
    ·have e : zhU pred[i] b.phis[k] = false:=by
      have q : ¬ b.phis[k].args.length = b.phis[k].src.length:=fun h => c2 (by rw [h,c]);unfold zhU;rw [decide_eq_false q,Bool.and_false]
     have l : ¬ (b.phis[k].args.length : Int) = (pred[i].length : Int):=(by omega);simp -implicitDefEqProofs only [go_sem,decide_eq_true c] at p;simp -implicitDefEqProofs only [go_sem,znT,ilt g,ilt a,zm g,zm a,rp,rl,yb,p,l,e,yc,yd]
   ·have e : zhU pred[i] b.phis[k] = false:=by
     unfold zhU;rw [decide_eq_false c];rfl
    simp -implicitDefEqProofs only [go_sem,decide_eq_false c] at p;simp -implicitDefEqProofs only [go_sem,znT,ilt g,ilt a,zm g,zm a,rp,rl,yb,p,e,yc,yd]
def zjK (pred : List (List Int)) (reach : List Bool) (i : Nat) (b : PBlock) : Bool:=reach.getD i false && (zeC b && b.phis.all (zhU (pred.getD i [])))
def zbo (pred : List (List Int)) (reach : List Bool) : Nat → List PBlock → Bool
 | _,[] => true
 | i,b :: r => zjK pred reach i b && zbo pred reach (i + 1) r
theorem zxj : ∀ (d k : Nat),f.blocks.length - k = d → k ≤ f.blocks.length → ∃ r,∀ (a0 a2 a4 a7 a8 a9 i j m g : V),
  exec T zV ⟨[a0,.one (.ptr 0 0 0 0),a2,.one (.ptr 1 0 0 0),a4,.one (.f (.sl (reach.map rbo))),vI k,a7,a8,a9,i,j,m,g],znT f succ pred [],0,0⟩ =
   some (if zbo pred reach k (f.blocks.drop k) = true then (.exit 0,⟨[vU,vU,vU,vU,vU,vU,vU,vU,vU,vU,vU,vU,vU,vU],znT f succ pred [],0,0⟩)
    else (.ret,⟨[vU,vU,vB false,vU,vU,vU,vU,vU,vU,vU,vU,vU,vU,vU],znT f succ pred r,0,0⟩)):=by
 intro d
 induction d with
 | zero =>
   intro k y x;have a : k = f.blocks.length:=(by omega);subst a;refine ⟨[],fun a0 a2 a4 a7 a8 a9 i j m g => ?_⟩;rw [xl zV rfl,zal];simp -implicitDefEqProofs only [go_sem,znT,yg,yb,yo,zbo]
 | succ d ih =>
   intro k y x;have a : k < f.blocks.length:=(by omega);have hd : f.blocks.drop k = f.blocks[k] :: f.blocks.drop (k + 1):=yf a;obtain ⟨b,u⟩ : ∃ b,b = f.blocks[k]:=⟨_,rfl⟩;have w:=hf.block _ (yi a);have p:=zm (r:=rb) a;rw [← u] at w p;have o:=zC8 (l:=reach) (k:=k) (by omega);have q:=fun a0 a2 a4 a9 i j m g => zwD f hf succ pred hpl hpe reach hrl b w k a b.phis.length 0 a0 a2 a4 a9 i j m g (by omega) (by omega);simp only [yh,ys] at q;obtain ⟨r,v⟩:=ih (k + 1) (by omega) (by omega);rw [hd,zbo,← u,zjK];simp -implicitDefEqProofs only [go_sem,znT] at v;cases c : reach.getD k false
   ·rw [c] at o
    refine ⟨[.cells 0 5 [zh b]],fun a0 a2 a4 a7 a8 a9 i j m g => ?_⟩;rw [xl zV rfl,zal];simp -implicitDefEqProofs only [go_sem,znT,ilt a,p,o,rb,yb,yc,yd]
   ·rw [c] at o
    cases e : zeC b
    ·refine ⟨[.cells 0 5 [zh b]],fun a0 a2 a4 a7 a8 a9 i j m g => ?_⟩
     have t : (b.kind = 1 ∨ b.kind = 3) ∧ ¬ b.arg = 0:=by
      unfold zeC at e;simp only [yv,yy,yz,decide_eq_true_eq,Bool.not_eq_true',decide_eq_false_iff_not] at e;exact e
     rw [xl zV rfl,zal]
     by_cases n : b.kind = 1
     ·simp -implicitDefEqProofs only [go_sem,znT,ilt a,p,o,rb,yb,yc,yd,eq_true n,t.2]
     ·have s : b.kind = 3:=t.1.resolve_left n
      simp -implicitDefEqProofs only [go_sem,znT,ilt a,p,o,rb,yb,yc,yd,n,eq_true s,t.2]
    ·have t : ¬ (b.kind = 1 ∨ b.kind = 3) ∨ b.arg = 0:=by
      by_cases z : b.arg = 0
      ·exact .inr z
      ·left
       intro h
       have : zeC b = false:=by
        unfold zeC;simp only [decide_eq_false z,Bool.not_false,Bool.and_true,yv,yz,decide_eq_true_eq];exact h
       rw [this] at e;cases e
     cases cp : b.phis.all (zhU (pred.getD k []))
     ·simp -implicitDefEqProofs only [go_sem,znT,cp,yr] at q
      refine ⟨[.cells 0 5 [zh b]],fun a0 a2 a4 a7 a8 a9 i j m g => ?_⟩;rw [xl zV rfl,zal]
      by_cases n : b.kind = 1
      ·have z : b.arg = 0:=t.resolve_left fun h => h (.inl n)
       simp -implicitDefEqProofs only [go_sem,znT,ilt a,p,o,rb,yb,yc,yd,eq_true n,eq_true z,q]
      ·by_cases s : b.kind = 3
       ·have z : b.arg = 0:=t.resolve_left fun h => h (.inr s)
        simp -implicitDefEqProofs only [go_sem,znT,ilt a,p,o,rb,yb,yc,yd,n,eq_true s,eq_true z,q]
       ·simp -implicitDefEqProofs only [go_sem,znT,ilt a,p,o,rb,yb,yc,yd,n,s,q]
     ·simp -implicitDefEqProofs only [go_sem,znT,cp] at q
      refine ⟨r,fun a0 a2 a4 a7 a8 a9 i j m g => ?_⟩;rw [xl zV rfl,zal]
      by_cases n : b.kind = 1
      ·have z : b.arg = 0:=t.resolve_left fun h => h (.inl n)
       simp -implicitDefEqProofs only [go_sem,znT,ilt a,p,o,rb,yb,yc,yd,eq_true n,eq_true z,q,za a hf.blocks,v]
      ·by_cases s : b.kind = 3
       ·have z : b.arg = 0:=t.resolve_left fun h => h (.inr s)
        simp -implicitDefEqProofs only [go_sem,znT,ilt a,p,o,rb,yb,yc,yd,n,eq_true s,eq_true z,q,za a hf.blocks,v]
       ·simp -implicitDefEqProofs only [go_sem,znT,ilt a,p,o,rb,yb,yc,yd,n,s,q,za a hf.blocks,v]
end
def zgb (f : PFunc) : Bool:=zay f && zbo (zN (zp f)) (zdq (zp f) 0 (-1)) 0 f.blocks
theorem zsx (f : PFunc) (hf : okF f) : call T 71 [zfZ f] [] = some (vB (zgb f),[]):=by
 rw [ze (fn:=zaP) rfl];have a:=zro f hf;cases c : zay f
 ·simp -implicitDefEqProofs only [go_sem,zgy,c,yr] at a
  simp -implicitDefEqProofs only [go_sem,zaP,zgb,c,a]
 ·have hm:=zfo c
  obtain ⟨j,n64,i⟩:=zez hm;have b : (zp f).length = f.blocks.length:=by simp [zp]
  have g:=zin hf;have d:=zmQ (zp f) (zN (zp f)) (by omega) g.2 i (-1) 0 (by omega);obtain ⟨r,h⟩:=zxj f hf (zp f) (zN (zp f)) (by rw [zcq]; exact b) (zj0 _ g (zgS hm)) (zdq (zp f) 0 (-1)) (by rw [ziD]; exact b) f.blocks.length 0 (by omega) (by omega);simp only [yh,ys] at h;simp -implicitDefEqProofs only [go_sem,zgy,c] at a;simp -implicitDefEqProofs only [go_sem] at d;cases e : zbo (zN (zp f)) (zdq (zp f) 0 (-1)) 0 f.blocks
  ·simp -implicitDefEqProofs only [go_sem,znT,e,yr] at h
   simp -implicitDefEqProofs only [go_sem,zaP,zgb,c,a,d,h,e]
  ·simp -implicitDefEqProofs only [go_sem,znT,e] at h
   simp -implicitDefEqProofs only [go_sem,zaP,zgb,c,a,d,h,e]
end AC
