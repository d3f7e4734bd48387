/- A part of the proof of AliasTells. Conditions: none. -/
import Derived.Test.YtmkncmffaaninaaGreatLAQ
import Derived.Test.YtmkncmffaaninaaGreatLAP
import Derived.Test.YtmkncmffaaninaaGreatLAO
set_option linter.all false
open Int renaming natCast_nonneg → ya,toNat_natCast → yc,lt_irrefl → yh,natCast_zero → yi
open List renaming length_map → yb,drop_eq_getElem_cons → yd,getElem?_eq_none → ye,getElem?_cons_succ → yf,getElem?_cons_zero → yg,drop_length → yj,getElem_mem → yk,getElem?_set_self → ym,ext_getElem? → yn,set_cons_succ → yo,drop_zero → yp,replicate → yq,length_cons → yr,getElem?_map → ys,all_cons → yt,length_set → yv,append_nil → yw,all_nil → yx,getElem?_set_ne → yy,getElem?_append_right → yz,getD_eq_getElem?_getD → yA,length_append → yB,getElem?_eq_getElem → yC,find?_cons → yE,range → yF,length_nil → yG,map_set → yH,map_nil → yI,find?_nil → yJ,map_replicate → yK,map_cons → yM,cons_append → yQ,length → yS,set_set → yW,map → yX
open Bool renaming false_eq_true → yl,and_false → yu,and_eq_true → yD,not_eq_false' → yL,and_true → yN,or_eq_true → yR,true_and → yT
open Option renaming isNone_some → yO,isNone_none → yP
open Nat renaming sub_self → yU,zero_add → yV
namespace AC
open Go Go.A Go.A.Lex
abbrev O0 (f : PFunc) : Ob:=.cells 0 3 [zaP f]
abbrev cM (g : Nat) : C:=.fn g [.ptr 1 0 0 0] []
abbrev O2 : Ob:=.cells 0 1 [[cM 159],[cM 160],[cM 161],[cM 162],[cM 163]]
def zjr (pi : List Int) (p : PPhi) : Bool:=decide (p.src = pi) && decide (p.args.length = p.src.length)
def zfy (b : PBlock) : Bool:=!((decide (b.kind = 1) || decide (b.kind = 3)) && !decide (b.arg = 0))
def zsM (pred : List (List Int)) (tree : List Int) (i : Nat) (b : PBlock) : Bool:=zmM tree i i && (b.phis.all (zjr (pred.getD i [])) && zfy b)
def zJ1 (pred : List (List Int)) (tree : List Int) (i : Nat) (b : PBlock) : Option (List Ob) :=
 if zmM tree i i = false then some [.cells 0 5 [zx b]] else
 match b.phis.find? fun p => !zjr (pred.getD i []) p with
 | some p => some [.cells 0 5 [zx b],.cells 0 4 [zyy p]]
 | none => if zfy b = false then some [.cells 0 5 [zx b]] else none
def ziu (pred : List (List Int)) (tree : List Int) : Nat → List PBlock → Option (List Ob)
 | _,[] => none
 | i,b :: r => match zJ1 pred tree i b with
   | some G => some G
   | none => ziu pred tree (i + 1) r
theorem zDA (pred : List (List Int)) (tree : List Int) (i : Nat) (b : PBlock) : (zJ1 pred tree i b).isNone = zsM pred tree i b:=by
 unfold zJ1 zsM;cases c : zmM tree i i
 ·simp
 ·simp only [Bool.true_eq_false,if_false,yT]
  cases a : b.phis.find? fun p => !zjr (pred.getD i []) p with
  | some p =>
    rw [show b.phis.all (zjr (pred.getD i [])) = false from zfp a];rfl
  | none =>
    rw [ze4 a];cases d : zfy b <;> simp
def ze2 (pred : List (List Int)) (tree : List Int) : Nat → List PBlock → Bool
 | _,[] => true
 | i,b :: r => zsM pred tree i b && ze2 pred tree (i + 1) r
theorem zmT (pred : List (List Int)) (tree : List Int) : ∀ (l : List PBlock) (i : Nat),(ziu pred tree i l).isNone = ze2 pred tree i l
 | [],_ => rfl
 | b :: r,i => by
   have h:=zDA pred tree i b;simp only [ziu,ze2]
   cases e : zJ1 pred tree i b with
   | some G =>
     rw [e] at h;simp only [yO] at h;simp [← h]
   | none =>
     rw [e] at h;simp only [yP] at h;rw [← h,yT];exact zmT pred tree r (i + 1)
section
variable (f : PFunc) (hf : okF f) (level : Int) (dd : C) (hdd : dd = .f (.lit (.map none))) (pred : List (List Int)) (hpl : pred.length = f.blocks.length) (hpp : ∀ l ∈ pred,l.length ≤ 4294967296) (tree : List Int) (htl : tree.length ≤ 4294967296) (x y : C) (hx : ∃ a,x = .f a) (hy : ∃ a,y = .f a)
abbrev zqi (f : PFunc) (level : Int) (pred : List (List Int)) (tree : List Int) : zd:=[O0 f,zBy f level (.f (.sl ((zn f).map rl))) (.f (.sl (pred.map rl))) (.f (eI tree)) (.f (.lit (.map none))),O2,.cells 0 2 [[.f (.sl ((zn f).map rl)),.f (.sl (pred.map rl))]]]
include hf hpl hpp htl
theorem zGP (b : PBlock) (n : okB b) (i : Nat) (s : i < f.blocks.length) : ∀ (d k : Nat) (a1 a3 a6 a7 g h m l j : V),b.phis.length - k = d → k ≤ b.phis.length →
  exec T zcr ⟨[.one (.ptr 1 0 0 0),a1,.one (.ptr 3 0 0 0),a3,vI i,.one (.ptr 4 0 0 0),a6,a7,vL (f.blocks.map rb),vI f.blocks.length,vI i,g,h,vL (b.phis.map rp),vI b.phis.length,vI k,m,l,j],zqi f level pred tree ++ [.cells 0 5 [zx b]],3,3⟩ =
   some (match (b.phis.drop k).find? (fun p => !zjr (pred.getD i []) p) with
    | none => (.exit 2,⟨[.one (.ptr 1 0 0 0),vU,.one (.ptr 3 0 0 0),vU,vU,.one (.ptr 4 0 0 0),vU,vU,vL (f.blocks.map rb),vI f.blocks.length,vI i,vU,vU,vU,vU,vU,vU,vU,vU],zqi f level pred tree ++ [.cells 0 5 [zx b]],3,3⟩)
    | some p => (.ret,⟨[vU,vI 5,vU,vU,vU,vU,vU,vU,vU,vU,vU,vU,vU,vU,vU,vU,vU,vU,vU],zqi f level pred tree ++ [.cells 0 5 [zx b],.cells 0 4 [zyy p]],3,3⟩)):=by
 intro d
 induction d with
 | zero =>
   intro k a1 a3 a6 a7 g h m l j r q;have a : k = b.phis.length:=(by omega);subst a;rw [xl zcr rfl,zex];simp -implicitDefEqProofs only [go_sem,zqi,yh,yj,yJ]
 | succ d ih =>
   intro k a1 a3 a6 a7 g h m l j r q;have a : k < b.phis.length:=(by omega);have hd : b.phis.drop k = b.phis[k] :: b.phis.drop (k + 1):=yd a;have c : i < pred.length:=(by omega);have o : pred.getD i [] = pred[i]:=(by simp [c]);have he:=zmY b.phis[k].src pred[i] [] (n.phi _ (yk a)).1;rw [xl zcr rfl,zex,hd,yE,o];rw [o] at ih
   by_cases c1 : b.phis[k].src = pred[i]
   ·by_cases c2 : b.phis[k].args.length = b.phis[k].src.length
    ·have e : ((b.phis[k].args.length : Int) = (b.phis[k].src.length : Int)) = True:=by simp [c2]
     have:=ih (k + 1) vU vU vU vU vU vU vU vU vU (by omega) (by omega);simp -implicitDefEqProofs only [go_sem,zqi,eq_true c1] at he this;simp -implicitDefEqProofs only [go_sem,zqi,ilt a,zt a,zt c,rp,rl,he,eq_true c1,e,eq_true c2,zjr,za a n.phis,this]
    ·have e : ¬ (b.phis[k].args.length : Int) = (b.phis[k].src.length : Int):=by omega
     simp -implicitDefEqProofs only [go_sem,zqi,eq_true c1] at he;simp -implicitDefEqProofs only [go_sem,zqi,ilt a,zt a,zt c,rp,rl,he,eq_true c1,e,c2,zjr]
   ·simp -implicitDefEqProofs only [go_sem,zqi,c1] at he
    simp -implicitDefEqProofs only [go_sem,zqi,ilt a,zt a,zt c,rp,rl,he,c1,zjr]
theorem zGX : ∀ (d k : Nat) (a1 a3 a4 a5 a6 a7 b c l n m h g e : V),f.blocks.length - k = d → k ≤ f.blocks.length →
  exec T zco ⟨[.one (.ptr 1 0 0 0),a1,.one (.ptr 3 0 0 0),a3,a4,a5,a6,a7,vL (f.blocks.map rb),vI f.blocks.length,vI k,b,c,l,n,m,h,g,e],zqi f level pred tree,3,3⟩ =
   some (match ziu pred tree k (f.blocks.drop k) with
    | none => (.exit 0,⟨[vU,vU,vU,vU,vU,vU,vU,vU,vU,vU,vU,vU,vU,vU,vU,vU,vU,vU,vU],zqi f level pred tree,3,3⟩)
    | some G => (.ret,⟨[vU,vI 5,vU,vU,vU,vU,vU,vU,vU,vU,vU,vU,vU,vU,vU,vU,vU,vU,vU],zqi f level pred tree ++ G,3,3⟩)):=by
 intro d
 induction d with
 | zero =>
   intro k a1 a3 a4 a5 a6 a7 b c l n m h g e u t;have a : k = f.blocks.length:=(by omega);subst a;rw [xl zco rfl,zez];simp -implicitDefEqProofs only [go_sem,zqi,yh,yj,ziu]
 | succ d ih =>
   intro k a1 a3 a4 a5 a6 a7 b c l n m h g e u t;have a : k < f.blocks.length:=(by omega);have hd : f.blocks.drop k = f.blocks[k] :: f.blocks.drop (k + 1):=yd a;have s:=hf.block _ (yk a);have i:=zrx tree k k htl;have j:=fun a1 a3 a6 a7 b c h g e => zGP f hf level pred hpl hpp tree htl f.blocks[k] s k a f.blocks[k].phis.length 0 a1 a3 a6 a7 b c h g e (by omega) (by omega);simp only [yp,yi] at j;rw [xl zco rfl,zez,hd,ziu,zJ1];cases e1 : zmM tree k k
   ·simp -implicitDefEqProofs only [go_sem,e1] at i
    simp -implicitDefEqProofs only [go_sem,zqi,ilt a,zt a,rb,i]
   ·cases e2 : f.blocks[k].phis.find? (fun p => !zjr (pred.getD k []) p) with
    | some p =>
      simp -implicitDefEqProofs only [go_sem,zqi,e1,e2] at i j;simp -implicitDefEqProofs only [go_sem,zqi,ilt a,zt a,rb,i,j]
    | none =>
      have:=ih (k + 1) vU vU vU vU vU vU vU vU vU vU vU vU vU vU (by omega) (by omega);simp -implicitDefEqProofs only [go_sem,zqi,e1,e2] at i j this
      by_cases q : f.blocks[k].kind = 1
      ·by_cases o : f.blocks[k].arg = 0
       ·simp -implicitDefEqProofs only [go_sem,zqi,ilt a,zt a,rb,i,j,zfy,eq_true q,eq_true o,za a hf.blocks,this]
       ·simp -implicitDefEqProofs only [go_sem,zqi,ilt a,zt a,rb,i,j,zfy,eq_true q,o]
      ·by_cases r : f.blocks[k].kind = 3
       ·by_cases o : f.blocks[k].arg = 0
        ·simp -implicitDefEqProofs only [go_sem,zqi,ilt a,zt a,rb,i,j,zfy,q,eq_true r,eq_true o,za a hf.blocks,this]
        ·simp -implicitDefEqProofs only [go_sem,zqi,ilt a,zt a,rb,i,j,zfy,q,eq_true r,o]
       ·simp -implicitDefEqProofs only [go_sem,zqi,ilt a,zt a,rb,i,j,zfy,q,r,za a hf.blocks,this]
end
theorem zLO (n : Nat) : (n + 1 + 1 + 1 + 1 ≤ 3) = False:=by simp
theorem zst (f : PFunc) (hf : okF f) (level : Int) (a : zaQ f = false) : call T 159 [.one (.ptr 1 0 0 0)] [O0 f,zBy f level (.f (.sl [])) (.f (.sl [])) (.f (.sl [])) (.f (.lit (.map none))),O2] = some (vI 5,[O0 f,zBy f level (.f (.sl [])) (.f (.sl [])) (.f (.sl [])) (.f (.lit (.map none))),O2]):=by
 rw [ze (fn:=zaT) rfl];have h:=zow f hf;simp -implicitDefEqProofs only [go_sem,zhZ,a] at h;simp -implicitDefEqProofs only [go_sem,zaT,h]
def zgZ (f : PFunc) (tree : List Int) : Bool:=zaQ f && ze2 (z7 (zn f)) tree 0 f.blocks
theorem zlq (succ : List (List Int)) (b : zl5 succ) (c : (succ.map yS).sum ≤ 4294967296) : ∀ l ∈ z7 succ,l.length ≤ 4294967296:=by
 have h : ∀ (l : List (List Int)) (i : Nat) (out : List (List Int)) (B : Nat),(∀ y ∈ out,y.length ≤ B) → ∀ y ∈ zbH i l out,y.length ≤ B + (l.map yS).sum:=by
  intro l
  induction l with
  | nil => intro i out B h y hy; exact h y hy
  | cons x r ih =>
    intro i out B h y hy;have:=ih (i + 1) (x.foldl (zwV i) out) (B + x.length) (ztS _ _ _ _ h) y hy;simp only [yM,List.sum_cons];omega
 intro l a;have:=h succ 0 (yq succ.length []) 0 (fun y hy => by rw [(List.mem_replicate.1 hy).2]; simp) l a;omega
theorem zgr {f : PFunc} (h : zaQ f = true) : zbY (zn f) = true:=by
 simp only [zaQ,yD] at h;exact h.2.2
theorem zuF (f : PFunc) (hf : okF f) (level : Int) (o : zaQ f = true) (tree : List Int) (htl : tree.length ≤ 4294967296)
  (j : call T 195 [.agg [.f (.sl ((zn f).map rl)),.f (.sl ((z7 (zn f)).map rl))],vI 0] [] = some (vIs tree,[])) :
  call T 159 [.one (.ptr 1 0 0 0)] [O0 f,zBy f level (.f (.sl [])) (.f (.sl [])) (.f (.sl [])) (.f (.lit (.map none))),O2] =
   some (vI (if ze2 (z7 (zn f)) tree 0 f.blocks = true then 0 else 5),[O0 f,zBy f level (.f (.sl ((zn f).map rl))) (.f (.sl ((z7 (zn f)).map rl))) (.f (eI tree)) (.f (.lit (.map none))),O2]):=by
 rw [ze (fn:=zaT) rfl];have h:=zow f hf;have b:=fun a1 a3 a4 a5 a6 a7 c g d m k n l i => zGX f hf level (z7 (zn f)) (by rw [zcT]; simp [zn]) (zlq _ (zjN hf) (zic (zgr o))) tree htl f.blocks.length 0 a1 a3 a4 a5 a6 a7 c g d m k n l i (by omega) (by omega);simp only [yp,yi] at b;have a:=zmT (z7 (zn f)) tree f.blocks 0;simp -implicitDefEqProofs only [go_sem,zhZ,o] at h j
 cases e : ziu (z7 (zn f)) tree 0 f.blocks with
 | none =>
   rw [e] at a;simp only [yP] at a;simp -implicitDefEqProofs only [go_sem,zqi,e] at b;simp -implicitDefEqProofs only [go_sem,zaT,h,j,b,← a]
 | some G =>
   rw [e] at a;simp only [yO] at a;simp -implicitDefEqProofs only [go_sem,zqi,e] at b;simp -implicitDefEqProofs only [go_sem,zaT,h,j,b,← a,zLO]
section
variable (succ pred : List (List Int)) (hn : succ.length ≤ 64) (hp : pred.length ≤ 64) (hl : ∀ l ∈ succ,l.length ≤ 4294967296) (hlp : ∀ l ∈ pred,l.length ≤ 4294967296)
abbrev s62 : zd:=[.cells 0 2 [[.f (.sl (succ.map rl)),.f (.sl (pred.map rl))]],.cells 0 2 [[.f (.sl (succ.map rl)),.f (.sl (pred.map rl))]]]
include hn hp hl hlp
theorem zFX : ∀ (d k : Nat) (a0 a1 a4 a6 a7 a8 a9 b a : V),succ.length - k = d → k ≤ succ.length →
  exec T zda ⟨[a0,a1,.one (.ptr 0 0 0 0),.one (.ptr 1 0 0 0),a4,vI k,a6,a7,a8,a9,b,a],s62 succ pred,0,0⟩ = some (.exit 0,⟨[vU,vU,.one (.ptr 0 0 0 0),.one (.ptr 1 0 0 0),vU,vU,vU,vU,vU,vU,vU,vU],s62 succ pred,0,0⟩):=by
 intro d
 induction d with
 | zero =>
   intro k a0 a1 a4 a6 a7 a8 a9 b a f g;have c : k = succ.length:=(by omega);subst c;rw [xl zda rfl,zfb];simp -implicitDefEqProofs only [go_sem,s62,yh,yb]
 | succ d ih =>
   intro k a0 a1 a4 a6 a7 a8 a9 b a f g;have c : k < succ.length:=(by omega);have e:=zjk succ[k] succ[k] (hl _ (yk c));have:=ih (k + 1) vU vU vU vU vU vU vU vU vU (by omega) (by omega);rw [xl zda rfl,zfb];simp -implicitDefEqProofs only [go_sem] at e;simp -implicitDefEqProofs only [go_sem,s62] at this;simp -implicitDefEqProofs only [go_sem,s62,ilt c,zt c,rl,yb,e,za c (show succ.length ≤ 4294967296 by omega),this]
theorem zFS : ∀ (d k : Nat) (a0 a1 a4 a5 a7 a8 a9 b a : V),pred.length - k = d → k ≤ pred.length →
  exec T zcJ ⟨[a0,a1,.one (.ptr 0 0 0 0),.one (.ptr 1 0 0 0),a4,a5,vI k,a7,a8,a9,b,a],s62 succ pred,0,0⟩ = some (.exit 2,⟨[vU,vU,vU,vU,vU,vU,vU,vU,vU,vU,vU,vU],s62 succ pred,0,0⟩):=by
 intro d
 induction d with
 | zero =>
   intro k a0 a1 a4 a5 a7 a8 a9 b a f g;have c : k = pred.length:=(by omega);subst c;rw [xl zcJ rfl,zfu];simp -implicitDefEqProofs only [go_sem,s62,yh,yb]
 | succ d ih =>
   intro k a0 a1 a4 a5 a7 a8 a9 b a f g;have c : k < pred.length:=(by omega);have e:=zjk pred[k] pred[k] (hlp _ (yk c));have:=ih (k + 1) vU vU vU vU vU vU vU vU vU (by omega) (by omega);rw [xl zcJ rfl,zfu];simp -implicitDefEqProofs only [go_sem] at e;simp -implicitDefEqProofs only [go_sem,s62] at this;simp -implicitDefEqProofs only [go_sem,s62,ilt c,zt c,rl,yb,e,za c (show pred.length ≤ 4294967296 by omega),this]
theorem zvY : call T 173 [.agg [.f (.sl (succ.map rl)),.f (.sl (pred.map rl))],.agg [.f (.sl (succ.map rl)),.f (.sl (pred.map rl))]] [] = some (vB true,[]):=by
 rw [ze (fn:=zfC) rfl];have d:=fun a0 a1 a4 a6 a7 a8 a9 b a => zFX succ pred hn hp hl hlp succ.length 0 a0 a1 a4 a6 a7 a8 a9 b a (by omega) (by omega);have c:=fun a0 a1 a4 a5 a7 a8 a9 b a => zFS succ pred hn hp hl hlp pred.length 0 a0 a1 a4 a5 a7 a8 a9 b a (by omega) (by omega);simp only [yi] at d c;simp -implicitDefEqProofs only [go_sem,s62] at d c;simp -implicitDefEqProofs only [go_sem,zfC,yb,d,c]
end
theorem zEi (succ : List (List Int)) (a : zl5 succ) (hm : zbY succ = true) : call T 130 [.agg [.f (.sl (succ.map rl)),.f (.sl ((z7 succ).map rl))]] [] = some (vB true,[]):=by
 rw [ze (fn:=zgl) rfl];obtain ⟨e,d,g⟩:=zhC hm;have b:=zpO succ a;have c:=zvY succ (z7 succ) d (by rw [zcT]; exact d) a.2 (zlq succ a (zic hm));simp -implicitDefEqProofs only [go_sem,zlE,hm] at b;simp -implicitDefEqProofs only [go_sem] at c;simp -implicitDefEqProofs only [go_sem,zgl,b,c]
section
variable (succ : List (List Int)) (root : Int)
def ovB (c b : Nat) : Bool:=(zef succ root (-1)).getD b false && !(zef succ root (c : Int)).getD b false
def zql (c : Nat) : List Bool:=(yF succ.length).map fun b => ovB succ root c b
def zhy (c k : Nat) : List Bool:=(yF succ.length).map fun b => if b < k then ovB succ root c b else false
def zf8 (b a : Nat) : Nat → Nat → Bool
 | _,0 => true
 | k,d + 1 => (decide (k = b) || (!ovB succ root k b || ovB succ root k a)) && zf8 b a (k + 1) d
def zhp (b : Nat) : Nat → Nat → Int → Int
 | _,0,v => v
 | k,d + 1,v => zhp b (k + 1) d (if (!decide (k = b) && (ovB succ root k b && zf8 succ root b k 0 succ.length)) = true then (k : Int) else v)
def zun (b : Nat) : Int:=if (b : Int) = root then -1 else zhp succ root b 0 succ.length (-2)
def zhI (k : Nat) : List Int:=(yF succ.length).map fun b => if b < k then zun succ root b else 0
def zdK : List Int:=(yF succ.length).map fun b => zun succ root b
theorem zlI (c : Nat) : (zql succ root c).length = succ.length:=by simp [zql]
theorem zfx (c k : Nat) : (zhy succ root c k).length = succ.length:=by simp [zhy]
theorem zkb (w : Int) : (zef succ root w).length = succ.length:=by
 unfold zef;split
 ·simp
 ·rw [zh0]; simp
theorem zwf (c b : Nat) (h : b < succ.length) : (zql succ root c)[b]? = some (ovB succ root c b):=by simp [zql,h]
theorem zjR (c k b : Nat) (h : b < succ.length) : (zhy succ root c k)[b]? = some (if b < k then ovB succ root c b else false):=by simp [zhy,h]
theorem zx8 (c : Nat) : zhy succ root c 0 = yq succ.length false:=by
 apply yn;intro j
 by_cases h : j < succ.length
 ·rw [zjR succ root c 0 j h]; simp [h]
 ·rw [ye (by rw [zfx]; omega),ye (by simp; omega)]
theorem zz9 (c : Nat) : zhy succ root c succ.length = zql succ root c:=by
 apply yn;intro j
 by_cases h : j < succ.length
 ·rw [zjR succ root c _ j h,zwf succ root c j h,if_pos h]
 ·rw [ye (by rw [zfx]; omega),ye (by rw [zlI]; omega)]
theorem zz0 (c k : Nat) (h : k < succ.length) : (zhy succ root c k).set k (ovB succ root c k) = zhy succ root c (k + 1):=by
 apply yn;intro j
 by_cases a : j < succ.length
 ·rw [zjR succ root c (k + 1) j a]
  by_cases e : k = j
  ·subst e
   rw [ym (by rw [zfx]; exact h),if_pos (by omega)]
  ·rw [yy e,zjR succ root c k j a]
   by_cases f : j < k
   ·rw [if_pos f,if_pos (by omega)]
   ·rw [if_neg f,if_neg (by omega)]
 ·rw [ye (by rw [yv,zfx]; omega),ye (by rw [zfx]; omega)]
theorem zhs (k : Nat) : (zhI succ root k).length = succ.length:=by simp [zhI]
theorem znW (k b : Nat) (h : b < succ.length) : (zhI succ root k)[b]? = some (if b < k then zun succ root b else 0):=by simp [zhI,h]
theorem zD7 (k : Nat) (h : k < succ.length) : (zhI succ root k).set k (zun succ root k) = zhI succ root (k + 1):=by
 apply yn;intro j
 by_cases a : j < succ.length
 ·rw [znW succ root (k + 1) j a]
  by_cases e : k = j
  ·subst e
   rw [ym (by rw [zhs]; exact h),if_pos (by omega)]
  ·rw [yy e,znW succ root k j a]
   by_cases f : j < k
   ·rw [if_pos f,if_pos (by omega)]
   ·rw [if_neg f,if_neg (by omega)]
 ·rw [ye (by rw [yv,zhs]; omega),ye (by rw [zhs]; omega)]
theorem zz5 : zhI succ root 0 = yq succ.length 0:=by
 apply yn;intro j
 by_cases h : j < succ.length
 ·rw [znW succ root 0 j h]; simp [h]
 ·rw [ye (by rw [zhs]; omega),ye (by simp; omega)]
theorem zEP : zhI succ root succ.length = zdK succ root:=by
 unfold zhI zdK;apply List.map_congr_left;intro b a;rw [if_pos (List.mem_range.1 a)]
def zpH (n k : Nat) : List (List C):=(yF n).map fun a => if a < k then [.own (a + 1 + 1) 0 0 n] else [.f (.sl [])]
theorem zi4 (n k : Nat) : (zpH n k).length = n:=by simp [zpH]
theorem ziD (n k a : Nat) (h : a < n) (b : a < k) : (zpH n k)[a]? = some [.own (a + 1 + 1) 0 0 n]:=by simp [zpH,h,b]
theorem zDW (n k a : Nat) (h : a < n) : ∃ c,(zpH n k)[a]? = some [c]:=by
 by_cases b : a < k
 ·exact ⟨_,ziD n k a h b⟩
 ·exact ⟨.f (.sl []),by simp [zpH,h,b]⟩
theorem zBF (n k : Nat) (h : k < n) : (zpH n k).set k [.own (k + 1 + 1) 0 0 n] = zpH n (k + 1):=by
 apply yn;intro j
 by_cases a : j < n
 ·by_cases e : k = j
  ·subst e
   rw [ym (by rw [zi4]; exact h),ziD n _ _ a (by omega)]
  ·rw [yy e]
   by_cases f : j < k
   ·rw [ziD n k j a f,ziD n (k + 1) j a (by omega)]
   ·simp [zpH,a,f,show ¬ j < k + 1 by omega]
 ·rw [ye (by rw [yv,zi4]; omega),ye (by rw [zi4]; omega)]
theorem zAr (n : Nat) : zpH n 0 = yq n [.f (.sl [])]:=by
 apply yn;intro j
 by_cases h : j < n
 ·simp [zpH,h]
 ·rw [ye (by rw [zi4]; omega),ye (by simp; omega)]
def zfT (k : Nat) : zd:=(yF k).map fun c => .cells 0 1 ((zql succ root c).map zg8)
theorem zbi (k : Nat) : (zfT succ root k).length = k:=by simp [zfT]
theorem zxD (k : Nat) : zfT succ root k ++ [.cells 0 1 ((zql succ root k).map zg8)] = zfT succ root (k + 1):=by
 unfold zfT;rw [List.range_succ,List.map_append];rfl
theorem zAW (k c : Nat) (h : c < k) : (zfT succ root k)[c]? = some (.cells 0 1 ((zql succ root c).map zg8)):=by simp [zfT,h]
end
section
variable (succ pred : List (List Int)) (root : Int) (hn1 : 1 ≤ succ.length) (hn : succ.length ≤ 64) (hl : ∀ l ∈ succ,l.length ≤ 4294967296) (hr : ∀ l ∈ succ,∀ y ∈ l,0 ≤ y ∧ y < (succ.length : Int)) (h0 : 0 ≤ root ∧ root < (succ.length : Int))
abbrev sT7 (k a : Nat) (r : zd) : zd:=ztv succ pred :: .cells 0 1 (zpH succ.length k) :: (zfT succ root a ++ r)
theorem zId {l : List Bool} {k : Nat} (h : k < l.length) : (l.map rbo)[k]? = some [.lit (.bool (l.getD k false))]:=by simp [h,rbo]
theorem ovl (k m : Nat) (h : k ≤ m) : (yS (zfT succ root k) ≤ m) = True:=by rw [zbi]; simp [h]
include hn hl hr h0
theorem zFe (a : Nat) (E : a < succ.length) : ∀ (d k : Nat) (a0 a3 r h j i t p u q m s a20 n a22 a23 : V),succ.length - k = d → k ≤ succ.length →
  exec T zde ⟨[a0,vI root,.one (.ptr 0 0 0 0),a3,vI succ.length,vBs (zef succ root (-1)),.one (.own 1 0 0 succ.length),vI a,vBs (zef succ root a),vI k,r,h,j,i,t,p,u,q,m,s,a20,n,a22,a23],sT7 succ pred root (a + 1) a [.cells 0 1 ((zhy succ root a k).map zg8)],0,0⟩ =
   some (.exit 2,⟨[vU,vI root,.one (.ptr 0 0 0 0),vU,vI succ.length,vBs (zef succ root (-1)),.one (.own 1 0 0 succ.length),vI a,vU,vU,vU,vU,vU,vU,vU,vU,vU,vU,vU,vU,vU,vU,vU,vU],sT7 succ pred root (a + 1) (a + 1) [],0,0⟩):=by
 intro d
 induction d with
 | zero =>
   intro k a0 a3 r h j i t p u q m s a20 n a22 a23 H G;have g : k = succ.length:=(by omega);subst g;have e:=zxD succ root a;rw [← zz9] at e;rw [xl zde rfl,zfk];have d1:=ovl succ root (a + 1) 999998 (by omega);simp -implicitDefEqProofs only [go_sem,sT7,yh,e,yw,d1]
 | succ d ih =>
   intro k a0 a3 r h j i t p u q m s a20 n a22 a23 H G;have g : k < succ.length:=(by omega);have x:=zId (l:=zef succ root (-1)) (k:=k) (by rw [zkb]; exact g);have D:=zId (l:=zef succ root (a : Int)) (k:=k) (by rw [zkb]; exact g);have go:=ziD succ.length (a + 1) a E (by omega)
   have A : (zfT succ root a ++ [Ob.cells 0 1 ((zhy succ root a k).map zg8)])[a]? = some (.cells 0 1 ((zhy succ root a k).map zg8)):=by
    rw [yz (by rw [zbi]; omega),zbi,yU];rfl
   have y : ∀ o,(zfT succ root a ++ [Ob.cells 0 1 ((zhy succ root a k).map zg8)]).set a o = zfT succ root a ++ [o]:=fun o => by
    have:=zuP (zfT succ root a) [] (Ob.cells 0 1 ((zhy succ root a k).map zg8)) o
    rwa [zbi] at this
   have z : ((zhy succ root a k).map zg8)[k]? = some [.f (.lit (.bool false))]:=by
    rw [ys,zjR succ root a k k g,if_neg (by omega)];rfl
   have b : ((zhy succ root a k).map zg8).set k [C.f (.lit (.bool (ovB succ root a k)))] = (zhy succ root a (k + 1)).map zg8:=by
    rw [← zz0 succ root a k g,yH];rfl
   have B : (zhy succ root a k).length = succ.length:=zfx succ root a k;have v : ((a : Int) < (succ.length : Int)) = True:=(by simp; omega);have w : ((k : Int) < (succ.length : Int)) = True:=(by simp; omega);have:=ih (k + 1) vU vU vU vU vU vU vU vU vU vU vU vU vU vU vU vU (by omega) (by omega);have d1:=ovl succ root a 999997 (by omega);rw [xl zde rfl,zfk];simp -implicitDefEqProofs only [go_sem,sT7] at this;cases c : (zef succ root (-1)).getD k false
   ·have e : ovB succ root a k = false:=by unfold ovB; rw [c]; rfl
    rw [c] at x;rw [e] at b;simp -implicitDefEqProofs only [go_sem,sT7,ztv,ilt g,v,w,x,go,A,y,z,b,yf,yg,yo,ya,yc,yb,d1,za g (show succ.length ≤ 4294967296 by omega),this]
   ·have e : ovB succ root a k = !(zef succ root (a : Int)).getD k false:=by unfold ovB; rw [c]; rfl
    rw [c] at x;rw [e] at b;simp -implicitDefEqProofs only [go_sem,sT7,ztv,ilt g,v,w,x,D,go,A,y,z,b,yf,yg,yo,ya,yc,yb,d1,za g (show succ.length ≤ 4294967296 by omega),this]
theorem zGd : ∀ (d k : Nat) (a0 a3 a8 a9 j a c b m i n h e l a20 g a22 a23 : V),succ.length - k = d → k ≤ succ.length →
  exec T zcU ⟨[a0,vI root,.one (.ptr 0 0 0 0),a3,vI succ.length,vBs (zef succ root (-1)),.one (.own 1 0 0 succ.length),vI k,a8,a9,j,a,c,b,m,i,n,h,e,l,a20,g,a22,a23],sT7 succ pred root k k [],0,0⟩ =
   some (.exit 0,⟨[vU,vI root,vU,vU,vI succ.length,vU,.one (.own 1 0 0 succ.length),vU,vU,vU,vU,vU,vU,vU,vU,vU,vU,vU,vU,vU,vU,vU,vU,vU],sT7 succ pred root succ.length succ.length [],0,0⟩):=by
 intro d
 induction d with
 | zero =>
   intro k a0 a3 a8 a9 j a c b m i n h e l a20 g a22 a23 w u;have o : k = succ.length:=(by omega);subst o;rw [xl zcU rfl,ze6];have d1:=ovl succ root succ.length 999998 (by omega);simp -implicitDefEqProofs only [go_sem,sT7,yh,yw,d1]
 | succ d ih =>
   intro k a0 a3 a8 a9 j a c b m i n h e l a20 g a22 a23 w u;have o : k < succ.length:=(by omega);have t:=zph succ pred (by omega) hl hr (k : Int) root h0;have s:=fun a0 a3 j a c b m i n h e l a20 g a22 a23 => zFe succ pred root hn hl hr h0 k o succ.length 0 a0 a3 j a c b m i n h e l a20 g a22 a23 (by omega) (by omega);simp only [yi,zx8] at s;have:=ih (k + 1) vU vU vU vU vU vU vU vU vU vU vU vU vU vU vU vU vU vU (by omega) (by omega);obtain ⟨c0,r⟩:=zDW succ.length k k o;have p:=zBF succ.length k o;have v : yq succ.length [C.f (.lit (.bool false))] = (yq succ.length false).map zg8:=(by rw [yK]; rfl);have q : (succ.length : Int) ≤ (LIM : Int):=(by unfold LIM; omega);have d1:=ovl succ root (k + 1) 999998 (by omega);have hlen : (zfT succ root k).length = k:=zbi succ root k;rw [xl zcU rfl,ze6];simp -implicitDefEqProofs only [go_sem] at t;simp -implicitDefEqProofs only [go_sem,sT7,yw] at s this;simp -implicitDefEqProofs only [go_sem,sT7,ztv,ilt o,q,v,r,p,hlen,yw,yQ,yr,yf,yg,yo,List.set_cons_zero,ya,yc,yb,t,s,d1,za o (show succ.length ≤ 4294967296 by omega),this]
end
section
variable (f : PFunc) (hf : okF f) (succ pred : List (List Int)) (hpl : pred.length = f.blocks.length) (hpe : ∀ l ∈ pred,l.length ≤ 4294967296) (reach : List Bool) (hrl : reach.length = f.blocks.length)
abbrev zpP (r : zd) : zd:=.cells 0 3 [zaP f] :: .cells 0 2 [[.f (.sl (succ.map rl)),.f (.sl (pred.map rl))]] :: r
include hf hpl hpe hrl
theorem zBb (b : PBlock) (r : okB b) (i : Nat) (w : i < f.blocks.length) : ∀ (d k : Nat) (a0 a2 a4 a9 o l n m : V),b.phis.length - k = d → k ≤ b.phis.length →
  exec T zcf ⟨[a0,.one (.ptr 0 0 0 0),a2,.one (.ptr 1 0 0 0),a4,.one (.f (.sl (reach.map rbo))),vI i,.one (.ptr 2 0 0 0),vI k,a9,o,l,n,m],zpP f succ pred [.cells 0 5 [zx b]],0,0⟩ =
   some (if (b.phis.drop k).all (zjr (pred.getD i [])) = true then (.exit 2,⟨[vU,.one (.ptr 0 0 0 0),vU,.one (.ptr 1 0 0 0),vU,.one (.f (.sl (reach.map rbo))),vI i,vU,vU,vU,vU,vU,vU,vU],zpP f succ pred [.cells 0 5 [zx b]],0,0⟩)
    else (.ret,⟨[vU,vU,vB false,vU,vU,vU,vU,vU,vU,vU,vU,vU,vU,vU],zpP f succ pred [.cells 0 5 [zx b]],0,0⟩)):=by
 intro d
 induction d with
 | zero =>
   intro k a0 a2 a4 a9 o l n m v u;have g : k = b.phis.length:=(by omega);subst g;rw [xl zcf rfl,zeL];simp -implicitDefEqProofs only [go_sem,zpP,yh,yb,yj,yx]
 | succ d ih =>
   intro k a0 a2 a4 a9 o l n m v u;have g : k < b.phis.length:=(by omega);have hd : b.phis.drop k = b.phis[k] :: b.phis.drop (k + 1):=yd g;have a : i < pred.length:=(by omega);have t : pred.getD i [] = pred[i]:=(by rw [yA,yC a]; rfl);have s:=r.phi _ (yk g);have p:=zjk b.phis[k].src pred[i] s.1;have:=ih (k + 1) vU vU vU vU vU vU vU vU (by omega) (by omega);rw [xl zcf rfl,zeL,hd,yt];rw [t] at this ⊢;simp -implicitDefEqProofs only [go_sem,zpP] at this
   by_cases c : b.phis[k].src = pred[i]
   ·by_cases c2 : b.phis[k].args.length = pred[i].length
    ·have e : zjr pred[i] b.phis[k] = true:=by
      unfold zjr;rw [decide_eq_true c,decide_eq_true (by rw [c]; exact c2)];rfl
     have j : (b.phis[k].args.length : Int) = (pred[i].length : Int):=(by omega);simp -implicitDefEqProofs only [go_sem,decide_eq_true c] at p;simp -implicitDefEqProofs only [go_sem,zpP,ilt g,ilt a,zt g,zt a,rp,rl,yb,p,eq_true j,e,ya,yc,za g r.phis,this]
    ·have e : zjr pred[i] b.phis[k] = false:=by
      have q : ¬ b.phis[k].args.length = b.phis[k].src.length:=fun h => c2 (by rw [h,c]);unfold zjr;rw [decide_eq_false q,yu]
     have j : ¬ (b.phis[k].args.length : Int) = (pred[i].length : Int):=(by omega);simp -implicitDefEqProofs only [go_sem,decide_eq_true c] at p;simp -implicitDefEqProofs only [go_sem,zpP,ilt g,ilt a,zt g,zt a,rp,rl,yb,p,j,e,ya,yc]
   ·have e : zjr pred[i] b.phis[k] = false:=by
     unfold zjr;rw [decide_eq_false c];rfl
    simp -implicitDefEqProofs only [go_sem,decide_eq_false c] at p;simp -implicitDefEqProofs only [go_sem,zpP,ilt g,ilt a,zt g,zt a,rp,rl,yb,p,e,ya,yc]
def zlk (pred : List (List Int)) (reach : List Bool) (i : Nat) (b : PBlock) : Bool:=reach.getD i false && (zfy b && b.phis.all (zjr (pred.getD i [])))
def zb0 (pred : List (List Int)) (reach : List Bool) : Nat → List PBlock → Bool
 | _,[] => true
 | i,b :: r => zlk pred reach i b && zb0 pred reach (i + 1) r
theorem zAl : ∀ (d k : Nat),f.blocks.length - k = d → k ≤ f.blocks.length → ∃ r,∀ (a0 a2 a4 a7 a8 a9 m g i j : V),
  exec T zal ⟨[a0,.one (.ptr 0 0 0 0),a2,.one (.ptr 1 0 0 0),a4,.one (.f (.sl (reach.map rbo))),vI k,a7,a8,a9,m,g,i,j],zpP f succ pred [],0,0⟩ =
   some (if zb0 pred reach k (f.blocks.drop k) = true then (.exit 0,⟨[vU,vU,vU,vU,vU,vU,vU,vU,vU,vU,vU,vU,vU,vU],zpP f succ pred [],0,0⟩)
    else (.ret,⟨[vU,vU,vB false,vU,vU,vU,vU,vU,vU,vU,vU,vU,vU,vU],zpP f succ pred r,0,0⟩)):=by
 intro d
 induction d with
 | zero =>
   intro k y x;have a : k = f.blocks.length:=(by omega);subst a;refine ⟨[],fun a0 a2 a4 a7 a8 a9 m g i j => ?_⟩;rw [xl zal rfl,zaK];simp -implicitDefEqProofs only [go_sem,zpP,yh,yb,yj,zb0]
 | succ d ih =>
   intro k y x;have a : k < f.blocks.length:=(by omega);have hd : f.blocks.drop k = f.blocks[k] :: f.blocks.drop (k + 1):=yd a;obtain ⟨b,u⟩ : ∃ b,b = f.blocks[k]:=⟨_,rfl⟩;have w:=hf.block _ (yk a);have p:=zt (r:=rb) a;rw [← u] at w p;have o:=zId (l:=reach) (k:=k) (by omega);have s:=fun a0 a2 a4 a9 m g i j => zBb f hf succ pred hpl hpe reach hrl b w k a b.phis.length 0 a0 a2 a4 a9 m g i j (by omega) (by omega);simp only [yi,yp] at s;obtain ⟨r,v⟩:=ih (k + 1) (by omega) (by omega);rw [hd,zb0,← u,zlk];simp -implicitDefEqProofs only [go_sem,zpP] at v;cases c : reach.getD k false
   ·rw [c] at o
    refine ⟨[.cells 0 5 [zx b]],fun a0 a2 a4 a7 a8 a9 m g i j => ?_⟩;rw [xl zal rfl,zaK];simp -implicitDefEqProofs only [go_sem,zpP,ilt a,p,o,rb,yb,ya,yc]
   ·rw [c] at o
    cases e : zfy b
    ·refine ⟨[.cells 0 5 [zx b]],fun a0 a2 a4 a7 a8 a9 m g i j => ?_⟩
     have t : (b.kind = 1 ∨ b.kind = 3) ∧ ¬ b.arg = 0:=by
      unfold zfy at e;simp only [yL,yD,yR,decide_eq_true_eq,Bool.not_eq_true',decide_eq_false_iff_not] at e;exact e
     rw [xl zal rfl,zaK]
     by_cases n : b.kind = 1
     ·simp -implicitDefEqProofs only [go_sem,zpP,ilt a,p,o,rb,yb,ya,yc,eq_true n,t.2]
     ·have q : b.kind = 3:=t.1.resolve_left n
      simp -implicitDefEqProofs only [go_sem,zpP,ilt a,p,o,rb,yb,ya,yc,n,eq_true q,t.2]
    ·have t : ¬ (b.kind = 1 ∨ b.kind = 3) ∨ b.arg = 0:=by
      by_cases z : b.arg = 0
      ·exact .inr z
      ·left
       intro h
       have : zfy b = false:=by
        unfold zfy;simp only [decide_eq_false z,Bool.not_false,yN,yL,yR,decide_eq_true_eq];exact h
       rw [this] at e;cases e
     cases cp : b.phis.all (zjr (pred.getD k []))
     ·simp -implicitDefEqProofs only [go_sem,zpP,cp,yl] at s
      refine ⟨[.cells 0 5 [zx b]],fun a0 a2 a4 a7 a8 a9 m g i j => ?_⟩;rw [xl zal rfl,zaK]
      by_cases n : b.kind = 1
      ·have z : b.arg = 0:=t.resolve_left fun h => h (.inl n)
       simp -implicitDefEqProofs only [go_sem,zpP,ilt a,p,o,rb,yb,ya,yc,eq_true n,eq_true z,s]
      ·by_cases q : b.kind = 3
       ·have z : b.arg = 0:=t.resolve_left fun h => h (.inr q)
        simp -implicitDefEqProofs only [go_sem,zpP,ilt a,p,o,rb,yb,ya,yc,n,eq_true q,eq_true z,s]
       ·simp -implicitDefEqProofs only [go_sem,zpP,ilt a,p,o,rb,yb,ya,yc,n,q,s]
     ·simp -implicitDefEqProofs only [go_sem,zpP,cp] at s
      refine ⟨r,fun a0 a2 a4 a7 a8 a9 m g i j => ?_⟩;rw [xl zal rfl,zaK]
      by_cases n : b.kind = 1
      ·have z : b.arg = 0:=t.resolve_left fun h => h (.inl n)
       simp -implicitDefEqProofs only [go_sem,zpP,ilt a,p,o,rb,yb,ya,yc,eq_true n,eq_true z,s,za a hf.blocks,v]
      ·by_cases q : b.kind = 3
       ·have z : b.arg = 0:=t.resolve_left fun h => h (.inr q)
        simp -implicitDefEqProofs only [go_sem,zpP,ilt a,p,o,rb,yb,ya,yc,n,eq_true q,eq_true z,s,za a hf.blocks,v]
       ·simp -implicitDefEqProofs only [go_sem,zpP,ilt a,p,o,rb,yb,ya,yc,n,q,s,za a hf.blocks,v]
end
def zhu (f : PFunc) : Bool:=zaQ f && zb0 (z7 (zn f)) (zef (zn f) 0 (-1)) 0 f.blocks
theorem zt6 (f : PFunc) (hf : okF f) : call T 71 [za9 f] [] = some (vB (zhu f),[]):=by
 rw [ze (fn:=zbq) rfl];have b:=ztg f hf;cases c : zaQ f
 ·simp -implicitDefEqProofs only [go_sem,zhZ,c,yl] at b
  simp -implicitDefEqProofs only [go_sem,zbq,zhu,c,b]
 ·have hm:=zgr c
  obtain ⟨j,n64,i⟩:=zfA hm;have a : (zn f).length = f.blocks.length:=by simp [zn]
  have g:=zjN hf;have d:=zph (zn f) (z7 (zn f)) (by omega) g.2 i (-1) 0 (by omega);obtain ⟨r,h⟩:=zAl f hf (zn f) (z7 (zn f)) (by rw [zcT]; exact a) (zlq _ g (zic hm)) (zef (zn f) 0 (-1)) (by rw [zkb]; exact a) f.blocks.length 0 (by omega) (by omega);simp only [yi,yp] at h;simp -implicitDefEqProofs only [go_sem,zhZ,c] at b;simp -implicitDefEqProofs only [go_sem] at d;cases e : zb0 (z7 (zn f)) (zef (zn f) 0 (-1)) 0 f.blocks
  ·simp -implicitDefEqProofs only [go_sem,zpP,e,yl] at h
   simp -implicitDefEqProofs only [go_sem,zbq,zhu,c,b,d,h,e]
  ·simp -implicitDefEqProofs only [go_sem,zpP,e] at h
   simp -implicitDefEqProofs only [go_sem,zbq,zhu,c,b,d,h,e]
theorem zCj {o : POp} (h : zeO o = true) : 0 ≤ o.kind ∧ o.kind ≤ 22:=by
 unfold zeO at h;simp only [yD] at h;cases a : zhW o.kind
 ·rw [zrG a] at h
  exact absurd h.2.1 (by simp)
 ·simpa [zhW] using a
section
variable (f : PFunc) (hf : okF f) (level : Int)
abbrev zjG (r : zd) : zd:=.cells 0 3 [zaP f] :: r
include hf
theorem zAq : ∀ (d k : Nat) (a0 a3 a5 a6 a7 a8 a9 l b g e m i n j h : V),f.params.length - k = d → k ≤ f.params.length →
  exec T zct ⟨[a0,vI level,.one (.ptr 0 0 0 0),a3,vI k,a5,a6,a7,a8,a9,l,b,g,e,m,i,n,j,h],zjG f [],0,0⟩ =
   some (if (f.params.drop k).all zhe = true then (.exit 0,⟨[vU,vI level,.one (.ptr 0 0 0 0),vU,vU,vU,vU,vU,vU,vU,vU,vU,vU,vU,vU,vU,vU,vU,vU],zjG f [],0,0⟩) else (.ret,⟨[vU,vU,vU,vB false,vU,vU,vU,vU,vU,vU,vU,vU,vU,vU,vU,vU,vU,vU,vU],zjG f [],0,0⟩)):=by
 intro d
 induction d with
 | zero =>
   intro k a0 a3 a5 a6 a7 a8 a9 l b g e m i n j h q p;have a : k = f.params.length:=(by omega);subst a;rw [xl zct rfl,zeK];simp -implicitDefEqProofs only [go_sem,zjG,yh,yb,yj,yx]
 | succ d ih =>
   intro k a0 a3 a5 a6 a7 a8 a9 l b g e m i n j h q p;have a : k < f.params.length:=(by omega);have hd : f.params.drop k = f.params[k] :: f.params.drop (k + 1):=yd a;have o:=zgX f.params[k];have:=ih (k + 1) vU vU vU vU vU vU vU vU vU vU vU vU vU vU vU vU (by omega) (by omega);rw [xl zct rfl,zeK,hd,yt];simp -implicitDefEqProofs only [go_sem,zjG] at this;cases c : zhe f.params[k]
   ·simp -implicitDefEqProofs only [go_sem,c] at o
    simp -implicitDefEqProofs only [go_sem,zjG,ilt a,zt a,ri,yb,o,c]
   ·simp -implicitDefEqProofs only [go_sem,c] at o
    simp -implicitDefEqProofs only [go_sem,zjG,ilt a,zt a,ri,yb,o,c,za a hf.params,this]
theorem zz3 (b : PBlock) (i : Nat) (t : i < f.blocks.length) (w : b = f.blocks[i]) (v : b.phis.length ≤ 4294967296) : ∀ (d k : Nat) (a0 a3 a4 a7 a8 a9 n e h g o l q m j : V),b.phis.length - k = d → k ≤ b.phis.length →
  exec T zcd ⟨[a0,vI level,.one (.ptr 0 0 0 0),a3,a4,vI i,vI k,a7,a8,a9,n,e,h,g,o,l,q,m,j],zjG f [],0,0⟩ =
   some (if (b.phis.drop k).all (fun p => zhe p.bits) = true then (.exit 4,⟨[vU,vI level,.one (.ptr 0 0 0 0),vU,vU,vI i,vU,vU,vU,vU,vU,vU,vU,vU,vU,vU,vU,vU,vU],zjG f [],0,0⟩) else (.ret,⟨[vU,vU,vU,vB false,vU,vU,vU,vU,vU,vU,vU,vU,vU,vU,vU,vU,vU,vU,vU],zjG f [],0,0⟩)):=by
 intro d;have u:=zt (r:=rb) t;rw [← w] at u
 induction d with
 | zero =>
   intro k a0 a3 a4 a7 a8 a9 n e h g o l q m j y x;have a : k = b.phis.length:=(by omega);subst a;rw [xl zcd rfl,zeB];simp -implicitDefEqProofs only [go_sem,zjG,u,rb,ilt t,yh,yb,yj,yx,ya,yc]
 | succ d ih =>
   intro k a0 a3 a4 a7 a8 a9 n e h g o l q m j y x;have a : k < b.phis.length:=(by omega);have hd : b.phis.drop k = b.phis[k] :: b.phis.drop (k + 1):=yd a;have s:=zgX b.phis[k].bits;have:=ih (k + 1) vU vU vU vU vU vU vU vU vU vU vU vU vU vU vU (by omega) (by omega);rw [xl zcd rfl,zeB,hd,yt];simp -implicitDefEqProofs only [go_sem,zjG] at this;cases c : zhe b.phis[k].bits
   ·simp -implicitDefEqProofs only [go_sem,c] at s
    simp -implicitDefEqProofs only [go_sem,zjG,u,rb,ilt t,ilt a,zt a,rp,yb,s,c,ya,yc]
   ·simp -implicitDefEqProofs only [go_sem,c] at s
    simp -implicitDefEqProofs only [go_sem,zjG,u,rb,ilt t,ilt a,zt a,rp,yb,s,c,ya,yc,za a v,this]
set_option maxHeartbeats 4000000 in
theorem zA2 (l : level = 0 ∨ level = 1 ∨ level = 2) (b : PBlock) (n : okB b) (i : Nat) (u : i < f.blocks.length) (H : b = f.blocks[i]) : ∀ (d k : Nat) (a0 a3 a4 a6 a8 a9 D x z y E B G C A : V),b.ops.length - k = d → k ≤ b.ops.length →
  exec T zcu ⟨[a0,vI level,.one (.ptr 0 0 0 0),a3,a4,vI i,a6,vI k,a8,a9,D,x,z,y,E,B,G,C,A],zjG f [],0,0⟩ =
   some (match (b.ops.drop k).find? (fun o => !ofS level o) with | none => (.exit 6,⟨[vU,vI level,.one (.ptr 0 0 0 0),vU,vU,vI i,vU,vU,vU,vU,vU,vU,vU,vU,vU,vU,vU,vU,vU],zjG f [],0,0⟩) | some o => (.ret,⟨[vU,vU,vU,vB false,vU,vU,vU,vU,vU,vU,vU,vU,vU,vU,vU,vU,vU,vU,vU],zjG f [.cells 0 6 [cOp o]],0,0⟩)):=by
 intro d;have v:=zt (r:=rb) u;rw [← H] at v
 induction d with
 | zero =>
   intro k a0 a3 a4 a6 a8 a9 D x z y E B G C A K J;have g : k = b.ops.length:=(by omega);subst g;rw [xl zcu rfl,zeI];simp -implicitDefEqProofs only [go_sem,zjG,v,rb,ilt u,yh,yb,yj,yJ,ya,yc]
 | succ d ih =>
   intro k a0 a3 a4 a6 a8 a9 D x z y E B G C A K J;have g : k < b.ops.length:=(by omega);have hd : b.ops.drop k = b.ops[k] :: b.ops.drop (k + 1):=yd g;have t:=znD b.ops[k] (n.op _ (yk g));have:=ih (k + 1) vU vU vU vU vU vU vU vU vU vU vU vU vU vU vU (by omega) (by omega);rw [xl zcu rfl,zeI,hd,yE];simp -implicitDefEqProofs only [go_sem,zjG] at this;obtain ⟨o,I⟩ : ∃ o,o = b.ops[k]:=⟨_,rfl⟩;have w:=zt (r:=ro) g;rw [← I] at w t ⊢;cases c : zeO o
   ·have e : ofS level o = false:=by unfold ofS; rw [c,yu,yu]
    simp -implicitDefEqProofs only [go_sem,c] at t;rcases l with rfl | rfl | rfl <;> simp -implicitDefEqProofs only [go_sem,zjG,v,rb,ilt u,ilt g,w,ro,yb,t,e,ya,yc]
   ·simp -implicitDefEqProofs only [go_sem,c] at t
    have L:=(zCj c)
    by_cases h : 20 < o.kind
    ·by_cases a : 17 < o.kind
     ·have p : ¬ o.kind > 22:=by omega
      have m : o.kind > 20:=h;have j : o.kind > 17:=a
      by_cases q : 1 < o.lanes
      ·have s : o.lanes > 1:=q
       rcases l with rfl | rfl | rfl <;> simp -implicitDefEqProofs only [go_sem,zjG,v,rb,ilt u,ilt g,w,ro,yb,t,c,ofS,p,eq_true m,eq_true j,eq_true h,eq_true a,eq_true q,eq_true s,ya,yc,za g n.ops,this]
      ·have s : ¬ o.lanes > 1:=q
       rcases l with rfl | rfl | rfl <;> simp -implicitDefEqProofs only [go_sem,zjG,v,rb,ilt u,ilt g,w,ro,yb,t,c,ofS,p,eq_true m,eq_true j,eq_true h,eq_true a,q,s,ya,yc,za g n.ops,this]
     ·omega
    ·have p : ¬ o.kind > 22:=by omega
     have m : ¬ o.kind > 20:=h
     by_cases a : 17 < o.kind
     ·have j : o.kind > 17:=a
      by_cases q : 1 < o.lanes
      ·have s : o.lanes > 1:=q
       rcases l with rfl | rfl | rfl <;> simp -implicitDefEqProofs only [go_sem,zjG,v,rb,ilt u,ilt g,w,ro,yb,t,c,ofS,p,m,eq_true j,h,eq_true a,eq_true q,eq_true s,ya,yc,za g n.ops,this]
      ·have s : ¬ o.lanes > 1:=q
       rcases l with rfl | rfl | rfl <;> simp -implicitDefEqProofs only [go_sem,zjG,v,rb,ilt u,ilt g,w,ro,yb,t,c,ofS,p,m,eq_true j,h,eq_true a,q,s,ya,yc,za g n.ops,this]
     ·have j : ¬ o.kind > 17:=a
      by_cases q : 1 < o.lanes
      ·have s : o.lanes > 1:=q
       rcases l with rfl | rfl | rfl <;> simp -implicitDefEqProofs only [go_sem,zjG,v,rb,ilt u,ilt g,w,ro,yb,t,c,ofS,p,m,j,h,a,eq_true q,eq_true s,ya,yc,za g n.ops,this]
      ·have s : ¬ o.lanes > 1:=q
       rcases l with rfl | rfl | rfl <;> simp -implicitDefEqProofs only [go_sem,zjG,v,rb,ilt u,ilt g,w,ro,yb,t,c,ofS,p,m,j,h,a,q,s,ya,yc,za g n.ops,this]
theorem zAH (u : level = 0 ∨ level = 1 ∨ level = 2) : ∀ (d k : Nat),f.blocks.length - k = d → k ≤ f.blocks.length → ∃ r,∀ (a0 a3 a4 a6 a7 a8 a9 j a e c l h m i g : V),
  exec T zaJ ⟨[a0,vI level,.one (.ptr 0 0 0 0),a3,a4,vI k,a6,a7,a8,a9,j,a,e,c,l,h,m,i,g],zjG f [],0,0⟩ =
   some (if (f.blocks.drop k).all (zkV level) = true then (.exit 2,⟨[vU,vU,.one (.ptr 0 0 0 0),vU,vU,vU,vU,vU,vU,vU,vU,vU,vU,vU,vU,vU,vU,vU,vU],zjG f [],0,0⟩) else (.ret,⟨[vU,vU,vU,vB false,vU,vU,vU,vU,vU,vU,vU,vU,vU,vU,vU,vU,vU,vU,vU],zjG f r,0,0⟩)):=by
 intro d
 induction d with
 | zero =>
   intro k z y;have n : k = f.blocks.length:=(by omega);subst n;refine ⟨[],fun a0 a3 a4 a6 a7 a8 a9 j a e c l h m i g => ?_⟩;rw [xl zaJ rfl,zbd];simp -implicitDefEqProofs only [go_sem,zjG,yh,yb,yj,yx]
 | succ d ih =>
   intro k z y;have n : k < f.blocks.length:=(by omega);have hd : f.blocks.drop k = f.blocks[k] :: f.blocks.drop (k + 1):=yd n;obtain ⟨b,q⟩ : ∃ b,b = f.blocks[k]:=⟨_,rfl⟩;have v:=hf.block _ (yk n);rw [← q] at v;have s:=fun a0 a3 a4 a7 a8 a9 j a e c l h m i g => zz3 f hf level b k n q v.phis b.phis.length 0 a0 a3 a4 a7 a8 a9 j a e c l h m i g (by omega) (by omega);have t:=fun a0 a3 a4 a6 a8 a9 j a e c l h m i g => zA2 f hf level u b v k n q b.ops.length 0 a0 a3 a4 a6 a8 a9 j a e c l h m i g (by omega) (by omega);simp only [yi,yp] at s t;obtain ⟨r,x⟩:=ih (k + 1) (by omega) (by omega);rw [hd,yt,← q,zkV];simp -implicitDefEqProofs only [go_sem,zjG] at x;cases e1 : b.phis.all (fun p => zhe p.bits)
   ·refine ⟨[],fun a0 a3 a4 a6 a7 a8 a9 j a e c l h m i g => ?_⟩
    rw [xl zaJ rfl,zbd];simp -implicitDefEqProofs only [go_sem,zjG,e1,yl] at s;simp -implicitDefEqProofs only [go_sem,zjG,ilt n,yb,s]
   ·simp -implicitDefEqProofs only [go_sem,zjG,e1] at s
    cases e2 : b.ops.find? (fun o => !ofS level o) with
    | some o =>
      have w:=zfp e2;refine ⟨[.cells 0 6 [cOp o]],fun a0 a3 a4 a6 a7 a8 a9 j a e c l h m i g => ?_⟩;rw [xl zaJ rfl,zbd];simp -implicitDefEqProofs only [go_sem,zjG,e2] at t;simp -implicitDefEqProofs only [go_sem,zjG,ilt n,yb,s,t,w,yu]
    | none =>
      have w:=ze4 e2;refine ⟨r,fun a0 a3 a4 a6 a7 a8 a9 j a e c l h m i g => ?_⟩;rw [xl zaJ rfl,zbd];simp -implicitDefEqProofs only [go_sem,zjG,e2] at t;simp -implicitDefEqProofs only [go_sem,zjG,ilt n,yb,s,t,w,za n hf.blocks,x]
theorem zue (d : level = 0 ∨ level = 1 ∨ level = 2) : call T 72 [za9 f,vI level] [] = some (vB (zfB f level),[]):=by
 rw [ze (fn:=zbr) rfl];have a:=fun a0 a3 a5 a6 a7 a8 a9 k c g e l i m j h => zAq f hf level f.params.length 0 a0 a3 a5 a6 a7 a8 a9 k c g e l i m j h (by omega) (by omega);obtain ⟨r,b⟩:=zAH f hf level d f.blocks.length 0 (by omega) (by omega);have n:=zgX f.ret;simp only [yi,yp] at a b;simp -implicitDefEqProofs only [go_sem] at n;cases e1 : f.params.all zhe
 ·simp -implicitDefEqProofs only [go_sem,zjG,e1,yl] at a
  simp -implicitDefEqProofs only [go_sem,zbr,zfB,a,e1,yu]
 ·simp -implicitDefEqProofs only [go_sem,zjG,e1] at a
  cases e2 : f.blocks.all (zkV level)
  ·simp -implicitDefEqProofs only [go_sem,zjG,e2,yl] at b
   simp -implicitDefEqProofs only [go_sem,zbr,zfB,a,b,e1,e2,yu]
  ·simp -implicitDefEqProofs only [go_sem,zjG,e2] at b
   simp -implicitDefEqProofs only [go_sem,zbr,zfB,a,b,n,e1,e2,yN]
end
section
variable (succ pred : List (List Int)) (root : Int) (hn1 : 1 ≤ succ.length) (hn : succ.length ≤ 64) (hl : ∀ l ∈ succ,l.length ≤ 4294967296) (hr : ∀ l ∈ succ,∀ y ∈ l,0 ≤ y ∧ y < (succ.length : Int)) (h0 : 0 ≤ root ∧ root < (succ.length : Int))
abbrev sO7 (out : List Int) : zd:=sT7 succ pred root succ.length succ.length [.cells 0 1 (out.map zL)]
theorem zDV (o : Ob) (c : Nat) (h : c < succ.length) : (zfT succ root succ.length ++ [o])[c]? = some (.cells 0 1 ((zql succ root c).map zg8)):=by
 rw [List.getElem?_append_left (by rw [zbi]; exact h)];exact zAW succ root _ c h
theorem zD3 (c b : Nat) (h : b < succ.length) : ((zql succ root c).map zg8)[b]? = some [.f (.lit (.bool (ovB succ root c b)))]:=by
 rw [ys,zwf succ root c b h];rfl
theorem zHR (o : Ob) : (zfT succ root succ.length ++ [o])[succ.length]? = some o:=by
 rw [yz (by rw [zbi]; omega),zbi,yU];rfl
theorem zLA (o p : Ob) : (zfT succ root succ.length ++ [o]).set succ.length p = zfT succ root succ.length ++ [p]:=by
 have:=zuP (zfT succ root succ.length) [] o p
 rwa [zbi] at this
include hn hl hr h0
theorem zFP (out : List Int) (b a : Nat) (t : b < succ.length) (u : a < succ.length) : ∀ (d k : Nat) (m : Bool) (a0 a2 a3 a5 a7 a8 a9 i l h f j a20 g a22 a23 : V),succ.length - k = d → k ≤ succ.length →
  exec T zcN ⟨[a0,vI root,a2,a3,vI succ.length,a5,.one (.own 1 0 0 succ.length),a7,a8,a9,.one (.own (succ.length + 1 + 1) 0 0 succ.length),vI b,vI a,vB m,vI k,i,l,h,f,j,a20,g,a22,a23],sO7 succ pred root out,0,0⟩ =
   some (.exit 8,⟨[vU,vI root,vU,vU,vI succ.length,vU,.one (.own 1 0 0 succ.length),vU,vU,vU,.one (.own (succ.length + 1 + 1) 0 0 succ.length),vI b,vI a,vB (m && zf8 succ root b a k d),vU,vU,vU,vU,vU,vU,vU,vU,vU,vU],sO7 succ pred root out,0,0⟩):=by
 intro d
 induction d with
 | zero =>
   intro k m a0 a2 a3 a5 a7 a8 a9 i l h f j a20 g a22 a23 y x;have e : k = succ.length:=(by omega);subst e;have d1:=ovl succ root succ.length 999997 (by omega);rw [xl zcN rfl,zeY];simp -implicitDefEqProofs only [go_sem,sT7,yh,d1,zf8,yN]
 | succ d ih =>
   intro k m a0 a2 a3 a5 a7 a8 a9 i l h f j a20 g a22 a23 y x;have e : k < succ.length:=(by omega);have d1:=ovl succ root succ.length 999997 (by omega);have go:=ziD succ.length succ.length k e e;have s:=fun o => zDV succ root o k e;have p:=zD3 succ root k b t;have q:=zD3 succ root k a u;have w : (zql succ root k).length = succ.length:=zlI succ root k;have r:=ilt t;have v:=ilt u;rw [xl zcN rfl,zeY,zf8]
   cases m with
   | false =>
     have:=ih (k + 1) false vU vU vU vU vU vU vU vU vU vU vU vU vU vU vU vU (by omega) (by omega);simp -implicitDefEqProofs only [go_sem,sT7] at this;simp -implicitDefEqProofs only [go_sem,sT7,ilt e,d1,za e (show succ.length ≤ 4294967296 by omega),this]
   | true =>
     by_cases c : k = b
     ·have n : (k : Int) = (b : Int):=by omega
      have:=ih (k + 1) true vU vU vU vU vU vU vU vU vU vU vU vU vU vU vU vU (by omega) (by omega);simp -implicitDefEqProofs only [go_sem,sT7] at this;simp -implicitDefEqProofs only [go_sem,sT7,ilt e,d1,eq_true n,eq_true c,za e (show succ.length ≤ 4294967296 by omega),this]
     ·have n : ¬ (k : Int) = (b : Int):=by omega
      cases e1 : ovB succ root k b
      ·rw [e1] at p
       have:=ih (k + 1) true vU vU vU vU vU vU vU vU vU vU vU vU vU vU vU vU (by omega) (by omega);simp -implicitDefEqProofs only [go_sem,sT7] at this;simp -implicitDefEqProofs only [go_sem,sT7,ilt e,r,d1,n,c,go,s,p,yf,yg,ya,yc,za e (show succ.length ≤ 4294967296 by omega),this]
      ·rw [e1] at p
       cases e2 : ovB succ root k a
       ·rw [e2] at q
        have:=ih (k + 1) false vU vU vU vU vU vU vU vU vU vU vU vU vU vU vU vU (by omega) (by omega);simp -implicitDefEqProofs only [go_sem,sT7] at this;simp -implicitDefEqProofs only [go_sem,sT7,ilt e,r,v,d1,n,c,go,s,p,q,yf,yg,ya,yc,za e (show succ.length ≤ 4294967296 by omega),this]
       ·rw [e2] at q
        have:=ih (k + 1) true vU vU vU vU vU vU vU vU vU vU vU vU vU vU vU vU (by omega) (by omega);simp -implicitDefEqProofs only [go_sem,sT7] at this;simp -implicitDefEqProofs only [go_sem,sT7,ilt e,r,v,d1,n,c,go,s,p,q,yf,yg,ya,yc,za e (show succ.length ≤ 4294967296 by omega),this]
theorem zGs (b : Nat) (B : b < succ.length) (q : ¬ (b : Int) = root) : ∀ (d k : Nat) (v : Int) (out : List Int) (a0 a2 a3 a5 a7 a8 a9 r t i n j g m a20 h a22 a23 : V),succ.length - k = d → k ≤ succ.length → out.length = succ.length →
  exec T zaV ⟨[a0,vI root,a2,a3,vI succ.length,a5,.one (.own 1 0 0 succ.length),a7,a8,a9,.one (.own (succ.length + 1 + 1) 0 0 succ.length),vI b,vI k,r,t,i,n,j,g,m,a20,h,a22,a23],sO7 succ pred root (out.set b v),0,0⟩ =
   some (.exit 6,⟨[vU,vI root,vU,vU,vI succ.length,vU,.one (.own 1 0 0 succ.length),vU,vU,vU,.one (.own (succ.length + 1 + 1) 0 0 succ.length),vI b,vU,vU,vU,vU,vU,vU,vU,vU,vU,vU,vU,vU],sO7 succ pred root (out.set b (zhp succ root b k d v)),0,0⟩):=by
 intro d
 induction d with
 | zero =>
   intro k v out a0 a2 a3 a5 a7 a8 a9 r t i n j g m a20 h a22 a23 K J x;have a : k = succ.length:=(by omega);subst a;have d1:=ovl succ root succ.length 999997 (by omega);rw [xl zaV rfl,zcM];simp -implicitDefEqProofs only [go_sem,sT7,yh,d1,zhp]
 | succ d ih =>
   intro k v out a0 a2 a3 a5 a7 a8 a9 r t i n j g m a20 h a22 a23 K J x;have a : k < succ.length:=(by omega);have d1:=ovl succ root succ.length 999997 (by omega);have go:=ziD succ.length succ.length k a a;have A:=fun o => zDV succ root o k a;have w:=zD3 succ root k b B;have L:=fun o => zHR succ root o;have I:=fun o p => zLA succ root o p;have H : (zql succ root k).length = succ.length:=zlI succ root k;have z:=ilt B;have s:=fun a0 a2 a3 a5 a7 a8 a9 i n j g m a20 h a22 a23 => zFP succ pred root hn hl hr h0 (out.set b v) b k B a succ.length 0 true a0 a2 a3 a5 a7 a8 a9 i n j g m a20 h a22 a23 (by omega) (by omega);simp only [yi] at s;have E : (out.set b v).length = succ.length:=by rw [yv]; exact x
   have G : ((out.set b v).map zL)[b]? = some [.f (.lit (.int .i64 v))]:=by
    rw [ys,ym (by omega)];rfl
   have e : ((out.set b v).map zL).set b [C.f (.lit (.int .i64 (k : Int)))] = (out.set b (k : Int)).map zL:=by
    have : ((out.set b v).set b (k : Int)) = out.set b (k : Int):=yW _;rw [← this,yH (l:=out.set b v)];rfl
   have i1:=ih (k + 1) v out vU vU vU vU vU vU vU vU vU vU vU vU vU vU vU vU vU vU (by omega) (by omega) x;have i2:=ih (k + 1) (k : Int) out vU vU vU vU vU vU vU vU vU vU vU vU vU vU vU vU vU vU (by omega) (by omega) x;obtain ⟨os,D⟩ : ∃ os,os = out.set b v:=⟨_,rfl⟩;obtain ⟨ok,y⟩ : ∃ ok,ok = out.set b (k : Int):=⟨_,rfl⟩;rw [← D] at G e E s i1 ⊢;rw [← y] at e i2;rw [xl zaV rfl,zcM,zhp];simp -implicitDefEqProofs only [go_sem,sT7] at i1 i2 s
   by_cases c : k = b
   ·have u : (k : Int) = (b : Int):=by omega
    simp -implicitDefEqProofs only [go_sem,sT7,ilt a,d1,q,eq_true u,eq_true c,za a (show succ.length ≤ 4294967296 by omega),i1]
   ·have u : ¬ (k : Int) = (b : Int):=by omega
    cases e1 : ovB succ root k b
    ·rw [e1] at w
     simp -implicitDefEqProofs only [go_sem,sT7,ilt a,z,d1,q,u,c,go,A,w,yf,yg,ya,yc,za a (show succ.length ≤ 4294967296 by omega),i1]
    ·rw [e1] at w
     cases e2 : zf8 succ root b k 0 succ.length
     ·simp -implicitDefEqProofs only [e2] at s
      simp -implicitDefEqProofs only [go_sem,sT7,ilt a,z,d1,q,u,c,go,A,w,s,yf,yg,ya,yc,za a (show succ.length ≤ 4294967296 by omega),i1]
     ·simp -implicitDefEqProofs only [e2] at s
      simp -implicitDefEqProofs only [go_sem,sT7,ilt a,z,d1,q,u,c,go,A,w,L,I,G,e,s,yf,yg,yo,ya,yc,za a (show succ.length ≤ 4294967296 by omega),i2]
theorem zvc (b : Nat) (d : b < succ.length) (a : (b : Int) = root) (out : List Int) a0 a2 a3 a5 a7 a8 a9 a13 a14 a15 a16 a17 a18 a19 a20 a21 a22 a23 :
  exec T zaV ⟨[a0,vI root,a2,a3,vI succ.length,a5,.one (.own 1 0 0 succ.length),a7,a8,a9,.one (.own (succ.length + 1 + 1) 0 0 succ.length),vI b,vI 0,a13,a14,a15,a16,a17,a18,a19,a20,a21,a22,a23],sO7 succ pred root out,0,0⟩ =
   some (.exit 6,⟨[vU,vI root,vU,vU,vI succ.length,vU,.one (.own 1 0 0 succ.length),vU,vU,vU,.one (.own (succ.length + 1 + 1) 0 0 succ.length),vI b,vU,vU,vU,vU,vU,vU,vU,vU,vU,vU,vU,vU],sO7 succ pred root out,0,0⟩):=by
 have d1:=ovl succ root succ.length 999997 (by omega);have c : (0 : Int) < (succ.length : Int):=by omega
 rw [xl zaV rfl,zcM];simp -implicitDefEqProofs only [go_sem,sT7,d1,eq_true c,eq_true a]
theorem zFz : ∀ (d k : Nat) (a0 a2 a3 a5 a7 a8 a9 v a m h n i b j a20 g a22 a23 : V),succ.length - k = d → k ≤ succ.length →
  exec T zc4 ⟨[a0,vI root,a2,a3,vI succ.length,a5,.one (.own 1 0 0 succ.length),a7,a8,a9,.one (.own (succ.length + 1 + 1) 0 0 succ.length),vI k,v,a,m,h,n,i,b,j,a20,g,a22,a23],sO7 succ pred root (zhI succ root k),0,0⟩ =
   some (.exit 4,⟨[vU,vU,vU,vU,vU,vU,vU,vU,vU,vU,.one (.own (succ.length + 1 + 1) 0 0 succ.length),vU,vU,vU,vU,vU,vU,vU,vU,vU,vU,vU,vU,vU],sO7 succ pred root (zdK succ root),0,0⟩):=by
 intro d
 induction d with
 | zero =>
   intro k a0 a2 a3 a5 a7 a8 a9 v a m h n i b j a20 g a22 a23 H E;have s : k = succ.length:=(by omega);subst s;have d1:=ovl succ root succ.length 999997 (by omega);rw [xl zc4 rfl,ze9];simp -implicitDefEqProofs only [go_sem,sT7,yh,d1,zEP]
 | succ d ih =>
   intro k a0 a2 a3 a5 a7 a8 a9 v a m h n i b j a20 g a22 a23 H E;have s : k < succ.length:=(by omega);have d1:=ovl succ root succ.length 999997 (by omega);have D:=fun o => zHR succ root o;have A:=fun o p => zLA succ root o p;have x:=zhs succ root k
   have B : ((zhI succ root k).map zL)[k]? = some [.f (.lit (.int .i64 0))]:=by
    rw [ys,znW succ root k k s,if_neg (by omega)];rfl
   have q : ((zhI succ root k).map zL).set k [C.f (.lit (.int .i64 (-2)))] = ((zhI succ root k).set k (-2)).map zL:=(by rw [yH]; rfl);have:=ih (k + 1) vU vU vU vU vU vU vU vU vU vU vU vU vU vU vU vU vU vU vU (by omega) (by omega);have t:=zD7 succ root k s;have z : ((zhI succ root k).set k (-2)).length = succ.length:=(by rw [yv]; exact x);rw [xl zc4 rfl,ze9]
   by_cases c : (k : Int) = root
   ·have e : zun succ root k = -1:=by unfold zun; rw [if_pos c]
    rw [e] at t
    have y : (((zhI succ root k).set k (-2)).map zL)[k]? = some [.f (.lit (.int .i64 (-2)))]:=by
     rw [ys,ym (by omega)];rfl
    have r : (((zhI succ root k).set k (-2)).map zL).set k [C.f (.lit (.int .i64 (-1)))] = (zhI succ root (k + 1)).map zL:=by
     have G : ((zhI succ root k).set k (-2)).set k (-1) = zhI succ root (k + 1):=(by rw [yW,t]);rw [← G,yH (l:=(zhI succ root k).set k (-2))];rfl
    have w:=fun a0 a2 a3 a5 a7 a8 a9 a m h n i b j a20 g a22 a23 => zvc succ pred root hn hl hr h0 k s c (zhI succ root (k + 1)) a0 a2 a3 a5 a7 a8 a9 a m h n i b j a20 g a22 a23;obtain ⟨os,u⟩ : ∃ os,os = (zhI succ root k).set k (-2):=⟨_,rfl⟩;rw [← u] at q y r z;simp -implicitDefEqProofs only [go_sem,sT7] at w this;simp -implicitDefEqProofs only [go_sem,sT7,ilt s,d1,eq_true c,D,A,B,q,y,r,w,yf,yg,yo,ya,yc,za s (show succ.length ≤ 4294967296 by omega),this]
   ·have e : zun succ root k = zhp succ root k 0 succ.length (-2):=by unfold zun; rw [if_neg c]
    rw [e] at t;have w:=fun a0 a2 a3 a5 a7 a8 a9 a m h n i b j a20 g a22 a23 => zGs succ pred root hn hl hr h0 k s c succ.length 0 (-2) (zhI succ root k) a0 a2 a3 a5 a7 a8 a9 a m h n i b j a20 g a22 a23 (by omega) (by omega) x;simp only [yi,t] at w;obtain ⟨os,u⟩ : ∃ os,os = (zhI succ root k).set k (-2):=⟨_,rfl⟩;rw [← u] at q z;simp only [← u] at w;simp -implicitDefEqProofs only [go_sem,sT7] at w this;simp -implicitDefEqProofs only [go_sem,sT7,ilt s,d1,c,D,A,B,q,w,yf,yg,yo,ya,yc,za s (show succ.length ≤ 4294967296 by omega),this]
end
theorem zwB (succ : List (List Int)) (l : zl5 succ) (hm : zbY succ = true) (root : Int) (h0 : 0 ≤ root ∧ root < (succ.length : Int)) : call T 78 [.agg [.f (.sl (succ.map rl)),.f (.sl ((z7 succ).map rl))],vI root] [] = some (vIs (zdK succ root),[]):=by
 rw [ze (fn:=zfL) rfl];obtain ⟨y,n64,hr⟩:=zfA hm;have s:=zEi succ l hm;have t:=zph succ (z7 succ) (by omega) l.2 hr (-1) root h0;have q:=fun a0 a3 a8 a9 n m b a i e j g c h a20 d a22 a23 => zGd succ (z7 succ) root n64 l.2 hr h0 succ.length 0 a0 a3 a8 a9 n m b a i e j g c h a20 d a22 a23 (by omega) (by omega);have p:=fun a0 a2 a3 a5 a7 a8 a9 b a i e j g c h a20 d a22 a23 => zFz succ (z7 succ) root n64 l.2 hr h0 succ.length 0 a0 a2 a3 a5 a7 a8 a9 b a i e j g c h a20 d a22 a23 (by omega) (by omega);have e0 : zfT succ root 0 = []:=rfl;have k : (succ.length : Int) ≤ (LIM : Int):=by unfold LIM; omega
 have v : yq succ.length [C.f (.sl [])] = zpH succ.length 0:=(zAr _).symm;have r : yq succ.length [C.f (.lit (.int .i64 0))] = (zhI succ root 0).map zL:=by rw [zz5,yK]; rfl
 have hlen : (zfT succ root succ.length).length = succ.length:=zbi succ root succ.length;have x:=fun o => zHR succ root o;have w : ((zdK succ root).map zL).take succ.length = (zdK succ root).map zL:=List.take_of_length_le (by simp [zdK]);have u : ¬ root < 0:=by omega
 have r1 : ¬ root ≥ (succ.length : Int):=by omega
 simp only [yi] at q p;simp -implicitDefEqProofs only [go_sem] at s t;simp -implicitDefEqProofs only [go_sem,sT7,e0,yw,List.nil_append] at q p;simp -implicitDefEqProofs only [go_sem,zfL,s,t,u,r1,k,v,r,hlen,q,p,x,w,zgy,yb,yr,yQ,yf,yg,ya,yc]
def pathFrom (t : List Int) : Nat → List Int → Int → List Int
 | 0,_,_ => []
 | r + 1,acc,a => if a < 0 ∨ (t.length : Int) ≤ a then [] else if tr t a = -1 then acc ++ [a] else pathFrom t r (acc ++ [a]) (tr t a)
def ziF (t : List Int) (a : Int) : List Int:=pathFrom t t.length [] a
theorem zs1 (t : List Int) : ∀ (r : Nat) (acc : List Int) (a n : Int),0 ≤ n → (pathFrom t r acc a = [] ↔ (zao t r n a).getD (-1) < 0)
 | 0,acc,a,n,_ => by simp [pathFrom,zao]
 | r + 1,acc,a,n,hn => by
   rw [pathFrom,zao]
   by_cases c1 : a < 0
   ·rw [if_pos (.inl c1),if_pos c1]
    simp
   ·by_cases c2 : (t.length : Int) ≤ a
    ·rw [if_pos (.inr c2),if_neg c1,if_pos c2]
     simp
    ·rw [if_neg (by omega),if_neg c1,if_neg c2]
     by_cases c3 : tr t a = -1
     ·rw [if_pos c3,if_pos c3]
      simp;exact hn
     ·rw [if_neg c3,if_neg c3]
      exact zs1 t r (acc ++ [a]) (tr t a) (n + 1) (by omega)
theorem zCW (t : List Int) (a : Int) : ziF t a = [] ↔ zT t a < 0:=zs1 t _ [] a 0 (Int.le_refl _)
section
variable (t : List Int) (htl : t.length ≤ 4294967296)
include htl
theorem zFy : ∀ (r : Nat) (acc : List Int) (a : Int),acc.length + r = t.length → ∃ k,∀ (a2 a4 a5 : V),
  exec T zas ⟨[vIs t,vI a,a2,.one (.ap 0 0 (acc.map ri)),a4,a5],[.tok 1 [acc.length]],0,0⟩ =
   some (if pathFrom t r acc a = [] then (.exit 0,⟨[vU,vU,vU,vU,vU,vU],[.tok 1 [k]],0,0⟩) else (.ret,⟨[vU,vU,.one (.ap 0 0 ((pathFrom t r acc a).map ri)),vU,vU,vU],[.tok 1 [(pathFrom t r acc a).length]],0,0⟩)):=by
 intro r
 induction r with
 | zero =>
   intro acc a h;have e : ¬ (acc.length : Int) < (t.length : Int):=(by omega);refine ⟨acc.length,fun a2 a4 a5 => ?_⟩;rw [xl zas rfl,zaR,pathFrom];simp -implicitDefEqProofs only [go_sem,yb,e]
 | succ r ih =>
   intro acc a h;have e : (acc.length : Int) < (t.length : Int):=by omega
   by_cases c1 : a < 0
   ·have b : ¬ a ≥ 0:=by omega
    refine ⟨acc.length,fun a2 a4 a5 => ?_⟩;rw [xl zas rfl,zaR,pathFrom,if_pos (.inl c1 : a < 0 ∨ (t.length : Int) ≤ a)];simp -implicitDefEqProofs only [go_sem,yb,eq_true e,b]
   have b : a ≥ 0:=by omega
   by_cases c2 : (t.length : Int) ≤ a
   ·have c : ¬ a < (t.length : Int):=by omega
    refine ⟨acc.length,fun a2 a4 a5 => ?_⟩;rw [xl zas rfl,zaR,pathFrom,if_pos (.inr c2 : a < 0 ∨ (t.length : Int) ≤ a)];simp -implicitDefEqProofs only [go_sem,yb,eq_true e,eq_true b,c]
   have c : a < (t.length : Int):=(by omega);have g:=zwv (t:=t) (a:=a) (by omega) c2;have d : acc.length + 1 ≤ LIM:=(by unfold LIM; omega);have e1 : yX ri acc ++ [[Fz.lit (Value.int .i64 a)]] = yX ri (acc ++ [a]):=by simp [ri]
   by_cases c3 : tr t a = -1
   ·refine ⟨0,fun a2 a4 a5 => ?_⟩
    have f : ¬ acc ++ [a] = []:=(by simp);rw [xl zas rfl,zaR,pathFrom,if_neg (show ¬ (a < 0 ∨ (t.length : Int) ≤ a) by omega),if_pos c3,if_neg f];simp -implicitDefEqProofs only [go_sem,yb,eq_true e,eq_true b,eq_true c,g,d,e1,c3,yB,yr,yG,yV]
   ·obtain ⟨k,hk⟩:=ih (acc ++ [a]) (tr t a) (by simp; omega)
    refine ⟨k,fun a2 a4 a5 => ?_⟩;rw [xl zas rfl,zaR,pathFrom,if_neg (show ¬ (a < 0 ∨ (t.length : Int) ≤ a) by omega),if_neg c3];simp -implicitDefEqProofs only [go_sem,yB,yr,yG,yV] at hk;simp -implicitDefEqProofs only [go_sem,yb,eq_true e,eq_true b,eq_true c,g,d,e1,c3,hk]
theorem zl0 (a : Int) : call T 132 [vIs t,vI a] [] = some (vIs (ziF t a),[]):=by
 rw [ze (fn:=zdt) rfl];obtain ⟨k,h⟩:=zFy t htl t.length [] a (by simp);have e : pathFrom t t.length [] a = ziF t a:=rfl;rw [e] at h;simp -implicitDefEqProofs only [go_sem,yI,yG] at h
 by_cases c : ziF t a = []
 ·simp -implicitDefEqProofs only [c] at h
  simp -implicitDefEqProofs only [go_sem,zdt,h,c,yI]
 ·simp -implicitDefEqProofs only [c] at h
  simp -implicitDefEqProofs only [go_sem,zdt,h]
theorem zB1 : ∀ (d k n : Nat) (a1 a4 a5 a6 : V),t.length - k = d → k ≤ t.length → n ≤ k →
  exec T zcj ⟨[vIs t,a1,vI n,vI k,a4,a5,a6],[],0,0⟩ =
   some (match zbc t k n (t.drop k) with | some m => (.exit 0,⟨[vU,vU,vI m,vU,vU,vU,vU],[],0,0⟩) | none => (.ret,⟨[vU,vB false,vU,vU,vU,vU,vU],[],0,0⟩)):=by
 intro d
 induction d with
 | zero =>
   intro k n a1 a4 a5 a6 h1 h2 i;have hk : k = t.length:=(by omega);subst hk;rw [xl zcj rfl,zeD];simp -implicitDefEqProofs only [go_sem,yh,yb,yj,zbc]
 | succ d ih =>
   intro k n a1 a4 a5 a6 h1 h2 i;have hk : k < t.length:=(by omega);have hd : t.drop k = t[k] :: t.drop (k + 1):=yd hk;obtain ⟨x,g⟩ : ∃ x,x = t[k]:=⟨_,rfl⟩;have c:=zt (r:=ri) hk;rw [← g] at c;have e:=zl0 t htl (k : Int);have b:=zCW t (k : Int);have f : Go.IntKind.i64.wrap ((n : Int) + 1) = ((n + 1 : Nat) : Int):=(by rw [wrap_i64] <;> omega);have i1:=ih (k + 1) n vU vU vU vU (by omega) (by omega) (by omega);have i2:=ih (k + 1) (n + 1) vU vU vU vU (by omega) (by omega) (by omega);rw [xl zcj rfl,zeD,hd,zbc,← g];simp -implicitDefEqProofs only [go_sem] at i1 i2 e
   by_cases c1 : x = -2
   ·simp -implicitDefEqProofs only [go_sem,ilt hk,c,ri,yb,c1,ya,yc,za hk htl,i1]
   ·by_cases c2 : zT t (k : Int) < 0
    ·have a : ((ziF t (k : Int)).length : Int) = 0:=by rw [b.2 c2]; rfl
     by_cases c3 : x = -1
     ·simp -implicitDefEqProofs only [go_sem,ilt hk,c,ri,yb,eq_true c3,c1,eq_true c2,e,eq_true a,ya,yc,f]
     ·simp -implicitDefEqProofs only [go_sem,ilt hk,c,ri,yb,c3,c1,eq_true c2,e,eq_true a,ya,yc]
    ·have a : ¬ ((ziF t (k : Int)).length : Int) = 0:=fun h => by
      have j : (ziF t (k : Int)).length = 0:=(by omega);exact c2 (b.1 (List.eq_nil_of_length_eq_zero j))
     by_cases c3 : x = -1
     ·simp -implicitDefEqProofs only [go_sem,ilt hk,c,ri,yb,eq_true c3,c1,c2,e,a,ya,yc,f,za hk htl,i2]
     ·simp -implicitDefEqProofs only [go_sem,ilt hk,c,ri,yb,c3,c1,c2,e,a,ya,yc,za hk htl,i1]
theorem ztR : call T 131 [vIs t] [] = some (vB (zhY t),[]):=by
 rw [ze (fn:=zc6) rfl];have h:=fun a1 a4 a5 a6 => zB1 t htl t.length 0 0 a1 a4 a5 a6 (by omega) (by omega) (by omega);simp only [yi,yp] at h;unfold zhY
 cases c : zbc t 0 0 t with
 | none =>
   simp -implicitDefEqProofs only [go_sem,c] at h;simp -implicitDefEqProofs only [go_sem,zc6,h];rfl
 | some m =>
   simp -implicitDefEqProofs only [go_sem,c] at h;simp -implicitDefEqProofs only [go_sem,zc6,h]
   have e : (some m == some 1) = decide ((m : Int) = 1):=by
    by_cases hm : m = 1
    ·subst hm; rfl
    ·rw [decide_eq_false (by omega)]
     simp [hm]
   rw [e]
def zkP (t : List Int) (a b : Int) : Int:=if zhY t = true then ((ziF t a).find? fun x => decide (x ∈ ziF t b)).getD (-2) else -2
omit htl in
theorem zvj (t : List Int) : ∀ (r : Nat) (acc : List Int) (a : Int),(pathFrom t r acc a).length ≤ acc.length + r
 | 0,acc,a => by simp [pathFrom]
 | r + 1,acc,a => by
   have:=zvj t r (acc ++ [a]) (tr t a);rw [pathFrom];split
   ·simp
   ·split
    ·simp
    ·rw [yB] at this
     simp at this;omega
omit htl in
theorem zFn (p q : List Int) (hp : p.length ≤ 4294967296) (hq : q.length ≤ 4294967296) : ∀ (d k : Nat) (a0 a1 a2 a3 a7 a8 a9 : V),p.length - k = d → k ≤ p.length →
  exec T zc5 ⟨[a0,a1,a2,a3,vIs p,vIs q,vI k,a7,a8,a9],[],0,0⟩ =
   some (match (p.drop k).find? (fun x => decide (x ∈ q)) with | some x => (.ret,⟨[vU,vU,vU,vI x,vU,vU,vU,vU,vU,vU],[],0,0⟩) | none => (.exit 0,⟨[vU,vU,vU,vU,vU,vU,vU,vU,vU,vU],[],0,0⟩)):=by
 intro d
 induction d with
 | zero =>
   intro k a0 a1 a2 a3 a7 a8 a9 h1 h2;have hk : k = p.length:=(by omega);subst hk;rw [xl zc5 rfl,zeT];simp -implicitDefEqProofs only [go_sem,yh,yb,yj,yJ]
 | succ d ih =>
   intro k a0 a1 a2 a3 a7 a8 a9 h1 h2;have hk : k < p.length:=(by omega);have hd : p.drop k = p[k] :: p.drop (k + 1):=yd hk;have hH:=zno q p[k] hq;have:=ih (k + 1) vU vU vU vU vU vU vU (by omega) (by omega);rw [xl zc5 rfl,zeT,hd,yE];simp -implicitDefEqProofs only [go_sem] at this
   by_cases c : p[k] ∈ q
   ·simp -implicitDefEqProofs only [go_sem,decide_eq_true c] at hH
    simp -implicitDefEqProofs only [go_sem,ilt hk,zt hk,ri,yb,hH,c,ya,yc]
   ·simp -implicitDefEqProofs only [go_sem,decide_eq_false c] at hH
    simp -implicitDefEqProofs only [go_sem,ilt hk,zt hk,ri,yb,hH,c,ya,yc,za hk hp,this]
theorem zw2 (a b : Int) : call T 79 [vIs t,vI a,vI b] [] = some (vI (zkP t a b),[]):=by
 rw [ze (fn:=zbL) rfl];have d:=ztR t htl;have f:=zl0 t htl a;have g:=zl0 t htl b;have i : (ziF t a).length ≤ 4294967296:=by have:=zvj t t.length [] a; unfold ziF; simp at this; omega
 have j : (ziF t b).length ≤ 4294967296:=by have:=zvj t t.length [] b; unfold ziF; simp at this; omega
 have h:=fun a0 a1 a2 a3 a7 a8 a9 => zFn (ziF t a) (ziF t b) i j (ziF t a).length 0 a0 a1 a2 a3 a7 a8 a9 (by omega) (by omega);simp only [yi,yp] at h;cases c : zhY t
 ·simp -implicitDefEqProofs only [go_sem,c] at d
  simp -implicitDefEqProofs only [go_sem,zbL,zkP,c,d,yl]
 ·simp -implicitDefEqProofs only [go_sem,c] at d
  simp -implicitDefEqProofs only [go_sem] at f g
  cases e : (ziF t a).find? (fun x => decide (x ∈ ziF t b)) with
  | none =>
    simp -implicitDefEqProofs only [go_sem,e] at h;simp -implicitDefEqProofs only [go_sem,zbL,zkP,c,d,f,g,h,e,Option.getD_none]
  | some x =>
    simp -implicitDefEqProofs only [go_sem,e] at h;simp -implicitDefEqProofs only [go_sem,zbL,zkP,c,d,f,g,h,e,Option.getD_some]
end
def zgj (defs : List Use) : Nat → List Use → Bool
 | _,[] => true
 | k,u :: r => (value u.v && decide (zp u.v 0 defs = (k : Int))) && zgj defs (k + 1) r
def zjF (defs : List Use) (v : Int) : Use:=defs.getD (zp v 0 defs).toNat ⟨0,(0,0),0,0⟩
def zl8 (defs : List Use) (u : Use) : Bool:=!decide (zp u.v 0 defs < 0)
def sameShape (defs : List Use) (u : Use) : Bool:=decide ((zjF defs u.v).shape = u.shape)
def zhG (defs : List Use) (tree : List Int) (u : Use) : Bool :=
 (decide ((zjF defs u.v).block < 0) || (decide ((zjF defs u.v).block = u.block) && decide ((zjF defs u.v).at' < u.at'))) || !(decide ((zjF defs u.v).block = u.block) || !decide (zkP tree (zjF defs u.v).block u.block = (zjF defs u.v).block))
theorem zkr (v : Int) : ∀ (l : List Use) (k : Nat),0 ≤ zp v k l → (k : Int) ≤ zp v k l ∧ zp v k l < ((k + l.length : Nat) : Int)
 | [],k,h => by simp [zp] at h
 | u :: r,k,h => by
   rw [zp] at h ⊢;split
   ·simp only [yr]; omega
   ·rename_i c
    rw [if_neg c] at h;have:=zkr v r (k + 1) h;simp only [yr];omega
section
variable (f : PFunc) (hf : okF f) (defs uses : List Use) (hdl : defs.length ≤ 4294967296) (hul : uses.length ≤ 4294967296)
abbrev zjQ (r : zd) : zd:=.cells 0 3 [zaP f] :: r
include hf hdl
theorem zAM : ∀ (d k : Nat) (a0 a1 a3 a6 a7 a8 a9 n b h g p m q l i o a20 j a22 a23 a24 a25 a26 : V),defs.length - k = d → k ≤ defs.length →
  exec T zcg ⟨[a0,a1,.one (.ptr 0 0 0 0),a3,vUs defs,vI k,a6,a7,a8,a9,n,b,h,g,p,m,q,l,i,o,a20,j,a22,a23,a24,a25,a26],zjQ f [],0,0⟩ =
   some (if zgj defs k (defs.drop k) = true then (.exit 0,⟨[vU,vU,.one (.ptr 0 0 0 0),vU,vUs defs,vU,vU,vU,vU,vU,vU,vU,vU,vU,vU,vU,vU,vU,vU,vU,vU,vU,vU,vU,vU,vU,vU],zjQ f [],0,0⟩) else (.ret,⟨[vU,vU,vU,vI 7,vU,vU,vU,vU,vU,vU,vU,vU,vU,vU,vU,vU,vU,vU,vU,vU,vU,vU,vU,vU,vU,vU,vU],zjQ f [],0,0⟩)):=by
 intro d
 induction d with
 | zero =>
   intro k a0 a1 a3 a6 a7 a8 a9 n b h g p m q l i o a20 j a22 a23 a24 a25 a26 h1 t;have a : k = defs.length:=(by omega);subst a;rw [xl zcg rfl,zeJ];simp -implicitDefEqProofs only [go_sem,zjQ,yh,yb,yj,zgj]
 | succ d ih =>
   intro k a0 a1 a3 a6 a7 a8 a9 n b h g p m q l i o a20 j a22 a23 a24 a25 a26 h1 t;have a : k < defs.length:=(by omega);have hd : defs.drop k = defs[k] :: defs.drop (k + 1):=yd a;have r:=zkN defs[k].v;have s:=zi9 defs defs[k].v hdl;have:=ih (k + 1) vU vU vU vU vU vU vU vU vU vU vU vU vU vU vU vU vU vU vU vU vU vU vU vU (by omega) (by omega);rw [xl zcg rfl,zeJ,hd,zgj];simp -implicitDefEqProofs only [go_sem,zjQ] at this;simp -implicitDefEqProofs only [go_sem] at s;cases c : value defs[k].v
   ·simp -implicitDefEqProofs only [go_sem,c] at r
    simp -implicitDefEqProofs only [go_sem,zjQ,ilt a,zt a,rU,yb,r,c,ya,yc]
   ·simp -implicitDefEqProofs only [go_sem,c] at r
    by_cases e : zp defs[k].v 0 defs = (k : Int)
    ·simp -implicitDefEqProofs only [go_sem,zjQ,ilt a,zt a,rU,yb,r,s,c,eq_true e,ya,yc,za a hdl,this]
    ·simp -implicitDefEqProofs only [go_sem,zjQ,ilt a,zt a,rU,yb,r,s,c,e,ya,yc]
include hul
theorem zAO : ∀ (d k : Nat) (a0 a1 a3 a5 a8 a9 m b g c o j p l h n a20 i a22 a23 a24 a25 a26 : V),uses.length - k = d → k ≤ uses.length →
  exec T zb9 ⟨[a0,a1,.one (.ptr 0 0 0 0),a3,vUs defs,a5,vUs uses,vI k,a8,a9,m,b,g,c,o,j,p,l,h,n,a20,i,a22,a23,a24,a25,a26],zjQ f [],0,0⟩ =
   some (if (uses.drop k).all (zl8 defs) = true then (.exit 2,⟨[vU,vU,.one (.ptr 0 0 0 0),vU,vUs defs,vU,vUs uses,vU,vU,vU,vU,vU,vU,vU,vU,vU,vU,vU,vU,vU,vU,vU,vU,vU,vU,vU,vU],zjQ f [],0,0⟩) else (.ret,⟨[vU,vU,vU,vI 7,vU,vU,vU,vU,vU,vU,vU,vU,vU,vU,vU,vU,vU,vU,vU,vU,vU,vU,vU,vU,vU,vU,vU],zjQ f [],0,0⟩)):=by
 intro d
 induction d with
 | zero =>
   intro k a0 a1 a3 a5 a8 a9 m b g c o j p l h n a20 i a22 a23 a24 a25 a26 h1 r;have a : k = uses.length:=(by omega);subst a;rw [xl zb9 rfl,zeu];simp -implicitDefEqProofs only [go_sem,zjQ,yh,yb,yj,yx]
 | succ d ih =>
   intro k a0 a1 a3 a5 a8 a9 m b g c o j p l h n a20 i a22 a23 a24 a25 a26 h1 r;have a : k < uses.length:=(by omega);have hd : uses.drop k = uses[k] :: uses.drop (k + 1):=yd a;have q:=zi9 defs uses[k].v hdl;have:=ih (k + 1) vU vU vU vU vU vU vU vU vU vU vU vU vU vU vU vU vU vU vU vU vU vU vU (by omega) (by omega);rw [xl zb9 rfl,zeu,hd,yt,zl8];simp -implicitDefEqProofs only [go_sem,zjQ] at this;simp -implicitDefEqProofs only [go_sem] at q
   by_cases e : zp uses[k].v 0 defs < 0
   ·simp -implicitDefEqProofs only [go_sem,zjQ,ilt a,zt a,rU,yb,q,eq_true e,ya,yc]
   ·simp -implicitDefEqProofs only [go_sem,zjQ,ilt a,zt a,rU,yb,q,e,ya,yc,za a hul,this]
variable (hall : ∀ u ∈ uses,zl8 defs u = true)
omit hf hdl hul in
theorem zHm (u : Use) (h : zl8 defs u = true) : 0 ≤ zp u.v 0 defs ∧ zp u.v 0 defs < (defs.length : Int) ∧ (defs.map rU)[(zp u.v 0 defs).toNat]? = some (rU (zjF defs u.v)):=by
 have h0 : 0 ≤ zp u.v 0 defs:=by
  unfold zl8 at h;simp at h;exact h
 have h1:=zkr u.v defs 0 h0;have hlt : (zp u.v 0 defs).toNat < defs.length:=by omega
 refine ⟨h0,by omega,?_⟩;rw [zt hlt];unfold zjF;rw [yA,yC hlt];rfl
include hall
theorem zAv : ∀ (d k : Nat) (a0 a1 a3 a5 a7 a9 m b g c p j q l h o a20 i a22 a23 a24 a25 a26 : V),uses.length - k = d → k ≤ uses.length →
  exec T zcp ⟨[a0,a1,.one (.ptr 0 0 0 0),a3,vUs defs,a5,vUs uses,a7,vI k,a9,m,b,g,c,p,j,q,l,h,o,a20,i,a22,a23,a24,a25,a26],zjQ f [],0,0⟩ =
   some (if (uses.drop k).all (sameShape defs) = true then (.exit 4,⟨[vU,vU,.one (.ptr 0 0 0 0),vU,vUs defs,vU,vUs uses,vU,vU,vU,vU,vU,vU,vU,vU,vU,vU,vU,vU,vU,vU,vU,vU,vU,vU,vU,vU],zjQ f [],0,0⟩) else (.ret,⟨[vU,vU,vU,vI 6,vU,vU,vU,vU,vU,vU,vU,vU,vU,vU,vU,vU,vU,vU,vU,vU,vU,vU,vU,vU,vU,vU,vU],zjQ f [],0,0⟩)):=by
 intro d
 induction d with
 | zero =>
   intro k a0 a1 a3 a5 a7 a9 m b g c p j q l h o a20 i a22 a23 a24 a25 a26 h1 t;have a : k = uses.length:=(by omega);subst a;rw [xl zcp rfl,zey];simp -implicitDefEqProofs only [go_sem,zjQ,yh,yb,yj,yx]
 | succ d ih =>
   intro k a0 a1 a3 a5 a7 a9 m b g c p j q l h o a20 i a22 a23 a24 a25 a26 h1 t;have a : k < uses.length:=(by omega);have hd : uses.drop k = uses[k] :: uses.drop (k + 1):=yd a;have r:=zi9 defs uses[k].v hdl;obtain ⟨p1,p2,s⟩:=zHm defs uses[k] (hall _ (yk a));have:=ih (k + 1) vU vU vU vU vU vU vU vU vU vU vU vU vU vU vU vU vU vU vU vU vU vU vU (by omega) (by omega);rw [xl zcp rfl,zey,hd,yt,sameShape];simp -implicitDefEqProofs only [go_sem,zjQ] at this;simp -implicitDefEqProofs only [go_sem] at r;obtain ⟨e,he⟩ : ∃ e,e = zjF defs uses[k].v:=⟨_,rfl⟩;rw [← he] at s ⊢;have n : (e.shape = uses[k].shape) = (e.shape.1 = uses[k].shape.1 ∧ e.shape.2 = uses[k].shape.2):=by rw [Prod.ext_iff]
   by_cases s1 : e.shape.1 = uses[k].shape.1
   ·by_cases s2 : e.shape.2 = uses[k].shape.2
    ·simp -implicitDefEqProofs only [go_sem,zjQ,ilt a,zt a,rU,yb,r,p1,p2,s,n,eq_true s1,eq_true s2,ya,yc,za a hul,this]
    ·simp -implicitDefEqProofs only [go_sem,zjQ,ilt a,zt a,rU,yb,r,p1,p2,s,n,eq_true s1,s2,and_false,ya,yc]
   ·simp -implicitDefEqProofs only [go_sem,zjQ,ilt a,zt a,rU,yb,r,p1,p2,s,n,s1,false_and,ya,yc]
theorem zAc (tree : List Int) (w : tree.length ≤ 4294967296) (y t : Fz) : ∀ (d k : Nat),uses.length - k = d → k ≤ uses.length → ∃ r,∀ (a0 a1 a2 a3 a5 a7 a8 a9 b a l h m i c j a20 g a22 a23 a24 a25 a26 : V),
  exec T zY ⟨[a0,a1,a2,a3,vUs defs,a5,vUs uses,a7,a8,a9,vIs tree,vI k,b,a,l,h,m,i,c,j,a20,g,a22,a23,a24,a25,a26],zjQ f [.cells 0 2 [[.f y,.f t]]],0,0⟩ =
   some (if (uses.drop k).all (zhG defs tree) = true then (.exit 6,⟨[vU,vU,vU,vU,vU,vU,vU,vU,vU,vU,vU,vU,vU,vU,vU,vU,vU,vU,vU,vU,vU,vU,vU,vU,vU,vU,vU],zjQ f [.cells 0 2 [[.f y,.f t]]],0,0⟩) else (.ret,⟨[vU,vU,vU,vI 7,vU,vU,vU,vU,vU,vU,vU,vU,vU,vU,vU,vU,vU,vU,vU,vU,vU,vU,vU,vU,vU,vU,vU],zjQ f (.cells 0 2 [[.f y,.f t]] :: r),0,0⟩)):=by
 intro d
 induction d with
 | zero =>
   intro k h1 z;have n : k = uses.length:=(by omega);subst n;refine ⟨[],fun a0 a1 a2 a3 a5 a7 a8 a9 b a l h m i c j a20 g a22 a23 a24 a25 a26 => ?_⟩;rw [xl zY rfl,zaj];simp -implicitDefEqProofs only [go_sem,zjQ,yh,yb,yj,yx]
 | succ d ih =>
   intro k h1 z;have n : k < uses.length:=(by omega);have hd : uses.drop k = uses[k] :: uses.drop (k + 1):=yd n;have o:=zi9 defs uses[k].v hdl;obtain ⟨p1,p2,p⟩:=zHm defs uses[k] (hall _ (yk n));obtain ⟨r,s⟩:=ih (k + 1) (by omega) (by omega);simp -implicitDefEqProofs only [go_sem,zjQ] at s;simp -implicitDefEqProofs only [go_sem] at o;rw [hd,yt,zhG];obtain ⟨e,he⟩ : ∃ e,e = zjF defs uses[k].v:=⟨_,rfl⟩;obtain ⟨u,hu⟩ : ∃ u,u = uses[k]:=⟨_,rfl⟩;have q:=zt (r:=rU) n;rw [← he] at p ⊢;rw [← hu] at q o p1 p2 p ⊢;have x:=zw2 tree w e.block u.block;simp -implicitDefEqProofs only [go_sem] at x
   by_cases c1 : e.block < 0
   ·refine ⟨r,fun a0 a1 a2 a3 a5 a7 a8 a9 b a l h m i c j a20 g a22 a23 a24 a25 a26 => ?_⟩
    rw [xl zY rfl,zaj];simp -implicitDefEqProofs only [go_sem,zjQ,ilt n,q,rU,yb,o,p1,p2,p,eq_true c1,ya,yc,za n hul,s]
   ·by_cases c2 : e.block = u.block
    ·by_cases c3 : e.at' < u.at'
     ·refine ⟨r,fun a0 a1 a2 a3 a5 a7 a8 a9 b a l h m i c j a20 g a22 a23 a24 a25 a26 => ?_⟩
      rw [xl zY rfl,zaj];simp -implicitDefEqProofs only [go_sem,zjQ,ilt n,q,rU,yb,o,p1,p2,p,c1,eq_true c2,eq_true c3,ya,yc,za n hul,s]
     ·refine ⟨[.cells 0 5 [(rU u).map C.f],.cells 0 5 [(rU e).map C.f]],fun a0 a1 a2 a3 a5 a7 a8 a9 b a l h m i c j a20 g a22 a23 a24 a25 a26 => ?_⟩
      rw [xl zY rfl,zaj];simp -implicitDefEqProofs only [go_sem,zjQ,ilt n,q,rU,yb,yM,yI,o,p1,p2,p,c1,eq_true c2,c3,ya,yc]
    ·by_cases c4 : zkP tree e.block u.block = e.block
     ·refine ⟨r,fun a0 a1 a2 a3 a5 a7 a8 a9 b a l h m i c j a20 g a22 a23 a24 a25 a26 => ?_⟩
      rw [xl zY rfl,zaj];simp -implicitDefEqProofs only [go_sem,zjQ,ilt n,q,rU,yb,o,x,p1,p2,p,c1,c2,eq_true c4,ya,yc,za n hul,s]
     ·refine ⟨[.cells 0 5 [(rU u).map C.f],.cells 0 5 [(rU e).map C.f]],fun a0 a1 a2 a3 a5 a7 a8 a9 b a l h m i c j a20 g a22 a23 a24 a25 a26 => ?_⟩
      rw [xl zY rfl,zaj];simp -implicitDefEqProofs only [go_sem,zjQ,ilt n,q,rU,yb,yM,yI,o,x,p1,p2,p,c1,c2,c4,ya,yc]
end
end AC
