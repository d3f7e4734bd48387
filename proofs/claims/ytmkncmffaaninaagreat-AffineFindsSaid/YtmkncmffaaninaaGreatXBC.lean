/- A part of the proof of AffineFinds. Conditions: none. -/
import Derived.Test.YtmkncmffaaninaaGreatXBB
import Derived.Test.YtmkncmffaaninaaGreatXAZ
set_option linter.all false
open List renaming getElem?_eq_none → ya,length_map → yb,ext_getElem? → ye,drop_eq_getElem_cons → yf,getElem_mem → yi,replicate → yj,getElem?_cons_succ → yk,getElem?_cons_zero → yl,getElem?_set_self → ym,getElem?_set_ne → yn,drop_length → yo,append_nil → yp,set_cons_succ → yq,drop_zero → ys,range → yt,length_set → yu,length → yA
open Int renaming natCast_nonneg → yc,toNat_natCast → yd,lt_irrefl → yg,natCast_zero → yh
open Bool renaming false_eq_true → yr,not_eq_false' → yv,and_eq_true → yy,or_eq_true → yz,true_and → yB
open Option renaming isNone_some → yw,isNone_none → yx
namespace AC
open Go Go.A Go.A.Lex
abbrev O0 (f : PFunc) : Ob:=.cells 0 3 [zcz f]
abbrev cM (g : Nat) : C:=.fn g [.ptr 1 0 0 0] []
abbrev O2 : Ob:=.cells 0 1 [[cM 159],[cM 160],[cM 161],[cM 162],[cM 163]]
def ziz (pi : List Int) (p : PPhi) : Bool:=decide (p.src = pi) && decide (p.args.length = p.src.length)
def ze4 (b : PBlock) : Bool:=!((decide (b.kind = 1) || decide (b.kind = 3)) && !decide (b.arg = 0))
def zsy (pred : List (List Int)) (tree : List Int) (i : Nat) (b : PBlock) : Bool:=zlU tree i i && (b.phis.all (ziz (pred.getD i [])) && ze4 b)
def zHp (pred : List (List Int)) (tree : List Int) (i : Nat) (b : PBlock) : Option (List Ob) :=
 if zlU tree i i = false then some [.cells 0 5 [zw b]] else
 match b.phis.find? fun p => !ziz (pred.getD i []) p with
 | some p => some [.cells 0 5 [zw b],.cells 0 4 [zw6 p]]
 | none => if ze4 b = false then some [.cells 0 5 [zw b]] else none
def zhF (pred : List (List Int)) (tree : List Int) : Nat → List PBlock → Option (List Ob)
 | _,[] => none
 | i,b :: r => match zHp pred tree i b with
   | some G => some G
   | none => zhF pred tree (i + 1) r
theorem zCv (pred : List (List Int)) (tree : List Int) (i : Nat) (b : PBlock) : (zHp pred tree i b).isNone = zsy pred tree i b:=by
 unfold zHp zsy;cases d : zlU tree i i
 ·simp
 ·simp only [Bool.true_eq_false,if_false,yB]
  cases a : b.phis.find? fun p => !ziz (pred.getD i []) p with
  | some p =>
    rw [show b.phis.all (ziz (pred.getD i [])) = false from zeY a];rfl
  | none =>
    rw [zeW a];cases c : ze4 b <;> simp
def zeH (pred : List (List Int)) (tree : List Int) : Nat → List PBlock → Bool
 | _,[] => true
 | i,b :: r => zsy pred tree i b && zeH pred tree (i + 1) r
theorem zl9 (pred : List (List Int)) (tree : List Int) : ∀ (l : List PBlock) (i : Nat),(zhF pred tree i l).isNone = zeH pred tree i l
 | [],_ => rfl
 | b :: r,i => by
   have h:=zCv pred tree i b;simp only [zhF,zeH]
   cases e : zHp pred tree i b with
   | some G =>
     rw [e] at h;simp only [yw] at h;simp [← h]
   | none =>
     rw [e] at h;simp only [yx] at h;rw [← h,yB];exact zl9 pred tree r (i + 1)
section
variable (f : PFunc) (hf : okF f) (level : Int) (dd : C) (hdd : dd = .f (.lit (.map none))) (pred : List (List Int)) (hpl : pred.length = f.blocks.length) (hpp : ∀ l ∈ pred,l.length ≤ 4294967296) (tree : List Int) (htl : tree.length ≤ 4294967296) (x y : C) (hx : ∃ a,x = .f a) (hy : ∃ a,y = .f a)
abbrev zpj (f : PFunc) (level : Int) (pred : List (List Int)) (tree : List Int) : zd:=[O0 f,zzX f level (.f (.sl ((zo f).map rl))) (.f (.sl (pred.map rl))) (.f (eI tree)) (.f (.lit (.map none))),O2,.cells 0 2 [[.f (.sl ((zo f).map rl)),.f (.sl (pred.map rl))]]]
include hf hpl hpp htl
theorem zES (b : PBlock) (o : okB b) (i : Nat) (s : i < f.blocks.length) : ∀ (d k : Nat) (a1 a3 a6 a7 j g l e m : V),b.phis.length - k = d → k ≤ b.phis.length →
  exec T zbO ⟨[.one (.ptr 1 0 0 0),a1,.one (.ptr 3 0 0 0),a3,vI i,.one (.ptr 4 0 0 0),a6,a7,vL (f.blocks.map rb),vI f.blocks.length,vI i,j,g,vL (b.phis.map rp),vI b.phis.length,vI k,l,e,m],zpj f level pred tree ++ [.cells 0 5 [zw b]],3,3⟩ =
   some (match (b.phis.drop k).find? (fun p => !ziz (pred.getD i []) p) with
    | none => (.exit 2,⟨[.one (.ptr 1 0 0 0),vU,.one (.ptr 3 0 0 0),vU,vU,.one (.ptr 4 0 0 0),vU,vU,vL (f.blocks.map rb),vI f.blocks.length,vI i,vU,vU,vU,vU,vU,vU,vU,vU],zpj f level pred tree ++ [.cells 0 5 [zw b]],3,3⟩)
    | some p => (.ret,⟨[vU,vI 5,vU,vU,vU,vU,vU,vU,vU,vU,vU,vU,vU,vU,vU,vU,vU,vU,vU],zpj f level pred tree ++ [.cells 0 5 [zw b],.cells 0 4 [zw6 p]],3,3⟩)):=by
 intro d
 induction d with
 | zero =>
   intro k a1 a3 a6 a7 j g l e m q r;have a : k = b.phis.length:=(by omega);subst a;rw [xl zbO rfl,zd9];simp -implicitDefEqProofs only [go_sem,zpj,yg,yo,List.find?_nil]
 | succ d ih =>
   intro k a1 a3 a6 a7 j g l e m q r;have a : k < b.phis.length:=(by omega);have hd : b.phis.drop k = b.phis[k] :: b.phis.drop (k + 1):=yf a;have c : i < pred.length:=(by omega);have n : pred.getD i [] = pred[i]:=(by simp [c]);have he:=zl6 b.phis[k].src pred[i] [] (o.phi _ (yi a)).1;rw [xl zbO rfl,zd9,hd,List.find?_cons,n];rw [n] at ih
   by_cases c1 : b.phis[k].src = pred[i]
   ·by_cases c2 : b.phis[k].args.length = b.phis[k].src.length
    ·have h : ((b.phis[k].args.length : Int) = (b.phis[k].src.length : Int)) = True:=by simp [c2]
     have:=ih (k + 1) vU vU vU vU vU vU vU vU vU (by omega) (by omega);simp -implicitDefEqProofs only [go_sem,zpj,eq_true c1] at he this;simp -implicitDefEqProofs only [go_sem,zpj,ilt a,zy a,zy c,rp,rl,he,eq_true c1,h,eq_true c2,ziz,za a o.phis,this]
    ·have h : ¬ (b.phis[k].args.length : Int) = (b.phis[k].src.length : Int):=by omega
     simp -implicitDefEqProofs only [go_sem,zpj,eq_true c1] at he;simp -implicitDefEqProofs only [go_sem,zpj,ilt a,zy a,zy c,rp,rl,he,eq_true c1,h,c2,ziz]
   ·simp -implicitDefEqProofs only [go_sem,zpj,c1] at he
    simp -implicitDefEqProofs only [go_sem,zpj,ilt a,zy a,zy c,rp,rl,he,c1,ziz]
theorem zDA : ∀ (d k : Nat) (a1 a3 a4 a5 a6 a7 e c l n m g b h : V),f.blocks.length - k = d → k ≤ f.blocks.length →
  exec T zb4 ⟨[.one (.ptr 1 0 0 0),a1,.one (.ptr 3 0 0 0),a3,a4,a5,a6,a7,vL (f.blocks.map rb),vI f.blocks.length,vI k,e,c,l,n,m,g,b,h],zpj f level pred tree,3,3⟩ =
   some (match zhF pred tree k (f.blocks.drop k) with
    | none => (.exit 0,⟨[vU,vU,vU,vU,vU,vU,vU,vU,vU,vU,vU,vU,vU,vU,vU,vU,vU,vU,vU],zpj f level pred tree,3,3⟩)
    | some G => (.ret,⟨[vU,vI 5,vU,vU,vU,vU,vU,vU,vU,vU,vU,vU,vU,vU,vU,vU,vU,vU,vU],zpj f level pred tree ++ G,3,3⟩)):=by
 intro d
 induction d with
 | zero =>
   intro k a1 a3 a4 a5 a6 a7 e c l n m g b h t u;have a : k = f.blocks.length:=(by omega);subst a;rw [xl zb4 rfl,zd7];simp -implicitDefEqProofs only [go_sem,zpj,yg,yo,zhF]
 | succ d ih =>
   intro k a1 a3 a4 a5 a6 a7 e c l n m g b h t u;have a : k < f.blocks.length:=(by omega);have hd : f.blocks.drop k = f.blocks[k] :: f.blocks.drop (k + 1):=yf a;have s:=hf.block _ (yi a);have i:=zpK tree k k htl;have j:=fun a1 a3 a6 a7 e c g b h => zES f hf level pred hpl hpp tree htl f.blocks[k] s k a f.blocks[k].phis.length 0 a1 a3 a6 a7 e c g b h (by omega) (by omega);simp only [ys,yh] at j;rw [xl zb4 rfl,zd7,hd,zhF,zHp];cases e1 : zlU tree k k
   ·simp -implicitDefEqProofs only [go_sem,e1] at i
    simp -implicitDefEqProofs only [go_sem,zpj,ilt a,zy a,rb,i]
   ·cases e2 : f.blocks[k].phis.find? (fun p => !ziz (pred.getD k []) p) with
    | some p =>
      simp -implicitDefEqProofs only [go_sem,zpj,e1,e2] at i j;simp -implicitDefEqProofs only [go_sem,zpj,ilt a,zy a,rb,i,j]
    | none =>
      have:=ih (k + 1) vU vU vU vU vU vU vU vU vU vU vU vU vU vU (by omega) (by omega);simp -implicitDefEqProofs only [go_sem,zpj,e1,e2] at i j this
      by_cases q : f.blocks[k].kind = 1
      ·by_cases o : f.blocks[k].arg = 0
       ·simp -implicitDefEqProofs only [go_sem,zpj,ilt a,zy a,rb,i,j,ze4,eq_true q,eq_true o,za a hf.blocks,this]
       ·simp -implicitDefEqProofs only [go_sem,zpj,ilt a,zy a,rb,i,j,ze4,eq_true q,o]
      ·by_cases r : f.blocks[k].kind = 3
       ·by_cases o : f.blocks[k].arg = 0
        ·simp -implicitDefEqProofs only [go_sem,zpj,ilt a,zy a,rb,i,j,ze4,q,eq_true r,eq_true o,za a hf.blocks,this]
        ·simp -implicitDefEqProofs only [go_sem,zpj,ilt a,zy a,rb,i,j,ze4,q,eq_true r,o]
       ·simp -implicitDefEqProofs only [go_sem,zpj,ilt a,zy a,rb,i,j,ze4,q,r,za a hf.blocks,this]
end
theorem zJF (n : Nat) : (n + 1 + 1 + 1 + 1 ≤ 3) = False:=by simp
theorem zrt (f : PFunc) (hf : okF f) (level : Int) (a : zaM f = false) : call T 159 [.one (.ptr 1 0 0 0)] [O0 f,zzX f level (.f (.sl [])) (.f (.sl [])) (.f (.sl [])) (.f (.lit (.map none))),O2] = some (vI 5,[O0 f,zzX f level (.f (.sl [])) (.f (.sl [])) (.f (.sl [])) (.f (.lit (.map none))),O2]):=by
 rw [ze (fn:=zaG) rfl];have h:=znL f hf;simp -implicitDefEqProofs only [go_sem,zhg,a] at h;simp -implicitDefEqProofs only [go_sem,zaG,h]
def zh0 (f : PFunc) (tree : List Int) : Bool:=zaM f && zeH (zZ (zo f)) tree 0 f.blocks
theorem zla (succ : List (List Int)) (b : zlg succ) (c : (succ.map yA).sum ≤ 4294967296) : ∀ l ∈ zZ succ,l.length ≤ 4294967296:=by
 have h : ∀ (l : List (List Int)) (i : Nat) (out : List (List Int)) (B : Nat),(∀ y ∈ out,y.length ≤ B) → ∀ y ∈ zbr i l out,y.length ≤ B + (l.map yA).sum:=by
  intro l
  induction l with
  | nil => intro i out B h y hy; exact h y hy
  | cons x r ih =>
    intro i out B h y hy;have:=ih (i + 1) (x.foldl (zvr i) out) (B + x.length) (ztU _ _ _ _ h) y hy;simp only [List.map_cons,List.sum_cons];omega
 intro l a;have:=h succ 0 (yj succ.length []) 0 (fun y hy => by rw [(List.mem_replicate.1 hy).2]; simp) l a;omega
theorem zfW {f : PFunc} (h : zaM f = true) : zbH (zo f) = true:=by
 simp only [zaM,yy] at h;exact h.2.2
theorem ztI (f : PFunc) (hf : okF f) (level : Int) (o : zaM f = true) (tree : List Int) (htl : tree.length ≤ 4294967296)
  (m : call T 195 [.agg [.f (.sl ((zo f).map rl)),.f (.sl ((zZ (zo f)).map rl))],vI 0] [] = some (vIs tree,[])) :
  call T 159 [.one (.ptr 1 0 0 0)] [O0 f,zzX f level (.f (.sl [])) (.f (.sl [])) (.f (.sl [])) (.f (.lit (.map none))),O2] =
   some (vI (if zeH (zZ (zo f)) tree 0 f.blocks = true then 0 else 5),[O0 f,zzX f level (.f (.sl ((zo f).map rl))) (.f (.sl ((zZ (zo f)).map rl))) (.f (eI tree)) (.f (.lit (.map none))),O2]):=by
 rw [ze (fn:=zaG) rfl];have h:=znL f hf;have b:=fun a1 a3 a4 a5 a6 a7 i d g n j k c l => zDA f hf level (zZ (zo f)) (by rw [zcu]; simp [zo]) (zla _ (ziW hf) (zhA (zfW o))) tree htl f.blocks.length 0 a1 a3 a4 a5 a6 a7 i d g n j k c l (by omega) (by omega);simp only [ys,yh] at b;have a:=zl9 (zZ (zo f)) tree f.blocks 0;simp -implicitDefEqProofs only [go_sem,zhg,o] at h m
 cases e : zhF (zZ (zo f)) tree 0 f.blocks with
 | none =>
   rw [e] at a;simp only [yx] at a;simp -implicitDefEqProofs only [go_sem,zpj,e] at b;simp -implicitDefEqProofs only [go_sem,zaG,h,m,b,← a]
 | some G =>
   rw [e] at a;simp only [yw] at a;simp -implicitDefEqProofs only [go_sem,zpj,e] at b;simp -implicitDefEqProofs only [go_sem,zaG,h,m,b,← a,zJF]
section
variable (succ pred : List (List Int)) (hn : succ.length ≤ 64) (hp : pred.length ≤ 64) (hl : ∀ l ∈ succ,l.length ≤ 4294967296) (hlp : ∀ l ∈ pred,l.length ≤ 4294967296)
abbrev s62 : zd:=[.cells 0 2 [[.f (.sl (succ.map rl)),.f (.sl (pred.map rl))]],.cells 0 2 [[.f (.sl (succ.map rl)),.f (.sl (pred.map rl))]]]
include hn hp hl hlp
theorem zEJ : ∀ (d k : Nat) (a0 a1 a4 a6 a7 a8 a9 a b : V),succ.length - k = d → k ≤ succ.length →
  exec T zcJ ⟨[a0,a1,.one (.ptr 0 0 0 0),.one (.ptr 1 0 0 0),a4,vI k,a6,a7,a8,a9,a,b],s62 succ pred,0,0⟩ = some (.exit 0,⟨[vU,vU,.one (.ptr 0 0 0 0),.one (.ptr 1 0 0 0),vU,vU,vU,vU,vU,vU,vU,vU],s62 succ pred,0,0⟩):=by
 intro d
 induction d with
 | zero =>
   intro k a0 a1 a4 a6 a7 a8 a9 a b f g;have c : k = succ.length:=(by omega);subst c;rw [xl zcJ rfl,zep];simp -implicitDefEqProofs only [go_sem,s62,yg,yb]
 | succ d ih =>
   intro k a0 a1 a4 a6 a7 a8 a9 a b f g;have c : k < succ.length:=(by omega);have e:=zkr succ[k] succ[k] (hl _ (yi c));have:=ih (k + 1) vU vU vU vU vU vU vU vU vU (by omega) (by omega);rw [xl zcJ rfl,zep];simp -implicitDefEqProofs only [go_sem] at e;simp -implicitDefEqProofs only [go_sem,s62] at this;simp -implicitDefEqProofs only [go_sem,s62,ilt c,zy c,rl,yb,e,za c (show succ.length ≤ 4294967296 by omega),this]
theorem zEA : ∀ (d k : Nat) (a0 a1 a4 a5 a7 a8 a9 a b : V),pred.length - k = d → k ≤ pred.length →
  exec T zcD ⟨[a0,a1,.one (.ptr 0 0 0 0),.one (.ptr 1 0 0 0),a4,a5,vI k,a7,a8,a9,a,b],s62 succ pred,0,0⟩ = some (.exit 2,⟨[vU,vU,vU,vU,vU,vU,vU,vU,vU,vU,vU,vU],s62 succ pred,0,0⟩):=by
 intro d
 induction d with
 | zero =>
   intro k a0 a1 a4 a5 a7 a8 a9 a b f g;have c : k = pred.length:=(by omega);subst c;rw [xl zcD rfl,zeZ];simp -implicitDefEqProofs only [go_sem,s62,yg,yb]
 | succ d ih =>
   intro k a0 a1 a4 a5 a7 a8 a9 a b f g;have c : k < pred.length:=(by omega);have e:=zkr pred[k] pred[k] (hlp _ (yi c));have:=ih (k + 1) vU vU vU vU vU vU vU vU vU (by omega) (by omega);rw [xl zcD rfl,zeZ];simp -implicitDefEqProofs only [go_sem] at e;simp -implicitDefEqProofs only [go_sem,s62] at this;simp -implicitDefEqProofs only [go_sem,s62,ilt c,zy c,rl,yb,e,za c (show pred.length ≤ 4294967296 by omega),this]
theorem zuw : call T 173 [.agg [.f (.sl (succ.map rl)),.f (.sl (pred.map rl))],.agg [.f (.sl (succ.map rl)),.f (.sl (pred.map rl))]] [] = some (vB true,[]):=by
 rw [ze (fn:=zfm) rfl];have d:=fun a0 a1 a4 a6 a7 a8 a9 a b => zEJ succ pred hn hp hl hlp succ.length 0 a0 a1 a4 a6 a7 a8 a9 a b (by omega) (by omega);have c:=fun a0 a1 a4 a5 a7 a8 a9 a b => zEA succ pred hn hp hl hlp pred.length 0 a0 a1 a4 a5 a7 a8 a9 a b (by omega) (by omega);simp only [yh] at d c;simp -implicitDefEqProofs only [go_sem,s62] at d c;simp -implicitDefEqProofs only [go_sem,zfm,yb,d,c]
end
theorem zCm (succ : List (List Int)) (a : zlg succ) (hm : zbH succ = true) : call T 130 [.agg [.f (.sl (succ.map rl)),.f (.sl ((zZ succ).map rl))]] [] = some (vB true,[]):=by
 rw [ze (fn:=zfN) rfl];obtain ⟨e,d,g⟩:=zgW hm;have b:=zo0 succ a;have c:=zuw succ (zZ succ) d (by rw [zcu]; exact d) a.2 (zla succ a (zhA hm));simp -implicitDefEqProofs only [go_sem,zkE,hm] at b;simp -implicitDefEqProofs only [go_sem] at c;simp -implicitDefEqProofs only [go_sem,zfN,b,c]
section
variable (succ : List (List Int)) (root : Int)
def ovB (c b : Nat) : Bool:=(zdO succ root (-1)).getD b false && !(zdO succ root (c : Int)).getD b false
def zpg (c : Nat) : List Bool:=(yt succ.length).map fun b => ovB succ root c b
def zgQ (c k : Nat) : List Bool:=(yt succ.length).map fun b => if b < k then ovB succ root c b else false
def zfz (b a : Nat) : Nat → Nat → Bool
 | _,0 => true
 | k,d + 1 => (decide (k = b) || (!ovB succ root k b || ovB succ root k a)) && zfz b a (k + 1) d
def zgE (b : Nat) : Nat → Nat → Int → Int
 | _,0,v => v
 | k,d + 1,v => zgE b (k + 1) d (if (!decide (k = b) && (ovB succ root k b && zfz succ root b k 0 succ.length)) = true then (k : Int) else v)
def zs8 (b : Nat) : Int:=if (b : Int) = root then -1 else zgE succ root b 0 succ.length (-2)
def zg9 (k : Nat) : List Int:=(yt succ.length).map fun b => if b < k then zs8 succ root b else 0
def zdl : List Int:=(yt succ.length).map fun b => zs8 succ root b
theorem zkU (c : Nat) : (zpg succ root c).length = succ.length:=by simp [zpg]
theorem ze5 (c k : Nat) : (zgQ succ root c k).length = succ.length:=by simp [zgQ]
theorem zjQ (w : Int) : (zdO succ root w).length = succ.length:=by
 unfold zdO;split
 ·simp
 ·rw [zhn]; simp
theorem zt3 (c b : Nat) (h : b < succ.length) : (zpg succ root c)[b]? = some (ovB succ root c b):=by simp [zpg,h]
theorem zi9 (c k b : Nat) (h : b < succ.length) : (zgQ succ root c k)[b]? = some (if b < k then ovB succ root c b else false):=by simp [zgQ,h]
theorem zwe (c : Nat) : zgQ succ root c 0 = yj succ.length false:=by
 apply ye;intro j
 by_cases h : j < succ.length
 ·rw [zi9 succ root c 0 j h]; simp [h]
 ·rw [ya (by rw [ze5]; omega),ya (by simp; omega)]
theorem zzP (c : Nat) : zgQ succ root c succ.length = zpg succ root c:=by
 apply ye;intro j
 by_cases h : j < succ.length
 ·rw [zi9 succ root c _ j h,zt3 succ root c j h,if_pos h]
 ·rw [ya (by rw [ze5]; omega),ya (by rw [zkU]; omega)]
theorem zzG (c k : Nat) (h : k < succ.length) : (zgQ succ root c k).set k (ovB succ root c k) = zgQ succ root c (k + 1):=by
 apply ye;intro j
 by_cases a : j < succ.length
 ·rw [zi9 succ root c (k + 1) j a]
  by_cases e : k = j
  ·subst e
   rw [ym (by rw [ze5]; exact h),if_pos (by omega)]
  ·rw [yn e,zi9 succ root c k j a]
   by_cases f : j < k
   ·rw [if_pos f,if_pos (by omega)]
   ·rw [if_neg f,if_neg (by omega)]
 ·rw [ya (by rw [yu,ze5]; omega),ya (by rw [ze5]; omega)]
theorem zgT (k : Nat) : (zg9 succ root k).length = succ.length:=by simp [zg9]
theorem znG (k b : Nat) (h : b < succ.length) : (zg9 succ root k)[b]? = some (if b < k then zs8 succ root b else 0):=by simp [zg9,h]
theorem zCs (k : Nat) (h : k < succ.length) : (zg9 succ root k).set k (zs8 succ root k) = zg9 succ root (k + 1):=by
 apply ye;intro j
 by_cases a : j < succ.length
 ·rw [znG succ root (k + 1) j a]
  by_cases e : k = j
  ·subst e
   rw [ym (by rw [zgT]; exact h),if_pos (by omega)]
  ·rw [yn e,znG succ root k j a]
   by_cases f : j < k
   ·rw [if_pos f,if_pos (by omega)]
   ·rw [if_neg f,if_neg (by omega)]
 ·rw [ya (by rw [yu,zgT]; omega),ya (by rw [zgT]; omega)]
theorem zzQ : zg9 succ root 0 = yj succ.length 0:=by
 apply ye;intro j
 by_cases h : j < succ.length
 ·rw [znG succ root 0 j h]; simp [h]
 ·rw [ya (by rw [zgT]; omega),ya (by simp; omega)]
theorem zBQ : zg9 succ root succ.length = zdl succ root:=by
 unfold zg9 zdl;apply List.map_congr_left;intro b a;rw [if_pos (List.mem_range.1 a)]
def zoD (n k : Nat) : List (List C):=(yt n).map fun a => if a < k then [.own (a + 1 + 1) 0 0 n] else [.f (.sl [])]
theorem ziw (n k : Nat) : (zoD n k).length = n:=by simp [zoD]
theorem zhW (n k a : Nat) (h : a < n) (b : a < k) : (zoD n k)[a]? = some [.own (a + 1 + 1) 0 0 n]:=by simp [zoD,h,b]
theorem zCi (n k a : Nat) (h : a < n) : ∃ c,(zoD n k)[a]? = some [c]:=by
 by_cases b : a < k
 ·exact ⟨_,zhW n k a h b⟩
 ·exact ⟨.f (.sl []),by simp [zoD,h,b]⟩
theorem zCN (n k : Nat) (h : k < n) : (zoD n k).set k [.own (k + 1 + 1) 0 0 n] = zoD n (k + 1):=by
 apply ye;intro j
 by_cases a : j < n
 ·by_cases e : k = j
  ·subst e
   rw [ym (by rw [ziw]; exact h),zhW n _ _ a (by omega)]
  ·rw [yn e]
   by_cases f : j < k
   ·rw [zhW n k j a f,zhW n (k + 1) j a (by omega)]
   ·simp [zoD,a,f,show ¬ j < k + 1 by omega]
 ·rw [ya (by rw [yu,ziw]; omega),ya (by rw [ziw]; omega)]
theorem zyK (n : Nat) : zoD n 0 = yj n [.f (.sl [])]:=by
 apply ye;intro j
 by_cases h : j < n
 ·simp [zoD,h]
 ·rw [ya (by rw [ziw]; omega),ya (by simp; omega)]
def zft (k : Nat) : zd:=(yt k).map fun c => .cells 0 1 ((zpg succ root c).map zgx)
theorem za2 (k : Nat) : (zft succ root k).length = k:=by simp [zft]
theorem zwi (k : Nat) : zft succ root k ++ [.cells 0 1 ((zpg succ root k).map zgx)] = zft succ root (k + 1):=by
 unfold zft;rw [List.range_succ,List.map_append];rfl
theorem zyY (k c : Nat) (h : c < k) : (zft succ root k)[c]? = some (.cells 0 1 ((zpg succ root c).map zgx)):=by simp [zft,h]
end
section
variable (succ pred : List (List Int)) (root : Int) (hn1 : 1 ≤ succ.length) (hn : succ.length ≤ 64) (hl : ∀ l ∈ succ,l.length ≤ 4294967296) (hr : ∀ l ∈ succ,∀ y ∈ l,0 ≤ y ∧ y < (succ.length : Int)) (h0 : 0 ≤ root ∧ root < (succ.length : Int))
abbrev sT7 (k a : Nat) (r : zd) : zd:=zr3 succ pred :: .cells 0 1 (zoD succ.length k) :: (zft succ root a ++ r)
theorem zGL {l : List Bool} {k : Nat} (h : k < l.length) : (l.map rbo)[k]? = some [.lit (.bool (l.getD k false))]:=by simp [h,rbo]
theorem ovl (k m : Nat) (h : k ≤ m) : (yA (zft succ root k) ≤ m) = True:=by rw [za2]; simp [h]
include hn hl hr h0
theorem zDJ (a : Nat) (B : a < succ.length) : ∀ (d k : Nat) (a0 a3 t n i m u q r h s j a20 p a22 a23 : V),succ.length - k = d → k ≤ succ.length →
  exec T zcp ⟨[a0,vI root,.one (.ptr 0 0 0 0),a3,vI succ.length,vBs (zdO succ root (-1)),.one (.own 1 0 0 succ.length),vI a,vBs (zdO succ root a),vI k,t,n,i,m,u,q,r,h,s,j,a20,p,a22,a23],sT7 succ pred root (a + 1) a [.cells 0 1 ((zgQ succ root a k).map zgx)],0,0⟩ =
   some (.exit 2,⟨[vU,vI root,.one (.ptr 0 0 0 0),vU,vI succ.length,vBs (zdO succ root (-1)),.one (.own 1 0 0 succ.length),vI a,vU,vU,vU,vU,vU,vU,vU,vU,vU,vU,vU,vU,vU,vU,vU,vU],sT7 succ pred root (a + 1) (a + 1) [],0,0⟩):=by
 intro d
 induction d with
 | zero =>
   intro k a0 a3 t n i m u q r h s j a20 p a22 a23 G H;have g : k = succ.length:=(by omega);subst g;have e:=zwi succ root a;rw [← zzP] at e;rw [xl zcp rfl,zer];have d1:=ovl succ root (a + 1) 999998 (by omega);simp -implicitDefEqProofs only [go_sem,sT7,yg,e,yp,d1]
 | succ d ih =>
   intro k a0 a3 t n i m u q r h s j a20 p a22 a23 G H;have g : k < succ.length:=(by omega);have x:=zGL (l:=zdO succ root (-1)) (k:=k) (by rw [zjQ]; exact g);have E:=zGL (l:=zdO succ root (a : Int)) (k:=k) (by rw [zjQ]; exact g);have go:=zhW succ.length (a + 1) a B (by omega)
   have z : (zft succ root a ++ [Ob.cells 0 1 ((zgQ succ root a k).map zgx)])[a]? = some (.cells 0 1 ((zgQ succ root a k).map zgx)):=by
    rw [List.getElem?_append_right (by rw [za2]; omega),za2,Nat.sub_self];rfl
   have A : ∀ o,(zft succ root a ++ [Ob.cells 0 1 ((zgQ succ root a k).map zgx)]).set a o = zft succ root a ++ [o]:=fun o => by
    have:=ztd (zft succ root a) [] (Ob.cells 0 1 ((zgQ succ root a k).map zgx)) o
    rwa [za2] at this
   have y : ((zgQ succ root a k).map zgx)[k]? = some [.f (.lit (.bool false))]:=by
    rw [List.getElem?_map,zi9 succ root a k k g,if_neg (by omega)];rfl
   have b : ((zgQ succ root a k).map zgx).set k [C.f (.lit (.bool (ovB succ root a k)))] = (zgQ succ root a (k + 1)).map zgx:=by
    rw [← zzG succ root a k g,List.map_set];rfl
   have D : (zgQ succ root a k).length = succ.length:=ze5 succ root a k;have w : ((a : Int) < (succ.length : Int)) = True:=(by simp; omega);have v : ((k : Int) < (succ.length : Int)) = True:=(by simp; omega);have:=ih (k + 1) vU vU vU vU vU vU vU vU vU vU vU vU vU vU vU vU (by omega) (by omega);have d1:=ovl succ root a 999997 (by omega);rw [xl zcp rfl,zer];simp -implicitDefEqProofs only [go_sem,sT7] at this;cases c : (zdO succ root (-1)).getD k false
   ·have e : ovB succ root a k = false:=by unfold ovB; rw [c]; rfl
    rw [c] at x;rw [e] at b;simp -implicitDefEqProofs only [go_sem,sT7,zr3,ilt g,w,v,x,go,z,A,y,b,yk,yl,yq,yc,yd,yb,d1,za g (show succ.length ≤ 4294967296 by omega),this]
   ·have e : ovB succ root a k = !(zdO succ root (a : Int)).getD k false:=by unfold ovB; rw [c]; rfl
    rw [c] at x;rw [e] at b;simp -implicitDefEqProofs only [go_sem,sT7,zr3,ilt g,w,v,x,E,go,z,A,y,b,yk,yl,yq,yc,yd,yb,d1,za g (show succ.length ≤ 4294967296 by omega),this]
theorem zDm : ∀ (d k : Nat) (a0 a3 a8 a9 m g b e n i j a l c a20 h a22 a23 : V),succ.length - k = d → k ≤ succ.length →
  exec T zcC ⟨[a0,vI root,.one (.ptr 0 0 0 0),a3,vI succ.length,vBs (zdO succ root (-1)),.one (.own 1 0 0 succ.length),vI k,a8,a9,m,g,b,e,n,i,j,a,l,c,a20,h,a22,a23],sT7 succ pred root k k [],0,0⟩ =
   some (.exit 0,⟨[vU,vI root,vU,vU,vI succ.length,vU,.one (.own 1 0 0 succ.length),vU,vU,vU,vU,vU,vU,vU,vU,vU,vU,vU,vU,vU,vU,vU,vU,vU],sT7 succ pred root succ.length succ.length [],0,0⟩):=by
 intro d
 induction d with
 | zero =>
   intro k a0 a3 a8 a9 m g b e n i j a l c a20 h a22 a23 v w;have o : k = succ.length:=(by omega);subst o;rw [xl zcC rfl,zeN];have d1:=ovl succ root succ.length 999998 (by omega);simp -implicitDefEqProofs only [go_sem,sT7,yg,yp,d1]
 | succ d ih =>
   intro k a0 a3 a8 a9 m g b e n i j a l c a20 h a22 a23 v w;have o : k < succ.length:=(by omega);have t:=zn5 succ pred (by omega) hl hr (k : Int) root h0;have s:=fun a0 a3 m g b e n i j a l c a20 h a22 a23 => zDJ succ pred root hn hl hr h0 k o succ.length 0 a0 a3 m g b e n i j a l c a20 h a22 a23 (by omega) (by omega);simp only [yh,zwe] at s;have:=ih (k + 1) vU vU vU vU vU vU vU vU vU vU vU vU vU vU vU vU vU vU (by omega) (by omega);obtain ⟨c0,r⟩:=zCi succ.length k k o;have q:=zCN succ.length k o;have u : yj succ.length [C.f (.lit (.bool false))] = (yj succ.length false).map zgx:=(by rw [List.map_replicate]; rfl);have p : (succ.length : Int) ≤ (LIM : Int):=(by unfold LIM; omega);have d1:=ovl succ root (k + 1) 999998 (by omega);have hlen : (zft succ root k).length = k:=za2 succ root k;rw [xl zcC rfl,zeN];simp -implicitDefEqProofs only [go_sem] at t;simp -implicitDefEqProofs only [go_sem,sT7,yp] at s this;simp -implicitDefEqProofs only [go_sem,sT7,zr3,ilt o,p,u,r,q,hlen,yp,List.cons_append,List.length_cons,yk,yl,yq,List.set_cons_zero,yc,yd,yb,t,s,d1,za o (show succ.length ≤ 4294967296 by omega),this]
end
section
variable (f : PFunc) (hf : okF f) (succ pred : List (List Int)) (hpl : pred.length = f.blocks.length) (hpe : ∀ l ∈ pred,l.length ≤ 4294967296) (reach : List Bool) (hrl : reach.length = f.blocks.length)
abbrev zoO (r : zd) : zd:=.cells 0 3 [zcz f] :: .cells 0 2 [[.f (.sl (succ.map rl)),.f (.sl (pred.map rl))]] :: r
include hf hpl hpe hrl
theorem zzw (b : PBlock) (r : okB b) (i : Nat) (w : i < f.blocks.length) : ∀ (d k : Nat) (a0 a2 a4 a9 o n j m : V),b.phis.length - k = d → k ≤ b.phis.length →
  exec T zb2 ⟨[a0,.one (.ptr 0 0 0 0),a2,.one (.ptr 1 0 0 0),a4,.one (.f (.sl (reach.map rbo))),vI i,.one (.ptr 2 0 0 0),vI k,a9,o,n,j,m],zoO f succ pred [.cells 0 5 [zw b]],0,0⟩ =
   some (if (b.phis.drop k).all (ziz (pred.getD i [])) = true then (.exit 2,⟨[vU,.one (.ptr 0 0 0 0),vU,.one (.ptr 1 0 0 0),vU,.one (.f (.sl (reach.map rbo))),vI i,vU,vU,vU,vU,vU,vU,vU],zoO f succ pred [.cells 0 5 [zw b]],0,0⟩)
    else (.ret,⟨[vU,vU,vB false,vU,vU,vU,vU,vU,vU,vU,vU,vU,vU,vU],zoO f succ pred [.cells 0 5 [zw b]],0,0⟩)):=by
 intro d
 induction d with
 | zero =>
   intro k a0 a2 a4 a9 o n j m u v;have g : k = b.phis.length:=(by omega);subst g;rw [xl zb2 rfl,zd0];simp -implicitDefEqProofs only [go_sem,zoO,yg,yb,yo,List.all_nil]
 | succ d ih =>
   intro k a0 a2 a4 a9 o n j m u v;have g : k < b.phis.length:=(by omega);have hd : b.phis.drop k = b.phis[k] :: b.phis.drop (k + 1):=yf g;have a : i < pred.length:=(by omega);have s : pred.getD i [] = pred[i]:=(by rw [List.getD_eq_getElem?_getD,List.getElem?_eq_getElem a]; rfl);have t:=r.phi _ (yi g);have p:=zkr b.phis[k].src pred[i] t.1;have:=ih (k + 1) vU vU vU vU vU vU vU vU (by omega) (by omega);rw [xl zb2 rfl,zd0,hd,List.all_cons];rw [s] at this ⊢;simp -implicitDefEqProofs only [go_sem,zoO] at this
   by_cases c : b.phis[k].src = pred[i]
   ·by_cases c2 : b.phis[k].args.length = pred[i].length
    ·have e : ziz pred[i] b.phis[k] = true:=by
      unfold ziz;rw [decide_eq_true c,decide_eq_true (by rw [c]; exact c2)];rfl
     have l : (b.phis[k].args.length : Int) = (pred[i].length : Int):=(by omega);simp -implicitDefEqProofs only [go_sem,decide_eq_true c] at p;simp -implicitDefEqProofs only [go_sem,zoO,ilt g,ilt a,zy g,zy a,rp,rl,yb,p,eq_true l,e,yc,yd,za g r.phis,this]
    ·have e : ziz pred[i] b.phis[k] = false:=by
      have q : ¬ b.phis[k].args.length = b.phis[k].src.length:=fun h => c2 (by rw [h,c]);unfold ziz;rw [decide_eq_false q,Bool.and_false]
     have l : ¬ (b.phis[k].args.length : Int) = (pred[i].length : Int):=(by omega);simp -implicitDefEqProofs only [go_sem,decide_eq_true c] at p;simp -implicitDefEqProofs only [go_sem,zoO,ilt g,ilt a,zy g,zy a,rp,rl,yb,p,l,e,yc,yd]
   ·have e : ziz pred[i] b.phis[k] = false:=by
     unfold ziz;rw [decide_eq_false c];rfl
    simp -implicitDefEqProofs only [go_sem,decide_eq_false c] at p;simp -implicitDefEqProofs only [go_sem,zoO,ilt g,ilt a,zy g,zy a,rp,rl,yb,p,e,yc,yd]
def zld (pred : List (List Int)) (reach : List Bool) (i : Nat) (b : PBlock) : Bool:=reach.getD i false && (ze4 b && b.phis.all (ziz (pred.getD i [])))
def zbI (pred : List (List Int)) (reach : List Bool) : Nat → List PBlock → Bool
 | _,[] => true
 | i,b :: r => zld pred reach i b && zbI pred reach (i + 1) r
theorem zyZ : ∀ (d k : Nat),f.blocks.length - k = d → k ≤ f.blocks.length → ∃ r,∀ (a0 a2 a4 a7 a8 a9 m j g i : V),
  exec T zag ⟨[a0,.one (.ptr 0 0 0 0),a2,.one (.ptr 1 0 0 0),a4,.one (.f (.sl (reach.map rbo))),vI k,a7,a8,a9,m,j,g,i],zoO f succ pred [],0,0⟩ =
   some (if zbI pred reach k (f.blocks.drop k) = true then (.exit 0,⟨[vU,vU,vU,vU,vU,vU,vU,vU,vU,vU,vU,vU,vU,vU],zoO f succ pred [],0,0⟩)
    else (.ret,⟨[vU,vU,vB false,vU,vU,vU,vU,vU,vU,vU,vU,vU,vU,vU],zoO f succ pred r,0,0⟩)):=by
 intro d
 induction d with
 | zero =>
   intro k x y;have a : k = f.blocks.length:=(by omega);subst a;refine ⟨[],fun a0 a2 a4 a7 a8 a9 m j g i => ?_⟩;rw [xl zag rfl,zax];simp -implicitDefEqProofs only [go_sem,zoO,yg,yb,yo,zbI]
 | succ d ih =>
   intro k x y;have a : k < f.blocks.length:=(by omega);have hd : f.blocks.drop k = f.blocks[k] :: f.blocks.drop (k + 1):=yf a;obtain ⟨b,u⟩ : ∃ b,b = f.blocks[k]:=⟨_,rfl⟩;have w:=hf.block _ (yi a);have p:=zy (r:=rb) a;rw [← u] at w p;have o:=zGL (l:=reach) (k:=k) (by omega);have s:=fun a0 a2 a4 a9 m j g i => zzw f hf succ pred hpl hpe reach hrl b w k a b.phis.length 0 a0 a2 a4 a9 m j g i (by omega) (by omega);simp only [yh,ys] at s;obtain ⟨r,v⟩:=ih (k + 1) (by omega) (by omega);rw [hd,zbI,← u,zld];simp -implicitDefEqProofs only [go_sem,zoO] at v;cases c : reach.getD k false
   ·rw [c] at o
    refine ⟨[.cells 0 5 [zw b]],fun a0 a2 a4 a7 a8 a9 m j g i => ?_⟩;rw [xl zag rfl,zax];simp -implicitDefEqProofs only [go_sem,zoO,ilt a,p,o,rb,yb,yc,yd]
   ·rw [c] at o
    cases e : ze4 b
    ·refine ⟨[.cells 0 5 [zw b]],fun a0 a2 a4 a7 a8 a9 m j g i => ?_⟩
     have t : (b.kind = 1 ∨ b.kind = 3) ∧ ¬ b.arg = 0:=by
      unfold ze4 at e;simp only [yv,yy,yz,decide_eq_true_eq,Bool.not_eq_true',decide_eq_false_iff_not] at e;exact e
     rw [xl zag rfl,zax]
     by_cases n : b.kind = 1
     ·simp -implicitDefEqProofs only [go_sem,zoO,ilt a,p,o,rb,yb,yc,yd,eq_true n,t.2]
     ·have q : b.kind = 3:=t.1.resolve_left n
      simp -implicitDefEqProofs only [go_sem,zoO,ilt a,p,o,rb,yb,yc,yd,n,eq_true q,t.2]
    ·have t : ¬ (b.kind = 1 ∨ b.kind = 3) ∨ b.arg = 0:=by
      by_cases z : b.arg = 0
      ·exact .inr z
      ·left
       intro h
       have : ze4 b = false:=by
        unfold ze4;simp only [decide_eq_false z,Bool.not_false,Bool.and_true,yv,yz,decide_eq_true_eq];exact h
       rw [this] at e;cases e
     cases cp : b.phis.all (ziz (pred.getD k []))
     ·simp -implicitDefEqProofs only [go_sem,zoO,cp,yr] at s
      refine ⟨[.cells 0 5 [zw b]],fun a0 a2 a4 a7 a8 a9 m j g i => ?_⟩;rw [xl zag rfl,zax]
      by_cases n : b.kind = 1
      ·have z : b.arg = 0:=t.resolve_left fun h => h (.inl n)
       simp -implicitDefEqProofs only [go_sem,zoO,ilt a,p,o,rb,yb,yc,yd,eq_true n,eq_true z,s]
      ·by_cases q : b.kind = 3
       ·have z : b.arg = 0:=t.resolve_left fun h => h (.inr q)
        simp -implicitDefEqProofs only [go_sem,zoO,ilt a,p,o,rb,yb,yc,yd,n,eq_true q,eq_true z,s]
       ·simp -implicitDefEqProofs only [go_sem,zoO,ilt a,p,o,rb,yb,yc,yd,n,q,s]
     ·simp -implicitDefEqProofs only [go_sem,zoO,cp] at s
      refine ⟨r,fun a0 a2 a4 a7 a8 a9 m j g i => ?_⟩;rw [xl zag rfl,zax]
      by_cases n : b.kind = 1
      ·have z : b.arg = 0:=t.resolve_left fun h => h (.inl n)
       simp -implicitDefEqProofs only [go_sem,zoO,ilt a,p,o,rb,yb,yc,yd,eq_true n,eq_true z,s,za a hf.blocks,v]
      ·by_cases q : b.kind = 3
       ·have z : b.arg = 0:=t.resolve_left fun h => h (.inr q)
        simp -implicitDefEqProofs only [go_sem,zoO,ilt a,p,o,rb,yb,yc,yd,n,eq_true q,eq_true z,s,za a hf.blocks,v]
       ·simp -implicitDefEqProofs only [go_sem,zoO,ilt a,p,o,rb,yb,yc,yd,n,q,s,za a hf.blocks,v]
end
def zg0 (f : PFunc) : Bool:=zaM f && zbI (zZ (zo f)) (zdO (zo f) 0 (-1)) 0 f.blocks
theorem ztF (f : PFunc) (hf : okF f) : call T 71 [zfg f] [] = some (vB (zg0 f),[]):=by
 rw [ze (fn:=za7) rfl];have a:=zr5 f hf;cases c : zaM f
 ·simp -implicitDefEqProofs only [go_sem,zhg,c,yr] at a
  simp -implicitDefEqProofs only [go_sem,za7,zg0,c,a]
 ·have hm:=zfW c
  obtain ⟨j,n64,i⟩:=ze3 hm;have b : (zo f).length = f.blocks.length:=by simp [zo]
  have g:=ziW hf;have d:=zn5 (zo f) (zZ (zo f)) (by omega) g.2 i (-1) 0 (by omega);obtain ⟨r,h⟩:=zyZ f hf (zo f) (zZ (zo f)) (by rw [zcu]; exact b) (zla _ g (zhA hm)) (zdO (zo f) 0 (-1)) (by rw [zjQ]; exact b) f.blocks.length 0 (by omega) (by omega);simp only [yh,ys] at h;simp -implicitDefEqProofs only [go_sem,zhg,c] at a;simp -implicitDefEqProofs only [go_sem] at d;cases e : zbI (zZ (zo f)) (zdO (zo f) 0 (-1)) 0 f.blocks
  ·simp -implicitDefEqProofs only [go_sem,zoO,e,yr] at h
   simp -implicitDefEqProofs only [go_sem,za7,zg0,c,a,d,h,e]
  ·simp -implicitDefEqProofs only [go_sem,zoO,e] at h
   simp -implicitDefEqProofs only [go_sem,za7,zg0,c,a,d,h,e]
end AC
