/- A part of the proof of SchedDepth. Conditions: none. -/
import Derived.Test.YtmkncmffaaninaaGreatDAY
import Derived.Test.YtmkncmffaaninaaGreatDAW
set_option linter.unusedVariables false
set_option linter.unusedSimpArgs false
set_option linter.unusedSectionVars false
open List renaming getElem?_eq_none → ya,length_map → yb,ext_getElem? → ye,drop_eq_getElem_cons → yf,getElem_mem → yi,replicate → yj,getElem?_cons_succ → yk,getElem?_cons_zero → yl,getElem?_set_self → ym,getElem?_set_ne → yn,drop_length → yo,append_nil → yp,set_cons_succ → yq,drop_zero → ys,range → yt,length_set → yu,length → yA
open Int renaming natCast_nonneg → yc,toNat_natCast → yd,lt_irrefl → yg,natCast_zero → yh
open Bool renaming false_eq_true → yr,not_eq_false' → yv,and_eq_true → yy,or_eq_true → yz,true_and → yB
open Option renaming isNone_some → yw,isNone_none → yx
namespace AC
open Go Go.A Go.A.Lex
abbrev O0 (f : PFunc) : Ob:=.cells 0 3 [zcJ f]
abbrev cM (g : Nat) : C:=.fn g [.ptr 1 0 0 0] []
abbrev O2 : Ob:=.cells 0 1 [[cM 159],[cM 160],[cM 161],[cM 162],[cM 163]]
def zhQ (pi : List Int) (p : PPhi) : Bool:=decide (p.src = pi) && decide (p.args.length = p.src.length)
def zer (b : PBlock) : Bool:=!((decide (b.kind = 1) || decide (b.kind = 3)) && !decide (b.arg = 0))
def zp7 (pred : List (List Int)) (tree : List Int) (i : Nat) (b : PBlock) : Bool:=zky tree i i && (b.phis.all (zhQ (pred.getD i [])) && zer b)
def zD9 (pred : List (List Int)) (tree : List Int) (i : Nat) (b : PBlock) : Option (List Ob) :=
 if zky tree i i = false then some [.cells 0 5 [zq b]] else
 match b.phis.find? fun p => !zhQ (pred.getD i []) p with
 | some p => some [.cells 0 5 [zq b],.cells 0 4 [zub p]]
 | none => if zer b = false then some [.cells 0 5 [zq b]] else none
def zg4 (pred : List (List Int)) (tree : List Int) : Nat → List PBlock → Option (List Ob)
 | _,[] => none
 | i,b :: r => match zD9 pred tree i b with
   | some G => some G
   | none => zg4 pred tree (i + 1) r
theorem zyX (pred : List (List Int)) (tree : List Int) (i : Nat) (b : PBlock) : (zD9 pred tree i b).isNone = zp7 pred tree i b:=by
 unfold zD9 zp7
 cases h1 : zky tree i i
 ·simp
 ·simp only [Bool.true_eq_false,if_false,yB]
  cases h2 : b.phis.find? fun p => !zhQ (pred.getD i []) p with
  | some p =>
    rw [show b.phis.all (zhQ (pred.getD i [])) = false from zeQ h2]
    rfl
  | none =>
    rw [zeU h2]
    cases h3 : zer b <;> simp
def zd2 (pred : List (List Int)) (tree : List Int) : Nat → List PBlock → Bool
 | _,[] => true
 | i,b :: r => zp7 pred tree i b && zd2 pred tree (i + 1) r
theorem zkz (pred : List (List Int)) (tree : List Int) : ∀ (l : List PBlock) (i : Nat),(zg4 pred tree i l).isNone = zd2 pred tree i l
 | [],_ => rfl
 | b :: r,i => by
   have h:=zyX pred tree i b
   simp only [zg4,zd2]
   cases e : zD9 pred tree i b with
   | some G =>
     rw [e] at h
     simp only [yw] at h
     simp [← h]
   | none =>
     rw [e] at h
     simp only [yx] at h
     rw [← h,yB]
     exact zkz pred tree r (i + 1)
section
variable (f : PFunc) (hf : okF f) (level : Int) (dd : C) (hdd : dd = .f (.lit (.map none))) (pred : List (List Int)) (hpl : pred.length = f.blocks.length) (hpp : ∀ l ∈ pred,l.length ≤ 4294967296) (tree : List Int) (htl : tree.length ≤ 4294967296) (x y : C) (hx : ∃ a,x = .f a) (hy : ∃ a,y = .f a)
abbrev znZ (f : PFunc) (level : Int) (pred : List (List Int)) (tree : List Int) : zd:=[O0 f,zxE f level (.f (.sl ((zl f).map rl))) (.f (.sl (pred.map rl))) (.f (eI tree)) (.f (.lit (.map none))),O2,.cells 0 2 [[.f (.sl ((zl f).map rl)),.f (.sl (pred.map rl))]]]
include hf hpl hpp htl
theorem zBq (b : PBlock) (hb : okB b) (i : Nat) (hi : i < f.blocks.length) : ∀ (d k : Nat) (a1 a3 a6 a7 a11 a12 a16 a17 a18 : V),b.phis.length - k = d → k ≤ b.phis.length →
  exec T zbB ⟨[.one (.ptr 1 0 0 0),a1,.one (.ptr 3 0 0 0),a3,vI i,.one (.ptr 4 0 0 0),a6,a7,vL (f.blocks.map rb),vI f.blocks.length,vI i,a11,a12,vL (b.phis.map rp),vI b.phis.length,vI k,a16,a17,a18],znZ f level pred tree ++ [.cells 0 5 [zq b]],3,3⟩ =
   some (match (b.phis.drop k).find? (fun p => !zhQ (pred.getD i []) p) with
    | none => (.exit 2,⟨[.one (.ptr 1 0 0 0),vU,.one (.ptr 3 0 0 0),vU,vU,.one (.ptr 4 0 0 0),vU,vU,vL (f.blocks.map rb),vI f.blocks.length,vI i,vU,vU,vU,vU,vU,vU,vU,vU],znZ f level pred tree ++ [.cells 0 5 [zq b]],3,3⟩)
    | some p => (.ret,⟨[vU,vI 5,vU,vU,vU,vU,vU,vU,vU,vU,vU,vU,vU,vU,vU,vU,vU,vU,vU],znZ f level pred tree ++ [.cells 0 5 [zq b],.cells 0 4 [zub p]],3,3⟩)):=by
 intro d
 induction d with
 | zero =>
   intro k a1 a3 a6 a7 a11 a12 a16 a17 a18 h1 h2
   have hk : k = b.phis.length:=by omega
   subst hk
   rw [xl zbB rfl,zdH]
   simp -implicitDefEqProofs only [go_sem,znZ,yg,yo,List.find?_nil]
 | succ d ih =>
   intro k a1 a3 a6 a7 a11 a12 a16 a17 a18 h1 h2
   have hk : k < b.phis.length:=by omega
   have hd : b.phis.drop k = b.phis[k] :: b.phis.drop (k + 1):=yf hk
   have hi2 : i < pred.length:=by omega
   have hg : pred.getD i [] = pred[i]:=by simp [hi2]
   have he:=zkK b.phis[k].src pred[i] [] (hb.phi _ (yi hk)).1
   rw [xl zbB rfl,zdH,hd,List.find?_cons,hg]
   rw [hg] at ih
   by_cases c1 : b.phis[k].src = pred[i]
   ·by_cases c2 : b.phis[k].args.length = b.phis[k].src.length
    ·have c2' : ((b.phis[k].args.length : Int) = (b.phis[k].src.length : Int)) = True:=by simp [c2]
     have:=ih (k + 1) vU vU vU vU vU vU vU vU vU (by omega) (by omega)
     simp -implicitDefEqProofs only [go_sem,znZ,eq_true c1] at he this
     simp -implicitDefEqProofs only [go_sem,znZ,ilt hk,zp hk,zp hi2,rp,rl,he,eq_true c1,c2',eq_true c2,zhQ,za hk hb.phis,this]
    ·have c2' : ¬ (b.phis[k].args.length : Int) = (b.phis[k].src.length : Int):=by omega
     simp -implicitDefEqProofs only [go_sem,znZ,eq_true c1] at he
     simp -implicitDefEqProofs only [go_sem,znZ,ilt hk,zp hk,zp hi2,rp,rl,he,eq_true c1,c2',c2,zhQ]
   ·simp -implicitDefEqProofs only [go_sem,znZ,c1] at he
    simp -implicitDefEqProofs only [go_sem,znZ,ilt hk,zp hk,zp hi2,rp,rl,he,c1,zhQ]
theorem zCi : ∀ (d k : Nat) (a1 a3 a4 a5 a6 a7 a11 a12 a13 a14 a15 a16 a17 a18 : V),f.blocks.length - k = d → k ≤ f.blocks.length →
  exec T zbL ⟨[.one (.ptr 1 0 0 0),a1,.one (.ptr 3 0 0 0),a3,a4,a5,a6,a7,vL (f.blocks.map rb),vI f.blocks.length,vI k,a11,a12,a13,a14,a15,a16,a17,a18],znZ f level pred tree,3,3⟩ =
   some (match zg4 pred tree k (f.blocks.drop k) with
    | none => (.exit 0,⟨[vU,vU,vU,vU,vU,vU,vU,vU,vU,vU,vU,vU,vU,vU,vU,vU,vU,vU,vU],znZ f level pred tree,3,3⟩)
    | some G => (.ret,⟨[vU,vI 5,vU,vU,vU,vU,vU,vU,vU,vU,vU,vU,vU,vU,vU,vU,vU,vU,vU],znZ f level pred tree ++ G,3,3⟩)):=by
 intro d
 induction d with
 | zero =>
   intro k a1 a3 a4 a5 a6 a7 a11 a12 a13 a14 a15 a16 a17 a18 h1 h2
   have hk : k = f.blocks.length:=by omega
   subst hk
   rw [xl zbL rfl,zdv]
   simp -implicitDefEqProofs only [go_sem,znZ,yg,yo,zg4]
 | succ d ih =>
   intro k a1 a3 a4 a5 a6 a7 a11 a12 a13 a14 a15 a16 a17 a18 h1 h2
   have hk : k < f.blocks.length:=by omega
   have hd : f.blocks.drop k = f.blocks[k] :: f.blocks.drop (k + 1):=yf hk
   have hb:=hf.block _ (yi hk)
   have ho:=zoS tree k k htl
   have h0:=fun a1 a3 a6 a7 a11 a12 a16 a17 a18 => zBq f hf level pred hpl hpp tree htl f.blocks[k] hb k hk f.blocks[k].phis.length 0 a1 a3 a6 a7 a11 a12 a16 a17 a18 (by omega) (by omega)
   simp only [ys,yh] at h0
   rw [xl zbL rfl,zdv,hd,zg4,zD9]
   cases e1 : zky tree k k
   ·simp -implicitDefEqProofs only [go_sem,e1] at ho
    simp -implicitDefEqProofs only [go_sem,znZ,ilt hk,zp hk,rb,ho]
   ·cases e2 : f.blocks[k].phis.find? (fun p => !zhQ (pred.getD k []) p) with
    | some p =>
      simp -implicitDefEqProofs only [go_sem,znZ,e1,e2] at ho h0
      simp -implicitDefEqProofs only [go_sem,znZ,ilt hk,zp hk,rb,ho,h0]
    | none =>
      have:=ih (k + 1) vU vU vU vU vU vU vU vU vU vU vU vU vU vU (by omega) (by omega)
      simp -implicitDefEqProofs only [go_sem,znZ,e1,e2] at ho h0 this
      by_cases k1 : f.blocks[k].kind = 1
      ·by_cases k3 : f.blocks[k].arg = 0
       ·simp -implicitDefEqProofs only [go_sem,znZ,ilt hk,zp hk,rb,ho,h0,zer,eq_true k1,eq_true k3,za hk hf.blocks,this]
       ·simp -implicitDefEqProofs only [go_sem,znZ,ilt hk,zp hk,rb,ho,h0,zer,eq_true k1,k3]
      ·by_cases k2 : f.blocks[k].kind = 3
       ·by_cases k3 : f.blocks[k].arg = 0
        ·simp -implicitDefEqProofs only [go_sem,znZ,ilt hk,zp hk,rb,ho,h0,zer,k1,eq_true k2,eq_true k3,za hk hf.blocks,this]
        ·simp -implicitDefEqProofs only [go_sem,znZ,ilt hk,zp hk,rb,ho,h0,zer,k1,eq_true k2,k3]
       ·simp -implicitDefEqProofs only [go_sem,znZ,ilt hk,zp hk,rb,ho,h0,zer,k1,k2,za hk hf.blocks,this]
end
theorem zFY (n : Nat) : (n + 1 + 1 + 1 + 1 ≤ 3) = False:=by simp
theorem zp1 (f : PFunc) (hf : okF f) (level : Int) (hg : zat f = false) : call T 159 [.one (.ptr 1 0 0 0)] [O0 f,zxE f level (.f (.sl [])) (.f (.sl [])) (.f (.sl [])) (.f (.lit (.map none))),O2] = some (vI 5,[O0 f,zxE f level (.f (.sl [])) (.f (.sl [])) (.f (.sl [])) (.f (.lit (.map none))),O2]):=by
 rw [ze (fn:=zao) rfl]
 have h:=zlG f hf
 simp -implicitDefEqProofs only [go_sem,zgo,hg] at h
 simp -implicitDefEqProofs only [go_sem,zao,h]
def zg7 (f : PFunc) (tree : List Int) : Bool:=zat f && zd2 (zM (zl f)) tree 0 f.blocks
theorem zjm (succ : List (List Int)) (hs : zjo succ) (ht : (succ.map yA).sum ≤ 4294967296) : ∀ l ∈ zM succ,l.length ≤ 4294967296:=by
 have h : ∀ (l : List (List Int)) (i : Nat) (out : List (List Int)) (B : Nat),(∀ y ∈ out,y.length ≤ B) → ∀ y ∈ za9 i l out,y.length ≤ B + (l.map yA).sum:=by
  intro l
  induction l with
  | nil => intro i out B h y hy; exact h y hy
  | cons x r ih =>
    intro i out B h y hy
    have:=ih (i + 1) (x.foldl (ztG i) out) (B + x.length) (zsl _ _ _ _ h) y hy
    simp only [List.map_cons,List.sum_cons]
    omega
 intro l hl
 have:=h succ 0 (yj succ.length []) 0 (fun y hy => by rw [(List.mem_replicate.1 hy).2]; simp) l hl
 omega
theorem zfl {f : PFunc} (h : zat f = true) : zbk (zl f) = true:=by
 simp only [zat,yy] at h
 exact h.2.2
theorem zrt (f : PFunc) (hf : okF f) (level : Int) (hg : zat f = true) (tree : List Int) (htl : tree.length ≤ 4294967296)
  (hT : call T 195 [.agg [.f (.sl ((zl f).map rl)),.f (.sl ((zM (zl f)).map rl))],vI 0] [] = some (vIs tree,[])) :
  call T 159 [.one (.ptr 1 0 0 0)] [O0 f,zxE f level (.f (.sl [])) (.f (.sl [])) (.f (.sl [])) (.f (.lit (.map none))),O2] =
   some (vI (if zd2 (zM (zl f)) tree 0 f.blocks = true then 0 else 5),[O0 f,zxE f level (.f (.sl ((zl f).map rl))) (.f (.sl ((zM (zl f)).map rl))) (.f (eI tree)) (.f (.lit (.map none))),O2]):=by
 rw [ze (fn:=zao) rfl]
 have h:=zlG f hf
 have hl:=fun a1 a3 a4 a5 a6 a7 a11 a12 a13 a14 a15 a16 a17 a18 => zCi f hf level (zM (zl f)) (by rw [zb0]; simp [zl]) (zjm _ (zh4 hf) (zgG (zfl hg))) tree htl f.blocks.length 0 a1 a3 a4 a5 a6 a7 a11 a12 a13 a14 a15 a16 a17 a18 (by omega) (by omega)
 simp only [ys,yh] at hl
 have hn:=zkz (zM (zl f)) tree f.blocks 0
 simp -implicitDefEqProofs only [go_sem,zgo,hg] at h hT
 cases e : zg4 (zM (zl f)) tree 0 f.blocks with
 | none =>
   rw [e] at hn
   simp only [yx] at hn
   simp -implicitDefEqProofs only [go_sem,znZ,e] at hl
   simp -implicitDefEqProofs only [go_sem,zao,h,hT,hl,← hn]
 | some G =>
   rw [e] at hn
   simp only [yw] at hn
   simp -implicitDefEqProofs only [go_sem,znZ,e] at hl
   simp -implicitDefEqProofs only [go_sem,zao,h,hT,hl,← hn,zFY]
end AC
namespace AC
open Go Go.A Go.A.Lex
section
variable (succ pred : List (List Int)) (hn : succ.length ≤ 64) (hp : pred.length ≤ 64) (hl : ∀ l ∈ succ,l.length ≤ 4294967296) (hlp : ∀ l ∈ pred,l.length ≤ 4294967296)
abbrev s62 : zd:=[.cells 0 2 [[.f (.sl (succ.map rl)),.f (.sl (pred.map rl))]],.cells 0 2 [[.f (.sl (succ.map rl)),.f (.sl (pred.map rl))]]]
include hn hp hl hlp
theorem zCl : ∀ (d k : Nat) (a0 a1 a4 a6 a7 a8 a9 a10 a11 : V),succ.length - k = d → k ≤ succ.length →
  exec T zb4 ⟨[a0,a1,.one (.ptr 0 0 0 0),.one (.ptr 1 0 0 0),a4,vI k,a6,a7,a8,a9,a10,a11],s62 succ pred,0,0⟩ = some (.exit 0,⟨[vU,vU,.one (.ptr 0 0 0 0),.one (.ptr 1 0 0 0),vU,vU,vU,vU,vU,vU,vU,vU],s62 succ pred,0,0⟩):=by
 intro d
 induction d with
 | zero =>
   intro k a0 a1 a4 a6 a7 a8 a9 a10 a11 h1 h2
   have hk : k = succ.length:=by omega
   subst hk
   rw [xl zb4 rfl,zdT]
   simp -implicitDefEqProofs only [go_sem,s62,yg,yb]
 | succ d ih =>
   intro k a0 a1 a4 a6 a7 a8 a9 a10 a11 h1 h2
   have hk : k < succ.length:=by omega
   have hI:=zjV succ[k] succ[k] (hl _ (yi hk))
   have:=ih (k + 1) vU vU vU vU vU vU vU vU vU (by omega) (by omega)
   rw [xl zb4 rfl,zdT]
   simp -implicitDefEqProofs only [go_sem] at hI
   simp -implicitDefEqProofs only [go_sem,s62] at this
   simp -implicitDefEqProofs only [go_sem,s62,ilt hk,zp hk,rl,yb,hI,za hk (show succ.length ≤ 4294967296 by omega),this]
theorem zBA : ∀ (d k : Nat) (a0 a1 a4 a5 a7 a8 a9 a10 a11 : V),pred.length - k = d → k ≤ pred.length →
  exec T zb7 ⟨[a0,a1,.one (.ptr 0 0 0 0),.one (.ptr 1 0 0 0),a4,a5,vI k,a7,a8,a9,a10,a11],s62 succ pred,0,0⟩ = some (.exit 2,⟨[vU,vU,vU,vU,vU,vU,vU,vU,vU,vU,vU,vU],s62 succ pred,0,0⟩):=by
 intro d
 induction d with
 | zero =>
   intro k a0 a1 a4 a5 a7 a8 a9 a10 a11 h1 h2
   have hk : k = pred.length:=by omega
   subst hk
   rw [xl zb7 rfl,zdY]
   simp -implicitDefEqProofs only [go_sem,s62,yg,yb]
 | succ d ih =>
   intro k a0 a1 a4 a5 a7 a8 a9 a10 a11 h1 h2
   have hk : k < pred.length:=by omega
   have hI:=zjV pred[k] pred[k] (hlp _ (yi hk))
   have:=ih (k + 1) vU vU vU vU vU vU vU vU vU (by omega) (by omega)
   rw [xl zb7 rfl,zdY]
   simp -implicitDefEqProofs only [go_sem] at hI
   simp -implicitDefEqProofs only [go_sem,s62] at this
   simp -implicitDefEqProofs only [go_sem,s62,ilt hk,zp hk,rl,yb,hI,za hk (show pred.length ≤ 4294967296 by omega),this]
theorem ztW : call T 173 [.agg [.f (.sl (succ.map rl)),.f (.sl (pred.map rl))],.agg [.f (.sl (succ.map rl)),.f (.sl (pred.map rl))]] [] = some (vB true,[]):=by
 rw [ze (fn:=zeO) rfl]
 have h0:=fun a0 a1 a4 a6 a7 a8 a9 a10 a11 => zCl succ pred hn hp hl hlp succ.length 0 a0 a1 a4 a6 a7 a8 a9 a10 a11 (by omega) (by omega)
 have h1:=fun a0 a1 a4 a5 a7 a8 a9 a10 a11 => zBA succ pred hn hp hl hlp pred.length 0 a0 a1 a4 a5 a7 a8 a9 a10 a11 (by omega) (by omega)
 simp only [yh] at h0 h1
 simp -implicitDefEqProofs only [go_sem,s62] at h0 h1
 simp -implicitDefEqProofs only [go_sem,zeO,yb,h0,h1]
end
theorem zzx (succ : List (List Int)) (hs : zjo succ) (hm : zbk succ = true) : call T 130 [.agg [.f (.sl (succ.map rl)),.f (.sl ((zM succ).map rl))]] [] = some (vB true,[]):=by
 rw [ze (fn:=zfc) rfl]
 obtain ⟨q1,q2,q3⟩:=zf5 hm
 have hM:=znH succ hs
 have hS:=ztW succ (zM succ) q2 (by rw [zb0]; exact q2) hs.2 (zjm succ hs (zgG hm))
 simp -implicitDefEqProofs only [go_sem,zjJ,hm] at hM
 simp -implicitDefEqProofs only [go_sem] at hS
 simp -implicitDefEqProofs only [go_sem,zfc,hM,hS]
section
variable (succ : List (List Int)) (root : Int)
def ovB (c b : Nat) : Bool:=(zdn succ root (-1)).getD b false && !(zdn succ root (c : Int)).getD b false
def znS (c : Nat) : List Bool:=(yt succ.length).map fun b => ovB succ root c b
def zf3 (c k : Nat) : List Bool:=(yt succ.length).map fun b => if b < k then ovB succ root c b else false
def ze3 (b a : Nat) : Nat → Nat → Bool
 | _,0 => true
 | k,d + 1 => (decide (k = b) || (!ovB succ root k b || ovB succ root k a)) && ze3 b a (k + 1) d
def zfW (b : Nat) : Nat → Nat → Int → Int
 | _,0,v => v
 | k,d + 1,v => zfW b (k + 1) d (if (!decide (k = b) && (ovB succ root k b && ze3 succ root b k 0 succ.length)) = true then (k : Int) else v)
def zrQ (b : Nat) : Int:=if (b : Int) = root then -1 else zfW succ root b 0 succ.length (-2)
def zgm (k : Nat) : List Int:=(yt succ.length).map fun b => if b < k then zrQ succ root b else 0
def zeZ : List Int:=(yt succ.length).map fun b => zrQ succ root b
theorem zjP (c : Nat) : (znS succ root c).length = succ.length:=by simp [znS]
theorem zeB (c k : Nat) : (zf3 succ root c k).length = succ.length:=by simp [zf3]
theorem ziG (w : Int) : (zdn succ root w).length = succ.length:=by
 unfold zdn
 split
 ·simp
 ·rw [zgy]; simp
theorem zta (c b : Nat) (h : b < succ.length) : (znS succ root c)[b]? = some (ovB succ root c b):=by simp [znS,h]
theorem zh0 (c k b : Nat) (h : b < succ.length) : (zf3 succ root c k)[b]? = some (if b < k then ovB succ root c b else false):=by simp [zf3,h]
theorem ztY (c : Nat) : zf3 succ root c 0 = yj succ.length false:=by
 apply ye
 intro j
 by_cases h : j < succ.length
 ·rw [zh0 succ root c 0 j h]; simp [h]
 ·rw [ya (by rw [zeB]; omega),ya (by simp; omega)]
theorem zxu (c : Nat) : zf3 succ root c succ.length = znS succ root c:=by
 apply ye
 intro j
 by_cases h : j < succ.length
 ·rw [zh0 succ root c _ j h,zta succ root c j h,if_pos h]
 ·rw [ya (by rw [zeB]; omega),ya (by rw [zjP]; omega)]
theorem zwf (c k : Nat) (h : k < succ.length) : (zf3 succ root c k).set k (ovB succ root c k) = zf3 succ root c (k + 1):=by
 apply ye
 intro j
 by_cases c' : j < succ.length
 ·rw [zh0 succ root c (k + 1) j c']
  by_cases e : k = j
  ·subst e
   rw [ym (by rw [zeB]; exact h),if_pos (by omega)]
  ·rw [yn e,zh0 succ root c k j c']
   by_cases f : j < k
   ·rw [if_pos f,if_pos (by omega)]
   ·rw [if_neg f,if_neg (by omega)]
 ·rw [ya (by rw [yu,zeB]; omega),ya (by rw [zeB]; omega)]
theorem zf8 (k : Nat) : (zgm succ root k).length = succ.length:=by simp [zgm]
theorem zms (k b : Nat) (h : b < succ.length) : (zgm succ root k)[b]? = some (if b < k then zrQ succ root b else 0):=by simp [zgm,h]
theorem zzu (k : Nat) (h : k < succ.length) : (zgm succ root k).set k (zrQ succ root k) = zgm succ root (k + 1):=by
 apply ye
 intro j
 by_cases c' : j < succ.length
 ·rw [zms succ root (k + 1) j c']
  by_cases e : k = j
  ·subst e
   rw [ym (by rw [zf8]; exact h),if_pos (by omega)]
  ·rw [yn e,zms succ root k j c']
   by_cases f : j < k
   ·rw [if_pos f,if_pos (by omega)]
   ·rw [if_neg f,if_neg (by omega)]
 ·rw [ya (by rw [yu,zf8]; omega),ya (by rw [zf8]; omega)]
theorem zwz : zgm succ root 0 = yj succ.length 0:=by
 apply ye
 intro j
 by_cases h : j < succ.length
 ·rw [zms succ root 0 j h]; simp [h]
 ·rw [ya (by rw [zf8]; omega),ya (by simp; omega)]
theorem zz7 : zgm succ root succ.length = zeZ succ root:=by
 unfold zgm zeZ
 apply List.map_congr_left
 intro b hb
 rw [if_pos (List.mem_range.1 hb)]
def zmC (n k : Nat) : List (List C):=(yt n).map fun a => if a < k then [.own (a + 1 + 1) 0 0 n] else [.f (.sl [])]
theorem zhr (n k : Nat) : (zmC n k).length = n:=by simp [zmC]
theorem zhb (n k a : Nat) (h : a < n) (hk : a < k) : (zmC n k)[a]? = some [.own (a + 1 + 1) 0 0 n]:=by simp [zmC,h,hk]
theorem zzN (n k a : Nat) (h : a < n) : ∃ c,(zmC n k)[a]? = some [c]:=by
 by_cases hk : a < k
 ·exact ⟨_,zhb n k a h hk⟩
 ·exact ⟨.f (.sl []),by simp [zmC,h,hk]⟩
theorem zzl (n k : Nat) (h : k < n) : (zmC n k).set k [.own (k + 1 + 1) 0 0 n] = zmC n (k + 1):=by
 apply ye
 intro j
 by_cases c' : j < n
 ·by_cases e : k = j
  ·subst e
   rw [ym (by rw [zhr]; exact h),zhb n _ _ c' (by omega)]
  ·rw [yn e]
   by_cases f : j < k
   ·rw [zhb n k j c' f,zhb n (k + 1) j c' (by omega)]
   ·simp [zmC,c',f,show ¬ j < k + 1 by omega]
 ·rw [ya (by rw [yu,zhr]; omega),ya (by rw [zhr]; omega)]
theorem zw8 (n : Nat) : zmC n 0 = yj n [.f (.sl [])]:=by
 apply ye
 intro j
 by_cases h : j < n
 ·simp [zmC,h]
 ·rw [ya (by rw [zhr]; omega),ya (by simp; omega)]
def zeT (k : Nat) : zd:=(yt k).map fun c => .cells 0 1 ((znS succ root c).map zfD)
theorem zaH (k : Nat) : (zeT succ root k).length = k:=by simp [zeT]
theorem ztZ (k : Nat) : zeT succ root k ++ [.cells 0 1 ((znS succ root k).map zfD)] = zeT succ root (k + 1):=by
 unfold zeT
 rw [List.range_succ,List.map_append]
 rfl
theorem zwm (k c : Nat) (h : c < k) : (zeT succ root k)[c]? = some (.cells 0 1 ((znS succ root c).map zfD)):=by simp [zeT,h]
end
end AC
namespace AC
open Go Go.A Go.A.Lex
section
variable (succ pred : List (List Int)) (root : Int) (hn1 : 1 ≤ succ.length) (hn : succ.length ≤ 64) (hl : ∀ l ∈ succ,l.length ≤ 4294967296) (hr : ∀ l ∈ succ,∀ y ∈ l,0 ≤ y ∧ y < (succ.length : Int)) (h0 : 0 ≤ root ∧ root < (succ.length : Int))
abbrev sT7 (k a : Nat) (r : zd) : zd:=zqd succ pred :: .cells 0 1 (zmC succ.length k) :: (zeT succ root a ++ r)
theorem zDz {l : List Bool} {k : Nat} (h : k < l.length) : (l.map rbo)[k]? = some [.lit (.bool (l.getD k false))]:=by simp [h,rbo]
theorem ovl (k m : Nat) (h : k ≤ m) : (yA (zeT succ root k) ≤ m) = True:=by rw [zaH]; simp [h]
include hn hl hr h0
theorem zBm (a : Nat) (ha : a < succ.length) : ∀ (d k : Nat) (a0 a3 a10 a11 a12 a13 a14 a15 a16 a17 a18 a19 a20 a21 a22 a23 : V),succ.length - k = d → k ≤ succ.length →
  exec T zcl ⟨[a0,vI root,.one (.ptr 0 0 0 0),a3,vI succ.length,vBs (zdn succ root (-1)),.one (.own 1 0 0 succ.length),vI a,vBs (zdn succ root a),vI k,a10,a11,a12,a13,a14,a15,a16,a17,a18,a19,a20,a21,a22,a23],sT7 succ pred root (a + 1) a [.cells 0 1 ((zf3 succ root a k).map zfD)],0,0⟩ =
   some (.exit 2,⟨[vU,vI root,.one (.ptr 0 0 0 0),vU,vI succ.length,vBs (zdn succ root (-1)),.one (.own 1 0 0 succ.length),vI a,vU,vU,vU,vU,vU,vU,vU,vU,vU,vU,vU,vU,vU,vU,vU,vU],sT7 succ pred root (a + 1) (a + 1) [],0,0⟩):=by
 intro d
 induction d with
 | zero =>
   intro k a0 a3 a10 a11 a12 a13 a14 a15 a16 a17 a18 a19 a20 a21 a22 a23 h1 h2
   have hk : k = succ.length:=by omega
   subst hk
   have e:=ztZ succ root a
   rw [← zxu] at e
   rw [xl zcl rfl,zdV]
   have d1:=ovl succ root (a + 1) 999998 (by omega)
   simp -implicitDefEqProofs only [go_sem,sT7,yg,e,yp,d1]
 | succ d ih =>
   intro k a0 a3 a10 a11 a12 a13 a14 a15 a16 a17 a18 a19 a20 a21 a22 a23 h1 h2
   have hk : k < succ.length:=by omega
   have gR:=zDz (l:=zdn succ root (-1)) (k:=k) (by rw [ziG]; exact hk)
   have gW:=zDz (l:=zdn succ root (a : Int)) (k:=k) (by rw [ziG]; exact hk)
   have go:=zhb succ.length (a + 1) a ha (by omega)
   have gl : (zeT succ root a ++ [Ob.cells 0 1 ((zf3 succ root a k).map zfD)])[a]? = some (.cells 0 1 ((zf3 succ root a k).map zfD)):=by
    rw [List.getElem?_append_right (by rw [zaH]; omega),zaH,Nat.sub_self]
    rfl
   have sl : ∀ o,(zeT succ root a ++ [Ob.cells 0 1 ((zf3 succ root a k).map zfD)]).set a o = zeT succ root a ++ [o]:=fun o => by
    have:=zr3 (zeT succ root a) [] (Ob.cells 0 1 ((zf3 succ root a k).map zfD)) o
    rwa [zaH] at this
   have gk : ((zf3 succ root a k).map zfD)[k]? = some [.f (.lit (.bool false))]:=by
    rw [List.getElem?_map,zh0 succ root a k k hk,if_neg (by omega)]
    rfl
   have hset : ((zf3 succ root a k).map zfD).set k [C.f (.lit (.bool (ovB succ root a k)))] = (zf3 succ root a (k + 1)).map zfD:=by
    rw [← zwf succ root a k hk,List.map_set]
    rfl
   have hlk : (zf3 succ root a k).length = succ.length:=zeB succ root a k
   have hia : ((a : Int) < (succ.length : Int)) = True:=by simp; omega
   have hik : ((k : Int) < (succ.length : Int)) = True:=by simp; omega
   have:=ih (k + 1) vU vU vU vU vU vU vU vU vU vU vU vU vU vU vU vU (by omega) (by omega)
   have d1:=ovl succ root a 999997 (by omega)
   rw [xl zcl rfl,zdV]
   simp -implicitDefEqProofs only [go_sem,sT7] at this
   cases c : (zdn succ root (-1)).getD k false
   ·have e : ovB succ root a k = false:=by unfold ovB; rw [c]; rfl
    rw [c] at gR
    rw [e] at hset
    simp -implicitDefEqProofs only [go_sem,sT7,zqd,ilt hk,hia,hik,gR,go,gl,sl,gk,hset,yk,yl,yq,yc,yd,yb,d1,za hk (show succ.length ≤ 4294967296 by omega),this]
   ·have e : ovB succ root a k = !(zdn succ root (a : Int)).getD k false:=by unfold ovB; rw [c]; rfl
    rw [c] at gR
    rw [e] at hset
    simp -implicitDefEqProofs only [go_sem,sT7,zqd,ilt hk,hia,hik,gR,gW,go,gl,sl,gk,hset,yk,yl,yq,yc,yd,yb,d1,za hk (show succ.length ≤ 4294967296 by omega),this]
theorem zA8 : ∀ (d k : Nat) (a0 a3 a8 a9 a10 a11 a12 a13 a14 a15 a16 a17 a18 a19 a20 a21 a22 a23 : V),succ.length - k = d → k ≤ succ.length →
  exec T zck ⟨[a0,vI root,.one (.ptr 0 0 0 0),a3,vI succ.length,vBs (zdn succ root (-1)),.one (.own 1 0 0 succ.length),vI k,a8,a9,a10,a11,a12,a13,a14,a15,a16,a17,a18,a19,a20,a21,a22,a23],sT7 succ pred root k k [],0,0⟩ =
   some (.exit 0,⟨[vU,vI root,vU,vU,vI succ.length,vU,.one (.own 1 0 0 succ.length),vU,vU,vU,vU,vU,vU,vU,vU,vU,vU,vU,vU,vU,vU,vU,vU,vU],sT7 succ pred root succ.length succ.length [],0,0⟩):=by
 intro d
 induction d with
 | zero =>
   intro k a0 a3 a8 a9 a10 a11 a12 a13 a14 a15 a16 a17 a18 a19 a20 a21 a22 a23 h1 h2
   have hk : k = succ.length:=by omega
   subst hk
   rw [xl zck rfl,zed]
   have d1:=ovl succ root succ.length 999998 (by omega)
   simp -implicitDefEqProofs only [go_sem,sT7,yg,yp,d1]
 | succ d ih =>
   intro k a0 a3 a8 a9 a10 a11 a12 a13 a14 a15 a16 a17 a18 a19 a20 a21 a22 a23 h1 h2
   have hk : k < succ.length:=by omega
   have hR:=zmF succ pred (by omega) hl hr (k : Int) root h0
   have hL:=fun a0 a3 a10 a11 a12 a13 a14 a15 a16 a17 a18 a19 a20 a21 a22 a23 => zBm succ pred root hn hl hr h0 k hk succ.length 0 a0 a3 a10 a11 a12 a13 a14 a15 a16 a17 a18 a19 a20 a21 a22 a23 (by omega) (by omega)
   simp only [yh,ztY] at hL
   have:=ih (k + 1) vU vU vU vU vU vU vU vU vU vU vU vU vU vU vU vU vU vU (by omega) (by omega)
   obtain ⟨c0,hc0⟩:=zzN succ.length k k hk
   have hset:=zzl succ.length k hk
   have hz : yj succ.length [C.f (.lit (.bool false))] = (yj succ.length false).map zfD:=by rw [List.map_replicate]; rfl
   have hlim : (succ.length : Int) ≤ (LIM : Int):=by unfold LIM; omega
   have d1:=ovl succ root (k + 1) 999998 (by omega)
   have hlen : (zeT succ root k).length = k:=zaH succ root k
   rw [xl zck rfl,zed]
   simp -implicitDefEqProofs only [go_sem] at hR
   simp -implicitDefEqProofs only [go_sem,sT7,yp] at hL this
   simp -implicitDefEqProofs only [go_sem,sT7,zqd,ilt hk,hlim,hz,hc0,hset,hlen,yp,List.cons_append,List.length_cons,yk,yl,yq,List.set_cons_zero,yc,yd,yb,hR,hL,d1,za hk (show succ.length ≤ 4294967296 by omega),this]
end
end AC
namespace AC
open Go Go.A Go.A.Lex
section
variable (f : PFunc) (hf : okF f) (succ pred : List (List Int)) (hpl : pred.length = f.blocks.length) (hpe : ∀ l ∈ pred,l.length ≤ 4294967296) (reach : List Bool) (hrl : reach.length = f.blocks.length)
abbrev znF (r : zd) : zd:=.cells 0 3 [zcJ f] :: .cells 0 2 [[.f (.sl (succ.map rl)),.f (.sl (pred.map rl))]] :: r
include hf hpl hpe hrl
theorem zxc (b : PBlock) (hb : okB b) (i : Nat) (hi : i < f.blocks.length) : ∀ (d k : Nat) (a0 a2 a4 a9 a10 a11 a12 a13 : V),b.phis.length - k = d → k ≤ b.phis.length →
  exec T zbG ⟨[a0,.one (.ptr 0 0 0 0),a2,.one (.ptr 1 0 0 0),a4,.one (.f (.sl (reach.map rbo))),vI i,.one (.ptr 2 0 0 0),vI k,a9,a10,a11,a12,a13],znF f succ pred [.cells 0 5 [zq b]],0,0⟩ =
   some (if (b.phis.drop k).all (zhQ (pred.getD i [])) = true then (.exit 2,⟨[vU,.one (.ptr 0 0 0 0),vU,.one (.ptr 1 0 0 0),vU,.one (.f (.sl (reach.map rbo))),vI i,vU,vU,vU,vU,vU,vU,vU],znF f succ pred [.cells 0 5 [zq b]],0,0⟩)
    else (.ret,⟨[vU,vU,vB false,vU,vU,vU,vU,vU,vU,vU,vU,vU,vU,vU],znF f succ pred [.cells 0 5 [zq b]],0,0⟩)):=by
 intro d
 induction d with
 | zero =>
   intro k a0 a2 a4 a9 a10 a11 a12 a13 h1 h2
   have hk : k = b.phis.length:=by omega
   subst hk
   rw [xl zbG rfl,zdw]
   simp -implicitDefEqProofs only [go_sem,znF,yg,yb,yo,List.all_nil]
 | succ d ih =>
   intro k a0 a2 a4 a9 a10 a11 a12 a13 h1 h2
   have hk : k < b.phis.length:=by omega
   have hd : b.phis.drop k = b.phis[k] :: b.phis.drop (k + 1):=yf hk
   have hip : i < pred.length:=by omega
   have hg : pred.getD i [] = pred[i]:=by rw [List.getD_eq_getElem?_getD,List.getElem?_eq_getElem hip]; rfl
   have hp:=hb.phi _ (yi hk)
   have hI:=zjV b.phis[k].src pred[i] hp.1
   have:=ih (k + 1) vU vU vU vU vU vU vU vU (by omega) (by omega)
   rw [xl zbG rfl,zdw,hd,List.all_cons]
   rw [hg] at this ⊢
   simp -implicitDefEqProofs only [go_sem,znF] at this
   by_cases c : b.phis[k].src = pred[i]
   ·by_cases c2 : b.phis[k].args.length = pred[i].length
    ·have e : zhQ pred[i] b.phis[k] = true:=by
      unfold zhQ
      rw [decide_eq_true c,decide_eq_true (by rw [c]; exact c2)]
      rfl
     have c2' : (b.phis[k].args.length : Int) = (pred[i].length : Int):=by omega
     simp -implicitDefEqProofs only [go_sem,decide_eq_true c] at hI
     simp -implicitDefEqProofs only [go_sem,znF,ilt hk,ilt hip,zp hk,zp hip,rp,rl,yb,hI,eq_true c2',e,yc,yd,za hk hb.phis,this]
    ·have e : zhQ pred[i] b.phis[k] = false:=by
      have hne : ¬ b.phis[k].args.length = b.phis[k].src.length:=fun h => c2 (by rw [h,c])
      unfold zhQ
      rw [decide_eq_false hne,Bool.and_false]
     have c2' : ¬ (b.phis[k].args.length : Int) = (pred[i].length : Int):=by omega
     simp -implicitDefEqProofs only [go_sem,decide_eq_true c] at hI
     simp -implicitDefEqProofs only [go_sem,znF,ilt hk,ilt hip,zp hk,zp hip,rp,rl,yb,hI,c2',e,yc,yd]
   ·have e : zhQ pred[i] b.phis[k] = false:=by
     unfold zhQ
     rw [decide_eq_false c]
     rfl
    simp -implicitDefEqProofs only [go_sem,decide_eq_false c] at hI
    simp -implicitDefEqProofs only [go_sem,znF,ilt hk,ilt hip,zp hk,zp hip,rp,rl,yb,hI,e,yc,yd]
def zjb (pred : List (List Int)) (reach : List Bool) (i : Nat) (b : PBlock) : Bool:=reach.getD i false && (zer b && b.phis.all (zhQ (pred.getD i [])))
def zbn (pred : List (List Int)) (reach : List Bool) : Nat → List PBlock → Bool
 | _,[] => true
 | i,b :: r => zjb pred reach i b && zbn pred reach (i + 1) r
theorem zw1 : ∀ (d k : Nat),f.blocks.length - k = d → k ≤ f.blocks.length → ∃ r,∀ (a0 a2 a4 a7 a8 a9 a10 a11 a12 a13 : V),
  exec T zR ⟨[a0,.one (.ptr 0 0 0 0),a2,.one (.ptr 1 0 0 0),a4,.one (.f (.sl (reach.map rbo))),vI k,a7,a8,a9,a10,a11,a12,a13],znF f succ pred [],0,0⟩ =
   some (if zbn pred reach k (f.blocks.drop k) = true then (.exit 0,⟨[vU,vU,vU,vU,vU,vU,vU,vU,vU,vU,vU,vU,vU,vU],znF f succ pred [],0,0⟩)
    else (.ret,⟨[vU,vU,vB false,vU,vU,vU,vU,vU,vU,vU,vU,vU,vU,vU],znF f succ pred r,0,0⟩)):=by
 intro d
 induction d with
 | zero =>
   intro k h1 h2
   have hk : k = f.blocks.length:=by omega
   subst hk
   refine ⟨[],fun a0 a2 a4 a7 a8 a9 a10 a11 a12 a13 => ?_⟩
   rw [xl zR rfl,zah]
   simp -implicitDefEqProofs only [go_sem,znF,yg,yb,yo,zbn]
 | succ d ih =>
   intro k h1 h2
   have hk : k < f.blocks.length:=by omega
   have hd : f.blocks.drop k = f.blocks[k] :: f.blocks.drop (k + 1):=yf hk
   obtain ⟨b,hb'⟩ : ∃ b,b = f.blocks[k]:=⟨_,rfl⟩
   have hb:=hf.block _ (yi hk)
   have gk:=zp (r:=rb) hk
   rw [← hb'] at hb gk
   have gr:=zDz (l:=reach) (k:=k) (by omega)
   have h0:=fun a0 a2 a4 a9 a10 a11 a12 a13 => zxc f hf succ pred hpl hpe reach hrl b hb k hk b.phis.length 0 a0 a2 a4 a9 a10 a11 a12 a13 (by omega) (by omega)
   simp only [yh,ys] at h0
   obtain ⟨r,hr⟩:=ih (k + 1) (by omega) (by omega)
   rw [hd,zbn,← hb',zjb]
   simp -implicitDefEqProofs only [go_sem,znF] at hr
   cases c : reach.getD k false
   ·rw [c] at gr
    refine ⟨[.cells 0 5 [zq b]],fun a0 a2 a4 a7 a8 a9 a10 a11 a12 a13 => ?_⟩
    rw [xl zR rfl,zah]
    simp -implicitDefEqProofs only [go_sem,znF,ilt hk,gk,gr,rb,yb,yc,yd]
   ·rw [c] at gr
    cases e : zer b
    ·refine ⟨[.cells 0 5 [zq b]],fun a0 a2 a4 a7 a8 a9 a10 a11 a12 a13 => ?_⟩
     have e' : (b.kind = 1 ∨ b.kind = 3) ∧ ¬ b.arg = 0:=by
      unfold zer at e
      simp only [yv,yy,yz,decide_eq_true_eq,Bool.not_eq_true',decide_eq_false_iff_not] at e
      exact e
     rw [xl zR rfl,zah]
     by_cases k1 : b.kind = 1
     ·simp -implicitDefEqProofs only [go_sem,znF,ilt hk,gk,gr,rb,yb,yc,yd,eq_true k1,e'.2]
     ·have k3 : b.kind = 3:=e'.1.resolve_left k1
      simp -implicitDefEqProofs only [go_sem,znF,ilt hk,gk,gr,rb,yb,yc,yd,k1,eq_true k3,e'.2]
    ·have e' : ¬ (b.kind = 1 ∨ b.kind = 3) ∨ b.arg = 0:=by
      by_cases z : b.arg = 0
      ·exact .inr z
      ·left
       intro h
       have : zer b = false:=by
        unfold zer
        simp only [decide_eq_false z,Bool.not_false,Bool.and_true,yv,yz,decide_eq_true_eq]
        exact h
       rw [this] at e
       cases e
     cases cp : b.phis.all (zhQ (pred.getD k []))
     ·simp -implicitDefEqProofs only [go_sem,znF,cp,yr] at h0
      refine ⟨[.cells 0 5 [zq b]],fun a0 a2 a4 a7 a8 a9 a10 a11 a12 a13 => ?_⟩
      rw [xl zR rfl,zah]
      by_cases k1 : b.kind = 1
      ·have z : b.arg = 0:=e'.resolve_left fun h => h (.inl k1)
       simp -implicitDefEqProofs only [go_sem,znF,ilt hk,gk,gr,rb,yb,yc,yd,eq_true k1,eq_true z,h0]
      ·by_cases k3 : b.kind = 3
       ·have z : b.arg = 0:=e'.resolve_left fun h => h (.inr k3)
        simp -implicitDefEqProofs only [go_sem,znF,ilt hk,gk,gr,rb,yb,yc,yd,k1,eq_true k3,eq_true z,h0]
       ·simp -implicitDefEqProofs only [go_sem,znF,ilt hk,gk,gr,rb,yb,yc,yd,k1,k3,h0]
     ·simp -implicitDefEqProofs only [go_sem,znF,cp] at h0
      refine ⟨r,fun a0 a2 a4 a7 a8 a9 a10 a11 a12 a13 => ?_⟩
      rw [xl zR rfl,zah]
      by_cases k1 : b.kind = 1
      ·have z : b.arg = 0:=e'.resolve_left fun h => h (.inl k1)
       simp -implicitDefEqProofs only [go_sem,znF,ilt hk,gk,gr,rb,yb,yc,yd,eq_true k1,eq_true z,h0,za hk hf.blocks,hr]
      ·by_cases k3 : b.kind = 3
       ·have z : b.arg = 0:=e'.resolve_left fun h => h (.inr k3)
        simp -implicitDefEqProofs only [go_sem,znF,ilt hk,gk,gr,rb,yb,yc,yd,k1,eq_true k3,eq_true z,h0,za hk hf.blocks,hr]
       ·simp -implicitDefEqProofs only [go_sem,znF,ilt hk,gk,gr,rb,yb,yc,yd,k1,k3,h0,za hk hf.blocks,hr]
end
def zf9 (f : PFunc) : Bool:=zat f && zbn (zM (zl f)) (zdn (zl f) 0 (-1)) 0 f.blocks
theorem zra (f : PFunc) (hf : okF f) : call T 71 [zgS f] [] = some (vB (zf9 f),[]):=by
 rw [ze (fn:=zaL) rfl]
 have hO:=zp6 f hf
 cases c : zat f
 ·simp -implicitDefEqProofs only [go_sem,zgo,c,yr] at hO
  simp -implicitDefEqProofs only [go_sem,zaL,zf9,c,hO]
 ·have hm:=zfl c
  obtain ⟨n1,n64,hr⟩:=zeA hm
  have hsl : (zl f).length = f.blocks.length:=by simp [zl]
  have hs:=zh4 hf
  have hR:=zmF (zl f) (zM (zl f)) (by omega) hs.2 hr (-1) 0 (by omega)
  obtain ⟨r,h⟩:=zw1 f hf (zl f) (zM (zl f)) (by rw [zb0]; exact hsl) (zjm _ hs (zgG hm)) (zdn (zl f) 0 (-1)) (by rw [ziG]; exact hsl) f.blocks.length 0 (by omega) (by omega)
  simp only [yh,ys] at h
  simp -implicitDefEqProofs only [go_sem,zgo,c] at hO
  simp -implicitDefEqProofs only [go_sem] at hR
  cases e : zbn (zM (zl f)) (zdn (zl f) 0 (-1)) 0 f.blocks
  ·simp -implicitDefEqProofs only [go_sem,znF,e,yr] at h
   simp -implicitDefEqProofs only [go_sem,zaL,zf9,c,hO,hR,h,e]
  ·simp -implicitDefEqProofs only [go_sem,znF,e] at h
   simp -implicitDefEqProofs only [go_sem,zaL,zf9,c,hO,hR,h,e]
end AC
