/- A part of the proof of SchedTells. Conditions: none. -/
import Derived.Test.YtmkncmffaaninaaGreatTBB
import Derived.Test.YtmkncmffaaninaaGreatTAZ
set_option linter.all false
open List renaming getElem?_eq_none → ya,length_map → yb,ext_getElem? → ye,drop_eq_getElem_cons → yf,getElem_mem → yi,replicate → yj,getElem?_cons_succ → yk,getElem?_cons_zero → yl,getElem?_set_self → ym,getElem?_set_ne → yn,drop_length → yo,append_nil → yp,set_cons_succ → yq,drop_zero → ys,range → yt,length_set → yu,length → yA
open Int renaming natCast_nonneg → yc,toNat_natCast → yd,lt_irrefl → yg,natCast_zero → yh
open Bool renaming false_eq_true → yr,not_eq_false' → yv,and_eq_true → yy,or_eq_true → yz,true_and → yB
open Option renaming isNone_some → yw,isNone_none → yx
namespace AC
open Go Go.A Go.A.Lex
abbrev O0 (f : PFunc) : Ob:=.cells 0 3 [z6 f]
abbrev cM (g : Nat) : C:=.fn g [.ptr 1 0 0 0] []
abbrev O2 : Ob:=.cells 0 1 [[cM 159],[cM 160],[cM 161],[cM 162],[cM 163]]
def ziH (pi : List Int) (p : PPhi) : Bool:=decide (p.src = pi) && decide (p.args.length = p.src.length)
def ze8 (b : PBlock) : Bool:=!((decide (b.kind = 1) || decide (b.kind = 3)) && !decide (b.arg = 0))
def zsy (pred : List (List Int)) (tree : List Int) (i : Nat) (b : PBlock) : Bool:=zlP tree i i && (b.phis.all (ziH (pred.getD i [])) && ze8 b)
def zGi (pred : List (List Int)) (tree : List Int) (i : Nat) (b : PBlock) : Option (List Ob) :=
 if zlP tree i i = false then some [.cells 0 5 [zg b]] else
 match b.phis.find? fun p => !ziH (pred.getD i []) p with
 | some p => some [.cells 0 5 [zg b],.cells 0 4 [zuh p]]
 | none => if ze8 b = false then some [.cells 0 5 [zg b]] else none
def zhI (pred : List (List Int)) (tree : List Int) : Nat → List PBlock → Option (List Ob)
 | _,[] => none
 | i,b :: r => match zGi pred tree i b with
   | some G => some G
   | none => zhI pred tree (i + 1) r
theorem zB1 (pred : List (List Int)) (tree : List Int) (i : Nat) (b : PBlock) : (zGi pred tree i b).isNone = zsy pred tree i b:=by
 unfold zGi zsy;cases d : zlP tree i i
 ·simp
 ·simp only [Bool.true_eq_false,if_false,yB]
  cases a : b.phis.find? fun p => !ziH (pred.getD i []) p with
  | some p =>
    rw [show b.phis.all (ziH (pred.getD i [])) = false from zfy a];rfl
  | none =>
    rw [zfB a];cases c : ze8 b <;> simp
def zeH (pred : List (List Int)) (tree : List Int) : Nat → List PBlock → Bool
 | _,[] => true
 | i,b :: r => zsy pred tree i b && zeH pred tree (i + 1) r
theorem zlW (pred : List (List Int)) (tree : List Int) : ∀ (l : List PBlock) (i : Nat),(zhI pred tree i l).isNone = zeH pred tree i l
 | [],_ => rfl
 | b :: r,i => by
   have h:=zB1 pred tree i b;simp only [zhI,zeH]
   cases e : zGi pred tree i b with
   | some G =>
     rw [e] at h;simp only [yw] at h;simp [← h]
   | none =>
     rw [e] at h;simp only [yx] at h;rw [← h,yB];exact zlW pred tree r (i + 1)
section
variable (f : PFunc) (hf : okF f) (level : Int) (dd : C) (hdd : dd = .f (.lit (.map none))) (pred : List (List Int)) (hpl : pred.length = f.blocks.length) (hpp : ∀ l ∈ pred,l.length ≤ 4294967296) (tree : List Int) (htl : tree.length ≤ 4294967296) (x y : C) (hx : ∃ a,x = .f a) (hy : ∃ a,y = .f a)
abbrev zpj (f : PFunc) (level : Int) (pred : List (List Int)) (tree : List Int) : zd:=[O0 f,zze f level (.f (.sl ((zq f).map rl))) (.f (.sl (pred.map rl))) (.f (eI tree)) (.f (.lit (.map none))),O2,.cells 0 2 [[.f (.sl ((zq f).map rl)),.f (.sl (pred.map rl))]]]
include hf hpl hpp htl
theorem zDu (b : PBlock) (o : okB b) (i : Nat) (s : i < f.blocks.length) : ∀ (d k : Nat) (a1 a3 a6 a7 h l g j e : V),b.phis.length - k = d → k ≤ b.phis.length →
  exec T zbM ⟨[.one (.ptr 1 0 0 0),a1,.one (.ptr 3 0 0 0),a3,vI i,.one (.ptr 4 0 0 0),a6,a7,vL (f.blocks.map rb),vI f.blocks.length,vI i,h,l,vL (b.phis.map rp),vI b.phis.length,vI k,g,j,e],zpj f level pred tree ++ [.cells 0 5 [zg b]],3,3⟩ =
   some (match (b.phis.drop k).find? (fun p => !ziH (pred.getD i []) p) with
    | none => (.exit 2,⟨[.one (.ptr 1 0 0 0),vU,.one (.ptr 3 0 0 0),vU,vU,.one (.ptr 4 0 0 0),vU,vU,vL (f.blocks.map rb),vI f.blocks.length,vI i,vU,vU,vU,vU,vU,vU,vU,vU],zpj f level pred tree ++ [.cells 0 5 [zg b]],3,3⟩)
    | some p => (.ret,⟨[vU,vI 5,vU,vU,vU,vU,vU,vU,vU,vU,vU,vU,vU,vU,vU,vU,vU,vU,vU],zpj f level pred tree ++ [.cells 0 5 [zg b],.cells 0 4 [zuh p]],3,3⟩)):=by
 intro d
 induction d with
 | zero =>
   intro k a1 a3 a6 a7 h l g j e q r;have a : k = b.phis.length:=(by omega);subst a;rw [xl zbM rfl,zd8];simp -implicitDefEqProofs only [go_sem,zpj,yg,yo,List.find?_nil]
 | succ d ih =>
   intro k a1 a3 a6 a7 h l g j e q r;have a : k < b.phis.length:=(by omega);have hd : b.phis.drop k = b.phis[k] :: b.phis.drop (k + 1):=yf a;have c : i < pred.length:=(by omega);have n : pred.getD i [] = pred[i]:=(by simp [c]);have he:=zlZ b.phis[k].src pred[i] [] (o.phi _ (yi a)).1;rw [xl zbM rfl,zd8,hd,List.find?_cons,n];rw [n] at ih
   by_cases c1 : b.phis[k].src = pred[i]
   ·by_cases c2 : b.phis[k].args.length = b.phis[k].src.length
    ·have m : ((b.phis[k].args.length : Int) = (b.phis[k].src.length : Int)) = True:=by simp [c2]
     have:=ih (k + 1) vU vU vU vU vU vU vU vU vU (by omega) (by omega);simp -implicitDefEqProofs only [go_sem,zpj,eq_true c1] at he this;simp -implicitDefEqProofs only [go_sem,zpj,ilt a,zj a,zj c,rp,rl,he,eq_true c1,m,eq_true c2,ziH,za a o.phis,this]
    ·have m : ¬ (b.phis[k].args.length : Int) = (b.phis[k].src.length : Int):=by omega
     simp -implicitDefEqProofs only [go_sem,zpj,eq_true c1] at he;simp -implicitDefEqProofs only [go_sem,zpj,ilt a,zj a,zj c,rp,rl,he,eq_true c1,m,c2,ziH]
   ·simp -implicitDefEqProofs only [go_sem,zpj,c1] at he
    simp -implicitDefEqProofs only [go_sem,zpj,ilt a,zj a,zj c,rp,rl,he,c1,ziH]
theorem zC8 : ∀ (d k : Nat) (a1 a3 a4 a5 a6 a7 g h m l n c e b : V),f.blocks.length - k = d → k ≤ f.blocks.length →
  exec T zbK ⟨[.one (.ptr 1 0 0 0),a1,.one (.ptr 3 0 0 0),a3,a4,a5,a6,a7,vL (f.blocks.map rb),vI f.blocks.length,vI k,g,h,m,l,n,c,e,b],zpj f level pred tree,3,3⟩ =
   some (match zhI pred tree k (f.blocks.drop k) with
    | none => (.exit 0,⟨[vU,vU,vU,vU,vU,vU,vU,vU,vU,vU,vU,vU,vU,vU,vU,vU,vU,vU,vU],zpj f level pred tree,3,3⟩)
    | some G => (.ret,⟨[vU,vI 5,vU,vU,vU,vU,vU,vU,vU,vU,vU,vU,vU,vU,vU,vU,vU,vU,vU],zpj f level pred tree ++ G,3,3⟩)):=by
 intro d
 induction d with
 | zero =>
   intro k a1 a3 a4 a5 a6 a7 g h m l n c e b s u;have a : k = f.blocks.length:=(by omega);subst a;rw [xl zbK rfl,zeh];simp -implicitDefEqProofs only [go_sem,zpj,yg,yo,zhI]
 | succ d ih =>
   intro k a1 a3 a4 a5 a6 a7 g h m l n c e b s u;have a : k < f.blocks.length:=(by omega);have hd : f.blocks.drop k = f.blocks[k] :: f.blocks.drop (k + 1):=yf a;have t:=hf.block _ (yi a);have i:=zpR tree k k htl;have j:=fun a1 a3 a6 a7 g h c e b => zDu f hf level pred hpl hpp tree htl f.blocks[k] t k a f.blocks[k].phis.length 0 a1 a3 a6 a7 g h c e b (by omega) (by omega);simp only [ys,yh] at j;rw [xl zbK rfl,zeh,hd,zhI,zGi];cases e1 : zlP tree k k
   ·simp -implicitDefEqProofs only [go_sem,e1] at i
    simp -implicitDefEqProofs only [go_sem,zpj,ilt a,zj a,rb,i]
   ·cases e2 : f.blocks[k].phis.find? (fun p => !ziH (pred.getD k []) p) with
    | some p =>
      simp -implicitDefEqProofs only [go_sem,zpj,e1,e2] at i j;simp -implicitDefEqProofs only [go_sem,zpj,ilt a,zj a,rb,i,j]
    | none =>
      have:=ih (k + 1) vU vU vU vU vU vU vU vU vU vU vU vU vU vU (by omega) (by omega);simp -implicitDefEqProofs only [go_sem,zpj,e1,e2] at i j this
      by_cases o : f.blocks[k].kind = 1
      ·by_cases q : f.blocks[k].arg = 0
       ·simp -implicitDefEqProofs only [go_sem,zpj,ilt a,zj a,rb,i,j,ze8,eq_true o,eq_true q,za a hf.blocks,this]
       ·simp -implicitDefEqProofs only [go_sem,zpj,ilt a,zj a,rb,i,j,ze8,eq_true o,q]
      ·by_cases r : f.blocks[k].kind = 3
       ·by_cases q : f.blocks[k].arg = 0
        ·simp -implicitDefEqProofs only [go_sem,zpj,ilt a,zj a,rb,i,j,ze8,o,eq_true r,eq_true q,za a hf.blocks,this]
        ·simp -implicitDefEqProofs only [go_sem,zpj,ilt a,zj a,rb,i,j,ze8,o,eq_true r,q]
       ·simp -implicitDefEqProofs only [go_sem,zpj,ilt a,zj a,rb,i,j,ze8,o,r,za a hf.blocks,this]
end
theorem zIb (n : Nat) : (n + 1 + 1 + 1 + 1 ≤ 3) = False:=by simp
theorem zru (f : PFunc) (hf : okF f) (level : Int) (a : zaI f = false) : call T 159 [.one (.ptr 1 0 0 0)] [O0 f,zze f level (.f (.sl [])) (.f (.sl [])) (.f (.sl [])) (.f (.lit (.map none))),O2] = some (vI 5,[O0 f,zze f level (.f (.sl [])) (.f (.sl [])) (.f (.sl [])) (.f (.lit (.map none))),O2]):=by
 rw [ze (fn:=zaC) rfl];have h:=znC f hf;simp -implicitDefEqProofs only [go_sem,zhk,a] at h;simp -implicitDefEqProofs only [go_sem,zaC,h]
def zhV (f : PFunc) (tree : List Int) : Bool:=zaI f && zeH (zR (zq f)) tree 0 f.blocks
theorem zkx (succ : List (List Int)) (b : zkN succ) (c : (succ.map yA).sum ≤ 4294967296) : ∀ l ∈ zR succ,l.length ≤ 4294967296:=by
 have h : ∀ (l : List (List Int)) (i : Nat) (out : List (List Int)) (B : Nat),(∀ y ∈ out,y.length ≤ B) → ∀ y ∈ zbj i l out,y.length ≤ B + (l.map yA).sum:=by
  intro l
  induction l with
  | nil => intro i out B h y hy; exact h y hy
  | cons x r ih =>
    intro i out B h y hy;have:=ih (i + 1) (x.foldl (zt8 i) out) (B + x.length) (ztv _ _ _ _ h) y hy;simp only [List.map_cons,List.sum_cons];omega
 intro l a;have:=h succ 0 (yj succ.length []) 0 (fun y hy => by rw [(List.mem_replicate.1 hy).2]; simp) l a;omega
theorem zf5 {f : PFunc} (h : zaI f = true) : zbA (zq f) = true:=by
 simp only [zaI,yy] at h;exact h.2.2
theorem zs2 (f : PFunc) (hf : okF f) (level : Int) (o : zaI f = true) (tree : List Int) (htl : tree.length ≤ 4294967296)
  (n : call T 195 [.agg [.f (.sl ((zq f).map rl)),.f (.sl ((zR (zq f)).map rl))],vI 0] [] = some (vIs tree,[])) :
  call T 159 [.one (.ptr 1 0 0 0)] [O0 f,zze f level (.f (.sl [])) (.f (.sl [])) (.f (.sl [])) (.f (.lit (.map none))),O2] =
   some (vI (if zeH (zR (zq f)) tree 0 f.blocks = true then 0 else 5),[O0 f,zze f level (.f (.sl ((zq f).map rl))) (.f (.sl ((zR (zq f)).map rl))) (.f (eI tree)) (.f (.lit (.map none))),O2]):=by
 rw [ze (fn:=zaC) rfl];have h:=znC f hf;have b:=fun a1 a3 a4 a5 a6 a7 i m k g l d j c => zC8 f hf level (zR (zq f)) (by rw [zcf]; simp [zq]) (zkx _ (zi6 hf) (zhB (zf5 o))) tree htl f.blocks.length 0 a1 a3 a4 a5 a6 a7 i m k g l d j c (by omega) (by omega);simp only [ys,yh] at b;have a:=zlW (zR (zq f)) tree f.blocks 0;simp -implicitDefEqProofs only [go_sem,zhk,o] at h n
 cases e : zhI (zR (zq f)) tree 0 f.blocks with
 | none =>
   rw [e] at a;simp only [yx] at a;simp -implicitDefEqProofs only [go_sem,zpj,e] at b;simp -implicitDefEqProofs only [go_sem,zaC,h,n,b,← a]
 | some G =>
   rw [e] at a;simp only [yw] at a;simp -implicitDefEqProofs only [go_sem,zpj,e] at b;simp -implicitDefEqProofs only [go_sem,zaC,h,n,b,← a,zIb]
section
variable (succ pred : List (List Int)) (hn : succ.length ≤ 64) (hp : pred.length ≤ 64) (hl : ∀ l ∈ succ,l.length ≤ 4294967296) (hlp : ∀ l ∈ pred,l.length ≤ 4294967296)
abbrev s62 : zd:=[.cells 0 2 [[.f (.sl (succ.map rl)),.f (.sl (pred.map rl))]],.cells 0 2 [[.f (.sl (succ.map rl)),.f (.sl (pred.map rl))]]]
include hn hp hl hlp
theorem zCC : ∀ (d k : Nat) (a0 a1 a4 a6 a7 a8 a9 a b : V),succ.length - k = d → k ≤ succ.length →
  exec T zcX ⟨[a0,a1,.one (.ptr 0 0 0 0),.one (.ptr 1 0 0 0),a4,vI k,a6,a7,a8,a9,a,b],s62 succ pred,0,0⟩ = some (.exit 0,⟨[vU,vU,.one (.ptr 0 0 0 0),.one (.ptr 1 0 0 0),vU,vU,vU,vU,vU,vU,vU,vU],s62 succ pred,0,0⟩):=by
 intro d
 induction d with
 | zero =>
   intro k a0 a1 a4 a6 a7 a8 a9 a b g f;have c : k = succ.length:=(by omega);subst c;rw [xl zcX rfl,zew];simp -implicitDefEqProofs only [go_sem,s62,yg,yb]
 | succ d ih =>
   intro k a0 a1 a4 a6 a7 a8 a9 a b g f;have c : k < succ.length:=(by omega);have e:=zbx succ[k] succ[k] (hl _ (yi c));have:=ih (k + 1) vU vU vU vU vU vU vU vU vU (by omega) (by omega);rw [xl zcX rfl,zew];simp -implicitDefEqProofs only [go_sem] at e;simp -implicitDefEqProofs only [go_sem,s62] at this;simp -implicitDefEqProofs only [go_sem,s62,ilt c,zj c,rl,yb,e,za c (show succ.length ≤ 4294967296 by omega),this]
theorem zDN : ∀ (d k : Nat) (a0 a1 a4 a5 a7 a8 a9 a b : V),pred.length - k = d → k ≤ pred.length →
  exec T zcm ⟨[a0,a1,.one (.ptr 0 0 0 0),.one (.ptr 1 0 0 0),a4,a5,vI k,a7,a8,a9,a,b],s62 succ pred,0,0⟩ = some (.exit 2,⟨[vU,vU,vU,vU,vU,vU,vU,vU,vU,vU,vU,vU],s62 succ pred,0,0⟩):=by
 intro d
 induction d with
 | zero =>
   intro k a0 a1 a4 a5 a7 a8 a9 a b g f;have c : k = pred.length:=(by omega);subst c;rw [xl zcm rfl,zex];simp -implicitDefEqProofs only [go_sem,s62,yg,yb]
 | succ d ih =>
   intro k a0 a1 a4 a5 a7 a8 a9 a b g f;have c : k < pred.length:=(by omega);have e:=zbx pred[k] pred[k] (hlp _ (yi c));have:=ih (k + 1) vU vU vU vU vU vU vU vU vU (by omega) (by omega);rw [xl zcm rfl,zex];simp -implicitDefEqProofs only [go_sem] at e;simp -implicitDefEqProofs only [go_sem,s62] at this;simp -implicitDefEqProofs only [go_sem,s62,ilt c,zj c,rl,yb,e,za c (show pred.length ≤ 4294967296 by omega),this]
theorem zvv : call T 173 [.agg [.f (.sl (succ.map rl)),.f (.sl (pred.map rl))],.agg [.f (.sl (succ.map rl)),.f (.sl (pred.map rl))]] [] = some (vB true,[]):=by
 rw [ze (fn:=zfw) rfl];have d:=fun a0 a1 a4 a6 a7 a8 a9 a b => zCC succ pred hn hp hl hlp succ.length 0 a0 a1 a4 a6 a7 a8 a9 a b (by omega) (by omega);have c:=fun a0 a1 a4 a5 a7 a8 a9 a b => zDN succ pred hn hp hl hlp pred.length 0 a0 a1 a4 a5 a7 a8 a9 a b (by omega) (by omega);simp only [yh] at d c;simp -implicitDefEqProofs only [go_sem,s62] at d c;simp -implicitDefEqProofs only [go_sem,zfw,yb,d,c]
end
theorem zzQ (succ : List (List Int)) (a : zkN succ) (hm : zbA succ = true) : call T 130 [.agg [.f (.sl (succ.map rl)),.f (.sl ((zR succ).map rl))]] [] = some (vB true,[]):=by
 rw [ze (fn:=zfX) rfl];obtain ⟨g,d,e⟩:=zgY hm;have b:=zoJ succ a;have c:=zvv succ (zR succ) d (by rw [zcf]; exact d) a.2 (zkx succ a (zhB hm));simp -implicitDefEqProofs only [go_sem,zkJ,hm] at b;simp -implicitDefEqProofs only [go_sem] at c;simp -implicitDefEqProofs only [go_sem,zfX,b,c]
section
variable (succ : List (List Int)) (root : Int)
def ovB (c b : Nat) : Bool:=(zdU succ root (-1)).getD b false && !(zdU succ root (c : Int)).getD b false
def zpf (c : Nat) : List Bool:=(yt succ.length).map fun b => ovB succ root c b
def zgW (c k : Nat) : List Bool:=(yt succ.length).map fun b => if b < k then ovB succ root c b else false
def zfN (b a : Nat) : Nat → Nat → Bool
 | _,0 => true
 | k,d + 1 => (decide (k = b) || (!ovB succ root k b || ovB succ root k a)) && zfN b a (k + 1) d
def zgI (b : Nat) : Nat → Nat → Int → Int
 | _,0,v => v
 | k,d + 1,v => zgI b (k + 1) d (if (!decide (k = b) && (ovB succ root k b && zfN succ root b k 0 succ.length)) = true then (k : Int) else v)
def ztR (b : Nat) : Int:=if (b : Int) = root then -1 else zgI succ root b 0 succ.length (-2)
def zg6 (k : Nat) : List Int:=(yt succ.length).map fun b => if b < k then ztR succ root b else 0
def zfA : List Int:=(yt succ.length).map fun b => ztR succ root b
theorem zk6 (c : Nat) : (zpf succ root c).length = succ.length:=by simp [zpf]
theorem zff (c k : Nat) : (zgW succ root c k).length = succ.length:=by simp [zgW]
theorem zjq (w : Int) : (zdU succ root w).length = succ.length:=by
 unfold zdU;split
 ·simp
 ·rw [zhr]; simp
theorem zu0 (c b : Nat) (h : b < succ.length) : (zpf succ root c)[b]? = some (ovB succ root c b):=by simp [zpf,h]
theorem zjb (c k b : Nat) (h : b < succ.length) : (zgW succ root c k)[b]? = some (if b < k then ovB succ root c b else false):=by simp [zgW,h]
theorem zvP (c : Nat) : zgW succ root c 0 = yj succ.length false:=by
 apply ye;intro j
 by_cases h : j < succ.length
 ·rw [zjb succ root c 0 j h]; simp [h]
 ·rw [ya (by rw [zff]; omega),ya (by simp; omega)]
theorem zyo (c : Nat) : zgW succ root c succ.length = zpf succ root c:=by
 apply ye;intro j
 by_cases h : j < succ.length
 ·rw [zjb succ root c _ j h,zu0 succ root c j h,if_pos h]
 ·rw [ya (by rw [zff]; omega),ya (by rw [zk6]; omega)]
theorem zyD (c k : Nat) (h : k < succ.length) : (zgW succ root c k).set k (ovB succ root c k) = zgW succ root c (k + 1):=by
 apply ye;intro j
 by_cases a : j < succ.length
 ·rw [zjb succ root c (k + 1) j a]
  by_cases e : k = j
  ·subst e
   rw [ym (by rw [zff]; exact h),if_pos (by omega)]
  ·rw [yn e,zjb succ root c k j a]
   by_cases f : j < k
   ·rw [if_pos f,if_pos (by omega)]
   ·rw [if_neg f,if_neg (by omega)]
 ·rw [ya (by rw [yu,zff]; omega),ya (by rw [zff]; omega)]
theorem zg1 (k : Nat) : (zg6 succ root k).length = succ.length:=by simp [zg6]
theorem zm2 (k b : Nat) (h : b < succ.length) : (zg6 succ root k)[b]? = some (if b < k then ztR succ root b else 0):=by simp [zg6,h]
theorem zzw (k : Nat) (h : k < succ.length) : (zg6 succ root k).set k (ztR succ root k) = zg6 succ root (k + 1):=by
 apply ye;intro j
 by_cases a : j < succ.length
 ·rw [zm2 succ root (k + 1) j a]
  by_cases e : k = j
  ·subst e
   rw [ym (by rw [zg1]; exact h),if_pos (by omega)]
  ·rw [yn e,zm2 succ root k j a]
   by_cases f : j < k
   ·rw [if_pos f,if_pos (by omega)]
   ·rw [if_neg f,if_neg (by omega)]
 ·rw [ya (by rw [yu,zg1]; omega),ya (by rw [zg1]; omega)]
theorem zyc : zg6 succ root 0 = yj succ.length 0:=by
 apply ye;intro j
 by_cases h : j < succ.length
 ·rw [zm2 succ root 0 j h]; simp [h]
 ·rw [ya (by rw [zg1]; omega),ya (by simp; omega)]
theorem zzm : zg6 succ root succ.length = zfA succ root:=by
 unfold zg6 zfA;apply List.map_congr_left;intro b a;rw [if_pos (List.mem_range.1 a)]
def zog (n k : Nat) : List (List C):=(yt n).map fun a => if a < k then [.own (a + 1 + 1) 0 0 n] else [.f (.sl [])]
theorem zia (n k : Nat) : (zog n k).length = n:=by simp [zog]
theorem zh2 (n k a : Nat) (h : a < n) (b : a < k) : (zog n k)[a]? = some [.own (a + 1 + 1) 0 0 n]:=by simp [zog,h,b]
theorem zA7 (n k a : Nat) (h : a < n) : ∃ c,(zog n k)[a]? = some [c]:=by
 by_cases b : a < k
 ·exact ⟨_,zh2 n k a h b⟩
 ·exact ⟨.f (.sl []),by simp [zog,h,b]⟩
theorem zBS (n k : Nat) (h : k < n) : (zog n k).set k [.own (k + 1 + 1) 0 0 n] = zog n (k + 1):=by
 apply ye;intro j
 by_cases a : j < n
 ·by_cases e : k = j
  ·subst e
   rw [ym (by rw [zia]; exact h),zh2 n _ _ a (by omega)]
  ·rw [yn e]
   by_cases f : j < k
   ·rw [zh2 n k j a f,zh2 n (k + 1) j a (by omega)]
   ·simp [zog,a,f,show ¬ j < k + 1 by omega]
 ·rw [ya (by rw [yu,zia]; omega),ya (by rw [zia]; omega)]
theorem zyb (n : Nat) : zog n 0 = yj n [.f (.sl [])]:=by
 apply ye;intro j
 by_cases h : j < n
 ·simp [zog,h]
 ·rw [ya (by rw [zia]; omega),ya (by simp; omega)]
def zfz (k : Nat) : zd:=(yt k).map fun c => .cells 0 1 ((zpf succ root c).map zgr)
theorem zaU (k : Nat) : (zfz succ root k).length = k:=by simp [zfz]
theorem zwz (k : Nat) : zfz succ root k ++ [.cells 0 1 ((zpf succ root k).map zgr)] = zfz succ root (k + 1):=by
 unfold zfz;rw [List.range_succ,List.map_append];rfl
theorem zyS (k c : Nat) (h : c < k) : (zfz succ root k)[c]? = some (.cells 0 1 ((zpf succ root c).map zgr)):=by simp [zfz,h]
end
section
variable (succ pred : List (List Int)) (root : Int) (hn1 : 1 ≤ succ.length) (hn : succ.length ≤ 64) (hl : ∀ l ∈ succ,l.length ≤ 4294967296) (hr : ∀ l ∈ succ,∀ y ∈ l,0 ≤ y ∧ y < (succ.length : Int)) (h0 : 0 ≤ root ∧ root < (succ.length : Int))
abbrev sT7 (k a : Nat) (r : zd) : zd:=zrA succ pred :: .cells 0 1 (zog succ.length k) :: (zfz succ root a ++ r)
theorem zFS {l : List Bool} {k : Nat} (h : k < l.length) : (l.map rbo)[k]? = some [.lit (.bool (l.getD k false))]:=by simp [h,rbo]
theorem ovl (k m : Nat) (h : k ≤ m) : (yA (zfz succ root k) ≤ m) = True:=by rw [zaU]; simp [h]
include hn hl hr h0
theorem zC6 (a : Nat) (E : a < succ.length) : ∀ (d k : Nat) (a0 a3 u n s q j r i p h m a20 t a22 a23 : V),succ.length - k = d → k ≤ succ.length →
  exec T zck ⟨[a0,vI root,.one (.ptr 0 0 0 0),a3,vI succ.length,vBs (zdU succ root (-1)),.one (.own 1 0 0 succ.length),vI a,vBs (zdU succ root a),vI k,u,n,s,q,j,r,i,p,h,m,a20,t,a22,a23],sT7 succ pred root (a + 1) a [.cells 0 1 ((zgW succ root a k).map zgr)],0,0⟩ =
   some (.exit 2,⟨[vU,vI root,.one (.ptr 0 0 0 0),vU,vI succ.length,vBs (zdU succ root (-1)),.one (.own 1 0 0 succ.length),vI a,vU,vU,vU,vU,vU,vU,vU,vU,vU,vU,vU,vU,vU,vU,vU,vU],sT7 succ pred root (a + 1) (a + 1) [],0,0⟩):=by
 intro d
 induction d with
 | zero =>
   intro k a0 a3 u n s q j r i p h m a20 t a22 a23 B G;have g : k = succ.length:=(by omega);subst g;have e:=zwz succ root a;rw [← zyo] at e;rw [xl zck rfl,zeL];have d1:=ovl succ root (a + 1) 999998 (by omega);simp -implicitDefEqProofs only [go_sem,sT7,yg,e,yp,d1]
 | succ d ih =>
   intro k a0 a3 u n s q j r i p h m a20 t a22 a23 B G;have g : k < succ.length:=(by omega);have x:=zFS (l:=zdU succ root (-1)) (k:=k) (by rw [zjq]; exact g);have H:=zFS (l:=zdU succ root (a : Int)) (k:=k) (by rw [zjq]; exact g);have go:=zh2 succ.length (a + 1) a E (by omega)
   have y : (zfz succ root a ++ [Ob.cells 0 1 ((zgW succ root a k).map zgr)])[a]? = some (.cells 0 1 ((zgW succ root a k).map zgr)):=by
    rw [List.getElem?_append_right (by rw [zaU]; omega),zaU,Nat.sub_self];rfl
   have z : ∀ o,(zfz succ root a ++ [Ob.cells 0 1 ((zgW succ root a k).map zgr)]).set a o = zfz succ root a ++ [o]:=fun o => by
    have:=zs0 (zfz succ root a) [] (Ob.cells 0 1 ((zgW succ root a k).map zgr)) o
    rwa [zaU] at this
   have A : ((zgW succ root a k).map zgr)[k]? = some [.f (.lit (.bool false))]:=by
    rw [List.getElem?_map,zjb succ root a k k g,if_neg (by omega)];rfl
   have b : ((zgW succ root a k).map zgr).set k [C.f (.lit (.bool (ovB succ root a k)))] = (zgW succ root a (k + 1)).map zgr:=by
    rw [← zyD succ root a k g,List.map_set];rfl
   have D : (zgW succ root a k).length = succ.length:=zff succ root a k;have w : ((a : Int) < (succ.length : Int)) = True:=(by simp; omega);have v : ((k : Int) < (succ.length : Int)) = True:=(by simp; omega);have:=ih (k + 1) vU vU vU vU vU vU vU vU vU vU vU vU vU vU vU vU (by omega) (by omega);have d1:=ovl succ root a 999997 (by omega);rw [xl zck rfl,zeL];simp -implicitDefEqProofs only [go_sem,sT7] at this;cases c : (zdU succ root (-1)).getD k false
   ·have e : ovB succ root a k = false:=by unfold ovB; rw [c]; rfl
    rw [c] at x;rw [e] at b;simp -implicitDefEqProofs only [go_sem,sT7,zrA,ilt g,w,v,x,go,y,z,A,b,yk,yl,yq,yc,yd,yb,d1,za g (show succ.length ≤ 4294967296 by omega),this]
   ·have e : ovB succ root a k = !(zdU succ root (a : Int)).getD k false:=by unfold ovB; rw [c]; rfl
    rw [c] at x;rw [e] at b;simp -implicitDefEqProofs only [go_sem,sT7,zrA,ilt g,w,v,x,H,go,y,z,A,b,yk,yl,yq,yc,yd,yb,d1,za g (show succ.length ≤ 4294967296 by omega),this]
theorem zCw : ∀ (d k : Nat) (a0 a3 a8 a9 n g l i c j b h a e a20 m a22 a23 : V),succ.length - k = d → k ≤ succ.length →
  exec T zcI ⟨[a0,vI root,.one (.ptr 0 0 0 0),a3,vI succ.length,vBs (zdU succ root (-1)),.one (.own 1 0 0 succ.length),vI k,a8,a9,n,g,l,i,c,j,b,h,a,e,a20,m,a22,a23],sT7 succ pred root k k [],0,0⟩ =
   some (.exit 0,⟨[vU,vI root,vU,vU,vI succ.length,vU,.one (.own 1 0 0 succ.length),vU,vU,vU,vU,vU,vU,vU,vU,vU,vU,vU,vU,vU,vU,vU,vU,vU],sT7 succ pred root succ.length succ.length [],0,0⟩):=by
 intro d
 induction d with
 | zero =>
   intro k a0 a3 a8 a9 n g l i c j b h a e a20 m a22 a23 u w;have o : k = succ.length:=(by omega);subst o;rw [xl zcI rfl,zet];have d1:=ovl succ root succ.length 999998 (by omega);simp -implicitDefEqProofs only [go_sem,sT7,yg,yp,d1]
 | succ d ih =>
   intro k a0 a3 a8 a9 n g l i c j b h a e a20 m a22 a23 u w;have o : k < succ.length:=(by omega);have t:=znX succ pred (by omega) hl hr (k : Int) root h0;have r:=fun a0 a3 n g l i c j b h a e a20 m a22 a23 => zC6 succ pred root hn hl hr h0 k o succ.length 0 a0 a3 n g l i c j b h a e a20 m a22 a23 (by omega) (by omega);simp only [yh,zvP] at r;have:=ih (k + 1) vU vU vU vU vU vU vU vU vU vU vU vU vU vU vU vU vU vU (by omega) (by omega);obtain ⟨c0,s⟩:=zA7 succ.length k k o;have q:=zBS succ.length k o;have v : yj succ.length [C.f (.lit (.bool false))] = (yj succ.length false).map zgr:=(by rw [List.map_replicate]; rfl);have p : (succ.length : Int) ≤ (LIM : Int):=(by unfold LIM; omega);have d1:=ovl succ root (k + 1) 999998 (by omega);have hlen : (zfz succ root k).length = k:=zaU succ root k;rw [xl zcI rfl,zet];simp -implicitDefEqProofs only [go_sem] at t;simp -implicitDefEqProofs only [go_sem,sT7,yp] at r this;simp -implicitDefEqProofs only [go_sem,sT7,zrA,ilt o,p,v,s,q,hlen,yp,List.cons_append,List.length_cons,yk,yl,yq,List.set_cons_zero,yc,yd,yb,t,r,d1,za o (show succ.length ≤ 4294967296 by omega),this]
end
section
variable (f : PFunc) (hf : okF f) (succ pred : List (List Int)) (hpl : pred.length = f.blocks.length) (hpe : ∀ l ∈ pred,l.length ≤ 4294967296) (reach : List Bool) (hrl : reach.length = f.blocks.length)
abbrev zoL (r : zd) : zd:=.cells 0 3 [z6 f] :: .cells 0 2 [[.f (.sl (succ.map rl)),.f (.sl (pred.map rl))]] :: r
include hf hpl hpe hrl
theorem zxK (b : PBlock) (r : okB b) (i : Nat) (w : i < f.blocks.length) : ∀ (d k : Nat) (a0 a2 a4 a9 o j m l : V),b.phis.length - k = d → k ≤ b.phis.length →
  exec T zb5 ⟨[a0,.one (.ptr 0 0 0 0),a2,.one (.ptr 1 0 0 0),a4,.one (.f (.sl (reach.map rbo))),vI i,.one (.ptr 2 0 0 0),vI k,a9,o,j,m,l],zoL f succ pred [.cells 0 5 [zg b]],0,0⟩ =
   some (if (b.phis.drop k).all (ziH (pred.getD i [])) = true then (.exit 2,⟨[vU,.one (.ptr 0 0 0 0),vU,.one (.ptr 1 0 0 0),vU,.one (.f (.sl (reach.map rbo))),vI i,vU,vU,vU,vU,vU,vU,vU],zoL f succ pred [.cells 0 5 [zg b]],0,0⟩)
    else (.ret,⟨[vU,vU,vB false,vU,vU,vU,vU,vU,vU,vU,vU,vU,vU,vU],zoL f succ pred [.cells 0 5 [zg b]],0,0⟩)):=by
 intro d
 induction d with
 | zero =>
   intro k a0 a2 a4 a9 o j m l s v;have g : k = b.phis.length:=(by omega);subst g;rw [xl zb5 rfl,zd9];simp -implicitDefEqProofs only [go_sem,zoL,yg,yb,yo,List.all_nil]
 | succ d ih =>
   intro k a0 a2 a4 a9 o j m l s v;have g : k < b.phis.length:=(by omega);have hd : b.phis.drop k = b.phis[k] :: b.phis.drop (k + 1):=yf g;have a : i < pred.length:=(by omega);have t : pred.getD i [] = pred[i]:=(by rw [List.getD_eq_getElem?_getD,List.getElem?_eq_getElem a]; rfl);have u:=r.phi _ (yi g);have p:=zbx b.phis[k].src pred[i] u.1;have:=ih (k + 1) vU vU vU vU vU vU vU vU (by omega) (by omega);rw [xl zb5 rfl,zd9,hd,List.all_cons];rw [t] at this ⊢;simp -implicitDefEqProofs only [go_sem,zoL] at this
   by_cases c : b.phis[k].src = pred[i]
   ·by_cases c2 : b.phis[k].args.length = pred[i].length
    ·have e : ziH pred[i] b.phis[k] = true:=by
      unfold ziH;rw [decide_eq_true c,decide_eq_true (by rw [c]; exact c2)];rfl
     have n : (b.phis[k].args.length : Int) = (pred[i].length : Int):=(by omega);simp -implicitDefEqProofs only [go_sem,decide_eq_true c] at p;simp -implicitDefEqProofs only [go_sem,zoL,ilt g,ilt a,zj g,zj a,rp,rl,yb,p,eq_true n,e,yc,yd,za g r.phis,this]
    ·have e : ziH pred[i] b.phis[k] = false:=by
      have q : ¬ b.phis[k].args.length = b.phis[k].src.length:=fun h => c2 (by rw [h,c]);unfold ziH;rw [decide_eq_false q,Bool.and_false]
     have n : ¬ (b.phis[k].args.length : Int) = (pred[i].length : Int):=(by omega);simp -implicitDefEqProofs only [go_sem,decide_eq_true c] at p;simp -implicitDefEqProofs only [go_sem,zoL,ilt g,ilt a,zj g,zj a,rp,rl,yb,p,n,e,yc,yd]
   ·have e : ziH pred[i] b.phis[k] = false:=by
     unfold ziH;rw [decide_eq_false c];rfl
    simp -implicitDefEqProofs only [go_sem,decide_eq_false c] at p;simp -implicitDefEqProofs only [go_sem,zoL,ilt g,ilt a,zj g,zj a,rp,rl,yb,p,e,yc,yd]
def zkV (pred : List (List Int)) (reach : List Bool) (i : Nat) (b : PBlock) : Bool:=reach.getD i false && (ze8 b && b.phis.all (ziH (pred.getD i [])))
def zbD (pred : List (List Int)) (reach : List Bool) : Nat → List PBlock → Bool
 | _,[] => true
 | i,b :: r => zkV pred reach i b && zbD pred reach (i + 1) r
theorem zx9 : ∀ (d k : Nat),f.blocks.length - k = d → k ≤ f.blocks.length → ∃ r,∀ (a0 a2 a4 a7 a8 a9 m g j i : V),
  exec T z7 ⟨[a0,.one (.ptr 0 0 0 0),a2,.one (.ptr 1 0 0 0),a4,.one (.f (.sl (reach.map rbo))),vI k,a7,a8,a9,m,g,j,i],zoL f succ pred [],0,0⟩ =
   some (if zbD pred reach k (f.blocks.drop k) = true then (.exit 0,⟨[vU,vU,vU,vU,vU,vU,vU,vU,vU,vU,vU,vU,vU,vU],zoL f succ pred [],0,0⟩)
    else (.ret,⟨[vU,vU,vB false,vU,vU,vU,vU,vU,vU,vU,vU,vU,vU,vU],zoL f succ pred r,0,0⟩)):=by
 intro d
 induction d with
 | zero =>
   intro k x y;have a : k = f.blocks.length:=(by omega);subst a;refine ⟨[],fun a0 a2 a4 a7 a8 a9 m g j i => ?_⟩;rw [xl z7 rfl,zaq];simp -implicitDefEqProofs only [go_sem,zoL,yg,yb,yo,zbD]
 | succ d ih =>
   intro k x y;have a : k < f.blocks.length:=(by omega);have hd : f.blocks.drop k = f.blocks[k] :: f.blocks.drop (k + 1):=yf a;obtain ⟨b,u⟩ : ∃ b,b = f.blocks[k]:=⟨_,rfl⟩;have w:=hf.block _ (yi a);have p:=zj (r:=rb) a;rw [← u] at w p;have o:=zFS (l:=reach) (k:=k) (by omega);have s:=fun a0 a2 a4 a9 m g j i => zxK f hf succ pred hpl hpe reach hrl b w k a b.phis.length 0 a0 a2 a4 a9 m g j i (by omega) (by omega);simp only [yh,ys] at s;obtain ⟨r,v⟩:=ih (k + 1) (by omega) (by omega);rw [hd,zbD,← u,zkV];simp -implicitDefEqProofs only [go_sem,zoL] at v;cases c : reach.getD k false
   ·rw [c] at o
    refine ⟨[.cells 0 5 [zg b]],fun a0 a2 a4 a7 a8 a9 m g j i => ?_⟩;rw [xl z7 rfl,zaq];simp -implicitDefEqProofs only [go_sem,zoL,ilt a,p,o,rb,yb,yc,yd]
   ·rw [c] at o
    cases e : ze8 b
    ·refine ⟨[.cells 0 5 [zg b]],fun a0 a2 a4 a7 a8 a9 m g j i => ?_⟩
     have t : (b.kind = 1 ∨ b.kind = 3) ∧ ¬ b.arg = 0:=by
      unfold ze8 at e;simp only [yv,yy,yz,decide_eq_true_eq,Bool.not_eq_true',decide_eq_false_iff_not] at e;exact e
     rw [xl z7 rfl,zaq]
     by_cases n : b.kind = 1
     ·simp -implicitDefEqProofs only [go_sem,zoL,ilt a,p,o,rb,yb,yc,yd,eq_true n,t.2]
     ·have q : b.kind = 3:=t.1.resolve_left n
      simp -implicitDefEqProofs only [go_sem,zoL,ilt a,p,o,rb,yb,yc,yd,n,eq_true q,t.2]
    ·have t : ¬ (b.kind = 1 ∨ b.kind = 3) ∨ b.arg = 0:=by
      by_cases z : b.arg = 0
      ·exact .inr z
      ·left
       intro h
       have : ze8 b = false:=by
        unfold ze8;simp only [decide_eq_false z,Bool.not_false,Bool.and_true,yv,yz,decide_eq_true_eq];exact h
       rw [this] at e;cases e
     cases cp : b.phis.all (ziH (pred.getD k []))
     ·simp -implicitDefEqProofs only [go_sem,zoL,cp,yr] at s
      refine ⟨[.cells 0 5 [zg b]],fun a0 a2 a4 a7 a8 a9 m g j i => ?_⟩;rw [xl z7 rfl,zaq]
      by_cases n : b.kind = 1
      ·have z : b.arg = 0:=t.resolve_left fun h => h (.inl n)
       simp -implicitDefEqProofs only [go_sem,zoL,ilt a,p,o,rb,yb,yc,yd,eq_true n,eq_true z,s]
      ·by_cases q : b.kind = 3
       ·have z : b.arg = 0:=t.resolve_left fun h => h (.inr q)
        simp -implicitDefEqProofs only [go_sem,zoL,ilt a,p,o,rb,yb,yc,yd,n,eq_true q,eq_true z,s]
       ·simp -implicitDefEqProofs only [go_sem,zoL,ilt a,p,o,rb,yb,yc,yd,n,q,s]
     ·simp -implicitDefEqProofs only [go_sem,zoL,cp] at s
      refine ⟨r,fun a0 a2 a4 a7 a8 a9 m g j i => ?_⟩;rw [xl z7 rfl,zaq]
      by_cases n : b.kind = 1
      ·have z : b.arg = 0:=t.resolve_left fun h => h (.inl n)
       simp -implicitDefEqProofs only [go_sem,zoL,ilt a,p,o,rb,yb,yc,yd,eq_true n,eq_true z,s,za a hf.blocks,v]
      ·by_cases q : b.kind = 3
       ·have z : b.arg = 0:=t.resolve_left fun h => h (.inr q)
        simp -implicitDefEqProofs only [go_sem,zoL,ilt a,p,o,rb,yb,yc,yd,n,eq_true q,eq_true z,s,za a hf.blocks,v]
       ·simp -implicitDefEqProofs only [go_sem,zoL,ilt a,p,o,rb,yb,yc,yd,n,q,s,za a hf.blocks,v]
end
def zg2 (f : PFunc) : Bool:=zaI f && zbD (zR (zq f)) (zdU (zq f) 0 (-1)) 0 f.blocks
theorem zsT (f : PFunc) (hf : okF f) : call T 71 [zd4 f] [] = some (vB (zg2 f),[]):=by
 rw [ze (fn:=zaZ) rfl];have b:=zr9 f hf;cases c : zaI f
 ·simp -implicitDefEqProofs only [go_sem,zhk,c,yr] at b
  simp -implicitDefEqProofs only [go_sem,zaZ,zg2,c,b]
 ·have hm:=zf5 c
  obtain ⟨j,n64,i⟩:=zfa hm;have a : (zq f).length = f.blocks.length:=by simp [zq]
  have g:=zi6 hf;have d:=znX (zq f) (zR (zq f)) (by omega) g.2 i (-1) 0 (by omega);obtain ⟨r,h⟩:=zx9 f hf (zq f) (zR (zq f)) (by rw [zcf]; exact a) (zkx _ g (zhB hm)) (zdU (zq f) 0 (-1)) (by rw [zjq]; exact a) f.blocks.length 0 (by omega) (by omega);simp only [yh,ys] at h;simp -implicitDefEqProofs only [go_sem,zhk,c] at b;simp -implicitDefEqProofs only [go_sem] at d;cases e : zbD (zR (zq f)) (zdU (zq f) 0 (-1)) 0 f.blocks
  ·simp -implicitDefEqProofs only [go_sem,zoL,e,yr] at h
   simp -implicitDefEqProofs only [go_sem,zaZ,zg2,c,b,d,h,e]
  ·simp -implicitDefEqProofs only [go_sem,zoL,e] at h
   simp -implicitDefEqProofs only [go_sem,zaZ,zg2,c,b,d,h,e]
end AC
