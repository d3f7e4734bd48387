/- A part of the proof of SchedDepth. Conditions: none. -/
import Derived.Test.YtmkncmffaaninaaGreatDAV
import Derived.Test.YtmkncmffaaninaaGreatDAT
set_option linter.unusedVariables false
set_option linter.unusedSimpArgs false
set_option linter.unusedSectionVars false
open List renaming length_map → ya,length_append → yb,drop_eq_getElem_cons → yc,length_cons → yd,getD_eq_getElem?_getD → ye,getElem_mem → yf,replicate → yg,drop_zero → yk,drop_length → yl,length_nil → yn,append_nil → yo,append_assoc → yp,map_nil → yq,mem_singleton → yr,getElem?_eq_getElem → ys,take_of_length_le → yt,singleton_append → yu,map_append → yw,map → yy,map_cons → yz,mem_cons → yA,nil_append → yB,foldl_cons → yC,map_set → yD,length → yE
open Int renaming natCast_nonneg → yh,natCast_zero → yi,toNat_natCast → yj,lt_irrefl → ym
open Nat renaming zero_add → yv,le_refl → yx
namespace AC
open Go Go.A Go.A.Lex
theorem zsr (f : PFunc) (hf : okF f) (hB : f.params.length + (f.blocks.map fun b => b.phis.length + b.ops.length).sum ≤ 4294967296) : call T 73 [zgS f] [] = some (vUs (zL f),[]):=by
 rw [ze (fn:=zeJ) rfl]
 have h0:=fun a0 a2 a5 a6 a7 a8 a9 a10 a11 a12 a13 a14 a15 => zyW f hf f.params.length 0 [] a0 a2 a5 a6 a7 a8 a9 a10 a11 a12 a13 a14 a15 (by omega) (by omega) (by simp; omega)
 have h3:=fun a0 a2 a4 a6 a7 a8 a9 a10 a11 a12 a13 a14 a15 => zz5 f hf f.blocks.length 0 (zaP 0 f.params) a0 a2 a4 a6 a7 a8 a9 a10 a11 a12 a13 a14 a15 (by omega) (by omega) (by rw [zgd]; simpa using hB)
 simp only [yi,yk,yB,yq,yn] at h0 h3
 simp -implicitDefEqProofs only [go_sem,zfR] at h0 h3
 simp -implicitDefEqProofs only [go_sem,zeJ,h0,h3,zL]
def zW (u : Use) : Use:=⟨u.v,u.shape,u.block,if u.at' = 1048576 then 1000 else u.at'⟩
section
variable (f : PFunc) (hf : okF f) (hret : ¬ f.ret = 0)
include hf
theorem zy2 (b : PBlock) (p : PPhi) (hp : zEf p) (hlen : p.args.length = p.src.length) (i kp : Int) : ∀ (d k : Nat) (acc : List Use) (a0 a2 a9 a10 a11 a12 a13 a14 a15 a16 a17 a18 : V),p.args.length - k = d → k ≤ p.args.length → acc.length + d ≤ 4294967296 →
  exec T zbS ⟨[a0,.one (.ptr 0 0 0 0),a2,.one (.ap 1 0 (acc.map rU)),vI i,.one (.ptr 2 0 0 0),vI kp,.one (.ptr 3 0 0 0),vI k,a9,a10,a11,a12,a13,a14,a15,a16,a17,a18],zfR f acc.length [.cells 0 5 [zq b],.cells 0 4 [zub p]],0,0⟩ =
   some (.exit 4,⟨[vU,.one (.ptr 0 0 0 0),vU,.one (.ap 1 0 ((acc ++ (zF p k (p.args.drop k)).map zW).map rU)),vI i,.one (.ptr 2 0 0 0),vI kp,vU,vU,vU,vU,vU,vU,vU,vU,vU,vU,vU,vU],zfR f (acc ++ (zF p k (p.args.drop k)).map zW).length [.cells 0 5 [zq b],.cells 0 4 [zub p]],0,0⟩):=by
 intro d
 induction d with
 | zero =>
   intro k acc a0 a2 a9 a10 a11 a12 a13 a14 a15 a16 a17 a18 h1 h2 hB
   have hk : k = p.args.length:=by omega
   subst hk
   rw [xl zbS rfl,zdX]
   simp -implicitDefEqProofs only [go_sem,zfR,ym,ya,yl,zF,yq,yo]
 | succ d ih =>
   intro k acc a0 a2 a9 a10 a11 a12 a13 a14 a15 a16 a17 a18 h1 h2 hB
   have hk : k < p.args.length:=by omega
   have hks : k < p.src.length:=by omega
   have hd : p.args.drop k = p.args[k] :: p.args.drop (k + 1):=yc hk
   have hlim : acc.length + 1 ≤ LIM:=by unfold LIM; omega
   have hsr : p.src.getD k 0 = p.src[k]:=by rw [ye,ys hks]; rfl
   have:=ih (k + 1) (acc ++ [⟨p.args[k],(p.bits,1),p.src[k],1000⟩]) vU vU vU vU vU vU vU vU vU vU vU vU (by omega) (by omega) (by simp; omega)
   have e1 : yy rU acc ++ [[Fz.lit (Value.int .i64 p.args[k]),Fz.lit (Value.int .i64 p.src[k]),Fz.lit (Value.int .i64 1000),Fz.lit (Value.int .i64 p.bits),Fz.lit (Value.int .i64 1)]] = yy rU (acc ++ [⟨p.args[k],(p.bits,1),p.src[k],1000⟩]):=by simp [rU]
   have e2 : (zF p k (p.args[k] :: p.args.drop (k + 1))).map zW = ⟨p.args[k],(p.bits,1),p.src[k],1000⟩ :: (zF p (k + 1) (p.args.drop (k + 1))).map zW:=by
    rw [zF,yz,hsr]
    rfl
   rw [yp,yu] at this
   rw [xl zbS rfl,zdX,hd,e2]
   simp -implicitDefEqProofs only [go_sem,zfR,yb,yd,yn,yv] at this
   simp -implicitDefEqProofs only [go_sem,zfR,ilt hk,ilt hks,zp hk,zp hks,ri,ya,za hk hp.2,hlim,e1,yb,yd,this]
theorem zzK (b : PBlock) (hb : okB b) (hab : zjf b) (i : Int) : ∀ (d k : Nat) (acc : List Use) (a0 a2 a7 a8 a9 a10 a11 a12 a13 a14 a15 a16 a17 a18 : V),b.phis.length - k = d → k ≤ b.phis.length → acc.length + (zaj (b.phis.drop k)).length ≤ 4294967296 →
  exec T zcf ⟨[a0,.one (.ptr 0 0 0 0),a2,.one (.ap 1 0 (acc.map rU)),vI i,.one (.ptr 2 0 0 0),vI k,a7,a8,a9,a10,a11,a12,a13,a14,a15,a16,a17,a18],zfR f acc.length [.cells 0 5 [zq b]],0,0⟩ =
   some (.exit 2,⟨[vU,.one (.ptr 0 0 0 0),vU,.one (.ap 1 0 ((acc ++ (zaj (b.phis.drop k)).map zW).map rU)),vI i,.one (.ptr 2 0 0 0),vU,vU,vU,vU,vU,vU,vU,vU,vU,vU,vU,vU,vU],zfR f (acc ++ (zaj (b.phis.drop k)).map zW).length [.cells 0 5 [zq b]],0,0⟩):=by
 intro d
 induction d with
 | zero =>
   intro k acc a0 a2 a7 a8 a9 a10 a11 a12 a13 a14 a15 a16 a17 a18 h1 h2 hB
   have hk : k = b.phis.length:=by omega
   subst hk
   rw [xl zcf rfl,zdQ]
   simp -implicitDefEqProofs only [go_sem,zfR,ym,ya,yl,zaj,List.flatMap_nil,yq,yo]
 | succ d ih =>
   intro k acc a0 a2 a7 a8 a9 a10 a11 a12 a13 a14 a15 a16 a17 a18 h1 h2 hB
   have hk : k < b.phis.length:=by omega
   have hd : b.phis.drop k = b.phis[k] :: b.phis.drop (k + 1):=yc hk
   have e0 : zaj (b.phis[k] :: b.phis.drop (k + 1)) = zfO b.phis[k] ++ zaj (b.phis.drop (k + 1)):=rfl
   have hp:=hb.phi _ (yf hk)
   have hle:=hab.1 _ (yf hk)
   have hpl : ∀ (l : List Int) (j : Nat),(zF b.phis[k] j l).length = l.length:=by
    intro l
    induction l with
    | nil => intro j; rfl
    | cons x l ih => intro j; rw [zF,yd,ih,yd]
   have hpu : (zfO b.phis[k]).length = b.phis[k].args.length:=hpl _ 0
   rw [hd,e0,yb,hpu] at hB
   have h0:=fun a0 a2 a9 a10 a11 a12 a13 a14 a15 a16 a17 a18 => zy2 f hf b b.phis[k] hp hle i k b.phis[k].args.length 0 acc a0 a2 a9 a10 a11 a12 a13 a14 a15 a16 a17 a18 (by omega) (by omega) (by omega)
   simp only [yi,yk] at h0
   have e1 : zF b.phis[k] 0 b.phis[k].args = zfO b.phis[k]:=rfl
   rw [e1] at h0
   have:=ih (k + 1) (acc ++ (zfO b.phis[k]).map zW) vU vU vU vU vU vU vU vU vU vU vU vU vU vU (by omega) (by omega) (by rw [yb,ya,hpu]; omega)
   have e3 : acc ++ (zfO b.phis[k] ++ zaj (b.phis.drop (k + 1))).map zW = (acc ++ (zfO b.phis[k]).map zW) ++ (zaj (b.phis.drop (k + 1))).map zW:=by rw [yw,yp]
   rw [xl zcf rfl,zdQ,hd,e0,e3]
   obtain ⟨a1,ha1⟩ : ∃ a1,a1 = acc ++ (zfO b.phis[k]).map zW:=⟨_,rfl⟩
   rw [← ha1] at this ⊢
   simp only [← ha1] at h0
   simp -implicitDefEqProofs only [go_sem,zfR] at h0 this
   simp -implicitDefEqProofs only [go_sem,zfR,ilt hk,zp hk,rp,ya,h0,za hk hb.phis,this]
theorem zzW (b : PBlock) (hb : okB b) (i : Int) (ko : Nat) (hko : ko < b.ops.length) (hkm : ¬ (ko : Int) = 1048576) (l : List (Int × Int)) (hl : l.length ≤ b.ops[ko].args.length) : ∀ (d k : Nat) (acc : List Use) (a0 a2 a6 a7 a8 a12 a13 a14 a15 a16 a17 a18 : V),l.length - k = d → k ≤ l.length → acc.length + d ≤ 4294967296 →
  exec T zcd ⟨[a0,.one (.ptr 0 0 0 0),a2,.one (.ap 1 0 (acc.map rU)),vI i,.one (.ptr 2 0 0 0),a6,a7,a8,vI ko,vSs l,vI k,a12,a13,a14,a15,a16,a17,a18],zfR f acc.length [.cells 0 5 [zq b]],0,0⟩ =
   some (.exit 8,⟨[vU,.one (.ptr 0 0 0 0),vU,.one (.ap 1 0 ((acc ++ (zO b.ops[ko] i ko k (l.drop k)).map zW).map rU)),vI i,.one (.ptr 2 0 0 0),vU,vU,vU,vI ko,vU,vU,vU,vU,vU,vU,vU,vU,vU],zfR f (acc ++ (zO b.ops[ko] i ko k (l.drop k)).map zW).length [.cells 0 5 [zq b]],0,0⟩):=by
 intro d
 induction d with
 | zero =>
   intro k acc a0 a2 a6 a7 a8 a12 a13 a14 a15 a16 a17 a18 h1 h2 hB
   have hk : k = l.length:=by omega
   subst hk
   rw [xl zcd rfl,zd3]
   simp -implicitDefEqProofs only [go_sem,zfR,ym,ya,yl,zO,yq,yo]
 | succ d ih =>
   intro k acc a0 a2 a6 a7 a8 a12 a13 a14 a15 a16 a17 a18 h1 h2 hB
   have hk : k < l.length:=by omega
   have hka : k < b.ops[ko].args.length:=by omega
   have hol:=(hb.op _ (yf hko)).2
   have hd : l.drop k = l[k] :: l.drop (k + 1):=yc hk
   have hlim : acc.length + 1 ≤ LIM:=by unfold LIM; omega
   have hsr : b.ops[ko].args.getD k 0 = b.ops[ko].args[k]:=by rw [ye,ys hka]; rfl
   have:=ih (k + 1) (acc ++ [⟨b.ops[ko].args[k],l[k],i,(ko : Int)⟩]) vU vU vU vU vU vU vU vU vU vU vU vU (by omega) (by omega) (by simp; omega)
   have e1 : yy rU acc ++ [[Fz.lit (Value.int .i64 b.ops[ko].args[k]),Fz.lit (Value.int .i64 i),Fz.lit (Value.int .i64 (ko : Int)),Fz.lit (Value.int .i64 l[k].1),Fz.lit (Value.int .i64 l[k].2)]] = yy rU (acc ++ [⟨b.ops[ko].args[k],l[k],i,(ko : Int)⟩]):=by simp [rU]
   have e2 : (zO b.ops[ko] i ko k (l[k] :: l.drop (k + 1))).map zW = ⟨b.ops[ko].args[k],l[k],i,(ko : Int)⟩ :: (zO b.ops[ko] i ko (k + 1) (l.drop (k + 1))).map zW:=by
    rw [zO,yz,hsr]
    unfold zW
    simp only [if_neg hkm]
   rw [yp,yu] at this
   rw [xl zcd rfl,zd3,hd,e2]
   simp -implicitDefEqProofs only [go_sem,zfR,yb,yd,yn,yv] at this
   simp -implicitDefEqProofs only [go_sem,zfR,ilt hk,ilt hka,ilt hko,zp hk,zp hka,zp hko,ri,rs,ro,ya,za hk (show l.length ≤ 4294967296 by omega),hlim,e1,yb,yd,yh,yj,this]
theorem zic (o : POp) (i at' : Int) : ∀ (l : List (Int × Int)) (k : Nat),(zO o i at' k l).length = l.length
 | [],_ => rfl
 | s :: r,k => by rw [zO,yd,zic o i at' r,yd]
theorem zyP (b : PBlock) (hb : okB b) (hab : zjf b) (hol : b.ops.length ≤ 1048576) (i : Int) : ∀ (d k : Nat) (acc : List Use) (a0 a2 a6 a7 a8 a10 a11 a12 a13 a14 a15 a16 a17 a18 : V),b.ops.length - k = d → k ≤ b.ops.length → acc.length + (zu i k (b.ops.drop k)).length ≤ 4294967296 →
  exec T zcu ⟨[a0,.one (.ptr 0 0 0 0),a2,.one (.ap 1 0 (acc.map rU)),vI i,.one (.ptr 2 0 0 0),a6,a7,a8,vI k,a10,a11,a12,a13,a14,a15,a16,a17,a18],zfR f acc.length [.cells 0 5 [zq b]],0,0⟩ =
   some (.exit 6,⟨[vU,.one (.ptr 0 0 0 0),vU,.one (.ap 1 0 ((acc ++ (zu i k (b.ops.drop k)).map zW).map rU)),vI i,.one (.ptr 2 0 0 0),vU,vU,vU,vU,vU,vU,vU,vU,vU,vU,vU,vU,vU],zfR f (acc ++ (zu i k (b.ops.drop k)).map zW).length [.cells 0 5 [zq b]],0,0⟩):=by
 intro d
 induction d with
 | zero =>
   intro k acc a0 a2 a6 a7 a8 a10 a11 a12 a13 a14 a15 a16 a17 a18 h1 h2 hB
   have hk : k = b.ops.length:=by omega
   subst hk
   rw [xl zcu rfl,zd6]
   simp -implicitDefEqProofs only [go_sem,zfR,ym,ya,yl,zu,yq,yo]
 | succ d ih =>
   intro k acc a0 a2 a6 a7 a8 a10 a11 a12 a13 a14 a15 a16 a17 a18 h1 h2 hB
   have hk : k < b.ops.length:=by omega
   have hd : b.ops.drop k = b.ops[k] :: b.ops.drop (k + 1):=yc hk
   have hT:=zr1 b.ops[k] (hb.op _ (yf hk))
   have hle:=hab.2 _ (yf hk)
   have hou : (zkC b.ops[k] i (k : Int)).length = (zaX b.ops[k]).length:=zic f hf _ i k _ 0
   rw [hd,zu,yb,hou] at hB
   have h0:=fun a0 a2 a6 a7 a8 a12 a13 a14 a15 a16 a17 a18 => zzW f hf b hb i k hk (by omega) (zaX b.ops[k]) hle (zaX b.ops[k]).length 0 acc a0 a2 a6 a7 a8 a12 a13 a14 a15 a16 a17 a18 (by omega) (by omega) (by omega)
   simp only [yi,yk] at h0
   have e1 : zO b.ops[k] i k 0 (zaX b.ops[k]) = zkC b.ops[k] i k:=rfl
   rw [e1] at h0
   have:=ih (k + 1) (acc ++ (zkC b.ops[k] i k).map zW) vU vU vU vU vU vU vU vU vU vU vU vU vU vU (by omega) (by omega) (by rw [yb,ya,hou]; omega)
   have e3 : acc ++ (zkC b.ops[k] i k ++ zu i (k + 1) (b.ops.drop (k + 1))).map zW = (acc ++ (zkC b.ops[k] i k).map zW) ++ (zu i (k + 1) (b.ops.drop (k + 1))).map zW:=by rw [yw,yp]
   rw [xl zcu rfl,zd6,hd,zu,e3]
   obtain ⟨a1,ha1⟩ : ∃ a1,a1 = acc ++ (zkC b.ops[k] i k).map zW:=⟨_,rfl⟩
   rw [← ha1] at this ⊢
   simp only [← ha1] at h0
   simp -implicitDefEqProofs only [go_sem] at hT
   simp -implicitDefEqProofs only [go_sem,zfR] at h0 this
   simp -implicitDefEqProofs only [go_sem,zfR,ilt hk,zp hk,ro,ya,hT,h0,za hk hb.ops,this]
include hret
theorem zyL (hab : ∀ b ∈ f.blocks,zjf b) (hol : ∀ b ∈ f.blocks,b.ops.length ≤ 1048576) : ∀ (d k : Nat) (acc : List Use) (a0 a2 a5 a6 a7 a8 a9 a10 a11 a12 a13 a14 a15 a16 a17 a18 : V),f.blocks.length - k = d → k ≤ f.blocks.length → acc.length + (zaB f k (f.blocks.drop k)).length ≤ 4294967296 →
  exec T zch ⟨[a0,.one (.ptr 0 0 0 0),a2,.one (.ap 1 0 (acc.map rU)),vI k,a5,a6,a7,a8,a9,a10,a11,a12,a13,a14,a15,a16,a17,a18],zfR f acc.length [],0,0⟩ =
   some (.exit 0,⟨[vU,vU,vU,.one (.ap 1 0 ((acc ++ (zaB f k (f.blocks.drop k)).map zW).map rU)),vU,vU,vU,vU,vU,vU,vU,vU,vU,vU,vU,vU,vU,vU,vU],zfR f (acc ++ (zaB f k (f.blocks.drop k)).map zW).length [],0,0⟩):=by
 intro d
 induction d with
 | zero =>
   intro k acc a0 a2 a5 a6 a7 a8 a9 a10 a11 a12 a13 a14 a15 a16 a17 a18 h1 h2 hB
   have hk : k = f.blocks.length:=by omega
   subst hk
   rw [xl zch rfl,zd4]
   simp -implicitDefEqProofs only [go_sem,zfR,ym,ya,yl,zaB,yq,yo]
 | succ d ih =>
   intro k acc a0 a2 a5 a6 a7 a8 a9 a10 a11 a12 a13 a14 a15 a16 a17 a18 h1 h2 hB
   have hk : k < f.blocks.length:=by omega
   have hd : f.blocks.drop k = f.blocks[k] :: f.blocks.drop (k + 1):=yc hk
   have hbm:=yf hk
   obtain ⟨b,hb'⟩ : ∃ b,b = f.blocks[k]:=⟨_,rfl⟩
   have gk:=zp (r:=rb) hk
   rw [← hb'] at hbm gk
   have hb:=hf.block _ hbm
   rw [hd,zaB,← hb',zg3,yb,yb,yb] at hB
   have hP:=fun a0 a2 a7 a8 a9 a10 a11 a12 a13 a14 a15 a16 a17 a18 => zzK f hf b hb (hab b hbm) k b.phis.length 0 acc a0 a2 a7 a8 a9 a10 a11 a12 a13 a14 a15 a16 a17 a18 (by omega) (by omega) (by rw [yk]; omega)
   have hO:=fun a0 a2 a6 a7 a8 a10 a11 a12 a13 a14 a15 a16 a17 a18 => zyP f hf b hb (hab b hbm) (hol b hbm) k b.ops.length 0 (acc ++ (zaj b.phis).map zW) a0 a2 a6 a7 a8 a10 a11 a12 a13 a14 a15 a16 a17 a18 (by omega) (by omega) (by rw [yk,yb,ya]; omega)
   have:=ih (k + 1) (acc ++ (zaj b.phis).map zW ++ (zu k 0 b.ops).map zW ++ (zbp f k b).map zW) vU vU vU vU vU vU vU vU vU vU vU vU vU vU vU vU (by omega) (by omega) (by simp only [yb,ya]; omega)
   simp only [yi,yk] at hP hO
   have e3 : acc ++ (zg3 f k b ++ zaB f (k + 1) (f.blocks.drop (k + 1))).map zW = (acc ++ (zaj b.phis).map zW ++ (zu k 0 b.ops).map zW ++ (zbp f k b).map zW) ++ (zaB f (k + 1) (f.blocks.drop (k + 1))).map zW:=by
    rw [zg3]
    simp only [yw,yp]
   rw [xl zch rfl,zd4,hd,zaB,← hb',e3]
   obtain ⟨a1,ha1⟩ : ∃ a1,a1 = acc ++ (zaj b.phis).map zW:=⟨_,rfl⟩
   rw [← ha1] at this ⊢
   simp only [← ha1] at hP hO
   obtain ⟨a2,ha2⟩ : ∃ a2,a2 = a1 ++ (zu k 0 b.ops).map zW:=⟨_,rfl⟩
   rw [← ha2] at this ⊢
   simp only [← ha2] at hO
   have ha2l : a2.length + (zbp f k b).length ≤ 4294967296:=by
    rw [ha2,ha1]
    simp only [yb,ya]
    omega
   simp -implicitDefEqProofs only [go_sem,zfR] at hP hO
   by_cases c0 : b.kind = 0
   ·have e0 : (zbp f k b).map zW = [⟨b.arg,(f.ret,1),(k : Int),1000⟩]:=by
     unfold zbp ziT
     rw [if_pos c0,if_neg hret]
     rfl
    have el : (zbp f k b).length = 1:=by
     have:=congrArg yE e0
     simpa using this
    have hlim : a2.length + 1 ≤ LIM:=by unfold LIM; omega
    have n2 : ¬ b.kind = 2:=by omega
    rw [e0] at this ⊢
    have e1 : yy rU a2 ++ [[Fz.lit (Value.int .i64 b.arg),Fz.lit (Value.int .i64 (k : Int)),Fz.lit (Value.int .i64 1000),Fz.lit (Value.int .i64 f.ret),Fz.lit (Value.int .i64 1)]] = yy rU (a2 ++ [⟨b.arg,(f.ret,1),(k : Int),1000⟩]):=by simp [rU]
    simp -implicitDefEqProofs only [go_sem,zfR,yb,yd,yn,yv] at this
    simp -implicitDefEqProofs only [go_sem,zfR,ilt hk,gk,rb,ya,hP,hO,eq_true c0,n2,hlim,e1,za hk hf.blocks,yb,yd,this]
   ·by_cases c2 : b.kind = 2
    ·have e0 : (zbp f k b).map zW = [⟨b.arg,(1,1),(k : Int),1000⟩]:=by
      unfold zbp ziT
      rw [if_neg c0,if_pos c2]
      rfl
     have el : (zbp f k b).length = 1:=by
      have:=congrArg yE e0
      simpa using this
     have hlim : a2.length + 1 ≤ LIM:=by unfold LIM; omega
     rw [e0] at this ⊢
     have e1 : yy rU a2 ++ [[Fz.lit (Value.int .i64 b.arg),Fz.lit (Value.int .i64 (k : Int)),Fz.lit (Value.int .i64 1000),Fz.lit (Value.int .i64 1),Fz.lit (Value.int .i64 1)]] = yy rU (a2 ++ [⟨b.arg,(1,1),(k : Int),1000⟩]):=by simp [rU]
     simp -implicitDefEqProofs only [go_sem,zfR,yb,yd,yn,yv] at this
     simp -implicitDefEqProofs only [go_sem,zfR,ilt hk,gk,rb,ya,hP,hO,c0,eq_true c2,hlim,e1,za hk hf.blocks,yb,yd,this]
    ·have e0 : zbp f k b = []:=by
      unfold zbp ziT
      rw [if_neg c0,if_neg c2]
      rfl
     rw [e0,yq,yo] at this ⊢
     simp -implicitDefEqProofs only [go_sem,zfR] at this
     simp -implicitDefEqProofs only [go_sem,zfR,ilt hk,gk,rb,ya,hP,hO,c0,c2,za hk hf.blocks,this]
theorem zsC (hab : ∀ b ∈ f.blocks,zjf b) (hol : ∀ b ∈ f.blocks,b.ops.length ≤ 1048576) (hB : (ze4 f).length ≤ 4294967296) : call T 76 [zgS f] [] = some (vUs ((ze4 f).map zW),[]):=by
 rw [ze (fn:=zeP) rfl]
 have h:=fun a0 a2 a5 a6 a7 a8 a9 a10 a11 a12 a13 a14 a15 a16 a17 a18 => zyL f hf hret hab hol f.blocks.length 0 [] a0 a2 a5 a6 a7 a8 a9 a10 a11 a12 a13 a14 a15 a16 a17 a18 (by omega) (by omega) (by simpa [ze4] using hB)
 have e : zaB f 0 f.blocks = ze4 f:=rfl
 simp only [yi,yk,yB,yq,yn,e] at h
 simp -implicitDefEqProofs only [go_sem,zfR] at h
 simp -implicitDefEqProofs only [go_sem,zeP,h]
end
end AC
namespace AC
open Go Go.A Go.A.Lex
def rbo (b : Bool) : List Fz:=[.lit (.bool b)]
def zfD (b : Bool) : List C:=[.f (.lit (.bool b))]
abbrev vBs (l : List Bool) : V:=.one (.f (.sl (l.map rbo)))
attribute [go_sem] vBs
theorem zq9 (l : List Bool) : zaq (l.map zfD) = some (l.map rbo):=by
 induction l with
 | nil => rfl
 | cons x l ih => rw [yz,zaq,ih]; rfl
theorem zEA {l : List Bool} {k : Nat} (h : k < l.length) : (l.map zfD)[k]? = some [.f (.lit (.bool (l.getD k false)))]:=by simp [h,zfD]
def mark (w : Int) (out : List Bool) (y : Int) : List Bool:=if y = w then out else out.set y.toNat true
theorem zk5 (w : Int) (out : List Bool) (y : Int) : (mark w out y).length = out.length:=by unfold mark; split <;> simp
theorem zhl (w : Int) : ∀ (l : List Int) (out : List Bool),(l.foldl (mark w) out).length = out.length
 | [],_ => rfl
 | y :: l,out => by rw [yC,zhl w l,zk5]
theorem zsK {w : Int} {out : List Bool} {y : Int} {i : Nat} (h : out.getD i false = true) : (mark w out y).getD i false = true:=by
 unfold mark
 split
 ·exact h
 ·have hi : i < out.length:=by
   rcases Nat.lt_or_ge i out.length with h1 | h1
   ·exact h1
   ·rw [ye,List.getElem?_eq_none h1] at h
    cases h
  by_cases c : y.toNat = i
  ·rw [c,ye,List.getElem?_set_self hi]
   rfl
  ·rw [ye,List.getElem?_set_ne c,← ye]
   exact h
def zi7 (w : Int) : Nat → List (List Int) → List Bool → List Bool
 | _,[],out => out
 | i,l :: r,out => zi7 w (i + 1) r (if out.getD i false = true then l.foldl (mark w) out else out)
theorem zhi (w : Int) : ∀ (r : List (List Int)) (i : Nat) (out : List Bool),(zi7 w i r out).length = out.length
 | [],_,_ => rfl
 | l :: r,i,out => by
   rw [zi7,zhi w r]
   split
   ·exact zhl w l out
   ·rfl
def ze0 (w : Int) (succ : List (List Int)) : Nat → List Bool → List Bool
 | 0,out => out
 | r + 1,out => ze0 w succ r (zi7 w 0 succ out)
theorem zgy (w : Int) (succ : List (List Int)) : ∀ (r : Nat) (out : List Bool),(ze0 w succ r out).length = out.length
 | 0,_ => rfl
 | r + 1,out => by rw [ze0,zgy w succ r,zhi]
def zdn (succ : List (List Int)) (root w : Int) : List Bool:=if root = w then yg succ.length false else ze0 w succ succ.length ((yg succ.length false).set root.toNat true)
section
variable (succ pred : List (List Int)) (hn : succ.length ≤ 4294967296) (hl : ∀ l ∈ succ,l.length ≤ 4294967296) (hr : ∀ l ∈ succ,∀ y ∈ l,0 ≤ y ∧ y < (succ.length : Int)) (w : Int)
abbrev zqd : Ob:=.cells 0 2 [[.f (.sl (succ.map rl)),.f (.sl (pred.map rl))]]
abbrev zoi (out : List Bool) : zd:=[zqd succ pred,.cells 0 1 (out.map zfD)]
include hn hl hr
theorem zBp (R : Int) (i : Nat) (hi : i < succ.length) : ∀ (d k : Nat) (out : List Bool) (a0 a1 a4 a9 a10 a11 a12 a13 : V),out.length = succ.length → out.getD i false = true → succ[i].length - k = d → k ≤ succ[i].length →
  exec T zag ⟨[a0,a1,vI w,.one (.ptr 0 0 0 0),a4,.one (.own 1 0 0 succ.length),vI R,vI i,vI k,a9,a10,a11,a12,a13],zoi succ pred out,0,0⟩ =
   some (.exit 4,⟨[vU,vU,vI w,.one (.ptr 0 0 0 0),vU,.one (.own 1 0 0 succ.length),vI R,vI i,vU,vU,vU,vU,vU,vU],zoi succ pred ((succ[i].drop k).foldl (mark w) out),0,0⟩):=by
 intro d
 induction d with
 | zero =>
   intro k out a0 a1 a4 a9 a10 a11 a12 a13 ho ht h1 h2
   have hk : k = succ[i].length:=by omega
   subst hk
   have gB:=zEA (l:=out) (k:=i) (by omega)
   rw [ht] at gB
   rw [xl zag rfl,zbH]
   simp -implicitDefEqProofs only [go_sem,zoi,zqd,ilt hi,zp hi,rl,gB,ym,ya,yl,List.foldl_nil,yh,yj]
 | succ d ih =>
   intro k out a0 a1 a4 a9 a10 a11 a12 a13 ho ht h1 h2
   have hk : k < succ[i].length:=by omega
   have hd : succ[i].drop k = succ[i][k] :: succ[i].drop (k + 1):=yc hk
   have gB:=zEA (l:=out) (k:=i) (by omega)
   rw [ht] at gB
   obtain ⟨y,hy⟩ : ∃ y,y = succ[i][k]:=⟨_,rfl⟩
   have ry:=hr _ (yf hi) _ (yf hk)
   have hll:=hl _ (yf hi)
   rw [← hy] at ry
   have gY:=zEA (l:=out) (k:=y.toNat) (by omega)
   have:=ih (k + 1) (mark w out y) vU vU vU vU vU vU vU vU (by rw [zk5]; exact ho) (zsK ht) (by omega) (by omega)
   have y0 : ¬ y < 0:=by omega
   have y1:=ry.1
   have y2:=ry.2
   have hset : (out.map zfD).set y.toNat [C.f (.lit (.bool true))] = (out.set y.toNat true).map zfD:=by rw [yD]; rfl
   rw [xl zag rfl,zbH,hd,yC,← hy]
   have gk:=zp (r:=ri) hk
   rw [← hy] at gk
   by_cases c : y = w
   ·simp -implicitDefEqProofs only [go_sem,zoi,zqd,mark,c] at this
    simp -implicitDefEqProofs only [go_sem,zoi,zqd,ilt hi,ilt hk,zp hi,gk,ri,rl,gB,ya,yh,yj,za hk hll,mark,c,this]
   ·simp -implicitDefEqProofs only [go_sem,zoi,zqd,mark,c] at this
    simp -implicitDefEqProofs only [go_sem,zoi,zqd,ilt hi,ilt hk,zp hi,gk,ri,rl,gB,ya,yh,yj,za hk hll,mark,c,y1,y2,gY,hset,this]
theorem zuT (R : Int) (i : Nat) (hi : i < succ.length) (out : List Bool) (ho : out.length = succ.length) (ht : out.getD i false = false) a0 a1 a4 a9 a10 a11 a12 a13 :
  exec T zag ⟨[a0,a1,vI w,.one (.ptr 0 0 0 0),a4,.one (.own 1 0 0 succ.length),vI R,vI i,vI 0,a9,a10,a11,a12,a13],zoi succ pred out,0,0⟩ =
   some (.exit 4,⟨[vU,vU,vI w,.one (.ptr 0 0 0 0),vU,.one (.own 1 0 0 succ.length),vI R,vI i,vU,vU,vU,vU,vU,vU],zoi succ pred out,0,0⟩):=by
 have gB:=zEA (l:=out) (k:=i) (by omega)
 rw [ht] at gB
 rw [xl zag rfl,zbH]
 simp -implicitDefEqProofs only [go_sem,zoi,zqd,ilt hi,gB,yh,yj]
theorem zB0 (R : Int) : ∀ (d k : Nat) (out : List Bool) (a0 a1 a4 a8 a9 a10 a11 a12 a13 : V),out.length = succ.length → succ.length - k = d → k ≤ succ.length →
  exec T zbw ⟨[a0,a1,vI w,.one (.ptr 0 0 0 0),a4,.one (.own 1 0 0 succ.length),vI R,vI k,a8,a9,a10,a11,a12,a13],zoi succ pred out,0,0⟩ =
   some (.exit 2,⟨[vU,vU,vI w,.one (.ptr 0 0 0 0),vU,.one (.own 1 0 0 succ.length),vI R,vU,vU,vU,vU,vU,vU,vU],zoi succ pred (zi7 w k (succ.drop k) out),0,0⟩):=by
 intro d
 induction d with
 | zero =>
   intro k out a0 a1 a4 a8 a9 a10 a11 a12 a13 ho h1 h2
   have hk : k = succ.length:=by omega
   subst hk
   rw [xl zbw rfl,zdx]
   simp -implicitDefEqProofs only [go_sem,zoi,zqd,ym,ya,yl,zi7]
 | succ d ih =>
   intro k out a0 a1 a4 a8 a9 a10 a11 a12 a13 ho h1 h2
   have hk : k < succ.length:=by omega
   have hd : succ.drop k = succ[k] :: succ.drop (k + 1):=yc hk
   rw [xl zbw rfl,zdx,hd,zi7]
   cases c : out.getD k false
   ·have h0:=fun a0 a1 a4 a9 a10 a11 a12 a13 => zuT succ pred hn hl hr w R k hk out ho c a0 a1 a4 a9 a10 a11 a12 a13
    have:=ih (k + 1) out vU vU vU vU vU vU vU vU vU ho (by omega) (by omega)
    simp -implicitDefEqProofs only [go_sem,zoi,zqd] at h0 this
    simp -implicitDefEqProofs only [go_sem,zoi,zqd,ilt hk,h0,za hk hn,this]
   ·have h0:=fun a0 a1 a4 a9 a10 a11 a12 a13 => zBp succ pred hn hl hr w R k hk succ[k].length 0 out a0 a1 a4 a9 a10 a11 a12 a13 ho c (by omega) (by omega)
    simp only [yi,yk] at h0
    have:=ih (k + 1) (succ[k].foldl (mark w) out) vU vU vU vU vU vU vU vU vU (by rw [zhl]; exact ho) (by omega) (by omega)
    simp -implicitDefEqProofs only [go_sem,zoi,zqd] at h0 this
    simp -implicitDefEqProofs only [go_sem,zoi,zqd,ilt hk,h0,za hk hn,this]
theorem zA0 : ∀ (d k : Nat) (out : List Bool) (a0 a1 a4 a7 a8 a9 a10 a11 a12 a13 : V),out.length = succ.length → succ.length - k = d → k ≤ succ.length →
  exec T zbJ ⟨[a0,a1,vI w,.one (.ptr 0 0 0 0),a4,.one (.own 1 0 0 succ.length),vI k,a7,a8,a9,a10,a11,a12,a13],zoi succ pred out,0,0⟩ =
   some (.exit 0,⟨[vU,vU,vU,vU,vU,.one (.own 1 0 0 succ.length),vU,vU,vU,vU,vU,vU,vU,vU],zoi succ pred (ze0 w succ d out),0,0⟩):=by
 intro d
 induction d with
 | zero =>
   intro k out a0 a1 a4 a7 a8 a9 a10 a11 a12 a13 ho h1 h2
   have hk : k = succ.length:=by omega
   subst hk
   rw [xl zbJ rfl,zdF]
   simp -implicitDefEqProofs only [go_sem,zoi,zqd,ym,ya,ze0]
 | succ d ih =>
   intro k out a0 a1 a4 a7 a8 a9 a10 a11 a12 a13 ho h1 h2
   have hk : k < succ.length:=by omega
   rw [xl zbJ rfl,zdF,ze0]
   have h0:=fun a0 a1 a4 a8 a9 a10 a11 a12 a13 => zB0 succ pred hn hl hr w k succ.length 0 out a0 a1 a4 a8 a9 a10 a11 a12 a13 ho (by omega) (by omega)
   simp only [yi,yk] at h0
   have:=ih (k + 1) (zi7 w 0 succ out) vU vU vU vU vU vU vU vU vU vU (by rw [zhi]; exact ho) (by omega) (by omega)
   simp -implicitDefEqProofs only [go_sem,zoi,zqd] at h0 this
   simp -implicitDefEqProofs only [go_sem,zoi,zqd,ilt hk,h0,za hk hn,this]
theorem zmF (root : Int) (h0 : 0 ≤ root ∧ root < (succ.length : Int)) : call T 124 [.agg [.f (.sl (succ.map rl)),.f (.sl (pred.map rl))],vI root,vI w] [] = some (vBs (zdn succ root w),[]):=by
 rw [ze (fn:=zbZ) rfl]
 have hz : yg succ.length [C.f (.lit (.bool false))] = (yg succ.length false).map zfD:=by rw [List.map_replicate]; rfl
 have hlim : (succ.length : Int) ≤ (LIM : Int):=by unfold LIM; omega
 have hf:=fun l => zq9 l
 obtain ⟨r0,r1⟩:=h0
 by_cases c : root = w
 ·have ht : ((yg succ.length false).map zfD).take succ.length = (yg succ.length false).map zfD:=yt (by simp)
  simp -implicitDefEqProofs only [go_sem,zbZ,hlim,yh,yj,ya,hz,c,ht,hf,zdn]
 ·have gB:=zEA (l:=yg succ.length false) (k:=root.toNat) (by simp; omega)
  have hset : ((yg succ.length false).map zfD).set root.toNat [C.f (.lit (.bool true))] = ((yg succ.length false).set root.toNat true).map zfD:=by rw [yD]; rfl
  have h:=fun a0 a1 a4 a7 a8 a9 a10 a11 a12 a13 => zA0 succ pred hn hl hr w succ.length 0 ((yg succ.length false).set root.toNat true) a0 a1 a4 a7 a8 a9 a10 a11 a12 a13 (by simp) (by omega) (by omega)
  simp only [yi] at h
  obtain ⟨res,hres⟩ : ∃ res,res = ze0 w succ succ.length ((yg succ.length false).set root.toNat true):=⟨_,rfl⟩
  have hlr : res.length = succ.length:=by rw [hres,zgy]; simp
  have ht : (res.map zfD).take succ.length = res.map zfD:=yt (by simp [hlr])
  have e : zdn succ root w = res:=by unfold zdn; rw [if_neg c,hres]
  rw [e]
  rw [← hres] at h
  simp -implicitDefEqProofs only [go_sem,zoi,zqd] at h
  simp -implicitDefEqProofs only [go_sem,zbZ,hlim,yh,yj,ya,hz,c,r0,r1,gB,hset,h,ht,hf]
end
end AC
namespace Dm
section
variable (E : Int → Int → Prop) (root : Int)
inductive Way : Int → List Int → Prop
 | root : Way root [root]
 | step {p x : Int} {l : List Int} : Way p l → E p x → Way x (x :: l)
def Dom (d x : Int) : Prop:=∀ l,Way E root x l → d ∈ l
structure Ord (O : Int → Prop) (pos : Int → Nat) : Prop where
 rt : O root
 inj : ∀ a b,O a → O b → pos a = pos b → a = b
 low : ∀ a,O a → pos root ≤ pos a
 par : ∀ x,O x → x ≠ root → ∃ p,O p ∧ E p x ∧ pos p < pos x
 cl : ∀ p x,O p → E p x → O x
inductive Inc (pos : Int → Nat) : Int → Int → Prop
 | refl (a : Int) : Inc pos a a
 | step {a p x : Int} : Inc pos a p → E p x → pos p < pos x → Inc pos a x
inductive Anc (T : Int → Int) : Int → Int → Prop
 | refl (x : Int) : Anc T x x
 | step {y x : Int} : x ≠ root → Anc T y (T x) → Anc T y x
def Com (T : Int → Int) (x y : Int) : Prop:=∀ p,E p x → T p ≠ -2 → Anc root T y p
def St (T : Int → Int) (x : Int) : Prop:=T x ≠ -2 ∧ ∀ y,Anc root T y (T x) ↔ Com E root T x y
structure Inv (O : Int → Prop) (pos : Int → Nat) (T : Int → Int) : Prop where
 out : ∀ x,¬ O x → T x = -2
 rt : T root = root
 nn : ∀ x,O x → x ≠ -2
 par : ∀ x,x ≠ root → T x ≠ -2 → T (T x) ≠ -2 ∧ pos (T x) < pos x
 A : ∀ x d,x ≠ root → T x ≠ -2 → Dom E root d x → d ≠ x → Dom E root d (T x)
 P : ∀ x,x ≠ root → T x ≠ -2 → Inc E pos (T x) x
 B : ∀ x,x ≠ root → T x ≠ -2 → ∀ y,Com E root T x y → pos y ≤ pos (T x)
end
variable {E : Int → Int → Prop} {root : Int} {O : Int → Prop} {pos : Int → Nat}
section
variable (H : Ord E root O pos)
include H
theorem zvE {x : Int} {l : List Int} (h : Way E root x l) : O x ∧ ∀ y ∈ l,O y:=by
 induction h with
 | root => exact ⟨H.rt,fun y hy => by rw [yr.1 hy]; exact H.rt⟩
 | step h e ih =>
   have:=H.cl _ _ ih.1 e
   refine ⟨this,fun y hy => ?_⟩
   rcases yA.1 hy with rfl | hy
   ·exact this
   ·exact ih.2 y hy
theorem zCx : ∀ (n : Nat) (x : Int),pos x ≤ n → O x → ∃ l,Way E root x l ∧ ∀ y ∈ l,y = x ∨ pos y < pos x:=by
 intro n
 induction n with
 | zero =>
   intro x hx ho
   by_cases c : x = root
   ·subst c
    exact ⟨_,.root,fun y hy => .inl (yr.1 hy)⟩
   ·obtain ⟨p,_,_,h⟩:=H.par x ho c
    omega
 | succ n ih =>
   intro x hx ho
   by_cases c : x = root
   ·subst c
    exact ⟨_,.root,fun y hy => .inl (yr.1 hy)⟩
   ·obtain ⟨p,hp,e,h⟩:=H.par x ho c
    obtain ⟨l,w,hl⟩:=ih p (by omega) hp
    refine ⟨_,.step w e,fun y hy => ?_⟩
    rcases yA.1 hy with rfl | hy
    ·exact .inl rfl
    ·rcases hl y hy with rfl | h2
     ·exact .inr h
     ·exact .inr (by omega)
theorem zsc {d x : Int} (hx : O x) (h : Dom E root d x) : d = x ∨ pos d < pos x:=by
 obtain ⟨l,w,hl⟩:=zCx H _ x (yx _) hx
 exact hl d (h l w)
theorem zFq {d x : Int} (hx : O x) (h : Dom E root d x) : O d:=by
 obtain ⟨l,w,hl⟩:=zCx H _ x (yx _) hx
 exact (zvE H w).2 d (h l w)
end
theorem zvM {d p x : Int} (e : E p x) (h : Dom E root d x) (hd : d ≠ x) : Dom E root d p:=by
 intro l w
 rcases yA.1 (h _ (.step w e)) with h | h
 ·exact absurd h hd
 ·exact h
theorem zAW (x : Int) : Dom E root x x:=by
 intro l w
 cases w with
 | root => simp
 | step => simp
theorem zDh {a b : Int} (h : Inc E pos a b) : a = b ∨ pos a < pos b:=by
 induction h with
 | refl => exact .inl rfl
 | step h e l ih => rcases ih with rfl | ih <;> right <;> omega
theorem zzU {a b c : Int} (h : Inc E pos a b) (k : Inc E pos b c) : Inc E pos a c:=by
 induction k with
 | refl => exact h
 | step k e l ih => exact .step ih e l
theorem zx3 {T : Int → Int} {a b c : Int} (h : Anc root T a b) (k : Anc root T b c) : Anc root T a c:=by
 induction k with
 | refl => exact h
 | step n k ih => exact .step n ih
theorem zno {T : Int → Int} {y x : Int} (h : Anc root T y x) (hn : y ≠ x) : x ≠ root ∧ Anc root T y (T x):=by
 cases h with
 | refl => exact absurd rfl hn
 | step n h => exact ⟨n,h⟩
section
variable (H : Ord E root O pos) {T : Int → Int} (I : Inv E root O pos T)
include H I
theorem zi9 {x : Int} (h : T x ≠ -2) : O x:=by
 by_cases c : O x
 ·exact c
 ·exact absurd (I.out x c) h
theorem zCv : T root ≠ -2:=by rw [I.rt]; exact I.nn _ H.rt
theorem zDe {y x : Int} (h : Anc root T y x) (hx : T x ≠ -2) : T y ≠ -2 ∧ (y = x ∨ pos y < pos x):=by
 induction h with
 | refl => exact ⟨hx,.inl rfl⟩
 | step n h ih =>
   obtain ⟨h1,h2⟩:=I.par _ n hx
   obtain ⟨h3,h4⟩:=ih h1
   refine ⟨h3,.inr ?_⟩
   rcases h4 with h4 | h4
   ·rw [h4]; exact h2
   ·omega
theorem ztr {y x : Int} (h : Anc root T y x) (hx : T x ≠ -2) : pos y ≤ pos x:=by
 rcases (zDe H I h hx).2 with rfl | h <;> omega
theorem zAY {d m x : Int} (h : Anc root T m x) (hx : T x ≠ -2) (hd : Dom E root d x) (hm : Anc root T d m) : Dom E root d m:=by
 induction h with
 | refl => exact hd
 | step n h ih =>
   rename_i x0
   obtain ⟨h1,h2⟩:=I.par _ n hx
   refine ih h1 (I.A _ _ n hx hd ?_)
   rintro rfl
   have a1:=ztr H I h h1
   have a2:=ztr H I hm (zDe H I h h1).1
   omega
theorem zyg : ∀ (n : Nat) (x d : Int),pos x ≤ n → T x ≠ -2 → Dom E root d x → Anc root T d x:=by
 intro n
 induction n with
 | zero =>
   intro x d hn hx hd
   by_cases c : d = x
   ·subst c; exact .refl _
   ·rcases zsc H (zi9 H I hx) hd with h | h
    ·exact absurd h c
    ·omega
 | succ n ih =>
   intro x d hn hx hd
   by_cases c : d = x
   ·subst c; exact .refl _
   ·have hr : x ≠ root:=by
     rintro rfl
     rcases zsc H H.rt hd with h | h
     ·exact c h
     ·have:=H.low d (zFq H H.rt hd)
      omega
    obtain ⟨h1,h2⟩:=I.par _ hr hx
    exact .step hr (ih _ _ (by omega) h1 (I.A _ _ hr hx hd c))
theorem zEv {a b : Int} (h : Inc E pos a b) (ha : O a) : O b:=by
 induction h with
 | refl => exact ha
 | step h e l ih => exact H.cl _ _ ih e
theorem zDg {y x : Int} (h : Anc root T y x) (hx : T x ≠ -2) : Inc E pos y x:=by
 induction h with
 | refl => exact .refl _
 | step n h ih => exact zzU (ih (I.par _ n hx).1) (I.P _ n hx)
section
variable {z : Int} (hst : ∀ y,O y → y ≠ root → pos y < pos z → St E root T y)
include hst
theorem zsh {y : Int} (h : O y) (hp : pos y < pos z) : T y ≠ -2:=by
 by_cases c : y = root
 ·rw [c]; exact zCv H I
 ·exact (hst y h c hp).1
theorem zEa {a v y : Int} (h : Inc E pos a v) (ha : O a) (hv : pos v < pos z) (hy : Anc root T y v) (hp : pos y ≤ pos a) : Anc root T y a:=by
 induction h with
 | refl => exact hy
 | step h e l ih =>
   rename_i p v
   have ho:=zEv H I h ha
   have hle : pos a ≤ pos p:=by rcases zDh h with rfl | h <;> omega
   have hne : y ≠ v:=by rintro rfl; omega
   obtain ⟨hr,h2⟩:=zno hy hne
   have hs:=hst v (H.cl _ _ ho e) hr hv
   exact ih (by omega) ((hs.2 y).1 h2 p e (zsh H I hst ho (by omega)))
theorem key {y : Int} (hr : z ≠ root) (hz : T z ≠ -2) (hy : Com E root T z y) : Anc root T y (T z):=by
 have hP:=I.P z hr hz
 have hB:=I.B z hr hz y hy
 obtain ⟨h1,h2⟩:=I.par z hr hz
 have ho:=zi9 H I h1
 generalize hw : T z = w at hP hB h2 ho
 cases hP with
 | refl => omega
 | step h e l =>
   have hpo:=zEv H I h ho
   exact zEa H I hst h ho l (hy _ e (zsh H I hst hpo l)) hB
end
end
structure Upd (E : Int → Int → Prop) (root : Int) (O : Int → Prop) (pos : Int → Nat) (T T' : Int → Int) (z m : Int) : Prop where
 at' : T' z = m
 ne : ∀ x,x ≠ z → T' x = T x
 oz : O z
 hr : z ≠ root
 st : ∀ y,O y → y ≠ root → pos y < pos z → St E root T y
 hm : T m ≠ -2
 best : ∀ y,Anc root T y m ↔ Com E root T z y
 new : m ≠ T z
section
variable (H : Ord E root O pos) {T T' : Int → Int} (I : Inv E root O pos T) {z m : Int} (U : Upd E root O pos T T' z m)
include H I U
theorem zr8 : ∃ p,E p z ∧ T p ≠ -2 ∧ pos p < pos z ∧ Anc root T m p:=by
 obtain ⟨p,h1,h2,h3⟩:=H.par z U.oz U.hr
 have hp:=zsh H I U.st h1 h3
 exact ⟨p,h2,hp,h3,(U.best m).1 (.refl _) p h2 hp⟩
theorem zCJ : pos m < pos z ∧ m ≠ -2 ∧ m ≠ z:=by
 obtain ⟨p,h1,h2,h3,h4⟩:=zr8 H I U
 have:=ztr H I h4 h2
 refine ⟨by omega,I.nn _ (zi9 H I U.hm),?_⟩
 rintro rfl
 omega
theorem zvH {x : Int} (h : T x ≠ -2) : T' x ≠ -2:=by
 by_cases c : x = z
 ·rw [c,U.at']; exact (zCJ H I U).2.1
 ·rw [U.ne x c]; exact h
theorem shrink {y x : Int} (h : Anc root T' y x) (hx : T x ≠ -2) : Anc root T y x:=by
 induction h with
 | refl => exact .refl _
 | step n h ih =>
   rename_i x
   by_cases c : x = z
   ·subst c
    rw [U.at'] at h ih
    have h1:=ih U.hm
    exact .step n (zx3 h1 (key H I U.st n hx ((U.best m).1 (.refl _))))
   ·rw [U.ne x c] at h ih
    exact .step n (ih (I.par _ n hx).1)
theorem zxY (hz : T z ≠ -2) : pos m < pos (T z):=by
 have h:=key H I U.st U.hr hz ((U.best m).1 (.refl _))
 have h1:=(I.par z U.hr hz).1
 rcases (zDe H I h h1).2 with h | h
 ·exact absurd h U.new
 ·exact h
theorem zDb : Inv E root O pos T':=by
 obtain ⟨m1,m2,m3⟩:=zCJ H I U
 have hOz:=U.oz
 have com : ∀ x y,Com E root T' x y → (Com E root T x y):=fun x y h p e hp => shrink H I U (h p e (zvH H I U hp)) hp
 refine ⟨fun x hx => ?_,?_,I.nn,fun x hr hx => ?_,fun x d hr hx hd hn => ?_,fun x hr hx => ?_,fun x hr hx y hy => ?_⟩
 ·rw [U.ne x (by rintro rfl; exact hx hOz)]; exact I.out x hx
 ·rw [U.ne _ (fun h => U.hr h.symm)]; exact I.rt
 ·by_cases c : x = z
  ·subst c
   rw [U.at',U.ne m m3]
   exact ⟨U.hm,m1⟩
  ·rw [U.ne x c] at hx ⊢
   exact ⟨zvH H I U (I.par x hr hx).1,(I.par x hr hx).2⟩
 ·by_cases c : x = z
  ·subst c
   rw [U.at']
   obtain ⟨p,h1,h2,h3,h4⟩:=zr8 H I U
   have hda : Anc root T d m:=(U.best d).2 fun q e hq => zyg H I _ q d (yx _) hq (zvM e hd hn)
   exact zAY H I h4 h2 (zvM h1 hd hn) hda
  ·rw [U.ne x c] at hx ⊢
   exact I.A x d hr hx hd hn
 ·by_cases c : x = z
  ·subst c
   rw [U.at']
   obtain ⟨p,h1,h2,h3,h4⟩:=zr8 H I U
   exact .step (zDg H I h4 h2) h1 h3
  ·rw [U.ne x c] at hx ⊢
   exact I.P x hr hx
 ·by_cases c : x = z
  ·subst c
   rw [U.at']
   exact ztr H I ((U.best y).2 (com _ _ hy)) U.hm
  ·rw [U.ne x c] at hx ⊢
   exact I.B x hr hx y (com _ _ hy)
end
section
variable (H : Ord E root O pos) {T : Int → Int} (I : Inv E root O pos T) (hs : ∀ x,O x → x ≠ root → St E root T x)
include H I hs
theorem zDJ {x : Int} (h : O x) : T x ≠ -2:=by
 by_cases c : x = root
 ·rw [c]; exact zCv H I
 ·exact (hs x h c).1
theorem zCN {x : Int} {l : List Int} (w : Way E root x l) : ∀ y,Anc root T y x → y ∈ l:=by
 induction w with
 | root =>
   intro y h
   by_cases c : y = root
   ·simp [c]
   ·exact absurd rfl (zno h c).1
 | step w e ih =>
   rename_i p x l
   intro y h
   by_cases c : y = x
   ·simp [c]
   ·obtain ⟨hr,h2⟩:=zno h c
    have ho:=(zvE H w).1
    have:=(hs x (H.cl _ _ ho e) hr).2 y |>.1 h2 p e (zDJ H I hs ho)
    exact List.mem_cons_of_mem _ (ih y this)
theorem zuz {d x : Int} (hx : O x) : Anc root T d x ↔ Dom E root d x :=
 ⟨fun h l w => zCN H I hs w d h,fun h => zyg H I _ x d (yx _) (zDJ H I hs hx) h⟩
end
end Dm
