/- A part of the proof of SchedBack. Conditions: none. -/
import Derived.Test.YtmkncmffaaninaaGreatBBD
import Derived.Test.YtmkncmffaaninaaGreatBAR
import Derived.KernelRfl
import Derived.Test.YtmkncmffaaninaaGreatBBC
import Derived.Shelf.RegionOpenPlain
import Derived.WalkKit
import Derived.Deep.LoopGhost
import Derived.Lib.Walk
import Derived.Lib.SliceRun
import Derived.Test.YtmkncmffaaninaaGreatBAM
import GoSem.ClaimChange
import Derived.DataReads
import Derived.ProofKit
import Derived.Test.YtmkncmffaaninaaGreatRows
set_option linter.unusedVariables false
set_option linter.unusedSimpArgs false
set_option linter.unusedSectionVars false
open List renaming getElem?_append_left → ya,mem_of_getElem? → yc,getElem?_eq_getElem → yd,pairwise_cons → yf,length_map → yg,eq_nil_of_length_eq_zero → yi,replicate → yk,getElem?_append → ym,getElem?_take → yo,getElem?_map → yp,mem_cons → yr
open Array renaming getElem?_eq_some_iff → yb
open Nat renaming le_refl → ye,lt_of_lt_of_le → yn
open Option renaming bind_eq_some_iff → yh
open Int renaming toNat_natCast → yj,lt_irrefl → yq
open Bool renaming and_eq_true → yl
namespace Go.A
open Go.RowKit (Below)
section
variable {g : G} {w w' : World} {σ : zb}
theorem zyY (R : Rel g w σ) (hB : Below w.heap.size w w') {gb : Nat} {cur : Array Value} {t : TypeId} (hgb : w'.heap[gb]? = some (.cells cur t (0,0))) (hbase : w.heap.size ≤ gb) {l : List Int} (hl : l.length ≤ cur.size) (hc : ∀ (j : Nat) x,l[j]? = some x → cur[j]? = some (.int .i64 x)) :
  Ext g w σ (g.own σ.length gb) w' (σ ++ [.cells 0 1 (l.map zi)]) ∧ Rel (g.own σ.length gb) w' (σ ++ [.cells 0 1 (l.map zi)]):=by
 have hρ : ∀ id,id < σ.length → (g.own σ.length gb).ρ id = g.ρ id:=fun id h => zae g.ρ (k:=σ.length) (i:=id) _ (by omega)
 have hw : ∀ b,b < w.heap.size → (g.own σ.length gb).ow b = g.ow b:=fun b h => zae g.ow (k:=gb) (i:=b) _ (by omega)
 have H : Ext g w σ (g.own σ.length gb) w' (σ ++ [.cells 0 1 (l.map zi)]):={
  os:=hB.os
  tape:=hB.tape
  output:=hB.output
  size:=hB.size
  keeps:=fun b i h => ⟨h,by unfold World.cell?; rw [hB.block b (R.nb b i h)]⟩
  len:=by simp
  shape:=fun id ver sz len h => by
   obtain ⟨es,h1,h2⟩:=zak h
   have hlt:=za h1
   refine .inl ⟨by unfold shapeOf; rw [ya hlt]; exact h,hρ id hlt,fun _ arr t ha => ⟨arr,?_,rfl⟩⟩
   rw [hB.block _ (yb.1 ha).1]
   exact ha
  map:=fun id es h => ⟨hρ id (za h),es,by rw [ya (za h)]; exact h⟩
  tok:=fun t k n h => by
   obtain ⟨sz,fr,h1,h2⟩:=zbJ h
   exact ⟨n,zcc (by rw [ya (za h1)]; exact h1) h2,ye _,fun _ => rfl⟩
  tsz:=fun t sz h => by
   obtain ⟨fr,h1⟩:=zcB h
   exact za9 (fr:=fr) (by rw [ya (za h1)]; exact h1)
  ow:=hw
  new:=fun b i h _ _ => h
  frame:=fun b hb _ => hB.block b hb }
 refine ⟨H,⟨fun b i h => yn (R.nb b i h) hB.size,fun id x h => ?_⟩⟩
 by_cases hlt : id < σ.length
 ·rw [ya hlt] at h
  exact zbA H (hρ id hlt) (fun _ => rfl) (fun b hb _ => ⟨hB.block b hb,hw b hb,fun _ h => h⟩) (R.ob id x h)
 ·have hid : id = σ.length:=by
   have:=za h
   simp at this
   omega
  subst hid
  simp at h
  subst h
  intro _
  have e1 : (g.own σ.length gb).ρ σ.length = gb:=by simp [G.own]
  have e2 : (g.own σ.length gb).ow gb = .ob σ.length:=by simp [G.own]
  rw [e1]
  refine ⟨e2,fun o h => by have:=R.nb _ _ h; omega,cur,t,hgb,by simpa using hl,fun i e he => ?_⟩
  rw [yp,Option.map_eq_some_iff] at he
  obtain ⟨x,hx,rfl⟩:=he
  refine ⟨rfl,fun j c hcc => ?_⟩
  cases j with
  | succ j => simp [zi] at hcc
  | zero =>
    simp [zi] at hcc
    subst hcc
    exact ⟨.int .i64 x,by simpa using hc i x hx,by simp [zr,rep,zuq],rfl⟩
end
theorem zkI : ∀ {xs : List (List Fz)} {l : List Int},zdT xs = some l → xs = l.map ztT
 | [],l,h => by simp [zdT] at h; subst h; rfl
 | x :: xs,l,h => by
   simp only [zdT] at h
   unfold zde at h
   split at h
   ·rename_i a0 bs h1 h2
    injection h with h
    subst h
    rw [zkI h2]
    unfold zr3 at h1
    split at h1
    ·injection h1 with h1; subst h1; rfl
    ·cases h1
   ·cases h
end Go.A
namespace Go.Proofs
open Go.RowKit Go.Maps Go.Sort Go.Shelf
open Go.A in
theorem Tryz.ext_sorted (args : List V) (σ : zb) (v : V) (σ' : zb) (h : zet 177 args σ = some (v,σ')) :
  Go.A.Enters Tryz.prog 145 ∧ ∀ g w us,Rel g w σ → zv g w σ args us → Calls Tryz.prog 145 us.toArray w fun e w' => ∃ u g',e = .returned u ∧ zf g' w' σ' v u ∧ Rel g' w' σ' ∧ Ext g w σ g' w' σ':=by
 refine ⟨⟨Tryz.f145,_,Tryz.func145,by kernel_rfl,rfl⟩,fun g w us R0 hv => ?_⟩
 unfold zet at h
 split at h
 ·rename_i f oid ver i o
  split at h
  ·rename_i hf
   obtain ⟨rfl,rfl⟩:=hf
   unfold zjU at h
   split at h
   ·rename_i xs hcell
    rw [yh] at h
    obtain ⟨l,hl,h⟩:=h
    have hx:=zkI hl
    subst hx
    unfold zja at h
    split at h
    ·rename_i hlim
     injection h with h
     simp only [Prod.mk.injEq] at h
     obtain ⟨rfl,rfl⟩:=h
     simp only [zv,zf,zr,zp] at hv
     obtain ⟨u,rest,rfl,⟨fs,cs,rfl,hfs,p,ps,hcs,hp,rfl⟩,rfl⟩:=hv
     unfold zb.cell zb.elem at hcell
     rw [yh] at hcell
     obtain ⟨el,hel,hc0⟩:=hcell
     rw [yh] at hel
     obtain ⟨ob,hob,hel⟩:=hel
     cases ob with
     | tok _ _ => simp [Ob.elem] at hel
     | mp _ => simp [Ob.elem] at hel
     | cells ver' sz es =>
       simp only [Ob.elem] at hel
       split at hel
       ·rename_i hver
        subst hver
        have hne : es ≠ []:=fun e => by subst e; simp at hel
        obtain ⟨_,_,arr,t,hheap,_,hrow⟩:=R0.ob oid _ hob hne
        obtain ⟨hlen,hj⟩:=hrow i el hel
        obtain ⟨u,hu1,hu2,_⟩:=hj 0 _ hc0
        simp only [zr,rep] at hu2
        obtain ⟨ad,c,sz',rfl,_,hla,hrep⟩:=hu2
        obtain ⟨v0,sz0,len0,hshape,_,hpt,_⟩:=hp
        have hsh:=zk hob
        rw [hsh] at hshape
        injection hshape with hshape
        simp only [Prod.mk.injEq] at hshape
        obtain ⟨rfl,rfl,rfl⟩:=hshape
        have hpv:=hpt rfl
        subst hpv
        have hfs' : fs = #[]:=by cases fs; simpa using hfs
        have hcs' : cs = #[.pointer (some ⟨g.ρ oid,i * sz + 0,none⟩)]:=by cases cs; simpa using hcs
        subst hfs' hcs'
        have hlt : g.ρ oid < w.heap.size:=(yb.1 hheap).1
        have hw : w.cell? ⟨g.ρ oid,i * sz + 0,none⟩ = some (.slice ad l.length c):=by
         unfold World.cell?
         rw [hheap]
         simpa using hu1
        have hL : LiesAt w (g.ρ oid) (i * sz + 0) ad c l:=⟨⟨hlt,hw⟩,fun hz => by
         rcases hrep with hrep | ⟨b,o,rfl,hrep⟩
         ·exact absurd (List.map_eq_nil_iff.1 hrep) hz
         ·have hs1 : sz' = 1:=by
           cases l with
           | nil => exact absurd rfl hz
           | cons x r => simp only [List.map_cons,za1] at hla; rw [← hla.1]; rfl
          subst hs1
          have hget : ∀ (j : Nat) x,l[j]? = some x → g.N b (o + j) ∧ w.cell? ⟨b,o + j,none⟩ = some (.int .i64 x):=fun j x hj => by
           have h1:=zcW hrep (i:=j) (e:=ztT x) (by simp [hj])
           obtain ⟨u,n1,n2,n3⟩:=zdz h1 (j:=0) (x:=.lit (.int .i64 x)) (by simp [ztT])
           simp only [rep] at n3
           rw [Nat.mul_one,Nat.add_zero] at n1 n2
           exact ⟨n1,by rw [n2,n3.1]⟩
          obtain ⟨x,r,rfl⟩ : ∃ x r,l = x :: r:=by
           cases l with
           | nil => exact absurd rfl hz
           | cons x r => exact ⟨x,r,rfl⟩
          exact ⟨b,o,rfl,R0.nb b _ (hget 0 x (by simp)).1,fun j x hj => (hget j x hj).2⟩⟩
        unfold LIM at hlim
        have cS:=zpD Tryz.sorted Fence.wide 5 trivial trivial trivial trivial rfl (by omega) (Tryz.sorts _) (enters_of Tryz.func117 (by kernel_rfl) rfl) 177 #[.pointer (some ⟨g.ρ oid,i * sz + 0,none⟩)] trivial (enters_of Tryz.func177 (by kernel_rfl) rfl) l (by unfold maxLen; omega) (by omega) w (Tryz.values_gives Fence.wide 2 trivial rfl (by omega) _ _ ad c l hlim w hL)
        have cS':=callsIn_wide.1 cS
        refine Calls.mono (f:=145) cS' fun e w' he => ?_
        obtain ⟨v,rfl,hrw,hnil,hB⟩:=he
        have hslen : (zbG l).length = l.length:=List.length_mergeSort l
        rcases hrw.2 with ⟨rfl,hz⟩ | ⟨gb,cap,cur,rfl,hbase,hgb,r1,r2,r3,r4⟩
        ·have hl0 : l = []:=yi hz
         subst hl0
         obtain ⟨H,R1⟩:=zv4 R0 hB
         obtain ⟨H2,R2⟩:=zly R1 1
         refine ⟨_,_,rfl,?_,by simpa [zbG] using R2,by simpa [zbG] using H.trans H2⟩
         simp only [zf,zr]
         exact ⟨0,1,0,by simp [shapeOf,zbG,Ob.shape],ye _,fun _ => ⟨none,0,rfl,ye _,fun _ => rfl,fun h => absurd rfl h⟩,_,_,rfl⟩
        ·have hcur : ∀ (j : Nat) x,(zbG l)[j]? = some x → cur[j]? = some (.int .i64 x):=fun j x hj => by
          have hjl : j < l.length:=by rw [← hslen]; exact (List.getElem?_eq_some_iff.1 hj).1
          have h1 : (cur.toList.take (l.length * 1))[j]? = some (.int .i64 x):=by
           rw [r4,yp]
           have : (l.mergeSort fun x y => decide (x ≤ y))[j]? = some x:=hj
           rw [this]
           rfl
          rw [yo,if_pos (by omega)] at h1
          simpa using h1
         obtain ⟨H,R1⟩:=zyY R0 hB hgb hbase (l:=zbG l) (by rw [hslen]; omega) hcur
         refine ⟨_,_,rfl,?_,R1,H⟩
         simp only [zf,zr]
         have e1 : (g.own σ.length gb).ρ σ.length = gb:=by simp [G.own]
         refine ⟨0,1,l.length,by simp [shapeOf,Ob.shape,hslen],ye _,fun _ => ⟨some ⟨gb,0,none⟩,cap,rfl,r1,fun h => ?_,fun h => ⟨by omega,fun _ => by rw [e1],cur,_,by rw [e1]; exact hgb,by omega⟩⟩,_,_,rfl⟩
         have:=hnil.2 (yi h)
         cases this
       ·cases hel
    ·cases h
   ·cases h
  ·cases h
 ·cases h
end Go.Proofs
namespace AC
open Go Go.A
def zzd (x : Int) : List Int → List Int
 | [] => [x]
 | y :: r => if x ≤ y then x :: y :: r else y :: zzd x r
def zyE : List Int → List Int
 | [] => []
 | x :: r => zzd x (zyE r)
theorem zmE (x : Int) : ∀ l,(zzd x l).Perm (x :: l)
 | [] => .refl _
 | y :: r => by
   rw [zzd]
   split
   ·exact .refl _
   ·exact ((zmE x r).cons y).trans (.swap x y r)
theorem zqN : ∀ l,(zyE l).Perm l
 | [] => .refl _
 | x :: r => (zmE x (zyE r)).trans ((zqN r).cons x)
theorem zl7 (x : Int) : ∀ l,l.Pairwise (fun a b => a ≤ b) → (zzd x l).Pairwise (fun a b => a ≤ b)
 | [],_ => by simp [zzd]
 | y :: r,h => by
   rw [yf] at h
   rw [zzd]
   split
   ·rename_i c
    rw [yf]
    refine ⟨fun z hz => ?_,yf.2 h⟩
    rcases yr.1 hz with rfl | hz
    ·exact c
    ·exact Int.le_trans c (h.1 z hz)
   ·rename_i c
    rw [yf]
    refine ⟨fun z hz => ?_,zl7 x r h.2⟩
    rcases yr.1 ((zmE x r).subset hz) with rfl | hz
    ·omega
    ·exact h.1 z hz
theorem zlL : ∀ l,(zyE l).Pairwise (fun a b => a ≤ b)
 | [] => by simp [zyE]
 | x :: r => zl7 x _ (zlL r)
theorem zpA (l : List Int) : zbG l = zyE l:=by
 have h1 : (zbG l).Pairwise (fun a b => decide (a ≤ b) = true):=List.pairwise_mergeSort (fun a b c h1 h2 => by simp only [decide_eq_true_eq] at *; omega) (fun a b => by simp only [Bool.or_eq_true,decide_eq_true_eq]; omega) l
 refine List.Perm.eq_of_pairwise (le:=fun a b => a ≤ b) (fun a b _ _ h1 h2 => by omega) (h1.imp fun h => by simpa using h) (zlL l) ?_
 exact (List.mergeSort_perm l _).trans (zqN l).symm
def zlX (σ : zb) (l : List Int) : Option (V × zb) :=
 if l.length ≤ LIM then some (.one (.own σ.length 0 0 l.length),σ ++ [.cells 0 1 ((zyE l).map zi)]) else none
def zmB (σ : zb) : Option C → Option (V × zb)
 | some (.f (.sl xs)) => (zdT xs).bind (zlX σ)
 | _ => none
def zkz (fv : Nat) : List V → zb → Option (V × zb)
 | [.one (.fn g [] [.ptr id ver i o])],σ => if g = fv ∧ o = 0 then zmB σ (σ.cell id ver i 0) else none
 | _,_ => none
def zoR (σ : zb) (id ver : Nat) (l : List Int) : V × zb:=(.tup [],σ.set id (.cells ver 1 ((zyE l).map zi)))
def zpl : List V → zb → Option (V × zb)
 | [.one (.f (.sl []))],σ => some (.tup [],σ)
 | [.one (.own id ver 0 n)],σ => ((σ[id]?).bind (zff ver n)).map (zoR σ id ver)
 | _,_ => none
theorem zry : zja = zlX:=by funext σ l; simp only [zja,zlX,zpA]
theorem zq3 : zjU = zmB:=by
 funext σ c
 unfold zjU zmB
 rw [zry]
 rfl
theorem zp9 (fv : Nat) : zet fv = zkz fv:=by
 funext a σ
 unfold zet zkz
 rw [zq3]
 rfl
theorem ztg : zlF = zoR:=by funext σ id ver l; simp only [zlF,zoR,zpA]
theorem zue : ziS = zpl:=by
 funext a σ
 unfold ziS zpl
 rw [ztg]
 rfl
def T' (n : Nat) : Option Entry:=if n = 62 then some (.ext (zfy 5)) else if n = 118 then some (.ext zc9) else if n = 181 then some (.ext (zfq 1)) else if n = 117 then some (.ext zpl) else if n = 145 then some (.ext (zkz 177)) else zrV tab n
theorem zCf : T = T':=by
 funext n
 unfold T T'
 rw [zue,zp9]
set_option maxRecDepth 100000 in
theorem zrx : zdq T' (zD T' 20000) 15 [] [] = some (zfL true,[]):=by kernel_rfl
theorem zzE : call T 15 [] [] = some (zfL true,[]):=by
 refine zhG T 20000 _ _ _ _ ?_
 rw [zCf]
 exact zrx
end AC
namespace AC
open Go Go.A Go.A.Lex
theorem zxw {b : PBlock} (h : okB b) {order : List Int} (hl : LegalP b.ops order) : okB (zfi b order) where
 phis:=h.phis
 ops:=by show (zcX b.ops order).length ≤ _; rw [zhl,hl.len]; exact h.ops
 phi:=h.phi
 op:=fun o ho => h.op o ((zhH hl).mem_iff.1 ho)
 to:=h.to
theorem zzL {f : PFunc} (h : okF f) {k : Nat} {b : PBlock} (hb : f.blocks[k]? = some b) {order : List Int} (hl : LegalP b.ops order) : okF (zh4 f k order) where
 params:=by rw [ziN hb]; exact h.params
 blocks:=by rw [zeT hb]; exact h.blocks
 block:=fun x hx => by
  obtain ⟨i,hi⟩:=List.mem_iff_getElem?.1 hx
  rw [zeC hb] at hi
  split at hi
  ·injection hi with hi
   subst hi
   exact zxw (h.block b (yc hb)) hl
  ·exact h.block x (yc hi)
 small:=by
  rw [zlB hb order (fun b => b.phis.length + b.ops.length) (by show b.phis.length + (zcX b.ops order).length = _; rw [zhl,hl.len])]
  exact h.small
section
variable (f g : PFunc) (k : Nat) (ak : C) (order : List Int) (hlen : g.blocks.length = f.blocks.length) (hl : f.blocks.length ≤ 4294967296)
 (hg : ∀ i,i ≠ k → g.blocks[i]? = f.blocks[i]?)
abbrev zAa (f g : PFunc) (k : Nat) (ak : C) (order : List Int) (r : zb) : zb:=.cells 0 3 [zbI f] :: .cells 0 3 [[.f (ei k),ak,.f (eI order)]] :: .cells 0 3 [zbI g] :: r
include hlen hl hg
theorem zBR : ∀ (d i : Nat) (a0 a1 a4 a6 a8 a9 a10 a11 a12 a13 a14 a15 a16 a17 a18 : V),f.blocks.length - i = d → i ≤ f.blocks.length →
  exec T zab ⟨[a0,a1,.one (.ptr 0 0 0 0),.one (.ptr 1 0 0 0),a4,.one (.ptr 2 0 0 0),a6,vI i,a8,a9,a10,a11,a12,a13,a14,a15,a16,a17,a18],zAa f g k ak order [],0,0⟩ =
   some (.exit 0,⟨[vU,vU,.one (.ptr 0 0 0 0),.one (.ptr 1 0 0 0),vU,.one (.ptr 2 0 0 0),vU,vU,vU,vU,vU,vU,vU,vU,vU,vU,vU,vU,vU],zAa f g k ak order [],0,0⟩):=by
 intro d
 induction d with
 | zero =>
   intro i a0 a1 a4 a6 a8 a9 a10 a11 a12 a13 a14 a15 a16 a17 a18 h1 h2
   have hi : i = f.blocks.length:=by omega
   subst hi
   rw [xl zab rfl,za4]
   simp -implicitDefEqProofs only [go_sem,yq]
 | succ d ih =>
   intro i a0 a1 a4 a6 a8 a9 a10 a11 a12 a13 a14 a15 a16 a17 a18 h1 h2
   have hi : i < f.blocks.length:=by omega
   have hi' : i < g.blocks.length:=by omega
   have:=ih (i + 1) vU vU vU vU vU vU vU vU vU vU vU vU vU vU vU (by omega) (by omega)
   rw [xl zab rfl,za4]
   simp -implicitDefEqProofs only [go_sem] at this
   by_cases c : i = k
   ·subst c
    simp -implicitDefEqProofs only [go_sem,ilt hi,zd hi hl,this]
   ·have c' : ¬ (i : Int) = (k : Int):=by omega
    have e : g.blocks[i] = f.blocks[i]:=by
     have:=hg i c
     rw [yd hi,yd hi'] at this
     injection this
    have gf:=zH (r:=rb) hi
    have gg:=zH (r:=rb) hi'
    rw [e] at gg
    simp -implicitDefEqProofs only [go_sem,rb] at gf gg
    simp -implicitDefEqProofs only [go_sem,ilt hi,c',gf,gg,rb,yg,zd hi hl,this]
end
section
variable (f g : PFunc) (k : Nat) (ak : C) (order : List Int) (n : Nat) (hn : order.length = n) (hn2 : n ≤ 600) (hr : ∀ x ∈ order,0 ≤ x ∧ x < (n : Int))
include hn hn2 hr
theorem zBy : ∀ (d i : Nat) (acc : List Int) (a0 a1 a4 a6 a7 a10 a11 a12 a13 a14 a15 a16 a17 a18 : V),n - i = d → i ≤ n → acc.length = n →
  exec T zaa ⟨[a0,a1,.one (.ptr 0 0 0 0),.one (.ptr 1 0 0 0),a4,.one (.ptr 2 0 0 0),a6,a7,.one (.own 3 0 0 n),vI i,a10,a11,a12,a13,a14,a15,a16,a17,a18],zAa f g k ak order [.cells 0 1 (acc.map zi)],0,0⟩ =
   some (.exit 2,⟨[vU,vU,.one (.ptr 0 0 0 0),.one (.ptr 1 0 0 0),vU,.one (.ptr 2 0 0 0),vU,vU,.one (.own 3 0 0 n),vU,vU,vU,vU,vU,vU,vU,vU,vU,vU],zAa f g k ak order [.cells 0 1 ((zdX i (order.drop i) acc).map zi)],0,0⟩):=by
 intro d
 induction d with
 | zero =>
   intro i acc a0 a1 a4 a6 a7 a10 a11 a12 a13 a14 a15 a16 a17 a18 h1 h2 h3
   have hi : i = n:=by omega
   subst hi
   rw [xl zaa rfl,za3,← hn,List.drop_length,zdX]
   simp -implicitDefEqProofs only [go_sem,yq]
 | succ d ih =>
   intro i acc a0 a1 a4 a6 a7 a10 a11 a12 a13 a14 a15 a16 a17 a18 h1 h2 h3
   have hi : i < order.length:=by omega
   obtain ⟨r1,r2⟩:=hr _ (List.getElem_mem hi)
   have hd : order.drop i = order[i] :: order.drop (i + 1):=List.drop_eq_getElem_cons hi
   have hx : order[i].toNat < acc.length:=by omega
   have:=ih (i + 1) (acc.set order[i].toNat i) vU vU vU vU vU vU vU vU vU vU vU vU vU vU (by omega) (by omega) (by rw [List.length_set]; exact h3)
   have e : (acc.set order[i].toNat (i : Int)).map zi = (acc.map zi).set order[i].toNat (zi i):=List.map_set
   have ga : (acc.map zi)[order[i].toNat]? = some (zi acc[order[i].toNat]):=by simp [hx]
   rw [xl zaa rfl,za3,hd,zdX]
   rw [e] at this
   have hlt : ((i : Int) < (n : Int)) = True:=by simp; omega
   simp -implicitDefEqProofs only [go_sem,zAa,zi] at this ga
   simp -implicitDefEqProofs only [go_sem,zAa,hlt,zH hi,ri,hn,r1,r2,ga,zi,zd (show i < n by omega) (show n ≤ 4294967296 by omega),this]
end
theorem zy0 (n : Nat) : yk n [C.f (.lit (.int .i64 0))] = (yk n (0 : Int)).map zi:=by simp [zi]
theorem zx8 (f : PFunc) (hf : anyF f) (k a : Int) (order : List Int) (ho : order.length ≤ LB) : call T 6 [zgP f,.agg [.f (ei k),.f (ei a),.f (eI order)]] [] = some (vB true,[]):=by
 rw [ze (fn:=zE) rfl]
 have haw:=zzE
 obtain ⟨sb,hsm,hsb⟩:=zpx f hf
 simp -implicitDefEqProofs only [go_sem] at haw hsm
 cases sb with
 | false => simp -implicitDefEqProofs only [go_sem,zE,haw,hsm]
 | true =>
   have hok:=zxQ hf (hsb rfl)
   by_cases c6 : (order.length : Int) > 600
   ·simp -implicitDefEqProofs only [go_sem,zE,haw,hsm,yg,c6]
   ·have h600 : order.length ≤ 600:=by omega
    have hp:=zio f hok k order (by omega)
    by_cases c : zhe f k order = true
    ·unfold zA4 zAJ at hp
     rw [if_pos c,if_pos c] at hp
     have c':=c
     unfold zhe at c'
     simp only [yl] at c'
     obtain ⟨c1,c2⟩:=c'
     obtain ⟨k0,k1,hR⟩:=zfI.1 c1
     obtain ⟨n,rfl⟩:=Int.eq_ofNat_of_zero_le k0
     have hn : n < f.blocks.length:=by omega
     simp only [yj] at c2 hp
     obtain ⟨b,hb⟩ : ∃ b,f.blocks[n]? = some b:=⟨_,yd hn⟩
     rw [hb] at c2
     have hl:=(zpk (hR.oneDef (yc hb))).1 c2
     have hokg:=zzL hok hb hl
     have hRg:=zws hb hl hR
     have hbg : (zh4 f n order).blocks[n]? = some (zfi b order):=by rw [zeC hb,if_pos rfl]
     have hlg : LegalP (zfi b order).ops (zgq order):=zul hl fun i j x y hx hy hd hm => hR.ahead hb hx hy hd hm
     have hbl : (zgq order).length = order.length:=by rw [zlx hl,hl.len]
     have hleg : zhe (zh4 f n order) n (zgq order) = true:=by
      unfold zhe
      simp only [yl,yj]
      refine ⟨zfI.2 ⟨by omega,by rw [zeT hb]; omega,hRg⟩,?_⟩
      rw [hbg]
      exact (zpk (hRg.oneDef (yc hbg))).2 hlg
     have hp2:=zio (zh4 f n order) hokg n (zgq order) (by omega)
     unfold zA4 zAJ at hp2
     rw [if_pos hleg,if_pos hleg,yj,zxa hb hl] at hp2
     have hs:=zqk f f hok
     have hlen:=zeT hb order
     have h0:=fun a0 a1 a4 a6 a8 a9 a10 a11 a12 a13 a14 a15 a16 a17 a18 => zBR f (zh4 f n order) n (.f (ei a)) order hlen hok.blocks (fun i hi => by rw [zeC hb,if_neg hi]) f.blocks.length 0 a0 a1 a4 a6 a8 a9 a10 a11 a12 a13 a14 a15 a16 a17 a18 (by omega) (by omega)
     have h1:=fun a0 a1 a4 a6 a7 a10 a11 a12 a13 a14 a15 a16 a17 a18 => zBy f (zh4 f n order) n (.f (ei a)) order order.length rfl h600 (fun x hx => by have:=hl.range x hx; rw [hl.len]; exact this) order.length 0 (yk order.length 0) a0 a1 a4 a6 a7 a10 a11 a12 a13 a14 a15 a16 a17 a18 (by omega) (by omega) (by simp)
     rw [List.drop_zero] at h1
     have hbk : zdX 0 order (yk order.length 0) = zgq order:=rfl
     rw [hbk,← zy0] at h1
     have hlim : (order.length : Int) ≤ (LIM : Int):=by unfold LIM; omega
     have hfz:=zbP (zgq order)
     have htk : ((zgq order).map ri).take order.length = (zgq order).map ri:=List.take_of_length_le (by simp [hbl])
     simp only [Int.natCast_zero] at h0 h1
     have c6' : ¬ (order.length : Int) > 600:=c6
     simp -implicitDefEqProofs only [go_sem] at hp hp2 h0 h1 hs
     simp -implicitDefEqProofs only [go_sem,zE,haw,hsm,yg,c6',hp,hlen,h0,h1,hlim,hfz,htk,hp2,hs]
    ·unfold zA4 zAJ at hp
     rw [if_neg c,if_neg c] at hp
     simp -implicitDefEqProofs only [go_sem] at hp
     simp -implicitDefEqProofs only [go_sem,zE,haw,hsm,yg,c6,hp,List.map_nil]
end AC
namespace Go.Proofs
open Go.Shelf Go.RowKit Go.Lib
theorem Tryz.mixed0 : Tryz.prog.follows .mixedOrders = true:=by kernel_rfl
theorem Tryz.infoB : (Tryz.prog.info? 44).map (fun i => (i.zero,i.size,i.bytes)) = some (some (.agg #[.slice none 0 0,.slice none 0 0,.int .i64 0,.int .i64 0,.slice none 0 0]),5,88):=by kernel_rfl
set_option maxHeartbeats 2000000 in
set_option maxRecDepth 100000 in
theorem Tryz.clone_block (b off n c : Nat) (zs : List Value) (w : World) (hz : zs.length = n * 5) (hmax : n ≤ maxLen) (hbig : n * 88 ≤ 140737488355328) (hc : ∀ j u,zs[j]? = some u → w.cell? ⟨b,off + j,none⟩ = some u) (h1 : ∀ u ∈ zs,u.oneCell' = true) :
  Calls Tryz.prog 62 #[.slice (some ⟨b,off,none⟩) n c] w fun e w' => ∃ v',e = .returned v' ∧ w'.ownsRow w.heap.size 44 5 v' n zs ∧ v' ≠ .slice none 0 0 ∧ Below w.heap.size w w':=by
 have mixed:=Tryz.mixed0
 obtain ⟨i0,hi,hz0,hz1,hz2⟩:=info_parts Tryz.infoB
 have t23:=Tryz.underlying23
 have q22 : ∀ (w : World) (a : Option Addr) (n c n' c' : Nat),(binOp .eql 23 (.slice a n c) (.slice none n' c')).run Tryz.prog w = .ok (.bool a.isNone) w:=fun w a n c n' c' => Lib.run_eql_slice_nil w _ _ a n c n' c' t23
 have u22 : ∀ w,Sem.run Tryz.prog (underlying 23) w = .ok (TypeDesc.slice 44) w:=run_underlying t23
 have A : Aside (∀ j u,zs[j]? = some u → w.cell? ⟨b,off + j,none⟩ = some u):=hc
 clear hc
 go_enter Tryz.func62,Tryz.ntmps62
 go_wp2_with (at_builtin; refine wpList_append_own _ rfl _ _ 23 rfl w.heap.size 44 i0 (.agg #[.slice none 0 0,.slice none 0 0,.int .i64 0,.int .i64 0,.slice none 0 0]) 5 88 t23 hi hz0 hz1 hz2 rfl (by decide) _ _ _ rfl (World.ownsRow_made w #[] 0 (ye _) (Nat.zero_le _) rfl) ⟨b,off,none⟩ n c zs rfl ?qc1 ?qc2 ?qc3 ?qc4 ?qc5 ?qc6 ?_)
 case qc1 => exact hz
 case qc2 =>
  intro j u hj
  rw [Addr.add_lit]
  refine Lib.cell?_alloc_some _ ?_
  exact A.out j u hj
 case qc3 => exact h1
 case qc4 => omega
 case qc5 => omega
 case qc6 => simp
 intro v' w1 hown hgrow hnil
 go_wp2
 go_ret
 refine ⟨v',rfl,by simpa using hown,?_,?_⟩
 ·exact hnil
 ·exact ((Below.refl _ w).alloc (ye _) _).grown hgrow (by simp) (by intro k hk; simp [Value.ownBlock] at hk; omega)
end Go.Proofs
namespace Go.A
open Go.RowKit (Below)
section
variable {g : G} {w w' : World} {σ : zb}
theorem zxk (R : Rel g w σ) (hB : Below w.heap.size w w') {gb : Nat} {cur : Array Value} {t : TypeId} (hgb : w'.heap[gb]? = some (.cells cur t (0,0))) (hbase : w.heap.size ≤ gb) {sz0 : Nat} {es0 : List (List C)} (hl : es0.length * sz0 ≤ cur.size) (hc : zbm g w σ cur sz0 es0) :
  Ext g w σ (g.own σ.length gb) w' (σ ++ [.cells 0 sz0 es0]) ∧ Rel (g.own σ.length gb) w' (σ ++ [.cells 0 sz0 es0]):=by
 have hρ : ∀ id,id < σ.length → (g.own σ.length gb).ρ id = g.ρ id:=fun id h => zae g.ρ (k:=σ.length) (i:=id) _ (by omega)
 have hw : ∀ b,b < w.heap.size → (g.own σ.length gb).ow b = g.ow b:=fun b h => zae g.ow (k:=gb) (i:=b) _ (by omega)
 have H : Ext g w σ (g.own σ.length gb) w' (σ ++ [.cells 0 sz0 es0]):={
  os:=hB.os
  tape:=hB.tape
  output:=hB.output
  size:=hB.size
  keeps:=fun b i h => ⟨h,by unfold World.cell?; rw [hB.block b (R.nb b i h)]⟩
  len:=by simp
  shape:=fun id ver sz len h => by
   obtain ⟨es,h1,h2⟩:=zak h
   have hlt:=za h1
   refine .inl ⟨by unfold shapeOf; rw [ya hlt]; exact h,hρ id hlt,fun _ arr t ha => ⟨arr,?_,rfl⟩⟩
   rw [hB.block _ (yb.1 ha).1]
   exact ha
  map:=fun id es h => ⟨hρ id (za h),es,by rw [ya (za h)]; exact h⟩
  tok:=fun t k n h => by
   obtain ⟨sz,fr,h1,h2⟩:=zbJ h
   exact ⟨n,zcc (by rw [ya (za h1)]; exact h1) h2,ye _,fun _ => rfl⟩
  tsz:=fun t sz h => by
   obtain ⟨fr,h1⟩:=zcB h
   exact za9 (fr:=fr) (by rw [ya (za h1)]; exact h1)
  ow:=hw
  new:=fun b i h _ _ => h
  frame:=fun b hb _ => hB.block b hb }
 refine ⟨H,⟨fun b i h => yn (R.nb b i h) hB.size,fun id x h => ?_⟩⟩
 by_cases hlt : id < σ.length
 ·rw [ya hlt] at h
  exact zbA H (hρ id hlt) (fun _ => rfl) (fun b hb _ => ⟨hB.block b hb,hw b hb,fun _ h => h⟩) (R.ob id x h)
 ·have hid : id = σ.length:=by
   have:=za h
   simp at this
   omega
  subst hid
  simp at h
  subst h
  intro _
  have e1 : (g.own σ.length gb).ρ σ.length = gb:=by simp [G.own]
  have e2 : (g.own σ.length gb).ow gb = .ob σ.length:=by simp [G.own]
  rw [e1]
  refine ⟨e2,fun o h => by have:=R.nb _ _ h; omega,cur,t,hgb,hl,H.zbm hc⟩
end
end Go.A
namespace Go.Proofs
open Go.RowKit
open Go.A in
theorem Tryz.ext_cloneB (args : List V) (σ : zb) (v : V) (σ' : zb) (h : zfy 5 args σ = some (v,σ')) :
  Go.A.Enters Tryz.prog 62 ∧ ∀ g w us,Rel g w σ → zv g w σ args us → Calls Tryz.prog 62 us.toArray w fun e w' => ∃ u g',e = .returned u ∧ zf g' w' σ' v u ∧ Rel g' w' σ' ∧ Ext g w σ g' w' σ':=by
 refine ⟨⟨Tryz.f62,_,Tryz.func62,by kernel_rfl,rfl⟩,fun g w us R0 hv => ?_⟩
 unfold zfy at h
 split at h
 ·rename_i xs
  split at h
  ·rename_i hok
   obtain ⟨hne,hsz,hlim⟩:=hok
   injection h with h
   simp only [Prod.mk.injEq] at h
   obtain ⟨rfl,rfl⟩:=h
   simp only [zv,zf,zr] at hv
   obtain ⟨u,rest,rfl,hrep,rfl⟩:=hv
   obtain ⟨a,c,sz,zs,rfl,hnc,hlay,hadr⟩:=zkB hrep fun x u h => zlM h
   rcases hadr with hx | ⟨b,o,rfl,hcell⟩
   ·exact absurd hx hne
   have h5 : sz = 5:=by
    have hl2:=hlay.2.1
    cases xs with
    | nil => exact absurd rfl hne
    | cons x r =>
      simp only [za1] at hl2
      simp only [zjY,yl,decide_eq_true_eq] at hsz
      rw [← hl2.1,hsz.1]
   subst h5
   unfold LIM at hlim
   have hlen : zs.length = xs.length * 5:=hlay.1
   refine Calls.mono (f:=62) (Tryz.clone_block b o xs.length c zs w hlen (by unfold maxLen; omega) (by omega) hcell (zoN (by omega) hlay)) fun e w' he => ?_
   obtain ⟨v,rfl,hrw,hnil,hB⟩:=he
   rcases hrw.2 with ⟨rfl,hz⟩ | ⟨gb,cap,cur,rfl,hbase,hgb,r1,r2,r3,r4⟩
   ·exact absurd rfl hnil
   have hpos : 0 < xs.length:=List.length_pos_iff.2 hne
   have hrow0:=zgh (σ:=σ) (g:=g) hlay
   have hrow : zbm g w σ cur 5 (xs.map fun e => e.map C.f):=fun i e hi => by
    obtain ⟨q1,q2⟩:=hrow0 i e hi
    refine ⟨q1,fun j c hj => ?_⟩
    obtain ⟨u,k1,k2,k3⟩:=q2 j c hj
    refine ⟨u,?_,k2,k3⟩
    have k4 : zs[i * 5 + j]? = some u:=by simpa using k1
    rw [← r4,yo] at k4
    split at k4
    ·simpa using k4
    ·cases k4
   obtain ⟨H,R1⟩:=zxk R0 hB hgb hbase (by rw [yg,r3]; exact Nat.mul_le_mul_right 5 r1) hrow
   refine ⟨_,_,rfl,?_,R1,H⟩
   simp only [zf,zr]
   have e1 : (g.own σ.length gb).ρ σ.length = gb:=by simp [G.own]
   exact ⟨0,5,xs.length,by simp [shapeOf,Ob.shape],ye _,fun _ => ⟨some ⟨gb,0,none⟩,cap,rfl,r1,fun h => by omega,fun h => ⟨by omega,fun _ => by rw [e1],cur,_,by rw [e1]; exact hgb,by omega⟩⟩,_,_,rfl⟩
  ·cases h
 ·cases h
end Go.Proofs
namespace AC
open Go.A Go.A.Lex
theorem zAx : zsf (zzY Go.Proofs.Tryz.prog (zov Go.Proofs.Tryz.prog)) 0 tab :=
 ⟨zaD _ 0 (by kernel_rfl),zaD _ 16 (by kernel_rfl),zaD _ 32 (by kernel_rfl),zaD _ 48 (by kernel_rfl),zaD _ 64 (by kernel_rfl),zaD _ 80 (by kernel_rfl),zaD _ 96 (by kernel_rfl),zaD _ 112 (by kernel_rfl),zaD _ 128 (by kernel_rfl),zaD _ 144 (by kernel_rfl),zaD _ 160 (by kernel_rfl),zaD _ 176 (by kernel_rfl),zaD _ 192 (by kernel_rfl),zaD _ 208 (by kernel_rfl),zaD _ 224 (by kernel_rfl),zaD _ 240 (by kernel_rfl),zaD _ 256 (by kernel_rfl),trivial⟩
theorem zCi : ztI Go.Proofs.Tryz.prog (zov Go.Proofs.Tryz.prog) T:=by
 refine zjx ?_ (zjx ?_ (zjx ?_ (zjx ?_ (zjx ?_ (zw8 zAx)))))
 ·exact Go.Proofs.Tryz.ext_cloneB
 ·exact Go.Proofs.Tryz.ext_compact
 ·exact fun args σ v σ' h => ztz (zsY (by kernel_rfl)) Go.Proofs.Tryz.func181 (by kernel_rfl) (by kernel_rfl) args σ v σ' h
 ·exact Go.Proofs.Tryz.ext_sort
 ·exact Go.Proofs.Tryz.ext_sorted
end AC
namespace Go.A
def zeP : List (List Fz → Prop) → List Fz → Prop
 | [],cs => cs = []
 | p :: ps,cs => ∃ a b,cs = a ++ b ∧ p a ∧ zeP ps b
def zpB (P : Program) : List Field → Nat → Nat → Bool
 | [],off,total => off == total
 | f :: fs,off,total => f.offset == off && zpB P fs (off + P.cellsOf f.type) total
def zen (P : Program) : Nat → TypeId → Bool
 | 0,_ => false
 | n + 1,t => match P.underlying t with
   | some .bool => P.cellsOf t == 1
   | some (.int _) => P.cellsOf t == 1
   | some (.slice e) => P.cellsOf t == 1 && decide (0 < P.cellsOf e) && zen P n e
   | some (.struct fs) => (fs.toList.all fun f => zen P n f.type) && zpB P fs.toList 0 (P.cellsOf t)
   | some (.array m e) => zen P n e && (P.cellsOf t == m * P.cellsOf e)
   | _ => false
theorem mapM_some {α β : Type} {f : α → Option β} : ∀ {l : List α} {ys : List β},l.mapM f = some ys → ys.length = l.length ∧ ∀ (i : Nat) (x : α),l[i]? = some x → ∃ y,ys[i]? = some y ∧ f x = some y
 | [],ys,h => by
   simp at h
   subst h
   exact ⟨rfl,fun i x hx => by simp at hx⟩
 | a :: l,ys,h => by
   rw [List.mapM_cons] at h
   cases ha : f a with
   | none => simp [ha] at h
   | some b =>
     cases hl : l.mapM f with
     | none => simp [ha,hl] at h
     | some zs =>
       simp [ha,hl] at h
       subst h
       obtain ⟨h1,h2⟩:=mapM_some hl
       refine ⟨by simp [h1],fun i x hx => ?_⟩
       cases i with
       | zero => simp at hx; subst hx; exact ⟨b,by simp,ha⟩
       | succ i => simpa using h2 i x (by simpa using hx)
theorem zl1 {α : Type} {p : Nat → α → Prop} : ∀ (n : Nat),(∀ i,i < n → ∃ x,p i x) → ∃ xs : List α,xs.length = n ∧ ∀ i x,xs[i]? = some x → p i x
 | 0,_ => ⟨[],rfl,fun i x h => by simp at h⟩
 | n + 1,h => by
   obtain ⟨xs,h1,h2⟩:=zl1 n fun i hi => h i (by omega)
   obtain ⟨x,hx⟩:=h n (by omega)
   refine ⟨xs ++ [x],by simp [h1],fun i y hy => ?_⟩
   rw [ym] at hy
   split at hy
   ·exact h2 i y hy
   ·rename_i hi
    have:=za hy
    simp at this
    have e : i = n:=by omega
    subst e
    rw [h1] at hy
    simp at hy
    rw [← hy]
    exact hx
section
variable {H : Type} {enc : TypeId × Value → H} {P : Program} {w : World}
def zpr (w : World) : zdK:=fun b _ => b < w.heap.size
def zdp (w : World) (xs : List Fz) (cs : List Value) : Prop:=xs.length = cs.length ∧ ∀ (j : Nat) (x : Fz) (u : Value),xs[j]? = some x → cs[j]? = some u → rep w (zpr w) x u
theorem zdp.append {xs ys : List Fz} {cs ds : List Value} (h : zdp w xs cs) (k : zdp w ys ds) : zdp w (xs ++ ys) (cs ++ ds):=by
 refine ⟨by simp [h.1,k.1],fun j x u hx hu => ?_⟩
 rw [ym] at hx hu
 have:=h.1
 split at hx
 ·rw [if_pos (by omega)] at hu; exact h.2 j x u hx hu
 ·rw [if_neg (by omega)] at hu; rw [h.1] at hx; exact k.2 _ x u hx hu
theorem zdp.one {x : Fz} {u : Value} (h : rep w (zpr w) x u) : zdp w [x] [u] :=
 ⟨rfl,fun j y v hy hv => by
  cases j with
  | zero => simp at hy hv; rw [← hy,← hv]; exact h
  | succ j => simp at hy⟩
end
end Go.A
namespace Go.A
open Go.RowKit
def G0 (w : World) : G:=⟨fun _ => 0,fun _ _ => undef,fun _ => .no,zpr w⟩
theorem zCj (w : World) : Rel (G0 w) w []:=⟨fun _ _ h => h,fun id o h => by simp at h⟩
def zie (P : Program) (t : TypeId) : Bool:=match P.underlying t with
 | some (.struct _) | some (.array _ _) => true
 | _ => false
def zlc (agg : Bool) (xs : List Fz) : V:=if agg then zwY xs else .one (.f (xs.headD (.lit undef)))
section
variable {H : Type} {enc : TypeId × Value → H} {P : Program} {w : World}
theorem zt9 {C : zN} (S : zel P C) {f : Nat} {args : List V} {us : List Value} {b : Bool} (hc : C f args [] = some (zfL b,[])) (hv : zv (G0 w) w [] args us) :
  Calls P f us.toArray w fun e w' => e = .returned (.bool b) ∧ Below w.heap.size w w':=by
 obtain ⟨_,h⟩:=S f args [] (zfL b) [] hc
 refine (h (G0 w) w us (zCj w) hv).mono fun e w' he => ?_
 obtain ⟨u,g',rfl,h1,_,H⟩:=he
 obtain ⟨rfl,_⟩:=zx h1
 exact ⟨rfl,H.os,H.tape,H.output,H.size,fun k hk => H.frame k hk rfl⟩
end
end Go.A
namespace Go.A
open Go.RowKit Go.ChangeShapes
section
variable {H : Type} {enc : TypeId × Value → H} {P : Program}
theorem ztX {f : Func} {s : ChangeSpec} {apart fresh handsOn again : Bool} {W W' : World} {args : Array Value} {v : Value} {ds gs : List (DataW H)} {before : List MemPlace}
  (hW : DataW.Whole enc P f.params.toList s.vars apart W args.toList ds gs before) (hB : Below W.heap.size W W') (hv : s.vars = [])
  (hres : ∀ (b : Nat) (sp : Nat → Bool) (hd : Bool),DataW.TrodAll enc P W' b sp hd f.resultTypes.toList (v.resultList f.resultTypes.size) (s.fn H (ds ++ gs)).results [])
  (hargs : ∀ sp : Nat → Bool,(∀ p ∈ before,sp p.block = true) → DataW.TrodAll enc P W' 0 sp true f.params.toList args.toList (s.fn H (ds ++ gs)).args before)
  (hvars : (s.fn H (ds ++ gs)).vars = [])
  (hok : ∀ (j : Nat) (t : TypeId) (r : Value),f.resultTypes[j]? = some t → (v.resultList f.resultTypes.size)[j]? = some r → Value.okWide P W' .any 0 t r) :
  s.post enc P f apart fresh handsOn again W args v W':=by
 have inside : ∀ x ∈ before,x.block < W.heap.size:=hW.lt
 have mine : ∀ x ∈ before,(fun b => decide (b < W.heap.size)) x.block = true:=fun x hx => decide_eq_true (inside x hx)
 have nv : ∀ sp : Nat → Bool,DataW.TrodVars enc P W' sp s.vars (s.fn H (ds ++ gs)).vars []:=fun sp => by rw [hv,hvars]; rfl
 have whole:=hW
 obtain ⟨_,_,_,_,_,unfrozen,once⟩:=hW
 refine ⟨ds,gs,before,[],before,[],whole,hres _ _ _,hargs _ mine,nv _,World.keptBut_mono (fun x hx => ⟨hx,.inr (by simpa using hx)⟩) (hB.frame _),fun _ => ⟨hok,_,_,before,⟨before,[],trodAll_append (hargs _ fun _ _ => rfl) (hres _ _ _),nv _,by simp,fun b off hx => ?_,once⟩,fun x hx _ => by simpa using hx⟩⟩
 rw [hB.frozen (p:=⟨b,off,none⟩) (inside _ hx)]
 exact unfrozen b off hx
end
end Go.A
namespace Go.A
open Go.RowKit Go.ChangeShapes
section
variable {H : Type} {enc : TypeId × Value → H} {P : Program}
end
end Go.A
namespace AC
open Go Go.A Go.Proofs
set_option maxRecDepth 100000
theorem mixed : Tryz.prog.follows .mixedOrders = true:=by kernel_rfl
theorem zy4 : zel Tryz.prog (call T):=sound (zsY mixed) zCi
end AC
namespace Go.Proofs.YtmkncmffaaninaaGreat
open Go.ChangeShapes Go.WideShapes Go.ChangeAt Go.RowKit Go.A
theorem Tryz.own : ownKnob Tryz.prog.godebug = none:=by kernel_rfl
theorem Tryz.laidOut : laidOutB Tryz.prog = true:=by kernel_rfl
end Go.Proofs.YtmkncmffaaninaaGreat
