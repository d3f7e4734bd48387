/- A part of the proof of SchedDepth. Conditions: none. -/
import Derived.Test.YtmkncmffaaninaaGreatDAN
set_option linter.unusedVariables false
set_option linter.unusedSimpArgs false
set_option linter.unusedSectionVars false
open List renaming getElem?_eq_getElem → ya,range → yb,getD_eq_getElem?_getD → yc,filterMap_cons → yd,getElem?_eq_none → yg,getElem?_concat_length → yi,filterMap_append → yj,filterMap_eq_nil_iff → yl,all_eq_true → yp,range_succ → yr,getElem?_append_left → ys,filterMap_nil → yt,length_filter_le → yw,append_nil → yz,ext_getElem? → yD,any_eq_true → yE,nodup_range → yF,filter_cons → yG,nodup_cons → yH,mem_map → yL
open Bool renaming and_eq_true → ye,or_eq_true → yI
open Option renaming bind_eq_some_iff → yf,map_some → yx,map_eq_some_iff → yy,bind_some → yA
open Array renaming replicate → yh,getElem?_eq_some_iff → yk,getElem?_eq_getElem → ym,getD_eq_getD_getElem? → yq,getElem?_replicate → yu
open Nat renaming lt_of_lt_of_le → yn,le_refl → yo,le_of_lt → yv,lt_trichotomy → yB,lt_or_ge → yC,le_trans → yJ,zero_le → yK
namespace Go.A
section
variable {P : Program} {κ : List Tmp} {nt : Nat} {gops : Array Go.Oper} {ps : List (Nat × Nat)} {xs : List Oper} {ms : List Nat} {p b l : Nat} {Cf : zad} {rr : Nat → R} {g0 : G} {w0 : World} {σ0 : zd} {Q : Exit → Act → World → Prop}
theorem zB6 (S : zgQ P Cf) (C : Chk2 P κ nt gops ps xs ms p) (hrr : ∀ i x,xs[i]? = some x → step Cf (rr i) x = some (rr (i + 1))) (h0 : (rr 0).rs = []) (henv : (rr 0).env.length = κ.length) (hnd : κ.Nodup) (hbd : ∀ t ∈ κ,t < nt) (hps : ∀ q ∈ ps,zc5 Cf xs (rr 0) q = true)
  {D : Nat → Bool} {K j : Nat} {B : Nat → Nat} {g : G} {w : World} {a : Act} {o : Go.Oper} {next : Act → World → Prop}
  (hcl : zhp gops D) (hE : ∀ i ∈ zas gops j,D i = true) (hDj : D j = false) (hDp : ∀ i,p ≤ i → D i = false) (hS : zyn xs p D K) (M : Mid2 P gops xs κ nt p rr g0 w0 σ0 D K B g w a) (hj : j < p) (ho : gops[j]? = some o)
  (k : ∀ g' w' u K' B',Mid2 P gops xs κ nt p rr g0 w0 σ0 (zba D j) K' B' g' w' (a.put o.dst u) → next (a.put o.dst u) w') :
  if Region.wanted o (yielded gops a.tmps) then o.wp P a w next Q else next (a.put o.dst undef) w:=by
 have hjl : j < gops.size:=yn hj C.p_le
 have hxl : j < xs.length:=by rw [C.len]; exact hjl
 have hx : xs[j]? = some xs[j]:=ya hxl
 obtain ⟨c1,c2,c3,c4,_⟩:=C.pre_some hj ho hx
 have hA : ∀ i,Reach gops j i → D i = true:=fun i h => za1 hcl h hE
 have hB : ∀ i,Reach gops i j → D i = false:=fun i h => by
  cases hi : D i with
  | false => rfl
  | true =>
    have:=za1 hcl h (hcl i hi)
    rw [hDj] at this
    cases this
 have hback : ∀ i ∈ zas gops j,i < j:=fun i hi => by
  unfold zas at hi
  rw [ho] at hi
  exact C.plan.back j o ho i hi
 have F:=zqy (b:=0) (l:=0) C hrr henv hnd hbd (yv hj) (zzP gops xs j) (fun i t hi ht => by
  unfold zzP at ht
  split at ht
  ·rename_i hc
   have hil : i < xs.length:=by omega
   refine ⟨zCt C hcl hE hS hi hj (ya hil) hx (hE i (by simpa using hc)) fun _ => by unfold ztE; rw [hc]; rfl,ht⟩
  ·cases ht) M
 have hrs:=znh hrr h0 j (by omega)
 obtain ⟨_,hen⟩:=zgk C.w hrr j (yv hj)
 have hget : ∀ y ∈ zeN xs[j],(⟨(yb j).reverse.map (za8 rr),zn2 rr xs p D K,(rr K).st,0,0⟩ : R).get y = (rr j).get y:=fun y hy => by
  cases y with
  | l d => show ((yb j).reverse.map (za8 rr)).getD d vun = (rr j).rs.getD d vun; rw [hrs]
  | c v => rfl
  | s q =>
    show (zn2 rr xs p D K).getD q vun = (rr j).env.getD q vun
    rw [zmh C.w hrr,hen]
    unfold zdO zgU
    cases hi : wr xs p q with
    | none => rfl
    | some i =>
      simp only
      obtain ⟨hip,x',hx',hw⟩:=zgb hi
      have hread : zfv q xs[j] = true:=by
       unfold zfv
       rw [yE]
       exact ⟨_,hy,by simp⟩
      rcases yB i j with hlt | rfl | hlt
      ·have hD : D i = true:=by
        rcases (C.pair hlt hj hx' hx).1 with h | h
        ·exfalso
         unfold zgh at h
         rw [hw] at h
         simp [hread] at h
        ·exact hA i h
       have hv:=zCt C hcl hE hS hlt hj hx' hx hD fun _ => by
        unfold ztE
        rw [hx']
        simp [hw,hread]
       rw [hv]
       simp [hlt]
      ·simp [vis,hDj]
      ·have hD : D i = false:=by
        rcases (C.pair hlt hip hx hx').1 with h | h
        ·exfalso
         unfold zgh at h
         rw [hw] at h
         simp [hread] at h
        ·exact hB i h
       have : ¬ i < j:=by omega
       simp [vis,hD,this]
 have hlt : ∀ y ∈ zeN xs[j],((rr j).get y).lt (rr K).st.length = true:=fun y hy => by
  rw [← hget y hy]
  have hu:=c4 y hy
  cases y with
  | l d =>
    simp only [zwI] at hu
    split at hu
    ·rename_i t ht
     exact zok _ _ (F.lc d t ht hu)
    ·cases hu
  | s q =>
    by_cases hq : q < κ.length
    ·exact zok _ _ (F.env q _ (ya hq))
    ·have hl:=F.len
     have : (⟨(yb j).reverse.map (za8 rr),zn2 rr xs p D K,(rr K).st,0,0⟩ : R).get (.s q) = vun:=by
      show (zn2 rr xs p D K).getD q vun = vun
      rw [yc,yg (by simp only at hl; omega)]
      rfl
     rw [this]
     rfl
  | c v => exact V.lt_mono (yK _) v hu
 by_cases hc : zaS xs[j].op ≤ 2
 ·have heff : eff xs j = false:=by unfold eff; rw [zhk hx]; simp; omega
  obtain ⟨v,h1,h2⟩:=zwp (r':=⟨(yb j).reverse.map (za8 rr),zn2 rr xs p D K,(rr K).st,0,0⟩) S C hrr hps hcl hE hDj hS M hj hx hc rfl hget hlt
  refine zeu (r:=⟨(yb j).reverse.map (za8 rr),zn2 rr xs p D K,(rr K).st,0,0⟩) S M.rel F c1 c2 c3 h2 (fun g' w' u H R1 _ F1 => ?_) (fun _ h => h)
  rw [zeX] at H R1
  exact k g' w' u K B (ztz (b:=0) (l:=0) (σ1:=(rr j).st) C hrr henv hnd M (.inl ⟨rfl,heff⟩) hj hDj ho hx h1 H R1 F1)
 ·have heff : eff xs j = true:=by unfold eff; rw [zhk hx]; simp; omega
  by_cases hKj : j = K
  ·subst hKj
   obtain ⟨v,σ1,h1,h2,_⟩:=zrk (r':=⟨(yb j).reverse.map (za8 rr),zn2 rr xs p D j,(rr j).st,0,0⟩) hget rfl (hrr j _ hx)
   have hst : (rr (j + 1)).st = σ1:=by rw [h1,zeX]; rfl
   refine zeu (r:=⟨(yb j).reverse.map (za8 rr),zn2 rr xs p D j,(rr j).st,0,0⟩) S M.rel F c1 c2 c3 h2 (fun g' w' u H R1 _ F1 => ?_) (fun _ h => h)
   rw [zeX] at H R1
   have H' : Ext g w (rr j).st g' w' (rr (j + 1)).st:=by rw [hst]; exact H
   have R' : Rel g' w' (rr (j + 1)).st:=by rw [hst]; exact R1
   refine k g' w' u (j + 1) B (ztz (b:=0) (l:=0) (σ1:=σ1) C hrr henv hnd M (.inr ⟨rfl,rfl⟩) hj hDj ho hx h1 H' R' ?_)
   have e : (⟨(yb j).reverse.map (za8 rr),zn2 rr xs p D j,(rr (j + 1)).st,0,0⟩ : R) = (⟨(yb j).reverse.map (za8 rr),zn2 rr xs p D j,(rr j).st,0,0⟩ : R).at σ1:=by rw [hst]; rfl
   rw [e]
   exact F1
  ·have hKlt : K < j ∧ zwJ xs[j] = true:=by
    rcases hS with hS | ⟨hS1,hS2⟩
    ·have:=M.before j (by omega) heff
     rw [hDj] at this; cases this
    ·rcases Nat.lt_or_gt_of_ne hKj with h | h
     ·have:=M.before j h heff
      rw [hDj] at this; cases this
     ·have hKl : K < xs.length:=by omega
      rcases (C.pair h hj (ya hKl) hx).2.2.1 hS1 heff with h' | h'
      ·exact ⟨h,h'⟩
      ·have:=hA K h'
       rw [hS2] at this; cases this
   have hgd:=zqu F c2 (zh8 hKlt.2).1
   simp only [Region.wanted,hgd,if_true]
   exact zCe C hrr hnd hbd M hj hKlt.1 heff hKlt.2 ho hx F hget fun g' w' u B' M' => k g' w' u K B' M'
theorem zve (S : zgQ P Cf) (C : Chk2 P κ nt gops ps xs ms p) (hrr : ∀ i x,xs[i]? = some x → step Cf (rr i) x = some (rr (i + 1))) (h0 : (rr 0).rs = []) (henv : (rr 0).env.length = κ.length) (hnd : κ.Nodup) (hbd : ∀ t ∈ κ,t < nt) (hps : ∀ q ∈ ps,zc5 Cf xs (rr 0) q = true)
  (hend : ∀ g w a loc,Ext g0 w0 σ0 g w (rr gops.size).st → Rel g w (rr gops.size).st → Fr κ loc nt g w (rr gops.size) a → Q .normal a w) :
  ∀ (fuel : Nat) (listed : Array Bool) (K : Nat) (B : Nat → Nat) (g : G) (w : World) (a : Act),listed.size = gops.size → (∀ i,p ≤ i → Dof listed i = false) → zhp gops (Dof listed) → left (Dof listed) (yb gops.size) ≤ fuel → Mid2 P gops xs κ nt p rr g0 w0 σ0 (Dof listed) K B g w a → wpAny P .any gops Q fuel listed a w
 | fuel,listed,K,B,g,w,a,hs,hp,hcl,hf,M0 => by
   obtain ⟨K,g,M,hS⟩:=zz6 C hrr henv _ K g rfl M0
   by_cases hfull : ∀ i,i < p → Dof listed i = true
   ·have hDp : ∀ i,Dof listed i = decide (i < p):=fun i => by
     by_cases hi : i < p
     ·simp [hi,hfull i hi]
     ·simp [hi,hp i (by omega)]
    have hKp : K = p:=by
     rcases hS with hS | ⟨_,hS⟩
     ·exact hS
     ·rcases yC K p with h | h
      ·rw [hfull K h] at hS; cases hS
      ·have:=M.kp; omega
    subst hKp
    have hvis : ∀ i,i < K → vis xs (Dof listed) K i = true:=fun i hi => by simp [vis,hfull i hi,hi]
    have F0:=zqy (b:=0) (l:=0) C hrr henv hnd hbd (yo K) (lo gops xs) (fun i t hi ht => ⟨hvis i hi,ht⟩) M
    have hen : zn2 rr xs K (Dof listed) K = (rr K).env:=by
     obtain ⟨q1,q2⟩:=zgk C.w hrr K (yo _)
     refine yD fun q => ?_
     by_cases hq : q < (rr 0).env.length
     ·have e1:=zmh (D:=Dof listed) (K:=K) (q:=q) C.w hrr
      have e2:=q2 q
      have e3 : zdO rr xs K (Dof listed) K q = zgU rr xs K (fun k => decide (k < K)) q:=by
       unfold zdO zgU
       cases hk : wr xs K q with
       | none => rfl
       | some k =>
         obtain ⟨hkK,_⟩:=zgb hk
         simp only [hvis k hkK]
         simp [hkK]
      rw [e3,← e2] at e1
      rw [yc,yc] at e1
      have l1 : q < (zn2 rr xs K (Dof listed) K).length:=by simpa [zn2] using hq
      have l2 : q < (rr K).env.length:=by omega
      rw [ya l1,ya l2] at e1 ⊢
      simpa using e1
     ·rw [yg (by simp [zn2]; omega),yg (by omega)]
    have hrs:=znh hrr h0 K C.w.le
    rw [hen,← hrs] at F0
    have F : Fr κ (zhJ gops xs K) nt g w (rr K) a:=⟨F0.size,F0.len,F0.env,F0.lc,F0.lk,F0.nd,F0.bd,F0.df⟩
    refine zq7 S C.plan hrr hend fuel K listed g w a hs (yo _) C.p_le hDp ?_ M.ext M.rel F
    have hcount : ∀ n,n ≤ gops.size → n ≤ K + left (Dof listed) (yb n):=fun n => by
     induction n with
     | zero => intro _; omega
     | succ n ih =>
       intro hn
       have:=ih (by omega)
       unfold left at this ⊢
       rw [yr,List.filter_append,List.length_append]
       by_cases hnp : n < K
       ·omega
       ·have h0:=hp n (by omega)
        simp [h0]
        omega
    have:=hcount gops.size (yo _)
    omega
   ·have hready : ∀ j,j ∈ Region.ready .any gops listed → j < p ∧ j < gops.size ∧ Dof listed j = false ∧ ∀ i ∈ zas gops j,Dof listed i = true:=fun j hj => by
     obtain ⟨⟨o,ho⟩,h0,h1⟩:=(zkk hs).1 hj
     have hlt : j < gops.size:=(yk.1 ho).1
     refine ⟨?_,hlt,h0,h1⟩
     rcases yC j p with h | h
     ·exact h
     ·have hx : xs[j]? = some (xs[j]'(by rw [C.len]; exact hlt)):=ya (by rw [C.len]; exact hlt)
      have hclo:=(C.plan.tail j o _ h ho hx).2.2.2
      exact absurd (fun i hi => za1 hcl (hclo i (by omega)) h1) hfull
    obtain ⟨i0,hi0⟩:=Classical.not_forall.1 hfull
    obtain ⟨hi0,hne⟩:=Classical.not_imp.1 hi0
    have hne0 : Region.ready .any gops listed ≠ []:=zjG hs C.plan.back i0 (by have:=C.p_le; omega) (by simpa using hne)
    cases fuel with
    | zero =>
      have:=zsM (Nat.le_zero.1 hf) i0 (by have:=C.p_le; simpa using yn hi0 this)
      exact absurd this hne
    | succ fuel =>
      refine ⟨fun hr => absurd hr hne0,fun j hj => ?_⟩
      obtain ⟨hjp,hlt,hD0,hD1⟩:=hready j hj
      have ho : gops[j]? = some gops[j]:=ym hlt
      have key:=zB6 (Q:=Q) (next:=wpAny P .any gops Q fuel (listed.setIfInBounds j true)) S C hrr h0 henv hnd hbd hps hcl hD1 hD0 hp hS M hjp ho (fun g' w' u K' B' M' =>
       zve S C hrr h0 henv hnd hbd hps hend fuel _ K' B' g' w' _ (by simpa using hs) (fun i hi => by
        rw [zij hs hlt]
        unfold zba
        split
        ·omega
        ·exact hp i hi) (by rw [zij hs hlt]; exact zqt hcl hD1) (by
        rw [zij hs hlt]
        have:=zuF (Dof listed) j hD0 (yb gops.size) (by simpa using hlt)
        omega) (by
        rw [zij hs hlt]
        exact M'))
      unfold wpOp
      simp only [ho]
      split
      ·rename_i hw
       rw [if_pos hw] at key
       exact .inl key
      ·rename_i hw
       rw [if_neg hw] at key
       exact key
termination_by fuel => fuel
theorem zCV (hm : P.follows .mixedOrders = true) (Cf : zad) (S : zgQ P Cf) (κ : List Tmp) (nt id : Nat) (gops : Array Go.Oper) (ps : List (Nat × Nat)) (xs : List Oper) (hchk : zn5 P κ nt gops ps xs = true) (r r1 : R) (hr0 : r.rs = []) (hreg : zwM Cf ps xs r = some r1) : zzV P κ nt id gops r r1:=by
 intro g w a Q R0 F hend
 obtain ⟨ms,p,C⟩:=zCF hchk
 unfold zwM at hreg
 rw [yf] at hreg
 obtain ⟨r2,hsteps,hreg⟩:=hreg
 split at hreg
 ·rename_i hall
  injection hreg with hreg
  subst hreg
  obtain ⟨rr,k1,k2,hrr⟩:=zly xs r r2 hsteps
  have hps : ∀ q ∈ ps,zc5 Cf xs (rr 0) q = true:=fun q hq => by rw [k1]; exact yp.1 hall q hq
  refine wp_region_any hm ?_
  obtain ⟨D1,D2⟩:=drawn R0 1
  have hDof : ∀ i,Dof (yh gops.size false) i = false:=fun i => by
   unfold Dof
   rw [yq,yu]
   split <;> rfl
  have hvis : ∀ K i,vis xs (Dof (yh gops.size false)) K i = false:=fun K i => by simp [vis,hDof]
  have hend' : ∀ g' w' a' loc,Ext g w r.st g' w' (rr gops.size).st → Rel g' w' (rr gops.size).st → Fr κ loc nt g' w' (rr gops.size) a' → Q .normal a' w':=fun g' w' a' loc H R1 F1 => by
   rw [← C.len,k2] at H R1 F1
   exact hend g' w' a' loc H R1 F1
  refine zve (g0:=g) (w0:=w) (σ0:=r.st) (rr:=rr) S C hrr (by rw [k1]; exact hr0) (by rw [k1]; exact F.len) F.nd F.bd hps hend' gops.size (yh gops.size false) 0 (fun _ => 0) g (w.drewN 1) a (by simp) (fun i _ => hDof i) (fun j hj => by rw [hDof] at hj; cases hj) ?_ ⟨by rw [k1]; exact D1,by rw [k1]; exact D2,F.size,F.df,fun q t ht => ?_,fun i t _ hv => (by rw [hvis] at hv; cases hv),yK _,fun i hi => by omega,fun i _ hD => (by rw [hDof] at hD; cases hD),fun i j _ _ hD => (by rw [hDof] at hD; cases hD)⟩
  ·unfold left
   exact yJ (yw _ _) (by simp)
  ·have e : zdO rr xs p (Dof (yh gops.size false)) 0 q = r.env.getD q vun:=by
    unfold zdO
    split <;> simp [hvis,hDof,k1]
   rw [e,k1]
   exact D1.zf _ _ (F.env q t ht)
 ·cases hreg
end
end Go.A
namespace Go.A
inductive IK where
 | mk
 | ins (n : Int) (d : Nat) (y : X)
 | quiet
 | ld
 | bad
def zEN : Op → IK
 | .ld _ _ => .ld
 | op => if zaS op == 0 then .quiet else .bad
def zq2 : Oper → IK
 | ⟨.loc,.mkm,none⟩ => .mk
 | ⟨.no,.mu (.l d) (.c (.one (.f (.lit (.int .i64 n))))) y,none⟩ => .ins n d y
 | ⟨_,op,_⟩ => zEN op
def zCq (xs : List Oper) (i : Nat) : IK:=match xs[i]? with
 | some x => zq2 x
 | none => .bad
def zCR : IK → Bool
 | .mk => true
 | _ => false
def zuw (xs : List Oper) (i : Nat) : Option Int:=match zCq xs i with
 | .ins n _ _ => some n
 | _ => none
def zgY (gops : Array Go.Oper) (m0 j : Nat) : IK → Bool
 | .mk => j == m0
 | .ins _ d _ => decide (d < j) && (j - 1 - d == m0) && (zas gops j).contains m0
 | .quiet => true
 | .ld => true
 | .bad => false
def zrj (ms : List Nat) (xs : List Oper) (i j : Nat) : Bool:=match xs[i]?,xs[j]? with
 | some x,some y => (zgh x y || bit ms j i) && (match writes x,writes y with
   | some q,some q' => q != q'
   | _,_ => true)
 | _,_ => false
def zuN (P : Program) (κ : List Tmp) (nt : Nat) (gops : Array Go.Oper) (xs : List Oper) (ms : List Nat) (m0 j : Nat) : Bool:=match gops[j]?,xs[j]? with
 | some o,some x => okD κ nt o.dst x.dst && zfM κ (zfi gops xs j) gops o.guard x.guard && zmf P κ (zfi gops xs j) o x.dst x.op && (yb j).all (fun i => zrj ms xs i j) && zgY gops m0 j (zq2 x)
 | _,_ => false
def zoF : List Int → Bool
 | [] => true
 | x :: xs => !xs.contains x && zoF xs
def zv0 (P : Program) : List Tmp → Nat → Array Go.Oper → List Oper → Bool:=fun κ nt gops xs =>
 let ms:=zmn gops.toList []
 let p:=zn0 ms gops.size
 match (yb p).find? (fun i => zCR (zCq xs i)) with
 | none => false
 | some m0 => zih gops ms && xs.length == gops.size && decide (p ≤ gops.size) && zjl (zDS gops xs p) && zoF ((yb p).filterMap (zuw xs)) && zCR (zCq xs m0) && decide (m0 < p) && (yb p).all (zuN P κ nt gops xs ms m0) && (yb gops.size).all fun j => decide (j < p) || ziL P κ nt gops xs ms j
structure Chk3 (P : Program) (κ : List Tmp) (nt : Nat) (gops : Array Go.Oper) (xs : List Oper) (ms : List Nat) (m0 p : Nat) : Prop where
 masks : zih gops ms = true
 len : xs.length = gops.size
 p_le : p ≤ gops.size
 dup : zjl (zDS gops xs p) = true
 keys : zoF ((yb p).filterMap (zuw xs)) = true
 ismk : zCR (zCq xs m0) = true
 m0p : m0 < p
 pre : ∀ j,j < p → zuN P κ nt gops xs ms m0 j = true
 tail : ∀ j,p ≤ j → j < gops.size → ziL P κ nt gops xs ms j = true
theorem znB : ∀ {l : List Int},zoF l = true → l.Nodup
 | [],_ => .nil
 | x :: l,h => by
   simp only [zoF,ye,Bool.not_eq_true'] at h
   exact yH.2 ⟨by simpa using h.1,znB h.2⟩
section
variable {P : Program} {κ : List Tmp} {nt : Nat} {gops : Array Go.Oper} {xs : List Oper} {ms : List Nat} {m0 p : Nat} {Cf : zad} {rr : Nat → R}
theorem zCS (h : zv0 P κ nt gops xs = true) : ∃ ms m0 p,Chk3 P κ nt gops xs ms m0 p:=by
 unfold zv0 at h
 simp only at h
 split at h
 ·cases h
 ·simp only [ye,beq_iff_eq,decide_eq_true_eq] at h
  obtain ⟨⟨⟨⟨⟨⟨⟨⟨h1,h2⟩,h3⟩,h4⟩,h5⟩,h6⟩,h7⟩,h8⟩,h9⟩:=h
  refine ⟨_,_,_,h1,h2,h3,h4,h5,h6,h7,fun j hj => yp.1 h8 j (by simpa using hj),fun j hj hlt => ?_⟩
  have:=yp.1 h9 j (by simpa using hlt)
  simp only [yI,decide_eq_true_eq] at this
  rcases this with h | h
  ·omega
  ·exact h
theorem Chk3.pre_some (C : Chk3 P κ nt gops xs ms m0 p) {j : Nat} (hj : j < p) {o : Go.Oper} {x : Oper} (ho : gops[j]? = some o) (hx : xs[j]? = some x) :
  okD κ nt o.dst x.dst = true ∧ zfM κ (zfi gops xs j) gops o.guard x.guard = true ∧ zmf P κ (zfi gops xs j) o x.dst x.op = true ∧ (∀ i,i < j → zrj ms xs i j = true) ∧ zgY gops m0 j (zq2 x) = true:=by
 have h:=C.pre j hj
 unfold zuN at h
 rw [ho,hx] at h
 simp only [ye] at h
 obtain ⟨⟨⟨⟨h1,h2⟩,h3⟩,h5⟩,h6⟩:=h
 exact ⟨h1,h2,h3,fun i hi => yp.1 h5 i (by simpa using hi),h6⟩
theorem Chk3.plan (C : Chk3 P κ nt gops xs ms m0 p) : Plan P κ nt gops xs p where
 len:=C.len
 p_le:=C.p_le
 back:=fun j o ho i hi => by
  have hj : j < gops.size:=(yk.1 ho).1
  exact (zkj C.masks hj).2 i (by unfold zas; rw [ho]; exact hi)
 pre:=fun j o x hj ho hx => (C.pre_some hj ho hx).1
 apart:=fun i j t hi hj h1 h2 => zkf C.dup yF i (by simpa using hi) j (by simpa using hj) t h1 h2
 tail:=fun j o x hj ho hx => by
  have hlt : j < gops.size:=(yk.1 ho).1
  have h:=C.tail j hj hlt
  unfold ziL at h
  rw [ho,hx] at h
  simp only [ye] at h
  obtain ⟨⟨⟨h1,h2⟩,h3⟩,h4⟩:=h
  exact ⟨h1,h2,h3,fun i hi => zeR C.masks j hlt (yp.1 h4 i (by simpa using hi))⟩
theorem Chk3.pair (C : Chk3 P κ nt gops xs ms m0 p) {i j : Nat} (hij : i < j) (hj : j < p) {x y : Oper} (hx : xs[i]? = some x) (hy : xs[j]? = some y) :
  (zgh x y = true ∨ Reach gops j i) ∧ ∀ q,writes x = some q → writes y ≠ some q:=by
 have hlt : j < gops.size:=yn hj C.p_le
 have h:=(C.pre_some hj (ym hlt) hy).2.2.2.1 i hij
 unfold zrj at h
 rw [hx,hy] at h
 simp only [ye,yI] at h
 obtain ⟨h1,h2⟩:=h
 refine ⟨h1.imp id fun h => zeR C.masks j hlt h,fun q hq hq' => ?_⟩
 rw [hq,hq'] at h2
 simp at h2
theorem Chk3.w (C : Chk3 P κ nt gops xs ms m0 p) : ChkW xs p:=⟨by rw [C.len]; exact C.p_le,fun hij hj _ _ hx hy => (C.pair hij hj hx hy).2⟩
def zDR (rr : Nat → R) (i : Nat) : IK → Option (Int × V)
 | .ins n _ y => some (n,(rr i).get y)
 | _ => none
def ent (rr : Nat → R) (xs : List Oper) (i : Nat) : Option (Int × V):=zDR rr i (zCq xs i)
def zrI (rr : Nat → R) (xs : List Oper) (D : Nat → Bool) (i : Nat) : Option (Int × V):=if D i then ent rr xs i else none
def zbl (rr : Nat → R) (xs : List Oper) (p : Nat) (D : Nat → Bool) : List (Int × V):=(yb p).filterMap (zrI rr xs D)
def zgs (rr : Nat → R) (xs : List Oper) (p m0 : Nat) (D : Nat → Bool) : zd:=if D m0 then (rr 0).st ++ [.mp (zbl rr xs p D)] else (rr 0).st
theorem zdk {α β : Type} {f f' : α → Option β} : ∀ {l : List α},(∀ i ∈ l,f' i = f i) → l.filterMap f' = l.filterMap f
 | [],_ => rfl
 | y :: l,h => by
   simp only [yd,h y (by simp),zdk fun i hi => h i (List.mem_cons_of_mem _ hi)]
theorem zlS {α β : Type} [DecidableEq α] {f f' : α → Option β} {j : α} {x : β} : ∀ {l : List α},l.Nodup → j ∈ l → (∀ i,i ≠ j → f' i = f i) → f j = none → f' j = some x → (l.filterMap f').Perm (l.filterMap f ++ [x])
 | [],_,h,_,_,_ => by simp at h
 | y :: l,hn,h,h1,h2,h3 => by
   rw [yH] at hn
   by_cases e : y = j
   ·subst e
    have : l.filterMap f' = l.filterMap f:=zdk fun i hi => h1 i (fun e => hn.1 (e ▸ hi))
    simp only [yd,h2,h3,this]
    exact (List.perm_append_singleton _ _).symm
   ·have ih:=zlS hn.2 (by simpa [Ne.symm e] using h) h1 h2 h3
    simp only [yd,h1 y e]
    cases f y with
    | none => exact ih
    | some z => exact ih.cons z
theorem zDH (i : Nat) : (ent rr xs i).map (·.1) = zuw xs i:=by
 unfold ent zuw
 cases zCq xs i <;> rfl
theorem zyR {D : Nat → Bool} : ∀ {l : List Nat},(l.filterMap (zrI rr xs D)).map (·.1) = (l.filter D).filterMap (zuw xs)
 | [] => rfl
 | i :: l => by
   have ih:=zyR (D:=D) (l:=l)
   have hk:=zDH (rr:=rr) (xs:=xs) i
   cases hD : D i with
   | false =>
     have : zrI rr xs D i = none:=by simp [zrI,hD]
     simp only [yd,yG,this,hD,ih]
     simp
   | true =>
     have : zrI rr xs D i = ent rr xs i:=by simp [zrI,hD]
     simp only [yd,yG,this,hD,if_true]
     cases he : ent rr xs i with
     | none =>
       rw [he] at hk
       simp only [Option.map_none] at hk
       simp only [← hk,ih]
     | some e =>
       rw [he] at hk
       simp only [yx] at hk
       simp only [← hk,ih,List.map_cons]
theorem zAp {α β : Type} {f : α → Option β} {D : α → Bool} {l : List α} (h : (l.filterMap f).Nodup) : ((l.filter D).filterMap f).Nodup :=
 h.sublist (List.filter_sublist.filterMap f)
theorem zwV (hk : zoF ((yb p).filterMap (zuw xs)) = true) (D : Nat → Bool) : ((zbl rr xs p D).map (·.1)).Nodup:=by
 unfold zbl
 rw [zyR]
 exact zAp (znB hk)
theorem zjT {i : Nat} {x : Oper} (hx : xs[i]? = some x) : zCq xs i = zq2 x:=by unfold zCq; rw [hx]
theorem zvp (hk : zoF ((yb p).filterMap (zuw xs)) = true) {D : Nat → Bool} {j : Nat} (hj : j < p) (hD : D j = false) {n : Int} {v : V} (he : ent rr xs j = some (n,v)) :
  zif n (zbl rr xs p D) = none ∧ (zbl rr xs p D ++ [(n,v)]).Perm (zbl rr xs p (zba D j)):=by
 have hp:=zlS (f:=zrI rr xs D) (f':=zrI rr xs (zba D j)) (x:=(n,v)) yF (List.mem_range.2 hj) (fun i hi => by simp [zrI,zba,hi]) (by simp [zrI,hD]) (by simp [zrI,zba,he])
 have hn:=zwV (rr:=rr) hk (zba D j)
 refine ⟨zjt.2 fun e hee heq => ?_,hp.symm⟩
 have hn2 : ((zbl rr xs p D ++ [(n,v)]).map (·.1)).Nodup:=(hp.map (·.1)).nodup_iff.1 hn
 rw [List.map_append,List.nodup_append] at hn2
 exact hn2.2.2 e.1 (yL.2 ⟨e,hee,rfl⟩) n (by simp) heq
theorem zy7 {D : Nat → Bool} {j : Nat} (he : ent rr xs j = none) : zbl rr xs p (zba D j) = zbl rr xs p D:=by
 refine zdk fun i _ => ?_
 unfold zrI zba
 by_cases e : i = j
 ·subst e; simp [he]
 ·simp [e]
theorem zvh {x : Oper} {n : Int} {d : Nat} {y : X} (h : zq2 x = .ins n d y) : x = ⟨.no,.mu (.l d) (.c (.one (.f (.lit (.int .i64 n))))) y,none⟩:=by
 unfold zq2 at h
 split at h
 ·cases h
 ·injection h with h1 h2 h3; subst h1 h2 h3; rfl
 ·unfold zEN at h
  split at h
  ·cases h
  ·split at h <;> cases h
theorem zz3 {x : Oper} (h : zq2 x = .mk) : x = ⟨.loc,.mkm,none⟩:=by
 unfold zq2 at h
 split at h
 ·rfl
 ·cases h
 ·unfold zEN at h
  split at h
  ·cases h
  ·split at h <;> cases h
theorem zqO {x : Oper} (h : zq2 x = .quiet) : zaS x.op = 0:=by
 unfold zq2 at h
 split at h
 ·cases h
 ·cases h
 ·unfold zEN at h
  split at h
  ·cases h
  ·split at h
   ·rename_i hc; simpa using hc
   ·cases h
theorem zAm {x : Oper} (h : zq2 x = .ld) : ∃ sz y,x.op = .ld sz y:=by
 unfold zq2 at h
 split at h
 ·cases h
 ·cases h
 ·unfold zEN at h
  split at h
  ·exact ⟨_,_,rfl⟩
  ·split at h <;> cases h
end
end Go.A
namespace Go.A
section
variable {P : Program} {κ : List Tmp} {nt : Nat} {gops : Array Go.Oper} {xs : List Oper} {ms : List Nat} {m0 p b l : Nat} {Cf : zad} {rr : Nat → R}
theorem zA5 {g : G} {w : World} {σ : zd} {id : Nat} {es es' : List (Int × V)} (R : Rel g w σ) (hid : σ[id]? = some (.mp es)) (hp : es.Perm es') : Ext g w σ g w (σ.set id (.mp es')) ∧ Rel g w (σ.set id (.mp es')):=by
 refine replace R hid (fun _ => False) rfl rfl rfl (yo _) (fun b hb _ => ⟨rfl,rfl,fun _ h => h⟩) (fun b h => h.elim) (fun _ _ _ h => h) (fun _ _ => rfl) (fun _ _ _ => rfl) R.nb
  (fun ver' sz' len' hs => by simp [shapeOf,hid,Ob.shape] at hs) (fun es0 h => ⟨rfl,es',rfl⟩) (fun k n h => by simp [zlw,hid,Ob.fr] at h) (fun _ _ h => by cases h) (fun H => ?_)
 obtain ⟨h1,h2,zbl,clock,h3,h4⟩:=R.ob id _ hid
 exact ⟨h1,h2,zbl,clock,h3,zxm hp (H.zk2 h4)⟩
theorem zyI {σ σ' : zd} (hs : ∀ (id ver sz : Nat) (es : List (List C)),σ[id]? = some (.cells ver sz es) → σ'[id]? = some (.cells ver sz es)) {sz : Option Nat} {v u : V} (h : ald σ sz v = some u) : ald σ' sz v = some u:=by
 have key : ∀ {id ver i : Nat} {el : List C},σ.elem id ver i = some el → σ'.elem id ver i = some el:=fun {id ver i el} he => by
  unfold zd.elem at he ⊢
  rw [yf] at he ⊢
  obtain ⟨o,q1,q2⟩:=he
  cases o with
  | cells v' sz' es => exact ⟨_,hs id v' sz' es q1,q2⟩
  | tok _ _ => simp [Ob.elem] at q2
  | mp _ => simp [Ob.elem] at q2
 unfold ald at h ⊢
 split at h
 ·rw [yy] at h ⊢
  obtain ⟨c,q1,q2⟩:=h
  unfold zd.cell at q1 ⊢
  rw [yf] at q1
  obtain ⟨el,q3,q4⟩:=q1
  exact ⟨c,by rw [yf]; exact ⟨el,key q3,q4⟩,q2⟩
 ·exact h
 ·rw [yy] at h ⊢
  obtain ⟨c,q1,q2⟩:=h
  rw [yf] at q1
  obtain ⟨el,q3,q4⟩:=q1
  exact ⟨c,by rw [yf]; exact ⟨el,key q3,q4⟩,q2⟩
 ·exact h
 ·cases h
theorem zDA {x : Oper} {sz : Option Nat} {y : X} (hop : x.op = .ld sz y) {r r' r1 : R} (hg : ∀ z ∈ zeN x,r'.get z = r.get z) (hs : ∀ (id ver sz : Nat) (es : List (List C)),r.st[id]? = some (.cells ver sz es) → r'.st[id]? = some (.cells ver sz es)) (h : step Cf r x = some r1) :
  ∃ v,r1 = r.put x.dst v ∧ step Cf r' x = some (r'.put x.dst v):=by
 obtain ⟨d,op,gd⟩:=x
 simp only at hop
 subst hop
 have one : za7 Cf r d (.ld sz y) = some r1 → ∃ v,r1 = r.put d v ∧ za7 Cf r' d (.ld sz y) = some (r'.put d v):=fun h => by
  simp only [za7] at h ⊢
  obtain ⟨v,h1,h2⟩:=zqP h
  have hy : r'.get y = r.get y:=hg y (by simp [zeN,opX])
  exact ⟨v,h2,by rw [hy,zyI hs h1]; rfl⟩
 cases gd with
 | none => exact one h
 | some q =>
   obtain ⟨z,bb⟩:=q
   simp only [step] at h ⊢
   rw [hg z (by simp [zeN])]
   unfold znx at h ⊢
   split at h
   ·split at h
    ·rename_i hb
     rw [if_pos hb]
     exact one h
    ·rename_i hb
     rw [if_neg hb]
     injection h with h
     exact ⟨.tup [],h.symm,rfl⟩
   ·injection h with h
    exact ⟨.tup [],h.symm,rfl⟩
   ·cases h
theorem Chk3.kind (C : Chk3 P κ nt gops xs ms m0 p) {j : Nat} (hj : j < p) {x : Oper} (hx : xs[j]? = some x) : zgY gops m0 j (zq2 x) = true :=
 (C.pre_some hj (ym (yn hj C.p_le)) hx).2.2.2.2
theorem zFm (C : Chk3 P κ nt gops xs ms m0 p) (hrr : ∀ i x,xs[i]? = some x → step Cf (rr i) x = some (rr (i + 1))) (h0 : (rr 0).rs = []) : ∀ j,j ≤ p →
  (rr j).st = (if m0 < j then (rr 0).st ++ [.mp ((yb j).filterMap (ent rr xs))] else (rr 0).st) ∧ (m0 < j → za8 rr m0 = .one (.map (rr 0).st.length))
 | 0,_ => ⟨by simp,fun h => by omega⟩
 | j + 1,hj => by
   obtain ⟨ih1,ih2⟩:=zFm C hrr h0 j (by omega)
   have hxl : j < xs.length:=by have:=C.w.le; omega
   have hx : xs[j]? = some xs[j]:=ya hxl
   have hk:=C.kind (by omega) hx
   have hstep:=hrr j _ hx
   have quiet : ent rr xs j = none → j ≠ m0 → (rr (j + 1)).st = (rr j).st → (rr (j + 1)).st = (if m0 < j + 1 then (rr 0).st ++ [.mp ((yb (j + 1)).filterMap (ent rr xs))] else (rr 0).st) ∧ (m0 < j + 1 → za8 rr m0 = .one (.map (rr 0).st.length)):=fun he hne hst => by
    refine ⟨?_,fun h => ih2 (by omega)⟩
    rw [hst,ih1,yr,yj]
    simp only [yd,yt,he,yz]
    by_cases h : m0 < j
    ·rw [if_pos h,if_pos (by omega)]
    ·rw [if_neg h,if_neg (by omega)]
   have hent : ent rr xs j = zDR rr j (zq2 xs[j]):=by unfold ent; rw [zjT hx]
   cases hik : zq2 xs[j] with
   | bad => rw [hik] at hk; simp [zgY] at hk
   | quiet =>
     rw [hik] at hent
     refine quiet hent (fun e => ?_) ?_
     ·subst e
      have:=C.ismk
      rw [zjT hx,hik] at this
      simp [zCR] at this
     ·obtain ⟨v,σ1,h1,h2⟩:=zmr hrr hx
      have hc:=zqO hik
      rw [h1,zeX]
      rcases h2 with h2 | h2
      ·exact h2
      ·exact h2.1 (by omega)
   | ld =>
     rw [hik] at hent
     refine quiet hent (fun e => ?_) ?_
     ·subst e
      have:=C.ismk
      rw [zjT hx,hik] at this
      simp [zCR] at this
     ·obtain ⟨sz,y,hop⟩:=zAm hik
      obtain ⟨v,σ1,h1,h2⟩:=zmr hrr hx
      rw [h1,zeX]
      rcases h2 with h2 | h2
      ·exact h2
      ·exact h2.1 (by rw [hop]; simp [zaS])
   | mk =>
     rw [hik] at hk hent
     simp only [zgY,beq_iff_eq] at hk
     subst hk
     have hxe:=zz3 hik
     rw [hxe] at hstep
     simp only [step,za7,Option.some.injEq] at hstep
     have hnone : (yb j).filterMap (ent rr xs) = []:=by
      rw [yl]
      intro i hi
      have hij : i < j:=by simpa using hi
      have hxi : xs[i]? = some (xs[i]'(by omega)):=ya (by omega)
      have hki:=C.kind (by omega) hxi
      unfold ent
      rw [zjT hxi]
      cases hii : zq2 (xs[i]'(by omega)) with
      | ins n d y =>
        rw [hii] at hki
        simp only [zgY,ye,decide_eq_true_eq,beq_iff_eq] at hki
        omega
      | _ => rfl
     refine ⟨?_,fun _ => ?_⟩
     ·rw [← hstep,yr,yj,hnone]
      simp only [yd,yt,hent,zDR,yz,if_pos (Nat.lt_succ_self j)]
      rw [if_neg (by omega)] at ih1
      simp only [R.put,R.alloc,ih1]
     ·rw [if_neg (by omega)] at ih1
      unfold za8
      rw [← hstep]
      simp [R.put,R.alloc,ih1]
   | ins n d y =>
     rw [hik] at hk hent
     simp only [zgY,ye,decide_eq_true_eq,beq_iff_eq] at hk
     obtain ⟨⟨hd,hm⟩,_⟩:=hk
     have hlt : m0 < j:=by omega
     rw [if_pos hlt] at ih1
     have hxe:=zvh hik
     rw [hxe] at hstep
     have hrs:=znh hrr h0 j (by omega)
     have hget : (rr j).get (.l d) = .one (.map (rr 0).st.length):=by
      show (rr j).rs.getD d vun = _
      rw [hrs,yc,zju (za8 rr) hd,hm]
      exact ih2 hlt
     have hnew:=(zvp (rr:=rr) C.keys (D:=fun i => decide (i < j)) (n:=n) (v:=(rr j).get y) (by omega : j < p) (by simp) (by rw [hent]; rfl)).1
     have hents : zbl rr xs p (fun i => decide (i < j)) = (yb j).filterMap (ent rr xs):=by
      unfold zbl
      obtain ⟨q,hq⟩ : ∃ q,p = j + q:=⟨p - j,by omega⟩
      rw [hq,List.range_add,yj]
      have h1 : (yb j).filterMap (zrI rr xs fun i => decide (i < j)) = (yb j).filterMap (ent rr xs):=zdk fun i hi => by
       have : i < j:=by simpa using hi
       simp [zrI,this]
      have h2 : ((yb q).map (j + ·)).filterMap (zrI rr xs fun i => decide (i < j)) = []:=by
       rw [yl]
       intro i hi
       obtain ⟨k,_,rfl⟩:=yL.1 hi
       have : ¬ j + k < j:=by omega
       simp [zrI,this]
      rw [h1,h2,yz]
     rw [hents] at hnew
     simp only [step,za7,hget] at hstep
     have hk2 : (rr j).get (.c (.one (.f (.lit (.int .i64 n))))) = .one (.f (.lit (.int .i64 n))):=rfl
     rw [hk2] at hstep
     simp only [amu,ih1,yi,yA,Ob.entries,yx,Option.some.injEq] at hstep
     refine ⟨?_,fun _ => ih2 hlt⟩
     rw [← hstep,if_pos (by omega),yr,yj]
     simp only [yd,yt,hent,zDR,R.put,zEO,R.setOb,ih1,zie hnew]
     simp
end
end Go.A
namespace Go.A
section
variable {P : Program} {κ : List Tmp} {nt : Nat} {gops : Array Go.Oper} {xs : List Oper} {ms : List Nat} {m0 p b l : Nat} {Cf : zad} {rr : Nat → R}
theorem zBT {D : Nat → Bool} {j : Nat} (he : ent rr xs j = none) (hne : j ≠ m0) : zgs rr xs p m0 (zba D j) = zgs rr xs p m0 D:=by
 unfold zgs
 rw [zy7 he]
 have : zba D j m0 = D m0:=by simp [zba,Ne.symm hne]
 rw [this]
theorem zES (S : zgQ P Cf) (C : Chk3 P κ nt gops xs ms m0 p) (hrr : ∀ i x,xs[i]? = some x → step Cf (rr i) x = some (rr (i + 1))) (h0 : (rr 0).rs = []) : Local P κ nt gops xs (za8 rr) (zdP rr xs p) (zgs rr xs p m0) p b l:=by
 intro j o x D g w a next Q hj ho hx hDj hE hcl hDp R0 F k
 have hpN : p ≤ xs.length:=C.w.le
 obtain ⟨c1,c2,c3,_,c5⟩:=C.pre_some hj ho hx
 have hA : ∀ i,Reach gops j i → D i = true:=fun i h => za1 hcl h hE
 have hB : ∀ i,Reach gops i j → D i = false:=fun i h => by
  cases hi : D i with
  | false => rfl
  | true =>
    have:=za1 hcl h (hcl i hi)
    rw [hDj] at this
    cases this
 let r' : R:=⟨(yb j).reverse.map (za8 rr),zdP rr xs p D,zgs rr xs p m0 D,b,l⟩
 have hrs:=znh hrr h0 j (by omega)
 obtain ⟨_,henv⟩:=zgk C.w hrr j (yv hj)
 have hget : ∀ y ∈ zeN x,r'.get y = (rr j).get y:=fun y hy => by
  cases y with
  | l d => show ((yb j).reverse.map (za8 rr)).getD d vun = (rr j).rs.getD d vun; rw [hrs]
  | c v => rfl
  | s q =>
    show (zdP rr xs p D).getD q vun = (rr j).env.getD q vun
    rw [zgC C.w hrr,henv]
    unfold zgU
    cases hi : wr xs p q with
    | none => rfl
    | some i =>
      obtain ⟨hip,x',hx',hw⟩:=zgb hi
      have hread : zfv q x = true:=by
       unfold zfv
       rw [yE]
       exact ⟨_,hy,by simp⟩
      have : D i = decide (i < j):=by
       rcases yB i j with hlt | rfl | hlt
       ·rcases (C.pair hlt hj hx' hx).1 with h | h
        ·exfalso
         unfold zgh at h
         rw [hw] at h
         simp [hread] at h
        ·rw [hA i h]; simp [hlt]
       ·rw [hDj]; simp
       ·rcases (C.pair hlt hip hx hx').1 with h | h
        ·exfalso
         unfold zgh at h
         rw [hw] at h
         simp [hread] at h
        ·rw [hB i h]; simp; omega
      simp only [this]
 have hent : ent rr xs j = zDR rr j (zq2 x):=by unfold ent; rw [zjT hx]
 obtain ⟨hst,hm0⟩:=zFm C hrr h0 j (yv hj)
 have fin : ∀ {v : V} {σ1 σ2 : zd},rr (j + 1) = ((rr j).at σ1).put x.dst v → (r'.at σ2).put x.dst v = ⟨za8 rr j :: (yb j).reverse.map (za8 rr),zdP rr xs p (zba D j),σ2,b,l⟩:=fun {v σ1 σ2} h1 => by
  have he:=zpA C.w hrr (D:=D) hj hx h1
  have hval : za8 rr j = (((rr j).at σ1).put x.dst v).rs.headD vun:=by unfold za8; rw [h1]
  rw [he,hval]
  cases x.dst <;> rfl
 have quietly : ent rr xs j = none → j ≠ m0 → (∃ v,rr (j + 1) = (rr j).put x.dst v ∧ step Cf r' x = some (r'.put x.dst v)) → if Region.wanted o (yielded gops a.tmps) then o.wp P a w next Q else next (a.put o.dst undef) w:=fun he hne ⟨v,h1,h2⟩ => by
  have hf : (r'.at (zgs rr xs p m0 D)).put x.dst v = _:=fin (σ1:=(rr j).st) h1
  have h2' : step Cf r' x = some ⟨za8 rr j :: (yb j).reverse.map (za8 rr),zdP rr xs p (zba D j),zgs rr xs p m0 D,b,l⟩:=by rw [h2,← hf]; rfl
  rw [← zBT (rr:=rr) (p:=p) he hne] at h2'
  exact zeu (r:=r') S R0 F c1 c2 c3 h2' (fun g' w' u H R1 _ F1 => k g' w' u H R1 F1) (fun _ h => h)
 cases hik : zq2 x with
 | bad => rw [hik] at c5; simp [zgY] at c5
 | quiet =>
   rw [hik] at hent
   refine quietly hent (fun e => ?_) ?_
   ·subst e
    have:=C.ismk
    rw [zjT hx,hik] at this
    simp [zCR] at this
   ·have hc:=zqO hik
    obtain ⟨n,hn⟩:=exX (rr j).get (zeN x)
    exact zfK (r':=r') (n:=n) (by omega) hget (hn n (yo _)) (fun h => by omega) (fun h => by omega) (hrr j x hx)
 | ld =>
   rw [hik] at hent
   refine quietly hent (fun e => ?_) ?_
   ·subst e
    have:=C.ismk
    rw [zjT hx,hik] at this
    simp [zCR] at this
   ·obtain ⟨sz,y,hop⟩:=zAm hik
    refine zDA (r':=r') hop hget (fun id ver sz es hid => ?_) (hrr j x hx)
    have h1 : (rr 0).st[id]? = some (.cells ver sz es):=by
     rw [hst] at hid
     split at hid
     ·rcases yC id (rr 0).st.length with h | h
      ·rwa [ys h] at hid
      ·rw [List.getElem?_append_right h] at hid
       cases hq : id - (rr 0).st.length with
       | zero => rw [hq] at hid; simp at hid
       | succ q => rw [hq] at hid; simp at hid
     ·exact hid
    show (zgs rr xs p m0 D)[id]? = _
    unfold zgs
    split
    ·rw [ys (zb h1)]; exact h1
    ·exact h1
 | mk =>
   rw [hik] at c5 hent
   simp only [zgY,beq_iff_eq] at c5
   subst c5
   have hxe:=zz3 hik
   have hstep:=hrr j x hx
   rw [hxe] at hstep
   simp only [step,za7,Option.some.injEq] at hstep
   rw [if_neg (by omega)] at hst
   have hD0 : zgs rr xs p j D = (rr 0).st:=by unfold zgs; rw [hDj]; rfl
   have hnone : zbl rr xs p (zba D j) = []:=by
    unfold zbl
    rw [yl]
    intro i hi
    have hip : i < p:=by simpa using hi
    by_cases e : i = j
    ·subst e
     simp only [zrI,zba,if_true,hent,zDR]
    ·have hxi : xs[i]? = some (xs[i]'(by omega)):=ya (by omega)
     have hki:=C.kind hip hxi
     have : zba D j i = D i:=by simp [zba,e]
     unfold zrI
     rw [this]
     cases hDi : D i with
     | false => rfl
     | true =>
       simp only [if_true]
       unfold ent
       rw [zjT hxi]
       cases hii : zq2 (xs[i]'(by omega)) with
       | ins n d y =>
         rw [hii] at hki
         simp only [zgY,ye,decide_eq_true_eq,beq_iff_eq] at hki
         have:=hcl i hDi j (by simpa using hki.2)
         rw [hDj] at this
         cases this
       | _ => rfl
   have hnew : zgs rr xs p j (zba D j) = (rr 0).st ++ [.mp []]:=by
    unfold zgs
    rw [hnone]
    simp [zba]
   have h1 : rr (j + 1) = ((rr j).at ((rr 0).st ++ [.mp []])).put x.dst (.one (.map (rr 0).st.length)):=by
    rw [← hstep,hxe]
    simp only [R.put,R.alloc,R.at,hst]
   have h2 : step Cf r' x = some ((r'.at ((rr 0).st ++ [.mp []])).put x.dst (.one (.map (rr 0).st.length))):=by
    rw [hxe]
    have hr : r'.st = (rr 0).st:=hD0
    simp only [step,za7,R.put,R.alloc,R.at,hr]
   rw [fin h1,← hnew] at h2
   exact zeu (r:=r') S R0 F c1 c2 c3 h2 (fun g' w' u H R1 _ F1 => k g' w' u H R1 F1) (fun _ h => h)
 | ins n d y =>
   rw [hik] at c5 hent
   simp only [zgY,ye,decide_eq_true_eq,beq_iff_eq] at c5
   obtain ⟨⟨hd,hm⟩,hedge⟩:=c5
   have hDm : D m0 = true:=hE m0 (by simpa using hedge)
   have hlt : m0 < j:=by omega
   rw [if_pos hlt] at hst
   have hxe:=zvh hik
   have hstep:=hrr j x hx
   have hgetl : (rr j).get (.l d) = .one (.map (rr 0).st.length):=by
    show (rr j).rs.getD d vun = _
    rw [hrs,yc,zju (za8 rr) hd,hm]
    exact hm0 hlt
   have hg1 : r'.get (.l d) = .one (.map (rr 0).st.length):=by rw [hget _ (by rw [hxe]; simp [zeN,opX])]; exact hgetl
   have hg2 : r'.get y = (rr j).get y:=hget _ (by rw [hxe]; simp [zeN,opX])
   have hr : r'.st = (rr 0).st ++ [.mp (zbl rr xs p D)]:=by show zgs rr xs p m0 D = _; unfold zgs; rw [hDm]; rfl
   obtain ⟨hnone,hperm⟩:=zvp (rr:=rr) C.keys (n:=n) (v:=(rr j).get y) hj hDj (by rw [hent]; rfl)
   have hnew : zgs rr xs p m0 (zba D j) = (rr 0).st ++ [.mp (zbl rr xs p (zba D j))]:=by
    unfold zgs
    have : zba D j m0 = true:=by simp [zba,hDm]
    rw [this]
    rfl
   have h1 : ∃ σ1,rr (j + 1) = ((rr j).at σ1).put x.dst vun:=by
    rw [hxe] at hstep
    have hk2 : (rr j).get (.c (.one (.f (.lit (.int .i64 n))))) = .one (.f (.lit (.int .i64 n))):=rfl
    simp only [step,za7,hgetl,hk2] at hstep
    simp only [amu,hst,yi,yA,Ob.entries,yx,Option.some.injEq] at hstep
    rw [← hstep,hxe]
    exact ⟨_,rfl⟩
   obtain ⟨σ1,h1⟩:=h1
   have h2 : step Cf r' x = some ((r'.at ((rr 0).st ++ [.mp (zbl rr xs p D ++ [(n,(rr j).get y)])])).put x.dst vun):=by
    rw [hxe]
    have hk2 : r'.get (.c (.one (.f (.lit (.int .i64 n))))) = .one (.f (.lit (.int .i64 n))):=rfl
    simp only [step,za7,hg1,hk2,hg2]
    simp only [amu,hr,yi,yA,Ob.entries,yx,zEO,R.setOb,zie hnone,R.put,R.at]
    simp
   rw [fin h1] at h2
   refine zeu (r:=r') S R0 F c1 c2 c3 h2 (fun g' w' u H R1 _ F1 => ?_) (fun _ h => h)
   have hid : ((rr 0).st ++ [Ob.mp (zbl rr xs p D ++ [(n,(rr j).get y)])])[(rr 0).st.length]? = some (.mp (zbl rr xs p D ++ [(n,(rr j).get y)])):=by simp
   obtain ⟨H2,R2⟩:=zA5 R1 hid hperm
   have hset : ((rr 0).st ++ [Ob.mp (zbl rr xs p D ++ [(n,(rr j).get y)])]).set (rr 0).st.length (.mp (zbl rr xs p (zba D j))) = zgs rr xs p m0 (zba D j):=by rw [hnew]; simp
   have H2' : Ext g' w' ((rr 0).st ++ [.mp (zbl rr xs p D ++ [(n,(rr j).get y)])]) g' w' (zgs rr xs p m0 (zba D j)):=by rw [← hset]; exact H2
   have R2' : Rel g' w' (zgs rr xs p m0 (zba D j)):=by rw [← hset]; exact R2
   exact k g' w' u (H.trans H2') R2' (F1.ext H2' rfl rfl)
theorem zzS (hm : P.follows .mixedOrders = true) (Cf : zad) (S : zgQ P Cf) (κ : List Tmp) (nt id : Nat) (gops : Array Go.Oper) (xs : List Oper) (hchk : zv0 P κ nt gops xs = true) (r r1 : R) (hr0 : r.rs = []) (hsteps : steps Cf xs r = some r1) : zzV P κ nt id gops r r1:=by
 intro g w a Q R0 F hend
 obtain ⟨ms,m0,p,C⟩:=zCS hchk
 obtain ⟨rr,k1,k2,hrr⟩:=zly xs r r1 hsteps
 have h0 : (rr 0).rs = []:=by rw [k1]; exact hr0
 have hpN : p ≤ xs.length:=C.w.le
 refine wp_region_any hm ?_
 obtain ⟨D1,D2⟩:=drawn R0 1
 have hDof : ∀ i,Dof (yh gops.size false) i = false:=fun i => by
  unfold Dof
  rw [yq,yu]
  split <;> rfl
 have hst0 : zgs rr xs p m0 (Dof (yh gops.size false)) = r.st:=by
  unfold zgs
  rw [hDof,k1]
  rfl
 have henv0 : ∀ q,(zdP rr xs p (Dof (yh gops.size false))).getD q vun = r.env.getD q vun:=fun q => by
  rw [zgC C.w hrr]
  unfold zgU
  split <;> simp [hDof,k1]
 have hend' : ∀ g' w' a' loc,Ext g w r.st g' w' (rr gops.size).st → Rel g' w' (rr gops.size).st → Fr κ loc nt g' w' (rr gops.size) a' → Q .normal a' w':=fun g' w' a' loc H R1 F1 => by
  rw [← C.len,k2] at H R1 F1
  exact hend g' w' a' loc H R1 F1
 refine zuL (b:=0) (l:=0) (v:=za8 rr) (envD:=zdP rr xs p) (σD:=zgs rr xs p m0) (g0:=g) (w0:=w) (σ0:=r.st) (rr:=rr) S C.plan (zES S C hrr h0) hrr (znh hrr h0 p hpN) (fun D => by simp [zdP,k1,F.len]) F.nd F.bd (fun D hD => ⟨?_,?_⟩) hend' gops.size (yh gops.size false) g (w.drewN 1) a (by simp) (fun i _ => hDof i) (fun j hj => by rw [hDof] at hj; cases hj) ?_ ⟨?_,?_,F.size,F.df,fun i t ht => ?_,fun i t _ hD => by rw [hDof] at hD; cases hD⟩
 ·
  have h:=(zFm C hrr h0 p (yo _)).1
  rw [if_pos C.m0p] at h
  rw [h]
  unfold zgs
  rw [hD]
  simp only [C.m0p,decide_true,if_true]
  congr 3
  exact zdk fun i hi => by
   have : i < p:=by simpa using hi
   simp [zrI,hD,this]
 ·
  obtain ⟨q1,q2⟩:=zgk C.w hrr p (yo _)
  refine yD fun q => ?_
  by_cases hq : q < (rr 0).env.length
  ·have e1:=zgC (D:=D) (q:=q) C.w hrr
   have e2:=q2 q
   have e3 : zgU rr xs p D q = zgU rr xs p (fun k => decide (k < p)) q:=by
    congr 1
    funext k
    exact hD k
   rw [e3,← e2] at e1
   rw [yc,yc] at e1
   have l1 : q < (zdP rr xs p D).length:=by simpa [zdP] using hq
   have l2 : q < (rr p).env.length:=by omega
   rw [ya l1,ya l2] at e1 ⊢
   simpa using e1
  ·rw [yg (by simp [zdP]; omega),yg (by omega)]
 ·
  unfold left
  exact yJ (yw _ _) (by simp)
 ·rw [hst0]; exact D1
 ·rw [hst0]; exact D2
 ·rw [hst0,henv0]
  exact D1.zf _ _ (F.env i t ht)
end
end Go.A
