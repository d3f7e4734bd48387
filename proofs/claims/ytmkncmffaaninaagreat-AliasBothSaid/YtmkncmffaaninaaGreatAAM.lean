/- A part of the proof of AliasBoth. Conditions: none. -/
import Derived.Test.YtmkncmffaaninaaGreatAAL
set_option linter.all false
open Bool renaming and_eq_true → ya,or_eq_true → ym,not_eq_true' → yn,and_eq_false_iff → yv,not_eq_false' → yz
open List renaming getElem?_eq_getElem → yb,range → yc,filterMap_cons → yd,getD_eq_getElem?_getD → yf,all_eq_true → yg,filterMap_append → yj,getElem?_eq_none → yo,getElem?_append_left → yp,range_succ → yq,filterMap_eq_nil_iff → yr,filterMap_nil → yt,append_nil → yx,nodup_range → yA,filter_cons → yB,nodup_cons → yC,mem_map → yI
open Option renaming bind_eq_some_iff → ye,map_eq_some_iff → yw,bind_some → yy,map_some → yG
open Array renaming getElem?_eq_getElem → yh,getElem?_eq_some_iff → yk,replicate → yu
open Nat renaming lt_of_lt_of_le → yi,le_refl → yl,le_trans → yD,le_of_lt → yE,lt_or_ge → yF,zero_le → yH
namespace Go.A
theorem Value.beq_eq {a b : Value} (h : Value.beq a b = true) : a = b:=by
 unfold Value.beq at h;split at h
 ·simp only [ya,decide_eq_true_eq] at h
  rw [h.1,h.2]
 ·simp only [beq_iff_eq] at h
  rw [h]
 ·rename_i a b
  simp only [decide_eq_true_eq] at h
  have : a = b:=by
   cases a;cases b;simp only [ByteArray.mk.injEq];exact Array.toList_inj.1 h
  rw [this]
 ·cases h
mutual
theorem Fz.beq_eq : ∀ {a b : Fz},a.beq b = true → a = b
 | .lit v,.lit u,h => by
   simp only [Fz.beq] at h;rw [Value.beq_eq h]
 | .sl xs,.sl ys,h => by
   simp only [Fz.beq] at h;rw [Fz.beqs_eq h]
 | .lit _,.sl _,h => by simp [Fz.beq] at h
 | .sl _,.lit _,h => by simp [Fz.beq] at h
theorem Fz.beqR_eq : ∀ {a b : List Fz},Fz.beqR a b = true → a = b
 | [],[],_ => rfl
 | x :: xs,y :: ys,h => by
   simp only [Fz.beqR,ya] at h;rw [Fz.beq_eq h.1,Fz.beqR_eq h.2]
 | [],_ :: _,h => by simp [Fz.beqR] at h
 | _ :: _,[],h => by simp [Fz.beqR] at h
theorem Fz.beqs_eq : ∀ {a b : List (List Fz)},Fz.beqs a b = true → a = b
 | [],[],_ => rfl
 | x :: xs,y :: ys,h => by
   simp only [Fz.beqs,ya] at h;rw [Fz.beqR_eq h.1,Fz.beqs_eq h.2]
 | [],_ :: _,h => by simp [Fz.beqs] at h
 | _ :: _,[],h => by simp [Fz.beqs] at h
end
theorem C.beq_eq {a b : C} (h : a.beq b = true) : a = b:=by
 unfold C.beq at h;split at h
 ·rw [Fz.beq_eq h]
 ·simp only [ya,decide_eq_true_eq] at h
  obtain ⟨⟨e,c⟩,d⟩:=h;rw [e,c,Fz.beqs_eq d]
 ·simp only [ya,decide_eq_true_eq] at h
  obtain ⟨⟨⟨e,c⟩,d⟩,f⟩:=h;rw [e,c,d,f]
 ·simp only [ya,decide_eq_true_eq] at h
  rw [Fz.beqR_eq h.1,h.2]
 ·simp only [ya,decide_eq_true_eq] at h
  obtain ⟨⟨⟨e,c⟩,d⟩,f⟩:=h;rw [e,c,d,f]
 ·simp only [decide_eq_true_eq] at h
  rw [h]
 ·cases h
theorem C.beqs_eq : ∀ {a b : List C},C.beqs a b = true → a = b
 | [],[],_ => rfl
 | x :: xs,y :: ys,h => by
   simp only [C.beqs,ya] at h;rw [C.beq_eq h.1,C.beqs_eq h.2]
 | [],_ :: _,h => by simp [C.beqs] at h
 | _ :: _,[],h => by simp [C.beqs] at h
theorem V.beq_eq {a b : V} (h : a.beq b = true) : a = b:=by
 unfold V.beq at h;split at h
 ·rw [C.beq_eq h]
 ·rw [C.beqs_eq h]
 ·cases h
section
variable {P : Program} {κ : List Tmp} {nt : Nat} {gops : Array Go.Oper} {ps : List (Nat × Nat)} {xs : List Oper} {ms : List Nat} {p b l : Nat} {Cf : zL} {rr : Nat → R} {g0 : G} {w0 : World} {σ0 : zb}
theorem zk8 (c : ∀ i x,xs[i]? = some x → step Cf (rr i) x = some (rr (i + 1))) : ∀ n,n ≤ xs.length → steps Cf (xs.take n) (rr 0) = some (rr n)
 | 0,_ => rfl
 | n + 1,h => by
   have d : xs[n]? = some xs[n]:=yb (by omega);rw [List.take_add_one,d];simp only [Option.toList_some];have e:=zk8 c n (by omega)
   have app : ∀ (a b : List Oper) (r : R),steps Cf (a ++ b) r = (steps Cf a r).bind (steps Cf b):=by
    intro a
    induction a with
    | nil => intro b r; rfl
    | cons x a iha =>
      intro b r;simp only [List.cons_append,steps]
      cases f : step Cf r x with
      | none => rfl
      | some r1 => simp only [yy]; exact iha b r1
   rw [app,e];simp only [yy,steps,c n _ d]
theorem zro (c : zL) : LeC zqG c:=fun _ _ _ r h => by cases h
theorem zBy {ops : List Oper} {r : R} {j k : Nat} (b : ∀ i x,ops[i]? = some x → step Cf (rr i) x = some (rr (i + 1))) (w : rr 0 = r) (E : k ≤ ops.length) (h : zaZ Cf ops r (j,k) = true) {x : Oper} (m : ops[j]? = some x) (z : zar x.op ≤ 2) (l : zuG x.dst = true) (s : zDJ x.op = true) :
  ∃ v,rr (j + 1) = (rr j).put x.dst v ∧ ∃ q,step Cf ((rr j).at (rr k).st) x = some q ∧ q = ((rr j).at (rr k).st).put x.dst v:=by
 unfold zaZ at h;subst w;have H:=za m;simp only [zk8 b j (by omega),zk8 b k E,m] at h
 have hd : x.dst = .loc:=by
  cases g : x.dst with
  | loc => rfl
  | no => rw [g] at l; simp [zuG] at l
  | slot q => rw [g] at l; simp [zuG] at l
 have quiet : ∀ (r q : R),step Cf r x = some q → ∃ v,q = r.put x.dst v:=fun r q g => by
  obtain ⟨n,s⟩:=exX r.get (zcP x);obtain ⟨v,A,_⟩:=zdH (r':=r) (n:=n) z (fun _ _ => rfl) (s n (yl _)) (fun _ => ⟨fun id D sz o _ p B => ⟨o,p,B⟩⟩) (fun _ => ⟨fun id o _ p => p⟩) g;exact ⟨v,A⟩
 unfold zkU at h;split at h
 ·rename_i u G C y
  have d:=zjJ (zro Cf) _ _ _ C;have a:=zjJ (zro Cf) _ _ _ y;have f:=b j x m;rw [f] at a;injection a with a;obtain ⟨v,t⟩:=quiet _ _ d;obtain ⟨v',c⟩:=quiet _ _ f;have e:=V.beq_eq h;rw [t,← a,c,hd] at e;have e2 : v = v':=by simpa [R.put] using e
  subst e2;exact ⟨v,c,u,d,t⟩
 ·cases h
theorem zuZ (S : zen P Cf) (C : Chk2 P κ nt gops ps xs ms p) (b : ∀ i x,xs[i]? = some x → step Cf (rr i) x = some (rr (i + 1))) (Q : ∀ q ∈ ps,zaZ Cf xs (rr 0) q = true) {D : Nat → Bool} {K j : Nat} {B : Nat → Nat} {g : G} {w : World} {a : Act} {x : Oper}
  (t : zfl gops D) (hE : ∀ i ∈ zae gops j,D i = true) (Z : D j = false) (m : zwk xs p D K) (M : Mid2 P gops xs κ nt p rr g0 w0 σ0 D K B g w a) (hj : j < p) (H : xs[j]? = some x) (J : zar x.op ≤ 2) {r' : R} (k : r'.st = (rr K).st)
  (d : ∀ y ∈ zcP x,r'.get y = (rr j).get y) (A : ∀ y ∈ zcP x,((rr j).get y).lt (rr K).st.length = true) :
  ∃ v,rr (j + 1) = (rr j).put x.dst v ∧ step Cf r' x = some (r'.put x.dst v):=by
 have I : j < gops.size:=yi hj C.p_le;have hA : ∀ i,Reach gops j i → D i = true:=fun i h => zaA t h hE
 have hB : ∀ i,Reach gops i j → D i = false:=fun i h => by
  cases hi : D i with
  | false => rfl
  | true =>
    have:=zaA t h (t i hi);rw [Z] at this;cases this
 have c:=(C.pre_some hj (yh I) H).2.2.2.2.2;unfold zsb at c;simp only [ym,beq_iff_eq,decide_eq_true_eq] at c;have O : K ≤ xs.length:=yD M.kp C.w.le;rcases c with (h | h) | h
 ·exact zdH (r':=r') (n:=(rr K).st.length) J d A (fun e => by omega) (fun e => by omega) (b j x H)
 ·omega
 ·have:=yg.1 h K (by have:=M.kp; simp; omega)
  simp only [ym,yn,Bool.or_eq_false_iff,ya] at this;rcases this with ((h | h) | h) | ⟨⟨E,l⟩,h3⟩
  ·
   rcases m with m | ⟨m,_⟩
   ·simp [m] at h
   ·rw [m] at h; simp at h
  ·
   exfalso;unfold zCq at h;simp only [yv,yz,ya,decide_eq_true_eq] at h;rcases h with ⟨E,l⟩ | h
   ·have:=hA K (zcU C.masks j I l)
    rcases m with m | ⟨_,m⟩
    ·omega
    ·rw [m] at this; cases this
   ·rw [List.all_eq_false] at h
    obtain ⟨e,he,h⟩:=h;simp only [yn,Bool.not_eq_false,ya,Bool.not_eq_true,yz] at h;have L : e < K:=(by simpa using he);have N : e < gops.size:=(by have:=M.kp; have:=C.p_le; omega);have:=hB e (zcU C.masks e N h.2);rw [M.before e L h.1] at this;cases this
  ·
   have f : ∀ i,min j K ≤ i → i < max j K → cls xs i ≤ 2 ∨ cls xs i = 4 ∨ (zar x.op = 1 ∧ cls xs i ≤ 4):=fun i E l => by
    have:=yg.1 h i (by have:=M.kp; simp; omega);simp only [ym,yn,ya,decide_eq_true_eq,beq_iff_eq,yv,decide_eq_false_iff_not] at this;rcases this with ((h | h) | h) | h
    ·unfold eff at h
     simp only [decide_eq_false_iff_not] at h;exact .inl (by omega)
    ·omega
    ·exact .inr (.inl h)
    ·exact .inr (.inr h)
   rcases Nat.le_total K j with Y | Y
   ·obtain ⟨n,u⟩ : ∃ n,j = K + n:=⟨j - K,by omega⟩
    have aA:=za H;refine zdH (r':=r') (n:=(rr K).st.length) J d A (fun W => ?_) (fun X => ?_) (b j x H)
    ·rw [k,u]
     exact (zkp b n (by omega) fun i E l => by
      rcases f i (by omega) (by omega) with h | h | h
      ·omega
      ·omega
      ·exact h.2).2.2 _ (yl _)
    ·obtain ⟨os,z⟩:=zkn b (a:=K) n (by omega) fun i E l => by
      rcases f i (by omega) (by omega) with h | h | h
      ·exact .inl h
      ·exact .inr h
      ·omega
     rw [k,u,z];exact ⟨fun id o V s => by rw [yp V] at s; exact s⟩
   ·obtain ⟨n,u⟩ : ∃ n,K = j + n:=⟨K - j,by omega⟩
    refine zdH (r':=r') (n:=(rr K).st.length) J d A (fun W => ?_) (fun X => ?_) (b j x H)
    ·rw [k,u]
     exact (zkp b n (by omega) fun i E l => by
      rcases f i (by omega) (by omega) with h | h | h
      ·omega
      ·omega
      ·exact h.2).2.1 _
    ·obtain ⟨os,z⟩:=zkn b (a:=j) n (by omega) fun i E l => by
      rcases f i (by omega) (by omega) with h | h | h
      ·exact .inl h
      ·exact .inr h
      ·omega
     rw [k,u,z];exact ⟨fun id o _ s => by rw [yp (za s)]; exact s⟩
  ·
   obtain ⟨v,q1,q,q2,q3⟩:=zBy b rfl O (Q (j,K) (by simpa using E)) H J l h3;refine ⟨v,q1,?_⟩;rw [q3] at q2;obtain ⟨n,u⟩:=exX ((rr j).at (rr K).st).get (zcP x);have U : ∀ y,((rr j).at (rr K).st).get y = (rr j).get y:=fun y => by cases y <;> rfl
   obtain ⟨v',e1,e2⟩:=zdH (r':=r') (n:=n) J (fun y hy => by rw [U]; exact d y hy) (u n (yl _)) (fun _ => by rw [k]; exact ⟨fun id aB sz o _ s hr => ⟨o,s,hr⟩⟩) (fun _ => by rw [k]; exact ⟨fun id o _ s => s⟩) q2
   have hd : x.dst = .loc:=by
    cases hq : x.dst with
    | loc => rfl
    | no => rw [hq] at l; simp [zuG] at l
    | slot q => rw [hq] at l; simp [zuG] at l
   rw [hd] at e1;have : v = v':=(by simpa [R.put] using congrArg (fun r => r.rs.headD vun) e1);subst this;exact e2
end
end Go.A
namespace Go.A
section
variable {P : Program} {κ : List Tmp} {nt : Nat} {gops : Array Go.Oper} {ps : List (Nat × Nat)} {xs : List Oper} {ms : List Nat} {p b l : Nat} {Cf : zL} {rr : Nat → R} {g0 : G} {w0 : World} {σ0 : zb} {Q : Exit → Act → World → Prop}
theorem zzK (S : zen P Cf) (C : Chk2 P κ nt gops ps xs ms p) (m : ∀ i x,xs[i]? = some x → step Cf (rr i) x = some (rr (i + 1))) (h0 : (rr 0).rs = []) (O : (rr 0).env.length = κ.length) (W : κ.Nodup) (aB : ∀ t ∈ κ,t < nt) (aF : ∀ q ∈ ps,zaZ Cf xs (rr 0) q = true)
  {D : Nat → Bool} {K j : Nat} {B : Nat → Nat} {g : G} {w : World} {a : Act} {o : Go.Oper} {next : Act → World → Prop}
  (I : zfl gops D) (hE : ∀ i ∈ zae gops j,D i = true) (A : D j = false) (aO : ∀ i,p ≤ i → D i = false) (hS : zwk xs p D K) (M : Mid2 P gops xs κ nt p rr g0 w0 σ0 D K B g w a) (L : j < p) (Z : gops[j]? = some o)
  (k : ∀ g' w' u K' B',Mid2 P gops xs κ nt p rr g0 w0 σ0 (zaJ D j) K' B' g' w' (a.put o.dst u) → next (a.put o.dst u) w') :
  if Region.wanted o (yielded gops a.tmps) then o.wp P a w next Q else next (a.put o.dst undef) w:=by
 have aG : j < gops.size:=yi L C.p_le;have aM : j < xs.length:=by rw [C.len]; exact aG
 have J : xs[j]? = some xs[j]:=yb aM;obtain ⟨c1,c2,c3,c4,_⟩:=C.pre_some L Z J;have hA : ∀ i,Reach gops j i → D i = true:=fun i h => zaA I h hE
 have hB : ∀ i,Reach gops i j → D i = false:=fun i h => by
  cases U : D i with
  | false => rfl
  | true =>
    have:=zaA I h (I i U);rw [A] at this;cases this
 have aJ : ∀ i ∈ zae gops j,i < j:=fun i U => by
  unfold zae at U;rw [Z] at U;exact C.plan.back j o Z i U
 have F:=zoA (b:=0) (l:=0) C m O W aB (yE L) (zxA gops xs j) (fun i t U ht => by
  unfold zxA at ht;split at ht
  ·rename_i hc
   have aD : i < xs.length:=(by omega);refine ⟨zz9 C I hE hS U L (yb aD) J (hE i (by simpa using hc)) fun _ => by unfold zru; rw [hc]; rfl,ht⟩
  ·cases ht) M
 have aK:=zlr m h0 j (by omega);obtain ⟨_,aN⟩:=zej C.w m j (yE L)
 have E : ∀ y ∈ zcP xs[j],(⟨(yc j).reverse.map (zaI rr),zl4 rr xs p D K,(rr K).st,0,0⟩ : R).get y = (rr j).get y:=fun y hy => by
  cases y with
  | l d => show ((yc j).reverse.map (zaI rr)).getD d vun = (rr j).rs.getD d vun; rw [aK]
  | c v => rfl
  | s q =>
    show (zl4 rr xs p D K).getD q vun = (rr j).env.getD q vun
    rw [zkf C.w m,aN];unfold zcr zeU
    cases U : wr xs p q with
    | none => rfl
    | some i =>
      simp only;obtain ⟨aL,x',X,hw⟩:=zek U
      have z : zdq q xs[j] = true:=by
       unfold zdq;rw [List.any_eq_true];exact ⟨_,hy,by simp⟩
      rcases Nat.lt_trichotomy i j with n | rfl | n
      ·have hD : D i = true:=by
        rcases (C.pair n L X J).1 with h | h
        ·exfalso
         unfold zei at h;rw [hw] at h;simp [z] at h
        ·exact hA i h
       have hv:=zz9 C I hE hS n L X J hD fun _ => by
        unfold zru;rw [X];simp [hw,z]
       rw [hv];simp [n]
      ·simp [vis,A]
      ·have hD : D i = false:=by
        rcases (C.pair n aL J X).1 with h | h
        ·exfalso
         unfold zei at h;rw [hw] at h;simp [z] at h
        ·exact hB i h
       have : ¬ i < j:=(by omega);simp [vis,hD,this]
 have n : ∀ y ∈ zcP xs[j],((rr j).get y).lt (rr K).st.length = true:=fun y hy => by
  rw [← E y hy];have hu:=c4 y hy
  cases y with
  | l d =>
    simp only [zvf] at hu;split at hu
    ·rename_i t ht
     exact znu _ _ (F.lc d t ht hu)
    ·cases hu
  | s q =>
    by_cases hq : q < κ.length
    ·exact znu _ _ (F.env q _ (yb hq))
    ·have hl:=F.len
     have : (⟨(yc j).reverse.map (zaI rr),zl4 rr xs p D K,(rr K).st,0,0⟩ : R).get (.s q) = vun:=by
      show (zl4 rr xs p D K).getD q vun = vun
      rw [yf,yo (by simp only at hl; omega)];rfl
     rw [this];rfl
  | c v => exact V.lt_mono (yH _) v hu
 by_cases hc : zar xs[j].op ≤ 2
 ·have f : eff xs j = false:=by unfold eff; rw [zfy J]; simp; omega
  obtain ⟨v,h1,h2⟩:=zuZ (r':=⟨(yc j).reverse.map (zaI rr),zl4 rr xs p D K,(rr K).st,0,0⟩) S C m aF I hE A hS M L J hc rfl E n;refine zcc (r:=⟨(yc j).reverse.map (zaI rr),zl4 rr xs p D K,(rr K).st,0,0⟩) S M.rel F c1 c2 c3 h2 (fun g' w' u H R1 _ F1 => ?_) (fun _ h => h);rw [zcX] at H R1;exact k g' w' u K B (zqK (b:=0) (l:=0) (σ1:=(rr j).st) C m O W M (.inl ⟨rfl,f⟩) L A Z J h1 H R1 F1)
 ·have f : eff xs j = true:=by unfold eff; rw [zfy J]; simp; omega
  by_cases aA : j = K
  ·subst aA
   obtain ⟨v,σ1,h1,h2,_⟩:=zpN (r':=⟨(yc j).reverse.map (zaI rr),zl4 rr xs p D j,(rr j).st,0,0⟩) E rfl (m j _ J);have Y : (rr (j + 1)).st = σ1:=(by rw [h1,zcX]; rfl);refine zcc (r:=⟨(yc j).reverse.map (zaI rr),zl4 rr xs p D j,(rr j).st,0,0⟩) S M.rel F c1 c2 c3 h2 (fun g' w' u H R1 _ F1 => ?_) (fun _ h => h);rw [zcX] at H R1;have H' : Ext g w (rr j).st g' w' (rr (j + 1)).st:=(by rw [Y]; exact H);have R' : Rel g' w' (rr (j + 1)).st:=(by rw [Y]; exact R1);refine k g' w' u (j + 1) B (zqK (b:=0) (l:=0) (σ1:=σ1) C m O W M (.inr ⟨rfl,rfl⟩) L A Z J h1 H' R' ?_);have e : (⟨(yc j).reverse.map (zaI rr),zl4 rr xs p D j,(rr (j + 1)).st,0,0⟩ : R) = (⟨(yc j).reverse.map (zaI rr),zl4 rr xs p D j,(rr j).st,0,0⟩ : R).at σ1:=(by rw [Y]; rfl);rw [e];exact F1
  ·have N : K < j ∧ zut xs[j] = true:=by
    rcases hS with hS | ⟨aC,aH⟩
    ·have:=M.before j (by omega) f
     rw [A] at this; cases this
    ·rcases Nat.lt_or_gt_of_ne aA with h | h
     ·have:=M.before j h f
      rw [A] at this; cases this
     ·have aE : K < xs.length:=by omega
      rcases (C.pair h L (yb aE) J).2.2.1 aC f with h' | h'
      ·exact ⟨h,h'⟩
      ·have:=hA K h'
       rw [aH] at this; cases this
   have aI:=zoI F c2 (zfZ N.2).1;simp only [Region.wanted,aI,if_true];exact zyD C m W aB M L N.1 f N.2 Z J F E fun g' w' u B' M' => k g' w' u K B' M'
theorem ztg (S : zen P Cf) (C : Chk2 P κ nt gops ps xs ms p) (f : ∀ i x,xs[i]? = some x → step Cf (rr i) x = some (rr (i + 1))) (I : (rr 0).rs = []) (m : (rr 0).env.length = κ.length) (L : κ.Nodup) (H : ∀ t ∈ κ,t < nt) (N : ∀ q ∈ ps,zaZ Cf xs (rr 0) q = true)
  (A : ∀ g w a loc,Ext g0 w0 σ0 g w (rr gops.size).st → Rel g w (rr gops.size).st → Fr κ loc nt g w (rr gops.size) a → Q .normal a w) :
  ∀ (fuel : Nat) (c : Array Bool) (K : Nat) (B : Nat → Nat) (g : G) (w : World) (a : Act),c.size = gops.size → (∀ i,p ≤ i → Dof c i = false) → zfl gops (Dof c) → left (Dof c) (yc gops.size) ≤ fuel → Mid2 P gops xs κ nt p rr g0 w0 σ0 (Dof c) K B g w a → wpAny P .any gops Q fuel c a w
 | fuel,c,K,B,g,w,a,hs,hp,hcl,hf,M0 => by
   obtain ⟨K,g,M,J⟩:=zxU C f m _ K g rfl M0
   by_cases d : ∀ i,i < p → Dof c i = true
   ·have aA : ∀ i,Dof c i = decide (i < p):=fun i => by
     by_cases r : i < p
     ·simp [r,d i r]
     ·simp [r,hp i (by omega)]
    have aC : K = p:=by
     rcases J with J | ⟨_,J⟩
     ·exact J
     ·rcases yF K p with h | h
      ·rw [d K h] at J; cases J
      ·have:=M.kp; omega
    subst aC;have z : ∀ i,i < K → vis xs (Dof c) K i = true:=fun i r => by simp [vis,d i r,r]
    have s:=zoA (b:=0) (l:=0) C f m L H (yl K) (lo gops xs) (fun i t r ht => ⟨z i r,ht⟩) M
    have aB : zl4 rr xs K (Dof c) K = (rr K).env:=by
     obtain ⟨q1,q2⟩:=zej C.w f K (yl _);refine List.ext_getElem? fun q => ?_
     by_cases hq : q < (rr 0).env.length
     ·have Z:=zkf (D:=Dof c) (K:=K) (q:=q) C.w f
      have e2:=q2 q
      have e3 : zcr rr xs K (Dof c) K q = zeU rr xs K (fun k => decide (k < K)) q:=by
       unfold zcr zeU
       cases hk : wr xs K q with
       | none => rfl
       | some k =>
         obtain ⟨U,_⟩:=zek hk;simp only [z k U];simp [U]
      rw [e3,← e2] at Z;rw [yf,yf] at Z;have l1 : q < (zl4 rr xs K (Dof c) K).length:=(by simpa [zl4] using hq);have l2 : q < (rr K).env.length:=(by omega);rw [yb l1,yb l2] at Z ⊢;simpa using Z
     ·rw [yo (by simp [zl4]; omega),yo (by omega)]
    have aE:=zlr f I K C.w.le;rw [aB,← aE] at s;have F : Fr κ (zfI gops xs K) nt g w (rr K) a:=⟨s.size,s.len,s.env,s.lc,s.lk,s.nd,s.bd,s.df⟩;refine zpy S C.plan f A fuel K c g w a hs (yl _) C.p_le aA ?_ M.ext M.rel F
    have y : ∀ n,n ≤ gops.size → n ≤ K + left (Dof c) (yc n):=fun n => by
     induction n with
     | zero => intro _; omega
     | succ n ih =>
       intro hn;have:=ih (by omega);unfold left at this ⊢;rw [yq,List.filter_append,List.length_append]
       by_cases aF : n < K
       ·omega
       ·have I:=hp n (by omega)
        simp [I];omega
    have:=y gops.size (yl _);omega
   ·have v : ∀ j,j ∈ Region.ready .any gops c → j < p ∧ j < gops.size ∧ Dof c j = false ∧ ∀ i ∈ zae gops j,Dof c i = true:=fun j hj => by
     obtain ⟨⟨o,W⟩,I,h1⟩:=(zif hs).1 hj;have e : j < gops.size:=(yk.1 W).1;refine ⟨?_,e,I,h1⟩;rcases yF j p with h | h
     ·exact h
     ·have hx : xs[j]? = some (xs[j]'(by rw [C.len]; exact e)):=yb (by rw [C.len]; exact e)
      have Y:=(C.plan.tail j o _ h W hx).2.2.2;exact absurd (fun i r => zaA hcl (Y i (by omega)) h1) d
    obtain ⟨i0,E⟩:=Classical.not_forall.1 d;obtain ⟨E,R⟩:=Classical.not_imp.1 E;have O : Region.ready .any gops c ≠ []:=zg8 hs C.plan.back i0 (by have:=C.p_le; omega) (by simpa using R)
    cases fuel with
    | zero =>
      have:=zqt (Nat.le_zero.1 hf) i0 (by have:=C.p_le; simpa using yi E this);exact absurd this R
    | succ fuel =>
      refine ⟨fun hr => absurd hr O,fun j hj => ?_⟩;obtain ⟨aD,e,X,V⟩:=v j hj;have W : gops[j]? = some gops[j]:=yh e
      have key:=zzK (Q:=Q) (next:=wpAny P .any gops Q fuel (c.setIfInBounds j true)) S C f I m L H N hcl V X hp J M aD W (fun g' w' u K' B' M' =>
       ztg S C f I m L H N A fuel _ K' B' g' w' _ (by simpa using hs) (fun i r => by
        rw [zgw hs e];unfold zaJ;split
        ·omega
        ·exact hp i r) (by rw [zgw hs e]; exact zol hcl V) (by
        rw [zgw hs e];have:=zsj (Dof c) j X (yc gops.size) (by simpa using e)
        omega) (by
        rw [zgw hs e]
        exact M'))
      unfold wpOp;simp only [W];split
      ·rename_i hw
       rw [if_pos hw] at key;exact .inl key
      ·rename_i hw
       rw [if_neg hw] at key;exact key
termination_by fuel => fuel
theorem zBo (hm : P.follows .mixedOrders = true) (Cf : zL) (S : zen P Cf) (κ : List Tmp) (nt id : Nat) (gops : Array Go.Oper) (ps : List (Nat × Nat)) (xs : List Oper) (n : zlZ P κ nt gops ps xs = true) (r r1 : R) (u : r.rs = []) (b : zrZ Cf ps xs r = some r1) : zx1 P κ nt id gops r r1:=by
 intro g w a Q M F m;obtain ⟨ms,p,C⟩:=zA7 n;unfold zrZ at b;rw [ye] at b;obtain ⟨G,d,b⟩:=b;split at b
 ·rename_i o
  injection b with b;subst b;obtain ⟨rr,k,L,x⟩:=zj6 xs r G d;have v : ∀ q ∈ ps,zaZ Cf xs (rr 0) q = true:=fun q I => by rw [k]; exact yg.1 o q I
  refine wp_region_any hm ?_;obtain ⟨A,E⟩:=drawn M 1
  have c : ∀ i,Dof (yu gops.size false) i = false:=fun i => by
   unfold Dof;rw [Array.getD_eq_getD_getElem?,Array.getElem?_replicate];split <;> rfl
  have f : ∀ K i,vis xs (Dof (yu gops.size false)) K i = false:=fun K i => by simp [vis,c]
  have h : ∀ g' w' s loc,Ext g w r.st g' w' (rr gops.size).st → Rel g' w' (rr gops.size).st → Fr κ loc nt g' w' (rr gops.size) s → Q .normal s w':=fun g' w' s loc H B y => by
   rw [← C.len,L] at H B y;exact m g' w' s loc H B y
  refine ztg (g0:=g) (w0:=w) (σ0:=r.st) (rr:=rr) S C x (by rw [k]; exact u) (by rw [k]; exact F.len) F.nd F.bd v h gops.size (yu gops.size false) 0 (fun _ => 0) g (w.drewN 1) a (by simp) (fun i _ => c i) (fun j D => by rw [c] at D; cases D) ?_ ⟨by rw [k]; exact A,by rw [k]; exact E,F.size,F.df,fun q t J => ?_,fun i t _ z => (by rw [f] at z; cases z),yH _,fun i N => by omega,fun i _ l => (by rw [c] at l; cases l),fun i j _ _ l => (by rw [c] at l; cases l)⟩
  ·unfold left
   exact yD (List.length_filter_le _ _) (by simp)
  ·have e : zcr rr xs p (Dof (yu gops.size false)) 0 q = r.env.getD q vun:=by
    unfold zcr;split <;> simp [f,c,k]
   rw [e,k];exact A.ze _ _ (F.env q t J)
 ·cases b
end
inductive IK where
 | mk
 | ins (n : Int) (d : Nat) (y : X)
 | quiet
 | ld
 | bad
def zBT : Op → IK
 | .ld _ _ => .ld
 | op => if zar op == 0 then .quiet else .bad
def zp1 : Oper → IK
 | ⟨.loc,.mkm,none⟩ => .mk
 | ⟨.no,.mu (.l d) (.c (.one (.f (.lit (.int .i64 n))))) y,none⟩ => .ins n d y
 | ⟨_,op,_⟩ => zBT op
def zz2 (xs : List Oper) (i : Nat) : IK:=match xs[i]? with
 | some x => zp1 x
 | none => .bad
def zAt : IK → Bool
 | .mk => true
 | _ => false
def zs2 (xs : List Oper) (i : Nat) : Option Int:=match zz2 xs i with
 | .ins n _ _ => some n
 | _ => none
def ze7 (gops : Array Go.Oper) (m0 j : Nat) : IK → Bool
 | .mk => j == m0
 | .ins _ d _ => decide (d < j) && (j - 1 - d == m0) && (zae gops j).contains m0
 | .quiet => true
 | .ld => true
 | .bad => false
def zo9 (ms : List Nat) (xs : List Oper) (i j : Nat) : Bool:=match xs[i]?,xs[j]? with
 | some x,some y => (zei x y || bit ms j i) && (match writes x,writes y with
   | some q,some q' => q != q'
   | _,_ => true)
 | _,_ => false
def zsh (P : Program) (κ : List Tmp) (nt : Nat) (gops : Array Go.Oper) (xs : List Oper) (ms : List Nat) (m0 j : Nat) : Bool:=match gops[j]?,xs[j]? with
 | some o,some x => okD κ nt o.dst x.dst && zdS κ (zdi gops xs j) gops o.guard x.guard && zkj P κ (zdi gops xs j) o x.dst x.op && (yc j).all (fun i => zo9 ms xs i j) && ze7 gops m0 j (zp1 x)
 | _,_ => false
def znM : List Int → Bool
 | [] => true
 | x :: xs => !xs.contains x && znM xs
def ztO (P : Program) : List Tmp → Nat → Array Go.Oper → List Oper → Bool:=fun κ nt gops xs =>
 let ms:=zkm gops.toList []
 let p:=zlS ms gops.size
 match (yc p).find? (fun i => zAt (zz2 xs i)) with
 | none => false
 | some m0 => zgE gops ms && xs.length == gops.size && decide (p ≤ gops.size) && zg7 (zBA gops xs p) && znM ((yc p).filterMap (zs2 xs)) && zAt (zz2 xs m0) && decide (m0 < p) && (yc p).all (zsh P κ nt gops xs ms m0) && (yc gops.size).all fun j => decide (j < p) || zgH P κ nt gops xs ms j
structure Chk3 (P : Program) (κ : List Tmp) (nt : Nat) (gops : Array Go.Oper) (xs : List Oper) (ms : List Nat) (m0 p : Nat) : Prop where
 masks : zgE gops ms = true
 len : xs.length = gops.size
 p_le : p ≤ gops.size
 dup : zg7 (zBA gops xs p) = true
 keys : znM ((yc p).filterMap (zs2 xs)) = true
 ismk : zAt (zz2 xs m0) = true
 m0p : m0 < p
 pre : ∀ j,j < p → zsh P κ nt gops xs ms m0 j = true
 tail : ∀ j,p ≤ j → j < gops.size → zgH P κ nt gops xs ms j = true
theorem zlC : ∀ {l : List Int},znM l = true → l.Nodup
 | [],_ => .nil
 | x :: l,h => by
   simp only [znM,ya,yn] at h;exact yC.2 ⟨by simpa using h.1,zlC h.2⟩
section
variable {P : Program} {κ : List Tmp} {nt : Nat} {gops : Array Go.Oper} {xs : List Oper} {ms : List Nat} {m0 p : Nat} {Cf : zL} {rr : Nat → R}
theorem zBj (h : ztO P κ nt gops xs = true) : ∃ ms m0 p,Chk3 P κ nt gops xs ms m0 p:=by
 unfold ztO at h;simp only at h;split at h
 ·cases h
 ·simp only [ya,beq_iff_eq,decide_eq_true_eq] at h
  obtain ⟨⟨⟨⟨⟨⟨⟨⟨l,c⟩,i⟩,f⟩,m⟩,e⟩,k⟩,g⟩,d⟩:=h;refine ⟨_,_,_,l,c,i,f,m,e,k,fun j b => yg.1 g j (by simpa using b),fun j b a => ?_⟩;have:=yg.1 d j (by simpa using a);simp only [ym,decide_eq_true_eq] at this;rcases this with h | h
  ·omega
  ·exact h
theorem Chk3.pre_some (C : Chk3 P κ nt gops xs ms m0 p) {j : Nat} (e : j < p) {o : Go.Oper} {x : Oper} (f : gops[j]? = some o) (d : xs[j]? = some x) :
  okD κ nt o.dst x.dst = true ∧ zdS κ (zdi gops xs j) gops o.guard x.guard = true ∧ zkj P κ (zdi gops xs j) o x.dst x.op = true ∧ (∀ i,i < j → zo9 ms xs i j = true) ∧ ze7 gops m0 j (zp1 x) = true:=by
 have h:=C.pre j e;unfold zsh at h;rw [f,d] at h;simp only [ya] at h;obtain ⟨⟨⟨⟨k,a⟩,g⟩,l⟩,c⟩:=h;exact ⟨k,a,g,fun i b => yg.1 l i (by simpa using b),c⟩
theorem Chk3.plan (C : Chk3 P κ nt gops xs ms m0 p) : Plan P κ nt gops xs p where
 len:=C.len
 p_le:=C.p_le
 back:=fun j o a i c => by
  have b : j < gops.size:=(yk.1 a).1;exact (zit C.masks b).2 i (by unfold zae; rw [a]; exact c)
 pre:=fun j o x b a f => (C.pre_some b a f).1
 apart:=fun i j t c b g e => zis C.dup yA i (by simpa using c) j (by simpa using b) t g e
 tail:=fun j o x b a f => by
  have d : j < gops.size:=(yk.1 a).1;have h:=C.tail j b d;unfold zgH at h;rw [a,f] at h;simp only [ya] at h;obtain ⟨⟨⟨g,e⟩,l⟩,k⟩:=h;exact ⟨g,e,l,fun i c => zcU C.masks j d (yg.1 k i (by simpa using c))⟩
theorem Chk3.pair (C : Chk3 P κ nt gops xs ms m0 p) {i j : Nat} (b : i < j) (f : j < p) {x y : Oper} (k : xs[i]? = some x) (e : xs[j]? = some y) :
  (zei x y = true ∨ Reach gops j i) ∧ ∀ q,writes x = some q → writes y ≠ some q:=by
 have a : j < gops.size:=yi f C.p_le;have h:=(C.pre_some f (yh a) e).2.2.2.1 i b;unfold zo9 at h;rw [k,e] at h;simp only [ya,ym] at h;obtain ⟨l,d⟩:=h;refine ⟨l.imp id fun h => zcU C.masks j a h,fun q g c => ?_⟩;rw [g,c] at d;simp at d
theorem Chk3.w (C : Chk3 P κ nt gops xs ms m0 p) : ChkW xs p:=⟨by rw [C.len]; exact C.p_le,fun a d _ _ c b => (C.pair a d c b).2⟩
def zBF (rr : Nat → R) (i : Nat) : IK → Option (Int × V)
 | .ins n _ y => some (n,(rr i).get y)
 | _ => none
def ent (rr : Nat → R) (xs : List Oper) (i : Nat) : Option (Int × V):=zBF rr i (zz2 xs i)
def zpW (rr : Nat → R) (xs : List Oper) (D : Nat → Bool) (i : Nat) : Option (Int × V):=if D i then ent rr xs i else none
def zB (rr : Nat → R) (xs : List Oper) (p : Nat) (D : Nat → Bool) : List (Int × V):=(yc p).filterMap (zpW rr xs D)
def zeH (rr : Nat → R) (xs : List Oper) (p m0 : Nat) (D : Nat → Bool) : zb:=if D m0 then (rr 0).st ++ [.mp (zB rr xs p D)] else (rr 0).st
theorem zb6 {α β : Type} {f f' : α → Option β} : ∀ {l : List α},(∀ i ∈ l,f' i = f i) → l.filterMap f' = l.filterMap f
 | [],_ => rfl
 | y :: l,h => by
   simp only [yd,h y (by simp),zb6 fun i a => h i (List.mem_cons_of_mem _ a)]
theorem zjR {α β : Type} [DecidableEq α] {f f' : α → Option β} {j : α} {x : β} : ∀ {l : List α},l.Nodup → j ∈ l → (∀ i,i ≠ j → f' i = f i) → f j = none → f' j = some x → (l.filterMap f').Perm (l.filterMap f ++ [x])
 | [],_,h,_,_,_ => by simp at h
 | y :: l,hn,h,h1,h2,h3 => by
   rw [yC] at hn
   by_cases e : y = j
   ·subst e
    have : l.filterMap f' = l.filterMap f:=zb6 fun i b => h1 i (fun e => hn.1 (e ▸ b));simp only [yd,h2,h3,this];exact (List.perm_append_singleton _ _).symm
   ·have a:=zjR hn.2 (by simpa [Ne.symm e] using h) h1 h2 h3
    simp only [yd,h1 y e]
    cases f y with
    | none => exact a
    | some z => exact a.cons z
theorem zAw (i : Nat) : (ent rr xs i).map (·.1) = zs2 xs i:=by
 unfold ent zs2;cases zz2 xs i <;> rfl
theorem zxl {D : Nat → Bool} : ∀ {l : List Nat},(l.filterMap (zpW rr xs D)).map (·.1) = (l.filter D).filterMap (zs2 xs)
 | [] => rfl
 | i :: l => by
   have c:=zxl (D:=D) (l:=l);have a:=zAw (rr:=rr) (xs:=xs) i
   cases b : D i with
   | false =>
     have : zpW rr xs D i = none:=(by simp [zpW,b]);simp only [yd,yB,this,b,c];simp
   | true =>
     have : zpW rr xs D i = ent rr xs i:=(by simp [zpW,b]);simp only [yd,yB,this,b,if_true]
     cases he : ent rr xs i with
     | none =>
       rw [he] at a;simp only [Option.map_none] at a;simp only [← a,c]
     | some e =>
       rw [he] at a;simp only [yG] at a;simp only [← a,c,List.map_cons]
theorem zwu {α β : Type} {f : α → Option β} {D : α → Bool} {l : List α} (h : (l.filterMap f).Nodup) : ((l.filter D).filterMap f).Nodup :=
 h.sublist (List.filter_sublist.filterMap f)
theorem zuI (a : znM ((yc p).filterMap (zs2 xs)) = true) (D : Nat → Bool) : ((zB rr xs p D).map (·.1)).Nodup:=by
 unfold zB;rw [zxl];exact zwu (zlC a)
theorem zhn {i : Nat} {x : Oper} (a : xs[i]? = some x) : zz2 xs i = zp1 x:=by unfold zz2; rw [a]
theorem zt8 (k : znM ((yc p).filterMap (zs2 xs)) = true) {D : Nat → Bool} {j : Nat} (l : j < p) (g : D j = false) {n : Int} {v : V} (he : ent rr xs j = some (n,v)) :
  zes n (zB rr xs p D) = none ∧ (zB rr xs p D ++ [(n,v)]).Perm (zB rr xs p (zaJ D j)):=by
 have c:=zjR (f:=zpW rr xs D) (f':=zpW rr xs (zaJ D j)) (x:=(n,v)) yA (List.mem_range.2 l) (fun i d => by simp [zpW,zaJ,d]) (by simp [zpW,g]) (by simp [zpW,zaJ,he]);have h:=zuI (rr:=rr) k (zaJ D j);refine ⟨zhI.2 fun e b heq => ?_,c.symm⟩;have a : ((zB rr xs p D ++ [(n,v)]).map (·.1)).Nodup:=(c.map (·.1)).nodup_iff.1 h;rw [List.map_append,List.nodup_append] at a;exact a.2.2 e.1 (yI.2 ⟨e,b,rfl⟩) n (by simp) heq
theorem zx5 {D : Nat → Bool} {j : Nat} (he : ent rr xs j = none) : zB rr xs p (zaJ D j) = zB rr xs p D:=by
 refine zb6 fun i _ => ?_;unfold zpW zaJ
 by_cases e : i = j
 ·subst e; simp [he]
 ·simp [e]
theorem zuk {x : Oper} {n : Int} {d : Nat} {y : X} (h : zp1 x = .ins n d y) : x = ⟨.no,.mu (.l d) (.c (.one (.f (.lit (.int .i64 n))))) y,none⟩:=by
 unfold zp1 at h;split at h
 ·cases h
 ·injection h with h1 h2 h3; subst h1 h2 h3; rfl
 ·unfold zBT at h
  split at h
  ·cases h
  ·split at h <;> cases h
theorem zxn {x : Oper} (h : zp1 x = .mk) : x = ⟨.loc,.mkm,none⟩:=by
 unfold zp1 at h;split at h
 ·rfl
 ·cases h
 ·unfold zBT at h
  split at h
  ·cases h
  ·split at h <;> cases h
theorem zoX {x : Oper} (h : zp1 x = .quiet) : zar x.op = 0:=by
 unfold zp1 at h;split at h
 ·cases h
 ·cases h
 ·unfold zBT at h
  split at h
  ·cases h
  ·split at h
   ·rename_i a; simpa using a
   ·cases h
theorem zvN {x : Oper} (h : zp1 x = .ld) : ∃ sz y,x.op = .ld sz y:=by
 unfold zp1 at h;split at h
 ·cases h
 ·cases h
 ·unfold zBT at h
  split at h
  ·exact ⟨_,_,rfl⟩
  ·split at h <;> cases h
end
section
variable {P : Program} {κ : List Tmp} {nt : Nat} {gops : Array Go.Oper} {xs : List Oper} {ms : List Nat} {m0 p b l : Nat} {Cf : zL} {rr : Nat → R}
theorem zud {g : G} {w : World} {σ : zb} {id : Nat} {es es' : List (Int × V)} (R : Rel g w σ) (a : σ[id]? = some (.mp es)) (o : es.Perm es') : Ext g w σ g w (σ.set id (.mp es')) ∧ Rel g w (σ.set id (.mp es')):=by
 refine replace R a (fun _ => False) rfl rfl rfl (yl _) (fun b q _ => ⟨rfl,rfl,fun _ h => h⟩) (fun b h => h.elim) (fun _ _ _ h => h) (fun _ _ => rfl) (fun _ _ _ => rfl) R.nb
  (fun d f c m => by simp [shapeOf,a,Ob.shape] at m) (fun j h => ⟨rfl,es',rfl⟩) (fun k n h => by simp [zkF,a,Ob.fr] at h) (fun _ _ h => by cases h) (fun H => ?_)
 obtain ⟨l,e,zB,clock,i,p⟩:=R.ob id _ a;exact ⟨l,e,zB,clock,i,zu3 o (H.zjr p)⟩
theorem zwq {σ σ' : zb} (g : ∀ (id a sz : Nat) (es : List (List C)),σ[id]? = some (.cells a sz es) → σ'[id]? = some (.cells a sz es)) {sz : Option Nat} {v u : V} (h : ald σ sz v = some u) : ald σ' sz v = some u:=by
 have key : ∀ {id a i : Nat} {el : List C},σ.elem id a i = some el → σ'.elem id a i = some el:=fun {id a i el} he => by
  unfold zb.elem at he ⊢;rw [ye] at he ⊢;obtain ⟨o,b,d⟩:=he
  cases o with
  | cells v' sz' es => exact ⟨_,g id v' sz' es b,d⟩
  | tok _ _ => simp [Ob.elem] at d
  | mp _ => simp [Ob.elem] at d
 unfold ald at h ⊢;split at h
 ·rw [yw] at h ⊢
  obtain ⟨c,b,d⟩:=h;unfold zb.cell at b ⊢;rw [ye] at b;obtain ⟨el,e,f⟩:=b;exact ⟨c,by rw [ye]; exact ⟨el,key e,f⟩,d⟩
 ·exact h
 ·rw [yw] at h ⊢
  obtain ⟨c,b,d⟩:=h;rw [ye] at b;obtain ⟨el,e,f⟩:=b;exact ⟨c,by rw [ye]; exact ⟨el,key e,f⟩,d⟩
 ·exact h
 ·cases h
theorem zAx {x : Oper} {sz : Option Nat} {y : X} (a : x.op = .ld sz y) {r r' r1 : R} (e : ∀ z ∈ zcP x,r'.get z = r.get z) (j : ∀ (id b sz : Nat) (es : List (List C)),r.st[id]? = some (.cells b sz es) → r'.st[id]? = some (.cells b sz es)) (h : step Cf r x = some r1) :
  ∃ v,r1 = r.put x.dst v ∧ step Cf r' x = some (r'.put x.dst v):=by
 obtain ⟨d,op,k⟩:=x;simp only at a;subst a
 have one : zaF Cf r d (.ld sz y) = some r1 → ∃ v,r1 = r.put d v ∧ zaF Cf r' d (.ld sz y) = some (r'.put d v):=fun h => by
  simp only [zaF] at h ⊢;obtain ⟨v,i,f⟩:=zoP h;have g : r'.get y = r.get y:=e y (by simp [zcP,opX]);exact ⟨v,f,by rw [g,zwq j i]; rfl⟩
 cases k with
 | none => exact one h
 | some q =>
   obtain ⟨z,bb⟩:=q;simp only [step] at h ⊢;rw [e z (by simp [zcP])];unfold zlf at h ⊢;split at h
   ·split at h
    ·rename_i c
     rw [if_pos c];exact one h
    ·rename_i c
     rw [if_neg c];injection h with h;exact ⟨.tup [],h.symm,rfl⟩
   ·injection h with h
    exact ⟨.tup [],h.symm,rfl⟩
   ·cases h
theorem Chk3.kind (C : Chk3 P κ nt gops xs ms m0 p) {j : Nat} (a : j < p) {x : Oper} (b : xs[j]? = some x) : ze7 gops m0 j (zp1 x) = true :=
 (C.pre_some a (yh (yi a C.p_le)) b).2.2.2.2
theorem zDE (C : Chk3 P κ nt gops xs ms m0 p) (r : ∀ i x,xs[i]? = some x → step Cf (rr i) x = some (rr (i + 1))) (V : (rr 0).rs = []) : ∀ j,j ≤ p →
  (rr j).st = (if m0 < j then (rr 0).st ++ [.mp ((yc j).filterMap (ent rr xs))] else (rr 0).st) ∧ (m0 < j → zaI rr m0 = .one (.map (rr 0).st.length))
 | 0,_ => ⟨by simp,fun h => by omega⟩
 | j + 1,hj => by
   obtain ⟨m,G⟩:=zDE C r V j (by omega);have N : j < xs.length:=(by have:=C.w.le; omega);have E : xs[j]? = some xs[j]:=yb N;have t:=C.kind (by omega) E;have a:=r j _ E
   have quiet : ent rr xs j = none → j ≠ m0 → (rr (j + 1)).st = (rr j).st → (rr (j + 1)).st = (if m0 < j + 1 then (rr 0).st ++ [.mp ((yc (j + 1)).filterMap (ent rr xs))] else (rr 0).st) ∧ (m0 < j + 1 → zaI rr m0 = .one (.map (rr 0).st.length)):=fun he X Q => by
    refine ⟨?_,fun h => G (by omega)⟩;rw [Q,m,yq,yj];simp only [yd,yt,he,yx]
    by_cases h : m0 < j
    ·rw [if_pos h,if_pos (by omega)]
    ·rw [if_neg h,if_neg (by omega)]
   have b : ent rr xs j = zBF rr j (zp1 xs[j]):=by unfold ent; rw [zhn E]
   cases g : zp1 xs[j] with
   | bad => rw [g] at t; simp [ze7] at t
   | quiet =>
     rw [g] at b;refine quiet b (fun e => ?_) ?_
     ·subst e
      have:=C.ismk;rw [zhn E,g] at this;simp [zAt] at this
     ·obtain ⟨v,σ1,K,o⟩:=zjO r E
      have Z:=zoX g;rw [K,zcX];rcases o with o | o
      ·exact o
      ·exact o.1 (by omega)
   | ld =>
     rw [g] at b;refine quiet b (fun e => ?_) ?_
     ·subst e
      have:=C.ismk;rw [zhn E,g] at this;simp [zAt] at this
     ·obtain ⟨sz,y,S⟩:=zvN g
      obtain ⟨v,σ1,K,o⟩:=zjO r E;rw [K,zcX];rcases o with o | o
      ·exact o
      ·exact o.1 (by rw [S]; simp [zar])
   | mk =>
     rw [g] at t b;simp only [ze7,beq_iff_eq] at t;subst t;have u:=zxn g;rw [u] at a;simp only [step,zaF,Option.some.injEq] at a
     have B : (yc j).filterMap (ent rr xs) = []:=by
      rw [yr];intro i H;have W : i < j:=(by simpa using H);have L : xs[i]? = some (xs[i]'(by omega)):=yb (by omega);have I:=C.kind (by omega) L;unfold ent;rw [zhn L]
      cases M : zp1 (xs[i]'(by omega)) with
      | ins n d y =>
        rw [M] at I;simp only [ze7,ya,decide_eq_true_eq,beq_iff_eq] at I;omega
      | _ => rfl
     refine ⟨?_,fun _ => ?_⟩
     ·rw [← a,yq,yj,B]
      simp only [yd,yt,b,zBF,yx,if_pos (Nat.lt_succ_self j)];rw [if_neg (by omega)] at m;simp only [R.put,R.alloc,m]
     ·rw [if_neg (by omega)] at m
      unfold zaI;rw [← a];simp [R.put,R.alloc,m]
   | ins n d y =>
     rw [g] at t b;simp only [ze7,ya,decide_eq_true_eq,beq_iff_eq] at t;obtain ⟨⟨hd,hm⟩,_⟩:=t;have A : m0 < j:=(by omega);rw [if_pos A] at m;have u:=zuk g;rw [u] at a;have U:=zlr r V j (by omega)
     have J : (rr j).get (.l d) = .one (.map (rr 0).st.length):=by
      show (rr j).rs.getD d vun = _
      rw [U,yf,zhu (zaI rr) hd,hm];exact G A
     have s:=(zt8 (rr:=rr) C.keys (D:=fun i => decide (i < j)) (n:=n) (v:=(rr j).get y) (by omega : j < p) (by simp) (by rw [b]; rfl)).1
     have z : zB rr xs p (fun i => decide (i < j)) = (yc j).filterMap (ent rr xs):=by
      unfold zB;obtain ⟨q,Y⟩ : ∃ q,p = j + q:=⟨p - j,by omega⟩;rw [Y,List.range_add,yj]
      have K : (yc j).filterMap (zpW rr xs fun i => decide (i < j)) = (yc j).filterMap (ent rr xs):=zb6 fun i H => by
       have : i < j:=(by simpa using H);simp [zpW,this]
      have o : ((yc q).map (j + ·)).filterMap (zpW rr xs fun i => decide (i < j)) = []:=by
       rw [yr];intro i H;obtain ⟨k,_,rfl⟩:=yI.1 H;have : ¬ j + k < j:=(by omega);simp [zpW,this]
      rw [K,o,yx]
     rw [z] at s;simp only [step,zaF,J] at a;have O : (rr j).get (.c (.one (.f (.lit (.int .i64 n))))) = .one (.f (.lit (.int .i64 n))):=rfl;rw [O] at a;simp only [amu,m,List.getElem?_concat_length,yy,Ob.entries,yG,Option.some.injEq] at a;refine ⟨?_,fun _ => G A⟩;rw [← a,if_pos (by omega),yq,yj];simp only [yd,yt,b,zBF,R.put,zCx,R.setOb,m,zaE s];simp
end
end Go.A
