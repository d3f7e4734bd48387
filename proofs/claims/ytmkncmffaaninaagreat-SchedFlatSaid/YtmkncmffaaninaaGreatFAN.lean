/- A part of the proof of SchedFlat. Conditions: none. -/
import Derived.Test.YtmkncmffaaninaaGreatFAM
set_option linter.all false
open Bool renaming and_eq_true → ya,or_eq_true → ym,not_eq_true' → yn,and_eq_false_iff → yv,not_eq_false' → yz
open List renaming getElem?_eq_getElem → yb,range → yc,filterMap_cons → yd,getD_eq_getElem?_getD → yf,all_eq_true → yg,filterMap_append → yj,getElem?_eq_none → yo,getElem?_append_left → yp,range_succ → yq,filterMap_eq_nil_iff → yr,filterMap_nil → yt,append_nil → yx,nodup_range → yA,filter_cons → yB,nodup_cons → yC,mem_map → yI
open Option renaming bind_eq_some_iff → ye,map_eq_some_iff → yw,bind_some → yy,map_some → yG
open Array renaming getElem?_eq_getElem → yh,getElem?_eq_some_iff → yk,replicate → yu
open Nat renaming lt_of_lt_of_le → yi,le_refl → yl,le_trans → yD,le_of_lt → yE,lt_or_ge → yF,zero_le → yH
namespace Go.A
theorem Value.beq_eq {a b : Value} (h : Value.beq a b = true) : a = b:=by
 unfold Value.beq at h;split at h
 ·simp only [ya,decide_eq_true_eq] at h
  rw [h.1,h.2]
 ·simp only [beq_iff_eq] at h
  rw [h]
 ·rename_i a b
  simp only [decide_eq_true_eq] at h
  have : a = b:=by
   cases a;cases b;simp only [ByteArray.mk.injEq];exact Array.toList_inj.1 h
  rw [this]
 ·cases h
mutual
theorem Fz.beq_eq : ∀ {a b : Fz},a.beq b = true → a = b
 | .lit v,.lit u,h => by
   simp only [Fz.beq] at h;rw [Value.beq_eq h]
 | .sl xs,.sl ys,h => by
   simp only [Fz.beq] at h;rw [Fz.beqs_eq h]
 | .lit _,.sl _,h => by simp [Fz.beq] at h
 | .sl _,.lit _,h => by simp [Fz.beq] at h
theorem Fz.beqR_eq : ∀ {a b : List Fz},Fz.beqR a b = true → a = b
 | [],[],_ => rfl
 | x :: xs,y :: ys,h => by
   simp only [Fz.beqR,ya] at h;rw [Fz.beq_eq h.1,Fz.beqR_eq h.2]
 | [],_ :: _,h => by simp [Fz.beqR] at h
 | _ :: _,[],h => by simp [Fz.beqR] at h
theorem Fz.beqs_eq : ∀ {a b : List (List Fz)},Fz.beqs a b = true → a = b
 | [],[],_ => rfl
 | x :: xs,y :: ys,h => by
   simp only [Fz.beqs,ya] at h;rw [Fz.beqR_eq h.1,Fz.beqs_eq h.2]
 | [],_ :: _,h => by simp [Fz.beqs] at h
 | _ :: _,[],h => by simp [Fz.beqs] at h
end
theorem C.beq_eq {a b : C} (h : a.beq b = true) : a = b:=by
 unfold C.beq at h;split at h
 ·rw [Fz.beq_eq h]
 ·simp only [ya,decide_eq_true_eq] at h
  obtain ⟨⟨c,e⟩,d⟩:=h;rw [c,e,Fz.beqs_eq d]
 ·simp only [ya,decide_eq_true_eq] at h
  obtain ⟨⟨⟨c,e⟩,d⟩,f⟩:=h;rw [c,e,d,f]
 ·simp only [ya,decide_eq_true_eq] at h
  rw [Fz.beqR_eq h.1,h.2]
 ·simp only [ya,decide_eq_true_eq] at h
  obtain ⟨⟨⟨c,e⟩,d⟩,f⟩:=h;rw [c,e,d,f]
 ·simp only [decide_eq_true_eq] at h
  rw [h]
 ·cases h
theorem C.beqs_eq : ∀ {a b : List C},C.beqs a b = true → a = b
 | [],[],_ => rfl
 | x :: xs,y :: ys,h => by
   simp only [C.beqs,ya] at h;rw [C.beq_eq h.1,C.beqs_eq h.2]
 | [],_ :: _,h => by simp [C.beqs] at h
 | _ :: _,[],h => by simp [C.beqs] at h
theorem V.beq_eq {a b : V} (h : a.beq b = true) : a = b:=by
 unfold V.beq at h;split at h
 ·rw [C.beq_eq h]
 ·rw [C.beqs_eq h]
 ·cases h
section
variable {P : Program} {κ : List Tmp} {nt : Nat} {gops : Array Go.Oper} {ps : List (Nat × Nat)} {xs : List Oper} {ms : List Nat} {p b l : Nat} {Cf : zae} {rr : Nat → R} {g0 : G} {w0 : World} {σ0 : zd}
theorem znk (c : ∀ i x,xs[i]? = some x → step Cf (rr i) x = some (rr (i + 1))) : ∀ n,n ≤ xs.length → steps Cf (xs.take n) (rr 0) = some (rr n)
 | 0,_ => rfl
 | n + 1,h => by
   have d : xs[n]? = some xs[n]:=yb (by omega);rw [List.take_add_one,d];simp only [Option.toList_some];have e:=znk c n (by omega)
   have app : ∀ (a b : List Oper) (r : R),steps Cf (a ++ b) r = (steps Cf a r).bind (steps Cf b):=by
    intro a
    induction a with
    | nil => intro b r; rfl
    | cons x a iha =>
      intro b r;simp only [List.cons_append,steps]
      cases f : step Cf r x with
      | none => rfl
      | some r1 => simp only [yy]; exact iha b r1
   rw [app,e];simp only [yy,steps,c n _ d]
theorem zuj (c : zae) : LeC zwp c:=fun _ _ _ r h => by cases h
theorem zDY {ops : List Oper} {r : R} {j k : Nat} (b : ∀ i x,ops[i]? = some x → step Cf (rr i) x = some (rr (i + 1))) (z : rr 0 = r) (y : k ≤ ops.length) (h : zdb Cf ops r (j,k) = true) {x : Oper} (m : ops[j]? = some x) (B : zaS x.op ≤ 2) (g : zwU x.dst = true) (t : zGo x.op = true) :
  ∃ v,rr (j + 1) = (rr j).put x.dst v ∧ ∃ q,step Cf ((rr j).at (rr k).st) x = some q ∧ q = ((rr j).at (rr k).st).put x.dst v:=by
 unfold zdb at h;subst z;have H:=zb m;simp only [znk b j (by omega),znk b k y,m] at h
 have hd : x.dst = .loc:=by
  cases l : x.dst with
  | loc => rfl
  | no => rw [l] at g; simp [zwU] at g
  | slot q => rw [l] at g; simp [zwU] at g
 have quiet : ∀ (r q : R),step Cf r x = some q → ∃ v,q = r.put x.dst v:=fun r q l => by
  obtain ⟨n,t⟩:=exX r.get (zeQ x);obtain ⟨v,C,_⟩:=zfK (r':=r) (n:=n) B (fun _ _ => rfl) (t n (yl _)) (fun _ => ⟨fun id E sz o _ p w => ⟨o,p,w⟩⟩) (fun _ => ⟨fun id o _ p => p⟩) l;exact ⟨v,C⟩
 unfold zuE at h;split at h
 ·rename_i D G A u
  have c:=zl2 (zuj Cf) _ _ _ A;have a:=zl2 (zuj Cf) _ _ _ u;have d:=b j x m;rw [d] at a;injection a with a;obtain ⟨v,s⟩:=quiet _ _ c;obtain ⟨v',f⟩:=quiet _ _ d;have e:=V.beq_eq h;rw [s,← a,f,hd] at e;have e2 : v = v':=by simpa [R.put] using e
  subst e2;exact ⟨v,f,D,c,s⟩
 ·cases h
theorem zxa (S : zhg P Cf) (C : Chk2 P κ nt gops ps xs ms p) (b : ∀ i x,xs[i]? = some x → step Cf (rr i) x = some (rr (i + 1))) (O : ∀ q ∈ ps,zdb Cf xs (rr 0) q = true) {D : Nat → Bool} {K j : Nat} {B : Nat → Nat} {g : G} {w : World} {a : Act} {x : Oper}
  (A : zhJ gops D) (hE : ∀ i ∈ zaw gops j,D i = true) (U : D j = false) (s : zzj xs p D K) (M : Mid2 P gops xs κ nt p rr g0 w0 σ0 D K B g w a) (hj : j < p) (H : xs[j]? = some x) (I : zaS x.op ≤ 2) {r' : R} (k : r'.st = (rr K).st)
  (f : ∀ y ∈ zeQ x,r'.get y = (rr j).get y) (t : ∀ y ∈ zeQ x,((rr j).get y).lt (rr K).st.length = true) :
  ∃ v,rr (j + 1) = (rr j).put x.dst v ∧ step Cf r' x = some (r'.put x.dst v):=by
 have J : j < gops.size:=yi hj C.p_le;have hA : ∀ i,Reach gops j i → D i = true:=fun i h => za2 A h hE
 have hB : ∀ i,Reach gops i j → D i = false:=fun i h => by
  cases hi : D i with
  | false => rfl
  | true =>
    have:=za2 A h (A i hi);rw [U] at this;cases this
 have c:=(C.pre_some hj (yh J) H).2.2.2.2.2;unfold zuK at c;simp only [ym,beq_iff_eq,decide_eq_true_eq] at c;have N : K ≤ xs.length:=yD M.kp C.w.le;rcases c with (h | h) | h
 ·exact zfK (r':=r') (n:=(rr K).st.length) I f t (fun e => by omega) (fun e => by omega) (b j x H)
 ·omega
 ·have:=yg.1 h K (by have:=M.kp; simp; omega)
  simp only [ym,yn,Bool.or_eq_false_iff,ya] at this;rcases this with ((h | h) | h) | ⟨⟨z,l⟩,h3⟩
  ·
   rcases s with s | ⟨s,_⟩
   ·simp [s] at h
   ·rw [s] at h; simp at h
  ·
   exfalso;unfold zEC at h;simp only [yv,yz,ya,decide_eq_true_eq] at h;rcases h with ⟨z,l⟩ | h
   ·have:=hA K (zeV C.masks j J l)
    rcases s with s | ⟨_,s⟩
    ·omega
    ·rw [s] at this; cases this
   ·rw [List.all_eq_false] at h
    obtain ⟨e,he,h⟩:=h;simp only [yn,Bool.not_eq_false,ya,Bool.not_eq_true,yz] at h;have W : e < K:=(by simpa using he);have V : e < gops.size:=(by have:=M.kp; have:=C.p_le; omega);have:=hB e (zeV C.masks e V h.2);rw [M.before e W h.1] at this;cases this
  ·
   have d : ∀ i,min j K ≤ i → i < max j K → cls xs i ≤ 2 ∨ cls xs i = 4 ∨ (zaS x.op = 1 ∧ cls xs i ≤ 4):=fun i z l => by
    have:=yg.1 h i (by have:=M.kp; simp; omega);simp only [ym,yn,ya,decide_eq_true_eq,beq_iff_eq,yv,decide_eq_false_iff_not] at this;rcases this with ((h | h) | h) | h
    ·unfold eff at h
     simp only [decide_eq_false_iff_not] at h;exact .inl (by omega)
    ·omega
    ·exact .inr (.inl h)
    ·exact .inr (.inr h)
   rcases Nat.le_total K j with Z | Z
   ·obtain ⟨n,E⟩ : ∃ n,j = K + n:=⟨j - K,by omega⟩
    have aA:=zb H;refine zfK (r':=r') (n:=(rr K).st.length) I f t (fun Q => ?_) (fun Y => ?_) (b j x H)
    ·rw [k,E]
     exact (zmj b n (by omega) fun i z l => by
      rcases d i (by omega) (by omega) with h | h | h
      ·omega
      ·omega
      ·exact h.2).2.2 _ (yl _)
    ·obtain ⟨os,u⟩:=zl9 b (a:=K) n (by omega) fun i z l => by
      rcases d i (by omega) (by omega) with h | h | h
      ·exact .inl h
      ·exact .inr h
      ·omega
     rw [k,E,u];exact ⟨fun id o L m => by rw [yp L] at m; exact m⟩
   ·obtain ⟨n,E⟩ : ∃ n,K = j + n:=⟨K - j,by omega⟩
    refine zfK (r':=r') (n:=(rr K).st.length) I f t (fun Q => ?_) (fun Y => ?_) (b j x H)
    ·rw [k,E]
     exact (zmj b n (by omega) fun i z l => by
      rcases d i (by omega) (by omega) with h | h | h
      ·omega
      ·omega
      ·exact h.2).2.1 _
    ·obtain ⟨os,u⟩:=zl9 b (a:=j) n (by omega) fun i z l => by
      rcases d i (by omega) (by omega) with h | h | h
      ·exact .inl h
      ·exact .inr h
      ·omega
     rw [k,E,u];exact ⟨fun id o _ m => by rw [yp (zb m)]; exact m⟩
  ·
   obtain ⟨v,q1,q,q2,q3⟩:=zDY b rfl N (O (j,K) (by simpa using z)) H I l h3;refine ⟨v,q1,?_⟩;rw [q3] at q2;obtain ⟨n,E⟩:=exX ((rr j).at (rr K).st).get (zeQ x);have X : ∀ y,((rr j).at (rr K).st).get y = (rr j).get y:=fun y => by cases y <;> rfl
   obtain ⟨v',e1,e2⟩:=zfK (r':=r') (n:=n) I (fun y hy => by rw [X]; exact f y hy) (E n (yl _)) (fun _ => by rw [k]; exact ⟨fun id aB sz o _ m hr => ⟨o,m,hr⟩⟩) (fun _ => by rw [k]; exact ⟨fun id o _ m => m⟩) q2
   have hd : x.dst = .loc:=by
    cases hq : x.dst with
    | loc => rfl
    | no => rw [hq] at l; simp [zwU] at l
    | slot q => rw [hq] at l; simp [zwU] at l
   rw [hd] at e1;have : v = v':=(by simpa [R.put] using congrArg (fun r => r.rs.headD vun) e1);subst this;exact e2
end
end Go.A
namespace Go.A
section
variable {P : Program} {κ : List Tmp} {nt : Nat} {gops : Array Go.Oper} {ps : List (Nat × Nat)} {xs : List Oper} {ms : List Nat} {p b l : Nat} {Cf : zae} {rr : Nat → R} {g0 : G} {w0 : World} {σ0 : zd} {Q : Exit → Act → World → Prop}
theorem zBM (S : zhg P Cf) (C : Chk2 P κ nt gops ps xs ms p) (m : ∀ i x,xs[i]? = some x → step Cf (rr i) x = some (rr (i + 1))) (h0 : (rr 0).rs = []) (O : (rr 0).env.length = κ.length) (W : κ.Nodup) (aB : ∀ t ∈ κ,t < nt) (aJ : ∀ q ∈ ps,zdb Cf xs (rr 0) q = true)
  {D : Nat → Bool} {K j : Nat} {B : Nat → Nat} {g : G} {w : World} {a : Act} {o : Go.Oper} {next : Act → World → Prop}
  (J : zhJ gops D) (hE : ∀ i ∈ zaw gops j,D i = true) (z : D j = false) (aO : ∀ i,p ≤ i → D i = false) (hS : zzj xs p D K) (M : Mid2 P gops xs κ nt p rr g0 w0 σ0 D K B g w a) (L : j < p) (ho : gops[j]? = some o)
  (k : ∀ g' w' u K' B',Mid2 P gops xs κ nt p rr g0 w0 σ0 (zba D j) K' B' g' w' (a.put o.dst u) → next (a.put o.dst u) w') :
  if Region.wanted o (yielded gops a.tmps) then o.wp P a w next Q else next (a.put o.dst undef) w:=by
 have aN : j < gops.size:=yi L C.p_le;have aH : j < xs.length:=by rw [C.len]; exact aN
 have I : xs[j]? = some xs[j]:=yb aH;obtain ⟨c1,c2,c3,c4,_⟩:=C.pre_some L ho I;have hA : ∀ i,Reach gops j i → D i = true:=fun i h => za2 J h hE
 have hB : ∀ i,Reach gops i j → D i = false:=fun i h => by
  cases U : D i with
  | false => rfl
  | true =>
    have:=za2 J h (J i U);rw [z] at this;cases this
 have aF : ∀ i ∈ zaw gops j,i < j:=fun i U => by
  unfold zaw at U;rw [ho] at U;exact C.plan.back j o ho i U
 have F:=zqU (b:=0) (l:=0) C m O W aB (yE L) (zzr gops xs j) (fun i t U Z => by
  unfold zzr at Z;split at Z
  ·rename_i hc
   have aE : i < xs.length:=(by omega);refine ⟨zCS C J hE hS U L (yb aE) I (hE i (by simpa using hc)) fun _ => by unfold zsZ; rw [hc]; rfl,Z⟩
  ·cases Z) M
 have aC:=znK m h0 j (by omega);obtain ⟨_,aG⟩:=zgr C.w m j (yE L)
 have E : ∀ y ∈ zeQ xs[j],(⟨(yc j).reverse.map (za6 rr),zoq rr xs p D K,(rr K).st,0,0⟩ : R).get y = (rr j).get y:=fun y hy => by
  cases y with
  | l d => show ((yc j).reverse.map (za6 rr)).getD d vun = (rr j).rs.getD d vun; rw [aC]
  | c v => rfl
  | s q =>
    show (zoq rr xs p D K).getD q vun = (rr j).env.getD q vun
    rw [zmi C.w m,aG];unfold zdS zg4
    cases U : wr xs p q with
    | none => rfl
    | some i =>
      simp only;obtain ⟨aK,x',X,hw⟩:=zgw U
      have A : zfC q xs[j] = true:=by
       unfold zfC;rw [List.any_eq_true];exact ⟨_,hy,by simp⟩
      rcases Nat.lt_trichotomy i j with n | rfl | n
      ·have hD : D i = true:=by
        rcases (C.pair n L X I).1 with h | h
        ·exfalso
         unfold zgn at h;rw [hw] at h;simp [A] at h
        ·exact hA i h
       have hv:=zCS C J hE hS n L X I hD fun _ => by
        unfold zsZ;rw [X];simp [hw,A]
       rw [hv];simp [n]
      ·simp [vis,z]
      ·have hD : D i = false:=by
        rcases (C.pair n aK I X).1 with h | h
        ·exfalso
         unfold zgn at h;rw [hw] at h;simp [A] at h
        ·exact hB i h
       have : ¬ i < j:=(by omega);simp [vis,hD,this]
 have n : ∀ y ∈ zeQ xs[j],((rr j).get y).lt (rr K).st.length = true:=fun y hy => by
  rw [← E y hy];have hu:=c4 y hy
  cases y with
  | l d =>
    simp only [zwt] at hu;split at hu
    ·rename_i t Z
     exact zoP _ _ (F.lc d t Z hu)
    ·cases hu
  | s q =>
    by_cases hq : q < κ.length
    ·exact zoP _ _ (F.env q _ (yb hq))
    ·have hl:=F.len
     have : (⟨(yc j).reverse.map (za6 rr),zoq rr xs p D K,(rr K).st,0,0⟩ : R).get (.s q) = vun:=by
      show (zoq rr xs p D K).getD q vun = vun
      rw [yf,yo (by simp only at hl; omega)];rfl
     rw [this];rfl
  | c v => exact V.lt_mono (yH _) v hu
 by_cases hc : zaS xs[j].op ≤ 2
 ·have f : eff xs j = false:=by unfold eff; rw [zhA I]; simp; omega
  obtain ⟨v,h1,h2⟩:=zxa (r':=⟨(yc j).reverse.map (za6 rr),zoq rr xs p D K,(rr K).st,0,0⟩) S C m aJ J hE z hS M L I hc rfl E n;refine zeB (r:=⟨(yc j).reverse.map (za6 rr),zoq rr xs p D K,(rr K).st,0,0⟩) S M.rel F c1 c2 c3 h2 (fun g' w' u H R1 _ F1 => ?_) (fun _ h => h);rw [zeZ] at H R1;exact k g' w' u K B (ztn (b:=0) (l:=0) (σ1:=(rr j).st) C m O W M (.inl ⟨rfl,f⟩) L z ho I h1 H R1 F1)
 ·have f : eff xs j = true:=by unfold eff; rw [zhA I]; simp; omega
  by_cases aA : j = K
  ·subst aA
   obtain ⟨v,σ1,h1,h2,_⟩:=zrO (r':=⟨(yc j).reverse.map (za6 rr),zoq rr xs p D j,(rr j).st,0,0⟩) E rfl (m j _ I);have Y : (rr (j + 1)).st = σ1:=(by rw [h1,zeZ]; rfl);refine zeB (r:=⟨(yc j).reverse.map (za6 rr),zoq rr xs p D j,(rr j).st,0,0⟩) S M.rel F c1 c2 c3 h2 (fun g' w' u H R1 _ F1 => ?_) (fun _ h => h);rw [zeZ] at H R1;have H' : Ext g w (rr j).st g' w' (rr (j + 1)).st:=(by rw [Y]; exact H);have R' : Rel g' w' (rr (j + 1)).st:=(by rw [Y]; exact R1);refine k g' w' u (j + 1) B (ztn (b:=0) (l:=0) (σ1:=σ1) C m O W M (.inr ⟨rfl,rfl⟩) L z ho I h1 H' R' ?_);have e : (⟨(yc j).reverse.map (za6 rr),zoq rr xs p D j,(rr (j + 1)).st,0,0⟩ : R) = (⟨(yc j).reverse.map (za6 rr),zoq rr xs p D j,(rr j).st,0,0⟩ : R).at σ1:=(by rw [Y]; rfl);rw [e];exact F1
  ·have N : K < j ∧ zwE xs[j] = true:=by
    rcases hS with hS | ⟨aI,aD⟩
    ·have:=M.before j (by omega) f
     rw [z] at this; cases this
    ·rcases Nat.lt_or_gt_of_ne aA with h | h
     ·have:=M.before j h f
      rw [z] at this; cases this
     ·have aL : K < xs.length:=by omega
      rcases (C.pair h L (yb aL) I).2.2.1 aI f with h' | h'
      ·exact ⟨h,h'⟩
      ·have:=hA K h'
       rw [aD] at this; cases this
   have aM:=zqv F c2 (zio N.2).1;simp only [Region.wanted,aM,if_true];exact zCt C m W aB M L N.1 f N.2 ho I F E fun g' w' u B' M' => k g' w' u K B' M'
theorem zvL (S : zhg P Cf) (C : Chk2 P κ nt gops ps xs ms p) (f : ∀ i x,xs[i]? = some x → step Cf (rr i) x = some (rr (i + 1))) (H : (rr 0).rs = []) (m : (rr 0).env.length = κ.length) (J : κ.Nodup) (I : ∀ t ∈ κ,t < nt) (O : ∀ q ∈ ps,zdb Cf xs (rr 0) q = true)
  (A : ∀ g w a loc,Ext g0 w0 σ0 g w (rr gops.size).st → Rel g w (rr gops.size).st → Fr κ loc nt g w (rr gops.size) a → Q .normal a w) :
  ∀ (fuel : Nat) (c : Array Bool) (K : Nat) (B : Nat → Nat) (g : G) (w : World) (a : Act),c.size = gops.size → (∀ i,p ≤ i → Dof c i = false) → zhJ gops (Dof c) → left (Dof c) (yc gops.size) ≤ fuel → Mid2 P gops xs κ nt p rr g0 w0 σ0 (Dof c) K B g w a → wpAny P .any gops Q fuel c a w
 | fuel,c,K,B,g,w,a,hs,hp,hcl,hf,M0 => by
   obtain ⟨K,g,M,L⟩:=zz9 C f m _ K g rfl M0
   by_cases d : ∀ i,i < p → Dof c i = true
   ·have aD : ∀ i,Dof c i = decide (i < p):=fun i => by
     by_cases r : i < p
     ·simp [r,d i r]
     ·simp [r,hp i (by omega)]
    have aC : K = p:=by
     rcases L with L | ⟨_,L⟩
     ·exact L
     ·rcases yF K p with h | h
      ·rw [d K h] at L; cases L
      ·have:=M.kp; omega
    subst aC;have z : ∀ i,i < K → vis xs (Dof c) K i = true:=fun i r => by simp [vis,d i r,r]
    have y:=zqU (b:=0) (l:=0) C f m J I (yl K) (lo gops xs) (fun i t r ht => ⟨z i r,ht⟩) M
    have aB : zoq rr xs K (Dof c) K = (rr K).env:=by
     obtain ⟨q1,q2⟩:=zgr C.w f K (yl _);refine List.ext_getElem? fun q => ?_
     by_cases hq : q < (rr 0).env.length
     ·have e1:=zmi (D:=Dof c) (K:=K) (q:=q) C.w f
      have e2:=q2 q
      have e3 : zdS rr xs K (Dof c) K q = zg4 rr xs K (fun k => decide (k < K)) q:=by
       unfold zdS zg4
       cases hk : wr xs K q with
       | none => rfl
       | some k =>
         obtain ⟨X,_⟩:=zgw hk;simp only [z k X];simp [X]
      rw [e3,← e2] at e1;rw [yf,yf] at e1;have l1 : q < (zoq rr xs K (Dof c) K).length:=(by simpa [zoq] using hq);have l2 : q < (rr K).env.length:=(by omega);rw [yb l1,yb l2] at e1 ⊢;simpa using e1
     ·rw [yo (by simp [zoq]; omega),yo (by omega)]
    have aA:=znK f H K C.w.le;rw [aB,← aA] at y;have F : Fr κ (zhT gops xs K) nt g w (rr K) a:=⟨y.size,y.len,y.env,y.lc,y.lk,y.nd,y.bd,y.df⟩;refine zrV S C.plan f A fuel K c g w a hs (yl _) C.p_le aD ?_ M.ext M.rel F
    have s : ∀ n,n ≤ gops.size → n ≤ K + left (Dof c) (yc n):=fun n => by
     induction n with
     | zero => intro _; omega
     | succ n ih =>
       intro hn;have:=ih (by omega);unfold left at this ⊢;rw [yq,List.filter_append,List.length_append]
       by_cases aE : n < K
       ·omega
       ·have H:=hp n (by omega)
        simp [H];omega
    have:=s gops.size (yl _);omega
   ·have v : ∀ j,j ∈ Region.ready .any gops c → j < p ∧ j < gops.size ∧ Dof c j = false ∧ ∀ i ∈ zaw gops j,Dof c i = true:=fun j hj => by
     obtain ⟨⟨o,R⟩,H,h1⟩:=(zkN hs).1 hj;have e : j < gops.size:=(yk.1 R).1;refine ⟨?_,e,H,h1⟩;rcases yF j p with h | h
     ·exact h
     ·have hx : xs[j]? = some (xs[j]'(by rw [C.len]; exact e)):=yb (by rw [C.len]; exact e)
      have V:=(C.plan.tail j o _ h R hx).2.2.2;exact absurd (fun i r => za2 hcl (V i (by omega)) h1) d
    obtain ⟨i0,E⟩:=Classical.not_forall.1 d;obtain ⟨E,Y⟩:=Classical.not_imp.1 E;have U : Region.ready .any gops c ≠ []:=zjZ hs C.plan.back i0 (by have:=C.p_le; omega) (by simpa using Y)
    cases fuel with
    | zero =>
      have:=ztb (Nat.le_zero.1 hf) i0 (by have:=C.p_le; simpa using yi E this);exact absurd this Y
    | succ fuel =>
      refine ⟨fun hr => absurd hr U,fun j hj => ?_⟩;obtain ⟨Z,e,N,W⟩:=v j hj;have R : gops[j]? = some gops[j]:=yh e
      have key:=zBM (Q:=Q) (next:=wpAny P .any gops Q fuel (c.setIfInBounds j true)) S C f H m J I O hcl W N hp L M Z R (fun g' w' u K' B' M' =>
       zvL S C f H m J I O A fuel _ K' B' g' w' _ (by simpa using hs) (fun i r => by
        rw [ziV hs e];unfold zba;split
        ·omega
        ·exact hp i r) (by rw [ziV hs e]; exact zqW hcl W) (by
        rw [ziV hs e];have:=zuo (Dof c) j N (yc gops.size) (by simpa using e)
        omega) (by
        rw [ziV hs e]
        exact M'))
      unfold wpOp;simp only [R];split
      ·rename_i hw
       rw [if_pos hw] at key;exact .inl key
      ·rename_i hw
       rw [if_neg hw] at key;exact key
termination_by fuel => fuel
theorem zDM (hm : P.follows .mixedOrders = true) (Cf : zae) (S : zhg P Cf) (κ : List Tmp) (nt id : Nat) (gops : Array Go.Oper) (ps : List (Nat × Nat)) (xs : List Oper) (o : zoC P κ nt gops ps xs = true) (r r1 : R) (v : r.rs = []) (b : zxw Cf ps xs r = some r1) : zAr P κ nt id gops r r1:=by
 intro g w a Q L F m;obtain ⟨ms,p,C⟩:=zD5 o;unfold zxw at b;rw [ye] at b;obtain ⟨M,d,b⟩:=b;split at b
 ·rename_i l
  injection b with b;subst b;obtain ⟨rr,h,G,x⟩:=zlZ xs r M d;have u : ∀ q ∈ ps,zdb Cf xs (rr 0) q = true:=fun q I => by rw [h]; exact yg.1 l q I
  refine wp_region_any hm ?_;obtain ⟨z,E⟩:=drawn L 1
  have c : ∀ i,Dof (yu gops.size false) i = false:=fun i => by
   unfold Dof;rw [Array.getD_eq_getD_getElem?,Array.getElem?_replicate];split <;> rfl
  have f : ∀ K i,vis xs (Dof (yu gops.size false)) K i = false:=fun K i => by simp [vis,c]
  have k : ∀ g' w' s loc,Ext g w r.st g' w' (rr gops.size).st → Rel g' w' (rr gops.size).st → Fr κ loc nt g' w' (rr gops.size) s → Q .normal s w':=fun g' w' s loc H y B => by
   rw [← C.len,G] at H y B;exact m g' w' s loc H y B
  refine zvL (g0:=g) (w0:=w) (σ0:=r.st) (rr:=rr) S C x (by rw [h]; exact v) (by rw [h]; exact F.len) F.nd F.bd u k gops.size (yu gops.size false) 0 (fun _ => 0) g (w.drewN 1) a (by simp) (fun i _ => c i) (fun j A => by rw [c] at A; cases A) ?_ ⟨by rw [h]; exact z,by rw [h]; exact E,F.size,F.df,fun q t J => ?_,fun i t _ D => (by rw [f] at D; cases D),yH _,fun i N => by omega,fun i _ n => (by rw [c] at n; cases n),fun i j _ _ n => (by rw [c] at n; cases n)⟩
  ·unfold left
   exact yD (List.length_filter_le _ _) (by simp)
  ·have e : zdS rr xs p (Dof (yu gops.size false)) 0 q = r.env.getD q vun:=by
    unfold zdS;split <;> simp [f,c,h]
   rw [e,h];exact z.zf _ _ (F.env q t J)
 ·cases b
end
inductive IK where
 | mk
 | ins (n : Int) (d : Nat) (y : X)
 | quiet
 | ld
 | bad
def zEu : Op → IK
 | .ld _ _ => .ld
 | op => if zaS op == 0 then .quiet else .bad
def zrM : Oper → IK
 | ⟨.loc,.mkm,none⟩ => .mk
 | ⟨.no,.mu (.l d) (.c (.one (.f (.lit (.int .i64 n))))) y,none⟩ => .ins n d y
 | ⟨_,op,_⟩ => zEu op
def zCQ (xs : List Oper) (i : Nat) : IK:=match xs[i]? with
 | some x => zrM x
 | none => .bad
def zDd : IK → Bool
 | .mk => true
 | _ => false
def zuu (xs : List Oper) (i : Nat) : Option Int:=match zCQ xs i with
 | .ins n _ _ => some n
 | _ => none
def zhf (gops : Array Go.Oper) (m0 j : Nat) : IK → Bool
 | .mk => j == m0
 | .ins _ d _ => decide (d < j) && (j - 1 - d == m0) && (zaw gops j).contains m0
 | .quiet => true
 | .ld => true
 | .bad => false
def zsn (ms : List Nat) (xs : List Oper) (i j : Nat) : Bool:=match xs[i]?,xs[j]? with
 | some x,some y => (zgn x y || bit ms j i) && (match writes x,writes y with
   | some q,some q' => q != q'
   | _,_ => true)
 | _,_ => false
def zvc (P : Program) (κ : List Tmp) (nt : Nat) (gops : Array Go.Oper) (xs : List Oper) (ms : List Nat) (m0 j : Nat) : Bool:=match gops[j]?,xs[j]? with
 | some o,some x => okD κ nt o.dst x.dst && zfO κ (zft gops xs j) gops o.guard x.guard && zmm P κ (zft gops xs j) o x.dst x.op && (yc j).all (fun i => zsn ms xs i j) && zhf gops m0 j (zrM x)
 | _,_ => false
def zo5 : List Int → Bool
 | [] => true
 | x :: xs => !xs.contains x && zo5 xs
def zvq (P : Program) : List Tmp → Nat → Array Go.Oper → List Oper → Bool:=fun κ nt gops xs =>
 let ms:=zmC gops.toList []
 let p:=zoo ms gops.size
 match (yc p).find? (fun i => zDd (zCQ xs i)) with
 | none => false
 | some m0 => zix gops ms && xs.length == gops.size && decide (p ≤ gops.size) && zj2 (zEe gops xs p) && zo5 ((yc p).filterMap (zuu xs)) && zDd (zCQ xs m0) && decide (m0 < p) && (yc p).all (zvc P κ nt gops xs ms m0) && (yc gops.size).all fun j => decide (j < p) || ziX P κ nt gops xs ms j
structure Chk3 (P : Program) (κ : List Tmp) (nt : Nat) (gops : Array Go.Oper) (xs : List Oper) (ms : List Nat) (m0 p : Nat) : Prop where
 masks : zix gops ms = true
 len : xs.length = gops.size
 p_le : p ≤ gops.size
 dup : zj2 (zEe gops xs p) = true
 keys : zo5 ((yc p).filterMap (zuu xs)) = true
 ismk : zDd (zCQ xs m0) = true
 m0p : m0 < p
 pre : ∀ j,j < p → zvc P κ nt gops xs ms m0 j = true
 tail : ∀ j,p ≤ j → j < gops.size → ziX P κ nt gops xs ms j = true
theorem znZ : ∀ {l : List Int},zo5 l = true → l.Nodup
 | [],_ => .nil
 | x :: l,h => by
   simp only [zo5,ya,yn] at h;exact yC.2 ⟨by simpa using h.1,znZ h.2⟩
section
variable {P : Program} {κ : List Tmp} {nt : Nat} {gops : Array Go.Oper} {xs : List Oper} {ms : List Nat} {m0 p : Nat} {Cf : zae} {rr : Nat → R}
theorem zDH (h : zvq P κ nt gops xs = true) : ∃ ms m0 p,Chk3 P κ nt gops xs ms m0 p:=by
 unfold zvq at h;simp only at h;split at h
 ·cases h
 ·simp only [ya,beq_iff_eq,decide_eq_true_eq] at h
  obtain ⟨⟨⟨⟨⟨⟨⟨⟨c,m⟩,e⟩,f⟩,d⟩,i⟩,g⟩,k⟩,l⟩:=h;refine ⟨_,_,_,c,m,e,f,d,i,g,fun j b => yg.1 k j (by simpa using b),fun j b a => ?_⟩;have:=yg.1 l j (by simpa using a);simp only [ym,decide_eq_true_eq] at this;rcases this with h | h
  ·omega
  ·exact h
theorem Chk3.pre_some (C : Chk3 P κ nt gops xs ms m0 p) {j : Nat} (l : j < p) {o : Go.Oper} {x : Oper} (g : gops[j]? = some o) (e : xs[j]? = some x) :
  okD κ nt o.dst x.dst = true ∧ zfO κ (zft gops xs j) gops o.guard x.guard = true ∧ zmm P κ (zft gops xs j) o x.dst x.op = true ∧ (∀ i,i < j → zsn ms xs i j = true) ∧ zhf gops m0 j (zrM x) = true:=by
 have h:=C.pre j l;unfold zvc at h;rw [g,e] at h;simp only [ya] at h;obtain ⟨⟨⟨⟨a,k⟩,c⟩,b⟩,f⟩:=h;exact ⟨a,k,c,fun i d => yg.1 b i (by simpa using d),f⟩
theorem Chk3.plan (C : Chk3 P κ nt gops xs ms m0 p) : Plan P κ nt gops xs p where
 len:=C.len
 p_le:=C.p_le
 back:=fun j o a i c => by
  have b : j < gops.size:=(yk.1 a).1;exact (zkJ C.masks b).2 i (by unfold zaw; rw [a]; exact c)
 pre:=fun j o x b a f => (C.pre_some b a f).1
 apart:=fun i j t c b e g => zkH C.dup yA i (by simpa using c) j (by simpa using b) t e g
 tail:=fun j o x b a f => by
  have d : j < gops.size:=(yk.1 a).1;have h:=C.tail j b d;unfold ziX at h;rw [a,f] at h;simp only [ya] at h;obtain ⟨⟨⟨e,g⟩,l⟩,k⟩:=h;exact ⟨e,g,l,fun i c => zeV C.masks j d (yg.1 k i (by simpa using c))⟩
theorem Chk3.pair (C : Chk3 P κ nt gops xs ms m0 p) {i j : Nat} (c : i < j) (e : j < p) {x y : Oper} (k : xs[i]? = some x) (f : xs[j]? = some y) :
  (zgn x y = true ∨ Reach gops j i) ∧ ∀ q,writes x = some q → writes y ≠ some q:=by
 have a : j < gops.size:=yi e C.p_le;have h:=(C.pre_some e (yh a) f).2.2.2.1 i c;unfold zsn at h;rw [k,f] at h;simp only [ya,ym] at h;obtain ⟨g,d⟩:=h;refine ⟨g.imp id fun h => zeV C.masks j a h,fun q l b => ?_⟩;rw [l,b] at d;simp at d
theorem Chk3.w (C : Chk3 P κ nt gops xs ms m0 p) : ChkW xs p:=⟨by rw [C.len]; exact C.p_le,fun a c _ _ b d => (C.pair a c b d).2⟩
def zEi (rr : Nat → R) (i : Nat) : IK → Option (Int × V)
 | .ins n _ y => some (n,(rr i).get y)
 | _ => none
def ent (rr : Nat → R) (xs : List Oper) (i : Nat) : Option (Int × V):=zEi rr i (zCQ xs i)
def zrL (rr : Nat → R) (xs : List Oper) (D : Nat → Bool) (i : Nat) : Option (Int × V):=if D i then ent rr xs i else none
def zbn (rr : Nat → R) (xs : List Oper) (p : Nat) (D : Nat → Bool) : List (Int × V):=(yc p).filterMap (zrL rr xs D)
def zgB (rr : Nat → R) (xs : List Oper) (p m0 : Nat) (D : Nat → Bool) : zd:=if D m0 then (rr 0).st ++ [.mp (zbn rr xs p D)] else (rr 0).st
theorem zdp {α β : Type} {f f' : α → Option β} : ∀ {l : List α},(∀ i ∈ l,f' i = f i) → l.filterMap f' = l.filterMap f
 | [],_ => rfl
 | y :: l,h => by
   simp only [yd,h y (by simp),zdp fun i a => h i (List.mem_cons_of_mem _ a)]
theorem zlX {α β : Type} [DecidableEq α] {f f' : α → Option β} {j : α} {x : β} : ∀ {l : List α},l.Nodup → j ∈ l → (∀ i,i ≠ j → f' i = f i) → f j = none → f' j = some x → (l.filterMap f').Perm (l.filterMap f ++ [x])
 | [],_,h,_,_,_ => by simp at h
 | y :: l,hn,h,h1,h2,h3 => by
   rw [yC] at hn
   by_cases e : y = j
   ·subst e
    have : l.filterMap f' = l.filterMap f:=zdp fun i b => h1 i (fun e => hn.1 (e ▸ b));simp only [yd,h2,h3,this];exact (List.perm_append_singleton _ _).symm
   ·have a:=zlX hn.2 (by simpa [Ne.symm e] using h) h1 h2 h3
    simp only [yd,h1 y e]
    cases f y with
    | none => exact a
    | some z => exact a.cons z
theorem zDj (i : Nat) : (ent rr xs i).map (·.1) = zuu xs i:=by
 unfold ent zuu;cases zCQ xs i <;> rfl
theorem zzm {D : Nat → Bool} : ∀ {l : List Nat},(l.filterMap (zrL rr xs D)).map (·.1) = (l.filter D).filterMap (zuu xs)
 | [] => rfl
 | i :: l => by
   have c:=zzm (D:=D) (l:=l);have a:=zDj (rr:=rr) (xs:=xs) i
   cases b : D i with
   | false =>
     have : zrL rr xs D i = none:=(by simp [zrL,b]);simp only [yd,yB,this,b,c];simp
   | true =>
     have : zrL rr xs D i = ent rr xs i:=(by simp [zrL,b]);simp only [yd,yB,this,b,if_true]
     cases he : ent rr xs i with
     | none =>
       rw [he] at a;simp only [Option.map_none] at a;simp only [← a,c]
     | some e =>
       rw [he] at a;simp only [yG] at a;simp only [← a,c,List.map_cons]
theorem zy4 {α β : Type} {f : α → Option β} {D : α → Bool} {l : List α} (h : (l.filterMap f).Nodup) : ((l.filter D).filterMap f).Nodup :=
 h.sublist (List.filter_sublist.filterMap f)
theorem zwR (a : zo5 ((yc p).filterMap (zuu xs)) = true) (D : Nat → Bool) : ((zbn rr xs p D).map (·.1)).Nodup:=by
 unfold zbn;rw [zzm];exact zy4 (znZ a)
theorem zj9 {i : Nat} {x : Oper} (a : xs[i]? = some x) : zCQ xs i = zrM x:=by unfold zCQ; rw [a]
theorem zvC (k : zo5 ((yc p).filterMap (zuu xs)) = true) {D : Nat → Bool} {j : Nat} (l : j < p) (g : D j = false) {n : Int} {v : V} (he : ent rr xs j = some (n,v)) :
  zhj n (zbn rr xs p D) = none ∧ (zbn rr xs p D ++ [(n,v)]).Perm (zbn rr xs p (zba D j)):=by
 have c:=zlX (f:=zrL rr xs D) (f':=zrL rr xs (zba D j)) (x:=(n,v)) yA (List.mem_range.2 l) (fun i d => by simp [zrL,zba,d]) (by simp [zrL,g]) (by simp [zrL,zba,he]);have h:=zwR (rr:=rr) k (zba D j);refine ⟨zjN.2 fun e b heq => ?_,c.symm⟩;have a : ((zbn rr xs p D ++ [(n,v)]).map (·.1)).Nodup:=(c.map (·.1)).nodup_iff.1 h;rw [List.map_append,List.nodup_append] at a;exact a.2.2 e.1 (yI.2 ⟨e,b,rfl⟩) n (by simp) heq
theorem zye {D : Nat → Bool} {j : Nat} (he : ent rr xs j = none) : zbn rr xs p (zba D j) = zbn rr xs p D:=by
 refine zdp fun i _ => ?_;unfold zrL zba
 by_cases e : i = j
 ·subst e; simp [he]
 ·simp [e]
theorem zvs {x : Oper} {n : Int} {d : Nat} {y : X} (h : zrM x = .ins n d y) : x = ⟨.no,.mu (.l d) (.c (.one (.f (.lit (.int .i64 n))))) y,none⟩:=by
 unfold zrM at h;split at h
 ·cases h
 ·injection h with h1 h2 h3; subst h1 h2 h3; rfl
 ·unfold zEu at h
  split at h
  ·cases h
  ·split at h <;> cases h
theorem zyv {x : Oper} (h : zrM x = .mk) : x = ⟨.loc,.mkm,none⟩:=by
 unfold zrM at h;split at h
 ·rfl
 ·cases h
 ·unfold zEu at h
  split at h
  ·cases h
  ·split at h <;> cases h
theorem zrg {x : Oper} (h : zrM x = .quiet) : zaS x.op = 0:=by
 unfold zrM at h;split at h
 ·cases h
 ·cases h
 ·unfold zEu at h
  split at h
  ·cases h
  ·split at h
   ·rename_i a; simpa using a
   ·cases h
theorem zx4 {x : Oper} (h : zrM x = .ld) : ∃ sz y,x.op = .ld sz y:=by
 unfold zrM at h;split at h
 ·cases h
 ·cases h
 ·unfold zEu at h
  split at h
  ·exact ⟨_,_,rfl⟩
  ·split at h <;> cases h
end
section
variable {P : Program} {κ : List Tmp} {nt : Nat} {gops : Array Go.Oper} {xs : List Oper} {ms : List Nat} {m0 p b l : Nat} {Cf : zae} {rr : Nat → R}
theorem zBW {g : G} {w : World} {σ : zd} {id : Nat} {es es' : List (Int × V)} (R : Rel g w σ) (a : σ[id]? = some (.mp es)) (p : es.Perm es') : Ext g w σ g w (σ.set id (.mp es')) ∧ Rel g w (σ.set id (.mp es')):=by
 refine replace R a (fun _ => False) rfl rfl rfl (yl _) (fun b q _ => ⟨rfl,rfl,fun _ h => h⟩) (fun b h => h.elim) (fun _ _ _ h => h) (fun _ _ => rfl) (fun _ _ _ => rfl) R.nb
  (fun c f d e => by simp [shapeOf,a,Ob.shape] at e) (fun j h => ⟨rfl,es',rfl⟩) (fun k n h => by simp [zmP,a,Ob.fr] at h) (fun _ _ h => by cases h) (fun H => ?_)
 obtain ⟨l,i,zbn,clock,m,o⟩:=R.ob id _ a;exact ⟨l,i,zbn,clock,m,zwA p (H.zlB o)⟩
theorem zx5 {σ σ' : zd} (g : ∀ (id a sz : Nat) (es : List (List C)),σ[id]? = some (.cells a sz es) → σ'[id]? = some (.cells a sz es)) {sz : Option Nat} {v u : V} (h : ald σ sz v = some u) : ald σ' sz v = some u:=by
 have key : ∀ {id a i : Nat} {el : List C},σ.elem id a i = some el → σ'.elem id a i = some el:=fun {id a i el} he => by
  unfold zd.elem at he ⊢;rw [ye] at he ⊢;obtain ⟨o,b,d⟩:=he
  cases o with
  | cells v' sz' es => exact ⟨_,g id v' sz' es b,d⟩
  | tok _ _ => simp [Ob.elem] at d
  | mp _ => simp [Ob.elem] at d
 unfold ald at h ⊢;split at h
 ·rw [yw] at h ⊢
  obtain ⟨c,b,d⟩:=h;unfold zd.cell at b ⊢;rw [ye] at b;obtain ⟨el,e,f⟩:=b;exact ⟨c,by rw [ye]; exact ⟨el,key e,f⟩,d⟩
 ·exact h
 ·rw [yw] at h ⊢
  obtain ⟨c,b,d⟩:=h;rw [ye] at b;obtain ⟨el,e,f⟩:=b;exact ⟨c,by rw [ye]; exact ⟨el,key e,f⟩,d⟩
 ·exact h
 ·cases h
theorem zDL {x : Oper} {sz : Option Nat} {y : X} (a : x.op = .ld sz y) {r r' r1 : R} (e : ∀ z ∈ zeQ x,r'.get z = r.get z) (f : ∀ (id b sz : Nat) (es : List (List C)),r.st[id]? = some (.cells b sz es) → r'.st[id]? = some (.cells b sz es)) (h : step Cf r x = some r1) :
  ∃ v,r1 = r.put x.dst v ∧ step Cf r' x = some (r'.put x.dst v):=by
 obtain ⟨d,op,i⟩:=x;simp only at a;subst a
 have one : za8 Cf r d (.ld sz y) = some r1 → ∃ v,r1 = r.put d v ∧ za8 Cf r' d (.ld sz y) = some (r'.put d v):=fun h => by
  simp only [za8] at h ⊢;obtain ⟨v,j,g⟩:=zq2 h;have k : r'.get y = r.get y:=e y (by simp [zeQ,opX]);exact ⟨v,g,by rw [k,zx5 f j]; rfl⟩
 cases i with
 | none => exact one h
 | some q =>
   obtain ⟨z,bb⟩:=q;simp only [step] at h ⊢;rw [e z (by simp [zeQ])];unfold znC at h ⊢;split at h
   ·split at h
    ·rename_i c
     rw [if_pos c];exact one h
    ·rename_i c
     rw [if_neg c];injection h with h;exact ⟨.tup [],h.symm,rfl⟩
   ·injection h with h
    exact ⟨.tup [],h.symm,rfl⟩
   ·cases h
theorem Chk3.kind (C : Chk3 P κ nt gops xs ms m0 p) {j : Nat} (a : j < p) {x : Oper} (b : xs[j]? = some x) : zhf gops m0 j (zrM x) = true :=
 (C.pre_some a (yh (yi a C.p_le)) b).2.2.2.2
theorem zFP (C : Chk3 P κ nt gops xs ms m0 p) (r : ∀ i x,xs[i]? = some x → step Cf (rr i) x = some (rr (i + 1))) (V : (rr 0).rs = []) : ∀ j,j ≤ p →
  (rr j).st = (if m0 < j then (rr 0).st ++ [.mp ((yc j).filterMap (ent rr xs))] else (rr 0).st) ∧ (m0 < j → za6 rr m0 = .one (.map (rr 0).st.length))
 | 0,_ => ⟨by simp,fun h => by omega⟩
 | j + 1,hj => by
   obtain ⟨m,E⟩:=zFP C r V j (by omega);have S : j < xs.length:=(by have:=C.w.le; omega);have A : xs[j]? = some xs[j]:=yb S;have t:=C.kind (by omega) A;have a:=r j _ A
   have quiet : ent rr xs j = none → j ≠ m0 → (rr (j + 1)).st = (rr j).st → (rr (j + 1)).st = (if m0 < j + 1 then (rr 0).st ++ [.mp ((yc (j + 1)).filterMap (ent rr xs))] else (rr 0).st) ∧ (m0 < j + 1 → za6 rr m0 = .one (.map (rr 0).st.length)):=fun he Y O => by
    refine ⟨?_,fun h => E (by omega)⟩;rw [O,m,yq,yj];simp only [yd,yt,he,yx]
    by_cases h : m0 < j
    ·rw [if_pos h,if_pos (by omega)]
    ·rw [if_neg h,if_neg (by omega)]
   have b : ent rr xs j = zEi rr j (zrM xs[j]):=by unfold ent; rw [zj9 A]
   cases g : zrM xs[j] with
   | bad => rw [g] at t; simp [zhf] at t
   | quiet =>
     rw [g] at b;refine quiet b (fun e => ?_) ?_
     ·subst e
      have:=C.ismk;rw [zj9 A,g] at this;simp [zDd] at this
     ·obtain ⟨v,σ1,K,o⟩:=zmn r A
      have Z:=zrg g;rw [K,zeZ];rcases o with o | o
      ·exact o
      ·exact o.1 (by omega)
   | ld =>
     rw [g] at b;refine quiet b (fun e => ?_) ?_
     ·subst e
      have:=C.ismk;rw [zj9 A,g] at this;simp [zDd] at this
     ·obtain ⟨sz,y,Q⟩:=zx4 g
      obtain ⟨v,σ1,K,o⟩:=zmn r A;rw [K,zeZ];rcases o with o | o
      ·exact o
      ·exact o.1 (by rw [Q]; simp [zaS])
   | mk =>
     rw [g] at t b;simp only [zhf,beq_iff_eq] at t;subst t;have B:=zyv g;rw [B] at a;simp only [step,za8,Option.some.injEq] at a
     have u : (yc j).filterMap (ent rr xs) = []:=by
      rw [yr];intro i I;have W : i < j:=(by simpa using I);have H : xs[i]? = some (xs[i]'(by omega)):=yb (by omega);have L:=C.kind (by omega) H;unfold ent;rw [zj9 H]
      cases U : zrM (xs[i]'(by omega)) with
      | ins n d y =>
        rw [U] at L;simp only [zhf,ya,decide_eq_true_eq,beq_iff_eq] at L;omega
      | _ => rfl
     refine ⟨?_,fun _ => ?_⟩
     ·rw [← a,yq,yj,u]
      simp only [yd,yt,b,zEi,yx,if_pos (Nat.lt_succ_self j)];rw [if_neg (by omega)] at m;simp only [R.put,R.alloc,m]
     ·rw [if_neg (by omega)] at m
      unfold za6;rw [← a];simp [R.put,R.alloc,m]
   | ins n d y =>
     rw [g] at t b;simp only [zhf,ya,decide_eq_true_eq,beq_iff_eq] at t;obtain ⟨⟨hd,hm⟩,_⟩:=t;have z : m0 < j:=(by omega);rw [if_pos z] at m;have B:=zvs g;rw [B] at a;have N:=znK r V j (by omega)
     have J : (rr j).get (.l d) = .one (.map (rr 0).st.length):=by
      show (rr j).rs.getD d vun = _
      rw [N,yf,zjC (za6 rr) hd,hm];exact E z
     have s:=(zvC (rr:=rr) C.keys (D:=fun i => decide (i < j)) (n:=n) (v:=(rr j).get y) (by omega : j < p) (by simp) (by rw [b]; rfl)).1
     have G : zbn rr xs p (fun i => decide (i < j)) = (yc j).filterMap (ent rr xs):=by
      unfold zbn;obtain ⟨q,X⟩ : ∃ q,p = j + q:=⟨p - j,by omega⟩;rw [X,List.range_add,yj]
      have K : (yc j).filterMap (zrL rr xs fun i => decide (i < j)) = (yc j).filterMap (ent rr xs):=zdp fun i I => by
       have : i < j:=(by simpa using I);simp [zrL,this]
      have o : ((yc q).map (j + ·)).filterMap (zrL rr xs fun i => decide (i < j)) = []:=by
       rw [yr];intro i I;obtain ⟨k,_,rfl⟩:=yI.1 I;have : ¬ j + k < j:=(by omega);simp [zrL,this]
      rw [K,o,yx]
     rw [G] at s;simp only [step,za8,J] at a;have M : (rr j).get (.c (.one (.f (.lit (.int .i64 n))))) = .one (.f (.lit (.int .i64 n))):=rfl;rw [M] at a;simp only [amu,m,List.getElem?_concat_length,yy,Ob.entries,yG,Option.some.injEq] at a;refine ⟨?_,fun _ => E z⟩;rw [← a,if_pos (by omega),yq,yj];simp only [yd,yt,b,zEi,R.put,zE4,R.setOb,m,zik s];simp
end
end Go.A
