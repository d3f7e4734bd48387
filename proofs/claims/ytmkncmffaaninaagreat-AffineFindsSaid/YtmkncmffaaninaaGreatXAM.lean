/- A part of the proof of AffineFinds. Conditions: none. -/
import Derived.Test.YtmkncmffaaninaaGreatXAL
set_option linter.all false
open Bool renaming and_eq_true → ya,or_eq_true → ym,not_eq_true' → yn,and_eq_false_iff → yv,not_eq_false' → yz
open List renaming getElem?_eq_getElem → yb,range → yc,filterMap_cons → yd,getD_eq_getElem?_getD → yf,all_eq_true → yg,filterMap_append → yj,getElem?_eq_none → yo,getElem?_append_left → yp,range_succ → yq,filterMap_eq_nil_iff → yr,filterMap_nil → yt,append_nil → yx,nodup_range → yA,filter_cons → yB,nodup_cons → yC,mem_map → yI
open Option renaming bind_eq_some_iff → ye,map_eq_some_iff → yw,bind_some → yy,map_some → yG
open Array renaming getElem?_eq_getElem → yh,getElem?_eq_some_iff → yk,replicate → yu
open Nat renaming lt_of_lt_of_le → yi,le_refl → yl,le_trans → yD,le_of_lt → yE,lt_or_ge → yF,zero_le → yH
namespace Go.A
theorem Value.beq_eq {a b : Value} (h : Value.beq a b = true) : a = b:=by
 unfold Value.beq at h;split at h
 ·simp only [ya,decide_eq_true_eq] at h
  rw [h.1,h.2]
 ·simp only [beq_iff_eq] at h
  rw [h]
 ·rename_i a b
  simp only [decide_eq_true_eq] at h
  have : a = b:=by
   cases a;cases b;simp only [ByteArray.mk.injEq];exact Array.toList_inj.1 h
  rw [this]
 ·cases h
mutual
theorem Fz.beq_eq : ∀ {a b : Fz},a.beq b = true → a = b
 | .lit v,.lit u,h => by
   simp only [Fz.beq] at h;rw [Value.beq_eq h]
 | .sl xs,.sl ys,h => by
   simp only [Fz.beq] at h;rw [Fz.beqs_eq h]
 | .lit _,.sl _,h => by simp [Fz.beq] at h
 | .sl _,.lit _,h => by simp [Fz.beq] at h
theorem Fz.beqR_eq : ∀ {a b : List Fz},Fz.beqR a b = true → a = b
 | [],[],_ => rfl
 | x :: xs,y :: ys,h => by
   simp only [Fz.beqR,ya] at h;rw [Fz.beq_eq h.1,Fz.beqR_eq h.2]
 | [],_ :: _,h => by simp [Fz.beqR] at h
 | _ :: _,[],h => by simp [Fz.beqR] at h
theorem Fz.beqs_eq : ∀ {a b : List (List Fz)},Fz.beqs a b = true → a = b
 | [],[],_ => rfl
 | x :: xs,y :: ys,h => by
   simp only [Fz.beqs,ya] at h;rw [Fz.beqR_eq h.1,Fz.beqs_eq h.2]
 | [],_ :: _,h => by simp [Fz.beqs] at h
 | _ :: _,[],h => by simp [Fz.beqs] at h
end
theorem C.beq_eq {a b : C} (h : a.beq b = true) : a = b:=by
 unfold C.beq at h;split at h
 ·rw [Fz.beq_eq h]
 ·simp only [ya,decide_eq_true_eq] at h
  obtain ⟨⟨d,e⟩,c⟩:=h;rw [d,e,Fz.beqs_eq c]
 ·simp only [ya,decide_eq_true_eq] at h
  obtain ⟨⟨⟨d,e⟩,c⟩,f⟩:=h;rw [d,e,c,f]
 ·simp only [ya,decide_eq_true_eq] at h
  rw [Fz.beqR_eq h.1,h.2]
 ·simp only [ya,decide_eq_true_eq] at h
  obtain ⟨⟨⟨d,e⟩,c⟩,f⟩:=h;rw [d,e,c,f]
 ·simp only [decide_eq_true_eq] at h
  rw [h]
 ·cases h
theorem C.beqs_eq : ∀ {a b : List C},C.beqs a b = true → a = b
 | [],[],_ => rfl
 | x :: xs,y :: ys,h => by
   simp only [C.beqs,ya] at h;rw [C.beq_eq h.1,C.beqs_eq h.2]
 | [],_ :: _,h => by simp [C.beqs] at h
 | _ :: _,[],h => by simp [C.beqs] at h
theorem V.beq_eq {a b : V} (h : a.beq b = true) : a = b:=by
 unfold V.beq at h;split at h
 ·rw [C.beq_eq h]
 ·rw [C.beqs_eq h]
 ·cases h
section
variable {P : Program} {κ : List Tmp} {nt : Nat} {gops : Array Go.Oper} {ps : List (Nat × Nat)} {xs : List Oper} {ms : List Nat} {p b l : Nat} {Cf : zaq} {rr : Nat → R} {g0 : G} {w0 : World} {σ0 : zd}
theorem zoJ (c : ∀ i x,xs[i]? = some x → step Cf (rr i) x = some (rr (i + 1))) : ∀ n,n ≤ xs.length → steps Cf (xs.take n) (rr 0) = some (rr n)
 | 0,_ => rfl
 | n + 1,h => by
   have d : xs[n]? = some xs[n]:=yb (by omega);rw [List.take_add_one,d];simp only [Option.toList_some];have e:=zoJ c n (by omega)
   have app : ∀ (a b : List Oper) (r : R),steps Cf (a ++ b) r = (steps Cf a r).bind (steps Cf b):=by
    intro a
    induction a with
    | nil => intro b r; rfl
    | cons x a iha =>
      intro b r;simp only [List.cons_append,steps]
      cases f : step Cf r x with
      | none => rfl
      | some r1 => simp only [yy]; exact iha b r1
   rw [app,e];simp only [yy,steps,c n _ d]
theorem zua (c : zaq) : LeC zt8 c:=fun _ _ _ r h => by cases h
theorem zF5 {ops : List Oper} {r : R} {j k : Nat} (b : ∀ i x,ops[i]? = some x → step Cf (rr i) x = some (rr (i + 1))) (D : rr 0 = r) (z : k ≤ ops.length) (h : zb8 Cf ops r (j,k) = true) {x : Oper} (p : ops[j]? = some x) (y : zbc x.op ≤ 2) (g : zzc x.dst = true) (t : zJx x.op = true) :
  ∃ v,rr (j + 1) = (rr j).put x.dst v ∧ ∃ q,step Cf ((rr j).at (rr k).st) x = some q ∧ q = ((rr j).at (rr k).st).put x.dst v:=by
 unfold zb8 at h;subst D;have H:=zb p;simp only [zoJ b j (by omega),zoJ b k z,p] at h
 have hd : x.dst = .loc:=by
  cases l : x.dst with
  | loc => rfl
  | no => rw [l] at g; simp [zzc] at g
  | slot q => rw [l] at g; simp [zzc] at g
 have quiet : ∀ (r q : R),step Cf r x = some q → ∃ v,q = r.put x.dst v:=fun r q l => by
  obtain ⟨n,t⟩:=exX r.get (zfa x);obtain ⟨v,E,_⟩:=zgA (r':=r) (n:=n) y (fun _ _ => rfl) (t n (yl _)) (fun _ => ⟨fun id B sz o _ m u => ⟨o,m,u⟩⟩) (fun _ => ⟨fun id o _ m => m⟩) l;exact ⟨v,E⟩
 unfold zoi at h;split at h
 ·rename_i C G w A
  have f:=znI (zua Cf) _ _ _ w;have a:=znI (zua Cf) _ _ _ A;have d:=b j x p;rw [d] at a;injection a with a;obtain ⟨v,s⟩:=quiet _ _ f;obtain ⟨v',c⟩:=quiet _ _ d;have e:=V.beq_eq h;rw [s,← a,c,hd] at e;have e2 : v = v':=by simpa [R.put] using e
  subst e2;exact ⟨v,c,C,f,s⟩
 ·cases h
theorem zzL (S : zg3 P Cf) (C : Chk2 P κ nt gops ps xs ms p) (b : ∀ i x,xs[i]? = some x → step Cf (rr i) x = some (rr (i + 1))) (Z : ∀ q ∈ ps,zb8 Cf xs (rr 0) q = true) {D : Nat → Bool} {K j : Nat} {B : Nat → Nat} {g : G} {w : World} {a : Act} {x : Oper}
  (E : zh9 gops D) (hE : ∀ i ∈ zaO gops j,D i = true) (Q : D j = false) (m : zz8 xs p D K) (M : Mid2 P gops xs κ nt p rr g0 w0 σ0 D K B g w a) (hj : j < p) (H : xs[j]? = some x) (J : zbc x.op ≤ 2) {r' : R} (k : r'.st = (rr K).st)
  (d : ∀ y ∈ zfa x,r'.get y = (rr j).get y) (t : ∀ y ∈ zfa x,((rr j).get y).lt (rr K).st.length = true) :
  ∃ v,rr (j + 1) = (rr j).put x.dst v ∧ step Cf r' x = some (r'.put x.dst v):=by
 have I : j < gops.size:=yi hj C.p_le;have hA : ∀ i,Reach gops j i → D i = true:=fun i h => zbg E h hE
 have hB : ∀ i,Reach gops i j → D i = false:=fun i h => by
  cases hi : D i with
  | false => rfl
  | true =>
    have:=zbg E h (E i hi);rw [Q] at this;cases this
 have c:=(C.pre_some hj (yh I) H).2.2.2.2.2;unfold zv9 at c;simp only [ym,beq_iff_eq,decide_eq_true_eq] at c;have V : K ≤ xs.length:=yD M.kp C.w.le;rcases c with (h | h) | h
 ·exact zgA (r':=r') (n:=(rr K).st.length) J d t (fun e => by omega) (fun e => by omega) (b j x H)
 ·omega
 ·have:=yg.1 h K (by have:=M.kp; simp; omega)
  simp only [ym,yn,Bool.or_eq_false_iff,ya] at this;rcases this with ((h | h) | h) | ⟨⟨A,l⟩,h3⟩
  ·
   rcases m with m | ⟨m,_⟩
   ·simp [m] at h
   ·rw [m] at h; simp at h
  ·
   exfalso;unfold zHq at h;simp only [yv,yz,ya,decide_eq_true_eq] at h;rcases h with ⟨A,l⟩ | h
   ·have:=hA K (zfo C.masks j I l)
    rcases m with m | ⟨_,m⟩
    ·omega
    ·rw [m] at this; cases this
   ·rw [List.all_eq_false] at h
    obtain ⟨e,he,h⟩:=h;simp only [yn,Bool.not_eq_false,ya,Bool.not_eq_true,yz] at h;have L : e < K:=(by simpa using he);have O : e < gops.size:=(by have:=M.kp; have:=C.p_le; omega);have:=hB e (zfo C.masks e O h.2);rw [M.before e L h.1] at this;cases this
  ·
   have f : ∀ i,min j K ≤ i → i < max j K → cls xs i ≤ 2 ∨ cls xs i = 4 ∨ (zbc x.op = 1 ∧ cls xs i ≤ 4):=fun i A l => by
    have:=yg.1 h i (by have:=M.kp; simp; omega);simp only [ym,yn,ya,decide_eq_true_eq,beq_iff_eq,yv,decide_eq_false_iff_not] at this;rcases this with ((h | h) | h) | h
    ·unfold eff at h
     simp only [decide_eq_false_iff_not] at h;exact .inl (by omega)
    ·omega
    ·exact .inr (.inl h)
    ·exact .inr (.inr h)
   rcases Nat.le_total K j with X | X
   ·obtain ⟨n,z⟩ : ∃ n,j = K + n:=⟨j - K,by omega⟩
    have aA:=zb H;refine zgA (r':=r') (n:=(rr K).st.length) J d t (fun W => ?_) (fun Y => ?_) (b j x H)
    ·rw [k,z]
     exact (znl b n (by omega) fun i A l => by
      rcases f i (by omega) (by omega) with h | h | h
      ·omega
      ·omega
      ·exact h.2).2.2 _ (yl _)
    ·obtain ⟨os,u⟩:=znx b (a:=K) n (by omega) fun i A l => by
      rcases f i (by omega) (by omega) with h | h | h
      ·exact .inl h
      ·exact .inr h
      ·omega
     rw [k,z,u];exact ⟨fun id o N s => by rw [yp N] at s; exact s⟩
   ·obtain ⟨n,z⟩ : ∃ n,K = j + n:=⟨K - j,by omega⟩
    refine zgA (r':=r') (n:=(rr K).st.length) J d t (fun W => ?_) (fun Y => ?_) (b j x H)
    ·rw [k,z]
     exact (znl b n (by omega) fun i A l => by
      rcases f i (by omega) (by omega) with h | h | h
      ·omega
      ·omega
      ·exact h.2).2.1 _
    ·obtain ⟨os,u⟩:=znx b (a:=j) n (by omega) fun i A l => by
      rcases f i (by omega) (by omega) with h | h | h
      ·exact .inl h
      ·exact .inr h
      ·omega
     rw [k,z,u];exact ⟨fun id o _ s => by rw [yp (zb s)]; exact s⟩
  ·
   obtain ⟨v,q1,q,q2,q3⟩:=zF5 b rfl V (Z (j,K) (by simpa using A)) H J l h3;refine ⟨v,q1,?_⟩;rw [q3] at q2;obtain ⟨n,z⟩:=exX ((rr j).at (rr K).st).get (zfa x);have U : ∀ y,((rr j).at (rr K).st).get y = (rr j).get y:=fun y => by cases y <;> rfl
   obtain ⟨v',e1,e2⟩:=zgA (r':=r') (n:=n) J (fun y hy => by rw [U]; exact d y hy) (z n (yl _)) (fun _ => by rw [k]; exact ⟨fun id aB sz o _ s hr => ⟨o,s,hr⟩⟩) (fun _ => by rw [k]; exact ⟨fun id o _ s => s⟩) q2
   have hd : x.dst = .loc:=by
    cases hq : x.dst with
    | loc => rfl
    | no => rw [hq] at l; simp [zzc] at l
    | slot q => rw [hq] at l; simp [zzc] at l
   rw [hd] at e1;have : v = v':=(by simpa [R.put] using congrArg (fun r => r.rs.headD vun) e1);subst this;exact e2
end
end Go.A
namespace Go.A
section
variable {P : Program} {κ : List Tmp} {nt : Nat} {gops : Array Go.Oper} {ps : List (Nat × Nat)} {xs : List Oper} {ms : List Nat} {p b l : Nat} {Cf : zaq} {rr : Nat → R} {g0 : G} {w0 : World} {σ0 : zd} {Q : Exit → Act → World → Prop}
theorem zDz (S : zg3 P Cf) (C : Chk2 P κ nt gops ps xs ms p) (m : ∀ i x,xs[i]? = some x → step Cf (rr i) x = some (rr (i + 1))) (h0 : (rr 0).rs = []) (N : (rr 0).env.length = κ.length) (U : κ.Nodup) (aA : ∀ t ∈ κ,t < nt) (aH : ∀ q ∈ ps,zb8 Cf xs (rr 0) q = true)
  {D : Nat → Bool} {K j : Nat} {B : Nat → Nat} {g : G} {w : World} {a : Act} {o : Go.Oper} {next : Act → World → Prop}
  (I : zh9 gops D) (hE : ∀ i ∈ zaO gops j,D i = true) (A : D j = false) (aO : ∀ i,p ≤ i → D i = false) (hS : zz8 xs p D K) (M : Mid2 P gops xs κ nt p rr g0 w0 σ0 D K B g w a) (L : j < p) (Z : gops[j]? = some o)
  (k : ∀ g' w' u K' B',Mid2 P gops xs κ nt p rr g0 w0 σ0 (zby D j) K' B' g' w' (a.put o.dst u) → next (a.put o.dst u) w') :
  if Region.wanted o (yielded gops a.tmps) then o.wp P a w next Q else next (a.put o.dst undef) w:=by
 have aE : j < gops.size:=yi L C.p_le;have aM : j < xs.length:=by rw [C.len]; exact aE
 have J : xs[j]? = some xs[j]:=yb aM;obtain ⟨c1,c2,c3,c4,_⟩:=C.pre_some L Z J;have hA : ∀ i,Reach gops j i → D i = true:=fun i h => zbg I h hE
 have hB : ∀ i,Reach gops i j → D i = false:=fun i h => by
  cases X : D i with
  | false => rfl
  | true =>
    have:=zbg I h (I i X);rw [A] at this;cases this
 have aK : ∀ i ∈ zaO gops j,i < j:=fun i X => by
  unfold zaO at X;rw [Z] at X;exact C.plan.back j o Z i X
 have F:=zrQ (b:=0) (l:=0) C m N U aA (yE L) (zCj gops xs j) (fun i t X ht => by
  unfold zCj at ht;split at ht
  ·rename_i hc
   have aD : i < xs.length:=(by omega);refine ⟨zFi C I hE hS X L (yb aD) J (hE i (by simpa using hc)) fun _ => by unfold zuk; rw [hc]; rfl,ht⟩
  ·cases ht) M
 have aI:=zpe m h0 j (by omega);obtain ⟨_,aG⟩:=zhd C.w m j (yE L)
 have E : ∀ y ∈ zfa xs[j],(⟨(yc j).reverse.map (zbq rr),zpz rr xs p D K,(rr K).st,0,0⟩ : R).get y = (rr j).get y:=fun y hy => by
  cases y with
  | l d => show ((yc j).reverse.map (zbq rr)).getD d vun = (rr j).rs.getD d vun; rw [aI]
  | c v => rfl
  | s q =>
    show (zpz rr xs p D K).getD q vun = (rr j).env.getD q vun
    rw [znF C.w m,aG];unfold zel zh1
    cases X : wr xs p q with
    | none => rfl
    | some i =>
      simp only;obtain ⟨aJ,x',W,hw⟩:=zg8 X
      have n : zf2 q xs[j] = true:=by
       unfold zf2;rw [List.any_eq_true];exact ⟨_,hy,by simp⟩
      rcases Nat.lt_trichotomy i j with z | rfl | z
      ·have hD : D i = true:=by
        rcases (C.pair z L W J).1 with h | h
        ·exfalso
         unfold zhc at h;rw [hw] at h;simp [n] at h
        ·exact hA i h
       have hv:=zFi C I hE hS z L W J hD fun _ => by
        unfold zuk;rw [W];simp [hw,n]
       rw [hv];simp [z]
      ·simp [vis,A]
      ·have hD : D i = false:=by
        rcases (C.pair z aJ J W).1 with h | h
        ·exfalso
         unfold zhc at h;rw [hw] at h;simp [n] at h
        ·exact hB i h
       have : ¬ i < j:=(by omega);simp [vis,hD,this]
 have z : ∀ y ∈ zfa xs[j],((rr j).get y).lt (rr K).st.length = true:=fun y hy => by
  rw [← E y hy];have hu:=c4 y hy
  cases y with
  | l d =>
    simp only [zzI] at hu;split at hu
    ·rename_i t ht
     exact zp6 _ _ (F.lc d t ht hu)
    ·cases hu
  | s q =>
    by_cases hq : q < κ.length
    ·exact zp6 _ _ (F.env q _ (yb hq))
    ·have hl:=F.len
     have : (⟨(yc j).reverse.map (zbq rr),zpz rr xs p D K,(rr K).st,0,0⟩ : R).get (.s q) = vun:=by
      show (zpz rr xs p D K).getD q vun = vun
      rw [yf,yo (by simp only at hl; omega)];rfl
     rw [this];rfl
  | c v => exact V.lt_mono (yH _) v hu
 by_cases hc : zbc xs[j].op ≤ 2
 ·have f : eff xs j = false:=by unfold eff; rw [zic J]; simp; omega
  obtain ⟨v,h1,h2⟩:=zzL (r':=⟨(yc j).reverse.map (zbq rr),zpz rr xs p D K,(rr K).st,0,0⟩) S C m aH I hE A hS M L J hc rfl E z;refine zdX (r:=⟨(yc j).reverse.map (zbq rr),zpz rr xs p D K,(rr K).st,0,0⟩) S M.rel F c1 c2 c3 h2 (fun g' w' u H R1 _ F1 => ?_) (fun _ h => h);rw [zfw] at H R1;exact k g' w' u K B (zuf (b:=0) (l:=0) (σ1:=(rr j).st) C m N U M (.inl ⟨rfl,f⟩) L A Z J h1 H R1 F1)
 ·have f : eff xs j = true:=by unfold eff; rw [zic J]; simp; omega
  by_cases aB : j = K
  ·subst aB
   obtain ⟨v,σ1,h1,h2,_⟩:=ztD (r':=⟨(yc j).reverse.map (zbq rr),zpz rr xs p D j,(rr j).st,0,0⟩) E rfl (m j _ J);have Y : (rr (j + 1)).st = σ1:=(by rw [h1,zfw]; rfl);refine zdX (r:=⟨(yc j).reverse.map (zbq rr),zpz rr xs p D j,(rr j).st,0,0⟩) S M.rel F c1 c2 c3 h2 (fun g' w' u H R1 _ F1 => ?_) (fun _ h => h);rw [zfw] at H R1;have H' : Ext g w (rr j).st g' w' (rr (j + 1)).st:=(by rw [Y]; exact H);have R' : Rel g' w' (rr (j + 1)).st:=(by rw [Y]; exact R1);refine k g' w' u (j + 1) B (zuf (b:=0) (l:=0) (σ1:=σ1) C m N U M (.inr ⟨rfl,rfl⟩) L A Z J h1 H' R' ?_);have e : (⟨(yc j).reverse.map (zbq rr),zpz rr xs p D j,(rr (j + 1)).st,0,0⟩ : R) = (⟨(yc j).reverse.map (zbq rr),zpz rr xs p D j,(rr j).st,0,0⟩ : R).at σ1:=(by rw [Y]; rfl);rw [e];exact F1
  ·have O : K < j ∧ zyS xs[j] = true:=by
    rcases hS with hS | ⟨aF,aN⟩
    ·have:=M.before j (by omega) f
     rw [A] at this; cases this
    ·rcases Nat.lt_or_gt_of_ne aB with h | h
     ·have:=M.before j h f
      rw [A] at this; cases this
     ·have aC : K < xs.length:=by omega
      rcases (C.pair h L (yb aC) J).2.2.1 aF f with h' | h'
      ·exact ⟨h,h'⟩
      ·have:=hA K h'
       rw [aN] at this; cases this
   have aL:=zsg F c2 (zi5 O.2).1;simp only [Region.wanted,aL,if_true];exact zEO C m U aA M L O.1 f O.2 Z J F E fun g' w' u B' M' => k g' w' u K B' M'
theorem zxc (S : zg3 P Cf) (C : Chk2 P κ nt gops ps xs ms p) (f : ∀ i x,xs[i]? = some x → step Cf (rr i) x = some (rr (i + 1))) (L : (rr 0).rs = []) (m : (rr 0).env.length = κ.length) (I : κ.Nodup) (J : ∀ t ∈ κ,t < nt) (X : ∀ q ∈ ps,zb8 Cf xs (rr 0) q = true)
  (z : ∀ g w a loc,Ext g0 w0 σ0 g w (rr gops.size).st → Rel g w (rr gops.size).st → Fr κ loc nt g w (rr gops.size) a → Q .normal a w) :
  ∀ (fuel : Nat) (c : Array Bool) (K : Nat) (B : Nat → Nat) (g : G) (w : World) (a : Act),c.size = gops.size → (∀ i,p ≤ i → Dof c i = false) → zh9 gops (Dof c) → left (Dof c) (yc gops.size) ≤ fuel → Mid2 P gops xs κ nt p rr g0 w0 σ0 (Dof c) K B g w a → wpAny P .any gops Q fuel c a w
 | fuel,c,K,B,g,w,a,hs,hp,hcl,hf,M0 => by
   obtain ⟨K,g,M,E⟩:=zBU C f m _ K g rfl M0
   by_cases d : ∀ i,i < p → Dof c i = true
   ·have aD : ∀ i,Dof c i = decide (i < p):=fun i => by
     by_cases r : i < p
     ·simp [r,d i r]
     ·simp [r,hp i (by omega)]
    have aB : K = p:=by
     rcases E with E | ⟨_,E⟩
     ·exact E
     ·rcases yF K p with h | h
      ·rw [d K h] at E; cases E
      ·have:=M.kp; omega
    subst aB;have A : ∀ i,i < K → vis xs (Dof c) K i = true:=fun i r => by simp [vis,d i r,r]
    have v:=zrQ (b:=0) (l:=0) C f m I J (yl K) (lo gops xs) (fun i t r ht => ⟨A i r,ht⟩) M
    have aC : zpz rr xs K (Dof c) K = (rr K).env:=by
     obtain ⟨q1,q2⟩:=zhd C.w f K (yl _);refine List.ext_getElem? fun q => ?_
     by_cases hq : q < (rr 0).env.length
     ·have e1:=znF (D:=Dof c) (K:=K) (q:=q) C.w f
      have e2:=q2 q
      have e3 : zel rr xs K (Dof c) K q = zh1 rr xs K (fun k => decide (k < K)) q:=by
       unfold zel zh1
       cases hk : wr xs K q with
       | none => rfl
       | some k =>
         obtain ⟨U,_⟩:=zg8 hk;simp only [A k U];simp [U]
      rw [e3,← e2] at e1;rw [yf,yf] at e1;have l1 : q < (zpz rr xs K (Dof c) K).length:=(by simpa [zpz] using hq);have l2 : q < (rr K).env.length:=(by omega);rw [yb l1,yb l2] at e1 ⊢;simpa using e1
     ·rw [yo (by simp [zpz]; omega),yo (by omega)]
    have Z:=zpe f L K C.w.le;rw [aC,← Z] at v;have F : Fr κ (ziE gops xs K) nt g w (rr K) a:=⟨v.size,v.len,v.env,v.lc,v.lk,v.nd,v.bd,v.df⟩;refine zsT S C.plan f z fuel K c g w a hs (yl _) C.p_le aD ?_ M.ext M.rel F
    have y : ∀ n,n ≤ gops.size → n ≤ K + left (Dof c) (yc n):=fun n => by
     induction n with
     | zero => intro _; omega
     | succ n ih =>
       intro hn;have:=ih (by omega);unfold left at this ⊢;rw [yq,List.filter_append,List.length_append]
       by_cases aE : n < K
       ·omega
       ·have L:=hp n (by omega)
        simp [L];omega
    have:=y gops.size (yl _);omega
   ·have s : ∀ j,j ∈ Region.ready .any gops c → j < p ∧ j < gops.size ∧ Dof c j = false ∧ ∀ i ∈ zaO gops j,Dof c i = true:=fun j hj => by
     obtain ⟨⟨o,V⟩,L,h1⟩:=(zlu hs).1 hj;have e : j < gops.size:=(yk.1 V).1;refine ⟨?_,e,L,h1⟩;rcases yF j p with h | h
     ·exact h
     ·have hx : xs[j]? = some (xs[j]'(by rw [C.len]; exact e)):=yb (by rw [C.len]; exact e)
      have Y:=(C.plan.tail j o _ h V hx).2.2.2;exact absurd (fun i r => zbg hcl (Y i (by omega)) h1) d
    obtain ⟨i0,H⟩:=Classical.not_forall.1 d;obtain ⟨H,O⟩:=Classical.not_imp.1 H;have N : Region.ready .any gops c ≠ []:=zkZ hs C.plan.back i0 (by have:=C.p_le; omega) (by simpa using O)
    cases fuel with
    | zero =>
      have:=zu5 (Nat.le_zero.1 hf) i0 (by have:=C.p_le; simpa using yi H this);exact absurd this O
    | succ fuel =>
      refine ⟨fun hr => absurd hr N,fun j hj => ?_⟩;obtain ⟨aA,e,R,W⟩:=s j hj;have V : gops[j]? = some gops[j]:=yh e
      have key:=zDz (Q:=Q) (next:=wpAny P .any gops Q fuel (c.setIfInBounds j true)) S C f L m I J X hcl W R hp E M aA V (fun g' w' u K' B' M' =>
       zxc S C f L m I J X z fuel _ K' B' g' w' _ (by simpa using hs) (fun i r => by
        rw [zjA hs e]
        unfold zby
        split
        ·omega
        ·exact hp i r) (by rw [zjA hs e]; exact zsl hcl W) (by
        rw [zjA hs e];have:=zwd (Dof c) j R (yc gops.size) (by simpa using e)
        omega) (by
        rw [zjA hs e]
        exact M'))
      unfold wpOp;simp only [V];split
      ·rename_i hw
       rw [if_pos hw] at key;exact .inl key
      ·rename_i hw
       rw [if_neg hw] at key;exact key
termination_by fuel => fuel
theorem zG0 (hm : P.follows .mixedOrders = true) (Cf : zaq) (S : zg3 P Cf) (κ : List Tmp) (nt id : Nat) (gops : Array Go.Oper) (ps : List (Nat × Nat)) (xs : List Oper) (o : zpC P κ nt gops ps xs = true) (r r1 : R) (u : r.rs = []) (b : zvN Cf ps xs r = some r1) : zCV P κ nt id gops r r1:=by
 intro g w a Q M F n;obtain ⟨ms,p,C⟩:=zF0 o;unfold zvN at b;rw [ye] at b;obtain ⟨E,d,b⟩:=b;split at b
 ·rename_i l
  injection b with b;subst b;obtain ⟨rr,k,J,v⟩:=zm8 xs r E d;have x : ∀ q ∈ ps,zb8 Cf xs (rr 0) q = true:=fun q L => by rw [k]; exact yg.1 l q L
  refine wp_region_any hm ?_;obtain ⟨z,G⟩:=drawn M 1
  have c : ∀ i,Dof (yu gops.size false) i = false:=fun i => by
   unfold Dof;rw [Array.getD_eq_getD_getElem?,Array.getElem?_replicate];split <;> rfl
  have f : ∀ K i,vis xs (Dof (yu gops.size false)) K i = false:=fun K i => by simp [vis,c]
  have h : ∀ g' w' s loc,Ext g w r.st g' w' (rr gops.size).st → Rel g' w' (rr gops.size).st → Fr κ loc nt g' w' (rr gops.size) s → Q .normal s w':=fun g' w' s loc H D y => by
   rw [← C.len,J] at H D y;exact n g' w' s loc H D y
  refine zxc (g0:=g) (w0:=w) (σ0:=r.st) (rr:=rr) S C v (by rw [k]; exact u) (by rw [k]; exact F.len) F.nd F.bd x h gops.size (yu gops.size false) 0 (fun _ => 0) g (w.drewN 1) a (by simp) (fun i _ => c i) (fun j B => by rw [c] at B; cases B) ?_ ⟨by rw [k]; exact z,by rw [k]; exact G,F.size,F.df,fun q t I => ?_,fun i t _ A => (by rw [f] at A; cases A),yH _,fun i N => by omega,fun i _ m => (by rw [c] at m; cases m),fun i j _ _ m => (by rw [c] at m; cases m)⟩
  ·unfold left
   exact yD (List.length_filter_le _ _) (by simp)
  ·have e : zel rr xs p (Dof (yu gops.size false)) 0 q = r.env.getD q vun:=by
    unfold zel;split <;> simp [f,c,k]
   rw [e,k];exact z.zh _ _ (F.env q t I)
 ·cases b
end
inductive IK where
 | mk
 | ins (n : Int) (d : Nat) (y : X)
 | quiet
 | ld
 | bad
def zHg : Op → IK
 | .ld _ _ => .ld
 | op => if zbc op == 0 then .quiet else .bad
def zsO : Oper → IK
 | ⟨.loc,.mkm,none⟩ => .mk
 | ⟨.no,.mu (.l d) (.c (.one (.f (.lit (.int .i64 n))))) y,none⟩ => .ins n d y
 | ⟨_,op,_⟩ => zHg op
def zFk (xs : List Oper) (i : Nat) : IK:=match xs[i]? with
 | some x => zsO x
 | none => .bad
def zGj : IK → Bool
 | .mk => true
 | _ => false
def zws (xs : List Oper) (i : Nat) : Option Int:=match zFk xs i with
 | .ins n _ _ => some n
 | _ => none
def zhO (gops : Array Go.Oper) (m0 j : Nat) : IK → Bool
 | .mk => j == m0
 | .ins _ d _ => decide (d < j) && (j - 1 - d == m0) && (zaO gops j).contains m0
 | .quiet => true
 | .ld => true
 | .bad => false
def ztz (ms : List Nat) (xs : List Oper) (i j : Nat) : Bool:=match xs[i]?,xs[j]? with
 | some x,some y => (zhc x y || bit ms j i) && (match writes x,writes y with
   | some q,some q' => q != q'
   | _,_ => true)
 | _,_ => false
def zwn (P : Program) (κ : List Tmp) (nt : Nat) (gops : Array Go.Oper) (xs : List Oper) (ms : List Nat) (m0 j : Nat) : Bool:=match gops[j]?,xs[j]? with
 | some o,some x => okD κ nt o.dst x.dst && zgr κ (zfX gops xs j) gops o.guard x.guard && znN P κ (zfX gops xs j) o x.dst x.op && (yc j).all (fun i => ztz ms xs i j) && zhO gops m0 j (zsO x)
 | _,_ => false
def zqS : List Int → Bool
 | [] => true
 | x :: xs => !xs.contains x && zqS xs
def zxM (P : Program) : List Tmp → Nat → Array Go.Oper → List Oper → Bool:=fun κ nt gops xs =>
 let ms:=znH gops.toList []
 let p:=zpA ms gops.size
 match (yc p).find? (fun i => zGj (zFk xs i)) with
 | none => false
 | some m0 => zjH gops ms && xs.length == gops.size && decide (p ≤ gops.size) && zj9 (zG8 gops xs p) && zqS ((yc p).filterMap (zws xs)) && zGj (zFk xs m0) && decide (m0 < p) && (yc p).all (zwn P κ nt gops xs ms m0) && (yc gops.size).all fun j => decide (j < p) || zjE P κ nt gops xs ms j
structure Chk3 (P : Program) (κ : List Tmp) (nt : Nat) (gops : Array Go.Oper) (xs : List Oper) (ms : List Nat) (m0 p : Nat) : Prop where
 masks : zjH gops ms = true
 len : xs.length = gops.size
 p_le : p ≤ gops.size
 dup : zj9 (zG8 gops xs p) = true
 keys : zqS ((yc p).filterMap (zws xs)) = true
 ismk : zGj (zFk xs m0) = true
 m0p : m0 < p
 pre : ∀ j,j < p → zwn P κ nt gops xs ms m0 j = true
 tail : ∀ j,p ≤ j → j < gops.size → zjE P κ nt gops xs ms j = true
theorem zoW : ∀ {l : List Int},zqS l = true → l.Nodup
 | [],_ => .nil
 | x :: l,h => by
   simp only [zqS,ya,yn] at h;exact yC.2 ⟨by simpa using h.1,zoW h.2⟩
section
variable {P : Program} {κ : List Tmp} {nt : Nat} {gops : Array Go.Oper} {xs : List Oper} {ms : List Nat} {m0 p : Nat} {Cf : zaq} {rr : Nat → R}
theorem zFI (h : zxM P κ nt gops xs = true) : ∃ ms m0 p,Chk3 P κ nt gops xs ms m0 p:=by
 unfold zxM at h;simp only at h;split at h
 ·cases h
 ·simp only [ya,beq_iff_eq,decide_eq_true_eq] at h
  obtain ⟨⟨⟨⟨⟨⟨⟨⟨k,m⟩,e⟩,l⟩,i⟩,c⟩,g⟩,f⟩,d⟩:=h;refine ⟨_,_,_,k,m,e,l,i,c,g,fun j b => yg.1 f j (by simpa using b),fun j b a => ?_⟩;have:=yg.1 d j (by simpa using a);simp only [ym,decide_eq_true_eq] at this;rcases this with h | h
  ·omega
  ·exact h
theorem Chk3.pre_some (C : Chk3 P κ nt gops xs ms m0 p) {j : Nat} (f : j < p) {o : Go.Oper} {x : Oper} (k : gops[j]? = some o) (e : xs[j]? = some x) :
  okD κ nt o.dst x.dst = true ∧ zgr κ (zfX gops xs j) gops o.guard x.guard = true ∧ znN P κ (zfX gops xs j) o x.dst x.op = true ∧ (∀ i,i < j → ztz ms xs i j = true) ∧ zhO gops m0 j (zsO x) = true:=by
 have h:=C.pre j f;unfold zwn at h;rw [k,e] at h;simp only [ya] at h;obtain ⟨⟨⟨⟨l,c⟩,d⟩,g⟩,b⟩:=h;exact ⟨l,c,d,fun i a => yg.1 g i (by simpa using a),b⟩
theorem Chk3.plan (C : Chk3 P κ nt gops xs ms m0 p) : Plan P κ nt gops xs p where
 len:=C.len
 p_le:=C.p_le
 back:=fun j o b i c => by
  have a : j < gops.size:=(yk.1 b).1;exact (zlw C.masks a).2 i (by unfold zaO; rw [b]; exact c)
 pre:=fun j o x a b f => (C.pre_some a b f).1
 apart:=fun i j t c a g e => zlC C.dup yA i (by simpa using c) j (by simpa using a) t g e
 tail:=fun j o x a b f => by
  have d : j < gops.size:=(yk.1 b).1;have h:=C.tail j a d;unfold zjE at h;rw [b,f] at h;simp only [ya] at h;obtain ⟨⟨⟨g,e⟩,k⟩,l⟩:=h;exact ⟨g,e,k,fun i c => zfo C.masks j d (yg.1 l i (by simpa using c))⟩
theorem Chk3.pair (C : Chk3 P κ nt gops xs ms m0 p) {i j : Nat} (b : i < j) (f : j < p) {x y : Oper} (k : xs[i]? = some x) (e : xs[j]? = some y) :
  (zhc x y = true ∨ Reach gops j i) ∧ ∀ q,writes x = some q → writes y ≠ some q:=by
 have a : j < gops.size:=yi f C.p_le;have h:=(C.pre_some f (yh a) e).2.2.2.1 i b;unfold ztz at h;rw [k,e] at h;simp only [ya,ym] at h;obtain ⟨l,d⟩:=h;refine ⟨l.imp id fun h => zfo C.masks j a h,fun q g c => ?_⟩;rw [g,c] at d;simp at d
theorem Chk3.w (C : Chk3 P κ nt gops xs ms m0 p) : ChkW xs p:=⟨by rw [C.len]; exact C.p_le,fun a d _ _ b c => (C.pair a d b c).2⟩
def zG7 (rr : Nat → R) (i : Nat) : IK → Option (Int × V)
 | .ins n _ y => some (n,(rr i).get y)
 | _ => none
def ent (rr : Nat → R) (xs : List Oper) (i : Nat) : Option (Int × V):=zG7 rr i (zFk xs i)
def zs2 (rr : Nat → R) (xs : List Oper) (D : Nat → Bool) (i : Nat) : Option (Int × V):=if D i then ent rr xs i else none
def zX (rr : Nat → R) (xs : List Oper) (p : Nat) (D : Nat → Bool) : List (Int × V):=(yc p).filterMap (zs2 rr xs D)
def zhl (rr : Nat → R) (xs : List Oper) (p m0 : Nat) (D : Nat → Bool) : zd:=if D m0 then (rr 0).st ++ [.mp (zX rr xs p D)] else (rr 0).st
theorem zdQ {α β : Type} {f f' : α → Option β} : ∀ {l : List α},(∀ i ∈ l,f' i = f i) → l.filterMap f' = l.filterMap f
 | [],_ => rfl
 | y :: l,h => by
   simp only [yd,h y (by simp),zdQ fun i a => h i (List.mem_cons_of_mem _ a)]
theorem znp {α β : Type} [DecidableEq α] {f f' : α → Option β} {j : α} {x : β} : ∀ {l : List α},l.Nodup → j ∈ l → (∀ i,i ≠ j → f' i = f i) → f j = none → f' j = some x → (l.filterMap f').Perm (l.filterMap f ++ [x])
 | [],_,h,_,_,_ => by simp at h
 | y :: l,hn,h,h1,h2,h3 => by
   rw [yC] at hn
   by_cases e : y = j
   ·subst e
    have : l.filterMap f' = l.filterMap f:=zdQ fun i b => h1 i (fun e => hn.1 (e ▸ b));simp only [yd,h2,h3,this];exact (List.perm_append_singleton _ _).symm
   ·have a:=znp hn.2 (by simpa [Ne.symm e] using h) h1 h2 h3
    simp only [yd,h1 y e]
    cases f y with
    | none => exact a
    | some z => exact a.cons z
theorem zFP (i : Nat) : (ent rr xs i).map (·.1) = zws xs i:=by
 unfold ent zws;cases zFk xs i <;> rfl
theorem zCC {D : Nat → Bool} : ∀ {l : List Nat},(l.filterMap (zs2 rr xs D)).map (·.1) = (l.filter D).filterMap (zws xs)
 | [] => rfl
 | i :: l => by
   have c:=zCC (D:=D) (l:=l);have a:=zFP (rr:=rr) (xs:=xs) i
   cases b : D i with
   | false =>
     have : zs2 rr xs D i = none:=(by simp [zs2,b]);simp only [yd,yB,this,b,c];simp
   | true =>
     have : zs2 rr xs D i = ent rr xs i:=(by simp [zs2,b]);simp only [yd,yB,this,b,if_true]
     cases he : ent rr xs i with
     | none =>
       rw [he] at a;simp only [Option.map_none] at a;simp only [← a,c]
     | some e =>
       rw [he] at a;simp only [yG] at a;simp only [← a,c,List.map_cons]
theorem zCe {α β : Type} {f : α → Option β} {D : α → Bool} {l : List α} (h : (l.filterMap f).Nodup) : ((l.filter D).filterMap f).Nodup :=
 h.sublist (List.filter_sublist.filterMap f)
theorem zy7 (a : zqS ((yc p).filterMap (zws xs)) = true) (D : Nat → Bool) : ((zX rr xs p D).map (·.1)).Nodup:=by
 unfold zX;rw [zCC];exact zCe (zoW a)
theorem zlf {i : Nat} {x : Oper} (a : xs[i]? = some x) : zFk xs i = zsO x:=by unfold zFk; rw [a]
theorem zxp (k : zqS ((yc p).filterMap (zws xs)) = true) {D : Nat → Bool} {j : Nat} (h : j < p) (g : D j = false) {n : Int} {v : V} (he : ent rr xs j = some (n,v)) :
  zhb n (zX rr xs p D) = none ∧ (zX rr xs p D ++ [(n,v)]).Perm (zX rr xs p (zby D j)):=by
 have c:=znp (f:=zs2 rr xs D) (f':=zs2 rr xs (zby D j)) (x:=(n,v)) yA (List.mem_range.2 h) (fun i d => by simp [zs2,zby,d]) (by simp [zs2,g]) (by simp [zs2,zby,he]);have l:=zy7 (rr:=rr) k (zby D j);refine ⟨zky.2 fun e b heq => ?_,c.symm⟩;have a : ((zX rr xs p D ++ [(n,v)]).map (·.1)).Nodup:=(c.map (·.1)).nodup_iff.1 l;rw [List.map_append,List.nodup_append] at a;exact a.2.2 e.1 (yI.2 ⟨e,b,rfl⟩) n (by simp) heq
theorem zAJ {D : Nat → Bool} {j : Nat} (he : ent rr xs j = none) : zX rr xs p (zby D j) = zX rr xs p D:=by
 refine zdQ fun i _ => ?_
 unfold zs2 zby
 by_cases e : i = j
 ·subst e; simp [he]
 ·simp [e]
theorem zyj {x : Oper} {n : Int} {d : Nat} {y : X} (h : zsO x = .ins n d y) : x = ⟨.no,.mu (.l d) (.c (.one (.f (.lit (.int .i64 n))))) y,none⟩:=by
 unfold zsO at h;split at h
 ·cases h
 ·injection h with h1 h2 h3; subst h1 h2 h3; rfl
 ·unfold zHg at h
  split at h
  ·cases h
  ·split at h <;> cases h
theorem zBD {x : Oper} (h : zsO x = .mk) : x = ⟨.loc,.mkm,none⟩:=by
 unfold zsO at h;split at h
 ·rfl
 ·cases h
 ·unfold zHg at h
  split at h
  ·cases h
  ·split at h <;> cases h
theorem zsp {x : Oper} (h : zsO x = .quiet) : zbc x.op = 0:=by
 unfold zsO at h;split at h
 ·cases h
 ·cases h
 ·unfold zHg at h
  split at h
  ·cases h
  ·split at h
   ·rename_i a; simpa using a
   ·cases h
theorem zCF {x : Oper} (h : zsO x = .ld) : ∃ sz y,x.op = .ld sz y:=by
 unfold zsO at h;split at h
 ·cases h
 ·cases h
 ·unfold zHg at h
  split at h
  ·exact ⟨_,_,rfl⟩
  ·split at h <;> cases h
end
section
variable {P : Program} {κ : List Tmp} {nt : Nat} {gops : Array Go.Oper} {xs : List Oper} {ms : List Nat} {m0 p b l : Nat} {Cf : zaq} {rr : Nat → R}
theorem zx6 {g : G} {w : World} {σ : zd} {id : Nat} {es es' : List (Int × V)} (R : Rel g w σ) (a : σ[id]? = some (.mp es)) (i : es.Perm es') : Ext g w σ g w (σ.set id (.mp es')) ∧ Rel g w (σ.set id (.mp es')):=by
 refine replace R a (fun _ => False) rfl rfl rfl (yl _) (fun b q _ => ⟨rfl,rfl,fun _ h => h⟩) (fun b h => h.elim) (fun _ _ _ h => h) (fun _ _ => rfl) (fun _ _ _ => rfl) R.nb
  (fun d f c m => by simp [shapeOf,a,Ob.shape] at m) (fun l h => ⟨rfl,es',rfl⟩) (fun k n h => by simp [zow,a,Ob.fr] at h) (fun _ _ h => by cases h) (fun H => ?_)
 obtain ⟨o,p,zX,clock,e,j⟩:=R.ob id _ a;exact ⟨o,p,zX,clock,e,zzU i (H.zmq j)⟩
theorem zBe {σ σ' : zd} (g : ∀ (id a sz : Nat) (es : List (List C)),σ[id]? = some (.cells a sz es) → σ'[id]? = some (.cells a sz es)) {sz : Option Nat} {v u : V} (h : ald σ sz v = some u) : ald σ' sz v = some u:=by
 have key : ∀ {id a i : Nat} {el : List C},σ.elem id a i = some el → σ'.elem id a i = some el:=fun {id a i el} he => by
  unfold zd.elem at he ⊢;rw [ye] at he ⊢;obtain ⟨o,b,d⟩:=he
  cases o with
  | cells v' sz' es => exact ⟨_,g id v' sz' es b,d⟩
  | tok _ _ => simp [Ob.elem] at d
  | mp _ => simp [Ob.elem] at d
 unfold ald at h ⊢;split at h
 ·rw [yw] at h ⊢
  obtain ⟨c,b,d⟩:=h;unfold zd.cell at b ⊢;rw [ye] at b;obtain ⟨el,f,e⟩:=b;exact ⟨c,by rw [ye]; exact ⟨el,key f,e⟩,d⟩
 ·exact h
 ·rw [yw] at h ⊢
  obtain ⟨c,b,d⟩:=h;rw [ye] at b;obtain ⟨el,f,e⟩:=b;exact ⟨c,by rw [ye]; exact ⟨el,key f,e⟩,d⟩
 ·exact h
 ·cases h
theorem zFG {x : Oper} {sz : Option Nat} {y : X} (a : x.op = .ld sz y) {r r' r1 : R} (e : ∀ z ∈ zfa x,r'.get z = r.get z) (i : ∀ (id b sz : Nat) (es : List (List C)),r.st[id]? = some (.cells b sz es) → r'.st[id]? = some (.cells b sz es)) (h : step Cf r x = some r1) :
  ∃ v,r1 = r.put x.dst v ∧ step Cf r' x = some (r'.put x.dst v):=by
 obtain ⟨d,op,g⟩:=x;simp only at a;subst a
 have one : zbx Cf r d (.ld sz y) = some r1 → ∃ v,r1 = r.put d v ∧ zbx Cf r' d (.ld sz y) = some (r'.put d v):=fun h => by
  simp only [zbx] at h ⊢;obtain ⟨v,j,k⟩:=zsx h;have f : r'.get y = r.get y:=e y (by simp [zfa,opX]);exact ⟨v,k,by rw [f,zBe i j]; rfl⟩
 cases g with
 | none => exact one h
 | some q =>
   obtain ⟨z,bb⟩:=q;simp only [step] at h ⊢;rw [e z (by simp [zfa])];unfold zpa at h ⊢;split at h
   ·split at h
    ·rename_i c
     rw [if_pos c];exact one h
    ·rename_i c
     rw [if_neg c];injection h with h;exact ⟨.tup [],h.symm,rfl⟩
   ·injection h with h
    exact ⟨.tup [],h.symm,rfl⟩
   ·cases h
theorem Chk3.kind (C : Chk3 P κ nt gops xs ms m0 p) {j : Nat} (a : j < p) {x : Oper} (b : xs[j]? = some x) : zhO gops m0 j (zsO x) = true :=
 (C.pre_some a (yh (yi a C.p_le)) b).2.2.2.2
theorem zI8 (C : Chk3 P κ nt gops xs ms m0 p) (r : ∀ i x,xs[i]? = some x → step Cf (rr i) x = some (rr (i + 1))) (V : (rr 0).rs = []) : ∀ j,j ≤ p →
  (rr j).st = (if m0 < j then (rr 0).st ++ [.mp ((yc j).filterMap (ent rr xs))] else (rr 0).st) ∧ (m0 < j → zbq rr m0 = .one (.map (rr 0).st.length))
 | 0,_ => ⟨by simp,fun h => by omega⟩
 | j + 1,hj => by
   obtain ⟨m,B⟩:=zI8 C r V j (by omega);have O : j < xs.length:=(by have:=C.w.le; omega);have G : xs[j]? = some xs[j]:=yb O;have s:=C.kind (by omega) G;have a:=r j _ G
   have quiet : ent rr xs j = none → j ≠ m0 → (rr (j + 1)).st = (rr j).st → (rr (j + 1)).st = (if m0 < j + 1 then (rr 0).st ++ [.mp ((yc (j + 1)).filterMap (ent rr xs))] else (rr 0).st) ∧ (m0 < j + 1 → zbq rr m0 = .one (.map (rr 0).st.length)):=fun he W S => by
    refine ⟨?_,fun h => B (by omega)⟩;rw [S,m,yq,yj];simp only [yd,yt,he,yx]
    by_cases h : m0 < j
    ·rw [if_pos h,if_pos (by omega)]
    ·rw [if_neg h,if_neg (by omega)]
   have b : ent rr xs j = zG7 rr j (zsO xs[j]):=by unfold ent; rw [zlf G]
   cases g : zsO xs[j] with
   | bad => rw [g] at s; simp [zhO] at s
   | quiet =>
     rw [g] at b;refine quiet b (fun e => ?_) ?_
     ·subst e
      have:=C.ismk;rw [zlf G,g] at this;simp [zGj] at this
     ·obtain ⟨v,σ1,L,o⟩:=zm0 r G
      have Z:=zsp g;rw [L,zfw];rcases o with o | o
      ·exact o
      ·exact o.1 (by omega)
   | ld =>
     rw [g] at b;refine quiet b (fun e => ?_) ?_
     ·subst e
      have:=C.ismk;rw [zlf G,g] at this;simp [zGj] at this
     ·obtain ⟨sz,y,U⟩:=zCF g
      obtain ⟨v,σ1,L,o⟩:=zm0 r G;rw [L,zfw];rcases o with o | o
      ·exact o
      ·exact o.1 (by rw [U]; simp [zbc])
   | mk =>
     rw [g] at s b;simp only [zhO,beq_iff_eq] at s;subst s;have E:=zBD g;rw [E] at a;simp only [step,zbx,Option.some.injEq] at a
     have u : (yc j).filterMap (ent rr xs) = []:=by
      rw [yr];intro i J;have X : i < j:=(by simpa using J);have I : xs[i]? = some (xs[i]'(by omega)):=yb (by omega);have K:=C.kind (by omega) I;unfold ent;rw [zlf I]
      cases N : zsO (xs[i]'(by omega)) with
      | ins n d y =>
        rw [N] at K;simp only [zhO,ya,decide_eq_true_eq,beq_iff_eq] at K;omega
      | _ => rfl
     refine ⟨?_,fun _ => ?_⟩
     ·rw [← a,yq,yj,u]
      simp only [yd,yt,b,zG7,yx,if_pos (Nat.lt_succ_self j)];rw [if_neg (by omega)] at m;simp only [R.put,R.alloc,m]
     ·rw [if_neg (by omega)] at m
      unfold zbq;rw [← a];simp [R.put,R.alloc,m]
   | ins n d y =>
     rw [g] at s b;simp only [zhO,ya,decide_eq_true_eq,beq_iff_eq] at s;obtain ⟨⟨hd,hm⟩,_⟩:=s;have z : m0 < j:=(by omega);rw [if_pos z] at m;have E:=zyj g;rw [E] at a;have M:=zpe r V j (by omega)
     have H : (rr j).get (.l d) = .one (.map (rr 0).st.length):=by
      show (rr j).rs.getD d vun = _
      rw [M,yf,zkq (zbq rr) hd,hm];exact B z
     have t:=(zxp (rr:=rr) C.keys (D:=fun i => decide (i < j)) (n:=n) (v:=(rr j).get y) (by omega : j < p) (by simp) (by rw [b]; rfl)).1
     have A : zX rr xs p (fun i => decide (i < j)) = (yc j).filterMap (ent rr xs):=by
      unfold zX;obtain ⟨q,Y⟩ : ∃ q,p = j + q:=⟨p - j,by omega⟩;rw [Y,List.range_add,yj]
      have L : (yc j).filterMap (zs2 rr xs fun i => decide (i < j)) = (yc j).filterMap (ent rr xs):=zdQ fun i J => by
       have : i < j:=(by simpa using J);simp [zs2,this]
      have o : ((yc q).map (j + ·)).filterMap (zs2 rr xs fun i => decide (i < j)) = []:=by
       rw [yr];intro i J;obtain ⟨k,_,rfl⟩:=yI.1 J;have : ¬ j + k < j:=(by omega);simp [zs2,this]
      rw [L,o,yx]
     rw [A] at t;simp only [step,zbx,H] at a;have Q : (rr j).get (.c (.one (.f (.lit (.int .i64 n))))) = .one (.f (.lit (.int .i64 n))):=rfl;rw [Q] at a;simp only [amu,m,List.getElem?_concat_length,yy,Ob.entries,yG,Option.some.injEq] at a;refine ⟨?_,fun _ => B z⟩;rw [← a,if_pos (by omega),yq,yj];simp only [yd,yt,b,zG7,R.put,zH3,R.setOb,m,zbt t];simp
end
end Go.A
