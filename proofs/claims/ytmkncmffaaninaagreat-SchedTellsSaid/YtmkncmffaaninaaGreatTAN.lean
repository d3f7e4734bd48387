/- A part of the proof of SchedTells. Conditions: none. -/
import Derived.Test.YtmkncmffaaninaaGreatTAM
set_option linter.all false
open Bool renaming and_eq_true → ya,or_eq_true → ym,not_eq_true' → yn,and_eq_false_iff → yv,not_eq_false' → yz
open List renaming getElem?_eq_getElem → yb,range → yc,filterMap_cons → yd,getD_eq_getElem?_getD → yf,all_eq_true → yg,filterMap_append → yj,getElem?_eq_none → yo,getElem?_append_left → yp,range_succ → yq,filterMap_eq_nil_iff → yr,filterMap_nil → yt,append_nil → yx,nodup_range → yA,filter_cons → yB,nodup_cons → yC,mem_map → yI
open Option renaming bind_eq_some_iff → ye,map_eq_some_iff → yw,bind_some → yy,map_some → yG
open Array renaming getElem?_eq_getElem → yh,getElem?_eq_some_iff → yk,replicate → yu
open Nat renaming lt_of_lt_of_le → yi,le_refl → yl,le_trans → yD,le_of_lt → yE,lt_or_ge → yF,zero_le → yH
namespace Go.A
theorem Value.beq_eq {a b : Value} (h : Value.beq a b = true) : a = b:=by
 unfold Value.beq at h;split at h
 ·simp only [ya,decide_eq_true_eq] at h
  rw [h.1,h.2]
 ·simp only [beq_iff_eq] at h
  rw [h]
 ·rename_i a b
  simp only [decide_eq_true_eq] at h
  have : a = b:=by
   cases a;cases b;simp only [ByteArray.mk.injEq];exact Array.toList_inj.1 h
  rw [this]
 ·cases h
mutual
theorem Fz.beq_eq : ∀ {a b : Fz},a.beq b = true → a = b
 | .lit v,.lit u,h => by
   simp only [Fz.beq] at h;rw [Value.beq_eq h]
 | .sl xs,.sl ys,h => by
   simp only [Fz.beq] at h;rw [Fz.beqs_eq h]
 | .lit _,.sl _,h => by simp [Fz.beq] at h
 | .sl _,.lit _,h => by simp [Fz.beq] at h
theorem Fz.beqR_eq : ∀ {a b : List Fz},Fz.beqR a b = true → a = b
 | [],[],_ => rfl
 | x :: xs,y :: ys,h => by
   simp only [Fz.beqR,ya] at h;rw [Fz.beq_eq h.1,Fz.beqR_eq h.2]
 | [],_ :: _,h => by simp [Fz.beqR] at h
 | _ :: _,[],h => by simp [Fz.beqR] at h
theorem Fz.beqs_eq : ∀ {a b : List (List Fz)},Fz.beqs a b = true → a = b
 | [],[],_ => rfl
 | x :: xs,y :: ys,h => by
   simp only [Fz.beqs,ya] at h;rw [Fz.beqR_eq h.1,Fz.beqs_eq h.2]
 | [],_ :: _,h => by simp [Fz.beqs] at h
 | _ :: _,[],h => by simp [Fz.beqs] at h
end
theorem C.beq_eq {a b : C} (h : a.beq b = true) : a = b:=by
 unfold C.beq at h;split at h
 ·rw [Fz.beq_eq h]
 ·simp only [ya,decide_eq_true_eq] at h
  obtain ⟨⟨e,c⟩,d⟩:=h;rw [e,c,Fz.beqs_eq d]
 ·simp only [ya,decide_eq_true_eq] at h
  obtain ⟨⟨⟨e,c⟩,d⟩,f⟩:=h;rw [e,c,d,f]
 ·simp only [ya,decide_eq_true_eq] at h
  rw [Fz.beqR_eq h.1,h.2]
 ·simp only [ya,decide_eq_true_eq] at h
  obtain ⟨⟨⟨e,c⟩,d⟩,f⟩:=h;rw [e,c,d,f]
 ·simp only [decide_eq_true_eq] at h
  rw [h]
 ·cases h
theorem C.beqs_eq : ∀ {a b : List C},C.beqs a b = true → a = b
 | [],[],_ => rfl
 | x :: xs,y :: ys,h => by
   simp only [C.beqs,ya] at h;rw [C.beq_eq h.1,C.beqs_eq h.2]
 | [],_ :: _,h => by simp [C.beqs] at h
 | _ :: _,[],h => by simp [C.beqs] at h
theorem V.beq_eq {a b : V} (h : a.beq b = true) : a = b:=by
 unfold V.beq at h;split at h
 ·rw [C.beq_eq h]
 ·rw [C.beqs_eq h]
 ·cases h
section
variable {P : Program} {κ : List Tmp} {nt : Nat} {gops : Array Go.Oper} {ps : List (Nat × Nat)} {xs : List Oper} {ms : List Nat} {p b l : Nat} {Cf : zai} {rr : Nat → R} {g0 : G} {w0 : World} {σ0 : zd}
theorem zoF (c : ∀ i x,xs[i]? = some x → step Cf (rr i) x = some (rr (i + 1))) : ∀ n,n ≤ xs.length → steps Cf (xs.take n) (rr 0) = some (rr n)
 | 0,_ => rfl
 | n + 1,h => by
   have d : xs[n]? = some xs[n]:=yb (by omega);rw [List.take_add_one,d];simp only [Option.toList_some];have e:=zoF c n (by omega)
   have app : ∀ (a b : List Oper) (r : R),steps Cf (a ++ b) r = (steps Cf a r).bind (steps Cf b):=by
    intro a
    induction a with
    | nil => intro b r; rfl
    | cons x a iha =>
      intro b r;simp only [List.cons_append,steps]
      cases f : step Cf r x with
      | none => rfl
      | some r1 => simp only [yy]; exact iha b r1
   rw [app,e];simp only [yy,steps,c n _ d]
theorem zuy (c : zai) : LeC zxI c:=fun _ _ _ r h => by cases h
theorem zFR {ops : List Oper} {r : R} {j k : Nat} (b : ∀ i x,ops[i]? = some x → step Cf (rr i) x = some (rr (i + 1))) (E : rr 0 = r) (B : k ≤ ops.length) (h : zdH Cf ops r (j,k) = true) {x : Oper} (p : ops[j]? = some x) (u : za5 x.op ≤ 2) (g : zyp x.dst = true) (t : zH5 x.op = true) :
  ∃ v,rr (j + 1) = (rr j).put x.dst v ∧ ∃ q,step Cf ((rr j).at (rr k).st) x = some q ∧ q = ((rr j).at (rr k).st).put x.dst v:=by
 unfold zdH at h;subst E;have G:=zb p;simp only [zoF b j (by omega),zoF b k B,p] at h
 have hd : x.dst = .loc:=by
  cases l : x.dst with
  | loc => rfl
  | no => rw [l] at g; simp [zyp] at g
  | slot q => rw [l] at g; simp [zyp] at g
 have quiet : ∀ (r q : R),step Cf r x = some q → ∃ v,q = r.put x.dst v:=fun r q l => by
  obtain ⟨n,t⟩:=exX r.get (zfu x);obtain ⟨v,w,_⟩:=zgF (r':=r) (n:=n) u (fun _ _ => rfl) (t n (yl _)) (fun _ => ⟨fun id C sz o _ m D => ⟨o,m,D⟩⟩) (fun _ => ⟨fun id o _ m => m⟩) l;exact ⟨v,w⟩
 unfold zwb at h;split at h
 ·rename_i y H z A
  have d:=znP (zuy Cf) _ _ _ z;have a:=znP (zuy Cf) _ _ _ A;have f:=b j x p;rw [f] at a;injection a with a;obtain ⟨v,s⟩:=quiet _ _ d;obtain ⟨v',c⟩:=quiet _ _ f;have e:=V.beq_eq h;rw [s,← a,c,hd] at e;have e2 : v = v':=by simpa [R.put] using e
  subst e2;exact ⟨v,c,y,d,s⟩
 ·cases h
theorem zy2 (S : zh3 P Cf) (C : Chk2 P κ nt gops ps xs ms p) (b : ∀ i x,xs[i]? = some x → step Cf (rr i) x = some (rr (i + 1))) (O : ∀ q ∈ ps,zdH Cf xs (rr 0) q = true) {D : Nat → Bool} {K j : Nat} {B : Nat → Nat} {g : G} {w : World} {a : Act} {x : Oper}
  (t : zh8 gops D) (hE : ∀ i ∈ zaF gops j,D i = true) (N : D j = false) (s : zzT xs p D K) (M : Mid2 P gops xs κ nt p rr g0 w0 σ0 D K B g w a) (hj : j < p) (H : xs[j]? = some x) (I : za5 x.op ≤ 2) {r' : R} (k : r'.st = (rr K).st)
  (f : ∀ y ∈ zfu x,r'.get y = (rr j).get y) (E : ∀ y ∈ zfu x,((rr j).get y).lt (rr K).st.length = true) :
  ∃ v,rr (j + 1) = (rr j).put x.dst v ∧ step Cf r' x = some (r'.put x.dst v):=by
 have J : j < gops.size:=yi hj C.p_le;have hA : ∀ i,Reach gops j i → D i = true:=fun i h => za7 t h hE
 have hB : ∀ i,Reach gops i j → D i = false:=fun i h => by
  cases hi : D i with
  | false => rfl
  | true =>
    have:=za7 t h (t i hi);rw [N] at this;cases this
 have c:=(C.pre_some hj (yh J) H).2.2.2.2.2;unfold zwn at c;simp only [ym,beq_iff_eq,decide_eq_true_eq] at c;have V : K ≤ xs.length:=yD M.kp C.w.le;rcases c with (h | h) | h
 ·exact zgF (r':=r') (n:=(rr K).st.length) I f E (fun e => by omega) (fun e => by omega) (b j x H)
 ·omega
 ·have:=yg.1 h K (by have:=M.kp; simp; omega)
  simp only [ym,yn,Bool.or_eq_false_iff,ya] at this;rcases this with ((h | h) | h) | ⟨⟨u,l⟩,h3⟩
  ·
   rcases s with s | ⟨s,_⟩
   ·simp [s] at h
   ·rw [s] at h; simp at h
  ·
   exfalso;unfold zGY at h;simp only [yv,yz,ya,decide_eq_true_eq] at h;rcases h with ⟨u,l⟩ | h
   ·have:=hA K (zfF C.masks j J l)
    rcases s with s | ⟨_,s⟩
    ·omega
    ·rw [s] at this; cases this
   ·rw [List.all_eq_false] at h
    obtain ⟨e,he,h⟩:=h;simp only [yn,Bool.not_eq_false,ya,Bool.not_eq_true,yz] at h;have Z : e < K:=(by simpa using he);have X : e < gops.size:=(by have:=M.kp; have:=C.p_le; omega);have:=hB e (zfF C.masks e X h.2);rw [M.before e Z h.1] at this;cases this
  ·
   have d : ∀ i,min j K ≤ i → i < max j K → cls xs i ≤ 2 ∨ cls xs i = 4 ∨ (za5 x.op = 1 ∧ cls xs i ≤ 4):=fun i u l => by
    have:=yg.1 h i (by have:=M.kp; simp; omega);simp only [ym,yn,ya,decide_eq_true_eq,beq_iff_eq,yv,decide_eq_false_iff_not] at this;rcases this with ((h | h) | h) | h
    ·unfold eff at h
     simp only [decide_eq_false_iff_not] at h;exact .inl (by omega)
    ·omega
    ·exact .inr (.inl h)
    ·exact .inr (.inr h)
   rcases Nat.le_total K j with W | W
   ·obtain ⟨n,z⟩ : ∃ n,j = K + n:=⟨j - K,by omega⟩
    have aA:=zb H;refine zgF (r':=r') (n:=(rr K).st.length) I f E (fun Q => ?_) (fun U => ?_) (b j x H)
    ·rw [k,z]
     exact (zne b n (by omega) fun i u l => by
      rcases d i (by omega) (by omega) with h | h | h
      ·omega
      ·omega
      ·exact h.2).2.2 _ (yl _)
    ·obtain ⟨os,A⟩:=znz b (a:=K) n (by omega) fun i u l => by
      rcases d i (by omega) (by omega) with h | h | h
      ·exact .inl h
      ·exact .inr h
      ·omega
     rw [k,z,A];exact ⟨fun id o L m => by rw [yp L] at m; exact m⟩
   ·obtain ⟨n,z⟩ : ∃ n,K = j + n:=⟨K - j,by omega⟩
    refine zgF (r':=r') (n:=(rr K).st.length) I f E (fun Q => ?_) (fun U => ?_) (b j x H)
    ·rw [k,z]
     exact (zne b n (by omega) fun i u l => by
      rcases d i (by omega) (by omega) with h | h | h
      ·omega
      ·omega
      ·exact h.2).2.1 _
    ·obtain ⟨os,A⟩:=znz b (a:=j) n (by omega) fun i u l => by
      rcases d i (by omega) (by omega) with h | h | h
      ·exact .inl h
      ·exact .inr h
      ·omega
     rw [k,z,A];exact ⟨fun id o _ m => by rw [yp (zb m)]; exact m⟩
  ·
   obtain ⟨v,q1,q,q2,q3⟩:=zFR b rfl V (O (j,K) (by simpa using u)) H I l h3;refine ⟨v,q1,?_⟩;rw [q3] at q2;obtain ⟨n,z⟩:=exX ((rr j).at (rr K).st).get (zfu x);have Y : ∀ y,((rr j).at (rr K).st).get y = (rr j).get y:=fun y => by cases y <;> rfl
   obtain ⟨v',e1,e2⟩:=zgF (r':=r') (n:=n) I (fun y hy => by rw [Y]; exact f y hy) (z n (yl _)) (fun _ => by rw [k]; exact ⟨fun id aB sz o _ m hr => ⟨o,m,hr⟩⟩) (fun _ => by rw [k]; exact ⟨fun id o _ m => m⟩) q2
   have hd : x.dst = .loc:=by
    cases hq : x.dst with
    | loc => rfl
    | no => rw [hq] at l; simp [zyp] at l
    | slot q => rw [hq] at l; simp [zyp] at l
   rw [hd] at e1;have : v = v':=(by simpa [R.put] using congrArg (fun r => r.rs.headD vun) e1);subst this;exact e2
end
end Go.A
namespace Go.A
section
variable {P : Program} {κ : List Tmp} {nt : Nat} {gops : Array Go.Oper} {ps : List (Nat × Nat)} {xs : List Oper} {ms : List Nat} {p b l : Nat} {Cf : zai} {rr : Nat → R} {g0 : G} {w0 : World} {σ0 : zd} {Q : Exit → Act → World → Prop}
theorem zCG (S : zh3 P Cf) (C : Chk2 P κ nt gops ps xs ms p) (m : ∀ i x,xs[i]? = some x → step Cf (rr i) x = some (rr (i + 1))) (h0 : (rr 0).rs = []) (N : (rr 0).env.length = κ.length) (U : κ.Nodup) (aA : ∀ t ∈ κ,t < nt) (aC : ∀ q ∈ ps,zdH Cf xs (rr 0) q = true)
  {D : Nat → Bool} {K j : Nat} {B : Nat → Nat} {g : G} {w : World} {a : Act} {o : Go.Oper} {next : Act → World → Prop}
  (J : zh8 gops D) (hE : ∀ i ∈ zaF gops j,D i = true) (A : D j = false) (aO : ∀ i,p ≤ i → D i = false) (hS : zzT xs p D K) (M : Mid2 P gops xs κ nt p rr g0 w0 σ0 D K B g w a) (L : j < p) (ho : gops[j]? = some o)
  (k : ∀ g' w' u K' B',Mid2 P gops xs κ nt p rr g0 w0 σ0 (zbn D j) K' B' g' w' (a.put o.dst u) → next (a.put o.dst u) w') :
  if Region.wanted o (yielded gops a.tmps) then o.wp P a w next Q else next (a.put o.dst undef) w:=by
 have aF : j < gops.size:=yi L C.p_le;have aN : j < xs.length:=by rw [C.len]; exact aF
 have I : xs[j]? = some xs[j]:=yb aN;obtain ⟨c1,c2,c3,c4,_⟩:=C.pre_some L ho I;have hA : ∀ i,Reach gops j i → D i = true:=fun i h => za7 J h hE
 have hB : ∀ i,Reach gops i j → D i = false:=fun i h => by
  cases W : D i with
  | false => rfl
  | true =>
    have:=za7 J h (J i W);rw [A] at this;cases this
 have aD : ∀ i ∈ zaF gops j,i < j:=fun i W => by
  unfold zaF at W;rw [ho] at W;exact C.plan.back j o ho i W
 have F:=zrJ (b:=0) (l:=0) C m N U aA (yE L) (zzF gops xs j) (fun i t W Z => by
  unfold zzF at Z;split at Z
  ·rename_i hc
   have aK : i < xs.length:=(by omega);refine ⟨zEi C J hE hS W L (yb aK) I (hE i (by simpa using hc)) fun _ => by unfold zuj; rw [hc]; rfl,Z⟩
  ·cases Z) M
 have aJ:=zoM m h0 j (by omega);obtain ⟨_,aE⟩:=zhb C.w m j (yE L)
 have E : ∀ y ∈ zfu xs[j],(⟨(yc j).reverse.map (zbh rr),zpG rr xs p D K,(rr K).st,0,0⟩ : R).get y = (rr j).get y:=fun y hy => by
  cases y with
  | l d => show ((yc j).reverse.map (zbh rr)).getD d vun = (rr j).rs.getD d vun; rw [aJ]
  | c v => rfl
  | s q =>
    show (zpG rr xs p D K).getD q vun = (rr j).env.getD q vun
    rw [znb C.w m,aE];unfold zep zh1
    cases W : wr xs p q with
    | none => rfl
    | some i =>
      simp only;obtain ⟨aI,x',X,hw⟩:=zhc W
      have n : zgh q xs[j] = true:=by
       unfold zgh;rw [List.any_eq_true];exact ⟨_,hy,by simp⟩
      rcases Nat.lt_trichotomy i j with z | rfl | z
      ·have hD : D i = true:=by
        rcases (C.pair z L X I).1 with h | h
        ·exfalso
         unfold zhf at h;rw [hw] at h;simp [n] at h
        ·exact hA i h
       have hv:=zEi C J hE hS z L X I hD fun _ => by
        unfold zuj;rw [X];simp [hw,n]
       rw [hv];simp [z]
      ·simp [vis,A]
      ·have hD : D i = false:=by
        rcases (C.pair z aI I X).1 with h | h
        ·exfalso
         unfold zhf at h;rw [hw] at h;simp [n] at h
        ·exact hB i h
       have : ¬ i < j:=(by omega);simp [vis,hD,this]
 have z : ∀ y ∈ zfu xs[j],((rr j).get y).lt (rr K).st.length = true:=fun y hy => by
  rw [← E y hy];have hu:=c4 y hy
  cases y with
  | l d =>
    simp only [zyP] at hu;split at hu
    ·rename_i t Z
     exact zqe _ _ (F.lc d t Z hu)
    ·cases hu
  | s q =>
    by_cases hq : q < κ.length
    ·exact zqe _ _ (F.env q _ (yb hq))
    ·have hl:=F.len
     have : (⟨(yc j).reverse.map (zbh rr),zpG rr xs p D K,(rr K).st,0,0⟩ : R).get (.s q) = vun:=by
      show (zpG rr xs p D K).getD q vun = vun
      rw [yf,yo (by simp only at hl; omega)];rfl
     rw [this];rfl
  | c v => exact V.lt_mono (yH _) v hu
 by_cases hc : za5 xs[j].op ≤ 2
 ·have f : eff xs j = false:=by unfold eff; rw [ziq I]; simp; omega
  obtain ⟨v,h1,h2⟩:=zy2 (r':=⟨(yc j).reverse.map (zbh rr),zpG rr xs p D K,(rr K).st,0,0⟩) S C m aC J hE A hS M L I hc rfl E z;refine zfb (r:=⟨(yc j).reverse.map (zbh rr),zpG rr xs p D K,(rr K).st,0,0⟩) S M.rel F c1 c2 c3 h2 (fun g' w' u H R1 _ F1 => ?_) (fun _ h => h);rw [zfH] at H R1;exact k g' w' u K B (zuc (b:=0) (l:=0) (σ1:=(rr j).st) C m N U M (.inl ⟨rfl,f⟩) L A ho I h1 H R1 F1)
 ·have f : eff xs j = true:=by unfold eff; rw [ziq I]; simp; omega
  by_cases aB : j = K
  ·subst aB
   obtain ⟨v,σ1,h1,h2,_⟩:=zta (r':=⟨(yc j).reverse.map (zbh rr),zpG rr xs p D j,(rr j).st,0,0⟩) E rfl (m j _ I);have Y : (rr (j + 1)).st = σ1:=(by rw [h1,zfH]; rfl);refine zfb (r:=⟨(yc j).reverse.map (zbh rr),zpG rr xs p D j,(rr j).st,0,0⟩) S M.rel F c1 c2 c3 h2 (fun g' w' u H R1 _ F1 => ?_) (fun _ h => h);rw [zfH] at H R1;have H' : Ext g w (rr j).st g' w' (rr (j + 1)).st:=(by rw [Y]; exact H);have R' : Rel g' w' (rr (j + 1)).st:=(by rw [Y]; exact R1);refine k g' w' u (j + 1) B (zuc (b:=0) (l:=0) (σ1:=σ1) C m N U M (.inr ⟨rfl,rfl⟩) L A ho I h1 H' R' ?_);have e : (⟨(yc j).reverse.map (zbh rr),zpG rr xs p D j,(rr (j + 1)).st,0,0⟩ : R) = (⟨(yc j).reverse.map (zbh rr),zpG rr xs p D j,(rr j).st,0,0⟩ : R).at σ1:=(by rw [Y]; rfl);rw [e];exact F1
  ·have O : K < j ∧ zyg xs[j] = true:=by
    rcases hS with hS | ⟨aG,aM⟩
    ·have:=M.before j (by omega) f
     rw [A] at this; cases this
    ·rcases Nat.lt_or_gt_of_ne aB with h | h
     ·have:=M.before j h f
      rw [A] at this; cases this
     ·have aL : K < xs.length:=by omega
      rcases (C.pair h L (yb aL) I).2.2.1 aG f with h' | h'
      ·exact ⟨h,h'⟩
      ·have:=hA K h'
       rw [aM] at this; cases this
   have aH:=zsj F c2 (ziU O.2).1;simp only [Region.wanted,aH,if_true];exact zDB C m U aA M L O.1 f O.2 ho I F E fun g' w' u B' M' => k g' w' u K B' M'
theorem zxb (S : zh3 P Cf) (C : Chk2 P κ nt gops ps xs ms p) (f : ∀ i x,xs[i]? = some x → step Cf (rr i) x = some (rr (i + 1))) (J : (rr 0).rs = []) (m : (rr 0).env.length = κ.length) (L : κ.Nodup) (H : ∀ t ∈ κ,t < nt) (O : ∀ q ∈ ps,zdH Cf xs (rr 0) q = true)
  (A : ∀ g w a loc,Ext g0 w0 σ0 g w (rr gops.size).st → Rel g w (rr gops.size).st → Fr κ loc nt g w (rr gops.size) a → Q .normal a w) :
  ∀ (fuel : Nat) (c : Array Bool) (K : Nat) (B : Nat → Nat) (g : G) (w : World) (a : Act),c.size = gops.size → (∀ i,p ≤ i → Dof c i = false) → zh8 gops (Dof c) → left (Dof c) (yc gops.size) ≤ fuel → Mid2 P gops xs κ nt p rr g0 w0 σ0 (Dof c) K B g w a → wpAny P .any gops Q fuel c a w
 | fuel,c,K,B,g,w,a,hs,hp,hcl,hf,M0 => by
   obtain ⟨K,g,M,I⟩:=zBW C f m _ K g rfl M0
   by_cases d : ∀ i,i < p → Dof c i = true
   ·have aA : ∀ i,Dof c i = decide (i < p):=fun i => by
     by_cases r : i < p
     ·simp [r,d i r]
     ·simp [r,hp i (by omega)]
    have aD : K = p:=by
     rcases I with I | ⟨_,I⟩
     ·exact I
     ·rcases yF K p with h | h
      ·rw [d K h] at I; cases I
      ·have:=M.kp; omega
    subst aD;have z : ∀ i,i < K → vis xs (Dof c) K i = true:=fun i r => by simp [vis,d i r,r]
    have s:=zrJ (b:=0) (l:=0) C f m L H (yl K) (lo gops xs) (fun i t r ht => ⟨z i r,ht⟩) M
    have aC : zpG rr xs K (Dof c) K = (rr K).env:=by
     obtain ⟨q1,q2⟩:=zhb C.w f K (yl _);refine List.ext_getElem? fun q => ?_
     by_cases hq : q < (rr 0).env.length
     ·have e1:=znb (D:=Dof c) (K:=K) (q:=q) C.w f
      have e2:=q2 q
      have e3 : zep rr xs K (Dof c) K q = zh1 rr xs K (fun k => decide (k < K)) q:=by
       unfold zep zh1
       cases hk : wr xs K q with
       | none => rfl
       | some k =>
         obtain ⟨W,_⟩:=zhc hk;simp only [z k W];simp [W]
      rw [e3,← e2] at e1;rw [yf,yf] at e1;have l1 : q < (zpG rr xs K (Dof c) K).length:=(by simpa [zpG] using hq);have l2 : q < (rr K).env.length:=(by omega);rw [yb l1,yb l2] at e1 ⊢;simpa using e1
     ·rw [yo (by simp [zpG]; omega),yo (by omega)]
    have Z:=zoM f J K C.w.le;rw [aC,← Z] at s;have F : Fr κ (ziy gops xs K) nt g w (rr K) a:=⟨s.size,s.len,s.env,s.lc,s.lk,s.nd,s.bd,s.df⟩;refine ztB S C.plan f A fuel K c g w a hs (yl _) C.p_le aA ?_ M.ext M.rel F
    have y : ∀ n,n ≤ gops.size → n ≤ K + left (Dof c) (yc n):=fun n => by
     induction n with
     | zero => intro _; omega
     | succ n ih =>
       intro hn;have:=ih (by omega);unfold left at this ⊢;rw [yq,List.filter_append,List.length_append]
       by_cases aE : n < K
       ·omega
       ·have J:=hp n (by omega)
        simp [J];omega
    have:=y gops.size (yl _);omega
   ·have v : ∀ j,j ∈ Region.ready .any gops c → j < p ∧ j < gops.size ∧ Dof c j = false ∧ ∀ i ∈ zaF gops j,Dof c i = true:=fun j hj => by
     obtain ⟨⟨o,N⟩,J,h1⟩:=(zld hs).1 hj;have e : j < gops.size:=(yk.1 N).1;refine ⟨?_,e,J,h1⟩;rcases yF j p with h | h
     ·exact h
     ·have hx : xs[j]? = some (xs[j]'(by rw [C.len]; exact e)):=yb (by rw [C.len]; exact e)
      have R:=(C.plan.tail j o _ h N hx).2.2.2;exact absurd (fun i r => za7 hcl (R i (by omega)) h1) d
    obtain ⟨i0,E⟩:=Classical.not_forall.1 d;obtain ⟨E,V⟩:=Classical.not_imp.1 E;have Y : Region.ready .any gops c ≠ []:=zkL hs C.plan.back i0 (by have:=C.p_le; omega) (by simpa using V)
    cases fuel with
    | zero =>
      have:=zuq (Nat.le_zero.1 hf) i0 (by have:=C.p_le; simpa using yi E this);exact absurd this V
    | succ fuel =>
      refine ⟨fun hr => absurd hr Y,fun j hj => ?_⟩;obtain ⟨aB,e,U,X⟩:=v j hj;have N : gops[j]? = some gops[j]:=yh e
      have key:=zCG (Q:=Q) (next:=wpAny P .any gops Q fuel (c.setIfInBounds j true)) S C f J m L H O hcl X U hp I M aB N (fun g' w' u K' B' M' =>
       zxb S C f J m L H O A fuel _ K' B' g' w' _ (by simpa using hs) (fun i r => by
        rw [zjw hs e];unfold zbn;split
        ·omega
        ·exact hp i r) (by rw [zjw hs e]; exact zr6 hcl X) (by
        rw [zjw hs e];have:=zvK (Dof c) j U (yc gops.size) (by simpa using e)
        omega) (by
        rw [zjw hs e]
        exact M'))
      unfold wpOp;simp only [N];split
      ·rename_i hw
       rw [if_pos hw] at key;exact .inl key
      ·rename_i hw
       rw [if_neg hw] at key;exact key
termination_by fuel => fuel
theorem zFq (hm : P.follows .mixedOrders = true) (Cf : zai) (S : zh3 P Cf) (κ : List Tmp) (nt id : Nat) (gops : Array Go.Oper) (ps : List (Nat × Nat)) (xs : List Oper) (m : zpA P κ nt gops ps xs = true) (r r1 : R) (x : r.rs = []) (b : zyO Cf ps xs r = some r1) : zAe P κ nt id gops r r1:=by
 intro g w a Q J F l;obtain ⟨ms,p,C⟩:=zFT m;unfold zyO at b;rw [ye] at b;obtain ⟨L,d,b⟩:=b;split at b
 ·rename_i o
  injection b with b;subst b;obtain ⟨rr,h,G,v⟩:=znw xs r L d;have u : ∀ q ∈ ps,zdH Cf xs (rr 0) q = true:=fun q E => by rw [h]; exact yg.1 o q E
  refine wp_region_any hm ?_;obtain ⟨A,M⟩:=drawn J 1
  have c : ∀ i,Dof (yu gops.size false) i = false:=fun i => by
   unfold Dof;rw [Array.getD_eq_getD_getElem?,Array.getElem?_replicate];split <;> rfl
  have f : ∀ K i,vis xs (Dof (yu gops.size false)) K i = false:=fun K i => by simp [vis,c]
  have k : ∀ g' w' s loc,Ext g w r.st g' w' (rr gops.size).st → Rel g' w' (rr gops.size).st → Fr κ loc nt g' w' (rr gops.size) s → Q .normal s w':=fun g' w' s loc H D B => by
   rw [← C.len,G] at H D B;exact l g' w' s loc H D B
  refine zxb (g0:=g) (w0:=w) (σ0:=r.st) (rr:=rr) S C v (by rw [h]; exact x) (by rw [h]; exact F.len) F.nd F.bd u k gops.size (yu gops.size false) 0 (fun _ => 0) g (w.drewN 1) a (by simp) (fun i _ => c i) (fun j y => by rw [c] at y; cases y) ?_ ⟨by rw [h]; exact A,by rw [h]; exact M,F.size,F.df,fun q t I => ?_,fun i t _ z => (by rw [f] at z; cases z),yH _,fun i N => by omega,fun i _ n => (by rw [c] at n; cases n),fun i j _ _ n => (by rw [c] at n; cases n)⟩
  ·unfold left
   exact yD (List.length_filter_le _ _) (by simp)
  ·have e : zep rr xs p (Dof (yu gops.size false)) 0 q = r.env.getD q vun:=by
    unfold zep;split <;> simp [f,c,h]
   rw [e,h];exact A.zf _ _ (F.env q t I)
 ·cases b
end
inductive IK where
 | mk
 | ins (n : Int) (d : Nat) (y : X)
 | quiet
 | ld
 | bad
def zGP : Op → IK
 | .ld _ _ => .ld
 | op => if za5 op == 0 then .quiet else .bad
def zsI : Oper → IK
 | ⟨.loc,.mkm,none⟩ => .mk
 | ⟨.no,.mu (.l d) (.c (.one (.f (.lit (.int .i64 n))))) y,none⟩ => .ins n d y
 | ⟨_,op,_⟩ => zGP op
def zEp (xs : List Oper) (i : Nat) : IK:=match xs[i]? with
 | some x => zsI x
 | none => .bad
def zEZ : IK → Bool
 | .mk => true
 | _ => false
def zvD (xs : List Oper) (i : Nat) : Option Int:=match zEp xs i with
 | .ins n _ _ => some n
 | _ => none
def zhU (gops : Array Go.Oper) (m0 j : Nat) : IK → Bool
 | .mk => j == m0
 | .ins _ d _ => decide (d < j) && (j - 1 - d == m0) && (zaF gops j).contains m0
 | .quiet => true
 | .ld => true
 | .bad => false
def zs9 (ms : List Nat) (xs : List Oper) (i j : Nat) : Bool:=match xs[i]?,xs[j]? with
 | some x,some y => (zhf x y || bit ms j i) && (match writes x,writes y with
   | some q,some q' => q != q'
   | _,_ => true)
 | _,_ => false
def zwf (P : Program) (κ : List Tmp) (nt : Nat) (gops : Array Go.Oper) (xs : List Oper) (ms : List Nat) (m0 j : Nat) : Bool:=match gops[j]?,xs[j]? with
 | some o,some x => okD κ nt o.dst x.dst && zgz κ (zga gops xs j) gops o.guard x.guard && znx P κ (zga gops xs j) o x.dst x.op && (yc j).all (fun i => zs9 ms xs i j) && zhU gops m0 j (zsI x)
 | _,_ => false
def zqM : List Int → Bool
 | [] => true
 | x :: xs => !xs.contains x && zqM xs
def zxG (P : Program) : List Tmp → Nat → Array Go.Oper → List Oper → Bool:=fun κ nt gops xs =>
 let ms:=znG gops.toList []
 let p:=zpq ms gops.size
 match (yc p).find? (fun i => zEZ (zEp xs i)) with
 | none => false
 | some m0 => zjD gops ms && xs.length == gops.size && decide (p ≤ gops.size) && zkG (zF1 gops xs p) && zqM ((yc p).filterMap (zvD xs)) && zEZ (zEp xs m0) && decide (m0 < p) && (yc p).all (zwf P κ nt gops xs ms m0) && (yc gops.size).all fun j => decide (j < p) || zjx P κ nt gops xs ms j
structure Chk3 (P : Program) (κ : List Tmp) (nt : Nat) (gops : Array Go.Oper) (xs : List Oper) (ms : List Nat) (m0 p : Nat) : Prop where
 masks : zjD gops ms = true
 len : xs.length = gops.size
 p_le : p ≤ gops.size
 dup : zkG (zF1 gops xs p) = true
 keys : zqM ((yc p).filterMap (zvD xs)) = true
 ismk : zEZ (zEp xs m0) = true
 m0p : m0 < p
 pre : ∀ j,j < p → zwf P κ nt gops xs ms m0 j = true
 tail : ∀ j,p ≤ j → j < gops.size → zjx P κ nt gops xs ms j = true
theorem zoX : ∀ {l : List Int},zqM l = true → l.Nodup
 | [],_ => .nil
 | x :: l,h => by
   simp only [zqM,ya,yn] at h;exact yC.2 ⟨by simpa using h.1,zoX h.2⟩
section
variable {P : Program} {κ : List Tmp} {nt : Nat} {gops : Array Go.Oper} {xs : List Oper} {ms : List Nat} {m0 p : Nat} {Cf : zai} {rr : Nat → R}
theorem zFt (h : zxG P κ nt gops xs = true) : ∃ ms m0 p,Chk3 P κ nt gops xs ms m0 p:=by
 unfold zxG at h;simp only at h;split at h
 ·cases h
 ·simp only [ya,beq_iff_eq,decide_eq_true_eq] at h
  obtain ⟨⟨⟨⟨⟨⟨⟨⟨k,c⟩,d⟩,l⟩,i⟩,m⟩,f⟩,g⟩,e⟩:=h;refine ⟨_,_,_,k,c,d,l,i,m,f,fun j b => yg.1 g j (by simpa using b),fun j b a => ?_⟩;have:=yg.1 e j (by simpa using a);simp only [ym,decide_eq_true_eq] at this;rcases this with h | h
  ·omega
  ·exact h
theorem Chk3.pre_some (C : Chk3 P κ nt gops xs ms m0 p) {j : Nat} (b : j < p) {o : Go.Oper} {x : Oper} (d : gops[j]? = some o) (e : xs[j]? = some x) :
  okD κ nt o.dst x.dst = true ∧ zgz κ (zga gops xs j) gops o.guard x.guard = true ∧ znx P κ (zga gops xs j) o x.dst x.op = true ∧ (∀ i,i < j → zs9 ms xs i j = true) ∧ zhU gops m0 j (zsI x) = true:=by
 have h:=C.pre j b;unfold zwf at h;rw [d,e] at h;simp only [ya] at h;obtain ⟨⟨⟨⟨g,a⟩,c⟩,f⟩,k⟩:=h;exact ⟨g,a,c,fun i l => yg.1 f i (by simpa using l),k⟩
theorem Chk3.plan (C : Chk3 P κ nt gops xs ms m0 p) : Plan P κ nt gops xs p where
 len:=C.len
 p_le:=C.p_le
 back:=fun j o b i d => by
  have a : j < gops.size:=(yk.1 b).1;exact (zly C.masks a).2 i (by unfold zaF; rw [b]; exact d)
 pre:=fun j o x a b f => (C.pre_some a b f).1
 apart:=fun i j t d a g e => zlq C.dup yA i (by simpa using d) j (by simpa using a) t g e
 tail:=fun j o x a b f => by
  have c : j < gops.size:=(yk.1 b).1;have h:=C.tail j a c;unfold zjx at h;rw [b,f] at h;simp only [ya] at h;obtain ⟨⟨⟨g,e⟩,k⟩,l⟩:=h;exact ⟨g,e,k,fun i d => zfF C.masks j c (yg.1 l i (by simpa using d))⟩
theorem Chk3.pair (C : Chk3 P κ nt gops xs ms m0 p) {i j : Nat} (c : i < j) (e : j < p) {x y : Oper} (g : xs[i]? = some x) (f : xs[j]? = some y) :
  (zhf x y = true ∨ Reach gops j i) ∧ ∀ q,writes x = some q → writes y ≠ some q:=by
 have a : j < gops.size:=yi e C.p_le;have h:=(C.pre_some e (yh a) f).2.2.2.1 i c;unfold zs9 at h;rw [g,f] at h;simp only [ya,ym] at h;obtain ⟨l,d⟩:=h;refine ⟨l.imp id fun h => zfF C.masks j a h,fun q k b => ?_⟩;rw [k,b] at d;simp at d
theorem Chk3.w (C : Chk3 P κ nt gops xs ms m0 p) : ChkW xs p:=⟨by rw [C.len]; exact C.p_le,fun a b _ _ c d => (C.pair a b c d).2⟩
def zF5 (rr : Nat → R) (i : Nat) : IK → Option (Int × V)
 | .ins n _ y => some (n,(rr i).get y)
 | _ => none
def ent (rr : Nat → R) (xs : List Oper) (i : Nat) : Option (Int × V):=zF5 rr i (zEp xs i)
def zts (rr : Nat → R) (xs : List Oper) (D : Nat → Bool) (i : Nat) : Option (Int × V):=if D i then ent rr xs i else none
def zbC (rr : Nat → R) (xs : List Oper) (p : Nat) (D : Nat → Bool) : List (Int × V):=(yc p).filterMap (zts rr xs D)
def zhn (rr : Nat → R) (xs : List Oper) (p m0 : Nat) (D : Nat → Bool) : zd:=if D m0 then (rr 0).st ++ [.mp (zbC rr xs p D)] else (rr 0).st
theorem zdS {α β : Type} {f f' : α → Option β} : ∀ {l : List α},(∀ i ∈ l,f' i = f i) → l.filterMap f' = l.filterMap f
 | [],_ => rfl
 | y :: l,h => by
   simp only [yd,h y (by simp),zdS fun i a => h i (List.mem_cons_of_mem _ a)]
theorem znB {α β : Type} [DecidableEq α] {f f' : α → Option β} {j : α} {x : β} : ∀ {l : List α},l.Nodup → j ∈ l → (∀ i,i ≠ j → f' i = f i) → f j = none → f' j = some x → (l.filterMap f').Perm (l.filterMap f ++ [x])
 | [],_,h,_,_,_ => by simp at h
 | y :: l,hn,h,h1,h2,h3 => by
   rw [yC] at hn
   by_cases e : y = j
   ·subst e
    have : l.filterMap f' = l.filterMap f:=zdS fun i b => h1 i (fun e => hn.1 (e ▸ b));simp only [yd,h2,h3,this];exact (List.perm_append_singleton _ _).symm
   ·have a:=znB hn.2 (by simpa [Ne.symm e] using h) h1 h2 h3
    simp only [yd,h1 y e]
    cases f y with
    | none => exact a
    | some z => exact a.cons z
theorem zE6 (i : Nat) : (ent rr xs i).map (·.1) = zvD xs i:=by
 unfold ent zvD;cases zEp xs i <;> rfl
theorem zBh {D : Nat → Bool} : ∀ {l : List Nat},(l.filterMap (zts rr xs D)).map (·.1) = (l.filter D).filterMap (zvD xs)
 | [] => rfl
 | i :: l => by
   have c:=zBh (D:=D) (l:=l);have a:=zE6 (rr:=rr) (xs:=xs) i
   cases b : D i with
   | false =>
     have : zts rr xs D i = none:=(by simp [zts,b]);simp only [yd,yB,this,b,c];simp
   | true =>
     have : zts rr xs D i = ent rr xs i:=(by simp [zts,b]);simp only [yd,yB,this,b,if_true]
     cases he : ent rr xs i with
     | none =>
       rw [he] at a;simp only [Option.map_none] at a;simp only [← a,c]
     | some e =>
       rw [he] at a;simp only [yG] at a;simp only [← a,c,List.map_cons]
theorem zBj {α β : Type} {f : α → Option β} {D : α → Bool} {l : List α} (h : (l.filterMap f).Nodup) : ((l.filter D).filterMap f).Nodup :=
 h.sublist (List.filter_sublist.filterMap f)
theorem zy7 (a : zqM ((yc p).filterMap (zvD xs)) = true) (D : Nat → Bool) : ((zbC rr xs p D).map (·.1)).Nodup:=by
 unfold zbC;rw [zBh];exact zBj (zoX a)
theorem zkU {i : Nat} {x : Oper} (a : xs[i]? = some x) : zEp xs i = zsI x:=by unfold zEp; rw [a]
theorem zw9 (g : zqM ((yc p).filterMap (zvD xs)) = true) {D : Nat → Bool} {j : Nat} (k : j < p) (h : D j = false) {n : Int} {v : V} (he : ent rr xs j = some (n,v)) :
  zh6 n (zbC rr xs p D) = none ∧ (zbC rr xs p D ++ [(n,v)]).Perm (zbC rr xs p (zbn D j)):=by
 have c:=znB (f:=zts rr xs D) (f':=zts rr xs (zbn D j)) (x:=(n,v)) yA (List.mem_range.2 k) (fun i l => by simp [zts,zbn,l]) (by simp [zts,h]) (by simp [zts,zbn,he]);have d:=zy7 (rr:=rr) g (zbn D j);refine ⟨zkn.2 fun e b heq => ?_,c.symm⟩;have a : ((zbC rr xs p D ++ [(n,v)]).map (·.1)).Nodup:=(c.map (·.1)).nodup_iff.1 d;rw [List.map_append,List.nodup_append] at a;exact a.2.2 e.1 (yI.2 ⟨e,b,rfl⟩) n (by simp) heq
theorem zBu {D : Nat → Bool} {j : Nat} (he : ent rr xs j = none) : zbC rr xs p (zbn D j) = zbC rr xs p D:=by
 refine zdS fun i _ => ?_;unfold zts zbn
 by_cases e : i = j
 ·subst e; simp [he]
 ·simp [e]
theorem zw3 {x : Oper} {n : Int} {d : Nat} {y : X} (h : zsI x = .ins n d y) : x = ⟨.no,.mu (.l d) (.c (.one (.f (.lit (.int .i64 n))))) y,none⟩:=by
 unfold zsI at h;split at h
 ·cases h
 ·injection h with h1 h2 h3; subst h1 h2 h3; rfl
 ·unfold zGP at h
  split at h
  ·cases h
  ·split at h <;> cases h
theorem zBT {x : Oper} (h : zsI x = .mk) : x = ⟨.loc,.mkm,none⟩:=by
 unfold zsI at h;split at h
 ·rfl
 ·cases h
 ·unfold zGP at h
  split at h
  ·cases h
  ·split at h <;> cases h
theorem zsl {x : Oper} (h : zsI x = .quiet) : za5 x.op = 0:=by
 unfold zsI at h;split at h
 ·cases h
 ·cases h
 ·unfold zGP at h
  split at h
  ·cases h
  ·split at h
   ·rename_i a; simpa using a
   ·cases h
theorem zAS {x : Oper} (h : zsI x = .ld) : ∃ sz y,x.op = .ld sz y:=by
 unfold zsI at h;split at h
 ·cases h
 ·cases h
 ·unfold zGP at h
  split at h
  ·exact ⟨_,_,rfl⟩
  ·split at h <;> cases h
end
section
variable {P : Program} {κ : List Tmp} {nt : Nat} {gops : Array Go.Oper} {xs : List Oper} {ms : List Nat} {m0 p b l : Nat} {Cf : zai} {rr : Nat → R}
theorem zCj {g : G} {w : World} {σ : zd} {id : Nat} {es es' : List (Int × V)} (R : Rel g w σ) (a : σ[id]? = some (.mp es)) (i : es.Perm es') : Ext g w σ g w (σ.set id (.mp es')) ∧ Rel g w (σ.set id (.mp es')):=by
 refine replace R a (fun _ => False) rfl rfl rfl (yl _) (fun b q _ => ⟨rfl,rfl,fun _ h => h⟩) (fun b h => h.elim) (fun _ _ _ h => h) (fun _ _ => rfl) (fun _ _ _ => rfl) R.nb
  (fun d p c o => by simp [shapeOf,a,Ob.shape] at o) (fun m h => ⟨rfl,es',rfl⟩) (fun k n h => by simp [znR,a,Ob.fr] at h) (fun _ _ h => by cases h) (fun H => ?_)
 obtain ⟨e,j,zbC,clock,f,l⟩:=R.ob id _ a;exact ⟨e,j,zbC,clock,f,zx8 i (H.zmq l)⟩
theorem zB3 {σ σ' : zd} (g : ∀ (id a sz : Nat) (es : List (List C)),σ[id]? = some (.cells a sz es) → σ'[id]? = some (.cells a sz es)) {sz : Option Nat} {v u : V} (h : ald σ sz v = some u) : ald σ' sz v = some u:=by
 have key : ∀ {id a i : Nat} {el : List C},σ.elem id a i = some el → σ'.elem id a i = some el:=fun {id a i el} he => by
  unfold zd.elem at he ⊢;rw [ye] at he ⊢;obtain ⟨o,b,d⟩:=he
  cases o with
  | cells v' sz' es => exact ⟨_,g id v' sz' es b,d⟩
  | tok _ _ => simp [Ob.elem] at d
  | mp _ => simp [Ob.elem] at d
 unfold ald at h ⊢;split at h
 ·rw [yw] at h ⊢
  obtain ⟨c,b,d⟩:=h;unfold zd.cell at b ⊢;rw [ye] at b;obtain ⟨el,e,f⟩:=b;exact ⟨c,by rw [ye]; exact ⟨el,key e,f⟩,d⟩
 ·exact h
 ·rw [yw] at h ⊢
  obtain ⟨c,b,d⟩:=h;rw [ye] at b;obtain ⟨el,e,f⟩:=b;exact ⟨c,by rw [ye]; exact ⟨el,key e,f⟩,d⟩
 ·exact h
 ·cases h
theorem zFv {x : Oper} {sz : Option Nat} {y : X} (a : x.op = .ld sz y) {r r' r1 : R} (e : ∀ z ∈ zfu x,r'.get z = r.get z) (k : ∀ (id b sz : Nat) (es : List (List C)),r.st[id]? = some (.cells b sz es) → r'.st[id]? = some (.cells b sz es)) (h : step Cf r x = some r1) :
  ∃ v,r1 = r.put x.dst v ∧ step Cf r' x = some (r'.put x.dst v):=by
 obtain ⟨d,op,f⟩:=x;simp only at a;subst a
 have one : zbm Cf r d (.ld sz y) = some r1 → ∃ v,r1 = r.put d v ∧ zbm Cf r' d (.ld sz y) = some (r'.put d v):=fun h => by
  simp only [zbm] at h ⊢;obtain ⟨v,g,j⟩:=zsh h;have i : r'.get y = r.get y:=e y (by simp [zfu,opX]);exact ⟨v,j,by rw [i,zB3 k g]; rfl⟩
 cases f with
 | none => exact one h
 | some q =>
   obtain ⟨z,bb⟩:=q;simp only [step] at h ⊢;rw [e z (by simp [zfu])];unfold zo7 at h ⊢;split at h
   ·split at h
    ·rename_i c
     rw [if_pos c];exact one h
    ·rename_i c
     rw [if_neg c];injection h with h;exact ⟨.tup [],h.symm,rfl⟩
   ·injection h with h
    exact ⟨.tup [],h.symm,rfl⟩
   ·cases h
theorem Chk3.kind (C : Chk3 P κ nt gops xs ms m0 p) {j : Nat} (a : j < p) {x : Oper} (b : xs[j]? = some x) : zhU gops m0 j (zsI x) = true :=
 (C.pre_some a (yh (yi a C.p_le)) b).2.2.2.2
theorem zHD (C : Chk3 P κ nt gops xs ms m0 p) (r : ∀ i x,xs[i]? = some x → step Cf (rr i) x = some (rr (i + 1))) (V : (rr 0).rs = []) : ∀ j,j ≤ p →
  (rr j).st = (if m0 < j then (rr 0).st ++ [.mp ((yc j).filterMap (ent rr xs))] else (rr 0).st) ∧ (m0 < j → zbh rr m0 = .one (.map (rr 0).st.length))
 | 0,_ => ⟨by simp,fun h => by omega⟩
 | j + 1,hj => by
   obtain ⟨m,A⟩:=zHD C r V j (by omega);have Q : j < xs.length:=(by have:=C.w.le; omega);have E : xs[j]? = some xs[j]:=yb Q;have s:=C.kind (by omega) E;have a:=r j _ E
   have quiet : ent rr xs j = none → j ≠ m0 → (rr (j + 1)).st = (rr j).st → (rr (j + 1)).st = (if m0 < j + 1 then (rr 0).st ++ [.mp ((yc (j + 1)).filterMap (ent rr xs))] else (rr 0).st) ∧ (m0 < j + 1 → zbh rr m0 = .one (.map (rr 0).st.length)):=fun he Y S => by
    refine ⟨?_,fun h => A (by omega)⟩;rw [S,m,yq,yj];simp only [yd,yt,he,yx]
    by_cases h : m0 < j
    ·rw [if_pos h,if_pos (by omega)]
    ·rw [if_neg h,if_neg (by omega)]
   have b : ent rr xs j = zF5 rr j (zsI xs[j]):=by unfold ent; rw [zkU E]
   cases g : zsI xs[j] with
   | bad => rw [g] at s; simp [zhU] at s
   | quiet =>
     rw [g] at b;refine quiet b (fun e => ?_) ?_
     ·subst e
      have:=C.ismk;rw [zkU E,g] at this;simp [zEZ] at this
     ·obtain ⟨v,σ1,H,o⟩:=znN r E
      have Z:=zsl g;rw [H,zfH];rcases o with o | o
      ·exact o
      ·exact o.1 (by omega)
   | ld =>
     rw [g] at b;refine quiet b (fun e => ?_) ?_
     ·subst e
      have:=C.ismk;rw [zkU E,g] at this;simp [zEZ] at this
     ·obtain ⟨sz,y,M⟩:=zAS g
      obtain ⟨v,σ1,H,o⟩:=znN r E;rw [H,zfH];rcases o with o | o
      ·exact o
      ·exact o.1 (by rw [M]; simp [za5])
   | mk =>
     rw [g] at s b;simp only [zhU,beq_iff_eq] at s;subst s;have B:=zBT g;rw [B] at a;simp only [step,zbm,Option.some.injEq] at a
     have z : (yc j).filterMap (ent rr xs) = []:=by
      rw [yr];intro i J;have X : i < j:=(by simpa using J);have K : xs[i]? = some (xs[i]'(by omega)):=yb (by omega);have L:=C.kind (by omega) K;unfold ent;rw [zkU K]
      cases U : zsI (xs[i]'(by omega)) with
      | ins n d y =>
        rw [U] at L;simp only [zhU,ya,decide_eq_true_eq,beq_iff_eq] at L;omega
      | _ => rfl
     refine ⟨?_,fun _ => ?_⟩
     ·rw [← a,yq,yj,z]
      simp only [yd,yt,b,zF5,yx,if_pos (Nat.lt_succ_self j)];rw [if_neg (by omega)] at m;simp only [R.put,R.alloc,m]
     ·rw [if_neg (by omega)] at m
      unfold zbh;rw [← a];simp [R.put,R.alloc,m]
   | ins n d y =>
     rw [g] at s b;simp only [zhU,ya,decide_eq_true_eq,beq_iff_eq] at s;obtain ⟨⟨hd,hm⟩,_⟩:=s;have G : m0 < j:=(by omega);rw [if_pos G] at m;have B:=zw3 g;rw [B] at a;have N:=zoM r V j (by omega)
     have I : (rr j).get (.l d) = .one (.map (rr 0).st.length):=by
      show (rr j).rs.getD d vun = _
      rw [N,yf,zkr (zbh rr) hd,hm];exact A G
     have t:=(zw9 (rr:=rr) C.keys (D:=fun i => decide (i < j)) (n:=n) (v:=(rr j).get y) (by omega : j < p) (by simp) (by rw [b]; rfl)).1
     have u : zbC rr xs p (fun i => decide (i < j)) = (yc j).filterMap (ent rr xs):=by
      unfold zbC;obtain ⟨q,W⟩ : ∃ q,p = j + q:=⟨p - j,by omega⟩;rw [W,List.range_add,yj]
      have H : (yc j).filterMap (zts rr xs fun i => decide (i < j)) = (yc j).filterMap (ent rr xs):=zdS fun i J => by
       have : i < j:=(by simpa using J);simp [zts,this]
      have o : ((yc q).map (j + ·)).filterMap (zts rr xs fun i => decide (i < j)) = []:=by
       rw [yr];intro i J;obtain ⟨k,_,rfl⟩:=yI.1 J;have : ¬ j + k < j:=(by omega);simp [zts,this]
      rw [H,o,yx]
     rw [u] at t;simp only [step,zbm,I] at a;have O : (rr j).get (.c (.one (.f (.lit (.int .i64 n))))) = .one (.f (.lit (.int .i64 n))):=rfl;rw [O] at a;simp only [amu,m,List.getElem?_concat_length,yy,Ob.entries,yG,Option.some.injEq] at a;refine ⟨?_,fun _ => A G⟩;rw [← a,if_pos (by omega),yq,yj];simp only [yd,yt,b,zF5,R.put,zGW,R.setOb,m,zje t];simp
end
end Go.A
