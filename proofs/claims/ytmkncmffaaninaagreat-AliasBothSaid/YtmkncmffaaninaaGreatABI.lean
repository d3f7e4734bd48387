/- A part of the proof of AliasBoth. Conditions: none. -/
import Derived.Test.YtmkncmffaaninaaGreatABH
import Derived.SizedLaws
import Derived.Test.YtmkncmffaaninaaGreatABG
import Derived.Test.YtmkncmffaaninaaGreatABF
import Derived.Test.YtmkncmffaaninaaGreatRows
import Derived.ProofKit
set_option linter.all false
open Bool renaming and_eq_true → ya
open List renaming getElem?_eq_getElem → yb,map_cons → yc,map_nil → yd,mem_iff_getElem? → ye,append_nil → yg,drop_eq_nil_of_le → yh,all_eq_true → yi,take_append_drop → yk,mem_of_getElem? → yl,mem_cons_of_mem → ym,getElem?_map → yn,all_append → yo,replicate → yp,drop_drop → yq,mem_cons → yr,mem_map → yt
open Option renaming map_eq_some_iff → yf,bind_eq_some_iff → yj
namespace Go.A
open Go.RowKit Go.ChangeShapes
def zaT (P : Program) : Nat → TypeId → List Fz → Prop
 | 0,_,_ => False
 | n + 1,t,cs => match P.underlying t with
   | some .bool => ∃ b,cs = [.lit (.bool b)]
   | some (.int k) => ∃ x,cs = [.lit (.int k x)] ∧ (Lit.int k x).wf = true
   | some (.slice e) => ∃ xs : List (List Fz),cs = [.sl xs] ∧ xs.length * P.bytesOf e ≤ reachBytes ∧ ∀ x ∈ xs,zaT P n e x
   | some (.struct fs) => zfw (fs.toList.map fun f => zaT P n f.type) cs
   | some (.array m e) => zfw (yp m (zaT P n e)) cs
   | _ => False
section
variable {H : Type} {P : Program}
theorem zi3 {e : TypeId} : ∀ {l : List (DataW H)},(DataW.weightsAll P e l).all (· ≤ reachBytes) = true → ∀ {d},d ∈ l → (d.weights P e).all (· ≤ reachBytes) = true
 | [],_,_,hd => by simp at hd
 | x :: r,h,d,hd => by
   rw [DataW.weightsAll,yo,ya] at h;rcases yr.1 hd with rfl | hd
   ·exact h.1
   ·exact zi3 h.2 hd
theorem zhS {a : List TypeId} {ds : List (DataW H)} (h : (DataW.weightsEach P a ds).all (· ≤ reachBytes) = true) {j : Nat} {t : TypeId} {d : DataW H} (c : a[j]? = some t) (hd : ds[j]? = some d) : (d.weights P t).all (· ≤ reachBytes) = true :=
 yi.2 fun n b => yi.1 h n (DataW.weights_mem_each c hd n b)
end
section
variable {H : Type} {enc : TypeId × Value → H} {P : Program} {w : World}
theorem zqA {sp : Nat → Bool} {hd : Bool} : ∀ (m : Nat) (t : TypeId) (fuel : Nat) (cs : List Value) (x : DataW H × List MemPlace),zeX P m t = true → DataW.trod enc P w 0 sp hd fuel t cs = some x → (x.1.weights P t).all (· ≤ reachBytes) = true →
  cs.length = P.cellsOf t ∧ ∃ xs,zaT P m t xs ∧ zdu w xs cs
 | 0,_,_,_,_,h,_,_ => by simp [zeX] at h
 | _ + 1,_,0,_,_,_,h,_ => by simp [DataW.trod] at h
 | m + 1,t,fuel + 1,cs,x,hp,h,hwt => by
   have Z:=fun t' M aC x' => zqA (sp:=sp) (hd:=hd) m t' M aC x';unfold zeX at hp;unfold DataW.trod at h;unfold zaT;split at hp
   ·
    rename_i hu;rw [hu] at h ⊢;simp only [beq_iff_eq] at hp
    split at h <;> try (cases h; done)
    all_goals rename_i c <;> try (injection c with c; cases c; done)
    rename_i b;exact ⟨by simp [hp],[.lit (.bool b)],⟨b,rfl⟩,.one (by simp [rep,zxN])⟩
   ·
    rename_i k hu;rw [hu] at h ⊢;simp only [beq_iff_eq] at hp
    split at h <;> try (cases h; done)
    all_goals rename_i c <;> try (injection c with c; cases c; done)
    rename_i k0 k1 n;injection c with c;injection c with c;subst c;split at h
    ·rename_i hc
     obtain ⟨rfl,hw⟩:=hc;exact ⟨by simp [hp],[.lit (.int k1 n)],⟨n,rfl,hw⟩,.one (by simp [rep,zxN])⟩
    ·cases h
   ·
    rename_i e hu;rw [hu] at h ⊢;simp only [ya,beq_iff_eq,decide_eq_true_eq] at hp;obtain ⟨⟨v,J⟩,aE⟩:=hp
    split at h <;> try (cases h; done)
    all_goals rename_i c <;> try (injection c with c; cases c; done)
    ·refine ⟨by simp [v],[.sl []],⟨[],rfl,by simp,fun x hx => by simp at hx⟩,.one ?_⟩
     rw [rep];exact ⟨none,0,0,rfl,Nat.le_refl _,by simp only [zbr],.inl rfl⟩
    ·rename_i e0 a len cap
     injection c with c;injection c with c;subst c;dsimp only at h;split at h
     ·rename_i hc
      rw [yj] at h;obtain ⟨aF,Q,d⟩:=h;obtain ⟨aA,R⟩:=mapM_some Q;rw [yf] at d;obtain ⟨rest,_,d⟩:=d;subst d;simp only [DataW.weights,hu,List.all_cons,yo,ya,decide_eq_true_eq,List.length_map] at hwt;obtain ⟨X,Y,_⟩:=hwt;rw [List.length_range] at aA
      have S : ∀ i,i < len → ∃ ci,w.cells? 0 (a.add (i * P.cellsOf e)) (P.cellsOf e) = some ci ∧ ∃ L,zaT P m e L ∧ zdu w L ci:=fun i B => by
       obtain ⟨y,E,K⟩:=R i i (by simp [B]);rw [yj] at K;obtain ⟨ci,K,h4⟩:=K;exact ⟨ci,K,(Z e fuel ci y aE h4 (zi3 Y (yt.2 ⟨y,yl E,rfl⟩))).2⟩
      obtain ⟨xs,aD,N⟩:=znr (p:=fun i L => ∃ ci,w.cells? 0 (a.add (i * P.cellsOf e)) (P.cellsOf e) = some ci ∧ zaT P m e L ∧ zdu w L ci) len fun i B => by
       obtain ⟨ci,q,L,G,I⟩:=S i B;exact ⟨L,ci,q,G,I⟩
      refine ⟨by simp [v],[.sl xs],⟨xs,rfl,Nat.le_trans (Nat.mul_le_mul_right _ (by omega)) X,fun y W => ?_⟩,.one ?_⟩
      ·obtain ⟨i,B⟩:=ye.1 W
       obtain ⟨_,_,G,_⟩:=N i y B;exact G
      ·rw [rep]
       refine ⟨some a,cap,P.cellsOf e,by rw [aD],by omega,zcT fun y W => ?_,?_⟩
       ·obtain ⟨i,B⟩:=ye.1 W
        obtain ⟨ci,q,_,I⟩:=N i y B;rw [I.1];exact (World.cells?_some q).2.1
       ·rcases Nat.eq_zero_or_pos len with h0 | h0
        ·exact .inl (List.eq_nil_of_length_eq_zero (by omega))
        ·obtain ⟨c0,q,_⟩:=S 0 h0
         obtain ⟨_,l0,g0⟩:=World.cells?_some q;have U:=g0 0 J;rw [Nat.zero_mul,Addr.add_zero',Addr.add_zero',yb (by omega)] at U;have C:=World.cell?_spot U;obtain ⟨b,o,s⟩:=a;simp only at C;subst C;refine .inr ⟨b,o,rfl,zdI fun i y B => ?_⟩;obtain ⟨ci,q,_,I⟩:=N i y B;obtain ⟨_,l1,g1⟩:=World.cells?_some q;refine zf4 fun j z hj => ?_;have O : j < ci.length:=(by rw [← I.1]; exact za hj);have r:=g1 j (by omega);rw [zaf,zaf,yb O] at r;exact ⟨ci[j],World.block_lt_of_cell? w ⟨b,o + i * P.cellsOf e + j,none⟩ r,r,I.2 j z _ hj (yb O)⟩
     ·cases h
   ·
    rename_i fs hu;rw [hu] at h ⊢;simp only [ya] at hp;obtain ⟨v,J⟩:=hp;dsimp only at h;split at h
    ·rename_i hlen
     refine ⟨hlen,?_⟩;rw [yf] at h;obtain ⟨ys,Q,d⟩:=h;subst d;simp only [DataW.weights,hu] at hwt;obtain ⟨_,R⟩:=mapM_some Q
     have key : ∀ (l : List Field) (off : Nat),(∀ f ∈ l,f ∈ fs.toList) → zrA P l off (P.cellsOf t) = true → ∃ xs,zfw (l.map fun f => zaT P m f.type) xs ∧ zdu w xs (cs.drop off):=by
      intro l
      induction l with
      | nil =>
        intro off _ A;simp only [zrA,beq_iff_eq] at A;exact ⟨[],by simp only [yd,zfw],by rw [yh (by omega)]; exact ⟨rfl,fun j x u h => by simp at h⟩⟩
      | cons f l ihl =>
        intro off D A;simp only [zrA,ya,beq_iff_eq] at A;obtain ⟨hf,A⟩:=A;obtain ⟨xs,q,G⟩:=ihl (off + P.cellsOf f.type) (fun g hg => D g (ym _ hg)) A;obtain ⟨i,B⟩:=ye.1 (D f (by simp));obtain ⟨y,E,K⟩:=R i f B;obtain ⟨_,aS,I,V⟩:=Z f.type fuel _ y (yi.1 v f (D f (by simp))) K (zhS hwt (j:=i) (by rw [yn,B]; rfl) (by rw [yn,E]; rfl));rw [hf] at V;refine ⟨aS ++ xs,by simp only [yc,zfw]; exact ⟨aS,xs,rfl,I,q⟩,?_⟩
        have e1 : cs.drop off = (cs.drop off).take (P.cellsOf f.type) ++ cs.drop (off + P.cellsOf f.type):=by
         rw [← yq,yk]
        rw [e1];exact V.append G
     obtain ⟨xs,q,G⟩:=key fs.toList 0 (fun f h => h) J;exact ⟨xs,q,by simpa using G⟩
    ·cases h
   ·
    rename_i n e hu;rw [hu] at h ⊢;simp only [ya,beq_iff_eq] at hp;obtain ⟨v,J⟩:=hp;dsimp only at h;split at h
    ·rename_i hlen
     refine ⟨hlen,?_⟩;rw [yf] at h;obtain ⟨ys,Q,d⟩:=h;subst d;simp only [DataW.weights,hu] at hwt;obtain ⟨_,R⟩:=mapM_some Q
     have key : ∀ (k i : Nat),i + k = n → ∃ xs,zfw (yp k (zaT P m e)) xs ∧ zdu w xs (cs.drop (i * P.cellsOf e)):=by
      intro k
      induction k with
      | zero =>
        intro i aB;have : i = n:=(by omega);subst this;exact ⟨[],rfl,by rw [yh (by omega)]; exact ⟨rfl,fun j x u h => by simp at h⟩⟩
      | succ k ihk =>
        intro i aB;obtain ⟨xs,q,G⟩:=ihk (i + 1) (by omega);obtain ⟨y,E,K⟩:=R i i (List.getElem?_range (by omega));obtain ⟨_,aS,I,V⟩:=Z e fuel _ y v K (zi3 hwt (yt.2 ⟨y,yl E,rfl⟩));refine ⟨aS ++ xs,by simp only [List.replicate_succ,zfw]; exact ⟨aS,xs,rfl,I,q⟩,?_⟩
        have e1 : cs.drop (i * P.cellsOf e) = (cs.drop (i * P.cellsOf e)).take (P.cellsOf e) ++ cs.drop ((i + 1) * P.cellsOf e):=by
         rw [Nat.add_mul,Nat.one_mul,← yq,yk]
        rw [e1];exact V.append G
     obtain ⟨xs,q,G⟩:=key n 0 (by omega);exact ⟨xs,q,by simpa using G⟩
    ·cases h
   ·cases hp
theorem ztE {m : Nat} {t : TypeId} {v : Value} {d : DataW H} {ps : List MemPlace} {base : Nat} {sp : Nat → Bool} {hd : Bool} (c : zeX P m t = true) (a : Value.okWide P w .any base t v) (h : DataW.Trod enc P w 0 sp hd t v d ps) (i : (d.weights P t).all (· ≤ reachBytes) = true) :
  ∃ xs,zaT P m t xs ∧ ze (G0 w) w [] (zlK (ziT P t) xs) v:=by
 obtain ⟨fuel,h⟩:=h;obtain ⟨r,xs,p,g⟩:=zqA m t fuel _ _ c h i;refine ⟨xs,p,?_⟩
 have agg : ziT P t = true → ze (G0 w) w [] (zlK (ziT P t) xs) v:=fun b => by
  have : ∃ cs,v = .agg cs:=by
   unfold ziT at b;unfold Value.okWide at a;split at b
   ·rename_i heq; rw [heq] at a; obtain ⟨cs,e,_⟩:=a; exact ⟨cs,e⟩
   ·rename_i heq; rw [heq] at a; obtain ⟨cs,e,_⟩:=a; exact ⟨cs,e⟩
   ·cases b
  obtain ⟨cs,rfl⟩:=this;rw [b];simp only [zlK,if_true,zym,ze];exact ⟨cs,rfl,znc (by simpa [Value.cells] using g.1.symm) fun j x u o hu => g.2 j x u o (by simpa [Value.cells] using hu)⟩
 cases b : ziT P t with
 | true => rw [← b]; exact agg b
 | false =>
   have f : v.oneCell' = true ∧ P.cellsOf t = 1:=by
    cases m with
    | zero => simp [zeX] at c
    | succ m =>
      unfold zeX at c;unfold ziT at b;unfold Value.okWide at a;split at c
      ·rename_i hu
       simp only [beq_iff_eq] at c;simp only [hu,Cell.okWide] at a;refine ⟨?_,c⟩;cases v <;> simp_all [Cell.okWide,Cell.ok,Value.oneCell']
      ·rename_i k hu
       simp only [beq_iff_eq] at c;simp only [hu,Cell.okWide] at a;refine ⟨?_,c⟩;cases v <;> simp_all [Cell.okWide,Cell.ok,Value.oneCell']
      ·rename_i e hu
       simp only [ya,beq_iff_eq] at c;simp only [hu,Cell.okWide] at a;refine ⟨?_,c.1.1⟩;cases v <;> simp_all [Cell.okWide,Cell.ok,Value.oneCell']
      ·rename_i hu; rw [hu] at b; simp at b
      ·rename_i hu; rw [hu] at b; simp at b
      ·cases c
   have n:=zq0 f.1;rw [n] at g;obtain ⟨q,l⟩:=g
   match xs,q with
   | [x],_ =>
     simp only [zlK,Bool.false_eq_true,if_false,List.headD_cons,ze,zq];exact l 0 x v (by simp) (by simp)
end
section
variable {H : Type} {enc : TypeId × Value → H} {P : Program}
theorem zzn {C : zL} (S : zen P C) {f : Nat} {fn : Func} {s : ChangeSpec} {t1 t2 tb m1 m2 : Nat} {apart fresh handsOn again : Bool}
  (B : laidOutB P = true) (d : fn.params = #[t1,t2]) (g : fn.resultTypes = #[tb]) (z : P.underlying tb = some .bool) (c : s.vars = [])
  (r1 : P.readableRec t1 = true) (G : P.readableRec t2 = true) (J : t1 < P.types.size) (I : t2 < P.types.size) (p1 : zeX P m1 t1 = true) (p2 : zeX P m2 t2 = true)
  (o : ∀ (d1 d2 : DataW H),(s.fn H [d1,d2]).results = [.lit (.bool true)] ∧ (s.fn H [d1,d2]).args = [d1,d2] ∧ (s.fn H [d1,d2]).vars = [])
  (Q : ∀ x1 x2,zaT P m1 t1 x1 → zaT P m2 t2 x2 → C f [zlK (ziT P t1) x1,zlK (ziT P t2) x2] [] = some (zg4 true,[]))
  {W : World} {base : Nat} {args : Array Value} {ds gs : List (DataW H)} {before : List MemPlace}
  (a : ∀ (j : Nat) t v,fn.params[j]? = some t → args[j]? = some v → Value.okWide P W .any base t v)
  (w : DataW.Whole enc P fn.params.toList s.vars apart W args.toList ds gs before)
  (h : (DataW.weightsEach P (fn.params.toList ++ s.plain.varTypes P) (ds ++ gs)).all (· ≤ reachBytes) = true) :
  Calls P f args W fun e W' => ∃ v,e = .returned v ∧ s.post enc P fn apart fresh handsOn again W args v W':=by
 have k:=w;obtain ⟨p,q,m,y,rfl,N,L⟩:=w;rw [d] at m a h;obtain ⟨v1,v2,d1,d2,D,u,rfl,rfl,rfl,A,r⟩:=trodAll_two m;rw [c] at y;obtain ⟨rfl,rfl⟩:=trodVars_none y;obtain ⟨x1,R,M⟩:=ztE p1 (a 0 t1 v1 rfl rfl) A (zhS h (j:=0) rfl rfl);obtain ⟨x2,O,e2⟩:=ztE p2 (a 1 t2 v2 rfl rfl) r (zhS h (j:=1) rfl rfl)
 have K : zv (G0 W) W [] [zlK (ziT P t1) x1,zlK (ziT P t2) x2] [v1,v2]:=by
  simp only [zv];exact ⟨v1,[v2],rfl,M,v2,[],rfl,e2,rfl⟩
 refine (zuT S (Q x1 x2 R O) K).mono fun e W' he => ?_;obtain ⟨rfl,n⟩:=he;obtain ⟨f1,f2,f3⟩:=o d1 d2;have i:=k.lt;have U : ∀ x ∈ D,x.block < W.heap.size:=fun x b => i x (by simp [b]);have E : ∀ x ∈ u,x.block < W.heap.size:=fun x b => i x (by simp [b]);refine ⟨_,rfl,zvl k n c (fun _ _ _ => ?_) (fun sp l => ?_) (by rw [yg,f3]) (ok_one g rfl (okWide_bool_mk z _))⟩
 ·rw [g]
  show DataW.TrodAll enc P W' _ _ _ [tb] [.bool true] (s.fn H ([d1,d2] ++ [])).results []
  rw [yg,f1];exact trodAll_mk1 (shut_bool z _)
 ·rw [d]
  show DataW.TrodAll enc P W' 0 sp true [t1,t2] [v1,v2] (s.fn H ([d1,d2] ++ [])).args (D ++ u ++ [])
  rw [yg,yg,f2];exact trodAll_mk2 (WideElems.Trod_stays B r1 J A (fun x b => n.same (U x b)) (fun x b => l x (by simp [b]))) (WideElems.Trod_stays B G I r (fun x b => n.same (E x b)) (fun x b => l x (by simp [b])))
end
end Go.A
namespace AC
open Go Go.A Go.Proofs
set_option maxRecDepth 100000
theorem zyz {n b : Nat} (a : 1 ≤ b) (h : n * b ≤ reachBytes) : n ≤ LB:=by
 have : n * 1 ≤ n * b:=Nat.mul_le_mul_left n a;unfold reachBytes at h;unfold LB;omega
theorem zBq {m : Nat} {x : List Fz} (h : zaT Tryz.prog m 49 x) : ∃ n,x = [.lit (.int .u64 n)] ∧ 0 ≤ n ∧ n < 18446744073709551616:=by
 cases m with
 | zero => exact h.elim
 | succ m =>
   unfold zaT at h;rw [Tryz.underlying49] at h;obtain ⟨n,b,a⟩:=h;refine ⟨n,b,?_⟩;simp only [Lit.wf,ya,decide_eq_true_eq] at a;have e : IntKind.u64.max = 18446744073709551615:=(by decide);have e2 : IntKind.u64.min = 0:=(by decide);omega
theorem zdN {m : Nat} {x : List Fz} (h : zaT Tryz.prog m 3 x) : ∃ n,x = ri n ∧ -9223372036854775808 ≤ n ∧ n ≤ 9223372036854775807:=by
 cases m with
 | zero => exact h.elim
 | succ m =>
   unfold zaT at h;rw [Tryz.underlying3] at h;obtain ⟨n,b,a⟩:=h;refine ⟨n,b,?_⟩;simp only [Lit.wf,ya,decide_eq_true_eq] at a;have e : IntKind.i64.max = 9223372036854775807:=(by decide);have e2 : IntKind.i64.min = -9223372036854775808:=(by decide);omega
theorem zmb {α : Type} {P : List Fz → Prop} {r : α → List Fz} {q : α → Prop} (h : ∀ x,P x → ∃ a,x = r a ∧ q a) : ∀ xs : List (List Fz),(∀ x ∈ xs,P x) → ∃ l : List α,xs = l.map r ∧ ∀ a ∈ l,q a
 | [],_ => ⟨[],rfl,fun _ h => by simp at h⟩
 | x :: xs,hx => by
   obtain ⟨l,rfl,b⟩:=zmb h xs fun y c => hx y (ym _ c);obtain ⟨a,rfl,d⟩:=h x (hx x List.mem_cons_self);refine ⟨a :: l,rfl,fun u hu => ?_⟩;rcases yr.1 hu with rfl | hu
   ·exact d
   ·exact b u hu
theorem b3 : 1 ≤ Tryz.prog.bytesOf 3:=of_decide_eq_true (by kernel_rfl)
theorem b27 : 1 ≤ Tryz.prog.bytesOf 51:=of_decide_eq_true (by kernel_rfl)
theorem b61 : 1 ≤ Tryz.prog.bytesOf 74:=of_decide_eq_true (by kernel_rfl)
theorem b32 : 1 ≤ Tryz.prog.bytesOf 44:=of_decide_eq_true (by kernel_rfl)
theorem zkl {m : Nat} {x : List Fz} (h : zaT Tryz.prog m 22 x) : ∃ l : List Int,x = rl l ∧ l.length ≤ LB ∧ ∀ n ∈ l,-9223372036854775808 ≤ n ∧ n ≤ 9223372036854775807:=by
 cases m with
 | zero => exact h.elim
 | succ m =>
   unfold zaT at h;rw [Tryz.underlying22] at h;obtain ⟨xs,rfl,b,a⟩:=h;obtain ⟨l,rfl,c⟩:=zmb (fun x a => zdN a) xs a;exact ⟨l,rfl,by simpa using zyz b3 b,c⟩
theorem zCw {m : Nat} {x : List Fz} (h : zaT Tryz.prog m 51 x) : ∃ o : POp,x = ro o ∧ (0 ≤ o.imm ∧ o.imm < 18446744073709551616) ∧ o.args.length ≤ LB:=by
 cases m with
 | zero => exact h.elim
 | succ m =>
   unfold zaT at h;rw [Tryz.underlying51] at h;simp only [yc,yd,zfw] at h;obtain ⟨p1,z,rfl,j,p2,s,rfl,f,v,r,rfl,i,u,t,rfl,n,A,w,rfl,k,q,y,rfl,p,rfl⟩:=h;obtain ⟨a,rfl,_⟩:=zdN j;obtain ⟨b,rfl,_⟩:=zdN f;obtain ⟨c,rfl,_⟩:=zdN i;obtain ⟨d,rfl,_⟩:=zdN n;obtain ⟨e,rfl,he,_⟩:=zkl k;obtain ⟨g,rfl,l⟩:=zBq p;exact ⟨⟨a,b,c,d,e,g⟩,rfl,l,he⟩
theorem zAZ {m : Nat} {x : List Fz} (h : zaT Tryz.prog m 74 x) : ∃ p : PPhi,x = rp p ∧ p.src.length ≤ LB ∧ p.args.length ≤ LB:=by
 cases m with
 | zero => exact h.elim
 | succ m =>
   unfold zaT at h;rw [Tryz.underlying74] at h;simp only [yc,yd,zfw] at h;obtain ⟨p1,r,rfl,i,p2,l,rfl,e,q,k,rfl,f,n,o,rfl,j,rfl⟩:=h;obtain ⟨a,rfl,_⟩:=zdN i;obtain ⟨b,rfl,_⟩:=zdN e;obtain ⟨c,rfl,g,_⟩:=zkl f;obtain ⟨d,rfl,hd,_⟩:=zkl j;exact ⟨⟨a,b,c,d⟩,rfl,g,hd⟩
theorem zxF {m : Nat} {x : List Fz} (h : zaT Tryz.prog m 44 x) : ∃ b : PBlock,x = rb b ∧ anyB b:=by
 cases m with
 | zero => exact h.elim
 | succ m =>
   unfold zaT at h;rw [Tryz.underlying44] at h;simp only [yc,yd,zfw] at h;obtain ⟨p1,z,rfl,f,p2,v,rfl,g,w,t,rfl,e,rfl⟩:=h
   cases m with
   | zero => exact f.elim
   | succ m =>
     unfold zaT at f g e;rw [Tryz.underlying39] at f;rw [Tryz.underlying40] at g;rw [Tryz.underlying42] at e;simp only [yc,yd,zfw] at e;obtain ⟨xs,rfl,n,q⟩:=f;obtain ⟨ys,rfl,n2,p⟩:=g;obtain ⟨r1,s1,rfl,s,u,s2,rfl,j,A,y,rfl,r,rfl⟩:=e;obtain ⟨a,rfl,_⟩:=zdN s;obtain ⟨b,rfl,_⟩:=zdN j;obtain ⟨c,rfl,k,_⟩:=zkl r;obtain ⟨d,rfl,o⟩:=zmb (fun x i => zAZ i) xs q;obtain ⟨ops,rfl,l⟩:=zmb (fun x i => zCw i) ys p;refine ⟨⟨d,ops,a,b,c⟩,rfl,?_,?_,o,l,k⟩
     ·simpa using zyz b61 n
     ·simpa using zyz b27 n2
theorem zzv {m : Nat} {x : List Fz} (h : zaT Tryz.prog m 25 x) : ∃ f : PFunc,zlK true x = zbS f ∧ anyF f:=by
 cases m with
 | zero => exact h.elim
 | succ m =>
   unfold zaT at h;rw [Tryz.underlying25] at h;simp only [yc,yd,zfw] at h;obtain ⟨p1,r,rfl,g,p2,p,rfl,d,q,o,rfl,c,rfl⟩:=h;obtain ⟨a,rfl,n,_⟩:=zkl g;obtain ⟨b,rfl,_⟩:=zdN d
   cases m with
   | zero => exact c.elim
   | succ m =>
     unfold zaT at c;rw [Tryz.underlying23] at c;obtain ⟨xs,rfl,i,k⟩:=c;obtain ⟨l,rfl,j⟩:=zmb (fun x e => zxF e) xs k;refine ⟨⟨a,b,l⟩,rfl,n,?_,j⟩;simpa using zyz b32 i
theorem zxC {m : Nat} {x : List Fz} (h : zaT Tryz.prog m 61 x) : ∃ (k a b : Int),zlK true x = .agg [.f (ei k),.f (ei a),.f (ei b)]:=by
 cases m with
 | zero => exact h.elim
 | succ m =>
   unfold zaT at h;rw [Tryz.underlying61] at h;simp only [yc,yd,zfw] at h;obtain ⟨p1,l,rfl,e,p2,i,rfl,c,g,j,rfl,d,rfl⟩:=h;obtain ⟨k,rfl,_⟩:=zdN e;obtain ⟨a,rfl,_⟩:=zdN c;obtain ⟨b,rfl,_⟩:=zdN d;exact ⟨k,a,b,rfl⟩
end AC
namespace AC
open Go Go.A Go.Proofs
set_option maxRecDepth 100000
theorem znV (c b : List Fz) (g : zaT Tryz.prog 8 25 c) (d : zaT Tryz.prog 8 61 b) :
  call T 9 [zlK true c,zlK true b] [] = some (zg4 true,[]):=by
 obtain ⟨f1,f,a⟩:=zzv g;rw [f];obtain ⟨e,a2,b2,e2⟩:=zxC d;rw [e2];exact zyL f1 a e a2 b2
end AC
namespace Go.Proofs.YtmkncmffaaninaaGreat
open Go.ChangeShapes Go.WideShapes Go.ChangeAt Go.RowKit Go.A
set_option maxRecDepth 100000 in
theorem zlN (os : Os) (started : os.Started) (H : Type) (enc : TypeId × Value → H) :
  ReturnsInHanded {} Tryz.checked os 9 .any (Rows.aliasBothSpec.pre6 enc Tryz.prog Tryz.f9 Rows.aliasBothRow.domain false) (Rows.aliasBothSpec.post enc Tryz.prog Tryz.f9 false true false false):=by
 refine returnsInHanded_of_change_sized (C:=Tryz.checked) Tryz.own started (by kernel_rfl) Tryz.func9
  (ChangeSpec.witness6 (enc:=enc) (C:=Tryz.checked) false ⟨#[],#[.agg #[.slice none 0 0,.int .i64 0,.slice none 0 0],.agg #[.int .i64 0,.int .i64 0,.int .i64 0]],[]⟩ 8 (by kernel_rfl) (by kernel_rfl) (by kernel_rfl) (by kernel_rfl)) ?_
 intro W base args ds gs before a c _ b _;exact zzn (m1:=8) (m2:=8) (t1:=25) (t2:=61) (tb:=4) AC.zBt Tryz.laidOut Tryz.params9 (by kernel_rfl) (by kernel_rfl) rfl (by kernel_rfl) (by kernel_rfl) (of_decide_eq_true (by kernel_rfl)) (of_decide_eq_true (by kernel_rfl)) (by kernel_rfl) (by kernel_rfl) (fun _ _ => ⟨rfl,rfl,rfl⟩) AC.znV a c b
end Go.Proofs.YtmkncmffaaninaaGreat
