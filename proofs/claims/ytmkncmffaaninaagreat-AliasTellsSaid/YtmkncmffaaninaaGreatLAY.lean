/- A part of the proof of AliasTells. Conditions: none. -/
import Derived.Test.YtmkncmffaaninaaGreatLAX
import Derived.SizedLaws
import Derived.Test.YtmkncmffaaninaaGreatLAV
import Derived.Test.YtmkncmffaaninaaGreatRows
import Derived.ProofKit
import Derived.Test.YtmkncmffaaninaaGreatLAW
set_option linter.all false
open Bool renaming and_eq_true → ya
open List renaming getElem?_eq_getElem → yb,map_cons → yc,map_nil → yd,mem_iff_getElem? → ye,append_nil → yg,drop_eq_nil_of_le → yh,all_eq_true → yi,take_append_drop → yk,mem_of_getElem? → yl,mem_cons_of_mem → ym,getElem?_map → yn,all_append → yo,replicate → yp,drop_drop → yq,mem_cons → yr,mem_map → yt
open Option renaming map_eq_some_iff → yf,bind_eq_some_iff → yj
namespace Go.A
open Go.RowKit Go.ChangeShapes
def zbZ (P : Program) : Nat → TypeId → List Fz → Prop
 | 0,_,_ => False
 | n + 1,t,cs => match P.underlying t with
   | some .bool => ∃ b,cs = [.lit (.bool b)]
   | some (.int k) => ∃ x,cs = [.lit (.int k x)] ∧ (Lit.int k x).wf = true
   | some (.slice e) => ∃ xs : List (List Fz),cs = [.sl xs] ∧ xs.length * P.bytesOf e ≤ reachBytes ∧ ∀ x ∈ xs,zbZ P n e x
   | some (.struct fs) => zji (fs.toList.map fun f => zbZ P n f.type) cs
   | some (.array m e) => zji (yp m (zbZ P n e)) cs
   | _ => False
section
variable {H : Type} {P : Program}
theorem znL {e : TypeId} : ∀ {l : List (DataW H)},(DataW.weightsAll P e l).all (· ≤ reachBytes) = true → ∀ {d},d ∈ l → (d.weights P e).all (· ≤ reachBytes) = true
 | [],_,_,hd => by simp at hd
 | x :: r,h,d,hd => by
   rw [DataW.weightsAll,yo,ya] at h;rcases yr.1 hd with rfl | hd
   ·exact h.1
   ·exact znL h.2 hd
theorem zlf {a : List TypeId} {ds : List (DataW H)} (h : (DataW.weightsEach P a ds).all (· ≤ reachBytes) = true) {j : Nat} {t : TypeId} {d : DataW H} (c : a[j]? = some t) (hd : ds[j]? = some d) : (d.weights P t).all (· ≤ reachBytes) = true :=
 yi.2 fun n b => yi.1 h n (DataW.weights_mem_each c hd n b)
end
section
variable {H : Type} {enc : TypeId × Value → H} {P : Program} {w : World}
theorem zwK {sp : Nat → Bool} {hd : Bool} : ∀ (m : Nat) (t : TypeId) (fuel : Nat) (cs : List Value) (x : DataW H × List MemPlace),zit P m t = true → DataW.trod enc P w 0 sp hd fuel t cs = some x → (x.1.weights P t).all (· ≤ reachBytes) = true →
  cs.length = P.cellsOf t ∧ ∃ xs,zbZ P m t xs ∧ zgB w xs cs
 | 0,_,_,_,_,h,_,_ => by simp [zit] at h
 | _ + 1,_,0,_,_,_,h,_ => by simp [DataW.trod] at h
 | m + 1,t,fuel + 1,cs,x,hp,h,hwt => by
   have ih:=fun t' L W x' => zwK (sp:=sp) (hd:=hd) m t' L W x';unfold zit at hp;unfold DataW.trod at h;unfold zbZ;split at hp
   ·
    rename_i hu;rw [hu] at h ⊢;simp only [beq_iff_eq] at hp
    split at h <;> try (cases h; done)
    all_goals rename_i c <;> try (injection c with c; cases c; done)
    rename_i b;exact ⟨by simp [hp],[.lit (.bool b)],⟨b,rfl⟩,.one (by simp [rep,zEs])⟩
   ·
    rename_i k hu;rw [hu] at h ⊢;simp only [beq_iff_eq] at hp
    split at h <;> try (cases h; done)
    all_goals rename_i c <;> try (injection c with c; cases c; done)
    rename_i k0 k1 n;injection c with c;injection c with c;subst c;split at h
    ·rename_i hc
     obtain ⟨rfl,hw⟩:=hc;exact ⟨by simp [hp],[.lit (.int k1 n)],⟨n,rfl,hw⟩,.one (by simp [rep,zEs])⟩
    ·cases h
   ·
    rename_i e hu;rw [hu] at h ⊢;simp only [ya,beq_iff_eq,decide_eq_true_eq] at hp;obtain ⟨⟨A,J⟩,aC⟩:=hp
    split at h <;> try (cases h; done)
    all_goals rename_i c <;> try (injection c with c; cases c; done)
    ·refine ⟨by simp [A],[.sl []],⟨[],rfl,by simp,fun x hx => by simp at hx⟩,.one ?_⟩
     rw [rep];exact ⟨none,0,0,rfl,Nat.le_refl _,by simp only [zcC],.inl rfl⟩
    ·rename_i e0 a len cap
     injection c with c;injection c with c;subst c;dsimp only at h;split at h
     ·rename_i hc
      rw [yj] at h;obtain ⟨aE,S,d⟩:=h;obtain ⟨aA,U⟩:=mapM_some S;rw [yf] at d;obtain ⟨rest,_,d⟩:=d;subst d;simp only [DataW.weights,hu,List.all_cons,yo,ya,decide_eq_true_eq,List.length_map] at hwt;obtain ⟨aB,Z,_⟩:=hwt;rw [List.length_range] at aA
      have R : ∀ i,i < len → ∃ ci,w.cells? 0 (a.add (i * P.cellsOf e)) (P.cellsOf e) = some ci ∧ ∃ M,zbZ P m e M ∧ zgB w M ci:=fun i B => by
       obtain ⟨y,D,K⟩:=U i i (by simp [B]);rw [yj] at K;obtain ⟨ci,K,h4⟩:=K;exact ⟨ci,K,(ih e fuel ci y aC h4 (znL Z (yt.2 ⟨y,yl D,rfl⟩))).2⟩
      obtain ⟨xs,X,N⟩:=zru (p:=fun i M => ∃ ci,w.cells? 0 (a.add (i * P.cellsOf e)) (P.cellsOf e) = some ci ∧ zbZ P m e M ∧ zgB w M ci) len fun i B => by
       obtain ⟨ci,q,M,G,I⟩:=R i B;exact ⟨M,ci,q,G,I⟩
      refine ⟨by simp [A],[.sl xs],⟨xs,rfl,Nat.le_trans (Nat.mul_le_mul_right _ (by omega)) aB,fun y Y => ?_⟩,.one ?_⟩
      ·obtain ⟨i,B⟩:=ye.1 Y
       obtain ⟨_,_,G,_⟩:=N i y B;exact G
      ·rw [rep]
       refine ⟨some a,cap,P.cellsOf e,by rw [X],by omega,zf0 fun y Y => ?_,?_⟩
       ·obtain ⟨i,B⟩:=ye.1 Y
        obtain ⟨ci,q,_,I⟩:=N i y B;rw [I.1];exact (World.cells?_some q).2.1
       ·rcases Nat.eq_zero_or_pos len with h0 | h0
        ·exact .inl (List.eq_nil_of_length_eq_zero (by omega))
        ·obtain ⟨c0,q,_⟩:=R 0 h0
         obtain ⟨_,l0,g0⟩:=World.cells?_some q;have O:=g0 0 J;rw [Nat.zero_mul,Addr.add_zero',Addr.add_zero',yb (by omega)] at O;have E:=World.cell?_spot O;obtain ⟨b,o,s⟩:=a;simp only at E;subst E;refine .inr ⟨b,o,rfl,zhd fun i y B => ?_⟩;obtain ⟨ci,q,_,I⟩:=N i y B;obtain ⟨_,l1,g1⟩:=World.cells?_some q;refine zjK fun j z hj => ?_;have Q : j < ci.length:=(by rw [← I.1]; exact zb hj);have r:=g1 j (by omega);rw [za6,za6,yb Q] at r;exact ⟨ci[j],World.block_lt_of_cell? w ⟨b,o + i * P.cellsOf e + j,none⟩ r,r,I.2 j z _ hj (yb Q)⟩
     ·cases h
   ·
    rename_i fs hu;rw [hu] at h ⊢;simp only [ya] at hp;obtain ⟨A,J⟩:=hp;dsimp only at h;split at h
    ·rename_i hlen
     refine ⟨hlen,?_⟩;rw [yf] at h;obtain ⟨ys,S,d⟩:=h;subst d;simp only [DataW.weights,hu] at hwt;obtain ⟨_,U⟩:=mapM_some S
     have key : ∀ (l : List Field) (off : Nat),(∀ f ∈ l,f ∈ fs.toList) → zwT P l off (P.cellsOf t) = true → ∃ xs,zji (l.map fun f => zbZ P m f.type) xs ∧ zgB w xs (cs.drop off):=by
      intro l
      induction l with
      | nil =>
        intro off _ v;simp only [zwT,beq_iff_eq] at v;exact ⟨[],by simp only [yd,zji],by rw [yh (by omega)]; exact ⟨rfl,fun j x u h => by simp at h⟩⟩
      | cons f l ihl =>
        intro off C v;simp only [zwT,ya,beq_iff_eq] at v;obtain ⟨hf,v⟩:=v;obtain ⟨xs,q,G⟩:=ihl (off + P.cellsOf f.type) (fun g hg => C g (ym _ hg)) v;obtain ⟨i,B⟩:=ye.1 (C f (by simp));obtain ⟨y,D,K⟩:=U i f B;obtain ⟨_,aS,I,V⟩:=ih f.type fuel _ y (yi.1 A f (C f (by simp))) K (zlf hwt (j:=i) (by rw [yn,B]; rfl) (by rw [yn,D]; rfl));rw [hf] at V;refine ⟨aS ++ xs,by simp only [yc,zji]; exact ⟨aS,xs,rfl,I,q⟩,?_⟩
        have e1 : cs.drop off = (cs.drop off).take (P.cellsOf f.type) ++ cs.drop (off + P.cellsOf f.type):=by
         rw [← yq,yk]
        rw [e1];exact V.append G
     obtain ⟨xs,q,G⟩:=key fs.toList 0 (fun f h => h) J;exact ⟨xs,q,by simpa using G⟩
    ·cases h
   ·
    rename_i n e hu;rw [hu] at h ⊢;simp only [ya,beq_iff_eq] at hp;obtain ⟨A,J⟩:=hp;dsimp only at h;split at h
    ·rename_i hlen
     refine ⟨hlen,?_⟩;rw [yf] at h;obtain ⟨ys,S,d⟩:=h;subst d;simp only [DataW.weights,hu] at hwt;obtain ⟨_,U⟩:=mapM_some S
     have key : ∀ (k i : Nat),i + k = n → ∃ xs,zji (yp k (zbZ P m e)) xs ∧ zgB w xs (cs.drop (i * P.cellsOf e)):=by
      intro k
      induction k with
      | zero =>
        intro i aD;have : i = n:=(by omega);subst this;exact ⟨[],rfl,by rw [yh (by omega)]; exact ⟨rfl,fun j x u h => by simp at h⟩⟩
      | succ k ihk =>
        intro i aD;obtain ⟨xs,q,G⟩:=ihk (i + 1) (by omega);obtain ⟨y,D,K⟩:=U i i (List.getElem?_range (by omega));obtain ⟨_,aS,I,V⟩:=ih e fuel _ y A K (znL hwt (yt.2 ⟨y,yl D,rfl⟩));refine ⟨aS ++ xs,by simp only [List.replicate_succ,zji]; exact ⟨aS,xs,rfl,I,q⟩,?_⟩
        have e1 : cs.drop (i * P.cellsOf e) = (cs.drop (i * P.cellsOf e)).take (P.cellsOf e) ++ cs.drop ((i + 1) * P.cellsOf e):=by
         rw [Nat.add_mul,Nat.one_mul,← yq,yk]
        rw [e1];exact V.append G
     obtain ⟨xs,q,G⟩:=key n 0 (by omega);exact ⟨xs,q,by simpa using G⟩
    ·cases h
   ·cases hp
theorem zzG {m : Nat} {t : TypeId} {v : Value} {d : DataW H} {ps : List MemPlace} {base : Nat} {sp : Nat → Bool} {hd : Bool} (c : zit P m t = true) (a : Value.okWide P w .any base t v) (h : DataW.Trod enc P w 0 sp hd t v d ps) (i : (d.weights P t).all (· ≤ reachBytes) = true) :
  ∃ xs,zbZ P m t xs ∧ zh (G0 w) w [] (zqn (zmW P t) xs) v:=by
 obtain ⟨fuel,h⟩:=h;obtain ⟨r,xs,p,g⟩:=zwK m t fuel _ _ c h i;refine ⟨xs,p,?_⟩
 have agg : zmW P t = true → zh (G0 w) w [] (zqn (zmW P t) xs) v:=fun b => by
  have : ∃ cs,v = .agg cs:=by
   unfold zmW at b;unfold Value.okWide at a;split at b
   ·rename_i heq; rw [heq] at a; obtain ⟨cs,e,_⟩:=a; exact ⟨cs,e⟩
   ·rename_i heq; rw [heq] at a; obtain ⟨cs,e,_⟩:=a; exact ⟨cs,e⟩
   ·cases b
  obtain ⟨cs,rfl⟩:=this;rw [b];simp only [zqn,if_true,zEV,zh];exact ⟨cs,rfl,zrA (by simpa [Value.cells] using g.1.symm) fun j x u q hu => g.2 j x u q (by simpa [Value.cells] using hu)⟩
 cases b : zmW P t with
 | true => rw [← b]; exact agg b
 | false =>
   have f : v.oneCell' = true ∧ P.cellsOf t = 1:=by
    cases m with
    | zero => simp [zit] at c
    | succ m =>
      unfold zit at c;unfold zmW at b;unfold Value.okWide at a;split at c
      ·rename_i hu
       simp only [beq_iff_eq] at c;simp only [hu,Cell.okWide] at a;refine ⟨?_,c⟩;cases v <;> simp_all [Cell.okWide,Cell.ok,Value.oneCell']
      ·rename_i k hu
       simp only [beq_iff_eq] at c;simp only [hu,Cell.okWide] at a;refine ⟨?_,c⟩;cases v <;> simp_all [Cell.okWide,Cell.ok,Value.oneCell']
      ·rename_i e hu
       simp only [ya,beq_iff_eq] at c;simp only [hu,Cell.okWide] at a;refine ⟨?_,c.1.1⟩;cases v <;> simp_all [Cell.okWide,Cell.ok,Value.oneCell']
      ·rename_i hu; rw [hu] at b; simp at b
      ·rename_i hu; rw [hu] at b; simp at b
      ·cases c
   have n:=zv7 f.1;rw [n] at g;obtain ⟨o,l⟩:=g
   match xs,o with
   | [x],_ =>
     simp only [zqn,Bool.false_eq_true,if_false,List.headD_cons,zh,zK];exact l 0 x v (by simp) (by simp)
end
section
variable {H : Type} {enc : TypeId × Value → H} {P : Program}
theorem zGj {C : zaz} (S : zhU P C) {f : Nat} {fn : Func} {s : ChangeSpec} {t1 t2 tb m1 m2 : Nat} {apart fresh handsOn again : Bool}
  (D : laidOutB P = true) (d : fn.params = #[t1,t2]) (g : fn.resultTypes = #[tb]) (u : P.underlying tb = some .bool) (a : s.vars = [])
  (r1 : P.readableRec t1 = true) (G : P.readableRec t2 = true) (J : t1 < P.types.size) (M : t2 < P.types.size) (p1 : zit P m1 t1 = true) (p2 : zit P m2 t2 = true)
  (n : ∀ (d1 d2 : DataW H),(s.fn H [d1,d2]).results = [.lit (.bool true)] ∧ (s.fn H [d1,d2]).args = [d1,d2] ∧ (s.fn H [d1,d2]).vars = [])
  (K : ∀ x1 x2,zbZ P m1 t1 x1 → zbZ P m2 t2 x2 → C f [zqn (zmW P t1) x1,zqn (zmW P t2) x2] [] = some (zk4 true,[]))
  {W : World} {base : Nat} {args : Array Value} {ds gs : List (DataW H)} {before : List MemPlace}
  (b : ∀ (j : Nat) t v,fn.params[j]? = some t → args[j]? = some v → Value.okWide P W .any base t v)
  (y : DataW.Whole enc P fn.params.toList s.vars apart W args.toList ds gs before)
  (h : (DataW.weightsEach P (fn.params.toList ++ s.plain.varTypes P) (ds ++ gs)).all (· ≤ reachBytes) = true) :
  Calls P f args W fun e W' => ∃ v,e = .returned v ∧ s.post enc P fn apart fresh handsOn again W args v W':=by
 have m:=y;obtain ⟨p,q,i,r,rfl,E,Q⟩:=y;rw [d] at i b h;obtain ⟨v1,v2,d1,d2,A,w,rfl,rfl,rfl,B,z⟩:=trodAll_two i;rw [a] at r;obtain ⟨rfl,rfl⟩:=trodVars_none r;obtain ⟨x1,I,e1⟩:=zzG p1 (b 0 t1 v1 rfl rfl) B (zlf h (j:=0) rfl rfl);obtain ⟨x2,R,e2⟩:=zzG p2 (b 1 t2 v2 rfl rfl) z (zlf h (j:=1) rfl rfl)
 have O : zW (G0 W) W [] [zqn (zmW P t1) x1,zqn (zmW P t2) x2] [v1,v2]:=by
  simp only [zW];exact ⟨v1,[v2],rfl,e1,v2,[],rfl,e2,rfl⟩
 refine (zBp S (K x1 x2 I R) O).mono fun e W' he => ?_;obtain ⟨rfl,o⟩:=he;obtain ⟨f1,f2,f3⟩:=n d1 d2;have k:=m.lt;have N : ∀ x ∈ A,x.block < W.heap.size:=fun x c => k x (by simp [c]);have L : ∀ x ∈ w,x.block < W.heap.size:=fun x c => k x (by simp [c]);refine ⟨_,rfl,zAp m o a (fun _ _ _ => ?_) (fun sp l => ?_) (by rw [yg,f3]) (ok_one g rfl (okWide_bool_mk u _))⟩
 ·rw [g]
  show DataW.TrodAll enc P W' _ _ _ [tb] [.bool true] (s.fn H ([d1,d2] ++ [])).results []
  rw [yg,f1];exact trodAll_mk1 (shut_bool u _)
 ·rw [d]
  show DataW.TrodAll enc P W' 0 sp true [t1,t2] [v1,v2] (s.fn H ([d1,d2] ++ [])).args (A ++ w ++ [])
  rw [yg,yg,f2];exact trodAll_mk2 (WideElems.Trod_stays D r1 J B (fun x c => o.same (N x c)) (fun x c => l x (by simp [c]))) (WideElems.Trod_stays D G M z (fun x c => o.same (L x c)) (fun x c => l x (by simp [c])))
end
end Go.A
namespace AC
open Go Go.A Go.Proofs
set_option maxRecDepth 100000
theorem zFN {n b : Nat} (a : 1 ≤ b) (h : n * b ≤ reachBytes) : n ≤ LB:=by
 have : n * 1 ≤ n * b:=Nat.mul_le_mul_left n a;unfold reachBytes at h;unfold LB;omega
theorem zH3 {m : Nat} {x : List Fz} (h : zbZ Tryz.prog m 49 x) : ∃ n,x = [.lit (.int .u64 n)] ∧ 0 ≤ n ∧ n < 18446744073709551616:=by
 cases m with
 | zero => exact h.elim
 | succ m =>
   unfold zbZ at h;rw [Tryz.underlying49] at h;obtain ⟨n,a,b⟩:=h;refine ⟨n,a,?_⟩;simp only [Lit.wf,ya,decide_eq_true_eq] at b;have e : IntKind.u64.max = 18446744073709551615:=(by decide);have e2 : IntKind.u64.min = 0:=(by decide);omega
theorem zgV {m : Nat} {x : List Fz} (h : zbZ Tryz.prog m 3 x) : ∃ n,x = ri n ∧ -9223372036854775808 ≤ n ∧ n ≤ 9223372036854775807:=by
 cases m with
 | zero => exact h.elim
 | succ m =>
   unfold zbZ at h;rw [Tryz.underlying3] at h;obtain ⟨n,a,b⟩:=h;refine ⟨n,a,?_⟩;simp only [Lit.wf,ya,decide_eq_true_eq] at b;have e : IntKind.i64.max = 9223372036854775807:=(by decide);have e2 : IntKind.i64.min = -9223372036854775808:=(by decide);omega
theorem zse {α : Type} {P : List Fz → Prop} {r : α → List Fz} {q : α → Prop} (h : ∀ x,P x → ∃ a,x = r a ∧ q a) : ∀ xs : List (List Fz),(∀ x ∈ xs,P x) → ∃ l : List α,xs = l.map r ∧ ∀ a ∈ l,q a
 | [],_ => ⟨[],rfl,fun _ h => by simp at h⟩
 | x :: xs,hx => by
   obtain ⟨l,rfl,c⟩:=zse h xs fun y b => hx y (ym _ b);obtain ⟨a,rfl,d⟩:=h x (hx x List.mem_cons_self);refine ⟨a :: l,rfl,fun u hu => ?_⟩;rcases yr.1 hu with rfl | hu
   ·exact d
   ·exact c u hu
theorem b3 : 1 ≤ Tryz.prog.bytesOf 3:=of_decide_eq_true (by kernel_rfl)
theorem b27 : 1 ≤ Tryz.prog.bytesOf 51:=of_decide_eq_true (by kernel_rfl)
theorem b61 : 1 ≤ Tryz.prog.bytesOf 74:=of_decide_eq_true (by kernel_rfl)
theorem b32 : 1 ≤ Tryz.prog.bytesOf 44:=of_decide_eq_true (by kernel_rfl)
theorem zn6 {m : Nat} {x : List Fz} (h : zbZ Tryz.prog m 22 x) : ∃ l : List Int,x = rl l ∧ l.length ≤ LB ∧ ∀ n ∈ l,-9223372036854775808 ≤ n ∧ n ≤ 9223372036854775807:=by
 cases m with
 | zero => exact h.elim
 | succ m =>
   unfold zbZ at h;rw [Tryz.underlying22] at h;obtain ⟨xs,rfl,c,a⟩:=h;obtain ⟨l,rfl,b⟩:=zse (fun x a => zgV a) xs a;exact ⟨l,rfl,by simpa using zFN b3 c,b⟩
theorem zJK {m : Nat} {x : List Fz} (h : zbZ Tryz.prog m 51 x) : ∃ o : POp,x = ro o ∧ (0 ≤ o.imm ∧ o.imm < 18446744073709551616) ∧ o.args.length ≤ LB:=by
 cases m with
 | zero => exact h.elim
 | succ m =>
   unfold zbZ at h;rw [Tryz.underlying51] at h;simp only [yc,yd,zji] at h;obtain ⟨p1,u,rfl,p,p2,t,rfl,k,y,v,rfl,l,s,q,rfl,n,r,z,rfl,f,A,w,rfl,j,rfl⟩:=h;obtain ⟨a,rfl,_⟩:=zgV p;obtain ⟨b,rfl,_⟩:=zgV k;obtain ⟨c,rfl,_⟩:=zgV l;obtain ⟨d,rfl,_⟩:=zgV n;obtain ⟨e,rfl,he,_⟩:=zn6 f;obtain ⟨g,rfl,i⟩:=zH3 j;exact ⟨⟨a,b,c,d,e,g⟩,rfl,i,he⟩
theorem zIC {m : Nat} {x : List Fz} (h : zbZ Tryz.prog m 74 x) : ∃ p : PPhi,x = rp p ∧ p.src.length ≤ LB ∧ p.args.length ≤ LB:=by
 cases m with
 | zero => exact h.elim
 | succ m =>
   unfold zbZ at h;rw [Tryz.underlying74] at h;simp only [yc,yd,zji] at h;obtain ⟨p1,o,rfl,j,p2,n,rfl,e,r,q,rfl,g,l,k,rfl,i,rfl⟩:=h;obtain ⟨a,rfl,_⟩:=zgV j;obtain ⟨b,rfl,_⟩:=zgV e;obtain ⟨c,rfl,f,_⟩:=zn6 g;obtain ⟨d,rfl,hd,_⟩:=zn6 i;exact ⟨⟨a,b,c,d⟩,rfl,f,hd⟩
theorem zEp {m : Nat} {x : List Fz} (h : zbZ Tryz.prog m 44 x) : ∃ b : PBlock,x = rb b ∧ anyB b:=by
 cases m with
 | zero => exact h.elim
 | succ m =>
   unfold zbZ at h;rw [Tryz.underlying44] at h;simp only [yc,yd,zji] at h;obtain ⟨p1,w,rfl,f,p2,u,rfl,g,z,y,rfl,e,rfl⟩:=h
   cases m with
   | zero => exact f.elim
   | succ m =>
     unfold zbZ at f g e;rw [Tryz.underlying39] at f;rw [Tryz.underlying40] at g;rw [Tryz.underlying42] at e;simp only [yc,yd,zji] at e;obtain ⟨xs,rfl,l,k⟩:=f;obtain ⟨ys,rfl,n2,s⟩:=g;obtain ⟨r1,s1,rfl,q,t,s2,rfl,p,A,v,rfl,r,rfl⟩:=e;obtain ⟨a,rfl,_⟩:=zgV q;obtain ⟨b,rfl,_⟩:=zgV p;obtain ⟨c,rfl,o,_⟩:=zn6 r;obtain ⟨d,rfl,j⟩:=zse (fun x i => zIC i) xs k;obtain ⟨ops,rfl,n⟩:=zse (fun x i => zJK i) ys s;refine ⟨⟨d,ops,a,b,c⟩,rfl,?_,?_,j,n,o⟩
     ·simpa using zFN b61 l
     ·simpa using zFN b27 n2
theorem zE5 {m : Nat} {x : List Fz} (h : zbZ Tryz.prog m 25 x) : ∃ f : PFunc,zqn true x = za9 f ∧ anyF f:=by
 cases m with
 | zero => exact h.elim
 | succ m =>
   unfold zbZ at h;rw [Tryz.underlying25] at h;simp only [yc,yd,zji] at h;obtain ⟨p1,p,rfl,j,p2,o,rfl,i,r,q,rfl,c,rfl⟩:=h;obtain ⟨a,rfl,e,_⟩:=zn6 j;obtain ⟨b,rfl,_⟩:=zgV i
   cases m with
   | zero => exact c.elim
   | succ m =>
     unfold zbZ at c;rw [Tryz.underlying23] at c;obtain ⟨xs,rfl,g,d⟩:=c;obtain ⟨l,rfl,n⟩:=zse (fun x k => zEp k) xs d;refine ⟨⟨a,b,l⟩,rfl,e,?_,n⟩;simpa using zFN b32 g
theorem zEz {m : Nat} {x : List Fz} (h : zbZ Tryz.prog m 61 x) : ∃ (k a b : Int),zqn true x = .agg [.f (ei k),.f (ei a),.f (ei b)]:=by
 cases m with
 | zero => exact h.elim
 | succ m =>
   unfold zbZ at h;rw [Tryz.underlying61] at h;simp only [yc,yd,zji] at h;obtain ⟨p1,g,rfl,c,p2,l,rfl,e,j,i,rfl,d,rfl⟩:=h;obtain ⟨k,rfl,_⟩:=zgV c;obtain ⟨a,rfl,_⟩:=zgV e;obtain ⟨b,rfl,_⟩:=zgV d;exact ⟨k,a,b,rfl⟩
end AC
namespace AC
open Go Go.A Go.Proofs
set_option maxRecDepth 100000
theorem zrB (c b : List Fz) (d : zbZ Tryz.prog 8 25 c) (f : zbZ Tryz.prog 8 61 b) :
  call T 8 [zqn true c,zqn true b] [] = some (zk4 true,[]):=by
 obtain ⟨f1,e1,a⟩:=zE5 d;rw [e1];obtain ⟨e,a2,b2,e2⟩:=zEz f;rw [e2];exact zsz f1 a e a2 b2
end AC
namespace Go.Proofs.YtmkncmffaaninaaGreat
open Go.ChangeShapes Go.WideShapes Go.ChangeAt Go.RowKit Go.A
set_option maxRecDepth 100000 in
theorem zo6 (os : Os) (started : os.Started) (H : Type) (enc : TypeId × Value → H) :
  ReturnsInHanded {} Tryz.checked os 8 .any (Rows.aliasTellsSpec.pre6 enc Tryz.prog Tryz.f8 Rows.aliasTellsRow.domain false) (Rows.aliasTellsSpec.post enc Tryz.prog Tryz.f8 false true false false):=by
 refine returnsInHanded_of_change_sized (C:=Tryz.checked) Tryz.own started (by kernel_rfl) Tryz.func8
  (ChangeSpec.witness6 (enc:=enc) (C:=Tryz.checked) false ⟨#[],#[.agg #[.slice none 0 0,.int .i64 0,.slice none 0 0],.agg #[.int .i64 0,.int .i64 0,.int .i64 0]],[]⟩ 8 (by kernel_rfl) (by kernel_rfl) (by kernel_rfl) (by kernel_rfl)) ?_
 intro W base args ds gs before a c _ b _;exact zGj (m1:=8) (m2:=8) (t1:=25) (t2:=61) (tb:=4) AC.zHT Tryz.laidOut Tryz.params8 (by kernel_rfl) (by kernel_rfl) rfl (by kernel_rfl) (by kernel_rfl) (of_decide_eq_true (by kernel_rfl)) (of_decide_eq_true (by kernel_rfl)) (by kernel_rfl) (by kernel_rfl) (fun _ _ => ⟨rfl,rfl,rfl⟩) AC.zrB a c b
end Go.Proofs.YtmkncmffaaninaaGreat
