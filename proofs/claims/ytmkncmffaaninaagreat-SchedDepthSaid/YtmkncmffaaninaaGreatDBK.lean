/- A part of the proof of SchedDepth. Conditions: none. -/
import Derived.Test.YtmkncmffaaninaaGreatDBJ
import Derived.SizedLaws
import Derived.Test.YtmkncmffaaninaaGreatDBI
import Derived.Test.YtmkncmffaaninaaGreatDBH
import Derived.Test.YtmkncmffaaninaaGreatRows
import Derived.ProofKit
set_option linter.unusedVariables false
set_option linter.unusedSimpArgs false
set_option linter.unusedSectionVars false
open Bool renaming and_eq_true → ya
open List renaming getElem?_eq_getElem → yb,mem_iff_getElem? → yc,map_cons → yd,map_nil → yf,append_nil → yg,drop_eq_nil_of_le → yh,all_eq_true → yi,take_append_drop → yk,mem_of_getElem? → yl,mem_cons_of_mem → ym,getElem?_map → yn,all_append → yo,replicate → yp,drop_drop → yq,mem_cons → yr,mem_map → yt
open Option renaming map_eq_some_iff → ye,bind_eq_some_iff → yj
namespace Go.A
open Go.RowKit Go.ChangeShapes
def zbm (P : Program) : Nat → TypeId → List Fz → Prop
 | 0,_,_ => False
 | n + 1,t,cs => match P.underlying t with
   | some .bool => ∃ b,cs = [.lit (.bool b)]
   | some (.int k) => ∃ x,cs = [.lit (.int k x)] ∧ (Lit.int k x).wf = true
   | some (.slice e) => ∃ xs : List (List Fz),cs = [.sl xs] ∧ xs.length * P.bytesOf e ≤ reachBytes ∧ ∀ x ∈ xs,zbm P n e x
   | some (.struct fs) => zh9 (fs.toList.map fun f => zbm P n f.type) cs
   | some (.array m e) => zh9 (yp m (zbm P n e)) cs
   | _ => False
section
variable {H : Type} {P : Program}
theorem zlc {e : TypeId} : ∀ {l : List (DataW H)},(DataW.weightsAll P e l).all (· ≤ reachBytes) = true → ∀ {d},d ∈ l → (d.weights P e).all (· ≤ reachBytes) = true
 | [],_,_,hd => by simp at hd
 | x :: r,h,d,hd => by
   rw [DataW.weightsAll,yo,ya] at h
   rcases yr.1 hd with rfl | hd
   ·exact h.1
   ·exact zlc h.2 hd
theorem zjk {ts : List TypeId} {ds : List (DataW H)} (h : (DataW.weightsEach P ts ds).all (· ≤ reachBytes) = true) {j : Nat} {t : TypeId} {d : DataW H} (ht : ts[j]? = some t) (hd : ds[j]? = some d) : (d.weights P t).all (· ≤ reachBytes) = true :=
 yi.2 fun n hn => yi.1 h n (DataW.weights_mem_each ht hd n hn)
end
section
variable {H : Type} {enc : TypeId × Value → H} {P : Program} {w : World}
theorem zs8 {sp : Nat → Bool} {hd : Bool} : ∀ (m : Nat) (t : TypeId) (fuel : Nat) (cs : List Value) (x : DataW H × List MemPlace),zgO P m t = true → DataW.trod enc P w 0 sp hd fuel t cs = some x → (x.1.weights P t).all (· ≤ reachBytes) = true →
  cs.length = P.cellsOf t ∧ ∃ xs,zbm P m t xs ∧ zfq w xs cs
 | 0,_,_,_,_,h,_,_ => by simp [zgO] at h
 | _ + 1,_,0,_,_,_,h,_ => by simp [DataW.trod] at h
 | m + 1,t,fuel + 1,cs,x,hp,h,hwt => by
   have ih:=fun t' fuel' cs' x' => zs8 (sp:=sp) (hd:=hd) m t' fuel' cs' x'
   unfold zgO at hp
   unfold DataW.trod at h
   unfold zbm
   split at hp
   ·
    rename_i hu
    rw [hu] at h ⊢
    simp only [beq_iff_eq] at hp
    split at h <;> try (cases h; done)
    all_goals rename_i heq1 <;> try (injection heq1 with heq1; cases heq1; done)
    rename_i b
    exact ⟨by simp [hp],[.lit (.bool b)],⟨b,rfl⟩,.one (by simp [rep,zxA])⟩
   ·
    rename_i k hu
    rw [hu] at h ⊢
    simp only [beq_iff_eq] at hp
    split at h <;> try (cases h; done)
    all_goals rename_i heq1 <;> try (injection heq1 with heq1; cases heq1; done)
    rename_i k0 k1 n
    injection heq1 with heq1
    injection heq1 with heq1
    subst heq1
    split at h
    ·rename_i hc
     obtain ⟨rfl,hw⟩:=hc
     exact ⟨by simp [hp],[.lit (.int k1 n)],⟨n,rfl,hw⟩,.one (by simp [rep,zxA])⟩
    ·cases h
   ·
    rename_i e hu
    rw [hu] at h ⊢
    simp only [ya,beq_iff_eq,decide_eq_true_eq] at hp
    obtain ⟨⟨hp1,hp2⟩,hp3⟩:=hp
    split at h <;> try (cases h; done)
    all_goals rename_i heq1 <;> try (injection heq1 with heq1; cases heq1; done)
    ·refine ⟨by simp [hp1],[.sl []],⟨[],rfl,by simp,fun x hx => by simp at hx⟩,.one ?_⟩
     rw [rep]
     exact ⟨none,0,0,rfl,Nat.le_refl _,by simp only [zbO],.inl rfl⟩
    ·rename_i e0 a len cap
     injection heq1 with heq1
     injection heq1 with heq1
     subst heq1
     dsimp only at h
     split at h
     ·rename_i hc
      rw [yj] at h
      obtain ⟨els,h1,hx0⟩:=h
      obtain ⟨hl0,h2⟩:=mapM_some h1
      rw [ye] at hx0
      obtain ⟨rest,_,hx0⟩:=hx0
      subst hx0
      simp only [DataW.weights,hu,List.all_cons,yo,ya,decide_eq_true_eq,List.length_map] at hwt
      obtain ⟨hw1,hw2,_⟩:=hwt
      rw [List.length_range] at hl0
      have hel : ∀ i,i < len → ∃ ci,w.cells? 0 (a.add (i * P.cellsOf e)) (P.cellsOf e) = some ci ∧ ∃ xi,zbm P m e xi ∧ zfq w xi ci:=fun i hi => by
       obtain ⟨y,hy0,h3⟩:=h2 i i (by simp [hi])
       rw [yj] at h3
       obtain ⟨ci,h3,h4⟩:=h3
       exact ⟨ci,h3,(ih e fuel ci y hp3 h4 (zlc hw2 (yt.2 ⟨y,yl hy0,rfl⟩))).2⟩
      obtain ⟨xs,hx1,hx2⟩:=zov (p:=fun i xi => ∃ ci,w.cells? 0 (a.add (i * P.cellsOf e)) (P.cellsOf e) = some ci ∧ zbm P m e xi ∧ zfq w xi ci) len fun i hi => by
       obtain ⟨ci,q1,xi,q2,q3⟩:=hel i hi
       exact ⟨xi,ci,q1,q2,q3⟩
      refine ⟨by simp [hp1],[.sl xs],⟨xs,rfl,Nat.le_trans (Nat.mul_le_mul_right _ (by omega)) hw1,fun y hy => ?_⟩,.one ?_⟩
      ·obtain ⟨i,hi⟩:=yc.1 hy
       obtain ⟨_,_,q2,_⟩:=hx2 i y hi
       exact q2
      ·rw [rep]
       refine ⟨some a,cap,P.cellsOf e,by rw [hx1],by omega,zdm fun y hy => ?_,?_⟩
       ·obtain ⟨i,hi⟩:=yc.1 hy
        obtain ⟨ci,q1,_,q3⟩:=hx2 i y hi
        rw [q3.1]
        exact (World.cells?_some q1).2.1
       ·rcases Nat.eq_zero_or_pos len with h0 | h0
        ·exact .inl (List.eq_nil_of_length_eq_zero (by omega))
        ·obtain ⟨c0,q1,_⟩:=hel 0 h0
         obtain ⟨_,l0,g0⟩:=World.cells?_some q1
         have hc0:=g0 0 hp2
         rw [Nat.zero_mul,Addr.add_zero',Addr.add_zero',yb (by omega)] at hc0
         have hspot:=World.cell?_spot hc0
         obtain ⟨b,o,s⟩:=a
         simp only at hspot
         subst hspot
         refine .inr ⟨b,o,rfl,zey fun i y hi => ?_⟩
         obtain ⟨ci,q1,_,q3⟩:=hx2 i y hi
         obtain ⟨_,l1,g1⟩:=World.cells?_some q1
         refine zf6 fun j z hj => ?_
         have hjl : j < ci.length:=by rw [← q3.1]; exact zb hj
         have hcell:=g1 j (by omega)
         rw [zaz,zaz,yb hjl] at hcell
         exact ⟨ci[j],World.block_lt_of_cell? w ⟨b,o + i * P.cellsOf e + j,none⟩ hcell,hcell,q3.2 j z _ hj (yb hjl)⟩
     ·cases h
   ·
    rename_i fs hu
    rw [hu] at h ⊢
    simp only [ya] at hp
    obtain ⟨hp1,hp2⟩:=hp
    dsimp only at h
    split at h
    ·rename_i hlen
     refine ⟨hlen,?_⟩
     rw [ye] at h
     obtain ⟨ys,h1,hx0⟩:=h
     subst hx0
     simp only [DataW.weights,hu] at hwt
     obtain ⟨_,h2⟩:=mapM_some h1
     have key : ∀ (l : List Field) (off : Nat),(∀ f ∈ l,f ∈ fs.toList) → ztF P l off (P.cellsOf t) = true → ∃ xs,zh9 (l.map fun f => zbm P m f.type) xs ∧ zfq w xs (cs.drop off):=by
      intro l
      induction l with
      | nil =>
        intro off _ hcg
        simp only [ztF,beq_iff_eq] at hcg
        exact ⟨[],by simp only [yf,zh9],by rw [yh (by omega)]; exact ⟨rfl,fun j x u h => by simp at h⟩⟩
      | cons f l ihl =>
        intro off hmem hcg
        simp only [ztF,ya,beq_iff_eq] at hcg
        obtain ⟨hf,hcg⟩:=hcg
        obtain ⟨xs,q1,q2⟩:=ihl (off + P.cellsOf f.type) (fun g hg => hmem g (ym _ hg)) hcg
        obtain ⟨i,hi⟩:=yc.1 (hmem f (by simp))
        obtain ⟨y,hy0,h3⟩:=h2 i f hi
        obtain ⟨_,aS,q3,q4⟩:=ih f.type fuel _ y (yi.1 hp1 f (hmem f (by simp))) h3 (zjk hwt (j:=i) (by rw [yn,hi]; rfl) (by rw [yn,hy0]; rfl))
        rw [hf] at q4
        refine ⟨aS ++ xs,by simp only [yd,zh9]; exact ⟨aS,xs,rfl,q3,q1⟩,?_⟩
        have e1 : cs.drop off = (cs.drop off).take (P.cellsOf f.type) ++ cs.drop (off + P.cellsOf f.type):=by
         rw [← yq,yk]
        rw [e1]
        exact q4.append q2
     obtain ⟨xs,q1,q2⟩:=key fs.toList 0 (fun f h => h) hp2
     exact ⟨xs,q1,by simpa using q2⟩
    ·cases h
   ·
    rename_i n e hu
    rw [hu] at h ⊢
    simp only [ya,beq_iff_eq] at hp
    obtain ⟨hp1,hp2⟩:=hp
    dsimp only at h
    split at h
    ·rename_i hlen
     refine ⟨hlen,?_⟩
     rw [ye] at h
     obtain ⟨ys,h1,hx0⟩:=h
     subst hx0
     simp only [DataW.weights,hu] at hwt
     obtain ⟨_,h2⟩:=mapM_some h1
     have key : ∀ (k i : Nat),i + k = n → ∃ xs,zh9 (yp k (zbm P m e)) xs ∧ zfq w xs (cs.drop (i * P.cellsOf e)):=by
      intro k
      induction k with
      | zero =>
        intro i hik
        have : i = n:=by omega
        subst this
        exact ⟨[],rfl,by rw [yh (by omega)]; exact ⟨rfl,fun j x u h => by simp at h⟩⟩
      | succ k ihk =>
        intro i hik
        obtain ⟨xs,q1,q2⟩:=ihk (i + 1) (by omega)
        obtain ⟨y,hy0,h3⟩:=h2 i i (List.getElem?_range (by omega))
        obtain ⟨_,aS,q3,q4⟩:=ih e fuel _ y hp1 h3 (zlc hwt (yt.2 ⟨y,yl hy0,rfl⟩))
        refine ⟨aS ++ xs,by simp only [List.replicate_succ,zh9]; exact ⟨aS,xs,rfl,q3,q1⟩,?_⟩
        have e1 : cs.drop (i * P.cellsOf e) = (cs.drop (i * P.cellsOf e)).take (P.cellsOf e) ++ cs.drop ((i + 1) * P.cellsOf e):=by
         rw [Nat.add_mul,Nat.one_mul,← yq,yk]
        rw [e1]
        exact q4.append q2
     obtain ⟨xs,q1,q2⟩:=key n 0 (by omega)
     exact ⟨xs,q1,by simpa using q2⟩
    ·cases h
   ·cases hp
theorem zu9 {m : Nat} {t : TypeId} {v : Value} {d : DataW H} {ps : List MemPlace} {base : Nat} {sp : Nat → Bool} {hd : Bool} (hp : zgO P m t = true) (hok : Value.okWide P w .any base t v) (h : DataW.Trod enc P w 0 sp hd t v d ps) (hwt : (d.weights P t).all (· ≤ reachBytes) = true) :
  ∃ xs,zbm P m t xs ∧ zf (G0 w) w [] (zo1 (zkE P t) xs) v:=by
 obtain ⟨fuel,h⟩:=h
 obtain ⟨hl,xs,h1,h2⟩:=zs8 m t fuel _ _ hp h hwt
 refine ⟨xs,h1,?_⟩
 have agg : zkE P t = true → zf (G0 w) w [] (zo1 (zkE P t) xs) v:=fun ha => by
  have : ∃ cs,v = .agg cs:=by
   unfold zkE at ha
   unfold Value.okWide at hok
   split at ha
   ·rename_i heq; rw [heq] at hok; obtain ⟨cs,e,_⟩:=hok; exact ⟨cs,e⟩
   ·rename_i heq; rw [heq] at hok; obtain ⟨cs,e,_⟩:=hok; exact ⟨cs,e⟩
   ·cases ha
  obtain ⟨cs,rfl⟩:=this
  rw [ha]
  simp only [zo1,if_true,zAq,zf]
  exact ⟨cs,rfl,zoW (by simpa [Value.cells] using h2.1.symm) fun j x u hx hu => h2.2 j x u hx (by simpa [Value.cells] using hu)⟩
 cases ha : zkE P t with
 | true => rw [← ha]; exact agg ha
 | false =>
   have hone : v.oneCell' = true ∧ P.cellsOf t = 1:=by
    cases m with
    | zero => simp [zgO] at hp
    | succ m =>
      unfold zgO at hp
      unfold zkE at ha
      unfold Value.okWide at hok
      split at hp
      ·rename_i hu
       simp only [beq_iff_eq] at hp
       simp only [hu,Cell.okWide] at hok
       refine ⟨?_,hp⟩
       cases v <;> simp_all [Cell.okWide,Cell.ok,Value.oneCell']
      ·rename_i k hu
       simp only [beq_iff_eq] at hp
       simp only [hu,Cell.okWide] at hok
       refine ⟨?_,hp⟩
       cases v <;> simp_all [Cell.okWide,Cell.ok,Value.oneCell']
      ·rename_i e hu
       simp only [ya,beq_iff_eq] at hp
       simp only [hu,Cell.okWide] at hok
       refine ⟨?_,hp.1.1⟩
       cases v <;> simp_all [Cell.okWide,Cell.ok,Value.oneCell']
      ·rename_i hu; rw [hu] at ha; simp at ha
      ·rename_i hu; rw [hu] at ha; simp at ha
      ·cases hp
   have hc:=ztD hone.1
   rw [hc] at h2
   obtain ⟨q1,q2⟩:=h2
   match xs,q1 with
   | [x],_ =>
     simp only [zo1,Bool.false_eq_true,if_false,List.headD_cons,zf,zw]
     exact q2 0 x v (by simp) (by simp)
end
section
variable {H : Type} {enc : TypeId × Value → H} {P : Program}
theorem zAX {C : zad} (S : zgQ P C) {f : Nat} {fn : Func} {s : ChangeSpec} {t1 t2 tb m1 m2 : Nat} {apart fresh handsOn again : Bool}
  (hl : laidOutB P = true) (hpar : fn.params = #[t1,t2]) (hres : fn.resultTypes = #[tb]) (hb : P.underlying tb = some .bool) (hvars : s.vars = [])
  (r1 : P.readableRec t1 = true) (r2 : P.readableRec t2 = true) (z1 : t1 < P.types.size) (z2 : t2 < P.types.size) (p1 : zgO P m1 t1 = true) (p2 : zgO P m2 t2 = true)
  (hfn : ∀ (d1 d2 : DataW H),(s.fn H [d1,d2]).results = [.lit (.bool true)] ∧ (s.fn H [d1,d2]).args = [d1,d2] ∧ (s.fn H [d1,d2]).vars = [])
  (hA : ∀ x1 x2,zbm P m1 t1 x1 → zbm P m2 t2 x2 → C f [zo1 (zkE P t1) x1,zo1 (zkE P t2) x2] [] = some (ziV true,[]))
  {W : World} {base : Nat} {args : Array Value} {ds gs : List (DataW H)} {before : List MemPlace}
  (hval : ∀ (j : Nat) t v,fn.params[j]? = some t → args[j]? = some v → Value.okWide P W .any base t v)
  (hW : DataW.Whole enc P fn.params.toList s.vars apart W args.toList ds gs before)
  (hsz : (DataW.weightsEach P (fn.params.toList ++ s.plain.varTypes P) (ds ++ gs)).all (· ≤ reachBytes) = true) :
  Calls P f args W fun e W' => ∃ v,e = .returned v ∧ s.post enc P fn apart fresh handsOn again W args v W':=by
 have hW':=hW
 obtain ⟨p,q,hA0,hV,rfl,hfz,hnd⟩:=hW
 rw [hpar] at hA0 hval hsz
 obtain ⟨v1,v2,d1,d2,q1,q2,rfl,rfl,rfl,h1,h2⟩:=trodAll_two hA0
 rw [hvars] at hV
 obtain ⟨rfl,rfl⟩:=trodVars_none hV
 obtain ⟨x1,k1,e1⟩:=zu9 p1 (hval 0 t1 v1 rfl rfl) h1 (zjk hsz (j:=0) rfl rfl)
 obtain ⟨x2,k2,e2⟩:=zu9 p2 (hval 1 t2 v2 rfl rfl) h2 (zjk hsz (j:=1) rfl rfl)
 have hv : zz (G0 W) W [] [zo1 (zkE P t1) x1,zo1 (zkE P t2) x2] [v1,v2]:=by
  simp only [zz]
  exact ⟨v1,[v2],rfl,e1,v2,[],rfl,e2,rfl⟩
 refine (zxn S (hA x1 x2 k1 k2) hv).mono fun e W' he => ?_
 obtain ⟨rfl,hB⟩:=he
 obtain ⟨f1,f2,f3⟩:=hfn d1 d2
 have hlt:=hW'.lt
 have g1 : ∀ x ∈ q1,x.block < W.heap.size:=fun x hx => hlt x (by simp [hx])
 have g2 : ∀ x ∈ q2,x.block < W.heap.size:=fun x hx => hlt x (by simp [hx])
 refine ⟨_,rfl,zxv hW' hB hvars (fun _ _ _ => ?_) (fun sp hsp => ?_) (by rw [yg,f3]) (ok_one hres rfl (okWide_bool_mk hb _))⟩
 ·rw [hres]
  show DataW.TrodAll enc P W' _ _ _ [tb] [.bool true] (s.fn H ([d1,d2] ++ [])).results []
  rw [yg,f1]
  exact trodAll_mk1 (shut_bool hb _)
 ·rw [hpar]
  show DataW.TrodAll enc P W' 0 sp true [t1,t2] [v1,v2] (s.fn H ([d1,d2] ++ [])).args (q1 ++ q2 ++ [])
  rw [yg,yg,f2]
  exact trodAll_mk2 (WideElems.Trod_stays hl r1 z1 h1 (fun x hx => hB.same (g1 x hx)) (fun x hx => hsp x (by simp [hx]))) (WideElems.Trod_stays hl r2 z2 h2 (fun x hx => hB.same (g2 x hx)) (fun x hx => hsp x (by simp [hx])))
end
end Go.A
namespace AC
open Go Go.A Go.Proofs
set_option maxRecDepth 100000
theorem zBG {n b : Nat} (hb : 1 ≤ b) (h : n * b ≤ reachBytes) : n ≤ LB:=by
 have : n * 1 ≤ n * b:=Nat.mul_le_mul_left n hb
 unfold reachBytes at h
 unfold LB
 omega
theorem zDj {m : Nat} {x : List Fz} (h : zbm Tryz.prog m 49 x) : ∃ n,x = [.lit (.int .u64 n)] ∧ 0 ≤ n ∧ n < 18446744073709551616:=by
 cases m with
 | zero => exact h.elim
 | succ m =>
   unfold zbm at h
   rw [Tryz.underlying49] at h
   obtain ⟨n,h1,h2⟩:=h
   refine ⟨n,h1,?_⟩
   simp only [Lit.wf,ya,decide_eq_true_eq] at h2
   have e : IntKind.u64.max = 18446744073709551615:=by decide
   have e2 : IntKind.u64.min = 0:=by decide
   omega
theorem zEu {m : Nat} {x : List Fz} (h : zbm Tryz.prog m 5 x) : ∃ n,x = [.lit (.int .u8 n)] ∧ 0 ≤ n ∧ n < 256:=by
 cases m with
 | zero => exact h.elim
 | succ m =>
   unfold zbm at h
   rw [Tryz.underlying5] at h
   obtain ⟨n,h1,h2⟩:=h
   refine ⟨n,h1,?_⟩
   simp only [Lit.wf,ya,decide_eq_true_eq] at h2
   have e : IntKind.u8.max = 255:=by decide
   have e2 : IntKind.u8.min = 0:=by decide
   omega
theorem zhR {m : Nat} {x : List Fz} (h : zbm Tryz.prog m 3 x) : ∃ n,x = ri n ∧ -9223372036854775808 ≤ n ∧ n ≤ 9223372036854775807:=by
 cases m with
 | zero => exact h.elim
 | succ m =>
   unfold zbm at h
   rw [Tryz.underlying3] at h
   obtain ⟨n,h1,h2⟩:=h
   refine ⟨n,h1,?_⟩
   simp only [Lit.wf,ya,decide_eq_true_eq] at h2
   have e : IntKind.i64.max = 9223372036854775807:=by decide
   have e2 : IntKind.i64.min = -9223372036854775808:=by decide
   omega
theorem zpf {α : Type} {P : List Fz → Prop} {r : α → List Fz} {q : α → Prop} (h : ∀ x,P x → ∃ a,x = r a ∧ q a) : ∀ xs : List (List Fz),(∀ x ∈ xs,P x) → ∃ l : List α,xs = l.map r ∧ ∀ a ∈ l,q a
 | [],_ => ⟨[],rfl,fun _ h => by simp at h⟩
 | x :: xs,hx => by
   obtain ⟨l,rfl,h2⟩:=zpf h xs fun y hy => hx y (ym _ hy)
   obtain ⟨a,rfl,ha⟩:=h x (hx x List.mem_cons_self)
   refine ⟨a :: l,rfl,fun u hu => ?_⟩
   rcases yr.1 hu with rfl | hu
   ·exact ha
   ·exact h2 u hu
theorem b3 : 1 ≤ Tryz.prog.bytesOf 3:=of_decide_eq_true (by kernel_rfl)
theorem b27 : 1 ≤ Tryz.prog.bytesOf 51:=of_decide_eq_true (by kernel_rfl)
theorem b61 : 1 ≤ Tryz.prog.bytesOf 74:=of_decide_eq_true (by kernel_rfl)
theorem b32 : 1 ≤ Tryz.prog.bytesOf 44:=of_decide_eq_true (by kernel_rfl)
theorem zmo {m : Nat} {x : List Fz} (h : zbm Tryz.prog m 22 x) : ∃ l : List Int,x = rl l ∧ l.length ≤ LB ∧ ∀ n ∈ l,-9223372036854775808 ≤ n ∧ n ≤ 9223372036854775807:=by
 cases m with
 | zero => exact h.elim
 | succ m =>
   unfold zbm at h
   rw [Tryz.underlying22] at h
   obtain ⟨xs,rfl,hn,hx⟩:=h
   obtain ⟨l,rfl,hl⟩:=zpf (fun x hx => zhR hx) xs hx
   exact ⟨l,rfl,by simpa using zBG b3 hn,hl⟩
theorem zDY {m : Nat} {x : List Fz} (h : zbm Tryz.prog m 51 x) : ∃ o : POp,x = ro o ∧ (0 ≤ o.imm ∧ o.imm < 18446744073709551616) ∧ o.args.length ≤ LB:=by
 cases m with
 | zero => exact h.elim
 | succ m =>
   unfold zbm at h
   rw [Tryz.underlying51] at h
   simp only [yd,yf,zh9] at h
   obtain ⟨p1,q1,rfl,h1,p2,q2,rfl,h2,p3,q3,rfl,h3,p4,q4,rfl,h4,p5,q5,rfl,h5,p6,q6,rfl,h6,rfl⟩:=h
   obtain ⟨a,rfl,_⟩:=zhR h1
   obtain ⟨b,rfl,_⟩:=zhR h2
   obtain ⟨c,rfl,_⟩:=zhR h3
   obtain ⟨d,rfl,_⟩:=zhR h4
   obtain ⟨e,rfl,he,_⟩:=zmo h5
   obtain ⟨g,rfl,hg⟩:=zDj h6
   exact ⟨⟨a,b,c,d,e,g⟩,rfl,hg,he⟩
theorem zDL {m : Nat} {x : List Fz} (h : zbm Tryz.prog m 74 x) : ∃ p : PPhi,x = rp p ∧ p.src.length ≤ LB ∧ p.args.length ≤ LB:=by
 cases m with
 | zero => exact h.elim
 | succ m =>
   unfold zbm at h
   rw [Tryz.underlying74] at h
   simp only [yd,yf,zh9] at h
   obtain ⟨p1,q1,rfl,h1,p2,q2,rfl,h2,p3,q3,rfl,h3,p4,q4,rfl,h4,rfl⟩:=h
   obtain ⟨a,rfl,_⟩:=zhR h1
   obtain ⟨b,rfl,_⟩:=zhR h2
   obtain ⟨c,rfl,hc,_⟩:=zmo h3
   obtain ⟨d,rfl,hd,_⟩:=zmo h4
   exact ⟨⟨a,b,c,d⟩,rfl,hc,hd⟩
theorem zyH {m : Nat} {x : List Fz} (h : zbm Tryz.prog m 44 x) : ∃ b : PBlock,x = rb b ∧ anyB b:=by
 cases m with
 | zero => exact h.elim
 | succ m =>
   unfold zbm at h
   rw [Tryz.underlying44] at h
   simp only [yd,yf,zh9] at h
   obtain ⟨p1,q1,rfl,h1,p2,q2,rfl,h2,p3,q3,rfl,h3,rfl⟩:=h
   cases m with
   | zero => exact h1.elim
   | succ m =>
     unfold zbm at h1 h2 h3
     rw [Tryz.underlying39] at h1
     rw [Tryz.underlying40] at h2
     rw [Tryz.underlying42] at h3
     simp only [yd,yf,zh9] at h3
     obtain ⟨xs,rfl,n1,k1⟩:=h1
     obtain ⟨ys,rfl,n2,k2⟩:=h2
     obtain ⟨r1,s1,rfl,g1,r2,s2,rfl,g2,r3,s3,rfl,g3,rfl⟩:=h3
     obtain ⟨a,rfl,_⟩:=zhR g1
     obtain ⟨b,rfl,_⟩:=zhR g2
     obtain ⟨c,rfl,hc,_⟩:=zmo g3
     obtain ⟨phis,rfl,hp⟩:=zpf (fun x hx => zDL hx) xs k1
     obtain ⟨ops,rfl,ho⟩:=zpf (fun x hx => zDY hx) ys k2
     refine ⟨⟨phis,ops,a,b,c⟩,rfl,?_,?_,hp,ho,hc⟩
     ·simpa using zBG b61 n1
     ·simpa using zBG b27 n2
theorem zBd {m : Nat} {x : List Fz} (h : zbm Tryz.prog m 25 x) : ∃ f : PFunc,zo1 true x = zgS f ∧ anyF f:=by
 cases m with
 | zero => exact h.elim
 | succ m =>
   unfold zbm at h
   rw [Tryz.underlying25] at h
   simp only [yd,yf,zh9] at h
   obtain ⟨p1,q1,rfl,h1,p2,q2,rfl,h2,p3,q3,rfl,h3,rfl⟩:=h
   obtain ⟨a,rfl,ha,_⟩:=zmo h1
   obtain ⟨b,rfl,_⟩:=zhR h2
   cases m with
   | zero => exact h3.elim
   | succ m =>
     unfold zbm at h3
     rw [Tryz.underlying23] at h3
     obtain ⟨xs,rfl,n1,k1⟩:=h3
     obtain ⟨l,rfl,hl⟩:=zpf (fun x hx => zyH hx) xs k1
     refine ⟨⟨a,b,l⟩,rfl,ha,?_,hl⟩
     simpa using zBG b32 n1
end AC
namespace AC
open Go Go.A Go.Proofs
set_option maxRecDepth 100000
theorem zpF (x1 x2 : List Fz) (h1 : zbm Tryz.prog 8 25 x1) (h2 : zbm Tryz.prog 8 5 x2) :
  call T 5 [zo1 true x1,zo1 false x2] [] = some (ziV true,[]):=by
 obtain ⟨f1,e1,hf1⟩:=zBd h1
 rw [e1]
 obtain ⟨y2,rfl,b2⟩:=zEu h2
 exact zyl f1 hf1 y2 b2
end AC
namespace Go.Proofs.YtmkncmffaaninaaGreat
open Go.ChangeShapes Go.WideShapes Go.ChangeAt Go.RowKit Go.A
set_option maxRecDepth 100000 in
theorem zmL (os : Os) (started : os.Started) (H : Type) (enc : TypeId × Value → H) :
  ReturnsInHanded {} Tryz.checked os 5 .any (Rows.schedDepthSpec.pre6 enc Tryz.prog Tryz.f5 Rows.schedDepthRow.domain false) (Rows.schedDepthSpec.post enc Tryz.prog Tryz.f5 false true false false):=by
 refine returnsInHanded_of_change_sized (C:=Tryz.checked) Tryz.own started (by kernel_rfl) Tryz.func5
  (ChangeSpec.witness6 (enc:=enc) (C:=Tryz.checked) false ⟨#[],#[.agg #[.slice none 0 0,.int .i64 0,.slice none 0 0],.int .u8 0],[]⟩ 8 (by kernel_rfl) (by kernel_rfl) (by kernel_rfl) (by kernel_rfl)) ?_
 intro W base args ds gs before hval hW _ hsz _
 exact zAX (m1:=8) (m2:=8) (t1:=25) (t2:=5) (tb:=4) AC.zDB Tryz.laidOut Tryz.params5 (by kernel_rfl) (by kernel_rfl) rfl (by kernel_rfl) (by kernel_rfl) (of_decide_eq_true (by kernel_rfl)) (of_decide_eq_true (by kernel_rfl)) (by kernel_rfl) (by kernel_rfl) (fun _ _ => ⟨rfl,rfl,rfl⟩) AC.zpF hval hW hsz
end Go.Proofs.YtmkncmffaaninaaGreat
