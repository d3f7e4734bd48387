/- A part of the proof of SchedTells. Conditions: none. -/
import Derived.Test.YtmkncmffaaninaaGreatTBO
import Derived.SizedLaws
import Derived.Test.YtmkncmffaaninaaGreatTBN
import Derived.Test.YtmkncmffaaninaaGreatTBK
import Derived.Test.YtmkncmffaaninaaGreatRows
import Derived.ProofKit
set_option linter.all false
open Bool renaming and_eq_true → ya
open List renaming getElem?_eq_getElem → yb,map_cons → yc,map_nil → yd,mem_iff_getElem? → ye,append_nil → yg,drop_eq_nil_of_le → yh,all_eq_true → yi,take_append_drop → yk,mem_of_getElem? → yl,mem_cons_of_mem → ym,getElem?_map → yn,all_append → yo,replicate → yp,drop_drop → yq,mem_cons → yr,mem_map → yt
open Option renaming map_eq_some_iff → yf,bind_eq_some_iff → yj
namespace Go.A
open Go.RowKit Go.ChangeShapes
def zbz (P : Program) : Nat → TypeId → List Fz → Prop
 | 0,_,_ => False
 | n + 1,t,cs => match P.underlying t with
   | some .bool => ∃ b,cs = [.lit (.bool b)]
   | some (.int k) => ∃ x,cs = [.lit (.int k x)] ∧ (Lit.int k x).wf = true
   | some (.slice e) => ∃ xs : List (List Fz),cs = [.sl xs] ∧ xs.length * P.bytesOf e ≤ reachBytes ∧ ∀ x ∈ xs,zbz P n e x
   | some (.struct fs) => zh9 (fs.toList.map fun f => zbz P n f.type) cs
   | some (.array m e) => zh9 (yp m (zbz P n e)) cs
   | _ => False
section
variable {H : Type} {P : Program}
theorem zme {e : TypeId} : ∀ {l : List (DataW H)},(DataW.weightsAll P e l).all (· ≤ reachBytes) = true → ∀ {d},d ∈ l → (d.weights P e).all (· ≤ reachBytes) = true
 | [],_,_,hd => by simp at hd
 | x :: r,h,d,hd => by
   rw [DataW.weightsAll,yo,ya] at h;rcases yr.1 hd with rfl | hd
   ·exact h.1
   ·exact zme h.2 hd
theorem zkQ {a : List TypeId} {ds : List (DataW H)} (h : (DataW.weightsEach P a ds).all (· ≤ reachBytes) = true) {j : Nat} {t : TypeId} {d : DataW H} (c : a[j]? = some t) (hd : ds[j]? = some d) : (d.weights P t).all (· ≤ reachBytes) = true :=
 yi.2 fun n b => yi.1 h n (DataW.weights_mem_each c hd n b)
end
section
variable {H : Type} {enc : TypeId × Value → H} {P : Program} {w : World}
theorem zul {sp : Nat → Bool} {hd : Bool} : ∀ (m : Nat) (t : TypeId) (fuel : Nat) (cs : List Value) (x : DataW H × List MemPlace),zhK P m t = true → DataW.trod enc P w 0 sp hd fuel t cs = some x → (x.1.weights P t).all (· ≤ reachBytes) = true →
  cs.length = P.cellsOf t ∧ ∃ xs,zbz P m t xs ∧ zgi w xs cs
 | 0,_,_,_,_,h,_,_ => by simp [zhK] at h
 | _ + 1,_,0,_,_,_,h,_ => by simp [DataW.trod] at h
 | m + 1,t,fuel + 1,cs,x,hp,h,hwt => by
   have Z:=fun t' L Y x' => zul (sp:=sp) (hd:=hd) m t' L Y x';unfold zhK at hp;unfold DataW.trod at h;unfold zbz;split at hp
   ·
    rename_i hu;rw [hu] at h ⊢;simp only [beq_iff_eq] at hp
    split at h <;> try (cases h; done)
    all_goals rename_i c <;> try (injection c with c; cases c; done)
    rename_i b;exact ⟨by simp [hp],[.lit (.bool b)],⟨b,rfl⟩,.one (by simp [rep,zzg])⟩
   ·
    rename_i k hu;rw [hu] at h ⊢;simp only [beq_iff_eq] at hp
    split at h <;> try (cases h; done)
    all_goals rename_i c <;> try (injection c with c; cases c; done)
    rename_i k0 k1 n;injection c with c;injection c with c;subst c;split at h
    ·rename_i hc
     obtain ⟨rfl,hw⟩:=hc;exact ⟨by simp [hp],[.lit (.int k1 n)],⟨n,rfl,hw⟩,.one (by simp [rep,zzg])⟩
    ·cases h
   ·
    rename_i e hu;rw [hu] at h ⊢;simp only [ya,beq_iff_eq,decide_eq_true_eq] at hp;obtain ⟨⟨A,J⟩,aD⟩:=hp
    split at h <;> try (cases h; done)
    all_goals rename_i c <;> try (injection c with c; cases c; done)
    ·refine ⟨by simp [A],[.sl []],⟨[],rfl,by simp,fun x hx => by simp at hx⟩,.one ?_⟩
     rw [rep];exact ⟨none,0,0,rfl,Nat.le_refl _,by simp only [zb9],.inl rfl⟩
    ·rename_i e0 a len cap
     injection c with c;injection c with c;subst c;dsimp only at h;split at h
     ·rename_i hc
      rw [yj] at h;obtain ⟨aE,Q,d⟩:=h;obtain ⟨aA,U⟩:=mapM_some Q;rw [yf] at d;obtain ⟨rest,_,d⟩:=d;subst d;simp only [DataW.weights,hu,List.all_cons,yo,ya,decide_eq_true_eq,List.length_map] at hwt;obtain ⟨aB,X,_⟩:=hwt;rw [List.length_range] at aA
      have R : ∀ i,i < len → ∃ ci,w.cells? 0 (a.add (i * P.cellsOf e)) (P.cellsOf e) = some ci ∧ ∃ N,zbz P m e N ∧ zgi w N ci:=fun i B => by
       obtain ⟨y,D,K⟩:=U i i (by simp [B]);rw [yj] at K;obtain ⟨ci,K,h4⟩:=K;exact ⟨ci,K,(Z e fuel ci y aD h4 (zme X (yt.2 ⟨y,yl D,rfl⟩))).2⟩
      obtain ⟨xs,W,M⟩:=zra (p:=fun i N => ∃ ci,w.cells? 0 (a.add (i * P.cellsOf e)) (P.cellsOf e) = some ci ∧ zbz P m e N ∧ zgi w N ci) len fun i B => by
       obtain ⟨ci,r,N,E,I⟩:=R i B;exact ⟨N,ci,r,E,I⟩
      refine ⟨by simp [A],[.sl xs],⟨xs,rfl,Nat.le_trans (Nat.mul_le_mul_right _ (by omega)) aB,fun y hy => ?_⟩,.one ?_⟩
      ·obtain ⟨i,B⟩:=ye.1 hy
       obtain ⟨_,_,E,_⟩:=M i y B;exact E
      ·rw [rep]
       refine ⟨some a,cap,P.cellsOf e,by rw [W],by omega,zfK fun y hy => ?_,?_⟩
       ·obtain ⟨i,B⟩:=ye.1 hy
        obtain ⟨ci,r,_,I⟩:=M i y B;rw [I.1];exact (World.cells?_some r).2.1
       ·rcases Nat.eq_zero_or_pos len with h0 | h0
        ·exact .inl (List.eq_nil_of_length_eq_zero (by omega))
        ·obtain ⟨c0,r,_⟩:=R 0 h0
         obtain ⟨_,l0,g0⟩:=World.cells?_some r;have S:=g0 0 J;rw [Nat.zero_mul,Addr.add_zero',Addr.add_zero',yb (by omega)] at S;have C:=World.cell?_spot S;obtain ⟨b,o,s⟩:=a;simp only at C;subst C;refine .inr ⟨b,o,rfl,zgG fun i y B => ?_⟩;obtain ⟨ci,r,_,I⟩:=M i y B;obtain ⟨_,l1,g1⟩:=World.cells?_some r;refine ziW fun j z hj => ?_;have O : j < ci.length:=(by rw [← I.1]; exact zb hj);have q:=g1 j (by omega);rw [zaR,zaR,yb O] at q;exact ⟨ci[j],World.block_lt_of_cell? w ⟨b,o + i * P.cellsOf e + j,none⟩ q,q,I.2 j z _ hj (yb O)⟩
     ·cases h
   ·
    rename_i fs hu;rw [hu] at h ⊢;simp only [ya] at hp;obtain ⟨A,J⟩:=hp;dsimp only at h;split at h
    ·rename_i hlen
     refine ⟨hlen,?_⟩;rw [yf] at h;obtain ⟨ys,Q,d⟩:=h;subst d;simp only [DataW.weights,hu] at hwt;obtain ⟨_,U⟩:=mapM_some Q
     have key : ∀ (l : List Field) (off : Nat),(∀ f ∈ l,f ∈ fs.toList) → zux P l off (P.cellsOf t) = true → ∃ xs,zh9 (l.map fun f => zbz P m f.type) xs ∧ zgi w xs (cs.drop off):=by
      intro l
      induction l with
      | nil =>
        intro off _ v;simp only [zux,beq_iff_eq] at v;exact ⟨[],by simp only [yd,zh9],by rw [yh (by omega)]; exact ⟨rfl,fun j x u h => by simp at h⟩⟩
      | cons f l ihl =>
        intro off G v;simp only [zux,ya,beq_iff_eq] at v;obtain ⟨hf,v⟩:=v;obtain ⟨xs,r,E⟩:=ihl (off + P.cellsOf f.type) (fun g hg => G g (ym _ hg)) v;obtain ⟨i,B⟩:=ye.1 (G f (by simp));obtain ⟨y,D,K⟩:=U i f B;obtain ⟨_,aS,I,V⟩:=Z f.type fuel _ y (yi.1 A f (G f (by simp))) K (zkQ hwt (j:=i) (by rw [yn,B]; rfl) (by rw [yn,D]; rfl));rw [hf] at V;refine ⟨aS ++ xs,by simp only [yc,zh9]; exact ⟨aS,xs,rfl,I,r⟩,?_⟩
        have e1 : cs.drop off = (cs.drop off).take (P.cellsOf f.type) ++ cs.drop (off + P.cellsOf f.type):=by
         rw [← yq,yk]
        rw [e1];exact V.append E
     obtain ⟨xs,r,E⟩:=key fs.toList 0 (fun f h => h) J;exact ⟨xs,r,by simpa using E⟩
    ·cases h
   ·
    rename_i n e hu;rw [hu] at h ⊢;simp only [ya,beq_iff_eq] at hp;obtain ⟨A,J⟩:=hp;dsimp only at h;split at h
    ·rename_i hlen
     refine ⟨hlen,?_⟩;rw [yf] at h;obtain ⟨ys,Q,d⟩:=h;subst d;simp only [DataW.weights,hu] at hwt;obtain ⟨_,U⟩:=mapM_some Q
     have key : ∀ (k i : Nat),i + k = n → ∃ xs,zh9 (yp k (zbz P m e)) xs ∧ zgi w xs (cs.drop (i * P.cellsOf e)):=by
      intro k
      induction k with
      | zero =>
        intro i aC;have : i = n:=(by omega);subst this;exact ⟨[],rfl,by rw [yh (by omega)]; exact ⟨rfl,fun j x u h => by simp at h⟩⟩
      | succ k ihk =>
        intro i aC;obtain ⟨xs,r,E⟩:=ihk (i + 1) (by omega);obtain ⟨y,D,K⟩:=U i i (List.getElem?_range (by omega));obtain ⟨_,aS,I,V⟩:=Z e fuel _ y A K (zme hwt (yt.2 ⟨y,yl D,rfl⟩));refine ⟨aS ++ xs,by simp only [List.replicate_succ,zh9]; exact ⟨aS,xs,rfl,I,r⟩,?_⟩
        have e1 : cs.drop (i * P.cellsOf e) = (cs.drop (i * P.cellsOf e)).take (P.cellsOf e) ++ cs.drop ((i + 1) * P.cellsOf e):=by
         rw [Nat.add_mul,Nat.one_mul,← yq,yk]
        rw [e1];exact V.append E
     obtain ⟨xs,r,E⟩:=key n 0 (by omega);exact ⟨xs,r,by simpa using E⟩
    ·cases h
   ·cases hp
theorem zw8 {m : Nat} {t : TypeId} {v : Value} {d : DataW H} {p : List MemPlace} {base : Nat} {sp : Nat → Bool} {hd : Bool} (c : zhK P m t = true) (a : Value.okWide P w .any base t v) (h : DataW.Trod enc P w 0 sp hd t v d p) (i : (d.weights P t).all (· ≤ reachBytes) = true) :
  ∃ xs,zbz P m t xs ∧ zf (G0 w) w [] (zpl (zl1 P t) xs) v:=by
 obtain ⟨fuel,h⟩:=h;obtain ⟨s,xs,n,g⟩:=zul m t fuel _ _ c h i;refine ⟨xs,n,?_⟩
 have agg : zl1 P t = true → zf (G0 w) w [] (zpl (zl1 P t) xs) v:=fun b => by
  have : ∃ cs,v = .agg cs:=by
   unfold zl1 at b;unfold Value.okWide at a;split at b
   ·rename_i heq; rw [heq] at a; obtain ⟨cs,e,_⟩:=a; exact ⟨cs,e⟩
   ·rename_i heq; rw [heq] at a; obtain ⟨cs,e,_⟩:=a; exact ⟨cs,e⟩
   ·cases b
  obtain ⟨cs,rfl⟩:=this;rw [b];simp only [zpl,if_true,zCa,zf];exact ⟨cs,rfl,zrd (by simpa [Value.cells] using g.1.symm) fun j x u q hu => g.2 j x u q (by simpa [Value.cells] using hu)⟩
 cases b : zl1 P t with
 | true => rw [← b]; exact agg b
 | false =>
   have f : v.oneCell' = true ∧ P.cellsOf t = 1:=by
    cases m with
    | zero => simp [zhK] at c
    | succ m =>
      unfold zhK at c;unfold zl1 at b;unfold Value.okWide at a;split at c
      ·rename_i hu
       simp only [beq_iff_eq] at c;simp only [hu,Cell.okWide] at a;refine ⟨?_,c⟩;cases v <;> simp_all [Cell.okWide,Cell.ok,Value.oneCell']
      ·rename_i k hu
       simp only [beq_iff_eq] at c;simp only [hu,Cell.okWide] at a;refine ⟨?_,c⟩;cases v <;> simp_all [Cell.okWide,Cell.ok,Value.oneCell']
      ·rename_i e hu
       simp only [ya,beq_iff_eq] at c;simp only [hu,Cell.okWide] at a;refine ⟨?_,c.1.1⟩;cases v <;> simp_all [Cell.okWide,Cell.ok,Value.oneCell']
      ·rename_i hu; rw [hu] at b; simp at b
      ·rename_i hu; rw [hu] at b; simp at b
      ·cases c
   have l:=zu2 f.1;rw [l] at g;obtain ⟨r,o⟩:=g
   match xs,r with
   | [x],_ =>
     simp only [zpl,Bool.false_eq_true,if_false,List.headD_cons,zf,zz];exact o 0 x v (by simp) (by simp)
end
section
variable {H : Type} {enc : TypeId × Value → H} {P : Program}
theorem zCk {C : zai} (S : zh3 P C) {f : Nat} {fn : Func} {s : ChangeSpec} {t1 t2 tb m1 m2 : Nat} {apart fresh handsOn again : Bool}
  (r : laidOutB P = true) (d : fn.params = #[t1,t2]) (g : fn.resultTypes = #[tb]) (z : P.underlying tb = some .bool) (b : s.vars = [])
  (r1 : P.readableRec t1 = true) (O : P.readableRec t2 = true) (E : t1 < P.types.size) (M : t2 < P.types.size) (p1 : zhK P m1 t1 = true) (p2 : zhK P m2 t2 = true)
  (o : ∀ (d1 d2 : DataW H),(s.fn H [d1,d2]).results = [.lit (.bool true)] ∧ (s.fn H [d1,d2]).args = [d1,d2] ∧ (s.fn H [d1,d2]).vars = [])
  (Q : ∀ x1 x2,zbz P m1 t1 x1 → zbz P m2 t2 x2 → C f [zpl (zl1 P t1) x1,zpl (zl1 P t2) x2] [] = some (zkh true,[]))
  {W : World} {base : Nat} {args : Array Value} {ds gs : List (DataW H)} {before : List MemPlace}
  (a : ∀ (j : Nat) t v,fn.params[j]? = some t → args[j]? = some v → Value.okWide P W .any base t v)
  (w : DataW.Whole enc P fn.params.toList s.vars apart W args.toList ds gs before)
  (h : (DataW.weightsEach P (fn.params.toList ++ s.plain.varTypes P) (ds ++ gs)).all (· ≤ reachBytes) = true) :
  Calls P f args W fun e W' => ∃ v,e = .returned v ∧ s.post enc P fn apart fresh handsOn again W args v W':=by
 have l:=w;obtain ⟨p,q,i,A,rfl,N,R⟩:=w;rw [d] at i a h;obtain ⟨v1,v2,d1,d2,D,y,rfl,rfl,rfl,u,B⟩:=trodAll_two i;rw [b] at A;obtain ⟨rfl,rfl⟩:=trodVars_none A;obtain ⟨x1,J,e1⟩:=zw8 p1 (a 0 t1 v1 rfl rfl) u (zkQ h (j:=0) rfl rfl);obtain ⟨x2,I,e2⟩:=zw8 p2 (a 1 t2 v2 rfl rfl) B (zkQ h (j:=1) rfl rfl)
 have L : zA (G0 W) W [] [zpl (zl1 P t1) x1,zpl (zl1 P t2) x2] [v1,v2]:=by
  simp only [zA];exact ⟨v1,[v2],rfl,e1,v2,[],rfl,e2,rfl⟩
 refine (zxN S (Q x1 x2 J I) L).mono fun e W' he => ?_;obtain ⟨rfl,n⟩:=he;obtain ⟨f1,f2,f3⟩:=o d1 d2;have m:=l.lt;have K : ∀ x ∈ D,x.block < W.heap.size:=fun x c => m x (by simp [c]);have G : ∀ x ∈ y,x.block < W.heap.size:=fun x c => m x (by simp [c]);refine ⟨_,rfl,zy6 l n b (fun _ _ _ => ?_) (fun sp k => ?_) (by rw [yg,f3]) (ok_one g rfl (okWide_bool_mk z _))⟩
 ·rw [g]
  show DataW.TrodAll enc P W' _ _ _ [tb] [.bool true] (s.fn H ([d1,d2] ++ [])).results []
  rw [yg,f1];exact trodAll_mk1 (shut_bool z _)
 ·rw [d]
  show DataW.TrodAll enc P W' 0 sp true [t1,t2] [v1,v2] (s.fn H ([d1,d2] ++ [])).args (D ++ y ++ [])
  rw [yg,yg,f2];exact trodAll_mk2 (WideElems.Trod_stays r r1 E u (fun x c => n.same (K x c)) (fun x c => k x (by simp [c]))) (WideElems.Trod_stays r O M B (fun x c => n.same (G x c)) (fun x c => k x (by simp [c])))
end
end Go.A
namespace AC
open Go Go.A Go.Proofs
set_option maxRecDepth 100000
theorem zDt {n b : Nat} (a : 1 ≤ b) (h : n * b ≤ reachBytes) : n ≤ LB:=by
 have : n * 1 ≤ n * b:=Nat.mul_le_mul_left n a;unfold reachBytes at h;unfold LB;omega
theorem zEV {m : Nat} {x : List Fz} (h : zbz Tryz.prog m 49 x) : ∃ n,x = [.lit (.int .u64 n)] ∧ 0 ≤ n ∧ n < 18446744073709551616:=by
 cases m with
 | zero => exact h.elim
 | succ m =>
   unfold zbz at h;rw [Tryz.underlying49] at h;obtain ⟨n,b,a⟩:=h;refine ⟨n,b,?_⟩;simp only [Lit.wf,ya,decide_eq_true_eq] at a;have e : IntKind.u64.max = 18446744073709551615:=(by decide);have e2 : IntKind.u64.min = 0:=(by decide);omega
theorem zg9 {m : Nat} {x : List Fz} (h : zbz Tryz.prog m 3 x) : ∃ n,x = ri n ∧ -9223372036854775808 ≤ n ∧ n ≤ 9223372036854775807:=by
 cases m with
 | zero => exact h.elim
 | succ m =>
   unfold zbz at h;rw [Tryz.underlying3] at h;obtain ⟨n,b,a⟩:=h;refine ⟨n,b,?_⟩;simp only [Lit.wf,ya,decide_eq_true_eq] at a;have e : IntKind.i64.max = 9223372036854775807:=(by decide);have e2 : IntKind.i64.min = -9223372036854775808:=(by decide);omega
theorem zq8 {α : Type} {P : List Fz → Prop} {r : α → List Fz} {q : α → Prop} (h : ∀ x,P x → ∃ a,x = r a ∧ q a) : ∀ xs : List (List Fz),(∀ x ∈ xs,P x) → ∃ l : List α,xs = l.map r ∧ ∀ a ∈ l,q a
 | [],_ => ⟨[],rfl,fun _ h => by simp at h⟩
 | x :: xs,hx => by
   obtain ⟨l,rfl,b⟩:=zq8 h xs fun y d => hx y (ym _ d);obtain ⟨a,rfl,c⟩:=h x (hx x List.mem_cons_self);refine ⟨a :: l,rfl,fun u hu => ?_⟩;rcases yr.1 hu with rfl | hu
   ·exact c
   ·exact b u hu
theorem b3 : 1 ≤ Tryz.prog.bytesOf 3:=of_decide_eq_true (by kernel_rfl)
theorem b27 : 1 ≤ Tryz.prog.bytesOf 51:=of_decide_eq_true (by kernel_rfl)
theorem b61 : 1 ≤ Tryz.prog.bytesOf 74:=of_decide_eq_true (by kernel_rfl)
theorem b32 : 1 ≤ Tryz.prog.bytesOf 44:=of_decide_eq_true (by kernel_rfl)
theorem zlm {m : Nat} {x : List Fz} (h : zbz Tryz.prog m 22 x) : ∃ l : List Int,x = rl l ∧ l.length ≤ LB ∧ ∀ n ∈ l,-9223372036854775808 ≤ n ∧ n ≤ 9223372036854775807:=by
 cases m with
 | zero => exact h.elim
 | succ m =>
   unfold zbz at h;rw [Tryz.underlying22] at h;obtain ⟨xs,rfl,b,a⟩:=h;obtain ⟨l,rfl,c⟩:=zq8 (fun x a => zg9 a) xs a;exact ⟨l,rfl,by simpa using zDt b3 b,c⟩
theorem zGI {m : Nat} {x : List Fz} (h : zbz Tryz.prog m 51 x) : ∃ o : POp,x = ro o ∧ (0 ≤ o.imm ∧ o.imm < 18446744073709551616) ∧ o.args.length ≤ LB:=by
 cases m with
 | zero => exact h.elim
 | succ m =>
   unfold zbz at h;rw [Tryz.underlying51] at h;simp only [yc,yd,zh9] at h;obtain ⟨p1,A,rfl,f,p2,t,rfl,n,r,z,rfl,j,v,s,rfl,p,q,w,rfl,l,u,y,rfl,i,rfl⟩:=h;obtain ⟨a,rfl,_⟩:=zg9 f;obtain ⟨b,rfl,_⟩:=zg9 n;obtain ⟨c,rfl,_⟩:=zg9 j;obtain ⟨d,rfl,_⟩:=zg9 p;obtain ⟨e,rfl,he,_⟩:=zlm l;obtain ⟨g,rfl,k⟩:=zEV i;exact ⟨⟨a,b,c,d,e,g⟩,rfl,k,he⟩
theorem zET {m : Nat} {x : List Fz} (h : zbz Tryz.prog m 74 x) : ∃ p : PPhi,x = rp p ∧ p.src.length ≤ LB ∧ p.args.length ≤ LB:=by
 cases m with
 | zero => exact h.elim
 | succ m =>
   unfold zbz at h;rw [Tryz.underlying74] at h;simp only [yc,yd,zh9] at h;obtain ⟨p1,r,rfl,f,p2,n,rfl,i,k,q,rfl,g,o,l,rfl,j,rfl⟩:=h;obtain ⟨a,rfl,_⟩:=zg9 f;obtain ⟨b,rfl,_⟩:=zg9 i;obtain ⟨c,rfl,e,_⟩:=zlm g;obtain ⟨d,rfl,hd,_⟩:=zlm j;exact ⟨⟨a,b,c,d⟩,rfl,e,hd⟩
theorem zBm {m : Nat} {x : List Fz} (h : zbz Tryz.prog m 44 x) : ∃ b : PBlock,x = rb b ∧ anyB b:=by
 cases m with
 | zero => exact h.elim
 | succ m =>
   unfold zbz at h;rw [Tryz.underlying44] at h;simp only [yc,yd,zh9] at h;obtain ⟨p1,A,rfl,e,p2,v,rfl,g,u,z,rfl,f,rfl⟩:=h
   cases m with
   | zero => exact e.elim
   | succ m =>
     unfold zbz at e g f;rw [Tryz.underlying39] at e;rw [Tryz.underlying40] at g;rw [Tryz.underlying42] at f;simp only [yc,yd,zh9] at f;obtain ⟨xs,rfl,s,o⟩:=e;obtain ⟨ys,rfl,n2,n⟩:=g;obtain ⟨r1,s1,rfl,p,y,s2,rfl,k,t,w,rfl,r,rfl⟩:=f;obtain ⟨a,rfl,_⟩:=zg9 p;obtain ⟨b,rfl,_⟩:=zg9 k;obtain ⟨c,rfl,l,_⟩:=zlm r;obtain ⟨d,rfl,q⟩:=zq8 (fun x i => zET i) xs o;obtain ⟨ops,rfl,j⟩:=zq8 (fun x i => zGI i) ys n;refine ⟨⟨d,ops,a,b,c⟩,rfl,?_,?_,q,j,l⟩
     ·simpa using zDt b61 s
     ·simpa using zDt b27 n2
theorem zC9 {m : Nat} {x : List Fz} (h : zbz Tryz.prog m 25 x) : ∃ f : PFunc,zpl true x = zd4 f ∧ anyF f:=by
 cases m with
 | zero => exact h.elim
 | succ m =>
   unfold zbz at h;rw [Tryz.underlying25] at h;simp only [yc,yd,zh9] at h;obtain ⟨p1,r,rfl,e,p2,p,rfl,j,o,q,rfl,c,rfl⟩:=h;obtain ⟨a,rfl,i,_⟩:=zlm e;obtain ⟨b,rfl,_⟩:=zg9 j
   cases m with
   | zero => exact c.elim
   | succ m =>
     unfold zbz at c;rw [Tryz.underlying23] at c;obtain ⟨xs,rfl,n,g⟩:=c;obtain ⟨l,rfl,d⟩:=zq8 (fun x k => zBm k) xs g;refine ⟨⟨a,b,l⟩,rfl,i,?_,d⟩;simpa using zDt b32 n
theorem zEW {m : Nat} {x : List Fz} (h : zbz Tryz.prog m 27 x) : ∃ (k a : Int) (l : List Int),zpl true x = .agg [.f (ei k),.f (ei a),.f (eI l)] ∧ (-9223372036854775808 ≤ k ∧ k ≤ 9223372036854775807) ∧ (-9223372036854775808 ≤ a ∧ a ≤ 9223372036854775807) ∧ l.length ≤ LB:=by
 cases m with
 | zero => exact h.elim
 | succ m =>
   unfold zbz at h;rw [Tryz.underlying27] at h;simp only [yc,yd,zh9] at h;obtain ⟨p1,o,rfl,g,p2,p,rfl,c,j,n,rfl,d,rfl⟩:=h;obtain ⟨k,rfl,b⟩:=zg9 g;obtain ⟨a,rfl,i⟩:=zg9 c;obtain ⟨l,rfl,e,_⟩:=zlm d;exact ⟨k,a,l,rfl,b,i,e⟩
end AC
namespace AC
open Go Go.A Go.Proofs
set_option maxRecDepth 100000
theorem zqr (c d : List Fz) (i : zbz Tryz.prog 8 25 c) (f : zbz Tryz.prog 8 27 d) :
  call T 3 [zpl true c,zpl true d] [] = some (zkh true,[]):=by
 obtain ⟨f1,e1,b⟩:=zC9 i;rw [e1];obtain ⟨h,a2,j,e2,g,e,a⟩:=zEW f;rw [e2];exact zAt f1 b h a2 j a
end AC
namespace Go.Proofs.YtmkncmffaaninaaGreat
open Go.ChangeShapes Go.WideShapes Go.ChangeAt Go.RowKit Go.A
set_option maxRecDepth 100000 in
theorem zn6 (os : Os) (started : os.Started) (H : Type) (enc : TypeId × Value → H) :
  ReturnsInHanded {} Tryz.checked os 3 .any (Rows.schedTellsSpec.pre6 enc Tryz.prog Tryz.f3 Rows.schedTellsRow.domain false) (Rows.schedTellsSpec.post enc Tryz.prog Tryz.f3 false true false false):=by
 refine returnsInHanded_of_change_sized (C:=Tryz.checked) Tryz.own started (by kernel_rfl) Tryz.func3
  (ChangeSpec.witness6 (enc:=enc) (C:=Tryz.checked) false ⟨#[],#[.agg #[.slice none 0 0,.int .i64 0,.slice none 0 0],.agg #[.int .i64 0,.int .i64 0,.slice none 0 0]],[]⟩ 8 (by kernel_rfl) (by kernel_rfl) (by kernel_rfl) (by kernel_rfl)) ?_
 intro W base args ds gs before a c _ b _;exact zCk (m1:=8) (m2:=8) (t1:=25) (t2:=27) (tb:=4) AC.zFi Tryz.laidOut Tryz.params3 (by kernel_rfl) (by kernel_rfl) rfl (by kernel_rfl) (by kernel_rfl) (of_decide_eq_true (by kernel_rfl)) (of_decide_eq_true (by kernel_rfl)) (by kernel_rfl) (by kernel_rfl) (fun _ _ => ⟨rfl,rfl,rfl⟩) AC.zqr a c b
end Go.Proofs.YtmkncmffaaninaaGreat
