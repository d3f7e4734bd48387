/- A part of the proof of AffineFinds. Conditions: none. -/
import Derived.Test.YtmkncmffaaninaaGreatXBN
import Derived.SizedLaws
import Derived.Test.YtmkncmffaaninaaGreatXBM
import Derived.Test.YtmkncmffaaninaaGreatRows
import Derived.ProofKit
set_option linter.all false
open Bool renaming and_eq_true → ya
open List renaming getElem?_eq_getElem → yb,mem_iff_getElem? → yc,map_cons → yd,map_nil → yf,append_nil → yg,drop_eq_nil_of_le → yh,all_eq_true → yi,take_append_drop → yk,mem_of_getElem? → yl,mem_cons_of_mem → ym,getElem?_map → yn,all_append → yo,replicate → yp,drop_drop → yq,mem_cons → yr,mem_map → yt
open Option renaming map_eq_some_iff → ye,bind_eq_some_iff → yj
namespace Go.A
open Go.RowKit Go.ChangeShapes
def zb9 (P : Program) : Nat → TypeId → List Fz → Prop
 | 0,_,_ => False
 | n + 1,t,cs => match P.underlying t with
   | some .bool => ∃ b,cs = [.lit (.bool b)]
   | some (.int k) => ∃ x,cs = [.lit (.int k x)] ∧ (Lit.int k x).wf = true
   | some (.slice e) => ∃ xs : List (List Fz),cs = [.sl xs] ∧ xs.length * P.bytesOf e ≤ reachBytes ∧ ∀ x ∈ xs,zb9 P n e x
   | some (.struct fs) => zje (fs.toList.map fun f => zb9 P n f.type) cs
   | some (.array m e) => zje (yp m (zb9 P n e)) cs
   | _ => False
section
variable {H : Type} {P : Program}
theorem zmu {e : TypeId} : ∀ {l : List (DataW H)},(DataW.weightsAll P e l).all (· ≤ reachBytes) = true → ∀ {d},d ∈ l → (d.weights P e).all (· ≤ reachBytes) = true
 | [],_,_,hd => by simp at hd
 | x :: r,h,d,hd => by
   rw [DataW.weightsAll,yo,ya] at h;rcases yr.1 hd with rfl | hd
   ·exact h.1
   ·exact zmu h.2 hd
theorem zk6 {a : List TypeId} {ds : List (DataW H)} (h : (DataW.weightsEach P a ds).all (· ≤ reachBytes) = true) {j : Nat} {t : TypeId} {d : DataW H} (b : a[j]? = some t) (hd : ds[j]? = some d) : (d.weights P t).all (· ≤ reachBytes) = true :=
 yi.2 fun n c => yi.1 h n (DataW.weights_mem_each b hd n c)
end
section
variable {H : Type} {enc : TypeId × Value → H} {P : Program} {w : World}
theorem zus {sp : Nat → Bool} {hd : Bool} : ∀ (m : Nat) (t : TypeId) (fuel : Nat) (cs : List Value) (x : DataW H × List MemPlace),zhN P m t = true → DataW.trod enc P w 0 sp hd fuel t cs = some x → (x.1.weights P t).all (· ≤ reachBytes) = true →
  cs.length = P.cellsOf t ∧ ∃ xs,zb9 P m t xs ∧ zgc w xs cs
 | 0,_,_,_,_,h,_,_ => by simp [zhN] at h
 | _ + 1,_,0,_,_,_,h,_ => by simp [DataW.trod] at h
 | m + 1,t,fuel + 1,cs,x,hp,h,hwt => by
   have X:=fun t' N aD x' => zus (sp:=sp) (hd:=hd) m t' N aD x';unfold zhN at hp;unfold DataW.trod at h;unfold zb9;split at hp
   ·
    rename_i hu;rw [hu] at h ⊢;simp only [beq_iff_eq] at hp
    split at h <;> try (cases h; done)
    all_goals rename_i c <;> try (injection c with c; cases c; done)
    rename_i b;exact ⟨by simp [hp],[.lit (.bool b)],⟨b,rfl⟩,.one (by simp [rep,zBx])⟩
   ·
    rename_i k hu;rw [hu] at h ⊢;simp only [beq_iff_eq] at hp
    split at h <;> try (cases h; done)
    all_goals rename_i c <;> try (injection c with c; cases c; done)
    rename_i k0 k1 n;injection c with c;injection c with c;subst c;split at h
    ·rename_i hc
     obtain ⟨rfl,hw⟩:=hc;exact ⟨by simp [hp],[.lit (.int k1 n)],⟨n,rfl,hw⟩,.one (by simp [rep,zBx])⟩
    ·cases h
   ·
    rename_i e hu;rw [hu] at h ⊢;simp only [ya,beq_iff_eq,decide_eq_true_eq] at hp;obtain ⟨⟨v,J⟩,aA⟩:=hp
    split at h <;> try (cases h; done)
    all_goals rename_i c <;> try (injection c with c; cases c; done)
    ·refine ⟨by simp [v],[.sl []],⟨[],rfl,by simp,fun x hx => by simp at hx⟩,.one ?_⟩
     rw [rep];exact ⟨none,0,0,rfl,Nat.le_refl _,by simp only [zcs],.inl rfl⟩
    ·rename_i e0 a len cap
     injection c with c;injection c with c;subst c;dsimp only at h;split at h
     ·rename_i hc
      rw [yj] at h;obtain ⟨aF,S,d⟩:=h;obtain ⟨Y,U⟩:=mapM_some S;rw [ye] at d;obtain ⟨rest,_,d⟩:=d;subst d;simp only [DataW.weights,hu,List.all_cons,yo,ya,decide_eq_true_eq,List.length_map] at hwt;obtain ⟨aC,aE,_⟩:=hwt;rw [List.length_range] at Y
      have R : ∀ i,i < len → ∃ ci,w.cells? 0 (a.add (i * P.cellsOf e)) (P.cellsOf e) = some ci ∧ ∃ M,zb9 P m e M ∧ zgc w M ci:=fun i B => by
       obtain ⟨y,C,K⟩:=U i i (by simp [B]);rw [yj] at K;obtain ⟨ci,K,h4⟩:=K;exact ⟨ci,K,(X e fuel ci y aA h4 (zmu aE (yt.2 ⟨y,yl C,rfl⟩))).2⟩
      obtain ⟨xs,Z,L⟩:=zqL (p:=fun i M => ∃ ci,w.cells? 0 (a.add (i * P.cellsOf e)) (P.cellsOf e) = some ci ∧ zb9 P m e M ∧ zgc w M ci) len fun i B => by
       obtain ⟨ci,r,M,G,I⟩:=R i B;exact ⟨M,ci,r,G,I⟩
      refine ⟨by simp [v],[.sl xs],⟨xs,rfl,Nat.le_trans (Nat.mul_le_mul_right _ (by omega)) aC,fun y W => ?_⟩,.one ?_⟩
      ·obtain ⟨i,B⟩:=yc.1 W
       obtain ⟨_,_,G,_⟩:=L i y B;exact G
      ·rw [rep]
       refine ⟨some a,cap,P.cellsOf e,by rw [Z],by omega,zfs fun y W => ?_,?_⟩
       ·obtain ⟨i,B⟩:=yc.1 W
        obtain ⟨ci,r,_,I⟩:=L i y B;rw [I.1];exact (World.cells?_some r).2.1
       ·rcases Nat.eq_zero_or_pos len with h0 | h0
        ·exact .inl (List.eq_nil_of_length_eq_zero (by omega))
        ·obtain ⟨c0,r,_⟩:=R 0 h0
         obtain ⟨_,l0,g0⟩:=World.cells?_some r;have O:=g0 0 J;rw [Nat.zero_mul,Addr.add_zero',Addr.add_zero',yb (by omega)] at O;have D:=World.cell?_spot O;obtain ⟨b,o,s⟩:=a;simp only at D;subst D;refine .inr ⟨b,o,rfl,zgw fun i y B => ?_⟩;obtain ⟨ci,r,_,I⟩:=L i y B;obtain ⟨_,l1,g1⟩:=World.cells?_some r;refine zi7 fun j z hj => ?_;have Q : j < ci.length:=(by rw [← I.1]; exact zb hj);have q:=g1 j (by omega);rw [zaW,zaW,yb Q] at q;exact ⟨ci[j],World.block_lt_of_cell? w ⟨b,o + i * P.cellsOf e + j,none⟩ q,q,I.2 j z _ hj (yb Q)⟩
     ·cases h
   ·
    rename_i fs hu;rw [hu] at h ⊢;simp only [ya] at hp;obtain ⟨v,J⟩:=hp;dsimp only at h;split at h
    ·rename_i hlen
     refine ⟨hlen,?_⟩;rw [ye] at h;obtain ⟨ys,S,d⟩:=h;subst d;simp only [DataW.weights,hu] at hwt;obtain ⟨_,U⟩:=mapM_some S
     have key : ∀ (l : List Field) (off : Nat),(∀ f ∈ l,f ∈ fs.toList) → zuo P l off (P.cellsOf t) = true → ∃ xs,zje (l.map fun f => zb9 P m f.type) xs ∧ zgc w xs (cs.drop off):=by
      intro l
      induction l with
      | nil =>
        intro off _ A;simp only [zuo,beq_iff_eq] at A;exact ⟨[],by simp only [yf,zje],by rw [yh (by omega)]; exact ⟨rfl,fun j x u h => by simp at h⟩⟩
      | cons f l ihl =>
        intro off E A;simp only [zuo,ya,beq_iff_eq] at A;obtain ⟨hf,A⟩:=A;obtain ⟨xs,r,G⟩:=ihl (off + P.cellsOf f.type) (fun g hg => E g (ym _ hg)) A;obtain ⟨i,B⟩:=yc.1 (E f (by simp));obtain ⟨y,C,K⟩:=U i f B;obtain ⟨_,aS,I,V⟩:=X f.type fuel _ y (yi.1 v f (E f (by simp))) K (zk6 hwt (j:=i) (by rw [yn,B]; rfl) (by rw [yn,C]; rfl));rw [hf] at V;refine ⟨aS ++ xs,by simp only [yd,zje]; exact ⟨aS,xs,rfl,I,r⟩,?_⟩
        have e1 : cs.drop off = (cs.drop off).take (P.cellsOf f.type) ++ cs.drop (off + P.cellsOf f.type):=by
         rw [← yq,yk]
        rw [e1];exact V.append G
     obtain ⟨xs,r,G⟩:=key fs.toList 0 (fun f h => h) J;exact ⟨xs,r,by simpa using G⟩
    ·cases h
   ·
    rename_i n e hu;rw [hu] at h ⊢;simp only [ya,beq_iff_eq] at hp;obtain ⟨v,J⟩:=hp;dsimp only at h;split at h
    ·rename_i hlen
     refine ⟨hlen,?_⟩;rw [ye] at h;obtain ⟨ys,S,d⟩:=h;subst d;simp only [DataW.weights,hu] at hwt;obtain ⟨_,U⟩:=mapM_some S
     have key : ∀ (k i : Nat),i + k = n → ∃ xs,zje (yp k (zb9 P m e)) xs ∧ zgc w xs (cs.drop (i * P.cellsOf e)):=by
      intro k
      induction k with
      | zero =>
        intro i aB;have : i = n:=(by omega);subst this;exact ⟨[],rfl,by rw [yh (by omega)]; exact ⟨rfl,fun j x u h => by simp at h⟩⟩
      | succ k ihk =>
        intro i aB;obtain ⟨xs,r,G⟩:=ihk (i + 1) (by omega);obtain ⟨y,C,K⟩:=U i i (List.getElem?_range (by omega));obtain ⟨_,aS,I,V⟩:=X e fuel _ y v K (zmu hwt (yt.2 ⟨y,yl C,rfl⟩));refine ⟨aS ++ xs,by simp only [List.replicate_succ,zje]; exact ⟨aS,xs,rfl,I,r⟩,?_⟩
        have e1 : cs.drop (i * P.cellsOf e) = (cs.drop (i * P.cellsOf e)).take (P.cellsOf e) ++ cs.drop ((i + 1) * P.cellsOf e):=by
         rw [Nat.add_mul,Nat.one_mul,← yq,yk]
        rw [e1];exact V.append G
     obtain ⟨xs,r,G⟩:=key n 0 (by omega);exact ⟨xs,r,by simpa using G⟩
    ·cases h
   ·cases hp
theorem zx2 {m : Nat} {t : TypeId} {v : Value} {d : DataW H} {n : List MemPlace} {base : Nat} {sp : Nat → Bool} {hd : Bool} (c : zhN P m t = true) (a : Value.okWide P w .any base t v) (h : DataW.Trod enc P w 0 sp hd t v d n) (i : (d.weights P t).all (· ≤ reachBytes) = true) :
  ∃ xs,zb9 P m t xs ∧ zh (G0 w) w [] (zqI (zlY P t) xs) v:=by
 obtain ⟨fuel,h⟩:=h;obtain ⟨s,xs,r,g⟩:=zus m t fuel _ _ c h i;refine ⟨xs,r,?_⟩
 have agg : zlY P t = true → zh (G0 w) w [] (zqI (zlY P t) xs) v:=fun b => by
  have : ∃ cs,v = .agg cs:=by
   unfold zlY at b;unfold Value.okWide at a;split at b
   ·rename_i heq; rw [heq] at a; obtain ⟨cs,e,_⟩:=a; exact ⟨cs,e⟩
   ·rename_i heq; rw [heq] at a; obtain ⟨cs,e,_⟩:=a; exact ⟨cs,e⟩
   ·cases b
  obtain ⟨cs,rfl⟩:=this;rw [b];simp only [zqI,if_true,zDc,zh];exact ⟨cs,rfl,zq7 (by simpa [Value.cells] using g.1.symm) fun j x u q hu => g.2 j x u q (by simpa [Value.cells] using hu)⟩
 cases b : zlY P t with
 | true => rw [← b]; exact agg b
 | false =>
   have f : v.oneCell' = true ∧ P.cellsOf t = 1:=by
    cases m with
    | zero => simp [zhN] at c
    | succ m =>
      unfold zhN at c;unfold zlY at b;unfold Value.okWide at a;split at c
      ·rename_i hu
       simp only [beq_iff_eq] at c;simp only [hu,Cell.okWide] at a;refine ⟨?_,c⟩;cases v <;> simp_all [Cell.okWide,Cell.ok,Value.oneCell']
      ·rename_i k hu
       simp only [beq_iff_eq] at c;simp only [hu,Cell.okWide] at a;refine ⟨?_,c⟩;cases v <;> simp_all [Cell.okWide,Cell.ok,Value.oneCell']
      ·rename_i e hu
       simp only [ya,beq_iff_eq] at c;simp only [hu,Cell.okWide] at a;refine ⟨?_,c.1.1⟩;cases v <;> simp_all [Cell.okWide,Cell.ok,Value.oneCell']
      ·rename_i hu; rw [hu] at b; simp at b
      ·rename_i hu; rw [hu] at b; simp at b
      ·cases c
   have l:=zuz f.1;rw [l] at g;obtain ⟨p,o⟩:=g
   match xs,p with
   | [x],_ =>
     simp only [zqI,Bool.false_eq_true,if_false,List.headD_cons,zh,zF];exact o 0 x v (by simp) (by simp)
end
section
variable {H : Type} {enc : TypeId × Value → H} {P : Program}
theorem zDq {C : zaq} (S : zg3 P C) {f : Nat} {fn : Func} {s : ChangeSpec} {t1 t2 tb m1 m2 : Nat} {apart fresh handsOn again : Bool}
  (u : laidOutB P = true) (g : fn.params = #[t1,t2]) (d : fn.resultTypes = #[tb]) (r : P.underlying tb = some .bool) (b : s.vars = [])
  (r1 : P.readableRec t1 = true) (G : P.readableRec t2 = true) (O : t1 < P.types.size) (Q : t2 < P.types.size) (p1 : zhN P m1 t1 = true) (p2 : zhN P m2 t2 = true)
  (n : ∀ (d1 d2 : DataW H),(s.fn H [d1,d2]).results = [.lit (.bool true)] ∧ (s.fn H [d1,d2]).args = [d1,d2] ∧ (s.fn H [d1,d2]).vars = [])
  (L : ∀ x1 x2,zb9 P m1 t1 x1 → zb9 P m2 t2 x2 → C f [zqI (zlY P t1) x1,zqI (zlY P t2) x2] [] = some (zi4 true,[]))
  {W : World} {base : Nat} {args : Array Value} {ds gs : List (DataW H)} {before : List MemPlace}
  (a : ∀ (j : Nat) t v,fn.params[j]? = some t → args[j]? = some v → Value.okWide P W .any base t v)
  (w : DataW.Whole enc P fn.params.toList s.vars apart W args.toList ds gs before)
  (h : (DataW.weightsEach P (fn.params.toList ++ s.plain.varTypes P) (ds ++ gs)).all (· ≤ reachBytes) = true) :
  Calls P f args W fun e W' => ∃ v,e = .returned v ∧ s.post enc P fn apart fresh handsOn again W args v W':=by
 have i:=w;obtain ⟨p,q,m,A,rfl,E,M⟩:=w;rw [g] at m a h;obtain ⟨v1,v2,d1,d2,z,y,rfl,rfl,rfl,B,D⟩:=trodAll_two m;rw [b] at A;obtain ⟨rfl,rfl⟩:=trodVars_none A;obtain ⟨x1,R,e1⟩:=zx2 p1 (a 0 t1 v1 rfl rfl) B (zk6 h (j:=0) rfl rfl);obtain ⟨x2,N,e2⟩:=zx2 p2 (a 1 t2 v2 rfl rfl) D (zk6 h (j:=1) rfl rfl)
 have J : zO (G0 W) W [] [zqI (zlY P t1) x1,zqI (zlY P t2) x2] [v1,v2]:=by
  simp only [zO];exact ⟨v1,[v2],rfl,e1,v2,[],rfl,e2,rfl⟩
 refine (zyw S (L x1 x2 R N) J).mono fun e W' he => ?_;obtain ⟨rfl,o⟩:=he;obtain ⟨f1,f2,f3⟩:=n d1 d2;have k:=i.lt;have I : ∀ x ∈ z,x.block < W.heap.size:=fun x c => k x (by simp [c]);have K : ∀ x ∈ y,x.block < W.heap.size:=fun x c => k x (by simp [c]);refine ⟨_,rfl,zyV i o b (fun _ _ _ => ?_) (fun sp l => ?_) (by rw [yg,f3]) (ok_one d rfl (okWide_bool_mk r _))⟩
 ·rw [d]
  show DataW.TrodAll enc P W' _ _ _ [tb] [.bool true] (s.fn H ([d1,d2] ++ [])).results []
  rw [yg,f1];exact trodAll_mk1 (shut_bool r _)
 ·rw [g]
  show DataW.TrodAll enc P W' 0 sp true [t1,t2] [v1,v2] (s.fn H ([d1,d2] ++ [])).args (z ++ y ++ [])
  rw [yg,yg,f2];exact trodAll_mk2 (WideElems.Trod_stays u r1 O B (fun x c => o.same (I x c)) (fun x c => l x (by simp [c]))) (WideElems.Trod_stays u G Q D (fun x c => o.same (K x c)) (fun x c => l x (by simp [c])))
end
end Go.A
namespace AC
open Go Go.A Go.Proofs
set_option maxRecDepth 100000
theorem zD3 {n b : Nat} (a : 1 ≤ b) (h : n * b ≤ reachBytes) : n ≤ LB:=by
 have : n * 1 ≤ n * b:=Nat.mul_le_mul_left n a;unfold reachBytes at h;unfold LB;omega
theorem zFV {m : Nat} {x : List Fz} (h : zb9 Tryz.prog m 49 x) : ∃ n,x = [.lit (.int .u64 n)] ∧ 0 ≤ n ∧ n < 18446744073709551616:=by
 cases m with
 | zero => exact h.elim
 | succ m =>
   unfold zb9 at h;rw [Tryz.underlying49] at h;obtain ⟨n,a,b⟩:=h;refine ⟨n,a,?_⟩;simp only [Lit.wf,ya,decide_eq_true_eq] at b;have e : IntKind.u64.max = 18446744073709551615:=(by decide);have e2 : IntKind.u64.min = 0:=(by decide);omega
theorem zhT {m : Nat} {x : List Fz} (h : zb9 Tryz.prog m 3 x) : ∃ n,x = ri n ∧ -9223372036854775808 ≤ n ∧ n ≤ 9223372036854775807:=by
 cases m with
 | zero => exact h.elim
 | succ m =>
   unfold zb9 at h;rw [Tryz.underlying3] at h;obtain ⟨n,a,b⟩:=h;refine ⟨n,a,?_⟩;simp only [Lit.wf,ya,decide_eq_true_eq] at b;have e : IntKind.i64.max = 9223372036854775807:=(by decide);have e2 : IntKind.i64.min = -9223372036854775808:=(by decide);omega
theorem zp9 {α : Type} {P : List Fz → Prop} {r : α → List Fz} {q : α → Prop} (h : ∀ x,P x → ∃ a,x = r a ∧ q a) : ∀ xs : List (List Fz),(∀ x ∈ xs,P x) → ∃ l : List α,xs = l.map r ∧ ∀ a ∈ l,q a
 | [],_ => ⟨[],rfl,fun _ h => by simp at h⟩
 | x :: xs,hx => by
   obtain ⟨l,rfl,d⟩:=zp9 h xs fun y c => hx y (ym _ c);obtain ⟨a,rfl,b⟩:=h x (hx x List.mem_cons_self);refine ⟨a :: l,rfl,fun u hu => ?_⟩;rcases yr.1 hu with rfl | hu
   ·exact b
   ·exact d u hu
theorem b3 : 1 ≤ Tryz.prog.bytesOf 3:=of_decide_eq_true (by kernel_rfl)
theorem b27 : 1 ≤ Tryz.prog.bytesOf 51:=of_decide_eq_true (by kernel_rfl)
theorem b61 : 1 ≤ Tryz.prog.bytesOf 74:=of_decide_eq_true (by kernel_rfl)
theorem b32 : 1 ≤ Tryz.prog.bytesOf 44:=of_decide_eq_true (by kernel_rfl)
theorem znh {m : Nat} {x : List Fz} (h : zb9 Tryz.prog m 22 x) : ∃ l : List Int,x = rl l ∧ l.length ≤ LB ∧ ∀ n ∈ l,-9223372036854775808 ≤ n ∧ n ≤ 9223372036854775807:=by
 cases m with
 | zero => exact h.elim
 | succ m =>
   unfold zb9 at h;rw [Tryz.underlying22] at h;obtain ⟨xs,rfl,c,a⟩:=h;obtain ⟨l,rfl,b⟩:=zp9 (fun x a => zhT a) xs a;exact ⟨l,rfl,by simpa using zD3 b3 c,b⟩
theorem zIh {m : Nat} {x : List Fz} (h : zb9 Tryz.prog m 51 x) : ∃ o : POp,x = ro o ∧ (0 ≤ o.imm ∧ o.imm < 18446744073709551616) ∧ o.args.length ≤ LB:=by
 cases m with
 | zero => exact h.elim
 | succ m =>
   unfold zb9 at h;rw [Tryz.underlying51] at h;simp only [yd,yf,zje] at h;obtain ⟨p1,z,rfl,n,p2,u,rfl,p,t,A,rfl,f,w,r,rfl,l,v,y,rfl,k,s,q,rfl,i,rfl⟩:=h;obtain ⟨a,rfl,_⟩:=zhT n;obtain ⟨b,rfl,_⟩:=zhT p;obtain ⟨c,rfl,_⟩:=zhT f;obtain ⟨d,rfl,_⟩:=zhT l;obtain ⟨e,rfl,he,_⟩:=znh k;obtain ⟨g,rfl,j⟩:=zFV i;exact ⟨⟨a,b,c,d,e,g⟩,rfl,j,he⟩
theorem zGe {m : Nat} {x : List Fz} (h : zb9 Tryz.prog m 74 x) : ∃ p : PPhi,x = rp p ∧ p.src.length ≤ LB ∧ p.args.length ≤ LB:=by
 cases m with
 | zero => exact h.elim
 | succ m =>
   unfold zb9 at h;rw [Tryz.underlying74] at h;simp only [yd,yf,zje] at h;obtain ⟨p1,o,rfl,i,p2,l,rfl,j,k,r,rfl,e,n,q,rfl,g,rfl⟩:=h;obtain ⟨a,rfl,_⟩:=zhT i;obtain ⟨b,rfl,_⟩:=zhT j;obtain ⟨c,rfl,f,_⟩:=znh e;obtain ⟨d,rfl,hd,_⟩:=znh g;exact ⟨⟨a,b,c,d⟩,rfl,f,hd⟩
theorem zBT {m : Nat} {x : List Fz} (h : zb9 Tryz.prog m 44 x) : ∃ b : PBlock,x = rb b ∧ anyB b:=by
 cases m with
 | zero => exact h.elim
 | succ m =>
   unfold zb9 at h;rw [Tryz.underlying44] at h;simp only [yd,yf,zje] at h;obtain ⟨p1,z,rfl,f,p2,y,rfl,i,u,A,rfl,e,rfl⟩:=h
   cases m with
   | zero => exact f.elim
   | succ m =>
     unfold zb9 at f i e;rw [Tryz.underlying39] at f;rw [Tryz.underlying40] at i;rw [Tryz.underlying42] at e;simp only [yd,yf,zje] at e;obtain ⟨xs,rfl,q,s⟩:=f;obtain ⟨ys,rfl,n2,o⟩:=i;obtain ⟨r1,s1,rfl,k,t,s2,rfl,n,w,v,rfl,j,rfl⟩:=e;obtain ⟨a,rfl,_⟩:=zhT k;obtain ⟨b,rfl,_⟩:=zhT n;obtain ⟨c,rfl,l,_⟩:=znh j;obtain ⟨d,rfl,p⟩:=zp9 (fun x g => zGe g) xs s;obtain ⟨ops,rfl,r⟩:=zp9 (fun x g => zIh g) ys o;refine ⟨⟨d,ops,a,b,c⟩,rfl,?_,?_,p,r,l⟩
     ·simpa using zD3 b61 q
     ·simpa using zD3 b27 n2
theorem zDn {m : Nat} {x : List Fz} (h : zb9 Tryz.prog m 25 x) : ∃ f : PFunc,zqI true x = zfg f ∧ anyF f:=by
 cases m with
 | zero => exact h.elim
 | succ m =>
   unfold zb9 at h;rw [Tryz.underlying25] at h;simp only [yd,yf,zje] at h;obtain ⟨p1,q,rfl,k,p2,p,rfl,n,o,r,rfl,c,rfl⟩:=h;obtain ⟨a,rfl,d,_⟩:=znh k;obtain ⟨b,rfl,_⟩:=zhT n
   cases m with
   | zero => exact c.elim
   | succ m =>
     unfold zb9 at c;rw [Tryz.underlying23] at c;obtain ⟨xs,rfl,e,i⟩:=c;obtain ⟨l,rfl,g⟩:=zp9 (fun x j => zBT j) xs i;refine ⟨⟨a,b,l⟩,rfl,d,?_,g⟩;simpa using zD3 b32 e
end AC
namespace AC
open Go Go.A Go.Proofs
set_option maxRecDepth 100000
theorem zpm (c b : List Fz) (e : zb9 Tryz.prog 8 25 c) (f : zb9 Tryz.prog 8 3 b) :
  call T 7 [zqI true c,zqI false b] [] = some (zi4 true,[]):=by
 obtain ⟨f1,e1,a⟩:=zDn e;rw [e1];obtain ⟨d,rfl,b2⟩:=zhT f;exact zCU f1 a d
end AC
namespace Go.Proofs.YtmkncmffaaninaaGreat
open Go.ChangeShapes Go.WideShapes Go.ChangeAt Go.RowKit Go.A
set_option maxRecDepth 100000 in
theorem znc (os : Os) (started : os.Started) (H : Type) (enc : TypeId × Value → H) :
  ReturnsInHanded {} Tryz.checked os 7 .any (Rows.affineFindsSpec.pre6 enc Tryz.prog Tryz.f7 Rows.affineFindsRow.domain false) (Rows.affineFindsSpec.post enc Tryz.prog Tryz.f7 false true false false):=by
 refine returnsInHanded_of_change_sized (C:=Tryz.checked) Tryz.own started (by kernel_rfl) Tryz.func7
  (ChangeSpec.witness6 (enc:=enc) (C:=Tryz.checked) false ⟨#[],#[.agg #[.slice none 0 0,.int .i64 0,.slice none 0 0],.int .i64 0],[]⟩ 8 (by kernel_rfl) (by kernel_rfl) (by kernel_rfl) (by kernel_rfl)) ?_
 intro W base args ds gs before a c _ b _;exact zDq (m1:=8) (m2:=8) (t1:=25) (t2:=3) (tb:=4) AC.zGl Tryz.laidOut Tryz.params7 (by kernel_rfl) (by kernel_rfl) rfl (by kernel_rfl) (by kernel_rfl) (of_decide_eq_true (by kernel_rfl)) (of_decide_eq_true (by kernel_rfl)) (by kernel_rfl) (by kernel_rfl) (fun _ _ => ⟨rfl,rfl,rfl⟩) AC.zpm a c b
end Go.Proofs.YtmkncmffaaninaaGreat
