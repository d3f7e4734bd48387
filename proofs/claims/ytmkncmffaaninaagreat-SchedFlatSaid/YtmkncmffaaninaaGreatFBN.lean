/- A part of the proof of SchedFlat. Conditions: none. -/
import Derived.Test.YtmkncmffaaninaaGreatFBM
import Derived.SizedLaws
import Derived.Test.YtmkncmffaaninaaGreatFBK
import Derived.Test.YtmkncmffaaninaaGreatRows
import Derived.ProofKit
set_option linter.all false
open Bool renaming and_eq_true → ya
open List renaming getElem?_eq_getElem → yb,map_cons → yc,map_nil → yd,mem_iff_getElem? → ye,append_nil → yg,drop_eq_nil_of_le → yh,all_eq_true → yi,take_append_drop → yk,mem_of_getElem? → yl,mem_cons_of_mem → ym,getElem?_map → yn,all_append → yo,replicate → yp,drop_drop → yq,mem_cons → yr,mem_map → yt
open Option renaming map_eq_some_iff → yf,bind_eq_some_iff → yj
namespace Go.A
open Go.RowKit Go.ChangeShapes
def zbl (P : Program) : Nat → TypeId → List Fz → Prop
 | 0,_,_ => False
 | n + 1,t,cs => match P.underlying t with
   | some .bool => ∃ b,cs = [.lit (.bool b)]
   | some (.int k) => ∃ x,cs = [.lit (.int k x)] ∧ (Lit.int k x).wf = true
   | some (.slice e) => ∃ xs : List (List Fz),cs = [.sl xs] ∧ xs.length * P.bytesOf e ≤ reachBytes ∧ ∀ x ∈ xs,zbl P n e x
   | some (.struct fs) => zhK (fs.toList.map fun f => zbl P n f.type) cs
   | some (.array m e) => zhK (yp m (zbl P n e)) cs
   | _ => False
section
variable {H : Type} {P : Program}
theorem zlO {e : TypeId} : ∀ {l : List (DataW H)},(DataW.weightsAll P e l).all (· ≤ reachBytes) = true → ∀ {d},d ∈ l → (d.weights P e).all (· ≤ reachBytes) = true
 | [],_,_,hd => by simp at hd
 | x :: r,h,d,hd => by
   rw [DataW.weightsAll,yo,ya] at h;rcases yr.1 hd with rfl | hd
   ·exact h.1
   ·exact zlO h.2 hd
theorem zj5 {a : List TypeId} {ds : List (DataW H)} (h : (DataW.weightsEach P a ds).all (· ≤ reachBytes) = true) {j : Nat} {t : TypeId} {d : DataW H} (c : a[j]? = some t) (hd : ds[j]? = some d) : (d.weights P t).all (· ≤ reachBytes) = true :=
 yi.2 fun n b => yi.1 h n (DataW.weights_mem_each c hd n b)
end
section
variable {H : Type} {enc : TypeId × Value → H} {P : Program} {w : World}
theorem zsW {sp : Nat → Bool} {hd : Bool} : ∀ (m : Nat) (t : TypeId) (fuel : Nat) (cs : List Value) (x : DataW H × List MemPlace),zg5 P m t = true → DataW.trod enc P w 0 sp hd fuel t cs = some x → (x.1.weights P t).all (· ≤ reachBytes) = true →
  cs.length = P.cellsOf t ∧ ∃ xs,zbl P m t xs ∧ zfy w xs cs
 | 0,_,_,_,_,h,_,_ => by simp [zg5] at h
 | _ + 1,_,0,_,_,_,h,_ => by simp [DataW.trod] at h
 | m + 1,t,fuel + 1,cs,x,hp,h,hwt => by
   have Z:=fun t' M aD x' => zsW (sp:=sp) (hd:=hd) m t' M aD x';unfold zg5 at hp;unfold DataW.trod at h;unfold zbl;split at hp
   ·
    rename_i hu;rw [hu] at h ⊢;simp only [beq_iff_eq] at hp
    split at h <;> try (cases h; done)
    all_goals rename_i c <;> try (injection c with c; cases c; done)
    rename_i b;exact ⟨by simp [hp],[.lit (.bool b)],⟨b,rfl⟩,.one (by simp [rep,zxS])⟩
   ·
    rename_i k hu;rw [hu] at h ⊢;simp only [beq_iff_eq] at hp
    split at h <;> try (cases h; done)
    all_goals rename_i c <;> try (injection c with c; cases c; done)
    rename_i k0 k1 n;injection c with c;injection c with c;subst c;split at h
    ·rename_i hc
     obtain ⟨rfl,hw⟩:=hc;exact ⟨by simp [hp],[.lit (.int k1 n)],⟨n,rfl,hw⟩,.one (by simp [rep,zxS])⟩
    ·cases h
   ·
    rename_i e hu;rw [hu] at h ⊢;simp only [ya,beq_iff_eq,decide_eq_true_eq] at hp;obtain ⟨⟨v,J⟩,aE⟩:=hp
    split at h <;> try (cases h; done)
    all_goals rename_i c <;> try (injection c with c; cases c; done)
    ·refine ⟨by simp [v],[.sl []],⟨[],rfl,by simp,fun x hx => by simp at hx⟩,.one ?_⟩
     rw [rep];exact ⟨none,0,0,rfl,Nat.le_refl _,by simp only [zbO],.inl rfl⟩
    ·rename_i e0 a len cap
     injection c with c;injection c with c;subst c;dsimp only at h;split at h
     ·rename_i hc
      rw [yj] at h;obtain ⟨aF,O,d⟩:=h;obtain ⟨W,R⟩:=mapM_some O;rw [yf] at d;obtain ⟨rest,_,d⟩:=d;subst d;simp only [DataW.weights,hu,List.all_cons,yo,ya,decide_eq_true_eq,List.length_map] at hwt;obtain ⟨X,aC,_⟩:=hwt;rw [List.length_range] at W
      have Q : ∀ i,i < len → ∃ ci,w.cells? 0 (a.add (i * P.cellsOf e)) (P.cellsOf e) = some ci ∧ ∃ N,zbl P m e N ∧ zfy w N ci:=fun i B => by
       obtain ⟨y,D,K⟩:=R i i (by simp [B]);rw [yj] at K;obtain ⟨ci,K,h4⟩:=K;exact ⟨ci,K,(Z e fuel ci y aE h4 (zlO aC (yt.2 ⟨y,yl D,rfl⟩))).2⟩
      obtain ⟨xs,aB,L⟩:=zoO (p:=fun i N => ∃ ci,w.cells? 0 (a.add (i * P.cellsOf e)) (P.cellsOf e) = some ci ∧ zbl P m e N ∧ zfy w N ci) len fun i B => by
       obtain ⟨ci,r,N,C,I⟩:=Q i B;exact ⟨N,ci,r,C,I⟩
      refine ⟨by simp [v],[.sl xs],⟨xs,rfl,Nat.le_trans (Nat.mul_le_mul_right _ (by omega)) X,fun y Y => ?_⟩,.one ?_⟩
      ·obtain ⟨i,B⟩:=ye.1 Y
       obtain ⟨_,_,C,_⟩:=L i y B;exact C
      ·rw [rep]
       refine ⟨some a,cap,P.cellsOf e,by rw [aB],by omega,zeW fun y Y => ?_,?_⟩
       ·obtain ⟨i,B⟩:=ye.1 Y
        obtain ⟨ci,r,_,I⟩:=L i y B;rw [I.1];exact (World.cells?_some r).2.1
       ·rcases Nat.eq_zero_or_pos len with h0 | h0
        ·exact .inl (List.eq_nil_of_length_eq_zero (by omega))
        ·obtain ⟨c0,r,_⟩:=Q 0 h0
         obtain ⟨_,l0,g0⟩:=World.cells?_some r;have S:=g0 0 J;rw [Nat.zero_mul,Addr.add_zero',Addr.add_zero',yb (by omega)] at S;have G:=World.cell?_spot S;obtain ⟨b,o,s⟩:=a;simp only at G;subst G;refine .inr ⟨b,o,rfl,zfS fun i y B => ?_⟩;obtain ⟨ci,r,_,I⟩:=L i y B;obtain ⟨_,l1,g1⟩:=World.cells?_some r;refine zij fun j z hj => ?_;have U : j < ci.length:=(by rw [← I.1]; exact zb hj);have q:=g1 j (by omega);rw [zaG,zaG,yb U] at q;exact ⟨ci[j],World.block_lt_of_cell? w ⟨b,o + i * P.cellsOf e + j,none⟩ q,q,I.2 j z _ hj (yb U)⟩
     ·cases h
   ·
    rename_i fs hu;rw [hu] at h ⊢;simp only [ya] at hp;obtain ⟨v,J⟩:=hp;dsimp only at h;split at h
    ·rename_i hlen
     refine ⟨hlen,?_⟩;rw [yf] at h;obtain ⟨ys,O,d⟩:=h;subst d;simp only [DataW.weights,hu] at hwt;obtain ⟨_,R⟩:=mapM_some O
     have key : ∀ (l : List Field) (off : Nat),(∀ f ∈ l,f ∈ fs.toList) → zsV P l off (P.cellsOf t) = true → ∃ xs,zhK (l.map fun f => zbl P m f.type) xs ∧ zfy w xs (cs.drop off):=by
      intro l
      induction l with
      | nil =>
        intro off _ A;simp only [zsV,beq_iff_eq] at A;exact ⟨[],by simp only [yd,zhK],by rw [yh (by omega)]; exact ⟨rfl,fun j x u h => by simp at h⟩⟩
      | cons f l ihl =>
        intro off E A;simp only [zsV,ya,beq_iff_eq] at A;obtain ⟨hf,A⟩:=A;obtain ⟨xs,r,C⟩:=ihl (off + P.cellsOf f.type) (fun g hg => E g (ym _ hg)) A;obtain ⟨i,B⟩:=ye.1 (E f (by simp));obtain ⟨y,D,K⟩:=R i f B;obtain ⟨_,aS,I,V⟩:=Z f.type fuel _ y (yi.1 v f (E f (by simp))) K (zj5 hwt (j:=i) (by rw [yn,B]; rfl) (by rw [yn,D]; rfl));rw [hf] at V;refine ⟨aS ++ xs,by simp only [yc,zhK]; exact ⟨aS,xs,rfl,I,r⟩,?_⟩
        have e1 : cs.drop off = (cs.drop off).take (P.cellsOf f.type) ++ cs.drop (off + P.cellsOf f.type):=by
         rw [← yq,yk]
        rw [e1];exact V.append C
     obtain ⟨xs,r,C⟩:=key fs.toList 0 (fun f h => h) J;exact ⟨xs,r,by simpa using C⟩
    ·cases h
   ·
    rename_i n e hu;rw [hu] at h ⊢;simp only [ya,beq_iff_eq] at hp;obtain ⟨v,J⟩:=hp;dsimp only at h;split at h
    ·rename_i hlen
     refine ⟨hlen,?_⟩;rw [yf] at h;obtain ⟨ys,O,d⟩:=h;subst d;simp only [DataW.weights,hu] at hwt;obtain ⟨_,R⟩:=mapM_some O
     have key : ∀ (k i : Nat),i + k = n → ∃ xs,zhK (yp k (zbl P m e)) xs ∧ zfy w xs (cs.drop (i * P.cellsOf e)):=by
      intro k
      induction k with
      | zero =>
        intro i aA;have : i = n:=(by omega);subst this;exact ⟨[],rfl,by rw [yh (by omega)]; exact ⟨rfl,fun j x u h => by simp at h⟩⟩
      | succ k ihk =>
        intro i aA;obtain ⟨xs,r,C⟩:=ihk (i + 1) (by omega);obtain ⟨y,D,K⟩:=R i i (List.getElem?_range (by omega));obtain ⟨_,aS,I,V⟩:=Z e fuel _ y v K (zlO hwt (yt.2 ⟨y,yl D,rfl⟩));refine ⟨aS ++ xs,by simp only [List.replicate_succ,zhK]; exact ⟨aS,xs,rfl,I,r⟩,?_⟩
        have e1 : cs.drop (i * P.cellsOf e) = (cs.drop (i * P.cellsOf e)).take (P.cellsOf e) ++ cs.drop ((i + 1) * P.cellsOf e):=by
         rw [Nat.add_mul,Nat.one_mul,← yq,yk]
        rw [e1];exact V.append C
     obtain ⟨xs,r,C⟩:=key n 0 (by omega);exact ⟨xs,r,by simpa using C⟩
    ·cases h
   ·cases hp
theorem zvX {m : Nat} {t : TypeId} {v : Value} {d : DataW H} {q : List MemPlace} {base : Nat} {sp : Nat → Bool} {hd : Bool} (c : zg5 P m t = true) (a : Value.okWide P w .any base t v) (h : DataW.Trod enc P w 0 sp hd t v d q) (i : (d.weights P t).all (· ≤ reachBytes) = true) :
  ∃ xs,zbl P m t xs ∧ zf (G0 w) w [] (zoa (zkY P t) xs) v:=by
 obtain ⟨fuel,h⟩:=h;obtain ⟨s,xs,p,g⟩:=zsW m t fuel _ _ c h i;refine ⟨xs,p,?_⟩
 have agg : zkY P t = true → zf (G0 w) w [] (zoa (zkY P t) xs) v:=fun b => by
  have : ∃ cs,v = .agg cs:=by
   unfold zkY at b;unfold Value.okWide at a;split at b
   ·rename_i heq; rw [heq] at a; obtain ⟨cs,e,_⟩:=a; exact ⟨cs,e⟩
   ·rename_i heq; rw [heq] at a; obtain ⟨cs,e,_⟩:=a; exact ⟨cs,e⟩
   ·cases b
  obtain ⟨cs,rfl⟩:=this;rw [b];simp only [zoa,if_true,zAN,zf];exact ⟨cs,rfl,zoN (by simpa [Value.cells] using g.1.symm) fun j x u l hu => g.2 j x u l (by simpa [Value.cells] using hu)⟩
 cases b : zkY P t with
 | true => rw [← b]; exact agg b
 | false =>
   have f : v.oneCell' = true ∧ P.cellsOf t = 1:=by
    cases m with
    | zero => simp [zg5] at c
    | succ m =>
      unfold zg5 at c;unfold zkY at b;unfold Value.okWide at a;split at c
      ·rename_i hu
       simp only [beq_iff_eq] at c;simp only [hu,Cell.okWide] at a;refine ⟨?_,c⟩;cases v <;> simp_all [Cell.okWide,Cell.ok,Value.oneCell']
      ·rename_i k hu
       simp only [beq_iff_eq] at c;simp only [hu,Cell.okWide] at a;refine ⟨?_,c⟩;cases v <;> simp_all [Cell.okWide,Cell.ok,Value.oneCell']
      ·rename_i e hu
       simp only [ya,beq_iff_eq] at c;simp only [hu,Cell.okWide] at a;refine ⟨?_,c.1.1⟩;cases v <;> simp_all [Cell.okWide,Cell.ok,Value.oneCell']
      ·rename_i hu; rw [hu] at b; simp at b
      ·rename_i hu; rw [hu] at b; simp at b
      ·cases c
   have n:=ztP f.1;rw [n] at g;obtain ⟨r,o⟩:=g
   match xs,r with
   | [x],_ =>
     simp only [zoa,Bool.false_eq_true,if_false,List.headD_cons,zf,zy];exact o 0 x v (by simp) (by simp)
end
section
variable {H : Type} {enc : TypeId × Value → H} {P : Program}
theorem zBd {C : zae} (S : zhg P C) {f : Nat} {fn : Func} {s : ChangeSpec} {t1 t2 tb m1 m2 : Nat} {apart fresh handsOn again : Bool}
  (w : laidOutB P = true) (g : fn.params = #[t1,t2]) (d : fn.resultTypes = #[tb]) (r : P.underlying tb = some .bool) (c : s.vars = [])
  (r1 : P.readableRec t1 = true) (R : P.readableRec t2 = true) (G : t1 < P.types.size) (Q : t2 < P.types.size) (p1 : zg5 P m1 t1 = true) (p2 : zg5 P m2 t2 = true)
  (o : ∀ (d1 d2 : DataW H),(s.fn H [d1,d2]).results = [.lit (.bool true)] ∧ (s.fn H [d1,d2]).args = [d1,d2] ∧ (s.fn H [d1,d2]).vars = [])
  (E : ∀ x1 x2,zbl P m1 t1 x1 → zbl P m2 t2 x2 → C f [zoa (zkY P t1) x1,zoa (zkY P t2) x2] [] = some (zjm true,[]))
  {W : World} {base : Nat} {args : Array Value} {ds gs : List (DataW H)} {before : List MemPlace}
  (b : ∀ (j : Nat) t v,fn.params[j]? = some t → args[j]? = some v → Value.okWide P W .any base t v)
  (y : DataW.Whole enc P fn.params.toList s.vars apart W args.toList ds gs before)
  (h : (DataW.weightsEach P (fn.params.toList ++ s.plain.varTypes P) (ds ++ gs)).all (· ≤ reachBytes) = true) :
  Calls P f args W fun e W' => ∃ v,e = .returned v ∧ s.post enc P fn apart fresh handsOn again W args v W':=by
 have k:=y;obtain ⟨p,q,m,D,rfl,N,I⟩:=y;rw [g] at m b h;obtain ⟨v1,v2,d1,d2,B,z,rfl,rfl,rfl,A,u⟩:=trodAll_two m;rw [c] at D;obtain ⟨rfl,rfl⟩:=trodVars_none D;obtain ⟨x1,J,e1⟩:=zvX p1 (b 0 t1 v1 rfl rfl) A (zj5 h (j:=0) rfl rfl);obtain ⟨x2,L,e2⟩:=zvX p2 (b 1 t2 v2 rfl rfl) u (zj5 h (j:=1) rfl rfl)
 have K : zz (G0 W) W [] [zoa (zkY P t1) x1,zoa (zkY P t2) x2] [v1,v2]:=by
  simp only [zz];exact ⟨v1,[v2],rfl,e1,v2,[],rfl,e2,rfl⟩
 refine (zxM S (E x1 x2 J L) K).mono fun e W' he => ?_;obtain ⟨rfl,n⟩:=he;obtain ⟨f1,f2,f3⟩:=o d1 d2;have i:=k.lt;have O : ∀ x ∈ B,x.block < W.heap.size:=fun x a => i x (by simp [a]);have M : ∀ x ∈ z,x.block < W.heap.size:=fun x a => i x (by simp [a]);refine ⟨_,rfl,zw5 k n c (fun _ _ _ => ?_) (fun sp l => ?_) (by rw [yg,f3]) (ok_one d rfl (okWide_bool_mk r _))⟩
 ·rw [d]
  show DataW.TrodAll enc P W' _ _ _ [tb] [.bool true] (s.fn H ([d1,d2] ++ [])).results []
  rw [yg,f1];exact trodAll_mk1 (shut_bool r _)
 ·rw [g]
  show DataW.TrodAll enc P W' 0 sp true [t1,t2] [v1,v2] (s.fn H ([d1,d2] ++ [])).args (B ++ z ++ [])
  rw [yg,yg,f2];exact trodAll_mk2 (WideElems.Trod_stays w r1 G A (fun x a => n.same (O x a)) (fun x a => l x (by simp [a]))) (WideElems.Trod_stays w R Q u (fun x a => n.same (M x a)) (fun x a => l x (by simp [a])))
end
end Go.A
namespace AC
open Go Go.A Go.Proofs
set_option maxRecDepth 100000
theorem zBR {n b : Nat} (a : 1 ≤ b) (h : n * b ≤ reachBytes) : n ≤ LB:=by
 have : n * 1 ≤ n * b:=Nat.mul_le_mul_left n a;unfold reachBytes at h;unfold LB;omega
theorem zDQ {m : Nat} {x : List Fz} (h : zbl Tryz.prog m 49 x) : ∃ n,x = [.lit (.int .u64 n)] ∧ 0 ≤ n ∧ n < 18446744073709551616:=by
 cases m with
 | zero => exact h.elim
 | succ m =>
   unfold zbl at h;rw [Tryz.underlying49] at h;obtain ⟨n,a,b⟩:=h;refine ⟨n,a,?_⟩;simp only [Lit.wf,ya,decide_eq_true_eq] at b;have e : IntKind.u64.max = 18446744073709551615:=(by decide);have e2 : IntKind.u64.min = 0:=(by decide);omega
theorem zgv {m : Nat} {x : List Fz} (h : zbl Tryz.prog m 3 x) : ∃ n,x = ri n ∧ -9223372036854775808 ≤ n ∧ n ≤ 9223372036854775807:=by
 cases m with
 | zero => exact h.elim
 | succ m =>
   unfold zbl at h;rw [Tryz.underlying3] at h;obtain ⟨n,a,b⟩:=h;refine ⟨n,a,?_⟩;simp only [Lit.wf,ya,decide_eq_true_eq] at b;have e : IntKind.i64.max = 9223372036854775807:=(by decide);have e2 : IntKind.i64.min = -9223372036854775808:=(by decide);omega
theorem zpP {α : Type} {P : List Fz → Prop} {r : α → List Fz} {q : α → Prop} (h : ∀ x,P x → ∃ a,x = r a ∧ q a) : ∀ xs : List (List Fz),(∀ x ∈ xs,P x) → ∃ l : List α,xs = l.map r ∧ ∀ a ∈ l,q a
 | [],_ => ⟨[],rfl,fun _ h => by simp at h⟩
 | x :: xs,hx => by
   obtain ⟨l,rfl,c⟩:=zpP h xs fun y d => hx y (ym _ d);obtain ⟨a,rfl,b⟩:=h x (hx x List.mem_cons_self);refine ⟨a :: l,rfl,fun u hu => ?_⟩;rcases yr.1 hu with rfl | hu
   ·exact b
   ·exact c u hu
theorem b3 : 1 ≤ Tryz.prog.bytesOf 3:=of_decide_eq_true (by kernel_rfl)
theorem b27 : 1 ≤ Tryz.prog.bytesOf 51:=of_decide_eq_true (by kernel_rfl)
theorem b61 : 1 ≤ Tryz.prog.bytesOf 74:=of_decide_eq_true (by kernel_rfl)
theorem b32 : 1 ≤ Tryz.prog.bytesOf 44:=of_decide_eq_true (by kernel_rfl)
theorem zkB {m : Nat} {x : List Fz} (h : zbl Tryz.prog m 22 x) : ∃ l : List Int,x = rl l ∧ l.length ≤ LB ∧ ∀ n ∈ l,-9223372036854775808 ≤ n ∧ n ≤ 9223372036854775807:=by
 cases m with
 | zero => exact h.elim
 | succ m =>
   unfold zbl at h;rw [Tryz.underlying22] at h;obtain ⟨xs,rfl,b,a⟩:=h;obtain ⟨l,rfl,c⟩:=zpP (fun x a => zgv a) xs a;exact ⟨l,rfl,by simpa using zBR b3 b,c⟩
theorem zFa {m : Nat} {x : List Fz} (h : zbl Tryz.prog m 51 x) : ∃ o : POp,x = ro o ∧ (0 ≤ o.imm ∧ o.imm < 18446744073709551616) ∧ o.args.length ≤ LB:=by
 cases m with
 | zero => exact h.elim
 | succ m =>
   unfold zbl at h;rw [Tryz.underlying51] at h;simp only [yc,yd,zhK] at h;obtain ⟨p1,w,rfl,k,p2,s,rfl,i,t,z,rfl,l,A,y,rfl,n,q,u,rfl,j,r,v,rfl,p,rfl⟩:=h;obtain ⟨a,rfl,_⟩:=zgv k;obtain ⟨b,rfl,_⟩:=zgv i;obtain ⟨c,rfl,_⟩:=zgv l;obtain ⟨d,rfl,_⟩:=zgv n;obtain ⟨e,rfl,he,_⟩:=zkB j;obtain ⟨g,rfl,f⟩:=zDQ p;exact ⟨⟨a,b,c,d,e,g⟩,rfl,f,he⟩
theorem zDr {m : Nat} {x : List Fz} (h : zbl Tryz.prog m 74 x) : ∃ p : PPhi,x = rp p ∧ p.src.length ≤ LB ∧ p.args.length ≤ LB:=by
 cases m with
 | zero => exact h.elim
 | succ m =>
   unfold zbl at h;rw [Tryz.underlying74] at h;simp only [yc,yd,zhK] at h;obtain ⟨p1,n,rfl,g,p2,k,rfl,e,l,q,rfl,i,r,o,rfl,j,rfl⟩:=h;obtain ⟨a,rfl,_⟩:=zgv g;obtain ⟨b,rfl,_⟩:=zgv e;obtain ⟨c,rfl,f,_⟩:=zkB i;obtain ⟨d,rfl,hd,_⟩:=zkB j;exact ⟨⟨a,b,c,d⟩,rfl,f,hd⟩
theorem zzU {m : Nat} {x : List Fz} (h : zbl Tryz.prog m 44 x) : ∃ b : PBlock,x = rb b ∧ anyB b:=by
 cases m with
 | zero => exact h.elim
 | succ m =>
   unfold zbl at h;rw [Tryz.underlying44] at h;simp only [yc,yd,zhK] at h;obtain ⟨p1,w,rfl,e,p2,t,rfl,i,u,z,rfl,f,rfl⟩:=h
   cases m with
   | zero => exact e.elim
   | succ m =>
     unfold zbl at e i f;rw [Tryz.underlying39] at e;rw [Tryz.underlying40] at i;rw [Tryz.underlying42] at f;simp only [yc,yd,zhK] at f;obtain ⟨xs,rfl,o,n⟩:=e;obtain ⟨ys,rfl,n2,p⟩:=i;obtain ⟨r1,s1,rfl,r,A,s2,rfl,q,y,v,rfl,j,rfl⟩:=f;obtain ⟨a,rfl,_⟩:=zgv r;obtain ⟨b,rfl,_⟩:=zgv q;obtain ⟨c,rfl,k,_⟩:=zkB j;obtain ⟨d,rfl,s⟩:=zpP (fun x g => zDr g) xs n;obtain ⟨ops,rfl,l⟩:=zpP (fun x g => zFa g) ys p;refine ⟨⟨d,ops,a,b,c⟩,rfl,?_,?_,s,l,k⟩
     ·simpa using zBR b61 o
     ·simpa using zBR b27 n2
theorem zBA {m : Nat} {x : List Fz} (h : zbl Tryz.prog m 25 x) : ∃ f : PFunc,zoa true x = zfZ f ∧ anyF f:=by
 cases m with
 | zero => exact h.elim
 | succ m =>
   unfold zbl at h;rw [Tryz.underlying25] at h;simp only [yc,yd,zhK] at h;obtain ⟨p1,q,rfl,k,p2,o,rfl,e,p,r,rfl,c,rfl⟩:=h;obtain ⟨a,rfl,i,_⟩:=zkB k;obtain ⟨b,rfl,_⟩:=zgv e
   cases m with
   | zero => exact c.elim
   | succ m =>
     unfold zbl at c;rw [Tryz.underlying23] at c;obtain ⟨xs,rfl,n,j⟩:=c;obtain ⟨l,rfl,g⟩:=zpP (fun x d => zzU d) xs j;refine ⟨⟨a,b,l⟩,rfl,i,?_,g⟩;simpa using zBR b32 n
theorem zC4 {m : Nat} {x : List Fz} (h : zbl Tryz.prog m 27 x) : ∃ (k a : Int) (l : List Int),zoa true x = .agg [.f (ei k),.f (ei a),.f (eI l)] ∧ (-9223372036854775808 ≤ k ∧ k ≤ 9223372036854775807) ∧ (-9223372036854775808 ≤ a ∧ a ≤ 9223372036854775807) ∧ l.length ≤ LB:=by
 cases m with
 | zero => exact h.elim
 | succ m =>
   unfold zbl at h;rw [Tryz.underlying27] at h;simp only [yc,yd,zhK] at h;obtain ⟨p1,o,rfl,b,p2,p,rfl,e,j,n,rfl,d,rfl⟩:=h;obtain ⟨k,rfl,g⟩:=zgv b;obtain ⟨a,rfl,c⟩:=zgv e;obtain ⟨l,rfl,i,_⟩:=zkB d;exact ⟨k,a,l,rfl,g,c,i⟩
end AC
namespace AC
open Go Go.A Go.Proofs
set_option maxRecDepth 100000
theorem zp4 (c d : List Fz) (e : zbl Tryz.prog 8 25 c) (h : zbl Tryz.prog 8 27 d) :
  call T 4 [zoa true c,zoa true d] [] = some (zjm true,[]):=by
 obtain ⟨f1,e1,b⟩:=zBA e;rw [e1];obtain ⟨f,a2,i,e2,g,j,a⟩:=zC4 h;rw [e2];exact zBS f1 b f a2 i a
end AC
namespace Go.Proofs.YtmkncmffaaninaaGreat
open Go.ChangeShapes Go.WideShapes Go.ChangeAt Go.RowKit Go.A
set_option maxRecDepth 100000 in
theorem zob (os : Os) (started : os.Started) (H : Type) (enc : TypeId × Value → H) :
  ReturnsInHanded {} Tryz.checked os 4 .any (Rows.schedFlatSpec.pre6 enc Tryz.prog Tryz.f4 Rows.schedFlatRow.domain false) (Rows.schedFlatSpec.post enc Tryz.prog Tryz.f4 false true false false):=by
 refine returnsInHanded_of_change_sized (C:=Tryz.checked) Tryz.own started (by kernel_rfl) Tryz.func4
  (ChangeSpec.witness6 (enc:=enc) (C:=Tryz.checked) false ⟨#[],#[.agg #[.slice none 0 0,.int .i64 0,.slice none 0 0],.agg #[.int .i64 0,.int .i64 0,.slice none 0 0]],[]⟩ 8 (by kernel_rfl) (by kernel_rfl) (by kernel_rfl) (by kernel_rfl)) ?_
 intro W base args ds gs before a c _ b _;exact zBd (m1:=8) (m2:=8) (t1:=25) (t2:=27) (tb:=4) AC.zDB Tryz.laidOut Tryz.params4 (by kernel_rfl) (by kernel_rfl) rfl (by kernel_rfl) (by kernel_rfl) (of_decide_eq_true (by kernel_rfl)) (of_decide_eq_true (by kernel_rfl)) (by kernel_rfl) (by kernel_rfl) (fun _ _ => ⟨rfl,rfl,rfl⟩) AC.zp4 a c b
end Go.Proofs.YtmkncmffaaninaaGreat
