/- A part of the proof of SchedTells. Conditions: none. -/
import Derived.Test.YtmkncmffaaninaaGreatTAN
import Derived.Test.YtmkncmffaaninaaGreatTAA
import Derived.Attr
import Derived.Maps.RangeRun
import Derived.Below
import Derived.WalkSpells
set_option linter.all false
open Bool renaming and_eq_true → ya,not_eq_true' → yh
open List renaming getD_eq_getElem?_getD → yb,getElem?_eq_getElem → yc,getElem?_concat_length → ye,getElem?_append_left → yf,getElem?_eq_none → yi,range → yj,range' → yk
open Nat renaming le_refl → yd,le_of_lt → yn
open Array renaming replicate → yg
open Option renaming bind_some → yl,map_some → ym
namespace Go.A
section
variable {P : Program} {κ : List Tmp} {nt : Nat} {gops : Array Go.Oper} {xs : List Oper} {ms : List Nat} {m0 p b l : Nat} {Cf : zai} {rr : Nat → R}
theorem zDp {D : Nat → Bool} {j : Nat} (he : ent rr xs j = none) (a : j ≠ m0) : zhn rr xs p m0 (zbn D j) = zhn rr xs p m0 D:=by
 unfold zhn;rw [zBu he];have : zbn D j m0 = D m0:=by simp [zbn,Ne.symm a]
 rw [this]
theorem zGh (S : zh3 P Cf) (C : Chk3 P κ nt gops xs ms m0 p) (E : ∀ i x,xs[i]? = some x → step Cf (rr i) x = some (rr (i + 1))) (h0 : (rr 0).rs = []) : Local P κ nt gops xs (zbh rr) (zer rr xs p) (zhn rr xs p m0) p b l:=by
 intro j o x D g w a next Q hj ho O X hE Y aX R0 F k
 have aW : p ≤ xs.length:=C.w.le;obtain ⟨c1,c2,c3,_,c5⟩:=C.pre_some hj ho O;have hA : ∀ i,Reach gops j i → D i = true:=fun i h => za7 Y h hE
 have hB : ∀ i,Reach gops i j → D i = false:=fun i h => by
  cases hi : D i with
  | false => rfl
  | true =>
    have:=za7 Y h (Y i hi);rw [X] at this;cases this
 let r' : R:=⟨(yj j).reverse.map (zbh rr),zer rr xs p D,zhn rr xs p m0 D,b,l⟩
 have aK:=zoM E h0 j (by omega);obtain ⟨_,aI⟩:=zhb C.w E j (yn hj)
 have K : ∀ y ∈ zfu x,r'.get y = (rr j).get y:=fun y hy => by
  cases y with
  | l d => show ((yj j).reverse.map (zbh rr)).getD d vun = (rr j).rs.getD d vun; rw [aK]
  | c v => rfl
  | s q =>
    show (zer rr xs p D).getD q vun = (rr j).env.getD q vun
    rw [zhF C.w E,aI];unfold zh1
    cases hi : wr xs p q with
    | none => rfl
    | some i =>
      obtain ⟨aD,x',aJ,hw⟩:=zhc hi
      have W : zgh q x = true:=by
       unfold zgh;rw [List.any_eq_true];exact ⟨_,hy,by simp⟩
      have : D i = decide (i < j):=by
       rcases Nat.lt_trichotomy i j with J | rfl | J
       ·rcases (C.pair J hj aJ O).1 with h | h
        ·exfalso
         unfold zhf at h;rw [hw] at h;simp [W] at h
        ·rw [hA i h]; simp [J]
       ·rw [X]; simp
       ·rcases (C.pair J aD O aJ).1 with h | h
        ·exfalso
         unfold zhf at h;rw [hw] at h;simp [W] at h
        ·rw [hB i h]; simp; omega
      simp only [this]
 have t : ent rr xs j = zF5 rr j (zsI x):=by unfold ent; rw [zkU O]
 obtain ⟨U,aT⟩:=zHD C E h0 j (yn hj)
 have fin : ∀ {v : V} {σ1 σ2 : zd},rr (j + 1) = ((rr j).at σ1).put x.dst v → (r'.at σ2).put x.dst v = ⟨zbh rr j :: (yj j).reverse.map (zbh rr),zer rr xs p (zbn D j),σ2,b,l⟩:=fun {v σ1 σ2} L => by
  have he:=zqo C.w E (D:=D) hj O L;have aF : zbh rr j = (((rr j).at σ1).put x.dst v).rs.headD vun:=by unfold zbh; rw [L]
  rw [he,aF];cases x.dst <;> rfl
 have G : ent rr xs j = none → j ≠ m0 → (∃ v,rr (j + 1) = (rr j).put x.dst v ∧ step Cf r' x = some (r'.put x.dst v)) → if Region.wanted o (yielded gops a.tmps) then o.wp P a w next Q else next (a.put o.dst undef) w:=fun he hne ⟨v,L,h2⟩ => by
  have hf : (r'.at (zhn rr xs p m0 D)).put x.dst v = _:=fin (σ1:=(rr j).st) L;have aH : step Cf r' x = some ⟨zbh rr j :: (yj j).reverse.map (zbh rr),zer rr xs p (zbn D j),zhn rr xs p m0 D,b,l⟩:=by rw [h2,← hf]; rfl
  rw [← zDp (rr:=rr) (p:=p) he hne] at aH;exact zfb (r:=r') S R0 F c1 c2 c3 aH (fun g' w' u H R1 _ F1 => k g' w' u H R1 F1) (fun _ h => h)
 cases A : zsI x with
 | bad => rw [A] at c5; simp [zhU] at c5
 | quiet =>
   rw [A] at t;refine G t (fun e => ?_) ?_
   ·subst e
    have:=C.ismk;rw [zkU O,A] at this;simp [zEZ] at this
   ·have hc:=zsl A
    obtain ⟨n,hn⟩:=exX (rr j).get (zfu x);exact zgF (r':=r') (n:=n) (by omega) K (hn n (yd _)) (fun h => by omega) (fun h => by omega) (E j x O)
 | ld =>
   rw [A] at t;refine G t (fun e => ?_) ?_
   ·subst e
    have:=C.ismk;rw [zkU O,A] at this;simp [zEZ] at this
   ·obtain ⟨sz,y,aQ⟩:=zAS A
    refine zFv (r':=r') aQ K (fun id aU sz es z => ?_) (E j x O)
    have L : (rr 0).st[id]? = some (.cells aU sz es):=by
     rw [U] at z;split at z
     ·rcases Nat.lt_or_ge id (rr 0).st.length with h | h
      ·rwa [yf h] at z
      ·rw [List.getElem?_append_right h] at z
       cases hq : id - (rr 0).st.length with
       | zero => rw [hq] at z; simp at z
       | succ q => rw [hq] at z; simp at z
     ·exact z
    show (zhn rr xs p m0 D)[id]? = _
    unfold zhn;split
    ·rw [yf (zb L)]; exact L
    ·exact L
 | mk =>
   rw [A] at c5 t;simp only [zhU,beq_iff_eq] at c5;subst c5;have B:=zBT A;have m:=E j x O;rw [B] at m;simp only [step,zbm,Option.some.injEq] at m;rw [if_neg (by omega)] at U;have aN : zhn rr xs p j D = (rr 0).st:=by unfold zhn; rw [X]; rfl
   have I : zbC rr xs p (zbn D j) = []:=by
    unfold zbC;rw [List.filterMap_eq_nil_iff];intro i hi;have aD : i < p:=by simpa using hi
    by_cases e : i = j
    ·subst e
     simp only [zts,zbn,if_true,t,zF5]
    ·have aL : xs[i]? = some (xs[i]'(by omega)):=yc (by omega)
     have aC:=C.kind aD aL;have : zbn D j i = D i:=(by simp [zbn,e]);unfold zts;rw [this]
     cases aS : D i with
     | false => rfl
     | true =>
       simp only [if_true];unfold ent;rw [zkU aL]
       cases aV : zsI (xs[i]'(by omega)) with
       | ins n d y =>
         rw [aV] at aC;simp only [zhU,ya,decide_eq_true_eq,beq_iff_eq] at aC;have:=Y i aS j (by simpa using aC.2);rw [X] at this;cases this
       | _ => rfl
   have M : zhn rr xs p j (zbn D j) = (rr 0).st ++ [.mp []]:=by
    unfold zhn;rw [I];simp [zbn]
   have L : rr (j + 1) = ((rr j).at ((rr 0).st ++ [.mp []])).put x.dst (.one (.map (rr 0).st.length)):=by
    rw [← m,B];simp only [R.put,R.alloc,R.at,U]
   have h2 : step Cf r' x = some ((r'.at ((rr 0).st ++ [.mp []])).put x.dst (.one (.map (rr 0).st.length))):=by
    rw [B];have hr : r'.st = (rr 0).st:=aN;simp only [step,zbm,R.put,R.alloc,R.at,hr]
   rw [fin L,← M] at h2;exact zfb (r:=r') S R0 F c1 c2 c3 h2 (fun g' w' u H R1 _ F1 => k g' w' u H R1 F1) (fun _ h => h)
 | ins n d y =>
   rw [A] at c5 t;simp only [zhU,ya,decide_eq_true_eq,beq_iff_eq] at c5;obtain ⟨⟨hd,hm⟩,aA⟩:=c5;have aG : D m0 = true:=hE m0 (by simpa using aA);have J : m0 < j:=(by omega);rw [if_pos J] at U;have B:=zw3 A;have m:=E j x O
   have N : (rr j).get (.l d) = .one (.map (rr 0).st.length):=by
    show (rr j).rs.getD d vun = _
    rw [aK,yb,zkr (zbh rr) hd,hm];exact aT J
   have aO : r'.get (.l d) = .one (.map (rr 0).st.length):=(by rw [K _ (by rw [B]; simp [zfu,opX])]; exact N);have aP : r'.get y = (rr j).get y:=K _ (by rw [B]; simp [zfu,opX]);have hr : r'.st = (rr 0).st ++ [.mp (zbC rr xs p D)]:=(by show zhn rr xs p m0 D = _; unfold zhn; rw [aG]; rfl);obtain ⟨I,aE⟩:=zw9 (rr:=rr) C.keys (n:=n) (v:=(rr j).get y) hj X (by rw [t]; rfl)
   have M : zhn rr xs p m0 (zbn D j) = (rr 0).st ++ [.mp (zbC rr xs p (zbn D j))]:=by
    unfold zhn;have : zbn D j m0 = true:=(by simp [zbn,aG]);rw [this];rfl
   have L : ∃ σ1,rr (j + 1) = ((rr j).at σ1).put x.dst vun:=by
    rw [B] at m;have aB : (rr j).get (.c (.one (.f (.lit (.int .i64 n))))) = .one (.f (.lit (.int .i64 n))):=rfl;simp only [step,zbm,N,aB] at m;simp only [amu,U,ye,yl,Ob.entries,ym,Option.some.injEq] at m;rw [← m,B];exact ⟨_,rfl⟩
   obtain ⟨σ1,L⟩:=L
   have h2 : step Cf r' x = some ((r'.at ((rr 0).st ++ [.mp (zbC rr xs p D ++ [(n,(rr j).get y)])])).put x.dst vun):=by
    rw [B];have aB : r'.get (.c (.one (.f (.lit (.int .i64 n))))) = .one (.f (.lit (.int .i64 n))):=rfl;simp only [step,zbm,aO,aB,aP];simp only [amu,hr,ye,yl,Ob.entries,ym,zGW,R.setOb,zje I,R.put,R.at];simp
   rw [fin L] at h2;refine zfb (r:=r') S R0 F c1 c2 c3 h2 (fun g' w' u H R1 _ F1 => ?_) (fun _ h => h);have z : ((rr 0).st ++ [Ob.mp (zbC rr xs p D ++ [(n,(rr j).get y)])])[(rr 0).st.length]? = some (.mp (zbC rr xs p D ++ [(n,(rr j).get y)])):=(by simp);obtain ⟨H2,R2⟩:=zCj R1 z aE;have Z : ((rr 0).st ++ [Ob.mp (zbC rr xs p D ++ [(n,(rr j).get y)])]).set (rr 0).st.length (.mp (zbC rr xs p (zbn D j))) = zhn rr xs p m0 (zbn D j):=(by rw [M]; simp);have aM : Ext g' w' ((rr 0).st ++ [.mp (zbC rr xs p D ++ [(n,(rr j).get y)])]) g' w' (zhn rr xs p m0 (zbn D j)):=(by rw [← Z]; exact H2);have aR : Rel g' w' (zhn rr xs p m0 (zbn D j)):=(by rw [← Z]; exact R2);exact k g' w' u (H.trans aM) aR (F1.ext aM rfl rfl)
theorem zBy (hm : P.follows .mixedOrders = true) (Cf : zai) (S : zh3 P Cf) (κ : List Tmp) (nt id : Nat) (gops : Array Go.Oper) (xs : List Oper) (u : zxG P κ nt gops xs = true) (r r1 : R) (A : r.rs = []) (f : steps Cf xs r = some r1) : zAe P κ nt id gops r r1:=by
 intro g w a Q O F s;obtain ⟨ms,m0,p,C⟩:=zFt u;obtain ⟨rr,x,L,d⟩:=znw xs r r1 f;have B : (rr 0).rs = []:=by rw [x]; exact A
 have z : p ≤ xs.length:=C.w.le;refine wp_region_any hm ?_;obtain ⟨G,X⟩:=drawn O 1
 have c : ∀ i,Dof (yg gops.size false) i = false:=fun i => by
  unfold Dof;rw [Array.getD_eq_getD_getElem?,Array.getElem?_replicate];split <;> rfl
 have e : zhn rr xs p m0 (Dof (yg gops.size false)) = r.st:=by
  unfold zhn;rw [c,x];rfl
 have m : ∀ q,(zer rr xs p (Dof (yg gops.size false))).getD q vun = r.env.getD q vun:=fun q => by
  rw [zhF C.w d];unfold zh1;split <;> simp [c,x]
 have n : ∀ g' w' y loc,Ext g w r.st g' w' (rr gops.size).st → Rel g' w' (rr gops.size).st → Fr κ loc nt g' w' (rr gops.size) y → Q .normal y w':=fun g' w' y loc H J I => by
  rw [← C.len,L] at H J I;exact s g' w' y loc H J I
 refine zvY (b:=0) (l:=0) (v:=zbh rr) (envD:=zer rr xs p) (σD:=zhn rr xs p m0) (g0:=g) (w0:=w) (σ0:=r.st) (rr:=rr) S C.plan (zGh S C d B) d (zoM d B p z) (fun D => by simp [zer,x,F.len]) F.nd F.bd (fun D o => ⟨?_,?_⟩) n gops.size (yg gops.size false) g (w.drewN 1) a (by simp) (fun i _ => c i) (fun j E => by rw [c] at E; cases E) ?_ ⟨?_,?_,F.size,F.df,fun i t M => ?_,fun i t _ o => by rw [c] at o; cases o⟩
 ·
  have h:=(zHD C d B p (yd _)).1;rw [if_pos C.m0p] at h;rw [h];unfold zhn;rw [o];simp only [C.m0p,decide_true,if_true]
  congr 3
  exact zdS fun i V => by
   have : i < p:=(by simpa using V);simp [zts,o,this]
 ·
  obtain ⟨Y,N⟩:=zhb C.w d p (yd _);refine List.ext_getElem? fun q => ?_
  by_cases K : q < (rr 0).env.length
  ·have e1:=zhF (D:=D) (q:=q) C.w d
   have e2:=N q
   have e3 : zh1 rr xs p D q = zh1 rr xs p (fun k => decide (k < p)) q:=by
    congr 1
    funext k
    exact o k
   rw [e3,← e2] at e1;rw [yb,yb] at e1;have U : q < (zer rr xs p D).length:=(by simpa [zer] using K);have W : q < (rr p).env.length:=(by omega);rw [yc U,yc W] at e1 ⊢;simpa using e1
  ·rw [yi (by simp [zer]; omega),yi (by omega)]
 ·
  unfold left;exact Nat.le_trans (List.length_filter_le _ _) (by simp)
 ·rw [e]; exact G
 ·rw [e]; exact X
 ·rw [e,m]
  exact G.zf _ _ (F.env i t M)
end
attribute [go_sem] R.get R.put V.cells C.kns Ob.elem zd.elem zd.cell zEC upd Ob.write R.setOb R.alloc R.write zIi zCW zkh vsl vf zCa vfp zHj V.c1 zHv zzB zHX ztD zHk aun zko zGU zHi zHa
 zun zgl zeq zaj Ob.frz zEF zrs elems Ob.front Ob.setFront Ob.grow Ob.isRow zoW zvq zoV zES zkE zGf zol zpd zgZ tokens zEz zFZ R.allocs aal zFY zxc zFI zAz
 zGS zHO afa zGn zu6 aia zHe cut ald ast nest zF2 zGy zGt zrv zEb bound zBz zAT zG5 two zwm zDJ zGv zH3 zId zHg zGN zIf single zIg byteOf bytesOf zH4 zIj zHq zIa zAZ zEl zIe zG8 zHE zEk zAI Ob.rows zH1 zHb zD2 zC3 zHf Ob.entries zFa alk zGW amu zh6 zmP
 C.shift C.shifts V.shift V.shifts Ob.shift zv3 V.plain V.plains zxm zxD zw6 closed zph R.gets anl zbm zo7 step steps clr znf St.mkSt St.clear zF4 findLabel enter zuS zAy zEt zDw zjB outs zEm zng leave
 zrr ztb zub zri scK zzk vun C.lt C.lts V.lt V.lts C.ltss C.ltm Ob.lt Obs.lt
attribute [go_sem] zfC zss zAQ zBF zCi zCZ zfP zBV zyJ ziZ
attribute [go_sem] List.getD_cons_zero List.getD_cons_succ List.set_cons_zero List.set_cons_succ List.nil_append List.cons_append List.append_nil List.append_assoc List.length_cons List.length_nil List.length_append List.length_map
 List.map_cons List.map_nil List.getElem?_cons_zero List.getElem?_cons_succ List.take_succ_cons List.take_zero List.drop_succ_cons List.drop_zero List.any_cons List.any_nil List.replicate_succ List.replicate_zero List.take_nil List.drop_nil
 ym Option.map_none yl Option.bind_none if_true if_false Bool.false_eq_true Bool.or_false Bool.or_true Bool.false_or Bool.true_or Bool.not_true Bool.not_false Bool.true_and Bool.and_true Bool.false_and Bool.and_false Function.comp
 Nat.zero_add Nat.add_zero Nat.reduceAdd Nat.reduceSub Nat.reduceLeDiff Nat.reduceMul decide_true decide_false reduceCtorEq not_true_eq_false not_false_eq_true Nat.reduceEqDiff Nat.reduceLT Int.reduceLT Int.reduceLE Int.reduceToNat yd Option.isSome_none Option.isSome_some
 true_and and_true decide_eq_true_eq Bool.and_self Bool.or_self ite_true ite_false Nat.succ_ne_self
end Go.A
namespace Go.A.Lex
abbrev t : Bool:=true
abbrev f : Bool:=false
@[go_sem] abbrev q (op : Op) : Oper:=⟨.loc,op,none⟩
@[go_sem] abbrev e (op : Op) : Oper:=⟨.no,op,none⟩
@[go_sem] abbrev w (t : Nat) (op : Op) : Oper:=⟨.slot t,op,none⟩
@[go_sem] abbrev i (n : Int) : X:=.c (.one (.f (.lit (.int .i64 n))))
@[go_sem] abbrev ik (k : IntKind) (n : Int) : X:=.c (.one (.f (.lit (.int k n))))
@[go_sem] abbrev bo (b : Bool) : X:=.c (.one (.f (.lit (.bool b))))
attribute [go_sem] t f
end Go.A.Lex
namespace Go.A
section
variable {P : Program} {κ : List Tmp} {nt : Nat}
theorem wpOps_cons {ops : Array Go.Oper} {Q : Exit → Act → World → Prop} {i : Nat} {is : List Nat} {a : Act} {w : World} {o : Go.Oper} (b : ops[i]? = some o) (c : o.guard = none) (h : o.wp P a w (wpOps P ops Q is) Q) : wpOps P ops Q (i :: is) a w:=by
 simp only [wpOps,b];rw [if_pos (by simp [Region.wanted,c])];exact .inl h
end
section
variable {P : Program} {κ : List Tmp} {nt : Nat}
theorem Fr.tmp {g : G} {w : World} {r : R} {a : Act} (F : Fr κ [] nt g w r a) {t : Tmp} (c : κ.contains t = false) (b : t < nt) (u : Value) : Fr κ [] nt g w r (a.put (some t) u):=by
 have h:=F.put (t:=some t) (d:=.loc) (v:=vun) (u:=u) (by simp only [okD,ya,yh,decide_eq_true_eq]; exact ⟨c,b⟩) (fun _ => by simp [vun,zf,zz]);exact ⟨h.size,h.len,h.env,fun d t h => by simp at h,fun d t h => by simp at h,h.nd,h.bd,h.df⟩
theorem zE2 {a : Act} {t : Tmp} {u : Value} (h : t < a.tmps.size) : (a.put (some t) u).tmps.getD t undef = u:=by
 simp only [Act.put,zis];simp [h]
theorem zDq {a : Act} {d : Option Tmp} {u : Value} : (a.put d u).tmps.size = a.tmps.size:=by
 cases d <;> simp [Act.put]
theorem ztl {a : Act} {t : Tmp} : a.eval (.tmp t) = a.tmps.getD t undef:=rfl
structure Cp (κ : List Tmp) (nt : Nat) (g0 : G) (w0 : World) (σ0 σ : zd) (env : List V) (b l id id' bm clock : Nat) (zbC : Array MapEntry) (tit r : Nat) (seen : Array Nat) (ds : List (Int × V)) (g : G) (w : World) (a : Act) : Prop where
 ext : Ext g0 w0 σ0 g w (σ.set id' (.mp ds))
 rel : Rel g w (σ.set id' (.mp ds))
 fr : Fr κ [] nt g w ⟨[],env,σ.set id' (.mp ds),b,l⟩ a
 it : a.tmps.getD tit undef = .pointer (some ⟨r,0,none⟩)
 hr : ∃ c0,clock ≤ c0 ∧ w.heap[r]? = some (.mapIter (some bm) clock seen c0)
 hb : w.heap[bm]? = some (.map zbC clock)
 rho : g.ρ id = bm
 ow : g.ow r = .no
 no : ∀ o,¬ g.N r o
 new : w0.heap.size ≤ r
end
section
variable {P : Program} {κ : List Tmp} {nt : Nat}
structure Nums where
 tm : Nat
 tit : Nat
 t21 : Nat
 t22 : Nat
 t23 : Nat
 t24 : Nat
 t25 : Nat
 t7 : Nat
 t6 : Nat
 t26 : Nat
 t27 : Nat
 t28 : Nat
 t29 : Nat
 t5 : Nat
 mt : Nat
 ty : Nat
 fi : Nat
 lt : Nat
 dt : Nat
def Nums.fresh (n : Nums) : List Nat:=[n.tit,n.t21,n.t22,n.t23,n.t24,n.t25,n.t7,n.t6,n.t26,n.t27,n.t28,n.t29]
structure TyOk (P : Program) (n : Nums) (off sz row : Nat) : Prop where
 zs : ∃ zs : List Value,zeroOf P n.ty = some zs ∧ zs.length = row
 rsz : zjM P n.ty = some row
 row0 : 0 < row
 fld : ∃ fs f k,P.underlying n.ty = some (.struct fs) ∧ fs[n.fi]? = some f ∧ zjM P f.type = some k ∧ k ≠ 0 ∧ f.offset = off
 agg : zmv P n.lt = some true
 lsz : zjM P n.lt = some sz
 dt : ∃ key elem,P.underlying n.dt = some (.map key elem) ∧ P.underlying key = some (.int .i64)
theorem zl9 {id : Nat} {ops : Array Go.Oper} {Q : Exit → Act → World → Prop} {a : Act} {w : World} (h : wpOps P ops Q (yk 0 ops.toList.length) a w) : (Go.Code.region id ops false).wp P Q a w:=by
 refine wp_region ?_;rw [List.range_eq_range'];simpa using h
theorem zEg {ops : Array Go.Oper} {Q : Exit → Act → World → Prop} {i m : Nat} {a : Act} {w : World} {o : Go.Oper} (b : ops[i]? = some o) (c : o.guard = none) (h : o.wp P a w (wpOps P ops Q (yk (i + 1) m)) Q) : wpOps P ops Q (yk i (m + 1)) a w:=by
 rw [List.range'_succ];exact wpOps_cons b c h
theorem Fr.tr {g g' : G} {w w' : World} {σ σ' : zd} {env : List V} {b l : Nat} {a : Act} (F : Fr κ [] nt g w ⟨[],env,σ,b,l⟩ a) (tr : ∀ v u,zf g w σ v u → zf g' w' σ' v u) : Fr κ [] nt g' w' ⟨[],env,σ',b,l⟩ a :=
 ⟨F.size,F.len,fun i t h => tr _ _ (F.env i t h),fun d t h => by simp at h,fun d t h => by simp at h,F.nd,F.bd,F.df⟩
structure PutS (κ : List Tmp) (nt : Nat) (a a1 : Act) (t : Tmp) (u : Value) : Prop where
 size : a.tmps.size = nt → a1.tmps.size = nt
 val : a.tmps.size = nt → a1.tmps.getD t undef = u
 other : ∀ t',t' ≠ t → a1.tmps.getD t' undef = a.tmps.getD t' undef
 fr : ∀ {g : G} {w : World} {r : R},Fr κ [] nt g w r a → Fr κ [] nt g w r a1
theorem zzc {a : Act} {t : Tmp} (u : Value) (h : κ.contains t = false ∧ t < nt) : PutS κ nt a (a.put (some t) u) t u :=
 ⟨fun b => by rw [zDq,b],fun b => zE2 (by rw [b]; exact h.2),fun d c => zmV (fun e => c (by injection e with e; exact e.symm)),fun F => F.tmp h.1 h.2 u⟩
theorem zs7 {ops : Array Go.Oper} {Q : Exit → Act → World → Prop} {i m : Nat} {a : Act} {w w' : World} {o : Go.Oper} {t : Tmp} {u : Value} (c : ops[i]? = some o) (d : o.guard = none) (hd : o.dst = some t) (e : κ.contains t = false ∧ t < nt)
  (b : (execOp a.eval o).run P w = .ok (.value u) w') (k : ∀ a1,PutS κ nt a a1 t u → wpOps P ops Q (yk (i + 1) m) a1 w') : wpOps P ops Q (yk i (m + 1)) a w :=
 zEg c d (zm8 b (by rw [hd]; exact k _ (zzc u e)))
theorem zvw {a : Act} {w : World} {o : Go.Oper} {t : Tmp} {u : Value} (b : o.op = .assign (.tmp t) ∨ o.op = .move (.tmp t)) (h : a.tmps.getD t undef = u) : (execOp a.eval o).run P w = .ok (.value u) w:=by
 unfold execOp;rcases b with b | b <;> simp only [b,ztl,h] <;> simp
end
end Go.A
namespace Go.A
open Go.ChangeMaps (setBlock)
section
variable {P : Program} {κ : List Tmp} {nt : Nat}
end
end Go.A
namespace Go.A
section
variable {P : Program} {κ : List Tmp} {nt : Nat}
end
def ztf (P : Program) : Draws:=⟨fun κ nt gops xs => zsQ P κ nt gops xs || zxG P κ nt gops xs,zpA P,fun _ _ _ _ => false⟩
theorem zw1 {P : Program} (hm : P.follows .mixedOrders = true) : DrawOk P (ztf P) where
 a:=fun Cf S κ nt id gops xs h r r1 h0 hs => by
   simp only [ztf,Bool.or_eq_true] at h;rcases h with h | h
   ·exact zEE hm Cf S κ nt id gops xs h r r1 h0 hs
   ·exact zBy hm Cf S κ nt id gops xs h r r1 h0 hs
 b:=fun Cf S κ nt id gops ps xs h r r1 h0 hs => zFq hm Cf S κ nt id gops ps xs h r r1 h0 hs
 lab:=fun _ _ _ _ h => by cases h
 c:=fun _ _ _ _ h => by cases h
def zom : Option Fun → Option Entry
 | some f => some (.fn f)
 | none => none
def zv4 (rows : List (List (Option Fun))) (n : Nat) : Option Entry:=zom (((rows[n / 16]?).bind (·[n % 16]?)).getD none)
end Go.A
namespace Go.A
open Go.RowKit (Below)
def zxu : List Fz → Option Int
 | [.lit (.int .i64 x)] => some x
 | _ => none
def zg5 : List (List Fz) → Option (List Int)
 | [] => some []
 | r :: rs => zgl (zxu r) (zg5 rs)
def zcx (l : List Int) : List Int:=l.mergeSort fun x y => decide (x ≤ y)
def zp : List Int → List Int
 | [] => []
 | [x] => [x]
 | x :: y :: r => if x = y then zp (y :: r) else x :: zp (y :: r)
def zn (x : Int) : List C:=[.f (.lit (.int .i64 x))]
def zxP (x : Int) : List Fz:=[.lit (.int .i64 x)]
def znr (σ : zd) (l : List Int) : Option (V × zd) :=
 if l.length ≤ LIM then some (.one (.own σ.length 0 0 l.length),σ ++ [.cells 0 1 ((zcx l).map zn)]) else none
def zmU (σ : zd) : Option C → Option (V × zd)
 | some (.f (.sl xs)) => (zg5 xs).bind (znr σ)
 | _ => none
def zhW (fv : Nat) : List V → zd → Option (V × zd)
 | [.one (.fn g [] [.ptr id ver i o])],σ => if g = fv ∧ o = 0 then zmU σ (σ.cell id ver i 0) else none
 | _,_ => none
def ziA (ver n : Nat) : Ob → Option (List Int)
 | .cells ver' sz es => if ver' = ver ∧ sz = 1 ∧ es.length = n ∧ n ≤ LIM then (zaj es).bind zg5 else none
 | _ => none
def zqq (σ : zd) (id ver : Nat) (l : List Int) : V × zd:=(.tup [],σ.set id (.cells ver 1 ((zcx l).map zn)))
def zmE : List V → zd → Option (V × zd)
 | [.one (.f (.sl []))],σ => some (.tup [],σ)
 | [.one (.own id ver 0 n)],σ => ((σ[id]?).bind (ziA ver n)).map (zqq σ id ver)
 | _,_ => none
def zla (σ : zd) (id ver : Nat) (l : List Int) : V × zd:=(vsl ((zp l).map zxP),σ.set id (.cells (ver + 1) 1 []))
def zf4 : List V → zd → Option (V × zd)
 | [.one (.f (.sl []))],σ => some (vsl [],σ)
 | [.one (.own id ver 0 n)],σ => ((σ[id]?).bind (ziA ver n)).map (zla σ id ver)
 | _,_ => none
theorem zBD {g : G} {w w' : World} {σ : zd} (R : Rel g w σ) (h : Below w.heap.size w w') : Ext g w σ g w' σ ∧ Rel g w' σ:=by
 have H : Ext g w σ g w' σ:={
  os:=h.os
  tape:=h.tape
  output:=h.output
  size:=h.size
  keeps:=fun b o a => ⟨a,by
   unfold World.cell?
   rw [h.block b (R.nb b o a)]⟩
  len:=yd _
  shape:=fun id i sz len d => .inl ⟨d,rfl,fun _ arr t e => ⟨arr,by rw [h.block _ (Array.getElem?_eq_some_iff.1 e).1]; exact e,rfl⟩⟩
  map:=fun id es he => ⟨rfl,es,he⟩
  tok:=fun t k n c => ⟨n,c,yd _,fun _ => rfl⟩
  tsz:=fun _ _ d => d
  ow:=fun _ _ => rfl
  new:=fun _ _ c _ _ => c
  frame:=fun b a _ => h.block b a }
 exact ⟨H,fun b o a => Nat.lt_of_lt_of_le (R.nb b o a) h.size,fun id ob f => zdq H rfl (fun _ => rfl) (fun b a _ => ⟨h.block b a,rfl,fun _ c => c⟩) (R.ob id ob f)⟩
end Go.A
namespace Go.A
def zkM : Nat → Option Entry:=fun _ => none
theorem zq9 {P : Program} (n : Nat) : zh3 P (zgp zkM (zU zkM n)):=fun _ _ _ _ _ h => by simp [zgp,zkM] at h
structure TwoOk (P : Program) (CD : Draws) (κ : List Tmp) (gf : Func) (fn1 fn2 : Fun) (c0 c1 c2 : Code) (i0 i1 : Nat) (r0 : Array Go.Oper) (o1 o2 : Go.Oper) (ga gb : Go.Code) (t3 t4 ty ty' ty'' : Nat) : Prop where
 body : gf.body = some (.seq (.region i0 r0 false) (.seq (.seq (.region i1 #[o1,o2] false) (.cond (.tmp t4) ga .skip)) gb))
 b1 : fn1.body = .seq c0 c1
 b2 : fn2.body = .seq c0 c2
 k0 : zr P CD κ gf.ntmps (.region i0 r0 false) c0 = true
 k1 : zr P CD κ gf.ntmps ga c1 = true
 k2 : zr P CD κ gf.ntmps gb c2 = true
 e1 : o1.guard = none ∧ o1.dst = some t3 ∧ o1.op = .move (.tmp 0)
 e2 : o2.guard = none ∧ o2.dst = some t4 ∧ o2.op = .binOp .eql ty (.tmp t3) (.const (.slice none 0 0)) ty'
 ne : t3 ≠ t4
 f3 : κ.contains t3 = false ∧ t3 < gf.ntmps
 f4 : κ.contains t4 = false ∧ t4 < gf.ntmps
 arg : κ[0]? = some 0
 ty : P.underlying ty = some (.slice ty'')
 nd : zkG κ = true
 all : κ.all (fun t => decide (t < gf.ntmps)) = true
 same : fn1.np = fn2.np ∧ fn1.nslots = fn2.nslots ∧ fn1.keep = fn2.keep
 len : κ.length = fn2.nslots
 np : fn2.np ≤ fn2.nslots
 np2 : fn2.np ≤ gf.ntmps
 hd : κ.take fn2.np = yj fn2.np
 q1 : zke P κ gf.results.toList fn1.results = true
 q2 : zke P κ gf.results.toList fn2.results = true
section
variable {P : Program} {CD : Draws} {κ : List Tmp}
theorem zBA (hD : DrawOk P CD) {f : Nat} {gf : Func} {fn1 fn2 : Fun} {c0 c1 c2 : Code} {i0 i1 : Nat} {r0 : Array Go.Oper} {o1 S : Go.Oper} {X U : Go.Code} {t3 t4 ty D i : Nat} (O : P.funcs[f]? = some gf) (T : TwoOk P CD κ gf fn1 fn2 c0 c1 c2 i0 i1 r0 o1 S X U t3 t4 ty D i)
  {xs : List (List Fz)} {σ : zd} {v : V} {σ' : zd} {n0 n2 : Nat} {s0 s2 : St} {e2 : Ex} (W : zU zkM n0 c0 (enter fn2 [vsl xs] σ) = some (.normal,s0)) (M : s0.env.getD 0 vun = vsl xs) (Z : zU zkM n2 c2 s0 = some (e2,s2)) (l2 : leave fn2.raw fn2.results (e2,s2) = some (v,σ'))
  (h1 : xs = [] → ∃ n1 s1,zU zkM n1 c1 s0 = some (.ret,s1) ∧ leave fn1.raw fn1.results (.ret,s1) = some (v,σ')) (K : fn2.np = 1) {g : G} {w : World} {us : List Value} (R0 : Rel g w σ) (hv : zA g w σ [vsl xs] us) :
  Calls P f us.toArray w fun e w' => ∃ u g',e = .returned u ∧ zf g' w' σ' v u ∧ Rel g' w' σ' ∧ Ext g w σ g' w' σ':=by
 have hA:=zmm (gf:=gf) (fn:=fn2) R0 hv T.nd T.all T.len T.np T.np2 T.hd (by rw [K]; rfl);have a:=fun n => zpB (P:=P) (CD:=CD) (T:=zkM) (g0:=g.clean σ.length) (w0:=w) (σ0:=σ) (κ:=κ) (nt:=gf.ntmps) hD (zgy g σ.length) n fun m _ => zq9 m;have q:=zdR zkM n0 _ _ _ _ W
 have k : ∀ (fn : Fun) (e : Ex) (s : St),zke P κ gf.results.toList fn.results = true → leave fn.raw fn.results (e,s) = some (v,σ') → s.lim = (enter fn2 [vsl xs] σ).lim → ∀ x y w',zEw (g.clean σ.length) w σ κ gf.ntmps e s x y w' →
   bodyPost P gf (fun e w' => ∃ u g',e = .returned u ∧ zf g' w' σ' v u ∧ Rel g' w' σ' ∧ Ext g w σ g' w' σ') x y w' ∧ x = zl5 e:=fun fn e s H d B x y w' l => by
  obtain ⟨rfl,g',A'⟩:=l;obtain ⟨q1,q2,u,q3,I,q4,q5,Y⟩:=zmJ (fn:=fn) (gf:=gf) (zgy g σ.length) (by rw [B]; exact Nat.le_add_right _ _) H d A'
  have j : y.defers = [] ∧ ∃ v1,(results gf y.tmps).run P w' = .ok v1 w' ∧ ∃ u g',(Ending.returned v1) = .returned u ∧ zf g' w' σ' v u ∧ Rel g' w' σ' ∧ Ext g w σ g' w' σ' :=
   ⟨q2,u,q3,u,G.under g w I,rfl,zhZ (g:=I) (g':=G.under g w I) rfl rfl rfl _ _ q4,zqV Y q5,zqE Y⟩
  rcases q1 with rfl | rfl
  ·exact ⟨j,rfl⟩
  ·exact ⟨j,rfl⟩
 refine calls_of_wp O T.body (wp_seq (wp_mono ((a n0).1 _ c0 _ .normal s0 T.k0 W _ _ _ (yd _) hA) fun x a1 A l => ?_));obtain ⟨rfl,g1,r⟩:=l
 show Exit.then _ _ .normal a1 A
 simp only [Exit.then];have p:=r.fr.size;have hu:=r.fr.env 0 0 T.arg;simp only [M] at hu;simp only [vsl,zf,zz,rep] at hu;obtain ⟨ad,c,sz,hu,_,_,t⟩:=hu;refine wp_seq (wp_seq (zl9 ?_));refine zs7 (o:=o1) rfl T.e1.1 T.e1.2.1 T.f3 (zvw (.inr T.e1.2.2) hu) fun a2 C => ?_;refine zs7 (o:=S) (u:=.bool ad.isNone) (w':=A) rfl T.e2.1 T.e2.2.1 T.f4 ?_ fun a3 L => ?_
 ·unfold execOp
  simp only [T.e2.2.2,ztl,C.val p,Act.eval];simp [eqGuard,Lib.run_eql_slice_nil A ty i ad xs.length c 0 0 T.ty]
 show Exit.then _ _ .normal a3 A
 simp only [Exit.then];have A3 : At' (g.clean σ.length) w σ κ gf.ntmps g1 A s0 a3:=⟨r.ext,r.rel,L.fr (C.fr r.fr)⟩;have hle : σ.length ≤ s0.base:=by rw [q.1]; exact yd _
 cases ad with
 | none =>
   have J : xs = []:=by
    rcases t with h | ⟨b,o,h,_⟩
    ·exact h
    ·cases h
   obtain ⟨n1,s1,z,R⟩:=h1 J;have E:=zdR zkM n1 _ _ _ _ z;refine wp_cond_true (L.val (C.size p)) (wp_mono ((a n1).1 X c1 s0 .ret s1 T.k1 z _ _ _ hle A3) fun x a4 Q l => ?_);obtain ⟨k1,k2⟩:=k fn1 .ret s1 T.q1 R (by rw [E.2,q.2]) x a4 Q l;subst k2;simp only [zl5,Exit.then];exact k1
 | some ad =>
   have N:=zdR zkM n2 _ _ _ _ Z;refine wp_cond_false (L.val (C.size p)) (wp_skip ?_);simp only [Exit.then];exact wp_mono ((a n2).1 U c2 s0 e2 s2 T.k2 Z _ _ _ hle A3) fun x a4 Q l => (k fn2 e2 s2 T.q2 l2 (by rw [N.2,q.2]) x a4 Q l).1
def zpL (t3 t4 : Nat) (o1 o2 : Go.Oper) : Bool:=o1.guard.isNone && o1.dst == some t3 && o2.guard.isNone && o2.dst == some t4 &&
 (match o1.op with
  | .move (.tmp 0) => true
  | _ => false) && (match o2.op with
  | .binOp .eql _ (.tmp t) (.const (.slice none 0 0)) _ => t == t3
  | _ => false)
def zCb (o : Go.Oper) : Nat × Nat:=match o.op with
 | .binOp _ t _ _ t' => (t,t')
 | _ => (0,0)
theorem zlY {t3 t4 : Nat} {b a : Go.Oper} (h : zpL t3 t4 b a = true) : (b.guard = none ∧ b.dst = some t3 ∧ b.op = .move (.tmp 0)) ∧ (a.guard = none ∧ a.dst = some t4 ∧ a.op = .binOp .eql (zCb a).1 (.tmp t3) (.const (.slice none 0 0)) (zCb a).2):=by
 unfold zpL at h;simp only [ya,Option.isNone_iff_eq_none,beq_iff_eq] at h;obtain ⟨⟨⟨⟨⟨g,e⟩,f⟩,i⟩,d⟩,c⟩:=h;refine ⟨⟨g,e,?_⟩,f,i,?_⟩
 ·split at d
  ·assumption
  ·cases d
 ·unfold zCb
  split at c
  ·rename_i heq
   rw [heq];simp only [beq_iff_eq] at c;rw [c]
  ·cases c
def zp3 (P : Program) (t : Nat) : Bool:=match P.underlying t with
 | some (.slice _) => true
 | _ => false
def zo8 (P : Program) (CD : Draws) (κ : List Tmp) (gf : Func) (fn1 fn2 : Fun) : Bool:=match gf.body,fn1.body,fn2.body with
 | some (.seq (.region i0 r0 false) (.seq (.seq (.region _ ⟨[o1,o2]⟩ false) (.cond (.tmp t4) ga .skip)) gb)),.seq c0 c1,.seq c0' c2 =>
   zr P CD κ gf.ntmps (.region i0 r0 false) c0 && zr P CD κ gf.ntmps (.region i0 r0 false) c0' && zr P CD κ gf.ntmps ga c1 && zr P CD κ gf.ntmps gb c2 && (match o1.dst with
    | some t3 => zpL t3 t4 o1 o2 && t3 != t4 && !κ.contains t3 && decide (t3 < gf.ntmps)
    | none => false) && !κ.contains t4 && decide (t4 < gf.ntmps) && κ[0]? == some 0 && zp3 P (zCb o2).1 && zkG κ && κ.all (fun t => decide (t < gf.ntmps)) && κ.length == fn2.nslots && decide (fn2.np ≤ fn2.nslots) && decide (fn2.np ≤ gf.ntmps) && (κ.take fn2.np == yj fn2.np) && zke P κ gf.results.toList fn1.results && zke P κ gf.results.toList fn2.results
 | _,_,_ => false
def zoj : Code:=.reg [⟨.slot 1,.mv (.c (.one (.f (.sl [])))),none⟩]
def zq0 : Code:=.seq (.reg [⟨.slot 1,.mv (.c (.one (.f (.sl [])))),none⟩]) (.ret [false,true])
def zqT (sz : Nat) : Code:=.seq (.reg [⟨.loc,.bsl .tk sz [] [],none⟩,⟨.loc,.mv (.s 0),none⟩,⟨.loc,.app sz (.l 1) (.l 0),none⟩,⟨.slot 1,.mv (.l 0),none⟩]) (.ret [false,true])
def zho : Fun:=⟨1,2,0,false,[(1,none)],.seq zoj zq0⟩
def zgd (sz : Nat) : Fun:=⟨1,2,0,false,[(1,none)],.seq zoj (zqT sz)⟩
def zpp (sz : Nat) : List V → zd → Option (V × zd)
 | [.one (.f (.sl xs))],[] => if zoV sz xs = true ∧ xs.length ≤ LIM then some (.one (.f (.sl xs)),[]) else none
 | _,_ => none
theorem zzl (hD : DrawOk P CD) {f : Nat} {gf : Func} {sz : Nat} (hgf : P.funcs[f]? = some gf) (hname : (gf.name == "runtime.NumGoroutine") = false) (hc : zo8 P CD [0, 2] gf zho (zgd sz) = true) (args : List V) (σ : zd) (v : V) (σ' : zd) (h : zpp sz args σ = some (v, σ')) :
  Enters P f ∧ ∀ g w us,Rel g w σ → zA g w σ args us → Calls P f us.toArray w fun e w' => ∃ u g',e = .returned u ∧ zf g' w' σ' v u ∧ Rel g' w' σ' ∧ Ext g w σ g' w' σ':=by
 unfold zpp at h
 split at h
 ·rename_i xs
  split at h
  ·rename_i hok
   injection h with h
   simp only [Prod.mk.injEq] at h
   obtain ⟨rfl,rfl⟩:=h
   unfold zo8 at hc
   split at hc
   ·rename_i i0 r0 i1 o1 o2 t4 ga gb c0 c1 c0' c2 hb hb1 hb2
    simp only [ya,beq_iff_eq,bne_iff_ne,ne_eq,yh,decide_eq_true_eq] at hc
    obtain ⟨⟨⟨⟨⟨⟨⟨⟨⟨⟨⟨⟨⟨⟨⟨⟨h1,h1'⟩,h2⟩,h3⟩,h4⟩,h5⟩,h6⟩,h7⟩,h8⟩,h9⟩,h10⟩,h11⟩,h12⟩,h13⟩,h14⟩,h15⟩,h16⟩:=hc
    split at h4
    ·rename_i t3 ht3
     simp only [ya,bne_iff_ne,ne_eq,yh,decide_eq_true_eq] at h4
     obtain ⟨⟨⟨h4,hne⟩,hk3⟩,hl3⟩:=h4
     obtain ⟨k1,k2⟩:=zlY h4
     injection hb1 with e1 e2
     injection hb2 with e3 e4
     subst e1 e2 e3 e4
     refine ⟨⟨gf,_,hgf,hname,hb⟩,fun g w us R0 hv => ?_⟩
     obtain ⟨te,hte⟩ : ∃ te,P.underlying (zCb o2).1 = some (.slice te):=by
      unfold zp3 at h8
      split at h8
      ·rename_i te hte; exact ⟨te,hte⟩
      ·cases h8
     have T : TwoOk P CD [0,2] gf zho (zgd sz) zoj zq0 (zqT sz) i0 i1 r0 o1 o2 ga gb t3 t4 (zCb o2).1 (zCb o2).2 te :=
      ⟨hb,rfl,rfl,h1,h2,h3,k1,k2,hne,⟨hk3,hl3⟩,⟨h5,h6⟩,h7,hte,h9,h10,⟨rfl,rfl,rfl⟩,h11,h12,h13,h14,h15,h16⟩
     refine zBA (n0:=1) (n2:=2) (e2:=.ret) (s0:=⟨[vsl xs,vsl []],[],0,0⟩) (s2:=⟨[vun,.one (.ap 0 0 xs)],[.tok sz [xs.length]],0,0⟩) hD hgf T ?_ rfl ?_ ?_ (fun hxs => ⟨2,⟨[vun,vsl []],[],0,0⟩,?_,?_⟩) rfl R0 hv
     ·simp [zU,zoj,steps,step,zbm,R.get,R.put,zzk,enter,zgd,vsl,vun]
     ·simp [zU,zqT,steps,step,zbm,R.get,R.put,zzk,vsl,vun,zpd,zxc,zaj,zAz,R.alloc,elems,hok.1,zES,zoW,Ob.front,Ob.setFront,R.setOb,hok.2,zrr,clr,St.mkSt]
     ·simp [leave,zgd,outs,zuS,zAy,zEt,zgl,vsl,zng,znf,V.lts,V.lt,C.lt,Obs.lt,zEm,vun]
     ·simp [zU,zq0,steps,step,zbm,R.get,R.put,zzk,vsl,vun,zrr,clr,St.mkSt]
     ·subst hxs
      simp [leave,zho,outs,zuS,zAy,zEt,zgl,vsl,zng,znf,V.lts,V.lt,C.lt,Obs.lt,zEm,vun]
    ·cases h4
   ·cases hc
  ·cases h
 ·cases h
end
end Go.A
