/- A part of the proof of SchedFlat. Conditions: none. -/
import Derived.Test.YtmkncmffaaninaaGreatFAN
import Derived.Test.YtmkncmffaaninaaGreatFAA
import Derived.Attr
import Derived.Maps.RangeRun
import Derived.Below
import Derived.WalkSpells
set_option linter.all false
open Bool renaming and_eq_true → ya,not_eq_true' → yh
open List renaming getD_eq_getElem?_getD → yb,getElem?_eq_getElem → yc,getElem?_concat_length → ye,getElem?_append_left → yf,getElem?_eq_none → yi,range → yj,range' → yk
open Nat renaming le_refl → yd,le_of_lt → yn
open Array renaming replicate → yg
open Option renaming bind_some → yl,map_some → ym
namespace Go.A
section
variable {P : Program} {κ : List Tmp} {nt : Nat} {gops : Array Go.Oper} {xs : List Oper} {ms : List Nat} {m0 p b l : Nat} {Cf : zae} {rr : Nat → R}
theorem zBb {D : Nat → Bool} {j : Nat} (he : ent rr xs j = none) (a : j ≠ m0) : zgB rr xs p m0 (zba D j) = zgB rr xs p m0 D:=by
 unfold zgB;rw [zye he];have : zba D j m0 = D m0:=by simp [zba,Ne.symm a]
 rw [this]
theorem zEz (S : zhg P Cf) (C : Chk3 P κ nt gops xs ms m0 p) (B : ∀ i x,xs[i]? = some x → step Cf (rr i) x = some (rr (i + 1))) (h0 : (rr 0).rs = []) : Local P κ nt gops xs (za6 rr) (zdU rr xs p) (zgB rr xs p m0) p b l:=by
 intro j o x D g w a next Q hj ho M W hE Y aX R0 F k
 have aW : p ≤ xs.length:=C.w.le;obtain ⟨c1,c2,c3,_,c5⟩:=C.pre_some hj ho M;have hA : ∀ i,Reach gops j i → D i = true:=fun i h => za2 Y h hE
 have hB : ∀ i,Reach gops i j → D i = false:=fun i h => by
  cases hi : D i with
  | false => rfl
  | true =>
    have:=za2 Y h (Y i hi);rw [W] at this;cases this
 let r' : R:=⟨(yj j).reverse.map (za6 rr),zdU rr xs p D,zgB rr xs p m0 D,b,l⟩
 have aG:=znK B h0 j (by omega);obtain ⟨_,aK⟩:=zgr C.w B j (yn hj)
 have K : ∀ y ∈ zeQ x,r'.get y = (rr j).get y:=fun y hy => by
  cases y with
  | l d => show ((yj j).reverse.map (za6 rr)).getD d vun = (rr j).rs.getD d vun; rw [aG]
  | c v => rfl
  | s q =>
    show (zdU rr xs p D).getD q vun = (rr j).env.getD q vun
    rw [zgP C.w B,aK];unfold zg4
    cases hi : wr xs p q with
    | none => rfl
    | some i =>
      obtain ⟨aB,x',aH,hw⟩:=zgw hi
      have X : zfC q x = true:=by
       unfold zfC;rw [List.any_eq_true];exact ⟨_,hy,by simp⟩
      have : D i = decide (i < j):=by
       rcases Nat.lt_trichotomy i j with I | rfl | I
       ·rcases (C.pair I hj aH M).1 with h | h
        ·exfalso
         unfold zgn at h;rw [hw] at h;simp [X] at h
        ·rw [hA i h]; simp [I]
       ·rw [W]; simp
       ·rcases (C.pair I aB M aH).1 with h | h
        ·exfalso
         unfold zgn at h;rw [hw] at h;simp [X] at h
        ·rw [hB i h]; simp; omega
      simp only [this]
 have t : ent rr xs j = zEi rr j (zrM x):=by unfold ent; rw [zj9 M]
 obtain ⟨N,aU⟩:=zFP C B h0 j (yn hj)
 have fin : ∀ {v : V} {σ1 σ2 : zd},rr (j + 1) = ((rr j).at σ1).put x.dst v → (r'.at σ2).put x.dst v = ⟨za6 rr j :: (yj j).reverse.map (za6 rr),zdU rr xs p (zba D j),σ2,b,l⟩:=fun {v σ1 σ2} L => by
  have he:=zpG C.w B (D:=D) hj M L;have aI : za6 rr j = (((rr j).at σ1).put x.dst v).rs.headD vun:=by unfold za6; rw [L]
  rw [he,aI];cases x.dst <;> rfl
 have G : ent rr xs j = none → j ≠ m0 → (∃ v,rr (j + 1) = (rr j).put x.dst v ∧ step Cf r' x = some (r'.put x.dst v)) → if Region.wanted o (yielded gops a.tmps) then o.wp P a w next Q else next (a.put o.dst undef) w:=fun he hne ⟨v,L,h2⟩ => by
  have hf : (r'.at (zgB rr xs p m0 D)).put x.dst v = _:=fin (σ1:=(rr j).st) L;have aM : step Cf r' x = some ⟨za6 rr j :: (yj j).reverse.map (za6 rr),zdU rr xs p (zba D j),zgB rr xs p m0 D,b,l⟩:=by rw [h2,← hf]; rfl
  rw [← zBb (rr:=rr) (p:=p) he hne] at aM;exact zeB (r:=r') S R0 F c1 c2 c3 aM (fun g' w' u H R1 _ F1 => k g' w' u H R1 F1) (fun _ h => h)
 cases z : zrM x with
 | bad => rw [z] at c5; simp [zhf] at c5
 | quiet =>
   rw [z] at t;refine G t (fun e => ?_) ?_
   ·subst e
    have:=C.ismk;rw [zj9 M,z] at this;simp [zDd] at this
   ·have hc:=zrg z
    obtain ⟨n,hn⟩:=exX (rr j).get (zeQ x);exact zfK (r':=r') (n:=n) (by omega) K (hn n (yd _)) (fun h => by omega) (fun h => by omega) (B j x M)
 | ld =>
   rw [z] at t;refine G t (fun e => ?_) ?_
   ·subst e
    have:=C.ismk;rw [zj9 M,z] at this;simp [zDd] at this
   ·obtain ⟨sz,y,aN⟩:=zx4 z
    refine zDL (r':=r') aN K (fun id aP sz es A => ?_) (B j x M)
    have L : (rr 0).st[id]? = some (.cells aP sz es):=by
     rw [N] at A;split at A
     ·rcases Nat.lt_or_ge id (rr 0).st.length with h | h
      ·rwa [yf h] at A
      ·rw [List.getElem?_append_right h] at A
       cases hq : id - (rr 0).st.length with
       | zero => rw [hq] at A; simp at A
       | succ q => rw [hq] at A; simp at A
     ·exact A
    show (zgB rr xs p m0 D)[id]? = _
    unfold zgB;split
    ·rw [yf (zb L)]; exact L
    ·exact L
 | mk =>
   rw [z] at c5 t;simp only [zhf,beq_iff_eq] at c5;subst c5;have E:=zyv z;have m:=B j x M;rw [E] at m;simp only [step,za8,Option.some.injEq] at m;rw [if_neg (by omega)] at N;have aR : zgB rr xs p j D = (rr 0).st:=by unfold zgB; rw [W]; rfl
   have J : zbn rr xs p (zba D j) = []:=by
    unfold zbn;rw [List.filterMap_eq_nil_iff];intro i hi;have aB : i < p:=by simpa using hi
    by_cases e : i = j
    ·subst e
     simp only [zrL,zba,if_true,t,zEi]
    ·have aL : xs[i]? = some (xs[i]'(by omega)):=yc (by omega)
     have aE:=C.kind aB aL;have : zba D j i = D i:=(by simp [zba,e]);unfold zrL;rw [this]
     cases aS : D i with
     | false => rfl
     | true =>
       simp only [if_true];unfold ent;rw [zj9 aL]
       cases aQ : zrM (xs[i]'(by omega)) with
       | ins n d y =>
         rw [aQ] at aE;simp only [zhf,ya,decide_eq_true_eq,beq_iff_eq] at aE;have:=Y i aS j (by simpa using aE.2);rw [W] at this;cases this
       | _ => rfl
   have U : zgB rr xs p j (zba D j) = (rr 0).st ++ [.mp []]:=by
    unfold zgB;rw [J];simp [zba]
   have L : rr (j + 1) = ((rr j).at ((rr 0).st ++ [.mp []])).put x.dst (.one (.map (rr 0).st.length)):=by
    rw [← m,E];simp only [R.put,R.alloc,R.at,N]
   have h2 : step Cf r' x = some ((r'.at ((rr 0).st ++ [.mp []])).put x.dst (.one (.map (rr 0).st.length))):=by
    rw [E];have hr : r'.st = (rr 0).st:=aR;simp only [step,za8,R.put,R.alloc,R.at,hr]
   rw [fin L,← U] at h2;exact zeB (r:=r') S R0 F c1 c2 c3 h2 (fun g' w' u H R1 _ F1 => k g' w' u H R1 F1) (fun _ h => h)
 | ins n d y =>
   rw [z] at c5 t;simp only [zhf,ya,decide_eq_true_eq,beq_iff_eq] at c5;obtain ⟨⟨hd,hm⟩,aC⟩:=c5;have aJ : D m0 = true:=hE m0 (by simpa using aC);have I : m0 < j:=(by omega);rw [if_pos I] at N;have E:=zvs z;have m:=B j x M
   have O : (rr j).get (.l d) = .one (.map (rr 0).st.length):=by
    show (rr j).rs.getD d vun = _
    rw [aG,yb,zjC (za6 rr) hd,hm];exact aU I
   have aT : r'.get (.l d) = .one (.map (rr 0).st.length):=(by rw [K _ (by rw [E]; simp [zeQ,opX])]; exact O);have aV : r'.get y = (rr j).get y:=K _ (by rw [E]; simp [zeQ,opX]);have hr : r'.st = (rr 0).st ++ [.mp (zbn rr xs p D)]:=(by show zgB rr xs p m0 D = _; unfold zgB; rw [aJ]; rfl);obtain ⟨J,aA⟩:=zvC (rr:=rr) C.keys (n:=n) (v:=(rr j).get y) hj W (by rw [t]; rfl)
   have U : zgB rr xs p m0 (zba D j) = (rr 0).st ++ [.mp (zbn rr xs p (zba D j))]:=by
    unfold zgB;have : zba D j m0 = true:=(by simp [zba,aJ]);rw [this];rfl
   have L : ∃ σ1,rr (j + 1) = ((rr j).at σ1).put x.dst vun:=by
    rw [E] at m;have aD : (rr j).get (.c (.one (.f (.lit (.int .i64 n))))) = .one (.f (.lit (.int .i64 n))):=rfl;simp only [step,za8,O,aD] at m;simp only [amu,N,ye,yl,Ob.entries,ym,Option.some.injEq] at m;rw [← m,E];exact ⟨_,rfl⟩
   obtain ⟨σ1,L⟩:=L
   have h2 : step Cf r' x = some ((r'.at ((rr 0).st ++ [.mp (zbn rr xs p D ++ [(n,(rr j).get y)])])).put x.dst vun):=by
    rw [E];have aD : r'.get (.c (.one (.f (.lit (.int .i64 n))))) = .one (.f (.lit (.int .i64 n))):=rfl;simp only [step,za8,aT,aD,aV];simp only [amu,hr,ye,yl,Ob.entries,ym,zE4,R.setOb,zik J,R.put,R.at];simp
   rw [fin L] at h2;refine zeB (r:=r') S R0 F c1 c2 c3 h2 (fun g' w' u H R1 _ F1 => ?_) (fun _ h => h);have A : ((rr 0).st ++ [Ob.mp (zbn rr xs p D ++ [(n,(rr j).get y)])])[(rr 0).st.length]? = some (.mp (zbn rr xs p D ++ [(n,(rr j).get y)])):=(by simp);obtain ⟨H2,R2⟩:=zBW R1 A aA;have Z : ((rr 0).st ++ [Ob.mp (zbn rr xs p D ++ [(n,(rr j).get y)])]).set (rr 0).st.length (.mp (zbn rr xs p (zba D j))) = zgB rr xs p m0 (zba D j):=(by rw [U]; simp);have aF : Ext g' w' ((rr 0).st ++ [.mp (zbn rr xs p D ++ [(n,(rr j).get y)])]) g' w' (zgB rr xs p m0 (zba D j)):=(by rw [← Z]; exact H2);have aO : Rel g' w' (zgB rr xs p m0 (zba D j)):=(by rw [← Z]; exact R2);exact k g' w' u (H.trans aF) aO (F1.ext aF rfl rfl)
theorem zAE (hm : P.follows .mixedOrders = true) (Cf : zae) (S : zhg P Cf) (κ : List Tmp) (nt id : Nat) (gops : Array Go.Oper) (xs : List Oper) (u : zvq P κ nt gops xs = true) (r r1 : R) (B : r.rs = []) (f : steps Cf xs r = some r1) : zAr P κ nt id gops r r1:=by
 intro g w a Q V F s;obtain ⟨ms,m0,p,C⟩:=zDH u;obtain ⟨rr,x,N,d⟩:=zlZ xs r r1 f;have A : (rr 0).rs = []:=by rw [x]; exact B
 have z : p ≤ xs.length:=C.w.le;refine wp_region_any hm ?_;obtain ⟨G,M⟩:=drawn V 1
 have c : ∀ i,Dof (yg gops.size false) i = false:=fun i => by
  unfold Dof;rw [Array.getD_eq_getD_getElem?,Array.getElem?_replicate];split <;> rfl
 have e : zgB rr xs p m0 (Dof (yg gops.size false)) = r.st:=by
  unfold zgB;rw [c,x];rfl
 have m : ∀ q,(zdU rr xs p (Dof (yg gops.size false))).getD q vun = r.env.getD q vun:=fun q => by
  rw [zgP C.w d];unfold zg4;split <;> simp [c,x]
 have n : ∀ g' w' y loc,Ext g w r.st g' w' (rr gops.size).st → Rel g' w' (rr gops.size).st → Fr κ loc nt g' w' (rr gops.size) y → Q .normal y w':=fun g' w' y loc H E J => by
  rw [← C.len,N] at H E J;exact s g' w' y loc H E J
 refine zu6 (b:=0) (l:=0) (v:=za6 rr) (envD:=zdU rr xs p) (σD:=zgB rr xs p m0) (g0:=g) (w0:=w) (σ0:=r.st) (rr:=rr) S C.plan (zEz S C d A) d (znK d A p z) (fun D => by simp [zdU,x,F.len]) F.nd F.bd (fun D o => ⟨?_,?_⟩) n gops.size (yg gops.size false) g (w.drewN 1) a (by simp) (fun i _ => c i) (fun j I => by rw [c] at I; cases I) ?_ ⟨?_,?_,F.size,F.df,fun i t U => ?_,fun i t _ o => by rw [c] at o; cases o⟩
 ·
  have h:=(zFP C d A p (yd _)).1;rw [if_pos C.m0p] at h;rw [h];unfold zgB;rw [o];simp only [C.m0p,decide_true,if_true]
  congr 3
  exact zdp fun i K => by
   have : i < p:=(by simpa using K);simp [zrL,o,this]
 ·
  obtain ⟨Y,L⟩:=zgr C.w d p (yd _);refine List.ext_getElem? fun q => ?_
  by_cases O : q < (rr 0).env.length
  ·have e1:=zgP (D:=D) (q:=q) C.w d
   have e2:=L q
   have e3 : zg4 rr xs p D q = zg4 rr xs p (fun k => decide (k < p)) q:=by
    congr 1
    funext k
    exact o k
   rw [e3,← e2] at e1;rw [yb,yb] at e1;have W : q < (zdU rr xs p D).length:=(by simpa [zdU] using O);have X : q < (rr p).env.length:=(by omega);rw [yc W,yc X] at e1 ⊢;simpa using e1
  ·rw [yi (by simp [zdU]; omega),yi (by omega)]
 ·
  unfold left;exact Nat.le_trans (List.length_filter_le _ _) (by simp)
 ·rw [e]; exact G
 ·rw [e]; exact M
 ·rw [e,m]
  exact G.zf _ _ (F.env i t U)
end
attribute [go_sem] R.get R.put V.cells C.kns Ob.elem zd.elem zd.cell zEa upd Ob.write R.setOb R.alloc R.write zGx zCy zjm vsl vf zAN vfp zFw V.c1 zGb zAx zF7 zsf zFm aun zkh zEN zFs zFu
 ztr zfF zdR zaf Ob.frz zDD zqj elems Ob.front Ob.setFront Ob.grow Ob.isRow znO ztA zn4 zDN zjz zFd zm9 zn9 zf8 tokens zCI zEl R.allocs aal zEj zvN zDV zx2
 zED zGc afa zEX zue aia zFr cut ald ast nest zEg zFh zFc zqh zBP bound zzQ zyk zEV two zuN zBG zFg zF1 zGq zFt zFb zGp single zGz byteOf bytesOf zGk zGr zF0 zGy zyM zCL zGt zGv zFI zCN zyt Ob.rows zFW zFv zB3 zBE zFq Ob.entries zC6 alk zE4 amu zhj zlV
 C.shift C.shifts V.shift V.shifts Ob.shift zuG V.plain V.plains zvD zv1 zvR closed zoe R.gets anl za8 znC step steps clr zmg St.mkSt St.clear zEk findLabel enter ztl zxX zCV zCw zja outs zCH zmq leave
 zqo zsB zt3 zqm scK zAe vun C.lt C.lts V.lt V.lts C.ltss C.ltm Ob.lt Obs.lt
attribute [go_sem] zeS zra zyf zzB zBV zBo zfa zyb zw9 zih
attribute [go_sem] List.getD_cons_zero List.getD_cons_succ List.set_cons_zero List.set_cons_succ List.nil_append List.cons_append List.append_nil List.append_assoc List.length_cons List.length_nil List.length_append List.length_map
 List.map_cons List.map_nil List.getElem?_cons_zero List.getElem?_cons_succ List.take_succ_cons List.take_zero List.drop_succ_cons List.drop_zero List.any_cons List.any_nil List.replicate_succ List.replicate_zero List.take_nil List.drop_nil
 ym Option.map_none yl Option.bind_none if_true if_false Bool.false_eq_true Bool.or_false Bool.or_true Bool.false_or Bool.true_or Bool.not_true Bool.not_false Bool.true_and Bool.and_true Bool.false_and Bool.and_false Function.comp
 Nat.zero_add Nat.add_zero Nat.reduceAdd Nat.reduceSub Nat.reduceLeDiff Nat.reduceMul decide_true decide_false reduceCtorEq not_true_eq_false not_false_eq_true Nat.reduceEqDiff Nat.reduceLT Int.reduceLT Int.reduceLE Int.reduceToNat yd Option.isSome_none Option.isSome_some
 true_and and_true decide_eq_true_eq Bool.and_self Bool.or_self ite_true ite_false Nat.succ_ne_self
end Go.A
namespace Go.A.Lex
abbrev t : Bool:=true
abbrev f : Bool:=false
@[go_sem] abbrev q (op : Op) : Oper:=⟨.loc,op,none⟩
@[go_sem] abbrev e (op : Op) : Oper:=⟨.no,op,none⟩
@[go_sem] abbrev w (t : Nat) (op : Op) : Oper:=⟨.slot t,op,none⟩
@[go_sem] abbrev i (n : Int) : X:=.c (.one (.f (.lit (.int .i64 n))))
@[go_sem] abbrev ik (k : IntKind) (n : Int) : X:=.c (.one (.f (.lit (.int k n))))
@[go_sem] abbrev bo (b : Bool) : X:=.c (.one (.f (.lit (.bool b))))
attribute [go_sem] t f
end Go.A.Lex
namespace Go.A
section
variable {P : Program} {κ : List Tmp} {nt : Nat}
theorem wpOps_cons {ops : Array Go.Oper} {Q : Exit → Act → World → Prop} {i : Nat} {is : List Nat} {a : Act} {w : World} {o : Go.Oper} (c : ops[i]? = some o) (b : o.guard = none) (h : o.wp P a w (wpOps P ops Q is) Q) : wpOps P ops Q (i :: is) a w:=by
 simp only [wpOps,c];rw [if_pos (by simp [Region.wanted,b])];exact .inl h
end
section
variable {P : Program} {κ : List Tmp} {nt : Nat}
theorem Fr.tmp {g : G} {w : World} {r : R} {a : Act} (F : Fr κ [] nt g w r a) {t : Tmp} (c : κ.contains t = false) (b : t < nt) (u : Value) : Fr κ [] nt g w r (a.put (some t) u):=by
 have h:=F.put (t:=some t) (d:=.loc) (v:=vun) (u:=u) (by simp only [okD,ya,yh,decide_eq_true_eq]; exact ⟨c,b⟩) (fun _ => by simp [vun,zf,zy]);exact ⟨h.size,h.len,h.env,fun d t h => by simp at h,fun d t h => by simp at h,h.nd,h.bd,h.df⟩
theorem zC1 {a : Act} {t : Tmp} {u : Value} (h : t < a.tmps.size) : (a.put (some t) u).tmps.getD t undef = u:=by
 simp only [Act.put,zhn];simp [h]
theorem zCf {a : Act} {d : Option Tmp} {u : Value} : (a.put d u).tmps.size = a.tmps.size:=by
 cases d <;> simp [Act.put]
theorem zr2 {a : Act} {t : Tmp} : a.eval (.tmp t) = a.tmps.getD t undef:=rfl
structure Cp (κ : List Tmp) (nt : Nat) (g0 : G) (w0 : World) (σ0 σ : zd) (env : List V) (b l id id' bm clock : Nat) (zbn : Array MapEntry) (tit r : Nat) (seen : Array Nat) (ds : List (Int × V)) (g : G) (w : World) (a : Act) : Prop where
 ext : Ext g0 w0 σ0 g w (σ.set id' (.mp ds))
 rel : Rel g w (σ.set id' (.mp ds))
 fr : Fr κ [] nt g w ⟨[],env,σ.set id' (.mp ds),b,l⟩ a
 it : a.tmps.getD tit undef = .pointer (some ⟨r,0,none⟩)
 hr : ∃ c0,clock ≤ c0 ∧ w.heap[r]? = some (.mapIter (some bm) clock seen c0)
 hb : w.heap[bm]? = some (.map zbn clock)
 rho : g.ρ id = bm
 ow : g.ow r = .no
 no : ∀ o,¬ g.N r o
 new : w0.heap.size ≤ r
end
section
variable {P : Program} {κ : List Tmp} {nt : Nat}
structure Nums where
 tm : Nat
 tit : Nat
 t21 : Nat
 t22 : Nat
 t23 : Nat
 t24 : Nat
 t25 : Nat
 t7 : Nat
 t6 : Nat
 t26 : Nat
 t27 : Nat
 t28 : Nat
 t29 : Nat
 t5 : Nat
 mt : Nat
 ty : Nat
 fi : Nat
 lt : Nat
 dt : Nat
def Nums.fresh (n : Nums) : List Nat:=[n.tit,n.t21,n.t22,n.t23,n.t24,n.t25,n.t7,n.t6,n.t26,n.t27,n.t28,n.t29]
structure TyOk (P : Program) (n : Nums) (off sz row : Nat) : Prop where
 zs : ∃ zs : List Value,zeroOf P n.ty = some zs ∧ zs.length = row
 rsz : zjo P n.ty = some row
 row0 : 0 < row
 fld : ∃ fs f k,P.underlying n.ty = some (.struct fs) ∧ fs[n.fi]? = some f ∧ zjo P f.type = some k ∧ k ≠ 0 ∧ f.offset = off
 agg : zlD P n.lt = some true
 lsz : zjo P n.lt = some sz
 dt : ∃ key elem,P.underlying n.dt = some (.map key elem) ∧ P.underlying key = some (.int .i64)
theorem zkX {id : Nat} {ops : Array Go.Oper} {Q : Exit → Act → World → Prop} {a : Act} {w : World} (h : wpOps P ops Q (yk 0 ops.toList.length) a w) : (Go.Code.region id ops false).wp P Q a w:=by
 refine wp_region ?_;rw [List.range_eq_range'];simpa using h
theorem zCe {ops : Array Go.Oper} {Q : Exit → Act → World → Prop} {i m : Nat} {a : Act} {w : World} {o : Go.Oper} (c : ops[i]? = some o) (b : o.guard = none) (h : o.wp P a w (wpOps P ops Q (yk (i + 1) m)) Q) : wpOps P ops Q (yk i (m + 1)) a w:=by
 rw [List.range'_succ];exact wpOps_cons c b h
theorem Fr.tr {g g' : G} {w w' : World} {σ σ' : zd} {env : List V} {b l : Nat} {a : Act} (F : Fr κ [] nt g w ⟨[],env,σ,b,l⟩ a) (tr : ∀ v u,zf g w σ v u → zf g' w' σ' v u) : Fr κ [] nt g' w' ⟨[],env,σ',b,l⟩ a :=
 ⟨F.size,F.len,fun i t h => tr _ _ (F.env i t h),fun d t h => by simp at h,fun d t h => by simp at h,F.nd,F.bd,F.df⟩
structure PutS (κ : List Tmp) (nt : Nat) (a a1 : Act) (t : Tmp) (u : Value) : Prop where
 size : a.tmps.size = nt → a1.tmps.size = nt
 val : a.tmps.size = nt → a1.tmps.getD t undef = u
 other : ∀ t',t' ≠ t → a1.tmps.getD t' undef = a.tmps.getD t' undef
 fr : ∀ {g : G} {w : World} {r : R},Fr κ [] nt g w r a → Fr κ [] nt g w r a1
theorem zEh {a : Act} {t : Tmp} (u : Value) (h : κ.contains t = false ∧ t < nt) : PutS κ nt a (a.put (some t) u) t u :=
 ⟨fun b => by rw [zCf,b],fun b => zC1 (by rw [b]; exact h.2),fun d c => zms (fun e => c (by injection e with e; exact e.symm)),fun F => F.tmp h.1 h.2 u⟩
theorem zrS {ops : Array Go.Oper} {Q : Exit → Act → World → Prop} {i m : Nat} {a : Act} {w w' : World} {o : Go.Oper} {t : Tmp} {u : Value} (d : ops[i]? = some o) (c : o.guard = none) (hd : o.dst = some t) (e : κ.contains t = false ∧ t < nt)
  (b : (execOp a.eval o).run P w = .ok (.value u) w') (k : ∀ a1,PutS κ nt a a1 t u → wpOps P ops Q (yk (i + 1) m) a1 w') : wpOps P ops Q (yk i (m + 1)) a w :=
 zCe d c (zmc b (by rw [hd]; exact k _ (zEh u e)))
theorem zt6 {a : Act} {w : World} {o : Go.Oper} {t : Tmp} {u : Value} (b : o.op = .assign (.tmp t) ∨ o.op = .move (.tmp t)) (h : a.tmps.getD t undef = u) : (execOp a.eval o).run P w = .ok (.value u) w:=by
 unfold execOp;rcases b with b | b <;> simp only [b,zr2,h] <;> simp
end
end Go.A
namespace Go.A
open Go.ChangeMaps (setBlock)
section
variable {P : Program} {κ : List Tmp} {nt : Nat}
end
end Go.A
namespace Go.A
section
variable {P : Program} {κ : List Tmp} {nt : Nat}
end
def zsq (P : Program) : Draws:=⟨fun κ nt gops xs => zsp P κ nt gops xs || zvq P κ nt gops xs,zoC P,fun _ _ _ _ => false⟩
theorem zwa {P : Program} (hm : P.follows .mixedOrders = true) : DrawOk P (zsq P) where
 a:=fun Cf S κ nt id gops xs h r r1 h0 hs => by
   simp only [zsq,Bool.or_eq_true] at h;rcases h with h | h
   ·exact zDv hm Cf S κ nt id gops xs h r r1 h0 hs
   ·exact zAE hm Cf S κ nt id gops xs h r r1 h0 hs
 b:=fun Cf S κ nt id gops ps xs h r r1 h0 hs => zDM hm Cf S κ nt id gops ps xs h r r1 h0 hs
 lab:=fun _ _ _ _ h => by cases h
 c:=fun _ _ _ _ h => by cases h
def znu : Option Fun → Option Entry
 | some f => some (.fn f)
 | none => none
def zu0 (rows : List (List (Option Fun))) (n : Nat) : Option Entry:=znu (((rows[n / 16]?).bind (·[n % 16]?)).getD none)
end Go.A
namespace Go.A
open Go.RowKit (Below)
def zvK : List Fz → Option Int
 | [.lit (.int .i64 x)] => some x
 | _ => none
def zgp : List (List Fz) → Option (List Int)
 | [] => some []
 | r :: rs => zfF (zvK r) (zgp rs)
def zcc (l : List Int) : List Int:=l.mergeSort fun x y => decide (x ≤ y)
def zn : List Int → List Int
 | [] => []
 | [x] => [x]
 | x :: y :: r => if x = y then zn (y :: r) else x :: zn (y :: r)
def zl (x : Int) : List C:=[.f (.lit (.int .i64 x))]
def zxN (x : Int) : List Fz:=[.lit (.int .i64 x)]
def zlW (σ : zd) (l : List Int) : Option (V × zd) :=
 if l.length ≤ LIM then some (.one (.own σ.length 0 0 l.length),σ ++ [.cells 0 1 ((zcc l).map zl)]) else none
def zmo (σ : zd) : Option C → Option (V × zd)
 | some (.f (.sl xs)) => (zgp xs).bind (zlW σ)
 | _ => none
def zg0 (fv : Nat) : List V → zd → Option (V × zd)
 | [.one (.fn g [] [.ptr id ver i o])],σ => if g = fv ∧ o = 0 then zmo σ (σ.cell id ver i 0) else none
 | _,_ => none
def zhW (ver n : Nat) : Ob → Option (List Int)
 | .cells ver' sz es => if ver' = ver ∧ sz = 1 ∧ es.length = n ∧ n ≤ LIM then (zaf es).bind zgp else none
 | _ => none
def zp1 (σ : zd) (id ver : Nat) (l : List Int) : V × zd:=(.tup [],σ.set id (.cells ver 1 ((zcc l).map zl)))
def zlE : List V → zd → Option (V × zd)
 | [.one (.f (.sl []))],σ => some (.tup [],σ)
 | [.one (.own id ver 0 n)],σ => ((σ[id]?).bind (zhW ver n)).map (zp1 σ id ver)
 | _,_ => none
def zku (σ : zd) (id ver : Nat) (l : List Int) : V × zd:=(vsl ((zn l).map zxN),σ.set id (.cells (ver + 1) 1 []))
def zfp : List V → zd → Option (V × zd)
 | [.one (.f (.sl []))],σ => some (vsl [],σ)
 | [.one (.own id ver 0 n)],σ => ((σ[id]?).bind (zhW ver n)).map (zku σ id ver)
 | _,_ => none
theorem zyj {g : G} {w w' : World} {σ : zd} (R : Rel g w σ) (h : Below w.heap.size w w') : Ext g w σ g w' σ ∧ Rel g w' σ:=by
 have H : Ext g w σ g w' σ:={
  os:=h.os
  tape:=h.tape
  output:=h.output
  size:=h.size
  keeps:=fun b o a => ⟨a,by
   unfold World.cell?
   rw [h.block b (R.nb b o a)]⟩
  len:=yd _
  shape:=fun id i sz len d => .inl ⟨d,rfl,fun _ arr t e => ⟨arr,by rw [h.block _ (Array.getElem?_eq_some_iff.1 e).1]; exact e,rfl⟩⟩
  map:=fun id es he => ⟨rfl,es,he⟩
  tok:=fun t k n c => ⟨n,c,yd _,fun _ => rfl⟩
  tsz:=fun _ _ d => d
  ow:=fun _ _ => rfl
  new:=fun _ _ c _ _ => c
  frame:=fun b a _ => h.block b a }
 exact ⟨H,fun b o a => Nat.lt_of_lt_of_le (R.nb b o a) h.size,fun id ob f => zcS H rfl (fun _ => rfl) (fun b a _ => ⟨h.block b a,rfl,fun _ c => c⟩) (R.ob id ob f)⟩
end Go.A
namespace Go.A
def zjF : Nat → Option Entry:=fun _ => none
theorem zo0 {P : Program} (n : Nat) : zhg P (zfI zjF (zO zjF n)):=fun _ _ _ _ _ h => by simp [zfI,zjF] at h
structure TwoOk (P : Program) (CD : Draws) (κ : List Tmp) (gf : Func) (fn1 fn2 : Fun) (c0 c1 c2 : Code) (i0 i1 : Nat) (r0 : Array Go.Oper) (o1 o2 : Go.Oper) (ga gb : Go.Code) (t3 t4 ty ty' ty'' : Nat) : Prop where
 body : gf.body = some (.seq (.region i0 r0 false) (.seq (.seq (.region i1 #[o1,o2] false) (.cond (.tmp t4) ga .skip)) gb))
 b1 : fn1.body = .seq c0 c1
 b2 : fn2.body = .seq c0 c2
 k0 : zq P CD κ gf.ntmps (.region i0 r0 false) c0 = true
 k1 : zq P CD κ gf.ntmps ga c1 = true
 k2 : zq P CD κ gf.ntmps gb c2 = true
 e1 : o1.guard = none ∧ o1.dst = some t3 ∧ o1.op = .move (.tmp 0)
 e2 : o2.guard = none ∧ o2.dst = some t4 ∧ o2.op = .binOp .eql ty (.tmp t3) (.const (.slice none 0 0)) ty'
 ne : t3 ≠ t4
 f3 : κ.contains t3 = false ∧ t3 < gf.ntmps
 f4 : κ.contains t4 = false ∧ t4 < gf.ntmps
 arg : κ[0]? = some 0
 ty : P.underlying ty = some (.slice ty'')
 nd : zj2 κ = true
 all : κ.all (fun t => decide (t < gf.ntmps)) = true
 same : fn1.np = fn2.np ∧ fn1.nslots = fn2.nslots ∧ fn1.keep = fn2.keep
 len : κ.length = fn2.nslots
 np : fn2.np ≤ fn2.nslots
 np2 : fn2.np ≤ gf.ntmps
 hd : κ.take fn2.np = yj fn2.np
 q1 : zjs P κ gf.results.toList fn1.results = true
 q2 : zjs P κ gf.results.toList fn2.results = true
section
variable {P : Program} {CD : Draws} {κ : List Tmp}
theorem zzV (hD : DrawOk P CD) {f : Nat} {gf : Func} {fn1 fn2 : Fun} {c0 c1 c2 : Code} {i0 i1 : Nat} {r0 : Array Go.Oper} {W o2 : Go.Oper} {U X : Go.Code} {t3 t4 ty I i : Nat} (R : P.funcs[f]? = some gf) (T : TwoOk P CD κ gf fn1 fn2 c0 c1 c2 i0 i1 r0 W o2 U X t3 t4 ty I i)
  {xs : List (List Fz)} {σ : zd} {v : V} {σ' : zd} {n0 n2 : Nat} {s0 s2 : St} {e2 : Ex} (h0 : zO zjF n0 c0 (enter fn2 [vsl xs] σ) = some (.normal,s0)) (O : s0.env.getD 0 vun = vsl xs) (Y : zO zjF n2 c2 s0 = some (e2,s2)) (l2 : leave fn2.raw fn2.results (e2,s2) = some (v,σ'))
  (h1 : xs = [] → ∃ n1 s1,zO zjF n1 c1 s0 = some (.ret,s1) ∧ leave fn1.raw fn1.results (.ret,s1) = some (v,σ')) (E : fn2.np = 1) {g : G} {w : World} {us : List Value} (R0 : Rel g w σ) (hv : zz g w σ [vsl xs] us) :
  Calls P f us.toArray w fun e w' => ∃ u g',e = .returned u ∧ zf g' w' σ' v u ∧ Rel g' w' σ' ∧ Ext g w σ g' w' σ':=by
 have hA:=zlG (gf:=gf) (fn:=fn2) R0 hv T.nd T.all T.len T.np T.np2 T.hd (by rw [E]; rfl);have a:=fun n => zol (P:=P) (CD:=CD) (T:=zjF) (g0:=g.clean σ.length) (w0:=w) (σ0:=σ) (κ:=κ) (nt:=gf.ntmps) hD (zfW g σ.length) n fun m _ => zo0 m;have q:=zdr zjF n0 _ _ _ _ h0
 have k : ∀ (fn : Fun) (e : Ex) (s : St),zjs P κ gf.results.toList fn.results = true → leave fn.raw fn.results (e,s) = some (v,σ') → s.lim = (enter fn2 [vsl xs] σ).lim → ∀ x z w',zCT (g.clean σ.length) w σ κ gf.ntmps e s x z w' →
   bodyPost P gf (fun e w' => ∃ u g',e = .returned u ∧ zf g' w' σ' v u ∧ Rel g' w' σ' ∧ Ext g w σ g' w' σ') x z w' ∧ x = zk4 e:=fun fn e s D d r x z w' l => by
  obtain ⟨rfl,g',A'⟩:=l;obtain ⟨q1,q2,u,q3,M,q4,q5,S⟩:=zlw (fn:=fn) (gf:=gf) (zfW g σ.length) (by rw [r]; exact Nat.le_add_right _ _) D d A'
  have j : z.defers = [] ∧ ∃ v1,(results gf z.tmps).run P w' = .ok v1 w' ∧ ∃ u g',(Ending.returned v1) = .returned u ∧ zf g' w' σ' v u ∧ Rel g' w' σ' ∧ Ext g w σ g' w' σ' :=
   ⟨q2,u,q3,u,G.under g w M,rfl,zgW (g:=M) (g':=G.under g w M) rfl rfl rfl _ _ q4,zo8 S q5,zpN S⟩
  rcases q1 with rfl | rfl
  ·exact ⟨j,rfl⟩
  ·exact ⟨j,rfl⟩
 refine calls_of_wp R T.body (wp_seq (wp_mono ((a n0).1 _ c0 _ .normal s0 T.k0 h0 _ _ _ (yd _) hA) fun x a1 A l => ?_));obtain ⟨rfl,g1,t⟩:=l
 show Exit.then _ _ .normal a1 A
 simp only [Exit.then];have p:=t.fr.size;have hu:=t.fr.env 0 0 T.arg;simp only [O] at hu;simp only [vsl,zf,zy,rep] at hu;obtain ⟨ad,c,sz,hu,_,_,B⟩:=hu;refine wp_seq (wp_seq (zkX ?_));refine zrS (o:=W) rfl T.e1.1 T.e1.2.1 T.f3 (zt6 (.inr T.e1.2.2) hu) fun a2 C => ?_;refine zrS (o:=o2) (u:=.bool ad.isNone) (w':=A) rfl T.e2.1 T.e2.2.1 T.f4 ?_ fun a3 K => ?_
 ·unfold execOp
  simp only [T.e2.2.2,zr2,C.val p,Act.eval];simp [eqGuard,Lib.run_eql_slice_nil A ty i ad xs.length c 0 0 T.ty]
 show Exit.then _ _ .normal a3 A
 simp only [Exit.then];have Z : At' (g.clean σ.length) w σ κ gf.ntmps g1 A s0 a3:=⟨t.ext,t.rel,K.fr (C.fr t.fr)⟩;have hle : σ.length ≤ s0.base:=by rw [q.1]; exact yd _
 cases ad with
 | none =>
   have N : xs = []:=by
    rcases B with h | ⟨b,o,h,_⟩
    ·exact h
    ·cases h
   obtain ⟨n1,s1,y,L⟩:=h1 N;have H:=zdr zjF n1 _ _ _ _ y;refine wp_cond_true (K.val (C.size p)) (wp_mono ((a n1).1 U c1 s0 .ret s1 T.k1 y _ _ _ hle Z) fun x a4 J l => ?_);obtain ⟨k1,k2⟩:=k fn1 .ret s1 T.q1 L (by rw [H.2,q.2]) x a4 J l;subst k2;simp only [zk4,Exit.then];exact k1
 | some ad =>
   have Q:=zdr zjF n2 _ _ _ _ Y;refine wp_cond_false (K.val (C.size p)) (wp_skip ?_);simp only [Exit.then];exact wp_mono ((a n2).1 X c2 s0 e2 s2 T.k2 Y _ _ _ hle Z) fun x a4 J l => (k fn2 e2 s2 T.q2 l2 (by rw [Q.2,q.2]) x a4 J l).1
def zpn (t3 t4 : Nat) (o1 o2 : Go.Oper) : Bool:=o1.guard.isNone && o1.dst == some t3 && o2.guard.isNone && o2.dst == some t4 &&
 (match o1.op with
  | .move (.tmp 0) => true
  | _ => false) && (match o2.op with
  | .binOp .eql _ (.tmp t) (.const (.slice none 0 0)) _ => t == t3
  | _ => false)
def zAP (o : Go.Oper) : Nat × Nat:=match o.op with
 | .binOp _ t _ _ t' => (t,t')
 | _ => (0,0)
theorem zld {t3 t4 : Nat} {c a : Go.Oper} (h : zpn t3 t4 c a = true) : (c.guard = none ∧ c.dst = some t3 ∧ c.op = .move (.tmp 0)) ∧ (a.guard = none ∧ a.dst = some t4 ∧ a.op = .binOp .eql (zAP a).1 (.tmp t3) (.const (.slice none 0 0)) (zAP a).2):=by
 unfold zpn at h;simp only [ya,Option.isNone_iff_eq_none,beq_iff_eq] at h;obtain ⟨⟨⟨⟨⟨e,i⟩,f⟩,g⟩,d⟩,b⟩:=h;refine ⟨⟨e,i,?_⟩,f,g,?_⟩
 ·split at d
  ·assumption
  ·cases d
 ·unfold zAP
  split at b
  ·rename_i heq
   rw [heq];simp only [beq_iff_eq] at b;rw [b]
  ·cases b
def zpk (P : Program) (t : Nat) : Bool:=match P.underlying t with
 | some (.slice _) => true
 | _ => false
def znL (P : Program) (CD : Draws) (κ : List Tmp) (gf : Func) (fn1 fn2 : Fun) : Bool:=match gf.body,fn1.body,fn2.body with
 | some (.seq (.region i0 r0 false) (.seq (.seq (.region _ ⟨[o1,o2]⟩ false) (.cond (.tmp t4) ga .skip)) gb)),.seq c0 c1,.seq c0' c2 =>
   zq P CD κ gf.ntmps (.region i0 r0 false) c0 && zq P CD κ gf.ntmps (.region i0 r0 false) c0' && zq P CD κ gf.ntmps ga c1 && zq P CD κ gf.ntmps gb c2 && (match o1.dst with
    | some t3 => zpn t3 t4 o1 o2 && t3 != t4 && !κ.contains t3 && decide (t3 < gf.ntmps)
    | none => false) && !κ.contains t4 && decide (t4 < gf.ntmps) && κ[0]? == some 0 && zpk P (zAP o2).1 && zj2 κ && κ.all (fun t => decide (t < gf.ntmps)) && κ.length == fn2.nslots && decide (fn2.np ≤ fn2.nslots) && decide (fn2.np ≤ gf.ntmps) && (κ.take fn2.np == yj fn2.np) && zjs P κ gf.results.toList fn1.results && zjs P κ gf.results.toList fn2.results
 | _,_,_ => false
def znj : Code:=.reg [⟨.slot 1,.mv (.c (.one (.f (.sl [])))),none⟩]
def zpw : Code:=.seq (.reg [⟨.slot 1,.mv (.c (.one (.f (.sl [])))),none⟩]) (.ret [false,true])
def zpr (sz : Nat) : Code:=.seq (.reg [⟨.loc,.bsl .tk sz [] [],none⟩,⟨.loc,.mv (.s 0),none⟩,⟨.loc,.app sz (.l 1) (.l 0),none⟩,⟨.slot 1,.mv (.l 0),none⟩]) (.ret [false,true])
def zgC : Fun:=⟨1,2,0,false,[(1,none)],.seq znj zpw⟩
def zfw (sz : Nat) : Fun:=⟨1,2,0,false,[(1,none)],.seq znj (zpr sz)⟩
def zoA (sz : Nat) : List V → zd → Option (V × zd)
 | [.one (.f (.sl xs))],[] => if zn4 sz xs = true ∧ xs.length ≤ LIM then some (.one (.f (.sl xs)),[]) else none
 | _,_ => none
theorem zzo (hD : DrawOk P CD) {f : Nat} {gf : Func} {sz : Nat} (hgf : P.funcs[f]? = some gf) (hname : (gf.name == "runtime.NumGoroutine") = false) (hc : znL P CD [0, 2] gf zgC (zfw sz) = true) (args : List V) (σ : zd) (v : V) (σ' : zd) (h : zoA sz args σ = some (v, σ')) :
  Enters P f ∧ ∀ g w us,Rel g w σ → zz g w σ args us → Calls P f us.toArray w fun e w' => ∃ u g',e = .returned u ∧ zf g' w' σ' v u ∧ Rel g' w' σ' ∧ Ext g w σ g' w' σ':=by
 unfold zoA at h
 split at h
 ·rename_i xs
  split at h
  ·rename_i hok
   injection h with h
   simp only [Prod.mk.injEq] at h
   obtain ⟨rfl,rfl⟩:=h
   unfold znL at hc
   split at hc
   ·rename_i i0 r0 i1 o1 o2 t4 ga gb c0 c1 c0' c2 hb hb1 hb2
    simp only [ya,beq_iff_eq,bne_iff_ne,ne_eq,yh,decide_eq_true_eq] at hc
    obtain ⟨⟨⟨⟨⟨⟨⟨⟨⟨⟨⟨⟨⟨⟨⟨⟨h1,h1'⟩,h2⟩,h3⟩,h4⟩,h5⟩,h6⟩,h7⟩,h8⟩,h9⟩,h10⟩,h11⟩,h12⟩,h13⟩,h14⟩,h15⟩,h16⟩:=hc
    split at h4
    ·rename_i t3 ht3
     simp only [ya,bne_iff_ne,ne_eq,yh,decide_eq_true_eq] at h4
     obtain ⟨⟨⟨h4,hne⟩,hk3⟩,hl3⟩:=h4
     obtain ⟨k1,k2⟩:=zld h4
     injection hb1 with e1 e2
     injection hb2 with e3 e4
     subst e1 e2 e3 e4
     refine ⟨⟨gf,_,hgf,hname,hb⟩,fun g w us R0 hv => ?_⟩
     obtain ⟨te,hte⟩ : ∃ te,P.underlying (zAP o2).1 = some (.slice te):=by
      unfold zpk at h8
      split at h8
      ·rename_i te hte; exact ⟨te,hte⟩
      ·cases h8
     have T : TwoOk P CD [0,2] gf zgC (zfw sz) znj zpw (zpr sz) i0 i1 r0 o1 o2 ga gb t3 t4 (zAP o2).1 (zAP o2).2 te :=
      ⟨hb,rfl,rfl,h1,h2,h3,k1,k2,hne,⟨hk3,hl3⟩,⟨h5,h6⟩,h7,hte,h9,h10,⟨rfl,rfl,rfl⟩,h11,h12,h13,h14,h15,h16⟩
     refine zzV (n0:=1) (n2:=2) (e2:=.ret) (s0:=⟨[vsl xs,vsl []],[],0,0⟩) (s2:=⟨[vun,.one (.ap 0 0 xs)],[.tok sz [xs.length]],0,0⟩) hD hgf T ?_ rfl ?_ ?_ (fun hxs => ⟨2,⟨[vun,vsl []],[],0,0⟩,?_,?_⟩) rfl R0 hv
     ·simp [zO,znj,steps,step,za8,R.get,R.put,zAe,enter,zfw,vsl,vun]
     ·simp [zO,zpr,steps,step,za8,R.get,R.put,zAe,vsl,vun,zn9,zvN,zaf,zx2,R.alloc,elems,hok.1,zDN,znO,Ob.front,Ob.setFront,R.setOb,hok.2,zqo,clr,St.mkSt]
     ·simp [leave,zfw,outs,ztl,zxX,zCV,zfF,vsl,zmq,zmg,V.lts,V.lt,C.lt,Obs.lt,zCH,vun]
     ·simp [zO,zpw,steps,step,za8,R.get,R.put,zAe,vsl,vun,zqo,clr,St.mkSt]
     ·subst hxs
      simp [leave,zgC,outs,ztl,zxX,zCV,zfF,vsl,zmq,zmg,V.lts,V.lt,C.lt,Obs.lt,zCH,vun]
    ·cases h4
   ·cases hc
  ·cases h
 ·cases h
end
end Go.A
