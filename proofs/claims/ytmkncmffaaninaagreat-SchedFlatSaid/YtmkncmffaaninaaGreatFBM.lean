/- A part of the proof of SchedFlat. Conditions: none. -/
import Derived.Test.YtmkncmffaaninaaGreatFAQ
import Derived.Test.YtmkncmffaaninaaGreatFBL
import Derived.KernelRfl
import Derived.Test.YtmkncmffaaninaaGreatFBK
import Derived.Shelf.RegionOpenPlain
import Derived.WalkKit
import Derived.Deep.LoopGhost
import Derived.Lib.Walk
import Derived.Lib.SliceRun
import Derived.Test.YtmkncmffaaninaaGreatFAL
import GoSem.ClaimChange
import Derived.DataReads
import Derived.ProofKit
import Derived.Test.YtmkncmffaaninaaGreatRows
set_option linter.all false
open List renaming length_map → ya,getElem?_append_left → yb,pairwise_cons → yc,getElem_mem → ye,getElem?_append → yh,mem_cons → ym
open Int renaming toNat_natCast → yd,natCast_zero → yi,lt_irrefl → yl
open Nat renaming le_refl → yf
open Bool renaming or_eq_false_iff → yg,and_eq_true → yj,or_eq_true → yk
namespace AC
open Go Go.A
def zDc (x : Int) : List Int → List Int
 | [] => [x]
 | y :: r => if x ≤ y then x :: y :: r else y :: zDc x r
def zCP : List Int → List Int
 | [] => []
 | x :: r => zDc x (zCP r)
theorem zpX (x : Int) : ∀ l,(zDc x l).Perm (x :: l)
 | [] => .refl _
 | y :: r => by
   rw [zDc];split
   ·exact .refl _
   ·exact ((zpX x r).cons y).trans (.swap x y r)
theorem ztt : ∀ l,(zCP l).Perm l
 | [] => .refl _
 | x :: r => (zpX x (zCP r)).trans ((ztt r).cons x)
theorem zpR (x : Int) : ∀ l,l.Pairwise (fun a b => a ≤ b) → (zDc x l).Pairwise (fun a b => a ≤ b)
 | [],_ => by simp [zDc]
 | y :: r,h => by
   rw [yc] at h;rw [zDc];split
   ·rename_i c
    rw [yc];refine ⟨fun z d => ?_,yc.2 h⟩;rcases ym.1 d with rfl | d
    ·exact c
    ·exact Int.le_trans c (h.1 z d)
   ·rename_i c
    rw [yc];refine ⟨fun z d => ?_,zpR x r h.2⟩;rcases ym.1 ((zpX x r).subset d) with rfl | d
    ·omega
    ·exact h.1 z d
theorem zpW : ∀ l,(zCP l).Pairwise (fun a b => a ≤ b)
 | [] => by simp [zCP]
 | x :: r => zpR x _ (zpW r)
theorem zud (l : List Int) : zcc l = zCP l:=by
 have d : (zcc l).Pairwise (fun a b => decide (a ≤ b) = true):=List.pairwise_mergeSort (fun a b c d e => by simp only [decide_eq_true_eq] at *; omega) (fun a b => by simp only [yk,decide_eq_true_eq]; omega) l;refine List.Perm.eq_of_pairwise (le:=fun a b => a ≤ b) (fun a b _ _ d e => by omega) (d.imp fun h => by simpa using h) (zpW l) ?_;exact (List.mergeSort_perm l _).trans (ztt l).symm
def zpM (σ : zd) (l : List Int) : Option (V × zd) :=
 if l.length ≤ LIM then some (.one (.own σ.length 0 0 l.length),σ ++ [.cells 0 1 ((zCP l).map zl)]) else none
def zo6 (σ : zd) : Option C → Option (V × zd)
 | some (.f (.sl xs)) => (zgp xs).bind (zpM σ)
 | _ => none
def zm7 (fv : Nat) : List V → zd → Option (V × zd)
 | [.one (.fn g [] [.ptr id ver i o])],σ => if g = fv ∧ o = 0 then zo6 σ (σ.cell id ver i 0) else none
 | _,_ => none
def zsF (σ : zd) (id ver : Nat) (l : List Int) : V × zd:=(.tup [],σ.set id (.cells ver 1 ((zCP l).map zl)))
def zsd : List V → zd → Option (V × zd)
 | [.one (.f (.sl []))],σ => some (.tup [],σ)
 | [.one (.own id ver 0 n)],σ => ((σ[id]?).bind (zhW ver n)).map (zsF σ id ver)
 | _,_ => none
theorem zvg : zlW = zpM:=by funext σ l; simp only [zlW,zpM,zud]
theorem zuq : zmo = zo6:=by
 funext σ c
 unfold zmo zo6;rw [zvg];rfl
theorem zte (b : Nat) : zg0 b = zm7 b:=by
 funext a σ
 unfold zg0 zm7;rw [zuq];rfl
theorem zwu : zp1 = zsF:=by funext σ id ver l; simp only [zp1,zsF,zud]
theorem zwQ : zlE = zsd:=by
 funext a σ
 unfold zlE zsd;rw [zwu];rfl
def T' (n : Nat) : Option Entry:=if n = 62 then some (.ext (zh6 5)) else if n = 118 then some (.ext zfp) else if n = 181 then some (.ext (zh9 1)) else if n = 117 then some (.ext zsd) else if n = 145 then some (.ext (zm7 177)) else zu0 tab n
theorem zGA : T = T':=by
 funext n
 unfold T T';rw [zwQ,zte]
set_option maxRecDepth 100000 in
theorem zux : zfI T' (zO T' 20000) 15 [] [] = some (zjm true,[]):=by kernel_rfl
theorem zDf : call T 15 [] [] = some (zjm true,[]):=by
 refine zko T 20000 _ _ _ _ ?_;rw [zGA];exact zux
end AC
namespace AC
open Go Go.A Go.A.Lex
theorem zsP (k : Int) : call T 31 [vI k] [] = some (vB (pure k),[]):=by
 rw [ze (fn:=zah) rfl]
 have e : pure k = (decide (0 ≤ k) && (decide (k ≤ 22) && (!decide (k = 4) && (decide (k < 16) || decide (20 < k))))):=by
  unfold pure impure;rw [Bool.eq_iff_iff];simp only [yj,Bool.not_eq_true',yg,yk,decide_eq_true_eq,decide_eq_false_iff_not];omega
 rw [e]
 by_cases c1 : 0 ≤ k
 case neg => simp -implicitDefEqProofs only [go_sem,zah,ge_iff_le,c1]
 by_cases c2 : k ≤ 22
 case neg => simp -implicitDefEqProofs only [go_sem,zah,ge_iff_le,c1,c2]
 by_cases c3 : k = 4
 case pos => simp -implicitDefEqProofs only [go_sem,zah,ge_iff_le,c3]
 by_cases c4 : k < 16
 case pos => simp -implicitDefEqProofs only [go_sem,zah,ge_iff_le,c1,c2,c3,c4]
 simp -implicitDefEqProofs only [go_sem,zah,ge_iff_le,gt_iff_lt,c1,c2,c3,c4]
section
variable (f : PFunc) (ask : List C) (b : PBlock) (hbl : b.ops.length ≤ 1000)
abbrev zvG (f : PFunc) (ask : List C) (n : Nat) : zd:=[.cells 0 3 [zc4 f],.cells 0 3 [ask],.tok 1 [n]]
include hbl
theorem zGa : ∀ (d i : Nat) (a0 a1 a4 a8 a9 h l m c a j g n o k a20 p a22 : V),b.ops.length - i = d → i ≤ b.ops.length →
  exec T zaB ⟨[a0,a1,.one (.ptr 0 0 0 0),.one (.ptr 1 0 0 0),a4,vL (b.ops.map ro),.one (.ap 2 0 ((ints i).map ri)),vI i,a8,a9,h,l,m,c,a,j,g,n,o,k,a20,p,a22],zvG f ask i,0,0⟩ =
   some (.exit 0,⟨[vU,vU,.one (.ptr 0 0 0 0),.one (.ptr 1 0 0 0),vU,vL (b.ops.map ro),.one (.ap 2 0 ((ints b.ops.length).map ri)),vU,vU,vU,vU,vU,vU,vU,vU,vU,vU,vU,vU,vU,vU,vU,vU],zvG f ask b.ops.length,0,0⟩):=by
 intro d
 induction d with
 | zero =>
   intro i a0 a1 a4 a8 a9 h l m c a j g n o k a20 p a22 t s;have r : i = b.ops.length:=(by omega);subst r;rw [xl zaB rfl,zbQ];simp -implicitDefEqProofs only [go_sem,zvG,yl,ya]
 | succ d ih =>
   intro i a0 a1 a4 a8 a9 h l m c a j g n o k a20 p a22 t s;have r : i < b.ops.length:=(by omega);have q : i + 1 ≤ LIM:=(by unfold LIM; omega);have:=ih (i + 1) vU vU vU vU vU vU vU vU vU vU vU vU vU vU vU vU vU vU (by omega) (by omega);have e : (ints (i + 1)).map ri = (ints i).map ri ++ [[.lit (.int .i64 i)]]:=(by rw [ztg,List.map_append]; rfl);rw [e] at this;rw [xl zaB rfl,zbQ];simp -implicitDefEqProofs only [go_sem,zvG] at this;simp -implicitDefEqProofs only [go_sem,zvG,ilt r,ya,zok,q,za r (show b.ops.length ≤ 4294967296 by omega),this]
end
section
variable (f : PFunc) (k a : Int) (b : PBlock) (order : List Int) (n : Nat) (hol : order.length ≤ 1000) (hr : ∀ x ∈ order,0 ≤ x ∧ x < (b.ops.length : Int)) (v6 : V)
include hol hr
theorem zFB (x : ∀ i j (c : i < order.length) (v : j < order.length),i < j → pure (b.ops.getD order[i].toNat op0).kind = false → pure (b.ops.getD order[j].toNat op0).kind = false → order[i] ≤ order[j]) :
  ∀ (d i : Nat) (last : Int) (a0 a1 a4 a7 a8 p q g e m h s r o a20 t a22 : V),order.length - i = d → i ≤ order.length → (∀ j (v : j < order.length),i ≤ j → pure (b.ops.getD order[j].toNat op0).kind = false → last ≤ order[j]) →
  exec T zaD ⟨[a0,a1,.one (.ptr 0 0 0 0),.one (.ptr 1 0 0 0),a4,vL (b.ops.map ro),v6,a7,a8,vI last,vI i,p,q,g,e,m,h,s,r,o,a20,t,a22],zvG f [.f (ei k),.f (ei a),.f (eI order)] n,0,0⟩ =
   some (.exit 2,⟨[vU,vU,.one (.ptr 0 0 0 0),.one (.ptr 1 0 0 0),vU,vL (b.ops.map ro),v6,vU,vU,vU,vU,vU,vU,vU,vU,vU,vU,vU,vU,vU,vU,vU,vU],zvG f [.f (ei k),.f (ei a),.f (eI order)] n,0,0⟩):=by
 intro d
 induction d with
 | zero =>
   intro i last a0 a1 a4 a7 a8 p q g e m h s r o a20 t a22 B A z;have c : i = order.length:=(by omega);subst c;rw [xl zaD rfl,zbR];simp -implicitDefEqProofs only [go_sem,zvG,yl,ya]
 | succ d ih =>
   intro i last a0 a1 a4 a7 a8 p q g e m h s r o a20 t a22 B A z;have c : i < order.length:=(by omega);obtain ⟨r1,D⟩:=hr _ (ye c)
   have l : (b.ops.map ro)[order[i].toNat]? = some (ro (b.ops.getD order[i].toNat op0)):=by
    have : order[i].toNat < b.ops.length:=(by omega);simp [this]
   have c1 : ¬ order[i] < 0:=(by omega);have c2 : ¬ order[i] ≥ (b.ops.length : Int):=(by omega);have u:=zsP (b.ops.getD order[i].toNat op0).kind;have w:=za c (show order.length ≤ 4294967296 by omega);rw [xl zaD rfl,zbR];simp -implicitDefEqProofs only [go_sem,ro] at u l
   cases c3 : pure (b.ops.getD order[i].toNat op0).kind with
   | true =>
     have:=ih (i + 1) last vU vU vU vU vU vU vU vU vU vU vU vU vU vU vU vU vU (by omega) (by omega) (fun j v y => z j v (by omega));rw [c3] at u;simp -implicitDefEqProofs only [go_sem,zvG] at this;simp -implicitDefEqProofs only [go_sem,zvG,ilt c,zm c,ri,ya,c1,c2,r1,l,u,w,this]
   | false =>
     have:=ih (i + 1) order[i] vU vU vU vU vU vU vU vU vU vU vU vU vU vU vU vU vU (by omega) (by omega) (fun j v y C => x i j c v (by omega) c3 C);have c4 : ¬ order[i] < last:=(by have:=z i c (yf _) c3; omega);rw [c3] at u;simp -implicitDefEqProofs only [go_sem,zvG] at this;simp -implicitDefEqProofs only [go_sem,zvG,ilt c,zm c,ri,ya,c1,c2,c4,r1,l,u,w,this]
end
theorem zBS (f : PFunc) (hf : anyF f) (k a : Int) (order : List Int) (ho : order.length ≤ LB) : call T 4 [zfZ f,.agg [.f (ei k),.f (ei a),.f (eI order)]] [] = some (vB true,[]):=by
 rw [ze (fn:=zo) rfl];have d:=zDf;obtain ⟨sb,e,aA⟩:=zrW f hf;simp -implicitDefEqProofs only [go_sem] at d e
 cases sb with
 | false => simp -implicitDefEqProofs only [go_sem,zo,d,e]
 | true =>
   have m:=zBL hf (aA rfl)
   by_cases c6 : (order.length : Int) > 600
   ·simp -implicitDefEqProofs only [go_sem,zo,d,e,ya,c6]
   have l:=zr8 f m 2;simp -implicitDefEqProofs only [go_sem] at l
   by_cases c7 : zac f 2 = 0
   case neg => simp -implicitDefEqProofs only [go_sem,zo,d,e,ya,c6,l,c7]
   by_cases c8 : k < 0
   ·simp -implicitDefEqProofs only [go_sem,zo,d,e,ya,c6,l,c7,c8]
   by_cases c9 : k ≥ (f.blocks.length : Int)
   ·simp -implicitDefEqProofs only [go_sem,zo,d,e,ya,c6,l,c7,c8,c9]
   obtain ⟨n,rfl⟩:=Int.eq_ofNat_of_zero_le (show 0 ≤ k by omega);have hn : n < f.blocks.length:=(by omega);have S:=zn3.1 c7;obtain ⟨b,C⟩ : ∃ b,f.blocks[n]? = some b:=⟨_,List.getElem?_eq_getElem hn⟩;have G:=List.mem_of_getElem? C;have aB:=(S.size G).1;have g:=S.oneDef G;have B : zgt f n = true:=zi7.2 ⟨by omega,by omega,S⟩
   have J : ∀ o,LegalP b.ops o → zjB f n o = true:=fun o h => by
    unfold zjB;rw [B,yd,C];exact (zst g).2 h
   have t : (f.blocks.map rb)[n]? = some (rb b):=(by simp [C]);have I:=fun a0 a1 a4 a8 a9 W w x r q u s z y v a20 A a22 => zGa f [.f (ei n),.f (ei a),.f (eI order)] b aB b.ops.length 0 a0 a1 a4 a8 a9 W w x r q u s z y v a20 A a22 (by omega) (by omega);have V : (ints 0).map ri = []:=rfl;rw [V] at I;have p:=zoH f m n;have Y : zuF f n = zls b:=(by unfold zuF; rw [if_pos B,yd,C]);rw [Y] at p;have N:=zox g;have P:=ze5 f m n (ints b.ops.length) (by rw [zok]; omega);have Q:=ze5 f m n (zls b) (by rw [N.2]; omega);have H:=ze5 f m n order (by omega);rw [J _ (zxl _)] at P;rw [J _ (zw7 g)] at Q;have K : ((zls b).length : Int) = b.ops.length:=(by rw [N.2]);have M : ¬ (order.length : Int) > 600:=c6;simp only [yi] at I;simp -implicitDefEqProofs only [go_sem,zvG,rb] at I p P Q H t
   cases c : zjB f n order with
   | false =>
     rw [c] at H;simp -implicitDefEqProofs only [go_sem,zo,d,e,ya,M,l,c7,c8,c9,t,I,p,P,Q,H,K]
   | true =>
     rw [c] at H;have X:=c;unfold zjB at X;rw [B,yd,C] at X;have D:=(zst g).1 X;have R:=zqt f m n order (by omega);unfold zFC zFR at R;rw [if_pos c,if_pos c,yd,zz2 C] at R
     have h1:=fun a0 a1 a4 a7 a8 w x r q u s z y v a20 A a22 => zFB f n a b order b.ops.length (by omega) D.range (.one (.ap 2 0 ((ints b.ops.length).map ri))) (fun i j hi O U p1 p2 => by
      have h:=D.ahead i j hi O U;have ri:=D.range _ (ye hi);have rj:=D.range _ (ye O);unfold onB at h;rw [p1,p2] at h;simp only [Bool.and_eq_false_iff,decide_eq_false_iff_not,yg,Bool.not_false,Bool.and_self,Bool.true_eq_false,and_false,or_false] at h
      omega) order.length 0 (-1) a0 a1 a4 a7 a8 w x r q u s z y v a20 A a22 (by omega) (by omega) (fun j O _ _ => by have:=(D.range _ (ye O)).1; omega)
     have L:=zhr (ints b.ops.length) (ints b.ops.length) (by rw [zok]; omega);have E : ((f.blocks.set n (zqp b order)).map rb)[n]? = some (rb (zqp b order)):=(by simp [hn]);have Z : (zoc b.ops order).length = b.ops.length:=(by rw [zyi,D.len]);simp only [yi] at h1;simp -implicitDefEqProofs only [go_sem,zvG,rb,zqp] at h1 R L E;simp -implicitDefEqProofs only [go_sem,zo,d,e,ya,M,l,c7,c8,c9,t,I,p,P,Q,H,K,h1,R,zqp,List.length_set,E,Z,L]
end AC
namespace Go.Proofs
open Go.Shelf Go.RowKit Go.Lib
theorem Tryz.mixed0 : Tryz.prog.follows .mixedOrders = true:=by kernel_rfl
theorem Tryz.infoB : (Tryz.prog.info? 44).map (fun i => (i.zero,i.size,i.bytes)) = some (some (.agg #[.slice none 0 0,.slice none 0 0,.int .i64 0,.int .i64 0,.slice none 0 0]),5,88):=by kernel_rfl
set_option maxHeartbeats 2000000 in
set_option maxRecDepth 100000 in
theorem Tryz.clone_block (b off n c : Nat) (f : List Value) (w : World) (v : f.length = n * 5) (q : n ≤ maxLen) (s : n * 88 ≤ 140737488355328) (r : ∀ j u,f[j]? = some u → w.cell? ⟨b,off + j,none⟩ = some u) (B : ∀ u ∈ f,u.oneCell' = true) :
  Calls Tryz.prog 62 #[.slice (some ⟨b,off,none⟩) n c] w fun e w' => ∃ v',e = .returned v' ∧ w'.ownsRow w.heap.size 44 5 v' n f ∧ v' ≠ .slice none 0 0 ∧ Below w.heap.size w w':=by
 have mixed:=Tryz.mixed0;obtain ⟨i0,y,p,i,l⟩:=info_parts Tryz.infoB;have t23:=Tryz.underlying23;have t : ∀ (w : World) (a : Option Addr) (n c o m : Nat),(binOp .eql 23 (.slice a n c) (.slice none o m)).run Tryz.prog w = .ok (.bool a.isNone) w:=fun w a n c o m => Lib.run_eql_slice_nil w _ _ a n c o m t23;have C : ∀ w,Sem.run Tryz.prog (underlying 23) w = .ok (TypeDesc.slice 44) w:=run_underlying t23;have A : Aside (∀ j u,f[j]? = some u → w.cell? ⟨b,off + j,none⟩ = some u):=r;clear r
 go_enter Tryz.func62,Tryz.ntmps62
 go_wp2_with (at_builtin; refine wpList_append_own _ rfl _ _ 23 rfl w.heap.size 44 i0 (.agg #[.slice none 0 0,.slice none 0 0,.int .i64 0,.int .i64 0,.slice none 0 0]) 5 88 t23 y p i l rfl (by decide) _ _ _ rfl (World.ownsRow_made w #[] 0 (yf _) (Nat.zero_le _) rfl) ⟨b,off,none⟩ n c f rfl ?qc1 ?qc2 ?qc3 ?qc4 ?qc5 ?qc6 ?_)
 case qc1 => exact v
 case qc2 =>
  intro j u z;rw [Addr.add_lit];refine Lib.cell?_alloc_some _ ?_;exact A.out j u z
 case qc3 => exact B
 case qc4 => omega
 case qc5 => omega
 case qc6 => simp
 intro v' D g d h
 go_wp2
 go_ret
 refine ⟨v',rfl,by simpa using g,?_,?_⟩
 ·exact h
 ·exact ((Below.refl _ w).alloc (yf _) _).grown d (by simp) (by intro k x; simp [Value.ownBlock] at x; omega)
end Go.Proofs
namespace Go.A
open Go.RowKit (Below)
section
variable {g : G} {w w' : World} {σ : zd}
theorem zCi (R : Rel g w σ) (f : Below w.heap.size w w') {a : Nat} {cur : Array Value} {t : TypeId} (p : w'.heap[a]? = some (.cells cur t (0,0))) (q : w.heap.size ≤ a) {e : Nat} {d : List (List C)} (v : d.length * e ≤ cur.size) (y : zca g w σ cur e d) :
  Ext g w σ (g.own σ.length a) w' (σ ++ [.cells 0 e d]) ∧ Rel (g.own σ.length a) w' (σ ++ [.cells 0 e d]):=by
 have r : ∀ id,id < σ.length → (g.own σ.length a).ρ id = g.ρ id:=fun id h => zaH g.ρ (k:=σ.length) (i:=id) _ (by omega);have hw : ∀ b,b < w.heap.size → (g.own σ.length a).ow b = g.ow b:=fun b h => zaH g.ow (k:=a) (i:=b) _ (by omega)
 have H : Ext g w σ (g.own σ.length a) w' (σ ++ [.cells 0 e d]):={
  os:=f.os
  tape:=f.tape
  output:=f.output
  size:=f.size
  keeps:=fun b i h => ⟨h,by unfold World.cell?; rw [f.block b (R.nb b i h)]⟩
  len:=by simp
  shape:=fun id z sz len h => by
   obtain ⟨es,j,s⟩:=zaM h;have c:=zb j;refine .inl ⟨by unfold shapeOf; rw [yb c]; exact h,r id c,fun _ arr t u => ⟨arr,?_,rfl⟩⟩;rw [f.block _ (Array.getElem?_eq_some_iff.1 u).1];exact u
  map:=fun id es h => ⟨r id (zb h),es,by rw [yb (zb h)]; exact h⟩
  tok:=fun t k n h => by
   obtain ⟨sz,fr,j,s⟩:=zcR h;exact ⟨n,zdG (by rw [yb (zb j)]; exact j) s,yf _,fun _ => rfl⟩
  tsz:=fun t sz h => by
   obtain ⟨fr,j⟩:=zeD h;exact zb9 (fr:=fr) (by rw [yb (zb j)]; exact j)
  ow:=hw
  new:=fun b i h _ _ => h
  frame:=fun b l _ => f.block b l }
 refine ⟨H,⟨fun b i h => Nat.lt_of_lt_of_le (R.nb b i h) f.size,fun id x h => ?_⟩⟩
 by_cases c : id < σ.length
 ·rw [yb c] at h
  exact zcS H (r id c) (fun _ => rfl) (fun b l _ => ⟨f.block b l,hw b l,fun _ h => h⟩) (R.ob id x h)
 ·have m : id = σ.length:=by
   have:=zb h;simp at this;omega
  subst m;simp at h;subst h;intro _;have e1 : (g.own σ.length a).ρ σ.length = a:=by simp [G.own]
  have e2 : (g.own σ.length a).ow a = .ob σ.length:=by simp [G.own]
  rw [e1];refine ⟨e2,fun o h => by have:=R.nb _ _ h; omega,cur,t,p,v,H.zca y⟩
end
end Go.A
namespace Go.Proofs
open Go.RowKit
open Go.A in
theorem Tryz.ext_cloneB (args : List V) (σ : zd) (v : V) (σ' : zd) (h : zh6 5 args σ = some (v,σ')) :
  Go.A.Enters Tryz.prog 62 ∧ ∀ g w us,Rel g w σ → zz g w σ args us → Calls Tryz.prog 62 us.toArray w fun e w' => ∃ u g',e = .returned u ∧ zf g' w' σ' v u ∧ Rel g' w' σ' ∧ Ext g w σ g' w' σ':=by
 refine ⟨⟨Tryz.f62,_,Tryz.func62,by kernel_rfl,rfl⟩,fun g w us R0 M => ?_⟩;unfold zh6 at h;split at h
 ·rename_i xs
  split at h
  ·rename_i K
   obtain ⟨n,z,y⟩:=K;injection h with h;simp only [Prod.mk.injEq] at h;obtain ⟨rfl,rfl⟩:=h;simp only [zz,zf,zy] at M;obtain ⟨u,rest,rfl,p,rfl⟩:=M;obtain ⟨a,c,sz,J,rfl,aA,d,D⟩:=znt p fun x u h => zpS h;rcases D with P | ⟨b,o,rfl,l⟩
   ·exact absurd P n
   have S : sz = 5:=by
    have s:=d.2.1
    cases xs with
    | nil => exact absurd rfl n
    | cons x r =>
      simp only [zbO] at s;simp only [zn4,yj,decide_eq_true_eq] at z;rw [← s.1,z.1]
   subst S;unfold LIM at y;have hlen : J.length = xs.length * 5:=d.1;refine Calls.mono (f:=62) (Tryz.clone_block b o xs.length c J w hlen (by unfold maxLen; omega) (by omega) l (zrv (by omega) d)) fun e w' he => ?_;obtain ⟨v,rfl,L,B,O⟩:=he;rcases L.2 with ⟨rfl,hz⟩ | ⟨I,cap,cur,rfl,k,t,r1,r2,r3,R⟩
   ·exact absurd rfl B
   have N : 0 < xs.length:=List.length_pos_iff.2 n;have m:=ziH (σ:=σ) (g:=g) d
   have q : zca g w σ cur 5 (xs.map fun e => e.map C.f):=fun i e U => by
    obtain ⟨q1,W⟩:=m i e U;refine ⟨q1,fun j c X => ?_⟩;obtain ⟨u,Y,Z,k3⟩:=W j c X;refine ⟨u,?_,Z,k3⟩;have E : J[i * 5 + j]? = some u:=(by simpa using Y);rw [← R,List.getElem?_take] at E;split at E
    ·simpa using E
    ·cases E
   obtain ⟨H,Q⟩:=zCi R0 O t k (by rw [ya,r3]; exact Nat.mul_le_mul_right 5 r1) q;refine ⟨_,_,rfl,?_,Q,H⟩;simp only [zf,zy];have e1 : (g.own σ.length I).ρ σ.length = I:=(by simp [G.own]);exact ⟨0,5,xs.length,by simp [shapeOf,Ob.shape],yf _,fun _ => ⟨some ⟨I,0,none⟩,cap,rfl,r1,fun h => by omega,fun h => ⟨by omega,fun _ => by rw [e1],cur,_,by rw [e1]; exact t,by omega⟩⟩,_,_,rfl⟩
  ·cases h
 ·cases h
end Go.Proofs
namespace AC
open Go.A Go.A.Lex
theorem zE0 : zv8 (zDz Go.Proofs.Tryz.prog (zsq Go.Proofs.Tryz.prog)) 0 tab :=
 ⟨zbf _ 0 (by kernel_rfl),zbf _ 16 (by kernel_rfl),zbf _ 32 (by kernel_rfl),zbf _ 48 (by kernel_rfl),zbf _ 64 (by kernel_rfl),zbf _ 80 (by kernel_rfl),zbf _ 96 (by kernel_rfl),zbf _ 112 (by kernel_rfl),zbf _ 128 (by kernel_rfl),zbf _ 144 (by kernel_rfl),zbf _ 160 (by kernel_rfl),zbf _ 176 (by kernel_rfl),zbf _ 192 (by kernel_rfl),zbf _ 208 (by kernel_rfl),zbf _ 224 (by kernel_rfl),zbf _ 240 (by kernel_rfl),zbf _ 256 (by kernel_rfl),trivial⟩
theorem zGu : zw0 Go.Proofs.Tryz.prog (zsq Go.Proofs.Tryz.prog) T:=by
 refine zlY ?_ (zlY ?_ (zlY ?_ (zlY ?_ (zlY ?_ (zCv zE0)))))
 ·exact Go.Proofs.Tryz.ext_cloneB
 ·exact Go.Proofs.Tryz.ext_compact
 ·exact fun args σ v σ' h => zxe (zwa (by kernel_rfl)) Go.Proofs.Tryz.func181 (by kernel_rfl) (by kernel_rfl) args σ v σ' h
 ·exact Go.Proofs.Tryz.ext_sort
 ·exact Go.Proofs.Tryz.ext_sorted
end AC
namespace Go.A
def zhK : List (List Fz → Prop) → List Fz → Prop
 | [],cs => cs = []
 | p :: ps,cs => ∃ a b,cs = a ++ b ∧ p a ∧ zhK ps b
def zsV (P : Program) : List Field → Nat → Nat → Bool
 | [],off,total => off == total
 | f :: fs,off,total => f.offset == off && zsV P fs (off + P.cellsOf f.type) total
def zg5 (P : Program) : Nat → TypeId → Bool
 | 0,_ => false
 | n + 1,t => match P.underlying t with
   | some .bool => P.cellsOf t == 1
   | some (.int _) => P.cellsOf t == 1
   | some (.slice e) => P.cellsOf t == 1 && decide (0 < P.cellsOf e) && zg5 P n e
   | some (.struct fs) => (fs.toList.all fun f => zg5 P n f.type) && zsV P fs.toList 0 (P.cellsOf t)
   | some (.array m e) => zg5 P n e && (P.cellsOf t == m * P.cellsOf e)
   | _ => false
theorem mapM_some {α β : Type} {f : α → Option β} : ∀ {l : List α} {ys : List β},l.mapM f = some ys → ys.length = l.length ∧ ∀ (i : Nat) (x : α),l[i]? = some x → ∃ y,ys[i]? = some y ∧ f x = some y
 | [],ys,h => by
   simp at h;subst h;exact ⟨rfl,fun i x c => by simp at c⟩
 | a :: l,ys,h => by
   rw [List.mapM_cons] at h
   cases d : f a with
   | none => simp [d] at h
   | some b =>
     cases e : l.mapM f with
     | none => simp [d,e] at h
     | some zs =>
       simp [d,e] at h;subst h;obtain ⟨g,j⟩:=mapM_some e;refine ⟨by simp [g],fun i x c => ?_⟩
       cases i with
       | zero => simp at c; subst c; exact ⟨b,by simp,d⟩
       | succ i => simpa using j i x (by simpa using c)
theorem zoO {α : Type} {p : Nat → α → Prop} : ∀ (n : Nat),(∀ i,i < n → ∃ x,p i x) → ∃ xs : List α,xs.length = n ∧ ∀ i x,xs[i]? = some x → p i x
 | 0,_ => ⟨[],rfl,fun i x h => by simp at h⟩
 | n + 1,h => by
   obtain ⟨xs,b,f⟩:=zoO n fun i c => h i (by omega);obtain ⟨x,d⟩:=h n (by omega);refine ⟨xs ++ [x],by simp [b],fun i y a => ?_⟩;rw [yh] at a;split at a
   ·exact f i y a
   ·rename_i c
    have:=zb a;simp at this;have e : i = n:=(by omega);subst e;rw [b] at a;simp at a;rw [← a];exact d
section
variable {H : Type} {enc : TypeId × Value → H} {P : Program} {w : World}
def zrC (w : World) : zgd:=fun b _ => b < w.heap.size
def zfy (w : World) (xs : List Fz) (cs : List Value) : Prop:=xs.length = cs.length ∧ ∀ (j : Nat) (x : Fz) (u : Value),xs[j]? = some x → cs[j]? = some u → rep w (zrC w) x u
theorem zfy.append {xs ys : List Fz} {cs ds : List Value} (h : zfy w xs cs) (k : zfy w ys ds) : zfy w (xs ++ ys) (cs ++ ds):=by
 refine ⟨by simp [h.1,k.1],fun j x u a hu => ?_⟩;rw [yh] at a hu;have:=h.1;split at a
 ·rw [if_pos (by omega)] at hu; exact h.2 j x u a hu
 ·rw [if_neg (by omega)] at hu; rw [h.1] at a; exact k.2 _ x u a hu
theorem zfy.one {x : Fz} {u : Value} (h : rep w (zrC w) x u) : zfy w [x] [u] :=
 ⟨rfl,fun j y v a b => by
  cases j with
  | zero => simp at a b; rw [← a,← b]; exact h
  | succ j => simp at a⟩
end
end Go.A
namespace Go.A
open Go.RowKit
def G0 (w : World) : G:=⟨fun _ => 0,fun _ _ => undef,fun _ => .no,zrC w⟩
theorem zGs (w : World) : Rel (G0 w) w []:=⟨fun _ _ h => h,fun id o h => by simp at h⟩
def zkY (P : Program) (t : TypeId) : Bool:=match P.underlying t with
 | some (.struct _) | some (.array _ _) => true
 | _ => false
def zoa (agg : Bool) (xs : List Fz) : V:=if agg then zAN xs else .one (.f (xs.headD (.lit undef)))
section
variable {H : Type} {enc : TypeId × Value → H} {P : Program} {w : World}
theorem zxM {C : zae} (S : zhg P C) {f : Nat} {args : List V} {us : List Value} {b : Bool} (d : C f args [] = some (zjm b,[])) (c : zz (G0 w) w [] args us) :
  Calls P f us.toArray w fun e w' => e = .returned (.bool b) ∧ Below w.heap.size w w':=by
 obtain ⟨_,h⟩:=S f args [] (zjm b) [] d;refine (h (G0 w) w us (zGs w) c).mono fun e w' he => ?_;obtain ⟨u,g',rfl,a,_,H⟩:=he;obtain ⟨rfl,_⟩:=zM a;exact ⟨rfl,H.os,H.tape,H.output,H.size,fun k g => H.frame k g rfl⟩
end
end Go.A
namespace Go.A
open Go.RowKit Go.ChangeShapes
section
variable {H : Type} {enc : TypeId × Value → H} {P : Program}
theorem zw5 {f : Func} {s : ChangeSpec} {apart fresh handsOn again : Bool} {W h : World} {args : Array Value} {v : Value} {ds gs : List (DataW H)} {before : List MemPlace}
  (k : DataW.Whole enc P f.params.toList s.vars apart W args.toList ds gs before) (m : Below W.heap.size W h) (o : s.vars = [])
  (e : ∀ (b : Nat) (sp : Nat → Bool) (hd : Bool),DataW.TrodAll enc P h b sp hd f.resultTypes.toList (v.resultList f.resultTypes.size) (s.fn H (ds ++ gs)).results [])
  (c : ∀ sp : Nat → Bool,(∀ p ∈ before,sp p.block = true) → DataW.TrodAll enc P h 0 sp true f.params.toList args.toList (s.fn H (ds ++ gs)).args before)
  (g : (s.fn H (ds ++ gs)).vars = [])
  (l : ∀ (j : Nat) (t : TypeId) (r : Value),f.resultTypes[j]? = some t → (v.resultList f.resultTypes.size)[j]? = some r → Value.okWide P h .any 0 t r) :
  s.post enc P f apart fresh handsOn again W args v h:=by
 have inside : ∀ x ∈ before,x.block < W.heap.size:=k.lt;have i : ∀ x ∈ before,(fun b => decide (b < W.heap.size)) x.block = true:=fun x d => decide_eq_true (inside x d);have n : ∀ sp : Nat → Bool,DataW.TrodVars enc P h sp s.vars (s.fn H (ds ++ gs)).vars []:=fun sp => by rw [o,g]; rfl
 have whole:=k;obtain ⟨_,_,_,_,_,a,once⟩:=k;refine ⟨ds,gs,before,[],before,[],whole,e _ _ _,c _ i,n _,World.keptBut_mono (fun x d => ⟨d,.inr (by simpa using d)⟩) (m.frame _),fun _ => ⟨l,_,_,before,⟨before,[],trodAll_append (c _ fun _ _ => rfl) (e _ _ _),n _,by simp,fun b off d => ?_,once⟩,fun x d _ => by simpa using d⟩⟩;rw [m.frozen (p:=⟨b,off,none⟩) (inside _ d)];exact a b off d
end
section
variable {H : Type} {enc : TypeId × Value → H} {P : Program}
end
end Go.A
namespace AC
open Go Go.A Go.Proofs
set_option maxRecDepth 100000
theorem mixed : Tryz.prog.follows .mixedOrders = true:=by kernel_rfl
theorem zDB : zhg Tryz.prog (call T):=sound (zwa mixed) zGu
end AC
namespace Go.Proofs.YtmkncmffaaninaaGreat
open Go.ChangeShapes Go.WideShapes Go.ChangeAt Go.RowKit Go.A
theorem Tryz.own : ownKnob Tryz.prog.godebug = none:=by kernel_rfl
theorem Tryz.laidOut : laidOutB Tryz.prog = true:=by kernel_rfl
end Go.Proofs.YtmkncmffaaninaaGreat
